import Derived.Test.YtckpgbkbbdifmaaHeap3
import Derived.WalkKit
import Derived.ProofKit
import Derived.Below
import Derived.WalkLawsBesides
import Derived.Deep.QuietTactic
import Derived.BigQuiet
import Derived.StillTailTactics
import Derived.Deep.AppendLies
import Derived.Deep.RegionHeld3
import Derived.KernelRfl
import Derived.BigRegion
import Derived.WalkSpells
import Derived.Deep.Slices
import Derived.Deep.Fields
import Derived.ChangeSame
import Derived.Deep.RegionLaw
import Derived.Deep.DrawnRows
namespace Go.Proofs.Ytckpgbkbbdifmaa.Ep
open Go Go.RowKit Go.Proofs.YtckpgbkbbdifmaaW.PrintWords Go.Proofs.YtckpgbkbbdifmaaW.PrintLast Go.Proofs.YtckpgbkbbdifmaaW.PrintMore 
set_option linter.unusedVariables false
set_option linter.unusedSimpArgs false
def HPushP (w : World) (base bd g : Nat) (V : Value) (l : List En) (x : En) (e : Ending) (w' : World) : Prop := ∃ V' l', e = .returned (.tuple #[]) ∧ PN w' base bd g V' l'.length l' ∧ PF base g V.ownBlock w w' ∧ Ow V.ownBlock V'.ownBlock w ∧ l'.Perm (l ++ [x]) ∧ Heap En.key l' l'.length
set_option maxHeartbeats 4000000 in
set_option maxRecDepth 100000 in
theorem hpush_ (w : World) (base bd g : Nat) (V : Value) (l : List En) (x : En) (h : PN w base bd g V l.length l) (hh : Heap En.key l l.length) (hx : EM w base bd x) (hxn : x.xs ≠ []) (hn : l.length < 70000) (hb : base ≤ w.heap.size) :
    Calls Try.prog 23 #[.iface 36 (.pointer (some ⟨g, 0, none⟩)), .iface 22 x.v] w (HPushP w base bd g V l x) := by
  have hmp := meth_push ⟨g, 0, none⟩ w
  have HHp := Aside0.mk hh
  clear hh
  go_enter Try.func23, Try.ntmps23
  have hjn7 : (l ++ [x]).length ≤ 70000 := by simp; omega
  have HU : Aside0 (UpH En.key (l ++ [x]) (l ++ [x]).length l.length) := ⟨by rw [List.length_append]; exact heap_push En.key HHp.out x⟩
  obtain ⟨n1, hn1⟩ : ∃ n1, (l ++ [x]).length = n1 := ⟨_, rfl⟩
  have hl1 : l.length + 1 = n1 := by rw [← hn1]; simp
  rw [hn1] at HU hjn7
  have q1 : (n1 : Int) - 1 = (l.length : Int) := by omega
  have q2 : IntKind.i64.wrap ((n1 : Int) - 1) = (l.length : Int) := by rw [IntKind.wrap_i64]; omega
  have HN1 := Aside0.mk hn1
  have hjn : l.length < n1 := by omega
  clear hn1 hl1
  go_wp2_with (first
    | (go_at_call 50; (with_reducible refine (lpush_ _ base bd g V l x h hx hxn (by omega) hb).mono ?_); rintro e w1 ⟨V1, rfl, P1, F1, O1⟩; obtain ⟨ga, cap, rfl, hm⟩ := P1.hm (by simp); rw [HN1.out] at hm; have hml := meth_len ⟨g, 0, none⟩ w1 _ hm.hd; have hb1 : base ≤ w1.heap.size := Nat.le_trans hb F1.below.size)
    | (go_at_call 19; (with_reducible refine (len_ _ _ n1 cap).mono ?_); rintro e w' ⟨rfl, rfl⟩)
    | (go_at_call 27; (with_reducible refine (up_ _ ⟨g, 0, none⟩ base ga n1 cap bd (l ++ [x]) l.length hm hjn hjn7 HU.out).mono ?_); rintro e w2 ⟨l', rfl, H2, G2, PP, HP⟩))
  go_end0
  have P1' : PN w1 base bd g (.slice (some ⟨ga, 0, none⟩) (l ++ [x]).length cap) (l ++ [x]).length (l ++ [x]) := P1
  have hlen := H2.len
  have hres := PN.of_hm P1' (by rw [HN1.out]; exact H2) G2 hb1
  exact ⟨.slice (some ⟨ga, 0, none⟩) l'.length cap, l', rfl, by have h9 := hres.1; rw [hlen] at h9 ⊢; exact h9, F1.trans O1 hres.2, O1, PP, by rw [hlen]; exact HP⟩
theorem up0_ (w : World) (p : Addr) : Calls Try.prog 27 #[.iface 36 (.pointer (some p)), .int .i64 0] w fun e w' => e = .returned (.tuple #[]) ∧ w = w' := by
  have hq : Int.tdiv (-1) 2 = 0 := by decide
  go_enter Try.func27, Try.ntmps27
  go_wp2
  go_loopg [1] 1 (fun kq v1 w' => v1 = .int .i64 0 ∧ Aside0 (w = w'))
  case atStart => exact ⟨rfl, ⟨rfl⟩⟩
  case round =>
    obtain ⟨rfl, HW⟩ := hrel
    go_wp2
    go_end0
    exact ⟨rfl, HW.out⟩
def HRemP (w : World) (base bd g : Nat) (V : Value) (rest : List En) (e : Ending) (w' : World) : Prop := ∃ V' l' x, e = .returned x ∧ PN w' base bd g V' l'.length l' ∧ PF base g V.ownBlock w w' ∧ Ow V.ownBlock V'.ownBlock w ∧ l'.Perm rest ∧ Heap En.key l' l'.length
theorem downH_swp {l : List En} {m : Nat} (h : DownH En.key l (m + 1) 0) (hl : l.length = m + 1) : DownH En.key (swp l 0 m) m 0 := by
  have hk := swp_key En.key (l := l) (i := 0) (j := m) (by omega) (by omega)
  refine ⟨fun k hkn hk0 hne => ?_, fun h0 => by omega⟩
  rw [hk, hk, if_neg hne, if_neg (by omega), if_neg (by omega), if_neg (by omega)]
  exact h.1 k (by omega) hk0 hne
set_option maxHeartbeats 4000000 in
set_option maxRecDepth 100000 in
theorem hrem_ (w : World) (base bd g : Nat) (V : Value) (e0 : En) (rest : List En) (h : PN w base bd g V 0 (e0 :: rest)) (hd : DownH En.key (e0 :: rest) (rest.length + 1) 0) (hne : ∀ e ∈ rest, e.xs ≠ []) (hn : rest.length < 70000) (hb : base ≤ w.heap.size) :
    Calls Try.prog 24 #[.iface 36 (.pointer (some ⟨g, 0, none⟩)), .int .i64 0] w (HRemP w base bd g V rest) := by
  obtain ⟨ga, cap, rfl, hm⟩ := h.hm (by simp)
  obtain ⟨m, hlm⟩ : ∃ m, rest.length = m := ⟨_, rfl⟩
  obtain ⟨n1, hn1⟩ : ∃ n1, (e0 :: rest).length = n1 := ⟨_, rfl⟩
  have hnm : n1 = m + 1 := by rw [← hn1, ← hlm]; rfl
  rw [hn1] at hm
  have hml := meth_len ⟨g, 0, none⟩ w _ hm.hd
  have hms := meth_swap ⟨g, 0, none⟩ w _ hm.hd
  have hmp := meth_pop ⟨g, 0, none⟩ w
  have q1 : (n1 : Int) - 1 = (m : Int) := by omega
  have q2 : IntKind.i64.wrap ((n1 : Int) - 1) = (m : Int) := by rw [IntKind.wrap_i64]; omega
  rw [hlm] at hd
  have HD := Aside0.mk hd
  have HN1 := Aside0.mk hn1
  have HLM := Aside0.mk hlm
  have HNE := Aside0.mk hne
  have hmn : m < n1 := by omega
  have h0n : 0 < n1 := by omega
  have hn7 : n1 ≤ 70000 := by omega
  by_cases hm0 : m = 0
  · have t1 : ((m : Int) != 0) = false := by subst hm0; rfl
    have hrest : rest = [] := List.eq_nil_of_length_eq_zero (by rw [hlm]; exact hm0)
    have P4 : PN w base bd g (.slice (some ⟨ga, 0, none⟩) (e0 :: rest).length cap) 0 ([] ++ [e0]) := by rw [hrest] at h ⊢; exact h
    have HV : Aside0 (PN w base bd g (.slice (some ⟨ga, 0, none⟩) (e0 :: rest).length cap) 0 ([] ++ [e0])) := ⟨P4⟩
    have HR := Aside0.mk hrest
    clear hd hn1 hlm hne hnm hm0 hrest P4
    go_enter Try.func24, Try.ntmps24
    go_wp2_with (first
      | (go_at_call 19; (with_reducible refine (len_ _ _ n1 cap).mono ?_); rintro e w' ⟨rfl, rfl⟩)
      | (go_at_call 49; (with_reducible refine (lpop_ _ base bd g _ [] e0 0 HV.out (Nat.le_refl _) (by simp) hb).mono ?_); rintro e w4 ⟨V4, rfl, P5, F5, O5⟩))
    go_ret
    exact ⟨V4, [], _, rfl, P5, F5, .inl O5, by rw [HR.out], fun k hk => by simp at hk⟩
  · have t1 : ((m : Int) != 0) = true := bne_iff_ne.mpr (by omega)
    have HDS : Aside0 (DownH En.key (swp (e0 :: rest) 0 m) m 0) := ⟨downH_swp hd (by rw [hn1, hnm])⟩
    have HNS : Aside0 (NE (swp (e0 :: rest) 0 m) m) := ⟨fun k e hk he => by
      have hl : (e0 :: rest).length = m + 1 := by rw [hn1, hnm]
      rw [swp_get (by omega) (by omega)] at he
      split at he
      · refine hne e ?_
        obtain ⟨m', rfl⟩ : ∃ m', m = m' + 1 := ⟨m - 1, by omega⟩
        rw [List.getElem?_cons_succ] at he
        exact List.mem_of_getElem? he
      · rw [if_neg (by omega)] at he
        refine hne e ?_
        obtain ⟨k', rfl⟩ : ∃ k', k = k' + 1 := ⟨k - 1, by omega⟩
        rw [List.getElem?_cons_succ] at he
        exact List.mem_of_getElem? he⟩
    clear hd hn1 hlm hne hnm
    go_enter Try.func24, Try.ntmps24
    go_wp2_with (first
      | (go_at_call 19; (with_reducible refine (len_ _ _ n1 cap).mono ?_); rintro e w' ⟨rfl, rfl⟩)
      | (go_at_call 51; (with_reducible refine (swap_x _ ⟨g, 0, none⟩ base ga n1 cap bd 0 m (e0 :: rest) 0 m 0 (m : Int) rfl rfl hm h0n hmn HNS.out).mono ?_); rintro e w2 ⟨rfl, H2, G2⟩)
      | (go_at_call 28; (with_reducible refine (down_ _ ⟨g, 0, none⟩ base ga n1 cap bd m (swp (e0 :: rest) 0 m) H2 (by omega) h0n hn7 HDS.out).mono ?_); rintro e w3 ⟨l', b3, rfl, H3, G3, PP3, HP3, T3, Z3⟩; have hmp3 := meth_pop ⟨g, 0, none⟩ w3; have P3 := PN.of_hm h (by rw [HN1.out]; exact H3) (World.grownBy.trans G2 G3) hb; obtain ⟨x, hx1, hx2⟩ := list_snoc l' m (by have := H3.len; omega); have P4 := P3.1; rw [hx1] at P4; have hlt : (l'.take m).length = m := (by have := H3.len; rw [List.length_take]; omega); have HT := Aside0.mk hlt; have HX1 := Aside0.mk hx1; have HX2 := Aside0.mk hx2; have HP4 := Aside0.mk P4; have HZ3 := Aside0.mk Z3; have HT3 := Aside0.mk T3; clear hlt hx1 hx2 P4 Z3 T3; cases b3)
      | (go_at_call 27; (with_reducible refine (up0_ _ _).mono ?_); rintro e w' ⟨rfl, rfl⟩)
      | (go_at_call 49; (with_reducible refine (lpop_ _ base bd g _ (l'.take m) x m HP4.out (by rw [HT.out]; exact Nat.le_refl _) (by rw [HT.out]; omega) (Nat.le_trans hb P3.2.below.size)).mono ?_); rintro e w4 ⟨V4, rfl, P5, F5, O5⟩))
    all_goals
      go_ret
      have hl : (e0 :: rest).length = m + 1 := by rw [HN1.out]; omega
      have hxe : x = e0 := by
        have h1 := HT3.out m (Nat.le_refl _)
        rw [HX2.out, swp_get (by omega) (by omega), if_neg hm0, if_pos rfl] at h1
        injection h1
      have hperm : (l'.take m).Perm rest := by
        have h1 : (l'.take m ++ [x]).Perm (e0 :: rest) := by
          rw [← HX1.out]; exact PP3.trans (swp_perm (by omega) (by omega))
        rw [hxe] at h1
        exact (List.perm_cons e0).1 ((List.perm_append_comm (l₁ := [e0]) (l₂ := l'.take m)).trans h1)
      exact ⟨V4, l'.take m, _, rfl, P5, P3.2.trans (.inl rfl) F5, .inl O5, hperm, by rw [HT.out]; exact heap_take En.key HP3⟩
def HFixP (w : World) (base bd g : Nat) (V : Value) (l : List En) (e : Ending) (w' : World) : Prop := ∃ V' l', e = .returned (.tuple #[]) ∧ PN w' base bd g V' l'.length l' ∧ PF base g V.ownBlock w w' ∧ Ow V.ownBlock V'.ownBlock w ∧ l'.Perm l ∧ Heap En.key l' l'.length
set_option maxHeartbeats 4000000 in
set_option maxRecDepth 100000 in
theorem hfix_ (w : World) (base bd g : Nat) (V : Value) (l : List En) (h : PN w base bd g V l.length l) (h0 : 0 < l.length) (hd : DownH En.key l l.length 0) (hn : l.length ≤ 70000) (hb : base ≤ w.heap.size) :
    Calls Try.prog 25 #[.iface 36 (.pointer (some ⟨g, 0, none⟩)), .int .i64 0] w (HFixP w base bd g V l) := by
  obtain ⟨ga, cap, rfl, hm⟩ := h.hm h0
  obtain ⟨n1, hn1⟩ : ∃ n1, l.length = n1 := ⟨_, rfl⟩
  have HP := Aside0.mk h
  rw [hn1] at hm hd h0 hn
  have hml := meth_len ⟨g, 0, none⟩ w _ hm.hd
  have HD := Aside0.mk hd
  have HN1 := Aside0.mk hn1
  clear hd hn1 h
  go_enter Try.func25, Try.ntmps25
  go_wp2_with (first
    | (go_at_call 19; (with_reducible refine (len_ _ _ n1 cap).mono ?_); rintro e w' ⟨rfl, rfl⟩)
    | (go_at_call 28; (with_reducible refine (down_ _ ⟨g, 0, none⟩ base ga n1 cap bd n1 l hm (Nat.le_refl _) h0 hn HD.out).mono ?_); rintro e w3 ⟨l', b3, rfl, H3, G3, PP3, HP3, T3, Z3⟩; have HZ3 := Aside0.mk Z3; have HT3 := Aside0.mk T3; clear Z3 T3; cases b3)
    | (go_at_call 27; (with_reducible refine (up0_ _ _).mono ?_); rintro e w' ⟨rfl, rfl⟩))
  all_goals
    go_end0
    have P3 := PN.of_hm HP.out (by rw [HN1.out]; exact H3) G3 hb
    have hl := H3.len
    exact ⟨.slice (some ⟨ga, 0, none⟩) l'.length cap, l', rfl, by have h9 := P3.1; rw [hl] at h9 ⊢; exact h9, P3.2, Ow.refl _ _, PP3, by rw [hl]; exact HP3⟩
def EL (l : List En) (x : Int) : Prop := ∃ e ∈ l, x ∈ e.xs
def SR (l : List En) : Prop := ∀ e ∈ l, e.xs.Pairwise (· < ·)
def tot (l : List En) : Nat := (l.map fun e => e.xs.length).sum
theorem EL.perm {l l' : List En} (h : l'.Perm l) (x : Int) : EL l' x ↔ EL l x := ⟨fun ⟨e, he, hx⟩ => ⟨e, h.subset he, hx⟩, fun ⟨e, he, hx⟩ => ⟨e, h.symm.subset he, hx⟩⟩
theorem SR.perm {l l' : List En} (h : l'.Perm l) (hs : SR l) : SR l' := fun e he => hs e (h.subset he)
theorem tot_perm {l l' : List En} (h : l'.Perm l) : tot l' = tot l := (h.map _).sum_nat
theorem EL_cons (e : En) (l : List En) (x : Int) : EL (e :: l) x ↔ x ∈ e.xs ∨ EL l x := by
  unfold EL; simp
theorem tot_cons (e : En) (l : List En) : tot (e :: l) = e.xs.length + tot l := by unfold tot; simp
theorem key_le {e : En} (hs : e.xs.Pairwise (· < ·)) (x : Int) (hx : x ∈ e.xs) : e.key ≤ x := by
  obtain ⟨v, xs⟩ := e
  cases xs with
  | nil => cases hx
  | cons y ys =>
    rcases List.mem_cons.1 hx with rfl | h
    · exact Int.le_refl _
    · exact Int.le_of_lt ((List.pairwise_cons.1 hs).1 x h)
theorem heap_key {l : List En} (h : Heap En.key l l.length) (e : En) (he : e ∈ l) : kAt En.key l 0 ≤ e.key := by
  obtain ⟨k, hk, hq⟩ := List.getElem_of_mem he
  have h1 := heap_min En.key h k hk
  rwa [kAt_eq (i := k) (e := e) (by rw [List.getElem?_eq_getElem hk, hq])] at h1
theorem heap_all {l : List En} (h : Heap En.key l l.length) (hs : SR l) (x : Int) (hx : EL l x) : kAt En.key l 0 ≤ x := by
  obtain ⟨e, he, hx⟩ := hx
  exact Int.le_trans (heap_key h e he) (key_le (hs e he) x hx)
theorem kAt_cons0 (e : En) (l : List En) : kAt En.key (e :: l) 0 = e.key := rfl
theorem downH_set0 {e e' : En} {l : List En} {n : Nat} (h : Heap En.key (e :: l) n) : DownH En.key (e' :: l) n 0 := by
  have hk : ∀ k, 0 < k → kAt En.key (e' :: l) k = kAt En.key (e :: l) k := fun k hk => by
    obtain ⟨m, rfl⟩ : ∃ m, k = m + 1 := ⟨k - 1, by omega⟩
    unfold kAt; rw [List.getElem?_cons_succ, List.getElem?_cons_succ]
  refine ⟨fun k hkn hk0 hne => ?_, fun h0 => absurd h0 (by omega)⟩
  rw [hk _ (by omega), hk k hk0]; exact h k hkn hk0
theorem PN.set0 {w : World} {base bd g ga n cap N N' : Nat} {e0 e1 : En} {rest : List En} (h : PN w base bd g (.slice (some ⟨ga, 0, none⟩) n cap) N (e0 :: rest)) (hn : n = rest.length + 1) (hb : base ≤ w.heap.size) (he : EM w base bd e1) (hne : NE (e1 :: rest) N') :
    PN (w.setCell ⟨ga, 0, none⟩ e1.v) base bd g (.slice (some ⟨ga, 0, none⟩) n cap) N' (e1 :: rest) ∧ PF base g (some ga) w (w.setCell ⟨ga, 0, none⟩ e1.v) ∧ w.frozen? ⟨ga, 0, none⟩ = false := by
  have hrow := h.row
  rw [show (e0 :: rest).length = n from hn.symm] at hrow
  have hs := hrow.stored 0 e1.v
  have hg := hs.2
  have hpb : g ≠ ga := fun e => h.ne_row (by rw [e]; rfl)
  obtain ⟨cur, hty⟩ := own_type hrow (b := ga) rfl
  refine ⟨⟨h.ge, (hg.block g h.size (fun e => hpb (by injection e))).trans h.obj, by rw [show (e1 :: rest).length = n from hn.symm]; exact hs.1, fun e hel => ?_, hne⟩, PF.grown hg hb (hrow.lt ga rfl).1, hrow.frozenAt 0⟩
  have hee : EM w base bd e := by
    rcases List.mem_cons.1 hel with rfl | hel
    · exact he
    · exact h.els e (List.mem_cons_of_mem _ hel)
  exact hee.keep fun k cur2 hk => hg.block k (Array.getElem?_eq_some_iff.1 hk).1 (fun e2 => by
    injection e2 with e2; subst e2
    rw [hty] at hk; injection hk with hk; injection hk with _ hk; cases hk)
structure NX (w w' : World) (base bd g : Nat) (V V' : Value) (l l' : List En) : Prop where
  pn : PN w' base bd g V' l'.length l'
  pf : PF base g V.ownBlock w w'
  ow : Ow V.ownBlock V'.ownBlock w
  hh : Heap En.key l' l'.length
  sr : SR l'
  len : l'.length ≤ l.length
def NextP (w : World) (base bd g : Nat) (V : Value) (l : List En) (e : Ending) (w' : World) : Prop := ∃ V' l' n, e = .returned (.int .i64 n) ∧ NX w w' base bd g V V' l l' ∧ tot l' < tot l ∧ (∀ x, EL l' x ↔ EL l x ∧ x ≠ n) ∧ (∀ x, EL l x → n ≤ x) ∧ EL l n
theorem NextP.mk {w w' : World} {base bd g : Nat} {V V' : Value} {l l' : List En} {n : Int} {e : Ending} (he : e = .returned (.int .i64 n)) (h : NX w w' base bd g V V' l l') (ht : l' = l ∨ tot l' < tot l) (hk : l' ≠ [] → kAt En.key l' 0 ≠ n) (hm : ∀ x, (EL l' x ∨ x = n) ↔ EL l x) (hmin : ∀ x, EL l x → n ≤ x) (hl : l ≠ []) (h0 : kAt En.key l 0 = n) : NextP w base bd g V l e w' := by
  have hnot : ¬ EL l' n := fun hx => by
    have h1 := heap_all h.hh h.sr n hx
    have hne : l' ≠ [] := fun e => by obtain ⟨e2, he2, _⟩ := hx; rw [e] at he2; cases he2
    have h2 := hk hne
    have h3 : n ≤ kAt En.key l' 0 := by
      cases l' with
      | nil => exact absurd rfl hne
      | cons e0 rest =>
        have hn0 := h.pn.ne 0 e0 (by simp) rfl
        refine hmin _ ((hm _).1 (.inl ⟨e0, List.mem_cons_self, ?_⟩))
        show e0.key ∈ e0.xs
        obtain ⟨v, xs⟩ := e0
        cases xs with
        | nil => exact absurd rfl hn0
        | cons y ys => exact List.mem_cons_self
    omega
  refine ⟨V', l', n, he, h, ?_, fun x => ⟨fun hx => ⟨(hm x).1 (.inl hx), fun e => hnot (e ▸ hx)⟩, fun hx => ?_⟩, hmin, (hm n).1 (.inr rfl)⟩
  · rcases ht with rfl | ht
    · exact absurd h0 (hk hl)
    · exact ht
  · rcases (hm x).2 hx.1 with h1 | h1
    · exact h1
    · exact absurd h1 hx.2
end Go.Proofs.Ytckpgbkbbdifmaa.Ep
