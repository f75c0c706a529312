import Derived.Test.YtckpgbkbbdifmaaHeap4
import Derived.WalkKit
import Derived.ProofKit
import Derived.Below
import Derived.WalkLawsBesides
import Derived.Deep.QuietTactic
import Derived.BigQuiet
import Derived.StillTailTactics
import Derived.Deep.AppendLies
import Derived.Deep.RegionHeld3
import Derived.KernelRfl
import Derived.BigRegion
import Derived.WalkSpells
import Derived.Deep.Slices
import Derived.Deep.Fields
import Derived.ChangeSame
import Derived.Deep.RegionLaw
import Derived.Deep.DrawnRows
namespace Go.Proofs.Ytckpgbkbbdifmaa.Ep
open Go Go.RowKit Go.Proofs.YtckpgbkbbdifmaaW.PrintWords Go.Proofs.YtckpgbkbbdifmaaW.PrintLast Go.Proofs.YtckpgbkbbdifmaaW.PrintMore 
set_option linter.unusedVariables false
set_option linter.unusedSimpArgs false
theorem info3_ : (Try.prog.info? 3).map (fun i => (i.zero, i.size, i.bytes)) = some (some (.int .i64 0), 1, 8) := by kernel_rfl
theorem PF.drewR {base g : Nat} {R : Option Nat} {a b : World} (h : PF base g R a b) : PF base g R a b.drew := ⟨below_drew1 h.below, fun k o hk h1 h2 => h.others k o hk h1 h2⟩
theorem Ow.drewL {R R' : Option Nat} {w : World} {p : Addr} {u : Value} {g : Nat} (h : Ow R R' (w.setCell p u).drew) (_ : g < (w.setCell p u).drew.heap.size) : Ow R R' w := by
  have e : (w.setCell p u).drew.heap.size = w.heap.size := by simp [World.setCell]
  rcases h with h | ⟨b, h, hb⟩
  · exact .inl h
  · exact .inr ⟨b, h, by omega⟩
set_option maxHeartbeats 8000000 in
set_option maxRecDepth 100000 in
theorem next_ (w : World) (base bd g : Nat) (V : Value) (l : List En) (h : PN w base bd g V l.length l) (hh : Heap En.key l l.length) (hs : SR l) (h0 : l ≠ []) (hn : l.length ≤ 60000) (hb : base ≤ w.heap.size) :
    Calls Try.prog 20 #[.pointer (some ⟨g, 0, none⟩)] w (NextP w base bd g V l) := by
  obtain ⟨nn, hnn⟩ : ∃ nn, kAt En.key l 0 = nn := ⟨_, rfl⟩
  have hlp : 0 < l.length := List.length_pos_iff.2 h0
  obtain ⟨ga, cap, hV, hm⟩ := h.hm hlp
  obtain ⟨e0, hl0, hem, hc0⟩ := hm.get 0 hlp
  obtain ⟨gb, ob, c0, hv0, hlc0, -, hd0⟩ := hem.head (h.ne 0 e0 hlp hl0)
  have hp0 : 0 < e0.xs.length := List.length_pos_iff.2 (h.ne 0 e0 hlp hl0)
  have hkn : e0.key = nn := by rw [← hnn, kAt_eq hl0]
  have hcg := h.cell
  rw [hV] at hcg
  rw [hv0] at hc0
  rw [hkn] at hd0
  have HNN := Aside0.mk hnn
  have HMIN : Aside0 (∀ x, EL l x → nn ≤ x) := ⟨fun x hx => by rw [← hnn]; exact heap_all hh hs x hx⟩
  have HX : Aside0 (NX w w base bd g V V l l) := ⟨⟨h, PF.refl _ _ _ _, Ow.refl _ _, hh, hs, Nat.le_refl _⟩⟩
  have HEL : Aside0 (∀ x, (EL l x ∨ x = nn) ↔ EL l x) := ⟨fun x => ⟨fun hx => by
    rcases hx with hx | rfl
    · exact hx
    · refine ⟨e0, List.mem_of_getElem? hl0, ?_⟩
      rw [← hkn]
      show e0.xs.headD 0 ∈ e0.xs
      cases hx0 : e0.xs with
      | nil => rw [hx0] at hp0; exact absurd hp0 (by simp)
      | cons y ys => exact List.mem_cons_self, .inl⟩⟩
  have H0 := Aside0.mk h0
  generalize e0.xs.length = m0 at *
  have q0 : (0 : Int) < (m0 : Int) := by omega
  have q1 : (0 : Int) < (l.length : Int) := by omega
  clear h hh hs hnn hV hm hem hkn hl0 hlc0 h0 hv0
  go_enter Try.func20, Try.ntmps20
  go_wp2
  clear hcg hc0 hd0 hp0 q0 q1
  go_loopg [] (tot l + 1) (fun kq w' => ∃ (l' : List En) (V' : Value), Aside0 (tot l' + 1 ≤ kq) ∧ Aside0 (NX w w' base bd g V V' l l') ∧ Aside0 (l' = l ∨ tot l' < tot l) ∧ Aside0 (∀ x, (EL l' x ∨ x = nn) ↔ EL l x))
  case atStart => exact ⟨l, V, ⟨Nat.le_refl _⟩, HX, ⟨.inl rfl⟩, HEL⟩
  case round =>
    clear HX HEL
    obtain ⟨l', V', HK, HX, HT, HEL⟩ := hrel
    cases l' with
    | nil =>
      obtain ⟨A', cap', hV'⟩ := own_form2 HX.out.pn.row
      have hcg := HX.out.pn.cell
      rw [hV', show ([] : List En).length = 0 from rfl] at hcg
      clear hV'
      go_wp2_with (go_at_call 19; (with_reducible refine (len_ _ _ 0 cap').mono ?_); rintro e w' ⟨rfl, rfl⟩)
      go_ret
      exact NextP.mk rfl HX.out HT.out (fun e => absurd rfl e) HEL.out HMIN.out H0.out HNN.out
    | cons e1 rest =>
      obtain ⟨ga1, cap1, hV', hm⟩ := HX.out.pn.hm (by simp)
      subst hV'
      obtain ⟨e1', hl1, hem, hc1⟩ := hm.get 0 (by simp)
      obtain rfl : e1 = e1' := by injection hl1
      have hne1 := HX.out.pn.ne 0 e1 (by simp) rfl
      obtain ⟨gb1, ob1, c1, hv1, hlc1, hcm1, hd1⟩ := hem.head hne1
      have hcg := HX.out.pn.cell
      obtain ⟨N1, hN1⟩ : ∃ N1, (e1 :: rest).length = N1 := ⟨_, rfl⟩
      have hN1' : N1 = rest.length + 1 := hN1.symm
      have hp1 : 0 < e1.xs.length := List.length_pos_iff.2 hne1
      obtain ⟨m1, hm1⟩ : ∃ m1, e1.xs.length = m1 := ⟨_, rfl⟩
      rw [hm1] at hv1 hlc1 hp1
      rw [hN1] at hcg
      have hlen1 : N1 ≤ 60000 := by rw [← hN1]; exact Nat.le_trans HX.out.len hn
      have q0 : (0 : Int) < (m1 : Int) := by omega
      have q1 : (0 : Int) < (N1 : Int) := by omega
      rw [hv1] at hc1
      by_cases hkk : e1.key = nn
      · rw [hkk] at hd1
        have t1 : (nn == nn) = true := by simp
        obtain ⟨i0, hi0, hz0, hz1, hz2⟩ := info_parts info3_
        have hct := cut_from (P := Try.prog) 22 3 .i64 Try.underlying22 hi0 1 hz1 (some ⟨gb1, ob1, none⟩) m1 c1 1 (by decide) (by omega)
        rw [show (1 : Int).toNat = 1 from rfl] at hct
        have hqd := q_drop (k := 1) (by have h1 := hem.1; rw [hv1, hm1] at h1; exact h1) (by omega)
        obtain ⟨S, hS⟩ : ∃ S : Option Addr, (if c1 = 1 then some (⟨gb1, ob1, none⟩ : Addr) else (some (⟨gb1, ob1, none⟩ : Addr)).map (·.add (1 * 1))) = S := ⟨_, rfl⟩
        have hSb : S.map (·.block) = some gb1 := by
          rw [← hS]; split
          · rfl
          · simp [Addr.add]
        rw [hS] at hct hqd
        obtain ⟨m2, hm2⟩ : ∃ m2, m1 - 1 = m2 := ⟨_, rfl⟩
        obtain ⟨c2, hc2⟩ : ∃ c2, c1 - 1 = c2 := ⟨_, rfl⟩
        rw [hm2, hc2] at hct hqd
        have hxs : e1.xs = nn :: e1.xs.tail := by
          rw [← hkk]; unfold En.key
          cases hq : e1.xs with
          | nil => exact absurd hq hne1
          | cons y ys => rfl
        have HXS := Aside0.mk hxs
        have htl : e1.xs.tail.length = m2 := by rw [List.length_tail, hm1]; exact hm2
        have HE2 : Aside0 (EM wr base bd ⟨.slice S m2 c2, e1.xs.tail⟩) := ⟨⟨by
            show QRow wr base 3 1 (.slice S m2 c2) e1.xs.tail.length (e1.xs.tail.map (Value.int .i64))
            rw [htl]
            rw [Nat.mul_one, ← List.map_drop, List.drop_one] at hqd; exact hqd, fun k hk => by
            refine hem.2 k ?_
            rw [hv1]
            show some gb1 = some k
            have : S.map (·.block) = some k := by
              cases S with
              | none => cases hk
              | some a => exact hk
            rw [← hSb]; exact this⟩⟩
        have HTL := Aside0.mk htl
        have HSR2 : Aside0 (SR (⟨.slice S m2 c2, e1.xs.tail⟩ :: rest)) := ⟨fun e he => by
          rcases List.mem_cons.1 he with rfl | he
          · exact (HX.out.sr e1 List.mem_cons_self).tail
          · exact HX.out.sr e (List.mem_cons_of_mem _ he)⟩
        have HDH : Aside0 (DownH En.key (⟨.slice S m2 c2, e1.xs.tail⟩ :: rest) N1 0) := ⟨downH_set0 (e := e1) (by rw [← hN1]; exact HX.out.hh)⟩
        have HTOT : Aside0 (tot (⟨.slice S m2 c2, e1.xs.tail⟩ :: rest) + 1 = tot (e1 :: rest)) := ⟨by
          rw [tot_cons, tot_cons]; show e1.xs.tail.length + _ + 1 = _; rw [htl, hm1]; omega⟩
        have HEL2 : Aside0 (∀ x, (EL (⟨.slice S m2 c2, e1.xs.tail⟩ :: rest) x ∨ x = nn) ↔ EL l x) := ⟨fun x => by
          rw [← HEL.out x, EL_cons, EL_cons]
          show (x ∈ e1.xs.tail ∨ EL rest x) ∨ x = nn ↔ (x ∈ e1.xs ∨ EL rest x) ∨ x = nn
          rw [show (x ∈ e1.xs) = (x ∈ nn :: e1.xs.tail) by rw [← hxs], List.mem_cons]
          constructor
          · rintro ((h1 | h1) | h1)
            · exact .inl (.inl (.inr h1))
            · exact .inl (.inr h1)
            · exact .inr h1
          · rintro (((h1 | h1) | h1) | h1)
            · exact .inr h1
            · exact .inl (.inl h1)
            · exact .inl (.inr h1)
            · exact .inr h1⟩
        have hbw : base ≤ wr.heap.size := Nat.le_trans hb HX.out.pf.below.size
        have hset : ∀ N', NE (⟨.slice S m2 c2, e1.xs.tail⟩ :: rest) N' → PN (wr.setCell ⟨ga1, 0, none⟩ (.slice S m2 c2)) base bd g (.slice (some ⟨ga1, 0, none⟩) N1 cap1) N' (⟨.slice S m2 c2, e1.xs.tail⟩ :: rest) ∧ PF base g (some ga1) wr (wr.setCell ⟨ga1, 0, none⟩ (.slice S m2 c2)) ∧ wr.frozen? ⟨ga1, 0, none⟩ = false := fun N' hne => PN.set0 (by have h1 := HX.out.pn; rw [hN1] at h1; exact h1) hN1' hbw HE2.out hne
        have HSET := Aside0.mk hset
        have hfz := (hset 0 (fun k e hk => absurd hk (by omega))).2.2
        have hcg2 := (hset 0 (fun k e hk => absurd hk (by omega))).1.cell
        have hca2 : (wr.setCell ⟨ga1, 0, none⟩ (.slice S m2 c2)).cell? ⟨ga1, 0, none⟩ = some (.slice S m2 c2) := by
          have h1 := ((hset 0 (fun k e hk => absurd hk (by omega))).1.hm (by simp))
          obtain ⟨ga9, cap9, h9, hm9⟩ := h1
          injection h9 with h9 _ _
          injection h9 with h9; injection h9 with h9
          subst h9
          obtain ⟨e9, he9, -, hc9⟩ := hm9.get 0 (by simp)
          injection he9 with he9; subst he9; exact hc9
        have hneg : ga1 ≠ g := fun e => HX.out.pn.ne_row (by rw [e]; rfl)
        clear hz0 hz1 hz2 hi0 i0 hset hS hSb hqd hxs htl hem hl1 hm hv1 hN1 hm1
        have HM1 := Aside0.mk (show e1.xs.length = m1 by have := HTL.out; have h9 := HXS.out; rw [h9]; simp only [List.length_cons]; omega)
        have HTT : Aside0 (tot (e1 :: rest) = tot l ∨ tot (e1 :: rest) < tot l) := ⟨by
          rcases HT.out with h | h
          · exact .inl (by rw [h])
          · exact .inr h⟩
        by_cases hm20 : m2 = 0
        · have t2 : ((m2 : Int) == 0) = true := beq_iff_eq.mpr (by omega)
          have hnil : e1.xs.tail = [] := List.eq_nil_of_length_eq_zero (by rw [HTL.out]; exact hm20)
          have HNIL := Aside0.mk hnil
          have HDH2 : Aside0 (DownH En.key (⟨.slice S m2 c2, e1.xs.tail⟩ :: rest) (rest.length + 1) 0) := ⟨by rw [← hN1']; exact HDH.out⟩
          have HNR : Aside0 (∀ e ∈ rest, e.xs ≠ []) := ⟨fun e he => by
            obtain ⟨k, hk, hq⟩ := List.getElem_of_mem he
            exact HX.out.pn.ne (k + 1) e (by simp only [List.length_cons]; omega) (by rw [List.getElem?_cons_succ, List.getElem?_eq_getElem hk, hq])⟩
          have HP2 : Aside0 (PN (wr.setCell ⟨ga1, 0, none⟩ (.slice S m2 c2)).drew base bd g (.slice (some ⟨ga1, 0, none⟩) N1 cap1) 0 (⟨.slice S m2 c2, e1.xs.tail⟩ :: rest)) := ⟨(HSET.out 0 (fun k e hk => absurd hk (by omega))).1.all fun _ _ => rfl⟩
          have hbw2 : base ≤ (wr.setCell ⟨ga1, 0, none⟩ (.slice S m2 c2)).drew.heap.size := Nat.le_trans hbw (HSET.out 0 (fun k e hk => absurd hk (by omega))).2.1.below.size
          clear hnil hm20
          go_wp2
          go_region
          go_wp2_with (go_at_call 24; (with_reducible refine (hrem_ _ base bd g _ ⟨.slice S m2 c2, e1.xs.tail⟩ rest HP2.out HDH2.out HNR.out (by omega) hbw2).mono ?_); rintro e w4 ⟨V4, l4, x4, rfl, P4, F4, O4, PP4, H4⟩)
          have HLL : Aside0 (l4.length ≤ l.length) := ⟨by rw [PP4.length_eq]; have := HX.out.len; simp only [List.length_cons] at this ⊢; omega⟩
          have hpf : PF base g V.ownBlock w w4 := HX.out.pf.trans HX.out.ow ((HSET.out 0 (fun k e hk => absurd hk (by omega))).2.1.drewR.trans (Ow.refl _ _) F4)
          have how : Ow V.ownBlock V4.ownBlock w := HX.out.ow.trans (O4.drewL HP2.out.size) HX.out.pf.below.size
          have HFIN := Aside0.mk (And.intro hpf (And.intro how (And.intro H4 P4)))
          clear hpf how H4 P4 F4 O4
          go_roundg (gk - 1)
          case measure => have := HK.out; have h8 := tot_cons e1 rest; have h9 : e1.xs.length = m1 := HM1.out; omega
          case rel =>
            refine ⟨l4, V4, ⟨?_⟩, ⟨⟨HFIN.out.2.2.2, HFIN.out.1, HFIN.out.2.1, HFIN.out.2.2.1, ?_, HLL.out⟩⟩, ⟨.inr ?_⟩, ⟨fun x => ?_⟩⟩
            · have h9 : tot l4 = tot (⟨.slice S m2 c2, e1.xs.tail⟩ :: rest) := by rw [tot_perm PP4, tot_cons]; show _ = e1.xs.tail.length + _; rw [HNIL.out]; simp
              have := HK.out; have h7 := HTOT.out; have h6 := HTT.out; omega
            · exact SR.perm PP4 fun e he => HSR2.out e (List.mem_cons_of_mem _ he)
            · have h9 : tot l4 = tot (⟨.slice S m2 c2, e1.xs.tail⟩ :: rest) := by rw [tot_perm PP4, tot_cons]; show _ = e1.xs.tail.length + _; rw [HNIL.out]; simp
              have h7 := HTOT.out; have h6 := HTT.out; omega
            · rw [← HEL2.out x, EL.perm PP4, EL_cons]; show _ ↔ (x ∈ e1.xs.tail ∨ _) ∨ _; rw [HNIL.out]; simp
        · have t2 : ((m2 : Int) == 0) = false := beq_eq_false_iff_ne.mpr (by omega)
          have HNEQ : Aside0 (NE (⟨.slice S m2 c2, e1.xs.tail⟩ :: rest) ((⟨.slice S m2 c2, e1.xs.tail⟩ : En) :: rest).length) := ⟨fun k e hk he => by
            cases k with
            | zero => injection he with he; subst he; show e1.xs.tail ≠ []; intro h9; have := HTL.out; rw [h9] at this; exact hm20 this.symm
            | succ k =>
              rw [List.getElem?_cons_succ] at he
              exact HX.out.pn.ne (k + 1) e (by simp only [List.length_cons] at hk ⊢; omega) (by rw [List.getElem?_cons_succ]; exact he)⟩
          have HDH2 : Aside0 (DownH En.key (⟨.slice S m2 c2, e1.xs.tail⟩ :: rest) ((⟨.slice S m2 c2, e1.xs.tail⟩ : En) :: rest).length 0) := ⟨by rw [List.length_cons, ← hN1']; exact HDH.out⟩
          have HP2 : Aside0 (PN (wr.setCell ⟨ga1, 0, none⟩ (.slice S m2 c2)).drew base bd g (.slice (some ⟨ga1, 0, none⟩) N1 cap1) ((⟨.slice S m2 c2, e1.xs.tail⟩ : En) :: rest).length (⟨.slice S m2 c2, e1.xs.tail⟩ :: rest)) := ⟨(HSET.out _ HNEQ.out).1.all fun _ _ => rfl⟩
          have hbw2 : base ≤ (wr.setCell ⟨ga1, 0, none⟩ (.slice S m2 c2)).drew.heap.size := Nat.le_trans hbw (HSET.out 0 (fun k e hk => absurd hk (by omega))).2.1.below.size
          clear hm20
          go_wp2
          go_region
          go_wp2_with (go_at_call 25; (with_reducible refine (hfix_ _ base bd g _ (⟨.slice S m2 c2, e1.xs.tail⟩ :: rest) HP2.out (by simp) HDH2.out (by simp only [List.length_cons]; omega) hbw2).mono ?_); rintro e w4 ⟨V4, l4, rfl, P4, F4, O4, PP4, H4⟩)
          have HLL : Aside0 (l4.length ≤ l.length) := ⟨by rw [PP4.length_eq]; have := HX.out.len; simp only [List.length_cons] at this ⊢; omega⟩
          have hpf : PF base g V.ownBlock w w4 := HX.out.pf.trans HX.out.ow ((HSET.out 0 (fun k e hk => absurd hk (by omega))).2.1.drewR.trans (Ow.refl _ _) F4)
          have how : Ow V.ownBlock V4.ownBlock w := HX.out.ow.trans (O4.drewL HP2.out.size) HX.out.pf.below.size
          have HFIN := Aside0.mk (And.intro hpf (And.intro how (And.intro H4 P4)))
          clear hpf how H4 P4 F4 O4
          go_roundg (gk - 1)
          case measure => have := HK.out; have h8 := tot_cons e1 rest; have h9 : e1.xs.length = m1 := HM1.out; omega
          case rel =>
            refine ⟨l4, V4, ⟨?_⟩, ⟨⟨HFIN.out.2.2.2, HFIN.out.1, HFIN.out.2.1, HFIN.out.2.2.1, ?_, HLL.out⟩⟩, ⟨.inr ?_⟩, ⟨fun x => ?_⟩⟩
            · have h9 : tot l4 = tot (⟨.slice S m2 c2, e1.xs.tail⟩ :: rest) := tot_perm PP4
              have := HK.out; have h7 := HTOT.out; have h6 := HTT.out; omega
            · exact SR.perm PP4 HSR2.out
            · have h9 : tot l4 = tot (⟨.slice S m2 c2, e1.xs.tail⟩ :: rest) := tot_perm PP4
              have h7 := HTOT.out; have h6 := HTT.out; omega
            · rw [← HEL2.out x, EL.perm PP4]
      · have t1 : (e1.key == nn) = false := beq_eq_false_iff_ne.mpr hkk
        have HKK : Aside0 (kAt En.key (e1 :: rest) 0 ≠ nn) := ⟨hkk⟩
        clear hkk hem hl1 hm hm1 hN1
        go_wp2
        go_ret
        exact NextP.mk rfl HX.out HT.out (fun _ => HKK.out) HEL.out HMIN.out H0.out HNN.out
def mrise.l0 : Nat → List Int → List Int → Int → Int → Option (List Int)
  | 0, _, _, _, _ => none
  | k + 1, x3, x6, x7, x8 => if x8 < x7 then (if 0 ≤ x8 then (if x8 < (x6.length : Int) then (if (x3.length : Int) = 0 then (if x3.length < 17592186044416 then (mrise.l0 k (x3 ++ [rd x6 x8]) x6 x7 (wrap64 (x8 + 1))) else (none)) else (if 0 ≤ (wrap64 ((x3.length : Int) - 1)) then (if (wrap64 ((x3.length : Int) - 1)) < (x3.length : Int) then (if (rd x6 x8) > (rd x3 (wrap64 ((x3.length : Int) - 1))) then (if x3.length < 17592186044416 then (mrise.l0 k (x3 ++ [rd x6 x8]) x6 x7 (wrap64 (x8 + 1))) else (none)) else (mrise.l0 k x3 x6 x7 (wrap64 (x8 + 1)))) else (none)) else (none))) else (none)) else (none)) else (some x3)
def mrise.f (k : Nat) (l0 : List Int) : Option (List Int) := mrise.l0 k ([] : List Int) l0 (l0.length : Int) 0
set_option maxHeartbeats 8000000 in
set_option maxRecDepth 100000 in
theorem mrise.calls (k : Nat) (A0 : Option Addr) (c0 : Nat) (l0 : List Int) (r : List Int) (w : World) (hr0 : Kd.C (Kd.int .i64) w A0 l0.length l0) (hc0 : l0.length ≤ c0) (h : mrise.f k l0 = some r) :
    Calls Try.prog 21 #[.slice A0 l0.length c0] w fun e w' => ∃ v0_ : Value, e = .returned (v0_) ∧ Kd.R (Kd.int .i64) 3 w' w.heap.size (fun _ => True) v0_ r ∧ Below w.heap.size w w' := by
  have HR0 := Aside0.mk hr0
  have HC0 := Aside0.mk hc0
  clear hr0 hc0
  have HB := Aside0.mk (Below.refl w.heap.size w)
  have H : (mrise.l0 k ([] : List Int) l0 (l0.length : Int) 0) = some r := h
  clear h
  have H' := Aside0.mk H
  clear H
  go_enter Try.func21, Try.ntmps21
  go_wp2
  go_loopg [3, 8] k (fun kq v3 v8 w' => ∃ (x3_1 : List Int) (x8_1 : Int), v8 = .int .i64 x8_1 ∧ Aside0 (mrise.l0 kq x3_1 l0 (l0.length : Int) x8_1 = some r) ∧ Aside0 (kq ≤ k) ∧ Aside0 (Kd.R (Kd.int .i64) 3 w' w.heap.size (fun _ => True) v3 x3_1) ∧ Aside0 (Below w.heap.size w w'))
  case atStart => exact ⟨(([] : List Int)), (0), (by first | rfl | (simp; done) | (simp [*]; done)), H', ⟨Nat.le_refl _⟩, ⟨by first | exact Kd.R_nil _ _ _ _ _ | exact Kd.N_nil _ _ _ _ _ | exact Kd.V_nil _ _ _ _ _ | exact Kd.Q_nil _ _ _ _ _ | exact Kd.S_nil _ _ _ _ _⟩, ⟨by repeat (first | (with_reducible first | exact HB.out | apply below_alloc | apply pw_below_drewN | apply below_drew1) | exact HB.out)⟩⟩
  case round =>
    clear H'
    obtain ⟨x3_1, x8_1, rfl, HA, HK1, HO_3, HB⟩ := hrel
    cases gk with
    | zero => exact absurd HA.out (by simp [mrise.l0])
    | succ k1 =>
      have H := HA.out
      clear HA
      simp only [mrise.l0] at H
      by_cases c2 : x8_1 < (l0.length : Int)
      · rw [if_pos c2] at H
        have c2b0 : decide (x8_1 < (l0.length : Int)) = true := decide_eq_true c2
        clear c2
        by_cases c3 : 0 ≤ x8_1
        · rw [if_pos c3] at H
          have c3b0 : decide (0 ≤ x8_1) = true := decide_eq_true c3
          clear c3
          by_cases c4 : x8_1 < (l0.length : Int)
          · rw [if_pos c4] at H
            have c4b0 : decide (x8_1 < (l0.length : Int)) = true := decide_eq_true c4
            clear c4
            by_cases c5 : (x3_1.length : Int) = 0
            · rw [if_pos c5] at H
              have c5b0 : ((x3_1.length : Int) == 0) = true := beq_iff_eq.mpr c5
              have c5b1 : ((x3_1.length : Int) != 0) = false := bne_eq_false_iff_eq.mpr c5
              clear c5
              by_cases c6 : x3_1.length < 17592186044416
              · rw [if_pos c6] at H
                have LMc6 := Aside0.mk c6
                clear c6
                obtain ⟨y102, hy102⟩ : ∃ y_ : List Int, y_ = (x3_1 ++ [rd l0 x8_1]) := ⟨_, rfl⟩
                replace H : (mrise.l0 k1 y102 l0 (l0.length : Int) (wrap64 (x8_1 + 1))) = some r := by first | (rw [hy102]; with_reducible exact H) | (have H2_ := (Option.bind_some _ _).symm.trans H; rw [hy102]; with_reducible exact H2_) | (have H2_ := (Option.bind_some _ _).symm.trans H; with_reducible exact H2_) | with_reducible exact H | (rw [hy102]; exact H) | exact H
                have Ny102 := Aside0.mk hy102
                clear hy102
                have H' := Aside0.mk H
                clear H
                have p101 : 0 ≤ (x8_1 : Int) := of_decide_eq_true (by first | (with_reducible assumption) | assumption)
                have q101 : x8_1 < (l0.length : Int) := of_decide_eq_true (by first | (with_reducible assumption) | assumption)
                obtain ⟨ad101, e101, hx101_0⟩ := Kd.at_int HR0.out x8_1 p101 q101
                cases e101
                replace hx101_0 := (HB.out.cell (World.block_lt_of_cell? w _ hx101_0)).trans hx101_0
                replace p101 := eq_true p101
                replace q101 := eq_true q101
                obtain ⟨Ao7, co7, eo7⟩ := Kd.R_slice HO_3.out
                subst eo7
                go_wp2_with (first | ((with_reducible refine gate_builtin (b := .append) (xs := #[.tmp 25, .tmp 27]) rfl ?_); (try (refine gate_guard (by rfl) ?_; dsimp only)); at_builtin; refine Kd.R_append (Kd.int .i64) (w0 := w) w.heap.size rfl (.tmp 25) (.tmp 27) 22 3 (.int .i64 0) 8 rfl Try.underlying22 info3_ rfl (by decide) (by omega) (.slice Ao7 x3_1.length co7) x3_1 (rd l0 x8_1) [.int .i64 (rd l0 x8_1)] (fun _ => True) (fun _ => False) rfl rfl ?aP (fun _ hk => hk.elim) ?aF ?aO ?aB ?aS ?aL ?_; (case aP => exact rfl); (case aB => exact (by repeat (first | (with_reducible first | exact HB.out | apply below_alloc | apply pw_below_drewN | apply below_drew1) | exact HB.out))); (case aF => exact (fun _ _ => trivial)); (case aO => exact (by (with_reducible repeat (first | apply Kd.R_alloc | apply Kd.R_drewN | apply Kd.R_drew)); exact HO_3.out)); (case aS => exact (below_size (by repeat (first | (with_reducible first | exact HB.out | apply below_alloc | apply pw_below_drewN | apply below_drew1) | exact HB.out)))); (case aL => have := LMc6.out; omega); intro v103 w8 ho hb hg hat; rw [← Ny102.out] at ho; have n0_ := Aside0.mk (hb); have n1_ := Aside0.mk (ho); clear HB; clear HO_3; have HB := n0_; have HO104 := n1_; clear n0_ n1_; clear ho hb hg hat))
                go_roundg k1
                case measure => have := HK1.out; omega
                case rel => exact ⟨(y102), (wrap64 (x8_1 + 1)), (by first | rfl | (simp; done) | (simp [*]; done)), H', ⟨by have := HK1.out; omega⟩, ⟨by (with_reducible repeat (first | apply Kd.R_alloc | apply Kd.R_drewN | apply Kd.R_drew)); exact HO104.out⟩, ⟨by repeat (first | (with_reducible first | exact HB.out | apply below_alloc | apply pw_below_drewN | apply below_drew1) | exact HB.out)⟩⟩
              · rw [if_neg c6] at H
                exact absurd H (by simp)
            · rw [if_neg c5] at H
              have c5b0 : ((x3_1.length : Int) == 0) = false := beq_eq_false_iff_ne.mpr c5
              have c5b1 : ((x3_1.length : Int) != 0) = true := bne_iff_ne.mpr c5
              have c5b2 : ¬ (x3_1 = []) := fun h_ => c5 (by rw [h_]; rfl)
              obtain ⟨ji9, hji9⟩ : ∃ j_ : Int, (wrap64 ((x3_1.length : Int) - 1)) = j_ := ⟨_, rfl⟩
              replace H : (if 0 ≤ (ji9) then (if (ji9) < (x3_1.length : Int) then (if (rd l0 x8_1) > (rd x3_1 (ji9)) then (if x3_1.length < 17592186044416 then (mrise.l0 k1 (x3_1 ++ [rd l0 x8_1]) l0 (l0.length : Int) (wrap64 (x8_1 + 1))) else (none)) else (mrise.l0 k1 x3_1 l0 (l0.length : Int) (wrap64 (x8_1 + 1)))) else (none)) else (none)) = some r := by first | (rw [hji9] at H; exact H) | (simp only [hji9] at H ⊢; exact H)
              have hji9w : (IntKind.i64.wrap ((x3_1.length : Int) - 1)) = ji9 := (i64_w _).trans hji9
              by_cases c10 : 0 ≤ (ji9)
              · rw [if_pos c10] at H
                have c10b0 : decide (0 ≤ (ji9)) = true := decide_eq_true c10
                clear c10
                by_cases c11 : (ji9) < (x3_1.length : Int)
                · rw [if_pos c11] at H
                  have c11b0 : decide ((ji9) < (x3_1.length : Int)) = true := decide_eq_true c11
                  clear c11
                  by_cases c12 : (rd l0 x8_1) > (rd x3_1 (ji9))
                  · rw [if_pos c12] at H
                    have c12b0 : decide ((rd x3_1 (ji9)) < (rd l0 x8_1)) = true := decide_eq_true c12
                    clear c12
                    by_cases c13 : x3_1.length < 17592186044416
                    · rw [if_pos c13] at H
                      have LMc13 := Aside0.mk c13
                      clear c13
                      obtain ⟨y106, hy106⟩ : ∃ y_ : List Int, y_ = (x3_1 ++ [rd l0 x8_1]) := ⟨_, rfl⟩
                      replace H : (mrise.l0 k1 y106 l0 (l0.length : Int) (wrap64 (x8_1 + 1))) = some r := by first | (rw [hy106]; with_reducible exact H) | (have H2_ := (Option.bind_some _ _).symm.trans H; rw [hy106]; with_reducible exact H2_) | (have H2_ := (Option.bind_some _ _).symm.trans H; with_reducible exact H2_) | with_reducible exact H | (rw [hy106]; exact H) | exact H
                      have Ny106 := Aside0.mk hy106
                      clear hy106
                      have H' := Aside0.mk H
                      clear H
                      have p101 : 0 ≤ (x8_1 : Int) := of_decide_eq_true (by first | (with_reducible assumption) | assumption)
                      have q101 : x8_1 < (l0.length : Int) := of_decide_eq_true (by first | (with_reducible assumption) | assumption)
                      obtain ⟨ad101, e101, hx101_0⟩ := Kd.at_int HR0.out x8_1 p101 q101
                      cases e101
                      replace hx101_0 := (HB.out.cell (World.block_lt_of_cell? w _ hx101_0)).trans hx101_0
                      replace p101 := eq_true p101
                      replace q101 := eq_true q101
                      obtain ⟨Ao14, co14, eo14⟩ := Kd.R_slice HO_3.out
                      subst eo14
                      have p105 : 0 ≤ ((ji9) : Int) := of_decide_eq_true (by first | (with_reducible assumption) | assumption)
                      have q105 : (ji9) < (x3_1.length : Int) := of_decide_eq_true (by first | (with_reducible assumption) | assumption)
                      obtain ⟨ad105, e105, hx105_0⟩ := Kd.at_int (Kd.R_reads' HO_3.out).2.2 (ji9) p105 q105
                      cases e105
                      replace p105 := eq_true p105
                      replace q105 := eq_true q105
                      go_wp2_with (first | ((with_reducible refine gate_builtin (b := .append) (xs := #[.tmp 25, .tmp 27]) rfl ?_); (try (refine gate_guard (by rfl) ?_; dsimp only)); at_builtin; refine Kd.R_append (Kd.int .i64) (w0 := w) w.heap.size rfl (.tmp 25) (.tmp 27) 22 3 (.int .i64 0) 8 rfl Try.underlying22 info3_ rfl (by decide) (by omega) (.slice (some ad105) x3_1.length co14) x3_1 (rd l0 x8_1) [.int .i64 (rd l0 x8_1)] (fun _ => True) (fun _ => False) rfl rfl ?aP (fun _ hk => hk.elim) ?aF ?aO ?aB ?aS ?aL ?_; (case aP => exact rfl); (case aB => exact (by repeat (first | (with_reducible first | exact HB.out | apply below_alloc | apply pw_below_drewN | apply below_drew1) | exact HB.out))); (case aF => exact (fun _ _ => trivial)); (case aO => exact (by (with_reducible repeat (first | apply Kd.R_alloc | apply Kd.R_drewN | apply Kd.R_drew)); exact HO_3.out)); (case aS => exact (below_size (by repeat (first | (with_reducible first | exact HB.out | apply below_alloc | apply pw_below_drewN | apply below_drew1) | exact HB.out)))); (case aL => have := LMc13.out; omega); intro v107 w15 ho hb hg hat; rw [← Ny106.out] at ho; have n0_ := Aside0.mk (hb); have n1_ := Aside0.mk (ho); clear HB; clear HO_3; have HB := n0_; have HO108 := n1_; clear n0_ n1_; clear ho hb hg hat))
                      go_roundg k1
                      case measure => have := HK1.out; omega
                      case rel => exact ⟨(y106), (wrap64 (x8_1 + 1)), (by first | rfl | (simp; done) | (simp [*]; done)), H', ⟨by have := HK1.out; omega⟩, ⟨by (with_reducible repeat (first | apply Kd.R_alloc | apply Kd.R_drewN | apply Kd.R_drew)); exact HO108.out⟩, ⟨by repeat (first | (with_reducible first | exact HB.out | apply below_alloc | apply pw_below_drewN | apply below_drew1) | exact HB.out)⟩⟩
                    · rw [if_neg c13] at H
                      exact absurd H (by simp)
                  · rw [if_neg c12] at H
                    have c12b0 : decide ((rd x3_1 (ji9)) < (rd l0 x8_1)) = false := decide_eq_false c12
                    clear c12
                    have H' := Aside0.mk H
                    clear H
                    have p101 : 0 ≤ (x8_1 : Int) := of_decide_eq_true (by first | (with_reducible assumption) | assumption)
                    have q101 : x8_1 < (l0.length : Int) := of_decide_eq_true (by first | (with_reducible assumption) | assumption)
                    obtain ⟨ad101, e101, hx101_0⟩ := Kd.at_int HR0.out x8_1 p101 q101
                    cases e101
                    replace hx101_0 := (HB.out.cell (World.block_lt_of_cell? w _ hx101_0)).trans hx101_0
                    replace p101 := eq_true p101
                    replace q101 := eq_true q101
                    obtain ⟨Ao16, co16, eo16⟩ := Kd.R_slice HO_3.out
                    subst eo16
                    have p105 : 0 ≤ ((ji9) : Int) := of_decide_eq_true (by first | (with_reducible assumption) | assumption)
                    have q105 : (ji9) < (x3_1.length : Int) := of_decide_eq_true (by first | (with_reducible assumption) | assumption)
                    obtain ⟨ad105, e105, hx105_0⟩ := Kd.at_int (Kd.R_reads' HO_3.out).2.2 (ji9) p105 q105
                    cases e105
                    replace p105 := eq_true p105
                    replace q105 := eq_true q105
                    go_wp2
                    go_roundg k1
                    case measure => have := HK1.out; omega
                    case rel => exact ⟨(x3_1), (wrap64 (x8_1 + 1)), (by first | rfl | (simp; done) | (simp [*]; done)), H', ⟨by have := HK1.out; omega⟩, ⟨by (with_reducible repeat (first | apply Kd.R_alloc | apply Kd.R_drewN | apply Kd.R_drew)); exact HO_3.out⟩, ⟨by repeat (first | (with_reducible first | exact HB.out | apply below_alloc | apply pw_below_drewN | apply below_drew1) | exact HB.out)⟩⟩
                · rw [if_neg c11] at H
                  exact absurd H (by simp)
              · rw [if_neg c10] at H
                exact absurd H (by simp)
          · rw [if_neg c4] at H
            exact absurd H (by simp)
        · rw [if_neg c3] at H
          exact absurd H (by simp)
      · rw [if_neg c2] at H
        have c2b0 : decide (x8_1 < (l0.length : Int)) = false := decide_eq_false c2
        clear c2
        obtain rfl := Option.some.inj H
        go_wp2
        go_ret
        exact ⟨_, by first | rfl | (simp [errW_none, errW_some] <;> rfl) | (simp [*, errW_none, errW_some] <;> rfl), by (with_reducible repeat (first | apply Kd.R_alloc | apply Kd.R_drewN | apply Kd.R_drew)); exact HO_3.out, by repeat (first | (with_reducible first | exact HB.out | apply below_alloc | apply pw_below_drewN | apply below_drew1) | exact HB.out)⟩

end Go.Proofs.Ytckpgbkbbdifmaa.Ep
