import Derived.Test.YtckpgbkbbdifmaaMgSet
import Derived.WalkKit
import Derived.ProofKit
import Derived.Below
import Derived.WalkLawsBesides
import Derived.Deep.QuietTactic
import Derived.BigQuiet
import Derived.StillTailTactics
import Derived.Deep.AppendLies
import Derived.Deep.RegionHeld3
import Derived.KernelRfl
import Derived.BigRegion
import Derived.WalkSpells
import Derived.Deep.Slices
import Derived.Deep.Fields
import Derived.ChangeSame
import Derived.Deep.RegionLaw
import Derived.Deep.DrawnRows
import Derived.Deep.Upon
import Derived.Laws.CopyOwn
namespace Go.Proofs.Ytckpgbkbbdifmaa.Ep
open Go Go.RowKit Go.Proofs.YtckpgbkbbdifmaaW.PrintWords Go.Proofs.YtckpgbkbbdifmaaW.PrintLast Go.Proofs.YtckpgbkbbdifmaaW.PrintMore Go.Proofs.Ytckpgbkbbdifmaa.PMergeTells Go.Proofs.Ytckpgbkbbdifmaa.Keep
set_option linter.unusedVariables false
set_option linter.unusedSimpArgs false
abbrev Qd := Option Addr × Nat × List Int
def hv (q : Qd) : Value := .slice q.1 q.2.2.length q.2.1
theorem AllC.below {w w' : World} : ∀ {L : List Qd}, AllC w L → Below w.heap.size w w' → AllC w' L
  | [], _, _ => trivial
  | _ :: _, h, hb => ⟨⟨LC.below h.1.1 hb, h.1.2⟩, AllC.below h.2 hb⟩
theorem AllC.of {w : World} : ∀ {L : List Qd}, (∀ q ∈ L, LC w q.1 q.2.2 ∧ q.2.2.length ≤ q.2.1) → AllC w L
  | [], _ => trivial
  | q :: L, h => ⟨h q List.mem_cons_self, AllC.of fun x hx => h x (List.mem_cons_of_mem _ hx)⟩
/-- lists that Roomy made, apart from a row that is appended to. -/
def FullC (w : World) (base : Nat) (va : Value) (L : List Qd) : Prop := ∀ q ∈ L, QRow w base 3 1 (hv q) q.2.2.length (q.2.2.map (Value.int .i64)) ∧ ∀ k, (hv q).ownBlock = some k → va.ownBlock ≠ some k
theorem FullC.allC {w : World} {base : Nat} {va : Value} {L : List Qd} (h : FullC w base va L) : AllC w L := AllC.of fun q hq => by
  obtain ⟨h1, _⟩ := h q hq
  obtain ⟨A, c, e, hl⟩ := q_slice h1
  unfold hv at e h1
  injection e with _ _ e
  exact ⟨LC_of_q h1 rfl, e ▸ hl⟩
theorem MC_of {w : World} {base n c : Nat} {A : Option Addr} {L : List Qd} (h : QRow w base 22 1 (.slice A n c) n (L.map hv)) (hn : L.length = n) (ha : AllC w L) : MC w A n (L.map (·.2.2)) := by
  have hm := q_max h
  refine ⟨by simpa using hn, hm, fun hp => ?_⟩
  obtain ⟨ad, e, hc⟩ := q_cells h hp
  refine ⟨ad, e, fun j p hp => ?_⟩
  rw [List.getElem?_map] at hp
  obtain ⟨q, hq, rfl⟩ := Option.map_eq_some_iff.1 hp
  obtain ⟨h1, h2⟩ := ha.at q (List.mem_of_getElem? hq)
  refine ⟨[hv q], rfl, ⟨q.1, q.2.1, rfl, h2, h1⟩, fun i u hu => ?_⟩
  cases i with
  | succ i => simp at hu
  | zero =>
    injection hu with hu; subst hu
    show w.cell? (ad.add (j * 1 + 0)) = _
    rw [show j * 1 + 0 = j by omega]; exact hc j _ (by rw [List.getElem?_map, hq]; rfl)
structure T1 (w w' : World) (vo vf va : Value) (LO LF : List Qd) (ALL : List Int) : Prop where
  below : Below w.heap.size w w'
  own : QRow w' w.heap.size 22 1 vo LO.length (LO.map hv)
  full : QRow w' w.heap.size 22 1 vf LF.length (LF.map hv)
  all : QRow w' w.heap.size 3 1 va ALL.length (ALL.map (Value.int .i64))
  fc : FullC w' w.heap.size va LF
  ne : ∀ k, vo.ownBlock = some k → vf.ownBlock ≠ some k
section
variable {w w' w2 : World} {vo vf va v' : Value} {LO LF : List Qd} {ALL : List Int}
theorem T1.start (w : World) : T1 w w (.slice none 0 0) (.slice none 0 0) (.slice none 0 0) [] [] [] :=
  ⟨Below.refl _ _, ⟨rfl, .inl ⟨rfl, none, rfl, fun a ha => by cases ha⟩⟩, ⟨rfl, .inl ⟨rfl, none, rfl, fun a ha => by cases ha⟩⟩, ⟨rfl, .inl ⟨rfl, none, rfl, fun a ha => by cases ha⟩⟩, (fun q hq => by cases hq), fun k hk => by cases hk⟩
theorem T1.mono (h : T1 w w' vo vf va LO LF ALL) (hb : Below w'.heap.size w' w2) : T1 w w2 vo vf va LO LF ALL :=
  ⟨h.below.trans (hb.mono h.below.size), q_move h.own fun k hk => hb.block k (q_lt h.own k hk), q_move h.full fun k hk => hb.block k (q_lt h.full k hk), q_move h.all fun k hk => hb.block k (q_lt h.all k hk), fun q hq => ⟨q_move (h.fc q hq).1 fun k hk => hb.block k (q_lt (h.fc q hq).1 k hk), (h.fc q hq).2⟩, h.ne⟩
/-- a typed block is not one of another type. -/
theorem q_apart {w : World} {b1 b2 e1 e2 s1 s2 n1 n2 : Nat} {u v : Value} {xs ys : List Value} (h1 : QRow w b1 e1 s1 u n1 xs) (h2 : QRow w b2 e2 s2 v n2 ys) (hne : e1 ≠ e2) (k : Nat) (hk : u.ownBlock = some k) : v.ownBlock ≠ some k := fun e => by
  obtain ⟨_, c1, t1⟩ := q_typed h1 k hk
  obtain ⟨_, c2, t2⟩ := q_typed h2 k e
  rw [t1] at t2; injection t2 with t2; injection t2 with _ t2; exact hne t2
theorem q_other {w w2 : World} {b1 e1 s1 n1 : Nat} {u v : Value} {xs : List Value} (h1 : QRow w b1 e1 s1 u n1 xs) (hg : w.grownBy w2 v.ownBlock) (hne : ∀ k, u.ownBlock = some k → v.ownBlock ≠ some k) : QRow w2 b1 e1 s1 u n1 xs :=
  q_move h1 fun k hk => hg.block k (q_lt h1 k hk) fun e => hne k hk e.symm
theorem ne_after {w : World} {v v' : Value} (hat : v'.ownBlock = v.ownBlock ∨ ∃ b, v'.ownBlock = some b ∧ w.heap.size ≤ b) {k : Nat} (hk : k < w.heap.size) (hne : v.ownBlock ≠ some k) : v'.ownBlock ≠ some k := fun e => by
  rcases hat with h | ⟨b, h, hb⟩
  · exact hne (h.symm.trans e)
  · rw [h] at e; injection e with e; omega
theorem grown_below {w w' w2 : World} {e n : Nat} {v : Value} {xs : List Value} (hb : Below w.heap.size w w') (hr : QRow w' w.heap.size e 1 v n xs) (hg : w'.grownBy w2 v.ownBlock) : Below w.heap.size w w2 :=
  hb.trans (Below.grown (Below.refl _ _) hg hb.size (fun k hk => (q_typed hr k hk).1))
theorem T1.own_app {q : Qd} (h : T1 w w' vo vf va LO LF ALL) (hg : w'.grownBy w2 vo.ownBlock) (hr : QRow w2 w.heap.size 22 1 v' (LO.length + 1) (LO.map hv ++ [hv q])) (hat : v'.ownBlock = vo.ownBlock ∨ ∃ b, v'.ownBlock = some b ∧ w'.heap.size ≤ b) : T1 w w2 v' vf va (LO ++ [q]) LF ALL := by
  refine ⟨grown_below h.below h.own hg, by rw [List.length_append, List.map_append]; exact hr, q_other h.full hg fun k hk e => h.ne k e hk, q_other h.all hg (q_apart h.all h.own (by decide)), fun x hx => ⟨q_other (h.fc x hx).1 hg (q_apart (h.fc x hx).1 h.own (by decide)), (h.fc x hx).2⟩, fun k hk e => ?_⟩
  exact ne_after hat (q_lt h.full k e) (fun e2 => h.ne k e2 e) hk
theorem T1.full_app {q : Qd} (h : T1 w w' vo vf va LO LF ALL) (hq : QRow w' w.heap.size 3 1 (hv q) q.2.2.length (q.2.2.map (Value.int .i64))) (hqa : ∀ k, (hv q).ownBlock = some k → va.ownBlock ≠ some k) (hg : w'.grownBy w2 vf.ownBlock) (hr : QRow w2 w.heap.size 22 1 v' (LF.length + 1) (LF.map hv ++ [hv q])) (hat : v'.ownBlock = vf.ownBlock ∨ ∃ b, v'.ownBlock = some b ∧ w'.heap.size ≤ b) : T1 w w2 vo v' va LO (LF ++ [q]) ALL := by
  refine ⟨grown_below h.below h.full hg, q_other h.own hg h.ne, by rw [List.length_append, List.map_append]; exact hr, q_other h.all hg (q_apart h.all h.full (by decide)), fun x hx => ?_, fun k hk => ne_after hat (q_lt h.own k hk) (h.ne k hk)⟩
  rcases List.mem_append.1 hx with hx | hx
  · exact ⟨q_other (h.fc x hx).1 hg (q_apart (h.fc x hx).1 h.full (by decide)), (h.fc x hx).2⟩
  · rw [List.mem_singleton] at hx; subst hx
    exact ⟨q_other hq hg (q_apart hq h.full (by decide)), hqa⟩
theorem T1.all_app {r : List Int} (h : T1 w w' vo vf va LO LF ALL) (hg : w'.grownBy w2 va.ownBlock) (hr : QRow w2 w.heap.size 3 1 v' (ALL.length + r.length) (ALL.map (Value.int .i64) ++ r.map (Value.int .i64))) (hat : v'.ownBlock = va.ownBlock ∨ ∃ b, v'.ownBlock = some b ∧ w'.heap.size ≤ b) : T1 w w2 vo vf v' LO LF (ALL ++ r) := by
  refine ⟨grown_below h.below h.all hg, q_other h.own hg (q_apart h.own h.all (by decide)), q_other h.full hg (q_apart h.full h.all (by decide)), by rw [List.length_append, List.map_append]; exact hr, fun x hx => ⟨q_other (h.fc x hx).1 hg (h.fc x hx).2, fun k hk => ne_after hat (q_lt (h.fc x hx).1 k hk) ((h.fc x hx).2 k hk)⟩, h.ne⟩
end
theorem own_append1 (W : World) (B : Nat) (v : Value) (n : Nat) (xs : List Value) (q : Qd) (h : QRow W B 22 1 v n xs) (hb : B ≤ W.heap.size) (hn : n ≤ 1000) :
    ∃ v' w', (Builtin.append_ #[28, 28] 28 #[v, .slice (some ⟨W.heap.size, 0, none⟩) 1 1]).run Try.prog (W.alloc (.cells #[hv q] 22)) = .ok v' w' ∧ QRow w' B 22 1 v' (n + 1) (xs ++ [hv q]) ∧ W.grownBy w' v.ownBlock ∧ (v'.ownBlock = v.ownBlock ∨ ∃ b, v'.ownBlock = some b ∧ W.heap.size ≤ b) := by
  obtain ⟨i0, hi0, hz0, hz1, hz2⟩ := info_parts info22_
  have h1 : QRow (W.alloc (.cells #[hv q] 22)) B 22 1 v n xs := q_move h fun k hk => heap_alloc_old _ _ (q_lt h k hk)
  have h2 : QRow (W.alloc (.cells #[hv q] 22)) W.heap.size 22 1 (.slice (some ⟨W.heap.size, 0, none⟩) 1 1) 1 [hv q] := an_row (Wd := W) (Below.refl _ _) (hv q)
  obtain ⟨v', w', hr, h3, h4, h5⟩ := q_append_any (W.alloc (.cells #[hv q] 22)) B W.heap.size 28 28 22 i0 _ 24 Try.underlying28 hi0 hz0 hz1 hz2 rfl v n xs h1 _ 1 1 [hv q] h2 (fun u hu => by rw [List.mem_singleton] at hu; subst hu; rfl) (by unfold maxLen; omega) (by omega) (by rw [alloc_size]; omega)
  refine ⟨v', w', hr, h3, World.grownBy.trans (World.grownBy_alloc W _ _) h4, ?_⟩
  rcases h5 with h5 | ⟨b, h5, hb5⟩
  · exact .inl h5
  · exact .inr ⟨b, h5, by rw [alloc_size] at hb5; omega⟩
theorem int_append1 (W : World) (B : Nat) (v : Value) (n : Nat) (xs : List Value) (y : Int) (h : QRow W B 3 1 v n xs) (hb : B ≤ W.heap.size) (hn : n ≤ 1000) :
    ∃ v' w', (Builtin.append_ #[22, 22] 22 #[v, .slice (some ⟨W.heap.size, 0, none⟩) 1 1]).run Try.prog (W.alloc (.cells #[.int .i64 y] 3)) = .ok v' w' ∧ QRow w' B 3 1 v' (n + 1) (xs ++ [.int .i64 y]) ∧ W.grownBy w' v.ownBlock := by
  obtain ⟨i0, hi0, hz0, hz1, hz2⟩ := info_parts info3_
  have h1 : QRow (W.alloc (.cells #[.int .i64 y] 3)) B 3 1 v n xs := q_move h fun k hk => heap_alloc_old _ _ (q_lt h k hk)
  have h2 : QRow (W.alloc (.cells #[.int .i64 y] 3)) W.heap.size 3 1 (.slice (some ⟨W.heap.size, 0, none⟩) 1 1) 1 [.int .i64 y] := an_row (Wd := W) (Below.refl _ _) (.int .i64 y)
  obtain ⟨v', w', hr, h3, h4, h5⟩ := q_append_any (W.alloc (.cells #[.int .i64 y] 3)) B W.heap.size 22 22 3 i0 _ 8 Try.underlying22 hi0 hz0 hz1 hz2 rfl v n xs h1 _ 1 1 [.int .i64 y] h2 (fun u hu => by rw [List.mem_singleton] at hu; subst hu; rfl) (by unfold maxLen; omega) (by omega) (by rw [alloc_size]; omega)
  exact ⟨v', w', hr, h3, World.grownBy.trans (World.grownBy_alloc W _ _) h4⟩
theorem int_append (W : World) (B B2 : Nat) (v : Value) (n : Nat) (xs : List Value) (A : Option Addr) (m c : Nat) (r : List Int) (h : QRow W B 3 1 v n xs) (h2 : QRow W B2 3 1 (.slice A m c) m (r.map (Value.int .i64))) (hb : B ≤ W.heap.size) (hn : n ≤ 1000) (hm : m ≤ 1000) :
    ∃ v' w', (Builtin.append_ #[22, 22] 22 #[v, .slice A m c]).run Try.prog W = .ok v' w' ∧ QRow w' B 3 1 v' (n + m) (xs ++ r.map (Value.int .i64)) ∧ W.grownBy w' v.ownBlock ∧ (v'.ownBlock = v.ownBlock ∨ ∃ b, v'.ownBlock = some b ∧ W.heap.size ≤ b) := by
  obtain ⟨i0, hi0, hz0, hz1, hz2⟩ := info_parts info3_
  exact q_append_any W B B2 22 22 3 i0 _ 8 Try.underlying22 hi0 hz0 hz1 hz2 rfl v n xs h A m c _ h2 (one_ints r) (by unfold maxLen; omega) (by omega) hb
/-- rising, the list in a row of its own. -/
theorem rising_q (w : World) (A0 : Option Addr) (c0 : Nat) (l0 : List Int) (n0 : Nat) (r : List Int) (hn0 : l0.length = n0) (hr0 : LC w A0 l0) (hc0 : n0 ≤ c0) (h0 : n0 ≤ 100000) (hr : rise l0 = r) :
    Calls Try.prog 14 #[.slice A0 n0 c0] w fun e w' => ∃ A c, e = .returned (.slice A r.length c) ∧ QRow w' w.heap.size 3 1 (.slice A r.length c) r.length (r.map (Value.int .i64)) ∧ r.length ≤ c ∧ Below w.heap.size w w' := by
  subst hn0 hr
  refine (tendrillaw21_rising.calls 100001 A0 c0 l0 (rise l0) w hr0 hc0 (lrise_k _ l0 (by omega) (by omega))).mono fun e w' ⟨v, he, h1, h2⟩ => ?_
  obtain ⟨A, c, hv, hc, hC⟩ := Kd.R_reads h1
  subst hv
  have h3 := q_of_own (Kd.own_of_R h1)
  rw [encs_int] at h3
  exact ⟨A, c, he, h3, hc, h2⟩
def roomyI.f (l0 : List Int) (a1 : Int) : Option (List Int) := if (l0.length + 80) * 8 ≤ 281474976710656 then some (l0 ++ List.replicate 80 a1) else none
theorem roomyI.info : (Try.prog.info? 3).map (fun i => (i.zero, i.size, i.bytes)) = some (some (.int .i64 0), 1, 8) := by kernel_rfl
theorem roomyI.size1 : (Try.prog.info? 3).map (·.size) = some 1 := by kernel_rfl
theorem roomyI.fill (l : List Int) (m : Int) (j : Nat) (hj : j < 80) : (l ++ (List.replicate j m ++ List.replicate (80 - j) 0)).set (l.length + j) m = l ++ (List.replicate (j + 1) m ++ List.replicate (80 - (j + 1)) 0) := by
  obtain ⟨q, hq⟩ : ∃ q, 80 - j = q + 1 := ⟨80 - j - 1, by omega⟩
  rw [hq, show 80 - (j + 1) = q from by omega, List.set_append_right _ _ (by omega), show l.length + j - l.length = j from by omega, List.set_append_right _ _ (by rw [List.length_replicate]; omega), List.length_replicate, Nat.sub_self, List.replicate_succ (n := q), List.set_cons_zero, List.replicate_succ' (n := j), List.append_assoc, List.singleton_append]
set_option maxHeartbeats 8000000 in
set_option maxRecDepth 100000 in
theorem roomyI.calls (A0 : Option Addr) (c0 : Nat) (l0 : List Int) (a1 : Int) (r : List Int) (w : World) (hr0 : Kd.C (Kd.int .i64) w A0 l0.length l0) (hc0 : l0.length ≤ c0) (h : roomyI.f l0 a1 = some r) :
    Calls Try.prog 13 #[.slice A0 l0.length c0, .int .i64 a1] w fun e w' => ∃ v0_ : Value, e = .returned v0_ ∧ Kd.R (Kd.int .i64) 3 w' w.heap.size (fun _ => True) v0_ r ∧ Below w.heap.size w w' := by
  have HR0 := Aside0.mk hr0
  have HC0 := Aside0.mk hc0
  clear hr0 hc0
  have HB := Aside0.mk (Below.refl w.heap.size w)
  unfold roomyI.f at h
  by_cases c : (l0.length + 80) * 8 ≤ 281474976710656
  rotate_left
  · rw [if_neg c] at h; cases h
  rw [if_pos c] at h
  have HL := Aside0.mk c
  have HF := Aside0.mk (Option.some.inj h)
  clear h c
  obtain ⟨n, hn⟩ : ∃ n : Int, (l0.length : Int) + 80 = n := ⟨_, rfl⟩
  have hlm : l0.length ≤ 281474976710656 := by have := HL.out; omega
  have hnw : IntKind.i64.wrap ((l0.length : Int) + 80) = n := by rw [← hn, IntKind.wrap_i64]; omega
  have hnw2 : wrap64 ((l0.length : Int) + 80) = n := by rw [← hn]; unfold wrap64; omega
  have HN := Aside0.mk hn
  have hn0 : 0 ≤ n := by omega
  have hrep : (List.replicate n.toNat (0 : Int)).length = l0.length + 80 := by rw [List.length_replicate]; omega
  have HREP := Aside0.mk hrep
  clear hrep
  go_enter Try.func13, Try.ntmps13
  go_wp2_with (first
    | (at_make; refine Kd.R_make (Kd.int .i64) (w0 := w) w.heap.size 3 rfl (N := 10) rfl 22 (.tmp 9) (.tmp 9) rfl n ?m1 ?m2 Try.underlying22 (.int .i64 0) 8 roomyI.info rfl (by decide) (by decide) 0 (ok := fun _ => True) (okp := fun _ => True) rfl (fun _ h => h) trivial ?m3 ?m4 ?m5 (Nat.le_refl _) ?_; (case m1 => rfl); (case m2 => rfl); (case m3 => exact hn0); (case m4 => have := HL.out; have := HN.out; omega); (case m5 => exact (by repeat (first | (with_reducible first | exact HB.out | apply below_alloc | apply pw_below_drewN | apply below_drew1) | exact HB.out))); intro v1 w1 ho hb hg hat; have n0_ := Aside0.mk hb; have HO := Aside0.mk ho; clear HB; have HB := n0_; clear n0_ ho hb hg hat)
    | ((with_reducible refine gate_builtin (b := .copy) (xs := #[.tmp 11, .tmp 12]) rfl ?_); refine copy_int_ .i64 (w0 := w) w.heap.size rfl (.tmp 11) (.tmp 12) 22 22 3 (ok := fun _ => True) rfl Try.underlying22 roomyI.size1 v1 (List.replicate n.toNat 0) l0 A0 c0 ?k1 ?k2 HO.out ?k3 ?k4 HB.out ?_; (case k1 => rfl); (case k2 => rfl); (case k3 => exact Kd.C_below HR0.out HB.out); (case k4 => have := HREP.out; omega); intro w2 ho hb; have n0_ := Aside0.mk hb; have n1_ := Aside0.mk ho; clear HB HO; have HB := n0_; have HO := n1_; clear n0_ n1_ ho hb))
  have e80 : l0 ++ (List.replicate n.toNat (0 : Int)).drop l0.length = l0 ++ (List.replicate 0 a1 ++ List.replicate (80 - 0) 0) := by
    have := HN.out
    rw [List.drop_replicate, show n.toNat - l0.length = 80 from by omega]; simp
  have HO' := HO.out
  rw [e80] at HO'
  have hlen0 : (l0 ++ (List.replicate 0 a1 ++ List.replicate (80 - 0) (0 : Int))).length = l0.length + 80 := by simp
  obtain ⟨g, cap, hv⟩ : ∃ g cap, v1 = .slice (some ⟨g, 0, none⟩) (l0.length + 80) cap := by
    rcases (Kd.own_of_R HO').2 with ⟨_, h0⟩ | ⟨g, cap, cur, hv, _⟩
    · rw [hlen0] at h0; omega
    · exact ⟨g, cap, by rw [hv, hlen0]⟩
  subst hv
  have HOX := Aside0.mk HO'
  clear e80 HO HO' hlen0 hnw hnw2 HREP
  go_loopg [6] 81 (fun kq v6 w' => ∃ (j : Nat), v6 = .int .i64 ((l0.length + j : Nat) : Int) ∧ Aside0 (j + kq = 81) ∧ Aside0 (j ≤ 80) ∧ Aside0 (Kd.R (Kd.int .i64) 3 w' w.heap.size (fun _ => True) (.slice (some ⟨g, 0, none⟩) (l0.length + 80) cap) (l0 ++ (List.replicate j a1 ++ List.replicate (80 - j) 0))) ∧ Aside0 (Below w.heap.size w w'))
  case atStart => exact ⟨0, by simp, ⟨rfl⟩, ⟨by decide⟩, HOX, HB⟩
  case round =>
    clear HOX HB
    obtain ⟨j, rfl, HK, HJ, HO, HB⟩ := hrel
    obtain ⟨i, hi⟩ : ∃ i : Int, ((l0.length + j : Nat) : Int) = i := ⟨_, rfl⟩
    rw [hi]
    have HI := Aside0.mk hi
    clear hi
    by_cases hlt : j < 80
    · have i0 : 0 ≤ i := by have := HI.out; omega
      have i1 : i < ((l0.length + 80 : Nat) : Int) := by have := HI.out; omega
      have i2 : i ≤ 281474976710656 := by have := HI.out; have := HL.out; omega
      have p1 : decide (i < ((l0.length + 80 : Nat) : Int)) = true := decide_eq_true i1
      have i1' : i < (l0.length : Int) + 80 := by omega
      have p2 : decide (i < (l0.length : Int) + 80) = true := decide_eq_true i1'
      have q1 : (0 ≤ i) = True := eq_true i0
      have q2 : (i < (l0.length : Int) + 80) = True := eq_true i1'
      obtain ⟨adx, eadx, hcx⟩ := Kd.at_int (Kd.R_reads' HO.out).2.2 i i0 (by rw [← (Kd.R_reads' HO.out).1]; exact i1)
      injection eadx with eadx
      subst eadx
      have hcc : ∀ (j' : Nat) (u : Value), [Value.int .i64 (rd (l0 ++ (List.replicate j a1 ++ List.replicate (80 - j) 0)) i)][j']? = some u → wr.cell? ⟨g, i.toNat * 1 + j', none⟩ = some u := by
        intro j' u hu
        cases j' with
        | zero =>
          simp only [List.getElem?_cons_zero, Option.some.injEq] at hu
          rw [← hu, ← hcx, Addr.add_lit, Nat.mul_one, Nat.add_zero, Nat.zero_add]
        | succ j' => simp at hu
      have HCC := Aside0.mk hcc
      clear hcc hcx
      go_wp2_with ((with_reducible refine gate_store (t := 3) (p := 25) rfl ?_); refine Kd.R_store (Kd.int .i64) (w0 := w) w.heap.size rfl rfl 3 (.tmp 25) (.tmp 24) rfl 3 (g := g) (n := l0.length + 80) (cap := cap) (o' := i.toNat) i 0 (l0 ++ (List.replicate j a1 ++ List.replicate (80 - j) 0)) a1 (.int .i64 a1) [.int .i64 a1] _ (fun _ => True) (fun _ => False) ?s1 ?s2 ?s3 rfl roomyI.size1 ?s4 HO.out ?s5 ?s6 ?s7 HCC.out ?s8 ?s9 (fun _ h_ => h_.elim) HB.out ?_; (case s1 => rfl); (case s2 => exact (Nat.mul_one _).symm); (case s3 => rfl); (case s4 => (intro q hq; rcases List.mem_cons.1 hq with rfl | hq; rfl; cases hq)); (case s5 => exact i0); (case s6 => exact i1); (case s7 => rfl); (case s8 => exact Nat.le_refl _); (case s9 => rfl); intro w3 ho hb hg; have n0_ := Aside0.mk hb; have n1_ := Aside0.mk ho; clear HB HO; have HB := n0_; have HO := n1_; clear n0_ n1_ ho hb hg)
      have HO2 : Aside0 (Kd.R (Kd.int .i64) 3 w3 w.heap.size (fun _ => True) (.slice (some ⟨g, 0, none⟩) (l0.length + 80) cap) (l0 ++ (List.replicate (j + 1) a1 ++ List.replicate (80 - (j + 1)) 0))) := ⟨by have h_ := HO.out; rw [show i.toNat = l0.length + j from by have := HI.out; omega, roomyI.fill l0 a1 j hlt] at h_; exact h_⟩
      go_roundg (gk - 1)
      case measure => have := HK.out; omega
      case rel => exact ⟨j + 1, (by rw [show i + 1 = ((l0.length + (j + 1) : Nat) : Int) from by have := HI.out; omega]), ⟨by have := HK.out; omega⟩, ⟨by omega⟩, HO2, HB⟩
    · have hj : j = 80 := by have := HJ.out; omega
      have i1 : ¬ i < (l0.length : Int) + 80 := by have := HI.out; omega
      have p2 : decide (i < (l0.length : Int) + 80) = false := decide_eq_false i1
      have p1 : decide (i < ((l0.length + 80 : Nat) : Int)) = false := decide_eq_false (by omega)
      have HO2 : Aside0 (Kd.R (Kd.int .i64) 3 wr w.heap.size (fun _ => True) (.slice (some ⟨g, 0, none⟩) (l0.length + 80) cap) r) := ⟨by have h_ := HO.out; rw [hj] at h_; simp only [Nat.sub_self, List.replicate_zero, List.append_nil] at h_; rw [HF.out] at h_; exact h_⟩
      clear hj hlt
      go_wp2
      go_ret
      exact ⟨_, rfl, HO2.out, HB.out⟩
theorem intactI.info : (Try.prog.info? 3).map (fun i => (i.zero, i.size, i.bytes)) = some (some (.int .i64 0), 1, 8) := by kernel_rfl
theorem intactI.mark (l : List Int) (m : Int) (i : Int) (h0 : (l.length : Int) ≤ i) (h1 : i < (l.length : Int) + 80) : rd (l ++ List.replicate 80 m) i = m := by
  unfold rd
  rw [List.getD_eq_getElem?_getD, List.getElem?_append_right (by omega), List.getElem?_replicate, if_pos (by omega)]; rfl
set_option maxHeartbeats 8000000 in
set_option maxRecDepth 100000 in
/-- what Roomy made of a list is intact. -/
theorem intactI.yes (A0 : Option Addr) (c0 : Nat) (A1 : Option Addr) (c1 : Nat) (l1 : List Int) (m : Int) (w : World) (hr0 : Kd.C (Kd.int .i64) w A0 (l1 ++ List.replicate 80 m).length (l1 ++ List.replicate 80 m)) (hc0 : l1.length + 80 ≤ c0) (hr1 : Kd.C (Kd.int .i64) w A1 l1.length l1) (hc1 : l1.length ≤ c1) (hm : l1.length ≤ 4611686018427387904) (hsame : tendrilbook_Same_int.f 1000 l1 l1 = some true) :
    Calls Try.prog 17 #[.slice A0 (l1.length + 80) c0, .slice A1 l1.length c1, .int .i64 m] w fun e w' => e = .returned (.bool true) ∧ Drawn0 w w' := by
  have HR0 := Aside0.mk hr0
  have HC0 := Aside0.mk hc0
  have HR1 := Aside0.mk hr1
  have HC1 := Aside0.mk hc1
  have HS := Aside0.mk hsame
  have hl : (l1 ++ List.replicate 80 m).length = l1.length + 80 := by rw [List.length_append, List.length_replicate]
  have HL := Aside0.mk hl
  have ht : (l1 ++ List.replicate 80 m).take l1.length = l1 := by rw [List.take_left']; rfl
  have HT : Aside0 (Kd.C (Kd.int .i64) w A0 l1.length l1) := ⟨by have h_ := Kd.C_take (m := l1.length) hr0 (by omega); rw [ht] at h_; exact h_⟩
  have HTC : Aside0 (l1.length ≤ c0) := ⟨by omega⟩
  obtain ⟨n, hn⟩ : ∃ n : Int, (l1.length : Int) + 80 = n := ⟨_, rfl⟩
  have hnw : IntKind.i64.wrap ((l1.length : Int) + 80) = n := by rw [← hn, IntKind.wrap_i64]; omega
  have hnw2 : wrap64 ((l1.length : Int) + 80) = n := by rw [← hn]; unfold wrap64; omega
  have e1 : (((l1.length : Int) + 80) == n) = true := beq_iff_eq.2 hn
  have e2 : (((l1.length : Int) + 80) != n) = false := bne_eq_false_iff_eq.2 hn
  obtain ⟨i0, hi0, _, hsz, _⟩ := info_parts intactI.info
  have hcut := cut_to (P := Try.prog) 22 3 .i64 Try.underlying22 hi0 A0 (l1.length + 80) c0 (l1.length : Int) (by omega) (by omega) hc0
  rw [Int.toNat_natCast] at hcut
  have HN := Aside0.mk hn
  clear hr0 hc0 hr1 hc1 hsame hl ht hi0 hsz hn
  go_enter Try.func17, Try.ntmps17
  go_wp2_with (first | (go_at_call 12; (with_reducible refine (tendrilbook_Same_int.calls 1000 A0 c0 l1 A1 c1 l1 true _ ?side1 HTC.out ?side2 HC1.out HS.out).mono ?_); (case side1 => repeat (first | exact HT.out | (with_reducible refine Kd.C_alloc ?_ _) | (with_reducible refine Kd.C_drewN ?_ _) | (with_reducible refine Kd.C_drew ?_))); (case side2 => repeat (first | exact HR1.out | (with_reducible refine Kd.C_alloc ?_ _) | (with_reducible refine Kd.C_drewN ?_ _) | (with_reducible refine Kd.C_drew ?_))); rintro e w' ⟨rfl, ⟨nd, rfl⟩⟩))
  clear hcut hnw hnw2 e1 e2
  go_loopg [7] 81 (fun kq v7 w' => ∃ (i : Int), v7 = .int .i64 i ∧ Aside0 ((l1.length : Int) ≤ i) ∧ Aside0 (i + kq = l1.length + 81) ∧ Aside0 (1 ≤ kq) ∧ Drawn0 w w')
  case atStart => exact ⟨(l1.length : Int), rfl, ⟨Int.le_refl _⟩, ⟨by omega⟩, ⟨by decide⟩, by repeat (first | exact Drawn0.refl _ | apply Drawn0.step)⟩
  case round =>
    obtain ⟨i, rfl, H0, HK, HK1, ⟨m1, rfl⟩⟩ := hrel
    have i0 : 0 ≤ i := by have := H0.out; omega
    by_cases hlt : i < (l1.length : Int) + 80
    · have p1 : decide (i < (l1.length : Int) + 80) = true := decide_eq_true hlt
      have p2 : decide (i < ((l1.length + 80 : Nat) : Int)) = true := decide_eq_true (by omega)
      obtain ⟨ad, ead, hx⟩ := Kd.at_int HR0.out i i0 (by rw [HL.out]; omega)
      rw [intactI.mark l1 m i H0.out hlt] at hx
      subst ead
      have i2 : i ≤ 9223372036854775000 := by omega
      have q1 : (0 ≤ i) = True := eq_true i0
      have q2 : (i < (l1.length : Int) + 80) = True := eq_true hlt
      go_wp2
      go_roundg (gk - 1)
      case measure => have := HK1.out; omega
      case rel => exact ⟨i + 1, rfl, ⟨by have := H0.out; omega⟩, ⟨by have := HK.out; have := HK1.out; omega⟩, ⟨by have := HK.out; omega⟩, by repeat (first | exact Drawn0.refl _ | apply Drawn0.step)⟩
    · have p1 : decide (i < (l1.length : Int) + 80) = false := decide_eq_false hlt
      have p2 : decide (i < ((l1.length + 80 : Nat) : Int)) = false := decide_eq_false (by omega)
      go_wp2
      go_ret
      exact ⟨rfl, by repeat (first | exact Drawn0.refl _ | apply Drawn0.step)⟩

/-- Roomy, the list in a row of its own. -/
theorem roomy_q (w : World) (A0 : Option Addr) (c0 : Nat) (l0 : List Int) (n0 : Nat) (r : List Int) (hn0 : l0.length = n0) (hr0 : LC w A0 l0) (hc0 : n0 ≤ c0) (h0 : n0 ≤ 1000) (hr : l0 ++ List.replicate 80 (-5) = r) :
    Calls Try.prog 13 #[.slice A0 n0 c0, .int .i64 (-5)] w fun e w' => ∃ A c, e = .returned (.slice A r.length c) ∧ QRow w' w.heap.size 3 1 (.slice A r.length c) r.length (r.map (Value.int .i64)) ∧ r.length ≤ c ∧ Below w.heap.size w w' := by
  subst hn0 hr
  refine (roomyI.calls A0 c0 l0 (-5) (l0 ++ List.replicate 80 (-5)) w hr0 hc0 (by unfold roomyI.f; rw [if_pos (by omega)])).mono fun e w' ⟨v, he, h1, h2⟩ => ?_
  obtain ⟨A, c, hv, hc, hC⟩ := Kd.R_reads h1
  subst hv
  have h3 := q_of_own (Kd.own_of_R h1)
  rw [encs_int] at h3
  exact ⟨A, c, he, h3, hc, h2⟩
end Go.Proofs.Ytckpgbkbbdifmaa.Ep
