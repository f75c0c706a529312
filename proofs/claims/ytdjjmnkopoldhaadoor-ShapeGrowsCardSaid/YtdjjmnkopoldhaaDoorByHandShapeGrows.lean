/- Statement ShapeGrows: entries put and dropped one by one make a right list that has just these, each with its last value, and what was there is told; no further condition. -/
import Derived.Test.YtdjjmnkopoldhaaDoorRows
import Derived.Test.YtdjjmnkopoldhaaDoorTie
import Derived.Test.YtdjjmnkopoldhaaDoorCards
import Derived.Test.YtdjjmnkopoldhaaDoorWSized
import Derived.Test.YtdjjmnkopoldhaaDoorLShapeGrows
import Derived.Test.YtdjjmnkopoldhaaDoorSrt
import Derived.Test.YtdjjmnkopoldhaaDoorRowB
import Derived.Test.YtdjjmnkopoldhaaDoorPlaB
import Derived.WalkKit
import Derived.ProofKit
import Derived.OpenShut
import Derived.ShutString
import Derived.ChangeOld
import Derived.Below
import Derived.SizedLaws
import Derived.Deep.Slices
import Derived.Deep.Fields
import Derived.ChangeSame
import Derived.Deep.RegionLaw
import Derived.Deep.DrawnRows
import Derived.SevenTiedAt
import Derived.LaidMore
import Derived.Stop.Joined
namespace Go.Proofs.YtdjjmnkopoldhaaDoor.shapeGrows
open Go.ChangeShapes Go.WideShapes Go.ChangeAt Go.RowKit Go.Deep
open Go.ChangeMaps (open_string shut_string)
open Go Go.Proofs.YtdjjmnkopoldhaaDoorW.PrintWords Go.Proofs.YtdjjmnkopoldhaaDoorW.PrintLast Go.Proofs.YtdjjmnkopoldhaaDoorW.PrintMore Go.Proofs.YtdjjmnkopoldhaaDoor.Ep Go.Proofs.YtdjjmnkopoldhaaDoor.PBase Go.Tx
set_option linter.unusedVariables false
set_option linter.unusedSimpArgs false
theorem Put_f (l : List S23) (t : ByteArray) (v : Int) (hl : l.length ≤ 1000) : shape_Put.f l t v = some (putL l ⟨t, v⟩) := by unfold shape_Put.f; rw [if_pos hl]
theorem Drop_f (l : List S23) (t : ByteArray) (hl : l.length ≤ 1000) : shape_Drop.f l t = some (dropL l t) := by unfold shape_Drop.f; rw [if_pos hl]
def Hit (own : List S23) (t : ByteArray) : Prop := sk own t < own.length ∧ (own.getD (sk own t) z23).f0 = t
open Classical in
noncomputable def atOf (own : List S23) (t : ByteArray) (j : Nat) : Int := if sk own t < j ∧ Hit own t then (sk own t : Int) else -1
theorem hit_at (own : List S23) (hs : own.Pairwise lt8) (t : ByteArray) (j : Nat) (hj : j < own.length) (h : (own.getD j z23).f0 = t) : Hit own t ∧ sk own t = j := by
  have hm := getD_mem hj
  obtain ⟨h1, h2⟩ := sk_hit own hs _ hm
  rw [h] at h1 h2
  refine ⟨⟨h1, by rw [h2]; exact h⟩, ?_⟩
  rcases Nat.lt_trichotomy (sk own t) j with h3 | h3 | h3
  · exfalso
    have := List.pairwise_iff_getElem.1 hs _ _ h1 hj h3
    rw [List.getD_eq_getElem?_getD, List.getElem?_eq_getElem h1, List.getD_eq_getElem?_getD, List.getElem?_eq_getElem hj] at h2
    exact lt8_ne this (by have := congrArg (·.f0) h2; exact this)
  · exact h3
  · exfalso
    have := List.pairwise_iff_getElem.1 hs _ _ hj h1 h3
    rw [List.getD_eq_getElem?_getD, List.getElem?_eq_getElem h1, List.getD_eq_getElem?_getD, List.getElem?_eq_getElem hj] at h2
    exact lt8_ne this (by have := congrArg (·.f0) h2; exact this.symm)
theorem RL_drop (own : List S23) (t : ByteArray) (h : RL own = true) : RL (dropL own t).1 = true := by
  obtain ⟨h1, h2⟩ := (RL_iff own).1 h
  obtain ⟨h3, h4⟩ := dropL_sorted own h2 t
  exact (RL_iff _).2 ⟨fun x hx => h1 x ((h4 x).1 hx).1, h3⟩
theorem RL_put (own : List S23) (e : S23) (he : okE e = true) (h : RL own = true) : RL (putL own e).1 = true := by
  obtain ⟨h1, h2⟩ := (RL_iff own).1 h
  obtain ⟨h3, h4⟩ := putL_sorted own h2 e
  refine (RL_iff _).2 ⟨fun x hx => ?_, h3⟩
  rcases (h4 x).1 hx with rfl | hx
  · exact he
  · exact h1 x hx.1
theorem Grows_j7 (B K : Nat) (x0 : List S23) (x1 : List Bool) (m : List S23) (n : Int) (i : Nat) (hm : RL m = true) (hl : m.length ≤ 100) (hn : n = (m.length : Int)) (hi : i < 50) (hK : 2000 ≤ K) (hnext : ∀ K', K ≤ K' + 1 → PLaw.tendrillaw8_ShapeGrows.l0 K' x0 x1 m (m.length : Int) ((i + 1 : Nat) : Int) = some true) :
    PLaw.tendrillaw8_ShapeGrows.j7 K x0 x1 m n i = some true := by
  obtain ⟨K, rfl⟩ : ∃ q, K = q + 1 := ⟨K - 1, by omega⟩
  subst hn
  simp only [PLaw.tendrillaw8_ShapeGrows.j7]
  have hsz : ∀ x ∈ m, x.f0.size < 9223372036854775808 ∧ x.f0.size ≤ 12 := fun x hx => by
    have := right_size ((RL_inv hm).R x hx); omega
  rw [if_pos trivial, shRight_f K m (by omega) (by omega), hm, Option.bind_some, if_pos rfl, lawRight_f 12 K m (by omega) hsz (by omega), hm, Option.bind_some, if_pos rfl, show wrap64 ((i : Int) + 1) = ((i + 1 : Nat) : Int) from by unfold wrap64; omega]
  exact hnext K (Nat.le_refl _)
theorem Grows_j4 (B K : Nat) (x0 : List S23) (x1 : List Bool) (own : List S23) (i : Nat) (flag : Bool) (at_ : Int) (h : RL own = true) (hl : own.length ≤ i) (hi : i < 50) (hx : i < x0.length) (he : okE (x0.getD i z23) = true) (hat : at_ = atOf own (x0.getD i z23).f0 own.length) (hK : 2100 ≤ K)
    (hnext : ∀ m : List S23, RL m = true → m.length ≤ i + 1 → ∀ K', K ≤ K' + 4 → PLaw.tendrillaw8_ShapeGrows.l0 K' x0 x1 m (m.length : Int) ((i + 1 : Nat) : Int) = some true) :
    PLaw.tendrillaw8_ShapeGrows.j4 K x0 x1 own (own.length : Int) i at_ own flag = some true := by
  obtain ⟨h1, h2⟩ := (RL_iff own).1 h
  obtain ⟨e, hed⟩ : ∃ e, e = x0.getD i z23 := ⟨_, rfl⟩
  obtain ⟨K, rfl⟩ : ∃ q, K = q + 1 + 1 := ⟨K - 2, by omega⟩
  rw [← hed] at he hat
  have hrd : rd_T23 x0 (i : Int) = e := by rw [rd8, hed]
  simp only [PLaw.tendrillaw8_ShapeGrows.j4]
  by_cases hh : Hit own e.f0
  · have ha : at_ = ((sk own e.f0 : Nat) : Int) := by rw [hat]; unfold atOf; rw [if_pos ⟨hh.1, hh⟩]
    obtain ⟨hh1, hh2⟩ := hh
    have hmem := getD_mem hh1
    have hwas : rd_T23 own at_ = own.getD (sk own e.f0) z23 := by rw [ha, rd8]
    obtain ⟨x, hx2⟩ : ∃ x, x = own.getD (sk own e.f0) z23 := ⟨_, rfl⟩
    rw [← hx2] at hmem hh2 hwas
    cases flag with
    | true =>
      have hd := dropL_hit own h2 x hmem
      rw [hh2] at hd
      have hlen : (dropL own e.f0).1.length = own.length - 1 := by rw [hd]; simp only [List.length_append, List.length_take, List.length_drop]; omega
      have hd1 : (dropL own e.f0).2.1 = x.f1 := by rw [hd]
      have hd2 : (dropL own e.f0).2.2 = true := by rw [hd]
      rw [if_pos rfl, if_pos (by omega), if_pos (by omega), hrd, Drop_f own e.f0 (by omega), Option.bind_some, hd2, decide_eq_true (by omega : at_ ≥ 0), if_neg (by decide), if_pos rfl, if_pos (by omega), if_pos (by omega), hd1, hwas, if_pos rfl]
      simp only [PLaw.tendrillaw8_ShapeGrows.j5]
      rw [if_neg (by decide), if_pos trivial]
      exact Grows_j7 B K x0 x1 _ _ i (RL_drop own e.f0 h) (by omega) (by rw [hlen]; unfold wrap64; omega) hi (by omega) (fun K' hK' => hnext _ (RL_drop own e.f0 h) (by omega) K' (by omega))
    | false =>
      have hd := putL_hit own h2 x e hmem hh2
      have hlen : (putL own e).1.length = own.length := by rw [hd]; simp only [List.length_set]
      have hd1 : (putL own e).2.1 = x.f1 := by rw [hd]
      have hd2 : (putL own e).2.2 = true := by rw [hd]
      obtain ⟨s1, s2⟩ := putL_sorted own h2 e
      obtain ⟨g1, g2⟩ := sk_hit _ s1 e ((s2 e).2 (Or.inl rfl))
      have hek : (⟨e.f0, e.f1⟩ : S23) = e := rfl
      rw [if_neg (by decide), if_pos (by omega), if_pos (by omega), hrd, Put_f own e.f0 e.f1 (by omega), hek, Option.bind_some, hd2, decide_eq_true (by omega : at_ ≥ 0), if_neg (by decide), if_pos rfl, if_pos (by omega), if_pos (by omega), hd1, hwas, if_pos rfl]
      simp only [PLaw.tendrillaw8_ShapeGrows.j6]
      rw [if_neg (by decide), if_pos trivial, if_pos (by omega), if_pos (by omega), hrd, Seek_f K _ _ (by omega) (by omega), Option.bind_some, if_neg (by omega), if_neg (by omega), if_pos (by omega), if_pos (by omega), rd8, g2, beq_self_eq_true, beq_self_eq_true, if_neg (by decide)]
      exact Grows_j7 B K x0 x1 _ _ i (RL_put own e he h) (by omega) (by omega) hi (by omega) (fun K' hK' => hnext _ (RL_put own e he h) (by omega) K' (by omega))
  · have ha : at_ = -1 := by rw [hat]; unfold atOf; rw [if_neg (fun z => hh z.2)]
    have hmiss : ∀ x ∈ own, x.f0 ≠ e.f0 := fun x hx hf => by
      obtain ⟨g1, g2⟩ := sk_hit own h2 x hx
      rw [hf] at g1 g2
      exact hh ⟨g1, by rw [g2]; exact hf⟩
    cases flag with
    | true =>
      have hd := dropL_miss own e.f0 hmiss
      have hd0 : (dropL own e.f0).1 = own := by rw [hd]
      have hd1 : (dropL own e.f0).2.1 = 0 := by rw [hd]
      have hd2 : (dropL own e.f0).2.2 = false := by rw [hd]
      rw [if_pos rfl, if_pos (by omega), if_pos (by omega), hrd, Drop_f own e.f0 (by omega), Option.bind_some, hd2, decide_eq_false (by omega : ¬ at_ ≥ 0), if_neg (by decide), if_neg (by decide), hd1, hd0]
      simp only [PLaw.tendrillaw8_ShapeGrows.j5]
      rw [if_neg (by decide), if_neg (by decide)]
      exact Grows_j7 B K x0 x1 _ _ i h (by omega) rfl hi (by omega) (fun K' hK' => hnext _ h (by omega) K' (by omega))
    | false =>
      have hd := putL_miss own e hmiss
      have hsk := sk_le own e.f0
      have hlen : (putL own e).1.length = own.length + 1 := by rw [hd]; simp only [List.length_append, List.length_cons, List.length_take, List.length_drop]; omega
      have hd1 : (putL own e).2.1 = 0 := by rw [hd]
      have hd2 : (putL own e).2.2 = false := by rw [hd]
      obtain ⟨s1, s2⟩ := putL_sorted own h2 e
      obtain ⟨g1, g2⟩ := sk_hit _ s1 e ((s2 e).2 (Or.inl rfl))
      have hek : (⟨e.f0, e.f1⟩ : S23) = e := rfl
      rw [if_neg (by decide), if_pos (by omega), if_pos (by omega), hrd, Put_f own e.f0 e.f1 (by omega), hek, Option.bind_some, hd2, decide_eq_false (by omega : ¬ at_ ≥ 0), if_neg (by decide), if_neg (by decide), hd1]
      simp only [PLaw.tendrillaw8_ShapeGrows.j6]
      rw [if_neg (by decide), if_neg (by decide), if_pos (by omega), if_pos (by omega), hrd, Seek_f K _ _ (by omega) (by omega), Option.bind_some, if_neg (by omega), if_neg (by omega), if_pos (by omega), if_pos (by omega), rd8, g2, beq_self_eq_true, beq_self_eq_true, if_neg (by decide)]
      exact Grows_j7 B K x0 x1 _ _ i (RL_put own e he h) (by omega) (by rw [hlen]; unfold wrap64; omega) hi (by omega) (fun K' hK' => hnext _ (RL_put own e he h) (by omega) K' (by omega))
theorem Grows_l1 (B : Nat) (x0 : List S23) (x1 : List Bool) (own : List S23) (i : Nat) (h : RL own = true) (hl : own.length ≤ i) (hi : i < 50) (hx : i < x0.length) (he : okE (x0.getD i z23) = true) (KB : Nat) (hKB : 2100 ≤ KB)
    (hnext : ∀ m : List S23, RL m = true → m.length ≤ i + 1 → ∀ K', KB ≤ K' + 4 → PLaw.tendrillaw8_ShapeGrows.l0 K' x0 x1 m (m.length : Int) ((i + 1 : Nat) : Int) = some true) (d : Nat) :
    ∀ (K j : Nat), own.length - j = d → KB + d + 1 ≤ K → j ≤ own.length → PLaw.tendrillaw8_ShapeGrows.l1 K x0 x1 own (own.length : Int) i (atOf own (x0.getD i z23).f0 j) (own.length : Int) j = some true := by
  obtain ⟨h1, h2⟩ := (RL_iff own).1 h
  induction d with
  | zero =>
    intro K j hj hK hle
    obtain ⟨K, rfl⟩ : ∃ q, K = q + 1 := ⟨K - 1, by omega⟩
    have hjl : j = own.length := by omega
    subst hjl
    simp only [PLaw.tendrillaw8_ShapeGrows.l1]
    rw [if_neg (by omega)]
    have hj4 : ∀ flag, PLaw.tendrillaw8_ShapeGrows.j4 K x0 x1 own (own.length : Int) i (atOf own (x0.getD i z23).f0 own.length) own flag = some true := fun flag =>
      Grows_j4 B K x0 x1 own i flag _ h hl hi hx he rfl (by omega) (fun m hm hlm K' hK' => hnext m hm hlm K' (by omega))
    split
    · rw [if_pos (by omega)]; exact hj4 _
    · exact hj4 _
  | succ d ih =>
    intro K j hj hK hle
    obtain ⟨K, rfl⟩ : ∃ q, K = q + 1 := ⟨K - 1, by omega⟩
    have hlt : j < own.length := by omega
    simp only [PLaw.tendrillaw8_ShapeGrows.l1]
    rw [if_pos (by omega), if_pos (by omega), if_pos (by omega), if_pos (by omega), if_pos (by omega), rd8, rd8, toList_L, toList_L, show wrap64 ((j : Int) + 1) = ((j + 1 : Nat) : Int) from by unfold wrap64; omega]
    have hi2 := ih K (j + 1) (by omega) (by omega) (by omega)
    by_cases hq : L (own.getD j z23).f0 = L (x0.getD i z23).f0
    · rw [if_pos hq]
      obtain ⟨g1, g2⟩ := hit_at own h2 _ j hlt (L_inj hq)
      have : atOf own (x0.getD i z23).f0 (j + 1) = (j : Int) := by unfold atOf; rw [if_pos ⟨by omega, g1⟩, g2]
      rw [this] at hi2
      exact hi2
    · rw [if_neg hq]
      have : atOf own (x0.getD i z23).f0 (j + 1) = atOf own (x0.getD i z23).f0 j := by
        unfold atOf
        by_cases g : sk own (x0.getD i z23).f0 < j ∧ Hit own (x0.getD i z23).f0
        · rw [if_pos g, if_pos ⟨by omega, g.2⟩]
        · rw [if_neg g, if_neg]
          rintro ⟨g1, g2⟩
          have g3 : sk own (x0.getD i z23).f0 = j := by
            rcases Nat.lt_or_ge (sk own (x0.getD i z23).f0) j with g4 | g4
            · exact absurd ⟨g4, g2⟩ g
            · omega
          have g5 := g2.2
          rw [g3] at g5
          exact hq (by rw [g5])
      rw [this] at hi2
      exact hi2
theorem Grows_l0 (B : Nat) (x0 : List S23) (x1 : List Bool) (hB : ∀ x ∈ x0, x.f0.size < 9223372036854775808 ∧ x.f0.size ≤ B) (d : Nat) : ∀ (K i : Nat) (own : List S23), 50 - i = d → i ≤ 50 → RL own = true → own.length ≤ i → 3000 + B + 100 * d ≤ K →
    PLaw.tendrillaw8_ShapeGrows.l0 K x0 x1 own (own.length : Int) i = some true := by
  have runs : ∀ K own n i, 5 ≤ K → PLaw.tendrillaw8_ShapeGrows.j1 K x0 x1 own n i false = some true := by
    intro K own n i hK
    obtain ⟨K, rfl⟩ : ∃ q, K = q + 1 := ⟨K - 1, by omega⟩
    simp only [PLaw.tendrillaw8_ShapeGrows.j1]
    rw [if_neg (by decide)]; rfl
  induction d with
  | zero =>
    intro K i own hi hi50 h hl hK
    obtain ⟨K, rfl⟩ : ∃ q, K = q + 1 := ⟨K - 1, by omega⟩
    simp only [PLaw.tendrillaw8_ShapeGrows.l0]
    rw [decide_eq_false (by omega : ¬ ((i : Int) < 50))]
    split
    · exact runs _ _ _ _ (by omega)
    · exact runs _ _ _ _ (by omega)
  | succ d ih =>
    intro K i own hi hi50 h hl hK
    obtain ⟨K, rfl⟩ : ∃ q, K = q + 1 + 1 + 1 := ⟨K - 3, by omega⟩
    simp only [PLaw.tendrillaw8_ShapeGrows.l0]
    by_cases hx : i < x0.length
    · rw [if_pos (by omega), decide_eq_true (by omega : (i : Int) < 50)]
      have hmem : x0.getD i z23 ∈ x0 := getD_mem hx
      obtain ⟨b1, b2⟩ := hB _ hmem
      have skip : PLaw.tendrillaw8_ShapeGrows.j2 (K + 1) x0 x1 own (own.length : Int) i true = some true := by
        simp only [PLaw.tendrillaw8_ShapeGrows.j2]
        rw [if_pos trivial, show wrap64 ((i : Int) + 1) = ((i + 1 : Nat) : Int) from by unfold wrap64; omega]
        exact ih K (i + 1) own (by omega) (by omega) h (by omega) (by omega)
      simp only [PLaw.tendrillaw8_ShapeGrows.j1]
      rw [if_pos trivial, if_pos (by omega), if_pos (by omega), rd8, RightTermB_f (K + 1) _ b1 (by omega), Option.bind_some]
      by_cases h1 : Right (L (x0.getD i z23).f0)
      · rw [decide_eq_true h1, if_pos rfl]
        by_cases h2 : (x0.getD i z23).f1 < 0
        · rw [if_pos h2]; exact skip
        · rw [if_neg h2]
          by_cases h3 : (x0.getD i z23).f1 > 1099511627776
          · rw [decide_eq_true h3]; exact skip
          · rw [decide_eq_false h3]
            have he : okE (x0.getD i z23) = true := by
              unfold okE
              rw [decide_eq_true h1, decide_eq_true (by omega : 0 ≤ (x0.getD i z23).f1), decide_eq_true (by omega : (x0.getD i z23).f1 ≤ 1099511627776)]; rfl
            simp only [PLaw.tendrillaw8_ShapeGrows.j2]
            rw [if_neg (by decide)]
            have h0 : atOf own (x0.getD i z23).f0 0 = -1 := by unfold atOf; rw [if_neg (fun z => absurd z.1 (by omega))]
            have := Grows_l1 B x0 x1 own i h hl (by omega) hx he (K - 60) (by omega) (fun m hm hlm K' hK' => ih K' (i + 1) m (by omega) (by omega) hm hlm (by omega)) own.length K 0 (by omega) (by omega) (by omega)
            rw [h0] at this
            exact this
      · rw [decide_eq_false h1, if_neg (by decide)]; exact skip
    · rw [if_neg (by omega)]
      exact runs _ _ _ _ (by omega)
theorem Grows_f (B : Nat) (x0 : List S23) (x1 : List Bool) (hB : ∀ x ∈ x0, x.f0.size < 9223372036854775808 ∧ x.f0.size ≤ B) : PLaw.tendrillaw8_ShapeGrows.f (20000 + B) x0 x1 = some true := by
  unfold PLaw.tendrillaw8_ShapeGrows.f
  exact Grows_l0 B x0 x1 hB 50 (20000 + B) 0 [] (by omega) (by omega) (by decide +kernel) (by decide) (by omega)
open Go.ChangeShapes Go.WideShapes Go.Deep in
/-- a slice of bools that came in, as the caller handed it. -/
theorem open_boolrow {H : Type} {enc : TypeId × Value → H} {w : World} {base : Nat} {spare : Nat → Bool} {held : Bool} {len cap : Nat} {a : Option Addr} {d : DataW H} {ps : List MemPlace} (hC : Tryd.prog.cellsOf 4 = 1)
    (h : DataW.Trod enc Tryd.prog w base spare held 39 (.slice a len cap) d ps) : ∃ z : List Bool, z.length = len ∧ len ≤ cap ∧ Kd.C Kd.bool w a len z := by
  obtain ⟨fuel, hf⟩ := h
  rcases open_slice Tryd.underlying39 hf with ⟨hcs, _⟩ | ⟨x, l, c, m, n, D, Pl, hcs, _, hl, hm, hmm, _, hi⟩
  · simp [Value.cells] at hcs
    obtain ⟨rfl, rfl, rfl⟩ := hcs
    exact ⟨[], rfl, Nat.le_refl _, ⟨rfl, by omega, fun h0 => absurd h0 (by decide)⟩⟩
  · simp [Value.cells] at hcs
    obtain ⟨rfl, rfl, rfl⟩ := hcs
    have hlm : len ≤ m := by rw [hmm]; split <;> omega
    obtain ⟨z, hz, hp⟩ := list_of_fun len (fun i (q : Bool) => w.cell? (x.add (i * 1 + 0)) = some (.bool q)) (fun i hl2 => by
      obtain ⟨cs', hc, ht'⟩ := hi i (by omega)
      rw [hC] at hc
      obtain ⟨_, hcl, hat⟩ := World.cells?_some hc
      obtain ⟨b, hb, _⟩ := DataW.trod_bool Tryd.underlying4 ht'
      have h0 := hat 0 (by decide)
      refine ⟨b, ?_⟩
      have e : cs' = [.bool b] := hb
      subst e
      rw [← Go.Deep.add_add, h0]; rfl)
    exact ⟨z, hz, hl, ⟨hz, by unfold maxLen at hm; omega, fun _ => ⟨x, rfl, fun j p hj => ⟨[.bool p], rfl, rfl, fun i u hu => by
      have h3 := hp j p hj
      match i, hu with
      | 0, hu => simp only [List.getElem?_cons_zero, Option.some.injEq] at hu; subst hu; exact h3
      | i + 1, hu => simp at hu⟩⟩⟩⟩
theorem bound_of (l : List PBase.S23) : ∃ B : Nat, ∀ x ∈ l, x.f0.size ≤ B := by
  induction l with
  | nil => exact ⟨0, fun x hx => by simp at hx⟩
  | cons a r ih =>
    obtain ⟨B, hB⟩ := ih
    refine ⟨B + a.f0.size, fun x hx => ?_⟩
    rcases List.mem_cons.1 hx with rfl | hx
    · omega
    · have := hB x hx; omega
theorem walk (a : Option Addr) (len cap : Nat) (z : List PBase.S23) (a' : Option Addr) (len' cap' : Nat) (z' : List Bool) (w : World) (h : Ent w a len cap z) (e' : z'.length = len') (c' : len' ≤ cap') (k' : Kd.C Kd.bool w a' len' z') : Calls Tryd.prog 7 #[.slice a len cap, .slice a' len' cap'] w fun e w' => e = .returned (.bool true) ∧ Below w.heap.size w w' := by
  obtain ⟨h1, h2, h3, h4⟩ := h
  subst h1
  subst e'
  obtain ⟨B, hB⟩ := bound_of z
  exact PLaw.tendrillaw8_ShapeGrows.calls (20000 + B) a cap z a' cap' z' true w h3 h2 k' c' (Grows_f B z z' (fun x hx => ⟨by have := h4 x hx; omega, hB x hx⟩))
theorem own : ownKnob Tryd.prog.godebug = none := by kernel_rfl
theorem laidOut : laidOutB Tryd.prog = true := by kernel_rfl
def laid3 {H : Type} : List (String × DataW H) := [("math/bits.deBruijn32tab", Rows.laid_math_bits_deBruijn32tab), ("math/bits.deBruijn64tab", Rows.laid_math_bits_deBruijn64tab), ("internal/strconv.uint64pow10", Rows.laid_internal_strconv_uint64pow10)]
theorem door_met (os : Os) (args : Array Value) : laidMetH Tryd.prog laid3 ((World.doorLaid Tryd.prog 24 os).forCall (fun _ _ => 0) ⟨#[], args, []⟩).memory :=
  laidMetH_of_parts3 (fuel := 8) (laidMet_of_run' 8 (by kernel_rfl) (by kernel_rfl)) (by kernel_rfl) (by kernel_rfl)
set_option maxRecDepth 100000 in
theorem lifted (os : Os) (started : os.Started) (H : Type) (enc : TypeId × Value → H) :
    ReturnsInHanded {} Tryd.checked os 7 .any (fun w args => (Rows.shapeGrowsSpec.pre enc Tryd.prog Tryd.f7 [] false w args ∧ laidMetH Tryd.prog laid3 w) ∧ sizedMet enc Tryd.prog Tryd.f7 (OpenSpec.ofChange Rows.shapeGrowsSpec) false w args)
      (Rows.shapeGrowsSpec.post enc Tryd.prog Tryd.f7 false true false false) := by
  refine returnsInHanded_of_change_and (C := Tryd.checked) (X := fun w _ => laidMetH Tryd.prog laid3 w) (fun _ _ _ hh h => h.of_heap hh) own started (by kernel_rfl) Tryd.func7
    (ChangeSpec.witness_shaped (enc := enc) (C := Tryd.checked) (os := os) (X := fun w _ => laidMetH Tryd.prog laid3 w) false (World.doorLaid Tryd.prog 24 os) #[.slice none 0 0, .slice none 0 0] 8 rfl (World.shaped_of_RefB (by kernel_rfl) (by kernel_rfl)) (by kernel_rfl) (by kernel_rfl) (by kernel_rfl) (door_met os _)) ?_
  intro W base args ds gs before hval0 hW hcnd hsz0 _ _
  have hsz : (DataW.weightsEach Tryd.prog (Tryd.f7.params.toList ++ Rows.shapeGrowsSpec.plain.varTypes Tryd.prog) (ds ++ gs)).all (· ≤ reachBytes) = true := hsz0
  have hval : ∀ (j : Nat) t v, Tryd.f7.params[j]? = some t → args[j]? = some v → Value.okWide Tryd.prog W .any base t v := hval0
  have hW' := hW
  obtain ⟨p, q, hA0, hV, rfl, hfz, hnd⟩ := hW
  have hA : DataW.TrodAll enc Tryd.prog W 0 (fun _ => true) true Tryd.f7.params.toList args.toList ds p := hA0
  rw [Tryd.params7] at hA hval hsz
  obtain ⟨v0, vs0, d0, ds0, p0, q0, hargs, rfl, rfl, h0, r0⟩ := trodAll_cons hA
  obtain ⟨v1, vs1, d1, ds1, p1, q1, rfl, rfl, rfl, h1, r1⟩ := trodAll_cons r0
  obtain ⟨rfl, rfl, rfl⟩ := trodAll_nil r1
  obtain rfl : args = #[v0, v1] := by cases args; simp_all
  obtain ⟨rfl, rfl⟩ := trodVars_none hV
  obtain ⟨a0, len0, cap0, rfl⟩ := okWide_slice Tryd.underlying25 (hval 0 25 v0 rfl rfl)
  have k0 := h0
  have lt0 : ∀ x ∈ p0, x.block < W.heap.size := by obtain ⟨m, hm⟩ := k0; exact DataW.trod_lt m _ _ _ hm
  obtain ⟨z0, we0, wc0, wk0, ws0⟩ := open_entries (he := Tryd.underlying23) (by kernel_rfl) (by kernel_rfl) Tryd.underlying9 Tryd.underlying3 h0
  obtain ⟨a1, len1, cap1, rfl⟩ := okWide_slice Tryd.underlying39 (hval 1 39 v1 rfl rfl)
  have k1 := h1
  have lt1 : ∀ x ∈ p1, x.block < W.heap.size := by obtain ⟨m, hm⟩ := k1; exact DataW.trod_lt m _ _ _ hm
  obtain ⟨z1, we1, wc1, wk1⟩ := open_boolrow (by kernel_rfl) h1
  clear hA0 hval0 hsz0 hsz
  refine (walk a0 len0 cap0 z0 a1 len1 cap1 z1 W ⟨we0, wc0, wk0, ws0⟩ we1 wc1 wk1).mono fun e W' ⟨he, bel⟩ => ?_
  subst he
  exact ⟨_, rfl, _, _, _, [], _, [], hW', trodAll_mk1 (shut_bool Tryd.underlying4 _), (trodAll_cons_mk (Below.trod laidOut (by kernel_rfl) (of_decide_eq_true (by kernel_rfl)) k0 bel lt0) (trodAll_cons_mk (Below.trod laidOut (by kernel_rfl) (of_decide_eq_true (by kernel_rfl)) k1 bel lt1) trodAll_mk0)), rfl, bel.frame _, fun h => by cases h⟩
theorem over : Rows.shapeGrowsRow.holds Tryd.pinned (OpenSpec.ofChange Rows.shapeGrowsSpec) :=
  OpenClaim.holds_of_wide 7 Tryd.f7 rfl rfl rfl rfl rfl rfl rfl ⟨rfl, rfl, rfl, rfl, rfl⟩ rfl rfl rfl rfl rfl (by kernel_rfl) Tryd.func7 (by kernel_rfl)
    (of_decide_eq_true (by kernel_rfl)) (by unfold Func.isWrapper; first | (rw [if_pos (by decide +kernel)]; kernel_rfl) | (rw [if_neg (by decide +kernel)]; exact ⟨rfl, rfl⟩))
    (fun os started H enc _ => lifted os started H enc)
theorem proved : Rows.ShapeGrowsSaid := over
#print axioms proved
end Go.Proofs.YtdjjmnkopoldhaaDoor.shapeGrows
namespace Go.Proofs.YtdjjmnkopoldhaaDoor
/-- The tied card, for the claim. -/
theorem shapeGrows_holds : Rows.ShapeGrowsCardSaid :=
  Claim7.holds_tied_plain_at .later [] [.data, .data, .data] true (true, "29ee579d745f70bf791a9445bb4d7f3299b09fc95b3ed22776cb9c3bfad44d91") false
    shapeGrows.proved (fun _ h => by cases h) (by kernel_rfl) (fun _ h => by cases h) shapeGrows_row_tie rfl ⟨rfl, rfl⟩ (by kernel_rfl) rfl
    (fun f fn hf hfn => by
      obtain rfl : f = 7 := Option.some.inj ((show Tryd.prog.funcNamed "tendril/tendrillaw8.ShapeGrows" = some 7 by kernel_rfl).symm.trans hf) |>.symm
      obtain rfl : fn = Tryd.f7 := (Option.some.inj (Tryd.func7.symm.trans hfn)).symm
      exact ⟨by kernel_rfl, fun j t ht => by
        rw [Tryd.params7] at ht
        have h3 : t = 25 ∨ t = 39 := by
          rcases j with _ | j
          · simp at ht; first | exact ht.symm | exact Or.inl ht.symm | exact Or.inr ht.symm | exact Or.inr (Or.inl ht.symm) | exact Or.inr (Or.inr ht.symm)
          rcases j with _ | j
          · simp at ht; first | exact ht.symm | exact Or.inl ht.symm | exact Or.inr ht.symm | exact Or.inr (Or.inl ht.symm) | exact Or.inr (Or.inr ht.symm)
          simp at ht
        rcases h3 with rfl | rfl
        · exact (show Tryd.prog.wantsStandIn 25 = false by kernel_rfl)
        · exact (show Tryd.prog.wantsStandIn 39 = false by kernel_rfl)⟩)
    (by kernel_rfl)
#print axioms shapeGrows_holds
end Go.Proofs.YtdjjmnkopoldhaaDoor
