import Derived.Test.YtdjjmnkopoldhaaDoorInn
import Derived.WalkKit
import Derived.ProofKit
import Derived.Below
import Derived.WalkLawsBesides
import Derived.Deep.QuietTactic
import Derived.BigQuiet
import Derived.StillTailTactics
import Derived.Deep.AppendLies
import Derived.Deep.RegionHeld3
import Derived.KernelRfl
import Derived.BigRegion
import Derived.WalkSpells
import Derived.Deep.Slices
import Derived.Deep.Fields
import Derived.ChangeSame
import Derived.Deep.RegionLaw
import Derived.Deep.DrawnRows
import Derived.Lib.SliceRun
import Derived.Laws.IdiomCopy
import Derived.Lib.JoinLaws
import Derived.Lib.AppendZeros
import Derived.Lib.Overlaps
import Derived.Laws.Externs
import Derived.Shelf.Spec.SlicesInsert
import Derived.Shelf.Spec.SlicesInsertGrow
namespace Go.Proofs.YtdjjmnkopoldhaaDoor.Ep
open Go Go.RowKit Go.Proofs.YtdjjmnkopoldhaaDoorW.PrintWords Go.Proofs.YtdjjmnkopoldhaaDoorW.PrintLast Go.Proofs.YtdjjmnkopoldhaaDoorW.PrintMore Go.Proofs.YtdjjmnkopoldhaaDoor.PBase Go.Tx
set_option linter.unusedVariables false
set_option linter.unusedSimpArgs false
/-- the cells of a list of entries, one behind the other. -/
def flat (l : List S23) : List Value := l.flatMap (fun e => [.string e.f0, .int .i64 e.f1])
theorem flat_len (l : List S23) : (flat l).length = l.length * 2 := by
  induction l with
  | nil => rfl
  | cons a l ih =>
    rw [show flat (a :: l) = .string a.f0 :: .int .i64 a.f1 :: flat l from rfl, List.length_cons, List.length_cons, List.length_cons, ih]
    omega
theorem flat_app (l m : List S23) : flat (l ++ m) = flat l ++ flat m := by unfold flat; rw [List.flatMap_append]
theorem flat_get (l : List S23) (i p : Nat) (hi : i < l.length) (hp : p < 2) : (flat l)[i * 2 + p]? = [Value.string (l.getD i z23).f0, Value.int .i64 (l.getD i z23).f1][p]? := by
  induction l generalizing i with
  | nil => exact absurd hi (by simp)
  | cons a l ih =>
    rw [show flat (a :: l) = .string a.f0 :: .int .i64 a.f1 :: flat l from rfl]
    cases i with
    | zero =>
      match p, hp with
      | 0, _ => rfl
      | 1, _ => rfl
    | succ i =>
      rw [show (i + 1) * 2 + p = (i * 2 + p) + 1 + 1 by omega, List.getElem?_cons_succ, List.getElem?_cons_succ, ih i (by simpa using hi)]
      rfl
theorem flat_one (l : List S23) : ∀ u ∈ flat l, u.oneCell' = true := by
  intro u hu
  unfold flat at hu
  rw [List.mem_flatMap] at hu
  obtain ⟨e, _, h⟩ := hu
  simp only [List.mem_cons, List.not_mem_nil, or_false] at h
  rcases h with rfl | rfl <;> rfl
theorem C_flat {w : World} {ad : Addr} {l : List S23} (h : Kd.C k23 w (some ad) l.length l) : ∀ j u, (flat l)[j]? = some u → w.cell? (ad.add j) = some u := by
  intro j u hu
  have hj : j < (flat l).length := (List.getElem?_eq_some_iff.1 hu).1
  rw [flat_len] at hj
  obtain ⟨ad', c, e, _, hK, hc0⟩ := Kd.C_get h z23 ((j / 2 : Nat) : Int) (by omega) (by omega)
  injection e with e
  subst e
  obtain rfl := k23_open hK
  have hh := hc0 (j % 2) u
  rw [Int.toNat_natCast] at hh
  have e2 : j / 2 * 2 + j % 2 = j := by omega
  rw [show j / 2 * k23.sz + j % 2 = j from e2] at hh
  refine hh ?_
  rw [← e2, flat_get l (j / 2) (j % 2) (by omega) (by omega)] at hu
  exact hu
set_option maxHeartbeats 2000000 in
set_option maxRecDepth 100000 in
theorem clone_ (A : Option Addr) (c : Nat) (l : List S23) (w : World) (hC : Kd.C k23 w A l.length l) (hc : l.length ≤ c) (hl : l.length ≤ 1000) :
    Calls Tryd.prog 22 #[.slice A l.length c] w fun e w' => ∃ v', e = .returned v' ∧ w'.ownsRow w.heap.size 23 2 v' l.length (flat l) ∧ Below w.heap.size w w' := by
  obtain ⟨i0, hi0, hz0, hz1, hz2⟩ := info_parts info23_8
  have q22 : ∀ (w : World) (a : Option Addr) (n c n' c' : Nat), (binOp .eql 25 (.slice a n c) (.slice none n' c')).run Tryd.prog w = .ok (.bool a.isNone) w := fun w a n c n' c' => Lib.run_eql_slice_nil w _ _ a n c n' c' Tryd.underlying25
  cases A with
  | none =>
    have h0 : l = [] := by
      rcases Nat.eq_zero_or_pos l.length with h | h
      · exact List.length_eq_zero_iff.1 h
      · obtain ⟨ad, e, _⟩ := hC.2.2 h; cases e
    subst h0
    clear hC
    go_enter Tryd.func22, Tryd.ntmps22
    go_wp2
    go_ret
    exact ⟨_, rfl, ⟨rfl, Or.inl ⟨rfl, rfl⟩⟩, Below.refl _ _⟩
  | some ad =>
    have HC := Aside0.mk (C_flat hC)
    clear hC
    have HL := Aside0.mk (flat_len l)
    obtain ⟨n, hn⟩ : ∃ n, n = l.length := ⟨_, rfl⟩
    obtain ⟨news, hnews⟩ : ∃ news, news = flat l := ⟨_, rfl⟩
    have h1 := Aside0.mk (flat_one l)
    rw [← hnews] at HC HL h1 ⊢
    rw [← hn] at HL hl hc ⊢
    clear hn hnews
    go_enter Tryd.func22, Tryd.ntmps22
    go_wp2_with (at_builtin; refine wpList_append_own _ rfl _ _ 25 rfl w.heap.size 23 i0 _ 2 24 Tryd.underlying25 hi0 hz0 hz1 hz2 rfl (by decide) _ _ _ rfl (World.ownsRow_made w #[] 0 (Nat.le_refl _) (Nat.zero_le _) (by simp)) ad n c news rfl ?qc1 ?qc2 ?qc3 ?qc4 ?qc5 ?qc6 ?_)
    case qc1 => exact HL.out
    case qc2 =>
      intro j u hj
      exact Lib.cell?_alloc_some _ (HC.out j u hj)
    case qc3 => exact h1.out
    case qc4 => rw [Nat.zero_add]; unfold maxLen; omega
    case qc5 => rw [Nat.zero_add]; omega
    case qc6 => simp
    intro v' w1 hown hgrow hnil
    go_wp2
    go_ret
    refine ⟨v', rfl, by simpa using hown, ?_⟩
    exact ((Below.refl _ w).alloc (Nat.le_refl _) _).grown hgrow (by simp) (by intro k hk; simp [Value.ownBlock] at hk; omega)
/-- a block of entries: all its cells. -/
def Blk (w : World) (g cap : Nat) (cs : List Value) : Prop := ∃ cur : Array Value, w.heap[g]? = some (.cells cur 23 (0, 0)) ∧ cur.toList = cs ∧ cs.length = cap * 2
theorem Blk.cell {w : World} {g cap : Nat} {cs : List Value} (h : Blk w g cap cs) (j : Nat) : w.cell? ⟨g, j, none⟩ = cs[j]? := by
  obtain ⟨cur, h1, h2, _⟩ := h
  rw [Lib.cell_of_heap h1, ← h2, Array.getElem?_toList]
theorem Blk.frozen {w : World} {g cap : Nat} {cs : List Value} (h : Blk w g cap cs) (j : Nat) : w.frozen? ⟨g, j, none⟩ = false := by
  obtain ⟨cur, h1, _, _⟩ := h
  exact Lib.frozen_of_heap h1 j
theorem Blk.lt {w : World} {g cap : Nat} {cs : List Value} (h : Blk w g cap cs) : g < w.heap.size := by
  obtain ⟨cur, h1, _, _⟩ := h
  rcases Nat.lt_or_ge g w.heap.size with h' | h'
  · exact h'
  · simp [Array.getElem?_eq_none h'] at h1
theorem Blk.setCell {w : World} {g cap : Nat} {cs : List Value} (h : Blk w g cap cs) (j : Nat) (u : Value) : Blk (w.setCell ⟨g, j, none⟩ u) g cap (cs.set j u) := by
  obtain ⟨cur, h1, h2, h3⟩ := h
  refine ⟨cur.setIfInBounds j u, heap_setCell_same w g j cur 23 u h1, ?_, by rw [List.length_set]; exact h3⟩
  rw [Array.toList_setIfInBounds, h2]
theorem Blk.setCells {g cap : Nat} : ∀ (vs : List Value) {w : World} {cs : List Value} (h : Blk w g cap cs) (o : Nat) (ho : o + vs.length ≤ cap * 2), Blk (w.setCells g o vs) g cap (cs.take o ++ vs ++ cs.drop (o + vs.length))
  | [], w, cs, h, o, ho => by
    rw [World.setCells]
    simpa using h
  | v :: r, w, cs, h, o, ho => by
    rw [World.setCells]
    have h2 := Blk.setCells r (h.setCell o v) (o + 1) (by rw [List.length_cons] at ho; omega)
    have e : (cs.set o v).take (o + 1) ++ r ++ (cs.set o v).drop (o + 1 + r.length) = cs.take o ++ v :: r ++ cs.drop (o + (v :: r).length) := by
      have hlt : o < cs.length := by obtain ⟨_, _, _, h3⟩ := h; rw [List.length_cons] at ho; omega
      rw [List.drop_set_of_lt (by omega), List.take_set, List.length_cons, show o + (r.length + 1) = o + 1 + r.length by omega]
      congr 1
      rw [show cs.take o ++ v :: r = (cs.take o ++ [v]) ++ r by simp]
      congr 1
      rw [List.take_succ_eq_append_getElem hlt, List.set_append]
      simp [Nat.min_eq_left (Nat.le_of_lt hlt)]
    rw [← e]
    exact h2
theorem below_setCells {B g : Nat} (hB : B ≤ g) : ∀ (vs : List Value) {w0 w : World} (o : Nat) (h : Below B w0 w), Below B w0 (w.setCells g o vs)
  | [], _, _, _, h => by rw [World.setCells]; exact h
  | v :: r, _, _, o, h => by rw [World.setCells]; exact below_setCells hB r (o + 1) (h.setCell (p := ⟨g, o, none⟩) hB v)
theorem own_blk {w : World} {base n : Nat} {v : Value} {xs : List Value} (h : w.ownsRow base 23 2 v n xs) (hn : 0 < n) :
    ∃ g cap cs, v = .slice (some ⟨g, 0, none⟩) n cap ∧ base ≤ g ∧ Blk w g cap cs ∧ n ≤ cap ∧ cap ≤ maxLen ∧ cs.take (n * 2) = xs := by
  rcases h.2 with ⟨_, h0⟩ | ⟨g, cap, cur, hv, hb, hg, hnc, hcm, hcs, ht⟩
  · omega
  · exact ⟨g, cap, cur.toList, hv, hb, ⟨cur, hg, rfl, by rw [Array.length_toList]; exact hcs⟩, hnc, hcm, ht⟩
theorem blk_own {w : World} {base g cap n : Nat} {cs : List Value} (hb : base ≤ g) (h : Blk w g cap cs) (hn : n ≤ cap) (hc : cap ≤ maxLen) : w.ownsRow base 23 2 (.slice (some ⟨g, 0, none⟩) n cap) n (cs.take (n * 2)) := by
  obtain ⟨cur, h1, h2, h3⟩ := h
  refine ⟨by rw [List.length_take]; omega, Or.inr ⟨g, cap, cur, rfl, hb, h1, hn, hc, by rw [← Array.length_toList, h2]; exact h3, by rw [h2]⟩⟩
theorem flat_take (l : List S23) (k : Nat) : (flat l).take (k * 2) = flat (l.take k) := by
  induction l generalizing k with
  | nil => cases k <;> rfl
  | cons a l ih =>
    cases k with
    | zero => rfl
    | succ k =>
      rw [show flat (a :: l) = .string a.f0 :: .int .i64 a.f1 :: flat l from rfl, show (k + 1) * 2 = k * 2 + 1 + 1 by omega, List.take_succ_cons, List.take_succ_cons, ih, List.take_succ_cons]
      rfl
theorem flat_drop (l : List S23) (k : Nat) : (flat l).drop (k * 2) = flat (l.drop k) := by
  induction l generalizing k with
  | nil => simp [flat]
  | cons a l ih =>
    cases k with
    | zero => rfl
    | succ k =>
      rw [show flat (a :: l) = .string a.f0 :: .int .i64 a.f1 :: flat l from rfl, show (k + 1) * 2 = k * 2 + 1 + 1 by omega, List.drop_succ_cons, List.drop_succ_cons, ih, List.drop_succ_cons]
theorem own_R {w : World} {base : Nat} {v : Value} {l : List S23} (h : w.ownsRow base 23 2 v l.length (flat l)) : Kd.R k23 23 w base (fun _ => True) v l := by
  refine ⟨fun _ _ => trivial, flat l, h, flat_len l, fun j p hp => ?_⟩
  have hj : j < l.length := (List.getElem?_eq_some_iff.1 hp).1
  have e : ((flat l).drop (j * 2)).take 2 = [.string p.f0, .int .i64 p.f1] := by
    rw [flat_drop, show (2 : Nat) = 1 * 2 from rfl, flat_take, List.drop_eq_getElem_cons hj, List.take_succ_cons]
    rw [show l[j] = p from (List.getElem?_eq_some_iff.1 hp).2]
    rfl
  show k23.M _ _ _ p (((flat l).drop (j * 2)).take 2)
  rw [e]
  exact k23_mkM _ _ _ p
def z2 : List Value := [.string (⟨#[]⟩ : ByteArray), .int .i64 0]
theorem run_clear23 (w : World) (ty : TypeId) (g o c : Nat) (hc : ∀ j, j < 2 → (w.cell? ⟨g, o + j, none⟩).isSome = true) (hf : ∀ j, j < 2 → w.frozen? ⟨g, o + j, none⟩ = false) :
    (Builtin.clear_ #[25] ty #[.slice (some ⟨g, o, none⟩) 1 c]).run Tryd.prog w = .ok (.tuple #[]) (w.setCells g o z2) := by
  have hzc : (Builtin.zeroCells (Value.agg #[.string (⟨#[]⟩ : ByteArray), .int .i64 0]).cells 1).toList = z2 := by
    have e : (Value.agg #[.string (⟨#[]⟩ : ByteArray), .int .i64 0]).cells = #[.string (⟨#[]⟩ : ByteArray), .int .i64 0] := by simp [Value.cells]
    rw [e]
    simp [Builtin.zeroCells, z2, Array.range, List.range, List.range.loop]
  have hst := run_storeCells_cells (P := Tryd.prog) g o z2 0 w (by simpa [z2] using hc) (by simpa [z2] using hf) (by intro v hv; simp [z2] at hv; rcases hv with rfl | rfl <;> rfl)
  simp only [Nat.add_zero] at hst
  simp [Builtin.clear_, run_underlying Tryd.underlying25, Tryd.zeroValue23, hzc, hst]
theorem del_cells (l : List S23) (cs : List Value) (i cap : Nat) (hcs : cs.take (l.length * 2) = flat l) (hi : i < l.length) (hl : cs.length = cap * 2) (hn : l.length ≤ cap) :
    let c1 := cs.take (i * 2) ++ flat (l.drop (i + 1)) ++ cs.drop (i * 2 + (flat (l.drop (i + 1))).length)
    let c2 := c1.take ((l.length - 1) * 2) ++ z2 ++ c1.drop ((l.length - 1) * 2 + z2.length)
    c2.take ((l.length - 1) * 2) = flat (l.take i ++ l.drop (i + 1)) := by
  intro c1 c2
  have e1 : cs.take (i * 2) = flat (l.take i) := by
    rw [← flat_take, ← hcs, List.take_take, Nat.min_eq_left (by omega)]
  have e2 : (flat (l.take i) ++ flat (l.drop (i + 1))).length = (l.length - 1) * 2 := by
    rw [List.length_append, flat_len, flat_len, List.length_take, List.length_drop]; omega
  have e3 : c1.take ((l.length - 1) * 2) = flat (l.take i ++ l.drop (i + 1)) := by
    show (cs.take (i * 2) ++ flat (l.drop (i + 1)) ++ _).take _ = _
    rw [e1, ← e2, List.take_left, flat_app]
  have e4 : (c1.take ((l.length - 1) * 2)).length = (l.length - 1) * 2 := by rw [e3, flat_app, e2]
  show (c1.take ((l.length - 1) * 2) ++ z2 ++ _).take _ = _
  rw [List.append_assoc]
  conv => lhs; rw [← e4]
  rw [e4, List.take_append_of_le_length (by rw [e4]; exact Nat.le_refl _), List.take_take, Nat.min_self, e3]
set_option maxHeartbeats 4000000 in
set_option maxRecDepth 100000 in
theorem delete_ (g cap : Nat) (cs : List Value) (l : List S23) (i : Nat) (w : World) (hB : Blk w g cap cs) (hcs : cs.take (l.length * 2) = flat l) (hn : l.length ≤ cap) (hcap : cap ≤ maxLen) (hi : i < l.length) :
    Calls Tryd.prog 23 #[.slice (some ⟨g, 0, none⟩) l.length cap, .int .i64 (i : Int), .int .i64 ((i + 1 : Nat) : Int)] w fun e w' => e = .returned (.slice (some ⟨g, 0, none⟩) (l.length - 1) cap) ∧
      (∃ cs', Blk w' g cap cs' ∧ cs'.take ((l.length - 1) * 2) = flat (l.take i ++ l.drop (i + 1))) ∧ ∀ B, B ≤ g → Below B w w' := by
  obtain ⟨i0, hi0, hz0, hz1, hz2⟩ := info_parts info23_8
  obtain ⟨hl1, hl2⟩ : cs.length = cap * 2 ∧ cap ≤ 9223372036854775807 := ⟨by obtain ⟨_, _, _, h3⟩ := hB; exact h3, by unfold maxLen at hcap; omega⟩
  obtain ⟨n, hn'⟩ : ∃ n, n = l.length := ⟨_, rfl⟩
  obtain ⟨j, hj⟩ : ∃ j, j = i + 1 := ⟨_, rfl⟩
  obtain ⟨news, hnews⟩ : ∃ news, news = flat (l.drop (i + 1)) := ⟨_, rfl⟩
  have hlen : news.length = (n - j) * 2 := by rw [hnews, flat_len, List.length_drop, ← hn', ← hj]
  obtain ⟨A, hA, hsrc⟩ : ∃ A : Addr, (if cap = j then some (⟨g, 0, none⟩ : Addr) else some ⟨g, j * 2, none⟩) = some A ∧ Aside0 (∀ t u, news[t]? = some u → w.drew.cell? (A.add t) = some u) := by
    by_cases h : cap = j
    · refine ⟨⟨g, 0, none⟩, by simp [h], ⟨fun t u hu => ?_⟩⟩
      have h0 : news.length = 0 := by rw [hlen]; omega
      rw [List.length_eq_zero_iff.1 h0] at hu
      simp at hu
    · refine ⟨⟨g, j * 2, none⟩, by simp [h], ⟨fun t u hu => ?_⟩⟩
      have ht : t < (n - j) * 2 := by
        have := (List.getElem?_eq_some_iff.1 hu).1
        rwa [hlen] at this
      rw [Addr.add_lit]
      show w.cell? _ = _
      rw [hB.cell]
      rw [hnews, ← flat_drop, ← hcs, List.getElem?_drop, ← hj, List.getElem?_take, if_pos (by omega)] at hu
      exact hu
  have s2 : Aside0 (∀ u ∈ news, u.oneCell' = true) := ⟨by rw [hnews]; exact flat_one _⟩
  have hBd : Blk w.drew g cap cs := hB
  have s3 : Aside0 (∀ t, t < news.length → (w.drew.cell? ⟨g, 0 + i * 2 + t, none⟩).isSome = true ∧ w.drew.frozen? ⟨g, 0 + i * 2 + t, none⟩ = false) := ⟨by
    intro t ht
    rw [hlen] at ht
    exact ⟨by rw [hBd.cell, List.getElem?_eq_getElem (by omega)]; rfl, hBd.frozen _⟩⟩
  obtain ⟨W1, hW1⟩ : ∃ W1, W1 = w.drew.setCells g (0 + i * 2) news := ⟨_, rfl⟩
  have hB1 : Blk W1 g cap (cs.take (i * 2) ++ news ++ cs.drop (i * 2 + news.length)) := by
    rw [hW1, Nat.zero_add]
    exact Blk.setCells news hBd (i * 2) (by rw [hlen]; omega)
  have hB2 := Blk.setCells z2 hB1 ((n - 1) * 2) (by simp only [z2, List.length_cons, List.length_nil]; omega)
  have hl3 : (cs.take (i * 2) ++ news ++ cs.drop (i * 2 + news.length)).length = cap * 2 := by obtain ⟨_, _, _, h3⟩ := hB1; exact h3
  have hcl : ∀ ty c, (Builtin.clear_ #[25] ty #[.slice (some ⟨g, (n - 1) * 2, none⟩) 1 c]).run Tryd.prog W1 = .ok (.tuple #[]) (W1.setCells g ((n - 1) * 2) z2) :=
    fun ty c => run_clear23 W1 ty g ((n - 1) * 2) c (fun t ht => by rw [hB1.cell, List.getElem?_eq_getElem (by omega)]; rfl) (fun t _ => hB1.frozen _)
  have HD := Aside0.mk (del_cells l cs i cap hcs hi hl1 hn)
  have HB2 := Aside0.mk hB2
  have HW := Aside0.mk hW1
  have HN := Aside0.mk hn'
  have HJ := Aside0.mk hj
  have HNW := Aside0.mk hnews
  have HL := Aside0.mk hlen
  have hic : i ≤ cap := by omega
  have hjc : j ≤ cap := by omega
  have hin : i ≤ n := by omega
  have hjn : j ≤ n := by omega
  have hij : i < j := by omega
  have hncap : n ≤ cap := by omega
  rw [← hj, ← hn']
  clear hW1 hB1 hB2 hBd hl3 hl1 hB hcs hnews hlen hn' hn hi hj
  have hm := HJ.out
  obtain ⟨m, hm1⟩ : ∃ m, m = n - 1 := ⟨_, rfl⟩
  have hsum : i + (n - j) = m := by omega
  have hmn : m ≤ n := by omega
  have hmc : m ≤ cap := by omega
  have hcm : (cap = m) = False := eq_false (by omega)
  have hnm : n - m = 1 := by omega
  rw [← hm1] at hcl HB2 ⊢
  have HM := Aside0.mk hm1
  clear hm hm1
  go_enter Tryd.func23, Tryd.ntmps23
  go_wp2_with fail
  go_region_law (refine step_append_room rfl (.tmp 22) (.tmp 25) 25 rfl 23 i0 2 Tryd.underlying25 hi0 hz1 g 0 i cap (by simp [Act.eval, Act.put]) A (n - j) (cap - j) news (by simp [Act.eval, Act.put]) HL.out hsrc.out s2.out (by omega) s3.out ?_; rw [← HW.out])
  go_wp2
  go_ret
  refine ⟨by rfl, ⟨_, HB2.out, ?_⟩, fun B hB => ?_⟩
  · have h1 := HD.out
    have h2 := HM.out
    rw [HN.out] at h2
    rw [← h2, ← HNW.out] at h1
    rw [HJ.out]
    exact h1
  · rw [HW.out]
    exact below_setCells hB _ _ (below_setCells hB _ _ (Below.refl _ _).drew)
/-- copy of entries: two cells each. -/
theorem run_copy23 (w : World) (ty : TypeId) (b o dLen dCap : Nat) (a : Addr) (sLen sCap m : Nat) (cs : List Value) (hm : m = Nat.min sLen dLen) (hn : cs.length = m * 2)
    (hsrc : ∀ j v, cs[j]? = some v → w.cell? (a.add j) = some v) (hc : ∀ j, j < cs.length → (w.cell? ⟨b, o + j, none⟩).isSome = true) (hf : ∀ j, j < cs.length → w.frozen? ⟨b, o + j, none⟩ = false) (h1 : ∀ v ∈ cs, v.oneCell' = true) :
    (Builtin.copy_ #[25, 25] ty #[.slice (some ⟨b, o, none⟩) dLen dCap, .slice (some a) sLen sCap]).run Tryd.prog w = .ok (goInt m) (w.setCells b o cs) := by
  have hl := run_loadCells_list (P := Tryd.prog) w a cs hsrc
  have hst := run_storeCells_cells (P := Tryd.prog) b o cs 0 w (by simpa using hc) (by simpa using hf) h1
  obtain ⟨i, hq, _, hi, _⟩ := info_parts info23_8
  rw [hn] at hl
  simp [Builtin.copy_, run_underlying Tryd.underlying25, Builtin.lenOf, Builtin.firstCells, sizeOf, typeInfo, hq, hi, ← hm, hl, hst]
set_option maxHeartbeats 4000000 in
set_option maxRecDepth 100000 in
/-- slices.Insert at the end. -/
theorem insert_end (base : Nat) (v : Value) (l : List S23) (e : S23) (gv : Nat) (w : World) (hl : l.length ≤ 1000) (hb : base ≤ w.heap.size) (ho : w.ownsRow base 23 2 v l.length (flat l))
    (hv0 : w.cell? ⟨gv, 0, none⟩ = some (.string e.f0)) (hv1 : w.cell? ⟨gv, 1, none⟩ = some (.int .i64 e.f1)) :
    Calls Tryd.prog 29 #[v, .int .i64 (l.length : Int), .slice (some ⟨gv, 0, none⟩) 1 1] w fun e' w' => ∃ v', e' = .returned v' ∧ w'.ownsRow base 23 2 v' (l.length + 1) (flat (l ++ [e])) ∧ Below base w w' := by
  obtain ⟨i0, hi0, hz0, hz1, hz2⟩ := info_parts info23_8
  have HO := Aside0.mk ho
  obtain ⟨n, hn⟩ : ∃ n, n = l.length := ⟨_, rfl⟩
  obtain ⟨ao, cap, hv, hcap⟩ : ∃ ao cap, v = .slice ao n cap ∧ n ≤ cap := by
    rcases ho.2 with ⟨hv, h0⟩ | ⟨g, cap, cur, hv, _, _, hnc, _⟩
    · exact ⟨none, 0, by rw [hv, hn, h0], by omega⟩
    · exact ⟨_, _, by rw [hv, hn], by omega⟩
  subst hv
  have hnews : Aside0 (∀ j u, ([.string e.f0, .int .i64 e.f1] : List Value)[j]? = some u → w.cell? ((⟨gv, 0, none⟩ : Addr).add j) = some u) := ⟨by
    intro j u hu
    match j, hu with
    | 0, hu => simp at hu; subst hu; simpa [Addr.add] using hv0
    | 1, hu => simp at hu; subst hu; simpa [Addr.add] using hv1⟩
  have hbd : Aside0 (∀ k, (Value.slice ao n cap).ownBlock = some k → base ≤ k) := ⟨fun k hk => (ho.lt k hk).1⟩
  rw [← hn] at HO hl ⊢
  have HN := Aside0.mk hn
  have hcut := cut_from (P := Tryd.prog) 25 23 .i64 Tryd.underlying25 hi0 2 hz1 ao n cap (n : Int) (by omega) (by omega)
  rw [Int.toNat_natCast] at hcut
  obtain ⟨A9, hA9⟩ : ∃ A9, A9 = (if cap = n then ao else ao.map (·.add (n * 2))) := ⟨_, rfl⟩
  rw [← hA9] at hcut
  clear hA9
  clear ho hv0 hv1 hn
  go_enter Tryd.func29, Tryd.ntmps29
  go_wp2_with (at_builtin; refine wpList_append_own _ rfl _ _ 25 rfl base 23 i0 _ 2 24 Tryd.underlying25 hi0 hz0 hz1 hz2 rfl (by decide) _ _ _ rfl HO.out ⟨gv, 0, none⟩ 1 1 [.string e.f0, .int .i64 e.f1] rfl ?qc1 ?qc2 ?qc3 ?qc4 ?qc5 ?qc6 ?_)
  case qc1 => rfl
  case qc2 => exact hnews.out
  case qc3 => intro u hu; simp at hu; rcases hu with rfl | rfl <;> rfl
  case qc4 => unfold maxLen; omega
  case qc5 => omega
  case qc6 => exact hb
  intro v' w1 hown hgrow hnil
  go_wp2
  go_ret
  refine ⟨v', rfl, by rw [flat_app]; exact hown, (Below.refl _ w).mono (Nat.le_refl _) |>.grown hgrow hb hbd.out⟩
theorem Blk.shape {w : World} {g cap : Nat} {cs : List Value} (h : Blk w g cap cs) : w.shape? g = some (23, cap * 2) := by
  obtain ⟨cur, h1, h2, h3⟩ := h
  simp [World.shape?, h1, ← h3, ← h2]
set_option maxHeartbeats 4000000 in
set_option maxRecDepth 100000 in
/-- slices.Insert ahead of the end, where there is room. -/
theorem insert_shift (g cap gv : Nat) (cs : List Value) (l : List S23) (e : S23) (i : Nat) (w : World) (hB : Blk w g cap cs) (hcs : cs.take (l.length * 2) = flat l) (hroom : l.length + 1 ≤ cap) (hcap : cap ≤ maxLen) (hi : i < l.length) (hl : l.length ≤ 1000)
    (hV : Blk w gv 1 [.string e.f0, .int .i64 e.f1]) (hgv : gv ≠ g) :
    Calls Tryd.prog 29 #[.slice (some ⟨g, 0, none⟩) l.length cap, .int .i64 (i : Int), .slice (some ⟨gv, 0, none⟩) 1 1] w fun e' w' => e' = .returned (.slice (some ⟨g, 0, none⟩) (l.length + 1) cap) ∧
      w' = (w.drew.setCells g ((i + 1) * 2) (flat (l.drop i))).setCells g (i * 2) [.string e.f0, .int .i64 e.f1] := by
  obtain ⟨i0, hi0, hz0, hz1, hz2⟩ := info_parts info23_8
  obtain ⟨hl1, hl2⟩ : cs.length = cap * 2 ∧ cap ≤ 9223372036854775807 := ⟨by obtain ⟨_, _, _, h3⟩ := hB; exact h3, by unfold maxLen at hcap; omega⟩
  obtain ⟨n, hn⟩ : ∃ n, n = l.length := ⟨_, rfl⟩
  rw [← hn] at hcs hroom hi hl ⊢
  obtain ⟨j, hp'⟩ : ∃ j, j = i + 1 := ⟨_, rfl⟩
  rw [← hp']
  have hov : ∀ lb cb, (callFunc 36 #[.slice (some ⟨gv, 0, none⟩) 1 1, .slice (some ⟨g, j * 2, none⟩) lb cb]).run Tryd.prog w = .ok (.value (.bool false)) w := fun lb cb => by
    rw [run_callFunc_extern Tryd.func36 (by kernel_rfl) (by kernel_rfl) (by kernel_rfl) (e := Extern.SlicesOverlaps.overlaps #[25, 25] #[4]) (by kernel_rfl),
      Lib.run_overlaps_apart w 25 4 23 Tryd.underlying25 2 Tryd.sizeOf23 ⟨gv, 0, none⟩ ⟨g, j * 2, none⟩ 1 1 lb cb hgv 23 23 (1 * 2) (cap * 2) hV.shape hB.shape (by omega) (hV.frozen _) (hV.frozen _)]
    rfl
  have hBd : Blk w.drew g cap cs := hB
  have hdl : (flat (l.drop i)).length = (n - i) * 2 := by rw [flat_len, List.length_drop, ← hn]
  have hcp1 : ∀ ty dc sc, (Builtin.copy_ #[25, 25] ty #[.slice (some ⟨g, j * 2, none⟩) (n + 1 - j) dc, .slice (some ⟨g, i * 2, none⟩) (n + 1 - i) sc]).run Tryd.prog w.drew = .ok (goInt ((n - i : Nat) : Int)) (w.drew.setCells g (j * 2) (flat (l.drop i))) := fun ty dc sc =>
    run_copy23 w.drew ty g (j * 2) (n + 1 - j) dc ⟨g, i * 2, none⟩ (n + 1 - i) sc (n - i) (flat (l.drop i)) (by simp only [Nat.min_def]; split <;> omega) hdl
      (fun p v hp => by
        rw [Addr.add_lit, hBd.cell]
        have hlt := (List.getElem?_eq_some_iff.1 hp).1
        rw [← flat_drop, ← hcs, List.getElem?_drop, List.getElem?_take] at hp
        rw [if_pos (by omega)] at hp
        exact hp)
      (fun p hp => by rw [hBd.cell, List.getElem?_eq_getElem (by omega)]; rfl) (fun p hp => hBd.frozen _) (flat_one _)
  obtain ⟨W1, hW1⟩ : ∃ W1, W1 = w.drew.setCells g (j * 2) (flat (l.drop i)) := ⟨_, rfl⟩
  obtain ⟨cs1, hB1⟩ : ∃ cs1, Blk W1 g cap cs1 := ⟨_, by rw [hW1]; exact Blk.setCells (flat (l.drop i)) hBd (j * 2) (by omega)⟩
  have hV1 : ∀ j, W1.cell? ⟨gv, j, none⟩ = ([.string e.f0, .int .i64 e.f1] : List Value)[j]? := fun j => by
    rw [hW1, World.cell?_setCells_out g _ _ _ _ (fun h _ => absurd h hgv)]
    exact hV.cell j
  have hl3 : cs1.length = cap * 2 := by obtain ⟨_, _, _, h3⟩ := hB1; exact h3
  have hcp2 : ∀ ty dc, (Builtin.copy_ #[25, 25] ty #[.slice (some ⟨g, i * 2, none⟩) (n + 1 - i) dc, .slice (some ⟨gv, 0, none⟩) 1 1]).run Tryd.prog W1 = .ok (goInt 1) (W1.setCells g (i * 2) [.string e.f0, .int .i64 e.f1]) := fun ty dc =>
    run_copy23 W1 ty g (i * 2) (n + 1 - i) dc ⟨gv, 0, none⟩ 1 1 1 [.string e.f0, .int .i64 e.f1] (by simp only [Nat.min_def]; split <;> omega) rfl
      (fun p v hp => by rw [Addr.add_lit, Nat.zero_add, hV1]; exact hp)
      (fun p hp => by rw [hB1.cell, List.getElem?_eq_getElem (by simp only [List.length_cons, List.length_nil] at hp; omega)]; rfl) (fun p hp => hB1.frozen _)
      (fun v hv => by simp at hv; rcases hv with rfl | rfl <;> rfl)
  rw [← hW1] at hcp1
  have HW := Aside0.mk hW1
  have hw1 : IntKind.i64.wrap ((n : Int) + 1) = ((n + 1 : Nat) : Int) := by rw [i64_w, w64 _ (by omega) (by omega)]; omega
  have hw2 : IntKind.i64.wrap ((i : Int) + 1) = (j : Int) := by rw [i64_w, w64 _ (by omega) (by omega)]; omega
  have q1 : ((i : Int) == (n : Int)) = false := beq_eq_false_iff_ne.2 (by omega)
  have q2 : (i == n) = false := beq_eq_false_iff_ne.2 (by omega)
  have q3 : i ≤ n := by omega
  have q4 : ¬ (cap = i) := by omega
  have q5 : ¬ (cap = j) := by omega
  have q6 : i ≤ n + 1 := by omega
  have q7 : ¬ ((i : Int) = (n : Int)) := by omega
  have q8 : ¬ (i = n) := by omega
  have q9 : j ≤ n + 1 := by omega
  have qa : (j : Int) ≤ (n : Int) + 1 := by omega
  have qb : (i : Int) ≤ (n : Int) + 1 := by omega
  rw [← hW1]
  clear hp' hW1 hB1 hV1 hl3 hBd hB hV hcs hdl hl1 hn hi0 hz0 hz1 hz2
  go_enter Tryd.func29, Tryd.ntmps29
  go_wp2_with (simp only [hov])
  go_region_law (refine step_copy_runI rfl _ _ 25 25 rfl _ _ (by simp [Act.eval, Act.put]) (by simp [Act.eval, Act.put]) (hcp1 _ _ _) ?_)
  go_wp2_with (at_builtin; refine wpList_copy_runI _ rfl _ _ 25 25 rfl _ _ rfl rfl (hcp2 _ _) ?_)
  go_ret
  first | exact ⟨rfl, rfl⟩ | exact ⟨rfl, by rw [HW.out]⟩
theorem flat_ins (l : List S23) (e : S23) (i n : Nat) (hn : n = l.length) (hi : i < n) (cs : List Value) (h0 : cs.take (i * 2) = flat (l.take i)) (h1 : (cs.drop (i * 2)).take 2 = [.string e.f0, .int .i64 e.f1]) (h2 : (cs.drop ((i + 1) * 2)).take ((n - i) * 2) = flat (l.drop i)) :
    cs.take ((n + 1) * 2) = flat (l.take i ++ e :: l.drop i) := by
  rw [show (n + 1) * 2 = i * 2 + (2 + (n - i) * 2) by omega, List.take_add, h0, List.take_add, h1, List.drop_drop, show i * 2 + 2 = (i + 1) * 2 by omega, h2, flat_app]
  rfl
set_option maxHeartbeats 4000000 in
set_option maxRecDepth 100000 in
/-- slices.Insert ahead of the end, where there is no room. -/
theorem insert_grow (g cap gv : Nat) (cs : List Value) (l : List S23) (e : S23) (i : Nat) (w : World) (hB : Blk w g cap cs) (hcs : cs.take (l.length * 2) = flat l) (hnc : l.length ≤ cap) (hroom : cap < l.length + 1) (hi : i < l.length) (hl : l.length ≤ 1000)
    (hV : Blk w gv 1 [.string e.f0, .int .i64 e.f1]) (hgv : gv ≠ g) :
    Calls Tryd.prog 29 #[.slice (some ⟨g, 0, none⟩) l.length cap, .int .i64 (i : Int), .slice (some ⟨gv, 0, none⟩) 1 1] w fun e' w' => ∃ G cs', e' = .returned (.slice (some ⟨w.heap.size, 0, none⟩) (l.length + 1) G) ∧
      Blk w' w.heap.size G cs' ∧ cs'.take ((l.length + 1) * 2) = flat (l.take i ++ e :: l.drop i) ∧ l.length + 1 ≤ G ∧ G ≤ maxLen ∧ Below w.heap.size w w' := by
  obtain ⟨i0, hi0, hz0, hz1, hz2⟩ := info_parts info23_8
  have hl1 : cs.length = cap * 2 := by obtain ⟨_, _, _, h3⟩ := hB; exact h3
  obtain ⟨n, hn⟩ : ∃ n, n = l.length := ⟨_, rfl⟩
  rw [← hn] at hcs hnc hroom hi hl ⊢
  have hcap : cap = n := by omega
  subst hcap
  have hbw := hB.lt
  have hvw := hV.lt
  obtain ⟨j, hj'⟩ : ∃ j, j = i + 1 := ⟨_, rfl⟩
  have hct : cs.take (i * 2) = flat (l.take i) := by rw [← flat_take, ← hcs, List.take_take, Nat.min_eq_left (by omega)]
  have hold : (Builtin.firstCells i0.size i (.slice (some ⟨g, 0, none⟩) i cap)).run Tryd.prog w.drew = .ok (flat (l.take i)).toArray w.drew := by
    rw [hz1]
    exact run_firstCells_some w.drew 2 i ⟨g, 0, none⟩ i cap (flat (l.take i)) (by rw [flat_len, List.length_take]; omega) (fun p v hp => by
      rw [Addr.add_lit, Nat.zero_add]
      show w.cell? _ = _
      rw [hB.cell]
      rw [← hct, List.getElem?_take] at hp
      split at hp
      · exact hp
      · cases hp)
  have hkk : (cap : Int) + 1 - (i : Int) = ((cap + 1 - i : Nat) : Int) := by omega
  have hik : i + (cap + 1 - i) = cap + 1 := by omega
  obtain ⟨Z, hZ⟩ : ∃ Z : Array Value, Z = (Value.agg #[.string (⟨#[]⟩ : ByteArray), .int .i64 0]).cells := ⟨_, rfl⟩
  have hZs : Z.size = 2 := by rw [hZ]; simp [Value.cells]
  have hrz : ∀ ty, (Builtin.append_ #[25, 3] ty #[.slice (some ⟨g, 0, none⟩) i cap, .int .i64 ((cap + 1 - i : Nat) : Int)]).run Tryd.prog w =
      .ok (.slice (some ⟨w.heap.size, 0, none⟩) (cap + 1) (grownCap w (cap + 1) cap 23)) (w.drew.alloc (.cells ((flat (l.take i)).toArray ++ Builtin.zeroCells Z (cap + 1 - i) ++ Builtin.zeroCells Z (grownCap w (cap + 1) cap 23 - (cap + 1))) 23)) := fun ty => by
    have h := Lib.run_append_grow_zeros w 25 3 ty 23 i0 _ .i64 .i64 Tryd.underlying25 Tryd.underlying3 hi0 hz0 (some ⟨g, 0, none⟩) i cap (flat (l.take i)) hold (cap + 1 - i) (by omega) (by omega) (by omega) (by omega) (by rw [hz2]; omega) (by rw [hz2, hik]; exact growslice_fits hroom (by omega))
    rw [hik, ← hZ] at h
    exact h
  obtain ⟨G, hG⟩ : ∃ G, G = grownCap w (cap + 1) cap 23 := ⟨_, rfl⟩
  have hGn : cap + 1 ≤ G := by rw [hG]; exact grownCap_ge w _ _ _
  have hGm : G ≤ maxLen := by rw [hG]; exact grownCap_le_maxLen w (cap + 1) cap 23 (by unfold maxLen; omega)
  have hG63 : G ≤ 9223372036854775807 := by unfold maxLen at hGm; omega
  rw [← hG] at hrz
  obtain ⟨ROW, hROW⟩ : ∃ ROW : Array Value, ROW = (flat (l.take i)).toArray ++ Builtin.zeroCells Z (cap + 1 - i) ++ Builtin.zeroCells Z (G - (cap + 1)) := ⟨_, rfl⟩
  have hRs : ROW.size = G * 2 := by
    rw [hROW]
    simp only [Array.size_append, Builtin.zeroCells, Array.size_map, Array.size_range, hZs, List.size_toArray, flat_len, List.length_take]
    omega
  have hRt : ROW.toList.take (i * 2) = flat (l.take i) := by
    rw [hROW, Array.toList_append, Array.toList_append, List.append_assoc, List.take_append_of_le_length (by simp only [List.toList_toArray, flat_len, List.length_take]; omega)]
    exact List.take_of_length_le (by simp only [List.toList_toArray, flat_len, List.length_take]; omega)
  rw [← hROW] at hrz
  obtain ⟨N, hN⟩ : ∃ N, N = w.heap.size := ⟨_, rfl⟩
  obtain ⟨W1, hW1⟩ : ∃ W1, W1 = w.drew.alloc (.cells ROW 23) := ⟨_, rfl⟩
  have hB1 : Blk W1 N G ROW.toList := ⟨ROW, by rw [hW1, hN]; exact heap_alloc_new w.drew _, rfl, by rw [Array.length_toList]; exact hRs⟩
  rw [← hW1, ← hN] at hrz
  rw [← hN]
  have hgN : g ≠ N := by omega
  have hvN : gv ≠ N := by omega
  have hOld : ∀ k p, k < N → W1.cell? ⟨k, p, none⟩ = w.cell? ⟨k, p, none⟩ := fun k p hk => by
    rw [hW1, World.cell?_alloc_past (w := w.drew) _ k p (by rw [hN] at hk; exact hk)]; rfl
  obtain ⟨ev, hev⟩ : ∃ ev : List Value, ev = [.string e.f0, .int .i64 e.f1] := ⟨_, rfl⟩
  have hel : ev.length = 2 := by rw [hev]; rfl
  have he1 : ∀ v ∈ ev, v.oneCell' = true := by rw [hev]; intro v hv; simp at hv; rcases hv with rfl | rfl <;> rfl
  have hdl : (flat (l.drop i)).length = (cap - i) * 2 := by rw [flat_len, List.length_drop, ← hn]
  have hcpA : ∀ (W : World), W = W1 ∨ W = W1.drew → ∀ ty dc, (Builtin.copy_ #[25, 25] ty #[.slice (some ⟨N, i * 2, none⟩) (cap + 1 - i) dc, .slice (some ⟨gv, 0, none⟩) 1 1]).run Tryd.prog W = .ok (goInt 1) (W.setCells N (i * 2) ev) := fun W hW ty dc => by
    have hc : ∀ x, W.cell? x = W1.cell? x := by rcases hW with rfl | rfl <;> intro x <;> rfl
    have hf : ∀ x, W.frozen? x = W1.frozen? x := by rcases hW with rfl | rfl <;> intro x <;> rfl
    exact run_copy23 W ty N (i * 2) (cap + 1 - i) dc ⟨gv, 0, none⟩ 1 1 1 ev (by simp only [Nat.min_def]; split <;> omega) hel
      (fun p v hp => by rw [Addr.add_lit, Nat.zero_add, hc, hOld _ _ (by omega), hV.cell, ← hev]; exact hp)
      (fun p hp => by rw [hc, hB1.cell, List.getElem?_eq_getElem (by rw [Array.length_toList, hRs]; omega)]; rfl) (fun p hp => by rw [hf]; exact hB1.frozen _) he1
  obtain ⟨W2, hW2⟩ : ∃ W2, W2 = W1.setCells N (i * 2) ev := ⟨_, rfl⟩
  obtain ⟨cs2, hcs2⟩ : ∃ cs2, cs2 = ROW.toList.take (i * 2) ++ ev ++ ROW.toList.drop (i * 2 + ev.length) := ⟨_, rfl⟩
  have hB2 : Blk W2 N G cs2 := by rw [hW2, hcs2]; exact Blk.setCells ev hB1 (i * 2) (by omega)
  have hc2l : cs2.length = G * 2 := by obtain ⟨_, _, _, h3⟩ := hB2; exact h3
  have hcpB : ∀ (W : World), (∀ x, W.cell? x = W2.cell? x) → (∀ x, W.frozen? x = W2.frozen? x) → ∀ ty dc sc, (Builtin.copy_ #[25, 25] ty #[.slice (some ⟨N, j * 2, none⟩) (cap + 1 - j) dc, .slice (some ⟨g, i * 2, none⟩) (cap - i) sc]).run Tryd.prog W = .ok (goInt ((cap - i : Nat) : Int)) (W.setCells N (j * 2) (flat (l.drop i))) := fun W hc hf ty dc sc =>
    run_copy23 W ty N (j * 2) (cap + 1 - j) dc ⟨g, i * 2, none⟩ (cap - i) sc (cap - i) (flat (l.drop i)) (by simp only [Nat.min_def]; split <;> omega) hdl
      (fun p v hp => by
        rw [Addr.add_lit, hc, hW2, World.cell?_setCells_out N _ _ _ _ (fun h _ => absurd h hgN), hOld _ _ (by omega), hB.cell]
        have hlt := (List.getElem?_eq_some_iff.1 hp).1
        rw [← flat_drop, ← hcs, List.getElem?_drop, List.getElem?_take] at hp
        rw [if_pos (by omega)] at hp
        exact hp)
      (fun p hp => by rw [hc, hB2.cell, List.getElem?_eq_getElem (by omega)]; rfl) (fun p hp => by rw [hf]; exact hB2.frozen _) (flat_one _)
  obtain ⟨kk, hkkd⟩ : ∃ kk, kk = cap + 1 - i := ⟨_, rfl⟩
  rw [← hkkd] at hrz
  have hw1 : IntKind.i64.wrap ((cap : Int) + 1) = (cap : Int) + 1 := by rw [i64_w, w64 _ (by omega) (by omega)]
  have hw2 : IntKind.i64.wrap ((i : Int) + 1) = (j : Int) := by rw [i64_w, w64 _ (by omega) (by omega)]; omega
  have hw3 : IntKind.i64.wrap ((cap : Int) + 1 - (i : Int)) = (kk : Int) := by rw [i64_w, w64 _ (by omega) (by omega)]; omega
  have q1 : ((i : Int) == (cap : Int)) = false := beq_eq_false_iff_ne.2 (by omega)
  have q3 : i ≤ cap := by omega
  have q4 : ¬ (cap = i) := by omega
  have q5 : ¬ (G = j) := by omega
  have q6 : ¬ (G = i) := by omega
  have q7 : ¬ ((i : Int) = (cap : Int)) := by omega
  have q8 : i ≤ cap + 1 := by omega
  have q9 : j ≤ cap + 1 := by omega
  have qa : (j : Int) ≤ (cap : Int) + 1 := by omega
  have qb : (i : Int) ≤ (cap : Int) + 1 := by omega
  have qc : (cap : Int) < (cap : Int) + 1 := by omega
  have HA := Aside0.mk hcpA
  have HBc := Aside0.mk hcpB
  have HNn := Aside0.mk hn
  have HNN := Aside0.mk hN
  have HB2 := Aside0.mk hB2
  have HJ := Aside0.mk hj'
  have HEV := Aside0.mk hev
  have HW2 := Aside0.mk hW2
  have HCS2 := Aside0.mk hcs2
  have HRT := Aside0.mk hRt
  have HW1 := Aside0.mk hW1
  have HDL := Aside0.mk hdl
  have HEL := Aside0.mk hel
  have HC2L := Aside0.mk hc2l
  clear hcpA hcpB hn hN hB2 hj' hev hW2 hcs2 hRt hW1 hB hV hcs hnc hroom hl1 hbw hvw hct hold hkk hik hZ hZs hG hROW hRs hB1 hgN hvN hOld hel he1 hdl hc2l hkkd hi0 hz0 hz1 hz2
  have rA := HA.out W1 (Or.inl rfl)
  go_enter Tryd.func29, Tryd.ntmps29
  go_wp2_with (first
    | (at_builtin; refine Lib.wpList_append_run _ rfl _ _ _ _ rfl _ _ rfl rfl _ _ (hrz _) ?_))
  go_region_law (refine step_copy_runI rfl _ _ 25 25 rfl (.slice (some ⟨N, j * 2, none⟩) (cap + 1 - j) (G - j)) (.slice (some ⟨g, i * 2, none⟩) (cap - i) (cap - i)) (by simp [Act.eval, Act.put]) (by simp [Act.eval, Act.put]) (HBc.out _ (fun x => by rw [HW2.out]; rfl) (fun x => by rw [HW2.out]; rfl) 3 (G - j) (cap - i)) ?_)
  go_wp2
  go_ret
  have hd := HDL.out
  have hj := HJ.out
  have hn2 := HNn.out
  have hB2' : Blk (W1.setCells N (i * 2) ev).drew N G cs2 := by have := HB2.out; rw [HW2.out] at this; exact this
  refine ⟨G, _, rfl, Blk.setCells (flat (l.drop i)) hB2' (j * 2) (by omega), ?_, hGn, hGm, ?_⟩
  · have hl2 := HC2L.out
    have ht : ∀ k, k ≤ j * 2 → (cs2.take (j * 2) ++ flat (l.drop i) ++ cs2.drop (j * 2 + (flat (l.drop i)).length)).take k = cs2.take k := fun k hk => by
      rw [List.append_assoc, List.take_append_of_le_length (by rw [List.length_take]; omega), List.take_take, Nat.min_eq_left hk]
    have hRl : (cs2.take (i * 2)) = flat (l.take i) := by
      rw [HCS2.out, List.append_assoc, List.take_append_of_le_length (by rw [HRT.out, flat_len, List.length_take]; omega), HRT.out]
      exact List.take_of_length_le (by rw [flat_len, List.length_take]; omega)
    refine flat_ins l e i cap HNn.out (by omega) _ ?_ ?_ ?_
    · rw [ht _ (by omega)]; exact hRl
    · have h3 : (flat (l.take i)).length = i * 2 := by rw [flat_len, List.length_take]; omega
      rw [← HEV.out, List.append_assoc, List.drop_append_of_le_length (by rw [List.length_take]; omega), List.take_append_of_le_length (by rw [List.length_drop, List.length_take]; omega), List.drop_take, List.take_take, HCS2.out, HRT.out, List.append_assoc, ← h3, List.drop_left, Nat.min_eq_left (by omega), List.take_append_of_le_length (by have := HEL.out; omega), List.take_of_length_le (by have := HEL.out; omega)]
    · rw [← hj]
      have h4 : (cs2.take (j * 2)).length = j * 2 := by rw [List.length_take]; omega
      rw [List.append_assoc, List.drop_left' h4, List.take_left' hd]
  · have hb1 : Below N w W1 := by rw [HW1.out, HNN.out]; exact (Below.refl _ _).drew.alloc (Nat.le_refl _) _
    exact below_setCells (Nat.le_refl _) _ _ (below_setCells (Nat.le_refl _) _ _ hb1).drew
end Go.Proofs.YtdjjmnkopoldhaaDoor.Ep
