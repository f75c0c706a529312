import Derived.Test.YtdjjmnkopoldhaaDoorSlc
import Derived.WalkKit
import Derived.ProofKit
import Derived.Below
import Derived.WalkLawsBesides
import Derived.Deep.QuietTactic
import Derived.BigQuiet
import Derived.StillTailTactics
import Derived.Deep.AppendLies
import Derived.Deep.RegionHeld3
import Derived.KernelRfl
import Derived.BigRegion
import Derived.WalkSpells
import Derived.Deep.Slices
import Derived.Deep.Fields
import Derived.ChangeSame
import Derived.Deep.RegionLaw
import Derived.Deep.DrawnRows
import Derived.OwnWalk
import Derived.Lib.SliceRun
import Derived.Laws.IdiomCopy
import Derived.Lib.JoinLaws
import Derived.Lib.AppendZeros
import Derived.Lib.Overlaps
import Derived.Laws.Externs
namespace Go.Proofs.YtdjjmnkopoldhaaDoor.Ep
open Go Go.RowKit Go.Proofs.YtdjjmnkopoldhaaDoorW.PrintWords Go.Proofs.YtdjjmnkopoldhaaDoorW.PrintLast Go.Proofs.YtdjjmnkopoldhaaDoorW.PrintMore Go.Proofs.YtdjjmnkopoldhaaDoor.PBase Go.Tx
set_option linter.unusedVariables false
set_option linter.unusedSimpArgs false
/-- how many entries ahead of a place are less. -/
def sk (l : List S23) (t : ByteArray) : Nat := (l.takeWhile (fun x => Op.bytesLess (L x.f0) (L t))).length
theorem sk_le (l : List S23) (t : ByteArray) : sk l t ≤ l.length := (List.takeWhile_sublist _).length_le
theorem Seek_l (k : Nat) (l : List S23) (t : ByteArray) (hl : l.length ≤ 1000) (d : Nat) : ∀ i : Nat, l.length - i = d → d < k → i ≤ l.length →
    shape_Seek.l0 k l t l (l.length : Int) i = some ((i + sk (l.drop i) t : Nat) : Int) := by
  induction d generalizing k with
  | zero =>
    intro i hi hk hle
    obtain ⟨k, rfl⟩ : ∃ m, k = m + 1 := ⟨k - 1, by omega⟩
    simp only [shape_Seek.l0]
    rw [if_neg (by omega), List.drop_of_length_le (by omega)]
    show some _ = some _
    congr 1
    show (l.length : Int) = ((i + 0 : Nat) : Int)
    omega
  | succ d ih =>
    intro i hi hk hle
    obtain ⟨k, rfl⟩ : ∃ m, k = m + 1 := ⟨k - 1, by omega⟩
    simp only [shape_Seek.l0]
    have hlt : i < l.length := by omega
    have eg : rd_T23 l (i : Int) = l[i] := by rw [rd8, List.getD_eq_getElem?_getD, List.getElem?_eq_getElem hlt]; rfl
    rw [if_pos (by omega), if_pos (by omega), if_pos (by omega), eg, toList_L, toList_L, List.drop_eq_getElem_cons hlt]
    unfold sk
    rw [List.takeWhile_cons]
    by_cases e : Op.bytesLess (L l[i].f0) (L t) = true
    · rw [if_pos e, if_pos e, show wrap64 ((i : Int) + 1) = ((i + 1 : Nat) : Int) from by unfold wrap64; omega, ih k (i + 1) (by omega) (by omega) (by omega), List.length_cons]
      unfold sk
      congr 2; omega
    · rw [if_neg e, if_neg e]; rfl
theorem Seek_f (k : Nat) (l : List S23) (t : ByteArray) (hl : l.length ≤ 1000) (hk : 1000 < k) : shape_Seek.f k l t = some ((sk l t : Nat) : Int) := by
  unfold shape_Seek.f
  have := Seek_l k l t hl l.length 0 (by omega) (by omega) (by omega)
  simpa using this
theorem own_low {w : World} {base base' n : Nat} {v : Value} {xs : List Value} (hb : base' ≤ base) (h : w.ownsRow base 23 2 v n xs) : w.ownsRow base' 23 2 v n xs := by
  rcases h with ⟨h1, h2 | ⟨g, cap, cur, hv, hg, h3⟩⟩
  · exact ⟨h1, Or.inl h2⟩
  · exact ⟨h1, Or.inr ⟨g, cap, cur, hv, Nat.le_trans hb hg, h3⟩⟩
/-- what Drop answers. -/
def dropL (l : List S23) (t : ByteArray) : List S23 × Int × Bool :=
  if sk l t < l.length ∧ (l.getD (sk l t) z23).f0 = t then (l.take (sk l t) ++ l.drop (sk l t + 1), (l.getD (sk l t) z23).f1, true) else (l, 0, false)
theorem bne_L (s t : ByteArray) (h : s ≠ t) : (s.toList == t.toList) = false := by
  rw [toList_L, toList_L, beq_eq_false_iff_ne]
  exact fun e => h (L_inj e)
theorem delete_i (g cap : Nat) (cs : List Value) (l : List S23) (i : Nat) (j : Int) (hj : j = ((i + 1 : Nat) : Int)) (w : World) (hB : Blk w g cap cs) (hcs : cs.take (l.length * 2) = flat l) (hn : l.length ≤ cap) (hcap : cap ≤ maxLen) (hi : i < l.length) :
    Calls Tryd.prog 23 #[.slice (some ⟨g, 0, none⟩) l.length cap, .int .i64 (i : Int), .int .i64 j] w fun e w' => e = .returned (.slice (some ⟨g, 0, none⟩) (l.length - 1) cap) ∧
      (∃ cs', Blk w' g cap cs' ∧ cs'.take ((l.length - 1) * 2) = flat (l.take i ++ l.drop (i + 1))) ∧ ∀ B, B ≤ g → Below B w w' := by
  subst hj; exact delete_ g cap cs l i w hB hcs hn hcap hi
set_option maxHeartbeats 4000000 in
set_option maxRecDepth 100000 in
theorem drop_ (A : Option Addr) (c : Nat) (l : List S23) (t : ByteArray) (w : World) (hC : Kd.C k23 w A l.length l) (hc : l.length ≤ c) (hl : l.length ≤ 1000) :
    Calls Tryd.prog 10 #[.slice A l.length c, .string t] w fun e w' => ∃ v', e = .returned (.tuple #[v', .int .i64 (dropL l t).2.1, .bool (dropL l t).2.2]) ∧
      w'.ownsRow w.heap.size 23 2 v' (dropL l t).1.length (flat (dropL l t).1) ∧ Below w.heap.size w w' := by
  obtain ⟨i, hi⟩ : ∃ i, i = sk l t := ⟨_, rfl⟩
  have hil : i ≤ l.length := by rw [hi]; exact sk_le l t
  have HS := Aside0.mk (fun W : World => fun h : Kd.C k23 W A l.length l => shape_Seek.calls 2000 A c l t (i : Int) W h hc (by rw [hi]; exact Seek_f 2000 l t hl (by omega)))
  have HCl := Aside0.mk (fun W : World => fun h : Kd.C k23 W A l.length l => clone_ A c l W h hc hl)
  have HC := Aside0.mk hC
  by_cases h1 : i = l.length
  · have hd : dropL l t = (l, 0, false) := by unfold dropL; rw [if_neg (by rw [← hi]; omega)]
    rw [hd]
    have g0 : ((i : Int) == (l.length : Int)) = true := by rw [h1]; exact beq_self_eq_true _
    have g1 : (i == l.length) = true := by rw [h1]; exact beq_self_eq_true _
    clear hC h1 hd hil hi hc hl
    go_enter Tryd.func10, Tryd.ntmps10
    go_wp2_with (first
      | (go_at_call 12; (with_reducible refine (HS.out _ HC.out).mono ?_); rintro e w1 ⟨rfl, hb⟩; have HB := Aside0.mk hb; clear hb)
      | (go_at_call 22; (with_reducible refine (HCl.out _ (Kd.C_below HC.out HB.out)).mono ?_); rintro e w2 ⟨v', rfl, h2_, h3_⟩; have HO := Aside0.mk h2_; have HB2 := Aside0.mk h3_; clear h2_ h3_))
    go_ret3
    exact ⟨v', rfl, own_low HB.out.size HO.out, HB.out.trans (Below.mono HB2.out HB.out.size)⟩
  · have hlt : i < l.length := by omega
    obtain ⟨ad, eA, hx_0, hx_1⟩ := at_T23 HC.out (i : Int) (by omega) (by omega)
    cases eA
    rw [Int.toNat_natCast] at hx_0 hx_1
    have hx0 := Aside0.mk hx_0
    have hx1 := Aside0.mk hx_1
    have g0 : ((i : Int) == (l.length : Int)) = false := beq_eq_false_iff_ne.2 (by omega)
    have g1 : (i == l.length) = false := beq_eq_false_iff_ne.2 h1
    have p1 : (0 ≤ (i : Int)) = True := eq_true (by omega)
    have p2 : ((i : Int) < (l.length : Int)) = True := eq_true (by omega)
    have p3 : (i < l.length) = True := eq_true hlt
    by_cases h2 : (l.getD i z23).f0 = t
    · have hd : dropL l t = (l.take i ++ l.drop (i + 1), (l.getD i z23).f1, true) := by unfold dropL; rw [if_pos (by rw [← hi]; exact ⟨hlt, h2⟩), ← hi]
      rw [hd]
      have b0 : (((rd_T23 l (i : Int)).f0).toList == t.toList) = true := by rw [rd8, h2]; exact beq_self_eq_true _
      have b1 : (((rd_T23 l (i : Int)).f0).toList != t.toList) = false := by rw [bne, b0]; rfl
      have hpos := Aside0.mk (show 0 < l.length by omega)
      have HI := Aside0.mk hlt
      have hw2 : IntKind.i64.wrap ((i : Int) + 1) = ((i + 1 : Nat) : Int) := by rw [i64_w, w64 _ (by omega) (by omega)]; rfl
      have HLen := Aside0.mk (show (l.take i ++ l.drop (i + 1)).length = l.length - 1 by rw [List.length_append, List.length_take, List.length_drop]; omega)
      have hv : (rd_T23 l (i : Int)).f1 = (l.getD i z23).f1 := rfl
      rw [hv] at hx1 hx_1
      obtain ⟨val, hval⟩ : ∃ val, val = (l.getD i z23).f1 := ⟨_, rfl⟩
      rw [← hval] at hx1 hx_1 ⊢
      clear hC h1 hd hil hi hc hl hlt h2 hx_0 hx_1 hv hval
      go_enter Tryd.func10, Tryd.ntmps10
      go_wp2_with (first
        | (go_at_call 12; (with_reducible refine (HS.out _ HC.out).mono ?_); rintro e w1 ⟨rfl, hb⟩; have HB := Aside0.mk hb; clear hb; have hy0 := (HB.out.cell (World.block_lt_of_cell? w _ hx0.out)).trans hx0.out))
      have rcS : w1.cell? ⟨(ad.add (i * 2)).block, (ad.add (i * 2)).off + 1, none⟩ = some (.int .i64 val) := (HB.out.cell (World.block_lt_of_cell? w _ hx1.out)).trans hx1.out
      clear hy0
      go_region_held3 (fun w' => w'.cell? ⟨(ad.add (i * 2)).block, (ad.add (i * 2)).off + 1, none⟩ = some (.int .i64 val)) (first | exact rcS | go_keep)
        (first
          | (go_at_call 22; (with_reducible refine (HCl.out _ (Kd.C_below HC.out (by repeat (first | exact HB.out | apply pw_below_drewN | apply below_drew1)))).mono ?_); rintro e w2 ⟨v', rfl, h2_, h3_⟩; obtain ⟨g, cap, cs, rfl, hg_, hB_, hnc_, hcm_, hcs_⟩ := own_blk h2_ hpos.out; have Hg := Aside0.mk hg_; have HBk := Aside0.mk hB_; have Hnc := Aside0.mk hnc_; have Hcm := Aside0.mk hcm_; have Hcs := Aside0.mk hcs_; have HB2 := Aside0.mk (Below.trans (by repeat (first | exact HB.out | apply pw_below_drewN | apply below_drew1)) (Below.mono h3_ HB.out.size)); clear h2_ h3_ hg_ hB_ hnc_ hcm_ hcs_ rcS; have rcS : w2.cell? ⟨(ad.add (i * 2)).block, (ad.add (i * 2)).off + 1, none⟩ = some (.int .i64 val) := (HB2.out.cell (World.block_lt_of_cell? w _ hx1.out)).trans hx1.out)
          | (go_at_call 23; (with_reducible refine (delete_i g cap cs l i _ (by omega) _ HBk.out Hcs.out Hnc.out Hcm.out HI.out).mono ?_); rintro e w3 ⟨rfl, ⟨cs', h4_, h5_⟩, h6_⟩; have HBk3 := Aside0.mk h4_; have Hcs3 := Aside0.mk h5_; have HB3 := Aside0.mk (Below.trans (by repeat (first | exact HB2.out | apply pw_below_drewN | apply below_drew1)) (h6_ w.heap.size (Nat.le_trans HB.out.size Hg.out))); clear h4_ h5_ h6_ rcS; have rcS : w3.cell? ⟨(ad.add (i * 2)).block, (ad.add (i * 2)).off + 1, none⟩ = some (.int .i64 val) := (HB3.out.cell (World.block_lt_of_cell? w _ hx1.out)).trans hx1.out))
      all_goals
        go_wp2
        go_ret3
        refine ⟨_, rfl, ?_, HB3.out⟩
        have ho := blk_own (n := l.length - 1) (base := w.heap.size) (Nat.le_trans HB.out.size Hg.out) HBk3.out (by have := Hnc.out; omega) Hcm.out
        rw [Hcs3.out] at ho
        rw [HLen.out]
        exact ho
    · have hd : dropL l t = (l, 0, false) := by unfold dropL; rw [if_neg (by rw [← hi]; exact fun h => h2 h.2)]
      rw [hd]
      have b0 : (((rd_T23 l (i : Int)).f0).toList == t.toList) = false := by rw [rd8]; exact bne_L _ _ h2
      have b1 : (((rd_T23 l (i : Int)).f0).toList != t.toList) = true := by rw [bne, b0]; rfl
      clear hC h1 hd hil hi hc hl hlt h2 hx_0 hx_1
      go_enter Tryd.func10, Tryd.ntmps10
      go_wp2_with (first
        | (go_at_call 12; (with_reducible refine (HS.out _ HC.out).mono ?_); rintro e w1 ⟨rfl, hb⟩; have HB := Aside0.mk hb; clear hb; have hy0 := (HB.out.cell (World.block_lt_of_cell? w _ hx0.out)).trans hx0.out)
        | (go_at_call 22; (with_reducible refine (HCl.out _ (Kd.C_below HC.out HB.out)).mono ?_); rintro e w2 ⟨v', rfl, h2_, h3_⟩; have HO := Aside0.mk h2_; have HB2 := Aside0.mk h3_; clear h2_ h3_))
      go_ret3
      exact ⟨v', rfl, own_low HB.out.size HO.out, HB.out.trans (Below.mono HB2.out HB.out.size)⟩
theorem shift_cells (l : List S23) (e : S23) (cs : List Value) (i cap : Nat) (hcs : cs.take (l.length * 2) = flat l) (hi : i < l.length) (hl : cs.length = cap * 2) (hr : l.length + 1 ≤ cap) :
    let c1 := cs.take ((i + 1) * 2) ++ flat (l.drop i) ++ cs.drop ((i + 1) * 2 + (flat (l.drop i)).length)
    let c2 := c1.take (i * 2) ++ [.string e.f0, .int .i64 e.f1] ++ c1.drop (i * 2 + ([.string e.f0, .int .i64 e.f1] : List Value).length)
    c2.take ((l.length + 1) * 2) = flat (l.take i ++ e :: l.drop i) := by
  intro c1 c2
  have hT : (cs.take ((i + 1) * 2)).length = i * 2 + 2 := by rw [List.length_take]; omega
  have hc1 : c1.take (i * 2) = flat (l.take i) := by
    show (cs.take ((i + 1) * 2) ++ flat (l.drop i) ++ _).take (i * 2) = _
    rw [List.append_assoc, List.take_append_of_le_length (by omega), List.take_take, Nat.min_eq_left (by omega), ← flat_take, ← hcs, List.take_take, Nat.min_eq_left (by omega)]
  have hA : (c1.take (i * 2)).length = i * 2 := by rw [hc1, flat_len, List.length_take]; omega
  have hc1d : (c1.drop (i * 2 + 2)).take ((l.length - i) * 2) = flat (l.drop i) := by
    show ((cs.take ((i + 1) * 2) ++ flat (l.drop i) ++ _).drop (i * 2 + 2)).take _ = _
    rw [List.append_assoc, List.drop_left' hT, List.take_left' (by rw [flat_len, List.length_drop])]
  refine flat_ins l e i l.length rfl hi _ ?_ ?_ ?_
  · show (c1.take (i * 2) ++ _ ++ _).take (i * 2) = _
    rw [List.append_assoc, List.take_left' hA, hc1]
  · show ((c1.take (i * 2) ++ _ ++ _).drop (i * 2)).take 2 = _
    rw [List.append_assoc, List.drop_left' hA]
    exact List.take_left' rfl
  · show ((c1.take (i * 2) ++ _ ++ _).drop ((i + 1) * 2)).take _ = _
    rw [List.drop_left' (by rw [List.length_append, hA]; simp only [List.length_cons, List.length_nil]; omega)]
    exact hc1d
/-- slices.Insert of one entry. -/
theorem insert_ (base : Nat) (v : Value) (l : List S23) (e : S23) (i gv : Nat) (w : World) (hi : i ≤ l.length) (hl : l.length ≤ 1000) (hb : base ≤ w.heap.size) (ho : w.ownsRow base 23 2 v l.length (flat l)) (hV : Blk w gv 1 [.string e.f0, .int .i64 e.f1])
    (hgv : ∀ k, v.ownBlock = some k → gv ≠ k) :
    Calls Tryd.prog 29 #[v, .int .i64 (i : Int), .slice (some ⟨gv, 0, none⟩) 1 1] w fun e' w' => ∃ v', e' = .returned v' ∧ w'.ownsRow base 23 2 v' (l.take i ++ e :: l.drop i).length (flat (l.take i ++ e :: l.drop i)) ∧ Below base w w' := by
  have hlen : (l.take i ++ e :: l.drop i).length = l.length + 1 := by rw [List.length_append, List.length_cons, List.length_take, List.length_drop]; omega
  rw [hlen]
  by_cases h1 : i = l.length
  · subst h1
    refine (insert_end base v l e gv w hl hb ho (hV.cell 0) (hV.cell 1)).mono ?_
    rintro e' w' ⟨v', rfl, h2, h3⟩
    refine ⟨v', rfl, ?_, h3⟩
    rw [List.take_length, List.drop_length]
    exact h2
  · have hlt : i < l.length := by omega
    obtain ⟨g, cap, cs, rfl, hg, hB, hnc, hcm, hcs⟩ := own_blk ho (by omega)
    have hne : gv ≠ g := hgv g rfl
    by_cases h2 : l.length + 1 ≤ cap
    · refine (insert_shift g cap gv cs l e i w hB hcs h2 hcm hlt hl hV hne).mono ?_
      rintro e' w' ⟨rfl, rfl⟩
      have hlc : cs.length = cap * 2 := by obtain ⟨_, _, _, h3⟩ := hB; exact h3
      have hBd : Blk w.drew g cap cs := hB
      have hB1 := Blk.setCells (flat (l.drop i)) hBd ((i + 1) * 2) (by rw [flat_len, List.length_drop]; omega)
      have hB2 := Blk.setCells [.string e.f0, .int .i64 e.f1] hB1 (i * 2) (by simp only [List.length_cons, List.length_nil]; omega)
      refine ⟨_, rfl, ?_, below_setCells hg _ _ (below_setCells hg _ _ (Below.refl _ _).drew)⟩
      have ho' := blk_own (n := l.length + 1) hg hB2 h2 hcm
      rw [shift_cells l e cs i cap hcs hlt hlc h2] at ho'
      exact ho'
    · refine (insert_grow g cap gv cs l e i w hB hcs hnc (by omega) hlt hl hV hne).mono ?_
      rintro e' w' ⟨G, cs', rfl, hB', hcs', h3, h4, h5⟩
      refine ⟨_, rfl, ?_, h5.mono hb⟩
      have ho' := blk_own (n := l.length + 1) hb hB' h3 h4
      rw [hcs'] at ho'
      exact ho'
theorem own_below {w w' : World} {base n : Nat} {v : Value} {xs : List Value} (h : w.ownsRow base 23 2 v n xs) (hb : Below w.heap.size w w') : w'.ownsRow base 23 2 v n xs := by
  rcases h with ⟨h1, h2 | ⟨g, cap, cur, hv, hg, hh, h3⟩⟩
  · exact ⟨h1, Or.inl h2⟩
  · have hlt : g < w.heap.size := by
      rcases Nat.lt_or_ge g w.heap.size with h' | h'
      · exact h'
      · simp [Array.getElem?_eq_none h'] at hh
    exact ⟨h1, Or.inr ⟨g, cap, cur, hv, hg, (hb.block g hlt).trans hh, h3⟩⟩
theorem own_lt {w : World} {base n : Nat} {v : Value} {xs : List Value} (h : w.ownsRow base 23 2 v n xs) : ∀ k, v.ownBlock = some k → base ≤ k ∧ k < w.heap.size := fun k hk => h.lt k hk
/-- what Put answers. -/
def putL (l : List S23) (e : S23) : List S23 × Int × Bool :=
  if sk l e.f0 < l.length ∧ (l.getD (sk l e.f0) z23).f0 = e.f0 then (l.set (sk l e.f0) e, (l.getD (sk l e.f0) z23).f1, true) else (l.take (sk l e.f0) ++ e :: l.drop (sk l e.f0), 0, false)
/-- the box's cells, behind a call that leaves old memory as it was. -/
theorem box_kept {w w' : World} {g B : Nat} {cs : Array Value} (h : w.heap[g]? = some (.cells cs 23 (0, 0))) (hb : Below B w w') (hg : g < B) : w'.heap[g]? = some (.cells cs 23 (0, 0)) := (hb.block g hg).trans h
theorem box_cell {w : World} {g : Nat} {cs : Array Value} (h : w.heap[g]? = some (.cells cs 23 (0, 0))) (j : Nat) : w.cell? ⟨g, j, none⟩ = cs[j]? := Lib.cell_of_heap h j
theorem box_lt {w : World} {g : Nat} {cs : Array Value} (h : w.heap[g]? = some (.cells cs 23 (0, 0))) : g < w.heap.size := by
  rcases Nat.lt_or_ge g w.heap.size with h' | h'
  · exact h'
  · simp [Array.getElem?_eq_none h'] at h
theorem blk_alloc1 (w : World) (e : S23) : Blk (w.alloc (.cells #[.string e.f0, .int .i64 e.f1] 23)) w.heap.size 1 [.string e.f0, .int .i64 e.f1] := ⟨_, heap_alloc_new w _, rfl, rfl⟩
theorem flat_set (l : List S23) (i : Nat) (e : S23) (hi : i < l.length) : ((flat l).set (i * 2) (.string e.f0)).set (i * 2 + 1) (.int .i64 e.f1) = flat (l.set i e) := by
  induction l generalizing i with
  | nil => exact absurd hi (by simp)
  | cons a l ih =>
    cases i with
    | zero => rfl
    | succ i =>
      rw [List.set_cons_succ, show flat (a :: l) = .string a.f0 :: .int .i64 a.f1 :: flat l from rfl, show flat (a :: l.set i e) = .string a.f0 :: .int .i64 a.f1 :: flat (l.set i e) from rfl, ← ih i (by simpa using hi), show (i + 1) * 2 = i * 2 + 1 + 1 by omega, show i * 2 + 1 + 1 + 1 = (i * 2 + 1) + 1 + 1 by omega]
      rfl
theorem blk_below {w w' : World} {g cap : Nat} {cs : List Value} (h : Blk w g cap cs) (hb : Below w.heap.size w w') : Blk w' g cap cs := by
  have hlt := h.lt
  obtain ⟨cur, h1, h2⟩ := h
  exact ⟨cur, (hb.block g hlt).trans h1, h2⟩
set_option maxHeartbeats 4000000 in
set_option maxRecDepth 100000 in
theorem put_ (A : Option Addr) (c : Nat) (l : List S23) (e : S23) (w : World) (hC : Kd.C k23 w A l.length l) (hc : l.length ≤ c) (hl : l.length ≤ 1000) :
    Calls Tryd.prog 21 #[.slice A l.length c, .agg #[.string e.f0, .int .i64 e.f1]] w fun e' w' => ∃ v', e' = .returned (.tuple #[v', .int .i64 (putL l e).2.1, .bool (putL l e).2.2]) ∧
      w'.ownsRow w.heap.size 23 2 v' (putL l e).1.length (flat (putL l e).1) ∧ Below w.heap.size w w' := by
  obtain ⟨i, hi⟩ : ∃ i, i = sk l e.f0 := ⟨_, rfl⟩
  have hil : i ≤ l.length := by rw [hi]; exact sk_le l e.f0
  have HS := Aside0.mk (fun W : World => fun h : Kd.C k23 W A l.length l => shape_Seek.calls 2000 A c l e.f0 (i : Int) W h hc (by rw [hi]; exact Seek_f 2000 l e.f0 hl (by omega)))
  have HCl := Aside0.mk (fun W : World => fun h : Kd.C k23 W A l.length l => clone_ A c l W h hc hl)
  have HC := Aside0.mk hC
  have HIns := Aside0.mk (fun base v gv w h1 h2 h3 h4 => insert_ base v l e i gv w hil hl h1 h2 h3 h4)
  have HB0 := Aside0.mk (Below.refl w.heap.size w)
  by_cases h1 : i = l.length
  · have hd : putL l e = (l.take i ++ e :: l.drop i, 0, false) := by unfold putL; rw [if_neg (by rw [← hi]; omega), ← hi]
    rw [hd]
    have g0 : decide ((i : Int) < (l.length : Int)) = false := decide_eq_false (by omega)
    have g1 : decide (i < l.length) = false := decide_eq_false (by omega)
    clear hC h1 hd hil hi hc hl
    go_enter Tryd.func21, Tryd.ntmps21
    go_wp2_with (first
      | ((with_reducible refine gate_dst (N := 3) rfl ?_); refine box_event ?hg (N := 3) ?hd (cs := #[.string e.f0, .int .i64 e.f1]) (t := 23) ?hr ?_; (case hd => rfl); (case hg => rfl); (case hr => first | (go_simp; done) | (go_simp; rfl)); intro gb hg w1 hbox hb; have HB := Aside0.mk hb; have HG := Aside0.mk hg; have HX := Aside0.mk hbox; clear hb hbox hg)
      | (go_at_call 22; (with_reducible refine (HCl.out _ (Kd.C_below HC.out HB.out)).mono ?_); rintro e' w2 ⟨v', rfl, h2_, h3_⟩; have HO := Aside0.mk h2_; have HB2 := Aside0.mk (Below.trans HB.out (Below.mono h3_ HB.out.size)); have HX2 := Aside0.mk (box_kept HX.out h3_ (box_lt HX.out)); have HV := Aside0.mk (fun k hk => Nat.ne_of_lt (Nat.lt_of_lt_of_le (box_lt HX.out) (own_lt h2_ k hk).1)); clear h2_ h3_; have hy0 : w2.cell? ⟨gb, 0, none⟩ = some (.string e.f0) := box_cell HX2.out 0; have hy1 : w2.cell? ⟨gb, 1, none⟩ = some (.int .i64 e.f1) := box_cell HX2.out 1)
      | (go_at_call 12; (with_reducible refine (HS.out _ (Kd.C_below HC.out HB2.out)).mono ?_); rintro e' w3 ⟨rfl, hb⟩; have HB3 := Aside0.mk (Below.trans HB2.out (Below.mono hb HB2.out.size)); have HX3 := Aside0.mk (box_kept HX2.out hb (box_lt HX2.out)); have HO3 := Aside0.mk (own_below HO.out hb); clear hb; clear hy0 hy1; have hy0 : w3.cell? ⟨gb, 0, none⟩ = some (.string e.f0) := box_cell HX3.out 0; have hy1 : w3.cell? ⟨gb, 1, none⟩ = some (.int .i64 e.f1) := box_cell HX3.out 1))
    go_quiet (fail)
    go_wp2_with fail
    generalize hWd : World.drewN _ _ = Wd
    have HO4 : Aside0 (Wd.ownsRow w1.heap.size 23 2 v' l.length (flat l)) := ⟨by rw [← hWd]; exact HO3.out⟩
    have HB4 : Aside0 (Below w.heap.size w Wd) := ⟨by rw [← hWd]; exact pw_below_drewN HB3.out _⟩
    have hsz : w3.heap.size = Wd.heap.size := by rw [← hWd]; rfl
    rw [hsz]
    clear hWd hsz
    refine (HIns.out w.heap.size v' Wd.heap.size _ ?b1 ?b2 ?b3 ?b4).mono ?_
    case b1 => exact (HB4.out.alloc HB4.out.size _).size
    case b2 => exact own_low HB.out.size (own_below HO4.out ((Below.refl _ _).alloc (Nat.le_refl _) _))
    case b3 => exact blk_alloc1 _ _
    case b4 => exact fun k hk => Nat.ne_of_gt (own_lt HO4.out k hk).2
    rintro e' w4 ⟨v4, rfl, h4_, h5_⟩
    go_wp2
    go_ret3
    exact ⟨_, rfl, h4_, (HB4.out.alloc HB4.out.size _).trans h5_⟩
  · have hlt : i < l.length := by omega
    obtain ⟨ad, eA, hx_0, hx_1⟩ := at_T23 HC.out (i : Int) (by omega) (by omega)
    cases eA
    rw [Int.toNat_natCast] at hx_0 hx_1
    have hv : (rd_T23 l (i : Int)).f1 = (l.getD i z23).f1 := rfl
    rw [hv] at hx_1
    have hx0 := Aside0.mk hx_0
    have hx1 := Aside0.mk hx_1
    have g0 : decide ((i : Int) < (l.length : Int)) = true := decide_eq_true (by omega)
    have g1 : decide (i < l.length) = true := decide_eq_true (by omega)
    have p1 : (0 ≤ (i : Int)) = True := eq_true (by omega)
    have p2 : ((i : Int) < (l.length : Int)) = True := eq_true (by omega)
    have p3 : (i < l.length) = True := eq_true hlt
    by_cases h2 : (l.getD i z23).f0 = e.f0
    · have hd : putL l e = (l.set i e, (l.getD i z23).f1, true) := by unfold putL; rw [if_pos (by rw [← hi]; exact ⟨hlt, h2⟩), ← hi]
      rw [hd]
      have b0 : (((rd_T23 l (i : Int)).f0).toList == e.f0.toList) = true := by rw [rd8, h2]; exact beq_self_eq_true _
      have hpos := Aside0.mk (show 0 < l.length by omega)
      have HI := Aside0.mk hlt
      obtain ⟨val, hval⟩ : ∃ val, val = (l.getD i z23).f1 := ⟨_, rfl⟩
      rw [← hval] at hx1 hx_1 ⊢
      clear hval
      clear hC h1 hd hil hi hc hl hlt h2 hx_0 hx_1 hv
      go_enter Tryd.func21, Tryd.ntmps21
      go_wp2_with (first
        | ((with_reducible refine gate_dst (N := 3) rfl ?_); refine box_event ?hg (N := 3) ?hd (cs := #[.string e.f0, .int .i64 e.f1]) (t := 23) ?hr ?_; (case hd => rfl); (case hg => rfl); (case hr => first | (go_simp; done) | (go_simp; rfl)); intro gb hg w1 hbox hb; have HB := Aside0.mk hb; have HG := Aside0.mk hg; have HX := Aside0.mk hbox; clear hb hbox hg)
        | (go_at_call 22; (with_reducible refine (HCl.out _ (Kd.C_below HC.out HB.out)).mono ?_); rintro e' w2 ⟨v', rfl, h2_, h3_⟩; obtain ⟨g, cap, cs, rfl, hg_, hB_, hnc_, hcm_, hcs_⟩ := own_blk h2_ hpos.out; have Hg := Aside0.mk hg_; have HBk := Aside0.mk hB_; have Hnc := Aside0.mk hnc_; have Hcm := Aside0.mk hcm_; have Hcs := Aside0.mk hcs_; clear hg_ hB_ hnc_ hcm_ hcs_; have HO := Aside0.mk h2_; have HB2 := Aside0.mk (Below.trans HB.out (Below.mono h3_ HB.out.size)); have HX2 := Aside0.mk (box_kept HX.out h3_ (box_lt HX.out)); have HV := Aside0.mk (fun k hk => Nat.ne_of_lt (Nat.lt_of_lt_of_le (box_lt HX.out) (own_lt h2_ k hk).1)); clear h2_ h3_; have hy0 : w2.cell? ⟨gb, 0, none⟩ = some (.string e.f0) := box_cell HX2.out 0; have hy1 : w2.cell? ⟨gb, 1, none⟩ = some (.int .i64 e.f1) := box_cell HX2.out 1)
        | (go_at_call 12; (with_reducible refine (HS.out _ (Kd.C_below HC.out HB2.out)).mono ?_); rintro e' w3 ⟨rfl, hb⟩; have HB3 := Aside0.mk (Below.trans HB2.out (Below.mono hb HB2.out.size)); have HX3 := Aside0.mk (box_kept HX2.out hb (box_lt HX2.out)); have HBk3 := Aside0.mk (blk_below HBk.out hb); clear hb; clear hy0 hy1; have hy0 : w3.cell? ⟨gb, 0, none⟩ = some (.string e.f0) := box_cell HX3.out 0; have hy1 : w3.cell? ⟨gb, 1, none⟩ = some (.int .i64 e.f1) := box_cell HX3.out 1; have hz0 := (HB3.out.cell (World.block_lt_of_cell? w _ hx0.out)).trans hx0.out))
      go_quiet (fail)
      generalize hWd : World.drewN _ _ = Wd
      have hB0 : Blk Wd g cap cs := by rw [← hWd]; exact HBk3.out
      have HB4 : Aside0 (Below w.heap.size w Wd) := ⟨by rw [← hWd]; exact pw_below_drewN HB3.out _⟩
      have HX4 : Aside0 (Wd.heap[gb]? = some (.cells #[.string e.f0, .int .i64 e.f1] 23 (0, 0))) := ⟨by rw [← hWd]; exact HX3.out⟩
      clear hWd hy0 hy1 hz0
      have hB1 := hB0.setCell (i * 2) (.string e.f0)
      have hB2 := hB1.setCell (i * 2 + 1) (.int .i64 e.f1)
      have hlc : cs.length = cap * 2 := by obtain ⟨_, _, _, h3⟩ := hB0; exact h3
      have q1 := Hnc.out
      have q2 := HI.out
      obtain ⟨u0, k0⟩ : ∃ u, Wd.cell? ⟨g, i * 2, none⟩ = some u := ⟨_, by rw [hB0.cell]; exact List.getElem?_eq_getElem (by omega)⟩
      have k1 : Wd.frozen? ⟨g, i * 2, none⟩ = false := hB0.frozen _
      obtain ⟨u1, k2⟩ : ∃ u, (Wd.setCell ⟨g, i * 2, none⟩ (.string e.f0)).cell? ⟨g, i * 2 + 1, none⟩ = some u := ⟨_, by rw [hB1.cell]; exact List.getElem?_eq_getElem (by rw [List.length_set]; omega)⟩
      have k3 : (Wd.setCell ⟨g, i * 2, none⟩ (.string e.f0)).frozen? ⟨g, i * 2 + 1, none⟩ = false := hB1.frozen _
      have y0 : Wd.cell? ⟨gb, 0, none⟩ = some (.string e.f0) := box_cell HX4.out 0
      have y1 : Wd.cell? ⟨gb, 1, none⟩ = some (.int .i64 e.f1) := box_cell HX4.out 1
      have HBx := Aside0.mk hB2
      have HLC := Aside0.mk hlc
      clear hB0 hB1 hB2 hlc q1 q2
      simp only [Exit.then]
      go_wp2_with fail
      obtain ⟨Wf, hWf⟩ : ∃ Wf, Wf = (Wd.setCell ⟨g, i * 2, none⟩ (.string e.f0)).setCell ⟨g, i * 2 + 1, none⟩ (.int .i64 e.f1) := ⟨_, rfl⟩
      rw [← hWf] at HBx ⊢
      have hwg : w.heap.size ≤ g := Nat.le_trans HB.out.size Hg.out
      have HBf : Aside0 (Below w.heap.size w Wf) := ⟨by rw [hWf]; exact (HB4.out.setCell (p := ⟨g, i * 2, none⟩) hwg _).setCell (p := ⟨g, i * 2 + 1, none⟩) hwg _⟩
      have HG2 := Aside0.mk hwg
      clear hWf hwg k0 k1 k2 k3 y0 y1
      have z1 := (HBf.out.cell (World.block_lt_of_cell? w _ hx1.out)).trans hx1.out
      go_quiet (fail)
      go_wp2
      go_ret3
      refine ⟨_, rfl, ?_, pw_below_drewN HBf.out _⟩
      have ho := blk_own (n := l.length) HG2.out HBx.out Hnc.out Hcm.out
      rw [List.take_set, List.take_set, Hcs.out, flat_set l i e HI.out] at ho
      rw [List.length_set]
      exact ho
    · have hd : putL l e = (l.take i ++ e :: l.drop i, 0, false) := by unfold putL; rw [if_neg (by rw [← hi]; exact fun h => h2 h.2), ← hi]
      rw [hd]
      have b0 : (((rd_T23 l (i : Int)).f0).toList == e.f0.toList) = false := by rw [rd8]; exact bne_L _ _ h2
      clear hC h1 hd hil hi hc hl hlt h2 hx_0 hx_1 hv
      go_enter Tryd.func21, Tryd.ntmps21
      go_wp2_with (first
        | ((with_reducible refine gate_dst (N := 3) rfl ?_); refine box_event ?hg (N := 3) ?hd (cs := #[.string e.f0, .int .i64 e.f1]) (t := 23) ?hr ?_; (case hd => rfl); (case hg => rfl); (case hr => first | (go_simp; done) | (go_simp; rfl)); intro gb hg w1 hbox hb; have HB := Aside0.mk hb; have HG := Aside0.mk hg; have HX := Aside0.mk hbox; clear hb hbox hg)
        | (go_at_call 22; (with_reducible refine (HCl.out _ (Kd.C_below HC.out HB.out)).mono ?_); rintro e' w2 ⟨v', rfl, h2_, h3_⟩; have HO := Aside0.mk h2_; have HB2 := Aside0.mk (Below.trans HB.out (Below.mono h3_ HB.out.size)); have HX2 := Aside0.mk (box_kept HX.out h3_ (box_lt HX.out)); have HV := Aside0.mk (fun k hk => Nat.ne_of_lt (Nat.lt_of_lt_of_le (box_lt HX.out) (own_lt h2_ k hk).1)); clear h2_ h3_; have hy0 : w2.cell? ⟨gb, 0, none⟩ = some (.string e.f0) := box_cell HX2.out 0; have hy1 : w2.cell? ⟨gb, 1, none⟩ = some (.int .i64 e.f1) := box_cell HX2.out 1)
        | (go_at_call 12; (with_reducible refine (HS.out _ (Kd.C_below HC.out HB2.out)).mono ?_); rintro e' w3 ⟨rfl, hb⟩; have HB3 := Aside0.mk (Below.trans HB2.out (Below.mono hb HB2.out.size)); have HX3 := Aside0.mk (box_kept HX2.out hb (box_lt HX2.out)); have HO3 := Aside0.mk (own_below HO.out hb); clear hb; clear hy0 hy1; have hy0 : w3.cell? ⟨gb, 0, none⟩ = some (.string e.f0) := box_cell HX3.out 0; have hy1 : w3.cell? ⟨gb, 1, none⟩ = some (.int .i64 e.f1) := box_cell HX3.out 1; have hz0 := (HB3.out.cell (World.block_lt_of_cell? w _ hx0.out)).trans hx0.out))
      go_quiet (fail)
      go_wp2_with fail
      generalize hWd : World.drewN _ _ = Wd
      have HO4 : Aside0 (Wd.ownsRow w1.heap.size 23 2 v' l.length (flat l)) := ⟨by rw [← hWd]; exact HO3.out⟩
      have HB4 : Aside0 (Below w.heap.size w Wd) := ⟨by rw [← hWd]; exact pw_below_drewN HB3.out _⟩
      have hsz : w3.heap.size = Wd.heap.size := by rw [← hWd]; rfl
      rw [hsz]
      clear hWd hsz
      refine (HIns.out w.heap.size v' Wd.heap.size _ ?b1 ?b2 ?b3 ?b4).mono ?_
      case b1 => exact (HB4.out.alloc HB4.out.size _).size
      case b2 => exact own_low HB.out.size (own_below HO4.out ((Below.refl _ _).alloc (Nat.le_refl _) _))
      case b3 => exact blk_alloc1 _ _
      case b4 => exact fun k hk => Nat.ne_of_gt (own_lt HO4.out k hk).2
      rintro e' w4 ⟨v4, rfl, h4_, h5_⟩
      go_wp2
      go_ret3
      exact ⟨_, rfl, h4_, (HB4.out.alloc HB4.out.size _).trans h5_⟩
end Go.Proofs.YtdjjmnkopoldhaaDoor.Ep
