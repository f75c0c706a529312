/- copy of whole numbers into a row of the call's own; append to a row that is read on; no condition. -/
import Derived.Test.YtckpgbkbbdifmaaProg
import Derived.Below
import Derived.Deep.Draws
import Derived.Deep.AppendLies
import Derived.Maps.AppendAt
import Derived.OwnWalk
import Derived.Laws.BytesArg
import Derived.Laws.MakeOwn
import Derived.Laws.OwnMore
import Derived.Deep.OwnRows
import Derived.Tactics
import Derived.Lib.ConvBytes
import Derived.Laws.Slices
import Derived.WalkKit
import Derived.KernelRfl
import Derived.RowKit3
import Derived.Deep.LoopGhost
import Derived.Deep.QuietTactic
import Derived.BigQuiet
import Derived.WideLaws
import Derived.Deep.DeepCutAuto
import Derived.Deep.CutBlock
import Derived.Deep.RegionHeld3
import Derived.Laws.Rows
import Derived.Lib.AppendStr
import Derived.ArgAppend
import Derived.Laws.IdiomCopy
import Derived.OrdersHeld
import Derived.Laws.BitsLemmas
import Derived.RowKit
import Derived.Test.YtckpgbkbbdifmaaWWords
import Derived.Test.YtckpgbkbbdifmaaWLast
import Derived.Test.YtckpgbkbbdifmaaWTab
import Derived.Test.YtckpgbkbbdifmaaWFour
import Derived.Test.YtckpgbkbbdifmaaWQPut
import Derived.Test.YtckpgbkbbdifmaaWApart
import Derived.Test.YtckpgbkbbdifmaaWArr
import Derived.Test.YtckpgbkbbdifmaaWZeros
import Derived.Test.YtckpgbkbbdifmaaWFoot
import Derived.Test.YtckpgbkbbdifmaaWKept
import Derived.Test.YtckpgbkbbdifmaaWShare
import Derived.Test.YtckpgbkbbdifmaaWN
import Derived.Test.YtckpgbkbbdifmaaWFootNe
import Derived.Test.YtckpgbkbbdifmaaWAt
import Derived.Test.YtckpgbkbbdifmaaWEqStruct
import Derived.Test.YtckpgbkbbdifmaaWRepsOne
import Derived.Test.YtckpgbkbbdifmaaWInv
import Derived.Test.YtckpgbkbbdifmaaWInvWords
import Derived.Test.YtckpgbkbbdifmaaWGuard
import Derived.Test.YtckpgbkbbdifmaaWNEv
import Derived.Test.YtckpgbkbbdifmaaWMore
import Derived.Laws.CopyOwn
namespace Go.Proofs.Ytckpgbkbbdifmaa.Keep
open Go Go.RowKit Go.Proofs.YtckpgbkbbdifmaaW.PrintWords Go.Proofs.YtckpgbkbbdifmaaW.PrintLast Go.Proofs.YtckpgbkbbdifmaaW.PrintMore
/-- append, and the row that was appended to reads as before by its own header. -/
theorem run_append_keep {P : Program} (w : World) (base : Nat) (t ty e : TypeId) (i : TypeInfo) (z : Value) (size bytes : Nat) (ht : P.underlying t = some (.slice e)) (hi : P.info? e = some i) (hz : i.zero = some z)
    (hsize : i.size = size) (hby : i.bytes = bytes) (hzs : z.cells.size = size)
    (v : Value) (n : Nat) (xs : List Value) (hown : w.ownsRow base e size v n xs)
    (a : Addr) (m c : Nat) (news : List Value) (hl : news.length = m * size) (hnews : ∀ j u, news[j]? = some u → w.cell? (a.add j) = some u) (h1 : ∀ u ∈ news, u.oneCell' = true)
    (h63 : n + m ≤ maxLen) (hbytes : (n + m) * bytes ≤ 140737488355328) (hbase : base ≤ w.heap.size) (_hm : 0 < m) (hn : 0 < n) :
    ∃ v' w', (Builtin.append_ #[t, t] ty #[v, .slice (some a) m c]).run P w = .ok v' w' ∧ w'.ownsRow base e size v' (n + m) (xs ++ news) ∧ w.grownBy w' v.ownBlock ∧ w'.ownsRow base e size v n xs := by
  subst hsize
  subst hby
  have hsmall : n + m ≤ 9223372036854775807 := by simp only [maxLen] at h63; omega
  have hlen : (xs ++ news).length = (n + m) * i.size := by rw [List.length_append, hown.1, hl, Nat.add_mul]
  rcases hown.2 with ⟨rfl, rfl⟩ | ⟨g, cap, cur, rfl, hbg, hg, hnc, hcm, hcs, htake⟩
  · omega
  · by_cases hroom : n + m ≤ cap
    · have hfit : n * i.size + news.length ≤ cur.size := by rw [hl, hcs, ← Nat.add_mul]; exact Nat.mul_le_mul_right _ hroom
      have hr := run_append_room (P := P) w t ty e i ht hi g n cap cur hg a m c news hl hnews h1 hroom hfit
      have hsz2 : (cur.toList.take (n * i.size) ++ news ++ cur.toList.drop (n * i.size + news.length)).toArray.size = cap * i.size := by
        simp only [List.size_toArray, List.length_append, List.length_take, List.length_drop, Array.length_toList]
        omega
      refine ⟨_, _, hr, ⟨hlen, .inr ⟨g, cap, _, rfl, hbg, setRow_heap w g cur _ e _ hg, hroom, hcm, hsz2, ?_⟩⟩, ⟨rfl, rfl, rfl, by simp, fun k _ hk => setRow_other w g k _ (fun e => hk (by simp [Value.ownBlock, e]))⟩, ⟨hown.1, .inr ⟨g, cap, _, rfl, hbg, setRow_heap w g cur _ e _ hg, hnc, hcm, hsz2, ?_⟩⟩⟩
      · rw [htake, ← hlen]
        exact List.take_left
      · rw [htake, List.append_assoc, ← hown.1]
        exact List.take_left
    · have holds : ∀ j u, xs[j]? = some u → w.cell? ((⟨g, 0, none⟩ : Addr).add j) = some u := hown.cells (g := g) rfl
      have hr := run_append_grow (P := P) w t ty e i z ht hi hz ⟨g, 0, none⟩ n cap xs hown.1 holds a m c news hl hnews (by omega) (by omega) (growslice_fits (by omega) hbytes)
      have hge := grownCap_ge w (n + m) cap e
      have hcm2 : grownCap w (n + m) cap e ≤ maxLen := grownCap_le_maxLen w (n + m) cap e h63
      have hlt : g < w.heap.size := by
        rcases Nat.lt_or_ge g w.heap.size with h | h
        · exact h
        · rw [Array.getElem?_eq_none h] at hg; cases hg
      refine ⟨_, _, hr, ⟨hlen, .inr ⟨w.heap.size, _, _, rfl, hbase, heap_alloc_new w.drew _, hge, hcm2, ?_, ?_⟩⟩, ⟨rfl, rfl, rfl, by simp, fun k hk _ => heap_alloc_old w.drew _ hk⟩, ⟨hown.1, .inr ⟨g, cap, cur, rfl, hbg, (heap_alloc_old w.drew _ hlt).trans hg, hnc, hcm, hcs, htake⟩⟩⟩
      · simp only [Array.size_append, List.size_toArray, size_zeroCells, hzs, hown.1, hl, ← Nat.add_mul]
        congr 1
        omega
      · simp only [Array.toList_append, List.append_assoc]
        rw [← List.append_assoc, ← hlen]
        exact List.take_left

section
variable {P : Program} {ops : Array Oper} {rest : List Oper} {o : Oper} {a : Act} {Q : Exit → Act → World → Prop}
/-- append(v, x) of whole numbers where v itself is read on. -/
theorem keep_int (k : IntKind) {w0 W : World} (base : Nat) (hgd : o.guard = none) (s x : Operand) (t e : TypeId) (z : Value) (bytes : Nat)
    (ho : o.op = .call { callee := .builtin .append, args := #[s, x], argTypes := #[t, t] })
    (ht : P.underlying t = some (.slice e)) (hinfo : (P.info? e).map (fun i => (i.zero, i.size, i.bytes)) = some (some z, 1, bytes)) (hz : z.cells.size = 1) (hb0 : 0 < bytes)
    (v : Value) (xs : List Int) (p : Int) (hs : a.eval s = v) (hx : a.eval x = .slice (some ⟨W.heap.size, 0, none⟩) 1 1)
    (HO : (Kd.int k).R e W base (fun _ => True) v xs) (HB : Below base w0 W) (hbase : base ≤ W.heap.size) (hl : (xs.length + 1) * bytes ≤ 140737488355328) (hn : 0 < xs.length)
    (h : ∀ v1 w1, (Kd.int k).R e w1 base (fun _ => True) v1 (xs ++ [p]) → (Kd.int k).R e w1 base (fun _ => True) v xs → Below base w0 w1 → wpList P ops Q rest (a.put o.dst v1) w1) :
    wpList P ops Q (o :: rest) a (W.alloc (.cells #[.int k p] e)) := by
  obtain ⟨i0, hi, hzz⟩ := Option.map_eq_some_iff.1 hinfo
  simp only [Prod.mk.injEq] at hzz
  obtain ⟨hz0, hz1, hz2⟩ := hzz
  have hlen : xs.length + 1 ≤ 140737488355328 := Nat.le_trans (Nat.le_mul_of_pos_right _ hb0) hl
  have HO1 := (Kd.own_of_R HO).alloc (.cells #[Value.int k p] e)
  refine wpList_plain hgd fun K hK => ?_
  obtain ⟨v1, w1, hr, hown, hg, hkeep⟩ := run_append_keep (P := P) (W.alloc (.cells #[.int k p] e)) base t o.type e i0 z 1 bytes ht hi hz0 hz1 hz2 hz v xs.length _ HO1 ⟨W.heap.size, 0, none⟩ 1 1 [Value.int k p] rfl
    (by simpa using World.news_of_block (cs := #[Value.int k p]) (t := e) (fr := (0, 0)) (heap_alloc_new W (.cells #[Value.int k p] e))) (by intro u hu; rcases List.mem_cons.1 hu with rfl | hu; rfl; cases hu) (by simp only [maxLen]; omega) hl (by simp; omega) (by decide) hn
  unfold Oper.wp execOp
  simp only [ho, resolve, invoke, builtin, Sem.run_bind, Sem.run_pure, Result.andThen_ok, List.map_toArray, List.map_cons, List.map_nil, hs, hx, hr]
  refine hK _ _ (h v1 w1 ?_ ?_ ?_)
  · refine Kd.R_of_own (h1 := fun _ => rfl) ?_ (fun _ _ => trivial)
    rw [List.length_append, encs_append]; exact hown
  · exact Kd.R_of_own (h1 := fun _ => rfl) hkeep (fun _ _ => trivial)
  · exact (HB.alloc hbase _).grown hg (by simp; omega) (own_base (Kd.own_of_R HO))
end
section
variable {P : Program} {ops : Array Oper} {rest : List Oper} {o : Oper} {a : Act} {Q : Exit → Act → World → Prop}
/-- copy(v, ys) of whole numbers, v a row of the call's own that is long enough. -/
theorem copy_int_ (k : IntKind) {w0 W : World} (base : Nat) (hgd : o.guard = none) (d s : Operand) (dT sT e : TypeId) {ok : Nat → Prop}
    (ho : o.op = .call { callee := .builtin .copy, args := #[d, s], argTypes := #[dT, sT] })
    (hu : P.underlying dT = some (.slice e)) (hsz : (P.info? e).map (·.size) = some 1)
    (v : Value) (xs ys : List Int) (A : Option Addr) (c : Nat) (hd : a.eval d = v) (hs : a.eval s = .slice A ys.length c)
    (HO : (Kd.int k).R e W base ok v xs) (HC : (Kd.int k).C W A ys.length ys) (hle : ys.length ≤ xs.length) (HB : Below base w0 W)
    (h : ∀ w1, (Kd.int k).R e w1 base ok v (ys ++ xs.drop ys.length) → Below base w0 w1 → wpList P ops Q rest (a.put o.dst (goInt ys.length)) w1) :
    wpList P ops Q (o :: rest) a W := by
  have hok := HO.1
  have hown := Kd.own_of_R HO
  have hel : (encs (Value.int k) ys).length = ys.length := encs_length ys
  have hmin : Nat.min ys.length xs.length = ys.length := Nat.min_eq_left hle
  have h1 : ∀ u ∈ encs (Value.int k) ys, u.oneCell' = true := by
    intro u hu'; unfold encs at hu'; obtain ⟨x, _, rfl⟩ := List.mem_map.1 hu'; rfl
  rcases hown.2 with ⟨rfl, h0⟩ | ⟨g, cap, cur, rfl, hbg, hg, hnc, hcm, hcs, htake⟩
  · have hx : xs = [] := List.eq_nil_of_length_eq_zero h0
    subst hx
    have hy : ys = [] := List.eq_nil_of_length_eq_zero (by simpa using hle)
    subst hy
    refine wpList_copy_nothing hgd d s dT sT ho e hu hsz _ _ _ _ _ _ hd hs (by simp) ?_
    exact h W (by simpa using HO) HB
  · have hlen : cur.toList.length = cap := by rw [Array.length_toList, hcs, Nat.mul_one]
    refine wpList_copy_splice hgd d s dT sT ho e hu hsz _ _ _ _ _ _ hd hs g 0 cur.toList _ (by rw [Array.toArray_toList]; exact hg) (encs (Value.int k) ys) (by rw [hel]; exact hmin.symm) ?_ (by omega) h1 base w0 HB hbg ?_
    · intro hp
      rw [hel] at hp
      obtain ⟨ad, ead, _⟩ := Kd.at_int HC 0 (by omega) (by omega)
      refine ⟨rfl, ad, ead, ?_⟩
      intro j u hj
      have hjl : j < ys.length := by
        rcases Nat.lt_or_ge j ys.length with hh | hh
        · exact hh
        · rw [List.getElem?_eq_none (by omega)] at hj; cases hj
      obtain ⟨ad2, ead2, hc2⟩ := Kd.at_int HC (j : Int) (by omega) (by omega)
      rw [ead] at ead2
      injection ead2 with ead2
      subst ead2
      rw [Int.toNat_natCast] at hc2
      rw [hc2, ← hj, encs_get (d := 0) ys j hjl]
      simp [rd]
    · intro w1 hg1 hb1
      have hsp := hg1.out
      rw [hel]
      refine h w1 (Kd.R_of_own (h1 := fun _ => rfl) ?_ hok) hb1
      have hll : (ys ++ xs.drop ys.length).length = xs.length := by rw [List.length_append, List.length_drop]; omega
      rw [hll]
      have hel2 : (encs (Value.int k) (ys ++ xs.drop ys.length)).length = xs.length := by rw [encs_length, hll]
      refine ⟨by rw [hel2, Nat.mul_one], .inr ⟨g, cap, _, rfl, hbg, hsp, hnc, hcm, ?_, ?_⟩⟩
      · rw [List.size_toArray, length_splice _ _ _ (by omega), hlen, Nat.mul_one]
      · have htake2 : cur.toList.take xs.length = encs (Value.int k) xs := by rw [Nat.mul_one] at htake; exact htake
        show (splice cur.toList 0 (encs (Value.int k) ys)).take (xs.length * 1) = _
        rw [Nat.mul_one, splice, List.take_zero, List.nil_append, Nat.zero_add, hel, encs_append, List.take_append, List.take_of_length_le (by omega), hel]
        congr 1
        have : encs (Value.int k) (xs.drop ys.length) = (encs (Value.int k) xs).drop ys.length := by unfold encs; rw [List.map_drop]
        rw [this, ← htake2, List.drop_take]
end
end Go.Proofs.Ytckpgbkbbdifmaa.Keep
