/- tendrillaw3.PoolSorts returns true for every input; no condition. -/
import Derived.Test.YtbgkpjigkjdmcaaRows
import Derived.Test.YtbgkpjigkjdmcaaWSized
import Derived.Test.YtbgkpjigkjdmcaaHeap
import Derived.Test.YtbgkpjigkjdmcaaPool
import Derived.WalkKit
import Derived.ProofKit
import Derived.OpenShut
import Derived.ShutString
import Derived.ChangeOld
import Derived.Below
import Derived.SizedLaws
import Derived.Deep.Slices
import Derived.Deep.Fields
import Derived.ChangeSame
import Derived.Deep.RegionLaw
import Derived.Deep.DrawnRows
namespace Go.Proofs.Ytbgkpjigkjdmcaa.poolSorts
open Go.ChangeShapes Go.WideShapes Go.ChangeAt Go.RowKit Go.Deep
open Go.ChangeMaps (open_string shut_string)
open Go Go.RowKit Go.Proofs.YtbgkpjigkjdmcaaW.PrintWords Go.Proofs.YtbgkpjigkjdmcaaW.PrintLast Go.Proofs.YtbgkpjigkjdmcaaW.PrintMore  Go.Proofs.Ytbgkpjigkjdmcaa.Ep
set_option linter.unusedVariables false
set_option linter.unusedSimpArgs false
theorem putB_eq (x : Int) (L : List Int) (h0 : 0 ≤ x) (h1 : x < 100) : putB 100 x L = !decide (x ∈ L) := by
  unfold putB; by_cases h : x ∈ L <;> simp [h, h0, h1]
theorem putL_len (x : Int) (L : List Int) (h0 : 0 ≤ x) (h1 : x < 100) : (x ∈ L → putL 100 x L = L) ∧ (x ∉ L → putL 100 x L = ins x L) :=
  ⟨fun h => if_neg (fun hh => hh.2.2 h), fun h => if_pos ⟨h0, h1, h⟩⟩
set_option maxHeartbeats 8000000 in
set_option maxRecDepth 100000 in
theorem walk (a0 : Option Addr) (len0 cap0 : Nat) (z0 : List Int) (w : World) (w0 : (a0 = none ∧ len0 = 0 ∧ cap0 = 0 ∧ z0 = []) ∨ ∃ x, a0 = some x ∧ len0 ≤ cap0 ∧ cap0 ≤ maxLen ∧ z0.length = cap0 ∧ (∀ i, i < z0.length → w.cell? (x.add i) = some (.int .i64 (z0.getD i 0))) ∧ ∀ n ∈ z0, (Lit.int .i64 n).wf = true) (y0 : len0 * 8 ≤ 140737488351232) :
    Calls Try.prog 5 #[.slice a0 len0 cap0] w fun e w' => e = .returned (.bool true) ∧ Below w.heap.size w w' := by
  have hcells : ∀ i, i < len0 → ∃ x v, a0 = some x ∧ (x.add i).block < w.heap.size ∧ w.cell? (x.add i) = some (.int .i64 v) := fun i hi => by
    rcases w0 with ⟨_, h, _⟩ | ⟨x, e, hl, _, hz, hc, _⟩
    · omega
    · exact ⟨x, _, e, World.block_lt_of_cell? w _ (hc i (by omega)), hc i (by omega)⟩
  have hlen : len0 ≤ 9223372036854775807 := by omega
  have HZ := Aside0.mk hcells
  clear hcells w0 y0
  go_enter Try.func5, Try.ntmps5
  go_wp2_with (go_at_call 8; (with_reducible refine (new_ _ 100 (by decide) (by decide)).mono ?_); rintro e w1 ⟨g, gm, rfl, P1, T1⟩)
  have HP := Aside0.mk P1
  have HB := Aside0.mk T1
  clear P1 T1
  obtain ⟨V0, hV0⟩ : ∃ V0 : Value, .slice none 0 0 = V0 := ⟨_, rfl⟩
  rw [hV0] at HP
  clear hV0
  go_loopg [5, 6] 101 (fun kq v5 v6 w' => ∃ (i : Nat) (L : List Int) (V : Value), v5 = .int .i64 (L.length : Int) ∧ v6 = .int .i64 (i : Int) ∧ Aside0 (i + kq = 101) ∧ Aside0 (i ≤ 100) ∧ Aside0 (PM w' w.heap.size g gm 100 i V L) ∧ Aside0 (Below w.heap.size w w'))
  case atStart => exact ⟨0, [], V0, rfl, rfl, ⟨rfl⟩, ⟨by decide⟩, HP, HB⟩
  case round =>
    clear HP HB
    clear V0
    obtain ⟨i, L, V, rfl, rfl, HK, HI, HP, HB⟩ := hrel
    have hL9 : L.length ≤ 65535 := HP.out.len_le
    by_cases hgo : i < len0 ∧ i < 100
    · have p1 : decide (i < len0) = true := decide_eq_true hgo.1
      have p2 : decide ((i : Int) < 100) = true := decide_eq_true (by omega)
      have hi0 : (0 : Int) ≤ (i : Int) := by omega
      have hi1 : (i : Int) < (len0 : Int) := by omega
      obtain ⟨x, v, rfl, hb, hc⟩ := HZ.out i hgo.1
      have hc' : wr.cell? (x.add i) = some (.int .i64 v) := (HB.out.cell (p := x.add i) hb).trans hc
      have hg1 := hgo.2
      clear hc hgo hb
      obtain ⟨y, hy⟩ : ∃ y, within v 0 99 = y := ⟨_, rfl⟩
      have hyb := within_bd v 0 99 (by decide)
      rw [hy] at hyb
      have HY := Aside0.mk hy
      have hyw : (Lit.int .i64 y).wf = true := WalkArith.wf_i64 (by omega)
      clear hy
      by_cases hin : y ∈ L
      · have HA : Aside0 (decide (y ∈ L) = true ∧ putB 100 y L = false ∧ putL 100 y L = L) := ⟨decide_eq_true hin, by rw [putB_eq y L (by omega) (by omega), decide_eq_true hin]; rfl, (putL_len y L (by omega) (by omega)).1 hin⟩
        clear hin
        go_wp2_with (first
          | (go_at_call 15; (with_reducible refine (within_c v 0 99 y _ (by decide) (by decide) (by decide) HY.out).mono ?_); rintro e w' ⟨rfl, rfl⟩)
          | (go_at_call 13; (with_reducible refine (has_ _ w.heap.size g gm 100 i V L y true HP.out hyw HA.out.1).mono ?_); rintro e w2 ⟨rfl, P2, B2⟩)
          | (go_at_call 9; (with_reducible refine (put_ _ w.heap.size g gm 100 i V L y false L P2 hyw (by omega) HA.out.2.1 HA.out.2.2).mono ?_); rintro e w3 ⟨V3, rfl, P3, T3, O3⟩)
          | (go_at_call 13; (with_reducible refine (has_ _ w.heap.size g gm 100 (i + 1) V3 L y true P3 hyw HA.out.1).mono ?_); rintro e w4 ⟨rfl, P4, B4⟩))
        go_roundg (gk - 1)
        case measure => have := HK.out; omega
        case rel => exact ⟨i + 1, L, V3, by first | rfl | go_num, by go_num, ⟨by have := HK.out; omega⟩, ⟨by omega⟩, ⟨P4⟩, ⟨((HB.out.trans (B2.mono HP.out.base_le)).trans T3.below).trans (B4.mono P3.base_le)⟩⟩
      · have HA : Aside0 (decide (y ∈ L) = false ∧ putB 100 y L = true ∧ putL 100 y L = ins y L ∧ decide (y ∈ ins y L) = true) := ⟨decide_eq_false hin, by rw [putB_eq y L (by omega) (by omega), decide_eq_false hin]; rfl, (putL_len y L (by omega) (by omega)).2 hin, decide_eq_true ((ins_mem y L y).2 (.inl rfl))⟩
        have HLn : Aside0 ((ins y L).length = L.length + 1) := ⟨ins_length y L⟩
        clear hin
        go_wp2_with (first
          | (go_at_call 15; (with_reducible refine (within_c v 0 99 y _ (by decide) (by decide) (by decide) HY.out).mono ?_); rintro e w' ⟨rfl, rfl⟩)
          | (go_at_call 13; (with_reducible refine (has_ _ w.heap.size g gm 100 i V L y false HP.out hyw HA.out.1).mono ?_); rintro e w2 ⟨rfl, P2, B2⟩)
          | (go_at_call 9; (with_reducible refine (put_ _ w.heap.size g gm 100 i V L y true (ins y L) P2 hyw (by omega) HA.out.2.1 HA.out.2.2.1).mono ?_); rintro e w3 ⟨V3, rfl, P3, T3, O3⟩)
          | (go_at_call 13; (with_reducible refine (has_ _ w.heap.size g gm 100 (i + 1) V3 (ins y L) y true P3 hyw HA.out.2.2.2).mono ?_); rintro e w4 ⟨rfl, P4, B4⟩))
        go_roundg (gk - 1)
        case measure => have := HK.out; omega
        case rel => exact ⟨i + 1, ins y L, V3, by rw [HLn.out]; go_num, by go_num, ⟨by have := HK.out; omega⟩, ⟨by omega⟩, ⟨P4⟩, ⟨((HB.out.trans (B2.mono HP.out.base_le)).trans T3.below).trans (B4.mono P3.base_le)⟩⟩
    · by_cases hi9 : i < len0
      all_goals
        first
        | (have p1 : decide (i < len0) = true := decide_eq_true hi9
           have p2 : decide ((i : Int) < 100) = false := decide_eq_false (by omega))
        | (have p1 : decide (i < len0) = false := decide_eq_false hi9)
        clear hgo hi9
        go_wp2
        have HPB := HP
        have HBB := HB
        have hlast : ∀ z ∈ L, (-1 : Int) < z := fun z hz => by have := HP.out.rng z hz; omega
        have HLA := Aside0.mk hlast
        clear hlast hL9 HP HB
        obtain ⟨L0, rfl⟩ : ∃ L0, L0 = L := ⟨_, rfl⟩
        obtain ⟨VV, rfl⟩ : ∃ VV, VV = V := ⟨_, rfl⟩
        go_loopg [5, 9] (L0.length + 1) (fun kq v5 v9 w' => ∃ (L : List Int) (V : Value) (last : Int), v5 = .int .i64 (L.length : Int) ∧ v9 = .int .i64 last ∧ Aside0 (L.length + 1 ≤ kq) ∧ Aside0 (PM w' w.heap.size g gm 100 i V L) ∧ Aside0 (∀ z ∈ L, last < z) ∧ Aside0 (Below w.heap.size w w'))
        case atStart => exact ⟨L0, VV, -1, rfl, rfl, ⟨Nat.le_refl _⟩, HPB, HLA, HBB⟩
        case round =>
          clear HPB HBB HLA
          obtain ⟨L, V, last, rfl, rfl, HK2, HP, HLA, HB⟩ := hrel
          have hL9 : L.length ≤ 65535 := HP.out.len_le
          cases L with
          | nil =>
            go_wp2_with (first
              | (go_at_call 10; (with_reducible refine (take_none _ w.heap.size g gm 100 i V HP.out).mono ?_); rintro e w2 ⟨V2, rfl, P2, T2, O2⟩)
              | (go_at_call 3; (with_reducible refine (runs_ _).mono ?_); rintro e w3 ⟨rfl, B3⟩))
            go_ret
            exact ⟨rfl, (HB.out.trans T2.below).trans (B3.mono P2.base_le)⟩
          | cons x L =>
            obtain ⟨n, hn⟩ : ∃ n, L.length = n := ⟨_, rfl⟩
            have hx : last < x := HLA.out x List.mem_cons_self
            have hsrt := List.pairwise_cons.1 HP.out.srt
            have hxL : x ∉ L := fun e => by have := hsrt.1 x e; omega
            have hxr := HP.out.rng x List.mem_cons_self
            have hxw : (Lit.int .i64 x).wf = true := WalkArith.wf_i64 (by omega)
            have HX : Aside0 (decide (x ∈ L) = false ∧ (∀ z ∈ L, x < z) ∧ L.length = n) := ⟨decide_eq_false hxL, hsrt.1, hn⟩
            have hlen : (x :: L).length = n + 1 := by rw [List.length_cons, hn]
            rw [hlen] at hL9
            have HLN := Aside0.mk hlen
            simp only [hlen]
            have p5 : decide (x ≤ last) = false := decide_eq_false (by omega)
            clear hsrt hxL hn hlen hxr
            go_wp2_with (first
              | (go_at_call 10; (with_reducible refine (take_some _ w.heap.size g gm 100 i V x L HP.out).mono ?_); rintro e w2 ⟨V2, rfl, P2, T2, O2⟩)
              | (go_at_call 13; (with_reducible refine (has_ _ w.heap.size g gm 100 i V2 L x false P2 hxw HX.out.1).mono ?_); rintro e w3 ⟨rfl, P3, B3⟩)
              | (go_at_call 14; (with_reducible refine (plen_ _ w.heap.size g gm 100 i V2 L (n : Int) P3 (by rw [HX.out.2.2])).mono ?_); rintro e w4 ⟨rfl, rfl⟩))
            go_roundg (gk - 1)
            case measure => have := HK2.out; have := HLN.out; omega
            case rel => exact ⟨L, V2, x, by first | (rw [HX.out.2.2]; done) | (rw [HX.out.2.2]; go_num) | go_num, rfl, ⟨by have := HK2.out; have := HLN.out; have := HX.out.2.2; omega⟩, ⟨P3⟩, ⟨HX.out.2.1⟩, ⟨(HB.out.trans T2.below).trans (B3.mono P2.base_le)⟩⟩

theorem own : ownKnob Try.prog.godebug = none := by kernel_rfl
theorem laidOut : laidOutB Try.prog = true := by kernel_rfl
def IsRow (k : IntKind) (w : World) (a : Option Addr) (len cap : Nat) (zs : List Int) : Prop :=
  (a = none ∧ len = 0 ∧ cap = 0 ∧ zs = []) ∨
  ∃ x, a = some x ∧ len ≤ cap ∧ cap ≤ maxLen ∧ zs.length = cap ∧ (∀ i, i < zs.length → w.cell? (x.add i) = some (.int k (zs.getD i 0))) ∧ ∀ n ∈ zs, (Lit.int k n).wf = true
set_option maxRecDepth 100000 in
theorem lifted (os : Os) (started : os.Started) (H : Type) (enc : TypeId × Value → H) :
    ReturnsInHanded {} Try.checked os 5 .any (Rows.poolSortsSpec.pre6 enc Try.prog Try.f5 Rows.poolSortsRow.domain false) (Rows.poolSortsSpec.post enc Try.prog Try.f5 false true false false) := by
  refine returnsInHanded_of_change_sized (C := Try.checked) own started (by kernel_rfl) Try.func5
    (ChangeSpec.witness6 (enc := enc) (C := Try.checked) false ⟨#[], #[.slice none 0 0], []⟩ 8 (by kernel_rfl) (by kernel_rfl) (by kernel_rfl) (by kernel_rfl)) ?_
  intro W base args ds gs before hval0 hW hcnd hsz0 _
  have hsz : (DataW.weightsEach Try.prog (Try.f5.params.toList ++ Rows.poolSortsSpec.plain.varTypes Try.prog) (ds ++ gs)).all (· ≤ reachBytes) = true := hsz0
  have hval : ∀ (j : Nat) t v, Try.f5.params[j]? = some t → args[j]? = some v → Value.okWide Try.prog W .any base t v := hval0
  have hW' := hW
  obtain ⟨p, q, hA0, hV, rfl, hfz, hnd⟩ := hW
  have hA : DataW.TrodAll enc Try.prog W 0 (fun _ => true) true Try.f5.params.toList args.toList ds p := hA0
  rw [Try.params5] at hA hval hsz
  obtain ⟨v0, vs0, d0, ds0, p0, q0, hargs, rfl, rfl, h0, r0⟩ := trodAll_cons hA
  obtain ⟨rfl, rfl, rfl⟩ := trodAll_nil r0
  obtain rfl : args = #[v0] := by cases args; simp_all
  obtain ⟨rfl, rfl⟩ := trodVars_none hV
  obtain ⟨a0, len0, cap0, rfl⟩ := okWide_slice Try.underlying32 (hval 0 32 v0 rfl rfl)
  have k0 := h0
  have lt0 : ∀ x ∈ p0, x.block < W.heap.size := by obtain ⟨m, hm⟩ := k0; exact DataW.trod_lt m _ _ _ hm
  obtain ⟨z0, w0⟩ : ∃ zs, IsRow .i64 W a0 len0 cap0 zs := by
    obtain ⟨fuel, hf⟩ := h0
    rcases open_ints Try.underlying32 Try.underlying3 (by kernel_rfl) hf with ⟨hcs, _⟩ | ⟨x, l, c, zs, hcs, _, hl, hm, hz, _, hcell, hwz⟩
    · simp [Value.cells] at hcs
      obtain ⟨rfl, rfl, rfl⟩ := hcs
      exact ⟨[], .inl ⟨rfl, rfl, rfl, rfl⟩⟩
    · simp [Value.cells] at hcs
      obtain ⟨rfl, rfl, rfl⟩ := hcs
      exact ⟨zs, .inr ⟨_, rfl, hl, hm, by simpa using hz, hcell, hwz⟩⟩
  have y0 : len0 * 8 ≤ 140737488351232 := Go.Proofs.YtbgkpjigkjdmcaaW.PrintWords.sized_ints hsz (j := 0) (t := 32) rfl rfl Try.underlying32 Try.underlying3 (by kernel_rfl) (by kernel_rfl) h0
  clear hA0 hval0 hsz0 hsz
  refine (walk a0 len0 cap0 z0 W w0 y0).mono fun e W' ⟨he, bel⟩ => ?_
  subst he
  exact ⟨_, rfl, _, _, _, [], _, [], hW', trodAll_mk1 (shut_bool Try.underlying4 _), (trodAll_cons_mk (Below.trod laidOut (by kernel_rfl) (of_decide_eq_true (by kernel_rfl)) k0 bel lt0) trodAll_mk0), rfl, bel.frame _, fun h => by cases h⟩
theorem over : Rows.poolSortsRow.holds Try.pinned (OpenSpec.ofChange Rows.poolSortsSpec) :=
  OpenClaim.holds_of_wide 5 Try.f5 rfl rfl rfl rfl rfl rfl rfl ⟨rfl, rfl, rfl, rfl, rfl⟩ rfl rfl rfl rfl rfl (by kernel_rfl) Try.func5 (by kernel_rfl)
    (of_decide_eq_true (by kernel_rfl)) (by unfold Func.isWrapper; first | (rw [if_pos (by decide +kernel)]; kernel_rfl) | (rw [if_neg (by decide +kernel)]; exact ⟨rfl, rfl⟩))
    (fun os started H enc _ => lifted os started H enc)
theorem proved : Rows.PoolSortsSaid := over
#print axioms proved
end Go.Proofs.Ytbgkpjigkjdmcaa.poolSorts
namespace Go.Proofs.Ytbgkpjigkjdmcaa
/-- The row, under a short name, for the claim. -/
theorem poolSorts_holds : Rows.PoolSortsSaid := poolSorts.proved
end Go.Proofs.Ytbgkpjigkjdmcaa
