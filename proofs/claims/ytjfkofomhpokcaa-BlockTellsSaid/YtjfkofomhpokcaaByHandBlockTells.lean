/- tendrillaw19.BlockTells returns true for every input; no condition. -/
import Derived.Test.YtjfkofomhpokcaaRows
import Derived.Test.YtjfkofomhpokcaaWSized
import Derived.WalkKit
import Derived.ProofKit
import Derived.OpenShut
import Derived.ShutString
import Derived.ChangeOld
import Derived.Below
import Derived.SizedLaws
import Derived.Test.YtjfkofomhpokcaaPBlockTellsx4
import Derived.Test.YtjfkofomhpokcaaPBlockTellsx3
import Derived.Test.YtjfkofomhpokcaaBlk
namespace Go.Proofs.Ytjfkofomhpokcaa.blockTells
open Go.ChangeShapes Go.WideShapes Go.ChangeAt Go.RowKit
open Go.ChangeMaps (open_string shut_string)
open Go.RowKit Go.Bx Go.Bl Go.Proofs.Ytjfkofomhpokcaa.PBlockTells Go.Proofs.YtjfkofomhpokcaaW.PrintWords Go.Proofs.YtjfkofomhpokcaaW.PrintLast Go.Proofs.YtjfkofomhpokcaaW.PrintMore
attribute [local go_sem] max2_int min2_int max_two min_two max_three min_three max_four min_four
set_option linter.unusedVariables false
set_option linter.unusedSimpArgs false

theorem rd_at (l : List Int) (i : Nat) (h : i < l.length) : rd l (i : Int) = l[i] := by
  unfold rd; rw [Int.toNat_natCast]; exact (List.getElem_eq_getD 0).symm

theorem slices_Equal_byte_byte_l (d : Nat) : ∀ (k : Nat) (x y : List Int) (i : Nat), x.length = y.length → x.length - i = d → i ≤ x.length → d < k → x.length ≤ 9223372036854775806 → slices_Equal_byte_byte.l0 k x y (x.length : Int) (i : Int) = some (decide (x.drop i = y.drop i)) := by
  induction d with
  | zero =>
    intro k x y i hxy hi hle hk hm
    obtain ⟨k, rfl⟩ : ∃ m, k = m + 1 := ⟨k - 1, by omega⟩
    simp only [slices_Equal_byte_byte.l0]
    rw [if_neg (by omega), List.drop_of_length_le (by omega), List.drop_of_length_le (by omega)]; simp
  | succ d ih =>
    intro k x y i hxy hi hle hk hm
    obtain ⟨k, rfl⟩ : ∃ m, k = m + 1 := ⟨k - 1, by omega⟩
    simp only [slices_Equal_byte_byte.l0]
    have h1 : i < x.length := by omega
    have h2 : i < y.length := by omega
    rw [if_pos (by omega), if_pos (by omega), if_pos (by omega), if_pos (by omega), rd_at x i h1, rd_at y i h2, show wrap64 ((i : Int) + 1) = ((i + 1 : Nat) : Int) from by unfold wrap64; omega]
    rw [List.drop_eq_getElem_cons h1, List.drop_eq_getElem_cons h2]
    by_cases e : x[i] = y[i]
    · rw [if_pos e, ih k x y (i + 1) hxy (by omega) (by omega) (by omega) hm]
      congr 1; rw [decide_eq_decide, List.cons.injEq]; exact ⟨fun h => ⟨e, h⟩, fun h => h.2⟩
    · rw [if_neg e]; congr 1; symm; rw [decide_eq_false_iff_not, List.cons.injEq]; exact fun h => e h.1
theorem slices_Equal_byte_byte_f (k : Nat) (x y : List Int) (hk : x.length < k) (hm : x.length ≤ 9223372036854775806) : slices_Equal_byte_byte.f k x y = some (decide (x = y)) := by
  unfold slices_Equal_byte_byte.f
  by_cases h : (x.length : Int) = (y.length : Int)
  · rw [if_pos h]
    have := slices_Equal_byte_byte_l x.length k x y 0 (by omega) (by omega) (by omega) (by omega) hm
    simpa using this
  · rw [if_neg h]; congr 1; symm; rw [decide_eq_false_iff_not]; intro e; exact h (by rw [e])

theorem number_l (d : Nat) : ∀ (k : Nat) (x : List Int) (n : Int), 0 ≤ n → n < pw (d + 1) → d ≤ 4 → d < k → x.length + d < 140737488355327 → block_number.l0 k x n = some (x ++ dig d n) := by
  induction d with
  | zero =>
    intro k x n h0 h1 _ hk hx
    have h1' : n < 128 := h1
    obtain ⟨k, rfl⟩ : ∃ m, k = m + 1 := ⟨k - 1, by omega⟩
    simp only [block_number.l0]
    rw [if_neg (by omega), if_pos (by omega), show n % 256 = n from by omega]; rfl
  | succ d ih =>
    intro k x n h0 h1 hd hk hx
    obtain ⟨k, rfl⟩ : ∃ m, k = m + 1 := ⟨k - 1, by omega⟩
    simp only [block_number.l0]
    by_cases h : n ≥ 128
    · rw [if_pos h, if_pos (by omega), piece_more n]
      rw [pw_succ (d + 1) (by omega)] at h1
      rw [ih k _ (n / 128) (by omega) (by omega) (by omega) (by omega) (by rw [List.length_append]; simp only [List.length_cons, List.length_nil]; omega)]
      congr 1; rw [dig, if_pos h]; simp
    · rw [if_neg h, if_pos (by omega), show n % 256 = n from by omega, dig, if_neg h]
theorem number_f (k : Nat) (x : List Int) (n : Int) (h0 : 0 ≤ n) (h1 : n < 34359738368) (hk : 4 < k) (hx : x.length < 140737488355000) : block_number.f k x n = some (x ++ dig 4 n) :=
  number_l 4 k x n h0 h1 (by decide) hk (by omega)
theorem right_l (l : List Int) (hl : l.length ≤ 140737488351232) (d : Nat) : ∀ (k i : Nat) (last : Int), l.length - i = d → i ≤ l.length → d < k → ((i = 0 ∧ last = -1) ∨ (0 < i ∧ last = rd l ((i : Int) - 1) ∧ 0 ≤ last)) →
    block_Right.l0 k l l (l.length : Int) (i : Int) = some (decide (Rises last (l.drop i) ∧ 1 ≤ l.length ∧ l.length ≤ 16)) := by
  induction d with
  | zero =>
    intro k i last hi hle hk _
    obtain ⟨k, rfl⟩ : ∃ m, k = m + 1 := ⟨k - 1, by omega⟩
    simp only [block_Right.l0]
    rw [if_neg (by omega), List.drop_of_length_le (by omega)]
    by_cases h1 : (l.length : Int) ≥ 1
    · rw [if_pos h1]; congr 1; rw [decide_eq_decide]
      constructor
      · intro h; exact ⟨trivial, by omega, by omega⟩
      · intro h; omega
    · rw [if_neg h1]; congr 1; symm; rw [decide_eq_false_iff_not]; omega
  | succ d ih =>
    intro k i last hi hle hk hlast
    obtain ⟨k, rfl⟩ : ∃ m, k = m + 1 := ⟨k - 1, by omega⟩
    simp only [block_Right.l0]
    have h1 : i < l.length := by omega
    rw [if_pos (by omega), if_pos (by omega), if_pos (by omega), rd_at l i h1, List.drop_eq_getElem_cons h1]
    have hno : ∀ P : Prop, ¬ P → (∀ Q : Prop, ¬ ((P ∧ Q) ∧ 1 ≤ l.length ∧ l.length ≤ 16)) := fun P hp Q h => hp h.1.1
    by_cases a1 : l[i] < 0
    · rw [if_pos a1]; congr 1; symm; rw [decide_eq_false_iff_not]
      rintro ⟨⟨z, _, _⟩, _⟩
      rcases hlast with h | h <;> omega
    rw [if_neg a1]
    by_cases a2 : l[i] > 1073741824
    · rw [if_pos a2]; congr 1; symm; rw [decide_eq_false_iff_not]
      rintro ⟨⟨_, z, _⟩, _⟩
      omega
    rw [if_neg a2]
    have next := ih k (i + 1) l[i] (by omega) (by omega) (by omega) (.inr ⟨by omega, by rw [show ((i + 1 : Nat) : Int) - 1 = (i : Int) from by omega, rd_at l i h1], by omega⟩)
    rw [show wrap64 ((i : Int) + 1) = ((i + 1 : Nat) : Int) from by unfold wrap64; omega]
    by_cases a3 : (i : Int) > 0
    · rcases hlast with h | h
      · omega
      rw [if_pos a3, show wrap64 ((i : Int) - 1) = (i : Int) - 1 from by unfold wrap64; omega, if_pos (by omega), if_pos (by omega), ← h.2.1]
      by_cases a4 : l[i] ≤ last
      · rw [if_pos a4]; congr 1; symm; rw [decide_eq_false_iff_not]
        rintro ⟨⟨z, _, _⟩, _⟩
        omega
      · rw [if_neg a4, next]; congr 1; rw [decide_eq_decide]
        exact ⟨fun z => ⟨⟨by omega, by omega, z.1⟩, z.2⟩, fun z => ⟨z.1.2.2, z.2⟩⟩
    · rw [if_neg a3, next]; congr 1; rw [decide_eq_decide]
      rcases hlast with h | h
      · exact ⟨fun z => ⟨⟨by omega, by omega, z.1⟩, z.2⟩, fun z => ⟨z.1.2.2, z.2⟩⟩
      · omega
theorem right_f (k : Nat) (l : List Int) (hl : l.length ≤ 140737488351232) (hk : l.length < k) : block_Right.f k l = some (decide (Rt l)) := by
  unfold block_Right.f
  have := right_l l hl l.length k 0 (-1) (by omega) (by omega) hk (.inl ⟨rfl, rfl⟩)
  rw [show ((0 : Nat) : Int) = 0 from rfl, List.drop_zero] at this
  exact this
theorem encode_l (l : List Int) (hl : l.length ≤ 16) (d : Nat) : ∀ (k i : Nat) (out : List Int) (last : Int), l.length - i = d → i ≤ l.length → d + 5 < k → -1 ≤ last → last ≤ 1073741824 → Rises last (l.drop i) → out.length + 5 * d < 140737488350000 →
    block_Encode.l0 k out last l (l.length : Int) (i : Int) = some (out ++ enc last (l.drop i)) := by
  induction d with
  | zero =>
    intro k i out last hi hle hk _ _ _ _
    obtain ⟨k, rfl⟩ : ∃ m, k = m + 1 := ⟨k - 1, by omega⟩
    simp only [block_Encode.l0]
    rw [if_neg (by omega), List.drop_of_length_le (by omega)]; simp [enc]
  | succ d ih =>
    intro k i out last hi hle hk b0 b1 hr ho
    obtain ⟨k, rfl⟩ : ∃ m, k = m + 1 := ⟨k - 1, by omega⟩
    simp only [block_Encode.l0]
    have h1 : i < l.length := by omega
    rw [List.drop_eq_getElem_cons h1] at hr ⊢
    obtain ⟨r1, r2, r3⟩ := hr
    rw [if_pos (by omega), if_pos (by omega), if_pos (by omega), rd_at l i h1]
    rw [show wrap64 (wrap64 (l[i] - last) - 1) = l[i] - last - 1 from by unfold wrap64; omega]
    rw [number_f k out _ (by omega) (by omega) (by omega) (by omega)]; simp only [Option.bind_some]
    rw [show wrap64 ((i : Int) + 1) = ((i + 1 : Nat) : Int) from by unfold wrap64; omega]
    have hd := dig_len 4 (l[i] - last - 1)
    rw [ih k (i + 1) _ l[i] (by omega) (by omega) (by omega) (by omega) (by omega) r3 (by rw [List.length_append]; omega)]
    congr 1; rw [enc]; simp
theorem encode_f (k : Nat) (l : List Int) (hl : l.length ≤ 140737488351232) (hk : l.length < k) (hk2 : 30 < k) : block_Encode.f k l = some (if Rt l then enc (-1) l else []) := by
  unfold block_Encode.f
  rw [right_f k l hl hk]; simp only [Option.bind_some, decide_eq_true_eq]
  by_cases h : Rt l
  · have h2 := h.2.2
    rw [if_pos h, if_pos h]
    have := encode_l l h2 l.length k 0 [] (-1) (by omega) (by omega) (by omega) (by omega) (by omega) (by rw [List.drop_zero]; exact h.1) (by simp only [List.length_nil]; omega)
    rw [show ((0 : Nat) : Int) = 0 from rfl, List.drop_zero, List.nil_append] at this
    exact this
  · rw [if_neg h, if_neg h]
theorem next_step (k : Nat) (l : List Int) (n : Int) (i : Nat) (h1 : i < l.length) (h2 : i < 5) (n0 : 0 ≤ n) (n1 : n < pw i) (hb : 0 ≤ l[i] ∧ l[i] ≤ 255) (_hl : l.length ≤ 140737488351232) :
    block_next.l0 (k + 2) l n (i : Int) = if l[i] < 128 then some (n + l[i] % 128 * pw i, l.drop (i + 1), true) else block_next.l0 k l (n + l[i] % 128 * pw i) ((i + 1 : Nat) : Int) := by
  rw [show k + 2 = (k + 1) + 1 from rfl]
  simp only [block_next.l0]
  rw [if_pos (by omega), decide_eq_true (by omega)]
  simp only [block_next.j1, if_true]
  have e3 : IntKind.u64.wrap (wrap64 (7 * (i : Int))) = ((7 * i : Nat) : Int) := by rw [wrap_u64]; unfold wrap64; omega
  rw [if_pos (by omega), if_pos (by omega), if_pos (by rw [e3]; omega), rd_at l i h1]
  unfold shl
  rw [show IntKind.i64.bits = 64 from rfl, piece_add n l[i] i h2 n0 n1 hb.1 hb.2, show wrap64 ((i : Int) + 1) = ((i + 1 : Nat) : Int) from by unfold wrap64; omega]
  by_cases c : l[i] < 128
  · rw [if_pos c, if_pos c, if_pos (by omega), if_pos (by omega), Int.toNat_natCast]
  · rw [if_neg c, if_neg c]
theorem next_stop (k : Nat) (l : List Int) (n : Int) (i : Nat) (h : ¬ (i < l.length ∧ i < 5)) : block_next.l0 (k + 2) l n (i : Int) = some (0, [], false) := by
  rw [show k + 2 = (k + 1) + 1 from rfl]
  simp only [block_next.l0]
  by_cases h1 : (i : Int) < l.length
  · rw [if_pos h1, decide_eq_false (by omega)]; simp only [block_next.j1, Bool.false_eq_true, if_false]
  · rw [if_neg h1]; simp only [block_next.j1, Bool.false_eq_true, if_false]
theorem next_dig (l rest : List Int) (hl : l.length ≤ 140737488351232) (d : Nat) : ∀ (k i : Nat) (n m : Int), i + d ≤ 4 → l.drop i = dig d m ++ rest → 0 ≤ m → m < pw (d + 1) → 0 ≤ n → n < pw i → 2 * (d + 1) ≤ k →
    block_next.l0 k l n (i : Int) = some (n + m * pw i, rest, true) := by
  induction d with
  | zero =>
    intro k i n m hi hd m0 m1 n0 n1 hk
    have m1' : m < 128 := m1
    obtain ⟨k, rfl⟩ : ∃ z, k = z + 2 := ⟨k - 2, by omega⟩
    have hlen : i < l.length := by
      have := congrArg List.length hd; rw [List.length_drop, List.length_append] at this; simp only [dig, List.length_cons, List.length_nil] at this; omega
    rw [List.drop_eq_getElem_cons hlen] at hd
    obtain ⟨e1, e2⟩ := List.cons.inj hd
    rw [next_step k l n i hlen (by omega) n0 n1 (by rw [e1]; omega) hl, e1, if_pos (by omega), e2, show m % 128 = m from by omega]; rfl
  | succ d ih =>
    intro k i n m hi hd m0 m1 n0 n1 hk
    obtain ⟨k, rfl⟩ : ∃ z, k = z + 2 := ⟨k - 2, by omega⟩
    rw [pw_succ (d + 1) (by omega)] at m1
    have hlen : i < l.length := by
      have h3 := List.length_pos_iff.2 (dig_ne (d + 1) m)
      have := congrArg List.length hd; rw [List.length_drop, List.length_append] at this; omega
    rw [List.drop_eq_getElem_cons hlen] at hd
    by_cases h : m ≥ 128
    · rw [dig, if_pos h] at hd
      obtain ⟨e1, e2⟩ := List.cons.inj hd
      have e3 : (m % 128 + 128) % 128 = m % 128 := by omega
      have hb := piece_bound n (m % 128) i (by omega) n0 n1 (by omega)
      rw [show m % 128 % 128 = m % 128 from by omega] at hb
      rw [next_step k l n i hlen (by omega) n0 n1 (by rw [e1]; omega) hl, e1, if_neg (by omega), e3]
      rw [ih k (i + 1) _ (m / 128) (by omega) e2 (by omega) (by omega) hb.1 hb.2 (by omega), pw_succ i (by omega)]
      have e4 : n + m % 128 * pw i + m / 128 * (128 * pw i) = n + m * pw i := by
        have e5 : m / 128 * (128 * pw i) = (128 * (m / 128)) * pw i := by rw [← Int.mul_assoc, Int.mul_comm (m / 128) 128]
        rw [e5, Int.add_assoc, ← Int.add_mul, show m % 128 + 128 * (m / 128) = m from by omega]
      rw [e4]
    · rw [dig, if_neg h] at hd
      obtain ⟨e1, e2⟩ := List.cons.inj hd
      rw [next_step k l n i hlen (by omega) n0 n1 (by rw [e1]; omega) hl, e1, if_pos (by omega), e2, show m % 128 = m from by omega]; rfl
theorem next_any (l : List Int) (hl : l.length ≤ 140737488351232) (hb : ∀ x ∈ l, 0 ≤ x ∧ x ≤ 255) (d : Nat) : ∀ (k i : Nat) (n : Int), 5 - i = d → i ≤ 5 → 0 ≤ n → n < pw i → 2 * (d + 1) ≤ k →
    ∃ m bh ok, block_next.l0 k l n (i : Int) = some (m, bh, ok) ∧ (ok = true → ∃ j, i < j ∧ j ≤ l.length ∧ bh = l.drop j) := by
  induction d with
  | zero =>
    intro k i n hi hle n0 n1 hk
    obtain ⟨k, rfl⟩ : ∃ z, k = z + 2 := ⟨k - 2, by omega⟩
    exact ⟨_, _, _, next_stop k l n i (by omega), fun h => by cases h⟩
  | succ d ih =>
    intro k i n hi hle n0 n1 hk
    obtain ⟨k, rfl⟩ : ∃ z, k = z + 2 := ⟨k - 2, by omega⟩
    by_cases h : i < l.length
    · have hbi := hb l[i] (List.getElem_mem h)
      rw [next_step k l n i h (by omega) n0 n1 hbi hl]
      by_cases h2 : l[i] < 128
      · rw [if_pos h2]; exact ⟨_, _, _, rfl, fun _ => ⟨i + 1, by omega, by omega, rfl⟩⟩
      · rw [if_neg h2]
        have hp := piece_bound n l[i] i (by omega) n0 n1 (by omega)
        obtain ⟨m, bh, ok, e, z⟩ := ih k (i + 1) _ (by omega) (by omega) hp.1 hp.2 (by omega)
        refine ⟨m, bh, ok, e, fun ho => ?_⟩
        obtain ⟨j, j1, j2, j3⟩ := z ho
        exact ⟨j, by omega, j2, j3⟩
    · exact ⟨_, _, _, next_stop k l n i (by omega), fun h => by cases h⟩
theorem dec_right (b : List Int) (hbl : b.length ≤ 140737488351232) (xs : List Int) : ∀ (k : Nat) (pre : List Int) (last : Int), pre.length + xs.length ≤ 16 → Rt (pre ++ xs) → b = enc (-1) (pre ++ xs) → Rises last xs → -1 ≤ last → last ≤ 1073741824 → xs.length < k →
    block_Decode.l0 k b pre last (enc last xs) = some (pre ++ xs, 0) := by
  induction xs with
  | nil =>
    intro k pre last hlen hr hb _ _ _ hk
    obtain ⟨k, rfl⟩ : ∃ m, k = m + 1 := ⟨k - 1, by omega⟩
    rw [show enc last [] = [] from rfl]
    simp only [block_Decode.l0]
    rw [List.append_nil] at hr hb ⊢
    have h1 := hr.2
    have hz : ¬ ((([] : List Int).length : Int) > 0) := by rw [List.length_nil]; omega
    rw [if_neg hz, if_neg (by omega), encode_f 1000 pre (by omega) (by omega) (by omega), if_pos hr, ← hb]; simp only [Option.bind_some]
    have hbs : b.length ≤ 80 := by rw [hb]; have := enc_len (-1) pre; omega
    rw [slices_Equal_byte_byte_f 1000 b b (by omega) (by omega)]; simp
  | cons x xs ih =>
    intro k pre last hlen hr hb hri b0 b1 hk
    obtain ⟨k, rfl⟩ : ∃ m, k = m + 1 := ⟨k - 1, by omega⟩
    simp only [block_Decode.l0]
    obtain ⟨r1, r2, r3⟩ := hri
    have hne : 0 < (enc last (x :: xs)).length := by
      unfold enc; rw [List.length_append]; have := List.length_pos_iff.2 (dig_ne 4 (x - last - 1)); omega
    have hel := enc_len last (x :: xs)
    rw [List.length_cons] at hlen hel
    rw [if_pos (by omega)]
    have hn := next_dig (enc last (x :: xs)) (enc x xs) (by omega) 4 20 0 0 (x - last - 1) (by omega) (by rw [List.drop_zero]; rfl) (by omega) (by show _ < (34359738368 : Int); omega) (by omega) (by decide) (by omega)
    unfold block_next.f
    rw [show ((0 : Nat) : Int) = 0 from rfl] at hn
    rw [hn]; simp only [Option.bind_some, if_true]
    rw [if_neg (by omega), show (0 : Int) + (x - last - 1) * pw 0 = x - last - 1 from by show (0 : Int) + (x - last - 1) * 1 = _; omega, show wrap64 (last + wrap64 (x - last - 1 + 1)) = x from by unfold wrap64; omega]
    have happ : pre ++ x :: xs = (pre ++ [x]) ++ xs := by simp
    rw [happ] at hr hb ⊢
    exact ih k (pre ++ [x]) x (by rw [List.length_append]; simp only [List.length_cons, List.length_nil]; omega) hr hb r3 (by omega) (by omega) (by rw [List.length_cons] at hk; omega)
theorem dec_any (b : List Int) (hbl : b.length ≤ 140737488351232) (d : Nat) : ∀ (k : Nat) (pre : List Int) (last : Int) (rest : List Int), rest.length = d → d < k → pre.length ≤ 16 → (∀ x ∈ rest, 0 ≤ x ∧ x ≤ 255) → rest.length ≤ b.length → (pre ≠ [] → b ≠ []) →
    ∃ r, block_Decode.l0 k b pre last rest = some r ∧ (r = ([], 5) ∨ (r.2 = 0 ∧ Rt r.1 ∧ b = enc (-1) r.1)) := by
  induction d using Nat.strongRecOn with
  | _ d ih =>
    intro k pre last rest hd hk hp hb hrb hpb
    obtain ⟨k, rfl⟩ : ∃ m, k = m + 1 := ⟨k - 1, by omega⟩
    simp only [block_Decode.l0]
    by_cases h : (rest.length : Int) > 0
    · rw [if_pos h]
      obtain ⟨m, bh, ok, e, z⟩ := next_any rest (by omega) hb 5 20 0 0 (by omega) (by omega) (by omega) (by decide) (by omega)
      unfold block_next.f
      rw [show ((0 : Nat) : Int) = 0 from rfl] at e
      rw [e]; simp only [Option.bind_some]
      cases ok with
      | false => exact ⟨_, by simp only [Bool.false_eq_true, if_false], .inl rfl⟩
      | true =>
        obtain ⟨j, j1, j2, rfl⟩ := z rfl
        simp only [if_true]
        by_cases h16 : (pre.length : Int) = 16
        · rw [if_pos h16]; exact ⟨_, rfl, .inl rfl⟩
        · rw [if_neg h16]
          refine ih (rest.drop j).length (by rw [List.length_drop]; omega) k _ _ (rest.drop j) rfl (by rw [List.length_drop]; omega) (by rw [List.length_append]; simp only [List.length_cons, List.length_nil]; omega) (fun x hx => hb x (List.mem_of_mem_drop hx)) (by rw [List.length_drop]; omega) ?_
          intro _ e2; rw [e2] at hrb; simp at hrb; rw [hrb] at h; simp at h
    · rw [if_neg h]
      by_cases h0 : (pre.length : Int) = 0
      · rw [if_pos h0]; exact ⟨_, rfl, .inl rfl⟩
      · rw [if_neg h0, encode_f 1000 pre (by omega) (by omega) (by omega)]; simp only [Option.bind_some]
        have hpne : pre ≠ [] := fun e => h0 (by rw [e]; rfl)
        have hlen : (if Rt pre then enc (-1) pre else []).length ≤ 80 := by
          split
          · have := enc_len (-1) pre; omega
          · simp
        rw [slices_Equal_byte_byte_f 1000 _ b (by omega) (by omega)]; simp only [Option.bind_some, decide_eq_true_eq]
        by_cases heq : (if Rt pre then enc (-1) pre else []) = b
        · rw [if_pos heq]
          refine ⟨_, rfl, .inr ⟨rfl, ?_, ?_⟩⟩
          · by_cases hr : Rt pre
            · exact hr
            · rw [if_neg hr] at heq; exact absurd heq.symm (hpb hpne)
          · by_cases hr : Rt pre
            · rw [if_pos hr] at heq; exact heq.symm
            · rw [if_neg hr] at heq; exact absurd heq.symm (hpb hpne)
        · rw [if_neg heq]; exact ⟨_, rfl, .inl rfl⟩
theorem decode_any (b : List Int) (hbl : b.length ≤ 140737488351232) (hb : ∀ x ∈ b, 0 ≤ x ∧ x ≤ 255) : ∃ r, block_Decode.f b = some r ∧ (r = ([], 5) ∨ (r.2 = 0 ∧ Rt r.1 ∧ b = enc (-1) r.1)) :=
  dec_any b hbl b.length (b.length + 1) [] (-1) b rfl (by omega) (by decide) hb (Nat.le_refl _) (fun h => absurd rfl h)
theorem decode_right (l : List Int) (h : Rt l) : block_Decode.f (enc (-1) l) = some (l, 0) := by
  have hel := enc_len (-1) l
  have h2 := h.2.2
  unfold block_Decode.f
  have := dec_right (enc (-1) l) (by omega) l ((enc (-1) l).length + 1) [] (-1) (by rw [List.length_nil]; omega) (by rw [List.nil_append]; exact h) rfl h.1 (by omega) (by omega)
  rw [List.nil_append] at this
  refine this ?_
  clear this hel h2
  have : ∀ (last : Int) (xs : List Int), xs.length ≤ (enc last xs).length := by
    intro last xs
    induction xs generalizing last with
    | nil => simp
    | cons x xs ih => unfold enc; rw [List.length_append, List.length_cons]; have := ih x; have := List.length_pos_iff.2 (dig_ne 4 (x - last - 1)); omega
  have := this (-1) l
  omega

theorem tendrilbook_Same_byte_l (d : Nat) : ∀ (k : Nat) (x y : List Int) (i : Nat), x.length = y.length → x.length - i = d → i ≤ x.length → d < k → x.length ≤ 9223372036854775806 → tendrilbook_Same_byte.l0 k x y (i : Int) = some (decide (x.drop i = y.drop i)) := by
  induction d with
  | zero =>
    intro k x y i hxy hi hle hk hm
    obtain ⟨k, rfl⟩ : ∃ m, k = m + 1 := ⟨k - 1, by omega⟩
    simp only [tendrilbook_Same_byte.l0]
    rw [if_neg (by omega), List.drop_of_length_le (by omega), List.drop_of_length_le (by omega)]; simp
  | succ d ih =>
    intro k x y i hxy hi hle hk hm
    obtain ⟨k, rfl⟩ : ∃ m, k = m + 1 := ⟨k - 1, by omega⟩
    simp only [tendrilbook_Same_byte.l0]
    have h1 : i < x.length := by omega
    have h2 : i < y.length := by omega
    rw [if_pos (by omega), if_pos (by omega), if_pos (by omega), rd_at x i h1, rd_at y i h2, show wrap64 ((i : Int) + 1) = ((i + 1 : Nat) : Int) from by unfold wrap64; omega]
    rw [List.drop_eq_getElem_cons h1, List.drop_eq_getElem_cons h2]
    by_cases e : x[i] = y[i]
    · rw [if_pos e, ih k x y (i + 1) hxy (by omega) (by omega) (by omega) hm]
      congr 1; rw [decide_eq_decide, List.cons.injEq]; exact ⟨fun h => ⟨e, h⟩, fun h => h.2⟩
    · rw [if_neg e]; congr 1; symm; rw [decide_eq_false_iff_not, List.cons.injEq]; exact fun h => e h.1
theorem tendrilbook_Same_byte_f (k : Nat) (x y : List Int) (hk : x.length < k) (hm : x.length ≤ 9223372036854775806) : tendrilbook_Same_byte.f k x y = some (decide (x = y)) := by
  unfold tendrilbook_Same_byte.f
  by_cases h : (x.length : Int) = (y.length : Int)
  · rw [if_pos h]
    have := tendrilbook_Same_byte_l x.length k x y 0 (by omega) (by omega) (by omega) (by omega) hm
    simpa using this
  · rw [if_neg h]; congr 1; symm; rw [decide_eq_false_iff_not]; intro e; exact h (by rw [e])

theorem tendrilbook_Same_int_l (d : Nat) : ∀ (k : Nat) (x y : List Int) (i : Nat), x.length = y.length → x.length - i = d → i ≤ x.length → d < k → x.length ≤ 9223372036854775806 → tendrilbook_Same_int.l0 k x y (i : Int) = some (decide (x.drop i = y.drop i)) := by
  induction d with
  | zero =>
    intro k x y i hxy hi hle hk hm
    obtain ⟨k, rfl⟩ : ∃ m, k = m + 1 := ⟨k - 1, by omega⟩
    simp only [tendrilbook_Same_int.l0]
    rw [if_neg (by omega), List.drop_of_length_le (by omega), List.drop_of_length_le (by omega)]; simp
  | succ d ih =>
    intro k x y i hxy hi hle hk hm
    obtain ⟨k, rfl⟩ : ∃ m, k = m + 1 := ⟨k - 1, by omega⟩
    simp only [tendrilbook_Same_int.l0]
    have h1 : i < x.length := by omega
    have h2 : i < y.length := by omega
    rw [if_pos (by omega), if_pos (by omega), if_pos (by omega), rd_at x i h1, rd_at y i h2, show wrap64 ((i : Int) + 1) = ((i + 1 : Nat) : Int) from by unfold wrap64; omega]
    rw [List.drop_eq_getElem_cons h1, List.drop_eq_getElem_cons h2]
    by_cases e : x[i] = y[i]
    · rw [if_pos e, ih k x y (i + 1) hxy (by omega) (by omega) (by omega) hm]
      congr 1; rw [decide_eq_decide, List.cons.injEq]; exact ⟨fun h => ⟨e, h⟩, fun h => h.2⟩
    · rw [if_neg e]; congr 1; symm; rw [decide_eq_false_iff_not, List.cons.injEq]; exact fun h => e h.1
theorem tendrilbook_Same_int_f (k : Nat) (x y : List Int) (hk : x.length < k) (hm : x.length ≤ 9223372036854775806) : tendrilbook_Same_int.f k x y = some (decide (x = y)) := by
  unfold tendrilbook_Same_int.f
  by_cases h : (x.length : Int) = (y.length : Int)
  · rw [if_pos h]
    have := tendrilbook_Same_int_l x.length k x y 0 (by omega) (by omega) (by omega) (by omega) hm
    simpa using this
  · rw [if_neg h]; congr 1; symm; rw [decide_eq_false_iff_not]; intro e; exact h (by rw [e])

theorem runs_f (k : Nat) (hk : 1000 ≤ k) : tendrillaw19_BlockRuns.f k = some true := by
  unfold tendrillaw19_BlockRuns.f
  have hr : Rt [5, 6, 200] := by decide
  have e1 : enc (-1) [5, 6, 200] = [5, 0, 193, 1] := by decide
  have d1 := decode_right [5, 6, 200] hr
  rw [e1] at d1
  obtain ⟨r, hd, hc⟩ := decode_any [128, 0] (by decide) (by decide)
  have hr5 : r = ([], 5) := by
    rcases hc with h | ⟨_, h, e⟩
    · exact h
    · exfalso
      have h3 := decode_right r.1 h
      rw [← e] at h3
      have h4 : block_Decode.f [128, 0] = some ([], 5) := by decide +kernel
      rw [h4] at h3
      injection h3 with h3; injection h3 with h3 h5; exact absurd h5 (by decide)
  rw [d1, hd, hr5]; simp only [Option.bind_some]
  rw [encode_f k _ (by decide) (by simp only [List.length_cons, List.length_nil]; omega) (by omega), if_pos hr, e1]; simp only [Option.bind_some]
  rw [tendrilbook_Same_byte_f k _ _ (by simp only [List.length_cons, List.length_nil]; omega) (by decide), tendrilbook_Same_int_f k _ _ (by simp only [List.length_cons, List.length_nil]; omega) (by decide)]
  simp

theorem refright_l (l : List Int) (hl : l.length ≤ 140737488351232) (d : Nat) : ∀ (k i : Nat) (last : Int), l.length - i = d → i ≤ l.length → d < k → ((i = 0 ∧ last = -1) ∨ (0 < i ∧ last = rd l ((i : Int) - 1) ∧ 0 ≤ last)) →
    tendrilref19_RightIds.l0 k l l (l.length : Int) (i : Int) = some (decide (Rises last (l.drop i) ∧ 1 ≤ l.length ∧ l.length ≤ 16)) := by
  induction d with
  | zero =>
    intro k i last hi hle hk _
    obtain ⟨k, rfl⟩ : ∃ m, k = m + 1 := ⟨k - 1, by omega⟩
    simp only [tendrilref19_RightIds.l0]
    rw [if_neg (by omega), List.drop_of_length_le (by omega)]
    by_cases h1 : (l.length : Int) ≥ 1
    · rw [if_pos h1]; congr 1; rw [decide_eq_decide]
      constructor
      · intro h; exact ⟨trivial, by omega, by omega⟩
      · intro h; omega
    · rw [if_neg h1]; congr 1; symm; rw [decide_eq_false_iff_not]; omega
  | succ d ih =>
    intro k i last hi hle hk hlast
    obtain ⟨k, rfl⟩ : ∃ m, k = m + 1 := ⟨k - 1, by omega⟩
    simp only [tendrilref19_RightIds.l0]
    have h1 : i < l.length := by omega
    rw [if_pos (by omega), if_pos (by omega), if_pos (by omega), rd_at l i h1, List.drop_eq_getElem_cons h1]
    have hno : ∀ P : Prop, ¬ P → (∀ Q : Prop, ¬ ((P ∧ Q) ∧ 1 ≤ l.length ∧ l.length ≤ 16)) := fun P hp Q h => hp h.1.1
    by_cases a1 : l[i] < 0
    · rw [if_pos a1]; congr 1; symm; rw [decide_eq_false_iff_not]
      rintro ⟨⟨z, _, _⟩, _⟩
      rcases hlast with h | h <;> omega
    rw [if_neg a1]
    by_cases a2 : l[i] > 1073741824
    · rw [if_pos a2]; congr 1; symm; rw [decide_eq_false_iff_not]
      rintro ⟨⟨_, z, _⟩, _⟩
      omega
    rw [if_neg a2]
    have next := ih k (i + 1) l[i] (by omega) (by omega) (by omega) (.inr ⟨by omega, by rw [show ((i + 1 : Nat) : Int) - 1 = (i : Int) from by omega, rd_at l i h1], by omega⟩)
    rw [show wrap64 ((i : Int) + 1) = ((i + 1 : Nat) : Int) from by unfold wrap64; omega]
    by_cases a3 : (i : Int) > 0
    · rcases hlast with h | h
      · omega
      rw [if_pos a3, show wrap64 ((i : Int) - 1) = (i : Int) - 1 from by unfold wrap64; omega, if_pos (by omega), if_pos (by omega), ← h.2.1]
      by_cases a4 : l[i] ≤ last
      · rw [if_pos a4]; congr 1; symm; rw [decide_eq_false_iff_not]
        rintro ⟨⟨z, _, _⟩, _⟩
        omega
      · rw [if_neg a4, next]; congr 1; rw [decide_eq_decide]
        exact ⟨fun z => ⟨⟨by omega, by omega, z.1⟩, z.2⟩, fun z => ⟨z.1.2.2, z.2⟩⟩
    · rw [if_neg a3, next]; congr 1; rw [decide_eq_decide]
      rcases hlast with h | h
      · exact ⟨fun z => ⟨⟨by omega, by omega, z.1⟩, z.2⟩, fun z => ⟨z.1.2.2, z.2⟩⟩
      · omega
theorem refright_f (k : Nat) (l : List Int) (hl : l.length ≤ 140737488351232) (hk : l.length < k) : tendrilref19_RightIds.f k l = some (decide (Rt l)) := by
  unfold tendrilref19_RightIds.f
  have := refright_l l hl l.length k 0 (-1) (by omega) (by omega) hk (.inl ⟨rfl, rfl⟩)
  rw [show ((0 : Nat) : Int) = 0 from rfl, List.drop_zero] at this
  exact this
theorem piece_more8 (n : Int) : Go.bits .or .u8 ((Go.bits .and .i64 n 127) % 256) 128 = n % 128 + 128 := by
  have e : Go.bits .and .i64 n 127 = n % 128 := and_mask_i64 n 7 (by decide) _ (by decide)
  rw [e, show n % 128 % 256 = n % 128 from by omega]
  have ecomm : Go.bits .or .u8 (n % 128) 128 = Go.bits .or .u8 128 (n % 128) := by simp only [Go.bits]; rw [BitVec.or_comm]
  rw [ecomm, bits_join .u8 8 (by decide) wraps_u8 7 128 (n % 128) (by decide) (by decide) (by decide) (by omega) (by omega) (by omega)]
  omega
theorem num_l (d : Nat) : ∀ (k : Nat) (x : List Int) (n : Int), 0 ≤ n → n < pw (d + 1) → d ≤ 4 → d < k → x.length + d < 140737488355327 → tendrilref19_num.l0 k x n = some (x ++ dig d n) := by
  induction d with
  | zero =>
    intro k x n h0 h1 _ hk hx
    have h1' : n < 128 := h1
    obtain ⟨k, rfl⟩ : ∃ m, k = m + 1 := ⟨k - 1, by omega⟩
    simp only [tendrilref19_num.l0]
    rw [if_neg (by omega), if_pos (by omega), show n % 256 = n from by omega]; rfl
  | succ d ih =>
    intro k x n h0 h1 hd hk hx
    obtain ⟨k, rfl⟩ : ∃ m, k = m + 1 := ⟨k - 1, by omega⟩
    simp only [tendrilref19_num.l0]
    by_cases h : n ≥ 128
    · rw [if_pos h, if_pos (by omega), piece_more8 n]
      rw [pw_succ (d + 1) (by omega)] at h1
      rw [ih k _ (n / 128) (by omega) (by omega) (by omega) (by omega) (by rw [List.length_append]; simp only [List.length_cons, List.length_nil]; omega)]
      congr 1; rw [dig, if_pos h]; simp
    · rw [if_neg h, if_pos (by omega), show n % 256 = n from by omega, dig, if_neg h]
theorem num_f (k : Nat) (x : List Int) (n : Int) (h0 : 0 ≤ n) (h1 : n < 34359738368) (hk : 4 < k) (hx : x.length < 140737488355000) : tendrilref19_num.f k x n = some (x ++ dig 4 n) :=
  num_l 4 k x n h0 h1 (by decide) hk (by omega)
theorem refenc_l (l : List Int) (hl : l.length ≤ 16) (d : Nat) : ∀ (k i : Nat) (out : List Int) (last : Int), l.length - i = d → 1 ≤ i → i ≤ l.length → d + 5 < k → last = rd l ((i : Int) - 1) → -1 ≤ last → last ≤ 1073741824 → Rises last (l.drop i) → out.length + 5 * d < 140737488350000 →
    tendrilref19_Encode.l0 k l out (i : Int) = some (out ++ enc last (l.drop i)) := by
  induction d with
  | zero =>
    intro k i out last hi hi1 hle hk _ _ _ _ _
    obtain ⟨k, rfl⟩ : ∃ m, k = m + 1 := ⟨k - 1, by omega⟩
    simp only [tendrilref19_Encode.l0]
    rw [if_neg (by omega), List.drop_of_length_le (by omega)]; simp [enc]
  | succ d ih =>
    intro k i out last hi hi1 hle hk hlast b0 b1 hr ho
    obtain ⟨k, rfl⟩ : ∃ m, k = m + 1 := ⟨k - 1, by omega⟩
    simp only [tendrilref19_Encode.l0]
    have h1 : i < l.length := by omega
    rw [List.drop_eq_getElem_cons h1] at hr ⊢
    obtain ⟨r1, r2, r3⟩ := hr
    rw [show wrap64 ((i : Int) - 1) = (i : Int) - 1 from by unfold wrap64; omega, if_pos (by omega), if_pos (by omega), if_pos (by omega), if_pos (by omega), rd_at l i h1, ← hlast]
    rw [show wrap64 (wrap64 (l[i] - last) - 1) = l[i] - last - 1 from by unfold wrap64; omega]
    rw [num_f k out _ (by omega) (by omega) (by omega) (by omega)]; simp only [Option.bind_some]
    rw [show wrap64 ((i : Int) + 1) = ((i + 1 : Nat) : Int) from by unfold wrap64; omega]
    have hd := dig_len 4 (l[i] - last - 1)
    rw [ih k (i + 1) _ l[i] (by omega) (by omega) (by omega) (by omega) (by rw [show ((i + 1 : Nat) : Int) - 1 = (i : Int) from by omega, rd_at l i h1]) (by omega) (by omega) r3 (by rw [List.length_append]; omega)]
    congr 1; rw [enc]; simp
theorem refenc_f (k : Nat) (l : List Int) (hl : l.length ≤ 140737488351232) (hk : l.length < k) (hk2 : 30 < k) : tendrilref19_Encode.f k l = some (if Rt l then enc (-1) l else []) := by
  unfold tendrilref19_Encode.f
  rw [refright_f k l hl hk]; simp only [Option.bind_some, decide_eq_true_eq]
  by_cases h : Rt l
  · have h2 := h.2
    rw [if_pos h, if_pos h, if_pos (by omega)]
    have h0 : 0 < l.length := by omega
    have hl0 : l = l[0] :: l.drop 1 := by
      have := List.drop_eq_getElem_cons h0; rw [List.drop_zero] at this; exact this
    have hr := h.1
    rw [hl0] at hr
    obtain ⟨r1, r2, r3⟩ := hr
    have e0 : rd l 0 = l[0] := rd_at l 0 h0
    rw [e0, num_f k [] _ (by omega) (by omega) (by omega) (by simp only [List.length_nil]; omega)]; simp only [Option.bind_some, List.nil_append]
    have hd := dig_len 4 l[0]
    have := refenc_l l h2.2 (l.length - 1) k 1 (dig 4 l[0]) l[0] rfl (by omega) (by omega) (by omega) (by rw [show ((1 : Nat) : Int) - 1 = 0 from rfl, e0]) (by omega) (by omega) r3 (by omega)
    rw [show ((1 : Nat) : Int) = 1 from rfl] at this
    rw [this]
    congr 1
    conv => rhs; rw [hl0]
    rw [enc, show (l[0] : Int) - (-1 : Int) - (1 : Int) = l[0] from by omega]
  · rw [if_neg h, if_neg h]
theorem ids_alike (K : Nat) (hK : 1000 ≤ K) (s : List Int) (hs : s.length ≤ 30) : ∃ rb en, block_Right.f K s = some rb ∧ tendrilref19_RightIds.f K s = some rb ∧ block_Encode.f K s = some en ∧ tendrilref19_Encode.f K s = some en ∧ tendrilbook_Same_byte.f K en en = some true := by
  refine ⟨decide (Rt s), if Rt s then enc (-1) s else [], right_f K s (by omega) (by omega), refright_f K s (by omega) (by omega), encode_f K s (by omega) (by omega) (by omega), refenc_f K s (by omega) (by omega) (by omega), ?_⟩
  have hlen : (if Rt s then enc (-1) s else []).length ≤ 150 := by
    split
    · have := enc_len (-1) s; omega
    · simp
  rw [tendrilbook_Same_byte_f K _ _ (by omega) (by omega)]; simp
/-- the last of some ids, or what was ahead. -/
def lastOf (a : Int) (l : List Int) : Int := l.getLast?.getD a
theorem lastOf_cons (a x : Int) (l : List Int) : lastOf a (x :: l) = lastOf x l := by
  unfold lastOf; cases l with
  | nil => rfl
  | cons y l => rw [List.getLast?_cons_cons, List.getLast?_eq_some_getLast (by simp)]; rfl
theorem enc_snoc (l : List Int) : ∀ (a v : Int), enc a (l ++ [v]) = enc a l ++ dig 4 (v - lastOf a l - 1) := by
  induction l with
  | nil => intro a v; simp [enc, lastOf]
  | cons x l ih => intro a v; rw [List.cons_append, enc, enc, ih x v, lastOf_cons, List.append_assoc]
theorem rises_snoc (l : List Int) : ∀ (a v : Int), Rises a (l ++ [v]) ↔ Rises a l ∧ lastOf a l < v ∧ v ≤ 1073741824 := by
  induction l with
  | nil => intro a v; simp [Rises, lastOf]
  | cons x l ih => intro a v; rw [List.cons_append, Rises, Rises, ih x v, lastOf_cons]; simp only [and_assoc]
theorem lastOf_rd (l : List Int) (h : 0 < l.length) (a : Int) : rd l ((l.length : Int) - 1) = lastOf a l := by
  rw [show (l.length : Int) - 1 = ((l.length - 1 : Nat) : Int) from by omega, rd_at l _ (by omega)]
  unfold lastOf; rw [List.getLast?_eq_getElem?, List.getElem?_eq_getElem (by omega)]; rfl
theorem lastOf_range (l : List Int) (h : Rises (-1) l) : -1 ≤ lastOf (-1) l ∧ lastOf (-1) l ≤ 1073741824 := by
  unfold lastOf
  cases hl : l.getLast? with
  | none => simp
  | some v => have := rises_mem (-1) l h v (List.mem_of_getLast? hl); show -1 ≤ v ∧ v ≤ _; omega
theorem piece_addr (n b : Int) (i : Nat) (hi : i < 5) (hn0 : 0 ≤ n) (hn : n < pw i) (hb0 : 0 ≤ b) (hb : b ≤ 255) :
    Go.bits .or .i64 n (shl .i64 (wrap64 (Go.bits .and .u8 b 127)) (wrap64 (7 * (i : Int)))) = n + b % 128 * pw i := by
  have h := piece_add n b i hi hn0 hn hb0 hb
  have e7 : wrap64 (7 * (i : Int)) = 7 * (i : Int) := by clear h; unfold wrap64; omega
  have e3 : IntKind.u64.wrap (wrap64 (7 * (i : Int))) = wrap64 (7 * (i : Int)) := by clear h; rw [wrap_u64, e7]; omega
  rw [e3] at h
  unfold shl
  rw [show IntKind.i64.bits = 64 from rfl]
  exact h
/-- one piece of a number, as the reference reads it. -/
theorem ref_piece (k : Nat) (b l : List Int) (at_ s : Nat) (n : Int) (h1 : at_ + s < b.length) (h2 : s < 5) (n0 : 0 ≤ n) (n1 : n < pw s) (hb : 0 ≤ b[at_ + s] ∧ b[at_ + s] ≤ 255) (hl : b.length ≤ 140737488351232) :
    tendrilref19_Decode.l1 (k + 2) b l (at_ : Int) n (s : Int) = if b[at_ + s] < 128 then (if b[at_ + s] = 0 ∧ 1 ≤ s then some ([], 5) else tendrilref19_Decode.j3 k b l (at_ : Int) (n + b[at_ + s] % 128 * pw s) ((s + 1 : Nat) : Int)) else tendrilref19_Decode.l1 k b l (at_ : Int) (n + b[at_ + s] % 128 * pw s) ((s + 1 : Nat) : Int) := by
  rw [show k + 2 = (k + 1) + 1 from rfl]
  simp only [tendrilref19_Decode.l1]
  have ew : wrap64 ((at_ : Int) + (s : Int)) = ((at_ + s : Nat) : Int) := by unfold wrap64; omega
  rw [ew, if_neg (by omega), decide_eq_false (by omega)]
  simp only [tendrilref19_Decode.j2, Bool.false_eq_true, if_false]
  have e7' : wrap64 (7 * (s : Int)) = 7 * (s : Int) := by unfold wrap64; omega
  have e7 : 0 ≤ wrap64 (7 * (s : Int)) := by rw [e7']; omega
  rw [ew, if_pos (by omega), if_pos (by omega), if_pos e7, rd_at b _ h1, piece_addr n _ s h2 n0 n1 hb.1 hb.2, show wrap64 ((s : Int) + 1) = ((s + 1 : Nat) : Int) from by unfold wrap64; omega]
  by_cases c : b[at_ + s] < 128
  · rw [if_pos c, if_pos c]
    by_cases c0 : b[at_ + s] = 0
    · rw [if_pos c0]
      by_cases cs : 1 ≤ s
      · rw [if_pos (by omega), if_pos ⟨c0, cs⟩]
      · rw [if_neg (by omega), if_neg (fun h => cs h.2)]
    · rw [if_neg c0, if_neg (fun h => c0 h.1)]
  · rw [if_neg c, if_neg c]
theorem ref_stop (k : Nat) (b l : List Int) (at_ s : Nat) (n : Int) (h : b.length ≤ at_ + s ∨ 5 ≤ s) (hs : s ≤ 5) (ha : at_ ≤ b.length) (hl : b.length ≤ 140737488351232) : tendrilref19_Decode.l1 (k + 2) b l (at_ : Int) n (s : Int) = some ([], 5) := by
  rw [show k + 2 = (k + 1) + 1 from rfl]
  simp only [tendrilref19_Decode.l1]
  have ew : wrap64 ((at_ : Int) + (s : Int)) = ((at_ + s : Nat) : Int) := by unfold wrap64; omega
  rw [ew]
  by_cases c : ((at_ + s : Nat) : Int) ≥ b.length
  · rw [if_pos c]; simp only [tendrilref19_Decode.j2, if_true]
  · rw [if_neg c, decide_eq_true (by omega)]; simp only [tendrilref19_Decode.j2, if_true]
theorem ref_dig (b l rest : List Int) (hl : b.length ≤ 140737488351232) (at_ : Nat) (d : Nat) : ∀ (k s : Nat) (n m : Int), s + d ≤ 4 → b.drop (at_ + s) = dig d m ++ rest → 0 ≤ m → m < pw (d + 1) → (1 ≤ s → 1 ≤ m) → 0 ≤ n → n < pw s → 2 * (d + 1) ≤ k →
    ∃ k' z : Nat, k ≤ k' + 2 * (d + 1) ∧ z = s + (dig d m).length ∧ tendrilref19_Decode.l1 k b l (at_ : Int) n (s : Int) = tendrilref19_Decode.j3 k' b l (at_ : Int) (n + m * pw s) (z : Int) := by
  induction d with
  | zero =>
    intro k s n m hi hd m0 m1 hm n0 n1 hk
    have m1' : m < 128 := m1
    obtain ⟨k, rfl⟩ : ∃ z, k = z + 2 := ⟨k - 2, by omega⟩
    have hlen : at_ + s < b.length := by
      have := congrArg List.length hd; rw [List.length_drop, List.length_append] at this; simp only [dig, List.length_cons, List.length_nil] at this; omega
    rw [List.drop_eq_getElem_cons hlen] at hd
    obtain ⟨e1, e2⟩ := List.cons.inj hd
    refine ⟨k, s + 1, by omega, rfl, ?_⟩
    rw [ref_piece k b l at_ s n hlen (by omega) n0 n1 (by rw [e1]; omega) hl, e1, if_pos (by omega), if_neg (fun h => by have := hm h.2; omega), show m % 128 = m from by omega]
  | succ d ih =>
    intro k s n m hi hd m0 m1 hm n0 n1 hk
    obtain ⟨k, rfl⟩ : ∃ z, k = z + 2 := ⟨k - 2, by omega⟩
    rw [pw_succ (d + 1) (by omega)] at m1
    have hlen : at_ + s < b.length := by
      have h3 := List.length_pos_iff.2 (dig_ne (d + 1) m)
      have := congrArg List.length hd; rw [List.length_drop, List.length_append] at this; omega
    rw [List.drop_eq_getElem_cons hlen] at hd
    by_cases h : m ≥ 128
    · rw [dig, if_pos h] at hd
      obtain ⟨e1, e2⟩ := List.cons.inj hd
      have e3 : (m % 128 + 128) % 128 = m % 128 := by omega
      have hb := piece_bound n (m % 128) s (by omega) n0 n1 (by omega)
      rw [show m % 128 % 128 = m % 128 from by omega] at hb
      obtain ⟨k', z, hk', hz, e⟩ := ih k (s + 1) (n + m % 128 * pw s) (m / 128) (by omega) (by rw [← Nat.add_assoc]; exact e2) (by omega) (by omega) (by omega) hb.1 hb.2 (by omega)
      refine ⟨k', z, by omega, by rw [hz, dig, if_pos h, List.length_cons]; omega, ?_⟩
      rw [ref_piece k b l at_ s n hlen (by omega) n0 n1 (by rw [e1]; omega) hl, e1, if_neg (by omega), e3, e, pw_succ s (by omega)]
      have e4 : n + m % 128 * pw s + m / 128 * (128 * pw s) = n + m * pw s := by
        have e5 : m / 128 * (128 * pw s) = (128 * (m / 128)) * pw s := by rw [← Int.mul_assoc, Int.mul_comm (m / 128) 128]
        rw [e5, Int.add_assoc, ← Int.add_mul, show m % 128 + 128 * (m / 128) = m from by omega]
      rw [e4]
    · rw [dig, if_neg h] at hd
      obtain ⟨e1, e2⟩ := List.cons.inj hd
      refine ⟨k, s + 1, by omega, by rw [dig, if_neg h]; rfl, ?_⟩
      rw [ref_piece k b l at_ s n hlen (by omega) n0 n1 (by rw [e1]; omega) hl, e1, if_pos (by omega), if_neg (fun h => by have := hm h.2; omega), show m % 128 = m from by omega]
theorem ref_any (b l : List Int) (hl : b.length ≤ 140737488351232) (hb : ∀ x ∈ b, 0 ≤ x ∧ x ≤ 255) (at_ : Nat) (ha : at_ ≤ b.length) (d : Nat) : ∀ (k s : Nat) (n : Int), 5 - s = d → s ≤ 5 → 0 ≤ n → n < pw s → 2 * (d + 1) ≤ k →
    tendrilref19_Decode.l1 k b l (at_ : Int) n (s : Int) = some ([], 5) ∨ ∃ (k' z : Nat) (m : Int), s ≤ 4 ∧ s < z ∧ at_ + z ≤ b.length ∧ k ≤ k' + 2 * (d + 1) ∧ 0 ≤ m ∧ m < pw (5 - s) ∧ (1 ≤ s → 1 ≤ m) ∧ (b.drop (at_ + s)).take (z - s) = dig (4 - s) m ∧ tendrilref19_Decode.l1 k b l (at_ : Int) n (s : Int) = tendrilref19_Decode.j3 k' b l (at_ : Int) (n + m * pw s) (z : Int) := by
  induction d with
  | zero =>
    intro k s n hi hle n0 n1 hk
    obtain ⟨k, rfl⟩ : ∃ z, k = z + 2 := ⟨k - 2, by omega⟩
    exact .inl (ref_stop k b l at_ s n (by omega) hle ha hl)
  | succ d ih =>
    intro k s n hi hle n0 n1 hk
    obtain ⟨k, rfl⟩ : ∃ z, k = z + 2 := ⟨k - 2, by omega⟩
    by_cases h : at_ + s < b.length
    rotate_left
    · exact .inl (ref_stop k b l at_ s n (by omega) hle ha hl)
    have hbi := hb _ (List.getElem_mem h)
    rw [ref_piece k b l at_ s n h (by omega) n0 n1 hbi hl]
    have hdrop := List.drop_eq_getElem_cons h
    by_cases c : b[at_ + s] < 128
    · rw [if_pos c]
      by_cases c0 : b[at_ + s] = 0 ∧ 1 ≤ s
      · rw [if_pos c0]; exact .inl rfl
      · rw [if_neg c0]
        refine .inr ⟨k, s + 1, b[at_ + s], by omega, by omega, by omega, by omega, hbi.1, ?_, fun h1 => ?_, ?_, ?_⟩
        · rcases s with _ | _ | _ | _ | _ | s
          · show _ < (34359738368 : Int); omega
          · show _ < (268435456 : Int); omega
          · show _ < (2097152 : Int); omega
          · show _ < (16384 : Int); omega
          · show _ < (128 : Int); omega
          · omega
        · by_cases z : 0 < b[at_ + s]
          · omega
          · exact absurd ⟨by omega, h1⟩ c0
        · rw [hdrop, show s + 1 - s = 1 from by omega, List.take_succ_cons, List.take_zero]
          have hdd : ∀ q : Nat, dig q b[at_ + s] = [b[at_ + s]] := fun q => by cases q <;> simp [dig]; omega
          rw [hdd]
        · rw [show b[at_ + s] % 128 = b[at_ + s] from by omega]
    · rw [if_neg c]
      have hp := piece_bound n b[at_ + s] s (by omega) n0 n1 (by omega)
      rcases ih k (s + 1) _ (by omega) (by omega) hp.1 hp.2 (by omega) with e | ⟨k', z, m, z1, z2, z3, z4, z5, z6, z7, z8, z9⟩
      · exact .inl e
      · have hm1 := z7 (by omega)
        have e5 : 5 - s = (5 - (s + 1)) + 1 := by omega
        have e4 : 4 - s = (4 - (s + 1)) + 1 := by omega
        refine .inr ⟨k', z, b[at_ + s] % 128 + 128 * m, by omega, by omega, z3, by omega, by omega, ?_, fun _ => by omega, ?_, ?_⟩
        · rw [e5, pw_succ _ (by omega)]; omega
        · rw [hdrop, show z - s = (z - (s + 1)) + 1 from by omega, List.take_succ_cons, show at_ + s + 1 = at_ + (s + 1) from rfl, z8, e4, dig, if_pos (by omega)]
          rw [show (b[at_ + s] % 128 + 128 * m) % 128 + 128 = b[at_ + s] from by omega, show (b[at_ + s] % 128 + 128 * m) / 128 = m from by omega]
        · rw [z9, pw_succ s (by omega)]
          have e6 : n + b[at_ + s] % 128 * pw s + m * (128 * pw s) = n + (b[at_ + s] % 128 + 128 * m) * pw s := by
            have e7 : m * (128 * pw s) = (128 * m) * pw s := by rw [← Int.mul_assoc, Int.mul_comm m 128]
            rw [e7, Int.add_assoc, ← Int.add_mul]
          rw [e6]
/-- a number is read: the next id. -/
theorem ref_next (k : Nat) (b pre : List Int) (at_ z : Nat) (n : Int) (hr : Rises (-1) pre) (hp : pre.length ≤ 16) (n0 : 0 ≤ n) (n1 : n < 34359738368) (hz : at_ + z ≤ 140737488351232) :
    tendrilref19_Decode.j3 (k + 1) b pre (at_ : Int) n (z : Int) = if n + lastOf (-1) pre + 1 > 1073741824 then some ([], 5) else if pre.length + 1 > 16 then some ([], 5) else tendrilref19_Decode.l0 k b (pre ++ [n + lastOf (-1) pre + 1]) ((at_ + z : Nat) : Int) := by
  simp only [tendrilref19_Decode.j3]
  have hlr := lastOf_range pre hr
  have hlen : ∀ v : Int, ((pre ++ [v]).length : Int) = pre.length + 1 := fun v => by rw [List.length_append]; simp
  have ew : wrap64 ((at_ : Int) + (z : Int)) = ((at_ + z : Nat) : Int) := by unfold wrap64; omega
  by_cases h : (pre.length : Int) > 0
  · have hrd := lastOf_rd pre (by omega) (-1)
    rw [if_pos h, show wrap64 ((pre.length : Int) - 1) = (pre.length : Int) - 1 from by unfold wrap64; omega, if_pos (by omega), if_pos (by omega), if_pos (by omega), hrd]
    rw [show wrap64 (wrap64 (n + lastOf (-1) pre) + 1) = n + lastOf (-1) pre + 1 from by unfold wrap64; omega]
    simp only [Option.bind_some]
    rw [hlen, ew]
    by_cases c : n + lastOf (-1) pre + 1 > 1073741824
    · rw [if_pos c, if_pos c]
    · rw [if_neg c, if_neg c]
      by_cases c2 : (pre.length : Int) + 1 > 16
      · rw [if_pos c2, if_pos (by omega)]
      · rw [if_neg c2, if_neg (by omega)]
  · have hpre : pre = [] := List.eq_nil_of_length_eq_zero (by omega)
    subst hpre
    rw [if_neg h, if_pos (by simp)]
    have e : n + lastOf (-1) [] + 1 = n := by show n + (-1) + 1 = n; omega
    rw [e]
    simp only [Option.bind_some]
    rw [hlen, ew]
    by_cases c : n > 1073741824
    · rw [if_pos c, if_pos c]
    · rw [if_neg c, if_neg c, if_neg (by simp), if_neg (by simp)]
theorem ref_right (b : List Int) (hl : b.length ≤ 140737488351232) (xs : List Int) : ∀ (k at_ : Nat) (pre : List Int), pre.length + xs.length ≤ 16 → 1 ≤ pre.length + xs.length → Rises (-1) pre → Rises (lastOf (-1) pre) xs → b.drop at_ = enc (lastOf (-1) pre) xs → at_ ≤ b.length → 20 * xs.length + 20 ≤ k →
    tendrilref19_Decode.l0 k b pre (at_ : Int) = some (pre ++ xs, 0) := by
  induction xs with
  | nil =>
    intro k at_ pre h16 h1 hr _ hd ha hk
    obtain ⟨k, rfl⟩ : ∃ m, k = m + 1 := ⟨k - 1, by omega⟩
    have hlen := congrArg List.length hd
    rw [List.length_drop] at hlen
    have e0 : enc (lastOf (-1) pre) [] = [] := rfl
    rw [e0, List.length_nil] at hlen
    rw [List.length_nil] at h1
    simp only [tendrilref19_Decode.l0]
    rw [if_neg (by omega), if_neg (by omega), List.append_nil]
  | cons x xs ih =>
    intro k at_ pre h16 h1 hr hri hd ha hk
    rw [List.length_cons] at h16 hk
    obtain ⟨k, rfl⟩ : ∃ m, k = m + 1 := ⟨k - 1, by omega⟩
    obtain ⟨r1, r2, r3⟩ := hri
    have hlr := lastOf_range pre hr
    have hlen := congrArg List.length hd
    rw [List.length_drop] at hlen
    have hdl := List.length_pos_iff.2 (dig_ne 4 (x - lastOf (-1) pre - 1))
    have hd2 : b.drop at_ = dig 4 (x - lastOf (-1) pre - 1) ++ enc x xs := hd
    rw [hd2] at hd
    simp only [tendrilref19_Decode.l0]
    have hlen2 := congrArg List.length hd2
    rw [List.length_drop, List.length_append] at hlen2
    rw [if_pos (by omega)]
    obtain ⟨k', z, hk', hz, e⟩ := ref_dig b pre (enc x xs) hl at_ 4 k 0 0 (x - lastOf (-1) pre - 1) (by omega) hd2 (by omega) (by show _ < (34359738368 : Int); omega) (fun h => by omega) (by omega) (by decide) (by omega)
    rw [show ((0 : Nat) : Int) = 0 from rfl] at e
    rw [e]
    obtain ⟨k', rfl⟩ : ∃ m, k' = m + 1 := ⟨k' - 1, by omega⟩
    have hpw : pw 0 = 1 := rfl
    rw [hpw, show (0 : Int) + (x - lastOf (-1) pre - 1) * 1 = x - lastOf (-1) pre - 1 from by omega]
    rw [ref_next k' b pre at_ z _ hr (by omega) (by omega) (by omega) (by omega)]
    rw [show x - lastOf (-1) pre - 1 + lastOf (-1) pre + 1 = x from by omega, if_neg (by omega), if_neg (by omega)]
    have hlast : lastOf (-1) (pre ++ [x]) = x := by unfold lastOf; simp
    rw [ih k' (at_ + z) (pre ++ [x]) (by rw [List.length_append]; simp only [List.length_cons, List.length_nil]; omega) (by rw [List.length_append]; simp only [List.length_cons, List.length_nil]; omega) ((rises_snoc pre (-1) x).2 ⟨hr, r1, r2⟩) (by rw [hlast]; exact r3) ?_ (by omega) (by omega)]
    · simp
    · rw [hlast, ← List.drop_drop, hd2, hz, Nat.zero_add, List.drop_left']; rfl
theorem ref_all (b : List Int) (hl : b.length ≤ 140737488351232) (hb : ∀ x ∈ b, 0 ≤ x ∧ x ≤ 255) (d : Nat) : ∀ (k at_ : Nat) (pre : List Int), 16 - pre.length = d → pre.length ≤ 16 → at_ ≤ b.length → b.take at_ = enc (-1) pre → Rises (-1) pre → 20 * d + 40 ≤ k →
    ∃ r, tendrilref19_Decode.l0 k b pre (at_ : Int) = some r ∧ (r = ([], 5) ∨ (r.2 = 0 ∧ Rt r.1 ∧ b = enc (-1) r.1)) := by
  induction d using Nat.strongRecOn with
  | _ d ih =>
    intro k at_ pre hd hp ha ht hr hk
    obtain ⟨k, rfl⟩ : ∃ m, k = m + 1 := ⟨k - 1, by omega⟩
    simp only [tendrilref19_Decode.l0]
    by_cases h : (at_ : Int) < b.length
    · rw [if_pos h]
      rcases ref_any b pre hl hb at_ ha 5 k 0 0 (by omega) (by omega) (by omega) (by decide) (by omega) with e | ⟨k', z, m, z1, z2, z3, z4, z5, z6, z7, z8, z9⟩
      · rw [show ((0 : Nat) : Int) = 0 from rfl] at e
        exact ⟨_, e, .inl rfl⟩
      · rw [show ((0 : Nat) : Int) = 0 from rfl] at z9
        obtain ⟨k', rfl⟩ : ∃ m, k' = m + 1 := ⟨k' - 1, by omega⟩
        have hpw : pw 0 = 1 := rfl
        have hm5 : m < 34359738368 := z6
        have hlr := lastOf_range pre hr
        rw [z9, hpw, show (0 : Int) + m * 1 = m from by omega, ref_next k' b pre at_ z m hr hp z5 hm5 (by omega)]
        by_cases c : m + lastOf (-1) pre + 1 > 1073741824
        · rw [if_pos c]; exact ⟨_, rfl, .inl rfl⟩
        · rw [if_neg c]
          by_cases c2 : pre.length + 1 > 16
          · rw [if_pos c2]; exact ⟨_, rfl, .inl rfl⟩
          · rw [if_neg c2]
            have hlen : (pre ++ [m + lastOf (-1) pre + 1]).length = pre.length + 1 := by rw [List.length_append]; rfl
            refine ih (16 - (pre.length + 1)) (by omega) k' (at_ + z) _ (by rw [hlen]) (by rw [hlen]; omega) (by omega) ?_ ((rises_snoc pre (-1) _).2 ⟨hr, by omega, by omega⟩) (by omega)
            rw [enc_snoc, ← ht, show m + lastOf (-1) pre + 1 - lastOf (-1) pre - 1 = m from by omega]
            rw [Nat.add_zero, Nat.sub_zero, Nat.sub_zero] at z8
            rw [← z8, List.take_add]
    · rw [if_neg h]
      by_cases h0 : (pre.length : Int) = 0
      · rw [if_pos h0]; exact ⟨_, rfl, .inl rfl⟩
      · rw [if_neg h0]
        refine ⟨_, rfl, .inr ⟨rfl, ⟨hr, by show 1 ≤ pre.length; omega, hp⟩, ?_⟩⟩
        rw [← ht, List.take_of_length_le (by omega)]
theorem bytes_alike (K : Nat) (hK : 1000 ≤ K) (t : List Int) (ht : t.length ≤ 120) (hb : ∀ x ∈ t, 0 ≤ x ∧ x ≤ 255) : ∃ X ec, block_Decode.f t = some (X, ec) ∧ tendrilref19_Decode.f K t = some (X, ec) ∧ tendrilbook_Same_int.f K X X = some true := by
  obtain ⟨r, hr, hc⟩ := decode_any t (by omega) hb
  have hsame : ∀ X : List Int, X.length ≤ 16 → tendrilbook_Same_int.f K X X = some true := fun X hX => by rw [tendrilbook_Same_int_f K X X (by omega) (by omega)]; simp
  rcases hc with rfl | ⟨e0, e1, e2⟩
  · obtain ⟨r2, hr2, hc2⟩ := ref_all t (by omega) hb 16 K 0 [] rfl (by decide) (by omega) rfl trivial (by omega)
    refine ⟨[], 5, hr, ?_, hsame [] (by decide)⟩
    rcases hc2 with rfl | ⟨f0, f1, f2⟩
    · exact hr2
    · have := decode_right r2.1 f1
      rw [← f2, hr] at this
      injection this with this; injection this with _ this; exact absurd this (by decide)
  · refine ⟨r.1, 0, by rw [hr, ← e0], ?_, hsame r.1 e1.2.2⟩
    unfold tendrilref19_Decode.f
    have h2 := e1.2
    have := ref_right t (by omega) r.1 K 0 [] (by rw [List.length_nil]; omega) (by rw [List.length_nil]; omega) trivial e1.1 (by rw [List.drop_zero]; exact e2) (by omega) (by omega)
    rw [List.nil_append] at this
    exact this


set_option maxHeartbeats 8000000 in
set_option maxRecDepth 100000 in
theorem walk0 (A0 : Option Addr) (c0 : Nat) (l0 : List Int) (A1 : Option Addr) (c1 : Nat) (l1 : List Int) (w : World) (hr0 : Kd.C (Kd.int .i64) w A0 l0.length l0) (hc0 : l0.length ≤ c0) (hr1 : Kd.C (Kd.int .u8) w A1 l1.length l1) (hc1 : l1.length ≤ c1) (hs : l0.length ≤ 30) (ht : l1.length ≤ 120) (w1 : ∀ x ∈ l1, 0 ≤ x ∧ x ≤ 255) :
    Calls Try.prog 4 #[.slice A0 l0.length c0, .slice A1 l1.length c1] w fun e w' => e = .returned (.bool true) ∧ Below w.heap.size w w' := by
  have HB := Aside0.mk (Below.refl w.heap.size w)
  obtain ⟨K, hK⟩ : ∃ K : Nat, 1000 ≤ K := ⟨1000, Nat.le_refl _⟩
  have RS := Aside0.mk (ids_alike K hK (l0.take 30) (by rw [List.length_take]; omega))
  have RT := Aside0.mk (bytes_alike K hK (l1.take 120) (by rw [List.length_take]; omega) (fun x hx => w1 x (List.mem_of_mem_take hx)))
  obtain ⟨iI, hiI, _, _, _⟩ := info_parts tendrilbook_Intact_int.info
  obtain ⟨iB, hiB, _, _, _⟩ := info_parts tendrilbook_Intact_byte.info
  have H1 : Aside0 (Kd.C (Kd.int .i64) w A0 l0.length l0) := ⟨hr0⟩
  have C1 : Aside0 (l0.length ≤ c0) := ⟨hc0⟩
  have b1 : decide ((30 : Int) < (l0.length : Int)) = false := decide_eq_false (by omega)
  have b1n : decide (30 < l0.length) = false := decide_eq_false (by omega)
  rw [List.take_of_length_le hs] at RS
  have H2 : Aside0 (Kd.C (Kd.int .u8) w A1 l1.length l1) := ⟨hr1⟩
  have C2 : Aside0 (l1.length ≤ c1) := ⟨hc1⟩
  have b2 : decide ((120 : Int) < (l1.length : Int)) = false := decide_eq_false (by omega)
  have b2n : decide (120 < l1.length) = false := decide_eq_false (by omega)
  rw [List.take_of_length_le ht] at RT
  have lS : l0.length ≤ 30 := by omega
  have lT : l1.length ≤ 120 := by omega
  obtain ⟨rb, en, r1, r2, e1, e2, s1⟩ := RS.out
  obtain ⟨X, ec, d1, d2, s2⟩ := RT.out
  have R1 := Aside0.mk r1
  have R2 := Aside0.mk r2
  have E1 := Aside0.mk e1
  have E2 := Aside0.mk e2
  have S1 := Aside0.mk s1
  have D1 := Aside0.mk d1
  have D2 := Aside0.mk d2
  have S2 := Aside0.mk s2
  have RU := Aside0.mk (runs_f K hK)
  have S3 : Aside0 (tendrilbook_Same_int.f 1000 l0 l0 = some true) := ⟨by rw [tendrilbook_Same_int_f 1000 l0 l0 (by omega) (by omega)]; simp⟩
  have S4 : Aside0 (tendrilbook_Same_byte.f 1000 l1 l1 = some true) := ⟨by rw [tendrilbook_Same_byte_f 1000 l1 l1 (by omega) (by omega)]; simp⟩
  have RI : Aside0 (tendrilbook_Roomy_int.f l0 (-3) = some (l0 ++ List.replicate 80 (-3))) := ⟨by unfold tendrilbook_Roomy_int.f; rw [if_pos (by omega)]⟩
  have RB : Aside0 (tendrilbook_Roomy_byte.f l1 9 = some (l1 ++ List.replicate 80 9)) := ⟨by unfold tendrilbook_Roomy_byte.f; rw [if_pos (by omega)]⟩
  have LI : Aside0 ((l0 ++ List.replicate 80 (-3 : Int)).length = l0.length + 80) := ⟨by rw [List.length_append, List.length_replicate]⟩
  have LB : Aside0 ((l1 ++ List.replicate 80 (9 : Int)).length = l1.length + 80) := ⟨by rw [List.length_append, List.length_replicate]⟩
  have TI : Aside0 (∀ (W : World) (A : Option Addr), Kd.C (Kd.int .i64) W A (l0 ++ List.replicate 80 (-3 : Int)).length (l0 ++ List.replicate 80 (-3 : Int)) → Kd.C (Kd.int .i64) W A l0.length l0) := ⟨fun W A h => by have h_ := Kd.C_take (m := l0.length) h (by rw [LI.out]; omega); rw [List.take_left' rfl] at h_; exact h_⟩
  have TB : Aside0 (∀ (W : World) (A : Option Addr), Kd.C (Kd.int .u8) W A (l1 ++ List.replicate 80 (9 : Int)).length (l1 ++ List.replicate 80 (9 : Int)) → Kd.C (Kd.int .u8) W A l1.length l1) := ⟨fun W A h => by have h_ := Kd.C_take (m := l1.length) h (by rw [LB.out]; omega); rw [List.take_left' rfl] at h_; exact h_⟩
  have cutI : ∀ (A : Option Addr) (c : Nat), l0.length + 80 ≤ c → ∀ W : World, (Instr.slice 22 (.slice A (l0.length + 80) c) none (some (.int .i64 (l0.length : Int))) none).run Try.prog W = .ok (.slice A l0.length c) W := fun A c h => by
    have h_ := cut_to (P := Try.prog) 22 3 .i64 Try.underlying22 hiI A (l0.length + 80) c (l0.length : Int) (by omega) (by omega) h
    rw [Int.toNat_natCast] at h_; exact h_
  have cutB : ∀ (A : Option Addr) (c : Nat), l1.length + 80 ≤ c → ∀ W : World, (Instr.slice 26 (.slice A (l1.length + 80) c) none (some (.int .i64 (l1.length : Int))) none).run Try.prog W = .ok (.slice A l1.length c) W := fun A c h => by
    have h_ := cut_to (P := Try.prog) 26 5 .i64 Try.underlying26 hiB A (l1.length + 80) c (l1.length : Int) (by omega) (by omega) h
    rw [Int.toNat_natCast] at h_; exact h_
  have CI := Aside0.mk cutI
  have CB := Aside0.mk cutB
  clear cutI cutB r1 r2 e1 e2 s1 d1 d2 s2 hr0 hr1 hc0 hc1 RS RT w1 hiI hiB hs ht
  have cutI := CI.out
  have cutB := CB.out
  go_enter Try.func4, Try.ntmps4
  go_wp2_with (first
      | (go_at_call 11; (with_reducible refine (tendrilbook_Roomy_int.calls A0 c0 l0 (-3) _ _ ?a1 ?a2 RI.out).mono ?_); (case a1 => repeat (first | exact H1.out | (with_reducible refine Kd.C_alloc ?_ _) | (with_reducible refine Kd.C_drewN ?_ _) | (with_reducible refine Kd.C_drew ?_))); (case a2 => exact C1.out); rintro e w1 ⟨v, rfl, ho, hb⟩; obtain ⟨A2, c2, ev⟩ := Kd.R_slice ho; rw [LI.out] at ev; subst ev; have h3_ := (Kd.R_reads' ho).2.2; have c3_ := (Kd.R_reads' ho).2.1; have m_ := Aside0.mk (below_step (by repeat (first | (with_reducible first | exact HB.out | apply below_alloc | apply pw_below_drewN | apply below_drew1) | exact HB.out)) hb); have n0_ := Aside0.mk (Kd.C_below (by repeat (first | exact H1.out | (with_reducible refine Kd.C_alloc ?_ _) | (with_reducible refine Kd.C_drewN ?_ _) | (with_reducible refine Kd.C_drew ?_))) hb); have n1_ := Aside0.mk (Kd.C_below (by repeat (first | exact H2.out | (with_reducible refine Kd.C_alloc ?_ _) | (with_reducible refine Kd.C_drewN ?_ _) | (with_reducible refine Kd.C_drew ?_))) hb); clear H1 H2 HB; have HB := m_; have H1 := n0_; have H2 := n1_; clear n0_ n1_ m_; have H3 := Aside0.mk h3_; have C3 := Aside0.mk c3_; have hcutI := cutI A2 c2 c3_; clear ho hb h3_ c3_)
      | (go_at_call 12; (with_reducible refine (tendrilbook_Roomy_byte.calls A1 c1 l1 9 _ _ ?a1 ?a2 RB.out).mono ?_); (case a1 => repeat (first | exact H2.out | (with_reducible refine Kd.C_alloc ?_ _) | (with_reducible refine Kd.C_drewN ?_ _) | (with_reducible refine Kd.C_drew ?_))); (case a2 => exact C2.out); rintro e w1 ⟨v, rfl, ho, hb⟩; obtain ⟨A3, c3, ev⟩ := Kd.R_slice ho; rw [LB.out] at ev; subst ev; have h3_ := (Kd.R_reads' ho).2.2; have c3_ := (Kd.R_reads' ho).2.1; have m_ := Aside0.mk (below_step (by repeat (first | (with_reducible first | exact HB.out | apply below_alloc | apply pw_below_drewN | apply below_drew1) | exact HB.out)) hb); have n0_ := Aside0.mk (Kd.C_below (by repeat (first | exact H1.out | (with_reducible refine Kd.C_alloc ?_ _) | (with_reducible refine Kd.C_drewN ?_ _) | (with_reducible refine Kd.C_drew ?_))) hb); have n1_ := Aside0.mk (Kd.C_below (by repeat (first | exact H2.out | (with_reducible refine Kd.C_alloc ?_ _) | (with_reducible refine Kd.C_drewN ?_ _) | (with_reducible refine Kd.C_drew ?_))) hb); have n2_ := Aside0.mk (Kd.C_below (by repeat (first | exact H3.out | (with_reducible refine Kd.C_alloc ?_ _) | (with_reducible refine Kd.C_drewN ?_ _) | (with_reducible refine Kd.C_drew ?_))) hb); clear H1 H2 H3 HB; have HB := m_; have H1 := n0_; have H2 := n1_; have H3 := n2_; clear n0_ n1_ n2_ m_; have H4 := Aside0.mk h3_; have C4 := Aside0.mk c3_; have hcutB := cutB A3 c3 c3_; clear ho hb h3_ c3_)
      | (go_at_call 7; (with_reducible refine (block_Decode.calls A3 c3 l1 X ec _ ?a1 ?a2 D1.out).mono ?_); (case a1 => exact TB.out _ _ (by repeat (first | exact H4.out | (with_reducible refine Kd.C_alloc ?_ _) | (with_reducible refine Kd.C_drewN ?_ _) | (with_reducible refine Kd.C_drew ?_)))); (case a2 => have := C4.out; have := C2.out; omega); rintro e w1 ⟨v, rfl, ho, hb⟩; obtain ⟨A7, c7, ev⟩ := Kd.R_slice ho; subst ev; have h3_ := (Kd.R_reads' ho).2.2; have c3_ := (Kd.R_reads' ho).2.1; have m_ := Aside0.mk (below_step (by repeat (first | (with_reducible first | exact HB.out | apply below_alloc | apply pw_below_drewN | apply below_drew1) | exact HB.out)) hb); have n0_ := Aside0.mk (Kd.C_below (by repeat (first | exact H1.out | (with_reducible refine Kd.C_alloc ?_ _) | (with_reducible refine Kd.C_drewN ?_ _) | (with_reducible refine Kd.C_drew ?_))) hb); have n1_ := Aside0.mk (Kd.C_below (by repeat (first | exact H2.out | (with_reducible refine Kd.C_alloc ?_ _) | (with_reducible refine Kd.C_drewN ?_ _) | (with_reducible refine Kd.C_drew ?_))) hb); have n2_ := Aside0.mk (Kd.C_below (by repeat (first | exact H3.out | (with_reducible refine Kd.C_alloc ?_ _) | (with_reducible refine Kd.C_drewN ?_ _) | (with_reducible refine Kd.C_drew ?_))) hb); have n3_ := Aside0.mk (Kd.C_below (by repeat (first | exact H4.out | (with_reducible refine Kd.C_alloc ?_ _) | (with_reducible refine Kd.C_drewN ?_ _) | (with_reducible refine Kd.C_drew ?_))) hb); clear H1 H2 H3 H4 HB; have HB := m_; have H1 := n0_; have H2 := n1_; have H3 := n2_; have H4 := n3_; clear n0_ n1_ n2_ n3_ m_; have H5 := Aside0.mk h3_; have C5 := Aside0.mk c3_; clear ho hb h3_ c3_)
      | (go_at_call 13; (with_reducible refine (tendrilref19_Decode.calls K A1 c1 l1 X ec _ ?a1 ?a2 D2.out).mono ?_); (case a1 => repeat (first | exact H2.out | (with_reducible refine Kd.C_alloc ?_ _) | (with_reducible refine Kd.C_drewN ?_ _) | (with_reducible refine Kd.C_drew ?_))); (case a2 => exact C2.out); rintro e w1 ⟨v, rfl, ho, hb⟩; obtain ⟨A9, c9, ev⟩ := Kd.R_slice ho; subst ev; have h3_ := (Kd.R_reads' ho).2.2; have c3_ := (Kd.R_reads' ho).2.1; have m_ := Aside0.mk (below_step (by repeat (first | (with_reducible first | exact HB.out | apply below_alloc | apply pw_below_drewN | apply below_drew1) | exact HB.out)) hb); have n0_ := Aside0.mk (Kd.C_below (by repeat (first | exact H1.out | (with_reducible refine Kd.C_alloc ?_ _) | (with_reducible refine Kd.C_drewN ?_ _) | (with_reducible refine Kd.C_drew ?_))) hb); have n1_ := Aside0.mk (Kd.C_below (by repeat (first | exact H2.out | (with_reducible refine Kd.C_alloc ?_ _) | (with_reducible refine Kd.C_drewN ?_ _) | (with_reducible refine Kd.C_drew ?_))) hb); have n2_ := Aside0.mk (Kd.C_below (by repeat (first | exact H3.out | (with_reducible refine Kd.C_alloc ?_ _) | (with_reducible refine Kd.C_drewN ?_ _) | (with_reducible refine Kd.C_drew ?_))) hb); have n3_ := Aside0.mk (Kd.C_below (by repeat (first | exact H4.out | (with_reducible refine Kd.C_alloc ?_ _) | (with_reducible refine Kd.C_drewN ?_ _) | (with_reducible refine Kd.C_drew ?_))) hb); have n4_ := Aside0.mk (Kd.C_below (by repeat (first | exact H5.out | (with_reducible refine Kd.C_alloc ?_ _) | (with_reducible refine Kd.C_drewN ?_ _) | (with_reducible refine Kd.C_drew ?_))) hb); clear H1 H2 H3 H4 H5 HB; have HB := m_; have H1 := n0_; have H2 := n1_; have H3 := n2_; have H4 := n3_; have H5 := n4_; clear n0_ n1_ n2_ n3_ n4_ m_; have H6 := Aside0.mk h3_; have C6 := Aside0.mk c3_; clear ho hb h3_ c3_)
      | (go_at_call 14; (with_reducible refine (block_Right.calls K A2 c2 l0 rb _ ?a1 ?a2 R1.out).mono ?_); (case a1 => exact TI.out _ _ (by repeat (first | exact H3.out | (with_reducible refine Kd.C_alloc ?_ _) | (with_reducible refine Kd.C_drewN ?_ _) | (with_reducible refine Kd.C_drew ?_)))); (case a2 => have := C3.out; omega); rintro e w' ⟨rfl, ⟨nd, rfl⟩⟩)
      | (go_at_call 15; (with_reducible refine (tendrilref19_RightIds.calls K A0 c0 l0 rb _ ?a1 ?a2 R2.out).mono ?_); (case a1 => repeat (first | exact H1.out | (with_reducible refine Kd.C_alloc ?_ _) | (with_reducible refine Kd.C_drewN ?_ _) | (with_reducible refine Kd.C_drew ?_))); (case a2 => exact C1.out); rintro e w' ⟨rfl, ⟨nd, rfl⟩⟩)
      | (go_at_call 9; (with_reducible refine (block_Encode.calls K A2 c2 l0 en _ ?a1 ?a2 E1.out).mono ?_); (case a1 => exact TI.out _ _ (by repeat (first | exact H3.out | (with_reducible refine Kd.C_alloc ?_ _) | (with_reducible refine Kd.C_drewN ?_ _) | (with_reducible refine Kd.C_drew ?_)))); (case a2 => have := C3.out; omega); rintro e w1 ⟨v, rfl, ho, hb⟩; obtain ⟨A10, c10, ev⟩ := Kd.R_slice ho; subst ev; have h3_ := (Kd.R_reads' ho).2.2; have c3_ := (Kd.R_reads' ho).2.1; have m_ := Aside0.mk (below_step (by repeat (first | (with_reducible first | exact HB.out | apply below_alloc | apply pw_below_drewN | apply below_drew1) | exact HB.out)) hb); have n0_ := Aside0.mk (Kd.C_below (by repeat (first | exact H1.out | (with_reducible refine Kd.C_alloc ?_ _) | (with_reducible refine Kd.C_drewN ?_ _) | (with_reducible refine Kd.C_drew ?_))) hb); have n1_ := Aside0.mk (Kd.C_below (by repeat (first | exact H2.out | (with_reducible refine Kd.C_alloc ?_ _) | (with_reducible refine Kd.C_drewN ?_ _) | (with_reducible refine Kd.C_drew ?_))) hb); have n2_ := Aside0.mk (Kd.C_below (by repeat (first | exact H3.out | (with_reducible refine Kd.C_alloc ?_ _) | (with_reducible refine Kd.C_drewN ?_ _) | (with_reducible refine Kd.C_drew ?_))) hb); have n3_ := Aside0.mk (Kd.C_below (by repeat (first | exact H4.out | (with_reducible refine Kd.C_alloc ?_ _) | (with_reducible refine Kd.C_drewN ?_ _) | (with_reducible refine Kd.C_drew ?_))) hb); have n4_ := Aside0.mk (Kd.C_below (by repeat (first | exact H5.out | (with_reducible refine Kd.C_alloc ?_ _) | (with_reducible refine Kd.C_drewN ?_ _) | (with_reducible refine Kd.C_drew ?_))) hb); have n5_ := Aside0.mk (Kd.C_below (by repeat (first | exact H6.out | (with_reducible refine Kd.C_alloc ?_ _) | (with_reducible refine Kd.C_drewN ?_ _) | (with_reducible refine Kd.C_drew ?_))) hb); clear H1 H2 H3 H4 H5 H6 HB; have HB := m_; have H1 := n0_; have H2 := n1_; have H3 := n2_; have H4 := n3_; have H5 := n4_; have H6 := n5_; clear n0_ n1_ n2_ n3_ n4_ n5_ m_; have H7 := Aside0.mk h3_; have C7 := Aside0.mk c3_; clear ho hb h3_ c3_)
      | (go_at_call 16; (with_reducible refine (tendrilref19_Encode.calls K A0 c0 l0 en _ ?a1 ?a2 E2.out).mono ?_); (case a1 => repeat (first | exact H1.out | (with_reducible refine Kd.C_alloc ?_ _) | (with_reducible refine Kd.C_drewN ?_ _) | (with_reducible refine Kd.C_drew ?_))); (case a2 => exact C1.out); rintro e w1 ⟨v, rfl, ho, hb⟩; obtain ⟨A11, c11, ev⟩ := Kd.R_slice ho; subst ev; have h3_ := (Kd.R_reads' ho).2.2; have c3_ := (Kd.R_reads' ho).2.1; have m_ := Aside0.mk (below_step (by repeat (first | (with_reducible first | exact HB.out | apply below_alloc | apply pw_below_drewN | apply below_drew1) | exact HB.out)) hb); have n0_ := Aside0.mk (Kd.C_below (by repeat (first | exact H1.out | (with_reducible refine Kd.C_alloc ?_ _) | (with_reducible refine Kd.C_drewN ?_ _) | (with_reducible refine Kd.C_drew ?_))) hb); have n1_ := Aside0.mk (Kd.C_below (by repeat (first | exact H2.out | (with_reducible refine Kd.C_alloc ?_ _) | (with_reducible refine Kd.C_drewN ?_ _) | (with_reducible refine Kd.C_drew ?_))) hb); have n2_ := Aside0.mk (Kd.C_below (by repeat (first | exact H3.out | (with_reducible refine Kd.C_alloc ?_ _) | (with_reducible refine Kd.C_drewN ?_ _) | (with_reducible refine Kd.C_drew ?_))) hb); have n3_ := Aside0.mk (Kd.C_below (by repeat (first | exact H4.out | (with_reducible refine Kd.C_alloc ?_ _) | (with_reducible refine Kd.C_drewN ?_ _) | (with_reducible refine Kd.C_drew ?_))) hb); have n4_ := Aside0.mk (Kd.C_below (by repeat (first | exact H5.out | (with_reducible refine Kd.C_alloc ?_ _) | (with_reducible refine Kd.C_drewN ?_ _) | (with_reducible refine Kd.C_drew ?_))) hb); have n5_ := Aside0.mk (Kd.C_below (by repeat (first | exact H6.out | (with_reducible refine Kd.C_alloc ?_ _) | (with_reducible refine Kd.C_drewN ?_ _) | (with_reducible refine Kd.C_drew ?_))) hb); have n6_ := Aside0.mk (Kd.C_below (by repeat (first | exact H7.out | (with_reducible refine Kd.C_alloc ?_ _) | (with_reducible refine Kd.C_drewN ?_ _) | (with_reducible refine Kd.C_drew ?_))) hb); clear H1 H2 H3 H4 H5 H6 H7 HB; have HB := m_; have H1 := n0_; have H2 := n1_; have H3 := n2_; have H4 := n3_; have H5 := n4_; have H6 := n5_; have H7 := n6_; clear n0_ n1_ n2_ n3_ n4_ n5_ n6_ m_; have H8 := Aside0.mk h3_; have C8 := Aside0.mk c3_; clear ho hb h3_ c3_)
      | (go_at_call 8; (with_reducible refine (tendrilbook_Same_byte.calls K A10 c10 en A11 c11 en true _ ?a1 ?a2 ?a3 ?a4 S1.out).mono ?_); (case a1 => repeat (first | exact H7.out | (with_reducible refine Kd.C_alloc ?_ _) | (with_reducible refine Kd.C_drewN ?_ _) | (with_reducible refine Kd.C_drew ?_))); (case a2 => exact C7.out); (case a3 => repeat (first | exact H8.out | (with_reducible refine Kd.C_alloc ?_ _) | (with_reducible refine Kd.C_drewN ?_ _) | (with_reducible refine Kd.C_drew ?_))); (case a4 => exact C8.out); rintro e w' ⟨rfl, ⟨nd, rfl⟩⟩)
      | (go_at_call 10; (with_reducible refine (tendrilbook_Same_int.calls K A7 c7 X A9 c9 X true _ ?a1 ?a2 ?a3 ?a4 S2.out).mono ?_); (case a1 => repeat (first | exact H5.out | (with_reducible refine Kd.C_alloc ?_ _) | (with_reducible refine Kd.C_drewN ?_ _) | (with_reducible refine Kd.C_drew ?_))); (case a2 => exact C5.out); (case a3 => repeat (first | exact H6.out | (with_reducible refine Kd.C_alloc ?_ _) | (with_reducible refine Kd.C_drewN ?_ _) | (with_reducible refine Kd.C_drew ?_))); (case a4 => exact C6.out); rintro e w' ⟨rfl, ⟨nd, rfl⟩⟩)
      | (go_at_call 17; (with_reducible refine (tendrilbook_Intact_int.yes A2 c2 A0 c0 l0 (-3) _ ?a1 ?a2 ?a3 ?a4 ?a5 S3.out).mono ?_); (case a1 => repeat (first | exact H3.out | (with_reducible refine Kd.C_alloc ?_ _) | (with_reducible refine Kd.C_drewN ?_ _) | (with_reducible refine Kd.C_drew ?_))); (case a2 => exact C3.out); (case a3 => repeat (first | exact H1.out | (with_reducible refine Kd.C_alloc ?_ _) | (with_reducible refine Kd.C_drewN ?_ _) | (with_reducible refine Kd.C_drew ?_))); (case a4 => exact C1.out); (case a5 => omega); rintro e w' ⟨rfl, ⟨nd, rfl⟩⟩)
      | (go_at_call 18; (with_reducible refine (tendrilbook_Intact_byte.yes A3 c3 A1 c1 l1 9 _ ?a1 ?a2 ?a3 ?a4 ?a5 S4.out).mono ?_); (case a1 => repeat (first | exact H4.out | (with_reducible refine Kd.C_alloc ?_ _) | (with_reducible refine Kd.C_drewN ?_ _) | (with_reducible refine Kd.C_drew ?_))); (case a2 => exact C4.out); (case a3 => repeat (first | exact H2.out | (with_reducible refine Kd.C_alloc ?_ _) | (with_reducible refine Kd.C_drewN ?_ _) | (with_reducible refine Kd.C_drew ?_))); (case a4 => exact C2.out); (case a5 => omega); rintro e w' ⟨rfl, ⟨nd, rfl⟩⟩)
      | (go_at_call 3; (with_reducible refine (tendrillaw19_BlockRuns.calls K true _ RU.out).mono ?_); rintro e w1 ⟨rfl, hb⟩; have m_ := Aside0.mk (below_step (by repeat (first | (with_reducible first | exact HB.out | apply below_alloc | apply pw_below_drewN | apply below_drew1) | exact HB.out)) hb); clear HB; have HB := m_; clear m_ hb))
  go_ret
  exact ⟨rfl, by repeat (first | (with_reducible first | exact HB.out | apply below_alloc | apply pw_below_drewN | apply below_drew1) | exact HB.out)⟩

set_option maxHeartbeats 8000000 in
set_option maxRecDepth 100000 in
theorem walk1 (A0 : Option Addr) (c0 : Nat) (l0 : List Int) (A1 : Option Addr) (c1 : Nat) (l1 : List Int) (w : World) (hr0 : Kd.C (Kd.int .i64) w A0 l0.length l0) (hc0 : l0.length ≤ c0) (hr1 : Kd.C (Kd.int .u8) w A1 l1.length l1) (hc1 : l1.length ≤ c1) (hs : l0.length ≤ 30) (ht : 120 < l1.length) (w1 : ∀ x ∈ l1, 0 ≤ x ∧ x ≤ 255) :
    Calls Try.prog 4 #[.slice A0 l0.length c0, .slice A1 l1.length c1] w fun e w' => e = .returned (.bool true) ∧ Below w.heap.size w w' := by
  have HB := Aside0.mk (Below.refl w.heap.size w)
  obtain ⟨K, hK⟩ : ∃ K : Nat, 1000 ≤ K := ⟨1000, Nat.le_refl _⟩
  have RS := Aside0.mk (ids_alike K hK (l0.take 30) (by rw [List.length_take]; omega))
  have RT := Aside0.mk (bytes_alike K hK (l1.take 120) (by rw [List.length_take]; omega) (fun x hx => w1 x (List.mem_of_mem_take hx)))
  obtain ⟨iI, hiI, _, _, _⟩ := info_parts tendrilbook_Intact_int.info
  obtain ⟨iB, hiB, _, _, _⟩ := info_parts tendrilbook_Intact_byte.info
  have H1 : Aside0 (Kd.C (Kd.int .i64) w A0 l0.length l0) := ⟨hr0⟩
  have C1 : Aside0 (l0.length ≤ c0) := ⟨hc0⟩
  have b1 : decide ((30 : Int) < (l0.length : Int)) = false := decide_eq_false (by omega)
  have b1n : decide (30 < l0.length) = false := decide_eq_false (by omega)
  rw [List.take_of_length_le hs] at RS
  obtain ⟨t, et⟩ : ∃ t, t = l1.take 120 := ⟨_, rfl⟩
  have lt : t.length = 120 := by rw [et, List.length_take]; omega
  have H2 : Aside0 (Kd.C (Kd.int .u8) w A1 t.length t) := ⟨by rw [et]; exact Kd.C_take hr1 (by omega)⟩
  have C2 : Aside0 (t.length ≤ c1) := ⟨by omega⟩
  have hcutT := cut_to (P := Try.prog) 26 5 .i64 Try.underlying26 hiB A1 l1.length c1 120 (by omega) (by omega) hc1
  rw [show (120 : Int).toNat = t.length from by omega] at hcutT
  have b2 : decide ((120 : Int) < (l1.length : Int)) = true := decide_eq_true (by omega)
  have b2n : decide (120 < l1.length) = true := decide_eq_true (by omega)
  rw [← et] at RT
  have lS : l0.length ≤ 30 := by omega
  have lT : t.length ≤ 120 := by omega
  obtain ⟨rb, en, r1, r2, e1, e2, s1⟩ := RS.out
  obtain ⟨X, ec, d1, d2, s2⟩ := RT.out
  have R1 := Aside0.mk r1
  have R2 := Aside0.mk r2
  have E1 := Aside0.mk e1
  have E2 := Aside0.mk e2
  have S1 := Aside0.mk s1
  have D1 := Aside0.mk d1
  have D2 := Aside0.mk d2
  have S2 := Aside0.mk s2
  have RU := Aside0.mk (runs_f K hK)
  have S3 : Aside0 (tendrilbook_Same_int.f 1000 l0 l0 = some true) := ⟨by rw [tendrilbook_Same_int_f 1000 l0 l0 (by omega) (by omega)]; simp⟩
  have S4 : Aside0 (tendrilbook_Same_byte.f 1000 t t = some true) := ⟨by rw [tendrilbook_Same_byte_f 1000 t t (by omega) (by omega)]; simp⟩
  have RI : Aside0 (tendrilbook_Roomy_int.f l0 (-3) = some (l0 ++ List.replicate 80 (-3))) := ⟨by unfold tendrilbook_Roomy_int.f; rw [if_pos (by omega)]⟩
  have RB : Aside0 (tendrilbook_Roomy_byte.f t 9 = some (t ++ List.replicate 80 9)) := ⟨by unfold tendrilbook_Roomy_byte.f; rw [if_pos (by omega)]⟩
  have LI : Aside0 ((l0 ++ List.replicate 80 (-3 : Int)).length = l0.length + 80) := ⟨by rw [List.length_append, List.length_replicate]⟩
  have LB : Aside0 ((t ++ List.replicate 80 (9 : Int)).length = t.length + 80) := ⟨by rw [List.length_append, List.length_replicate]⟩
  have TI : Aside0 (∀ (W : World) (A : Option Addr), Kd.C (Kd.int .i64) W A (l0 ++ List.replicate 80 (-3 : Int)).length (l0 ++ List.replicate 80 (-3 : Int)) → Kd.C (Kd.int .i64) W A l0.length l0) := ⟨fun W A h => by have h_ := Kd.C_take (m := l0.length) h (by rw [LI.out]; omega); rw [List.take_left' rfl] at h_; exact h_⟩
  have TB : Aside0 (∀ (W : World) (A : Option Addr), Kd.C (Kd.int .u8) W A (t ++ List.replicate 80 (9 : Int)).length (t ++ List.replicate 80 (9 : Int)) → Kd.C (Kd.int .u8) W A t.length t) := ⟨fun W A h => by have h_ := Kd.C_take (m := t.length) h (by rw [LB.out]; omega); rw [List.take_left' rfl] at h_; exact h_⟩
  have cutI : ∀ (A : Option Addr) (c : Nat), l0.length + 80 ≤ c → ∀ W : World, (Instr.slice 22 (.slice A (l0.length + 80) c) none (some (.int .i64 (l0.length : Int))) none).run Try.prog W = .ok (.slice A l0.length c) W := fun A c h => by
    have h_ := cut_to (P := Try.prog) 22 3 .i64 Try.underlying22 hiI A (l0.length + 80) c (l0.length : Int) (by omega) (by omega) h
    rw [Int.toNat_natCast] at h_; exact h_
  have cutB : ∀ (A : Option Addr) (c : Nat), t.length + 80 ≤ c → ∀ W : World, (Instr.slice 26 (.slice A (t.length + 80) c) none (some (.int .i64 (t.length : Int))) none).run Try.prog W = .ok (.slice A t.length c) W := fun A c h => by
    have h_ := cut_to (P := Try.prog) 26 5 .i64 Try.underlying26 hiB A (t.length + 80) c (t.length : Int) (by omega) (by omega) h
    rw [Int.toNat_natCast] at h_; exact h_
  have CI := Aside0.mk cutI
  have CB := Aside0.mk cutB
  clear cutI cutB r1 r2 e1 e2 s1 d1 d2 s2 hr0 hr1 hc0 hc1 RS RT w1 hiI hiB et lt hs ht
  have cutI := CI.out
  have cutB := CB.out
  go_enter Try.func4, Try.ntmps4
  go_wp2_with (first
      | (go_at_call 11; (with_reducible refine (tendrilbook_Roomy_int.calls A0 c0 l0 (-3) _ _ ?a1 ?a2 RI.out).mono ?_); (case a1 => repeat (first | exact H1.out | (with_reducible refine Kd.C_alloc ?_ _) | (with_reducible refine Kd.C_drewN ?_ _) | (with_reducible refine Kd.C_drew ?_))); (case a2 => exact C1.out); rintro e w1 ⟨v, rfl, ho, hb⟩; obtain ⟨A2, c2, ev⟩ := Kd.R_slice ho; rw [LI.out] at ev; subst ev; have h3_ := (Kd.R_reads' ho).2.2; have c3_ := (Kd.R_reads' ho).2.1; have m_ := Aside0.mk (below_step (by repeat (first | (with_reducible first | exact HB.out | apply below_alloc | apply pw_below_drewN | apply below_drew1) | exact HB.out)) hb); have n0_ := Aside0.mk (Kd.C_below (by repeat (first | exact H1.out | (with_reducible refine Kd.C_alloc ?_ _) | (with_reducible refine Kd.C_drewN ?_ _) | (with_reducible refine Kd.C_drew ?_))) hb); have n1_ := Aside0.mk (Kd.C_below (by repeat (first | exact H2.out | (with_reducible refine Kd.C_alloc ?_ _) | (with_reducible refine Kd.C_drewN ?_ _) | (with_reducible refine Kd.C_drew ?_))) hb); clear H1 H2 HB; have HB := m_; have H1 := n0_; have H2 := n1_; clear n0_ n1_ m_; have H3 := Aside0.mk h3_; have C3 := Aside0.mk c3_; have hcutI := cutI A2 c2 c3_; clear ho hb h3_ c3_)
      | (go_at_call 12; (with_reducible refine (tendrilbook_Roomy_byte.calls A1 c1 t 9 _ _ ?a1 ?a2 RB.out).mono ?_); (case a1 => repeat (first | exact H2.out | (with_reducible refine Kd.C_alloc ?_ _) | (with_reducible refine Kd.C_drewN ?_ _) | (with_reducible refine Kd.C_drew ?_))); (case a2 => exact C2.out); rintro e w1 ⟨v, rfl, ho, hb⟩; obtain ⟨A3, c3, ev⟩ := Kd.R_slice ho; rw [LB.out] at ev; subst ev; have h3_ := (Kd.R_reads' ho).2.2; have c3_ := (Kd.R_reads' ho).2.1; have m_ := Aside0.mk (below_step (by repeat (first | (with_reducible first | exact HB.out | apply below_alloc | apply pw_below_drewN | apply below_drew1) | exact HB.out)) hb); have n0_ := Aside0.mk (Kd.C_below (by repeat (first | exact H1.out | (with_reducible refine Kd.C_alloc ?_ _) | (with_reducible refine Kd.C_drewN ?_ _) | (with_reducible refine Kd.C_drew ?_))) hb); have n1_ := Aside0.mk (Kd.C_below (by repeat (first | exact H2.out | (with_reducible refine Kd.C_alloc ?_ _) | (with_reducible refine Kd.C_drewN ?_ _) | (with_reducible refine Kd.C_drew ?_))) hb); have n2_ := Aside0.mk (Kd.C_below (by repeat (first | exact H3.out | (with_reducible refine Kd.C_alloc ?_ _) | (with_reducible refine Kd.C_drewN ?_ _) | (with_reducible refine Kd.C_drew ?_))) hb); clear H1 H2 H3 HB; have HB := m_; have H1 := n0_; have H2 := n1_; have H3 := n2_; clear n0_ n1_ n2_ m_; have H4 := Aside0.mk h3_; have C4 := Aside0.mk c3_; have hcutB := cutB A3 c3 c3_; clear ho hb h3_ c3_)
      | (go_at_call 7; (with_reducible refine (block_Decode.calls A3 c3 t X ec _ ?a1 ?a2 D1.out).mono ?_); (case a1 => exact TB.out _ _ (by repeat (first | exact H4.out | (with_reducible refine Kd.C_alloc ?_ _) | (with_reducible refine Kd.C_drewN ?_ _) | (with_reducible refine Kd.C_drew ?_)))); (case a2 => have := C4.out; have := C2.out; omega); rintro e w1 ⟨v, rfl, ho, hb⟩; obtain ⟨A7, c7, ev⟩ := Kd.R_slice ho; subst ev; have h3_ := (Kd.R_reads' ho).2.2; have c3_ := (Kd.R_reads' ho).2.1; have m_ := Aside0.mk (below_step (by repeat (first | (with_reducible first | exact HB.out | apply below_alloc | apply pw_below_drewN | apply below_drew1) | exact HB.out)) hb); have n0_ := Aside0.mk (Kd.C_below (by repeat (first | exact H1.out | (with_reducible refine Kd.C_alloc ?_ _) | (with_reducible refine Kd.C_drewN ?_ _) | (with_reducible refine Kd.C_drew ?_))) hb); have n1_ := Aside0.mk (Kd.C_below (by repeat (first | exact H2.out | (with_reducible refine Kd.C_alloc ?_ _) | (with_reducible refine Kd.C_drewN ?_ _) | (with_reducible refine Kd.C_drew ?_))) hb); have n2_ := Aside0.mk (Kd.C_below (by repeat (first | exact H3.out | (with_reducible refine Kd.C_alloc ?_ _) | (with_reducible refine Kd.C_drewN ?_ _) | (with_reducible refine Kd.C_drew ?_))) hb); have n3_ := Aside0.mk (Kd.C_below (by repeat (first | exact H4.out | (with_reducible refine Kd.C_alloc ?_ _) | (with_reducible refine Kd.C_drewN ?_ _) | (with_reducible refine Kd.C_drew ?_))) hb); clear H1 H2 H3 H4 HB; have HB := m_; have H1 := n0_; have H2 := n1_; have H3 := n2_; have H4 := n3_; clear n0_ n1_ n2_ n3_ m_; have H5 := Aside0.mk h3_; have C5 := Aside0.mk c3_; clear ho hb h3_ c3_)
      | (go_at_call 13; (with_reducible refine (tendrilref19_Decode.calls K A1 c1 t X ec _ ?a1 ?a2 D2.out).mono ?_); (case a1 => repeat (first | exact H2.out | (with_reducible refine Kd.C_alloc ?_ _) | (with_reducible refine Kd.C_drewN ?_ _) | (with_reducible refine Kd.C_drew ?_))); (case a2 => exact C2.out); rintro e w1 ⟨v, rfl, ho, hb⟩; obtain ⟨A9, c9, ev⟩ := Kd.R_slice ho; subst ev; have h3_ := (Kd.R_reads' ho).2.2; have c3_ := (Kd.R_reads' ho).2.1; have m_ := Aside0.mk (below_step (by repeat (first | (with_reducible first | exact HB.out | apply below_alloc | apply pw_below_drewN | apply below_drew1) | exact HB.out)) hb); have n0_ := Aside0.mk (Kd.C_below (by repeat (first | exact H1.out | (with_reducible refine Kd.C_alloc ?_ _) | (with_reducible refine Kd.C_drewN ?_ _) | (with_reducible refine Kd.C_drew ?_))) hb); have n1_ := Aside0.mk (Kd.C_below (by repeat (first | exact H2.out | (with_reducible refine Kd.C_alloc ?_ _) | (with_reducible refine Kd.C_drewN ?_ _) | (with_reducible refine Kd.C_drew ?_))) hb); have n2_ := Aside0.mk (Kd.C_below (by repeat (first | exact H3.out | (with_reducible refine Kd.C_alloc ?_ _) | (with_reducible refine Kd.C_drewN ?_ _) | (with_reducible refine Kd.C_drew ?_))) hb); have n3_ := Aside0.mk (Kd.C_below (by repeat (first | exact H4.out | (with_reducible refine Kd.C_alloc ?_ _) | (with_reducible refine Kd.C_drewN ?_ _) | (with_reducible refine Kd.C_drew ?_))) hb); have n4_ := Aside0.mk (Kd.C_below (by repeat (first | exact H5.out | (with_reducible refine Kd.C_alloc ?_ _) | (with_reducible refine Kd.C_drewN ?_ _) | (with_reducible refine Kd.C_drew ?_))) hb); clear H1 H2 H3 H4 H5 HB; have HB := m_; have H1 := n0_; have H2 := n1_; have H3 := n2_; have H4 := n3_; have H5 := n4_; clear n0_ n1_ n2_ n3_ n4_ m_; have H6 := Aside0.mk h3_; have C6 := Aside0.mk c3_; clear ho hb h3_ c3_)
      | (go_at_call 14; (with_reducible refine (block_Right.calls K A2 c2 l0 rb _ ?a1 ?a2 R1.out).mono ?_); (case a1 => exact TI.out _ _ (by repeat (first | exact H3.out | (with_reducible refine Kd.C_alloc ?_ _) | (with_reducible refine Kd.C_drewN ?_ _) | (with_reducible refine Kd.C_drew ?_)))); (case a2 => have := C3.out; omega); rintro e w' ⟨rfl, ⟨nd, rfl⟩⟩)
      | (go_at_call 15; (with_reducible refine (tendrilref19_RightIds.calls K A0 c0 l0 rb _ ?a1 ?a2 R2.out).mono ?_); (case a1 => repeat (first | exact H1.out | (with_reducible refine Kd.C_alloc ?_ _) | (with_reducible refine Kd.C_drewN ?_ _) | (with_reducible refine Kd.C_drew ?_))); (case a2 => exact C1.out); rintro e w' ⟨rfl, ⟨nd, rfl⟩⟩)
      | (go_at_call 9; (with_reducible refine (block_Encode.calls K A2 c2 l0 en _ ?a1 ?a2 E1.out).mono ?_); (case a1 => exact TI.out _ _ (by repeat (first | exact H3.out | (with_reducible refine Kd.C_alloc ?_ _) | (with_reducible refine Kd.C_drewN ?_ _) | (with_reducible refine Kd.C_drew ?_)))); (case a2 => have := C3.out; omega); rintro e w1 ⟨v, rfl, ho, hb⟩; obtain ⟨A10, c10, ev⟩ := Kd.R_slice ho; subst ev; have h3_ := (Kd.R_reads' ho).2.2; have c3_ := (Kd.R_reads' ho).2.1; have m_ := Aside0.mk (below_step (by repeat (first | (with_reducible first | exact HB.out | apply below_alloc | apply pw_below_drewN | apply below_drew1) | exact HB.out)) hb); have n0_ := Aside0.mk (Kd.C_below (by repeat (first | exact H1.out | (with_reducible refine Kd.C_alloc ?_ _) | (with_reducible refine Kd.C_drewN ?_ _) | (with_reducible refine Kd.C_drew ?_))) hb); have n1_ := Aside0.mk (Kd.C_below (by repeat (first | exact H2.out | (with_reducible refine Kd.C_alloc ?_ _) | (with_reducible refine Kd.C_drewN ?_ _) | (with_reducible refine Kd.C_drew ?_))) hb); have n2_ := Aside0.mk (Kd.C_below (by repeat (first | exact H3.out | (with_reducible refine Kd.C_alloc ?_ _) | (with_reducible refine Kd.C_drewN ?_ _) | (with_reducible refine Kd.C_drew ?_))) hb); have n3_ := Aside0.mk (Kd.C_below (by repeat (first | exact H4.out | (with_reducible refine Kd.C_alloc ?_ _) | (with_reducible refine Kd.C_drewN ?_ _) | (with_reducible refine Kd.C_drew ?_))) hb); have n4_ := Aside0.mk (Kd.C_below (by repeat (first | exact H5.out | (with_reducible refine Kd.C_alloc ?_ _) | (with_reducible refine Kd.C_drewN ?_ _) | (with_reducible refine Kd.C_drew ?_))) hb); have n5_ := Aside0.mk (Kd.C_below (by repeat (first | exact H6.out | (with_reducible refine Kd.C_alloc ?_ _) | (with_reducible refine Kd.C_drewN ?_ _) | (with_reducible refine Kd.C_drew ?_))) hb); clear H1 H2 H3 H4 H5 H6 HB; have HB := m_; have H1 := n0_; have H2 := n1_; have H3 := n2_; have H4 := n3_; have H5 := n4_; have H6 := n5_; clear n0_ n1_ n2_ n3_ n4_ n5_ m_; have H7 := Aside0.mk h3_; have C7 := Aside0.mk c3_; clear ho hb h3_ c3_)
      | (go_at_call 16; (with_reducible refine (tendrilref19_Encode.calls K A0 c0 l0 en _ ?a1 ?a2 E2.out).mono ?_); (case a1 => repeat (first | exact H1.out | (with_reducible refine Kd.C_alloc ?_ _) | (with_reducible refine Kd.C_drewN ?_ _) | (with_reducible refine Kd.C_drew ?_))); (case a2 => exact C1.out); rintro e w1 ⟨v, rfl, ho, hb⟩; obtain ⟨A11, c11, ev⟩ := Kd.R_slice ho; subst ev; have h3_ := (Kd.R_reads' ho).2.2; have c3_ := (Kd.R_reads' ho).2.1; have m_ := Aside0.mk (below_step (by repeat (first | (with_reducible first | exact HB.out | apply below_alloc | apply pw_below_drewN | apply below_drew1) | exact HB.out)) hb); have n0_ := Aside0.mk (Kd.C_below (by repeat (first | exact H1.out | (with_reducible refine Kd.C_alloc ?_ _) | (with_reducible refine Kd.C_drewN ?_ _) | (with_reducible refine Kd.C_drew ?_))) hb); have n1_ := Aside0.mk (Kd.C_below (by repeat (first | exact H2.out | (with_reducible refine Kd.C_alloc ?_ _) | (with_reducible refine Kd.C_drewN ?_ _) | (with_reducible refine Kd.C_drew ?_))) hb); have n2_ := Aside0.mk (Kd.C_below (by repeat (first | exact H3.out | (with_reducible refine Kd.C_alloc ?_ _) | (with_reducible refine Kd.C_drewN ?_ _) | (with_reducible refine Kd.C_drew ?_))) hb); have n3_ := Aside0.mk (Kd.C_below (by repeat (first | exact H4.out | (with_reducible refine Kd.C_alloc ?_ _) | (with_reducible refine Kd.C_drewN ?_ _) | (with_reducible refine Kd.C_drew ?_))) hb); have n4_ := Aside0.mk (Kd.C_below (by repeat (first | exact H5.out | (with_reducible refine Kd.C_alloc ?_ _) | (with_reducible refine Kd.C_drewN ?_ _) | (with_reducible refine Kd.C_drew ?_))) hb); have n5_ := Aside0.mk (Kd.C_below (by repeat (first | exact H6.out | (with_reducible refine Kd.C_alloc ?_ _) | (with_reducible refine Kd.C_drewN ?_ _) | (with_reducible refine Kd.C_drew ?_))) hb); have n6_ := Aside0.mk (Kd.C_below (by repeat (first | exact H7.out | (with_reducible refine Kd.C_alloc ?_ _) | (with_reducible refine Kd.C_drewN ?_ _) | (with_reducible refine Kd.C_drew ?_))) hb); clear H1 H2 H3 H4 H5 H6 H7 HB; have HB := m_; have H1 := n0_; have H2 := n1_; have H3 := n2_; have H4 := n3_; have H5 := n4_; have H6 := n5_; have H7 := n6_; clear n0_ n1_ n2_ n3_ n4_ n5_ n6_ m_; have H8 := Aside0.mk h3_; have C8 := Aside0.mk c3_; clear ho hb h3_ c3_)
      | (go_at_call 8; (with_reducible refine (tendrilbook_Same_byte.calls K A10 c10 en A11 c11 en true _ ?a1 ?a2 ?a3 ?a4 S1.out).mono ?_); (case a1 => repeat (first | exact H7.out | (with_reducible refine Kd.C_alloc ?_ _) | (with_reducible refine Kd.C_drewN ?_ _) | (with_reducible refine Kd.C_drew ?_))); (case a2 => exact C7.out); (case a3 => repeat (first | exact H8.out | (with_reducible refine Kd.C_alloc ?_ _) | (with_reducible refine Kd.C_drewN ?_ _) | (with_reducible refine Kd.C_drew ?_))); (case a4 => exact C8.out); rintro e w' ⟨rfl, ⟨nd, rfl⟩⟩)
      | (go_at_call 10; (with_reducible refine (tendrilbook_Same_int.calls K A7 c7 X A9 c9 X true _ ?a1 ?a2 ?a3 ?a4 S2.out).mono ?_); (case a1 => repeat (first | exact H5.out | (with_reducible refine Kd.C_alloc ?_ _) | (with_reducible refine Kd.C_drewN ?_ _) | (with_reducible refine Kd.C_drew ?_))); (case a2 => exact C5.out); (case a3 => repeat (first | exact H6.out | (with_reducible refine Kd.C_alloc ?_ _) | (with_reducible refine Kd.C_drewN ?_ _) | (with_reducible refine Kd.C_drew ?_))); (case a4 => exact C6.out); rintro e w' ⟨rfl, ⟨nd, rfl⟩⟩)
      | (go_at_call 17; (with_reducible refine (tendrilbook_Intact_int.yes A2 c2 A0 c0 l0 (-3) _ ?a1 ?a2 ?a3 ?a4 ?a5 S3.out).mono ?_); (case a1 => repeat (first | exact H3.out | (with_reducible refine Kd.C_alloc ?_ _) | (with_reducible refine Kd.C_drewN ?_ _) | (with_reducible refine Kd.C_drew ?_))); (case a2 => exact C3.out); (case a3 => repeat (first | exact H1.out | (with_reducible refine Kd.C_alloc ?_ _) | (with_reducible refine Kd.C_drewN ?_ _) | (with_reducible refine Kd.C_drew ?_))); (case a4 => exact C1.out); (case a5 => omega); rintro e w' ⟨rfl, ⟨nd, rfl⟩⟩)
      | (go_at_call 18; (with_reducible refine (tendrilbook_Intact_byte.yes A3 c3 A1 c1 t 9 _ ?a1 ?a2 ?a3 ?a4 ?a5 S4.out).mono ?_); (case a1 => repeat (first | exact H4.out | (with_reducible refine Kd.C_alloc ?_ _) | (with_reducible refine Kd.C_drewN ?_ _) | (with_reducible refine Kd.C_drew ?_))); (case a2 => exact C4.out); (case a3 => repeat (first | exact H2.out | (with_reducible refine Kd.C_alloc ?_ _) | (with_reducible refine Kd.C_drewN ?_ _) | (with_reducible refine Kd.C_drew ?_))); (case a4 => exact C2.out); (case a5 => omega); rintro e w' ⟨rfl, ⟨nd, rfl⟩⟩)
      | (go_at_call 3; (with_reducible refine (tendrillaw19_BlockRuns.calls K true _ RU.out).mono ?_); rintro e w1 ⟨rfl, hb⟩; have m_ := Aside0.mk (below_step (by repeat (first | (with_reducible first | exact HB.out | apply below_alloc | apply pw_below_drewN | apply below_drew1) | exact HB.out)) hb); clear HB; have HB := m_; clear m_ hb))
  go_ret
  exact ⟨rfl, by repeat (first | (with_reducible first | exact HB.out | apply below_alloc | apply pw_below_drewN | apply below_drew1) | exact HB.out)⟩

set_option maxHeartbeats 8000000 in
set_option maxRecDepth 100000 in
theorem walk2 (A0 : Option Addr) (c0 : Nat) (l0 : List Int) (A1 : Option Addr) (c1 : Nat) (l1 : List Int) (w : World) (hr0 : Kd.C (Kd.int .i64) w A0 l0.length l0) (hc0 : l0.length ≤ c0) (hr1 : Kd.C (Kd.int .u8) w A1 l1.length l1) (hc1 : l1.length ≤ c1) (hs : 30 < l0.length) (ht : l1.length ≤ 120) (w1 : ∀ x ∈ l1, 0 ≤ x ∧ x ≤ 255) :
    Calls Try.prog 4 #[.slice A0 l0.length c0, .slice A1 l1.length c1] w fun e w' => e = .returned (.bool true) ∧ Below w.heap.size w w' := by
  have HB := Aside0.mk (Below.refl w.heap.size w)
  obtain ⟨K, hK⟩ : ∃ K : Nat, 1000 ≤ K := ⟨1000, Nat.le_refl _⟩
  have RS := Aside0.mk (ids_alike K hK (l0.take 30) (by rw [List.length_take]; omega))
  have RT := Aside0.mk (bytes_alike K hK (l1.take 120) (by rw [List.length_take]; omega) (fun x hx => w1 x (List.mem_of_mem_take hx)))
  obtain ⟨iI, hiI, _, _, _⟩ := info_parts tendrilbook_Intact_int.info
  obtain ⟨iB, hiB, _, _, _⟩ := info_parts tendrilbook_Intact_byte.info
  obtain ⟨s, es⟩ : ∃ s, s = l0.take 30 := ⟨_, rfl⟩
  have ls : s.length = 30 := by rw [es, List.length_take]; omega
  have H1 : Aside0 (Kd.C (Kd.int .i64) w A0 s.length s) := ⟨by rw [es]; exact Kd.C_take hr0 (by omega)⟩
  have C1 : Aside0 (s.length ≤ c0) := ⟨by omega⟩
  have hcutS := cut_to (P := Try.prog) 22 3 .i64 Try.underlying22 hiI A0 l0.length c0 30 (by omega) (by omega) hc0
  rw [show (30 : Int).toNat = s.length from by omega] at hcutS
  have b1 : decide ((30 : Int) < (l0.length : Int)) = true := decide_eq_true (by omega)
  have b1n : decide (30 < l0.length) = true := decide_eq_true (by omega)
  rw [← es] at RS
  have H2 : Aside0 (Kd.C (Kd.int .u8) w A1 l1.length l1) := ⟨hr1⟩
  have C2 : Aside0 (l1.length ≤ c1) := ⟨hc1⟩
  have b2 : decide ((120 : Int) < (l1.length : Int)) = false := decide_eq_false (by omega)
  have b2n : decide (120 < l1.length) = false := decide_eq_false (by omega)
  rw [List.take_of_length_le ht] at RT
  have lS : s.length ≤ 30 := by omega
  have lT : l1.length ≤ 120 := by omega
  obtain ⟨rb, en, r1, r2, e1, e2, s1⟩ := RS.out
  obtain ⟨X, ec, d1, d2, s2⟩ := RT.out
  have R1 := Aside0.mk r1
  have R2 := Aside0.mk r2
  have E1 := Aside0.mk e1
  have E2 := Aside0.mk e2
  have S1 := Aside0.mk s1
  have D1 := Aside0.mk d1
  have D2 := Aside0.mk d2
  have S2 := Aside0.mk s2
  have RU := Aside0.mk (runs_f K hK)
  have S3 : Aside0 (tendrilbook_Same_int.f 1000 s s = some true) := ⟨by rw [tendrilbook_Same_int_f 1000 s s (by omega) (by omega)]; simp⟩
  have S4 : Aside0 (tendrilbook_Same_byte.f 1000 l1 l1 = some true) := ⟨by rw [tendrilbook_Same_byte_f 1000 l1 l1 (by omega) (by omega)]; simp⟩
  have RI : Aside0 (tendrilbook_Roomy_int.f s (-3) = some (s ++ List.replicate 80 (-3))) := ⟨by unfold tendrilbook_Roomy_int.f; rw [if_pos (by omega)]⟩
  have RB : Aside0 (tendrilbook_Roomy_byte.f l1 9 = some (l1 ++ List.replicate 80 9)) := ⟨by unfold tendrilbook_Roomy_byte.f; rw [if_pos (by omega)]⟩
  have LI : Aside0 ((s ++ List.replicate 80 (-3 : Int)).length = s.length + 80) := ⟨by rw [List.length_append, List.length_replicate]⟩
  have LB : Aside0 ((l1 ++ List.replicate 80 (9 : Int)).length = l1.length + 80) := ⟨by rw [List.length_append, List.length_replicate]⟩
  have TI : Aside0 (∀ (W : World) (A : Option Addr), Kd.C (Kd.int .i64) W A (s ++ List.replicate 80 (-3 : Int)).length (s ++ List.replicate 80 (-3 : Int)) → Kd.C (Kd.int .i64) W A s.length s) := ⟨fun W A h => by have h_ := Kd.C_take (m := s.length) h (by rw [LI.out]; omega); rw [List.take_left' rfl] at h_; exact h_⟩
  have TB : Aside0 (∀ (W : World) (A : Option Addr), Kd.C (Kd.int .u8) W A (l1 ++ List.replicate 80 (9 : Int)).length (l1 ++ List.replicate 80 (9 : Int)) → Kd.C (Kd.int .u8) W A l1.length l1) := ⟨fun W A h => by have h_ := Kd.C_take (m := l1.length) h (by rw [LB.out]; omega); rw [List.take_left' rfl] at h_; exact h_⟩
  have cutI : ∀ (A : Option Addr) (c : Nat), s.length + 80 ≤ c → ∀ W : World, (Instr.slice 22 (.slice A (s.length + 80) c) none (some (.int .i64 (s.length : Int))) none).run Try.prog W = .ok (.slice A s.length c) W := fun A c h => by
    have h_ := cut_to (P := Try.prog) 22 3 .i64 Try.underlying22 hiI A (s.length + 80) c (s.length : Int) (by omega) (by omega) h
    rw [Int.toNat_natCast] at h_; exact h_
  have cutB : ∀ (A : Option Addr) (c : Nat), l1.length + 80 ≤ c → ∀ W : World, (Instr.slice 26 (.slice A (l1.length + 80) c) none (some (.int .i64 (l1.length : Int))) none).run Try.prog W = .ok (.slice A l1.length c) W := fun A c h => by
    have h_ := cut_to (P := Try.prog) 26 5 .i64 Try.underlying26 hiB A (l1.length + 80) c (l1.length : Int) (by omega) (by omega) h
    rw [Int.toNat_natCast] at h_; exact h_
  have CI := Aside0.mk cutI
  have CB := Aside0.mk cutB
  clear cutI cutB r1 r2 e1 e2 s1 d1 d2 s2 hr0 hr1 hc0 hc1 RS RT w1 hiI hiB es ls hs ht
  have cutI := CI.out
  have cutB := CB.out
  go_enter Try.func4, Try.ntmps4
  go_wp2_with (first
      | (go_at_call 11; (with_reducible refine (tendrilbook_Roomy_int.calls A0 c0 s (-3) _ _ ?a1 ?a2 RI.out).mono ?_); (case a1 => repeat (first | exact H1.out | (with_reducible refine Kd.C_alloc ?_ _) | (with_reducible refine Kd.C_drewN ?_ _) | (with_reducible refine Kd.C_drew ?_))); (case a2 => exact C1.out); rintro e w1 ⟨v, rfl, ho, hb⟩; obtain ⟨A2, c2, ev⟩ := Kd.R_slice ho; rw [LI.out] at ev; subst ev; have h3_ := (Kd.R_reads' ho).2.2; have c3_ := (Kd.R_reads' ho).2.1; have m_ := Aside0.mk (below_step (by repeat (first | (with_reducible first | exact HB.out | apply below_alloc | apply pw_below_drewN | apply below_drew1) | exact HB.out)) hb); have n0_ := Aside0.mk (Kd.C_below (by repeat (first | exact H1.out | (with_reducible refine Kd.C_alloc ?_ _) | (with_reducible refine Kd.C_drewN ?_ _) | (with_reducible refine Kd.C_drew ?_))) hb); have n1_ := Aside0.mk (Kd.C_below (by repeat (first | exact H2.out | (with_reducible refine Kd.C_alloc ?_ _) | (with_reducible refine Kd.C_drewN ?_ _) | (with_reducible refine Kd.C_drew ?_))) hb); clear H1 H2 HB; have HB := m_; have H1 := n0_; have H2 := n1_; clear n0_ n1_ m_; have H3 := Aside0.mk h3_; have C3 := Aside0.mk c3_; have hcutI := cutI A2 c2 c3_; clear ho hb h3_ c3_)
      | (go_at_call 12; (with_reducible refine (tendrilbook_Roomy_byte.calls A1 c1 l1 9 _ _ ?a1 ?a2 RB.out).mono ?_); (case a1 => repeat (first | exact H2.out | (with_reducible refine Kd.C_alloc ?_ _) | (with_reducible refine Kd.C_drewN ?_ _) | (with_reducible refine Kd.C_drew ?_))); (case a2 => exact C2.out); rintro e w1 ⟨v, rfl, ho, hb⟩; obtain ⟨A3, c3, ev⟩ := Kd.R_slice ho; rw [LB.out] at ev; subst ev; have h3_ := (Kd.R_reads' ho).2.2; have c3_ := (Kd.R_reads' ho).2.1; have m_ := Aside0.mk (below_step (by repeat (first | (with_reducible first | exact HB.out | apply below_alloc | apply pw_below_drewN | apply below_drew1) | exact HB.out)) hb); have n0_ := Aside0.mk (Kd.C_below (by repeat (first | exact H1.out | (with_reducible refine Kd.C_alloc ?_ _) | (with_reducible refine Kd.C_drewN ?_ _) | (with_reducible refine Kd.C_drew ?_))) hb); have n1_ := Aside0.mk (Kd.C_below (by repeat (first | exact H2.out | (with_reducible refine Kd.C_alloc ?_ _) | (with_reducible refine Kd.C_drewN ?_ _) | (with_reducible refine Kd.C_drew ?_))) hb); have n2_ := Aside0.mk (Kd.C_below (by repeat (first | exact H3.out | (with_reducible refine Kd.C_alloc ?_ _) | (with_reducible refine Kd.C_drewN ?_ _) | (with_reducible refine Kd.C_drew ?_))) hb); clear H1 H2 H3 HB; have HB := m_; have H1 := n0_; have H2 := n1_; have H3 := n2_; clear n0_ n1_ n2_ m_; have H4 := Aside0.mk h3_; have C4 := Aside0.mk c3_; have hcutB := cutB A3 c3 c3_; clear ho hb h3_ c3_)
      | (go_at_call 7; (with_reducible refine (block_Decode.calls A3 c3 l1 X ec _ ?a1 ?a2 D1.out).mono ?_); (case a1 => exact TB.out _ _ (by repeat (first | exact H4.out | (with_reducible refine Kd.C_alloc ?_ _) | (with_reducible refine Kd.C_drewN ?_ _) | (with_reducible refine Kd.C_drew ?_)))); (case a2 => have := C4.out; have := C2.out; omega); rintro e w1 ⟨v, rfl, ho, hb⟩; obtain ⟨A7, c7, ev⟩ := Kd.R_slice ho; subst ev; have h3_ := (Kd.R_reads' ho).2.2; have c3_ := (Kd.R_reads' ho).2.1; have m_ := Aside0.mk (below_step (by repeat (first | (with_reducible first | exact HB.out | apply below_alloc | apply pw_below_drewN | apply below_drew1) | exact HB.out)) hb); have n0_ := Aside0.mk (Kd.C_below (by repeat (first | exact H1.out | (with_reducible refine Kd.C_alloc ?_ _) | (with_reducible refine Kd.C_drewN ?_ _) | (with_reducible refine Kd.C_drew ?_))) hb); have n1_ := Aside0.mk (Kd.C_below (by repeat (first | exact H2.out | (with_reducible refine Kd.C_alloc ?_ _) | (with_reducible refine Kd.C_drewN ?_ _) | (with_reducible refine Kd.C_drew ?_))) hb); have n2_ := Aside0.mk (Kd.C_below (by repeat (first | exact H3.out | (with_reducible refine Kd.C_alloc ?_ _) | (with_reducible refine Kd.C_drewN ?_ _) | (with_reducible refine Kd.C_drew ?_))) hb); have n3_ := Aside0.mk (Kd.C_below (by repeat (first | exact H4.out | (with_reducible refine Kd.C_alloc ?_ _) | (with_reducible refine Kd.C_drewN ?_ _) | (with_reducible refine Kd.C_drew ?_))) hb); clear H1 H2 H3 H4 HB; have HB := m_; have H1 := n0_; have H2 := n1_; have H3 := n2_; have H4 := n3_; clear n0_ n1_ n2_ n3_ m_; have H5 := Aside0.mk h3_; have C5 := Aside0.mk c3_; clear ho hb h3_ c3_)
      | (go_at_call 13; (with_reducible refine (tendrilref19_Decode.calls K A1 c1 l1 X ec _ ?a1 ?a2 D2.out).mono ?_); (case a1 => repeat (first | exact H2.out | (with_reducible refine Kd.C_alloc ?_ _) | (with_reducible refine Kd.C_drewN ?_ _) | (with_reducible refine Kd.C_drew ?_))); (case a2 => exact C2.out); rintro e w1 ⟨v, rfl, ho, hb⟩; obtain ⟨A9, c9, ev⟩ := Kd.R_slice ho; subst ev; have h3_ := (Kd.R_reads' ho).2.2; have c3_ := (Kd.R_reads' ho).2.1; have m_ := Aside0.mk (below_step (by repeat (first | (with_reducible first | exact HB.out | apply below_alloc | apply pw_below_drewN | apply below_drew1) | exact HB.out)) hb); have n0_ := Aside0.mk (Kd.C_below (by repeat (first | exact H1.out | (with_reducible refine Kd.C_alloc ?_ _) | (with_reducible refine Kd.C_drewN ?_ _) | (with_reducible refine Kd.C_drew ?_))) hb); have n1_ := Aside0.mk (Kd.C_below (by repeat (first | exact H2.out | (with_reducible refine Kd.C_alloc ?_ _) | (with_reducible refine Kd.C_drewN ?_ _) | (with_reducible refine Kd.C_drew ?_))) hb); have n2_ := Aside0.mk (Kd.C_below (by repeat (first | exact H3.out | (with_reducible refine Kd.C_alloc ?_ _) | (with_reducible refine Kd.C_drewN ?_ _) | (with_reducible refine Kd.C_drew ?_))) hb); have n3_ := Aside0.mk (Kd.C_below (by repeat (first | exact H4.out | (with_reducible refine Kd.C_alloc ?_ _) | (with_reducible refine Kd.C_drewN ?_ _) | (with_reducible refine Kd.C_drew ?_))) hb); have n4_ := Aside0.mk (Kd.C_below (by repeat (first | exact H5.out | (with_reducible refine Kd.C_alloc ?_ _) | (with_reducible refine Kd.C_drewN ?_ _) | (with_reducible refine Kd.C_drew ?_))) hb); clear H1 H2 H3 H4 H5 HB; have HB := m_; have H1 := n0_; have H2 := n1_; have H3 := n2_; have H4 := n3_; have H5 := n4_; clear n0_ n1_ n2_ n3_ n4_ m_; have H6 := Aside0.mk h3_; have C6 := Aside0.mk c3_; clear ho hb h3_ c3_)
      | (go_at_call 14; (with_reducible refine (block_Right.calls K A2 c2 s rb _ ?a1 ?a2 R1.out).mono ?_); (case a1 => exact TI.out _ _ (by repeat (first | exact H3.out | (with_reducible refine Kd.C_alloc ?_ _) | (with_reducible refine Kd.C_drewN ?_ _) | (with_reducible refine Kd.C_drew ?_)))); (case a2 => have := C3.out; omega); rintro e w' ⟨rfl, ⟨nd, rfl⟩⟩)
      | (go_at_call 15; (with_reducible refine (tendrilref19_RightIds.calls K A0 c0 s rb _ ?a1 ?a2 R2.out).mono ?_); (case a1 => repeat (first | exact H1.out | (with_reducible refine Kd.C_alloc ?_ _) | (with_reducible refine Kd.C_drewN ?_ _) | (with_reducible refine Kd.C_drew ?_))); (case a2 => exact C1.out); rintro e w' ⟨rfl, ⟨nd, rfl⟩⟩)
      | (go_at_call 9; (with_reducible refine (block_Encode.calls K A2 c2 s en _ ?a1 ?a2 E1.out).mono ?_); (case a1 => exact TI.out _ _ (by repeat (first | exact H3.out | (with_reducible refine Kd.C_alloc ?_ _) | (with_reducible refine Kd.C_drewN ?_ _) | (with_reducible refine Kd.C_drew ?_)))); (case a2 => have := C3.out; omega); rintro e w1 ⟨v, rfl, ho, hb⟩; obtain ⟨A10, c10, ev⟩ := Kd.R_slice ho; subst ev; have h3_ := (Kd.R_reads' ho).2.2; have c3_ := (Kd.R_reads' ho).2.1; have m_ := Aside0.mk (below_step (by repeat (first | (with_reducible first | exact HB.out | apply below_alloc | apply pw_below_drewN | apply below_drew1) | exact HB.out)) hb); have n0_ := Aside0.mk (Kd.C_below (by repeat (first | exact H1.out | (with_reducible refine Kd.C_alloc ?_ _) | (with_reducible refine Kd.C_drewN ?_ _) | (with_reducible refine Kd.C_drew ?_))) hb); have n1_ := Aside0.mk (Kd.C_below (by repeat (first | exact H2.out | (with_reducible refine Kd.C_alloc ?_ _) | (with_reducible refine Kd.C_drewN ?_ _) | (with_reducible refine Kd.C_drew ?_))) hb); have n2_ := Aside0.mk (Kd.C_below (by repeat (first | exact H3.out | (with_reducible refine Kd.C_alloc ?_ _) | (with_reducible refine Kd.C_drewN ?_ _) | (with_reducible refine Kd.C_drew ?_))) hb); have n3_ := Aside0.mk (Kd.C_below (by repeat (first | exact H4.out | (with_reducible refine Kd.C_alloc ?_ _) | (with_reducible refine Kd.C_drewN ?_ _) | (with_reducible refine Kd.C_drew ?_))) hb); have n4_ := Aside0.mk (Kd.C_below (by repeat (first | exact H5.out | (with_reducible refine Kd.C_alloc ?_ _) | (with_reducible refine Kd.C_drewN ?_ _) | (with_reducible refine Kd.C_drew ?_))) hb); have n5_ := Aside0.mk (Kd.C_below (by repeat (first | exact H6.out | (with_reducible refine Kd.C_alloc ?_ _) | (with_reducible refine Kd.C_drewN ?_ _) | (with_reducible refine Kd.C_drew ?_))) hb); clear H1 H2 H3 H4 H5 H6 HB; have HB := m_; have H1 := n0_; have H2 := n1_; have H3 := n2_; have H4 := n3_; have H5 := n4_; have H6 := n5_; clear n0_ n1_ n2_ n3_ n4_ n5_ m_; have H7 := Aside0.mk h3_; have C7 := Aside0.mk c3_; clear ho hb h3_ c3_)
      | (go_at_call 16; (with_reducible refine (tendrilref19_Encode.calls K A0 c0 s en _ ?a1 ?a2 E2.out).mono ?_); (case a1 => repeat (first | exact H1.out | (with_reducible refine Kd.C_alloc ?_ _) | (with_reducible refine Kd.C_drewN ?_ _) | (with_reducible refine Kd.C_drew ?_))); (case a2 => exact C1.out); rintro e w1 ⟨v, rfl, ho, hb⟩; obtain ⟨A11, c11, ev⟩ := Kd.R_slice ho; subst ev; have h3_ := (Kd.R_reads' ho).2.2; have c3_ := (Kd.R_reads' ho).2.1; have m_ := Aside0.mk (below_step (by repeat (first | (with_reducible first | exact HB.out | apply below_alloc | apply pw_below_drewN | apply below_drew1) | exact HB.out)) hb); have n0_ := Aside0.mk (Kd.C_below (by repeat (first | exact H1.out | (with_reducible refine Kd.C_alloc ?_ _) | (with_reducible refine Kd.C_drewN ?_ _) | (with_reducible refine Kd.C_drew ?_))) hb); have n1_ := Aside0.mk (Kd.C_below (by repeat (first | exact H2.out | (with_reducible refine Kd.C_alloc ?_ _) | (with_reducible refine Kd.C_drewN ?_ _) | (with_reducible refine Kd.C_drew ?_))) hb); have n2_ := Aside0.mk (Kd.C_below (by repeat (first | exact H3.out | (with_reducible refine Kd.C_alloc ?_ _) | (with_reducible refine Kd.C_drewN ?_ _) | (with_reducible refine Kd.C_drew ?_))) hb); have n3_ := Aside0.mk (Kd.C_below (by repeat (first | exact H4.out | (with_reducible refine Kd.C_alloc ?_ _) | (with_reducible refine Kd.C_drewN ?_ _) | (with_reducible refine Kd.C_drew ?_))) hb); have n4_ := Aside0.mk (Kd.C_below (by repeat (first | exact H5.out | (with_reducible refine Kd.C_alloc ?_ _) | (with_reducible refine Kd.C_drewN ?_ _) | (with_reducible refine Kd.C_drew ?_))) hb); have n5_ := Aside0.mk (Kd.C_below (by repeat (first | exact H6.out | (with_reducible refine Kd.C_alloc ?_ _) | (with_reducible refine Kd.C_drewN ?_ _) | (with_reducible refine Kd.C_drew ?_))) hb); have n6_ := Aside0.mk (Kd.C_below (by repeat (first | exact H7.out | (with_reducible refine Kd.C_alloc ?_ _) | (with_reducible refine Kd.C_drewN ?_ _) | (with_reducible refine Kd.C_drew ?_))) hb); clear H1 H2 H3 H4 H5 H6 H7 HB; have HB := m_; have H1 := n0_; have H2 := n1_; have H3 := n2_; have H4 := n3_; have H5 := n4_; have H6 := n5_; have H7 := n6_; clear n0_ n1_ n2_ n3_ n4_ n5_ n6_ m_; have H8 := Aside0.mk h3_; have C8 := Aside0.mk c3_; clear ho hb h3_ c3_)
      | (go_at_call 8; (with_reducible refine (tendrilbook_Same_byte.calls K A10 c10 en A11 c11 en true _ ?a1 ?a2 ?a3 ?a4 S1.out).mono ?_); (case a1 => repeat (first | exact H7.out | (with_reducible refine Kd.C_alloc ?_ _) | (with_reducible refine Kd.C_drewN ?_ _) | (with_reducible refine Kd.C_drew ?_))); (case a2 => exact C7.out); (case a3 => repeat (first | exact H8.out | (with_reducible refine Kd.C_alloc ?_ _) | (with_reducible refine Kd.C_drewN ?_ _) | (with_reducible refine Kd.C_drew ?_))); (case a4 => exact C8.out); rintro e w' ⟨rfl, ⟨nd, rfl⟩⟩)
      | (go_at_call 10; (with_reducible refine (tendrilbook_Same_int.calls K A7 c7 X A9 c9 X true _ ?a1 ?a2 ?a3 ?a4 S2.out).mono ?_); (case a1 => repeat (first | exact H5.out | (with_reducible refine Kd.C_alloc ?_ _) | (with_reducible refine Kd.C_drewN ?_ _) | (with_reducible refine Kd.C_drew ?_))); (case a2 => exact C5.out); (case a3 => repeat (first | exact H6.out | (with_reducible refine Kd.C_alloc ?_ _) | (with_reducible refine Kd.C_drewN ?_ _) | (with_reducible refine Kd.C_drew ?_))); (case a4 => exact C6.out); rintro e w' ⟨rfl, ⟨nd, rfl⟩⟩)
      | (go_at_call 17; (with_reducible refine (tendrilbook_Intact_int.yes A2 c2 A0 c0 s (-3) _ ?a1 ?a2 ?a3 ?a4 ?a5 S3.out).mono ?_); (case a1 => repeat (first | exact H3.out | (with_reducible refine Kd.C_alloc ?_ _) | (with_reducible refine Kd.C_drewN ?_ _) | (with_reducible refine Kd.C_drew ?_))); (case a2 => exact C3.out); (case a3 => repeat (first | exact H1.out | (with_reducible refine Kd.C_alloc ?_ _) | (with_reducible refine Kd.C_drewN ?_ _) | (with_reducible refine Kd.C_drew ?_))); (case a4 => exact C1.out); (case a5 => omega); rintro e w' ⟨rfl, ⟨nd, rfl⟩⟩)
      | (go_at_call 18; (with_reducible refine (tendrilbook_Intact_byte.yes A3 c3 A1 c1 l1 9 _ ?a1 ?a2 ?a3 ?a4 ?a5 S4.out).mono ?_); (case a1 => repeat (first | exact H4.out | (with_reducible refine Kd.C_alloc ?_ _) | (with_reducible refine Kd.C_drewN ?_ _) | (with_reducible refine Kd.C_drew ?_))); (case a2 => exact C4.out); (case a3 => repeat (first | exact H2.out | (with_reducible refine Kd.C_alloc ?_ _) | (with_reducible refine Kd.C_drewN ?_ _) | (with_reducible refine Kd.C_drew ?_))); (case a4 => exact C2.out); (case a5 => omega); rintro e w' ⟨rfl, ⟨nd, rfl⟩⟩)
      | (go_at_call 3; (with_reducible refine (tendrillaw19_BlockRuns.calls K true _ RU.out).mono ?_); rintro e w1 ⟨rfl, hb⟩; have m_ := Aside0.mk (below_step (by repeat (first | (with_reducible first | exact HB.out | apply below_alloc | apply pw_below_drewN | apply below_drew1) | exact HB.out)) hb); clear HB; have HB := m_; clear m_ hb))
  go_ret
  exact ⟨rfl, by repeat (first | (with_reducible first | exact HB.out | apply below_alloc | apply pw_below_drewN | apply below_drew1) | exact HB.out)⟩

set_option maxHeartbeats 8000000 in
set_option maxRecDepth 100000 in
theorem walk3 (A0 : Option Addr) (c0 : Nat) (l0 : List Int) (A1 : Option Addr) (c1 : Nat) (l1 : List Int) (w : World) (hr0 : Kd.C (Kd.int .i64) w A0 l0.length l0) (hc0 : l0.length ≤ c0) (hr1 : Kd.C (Kd.int .u8) w A1 l1.length l1) (hc1 : l1.length ≤ c1) (hs : 30 < l0.length) (ht : 120 < l1.length) (w1 : ∀ x ∈ l1, 0 ≤ x ∧ x ≤ 255) :
    Calls Try.prog 4 #[.slice A0 l0.length c0, .slice A1 l1.length c1] w fun e w' => e = .returned (.bool true) ∧ Below w.heap.size w w' := by
  have HB := Aside0.mk (Below.refl w.heap.size w)
  obtain ⟨K, hK⟩ : ∃ K : Nat, 1000 ≤ K := ⟨1000, Nat.le_refl _⟩
  have RS := Aside0.mk (ids_alike K hK (l0.take 30) (by rw [List.length_take]; omega))
  have RT := Aside0.mk (bytes_alike K hK (l1.take 120) (by rw [List.length_take]; omega) (fun x hx => w1 x (List.mem_of_mem_take hx)))
  obtain ⟨iI, hiI, _, _, _⟩ := info_parts tendrilbook_Intact_int.info
  obtain ⟨iB, hiB, _, _, _⟩ := info_parts tendrilbook_Intact_byte.info
  obtain ⟨s, es⟩ : ∃ s, s = l0.take 30 := ⟨_, rfl⟩
  have ls : s.length = 30 := by rw [es, List.length_take]; omega
  have H1 : Aside0 (Kd.C (Kd.int .i64) w A0 s.length s) := ⟨by rw [es]; exact Kd.C_take hr0 (by omega)⟩
  have C1 : Aside0 (s.length ≤ c0) := ⟨by omega⟩
  have hcutS := cut_to (P := Try.prog) 22 3 .i64 Try.underlying22 hiI A0 l0.length c0 30 (by omega) (by omega) hc0
  rw [show (30 : Int).toNat = s.length from by omega] at hcutS
  have b1 : decide ((30 : Int) < (l0.length : Int)) = true := decide_eq_true (by omega)
  have b1n : decide (30 < l0.length) = true := decide_eq_true (by omega)
  rw [← es] at RS
  obtain ⟨t, et⟩ : ∃ t, t = l1.take 120 := ⟨_, rfl⟩
  have lt : t.length = 120 := by rw [et, List.length_take]; omega
  have H2 : Aside0 (Kd.C (Kd.int .u8) w A1 t.length t) := ⟨by rw [et]; exact Kd.C_take hr1 (by omega)⟩
  have C2 : Aside0 (t.length ≤ c1) := ⟨by omega⟩
  have hcutT := cut_to (P := Try.prog) 26 5 .i64 Try.underlying26 hiB A1 l1.length c1 120 (by omega) (by omega) hc1
  rw [show (120 : Int).toNat = t.length from by omega] at hcutT
  have b2 : decide ((120 : Int) < (l1.length : Int)) = true := decide_eq_true (by omega)
  have b2n : decide (120 < l1.length) = true := decide_eq_true (by omega)
  rw [← et] at RT
  have lS : s.length ≤ 30 := by omega
  have lT : t.length ≤ 120 := by omega
  obtain ⟨rb, en, r1, r2, e1, e2, s1⟩ := RS.out
  obtain ⟨X, ec, d1, d2, s2⟩ := RT.out
  have R1 := Aside0.mk r1
  have R2 := Aside0.mk r2
  have E1 := Aside0.mk e1
  have E2 := Aside0.mk e2
  have S1 := Aside0.mk s1
  have D1 := Aside0.mk d1
  have D2 := Aside0.mk d2
  have S2 := Aside0.mk s2
  have RU := Aside0.mk (runs_f K hK)
  have S3 : Aside0 (tendrilbook_Same_int.f 1000 s s = some true) := ⟨by rw [tendrilbook_Same_int_f 1000 s s (by omega) (by omega)]; simp⟩
  have S4 : Aside0 (tendrilbook_Same_byte.f 1000 t t = some true) := ⟨by rw [tendrilbook_Same_byte_f 1000 t t (by omega) (by omega)]; simp⟩
  have RI : Aside0 (tendrilbook_Roomy_int.f s (-3) = some (s ++ List.replicate 80 (-3))) := ⟨by unfold tendrilbook_Roomy_int.f; rw [if_pos (by omega)]⟩
  have RB : Aside0 (tendrilbook_Roomy_byte.f t 9 = some (t ++ List.replicate 80 9)) := ⟨by unfold tendrilbook_Roomy_byte.f; rw [if_pos (by omega)]⟩
  have LI : Aside0 ((s ++ List.replicate 80 (-3 : Int)).length = s.length + 80) := ⟨by rw [List.length_append, List.length_replicate]⟩
  have LB : Aside0 ((t ++ List.replicate 80 (9 : Int)).length = t.length + 80) := ⟨by rw [List.length_append, List.length_replicate]⟩
  have TI : Aside0 (∀ (W : World) (A : Option Addr), Kd.C (Kd.int .i64) W A (s ++ List.replicate 80 (-3 : Int)).length (s ++ List.replicate 80 (-3 : Int)) → Kd.C (Kd.int .i64) W A s.length s) := ⟨fun W A h => by have h_ := Kd.C_take (m := s.length) h (by rw [LI.out]; omega); rw [List.take_left' rfl] at h_; exact h_⟩
  have TB : Aside0 (∀ (W : World) (A : Option Addr), Kd.C (Kd.int .u8) W A (t ++ List.replicate 80 (9 : Int)).length (t ++ List.replicate 80 (9 : Int)) → Kd.C (Kd.int .u8) W A t.length t) := ⟨fun W A h => by have h_ := Kd.C_take (m := t.length) h (by rw [LB.out]; omega); rw [List.take_left' rfl] at h_; exact h_⟩
  have cutI : ∀ (A : Option Addr) (c : Nat), s.length + 80 ≤ c → ∀ W : World, (Instr.slice 22 (.slice A (s.length + 80) c) none (some (.int .i64 (s.length : Int))) none).run Try.prog W = .ok (.slice A s.length c) W := fun A c h => by
    have h_ := cut_to (P := Try.prog) 22 3 .i64 Try.underlying22 hiI A (s.length + 80) c (s.length : Int) (by omega) (by omega) h
    rw [Int.toNat_natCast] at h_; exact h_
  have cutB : ∀ (A : Option Addr) (c : Nat), t.length + 80 ≤ c → ∀ W : World, (Instr.slice 26 (.slice A (t.length + 80) c) none (some (.int .i64 (t.length : Int))) none).run Try.prog W = .ok (.slice A t.length c) W := fun A c h => by
    have h_ := cut_to (P := Try.prog) 26 5 .i64 Try.underlying26 hiB A (t.length + 80) c (t.length : Int) (by omega) (by omega) h
    rw [Int.toNat_natCast] at h_; exact h_
  have CI := Aside0.mk cutI
  have CB := Aside0.mk cutB
  clear cutI cutB r1 r2 e1 e2 s1 d1 d2 s2 hr0 hr1 hc0 hc1 RS RT w1 hiI hiB es ls et lt hs ht
  have cutI := CI.out
  have cutB := CB.out
  go_enter Try.func4, Try.ntmps4
  go_wp2_with (first
      | (go_at_call 11; (with_reducible refine (tendrilbook_Roomy_int.calls A0 c0 s (-3) _ _ ?a1 ?a2 RI.out).mono ?_); (case a1 => repeat (first | exact H1.out | (with_reducible refine Kd.C_alloc ?_ _) | (with_reducible refine Kd.C_drewN ?_ _) | (with_reducible refine Kd.C_drew ?_))); (case a2 => exact C1.out); rintro e w1 ⟨v, rfl, ho, hb⟩; obtain ⟨A2, c2, ev⟩ := Kd.R_slice ho; rw [LI.out] at ev; subst ev; have h3_ := (Kd.R_reads' ho).2.2; have c3_ := (Kd.R_reads' ho).2.1; have m_ := Aside0.mk (below_step (by repeat (first | (with_reducible first | exact HB.out | apply below_alloc | apply pw_below_drewN | apply below_drew1) | exact HB.out)) hb); have n0_ := Aside0.mk (Kd.C_below (by repeat (first | exact H1.out | (with_reducible refine Kd.C_alloc ?_ _) | (with_reducible refine Kd.C_drewN ?_ _) | (with_reducible refine Kd.C_drew ?_))) hb); have n1_ := Aside0.mk (Kd.C_below (by repeat (first | exact H2.out | (with_reducible refine Kd.C_alloc ?_ _) | (with_reducible refine Kd.C_drewN ?_ _) | (with_reducible refine Kd.C_drew ?_))) hb); clear H1 H2 HB; have HB := m_; have H1 := n0_; have H2 := n1_; clear n0_ n1_ m_; have H3 := Aside0.mk h3_; have C3 := Aside0.mk c3_; have hcutI := cutI A2 c2 c3_; clear ho hb h3_ c3_)
      | (go_at_call 12; (with_reducible refine (tendrilbook_Roomy_byte.calls A1 c1 t 9 _ _ ?a1 ?a2 RB.out).mono ?_); (case a1 => repeat (first | exact H2.out | (with_reducible refine Kd.C_alloc ?_ _) | (with_reducible refine Kd.C_drewN ?_ _) | (with_reducible refine Kd.C_drew ?_))); (case a2 => exact C2.out); rintro e w1 ⟨v, rfl, ho, hb⟩; obtain ⟨A3, c3, ev⟩ := Kd.R_slice ho; rw [LB.out] at ev; subst ev; have h3_ := (Kd.R_reads' ho).2.2; have c3_ := (Kd.R_reads' ho).2.1; have m_ := Aside0.mk (below_step (by repeat (first | (with_reducible first | exact HB.out | apply below_alloc | apply pw_below_drewN | apply below_drew1) | exact HB.out)) hb); have n0_ := Aside0.mk (Kd.C_below (by repeat (first | exact H1.out | (with_reducible refine Kd.C_alloc ?_ _) | (with_reducible refine Kd.C_drewN ?_ _) | (with_reducible refine Kd.C_drew ?_))) hb); have n1_ := Aside0.mk (Kd.C_below (by repeat (first | exact H2.out | (with_reducible refine Kd.C_alloc ?_ _) | (with_reducible refine Kd.C_drewN ?_ _) | (with_reducible refine Kd.C_drew ?_))) hb); have n2_ := Aside0.mk (Kd.C_below (by repeat (first | exact H3.out | (with_reducible refine Kd.C_alloc ?_ _) | (with_reducible refine Kd.C_drewN ?_ _) | (with_reducible refine Kd.C_drew ?_))) hb); clear H1 H2 H3 HB; have HB := m_; have H1 := n0_; have H2 := n1_; have H3 := n2_; clear n0_ n1_ n2_ m_; have H4 := Aside0.mk h3_; have C4 := Aside0.mk c3_; have hcutB := cutB A3 c3 c3_; clear ho hb h3_ c3_)
      | (go_at_call 7; (with_reducible refine (block_Decode.calls A3 c3 t X ec _ ?a1 ?a2 D1.out).mono ?_); (case a1 => exact TB.out _ _ (by repeat (first | exact H4.out | (with_reducible refine Kd.C_alloc ?_ _) | (with_reducible refine Kd.C_drewN ?_ _) | (with_reducible refine Kd.C_drew ?_)))); (case a2 => have := C4.out; have := C2.out; omega); rintro e w1 ⟨v, rfl, ho, hb⟩; obtain ⟨A7, c7, ev⟩ := Kd.R_slice ho; subst ev; have h3_ := (Kd.R_reads' ho).2.2; have c3_ := (Kd.R_reads' ho).2.1; have m_ := Aside0.mk (below_step (by repeat (first | (with_reducible first | exact HB.out | apply below_alloc | apply pw_below_drewN | apply below_drew1) | exact HB.out)) hb); have n0_ := Aside0.mk (Kd.C_below (by repeat (first | exact H1.out | (with_reducible refine Kd.C_alloc ?_ _) | (with_reducible refine Kd.C_drewN ?_ _) | (with_reducible refine Kd.C_drew ?_))) hb); have n1_ := Aside0.mk (Kd.C_below (by repeat (first | exact H2.out | (with_reducible refine Kd.C_alloc ?_ _) | (with_reducible refine Kd.C_drewN ?_ _) | (with_reducible refine Kd.C_drew ?_))) hb); have n2_ := Aside0.mk (Kd.C_below (by repeat (first | exact H3.out | (with_reducible refine Kd.C_alloc ?_ _) | (with_reducible refine Kd.C_drewN ?_ _) | (with_reducible refine Kd.C_drew ?_))) hb); have n3_ := Aside0.mk (Kd.C_below (by repeat (first | exact H4.out | (with_reducible refine Kd.C_alloc ?_ _) | (with_reducible refine Kd.C_drewN ?_ _) | (with_reducible refine Kd.C_drew ?_))) hb); clear H1 H2 H3 H4 HB; have HB := m_; have H1 := n0_; have H2 := n1_; have H3 := n2_; have H4 := n3_; clear n0_ n1_ n2_ n3_ m_; have H5 := Aside0.mk h3_; have C5 := Aside0.mk c3_; clear ho hb h3_ c3_)
      | (go_at_call 13; (with_reducible refine (tendrilref19_Decode.calls K A1 c1 t X ec _ ?a1 ?a2 D2.out).mono ?_); (case a1 => repeat (first | exact H2.out | (with_reducible refine Kd.C_alloc ?_ _) | (with_reducible refine Kd.C_drewN ?_ _) | (with_reducible refine Kd.C_drew ?_))); (case a2 => exact C2.out); rintro e w1 ⟨v, rfl, ho, hb⟩; obtain ⟨A9, c9, ev⟩ := Kd.R_slice ho; subst ev; have h3_ := (Kd.R_reads' ho).2.2; have c3_ := (Kd.R_reads' ho).2.1; have m_ := Aside0.mk (below_step (by repeat (first | (with_reducible first | exact HB.out | apply below_alloc | apply pw_below_drewN | apply below_drew1) | exact HB.out)) hb); have n0_ := Aside0.mk (Kd.C_below (by repeat (first | exact H1.out | (with_reducible refine Kd.C_alloc ?_ _) | (with_reducible refine Kd.C_drewN ?_ _) | (with_reducible refine Kd.C_drew ?_))) hb); have n1_ := Aside0.mk (Kd.C_below (by repeat (first | exact H2.out | (with_reducible refine Kd.C_alloc ?_ _) | (with_reducible refine Kd.C_drewN ?_ _) | (with_reducible refine Kd.C_drew ?_))) hb); have n2_ := Aside0.mk (Kd.C_below (by repeat (first | exact H3.out | (with_reducible refine Kd.C_alloc ?_ _) | (with_reducible refine Kd.C_drewN ?_ _) | (with_reducible refine Kd.C_drew ?_))) hb); have n3_ := Aside0.mk (Kd.C_below (by repeat (first | exact H4.out | (with_reducible refine Kd.C_alloc ?_ _) | (with_reducible refine Kd.C_drewN ?_ _) | (with_reducible refine Kd.C_drew ?_))) hb); have n4_ := Aside0.mk (Kd.C_below (by repeat (first | exact H5.out | (with_reducible refine Kd.C_alloc ?_ _) | (with_reducible refine Kd.C_drewN ?_ _) | (with_reducible refine Kd.C_drew ?_))) hb); clear H1 H2 H3 H4 H5 HB; have HB := m_; have H1 := n0_; have H2 := n1_; have H3 := n2_; have H4 := n3_; have H5 := n4_; clear n0_ n1_ n2_ n3_ n4_ m_; have H6 := Aside0.mk h3_; have C6 := Aside0.mk c3_; clear ho hb h3_ c3_)
      | (go_at_call 14; (with_reducible refine (block_Right.calls K A2 c2 s rb _ ?a1 ?a2 R1.out).mono ?_); (case a1 => exact TI.out _ _ (by repeat (first | exact H3.out | (with_reducible refine Kd.C_alloc ?_ _) | (with_reducible refine Kd.C_drewN ?_ _) | (with_reducible refine Kd.C_drew ?_)))); (case a2 => have := C3.out; omega); rintro e w' ⟨rfl, ⟨nd, rfl⟩⟩)
      | (go_at_call 15; (with_reducible refine (tendrilref19_RightIds.calls K A0 c0 s rb _ ?a1 ?a2 R2.out).mono ?_); (case a1 => repeat (first | exact H1.out | (with_reducible refine Kd.C_alloc ?_ _) | (with_reducible refine Kd.C_drewN ?_ _) | (with_reducible refine Kd.C_drew ?_))); (case a2 => exact C1.out); rintro e w' ⟨rfl, ⟨nd, rfl⟩⟩)
      | (go_at_call 9; (with_reducible refine (block_Encode.calls K A2 c2 s en _ ?a1 ?a2 E1.out).mono ?_); (case a1 => exact TI.out _ _ (by repeat (first | exact H3.out | (with_reducible refine Kd.C_alloc ?_ _) | (with_reducible refine Kd.C_drewN ?_ _) | (with_reducible refine Kd.C_drew ?_)))); (case a2 => have := C3.out; omega); rintro e w1 ⟨v, rfl, ho, hb⟩; obtain ⟨A10, c10, ev⟩ := Kd.R_slice ho; subst ev; have h3_ := (Kd.R_reads' ho).2.2; have c3_ := (Kd.R_reads' ho).2.1; have m_ := Aside0.mk (below_step (by repeat (first | (with_reducible first | exact HB.out | apply below_alloc | apply pw_below_drewN | apply below_drew1) | exact HB.out)) hb); have n0_ := Aside0.mk (Kd.C_below (by repeat (first | exact H1.out | (with_reducible refine Kd.C_alloc ?_ _) | (with_reducible refine Kd.C_drewN ?_ _) | (with_reducible refine Kd.C_drew ?_))) hb); have n1_ := Aside0.mk (Kd.C_below (by repeat (first | exact H2.out | (with_reducible refine Kd.C_alloc ?_ _) | (with_reducible refine Kd.C_drewN ?_ _) | (with_reducible refine Kd.C_drew ?_))) hb); have n2_ := Aside0.mk (Kd.C_below (by repeat (first | exact H3.out | (with_reducible refine Kd.C_alloc ?_ _) | (with_reducible refine Kd.C_drewN ?_ _) | (with_reducible refine Kd.C_drew ?_))) hb); have n3_ := Aside0.mk (Kd.C_below (by repeat (first | exact H4.out | (with_reducible refine Kd.C_alloc ?_ _) | (with_reducible refine Kd.C_drewN ?_ _) | (with_reducible refine Kd.C_drew ?_))) hb); have n4_ := Aside0.mk (Kd.C_below (by repeat (first | exact H5.out | (with_reducible refine Kd.C_alloc ?_ _) | (with_reducible refine Kd.C_drewN ?_ _) | (with_reducible refine Kd.C_drew ?_))) hb); have n5_ := Aside0.mk (Kd.C_below (by repeat (first | exact H6.out | (with_reducible refine Kd.C_alloc ?_ _) | (with_reducible refine Kd.C_drewN ?_ _) | (with_reducible refine Kd.C_drew ?_))) hb); clear H1 H2 H3 H4 H5 H6 HB; have HB := m_; have H1 := n0_; have H2 := n1_; have H3 := n2_; have H4 := n3_; have H5 := n4_; have H6 := n5_; clear n0_ n1_ n2_ n3_ n4_ n5_ m_; have H7 := Aside0.mk h3_; have C7 := Aside0.mk c3_; clear ho hb h3_ c3_)
      | (go_at_call 16; (with_reducible refine (tendrilref19_Encode.calls K A0 c0 s en _ ?a1 ?a2 E2.out).mono ?_); (case a1 => repeat (first | exact H1.out | (with_reducible refine Kd.C_alloc ?_ _) | (with_reducible refine Kd.C_drewN ?_ _) | (with_reducible refine Kd.C_drew ?_))); (case a2 => exact C1.out); rintro e w1 ⟨v, rfl, ho, hb⟩; obtain ⟨A11, c11, ev⟩ := Kd.R_slice ho; subst ev; have h3_ := (Kd.R_reads' ho).2.2; have c3_ := (Kd.R_reads' ho).2.1; have m_ := Aside0.mk (below_step (by repeat (first | (with_reducible first | exact HB.out | apply below_alloc | apply pw_below_drewN | apply below_drew1) | exact HB.out)) hb); have n0_ := Aside0.mk (Kd.C_below (by repeat (first | exact H1.out | (with_reducible refine Kd.C_alloc ?_ _) | (with_reducible refine Kd.C_drewN ?_ _) | (with_reducible refine Kd.C_drew ?_))) hb); have n1_ := Aside0.mk (Kd.C_below (by repeat (first | exact H2.out | (with_reducible refine Kd.C_alloc ?_ _) | (with_reducible refine Kd.C_drewN ?_ _) | (with_reducible refine Kd.C_drew ?_))) hb); have n2_ := Aside0.mk (Kd.C_below (by repeat (first | exact H3.out | (with_reducible refine Kd.C_alloc ?_ _) | (with_reducible refine Kd.C_drewN ?_ _) | (with_reducible refine Kd.C_drew ?_))) hb); have n3_ := Aside0.mk (Kd.C_below (by repeat (first | exact H4.out | (with_reducible refine Kd.C_alloc ?_ _) | (with_reducible refine Kd.C_drewN ?_ _) | (with_reducible refine Kd.C_drew ?_))) hb); have n4_ := Aside0.mk (Kd.C_below (by repeat (first | exact H5.out | (with_reducible refine Kd.C_alloc ?_ _) | (with_reducible refine Kd.C_drewN ?_ _) | (with_reducible refine Kd.C_drew ?_))) hb); have n5_ := Aside0.mk (Kd.C_below (by repeat (first | exact H6.out | (with_reducible refine Kd.C_alloc ?_ _) | (with_reducible refine Kd.C_drewN ?_ _) | (with_reducible refine Kd.C_drew ?_))) hb); have n6_ := Aside0.mk (Kd.C_below (by repeat (first | exact H7.out | (with_reducible refine Kd.C_alloc ?_ _) | (with_reducible refine Kd.C_drewN ?_ _) | (with_reducible refine Kd.C_drew ?_))) hb); clear H1 H2 H3 H4 H5 H6 H7 HB; have HB := m_; have H1 := n0_; have H2 := n1_; have H3 := n2_; have H4 := n3_; have H5 := n4_; have H6 := n5_; have H7 := n6_; clear n0_ n1_ n2_ n3_ n4_ n5_ n6_ m_; have H8 := Aside0.mk h3_; have C8 := Aside0.mk c3_; clear ho hb h3_ c3_)
      | (go_at_call 8; (with_reducible refine (tendrilbook_Same_byte.calls K A10 c10 en A11 c11 en true _ ?a1 ?a2 ?a3 ?a4 S1.out).mono ?_); (case a1 => repeat (first | exact H7.out | (with_reducible refine Kd.C_alloc ?_ _) | (with_reducible refine Kd.C_drewN ?_ _) | (with_reducible refine Kd.C_drew ?_))); (case a2 => exact C7.out); (case a3 => repeat (first | exact H8.out | (with_reducible refine Kd.C_alloc ?_ _) | (with_reducible refine Kd.C_drewN ?_ _) | (with_reducible refine Kd.C_drew ?_))); (case a4 => exact C8.out); rintro e w' ⟨rfl, ⟨nd, rfl⟩⟩)
      | (go_at_call 10; (with_reducible refine (tendrilbook_Same_int.calls K A7 c7 X A9 c9 X true _ ?a1 ?a2 ?a3 ?a4 S2.out).mono ?_); (case a1 => repeat (first | exact H5.out | (with_reducible refine Kd.C_alloc ?_ _) | (with_reducible refine Kd.C_drewN ?_ _) | (with_reducible refine Kd.C_drew ?_))); (case a2 => exact C5.out); (case a3 => repeat (first | exact H6.out | (with_reducible refine Kd.C_alloc ?_ _) | (with_reducible refine Kd.C_drewN ?_ _) | (with_reducible refine Kd.C_drew ?_))); (case a4 => exact C6.out); rintro e w' ⟨rfl, ⟨nd, rfl⟩⟩)
      | (go_at_call 17; (with_reducible refine (tendrilbook_Intact_int.yes A2 c2 A0 c0 s (-3) _ ?a1 ?a2 ?a3 ?a4 ?a5 S3.out).mono ?_); (case a1 => repeat (first | exact H3.out | (with_reducible refine Kd.C_alloc ?_ _) | (with_reducible refine Kd.C_drewN ?_ _) | (with_reducible refine Kd.C_drew ?_))); (case a2 => exact C3.out); (case a3 => repeat (first | exact H1.out | (with_reducible refine Kd.C_alloc ?_ _) | (with_reducible refine Kd.C_drewN ?_ _) | (with_reducible refine Kd.C_drew ?_))); (case a4 => exact C1.out); (case a5 => omega); rintro e w' ⟨rfl, ⟨nd, rfl⟩⟩)
      | (go_at_call 18; (with_reducible refine (tendrilbook_Intact_byte.yes A3 c3 A1 c1 t 9 _ ?a1 ?a2 ?a3 ?a4 ?a5 S4.out).mono ?_); (case a1 => repeat (first | exact H4.out | (with_reducible refine Kd.C_alloc ?_ _) | (with_reducible refine Kd.C_drewN ?_ _) | (with_reducible refine Kd.C_drew ?_))); (case a2 => exact C4.out); (case a3 => repeat (first | exact H2.out | (with_reducible refine Kd.C_alloc ?_ _) | (with_reducible refine Kd.C_drewN ?_ _) | (with_reducible refine Kd.C_drew ?_))); (case a4 => exact C2.out); (case a5 => omega); rintro e w' ⟨rfl, ⟨nd, rfl⟩⟩)
      | (go_at_call 3; (with_reducible refine (tendrillaw19_BlockRuns.calls K true _ RU.out).mono ?_); rintro e w1 ⟨rfl, hb⟩; have m_ := Aside0.mk (below_step (by repeat (first | (with_reducible first | exact HB.out | apply below_alloc | apply pw_below_drewN | apply below_drew1) | exact HB.out)) hb); clear HB; have HB := m_; clear m_ hb))
  go_ret
  exact ⟨rfl, by repeat (first | (with_reducible first | exact HB.out | apply below_alloc | apply pw_below_drewN | apply below_drew1) | exact HB.out)⟩

theorem walk (a0 : Option Addr) (len0 cap0 : Nat) (z0 : List Int) (a1 : Option Addr) (len1 cap1 : Nat) (z1 : List Int) (w : World) (w0 : (a0 = none ∧ len0 = 0 ∧ cap0 = 0 ∧ z0 = []) ∨ ∃ x, a0 = some x ∧ len0 ≤ cap0 ∧ cap0 ≤ maxLen ∧ z0.length = cap0 ∧ (∀ i, i < z0.length → w.cell? (x.add i) = some (.int .i64 (z0.getD i 0))) ∧ ∀ n ∈ z0, (Lit.int .i64 n).wf = true) (y0 : len0 * 8 ≤ 140737488351232) (w1 : (a1 = none ∧ len1 = 0 ∧ cap1 = 0 ∧ z1 = []) ∨ ∃ x, a1 = some x ∧ len1 ≤ cap1 ∧ cap1 ≤ maxLen ∧ z1.length = cap1 ∧ (∀ i, i < z1.length → w.cell? (x.add i) = some (.int .u8 (z1.getD i 0))) ∧ ∀ n ∈ z1, (Lit.int .u8 n).wf = true) (y1 : len1 * 1 ≤ 140737488351232) :
    Calls Try.prog 4 #[.slice a0 len0 cap0, .slice a1 len1 cap1] w fun e w' => e = .returned (.bool true) ∧ Below w.heap.size w w' := by
  obtain ⟨l0, rfl, hr0, hm0, hw0, hc0⟩ := ReadsInt.ofRowC w0
  obtain ⟨l1, rfl, hr1, hm1, hw1, hc1⟩ := ReadsInt.ofRowC w1
  have h0 := Kd.C_of_reads (d := (0 : Int)) (h1 := fun _ => rfl) hr0
  have h1 := Kd.C_of_reads (d := (0 : Int)) (h1 := fun _ => rfl) hr1
  have hb : ∀ x ∈ l1, 0 ≤ x ∧ x ≤ 255 := fun x hx => wf_u8 (hw1 x hx)
  by_cases c0 : l0.length ≤ 30
  · by_cases c1 : l1.length ≤ 120
    · exact walk0 _ _ l0 _ _ l1 w h0 hc0 h1 hc1 c0 c1 hb
    · exact walk1 _ _ l0 _ _ l1 w h0 hc0 h1 hc1 c0 (by omega) hb
  · by_cases c1 : l1.length ≤ 120
    · exact walk2 _ _ l0 _ _ l1 w h0 hc0 h1 hc1 (by omega) c1 hb
    · exact walk3 _ _ l0 _ _ l1 w h0 hc0 h1 hc1 (by omega) (by omega) hb
theorem own : ownKnob Try.prog.godebug = none := by kernel_rfl
theorem laidOut : laidOutB Try.prog = true := by kernel_rfl
def IsRow (k : IntKind) (w : World) (a : Option Addr) (len cap : Nat) (zs : List Int) : Prop :=
  (a = none ∧ len = 0 ∧ cap = 0 ∧ zs = []) ∨
  ∃ x, a = some x ∧ len ≤ cap ∧ cap ≤ maxLen ∧ zs.length = cap ∧ (∀ i, i < zs.length → w.cell? (x.add i) = some (.int k (zs.getD i 0))) ∧ ∀ n ∈ zs, (Lit.int k n).wf = true
set_option maxRecDepth 100000 in
theorem lifted (os : Os) (started : os.Started) (H : Type) (enc : TypeId × Value → H) :
    ReturnsInHanded {} Try.checked os 4 .any (Rows.blockTellsSpec.pre6 enc Try.prog Try.f4 Rows.blockTellsRow.domain false) (Rows.blockTellsSpec.post enc Try.prog Try.f4 false true false false) := by
  refine returnsInHanded_of_change_sized (C := Try.checked) own started (by kernel_rfl) Try.func4
    (ChangeSpec.witness6 (enc := enc) (C := Try.checked) false ⟨#[], #[.slice none 0 0, .slice none 0 0], []⟩ 8 (by kernel_rfl) (by kernel_rfl) (by kernel_rfl) (by kernel_rfl)) ?_
  intro W base args ds gs before hval0 hW hcnd hsz0 _
  have hsz : (DataW.weightsEach Try.prog (Try.f4.params.toList ++ Rows.blockTellsSpec.plain.varTypes Try.prog) (ds ++ gs)).all (· ≤ reachBytes) = true := hsz0
  have hval : ∀ (j : Nat) t v, Try.f4.params[j]? = some t → args[j]? = some v → Value.okWide Try.prog W .any base t v := hval0
  have hW' := hW
  obtain ⟨p, q, hA0, hV, rfl, hfz, hnd⟩ := hW
  have hA : DataW.TrodAll enc Try.prog W 0 (fun _ => true) true Try.f4.params.toList args.toList ds p := hA0
  rw [Try.params4] at hA hval hsz
  obtain ⟨v0, vs0, d0, ds0, p0, q0, hargs, rfl, rfl, h0, r0⟩ := trodAll_cons hA
  obtain ⟨v1, vs1, d1, ds1, p1, q1, rfl, rfl, rfl, h1, r1⟩ := trodAll_cons r0
  obtain ⟨rfl, rfl, rfl⟩ := trodAll_nil r1
  obtain rfl : args = #[v0, v1] := by cases args; simp_all
  obtain ⟨rfl, rfl⟩ := trodVars_none hV
  obtain ⟨a0, len0, cap0, rfl⟩ := okWide_slice Try.underlying22 (hval 0 22 v0 rfl rfl)
  have k0 := h0
  have lt0 : ∀ x ∈ p0, x.block < W.heap.size := by obtain ⟨m, hm⟩ := k0; exact DataW.trod_lt m _ _ _ hm
  obtain ⟨z0, w0⟩ : ∃ zs, IsRow .i64 W a0 len0 cap0 zs := by
    obtain ⟨fuel, hf⟩ := h0
    rcases open_ints Try.underlying22 Try.underlying3 (by kernel_rfl) hf with ⟨hcs, _⟩ | ⟨x, l, c, zs, hcs, _, hl, hm, hz, _, hcell, hwz⟩
    · simp [Value.cells] at hcs
      obtain ⟨rfl, rfl, rfl⟩ := hcs
      exact ⟨[], .inl ⟨rfl, rfl, rfl, rfl⟩⟩
    · simp [Value.cells] at hcs
      obtain ⟨rfl, rfl, rfl⟩ := hcs
      exact ⟨zs, .inr ⟨_, rfl, hl, hm, by simpa using hz, hcell, hwz⟩⟩
  have y0 : len0 * 8 ≤ 140737488351232 := Go.Proofs.YtjfkofomhpokcaaW.PrintWords.sized_ints hsz (j := 0) (t := 22) rfl rfl Try.underlying22 Try.underlying3 (by kernel_rfl) (by kernel_rfl) h0
  obtain ⟨a1, len1, cap1, rfl⟩ := okWide_slice Try.underlying26 (hval 1 26 v1 rfl rfl)
  have k1 := h1
  have lt1 : ∀ x ∈ p1, x.block < W.heap.size := by obtain ⟨m, hm⟩ := k1; exact DataW.trod_lt m _ _ _ hm
  obtain ⟨z1, w1⟩ : ∃ zs, IsRow .u8 W a1 len1 cap1 zs := by
    obtain ⟨fuel, hf⟩ := h1
    rcases open_ints Try.underlying26 Try.underlying5 (by kernel_rfl) hf with ⟨hcs, _⟩ | ⟨x, l, c, zs, hcs, _, hl, hm, hz, _, hcell, hwz⟩
    · simp [Value.cells] at hcs
      obtain ⟨rfl, rfl, rfl⟩ := hcs
      exact ⟨[], .inl ⟨rfl, rfl, rfl, rfl⟩⟩
    · simp [Value.cells] at hcs
      obtain ⟨rfl, rfl, rfl⟩ := hcs
      exact ⟨zs, .inr ⟨_, rfl, hl, hm, by simpa using hz, hcell, hwz⟩⟩
  have y1 : len1 * 1 ≤ 140737488351232 := Go.Proofs.YtjfkofomhpokcaaW.PrintWords.sized_ints hsz (j := 1) (t := 26) rfl rfl Try.underlying26 Try.underlying5 (by kernel_rfl) (by kernel_rfl) h1
  clear hA0 hval0 hsz0 hsz
  refine (walk a0 len0 cap0 z0 a1 len1 cap1 z1 W w0 y0 w1 y1).mono fun e W' ⟨he, bel⟩ => ?_
  subst he
  exact ⟨_, rfl, _, _, _, [], _, [], hW', trodAll_mk1 (shut_bool Try.underlying4 _), (trodAll_cons_mk (Below.trod laidOut (by kernel_rfl) (of_decide_eq_true (by kernel_rfl)) k0 bel lt0) (trodAll_cons_mk (Below.trod laidOut (by kernel_rfl) (of_decide_eq_true (by kernel_rfl)) k1 bel lt1) trodAll_mk0)), rfl, bel.frame _, fun h => by cases h⟩
theorem over : Rows.blockTellsRow.holds Try.pinned (OpenSpec.ofChange Rows.blockTellsSpec) :=
  OpenClaim.holds_of_wide 4 Try.f4 rfl rfl rfl rfl rfl rfl rfl ⟨rfl, rfl, rfl, rfl, rfl⟩ rfl rfl rfl rfl rfl (by kernel_rfl) Try.func4 (by kernel_rfl)
    (of_decide_eq_true (by kernel_rfl)) (by unfold Func.isWrapper; first | (rw [if_pos (by decide +kernel)]; kernel_rfl) | (rw [if_neg (by decide +kernel)]; exact ⟨rfl, rfl⟩))
    (fun os started H enc _ => lifted os started H enc)
theorem proved : Rows.BlockTellsSaid := over
#print axioms proved
end Go.Proofs.Ytjfkofomhpokcaa.blockTells
namespace Go.Proofs.Ytjfkofomhpokcaa
/-- The row, under a short name, for the claim. -/
theorem blockTells_holds : Rows.BlockTellsSaid := blockTells.proved
end Go.Proofs.Ytjfkofomhpokcaa
