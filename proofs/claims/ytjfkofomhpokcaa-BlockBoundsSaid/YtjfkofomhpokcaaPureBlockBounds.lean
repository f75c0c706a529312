/- tendrillaw19.BlockBounds returns true for every input; no condition. -/
import Derived.Test.YtjfkofomhpokcaaPBlockBoundsx3
import Derived.Test.YtjfkofomhpokcaaBlk
namespace Go.Proofs.Ytjfkofomhpokcaa.Pure
open Go.RowKit Go.Bx Go.Bl Go.Proofs.Ytjfkofomhpokcaa.PBlockBounds Go.Proofs.YtjfkofomhpokcaaW.PrintWords Go.Proofs.YtjfkofomhpokcaaW.PrintLast

theorem rd_at (l : List Int) (i : Nat) (h : i < l.length) : rd l (i : Int) = l[i] := by
  unfold rd; rw [Int.toNat_natCast]; exact (List.getElem_eq_getD 0).symm

theorem slices_Equal_byte_byte_l (d : Nat) : ∀ (k : Nat) (x y : List Int) (i : Nat), x.length = y.length → x.length - i = d → i ≤ x.length → d < k → x.length ≤ 9223372036854775806 → slices_Equal_byte_byte.l0 k x y (x.length : Int) (i : Int) = some (decide (x.drop i = y.drop i)) := by
  induction d with
  | zero =>
    intro k x y i hxy hi hle hk hm
    obtain ⟨k, rfl⟩ : ∃ m, k = m + 1 := ⟨k - 1, by omega⟩
    simp only [slices_Equal_byte_byte.l0]
    rw [if_neg (by omega), List.drop_of_length_le (by omega), List.drop_of_length_le (by omega)]; simp
  | succ d ih =>
    intro k x y i hxy hi hle hk hm
    obtain ⟨k, rfl⟩ : ∃ m, k = m + 1 := ⟨k - 1, by omega⟩
    simp only [slices_Equal_byte_byte.l0]
    have h1 : i < x.length := by omega
    have h2 : i < y.length := by omega
    rw [if_pos (by omega), if_pos (by omega), if_pos (by omega), if_pos (by omega), rd_at x i h1, rd_at y i h2, show wrap64 ((i : Int) + 1) = ((i + 1 : Nat) : Int) from by unfold wrap64; omega]
    rw [List.drop_eq_getElem_cons h1, List.drop_eq_getElem_cons h2]
    by_cases e : x[i] = y[i]
    · rw [if_pos e, ih k x y (i + 1) hxy (by omega) (by omega) (by omega) hm]
      congr 1; rw [decide_eq_decide, List.cons.injEq]; exact ⟨fun h => ⟨e, h⟩, fun h => h.2⟩
    · rw [if_neg e]; congr 1; symm; rw [decide_eq_false_iff_not, List.cons.injEq]; exact fun h => e h.1
theorem slices_Equal_byte_byte_f (k : Nat) (x y : List Int) (hk : x.length < k) (hm : x.length ≤ 9223372036854775806) : slices_Equal_byte_byte.f k x y = some (decide (x = y)) := by
  unfold slices_Equal_byte_byte.f
  by_cases h : (x.length : Int) = (y.length : Int)
  · rw [if_pos h]
    have := slices_Equal_byte_byte_l x.length k x y 0 (by omega) (by omega) (by omega) (by omega) hm
    simpa using this
  · rw [if_neg h]; congr 1; symm; rw [decide_eq_false_iff_not]; intro e; exact h (by rw [e])

theorem number_l (d : Nat) : ∀ (k : Nat) (x : List Int) (n : Int), 0 ≤ n → n < pw (d + 1) → d ≤ 4 → d < k → x.length + d < 140737488355327 → block_number.l0 k x n = some (x ++ dig d n) := by
  induction d with
  | zero =>
    intro k x n h0 h1 _ hk hx
    have h1' : n < 128 := h1
    obtain ⟨k, rfl⟩ : ∃ m, k = m + 1 := ⟨k - 1, by omega⟩
    simp only [block_number.l0]
    rw [if_neg (by omega), if_pos (by omega), show n % 256 = n from by omega]; rfl
  | succ d ih =>
    intro k x n h0 h1 hd hk hx
    obtain ⟨k, rfl⟩ : ∃ m, k = m + 1 := ⟨k - 1, by omega⟩
    simp only [block_number.l0]
    by_cases h : n ≥ 128
    · rw [if_pos h, if_pos (by omega), piece_more n]
      rw [pw_succ (d + 1) (by omega)] at h1
      rw [ih k _ (n / 128) (by omega) (by omega) (by omega) (by omega) (by rw [List.length_append]; simp only [List.length_cons, List.length_nil]; omega)]
      congr 1; rw [dig, if_pos h]; simp
    · rw [if_neg h, if_pos (by omega), show n % 256 = n from by omega, dig, if_neg h]
theorem number_f (k : Nat) (x : List Int) (n : Int) (h0 : 0 ≤ n) (h1 : n < 34359738368) (hk : 4 < k) (hx : x.length < 140737488355000) : block_number.f k x n = some (x ++ dig 4 n) :=
  number_l 4 k x n h0 h1 (by decide) hk (by omega)
theorem right_l (l : List Int) (hl : l.length ≤ 140737488351232) (d : Nat) : ∀ (k i : Nat) (last : Int), l.length - i = d → i ≤ l.length → d < k → ((i = 0 ∧ last = -1) ∨ (0 < i ∧ last = rd l ((i : Int) - 1) ∧ 0 ≤ last)) →
    block_Right.l0 k l l (l.length : Int) (i : Int) = some (decide (Rises last (l.drop i) ∧ 1 ≤ l.length ∧ l.length ≤ 16)) := by
  induction d with
  | zero =>
    intro k i last hi hle hk _
    obtain ⟨k, rfl⟩ : ∃ m, k = m + 1 := ⟨k - 1, by omega⟩
    simp only [block_Right.l0]
    rw [if_neg (by omega), List.drop_of_length_le (by omega)]
    by_cases h1 : (l.length : Int) ≥ 1
    · rw [if_pos h1]; congr 1; rw [decide_eq_decide]
      constructor
      · intro h; exact ⟨trivial, by omega, by omega⟩
      · intro h; omega
    · rw [if_neg h1]; congr 1; symm; rw [decide_eq_false_iff_not]; omega
  | succ d ih =>
    intro k i last hi hle hk hlast
    obtain ⟨k, rfl⟩ : ∃ m, k = m + 1 := ⟨k - 1, by omega⟩
    simp only [block_Right.l0]
    have h1 : i < l.length := by omega
    rw [if_pos (by omega), if_pos (by omega), if_pos (by omega), rd_at l i h1, List.drop_eq_getElem_cons h1]
    have hno : ∀ P : Prop, ¬ P → (∀ Q : Prop, ¬ ((P ∧ Q) ∧ 1 ≤ l.length ∧ l.length ≤ 16)) := fun P hp Q h => hp h.1.1
    by_cases a1 : l[i] < 0
    · rw [if_pos a1]; congr 1; symm; rw [decide_eq_false_iff_not]
      rintro ⟨⟨z, _, _⟩, _⟩
      rcases hlast with h | h <;> omega
    rw [if_neg a1]
    by_cases a2 : l[i] > 1073741824
    · rw [if_pos a2]; congr 1; symm; rw [decide_eq_false_iff_not]
      rintro ⟨⟨_, z, _⟩, _⟩
      omega
    rw [if_neg a2]
    have next := ih k (i + 1) l[i] (by omega) (by omega) (by omega) (.inr ⟨by omega, by rw [show ((i + 1 : Nat) : Int) - 1 = (i : Int) from by omega, rd_at l i h1], by omega⟩)
    rw [show wrap64 ((i : Int) + 1) = ((i + 1 : Nat) : Int) from by unfold wrap64; omega]
    by_cases a3 : (i : Int) > 0
    · rcases hlast with h | h
      · omega
      rw [if_pos a3, show wrap64 ((i : Int) - 1) = (i : Int) - 1 from by unfold wrap64; omega, if_pos (by omega), if_pos (by omega), ← h.2.1]
      by_cases a4 : l[i] ≤ last
      · rw [if_pos a4]; congr 1; symm; rw [decide_eq_false_iff_not]
        rintro ⟨⟨z, _, _⟩, _⟩
        omega
      · rw [if_neg a4, next]; congr 1; rw [decide_eq_decide]
        exact ⟨fun z => ⟨⟨by omega, by omega, z.1⟩, z.2⟩, fun z => ⟨z.1.2.2, z.2⟩⟩
    · rw [if_neg a3, next]; congr 1; rw [decide_eq_decide]
      rcases hlast with h | h
      · exact ⟨fun z => ⟨⟨by omega, by omega, z.1⟩, z.2⟩, fun z => ⟨z.1.2.2, z.2⟩⟩
      · omega
theorem right_f (k : Nat) (l : List Int) (hl : l.length ≤ 140737488351232) (hk : l.length < k) : block_Right.f k l = some (decide (Rt l)) := by
  unfold block_Right.f
  have := right_l l hl l.length k 0 (-1) (by omega) (by omega) hk (.inl ⟨rfl, rfl⟩)
  rw [show ((0 : Nat) : Int) = 0 from rfl, List.drop_zero] at this
  exact this
theorem encode_l (l : List Int) (hl : l.length ≤ 16) (d : Nat) : ∀ (k i : Nat) (out : List Int) (last : Int), l.length - i = d → i ≤ l.length → d + 5 < k → -1 ≤ last → last ≤ 1073741824 → Rises last (l.drop i) → out.length + 5 * d < 140737488350000 →
    block_Encode.l0 k out last l (l.length : Int) (i : Int) = some (out ++ enc last (l.drop i)) := by
  induction d with
  | zero =>
    intro k i out last hi hle hk _ _ _ _
    obtain ⟨k, rfl⟩ : ∃ m, k = m + 1 := ⟨k - 1, by omega⟩
    simp only [block_Encode.l0]
    rw [if_neg (by omega), List.drop_of_length_le (by omega)]; simp [enc]
  | succ d ih =>
    intro k i out last hi hle hk b0 b1 hr ho
    obtain ⟨k, rfl⟩ : ∃ m, k = m + 1 := ⟨k - 1, by omega⟩
    simp only [block_Encode.l0]
    have h1 : i < l.length := by omega
    rw [List.drop_eq_getElem_cons h1] at hr ⊢
    obtain ⟨r1, r2, r3⟩ := hr
    rw [if_pos (by omega), if_pos (by omega), if_pos (by omega), rd_at l i h1]
    rw [show wrap64 (wrap64 (l[i] - last) - 1) = l[i] - last - 1 from by unfold wrap64; omega]
    rw [number_f k out _ (by omega) (by omega) (by omega) (by omega)]; simp only [Option.bind_some]
    rw [show wrap64 ((i : Int) + 1) = ((i + 1 : Nat) : Int) from by unfold wrap64; omega]
    have hd := dig_len 4 (l[i] - last - 1)
    rw [ih k (i + 1) _ l[i] (by omega) (by omega) (by omega) (by omega) (by omega) r3 (by rw [List.length_append]; omega)]
    congr 1; rw [enc]; simp
theorem encode_f (k : Nat) (l : List Int) (hl : l.length ≤ 140737488351232) (hk : l.length < k) (hk2 : 30 < k) : block_Encode.f k l = some (if Rt l then enc (-1) l else []) := by
  unfold block_Encode.f
  rw [right_f k l hl hk]; simp only [Option.bind_some, decide_eq_true_eq]
  by_cases h : Rt l
  · have h2 := h.2.2
    rw [if_pos h, if_pos h]
    have := encode_l l h2 l.length k 0 [] (-1) (by omega) (by omega) (by omega) (by omega) (by omega) (by rw [List.drop_zero]; exact h.1) (by simp only [List.length_nil]; omega)
    rw [show ((0 : Nat) : Int) = 0 from rfl, List.drop_zero, List.nil_append] at this
    exact this
  · rw [if_neg h, if_neg h]
theorem next_step (k : Nat) (l : List Int) (n : Int) (i : Nat) (h1 : i < l.length) (h2 : i < 5) (n0 : 0 ≤ n) (n1 : n < pw i) (hb : 0 ≤ l[i] ∧ l[i] ≤ 255) (_hl : l.length ≤ 140737488351232) :
    block_next.l0 (k + 2) l n (i : Int) = if l[i] < 128 then some (n + l[i] % 128 * pw i, l.drop (i + 1), true) else block_next.l0 k l (n + l[i] % 128 * pw i) ((i + 1 : Nat) : Int) := by
  rw [show k + 2 = (k + 1) + 1 from rfl]
  simp only [block_next.l0]
  rw [if_pos (by omega), decide_eq_true (by omega)]
  simp only [block_next.j1, if_true]
  have e3 : IntKind.u64.wrap (wrap64 (7 * (i : Int))) = ((7 * i : Nat) : Int) := by rw [wrap_u64]; unfold wrap64; omega
  rw [if_pos (by omega), if_pos (by omega), if_pos (by rw [e3]; omega), rd_at l i h1]
  unfold shl
  rw [show IntKind.i64.bits = 64 from rfl, piece_add n l[i] i h2 n0 n1 hb.1 hb.2, show wrap64 ((i : Int) + 1) = ((i + 1 : Nat) : Int) from by unfold wrap64; omega]
  by_cases c : l[i] < 128
  · rw [if_pos c, if_pos c, if_pos (by omega), if_pos (by omega), Int.toNat_natCast]
  · rw [if_neg c, if_neg c]
theorem next_stop (k : Nat) (l : List Int) (n : Int) (i : Nat) (h : ¬ (i < l.length ∧ i < 5)) : block_next.l0 (k + 2) l n (i : Int) = some (0, [], false) := by
  rw [show k + 2 = (k + 1) + 1 from rfl]
  simp only [block_next.l0]
  by_cases h1 : (i : Int) < l.length
  · rw [if_pos h1, decide_eq_false (by omega)]; simp only [block_next.j1, Bool.false_eq_true, if_false]
  · rw [if_neg h1]; simp only [block_next.j1, Bool.false_eq_true, if_false]
theorem next_dig (l rest : List Int) (hl : l.length ≤ 140737488351232) (d : Nat) : ∀ (k i : Nat) (n m : Int), i + d ≤ 4 → l.drop i = dig d m ++ rest → 0 ≤ m → m < pw (d + 1) → 0 ≤ n → n < pw i → 2 * (d + 1) ≤ k →
    block_next.l0 k l n (i : Int) = some (n + m * pw i, rest, true) := by
  induction d with
  | zero =>
    intro k i n m hi hd m0 m1 n0 n1 hk
    have m1' : m < 128 := m1
    obtain ⟨k, rfl⟩ : ∃ z, k = z + 2 := ⟨k - 2, by omega⟩
    have hlen : i < l.length := by
      have := congrArg List.length hd; rw [List.length_drop, List.length_append] at this; simp only [dig, List.length_cons, List.length_nil] at this; omega
    rw [List.drop_eq_getElem_cons hlen] at hd
    obtain ⟨e1, e2⟩ := List.cons.inj hd
    rw [next_step k l n i hlen (by omega) n0 n1 (by rw [e1]; omega) hl, e1, if_pos (by omega), e2, show m % 128 = m from by omega]; rfl
  | succ d ih =>
    intro k i n m hi hd m0 m1 n0 n1 hk
    obtain ⟨k, rfl⟩ : ∃ z, k = z + 2 := ⟨k - 2, by omega⟩
    rw [pw_succ (d + 1) (by omega)] at m1
    have hlen : i < l.length := by
      have h3 := List.length_pos_iff.2 (dig_ne (d + 1) m)
      have := congrArg List.length hd; rw [List.length_drop, List.length_append] at this; omega
    rw [List.drop_eq_getElem_cons hlen] at hd
    by_cases h : m ≥ 128
    · rw [dig, if_pos h] at hd
      obtain ⟨e1, e2⟩ := List.cons.inj hd
      have e3 : (m % 128 + 128) % 128 = m % 128 := by omega
      have hb := piece_bound n (m % 128) i (by omega) n0 n1 (by omega)
      rw [show m % 128 % 128 = m % 128 from by omega] at hb
      rw [next_step k l n i hlen (by omega) n0 n1 (by rw [e1]; omega) hl, e1, if_neg (by omega), e3]
      rw [ih k (i + 1) _ (m / 128) (by omega) e2 (by omega) (by omega) hb.1 hb.2 (by omega), pw_succ i (by omega)]
      have e4 : n + m % 128 * pw i + m / 128 * (128 * pw i) = n + m * pw i := by
        have e5 : m / 128 * (128 * pw i) = (128 * (m / 128)) * pw i := by rw [← Int.mul_assoc, Int.mul_comm (m / 128) 128]
        rw [e5, Int.add_assoc, ← Int.add_mul, show m % 128 + 128 * (m / 128) = m from by omega]
      rw [e4]
    · rw [dig, if_neg h] at hd
      obtain ⟨e1, e2⟩ := List.cons.inj hd
      rw [next_step k l n i hlen (by omega) n0 n1 (by rw [e1]; omega) hl, e1, if_pos (by omega), e2, show m % 128 = m from by omega]; rfl
theorem next_any (l : List Int) (hl : l.length ≤ 140737488351232) (hb : ∀ x ∈ l, 0 ≤ x ∧ x ≤ 255) (d : Nat) : ∀ (k i : Nat) (n : Int), 5 - i = d → i ≤ 5 → 0 ≤ n → n < pw i → 2 * (d + 1) ≤ k →
    ∃ m bh ok, block_next.l0 k l n (i : Int) = some (m, bh, ok) ∧ (ok = true → ∃ j, i < j ∧ j ≤ l.length ∧ bh = l.drop j) := by
  induction d with
  | zero =>
    intro k i n hi hle n0 n1 hk
    obtain ⟨k, rfl⟩ : ∃ z, k = z + 2 := ⟨k - 2, by omega⟩
    exact ⟨_, _, _, next_stop k l n i (by omega), fun h => by cases h⟩
  | succ d ih =>
    intro k i n hi hle n0 n1 hk
    obtain ⟨k, rfl⟩ : ∃ z, k = z + 2 := ⟨k - 2, by omega⟩
    by_cases h : i < l.length
    · have hbi := hb l[i] (List.getElem_mem h)
      rw [next_step k l n i h (by omega) n0 n1 hbi hl]
      by_cases h2 : l[i] < 128
      · rw [if_pos h2]; exact ⟨_, _, _, rfl, fun _ => ⟨i + 1, by omega, by omega, rfl⟩⟩
      · rw [if_neg h2]
        have hp := piece_bound n l[i] i (by omega) n0 n1 (by omega)
        obtain ⟨m, bh, ok, e, z⟩ := ih k (i + 1) _ (by omega) (by omega) hp.1 hp.2 (by omega)
        refine ⟨m, bh, ok, e, fun ho => ?_⟩
        obtain ⟨j, j1, j2, j3⟩ := z ho
        exact ⟨j, by omega, j2, j3⟩
    · exact ⟨_, _, _, next_stop k l n i (by omega), fun h => by cases h⟩
theorem dec_right (b : List Int) (hbl : b.length ≤ 140737488351232) (xs : List Int) : ∀ (k : Nat) (pre : List Int) (last : Int), pre.length + xs.length ≤ 16 → Rt (pre ++ xs) → b = enc (-1) (pre ++ xs) → Rises last xs → -1 ≤ last → last ≤ 1073741824 → xs.length < k →
    block_Decode.l0 k b pre last (enc last xs) = some (pre ++ xs, 0) := by
  induction xs with
  | nil =>
    intro k pre last hlen hr hb _ _ _ hk
    obtain ⟨k, rfl⟩ : ∃ m, k = m + 1 := ⟨k - 1, by omega⟩
    rw [show enc last [] = [] from rfl]
    simp only [block_Decode.l0]
    rw [List.append_nil] at hr hb ⊢
    have h1 := hr.2
    have hz : ¬ ((([] : List Int).length : Int) > 0) := by rw [List.length_nil]; omega
    rw [if_neg hz, if_neg (by omega), encode_f 1000 pre (by omega) (by omega) (by omega), if_pos hr, ← hb]; simp only [Option.bind_some]
    have hbs : b.length ≤ 80 := by rw [hb]; have := enc_len (-1) pre; omega
    rw [slices_Equal_byte_byte_f 1000 b b (by omega) (by omega)]; simp
  | cons x xs ih =>
    intro k pre last hlen hr hb hri b0 b1 hk
    obtain ⟨k, rfl⟩ : ∃ m, k = m + 1 := ⟨k - 1, by omega⟩
    simp only [block_Decode.l0]
    obtain ⟨r1, r2, r3⟩ := hri
    have hne : 0 < (enc last (x :: xs)).length := by
      unfold enc; rw [List.length_append]; have := List.length_pos_iff.2 (dig_ne 4 (x - last - 1)); omega
    have hel := enc_len last (x :: xs)
    rw [List.length_cons] at hlen hel
    rw [if_pos (by omega)]
    have hn := next_dig (enc last (x :: xs)) (enc x xs) (by omega) 4 20 0 0 (x - last - 1) (by omega) (by rw [List.drop_zero]; rfl) (by omega) (by show _ < (34359738368 : Int); omega) (by omega) (by decide) (by omega)
    unfold block_next.f
    rw [show ((0 : Nat) : Int) = 0 from rfl] at hn
    rw [hn]; simp only [Option.bind_some, if_true]
    rw [if_neg (by omega), show (0 : Int) + (x - last - 1) * pw 0 = x - last - 1 from by show (0 : Int) + (x - last - 1) * 1 = _; omega, show wrap64 (last + wrap64 (x - last - 1 + 1)) = x from by unfold wrap64; omega]
    have happ : pre ++ x :: xs = (pre ++ [x]) ++ xs := by simp
    rw [happ] at hr hb ⊢
    exact ih k (pre ++ [x]) x (by rw [List.length_append]; simp only [List.length_cons, List.length_nil]; omega) hr hb r3 (by omega) (by omega) (by rw [List.length_cons] at hk; omega)
theorem dec_any (b : List Int) (hbl : b.length ≤ 140737488351232) (d : Nat) : ∀ (k : Nat) (pre : List Int) (last : Int) (rest : List Int), rest.length = d → d < k → pre.length ≤ 16 → (∀ x ∈ rest, 0 ≤ x ∧ x ≤ 255) → rest.length ≤ b.length → (pre ≠ [] → b ≠ []) →
    ∃ r, block_Decode.l0 k b pre last rest = some r ∧ (r = ([], 5) ∨ (r.2 = 0 ∧ Rt r.1 ∧ b = enc (-1) r.1)) := by
  induction d using Nat.strongRecOn with
  | _ d ih =>
    intro k pre last rest hd hk hp hb hrb hpb
    obtain ⟨k, rfl⟩ : ∃ m, k = m + 1 := ⟨k - 1, by omega⟩
    simp only [block_Decode.l0]
    by_cases h : (rest.length : Int) > 0
    · rw [if_pos h]
      obtain ⟨m, bh, ok, e, z⟩ := next_any rest (by omega) hb 5 20 0 0 (by omega) (by omega) (by omega) (by decide) (by omega)
      unfold block_next.f
      rw [show ((0 : Nat) : Int) = 0 from rfl] at e
      rw [e]; simp only [Option.bind_some]
      cases ok with
      | false => exact ⟨_, by simp only [Bool.false_eq_true, if_false], .inl rfl⟩
      | true =>
        obtain ⟨j, j1, j2, rfl⟩ := z rfl
        simp only [if_true]
        by_cases h16 : (pre.length : Int) = 16
        · rw [if_pos h16]; exact ⟨_, rfl, .inl rfl⟩
        · rw [if_neg h16]
          refine ih (rest.drop j).length (by rw [List.length_drop]; omega) k _ _ (rest.drop j) rfl (by rw [List.length_drop]; omega) (by rw [List.length_append]; simp only [List.length_cons, List.length_nil]; omega) (fun x hx => hb x (List.mem_of_mem_drop hx)) (by rw [List.length_drop]; omega) ?_
          intro _ e2; rw [e2] at hrb; simp at hrb; rw [hrb] at h; simp at h
    · rw [if_neg h]
      by_cases h0 : (pre.length : Int) = 0
      · rw [if_pos h0]; exact ⟨_, rfl, .inl rfl⟩
      · rw [if_neg h0, encode_f 1000 pre (by omega) (by omega) (by omega)]; simp only [Option.bind_some]
        have hpne : pre ≠ [] := fun e => h0 (by rw [e]; rfl)
        have hlen : (if Rt pre then enc (-1) pre else []).length ≤ 80 := by
          split
          · have := enc_len (-1) pre; omega
          · simp
        rw [slices_Equal_byte_byte_f 1000 _ b (by omega) (by omega)]; simp only [Option.bind_some, decide_eq_true_eq]
        by_cases heq : (if Rt pre then enc (-1) pre else []) = b
        · rw [if_pos heq]
          refine ⟨_, rfl, .inr ⟨rfl, ?_, ?_⟩⟩
          · by_cases hr : Rt pre
            · exact hr
            · rw [if_neg hr] at heq; exact absurd heq.symm (hpb hpne)
          · by_cases hr : Rt pre
            · rw [if_pos hr] at heq; exact heq.symm
            · rw [if_neg hr] at heq; exact absurd heq.symm (hpb hpne)
        · rw [if_neg heq]; exact ⟨_, rfl, .inl rfl⟩
theorem decode_any (b : List Int) (hbl : b.length ≤ 140737488351232) (hb : ∀ x ∈ b, 0 ≤ x ∧ x ≤ 255) : ∃ r, block_Decode.f b = some r ∧ (r = ([], 5) ∨ (r.2 = 0 ∧ Rt r.1 ∧ b = enc (-1) r.1)) :=
  dec_any b hbl b.length (b.length + 1) [] (-1) b rfl (by omega) (by decide) hb (Nat.le_refl _) (fun h => absurd rfl h)
theorem decode_right (l : List Int) (h : Rt l) : block_Decode.f (enc (-1) l) = some (l, 0) := by
  have hel := enc_len (-1) l
  have h2 := h.2.2
  unfold block_Decode.f
  have := dec_right (enc (-1) l) (by omega) l ((enc (-1) l).length + 1) [] (-1) (by rw [List.length_nil]; omega) (by rw [List.nil_append]; exact h) rfl h.1 (by omega) (by omega)
  rw [List.nil_append] at this
  refine this ?_
  clear this hel h2
  have : ∀ (last : Int) (xs : List Int), xs.length ≤ (enc last xs).length := by
    intro last xs
    induction xs generalizing last with
    | nil => simp
    | cons x xs ih => unfold enc; rw [List.length_append, List.length_cons]; have := ih x; have := List.length_pos_iff.2 (dig_ne 4 (x - last - 1)); omega
  have := this (-1) l
  omega

theorem tendrilbook_Same_byte_l (d : Nat) : ∀ (k : Nat) (x y : List Int) (i : Nat), x.length = y.length → x.length - i = d → i ≤ x.length → d < k → x.length ≤ 9223372036854775806 → tendrilbook_Same_byte.l0 k x y (i : Int) = some (decide (x.drop i = y.drop i)) := by
  induction d with
  | zero =>
    intro k x y i hxy hi hle hk hm
    obtain ⟨k, rfl⟩ : ∃ m, k = m + 1 := ⟨k - 1, by omega⟩
    simp only [tendrilbook_Same_byte.l0]
    rw [if_neg (by omega), List.drop_of_length_le (by omega), List.drop_of_length_le (by omega)]; simp
  | succ d ih =>
    intro k x y i hxy hi hle hk hm
    obtain ⟨k, rfl⟩ : ∃ m, k = m + 1 := ⟨k - 1, by omega⟩
    simp only [tendrilbook_Same_byte.l0]
    have h1 : i < x.length := by omega
    have h2 : i < y.length := by omega
    rw [if_pos (by omega), if_pos (by omega), if_pos (by omega), rd_at x i h1, rd_at y i h2, show wrap64 ((i : Int) + 1) = ((i + 1 : Nat) : Int) from by unfold wrap64; omega]
    rw [List.drop_eq_getElem_cons h1, List.drop_eq_getElem_cons h2]
    by_cases e : x[i] = y[i]
    · rw [if_pos e, ih k x y (i + 1) hxy (by omega) (by omega) (by omega) hm]
      congr 1; rw [decide_eq_decide, List.cons.injEq]; exact ⟨fun h => ⟨e, h⟩, fun h => h.2⟩
    · rw [if_neg e]; congr 1; symm; rw [decide_eq_false_iff_not, List.cons.injEq]; exact fun h => e h.1
theorem tendrilbook_Same_byte_f (k : Nat) (x y : List Int) (hk : x.length < k) (hm : x.length ≤ 9223372036854775806) : tendrilbook_Same_byte.f k x y = some (decide (x = y)) := by
  unfold tendrilbook_Same_byte.f
  by_cases h : (x.length : Int) = (y.length : Int)
  · rw [if_pos h]
    have := tendrilbook_Same_byte_l x.length k x y 0 (by omega) (by omega) (by omega) (by omega) hm
    simpa using this
  · rw [if_neg h]; congr 1; symm; rw [decide_eq_false_iff_not]; intro e; exact h (by rw [e])

theorem tendrilbook_Same_int_l (d : Nat) : ∀ (k : Nat) (x y : List Int) (i : Nat), x.length = y.length → x.length - i = d → i ≤ x.length → d < k → x.length ≤ 9223372036854775806 → tendrilbook_Same_int.l0 k x y (i : Int) = some (decide (x.drop i = y.drop i)) := by
  induction d with
  | zero =>
    intro k x y i hxy hi hle hk hm
    obtain ⟨k, rfl⟩ : ∃ m, k = m + 1 := ⟨k - 1, by omega⟩
    simp only [tendrilbook_Same_int.l0]
    rw [if_neg (by omega), List.drop_of_length_le (by omega), List.drop_of_length_le (by omega)]; simp
  | succ d ih =>
    intro k x y i hxy hi hle hk hm
    obtain ⟨k, rfl⟩ : ∃ m, k = m + 1 := ⟨k - 1, by omega⟩
    simp only [tendrilbook_Same_int.l0]
    have h1 : i < x.length := by omega
    have h2 : i < y.length := by omega
    rw [if_pos (by omega), if_pos (by omega), if_pos (by omega), rd_at x i h1, rd_at y i h2, show wrap64 ((i : Int) + 1) = ((i + 1 : Nat) : Int) from by unfold wrap64; omega]
    rw [List.drop_eq_getElem_cons h1, List.drop_eq_getElem_cons h2]
    by_cases e : x[i] = y[i]
    · rw [if_pos e, ih k x y (i + 1) hxy (by omega) (by omega) (by omega) hm]
      congr 1; rw [decide_eq_decide, List.cons.injEq]; exact ⟨fun h => ⟨e, h⟩, fun h => h.2⟩
    · rw [if_neg e]; congr 1; symm; rw [decide_eq_false_iff_not, List.cons.injEq]; exact fun h => e h.1
theorem tendrilbook_Same_int_f (k : Nat) (x y : List Int) (hk : x.length < k) (hm : x.length ≤ 9223372036854775806) : tendrilbook_Same_int.f k x y = some (decide (x = y)) := by
  unfold tendrilbook_Same_int.f
  by_cases h : (x.length : Int) = (y.length : Int)
  · rw [if_pos h]
    have := tendrilbook_Same_int_l x.length k x y 0 (by omega) (by omega) (by omega) (by omega) hm
    simpa using this
  · rw [if_neg h]; congr 1; symm; rw [decide_eq_false_iff_not]; intro e; exact h (by rw [e])

theorem runs_f (k : Nat) (hk : 1000 ≤ k) : tendrillaw19_BlockRuns.f k = some true := by
  unfold tendrillaw19_BlockRuns.f
  have hr : Rt [5, 6, 200] := by decide
  have e1 : enc (-1) [5, 6, 200] = [5, 0, 193, 1] := by decide
  have d1 := decode_right [5, 6, 200] hr
  rw [e1] at d1
  obtain ⟨r, hd, hc⟩ := decode_any [128, 0] (by decide) (by decide)
  have hr5 : r = ([], 5) := by
    rcases hc with h | ⟨_, h, e⟩
    · exact h
    · exfalso
      have h3 := decode_right r.1 h
      rw [← e] at h3
      have h4 : block_Decode.f [128, 0] = some ([], 5) := by decide +kernel
      rw [h4] at h3
      injection h3 with h3; injection h3 with h3 h5; exact absurd h5 (by decide)
  rw [d1, hd, hr5]; simp only [Option.bind_some]
  rw [encode_f k _ (by decide) (by simp only [List.length_cons, List.length_nil]; omega) (by omega), if_pos hr, e1]; simp only [Option.bind_some]
  rw [tendrilbook_Same_byte_f k _ _ (by simp only [List.length_cons, List.length_nil]; omega) (by decide), tendrilbook_Same_int_f k _ _ (by simp only [List.length_cons, List.length_nil]; omega) (by decide)]
  simp
theorem within_f (n hi : Int) (h0 : 0 ≤ hi) (h1 : hi ≤ 1099511627776) :
    ∃ r, (if (wrap64 ((wrap64 (hi - 0)) + 1)) = 0 then (none) else (if (Int.tmod n (wrap64 ((wrap64 (hi - 0)) + 1))) < 0 then (some (wrap64 (0 + (wrap64 ((wrap64 ((wrap64 ((Int.tmod n (wrap64 ((wrap64 (hi - 0)) + 1))) + hi)) - 0)) + 1))))) else (some (wrap64 (0 + (Int.tmod n (wrap64 ((wrap64 (hi - 0)) + 1))))))) : Option Int) = some r ∧ 0 ≤ r ∧ r ≤ hi := by
  have e : wrap64 (wrap64 (hi - 0) + 1) = hi + 1 := by unfold wrap64; omega
  rw [e, if_neg (by omega)]
  have t1 : Int.tmod n (hi + 1) < hi + 1 := by
    have := Int.tmod_lt_of_pos n (show 0 < hi + 1 by omega); omega
  have t2 : -(hi + 1) < Int.tmod n (hi + 1) := by
    have := Int.lt_tmod_of_pos n (show 0 < hi + 1 by omega); omega
  by_cases hneg : Int.tmod n (hi + 1) < 0
  · rw [if_pos hneg]
    refine ⟨Int.tmod n (hi + 1) + hi + 1, ?_, by omega, by omega⟩
    congr 1
    unfold wrap64; omega
  · rw [if_neg hneg]
    refine ⟨Int.tmod n (hi + 1), ?_, by omega, by omega⟩
    congr 1
    unfold wrap64; omega

theorem within_fits (n hi : Int) (h0 : 0 ≤ hi) (h1 : hi ≤ 1099511627776) : ∃ r, tendrilbook_Within.f n 0 hi = some r ∧ 0 ≤ r ∧ r ≤ hi := within_f n hi h0 h1

theorem dig_cut (m m' : Int) (r r' : List Int) (h : dig 4 m ++ r = dig 4 m' ++ r') (hl : (dig 4 m ++ r).length ≤ 140737488351232) (m0 : 0 ≤ m) (m1 : m < 34359738368) (m0' : 0 ≤ m') (m1' : m' < 34359738368) : m = m' ∧ r = r' := by
  have a := next_dig (dig 4 m ++ r) r hl 4 20 0 0 m (by omega) (by rw [List.drop_zero]) m0 m1 (by omega) (by decide) (by omega)
  have b := next_dig (dig 4 m ++ r) r' hl 4 20 0 0 m' (by omega) (by rw [List.drop_zero, h]) m0' m1' (by omega) (by decide) (by omega)
  rw [a] at b
  injection b with b
  simp only [Prod.mk.injEq, and_true] at b
  have e : pw 0 = 1 := rfl
  rw [e] at b
  exact ⟨by omega, b.2⟩
theorem enc_prefix (x : List Int) : ∀ (l : List Int) (last : Int) (r : List Int), Rises last x → Rises last l → -1 ≤ last → last ≤ 1073741824 → enc last x ++ r = enc last l → (enc last l).length ≤ 140737488351232 → ∃ s, l = x ++ s := by
  induction x with
  | nil => intro l last r _ _ _ _ _ _; exact ⟨l, rfl⟩
  | cons y x ih =>
    intro l last r hx hl b0 b1 h hle
    cases l with
    | nil =>
      exfalso
      have := congrArg List.length h
      simp only [enc, List.length_append, List.length_nil] at this
      have := List.length_pos_iff.2 (dig_ne 4 (y - last - 1))
      omega
    | cons z l =>
      obtain ⟨x1, x2, x3⟩ := hx
      obtain ⟨l1, l2, l3⟩ := hl
      rw [← h] at hle
      simp only [enc, List.append_assoc] at h hle
      have hle2 := hle
      obtain ⟨e1, e2⟩ := dig_cut _ _ _ _ h hle (by omega) (by omega) (by omega) (by omega)
      have e3 : y = z := by omega
      subst e3
      obtain ⟨s, hs⟩ := ih l y r x3 l3 (by omega) (by omega) e2 (by rw [h, List.length_append] at hle2; omega)
      exact ⟨s, by rw [hs]; rfl⟩
theorem enc_ge (l : List Int) (last : Int) : l.length ≤ (enc last l).length := by
  induction l generalizing last with
  | nil => simp
  | cons x l ih => unfold enc; rw [List.length_append, List.length_cons]; have := ih x; have := List.length_pos_iff.2 (dig_ne 4 (x - last - 1)); omega
/-- ids that rise, the last of them n. -/
def Ends (l : List Int) (n : Int) : Prop := ∃ p, l = p ++ [n] ∧ Rises (-1) l
theorem ends_more (l : List Int) (n m : Int) (h : Ends l n) (h1 : n < m) (h2 : m ≤ 1073741824) : Ends (l ++ [m]) m := by
  obtain ⟨p, hp, hr⟩ := h
  refine ⟨l, rfl, ?_⟩
  rw [hp, List.append_assoc, List.singleton_append, rises_append]
  rw [hp] at hr
  exact ⟨hr, h1, h2, trivial⟩
theorem ends_same (l : List Int) (n : Int) (h : Ends l n) : ¬ Rises (-1) (l ++ [n]) := by
  obtain ⟨p, hp, hr⟩ := h
  intro h2
  rw [hp, List.append_assoc, List.singleton_append, rises_append] at h2
  have := h2.2.1
  omega
theorem bounds_l1 (d : Nat) : ∀ (k : Nat) (n : Int) (l : List Int), 16 - l.length = d → l.length ≤ 16 → 1 ≤ l.length → 2000 + d ≤ k → Ends l n → n ≤ 1600000 - d → -1 ≤ n → tendrillaw19_BlockBounds.l1 k n l = some true := by
  induction d with
  | zero =>
    intro k n l hd hl hl1 hk he hn n0
    obtain ⟨k, rfl⟩ : ∃ m, k = m + 1 := ⟨k - 1, by omega⟩
    simp only [tendrillaw19_BlockBounds.l1]
    have hr : Rt l := ⟨by obtain ⟨p, _, h⟩ := he; exact h, hl1, hl⟩
    have hno : ∀ m, ¬ Rt (l ++ [m]) := fun m h => by have := h.2.2; rw [List.length_append] at this; simp only [List.length_cons, List.length_nil] at this; omega
    have hlen : ∀ m : Int, (l ++ [m]).length = l.length + 1 := fun m => by rw [List.length_append]; rfl
    rw [if_neg (by omega), right_f k l (by omega) (by omega)]; simp only [Option.bind_some]
    rw [if_pos (by simpa using hr), if_pos (by omega), right_f k _ (by rw [hlen]; omega) (by rw [hlen]; omega)]; simp only [Option.bind_some]
    rw [if_neg (by simpa using hno _), encode_f k _ (by rw [hlen]; omega) (by rw [hlen]; omega) (by omega), if_neg (hno _), runs_f k (by omega)]; simp
  | succ d ih =>
    intro k n l hd hl hl1 hk he hn n0
    obtain ⟨k, rfl⟩ : ∃ m, k = m + 1 := ⟨k - 1, by omega⟩
    simp only [tendrillaw19_BlockBounds.l1]
    rw [if_pos (by omega), if_pos (by omega), show wrap64 (n + 1) = n + 1 from by unfold wrap64; omega]
    exact ih k (n + 1) _ (by rw [List.length_append]; simp only [List.length_cons, List.length_nil]; omega) (by rw [List.length_append]; simp only [List.length_cons, List.length_nil]; omega) (by rw [List.length_append]; omega) (by omega) (ends_more l n (n + 1) he (by omega) (by omega)) (by omega) (by omega)
theorem bounds_j3 (k : Nat) (n : Int) (l : List Int) (hk : 2100 ≤ k) (hl : l.length ≤ 16) (hl1 : 1 ≤ l.length) (he : Ends l n) (hn : n ≤ 1590000) (n0 : -1 ≤ n) : tendrillaw19_BlockBounds.j3 k n l false = some true := by
  obtain ⟨k, rfl⟩ : ∃ m, k = m + 1 := ⟨k - 1, by omega⟩
  simp only [tendrillaw19_BlockBounds.j3]
  rw [if_neg (by decide)]; simp only [Option.bind_some]
  rw [if_pos (by simp only [List.length_nil]; omega), List.nil_append]
  exact bounds_l1 (16 - l.length) k n l rfl hl hl1 (by omega) he (by omega) n0
theorem bounds_j2 (k : Nat) (c n : Int) (l : List Int) (hk : 2200 ≤ k) (hl : l.length ≤ 16) (hl1 : 1 ≤ l.length) (he : Ends l n) (hn : n ≤ 1590000) (n0 : -1 ≤ n) : tendrillaw19_BlockBounds.j2 k c n l (enc (-1) l) false = some true := by
  obtain ⟨k, rfl⟩ : ∃ m, k = m + 1 := ⟨k - 1, by omega⟩
  simp only [tendrillaw19_BlockBounds.j2]
  have hel := enc_len (-1) l
  have hri : Rises (-1) l := by obtain ⟨p, _, h⟩ := he; exact h
  obtain ⟨t, ht, t0, t1⟩ := within_fits c ((enc (-1) l).length : Int) (by omega) (by omega)
  rw [if_neg (by decide), ht]; simp only [Option.bind_some]
  rw [if_pos t0, if_pos t1]
  have hbytes : ∀ x ∈ (enc (-1) l).take t.toNat, 0 ≤ x ∧ x ≤ 255 := by
    have hd : ∀ (d : Nat) (m : Int), 0 ≤ m → m < pw (d + 1) → d ≤ 4 → ∀ x ∈ dig d m, 0 ≤ x ∧ x ≤ 255 := by
      intro d
      induction d with
      | zero => intro m m0 m1 _ x hx; have m1' : m < 128 := m1; simp only [dig, List.mem_cons, List.not_mem_nil, or_false] at hx; omega
      | succ d ih =>
        intro m m0 m1 hd x hx
        rw [pw_succ (d + 1) (by omega)] at m1
        unfold dig at hx
        split at hx
        · rcases List.mem_cons.1 hx with rfl | hx
          · omega
          · exact ih (m / 128) (by omega) (by omega) (by omega) x hx
        · simp only [List.mem_cons, List.not_mem_nil, or_false] at hx; omega
    have henc : ∀ (xs : List Int) (last : Int), Rises last xs → -1 ≤ last → last ≤ 1073741824 → ∀ x ∈ enc last xs, 0 ≤ x ∧ x ≤ 255 := by
      intro xs
      induction xs with
      | nil => intro last _ _ _ x hx; simp [enc] at hx
      | cons y xs ih =>
        intro last hr b0 b1 x hx
        obtain ⟨r1, r2, r3⟩ := hr
        unfold enc at hx
        rcases List.mem_append.1 hx with hx | hx
        · exact hd 4 _ (by omega) (by show _ < (34359738368 : Int); omega) (by decide) x hx
        · exact ih y r3 (by omega) (by omega) x hx
    exact fun x hx => henc l (-1) hri (by omega) (by omega) x (List.mem_of_mem_take hx)
  obtain ⟨r, hr, hcase⟩ := decode_any ((enc (-1) l).take t.toNat) (by rw [List.length_take]; omega) hbytes
  rw [hr]; simp only [Option.bind_some]
  rcases hcase with rfl | ⟨e0, e1, e2⟩
  · rw [if_neg (by decide)]; exact bounds_j3 k n l (by omega) hl hl1 he hn n0
  · have hpre : enc (-1) r.1 ++ (enc (-1) l).drop t.toNat = enc (-1) l := by rw [← e2]; exact List.take_append_drop _ _
    obtain ⟨s, hs⟩ := enc_prefix r.1 l (-1) _ e1.1 hri (by omega) (by omega) hpre (by omega)
    have hle : r.1.length ≤ l.length := by rw [hs, List.length_append]; omega
    have htake : l.take ((r.1.length : Int)).toNat = r.1 := by rw [Int.toNat_natCast, hs, List.take_left']; rfl
    have h16 := e1.2.2
    rw [if_pos e0, if_neg (by omega), if_pos (by omega), if_pos (by omega), htake, tendrilbook_Same_int_f k _ _ (by omega) (by omega)]; simp only [Option.bind_some]
    rw [if_pos (by simp)]; exact bounds_j3 k n l (by omega) hl hl1 he hn n0
theorem bounds_j1 (k : Nat) (c n : Int) (l : List Int) (hk : 2300 ≤ k) (hl : l.length ≤ 16) (hl1 : 1 ≤ l.length) (he : Ends l n) (hn : n ≤ 1590000) (n0 : -1 ≤ n) : tendrillaw19_BlockBounds.j1 k c n l = some true := by
  obtain ⟨k, rfl⟩ : ∃ m, k = m + 1 := ⟨k - 1, by omega⟩
  simp only [tendrillaw19_BlockBounds.j1]
  have hr : Rt l := ⟨by obtain ⟨p, _, h⟩ := he; exact h, hl1, hl⟩
  have hge := enc_ge l (-1)
  have hlen : (l ++ [n]).length = l.length + 1 := by rw [List.length_append]; rfl
  have hno : ¬ Rt (l ++ [n]) := fun h => ends_same l n he h.1
  have hnil : ¬ Rt [] := fun h => by have := h.2.1; simp at this
  rw [encode_f k l (by omega) (by omega) (by omega), if_pos hr, right_f k l (by omega) (by omega)]; simp only [Option.bind_some]
  rw [if_pos (by simpa using hr), if_neg (by omega), right_f k [] (by decide) (by simp only [List.length_nil]; omega)]; simp only [Option.bind_some]
  rw [if_neg (by simpa using hnil)]
  rw [if_pos (by simp only [List.length_nil]; omega)]; simp only [List.nil_append]
  rw [if_pos (by omega), right_f k _ (by omega) (by omega)]; simp only [Option.bind_some]
  rw [decide_eq_false hno]; exact bounds_j2 k c n l (by omega) hl hl1 he hn n0
theorem bounds_l0 (gaps : List Int) (_hg : gaps.length * 8 ≤ 140737488351232) (c : Int) (d : Nat) : ∀ (k i : Nat) (n : Int) (l : List Int), 15 - i = d → i ≤ 15 → l.length = i + 1 → 2400 + d ≤ k → Ends l n → 0 ≤ n → n ≤ 1000 + 100001 * i → tendrillaw19_BlockBounds.l0 k gaps c n l (i : Int) = some true := by
  induction d with
  | zero =>
    intro k i n l hd hi hl hk he n0 hn
    obtain ⟨k, rfl⟩ : ∃ m, k = m + 1 := ⟨k - 1, by omega⟩
    simp only [tendrillaw19_BlockBounds.l0]
    have last := bounds_j1 k c n l (by omega) (by omega) (by omega) he (by omega) (by omega)
    by_cases h : (i : Int) < gaps.length
    · rw [if_pos h, if_neg (by omega)]; exact last
    · rw [if_neg h]; exact last
  | succ d ih =>
    intro k i n l hd hi hl hk he n0 hn
    obtain ⟨k, rfl⟩ : ∃ m, k = m + 1 := ⟨k - 1, by omega⟩
    simp only [tendrillaw19_BlockBounds.l0]
    have last := bounds_j1 k c n l (by omega) (by omega) (by omega) he (by omega) (by omega)
    by_cases h : (i : Int) < gaps.length
    · obtain ⟨g, hgt, g0, g1⟩ := within_fits (rd gaps i) 100000 (by omega) (by omega)
      rw [if_pos h, if_pos (by omega), if_pos (by omega), hgt]; simp only [Option.bind_some]
      rw [if_pos (by omega), show wrap64 (wrap64 (n + 1) + g) = n + 1 + g from by unfold wrap64; omega, show wrap64 ((i : Int) + 1) = ((i + 1 : Nat) : Int) from by unfold wrap64; omega]
      exact ih k (i + 1) _ _ (by omega) (by omega) (by rw [List.length_append, hl]; rfl) (by omega) (ends_more l n _ he (by omega) (by omega)) (by omega) (by omega)
    · rw [if_neg h]; exact last
theorem BlockBounds : tendrillaw19_BlockBounds.Pure := by
  intro first gaps cut _ _ hg _ _
  obtain ⟨K, hK⟩ : ∃ K : Nat, 2500 ≤ K := ⟨2500, Nat.le_refl _⟩
  refine ⟨K, ?_⟩
  unfold tendrillaw19_BlockBounds.f
  obtain ⟨n, hn, n0, n1⟩ := within_fits first 1000 (by omega) (by omega)
  rw [hn]; simp only [Option.bind_some]
  exact bounds_l0 gaps hg cut 15 K 0 n [n] (by omega) (by omega) rfl (by omega) ⟨[], rfl, by omega, by omega, trivial⟩ n0 (by omega)

end Go.Proofs.Ytjfkofomhpokcaa.Pure
