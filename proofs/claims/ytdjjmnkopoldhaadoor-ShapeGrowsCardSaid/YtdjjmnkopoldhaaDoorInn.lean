import Derived.Test.YtdjjmnkopoldhaaDoorPBasex2
import Derived.Test.YtdjjmnkopoldhaaDoorPBasex3
import Derived.Test.YtdjjmnkopoldhaaDoorPBasex5
import Derived.Test.YtdjjmnkopoldhaaDoorTxt
import Derived.Test.YtdjjmnkopoldhaaDoorShelf
import Derived.Test.YtdjjmnkopoldhaaDoorBld
import Derived.WalkKit
import Derived.ProofKit
import Derived.Below
import Derived.WalkLawsBesides
import Derived.Deep.QuietTactic
import Derived.BigQuiet
import Derived.StillTailTactics
import Derived.Deep.AppendLies
import Derived.Deep.RegionHeld3
import Derived.KernelRfl
import Derived.BigRegion
import Derived.WalkSpells
import Derived.Deep.Slices
import Derived.Deep.Fields
import Derived.ChangeSame
import Derived.Deep.RegionLaw
import Derived.Deep.DrawnRows
import Derived.Shelf.Strings.BuilderX
import Derived.Shelf.RegionOpenPlain
import Derived.Lib.Strings
import Derived.Lib.Slices
import Derived.Lib.Walk
import Derived.Lib.Builder
import Derived.Lib.AppendStr
namespace Go.Proofs.YtdjjmnkopoldhaaDoor.Ep
open Go Go.RowKit Go.Proofs.YtdjjmnkopoldhaaDoorW.PrintWords Go.Proofs.YtdjjmnkopoldhaaDoorW.PrintLast Go.Proofs.YtdjjmnkopoldhaaDoorW.PrintMore Go.Proofs.YtdjjmnkopoldhaaDoor.PBase
set_option linter.unusedVariables false
set_option linter.unusedSimpArgs false
open Go.Tx
theorem bt_L (s : ByteArray) (i : Nat) (h : i < (L s).length) : bt s (i : Int) = ((L s)[i].toNat : Int) := by
  have h2 : i < s.size := by rw [← size_L]; exact h
  unfold bt
  rw [dif_pos (by simpa using h2)]
  rfl

theorem bt_eq (a b : UInt8) : ((a.toNat : Int) = (b.toNat : Int)) ↔ a = b := by
  rw [Int.ofNat_inj]; exact ⟨UInt8.toNat_inj.1, fun h => by rw [h]⟩

theorem nz (c : UInt8) (h : c ≠ 0) : ¬ ((c.toNat : Int) = 0) := by
  intro e
  exact h (UInt8.toNat_inj.1 (show c.toNat = (0 : UInt8).toNat from Int.ofNat_inj.1 e))

theorem Right_f (s : ByteArray) : term_Right.f s = some (decide (Right (L s))) := by
  unfold term_Right.f strings_IndexByte.f
  rw [toList_L]
  by_cases h0 : L s = []
  · rw [if_pos h0, h0]; decide
  rw [if_neg h0]
  by_cases h1 : (s.size : Int) ≤ 12
  · rw [if_pos h1]
    simp only [Option.bind_some]
    congr 1
    rw [decide_eq_decide]
    have e : ((0 : Int).toNat.toUInt8) = 0 := rfl
    rw [e, index_neg]
    have := size_L s
    exact ⟨fun h => ⟨h0, by omega, h⟩, fun h => h.2.2⟩
  · rw [if_neg h1]
    congr 1
    symm; rw [decide_eq_false_iff_not]
    have := size_L s
    exact fun h => by have := h.2.1; omega

theorem Key_f (s : ByteArray) : ∃ r, term_Key.f s = some r ∧ L r = key (L s) := by
  unfold term_Key.f
  rw [Right_f]; simp only [Option.bind_some]
  by_cases h : Right (L s)
  · have := size_L s
    have h2 := h.2.1
    rw [if_pos (by simpa using h), if_pos (by omega)]
    refine ⟨_, rfl, ?_⟩
    rw [L_append, key, if_pos h]
  · rw [if_neg (by simpa using h)]
    exact ⟨_, rfl, by rw [key, if_neg h]⟩

theorem Common_l (k : Nat) (a b : ByteArray) (ha : a.size ≤ 1000) (d : Nat) : ∀ i : Nat, a.size - i = d → d < k → i ≤ a.size →
    term_Common.l0 k a b i = some ((i + comm ((L a).drop i) ((L b).drop i) : Nat) : Int) := by
  induction d generalizing k with
  | zero =>
    intro i hi hk hl
    obtain ⟨k, rfl⟩ : ∃ m, k = m + 1 := ⟨k - 1, by omega⟩
    simp only [term_Common.l0]
    rw [if_neg (by omega), comm_end _ _ _ (Or.inl (by rw [size_L]; omega))]; rfl
  | succ d ih =>
    intro i hi hk hl
    obtain ⟨k, rfl⟩ : ∃ m, k = m + 1 := ⟨k - 1, by omega⟩
    simp only [term_Common.l0]
    have la : i < (L a).length := by rw [size_L]; omega
    rw [if_pos (by omega)]
    by_cases hb : i < b.size
    · have lb : i < (L b).length := by rw [size_L]; omega
      rw [if_pos (by omega), if_pos (by omega), bt_L a i la, bt_L b i lb, comm_drop _ _ _ la lb]
      by_cases e : (L a)[i] = (L b)[i]
      · rw [if_pos ((bt_eq _ _).2 e), if_pos e, show wrap64 ((i : Int) + 1) = ((i + 1 : Nat) : Int) from by unfold wrap64; omega]
        rw [ih k (i + 1) (by omega) (by omega) (by omega)]
        congr 1; omega
      · rw [if_neg (fun h => e ((bt_eq _ _).1 h)), if_neg e]; rfl
    · rw [if_neg (by omega), comm_end _ _ _ (Or.inr (by rw [size_L]; omega))]; rfl

theorem Common_f (k : Nat) (a b : ByteArray) (ha : a.size ≤ 1000) (hk : 1000 < k) : term_Common.f k a b = some ((comm (L a) (L b) : Nat) : Int) := by
  unfold term_Common.f
  have := Common_l k a b ha a.size 0 (by omega) (by omega) (by omega)
  simpa using this

theorem RightTerm_l (k : Nat) (a : ByteArray) (ha : a.size ≤ 1000) (d : Nat) : ∀ i : Nat, a.size - i = d → d < k → i ≤ a.size →
    tendrilref1_RightTerm.l0 k a i = some (decide ((0 : UInt8) ∉ (L a).drop i ∧ 1 ≤ (L a).length ∧ (L a).length ≤ 12)) := by
  have hl := size_L a
  induction d generalizing k with
  | zero =>
    intro i hi hk hle
    obtain ⟨k, rfl⟩ : ∃ m, k = m + 1 := ⟨k - 1, by omega⟩
    simp only [tendrilref1_RightTerm.l0]
    rw [if_neg (by omega), List.drop_of_length_le (by omega)]
    by_cases h1 : (a.size : Int) ≥ 1
    · rw [if_pos h1]; congr 1; rw [decide_eq_decide]; simp; omega
    · rw [if_neg h1]; congr 1; symm; rw [decide_eq_false_iff_not]; omega
  | succ d ih =>
    intro i hi hk hle
    obtain ⟨k, rfl⟩ : ∃ m, k = m + 1 := ⟨k - 1, by omega⟩
    simp only [tendrilref1_RightTerm.l0]
    have la : i < (L a).length := by omega
    rw [if_pos (by omega), if_pos (by omega), bt_L a i la, List.drop_eq_getElem_cons la]
    by_cases e : (L a)[i] = 0
    · rw [if_pos (by rw [e]; rfl)]
      congr 1; symm; rw [decide_eq_false_iff_not, e]; simp
    · rw [if_neg (nz _ e), show wrap64 ((i : Int) + 1) = ((i + 1 : Nat) : Int) from by unfold wrap64; omega]
      rw [ih k (i + 1) (by omega) (by omega) (by omega)]
      congr 1; rw [decide_eq_decide, List.mem_cons, not_or]
      exact ⟨fun h => ⟨⟨fun z => e z.symm, h.1⟩, h.2⟩, fun h => ⟨h.1.2, h.2⟩⟩

theorem RightTerm_f (k : Nat) (a : ByteArray) (ha : a.size ≤ 1000) (hk : 1000 < k) : tendrilref1_RightTerm.f k a = some (decide (Right (L a))) := by
  unfold tendrilref1_RightTerm.f
  have := RightTerm_l k a ha a.size 0 (by omega) (by omega) (by omega)
  rw [show ((0 : Nat) : Int) = 0 from rfl] at this
  rw [this]; congr 1; rw [decide_eq_decide, List.drop_zero]
  unfold Right
  constructor
  · exact fun h => ⟨fun e => by rw [e] at h; simp at h, h.2.2, h.1⟩
  · exact fun h => ⟨h.2.2, List.length_pos_iff.2 h.1, h.2.1⟩

theorem RefCommon_l (k : Nat) (a b : ByteArray) (ha : a.size ≤ 1000) (d : Nat) : ∀ i : Nat, a.size - i = d → d < k → i ≤ a.size →
    tendrilref1_Common.l0 k a b i = some ((i + comm ((L a).drop i) ((L b).drop i) : Nat) : Int) := by
  induction d generalizing k with
  | zero =>
    intro i hi hk hl
    obtain ⟨k, rfl⟩ : ∃ m, k = m + 1 := ⟨k - 1, by omega⟩
    simp only [tendrilref1_Common.l0]
    rw [if_neg (by omega), comm_end _ _ _ (Or.inl (by rw [size_L]; omega))]; rfl
  | succ d ih =>
    intro i hi hk hl
    obtain ⟨k, rfl⟩ : ∃ m, k = m + 1 := ⟨k - 1, by omega⟩
    simp only [tendrilref1_Common.l0]
    have la : i < (L a).length := by rw [size_L]; omega
    rw [if_pos (by omega)]
    by_cases hb : i < b.size
    · have lb : i < (L b).length := by rw [size_L]; omega
      rw [if_pos (by omega), if_pos (by omega), bt_L a i la, bt_L b i lb, comm_drop _ _ _ la lb]
      by_cases e : (L a)[i] = (L b)[i]
      · rw [if_pos ((bt_eq _ _).2 e), if_pos e, show wrap64 ((i : Int) + 1) = ((i + 1 : Nat) : Int) from by unfold wrap64; omega]
        rw [ih k (i + 1) (by omega) (by omega) (by omega)]
        congr 1; omega
      · rw [if_neg (fun h => e ((bt_eq _ _).1 h)), if_neg e]; rfl
    · rw [if_neg (by omega), comm_end _ _ _ (Or.inr (by rw [size_L]; omega))]; rfl

theorem RefCommon_f (k : Nat) (a b : ByteArray) (ha : a.size ≤ 1000) (hk : 1000 < k) : tendrilref1_Common.f k a b = some ((comm (L a) (L b) : Nat) : Int) := by
  unfold tendrilref1_Common.f
  have := RefCommon_l k a b ha a.size 0 (by omega) (by omega) (by omega)
  simpa using this

theorem key_yes (s : ByteArray) (h : Right (L s)) : term_Key.f s = some (s ++ (⟨#[0]⟩ : ByteArray)) := by
  have hl := size_L s
  have := h.2.1
  unfold term_Key.f; rw [Right_f]; simp only [Option.bind_some]; rw [if_pos (by simpa using h), if_pos (by omega)]

theorem L_key (s : ByteArray) : L (s ++ (⟨#[0]⟩ : ByteArray)) = L s ++ [0] := by rw [L_append]
theorem w64 (n : Int) (h0 : -9223372036854775808 ≤ n) (h1 : n < 9223372036854775808) : wrap64 n = n := by unfold wrap64; omega
/-- an entry's key. -/
def kb (e : S23) : ByteArray := e.f0 ++ (⟨#[0]⟩ : ByteArray)
theorem L_kb (e : S23) : L (kb e) = L e.f0 ++ [0] := L_key _
theorem kb_size (e : S23) : (kb e).size = e.f0.size + 1 := by rw [← size_L, L_kb, List.length_append, size_L]; rfl
def fst8 (l : List S23) : S23 := l.getD 0 z23
def lst8 (l : List S23) : S23 := l.getD (l.length - 1) z23
/-- up to which place all keys are alike, from one on. -/
def alk (l : List S23) (a : Nat) : Nat := a + comm ((L (kb (fst8 l))).drop a) ((L (kb (lst8 l))).drop a)
theorem rd8 (l : List S23) (i : Nat) : rd_T23 l (i : Int) = l.getD i z23 := rfl
theorem L_from (s : ByteArray) (i : Nat) : L (s.extract i s.size) = (L s).drop i := by
  rw [L_extract, ← size_L, ← List.length_drop]; exact List.take_length
theorem key_c (a0 : ByteArray) (h : Right (L a0)) (w : World) :
    Calls Tryd.prog 32 #[.string a0] w fun e w' => e = .returned (.string (a0 ++ (⟨#[0]⟩ : ByteArray))) ∧ Drawn0 w w' :=
  term_Key.calls a0 _ w (key_yes a0 h)
theorem alike_c (A : Option Addr) (c : Nat) (l : List S23) (a : Nat) (w : World) (hC : Kd.C k23 w A l.length l) (hc : l.length ≤ c) (h0 : 0 < l.length) (hl : l.length ≤ 1000)
    (h1 : Right (L (fst8 l).f0)) (h2 : Right (L (lst8 l).f0)) (ha : a ≤ (kb (fst8 l)).size) (hb : a ≤ (kb (lst8 l)).size) :
    Calls Tryd.prog 34 #[.slice A l.length c, .int .i64 a] w fun e w' => e = .returned (.int .i64 (alk l a : Nat)) ∧ Drawn0 w w' := by
  refine shape_alike.calls 2000 A c l a _ w hC hc ?_
  have e0 : rd_T23 l 0 = fst8 l := rd8 l 0
  have e1 : wrap64 ((l.length : Int) - 1) = ((l.length - 1 : Nat) : Int) := by rw [w64 _ (by omega) (by omega)]; omega
  have e2 : rd_T23 l ((l.length - 1 : Nat) : Int) = lst8 l := rd8 l _
  have k1 := key_yes (fst8 l).f0 h1
  have k2 := key_yes (lst8 l).f0 h2
  have z1 := kb_size (fst8 l)
  have z2 := kb_size (lst8 l)
  have q1 := h1.2.1
  have q2 := h2.2.1
  rw [size_L] at q1 q2
  unfold shape_alike.f
  simp only [e0, e1, e2, k1, k2, Option.bind_some]
  rw [if_pos (by omega), if_pos (by omega), if_pos (by omega), if_pos (by omega), if_pos (show (a : Int) ≤ (((fst8 l).f0 ++ (⟨#[0]⟩ : ByteArray)).size : Int) from by unfold kb at ha; omega), if_pos (show (a : Int) ≤ (((lst8 l).f0 ++ (⟨#[0]⟩ : ByteArray)).size : Int) from by unfold kb at hb; omega)]
  rw [Int.toNat_natCast]
  have hz : ((kb (fst8 l)).extract a (kb (fst8 l)).size).size ≤ 1000 := by
    rw [← size_L, L_from, List.length_drop, size_L]; omega
  have hz2 := Common_f 2000 _ ((kb (lst8 l)).extract a (kb (lst8 l)).size) hz (by decide)
  unfold kb at hz2
  rw [hz2, Option.bind_some]
  congr 1
  have q := comm_le_left ((L (kb (fst8 l))).drop a) ((L (kb (lst8 l))).drop a)
  rw [List.length_drop, size_L] at q
  have f1 := L_from (kb (fst8 l)) a
  have f2 := L_from (kb (lst8 l)) a
  unfold kb at f1 f2
  rw [f1, f2]
  unfold alk
  rw [w64 _ (by omega) (by unfold kb at q; rw [show (L ((fst8 l).f0 ++ (⟨#[0]⟩ : ByteArray))) = L (kb (fst8 l)) from rfl, show (L ((lst8 l).f0 ++ (⟨#[0]⟩ : ByteArray))) = L (kb (lst8 l)) from rfl]; unfold kb; unfold kb at z1; omega)]
  rfl
def byteAt (e : S23) (i : Nat) : UInt8 := (L (kb e)).getD i 0
def grp (e : S23) (r : List S23) (i : Nat) : List S23 := r.takeWhile (fun x => byteAt x i == byteAt e i)
def leafT (e : S23) : List UInt8 := 60 :: (Lib.decDigits e.f0.size ++ 58 :: (L e.f0 ++ [62]))
def preT (l : List S23) (a b : Nat) : List UInt8 := if l = [] then [] else ((L (kb (fst8 l))).drop a).take (b - a)
def opnT (l : List S23) (a b : Nat) : List UInt8 := 40 :: (Lib.decDigits (b - a) ++ 58 :: preT l a b)
/-- what 'inner' writes behind the node's own prefix, without the last bracket. -/
def bod : Nat → List S23 → Nat → Option (List UInt8)
  | 0, _, _ => none
  | _ + 1, [], _ => some []
  | k + 1, e :: r, i =>
    if ∀ x ∈ e :: r, i < (kb x).size then
      (if grp e r i = [] then some (leafT e) else (bod k (e :: grp e r i) (alk (e :: grp e r i) (i + 1))).map (fun o => opnT (e :: grp e r i) (i + 1) (alk (e :: grp e r i) (i + 1)) ++ o ++ [41])).bind fun t =>
        (bod k (r.drop (grp e r i).length) i).map fun o => 91 :: byteAt e i :: (t ++ 93 :: o)
    else none
theorem dig_len (n : Nat) (h : n < 100) : (Lib.decDigits n).length ≤ 2 := by
  rw [Lib.decDigits]
  split
  · simp
  · rw [Lib.decDigits, dif_pos (by omega)]; simp
theorem dig_size (n : Nat) (h : n < 100) : (⟨(Lib.decDigits n).toArray⟩ : ByteArray).size ≤ 2 := by
  rw [← size_L]; exact dig_len n h
theorem cells_str (s : ByteArray) (x : List UInt8) : Lib.byteCells x ++ Lib.strCells s = Lib.byteCells (x ++ L s) := by
  rw [Lib.strCells_eq, Lib.byteCells_append]
theorem cells_byte (b : UInt8) (x : List UInt8) : Lib.byteCells x ++ [Value.int .u8 b.toNat] = Lib.byteCells (x ++ [b]) := by
  rw [Lib.byteCells_append]; rfl
theorem right_size {a : ByteArray} (h : Right (L a)) : 1 ≤ a.size ∧ a.size ≤ 12 := by
  have h1 := h.1
  have h2 := h.2.1
  rw [size_L] at h2
  refine ⟨?_, h2⟩
  have := size_L a
  cases e : L a with
  | nil => exact absurd e h1
  | cons x y => rw [e] at this; simp only [List.length_cons] at this; omega
/-- writes, as words on bytes. -/
theorem wstr (B b : Nat) (x : List UInt8) (s : ByteArray) (w : World) (h : Lib.IsBuilder 49 5 B b (Lib.byteCells x) w) (hl : x.length + s.size ≤ 1000000) (hB : B ≤ w.heap.size) :
    Calls Tryd.prog 30 #[.pointer (some ⟨b, 0, none⟩), .string s] w fun e w' => e = .returned (.tuple #[.int .i64 s.size, .nilIface]) ∧ Lib.IsBuilder 49 5 B b (Lib.byteCells (x ++ L s)) w' ∧ Below B w w' := by
  refine (bld.Builder_WriteString B b _ s w h (by rw [Lib.byteCells_length]; omega) hB).mono ?_
  rintro e w' ⟨rfl, h1, h2⟩
  exact ⟨rfl, Or.inr (by rw [← cells_str]; exact h1), h2⟩
theorem wbyte (B b : Nat) (x : List UInt8) (c : UInt8) (w : World) (h : Lib.IsBuilder 49 5 B b (Lib.byteCells x) w) (hl : x.length + 1 ≤ 1000000) (hB : B ≤ w.heap.size) :
    Calls Tryd.prog 33 #[.pointer (some ⟨b, 0, none⟩), .int .u8 c.toNat] w fun e w' => e = .returned .nilIface ∧ Lib.IsBuilder 49 5 B b (Lib.byteCells (x ++ [c])) w' ∧ Below B w w' := by
  refine (bld.Builder_WriteByte B b _ c.toNat w h (by rw [Lib.byteCells_length]; omega) hB).mono ?_
  rintro e w' ⟨rfl, h1, h2⟩
  exact ⟨rfl, Or.inr (by rw [← cells_byte]; exact h1), h2⟩
theorem isb_drewN {B b : Nat} {x : List UInt8} {w : World} (h : Lib.IsBuilder 49 5 B b (Lib.byteCells x) w) (k : Nat) : Lib.IsBuilder 49 5 B b (Lib.byteCells x) (w.drewN k) := by
  induction k with
  | zero => exact h
  | succ k ih =>
    rcases ih with h' | h'
    · exact Or.inl h'.drew
    · exact Or.inr h'.drew
theorem isb_drew {B b : Nat} {x : List UInt8} {w : World} (h : Lib.IsBuilder 49 5 B b (Lib.byteCells x) w) : Lib.IsBuilder 49 5 B b (Lib.byteCells x) w.drew := isb_drewN h 1
theorem bod_cons {k : Nat} {e : S23} {r : List S23} {i : Nat} {o : List UInt8} (h : bod (k + 1) (e :: r) i = some o) :
    (∀ x ∈ e :: r, i < (kb x).size) ∧ ∃ t o2, ((grp e r i = [] ∧ t = leafT e) ∨ (grp e r i ≠ [] ∧ ∃ o3, bod k (e :: grp e r i) (alk (e :: grp e r i) (i + 1)) = some o3 ∧ t = opnT (e :: grp e r i) (i + 1) (alk (e :: grp e r i) (i + 1)) ++ o3 ++ [41])) ∧
      bod k (r.drop (grp e r i).length) i = some o2 ∧ o = 91 :: byteAt e i :: (t ++ 93 :: o2) := by
  simp only [bod] at h
  split at h
  · next hall =>
    refine ⟨hall, ?_⟩
    obtain ⟨t, h1, h2⟩ := Option.bind_eq_some_iff.1 h
    obtain ⟨o2, h3, h4⟩ := Option.map_eq_some_iff.1 h2
    refine ⟨t, o2, ?_, h3, h4.symm⟩
    split at h1
    · next hg => exact Or.inl ⟨hg, (Option.some.inj h1).symm⟩
    · next hg =>
      obtain ⟨o3, h5, h6⟩ := Option.map_eq_some_iff.1 h1
      exact Or.inr ⟨hg, o3, h5, h6.symm⟩
  · cases h
theorem bt_kb (e : S23) (i : Nat) (h : i < (kb e).size) : bt (kb e) (i : Int) = ((byteAt e i).toNat : Int) := by
  rw [bt_L _ _ (by rw [size_L]; exact h)]
  unfold byteAt
  rw [List.getD_eq_getElem?_getD, List.getElem?_eq_getElem (by rw [size_L]; exact h)]
  rfl
theorem grp_in (e : S23) (r : List S23) (i n : Nat) (h : n < (grp e r i).length) : byteAt (r.getD n z23) i = byteAt e i := by
  induction r generalizing n with
  | nil => simp [grp] at h
  | cons a r ih =>
    unfold grp at h ih
    rw [List.takeWhile_cons] at h
    split at h
    · next ha =>
      cases n with
      | zero => simpa using ha
      | succ n =>
        rw [List.length_cons] at h
        have := ih n (by omega)
        simpa using this
    · simp at h
theorem grp_out (e : S23) (r : List S23) (i : Nat) (h : (grp e r i).length < r.length) : byteAt (r.getD (grp e r i).length z23) i ≠ byteAt e i := by
  induction r with
  | nil => simp at h
  | cons a r ih =>
    unfold grp at h ih ⊢
    rw [List.takeWhile_cons] at h ⊢
    split
    · next ha =>
      rw [if_pos ha] at h
      rw [List.length_cons] at h ⊢
      have := ih (by simpa using h)
      simpa using this
    · next ha => simpa using ha
theorem grp_le (e : S23) (r : List S23) (i : Nat) : (grp e r i).length ≤ r.length := (List.takeWhile_sublist _).length_le
theorem grp_take (e : S23) (r : List S23) (i : Nat) : (e :: r).take ((grp e r i).length + 1) = e :: grp e r i := by
  rw [List.take_succ_cons]
  congr 1
  unfold grp
  induction r with
  | nil => rfl
  | cons a r ih =>
    rw [List.takeWhile_cons]
    split
    · rw [List.length_cons, List.take_succ_cons, ih]
    · rfl
theorem toNat_beq (a b : UInt8) : (((a.toNat : Int)) == ((b.toNat : Int))) = (a == b) := by
  by_cases h : a = b
  · subst h; simp
  · rw [beq_eq_false_iff_ne.2 h]; exact beq_eq_false_iff_ne.2 (fun e => h ((bt_eq a b).1 e))
theorem wbyteI (B b : Nat) (x : List UInt8) (c : Int) (d : UInt8) (w : World) (hc : c = (d.toNat : Int)) (h : Lib.IsBuilder 49 5 B b (Lib.byteCells x) w) (hl : x.length + 1 ≤ 1000000) (hB : B ≤ w.heap.size) :
    Calls Tryd.prog 33 #[.pointer (some ⟨b, 0, none⟩), .int .u8 c] w fun e w' => e = .returned .nilIface ∧ Lib.IsBuilder 49 5 B b (Lib.byteCells (x ++ [d])) w' ∧ Below B w w' := by
  subst hc; exact wbyte B b x d w h hl hB
theorem gk8 (e : S23) (i : Nat) (h : i < (kb e).size) : (kb e)[i] = byteAt e i := by
  unfold byteAt
  rw [List.getD_eq_getElem?_getD, List.getElem?_eq_getElem (by rw [size_L]; exact h)]
  rfl
theorem info23_8 : (Tryd.prog.info? 23).map (fun i => (i.zero, i.size, i.bytes)) = some (some (.agg #[.string ⟨#[]⟩, .int .i64 0]), 2, 24) := by kernel_rfl
theorem alk_le (l : List S23) (s : Nat) (h : s ≤ (kb (fst8 l)).size) : alk l s ≤ (kb (fst8 l)).size := by
  unfold alk
  have q := comm_le_left ((L (kb (fst8 l))).drop s) ((L (kb (lst8 l))).drop s)
  rw [List.length_drop, size_L] at q
  omega
theorem le_alk (l : List S23) (s : Nat) : s ≤ alk l s := Nat.le_add_right _ _
theorem lst8_mem {l : List S23} (h : 0 < l.length) : lst8 l ∈ l := by
  unfold lst8
  rw [List.getD_eq_getElem?_getD, List.getElem?_eq_getElem (show l.length - 1 < l.length by omega)]
  exact List.getElem_mem _
theorem key_k (e : S23) (h : Right (L e.f0)) (w : World) :
    Calls Tryd.prog 32 #[.string e.f0] w fun e' w' => e' = .returned (.string (kb e)) ∧ Drawn0 w w' := key_c e.f0 h w
theorem isb_len (B b : Nat) (x y : List UInt8) (w : World) (h : Lib.IsBuilder 49 5 B b (Lib.byteCells x) w) (e : x = y) : Lib.IsBuilder 49 5 B b (Lib.byteCells y) w := e ▸ h
theorem fst8_mem {l : List S23} (h : 0 < l.length) : fst8 l ∈ l := by
  unfold fst8
  rw [List.getD_eq_getElem?_getD, List.getElem?_eq_getElem h]
  exact List.getElem_mem h
set_option maxHeartbeats 4000000 in
set_option maxRecDepth 100000 in
theorem inner_ (w0 : World) (b : Nat) (k : Nat) : ∀ (l : List S23) (fr i : Nat) (o : List UInt8) (x : List UInt8) (A : Option Addr) (c : Nat) (w : World), bod k l i = some o → (∀ x ∈ l, Right (L x.f0)) → l.length ≤ 1000 → fr ≤ i → i - fr < 100 → i ≤ 1000 →
    (l ≠ [] → i ≤ (kb (fst8 l)).size) → Kd.C k23 w0 A l.length l → l.length ≤ c → Below w0.heap.size w0 w → Lib.IsBuilder 49 5 w0.heap.size b (Lib.byteCells x) w → x.length + (opnT l fr i).length + o.length + 1 ≤ 1000000 →
    Calls Tryd.prog 24 #[.pointer (some ⟨b, 0, none⟩), .slice A l.length c, .int .i64 (fr : Int), .int .i64 (i : Int)] w fun e w' => e = .returned (.tuple #[]) ∧ Lib.IsBuilder 49 5 w0.heap.size b (Lib.byteCells (x ++ opnT l fr i ++ o ++ [41])) w' ∧ Below w0.heap.size w0 w' := by
  induction k using Nat.strongRecOn with
  | _ k IH =>
  intro l fr i o x A c w hbod hR hl hfi hi hi2 hfst hC hc hB0 hb0 hlen
  have IH' := Aside0.mk IH
  have HC := Aside0.mk hC
  have HB := Aside0.mk hB0
  have HW := Aside0.mk hb0
  have HR := Aside0.mk hR
  have HO := Aside0.mk hbod
  have N1 := Aside0.mk hl
  have N2 := Aside0.mk hc
  have N3 := Aside0.mk (And.intro hfi (And.intro hi hi2))
  have hsub : IntKind.i64.wrap ((i : Int) - (fr : Int)) = ((i - fr : Nat) : Int) := by rw [i64_w, w64 _ (by omega) (by omega)]; omega
  obtain ⟨D, hD⟩ : ∃ D : ByteArray, D = ⟨(Lib.decDigits (i - fr)).toArray⟩ := ⟨_, rfl⟩
  have hDs : D.size ≤ 2 := by rw [hD]; exact dig_size _ hi
  have d1 : (9223372036854775807 < 1 + D.size) = False := eq_false (by omega)
  have d2 : (9223372036854775807 < 1 + D.size + 1) = False := eq_false (by omega)
  have hDl : L D = Lib.decDigits (i - fr) := by rw [hD]
  have hoL : (opnT l fr i).length = D.size + 2 + (preT l fr i).length := by rw [← size_L, hDl]; simp only [opnT, List.length_cons, List.length_append]; omega
  have e1 : L ((⟨#[40]⟩ : ByteArray) ++ D ++ (⟨#[58]⟩ : ByteArray)) = 40 :: (Lib.decDigits (i - fr) ++ [58]) := by rw [L_append, L_append, hDl]; rfl
  have HI := Aside0.mk (fun W : World => hD ▸ Tryd.strconv_Itoa_small (i - fr) hi W)
  have HL1 := Aside0.mk (show x.length + ((⟨#[40]⟩ : ByteArray) ++ D ++ (⟨#[58]⟩ : ByteArray)).size ≤ 1000000 from by
    rw [← size_L, e1]; simp only [List.length_cons, List.length_append, List.length_nil]; rw [← hDl, size_L]; omega)
  obtain ⟨T, hT⟩ : ∃ T, T = x ++ opnT l fr i ++ o := ⟨_, rfl⟩
  have HT := Aside0.mk (show T.length + 1 ≤ 1000000 from by rw [hT]; simp only [List.length_append]; omega)
  have HE := Aside0.mk (show ∀ y, y = preT l fr i → (x ++ L ((⟨#[40]⟩ : ByteArray) ++ D ++ (⟨#[58]⟩ : ByteArray)) ++ y) ++ o = T from by
    rintro y rfl; rw [hT, e1]; simp only [opnT, List.cons_append, List.append_assoc, List.nil_append])
  rw [← hT]
  clear IH hC hB0 hb0 hR hlen hbod hD hDs hDl hoL hT e1
  by_cases h0 : 0 < l.length
  · have hf := hfst (by intro e; rw [e] at h0; exact absurd h0 (by simp))
    have hr0 : Right (L (fst8 l).f0) := HR.out _ (fst8_mem h0)
    have HK := Aside0.mk (fun W : World => key_k (fst8 l) hr0 W)
    obtain ⟨ad, eA, hx_0, hx_1⟩ := at_T23 HC.out 0 (by omega) (by omega)
    cases eA
    have g0 : decide ((0 : Int) < (l.length : Int)) = true := decide_eq_true (by omega)
    have g1 : decide (0 < l.length) = true := decide_eq_true h0
    have g2 : (0 < l.length) = True := eq_true h0
    have g3 : ((fr : Int) ≤ (i : Int)) = True := eq_true (by omega)
    have g4 : ((i : Int) ≤ ((kb (fst8 l)).size : Int)) = True := eq_true (by omega)
    have g5 : (0 ≤ (fr : Int)) = True := eq_true (by omega)
    have g6 : (0 ≤ (i : Int)) = True := eq_true (by omega)
    rw [show ((0 : Int)).toNat = 0 from rfl, show 0 * 2 = 0 from rfl, Addr.add_zero'] at hx_0
    replace hx_0 : w0.cell? ad = some (.string (fst8 l).f0) := hx_0
    have hx0 := Aside0.mk hx_0
    have HP := Aside0.mk (show ∀ y : ByteArray, y = (kb (fst8 l)).extract fr i → L y = preT l fr i from by
      rintro y rfl; rw [L_extract, preT, if_neg (by intro e; rw [e] at h0; exact absurd h0 (by simp))])
    clear hx_0 hx_1 hf hr0 hfst h0 hfi hi hi2 hl hc
    go_enter Tryd.func24, Tryd.ntmps24
    go_wp2_with (first
      | (go_at_call 31; (with_reducible refine (HI.out _).mono ?_); rintro e w' ⟨rfl, rfl⟩)
      | (go_at_call 32; (with_reducible refine (HK.out _).mono ?_); rintro e w' ⟨rfl, ⟨nd, rfl⟩⟩)
      | (go_at_call 30; (with_reducible refine (wstr w0.heap.size b x _ _ HW.out HL1.out HB.out.size).mono ?_); rintro e w1 ⟨rfl, h1_, h2_⟩; have n0_ := Aside0.mk h1_; have n1_ := Aside0.mk (Below.trans HB.out h2_); clear HW HB h1_ h2_; have HW := n0_; have HB := n1_; clear n0_ n1_; have hx := (HB.out.cell (World.block_lt_of_cell? w0 _ hx0.out)).trans hx0.out))
    refine (wstr w0.heap.size b _ _ _ (isb_drewN HW.out _) ?cl ?cb).mono ?_
    case cl =>
      have := HE.out _ (HP.out _ rfl)
      have h2 := HT.out
      rw [← this, List.length_append, List.length_append, size_L] at h2
      omega
    case cb => exact (pw_below_drewN HB.out _).size
    rintro e w2 ⟨rfl, h1_, h2_⟩
    have n0_ := Aside0.mk (isb_len _ _ _ _ _ h1_ rfl)
    have n1_ := Aside0.mk (Below.trans (pw_below_drewN HB.out _) h2_)
    clear HW HB h1_ h2_
    have HW := n0_
    have HB := n1_
    clear n0_ n1_
    go_wp2
    have HX := Aside0.mk (HE.out _ (HP.out _ rfl))
    clear HE HP
    obtain ⟨K0, hK0⟩ : ∃ K0, K0 = k := ⟨_, rfl⟩
    have HKk : K0 ≤ k := Nat.le_of_eq hK0
    have HO' := HO
    clear HO
    rw [← hK0] at HO'
    clear hK0

    go_loopg [1] K0 (fun kq v1 w' => ∃ (m : List S23) (A1 : Option Addr) (c1 : Nat) (o1 x1 : List UInt8), v1 = .slice A1 m.length c1 ∧ Aside0 (bod kq m i = some o1) ∧ Aside0 (kq ≤ k) ∧ Aside0 (x1 ++ o1 = T) ∧ Aside0 (Lib.IsBuilder 49 5 w0.heap.size b (Lib.byteCells x1) w') ∧ Aside0 (Kd.C k23 w0 A1 m.length m) ∧ Aside0 (m.length ≤ c1) ∧ Aside0 (m.length ≤ 1000) ∧ Aside0 (∀ x ∈ m, Right (L x.f0)) ∧ Aside0 (Below w0.heap.size w0 w'))
    case atStart => exact ⟨l, _, c, o, _, rfl, HO', ⟨HKk⟩, HX, HW, HC, N2, N1, HR, HB⟩
    case round =>
      clear HO' HKk HX HW HC N2 N1 HR HB
      obtain ⟨m, A1, c1, o1, x1, rfl, HO, HKq, HX, HW, HC, N2, N1, HR, HB⟩ := hrel
      cases gk with
      | zero => exact absurd HO.out (by simp [bod])
      | succ k1 =>
        cases m with
        | nil =>
          have he : o1 = [] := by have := HO.out; simp only [bod, Option.some.injEq] at this; exact this.symm
          subst he
          have g0 : decide ((0 : Int) < (([] : List S23).length : Int)) = false := rfl
          have g1 : decide (0 < ([] : List S23).length) = false := rfl
          go_wp2_with (first
            | (go_at_call 30; (with_reducible refine (wstr w0.heap.size b x1 _ _ HW.out ?cl HB.out.size).mono ?_); (case cl => have h1 := HX.out; have h2 := HT.out; rw [List.append_nil] at h1; rw [← h1] at h2; exact h2); rintro e w1 ⟨rfl, h1_, h2_⟩))
          go_end0
          refine ⟨rfl, ?_, Below.trans HB.out h2_⟩
          have h1 := HX.out
          rw [List.append_nil] at h1
          rw [← h1]
          exact h1_
        | cons e r =>
          obtain ⟨hall, t, o2, hcase, hrest, ho1⟩ := bod_cons HO.out
          have HCase := Aside0.mk hcase
          have HRest := Aside0.mk hrest
          have HAll := Aside0.mk hall
          have HO1 := Aside0.mk ho1
          have hre : Right (L e.f0) := HR.out e List.mem_cons_self
          have HK := Aside0.mk (fun W : World => key_k e hre W)
          have HKe := Aside0.mk hre
          have hie : i < (kb e).size := hall e List.mem_cons_self
          have hbt : bt (kb e) (i : Int) = ((byteAt e i).toNat : Int) := bt_kb e i hie
          have g7 : decide ((i : Int) < ((kb e).size : Int)) = true := decide_eq_true (by omega)
          have g6 : (0 ≤ (i : Int)) = True := eq_true (by omega)
          have g6b : decide (0 ≤ (i : Int)) = true := decide_eq_true (by omega)
          have g8 : ((i : Int) < ((kb e).size : Int)) = True := eq_true (by omega)
          obtain ⟨ad1, eA1, hx_0, hx_1⟩ := at_T23 HC.out 0 (by omega) (by rw [List.length_cons]; omega)
          cases eA1
          rw [show ((0 : Int)).toNat = 0 from rfl, show 0 * 2 = 0 from rfl, Addr.add_zero'] at hx_0
          replace hx_0 : w0.cell? ad1 = some (.string e.f0) := hx_0
          have hx0 := Aside0.mk hx_0
          have hx := (HB.out.cell (World.block_lt_of_cell? w0 _ hx0.out)).trans hx0.out
          obtain ⟨M, hM⟩ : ∃ M, M = (e :: r).length := ⟨_, rfl⟩
          rw [← hM]
          have HM := Aside0.mk hM
          have g0 : decide ((0 : Int) < (M : Int)) = true := decide_eq_true (by rw [hM, List.length_cons]; omega)
          have g1 : decide (0 < M) = true := decide_eq_true (by rw [hM, List.length_cons]; omega)
          have g2 : (0 < M) = True := eq_true (by rw [hM, List.length_cons]; omega)
          clear hcase hrest hall ho1 hre hie hx_0 hx_1 hM HO
          go_wp2_with (first
            | (go_at_call 32; (with_reducible refine (HK.out _).mono ?_); rintro e w' ⟨rfl, ⟨nd, rfl⟩⟩))
          obtain ⟨G, hG⟩ : ∃ G, G = (grp e r i).length := ⟨_, rfl⟩
          have hGr : G ≤ r.length := by rw [hG]; exact grp_le e r i
          have HG := Aside0.mk hG
          have HGr := Aside0.mk hGr
          have HIN := Aside0.mk (fun (n : Nat) (h : n < G) => grp_in e r i n (hG ▸ h))
          have HOUT := Aside0.mk (fun (h : G < r.length) => show byteAt (r.getD G z23) i ≠ byteAt e i from hG ▸ grp_out e r i (hG ▸ h))
          clear hG hGr hbt hx
          simp only [gk8]
          go_loopg [9] (G + 1) (fun kq v9 w' => ∃ (n : Nat), v9 = .int .i64 (n : Int) ∧ Aside0 (kq + n = G + 2) ∧ Aside0 (1 ≤ n ∧ n ≤ G + 1) ∧ Aside0 (Lib.IsBuilder 49 5 w0.heap.size b (Lib.byteCells x1) w') ∧ Aside0 (Below w0.heap.size w0 w'))
          case atStart => exact ⟨1, rfl, ⟨by omega⟩, ⟨by omega⟩, ⟨isb_drewN HW.out _⟩, ⟨pw_below_drewN HB.out _⟩⟩
          case round =>
            clear HW HB
            obtain ⟨n, rfl, HKn, HN1, HW, HB⟩ := hrel
            have hkn := HKn.out
            have hn1 := HN1.out
            have hm := HM.out
            rw [List.length_cons] at hm
            have hgr := HGr.out
            by_cases hnM : n < M
            · obtain ⟨en, hen⟩ : ∃ en, en = (e :: r).getD n z23 := ⟨_, rfl⟩
              have hmem : en ∈ e :: r := by rw [hen, List.getD_eq_getElem?_getD, List.getElem?_eq_getElem (show n < (e :: r).length by rw [List.length_cons]; omega)]; exact List.getElem_mem _
              have hri : Right (L en.f0) := HR.out en hmem
              have hii : i < (kb en).size := HAll.out en hmem
              have HKn2 := Aside0.mk (fun W : World => key_k en hri W)
              have hgk : (kb en)[i] = byteAt en i := gk8 en i hii
              have g7 : decide ((i : Int) < ((kb en).size : Int)) = true := decide_eq_true (by omega)
              have g8 : ((i : Int) < ((kb en).size : Int)) = True := eq_true (by omega)
              obtain ⟨ad2, eA2, hx_0, hx_1⟩ := at_T23 HC.out (n : Int) (by omega) (by rw [List.length_cons]; omega)
              injection eA2 with eA2
              subst eA2
              rw [Int.toNat_natCast] at hx_0
              rw [rd8, ← hen] at hx_0
              have hx := (HB.out.cell (World.block_lt_of_cell? w0 _ hx_0)).trans hx_0
              have p0 : decide ((n : Int) < (M : Int)) = true := decide_eq_true (by omega)
              have p1 : decide (n < M) = true := decide_eq_true hnM
              have p2 : (n < M) = True := eq_true hnM
              have p3 : ((n : Int) < (M : Int)) = True := eq_true (by omega)
              have p4 : (0 ≤ (n : Int)) = True := eq_true (by omega)
              by_cases hnG : n ≤ G
              · have hsame : byteAt en i = byteAt e i := by
                  obtain ⟨n', rfl⟩ : ∃ n', n = n' + 1 := ⟨n - 1, by omega⟩
                  rw [hen, List.getD_cons_succ]
                  exact HIN.out n' (by omega)
                have hb1 : (((byteAt en i).toNat : Int) == ((byteAt e i).toNat : Int)) = true := by rw [hsame]; simp
                have hinc : wrap64 ((n : Int) + 1) = ((n + 1 : Nat) : Int) := by have := N1.out; rw [List.length_cons] at this; rw [w64 _ (by omega) (by omega)]; omega
                rw [hsame] at hgk
                clear hx_0 hx_1 hsame hri hmem hen hm hgr
                go_wp2_with (first
                  | (go_at_call 32; (with_reducible refine (HKn2.out _).mono ?_); rintro e' w' ⟨rfl, ⟨nd, rfl⟩⟩))
                go_roundg (gk - 1)
                case measure => omega
                case rel => exact ⟨n + 1, by rw [hinc], ⟨by omega⟩, ⟨by omega⟩, ⟨isb_drewN HW.out _⟩, ⟨pw_below_drewN HB.out _⟩⟩
              · have hnG2 : n = G + 1 := by omega
                have hne : byteAt en i ≠ byteAt e i := by
                  rw [hen, hnG2, List.getD_cons_succ]
                  exact HOUT.out (by omega)
                have hb1 : (((byteAt en i).toNat : Int) == ((byteAt e i).toNat : Int)) = false := by rw [toNat_beq]; exact beq_eq_false_iff_ne.2 hne
                have HNG := Aside0.mk hnG2
                clear hx_0 hx_1 hne hri hmem hen hm hgr hnG hnG2
                obtain ⟨y1, hy1⟩ : ∃ y, y = x1 ++ [91] ++ [byteAt e i] ++ t := ⟨_, rfl⟩
                have HY : Aside0 (y1 ++ [93] ++ o2 = T) := ⟨by have := HX.out; rw [HO1.out] at this; rw [← this, hy1]; simp⟩
                have hTl := HT.out
                have hYl := congrArg List.length HY.out
                simp only [List.length_append, List.length_cons, List.length_nil] at hYl
                have hyl := congrArg List.length hy1
                simp only [List.length_append, List.length_cons, List.length_nil] at hyl
                have HLA : Aside0 (x1.length + 1 ≤ 1000000) := ⟨by omega⟩
                have HLB : Aside0 ((x1 ++ [91]).length + 1 ≤ 1000000) := ⟨by simp only [List.length_append, List.length_cons, List.length_nil]; omega⟩
                have HLC : Aside0 (x1.length + 2 + t.length + 1 ≤ 1000000) := ⟨by omega⟩
                have HLD : Aside0 (y1.length + 1 ≤ 1000000) := ⟨by omega⟩
                have HY1 := Aside0.mk hy1
                clear hTl hYl hyl hy1
                by_cases hn1e : n = 1
                · have q1 : ((n : Int) == 1) = true := beq_iff_eq.2 (by omega)
                  have q2 : (n == 1) = true := beq_iff_eq.2 hn1e
                  have q3 : ((n : Int) = 1) = True := eq_true (by omega)
                  have hg0 : grp e r i = [] := by have h1 := HNG.out; have h2 := HG.out; exact List.length_eq_zero_iff.1 (by omega)
                  have HTL : Aside0 (t = leafT e) := ⟨by rcases HCase.out with h | h; exact h.2; exact absurd hg0 h.1⟩
                  obtain ⟨D2, hD2⟩ : ∃ D2 : ByteArray, D2 = ⟨(Lib.decDigits e.f0.size).toArray⟩ := ⟨_, rfl⟩
                  have hes := (right_size HKe.out).2
                  have hDs : D2.size ≤ 2 := by rw [hD2]; exact dig_size _ (by omega)
                  have f1 : (9223372036854775807 < 1 + D2.size) = False := eq_false (by omega)
                  have f2 : (9223372036854775807 < 1 + D2.size + 1) = False := eq_false (by omega)
                  have f3 : (9223372036854775807 < 1 + D2.size + 1 + e.f0.size) = False := eq_false (by omega)
                  have f4 : (9223372036854775807 < 1 + D2.size + 1 + e.f0.size + 1) = False := eq_false (by omega)
                  have HE2 : Aside0 (L ((⟨#[60]⟩ : ByteArray) ++ D2 ++ (⟨#[58]⟩ : ByteArray) ++ e.f0 ++ (⟨#[62]⟩ : ByteArray)) = t) := ⟨by rw [HTL.out, L_append, L_append, L_append, L_append, hD2]; simp only [leafT, List.append_assoc]; rfl⟩
                  have HI2 := Aside0.mk (fun W : World => hD2 ▸ Tryd.strconv_Itoa_small e.f0.size (by omega) W)
                  have HN1E := Aside0.mk hn1e
                  clear hn1e hg0 hD2 hes hDs
                  go_wp2_with (first
                    | (go_at_call 32; (with_reducible refine (HKn2.out _).mono ?_); rintro e' w' ⟨rfl, ⟨nd, rfl⟩⟩)
                    | (go_at_call 33; (with_reducible refine (wbyteI w0.heap.size b _ _ 91 _ (by decide) (by repeat (first | exact HW.out | refine isb_drewN ?_ _ | refine isb_drew ?_)) HLA.out (Below.size (by repeat (first | exact HB.out | apply pw_below_drewN | apply below_drew1)))).mono ?_); rintro e_ w3 ⟨rfl, h1_, h2_⟩; have n0_ := Aside0.mk h1_; have n1_ := Aside0.mk (Below.trans (by repeat (first | exact HB.out | apply pw_below_drewN | apply below_drew1)) h2_); clear HW HB h1_ h2_; have HW := n0_; have HB := n1_; clear n0_ n1_)
                    | (go_at_call 33; (with_reducible refine (wbyteI w0.heap.size b _ _ (byteAt e i) _ (by rfl) (by repeat (first | exact HW.out | refine isb_drewN ?_ _ | refine isb_drew ?_)) HLB.out (Below.size (by repeat (first | exact HB.out | apply pw_below_drewN | apply below_drew1)))).mono ?_); rintro e_ w4 ⟨rfl, h1_, h2_⟩; have n0_ := Aside0.mk h1_; have n1_ := Aside0.mk (Below.trans (by repeat (first | exact HB.out | apply pw_below_drewN | apply below_drew1)) h2_); clear HW HB h1_ h2_; have HW := n0_; have HB := n1_; clear n0_ n1_))
                  have rcS : w4.drew.cell? ad1 = some (.string e.f0) := (HB.out.cell (World.block_lt_of_cell? w0 _ hx0.out)).trans hx0.out
                  go_region_held3 (fun w' => w'.cell? ad1 = some (.string e.f0)) (first | exact rcS | go_keep)
                    (first
                      | (go_at_call 31; (with_reducible refine (HI2.out _).mono ?_); rintro e_ w' ⟨rfl, rfl⟩)
                      | (go_at_call 30; (with_reducible refine (wstr w0.heap.size b _ _ _ (isb_drew HW.out) ?cl (below_drew1 HB.out).size).mono ?_); (case cl => rw [← size_L, HE2.out]; simp only [List.length_append, List.length_cons, List.length_nil]; have := HLC.out; omega); rintro e_ w5 ⟨rfl, h1_, h2_⟩; have n0_ := Aside0.mk h1_; have n1_ := Aside0.mk (Below.trans (below_drew1 HB.out) h2_); clear HW HB h1_ h2_; have HW := n0_; have HB := n1_; clear n0_ n1_; have rcS : w5.cell? ad1 = some (.string e.f0) := (HB.out.cell (World.block_lt_of_cell? w0 _ hx0.out)).trans hx0.out))
                  all_goals
                    have HWy : Aside0 (Lib.IsBuilder 49 5 w0.heap.size b (Lib.byteCells y1) w5) := ⟨isb_len _ _ _ _ _ HW.out (by rw [HE2.out]; exact HY1.out.symm)⟩
                    clear HW rcS HE2 HI2 HTL HN1E
                    have HW := HWy
                    clear HWy
                    have hnv := HNG.out
                    have hgr := HGr.out
                    have hmv := HM.out
                    rw [List.length_cons] at hmv
                    obtain ⟨m2, hm2⟩ : ∃ m2, m2 = r.drop G := ⟨_, rfl⟩
                    have hm2l : m2.length = M - n := by rw [hm2, List.length_drop]; omega
                    have hdr : (e :: r).drop n = m2 := by rw [hnv, List.drop_succ_cons, hm2]
                    obtain ⟨i0_, hi0_, _, hsz_, _⟩ := info_parts info23_8
                    have hcut := cut_from (P := Tryd.prog) 25 23 .i64 Tryd.underlying25 hi0_ 2 hsz_ (some ad1) M c1 (n : Int) (by omega) (by omega)
                    have hr_ := Kd.C_drop (m := n) (c := c1) HC.out (by rw [List.length_cons]; omega) N2.out
                    rw [hdr] at hr_
                    rw [Int.toNat_natCast, ← hm2l] at hcut
                    obtain ⟨A2, hA2⟩ : ∃ A2, A2 = (if c1 = n then (some ad1) else ((some ad1) : Option Addr).map (·.add (n * 2))) := ⟨_, rfl⟩
                    obtain ⟨c2, hc2⟩ : ∃ c2, c2 = c1 - n := ⟨_, rfl⟩
                    rw [← hA2, ← hc2] at hcut
                    have HC2 : Aside0 (Kd.C k23 w0 A2 m2.length m2) := ⟨by rw [hA2]; exact hr_⟩
                    have HL2 : Aside0 (m2.length ≤ c2) := ⟨by have := N2.out; rw [List.length_cons] at this; omega⟩
                    have HL3 : Aside0 (m2.length ≤ 1000) := ⟨by have := N1.out; rw [List.length_cons] at this; omega⟩
                    have HR2 : Aside0 (∀ x ∈ m2, Right (L x.f0)) := ⟨fun x hx => HR.out x (List.mem_of_mem_drop (by rw [hdr]; exact hx))⟩
                    have HO2 : Aside0 (bod k1 m2 i = some o2) := ⟨by rw [hm2, HG.out]; exact HRest.out⟩
                    clear hm2 hm2l hdr hi0_ hsz_ hr_ hA2 hc2 hnv hgr hmv
                    go_wp2_with (first
                      | (go_at_call 33; (with_reducible refine (wbyteI w0.heap.size b _ _ 93 _ (by decide) (by repeat (first | exact HW.out | refine isb_drewN ?_ _ | refine isb_drew ?_)) HLD.out (Below.size (by repeat (first | exact HB.out | apply pw_below_drewN | apply below_drew1)))).mono ?_); rintro e_ w6 ⟨rfl, h1_, h2_⟩; have n0_ := Aside0.mk h1_; have n1_ := Aside0.mk (Below.trans (by repeat (first | exact HB.out | apply pw_below_drewN | apply below_drew1)) h2_); clear HW HB h1_ h2_; have HW := n0_; have HB := n1_; clear n0_ n1_))
                    go_roundg k1
                    case measure => omega
                    case rel => exact ⟨m2, A2, c2, o2, y1 ++ [93], rfl, HO2, ⟨by have := HKq.out; omega⟩, HY, HW, HC2, HL2, HL3, HR2, HB⟩
                · have q1 : ((n : Int) == 1) = false := beq_eq_false_iff_ne.2 (by omega)
                  have q2 : (n == 1) = false := beq_eq_false_iff_ne.2 hn1e
                  have q3 : ((n : Int) = 1) = False := eq_false (by omega)
                  have hnv := HNG.out
                  have hgr := HGr.out
                  have hmv := HM.out
                  rw [List.length_cons] at hmv
                  have hgne : grp e r i ≠ [] := by intro h; have h2 := HG.out; rw [h] at h2; simp only [List.length_nil] at h2; omega
                  obtain ⟨o3, ho3, ht3⟩ : ∃ o3, bod k1 (e :: grp e r i) (alk (e :: grp e r i) (i + 1)) = some o3 ∧ t = opnT (e :: grp e r i) (i + 1) (alk (e :: grp e r i) (i + 1)) ++ o3 ++ [41] := by
                    rcases HCase.out with h | h
                    · exact absurd h.1 hgne
                    · exact h.2
                  obtain ⟨gl, hgl⟩ : ∃ gl, gl = e :: grp e r i := ⟨_, rfl⟩
                  have hglt : gl = (e :: r).take n := by rw [hgl, hnv, HG.out]; exact (grp_take e r i).symm
                  have hgll : gl.length = n := by rw [hglt, List.length_take, List.length_cons]; omega
                  rw [← hgl] at ho3 ht3
                  have hsub_ : ∀ x ∈ gl, x ∈ e :: r := fun x hx => List.mem_of_mem_take (hglt ▸ hx)
                  have hg0_ : 0 < gl.length := by omega
                  have hR1_ := HR.out _ (hsub_ _ (fst8_mem hg0_))
                  have hR2_ := HR.out _ (hsub_ _ (lst8_mem hg0_))
                  have hA1_ := HAll.out _ (hsub_ _ (fst8_mem hg0_))
                  have hA2_ := HAll.out _ (hsub_ _ (lst8_mem hg0_))
                  have hCg : Kd.C k23 w0 (some ad1) gl.length gl := by rw [hglt]; exact Kd.C_take HC.out (by rw [List.length_cons]; omega)
                  have hN2 := N2.out
                  have hN1 := N1.out
                  rw [List.length_cons] at hN1 hN2
                  obtain ⟨j, hj⟩ : ∃ j, j = i + 1 := ⟨_, rfl⟩
                  obtain ⟨a, ha⟩ : ∃ a, a = alk gl j := ⟨_, rfl⟩
                  have hal := alk_le gl j (by omega)
                  have hle := le_alk gl j
                  have hks := kb_size (fst8 gl)
                  have hrs := (right_size hR1_).2
                  have hwj : IntKind.i64.wrap ((i : Int) + 1) = (j : Int) := by rw [i64_w, w64 _ (by omega) (by omega)]; omega
                  have HAL : Aside0 (∀ W, Below w0.heap.size w0 W → Calls Tryd.prog 34 #[.slice (some ad1) n c1, .int .i64 (j : Int)] W fun e w' => e = .returned (.int .i64 (a : Int)) ∧ Drawn0 W w') := ⟨fun W hW => by
                    have h := alike_c (some ad1) c1 gl j W (Kd.C_below hCg hW) (by omega) hg0_ (by omega) hR1_ hR2_ (by omega) (by omega)
                    rw [hgll, ← ha] at h
                    exact h⟩
                  have HIH : Aside0 (∀ W, Below w0.heap.size w0 W → Lib.IsBuilder 49 5 w0.heap.size b (Lib.byteCells (x1 ++ [91] ++ [byteAt e i])) W → Calls Tryd.prog 24 #[.pointer (some ⟨b, 0, none⟩), .slice (some ad1) n c1, .int .i64 (j : Int), .int .i64 (a : Int)] W fun e' w' => e' = .returned (.tuple #[]) ∧ Lib.IsBuilder 49 5 w0.heap.size b (Lib.byteCells y1) w' ∧ Below w0.heap.size w0 w') := ⟨fun W hW hb_ => by
                    have hlc := HLC.out
                    have htl := congrArg List.length ht3
                    simp only [List.length_append, List.length_cons, List.length_nil] at htl
                    have h := IH'.out k1 (by have := HKq.out; omega) gl j a o3 (x1 ++ [91] ++ [byteAt e i]) (some ad1) c1 W (by rw [ha, hj]; exact ho3) (fun x hx => HR.out x (hsub_ x hx)) (by omega) (by omega) (by omega) (by omega) (fun _ => by omega) hCg (by omega) hW hb_ (by simp only [List.length_append, List.length_cons, List.length_nil]; rw [ha, hj]; omega)
                    rw [hgll] at h
                    refine h.mono ?_
                    rintro e' w' ⟨rfl, h1, h2⟩
                    exact ⟨rfl, isb_len _ _ _ _ _ h1 (by rw [HY1.out, ht3, ha, hj]; simp only [List.append_assoc]), h2⟩⟩
                  obtain ⟨i0_, hi0_, _, hsz_, _⟩ := info_parts info23_8
                  have hcut := cut_to (P := Tryd.prog) 25 23 .i64 Tryd.underlying25 hi0_ (some ad1) M c1 (n : Int) (by omega) (by omega) (by omega)
                  rw [Int.toNat_natCast] at hcut
                  clear hnv hgr hmv hgne ho3 ht3 hglt hgll hsub_ hg0_ hR1_ hR2_ hA1_ hA2_ hCg hN1 hN2 ha hj hal hle hks hrs hi0_ hsz_ hgl
                  go_wp2_with (first
                    | (go_at_call 32; (with_reducible refine (HKn2.out _).mono ?_); rintro e' w' ⟨rfl, ⟨nd, rfl⟩⟩)
                    | (go_at_call 33; (with_reducible refine (wbyteI w0.heap.size b _ _ 91 _ (by decide) (by repeat (first | exact HW.out | refine isb_drewN ?_ _ | refine isb_drew ?_)) HLA.out (Below.size (by repeat (first | exact HB.out | apply pw_below_drewN | apply below_drew1)))).mono ?_); rintro e_ w3 ⟨rfl, h1_, h2_⟩; have n0_ := Aside0.mk h1_; have n1_ := Aside0.mk (Below.trans (by repeat (first | exact HB.out | apply pw_below_drewN | apply below_drew1)) h2_); clear HW HB h1_ h2_; have HW := n0_; have HB := n1_; clear n0_ n1_)
                    | (go_at_call 33; (with_reducible refine (wbyteI w0.heap.size b _ _ (byteAt e i) _ (by rfl) (by repeat (first | exact HW.out | refine isb_drewN ?_ _ | refine isb_drew ?_)) HLB.out (Below.size (by repeat (first | exact HB.out | apply pw_below_drewN | apply below_drew1)))).mono ?_); rintro e_ w4 ⟨rfl, h1_, h2_⟩; have n0_ := Aside0.mk h1_; have n1_ := Aside0.mk (Below.trans (by repeat (first | exact HB.out | apply pw_below_drewN | apply below_drew1)) h2_); clear HW HB h1_ h2_; have HW := n0_; have HB := n1_; clear n0_ n1_))
                  go_region_held3 (fun _ => True) (exact trivial)
                    (first
                      | (go_at_call 34; (with_reducible refine (HAL.out _ (below_drew1 HB.out)).mono ?_); rintro e_ w' ⟨rfl, ⟨nd5, rfl⟩⟩)
                      | (go_at_call 24; (with_reducible refine (HIH.out _ (pw_below_drewN HB.out _) (isb_drewN HW.out _)).mono ?_); rintro e_ w5 ⟨rfl, h1_, h2_⟩; have n0_ := Aside0.mk h1_; have n1_ := Aside0.mk h2_; clear HW HB h1_ h2_; have HW := n0_; have HB := n1_; clear n0_ n1_))
                  all_goals
                    clear hcut HAL HIH hwj
                    have hnv := HNG.out
                    have hgr := HGr.out
                    have hmv := HM.out
                    rw [List.length_cons] at hmv
                    obtain ⟨m2, hm2⟩ : ∃ m2, m2 = r.drop G := ⟨_, rfl⟩
                    have hm2l : m2.length = M - n := by rw [hm2, List.length_drop]; omega
                    have hdr : (e :: r).drop n = m2 := by rw [hnv, List.drop_succ_cons, hm2]
                    obtain ⟨i0_, hi0_, _, hsz_, _⟩ := info_parts info23_8
                    have hcut := cut_from (P := Tryd.prog) 25 23 .i64 Tryd.underlying25 hi0_ 2 hsz_ (some ad1) M c1 (n : Int) (by omega) (by omega)
                    have hr_ := Kd.C_drop (m := n) (c := c1) HC.out (by rw [List.length_cons]; omega) N2.out
                    rw [hdr] at hr_
                    rw [Int.toNat_natCast, ← hm2l] at hcut
                    obtain ⟨A2, hA2⟩ : ∃ A2, A2 = (if c1 = n then (some ad1) else ((some ad1) : Option Addr).map (·.add (n * 2))) := ⟨_, rfl⟩
                    obtain ⟨c2, hc2⟩ : ∃ c2, c2 = c1 - n := ⟨_, rfl⟩
                    rw [← hA2, ← hc2] at hcut
                    have HC2 : Aside0 (Kd.C k23 w0 A2 m2.length m2) := ⟨by rw [hA2]; exact hr_⟩
                    have HL2 : Aside0 (m2.length ≤ c2) := ⟨by have := N2.out; rw [List.length_cons] at this; omega⟩
                    have HL3 : Aside0 (m2.length ≤ 1000) := ⟨by have := N1.out; rw [List.length_cons] at this; omega⟩
                    have HR2 : Aside0 (∀ x ∈ m2, Right (L x.f0)) := ⟨fun x hx => HR.out x (List.mem_of_mem_drop (by rw [hdr]; exact hx))⟩
                    have HO2 : Aside0 (bod k1 m2 i = some o2) := ⟨by rw [hm2, HG.out]; exact HRest.out⟩
                    clear hm2 hm2l hdr hi0_ hsz_ hr_ hA2 hc2 hnv hgr hmv
                    go_wp2_with (first
                      | (go_at_call 33; (with_reducible refine (wbyteI w0.heap.size b _ _ 93 _ (by decide) (by repeat (first | exact HW.out | refine isb_drewN ?_ _ | refine isb_drew ?_)) HLD.out (Below.size (by repeat (first | exact HB.out | apply pw_below_drewN | apply below_drew1)))).mono ?_); rintro e_ w6 ⟨rfl, h1_, h2_⟩; have n0_ := Aside0.mk h1_; have n1_ := Aside0.mk (Below.trans (by repeat (first | exact HB.out | apply pw_below_drewN | apply below_drew1)) h2_); clear HW HB h1_ h2_; have HW := n0_; have HB := n1_; clear n0_ n1_))
                    go_roundg k1
                    case measure => omega
                    case rel => exact ⟨m2, A2, c2, o2, y1 ++ [93], rfl, HO2, ⟨by have := HKq.out; omega⟩, HY, HW, HC2, HL2, HL3, HR2, HB⟩
            · have hnG2 : n = G + 1 := by omega
              have p0 : decide ((n : Int) < (M : Int)) = false := decide_eq_false (by omega)
              have p1 : decide (n < M) = false := decide_eq_false hnM
              have HNG := Aside0.mk hnG2
              clear hm hgr hnG2
              obtain ⟨y1, hy1⟩ : ∃ y, y = x1 ++ [91] ++ [byteAt e i] ++ t := ⟨_, rfl⟩
              have HY : Aside0 (y1 ++ [93] ++ o2 = T) := ⟨by have := HX.out; rw [HO1.out] at this; rw [← this, hy1]; simp⟩
              have hTl := HT.out
              have hYl := congrArg List.length HY.out
              simp only [List.length_append, List.length_cons, List.length_nil] at hYl
              have hyl := congrArg List.length hy1
              simp only [List.length_append, List.length_cons, List.length_nil] at hyl
              have HLA : Aside0 (x1.length + 1 ≤ 1000000) := ⟨by omega⟩
              have HLB : Aside0 ((x1 ++ [91]).length + 1 ≤ 1000000) := ⟨by simp only [List.length_append, List.length_cons, List.length_nil]; omega⟩
              have HLC : Aside0 (x1.length + 2 + t.length + 1 ≤ 1000000) := ⟨by omega⟩
              have HLD : Aside0 (y1.length + 1 ≤ 1000000) := ⟨by omega⟩
              have HY1 := Aside0.mk hy1
              clear hTl hYl hyl hy1
              by_cases hn1e : n = 1
              · have q1 : ((n : Int) == 1) = true := beq_iff_eq.2 (by omega)
                have q2 : (n == 1) = true := beq_iff_eq.2 hn1e
                have q3 : ((n : Int) = 1) = True := eq_true (by omega)
                have hg0 : grp e r i = [] := by have h1 := HNG.out; have h2 := HG.out; exact List.length_eq_zero_iff.1 (by omega)
                have HTL : Aside0 (t = leafT e) := ⟨by rcases HCase.out with h | h; exact h.2; exact absurd hg0 h.1⟩
                obtain ⟨D2, hD2⟩ : ∃ D2 : ByteArray, D2 = ⟨(Lib.decDigits e.f0.size).toArray⟩ := ⟨_, rfl⟩
                have hes := (right_size HKe.out).2
                have hDs : D2.size ≤ 2 := by rw [hD2]; exact dig_size _ (by omega)
                have f1 : (9223372036854775807 < 1 + D2.size) = False := eq_false (by omega)
                have f2 : (9223372036854775807 < 1 + D2.size + 1) = False := eq_false (by omega)
                have f3 : (9223372036854775807 < 1 + D2.size + 1 + e.f0.size) = False := eq_false (by omega)
                have f4 : (9223372036854775807 < 1 + D2.size + 1 + e.f0.size + 1) = False := eq_false (by omega)
                have HE2 : Aside0 (L ((⟨#[60]⟩ : ByteArray) ++ D2 ++ (⟨#[58]⟩ : ByteArray) ++ e.f0 ++ (⟨#[62]⟩ : ByteArray)) = t) := ⟨by rw [HTL.out, L_append, L_append, L_append, L_append, hD2]; simp only [leafT, List.append_assoc]; rfl⟩
                have HI2 := Aside0.mk (fun W : World => hD2 ▸ Tryd.strconv_Itoa_small e.f0.size (by omega) W)
                have HN1E := Aside0.mk hn1e
                clear hn1e hg0 hD2 hes hDs
                go_wp2_with (first
                  | (go_at_call 33; (with_reducible refine (wbyteI w0.heap.size b _ _ 91 _ (by decide) (by repeat (first | exact HW.out | refine isb_drewN ?_ _ | refine isb_drew ?_)) HLA.out (Below.size (by repeat (first | exact HB.out | apply pw_below_drewN | apply below_drew1)))).mono ?_); rintro e_ w3 ⟨rfl, h1_, h2_⟩; have n0_ := Aside0.mk h1_; have n1_ := Aside0.mk (Below.trans (by repeat (first | exact HB.out | apply pw_below_drewN | apply below_drew1)) h2_); clear HW HB h1_ h2_; have HW := n0_; have HB := n1_; clear n0_ n1_)
                  | (go_at_call 33; (with_reducible refine (wbyteI w0.heap.size b _ _ (byteAt e i) _ (by rfl) (by repeat (first | exact HW.out | refine isb_drewN ?_ _ | refine isb_drew ?_)) HLB.out (Below.size (by repeat (first | exact HB.out | apply pw_below_drewN | apply below_drew1)))).mono ?_); rintro e_ w4 ⟨rfl, h1_, h2_⟩; have n0_ := Aside0.mk h1_; have n1_ := Aside0.mk (Below.trans (by repeat (first | exact HB.out | apply pw_below_drewN | apply below_drew1)) h2_); clear HW HB h1_ h2_; have HW := n0_; have HB := n1_; clear n0_ n1_))
                have rcS : w4.drew.cell? ad1 = some (.string e.f0) := (HB.out.cell (World.block_lt_of_cell? w0 _ hx0.out)).trans hx0.out
                go_region_held3 (fun w' => w'.cell? ad1 = some (.string e.f0)) (first | exact rcS | go_keep)
                  (first
                    | (go_at_call 31; (with_reducible refine (HI2.out _).mono ?_); rintro e_ w' ⟨rfl, rfl⟩)
                    | (go_at_call 30; (with_reducible refine (wstr w0.heap.size b _ _ _ (isb_drew HW.out) ?cl (below_drew1 HB.out).size).mono ?_); (case cl => rw [← size_L, HE2.out]; simp only [List.length_append, List.length_cons, List.length_nil]; have := HLC.out; omega); rintro e_ w5 ⟨rfl, h1_, h2_⟩; have n0_ := Aside0.mk h1_; have n1_ := Aside0.mk (Below.trans (below_drew1 HB.out) h2_); clear HW HB h1_ h2_; have HW := n0_; have HB := n1_; clear n0_ n1_; have rcS : w5.cell? ad1 = some (.string e.f0) := (HB.out.cell (World.block_lt_of_cell? w0 _ hx0.out)).trans hx0.out))
                all_goals
                  have HWy : Aside0 (Lib.IsBuilder 49 5 w0.heap.size b (Lib.byteCells y1) w5) := ⟨isb_len _ _ _ _ _ HW.out (by rw [HE2.out]; exact HY1.out.symm)⟩
                  clear HW rcS HE2 HI2 HTL HN1E
                  have HW := HWy
                  clear HWy
                  have hnv := HNG.out
                  have hgr := HGr.out
                  have hmv := HM.out
                  rw [List.length_cons] at hmv
                  obtain ⟨m2, hm2⟩ : ∃ m2, m2 = r.drop G := ⟨_, rfl⟩
                  have hm2l : m2.length = M - n := by rw [hm2, List.length_drop]; omega
                  have hdr : (e :: r).drop n = m2 := by rw [hnv, List.drop_succ_cons, hm2]
                  obtain ⟨i0_, hi0_, _, hsz_, _⟩ := info_parts info23_8
                  have hcut := cut_from (P := Tryd.prog) 25 23 .i64 Tryd.underlying25 hi0_ 2 hsz_ (some ad1) M c1 (n : Int) (by omega) (by omega)
                  have hr_ := Kd.C_drop (m := n) (c := c1) HC.out (by rw [List.length_cons]; omega) N2.out
                  rw [hdr] at hr_
                  rw [Int.toNat_natCast, ← hm2l] at hcut
                  obtain ⟨A2, hA2⟩ : ∃ A2, A2 = (if c1 = n then (some ad1) else ((some ad1) : Option Addr).map (·.add (n * 2))) := ⟨_, rfl⟩
                  obtain ⟨c2, hc2⟩ : ∃ c2, c2 = c1 - n := ⟨_, rfl⟩
                  rw [← hA2, ← hc2] at hcut
                  have HC2 : Aside0 (Kd.C k23 w0 A2 m2.length m2) := ⟨by rw [hA2]; exact hr_⟩
                  have HL2 : Aside0 (m2.length ≤ c2) := ⟨by have := N2.out; rw [List.length_cons] at this; omega⟩
                  have HL3 : Aside0 (m2.length ≤ 1000) := ⟨by have := N1.out; rw [List.length_cons] at this; omega⟩
                  have HR2 : Aside0 (∀ x ∈ m2, Right (L x.f0)) := ⟨fun x hx => HR.out x (List.mem_of_mem_drop (by rw [hdr]; exact hx))⟩
                  have HO2 : Aside0 (bod k1 m2 i = some o2) := ⟨by rw [hm2, HG.out]; exact HRest.out⟩
                  clear hm2 hm2l hdr hi0_ hsz_ hr_ hA2 hc2 hnv hgr hmv
                  go_wp2_with (first
                    | (go_at_call 33; (with_reducible refine (wbyteI w0.heap.size b _ _ 93 _ (by decide) (by repeat (first | exact HW.out | refine isb_drewN ?_ _ | refine isb_drew ?_)) HLD.out (Below.size (by repeat (first | exact HB.out | apply pw_below_drewN | apply below_drew1)))).mono ?_); rintro e_ w6 ⟨rfl, h1_, h2_⟩; have n0_ := Aside0.mk h1_; have n1_ := Aside0.mk (Below.trans (by repeat (first | exact HB.out | apply pw_below_drewN | apply below_drew1)) h2_); clear HW HB h1_ h2_; have HW := n0_; have HB := n1_; clear n0_ n1_))
                  go_roundg k1
                  case measure => omega
                  case rel => exact ⟨m2, A2, c2, o2, y1 ++ [93], rfl, HO2, ⟨by have := HKq.out; omega⟩, HY, HW, HC2, HL2, HL3, HR2, HB⟩
              · have q1 : ((n : Int) == 1) = false := beq_eq_false_iff_ne.2 (by omega)
                have q2 : (n == 1) = false := beq_eq_false_iff_ne.2 hn1e
                have q3 : ((n : Int) = 1) = False := eq_false (by omega)
                have hnv := HNG.out
                have hgr := HGr.out
                have hmv := HM.out
                rw [List.length_cons] at hmv
                have hgne : grp e r i ≠ [] := by intro h; have h2 := HG.out; rw [h] at h2; simp only [List.length_nil] at h2; omega
                obtain ⟨o3, ho3, ht3⟩ : ∃ o3, bod k1 (e :: grp e r i) (alk (e :: grp e r i) (i + 1)) = some o3 ∧ t = opnT (e :: grp e r i) (i + 1) (alk (e :: grp e r i) (i + 1)) ++ o3 ++ [41] := by
                  rcases HCase.out with h | h
                  · exact absurd h.1 hgne
                  · exact h.2
                obtain ⟨gl, hgl⟩ : ∃ gl, gl = e :: grp e r i := ⟨_, rfl⟩
                have hglt : gl = (e :: r).take n := by rw [hgl, hnv, HG.out]; exact (grp_take e r i).symm
                have hgll : gl.length = n := by rw [hglt, List.length_take, List.length_cons]; omega
                rw [← hgl] at ho3 ht3
                have hsub_ : ∀ x ∈ gl, x ∈ e :: r := fun x hx => List.mem_of_mem_take (hglt ▸ hx)
                have hg0_ : 0 < gl.length := by omega
                have hR1_ := HR.out _ (hsub_ _ (fst8_mem hg0_))
                have hR2_ := HR.out _ (hsub_ _ (lst8_mem hg0_))
                have hA1_ := HAll.out _ (hsub_ _ (fst8_mem hg0_))
                have hA2_ := HAll.out _ (hsub_ _ (lst8_mem hg0_))
                have hCg : Kd.C k23 w0 (some ad1) gl.length gl := by rw [hglt]; exact Kd.C_take HC.out (by rw [List.length_cons]; omega)
                have hN2 := N2.out
                have hN1 := N1.out
                rw [List.length_cons] at hN1 hN2
                obtain ⟨j, hj⟩ : ∃ j, j = i + 1 := ⟨_, rfl⟩
                obtain ⟨a, ha⟩ : ∃ a, a = alk gl j := ⟨_, rfl⟩
                have hal := alk_le gl j (by omega)
                have hle := le_alk gl j
                have hks := kb_size (fst8 gl)
                have hrs := (right_size hR1_).2
                have hwj : IntKind.i64.wrap ((i : Int) + 1) = (j : Int) := by rw [i64_w, w64 _ (by omega) (by omega)]; omega
                have HAL : Aside0 (∀ W, Below w0.heap.size w0 W → Calls Tryd.prog 34 #[.slice (some ad1) n c1, .int .i64 (j : Int)] W fun e w' => e = .returned (.int .i64 (a : Int)) ∧ Drawn0 W w') := ⟨fun W hW => by
                  have h := alike_c (some ad1) c1 gl j W (Kd.C_below hCg hW) (by omega) hg0_ (by omega) hR1_ hR2_ (by omega) (by omega)
                  rw [hgll, ← ha] at h
                  exact h⟩
                have HIH : Aside0 (∀ W, Below w0.heap.size w0 W → Lib.IsBuilder 49 5 w0.heap.size b (Lib.byteCells (x1 ++ [91] ++ [byteAt e i])) W → Calls Tryd.prog 24 #[.pointer (some ⟨b, 0, none⟩), .slice (some ad1) n c1, .int .i64 (j : Int), .int .i64 (a : Int)] W fun e' w' => e' = .returned (.tuple #[]) ∧ Lib.IsBuilder 49 5 w0.heap.size b (Lib.byteCells y1) w' ∧ Below w0.heap.size w0 w') := ⟨fun W hW hb_ => by
                  have hlc := HLC.out
                  have htl := congrArg List.length ht3
                  simp only [List.length_append, List.length_cons, List.length_nil] at htl
                  have h := IH'.out k1 (by have := HKq.out; omega) gl j a o3 (x1 ++ [91] ++ [byteAt e i]) (some ad1) c1 W (by rw [ha, hj]; exact ho3) (fun x hx => HR.out x (hsub_ x hx)) (by omega) (by omega) (by omega) (by omega) (fun _ => by omega) hCg (by omega) hW hb_ (by simp only [List.length_append, List.length_cons, List.length_nil]; rw [ha, hj]; omega)
                  rw [hgll] at h
                  refine h.mono ?_
                  rintro e' w' ⟨rfl, h1, h2⟩
                  exact ⟨rfl, isb_len _ _ _ _ _ h1 (by rw [HY1.out, ht3, ha, hj]; simp only [List.append_assoc]), h2⟩⟩
                obtain ⟨i0_, hi0_, _, hsz_, _⟩ := info_parts info23_8
                have hcut := cut_to (P := Tryd.prog) 25 23 .i64 Tryd.underlying25 hi0_ (some ad1) M c1 (n : Int) (by omega) (by omega) (by omega)
                rw [Int.toNat_natCast] at hcut
                clear hnv hgr hmv hgne ho3 ht3 hglt hgll hsub_ hg0_ hR1_ hR2_ hA1_ hA2_ hCg hN1 hN2 ha hj hal hle hks hrs hi0_ hsz_ hgl
                go_wp2_with (first
                  | (go_at_call 33; (with_reducible refine (wbyteI w0.heap.size b _ _ 91 _ (by decide) (by repeat (first | exact HW.out | refine isb_drewN ?_ _ | refine isb_drew ?_)) HLA.out (Below.size (by repeat (first | exact HB.out | apply pw_below_drewN | apply below_drew1)))).mono ?_); rintro e_ w3 ⟨rfl, h1_, h2_⟩; have n0_ := Aside0.mk h1_; have n1_ := Aside0.mk (Below.trans (by repeat (first | exact HB.out | apply pw_below_drewN | apply below_drew1)) h2_); clear HW HB h1_ h2_; have HW := n0_; have HB := n1_; clear n0_ n1_)
                  | (go_at_call 33; (with_reducible refine (wbyteI w0.heap.size b _ _ (byteAt e i) _ (by rfl) (by repeat (first | exact HW.out | refine isb_drewN ?_ _ | refine isb_drew ?_)) HLB.out (Below.size (by repeat (first | exact HB.out | apply pw_below_drewN | apply below_drew1)))).mono ?_); rintro e_ w4 ⟨rfl, h1_, h2_⟩; have n0_ := Aside0.mk h1_; have n1_ := Aside0.mk (Below.trans (by repeat (first | exact HB.out | apply pw_below_drewN | apply below_drew1)) h2_); clear HW HB h1_ h2_; have HW := n0_; have HB := n1_; clear n0_ n1_))
                go_region_held3 (fun _ => True) (exact trivial)
                  (first
                    | (go_at_call 34; (with_reducible refine (HAL.out _ (below_drew1 HB.out)).mono ?_); rintro e_ w' ⟨rfl, ⟨nd5, rfl⟩⟩)
                    | (go_at_call 24; (with_reducible refine (HIH.out _ (pw_below_drewN HB.out _) (isb_drewN HW.out _)).mono ?_); rintro e_ w5 ⟨rfl, h1_, h2_⟩; have n0_ := Aside0.mk h1_; have n1_ := Aside0.mk h2_; clear HW HB h1_ h2_; have HW := n0_; have HB := n1_; clear n0_ n1_))
                all_goals
                  clear hcut HAL HIH hwj
                  have hnv := HNG.out
                  have hgr := HGr.out
                  have hmv := HM.out
                  rw [List.length_cons] at hmv
                  obtain ⟨m2, hm2⟩ : ∃ m2, m2 = r.drop G := ⟨_, rfl⟩
                  have hm2l : m2.length = M - n := by rw [hm2, List.length_drop]; omega
                  have hdr : (e :: r).drop n = m2 := by rw [hnv, List.drop_succ_cons, hm2]
                  obtain ⟨i0_, hi0_, _, hsz_, _⟩ := info_parts info23_8
                  have hcut := cut_from (P := Tryd.prog) 25 23 .i64 Tryd.underlying25 hi0_ 2 hsz_ (some ad1) M c1 (n : Int) (by omega) (by omega)
                  have hr_ := Kd.C_drop (m := n) (c := c1) HC.out (by rw [List.length_cons]; omega) N2.out
                  rw [hdr] at hr_
                  rw [Int.toNat_natCast, ← hm2l] at hcut
                  obtain ⟨A2, hA2⟩ : ∃ A2, A2 = (if c1 = n then (some ad1) else ((some ad1) : Option Addr).map (·.add (n * 2))) := ⟨_, rfl⟩
                  obtain ⟨c2, hc2⟩ : ∃ c2, c2 = c1 - n := ⟨_, rfl⟩
                  rw [← hA2, ← hc2] at hcut
                  have HC2 : Aside0 (Kd.C k23 w0 A2 m2.length m2) := ⟨by rw [hA2]; exact hr_⟩
                  have HL2 : Aside0 (m2.length ≤ c2) := ⟨by have := N2.out; rw [List.length_cons] at this; omega⟩
                  have HL3 : Aside0 (m2.length ≤ 1000) := ⟨by have := N1.out; rw [List.length_cons] at this; omega⟩
                  have HR2 : Aside0 (∀ x ∈ m2, Right (L x.f0)) := ⟨fun x hx => HR.out x (List.mem_of_mem_drop (by rw [hdr]; exact hx))⟩
                  have HO2 : Aside0 (bod k1 m2 i = some o2) := ⟨by rw [hm2, HG.out]; exact HRest.out⟩
                  clear hm2 hm2l hdr hi0_ hsz_ hr_ hA2 hc2 hnv hgr hmv
                  go_wp2_with (first
                    | (go_at_call 33; (with_reducible refine (wbyteI w0.heap.size b _ _ 93 _ (by decide) (by repeat (first | exact HW.out | refine isb_drewN ?_ _ | refine isb_drew ?_)) HLD.out (Below.size (by repeat (first | exact HB.out | apply pw_below_drewN | apply below_drew1)))).mono ?_); rintro e_ w6 ⟨rfl, h1_, h2_⟩; have n0_ := Aside0.mk h1_; have n1_ := Aside0.mk (Below.trans (by repeat (first | exact HB.out | apply pw_below_drewN | apply below_drew1)) h2_); clear HW HB h1_ h2_; have HW := n0_; have HB := n1_; clear n0_ n1_))
                  go_roundg k1
                  case measure => omega
                  case rel => exact ⟨m2, A2, c2, o2, y1 ++ [93], rfl, HO2, ⟨by have := HKq.out; omega⟩, HY, HW, HC2, HL2, HL3, HR2, HB⟩
  · have hl0 : l = [] := List.length_eq_zero_iff.1 (by omega)
    subst hl0
    have ho : o = [] := by
      have := HO.out
      cases k with
      | zero => simp [bod] at this
      | succ k => simp only [bod, Option.some.injEq] at this; exact this.symm
    subst ho
    have g0 : decide ((0 : Int) < (([] : List S23).length : Int)) = false := rfl
    have g1 : decide (0 < ([] : List S23).length) = false := rfl
    have HX := HE.out [] (by rw [preT, if_pos rfl])
    rw [List.append_nil, List.append_nil] at HX
    have HX' := Aside0.mk HX
    clear HX HE HO hfst h0 hfi hi hi2
    go_enter Tryd.func24, Tryd.ntmps24
    go_wp2_with (first
      | (go_at_call 31; (with_reducible refine (HI.out _).mono ?_); rintro e w' ⟨rfl, rfl⟩)
      | (go_at_call 30; (with_reducible refine (wstr w0.heap.size b x _ _ HW.out HL1.out HB.out.size).mono ?_); rintro e w1 ⟨rfl, h1_, h2_⟩; have n0_ := Aside0.mk h1_; have n1_ := Aside0.mk (Below.trans HB.out h2_); clear HW HB h1_ h2_; have HW := n0_; have HB := n1_; clear n0_ n1_))
    have HWT : Aside0 (Lib.IsBuilder 49 5 w0.heap.size b (Lib.byteCells T) w1) := ⟨isb_len _ _ _ _ _ HW.out HX'.out⟩
    clear HW
    go_loopg [1] 1 (fun kq v1 w' => v1 = .slice A ([] : List S23).length c ∧ Aside0 (Lib.IsBuilder 49 5 w0.heap.size b (Lib.byteCells T) w') ∧ Aside0 (Below w0.heap.size w0 w'))
    case atStart => exact ⟨rfl, HWT, HB⟩
    case round =>
      clear HWT HB
      obtain ⟨rfl, HWT, HB⟩ := hrel
      go_wp2_with (first
        | (go_at_call 30; (with_reducible refine (wstr w0.heap.size b T _ _ HWT.out ?cl HB.out.size).mono ?_); (case cl => exact HT.out); rintro e w1 ⟨rfl, h1_, h2_⟩))
      go_end0
      exact ⟨rfl, h1_, Below.trans HB.out h2_⟩
/-- the text of a list: shape.Text. -/
theorem text_ (kr : Nat) (A : Option Addr) (c : Nat) (l : List S23) (w : World) (T : ByteArray) (hC : Kd.C k23 w A l.length l) (hc : l.length ≤ c) (hl : l.length ≤ 1000) (rb : Bool) (hr : shape_Right.f kr l = some rb)
    (hf : rb = false → T = (⟨#[]⟩ : ByteArray)) (ht : rb = true → (∀ x ∈ l, Right (L x.f0)) ∧ ∃ k o, bod k l 0 = some o ∧ o.length ≤ 900000 ∧ T = ⟨(opnT l 0 0 ++ o ++ [41]).toArray⟩) :
    Calls Tryd.prog 11 #[.slice A l.length c] w fun e w' => e = .returned (.string T) ∧ Below w.heap.size w w' := by
  have HR := Aside0.mk (fun W : World => fun h : Kd.C k23 W A l.length l => shape_Right.calls kr A c l rb W h hc hr)
  have HC := Aside0.mk hC
  have N2 := Aside0.mk hc
  clear hC hr hc
  cases rb with
  | false =>
    obtain rfl := hf rfl
    clear ht hf
    go_enter Tryd.func11, Tryd.ntmps11
    go_wp2_with (first
      | (go_at_call 17; (with_reducible refine (HR.out _ HC.out).mono ?_); rintro e w1 ⟨rfl, hb⟩))
    go_ret
    exact ⟨rfl, hb⟩
  | true =>
    obtain ⟨hR, k, o, ho, hol, rfl⟩ := ht rfl
    have HRx := Aside0.mk hR
    have HO := Aside0.mk ho
    have hp : preT l 0 0 = [] := by unfold preT; split <;> simp
    have ho2 : (opnT l 0 0).length ≤ 10 := by
      have := dig_len (0 - 0) (by decide)
      unfold opnT
      rw [hp]
      simp only [List.length_cons, List.length_append, List.length_nil]
      omega
    have HL := Aside0.mk (show ([] : List UInt8).length + (opnT l 0 0).length + o.length + 1 ≤ 1000000 from by simp only [List.length_nil]; omega)
    clear hf ht hR ho hp ho2 hol
    go_enter Tryd.func11, Tryd.ntmps11
    go_wp2_with (first
      | (go_at_call 17; (with_reducible refine (HR.out _ HC.out).mono ?_); rintro e w1 ⟨rfl, hb⟩; have HB := Aside0.mk hb; clear hb)
      | (go_at_call 24; refine (inner_ w1 w1.heap.size k l 0 0 o [] A c _ HO.out HRx.out hl (Nat.le_refl _) (by decide) (by decide) (fun _ => Nat.zero_le _) (Kd.C_below HC.out HB.out) N2.out (Below.alloc (Below.refl _ _) (Nat.le_refl _) _) (Lib.fresh_isBuilder 49 5 w1) HL.out).mono ?_; rintro e w2 ⟨rfl, h1_, h2_⟩; have HW := Aside0.mk h1_; have HB2 := Aside0.mk h2_; clear h1_ h2_)
      | (go_at_call 25; (with_reducible refine (Tryd.Builder_String_any w1.heap.size w1.heap.size _ _ HW.out HB2.out.size).mono ?_); rintro e w3 ⟨rfl, h3⟩))
    go_ret
    refine ⟨by rw [List.append_assoc]; rfl, HB.out.trans (Below.mono (Below.trans HB2.out h3) HB.out.size)⟩
end Go.Proofs.YtdjjmnkopoldhaaDoor.Ep
