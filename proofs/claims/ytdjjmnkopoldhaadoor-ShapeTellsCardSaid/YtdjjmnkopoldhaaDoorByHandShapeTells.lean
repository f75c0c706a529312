/- Statement ShapeTells: for any list and any place, Right, Text and Seek tell what the document says, and the list and the room behind it stay; no further condition. -/
import Derived.Test.YtdjjmnkopoldhaaDoorRows
import Derived.Test.YtdjjmnkopoldhaaDoorTie
import Derived.Test.YtdjjmnkopoldhaaDoorCards
import Derived.Test.YtdjjmnkopoldhaaDoorWSized
import Derived.Test.YtdjjmnkopoldhaaDoorLShapeTells
import Derived.Test.YtdjjmnkopoldhaaDoorPBasex6
import Derived.Test.YtdjjmnkopoldhaaDoorPBasex7
import Derived.Test.YtdjjmnkopoldhaaDoorSrt
import Derived.Test.YtdjjmnkopoldhaaDoorPlaB
import Derived.Test.YtdjjmnkopoldhaaDoorRowB
import Derived.WalkKit
import Derived.ProofKit
import Derived.OpenShut
import Derived.ShutString
import Derived.ChangeOld
import Derived.Below
import Derived.SizedLaws
import Derived.Deep.Slices
import Derived.Deep.Fields
import Derived.ChangeSame
import Derived.Deep.RegionLaw
import Derived.Deep.DrawnRows
import Derived.SevenTiedAt
import Derived.LaidMore
import Derived.Stop.Joined
namespace Go.Proofs.YtdjjmnkopoldhaaDoor.shapeTells
open Go.ChangeShapes Go.WideShapes Go.ChangeAt Go.RowKit Go.Deep
open Go.ChangeMaps (open_string shut_string)
open Go Go.Proofs.YtdjjmnkopoldhaaDoorW.PrintWords Go.Proofs.YtdjjmnkopoldhaaDoorW.PrintLast Go.Proofs.YtdjjmnkopoldhaaDoorW.PrintMore Go.Proofs.YtdjjmnkopoldhaaDoor.Ep Go.Proofs.YtdjjmnkopoldhaaDoor.PBase Go.Tx
set_option linter.unusedVariables false
set_option linter.unusedSimpArgs false
theorem digits_small : ∀ n : Nat, n < 100 → tendrilref1_digits.f 3 (n : Int) = some ⟨(Lib.decDigits n).toArray⟩ := by decide +kernel
theorem digits_more (k : Nat) (n : Nat) (h : n < 100) : tendrilref1_digits.f (k + 3) (n : Int) = some ⟨(Lib.decDigits n).toArray⟩ := by
  induction k with
  | zero => rw [Nat.zero_add]; exact digits_small n h
  | succ k ih =>
    have := tendrilref1_digits.mono (n : Int) (k + 3)
    rw [show k + 1 + 3 = k + 3 + 1 by omega]
    exact this _ ih
theorem digits_ge (k n : Nat) (hk : 3 ≤ k) (h : n < 100) : tendrilref1_digits.f k (n : Int) = some ⟨(Lib.decDigits n).toArray⟩ := by
  have := digits_more (k - 3) n h
  rwa [show k - 3 + 3 = k by omega] at this
theorem str1 (b : UInt8) : L (strOfNums [(b.toNat : Int)]) = [b] := by
  simp [strOfNums, L]
theorem rd_at (X : List S23) (pos m : Nat) (l : List S23) (hd : X.drop pos = l) (hm : m < l.length) : rd_T23 X ((pos + m : Nat) : Int) = l.getD m z23 := by
  rw [rd8, ← hd, List.getD_eq_getElem?_getD, List.getD_eq_getElem?_getD, List.getElem?_drop]
theorem len_at (X : List S23) (pos : Nat) (l : List S23) (hd : X.drop pos = l) (h : 0 < l.length) : X.length = pos + l.length := by
  have : (X.drop pos).length = l.length := by rw [hd]
  rw [List.length_drop] at this
  omega
theorem bt_key (e : S23) (i : Nat) (h : i < (kb e).size) : bt (e.f0 ++ (⟨#[0]⟩ : ByteArray)) (i : Int) = ((byteAt e i).toNat : Int) := bt_kb e i h
theorem Shape_l1 (X : List S23) (d p i : Nat) (hdp : d + p = i) (hi : i ≤ 13) (hX : X.length ≤ 1000) (acc : ByteArray) (pos : Nat) (e : S23) (r : List S23) (hd : X.drop pos = e :: r) (hz : ∀ x ∈ e :: r, i < (kb x).size)
    (hR : ∀ x ∈ e :: r, Right (L x.f0)) (hac : acc.size ≤ 2000000) (t u : ByteArray) (B : Nat) (hf : ∀ K, B ≤ K → tendrilref1_Shape.f K (e :: grp e r i) ((i + 1 : Nat) : Int) false = some t) (hts : t.size ≤ 1000000)
    (hu : ∀ K, B ≤ K → tendrilref1_Shape.l0 K X d p ((((acc ++ (⟨#[91]⟩ : ByteArray)) ++ (strOfNums [((byteAt e i).toNat : Int)])) ++ t) ++ (⟨#[93]⟩ : ByteArray)) ((pos + ((grp e r i).length + 1) : Nat) : Int) = some u) (n : Nat) :
    ∀ m K, m ≤ (grp e r i).length + 1 → (grp e r i).length + 1 - m = n → B + 1 + n ≤ K → tendrilref1_Shape.l1 K X d p acc pos ((byteAt e i).toNat : Int) ((pos + m : Nat) : Int) = some u := by
  have hlen := len_at X pos _ hd (by simp)
  rw [List.length_cons] at hlen
  have hg := grp_le e r i
  have hw' := Aside0.mk (show wrap64 ((d : Int) + (p : Int)) = (i : Int) from by rw [w64 _ (by omega) (by omega)]; omega)
  have hw1' := Aside0.mk (show wrap64 ((i : Int) + 1) = ((i + 1 : Nat) : Int) from by rw [w64 _ (by omega) (by omega)]; omega)
  have hs1 := size_L (strOfNums [((byteAt e i).toNat : Int)])
  rw [str1] at hs1
  have hsz : (strOfNums [((byteAt e i).toNat : Int)]).size = 1 := hs1.symm
  have hG : (X.take (pos + ((grp e r i).length + 1))).drop pos = e :: grp e r i := by
    rw [List.drop_take, hd, show pos + ((grp e r i).length + 1) - pos = (grp e r i).length + 1 by omega, grp_take]
  have q1 : (⟨#[91]⟩ : ByteArray).size = 1 := rfl
  -- behind the group
  have cont : ∀ K, B ≤ K → (if acc.size + 1 ≤ 9223372036854775807 then ((some (([((byteAt e i).toNat : Int)] : List Int) : List Int)).bind fun y175 => (if (acc ++ (⟨#[91]⟩ : ByteArray)).size + (strOfNums y175).size ≤ 9223372036854775807 then (if 0 ≤ (pos : Int) then (if (pos : Int) ≤ ((pos + ((grp e r i).length + 1) : Nat) : Int) then (if ((pos + ((grp e r i).length + 1) : Nat) : Int) ≤ (X.length : Int) then ((tendrilref1_Shape.f K ((X.take (((pos + ((grp e r i).length + 1) : Nat) : Int) : Int).toNat).drop ((pos : Int) : Int).toNat) (wrap64 ((wrap64 ((d : Int) + (p : Int))) + 1)) false).bind fun t182 => (if ((acc ++ (⟨#[91]⟩ : ByteArray)) ++ (strOfNums y175)).size + t182.size ≤ 9223372036854775807 then (if (((acc ++ (⟨#[91]⟩ : ByteArray)) ++ (strOfNums y175)) ++ t182).size + 1 ≤ 9223372036854775807 then (tendrilref1_Shape.l0 K X d p ((((acc ++ (⟨#[91]⟩ : ByteArray)) ++ (strOfNums y175)) ++ t182) ++ (⟨#[93]⟩ : ByteArray)) ((pos + ((grp e r i).length + 1) : Nat) : Int)) else (none)) else (none))) else (none)) else (none)) else (none)) else (none))) else (none)) = some u := by
    intro K hK
    rw [if_pos (by omega), Option.bind_some, if_pos (by rw [ByteArray.size_append, hsz, q1]; omega), if_pos (by omega), if_pos (by omega), if_pos (by omega), hw'.out, hw1'.out, Int.toNat_natCast, Int.toNat_natCast, hG, hf K hK, Option.bind_some,
      if_pos (by rw [ByteArray.size_append, ByteArray.size_append, hsz, q1]; omega), if_pos (by rw [ByteArray.size_append, ByteArray.size_append, ByteArray.size_append, hsz, q1]; omega)]
    exact hu K hK
  induction n with
  | zero =>
    intro m K hm hn hK
    have hm1 : m = (grp e r i).length + 1 := by omega
    subst hm1
    obtain ⟨K, rfl⟩ : ∃ q, K = q + 1 := ⟨K - 1, by omega⟩
    simp only [tendrilref1_Shape.l1]
    by_cases hq : (grp e r i).length < r.length
    · have hrd : rd_T23 X ((pos + ((grp e r i).length + 1) : Nat) : Int) = r.getD (grp e r i).length z23 := by
        rw [rd_at X pos _ _ hd (by rw [List.length_cons]; omega), List.getD_cons_succ]
      have hmem : r.getD (grp e r i).length z23 ∈ e :: r := List.mem_cons_of_mem _ (by rw [List.getD_eq_getElem?_getD, List.getElem?_eq_getElem hq]; exact List.getElem_mem hq)
      have hsx := right_size (hR _ hmem)
      have hzx := hz _ hmem
      have hk := kb_size (r.getD (grp e r i).length z23)
      have hne := grp_out e r i hq
      rw [if_pos (by omega), if_pos (by omega), hrd, if_pos (by omega), hw'.out, if_pos (by omega), if_pos (by rw [show ((r.getD (grp e r i).length z23).f0 ++ (⟨#[0]⟩ : ByteArray)).size = (kb (r.getD (grp e r i).length z23)).size from rfl]; omega), bt_key _ _ hzx,
        if_neg (fun h => hne ((bt_eq _ _).1 h))]
      have := cont K (by omega)
      rw [hw'.out] at this
      exact this
    · rw [if_neg (by omega)]
      exact cont K (by omega)
  | succ n ih =>
    intro m K hm hn hK
    obtain ⟨K, rfl⟩ : ∃ q, K = q + 1 := ⟨K - 1, by omega⟩
    have hml : m < (e :: r).length := by rw [List.length_cons]; omega
    have hrd : rd_T23 X ((pos + m : Nat) : Int) = (e :: r).getD m z23 := rd_at X pos _ _ hd hml
    have hmem : (e :: r).getD m z23 ∈ e :: r := by rw [List.getD_eq_getElem?_getD, List.getElem?_eq_getElem hml]; exact List.getElem_mem hml
    have hsx := right_size (hR _ hmem)
    have hzx := hz _ hmem
    have hk := kb_size ((e :: r).getD m z23)
    have heq : byteAt ((e :: r).getD m z23) i = byteAt e i := by
      cases m with
      | zero => rfl
      | succ m => rw [List.getD_cons_succ]; exact grp_in e r i m (by omega)
    simp only [tendrilref1_Shape.l1]
    rw [if_pos (by omega), if_pos (by omega), hrd, if_pos (by omega), hw'.out, if_pos (by omega), if_pos (by rw [show (((e :: r).getD m z23).f0 ++ (⟨#[0]⟩ : ByteArray)).size = (kb ((e :: r).getD m z23)).size from rfl]; omega), bt_key _ _ hzx, heq, if_pos rfl,
      show wrap64 (((pos + m : Nat) : Int) + 1) = ((pos + (m + 1) : Nat) : Int) from by rw [w64 _ (by omega) (by omega)]; omega]
    exact ih (m + 1) K (by omega) (by omega) (by omega)
theorem i_le (e : S23) (i : Nat) (h : i < (kb e).size) (hR : Right (L e.f0)) : i ≤ 12 := by
  have h2 := right_size hR
  rw [kb_size] at h
  omega
theorem Shape_leaf (e : S23) (hR : Right (L e.f0)) (i : Nat) (K : Nat) (hK : 10 ≤ K) : ∃ t, L t = leafT e ∧ tendrilref1_Shape.f K [e] ((i + 1 : Nat) : Int) false = some t ∧ t.size ≤ 17 ∧ t = ((((⟨#[60]⟩ : ByteArray) ++ (⟨(Lib.decDigits e.f0.size).toArray⟩ : ByteArray)) ++ (⟨#[58]⟩ : ByteArray)) ++ e.f0) ++ (⟨#[62]⟩ : ByteArray) := by
  have hs := right_size hR
  have hd := dig_size e.f0.size (by omega)
  obtain ⟨D, hD⟩ : ∃ D : ByteArray, D = (⟨(Lib.decDigits e.f0.size).toArray⟩ : ByteArray) := ⟨_, rfl⟩
  have hLD : L D = Lib.decDigits e.f0.size := by rw [hD]
  rw [← hD] at hd ⊢
  have q1 : (⟨#[60]⟩ : ByteArray).size = 1 := rfl
  have q2 : (⟨#[58]⟩ : ByteArray).size = 1 := rfl
  have q3 : (⟨#[62]⟩ : ByteArray).size = 1 := rfl
  obtain ⟨K, rfl⟩ : ∃ q, K = q + 1 + 1 := ⟨K - 2, by omega⟩
  refine ⟨_, ?_, ?_, ?_, rfl⟩
  · rw [L_append, L_append, L_append, L_append, hLD]
    unfold leafT
    show [60] ++ Lib.decDigits e.f0.size ++ [58] ++ L e.f0 ++ [62] = _
    simp
  · simp only [tendrilref1_Shape.f]
    rw [if_pos (by rfl)]
    simp only [Bool.not_false, tendrilref1_Shape.j0]
    have hr : (rd_T23 [e] 0).f0 = e.f0 := rfl
    rw [if_pos trivial, if_pos (by simp), hr, digits_ge K e.f0.size (by omega) (by omega), ← hD, Option.bind_some, if_pos (by omega), if_pos (by rw [ByteArray.size_append, q1]; omega), if_pos (by rw [ByteArray.size_append, ByteArray.size_append, q1, q2]; omega), if_pos (by rw [ByteArray.size_append, ByteArray.size_append, ByteArray.size_append, q1, q2]; omega)]
  · rw [ByteArray.size_append, ByteArray.size_append, ByteArray.size_append, ByteArray.size_append, q1, q2, q3]; omega
/-- the opening of a node that is no root. -/
theorem Shape_open (G : List S23) (e : S23) (hG : fst8 G = e) (h2 : 2 ≤ G.length) (hl : G.length ≤ 500) (s : Nat) (hR1 : Right (L (fst8 G).f0)) (hR2 : Right (L (lst8 G).f0)) (hs1 : s ≤ (kb (fst8 G)).size) (hs2 : s ≤ (kb (lst8 G)).size) :
    ∃ acc, L acc = opnT G s (alk G s) ∧ acc.size ≤ 30 ∧ ∀ K u, 1005 ≤ K → tendrilref1_Shape.l0 (K - 4) G s ((alk G s - s : Nat) : Int) acc ((0 : Nat) : Int) = some u → tendrilref1_Shape.f K G s false = some u := by
  obtain ⟨p, hp⟩ : ∃ p, p = comm ((L (kb (fst8 G))).drop s) ((L (kb (lst8 G))).drop s) := ⟨_, rfl⟩
  have hap : alk G s = s + p := by unfold alk; rw [hp]
  have hps : alk G s - s = p := by omega
  have hle := comm_le_left ((L (kb (fst8 G))).drop s) ((L (kb (lst8 G))).drop s)
  rw [List.length_drop, size_L, ← hp] at hle
  have b1 := right_size hR1
  have b2 := right_size hR2
  have k1 := kb_size (fst8 G)
  have k2 := kb_size (lst8 G)
  have hp100 : p < 100 := by omega
  have hd := dig_size p hp100
  obtain ⟨D, hD⟩ : ∃ D : ByteArray, D = (⟨(Lib.decDigits p).toArray⟩ : ByteArray) := ⟨_, rfl⟩
  have hLD : L D = Lib.decDigits p := by rw [hD]
  rw [← hD] at hd
  have q1 : (⟨#[40]⟩ : ByteArray).size = 1 := rfl
  have q2 : (⟨#[58]⟩ : ByteArray).size = 1 := rfl
  have hG0 : G ≠ [] := by intro h; rw [h] at h2; simp at h2
  have r0 : rd_T23 G 0 = fst8 G := rfl
  have hw1 := Aside0.mk (show wrap64 ((G.length : Int) - 1) = ((G.length - 1 : Nat) : Int) from by rw [w64 _ (by omega) (by omega)]; omega)
  have r1 : rd_T23 G ((G.length - 1 : Nat) : Int) = lst8 G := rfl
  have hw2 := Aside0.mk (show wrap64 ((s : Int) + (p : Int)) = ((s + p : Nat) : Int) from by rw [w64 _ (by omega) (by omega)]; omega)
  have hpre : preT G s (s + p) = ((L (kb (fst8 G))).drop s).take p := by unfold preT; rw [if_neg hG0, Nat.add_sub_cancel_left]
  have e1 : (fst8 G).f0 ++ (⟨#[0]⟩ : ByteArray) = kb (fst8 G) := rfl
  have e2 : (lst8 G).f0 ++ (⟨#[0]⟩ : ByteArray) = kb (lst8 G) := rfl
  have hzz : ((kb (fst8 G)).extract s (kb (fst8 G)).size).size ≤ 1000 := by rw [← size_L, L_from, List.length_drop, size_L]; omega
  have hxs : ((kb (fst8 G)).extract s (s + p)).size = p := by rw [← size_L, L_extract, List.length_take, List.length_drop, size_L]; omega
  rw [hps, hap]
  by_cases hp0 : p = 0
  · refine ⟨((⟨#[40]⟩ : ByteArray) ++ D) ++ (⟨#[58]⟩ : ByteArray), ?_, ?_, ?_⟩
    · rw [L_append, L_append, hLD]
      unfold opnT
      rw [Nat.add_sub_cancel_left, hpre, hp0]
      show [40] ++ Lib.decDigits 0 ++ [58] = _
      simp
    · rw [ByteArray.size_append, ByteArray.size_append, q1, q2]; omega
    · intro K u hK hu
      obtain ⟨K, rfl⟩ : ∃ q, K = q + 1 + 1 + 1 + 1 := ⟨K - 4, by omega⟩
      rw [show K + 1 + 1 + 1 + 1 - 4 = K by omega] at hu
      have hc := RefCommon_f (K + 1 + 1) ((kb (fst8 G)).extract s (kb (fst8 G)).size) ((kb (lst8 G)).extract s (kb (lst8 G)).size) hzz (by omega)
      rw [L_from, L_from, ← hp] at hc
      simp only [tendrilref1_Shape.f]
      rw [if_neg (by omega)]
      simp only [tendrilref1_Shape.j0]
      rw [if_neg (by decide), if_neg (by decide), if_pos (by omega), r0, if_pos (by omega), hw1.out, if_pos (by omega), if_pos (by omega), r1, if_pos (by omega), if_pos (by omega), e1, e2, if_pos (by omega), if_pos (by omega), Int.toNat_natCast, hc, Option.bind_some]
      simp only [tendrilref1_Shape.j1]
      rw [digits_ge (K + 1) p (by omega) hp100, ← hD, Option.bind_some, if_pos (by omega), if_pos (by rw [ByteArray.size_append, q1]; omega), if_neg (by omega)]
      simp only [tendrilref1_Shape.j2]
      exact hu
  · refine ⟨(((⟨#[40]⟩ : ByteArray) ++ D) ++ (⟨#[58]⟩ : ByteArray)) ++ (kb (fst8 G)).extract s (s + p), ?_, ?_, ?_⟩
    · rw [L_append, L_append, L_append, hLD, L_extract]
      unfold opnT
      rw [Nat.add_sub_cancel_left, hpre]
      show [40] ++ Lib.decDigits p ++ [58] ++ _ = _
      simp
    · rw [ByteArray.size_append, ByteArray.size_append, ByteArray.size_append, q1, q2, hxs]; omega
    · intro K u hK hu
      obtain ⟨K, rfl⟩ : ∃ q, K = q + 1 + 1 + 1 + 1 := ⟨K - 4, by omega⟩
      rw [show K + 1 + 1 + 1 + 1 - 4 = K by omega] at hu
      have hc := RefCommon_f (K + 1 + 1) ((kb (fst8 G)).extract s (kb (fst8 G)).size) ((kb (lst8 G)).extract s (kb (lst8 G)).size) hzz (by omega)
      rw [L_from, L_from, ← hp] at hc
      simp only [tendrilref1_Shape.f]
      rw [if_neg (by omega)]
      simp only [tendrilref1_Shape.j0]
      rw [if_neg (by decide), if_neg (by decide), if_pos (by omega), r0, if_pos (by omega), hw1.out, if_pos (by omega), if_pos (by omega), r1, if_pos (by omega), if_pos (by omega), e1, e2, if_pos (by omega), if_pos (by omega), Int.toNat_natCast, hc, Option.bind_some]
      simp only [tendrilref1_Shape.j1]
      rw [digits_ge (K + 1) p (by omega) hp100, ← hD, Option.bind_some, if_pos (by omega), if_pos (by rw [ByteArray.size_append, q1]; omega), if_pos (by omega), if_pos (by omega), r0, if_pos (by omega), if_pos (by omega), hw2.out, if_pos (by omega), e1, if_pos (by omega), Int.toNat_natCast, Int.toNat_natCast,
        if_pos (by rw [ByteArray.size_append, ByteArray.size_append, q1, q2, hxs]; omega)]
      simp only [tendrilref1_Shape.j2]
      exact hu
theorem Shape_l0 (k : Nat) : ∀ (X : List S23) (pos : Nat) (l : List S23) (d p i : Nat) (acc : ByteArray) (o : List UInt8), X.drop pos = l → bod k l i = some o → d + p = i → i ≤ 13 → X.length ≤ 500 → (∀ x ∈ l, Right (L x.f0)) → acc.size + o.length ≤ 1000000 →
    ∃ u, L u = L acc ++ o ++ [41] ∧ ∀ K, 4000 * (k + 1) ≤ K → tendrilref1_Shape.l0 K X d p acc pos = some u := by
  induction k with
  | zero => intro X pos l d p i acc o _ h; simp [bod] at h
  | succ k ih =>
    intro X pos l d p i acc o hd hb hdp hi hX hR hac
    have q91 : (⟨#[91]⟩ : ByteArray).size = 1 := rfl
    have q93 : (⟨#[93]⟩ : ByteArray).size = 1 := rfl
    cases l with
    | nil =>
      simp only [bod, Option.some.injEq] at hb
      subst hb
      refine ⟨acc ++ (⟨#[41]⟩ : ByteArray), by rw [L_append, List.append_nil], fun K hK => ?_⟩
      obtain ⟨K, rfl⟩ : ∃ q, K = q + 1 := ⟨K - 1, by omega⟩
      have hlen : X.length ≤ pos := List.drop_eq_nil_iff.1 hd
      simp only [tendrilref1_Shape.l0]
      rw [if_neg (by omega), if_pos (by omega)]
    | cons e r =>
      obtain ⟨hall, t0, o2, hcase, hrest, ho⟩ := bod_cons hb
      have hlen := len_at X pos _ hd (by simp)
      rw [List.length_cons] at hlen
      have hg := grp_le e r i
      have hGR : ∀ x ∈ e :: grp e r i, Right (L x.f0) := fun x hx => hR x ((grp_sub e r i).subset hx)
      have hol : o.length = 3 + t0.length + o2.length := by rw [ho]; simp only [List.length_cons, List.length_append]; omega
      -- the group's text
      obtain ⟨t, ht, hf⟩ : ∃ t, L t = t0 ∧ ∀ K, 4000 * (k + 1) + 2000 ≤ K → tendrilref1_Shape.f K (e :: grp e r i) ((i + 1 : Nat) : Int) false = some t := by
        rcases hcase with ⟨hgn, rfl⟩ | ⟨hgn, o3, h5, rfl⟩
        · rw [hgn]
          obtain ⟨t, h1, _, _, h4⟩ := Shape_leaf e (hR e List.mem_cons_self) i 10 (Nat.le_refl _)
          refine ⟨t, h1, fun K hK => ?_⟩
          obtain ⟨t', _, h6, _, h7⟩ := Shape_leaf e (hR e List.mem_cons_self) i K (by omega)
          rw [h6, h7, h4]
        · have hgp : 1 ≤ (grp e r i).length := List.length_pos_iff.2 hgn
          have hzm : lst8 (e :: grp e r i) ∈ e :: grp e r i := lst8_mem (by simp)
          have he : i < (kb (fst8 (e :: grp e r i))).size := hall e List.mem_cons_self
          have hz : i < (kb (lst8 (e :: grp e r i))).size := hall _ ((grp_sub e r i).subset hzm)
          obtain ⟨acc', ha1, ha2, ha3⟩ := Shape_open (e :: grp e r i) e rfl (by rw [List.length_cons]; omega) (by rw [List.length_cons]; omega) (i + 1) (hGR _ List.mem_cons_self) (hGR _ hzm) (by omega) (by omega)
          have hal := le_alk (e :: grp e r i) (i + 1)
          cases k with
          | zero => simp [bod] at h5
          | succ k' =>
            have hai := (bod_cons h5).1 e List.mem_cons_self
            have hai2 := i_le e _ hai (hGR e List.mem_cons_self)
            obtain ⟨u, hu1, hu2⟩ := ih (e :: grp e r i) 0 (e :: grp e r i) (i + 1) (alk (e :: grp e r i) (i + 1) - (i + 1)) (alk (e :: grp e r i) (i + 1)) acc' o3 rfl h5 (by omega) (by omega) (by rw [List.length_cons]; omega) hGR (by
              have hsa := size_L acc'
              rw [ha1] at hsa
              rw [hol] at hac
              simp only [List.length_append, List.length_cons, List.length_nil] at hac
              omega)
            refine ⟨u, by rw [hu1, ha1], fun K hK => ?_⟩
            exact ha3 K u (by omega) (hu2 (K - 4) (by omega))
      have hts : t.size = t0.length := by rw [← size_L, ht]
      have hs1 := size_L (strOfNums [((byteAt e i).toNat : Int)])
      rw [str1] at hs1
      have hsz : (strOfNums [((byteAt e i).toNat : Int)]).size = 1 := hs1.symm
      have hac2 : ((((acc ++ (⟨#[91]⟩ : ByteArray)) ++ (strOfNums [((byteAt e i).toNat : Int)])) ++ t) ++ (⟨#[93]⟩ : ByteArray)).size = acc.size + 3 + t0.length := by
        rw [ByteArray.size_append, ByteArray.size_append, ByteArray.size_append, ByteArray.size_append, hsz, q91, q93, hts]; omega
      have hd2 : X.drop (pos + ((grp e r i).length + 1)) = r.drop (grp e r i).length := by
        rw [← List.drop_drop, hd, List.drop_succ_cons]
      obtain ⟨u, hu1, hu2⟩ := ih X (pos + ((grp e r i).length + 1)) (r.drop (grp e r i).length) d p i _ o2 hd2 hrest hdp hi hX (fun x hx => hR x ((rest_sub e r i).subset hx)) (by rw [hac2]; omega)
      refine ⟨u, ?_, fun K hK => ?_⟩
      · rw [hu1, L_append, L_append, L_append, L_append, str1, ht, ho]
        show L acc ++ [91] ++ [byteAt e i] ++ t0 ++ [93] ++ o2 ++ [41] = L acc ++ 91 :: byteAt e i :: (t0 ++ 93 :: o2) ++ [41]
        simp
      · obtain ⟨K, rfl⟩ : ∃ q, K = q + 1 := ⟨K - 1, by omega⟩
        have hl1 := Shape_l1 X d p i hdp hi (by omega) acc pos e r hd hall hR (by omega) t u (4000 * (k + 1) + 2000) hf (by omega) (fun K hK => hu2 K (by omega)) ((grp e r i).length + 1) 0 K (by omega) (by omega) (by omega)
        have hze := hall e List.mem_cons_self
        have hse := right_size (hR e List.mem_cons_self)
        have hke := kb_size e
        have hw' := Aside0.mk (show wrap64 ((d : Int) + (p : Int)) = (i : Int) from by rw [w64 _ (by omega) (by omega)]; omega)
        have hrd : rd_T23 X (pos : Int) = e := by
          have := rd_at X pos 0 _ hd (by simp)
          simpa using this
        simp only [tendrilref1_Shape.l0]
        rw [if_pos (by omega), if_pos (by omega), hrd, if_pos (by omega), hw'.out, if_pos (by omega), if_pos (by rw [show (e.f0 ++ (⟨#[0]⟩ : ByteArray)).size = (kb e).size from rfl]; omega), bt_key _ _ hze]
        exact hl1
theorem Shape_root (l : List S23) (h : RL l = true) (hl : l.length ≤ 60) : ∃ t, L t = textL l ∧ ∀ K, 4000 * ((l.length + 1) * 14 + 1) + 100 ≤ K → tendrilref1_Shape.f K l 0 true = some t := by
  obtain ⟨h1, h2⟩ := bodT_eq h
  have hD : Lib.decDigits 0 = [48] := by decide +kernel
  obtain ⟨acc, hacc⟩ : ∃ acc : ByteArray, acc = (((⟨#[40]⟩ : ByteArray) ++ (⟨(Lib.decDigits 0).toArray⟩ : ByteArray)) ++ (⟨#[58]⟩ : ByteArray)) := ⟨_, rfl⟩
  have hL : L acc = opnT l 0 0 := by
    rw [hacc, L_append, L_append, hD]
    unfold opnT
    rw [Nat.sub_self, hD]
    unfold preT
    split <;> rfl
  have q1 : (⟨#[40]⟩ : ByteArray).size = 1 := rfl
  have q2 : (⟨#[58]⟩ : ByteArray).size = 1 := rfl
  have q3 : (⟨(Lib.decDigits 0).toArray⟩ : ByteArray).size = 1 := by rw [hD]; rfl
  have hs : acc.size = 3 := by rw [hacc, ByteArray.size_append, ByteArray.size_append, q1, q2, q3]
  obtain ⟨u, hu1, hu2⟩ := Shape_l0 ((l.length + 1) * 14) l 0 l 0 0 0 acc (bodT l) rfl h1 rfl (by omega) (by omega) (RL_inv h).R (by omega)
  refine ⟨u, by unfold textL; rw [if_pos h, hu1, hL], fun K hK => ?_⟩
  obtain ⟨K, rfl⟩ : ∃ q, K = q + 1 + 1 + 1 + 1 := ⟨K - 4, by omega⟩
  have hu := hu2 K (by omega)
  have hj1 : tendrilref1_Shape.j1 (K + 1 + 1) l 0 0 = some u := by
    simp only [tendrilref1_Shape.j1]
    have := digits_ge (K + 1) 0 (by omega) (by omega)
    rw [show ((0 : Nat) : Int) = 0 from rfl] at this hu
    rw [this, Option.bind_some, if_pos (by omega), if_pos (by rw [ByteArray.size_append, q1, q3]; omega), if_neg (by omega), ← hacc]
    simp only [tendrilref1_Shape.j2]
    exact hu
  simp only [tendrilref1_Shape.f]
  have hj0 : tendrilref1_Shape.j0 (K + 1 + 1 + 1) l 0 true false = some u := by
    simp only [tendrilref1_Shape.j0]
    rw [if_neg (by decide), if_pos trivial]
    exact hj1
  by_cases hn : (l.length : Int) = 1
  · rw [if_pos hn]; exact hj0
  · rw [if_neg hn]; exact hj0
theorem Same_l (l : List S23) (hl : l.length ≤ 1000) (d : Nat) : ∀ (k i : Nat), l.length - i = d → d < k → i ≤ l.length → api_Entry_13.l0 k l l i = some true := by
  induction d with
  | zero =>
    intro k i hi hk hle
    obtain ⟨k, rfl⟩ : ∃ m, k = m + 1 := ⟨k - 1, by omega⟩
    simp only [api_Entry_13.l0]
    rw [if_neg (by omega)]
  | succ d ih =>
    intro k i hi hk hle
    obtain ⟨k, rfl⟩ : ∃ m, k = m + 1 := ⟨k - 1, by omega⟩
    simp only [api_Entry_13.l0]
    rw [if_pos (by omega), if_pos (by omega), if_pos (by omega), beq_self_eq_true, beq_self_eq_true, if_neg (by decide), show wrap64 ((i : Int) + 1) = ((i + 1 : Nat) : Int) from by unfold wrap64; omega]
    exact ih k (i + 1) (by omega) (by omega) (by omega)
theorem Same_refl (k : Nat) (l : List S23) (hl : l.length ≤ 1000) (hk : 1000 < k) : api_Entry_13.f k l l = some true := by
  unfold api_Entry_13.f
  rw [if_pos rfl]
  exact Same_l l hl l.length k 0 (by omega) (by omega) (by omega)
theorem Intact_l (l : List S23) (m : S23) (hl : l.length ≤ 60) (d : Nat) : ∀ (k i : Nat), l.length + 80 - i = d → d < k → l.length ≤ i → i ≤ l.length + 80 →
    api_Entry_18.l0 k (l ++ List.replicate 80 m) i m.f0 m.f1 = some true := by
  have hlen : (l ++ List.replicate 80 m).length = l.length + 80 := by rw [List.length_append, List.length_replicate]
  induction d with
  | zero =>
    intro k i hi hk h1 h2
    obtain ⟨k, rfl⟩ : ∃ q, k = q + 1 := ⟨k - 1, by omega⟩
    simp only [api_Entry_18.l0]
    rw [hlen, if_neg (by omega)]
  | succ d ih =>
    intro k i hi hk h1 h2
    obtain ⟨k, rfl⟩ : ∃ q, k = q + 1 := ⟨k - 1, by omega⟩
    have hrd : rd_T23 (l ++ List.replicate 80 m) (i : Int) = m := by
      rw [rd8, List.getD_eq_getElem?_getD, List.getElem?_append_right h1, List.getElem?_replicate, if_pos (by omega)]; rfl
    simp only [api_Entry_18.l0]
    rw [hlen, if_pos (by omega), if_pos (by omega), hrd, beq_self_eq_true, beq_self_eq_true, if_neg (by decide), show wrap64 ((i : Int) + 1) = ((i + 1 : Nat) : Int) from by unfold wrap64; omega]
    exact ih k (i + 1) (by omega) (by omega) (by omega) (by omega)
theorem Intact_f (k : Nat) (l : List S23) (m : S23) (hl : l.length ≤ 60) (hk : 1100 < k) : api_Entry_18.f k (l ++ List.replicate 80 m) l m.f0 m.f1 = some true := by
  have hlen : (l ++ List.replicate 80 m).length = l.length + 80 := by rw [List.length_append, List.length_replicate]
  unfold api_Entry_18.f
  obtain ⟨k, rfl⟩ : ∃ q, k = q + 1 := ⟨k - 1, by omega⟩
  rw [hlen, if_pos (by rw [w64 _ (by omega) (by omega)]; omega), if_pos (by omega), if_pos (by omega), Int.toNat_natCast, List.take_left' rfl, Same_refl (k + 1) l (by omega) (by omega), Option.bind_some]
  simp only [Bool.not_true, api_Entry_18.j0]
  rw [if_neg (by decide)]
  exact Intact_l l m hl 80 k l.length (by omega) (by omega) (Nat.le_refl _) (by omega)
theorem Text_f (l : List S23) (hl : l.length ≤ 1000) : shape_Text.f l = some (textT l) := by unfold shape_Text.f; rw [if_pos hl]
theorem Tells_j2 (B K : Nat) (l : List S23) (s t : ByteArray) (hl : l.length ≤ 60) (hs : ∀ x ∈ l, x.f0.size < 9223372036854775808 ∧ x.f0.size ≤ B) (ht : L t = textL l) (hK : 5000 + B ≤ K) :
    PLaw.tendrillaw8_ShapeTells.j2 K l s (l ++ List.replicate 80 (⟨⟨#[109]⟩, -1⟩ : S23)) t ((sk l s : Nat) : Int) ⟨#[109]⟩ (-1) = some true := by
  have hlen : (l ++ List.replicate 80 (⟨⟨#[109]⟩, -1⟩ : S23)).length = l.length + 80 := by rw [List.length_append, List.length_replicate]
  obtain ⟨K, rfl⟩ : ∃ q, K = q + 1 := ⟨K - 1, by omega⟩
  simp only [PLaw.tendrillaw8_ShapeTells.j2]
  rw [if_pos (by omega), if_pos (by omega), Option.bind_some, Int.toNat_natCast, List.take_left' rfl, shRight_f K l (by omega) (by omega), Option.bind_some, lawRight_f B K l (by omega) hs (by omega), Option.bind_some, if_pos (beq_self_eq_true _), Text_f l (by omega), Option.bind_some,
    if_pos (by rw [toList_L, toList_L, ht, L_textT]), Seek_f K l s (by omega) (by omega), Option.bind_some, if_pos rfl]
  have hi := Intact_f K l ⟨⟨#[109]⟩, -1⟩ hl (by omega)
  rw [show api_Entry_18.f K (l ++ List.replicate 80 (⟨⟨#[109]⟩, -1⟩ : S23)) l ⟨#[109]⟩ (-1) = some true from hi, Option.bind_some, if_pos rfl]
  rfl
theorem Tells_l0 (B : Nat) (l : List S23) (s t : ByteArray) (hl : l.length ≤ 60) (hs : ∀ x ∈ l, x.f0.size < 9223372036854775808 ∧ x.f0.size ≤ B) (ht : L t = textL l) (d : Nat) : ∀ (K i : Nat), l.length - i = d → 5001 + B + d ≤ K → i ≤ l.length → i + sk (l.drop i) s = sk l s →
    PLaw.tendrillaw8_ShapeTells.l0 K l s (l ++ List.replicate 80 (⟨⟨#[109]⟩, -1⟩ : S23)) t i ⟨#[109]⟩ (-1) = some true := by
  induction d with
  | zero =>
    intro K i hi hK hle hsk
    obtain ⟨K, rfl⟩ : ∃ q, K = q + 1 := ⟨K - 1, by omega⟩
    have h0 : sk (l.drop i) s = 0 := by rw [List.drop_of_length_le (by omega)]; rfl
    have hi2 : i = sk l s := by omega
    simp only [PLaw.tendrillaw8_ShapeTells.l0]
    rw [if_neg (by omega), hi2]
    exact Tells_j2 B K l s t hl hs ht (by omega)
  | succ d ih =>
    intro K i hi hK hle hsk
    obtain ⟨K, rfl⟩ : ∃ q, K = q + 1 := ⟨K - 1, by omega⟩
    have hlt : i < l.length := by omega
    have eg : rd_T23 l (i : Int) = l[i] := by rw [rd8, List.getD_eq_getElem?_getD, List.getElem?_eq_getElem hlt]; rfl
    rw [List.drop_eq_getElem_cons hlt, sk_cons] at hsk
    simp only [PLaw.tendrillaw8_ShapeTells.l0]
    rw [if_pos (by omega), if_pos (by omega), eg, toList_L, toList_L]
    by_cases h : Op.bytesLess (L l[i].f0) (L s) = true
    · rw [if_pos h] at hsk ⊢
      rw [show wrap64 ((i : Int) + 1) = ((i + 1 : Nat) : Int) from by unfold wrap64; omega]
      exact ih K (i + 1) (by omega) (by omega) (by omega) (by omega)
    · rw [if_neg h] at hsk ⊢
      have hi2 : i = sk l s := by omega
      rw [hi2]
      exact Tells_j2 B K l s t hl hs ht (by omega)
theorem Tells_f (B : Nat) (l : List S23) (s : ByteArray) (hl : l.length ≤ 60) (hs : ∀ x ∈ l, x.f0.size < 9223372036854775808 ∧ x.f0.size ≤ B) : PLaw.tendrillaw8_ShapeTells.f (4000000 + B) l s = some true := by
  unfold PLaw.tendrillaw8_ShapeTells.f tendrillaw8_of.f api_Entry_14.f
  rw [if_neg (by omega), Option.bind_some, if_pos (by omega), Option.bind_some, lawRight_f B _ l (by omega) hs (by omega), Option.bind_some]
  have hj : ∀ t, L t = textL l → PLaw.tendrillaw8_ShapeTells.j0 (3999999 + B + 1) l s (l ++ List.replicate 80 (⟨⟨#[109]⟩, -1⟩ : S23)) t ⟨#[109]⟩ (-1) = some true := by
    intro t ht
    simp only [PLaw.tendrillaw8_ShapeTells.j0]
    exact Tells_l0 B l s t hl hs ht l.length (3999999 + B) 0 (by omega) (by omega) (by omega) (by rw [List.drop_zero]; exact Nat.zero_add _)
  rw [show 4000000 + B = 3999999 + B + 1 by omega]
  by_cases h : RL l = true
  · obtain ⟨t, h1, h2⟩ := Shape_root l h hl
    rw [if_pos h, h2 (3999999 + B + 1) (by omega), Option.bind_some]
    exact hj t h1
  · rw [if_neg h]
    exact hj ⟨#[]⟩ (by unfold textL; rw [if_neg h])
theorem bound_of (l : List PBase.S23) : ∃ B : Nat, ∀ x ∈ l, x.f0.size ≤ B := by
  induction l with
  | nil => exact ⟨0, fun x hx => by simp at hx⟩
  | cons a r ih =>
    obtain ⟨B, hB⟩ := ih
    refine ⟨B + a.f0.size, fun x hx => ?_⟩
    rcases List.mem_cons.1 hx with rfl | hx
    · omega
    · have := hB x hx; omega
theorem walk (a : Option Addr) (len cap : Nat) (z : List PBase.S23) (s : ByteArray) (w : World) (h : Ent w a len cap z) (hs : s.size ≤ 140737488351232) : Calls Tryd.prog 4 #[.slice a len cap, .string s] w fun e w' => e = .returned (.bool true) ∧ Below w.heap.size w w' := by
  obtain ⟨h1, h2, h3, h4⟩ := h.cut 60
  obtain ⟨B, hB⟩ := bound_of (z.take 60)
  refine PLaw.tendrillaw8_ShapeTells.calls_cut (4000000 + B) a cap (z.take 60) s true w len h1 h.cap h4 h2 (Tells_f B _ s h3 (fun x hx => ⟨?_, hB x hx⟩))
  have := h.S x (List.mem_of_mem_take hx)
  omega
theorem own : ownKnob Tryd.prog.godebug = none := by kernel_rfl
theorem laidOut : laidOutB Tryd.prog = true := by kernel_rfl
def laid3 {H : Type} : List (String × DataW H) := [("math/bits.deBruijn32tab", Rows.laid_math_bits_deBruijn32tab), ("math/bits.deBruijn64tab", Rows.laid_math_bits_deBruijn64tab), ("internal/strconv.uint64pow10", Rows.laid_internal_strconv_uint64pow10)]
theorem door_met (os : Os) (args : Array Value) : laidMetH Tryd.prog laid3 ((World.doorLaid Tryd.prog 24 os).forCall (fun _ _ => 0) ⟨#[], args, []⟩).memory :=
  laidMetH_of_parts3 (fuel := 8) (laidMet_of_run' 8 (by kernel_rfl) (by kernel_rfl)) (by kernel_rfl) (by kernel_rfl)
set_option maxRecDepth 100000 in
theorem lifted (os : Os) (started : os.Started) (H : Type) (enc : TypeId × Value → H) :
    ReturnsInHanded {} Tryd.checked os 4 .any (fun w args => (Rows.shapeTellsSpec.pre enc Tryd.prog Tryd.f4 [] false w args ∧ laidMetH Tryd.prog laid3 w) ∧ sizedMet enc Tryd.prog Tryd.f4 (OpenSpec.ofChange Rows.shapeTellsSpec) false w args)
      (Rows.shapeTellsSpec.post enc Tryd.prog Tryd.f4 false true false false) := by
  refine returnsInHanded_of_change_and (C := Tryd.checked) (X := fun w _ => laidMetH Tryd.prog laid3 w) (fun _ _ _ hh h => h.of_heap hh) own started (by kernel_rfl) Tryd.func4
    (ChangeSpec.witness_shaped (enc := enc) (C := Tryd.checked) (os := os) (X := fun w _ => laidMetH Tryd.prog laid3 w) false (World.doorLaid Tryd.prog 24 os) #[.slice none 0 0, .string ByteArray.empty] 8 rfl (World.shaped_of_RefB (by kernel_rfl) (by kernel_rfl)) (by kernel_rfl) (by kernel_rfl) (by kernel_rfl) (door_met os _)) ?_
  intro W base args ds gs before hval0 hW hcnd hsz0 _ _
  have hsz : (DataW.weightsEach Tryd.prog (Tryd.f4.params.toList ++ Rows.shapeTellsSpec.plain.varTypes Tryd.prog) (ds ++ gs)).all (· ≤ reachBytes) = true := hsz0
  have hval : ∀ (j : Nat) t v, Tryd.f4.params[j]? = some t → args[j]? = some v → Value.okWide Tryd.prog W .any base t v := hval0
  have hW' := hW
  obtain ⟨p, q, hA0, hV, rfl, hfz, hnd⟩ := hW
  have hA : DataW.TrodAll enc Tryd.prog W 0 (fun _ => true) true Tryd.f4.params.toList args.toList ds p := hA0
  rw [Tryd.params4] at hA hval hsz
  obtain ⟨v0, vs0, d0, ds0, p0, q0, hargs, rfl, rfl, h0, r0⟩ := trodAll_cons hA
  obtain ⟨v1, vs1, d1, ds1, p1, q1, rfl, rfl, rfl, h1, r1⟩ := trodAll_cons r0
  obtain ⟨rfl, rfl, rfl⟩ := trodAll_nil r1
  obtain rfl : args = #[v0, v1] := by cases args; simp_all
  obtain ⟨rfl, rfl⟩ := trodVars_none hV
  obtain ⟨a0, len0, cap0, rfl⟩ := okWide_slice Tryd.underlying25 (hval 0 25 v0 rfl rfl)
  have k0 := h0
  have lt0 : ∀ x ∈ p0, x.block < W.heap.size := by obtain ⟨m, hm⟩ := k0; exact DataW.trod_lt m _ _ _ hm
  obtain ⟨z0, we0, wc0, wk0, ws0⟩ := open_entries (he := Tryd.underlying23) (by kernel_rfl) (by kernel_rfl) Tryd.underlying9 Tryd.underlying3 h0
  obtain ⟨a1, rfl, rfl, rfl, y1⟩ := open_string Tryd.underlying9 (hval 1 9 v1 rfl rfl) h1
  have w1 : a1.size ≤ 140737488351232 := by
    have z := sized_string hsz (j := 1) (t := 9) rfl rfl
    rw [Array.length_toList] at z
    exact z
  clear hA0 hval0 hsz0 hsz
  refine (walk a0 len0 cap0 z0 a1 W ⟨we0, wc0, wk0, ws0⟩ w1).mono fun e W' ⟨he, bel⟩ => ?_
  subst he
  exact ⟨_, rfl, _, _, _, [], _, [], hW', trodAll_mk1 (shut_bool Tryd.underlying4 _), (trodAll_cons_mk (Below.trod laidOut (by kernel_rfl) (of_decide_eq_true (by kernel_rfl)) k0 bel lt0) (trodAll_cons_mk (shut_string Tryd.underlying9 y1) trodAll_mk0)), rfl, bel.frame _, fun h => by cases h⟩
theorem over : Rows.shapeTellsRow.holds Tryd.pinned (OpenSpec.ofChange Rows.shapeTellsSpec) :=
  OpenClaim.holds_of_wide 4 Tryd.f4 rfl rfl rfl rfl rfl rfl rfl ⟨rfl, rfl, rfl, rfl, rfl⟩ rfl rfl rfl rfl rfl (by kernel_rfl) Tryd.func4 (by kernel_rfl)
    (of_decide_eq_true (by kernel_rfl)) (by unfold Func.isWrapper; first | (rw [if_pos (by decide +kernel)]; kernel_rfl) | (rw [if_neg (by decide +kernel)]; exact ⟨rfl, rfl⟩))
    (fun os started H enc _ => lifted os started H enc)
theorem proved : Rows.ShapeTellsSaid := over
#print axioms proved
end Go.Proofs.YtdjjmnkopoldhaaDoor.shapeTells
namespace Go.Proofs.YtdjjmnkopoldhaaDoor
/-- The tied card, for the claim. -/
theorem shapeTells_holds : Rows.ShapeTellsCardSaid :=
  Claim7.holds_tied_plain_at .later [] [.data, .data, .data] true (true, "29ee579d745f70bf791a9445bb4d7f3299b09fc95b3ed22776cb9c3bfad44d91") false
    shapeTells.proved (fun _ h => by cases h) (by kernel_rfl) (fun _ h => by cases h) shapeTells_row_tie rfl ⟨rfl, rfl⟩ (by kernel_rfl) rfl
    (fun f fn hf hfn => by
      obtain rfl : f = 4 := Option.some.inj ((show Tryd.prog.funcNamed "tendril/tendrillaw8.ShapeTells" = some 4 by kernel_rfl).symm.trans hf) |>.symm
      obtain rfl : fn = Tryd.f4 := (Option.some.inj (Tryd.func4.symm.trans hfn)).symm
      exact ⟨by kernel_rfl, fun j t ht => by
        rw [Tryd.params4] at ht
        have h3 : t = 25 ∨ t = 9 := by
          rcases j with _ | j
          · simp at ht; first | exact ht.symm | exact Or.inl ht.symm | exact Or.inr ht.symm | exact Or.inr (Or.inl ht.symm) | exact Or.inr (Or.inr ht.symm)
          rcases j with _ | j
          · simp at ht; first | exact ht.symm | exact Or.inl ht.symm | exact Or.inr ht.symm | exact Or.inr (Or.inl ht.symm) | exact Or.inr (Or.inr ht.symm)
          simp at ht
        rcases h3 with rfl | rfl
        · exact (show Tryd.prog.wantsStandIn 25 = false by kernel_rfl)
        · exact (show Tryd.prog.wantsStandIn 9 = false by kernel_rfl)⟩)
    (by kernel_rfl)
#print axioms shapeTells_holds
end Go.Proofs.YtdjjmnkopoldhaaDoor
