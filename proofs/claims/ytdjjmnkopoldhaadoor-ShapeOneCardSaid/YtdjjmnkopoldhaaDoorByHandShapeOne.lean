/- Statement ShapeOne: two right lists have one text just if they have the same terms, and values do not show; no further condition. -/
import Derived.Test.YtdjjmnkopoldhaaDoorRows
import Derived.Test.YtdjjmnkopoldhaaDoorTie
import Derived.Test.YtdjjmnkopoldhaaDoorCards
import Derived.Test.YtdjjmnkopoldhaaDoorWSized
import Derived.Test.YtdjjmnkopoldhaaDoorLShapeOne
import Derived.Test.YtdjjmnkopoldhaaDoorRowB
import Derived.WalkKit
import Derived.ProofKit
import Derived.OpenShut
import Derived.ShutString
import Derived.ChangeOld
import Derived.Below
import Derived.SizedLaws
import Derived.Deep.Slices
import Derived.Deep.Fields
import Derived.ChangeSame
import Derived.Deep.RegionLaw
import Derived.Deep.DrawnRows
import Derived.SevenTiedAt
import Derived.LaidMore
import Derived.Stop.Joined
namespace Go.Proofs.YtdjjmnkopoldhaaDoor.shapeOne
open Go.ChangeShapes Go.WideShapes Go.ChangeAt Go.RowKit Go.Deep
open Go.ChangeMaps (open_string shut_string)
open Go Go.Proofs.YtdjjmnkopoldhaaDoorW.PrintWords Go.Proofs.YtdjjmnkopoldhaaDoorW.PrintLast Go.Proofs.YtdjjmnkopoldhaaDoorW.PrintMore Go.Proofs.YtdjjmnkopoldhaaDoor.Ep Go.Proofs.YtdjjmnkopoldhaaDoor.PBase Go.Tx
set_option linter.unusedVariables false
set_option linter.unusedSimpArgs false
theorem split58 (A B x y : List UInt8) (hA : (58 : UInt8) ∉ A) (hB : (58 : UInt8) ∉ B) (h : A ++ 58 :: x = B ++ 58 :: y) : A = B ∧ x = y := by
  induction A generalizing B with
  | nil =>
    cases B with
    | nil => exact ⟨rfl, by simpa using h⟩
    | cons b B =>
      rw [List.nil_append, List.cons_append] at h
      injection h with h1 h2
      exact absurd (h1 ▸ List.mem_cons_self) hB
  | cons a A ih =>
    cases B with
    | nil =>
      rw [List.nil_append, List.cons_append] at h
      injection h with h1 h2
      exact absurd (h1 ▸ List.mem_cons_self) hA
    | cons b B =>
      rw [List.cons_append, List.cons_append] at h
      injection h with h1 h2
      obtain ⟨h3, h4⟩ := ih B (fun hm => hA (List.mem_cons_of_mem _ hm)) (fun hm => hB (List.mem_cons_of_mem _ hm)) h2
      exact ⟨by rw [h1, h3], h4⟩
def val8 (l : List UInt8) : Nat := l.foldl (fun a d => 10 * a + (d.toNat - 48)) 0
theorem dig_ok : ∀ n : Nat, n < 100 → (58 : UInt8) ∉ Lib.decDigits n ∧ val8 (Lib.decDigits n) = n := by decide +kernel
theorem dig_parse (n m : Nat) (hn : n < 100) (hm : m < 100) (x y : List UInt8) (h : Lib.decDigits n ++ 58 :: x = Lib.decDigits m ++ 58 :: y) : n = m ∧ x = y := by
  obtain ⟨h1, h2⟩ := dig_ok n hn
  obtain ⟨h3, h4⟩ := dig_ok m hm
  obtain ⟨h5, h6⟩ := split58 _ _ _ _ h1 h3 h
  exact ⟨by rw [← h2, h5, h4], h6⟩
theorem grp_all (e : S23) (r : List S23) (i : Nat) : e :: r = (e :: grp e r i) ++ r.drop (grp e r i).length := by
  have h := grp_take e r i
  have h2 := List.take_append_drop ((grp e r i).length + 1) (e :: r)
  rw [h, List.drop_succ_cons] at h2
  exact h2.symm
theorem pre_len (G : List S23) (a b : Nat) (hG : G ≠ []) (hb : b ≤ (kb (fst8 G)).size) : (preT G a b).length = b - a := by
  unfold preT
  rw [if_neg hG, List.length_take, List.length_drop, size_L]
  omega
theorem bod_inj (k : Nat) : ∀ (l : List S23) (i : Nat) (o : List UInt8) (k' : Nat) (l' : List S23) (i' : Nat) (o' s s' : List UInt8), bod k l i = some o → bod k' l' i' = some o' → (∀ x ∈ l, Right (L x.f0)) → (∀ x ∈ l', Right (L x.f0)) →
    o ++ 41 :: s = o' ++ 41 :: s' → l.map (·.f0) = l'.map (·.f0) ∧ s = s' := by
  induction k with
  | zero => intro l i o k' l' i' o' s s' h; simp [bod] at h
  | succ k ih =>
    intro l i o k' l' i' o' s s' h h' hR hR' he
    cases k' with
    | zero => simp [bod] at h'
    | succ k' =>
      cases l with
      | nil =>
        simp only [bod, Option.some.injEq] at h
        subst h
        cases l' with
        | nil =>
          simp only [bod, Option.some.injEq] at h'
          subst h'
          exact ⟨rfl, by simpa using he⟩
        | cons e' r' =>
          obtain ⟨_, t', o2', _, _, rfl⟩ := bod_cons h'
          rw [List.nil_append, List.cons_append] at he
          injection he with h1 _
          cases h1
      | cons e r =>
        obtain ⟨hall, t, o2, hcase, hrest, rfl⟩ := bod_cons h
        cases l' with
        | nil =>
          simp only [bod, Option.some.injEq] at h'
          subst h'
          rw [List.nil_append, List.cons_append] at he
          injection he with h1 _
          cases h1
        | cons e' r' =>
          obtain ⟨hall', t', o2', hcase', hrest', rfl⟩ := bod_cons h'
          rw [List.cons_append, List.cons_append, List.cons_append, List.cons_append] at he
          injection he with _ he
          injection he with _ he
          rw [List.append_assoc, List.append_assoc, List.cons_append, List.cons_append] at he
          have hre := right_size (hR e List.mem_cons_self)
          have hre' := right_size (hR' e' List.mem_cons_self)
          have hRr : ∀ x ∈ r.drop (grp e r i).length, Right (L x.f0) := fun x hx => hR x ((rest_sub e r i).subset hx)
          have hRr' : ∀ x ∈ r'.drop (grp e' r' i').length, Right (L x.f0) := fun x hx => hR' x ((rest_sub e' r' i').subset hx)
          have key : (e :: grp e r i).map (·.f0) = (e' :: grp e' r' i').map (·.f0) ∧ o2 ++ 41 :: s = o2' ++ 41 :: s' := by
            rcases hcase with ⟨hg, rfl⟩ | ⟨hg, o3, h3, rfl⟩
            · rcases hcase' with ⟨hg', rfl⟩ | ⟨hg', o3', h3', rfl⟩
              · unfold leafT at he
                rw [List.cons_append, List.cons_append] at he
                injection he with _ he
                rw [List.append_assoc, List.append_assoc, List.cons_append, List.cons_append] at he
                obtain ⟨hs, he⟩ := dig_parse _ _ (by omega) (by omega) _ _ he
                rw [List.append_assoc, List.append_assoc] at he
                obtain ⟨h5, h6⟩ := List.append_inj he (by rw [size_L, size_L, hs])
                rw [List.cons_append, List.nil_append, List.cons_append, List.nil_append] at h6
                injection h6 with _ h6
                injection h6 with _ h6
                exact ⟨by rw [hg, hg', List.map_cons, List.map_cons, L_inj h5], h6⟩
              · unfold leafT opnT at he
                simp only [List.cons_append] at he
                injection he with h1 _
                cases h1
            · rcases hcase' with ⟨hg', rfl⟩ | ⟨hg', o3', h3', rfl⟩
              · unfold leafT opnT at he
                simp only [List.cons_append] at he
                injection he with h1 _
                cases h1
              · have hz : i + 1 ≤ (kb (fst8 (e :: grp e r i))).size := hall e List.mem_cons_self
                have hz' : i' + 1 ≤ (kb (fst8 (e' :: grp e' r' i'))).size := hall' e' List.mem_cons_self
                have ha := alk_le (e :: grp e r i) (i + 1) hz
                have ha' := alk_le (e' :: grp e' r' i') (i' + 1) hz'
                have hk : (kb (fst8 (e :: grp e r i))).size = e.f0.size + 1 := kb_size e
                have hk' : (kb (fst8 (e' :: grp e' r' i'))).size = e'.f0.size + 1 := kb_size e'
                have hp := pre_len (e :: grp e r i) (i + 1) (alk (e :: grp e r i) (i + 1)) (by simp) ha
                have hp' := pre_len (e' :: grp e' r' i') (i' + 1) (alk (e' :: grp e' r' i') (i' + 1)) (by simp) ha'
                unfold opnT at he
                simp only [List.cons_append, List.append_assoc] at he
                injection he with _ he
                obtain ⟨hs, he⟩ := dig_parse _ _ (by omega) (by omega) _ _ he
                obtain ⟨_, h6⟩ := List.append_inj he (by rw [hp, hp', hs])
                simp only [List.nil_append] at h6
                obtain ⟨h7, h8⟩ := ih _ _ o3 k' _ _ o3' _ _ h3 h3' (fun x hx => hR x ((grp_sub e r i).subset hx)) (fun x hx => hR' x ((grp_sub e' r' i').subset hx)) h6
                injection h8 with _ h8
                exact ⟨h7, h8⟩
          obtain ⟨k1, k2⟩ := key
          obtain ⟨k3, k4⟩ := ih _ _ o2 k' _ _ o2' s s' hrest hrest' hRr hRr' k2
          refine ⟨?_, k4⟩
          rw [grp_all e r i, grp_all e' r' i', List.map_append, List.map_append, k1, k3]
theorem opn00 (l : List S23) : opnT l 0 0 = [40, 48, 58] := by
  unfold opnT preT
  have hD : Lib.decDigits 0 = [48] := by decide +kernel
  rw [Nat.sub_self, hD]
  split <;> rfl
theorem text_inj (a b : List S23) (ha : RL a = true) (hb : RL b = true) (h : textL a = textL b) : a.map (·.f0) = b.map (·.f0) := by
  unfold textL at h
  rw [if_pos ha, if_pos hb, opn00, opn00, List.append_assoc, List.append_assoc] at h
  have h2 := List.append_cancel_left h
  exact (bod_inj _ a 0 _ _ b 0 _ [] [] (bodT_eq ha).1 (bodT_eq hb).1 (RL_inv ha).R (RL_inv hb).R h2).1
/-- an entry without its value. -/
def bare (x : S23) : S23 := ⟨x.f0, 0⟩
theorem grp_bare (e : S23) (r : List S23) (i : Nat) : grp (bare e) (r.map bare) i = (grp e r i).map bare := by
  unfold grp
  rw [List.takeWhile_map]
  rfl
theorem fst_bare (e : S23) (r : List S23) : fst8 ((e :: r).map bare) = bare (fst8 (e :: r)) := rfl
theorem lst_bare (e : S23) (r : List S23) : lst8 ((e :: r).map bare) = bare (lst8 (e :: r)) := by
  unfold lst8
  rw [List.length_map, List.getD_eq_getElem?_getD, List.getD_eq_getElem?_getD, List.getElem?_map, List.getElem?_eq_getElem (by simp)]
  rfl
theorem alk_bare (e : S23) (r : List S23) (s : Nat) : alk ((e :: r).map bare) s = alk (e :: r) s := by
  unfold alk
  rw [fst_bare, lst_bare]
  rfl
theorem opn_bare (e : S23) (r : List S23) (a b : Nat) : opnT ((e :: r).map bare) a b = opnT (e :: r) a b := by
  unfold opnT preT
  rw [if_neg (by simp), if_neg (by simp), fst_bare]
  rfl
theorem bod_bare (k : Nat) : ∀ (l : List S23) (i : Nat), bod k (l.map bare) i = bod k l i := by
  induction k with
  | zero => intro l i; rfl
  | succ k ih =>
    intro l i
    cases l with
    | nil => rfl
    | cons e r =>
      have hc : (∀ x ∈ bare e :: r.map bare, i < (kb x).size) ↔ ∀ x ∈ e :: r, i < (kb x).size := by
        rw [← List.map_cons]
        constructor
        · exact fun h x hx => h (bare x) (List.mem_map_of_mem hx)
        · intro h x hx
          obtain ⟨y, hy, rfl⟩ := List.mem_map.1 hx
          exact h y hy
      have hl : leafT (bare e) = leafT e := rfl
      have hb : byteAt (bare e) i = byteAt e i := rfl
      have hG : bare e :: (grp e r i).map bare = (e :: grp e r i).map bare := rfl
      rw [List.map_cons]
      simp only [bod]
      rw [grp_bare, hG, alk_bare, opn_bare, ih, List.length_map, ← List.map_drop, ih, hl, hb]
      by_cases h1 : ∀ x ∈ e :: r, i < (kb x).size
      · rw [if_pos h1, if_pos (hc.2 h1)]
        by_cases h2 : grp e r i = []
        · rw [if_pos h2, if_pos (by rw [h2]; rfl)]
        · rw [if_neg h2, if_neg (by simpa using h2)]
      · rw [if_neg h1, if_neg (fun h => h1 (hc.1 h))]
theorem bare_map {a b : List S23} (h : a.map (·.f0) = b.map (·.f0)) : a.map bare = b.map bare := by
  have e : ∀ l : List S23, l.map bare = (l.map (·.f0)).map (fun t => (⟨t, 0⟩ : S23)) := fun l => by rw [List.map_map]; rfl
  rw [e, e, h]
theorem text_same (a b : List S23) (ha : RL a = true) (hb : RL b = true) (h : a.map (·.f0) = b.map (·.f0)) : textL a = textL b := by
  have hl : a.length = b.length := by have := congrArg List.length h; simpa using this
  unfold textL
  rw [if_pos ha, if_pos hb, opn00, opn00]
  have : bodT a = bodT b := by
    unfold bodT
    rw [← bod_bare _ a, ← bod_bare _ b, bare_map h, hl]
  rw [this]
def giv (v : Int) (x : S23) : S23 := ⟨x.f0, v⟩
theorem RL_giv (l : List S23) (v : Int) (h0 : 0 ≤ v) (h1 : v ≤ 99) (h : RL l = true) : RL (l.map (giv v)) = true := by
  obtain ⟨a, b⟩ := (RL_iff l).1 h
  refine (RL_iff _).2 ⟨fun x hx => ?_, ?_⟩
  · obtain ⟨y, hy, rfl⟩ := List.mem_map.1 hx
    have := a y hy
    unfold okE at this ⊢
    rw [Bool.and_eq_true] at this ⊢
    exact ⟨this.1, by unfold giv; simp only [Bool.and_eq_true, decide_eq_true_eq]; omega⟩
  · exact List.pairwise_map.2 b
theorem map_giv (l : List S23) (v : Int) : (l.map (giv v)).map (·.f0) = l.map (·.f0) := by rw [List.map_map]; rfl
theorem TextF (l : List S23) (hl : l.length ≤ 1000) : shape_Text.f l = some (textT l) := by unfold shape_Text.f; rw [if_pos hl]
theorem f0_eq (a b : List S23) : (a.map (·.f0) = b.map (·.f0)) ↔ (a.length = b.length ∧ ∀ j, j < a.length → (a.getD j z23).f0 = (b.getD j z23).f0) := by
  constructor
  · intro h
    have hl : a.length = b.length := by have := congrArg List.length h; simpa using this
    refine ⟨hl, fun j hj => ?_⟩
    have h1 : (a.map (·.f0))[j]? = (b.map (·.f0))[j]? := by rw [h]
    rw [List.getElem?_map, List.getElem?_map, List.getElem?_eq_getElem hj, List.getElem?_eq_getElem (by omega)] at h1
    rw [List.getD_eq_getElem?_getD, List.getElem?_eq_getElem hj, List.getD_eq_getElem?_getD, List.getElem?_eq_getElem (by omega)]
    simpa using h1
  · rintro ⟨hl, h⟩
    refine List.ext_getElem (by simpa using hl) fun j h1 h2 => ?_
    have hj : j < a.length := by simpa using h1
    have := h j hj
    rw [List.getD_eq_getElem?_getD, List.getElem?_eq_getElem hj, List.getD_eq_getElem?_getD, List.getElem?_eq_getElem (by omega)] at this
    simpa using this
theorem beq_text (a b : List S23) (ha : RL a = true) (hb : RL b = true) (x : Bool) (hx : x = true ↔ a.map (·.f0) = b.map (·.f0)) : (((textT a).toList == (textT b).toList) == x) = true := by
  rw [toList_L, toList_L, L_textT, L_textT]
  cases x with
  | true =>
    rw [text_same a b ha hb (hx.1 rfl)]
    simp
  | false =>
    have : textL a ≠ textL b := fun h => by have := hx.2 (text_inj a b ha hb h); cases this
    rw [beq_eq_false_iff_ne.2 this]
    rfl
theorem One_l1 (a b : List S23) (turn : Int) (x : Bool) (ha : RL a = true) (hb : RL b = true) (hla : a.length ≤ 30) (hlb : b.length ≤ 30) (hx : x = true ↔ a.map (·.f0) = b.map (·.f0)) (v : Int) (hv : v = PLaw.within turn 0 99) (h0 : 0 ≤ v) (h1 : v ≤ 99) (d : Nat) :
    ∀ (K i : Nat) (z : List S23), a.length - i = d → d < K → i ≤ a.length → z = (a.take i).map (giv v) ++ a.drop i → PLaw.tendrillaw8_ShapeOne.l1 K a b turn x z (a.length : Int) i = some true := by
  have hw : PLaw.tendrilbook_Within.f turn 0 99 = some v := by unfold PLaw.tendrilbook_Within.f; rw [if_pos (by omega), hv]
  induction d with
  | zero =>
    intro K i z hi hK hle hz
    obtain ⟨K, rfl⟩ : ∃ q, K = q + 1 := ⟨K - 1, by omega⟩
    have hz2 : z = a.map (giv v) := by rw [hz, List.take_of_length_le (by omega), List.drop_of_length_le (by omega), List.append_nil]
    subst hz2
    simp only [PLaw.tendrillaw8_ShapeOne.l1]
    rw [if_neg (by omega), TextF a (by omega), Option.bind_some, TextF b (by omega), Option.bind_some, if_pos (beq_text a b ha hb x hx), TextF _ (by rw [List.length_map]; omega), Option.bind_some, Option.bind_some,
      if_pos (by rw [toList_L, toList_L, L_textT, L_textT, text_same _ a (RL_giv a v h0 h1 ha) ha (map_giv a v)])]
    rfl
  | succ d ih =>
    intro K i z hi hK hle hz
    obtain ⟨K, rfl⟩ : ∃ q, K = q + 1 := ⟨K - 1, by omega⟩
    have hlt : i < a.length := by omega
    have hT : ((a.take i).map (giv v)).length = i := by rw [List.length_map, List.length_take]; omega
    have hzl : z.length = a.length := by rw [hz, List.length_append, hT, List.length_drop]; omega
    have hr : rd_T23 z (i : Int) = a[i] := by
      rw [rd8, hz, List.getD_eq_getElem?_getD, List.getElem?_append_right (by omega), hT, Nat.sub_self, List.getElem?_drop, Nat.add_zero, List.getElem?_eq_getElem hlt]; rfl
    simp only [PLaw.tendrillaw8_ShapeOne.l1]
    rw [if_pos (by omega), hw, Option.bind_some, if_pos (by omega), if_pos (by omega), hr, Int.toNat_natCast, show wrap64 ((i : Int) + 1) = ((i + 1 : Nat) : Int) from by unfold wrap64; omega]
    refine ih K (i + 1) _ (by omega) (by omega) (by omega) ?_
    rw [hz, List.set_append_right _ _ (by omega), hT, Nat.sub_self, List.drop_eq_getElem_cons hlt, List.set_cons_zero, List.take_succ_eq_append_getElem hlt, List.map_append, List.append_assoc]
    rfl
theorem One_l0 (a b : List S23) (turn : Int) (ha : RL a = true) (hb : RL b = true) (hla : a.length ≤ 30) (hlb : b.length ≤ 30) (d : Nat) :
    ∀ (K i : Nat) (x : Bool), a.length - i = d → d + 100 < K → i ≤ a.length → i ≤ b.length → (x = true ↔ (a.length = b.length ∧ ∀ j, j < i → (a.getD j z23).f0 = (b.getD j z23).f0)) → PLaw.tendrillaw8_ShapeOne.l0 K a b turn x i = some true := by
  have hbd := PLaw.within_bd turn 0 99 (by decide)
  have fin : ∀ (K : Nat) (x : Bool), 90 < K → (x = true ↔ a.map (·.f0) = b.map (·.f0)) → PLaw.tendrillaw8_ShapeOne.j2 K a b turn x = some true := by
    intro K x hK hx
    obtain ⟨K, rfl⟩ : ∃ q, K = q + 1 := ⟨K - 1, by omega⟩
    simp only [PLaw.tendrillaw8_ShapeOne.j2]
    rw [Option.bind_some, if_pos (by simp only [List.length_nil]; omega), Option.bind_some, List.nil_append]
    exact One_l1 a b turn x ha hb hla hlb hx _ rfl hbd.1 hbd.2 a.length K 0 a (by omega) (by omega) (by omega) (by simp)
  induction d with
  | zero =>
    intro K i x hi hK h1 h2 hx
    obtain ⟨K, rfl⟩ : ∃ q, K = q + 1 := ⟨K - 1, by omega⟩
    simp only [PLaw.tendrillaw8_ShapeOne.l0]
    rw [if_neg (by omega)]
    refine fin K x (by omega) (hx.trans ?_)
    rw [f0_eq, show i = a.length by omega]
  | succ d ih =>
    intro K i x hi hK h1 h2 hx
    obtain ⟨K, rfl⟩ : ∃ q, K = q + 1 := ⟨K - 1, by omega⟩
    simp only [PLaw.tendrillaw8_ShapeOne.l0]
    rw [if_pos (by omega)]
    by_cases h3 : i < b.length
    · rw [if_pos (by omega), show wrap64 ((i : Int) + 1) = ((i + 1 : Nat) : Int) from by unfold wrap64; omega]
      cases x with
      | true =>
        obtain ⟨p1, p2⟩ := hx.1 rfl
        rw [if_pos rfl, if_pos (by omega), rd8, rd8, toList_L, toList_L]
        refine ih K (i + 1) _ (by omega) (by omega) (by omega) (by omega) ?_
        rw [beq_iff_eq]
        constructor
        · intro h
          refine ⟨p1, fun j hj => ?_⟩
          rcases Nat.lt_or_ge j i with h4 | h4
          · exact p2 j h4
          · rw [show j = i by omega]; exact L_inj h
        · rintro ⟨_, h⟩
          rw [h i (by omega)]
      | false =>
        rw [if_neg (by decide)]
        refine ih K (i + 1) false (by omega) (by omega) (by omega) (by omega) ⟨fun h => absurd h (by decide), fun h => ?_⟩
        exact hx.2 ⟨h.1, fun j hj => h.2 j (by omega)⟩
    · rw [if_neg (by omega)]
      refine fin K x (by omega) (hx.trans ?_)
      rw [f0_eq]
      constructor
      · rintro ⟨p1, _⟩; omega
      · rintro ⟨p1, _⟩; omega
theorem One_f (a b : List S23) (turn : Int) (hla : a.length ≤ 30) (hlb : b.length ≤ 30) : PLaw.tendrillaw8_ShapeOne.f 5000 a b turn = some true := by
  have hj : ∀ x, x = true → PLaw.tendrillaw8_ShapeOne.j0 (4999 + 1) a b turn x = some true := by
    rintro x rfl
    simp only [PLaw.tendrillaw8_ShapeOne.j0]
    rw [if_pos trivial]; rfl
  unfold PLaw.tendrillaw8_ShapeOne.f
  rw [if_neg (by omega), if_neg (by omega), shRight_f 5000 a (by omega) (by omega), Option.bind_some]
  by_cases ha : RL a = true
  · rw [if_pos ha, shRight_f 5000 b (by omega) (by omega), Option.bind_some]
    by_cases hb : RL b = true
    · rw [hb]
      show PLaw.tendrillaw8_ShapeOne.j0 (4999 + 1) a b turn false = some true
      simp only [PLaw.tendrillaw8_ShapeOne.j0]
      rw [if_neg (by decide)]
      refine One_l0 a b turn ha hb hla hlb a.length 4999 0 _ (by omega) (by omega) (by omega) (by omega) ?_
      rw [beq_iff_eq]
      constructor
      · exact fun h => ⟨by omega, fun j hj => absurd hj (by omega)⟩
      · rintro ⟨h, _⟩; omega
    · rw [Bool.eq_false_iff.2 hb]
      exact hj _ rfl
  · rw [if_neg ha]
    exact hj _ rfl
theorem walk (a : Option Addr) (len cap : Nat) (z : List PBase.S23) (a' : Option Addr) (len' cap' : Nat) (z' : List PBase.S23) (turn : Int) (w : World) (h : Ent w a len cap z) (h' : Ent w a' len' cap' z') (hw : (Lit.int .i64 turn).wf = true) : Calls Tryd.prog 5 #[.slice a len cap, .slice a' len' cap', .int .i64 turn] w fun e w' => e = .returned (.bool true) ∧ Below w.heap.size w w' := by
  obtain ⟨h1, h2, h3, h4⟩ := h.cut 30
  obtain ⟨k1, k2, k3, k4⟩ := h'.cut 30
  exact PLaw.tendrillaw8_ShapeOne.calls_cut 5000 a cap (z.take 30) a' cap' (z'.take 30) turn true w len h1 h.cap len' k1 h'.cap h4 h2 k4 k2 (One_f _ _ turn h3 k3)
theorem own : ownKnob Tryd.prog.godebug = none := by kernel_rfl
theorem laidOut : laidOutB Tryd.prog = true := by kernel_rfl
def laid3 {H : Type} : List (String × DataW H) := [("math/bits.deBruijn32tab", Rows.laid_math_bits_deBruijn32tab), ("math/bits.deBruijn64tab", Rows.laid_math_bits_deBruijn64tab), ("internal/strconv.uint64pow10", Rows.laid_internal_strconv_uint64pow10)]
theorem door_met (os : Os) (args : Array Value) : laidMetH Tryd.prog laid3 ((World.doorLaid Tryd.prog 24 os).forCall (fun _ _ => 0) ⟨#[], args, []⟩).memory :=
  laidMetH_of_parts3 (fuel := 8) (laidMet_of_run' 8 (by kernel_rfl) (by kernel_rfl)) (by kernel_rfl) (by kernel_rfl)
set_option maxRecDepth 100000 in
theorem lifted (os : Os) (started : os.Started) (H : Type) (enc : TypeId × Value → H) :
    ReturnsInHanded {} Tryd.checked os 5 .any (fun w args => (Rows.shapeOneSpec.pre enc Tryd.prog Tryd.f5 [] false w args ∧ laidMetH Tryd.prog laid3 w) ∧ sizedMet enc Tryd.prog Tryd.f5 (OpenSpec.ofChange Rows.shapeOneSpec) false w args)
      (Rows.shapeOneSpec.post enc Tryd.prog Tryd.f5 false true false false) := by
  refine returnsInHanded_of_change_and (C := Tryd.checked) (X := fun w _ => laidMetH Tryd.prog laid3 w) (fun _ _ _ hh h => h.of_heap hh) own started (by kernel_rfl) Tryd.func5
    (ChangeSpec.witness_shaped (enc := enc) (C := Tryd.checked) (os := os) (X := fun w _ => laidMetH Tryd.prog laid3 w) false (World.doorLaid Tryd.prog 24 os) #[.slice none 0 0, .slice none 0 0, .int .i64 0] 8 rfl (World.shaped_of_RefB (by kernel_rfl) (by kernel_rfl)) (by kernel_rfl) (by kernel_rfl) (by kernel_rfl) (door_met os _)) ?_
  intro W base args ds gs before hval0 hW hcnd hsz0 _ _
  have hsz : (DataW.weightsEach Tryd.prog (Tryd.f5.params.toList ++ Rows.shapeOneSpec.plain.varTypes Tryd.prog) (ds ++ gs)).all (· ≤ reachBytes) = true := hsz0
  have hval : ∀ (j : Nat) t v, Tryd.f5.params[j]? = some t → args[j]? = some v → Value.okWide Tryd.prog W .any base t v := hval0
  have hW' := hW
  obtain ⟨p, q, hA0, hV, rfl, hfz, hnd⟩ := hW
  have hA : DataW.TrodAll enc Tryd.prog W 0 (fun _ => true) true Tryd.f5.params.toList args.toList ds p := hA0
  rw [Tryd.params5] at hA hval hsz
  obtain ⟨v0, vs0, d0, ds0, p0, q0, hargs, rfl, rfl, h0, r0⟩ := trodAll_cons hA
  obtain ⟨v1, vs1, d1, ds1, p1, q1, rfl, rfl, rfl, h1, r1⟩ := trodAll_cons r0
  obtain ⟨v2, vs2, d2, ds2, p2, q2, rfl, rfl, rfl, h2, r2⟩ := trodAll_cons r1
  obtain ⟨rfl, rfl, rfl⟩ := trodAll_nil r2
  obtain rfl : args = #[v0, v1, v2] := by cases args; simp_all
  obtain ⟨rfl, rfl⟩ := trodVars_none hV
  obtain ⟨a0, len0, cap0, rfl⟩ := okWide_slice Tryd.underlying25 (hval 0 25 v0 rfl rfl)
  have k0 := h0
  have lt0 : ∀ x ∈ p0, x.block < W.heap.size := by obtain ⟨m, hm⟩ := k0; exact DataW.trod_lt m _ _ _ hm
  obtain ⟨z0, we0, wc0, wk0, ws0⟩ := open_entries (he := Tryd.underlying23) (by kernel_rfl) (by kernel_rfl) Tryd.underlying9 Tryd.underlying3 h0
  obtain ⟨a1, len1, cap1, rfl⟩ := okWide_slice Tryd.underlying25 (hval 1 25 v1 rfl rfl)
  have k1 := h1
  have lt1 : ∀ x ∈ p1, x.block < W.heap.size := by obtain ⟨m, hm⟩ := k1; exact DataW.trod_lt m _ _ _ hm
  obtain ⟨z1, we1, wc1, wk1, ws1⟩ := open_entries (he := Tryd.underlying23) (by kernel_rfl) (by kernel_rfl) Tryd.underlying9 Tryd.underlying3 h1
  obtain ⟨a2, rfl, rfl, rfl, w2⟩ := open_int Tryd.underlying3 (hval 2 3 v2 rfl rfl) h2
  clear hA0 hval0 hsz0 hsz
  refine (walk a0 len0 cap0 z0 a1 len1 cap1 z1 a2 W ⟨we0, wc0, wk0, ws0⟩ ⟨we1, wc1, wk1, ws1⟩ w2).mono fun e W' ⟨he, bel⟩ => ?_
  subst he
  exact ⟨_, rfl, _, _, _, [], _, [], hW', trodAll_mk1 (shut_bool Tryd.underlying4 _), (trodAll_cons_mk (Below.trod laidOut (by kernel_rfl) (of_decide_eq_true (by kernel_rfl)) k0 bel lt0) (trodAll_cons_mk (Below.trod laidOut (by kernel_rfl) (of_decide_eq_true (by kernel_rfl)) k1 bel lt1) (trodAll_cons_mk (shut_int Tryd.underlying3 w2) trodAll_mk0))), rfl, bel.frame _, fun h => by cases h⟩
theorem over : Rows.shapeOneRow.holds Tryd.pinned (OpenSpec.ofChange Rows.shapeOneSpec) :=
  OpenClaim.holds_of_wide 5 Tryd.f5 rfl rfl rfl rfl rfl rfl rfl ⟨rfl, rfl, rfl, rfl, rfl⟩ rfl rfl rfl rfl rfl (by kernel_rfl) Tryd.func5 (by kernel_rfl)
    (of_decide_eq_true (by kernel_rfl)) (by unfold Func.isWrapper; first | (rw [if_pos (by decide +kernel)]; kernel_rfl) | (rw [if_neg (by decide +kernel)]; exact ⟨rfl, rfl⟩))
    (fun os started H enc _ => lifted os started H enc)
theorem proved : Rows.ShapeOneSaid := over
#print axioms proved
end Go.Proofs.YtdjjmnkopoldhaaDoor.shapeOne
namespace Go.Proofs.YtdjjmnkopoldhaaDoor
/-- The tied card, for the claim. -/
theorem shapeOne_holds : Rows.ShapeOneCardSaid :=
  Claim7.holds_tied_plain_at .later [] [.data, .data, .data] true (true, "29ee579d745f70bf791a9445bb4d7f3299b09fc95b3ed22776cb9c3bfad44d91") false
    shapeOne.proved (fun _ h => by cases h) (by kernel_rfl) (fun _ h => by cases h) shapeOne_row_tie rfl ⟨rfl, rfl⟩ (by kernel_rfl) rfl
    (fun f fn hf hfn => by
      obtain rfl : f = 5 := Option.some.inj ((show Tryd.prog.funcNamed "tendril/tendrillaw8.ShapeOne" = some 5 by kernel_rfl).symm.trans hf) |>.symm
      obtain rfl : fn = Tryd.f5 := (Option.some.inj (Tryd.func5.symm.trans hfn)).symm
      exact ⟨by kernel_rfl, fun j t ht => by
        rw [Tryd.params5] at ht
        have h3 : t = 25 ∨ t = 25 ∨ t = 3 := by
          rcases j with _ | j
          · simp at ht; first | exact ht.symm | exact Or.inl ht.symm | exact Or.inr ht.symm | exact Or.inr (Or.inl ht.symm) | exact Or.inr (Or.inr ht.symm)
          rcases j with _ | j
          · simp at ht; first | exact ht.symm | exact Or.inl ht.symm | exact Or.inr ht.symm | exact Or.inr (Or.inl ht.symm) | exact Or.inr (Or.inr ht.symm)
          rcases j with _ | j
          · simp at ht; first | exact ht.symm | exact Or.inl ht.symm | exact Or.inr ht.symm | exact Or.inr (Or.inl ht.symm) | exact Or.inr (Or.inr ht.symm)
          simp at ht
        rcases h3 with rfl | rfl | rfl
        · exact (show Tryd.prog.wantsStandIn 25 = false by kernel_rfl)
        · exact (show Tryd.prog.wantsStandIn 25 = false by kernel_rfl)
        · exact (show Tryd.prog.wantsStandIn 3 = false by kernel_rfl)⟩)
    (by kernel_rfl)
#print axioms shapeOne_holds
end Go.Proofs.YtdjjmnkopoldhaaDoor
