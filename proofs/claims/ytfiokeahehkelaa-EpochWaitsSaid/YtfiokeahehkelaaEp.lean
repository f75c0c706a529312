import Derived.Test.YtfiokeahehkelaaPEpochRunsx1
import Derived.WalkLawsBesides
import Derived.Deep.QuietTactic
import Derived.BigQuiet
import Derived.StillTailTactics
import Derived.Deep.AppendLies
import Derived.Deep.RegionHeld3
import Derived.KernelRfl
import Derived.BigRegion
import Derived.WalkSpells
namespace Go.Proofs.Ytfiokeahehkelaa.Ep
open Go Go.RowKit Go.Proofs.YtfiokeahehkelaaW.PrintWords Go.Proofs.YtfiokeahehkelaaW.PrintLast Go.Proofs.YtfiokeahehkelaaW.PrintMore Go.Proofs.Ytfiokeahehkelaa.PEpochRuns
set_option linter.unusedVariables false
set_option linter.unusedSimpArgs false
/-- the clients' cells: where each is pinned, and the slice of what it retired. -/
def cliVals (cs : List (Int × Value)) : List Value := cs.flatMap fun p => [.int .i64 p.1, p.2]
/-- the cells of what was retired: a ref, and the epoch then. -/
def retVals (l : List (Int × Int)) : List Value := l.flatMap fun p => [.int .i64 p.1, .int .i64 p.2]
theorem cliVals_length (cs : List (Int × Value)) : (cliVals cs).length = cs.length * 2 := by
  induction cs with
  | nil => rfl
  | cons p cs ih => rw [cliVals, List.flatMap_cons, List.length_append, ← cliVals, ih, List.length_cons]; simp only [List.length_cons, List.length_nil]; omega
theorem retVals_length (l : List (Int × Int)) : (retVals l).length = l.length * 2 := by
  induction l with
  | nil => rfl
  | cons p l ih => rw [retVals, List.flatMap_cons, List.length_append, ← retVals, ih, List.length_cons]; simp only [List.length_cons, List.length_nil]; omega
theorem cliVals_cons (p : Int × Value) (cs : List (Int × Value)) : cliVals (p :: cs) = .int .i64 p.1 :: p.2 :: cliVals cs := rfl
theorem retVals_cons (p : Int × Int) (l : List (Int × Int)) : retVals (p :: l) = .int .i64 p.1 :: .int .i64 p.2 :: retVals l := rfl
theorem retVals_append (l m : List (Int × Int)) : retVals (l ++ m) = retVals l ++ retVals m := by simp [retVals]
theorem cliVals_pin (cs : List (Int × Value)) (i : Nat) (p : Int × Value) (h : cs[i]? = some p) : (cliVals cs)[i * 2]? = some (.int .i64 p.1) := by
  induction cs generalizing i with
  | nil => simp at h
  | cons q cs ih =>
    cases i with
    | zero => simp only [List.getElem?_cons_zero, Option.some.injEq] at h; subst h; rfl
    | succ i => rw [cliVals_cons, show (i + 1) * 2 = i * 2 + 1 + 1 from by omega, List.getElem?_cons_succ, List.getElem?_cons_succ]; exact ih i (by simpa using h)
theorem cliVals_limbo (cs : List (Int × Value)) (i : Nat) (p : Int × Value) (h : cs[i]? = some p) : (cliVals cs)[i * 2 + 1]? = some p.2 := by
  induction cs generalizing i with
  | nil => simp at h
  | cons q cs ih =>
    cases i with
    | zero => simp only [List.getElem?_cons_zero, Option.some.injEq] at h; subst h; rfl
    | succ i => rw [cliVals_cons, show (i + 1) * 2 + 1 = i * 2 + 1 + 1 + 1 from by omega, List.getElem?_cons_succ, List.getElem?_cons_succ]; exact ih i (by simpa using h)
theorem cliVals_setPin (cs : List (Int × Value)) (i : Nat) (p : Int × Value) (n : Int) (h : cs[i]? = some p) : (cliVals cs).set (i * 2) (.int .i64 n) = cliVals (cs.set i (n, p.2)) := by
  induction cs generalizing i with
  | nil => simp at h
  | cons q cs ih =>
    cases i with
    | zero => simp only [List.getElem?_cons_zero, Option.some.injEq] at h; subst h; rfl
    | succ i => rw [cliVals_cons, show (i + 1) * 2 = i * 2 + 1 + 1 from by omega, List.set_cons_succ, List.set_cons_succ, ih i (by simpa using h), List.set_cons_succ, cliVals_cons]
theorem cliVals_setLimbo (cs : List (Int × Value)) (i : Nat) (p : Int × Value) (v : Value) (h : cs[i]? = some p) : (cliVals cs).set (i * 2 + 1) v = cliVals (cs.set i (p.1, v)) := by
  induction cs generalizing i with
  | nil => simp at h
  | cons q cs ih =>
    cases i with
    | zero => simp only [List.getElem?_cons_zero, Option.some.injEq] at h; subst h; rfl
    | succ i => rw [cliVals_cons, show (i + 1) * 2 + 1 = i * 2 + 1 + 1 + 1 from by omega, List.set_cons_succ, List.set_cons_succ, ih i (by simpa using h), List.set_cons_succ, cliVals_cons]
/-- a block of the epochs' own kinds. -/
def ours (o : Obj) : Prop := ∃ cells t fr, o = .cells cells t fr ∧ (t = 53 ∨ t = 56 ∨ t = 62)
/-- what is not the epochs' own stays, and what was there ahead of base. -/
structure TF (base : Nat) (w w' : World) : Prop where
  below : Below base w w'
  others : ∀ (k : Nat) (o : Obj), w.heap[k]? = some o → ¬ ours o → w'.heap[k]? = some o
theorem TF.refl (base : Nat) (w : World) : TF base w w := ⟨Below.refl _ _, fun _ _ h _ => h⟩
theorem TF.trans {base : Nat} {a b c : World} (h : TF base a b) (h2 : TF base b c) : TF base a c := ⟨h.below.trans h2.below, fun k o ho hn => h2.others k o (h.others k o ho hn) hn⟩
theorem TF.drawn {base : Nat} {a b : World} (h : Drawn0 a b) : TF base a b := by
  obtain ⟨n, rfl⟩ := h
  exact ⟨pw_below_drewN (Below.refl _ _) n, fun k o ho _ => by exact ho⟩
/-- what the epochs hold, in memory: the clients' slices cs, what they lead to ls. -/
structure Ep (w : World) (base g : Nat) (now room : Int) (cs : List (Int × Value)) (ls : List (List (Int × Int))) : Prop where
  ge : base ≤ g
  obj : ∃ V, w.heap[g]? = some (.cells #[.int .i64 now, .int .i64 room, V] 53 (0, 0)) ∧ w.ownsRow base 56 2 V cs.length (cliVals cs)
  len : ls.length = cs.length
  rows : ∀ (i : Nat) (p : Int × Value) (l : List (Int × Int)), cs[i]? = some p → ls[i]? = some l → w.ownsRow base 62 2 p.2 l.length (retVals l)
  apart : ∀ (i j : Nat) (p q : Int × Value) (b : Nat), cs[i]? = some p → cs[j]? = some q → p.2.ownBlock = some b → q.2.ownBlock = some b → i = j
theorem own_type {w : World} {base : Nat} {e : TypeId} {size n : Nat} {v : Value} {xs : List Value} (h : w.ownsRow base e size v n xs) {b : Nat} (hb : v.ownBlock = some b) : ∃ cur, w.heap[b]? = some (.cells cur e (0, 0)) := by
  rcases h.2 with ⟨rfl, _⟩ | ⟨g, cap, cur, rfl, _, hg, _⟩
  · cases hb
  · simp only [Value.ownBlock, Option.some.injEq] at hb; subst hb; exact ⟨cur, hg⟩
theorem own_lift {w w' : World} {base : Nat} {e : TypeId} {size n : Nat} {v : Value} {xs : List Value} (h : w.ownsRow base e size v n xs) (hm : ∀ b, v.ownBlock = some b → w'.heap[b]? = w.heap[b]?) : w'.ownsRow base e size v n xs := by
  obtain ⟨h1, h2⟩ := h
  refine ⟨h1, ?_⟩
  rcases h2 with h2 | ⟨g, cap, cur, rfl, hg, hh, r⟩
  · exact .inl h2
  · exact .inr ⟨g, cap, cur, rfl, hg, (hm g rfl).trans hh, r⟩
/-- whatever leaves the epochs' blocks as they are. -/
theorem Ep.move {w w' : World} {base g : Nat} {now room : Int} {cs : List (Int × Value)} {ls : List (List (Int × Int))} (h : Ep w base g now room cs ls) (hm : ∀ (k : Nat) (o : Obj), w.heap[k]? = some o → ours o → w'.heap[k]? = some o) : Ep w' base g now room cs ls := by
  have hk : ∀ {k : Nat} {cur : Array Value} {e : TypeId}, w.heap[k]? = some (.cells cur e (0, 0)) → (e = 53 ∨ e = 56 ∨ e = 62) → w'.heap[k]? = w.heap[k]? := fun hh he => by rw [hh]; exact hm _ _ hh ⟨_, _, _, rfl, he⟩
  obtain ⟨V, hV, hO⟩ := h.obj
  refine ⟨h.ge, ⟨V, (hk hV (.inl rfl)).trans hV, own_lift hO fun b hb => ?_⟩, h.len, fun i p l hp hl => own_lift (h.rows i p l hp hl) fun b hb => ?_, h.apart⟩
  · obtain ⟨cur, hc⟩ := own_type hO hb; exact hk hc (.inr (.inl rfl))
  · obtain ⟨cur, hc⟩ := own_type (h.rows i p l hp hl) hb; exact hk hc (.inr (.inr rfl))
theorem Ep.drawn {w w' : World} {base g : Nat} {now room : Int} {cs : List (Int × Value)} {ls : List (List (Int × Int))} (h : Ep w base g now room cs ls) (hd : Drawn0 w w') : Ep w' base g now room cs ls := by
  obtain ⟨n, rfl⟩ := hd
  exact h.move fun k o ho _ => by exact ho
/-- the clients' row: its header and its cells. -/
theorem Ep.header {w : World} {base g : Nat} {now room : Int} {cs : List (Int × Value)} {ls : List (List (Int × Int))} (h : Ep w base g now room cs ls) (hpos : 0 < cs.length) :
    ∃ gc cap, w.heap[g]? = some (.cells #[.int .i64 now, .int .i64 room, .slice (some ⟨gc, 0, none⟩) cs.length cap] 53 (0, 0)) ∧ w.ownsRow base 56 2 (.slice (some ⟨gc, 0, none⟩) cs.length cap) cs.length (cliVals cs) := by
  obtain ⟨V, hV, hO⟩ := h.obj
  rcases hO.2 with ⟨rfl, h0⟩ | ⟨gc, cap, cur, rfl, r⟩
  · omega
  · exact ⟨gc, cap, hV, hO⟩
theorem cell3 {w : World} {g : Nat} {a b c : Value} {t : TypeId} {fr : Nat × Nat} (h : w.heap[g]? = some (.cells #[a, b, c] t fr)) : w.cell? ⟨g, 0, none⟩ = some a ∧ w.cell? ⟨g, 1, none⟩ = some b ∧ w.cell? ⟨g, 2, none⟩ = some c := by
  simp [World.cell?, h]
theorem free3 {w : World} {g : Nat} {cs : Array Value} {t : TypeId} (h : w.heap[g]? = some (.cells cs t (0, 0))) (j : Nat) : w.frozen? ⟨g, j, none⟩ = false := frozen_of_row w g j cs t h
/-- a client's pin is stored. -/
theorem Ep.setPin {w : World} {base g gc cap : Nat} {now room : Int} {cs : List (Int × Value)} {ls : List (List (Int × Int))} (h : Ep w base g now room cs ls)
    (hV : w.heap[g]? = some (.cells #[.int .i64 now, .int .i64 room, .slice (some ⟨gc, 0, none⟩) cs.length cap] 53 (0, 0))) (hO : w.ownsRow base 56 2 (.slice (some ⟨gc, 0, none⟩) cs.length cap) cs.length (cliVals cs))
    (i : Nat) (p : Int × Value) (hp : cs[i]? = some p) (n : Int) : Ep (w.setCell ⟨gc, i * 2, none⟩ (.int .i64 n)) base g now room (cs.set i (n, p.2)) ls ∧ TF base w (w.setCell ⟨gc, i * 2, none⟩ (.int .i64 n)) := by
  have hs := hO.stored (i * 2) (.int .i64 n)
  obtain ⟨cur, hcur⟩ := own_type hO (b := gc) rfl
  have hg : g ≠ gc := fun e => by rw [e, hcur] at hV; injection hV with hV; injection hV with _ hV; cases hV
  have hgc : base ≤ gc := (hO.lt gc rfl).1
  rw [cliVals_setPin cs i p n hp] at hs
  have far : ∀ k, k ≠ gc → (w.setCell ⟨gc, i * 2, none⟩ (.int .i64 n)).heap[k]? = w.heap[k]? := fun k hk => heap_setCell_other w ⟨gc, i * 2, none⟩ k _ hk
  have hget : ∀ (j : Nat) (q : Int × Value), (cs.set i (n, p.2))[j]? = some q → ∃ q', cs[j]? = some q' ∧ q.2 = q'.2 := by
    intro j q hq
    rw [List.getElem?_set] at hq
    split at hq
    · next e =>
      subst e
      split at hq
      · injection hq with hq; subst hq; exact ⟨p, hp, rfl⟩
      · cases hq
    · exact ⟨q, hq, rfl⟩
  refine ⟨⟨h.ge, ⟨_, (far g hg).trans hV, by rw [List.length_set]; exact hs.1⟩, by rw [List.length_set]; exact h.len, ?_, ?_⟩, ⟨Below.setCell (Below.refl _ _) hgc _, fun k o ho hn => ?_⟩⟩
  · intro j q l hq hl
    obtain ⟨q', hq', e⟩ := hget j q hq
    rw [e]
    refine own_lift (h.rows j q' l hq' hl) fun b hb => far b fun e2 => ?_
    obtain ⟨cur2, hc2⟩ := own_type (h.rows j q' l hq' hl) hb
    rw [e2, hcur] at hc2; injection hc2 with hc2; injection hc2 with _ hc2; cases hc2
  · intro j j' q q' b hq hq' hb hb'
    obtain ⟨r, hr, e⟩ := hget j q hq
    obtain ⟨r', hr', e'⟩ := hget j' q' hq'
    rw [e] at hb; rw [e'] at hb'
    exact h.apart j j' r r' b hr hr' hb hb'
  · rw [far k (fun e => hn (by rw [e, hcur] at ho; injection ho with ho; exact ⟨_, _, _, ho.symm, .inr (.inl rfl)⟩))]; exact ho
/-- the epoch is stored. -/
theorem Ep.setNow {w : World} {base g : Nat} {now room : Int} {cs : List (Int × Value)} {ls : List (List (Int × Int))} (h : Ep w base g now room cs ls) (n : Int) :
    Ep (w.setCell ⟨g, 0, none⟩ (.int .i64 n)) base g n room cs ls ∧ TF base w (w.setCell ⟨g, 0, none⟩ (.int .i64 n)) := by
  obtain ⟨V, hV, hO⟩ := h.obj
  have far : ∀ k, k ≠ g → (w.setCell ⟨g, 0, none⟩ (.int .i64 n)).heap[k]? = w.heap[k]? := fun k hk => heap_setCell_other w ⟨g, 0, none⟩ k _ hk
  refine ⟨⟨h.ge, ⟨V, heap_setCell_same w g 0 _ 53 _ hV, own_lift hO fun b hb => far b fun e => ?_⟩, h.len, fun i p l hp hl => own_lift (h.rows i p l hp hl) fun b hb => far b fun e => ?_, h.apart⟩, ⟨Below.setCell (Below.refl _ _) h.ge _, fun k o ho hn => ?_⟩⟩
  · obtain ⟨cur, hc⟩ := own_type hO hb; rw [e, hV] at hc; injection hc with hc; injection hc with _ hc; cases hc
  · obtain ⟨cur, hc⟩ := own_type (h.rows i p l hp hl) hb; rw [e, hV] at hc; injection hc with hc; injection hc with _ hc; cases hc
  · rw [far k (fun e => hn (by rw [e, hV] at ho; injection ho with ho; exact ⟨_, _, _, ho.symm, .inl rfl⟩))]; exact ho
/-- what the epochs are, in plain words: the epoch, the room, the pins, what waits. -/
structure St where
  now : Int
  room : Int
  pins : List Int
  lim : List (List (Int × Int))
/-- the state is held in memory. -/
def Held (w : World) (base g : Nat) (s : St) : Prop := ∃ cs, Ep w base g s.now s.room cs s.lim ∧ cs.map (fun p => p.1) = s.pins
def St.pinOf (s : St) (c : Int) : Int := if 0 ≤ c then (s.pins[c.toNat]?).getD (-1) else -1
def St.limbo (s : St) (c : Int) : Int := if 0 ≤ c then (((s.lim[c.toNat]?).getD []).length : Int) else 0
theorem Held.drawn {w w' : World} {base g : Nat} {s : St} (h : Held w base g s) (hd : Drawn0 w w') : Held w' base g s := by
  obtain ⟨cs, h, e⟩ := h
  exact ⟨cs, h.drawn hd, e⟩
theorem Ep.cells {w : World} {base g : Nat} {now room : Int} {cs : List (Int × Value)} {ls : List (List (Int × Int))} (h : Ep w base g now room cs ls) (hpos : 0 < cs.length) :
    ∃ gc cap, w.cell? ⟨g, 0, none⟩ = some (.int .i64 now) ∧ w.cell? ⟨g, 1, none⟩ = some (.int .i64 room) ∧ w.cell? ⟨g, 2, none⟩ = some (.slice (some ⟨gc, 0, none⟩) cs.length cap) ∧
      (∀ (i : Nat) (p : Int × Value), cs[i]? = some p → w.cell? ⟨gc, i * 2, none⟩ = some (.int .i64 p.1) ∧ w.cell? ⟨gc, i * 2 + 1, none⟩ = some p.2) := by
  obtain ⟨gc, cap, hV, hO⟩ := h.header hpos
  obtain ⟨h0, h1, h2⟩ := cell3 hV
  refine ⟨gc, cap, h0, h1, h2, fun i p hp => ⟨?_, ?_⟩⟩
  · have := cliVals_pin cs i p hp; rw [hO.cellAt (i * 2) (by have := (List.getElem?_eq_some_iff.1 hp).1; omega)]; exact this
  · have := cliVals_limbo cs i p hp; rw [hO.cellAt (i * 2 + 1) (by have := (List.getElem?_eq_some_iff.1 hp).1; omega)]; exact this
/-- the pin and the limbo that a client has, in both views. -/
theorem Held.at_ {w : World} {base g : Nat} {s : St} (h : Held w base g s) (hpos : 0 < s.pins.length) :
    s.lim.length = s.pins.length ∧ ∃ (gc cap : Nat), w.cell? ⟨g, 0, none⟩ = some (.int .i64 s.now) ∧ w.cell? ⟨g, 1, none⟩ = some (.int .i64 s.room) ∧ w.cell? ⟨g, 2, none⟩ = some (.slice (some ⟨gc, 0, none⟩) s.pins.length cap) ∧
      (∀ (i : Nat), i < s.pins.length → ∃ V, w.cell? ⟨gc, i * 2, none⟩ = some (.int .i64 (s.pins[i]?.getD (-1))) ∧ w.cell? ⟨gc, i * 2 + 1, none⟩ = some V ∧ w.ownsRow base 62 2 V (s.lim[i]?.getD []).length (retVals (s.lim[i]?.getD []))) := by
  obtain ⟨cs, h, e⟩ := h
  have hl : cs.length = s.pins.length := by rw [← e, List.length_map]
  obtain ⟨gc, cap, h0, h1, h2, h3⟩ := h.cells (by omega)
  refine ⟨h.len.trans hl, gc, cap, h0, h1, by rw [h2, hl], fun i hi => ?_⟩
  have hc : cs[i]? = some cs[i] := List.getElem?_eq_getElem (by omega)
  have hm : s.lim[i]? = some (s.lim[i]'(by rw [h.len]; omega)) := List.getElem?_eq_getElem (by rw [h.len]; omega)
  have hp : s.pins[i]? = some cs[i].1 := by rw [← e, List.getElem?_map, hc]; rfl
  rw [hp, hm]
  exact ⟨cs[i].2, (h3 i _ hc).1, (h3 i _ hc).2, h.rows i _ _ hc hm⟩
theorem St.pinOf_in (s : St) (c : Int) (h0 : 0 ≤ c) : s.pinOf c = s.pins[c.toNat]?.getD (-1) := if_pos h0
theorem St.pinOf_out (s : St) (c : Int) (h : c < 0 ∨ (s.pins.length : Int) ≤ c) : s.pinOf c = -1 := by
  unfold St.pinOf
  split
  · rw [List.getElem?_eq_none (by omega)]; rfl
  · rfl
theorem St.limbo_in (s : St) (c : Int) (h0 : 0 ≤ c) : s.limbo c = ((s.lim[c.toNat]?.getD []).length : Int) := if_pos h0
theorem St.limbo_out (s : St) (c : Int) (h : c < 0 ∨ (s.lim.length : Int) ≤ c) : s.limbo c = 0 := by
  unfold St.limbo
  split
  · rw [List.getElem?_eq_none (by omega)]; rfl
  · rfl
set_option maxHeartbeats 1000000 in
set_option maxRecDepth 100000 in
theorem pinof (w : World) (base g : Nat) (s : St) (c : Int) (h : Held w base g s) (hpos : 0 < s.pins.length) (hn : s.pins.length ≤ 8) :
    Calls Try.prog 13 #[.pointer (some ⟨g, 0, none⟩), .int .i64 c] w fun e w' => e = .returned (.int .i64 (s.pinOf c)) ∧ Drawn0 w w' := by
  obtain ⟨hll, gc, cap, hV0, hV1, hV, hcell⟩ := h.at_ hpos
  by_cases h0 : 0 ≤ c
  · by_cases h1 : c < (s.pins.length : Int)
    · have b1 : decide (c < 0) = false := decide_eq_false (by omega)
      have b2 : decide ((s.pins.length : Int) ≤ c) = false := decide_eq_false (by omega)
      have q1 : (0 ≤ c) = True := eq_true h0
      have q2 : (c < (s.pins.length : Int)) = True := eq_true h1
      obtain ⟨V, hp, -⟩ := hcell c.toNat (by omega)
      rw [← St.pinOf_in s c h0] at hp
      generalize s.pinOf c = pin at *
      go_enter Try.func13, Try.ntmps13
      go_wp2
      go_ret
      exact ⟨rfl, by repeat (first | exact Drawn0.refl _ | apply Drawn0.step)⟩
    · have b1 : decide (c < 0) = false := decide_eq_false (by omega)
      have b2 : decide ((s.pins.length : Int) ≤ c) = true := decide_eq_true (by omega)
      rw [St.pinOf_out s c (.inr (by omega))]
      go_enter Try.func13, Try.ntmps13
      go_wp2
      go_ret
      exact ⟨rfl, by repeat (first | exact Drawn0.refl _ | apply Drawn0.step)⟩
  · have b1 : decide (c < 0) = true := decide_eq_true (by omega)
    rw [St.pinOf_out s c (.inl (by omega))]
    go_enter Try.func13, Try.ntmps13
    go_wp2
    go_ret
    exact ⟨rfl, by repeat (first | exact Drawn0.refl _ | apply Drawn0.step)⟩
theorem own_form {w : World} {base : Nat} {e : TypeId} {size n : Nat} {v : Value} {xs : List Value} (h : w.ownsRow base e size v n xs) : (v = .slice none 0 0 ∧ n = 0) ∨ ∃ g cap, v = .slice (some ⟨g, 0, none⟩) n cap := by
  rcases h.2 with ⟨rfl, h0⟩ | ⟨g, cap, cur, rfl, r⟩
  · exact .inl ⟨rfl, h0⟩
  · exact .inr ⟨g, cap, rfl⟩
set_option maxHeartbeats 1000000 in
set_option maxRecDepth 100000 in
theorem limbo_ (w : World) (base g : Nat) (s : St) (c : Int) (h : Held w base g s) (hpos : 0 < s.pins.length) (hn : s.pins.length ≤ 8) :
    Calls Try.prog 24 #[.pointer (some ⟨g, 0, none⟩), .int .i64 c] w fun e w' => e = .returned (.int .i64 (s.limbo c)) ∧ Drawn0 w w' := by
  obtain ⟨hll, gc, cap, hV0, hV1, hV, hcell⟩ := h.at_ hpos
  by_cases h0 : 0 ≤ c
  · by_cases h1 : c < (s.pins.length : Int)
    · have b1 : decide (c < 0) = false := decide_eq_false (by omega)
      have b2 : decide ((s.pins.length : Int) ≤ c) = false := decide_eq_false (by omega)
      have q1 : (0 ≤ c) = True := eq_true h0
      have q2 : (c < (s.pins.length : Int)) = True := eq_true h1
      obtain ⟨V, hp, hq, hO⟩ := hcell c.toNat (by omega)
      rw [St.limbo_in s c h0]
      generalize hL : s.lim[c.toNat]?.getD [] = L at *
      rcases own_form hO with ⟨rfl, h0⟩ | ⟨gl, cp, rfl⟩
      · rw [h0]
        go_enter Try.func24, Try.ntmps24
        go_wp2
        go_ret
        exact ⟨rfl, by repeat (first | exact Drawn0.refl _ | apply Drawn0.step)⟩
      · go_enter Try.func24, Try.ntmps24
        go_wp2
        go_ret
        exact ⟨rfl, by repeat (first | exact Drawn0.refl _ | apply Drawn0.step)⟩
    · have b1 : decide (c < 0) = false := decide_eq_false (by omega)
      have b2 : decide ((s.pins.length : Int) ≤ c) = true := decide_eq_true (by omega)
      rw [St.limbo_out s c (.inr (by omega))]
      go_enter Try.func24, Try.ntmps24
      go_wp2
      go_ret
      exact ⟨rfl, by repeat (first | exact Drawn0.refl _ | apply Drawn0.step)⟩
  · have b1 : decide (c < 0) = true := decide_eq_true (by omega)
    rw [St.limbo_out s c (.inl (by omega))]
    go_enter Try.func24, Try.ntmps24
    go_wp2
    go_ret
    exact ⟨rfl, by repeat (first | exact Drawn0.refl _ | apply Drawn0.step)⟩
set_option maxHeartbeats 1000000 in
set_option maxRecDepth 100000 in
theorem now_ (w : World) (base g : Nat) (s : St) (h : Held w base g s) (hpos : 0 < s.pins.length) :
    Calls Try.prog 16 #[.pointer (some ⟨g, 0, none⟩)] w fun e w' => e = .returned (.int .i64 s.now) ∧ Drawn0 w w' := by
  obtain ⟨hll, gc, cap, hV0, hV1, hV, hcell⟩ := h.at_ hpos
  go_enter Try.func16, Try.ntmps16
  go_wp2
  go_ret
  exact ⟨rfl, by repeat (first | exact Drawn0.refl _ | apply Drawn0.step)⟩
/-- the memory is as the epochs hold it, and a client's pin is stored. -/
theorem Held.pin {w : World} {base g : Nat} {s : St} (h : Held w base g s) (hpos : 0 < s.pins.length) : ∃ (gc cap : Nat), w.cell? ⟨g, 0, none⟩ = some (.int .i64 s.now) ∧ w.cell? ⟨g, 1, none⟩ = some (.int .i64 s.room) ∧ w.cell? ⟨g, 2, none⟩ = some (.slice (some ⟨gc, 0, none⟩) s.pins.length cap) ∧
    ∀ (i : Nat), i < s.pins.length → w.frozen? ⟨gc, i * 2, none⟩ = false ∧ (∃ u, w.cell? ⟨gc, i * 2, none⟩ = some u) ∧ ∀ n : Int, Held (w.setCell ⟨gc, i * 2, none⟩ (.int .i64 n)) base g { s with pins := s.pins.set i n } ∧ TF base w (w.setCell ⟨gc, i * 2, none⟩ (.int .i64 n)) := by
  obtain ⟨cs, h, e⟩ := h
  have hl : cs.length = s.pins.length := by rw [← e, List.length_map]
  obtain ⟨gc, cap, hV, hO⟩ := h.header (by omega)
  obtain ⟨h0, h1, h2⟩ := cell3 hV
  refine ⟨gc, cap, h0, h1, by rw [h2, hl], fun i hi => ?_⟩
  have hc : cs[i]? = some cs[i] := List.getElem?_eq_getElem (by omega)
  refine ⟨hO.frozenAt _, ⟨_, (hO.cellAt (i * 2) (by omega)).trans (cliVals_pin cs i _ hc)⟩, fun n => ?_⟩
  obtain ⟨h3, h4⟩ := h.setPin hV hO i _ hc n
  refine ⟨⟨_, h3, ?_⟩, h4⟩
  rw [List.map_set, e]
def St.has (s : St) (c : Int) : Prop := 0 ≤ c ∧ c < (s.pins.length : Int)
instance (s : St) (c : Int) : Decidable (s.has c) := inferInstanceAs (Decidable (_ ∧ _))
def St.pinB (s : St) (c n : Int) : Bool := decide (s.has c ∧ 0 ≤ n ∧ n ≤ s.now)
def St.pinS (s : St) (c n : Int) : St := if s.has c ∧ 0 ≤ n ∧ n ≤ s.now then { s with pins := s.pins.set c.toNat n } else s
def St.unpinB (s : St) (c : Int) : Bool := decide (s.has c)
def St.unpinS (s : St) (c : Int) : St := if s.has c then { s with pins := s.pins.set c.toNat (-1) } else s
def St.advB (s : St) (n : Int) : Bool := decide (s.now = n ∧ s.now < 1073741824)
def St.advS (s : St) (n : Int) : St := if s.now = n ∧ s.now < 1073741824 then { s with now := s.now + 1 } else s
theorem Held.out {w : World} {base g : Nat} {s : St} {e : Ending} {r : Value} {w2 : World} (h : Held w base g s) (he : e = .returned r) (hd : Drawn0 w w2) : e = .returned r ∧ Held w2 base g s ∧ TF base w w2 := ⟨he, h.drawn hd, TF.drawn hd⟩
set_option maxHeartbeats 1000000 in
set_option maxRecDepth 100000 in
theorem unpin_ (w : World) (base g : Nat) (s : St) (c : Int) (h : Held w base g s) (hpos : 0 < s.pins.length) (hn : s.pins.length ≤ 8) :
    Calls Try.prog 14 #[.pointer (some ⟨g, 0, none⟩), .int .i64 c] w fun e w' => e = .returned (.bool (s.unpinB c)) ∧ Held w' base g (s.unpinS c) ∧ TF base w w' := by
  obtain ⟨gc, cap, hV0, hV1, hV, hcell⟩ := h.pin hpos
  by_cases h0 : 0 ≤ c
  · by_cases h1 : c < (s.pins.length : Int)
    · have b1 : decide (c < 0) = false := decide_eq_false (by omega)
      have b2 : decide ((s.pins.length : Int) ≤ c) = false := decide_eq_false (by omega)
      have q1 : (0 ≤ c) = True := eq_true h0
      have q2 : (c < (s.pins.length : Int)) = True := eq_true h1
      obtain ⟨hf, ⟨u, hu⟩, hs⟩ := hcell c.toNat (by omega)
      rw [show s.unpinB c = true from decide_eq_true ⟨h0, h1⟩, show s.unpinS c = _ from if_pos ⟨h0, h1⟩]
      go_enter Try.func14, Try.ntmps14
      go_wp2
      go_ret
      exact ⟨rfl, hs _⟩
    · have b1 : decide (c < 0) = false := decide_eq_false (by omega)
      have b2 : decide ((s.pins.length : Int) ≤ c) = true := decide_eq_true (by omega)
      rw [show s.unpinB c = false from decide_eq_false (by unfold St.has; omega), show s.unpinS c = s from if_neg (by unfold St.has; omega)]
      go_enter Try.func14, Try.ntmps14
      go_wp2
      go_ret
      exact h.out rfl (by repeat (first | exact Drawn0.refl _ | apply Drawn0.step))
  · have b1 : decide (c < 0) = true := decide_eq_true (by omega)
    rw [show s.unpinB c = false from decide_eq_false (by unfold St.has; omega), show s.unpinS c = s from if_neg (by unfold St.has; omega)]
    go_enter Try.func14, Try.ntmps14
    go_wp2
    go_ret
    exact h.out rfl (by repeat (first | exact Drawn0.refl _ | apply Drawn0.step))
set_option maxHeartbeats 1000000 in
set_option maxRecDepth 100000 in
theorem pin_ (w : World) (base g : Nat) (s : St) (c n : Int) (h : Held w base g s) (hpos : 0 < s.pins.length) (hn : s.pins.length ≤ 8) :
    Calls Try.prog 12 #[.pointer (some ⟨g, 0, none⟩), .int .i64 c, .int .i64 n] w fun e w' => e = .returned (.bool (s.pinB c n)) ∧ Held w' base g (s.pinS c n) ∧ TF base w w' := by
  obtain ⟨gc, cap, hV0, hV1, hV, hcell⟩ := h.pin hpos
  by_cases h0 : 0 ≤ c
  · by_cases h1 : c < (s.pins.length : Int)
    · have b1 : decide (c < 0) = false := decide_eq_false (by omega)
      have b2 : decide ((s.pins.length : Int) ≤ c) = false := decide_eq_false (by omega)
      have q1 : (0 ≤ c) = True := eq_true h0
      have q2 : (c < (s.pins.length : Int)) = True := eq_true h1
      obtain ⟨hf, ⟨u, hu⟩, hs⟩ := hcell c.toNat (by omega)
      by_cases h2 : n < 0
      · have c1 : decide (n < 0) = true := decide_eq_true h2
        rw [show s.pinB c n = false from decide_eq_false (by unfold St.has; omega), show s.pinS c n = s from if_neg (by unfold St.has; omega)]
        go_enter Try.func12, Try.ntmps12
        go_wp2
        go_ret
        exact h.out rfl (by repeat (first | exact Drawn0.refl _ | apply Drawn0.step))
      · have c1 : decide (n < 0) = false := decide_eq_false h2
        by_cases h3 : s.now < n
        · have c2 : decide (s.now < n) = true := decide_eq_true h3
          rw [show s.pinB c n = false from decide_eq_false (by unfold St.has; omega), show s.pinS c n = s from if_neg (by unfold St.has; omega)]
          go_enter Try.func12, Try.ntmps12
          go_wp2
          go_ret
          exact h.out rfl (by repeat (first | exact Drawn0.refl _ | apply Drawn0.step))
        · have c2 : decide (s.now < n) = false := decide_eq_false h3
          have hh : s.has c ∧ 0 ≤ n ∧ n ≤ s.now := ⟨⟨h0, h1⟩, by omega, by omega⟩
          rw [show s.pinB c n = true from decide_eq_true hh, show s.pinS c n = _ from if_pos hh]
          go_enter Try.func12, Try.ntmps12
          go_wp2
          go_ret
          exact ⟨rfl, hs _⟩
    · have b1 : decide (c < 0) = false := decide_eq_false (by omega)
      have b2 : decide ((s.pins.length : Int) ≤ c) = true := decide_eq_true (by omega)
      rw [show s.pinB c n = false from decide_eq_false (by unfold St.has; omega), show s.pinS c n = s from if_neg (by unfold St.has; omega)]
      go_enter Try.func12, Try.ntmps12
      go_wp2
      go_ret
      exact h.out rfl (by repeat (first | exact Drawn0.refl _ | apply Drawn0.step))
  · have b1 : decide (c < 0) = true := decide_eq_true (by omega)
    rw [show s.pinB c n = false from decide_eq_false (by unfold St.has; omega), show s.pinS c n = s from if_neg (by unfold St.has; omega)]
    go_enter Try.func12, Try.ntmps12
    go_wp2
    go_ret
    exact h.out rfl (by repeat (first | exact Drawn0.refl _ | apply Drawn0.step))
theorem Held.setNow {w : World} {base g : Nat} {s : St} (h : Held w base g s) (hpos : 0 < s.pins.length) : w.cell? ⟨g, 0, none⟩ = some (.int .i64 s.now) ∧ w.frozen? ⟨g, 0, none⟩ = false ∧ ∀ n, Held (w.setCell ⟨g, 0, none⟩ (.int .i64 n)) base g { s with now := n } ∧ TF base w (w.setCell ⟨g, 0, none⟩ (.int .i64 n)) := by
  obtain ⟨cs, h, e⟩ := h
  have hl : cs.length = s.pins.length := by rw [← e, List.length_map]
  obtain ⟨gc, cap, hV, hO⟩ := h.header (by omega)
  obtain ⟨h0, h1, h2⟩ := cell3 hV
  exact ⟨h0, free3 hV 0, fun n => ⟨⟨cs, (h.setNow n).1, e⟩, (h.setNow n).2⟩⟩
set_option maxHeartbeats 1000000 in
set_option maxRecDepth 100000 in
theorem adv_ (w : World) (base g : Nat) (s : St) (n : Int) (h : Held w base g s) (hpos : 0 < s.pins.length) (hlo : 0 ≤ s.now) (hhi : s.now ≤ 1073741824) :
    Calls Try.prog 10 #[.pointer (some ⟨g, 0, none⟩), .int .i64 n] w fun e w' => e = .returned (.bool (s.advB n)) ∧ Held w' base g (s.advS n) ∧ TF base w w' := by
  obtain ⟨h0, hf, hs⟩ := h.setNow hpos
  by_cases h1 : s.now = n
  · by_cases h2 : s.now < 1073741824
    · rw [show s.advB n = true from decide_eq_true ⟨h1, h2⟩, show s.advS n = _ from if_pos ⟨h1, h2⟩]
      subst h1
      go_enter Try.func10, Try.ntmps10
      go_wp2
      go_ret
      exact ⟨rfl, hs _⟩
    · rw [show s.advB n = false from decide_eq_false (by omega), show s.advS n = s from if_neg (by omega)]
      subst h1
      go_enter Try.func10, Try.ntmps10
      go_wp2
      go_ret
      exact h.out rfl (by repeat (first | exact Drawn0.refl _ | apply Drawn0.step))
  · rw [show s.advB n = false from decide_eq_false (by omega), show s.advS n = s from if_neg (by omega)]
    go_enter Try.func10, Try.ntmps10
    go_wp2
    go_ret
    exact h.out rfl (by repeat (first | exact Drawn0.refl _ | apply Drawn0.step))
/-- a client's limbo is stored anew: its row has grown in place, or is a new one. -/
theorem Ep.setLimbo {w w3 : World} {base g gc cap : Nat} {now room : Int} {cs : List (Int × Value)} {ls : List (List (Int × Int))} (h : Ep w base g now room cs ls)
    (hV : w.heap[g]? = some (.cells #[.int .i64 now, .int .i64 room, .slice (some ⟨gc, 0, none⟩) cs.length cap] 53 (0, 0))) (hO : w.ownsRow base 56 2 (.slice (some ⟨gc, 0, none⟩) cs.length cap) cs.length (cliVals cs))
    (i : Nat) (p : Int × Value) (l : List (Int × Int)) (hp : cs[i]? = some p) (hl : ls[i]? = some l) (V' : Value) (l' : List (Int × Int)) (hown : w3.ownsRow base 62 2 V' l'.length (retVals l')) (hB : Below base w w3)
    (hk : ∀ k, k < w.heap.size → some k ≠ p.2.ownBlock → w3.heap[k]? = w.heap[k]?) (hat : V'.ownBlock = p.2.ownBlock ∨ ∃ b, V'.ownBlock = some b ∧ w.heap.size ≤ b) :
    Ep (w3.setCell ⟨gc, i * 2 + 1, none⟩ V') base g now room (cs.set i (p.1, V')) (ls.set i l') ∧ TF base w (w3.setCell ⟨gc, i * 2 + 1, none⟩ V') := by
  obtain ⟨cur, hcur⟩ := own_type hO (b := gc) rfl
  have hlt : ∀ {k : Nat} {o : Obj}, w.heap[k]? = some o → k < w.heap.size := fun hh => (Array.getElem?_eq_some_iff.1 hh).1
  have hpV : ∀ b, p.2.ownBlock = some b → ∃ cur, w.heap[b]? = some (.cells cur 62 (0, 0)) := fun b hb => own_type (h.rows i p l hp hl) hb
  have hg : g ≠ gc := fun e => by rw [e, hcur] at hV; injection hV with hV; injection hV with _ hV; cases hV
  have hgp : some g ≠ p.2.ownBlock := fun e => by
    obtain ⟨cur2, hc2⟩ := hpV g e.symm
    rw [hV] at hc2; injection hc2 with hc2; injection hc2 with _ hc2; cases hc2
  have hcp : some gc ≠ p.2.ownBlock := fun e => by
    obtain ⟨cur2, hc2⟩ := hpV gc e.symm
    rw [hcur] at hc2; injection hc2 with hc2; injection hc2 with _ hc2; cases hc2
  have hVc : V'.ownBlock ≠ some gc := fun e => by
    rcases hat with ha | ⟨b, hb, hs⟩
    · exact hcp (e.symm.trans ha)
    · rw [e] at hb; injection hb with hb; have := hlt hcur; omega
  have hgc : base ≤ gc := (hO.lt gc rfl).1
  have hO3 : w3.ownsRow base 56 2 (.slice (some ⟨gc, 0, none⟩) cs.length cap) cs.length (cliVals cs) := own_lift hO fun b hb => by
    simp only [Value.ownBlock, Option.some.injEq] at hb; subst hb; exact hk _ (hlt hcur) hcp
  have hs := hO3.stored (i * 2 + 1) V'
  rw [cliVals_setLimbo cs i p V' hp] at hs
  have far : ∀ k, k ≠ gc → (w3.setCell ⟨gc, i * 2 + 1, none⟩ V').heap[k]? = w3.heap[k]? := fun k hk => heap_setCell_other w3 ⟨gc, i * 2 + 1, none⟩ k _ hk
  have hil : i < cs.length := (List.getElem?_eq_some_iff.1 hp).1
  have hil2 : i < ls.length := (List.getElem?_eq_some_iff.1 hl).1
  have hrow : ∀ (j : Nat) (q : Int × Value) (m : List (Int × Int)), j ≠ i → cs[j]? = some q → ls[j]? = some m → ∀ b, q.2.ownBlock = some b → (w3.setCell ⟨gc, i * 2 + 1, none⟩ V').heap[b]? = w.heap[b]? := by
    intro j q m hj hq hm b hb
    obtain ⟨cur2, hc2⟩ := own_type (h.rows j q m hq hm) hb
    have hbg : b ≠ gc := fun e => by rw [e, hcur] at hc2; injection hc2 with hc2; injection hc2 with _ hc2; cases hc2
    rw [far b hbg]
    exact hk b (hlt hc2) fun e => hj (h.apart j i q p b hq hp hb e.symm)
  refine ⟨⟨h.ge, ⟨_, (far g hg).trans ((hk g (hlt hV) hgp).trans hV), by rw [List.length_set]; exact hs.1⟩, by rw [List.length_set, List.length_set]; exact h.len, ?_, ?_⟩, ⟨Below.setCell hB hgc _, fun k o ho hn => ?_⟩⟩
  · intro j q m hq hm
    by_cases hj : j = i
    · subst hj
      rw [List.getElem?_set_self hil] at hq
      rw [List.getElem?_set_self hil2] at hm
      injection hq with hq; injection hm with hm; subst hq; subst hm
      exact own_lift hown fun b hb => far b fun e => hVc (by rw [← e]; exact hb)
    · rw [List.getElem?_set_ne (Ne.symm hj)] at hq
      rw [List.getElem?_set_ne (Ne.symm hj)] at hm
      exact own_lift (h.rows j q m hq hm) (hrow j q m hj hq hm)
  · have hcase : ∀ (j : Nat) (q : Int × Value), j ≠ i → cs[j]? = some q → ∀ b, q.2.ownBlock = some b → V'.ownBlock ≠ some b := by
      intro j q hj hq b hb hb'
      have hjl : j < ls.length := by rw [h.len]; exact (List.getElem?_eq_some_iff.1 hq).1
      rcases hat with ha | ⟨b2, hb2, hs2⟩
      · exact hj (h.apart j i q p b hq hp hb (ha ▸ hb'))
      · rw [hb'] at hb2; injection hb2 with hb2; subst hb2
        obtain ⟨cur2, hc2⟩ := own_type (h.rows j q _ hq (List.getElem?_eq_getElem hjl)) hb
        have := hlt hc2; omega
    intro j j' q q' b hq hq' hb hb'
    by_cases hj : j = i <;> by_cases hj' : j' = i
    · rw [hj, hj']
    · subst hj
      rw [List.getElem?_set_self hil] at hq; injection hq with hq; subst hq
      rw [List.getElem?_set_ne (Ne.symm hj')] at hq'
      exact (hcase j' q' hj' hq' b hb' hb).elim
    · subst hj'
      rw [List.getElem?_set_self hil] at hq'; injection hq' with hq'; subst hq'
      rw [List.getElem?_set_ne (Ne.symm hj)] at hq
      exact (hcase j q hj hq b hb hb').elim
    · rw [List.getElem?_set_ne (Ne.symm hj)] at hq
      rw [List.getElem?_set_ne (Ne.symm hj')] at hq'
      exact h.apart j j' q q' b hq hq' hb hb'
  · have hkg : k ≠ gc := fun e => hn (by rw [e, hcur] at ho; injection ho with ho; exact ⟨_, _, _, ho.symm, .inr (.inl rfl)⟩)
    rw [far k hkg, hk k (hlt ho) fun e => by
      obtain ⟨cur2, hc2⟩ := hpV k e.symm
      exact hn (by rw [hc2] at ho; injection ho with ho; exact ⟨_, _, _, ho.symm, .inr (.inr rfl)⟩)]
    exact ho
theorem Held.limboAt {w : World} {base g : Nat} {s : St} (h : Held w base g s) (hpos : 0 < s.pins.length) :
    s.lim.length = s.pins.length ∧ ∃ (gc cap : Nat), w.cell? ⟨g, 0, none⟩ = some (.int .i64 s.now) ∧ w.cell? ⟨g, 1, none⟩ = some (.int .i64 s.room) ∧ w.cell? ⟨g, 2, none⟩ = some (.slice (some ⟨gc, 0, none⟩) s.pins.length cap) ∧ g ≠ gc ∧
      ∀ (i : Nat), i < s.pins.length → ∃ V, w.cell? ⟨gc, i * 2 + 1, none⟩ = some V ∧ w.frozen? ⟨gc, i * 2 + 1, none⟩ = false ∧ w.ownsRow base 62 2 V (s.lim[i]?.getD []).length (retVals (s.lim[i]?.getD [])) ∧
        V.ownBlock ≠ some g ∧ V.ownBlock ≠ some gc ∧
        ∀ (w3 : World) (V' : Value) (l' : List (Int × Int)), w3.ownsRow base 62 2 V' l'.length (retVals l') → Below base w w3 → (∀ k, k < w.heap.size → some k ≠ V.ownBlock → w3.heap[k]? = w.heap[k]?) → (V'.ownBlock = V.ownBlock ∨ ∃ b, V'.ownBlock = some b ∧ w.heap.size ≤ b) →
          Held (w3.setCell ⟨gc, i * 2 + 1, none⟩ V') base g { s with lim := s.lim.set i l' } ∧ TF base w (w3.setCell ⟨gc, i * 2 + 1, none⟩ V') := by
  obtain ⟨cs, h, e⟩ := h
  have hl : cs.length = s.pins.length := by rw [← e, List.length_map]
  obtain ⟨gc, cap, hV, hO⟩ := h.header (by omega)
  obtain ⟨h0, h1, h2⟩ := cell3 hV
  obtain ⟨cur, hcur⟩ := own_type hO (b := gc) rfl
  have hg : g ≠ gc := fun e => by rw [e, hcur] at hV; injection hV with hV; injection hV with _ hV; cases hV
  refine ⟨h.len.trans hl, gc, cap, h0, h1, by rw [h2, hl], hg, fun i hi => ?_⟩
  have hc : cs[i]? = some cs[i] := List.getElem?_eq_getElem (by omega)
  have hm : s.lim[i]? = some (s.lim[i]'(by rw [h.len]; omega)) := List.getElem?_eq_getElem (by rw [h.len]; omega)
  rw [hm]
  have hr := h.rows i _ _ hc hm
  refine ⟨cs[i].2, (hO.cellAt (i * 2 + 1) (by omega)).trans (cliVals_limbo cs i _ hc), hO.frozenAt _, hr, fun eb => ?_, fun eb => ?_, fun w3 V' l' ho hB hk hat => ?_⟩
  · obtain ⟨cur2, hc2⟩ := own_type hr eb
    rw [hV] at hc2; injection hc2 with hc2; injection hc2 with _ hc2; cases hc2
  · obtain ⟨cur2, hc2⟩ := own_type hr eb
    rw [hcur] at hc2; injection hc2 with hc2; injection hc2 with _ hc2; cases hc2
  · obtain ⟨h3, h4⟩ := h.setLimbo hV hO i _ _ hc hm V' l' ho hB hk hat
    refine ⟨⟨_, h3, ?_⟩, h4⟩
    rw [List.map_set, e]
    exact List.ext_getElem? fun j => by
      rw [List.getElem?_set]
      split
      · next e2 => subst e2; rw [← e, List.getElem?_map, hc]; simp [hi]
      · rfl
theorem dcell {w w1 : World} {m : Nat} {a : Addr} {v : Option Value} (hw : w.drewN m = w1) (h : w.cell? a = v) : w1.cell? a = v := by subst hw; exact h
theorem of_in (w : World) (g gc n cap : Nat) (c : Int) (hV : w.cell? ⟨g, 2, none⟩ = some (.slice (some ⟨gc, 0, none⟩) n cap)) (h0 : 0 ≤ c) (h1 : c < (n : Int)) :
    Calls Try.prog 26 #[.pointer (some ⟨g, 0, none⟩), .int .i64 c] w fun e w' => e = .returned (.pointer (some ⟨gc, c.toNat * 2, none⟩)) ∧ Drawn0 w w' := by
  have b1 : decide (c < 0) = false := decide_eq_false (by omega)
  have b2 : decide ((n : Int) ≤ c) = false := decide_eq_false (by omega)
  have q1 : (0 ≤ c) = True := eq_true h0
  have q2 : (c < (n : Int)) = True := eq_true h1
  go_enter Try.func26, Try.ntmps26
  go_wp2
  go_ret
  exact ⟨rfl, by repeat (first | exact Drawn0.refl _ | apply Drawn0.step)⟩
theorem of_out (w : World) (g gc n cap : Nat) (c : Int) (hV : w.cell? ⟨g, 2, none⟩ = some (.slice (some ⟨gc, 0, none⟩) n cap)) (h1 : ¬ (0 ≤ c ∧ c < (n : Int))) :
    Calls Try.prog 26 #[.pointer (some ⟨g, 0, none⟩), .int .i64 c] w fun e w' => e = .returned (.pointer none) ∧ Drawn0 w w' := by
  by_cases h0 : c < 0
  · have b1 : decide (c < 0) = true := decide_eq_true (by omega)
    go_enter Try.func26, Try.ntmps26
    go_wp2
    go_ret
    exact ⟨rfl, by repeat (first | exact Drawn0.refl _ | apply Drawn0.step)⟩
  · have b1 : decide (c < 0) = false := decide_eq_false (by omega)
    have b2 : decide ((n : Int) ≤ c) = true := decide_eq_true (by omega)
    go_enter Try.func26, Try.ntmps26
    go_wp2
    go_ret
    exact ⟨rfl, by repeat (first | exact Drawn0.refl _ | apply Drawn0.step)⟩
theorem info62_ : (Try.prog.info? 62).map (fun i => (i.zero, i.size, i.bytes)) = some (some (.agg #[.int .i64 0, .int .i64 0]), 2, 16) := by kernel_rfl
theorem own_form2 {w : World} {base : Nat} {e : TypeId} {size n : Nat} {v : Value} {xs : List Value} (h : w.ownsRow base e size v n xs) : ∃ A cap, v = .slice A n cap := by
  rcases own_form h with ⟨rfl, rfl⟩ | ⟨g, cap, rfl⟩
  · exact ⟨_, _, rfl⟩
  · exact ⟨_, _, rfl⟩
def St.wait (s : St) (c : Int) : List (Int × Int) := s.lim[c.toNat]?.getD []
def St.retE (s : St) (c : Int) (ok : Bool) : Int := if ¬ s.has c ∨ ok = false then 1 else if s.room ≤ ((s.wait c).length : Int) then 2 else 0
def St.retS (s : St) (c ref : Int) (ok : Bool) : St := if ¬ s.has c ∨ ok = false then s else if s.room ≤ ((s.wait c).length : Int) then s else { s with lim := s.lim.set c.toNat (s.wait c ++ [(ref, s.now)]) }
theorem grown_drew {a b : World} {row : Option Nat} (h : a.drew.grownBy b row) : a.grownBy b row := ⟨h.os, h.tape, h.output, h.size, h.block⟩
theorem below_of_drawn {base : Nat} {a b : World} {m : Nat} (h : Below base (a.drewN m) b) : Below base a b := ⟨h.os, h.tape, h.output, h.size, h.block⟩
/-- append, under a word that the walk does not open. -/
def app_off (a : Array TypeId) (t : TypeId) (x : Array Value) : Sem Value := Builtin.append_ a t x
theorem app_hide (a : Array TypeId) (t : TypeId) (x : Array Value) : Builtin.append_ a t x = app_off a t x := rfl
section
attribute [local go_sem ↓ high] app_hide
set_option maxHeartbeats 4000000 in
set_option maxRecDepth 100000 in
theorem retire_ (w : World) (base g : Nat) (s : St) (c ref : Int) (h : Held w base g s) (hpos : 0 < s.pins.length) (hn : s.pins.length ≤ 8) (k : Nat) (r1 r2 : Int) (r3 ok : Bool) (hP : word_Parts.f k ref = some (r1, r2, r3, ok)) (hrm : s.room ≤ 64) (hb : base ≤ w.heap.size) :
    Calls Try.prog 9 #[.pointer (some ⟨g, 0, none⟩), .int .i64 c, .int .i64 ref] w fun e w' => e = .returned (.int .i64 (s.retE c ok)) ∧ Held w' base g (s.retS c ref ok) ∧ TF base w w' := by
  obtain ⟨hll, gc, cap, hV0, hV1, hV, hne, hcell⟩ := h.limboAt hpos
  by_cases hh : s.has c
  · have h0 := hh.1
    have h1 := hh.2
    cases ok
    · rw [show s.retE c false = 1 from if_pos (.inr rfl), show s.retS c ref false = s from if_pos (.inr rfl)]
      go_enter Try.func9, Try.ntmps9
      go_wp2_with (first | (go_at_call 26; (with_reducible refine (of_in _ g gc s.pins.length cap c hV h0 h1).mono ?_); rintro e w' ⟨rfl, ⟨nd, rfl⟩⟩) | (go_at_call 27; (with_reducible refine (word_Parts.calls k ref r1 r2 r3 false _ hP).mono ?_); rintro e w' ⟨rfl, ⟨nd, rfl⟩⟩))
      go_ret
      exact h.out rfl ⟨_, rfl⟩
    · have hc2 := hcell c.toNat (by omega)
      rw [show s.lim[c.toNat]?.getD [] = s.wait c from rfl] at hc2
      obtain ⟨V, hq, hfz, hO, ag, ak, hst⟩ := hc2
      have hcond : ¬ (¬ s.has c ∨ true = false) := by simp [hh]
      obtain ⟨A, cp, rfl⟩ := own_form2 hO
      by_cases hfl : s.room ≤ ((s.wait c).length : Int)
      · rw [show s.retE c true = 2 from (if_neg hcond).trans (if_pos hfl), show s.retS c ref true = s from (if_neg hcond).trans (if_pos hfl)]
        have b3 : decide (s.room ≤ ((s.wait c).length : Int)) = true := decide_eq_true hfl
        go_enter Try.func9, Try.ntmps9
        go_wp2_with (first | (go_at_call 26; (with_reducible refine (of_in _ g gc s.pins.length cap c hV h0 h1).mono ?_); rintro e w' ⟨rfl, ⟨nd, rfl⟩⟩) | (go_at_call 27; (with_reducible refine (word_Parts.calls k ref r1 r2 r3 true _ hP).mono ?_); rintro e w' ⟨rfl, ⟨nd, rfl⟩⟩))
        generalize hw1 : w.drewN _ = w1
        replace hV0 := dcell hw1 hV0
        replace hV1 := dcell hw1 hV1
        replace hq := dcell hw1 hq
        go_quiet (fail)
        go_wp2
        go_ret
        subst hw1
        exact h.out rfl (by repeat (first | exact Drawn0.refl _ | apply Drawn0.step))
      · rw [show s.retE c true = 0 from (if_neg hcond).trans (if_neg hfl), show s.retS c ref true = _ from (if_neg hcond).trans (if_neg hfl)]
        have b3 : decide (s.room ≤ ((s.wait c).length : Int)) = false := decide_eq_false hfl
        generalize hL : s.wait c = L at *
        go_enter Try.func9, Try.ntmps9
        go_wp2_with (first | (go_at_call 26; (with_reducible refine (of_in _ g gc s.pins.length cap c hV h0 h1).mono ?_); rintro e w' ⟨rfl, ⟨nd, rfl⟩⟩) | (go_at_call 27; (with_reducible refine (word_Parts.calls k ref r1 r2 r3 true _ hP).mono ?_); rintro e w' ⟨rfl, ⟨nd, rfl⟩⟩))
        generalize hw1 : w.drewN _ = w1
        replace hV0 := dcell hw1 hV0
        replace hV1 := dcell hw1 hV1
        replace hq := dcell hw1 hq
        go_quiet (fail)
        go_wp2
        generalize hw2 : w1.drewN _ = w2
        replace hV0 := dcell hw2 hV0
        replace hq := dcell hw2 hq
        have hfz2 : w2.frozen? ⟨gc, c.toNat * 2 + 1, none⟩ = false := by subst hw2; subst hw1; exact hfz
        have hown : w2.ownsRow base 62 2 (.slice A L.length cp) L.length (retVals L) := by subst hw2; subst hw1; exact hO
        have lg : g < w2.heap.size := World.block_lt_of_cell? w2 _ hV0
        have lc : gc < w2.heap.size := World.block_lt_of_cell? w2 _ hq
        have hb2 : base ≤ w2.heap.size := by subst hw2; subst hw1; exact hb
        obtain ⟨i0, hi0, hz0, hz1, hz2⟩ := info_parts info62_
        have hfz : ((w2.alloc (.cells #[.int .i64 ref, .int .i64 s.now] 62 (0, 0))).drew).frozen? ⟨gc, c.toNat * 2 + 1, none⟩ = false := (World.frozen?_of_block (heap_alloc_old w2 _ lc)).trans hfz2
        have hgz : ((w2.alloc (.cells #[.int .i64 ref, .int .i64 s.now] 62 (0, 0))).drew).cell? ⟨g, 0, none⟩ = some (.int .i64 s.now) := (World.cell?_of_block (heap_alloc_old w2 _ lg)).trans hV0
        have hqz : ((w2.alloc (.cells #[.int .i64 ref, .int .i64 s.now] 62 (0, 0))).drew).cell? ⟨gc, c.toNat * 2 + 1, none⟩ = some (.slice A L.length cp) := (World.cell?_of_block (heap_alloc_old w2 _ lc)).trans hq
        have hnw := World.news_of_block (w := (w2.alloc (.cells #[.int .i64 ref, .int .i64 s.now] 62 (0, 0))).drew) (cs := #[.int .i64 ref, .int .i64 s.now]) (t := 62) (fr := (0, 0)) (heap_alloc_new w2 _)
        obtain ⟨V1, w3, hrun, hown1, hgrow, -, hat⟩ := run_append_own_at (P := Try.prog) ((w2.alloc (.cells #[.int .i64 ref, .int .i64 s.now] 62 (0, 0))).drew) base 54 54 62 i0 _ 2 16 Try.underlying54 hi0 hz0 hz1 hz2 rfl (by omega) (.slice A L.length cp) L.length (retVals L) ((hown.alloc _).drew)
              ⟨w2.heap.size, 0, none⟩ 1 1 [.int .i64 ref, .int .i64 s.now] (by rfl) hnw (by simp [Value.oneCell']) (by simp only [maxLen]; omega) (by omega) (by simp; omega)
        rw [app_hide] at hrun
        obtain ⟨A1, cap2, rfl⟩ := own_form2 hown1
        have hf3 : w3.frozen? ⟨gc, c.toNat * 2 + 1, none⟩ = false := (hgrow.frozen_far ⟨gc, c.toNat * 2 + 1, none⟩ (by simp; omega) (Ne.symm ak)).trans hfz
        have hq3 : w3.cell? ⟨gc, c.toNat * 2 + 1, none⟩ = _ := (hgrow.cell_far ⟨gc, c.toNat * 2 + 1, none⟩ (by simp; omega) (Ne.symm ak)).trans hqz
        go_region
        all_goals
          have hgr : w2.grownBy w3 (Value.slice A L.length cp).ownBlock := World.grownBy.trans (World.grownBy_alloc w2 _ _) (grown_drew hgrow)
          go_wp2
          go_ret
          subst hw2; subst hw1
          have hfin := hst w3 (.slice A1 (L.length + 1) cap2) (L ++ [(ref, s.now)]) (by rw [retVals_append, List.length_append]; exact hown1) (below_of_drawn (below_of_drawn ((Below.refl _ _).grown hgr hb2 (own_base hO)))) hgr.block (hat.elim .inl fun e => .inr ⟨_, e, by simp⟩)
          exact ⟨rfl, hfin⟩
  · have hcond : ¬ s.has c ∨ ok = false := .inl hh
    rw [show s.retE c ok = 1 from if_pos hcond, show s.retS c ref ok = s from if_pos hcond]
    have h1 : ¬ (0 ≤ c ∧ c < (s.pins.length : Int)) := hh
    go_enter Try.func9, Try.ntmps9
    go_wp2_with (first | (go_at_call 26; (with_reducible refine (of_out _ g gc s.pins.length cap c hV h1).mono ?_); rintro e w' ⟨rfl, ⟨nd, rfl⟩⟩) | (go_at_call 27; (with_reducible refine (word_Parts.calls k ref r1 r2 r3 ok _ hP).mono ?_); rintro e w' ⟨rfl, ⟨nd, rfl⟩⟩))
    go_ret
    exact h.out rfl ⟨_, rfl⟩
end
theorem bin_nil (w : World) (a : Addr) (n cap : Nat) : (binOp .eql 54 (.slice (some a) n cap) (.slice none 0 0)).run Try.prog w = .ok (.bool false) w := by kernel_rfl
theorem own_empty (w : World) (base : Nat) (hb : base ≤ w.heap.size) (e : TypeId) (size : Nat) : (w.alloc (.cells #[] e (0, 0))).ownsRow base e size (.slice (some ⟨w.heap.size, 0, none⟩) 0 0) 0 [] := by
  refine ⟨by simp, .inr ⟨w.heap.size, 0, #[], rfl, hb, heap_alloc_new w _, Nat.le_refl _, by simp [maxLen], by simp, by simp⟩⟩
set_option maxHeartbeats 4000000 in
set_option maxRecDepth 100000 in
theorem clone_ (w : World) (base : Nat) (hb : base ≤ w.heap.size) (a : Addr) (n cap : Nat) (news : List Value) (hl : news.length = n * 2) (hnews : ∀ j u, news[j]? = some u → w.cell? (a.add j) = some u) (h1 : ∀ u ∈ news, u.oneCell' = true) (hn : n ≤ 64) :
    Calls Try.prog 28 #[.slice (some a) n cap] w fun e w' => ∃ A cp, e = .returned (.slice A n cp) ∧ w'.ownsRow base 62 2 (.slice A n cp) n news ∧ w.grownBy w' none ∧ (∃ b, (Value.slice A n cp).ownBlock = some b ∧ w.heap.size ≤ b) := by
  have hnil := fun W => bin_nil W a n cap
  obtain ⟨i0, hi0, hz0, hz1, hz2⟩ := info_parts info62_
  have hown0 := own_empty w w.heap.size (Nat.le_refl _) 62 2
  have hnews2 : ∀ j u, news[j]? = some u → (w.alloc (.cells #[] 62 (0, 0))).cell? (a.add j) = some u := fun j u hu => by
    have := hnews j u hu
    rw [← this]; exact World.cell?_alloc_lt _ _ _ (World.block_lt_of_cell? w _ this)
  go_enter Try.func28, Try.ntmps28
  go_wp2_with (first | (at_builtin; refine wpList_append_own_at _ (by rfl) (.tmp 5) (.tmp 6) 54 (by rfl) w.heap.size 62 i0 _ 2 16 Try.underlying54 hi0 hz0 hz1 hz2 rfl (by omega) (.slice (some ⟨w.heap.size, 0, none⟩) 0 0) 0 [] (by rfl) hown0 a n cap news (by rfl) hl hnews2 h1 (by simp only [maxLen]; omega) (by omega) (by simp) ?_; intro v1 w1 hown1 hgrow hnn hat))
  go_ret
  rw [Nat.zero_add, List.nil_append] at hown1
  obtain ⟨A, cp, rfl⟩ := own_form2 hown1
  refine ⟨A, cp, by simp, ?_, ?_, ?_⟩
  · exact own_weaken hown1 hb
  · refine ⟨hgrow.os, hgrow.tape, hgrow.output, Nat.le_trans (by simp) hgrow.size, fun k hk _ => (hgrow.block k (by simp; omega) (fun e => by simp [Value.ownBlock] at e; omega)).trans (heap_alloc_old w _ hk)⟩
  · rcases hat with hat | hat
    · exact ⟨_, hat, Nat.le_refl _⟩
    · exact ⟨_, hat, by simp⟩
def St.can (s : St) (c : Int) : Prop := s.has c ∧ ∃ l ls, s.wait c = l :: ls ∧ 2 ≤ s.now - l.2
set_option maxHeartbeats 4000000 in
set_option maxRecDepth 100000 in
theorem collect_ok (w : World) (base g : Nat) (s : St) (c : Int) (h : Held w base g s) (hpos : 0 < s.pins.length) (hn : s.pins.length ≤ 8) (hb : base ≤ w.heap.size) (hh : s.has c) (l : Int × Int) (ls : List (Int × Int)) (hl : s.wait c = l :: ls) (hnow : 2 ≤ s.now - l.2) (hlo : 0 ≤ l.2) (hhi : s.now ≤ 1073741824) (h64 : ls.length ≤ 64) :
    Calls Try.prog 11 #[.pointer (some ⟨g, 0, none⟩), .int .i64 c] w fun e w' => e = .returned (.tuple #[.int .i64 l.1, .bool true]) ∧ Held w' base g { s with lim := s.lim.set c.toNat ls } ∧ TF base w w' := by
  obtain ⟨hll, gc, cap, hV0, hV1, hV, hne, hcell⟩ := h.limboAt hpos
  have h0 := hh.1
  have h1 := hh.2
  have hc2 := hcell c.toNat (by omega)
  obtain ⟨n2, hlt⟩ : ∃ n2, (l :: ls).length = n2 := ⟨_, rfl⟩
  have hlt2 : ls.length + 1 = n2 := hlt
  rw [show s.lim[c.toNat]?.getD [] = s.wait c from rfl, hl, hlt] at hc2
  obtain ⟨V, hq, hfz, hO, ag, ak, hst⟩ := hc2
  rcases own_form hO with ⟨-, hz⟩ | ⟨gl, cp, rfl⟩
  · omega
  have hr0 : w.cell? ⟨gl, 0, none⟩ = some (.int .i64 l.1) := hO.cellAt 0 (by omega)
  have hr1 : w.cell? ⟨gl, 1, none⟩ = some (.int .i64 l.2) := hO.cellAt 1 (by omega)
  have hnews : ∀ j u, (retVals ls)[j]? = some u → w.cell? ((⟨gl, 2, none⟩ : Addr).add j) = some u := fun j u hu => by
    have hj : j < (retVals ls).length := (List.getElem?_eq_some_iff.1 hu).1
    rw [retVals_length] at hj
    rw [Addr.add_mid, hO.cellAt (2 + j) (by omega), retVals_cons, show 2 + j = j + 1 + 1 from by omega]
    exact hu
  have hone : ∀ u ∈ retVals ls, u.oneCell' = true := fun u hu => by
    obtain ⟨p, hp, hu⟩ := List.mem_flatMap.1 hu
    simp only [List.mem_cons, List.not_mem_nil, or_false] at hu
    rcases hu with rfl | rfl <;> rfl
  have hcp : n2 ≤ cp := by
    rcases hO.2 with ⟨h2, -⟩ | ⟨g', cap', cur, hv, hbg, hg, hnc, r⟩
    · cases h2
    · cases hv; exact hnc
  have d1 : ((n2 : Int) == 0) = false := beq_eq_false_iff_ne.mpr (by omega)
  have d2 : decide (s.now - l.2 < 2) = false := decide_eq_false (by omega)
  have dw : IntKind.i64.wrap (s.now - l.2) = s.now - l.2 := by rw [IntKind.wrap_i64]; omega
  have d3 : (0 : Int) < (n2 : Int) := by omega
  have hn2 : n2 - 1 = ls.length := by omega
  have lc : gc < w.heap.size := World.block_lt_of_cell? w _ hq
  have lg : gl < w.heap.size := World.block_lt_of_cell? w _ hr0
  go_enter Try.func11, Try.ntmps11
  go_wp2_with (first | (go_at_call 26; (with_reducible refine (of_in _ g gc s.pins.length cap c hV h0 h1).mono ?_); rintro e w' ⟨rfl, ⟨nd, rfl⟩⟩))
  generalize hw1 : w.drewN _ = w1
  have Hq := hq
  replace hV0 := dcell hw1 hV0
  replace hV1 := dcell hw1 hV1
  replace hq := dcell hw1 hq
  replace hr0 := dcell hw1 hr0
  replace hr1 := dcell hw1 hr1
  go_quiet (fail)
  generalize hw2 : w1.drewN _ = w2
  replace hq := dcell hw2 hq
  replace hr0 := dcell hw2 hr0
  have hnews2 : ∀ j u, (retVals ls)[j]? = some u → w2.cell? ((⟨gl, 2, none⟩ : Addr).add j) = some u := by subst hw2; subst hw1; exact hnews
  have hb2 : base ≤ w2.heap.size := by subst hw2; subst hw1; exact hb
  have lc2 : gc < w2.heap.size := by subst hw2; subst hw1; exact lc
  have hfz2 : w2.frozen? ⟨gc, c.toNat * 2 + 1, none⟩ = false := by subst hw2; subst hw1; exact hfz
  have h2r : w2.heap = w.heap := by subst hw2; subst hw1; rfl
  have hB2 : Below base w w2 := by subst hw2; subst hw1; exact pw_below_drewN (pw_below_drewN (Below.refl _ _) _) _
  go_wp2_with (first
    | (go_at_call 28; (with_reducible refine (clone_ _ base hb2 ⟨gl, 2, none⟩ ls.length (cp - 1) (retVals ls) (retVals_length ls) hnews2 hone (by omega)).mono ?_); rintro e w3 ⟨A1, cp1, rfl, hown1, hgrow1, bb, hbb, hbs⟩; have hf3 : w3.frozen? ⟨gc, c.toNat * 2 + 1, none⟩ = false := (hgrow1.frozen_far ⟨gc, c.toNat * 2 + 1, none⟩ lc2 (by simp)).trans hfz2; have hq3 : w3.cell? ⟨gc, c.toNat * 2 + 1, none⟩ = _ := (hgrow1.cell_far ⟨gc, c.toNat * 2 + 1, none⟩ lc2 (by simp)).trans hq)
    | (go_at_call 28; (with_reducible refine (clone_ _ base hb2 ⟨gl, 0, none⟩ ls.length 0 [] (by simp; omega) (by simp) (by simp) (by omega)).mono ?_); rintro e w3 ⟨A1, cp1, rfl, hown1, hgrow1, bb, hbb, hbs⟩; have hf3 : w3.frozen? ⟨gc, c.toNat * 2 + 1, none⟩ = false := (hgrow1.frozen_far ⟨gc, c.toNat * 2 + 1, none⟩ lc2 (by simp)).trans hfz2; have hq3 : w3.cell? ⟨gc, c.toNat * 2 + 1, none⟩ = _ := (hgrow1.cell_far ⟨gc, c.toNat * 2 + 1, none⟩ lc2 (by simp)).trans hq))
  all_goals
    go_ret2
    have hown2 : w3.ownsRow base 62 2 (.slice A1 ls.length cp1) ls.length (retVals ls) := by first | exact hown1 | (have : ls = [] := List.length_eq_zero_iff.1 (by omega); subst this; exact hown1)
    have hfin := hst w3 (.slice A1 ls.length cp1) ls hown2 (hB2.trans ((Below.refl _ _).grown hgrow1 hb2 (by simp))) (fun k hk _ => (hgrow1.block k (by rw [h2r]; exact hk) (by simp)).trans (by rw [h2r])) (.inr ⟨bb, hbb, by rw [← h2r]; exact hbs⟩)
    exact ⟨rfl, hfin⟩
def St.colV (s : St) (c : Int) : Int × Bool := if s.has c then (match s.wait c with | [] => (0, false) | l :: ls => if s.now - l.2 < 2 then (0, false) else (l.1, true)) else (0, false)
def St.colS (s : St) (c : Int) : St := if s.has c then (match s.wait c with | [] => s | l :: ls => if s.now - l.2 < 2 then s else { s with lim := s.lim.set c.toNat ls }) else s
set_option maxHeartbeats 4000000 in
set_option maxRecDepth 100000 in
theorem collect_ (w : World) (base g : Nat) (s : St) (c : Int) (h : Held w base g s) (hpos : 0 < s.pins.length) (hn : s.pins.length ≤ 8) (hb : base ≤ w.heap.size) (hat : ∀ l ∈ s.wait c, 0 ≤ l.2 ∧ l.2 ≤ 1073741824) (hlo : 0 ≤ s.now) (hhi : s.now ≤ 1073741824) (h64 : (s.wait c).length ≤ 65) :
    Calls Try.prog 11 #[.pointer (some ⟨g, 0, none⟩), .int .i64 c] w fun e w' => e = .returned (.tuple #[.int .i64 (s.colV c).1, .bool (s.colV c).2]) ∧ Held w' base g (s.colS c) ∧ TF base w w' := by
  by_cases hh : s.has c
  · have h0 := hh.1
    have h1 := hh.2
    have eV : s.colV c = _ := if_pos hh
    have eS : s.colS c = _ := if_pos hh
    rw [eV, eS]
    clear eV eS
    obtain ⟨hll, gc, cap, hV0, hV1, hV, hne, hcell⟩ := h.limboAt hpos
    have hc2 := hcell c.toNat (by omega)
    cases hl : s.wait c with
    | nil =>
      rw [show s.lim[c.toNat]?.getD [] = s.wait c from rfl, hl] at hc2
      obtain ⟨V, hq, hfz, hO, ag, ak, hst⟩ := hc2
      obtain ⟨A, cp, rfl⟩ := own_form2 hO
      rw [show (([] : List (Int × Int)).length) = 0 from rfl] at hq
      show Calls _ _ _ _ fun e w' => e = .returned (.tuple #[.int .i64 0, .bool false]) ∧ Held w' base g s ∧ TF base w w'
      go_enter Try.func11, Try.ntmps11
      go_wp2_with (first | (go_at_call 26; (with_reducible refine (of_in _ g gc s.pins.length cap c hV h0 h1).mono ?_); rintro e w' ⟨rfl, ⟨nd, rfl⟩⟩))
      generalize hw1 : w.drewN _ = w1
      replace hV0 := dcell hw1 hV0
      replace hq := dcell hw1 hq
      go_quiet (fail)
      go_wp2
      go_ret2
      subst hw1
      exact h.out rfl (by repeat (first | exact Drawn0.refl _ | apply Drawn0.step))
    | cons l ls =>
      by_cases hnow : s.now - l.2 < 2
      · have hb3 := hat l (by rw [hl]; exact List.mem_cons_self)
        obtain ⟨n2, hlt⟩ : ∃ n2, (l :: ls).length = n2 := ⟨_, rfl⟩
        have hlt2 : ls.length + 1 = n2 := hlt
        rw [show s.lim[c.toNat]?.getD [] = s.wait c from rfl, hl, hlt] at hc2
        obtain ⟨V, hq, hfz, hO, ag, ak, hst⟩ := hc2
        show Calls _ _ _ _ fun e w' => e = .returned (.tuple #[.int .i64 (if s.now - l.2 < 2 then (0, false) else (l.1, true)).1, .bool (if s.now - l.2 < 2 then (0, false) else (l.1, true)).2]) ∧ Held w' base g (if s.now - l.2 < 2 then s else { s with lim := s.lim.set c.toNat ls }) ∧ TF base w w'
        simp only [if_pos hnow]
        rcases own_form hO with ⟨-, hz⟩ | ⟨gl, cp, rfl⟩
        · omega
        have hr0 : w.cell? ⟨gl, 0, none⟩ = some (.int .i64 l.1) := hO.cellAt 0 (by omega)
        have hr1 : w.cell? ⟨gl, 1, none⟩ = some (.int .i64 l.2) := hO.cellAt 1 (by omega)
        have d1 : ((n2 : Int) == 0) = false := beq_eq_false_iff_ne.mpr (by omega)
        have dw : IntKind.i64.wrap (s.now - l.2) = s.now - l.2 := by rw [IntKind.wrap_i64]; omega
        have d2 : decide (s.now - l.2 < 2) = true := decide_eq_true hnow
        have d3 : (0 : Int) < (n2 : Int) := by omega
        go_enter Try.func11, Try.ntmps11
        go_wp2_with (first | (go_at_call 26; (with_reducible refine (of_in _ g gc s.pins.length cap c hV h0 h1).mono ?_); rintro e w' ⟨rfl, ⟨nd, rfl⟩⟩))
        generalize hw1 : w.drewN _ = w1
        replace hV0 := dcell hw1 hV0
        replace hq := dcell hw1 hq
        replace hr0 := dcell hw1 hr0
        replace hr1 := dcell hw1 hr1
        go_quiet (fail)
        go_wp2
        go_ret2
        subst hw1
        exact h.out rfl (by repeat (first | exact Drawn0.refl _ | apply Drawn0.step))
      · have hb3 := hat l (by rw [hl]; exact List.mem_cons_self)
        show Calls _ _ _ _ fun e w' => e = .returned (.tuple #[.int .i64 (if s.now - l.2 < 2 then (0, false) else (l.1, true)).1, .bool (if s.now - l.2 < 2 then (0, false) else (l.1, true)).2]) ∧ Held w' base g (if s.now - l.2 < 2 then s else { s with lim := s.lim.set c.toNat ls }) ∧ TF base w w'
        simp only [if_neg hnow]
        exact collect_ok w base g s c h hpos hn hb hh l ls hl (by omega) hb3.1 hhi (by rw [hl] at h64; simp only [List.length_cons] at h64; omega)
  · rw [show s.colV c = (0, false) from if_neg hh, show s.colS c = s from if_neg hh]
    have h1 : ¬ (0 ≤ c ∧ c < (s.pins.length : Int)) := hh
    obtain ⟨hll, gc, cap, hV0, hV1, hV, hne, hcell⟩ := h.limboAt hpos
    go_enter Try.func11, Try.ntmps11
    go_wp2_with (first | (go_at_call 26; (with_reducible refine (of_out _ g gc s.pins.length cap c hV h1).mono ?_); rintro e w' ⟨rfl, ⟨nd, rfl⟩⟩))
    generalize hw1 : w.drewN _ = w1
    go_quiet (fail)
    go_wp2
    go_ret2
    subst hw1
    exact h.out rfl (by repeat (first | exact Drawn0.refl _ | apply Drawn0.step))
theorem info56_ : (Try.prog.info? 56).map (fun i => (i.zero, i.size, i.bytes)) = some (some (.agg #[.int .i64 0, .slice none 0 0]), 2, 32) := by kernel_rfl
/-- the epochs as they are made: j clients so far. -/
structure Made (w0 w : World) (room : Int) (j : Nat) : Prop where
  obj : ∃ V, w.heap[w0.heap.size]? = some (.cells #[.int .i64 0, .int .i64 room, V] 53 (0, 0)) ∧ w.ownsRow w0.heap.size 56 2 V j (cliVals (List.replicate j (-1, Value.slice none 0 0)))
  below : Below w0.heap.size w0 w
theorem Made.held {w0 w : World} {room : Int} {j : Nat} (h : Made w0 w room j) : Held w w0.heap.size w0.heap.size ⟨0, room, List.replicate j (-1), List.replicate j []⟩ := by
  obtain ⟨V, hV, hO⟩ := h.obj
  refine ⟨List.replicate j (-1, Value.slice none 0 0), ⟨Nat.le_refl _, ⟨V, hV, by rw [List.length_replicate]; exact hO⟩, by simp, fun i p l hp hl => ?_, fun i i' p q b hp hq hb => ?_⟩, by simp⟩
  · have e1 := List.eq_of_mem_replicate (List.mem_of_getElem? hp)
    have e2 := List.eq_of_mem_replicate (List.mem_of_getElem? hl)
    subst e1; subst e2
    exact own_nil _ _ _ _
  · have e1 := List.eq_of_mem_replicate (List.mem_of_getElem? hp)
    subst e1
    cases hb
theorem cliVals_snoc (j : Nat) (p : Int × Value) : cliVals (List.replicate j p) ++ [.int .i64 p.1, p.2] = cliVals (List.replicate (j + 1) p) := by
  rw [List.replicate_succ', cliVals, cliVals, List.flatMap_append]; rfl
theorem Made.next {w0 w w1 : World} {room : Int} {j : Nat} (h : Made w0 w room j) {V V1 : Value} (hV : w.heap[w0.heap.size]? = some (.cells #[.int .i64 0, .int .i64 room, V] 53 (0, 0))) (hO : w.ownsRow w0.heap.size 56 2 V j (cliVals (List.replicate j (-1, Value.slice none 0 0))))
    (hown : w1.ownsRow w0.heap.size 56 2 V1 (j + 1) (cliVals (List.replicate (j + 1) (-1, Value.slice none 0 0)))) (hg : w.grownBy w1 V.ownBlock) (hat : V1.ownBlock = V.ownBlock ∨ ∃ b, V1.ownBlock = some b ∧ w.heap.size ≤ b) :
    Made w0 (w1.setCell ⟨w0.heap.size, 2, none⟩ V1) room (j + 1) ∧ w1.cell? ⟨w0.heap.size, 2, none⟩ = some V ∧ w1.frozen? ⟨w0.heap.size, 2, none⟩ = false := by
  have hlt : w0.heap.size < w.heap.size := (Array.getElem?_eq_some_iff.1 hV).1
  have hne : some w0.heap.size ≠ V.ownBlock := fun e => by
    obtain ⟨cur, hc⟩ := own_type hO e.symm
    rw [hV] at hc; injection hc with hc; injection hc with _ hc; cases hc
  have hV1 := (hg.block _ hlt hne).trans hV
  have hne1 : V1.ownBlock ≠ some w0.heap.size := fun e => by
    rcases hat with ha | ⟨b, hb, hs⟩
    · exact hne (e.symm.trans ha)
    · rw [e] at hb; injection hb with hb; omega
  refine ⟨⟨⟨V1, heap_setCell_same w1 _ 2 _ 53 _ hV1, own_lift hown fun b hb => heap_setCell_other w1 _ b _ fun e => hne1 (hb.trans (congrArg some e))⟩, Below.setCell (h.below.grown hg (Nat.le_of_lt hlt) (own_base hO)) (Nat.le_refl _) _⟩, (cell3 hV1).2.2, free3 hV1 2⟩
set_option maxHeartbeats 4000000 in
set_option maxRecDepth 100000 in
theorem new_ (w : World) (n room : Int) (h1 : 1 ≤ n) (h2 : n ≤ 8) (h3 : 4 ≤ room) (h4 : room ≤ 64) :
    Calls Try.prog 8 #[.int .i64 n, .int .i64 room] w fun e w' => e = .returned (.tuple #[.pointer (some ⟨w.heap.size, 0, none⟩), .int .i64 0]) ∧ Made w w' room n.toNat := by
  have d1 : decide (n < 1) = false := decide_eq_false (by omega)
  have d2 : decide (8 < n) = false := decide_eq_false (by omega)
  have d3 : decide (room < 4) = false := decide_eq_false (by omega)
  have d4 : decide (64 < room) = false := decide_eq_false (by omega)
  obtain ⟨i0, hi0, hz0, hz1, hz2⟩ := info_parts info56_
  go_enter Try.func8, Try.ntmps8
  go_wp2
  go_loopg [25] n.toNat (fun kq v25 w' => ∃ (j : Nat), v25 = .int .i64 (j : Int) ∧ Aside0 (j + kq = n.toNat) ∧ Aside0 (Made w w' room j))
  case atStart => exact ⟨0, rfl, ⟨by omega⟩, ⟨⟨⟨_, heap_alloc_new w _, own_nil _ _ _ _⟩, (Below.refl _ _).alloc (Nat.le_refl _) _⟩⟩⟩
  case round =>
    obtain ⟨j, rfl, HK, HM⟩ := hrel
    by_cases hlt : (j : Int) < n
    · have p1 : decide ((j : Int) < n) = true := decide_eq_true hlt
      obtain ⟨V, hV, hO⟩ := HM.out.obj
      obtain ⟨A, cp, rfl⟩ := own_form2 hO
      obtain ⟨c0, c1, c2⟩ := cell3 hV
      have hsz : w.heap.size < wr.heap.size := (Array.getElem?_eq_some_iff.1 hV).1
      go_wp2_with (first | (at_builtin; refine wpList_append_own_at _ (by rfl) (.tmp 31) (.tmp 33) 51 (by rfl) w.heap.size 56 i0 _ 2 32 Try.underlying51 hi0 hz0 hz1 hz2 rfl (by omega) (.slice A j cp) j _ (by rfl) (hO.alloc _) ⟨wr.heap.size, 0, none⟩ 1 1 [.int .i64 (-1), .slice none 0 0] (by rfl) (by rfl) (World.news_of_block (cs := #[.int .i64 (-1), .slice none 0 0]) (t := 56) (fr := (0, 0)) (heap_alloc_new wr _)) (by simp [Value.oneCell']) (by simp only [maxLen]; omega) (by omega) (by simp; omega) ?_; intro v1 w1 hown1 hgrow hnn hat; rw [cliVals_snoc] at hown1; obtain ⟨A1, cp1, rfl⟩ := own_form2 hown1; obtain ⟨HM1, hc1, hf1⟩ := HM.out.next hV hO hown1 (World.grownBy.trans (World.grownBy_alloc wr _ _) hgrow) (hat.elim .inl fun e => .inr ⟨_, e, by simp⟩)))
      go_roundg (gk - 1)
      case measure => have := HK.out; omega
      case rel => exact ⟨j + 1, rfl, ⟨by have := HK.out; omega⟩, ⟨HM1⟩⟩
    · have p1 : decide ((j : Int) < n) = false := decide_eq_false hlt
      go_wp2
      go_ret2
      exact ⟨rfl, by rw [show n.toNat = j from by have := HK.out; omega]; exact HM.out⟩
theorem retire_c (w : World) (base g : Nat) (s : St) (c ref : Int) (h : Held w base g s) (hpos : 0 < s.pins.length) (hn : s.pins.length ≤ 8) (k : Nat) (r1 r2 : Int) (r3 ok : Bool) (hP : word_Parts.f k ref = some (r1, r2, r3, ok)) (hrm : s.room ≤ 64) (hb : base ≤ w.heap.size) (E : Int) (s' : St) (hE : s.retE c ok = E) (hS : s.retS c ref ok = s') :
    Calls Try.prog 9 #[.pointer (some ⟨g, 0, none⟩), .int .i64 c, .int .i64 ref] w fun e w' => e = .returned (.int .i64 E) ∧ Held w' base g s' ∧ TF base w w' := by
  subst hE hS; exact retire_ w base g s c ref h hpos hn k r1 r2 r3 ok hP hrm hb
theorem adv_c (w : World) (base g : Nat) (s : St) (n : Int) (h : Held w base g s) (hpos : 0 < s.pins.length) (hlo : 0 ≤ s.now) (hhi : s.now ≤ 1073741824) (b : Bool) (s' : St) (hB : s.advB n = b) (hS : s.advS n = s') :
    Calls Try.prog 10 #[.pointer (some ⟨g, 0, none⟩), .int .i64 n] w fun e w' => e = .returned (.bool b) ∧ Held w' base g s' ∧ TF base w w' := by
  subst hB hS; exact adv_ w base g s n h hpos hlo hhi
theorem collect_c (w : World) (base g : Nat) (s : St) (c : Int) (h : Held w base g s) (hpos : 0 < s.pins.length) (hn : s.pins.length ≤ 8) (hb : base ≤ w.heap.size) (hat : ∀ l ∈ s.wait c, 0 ≤ l.2 ∧ l.2 ≤ 1073741824) (hlo : 0 ≤ s.now) (hhi : s.now ≤ 1073741824) (h64 : (s.wait c).length ≤ 65) (v : Int) (b : Bool) (s' : St) (hV : s.colV c = (v, b)) (hS : s.colS c = s') :
    Calls Try.prog 11 #[.pointer (some ⟨g, 0, none⟩), .int .i64 c] w fun e w' => e = .returned (.tuple #[.int .i64 v, .bool b]) ∧ Held w' base g s' ∧ TF base w w' := by
  subst hS
  have := collect_ w base g s c h hpos hn hb hat hlo hhi h64
  rw [hV] at this; exact this
theorem pin_c (w : World) (base g : Nat) (s : St) (c n : Int) (h : Held w base g s) (hpos : 0 < s.pins.length) (hn : s.pins.length ≤ 8) (b : Bool) (s' : St) (hB : s.pinB c n = b) (hS : s.pinS c n = s') :
    Calls Try.prog 12 #[.pointer (some ⟨g, 0, none⟩), .int .i64 c, .int .i64 n] w fun e w' => e = .returned (.bool b) ∧ Held w' base g s' ∧ TF base w w' := by
  subst hB hS; exact pin_ w base g s c n h hpos hn
theorem unpin_c (w : World) (base g : Nat) (s : St) (c : Int) (h : Held w base g s) (hpos : 0 < s.pins.length) (hn : s.pins.length ≤ 8) (b : Bool) (s' : St) (hB : s.unpinB c = b) (hS : s.unpinS c = s') :
    Calls Try.prog 14 #[.pointer (some ⟨g, 0, none⟩), .int .i64 c] w fun e w' => e = .returned (.bool b) ∧ Held w' base g s' ∧ TF base w w' := by
  subst hB hS; exact unpin_ w base g s c h hpos hn
theorem pinof_c (w : World) (base g : Nat) (s : St) (c : Int) (h : Held w base g s) (hpos : 0 < s.pins.length) (hn : s.pins.length ≤ 8) (v : Int) (hV : s.pinOf c = v) :
    Calls Try.prog 13 #[.pointer (some ⟨g, 0, none⟩), .int .i64 c] w fun e w' => e = .returned (.int .i64 v) ∧ Held w' base g s ∧ TF base w w' := by
  subst hV; exact (pinof w base g s c h hpos hn).mono fun e w' ⟨he, hd⟩ => ⟨he, h.drawn hd, TF.drawn hd⟩
theorem limbo_c (w : World) (base g : Nat) (s : St) (c : Int) (h : Held w base g s) (hpos : 0 < s.pins.length) (hn : s.pins.length ≤ 8) (v : Int) (hV : s.limbo c = v) :
    Calls Try.prog 24 #[.pointer (some ⟨g, 0, none⟩), .int .i64 c] w fun e w' => e = .returned (.int .i64 v) ∧ Held w' base g s ∧ TF base w w' := by
  subst hV; exact (limbo_ w base g s c h hpos hn).mono fun e w' ⟨he, hd⟩ => ⟨he, h.drawn hd, TF.drawn hd⟩
theorem now_c (w : World) (base g : Nat) (s : St) (h : Held w base g s) (hpos : 0 < s.pins.length) (v : Int) (hV : s.now = v) :
    Calls Try.prog 16 #[.pointer (some ⟨g, 0, none⟩)] w fun e w' => e = .returned (.int .i64 v) ∧ Held w' base g s ∧ TF base w w' := by
  subst hV; exact (now_ w base g s h hpos).mono fun e w' ⟨he, hd⟩ => ⟨he, h.drawn hd, TF.drawn hd⟩
theorem Held.base_le {w : World} {base g : Nat} {s : St} (h : Held w base g s) : base ≤ w.heap.size := by
  obtain ⟨cs, h, -⟩ := h
  obtain ⟨V, hV, -⟩ := h.obj
  have := (Array.getElem?_eq_some_iff.1 hV).1
  have := h.ge
  omega
theorem new_c (w : World) (n room : Int) (h1 : 1 ≤ n) (h2 : n ≤ 8) (h3 : 4 ≤ room) (h4 : room ≤ 64) (s : St) (hs : s = ⟨0, room, List.replicate n.toNat (-1), List.replicate n.toNat []⟩) :
    Calls Try.prog 8 #[.int .i64 n, .int .i64 room] w fun e w' => e = .returned (.tuple #[.pointer (some ⟨w.heap.size, 0, none⟩), .int .i64 0]) ∧ Held w' w.heap.size w.heap.size s ∧ Below w.heap.size w w' := by
  subst hs; exact (new_ w n room h1 h2 h3 h4).mono fun e w' ⟨he, hm⟩ => ⟨he, hm.held, hm.below⟩
theorem parts_65536 : word_Parts.f 100 65536 = some (0, 1, false, true) := by decide +kernel
theorem St.ext' {a b : St} (h1 : a.now = b.now) (h2 : a.room = b.room) (h3 : a.pins = b.pins) (h4 : a.lim = b.lim) : a = b := by cases a; cases b; simp_all
set_option maxHeartbeats 4000000 in
set_option maxRecDepth 100000 in
theorem runs_ (w : World) : Calls Try.prog 3 #[] w fun e w' => e = .returned (.bool true) ∧ Below w.heap.size w w' := by
  go_enter Try.func3, Try.ntmps3
  go_wp2_with (first
    | (go_at_call 8; (with_reducible refine (new_c _ 1 4 (by decide) (by decide) (by decide) (by decide) ⟨0, 4, [-1], [[]]⟩ rfl).mono ?_); rintro e w1 ⟨rfl, H1, T1⟩)
    | (go_at_call 9; (with_reducible refine (retire_c _ w.heap.size w.heap.size ⟨0, 4, [-1], [[]]⟩ 0 65536 H1 (by decide) (by decide) 100 _ _ _ _ parts_65536 (by decide) H1.base_le 0 ⟨0, 4, [-1], [[(65536, 0)]]⟩ (by decide) rfl).mono ?_); rintro e w2 ⟨rfl, H2, T2⟩)
    | (go_at_call 10; (with_reducible refine (adv_c _ w.heap.size w.heap.size ⟨0, 4, [-1], [[(65536, 0)]]⟩ 0 H2 (by decide) (by decide) (by decide) true ⟨1, 4, [-1], [[(65536, 0)]]⟩ (by decide) rfl).mono ?_); rintro e w3 ⟨rfl, H3, T3⟩)
    | (go_at_call 11; (with_reducible refine (collect_c _ w.heap.size w.heap.size ⟨1, 4, [-1], [[(65536, 0)]]⟩ 0 H3 (by decide) (by decide) H3.base_le (by decide) (by decide) (by decide) (by decide) 0 false ⟨1, 4, [-1], [[(65536, 0)]]⟩ rfl rfl).mono ?_); rintro e w4 ⟨rfl, H4, T4⟩)
    | (go_at_call 10; (with_reducible refine (adv_c _ w.heap.size w.heap.size ⟨1, 4, [-1], [[(65536, 0)]]⟩ 1 H4 (by decide) (by decide) (by decide) true ⟨2, 4, [-1], [[(65536, 0)]]⟩ (by decide) rfl).mono ?_); rintro e w5 ⟨rfl, H5, T5⟩)
    | (go_at_call 11; (with_reducible refine (collect_c _ w.heap.size w.heap.size ⟨2, 4, [-1], [[(65536, 0)]]⟩ 0 H5 (by decide) (by decide) H5.base_le (by decide) (by decide) (by decide) (by decide) 65536 true ⟨2, 4, [-1], [[]]⟩ rfl rfl).mono ?_); rintro e w6 ⟨rfl, H6, T6⟩)
    | (go_at_call 12; (with_reducible refine (pin_c _ w.heap.size w.heap.size ⟨2, 4, [-1], [[]]⟩ 0 3 H6 (by decide) (by decide) false ⟨2, 4, [-1], [[]]⟩ (by decide) rfl).mono ?_); rintro e w7 ⟨rfl, H7, T7⟩)
    | (go_at_call 12; (with_reducible refine (pin_c _ w.heap.size w.heap.size ⟨2, 4, [-1], [[]]⟩ 0 1 H7 (by decide) (by decide) true ⟨2, 4, [1], [[]]⟩ (by decide) rfl).mono ?_); rintro e w8 ⟨rfl, H8, T8⟩)
    | (go_at_call 13; (with_reducible refine (pinof_c _ w.heap.size w.heap.size ⟨2, 4, [1], [[]]⟩ 0 H8 (by decide) (by decide) 1 (by decide)).mono ?_); rintro e w9 ⟨rfl, H9, T9⟩)
    | (go_at_call 14; (with_reducible refine (unpin_c _ w.heap.size w.heap.size ⟨2, 4, [1], [[]]⟩ 0 H9 (by decide) (by decide) true ⟨2, 4, [-1], [[]]⟩ (by decide) rfl).mono ?_); rintro e w10 ⟨rfl, H10, T10⟩)
    | (go_at_call 13; (with_reducible refine (pinof_c _ w.heap.size w.heap.size ⟨2, 4, [-1], [[]]⟩ 0 H10 (by decide) (by decide) (-1) (by decide)).mono ?_); rintro e w11 ⟨rfl, H11, T11⟩))
  go_ret
  exact ⟨rfl, (((((((((T1.trans T2.below).trans T3.below).trans T4.below).trans T5.below).trans T6.below).trans T7.below).trans T8.below).trans T9.below).trans T10.below).trans T11.below⟩
end Go.Proofs.Ytfiokeahehkelaa.Ep
