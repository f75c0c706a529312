import Derived.Test.YtfiokeahehkelaaEpLaw
import Derived.Test.YtfiokeahehkelaaPEpochPlaysx1
import Derived.Test.YtfiokeahehkelaaBits
import Derived.WalkKit
import Derived.ProofKit
import Derived.Below
import Derived.Deep.OwnRows
namespace Go.Proofs.Ytfiokeahehkelaa.Ep
open Go Go.RowKit Go.Proofs.YtfiokeahehkelaaW.PrintWords Go.Proofs.YtfiokeahehkelaaW.PrintLast Go.Proofs.YtfiokeahehkelaaW.PrintMore
set_option linter.unusedVariables false
set_option linter.unusedSimpArgs false
/-- a block of the reference's own kinds. -/
def ours2 (o : Obj) : Prop := ∃ cells t fr, o = .cells cells t fr ∧ (t = 46 ∨ t = 3 ∨ t = 47 ∨ t = 65)
structure TF2 (base : Nat) (w w' : World) : Prop where
  below : Below base w w'
  others : ∀ (k : Nat) (o : Obj), w.heap[k]? = some o → ¬ ours2 o → w'.heap[k]? = some o
theorem TF2.drawn {base : Nat} {a b : World} (h : Drawn0 a b) : TF2 base a b := by
  obtain ⟨n, rfl⟩ := h
  exact ⟨pw_below_drewN (Below.refl _ _) n, fun k o ho _ => by exact ho⟩
theorem TF2.refl (base : Nat) (w : World) : TF2 base w w := ⟨Below.refl _ _, fun _ _ h _ => h⟩
theorem not_ours2 {cs : Array Value} {t : TypeId} {fr : Nat × Nat} (h : ¬ (t = 46 ∨ t = 3 ∨ t = 47 ∨ t = 65)) : ¬ ours2 (.cells cs t fr) := fun ⟨_, _, _, he, h3⟩ => by injection he with _ e _; subst e; exact h h3
/-- what the reference's epochs hold, in memory. -/
structure REp (w : World) (base g gp gl cp cl : Nat) (now room : Int) (ps : List Int) (vs : List Value) (ls : List (List (Int × Int))) : Prop where
  ge : base ≤ g
  obj : w.heap[g]? = some (.cells #[.int .i64 now, .int .i64 room, .slice (some ⟨gp, 0, none⟩) ps.length cp, .slice (some ⟨gl, 0, none⟩) ps.length cl] 46 (0, 0))
  op : w.ownsRow base 3 1 (.slice (some ⟨gp, 0, none⟩) ps.length cp) ps.length (ps.map (Value.int .i64))
  ol : w.ownsRow base 47 1 (.slice (some ⟨gl, 0, none⟩) ps.length cl) ps.length vs
  len : ls.length = ps.length
  rows : ∀ (i : Nat) (v : Value) (l : List (Int × Int)), vs[i]? = some v → ls[i]? = some l → QRow w base 65 2 v l.length (retVals l)
  apart : ∀ (i j : Nat) (v u : Value) (b : Nat), vs[i]? = some v → vs[j]? = some u → v.ownBlock = some b → u.ownBlock = some b → i = j
def RHeld (w : World) (base g gp gl cp cl : Nat) (s : St) : Prop := ∃ vs, REp w base g gp gl cp cl s.now s.room s.pins vs s.lim
theorem REp.vlen {w : World} {base g gp gl cp cl : Nat} {now room : Int} {ps : List Int} {vs : List Value} {ls : List (List (Int × Int))} (h : REp w base g gp gl cp cl now room ps vs ls) : vs.length = ps.length := by
  have := h.ol.1; omega
theorem REp.move {w w' : World} {base g gp gl cp cl : Nat} {now room : Int} {ps : List Int} {vs : List Value} {ls : List (List (Int × Int))} (h : REp w base g gp gl cp cl now room ps vs ls) (hm : ∀ (k : Nat) (o : Obj), w.heap[k]? = some o → ours2 o → w'.heap[k]? = some o) : REp w' base g gp gl cp cl now room ps vs ls := by
  have hk : ∀ {k : Nat} {cur : Array Value} {e : TypeId}, w.heap[k]? = some (.cells cur e (0, 0)) → (e = 46 ∨ e = 3 ∨ e = 47 ∨ e = 65) → w'.heap[k]? = w.heap[k]? := fun hh he => by rw [hh]; exact hm _ _ hh ⟨_, _, _, rfl, he⟩
  refine ⟨h.ge, (hk h.obj (.inl rfl)).trans h.obj, own_lift h.op fun b hb => ?_, own_lift h.ol fun b hb => ?_, h.len, fun i v l hv hl => q_move (h.rows i v l hv hl) fun b hb => ?_, h.apart⟩
  · obtain ⟨cur, hc⟩ := own_type h.op hb; exact hk hc (.inr (.inl rfl))
  · obtain ⟨cur, hc⟩ := own_type h.ol hb; exact hk hc (.inr (.inr (.inl rfl)))
  · obtain ⟨_, cur, hc⟩ := q_typed (h.rows i v l hv hl) b hb; exact hk hc (.inr (.inr (.inr rfl)))
theorem RHeld.keep {w w' : World} {base g gp gl cp cl : Nat} {s : St} (h : RHeld w base g gp gl cp cl s) (hm : ∀ (k : Nat) (o : Obj), w.heap[k]? = some o → ours2 o → w'.heap[k]? = some o) : RHeld w' base g gp gl cp cl s := by
  obtain ⟨vs, h⟩ := h; exact ⟨vs, h.move hm⟩
theorem RHeld.drawn {w w' : World} {base g gp gl cp cl : Nat} {s : St} (h : RHeld w base g gp gl cp cl s) (hd : Drawn0 w w') : RHeld w' base g gp gl cp cl s := by
  obtain ⟨n, rfl⟩ := hd
  exact h.keep fun k o ho _ => by exact ho
theorem RHeld.out {w : World} {base g gp gl cp cl : Nat} {s : St} {e : Ending} {r : Value} {w2 : World} (h : RHeld w base g gp gl cp cl s) (he : e = .returned r) (hd : Drawn0 w w2) : e = .returned r ∧ RHeld w2 base g gp gl cp cl s ∧ TF2 base w w2 := ⟨he, h.drawn hd, TF2.drawn hd⟩
theorem cell4 {w : World} {g : Nat} {a b c d : Value} {t : TypeId} {fr : Nat × Nat} (h : w.heap[g]? = some (.cells #[a, b, c, d] t fr)) : w.cell? ⟨g, 0, none⟩ = some a ∧ w.cell? ⟨g, 1, none⟩ = some b ∧ w.cell? ⟨g, 2, none⟩ = some c ∧ w.cell? ⟨g, 3, none⟩ = some d := by
  simp [World.cell?, h]
theorem REp.types {w : World} {base g gp gl cp cl : Nat} {now room : Int} {ps : List Int} {vs : List Value} {ls : List (List (Int × Int))} (h : REp w base g gp gl cp cl now room ps vs ls) :
    (∃ c, w.heap[gp]? = some (.cells c 3 (0, 0))) ∧ (∃ c, w.heap[gl]? = some (.cells c 47 (0, 0))) ∧ g ≠ gp ∧ g ≠ gl ∧ gp ≠ gl ∧ base ≤ gp ∧ base ≤ gl ∧ (∀ (i : Nat) (v : Value) (b : Nat), vs[i]? = some v → v.ownBlock = some b → b ≠ g ∧ b ≠ gp ∧ b ≠ gl ∧ b < w.heap.size) := by
  obtain ⟨c1, h1⟩ := own_type h.op (b := gp) rfl
  obtain ⟨c2, h2⟩ := own_type h.ol (b := gl) rfl
  have hne : ∀ {a b : Nat} {x y : Array Value} {t u : TypeId}, w.heap[a]? = some (.cells x t (0, 0)) → w.heap[b]? = some (.cells y u (0, 0)) → t ≠ u → a ≠ b := fun ha hb ht e => by
    subst e; rw [ha] at hb; injection hb with hb; injection hb with _ hb; exact ht hb
  refine ⟨⟨c1, h1⟩, ⟨c2, h2⟩, hne h.obj h1 (by decide), hne h.obj h2 (by decide), hne h1 h2 (by decide), (h.op.lt gp rfl).1, (h.ol.lt gl rfl).1, fun i v b hv hb => ?_⟩
  have hil : i < ls.length := by rw [h.len, ← h.vlen]; exact (List.getElem?_eq_some_iff.1 hv).1
  obtain ⟨_, cs, hc⟩ := q_typed (h.rows i v _ hv (List.getElem?_eq_getElem hil)) b hb
  exact ⟨hne hc h.obj (by decide), hne hc h1 (by decide), hne hc h2 (by decide), (Array.getElem?_eq_some_iff.1 hc).1⟩
/-- what is read of the reference's epochs. -/
theorem RHeld.at_ {w : World} {base g gp gl cp cl : Nat} {s : St} (h : RHeld w base g gp gl cp cl s) :
    s.lim.length = s.pins.length ∧ w.cell? ⟨g, 0, none⟩ = some (.int .i64 s.now) ∧ w.cell? ⟨g, 1, none⟩ = some (.int .i64 s.room) ∧ w.cell? ⟨g, 2, none⟩ = some (.slice (some ⟨gp, 0, none⟩) s.pins.length cp) ∧ w.cell? ⟨g, 3, none⟩ = some (.slice (some ⟨gl, 0, none⟩) s.pins.length cl) ∧
      (∀ (i : Nat), i < s.pins.length → w.cell? ⟨gp, i, none⟩ = some (.int .i64 (s.pins[i]?.getD (-1))) ∧ w.frozen? ⟨gp, i, none⟩ = false ∧ ∃ A c, w.cell? ⟨gl, i, none⟩ = some (.slice A (s.lim[i]?.getD []).length c) ∧ QRow w base 65 2 (.slice A (s.lim[i]?.getD []).length c) (s.lim[i]?.getD []).length (retVals (s.lim[i]?.getD []))) := by
  obtain ⟨vs, h⟩ := h
  obtain ⟨h0, h1, h2, h3⟩ := cell4 h.obj
  refine ⟨h.len, h0, h1, h2, h3, fun i hi => ⟨?_, h.op.frozenAt _, ?_⟩⟩
  · rw [h.op.cellAt i (by omega), List.getElem?_map, List.getElem?_eq_getElem hi]; rfl
  · have hv : vs[i]? = some (vs[i]'(by rw [h.vlen]; exact hi)) := List.getElem?_eq_getElem _
    have hl : s.lim[i]? = some (s.lim[i]'(by rw [h.len]; exact hi)) := List.getElem?_eq_getElem _
    have hr := h.rows i _ _ hv hl
    rw [hl]
    obtain ⟨A, c, e, hle⟩ := q_slice hr
    refine ⟨A, c, ?_, e ▸ hr⟩
    rw [h.ol.cellAt i (by omega), hv, e]; rfl
/-- a client's pin is stored. -/
theorem RHeld.setPin {w : World} {base g gp gl cp cl : Nat} {s : St} (h : RHeld w base g gp gl cp cl s) (i : Nat) (n : Int) : RHeld (w.setCell ⟨gp, i, none⟩ (.int .i64 n)) base g gp gl cp cl { s with pins := s.pins.set i n } ∧ TF2 base w (w.setCell ⟨gp, i, none⟩ (.int .i64 n)) := by
  obtain ⟨vs, h⟩ := h
  obtain ⟨⟨c1, h1⟩, ⟨c2, h2⟩, n1, n2, n3, b1, b2, hr⟩ := h.types
  have far : ∀ k, k ≠ gp → (w.setCell ⟨gp, i, none⟩ (.int .i64 n)).heap[k]? = w.heap[k]? := fun k hk => heap_setCell_other w ⟨gp, i, none⟩ k _ hk
  have hs := (h.op.stored i (.int .i64 n)).1
  rw [← List.map_set] at hs
  have hol := own_lift (w' := w.setCell ⟨gp, i, none⟩ (.int .i64 n)) h.ol fun b hb => far b fun e => by
    simp only [Value.ownBlock, Option.some.injEq] at hb; subst hb; exact n3 e.symm
  refine ⟨⟨vs, ⟨h.ge, by rw [far g n1, List.length_set]; exact h.obj, by rw [List.length_set]; exact hs, by rw [List.length_set]; exact hol, by rw [List.length_set]; exact h.len, fun j v l hv hl => q_move (h.rows j v l hv hl) fun b hb => far b (hr j v b hv hb).2.1, h.apart⟩⟩, ⟨Below.setCell (Below.refl _ _) b1 _, fun k o ho hn => ?_⟩⟩
  · rw [far k (fun e => hn (by rw [e, h1] at ho; injection ho with ho; exact ⟨_, _, _, ho.symm, .inr (.inl rfl)⟩))]; exact ho
/-- the epoch is stored. -/
theorem RHeld.setNow {w : World} {base g gp gl cp cl : Nat} {s : St} (h : RHeld w base g gp gl cp cl s) (n : Int) : RHeld (w.setCell ⟨g, 0, none⟩ (.int .i64 n)) base g gp gl cp cl { s with now := n } ∧ TF2 base w (w.setCell ⟨g, 0, none⟩ (.int .i64 n)) ∧ w.frozen? ⟨g, 0, none⟩ = false := by
  obtain ⟨vs, h⟩ := h
  obtain ⟨⟨c1, h1⟩, ⟨c2, h2⟩, n1, n2, n3, b1, b2, hr⟩ := h.types
  have far : ∀ k, k ≠ g → (w.setCell ⟨g, 0, none⟩ (.int .i64 n)).heap[k]? = w.heap[k]? := fun k hk => heap_setCell_other w ⟨g, 0, none⟩ k _ hk
  refine ⟨⟨vs, ⟨h.ge, heap_setCell_same w g 0 _ 46 _ h.obj, own_lift h.op fun b hb => far b fun e => ?_, own_lift h.ol fun b hb => far b fun e => ?_, h.len, fun j v l hv hl => q_move (h.rows j v l hv hl) fun b hb => far b (hr j v b hv hb).1, h.apart⟩⟩, ⟨Below.setCell (Below.refl _ _) h.ge _, fun k o ho hn => ?_⟩, free3 h.obj 0⟩
  · simp only [Value.ownBlock, Option.some.injEq] at hb; subst hb; exact n1 e.symm
  · simp only [Value.ownBlock, Option.some.injEq] at hb; subst hb; exact n2 e.symm
  · rw [far k (fun e => hn (by rw [e, h.obj] at ho; injection ho with ho; exact ⟨_, _, _, ho.symm, .inl rfl⟩))]; exact ho
/-- a client's limbo is stored anew: its row has grown, or begins later, or is a new one. -/
theorem RHeld.setLimbo {w w3 : World} {base g gp gl cp cl : Nat} {s : St} (h : RHeld w base g gp gl cp cl s) (i : Nat) (hi : i < s.pins.length) (V : Value) (hV : w.cell? ⟨gl, i, none⟩ = some V) (V' : Value) (l' : List (Int × Int)) (hown : QRow w3 base 65 2 V' l'.length (retVals l')) (hB : Below base w w3)
    (hk : ∀ k, k < w.heap.size → some k ≠ V.ownBlock → w3.heap[k]? = w.heap[k]?) (hat : V'.ownBlock = none ∨ V'.ownBlock = V.ownBlock ∨ ∃ b, V'.ownBlock = some b ∧ w.heap.size ≤ b) :
    RHeld (w3.setCell ⟨gl, i, none⟩ V') base g gp gl cp cl { s with lim := s.lim.set i l' } ∧ TF2 base w (w3.setCell ⟨gl, i, none⟩ V') ∧ w3.frozen? ⟨gl, i, none⟩ = false ∧ w3.cell? ⟨gl, i, none⟩ = some V := by
  obtain ⟨vs, h⟩ := h
  obtain ⟨⟨c1, h1⟩, ⟨c2, h2⟩, n1, n2, n3, b1, b2, hr⟩ := h.types
  have hlt : ∀ {k : Nat} {o : Obj}, w.heap[k]? = some o → k < w.heap.size := fun hh => (Array.getElem?_eq_some_iff.1 hh).1
  have hvi : vs[i]? = some V := by rw [← h.ol.cellAt i (by omega)]; exact hV
  have hvl := h.vlen
  have hVn : ∀ b, V.ownBlock = some b → b ≠ g ∧ b ≠ gp ∧ b ≠ gl ∧ b < w.heap.size := fun b hb => hr i V b hvi hb
  have kg : w3.heap[g]? = w.heap[g]? := hk g (hlt h.obj) fun e => (hVn g e.symm).1 rfl
  have kp : w3.heap[gp]? = w.heap[gp]? := hk gp (hlt h1) fun e => (hVn gp e.symm).2.1 rfl
  have kl : w3.heap[gl]? = w.heap[gl]? := hk gl (hlt h2) fun e => (hVn gl e.symm).2.2.1 rfl
  have hV'l : ∀ b, V'.ownBlock = some b → b ≠ g ∧ b ≠ gp ∧ b ≠ gl := fun b hb => by
    rcases hat with ha | ha | ⟨b', hb', hle⟩
    · rw [ha] at hb; cases hb
    · have := hVn b (ha ▸ hb); exact ⟨this.1, this.2.1, this.2.2.1⟩
    · rw [hb'] at hb; injection hb with hb; subst hb
      have := hlt h.obj; have := hlt h1; have := hlt h2
      exact ⟨by omega, by omega, by omega⟩
  have far : ∀ k, k ≠ gl → (w3.setCell ⟨gl, i, none⟩ V').heap[k]? = w3.heap[k]? := fun k hk => heap_setCell_other w3 ⟨gl, i, none⟩ k _ hk
  have hol3 : w3.ownsRow base 47 1 (.slice (some ⟨gl, 0, none⟩) s.pins.length cl) s.pins.length vs := own_lift h.ol fun b hb => by simp only [Value.ownBlock, Option.some.injEq] at hb; subst hb; exact kl
  have hs := (hol3.stored i V').1
  have hrow : ∀ (j : Nat) (u : Value) (m : List (Int × Int)), j ≠ i → vs[j]? = some u → s.lim[j]? = some m → ∀ b, u.ownBlock = some b → (w3.setCell ⟨gl, i, none⟩ V').heap[b]? = w.heap[b]? := by
    intro j u m hj hu hm b hb
    have hb3 := hr j u b hu hb
    rw [far b hb3.2.2.1]
    exact hk b hb3.2.2.2 fun e => hj (h.apart j i u V b hu hvi hb e.symm)
  refine ⟨⟨vs.set i V', ⟨h.ge, (far g n2).trans (kg.trans h.obj), own_lift h.op fun b hb => ?_, hs, by rw [List.length_set]; exact h.len, ?_, ?_⟩⟩, ⟨Below.setCell hB b2 _, fun k o ho hn => ?_⟩, hol3.frozenAt _, (hol3.cellAt i (by omega)).trans hvi⟩
  · simp only [Value.ownBlock, Option.some.injEq] at hb; subst hb; exact (far gp n3).trans kp
  · intro j u m hu hm
    by_cases hj : j = i
    · subst hj
      rw [List.getElem?_set_self (by omega)] at hu
      rw [List.getElem?_set_self (by rw [h.len]; exact hi)] at hm
      injection hu with hu; injection hm with hm; subst hu; subst hm
      exact q_move hown fun b hb => far b (hV'l b hb).2.2
    · rw [List.getElem?_set_ne (Ne.symm hj)] at hu
      rw [List.getElem?_set_ne (Ne.symm hj)] at hm
      exact q_move (h.rows j u m hu hm) (hrow j u m hj hu hm)
  · have hcase : ∀ (j : Nat) (u : Value), j ≠ i → vs[j]? = some u → ∀ b, u.ownBlock = some b → V'.ownBlock ≠ some b := by
      intro j u hj hu b hb hb'
      rcases hat with ha | ha | ⟨b2, hb2, hs2⟩
      · rw [ha] at hb'; cases hb'
      · exact hj (h.apart j i u V b hu hvi hb (ha ▸ hb'))
      · rw [hb'] at hb2; injection hb2 with hb2; subst hb2
        have := (hr j u b hu hb).2.2.2; omega
    intro j j' u u' b hu hu' hb hb'
    by_cases hj : j = i <;> by_cases hj' : j' = i
    · rw [hj, hj']
    · subst hj
      rw [List.getElem?_set_self (by omega)] at hu; injection hu with hu; subst hu
      rw [List.getElem?_set_ne (Ne.symm hj')] at hu'
      exact (hcase j' u' hj' hu' b hb' hb).elim
    · subst hj'
      rw [List.getElem?_set_self (by omega)] at hu'; injection hu' with hu'; subst hu'
      rw [List.getElem?_set_ne (Ne.symm hj)] at hu
      exact (hcase j u hj hu b hb hb').elim
    · rw [List.getElem?_set_ne (Ne.symm hj)] at hu
      rw [List.getElem?_set_ne (Ne.symm hj')] at hu'
      exact h.apart j j' u u' b hu hu' hb hb'
  · have hkg : k ≠ gl := fun e => hn (by rw [e, h2] at ho; injection ho with ho; exact ⟨_, _, _, ho.symm, .inr (.inr (.inl rfl))⟩)
    rw [far k hkg, hk k (hlt ho) fun e => ?_]
    · exact ho
    · have hil : i < s.lim.length := by rw [h.len]; exact hi
      obtain ⟨_, cs, hc⟩ := q_typed (h.rows i V _ hvi (List.getElem?_eq_getElem hil)) k e.symm
      exact hn (by rw [hc] at ho; injection ho with ho; exact ⟨_, _, _, ho.symm, .inr (.inr (.inr rfl))⟩)
theorem client_ (w : World) (base g gp gl cp cl : Nat) (s : St) (c : Int) (h : RHeld w base g gp gl cp cl s) (b : Bool) (hb : decide (s.has c) = b) :
    Calls Try.prog 23 #[.pointer (some ⟨g, 0, none⟩), .int .i64 c] w fun e w' => e = .returned (.bool b) ∧ w = w' := by
  obtain ⟨-, r0, r1, r2, r3, -⟩ := h.at_
  by_cases h0 : 0 ≤ c
  · have d0 : decide (0 ≤ c) = true := decide_eq_true h0
    by_cases h1 : c < (s.pins.length : Int)
    · have d1 : decide (c < (s.pins.length : Int)) = true := decide_eq_true h1
      obtain rfl : true = b := by rw [← hb]; exact (decide_eq_true ⟨h0, h1⟩).symm
      go_enter Try.func23, Try.ntmps23
      go_wp2
      go_ret
      exact ⟨rfl, rfl⟩
    · have d1 : decide (c < (s.pins.length : Int)) = false := decide_eq_false h1
      obtain rfl : false = b := by rw [← hb]; exact (decide_eq_false fun h => h1 h.2).symm
      go_enter Try.func23, Try.ntmps23
      go_wp2
      go_ret
      exact ⟨rfl, rfl⟩
  · have d0 : decide (0 ≤ c) = false := decide_eq_false h0
    obtain rfl : false = b := by rw [← hb]; exact (decide_eq_false fun h => h0 h.1).symm
    go_enter Try.func23, Try.ntmps23
    go_wp2
    go_ret
    exact ⟨rfl, rfl⟩
set_option maxHeartbeats 1000000 in
set_option maxRecDepth 100000 in
theorem rpin_ (w : World) (base g gp gl cp cl : Nat) (s : St) (c n : Int) (h : RHeld w base g gp gl cp cl s) :
    Calls Try.prog 18 #[.pointer (some ⟨g, 0, none⟩), .int .i64 c, .int .i64 n] w fun e w' => e = .returned (.bool (s.pinB c n)) ∧ RHeld w' base g gp gl cp cl (s.pinS c n) ∧ TF2 base w w' := by
  obtain ⟨hll, r0, r1, r2, r3, hcell⟩ := h.at_
  by_cases hh : s.has c
  · have h0 := hh.1
    have h1 := hh.2
    by_cases h2 : n < 0
    · have c1 : decide (n < 0) = true := decide_eq_true h2
      rw [show s.pinB c n = false from decide_eq_false (by omega), show s.pinS c n = s from if_neg (by omega)]
      go_enter Try.func18, Try.ntmps18
      go_wp2_with (go_at_call 23; (with_reducible refine (client_ _ _ _ _ _ _ _ s c h true (decide_eq_true hh)).mono ?_); rintro e W' ⟨rfl, rfl⟩)
      go_ret
      exact h.out rfl (by repeat (first | exact Drawn0.refl _ | apply Drawn0.step))
    · have c1 : decide (n < 0) = false := decide_eq_false h2
      by_cases h3 : s.now < n
      · have c2 : decide (s.now < n) = true := decide_eq_true h3
        rw [show s.pinB c n = false from decide_eq_false (by omega), show s.pinS c n = s from if_neg (by omega)]
        go_enter Try.func18, Try.ntmps18
        go_wp2_with (go_at_call 23; (with_reducible refine (client_ _ _ _ _ _ _ _ s c h true (decide_eq_true hh)).mono ?_); rintro e W' ⟨rfl, rfl⟩)
        go_ret
        exact h.out rfl (by repeat (first | exact Drawn0.refl _ | apply Drawn0.step))
      · have c2 : decide (s.now < n) = false := decide_eq_false h3
        have hk : s.has c ∧ 0 ≤ n ∧ n ≤ s.now := ⟨hh, by omega, by omega⟩
        rw [show s.pinB c n = true from decide_eq_true hk, show s.pinS c n = _ from if_pos hk]
        obtain ⟨hp, hf, -⟩ := hcell c.toNat (by omega)
        have HS := Aside0.mk (h.setPin c.toNat n)
        go_enter Try.func18, Try.ntmps18
        go_wp2_with (go_at_call 23; (with_reducible refine (client_ _ _ _ _ _ _ _ s c h true (decide_eq_true hh)).mono ?_); rintro e W' ⟨rfl, rfl⟩)
        go_ret
        exact ⟨rfl, HS.out⟩
  · rw [show s.pinB c n = false from decide_eq_false fun h => hh h.1, show s.pinS c n = s from if_neg fun h => hh h.1]
    go_enter Try.func18, Try.ntmps18
    go_wp2_with (go_at_call 23; (with_reducible refine (client_ _ _ _ _ _ _ _ s c h false (decide_eq_false hh)).mono ?_); rintro e W' ⟨rfl, rfl⟩)
    go_ret
    exact h.out rfl (by repeat (first | exact Drawn0.refl _ | apply Drawn0.step))
set_option maxHeartbeats 1000000 in
set_option maxRecDepth 100000 in
theorem runpin_ (w : World) (base g gp gl cp cl : Nat) (s : St) (c : Int) (h : RHeld w base g gp gl cp cl s) :
    Calls Try.prog 19 #[.pointer (some ⟨g, 0, none⟩), .int .i64 c] w fun e w' => e = .returned (.bool (s.unpinB c)) ∧ RHeld w' base g gp gl cp cl (s.unpinS c) ∧ TF2 base w w' := by
  obtain ⟨hll, r0, r1, r2, r3, hcell⟩ := h.at_
  by_cases hh : s.has c
  · have h0 := hh.1
    have h1 := hh.2
    rw [show s.unpinB c = true from decide_eq_true hh, show s.unpinS c = _ from if_pos hh]
    obtain ⟨hp, hf, -⟩ := hcell c.toNat (by omega)
    have HS := Aside0.mk (h.setPin c.toNat (-1))
    go_enter Try.func19, Try.ntmps19
    go_wp2_with (go_at_call 23; (with_reducible refine (client_ _ _ _ _ _ _ _ s c h true (decide_eq_true hh)).mono ?_); rintro e W' ⟨rfl, rfl⟩)
    go_ret
    exact ⟨rfl, HS.out⟩
  · rw [show s.unpinB c = false from decide_eq_false hh, show s.unpinS c = s from if_neg hh]
    go_enter Try.func19, Try.ntmps19
    go_wp2_with (go_at_call 23; (with_reducible refine (client_ _ _ _ _ _ _ _ s c h false (decide_eq_false hh)).mono ?_); rintro e W' ⟨rfl, rfl⟩)
    go_ret
    exact h.out rfl (by repeat (first | exact Drawn0.refl _ | apply Drawn0.step))
set_option maxHeartbeats 1000000 in
set_option maxRecDepth 100000 in
theorem radv_ (w : World) (base g gp gl cp cl : Nat) (s : St) (n : Int) (h : RHeld w base g gp gl cp cl s) (hlo : 0 ≤ s.now) (hhi : s.now ≤ 1073741824) :
    Calls Try.prog 20 #[.pointer (some ⟨g, 0, none⟩), .int .i64 n] w fun e w' => e = .returned (.bool (s.advB n)) ∧ RHeld w' base g gp gl cp cl (s.advS n) ∧ TF2 base w w' := by
  obtain ⟨hll, r0, r1, r2, r3, hcell⟩ := h.at_
  by_cases h1 : s.now = n
  · by_cases h2 : s.now < 1073741824
    · rw [show s.advB n = true from decide_eq_true ⟨h1, h2⟩, show s.advS n = _ from if_pos ⟨h1, h2⟩]
      subst h1
      obtain ⟨hs1, hs2, hf⟩ := h.setNow (s.now + 1)
      have HS := Aside0.mk (And.intro hs1 hs2)
      go_enter Try.func20, Try.ntmps20
      go_wp2
      go_ret
      exact ⟨rfl, HS.out⟩
    · rw [show s.advB n = false from decide_eq_false (by omega), show s.advS n = s from if_neg (by omega)]
      subst h1
      go_enter Try.func20, Try.ntmps20
      go_wp2
      go_ret
      exact h.out rfl (by repeat (first | exact Drawn0.refl _ | apply Drawn0.step))
  · rw [show s.advB n = false from decide_eq_false (by omega), show s.advS n = s from if_neg (by omega)]
    go_enter Try.func20, Try.ntmps20
    go_wp2
    go_ret
    exact h.out rfl (by repeat (first | exact Drawn0.refl _ | apply Drawn0.step))
theorem info65_ : (Try.prog.info? 65).map (fun i => (i.zero, i.size, i.bytes)) = some (some (.agg #[.int .i64 0, .int .i64 0]), 2, 16) := by kernel_rfl
section
attribute [local go_sem ↓ high] app_hide
open Go.Proofs.Ytfiokeahehkelaa.PEpochPlays in
set_option maxHeartbeats 4000000 in
set_option maxRecDepth 100000 in
theorem rret_ (w : World) (base g gp gl cp cl : Nat) (s : St) (c ref : Int) (h : RHeld w base g gp gl cp cl s) (k : Nat) (p1 p2 : Int) (p3 ok : Bool) (hP : tendrilref1_Parts.f k ref = some (p1, p2, p3, ok)) (hrm : s.room ≤ 64) (hn : s.pins.length ≤ 8) (hb : base ≤ w.heap.size) :
    Calls Try.prog 21 #[.pointer (some ⟨g, 0, none⟩), .int .i64 c, .int .i64 ref] w fun e w' => e = .returned (.int .i64 (s.retE c ok)) ∧ RHeld w' base g gp gl cp cl (s.retS c ref ok) ∧ TF2 base w w' := by
  obtain ⟨hll, r0, r1, r2, r3, hcell⟩ := h.at_
  cases ok
  · rw [show s.retE c false = 1 from if_pos (.inr rfl), show s.retS c ref false = s from if_pos (.inr rfl)]
    go_enter Try.func21, Try.ntmps21
    go_wp2_with (go_at_call 29; (with_reducible refine (tendrilref1_Parts.calls k ref p1 p2 p3 false _ hP).mono ?_); rintro e w' ⟨rfl, ⟨nd, rfl⟩⟩)
    go_ret
    exact h.out rfl (by repeat (first | exact Drawn0.refl _ | apply Drawn0.step))
  · by_cases hh : s.has c
    · have h0 := hh.1
      have h1 := hh.2
      have hcond : ¬ (¬ s.has c ∨ true = false) := by simp [hh]
      obtain ⟨-, -, A, cp2, hq, hO⟩ := hcell c.toNat (by omega)
      rw [show s.lim[c.toNat]?.getD [] = s.wait c from rfl] at hq hO
      have hst := fun w3 V' l' => h.setLimbo c.toNat (by omega) _ hq (w3 := w3) V' l'
      have HST := Aside0.mk hst
      clear hst
      by_cases hfl : s.room ≤ ((s.wait c).length : Int)
      · rw [show s.retE c true = 2 from (if_neg hcond).trans (if_pos hfl), show s.retS c ref true = s from (if_neg hcond).trans (if_pos hfl)]
        have b3 : decide (s.room ≤ ((s.wait c).length : Int)) = true := decide_eq_true hfl
        go_enter Try.func21, Try.ntmps21
        go_wp2_with (first
          | (go_at_call 29; (with_reducible refine (tendrilref1_Parts.calls k ref p1 p2 p3 true _ hP).mono ?_); rintro e w' ⟨rfl, ⟨nd, rfl⟩⟩)
          | (go_at_call 23; (with_reducible refine (client_ _ _ _ _ _ _ _ s c (h.drawn ⟨⟨_, rfl⟩⟩) true (decide_eq_true hh)).mono ?_); rintro e W' ⟨rfl, rfl⟩))
        generalize hw1 : w.drewN _ = w1
        replace r0 := dcell hw1 r0
        replace r1 := dcell hw1 r1
        replace r3 := dcell hw1 r3
        replace hq := dcell hw1 hq
        go_quiet (fail)
        go_wp2
        go_ret
        subst hw1
        exact h.out rfl (by repeat (first | exact Drawn0.refl _ | apply Drawn0.step))
      · rw [show s.retE c true = 0 from (if_neg hcond).trans (if_neg hfl), show s.retS c ref true = _ from (if_neg hcond).trans (if_neg hfl)]
        have b3 : decide (s.room ≤ ((s.wait c).length : Int)) = false := decide_eq_false hfl
        generalize hL : s.wait c = L at *
        go_enter Try.func21, Try.ntmps21
        go_wp2_with (first
          | (go_at_call 29; (with_reducible refine (tendrilref1_Parts.calls k ref p1 p2 p3 true _ hP).mono ?_); rintro e w' ⟨rfl, ⟨nd, rfl⟩⟩)
          | (go_at_call 23; (with_reducible refine (client_ _ _ _ _ _ _ _ s c (h.drawn ⟨⟨_, rfl⟩⟩) true (decide_eq_true hh)).mono ?_); rintro e W' ⟨rfl, rfl⟩))
        generalize hw1 : w.drewN _ = w1
        replace r0 := dcell hw1 r0
        replace r1 := dcell hw1 r1
        replace r3 := dcell hw1 r3
        replace hq := dcell hw1 hq
        go_quiet (fail)
        go_wp2
        generalize hw2 : w1.drewN _ = w2
        replace r0 := dcell hw2 r0
        replace r3 := dcell hw2 r3
        replace hq := dcell hw2 hq
        have hown : QRow w2 base 65 2 (.slice A L.length cp2) L.length (retVals L) := by subst hw2; subst hw1; exact hO
        have lg : g < w2.heap.size := World.block_lt_of_cell? w2 _ r0
        have lc : gl < w2.heap.size := World.block_lt_of_cell? w2 _ hq
        have hb2 : base ≤ w2.heap.size := by subst hw2; subst hw1; exact hb
        have he2_ : w2.heap = w.heap := by subst hw2; subst hw1; rfl
        have HE2 := Aside0.mk he2_
        clear he2_
        have hB2 : Below base w w2 := by subst hw2; subst hw1; exact pw_below_drewN (pw_below_drewN (Below.refl _ _) _) _
        obtain ⟨i0, hi0, hz0, hz1, hz2⟩ := info_parts info65_
        have gz0 : ((w2.alloc (.cells #[.int .i64 ref, .int .i64 s.now] 65 (0, 0))).drew).cell? ⟨g, 0, none⟩ = some (.int .i64 s.now) := (World.cell?_of_block (heap_alloc_old w2 _ lg)).trans r0
        have gz3 : ((w2.alloc (.cells #[.int .i64 ref, .int .i64 s.now] 65 (0, 0))).drew).cell? ⟨g, 3, none⟩ = _ := (World.cell?_of_block (heap_alloc_old w2 _ lg)).trans r3
        have hqz : ((w2.alloc (.cells #[.int .i64 ref, .int .i64 s.now] 65 (0, 0))).drew).cell? ⟨gl, c.toNat, none⟩ = some (.slice A L.length cp2) := (World.cell?_of_block (heap_alloc_old w2 _ lc)).trans hq
        have hnw := World.news_of_block (w := (w2.alloc (.cells #[.int .i64 ref, .int .i64 s.now] 65 (0, 0))).drew) (cs := #[.int .i64 ref, .int .i64 s.now]) (t := 65) (fr := (0, 0)) (heap_alloc_new w2 _)
        have hownz : QRow ((w2.alloc (.cells #[.int .i64 ref, .int .i64 s.now] 65 (0, 0))).drew) base 65 2 (.slice A L.length cp2) L.length (retVals L) := q_move hown fun k hk => heap_alloc_old w2 _ (q_lt hown k hk)
        obtain ⟨V1, w3, hrun, hown1, hgrow, hat⟩ := q_append (P := Try.prog) ((w2.alloc (.cells #[.int .i64 ref, .int .i64 s.now] 65 (0, 0))).drew) base 47 47 65 i0 _ 2 16 Try.underlying47 hi0 hz0 hz1 hz2 rfl (by decide) (.slice A L.length cp2) L.length (retVals L) hownz
              ⟨w2.heap.size, 0, none⟩ 1 1 [.int .i64 ref, .int .i64 s.now] (by rfl) hnw (by simp [Value.oneCell']) (by decide) (by simp only [maxLen]; omega) (by omega) (by simp; omega)
        rw [app_hide] at hrun
        obtain ⟨A1, cap2, rfl, -⟩ := q_slice hown1
        have hgr : w2.grownBy w3 (Value.slice A L.length cp2).ownBlock := World.grownBy.trans (World.grownBy_alloc w2 _ _) (grown_drew hgrow)
        have hB3 : Below base w w3 := hB2.trans ((Below.refl _ _).grown hgr hb2 (fun k hk => (q_typed hown k hk).1))
        have hk3 : ∀ k, k < w.heap.size → some k ≠ (Value.slice A L.length cp2).ownBlock → w3.heap[k]? = w.heap[k]? := fun k hk hne => (hgr.block k (by rw [HE2.out]; exact hk) hne).trans (by rw [HE2.out])
        have hat3 : (Value.slice A1 (L.length + 1) cap2).ownBlock = none ∨ (Value.slice A1 (L.length + 1) cap2).ownBlock = (Value.slice A L.length cp2).ownBlock ∨ ∃ b, (Value.slice A1 (L.length + 1) cap2).ownBlock = some b ∧ w.heap.size ≤ b := by
          rcases hat with e | ⟨b, e1, e2⟩
          · exact .inr (.inl e)
          · exact .inr (.inr ⟨b, e1, by rw [← HE2.out]; simp at e2; omega⟩)
        have hres := HST.out w3 (.slice A1 (L.length + 1) cap2) (L ++ [(ref, s.now)]) (by rw [retVals_append, List.length_append]; exact hown1) hB3 hk3 hat3
        clear hB3 hk3 hat3 hat
        obtain ⟨hfin1, hfin2, hf3, hq3⟩ := hres
        have hVg : some g ≠ (Value.slice A L.length cp2).ownBlock := fun e => by
          obtain ⟨vs, hr⟩ := h
          obtain ⟨_, cs, hc⟩ := q_typed hO g e.symm
          rw [hr.obj] at hc; injection hc with hc; injection hc with _ hc; cases hc
        have g33 : w3.cell? ⟨g, 3, none⟩ = _ := (hgr.cell_far ⟨g, 3, none⟩ lg hVg).trans r3
        have g30 : w3.cell? ⟨g, 0, none⟩ = _ := (hgr.cell_far ⟨g, 0, none⟩ lg hVg).trans r0
        clear hVg
        have HFIN := Aside0.mk (And.intro hfin1 hfin2)
        clear hfin1 hfin2
        go_region
        all_goals
          go_wp2
          go_ret
          exact ⟨rfl, HFIN.out⟩
    · rw [show s.retE c true = 1 from if_pos (.inl hh), show s.retS c ref true = s from if_pos (.inl hh)]
      go_enter Try.func21, Try.ntmps21
      go_wp2_with (first
        | (go_at_call 29; (with_reducible refine (tendrilref1_Parts.calls k ref p1 p2 p3 true _ hP).mono ?_); rintro e w' ⟨rfl, ⟨nd, rfl⟩⟩)
        | (go_at_call 23; (with_reducible refine (client_ _ _ _ _ _ _ _ s c (h.drawn ⟨⟨_, rfl⟩⟩) false (decide_eq_false hh)).mono ?_); rintro e W' ⟨rfl, rfl⟩))
      go_ret
      exact h.out rfl (by repeat (first | exact Drawn0.refl _ | apply Drawn0.step))
end
theorem client_q (w : World) (base g gp gl cp cl : Nat) (s : St) (c : Int) (n : Nat) (h : RHeld w base g gp gl cp cl s) (b : Bool) (hb : decide (s.has c) = b) :
    Calls Try.prog 23 #[.pointer (some ⟨g, 0, none⟩), .int .i64 c] (w.drewN n) fun e w' => e = .returned (.bool b) ∧ ∃ m, w' = w.drewN m :=
  (client_ (w.drewN n) base g gp gl cp cl s c (h.drawn ⟨⟨n, rfl⟩⟩) b hb).mono fun e w' ⟨he, hw⟩ => ⟨he, n, hw.symm⟩
set_option maxHeartbeats 4000000 in
set_option maxRecDepth 100000 in
theorem rcol_no (w : World) (base g gp gl cp cl : Nat) (s : St) (c : Int) (h : RHeld w base g gp gl cp cl s) (hh : ¬ s.has c) :
    Calls Try.prog 22 #[.pointer (some ⟨g, 0, none⟩), .int .i64 c] w fun e w' => e = .returned (.tuple #[.int .i64 0, .bool false]) ∧ RHeld w' base g gp gl cp cl s ∧ TF2 base w w' := by
  go_enter Try.func22, Try.ntmps22
  go_wp2
  go_quiet ((go_at_call 23; with_reducible exact client_q _ _ _ _ _ _ _ s c _ h false (decide_eq_false hh)))
  go_wp2
  go_ret2
  exact h.out rfl (by repeat (first | exact Drawn0.refl _ | apply Drawn0.step))
set_option maxHeartbeats 4000000 in
set_option maxRecDepth 100000 in
theorem rcol_nil (w : World) (base g gp gl cp cl : Nat) (s : St) (c : Int) (h : RHeld w base g gp gl cp cl s) (hh : s.has c) (hl : s.wait c = []) :
    Calls Try.prog 22 #[.pointer (some ⟨g, 0, none⟩), .int .i64 c] w fun e w' => e = .returned (.tuple #[.int .i64 0, .bool false]) ∧ RHeld w' base g gp gl cp cl s ∧ TF2 base w w' := by
  obtain ⟨hll, r0, r1, r2, r3, hcell⟩ := h.at_
  have h0 := hh.1
  have h1 := hh.2
  obtain ⟨-, -, A, cp2, hq, hO⟩ := hcell c.toNat (by omega)
  rw [show s.lim[c.toNat]?.getD [] = s.wait c from rfl, hl, show (([] : List (Int × Int)).length) = 0 from rfl] at hq
  clear hO hcell
  go_enter Try.func22, Try.ntmps22
  go_wp2
  go_quiet ((go_at_call 23; with_reducible exact client_q _ _ _ _ _ _ _ s c _ h true (decide_eq_true hh)))
  go_wp2
  go_ret2
  exact h.out rfl (by repeat (first | exact Drawn0.refl _ | apply Drawn0.step))
theorem qrow_form {w : World} {base n : Nat} {A : Option Addr} {c : Nat} {xs : List Value} (h : QRow w base 65 2 (.slice A n c) n xs) (hn : 0 < n) :
    ∃ gb ob, A = some ⟨gb, ob, none⟩ ∧ n ≤ c ∧ c ≤ 9223372036854775807 ∧ (∀ j u, xs[j]? = some u → w.cell? ⟨gb, ob + j, none⟩ = some u) := by
  rcases h.2 with ⟨h0, _⟩ | ⟨g, off, cap, cur, hv, hb, hh, hnc, hm, hcs, ht⟩
  · omega
  · injection hv with ha _ hc
    subst ha; subst hc
    refine ⟨g, off * 2, rfl, hnc, by unfold maxLen at hm; omega, fun j u hu => ?_⟩
    obtain ⟨ad, he, hcell⟩ := q_cells h hn
    injection he with he; subst he
    have := hcell j u hu
    rwa [add_at] at this
set_option maxHeartbeats 4000000 in
set_option maxRecDepth 100000 in
theorem rcol_young (w : World) (base g gp gl cp cl : Nat) (s : St) (c : Int) (h : RHeld w base g gp gl cp cl s) (hh : s.has c) (l : Int × Int) (ls : List (Int × Int)) (hl : s.wait c = l :: ls) (hlo : 0 ≤ l.2) (hhi : l.2 ≤ 1073741824) (hy : s.now < l.2 + 2) :
    Calls Try.prog 22 #[.pointer (some ⟨g, 0, none⟩), .int .i64 c] w fun e w' => e = .returned (.tuple #[.int .i64 0, .bool false]) ∧ RHeld w' base g gp gl cp cl s ∧ TF2 base w w' := by
  obtain ⟨hll, r0, r1, r2, r3, hcell⟩ := h.at_
  have h0 := hh.1
  have h1 := hh.2
  obtain ⟨-, -, A, cp2, hq, hO⟩ := hcell c.toNat (by omega)
  obtain ⟨n2, hn2⟩ : ∃ n2, ls.length + 1 = n2 := ⟨_, rfl⟩
  rw [show s.lim[c.toNat]?.getD [] = s.wait c from rfl, hl, show (l :: ls).length = n2 from hn2] at hq hO
  obtain ⟨gb, ob, rfl, hle, hmx, hcl⟩ := qrow_form hO (by omega)
  have f0 : w.cell? ⟨gb, ob, none⟩ = some (.int .i64 l.1) := hcl 0 _ rfl
  have f1 : w.cell? ⟨gb, ob + 1, none⟩ = some (.int .i64 l.2) := hcl 1 _ rfl
  have d1 : ((n2 : Int) == 0) = false := beq_eq_false_iff_ne.mpr (by omega)
  have d3 : (0 : Int) < (n2 : Int) := by omega
  have dw : IntKind.i64.wrap (l.2 + 2) = l.2 + 2 := by rw [IntKind.wrap_i64]; omega
  have d2 : decide (s.now < l.2 + 2) = true := decide_eq_true hy
  clear hO hcell hcl hn2 hy
  go_enter Try.func22, Try.ntmps22
  go_wp2
  go_quiet ((go_at_call 23; with_reducible exact client_q _ _ _ _ _ _ _ s c _ h true (decide_eq_true hh)))
  go_wp2
  go_ret2
  exact h.out rfl (by repeat (first | exact Drawn0.refl _ | apply Drawn0.step))
set_option maxHeartbeats 4000000 in
set_option maxRecDepth 100000 in
theorem rcol_old (w : World) (base g gp gl cp cl : Nat) (s : St) (c : Int) (h : RHeld w base g gp gl cp cl s) (hh : s.has c) (l : Int × Int) (ls : List (Int × Int)) (hl : s.wait c = l :: ls) (hlo : 0 ≤ l.2) (hhi : l.2 ≤ 1073741824) (hy : ¬ s.now < l.2 + 2) :
    Calls Try.prog 22 #[.pointer (some ⟨g, 0, none⟩), .int .i64 c] w fun e w' => e = .returned (.tuple #[.int .i64 l.1, .bool true]) ∧ RHeld w' base g gp gl cp cl { s with lim := s.lim.set c.toNat ls } ∧ TF2 base w w' := by
  obtain ⟨hll, r0, r1, r2, r3, hcell⟩ := h.at_
  have h0 := hh.1
  have h1 := hh.2
  obtain ⟨-, -, A, cp2, hq, hO⟩ := hcell c.toNat (by omega)
  obtain ⟨n2, hn2⟩ : ∃ n2, ls.length + 1 = n2 := ⟨_, rfl⟩
  rw [show s.lim[c.toNat]?.getD [] = s.wait c from rfl, hl, show (l :: ls).length = n2 from hn2] at hq hO
  obtain ⟨gb, ob, rfl, hle, hmx, hcl⟩ := qrow_form hO (by omega)
  have f0 : w.cell? ⟨gb, ob, none⟩ = some (.int .i64 l.1) := hcl 0 _ rfl
  have f1 : w.cell? ⟨gb, ob + 1, none⟩ = some (.int .i64 l.2) := hcl 1 _ rfl
  have d1 : ((n2 : Int) == 0) = false := beq_eq_false_iff_ne.mpr (by omega)
  have d3 : (0 : Int) < (n2 : Int) := by omega
  have dw : IntKind.i64.wrap (l.2 + 2) = l.2 + 2 := by rw [IntKind.wrap_i64]; omega
  have d2 : decide (s.now < l.2 + 2) = false := decide_eq_false hy
  obtain ⟨i0, hi0, hz0, hz1, hz2⟩ := info_parts info65_
  have hct := cut_from (P := Try.prog) 47 65 .i64 Try.underlying47 hi0 2 hz1 (some ⟨gb, ob, none⟩) n2 cp2 1 (by decide) (by omega)
  rw [show (1 : Int).toNat = 1 from rfl] at hct
  have hd := q_drop (k := 1) hO (by omega)
  rw [show n2 - 1 = ls.length from by omega] at hct hd
  have hob : (Value.slice (if cp2 = 1 then some ⟨gb, ob, none⟩ else (some (⟨gb, ob, none⟩ : Addr)).map (·.add (1 * 2))) ls.length (cp2 - 1)).ownBlock = some gb := by
    split
    · rfl
    · simp [Value.ownBlock, Addr.add]
  obtain ⟨S, hS⟩ : ∃ S : Option Addr, (if cp2 = 1 then some (⟨gb, ob, none⟩ : Addr) else (some (⟨gb, ob, none⟩ : Addr)).map (·.add (1 * 2))) = S := ⟨_, rfl⟩
  rw [hS] at hct hd hob
  have hset := fun (m : Nat) => (h.drawn (w' := w.drewN m) ⟨⟨m, rfl⟩⟩).setLimbo c.toNat (by omega) _ (show (w.drewN m).cell? _ = _ from hq) (w3 := w.drewN m) (.slice S ls.length (cp2 - 1)) ls (q_move hd fun _ _ => rfl) (Below.refl _ _) (fun _ _ _ => rfl) (.inr (.inl hob))
  have HSET := Aside0.mk hset
  obtain ⟨e2, he2⟩ : ∃ e2, cp2 - 1 = e2 := ⟨_, rfl⟩
  rw [he2] at hct HSET
  clear hO hcell hcl hd hob hS he2 hset
  have hn3 : n2 = ls.length + 1 := hn2.symm
  have HN := Aside0.mk hn3
  clear hn2 hn3 hy
  go_enter Try.func22, Try.ntmps22
  go_wp2
  go_quiet ((go_at_call 23; with_reducible exact client_q _ _ _ _ _ _ _ s c _ h true (decide_eq_true hh)))
  go_wp2
  generalize hw1 : w.drewN _ = w1
  obtain ⟨HS1, HS2, hfz, hcz⟩ : RHeld (w1.setCell ⟨gl, c.toNat, none⟩ (.slice S ls.length e2)) base g gp gl cp cl { s with lim := s.lim.set c.toNat ls } ∧ TF2 base w1 (w1.setCell ⟨gl, c.toNat, none⟩ (.slice S ls.length e2)) ∧ w1.frozen? ⟨gl, c.toNat, none⟩ = false ∧ w1.cell? ⟨gl, c.toNat, none⟩ = some (.slice (some ⟨gb, ob, none⟩) n2 cp2) := by
    rw [← hw1]; exact HSET.out _
  replace r0 := dcell hw1 r0
  replace r3 := dcell hw1 r3
  replace f0 := dcell hw1 f0
  have HT : Aside0 (TF2 base w w1) := ⟨by rw [← hw1]; exact TF2.drawn ⟨⟨_, rfl⟩⟩⟩
  have HS := Aside0.mk (And.intro HS1 HS2)
  clear HS1 HS2 hq hw1 HSET f1
  go_region
  all_goals
    go_wp2
    go_ret2
    first
      | exact ⟨rfl, HS.out.1, ⟨HT.out.below.trans HS.out.2.below, fun k o ho hn => HS.out.2.others k o (HT.out.others k o ho hn) hn⟩⟩
      | exact ⟨rfl, HS.out.1.drawn (by repeat (first | exact Drawn0.refl _ | apply Drawn0.step)), ⟨(HT.out.below.trans HS.out.2.below).trans (by first | exact below_drew1 (Below.refl _ _) | exact pw_below_drewN (Below.refl _ _) _), fun k o ho hn => HS.out.2.others k o (HT.out.others k o ho hn) hn⟩⟩
theorem own_made {w : World} {base b n : Nat} {e : TypeId} {z : Value} (hb : base ≤ b) (hh : w.heap[b]? = some (.cells (madeCells #[z] n) e (0, 0))) (hn : n ≤ 1000) : w.ownsRow base e 1 (.slice (some ⟨b, 0, none⟩) n n) n (List.replicate n z) := by
  refine ⟨by simp, .inr ⟨b, n, _, rfl, hb, hh, Nat.le_refl _, by simp only [maxLen]; omega, by rw [size_madeCells]; omega, ?_⟩⟩
  rw [toList_madeCells_one, List.take_of_length_le (by simp)]
theorem rnew_held {W : World} {base g gp gl n : Nat} {room : Int} (hg : W.heap[g]? = some (.cells #[.int .i64 0, .int .i64 room, .slice (some ⟨gp, 0, none⟩) n n, .slice (some ⟨gl, 0, none⟩) n n] 46 (0, 0)))
    (hp : W.heap[gp]? = some (.cells (madeCells #[.int .i64 0] n) 3 (0, 0))) (hl : W.heap[gl]? = some (.cells (madeCells #[.slice none 0 0] n) 47 (0, 0))) (b1 : base ≤ g) (b2 : base ≤ gp) (b3 : base ≤ gl) (hn : n ≤ 1000) :
    RHeld W base g gp gl n n ⟨0, room, List.replicate 0 (-1) ++ List.replicate (n - 0) 0, List.replicate n []⟩ := by
  have e : List.replicate 0 (-1 : Int) ++ List.replicate (n - 0) 0 = List.replicate n 0 := by simp
  rw [e]
  refine ⟨List.replicate n (.slice none 0 0), ⟨b1, by simpa using hg, ?_, ?_, by simp, fun i v l hv hl => ?_, fun i j v u b hv hu hb => ?_⟩⟩
  · simp only [List.length_replicate, List.map_replicate]; exact own_made b2 hp hn
  · simp only [List.length_replicate]; exact own_made b3 hl hn
  · have e1 := List.eq_of_mem_replicate (List.mem_of_getElem? hv)
    have e2 := List.eq_of_mem_replicate (List.mem_of_getElem? hl)
    subst e1; subst e2
    exact q_of_own (own_nil _ _ _ _)
  · have e1 := List.eq_of_mem_replicate (List.mem_of_getElem? hv)
    subst e1; cases hb
theorem info47_ : (Try.prog.info? 47).map (fun i => (i.zero, i.size, i.bytes)) = some (some (.slice none 0 0), 1, 24) := by kernel_rfl
def RNewP (w : World) (n : Nat) (room : Int) (e : Ending) (w' : World) : Prop := ∃ g gp gl, e = .returned (.tuple #[.pointer (some ⟨g, 0, none⟩), .int .i64 0]) ∧ RHeld w' w.heap.size g gp gl n n ⟨0, room, List.replicate n (-1), List.replicate n []⟩ ∧ Below w.heap.size w w'
theorem RNewP.mk {w w' : World} {n : Nat} {room : Int} {e : Ending} (g gp gl : Nat) (he : e = .returned (.tuple #[.pointer (some ⟨g, 0, none⟩), .int .i64 0])) (h : RHeld w' w.heap.size g gp gl n n ⟨0, room, List.replicate n (-1), List.replicate n []⟩) (hb : Below w.heap.size w w') : RNewP w n room e w' := ⟨g, gp, gl, he, h, hb⟩
set_option maxHeartbeats 4000000 in
set_option maxRecDepth 100000 in
theorem rnew_ (w : World) (n : Nat) (room : Int) (h1 : 1 ≤ n) (h2 : n ≤ 8) (h3 : 4 ≤ room) (h4 : room ≤ 64) :
    Calls Try.prog 17 #[.int .i64 (n : Int), .int .i64 room] w (RNewP w n room) := by
  have d1 : decide ((n : Int) < 1) = false := decide_eq_false (by omega)
  have d2 : decide (8 < (n : Int)) = false := decide_eq_false (by omega)
  have d3 : decide (room < 4) = false := decide_eq_false (by omega)
  have d4 : decide (64 < room) = false := decide_eq_false (by omega)
  have hmk1 := run_make_row' (P := Try.prog) 35 3 (.int .i64 0) 8 Try.underlying35 info3_ rfl .i64 .i64 n (by omega) (by omega)
  have hmk2 := run_make_row' (P := Try.prog) 44 47 (.slice none 0 0) 24 Try.underlying44 info47_ rfl .i64 .i64 n (by omega) (by omega)
  go_enter Try.func17, Try.ntmps17
  go_wp2
  go_region
  · go_wp2
    have e2 : ((w.alloc (.cells (madeCells #[.int .i64 0] n) 3)).alloc (.cells (madeCells #[.slice none 0 0] n) 47)).heap.size = w.heap.size + 1 + 1 := by simp
    have hA : (((w.alloc (.cells (madeCells #[.int .i64 0] n) 3)).alloc (.cells (madeCells #[.slice none 0 0] n) 47)).alloc (.cells #[.int .i64 0, .int .i64 room, .slice (some ⟨w.heap.size, 0, none⟩) n n, .slice (some ⟨w.heap.size + 1, 0, none⟩) n n] 46)).heap[w.heap.size]? = some (.cells (madeCells #[.int .i64 0] n) 3) := (heap_alloc_old _ _ (by simp; omega)).trans ((heap_alloc_old _ _ (by simp)).trans (heap_alloc_new w _))
    have hC : (((w.alloc (.cells (madeCells #[.int .i64 0] n) 3)).alloc (.cells (madeCells #[.slice none 0 0] n) 47)).alloc (.cells #[.int .i64 0, .int .i64 room, .slice (some ⟨w.heap.size, 0, none⟩) n n, .slice (some ⟨w.heap.size + 1, 0, none⟩) n n] 46)).heap[w.heap.size + 1]? = some (.cells (madeCells #[.slice none 0 0] n) 47) := (heap_alloc_old _ _ (by simp)).trans (by have := heap_alloc_new (w.alloc (.cells (madeCells #[.int .i64 0] n) 3)) (.cells (madeCells #[.slice none 0 0] n) 47); simpa using this)
    have hD : (((w.alloc (.cells (madeCells #[.int .i64 0] n) 3)).alloc (.cells (madeCells #[.slice none 0 0] n) 47)).alloc (.cells #[.int .i64 0, .int .i64 room, .slice (some ⟨w.heap.size, 0, none⟩) n n, .slice (some ⟨w.heap.size + 1, 0, none⟩) n n] 46)).heap[w.heap.size + 1 + 1]? = some (.cells #[.int .i64 0, .int .i64 room, .slice (some ⟨w.heap.size, 0, none⟩) n n, .slice (some ⟨w.heap.size + 1, 0, none⟩) n n] 46) := by
      have := heap_alloc_new ((w.alloc (.cells (madeCells #[.int .i64 0] n) 3)).alloc (.cells (madeCells #[.slice none 0 0] n) 47)) (.cells #[.int .i64 0, .int .i64 room, .slice (some ⟨w.heap.size, 0, none⟩) n n, .slice (some ⟨w.heap.size + 1, 0, none⟩) n n] 46)
      rw [e2] at this; exact this
    have HR : Aside0 (RHeld ((((w.alloc (.cells (madeCells #[.int .i64 0] n) 3)).alloc (.cells (madeCells #[.slice none 0 0] n) 47)).alloc (.cells #[.int .i64 0, .int .i64 room, .slice (some ⟨w.heap.size, 0, none⟩) n n, .slice (some ⟨w.heap.size + 1, 0, none⟩) n n] 46)).drew) w.heap.size (w.heap.size + 1 + 1) w.heap.size (w.heap.size + 1) n n ⟨0, room, List.replicate 0 (-1) ++ List.replicate (n - 0) 0, List.replicate n []⟩) := ⟨RHeld.drawn (rnew_held hD hA hC (by omega) (by omega) (by omega) (by omega)) ⟨⟨1, rfl⟩⟩⟩
    have HB : Aside0 (Below w.heap.size w ((((w.alloc (.cells (madeCells #[.int .i64 0] n) 3)).alloc (.cells (madeCells #[.slice none 0 0] n) 47)).alloc (.cells #[.int .i64 0, .int .i64 room, .slice (some ⟨w.heap.size, 0, none⟩) n n, .slice (some ⟨w.heap.size + 1, 0, none⟩) n n] 46)).drew)) := ⟨below_drew1 (((((Below.refl _ _).alloc (Nat.le_refl _) _).alloc (by simp) _).alloc (by simp; omega) _))⟩
    clear e2 hA hC hD hmk1 hmk2
    generalize hW : (((w.alloc (.cells (madeCells #[.int .i64 0] n) 3)).alloc (.cells (madeCells #[.slice none 0 0] n) 47)).alloc (.cells #[.int .i64 0, .int .i64 room, .slice (some ⟨w.heap.size, 0, none⟩) n n, .slice (some ⟨w.heap.size + 1, 0, none⟩) n n] 46)).drew = W0 at *
    clear hW
    go_loopg [34] n (fun kq v34 w' => ∃ (j : Nat), v34 = .int .i64 (j : Int) ∧ Aside0 (j + kq = n) ∧ Aside0 (RHeld w' w.heap.size (w.heap.size + 1 + 1) w.heap.size (w.heap.size + 1) n n ⟨0, room, List.replicate j (-1) ++ List.replicate (n - j) 0, List.replicate n []⟩) ∧ Aside0 (Below w.heap.size w w'))
    case atStart => exact ⟨0, rfl, ⟨by omega⟩, HR, HB⟩
    case round =>
      clear HR HB
      obtain ⟨j, rfl, HK, HR, HB⟩ := hrel
      obtain ⟨hll, r0, r1, r2, r3, hcell⟩ := HR.out.at_
      have hlen : (List.replicate j (-1 : Int) ++ List.replicate (n - j) 0).length = n := by have := HK.out; simp; omega
      simp only [hlen] at r2 r3 hcell
      by_cases hjn : j < n
      · have p3 : decide (j < n) = true := decide_eq_true hjn
        obtain ⟨hc, hf, -⟩ := hcell j hjn
        have hj0 : (0 : Int) ≤ (j : Int) := by omega
        have hj1 : (j : Int) < (n : Int) := by omega
        clear hcell hll
        have HS := Aside0.mk (HR.out.setPin j (-1))
        go_wp2
        go_roundg (gk - 1)
        case measure => have := HK.out; omega
        case rel =>
          refine ⟨j + 1, by go_num, ⟨by have := HK.out; omega⟩, ⟨?_⟩, ⟨HB.out.trans HS.out.2.below⟩⟩
          have := HS.out.1
          obtain ⟨q, hq⟩ : ∃ q, n - j = q + 1 := ⟨n - j - 1, by omega⟩
          rw [show n - (j + 1) = q from by omega, List.replicate_succ' (n := j), List.append_assoc, List.singleton_append]
          simp only [hq, List.set_append_right _ _ (show (List.replicate j (-1 : Int)).length ≤ j by simp), List.length_replicate, Nat.sub_self, List.replicate_succ (n := q), List.set_cons_zero] at this
          exact this
      · have p3 : decide (j < n) = false := decide_eq_false hjn
        obtain rfl : n = j := by have := HK.out; omega
        rw [Nat.sub_self, List.replicate_zero, List.append_nil] at HR
        go_wp2
        go_ret2
        exact RNewP.mk _ _ _ rfl HR.out HB.out
  · go_wp2
    have e2 : ((w.alloc (.cells (madeCells #[.slice none 0 0] n) 47)).alloc (.cells (madeCells #[.int .i64 0] n) 3)).heap.size = w.heap.size + 1 + 1 := by simp
    have hA : (((w.alloc (.cells (madeCells #[.slice none 0 0] n) 47)).alloc (.cells (madeCells #[.int .i64 0] n) 3)).alloc (.cells #[.int .i64 0, .int .i64 room, .slice (some ⟨w.heap.size + 1, 0, none⟩) n n, .slice (some ⟨w.heap.size, 0, none⟩) n n] 46)).heap[w.heap.size]? = some (.cells (madeCells #[.slice none 0 0] n) 47) := (heap_alloc_old _ _ (by simp; omega)).trans ((heap_alloc_old _ _ (by simp)).trans (heap_alloc_new w _))
    have hC : (((w.alloc (.cells (madeCells #[.slice none 0 0] n) 47)).alloc (.cells (madeCells #[.int .i64 0] n) 3)).alloc (.cells #[.int .i64 0, .int .i64 room, .slice (some ⟨w.heap.size + 1, 0, none⟩) n n, .slice (some ⟨w.heap.size, 0, none⟩) n n] 46)).heap[w.heap.size + 1]? = some (.cells (madeCells #[.int .i64 0] n) 3) := (heap_alloc_old _ _ (by simp)).trans (by have := heap_alloc_new (w.alloc (.cells (madeCells #[.slice none 0 0] n) 47)) (.cells (madeCells #[.int .i64 0] n) 3); simpa using this)
    have hD : (((w.alloc (.cells (madeCells #[.slice none 0 0] n) 47)).alloc (.cells (madeCells #[.int .i64 0] n) 3)).alloc (.cells #[.int .i64 0, .int .i64 room, .slice (some ⟨w.heap.size + 1, 0, none⟩) n n, .slice (some ⟨w.heap.size, 0, none⟩) n n] 46)).heap[w.heap.size + 1 + 1]? = some (.cells #[.int .i64 0, .int .i64 room, .slice (some ⟨w.heap.size + 1, 0, none⟩) n n, .slice (some ⟨w.heap.size, 0, none⟩) n n] 46) := by
      have := heap_alloc_new ((w.alloc (.cells (madeCells #[.slice none 0 0] n) 47)).alloc (.cells (madeCells #[.int .i64 0] n) 3)) (.cells #[.int .i64 0, .int .i64 room, .slice (some ⟨w.heap.size + 1, 0, none⟩) n n, .slice (some ⟨w.heap.size, 0, none⟩) n n] 46)
      rw [e2] at this; exact this
    have HR : Aside0 (RHeld ((((w.alloc (.cells (madeCells #[.slice none 0 0] n) 47)).alloc (.cells (madeCells #[.int .i64 0] n) 3)).alloc (.cells #[.int .i64 0, .int .i64 room, .slice (some ⟨w.heap.size + 1, 0, none⟩) n n, .slice (some ⟨w.heap.size, 0, none⟩) n n] 46)).drew) w.heap.size (w.heap.size + 1 + 1) (w.heap.size + 1) w.heap.size n n ⟨0, room, List.replicate 0 (-1) ++ List.replicate (n - 0) 0, List.replicate n []⟩) := ⟨RHeld.drawn (rnew_held hD hC hA (by omega) (by omega) (by omega) (by omega)) ⟨⟨1, rfl⟩⟩⟩
    have HB : Aside0 (Below w.heap.size w ((((w.alloc (.cells (madeCells #[.slice none 0 0] n) 47)).alloc (.cells (madeCells #[.int .i64 0] n) 3)).alloc (.cells #[.int .i64 0, .int .i64 room, .slice (some ⟨w.heap.size + 1, 0, none⟩) n n, .slice (some ⟨w.heap.size, 0, none⟩) n n] 46)).drew)) := ⟨below_drew1 (((((Below.refl _ _).alloc (Nat.le_refl _) _).alloc (by simp) _).alloc (by simp; omega) _))⟩
    clear e2 hA hC hD hmk1 hmk2
    generalize hW : (((w.alloc (.cells (madeCells #[.slice none 0 0] n) 47)).alloc (.cells (madeCells #[.int .i64 0] n) 3)).alloc (.cells #[.int .i64 0, .int .i64 room, .slice (some ⟨w.heap.size + 1, 0, none⟩) n n, .slice (some ⟨w.heap.size, 0, none⟩) n n] 46)).drew = W0 at *
    clear hW
    go_loopg [34] n (fun kq v34 w' => ∃ (j : Nat), v34 = .int .i64 (j : Int) ∧ Aside0 (j + kq = n) ∧ Aside0 (RHeld w' w.heap.size (w.heap.size + 1 + 1) (w.heap.size + 1) w.heap.size n n ⟨0, room, List.replicate j (-1) ++ List.replicate (n - j) 0, List.replicate n []⟩) ∧ Aside0 (Below w.heap.size w w'))
    case atStart => exact ⟨0, rfl, ⟨by omega⟩, HR, HB⟩
    case round =>
      clear HR HB
      obtain ⟨j, rfl, HK, HR, HB⟩ := hrel
      obtain ⟨hll, r0, r1, r2, r3, hcell⟩ := HR.out.at_
      have hlen : (List.replicate j (-1 : Int) ++ List.replicate (n - j) 0).length = n := by have := HK.out; simp; omega
      simp only [hlen] at r2 r3 hcell
      by_cases hjn : j < n
      · have p3 : decide (j < n) = true := decide_eq_true hjn
        obtain ⟨hc, hf, -⟩ := hcell j hjn
        have hj0 : (0 : Int) ≤ (j : Int) := by omega
        have hj1 : (j : Int) < (n : Int) := by omega
        clear hcell hll
        have HS := Aside0.mk (HR.out.setPin j (-1))
        go_wp2
        go_roundg (gk - 1)
        case measure => have := HK.out; omega
        case rel =>
          refine ⟨j + 1, by go_num, ⟨by have := HK.out; omega⟩, ⟨?_⟩, ⟨HB.out.trans HS.out.2.below⟩⟩
          have := HS.out.1
          obtain ⟨q, hq⟩ : ∃ q, n - j = q + 1 := ⟨n - j - 1, by omega⟩
          rw [show n - (j + 1) = q from by omega, List.replicate_succ' (n := j), List.append_assoc, List.singleton_append]
          simp only [hq, List.set_append_right _ _ (show (List.replicate j (-1 : Int)).length ≤ j by simp), List.length_replicate, Nat.sub_self, List.replicate_succ (n := q), List.set_cons_zero] at this
          exact this
      · have p3 : decide (j < n) = false := decide_eq_false hjn
        obtain rfl : n = j := by have := HK.out; omega
        rw [Nat.sub_self, List.replicate_zero, List.append_nil] at HR
        go_wp2
        go_ret2
        exact RNewP.mk _ _ _ rfl HR.out HB.out
section
open Go.Bx Go.Proofs.Ytfiokeahehkelaa.PEpochRuns
theorem word_Ref_f (k : Nat) (s g : Int) (l : Bool) : word_Ref.f (k + 1) s g l = some (refv s g l) := by
  unfold word_Ref.f refv
  by_cases h0 : s < 0
  · rw [if_pos h0, if_neg (by omega)]; rfl
  rw [if_neg h0]
  by_cases h1 : s ≥ 1024
  · rw [if_pos h1, if_neg (by omega)]; rfl
  rw [if_neg h1]
  by_cases h2 : g < 1
  · rw [if_pos h2, if_neg (by omega)]; rfl
  rw [if_neg h2]
  by_cases h3 : g > 1073741824
  · rw [if_neg (by omega), decide_eq_true h3]; rfl
  rw [if_pos (by omega), decide_eq_false h3]
  simp only [word_Ref.j0, Bool.false_eq_true, if_false]
  rw [ref_or s g (by omega) (by omega) (by omega) (by omega)]
  cases l
  · simp
  · simp only [if_true]; rw [ref_or_leaf s g (by omega) (by omega) (by omega) (by omega)]

theorem word_Parts_f (k : Nat) (r : Int) : word_Parts.f (k + 1) r = some (partsv r) := by
  unfold word_Parts.f
  by_cases h0 : r = 0
  · subst h0; rw [if_pos rfl]; rfl
  rw [if_neg h0, slot_bits, gen_bits, word_Ref_f]
  simp only [Option.bind_some]
  by_cases h : isRef r
  · have hb := refv_back r h
    rw [leaf_tells r (by have := h.1; omega) h.2.1, if_pos hb]
    unfold partsv; rw [if_pos h]
  · rw [if_neg (refv_no r _ h h0)]
    unfold partsv; rw [if_neg h]

end
section
open Go.Bx Go.Proofs.Ytfiokeahehkelaa.PEpochPlays
theorem tendrilref1_Ref_f (k : Nat) (s g : Int) (l : Bool) : tendrilref1_Ref.f (k + 1) s g l = some (refv s g l) := by
  unfold tendrilref1_Ref.f refv
  by_cases h0 : s < 0
  · rw [if_pos h0, if_neg (by omega)]; rfl
  rw [if_neg h0]
  by_cases h1 : s ≥ 1024
  · rw [if_pos h1, if_neg (by omega)]; rfl
  rw [if_neg h1]
  by_cases h2 : g < 1
  · rw [if_pos h2, if_neg (by omega)]; rfl
  rw [if_neg h2]
  by_cases h3 : g > 1073741824
  · rw [if_neg (by omega), decide_eq_true h3]; rfl
  rw [if_pos (by omega), decide_eq_false h3]
  simp only [tendrilref1_Ref.j0, Bool.false_eq_true, if_false]
  rw [ref_or s g (by omega) (by omega) (by omega) (by omega)]
  cases l
  · simp
  · simp only [if_true]; rw [ref_or_leaf s g (by omega) (by omega) (by omega) (by omega)]

theorem refParts_f (k : Nat) (r : Int) : tendrilref1_Parts.f (k + 2) r = some (partsv r) := by
  unfold tendrilref1_Parts.f
  by_cases h0 : r ≤ 0
  · rw [if_pos h0]
    simp only [tendrilref1_Parts.j0, if_true]
    unfold partsv; rw [if_neg (fun h => by have := h.1; omega)]
  rw [if_neg h0]
  by_cases h1 : r ≥ 562949953421312
  · rw [decide_eq_true h1]
    simp only [tendrilref1_Parts.j0, if_true]
    unfold partsv; rw [if_neg (fun h => by have := h.2.1; omega)]
  rw [decide_eq_false h1]
  simp only [tendrilref1_Parts.j0, Bool.false_eq_true, if_false]
  rw [slot_bits, gen_bits, tendrilref1_Ref_f, leaf_tells' r (by omega) (by omega)]
  simp only [Option.bind_some]
  by_cases h : isRef r
  · rw [if_pos (refv_back r h)]
    unfold partsv; rw [if_pos h]
  · rw [if_neg (refv_no r _ h (by omega))]
    unfold partsv; rw [if_neg h]

end
end Go.Proofs.Ytfiokeahehkelaa.Ep
