/- A region that draws its order, walked along a plan: operations that only read, in every world of a class C, wherever they come up; the others one behind the other. Each theorem bears its own conditions. -/
import Derived.OrdersHeld
import Derived.Tactics
/-! A region that draws its order, walked along a plan: operations that only read, in every world of a class C, wherever they come up; the others one behind the other. -/
namespace Go.Proofs.Ythlohppeaellpaa.Mix
section
variable {P : Program} {ops : Array Oper} {md : Region.Mode} {Q : Exit → Act → World → Prop} {C : World → Prop}
/-- q i: number i only reads; e i: number i alone may come up; both: either of two may. -/
inductive Plan where
  | done
  | q (i : Nat) (p : Plan)
  | e (i : Nat) (p : Plan)
  | both (i : Nat) (p : Plan) (j : Nat) (r : Plan)
def Plan.len : Plan → Nat
  | .done => 0
  | .q _ p => p.len + 1
  | .e _ p => p.len + 1
  | .both _ p _ _ => p.len + 1
def Plan.ok (md : Region.Mode) (ops : Array Oper) : Plan → Array Bool → Bool
  | .done, l => (Region.ready md ops l).isEmpty
  | .q i p, l => (Region.ready md ops l).contains i && Region.free md ops l i && p.ok md ops (l.setIfInBounds i true)
  | .e i p, l => (Region.ready md ops l == [i]) && p.ok md ops (l.setIfInBounds i true)
  | .both i p j r, l => (Region.ready md ops l == [i, j]) && (p.len == r.len) && p.ok md ops (l.setIfInBounds i true) && r.ok md ops (l.setIfInBounds j true)
/-- Number i, which only reads: one value in every world of the class. -/
def qStep (P : Program) (ops : Array Oper) (C : World → Prop) (o : Oper) (K : Act → Prop) (a : Act) : Prop :=
  if Region.wanted o (yielded ops a.tmps) then ∃ v, (∀ W, C W → (execOp a.eval o).run P W = .ok (.value v) W) ∧ K (a.put o.dst v) else K (a.put o.dst undef)
def wpPlan (P : Program) (ops : Array Oper) (Q : Exit → Act → World → Prop) (C : World → Prop) : Plan → Act → World → Prop
  | .done, a, w => Q .normal a w
  | .q i p, a, w => match ops[i]? with
    | some o => qStep P ops C o (fun a' => wpPlan P ops Q C p a' w) a
    | none => False
  | .e i p, a, w => wpOp P ops Q i (fun a' w' => C w' ∧ wpPlan P ops Q C p a' w') a w
  | .both i p j r, a, w => wpOp P ops Q i (fun a' w' => C w' ∧ wpPlan P ops Q C p a' w') a w ∧ wpOp P ops Q j (fun a' w' => C w' ∧ wpPlan P ops Q C r a' w') a w
theorem wpPlan_sound (hs : Region.noSelect ops = true) (hQ : ∀ c d v a w, Q (.panic c) (Act.put a d v) w → Q (.panic c) a w) :
    ∀ (p : Plan) (l : Array Bool) (a : Act) (w : World), p.ok md ops l = true → C w → wpPlan P ops Q C p a w → wpAnyH P md ops Q C p.len l a w
  | .done, l, a, w, hB, _, h => ⟨by simpa [Plan.ok] using hB, h⟩
  | .q i p, l, a, w, hB, hC, h => by
    simp only [Plan.ok, Bool.and_eq_true] at hB
    obtain ⟨⟨hr, hf⟩, hB'⟩ := hB
    simp only [wpPlan] at h
    cases ho : ops[i]? with
    | none => rw [ho] at h; exact h.elim
    | some o =>
      rw [ho] at h
      simp only [qStep] at h
      by_cases hw : Region.wanted o (yielded ops a.tmps) = true
      · simp only [hw, if_true] at h
        obtain ⟨v, h1, h2⟩ := h
        exact wpAnyH_take ho hs hf hr (fun c a w => hQ c _ v a w) (.inl ⟨hw, h1⟩) hC (wpPlan_sound hs hQ p _ _ w hB' hC h2)
      · simp only [hw] at h
        exact wpAnyH_take ho hs hf hr (fun c a w => hQ c _ undef a w) (.inr ⟨by simpa using hw, rfl⟩) hC (wpPlan_sound hs hQ p _ _ w hB' hC h)
  | .e i p, l, a, w, hB, hC, h => by
    simp only [Plan.ok, Bool.and_eq_true, beq_iff_eq] at hB
    obtain ⟨hr, hB'⟩ := hB
    refine wpAnyH_all hr (by simp) (fun j hj => ?_)
    obtain rfl : j = i := by simpa using hj
    exact wpOp_mono (fun a' w' h' => ⟨h'.1, wpPlan_sound hs hQ p _ a' w' hB' h'.1 h'.2⟩) h
  | .both i p j r, l, a, w, hB, hC, h => by
    simp only [Plan.ok, Bool.and_eq_true, beq_iff_eq] at hB
    obtain ⟨⟨⟨hr, hl⟩, hB1⟩, hB2⟩ := hB
    refine wpAnyH_all hr (by simp) (fun k hk => ?_)
    have hk' : k = i ∨ k = j := by simpa using hk
    rcases hk' with rfl | rfl
    · exact wpOp_mono (fun a' w' h' => ⟨h'.1, wpPlan_sound hs hQ p _ a' w' hB1 h'.1 h'.2⟩) h.1
    · refine wpOp_mono (fun a' w' h' => ⟨h'.1, ?_⟩) h.2
      rw [hl]
      exact wpPlan_sound hs hQ r _ a' w' hB2 h'.1 h'.2
/-- THE BEGINNING: the plan p for a region that draws, all worlds on the way in C. -/
theorem wp_plan (C : World → Prop) (p : Plan) {id : Nat} {a : Act} {w : World} (hm : P.follows .mixedOrders = true)
    (hB : (Region.noSelect ops && (p.len == ops.size) && p.ok .any ops (Array.replicate ops.size false)) = true) (hQ : ∀ c d v a w, Q (.panic c) (Act.put a d v) w → Q (.panic c) a w)
    (hC : C w.drew) (h : wpPlan P ops Q C p a w.drew) : (Code.region id ops true).wp P Q a w := by
  simp only [Bool.and_eq_true, beq_iff_eq] at hB
  obtain ⟨⟨h1, h2⟩, h3⟩ := hB
  refine wp_region_held (S := C) hm ?_
  rw [← h2]
  exact wpPlan_sound h1 hQ p _ a w.drew (by rw [← h2] at h3; exact h3) hC h
/-- One that only reads; what follows stands behind a variable. -/
theorem plan_q {i : Nat} {p : Plan} {a : Act} {w : World} {o : Oper} (ho : ops[i]? = some o) (h : ∀ K : Act → Prop, (∀ a, wpPlan P ops Q C p a w → K a) → qStep P ops C o K a) : wpPlan P ops Q C (.q i p) a w := by
  simp only [wpPlan, ho]
  exact h _ (fun _ h => h)
theorem q_want {o : Oper} {K : Act → Prop} {a : Act} (hw : Region.wanted o (yielded ops a.tmps) = true) (h : ∃ v, (∀ W, C W → (execOp a.eval o).run P W = .ok (.value v) W) ∧ K (a.put o.dst v)) : qStep P ops C o K a := by
  unfold qStep
  rw [if_pos hw]
  exact h
theorem q_skip {o : Oper} {K : Act → Prop} {a : Act} (hw : Region.wanted o (yielded ops a.tmps) = false) (hk : K (a.put o.dst undef)) : qStep P ops C o K a := by
  unfold qStep
  rw [if_neg (by rw [hw]; simp)]
  exact hk
theorem upon_then {o : Oper} {a : Act} {w : World} {K K' : Act → World → Prop} (h : o.wp P a w K (Exit.then K' Q)) : o.wp P a w K Q := by
  unfold Oper.wp at *
  generalize (execOp a.eval o).run P w = r at *
  cases r with
  | ok n w' =>
    cases n <;> simp only [Oper.upon] at h ⊢ <;>
      first
        | exact h
        | exact Calls.mono h (fun e w'' he => by cases e <;> exact he)
  | halt x w' => cases x <;> simp only [Oper.upon] at h ⊢ <;> exact h
/-- One that does more: as the one operation of a list. -/
theorem plan_e {i : Nat} {p : Plan} {a : Act} {w : World} {o : Oper} (ho : ops[i]? = some o) (h : ∀ K : Act → World → Prop, (∀ a w, C w → wpPlan P ops Q C p a w → K a w) → wpList P ops (Exit.then K Q) [o] a w) : wpPlan P ops Q C (.e i p) a w := by
  simp only [wpPlan]
  unfold wpOp
  simp only [ho]
  have h := h (fun a' w' => C w' ∧ wpPlan P ops Q C p a' w') (fun _ _ h1 h2 => ⟨h1, h2⟩)
  unfold wpList at h
  split
  · rename_i hw
    rw [if_pos hw] at h
    exact h.imp upon_then (fun ⟨h1, h2⟩ => ⟨h1, h2⟩)
  · rename_i hw
    rw [if_neg hw] at h
    exact h
theorem plan_done {a : Act} {w : World} (h : Q .normal a w) : wpPlan P ops Q C .done a w := h
theorem plan_both {i j : Nat} {p r : Plan} {a : Act} {w : World} (h1 : wpPlan P ops Q C (.e i p) a w) (h2 : wpPlan P ops Q C (.e j r) a w) : wpPlan P ops Q C (.both i p j r) a w := ⟨h1, h2⟩
end
end Go.Proofs.Ythlohppeaellpaa.Mix
