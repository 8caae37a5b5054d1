/- The laws of chapter 22: the example, and who is told by just which tick. Each theorem bears its own conditions. -/
import Derived.Test.YthlohppeaellpaaTk
import Derived.Test.YthlohppeaellpaaLw
/-! The laws of chapter 22: the example, and who is told by just which tick. -/
set_option linter.unusedVariables false
set_option linter.unusedSimpArgs false
namespace Go.Proofs.Ythlohppeaellpaa.Bk
open Go.RowKit Go.Proofs.YthlohppeaellpaaW.PrintWords Go.Proofs.Ythlohppeaellpaa.Kb Go.Proofs.Ythlohppeaellpaa.Mp
theorem _root_.Go.Proofs.Ythlohppeaellpaa.Kb.Only.grown {w w' : World} {m : Nat} (h : Only w w' (· = m)) : w.grownBy w' (some m) := ⟨h.os, h.tape, h.output, h.size, fun k hk hn => h.block k hk (fun e => hn (by rw [e]))⟩
theorem own_only {w w' : World} {m base : Nat} {e : TypeId} {size n : Nat} {v : Value} {xs : List Value} (h : w.ownsRow base e size v n xs) (hk : Only w w' (· = m)) (hm : m < base) : w'.ownsRow base e size v n xs := h.kept hk.grown (own_ne h hm)
theorem _root_.Go.RowKit.Below.only {w W W2 : World} {S : Nat → Prop} (h : Below w.heap.size w W) (hk : Only W W2 S) (hm : ∀ k, S k → w.heap.size ≤ k) : Below w.heap.size w W2 := below_only h (Nat.le_refl _) hk hm
theorem _root_.Go.RowKit.Below.turn {w W W2 : World} {m : Nat} (h : Below w.heap.size w W) (hk : Only W W2 (· = m)) (hm : w.heap.size ≤ m) : Below w.heap.size w W2 := h.only hk (fun k hk => by subst hk; exact hm)
/-- A tick, whose answer and whose book behind it are known. -/
theorem tick_to {w : World} {g m : Nat} {t : Int} {L : List (Int × Int)} (out : List Int) (L' : List (Int × Int)) (ho : tickOut L = out) (hl : tickL L = L') (h : BookAt w g m t L) (hv : ∀ p ∈ L, 1 ≤ p.2 ∧ p.2 ≤ 65535) (hn : L.length ≤ 1000000) :
    Calls Try.prog 39 #[.pointer (some ⟨g, 0, none⟩)] w fun e w' => (∃ A c, e = .returned (.slice A out.length c) ∧ w'.ownsRow w.heap.size 3 1 (.slice A out.length c) out.length (nums .i64 out)) ∧ BookAt w' g m t L' ∧ Only w w' (· = m) := by
  subst ho
  subst hl
  refine (tick_any w g m t L h hv hn).mono ?_
  rintro e w' ⟨⟨v, rfl, hv⟩, hB, hk⟩
  obtain ⟨A, c, rfl, _⟩ := own_reads hv
  exact ⟨⟨A, c, rfl, hv⟩, hB, hk⟩
theorem one_at {w : World} {base : Nat} {e : TypeId} {A : Option Addr} {c : Nat} {x : Int} (h : w.ownsRow base e 1 (.slice A [x].length c) [x].length (nums .i64 [x])) : ∃ ad, A = some ad ∧ w.cell? ad = some (.int .i64 x) := by
  obtain ⟨ad, e1, hx⟩ := (own_reads' h).at_ 0 (by decide) (by simp)
  refine ⟨ad, e1, ?_⟩
  have e2 : ad.add (Int.toNat 0) = ad := by show ad.add 0 = ad; obtain ⟨b, o, f⟩ := ad; unfold Addr.add; split <;> simp_all
  rw [e2] at hx
  exact hx
set_option maxHeartbeats 1000000 in
set_option maxRecDepth 100000 in
theorem awake_any (w : World) : Calls Try.prog 36 #[] w fun e w' => e = .returned (.bool true) ∧ Below w.heap.size w w' := by
  go_enter Try.func36, Try.ntmps36
  go_wp2_with (first
    | (go_at_call 37; refine (new_any 2 _).mono ?_; rintro e w1 ⟨rfl, hB1, hb1⟩)
    | (go_at_call 42; refine (hear_any _ _ _ _ _ 7 hB1 (by decide) (by simp [maxLen])).mono ?_; rintro e w2 ⟨rfl, hB2, hk2⟩)
    | (go_at_call 39; refine (tick_to [] [(7, 1)] (by decide) (by decide) hB2 (by decide) (by decide)).mono ?_; rintro e w3 ⟨⟨A3, c3, rfl, hv3⟩, hB3, hk3⟩)
    | (go_at_call 39; refine (tick_to [7] [] (by decide) (by decide) hB3 (by decide) (by decide)).mono ?_; rintro e w4 ⟨⟨A4, c4, rfl, hv4⟩, hB4, hk4⟩)
    | (go_at_call 39; refine (tick_to [] [] (by decide) (by decide) hB4 (by decide) (by decide)).mono ?_; rintro e w5 ⟨⟨A5, c5, rfl, hv5⟩, hB5, hk5⟩; obtain ⟨ad, rfl, hx⟩ := one_at (own_only hv4 hk5 (hB3.map.lt))))
  go_ret
  exact ⟨rfl, (((hb1.only hk2 (by omega)).only hk3 (by omega)).only hk4 (by omega)).only hk5 (by omega)⟩
end Go.Proofs.Ythlohppeaellpaa.Bk
