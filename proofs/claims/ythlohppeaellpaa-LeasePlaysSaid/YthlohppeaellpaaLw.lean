/- Small helpers of the laws. Each theorem bears its own conditions. -/
import Derived.Test.YthlohppeaellpaaKb
/-! Small helpers of the laws. -/
set_option linter.unusedVariables false
set_option linter.unusedSimpArgs false
namespace Go.Proofs.Ythlohppeaellpaa.Kb
open Go.RowKit Go.Proofs.YthlohppeaellpaaW.PrintWords
theorem within_any (k n : Int) (w : World) (hk : (Lit.int .i64 k).wf = true) (h0 : 0 < n) (h1 : n ≤ 1000000000000) :
    Calls Try.prog 21 #[.int .i64 k, .int .i64 n] w fun e w' => e = .returned (.int .i64 (k % n)) ∧ w' = w := by
  have h2 : n ≠ 0 := by omega
  have hm := Int.tmod_lt_of_pos k h0
  have hm' : -n < Int.tmod k n := by have := Int.tmod_lt_of_pos (-k) h0; rw [Int.neg_tmod] at this; omega
  have he : Int.tmod k n < 0 → k % n = Int.tmod k n + n := fun hlt => by
    rw [Int.tmod_eq_emod] at hlt ⊢
    split at hlt
    · have := Int.emod_nonneg k h2; omega
    · rename_i hc
      rw [if_neg hc]
      omega
  have he2 : ¬ Int.tmod k n < 0 → k % n = Int.tmod k n := fun hlt => by
    rw [Int.tmod_eq_emod] at hlt ⊢
    split at hlt
    · rename_i hc
      rw [if_pos hc]
      omega
    · have := Int.emod_lt_of_pos k h0
      omega
  have hw1 : IntKind.i64.wrap (Int.tmod k n) = Int.tmod k n := IntWalk.i64_in _ (by omega)
  have hw2 : Int.tmod k n < 0 → IntKind.i64.wrap (Int.tmod k n + n) = Int.tmod k n + n := fun h => IntWalk.i64_in _ (by omega)
  have He := Aside0.mk he
  have He2 := Aside0.mk he2
  clear he he2
  generalize hq : Int.tmod k n = q at *
  by_cases hq0 : q < 0
  · have hd : decide (q < 0) = true := decide_eq_true hq0
    have hw3 := hw2 hq0
    have HE := Aside0.mk (He.out hq0)
    clear hw2
    go_enter Try.func21, Try.ntmps21
    go_wp2
    go_ret
    exact ⟨by rw [HE.out]; rfl, rfl⟩
  · have hd : decide (q < 0) = false := decide_eq_false hq0
    have HE := Aside0.mk (He2.out hq0)
    clear hw2
    go_enter Try.func21, Try.ntmps21
    go_wp2
    go_ret
    exact ⟨by rw [HE.out]; rfl, rfl⟩
theorem wf_i64 {k : Int} (h : (Lit.int .i64 k).wf = true) : -9223372036854775808 ≤ k ∧ k ≤ 9223372036854775807 := by
  have h1 : IntKind.i64.min = -9223372036854775808 := by decide
  have h2 : IntKind.i64.max = 9223372036854775807 := by decide
  simp only [Lit.wf, Bool.and_eq_true, decide_eq_true_eq] at h
  omega
theorem wf_of_i64 {k : Int} (h : -9223372036854775808 ≤ k ∧ k ≤ 9223372036854775807) : (Lit.int .i64 k).wf = true := by
  have h1 : IntKind.i64.min = -9223372036854775808 := by decide
  have h2 : IntKind.i64.max = 9223372036854775807 := by decide
  simp only [Lit.wf, Bool.and_eq_true, decide_eq_true_eq]
  omega
theorem digit_any (k d n : Int) (w : World) (hk : (Lit.int .i64 k).wf = true) (hd : 0 < d) (hd1 : d ≤ 1000000000000) (h0 : 0 < n) (h1 : n ≤ 1000000000000) :
    Calls Try.prog 19 #[.int .i64 k, .int .i64 d, .int .i64 n] w fun e w' => e = .returned (.int .i64 ((Int.tdiv k d) % n)) ∧ w' = w := by
  have hw := wf_i64 hk
  have hq : -9223372036854775808 ≤ Int.tdiv k d ∧ Int.tdiv k d ≤ 9223372036854775807 := by
    have h1 := Int.natAbs_tdiv_le_natAbs k d
    by_cases h2 : d = 1
    · subst h2
      rw [Int.tdiv_one]
      exact hw
    · have h3 : (Int.tdiv k d).natAbs = k.natAbs / d.natAbs := Int.natAbs_tdiv k d
      have h4 : k.natAbs / d.natAbs ≤ k.natAbs := Nat.div_le_self _ _
      have h5 : k.natAbs / d.natAbs ≤ k.natAbs / 2 := Nat.div_le_div_left (by omega) (by omega)
      omega
  have hq2 : IntKind.i64.wrap (Int.tdiv k d) = Int.tdiv k d := IntWalk.i64_in _ hq
  have hwf : (Lit.int .i64 (Int.tdiv k d)).wf = true := wf_of_i64 hq
  clear hw hq
  have h2 : d ≠ 0 := by omega
  generalize hqq : Int.tdiv k d = q at *
  go_enter Try.func19, Try.ntmps19
  go_wp2_with (go_at_call 21; refine (within_any q n _ hwf h0 h1).mono ?_; rintro e w1 ⟨rfl, rfl⟩)
  go_ret
  exact ⟨rfl, rfl⟩
theorem same_any (A B : Option Addr) (ca cb : Nat) (xs ys : List Int) (w : World) (hA : ReadsInt w .i64 A xs.length xs) (hB : ReadsInt w .i64 B ys.length ys) :
    Calls Try.prog 40 #[.slice A xs.length ca, .slice B ys.length cb] w fun e w' => e = .returned (.bool (decide (xs = ys))) ∧ ∃ n, w' = w.drewN n := by
  have HA := Aside0.mk hA
  have HB := Aside0.mk hB
  have hl1 := hA.2.1
  have hl2 := hB.2.1
  clear hA hB
  by_cases hl : xs.length = ys.length
  · have hne : (((xs.length : Nat) : Int) != ((ys.length : Nat) : Int)) = false := by simp [hl]
    go_enter Try.func40, Try.ntmps40
    go_wp2_with fail
    go_loopw [5] (fun v5 wr => ∃ k n : Nat, k ≤ xs.length ∧ v5 = .int .i64 k ∧ wr = w.drewN n ∧ Aside0 (xs.take k = ys.take k)) (fun v5 _ => xs.length - (intOf v5).toNat)
    case atStart => exact ⟨0, 0, Nat.zero_le _, rfl, rfl, ⟨rfl⟩⟩
    case round =>
      obtain ⟨k, n, hk, rfl, rfl, HF⟩ := hrel
      by_cases hlt : k < xs.length
      · obtain ⟨a, rfl, hxa⟩ := HA.out.at_ k (by omega) (by omega)
        obtain ⟨b, rfl, hxb⟩ := HB.out.at_ k (by omega) (by omega)
        have h1 : rd xs k = xs[k] := by simp [rd, List.getD, List.getElem?_eq_getElem hlt]
        have h2 : rd ys k = ys[k] := by simp [rd, List.getD, List.getElem?_eq_getElem (show k < ys.length by omega)]
        rw [h1, Int.toNat_natCast] at hxa
        rw [h2, Int.toNat_natCast] at hxb
        by_cases he : xs[k] = ys[k]
        · have hd : (xs[k] != ys[k]) = false := by simp [he]
          have hT := Aside0.mk (show xs.take (k + 1) = ys.take (k + 1) by rw [List.take_add_one, List.take_add_one, HF.out, List.getElem?_eq_getElem hlt, List.getElem?_eq_getElem (show k < ys.length by omega), he])
          clear he h1 h2
          generalize xs[k] = x at *
          generalize ys[k] = y at *
          go_wp2_with fail
          go_quiet (fail)
          go_wp2_with fail
          go_roundw
          case rel => exact ⟨k + 1, _, by omega, by go_num, rfl, hT⟩
          case measure => simp [intOf]; omega
        · have hd : (xs[k] != ys[k]) = true := by simp [he]
          have hq := Aside0.mk (show decide (xs = ys) = false from decide_eq_false (fun e => he (by subst e; rfl)))
          clear he h1 h2
          generalize xs[k] = x at *
          generalize ys[k] = y at *
          go_wp2_with fail
          go_quiet (fail)
          go_wp2_with fail
          go_ret
          exact ⟨by rw [hq.out]; rfl, _, by rw [World.drewN_drewN]⟩
      · obtain rfl : k = xs.length := by omega
        have hq : decide (xs = ys) = true := decide_eq_true (by have := HF.out; rw [List.take_length, hl, List.take_length] at this; exact this)
        clear hk
        go_wp2_with fail
        go_ret
        exact ⟨by rw [hq]; rfl, n, rfl⟩
  · have hne : (((xs.length : Nat) : Int) != ((ys.length : Nat) : Int)) = true := by simp; omega
    have hq : decide (xs = ys) = false := decide_eq_false (fun e => hl (by rw [e]))
    go_enter Try.func40, Try.ntmps40
    go_wp2_with fail
    go_ret
    exact ⟨by rw [hq]; rfl, 0, rfl⟩
end Go.Proofs.Ythlohppeaellpaa.Kb
