/- LeaseJust: the walk. Each theorem bears its own conditions. -/
import Derived.Test.YthlohppeaellpaaLx
/-! LeaseJust: the walk. -/
set_option linter.unusedVariables false
set_option linter.unusedSimpArgs false
namespace Go.Proofs.Ythlohppeaellpaa.Bk
open Go.RowKit Go.Proofs.YthlohppeaellpaaW.PrintWords Go.Proofs.Ythlohppeaellpaa.Kb Go.Proofs.Ythlohppeaellpaa.Mp
theorem new_to (t : Int) (w : World) (h : 1 ≤ t ∧ t ≤ 65535) : Calls Try.prog 37 #[.int .i64 t] w fun e w' => ∃ g m, e = .returned (.pointer (some ⟨g, 0, none⟩)) ∧ BookAt w' g m t [] ∧ w.heap.size ≤ m ∧ w.heap.size ≤ g ∧ Below w.heap.size w w' := by
  refine (new_any t w).mono ?_
  rintro e w' ⟨rfl, hB, hb⟩
  have e1 : min (max t 1) 65535 = t := by omega
  rw [e1] at hB
  exact ⟨_, _, rfl, hB, Nat.le_refl _, Nat.le_succ _, hb⟩
theorem hear_to {w : World} {g m : Nat} {t : Int} {L : List (Int × Int)} (o : Int) (L' : List (Int × Int)) (hl : lput o t L = L') (h : BookAt w g m t L) (ho : (Lit.int .i64 o).wf = true) (hn : L.length ≤ 1000000) :
    Calls Try.prog 42 #[.pointer (some ⟨g, 0, none⟩), .int .i64 o] w fun e w' => e = .returned (.tuple #[]) ∧ BookAt w' g m t L' ∧ Only w w' (· = m) := by
  subst hl
  exact hear_any w g m t L o h ho (by simp only [maxLen]; omega)
theorem left_to {w : World} {g m : Nat} {t : Int} {L : List (Int × Int)} (o n : Int) (hl : lget L o = some n) (h : BookAt w g m t L) (ho : (Lit.int .i64 o).wf = true) :
    Calls Try.prog 46 #[.pointer (some ⟨g, 0, none⟩), .int .i64 o] w fun e w' => e = .returned (.tuple #[.int .i64 n, .bool true]) ∧ w' = w := by
  have := left_any w g m t L o h ho
  rw [hl] at this
  exact this
theorem left_no {w : World} {g m : Nat} {t : Int} {L : List (Int × Int)} (o : Int) (hl : lget L o = none) (h : BookAt w g m t L) (ho : (Lit.int .i64 o).wf = true) :
    Calls Try.prog 46 #[.pointer (some ⟨g, 0, none⟩), .int .i64 o] w fun e w' => e = .returned (.tuple #[.int .i64 0, .bool false]) ∧ w' = w := by
  have := left_any w g m t L o h ho
  rw [hl] at this
  exact this
theorem drop_to {w : World} {g m : Nat} {t : Int} {L : List (Int × Int)} (o : Int) (b : Bool) (L' : List (Int × Int)) (hl : (lget L o).isSome = b) (hd : ldel o L = L') (h : BookAt w g m t L) (ho : (Lit.int .i64 o).wf = true) :
    Calls Try.prog 44 #[.pointer (some ⟨g, 0, none⟩), .int .i64 o] w fun e w' => e = .returned (.bool b) ∧ BookAt w' g m t L' ∧ Only w w' (· = m) := by
  subst hl
  subst hd
  exact drop_any w g m t L o h ho
def two (a b : Int) : List (Int × Int) := [(-9, a), (3, b)]
theorem two_put9 (t a b : Int) : lput (-9) t (two a b) = two t b := by simp [two, lput]
theorem two_put3 (t a b : Int) : lput 3 t (two a b) = two a t := by simp [two, lput]
theorem two_out {a b : Int} (ha : 1 < a) (hb : 1 < b) : tickOut (two a b) = [] := by
  simp [two, tickOut]; omega
theorem two_tick {a b : Int} (ha : 1 < a) (hb : 1 < b) : tickL (two a b) = two (a - 1) (b - 1) := by
  simp [two, tickL, ha, hb]
theorem two_out1 {a b : Int} (ha : a ≤ 1) (hb : b ≤ 1) : tickOut (two a b) = [-9, 3] := by
  simp [two, tickOut, ha, hb]
theorem two_tick1 {a b : Int} (ha : a ≤ 1) (hb : b ≤ 1) : tickL (two a b) = [] := by
  simp [two, tickL, show ¬ 1 < a by omega, show ¬ 1 < b by omega]
theorem two_bound {a b : Int} (ha : 1 ≤ a ∧ a ≤ 65535) (hb : 1 ≤ b ∧ b ≤ 65535) : ∀ p ∈ two a b, 1 ≤ p.2 ∧ p.2 ≤ 65535 := by
  simp [two]; omega
def fin (T : Int) (k : Nat) : List (Int × Int) := if (k : Int) ≤ T then two (T - k + 1) (T - k + 1) else []
theorem pw_cell_back {w : World} {ad : Addr} {xs : List Int} (h : ReadsInt w .i64 (some ad) xs.length xs) {i : Nat} (hi : i < xs.length) : w.cell? (ad.add i) = some (.int .i64 (rd xs i)) := by
  obtain ⟨ad', e, hx⟩ := h.at_ i (by omega) (by omega)
  cases e
  rwa [Int.toNat_natCast] at hx
set_option maxHeartbeats 2000000 in
set_option maxRecDepth 100000 in
theorem just_any (a0 : Int) (A : Option Addr) (c : Nat) (xs : List Int) (w : World) (h0 : (Lit.int .i64 a0).wf = true) (hR : ReadsInt w .i64 A xs.length xs) (hwf : ∀ x ∈ xs, (Lit.int .i64 x).wf = true) :
    Calls Try.prog 7 #[.int .i64 a0, .slice A xs.length c] w fun e w' => e = .returned (.bool true) ∧ Below w.heap.size w w' := by
  have hl1 := hR.2.1
  have HR := Aside0.mk hR
  have HF := Aside0.mk hwf
  clear hR hwf
  by_cases hlen : 12 < xs.length
  · have hd : decide (((12 : Nat) : Int) < (xs.length : Int)) = true := decide_eq_true (by omega)
    go_enter Try.func7, Try.ntmps7
    go_wp2_with (go_at_call 36; refine (awake_any _).mono ?_; rintro e w1 ⟨rfl, hb1⟩)
    go_ret
    exact ⟨rfl, hb1⟩
  · have hd : decide (((12 : Nat) : Int) < (xs.length : Int)) = false := decide_eq_false (by omega)
    have hq0 := Int.emod_nonneg a0 (show (60 : Int) ≠ 0 by decide)
    have hq1 := Int.emod_lt_of_pos a0 (show (0 : Int) < 60 by decide)
    obtain ⟨T, hT, hT1, hT2⟩ : ∃ T, IntKind.i64.wrap (1 + a0 % 60) = T ∧ 1 ≤ T ∧ T ≤ 60 := ⟨1 + a0 % 60, IntWalk.i64_in _ (by omega), by omega, by omega⟩
    clear hq0 hq1
    go_enter Try.func7, Try.ntmps7
    go_wp2_with (first
      | (go_at_call 36; refine (awake_any _).mono ?_; rintro e w1 ⟨rfl, hb1⟩)
      | (go_at_call 21; refine (within_any a0 60 _ h0 (by decide) (by decide)).mono ?_; rintro e w2 ⟨rfl, rfl⟩)
      | (go_at_call 37; refine (new_to T _ (by omega)).mono ?_; rintro e w2 ⟨g, m, rfl, hB2, hm, hg, hb2⟩)
      | (go_at_call 42; refine (hear_to (-9) (two T T) (by simp [lput, two]) hB3 (by decide) (by simp)).mono ?_; rintro e w4 ⟨rfl, hB4, hk4⟩)
      | (go_at_call 42; refine (hear_to 3 [(3, T)] (by simp [lput]) hB2 (by decide) (by simp)).mono ?_; rintro e w3 ⟨rfl, hB3, hk3⟩))
    have hm' : w.heap.size ≤ m := Nat.le_trans hb1.size hm
    have HW : Aside0 (Below w.heap.size w w4) := ⟨((below_call hb1 hb2).turn hk3 hm').turn hk4 hm'⟩
    have HB : Aside0 (BookAt w4 g m T (two T T)) := ⟨hB4⟩
    clear hb1 hb2 hk3 hk4 hB2 hB3 hB4 hm hg hT hd hlen
    go_loopw [6] (fun v6 wr => ∃ i : Nat, i ≤ xs.length ∧ v6 = .int .i64 i ∧ Aside0 (∃ a, 1 ≤ a ∧ a ≤ T ∧ BookAt wr g m T (two a T)) ∧ Aside0 (Below w.heap.size w wr)) (fun v6 _ => xs.length - (intOf v6).toNat)
    case atStart => exact ⟨0, Nat.zero_le _, rfl, ⟨T, hT1, Int.le_refl _, HB.out⟩, HW⟩
    case round =>
      clear HB HW
      obtain ⟨i, hi, rfl, HB, HW⟩ := hrel
      by_cases hlt : i < xs.length
      · obtain ⟨a, ha1, ha2, hB⟩ := HB.out
        obtain ⟨ad, rfl, hx⟩ := (HR.out.below HW.out).at_ i (by omega) (by omega)
        rw [Int.toNat_natCast] at hx
        have hxw : (Lit.int .i64 (rd xs i)).wf = true := by
          have e1 : rd xs i = xs[i] := by simp [rd, List.getD, List.getElem?_eq_getElem hlt]
          rw [e1]
          exact HF.out _ (List.getElem_mem hlt)
        have hr0 := Int.emod_nonneg (rd xs i) (show T ≠ 0 by omega)
        have hr1 := Int.emod_lt_of_pos (rd xs i) (show 0 < T by omega)
        have HB2 : Aside0 (∃ a, 1 ≤ a ∧ a ≤ T ∧ BookAt wr g m T (two a (T - ((0 : Nat) : Int)))) := ⟨a, ha1, ha2, by simpa using hB⟩
        have HX := Aside0.mk (pw_cell_back HR.out hlt)
        clear HB hB
        generalize rd xs i = x at *
        go_wp2_with fail
        clear hx
        go_loopw [7] (fun v7 wr => ∃ k : Nat, (k : Int) ≤ x % T ∧ v7 = .int .i64 k ∧ Aside0 (∃ a, 1 ≤ a ∧ a ≤ T ∧ BookAt wr g m T (two a (T - k))) ∧ Aside0 (Below w.heap.size w wr)) (fun v7 _ => (x % T).toNat - (intOf v7).toNat)
        case atStart => exact ⟨0, hr0, rfl, HB2, HW⟩
        case round =>
          clear HB2 HW
          obtain ⟨k, hk, rfl, HB, HW⟩ := hrel
          have hx := pw_cell_below HW.out HX.out
          obtain ⟨b, hb1, hb2, hB⟩ := HB.out
          by_cases hkt : (k : Int) < x % T
          · have hd : decide ((k : Int) < x % T) = true := decide_eq_true hkt
            go_wp2_with (first
              | (go_at_call 21; refine (within_any x T _ hxw (by omega) (by omega)).mono ?_; rintro e w2 ⟨rfl, rfl⟩)
              | (go_at_call 42; refine (hear_to (-9) (two T (T - k)) (two_put9 _ _ _) hB (by decide) (by simp [two])).mono ?_; rintro e w2 ⟨rfl, hB2, hk2⟩)
              | (go_at_call 39; refine (tick_to [] (two (T - 1) (T - k - 1)) (two_out (by omega) (by omega)) (two_tick (by omega) (by omega)) hB2 (two_bound (by omega) (by omega)) (by simp [two])).mono ?_; rintro e w3 ⟨⟨A3, c3, rfl, hv3⟩, hB3, hk3⟩))
            go_roundw
            case rel => exact ⟨k + 1, by omega, by go_num, ⟨T - 1, by omega, by omega, by rw [show T - ((k + 1 : Nat) : Int) = T - k - 1 by omega]; exact hB3⟩, ⟨(HW.out.turn hk2 hm').turn hk3 hm'⟩⟩
            case measure => simp [intOf]; omega
          · have hd : decide ((k : Int) < x % T) = false := decide_eq_false hkt
            go_wp2_with (first
              | (go_at_call 21; refine (within_any x T _ hxw (by omega) (by omega)).mono ?_; rintro e w2 ⟨rfl, rfl⟩)
              | (go_at_call 42; refine (hear_to 3 (two b T) (two_put3 _ _ _) hB (by decide) (by simp [two])).mono ?_; rintro e w2 ⟨rfl, hB2, hk2⟩))
            go_roundw
            case rel => exact ⟨i + 1, by omega, by go_num, ⟨b, hb1, hb2, hB2⟩, ⟨HW.out.turn hk2 hm'⟩⟩
            case measure => simp [intOf]; omega
      · obtain ⟨a, ha1, ha2, hB⟩ := HB.out
        go_wp2_with (go_at_call 42; refine (hear_to (-9) (two T T) (two_put9 _ _ _) hB (by decide) (by simp [two])).mono ?_; rintro e w2 ⟨rfl, hB2, hk2⟩)
        have HW2 := Aside0.mk (HW.out.turn hk2 hm')
        have HB2 : Aside0 (BookAt w2 g m T (fin T 1)) := ⟨by unfold fin; rw [if_pos (by omega)]; simpa using hB2⟩
        clear HB HW hB hk2 hB2
        go_loopw [8] (fun v8 wr => ∃ k : Nat, 1 ≤ k ∧ (k : Int) ≤ T + 1 ∧ v8 = .int .i64 k ∧ Aside0 (BookAt wr g m T (fin T k)) ∧ Aside0 (Below w.heap.size w wr)) (fun v8 _ => T.toNat + 1 - (intOf v8).toNat)
        case atStart => exact ⟨1, by omega, by omega, rfl, HB2, HW2⟩
        case round =>
          clear HB2 HW2
          obtain ⟨k, hk1, hk2, rfl, HB, HW⟩ := hrel
          by_cases hkt : (k : Int) ≤ T
          · have hd : decide ((k : Int) ≤ T) = true := decide_eq_true hkt
            have hB := HB.out
            unfold fin at hB
            rw [if_pos hkt] at hB
            have s1 : IntKind.i64.wrap (T - k) = T - k := IntWalk.i64_in _ (by omega)
            have s2 : IntKind.i64.wrap (T - k + 1) = T - k + 1 := IntWalk.i64_in _ (by omega)
            by_cases hke : (k : Int) < T
            · have hd2 : decide ((k : Int) < T) = true := decide_eq_true hke
              have hd3 : ((k : Int) == T) = false := by simp; omega
              go_wp2_with (first
                | (go_at_call 46; refine (left_to 3 (T - k + 1) rfl hB (by decide)).mono ?_; rintro e w2 ⟨rfl, rfl⟩)
                | (go_at_call 39; refine (tick_to [] (two (T - k) (T - k)) (two_out (by omega) (by omega)) (by rw [two_tick (by omega) (by omega)]; simp) hB (two_bound (by omega) (by omega)) (by simp [two])).mono ?_; rintro e w3 ⟨⟨A3, c3, rfl, hv3⟩, hB3, hk3⟩))
              go_roundw
              case rel => exact ⟨k + 1, by omega, by omega, by go_num, ⟨by unfold fin; rw [if_pos (by omega), show T - ((k + 1 : Nat) : Int) + 1 = T - k by omega]; exact hB3⟩, ⟨HW.out.turn hk3 hm'⟩⟩
              case measure => simp [intOf]; omega
            · have hd2 : decide ((k : Int) < T) = false := decide_eq_false hke
              have hd3 : ((k : Int) == T) = true := by simp; omega
              go_wp2_with (first
                | (go_at_call 46; refine (left_to 3 (T - k + 1) rfl hB (by decide)).mono ?_; rintro e w2 ⟨rfl, rfl⟩)
                | (go_at_call 39; refine (tick_to [-9, 3] [] (two_out1 (by omega) (by omega)) (two_tick1 (by omega) (by omega)) hB (two_bound (by omega) (by omega)) (by simp [two])).mono ?_; rintro e w3 ⟨⟨A3, c3, rfl, hv3⟩, hB3, hk3⟩)
                | (go_at_call 40; refine (same_any A3 (some ⟨w3.heap.size, 0, none⟩) c3 2 [-9, 3] [-9, 3] _ ((own_reads' hv3).allocS _) (own_reads' (own_lit w3 w3.heap.size 3 .i64 [-9, 3] (Nat.le_refl _) (by simp)))).mono ?_; rintro e w4 ⟨rfl, n, rfl⟩))
              go_roundw
              case rel => exact ⟨k + 1, by omega, by omega, by go_num, ⟨by unfold fin; rw [if_neg (by omega)]; exact ⟨heap_drewN (heap_past hB3.cell) _, hB3.map.kept ((Below.heap_alloc w3 _ _ hB3.map.lt))⟩⟩, ⟨pw_below_drewN (below_alloc (HW.out.turn hk3 hm') _) _⟩⟩
              case measure => simp [intOf]; omega
          · have hd : decide ((k : Int) ≤ T) = false := decide_eq_false hkt
            have hB := HB.out
            unfold fin at hB
            rw [if_neg hkt] at hB
            go_wp2_with (first
                | (go_at_call 46; refine (left_no 3 rfl hB (by decide)).mono ?_; rintro e w2 ⟨rfl, rfl⟩)
                | (go_at_call 39; refine (tick_to [] [] rfl rfl hB (by simp) (by simp)).mono ?_; rintro e w3 ⟨⟨A3, c3, rfl, hv3⟩, hB3, hk3⟩)
                | (go_at_call 44; refine (drop_to 3 false [] (by simp [lget]) (by simp [ldel]) hB3 (by decide)).mono ?_; rintro e w4 ⟨rfl, hB4, hk4⟩))
            go_ret
            exact ⟨rfl, (HW.out.turn hk3 hm').turn hk4 hm'⟩
end Go.Proofs.Ythlohppeaellpaa.Bk
