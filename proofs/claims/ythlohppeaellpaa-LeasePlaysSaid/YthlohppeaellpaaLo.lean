/- LeaseOthers: the walk. Each theorem bears its own conditions. -/
import Derived.Test.YthlohppeaellpaaLj
/-! LeaseOthers: the walk. -/
set_option linter.unusedVariables false
set_option linter.unusedSimpArgs false
namespace Go.Proofs.Ythlohppeaellpaa.Bk
open Go.RowKit Go.Proofs.YthlohppeaellpaaW.PrintWords Go.Proofs.Ythlohppeaellpaa.Kb Go.Proofs.Ythlohppeaellpaa.Mp
theorem length_lput {β : Type} (k : Int) (v : β) : ∀ (L : List (Int × β)), (lput k v L).length ≤ L.length + 1
  | [] => by simp [lput]
  | p :: r => by
    unfold lput
    split
    · simp
    · split
      · simp
      · simp [length_lput k v r]
/-- What a book with one at 100 is like. -/
structure Oth (T : Int) (left : Int) (L : List (Int × Int)) : Prop where
  val : ∀ p ∈ L, 1 ≤ p.2 ∧ p.2 ≤ T
  key : ∀ p ∈ L, p.1 ≤ 100
  got : lget L 100 = if 0 < left then some left else none
theorem Oth.hear {T left c : Int} {L : List (Int × Int)} (h : Oth T left L) (hT : 1 ≤ T) (hc : c < 9) : Oth T left (lput c T L) := by
  refine ⟨fun p hp => ?_, fun p hp => ?_, ?_⟩
  · rcases mem_lput hp with rfl | hp
    · exact ⟨hT, Int.le_refl _⟩
    · exact h.val p hp
  · rcases mem_lput hp with rfl | hp
    · show c ≤ 100; omega
    · exact h.key p hp
  · rw [lget_lput, if_neg (by omega)]
    exact h.got
theorem Oth.drop {T left c : Int} {L : List (Int × Int)} (h : Oth T left L) (hc : c < 9) : Oth T left (ldel c L) := by
  refine ⟨fun p hp => h.val p (List.mem_filter.1 hp).1, fun p hp => h.key p (List.mem_filter.1 hp).1, ?_⟩
  rw [lget_ldel, if_neg (by omega)]
  exact h.got
theorem Oth.tick {T left : Int} {L : List (Int × Int)} (h : Oth T left L) (hs : Srt L) (hl : 0 < left) : Oth T (left - 1) (tickL L) := by
  refine ⟨fun p hp => ?_, fun p hp => ?_, ?_⟩
  · obtain ⟨q, hq, rfl⟩ := List.mem_map.1 hp
    have h1 := List.mem_filter.1 hq
    have h2 := h.val q h1.1
    have h3 : 1 < q.2 := by simpa using h1.2
    exact ⟨by show 1 ≤ q.2 - 1; omega, by show q.2 - 1 ≤ T; omega⟩
  · obtain ⟨q, hq, rfl⟩ := List.mem_map.1 hp
    exact h.key q (List.mem_filter.1 hq).1
  · rw [lget_tickL hs, h.got, if_pos hl]
    by_cases h1 : 1 < left
    · simp [Option.filter, h1, show 0 < left - 1 by omega]
    · simp [Option.filter, h1, show ¬ 0 < left - 1 by omega]
theorem length_tickL (L : List (Int × Int)) : (tickL L).length ≤ L.length := by
  unfold tickL
  rw [List.length_map]
  exact List.length_filter_le _ _
theorem length_ldel {β : Type} (c : Int) (L : List (Int × β)) : (ldel c L).length ≤ L.length := List.length_filter_le _ _
theorem rd_last (xs : List Int) (h : 0 < xs.length) : rd xs ((xs.length : Int) - 1) = xs.getLast (by intro e; simp [e] at h) := by
  rw [List.getLast_eq_getElem]
  have e1 : ((xs.length : Int) - 1).toNat = xs.length - 1 := by omega
  simp [rd, List.getD, e1, List.getElem?_eq_getElem (show xs.length - 1 < xs.length by omega)]
theorem rise_last : ∀ (o : List Int), o.Pairwise (· < ·) → ∀ (h : o ≠ []), ∀ x ∈ o, x ≤ o.getLast h
  | [], _, h => absurd rfl h
  | [a], _, _ => fun x hx => by simp at hx; subst hx; simp
  | a :: b :: r, hp, h => fun x hx => by
    rw [List.getLast_cons (by simp)]
    rcases List.mem_cons.1 hx with rfl | hx
    · have h1 := (List.pairwise_cons.1 hp).1 b List.mem_cons_self
      have h2 := rise_last (b :: r) (List.pairwise_cons.1 hp).2 (by simp) b List.mem_cons_self
      omega
    · exact rise_last (b :: r) (List.pairwise_cons.1 hp).2 (by simp) x hx
theorem Oth.last1 {T left : Int} {L : List (Int × Int)} (h : Oth T left L) (hs : Srt L) (hl : left = 1) : 0 < (tickOut L).length ∧ rd (tickOut L) (((tickOut L).length : Int) - 1) = 100 := by
  subst hl
  have hm : (100 : Int) ∈ tickOut L := (mem_tickOut hs 100).2 ⟨1, by rw [h.got]; rfl, Int.le_refl _⟩
  have h0 : 0 < (tickOut L).length := List.length_pos_of_mem hm
  refine ⟨h0, ?_⟩
  rw [rd_last _ h0]
  have h1 := rise_last _ (rise_tickOut hs) (by intro e; simp [e] at h0) 100 hm
  have h2 : (tickOut L).getLast (by intro e; simp [e] at h0) ∈ tickOut L := List.getLast_mem _
  obtain ⟨n, hn, _⟩ := (mem_tickOut hs _).1 h2
  have h3 := h.key _ (mem_of_lget hn)
  simp at h3
  omega
theorem Oth.last2 {T left : Int} {L : List (Int × Int)} (h : Oth T left L) (hs : Srt L) (hl : 1 < left) (h0 : 0 < (tickOut L).length) : rd (tickOut L) (((tickOut L).length : Int) - 1) ≠ 100 := by
  rw [rd_last _ h0]
  intro e
  have h2 : (tickOut L).getLast (by intro e; simp [e] at h0) ∈ tickOut L := List.getLast_mem _
  rw [e] at h2
  obtain ⟨n, hn, h3⟩ := (mem_tickOut hs _).1 h2
  rw [h.got, if_pos (by omega)] at hn
  cases hn
  omega
set_option maxHeartbeats 2000000 in
set_option maxRecDepth 100000 in
theorem others_any (a0 : Int) (A : Option Addr) (c : Nat) (xs : List Int) (w : World) (h0 : (Lit.int .i64 a0).wf = true) (hR : ReadsInt w .i64 A xs.length xs) (hwf : ∀ x ∈ xs, (Lit.int .i64 x).wf = true) :
    Calls Try.prog 8 #[.int .i64 a0, .slice A xs.length c] w fun e w' => e = .returned (.bool true) ∧ Below w.heap.size w w' := by
  have hl1 := hR.2.1
  have HR := Aside0.mk hR
  have HF := Aside0.mk hwf
  clear hR hwf
  by_cases hlen : 60 < xs.length
  · have hd : decide (((60 : Nat) : Int) < (xs.length : Int)) = true := decide_eq_true (by omega)
    go_enter Try.func8, Try.ntmps8
    go_wp2_with (go_at_call 36; refine (awake_any _).mono ?_; rintro e w1 ⟨rfl, hb1⟩)
    go_ret
    exact ⟨rfl, hb1⟩
  · have hd : decide (((60 : Nat) : Int) < (xs.length : Int)) = false := decide_eq_false (by omega)
    have hq0 := Int.emod_nonneg a0 (show (40 : Int) ≠ 0 by decide)
    have hq1 := Int.emod_lt_of_pos a0 (show (0 : Int) < 40 by decide)
    obtain ⟨T, hT, hT1, hT2⟩ : ∃ T, IntKind.i64.wrap (1 + a0 % 40) = T ∧ 1 ≤ T ∧ T ≤ 40 := ⟨1 + a0 % 40, IntWalk.i64_in _ (by omega), by omega, by omega⟩
    clear hq0 hq1
    go_enter Try.func8, Try.ntmps8
    go_wp2_with (first
      | (go_at_call 36; refine (awake_any _).mono ?_; rintro e w1 ⟨rfl, hb1⟩)
      | (go_at_call 21; refine (within_any a0 40 _ h0 (by decide) (by decide)).mono ?_; rintro e w2 ⟨rfl, rfl⟩)
      | (go_at_call 37; refine (new_to T _ (by omega)).mono ?_; rintro e w2 ⟨g, m, rfl, hB2, hm, hg, hb2⟩)
      | (go_at_call 42; refine (hear_to 100 [(100, T)] (by simp [lput]) hB2 (by decide) (by simp)).mono ?_; rintro e w3 ⟨rfl, hB3, hk3⟩))
    have hm' : w.heap.size ≤ m := Nat.le_trans hb1.size hm
    have HW : Aside0 (Below w.heap.size w w3) := ⟨(below_call hb1 hb2).turn hk3 hm'⟩
    have HB : Aside0 (∃ L, L.length ≤ 0 + 1 ∧ Oth T T L ∧ BookAt w3 g m T L) := ⟨[(100, T)], by simp, ⟨by simp; omega, by simp, by simp [lget]; omega⟩, hB3⟩
    clear hb1 hb2 hk3 hB2 hB3 hm hg hT hd
    go_loopw [6, 7] (fun v6 v7 wr => ∃ (i : Nat) (left : Int), i ≤ xs.length ∧ 0 ≤ left ∧ left ≤ T ∧ v7 = .int .i64 i ∧ v6 = .int .i64 left ∧ Aside0 (∃ L, L.length ≤ i + 1 ∧ Oth T left L ∧ BookAt wr g m T L) ∧ Aside0 (Below w.heap.size w wr)) (fun _ v7 _ => xs.length - (intOf v7).toNat)
    case atStart => exact ⟨0, T, Nat.zero_le _, by omega, Int.le_refl _, rfl, rfl, HB, HW⟩
    case round =>
      clear HB HW
      obtain ⟨i, left, hi, hlf0, hlf1, rfl, rfl, HB, HW⟩ := hrel
      by_cases hlt : i < xs.length
      · by_cases hlf : 0 < left
        · have hd1 : decide (0 < left) = true := decide_eq_true hlf
          obtain ⟨L, hLl, HO0, hB⟩ := HB.out
          have HO := Aside0.mk HO0
          have hS := hB.map.srt
          obtain ⟨ad, rfl, hx⟩ := (HR.out.below HW.out).at_ i (by omega) (by omega)
          rw [Int.toNat_natCast] at hx
          have hxw : (Lit.int .i64 (rd xs i)).wf = true := by
            have e1 : rd xs i = xs[i] := by simp [rd, List.getD, List.getElem?_eq_getElem hlt]
            rw [e1]
            exact HF.out _ (List.getElem_mem hlt)
          generalize rd xs i = x at *
          have hs0 := Int.emod_nonneg x (show (3 : Int) ≠ 0 by decide)
          have hs1 := Int.emod_lt_of_pos x (show (0 : Int) < 3 by decide)
          have hc0 := Int.emod_nonneg (Int.tdiv x 3) (show (9 : Int) ≠ 0 by decide)
          have hc1 := Int.emod_lt_of_pos (Int.tdiv x 3) (show (0 : Int) < 9 by decide)
          generalize hcc : (Int.tdiv x 3) % 9 = cc at *
          have hccw : (Lit.int .i64 cc).wf = true := wf_of_i64 (by omega)
          have hdig : ∀ w, Calls Try.prog 19 #[.int .i64 x, .int .i64 3, .int .i64 9] w fun e w' => e = .returned (.int .i64 cc) ∧ w' = w := fun w => by
            have := digit_any x 3 9 w hxw (by decide) (by decide) (by decide) (by decide)
            rw [hcc] at this
            exact this
          have HD := Aside0.mk hdig
          clear HB HO0 hcc hdig
          rcases (show x % 3 = 0 ∨ x % 3 = 1 ∨ x % 3 = 2 by omega) with hs | hs | hs
          · have hwi : ∀ w, Calls Try.prog 21 #[.int .i64 x, .int .i64 3] w fun e w' => e = .returned (.int .i64 0) ∧ w' = w := fun w => by
              have := within_any x 3 w hxw (by decide) (by decide)
              rw [hs] at this
              exact this
            have HI := Aside0.mk hwi
            clear hs hs0 hs1 hwi
            have HO2 := Aside0.mk (HO.out.hear hT1 (c := cc) hc1)
            have hgot := HO2.out.got
            rw [if_pos hlf] at hgot
            have hlen2 := length_lput cc T L
            go_wp2_with (first
              | (go_at_call 19; refine (HD.out _).mono ?_; rintro e w2 ⟨rfl, rfl⟩)
              | (go_at_call 21; refine (HI.out _).mono ?_; rintro e w2 ⟨rfl, rfl⟩)
              | (go_at_call 42; refine (hear_to cc (lput cc T L) rfl hB hccw (by omega)).mono ?_; rintro e w3 ⟨rfl, hB3, hk3⟩)
              | (go_at_call 46; refine (left_to 100 left hgot hB3 (by decide)).mono ?_; rintro e w4 ⟨rfl, rfl⟩))
            go_roundw
            case rel => exact ⟨i + 1, left, by omega, by omega, hlf1, by go_num, rfl, ⟨lput cc T L, by omega, HO2.out, hB3⟩, ⟨HW.out.turn hk3 hm'⟩⟩
            case measure => simp [intOf]; omega
          · have hwi : ∀ w, Calls Try.prog 21 #[.int .i64 x, .int .i64 3] w fun e w' => e = .returned (.int .i64 1) ∧ w' = w := fun w => by
              have := within_any x 3 w hxw (by decide) (by decide)
              rw [hs] at this
              exact this
            have HI := Aside0.mk hwi
            clear hs hs0 hs1 hwi
            have HO2 := Aside0.mk (HO.out.drop (c := cc) hc1)
            have hgot := HO2.out.got
            rw [if_pos hlf] at hgot
            have hlen2 := length_ldel cc L
            go_wp2_with (first
              | (go_at_call 19; refine (HD.out _).mono ?_; rintro e w2 ⟨rfl, rfl⟩)
              | (go_at_call 21; refine (HI.out _).mono ?_; rintro e w2 ⟨rfl, rfl⟩)
              | (go_at_call 44; refine (drop_any _ _ _ _ _ cc hB hccw).mono ?_; rintro e w3 ⟨rfl, hB3, hk3⟩)
              | (go_at_call 46; refine (left_to 100 left hgot hB3 (by decide)).mono ?_; rintro e w4 ⟨rfl, rfl⟩))
            go_roundw
            case rel => exact ⟨i + 1, left, by omega, by omega, hlf1, by go_num, rfl, ⟨ldel cc L, by omega, HO2.out, hB3⟩, ⟨HW.out.turn hk3 hm'⟩⟩
            case measure => simp [intOf]; omega
          · have hwi : ∀ w, Calls Try.prog 21 #[.int .i64 x, .int .i64 3] w fun e w' => e = .returned (.int .i64 2) ∧ w' = w := fun w => by
              have := within_any x 3 w hxw (by decide) (by decide)
              rw [hs] at this
              exact this
            have HI := Aside0.mk hwi
            clear hwi
            have HO2 := Aside0.mk (HO.out.tick hS hlf)
            have hgot := HO2.out.got
            have hlen2 := length_tickL L
            have hol : (tickOut L).length ≤ L.length := by unfold tickOut; rw [List.length_map]; exact List.length_filter_le _ _
            have hval : ∀ p ∈ L, 1 ≤ p.2 ∧ p.2 ≤ 65535 := fun p hp => by have := HO.out.val p hp; omega
            have s1 : IntKind.i64.wrap (left - 1) = left - 1 := IntWalk.i64_in _ (by omega)
            have s2 : IntKind.i64.wrap (((tickOut L).length : Int) - 1) = ((tickOut L).length : Int) - 1 := IntWalk.i64_in _ (by omega)
            by_cases hl1 : left = 1
            · rw [if_neg (by omega)] at hgot
              obtain ⟨ho0, hoe⟩ := HO.out.last1 hS hl1
              have HT := Aside0.mk (fun W hW => tick_to (w := W) (tickOut L) (tickL L) rfl rfl hW hval (by omega) : ∀ W, BookAt W g m T L → _)
              have t1 : ((left - 1) == 0) = true := by simp; omega
              have t2 : decide (0 < left - 1) = false := decide_eq_false (by omega)
              have t2' : decide (1 < left) = false := decide_eq_false (by omega)
              have t3 : (0 != left - 1) = false := by simp; omega
              have t4 : decide (0 < ((tickOut L).length : Int)) = true := decide_eq_true (by omega)
              have t5 : 0 ≤ ((tickOut L).length : Int) - 1 := by omega
              have HL := Aside0.mk hl1
              clear hs hval hs0 hs1 hl1
              generalize tickOut L = o at *
              go_wp2_with (first
                | (go_at_call 19; refine (HD.out _).mono ?_; rintro e w2 ⟨rfl, rfl⟩)
                | (go_at_call 21; refine (HI.out _).mono ?_; rintro e w2 ⟨rfl, rfl⟩)
                | (go_at_call 39; refine (HT.out _ hB).mono ?_; rintro e w3 ⟨⟨A3, c3, rfl, hv3⟩, hB3, hk3⟩; obtain ⟨ao, rfl, hx3⟩ := (own_reads' hv3).at_ ((o.length : Int) - 1) t5 (by omega); rw [hoe, show ((o.length : Int) - 1).toNat = o.length - 1 by omega] at hx3)
                | (go_at_call 46; refine (left_no 100 hgot hB3 (by decide)).mono ?_; rintro e w4 ⟨rfl, rfl⟩))
              go_roundw
              case rel => exact ⟨i + 1, left - 1, by omega, by omega, by omega, by go_num, rfl, ⟨tickL L, by omega, HO2.out, hB3⟩, ⟨HW.out.turn hk3 hm'⟩⟩
              case measure => simp [intOf]; omega
            · rw [if_pos (by omega)] at hgot
              have HT := Aside0.mk (fun W hW => tick_to (w := W) (tickOut L) (tickL L) rfl rfl hW hval (by omega) : ∀ W, BookAt W g m T L → _)
              have t1 : ((left - 1) == 0) = false := by simp; omega
              have t2 : decide (0 < left - 1) = true := decide_eq_true (by omega)
              have t2' : decide (1 < left) = true := decide_eq_true (by omega)
              have HL := Aside0.mk hl1
              by_cases ho0 : 0 < (tickOut L).length
              · have hoe := HO.out.last2 hS (by omega) ho0
                have t4 : decide (0 < ((tickOut L).length : Int)) = true := decide_eq_true (by omega)
                have t5 : 0 ≤ ((tickOut L).length : Int) - 1 := by omega
                clear hs hval hs0 hs1 hl1
                generalize tickOut L = o at *
                generalize hy : rd o ((o.length : Int) - 1) = y at *
                have t6 : (y == 100) = false := by simp; exact hoe
                clear hoe
                go_wp2_with (first
                  | (go_at_call 19; refine (HD.out _).mono ?_; rintro e w2 ⟨rfl, rfl⟩)
                  | (go_at_call 21; refine (HI.out _).mono ?_; rintro e w2 ⟨rfl, rfl⟩)
                  | (go_at_call 39; refine (HT.out _ hB).mono ?_; rintro e w3 ⟨⟨A3, c3, rfl, hv3⟩, hB3, hk3⟩; obtain ⟨ao, rfl, hx3⟩ := (own_reads' hv3).at_ ((o.length : Int) - 1) t5 (by omega); rw [hy, show ((o.length : Int) - 1).toNat = o.length - 1 by omega] at hx3)
                  | (go_at_call 46; refine (left_to 100 (left - 1) hgot hB3 (by decide)).mono ?_; rintro e w4 ⟨rfl, rfl⟩))
                go_roundw
                case rel => exact ⟨i + 1, left - 1, by omega, by omega, by omega, by go_num, rfl, ⟨tickL L, by omega, HO2.out, hB3⟩, ⟨HW.out.turn hk3 hm'⟩⟩
                case measure => simp [intOf]; omega
              · have t4 : decide (0 < ((tickOut L).length : Int)) = false := decide_eq_false (by omega)
                clear hs hval hs0 hs1 hl1
                generalize tickOut L = o at *
                go_wp2_with (first
                  | (go_at_call 19; refine (HD.out _).mono ?_; rintro e w2 ⟨rfl, rfl⟩)
                  | (go_at_call 21; refine (HI.out _).mono ?_; rintro e w2 ⟨rfl, rfl⟩)
                  | (go_at_call 39; refine (HT.out _ hB).mono ?_; rintro e w3 ⟨⟨A3, c3, rfl, hv3⟩, hB3, hk3⟩)
                  | (go_at_call 46; refine (left_to 100 (left - 1) hgot hB3 (by decide)).mono ?_; rintro e w4 ⟨rfl, rfl⟩))
                go_roundw
                case rel => exact ⟨i + 1, left - 1, by omega, by omega, by omega, by go_num, rfl, ⟨tickL L, by omega, HO2.out, hB3⟩, ⟨HW.out.turn hk3 hm'⟩⟩
                case measure => simp [intOf]; omega
        · have hd1 : decide (0 < left) = false := decide_eq_false hlf
          go_wp2_with fail
          go_ret
          exact ⟨rfl, HW.out⟩
      · go_wp2_with fail
        go_ret
        exact ⟨rfl, HW.out⟩
end Go.Proofs.Ythlohppeaellpaa.Bk
