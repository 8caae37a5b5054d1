/- LeasePlays: the walk. Each theorem bears its own conditions. -/
import Derived.Test.YthlohppeaellpaaRd
import Derived.Test.YthlohppeaellpaaLo
/-! LeasePlays: the walk. -/
set_option linter.unusedVariables false
set_option linter.unusedSimpArgs false
namespace Go.Proofs.Ythlohppeaellpaa.Bk
open Go.RowKit Go.Proofs.YthlohppeaellpaaW.PrintWords Go.Proofs.Ythlohppeaellpaa.Kb Go.Proofs.Ythlohppeaellpaa.Mp Go.Proofs.Ythlohppeaellpaa.Rb
theorem map_ne {w : World} {b g : Nat} {L : List (Int × Int)} {cs : Array Value} {t : TypeId} (h : IsM Try.prog 3 (Value.int .i64) w b L) (hg : w.heap[g]? = some (.cells cs t (0, 0))) : g ≠ b := by
  rintro rfl
  obtain ⟨es, clock, hb, _⟩ := h.own
  rw [hg] at hb
  cases hb
theorem BookAt.ref {w w' : World} {g m r : Nat} {t t' : Int} {v : Value} {L L' : List (Int × Int)} (h : BookAt w g m t L) (hR : RefAt w r t' v L') (hk : Only w w' (· = r)) : BookAt w' g m t L :=
  h.kept hk (blk_ne h.cell hR.cell (by decide)) (fun e => map_ne h.map hR.cell e.symm)
theorem RefAt.book {w w' : World} {g m r : Nat} {t t' : Int} {v : Value} {L L' : List (Int × Int)} (hR : RefAt w r t' v L') (h : BookAt w g m t L) (hk : Only w w' (· = m)) : RefAt w' r t' v L' := by
  refine ⟨blk_only hR.cell hk (map_ne h.map hR.cell), ?_⟩
  refine Kd.R_mono (Kd.R_step (ok := fun k => k ≠ m) (Kd.R_mono (Kd.R_bound hR.row) (fun k hk => ?_)) (fun k hne hlt => hk.block k hlt hne)) (fun _ _ => trivial)
  obtain ⟨_, _, _, q, _, cells, hc⟩ := hk
  exact map_ne h.map hc
structure Pl (w wr : World) (g m r : Nat) (T : Int) (L : List (Int × Int)) (v : Value) (i : Nat) : Prop where
  book : BookAt wr g m T L
  ref : RefAt wr r T v L
  val : ∀ p ∈ L, 1 ≤ p.2 ∧ p.2 ≤ T
  len : L.length ≤ i
  bel : Below w.heap.size w wr
theorem Pl.step {w wr w1 w2 : World} {g m r : Nat} {T : Int} {L L' : List (Int × Int)} {v v' : Value} {i : Nat} (h : Pl w wr g m r T L v i) (hm : w.heap.size ≤ m) (hr : w.heap.size ≤ r) (hB : BookAt w1 g m T L') (hk1 : Only wr w1 (· = m)) (hR : RefAt w2 r T v' L') (hk2 : Only w1 w2 (· = r)) (hv : ∀ p ∈ L', 1 ≤ p.2 ∧ p.2 ≤ T) (hl : L'.length ≤ i + 1) : Pl w w2 g m r T L' v' (i + 1) :=
  ⟨hB.ref (RefAt.book h.ref h.book hk1) hk2, hR, hv, hl, (h.bel.turn hk1 hm).turn hk2 hr⟩
theorem Pl.drewN {w wr : World} {g m r : Nat} {T : Int} {L : List (Int × Int)} {v : Value} {i : Nat} (h : Pl w wr g m r T L v i) (n : Nat) : Pl w (wr.drewN n) g m r T L v i :=
  ⟨⟨h.book.cell, h.book.map.kept rfl⟩, ⟨h.ref.cell, Kd.R_below h.ref.row (pw_below_drewN (Below.refl _ _) n)⟩, h.val, h.len, pw_below_drewN h.bel n⟩
theorem val_put {T c : Int} {L : List (Int × Int)} (hT : 1 ≤ T) (h : ∀ p ∈ L, 1 ≤ p.2 ∧ p.2 ≤ T) : ∀ p ∈ lput c T L, 1 ≤ p.2 ∧ p.2 ≤ T := fun p hp => by
  rcases mem_lput hp with rfl | hp
  · exact ⟨hT, Int.le_refl _⟩
  · exact h p hp
theorem val_tick {T : Int} {L : List (Int × Int)} (h : ∀ p ∈ L, 1 ≤ p.2 ∧ p.2 ≤ T) : ∀ p ∈ tickL L, 1 ≤ p.2 ∧ p.2 ≤ T := fun p hp => by
  obtain ⟨q, hq, rfl⟩ := List.mem_map.1 hp
  have h1 := List.mem_filter.1 hq
  have h2 := h q h1.1
  have h3 : 1 < q.2 := by simpa using h1.2
  exact ⟨by show 1 ≤ q.2 - 1; omega, by show q.2 - 1 ≤ T; omega⟩
set_option maxHeartbeats 2000000 in
set_option maxRecDepth 100000 in
theorem plays_any (a0 : Int) (near : Bool) (A : Option Addr) (c : Nat) (xs : List Int) (w : World) (h0 : (Lit.int .i64 a0).wf = true) (hR : ReadsInt w .i64 A xs.length xs) (hwf : ∀ x ∈ xs, (Lit.int .i64 x).wf = true) :
    Calls Try.prog 6 #[.int .i64 a0, .bool near, .slice A xs.length c] w fun e w' => e = .returned (.bool true) ∧ Below w.heap.size w w' := by
  have hl1 := hR.2.1
  have HR := Aside0.mk hR
  have HF := Aside0.mk hwf
  clear hR hwf
  by_cases hlen : 200 < xs.length
  · have hd : decide (((200 : Nat) : Int) < (xs.length : Int)) = true := decide_eq_true (by omega)
    go_enter Try.func6, Try.ntmps6
    go_wp2_with (go_at_call 36; refine (awake_any _).mono ?_; rintro e w1 ⟨rfl, hb1⟩)
    go_ret
    exact ⟨rfl, hb1⟩
  · have hd : decide (((200 : Nat) : Int) < (xs.length : Int)) = false := decide_eq_false (by omega)
    obtain ⟨t, ht⟩ : ∃ t, t = if near then a0 % 8 else a0 := ⟨_, rfl⟩
    obtain ⟨T, hT, hT1, hT2⟩ : ∃ T, min (max t 1) 65535 = T ∧ 1 ≤ T ∧ T ≤ 65535 := ⟨_, rfl, by omega, by omega⟩
    have HW : Aside0 (∀ w, Calls Try.prog 21 #[.int .i64 a0, .int .i64 8] w fun e w' => e = .returned (.int .i64 (a0 % 8)) ∧ w' = w) := ⟨fun w => within_any a0 8 w h0 (by decide) (by decide)⟩
    have HN : Aside0 (∀ w, Calls Try.prog 37 #[.int .i64 t] w fun e w' => ∃ g m, e = .returned (.pointer (some ⟨g, 0, none⟩)) ∧ BookAt w' g m T [] ∧ w.heap.size ≤ m ∧ w.heap.size ≤ g ∧ Below w.heap.size w w') := ⟨fun w => by
      refine (new_any t w).mono ?_
      rintro e w' ⟨rfl, hB, hb⟩
      rw [hT] at hB
      exact ⟨_, _, rfl, hB, Nat.le_refl _, Nat.le_succ _, hb⟩⟩
    have HS : Aside0 (∀ w, Calls Try.prog 38 #[.int .i64 t] w fun e w' => ∃ r, e = .returned (.pointer (some ⟨r, 0, none⟩)) ∧ RefAt w' r T (.slice none 0 0) [] ∧ w.heap.size ≤ r ∧ Below w.heap.size w w') := ⟨fun w => by
      refine (books_any t w).mono ?_
      rintro e w' ⟨rfl, hB, hb⟩
      rw [hT] at hB
      exact ⟨_, rfl, hB, Nat.le_refl _, hb⟩⟩
    clear hT
    cases near
    all_goals
      simp only [Bool.false_eq_true, if_false, if_true] at ht
      subst ht
      go_enter Try.func6, Try.ntmps6
      go_wp2_with (first
        | (go_at_call 36; refine (awake_any _).mono ?_; rintro e w1 ⟨rfl, hb1⟩)
        | (go_at_call 21; refine (HW.out _).mono ?_; rintro e w2 ⟨rfl, rfl⟩)
        | (go_at_call 37; refine (HN.out _).mono ?_; rintro e w2 ⟨g, m, rfl, hB2, hm0, hg, hb2⟩)
        | (go_at_call 38; refine (HS.out _).mono ?_; rintro e w3 ⟨r, rfl, hR3, hr0, hb3⟩))
      have hm : w.heap.size ≤ m := Nat.le_trans hb1.size hm0
      have hr : w.heap.size ≤ r := Nat.le_trans hb1.size (Nat.le_trans hb2.size hr0)
      have HP : Aside0 (Pl w w3 g m r T [] (.slice none 0 0) 0) := ⟨⟨hB2.kept (Only.of_below hb3 (fun _ => False)) id id, hR3, by simp, Nat.le_refl _, below_call (below_call hb1 hb2) hb3⟩⟩
      clear hb1 hb2 hb3 hB2 hR3 hm0 hr0 hg hd HN HS HW
      go_loopw [9] (fun v9 wr => ∃ (i : Nat) (L : List (Int × Int)) (v : Value), i ≤ xs.length ∧ v9 = .int .i64 i ∧ Aside0 (Pl w wr g m r T L v i)) (fun v9 _ => xs.length - (intOf v9).toNat)
      case atStart => exact ⟨0, [], _, Nat.zero_le _, rfl, HP⟩
      case round =>
        clear HP
        obtain ⟨i, L, v, hi, rfl, HP⟩ := hrel
        by_cases hlt : i < xs.length
        · have HVV : Aside0 (∀ p ∈ L, 1 ≤ p.2 ∧ p.2 ≤ 65535) := ⟨fun p hp => by have := HP.out.val p hp; omega⟩
          have HLL : Aside0 (L.length ≤ 1000000) := ⟨by have := HP.out.len; omega⟩
          obtain ⟨ad, rfl, hx⟩ := (HR.out.below HP.out.bel).at_ i (by omega) (by omega)
          rw [Int.toNat_natCast] at hx
          have hxw : (Lit.int .i64 (rd xs i)).wf = true := by
            have e1 : rd xs i = xs[i] := by simp [rd, List.getD, List.getElem?_eq_getElem hlt]
            rw [e1]
            exact HF.out _ (List.getElem_mem hlt)
          generalize rd xs i = x at *
          have hs0 := Int.emod_nonneg x (show (4 : Int) ≠ 0 by decide)
          have hs1 := Int.emod_lt_of_pos x (show (0 : Int) < 4 by decide)
          have hc0 := Int.emod_nonneg (Int.tdiv x 4) (show (6 : Int) ≠ 0 by decide)
          have hc1 := Int.emod_lt_of_pos (Int.tdiv x 4) (show (0 : Int) < 6 by decide)
          generalize hqq : (Int.tdiv x 4) % 6 = qq at *
          obtain ⟨cc, hcc, hcc0, hcc1⟩ : ∃ cc, IntKind.i64.wrap (qq - 2) = cc ∧ -2 ≤ cc ∧ cc ≤ 3 := ⟨qq - 2, IntWalk.i64_in _ (by omega), by omega, by omega⟩
          have hccw : (Lit.int .i64 cc).wf = true := wf_of_i64 (by omega)
          have hdig : ∀ w, Calls Try.prog 19 #[.int .i64 x, .int .i64 4, .int .i64 6] w fun e w' => e = .returned (.int .i64 qq) ∧ w' = w := fun w => by
            have := digit_any x 4 6 w hxw (by decide) (by decide) (by decide) (by decide)
            rw [hqq] at this
            exact this
          have HD := Aside0.mk hdig
          clear hqq hdig hc0 hc1
          rcases (show x % 4 = 0 ∨ x % 4 = 1 ∨ x % 4 = 2 ∨ x % 4 = 3 by omega) with hs | hs | hs | hs
          · have hwi : ∀ w, Calls Try.prog 21 #[.int .i64 x, .int .i64 4] w fun e w' => e = .returned (.int .i64 0) ∧ w' = w := fun w => by
              have := within_any x 4 w hxw (by decide) (by decide)
              rw [hs] at this
              exact this
            have HI := Aside0.mk hwi
            clear hs hs0 hs1 hwi
            go_wp2_with (first
              | (go_at_call 19; refine (HD.out _).mono ?_; rintro e w2 ⟨rfl, rfl⟩)
              | (go_at_call 21; refine (HI.out _).mono ?_; rintro e w2 ⟨rfl, rfl⟩)
              | (go_at_call 39; refine (tick_to (tickOut L) (tickL L) rfl rfl HP.out.book HVV.out HLL.out).mono ?_; rintro e w3 ⟨⟨A3, c3, rfl, hv3⟩, hB3, hk3⟩; have hR3 := RefAt.book HP.out.ref HP.out.book hk3)
              | (go_at_call 41; refine (refTick_any _ _ _ _ _ hR3 HVV.out HLL.out).mono ?_; rintro e w4 ⟨⟨A4, c4, rfl, hv4⟩, ⟨v4, hR4⟩, hk4⟩)
              | (go_at_call 40; refine (same_any A3 A4 c3 c4 (tickOut L) (tickOut L) _ (own_reads' (own_only hv3 hk4 (lt_of_block HP.out.ref.cell))) (own_reads' hv4)).mono ?_; rintro e w5 ⟨rfl, n5, rfl⟩))
            have HE : Aside0 (Pl w (w4.drewN n5) g m r T (tickL L) v4 (i + 1)) := ⟨Pl.drewN (HP.out.step hm hr hB3 hk3 hR4 hk4 (val_tick HP.out.val) (Nat.le_trans (length_tickL L) (Nat.le_succ_of_le HP.out.len))) n5⟩
            have HLE : Aside0 (((tickL L)).length ≤ 1000000) := ⟨by have := HE.out.len; omega⟩
            clear hB3 hR4 hk3 hk4 hR3
            go_loopw [12] (fun v12 wr => ∃ k : Int, -2 ≤ k ∧ k ≤ 5 ∧ v12 = .int .i64 k ∧ wr = (w4.drewN n5)) (fun v12 _ => (5 - intOf v12).toNat)
            case atStart => exact ⟨-2, by omega, by omega, rfl, rfl⟩
            case round =>
              obtain ⟨k, hk1, hk2, rfl, rfl⟩ := hrel
              by_cases hk : k < 5
              · have hdk : decide (k < 5) = true := decide_eq_true hk
                have hs3 : IntKind.i64.wrap (k + 1) = k + 1 := IntWalk.i64_in _ (by omega)
                have HLa := Aside0.mk (left_any _ _ _ _ _ k HE.out.book (wf_of_i64 (by omega)))
                have HLb := Aside0.mk (refLeft_any _ _ _ _ _ k HE.out.ref HLE.out)
                generalize (lget (tickL L) k).getD 0 = nn at *
                generalize (lget (tickL L) k).isSome = bb at *
                go_wp2_with (first
                  | (go_at_call 46; refine HLa.out.mono ?_; rintro e w9 ⟨rfl, rfl⟩)
                  | (go_at_call 47; refine HLb.out.mono ?_; rintro e w9 ⟨rfl, rfl⟩))
                go_roundw
                case rel => exact ⟨k + 1, by omega, by omega, rfl, by first | rfl | trivial⟩
                case measure => simp [intOf]; omega
              · have hdk : decide (k < 5) = false := decide_eq_false hk
                go_wp2_with fail
                go_roundw
                case rel => exact ⟨i + 1, _, _, by omega, by go_num, HE⟩
                case measure => simp [intOf]; omega
          · have hwi : ∀ w, Calls Try.prog 21 #[.int .i64 x, .int .i64 4] w fun e w' => e = .returned (.int .i64 1) ∧ w' = w := fun w => by
              have := within_any x 4 w hxw (by decide) (by decide)
              rw [hs] at this
              exact this
            have HI := Aside0.mk hwi
            clear hs hs0 hs1 hwi
            go_wp2_with (first
              | (go_at_call 19; refine (HD.out _).mono ?_; rintro e w2 ⟨rfl, rfl⟩)
              | (go_at_call 21; refine (HI.out _).mono ?_; rintro e w2 ⟨rfl, rfl⟩)
              | (go_at_call 39; refine (tick_to (tickOut L) (tickL L) rfl rfl HP.out.book HVV.out HLL.out).mono ?_; rintro e w3 ⟨⟨A3, c3, rfl, hv3⟩, hB3, hk3⟩; have hR3 := RefAt.book HP.out.ref HP.out.book hk3)
              | (go_at_call 41; refine (refTick_any _ _ _ _ _ hR3 HVV.out HLL.out).mono ?_; rintro e w4 ⟨⟨A4, c4, rfl, hv4⟩, ⟨v4, hR4⟩, hk4⟩)
              | (go_at_call 40; refine (same_any A3 A4 c3 c4 (tickOut L) (tickOut L) _ (own_reads' (own_only hv3 hk4 (lt_of_block HP.out.ref.cell))) (own_reads' hv4)).mono ?_; rintro e w5 ⟨rfl, n5, rfl⟩))
            have HE : Aside0 (Pl w (w4.drewN n5) g m r T (tickL L) v4 (i + 1)) := ⟨Pl.drewN (HP.out.step hm hr hB3 hk3 hR4 hk4 (val_tick HP.out.val) (Nat.le_trans (length_tickL L) (Nat.le_succ_of_le HP.out.len))) n5⟩
            have HLE : Aside0 (((tickL L)).length ≤ 1000000) := ⟨by have := HE.out.len; omega⟩
            clear hB3 hR4 hk3 hk4 hR3
            go_loopw [12] (fun v12 wr => ∃ k : Int, -2 ≤ k ∧ k ≤ 5 ∧ v12 = .int .i64 k ∧ wr = (w4.drewN n5)) (fun v12 _ => (5 - intOf v12).toNat)
            case atStart => exact ⟨-2, by omega, by omega, rfl, rfl⟩
            case round =>
              obtain ⟨k, hk1, hk2, rfl, rfl⟩ := hrel
              by_cases hk : k < 5
              · have hdk : decide (k < 5) = true := decide_eq_true hk
                have hs3 : IntKind.i64.wrap (k + 1) = k + 1 := IntWalk.i64_in _ (by omega)
                have HLa := Aside0.mk (left_any _ _ _ _ _ k HE.out.book (wf_of_i64 (by omega)))
                have HLb := Aside0.mk (refLeft_any _ _ _ _ _ k HE.out.ref HLE.out)
                generalize (lget (tickL L) k).getD 0 = nn at *
                generalize (lget (tickL L) k).isSome = bb at *
                go_wp2_with (first
                  | (go_at_call 46; refine HLa.out.mono ?_; rintro e w9 ⟨rfl, rfl⟩)
                  | (go_at_call 47; refine HLb.out.mono ?_; rintro e w9 ⟨rfl, rfl⟩))
                go_roundw
                case rel => exact ⟨k + 1, by omega, by omega, rfl, by first | rfl | trivial⟩
                case measure => simp [intOf]; omega
              · have hdk : decide (k < 5) = false := decide_eq_false hk
                go_wp2_with fail
                go_roundw
                case rel => exact ⟨i + 1, _, _, by omega, by go_num, HE⟩
                case measure => simp [intOf]; omega
          · have hwi : ∀ w, Calls Try.prog 21 #[.int .i64 x, .int .i64 4] w fun e w' => e = .returned (.int .i64 2) ∧ w' = w := fun w => by
              have := within_any x 4 w hxw (by decide) (by decide)
              rw [hs] at this
              exact this
            have HI := Aside0.mk hwi
            clear hs hs0 hs1 hwi
            go_wp2_with (first
              | (go_at_call 19; refine (HD.out _).mono ?_; rintro e w2 ⟨rfl, rfl⟩)
              | (go_at_call 21; refine (HI.out _).mono ?_; rintro e w2 ⟨rfl, rfl⟩)
              | (go_at_call 42; refine (hear_to cc (lput cc T L) rfl HP.out.book hccw HLL.out).mono ?_; rintro e w3 ⟨rfl, hB3, hk3⟩; have hR3 := RefAt.book HP.out.ref HP.out.book hk3)
              | (go_at_call 43; refine (refHear_any _ _ _ _ _ cc hR3 HP.out.book.map.srt HLL.out).mono ?_; rintro e w4 ⟨rfl, ⟨v4, hR4⟩, hk4⟩))
            have HE : Aside0 (Pl w w4 g m r T (lput cc T L) v4 (i + 1)) := ⟨HP.out.step hm hr hB3 hk3 hR4 hk4 (val_put hT1 HP.out.val) (Nat.le_trans (length_lput cc T L) (Nat.succ_le_succ HP.out.len))⟩
            have HLE : Aside0 (((lput cc T L)).length ≤ 1000000) := ⟨by have := HE.out.len; omega⟩
            clear hB3 hR4 hk3 hk4 hR3
            go_loopw [12] (fun v12 wr => ∃ k : Int, -2 ≤ k ∧ k ≤ 5 ∧ v12 = .int .i64 k ∧ wr = w4) (fun v12 _ => (5 - intOf v12).toNat)
            case atStart => exact ⟨-2, by omega, by omega, rfl, rfl⟩
            case round =>
              obtain ⟨k, hk1, hk2, rfl, rfl⟩ := hrel
              by_cases hk : k < 5
              · have hdk : decide (k < 5) = true := decide_eq_true hk
                have hs3 : IntKind.i64.wrap (k + 1) = k + 1 := IntWalk.i64_in _ (by omega)
                have HLa := Aside0.mk (left_any _ _ _ _ _ k HE.out.book (wf_of_i64 (by omega)))
                have HLb := Aside0.mk (refLeft_any _ _ _ _ _ k HE.out.ref HLE.out)
                generalize (lget (lput cc T L) k).getD 0 = nn at *
                generalize (lget (lput cc T L) k).isSome = bb at *
                go_wp2_with (first
                  | (go_at_call 46; refine HLa.out.mono ?_; rintro e w9 ⟨rfl, rfl⟩)
                  | (go_at_call 47; refine HLb.out.mono ?_; rintro e w9 ⟨rfl, rfl⟩))
                go_roundw
                case rel => exact ⟨k + 1, by omega, by omega, rfl, by first | rfl | trivial⟩
                case measure => simp [intOf]; omega
              · have hdk : decide (k < 5) = false := decide_eq_false hk
                go_wp2_with fail
                go_roundw
                case rel => exact ⟨i + 1, _, _, by omega, by go_num, HE⟩
                case measure => simp [intOf]; omega
          · have hwi : ∀ w, Calls Try.prog 21 #[.int .i64 x, .int .i64 4] w fun e w' => e = .returned (.int .i64 3) ∧ w' = w := fun w => by
              have := within_any x 4 w hxw (by decide) (by decide)
              rw [hs] at this
              exact this
            have HI := Aside0.mk hwi
            clear hs hs0 hs1 hwi
            go_wp2_with (first
              | (go_at_call 19; refine (HD.out _).mono ?_; rintro e w2 ⟨rfl, rfl⟩)
              | (go_at_call 21; refine (HI.out _).mono ?_; rintro e w2 ⟨rfl, rfl⟩)
              | (go_at_call 44; refine (drop_any _ _ _ _ _ cc HP.out.book hccw).mono ?_; rintro e w3 ⟨rfl, hB3, hk3⟩; have hR3 := RefAt.book HP.out.ref HP.out.book hk3)
              | (go_at_call 45; refine (refDrop_any _ _ _ _ _ cc hR3 HLL.out).mono ?_; rintro e w4 ⟨rfl, ⟨v4, hR4⟩, hk4⟩))
            have HE : Aside0 (Pl w w4 g m r T (ldel cc L) v4 (i + 1)) := ⟨HP.out.step hm hr hB3 hk3 hR4 hk4 (fun p hp => HP.out.val p (List.mem_filter.1 hp).1) (Nat.le_trans (length_ldel cc L) (Nat.le_succ_of_le HP.out.len))⟩
            have HLE : Aside0 (((ldel cc L)).length ≤ 1000000) := ⟨by have := HE.out.len; omega⟩
            clear hB3 hR4 hk3 hk4 hR3
            go_loopw [12] (fun v12 wr => ∃ k : Int, -2 ≤ k ∧ k ≤ 5 ∧ v12 = .int .i64 k ∧ wr = w4) (fun v12 _ => (5 - intOf v12).toNat)
            case atStart => exact ⟨-2, by omega, by omega, rfl, rfl⟩
            case round =>
              obtain ⟨k, hk1, hk2, rfl, rfl⟩ := hrel
              by_cases hk : k < 5
              · have hdk : decide (k < 5) = true := decide_eq_true hk
                have hs3 : IntKind.i64.wrap (k + 1) = k + 1 := IntWalk.i64_in _ (by omega)
                have HLa := Aside0.mk (left_any _ _ _ _ _ k HE.out.book (wf_of_i64 (by omega)))
                have HLb := Aside0.mk (refLeft_any _ _ _ _ _ k HE.out.ref HLE.out)
                generalize (lget (ldel cc L) k).getD 0 = nn at *
                generalize (lget (ldel cc L) k).isSome = bb at *
                go_wp2_with (first
                  | (go_at_call 46; refine HLa.out.mono ?_; rintro e w9 ⟨rfl, rfl⟩)
                  | (go_at_call 47; refine HLb.out.mono ?_; rintro e w9 ⟨rfl, rfl⟩))
                go_roundw
                case rel => exact ⟨k + 1, by omega, by omega, rfl, by first | rfl | trivial⟩
                case measure => simp [intOf]; omega
              · have hdk : decide (k < 5) = false := decide_eq_false hk
                go_wp2_with fail
                go_roundw
                case rel => exact ⟨i + 1, _, _, by omega, by go_num, HE⟩
                case measure => simp [intOf]; omega
        · go_wp2_with fail
          go_ret
          exact ⟨rfl, HP.out.bel⟩
end Go.Proofs.Ythlohppeaellpaa.Bk
