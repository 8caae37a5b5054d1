/- The reference's book of leases: heard, and a tick. Each theorem bears its own conditions. -/
import Derived.Test.YthlohppeaellpaaRb
/-! The reference's book of leases: heard, and a tick. -/
set_option linter.unusedVariables false
set_option linter.unusedSimpArgs false
namespace Go.Proofs.Ythlohppeaellpaa.Rb
open Go.RowKit Go.Proofs.YthlohppeaellpaaW.PrintWords Go.Proofs.Ythlohppeaellpaa.Kb Go.Proofs.Ythlohppeaellpaa.Mp
theorem books_any (t : Int) (w : World) : Calls Try.prog 38 #[.int .i64 t] w fun e w' => e = .returned (.pointer (some ⟨w.heap.size, 0, none⟩)) ∧ RefAt w' w.heap.size (min (max t 1) 65535) (.slice none 0 0) [] ∧ Below w.heap.size w w' := by
  have hb : ∀ (x : Int) (W : World), (Instr.build 127 #[(0, .int .i64 x)]).run Try.prog W = .ok (.agg #[.int .i64 x, .slice none 0 0]) W := fun _ _ => by kernel_rfl
  rcases (show t ≤ 1 ∨ (1 < t ∧ t < 65535) ∨ 65535 ≤ t by omega) with h1 | ⟨h1, h2⟩ | h1
  · have e1 : min (max t 1) 65535 = 1 := by omega
    have d1 : decide (1 < t) = false := decide_eq_false (by omega)
    go_enter Try.func38, Try.ntmps38
    go_wp2
    all_goals
      go_ret
      exact ⟨rfl, ⟨by first | exact heap_new rfl | (rw [e1]; exact heap_new rfl), Kd.R_nil _ _ _ _ _⟩, (by repeat (first | exact Below.refl _ _ | with_reducible apply below_alloc | with_reducible apply pw_below_drewN | with_reducible apply below_drew | (with_reducible refine Below.setCell ?_ (by simp) _) | (with_reducible refine Below.setCell ?_ (by omega) _)))⟩
  · have e1 : min (max t 1) 65535 = t := by omega
    have d1 : ¬ t ≤ 1 := by omega
    have d2 : t ≤ 65535 := by omega
    go_enter Try.func38, Try.ntmps38
    go_wp2
    all_goals
      go_ret
      exact ⟨rfl, ⟨by first | exact heap_new rfl | (rw [e1]; exact heap_new rfl), Kd.R_nil _ _ _ _ _⟩, (by repeat (first | exact Below.refl _ _ | with_reducible apply below_alloc | with_reducible apply pw_below_drewN | with_reducible apply below_drew | (with_reducible refine Below.setCell ?_ (by simp) _) | (with_reducible refine Below.setCell ?_ (by omega) _)))⟩
  · have e1 : min (max t 1) 65535 = 65535 := by omega
    have d1 : ¬ t ≤ 1 := by omega
    go_enter Try.func38, Try.ntmps38
    go_wp2
    all_goals
      go_ret
      exact ⟨rfl, ⟨by first | exact heap_new rfl | (rw [e1]; exact heap_new rfl), Kd.R_nil _ _ _ _ _⟩, (by repeat (first | exact Below.refl _ _ | with_reducible apply below_alloc | with_reducible apply pw_below_drewN | with_reducible apply below_drew | (with_reducible refine Below.setCell ?_ (by simp) _) | (with_reducible refine Below.setCell ?_ (by omega) _)))⟩
theorem lput_at (o t : Int) : ∀ (M : List (Int × Int)) (k : Nat), k ≤ M.length → (∀ p ∈ M.take k, p.1 < o) → (∀ h : k < M.length, o < M[k].1) → lput o t M = M.take k ++ (o, t) :: M.drop k
  | [], k, hk, _, _ => by simp [lput]
  | p :: r, 0, _, _, h2 => by
    have := h2 (by simp)
    simp at this
    simp [lput, this]
  | p :: r, k + 1, hk, h1, h2 => by
    have hp : p.1 < o := h1 p (by simp)
    have ih := lput_at o t r k (by simpa using hk) (fun q hq => h1 q (by simp [hq])) (fun h => by have h3 := h2 (by simpa using h); rwa [List.getElem_cons_succ] at h3)
    unfold lput
    rw [if_neg (by omega), if_neg (by omega), ih]
    simp
theorem lput_ldel (o t : Int) {L : List (Int × Int)} (h : Srt L) : lput o t (ldel o L) = lput o t L := by
  refine srt_ext (srt_put _ _ (srt_del _ h)) (srt_put _ _ h) (fun k => ?_)
  rw [lget_lput, lget_lput, lget_ldel]
  by_cases hk : k = o <;> simp [hk]
theorem cutL {A : Option Addr} {c : Nat} (M : List (Int × Int)) (k : Nat) (hk : k ≤ M.length) (hc : M.length ≤ c) : ∃ A', (∀ W : World, (Instr.slice 125 (.slice A M.length c) (some (.int .i64 k)) none none).run Try.prog W = .ok (.slice A' (M.drop k).length (c - k)) W) ∧ ∀ w, kL.C w A M.length M → kL.C w A' (M.drop k).length (M.drop k) := by
  obtain ⟨i, hi, hz⟩ := Option.map_eq_some_iff.1 infoL
  simp only [Prod.mk.injEq] at hz
  refine ⟨if c = k then A else A.map (·.add (k * 2)), fun W => ?_, fun w hC => Kd.C_drop hC hk hc⟩
  have := cut_from 125 130 .i64 Try.underlying125 hi 2 hz.2.1 A M.length c (k : Int) (by omega) (by omega) W
  rw [this, List.length_drop]
  rfl
set_option maxHeartbeats 2000000 in
set_option maxRecDepth 100000 in
theorem refHear_any (w : World) (r : Nat) (t : Int) (v : Value) (L : List (Int × Int)) (o : Int) (h : RefAt w r t v L) (hs : Srt L) (hn : L.length ≤ 1000000) :
    Calls Try.prog 43 #[.pointer (some ⟨r, 0, none⟩), .int .i64 o] w fun e w' => e = .returned (.tuple #[]) ∧ (∃ v', RefAt w' r t v' (lput o t L)) ∧ Only w w' (· = r) := by
  have hbl : ∀ (x y : Int) (W : World), (Instr.build 130 #[(0, .int .i64 x), (1, .int .i64 y)]).run Try.prog W = .ok (.agg #[.int .i64 x, .int .i64 y]) W := fun _ _ _ => by kernel_rfl
  go_enter Try.func43, Try.ntmps43
  go_wp2_with (go_at_call 45; refine (refDrop_any _ _ _ _ _ _ h hn).mono ?_; rintro e w1 ⟨rfl, ⟨v1, h1⟩, hk1⟩)
  have hne : ∀ p ∈ ldel o L, p.1 ≠ o := fun p hp => by have := (List.mem_filter.1 hp).2; simpa using this
  have hlen : (ldel o L).length ≤ L.length := List.length_filter_le _ _
  have HQ := Aside0.mk (lput_ldel o t hs)
  generalize ldel o L = M at *
  obtain ⟨A, c, rfl, hc, hC⟩ := h1.reads
  have HH := Aside0.mk h1.cell
  have HC := Aside0.mk hC
  have HK := Aside0.mk hk1
  clear hC h1 hk1 h
  go_loopw [4, 5] (fun v4 v5 wr => ∃ (k : Nat) (u : Value), k ≤ M.length ∧ v5 = .int .i64 k ∧ u = v4 ∧ Aside0 (kL.R 130 wr w1.heap.size (fun _ => True) u (M.take k)) ∧ Aside0 (∀ p ∈ M.take k, p.1 < o) ∧ Aside0 (Below w1.heap.size w1 wr)) (fun _ v5 _ => M.length - (intOf v5).toNat)
  case atStart => exact ⟨0, _, Nat.zero_le _, rfl, rfl, ⟨Kd.R_nil _ _ _ _ _⟩, ⟨by simp⟩, ⟨Below.refl _ _⟩⟩
  case round =>
    obtain ⟨k, u, hk, rfl, rfl, HR, HL, HW⟩ := hrel
    have hcell := (HW.out.block r (lt_of_block HH.out)).trans HH.out
    have hb := (blk_cell hcell 1).trans rfl
    have hb0 := (blk_cell hcell 0).trans rfl
    have hCw := Kd.C_below HC.out HW.out
    have htl : (M.take k).length = k := by rw [List.length_take]; omega
    obtain ⟨A4, c4, rfl, _, _⟩ := Kd.R_reads HR.out
    have hsz := HW.out.size
    by_cases hin : ∃ h : k < M.length, M[k].1 < o
    · obtain ⟨hlt, he⟩ := hin
      obtain ⟨ad, rfl, hx0, hx1⟩ := at_L hCw k hlt
      have hq : decide (M[k].1 < o) = true := decide_eq_true he
      have HS := Aside0.mk (show M.take (k + 1) = M.take k ++ [M[k]] by rw [List.take_add_one, List.getElem?_eq_getElem hlt]; rfl)
      have HL2 : Aside0 (∀ p ∈ M.take (k + 1), p.1 < o) := ⟨fun p hp => by
        rw [HS.out] at hp
        rcases List.mem_append.1 hp with hp | hp
        · exact HL.out p hp
        · obtain rfl := List.mem_singleton.1 hp
          exact he⟩
      have HP := Aside0.mk (kL_made wr w1.heap.size (fun _ => False) M[k])
      clear he
      generalize M[k].1 = x at *
      generalize M[k].2 = y at *
      go_wp2_with (at_builtin; refine Kd.R_append kL (w0 := wr) w1.heap.size rfl (.tmp 31) (.tmp 39) 125 130 (.agg #[.int .i64 0, .int .i64 0]) 16 rfl Try.underlying125 infoL rfl (by decide) (by decide) _ _ M[k] [.int .i64 x, .int .i64 y] (fun _ => True) (fun _ => False) rfl rfl HP.out (fun _ h => h.elim) (fun _ _ => trivial) HR.out (Below.refl _ _) hsz (by omega) ?_; intro v1 w2 hR1 hB1 hg1 hat)
      go_roundw
      case rel => exact ⟨k + 1, _, by omega, by go_num, rfl, ⟨by rw [HS.out]; exact hR1⟩, HL2, ⟨HW.out.trans hB1⟩⟩
      case measure => simp [intOf]; omega
    · have HE : Aside0 (lput o t M = (M.take k ++ [(o, t)]) ++ M.drop k) := ⟨by
        rw [lput_at o t M k hk HL.out (fun h => by
          have h1 : ¬ M[k].1 < o := fun e => hin ⟨h, e⟩
          have h2 := hne _ (List.getElem_mem h)
          omega)]
        simp⟩
      obtain ⟨A', hcut, hC'⟩ := cutL (A := A) (c := c) M k hk hc
      have hYl : (M.drop k).length ≤ M.length := by rw [List.length_drop]; omega
      have HX := Aside0.mk hC'
      have hwf := Aside0.mk hlen
      clear hC'
      rcases (show k < M.length ∨ ¬ k < M.length from Nat.lt_or_ge k M.length |>.imp id Nat.not_lt.2) with hlt | hlt
      · obtain ⟨ad, rfl, hx0, hx1⟩ := at_L hCw k hlt
        have hq : decide (M[k].1 < o) = false := decide_eq_false (fun e => hin ⟨hlt, e⟩)
        clear hin
        generalize M[k].1 = x at *
        generalize M[k].2 = y at *
        generalize M.drop k = Y at *
        generalize M.take k = X at *
        subst htl
        have hr1 : r < w1.heap.size := lt_of_block HH.out
        go_wp2_with (first
          | (at_builtin; refine Kd.R_append kL (w0 := wr) w1.heap.size rfl (.tmp 43) (.tmp 50) 125 130 (.agg #[.int .i64 0, .int .i64 0]) 16 rfl Try.underlying125 infoL rfl (by decide) (by decide) _ _ (o, t) [.int .i64 o, .int .i64 t] (fun _ => True) (fun _ => False) rfl rfl (kL_made _ _ _ _) (fun _ h => h.elim) (fun _ _ => trivial) HR.out (Below.refl _ _) hsz (by omega) ?_; intro v1 w2 hR1 hB1 hg1 hat; have hc2 := (hB1.block r hr1).trans hcell; have hb2 := (blk_cell hc2 1).trans rfl)
          | (at_builtin; refine Kd.R_append_rows kL (Rr := kL.K w2) (w0 := w2) w1.heap.size rfl (.tmp 53) (.tmp 59) 125 130 (.agg #[.int .i64 0, .int .i64 0]) 16 rfl Try.underlying125 infoL rfl (by decide) (by decide) _ _ Y _ _ _ (fun _ => True) (fun _ => False) rfl rfl hR1 (HX.out w2 (Kd.C_below HC.out (HW.out.trans hB1))) (fun x cs h => by rw [kL_open h]; exact kL_made _ _ _ _) (fun _ h => h.elim) (fun _ _ => trivial) (Below.refl _ _) (Nat.le_trans hsz hB1.size) (by simp; omega) ?_; intro v2 w3 hR2 hB2 hg2 hat2; obtain ⟨A6, c6, rfl, _, _⟩ := Kd.R_reads hR2; have hc3 := (hB2.block r hr1).trans hc2; have hb3 := (blk_cell hc3 1).trans rfl; have hf3 := blk_frozen hc3 1))
        go_end0
        exact ⟨rfl, ⟨_, RefAt.put hc3 (by rw [← HQ.out, HE.out]; rw [show (X ++ [(o, t)] ++ Y).length = X.length + (Y.length + 1) by simp] at hR2; exact hR2)⟩, (HK.out.below ((HW.out.trans hB1).trans hB2)).set rfl _⟩
      · clear hin
        generalize M.drop k = Y at *
        generalize M.take k = X at *
        subst htl
        have hr1 : r < w1.heap.size := lt_of_block HH.out
        go_wp2_with (first
          | (at_builtin; refine Kd.R_append kL (w0 := wr) w1.heap.size rfl (.tmp 43) (.tmp 50) 125 130 (.agg #[.int .i64 0, .int .i64 0]) 16 rfl Try.underlying125 infoL rfl (by decide) (by decide) _ _ (o, t) [.int .i64 o, .int .i64 t] (fun _ => True) (fun _ => False) rfl rfl (kL_made _ _ _ _) (fun _ h => h.elim) (fun _ _ => trivial) HR.out (Below.refl _ _) hsz (by omega) ?_; intro v1 w2 hR1 hB1 hg1 hat; have hc2 := (hB1.block r hr1).trans hcell; have hb2 := (blk_cell hc2 1).trans rfl)
          | (at_builtin; refine Kd.R_append_rows kL (Rr := kL.K w2) (w0 := w2) w1.heap.size rfl (.tmp 53) (.tmp 59) 125 130 (.agg #[.int .i64 0, .int .i64 0]) 16 rfl Try.underlying125 infoL rfl (by decide) (by decide) _ _ Y _ _ _ (fun _ => True) (fun _ => False) rfl rfl hR1 (HX.out w2 (Kd.C_below HC.out (HW.out.trans hB1))) (fun x cs h => by rw [kL_open h]; exact kL_made _ _ _ _) (fun _ h => h.elim) (fun _ _ => trivial) (Below.refl _ _) (Nat.le_trans hsz hB1.size) (by simp; omega) ?_; intro v2 w3 hR2 hB2 hg2 hat2; obtain ⟨A6, c6, rfl, _, _⟩ := Kd.R_reads hR2; have hc3 := (hB2.block r hr1).trans hc2; have hb3 := (blk_cell hc3 1).trans rfl; have hf3 := blk_frozen hc3 1))
        go_end0
        exact ⟨rfl, ⟨_, RefAt.put hc3 (by rw [← HQ.out, HE.out]; rw [show (X ++ [(o, t)] ++ Y).length = X.length + (Y.length + 1) by simp] at hR2; exact hR2)⟩, (HK.out.below ((HW.out.trans hB1).trans hB2)).set rfl _⟩
end Go.Proofs.Ythlohppeaellpaa.Rb
