/- The reference's book of leases: a tick. Each theorem bears its own conditions. -/
import Derived.Test.YthlohppeaellpaaRc
/-! The reference's book of leases: a tick. -/
set_option linter.unusedVariables false
set_option linter.unusedSimpArgs false
namespace Go.Proofs.Ythlohppeaellpaa.Rb
open Go.RowKit Go.Proofs.YthlohppeaellpaaW.PrintWords Go.Proofs.Ythlohppeaellpaa.Kb Go.Proofs.Ythlohppeaellpaa.Mp
theorem ends_apart {w : World} {b b' : Nat} {e e' : TypeId} {s s' n n' : Nat} {v v' : Value} {xs xs' : List Value} (h : w.ownsRow b e s v n xs) (h' : w.ownsRow b' e' s' v' n' xs') (hne : e ≠ e') : v.ownBlock = none ∨ v.ownBlock ≠ v'.ownBlock := own_type_ne h h' hne
theorem L_kept {w w1 : World} {base : Nat} {v v' : Value} {L : List (Int × Int)} {b' s' n' : Nat} {e' : TypeId} {xs' : List Value} (h : kL.R 130 w base (fun _ => True) v L) (h' : w.ownsRow b' e' s' v' n' xs') (hne : e' ≠ 130) (hg : w.grownBy w1 v'.ownBlock) : kL.R 130 w1 base (fun _ => True) v L := by
  refine Kd.R_mono (Kd.R_grown (ok := fun k => True ∧ some k ≠ v'.ownBlock) (Kd.R_mono (Kd.R_bound h) (fun k hk => ⟨trivial, fun e => ?_⟩)) hg (fun k hk => hk.2)) (fun _ _ => trivial)
  obtain ⟨_, _, _, q, hq, cells, hc⟩ := hk
  have : q = 130 := by simpa [kL, Kd.pair, Kd.int, Kd.scalar] using hq
  subst this
  obtain ⟨cells', hc'⟩ := own_typed h' k e.symm
  rw [hc] at hc'
  injection hc' with hc'
  injection hc' with _ hc'
  exact hne hc'.symm
theorem own_kept_L {w w1 : World} {base b' n' : Nat} {v v' : Value} {L : List (Int × Int)} {xs' : List Value} (h : kL.R 130 w base (fun _ => True) v L) (h' : w.ownsRow b' 3 1 v' n' xs') (hg : w.grownBy w1 v.ownBlock) : w1.ownsRow b' 3 1 v' n' xs' := by
  obtain ⟨inner, ho⟩ := Kd.R_own h
  exact own_other h' hg (own_type_ne h' ho (by decide))
theorem out_take (L : List (Int × Int)) (k : Nat) (hk : k < L.length) : tickOut (L.take (k + 1)) = if L[k].2 ≤ 1 then tickOut (L.take k) ++ [L[k].1] else tickOut (L.take k) := by
  unfold tickOut
  rw [List.take_add_one, List.getElem?_eq_getElem hk, List.filter_append, List.map_append]
  by_cases h : L[k].2 ≤ 1 <;> simp [h]
theorem tickL_take (L : List (Int × Int)) (k : Nat) (hk : k < L.length) : tickL (L.take (k + 1)) = if L[k].2 ≤ 1 then tickL (L.take k) else tickL (L.take k) ++ [(L[k].1, L[k].2 - 1)] := by
  unfold tickL
  rw [List.take_add_one, List.getElem?_eq_getElem hk, List.filter_append, List.map_append]
  by_cases h : L[k].2 ≤ 1
  · rw [if_pos h]; simp [show ¬ 1 < L[k].2 by omega]
  · rw [if_neg h]; simp [show 1 < L[k].2 by omega]
theorem out_short (L : List (Int × Int)) (k : Nat) : (tickOut (L.take k)).length ≤ L.length := by
  unfold tickOut
  rw [List.length_map]
  exact Nat.le_trans (List.length_filter_le _ _) (by rw [List.length_take]; omega)
theorem tickL_short (L : List (Int × Int)) (k : Nat) : (tickL (L.take k)).length ≤ L.length := by
  unfold tickL
  rw [List.length_map]
  exact Nat.le_trans (List.length_filter_le _ _) (by rw [List.length_take]; omega)
theorem infoI : (Try.prog.info? 3).map (fun i => (i.zero, i.size, i.bytes)) = some (some (.int .i64 0), 1, 8) := by kernel_rfl
structure RTick (w wr : World) (L : List (Int × Int)) (l out : Value) (k : Nat) : Prop where
  row : kL.R 130 wr w.heap.size (fun _ => True) l (tickL (L.take k))
  own : wr.ownsRow w.heap.size 3 1 out (tickOut (L.take k)).length (nums .i64 (tickOut (L.take k)))
  bel : Below w.heap.size w wr
set_option maxHeartbeats 2000000 in
set_option maxRecDepth 100000 in
theorem refTick_any (w : World) (r : Nat) (t : Int) (v : Value) (L : List (Int × Int)) (h : RefAt w r t v L) (hv : ∀ p ∈ L, 1 ≤ p.2 ∧ p.2 ≤ 65535) (hn : L.length ≤ 1000000) :
    Calls Try.prog 41 #[.pointer (some ⟨r, 0, none⟩)] w fun e w' => (∃ A c, e = .returned (.slice A (tickOut L).length c) ∧ w'.ownsRow w.heap.size 3 1 (.slice A (tickOut L).length c) (tickOut L).length (nums .i64 (tickOut L))) ∧ (∃ v', RefAt w' r t v' (tickL L)) ∧ Only w w' (· = r) := by
  have hbl : ∀ (x y : Int) (W : World), (Instr.build 130 #[(0, .int .i64 x), (1, .int .i64 y)]).run Try.prog W = .ok (.agg #[.int .i64 x, .int .i64 y]) W := fun _ _ _ => by kernel_rfl
  obtain ⟨A, c, rfl, hc, hC⟩ := h.reads
  have HH := Aside0.mk h.cell
  have HC := Aside0.mk hC
  have HV := Aside0.mk hv
  clear hC h hv
  go_enter Try.func41, Try.ntmps41
  go_wp2_with fail
  go_loopw [3, 4, 5] (fun v3 v4 v5 wr => ∃ (k : Nat) (l out : Value), k ≤ L.length ∧ v5 = .int .i64 k ∧ l = v3 ∧ out = v4 ∧ Aside0 (RTick w wr L l out k)) (fun _ _ v5 _ => L.length - (intOf v5).toNat)
  case atStart => exact ⟨0, _, _, Nat.zero_le _, rfl, rfl, rfl, ⟨Kd.R_nil _ _ _ _ _, own_nil _ _ _ _, Below.refl _ _⟩⟩
  case round =>
    obtain ⟨k, l, out, hk, rfl, rfl, rfl, HT⟩ := hrel
    have hr1 : r < w.heap.size := lt_of_block HH.out
    have hcell := (HT.out.bel.block r hr1).trans HH.out
    have hb := (blk_cell hcell 1).trans rfl
    have hCw := Kd.C_below HC.out HT.out.bel
    have hsz := HT.out.bel.size
    have hso := out_short L k
    have hsl := tickL_short L k
    obtain ⟨A3, c3, rfl, _, _⟩ := Kd.R_reads HT.out.row
    obtain ⟨A4, c4, rfl, _⟩ := own_reads HT.out.own
    by_cases hlt : k < L.length
    · obtain ⟨ad, rfl, hx0, hx1⟩ := at_L hCw k hlt
      have h1v := HV.out _ (List.getElem_mem hlt)
      have ho := out_take L k hlt
      have hl := tickL_take L k hlt
      by_cases he : L[k].2 ≤ 1
      · have hq : (L[k].2 == 1) = true := by simp; omega
        rw [if_pos he] at ho hl
        have HO := Aside0.mk ho
        have HL := Aside0.mk hl
        clear he h1v ho hl
        generalize L[k].1 = x at *
        generalize L[k].2 = y at *
        go_wp2_with (at_builtin; refine print_append_num (w0 := wr) w.heap.size rfl (.tmp 24) (.tmp 33) 22 3 .i64 8 rfl Try.underlying22 infoI (by decide) _ _ x rfl rfl HT.out.own (Below.refl _ _) hsz (by omega) ?_; intro v1 w2 hown hB1 hg1 hat)
        go_roundw
        case rel => exact ⟨k + 1, _, _, by omega, by go_num, rfl, rfl, ⟨by rw [HL.out]; exact L_kept HT.out.row HT.out.own (by decide) hg1, by rw [HO.out]; exact hown, HT.out.bel.trans hB1⟩⟩
        case measure => simp [intOf]; omega
      · have hq : (L[k].2 == 1) = false := by simp; omega
        rw [if_neg he] at ho hl
        have HO := Aside0.mk ho
        have HL := Aside0.mk hl
        have hwr : IntKind.i64.wrap (L[k].2 - 1) = L[k].2 - 1 := IntWalk.i64_in _ (by omega)
        clear he h1v ho hl
        generalize hxk : L[k].1 = x at *
        generalize hyk : L[k].2 = y at *
        have HXK := Aside0.mk hxk
        have HYK := Aside0.mk hyk
        clear hxk hyk
        go_wp2_with fail
        have HR0 := Aside0.mk (show kL.R 130 wr.drew w.heap.size (fun _ => True) (.slice A3 (tickL (L.take k)).length c3) (tickL (L.take k)) from Kd.R_below HT.out.row (below_drew (Below.refl _ _)))
        have HO0 := Aside0.mk (own_drew HT.out.own)
        have HB0 := Aside0.mk (below_drew HT.out.bel)
        have hx0' : wr.drew.cell? (ad.add (k * 2)) = some (.int .i64 x) := hx0
        have hx1' : wr.drew.cell? ⟨(ad.add (k * 2)).block, (ad.add (k * 2)).off + 1, none⟩ = some (.int .i64 y) := hx1
        have hcl' : wr.drew.heap[r]? = some (.cells #[.int .i64 t, .slice (some ad) L.length c] 127 (0, 0)) := hcell
        clear hx0 hx1 hb hcell
        refine Mix.wp_plan (fun W => W.heap[r]? = some (.cells #[.int .i64 t, .slice (some ad) L.length c] 127 (0, 0)) ∧ W.cell? (ad.add (k * 2)) = some (.int .i64 x) ∧ W.cell? ⟨(ad.add (k * 2)).block, (ad.add (k * 2)).off + 1, none⟩ = some (.int .i64 y)) (.q 0 <| .q 1 <| .q 2 <| .q 3 <| .q 4 <| .q 5 <| .q 6 <| .q 7 <| .q 8 <| .q 9 <| .q 10 <| .q 11 <| .q 12 <| .q 13 <| .q 14 <| .q 15 <| .q 16 <| .q 17 <| .q 18 <| .e 19 <| .e 20 <| .q 21 <| .done) (by kernel_rfl) (by kernel_rfl) (by intro c d v a w h; cases d <;> exact h) (⟨hcl', hx0', hx1'⟩) ?_
        generalize wr.drew = W1 at *
        -- 0 move
        refine Mix.plan_q (by rfl) (fun K hK => ?_)
        refine Mix.q_want (by rfl) ?_
        apply Exists.intro
        refine ⟨fun W hW => ?_, hK _ ?_⟩
        · go_simp <;> rfl
        clear hK K
        (try simp only [Act.put, List.setIfInBounds_toArray, List.set_cons_zero, List.set_cons_succ])
        -- 1 move
        refine Mix.plan_q (by rfl) (fun K hK => ?_)
        refine Mix.q_want (by rfl) ?_
        apply Exists.intro
        refine ⟨fun W hW => ?_, hK _ ?_⟩
        · go_simp <;> rfl
        clear hK K
        (try simp only [Act.put, List.setIfInBounds_toArray, List.set_cons_zero, List.set_cons_succ])
        -- 2 nilCheck
        refine Mix.plan_q (by rfl) (fun K hK => ?_)
        refine Mix.q_want (by rfl) ?_
        apply Exists.intro
        refine ⟨fun W hW => ?_, hK _ ?_⟩
        · go_simp <;> rfl
        clear hK K
        (try simp only [Act.put, List.setIfInBounds_toArray, List.set_cons_zero, List.set_cons_succ])
        -- 3 fieldAddr
        refine Mix.plan_q (by rfl) (fun K hK => ?_)
        refine Mix.q_want (by rfl) ?_
        apply Exists.intro
        refine ⟨fun W hW => ?_, hK _ ?_⟩
        · go_simp <;> rfl
        clear hK K
        (try simp only [Act.put, List.setIfInBounds_toArray, List.set_cons_zero, List.set_cons_succ])
        -- 4 load
        refine Mix.plan_q (by rfl) (fun K hK => ?_)
        refine Mix.q_want (by rfl) ?_
        apply Exists.intro
        refine ⟨fun W hW => ?_, hK _ ?_⟩
        · have c0 := (blk_cell hW.1 1).trans rfl; have c1 := hW.2.1; have c2 := hW.2.2; go_simp <;> rfl
        clear hK K
        (try simp only [Act.put, List.setIfInBounds_toArray, List.set_cons_zero, List.set_cons_succ])
        -- 5 move
        refine Mix.plan_q (by rfl) (fun K hK => ?_)
        refine Mix.q_want (by rfl) ?_
        apply Exists.intro
        refine ⟨fun W hW => ?_, hK _ ?_⟩
        · go_simp <;> rfl
        clear hK K
        (try simp only [Act.put, List.setIfInBounds_toArray, List.set_cons_zero, List.set_cons_succ])
        -- 6 indexAddr
        refine Mix.plan_q (by rfl) (fun K hK => ?_)
        refine Mix.q_want (by rfl) ?_
        apply Exists.intro
        refine ⟨fun W hW => ?_, hK _ ?_⟩
        · go_simp <;> rfl
        clear hK K
        (try simp only [Act.put, List.setIfInBounds_toArray, List.set_cons_zero, List.set_cons_succ])
        -- 7 fieldAddr
        refine Mix.plan_q (by rfl) (fun K hK => ?_)
        refine Mix.q_want (by rfl) ?_
        apply Exists.intro
        refine ⟨fun W hW => ?_, hK _ ?_⟩
        · go_simp <;> rfl
        clear hK K
        (try simp only [Act.put, List.setIfInBounds_toArray, List.set_cons_zero, List.set_cons_succ])
        -- 8 load
        refine Mix.plan_q (by rfl) (fun K hK => ?_)
        refine Mix.q_want (by rfl) ?_
        apply Exists.intro
        refine ⟨fun W hW => ?_, hK _ ?_⟩
        · have c0 := (blk_cell hW.1 1).trans rfl; have c1 := hW.2.1; have c2 := hW.2.2; go_simp <;> rfl
        clear hK K
        (try simp only [Act.put, List.setIfInBounds_toArray, List.set_cons_zero, List.set_cons_succ])
        -- 9 move
        refine Mix.plan_q (by rfl) (fun K hK => ?_)
        refine Mix.q_want (by rfl) ?_
        apply Exists.intro
        refine ⟨fun W hW => ?_, hK _ ?_⟩
        · go_simp <;> rfl
        clear hK K
        (try simp only [Act.put, List.setIfInBounds_toArray, List.set_cons_zero, List.set_cons_succ])
        -- 10 nilCheck
        refine Mix.plan_q (by rfl) (fun K hK => ?_)
        refine Mix.q_want (by rfl) ?_
        apply Exists.intro
        refine ⟨fun W hW => ?_, hK _ ?_⟩
        · go_simp <;> rfl
        clear hK K
        (try simp only [Act.put, List.setIfInBounds_toArray, List.set_cons_zero, List.set_cons_succ])
        -- 11 fieldAddr
        refine Mix.plan_q (by rfl) (fun K hK => ?_)
        refine Mix.q_want (by rfl) ?_
        apply Exists.intro
        refine ⟨fun W hW => ?_, hK _ ?_⟩
        · go_simp <;> rfl
        clear hK K
        (try simp only [Act.put, List.setIfInBounds_toArray, List.set_cons_zero, List.set_cons_succ])
        -- 12 load
        refine Mix.plan_q (by rfl) (fun K hK => ?_)
        refine Mix.q_want (by rfl) ?_
        apply Exists.intro
        refine ⟨fun W hW => ?_, hK _ ?_⟩
        · have c0 := (blk_cell hW.1 1).trans rfl; have c1 := hW.2.1; have c2 := hW.2.2; go_simp <;> rfl
        clear hK K
        (try simp only [Act.put, List.setIfInBounds_toArray, List.set_cons_zero, List.set_cons_succ])
        -- 13 move
        refine Mix.plan_q (by rfl) (fun K hK => ?_)
        refine Mix.q_want (by rfl) ?_
        apply Exists.intro
        refine ⟨fun W hW => ?_, hK _ ?_⟩
        · go_simp <;> rfl
        clear hK K
        (try simp only [Act.put, List.setIfInBounds_toArray, List.set_cons_zero, List.set_cons_succ])
        -- 14 indexAddr
        refine Mix.plan_q (by rfl) (fun K hK => ?_)
        refine Mix.q_want (by rfl) ?_
        apply Exists.intro
        refine ⟨fun W hW => ?_, hK _ ?_⟩
        · go_simp <;> rfl
        clear hK K
        (try simp only [Act.put, List.setIfInBounds_toArray, List.set_cons_zero, List.set_cons_succ])
        -- 15 fieldAddr
        refine Mix.plan_q (by rfl) (fun K hK => ?_)
        refine Mix.q_want (by rfl) ?_
        apply Exists.intro
        refine ⟨fun W hW => ?_, hK _ ?_⟩
        · go_simp <;> rfl
        clear hK K
        (try simp only [Act.put, List.setIfInBounds_toArray, List.set_cons_zero, List.set_cons_succ])
        -- 16 load
        refine Mix.plan_q (by rfl) (fun K hK => ?_)
        refine Mix.q_want (by rfl) ?_
        apply Exists.intro
        refine ⟨fun W hW => ?_, hK _ ?_⟩
        · have c0 := (blk_cell hW.1 1).trans rfl; have c1 := hW.2.1; have c2 := hW.2.2; go_simp <;> rfl
        clear hK K
        (try simp only [Act.put, List.setIfInBounds_toArray, List.set_cons_zero, List.set_cons_succ])
        -- 17 binOp
        refine Mix.plan_q (by rfl) (fun K hK => ?_)
        refine Mix.q_want (by rfl) ?_
        apply Exists.intro
        refine ⟨fun W hW => ?_, hK _ ?_⟩
        · go_simp <;> rfl
        clear hK K
        (try simp only [Act.put, List.setIfInBounds_toArray, List.set_cons_zero, List.set_cons_succ])
        -- 18 build
        refine Mix.plan_q (by rfl) (fun K hK => ?_)
        refine Mix.q_want (by rfl) ?_
        apply Exists.intro
        refine ⟨fun W hW => ?_, hK _ ?_⟩
        · go_simp <;> rfl
        clear hK K
        (try simp only [Act.put, List.setIfInBounds_toArray, List.set_cons_zero, List.set_cons_succ])
        -- 19 buildSlice
        refine Mix.plan_e (by rfl) (fun K hK => ?_)
        go_wp2_with fail
        refine hK _ _ ?_ ?_
        · exact ⟨(by repeat (first | with_reducible exact hcl' | (with_reducible refine heap_drew ?_) | (with_reducible refine heap_drewN ?_ _) | (with_reducible refine set_other ?_ (by simp)) | (with_reducible refine set_other ?_ (by omega)) | (with_reducible refine heap_past ?_) | (refine heap_new (by simp)))), cell_past hx0' _, cell_past hx1' _⟩
        clear hK K
        -- 20 b.append
        refine Mix.plan_e (by rfl) (fun K hK => ?_)
        have hsz1 := HB0.out.size
        refine Kd.R_append kL (w0 := W1) w.heap.size rfl (.tmp 35) (.tmp 54) 125 130 (.agg #[.int .i64 0, .int .i64 0]) 16 rfl Try.underlying125 infoL rfl (by decide) (by decide) _ _ (x, y - 1) [.int .i64 x, .int .i64 (y - 1)] (fun _ => True) (fun _ => False) rfl rfl (kL_made _ _ _ _) (fun _ h => h.elim) (fun _ _ => trivial) HR0.out (Below.refl _ _) hsz1 (by omega) ?_
        intro v1 w2 hR1 hB1 hg1 hat
        go_wp2_with fail
        refine hK _ _ ?_ ?_
        · obtain ⟨ad', e, h1, h2⟩ := at_L (Kd.C_below HC.out (HB0.out.trans hB1)) k hlt
          cases e
          rw [HXK.out] at h1
          rw [HYK.out] at h2
          exact ⟨(hB1.block r hr1).trans hcl', h1, h2⟩
        clear hK K
        -- 21 assign
        refine Mix.plan_q (by rfl) (fun K hK => ?_)
        refine Mix.q_want (by rfl) ?_
        apply Exists.intro
        refine ⟨fun W hW => ?_, hK _ ?_⟩
        · go_simp <;> rfl
        clear hK K
        (try simp only [Act.put, List.setIfInBounds_toArray, List.set_cons_zero, List.set_cons_succ])
        refine Mix.plan_done ?_
        go_wp2_with fail
        go_roundw
        case rel => exact ⟨k + 1, _, _, by omega, by go_num, rfl, rfl, ⟨by rw [HL.out]; exact hR1, by rw [HO.out]; exact own_kept_L HR0.out HO0.out hg1, HB0.out.trans hB1⟩⟩
        case measure => simp [intOf]; omega
    · obtain rfl : k = L.length := by omega
      have hrow := HT.out.row
      have hown := HT.out.own
      rw [List.take_length] at hrow hown
      have HRow := Aside0.mk hrow
      have HOwn := Aside0.mk hown
      have hfr := blk_frozen hcell 1
      clear hk hrow hown
      rw [List.take_length] at *
      go_wp2_with fail
      go_ret
      exact ⟨⟨A4, c4, rfl, (own_setCell HOwn.out (p := ⟨r, 1, none⟩) (Go.Proofs.YthlohppeaellpaaW.PrintWords.own_ne HOwn.out hcell (by decide)) _)⟩, ⟨_, RefAt.put hcell HRow.out⟩, (Only.of_below HT.out.bel (· = r)).set rfl _⟩
end Go.Proofs.Ythlohppeaellpaa.Rb
