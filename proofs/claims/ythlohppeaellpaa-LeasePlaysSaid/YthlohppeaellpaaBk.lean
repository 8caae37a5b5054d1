/- The program's book of leases. Each theorem bears its own conditions. -/
import Derived.Test.YthlohppeaellpaaKb
import Derived.Test.YthlohppeaellpaaMix
import Derived.Test.YthlohppeaellpaaMp
/-! The program's book of leases. -/
set_option linter.unusedVariables false
set_option linter.unusedSimpArgs false
namespace Go.Proofs.Ythlohppeaellpaa.Bk
open Go.RowKit Go.Proofs.YthlohppeaellpaaW.PrintWords Go.Proofs.Ythlohppeaellpaa.Kb Go.Proofs.Ythlohppeaellpaa.Mp
/-- Block g is a book: so many ticks, and what each has left (sorted by owner), in the map m. -/
structure BookAt (w : World) (g m : Nat) (ticks : Int) (L : List (Int × Int)) : Prop where
  cell : w.heap[g]? = some (.cells #[.int .i64 ticks, .map (some m)] 124 (0, 0))
  map : IsM Try.prog 3 (Value.int .i64) w m L
theorem BookAt.ne {w : World} {g m : Nat} {ticks : Int} {L : List (Int × Int)} (h : BookAt w g m ticks L) : g ≠ m := by
  rintro rfl
  obtain ⟨es, clock, hb, _⟩ := h.map.own
  rw [h.cell] at hb
  cases hb
theorem BookAt.kept {w w' : World} {g m : Nat} {ticks : Int} {L : List (Int × Int)} {S : Nat → Prop} (h : BookAt w g m ticks L) (hk : Only w w' S) (hg : ¬ S g) (hm : ¬ S m) : BookAt w' g m ticks L :=
  ⟨blk_only h.cell hk hg, h.map.kept (hk.block m h.map.lt hm)⟩
theorem kept_grown {w w' : World} {m : Nat} (h : w.grownBy w' (some m)) : Only w w' (· = m) := (Only.refl w _).of_grown h (fun k hk => .inl (by injection hk with hk; exact hk.symm))
theorem zeroI (W : World) : (zeroValue 3).run Try.prog W = .ok (.int .i64 0) W := by kernel_rfl
theorem new_any (t : Int) (w : World) : Calls Try.prog 37 #[.int .i64 t] w fun e w' => e = .returned (.pointer (some ⟨w.heap.size + 1, 0, none⟩)) ∧ BookAt w' (w.heap.size + 1) w.heap.size (min (max t 1) 65535) [] ∧ Below w.heap.size w w' := by
  have hmm := @run_makeMap Try.prog
  go_enter Try.func37, Try.ntmps37
  go_wp2
  · have e1 : min (max t 1) 65535 = 1 := by omega
    go_ret
    exact ⟨rfl, ⟨by rw [e1]; exact heap_new (by simp), (IsM.made w Try.prog 3 _).kept (Below.heap_alloc _ _ _ (by simp))⟩, (by repeat (first | exact Below.refl _ _ | with_reducible apply below_alloc | with_reducible apply pw_below_drewN | with_reducible apply below_drew | (with_reducible refine Below.setCell ?_ (by simp) _) | (with_reducible refine Below.setCell ?_ (by omega) _)))⟩
  · have e1 : min (max t 1) 65535 = 65535 := by omega
    go_ret
    exact ⟨rfl, ⟨by rw [e1]; exact heap_new (by simp), (IsM.made w Try.prog 3 _).kept (Below.heap_alloc _ _ _ (by simp))⟩, (by repeat (first | exact Below.refl _ _ | with_reducible apply below_alloc | with_reducible apply pw_below_drewN | with_reducible apply below_drew | (with_reducible refine Below.setCell ?_ (by simp) _) | (with_reducible refine Below.setCell ?_ (by omega) _)))⟩
  · have e1 : min (max t 1) 65535 = t := by omega
    go_ret
    exact ⟨rfl, ⟨by rw [e1]; exact heap_new (by simp), (IsM.made w Try.prog 3 _).kept (Below.heap_alloc _ _ _ (by simp))⟩, (by repeat (first | exact Below.refl _ _ | with_reducible apply below_alloc | with_reducible apply pw_below_drewN | with_reducible apply below_drew | (with_reducible refine Below.setCell ?_ (by simp) _) | (with_reducible refine Below.setCell ?_ (by omega) _)))⟩
theorem hear_any (w : World) (g m : Nat) (t : Int) (L : List (Int × Int)) (o : Int) (h : BookAt w g m t L) (ho : (Lit.int .i64 o).wf = true) (hn : L.length < maxLen) :
    Calls Try.prog 42 #[.pointer (some ⟨g, 0, none⟩), .int .i64 o] w fun e w' => e = .returned (.tuple #[]) ∧ BookAt w' g m t (lput o t L) ∧ Only w w' (· = m) := by
  have hb := h.cell
  obtain ⟨w1, hrun, hM1, hg1⟩ := (h.map.kept (w' := w.drew) rfl).put Try.underlying3 Try.underlying122 hn ho t
  go_enter Try.func42, Try.ntmps42
  refine Mix.wp_plan (fun W => W.heap[g]? = some (.cells #[.int .i64 t, .map (some m)] 124 (0, 0))) (.q 0 <| .q 1 <| .q 2 <| .q 3 <| .q 4 <| .q 5 <| .q 6 <| .q 7 <| .q 8 <| .e 9 <| .done) (by kernel_rfl) (by kernel_rfl) (by intro c d v a w h; cases d <;> exact h) (hb) ?_
  -- 0 move
  refine Mix.plan_q (by rfl) (fun K hK => ?_)
  refine Mix.q_want (by rfl) ?_
  apply Exists.intro
  refine ⟨fun W hW => ?_, hK _ ?_⟩
  · go_simp <;> rfl
  clear hK K
  (try simp only [Act.put, List.setIfInBounds_toArray, List.set_cons_zero, List.set_cons_succ])
  -- 1 nilCheck
  refine Mix.plan_q (by rfl) (fun K hK => ?_)
  refine Mix.q_want (by rfl) ?_
  apply Exists.intro
  refine ⟨fun W hW => ?_, hK _ ?_⟩
  · go_simp <;> rfl
  clear hK K
  (try simp only [Act.put, List.setIfInBounds_toArray, List.set_cons_zero, List.set_cons_succ])
  -- 2 fieldAddr
  refine Mix.plan_q (by rfl) (fun K hK => ?_)
  refine Mix.q_want (by rfl) ?_
  apply Exists.intro
  refine ⟨fun W hW => ?_, hK _ ?_⟩
  · go_simp <;> rfl
  clear hK K
  (try simp only [Act.put, List.setIfInBounds_toArray, List.set_cons_zero, List.set_cons_succ])
  -- 3 load
  refine Mix.plan_q (by rfl) (fun K hK => ?_)
  refine Mix.q_want (by rfl) ?_
  apply Exists.intro
  refine ⟨fun W hW => ?_, hK _ ?_⟩
  · have c0 := (blk_cell hW 1).trans rfl; go_simp <;> rfl
  clear hK K
  (try simp only [Act.put, List.setIfInBounds_toArray, List.set_cons_zero, List.set_cons_succ])
  -- 4 move
  refine Mix.plan_q (by rfl) (fun K hK => ?_)
  refine Mix.q_want (by rfl) ?_
  apply Exists.intro
  refine ⟨fun W hW => ?_, hK _ ?_⟩
  · go_simp <;> rfl
  clear hK K
  (try simp only [Act.put, List.setIfInBounds_toArray, List.set_cons_zero, List.set_cons_succ])
  -- 5 move
  refine Mix.plan_q (by rfl) (fun K hK => ?_)
  refine Mix.q_want (by rfl) ?_
  apply Exists.intro
  refine ⟨fun W hW => ?_, hK _ ?_⟩
  · go_simp <;> rfl
  clear hK K
  (try simp only [Act.put, List.setIfInBounds_toArray, List.set_cons_zero, List.set_cons_succ])
  -- 6 nilCheck
  refine Mix.plan_q (by rfl) (fun K hK => ?_)
  refine Mix.q_want (by rfl) ?_
  apply Exists.intro
  refine ⟨fun W hW => ?_, hK _ ?_⟩
  · go_simp <;> rfl
  clear hK K
  (try simp only [Act.put, List.setIfInBounds_toArray, List.set_cons_zero, List.set_cons_succ])
  -- 7 fieldAddr
  refine Mix.plan_q (by rfl) (fun K hK => ?_)
  refine Mix.q_want (by rfl) ?_
  apply Exists.intro
  refine ⟨fun W hW => ?_, hK _ ?_⟩
  · go_simp <;> rfl
  clear hK K
  (try simp only [Act.put, List.setIfInBounds_toArray, List.set_cons_zero, List.set_cons_succ])
  -- 8 load
  refine Mix.plan_q (by rfl) (fun K hK => ?_)
  refine Mix.q_want (by rfl) ?_
  apply Exists.intro
  refine ⟨fun W hW => ?_, hK _ ?_⟩
  · have c0 := (blk_cell hW 0).trans rfl; go_simp <;> rfl
  clear hK K
  (try simp only [Act.put, List.setIfInBounds_toArray, List.set_cons_zero, List.set_cons_succ])
  -- 9 mapUpdate
  refine Mix.plan_e (by rfl) (fun K hK => ?_)
  go_wp2_with fail
  refine hK _ _ ?_ ?_
  · exact blk_grown (w := w.drew) hb hg1 (by simp; exact h.ne)
  clear hK K
  refine Mix.plan_done ?_
  go_wp2
  go_end0
  exact ⟨rfl, ⟨blk_grown (w := w.drew) hb hg1 (by simp; exact h.ne), hM1⟩, (Only.refl w (· = m)).drew.then_ (kept_grown hg1) (fun _ h => .inl h)⟩
theorem left_any (w : World) (g m : Nat) (t : Int) (L : List (Int × Int)) (o : Int) (h : BookAt w g m t L) (ho : (Lit.int .i64 o).wf = true) :
    Calls Try.prog 46 #[.pointer (some ⟨g, 0, none⟩), .int .i64 o] w fun e w' => e = .returned (.tuple #[.int .i64 ((lget L o).getD 0), .bool (lget L o).isSome]) ∧ w' = w := by
  have hc := (blk_cell h.cell 1).trans rfl
  have hrun := h.map.look Try.underlying3 Try.underlying122 zeroI ho
  have e1 : ((lget L o).map (Value.int .i64)).getD (.int .i64 0) = .int .i64 ((lget L o).getD 0) := by cases lget L o <;> rfl
  rw [e1] at hrun
  go_enter Try.func46, Try.ntmps46
  go_wp2
  go_ret2
  exact ⟨rfl, rfl⟩
theorem drop_any (w : World) (g m : Nat) (t : Int) (L : List (Int × Int)) (o : Int) (h : BookAt w g m t L) (ho : (Lit.int .i64 o).wf = true) :
    Calls Try.prog 44 #[.pointer (some ⟨g, 0, none⟩), .int .i64 o] w fun e w' => e = .returned (.bool (lget L o).isSome) ∧ BookAt w' g m t (ldel o L) ∧ Only w w' (· = m) := by
  have hc := (blk_cell h.cell 1).trans rfl
  have hrun := h.map.look Try.underlying3 Try.underlying122 zeroI ho
  have e1 : ((lget L o).map (Value.int .i64)).getD (.int .i64 0) = .int .i64 ((lget L o).getD 0) := by cases lget L o <;> rfl
  rw [e1] at hrun
  clear e1
  obtain ⟨w1, hdel, hM1, hg1⟩ := h.map.del Try.underlying3 Try.underlying122 ho 0
  go_enter Try.func44, Try.ntmps44
  go_wp2
  go_ret
  exact ⟨rfl, ⟨blk_grown h.cell hg1 (by simp; exact h.ne), hM1⟩, kept_grown hg1⟩
end Go.Proofs.Ythlohppeaellpaa.Bk
