/- The reference's book of leases. Each theorem bears its own conditions. -/
import Derived.Test.YthlohppeaellpaaTk
import Derived.Test.YthlohppeaellpaaLw
/-! The reference's book of leases. -/
set_option linter.unusedVariables false
set_option linter.unusedSimpArgs false
namespace Go.Proofs.Ythlohppeaellpaa.Rb
open Go.RowKit Go.Proofs.YthlohppeaellpaaW.PrintWords Go.Proofs.Ythlohppeaellpaa.Kb Go.Proofs.Ythlohppeaellpaa.Mp
def kL : Kd (Int × Int) := Kd.pair (Kd.int .i64) (Kd.int .i64)
theorem kL_open {w : World} {x : Int × Int} {cs : List Value} (h : kL.K w x cs) : cs = [.int .i64 x.1, .int .i64 x.2] := by
  obtain ⟨_, _, rfl, rfl, rfl⟩ := h
  exact rfl
theorem kL_made (w : World) (base : Nat) (ok : Nat → Prop) (x : Int × Int) : kL.M w base ok x [.int .i64 x.1, .int .i64 x.2] := ⟨_, _, rfl, rfl, rfl⟩
theorem at_L {w : World} {A : Option Addr} {xs : List (Int × Int)} (h : kL.C w A xs.length xs) (i : Nat) (h1 : i < xs.length) : ∃ ad, A = some ad ∧ w.cell? (ad.add (i * 2)) = some (.int .i64 xs[i].1) ∧ w.cell? ⟨(ad.add (i * 2)).block, (ad.add (i * 2)).off + 1, none⟩ = some (.int .i64 xs[i].2) := by
  obtain ⟨ad, c, e, _, hK, hc0⟩ := Kd.C_get h (0, 0) i (by omega) (by omega)
  have hc : ∀ j u, c[j]? = some u → w.cell? (ad.add (i * 2 + j)) = some u := hc0
  have e1 : xs.getD i (0, 0) = xs[i] := by simp [List.getD, List.getElem?_eq_getElem h1]
  rw [Int.toNat_natCast, e1] at hK
  obtain rfl := kL_open hK
  exact ⟨ad, e, hc 0 _ rfl, by rw [← add_field _ _ 1 (by omega)]; exact hc 1 _ rfl⟩
/-- Block r is a book of the reference: so many ticks, and the rows L. -/
structure RefAt (w : World) (r : Nat) (t : Int) (v : Value) (L : List (Int × Int)) : Prop where
  cell : w.heap[r]? = some (.cells #[.int .i64 t, v] 127 (0, 0))
  row : kL.R 130 w 0 (fun _ => True) v L
theorem RefAt.reads {w : World} {r : Nat} {t : Int} {v : Value} {L : List (Int × Int)} (h : RefAt w r t v L) : ∃ A c, v = .slice A L.length c ∧ L.length ≤ c ∧ kL.C w A L.length L := Kd.R_reads h.row
theorem RefAt.put {w : World} {r base : Nat} {t : Int} {v v' : Value} {L : List (Int × Int)} (hc : w.heap[r]? = some (.cells #[.int .i64 t, v] 127 (0, 0))) (hR : kL.R 130 w base (fun _ => True) v' L) : RefAt (w.setCell ⟨r, 1, none⟩ v') r t v' L :=
  ⟨blk_put hc 1 v' rfl, Kd.R_lower (Kd.R_set hR hc (fun q hq => by
    have : q = 130 := by simpa [kL, Kd.pair, Kd.int, Kd.scalar] using hq
    subst this
    decide) 1 v') (Nat.zero_le _)⟩
theorem refLeft_any (w : World) (r : Nat) (t : Int) (v : Value) (L : List (Int × Int)) (o : Int) (h : RefAt w r t v L) (hn : L.length ≤ 1000000) :
    Calls Try.prog 47 #[.pointer (some ⟨r, 0, none⟩), .int .i64 o] w fun e w' => e = .returned (.tuple #[.int .i64 ((lget L o).getD 0), .bool (lget L o).isSome]) ∧ w' = w := by
  obtain ⟨A, c, rfl, hc, hC⟩ := h.reads
  have hb := (blk_cell h.cell 1).trans rfl
  have HC := Aside0.mk hC
  clear hC h
  go_enter Try.func47, Try.ntmps47
  go_wp2_with fail
  go_loopw [6] (fun v6 wr => ∃ k : Nat, k ≤ L.length ∧ v6 = .int .i64 k ∧ wr = w ∧ Aside0 (lget L o = lget (L.drop k) o)) (fun v6 _ => L.length - (intOf v6).toNat)
  case atStart => exact ⟨0, Nat.zero_le _, rfl, rfl, ⟨by rw [List.drop_zero]⟩⟩
  case round =>
    obtain ⟨k, hk, rfl, rfl, HF⟩ := hrel
    by_cases hlt : k < L.length
    · obtain ⟨ad, rfl, hx0, hx1⟩ := at_L HC.out k hlt
      have hdr := List.drop_eq_getElem_cons hlt
      by_cases he : L[k].1 = o
      · have hq : (L[k].1 == o) = true := by simp [he]
        have HQ := Aside0.mk (show lget L o = some L[k].2 by rw [HF.out, hdr, lget_cons, if_pos he])
        clear he hdr
        generalize L[k].1 = x at *
        generalize L[k].2 = y at *
        go_wp2_with fail
        go_ret2
        exact ⟨by rw [HQ.out]; rfl, rfl⟩
      · have hq : (L[k].1 == o) = false := by simp [he]
        have HQ := Aside0.mk (show lget L o = lget (L.drop (k + 1)) o by rw [HF.out, hdr, lget_cons, if_neg he])
        clear he hdr
        generalize L[k].1 = x at *
        generalize L[k].2 = y at *
        go_wp2_with fail
        go_roundw
        case rel => exact ⟨k + 1, by omega, by go_num, by first | rfl | trivial, HQ⟩
        case measure => simp [intOf]; omega
    · have hn : lget L o = none := by rw [HF.out, List.drop_of_length_le (by omega)]; rfl
      go_wp2_with fail
      go_ret2
      exact ⟨by rw [hn]; rfl, rfl⟩
theorem infoL : (Try.prog.info? 130).map (fun i => (i.zero, i.size, i.bytes)) = some (some (.agg #[.int .i64 0, .int .i64 0]), 2, 16) := by kernel_rfl
theorem ldel_take (o : Int) (L : List (Int × Int)) (k : Nat) (hk : k < L.length) : ldel o (L.take (k + 1)) = if L[k].1 = o then ldel o (L.take k) else ldel o (L.take k) ++ [L[k]] := by
  unfold ldel
  rw [List.take_add_one, List.getElem?_eq_getElem hk, List.filter_append]
  by_cases h : L[k].1 = o <;> simp [h]
theorem ldel_len (o : Int) : ∀ (L : List (Int × Int)), decide ((ldel o L).length < L.length) = (lget L o).isSome
  | [] => rfl
  | p :: r => by
    have ih := ldel_len o r
    have h2 := List.length_filter_le (fun p : Int × Int => !(p.1 == o)) r
    unfold ldel at *
    rw [lget_cons, List.filter_cons]
    by_cases h : p.1 = o
    · simp [h]; omega
    · simp only [h, if_neg, not_false_eq_true, beq_iff_eq, Bool.not_eq_true', beq_eq_false_iff_ne, ne_eq, if_true, List.length_cons, ← ih, Nat.add_lt_add_iff_right]
set_option maxHeartbeats 1000000 in
set_option maxRecDepth 100000 in
theorem refDrop_any (w : World) (r : Nat) (t : Int) (v : Value) (L : List (Int × Int)) (o : Int) (h : RefAt w r t v L) (hn : L.length ≤ 1000000) :
    Calls Try.prog 45 #[.pointer (some ⟨r, 0, none⟩), .int .i64 o] w fun e w' => e = .returned (.bool (lget L o).isSome) ∧ (∃ v', RefAt w' r t v' (ldel o L)) ∧ Only w w' (· = r) := by
  obtain ⟨A, c, rfl, hc, hC⟩ := h.reads
  have HH := Aside0.mk h.cell
  have HC := Aside0.mk hC
  clear hC h
  go_enter Try.func45, Try.ntmps45
  go_wp2_with fail
  go_loopw [5, 6] (fun v5 v6 wr => ∃ (k : Nat) (u : Value), k ≤ L.length ∧ v6 = .int .i64 k ∧ u = v5 ∧ Aside0 (kL.R 130 wr w.heap.size (fun _ => True) u (ldel o (L.take k))) ∧ Aside0 (Below w.heap.size w wr)) (fun _ v6 _ => L.length - (intOf v6).toNat)
  case atStart => exact ⟨0, _, Nat.zero_le _, rfl, rfl, ⟨Kd.R_nil _ _ _ _ _⟩, ⟨Below.refl _ _⟩⟩
  case round =>
    obtain ⟨k, u, hk, rfl, rfl, HR, HW⟩ := hrel
    have hcell := (HW.out.block r (lt_of_block HH.out)).trans HH.out
    have hb := (blk_cell hcell 1).trans rfl
    have hCw := Kd.C_below HC.out HW.out
    obtain ⟨A5, c5, rfl, _, _⟩ := Kd.R_reads HR.out
    by_cases hlt : k < L.length
    · obtain ⟨ad, rfl, hx0, hx1⟩ := at_L hCw k hlt
      have hst := ldel_take o L k hlt
      have hlen : (ldel o (L.take k)).length ≤ L.length := Nat.le_trans (List.length_filter_le _ _) (by rw [List.length_take]; omega)
      by_cases he : L[k].1 = o
      · have hq : (L[k].1 != o) = false := by simp [he]
        rw [if_pos he] at hst
        have HS := Aside0.mk hst
        clear he hst
        generalize L[k].1 = x at *
        generalize L[k].2 = y at *
        go_wp2_with fail
        go_roundw
        case rel => exact ⟨k + 1, _, by omega, by go_num, rfl, ⟨by rw [HS.out]; exact HR.out⟩, HW⟩
        case measure => simp [intOf]; omega
      · have hq : (L[k].1 != o) = true := by simp [he]
        rw [if_neg he] at hst
        have HS := Aside0.mk hst
        clear he hst
        have HP := Aside0.mk (kL_made wr w.heap.size (fun _ => False) L[k])
        have hsz := HW.out.size
        generalize L[k].1 = x at *
        generalize L[k].2 = y at *
        go_wp2_with (at_builtin; refine Kd.R_append kL (w0 := wr) w.heap.size rfl (.tmp 27) (.tmp 35) 125 130 (.agg #[.int .i64 0, .int .i64 0]) 16 rfl Try.underlying125 infoL rfl (by decide) (by decide) _ _ L[k] [.int .i64 x, .int .i64 y] (fun _ => True) (fun _ => False) rfl rfl HP.out (fun _ h => h.elim) (fun _ _ => trivial) HR.out (Below.refl _ _) hsz (by omega) ?_; intro v1 w1 hR1 hB1 hg1 hat)
        go_roundw
        case rel => exact ⟨k + 1, _, by omega, by go_num, rfl, ⟨by rw [HS.out]; exact hR1⟩, ⟨HW.out.trans hB1⟩⟩
        case measure => simp [intOf]; omega
    · obtain rfl : k = L.length := by omega
      have hR := HR.out
      rw [List.take_length] at hR
      have hlen := ldel_len o L
      have HR2 := Aside0.mk hR
      have hfr := blk_frozen hcell 1
      obtain ⟨A5', c5', e5, _, _⟩ := Kd.R_reads hR
      clear hk hR HR
      rw [List.take_length] at *
      go_wp2_with fail
      go_ret
      exact ⟨rfl, ⟨_, RefAt.put hcell HR2.out⟩, (Only.of_below HW.out (· = r)).set rfl _⟩
end Go.Proofs.Ythlohppeaellpaa.Rb
