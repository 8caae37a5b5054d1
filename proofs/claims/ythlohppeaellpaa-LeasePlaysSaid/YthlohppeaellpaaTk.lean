/- A tick of the book. Each theorem bears its own conditions. -/
import Derived.Test.YthlohppeaellpaaBk
import Derived.Test.YthlohppeaellpaaLg
import Derived.Test.YthlohppeaellpaaShelf
import Derived.Sort.OwnSortedInts
/-! A tick of the book. -/
set_option linter.unusedVariables false
set_option linter.unusedSimpArgs false
namespace Go.Proofs.Ythlohppeaellpaa.Bk
open Go.RowKit Go.Proofs.YthlohppeaellpaaW.PrintWords Go.Proofs.Ythlohppeaellpaa.Kb Go.Proofs.Ythlohppeaellpaa.Mp
theorem infoI : (Try.prog.info? 3).map (fun i => (i.zero, i.size, i.bytes)) = some (some (.int .i64 0), 1, 8) := by kernel_rfl
theorem TickI.start (L : List (Int × Int)) : TickI L L (Maps.has (dof (Value.int .i64) L)) [] := by
  refine ⟨fun k _ => rfl, fun k hk => ?_, fun k => ⟨fun hk => (by cases hk), ?_⟩, List.nodup_nil, fun k hk => (by cases hk), rfl⟩
  · rw [dof_has] at hk
    cases hx : lget L k with
    | none => rfl
    | some n =>
      rw [hx] at hk
      cases hk
  · rintro ⟨h1, n, h2, _⟩
    rw [dof_has, h2] at h1
    cases h1
/-- What a round of the range stands in. -/
structure TickAt (w : World) (g m : Nat) (t : Int) (L0 : List (Int × Int)) (v3 : Value) (wr : World) (L : List (Int × Int)) (left : Lit → Bool) (cnt : Nat) (out : List Int) : Prop where
  it : IsR Try.prog 3 (Value.int .i64) wr m w.heap.size L left cnt
  inv : TickI L0 L left out
  own : wr.ownsRow (w.heap.size + 1) 3 1 v3 out.length (nums .i64 out)
  kept : Only w wr (· = m)
  base : w.heap.size + 1 ≤ wr.heap.size
theorem own_ne {w : World} {base b : Nat} {e : TypeId} {size n : Nat} {v : Value} {xs : List Value} (h : w.ownsRow base e size v n xs) (hb : b < base) : v.ownBlock = none ∨ v.ownBlock ≠ some b :=
  .inr (fun e => by have := own_base h b e; omega)
section
variable {w wr w2 w3 : World} {g m : Nat} {t : Int} {L0 L L2 : List (Int × Int)} {v v1 : Value} {left left2 : Lit → Bool} {cnt cnt2 : Nat} {out out2 : List Int}
theorem TickAt.go (h : TickAt w g m t L0 v wr L left cnt out) (hm : m < w.heap.size) (hg2 : wr.grownBy w2 (some w.heap.size)) (hg3 : w2.grownBy w3 (some m)) (hR : IsR Try.prog 3 (Value.int .i64) w3 m w.heap.size L2 left2 cnt2) (hi : TickI L0 L2 left2 out) : TickAt w g m t L0 v w3 L2 left2 cnt2 out :=
  ⟨hR, hi, (h.own.kept hg2 (own_ne h.own (by omega))).kept hg3 (own_ne h.own (by omega)), (h.kept.of_grown hg2 (fun k hk => .inr (by injection hk; omega))).of_grown hg3 (fun k hk => .inl (by injection hk with hk; exact hk.symm)), Nat.le_trans h.base (Nat.le_trans hg2.size hg3.size)⟩
theorem TickAt.add (h : TickAt w g m t L0 v wr L left cnt out) (hm : m < w.heap.size) (hg2 : wr.grownBy w2 (some w.heap.size)) {w4 : World} (hB : Below (w.heap.size + 1) w2 w4) (hs : w2.heap.size ≤ w4.heap.size) (hg3 : w4.grownBy w3 (some m)) (hown : w4.ownsRow (w.heap.size + 1) 3 1 v1 out2.length (nums .i64 out2)) (hR : IsR Try.prog 3 (Value.int .i64) w3 m w.heap.size L2 left2 cnt2) (hi : TickI L0 L2 left2 out2) : TickAt w g m t L0 v1 w3 L2 left2 cnt2 out2 :=
  ⟨hR, hi, hown.kept hg3 (own_ne hown (by omega)), ((h.kept.of_grown hg2 (fun k hk => .inr (by injection hk; omega))).then_ (W2 := w4) (S2 := fun k => w.heap.size + 1 ≤ k) ⟨hB.os, hB.tape, hB.output, hs, fun i _ hn => hB.block i (by omega)⟩ (fun k hk => .inr (by omega))).of_grown hg3 (fun k hk => .inl (by injection hk with hk; exact hk.symm)), Nat.le_trans h.base (Nat.le_trans hg2.size (Nat.le_trans hs hg3.size))⟩
end
/-- Behind the range: which are struck yet. -/
structure TickD (w : World) (g m : Nat) (t : Int) (M : List (Int × Int)) (out : List Int) (v : Value) (wr : World) (k : Nat) : Prop where
  map : IsM Try.prog 3 (Value.int .i64) wr m (M.filter (fun p => !(out.take k).contains p.1))
  own : wr.ownsRow (w.heap.size + 1) 3 1 v out.length (nums .i64 out)
  kept : Only w wr (· = m)
theorem TickD.start {w wr : World} {g m : Nat} {t : Int} {L0 L : List (Int × Int)} {v : Value} {left : Lit → Bool} {cnt : Nat} {out : List Int} (h : TickAt w g m t L0 v wr L left cnt out) : TickD w g m t L out v wr 0 := by
  refine ⟨?_, h.own, h.kept⟩
  have e : L.filter (fun p => !(out.take 0).contains p.1) = L := List.filter_eq_self.2 (fun _ _ => by simp)
  rw [e]
  exact h.it.isM
theorem TickD.go {w wr w2 : World} {g m : Nat} {t : Int} {M : List (Int × Int)} {v : Value} {out : List Int} {k : Nat} (h : TickD w g m t M out v wr k) (hm : m < w.heap.size) (hk : k < out.length) (hM : IsM Try.prog 3 (Value.int .i64) w2 m (ldel out[k] (M.filter (fun p => !(out.take k).contains p.1)))) (hg : wr.grownBy w2 (some m)) : TickD w g m t M out v w2 (k + 1) := by
  refine ⟨?_, h.own.kept hg (own_ne h.own (by omega)), h.kept.of_grown hg (fun k hk => .inl (by injection hk with hk; exact hk.symm))⟩
  rw [← filter_step]
  exact hM
theorem own_mono {w : World} {base b : Nat} {e : TypeId} {size n : Nat} {v : Value} {xs : List Value} (h : w.ownsRow base e size v n xs) (hb : b ≤ base) : w.ownsRow b e size v n xs :=
  ⟨h.1, h.2.imp id (fun ⟨g, cap, cur, h1, h2, h3⟩ => ⟨g, cap, cur, h1, Nat.le_trans hb h2, h3⟩)⟩
theorem own_keeps {w w2 : World} {v : Value} {m : Nat} (hg : w.grownBy w2 v.ownBlock) (hne : v.ownBlock = none ∨ v.ownBlock ≠ some m) (hm : m < w.heap.size) : w2.heap[m]? = w.heap[m]? :=
  hg.block m hm (fun e => by rcases hne with h | h <;> simp [← e] at h)
theorem sort_row (w : World) (base : Nat) (v : Value) (out : List Int) (ho : w.ownsRow base 3 1 v out.length (nums .i64 out)) (hl : out.length < 4611686018427387904) :
    Calls Try.prog 76 #[v] w fun e w' => e = .returned (.tuple #[]) ∧ w'.ownsRow base 3 1 v out.length (nums .i64 (out.mergeSort (fun x y => decide (x ≤ y)))) ∧ w.grownBy w' v.ownBlock := by
  have hlen := ho
  obtain ⟨h1, ⟨h2, h3⟩ | ⟨g, cap, cur, rfl, hb, hg, hn, hc, hcs, ht⟩⟩ := ho
  · subst h2
    have h0 : out = [] := List.length_eq_zero_iff.1 h3
    subst h0
    refine (Try.slices_Sort_int_none none 0 w).mono ?_
    rintro e w' ⟨rfl, rfl⟩
    exact ⟨rfl, by simpa using hlen, ⟨rfl, rfl, rfl, Nat.le_refl _, fun _ _ _ => rfl⟩⟩
  · have hH : Sort.Holds (Value.int .i64) w g 0 out.toArray := holds_of_blockI hg (by simpa [nums] using ht)
    refine (Try.slices_Sort_int g 0 cap out w hH (lt_of_block hg) hl).mono ?_
    rintro e w' ⟨rfl, n, os, rfl⟩
    refine ⟨rfl, ?_, grownBy_sortedI _⟩
    exact ownsRow_sortedI (by simp [List.length_mergeSort]) hb hg hn hc hcs
set_option maxHeartbeats 1000000 in
set_option maxRecDepth 100000 in
theorem tick_any (w : World) (g m : Nat) (t : Int) (L : List (Int × Int)) (h : BookAt w g m t L) (hv : ∀ p ∈ L, 1 ≤ p.2 ∧ p.2 ≤ 65535) (hn : L.length ≤ 1000000) :
    Calls Try.prog 39 #[.pointer (some ⟨g, 0, none⟩)] w fun e w' => (∃ v, e = .returned v ∧ w'.ownsRow w.heap.size 3 1 v (tickOut L).length (nums .i64 (tickOut L))) ∧ BookAt w' g m t (tickL L) ∧ Only w w' (· = m) := by
  have hc := (blk_cell h.cell 1).trans rfl
  obtain ⟨w1, hrun, hR1, hg1, hs1⟩ := h.map.range Try.underlying3 Try.underlying122
  have hT : TickAt w g m t L (.slice none 0 0) w1 L (Maps.has (dof (Value.int .i64) L)) L.length [] := ⟨hR1, TickI.start L, own_nil _ _ _ _, (Only.refl w _).of_grown hg1 (fun k hk => by cases hk), by omega⟩
  have HT := Aside0.mk hT
  clear hT
  have HH := Aside0.mk h
  have HV := Aside0.mk hv
  clear h hv hR1 hg1 hs1
  go_enter Try.func39, Try.ntmps39
  go_wp2_with fail
  clear hrun
  go_loopw [3] (fun v3 wr => ∃ u L' left cnt out, u = v3 ∧ Aside0 (TickAt w g m t L u wr L' left cnt out)) (fun _ wr => wr.rangeLeft m w.heap.size)
  case atStart => exact ⟨_, _, _, _, _, rfl, HT⟩
  case round =>
    clear HT hc
    obtain ⟨v3, L', left, cnt, out, rfl, HT⟩ := hrel
    have hm : g ≠ m := HH.out.ne
    have hcell := blk_only HH.out.cell HT.out.kept hm
    have hgr := lt_of_block hcell
    have hgw := lt_of_block HH.out.cell
    have hmw := HH.out.map.lt
    rcases HT.out.it.next Try.underlying3 0 with ⟨h0, hl0, hnext⟩ | ⟨x, n, w2, cnt', hx, hwf, hlx, hnext, hR2, hlt, hg2, hs2, hen⟩
    · have hmem : ∀ x, x ∈ out ↔ ∃ n, lget L x = some n ∧ n ≤ 1 := fun x => by rw [HT.out.inv.mem x, hl0]; simp
      have hgot : ∀ x, lget L' x = (lget L x).map (fun n => n - 1) := fun x => HT.out.inv.did x (hl0 _)
      have HD := Aside0.mk (TickD.start HT.out)
      have HP := Aside0.mk (And.intro hmem (And.intro hgot HT.out.inv))
      have HS := Aside0.mk HT.out.it.srt
      have hlo := HT.out.inv.lenOut
      obtain ⟨A, c, rfl, _⟩ := own_reads HT.out.own
      clear hmem hgot h0 hl0 HT hcell hgr
      go_wp2_with fail
      clear hnext
      go_loopw [33] (fun v33 wr => ∃ k : Nat, k ≤ out.length ∧ v33 = .int .i64 k ∧ Aside0 (TickD w g m t L' out (.slice A out.length c) wr k)) (fun v33 _ => out.length - (intOf v33).toNat)
      case atStart => exact ⟨0, Nat.zero_le _, rfl, HD⟩
      case round =>
        clear HD
        obtain ⟨k, hk, rfl, HD⟩ := hrel
        have hcell := blk_only HH.out.cell HD.out.kept hm
        by_cases hlt : k < out.length
        · obtain ⟨A', c', e1, hRd⟩ := own_reads HD.out.own
          cases e1
          obtain ⟨ad, rfl, hx⟩ := hRd.at_ k (by omega) (by omega)
          have hrd : rd out k = out[k] := by simp [rd, List.getD, List.getElem?_eq_getElem hlt]
          rw [hrd, Int.toNat_natCast] at hx
          obtain ⟨w2, hdel, hM2, hg2⟩ := HD.out.map.del Try.underlying3 Try.underlying122 (x := out[k]) (HP.out.2.2.wf _ (List.getElem_mem hlt)) 0
          have hc2 := (blk_cell hcell 1).trans rfl
          clear hRd hrd
          generalize hok : out[k] = ok at *
          go_wp2_with fail
          subst hok
          go_roundw
          case rel => exact ⟨k + 1, by omega, by go_num, ⟨HD.out.go HH.out.map.lt hlt hM2 hg2⟩⟩
          case measure => simp [intOf]; omega
        · obtain rfl : k = out.length := by omega
          clear hk
          go_wp2_with (go_at_call 76; refine (sort_row _ _ _ _ HD.out.own (by omega)).mono ?_; rintro e w2 ⟨rfl, hown, hg2⟩)
          go_ret
          refine ⟨⟨_, rfl, ?_⟩, ⟨?_, ?_⟩, ?_⟩
          · have e1 := sort_tickOut HH.out.map.srt HP.out.2.2.nodup HP.out.1
            have e2 : out.length = (tickOut L).length := by rw [← e1, List.length_mergeSort]
            rw [e1] at hown
            rw [← e2]
            exact own_mono hown (by omega)
          · exact (own_keeps hg2 (own_ne HD.out.own (b := g) (by omega)) (lt_of_block hcell)).trans hcell
          · have hM := HD.out.map
            rw [List.take_length, done_tickL HH.out.map.srt HS.out HP.out.1 HP.out.2.1] at hM
            exact hM.kept (own_keeps hg2 (own_ne HD.out.own (by omega)) hM.lt)
          · exact HD.out.kept.of_grown hg2 (fun k hk => .inr (by have := own_base HD.out.own k hk; omega))
    · have hvn : 1 ≤ n ∧ n ≤ 65535 := by
        rw [HT.out.inv.yet x hlx] at hx
        exact HV.out _ (mem_of_lget hx)
      have hstep := HT.out.inv.step HT.out.it.srt hx hlx hwf
      have hgne : g ≠ w.heap.size := by omega
      have hc2 : w2.heap[g]? = some (.cells #[.int .i64 t, .map (some m)] 124 (0, 0)) := blk_grown hcell hg2 (by simpa using hgne)
      have hwrap : IntKind.i64.wrap (n - 1) = n - 1 := IntWalk.i64_in _ (by omega)
      by_cases h1 : n ≤ 1
      · have h1' : decide (n ≤ 1) = true := decide_eq_true h1
        rw [if_pos h1] at hstep
        have HS := Aside0.mk hstep
        have hown2 := HT.out.own.kept hg2 (own_ne HT.out.own (by omega))
        have hlo := HT.out.inv.lenOut
        have hsz2 : w.heap.size + 1 ≤ w2.heap.size := Nat.le_trans HT.out.base hg2.size
        have Ho := Aside0.mk hown2
        have Hx := Aside0.mk hx
        clear hstep h1 hx hlx hown2 hs2
        go_wp2_with (at_builtin; refine print_append_num (w.heap.size + 1) rfl (.tmp 20) (.tmp 22) 22 3 .i64 8 rfl Try.underlying22 infoI (by decide) v3 out x rfl rfl Ho.out (Below.refl _ _) hsz2 (by omega) ?_; intro v1 w4 hown hB hg4 hat; obtain ⟨w5, hput, hR5, hg5⟩ := (hR2.kept (hB.block m (by omega)) (hB.block w.heap.size (by omega))).update Try.underlying3 Try.underlying122 hwf (n - 1) (by rw [Hx.out]; rfl); have hc4 := (blk_cell ((hB.block g (by omega)).trans hc2) 1).trans rfl)
        go_roundw
        case rel => exact ⟨_, _, _, _, _, rfl, ⟨HT.out.add HH.out.map.lt hg2 hB hg4.size hg5 hown hR5 HS.out⟩⟩
        case measure => rw [hR5.rg.left_eq, HT.out.it.rg.left_eq]; exact hlt
      · have h1' : decide (n ≤ 1) = false := decide_eq_false h1
        obtain ⟨w3, hput, hR3, hg3⟩ := hR2.update Try.underlying3 Try.underlying122 hwf (n - 1) (by rw [hx]; rfl)
        have hc2' := (blk_cell hc2 1).trans rfl
        rw [if_neg h1] at hstep
        have HS := Aside0.mk hstep
        clear hstep h1 hx hlx
        go_wp2_with fail
        go_roundw
        case rel => exact ⟨_, _, _, _, _, rfl, ⟨HT.out.go HH.out.map.lt hg2 hg3 hR3 HS.out⟩⟩
        case measure => rw [hR3.rg.left_eq, HT.out.it.rg.left_eq]; exact hlt
end Go.Proofs.Ythlohppeaellpaa.Bk
