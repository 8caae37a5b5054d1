/- Sorted lists by their look-ups, and a book's tick on them. Each theorem bears its own conditions. -/
import Derived.Test.YthlohppeaellpaaMp
/-! Sorted lists by their look-ups, and a book's tick on them. -/
set_option linter.unusedVariables false
set_option linter.unusedSimpArgs false
namespace Go.Proofs.Ythlohppeaellpaa.Mp
variable {β : Type}
theorem lget_nil (k : Int) : lget ([] : List (Int × β)) k = none := rfl
theorem lget_cons (p : Int × β) (r : List (Int × β)) (k : Int) : lget (p :: r) k = if p.1 = k then some p.2 else lget r k := by
  unfold lget
  by_cases h : p.1 = k <;> simp [h]
theorem lget_lput (k : Int) (v : β) : ∀ (L : List (Int × β)) (x : Int), lget (lput k v L) x = if x = k then some v else lget L x
  | [], x => by simp only [lput, lget_cons, lget_nil]; by_cases h : k = x <;> simp [h, eq_comm]
  | p :: r, x => by
    unfold lput
    split
    · rw [lget_cons]; by_cases h : k = x <;> simp [h, eq_comm]
    · split
      · rename_i h1 h2
        rw [lget_cons, lget_cons]
        by_cases h : k = x
        · simp [h]
        · have : ¬ x = k := fun e => h e.symm
          have h3 : ¬ p.1 = x := by omega
          simp [h, this, h3]
      · rename_i h1 h2
        rw [lget_cons, lget_cons, lget_lput k v r x]
        by_cases h : p.1 = x
        · have : ¬ x = k := by omega
          simp [h, this]
        · simp [h]
theorem lget_filter_key (f : Int → Bool) : ∀ (L : List (Int × β)) (x : Int), lget (L.filter (fun p => f p.1)) x = if f x then lget L x else none
  | [], x => by simp [lget_nil]
  | p :: r, x => by
    rw [List.filter_cons]
    by_cases hf : f p.1
    · rw [if_pos hf, lget_cons, lget_cons, lget_filter_key f r x]
      by_cases h : p.1 = x
      · rw [if_pos h, if_pos h, ← h, if_pos hf]
      · rw [if_neg h, if_neg h]
    · rw [if_neg hf, lget_cons, lget_filter_key f r x]
      by_cases h : p.1 = x
      · rw [if_pos h, ← h, if_neg hf, if_neg hf]
      · rw [if_neg h]
theorem lget_ldel (k : Int) (L : List (Int × β)) (x : Int) : lget (ldel k L) x = if x = k then none else lget L x := by
  unfold ldel
  rw [lget_filter_key (fun y => !(y == k))]
  by_cases h : x = k <;> simp [h]
theorem lget_map {γ : Type} (g : β → γ) : ∀ (L : List (Int × β)) (x : Int), lget (L.map (fun p => (p.1, g p.2))) x = (lget L x).map g
  | [], x => rfl
  | p :: r, x => by
    rw [List.map_cons, lget_cons, lget_cons, lget_map g r x]
    by_cases h : p.1 = x <;> simp [h]
theorem lget_none {k : Int} {L : List (Int × β)} (h : ∀ q ∈ L, k < q.1) : lget L k = none := by
  unfold lget
  rw [List.find?_eq_none.2 (fun q hq => by have := h q hq; simp; omega)]
  rfl
theorem mem_of_lget {L : List (Int × β)} {k : Int} {v : β} (h : lget L k = some v) : (k, v) ∈ L := by
  unfold lget at h
  obtain ⟨p, hp, rfl⟩ := Option.map_eq_some_iff.1 h
  have h1 := List.mem_of_find?_eq_some hp
  have h2 := List.find?_some hp
  have h3 : p.1 = k := by simpa using h2
  rw [← h3]
  exact h1
theorem lget_of_mem : ∀ {L : List (Int × β)}, Srt L → ∀ {k : Int} {v : β}, (k, v) ∈ L → lget L k = some v
  | [], _, _, _, h => by cases h
  | p :: r, hs, k, v, h => by
    rw [lget_cons]
    rcases List.mem_cons.1 h with rfl | h
    · simp
    · have := srt_head hs _ h
      rw [if_neg (by simp at this; omega)]
      exact lget_of_mem (srt_tail hs) h
theorem srt_ext : ∀ {L M : List (Int × β)}, Srt L → Srt M → (∀ k, lget L k = lget M k) → L = M
  | [], [], _, _, _ => rfl
  | [], q :: s, _, _, h => by have := h q.1; rw [lget_cons, lget_nil] at this; simp at this
  | p :: r, [], _, _, h => by have := h p.1; rw [lget_cons, lget_nil] at this; simp at this
  | p :: r, q :: s, hL, hM, h => by
    have gL := srt_head hL
    have gM := srt_head hM
    rcases Int.lt_trichotomy p.1 q.1 with hlt | heq | hgt
    · exfalso
      have := h p.1
      rw [lget_cons, if_pos rfl, lget_none (L := q :: s) (fun x hx => by
        rcases List.mem_cons.1 hx with rfl | hx
        · exact hlt
        · have := gM x hx; omega)] at this
      cases this
    · have h0 := h p.1
      rw [lget_cons, if_pos rfl, lget_cons, if_pos heq.symm] at h0
      have hpq : p = q := Prod.ext heq (Option.some.inj h0)
      subst hpq
      rw [srt_ext (srt_tail hL) (srt_tail hM) (fun k => ?_)]
      by_cases hk : p.1 = k
      · rw [← hk, lget_none gL, lget_none gM]
      · have := h k
        rw [lget_cons, lget_cons, if_neg hk, if_neg hk] at this
        exact this
    · exfalso
      have := h q.1
      rw [lget_cons (p := q), if_pos rfl, lget_none (L := p :: r) (fun x hx => by
        rcases List.mem_cons.1 hx with rfl | hx
        · exact hgt
        · have := gL x hx; omega)] at this
      cases this
theorem srt_map {γ : Type} (g : β → γ) {L : List (Int × β)} (h : Srt L) : Srt (L.map (fun p => (p.1, g p.2))) := by
  unfold Srt
  rw [List.pairwise_map]
  exact h
theorem srt_filter (f : Int × β → Bool) {L : List (Int × β)} (h : Srt L) : Srt (L.filter f) := List.Pairwise.filter _ h
theorem lget_filter (f : Int × β → Bool) {L : List (Int × β)} (h : Srt L) (x : Int) : lget (L.filter f) x = (lget L x).filter (fun v => f (x, v)) := by
  cases hg : lget L x with
  | none =>
    cases hg2 : lget (L.filter f) x with
    | none => rfl
    | some v =>
      have := lget_of_mem h (List.mem_filter.1 (mem_of_lget hg2)).1
      rw [hg] at this
      cases this
  | some v =>
    have hm := mem_of_lget hg
    by_cases hf : f (x, v) = true
    · rw [lget_of_mem (srt_filter f h) (List.mem_filter.2 ⟨hm, hf⟩)]
      simp [Option.filter, hf]
    · cases hg2 : lget (L.filter f) x with
      | none => simp [Option.filter, hf]
      | some u =>
        have h1 := List.mem_filter.1 (mem_of_lget hg2)
        have := lget_of_mem h h1.1
        rw [hg] at this
        cases this
        exact absurd h1.2 hf
/-- Those whose lease runs out by one tick more; what the others have left behind it. -/
def tickOut (L : List (Int × Int)) : List Int := (L.filter (fun p => decide (p.2 ≤ 1))).map (·.1)
def tickL (L : List (Int × Int)) : List (Int × Int) := (L.filter (fun p => decide (1 < p.2))).map (fun p => (p.1, p.2 - 1))
theorem srt_tickL {L : List (Int × Int)} (h : Srt L) : Srt (tickL L) := srt_map (fun n => n - 1) (srt_filter _ h)
theorem lget_tickL {L : List (Int × Int)} (h : Srt L) (x : Int) : lget (tickL L) x = ((lget L x).filter (fun n => decide (1 < n))).map (fun n => n - 1) := by
  unfold tickL
  rw [lget_map (fun n => n - 1), lget_filter _ h]
theorem mem_tickOut {L : List (Int × Int)} (h : Srt L) (x : Int) : x ∈ tickOut L ↔ ∃ n, lget L x = some n ∧ n ≤ 1 := by
  unfold tickOut
  constructor
  · intro hx
    obtain ⟨p, hp, rfl⟩ := List.mem_map.1 hx
    have := List.mem_filter.1 hp
    exact ⟨p.2, lget_of_mem h this.1, by simpa using this.2⟩
  · rintro ⟨n, hn, h1⟩
    exact List.mem_map.2 ⟨(x, n), List.mem_filter.2 ⟨mem_of_lget hn, by simpa using h1⟩, rfl⟩
theorem rise_tickOut {L : List (Int × Int)} (h : Srt L) : (tickOut L).Pairwise (· < ·) := by
  unfold tickOut
  rw [List.pairwise_map]
  exact srt_filter _ h
theorem sort_tickOut {L : List (Int × Int)} (h : Srt L) {out : List Int} (hn : out.Nodup) (hm : ∀ x, x ∈ out ↔ ∃ n, lget L x = some n ∧ n ≤ 1) : out.mergeSort (fun x y => decide (x ≤ y)) = tickOut L := by
  have hr := rise_tickOut h
  have hnd : (tickOut L).Nodup := hr.imp (fun hab => by omega)
  have hp : out.Perm (tickOut L) := (List.perm_ext_iff_of_nodup hn hnd).2 (fun x => by rw [hm, mem_tickOut h])
  have h1 : (out.mergeSort (fun x y => decide (x ≤ y))).Pairwise (fun a b => a ≤ b) := by
    have := List.pairwise_mergeSort (le := fun x y : Int => decide (x ≤ y)) (fun a b c hab hbc => by simp at *; omega) (fun a b => by simp; omega) out
    exact this.imp (fun hab => by simpa using hab)
  exact List.Perm.eq_of_pairwise (le := fun a b : Int => a ≤ b) (fun a b _ _ h1 h2 => by omega) h1 (hr.imp (fun hab => by omega)) ((List.mergeSort_perm _ _).trans hp)
theorem done_tickL {L M : List (Int × Int)} (h : Srt L) (hM : Srt M) {out : List Int} (hm : ∀ x, x ∈ out ↔ ∃ n, lget L x = some n ∧ n ≤ 1) (hg : ∀ x, lget M x = (lget L x).map (fun n => n - 1)) : M.filter (fun p => !out.contains p.1) = tickL L := by
  refine srt_ext (srt_filter _ hM) (srt_tickL h) (fun x => ?_)
  rw [lget_filter_key (fun y => !out.contains y), lget_tickL h, hg]
  cases hx : lget L x with
  | none => simp
  | some n =>
    by_cases h1 : n ≤ 1
    · have : x ∈ out := (hm x).2 ⟨n, hx, h1⟩
      simp [this, Option.filter, show ¬ 1 < n by omega]
    · have : ¬ x ∈ out := fun hc => by
        obtain ⟨m, hm1, hm2⟩ := (hm x).1 hc
        rw [hx] at hm1
        cases hm1
        omega
      simp [this, Option.filter, show 1 < n by omega]
theorem filter_step (M : List (Int × β)) (out : List Int) (k : Nat) (hk : k < out.length) : ldel out[k] (M.filter (fun p => !(out.take k).contains p.1)) = M.filter (fun p => !(out.take (k + 1)).contains p.1) := by
  unfold ldel
  rw [List.filter_filter]
  refine List.filter_congr (fun p _ => ?_)
  rw [List.take_add_one, List.getElem?_eq_getElem hk]
  simp only [Option.toList_some, List.contains_eq_mem, List.mem_append, List.mem_singleton]
  by_cases h1 : p.1 = out[k] <;> by_cases h2 : p.1 ∈ out.take k <;> simp [h1, h2]
/-- How far a round of the range over a book is. -/
structure TickI (L0 L : List (Int × Int)) (left : Lit → Bool) (out : List Int) : Prop where
  yet : ∀ k, left (.int .i64 k) = true → lget L k = lget L0 k
  did : ∀ k, left (.int .i64 k) = false → lget L k = (lget L0 k).map (fun n => n - 1)
  mem : ∀ k, k ∈ out ↔ left (.int .i64 k) = false ∧ ∃ n, lget L0 k = some n ∧ n ≤ 1
  nodup : out.Nodup
  wf : ∀ k ∈ out, (Lit.int .i64 k).wf = true
  len : L.length = L0.length
theorem TickI.lenOut {L0 L : List (Int × Int)} {left : Lit → Bool} {out : List Int} (h : TickI L0 L left out) : out.length ≤ L0.length := by
  have h1 : out ⊆ L0.map (·.1) := fun k hk => by
    obtain ⟨_, n, hn, _⟩ := (h.mem k).1 hk
    exact List.mem_map.2 ⟨(k, n), mem_of_lget hn, rfl⟩
  have := h.nodup.length_le_of_subset h1
  simpa using this
theorem TickI.step {L0 L : List (Int × Int)} {left : Lit → Bool} {out : List Int} (h : TickI L0 L left out) (hs : Srt L) {x n : Int} (hg : lget L x = some n) (hl : left (.int .i64 x) = true) (hw : (Lit.int .i64 x).wf = true) :
    TickI L0 (lput x (n - 1) L) (fun z => left z && !z.sameKey (.int .i64 x)) (if n ≤ 1 then out ++ [x] else out) := by
  have h0 : lget L0 x = some n := by rw [← h.yet x hl, hg]
  have hnx : ¬ x ∈ out := fun hc => by have := ((h.mem x).1 hc).1; rw [hl] at this; cases this
  refine ⟨fun k hk => ?_, fun k hk => ?_, fun k => ?_, ?_, ?_, ?_⟩
  · simp [key_same] at hk
    rw [lget_lput, if_neg (by omega), h.yet k hk.1]
  · by_cases hkx : k = x
    · subst hkx
      rw [lget_lput, if_pos rfl, h0]
      rfl
    · simp [key_same] at hk
      rw [lget_lput, if_neg hkx]
      cases hlk : left (.int .i64 k) with
      | false => exact h.did k hlk
      | true => exact absurd (hk hlk) hkx
  · simp only [key_same, Bool.and_eq_false_iff, Bool.not_eq_false', beq_iff_eq]
    constructor
    · intro hk
      split at hk
      · rename_i h1
        rcases List.mem_append.1 hk with hk | hk
        · have := (h.mem k).1 hk
          exact ⟨.inl this.1, this.2⟩
        · obtain rfl := List.mem_singleton.1 hk
          exact ⟨.inr rfl, n, h0, h1⟩
      · have := (h.mem k).1 hk
        exact ⟨.inl this.1, this.2⟩
    · rintro ⟨h1 | rfl, m, hm, h2⟩
      · have := (h.mem k).2 ⟨h1, m, hm, h2⟩
        split
        · exact List.mem_append_left _ this
        · exact this
      · rw [h0] at hm
        cases hm
        rw [if_pos h2]
        simp
  · split
    · rw [List.nodup_append]
      refine ⟨h.nodup, by simp, fun a ha b hb => ?_⟩
      obtain rfl := List.mem_singleton.1 hb
      exact fun e => hnx (e ▸ ha)
    · exact h.nodup
  · intro k hk
    split at hk
    · rcases List.mem_append.1 hk with hk | hk
      · exact h.wf k hk
      · obtain rfl := List.mem_singleton.1 hk
        exact hw
    · exact h.wf k hk
  · rw [length_put_there hs (by rw [hg]; rfl), h.len]
end Go.Proofs.Ythlohppeaellpaa.Mp
