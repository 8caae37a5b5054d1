/- Maps with whole numbers as keys, as sorted lists of keys and the elements' own values. Each theorem bears its own conditions. -/
import Derived.Maps.RangeWalk
import Derived.Maps.Ext
import Derived.WalkKit
/-! Maps with whole numbers as keys, as sorted lists of keys and the elements' own values. -/
set_option linter.unusedVariables false
set_option linter.unusedSimpArgs false
namespace Go.Proofs.Ythlohppeaellpaa.Mp
open Go.ChangeMaps Go.MapKept Go.WideShapes
open Go.WideElems (Fit rd rg pl rd_key rd_val rg_of other_key rd_mk)
open Go.Maps (Keyed)

section
variable {H : Type} {P : Program} {k : TypeId} {R : Value → Option (DataW H × List MemPlace)} {w : World} {b r n : Nat} {D : DataW H} {left : Lit → Bool} {cnt : Nat}
theorem leftOf_size (a : Array MapEntry) (seen : Array Nat) : (leftOf a seen).size = ((a.toList.map (·.born)).filter (fun x => !seen.contains x)).length := by
  unfold leftOf
  rw [← Array.length_toList, Array.toList_filter, List.filter_map, List.length_map]
  rfl
/-- A store at a key that is there, in the round of a range over the same map. -/
theorem ranges_update {t e : TypeId} (h : w.ranges P k R b r n D left cnt) (K : Keyed P k) (ht : P.underlying t = some (.map k e)) {key val : Value} {kl : Lit} {d : DataW H} {ps : List MemPlace}
    (hkey : keyOf P k key = some kl) (hv : R val = some (d, ps)) (hhas : Maps.has D kl = true) :
    ∃ w', (Instr.mapUpdate t (.map (some b)) key val).run P w = .ok () w' ∧ w'.ranges P k R b r n (D.put kl d) left cnt ∧ w.mapTurned w' b := by
  have hne := h.ne
  obtain ⟨es, clock, since, seen, c0, hb, F, hs, rfl, hr, hold, rfl, hl1, hl2, hsc, hsk⟩ := h
  rcases K.find w hkey es.toList F.keys with ⟨h1, h2⟩ | ⟨j, e0, h1, h2, h3⟩
  · exfalso
    obtain ⟨p, hp, hpk⟩ := List.any_eq_true.1 hhas
    obtain ⟨x, hx, rfl⟩ := List.mem_map.1 (mem_sorted.1 hp)
    obtain ⟨y, hy⟩ := F.reads x hx
    refine h2 x hx (K.inj (l := kl) ?_ hkey)
    have := WideAt.sameKey_eq hpk
    rw [rg_of hy] at this
    rw [← this]
    exact rd_key hy
  · have hj : es[j]? = some e0 := by simpa using h2
    have hjl : j < es.toList.length := (List.getElem?_eq_some_iff.1 h2).1
    have hroom : 0 < es.size := by simp at hjl; omega
    have hlist : (es.modify j (fun e' => { e' with key := key, val := val })).toList = es.toList.set j { e0 with key := key, val := val } := by rw [Array.toList_modify, modify_eq_set _ _ _ _ h2]
    have hrun : (Instr.mapUpdate t (.map (some b)) key val).run P w = .ok () (setBlock w b (.map (es.modify j (fun e' => { e' with key := key, val := val })) clock)) := by
      simp [Instr.mapUpdate, run_underlying ht, MapKept.run_getObj_map hb, K.check w false hkey, h1, hj, h3, K.stays w hkey, MapKept.run_setObj_map _ hb, Result.andThen, setBlock]
    have F' : Fit P k R (es.modify j (fun e' => { e' with key := key, val := val })) clock := by
      refine ⟨by simpa using F.size, stamped_modify F.stamped _ _ (fun _ _ => rfl) (fun e' _ he' => by rw [hj] at he'; cases he'; exact h3.symm), fun x hx => ?_⟩
      rw [hlist] at hx
      obtain ⟨i, hi, ex⟩ := List.getElem_of_mem hx
      rw [List.getElem_set] at ex
      split at ex
      · subst ex
        exact ⟨_, rd_mk hkey hv⟩
      · exact F.reads x (ex ▸ List.getElem_mem _)
    have hput : ((es.modify j (fun e' => { e' with key := key, val := val })).toList.map (rg P k R)).foldr DataW.insert [] = putKey kl d ((es.toList.map (rg P k R)).foldr DataW.insert []) := by
      refine Maps.sorted_put K.one ⟨key, hkey⟩ (Maps.fit_keys F) (Maps.fit_apart K F) ?_
      rw [Maps.filter_one K F hkey h2 h3, hlist, List.map_set, rg_of (rd_mk hkey hv)]
      exact set_perm _ _ (by simpa using hjl) _
    have set_self : ∀ (l : List Nat) (a : Nat), l[j]? = some a → l.set j a = l := fun l a hl => by
      apply List.ext_getElem?
      intro i
      rw [List.getElem?_set]
      split
      · rename_i e1
        subst e1
        rw [hl]
        split
        · rfl
        · rename_i h4
          exact absurd ((List.getElem?_eq_some_iff.1 hl).1) h4
      · rfl
    have hborn : (es.modify j (fun e' => { e' with key := key, val := val })).toList.map (·.born) = es.toList.map (·.born) := by
      rw [hlist, List.map_set]
      exact set_self _ _ (by simp [h2])
    -- each new entry has an old one of its stamp and key
    have hrg0 : (rg P k R e0).1 = kl := by
      obtain ⟨y, hy⟩ := F.reads e0 (List.mem_of_getElem? h2)
      have m := rd_key hy
      rw [h3, hkey] at m
      rw [rg_of hy]
      exact (Option.some.inj m).symm
    have back : ∀ x ∈ es.toList.set j { e0 with key := key, val := val }, ∃ x0 ∈ es.toList, x0.born = x.born ∧ (rg P k R x0).1 = (rg P k R x).1 := fun x hx => by
      obtain ⟨i, hi, ex⟩ := List.getElem_of_mem hx
      rw [List.getElem_set] at ex
      split at ex
      · subst ex
        exact ⟨e0, List.mem_of_getElem? h2, rfl, by rw [hrg0, rg_of (rd_mk hkey hv)]⟩
      · exact ⟨x, ex ▸ List.getElem_mem _, rfl, rfl⟩
    refine ⟨_, hrun, ⟨_, clock, since, seen, c0, heap_setBlock_same hb _, F', by simpa using hs, by rw [DataW.put_eq, hput], (heap_setBlock_other hb _ hne).trans hr, ?_, ?_, ?_, ?_, hsc, hsk⟩, ⟨es, clock, _, clock, hb, rfl⟩⟩
    · intro x hx
      rw [hlist] at hx
      obtain ⟨x0, h0, e1, _⟩ := back x hx
      rw [← e1]
      exact hold x0 h0
    · rw [leftOf_size, leftOf_size, hborn]
    · intro x hx
      rw [hlist] at hx
      obtain ⟨x0, h0, e1, e2⟩ := back x hx
      rw [← e1, ← e2]
      exact hl1 x0 h0
    · intro z hz
      obtain ⟨x, hx, hxz⟩ := hl2 z hz
      obtain ⟨i, hi, ex⟩ := List.getElem_of_mem hx
      by_cases hij : i = j
      · subst hij
        have : x = e0 := by rw [List.getElem?_eq_getElem hi, ex] at h2; exact Option.some.inj h2
        refine ⟨{ e0 with key := key, val := val }, ?_, ?_⟩
        · rw [hlist]
          exact List.mem_iff_getElem.2 ⟨i, by simpa using hi, by simp⟩
        · rw [← hxz, this, hrg0, rg_of (rd_mk hkey hv)]
      · refine ⟨x, ?_, hxz⟩
        rw [hlist]
        exact List.mem_iff_getElem.2 ⟨i, by simpa using hi, by rw [List.getElem_set_ne (Ne.symm hij)]; exact ex⟩
end
/-! ### Sorted lists -/
/-- How an element is taken: as the value that it is. -/
def raw (v : Value) : Option (DataW Value × List MemPlace) := some (.held v, [])
section
variable {β : Type}
def dof (enc : β → Value) (L : List (Int × β)) : DataW Value := .map (L.map fun p => (.int .i64 p.1, .held (enc p.2)))
def Srt (L : List (Int × β)) : Prop := L.Pairwise (fun p q => p.1 < q.1)
def lput (k : Int) (v : β) : List (Int × β) → List (Int × β)
  | [] => [(k, v)]
  | p :: r => if k < p.1 then (k, v) :: p :: r else if k = p.1 then (k, v) :: r else p :: lput k v r
def ldel (k : Int) (L : List (Int × β)) : List (Int × β) := L.filter (fun p => !(p.1 == k))
def lget (L : List (Int × β)) (k : Int) : Option β := (L.find? (fun p => p.1 == k)).map (·.2)
theorem key_same (a b : Int) : (Lit.int .i64 a).sameKey (.int .i64 b) = (a == b) := by
  simp only [Lit.sameKey, true_and]
  by_cases h : a = b <;> simp [h]
theorem srt_tail {p : Int × β} {r : List (Int × β)} (h : Srt (p :: r)) : Srt r := (List.pairwise_cons.1 h).2
theorem srt_head {p : Int × β} {r : List (Int × β)} (h : Srt (p :: r)) : ∀ q ∈ r, p.1 < q.1 := (List.pairwise_cons.1 h).1
theorem filter_gt {k : Int} {r : List (Int × β)} (h : ∀ q ∈ r, k < q.1) : r.filter (fun p => !(p.1 == k)) = r :=
  List.filter_eq_self.2 (fun q hq => by have := h q hq; simp; omega)
theorem ins_gt {enc : β → Value} {k : Int} {d : DataW Value} {r : List (Int × β)} (h : ∀ q ∈ r, k < q.1) : DataW.insert (Lit.int .i64 k, d) (r.map fun p => (Lit.int .i64 p.1, DataW.held (enc p.2))) = (Lit.int .i64 k, d) :: (r.map fun p => (Lit.int .i64 p.1, DataW.held (enc p.2))) := by
  cases r with
  | nil => rfl
  | cons q r =>
    have := h q List.mem_cons_self
    simp [DataW.insert, Lit.before, this]
theorem filter_map_key (enc : β → Value) (k : Int) (r : List (Int × β)) : (r.map fun p => (Lit.int .i64 p.1, DataW.held (enc p.2))).filter (fun p : Lit × DataW Value => !p.1.sameKey (.int .i64 k)) = (r.filter (fun p => !(p.1 == k))).map fun p => (Lit.int .i64 p.1, DataW.held (enc p.2)) := by
  rw [List.filter_map]
  congr 1
  refine List.filter_congr (fun q _ => ?_)
  simp [key_same]
theorem put_list (enc : β → Value) (k : Int) (v : β) : ∀ (L : List (Int × β)), Srt L → DataW.insert (Lit.int .i64 k, DataW.held (enc v)) ((L.filter (fun p => !(p.1 == k))).map fun p => (Lit.int .i64 p.1, DataW.held (enc p.2))) = (lput k v L).map fun p => (Lit.int .i64 p.1, DataW.held (enc p.2))
  | [], _ => rfl
  | p :: r, h => by
    have ht := srt_tail h
    have hh := srt_head h
    unfold lput
    split
    · rename_i h1
      have hg : ∀ q ∈ p :: r, k < q.1 := fun q hq => by
        rcases List.mem_cons.1 hq with rfl | hq
        · exact h1
        · have := hh q hq; omega
      rw [filter_gt hg, ins_gt hg]
      rfl
    · rename_i h1
      split
      · rename_i h2
        have hg : ∀ q ∈ r, k < q.1 := fun q hq => by have := hh q hq; omega
        rw [List.filter_cons, if_neg (by simp; omega), filter_gt hg, ins_gt hg]
        rfl
      · rename_i h2
        rw [List.filter_cons, if_pos (by simp; omega), List.map_cons, List.map_cons]
        have h3 : Lit.before (Lit.int .i64 k) (Lit.int .i64 p.1) = false := by simp [Lit.before]; omega
        simp only [DataW.insert, h3, Bool.false_eq_true, if_false]
        rw [put_list enc k v r ht]
theorem dof_put (enc : β → Value) {L : List (Int × β)} (h : Srt L) (k : Int) (v : β) : (dof enc L).put (.int .i64 k) (.held (enc v)) = dof enc (lput k v L) := by
  unfold dof DataW.put
  simp only
  rw [filter_map_key, put_list enc k v L h]
theorem dof_del (enc : β → Value) (L : List (Int × β)) (k : Int) : (dof enc L).del (.int .i64 k) = dof enc (ldel k L) := by
  unfold dof DataW.del ldel
  simp only
  rw [filter_map_key]
theorem dof_has (enc : β → Value) (L : List (Int × β)) (k : Int) : Maps.has (dof enc L) (.int .i64 k) = (lget L k).isSome := by
  unfold dof lget
  rw [Maps.has_eq]
  induction L with
  | nil => rfl
  | cons p r ih =>
    simp only [List.map_cons, List.any_cons, List.find?_cons, key_same, ih]
    cases h : p.1 == k <;> simp
theorem dof_at (enc : β → Value) (L : List (Int × β)) (k : Int) (z : DataW Value) : (dof enc L).atKey (.int .i64 k) z = match lget L k with | some v => .held (enc v) | none => z := by
  unfold dof lget DataW.atKey
  simp only
  induction L with
  | nil => rfl
  | cons p r ih =>
    simp only [List.map_cons, List.find?_cons, key_same]
    cases h : p.1 == k
    · exact ih
    · rfl
theorem dof_size (enc : β → Value) (L : List (Int × β)) : Maps.size (dof enc L) = L.length := by simp [dof, Maps.size]
theorem mem_lput {k : Int} {v : β} : ∀ {L : List (Int × β)} {q : Int × β}, q ∈ lput k v L → q = (k, v) ∨ q ∈ L
  | [], q, h => by simp [lput] at h; exact .inl h
  | p :: r, q, h => by
    unfold lput at h
    split at h
    · rcases List.mem_cons.1 h with h | h
      · exact .inl h
      · exact .inr h
    · split at h
      · rcases List.mem_cons.1 h with h | h
        · exact .inl h
        · exact .inr (List.mem_cons_of_mem _ h)
      · rcases List.mem_cons.1 h with h | h
        · exact .inr (h ▸ List.mem_cons_self)
        · rcases mem_lput h with h | h
          · exact .inl h
          · exact .inr (List.mem_cons_of_mem _ h)
theorem srt_put (k : Int) (v : β) : ∀ {L : List (Int × β)}, Srt L → Srt (lput k v L)
  | [], _ => by simp [lput, Srt]
  | p :: r, h => by
    have ht := srt_tail h
    have hh := srt_head h
    unfold lput
    split
    · rename_i h1
      refine List.pairwise_cons.2 ⟨fun q hq => ?_, h⟩
      rcases List.mem_cons.1 hq with rfl | hq
      · exact h1
      · have := hh q hq; show k < q.1; omega
    · split
      · rename_i h1 h2
        exact List.pairwise_cons.2 ⟨fun q hq => by have := hh q hq; show k < q.1; omega, ht⟩
      · rename_i h1 h2
        refine List.pairwise_cons.2 ⟨fun q hq => ?_, srt_put k v ht⟩
        rcases mem_lput hq with rfl | hq
        · show p.1 < k; omega
        · exact hh q hq
theorem srt_del (k : Int) {L : List (Int × β)} (h : Srt L) : Srt (ldel k L) := List.Pairwise.filter _ h

end
section
variable {β : Type} {enc : β → Value} {P : Program} {kt : TypeId} {w : World} {b r n : Nat} {L : List (Int × β)} {left : Lit → Bool} {cnt : Nat}
/-- Block b is a map that holds just what stands in L. -/
structure IsM (P : Program) (kt : TypeId) (enc : β → Value) (w : World) (b : Nat) (L : List (Int × β)) : Prop where
  own : w.ownsMap P kt raw b L.length (dof enc L)
  srt : Srt L
theorem exact_n {n : Nat} {L : List (Int × β)} (h : w.ownsMap P kt raw b n (dof enc L)) : w.ownsMap P kt raw b L.length (dof enc L) := by
  obtain ⟨es, clock, hb, F, hs, hD⟩ := h
  refine ⟨es, clock, hb, F, ?_, hD⟩
  have := congrArg Maps.size hD
  rw [dof_size] at this
  simp [Maps.size, length_sorted] at this
  omega
theorem IsM.kept {w' : World} (h : IsM P kt enc w b L) (hb : w'.heap[b]? = w.heap[b]?) : IsM P kt enc w' b L := by
  obtain ⟨⟨es, clock, h1, h2⟩, hs⟩ := h
  exact ⟨⟨es, clock, hb.trans h1, h2⟩, hs⟩
theorem IsM.lt (h : IsM P kt enc w b L) : b < w.heap.size := h.own.lt
theorem IsM.made (w : World) (P : Program) (kt : TypeId) (enc : β → Value) : IsM P kt enc (w.alloc (.map #[] 0)) w.heap.size [] := ⟨World.ownsMap_made _ _ _ _, List.Pairwise.nil⟩
variable {t e : TypeId}
theorem IsM.look (h : IsM P kt enc w b L) (hk : P.underlying kt = some (.int .i64)) (ht : P.underlying t = some (.map kt e)) {z : Value} (hz : ∀ W, (zeroValue e).run P W = .ok z W) {x : Int} (hx : (Lit.int .i64 x).wf = true) :
    (Instr.lookup t (.map (some b)) (.int .i64 x) true).run P w = .ok (.tuple #[((lget L x).map enc).getD z, .bool (lget L x).isSome]) w := by
  obtain ⟨v, ps, hrun, hv⟩ := h.own.look_ok (Maps.int_keyed hk) ht (hz _) (zd := .held z) (zp := []) rfl (Maps.keyOf_int_mk hk hx)
  rw [hrun, dof_has]
  rw [dof_at] at hv
  have : v = ((lget L x).map enc).getD z := by
    simp only [raw, Option.some.injEq, Prod.mk.injEq] at hv
    cases hg : lget L x <;> rw [hg] at hv <;> simp at hv <;> simp [hv]
  rw [this]
theorem IsM.len (h : IsM P kt enc w b L) (ht : P.underlying t = some (.map kt e)) (ty : TypeId) : (Builtin.len_ #[t] ty #[.map (some b)]).run P w = .ok (.int .i64 L.length) w := by
  rw [h.own.len ht ty, dof_size]
theorem IsM.put (h : IsM P kt enc w b L) (hk : P.underlying kt = some (.int .i64)) (ht : P.underlying t = some (.map kt e)) (hn : L.length < maxLen) {x : Int} (hx : (Lit.int .i64 x).wf = true) (v : β) :
    ∃ w', (Instr.mapUpdate t (.map (some b)) (.int .i64 x) (enc v)).run P w = .ok () w' ∧ IsM P kt enc w' b (lput x v L) ∧ w.grownBy w' (some b) := by
  obtain ⟨w', hrun, h1, h2⟩ := h.own.update (Maps.int_keyed hk) ht hn (d := .held (enc v)) (ps := []) (Maps.keyOf_int_mk hk hx) rfl
  rw [dof_put enc h.srt] at h1
  exact ⟨w', hrun, ⟨exact_n h1, srt_put _ _ h.srt⟩, h2⟩
theorem IsM.del (h : IsM P kt enc w b L) (hk : P.underlying kt = some (.int .i64)) (ht : P.underlying t = some (.map kt e)) {x : Int} (hx : (Lit.int .i64 x).wf = true) (ty : TypeId) :
    ∃ w', (Builtin.delete_ #[t, kt] ty #[.map (some b), .int .i64 x]).run P w = .ok (.tuple #[]) w' ∧ IsM P kt enc w' b (ldel x L) ∧ w.grownBy w' (some b) := by
  obtain ⟨w', hrun, h1, h2⟩ := h.own.drop (Maps.int_keyed hk) ht (Maps.keyOf_int_mk hk hx) ty
  rw [dof_del] at h1
  exact ⟨w', hrun, ⟨exact_n h1, srt_del _ h.srt⟩, h2.grown⟩
/-- Block r is an iterator over the map b, which holds what stands in L; left: whose keys are yet to come. -/
structure IsR (P : Program) (kt : TypeId) (enc : β → Value) (w : World) (b r : Nat) (L : List (Int × β)) (left : Lit → Bool) (cnt : Nat) : Prop where
  rg : w.ranges P kt raw b r L.length (dof enc L) left cnt
  srt : Srt L
theorem exact_r {n : Nat} {L : List (Int × β)} (h : w.ranges P kt raw b r n (dof enc L) left cnt) : w.ranges P kt raw b r L.length (dof enc L) left cnt := by
  obtain ⟨es, clock, since, seen, c0, hb, F, hs, hD, hrest⟩ := h
  refine ⟨es, clock, since, seen, c0, hb, F, ?_, hD, hrest⟩
  have := congrArg Maps.size hD
  rw [dof_size] at this
  simp [Maps.size, length_sorted] at this
  omega
theorem IsR.isM (h : IsR P kt enc w b r L left cnt) : IsM P kt enc w b L := ⟨h.rg.owns, h.srt⟩
theorem IsR.kept {w' : World} (h : IsR P kt enc w b r L left cnt) (hb : w'.heap[b]? = w.heap[b]?) (hr : w'.heap[r]? = w.heap[r]?) : IsR P kt enc w' b r L left cnt := by
  obtain ⟨⟨es, clock, since, seen, c0, h1, h2, h3, h4, h5, h6⟩, hs⟩ := h
  exact ⟨⟨es, clock, since, seen, c0, hb.trans h1, h2, h3, h4, hr.trans h5, h6⟩, hs⟩
theorem IsM.range (h : IsM P kt enc w b L) (hk : P.underlying kt = some (.int .i64)) (ht : P.underlying t = some (.map kt e)) :
    ∃ w', (Instr.range t (.map (some b))).run P w = .ok (.pointer (some ⟨w.heap.size, 0, none⟩)) w' ∧ IsR P kt enc w' b w.heap.size L (Maps.has (dof enc L)) L.length ∧ w.grownBy w' none ∧ w'.heap.size = w.heap.size + 1 := by
  obtain ⟨w', h1, h2, h3, h4⟩ := h.own.range (Maps.int_keyed hk) ht
  rw [dof_size] at h2
  exact ⟨w', h1, ⟨h2, h.srt⟩, h3, h4⟩
theorem IsR.next (h : IsR P kt enc w b r L left cnt) (hk : P.underlying kt = some (.int .i64)) (ty : TypeId) :
    (cnt = 0 ∧ (∀ kl, left kl = false) ∧ (Instr.next (.pointer (some ⟨r, 0, none⟩)) false ty).run P w = .ok (.tuple #[.bool false]) w) ∨
    ∃ x v w' cnt', lget L x = some v ∧ (Lit.int .i64 x).wf = true ∧ left (.int .i64 x) = true ∧ (Instr.next (.pointer (some ⟨r, 0, none⟩)) false ty).run P w = .ok (.tuple #[.bool true, .int .i64 x, enc v]) w' ∧
      IsR P kt enc w' b r L (fun z => left z && !z.sameKey (.int .i64 x)) cnt' ∧ cnt' < cnt ∧ w.grownBy w' (some r) ∧ w'.heap.size = w.heap.size ∧ (Instr.entry (.pointer (some ⟨r, 0, none⟩))).run P w' = .ok (.tuple #[.int .i64 x, enc v]) w' := by
  rcases h.rg.next (Maps.int_keyed hk) ty with h1 | ⟨key, v, kl, y, w', cnt', hkey, hl, hR, hat, hrun, hrg, hlt, hg, hsz, hen⟩
  · exact .inl h1
  · obtain ⟨x, rfl, rfl, hwf⟩ := Maps.keyOf_int_inv hk hkey
    have hy : y.1 = .held v := by simp only [raw, Option.some.injEq] at hR; rw [← hR]
    have h2 := hat .nil
    rw [dof_at, hy] at h2
    cases hg2 : lget L x with
    | none => rw [hg2] at h2; cases h2
    | some u =>
      rw [hg2] at h2
      obtain rfl : enc u = v := by injection h2
      exact .inr ⟨x, u, w', cnt', hg2, hwf, hl, hrun, ⟨hrg, h.srt⟩, hlt, hg, hsz, hen⟩
theorem length_put_there {k : Int} {v : β} : ∀ {L : List (Int × β)}, Srt L → (lget L k).isSome = true → (lput k v L).length = L.length
  | [], _, h => by simp [lget] at h
  | p :: r, hs, h => by
    unfold lput
    split
    · rename_i h1
      have hh := srt_head hs
      have hn : lget (p :: r) k = none := by
        unfold lget
        rw [List.find?_eq_none.2 (fun q hq => by
          rcases List.mem_cons.1 hq with rfl | hq
          · simp; omega
          · have := hh q hq; simp; omega)]
        rfl
      rw [hn] at h
      cases h
    · split
      · rfl
      · rename_i h1 h2
        have : lget (p :: r) k = lget r k := by
          unfold lget
          rw [List.find?_cons_of_neg (by simp; omega)]
        rw [this] at h
        simp [length_put_there (srt_tail hs) h]
theorem IsR.update (h : IsR P kt enc w b r L left cnt) (hk : P.underlying kt = some (.int .i64)) (ht : P.underlying t = some (.map kt e)) {x : Int} (hx : (Lit.int .i64 x).wf = true) (v : β) (hs : (lget L x).isSome = true) :
    ∃ w', (Instr.mapUpdate t (.map (some b)) (.int .i64 x) (enc v)).run P w = .ok () w' ∧ IsR P kt enc w' b r (lput x v L) left cnt ∧ w.grownBy w' (some b) := by
  obtain ⟨w', h1, h2, h3⟩ := ranges_update h.rg (Maps.int_keyed hk) ht (d := .held (enc v)) (ps := []) (Maps.keyOf_int_mk hk hx) rfl (by rw [dof_has]; exact hs)
  rw [dof_put enc h.srt] at h2
  exact ⟨w', h1, ⟨exact_r h2, srt_put _ _ h.srt⟩, h3.grown⟩
end
end Go.Proofs.Ythlohppeaellpaa.Mp
