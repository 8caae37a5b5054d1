/- Small laws that all walks of this seat use. Each theorem bears its own conditions. -/
import Derived.Test.YthlohppeaellpaaProg
import Derived.Test.YthlohppeaellpaaWWords
import Derived.Test.YthlohppeaellpaaWMore
import Derived.Test.YthlohppeaellpaaWKept
import Derived.Lib.Hide
import Derived.IntWalk
/-! Small laws that all walks of this seat use. -/
set_option linter.unusedVariables false
set_option linter.unusedSimpArgs false
namespace Go.Proofs.Ythlohppeaellpaa.Kb
open Go.RowKit Go.Proofs.YthlohppeaellpaaW.PrintWords
theorem below_call {w W w1 : World} (h : Below w.heap.size w W) (h1 : Below W.heap.size W w1) : Below w.heap.size w w1 := h.trans (h1.mono h.size)
theorem cell_past {w : World} {a : Addr} {v : Value} (h : w.cell? a = some v) : ∀ o, (w.alloc o).cell? a = some v := fun o => by rw [World.cell?_alloc_lt _ _ _ (World.block_lt_of_cell? _ _ h)]; exact h
theorem quiet_add {P : Program} {f : FuncId} {args : Array Value} {w : World} {a n : Nat} {v : Value}
    (h : Calls P f args (w.drewN (a + n)) fun e w' => e = .returned v ∧ ∃ m, w' = (w.drewN (a + n)).drewN m) :
    Calls P f args (w.drewN (a + n)) fun e w'' => e = .returned v ∧ ∃ m, w'' = w.drewN (a + m) :=
  h.mono fun _ _ ⟨he, m, hm⟩ => ⟨he, n + m, by rw [hm, World.drewN_drewN, Nat.add_assoc]⟩
theorem quiet_add_same {P : Program} {f : FuncId} {args : Array Value} {w : World} {a n : Nat} {v : Value}
    (h : Calls P f args (w.drewN (a + n)) fun e w' => e = .returned v ∧ w' = w.drewN (a + n)) :
    Calls P f args (w.drewN (a + n)) fun e w'' => e = .returned v ∧ ∃ m, w'' = w.drewN (a + m) :=
  h.mono fun _ _ ⟨he, hm⟩ => ⟨he, n, hm⟩
theorem heap_past {w : World} {g : Nat} {o o' : Obj} (h : w.heap[g]? = some o) : (w.alloc o').heap[g]? = some o := (Below.heap_alloc w o' g (lt_of_block h)).trans h
theorem heap_new {w : World} {n : Nat} {o : Obj} (h : n = w.heap.size) : (w.alloc o).heap[n]? = some o := by rw [h]; exact heap_alloc_new w o
theorem heap_drew {w : World} {g : Nat} {o : Obj} (h : w.heap[g]? = some o) : w.drew.heap[g]? = some o := h
theorem heap_drewN {w : World} {g : Nat} {o : Obj} (h : w.heap[g]? = some o) (n : Nat) : (w.drewN n).heap[g]? = some o := h
theorem set_other {w : World} {g : Nat} {o : Obj} {p : Addr} {u : Value} (h : w.heap[g]? = some o) (hne : g ≠ p.block) : (w.setCell p u).heap[g]? = some o := (Below.heap_setCell w p u g hne).trans h
theorem wname {P : Program} {c : Code} {Q : Exit → Act → World → Prop} {a : Act} {w : World} (h : ∀ w1, w1 = w → c.wp P Q a w1) : c.wp P Q a w := h w rfl
/-- Nothing that was there has turned, but blocks in S. -/
structure Only (w w' : World) (S : Nat → Prop) : Prop where
  os : w'.os = w.os
  tape : w'.tape = w.tape
  output : w'.output = w.output
  size : w.heap.size ≤ w'.heap.size
  block : ∀ k, k < w.heap.size → ¬ S k → w'.heap[k]? = w.heap[k]?
theorem Only.refl (w : World) (S : Nat → Prop) : Only w w S := ⟨rfl, rfl, rfl, Nat.le_refl _, fun _ _ _ => rfl⟩
theorem Only.kept {w w' : World} {S : Nat → Prop} (h : Only w w' S) : Kept w w' S := ⟨h.size, h.block⟩
theorem Only.of_below {w w' : World} (h : Below w.heap.size w w') (S : Nat → Prop) : Only w w' S := ⟨h.os, h.tape, h.output, h.size, fun k hk _ => h.block k hk⟩
theorem Only.mono {w w' : World} {S S' : Nat → Prop} (h : Only w w' S) (hs : ∀ k, S k → S' k) : Only w w' S' := ⟨h.os, h.tape, h.output, h.size, fun k hk hn => h.block k hk (fun hh => hn (hs k hh))⟩
theorem Only.then_ {w W W2 : World} {S S2 : Nat → Prop} (h : Only w W S) (k : Only W W2 S2) (hs : ∀ k, S2 k → S k ∨ w.heap.size ≤ k) : Only w W2 S :=
  ⟨k.os.trans h.os, k.tape.trans h.tape, k.output.trans h.output, Nat.le_trans h.size k.size, fun i hi hn => (k.block i (Nat.lt_of_lt_of_le hi h.size) (fun h2 => (hs i h2).elim hn (fun h3 => by omega))).trans (h.block i hi hn)⟩
theorem Only.of_grown {w W W2 : World} {S : Nat → Prop} {row : Option Nat} (hg : W.grownBy W2 row) (h : Only w W S) (hr : ∀ k, row = some k → S k ∨ w.heap.size ≤ k) : Only w W2 S :=
  h.then_ (S2 := fun k => row = some k) ⟨hg.os, hg.tape, hg.output, hg.size, fun k hk hn => hg.block k hk (fun e => hn e.symm)⟩ hr
theorem Only.below {w W W2 : World} {S : Nat → Prop} (h : Only w W S) (hb : Below W.heap.size W W2) : Only w W2 S := h.then_ (Only.of_below hb (fun _ => False)) (fun _ h => h.elim)
theorem Only.alloc {w W : World} {S : Nat → Prop} (h : Only w W S) (o : Obj) : Only w (W.alloc o) S := h.below (below_alloc (Below.refl _ _) o)
theorem Only.drew {w W : World} {S : Nat → Prop} (h : Only w W S) : Only w W.drew S := ⟨h.os, h.tape, h.output, h.size, h.block⟩
theorem Only.drewN {w W : World} {S : Nat → Prop} (h : Only w W S) (n : Nat) : Only w (W.drewN n) S := ⟨h.os, h.tape, h.output, h.size, h.block⟩
theorem Only.set {w W : World} {S : Nat → Prop} (h : Only w W S) {p : Addr} (hp : S p.block) (u : Value) : Only w (W.setCell p u) S :=
  h.then_ (S2 := fun k => k = p.block) ⟨rfl, rfl, rfl, by simp, fun k _ hn => Below.heap_setCell W p u k hn⟩ (fun k hk => .inl (hk ▸ hp))
theorem blk_only {w w' : World} {g : Nat} {o : Obj} {S : Nat → Prop} (hb : w.heap[g]? = some o) (h : Only w w' S) (hg : ¬ S g) : w'.heap[g]? = some o := blk_kept hb h.kept hg
theorem below_only {w W W2 : World} {n : Nat} {S : Nat → Prop} (h : Below n w W) (hn : n ≤ w.heap.size) (hk : Only W W2 S) (hm : ∀ k, S k → n ≤ k) : Below n w W2 :=
  h.trans ⟨hk.os, hk.tape, hk.output, hk.size, fun i hi => hk.block i (by have := h.size; omega) (fun hs => by have := hm i hs; omega)⟩
end Go.Proofs.Ythlohppeaellpaa.Kb
