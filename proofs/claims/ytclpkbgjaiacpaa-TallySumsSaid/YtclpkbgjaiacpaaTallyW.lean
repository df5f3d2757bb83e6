/- What is proved: words for what a call keeps. Conditions: those that each theorem states. -/
import Derived.Test.YtclpkbgjaiacpaaPNegoAgreesx1
import Derived.WalkSpells
import Derived.Lib.SliceRun
import Derived.Deep.DeepMust
namespace Go.Proofs.Ytclpkbgjaiacpaa
open Go.RowKit Go.Proofs.YtclpkbgjaiacpaaW.PrintWords Go.Proofs.YtclpkbgjaiacpaaW.PrintLast Go.Proofs.YtclpkbgjaiacpaaW.PrintMore
open Go.Proofs.Ytclpkbgjaiacpaa.PNegoAgrees
set_option linter.unusedVariables false
set_option linter.unusedSimpArgs false
/-! ### words -/
/-- What a call may write of what was there: the blocks of S alone. -/
structure Fr (S : Nat → Prop) (w w' : World) : Prop where
  os : w'.os = w.os
  tape : w'.tape = w.tape
  output : w'.output = w.output
  size : w.heap.size ≤ w'.heap.size
  block : ∀ k, k < w.heap.size → ¬ S k → w'.heap[k]? = w.heap[k]?
namespace Fr
variable {S S' : Nat → Prop} {w w1 w2 : World}
theorem refl (S : Nat → Prop) (w : World) : Fr S w w := ⟨rfl, rfl, rfl, Nat.le_refl _, fun _ _ _ => rfl⟩
theorem of_below (h : Below w.heap.size w w1) : Fr S w w1 := ⟨h.os, h.tape, h.output, h.size, fun k hk _ => h.block k hk⟩
theorem to_below (h : Fr S w w1) (hs : ∀ k, S k → w.heap.size ≤ k) : Below w.heap.size w w1 :=
  ⟨h.os, h.tape, h.output, h.size, fun k hk => h.block k hk (fun hS => by have := hs k hS; omega)⟩
/-- Later blocks (those at or beyond the first world's size) may be written freely. -/
theorem then_ (h : Fr S w w1) (k : Fr S' w1 w2) (hs : ∀ i, S' i → S i ∨ w.heap.size ≤ i) : Fr S w w2 :=
  ⟨k.os.trans h.os, k.tape.trans h.tape, k.output.trans h.output, Nat.le_trans h.size k.size,
   fun i hi hn => (k.block i (Nat.lt_of_lt_of_le hi h.size) (fun h2 => (hs i h2).elim hn (fun h3 => by omega))).trans (h.block i hi hn)⟩
theorem mono (h : Fr S w w1) (hs : ∀ i, S i → S' i) : Fr S' w w1 := ⟨h.os, h.tape, h.output, h.size, fun i hi hn => h.block i hi (fun hk => hn (hs i hk))⟩
theorem below (h : Fr S w w1) (k : Below w1.heap.size w1 w2) : Fr S w w2 := h.then_ (of_below (S := fun _ => False) k) (fun _ hk => hk.elim)
theorem grown (h : Fr S w w1) {row : Option Nat} (k : w1.grownBy w2 row) (hr : ∀ i, row = some i → S i ∨ w.heap.size ≤ i) : Fr S w w2 :=
  h.then_ (S' := fun i => row = some i) ⟨k.os, k.tape, k.output, k.size, fun i hi hn => k.block i hi (fun he => hn he.symm)⟩ hr
theorem alloc (h : Fr S w w1) (o : Obj) : Fr S w (w1.alloc o) := h.below (below_alloc (Below.refl _ _) o)
theorem drew (h : Fr S w w1) : Fr S w w1.drew := ⟨h.os, h.tape, h.output, h.size, h.block⟩
theorem drewN (h : Fr S w w1) (n : Nat) : Fr S w (w1.drewN n) := ⟨h.os, h.tape, h.output, h.size, h.block⟩
theorem setCell (h : Fr S w w1) {p : Addr} (hp : S p.block ∨ w.heap.size ≤ p.block) (u : Value) : Fr S w (w1.setCell p u) :=
  h.then_ (S' := fun i => i = p.block) ⟨rfl, rfl, rfl, by simp [World.setCell], fun i _ hn => Below.heap_setCell w1 p u i hn⟩ (fun i hi => by rw [hi]; exact hp)
theorem blk (h : Fr S w w1) {g : Nat} {o : Obj} (hb : w.heap[g]? = some o) (hn : ¬ S g) : w1.heap[g]? = some o := (h.block g (blk_lt hb) hn).trans hb
end Fr

theorem blk_new_set (w : World) (p : Addr) (u : Value) (o : Obj) : ((w.setCell p u).alloc o).heap[w.heap.size]? = some o := by
  have h := blk_new (w.setCell p u) o
  rwa [show (w.setCell p u).heap.size = w.heap.size from by simp [World.setCell]] at h
/-- Only block g. -/
def only (g : Nat) : Nat → Prop := fun k => k = g
/-- Nothing that was there. -/
def nothing : Nat → Prop := fun _ => False

end Go.Proofs.Ytclpkbgjaiacpaa
