/-
  What the operations of a region that draws its order answer, as properties that stay true while the world is extended.
-/
import Derived.Test.YtaaijgalminafaaMx
import Derived.Test.YtaaijgalminafaaTail
namespace Go.Proofs.Ytaaijgalminafaa
open Go.RowKit Mono

structure Fact where
  p : Value → World → Prop
  up : ∀ v w w', p v w → Below w.heap.size w w' → p v w'
def Fact.val (u : Value) : Fact := ⟨fun v _ => v = u, fun _ _ _ h _ => h⟩
/-- A slice that reads as these cells. -/
def Fact.row (size : Nat) (xs : List Value) : Fact := ⟨RdS size xs, fun _ _ _ h he => h.up he⟩
/-- A slice of the call's own that holds these cells. -/
def Fact.own (base : Nat) (e : TypeId) (size n : Nat) (xs : List Value) : Fact := ⟨fun v w => w.ownsRow base e size v n xs, fun v _ _ h he =>
  h.kept (row := none) ⟨he.os, he.tape, he.output, he.size, fun k hk _ => he.block k hk⟩ (by cases v.ownBlock <;> simp)⟩
/-- A pointer to a block of the call's own that holds this. -/
def Fact.box (base : Nat) (o : Obj) : Fact := ⟨fun v w => ∃ g, v = .pointer (some ⟨g, 0, none⟩) ∧ base ≤ g ∧ w.heap[g]? = some o, fun _ _ _ ⟨g, h1, h2, h3⟩ he =>
  ⟨g, h1, h2, (he.block g (Array.getElem?_eq_some_iff.1 h3).1).trans h3⟩⟩
/-- A slice that is a block of the call's own with these cells. -/
def Fact.lit (base : Nat) (cs : Array Value) (t : TypeId) : Fact := ⟨fun v w => ∃ g, v = .slice (some ⟨g, 0, none⟩) cs.size cs.size ∧ base ≤ g ∧ w.heap[g]? = some (.cells cs t (0, 0)), fun _ _ _ ⟨g, h1, h2, h3⟩ he =>
  ⟨g, h1, h2, (he.block g (Array.getElem?_eq_some_iff.1 h3).1).trans h3⟩⟩
/-- .. of n elements. -/
def Fact.litK (base n : Nat) (cs : Array Value) (t : TypeId) : Fact := ⟨fun v w => ∃ g, v = .slice (some ⟨g, 0, none⟩) n n ∧ base ≤ g ∧ w.heap[g]? = some (.cells cs t (0, 0)), fun _ _ _ ⟨g, h1, h2, h3⟩ he =>
  ⟨g, h1, h2, (he.block g (Array.getElem?_eq_some_iff.1 h3).1).trans h3⟩⟩
def Fact.any (p : Value → World → Prop) (up : ∀ v w w', p v w → Below w.heap.size w w' → p v w') : Fact := ⟨p, up⟩
def fxR (f : Nat → Option Fact) (k : Nat) (v : Value) (w : World) : Prop :=
  match f k with
  | some φ => φ.p v w
  | none => True
def fxE (f : Nat → Option Fact) (k : Nat) : Bool := (f k).isSome
theorem fx_good (f : Nat → Option Fact) (w0 : World) : Mono.Good (Below w0.heap.size w0) Ext (fxR f) := by
  refine ⟨fun w w' h he => step_below h he, fun i v w w' h he => ?_⟩
  unfold fxR at h ⊢
  split at h
  · exact Fact.up _ _ _ _ h he
  · exact h
section
variable {P : Program} {f : Nat → Option Fact} {k base : Nat} {w : World} {o : Oper} {a : Act}
theorem steps_lit {cs : Array Value} {t : TypeId} {n : Nat} (hf : f k = some (.lit base cs t)) (hb : base ≤ w.heap.size) (hn : n = cs.size)
    (h : (execOp a.eval o).run P w = .ok (.value (.slice (some ⟨w.heap.size, 0, none⟩) n n)) (w.alloc (.cells cs t))) : steps P Ext o a w (fxR f k) := by
  subst hn
  refine steps_val h ((Below.refl _ _).alloc (Nat.le_refl _) _) ?_
  unfold fxR; rw [hf]
  exact ⟨_, rfl, hb, heap_alloc_new w _⟩
theorem steps_litK {cs : Array Value} {t : TypeId} {n : Nat} (hf : f k = some (.litK base n cs t)) (hb : base ≤ w.heap.size)
    (h : (execOp a.eval o).run P w = .ok (.value (.slice (some ⟨w.heap.size, 0, none⟩) n n)) (w.alloc (.cells cs t))) : steps P Ext o a w (fxR f k) := by
  refine steps_val h ((Below.refl _ _).alloc (Nat.le_refl _) _) ?_
  unfold fxR; rw [hf]
  exact ⟨_, rfl, hb, heap_alloc_new w _⟩
theorem steps_box {ob : Obj} (hf : f k = some (.box base ob)) (hb : base ≤ w.heap.size)
    (h : (execOp a.eval o).run P w = .ok (.value (.pointer (some ⟨w.heap.size, 0, none⟩))) (w.alloc ob)) : steps P Ext o a w (fxR f k) := by
  refine steps_val h ((Below.refl _ _).alloc (Nat.le_refl _) _) ?_
  unfold fxR; rw [hf]
  exact ⟨_, rfl, hb, heap_alloc_new w _⟩
/-- A fact of one operation, out of what is known of all. -/
theorem fx_at {F : Facts} {φ : Fact} {v : Value} {w : World} {p : World → Prop} (h : F k w) (he : F k = p) (hp : p = fxR f k v) (hf : f k = some φ) : φ.p v w := by
  rw [he, hp] at h; unfold fxR at h; rw [hf] at h; exact h
end
section
variable {P : Program} {id : Nat} {Q : Exit → Act → World → Prop} {a : Act} {w : World} {l : List Oper}
theorem wp_region_fx (f : Nat → Option Fact) (hm : P.follows .mixedOrders = true) (hB : Region.lexB .any l.toArray = true)
    (h : wpM P l.toArray .any (Below w.heap.size w) Ext (fxE f) (fxR f) (fun a w => Q .normal a w) l 0 (fun _ _ => True) a) : (Code.region id l.toArray true).wp P Q a w :=
  wp_region_mono _ Ext (fxE f) (fxR f) (fx_good f w) hm hB (Below.refl w.heap.size w).drew h
theorem wp_region_fx_tail (m : Nat) (f : Nat → Option Fact) (hm : P.follows .mixedOrders = true) (hml : decide (m ≤ l.length) = true) (hT : Tail.tailB .any l.toArray m = true) (hB : Region.lexB .any (l.take m).toArray = true)
    (h : wpM P (l.take m).toArray .any (Below w.heap.size w) Ext (fxE f) (fxR f) (fun a w => wpList P l.toArray Q (l.drop m) a w) (l.take m) 0 (fun _ _ => True) a) : (Code.region id l.toArray true).wp P Q a w :=
  Tail.wp_region_mono_tail m _ Ext (fxE f) (fxR f) (fx_good f w) hm hml hT hB (Below.refl w.heap.size w).drew h
end
end Go.Proofs.Ytaaijgalminafaa
