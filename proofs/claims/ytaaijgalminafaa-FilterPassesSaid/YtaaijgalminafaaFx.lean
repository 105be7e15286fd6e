import Derived.Test.YtaaijgalminafaaKit
import Derived.Test.YtaaijgalminafaaMono
import Derived.Test.YtaaijgalminafaaTail
/-
  Regions that draw their order, with calls that make memory and conversions: what the operations answer (Ans), and the steps.
-/
namespace Go.Proofs.Ytaaijgalminafaa
open Go.RowKit Mono
attribute [local go_sem] pureAt pureUpon

/-- A slice value that reads as xs, somewhere. -/
def RdS (size : Nat) (xs : List Value) (v : Value) (w : World) : Prop := ∃ A n c, v = .slice A n c ∧ Rd w w.heap.size size A n xs
def Ext (w w' : World) : Prop := Below w.heap.size w w'
theorem RdS.up {size : Nat} {xs : List Value} {v : Value} {w w' : World} (h : RdS size xs v w) (he : Ext w w') : RdS size xs v w' := by
  obtain ⟨A, n, c, rfl, hR⟩ := h
  exact ⟨A, n, c, rfl, hR.up he (Nat.le_refl _) he.size⟩

/-- What an operation that extends the world answers: a slice that reads as these bytes, or a fixed value. -/
inductive Ans
  | rd (xs : List UInt8)
  | val (v : Value)
  | any
def ansR (f : Nat → Ans) (k : Nat) (v : Value) (w : World) : Prop :=
  match f k with
  | .rd xs => RdS 1 (byt xs) v w
  | .val u => v = u
  | .any => True
def ansE (f : Nat → Ans) (k : Nat) : Bool :=
  match f k with
  | .any => false
  | _ => true
theorem ans_good (f : Nat → Ans) (w0 : World) : Mono.Good (Below w0.heap.size w0) Ext (ansR f) := by
  refine ⟨fun w w' h he => step_below h he, fun i v w w' h he => ?_⟩
  unfold ansR at h ⊢
  split at h <;> first | exact h.up he | exact h
theorem steps_val {P : Program} {E : World → World → Prop} {o : Oper} {a : Act} {w w' : World} {p : Value → World → Prop} {v : Value} (h : (execOp a.eval o).run P w = .ok (.value v) w') (he : E w w') (hp : p v w') : steps P E o a w p := by
  unfold steps; rw [h]; exact ⟨he, hp⟩
theorem run_v {P : Program} {m : Sem Value} {v : Value} {w w' : World} (h : m.run P w = .ok v w') : ((do let x ← m; pure (Next.value x)) : Sem Next).run P w = .ok (.value v) w' := by
  simp only [Sem.run_bind, h]; rfl
theorem steps_enter {P : Program} {E : World → World → Prop} {o : Oper} {a : Act} {w : World} {p : Value → World → Prop} {f : FuncId} {args : Array Value} {post : Ending → World → Prop}
    (hc : Calls P f args w post) (h : (execOp a.eval o).run P w = .ok (.enter f args) w) (hp : ∀ e w', post e w' → ∃ u, e = .returned u ∧ E w w' ∧ p u w') : steps P E o a w p := steps_call h (hc.mono hp)
theorem steps_str {P : Program} {o : Oper} {a : Act} {w : World} {p : Value → World → Prop} (v : Value) {l : List UInt8} {src dst e : TypeId} (hs : P.underlying src = some (.slice e)) (he : P.underlying e = some (.int .u8)) (hd : P.underlying dst = some .string)
    (h : RdS 1 (byt l) v w) (hx : ∀ u w', (convert src dst v).run P w = .ok u w' → (execOp a.eval o).run P w = .ok (.value u) w') (hp : p (.string ⟨l.toArray⟩) w) : steps P Ext o a w p := by
  obtain ⟨A, n, c, rfl, hR⟩ := h
  exact steps_val (hx _ _ (run_str_of_bytes hs he hd hR)) (Below.refl _ _) hp
end Go.Proofs.Ytaaijgalminafaa
/-
  What the operations of a region that draws its order answer, as properties that stay true while the world is extended.
-/
namespace Go.Proofs.Ytaaijgalminafaa
open Go.RowKit Mono

structure Fact where
  p : Value → World → Prop
  up : ∀ v w w', p v w → Below w.heap.size w w' → p v w'
def Fact.val (u : Value) : Fact := ⟨fun v _ => v = u, fun _ _ _ h _ => h⟩
/-- A slice that reads as these cells. -/
def Fact.row (size : Nat) (xs : List Value) : Fact := ⟨RdS size xs, fun _ _ _ h he => h.up he⟩
/-- A slice of the call's own that holds these cells. -/
def Fact.own (base : Nat) (e : TypeId) (size n : Nat) (xs : List Value) : Fact := ⟨fun v w => w.ownsRow base e size v n xs, fun v _ _ h he =>
  h.kept (row := none) ⟨he.os, he.tape, he.output, he.size, fun k hk _ => he.block k hk⟩ (by cases v.ownBlock <;> simp)⟩
/-- A pointer to a block of the call's own that holds this. -/
def Fact.box (base : Nat) (o : Obj) : Fact := ⟨fun v w => ∃ g, v = .pointer (some ⟨g, 0, none⟩) ∧ base ≤ g ∧ w.heap[g]? = some o, fun _ _ _ ⟨g, h1, h2, h3⟩ he =>
  ⟨g, h1, h2, (he.block g (Array.getElem?_eq_some_iff.1 h3).1).trans h3⟩⟩
/-- A slice that is a block of the call's own with these cells. -/
def Fact.lit (base : Nat) (cs : Array Value) (t : TypeId) : Fact := ⟨fun v w => ∃ g, v = .slice (some ⟨g, 0, none⟩) cs.size cs.size ∧ base ≤ g ∧ w.heap[g]? = some (.cells cs t (0, 0)), fun _ _ _ ⟨g, h1, h2, h3⟩ he =>
  ⟨g, h1, h2, (he.block g (Array.getElem?_eq_some_iff.1 h3).1).trans h3⟩⟩
/-- .. of n elements. -/
def Fact.litK (base n : Nat) (cs : Array Value) (t : TypeId) : Fact := ⟨fun v w => ∃ g, v = .slice (some ⟨g, 0, none⟩) n n ∧ base ≤ g ∧ w.heap[g]? = some (.cells cs t (0, 0)), fun _ _ _ ⟨g, h1, h2, h3⟩ he =>
  ⟨g, h1, h2, (he.block g (Array.getElem?_eq_some_iff.1 h3).1).trans h3⟩⟩
def Fact.any (p : Value → World → Prop) (up : ∀ v w w', p v w → Below w.heap.size w w' → p v w') : Fact := ⟨p, up⟩
def fxR (f : Nat → Option Fact) (k : Nat) (v : Value) (w : World) : Prop :=
  match f k with
  | some φ => φ.p v w
  | none => True
def fxE (f : Nat → Option Fact) (k : Nat) : Bool := (f k).isSome
theorem fx_good (f : Nat → Option Fact) (w0 : World) : Mono.Good (Below w0.heap.size w0) Ext (fxR f) := by
  refine ⟨fun w w' h he => step_below h he, fun i v w w' h he => ?_⟩
  unfold fxR at h ⊢
  split at h
  · exact Fact.up _ _ _ _ h he
  · exact h
section
variable {P : Program} {f : Nat → Option Fact} {k base : Nat} {w : World} {o : Oper} {a : Act}
theorem steps_lit {cs : Array Value} {t : TypeId} {n : Nat} (hf : f k = some (.lit base cs t)) (hb : base ≤ w.heap.size) (hn : n = cs.size)
    (h : (execOp a.eval o).run P w = .ok (.value (.slice (some ⟨w.heap.size, 0, none⟩) n n)) (w.alloc (.cells cs t))) : steps P Ext o a w (fxR f k) := by
  subst hn
  refine steps_val h ((Below.refl _ _).alloc (Nat.le_refl _) _) ?_
  unfold fxR; rw [hf]
  exact ⟨_, rfl, hb, heap_alloc_new w _⟩
theorem steps_litK {cs : Array Value} {t : TypeId} {n : Nat} (hf : f k = some (.litK base n cs t)) (hb : base ≤ w.heap.size)
    (h : (execOp a.eval o).run P w = .ok (.value (.slice (some ⟨w.heap.size, 0, none⟩) n n)) (w.alloc (.cells cs t))) : steps P Ext o a w (fxR f k) := by
  refine steps_val h ((Below.refl _ _).alloc (Nat.le_refl _) _) ?_
  unfold fxR; rw [hf]
  exact ⟨_, rfl, hb, heap_alloc_new w _⟩
theorem steps_box {ob : Obj} (hf : f k = some (.box base ob)) (hb : base ≤ w.heap.size)
    (h : (execOp a.eval o).run P w = .ok (.value (.pointer (some ⟨w.heap.size, 0, none⟩))) (w.alloc ob)) : steps P Ext o a w (fxR f k) := by
  refine steps_val h ((Below.refl _ _).alloc (Nat.le_refl _) _) ?_
  unfold fxR; rw [hf]
  exact ⟨_, rfl, hb, heap_alloc_new w _⟩
/-- A fact of one operation, out of what is known of all. -/
theorem fx_at {F : Facts} {φ : Fact} {v : Value} {w : World} {p : World → Prop} (h : F k w) (he : F k = p) (hp : p = fxR f k v) (hf : f k = some φ) : φ.p v w := by
  rw [he, hp] at h; unfold fxR at h; rw [hf] at h; exact h
end
section
variable {P : Program} {id : Nat} {Q : Exit → Act → World → Prop} {a : Act} {w : World} {l : List Oper}
theorem wp_region_fx (f : Nat → Option Fact) (hm : P.follows .mixedOrders = true) (hB : Region.lexB .any l.toArray = true)
    (h : wpM P l.toArray .any (Below w.heap.size w) Ext (fxE f) (fxR f) (fun a w => Q .normal a w) l 0 (fun _ _ => True) a) : (Code.region id l.toArray true).wp P Q a w :=
  wp_region_mono _ Ext (fxE f) (fxR f) (fx_good f w) hm hB (Below.refl w.heap.size w).drew h
theorem wp_region_fx_tail (m : Nat) (f : Nat → Option Fact) (hm : P.follows .mixedOrders = true) (hml : decide (m ≤ l.length) = true) (hT : Tail.tailB .any l.toArray m = true) (hB : Region.lexB .any (l.take m).toArray = true)
    (h : wpM P (l.take m).toArray .any (Below w.heap.size w) Ext (fxE f) (fxR f) (fun a w => wpList P l.toArray Q (l.drop m) a w) (l.take m) 0 (fun _ _ => True) a) : (Code.region id l.toArray true).wp P Q a w :=
  Tail.wp_region_mono_tail m _ Ext (fxE f) (fxR f) (fx_good f w) hm hml hT hB (Below.refl w.heap.size w).drew h
end
end Go.Proofs.Ytaaijgalminafaa
