/-
  Regions that draw their order, with calls that make memory and conversions: what the operations answer (Ans), and the steps.
-/
import Derived.Test.YtaaijgalminafaaKit
import Derived.Test.YtaaijgalminafaaMono
namespace Go.Proofs.Ytaaijgalminafaa
open Go.RowKit Mono
attribute [local go_sem] pureAt pureUpon

/-- A slice value that reads as xs, somewhere. -/
def RdS (size : Nat) (xs : List Value) (v : Value) (w : World) : Prop := ∃ A n c, v = .slice A n c ∧ Rd w w.heap.size size A n xs
def Ext (w w' : World) : Prop := Below w.heap.size w w'
theorem RdS.up {size : Nat} {xs : List Value} {v : Value} {w w' : World} (h : RdS size xs v w) (he : Ext w w') : RdS size xs v w' := by
  obtain ⟨A, n, c, rfl, hR⟩ := h
  exact ⟨A, n, c, rfl, hR.up he (Nat.le_refl _) he.size⟩

/-- What an operation that extends the world answers: a slice that reads as these bytes, or a fixed value. -/
inductive Ans
  | rd (xs : List UInt8)
  | val (v : Value)
  | any
def ansR (f : Nat → Ans) (k : Nat) (v : Value) (w : World) : Prop :=
  match f k with
  | .rd xs => RdS 1 (byt xs) v w
  | .val u => v = u
  | .any => True
def ansE (f : Nat → Ans) (k : Nat) : Bool :=
  match f k with
  | .any => false
  | _ => true
theorem ans_good (f : Nat → Ans) (w0 : World) : Mono.Good (Below w0.heap.size w0) Ext (ansR f) := by
  refine ⟨fun w w' h he => step_below h he, fun i v w w' h he => ?_⟩
  unfold ansR at h ⊢
  split at h <;> first | exact h.up he | exact h
theorem steps_val {P : Program} {E : World → World → Prop} {o : Oper} {a : Act} {w w' : World} {p : Value → World → Prop} {v : Value} (h : (execOp a.eval o).run P w = .ok (.value v) w') (he : E w w') (hp : p v w') : steps P E o a w p := by
  unfold steps; rw [h]; exact ⟨he, hp⟩
theorem run_v {P : Program} {m : Sem Value} {v : Value} {w w' : World} (h : m.run P w = .ok v w') : ((do let x ← m; pure (Next.value x)) : Sem Next).run P w = .ok (.value v) w' := by
  simp only [Sem.run_bind, h]; rfl
theorem steps_enter {P : Program} {E : World → World → Prop} {o : Oper} {a : Act} {w : World} {p : Value → World → Prop} {f : FuncId} {args : Array Value} {post : Ending → World → Prop}
    (hc : Calls P f args w post) (h : (execOp a.eval o).run P w = .ok (.enter f args) w) (hp : ∀ e w', post e w' → ∃ u, e = .returned u ∧ E w w' ∧ p u w') : steps P E o a w p := steps_call h (hc.mono hp)
theorem steps_str {P : Program} {o : Oper} {a : Act} {w : World} {p : Value → World → Prop} (v : Value) {l : List UInt8} {src dst e : TypeId} (hs : P.underlying src = some (.slice e)) (he : P.underlying e = some (.int .u8)) (hd : P.underlying dst = some .string)
    (h : RdS 1 (byt l) v w) (hx : ∀ u w', (convert src dst v).run P w = .ok u w' → (execOp a.eval o).run P w = .ok (.value u) w') (hp : p (.string ⟨l.toArray⟩) w) : steps P Ext o a w p := by
  obtain ⟨A, n, c, rfl, hR⟩ := h
  exact steps_val (hx _ _ (run_str_of_bytes hs he hd hR)) (Below.refl _ _) hp
end Go.Proofs.Ytaaijgalminafaa
