/-
  A whole struct is stored into a block in one step.
-/
import Derived.Test.YtaaijgalminafaaEv4
namespace Go.Proofs.Ytaaijgalminafaa
open Go.RowKit

theorem wpList_store_row {P : Program} {w : World} {ops : Array Oper} {rest : List Oper} {o : Oper} {a : Act} {Q : Exit → Act → World → Prop} (hgd : o.guard = none) (ty : TypeId) (x y : Operand) (ho : o.op = .store ty x y)
    (g : Nat) (hx : a.eval x = .pointer (some ⟨g, 0, none⟩)) (cs : Array Value) (hy : a.eval y = .agg cs) (cur : Array Value) (te : TypeId) (hg : w.heap[g]? = some (.cells cur te (0, 0)))
    (hi : (P.info? ty).map (·.size) = some cs.size) (hl : cs.size = cur.size) (h1 : ∀ u ∈ cs.toList, u.oneCell' = true) (hd : o.dst = none)
    (h : wpList P ops Q rest a (w.setRow g cs)) : wpList P ops Q (o :: rest) a w := by
  obtain ⟨i, hi1, hi2⟩ : ∃ i, P.info? ty = some i ∧ i.size = cs.size := by
    cases hp : P.info? ty with
    | none => rw [hp] at hi; cases hi
    | some i => rw [hp] at hi; exact ⟨i, rfl, by simpa using hi⟩
  have hco : P.cellsOf ty = cs.size := by simp [Program.cellsOf, hi1, hi2]
  have hr := Mem.run_storeAt_whole (P := P) (w := w) (t := ty) hi1 (g := g) (v := .agg cs) hg hco.symm hl h1
  refine wpList_plain hgd fun K hK => ?_
  unfold Oper.wp execOp
  simp only [ho, hx, hy, Sem.run_bind, Sem.run_pure, hr, Result.andThen_ok]
  have := hK _ _ h
  simpa [Oper.upon, hd, Act.put, Value.cells] using this
section
variable {w w0 : World} {B g : Nat} {cs : Array Value}
theorem below_setRow (h : Below B w0 w) (hg : B ≤ g) : Below B w0 (w.setRow g cs) := ⟨h.os, h.tape, h.output, by simpa [World.setRow] using h.size, fun k hk => (setRow_other w g k cs (by omega)).trans (h.block k hk)⟩
theorem Same.setRow {S : Nat → Prop} (h : ¬ S g) : Same S w (w.setRow g cs) := fun p hp => World.cell?_of_block (setRow_other w g p.block cs (fun e => h (by rw [← e]; exact hp)))
theorem size_setRow : (w.setRow g cs).heap.size = w.heap.size := by simp [World.setRow]
end
end Go.Proofs.Ytaaijgalminafaa
