/-
  Layer 24: an argument that is a filter of the document.
-/
import Derived.Test.YtaaijgalminafaaFi1
import Derived.Test.YtaaijgalminafaaClose3
namespace Go.Proofs.Ytaaijgalminafaa
open Go.ChangeShapes Go.WideShapes Go.ChangeAt Go.RowKit Go.Deep
section
variable {H : Type} {enc : TypeId × Value → H} {P : Program} {W : World}
theorem trod_struct4 {t : TypeId} {f0 f1 f2 f3 : Field} {fuel : Nat} {cs : List Value} {x : DataW H × List MemPlace} (ht : P.underlying t = some (.struct #[f0, f1, f2, f3])) (h : DataW.trod enc P W 0 (fun _ => true) true fuel t cs = some x) :
    ∃ y0 y1 y2 y3 n, DataW.trod enc P W 0 (fun _ => true) true n f0.type ((cs.drop f0.offset).take (P.cellsOf f0.type)) = some y0 ∧
      DataW.trod enc P W 0 (fun _ => true) true n f1.type ((cs.drop f1.offset).take (P.cellsOf f1.type)) = some y1 ∧ DataW.trod enc P W 0 (fun _ => true) true n f2.type ((cs.drop f2.offset).take (P.cellsOf f2.type)) = some y2 ∧
      DataW.trod enc P W 0 (fun _ => true) true n f3.type ((cs.drop f3.offset).take (P.cellsOf f3.type)) = some y3 := by
  obtain ⟨xs, n, _, rfl, hl, hlen, hf⟩ := DataW.trod_struct ht h
  match xs, hlen with
  | [y0, y1, y2, y3], _ => exact ⟨y0, y1, y2, y3, n, by simpa using hf 0 f0 rfl, by simpa using hf 1 f1 rfl, by simpa using hf 2 f2 rfl, by simpa using hf 3 f3 rfl⟩
end
theorem flat_u32 (l : List Int) : l.flatMap (fun o : Int => [Value.int .u32 o]) = u32s l := by
  unfold u32s
  induction l with
  | nil => rfl
  | cons a l ih => rw [List.flatMap_cons, List.map_cons, ih]; rfl
theorem flCells : Try.prog.cellsOf 24 = 4 ∧ Try.prog.cellsOf 4 = 1 ∧ Try.prog.cellsOf 22 = 1 ∧ Try.prog.cellsOf 5 = 1 ∧ Try.prog.cellsOf 25 = 1 := by
  refine ⟨?_, ?_, ?_, ?_, ?_⟩ <;> kernel_rfl
set_option maxRecDepth 100000 in
/-- The cells of a filter, as it is read. -/
theorem fl_of {H : Type} {enc : TypeId × Value → H} {W : World} {n : Nat} {cs : List Value} {y : DataW H × List MemPlace} (hl : cs.length = 4) (hf : DataW.trod enc Try.prog W 0 (fun _ => true) true n 24 cs = some y) :
    ∃ (f : Fl) (A : Option Addr) (c : Nat), cs = (f.cells (.slice A f.oids.length c)).toList ∧ FlAt W W.heap.size f A c ∧ FlOk f := by
  obtain ⟨c24, c4, c22, c5, c25⟩ := flCells
  obtain ⟨x0, x1, x2, x3, rfl⟩ := list4 hl
  obtain ⟨y0, y1, y2, y3, m, h0, h1, h2, h3⟩ := trod_struct4 Try.underlying24 hf
  simp only [c4, c22, c5] at h0 h1 h2 h3
  simp at h0 h1 h2 h3
  obtain ⟨al, e0⟩ := el_bool' Try.underlying4 h0
  obtain ⟨A, c, l, e1, hlc, hcm, hR, hp⟩ := trod_rdK (P := Try.prog) (fun o : Int => [Value.int .u32 o]) (fun o => 0 ≤ o ∧ o < 4294967296) (k := 1) (by omega) (fun _ => rfl) Try.underlying22 c25 (fun n cs y hy => by
    obtain ⟨a, e, hb⟩ := el_u32' Try.underlying25 hy
    exact ⟨(a : Int), e, by omega, by omega⟩) h1
  obtain ⟨kd, e2, hk⟩ := el_u8' Try.underlying5 h2
  obtain ⟨em, e3⟩ := el_bool' Try.underlying4 h3
  injection e0 with e0 _; injection e1 with e1 _; injection e2 with e2 _; injection e3 with e3 _
  subst e0 e1 e2 e3
  have hfl := flat_u32 l
  rw [hfl] at hR
  exact ⟨⟨al, l, kd, em⟩, A, c, rfl, ⟨hR, hlc, hcm⟩, ⟨by simp, by simp; omega, hp⟩⟩
set_option maxRecDepth 100000 in
theorem open_fl {H : Type} {enc : TypeId × Value → H} {W : World} {r : Reach} {b0 : Nat} {v : Value} {d : DataW H} {p : List MemPlace} (hok : Value.okWide Try.prog W r b0 24 v) (h : DataW.Trod enc Try.prog W 0 (fun _ => true) true 24 v d p) :
    ∃ (f : Fl) (A : Option Addr) (c : Nat), v = f.v A c ∧ FlAt W W.heap.size f A c ∧ FlOk f := by
  obtain ⟨cs, rfl, hl, fuel, hf⟩ := open_struct Try.underlying24 hok h
  rw [flCells.1] at hl
  obtain ⟨f, A, c, rfl, h1, h2⟩ := fl_of hl hf
  exact ⟨f, A, c, rfl, h1, h2⟩
end Go.Proofs.Ytaaijgalminafaa
