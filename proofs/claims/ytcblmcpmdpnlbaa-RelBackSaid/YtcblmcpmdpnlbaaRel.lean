/-
  Layer 8: an argument that is a relation: its value, and how it reads.
-/
import Derived.Test.YtcblmcpmdpnlbaaReC
import Derived.Test.YtcblmcpmdpnlbaaClose3
import Derived.Deep.Strs
namespace Go.Proofs.Ytcblmcpmdpnlbaa
open Go.ChangeShapes Go.WideShapes Go.ChangeAt Go.RowKit Go.Deep
section
variable {H : Type} {enc : TypeId × Value → H} {P : Program} {W : World} {base : Nat} {spare : Nat → Bool} {held : Bool}
theorem trod_struct4 {t : TypeId} {f0 f1 f2 f3 : Field} {fuel : Nat} {cs : List Value} {x : DataW H × List MemPlace} (ht : P.underlying t = some (.struct #[f0, f1, f2, f3])) (h : DataW.trod enc P W 0 (fun _ => true) true fuel t cs = some x) :
    ∃ y0 y1 y2 y3 n, DataW.trod enc P W 0 (fun _ => true) true n f0.type ((cs.drop f0.offset).take (P.cellsOf f0.type)) = some y0 ∧
      DataW.trod enc P W 0 (fun _ => true) true n f1.type ((cs.drop f1.offset).take (P.cellsOf f1.type)) = some y1 ∧ DataW.trod enc P W 0 (fun _ => true) true n f2.type ((cs.drop f2.offset).take (P.cellsOf f2.type)) = some y2 ∧
      DataW.trod enc P W 0 (fun _ => true) true n f3.type ((cs.drop f3.offset).take (P.cellsOf f3.type)) = some y3 := by
  obtain ⟨xs, n, _, rfl, hl, hlen, hf⟩ := DataW.trod_struct ht h
  match xs, hlen with
  | [y0, y1, y2, y3], _ => exact ⟨y0, y1, y2, y3, n, by simpa using hf 0 f0 rfl, by simpa using hf 1 f1 rfl, by simpa using hf 2 f2 rfl, by simpa using hf 3 f3 rfl⟩
end
theorem relCells : Try.prog.cellsOf 65 = 5 ∧ Try.prog.cellsOf 59 = 2 ∧ Try.prog.cellsOf 57 = 1 ∧ Try.prog.cellsOf 9 = 1 ∧ Try.prog.cellsOf 5 = 1 ∧ Try.prog.cellsOf 63 = 1 ∧ Try.prog.cellsOf 83 = 3 ∧ Try.prog.cellsOf 4 = 1 := by
  refine ⟨?_, ?_, ?_, ?_, ?_, ?_, ?_, ?_⟩ <;> kernel_rfl
set_option maxRecDepth 100000 in
theorem open_rel {H : Type} {enc : TypeId × Value → H} {W : World} {r : Reach} {b0 : Nat} {v : Value} {d : DataW H} {p : List MemPlace} (hok : Value.okWide Try.prog W r b0 65 v) (h : DataW.Trod enc Try.prog W 0 (fun _ => true) true 65 v d p) :
    ∃ (a : Rl) (A : Option Addr) (c : Nat), v = a.v A c ∧ RlAt W W.heap.size a A c ∧ RlOk a := by
  obtain ⟨c65, c59, c57, c9, c5, c63, c83, c4⟩ := relCells
  obtain ⟨cs, rfl, hl, fuel, hf⟩ := open_struct Try.underlying65 hok h
  rw [c65] at hl
  obtain ⟨x0, x1, x2, x3, x4, rfl⟩ := list5 hl
  obtain ⟨y0, y1, y2, y3, n, h0, h1, h2, h3⟩ := trod_struct4 Try.underlying65 hf
  simp only [c59, c9, c5, c63] at h0 h1 h2 h3
  simp at h0 h1 h2 h3
  obtain ⟨z0, z1, m, _, _, k0, k1⟩ := trod_struct2 Try.underlying59 h0
  simp only [c57] at k0 k1
  simp at k0 k1
  obtain ⟨oid, e0, b0⟩ := el_u32' Try.underlying57 k0
  obtain ⟨ver, e1, b1⟩ := el_u32' Try.underlying57 k1
  obtain ⟨nm, e2, b2⟩ := el_str' Try.underlying9 h1
  obtain ⟨idt, e3, b3⟩ := el_u8' Try.underlying5 h2
  obtain ⟨A, c, l, e4, hlc, hcm, hR, hp⟩ := trod_rdK (P := Try.prog) Col.cells (fun o => o.name.size ≤ maxLen) (k := 3) (by omega) (fun _ => rfl) Try.underlying63 c83 (fun n cs y hy => by
    obtain ⟨w0, w1, w2, m, _, hl3, j0, j1, j2⟩ := trod_struct3 Try.underlying83 hy
    rw [c83] at hl3
    obtain ⟨u0, u1, u2, rfl⟩ := list3 hl3
    simp only [c9, c5, c4] at j0 j1 j2
    simp at j0 j1 j2
    obtain ⟨s, f0, g0⟩ := el_str' Try.underlying9 j0
    obtain ⟨ty, f1, g1⟩ := el_u8' Try.underlying5 j1
    obtain ⟨ky, f2⟩ := el_bool' Try.underlying4 j2
    injection f0 with f0 _; injection f1 with f1 _; injection f2 with f2 _
    subst f0 f1 f2
    exact ⟨⟨s, ty, ky⟩, rfl, g0⟩) h3
  injection e0 with e0 _; injection e1 with e1 _; injection e2 with e2 _; injection e3 with e3 _; injection e4 with e4 _
  subst e0 e1 e2 e3 e4
  exact ⟨⟨oid, ver, nm, idt, l⟩, A, c, rfl, ⟨hR, hlc, hcm⟩, ⟨b2, hp, b0, b1⟩⟩
end Go.Proofs.Ytcblmcpmdpnlbaa
