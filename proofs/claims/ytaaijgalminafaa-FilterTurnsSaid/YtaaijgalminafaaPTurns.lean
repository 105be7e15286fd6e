/-
  Layer 24: FilterTurns: true is answered.
-/
import Derived.Test.YtaaijgalminafaaRows
import Derived.Test.YtaaijgalminafaaFt
import Derived.Test.YtaaijgalminafaaOf
namespace Go.Proofs.Ytaaijgalminafaa
open Go.ChangeShapes Go.WideShapes Go.ChangeAt Go.RowKit

theorem otherCells : Try.prog.cellsOf 27 = 5 ∧ Try.prog.cellsOf 24 = 4 ∧ Try.prog.cellsOf 25 = 1 := by
  refine ⟨?_, ?_, ?_⟩ <;> kernel_rfl
set_option maxRecDepth 100000 in
/-- An argument that is a filter and an oid. -/
theorem open_other {H : Type} {enc : TypeId × Value → H} {W : World} {r : Reach} {b0 : Nat} {v : Value} {d : DataW H} {p : List MemPlace} (hok : Value.okWide Try.prog W r b0 27 v) (h : DataW.Trod enc Try.prog W 0 (fun _ => true) true 27 v d p) :
    ∃ (f : Fl) (o : Int) (A : Option Addr) (c : Nat), v = .agg #[.bool f.all, .slice A f.oids.length c, .int .u8 f.kinds, .bool f.empty, .int .u32 o] ∧ FlAt W W.heap.size f A c := by
  obtain ⟨c27, c24, c25⟩ := otherCells
  obtain ⟨cs, rfl, hl, fuel, hf⟩ := Go.Proofs.Ytaaijgalminafaa.open_struct Try.underlying27 hok h
  rw [c27] at hl
  obtain ⟨x0, x1, x2, x3, x4, rfl⟩ := list5 hl
  obtain ⟨z0, z1, m, _, _, k0, k1⟩ := trod_struct2 Try.underlying27 hf
  simp only [c24, c25] at k0 k1
  simp at k0 k1
  obtain ⟨f, A, c, e, h1, _⟩ := fl_of (by simp) k0
  obtain ⟨a, e4, _⟩ := el_u32' Try.underlying25 k1
  simp [Fl.cells] at e
  obtain ⟨rfl, rfl, rfl, rfl⟩ := e
  injection e4 with e4 _
  subst e4
  exact ⟨f, _, A, c, rfl, h1⟩
namespace filterTurns
theorem own : ownKnob Try.prog.godebug = none := by kernel_rfl
theorem laidOut : laidOutB Try.prog = true := by kernel_rfl
theorem reads : ∀ t ∈ Try.f3.params.toList, Try.prog.readableRec t = true ∧ t < Try.prog.types.size := by
  intro t ht
  rw [Try.params3] at ht
  have : t = 24 ∨ t = 27 := by simp at ht; omega
  rcases this with rfl | rfl
  · exact ⟨by kernel_rfl, of_decide_eq_true (by kernel_rfl)⟩
  · exact ⟨by kernel_rfl, of_decide_eq_true (by kernel_rfl)⟩

set_option maxRecDepth 100000 in
theorem lifted (os : Os) (started : os.Started) (H : Type) (enc : TypeId × Value → H) :
    ReturnsInHanded {} Try.checked os 3 .any (Rows.filterTurnsSpec.pre6 enc Try.prog Try.f3 Rows.filterTurnsRow.domain false) (Rows.filterTurnsSpec.post enc Try.prog Try.f3 false true false false) := by
  refine returnsInHanded_of_change (C := Try.checked) own started (by kernel_rfl) Try.func3
    (ChangeSpec.witness6 (enc := enc) (C := Try.checked) false ⟨#[], #[.agg #[.bool false, .slice none 0 0, .int .u8 0, .bool false], .agg #[.bool false, .slice none 0 0, .int .u8 0, .bool false], .agg #[.bool false, .slice none 0 0, .int .u8 0, .bool false, .int .u32 0]], []⟩ 8 (by kernel_rfl) (by kernel_rfl) (by kernel_rfl) (by kernel_rfl)) ?_
  intro W base args ds gs before hval0 hW hcnd _
  have hval : ∀ (j : Nat) t v, Try.f3.params[j]? = some t → args[j]? = some v → Value.okWide Try.prog W .any base t v := hval0
  have hW' := hW
  obtain ⟨p, q, hA0, hV, rfl, hfz, hnd⟩ := hW
  have hA : DataW.TrodAll enc Try.prog W 0 (fun _ => true) true Try.f3.params.toList args.toList ds p := hA0
  rw [Try.params3] at hA hval
  obtain ⟨v0, v1, v2, d0, d1, d2, p0, p1, p2, rfl, rfl, rfl, h0, h1, h2⟩ := trodAll_three hA
  obtain ⟨rfl, rfl⟩ := trodVars_none hV
  obtain ⟨x, A, c, rfl, hx, -⟩ := open_fl (hval 0 24 v0 rfl rfl) h0
  obtain ⟨y, B, d, rfl, hy, -⟩ := open_fl (hval 1 24 v1 rfl rfl) h1
  obtain ⟨z, o, C, e, rfl, hz⟩ := open_other (hval 2 27 v2 rfl rfl) h2
  refine (filterTurns_walk x y z o A B C c d e W hx hy hz).mono fun e' W' ⟨he, hB⟩ => ?_
  subst he
  exact ⟨_, rfl, law_done hW' rfl laidOut reads rfl Try.underlying4 rfl rfl rfl hB⟩
end filterTurns

theorem filterTurns_holds : Rows.FilterTurnsSaid :=
  OpenClaim.holds_of_wide 3 Try.f3 rfl rfl rfl rfl rfl rfl rfl ⟨rfl, rfl, rfl, rfl, rfl⟩ rfl rfl rfl rfl rfl (by kernel_rfl) Try.func3 (by kernel_rfl)
    (of_decide_eq_true (by kernel_rfl)) (by unfold Func.isWrapper; rw [if_neg (of_decide_eq_false (by kernel_rfl))]; exact ⟨rfl, rfl⟩)
    (fun os started H enc _ => filterTurns.lifted os started H enc)
#print axioms filterTurns_holds
end Go.Proofs.Ytaaijgalminafaa
