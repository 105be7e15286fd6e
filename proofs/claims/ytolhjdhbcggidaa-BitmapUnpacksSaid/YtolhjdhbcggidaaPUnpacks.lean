/-
  BitmapUnpacks: for every slice of bytes and every int the law returns true, and its arguments read afterwards as before. No condition.
-/
import Derived.Test.YtolhjdhbcggidaaRows
import Derived.Test.YtolhjdhbcggidaaBm7
import Derived.Test.YtolhjdhbcggidaaClose
namespace Go.Proofs.Ytolhjdhbcggidaa
open Go.ChangeShapes Go.WideShapes Go.ChangeAt Go.RowKit

theorem Try.own : ownKnob Try.prog.godebug = none := by kernel_rfl
theorem Try.laidOut : laidOutB Try.prog = true := by kernel_rfl
theorem Try.cells5 : Try.prog.cellsOf 5 = 1 := by kernel_rfl
theorem Try.reads3 : ∀ t ∈ Try.f3.params.toList, Try.prog.readableRec t = true ∧ t < Try.prog.types.size := by
  intro t ht
  rw [Try.params3] at ht
  have : t = 22 ∨ t = 3 := by simpa using ht
  rcases this with rfl | rfl
  · exact ⟨by kernel_rfl, of_decide_eq_true (by kernel_rfl)⟩
  · exact ⟨by kernel_rfl, of_decide_eq_true (by kernel_rfl)⟩

set_option maxRecDepth 100000 in
theorem bitmapUnpacks_lifted (os : Os) (started : os.Started) (H : Type) (enc : TypeId × Value → H) :
    ReturnsInHanded {} Try.checked os 3 .any (Rows.bitmapUnpacksSpec.pre6 enc Try.prog Try.f3 Rows.bitmapUnpacksRow.domain false) (Rows.bitmapUnpacksSpec.post enc Try.prog Try.f3 false true false false) := by
  refine returnsInHanded_of_change (C := Try.checked) Try.own started (by kernel_rfl) Try.func3
    (ChangeSpec.witness6 (enc := enc) (C := Try.checked) false ⟨#[], #[.slice none 0 0, .int .i64 0], []⟩ 8 (by kernel_rfl) (by kernel_rfl) (by kernel_rfl) (by kernel_rfl)) ?_
  intro W base args ds gs before hval0 hW hcnd _
  have hval : ∀ (j : Nat) t v, Try.f3.params[j]? = some t → args[j]? = some v → Value.okWide Try.prog W .any base t v := hval0
  have hW' := hW
  obtain ⟨p, q, hA0, hV, rfl, hfz, hnd⟩ := hW
  have hA : DataW.TrodAll enc Try.prog W 0 (fun _ => true) true Try.f3.params.toList args.toList ds p := hA0
  rw [Try.params3] at hA hval
  obtain ⟨v0, v1, d0, d1, p0, p1, rfl, rfl, rfl, h0, h1⟩ := trodAll_two hA
  obtain ⟨rfl, rfl⟩ := trodVars_none hV
  obtain ⟨A, c, l, rfl, hlc, hcm, hR⟩ := open_bytes Try.underlying22 Try.underlying5 Try.cells5 (hval 0 22 v0 rfl rfl) h0
  obtain ⟨n, rfl, _, _, wn⟩ := open_int Try.underlying3 (hval 1 3 v1 rfl rfl) h1
  refine (bitmapUnpacks_walk A c l n W hR).mono fun e W' ⟨he, hB⟩ => ?_
  subst he
  exact ⟨_, rfl, law_done hW' rfl Try.laidOut Try.reads3 rfl Try.underlying4 rfl rfl rfl hB⟩

theorem bitmapUnpacks_holds : Rows.BitmapUnpacksSaid :=
  OpenClaim.holds_of_wide 3 Try.f3 rfl rfl rfl rfl rfl rfl rfl ⟨rfl, rfl, rfl, rfl, rfl⟩ rfl rfl rfl rfl rfl (by kernel_rfl) Try.func3 (by kernel_rfl)
    (of_decide_eq_true (by kernel_rfl)) (by unfold Func.isWrapper; rw [if_neg (of_decide_eq_false (by kernel_rfl))]; exact ⟨rfl, rfl⟩)
    (fun os started H enc _ => bitmapUnpacks_lifted os started H enc)
#print axioms bitmapUnpacks_holds
end Go.Proofs.Ytolhjdhbcggidaa
