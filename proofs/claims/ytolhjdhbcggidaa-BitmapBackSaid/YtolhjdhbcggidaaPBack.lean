/-
  BitmapBack: for every slice of bools, every slice of bytes and every int the law returns true, and its arguments read afterwards as before. No condition.
-/
import Derived.Test.YtolhjdhbcggidaaRows
import Derived.Test.YtolhjdhbcggidaaBm8
import Derived.Test.YtolhjdhbcggidaaClose
namespace Go.Proofs.Ytolhjdhbcggidaa
open Go.ChangeShapes Go.WideShapes Go.ChangeAt Go.RowKit
open Go.ChangeMaps (open_string)

namespace bitmapBack
theorem own : ownKnob Try.prog.godebug = none := by kernel_rfl
theorem laidOut : laidOutB Try.prog = true := by kernel_rfl
theorem cells4 : Try.prog.cellsOf 4 = 1 := by kernel_rfl
theorem cells5 : Try.prog.cellsOf 5 = 1 := by kernel_rfl
theorem reads : ∀ t ∈ Try.f4.params.toList, Try.prog.readableRec t = true ∧ t < Try.prog.types.size := by
  intro t ht
  rw [Try.params4] at ht
  have : t = 23 ∨ t = 22 ∨ t = 3 := by simp at ht; omega
  rcases this with rfl | rfl | rfl
  · exact ⟨by kernel_rfl, of_decide_eq_true (by kernel_rfl)⟩
  · exact ⟨by kernel_rfl, of_decide_eq_true (by kernel_rfl)⟩
  · exact ⟨by kernel_rfl, of_decide_eq_true (by kernel_rfl)⟩

set_option maxRecDepth 100000 in
theorem lifted (os : Os) (started : os.Started) (H : Type) (enc : TypeId × Value → H) :
    ReturnsInHanded {} Try.checked os 4 .any (Rows.bitmapBackSpec.pre6 enc Try.prog Try.f4 Rows.bitmapBackRow.domain false) (Rows.bitmapBackSpec.post enc Try.prog Try.f4 false true false false) := by
  refine returnsInHanded_of_change (C := Try.checked) own started (by kernel_rfl) Try.func4
    (ChangeSpec.witness6 (enc := enc) (C := Try.checked) false ⟨#[], #[.slice none 0 0, .slice none 0 0, .int .i64 0], []⟩ 8 (by kernel_rfl) (by kernel_rfl) (by kernel_rfl) (by kernel_rfl)) ?_
  intro W base args ds gs before hval0 hW hcnd _
  have hval : ∀ (j : Nat) t v, Try.f4.params[j]? = some t → args[j]? = some v → Value.okWide Try.prog W .any base t v := hval0
  have hW' := hW
  obtain ⟨p, q, hA0, hV, rfl, hfz, hnd⟩ := hW
  have hA : DataW.TrodAll enc Try.prog W 0 (fun _ => true) true Try.f4.params.toList args.toList ds p := hA0
  rw [Try.params4] at hA hval
  obtain ⟨v0, v1, v2, d0, d1, d2, p0, p1, p2, rfl, rfl, rfl, h0, h1, h2⟩ := trodAll_three hA
  obtain ⟨rfl, rfl⟩ := trodVars_none hV
  obtain ⟨A0, c0, l0, rfl, hlc0, hcm0, hR0⟩ := open_bools Try.underlying23 Try.underlying4 cells4 (hval 0 23 v0 rfl rfl) h0
  obtain ⟨A1, c1, l1, rfl, hlc1, hcm1, hR1⟩ := open_bytes Try.underlying22 Try.underlying5 cells5 (hval 1 22 v1 rfl rfl) h1
  obtain ⟨n2, rfl, _, _, wn2⟩ := open_int Try.underlying3 (hval 2 3 v2 rfl rfl) h2
  have hb2 : -9223372036854775808 ≤ n2 ∧ n2 ≤ 9223372036854775807 := by simpa [Lit.wf, IntKind.min, IntKind.max, IntKind.signed, IntKind.bits] using wn2
  refine (bitmapBack_walk A0 c0 l0 A1 c1 l1 n2 W hR0 hR1 hb2).mono fun e W' ⟨he, hB⟩ => ?_
  subst he
  exact ⟨_, rfl, law_done hW' rfl laidOut reads rfl Try.underlying4 rfl rfl rfl hB⟩
end bitmapBack

theorem bitmapBack_holds : Rows.BitmapBackSaid :=
  OpenClaim.holds_of_wide 4 Try.f4 rfl rfl rfl rfl rfl rfl rfl ⟨rfl, rfl, rfl, rfl, rfl⟩ rfl rfl rfl rfl rfl (by kernel_rfl) Try.func4 (by kernel_rfl)
    (of_decide_eq_true (by kernel_rfl)) (by unfold Func.isWrapper; rw [if_neg (of_decide_eq_false (by kernel_rfl))]; exact ⟨rfl, rfl⟩)
    (fun os started H enc _ => bitmapBack.lifted os started H enc)
#print axioms bitmapBack_holds
end Go.Proofs.Ytolhjdhbcggidaa
