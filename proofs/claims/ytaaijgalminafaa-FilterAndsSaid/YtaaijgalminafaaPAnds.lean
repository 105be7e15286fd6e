/-
  Layer 24: FilterAnds: true is answered.
-/
import Derived.Test.YtaaijgalminafaaRows
import Derived.Test.YtaaijgalminafaaFa1
import Derived.Test.YtaaijgalminafaaOf
namespace Go.Proofs.Ytaaijgalminafaa
open Go.ChangeShapes Go.WideShapes Go.ChangeAt Go.RowKit

namespace filterAnds
theorem own : ownKnob Try.prog.godebug = none := by kernel_rfl
theorem laidOut : laidOutB Try.prog = true := by kernel_rfl
theorem reads : ∀ t ∈ Try.f6.params.toList, Try.prog.readableRec t = true ∧ t < Try.prog.types.size := by
  intro t ht
  rw [Try.params6] at ht
  have : t = 24 := by simpa using ht
  subst this
  exact ⟨by kernel_rfl, of_decide_eq_true (by kernel_rfl)⟩

set_option maxRecDepth 100000 in
theorem lifted (os : Os) (started : os.Started) (H : Type) (enc : TypeId × Value → H) :
    ReturnsInHanded {} Try.checked os 6 .any (Rows.filterAndsSpec.pre6 enc Try.prog Try.f6 Rows.filterAndsRow.domain false) (Rows.filterAndsSpec.post enc Try.prog Try.f6 false true false false) := by
  refine returnsInHanded_of_change (C := Try.checked) own started (by kernel_rfl) Try.func6
    (ChangeSpec.witness6 (enc := enc) (C := Try.checked) false ⟨#[], #[.agg #[.bool false, .slice none 0 0, .int .u8 0, .bool false], .agg #[.bool false, .slice none 0 0, .int .u8 0, .bool false]], []⟩ 8 (by kernel_rfl) (by kernel_rfl) (by kernel_rfl) (by kernel_rfl)) ?_
  intro W base args ds gs before hval0 hW hcnd _
  have hval : ∀ (j : Nat) t v, Try.f6.params[j]? = some t → args[j]? = some v → Value.okWide Try.prog W .any base t v := hval0
  have hW' := hW
  obtain ⟨p, q, hA0, hV, rfl, hfz, hnd⟩ := hW
  have hA : DataW.TrodAll enc Try.prog W 0 (fun _ => true) true Try.f6.params.toList args.toList ds p := hA0
  rw [Try.params6] at hA hval
  obtain ⟨v0, v1, d0, d1, p0, p1, rfl, rfl, rfl, h0, h1⟩ := trodAll_two hA
  obtain ⟨rfl, rfl⟩ := trodVars_none hV
  obtain ⟨x, A, c, rfl, hx, okx⟩ := open_fl (hval 0 24 v0 rfl rfl) h0
  obtain ⟨y, B, d, rfl, hy, oky⟩ := open_fl (hval 1 24 v1 rfl rfl) h1
  refine (filterAnds_walk x y A B c d W hx hy okx oky).mono fun e W' ⟨he, hB⟩ => ?_
  subst he
  exact ⟨_, rfl, law_done hW' rfl laidOut reads rfl Try.underlying4 rfl rfl rfl hB⟩
end filterAnds

theorem filterAnds_holds : Rows.FilterAndsSaid :=
  OpenClaim.holds_of_wide 6 Try.f6 rfl rfl rfl rfl rfl rfl rfl ⟨rfl, rfl, rfl, rfl, rfl⟩ rfl rfl rfl rfl rfl (by kernel_rfl) Try.func6 (by kernel_rfl)
    (of_decide_eq_true (by kernel_rfl)) (by unfold Func.isWrapper; rw [if_neg (of_decide_eq_false (by kernel_rfl))]; exact ⟨rfl, rfl⟩)
    (fun os started H enc _ => filterAnds.lifted os started H enc)
#print axioms filterAnds_holds
end Go.Proofs.Ytaaijgalminafaa
