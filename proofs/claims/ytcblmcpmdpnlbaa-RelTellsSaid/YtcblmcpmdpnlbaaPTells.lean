/-
  Layer 8: RelTells: true is answered.
-/
import Derived.Test.YtcblmcpmdpnlbaaRows
import Derived.Test.YtcblmcpmdpnlbaaReD
import Derived.Test.YtcblmcpmdpnlbaaRel
namespace Go.Proofs.Ytcblmcpmdpnlbaa
open Go.ChangeShapes Go.WideShapes Go.ChangeAt Go.RowKit

namespace relTells
theorem own : ownKnob Try.prog.godebug = none := by kernel_rfl
theorem laidOut : laidOutB Try.prog = true := by kernel_rfl
theorem reads : ∀ t ∈ Try.f10.params.toList, Try.prog.readableRec t = true ∧ t < Try.prog.types.size := by
  intro t ht
  rw [Try.params10] at ht
  have : t = 65 := by simpa using ht
  subst this
  exact ⟨by kernel_rfl, of_decide_eq_true (by kernel_rfl)⟩

set_option maxRecDepth 100000 in
theorem lifted (os : Os) (started : os.Started) (H : Type) (enc : TypeId × Value → H) :
    ReturnsInHanded {} Try.checked os 10 .any (Rows.relTellsSpec.pre6 enc Try.prog Try.f10 Rows.relTellsRow.domain false) (Rows.relTellsSpec.post enc Try.prog Try.f10 false true false false) := by
  refine returnsInHanded_of_change (C := Try.checked) own started (by kernel_rfl) Try.func10
    (ChangeSpec.witness6 (enc := enc) (C := Try.checked) false ⟨#[], #[.agg #[.int .u32 0, .int .u32 0, .string ⟨#[]⟩, .int .u8 0, .slice none 0 0], .agg #[.int .u32 0, .int .u32 0, .string ⟨#[]⟩, .int .u8 0, .slice none 0 0]], []⟩ 8 (by kernel_rfl) (by kernel_rfl) (by kernel_rfl) (by kernel_rfl)) ?_
  intro W base args ds gs before hval0 hW hcnd _
  have hval : ∀ (j : Nat) t v, Try.f10.params[j]? = some t → args[j]? = some v → Value.okWide Try.prog W .any base t v := hval0
  have hW' := hW
  obtain ⟨p, q, hA0, hV, rfl, hfz, hnd⟩ := hW
  have hA : DataW.TrodAll enc Try.prog W 0 (fun _ => true) true Try.f10.params.toList args.toList ds p := hA0
  rw [Try.params10] at hA hval
  obtain ⟨v0, v1, d0, d1, p0, p1, rfl, rfl, rfl, h0, h1⟩ := trodAll_two hA
  obtain ⟨rfl, rfl⟩ := trodVars_none hV
  obtain ⟨a, A, c, rfl, hA1, oa⟩ := open_rel (hval 0 65 v0 rfl rfl) h0
  obtain ⟨b, A', c', rfl, hA2, ob⟩ := open_rel (hval 1 65 v1 rfl rfl) h1
  refine (relTells_walk a b A c A' c' W hA1 hA2 oa ob).mono fun e W' ⟨he, hB⟩ => ?_
  subst he
  exact ⟨_, rfl, law_done hW' rfl laidOut reads rfl Try.underlying4 rfl rfl rfl hB⟩
end relTells

theorem relTells_holds : Rows.RelTellsSaid :=
  OpenClaim.holds_of_wide 10 Try.f10 rfl rfl rfl rfl rfl rfl rfl ⟨rfl, rfl, rfl, rfl, rfl⟩ rfl rfl rfl rfl rfl (by kernel_rfl) Try.func10 (by kernel_rfl)
    (of_decide_eq_true (by kernel_rfl)) (by unfold Func.isWrapper; rw [if_neg (of_decide_eq_false (by kernel_rfl))]; exact ⟨rfl, rfl⟩)
    (fun os started H enc _ => relTells.lifted os started H enc)
#print axioms relTells_holds
end Go.Proofs.Ytcblmcpmdpnlbaa
