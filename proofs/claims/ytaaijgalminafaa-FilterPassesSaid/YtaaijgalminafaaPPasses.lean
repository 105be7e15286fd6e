import Derived.Test.YtaaijgalminafaaRows
import Derived.SizedLaws
import Derived.Test.YtaaijgalminafaaFz
import Derived.Test.YtaaijgalminafaaTv
/-
  Layer 24: FilterPasses: true is answered.
-/
namespace Go.Proofs.Ytaaijgalminafaa
open Go.ChangeShapes Go.WideShapes Go.ChangeAt Go.RowKit

namespace filterPasses
theorem own : ownKnob Try.prog.godebug = none := by kernel_rfl
theorem laidOut : laidOutB Try.prog = true := by kernel_rfl
theorem reads : ∀ t ∈ Try.f5.params.toList, Try.prog.readableRec t = true ∧ t < Try.prog.types.size := by
  intro t ht
  rw [Try.params5] at ht
  have : t = 24 ∨ t = 34 ∨ t = 25 := by simp at ht; omega
  rcases this with rfl | rfl | rfl
  · exact ⟨by kernel_rfl, of_decide_eq_true (by kernel_rfl)⟩
  · exact ⟨by kernel_rfl, of_decide_eq_true (by kernel_rfl)⟩
  · exact ⟨by kernel_rfl, of_decide_eq_true (by kernel_rfl)⟩

set_option maxRecDepth 100000 in
theorem lifted (os : Os) (started : os.Started) (H : Type) (enc : TypeId × Value → H) :
    ReturnsInHanded {} Try.checked os 5 .any (Rows.filterPassesSpec.pre6 enc Try.prog Try.f5 Rows.filterPassesRow.domain false) (Rows.filterPassesSpec.post enc Try.prog Try.f5 false true false false) := by
  refine returnsInHanded_of_change_sized (C := Try.checked) own started (by kernel_rfl) Try.func5
    (ChangeSpec.witness6 (enc := enc) (C := Try.checked) false ⟨#[], #[.agg #[.bool false, .slice none 0 0, .int .u8 0, .bool false], .slice none 0 0, .int .u32 0], []⟩ 8 (by kernel_rfl) (by kernel_rfl) (by kernel_rfl) (by kernel_rfl)) ?_
  intro W base args ds gs before hval0 hW hcnd hsz _
  have hval : ∀ (j : Nat) t v, Try.f5.params[j]? = some t → args[j]? = some v → Value.okWide Try.prog W .any base t v := hval0
  have hW' := hW
  obtain ⟨p, q, hA0, hV, rfl, hfz, hnd⟩ := hW
  have hA : DataW.TrodAll enc Try.prog W 0 (fun _ => true) true Try.f5.params.toList args.toList ds p := hA0
  rw [Try.params5] at hA hval
  obtain ⟨v0, v1, v2, d0, d1, d2, p0, p1, p2, rfl, rfl, rfl, h0, h1, h2⟩ := trodAll_three hA
  obtain ⟨rfl, rfl⟩ := trodVars_none hV
  obtain ⟨x, A, c, rfl, hx, ox⟩ := open_fl (hval 0 24 v0 rfl rfl) h0
  have hw1 : ∀ k ∈ d1.weights Try.prog 34, k ≤ reachBytes := fun k hk => by
    have h := List.all_eq_true.1 hsz k (DataW.weights_mem_each (j := 1) (t := 34) (d := d1) (by rfl) (by rfl) k hk)
    simpa using h
  obtain ⟨r, rfl, hr, hin⟩ := open_txs (hval 1 34 v1 rfl rfl) h1 hw1
  obtain ⟨o, rfl, _, _, _⟩ := open_int Try.underlying25 (hval 2 25 v2 rfl rfl) h2
  refine (filterPasses_walk x r o A c W hx ox hr hin).mono fun e' W' ⟨he, hB⟩ => ?_
  subst he
  exact ⟨_, rfl, law_done hW' rfl laidOut reads rfl Try.underlying4 rfl rfl rfl hB⟩
end filterPasses

theorem filterPasses_holds : Rows.FilterPassesSaid :=
  OpenClaim.holds_of_wide 5 Try.f5 rfl rfl rfl rfl rfl rfl rfl ⟨rfl, rfl, rfl, rfl, rfl⟩ rfl rfl rfl rfl rfl (by kernel_rfl) Try.func5 (by kernel_rfl)
    (of_decide_eq_true (by kernel_rfl)) (by unfold Func.isWrapper; rw [if_neg (of_decide_eq_false (by kernel_rfl))]; exact ⟨rfl, rfl⟩)
    (fun os started H enc _ => filterPasses.lifted os started H enc)
#print axioms filterPasses_holds
end Go.Proofs.Ytaaijgalminafaa
