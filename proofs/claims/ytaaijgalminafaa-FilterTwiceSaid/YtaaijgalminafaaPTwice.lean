import Derived.Test.YtaaijgalminafaaRows
import Derived.SizedLaws
import Derived.Test.YtaaijgalminafaaFw
import Derived.Test.YtaaijgalminafaaTv
/-
  Layer 24: FilterTwice: true is answered.
-/
namespace Go.Proofs.Ytaaijgalminafaa
open Go.ChangeShapes Go.WideShapes Go.ChangeAt Go.RowKit

namespace filterTwice
theorem own : ownKnob Try.prog.godebug = none := by kernel_rfl
theorem laidOut : laidOutB Try.prog = true := by kernel_rfl
theorem reads : ∀ t ∈ Try.f4.params.toList, Try.prog.readableRec t = true ∧ t < Try.prog.types.size := by
  intro t ht
  rw [Try.params4] at ht
  have : t = 24 ∨ t = 34 := by simp at ht; omega
  rcases this with rfl | rfl
  · exact ⟨by kernel_rfl, of_decide_eq_true (by kernel_rfl)⟩
  · exact ⟨by kernel_rfl, of_decide_eq_true (by kernel_rfl)⟩

set_option maxRecDepth 100000 in
theorem lifted (os : Os) (started : os.Started) (H : Type) (enc : TypeId × Value → H) :
    ReturnsInHanded {} Try.checked os 4 .any (Rows.filterTwiceSpec.pre6 enc Try.prog Try.f4 Rows.filterTwiceRow.domain false) (Rows.filterTwiceSpec.post enc Try.prog Try.f4 false true false false) := by
  refine returnsInHanded_of_change_sized (C := Try.checked) own started (by kernel_rfl) Try.func4
    (ChangeSpec.witness6 (enc := enc) (C := Try.checked) false ⟨#[], #[.agg #[.bool false, .slice none 0 0, .int .u8 0, .bool false], .agg #[.bool false, .slice none 0 0, .int .u8 0, .bool false], .slice none 0 0], []⟩ 8 (by kernel_rfl) (by kernel_rfl) (by kernel_rfl) (by kernel_rfl)) ?_
  intro W base args ds gs before hval0 hW hcnd hsz _
  have hval : ∀ (j : Nat) t v, Try.f4.params[j]? = some t → args[j]? = some v → Value.okWide Try.prog W .any base t v := hval0
  have hW' := hW
  obtain ⟨p, q, hA0, hV, rfl, hfz, hnd⟩ := hW
  have hA : DataW.TrodAll enc Try.prog W 0 (fun _ => true) true Try.f4.params.toList args.toList ds p := hA0
  rw [Try.params4] at hA hval
  obtain ⟨v0, v1, v2, d0, d1, d2, p0, p1, p2, rfl, rfl, rfl, h0, h1, h2⟩ := trodAll_three hA
  obtain ⟨rfl, rfl⟩ := trodVars_none hV
  obtain ⟨x, A, c, rfl, hx, ox⟩ := open_fl (hval 0 24 v0 rfl rfl) h0
  obtain ⟨y, B, d, rfl, hy, oy⟩ := open_fl (hval 1 24 v1 rfl rfl) h1
  have hw2 : ∀ k ∈ d2.weights Try.prog 34, k ≤ reachBytes := fun k hk => by
    have h := List.all_eq_true.1 hsz k (DataW.weights_mem_each (j := 2) (t := 34) (d := d2) (by rfl) (by rfl) k hk)
    simpa using h
  obtain ⟨r, rfl, hr, hin⟩ := open_txs (hval 2 34 v2 rfl rfl) h2 hw2
  refine (filterTwice_walk x y r A B c d W hx hy ox oy hr hin).mono fun e' W' ⟨he, hB⟩ => ?_
  subst he
  exact ⟨_, rfl, law_done hW' rfl laidOut reads rfl Try.underlying4 rfl rfl rfl hB⟩
end filterTwice

theorem filterTwice_holds : Rows.FilterTwiceSaid :=
  OpenClaim.holds_of_wide 4 Try.f4 rfl rfl rfl rfl rfl rfl rfl ⟨rfl, rfl, rfl, rfl, rfl⟩ rfl rfl rfl rfl rfl (by kernel_rfl) Try.func4 (by kernel_rfl)
    (of_decide_eq_true (by kernel_rfl)) (by unfold Func.isWrapper; rw [if_neg (of_decide_eq_false (by kernel_rfl))]; exact ⟨rfl, rfl⟩)
    (fun os started H enc _ => filterTwice.lifted os started H enc)
#print axioms filterTwice_holds
end Go.Proofs.Ytaaijgalminafaa
