/-
  Layer 11: ChunkSplits: true is answered.
-/
import Derived.Test.YtolhjdhbcggidaaRows
import Derived.Test.YtolhjdhbcggidaaCk8
import Derived.Test.YtolhjdhbcggidaaCm
namespace Go.Proofs.Ytolhjdhbcggidaa
open Go.ChangeShapes Go.WideShapes Go.ChangeAt Go.RowKit
open Go.ChangeMaps (open_string)

namespace chunkSplits
theorem own : ownKnob Try.prog.godebug = none := by kernel_rfl
theorem laidOut : laidOutB Try.prog = true := by kernel_rfl
theorem cells9 : Try.prog.cellsOf 9 = 1 := by kernel_rfl
theorem reads : ∀ t ∈ Try.f7.params.toList, Try.prog.readableRec t = true ∧ t < Try.prog.types.size := by
  intro t ht
  rw [Try.params7] at ht
  have : t = 41 ∨ t = 9 ∨ t = 5 := by simp at ht; omega
  rcases this with rfl | rfl | rfl
  · exact ⟨by kernel_rfl, of_decide_eq_true (by kernel_rfl)⟩
  · exact ⟨by kernel_rfl, of_decide_eq_true (by kernel_rfl)⟩
  · exact ⟨by kernel_rfl, of_decide_eq_true (by kernel_rfl)⟩

set_option maxRecDepth 100000 in
theorem lifted (os : Os) (started : os.Started) (H : Type) (enc : TypeId × Value → H) :
    ReturnsInHanded {} Try.checked os 7 .any (Rows.chunkSplitsSpec.pre6 enc Try.prog Try.f7 Rows.chunkSplitsRow.domain false) (Rows.chunkSplitsSpec.post enc Try.prog Try.f7 false true false false) := by
  refine returnsInHanded_of_change (C := Try.checked) own started (by kernel_rfl) Try.func7
    (ChangeSpec.witness6 (enc := enc) (C := Try.checked) false ⟨#[], #[.slice none 0 0, .string .empty, .int .u8 0], []⟩ 8 (by kernel_rfl) (by kernel_rfl) (by kernel_rfl) (by kernel_rfl)) ?_
  intro W base args ds gs before hval0 hW hcnd _
  have hval : ∀ (j : Nat) t v, Try.f7.params[j]? = some t → args[j]? = some v → Value.okWide Try.prog W .any base t v := hval0
  have hW' := hW
  obtain ⟨p, q, hA0, hV, rfl, hfz, hnd⟩ := hW
  have hA : DataW.TrodAll enc Try.prog W 0 (fun _ => true) true Try.f7.params.toList args.toList ds p := hA0
  rw [Try.params7] at hA hval
  obtain ⟨v0, v1, v2, d0, d1, d2, p0, p1, p2, rfl, rfl, rfl, h0, h1, h2⟩ := trodAll_three hA
  obtain ⟨rfl, rfl⟩ := trodVars_none hV
  obtain ⟨A0, c0, l0, rfl, hlc0, hcm0, hR0, hx0⟩ := open_strs Try.underlying41 Try.underlying9 cells9 (hval 0 41 v0 rfl rfl) h0
  obtain ⟨s1, rfl, rfl, rfl, hs1⟩ := open_string Try.underlying9 (hval 1 9 v1 rfl rfl) h1
  obtain ⟨n2, rfl, _, _, wn2⟩ := open_int Try.underlying5 (hval 2 5 v2 rfl rfl) h2
  have hb2 : 0 ≤ n2 ∧ n2 ≤ 255 := by simpa [Lit.wf, IntKind.min, IntKind.max, IntKind.signed, IntKind.bits] using wn2
  obtain ⟨m2, rfl⟩ := Int.eq_ofNat_of_zero_le hb2.1
  refine (chunkSplits_walk A0 c0 l0 s1 m2 W hR0 hx0 hs1 (by omega) hlc0 hcm0).mono fun e W' ⟨he, hB⟩ => ?_
  subst he
  exact ⟨_, rfl, law_done hW' rfl laidOut reads rfl Try.underlying4 rfl rfl rfl hB⟩
end chunkSplits

theorem chunkSplits_holds : Rows.ChunkSplitsSaid :=
  OpenClaim.holds_of_wide 7 Try.f7 rfl rfl rfl rfl rfl rfl rfl ⟨rfl, rfl, rfl, rfl, rfl⟩ rfl rfl rfl rfl rfl (by kernel_rfl) Try.func7 (by kernel_rfl)
    (of_decide_eq_true (by kernel_rfl)) (by unfold Func.isWrapper; rw [if_neg (of_decide_eq_false (by kernel_rfl))]; exact ⟨rfl, rfl⟩)
    (fun os started H enc _ => chunkSplits.lifted os started H enc)
#print axioms chunkSplits_holds
end Go.Proofs.Ytolhjdhbcggidaa
