/-
  Layer 1: PrimApart: no two numbers have the same sevens, no two texts the same bytes, and true is answered.
-/
import Derived.Test.YtcblmcpmdpnlbaaRows
import Derived.Test.YtcblmcpmdpnlbaaLa
import Derived.Test.YtcblmcpmdpnlbaaClose2
namespace Go.Proofs.Ytcblmcpmdpnlbaa
open Go.ChangeShapes Go.WideShapes Go.ChangeAt Go.RowKit
open Go.ChangeMaps (open_string)

namespace primApart
theorem own : ownKnob Try.prog.godebug = none := by kernel_rfl
theorem laidOut : laidOutB Try.prog = true := by kernel_rfl
theorem cells32 : Try.prog.cellsOf 32 = 2 := by kernel_rfl
theorem cells9 : Try.prog.cellsOf 9 = 1 := by kernel_rfl
theorem reads : ∀ t ∈ Try.f4.params.toList, Try.prog.readableRec t = true ∧ t < Try.prog.types.size := by
  intro t ht
  rw [Try.params4] at ht
  have : t = 23 ∨ t = 32 := by simp at ht; omega
  rcases this with rfl | rfl
  · exact ⟨by kernel_rfl, of_decide_eq_true (by kernel_rfl)⟩
  · exact ⟨by kernel_rfl, of_decide_eq_true (by kernel_rfl)⟩

set_option maxRecDepth 100000 in
theorem lifted (os : Os) (started : os.Started) (H : Type) (enc : TypeId × Value → H) :
    ReturnsInHanded {} Try.checked os 4 .any (Rows.primApartSpec.pre6 enc Try.prog Try.f4 Rows.primApartRow.domain false) (Rows.primApartSpec.post enc Try.prog Try.f4 false true false false) := by
  refine returnsInHanded_of_change (C := Try.checked) own started (by kernel_rfl) Try.func4
    (ChangeSpec.witness6 (enc := enc) (C := Try.checked) false ⟨#[], #[.int .u64 0, .int .u64 0, .agg #[.string .empty, .string .empty]], []⟩ 8 (by kernel_rfl) (by kernel_rfl) (by kernel_rfl) (by kernel_rfl)) ?_
  intro W base args ds gs before hval0 hW hcnd _
  have hval : ∀ (j : Nat) t v, Try.f4.params[j]? = some t → args[j]? = some v → Value.okWide Try.prog W .any base t v := hval0
  have hW' := hW
  obtain ⟨p, q, hA0, hV, rfl, hfz, hnd⟩ := hW
  have hA : DataW.TrodAll enc Try.prog W 0 (fun _ => true) true Try.f4.params.toList args.toList ds p := hA0
  rw [Try.params4] at hA hval
  obtain ⟨v0, v1, v2, d0, d1, d2, p0, p1, p2, rfl, rfl, rfl, h0, h1, h2⟩ := trodAll_three hA
  obtain ⟨rfl, rfl⟩ := trodVars_none hV
  obtain ⟨n0, rfl, _, _, wn0⟩ := open_int Try.underlying23 (hval 0 23 v0 rfl rfl) h0
  have hb0 : 0 ≤ n0 ∧ n0 ≤ 18446744073709551615 := by simpa [Lit.wf, IntKind.min, IntKind.max, IntKind.signed, IntKind.bits] using wn0
  obtain ⟨m0, rfl⟩ := Int.eq_ofNat_of_zero_le hb0.1
  obtain ⟨n1, rfl, _, _, wn1⟩ := open_int Try.underlying23 (hval 1 23 v1 rfl rfl) h1
  have hb1 : 0 ≤ n1 ∧ n1 ≤ 18446744073709551615 := by simpa [Lit.wf, IntKind.min, IntKind.max, IntKind.signed, IntKind.bits] using wn1
  obtain ⟨m1, rfl⟩ := Int.eq_ofNat_of_zero_le hb1.1
  obtain ⟨x2, y2, rfl, hx2, hy2⟩ := open_two Value.string (fun a => a.size ≤ maxLen) Try.underlying32 cells9 cells32 (el_str Try.underlying9) (hval 2 32 v2 rfl rfl) h2
  refine (primApart_walk m0 m1 x2 y2 W (by omega) (by omega) hx2 hy2).mono fun e W' ⟨he, hB⟩ => ?_
  subst he
  exact ⟨_, rfl, law_done hW' rfl laidOut reads rfl Try.underlying4 rfl rfl rfl hB⟩
end primApart

theorem primApart_holds : Rows.PrimApartSaid :=
  OpenClaim.holds_of_wide 4 Try.f4 rfl rfl rfl rfl rfl rfl rfl ⟨rfl, rfl, rfl, rfl, rfl⟩ rfl rfl rfl rfl rfl (by kernel_rfl) Try.func4 (by kernel_rfl)
    (of_decide_eq_true (by kernel_rfl)) (by unfold Func.isWrapper; rw [if_neg (of_decide_eq_false (by kernel_rfl))]; exact ⟨rfl, rfl⟩)
    (fun os started H enc _ => primApart.lifted os started H enc)
#print axioms primApart_holds
end Go.Proofs.Ytcblmcpmdpnlbaa
