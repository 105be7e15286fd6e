/-
  Layer 8: RelOrder: refs are in one order, and true is answered.
-/
import Derived.Test.YtcblmcpmdpnlbaaRows
import Derived.Test.YtcblmcpmdpnlbaaRo
import Derived.Test.YtcblmcpmdpnlbaaClose3
namespace Go.Proofs.Ytcblmcpmdpnlbaa
open Go.ChangeShapes Go.WideShapes Go.ChangeAt Go.RowKit

namespace relOrder
section
variable {H : Type} {enc : TypeId × Value → H} {P : Program} {W : World}
/-- An argument that is a pair of words. -/
theorem open_ref {f0 f1 : Field} {r : Reach} {b0 : Nat} {t : TypeId} {v : Value} {d : DataW H} {p : List MemPlace} (hs : P.underlying t = some (.struct #[f0, f1])) (hc : P.cellsOf t = 2)
    (o0 : f0.offset = 0) (o1 : f1.offset = 1) (c0 : P.cellsOf f0.type = 1) (c1 : P.cellsOf f1.type = 1) (u0 : P.underlying f0.type = some (.int .u32)) (u1 : P.underlying f1.type = some (.int .u32))
    (hok : Value.okWide P W r b0 t v) (h : DataW.Trod enc P W 0 (fun _ => true) true t v d p) : ∃ a b : Nat, v = .agg #[.int .u32 (a : Int), .int .u32 (b : Int)] ∧ a < 4294967296 ∧ b < 4294967296 := by
  obtain ⟨cs, rfl, hl, fuel, hf⟩ := open_struct hs hok h
  obtain ⟨x, y, rfl⟩ := list2 (hl.trans hc)
  obtain ⟨y0, y1, n, _, _, h0, h1⟩ := trod_struct2 hs hf
  rw [o0, c0] at h0
  rw [o1, c1] at h1
  obtain ⟨a, ha, ha2⟩ := el_u32' u0 (by simpa using h0)
  obtain ⟨b, hb, hb2⟩ := el_u32' u1 (by simpa using h1)
  injection ha with ha _; injection hb with hb _
  subst ha; subst hb
  exact ⟨a, b, rfl, ha2, hb2⟩
end
theorem own : ownKnob Try.prog.godebug = none := by kernel_rfl
theorem laidOut : laidOutB Try.prog = true := by kernel_rfl
theorem cells59 : Try.prog.cellsOf 59 = 2 := by kernel_rfl
theorem cells57 : Try.prog.cellsOf 57 = 1 := by kernel_rfl
theorem reads : ∀ t ∈ Try.f9.params.toList, Try.prog.readableRec t = true ∧ t < Try.prog.types.size := by
  intro t ht
  rw [Try.params9] at ht
  have : t = 59 := by simpa using ht
  subst this
  exact ⟨by kernel_rfl, of_decide_eq_true (by kernel_rfl)⟩

set_option maxRecDepth 100000 in
theorem lifted (os : Os) (started : os.Started) (H : Type) (enc : TypeId × Value → H) :
    ReturnsInHanded {} Try.checked os 9 .any (Rows.relOrderSpec.pre6 enc Try.prog Try.f9 Rows.relOrderRow.domain false) (Rows.relOrderSpec.post enc Try.prog Try.f9 false true false false) := by
  refine returnsInHanded_of_change (C := Try.checked) own started (by kernel_rfl) Try.func9
    (ChangeSpec.witness6 (enc := enc) (C := Try.checked) false ⟨#[], #[.agg #[.int .u32 0, .int .u32 0], .agg #[.int .u32 0, .int .u32 0], .agg #[.int .u32 0, .int .u32 0]], []⟩ 8 (by kernel_rfl) (by kernel_rfl) (by kernel_rfl) (by kernel_rfl)) ?_
  intro W base args ds gs before hval0 hW hcnd _
  have hval : ∀ (j : Nat) t v, Try.f9.params[j]? = some t → args[j]? = some v → Value.okWide Try.prog W .any base t v := hval0
  have hW' := hW
  obtain ⟨p, q, hA0, hV, rfl, hfz, hnd⟩ := hW
  have hA : DataW.TrodAll enc Try.prog W 0 (fun _ => true) true Try.f9.params.toList args.toList ds p := hA0
  rw [Try.params9] at hA hval
  obtain ⟨v0, v1, v2, d0, d1, d2, p0, p1, p2, rfl, rfl, rfl, h0, h1, h2⟩ := trodAll_three hA
  obtain ⟨rfl, rfl⟩ := trodVars_none hV
  obtain ⟨a1, a2, rfl, _, _⟩ := open_ref Try.underlying59 cells59 rfl rfl cells57 cells57 Try.underlying57 Try.underlying57 (hval 0 59 v0 rfl rfl) h0
  obtain ⟨b1, b2, rfl, _, _⟩ := open_ref Try.underlying59 cells59 rfl rfl cells57 cells57 Try.underlying57 Try.underlying57 (hval 1 59 v1 rfl rfl) h1
  obtain ⟨c1, c2, rfl, _, _⟩ := open_ref Try.underlying59 cells59 rfl rfl cells57 cells57 Try.underlying57 Try.underlying57 (hval 2 59 v2 rfl rfl) h2
  refine (relOrder_walk a1 a2 b1 b2 c1 c2 W).mono fun e W' ⟨he, hB⟩ => ?_
  subst he
  exact ⟨_, rfl, law_done hW' rfl laidOut reads rfl Try.underlying4 rfl rfl rfl hB⟩
end relOrder

theorem relOrder_holds : Rows.RelOrderSaid :=
  OpenClaim.holds_of_wide 9 Try.f9 rfl rfl rfl rfl rfl rfl rfl ⟨rfl, rfl, rfl, rfl, rfl⟩ rfl rfl rfl rfl rfl (by kernel_rfl) Try.func9 (by kernel_rfl)
    (of_decide_eq_true (by kernel_rfl)) (by unfold Func.isWrapper; rw [if_neg (of_decide_eq_false (by kernel_rfl))]; exact ⟨rfl, rfl⟩)
    (fun os started H enc _ => relOrder.lifted os started H enc)
#print axioms relOrder_holds
end Go.Proofs.Ytcblmcpmdpnlbaa
