/-
  Layer 1: PrimReads: whatever a reader is asked, it answers as the reference does, and true is answered.
-/
import Derived.Test.YtcblmcpmdpnlbaaRows
import Derived.Test.YtcblmcpmdpnlbaaLr
import Derived.Test.YtcblmcpmdpnlbaaClose2
import Derived.Deep.SlicePairs
namespace Go.Proofs.Ytcblmcpmdpnlbaa
open Go.ChangeShapes Go.WideShapes Go.ChangeAt Go.RowKit
open Go.ChangeMaps (open_string)

namespace primReads
section
variable {H : Type} {enc : TypeId × Value → H} {P : Program} {W : World}
/-- An argument that is a slice of pairs of a byte and a word. -/
theorem open_acts {f0 f1 : Field} {r : Reach} {b0 : Nat} {t e : TypeId} {v : Value} {d : DataW H} {p : List MemPlace} (ht : P.underlying t = some (.slice e)) (he : P.underlying e = some (.struct #[f0, f1])) (ce : P.cellsOf e = 2)
    (o0 : f0.offset = 0) (o1 : f1.offset = 1) (c0 : P.cellsOf f0.type = 1) (c1 : P.cellsOf f1.type = 1) (u0 : P.underlying f0.type = some (.int .u8)) (u1 : P.underlying f1.type = some (.int .u64))
    (hok : Value.okWide P W r b0 t v) (h : DataW.Trod enc P W 0 (fun _ => true) true t v d p) :
    ∃ B m bc, ∃ acts : Nat → Nat × Nat, v = .slice B m bc ∧ ∀ j, j < m → ActAt W B j (acts j).1 (acts j).2 := by
  obtain ⟨a0, len, cap, rfl⟩ := okWide_slice ht hok
  obtain ⟨fuel, hf⟩ := h
  rcases Deep.open_slice_pairs ht he ce o0 o1 c0 c1 hf with ⟨hcs, _⟩ | ⟨a, len', cap', m, n, V0, V1, D0, D1, P0, P1, hcs, _, hl, hm, hmm, _, hi⟩
  · have e1 : Value.slice a0 len cap = .slice none 0 0 := by simpa [Value.cells] using hcs
    exact ⟨none, 0, 0, fun _ => (0, 0), e1, fun j hj => absurd hj (by omega)⟩
  · have e1 : Value.slice a0 len cap = .slice (some a) len' cap' := by simpa [Value.cells] using hcs
    have hmc : m = cap' := by simpa using hmm
    refine ⟨some a, len', cap', fun j => ((intOf (V0 j)).toNat, (intOf (V1 j)).toNat), e1, fun j hj => ?_⟩
    have h0 := (hi 0 (by omega)).1
    obtain ⟨hs, hb⟩ := plain_of_cell h0
    have ha : a.add (0 * 2) = a := by simp [Addr.add]
    rw [ha] at hs hb
    obtain ⟨b, off, sp⟩ := a
    simp only at hs hb
    subst hs
    obtain ⟨k0, k1, t0, t1⟩ := hi j (by omega)
    rw [add_plain] at k0 k1
    obtain ⟨z, hz, _, hw⟩ := DataW.trod_int u0 t0
    obtain ⟨y, hy, _, hy2⟩ := DataW.trod_int u1 t1
    have hz' : V0 j = .int .u8 z := by simpa using hz
    have hy' : V1 j = .int .u64 y := by simpa using hy
    have hb1 : 0 ≤ z ∧ z ≤ 255 := by simpa [Lit.wf, IntKind.min, IntKind.max, IntKind.signed, IntKind.bits] using hw
    have hb2 : 0 ≤ y ∧ y ≤ 18446744073709551615 := by simpa [Lit.wf, IntKind.min, IntKind.max, IntKind.signed, IntKind.bits] using hy2
    rw [hz'] at k0
    rw [hy'] at k1
    refine ⟨b, off, rfl, hb, ?_, ?_, ?_, ?_⟩
    · simp only [hz', intOf]; rw [Int.toNat_of_nonneg hb1.1]; exact k0
    · simp only [hy', intOf]; rw [Int.toNat_of_nonneg hb2.1]; exact k1
    · simp only [hz', intOf]; omega
    · simp only [hy', intOf]; omega
end
theorem own : ownKnob Try.prog.godebug = none := by kernel_rfl
theorem laidOut : laidOutB Try.prog = true := by kernel_rfl
theorem cells5 : Try.prog.cellsOf 5 = 1 := by kernel_rfl
theorem cells23 : Try.prog.cellsOf 23 = 1 := by kernel_rfl
theorem cells53 : Try.prog.cellsOf 53 = 2 := by kernel_rfl
theorem reads : ∀ t ∈ Try.f8.params.toList, Try.prog.readableRec t = true ∧ t < Try.prog.types.size := by
  intro t ht
  rw [Try.params8] at ht
  have : t = 22 ∨ t = 48 := by simp at ht; omega
  rcases this with rfl | rfl
  · exact ⟨by kernel_rfl, of_decide_eq_true (by kernel_rfl)⟩
  · exact ⟨by kernel_rfl, of_decide_eq_true (by kernel_rfl)⟩

set_option maxRecDepth 100000 in
theorem lifted (os : Os) (started : os.Started) (H : Type) (enc : TypeId × Value → H) :
    ReturnsInHanded {} Try.checked os 8 .any (Rows.primReadsSpec.pre6 enc Try.prog Try.f8 Rows.primReadsRow.domain false) (Rows.primReadsSpec.post enc Try.prog Try.f8 false true false false) := by
  refine returnsInHanded_of_change (C := Try.checked) own started (by kernel_rfl) Try.func8
    (ChangeSpec.witness6 (enc := enc) (C := Try.checked) false ⟨#[], #[.slice none 0 0, .slice none 0 0], []⟩ 8 (by kernel_rfl) (by kernel_rfl) (by kernel_rfl) (by kernel_rfl)) ?_
  intro W base args ds gs before hval0 hW hcnd _
  have hval : ∀ (j : Nat) t v, Try.f8.params[j]? = some t → args[j]? = some v → Value.okWide Try.prog W .any base t v := hval0
  have hW' := hW
  obtain ⟨p, q, hA0, hV, rfl, hfz, hnd⟩ := hW
  have hA : DataW.TrodAll enc Try.prog W 0 (fun _ => true) true Try.f8.params.toList args.toList ds p := hA0
  rw [Try.params8] at hA hval
  obtain ⟨v0, v1, d0, d1, p0, p1, rfl, rfl, rfl, h0, h1⟩ := trodAll_two hA
  obtain ⟨rfl, rfl⟩ := trodVars_none hV
  obtain ⟨A0, c0, l0, rfl, hlc0, hcm0, hR0, hnone⟩ := open_bytes2 Try.underlying22 Try.underlying5 cells5 (hval 0 22 v0 rfl rfl) h0
  obtain ⟨B, m, bc, acts, rfl, hacts⟩ := open_acts Try.underlying48 Try.underlying53 cells53 rfl rfl cells5 cells23 Try.underlying5 Try.underlying23 (hval 1 48 v1 rfl rfl) h1
  refine (primReads_walk A0 c0 l0 B m bc acts W hR0 hnone hacts).mono fun e W' ⟨he, hB⟩ => ?_
  subst he
  exact ⟨_, rfl, law_done hW' rfl laidOut reads rfl Try.underlying4 rfl rfl rfl hB⟩
end primReads

theorem primReads_holds : Rows.PrimReadsSaid :=
  OpenClaim.holds_of_wide 8 Try.f8 rfl rfl rfl rfl rfl rfl rfl ⟨rfl, rfl, rfl, rfl, rfl⟩ rfl rfl rfl rfl rfl (by kernel_rfl) Try.func8 (by kernel_rfl)
    (of_decide_eq_true (by kernel_rfl)) (by unfold Func.isWrapper; rw [if_neg (of_decide_eq_false (by kernel_rfl))]; exact ⟨rfl, rfl⟩)
    (fun os started H enc _ => primReads.lifted os started H enc)
#print axioms primReads_holds
end Go.Proofs.Ytcblmcpmdpnlbaa
