import Derived.Test.YtaaijgalminafaaTv
/-
  Layer 24: two empty transactions are alike (f20).
-/
namespace Go.Proofs.Ytaaijgalminafaa
open Go.RowKit
set_option maxRecDepth 100000 in
theorem equalNil_any (w : World) : Calls Try.prog 34 #[.slice none 0 0, .slice none 0 0, .func (.func 35) #[] #[]] w (RetB true w) := by
  go_enter Try.func34, Try.ntmps34
  go_wp2
  go_loopw [17] (fun s17 wr => s17 = .int .i64 0 ∧ wr = w) (fun _ _ => 0)
  case atStart => exact ⟨rfl, rfl⟩
  case round =>
    obtain ⟨rfl, rfl⟩ := hrel
    go_wp2
    go_ret
    exact ⟨rfl, Below.refl _ _⟩
set_option maxRecDepth 100000 in
theorem alike_any (w : World) : Calls Try.prog 20 #[.agg #[.int .u32 0, .int .u64 0, .slice none 0 0], .agg #[.int .u32 0, .int .u64 0, .slice none 0 0]] w (RetB true w) := by
  go_enter Try.func20, Try.ntmps20
  go_wp2_with fail
  refine (equalNil_any _).mono ?_
  rintro e w2 ⟨rfl, hb2⟩
  have HB := Lib.hid (((Below.refl _ w).alloc (Nat.le_refl _) (.cells #[.int .u32 0, .int .u64 0, .slice none 0 0] 46)).alloc (by simp) (.cells #[.int .u32 0, .int .u64 0, .slice none 0 0] 46))
  have HB2 := Lib.hid (HB.out.trans (hb2.mono HB.out.size))
  clear hb2
  go_wp2
  go_ret
  exact ⟨rfl, HB2.out⟩
end Go.Proofs.Ytaaijgalminafaa
