/-
  Layer 8: the example (awake).
-/
import Derived.Test.YtcblmcpmdpnlbaaReA
namespace Go.Proofs.Ytcblmcpmdpnlbaa
open Go.RowKit Mono

def rel0 : Rl := ⟨5, 1, ⟨#[116]⟩, 1, [⟨⟨#[97]⟩, 2, true⟩]⟩
theorem rel0_right : rel0.rightE = 0 := by kernel_rfl
theorem rel0_bytes : rel0.encB = [5, 1, 1, 116, 1, 1, 1, 97, 130] := by kernel_rfl
set_option maxRecDepth 100000 in
set_option maxHeartbeats 800000 in
theorem awake8_any (w : World) : Calls Try.prog 39 #[] w (RetB true w) := by
  go_enter Try.func39, Try.ntmps39
  go_wp2_with fail
  have hR0 := Rd.new w #[.string ⟨#[97]⟩, .int .u8 2, .bool true] 82 (size := 3) (n := 1) (by simp)
  refine (encode_any rel0 (some ⟨w.heap.size, 0, none⟩) 1 _ (by simpa [cols, rel0, Col.cells] using hR0) (by simp [rel0]) (by simp [maxLen]) (by simp [rel0, maxLen]; decide) (by simp [rel0, maxLen]; decide) (by simp [rel0]) (by simp [rel0])).mono ?_
  rw [rel0_right, rel0_bytes]
  rintro e w1 ⟨A, n, c, rfl, h1, h2, hR, hB⟩
  have hrun := run_str_of_bytes (c := c) Try.underlying22 Try.underlying5 Try.underlying9 hR
  have hR2 := Rd.new w1 #[.int .u8 5, .int .u8 1, .int .u8 1, .int .u8 116, .int .u8 1, .int .u8 1, .int .u8 1, .int .u8 97, .int .u8 130] 5 (size := 1) (n := 9) (by simp)
  have hrun2 := run_str_of_bytes (c := 9) (l := [5, 1, 1, 116, 1, 1, 1, 97, 130]) Try.underlying22 Try.underlying5 Try.underlying9 (by simpa [byt] using hR2)
  clear hR hR0 hR2
  go_wp2
  go_ret
  exact RetB.mk' rfl ((((Below.refl _ _).alloc (Nat.le_refl _) _).trans (hB.mono (by simp))).alloc (by have := hB.size; simp at this; omega) _)
end Go.Proofs.Ytcblmcpmdpnlbaa
