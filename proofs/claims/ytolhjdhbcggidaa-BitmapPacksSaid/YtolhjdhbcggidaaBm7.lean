/-
  BitmapUnpacks and BitmapBack as walks: whatever the arguments, true is returned and what lay there is as it was.
-/
import Derived.Test.YtolhjdhbcggidaaBm6
namespace Go.Proofs.Ytolhjdhbcggidaa
open Go.RowKit

theorem RetB.up {x : Bool} {w w0 : World} {e : Ending} {w' : World} (h : RetB x w e w') (hb : Below w0.heap.size w0 w) : RetB x w0 e w' :=
  ⟨h.1, hb.trans (h.2.mono hb.size)⟩
theorem step_below {w0 w w' : World} (hb : Below w0.heap.size w0 w) (h : Below w.heap.size w w') : Below w0.heap.size w0 w' := hb.trans (h.mono hb.size)

theorem unL_len (b : List UInt8) (n : Int) : (unL b n).length ≤ 1000 := by
  unfold unL
  split
  · rename_i h
    by_cases h0 : 0 ≤ n ∧ n ≤ 16
    · simp [bitsL]; omega
    · unfold unE at h; rw [if_pos h0] at h; simp at h
  · simp
theorem bitmapUnpacks_walk (A : Option Addr) (c : Nat) (b : List UInt8) (n : Int) (w : World) (hr : Rd w w.heap.size 1 A b.length (byt b)) :
    Calls Try.prog 3 #[.slice A b.length c, .int .i64 n] w (RetB true w) := by
  by_cases hb : b.length ≤ 10
  · go_enter Try.func3, Try.ntmps3
    go_wp2_with fail
    refine (unpack_any A c b n _ hr).mono ?_
    rintro e w1 ⟨A1, n1, c1, rfl, h1, h2, hR1, hB1⟩
    obtain rfl : n1 = (unL b n).length := by simpa [bls] using hR1.len1.symm
    go_wp2_with fail
    refine (unpackR_any A c b n _ (hr.up hB1 (Nat.le_refl _) hB1.size)).mono ?_
    rintro e w2 ⟨A2, n2, c2, rfl, h1', h2', hR2, hB2⟩
    obtain rfl : n2 = (unL b n).length := by simpa [bls] using hR2.len1.symm
    have hlen := unL_len b n
    go_wp2_with fail
    refine (same_any A1 A2 c1 c2 (unL b n) (unL b n) _ (hR1.up hB2 (Nat.le_refl _) hB2.size) hR2 hlen).mono ?_
    rintro e w3 ⟨rfl, hB3⟩
    rw [beq_self_eq_true]
    go_wp2_with fail
    refine (size_any n _).mono ?_
    rintro e w4 ⟨rfl, rfl⟩
    go_wp2_with fail
    refine (sizeR_any n _).mono ?_
    rintro e w5 ⟨rfl, rfl⟩
    go_wp2_with fail
    refine (awake_any _).mono ?_
    rintro e w6 ⟨rfl, hB6⟩
    go_wp2
    go_ret
    exact RetB.mk' rfl (step_below (step_below (step_below hB1 hB2) hB3) hB6)
  · go_enter Try.func3, Try.ntmps3
    go_wp2
    go_ret
    exact RetB.mk' rfl (Below.refl _ _)

end Go.Proofs.Ytolhjdhbcggidaa
