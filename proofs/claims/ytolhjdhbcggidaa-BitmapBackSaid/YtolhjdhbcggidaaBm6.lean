/-
  bitmap.Pack at any length, the examples (awake), and the four laws of layer 2 as walks: each returns true.
-/
import Derived.Test.YtolhjdhbcggidaaBm5
namespace Go.Proofs.Ytolhjdhbcggidaa
open Go.RowKit

theorem pack_any (A : Option Addr) (c : Nat) (l : List Bool) (w : World) (hr : Rd w w.heap.size 1 A l.length (bls l)) (hm : l.length ≤ 1000) :
    Calls Try.prog 17 #[.slice A l.length c] w (RetSI 1 (byt (pkL l)) (pkE l) w) := by
  by_cases h16 : l.length ≤ 16
  · exact pack_ok A c l w hr h16
  · have hk : okN l.length = false := by simp [okN]; omega
    have hE : pkE l = 17 := by simp [pkE, h16]
    have hL : pkL l = [] := by simp [pkL, h16]
    have HE := Lib.hid hE; have HL := Lib.hid hL; clear hE hL
    go_enter Try.func17, Try.ntmps17
    go_wp2_with (go_at_call 30; refine (counted_any _ _).mono ?_; rintro e w' ⟨rfl, rfl⟩)
    go_ret2
    rw [HL.out]
    exact RetSI.nil_ HE.out.symm (Below.refl _ _)

theorem awake_any (w : World) : Calls Try.prog 16 #[] w (RetB true w) := by
  have hE : pkE [false, true, true] = 0 := by decide
  have hL : pkL [false, true, true] = [6] := by decide
  have hU : unE [8] 3 = 3 := by decide
  go_enter Try.func16, Try.ntmps16
  go_wp2_with fail
  have hR0 := Rd.new w #[.bool false, .bool true, .bool true] 4 (size := 1) (n := 3) (by simp)
  refine (pack_any (some ⟨w.heap.size, 0, none⟩) 3 [false, true, true] _ (by simpa [bls] using hR0) (by simp)).mono ?_
  rintro e w1 ⟨A, n, c, rfl, h1, h2, hR, hB⟩
  rw [hL] at hR
  rw [hE]
  go_wp2_with fail
  have hR1 := Rd.new w1 #[.int .u8 8] 5 (size := 1) (n := 1) (by simp)
  refine (unpack_any (some ⟨w1.heap.size, 0, none⟩) 1 [8] 3 _ (by simpa [byt] using hR1)).mono ?_
  rintro e w2 ⟨A', n', c', rfl, h1', h2', hR', hB'⟩
  rw [hU]
  have hB2 : Below w.heap.size w w2 := by
    have b1 : Below w.heap.size w (w.alloc (.cells #[.bool false, .bool true, .bool true] 4)) := (Below.refl _ _).alloc (Nat.le_refl _) _
    have s1 := hB.size
    have s2 := hB'.size
    simp only [World.size_alloc] at s1 s2
    have b2 := b1.trans (hB.mono (by simp))
    have b3 := b2.alloc b2.size (.cells #[.int .u8 8] 5)
    exact b3.trans (hB'.mono (by simp; omega))
  have hR2 : Rd w2 w1.heap.size 1 A n (byt [6]) := (hR.alloc (Nat.le_refl _) (.cells #[.int .u8 8] 5)).below hB' (by simp)
  have hcv := run_str_of_bytes (P := Try.prog) (src := 22) (dst := 9) (c := c) Try.underlying22 Try.underlying5 Try.underlying9 hR2
  go_wp2
  go_ret
  exact RetB.mk' (by rfl) hB2

end Go.Proofs.Ytolhjdhbcggidaa
