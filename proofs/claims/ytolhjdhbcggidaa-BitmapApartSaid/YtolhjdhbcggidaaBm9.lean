/-
  BitmapPacks as a walk.
-/
import Derived.Test.YtolhjdhbcggidaaBm8
namespace Go.Proofs.Ytolhjdhbcggidaa
open Go.RowKit

set_option maxHeartbeats 400000 in
theorem bitmapPacks_walk (A : Option Addr) (c : Nat) (l : List Bool) (w : World) (hl : Rd w w.heap.size 1 A l.length (bls l)) :
    Calls Try.prog 5 #[.slice A l.length c] w (RetB true w) := by
  by_cases h60 : l.length ≤ 60
  · go_enter Try.func5, Try.ntmps5
    go_wp2_with fail
    refine (pack_any A c l _ hl (by omega)).mono ?_
    rintro e w1 ⟨A1, n1, c1, rfl, h1, h2, hR1, hB1⟩
    obtain rfl : n1 = (pkL l).length := by simpa [byt] using hR1.len1.symm
    go_wp2_with fail
    refine (packR_any A c l _ (hl.up hB1 (Nat.le_refl _) hB1.size)).mono ?_
    rintro e w2 ⟨A2, n2, c2, rfl, h1', h2', hR2, hB2⟩
    obtain rfl : n2 = (pkL l).length := by simpa [byt] using hR2.len1.symm
    have hB12 := step_below hB1 hB2
    have hl2 := hl.up hB12 (Nat.le_refl _) hB12.size
    have hR12 := hR1.up hB2 (Nat.le_refl _) hB2.size
    have hcv1 := run_str_of_bytes (P := Try.prog) (src := 22) (dst := 9) (c := c1) Try.underlying22 Try.underlying5 Try.underlying9 hR12
    have hcv2 := run_str_of_bytes (P := Try.prog) (src := 22) (dst := 9) (c := c2) Try.underlying22 Try.underlying5 Try.underlying9 hR2
    go_wp2_with fail
    go_loop [7, 8] (fun v i => ∃ j : Nat, j ≤ l.length ∧ i = .int .i64 j ∧ v = .int .i64 ((l.take j).count true)) (fun _ i => l.length - (intOf i).toNat)
    case atStart => exact ⟨0, by omega, rfl, rfl⟩
    case round =>
      obtain ⟨j, hj, rfl, rfl⟩ := hrel
      have hcl : (l.take j).count true ≤ j := Nat.le_trans List.count_le_length (by simp; omega)
      by_cases hlt : j < l.length
      · have hts : (l.take (j + 1)).count true = (l.take j).count true + if l[j] = true then 1 else 0 := by
          rw [List.take_succ_eq_append_getElem hlt, List.count_append]; simp [List.count_singleton]
        have Hs := Lib.hid hts; clear hts
        obtain ⟨b, off, rfl, hb, hc⟩ := hl2.at_ hlt
        have hcj := hc j hlt
        clear hc
        rcases hx : l[j] with _ | _
        all_goals
          rw [hx] at hcj
          have Hx := Lib.hid hx; clear hx
          go_wp2
          go_round
          case rel => exact ⟨j + 1, by omega, by go_num, by rw [Hs.out, Hx.out]; simp⟩
          case measure => simp [intOf]; omega
      · obtain rfl : j = l.length := by omega
        rw [List.take_length]
        go_wp2_with fail
        refine (count_any A c l _ hl2 h60).mono ?_
        rintro e w3 ⟨rfl, rfl⟩
        go_wp2_with fail
        refine (awake_any _).mono ?_
        rintro e w7 ⟨rfl, hB7⟩
        go_wp2
        go_ret
        exact RetB.mk' rfl (step_below hB12 hB7)
  · go_enter Try.func5, Try.ntmps5
    go_wp2
    go_ret
    exact RetB.mk' rfl (Below.refl _ _)
end Go.Proofs.Ytolhjdhbcggidaa
