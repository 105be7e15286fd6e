/-
  The plain laws of layer 2: what is packed is unpacked as it was, and the other way round. No program is named here but by its contracts' words.
-/
import Derived.Test.YtolhjdhbcggidaaBm7
namespace Go.Proofs.Ytolhjdhbcggidaa
open Go.RowKit

theorem valN_get (l : List Bool) (k : Nat) (h : k < l.length) : valN l / 2 ^ k % 2 = (l[k]).toNat := by
  induction l generalizing k with
  | nil => simp at h
  | cons b r ih =>
    have hb : b.toNat ≤ 1 := by cases b <;> simp
    cases k with
    | zero => simp [valN]; omega
    | succ k =>
      simp only [valN, List.getElem_cons_succ]
      rw [← ih k (by simpa using h), Nat.pow_succ, Nat.mul_comm (2 ^ k), ← Nat.div_div_eq_div_mul]
      congr 2; omega
theorem bitsL_valN (l : List Bool) : bitsL l.length (valN l) = l := by
  apply List.ext_getElem
  · simp [bitsL]
  · intro i h1 h2
    have := valN_get l i h2
    simp only [bitsL, List.getElem_map, List.getElem_range, this]
    cases l[i] <;> simp
theorem valN_snoc (l : List Bool) (x : Bool) : valN (l ++ [x]) = valN l + 2 ^ l.length * x.toNat := by
  induction l with
  | nil => simp [valN]
  | cons b r ih =>
    simp only [List.cons_append, valN, ih, List.length_cons, Nat.pow_succ]
    rw [Nat.mul_add, ← Nat.mul_assoc, Nat.mul_comm 2 (2 ^ r.length)]; omega
theorem valN_bitsL (n v : Nat) : valN (bitsL n v) = v % 2 ^ n := by
  induction n with
  | zero => simp [bitsL, valN, Nat.mod_one]
  | succ n ih =>
    rw [bitsL_succ, valN_snoc, ih, bitsL_len, Nat.mod_pow_succ]
    congr 2
    have := Nat.mod_lt (v / 2 ^ n) (show 0 < 2 by decide)
    by_cases h : v / 2 ^ n % 2 = 1
    · simp [h]
    · have : v / 2 ^ n % 2 = 0 := by omega
      simp [this]
theorem packL_len (l : List Bool) : (packL l).length = (szN l.length).toNat := by simp [packL]
theorem packL_valN (l : List Bool) (h : l.length ≤ 16) : valB (packL l) = valN l := by
  have hV := valN_lt l
  have hs : (szN l.length) = ((l.length : Int) + 7) / 8 := by unfold szN; rw [if_pos (by omega)]
  unfold packL
  rcases (show l.length = 0 ∨ (0 < l.length ∧ l.length ≤ 8) ∨ (8 < l.length ∧ l.length ≤ 16) by omega) with h1 | h1 | h1
  · have : (szN l.length).toNat = 0 := by omega
    rw [h1] at hV
    rw [this]; simp [valB]; omega
  · have : (szN l.length).toNat = 1 := by omega
    have hp : 2 ^ l.length ≤ 2 ^ 8 := Nat.pow_le_pow_right (by decide) h1.2
    rw [this]; simp [valB, List.range_succ]; omega
  · have : (szN l.length).toNat = 2 := by omega
    have hp : 2 ^ l.length ≤ 2 ^ 16 := Nat.pow_le_pow_right (by decide) h1.2
    rw [this]; simp [valB, List.range_succ]; omega

theorem back_E (l : List Bool) (h : l.length ≤ 16) : unE (pkL l) l.length = 0 := by
  have hp : pkL l = packL l := by simp [pkL, h]
  have hl := packL_len l
  have h0 : 0 ≤ szN l.length := by unfold szN; split <;> omega
  unfold unE
  rw [if_neg (by omega), hp, if_neg (by omega), if_neg (by omega), packL_valN l h, Int.toNat_natCast, Nat.div_eq_of_lt (valN_lt l)]
  simp
theorem back_L (l : List Bool) (h : l.length ≤ 16) : unL (pkL l) l.length = l := by
  have hp : pkL l = packL l := by simp [pkL, h]
  unfold unL
  rw [if_pos (back_E l h), hp, packL_valN l h, Int.toNat_natCast, bitsL_valN]
theorem back_len (l : List Bool) (h : l.length ≤ 16) : ((pkL l).length : Int) = szN l.length := by
  have hp : pkL l = packL l := by simp [pkL, h]
  have hl := packL_len l
  have h0 : 0 ≤ szN l.length := by unfold szN; split <;> omega
  rw [hp]; omega
theorem unE_parts {b : List UInt8} {n : Int} (h : unE b n = 0) : (0 ≤ n ∧ n ≤ 16) ∧ (b.length : Int) = szN n ∧ valB b < 2 ^ n.toNat ∧ unL b n = bitsL n.toNat (valB b) := by
  have hU : unL b n = bitsL n.toNat (valB b) := by unfold unL; rw [if_pos h]
  unfold unE at h
  by_cases h0 : 0 ≤ n ∧ n ≤ 16
  · rw [if_neg (by omega)] at h
    by_cases h1 : (b.length : Int) < szN n
    · rw [if_pos h1] at h; simp at h
    rw [if_neg h1] at h
    by_cases h2 : szN n < b.length
    · rw [if_pos h2] at h; simp at h
    rw [if_neg h2] at h
    by_cases h3 : 0 < valB b / 2 ^ n.toNat
    · rw [if_pos h3] at h; simp at h
    refine ⟨h0, by omega, ?_, hU⟩
    have h4 : valB b / 2 ^ n.toNat = 0 := Nat.eq_zero_of_not_pos h3
    exact (Nat.div_eq_zero_iff_lt (Nat.two_pow_pos _)).1 h4
  · rw [if_pos h0] at h; simp at h
theorem forth_len {b : List UInt8} {n : Int} (h : unE b n = 0) : (unL b n).length ≤ 16 := by
  obtain ⟨h0, _, _, hU⟩ := unE_parts h
  rw [hU, bitsL_len]; omega
theorem forth_L {b : List UInt8} {n : Int} (h : unE b n = 0) : pkL (unL b n) = b := by
  obtain ⟨h0, h1, h2, hU⟩ := unE_parts h
  have hlen : (bitsL n.toNat (valB b)).length = n.toNat := bitsL_len _ _
  rw [hU]
  unfold pkL
  rw [if_pos (by omega)]
  unfold packL
  rw [hlen, valN_bitsL, Nat.mod_eq_of_lt h2, show ((n.toNat : Nat) : Int) = n by omega]
  apply List.ext_getElem
  · simp; omega
  · intro i h3 h4
    simp only [List.getElem_map, List.getElem_range]
    rw [← UInt8.toNat_inj, ← valB_get b i h4]
    simp
theorem no_L {b : List UInt8} {n : Int} (h : unE b n ≠ 0) : unL b n = [] := by unfold unL; rw [if_neg h]

set_option maxHeartbeats 400000 in
theorem bitmapBack_walk (A : Option Addr) (c : Nat) (l : List Bool) (A' : Option Addr) (c' : Nat) (b : List UInt8) (n : Int) (w : World) (hl : Rd w w.heap.size 1 A l.length (bls l)) (hr : Rd w w.heap.size 1 A' b.length (byt b)) (_ : -9223372036854775808 ≤ n ∧ n ≤ 9223372036854775807) :
    Calls Try.prog 4 #[.slice A l.length c, .slice A' b.length c', .int .i64 n] w (RetB true w) := by
  by_cases h16 : l.length ≤ 16
  · by_cases h10 : b.length ≤ 10
    · have e1 : pkE l = 0 := by simp [pkE, h16]
      have e2 := back_E l h16
      have e3 := back_L l h16
      have e4 := back_len l h16
      have E4 := Lib.hid e4; clear e4
      have e5 : (((pkL l).length : Int) != szN l.length) = false := by rw [E4.out]; simp
      go_enter Try.func4, Try.ntmps4
      go_wp2_with fail
      refine (pack_any A c l _ hl (by omega)).mono ?_
      rintro e w1 ⟨A1, n1, c1, rfl, h1, h2, hR1, hB1⟩
      obtain rfl : n1 = (pkL l).length := by simpa [byt] using hR1.len1.symm
      rw [e1]
      go_wp2_with fail
      refine (unpack_any A1 c1 (pkL l) l.length _ hR1).mono ?_
      rintro e w2 ⟨A2, n2, c2, rfl, h1', h2', hR2, hB2⟩
      rw [e3] at hR2
      rw [e2]
      obtain rfl : n2 = l.length := by simpa [bls] using hR2.len1.symm
      have hB12 := step_below hB1 hB2
      go_wp2_with fail
      refine (same_any A2 A c2 c l l _ hR2 (hl.up hB12 (Nat.le_refl _) hB12.size) (by omega)).mono ?_
      rintro e w3 ⟨rfl, hB3⟩
      have hB13 := step_below hB12 hB3
      rw [beq_self_eq_true]
      go_wp2_with fail
      refine (size_any _ _).mono ?_
      rintro e w4 ⟨rfl, rfl⟩
      go_wp2_with fail
      refine (unpack_any A' c' b n _ (hr.up hB13 (Nat.le_refl _) hB13.size)).mono ?_
      rintro e w5 ⟨A5, n5, c5, rfl, h5, h5', hR5, hB5⟩
      have hB15 := step_below hB13 hB5
      by_cases hE : unE b n = 0
      · have g2 := forth_L hE
        have g3 := forth_len hE
        have g1 : pkE (unL b n) = 0 := by simp [pkE, g3]
        obtain rfl : n5 = (unL b n).length := by simpa [bls] using hR5.len1.symm
        rw [hE]
        have G2 := Lib.hid g2; have HE := Lib.hid hE; clear g2 hE
        go_wp2_with fail
        refine (pack_any A5 c5 (unL b n) _ hR5 (by omega)).mono ?_
        rintro e w6 ⟨A6, n6, c6, rfl, h6, h6', hR6, hB6⟩
        rw [G2.out] at hR6
        rw [g1]
        have hB16 := step_below hB15 hB6
        have hr6 := hr.up hB16 (Nat.le_refl _) hB16.size
        have hcv1 := run_str_of_bytes (P := Try.prog) (src := 22) (dst := 9) (c := c6) Try.underlying22 Try.underlying5 Try.underlying9 hR6
        have hcv2 := run_str_of_bytes (P := Try.prog) (src := 22) (dst := 9) (c := c') Try.underlying22 Try.underlying5 Try.underlying9 hr6
        go_wp2_with fail
        refine (awake_any _).mono ?_
        rintro e w7 ⟨rfl, hB7⟩
        go_wp2
        go_ret
        exact RetB.mk' rfl (step_below hB16 hB7)
      · have g1 : (unE b n != 0) = true := by simpa using hE
        rw [no_L hE] at hR5
        obtain rfl : n5 = 0 := by simpa [bls] using hR5.len1.symm
        clear hE
        go_wp2_with fail
        refine (awake_any _).mono ?_
        rintro e w7 ⟨rfl, hB7⟩
        go_wp2
        go_ret
        exact RetB.mk' rfl (step_below hB15 hB7)
    · go_enter Try.func4, Try.ntmps4
      go_wp2
      go_ret
      exact RetB.mk' rfl (Below.refl _ _)
  · go_enter Try.func4, Try.ntmps4
    go_wp2
    go_ret
    exact RetB.mk' rfl (Below.refl _ _)
end Go.Proofs.Ytolhjdhbcggidaa
