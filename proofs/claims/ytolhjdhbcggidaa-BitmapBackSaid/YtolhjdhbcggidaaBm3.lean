/-
  The contracts of bitmap.Unpack where it refuses, of the reference's Unpack, of Same.
-/
import Derived.Test.YtolhjdhbcggidaaBm2
namespace Go.Proofs.Ytolhjdhbcggidaa
open Go.RowKit

theorem unpack_no (A : Option Addr) (c : Nat) (b : List UInt8) (n : Int) (w : World) (h : ¬ (0 ≤ n ∧ n ≤ 16) ∨ (b.length : Int) ≠ szN n) :
    Calls Try.prog 11 #[.slice A b.length c, .int .i64 n] w (RetSI 1 (bls (unL b n)) (unE b n) w) := by
  by_cases h0 : 0 ≤ n ∧ n ≤ 16
  · have hk : okN n = true := by simp [okN, h0]
    obtain ⟨h0, h1⟩ := h0
    by_cases hlo : (b.length : Int) < szN n
    · have hE : unE b n = 1 := by simp [unE, h0, h1, hlo]
      have hL : unL b n = [] := by simp [unL, hE]
      have HE := Lib.hid hE; have HL := Lib.hid hL; clear hE hL
      go_enter Try.func11, Try.ntmps11
      go_wp2_with (first
        | (go_at_call 30; refine (counted_any _ _).mono ?_; rintro e w' ⟨rfl, rfl⟩)
        | (go_at_call 14; refine (size_any _ _).mono ?_; rintro e w' ⟨rfl, rfl⟩))
      go_ret2
      rw [HL.out]
      exact RetSI.nil_ HE.out.symm (Below.refl _ _)
    · have hhi : szN n < (b.length : Int) := by omega
      have hE : unE b n = 2 := by simp [unE, h0, h1, hlo, hhi]
      have hL : unL b n = [] := by simp [unL, hE]
      have HE := Lib.hid hE; have HL := Lib.hid hL; clear hE hL
      go_enter Try.func11, Try.ntmps11
      go_wp2_with (first
        | (go_at_call 30; refine (counted_any _ _).mono ?_; rintro e w' ⟨rfl, rfl⟩)
        | (go_at_call 14; refine (size_any _ _).mono ?_; rintro e w' ⟨rfl, rfl⟩))
      go_ret2
      rw [HL.out]
      exact RetSI.nil_ HE.out.symm (Below.refl _ _)
  · have hk : okN n = false := by simp [okN]; omega
    have hE : unE b n = 17 := by unfold unE; rw [if_pos h0]
    have hL : unL b n = [] := by simp [unL, hE]
    have HE := Lib.hid hE; have HL := Lib.hid hL; clear hE hL
    go_enter Try.func11, Try.ntmps11
    go_wp2_with (first
      | (go_at_call 30; refine (counted_any _ _).mono ?_; rintro e w' ⟨rfl, rfl⟩)
      | (go_at_call 14; refine (size_any _ _).mono ?_; rintro e w' ⟨rfl, rfl⟩))
    go_ret2
    rw [HL.out]
    exact RetSI.nil_ HE.out.symm (Below.refl _ _)
/-- bitmap.Unpack. -/
theorem unpack_any (A : Option Addr) (c : Nat) (b : List UInt8) (n : Int) (w : World) (hr : Rd w w.heap.size 1 A b.length (byt b)) :
    Calls Try.prog 11 #[.slice A b.length c, .int .i64 n] w (RetSI 1 (bls (unL b n)) (unE b n) w) := by
  by_cases h : (0 ≤ n ∧ n ≤ 16) ∧ (b.length : Int) = szN n
  · exact unpack_ok A c b n w hr h.1.1 h.1.2 h.2
  · refine unpack_no A c b n w ?_
    by_cases h1 : 0 ≤ n ∧ n ≤ 16
    · exact .inr fun e => h ⟨h1, e⟩
    · exact .inl h1

theorem unpackR_no (A : Option Addr) (c : Nat) (b : List UInt8) (n : Int) (w : World) (h : ¬ (0 ≤ n ∧ n ≤ 16) ∨ (b.length : Int) ≠ szN n) :
    Calls Try.prog 12 #[.slice A b.length c, .int .i64 n] w (RetSI 1 (bls (unL b n)) (unE b n) w) := by
  by_cases h0 : n < 0
  · have hE : unE b n = 17 := by unfold unE; rw [if_pos (by omega)]
    have hL : unL b n = [] := by simp [unL, hE]
    have HE := Lib.hid hE; have HL := Lib.hid hL; clear hE hL
    go_enter Try.func12, Try.ntmps12
    go_wp2
    go_ret2
    rw [HL.out]
    exact RetSI.nil_ HE.out.symm (Below.refl _ _)
  by_cases h1 : 16 < n
  · have hE : unE b n = 17 := by unfold unE; rw [if_pos (by omega)]
    have hL : unL b n = [] := by simp [unL, hE]
    have HE := Lib.hid hE; have HL := Lib.hid hL; clear hE hL
    go_enter Try.func12, Try.ntmps12
    go_wp2
    go_ret2
    rw [HL.out]
    exact RetSI.nil_ HE.out.symm (Below.refl _ _)
  have hin : 0 ≤ n ∧ n ≤ 16 := by omega
  by_cases hlo : (b.length : Int) < szN n
  · have hE : unE b n = 1 := by simp [unE, hin, hlo]
    have hL : unL b n = [] := by simp [unL, hE]
    have HE := Lib.hid hE; have HL := Lib.hid hL; clear hE hL
    go_enter Try.func12, Try.ntmps12
    go_wp2_with (go_at_call 15; refine (sizeR_any _ _).mono ?_; rintro e w' ⟨rfl, rfl⟩)
    go_ret2
    rw [HL.out]
    exact RetSI.nil_ HE.out.symm (Below.refl _ _)
  · have hhi : szN n < (b.length : Int) := by omega
    have hE : unE b n = 2 := by simp [unE, hin, hlo, hhi]
    have hL : unL b n = [] := by simp [unL, hE]
    have HE := Lib.hid hE; have HL := Lib.hid hL; clear hE hL
    go_enter Try.func12, Try.ntmps12
    go_wp2_with (go_at_call 15; refine (sizeR_any _ _).mono ?_; rintro e w' ⟨rfl, rfl⟩)
    go_ret2
    rw [HL.out]
    exact RetSI.nil_ HE.out.symm (Below.refl _ _)

theorem valB_drop (l : List UInt8) (i : Nat) (h : i < l.length) : valB (l.drop i) = 256 * valB (l.drop (i + 1)) + l[i].toNat := by
  rw [List.drop_eq_getElem_cons h]; simp only [valB]; omega

set_option maxHeartbeats 400000 in
theorem unpackR_ok (A : Option Addr) (c : Nat) (b : List UInt8) (n : Int) (w : World) (hr : Rd w w.heap.size 1 A b.length (byt b)) (h0 : 0 ≤ n) (h1 : n ≤ 16) (hz : (b.length : Int) = szN n) :
    Calls Try.prog 12 #[.slice A b.length c, .int .i64 n] w (RetSI 1 (bls (unL b n)) (unE b n) w) := by
  have hb2 : b.length ≤ 2 := by simp [szN, h0, h1] at hz; omega
  have hlo : ((b.length : Int) < szN n) = False := by simp; omega
  have hhi : (szN n < (b.length : Int)) = False := by simp; omega
  obtain ⟨i0, hi, hz0, hz1, hz2⟩ := info_parts Try.info4
  have Hz := Lib.hid hz; clear hz
  go_enter Try.func12, Try.ntmps12
  go_wp2_with (go_at_call 15; refine (sizeR_any _ _).mono ?_; rintro e w' ⟨rfl, rfl⟩)
  go_loop [6, 7] (fun v i => ∃ j : Nat, j ≤ b.length ∧ i = .int .i64 ((j : Int) - 1) ∧ v = .int .i64 (valB (b.drop j))) (fun _ i => (intOf i + 1).toNat)
  case atStart => exact ⟨b.length, Nat.le_refl _, rfl, by simp [valB]⟩
  case round =>
    obtain ⟨j, hj, rfl, rfl⟩ := hrel
    rcases Nat.eq_zero_or_pos j with hj0 | hj0
    · subst hj0
      have hV := valB_lt b
      have hV2 : valB b < 65536 := Nat.lt_of_lt_of_le hV (Nat.pow_le_pow_right (by decide) (show 8 * b.length ≤ 16 by omega))
      clear hV
      simp only [List.drop_zero]
      generalize hV : valB b = V at hV2
      have HV := Lib.hid hV; clear hV
      go_wp2
      go_loopw [6, 8, 9] (fun v o i wr => ∃ j : Nat, j ≤ n.toNat ∧ i = .int .i64 (j : Int) ∧ v = .int .i64 ((V / 2 ^ j : Nat) : Int) ∧ wr.ownsRow w.heap.size 4 1 o j (bls (bitsL j V)) ∧ Below w.heap.size w wr) (fun _ _ i _ => n.toNat - (intOf i).toNat)
      case atStart => exact ⟨0, by omega, rfl, by simp, by simpa [bitsL, bls] using World.ownsRow_nil _ _ _ _, Below.refl _ _⟩
      case round =>
        obtain ⟨k, hk, rfl, rfl, hown, hbel⟩ := hrel
        have hdiv : V / 2 ^ k ≤ V := Nat.div_le_self _ _
        have hsucc : V / 2 ^ (k + 1) = V / 2 ^ k / 2 := by rw [Nat.pow_succ, Nat.div_div_eq_div_mul]
        have hbs := bitsL_succ k V
        generalize hq : V / 2 ^ k = q at hdiv hsucc hbs
        have Hs := Lib.hid hsucc; have Hbs := Lib.hid hbs; clear hsucc hbs
        by_cases hlt : (k : Int) < n
        · have Hq := Lib.hid hq; clear hq
          generalize ht : decide (q % 2 = 1) = t at Hbs
          have htt : (((q : Int) % 2) == 1) = t := by rw [← ht, Bool.eq_iff_iff]; simp; omega
          clear ht
          go_wp2_with (at_builtin; refine wpList_append_own _ rfl _ _ 23 rfl w.heap.size 4 i0 (.bool false) 1 1 Try.underlying23 hi hz0 hz1 hz2 rfl (by decide) _ _ _ rfl (hown.alloc _) ⟨wr.heap.size, 0, none⟩ 1 1 [.bool t] rfl rfl (cell_one_new _ _ _) (by simp [Value.oneCell']) (by simp only [maxLen]; omega) (by omega) (by have := hbel.size; simp; omega) ?_)
          intro v' w1 hown' hg' _
          have hb1 := own_base (hown.alloc (.cells #[.bool t] 4)) (hbel.alloc hbel.size _) hg' (by have := hbel.size; simp; omega)
          go_wp2
          go_roundw
          case rel => exact ⟨k + 1, by omega, by go_num, by rw [Hs.out]; go_num, by rw [Hbs.out]; simpa [bls] using hown', hb1⟩
          case measure => simp [intOf]; omega
        · obtain rfl : k = n.toNat := by omega
          have Hq := Lib.hid hq; clear hq
          by_cases hpos : 0 < q
          · have hE : unE b n = 3 := by
              unfold unE
              rw [if_neg (by omega), if_neg (by simp [hlo]), if_neg (by simp [hhi]), HV.out, Hq.out, if_pos hpos]
            have hL : unL b n = [] := by simp [unL, hE]
            have HE := Lib.hid hE; have HL := Lib.hid hL; clear hE hL
            go_wp2
            go_ret2
            rw [HL.out]
            exact RetSI.nil_ HE.out.symm hbel
          · have hE : unE b n = 0 := by
              unfold unE
              rw [if_neg (by omega), if_neg (by simp [hlo]), if_neg (by simp [hhi]), HV.out, Hq.out, if_neg hpos]
            have hL : unL b n = bitsL n.toNat V := by simp [unL, hE, HV.out]
            have HE := Lib.hid hE; have HL := Lib.hid hL; clear hE hL
            go_wp2
            go_ret2
            rw [HL.out]
            exact RetSI.own hown HE.out.symm hbel
    · obtain ⟨k, rfl⟩ : ∃ k, j = k + 1 := ⟨j - 1, by omega⟩
      have hk : k < b.length := by omega
      obtain ⟨g, off, rfl, hg, hc⟩ := hr.at_ hk
      have hcj := hc k hk
      clear hc
      have hV := valB_lt (b.drop (k + 1))
      have hV2 : valB (b.drop (k + 1)) < 65536 := Nat.lt_of_lt_of_le hV (Nat.pow_le_pow_right (by decide) (show 8 * (b.drop (k + 1)).length ≤ 16 by rw [List.length_drop]; omega))
      clear hV
      have hd := valB_drop b k hk
      have Hd := Lib.hid hd; clear hd
      have hx := (b[k]).toNat_lt
      have e1 : ((k + 1 : Nat) : Int) - 1 = (k : Int) := by omega
      rw [e1]
      clear e1
      go_wp2
      go_round
      case rel => exact ⟨k, by omega, rfl, by rw [Hd.out]; go_num⟩
      case measure => simp [intOf]
end Go.Proofs.Ytolhjdhbcggidaa
