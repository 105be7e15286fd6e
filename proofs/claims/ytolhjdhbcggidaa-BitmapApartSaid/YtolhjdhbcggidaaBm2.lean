import Derived.Test.YtolhjdhbcggidaaBm1
namespace Go.Proofs.Ytolhjdhbcggidaa
open Go.RowKit

theorem bits_and1 (x : Nat) (hx : x < 256) : bits .and .u8 (x : Int) 1 = ((x % 2 : Nat) : Int) := by
  show IntKind.u8.wrap ((BitVec.ofInt 8 (x : Int) &&& BitVec.ofInt 8 1).toNat : Int) = _
  have h1 : (BitVec.ofInt 8 1).toNat = 1 := by decide
  rw [BitVec.toNat_and, BitVec.ofInt_natCast, BitVec.toNat_ofNat, h1, Nat.mod_eq_of_lt (by omega), Nat.and_one_is_mod, IntKind.wrap_u8]
  omega
theorem bit_eq (b : UInt8) (r : Nat) : (bits .and .u8 ((b.toNat : Int) / 2 ^ r) 1 == 1) = decide (b.toNat / 2 ^ r % 2 = 1) := by
  have e : ((b.toNat : Int) / 2 ^ r) = ((b.toNat / 2 ^ r : Nat) : Int) := by simp
  have hlt : b.toNat / 2 ^ r < 256 := Nat.lt_of_le_of_lt (Nat.div_le_self _ _) b.toNat_lt
  rw [e, bits_and1 _ hlt]
  rw [Bool.eq_iff_iff]; simp; omega
theorem valB_get (l : List UInt8) (i : Nat) (h : i < l.length) : valB l / 256 ^ i % 256 = l[i].toNat := by
  induction l generalizing i with
  | nil => simp at h
  | cons b r ih =>
    have hb := b.toNat_lt
    cases i with
    | zero => simp [valB]
    | succ i =>
      simp only [valB, List.getElem_cons_succ]
      rw [← ih i (by simpa using h), Nat.pow_succ, Nat.mul_comm (256 ^ i), ← Nat.div_div_eq_div_mul]
      congr 2; omega
theorem valB_bit (l : List UInt8) (j : Nat) (h : j / 8 < l.length) : l[j / 8].toNat / 2 ^ (j % 8) % 2 = valB l / 2 ^ j % 2 := by
  rw [← valB_get l (j / 8) h]
  have e : (2 : Nat) ^ j = 256 ^ (j / 8) * 2 ^ (j % 8) := by
    rw [show (256 : Nat) = 2 ^ 8 by decide, ← Nat.pow_mul, ← Nat.pow_add, Nat.div_add_mod]
  rw [e, ← Nat.div_div_eq_div_mul]
  have hm : j % 8 < 8 := Nat.mod_lt _ (by decide)
  generalize valB l / 256 ^ (j / 8) = v
  rcases (show j % 8 = 0 ∨ j % 8 = 1 ∨ j % 8 = 2 ∨ j % 8 = 3 ∨ j % 8 = 4 ∨ j % 8 = 5 ∨ j % 8 = 6 ∨ j % 8 = 7 by omega) with e | e | e | e | e | e | e | e <;> rw [e] <;> omega
theorem bitsL_succ (n v : Nat) : bitsL (n + 1) v = bitsL n v ++ [decide (v / 2 ^ n % 2 = 1)] := by simp [bitsL, List.range_succ]
theorem bitsL_len (n v : Nat) : (bitsL n v).length = n := by simp [bitsL]

theorem valB_lt (l : List UInt8) : valB l < 2 ^ (8 * l.length) := by
  induction l with
  | nil => simp [valB]
  | cons b r ih =>
    have hb := b.toNat_lt
    have : 2 ^ (8 * (b :: r).length) = 256 * 2 ^ (8 * r.length) := by
      rw [List.length_cons, Nat.mul_add, Nat.pow_add, Nat.mul_comm]
    simp only [valB]
    omega
theorem div_zero_of_bits (v n m : Nat) (hv : v < 2 ^ m) (h : ∀ i, i < m → n ≤ i → v / 2 ^ i % 2 ≠ 1) : v / 2 ^ n = 0 := by
  rcases Nat.eq_zero_or_pos (v / 2 ^ n) with h0 | h0
  · exact h0
  · exfalso
    obtain ⟨i, hi⟩ := Nat.exists_testBit_of_ne_zero (Nat.pos_iff_ne_zero.1 h0)
    rw [← Nat.shiftRight_eq_div_pow, Nat.testBit_shiftRight, Nat.testBit_eq_decide_div_mod_eq] at hi
    have hi' := of_decide_eq_true hi
    rcases Nat.lt_or_ge (n + i) m with hlt | hge
    · exact h (n + i) hlt (by omega) hi'
    · rw [Nat.div_eq_of_lt (Nat.lt_of_lt_of_le hv (Nat.pow_le_pow_right (by decide) hge))] at hi'
      simp at hi'

set_option maxHeartbeats 400000 in
theorem unpack_ok (A : Option Addr) (c : Nat) (b : List UInt8) (n : Int) (w : World) (hr : Rd w w.heap.size 1 A b.length (byt b)) (h0 : 0 ≤ n) (h1 : n ≤ 16) (hz : (b.length : Int) = szN n) :
    Calls Try.prog 11 #[.slice A b.length c, .int .i64 n] w (RetSI 1 (bls (unL b n)) (unE b n) w) := by
  have hk : okN n = true := by simp [okN, h0, h1]
  have hb2 : b.length ≤ 2 := by simp [szN, h0, h1] at hz; omega
  have hlo : ((b.length : Int) < szN n) = False := by simp; omega
  have hhi : (szN n < (b.length : Int)) = False := by simp; omega
  obtain ⟨i0, hi, hz0, hz1, hz2⟩ := info_parts Try.info4
  have Hz := Lib.hid hz; clear hz
  go_enter Try.func11, Try.ntmps11
  go_wp2_with (first
    | (go_at_call 30; refine (counted_any _ _).mono ?_; rintro e w' ⟨rfl, rfl⟩)
    | (go_at_call 14; refine (size_any _ _).mono ?_; rintro e w' ⟨rfl, rfl⟩))
  go_loopw [6, 28] (fun v k wr => ∃ j : Nat, j ≤ 8 * b.length ∧ k = .int .i64 j ∧ wr.ownsRow w.heap.size 4 1 v (min j n.toNat) (bls (bitsL (min j n.toNat) (valB b))) ∧ Below w.heap.size w wr ∧
      Hid (∀ i, i < j → n.toNat ≤ i → valB b / 2 ^ i % 2 ≠ 1)) (fun _ k _ => 8 * b.length - (intOf k).toNat)
  case atStart => exact ⟨0, by omega, rfl, by simpa [bitsL, bls] using World.ownsRow_nil _ _ _ _, Below.refl _ _, fun i hi => by omega⟩
  case round =>
    obtain ⟨j, hj, rfl, hown, hbel, hz⟩ := hrel
    by_cases hlt : j < 8 * b.length
    · have hj8 : j / 8 < b.length := by omega
      obtain ⟨g, off, rfl, hg, hc⟩ := (hr.below hbel (Nat.le_refl _)).at_ (k := j / 8) hj8
      have hcj := hc (j / 8) hj8
      clear hc
      have hbit := bit_eq b[j / 8] (j % 8)
      rw [valB_bit b j hj8] at hbit
      by_cases hn : (j : Int) < n
      · have Hb : Hid (decide (valB b / 2 ^ j % 2 = 1) = decide (valB b / 2 ^ j % 2 = 1)) := rfl
        generalize htt : decide (valB b / 2 ^ j % 2 = 1) = t at hbit
        have hmin : min j n.toNat = j := by omega
        have hmin1 : min (j + 1) n.toNat = j + 1 := by omega
        rw [hmin] at hown
        have Htt := Lib.hid htt; clear htt Hb hmin
        have Hmin1 := Lib.hid hmin1; clear hmin1
        go_wp2_with (at_builtin; refine wpList_append_own _ rfl _ _ 23 rfl w.heap.size 4 i0 (.bool false) 1 1 Try.underlying23 hi hz0 hz1 hz2 rfl (by decide) _ _ _ rfl (hown.alloc _) ⟨wr.heap.size, 0, none⟩ 1 1 [.bool t] rfl rfl (cell_one_new _ _ _) (by simp [Value.oneCell']) (by simp only [maxLen]; omega) (by omega) (by have := hbel.size; simp; omega) ?_)
        intro v' w1 hown' hg' _
        have hb1 := own_base (hown.alloc (.cells #[.bool t] 4)) (hbel.alloc hbel.size _) hg' (by have := hbel.size; simp; omega)
        go_wp2
        go_roundw
        case rel => exact ⟨j + 1, by omega, by go_num, by rw [Hmin1.out, bitsL_succ, Htt.out]; simpa [bls] using hown', hb1, fun i hi hni => hz.out i (by omega) hni⟩
        case measure => simp [intOf]; omega
      · have hmin : min (j + 1) n.toNat = min j n.toNat := by omega
        have Hmin := Lib.hid hmin; clear hmin
        by_cases ht : valB b / 2 ^ j % 2 = 1
        · have hbit' : (bits BinOp.and IntKind.u8 ((b[j / 8].toNat : Int) / 2 ^ (j % 8)) 1 == 1) = true := by rw [hbit]; simp [ht]
          clear hbit
          have hE : unE b n = 3 := by
            have : 0 < valB b / 2 ^ n.toNat := by
              have h2 : 0 < valB b / 2 ^ j := by
                rcases Nat.eq_zero_or_pos (valB b / 2 ^ j) with h | h
                · rw [h] at ht; simp at ht
                · exact h
              have h3 : valB b / 2 ^ j ≤ valB b / 2 ^ n.toNat := Nat.div_le_div_left (Nat.pow_le_pow_right (by decide) (by omega)) (Nat.two_pow_pos _)
              exact Nat.lt_of_lt_of_le h2 h3
            simp [unE, h0, h1, hlo, hhi, this]
          have HE := Lib.hid hE; clear hE ht
          go_wp2
          go_ret2
          have hL : unL b n = [] := by simp [unL, HE.out]
          rw [hL]
          exact RetSI.nil_ HE.out.symm hbel
        · have hbit' : (bits BinOp.and IntKind.u8 ((b[j / 8].toNat : Int) / 2 ^ (j % 8)) 1 == 1) = false := by rw [hbit]; simp [ht]
          clear hbit
          have Ht := Lib.hid ht; clear ht
          go_wp2
          go_roundw
          case rel => exact ⟨j + 1, by omega, by go_num, by rw [Hmin.out]; exact hown, hbel, fun i hi hni => (if h : i = j then h ▸ Ht.out else hz.out i (by omega) hni)⟩
          case measure => simp [intOf]; omega
    · obtain rfl : j = 8 * b.length := by omega
      have hE : unE b n = 0 := by
        have := div_zero_of_bits (valB b) n.toNat (8 * b.length) (valB_lt b) hz.out
        simp [unE, h0, h1, hlo, hhi, this]
      have hmin : min (8 * b.length) n.toNat = n.toNat := by have := Hz.out; simp [szN, h0, h1] at this; omega
      have hL : unL b n = bitsL n.toNat (valB b) := by simp [unL, hE]
      rw [hmin] at hown
      have HE := Lib.hid hE; have HL := Lib.hid hL; clear hE hmin hL
      go_wp2
      go_ret2
      rw [HL.out]
      exact RetSI.own hown HE.out.symm hbel
end Go.Proofs.Ytolhjdhbcggidaa
