/-
  Layer 1, prim.Reader: Text, Byte, Word, Int by contracts.
-/
import Derived.Test.YtcblmcpmdpnlbaaRu
namespace Go.Proofs.Ytcblmcpmdpnlbaa
open Go.RowKit

/-- Text. -/
theorem text_any (g : Nat) (r : Rdr) (limit : Int) (w : World) (hp0 : PR w g r) (hl : -9223372036854775808 ≤ limit ∧ limit ≤ 9223372036854775807) :
    Calls Try.prog 22 #[.pointer (some ⟨g, 0, none⟩), .int .i64 limit] w (RetM (.string ⟨(r.text limit).1.toArray⟩) g (r.text limit).2 w) := by
  have hT : r.text limit = (r.uint (max 0 limit).toNat).2.take (r.uint (max 0 limit).toNat).1 := rfl
  obtain ⟨L, hL, hL1, hL2⟩ : ∃ L : Nat, (max 0 limit).toNat = L ∧ ((0 < limit ∧ limit = (L : Int)) ∨ (limit ≤ 0 ∧ L = 0)) ∧ L < 9223372036854775808 := ⟨(max 0 limit).toNat, rfl, by omega, by omega⟩
  rw [hL] at hT
  have hlt := r.uint_lt L
  generalize hU : r.uint L = U at hT hlt
  obtain ⟨n, r1⟩ := U
  simp only at hT hlt
  have HT := Lib.hid hT; have HU := Lib.hid hU; clear hT hU hL
  rcases hL1 with ⟨h0, rfl⟩ | ⟨h0, rfl⟩
  all_goals
    go_enter Try.func22, Try.ntmps22
    go_wp2_with fail
    refine (uint_any g r _ _ hp0).mono ?_
    rintro e w1 ⟨rfl, hp, hg⟩
    rw [HU.out] at hp
    rw [HU.out]
    simp only at hp
    obtain ⟨A, c, h1, h2, hR, c0, c1, f0, f1, hh⟩ := hp.cells
    have hmax : c ≤ 9223372036854775807 := by unfold maxLen at h2; exact h2
    clear c1 f0 f1 hh
    by_cases hn : r1.rest.length < n
    · have hk : r1.take n = ([], r1.giveUp 1) := by unfold Rdr.take; rw [if_pos hn]
      have Hk := Lib.hid hk; clear hk
      go_wp2_with fail
      refine (giveUp_any g r1 1 _ hp).mono ?_
      rintro e w2 ⟨rfl, hp2, hg2⟩
      go_wp2
      go_ret
      rw [HT.out, Hk.out]
      exact ⟨rfl, hp2, grown_trans_same hg hg2⟩
    · go_wp2_with fail
      refine (bytes_any g r1 n _ hp).mono ?_
      rintro e w2 ⟨A2, c2, rfl, hR2, hp2, hg2⟩
      have hcv := run_str_of_bytes (P := Try.prog) (src := 22) (dst := 9) (c := c2) Try.underlying22 Try.underlying5 Try.underlying9 hR2
      go_wp2
      go_ret
      rw [HT.out]
      exact ⟨rfl, hp2, grown_trans_same hg hg2⟩

/-- Byte. -/
theorem byte_any (g : Nat) (r : Rdr) (w : World) (h : PR w g r) :
    Calls Try.prog 27 #[.pointer (some ⟨g, 0, none⟩)] w (RetM (.int .u8 (r.byte.1 : Int)) g r.byte.2 w) := by
  have hB : r.byte = (((r.take 1).1.headD 0).toNat, (r.take 1).2) := rfl
  have hl := r.take_len 1
  generalize hU : r.take 1 = U at hB hl
  obtain ⟨l, r1⟩ := U
  simp only at hB hl
  have HB := Lib.hid hB; have HU := Lib.hid hU; clear hB hU
  go_enter Try.func27, Try.ntmps27
  go_wp2_with fail
  refine (bytes_any g r 1 _ h).mono ?_
  rintro e w1 ⟨A, c, rfl, hR, hp, hg⟩
  rw [HU.out] at hR hp
  rw [HU.out]
  simp only at hR hp
  cases l with
  | nil =>
    go_wp2
    go_ret
    rw [HB.out]
    exact ⟨rfl, hp, hg⟩
  | cons x l =>
    have hl0 : l = [] := by simpa using hl
    subst hl0
    obtain ⟨b, off, rfl, hb, hc⟩ := hR.at_ (k := 0) (by simp)
    have hc0 := hc 0 (by simp)
    simp only [List.getElem_cons_zero, Nat.add_zero] at hc0
    clear hc
    go_wp2
    go_ret
    rw [HB.out]
    exact ⟨rfl, hp, hg⟩

theorem or_shift (a x s : Nat) (ha : a < 2 ^ s) (hx : 2 ^ s * x < 18446744073709551616) (hs : s ≤ 63) : bits .or .u64 (a : Int) (IntKind.u64.wrap ((x : Int) * 2 ^ s)) = ((a + 2 ^ s * x : Nat) : Int) := by
  have hb : 2 ^ s * x + a < 2 ^ 64 := by
    have hp : 2 ^ s ≤ 2 ^ 63 := Nat.pow_le_pow_right (by decide) hs
    rcases Nat.eq_zero_or_pos x with rfl | hxp
    · simp; omega
    · have h1 : 2 ^ s * (x + 1) ≤ 2 ^ 64 := by
        have e : (2 : Nat) ^ 64 = 2 ^ s * 2 ^ (64 - s) := by rw [← Nat.pow_add]; congr 1; omega
        rw [e]
        refine Nat.mul_le_mul_left _ ?_
        have h2 : 2 ^ s * x < 2 ^ s * 2 ^ (64 - s) := by rw [← e]; exact hx
        exact Nat.lt_of_mul_lt_mul_left h2
      rw [Nat.mul_add] at h1; omega
  have e : ((x : Int) * 2 ^ s) = ((2 ^ s * x : Nat) : Int) := by
    rw [Nat.mul_comm, Int.natCast_mul]; congr 1
  rw [e, show IntKind.u64.wrap ((2 ^ s * x : Nat) : Int) = ((2 ^ s * x : Nat) : Int) by rw [IntKind.wrap_u64]; omega]
  show IntKind.u64.wrap ((BitVec.ofInt 64 (a : Int) ||| BitVec.ofInt 64 ((2 ^ s * x : Nat) : Int)).toNat : Int) = _
  rw [BitVec.toNat_or, BitVec.ofInt_natCast, BitVec.ofInt_natCast, BitVec.toNat_ofNat, BitVec.toNat_ofNat, Nat.mod_eq_of_lt (by omega), Nat.mod_eq_of_lt (by omega), Nat.or_comm, ← Nat.two_pow_add_eq_or_of_lt ha x, IntKind.wrap_u64]
  omega

theorem le8_snoc (l : List UInt8) (x : UInt8) : le8 (l ++ [x]) = le8 l + 2 ^ (8 * l.length) * x.toNat := by
  induction l with
  | nil => simp [le8]
  | cons y r ih =>
    simp only [List.cons_append, le8, ih, List.length_cons]
    rw [Nat.mul_add 8, Nat.pow_add, Nat.mul_add, ← Nat.mul_assoc]; simp only [Nat.mul_one, Nat.reducePow]; rw [Nat.mul_comm 256 (2 ^ (8 * r.length))]; omega
theorem le8_lt (l : List UInt8) : le8 l < 2 ^ (8 * l.length) := by
  induction l with
  | nil => simp [le8]
  | cons x r ih =>
    have := x.toNat_lt
    simp only [le8, List.length_cons]
    rw [Nat.mul_add 8, Nat.pow_add]; simp only [Nat.mul_one, Nat.reducePow]; omega

/-- Word. -/
theorem word_any (g : Nat) (r : Rdr) (w : World) (hp0 : PR w g r) :
    Calls Try.prog 28 #[.pointer (some ⟨g, 0, none⟩)] w (RetM (.int .u64 (r.word.1 : Int)) g r.word.2 w) := by
  have hB : r.word = (le8 (r.take 8).1, (r.take 8).2) := rfl
  have hl := r.take_len 8
  generalize hU : r.take 8 = U at hB hl
  obtain ⟨l, r1⟩ := U
  simp only at hB hl
  have HB := Lib.hid hB; have HU := Lib.hid hU; clear hB hU
  go_enter Try.func28, Try.ntmps28
  go_wp2_with fail
  refine (bytes_any g r 8 _ hp0).mono ?_
  rintro e w1 ⟨A, c, rfl, hR, hp, hg⟩
  rw [HU.out] at hR hp
  rw [HU.out]
  simp only at hR hp
  go_wp2
  go_loop [3, 9] (fun v k => ∃ j : Nat, j ≤ l.length ∧ k = .int .i64 j ∧ v = .int .u64 (le8 (l.take j) : Int)) (fun _ k => l.length - (intOf k).toNat)
  case atStart => exact ⟨0, by omega, rfl, rfl⟩
  case round =>
    obtain ⟨j, hj, rfl, rfl⟩ := hrel
    by_cases hlt : j < l.length
    · obtain ⟨b, off, rfl, hb, hc⟩ := hR.at_ hlt
      have hcj := hc j hlt
      clear hc
      have hlen : (l.take j).length = j := by rw [List.length_take]; omega
      have h1 := le8_lt (l.take j)
      have h2 := le8_snoc (l.take j) l[j]
      rw [hlen] at h1 h2
      rw [← List.take_succ_eq_append_getElem hlt] at h2
      have hx := (l[j]).toNat_lt
      have hor := or_shift (le8 (l.take j)) (l[j]).toNat (8 * j) h1 (by
        have h3 : 2 ^ (8 * j) ≤ 2 ^ 56 := Nat.pow_le_pow_right (by decide) (by omega)
        have h4 : 2 ^ (8 * j) * (l[j]).toNat ≤ 2 ^ 56 * 255 := Nat.mul_le_mul h3 (by omega)
        omega) (by omega)
      rw [← h2] at hor
      have H2 := Lib.hid h2; clear h1 h2 hlen
      go_wp2
      go_round
      case rel => exact ⟨j + 1, by omega, by go_num, rfl⟩
      case measure => simp [intOf]; omega
    · rw [List.take_of_length_le (by omega)]
      go_wp2
      go_ret
      rw [HB.out]
      exact ⟨rfl, hp, hg⟩

theorem and1_u64 (v : Nat) (hv : v < 18446744073709551616) : bits .and .u64 (v : Int) 1 = ((v % 2 : Nat) : Int) := by
  show IntKind.u64.wrap ((BitVec.ofInt 64 (v : Int) &&& BitVec.ofInt 64 1).toNat : Int) = _
  have h1 : (BitVec.ofInt 64 1).toNat = 1 := by decide
  rw [BitVec.toNat_and, BitVec.ofInt_natCast, BitVec.toNat_ofNat, h1, Nat.mod_eq_of_lt (by omega), Nat.and_one_is_mod, IntKind.wrap_u64]
  omega
theorem xor_i64_0 (x : Nat) (hx : x < 9223372036854775808) : bits .xor .i64 (x : Int) 0 = (x : Int) := by
  show IntKind.i64.wrap ((BitVec.ofInt 64 (x : Int) ^^^ BitVec.ofInt 64 0).toNat : Int) = _
  have h0 : BitVec.ofInt 64 0 = 0#64 := by decide
  rw [h0, BitVec.xor_zero, BitVec.ofInt_natCast, BitVec.toNat_ofNat, Nat.mod_eq_of_lt (by omega), IntKind.wrap_i64]
  omega
theorem xor_i64_ones (x : Nat) (hx : x < 9223372036854775808) : bits .xor .i64 (x : Int) (-1) = -(x : Int) - 1 := by
  show IntKind.i64.wrap ((BitVec.ofInt 64 (x : Int) ^^^ BitVec.ofInt 64 (-1)).toNat : Int) = _
  have h1 : BitVec.ofInt 64 (-1) = BitVec.allOnes 64 := by decide
  rw [h1, BitVec.xor_allOnes, BitVec.toNat_not, BitVec.ofInt_natCast, BitVec.toNat_ofNat, Nat.mod_eq_of_lt (by omega), IntKind.wrap_i64]
  omega
theorem zag_bits (v : Nat) (hv : v < 18446744073709551616) : bits .xor .i64 ((v : Int) / 2) (wrap64 (-wrap64 (bits .and .u64 (v : Int) 1))) = zag v := by
  rw [and1_u64 v hv, show ((v : Int) / 2) = ((v / 2 : Nat) : Int) by omega]
  unfold zag
  rcases (show v % 2 = 0 ∨ v % 2 = 1 by omega) with h | h
  · rw [h, if_neg (by decide)]
    have : wrap64 (-wrap64 ((0 : Nat) : Int)) = 0 := by unfold wrap64; omega
    rw [this, xor_i64_0 _ (by omega)]
  · rw [h, if_pos rfl]
    have : wrap64 (-wrap64 ((1 : Nat) : Int)) = -1 := by unfold wrap64; omega
    rw [this, xor_i64_ones _ (by omega)]

/-- Int. -/
theorem int_any (g : Nat) (r : Rdr) (w : World) (hp0 : PR w g r) :
    Calls Try.prog 25 #[.pointer (some ⟨g, 0, none⟩)] w (RetM (.int .i64 r.int.1) g r.int.2 w) := by
  have hB : r.int = (zag (r.uint 18446744073709551615).1, (r.uint 18446744073709551615).2) := rfl
  have hlt := r.uint_lt 18446744073709551615
  generalize hU : r.uint 18446744073709551615 = U at hB hlt
  obtain ⟨v, r1⟩ := U
  simp only at hB hlt
  have HB := Lib.hid hB; have HU := Lib.hid hU; clear hB hU
  go_enter Try.func25, Try.ntmps25
  go_wp2_with fail
  refine (uint_any g r 18446744073709551615 _ hp0).mono ?_
  rintro e w1 ⟨rfl, hp, hg⟩
  rw [HU.out] at hp
  rw [HU.out]
  simp only at hp
  have hz := zag_bits v hlt
  have Hz := Lib.hid hz; clear hz
  go_wp2
  go_ret
  rw [HB.out]
  exact ⟨ret_i Hz.out, hp, hg⟩
end Go.Proofs.Ytcblmcpmdpnlbaa
