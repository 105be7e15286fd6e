/-
  Layer 1: the reference's sevens and zigzag, PutInt, PutText, Text, by contracts.
-/
import Derived.Test.YtcblmcpmdpnlbaaPr1
namespace Go.Proofs.Ytcblmcpmdpnlbaa
open Go.RowKit

set_option maxRecDepth 100000 in
set_option maxHeartbeats 400000 in
/-- lacunaref01.Uint. -/
theorem uintR_any (v : Nat) (w : World) (hv : v < 18446744073709551616) :
    Calls Try.prog 14 #[.int .u64 (v : Int)] w (RetO 5 1 (sevens v).length (byt (sevens v)) w) := by
  obtain ⟨i0, hi, hz0, hz1, hz2⟩ := info_parts Try.info5
  go_enter Try.func14, Try.ntmps14
  go_wp2
  go_loopw [0, 3] (fun m o wr => ∃ (k f : Nat) (xs : List UInt8), m = .int .u64 (k : Int) ∧ k < 2 ^ (7 * f + 1) ∧ k < 18446744073709551616 ∧ f ≤ 9 ∧ xs.length + f ≤ 9 ∧ wr.ownsRow w.heap.size 5 1 o xs.length (byt xs) ∧ Below w.heap.size w wr ∧ Hid (xs ++ sv f k = sevens v)) (fun m _ _ => (intOf m).toNat)
  case atStart => exact ⟨v, 9, [], rfl, by omega, hv, by omega, by simp, by simpa [byt] using World.ownsRow_nil _ _ _ _, Below.refl _ _, rfl⟩
  case round =>
    obtain ⟨m, f, xs, rfl, hmf, hm64, hf9, hn, hown, hb, Hx⟩ := hrel
    by_cases h128 : 127 < m
    · obtain ⟨f, rfl⟩ : ∃ g, f = g + 1 := by
        cases f with
        | zero => simp at hmf; omega
        | succ g => exact ⟨g, rfl⟩
      have hor : (m : Int) % 128 + 128 = ((UInt8.ofNat (m % 128 + 128)).toNat : Int) := by simp; omega
      have Hor := Lib.hid hor; clear hor
      go_wp2_with (at_builtin; refine wpList_append_own _ rfl _ _ 22 rfl w.heap.size 5 i0 (.int .u8 0) 1 1 Try.underlying22 hi hz0 hz1 hz2 rfl (by decide) _ _ _ rfl (hown.alloc _) ⟨wr.heap.size, 0, none⟩ 1 1 [.int .u8 ((m : Int) % 128 + 128)] rfl rfl (cell_one_new _ _ _) (by simp [Value.oneCell']) (by simp only [maxLen]; omega) (by omega) (by have := hb.size; simp; omega) ?_)
      intro v' w1 hown' hg' _
      have hb1 := own_base (hown.alloc _) (hb.alloc hb.size _) hg' (by have := hb.size; simp; omega)
      rw [Hor.out] at hown'
      have h2 : m / 128 < 2 ^ (7 * f + 1) := by
        rw [Nat.div_lt_iff_lt_mul (by decide), ← (show 2 ^ 7 = 128 by decide), ← Nat.pow_add]
        exact Nat.lt_of_lt_of_eq hmf (by congr 1)
      go_wp2
      go_roundw
      case rel => exact ⟨m / 128, f, xs ++ [UInt8.ofNat (m % 128 + 128)], by go_num, h2, by omega, by omega, by simp; omega, by simpa [byt] using hown', hb1, by
          have := Hx.out
          unfold sv at this
          rw [if_pos (by omega)] at this
          show _ = _
          rw [← this]; simp⟩
      case measure => simp [intOf]; omega
    · have hsv : sv f m = [UInt8.ofNat m] := by
        cases f with
        | zero => rfl
        | succ f => unfold sv; rw [if_neg (by omega)]
      have hfin := congrArg List.length Hx.out
      rw [hsv] at hfin
      simp at hfin
      have hfin2 : byt xs ++ [.int .u8 ((UInt8.ofNat m).toNat : Int)] = byt (sevens v) := by rw [← Hx.out, hsv]; simp [byt]
      have e1 : ((UInt8.ofNat m).toNat : Int) = (m : Int) := by simp; omega
      rw [e1] at hfin2
      have Hf := Lib.hid hfin; have Hf2 := Lib.hid hfin2; clear hfin hfin2 hsv e1
      go_wp2_with (at_builtin; refine wpList_append_own _ rfl _ _ 22 rfl w.heap.size 5 i0 (.int .u8 0) 1 1 Try.underlying22 hi hz0 hz1 hz2 rfl (by decide) _ _ _ rfl (hown.alloc _) ⟨wr.heap.size, 0, none⟩ 1 1 [.int .u8 (m : Int)] rfl rfl (cell_one_new _ _ _) (by simp [Value.oneCell']) (by simp only [maxLen]; omega) (by omega) (by have := hb.size; simp; omega) ?_)
      intro v' w1 hown' hg' _
      have hb1 := own_base (hown.alloc _) (hb.alloc hb.size _) hg' (by have := hb.size; simp; omega)
      go_wp2
      go_ret
      rw [Hf2.out] at hown'
      exact RetO.mk' (by rw [← Hf.out]; exact hown') hb1

/-- A number with a sign, as one without. -/
def zig (v : Int) : Int := if v < 0 then -2 * v - 1 else 2 * v
theorem zig_range (v : Int) (h : -9223372036854775808 ≤ v ∧ v ≤ 9223372036854775807) : 0 ≤ zig v ∧ zig v < 18446744073709551616 := by unfold zig; split <;> omega
theorem zig_nat (v : Int) (h : -9223372036854775808 ≤ v ∧ v ≤ 9223372036854775807) : ∃ n : Nat, zig v = (n : Int) ∧ n < 18446744073709551616 := ⟨(zig v).toNat, by have := zig_range v h; omega, by have := zig_range v h; omega⟩

/-- lacunaref01.Zig. -/
theorem zigR_any (v : Int) (w : World) (h : -9223372036854775808 ≤ v ∧ v ≤ 9223372036854775807) :
    Calls Try.prog 16 #[.int .i64 v] w fun e w' => e = .returned (.int .u64 (zig v)) ∧ w = w' := by
  by_cases hn : v < 0
  · have hz : zig v = -2 * v - 1 := by simp [zig, hn]
    have Hz := Lib.hid hz; clear hz
    go_enter Try.func16, Try.ntmps16
    go_wp2
    go_ret
    exact ⟨ret_i (by rw [Hz.out]; omega), rfl⟩
  · have hz : zig v = 2 * v := by simp [zig, hn]
    have Hz := Lib.hid hz; clear hz
    go_enter Try.func16, Try.ntmps16
    go_wp2
    go_ret
    exact ⟨ret_i (by rw [Hz.out]), rfl⟩

theorem xor_zero (x : Int) (h : 0 ≤ x ∧ x < 18446744073709551616) : bits .xor .u64 x 0 = x := by
  show IntKind.u64.wrap ((BitVec.ofInt 64 x ^^^ BitVec.ofInt 64 0).toNat : Int) = _
  have h0 : BitVec.ofInt 64 0 = 0#64 := by decide
  rw [h0, BitVec.xor_zero, BitVec.toNat_ofInt, IntKind.wrap_u64]
  simp; omega
theorem xor_ones (x : Int) (h : 0 ≤ x ∧ x < 18446744073709551616) : bits .xor .u64 x 18446744073709551615 = 18446744073709551615 - x := by
  show IntKind.u64.wrap ((BitVec.ofInt 64 x ^^^ BitVec.ofInt 64 18446744073709551615).toNat : Int) = _
  have h1 : BitVec.ofInt 64 18446744073709551615 = BitVec.allOnes 64 := by decide
  rw [h1, BitVec.xor_allOnes, BitVec.toNat_not, BitVec.toNat_ofInt, IntKind.wrap_u64]
  simp; omega

theorem zig_bits (v : Int) (h : -9223372036854775808 ≤ v ∧ v ≤ 9223372036854775807) : bits .xor .u64 (IntKind.u64.wrap (IntKind.u64.wrap v * 2)) (IntKind.u64.wrap (v / 9223372036854775808)) = zig v := by
  have e2 : IntKind.u64.wrap (IntKind.u64.wrap v * 2) = if v < 0 then 2 * v + 18446744073709551616 else 2 * v := by
    rw [IntKind.wrap_u64, IntKind.wrap_u64]; split <;> omega
  have e3 : IntKind.u64.wrap (v / 9223372036854775808) = if v < 0 then 18446744073709551615 else 0 := by
    rw [IntKind.wrap_u64]; split <;> omega
  rw [e2, e3]
  unfold zig
  by_cases h0 : v < 0
  · rw [if_pos h0, if_pos h0, if_pos h0, xor_ones _ (by omega)]; omega
  · rw [if_neg h0, if_neg h0, if_neg h0, xor_zero _ (by omega)]

/-- prim.PutInt. -/
theorem putInt_any (A : Option Addr) (c : Nat) (l : List UInt8) (v : Int) (w : World) (hr : Rd w w.heap.size 1 A l.length (byt l)) (hm : l.length ≤ 1048576) (h : -9223372036854775808 ≤ v ∧ v ≤ 9223372036854775807) :
    Calls Try.prog 15 #[.slice A l.length c, .int .i64 v] w (RetO 5 1 (l.length + (sevens (zig v).toNat).length) (byt (l ++ sevens (zig v).toNat)) w) := by
  obtain ⟨n, hz, hn⟩ := zig_nat v h
  rw [hz, Int.toNat_natCast]
  have hbits := zig_bits v h
  rw [hz] at hbits
  have Hz := Lib.hid hz; clear hz
  go_enter Try.func15, Try.ntmps15
  go_wp2_with fail
  refine (putUint_any A c l n _ hr hm hn).mono ?_
  rintro e w1 ⟨o, rfl, hown, hb⟩
  go_wp2
  go_ret
  exact RetO.mk' hown hb

theorem strCells_byt (s : ByteArray) : Lib.strCells s = byt s.data.toList := rfl

/-- A text with its length. -/
def textB (s : ByteArray) : List UInt8 := sevens s.size ++ s.data.toList
theorem textB_len (s : ByteArray) : (textB s).length = (sevens s.size).length + s.size := by simp [textB]

set_option maxRecDepth 100000 in
/-- prim.PutText. -/
theorem putText_any (A : Option Addr) (c : Nat) (l : List UInt8) (s : ByteArray) (w : World) (hr : Rd w w.heap.size 1 A l.length (byt l)) (hm : l.length ≤ 1048000) (hs : s.size ≤ 1048000) :
    Calls Try.prog 17 #[.slice A l.length c, .string s] w (RetO 5 1 (l.length + (textB s).length) (byt (l ++ textB s)) w) := by
  obtain ⟨i0, hi, hz0, hz1, hz2⟩ := info_parts Try.info5
  have hlen := sevens_len s.size
  go_enter Try.func17, Try.ntmps17
  go_wp2_with fail
  refine (putUint_any A c l s.size _ hr (by omega) (by omega)).mono ?_
  rintro e w1 ⟨o, rfl, hown, hb⟩
  go_wp2_with (at_builtin; refine Lib.wpList_append_own_string _ rfl _ _ 22 9 rfl w.heap.size 5 i0 Try.underlying22 Try.underlying9 hi hz0 hz1 hz2 _ _ _ rfl hown s rfl (by simp only [maxLen]; omega) (by omega) hb.size ?_)
  intro v' w2 hown' hg' _
  have hb2 := own_base hown hb hg' hb.size
  have e1 : l.length + (sevens s.size).length + s.size = l.length + (textB s).length := by rw [textB_len]; omega
  have e2 : byt (l ++ sevens s.size) ++ Lib.strCells s = byt (l ++ textB s) := by rw [strCells_byt, ← byt_app]; simp [textB]
  rw [e1, e2] at hown'
  clear e1 e2 hown
  go_wp2
  go_ret
  exact RetO.mk' hown' hb2
set_option maxRecDepth 100000 in
/-- lacunaref01.Text. -/
theorem textR_any (s : ByteArray) (w : World) (hs : s.size ≤ 1048000) :
    Calls Try.prog 18 #[.string s] w (RetO 5 1 (textB s).length (byt (textB s)) w) := by
  obtain ⟨i0, hi, hz0, hz1, hz2⟩ := info_parts Try.info5
  have hlen := sevens_len s.size
  go_enter Try.func18, Try.ntmps18
  go_wp2_with fail
  refine (uintR_any s.size _ (by omega)).mono ?_
  rintro e w1 ⟨o, rfl, hown, hb⟩
  obtain ⟨c, w2, hrun, h1, h2, hg, hR⟩ := run_bytes_new (P := Try.prog) w1 9 22 5 s Try.underlying9 Try.underlying22 Try.underlying5 (by simp only [maxLen]; omega)
  have hown2 := hown.kept hg (by cases h : o.ownBlock <;> simp)
  have hb2 := hb.grown hg hb.size (fun k hk => by cases hk)
  have hRc := Lib.hid hR.cells
  clear hown
  go_wp2_with (at_builtin; refine wpList_append_own _ rfl _ _ 22 rfl w.heap.size 5 i0 (.int .u8 0) 1 1 Try.underlying22 hi hz0 hz1 hz2 rfl (by decide) _ _ _ rfl hown2 ⟨w1.heap.size, 0, none⟩ s.size c (byt s.data.toList) rfl (byt_str_len s) hRc.out (byt_one _) (by simp only [maxLen]; omega) (by omega) hb2.size ?_)
  intro v' w3 hown' hg' _
  have hb3 := own_base hown2 hb2 hg' hb2.size
  rw [← byt_app, ← textB_len, ← textB] at hown'
  go_wp2
  go_ret
  exact RetO.mk' hown' hb3
end Go.Proofs.Ytcblmcpmdpnlbaa
