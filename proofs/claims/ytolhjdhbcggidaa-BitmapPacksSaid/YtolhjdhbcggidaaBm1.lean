import Derived.Test.YtolhjdhbcggidaaProg
import Derived.Test.YtolhjdhbcggidaaKit
namespace Go.Proofs.Ytolhjdhbcggidaa
open Go.RowKit

def okN (n : Int) : Bool := decide (0 ≤ n ∧ n ≤ 16)
def szN (n : Int) : Int := if 0 ≤ n ∧ n ≤ 16 then (n + 7) / 8 else 0
theorem counted_any (n : Int) (w : World) :
    Calls Try.prog 30 #[.int .i64 n] w fun e w' => e = .returned (.bool (okN n)) ∧ w = w' := by
  by_cases h0 : 0 ≤ n <;> by_cases h1 : n ≤ 16
  all_goals
    go_enter Try.func30, Try.ntmps30
    go_wp2
    go_ret
    exact ⟨by simp [okN, h0, h1], rfl⟩
theorem size_any (n : Int) (w : World) :
    Calls Try.prog 14 #[.int .i64 n] w fun e w' => e = .returned (.int .i64 (szN n)) ∧ w = w' := by
  by_cases h : 0 ≤ n ∧ n ≤ 16
  · have hk : okN n = true := by simp [okN, h]
    have hs : (n + 7) / 8 = szN n := by simp [szN, h]
    have Hs := Lib.hid hs; clear hs
    obtain ⟨h0, h1⟩ := h
    go_enter Try.func14, Try.ntmps14
    go_wp2_with (go_at_call 30; refine (counted_any _ _).mono ?_; rintro e w' ⟨rfl, rfl⟩)
    go_ret
    exact ⟨ret_i (by rw [← Hs.out]; omega), rfl⟩
  · have hk : okN n = false := by simp [okN]; omega
    have hs : szN n = 0 := by simp [szN, h]
    have Hs := Lib.hid hs; clear hs
    go_enter Try.func14, Try.ntmps14
    go_wp2_with (go_at_call 30; refine (counted_any _ _).mono ?_; rintro e w' ⟨rfl, rfl⟩)
    go_ret
    exact ⟨ret_i (by rw [Hs.out]), rfl⟩
theorem sizeR_any (n : Int) (w : World) :
    Calls Try.prog 15 #[.int .i64 n] w fun e w' => e = .returned (.int .i64 (szN n)) ∧ w = w' := by
  have hd : (n < 0 ∨ 16 < n) ∨ n = 0 ∨ (0 < n ∧ n ≤ 8) ∨ (8 < n ∧ n ≤ 16) := by omega
  by_cases h0 : n < 0
  · go_enter Try.func15, Try.ntmps15
    go_wp2
    go_ret
    exact ⟨ret_i (by simp [szN]; omega), rfl⟩
  by_cases h1 : 16 < n
  · go_enter Try.func15, Try.ntmps15
    go_wp2
    go_ret
    exact ⟨ret_i (by simp [szN]; omega), rfl⟩
  have hs : szN n = (n + 7) / 8 := by simp [szN]; omega
  have Hs := Lib.hid hs; clear hs hd
  by_cases h2 : n = 0
  · subst h2
    go_enter Try.func15, Try.ntmps15
    go_wp2
    go_ret
    exact ⟨ret_i (by rw [Hs.out]; rfl), rfl⟩
  have h3 : (n == 0) = false := by simpa using h2
  by_cases h4 : n ≤ 8
  all_goals
    go_enter Try.func15, Try.ntmps15
    go_wp2
    go_ret
    exact ⟨ret_i (by rw [Hs.out]; omega), rfl⟩

theorem Try.info4 : (Try.prog.info? 4).map (fun i => (i.zero, i.size, i.bytes)) = some (some (.bool false), 1, 1) := by kernel_rfl
theorem Try.info5 : (Try.prog.info? 5).map (fun i => (i.zero, i.size, i.bytes)) = some (some (.int .u8 0), 1, 1) := by kernel_rfl

def bitsL (n v : Nat) : List Bool := (List.range n).map fun k => decide (v / 2 ^ k % 2 = 1)
def valB : List UInt8 → Nat | [] => 0 | b :: r => b.toNat + 256 * valB r
def valN : List Bool → Nat | [] => 0 | b :: r => b.toNat + 2 * valN r
def unE (b : List UInt8) (n : Int) : Int := if ¬ (0 ≤ n ∧ n ≤ 16) then 17 else if (b.length : Int) < szN n then 1 else if szN n < b.length then 2 else if 0 < valB b / 2 ^ n.toNat then 3 else 0
def unL (b : List UInt8) (n : Int) : List Bool := if unE b n = 0 then bitsL n.toNat (valB b) else []

theorem count_any (A : Option Addr) (c : Nat) (l : List Bool) (w : World) (hr : Rd w w.heap.size 1 A l.length (bls l)) (hl : l.length ≤ 60) :
    Calls Try.prog 19 #[.slice A l.length c] w fun e w' => e = .returned (.int .i64 (l.count true)) ∧ w = w' := by
  go_enter Try.func19, Try.ntmps19
  go_wp2
  go_loop [3, 8, 5] (fun n k _ => ∃ j : Nat, j ≤ l.length ∧ k = .int .i64 j ∧ n = .int .i64 ((l.take j).count true)) (fun _ k _ => l.length - (intOf k).toNat)
  case atStart => exact ⟨0, by omega, rfl, rfl⟩
  case round =>
    obtain ⟨j, hj, rfl, rfl⟩ := hrel
    have hcl : (l.take j).count true ≤ j := Nat.le_trans List.count_le_length (by simp; omega)
    by_cases hlt : j < l.length
    · have hts : (l.take (j + 1)).count true = (l.take j).count true + if l[j] = true then 1 else 0 := by
        rw [List.take_succ_eq_append_getElem hlt, List.count_append]; simp [List.count_singleton]
      have Hs := Lib.hid hts; clear hts
      obtain ⟨b, off, rfl, hb, hc⟩ := hr.at_ hlt
      have hcj := hc j hlt
      clear hc
      rcases hx : l[j] with _ | _
      all_goals
        rw [hx] at hcj
        have Hx := Lib.hid hx; clear hx
        go_wp2
        go_round
        case rel => exact ⟨j + 1, by omega, by go_num, by rw [Hs.out, Hx.out]; simp⟩
        case measure => simp [intOf]; omega
    · go_wp2
      go_ret
      exact ⟨ret_i (by rw [List.take_of_length_le (by omega)]), rfl⟩
end Go.Proofs.Ytolhjdhbcggidaa
