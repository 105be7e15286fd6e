/-
  Layer 1, the reference's reader as plain Lean: how many bytes lead a number, and what the digits then are.
-/
import Derived.Test.YtcblmcpmdpnlbaaSe
import Derived.Test.YtcblmcpmdpnlbaaRq
namespace Go.Proofs.Ytcblmcpmdpnlbaa
open Go.RowKit

theorem hv_take_succ (q : List UInt8) (n : Nat) (h : n < q.length) : hv (q.take (n + 1)) = hv (q.take n) + 128 ^ n * (q[n].toNat % 128) := by
  rw [List.take_add_one, List.getElem?_eq_getElem h]
  simp only [Option.toList_some]
  rw [hv_snoc, List.length_take, Nat.min_eq_left (Nat.le_of_lt h)]
/-- n bytes that go on. -/
theorem dgs_run (q : List UInt8) : ∀ n, n ≤ 9 → n ≤ q.length → (∀ j (h : j < q.length), j < n → 128 ≤ q[j].toNat) → dgs 0 0 q = dgs n (hv (q.take n)) (q.drop n)
  | 0, _, _, _ => by simp [hv]
  | n + 1, h9, hn, ha => by
    rw [dgs_run q n (by omega) (by omega) (fun j h hj => ha j h (by omega)), List.drop_eq_getElem_cons (by omega), dgs_cons, if_neg (by omega), if_pos (ha n (by omega) (by omega)), hv_take_succ q n (by omega)]
theorem dgs_ten {q : List UInt8} (h : 10 ≤ q.length) (ha : ∀ j (h : j < q.length), j < 10 → 128 ≤ q[j].toNat) : dgs 0 0 q = (5, 0, 0) := by
  have h9 := ha 9 (by omega) (by omega)
  rw [dgs_run q 9 (by omega) (by omega) (fun j h hj => ha j h (by omega)), List.drop_eq_getElem_cons (by omega), dgs_cons, if_pos ⟨rfl, by omega⟩]
theorem dgs_nine {q : List UInt8} (h : 9 < q.length) (ha : ∀ j (h : j < q.length), j < 9 → 128 ≤ q[j].toNat) (h9 : 1 < q[9].toNat) : dgs 0 0 q = (5, 0, 0) := by
  rw [dgs_run q 9 (by omega) (by omega) (fun j h hj => ha j h (by omega)), List.drop_eq_getElem_cons (by omega), dgs_cons, if_pos ⟨rfl, h9⟩]
theorem dgs_end {q : List UInt8} (h : q.length ≤ 9) (ha : ∀ j (h : j < q.length), 128 ≤ q[j].toNat) : dgs 0 0 q = (1, 0, 0) := by
  rw [dgs_run q q.length h (Nat.le_refl _) (fun j h _ => ha j h), List.drop_length]
  rfl
theorem dgs_zero {q : List UInt8} {n : Nat} (hn : n ≤ 9) (h0 : 0 < n) (h : n < q.length) (ha : ∀ j (h : j < q.length), j < n → 128 ≤ q[j].toNat) (hz : q[n].toNat = 0) : dgs 0 0 q = (5, 0, 0) := by
  rw [dgs_run q n hn (by omega) ha, List.drop_eq_getElem_cons h, dgs_cons, if_neg (by omega), if_neg (by omega), if_pos ⟨h0, hz⟩]
theorem dgs_fine {q : List UInt8} {n : Nat} (hn : n ≤ 9) (h : n < q.length) (ha : ∀ j (h : j < q.length), j < n → 128 ≤ q[j].toNat) (hl : q[n].toNat < 128) (h9 : n = 9 → q[n].toNat ≤ 1) (hz : 0 < n → q[n].toNat ≠ 0) : dgs 0 0 q = (0, hv (q.take (n + 1)), n + 1) := by
  rw [dgs_run q n hn (by omega) ha, List.drop_eq_getElem_cons h, dgs_cons, if_neg (by omega), if_neg (by omega), if_neg (fun e => hz e.1 e.2), hv_take_succ q n h, Nat.mod_eq_of_lt hl]
/-- The digits from i on, up to n. -/
def seg (q : List UInt8) (i n : Nat) : Nat := hv ((q.take (n + 1)).drop i)
theorem seg_end (q : List UInt8) (n : Nat) : seg q (n + 1) n = 0 := by
  unfold seg; rw [List.drop_eq_nil_of_le (by simp; omega)]; rfl
theorem seg_zero (q : List UInt8) (n : Nat) : seg q 0 n = hv (q.take (n + 1)) := rfl
theorem seg_step (q : List UInt8) (i n : Nat) (hi : i ≤ n) (hn : n < q.length) : seg q i n = q[i].toNat % 128 + 128 * seg q (i + 1) n := by
  unfold seg
  rw [List.drop_eq_getElem_cons (by simp; omega)]
  simp only [hv, List.getElem_take]
theorem seg_le (q : List UInt8) (n : Nat) (hn : n < q.length) : ∀ i, i ≤ n + 1 → seg q i n ≤ seg q 0 n
  | 0, _ => Nat.le_refl _
  | i + 1, h => Nat.le_trans (by rw [seg_step q i n (by omega) hn]; omega) (seg_le q n hn i (by omega))
end Go.Proofs.Ytcblmcpmdpnlbaa
