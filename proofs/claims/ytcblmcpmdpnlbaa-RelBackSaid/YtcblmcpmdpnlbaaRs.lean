/-
  Layer 1, the reader, as plain Lean: what is left and the error with which it gave up; the answers. No program is named here.
-/
import Derived.Test.YtcblmcpmdpnlbaaPr2
namespace Go.Proofs.Ytcblmcpmdpnlbaa
open Go.RowKit

/-- The number at the head of some bytes: an error's number, the number, how many bytes it has. k bytes came ahead of them, which are worth acc. -/
def dgs : Nat → Nat → List UInt8 → Int × Nat × Nat
  | _, _, [] => (1, 0, 0)
  | k, acc, x :: r =>
    if k = 9 ∧ 1 < x.toNat then (5, 0, 0)
    else if 128 ≤ x.toNat then dgs (k + 1) (acc + 128 ^ k * (x.toNat % 128)) r
    else if 0 < k ∧ x.toNat = 0 then (5, 0, 0)
    else (0, acc + 128 ^ k * x.toNat, k + 1)

/-- Sevens, as a number. -/
def hv : List UInt8 → Nat
  | [] => 0
  | x :: r => x.toNat % 128 + 128 * hv r
theorem hv_lt (l : List UInt8) : hv l < 128 ^ l.length := by
  induction l with
  | nil => simp [hv]
  | cons x r ih => simp only [hv, List.length_cons, Nat.pow_succ]; omega
theorem hv_snoc (l : List UInt8) (x : UInt8) : hv (l ++ [x]) = hv l + 128 ^ l.length * (x.toNat % 128) := by
  induction l with
  | nil => simp [hv]
  | cons y r ih =>
    simp only [List.cons_append, hv, ih, List.length_cons, Nat.pow_succ]
    rw [Nat.mul_add, ← Nat.mul_assoc, Nat.mul_comm 128 (128 ^ r.length)]; omega

/-- What a number's head can be: the error is 0, 1 or 5; where it is 0 the number fits a word. -/
theorem dgs_range (k acc : Nat) (l : List UInt8) (hk : k ≤ 9) (ha : acc < 128 ^ k) : ((dgs k acc l).1 = 0 ∨ (dgs k acc l).1 = 1 ∨ (dgs k acc l).1 = 5) ∧ (dgs k acc l).2.1 < 18446744073709551616 ∧ (dgs k acc l).2.2 ≤ 10 := by
  induction l generalizing k acc with
  | nil => simp [dgs]
  | cons x r ih =>
    unfold dgs
    split
    · simp
    · rename_i h9
      split
      · rename_i h
        refine ih (k + 1) _ (by omega) ?_
        rw [Nat.pow_succ]
        have h1 : 128 ^ k * (x.toNat % 128) ≤ 128 ^ k * 127 := Nat.mul_le_mul_left _ (by omega)
        omega
      · split
        · simp
        · refine ⟨.inl rfl, ?_, by simp; omega⟩
          simp only
          rcases (show k = 9 ∨ k ≤ 8 by omega) with rfl | h8
          · have : x.toNat ≤ 1 := by omega
            have h1 : 128 ^ 9 * x.toNat ≤ 128 ^ 9 * 1 := Nat.mul_le_mul_left _ this
            omega
          · have h0 : 128 ^ k ≤ 128 ^ 8 := Nat.pow_le_pow_right (by decide) h8
            have h1 : 128 ^ k * x.toNat ≤ 128 ^ 8 * 127 := Nat.mul_le_mul h0 (by omega)
            omega
theorem dgs_len (k acc : Nat) (l : List UInt8) (h : (dgs k acc l).1 = 0) : (dgs k acc l).2.2 ≤ k + l.length := by
  induction l generalizing k acc with
  | nil => simp [dgs] at h
  | cons x r ih =>
    unfold dgs at h ⊢
    split at h
    · simp at h
    · rename_i h9
      rw [if_neg h9]
      split at h
      · rename_i h1
        rw [if_pos h1]
        have := ih _ _ h
        simp; omega
      · rename_i h1
        rw [if_neg h1]
        split at h
        · simp at h
        · rename_i h2
          rw [if_neg h2]; simp

/-- A reader: what is left, and the error with which it gave up. -/
structure Rdr where
  rest : List UInt8
  bad : Int
def Rdr.giveUp (r : Rdr) (e : Int) : Rdr := if r.bad = 0 then ⟨[], e⟩ else r
def Rdr.uintE (r : Rdr) (limit : Nat) : Int := if (dgs 0 0 r.rest).1 = 0 ∧ limit < (dgs 0 0 r.rest).2.1 then 4 else (dgs 0 0 r.rest).1
def Rdr.uint (r : Rdr) (limit : Nat) : Nat × Rdr := if r.uintE limit = 0 then ((dgs 0 0 r.rest).2.1, ⟨r.rest.drop (dgs 0 0 r.rest).2.2, r.bad⟩) else (0, r.giveUp (r.uintE limit))
def Rdr.take (r : Rdr) (n : Nat) : List UInt8 × Rdr := if r.rest.length < n then ([], r.giveUp 1) else (r.rest.take n, ⟨r.rest.drop n, r.bad⟩)
/-- Back from zigzag. -/
def zag (v : Nat) : Int := if v % 2 = 1 then -((v / 2 : Nat) : Int) - 1 else ((v / 2 : Nat) : Int)
def Rdr.int (r : Rdr) : Int × Rdr := (zag (r.uint 18446744073709551615).1, (r.uint 18446744073709551615).2)
def Rdr.text (r : Rdr) (limit : Int) : List UInt8 × Rdr := (r.uint (max 0 limit).toNat).2.take (r.uint (max 0 limit).toNat).1
def Rdr.byte (r : Rdr) : Nat × Rdr := (((r.take 1).1.headD 0).toNat, (r.take 1).2)
def le8 : List UInt8 → Nat
  | [] => 0
  | x :: r => x.toNat + 256 * le8 r
def Rdr.word (r : Rdr) : Nat × Rdr := (le8 (r.take 8).1, (r.take 8).2)
def Rdr.fin (r : Rdr) : Int := if r.bad = 0 ∧ 0 < r.rest.length then 2 else r.bad
def Rdr.fail (r : Rdr) (e : Int) : Rdr := if e = 0 then r else r.giveUp e
/-- Who gave up has nothing left. -/
def Rdr.ok (r : Rdr) : Prop := (r.bad ≠ 0 → r.rest = []) ∧ -9223372036854775808 ≤ r.bad ∧ r.bad ≤ 9223372036854775807
theorem Rdr.ok.giveUp {r : Rdr} (h : r.ok) {e : Int} (he : -9223372036854775808 ≤ e ∧ e ≤ 9223372036854775807) : (r.giveUp e).ok := by
  unfold Rdr.giveUp; split
  · exact ⟨fun _ => rfl, he⟩
  · exact h
theorem Rdr.uintE_range (r : Rdr) (limit : Nat) : 0 ≤ r.uintE limit ∧ r.uintE limit ≤ 5 := by
  have := (dgs_range 0 0 r.rest (by omega) (by simp)).1
  unfold Rdr.uintE; split <;> omega
theorem Rdr.ok.uint {r : Rdr} (h : r.ok) (limit : Nat) : (r.uint limit).2.ok := by
  unfold Rdr.uint; split
  · exact ⟨fun hb => by rw [h.1 hb]; simp, h.2⟩
  · exact h.giveUp (by have := r.uintE_range limit; omega)
theorem Rdr.ok.take {r : Rdr} (h : r.ok) (n : Nat) : (r.take n).2.ok := by
  unfold Rdr.take; split
  · exact h.giveUp (by omega)
  · exact ⟨fun hb => by rw [h.1 hb]; simp, h.2⟩
theorem Rdr.ok.text {r : Rdr} (h : r.ok) (limit : Int) : (r.text limit).2.ok := (h.uint _).take _
theorem Rdr.uint_lt (r : Rdr) (limit : Nat) : (r.uint limit).1 < 18446744073709551616 := by
  unfold Rdr.uint; split
  · exact (dgs_range 0 0 r.rest (by omega) (by simp)).2.1
  · simp
theorem Rdr.uint_rest (r : Rdr) (limit : Nat) : (r.uint limit).2.rest.length ≤ r.rest.length := by
  unfold Rdr.uint Rdr.giveUp; split
  · simp
  · split <;> simp
theorem Rdr.take_rest (r : Rdr) (n : Nat) : (r.take n).2.rest.length ≤ r.rest.length := by
  unfold Rdr.take Rdr.giveUp; split
  · split <;> simp
  · simp
theorem Rdr.take_len (r : Rdr) (n : Nat) : (r.take n).1.length ≤ n := by
  unfold Rdr.take; split <;> simp; omega
end Go.Proofs.Ytcblmcpmdpnlbaa
