/-
  Layer 1, sevens as plain Lean: what is put is read, no other bytes are read as it, cut ahead of its end it is too short, and two numbers have two forms.
-/
import Derived.Test.YtcblmcpmdpnlbaaRs
namespace Go.Proofs.Ytcblmcpmdpnlbaa
open Go.RowKit

theorem ofNat_toNat {m : Nat} (h : m < 256) : (UInt8.ofNat m).toNat = m := by simp; omega

/-- The bounds under which sv f m is read behind 9 - f bytes. -/
def Fits (f m : Nat) : Prop := f ≤ 9 ∧ m < 2 ^ (7 * f + 1) ∧ (f < 9 → m ≠ 0)
theorem fits_nine {v : Nat} (h : v < 18446744073709551616) : Fits 9 v := ⟨Nat.le_refl _, h, fun h => absurd h (by omega)⟩
theorem Fits.down {f m : Nat} (h : Fits (f + 1) m) (hm : 128 ≤ m) : Fits f (m / 128) := by
  obtain ⟨h1, h2, h3⟩ := h
  refine ⟨by omega, ?_, fun _ => by omega⟩
  rw [Nat.div_lt_iff_lt_mul (by decide), ← (show 2 ^ 7 = 128 by decide), ← Nat.pow_add]
  exact Nat.lt_of_lt_of_eq h2 (by congr 1)

theorem dgs_sv (f : Nat) : ∀ (m acc : Nat) (r : List UInt8), Fits f m → dgs (9 - f) acc (sv f m ++ r) = (0, acc + 128 ^ (9 - f) * m, (9 - f) + (sv f m).length) := by
  induction f with
  | zero =>
    intro m acc r h
    obtain ⟨_, h2, h3⟩ := h
    have hm : m = 1 := by have := h3 (by omega); simp at h2; omega
    subst hm
    simp [sv, dgs]
  | succ f ih =>
    intro m acc r h
    have hf := h.1
    unfold sv
    by_cases hm : 128 ≤ m
    · rw [if_pos hm]
      have hx : (UInt8.ofNat (m % 128 + 128)).toNat = m % 128 + 128 := ofNat_toNat (by omega)
      rw [List.cons_append]
      unfold dgs
      rw [hx, if_neg (by omega), if_pos (by omega), (show 9 - (f + 1) + 1 = 9 - f by omega), (show (m % 128 + 128) % 128 = m % 128 by omega), ih _ _ _ (h.down hm)]
      have e : 128 ^ (9 - f) = 128 ^ (9 - (f + 1)) * 128 := by rw [← Nat.pow_succ]; congr 1; omega
      rw [e, Nat.add_assoc, Nat.mul_assoc, ← Nat.mul_add, Nat.add_comm (m % 128), Nat.div_add_mod]
      simp; omega
    · rw [if_neg hm]
      have hx : (UInt8.ofNat m).toNat = m := ofNat_toNat (by omega)
      simp only [List.cons_append, List.nil_append]
      unfold dgs
      rw [hx, if_neg (by omega), if_neg (by omega), if_neg (by have := h.2.2; omega)]
      simp

theorem dgs_sevens {v : Nat} (h : v < 18446744073709551616) (r : List UInt8) : dgs 0 0 (sevens v ++ r) = (0, v, (sevens v).length) := by
  have := dgs_sv 9 v 0 r (fits_nine h)
  simpa [sevens] using this

theorem dgs_short (f : Nat) : ∀ (m acc j : Nat), Fits f m → j < (sv f m).length → dgs (9 - f) acc ((sv f m).take j) = (1, 0, 0) := by
  induction f with
  | zero =>
    intro m acc j _ hj
    simp [sv] at hj
    subst hj
    simp [dgs]
  | succ f ih =>
    intro m acc j h hj
    have hf := h.1
    unfold sv at hj ⊢
    by_cases hm : 128 ≤ m
    · rw [if_pos hm] at hj ⊢
      cases j with
      | zero => simp [dgs]
      | succ j =>
        have hx : (UInt8.ofNat (m % 128 + 128)).toNat = m % 128 + 128 := ofNat_toNat (by omega)
        rw [List.take_succ_cons]
        unfold dgs
        rw [hx, if_neg (by omega), if_pos (by omega), (show 9 - (f + 1) + 1 = 9 - f by omega), ih _ _ _ (h.down hm) (by simpa using hj)]
    · rw [if_neg hm] at hj ⊢
      simp at hj
      subst hj
      simp [dgs]
theorem sevens_short {v : Nat} (h : v < 18446744073709551616) {j : Nat} (hj : j < (sevens v).length) : dgs 0 0 ((sevens v).take j) = (1, 0, 0) := by
  simpa [sevens] using dgs_short 9 v 0 j (fits_nine h) hj

theorem dgs_only (l : List UInt8) : ∀ (f acc V N : Nat), f ≤ 9 → dgs (9 - f) acc l = (0, V, N) → ∃ m n, V = acc + 128 ^ (9 - f) * m ∧ N = (9 - f) + n ∧ n ≤ l.length ∧ l.take n = sv f m ∧ (f < 9 → m ≠ 0) := by
  induction l with
  | nil => intro f acc V N _ h; simp [dgs] at h
  | cons x r ih =>
    intro f acc V N hf h
    unfold dgs at h
    split at h
    · simp at h
    · rename_i h9
      split at h
      · rename_i h1
        cases f with
        | zero => exact absurd h9 (by simp; omega)
        | succ f =>
          rw [(show 9 - (f + 1) + 1 = 9 - f by omega)] at h
          obtain ⟨m, n, hV, hN, hn, ht, hm⟩ := ih f _ _ _ (by omega) h
          have hm' := hm (by omega)
          have hx := x.toNat_lt
          refine ⟨x.toNat % 128 + 128 * m, n + 1, ?_, by omega, by simp; omega, ?_, fun _ => by omega⟩
          · rw [hV]
            have e : 128 ^ (9 - f) = 128 ^ (9 - (f + 1)) * 128 := by rw [← Nat.pow_succ]; congr 1; omega
            rw [e, Nat.mul_add, Nat.mul_assoc, Nat.add_assoc]
          · unfold sv
            rw [if_pos (by omega), List.take_succ_cons, (show (x.toNat % 128 + 128 * m) / 128 = m by omega), ht]
            congr 1
            apply UInt8.toNat_inj.1
            rw [ofNat_toNat (by omega)]; omega
      · rename_i h1
        split at h
        · simp at h
        · rename_i h2
          simp only [Prod.mk.injEq, true_and] at h
          refine ⟨x.toNat, 1, h.1.symm, by omega, by simp, ?_, fun h => by omega⟩
          have hx : UInt8.ofNat x.toNat = x := by apply UInt8.toNat_inj.1; rw [ofNat_toNat x.toNat_lt]
          cases f with
          | zero => simp [sv, hx]
          | succ f => unfold sv; rw [if_neg (by omega)]; simp [hx]
theorem sevens_only {l : List UInt8} {V N : Nat} (h : dgs 0 0 l = (0, V, N)) : N ≤ l.length ∧ l.take N = sevens V := by
  obtain ⟨m, n, hV, hN, hn, ht, _⟩ := dgs_only l 9 0 V N (by omega) (by simpa using h)
  simp at hV hN
  subst hV; subst hN
  exact ⟨hn, ht⟩

theorem sevens_inj {a b : Nat} (ha : a < 18446744073709551616) (hb : b < 18446744073709551616) (h : sevens a = sevens b) : a = b := by
  have h1 := dgs_sevens ha []
  have h2 := dgs_sevens hb []
  rw [h, h2] at h1
  simp at h1
  exact h1.symm
theorem sv_mono (f : Nat) : ∀ a b : Nat, a ≤ b → (sv f a).length ≤ (sv f b).length := by
  induction f with
  | zero => intro a b _; simp [sv]
  | succ f ih =>
    intro a b h
    unfold sv
    by_cases h1 : 128 ≤ a
    · rw [if_pos h1, if_pos (by omega)]
      have := ih (a / 128) (b / 128) (Nat.div_le_div_right h)
      simp; omega
    · rw [if_neg h1]
      split <;> simp
theorem sevens_mono {a b : Nat} (h : a ≤ b) : (sevens a).length ≤ (sevens b).length := sv_mono 9 a b h
theorem sevens_pos (v : Nat) : 0 < (sevens v).length := by
  unfold sevens sv; split <;> simp

theorem zig_zag (v : Int) (h : -9223372036854775808 ≤ v ∧ v ≤ 9223372036854775807) : zag (zig v).toNat = v := by
  unfold zag zig
  split <;> split <;> omega
theorem zig_inj {a b : Int} (ha : -9223372036854775808 ≤ a ∧ a ≤ 9223372036854775807) (hb : -9223372036854775808 ≤ b ∧ b ≤ 9223372036854775807) (h : (zig a).toNat = (zig b).toNat) : a = b := by
  rw [← zig_zag a ha, ← zig_zag b hb, h]
theorem textB_inj {s t : ByteArray} (hs : s.size < 18446744073709551616) (ht : t.size < 18446744073709551616) (h : textB s = textB t) : s = t := by
  unfold textB at h
  have h1 := dgs_sevens hs s.data.toList
  rw [h, dgs_sevens ht] at h1
  simp at h1
  rw [h1.1] at h
  have h2 := List.append_cancel_left h
  exact ByteArray.ext (Array.toList_inj.1 h2)
end Go.Proofs.Ytcblmcpmdpnlbaa
