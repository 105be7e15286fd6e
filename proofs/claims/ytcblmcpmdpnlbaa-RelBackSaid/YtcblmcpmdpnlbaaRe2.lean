/-
  Layer 8: named by its contract.
-/
import Derived.Test.YtcblmcpmdpnlbaaRe1
namespace Go.Proofs.Ytcblmcpmdpnlbaa
open Go.RowKit

/-- May x stand in a name at place i? -/
def fineAt (i x : Nat) : Bool := (decide (97 ≤ x) && decide (x ≤ 122)) || (decide (i ≠ 0) && ((decide (48 ≤ x) && decide (x ≤ 57)) || decide (x = 95)))
def allFrom : Nat → List UInt8 → Bool
  | _, [] => true
  | k, x :: r => fineAt k x.toNat && allFrom (k + 1) r
def namedB (s : ByteArray) : Bool := allFrom 0 s.data.toList && (decide (1 ≤ s.size) && decide (s.size ≤ 31))
theorem allFrom_cons (k : Nat) (x : UInt8) (r : List UInt8) : allFrom k (x :: r) = (fineAt k x.toNat && allFrom (k + 1) r) := rfl

theorem fine_true {i x : Nat} (h : (97 ≤ x ∧ x ≤ 122) ∨ (i ≠ 0 ∧ ((48 ≤ x ∧ x ≤ 57) ∨ x = 95))) : fineAt i x = true := by
  unfold fineAt; simp; omega
theorem fine_false {i x : Nat} (h : ¬((97 ≤ x ∧ x ≤ 122) ∨ (i ≠ 0 ∧ ((48 ≤ x ∧ x ≤ 57) ∨ x = 95)))) : fineAt i x = false := by
  rw [← Bool.not_eq_true]
  intro h1
  apply h
  unfold fineAt at h1; simp at h1; omega
theorem named_no {s : ByteArray} (h : false = allFrom 0 s.data.toList) : false = namedB s := by
  unfold namedB; rw [← h]; rfl
theorem named_end {s : ByteArray} (h : true = allFrom 0 s.data.toList) : namedB s = (decide (1 ≤ s.size) && decide (s.size ≤ 31)) := by
  unfold namedB; rw [← h]; rfl

set_option maxRecDepth 100000 in
set_option maxHeartbeats 1600000 in
/-- rel.named. -/
theorem named_any (s : ByteArray) (w : World) (hs : s.size ≤ maxLen) : Calls Try.prog 61 #[.string s] w fun e w' => e = .returned (.bool (namedB s)) ∧ w = w' := by
  have hsl := str_len s
  have hmax : s.size ≤ 9223372036854775807 := hs
  have Hsl := Lib.hid hsl; clear hsl
  go_enter Try.func61, Try.ntmps61
  go_wp2
  go_loop [8] (fun k => ∃ j : Nat, k = .int .i64 (j : Int) ∧ j ≤ s.size ∧ Hid (allFrom j (s.data.toList.drop j) = allFrom 0 s.data.toList)) (fun k => s.size - (intOf k).toNat)
  case atStart => exact ⟨0, rfl, by omega, rfl⟩
  case round =>
    obtain ⟨j, rfl, hj, Ho⟩ := hrel
    by_cases hlt : j < s.size
    · have hlt' : j < s.data.toList.length := by rw [Hsl.out]; exact hlt
      have ho := Ho.out
      rw [List.drop_eq_getElem_cons hlt', allFrom_cons] at ho
      have hget : s.data.toList[j] = s[j] := rfl
      rw [hget] at ho
      have hx8 : s[j].toNat < 256 := s[j].toNat_lt
      clear Ho hget
      by_cases hfine : (97 ≤ s[j].toNat ∧ s[j].toNat ≤ 122) ∨ (j ≠ 0 ∧ ((48 ≤ s[j].toNat ∧ s[j].toNat ≤ 57) ∨ s[j].toNat = 95))
      · rw [fine_true hfine, Bool.true_and] at ho
        have Ho := Lib.hid ho; clear ho
        rcases Nat.eq_zero_or_pos j with rfl | hjp
        · have hlet : 97 ≤ s[0].toNat ∧ s[0].toNat ≤ 122 := by omega
          have Hf := Lib.hid hlet; clear hlet hfine
          go_wp2
          all_goals first
            | exact ⟨⟨0 + 1, by go_num, by omega, Ho⟩, by simp [intOf]; omega⟩
            | (exfalso; have := Hf.out; omega)
            | (exfalso; have := Hf.out; simp at *; omega)
        have d0 : ((j : Int) == 0) = false := by simp; omega
        have Hf := Lib.hid hfine; clear hfine
        go_wp2
        all_goals first
          | exact ⟨⟨j + 1, by go_num, by omega, Ho⟩, by simp [intOf]; omega⟩
          | (exfalso; have := Hf.out; omega)
          | (exfalso; have := Hf.out; simp at *; omega)
      · rw [fine_false hfine, Bool.false_and] at ho
        have Ho := Lib.hid ho; clear ho
        rcases Nat.eq_zero_or_pos j with rfl | hjp
        · have hlet : ¬(97 ≤ s[0].toNat ∧ s[0].toNat ≤ 122) := fun h => hfine (.inl h)
          have Hf := Lib.hid hlet; clear hlet hfine
          go_wp2
          all_goals first
            | (go_ret; exact ⟨ret_b (named_no Ho.out), rfl⟩)
            | (exfalso; have := Hf.out; omega)
            | (exfalso; have := Hf.out; simp at *; omega)
        have d0 : ((j : Int) == 0) = false := by simp; omega
        have Hf := Lib.hid hfine; clear hfine
        go_wp2
        all_goals first
          | (go_ret; exact ⟨ret_b (named_no Ho.out), rfl⟩)
          | (exfalso; have := Hf.out; omega)
          | (exfalso; have := Hf.out; simp at *; omega)
    · have ho := Ho.out
      rw [List.drop_eq_nil_of_le (by rw [Hsl.out]; omega)] at ho
      have hne := named_end ho
      have Hne := Lib.hid hne; clear ho hne Ho
      have e1 : decide ((1 : Int) ≤ (s.size : Int)) = decide (1 ≤ s.size) := by by_cases h : 1 ≤ s.size <;> simp [h] <;> omega
      have e2 : decide ((s.size : Int) ≤ 31) = decide (s.size ≤ 31) := by by_cases h : s.size ≤ 31 <;> simp [h] <;> omega
      by_cases h1 : 1 ≤ s.size
      · rw [decide_eq_true h1] at e1
        by_cases h2 : s.size ≤ 31
        · rw [decide_eq_true h2] at e2
          have e3 := decide_eq_true h1
          have e4 := decide_eq_true h2
          clear h1 h2
          go_wp2
          go_ret
          exact ⟨ret_b (by rw [Hne.out, e3, e4]; rfl), rfl⟩
        · rw [decide_eq_false h2] at e2
          have e3 := decide_eq_true h1
          have e4 := decide_eq_false h2
          clear h1 h2
          go_wp2
          go_ret
          exact ⟨ret_b (by rw [Hne.out, e3, e4]; rfl), rfl⟩
      · rw [decide_eq_false h1] at e1
        have e3 := decide_eq_false h1
        clear h1
        go_wp2
        go_ret
        exact ⟨ret_b (by rw [Hne.out, e3]; rfl), rfl⟩
end Go.Proofs.Ytcblmcpmdpnlbaa
