/-
  Layer 8: the reference's named by its contract.
-/
import Derived.Test.YtcblmcpmdpnlbaaRe2
namespace Go.Proofs.Ytcblmcpmdpnlbaa
open Go.RowKit

set_option maxRecDepth 100000 in
set_option maxHeartbeats 1600000 in
/-- lacunaref08.named. -/
theorem namedR_any (s : ByteArray) (w : World) : Calls Try.prog 68 #[.string s] w fun e w' => e = .returned (.bool (namedB s)) ∧ w = w' := by
  by_cases h1 : 1 ≤ s.size
  · by_cases h2 : s.size ≤ 31
    · have e1 : decide ((s.size : Int) < 1) = false := by simp; omega
      have e2 : decide ((31 : Int) < (s.size : Int)) = false := by simp; omega
      have hsl := str_len s
      have Hsl := Lib.hid hsl; clear hsl
      go_enter Try.func68, Try.ntmps68
      go_wp2
      go_loop [3] (fun k => ∃ j : Nat, k = .int .i64 (j : Int) ∧ j ≤ s.size ∧ Hid (allFrom j (s.data.toList.drop j) = allFrom 0 s.data.toList)) (fun k => s.size - (intOf k).toNat)
      case atStart => exact ⟨0, rfl, by omega, rfl⟩
      case round =>
        obtain ⟨j, rfl, hj, Ho⟩ := hrel
        by_cases hlt : j < s.size
        · have hlt' : j < s.data.toList.length := by rw [Hsl.out]; exact hlt
          have ho := Ho.out
          rw [List.drop_eq_getElem_cons hlt', allFrom_cons] at ho
          have hget : s.data.toList[j] = s[j] := rfl
          rw [hget] at ho
          have hx8 : s[j].toNat < 256 := s[j].toNat_lt
          clear Ho hget
          by_cases hfine : (97 ≤ s[j].toNat ∧ s[j].toNat ≤ 122) ∨ (j ≠ 0 ∧ ((48 ≤ s[j].toNat ∧ s[j].toNat ≤ 57) ∨ s[j].toNat = 95))
          · rw [fine_true hfine, Bool.true_and] at ho
            have Ho := Lib.hid ho; clear ho
            rcases Nat.eq_zero_or_pos j with rfl | hjp
            · have hlet : 97 ≤ s[0].toNat ∧ s[0].toNat ≤ 122 := by omega
              have Hf := Lib.hid hlet; clear hlet hfine
              go_wp2
              all_goals first
                | exact ⟨⟨0 + 1, by go_num, by omega, Ho⟩, by simp [intOf]; omega⟩
                | (exfalso; have := Hf.out; omega)
                | (exfalso; have := Hf.out; simp at *; omega)
            have d0 : decide (0 < j) = true := by simp; omega
            have Hf := Lib.hid hfine; clear hfine
            go_wp2
            all_goals first
              | exact ⟨⟨j + 1, by go_num, by omega, Ho⟩, by simp [intOf]; omega⟩
              | (exfalso; have := Hf.out; omega)
              | (exfalso; have := Hf.out; simp at *; omega)
          · rw [fine_false hfine, Bool.false_and] at ho
            have Ho := Lib.hid ho; clear ho
            rcases Nat.eq_zero_or_pos j with rfl | hjp
            · have hlet : ¬(97 ≤ s[0].toNat ∧ s[0].toNat ≤ 122) := fun h => hfine (.inl h)
              have Hf := Lib.hid hlet; clear hlet hfine
              go_wp2
              all_goals first
                | (go_ret; exact ⟨ret_b (named_no Ho.out), rfl⟩)
                | (exfalso; have := Hf.out; omega)
                | (exfalso; have := Hf.out; simp at *; omega)
            have d0 : decide (0 < j) = true := by simp; omega
            have Hf := Lib.hid hfine; clear hfine
            go_wp2
            all_goals first
              | (go_ret; exact ⟨ret_b (named_no Ho.out), rfl⟩)
              | (exfalso; have := Hf.out; omega)
              | (exfalso; have := Hf.out; simp at *; omega)
        · have ho := Ho.out
          rw [List.drop_eq_nil_of_le (by rw [Hsl.out]; omega)] at ho
          have hne := named_end ho
          have h3 : namedB s = true := by rw [hne]; simp [h1, h2]
          have Hne := Lib.hid h3; clear ho hne Ho h3
          go_wp2
          go_ret
          exact ⟨ret_b Hne.out.symm, rfl⟩
    · have e1 : decide ((s.size : Int) < 1) = false := by simp; omega
      have e2 : decide ((31 : Int) < (s.size : Int)) = true := by simp; omega
      have h3 : namedB s = false := by unfold namedB; simp [h1, h2]
      have Hne := Lib.hid h3; clear h3
      go_enter Try.func68, Try.ntmps68
      go_wp2
      go_ret
      exact ⟨ret_b Hne.out.symm, rfl⟩
  · have e1 : decide ((s.size : Int) < 1) = true := by simp; omega
    have h3 : namedB s = false := by unfold namedB; simp [h1]
    have Hne := Lib.hid h3; clear h3
    go_enter Try.func68, Try.ntmps68
    go_wp2
    go_ret
    exact ⟨ret_b Hne.out.symm, rfl⟩
end Go.Proofs.Ytcblmcpmdpnlbaa
