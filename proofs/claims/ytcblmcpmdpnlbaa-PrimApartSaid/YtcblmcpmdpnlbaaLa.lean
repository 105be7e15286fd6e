/-
  Layer 1: PrimApart, the walk.
-/
import Derived.Test.YtcblmcpmdpnlbaaSf
import Derived.Test.YtcblmcpmdpnlbaaLp
namespace Go.Proofs.Ytcblmcpmdpnlbaa
open Go.RowKit Mono
attribute [local go_sem] pureAt pureUpon

theorem beq_false_of {a b : ByteArray} (h : a ≠ b) : (a.toList == b.toList) = false := by
  rw [ByteArray.toList_eq, ByteArray.toList_eq]
  exact beq_false_of_ne (fun e => h (ByteArray.ext (Array.toList_inj.1 e)))
def apA (s0 s1 : ByteArray) : Nat → Ans
  | 2 => .rd (textB s0)
  | 3 => .val (.string ⟨(textB s0).toArray⟩)
  | 6 => .rd (textB s1)
  | 7 => .val (.string ⟨(textB s1).toArray⟩)
  | 16 => .val (.bool true)
  | _ => .any

set_option maxRecDepth 100000 in
set_option maxHeartbeats 1600000 in
theorem primApart_walk (a b : Nat) (s0 s1 : ByteArray) (W : World) (ha : a < 18446744073709551616) (hb : b < 18446744073709551616) (_hs0 : s0.size ≤ maxLen) (_hs1 : s1.size ≤ maxLen) :
    Calls Try.prog 4 #[.int .u64 (a : Int), .int .u64 (b : Int), .agg #[.string s0, .string s1]] W (RetB true W) := by
  by_cases hl : 300 < s0.size
  · have d1 : decide ((300 : Int) < s0.size) = true := by simp; omega
    go_enter Try.func4, Try.ntmps4
    go_wp2
    go_ret
    exact RetB.mk' rfl ((Below.refl _ _).alloc (Nat.le_refl _) _)
  · have d1 : decide ((300 : Int) < s0.size) = false := by simp; omega
    by_cases hl' : 300 < s1.size
    · have d2 : decide ((300 : Int) < s1.size) = true := by simp; omega
      go_enter Try.func4, Try.ntmps4
      go_wp2
      go_ret
      exact RetB.mk' rfl ((Below.refl _ _).alloc (Nat.le_refl _) _)
    · have d2 : decide ((300 : Int) < s1.size) = false := by simp; omega
      have hza : -9223372036854775808 ≤ wrap64 a ∧ wrap64 a ≤ 9223372036854775807 := by unfold wrap64; omega
      have hzb : -9223372036854775808 ≤ wrap64 b ∧ wrap64 b ≤ 9223372036854775807 := by unfold wrap64; omega
      have f1 : (sevens a == sevens b) = ((a : Int) == (b : Int)) := by
        by_cases h : a = b
        · subst h; simp
        · rw [beq_false_of_ne (fun e => h (sevens_inj ha hb e))]
          symm; simp; omega
      have hzar := zig_range _ hza
      have hzbr := zig_range _ hzb
      have f2 : (sevens (zig (wrap64 a)).toNat == sevens (zig (wrap64 b)).toNat) = ((a : Int) == (b : Int)) := by
        by_cases h : a = b
        · subst h; simp
        · rw [beq_false_of_ne (fun e => h (by
            have h1 := zig_inj hza hzb (sevens_inj (by omega) (by omega) e)
            unfold wrap64 at h1; omega))]
          symm; simp; omega
      have f3 : (textB s0 == textB s1) = (s0.toList == s1.toList) := by
        by_cases h : s0 = s1
        · subst h; simp
        · rw [beq_false_of_ne (fun e => h (textB_inj (by omega) (by omega) e)), beq_false_of h]
      have hmono : a < b → decide ((sevens b).length < (sevens a).length) = false := fun h => by have := sevens_mono (Nat.le_of_lt h); simp; omega
      have F3 := Lib.hid f3; have Hm := Lib.hid hmono; clear f3 hmono hzar hzbr
      go_enter Try.func4, Try.ntmps4
      go_wp2_with fail
      have b0 : Below W.heap.size W (W.alloc (.cells #[.string s0, .string s1] 32)) := (Below.refl _ _).alloc (Nat.le_refl _) _
      refine (putUint_nil a _ ha).mono ?_
      rintro e w1 ⟨o1, rfl, hown1, hb1⟩
      obtain ⟨A1, c1, rfl, _, _, hR1⟩ := Rd.of_own hown1
      go_wp2_with fail
      refine (putUint_nil b _ hb).mono ?_
      rintro e w2 ⟨o2, rfl, hown2, hb2⟩
      obtain ⟨A2, c2, rfl, _, _, hR2⟩ := Rd.of_own hown2
      go_wp2_with fail
      refine (putInt_nil _ _ hza).mono ?_
      rintro e w3 ⟨o3, rfl, hown3, hb3⟩
      obtain ⟨A3, c3, rfl, _, _, hR3⟩ := Rd.of_own hown3
      go_wp2_with fail
      refine (putInt_nil _ _ hzb).mono ?_
      rintro e w4 ⟨o4, rfl, hown4, hb4⟩
      obtain ⟨A4, c4, rfl, _, _, hR4⟩ := Rd.of_own hown4
      have k1 := ((hR1.up hb2 (Nat.le_refl _) hb2.size).up hb3 (Nat.le_refl _) hb3.size).up hb4 (Nat.le_refl _) hb4.size
      have k2 := (hR2.up hb3 (Nat.le_refl _) hb3.size).up hb4 (Nat.le_refl _) hb4.size
      have k3 := hR3.up hb4 (Nat.le_refl _) hb4.size
      have q1 := run_str_of_bytes (P := Try.prog) (src := 22) (dst := 9) (c := c1) Try.underlying22 Try.underlying5 Try.underlying9 k1
      have q2 := run_str_of_bytes (P := Try.prog) (src := 22) (dst := 9) (c := c2) Try.underlying22 Try.underlying5 Try.underlying9 k2
      have q3 := run_str_of_bytes (P := Try.prog) (src := 22) (dst := 9) (c := c3) Try.underlying22 Try.underlying5 Try.underlying9 k3
      have q4 := run_str_of_bytes (P := Try.prog) (src := 22) (dst := 9) (c := c4) Try.underlying22 Try.underlying5 Try.underlying9 hR4
      have c04 := hb1.trans (((hb2.mono hb1.size).trans ((hb3.mono (Nat.le_trans hb1.size hb2.size)).trans (hb4.mono (Nat.le_trans (Nat.le_trans hb1.size hb2.size) hb3.size)))))
      clear hown1 hown2 hown3 hown4 hR1 hR2 hR3 hR4 k1 k2 k3 hb1 hb2 hb3 hb4
      by_cases hab : a < b
      · have d3 : decide (a < b) = true := by simpa using hab
        have d4 := Hm.out hab
        clear hab Hm
        go_wp2_with fail
        refine wp_region_mono _ Ext (ansE (apA s0 s1)) (ansR (apA s0 s1)) (ans_good _ _) (by kernel_rfl) (by kernel_rfl) c04.drew ?_
        repeat (first | (refine wpM_skip rfl ?_) | (refine wpM_all rfl rfl (fun K hK => ?_); go_simp; refine hK _ ?_; clear hK K))
        refine wpM_look (.string s0) rfl rfl (fun w5 hc _ => ?_) ?_
        · have hcell : w5.cell? ⟨W.heap.size, 0, none⟩ = some (.string s0) := by rw [hc.cell (by simp)]; exact cell_new _ _ _ _
          go_simp
        repeat (first | (refine wpM_skip rfl ?_) | (refine wpM_all rfl rfl (fun K hK => ?_); go_simp; refine hK _ ?_; clear hK K))
        refine wpM_eff rfl rfl (fun w3 hc _ => steps_enter (putText_nil s0 w3 (by omega)) (by go_simp) (rets_own rfl)) ?_
        rintro v2 -
        repeat (first | (refine wpM_skip rfl ?_) | (refine wpM_all rfl rfl (fun K hK => ?_); go_simp; refine hK _ ?_; clear hK K))
        refine wpM_eff rfl rfl (fun w3 hc hd => steps_str v2 (l := textB s0) Try.underlying22 Try.underlying5 Try.underlying9 (by have := hd ⟨2, .data⟩ (by simp) rfl; simpa [upd, ansR, apA] using this) (fun u w' h => run_v h) rfl) ?_
        rintro v3 ⟨_, rfl⟩
        repeat (first | (refine wpM_skip rfl ?_) | (refine wpM_all rfl rfl (fun K hK => ?_); go_simp; refine hK _ ?_; clear hK K))
        refine wpM_look (.string s1) rfl rfl (fun w5 hc _ => ?_) ?_
        · have hcell : w5.cell? ⟨W.heap.size, 1, none⟩ = some (.string s1) := by rw [hc.cell (by simp)]; exact cell_new _ _ _ _
          go_simp
        repeat (first | (refine wpM_skip rfl ?_) | (refine wpM_all rfl rfl (fun K hK => ?_); go_simp; refine hK _ ?_; clear hK K))
        refine wpM_eff rfl rfl (fun w3 hc _ => steps_enter (putText_nil s1 w3 (by omega)) (by go_simp) (rets_own rfl)) ?_
        rintro v6 -
        repeat (first | (refine wpM_skip rfl ?_) | (refine wpM_all rfl rfl (fun K hK => ?_); go_simp; refine hK _ ?_; clear hK K))
        refine wpM_eff rfl rfl (fun w3 hc hd => steps_str v6 (l := textB s1) Try.underlying22 Try.underlying5 Try.underlying9 (by have := hd ⟨6, .data⟩ (by simp) rfl; simpa [upd, ansR, apA] using this) (fun u w' h => run_v h) rfl) ?_
        rintro v7 ⟨_, rfl⟩
        have f3 := F3.out
        repeat (first | (refine wpM_skip rfl ?_) | (refine wpM_all rfl rfl (fun K hK => ?_); go_simp; refine hK _ ?_; clear hK K))
        refine wpM_look (.string s0) rfl rfl (fun w5 hc _ => ?_) ?_
        · have hcell : w5.cell? ⟨W.heap.size, 0, none⟩ = some (.string s0) := by rw [hc.cell (by simp)]; exact cell_new _ _ _ _
          go_simp
        repeat (first | (refine wpM_skip rfl ?_) | (refine wpM_all rfl rfl (fun K hK => ?_); go_simp; refine hK _ ?_; clear hK K))
        refine wpM_look (.string s1) rfl rfl (fun w5 hc _ => ?_) ?_
        · have hcell : w5.cell? ⟨W.heap.size, 1, none⟩ = some (.string s1) := by rw [hc.cell (by simp)]; exact cell_new _ _ _ _
          go_simp
        repeat (first | (refine wpM_skip rfl ?_) | (refine wpM_all rfl rfl (fun K hK => ?_); go_simp; refine hK _ ?_; clear hK K))
        refine wpM_eff rfl rfl (fun w3 hc _ => steps_enter (awake1_any w3) (by go_simp) (by rintro e w4 ⟨rfl, hb⟩; exact ⟨_, rfl, hb, rfl⟩)) ?_
        rintro v16 ⟨_, rfl⟩
        repeat (first | (refine wpM_skip rfl ?_) | (refine wpM_all rfl rfl (fun K hK => ?_); go_simp; refine hK _ ?_; clear hK K))
        refine wpM_nil fun w3 hc3 _ => ?_
        go_wp2
        go_ret
        exact RetB.mk' rfl (b0.trans (hc3.mono (by simp)))
      · have d3 : decide (a < b) = false := by simpa using hab
        clear hab Hm
        go_wp2_with fail
        refine wp_region_mono _ Ext (ansE (apA s0 s1)) (ansR (apA s0 s1)) (ans_good _ _) (by kernel_rfl) (by kernel_rfl) c04.drew ?_
        repeat (first | (refine wpM_skip rfl ?_) | (refine wpM_all rfl rfl (fun K hK => ?_); go_simp; refine hK _ ?_; clear hK K))
        refine wpM_look (.string s0) rfl rfl (fun w5 hc _ => ?_) ?_
        · have hcell : w5.cell? ⟨W.heap.size, 0, none⟩ = some (.string s0) := by rw [hc.cell (by simp)]; exact cell_new _ _ _ _
          go_simp
        repeat (first | (refine wpM_skip rfl ?_) | (refine wpM_all rfl rfl (fun K hK => ?_); go_simp; refine hK _ ?_; clear hK K))
        refine wpM_eff rfl rfl (fun w3 hc _ => steps_enter (putText_nil s0 w3 (by omega)) (by go_simp) (rets_own rfl)) ?_
        rintro v2 -
        repeat (first | (refine wpM_skip rfl ?_) | (refine wpM_all rfl rfl (fun K hK => ?_); go_simp; refine hK _ ?_; clear hK K))
        refine wpM_eff rfl rfl (fun w3 hc hd => steps_str v2 (l := textB s0) Try.underlying22 Try.underlying5 Try.underlying9 (by have := hd ⟨2, .data⟩ (by simp) rfl; simpa [upd, ansR, apA] using this) (fun u w' h => run_v h) rfl) ?_
        rintro v3 ⟨_, rfl⟩
        repeat (first | (refine wpM_skip rfl ?_) | (refine wpM_all rfl rfl (fun K hK => ?_); go_simp; refine hK _ ?_; clear hK K))
        refine wpM_look (.string s1) rfl rfl (fun w5 hc _ => ?_) ?_
        · have hcell : w5.cell? ⟨W.heap.size, 1, none⟩ = some (.string s1) := by rw [hc.cell (by simp)]; exact cell_new _ _ _ _
          go_simp
        repeat (first | (refine wpM_skip rfl ?_) | (refine wpM_all rfl rfl (fun K hK => ?_); go_simp; refine hK _ ?_; clear hK K))
        refine wpM_eff rfl rfl (fun w3 hc _ => steps_enter (putText_nil s1 w3 (by omega)) (by go_simp) (rets_own rfl)) ?_
        rintro v6 -
        repeat (first | (refine wpM_skip rfl ?_) | (refine wpM_all rfl rfl (fun K hK => ?_); go_simp; refine hK _ ?_; clear hK K))
        refine wpM_eff rfl rfl (fun w3 hc hd => steps_str v6 (l := textB s1) Try.underlying22 Try.underlying5 Try.underlying9 (by have := hd ⟨6, .data⟩ (by simp) rfl; simpa [upd, ansR, apA] using this) (fun u w' h => run_v h) rfl) ?_
        rintro v7 ⟨_, rfl⟩
        have f3 := F3.out
        repeat (first | (refine wpM_skip rfl ?_) | (refine wpM_all rfl rfl (fun K hK => ?_); go_simp; refine hK _ ?_; clear hK K))
        refine wpM_look (.string s0) rfl rfl (fun w5 hc _ => ?_) ?_
        · have hcell : w5.cell? ⟨W.heap.size, 0, none⟩ = some (.string s0) := by rw [hc.cell (by simp)]; exact cell_new _ _ _ _
          go_simp
        repeat (first | (refine wpM_skip rfl ?_) | (refine wpM_all rfl rfl (fun K hK => ?_); go_simp; refine hK _ ?_; clear hK K))
        refine wpM_look (.string s1) rfl rfl (fun w5 hc _ => ?_) ?_
        · have hcell : w5.cell? ⟨W.heap.size, 1, none⟩ = some (.string s1) := by rw [hc.cell (by simp)]; exact cell_new _ _ _ _
          go_simp
        repeat (first | (refine wpM_skip rfl ?_) | (refine wpM_all rfl rfl (fun K hK => ?_); go_simp; refine hK _ ?_; clear hK K))
        refine wpM_eff rfl rfl (fun w3 hc _ => steps_enter (awake1_any w3) (by go_simp) (by rintro e w4 ⟨rfl, hb⟩; exact ⟨_, rfl, hb, rfl⟩)) ?_
        rintro v16 ⟨_, rfl⟩
        repeat (first | (refine wpM_skip rfl ?_) | (refine wpM_all rfl rfl (fun K hK => ?_); go_simp; refine hK _ ?_; clear hK K))
        refine wpM_nil fun w3 hc3 _ => ?_
        go_wp2
        go_ret
        exact RetB.mk' rfl (b0.trans (hc3.mono (by simp)))
end Go.Proofs.Ytcblmcpmdpnlbaa
