/-
  Layer 1: PrimLimits, the walk.
-/
import Derived.Test.YtcblmcpmdpnlbaaSf
namespace Go.Proofs.Ytcblmcpmdpnlbaa
open Go.RowKit Mono

set_option maxRecDepth 100000 in
set_option maxHeartbeats 800000 in
theorem primLimits_walk (v most : Nat) (s : ByteArray) (W : World) (hv : v < 18446744073709551616) (hmost : most < 18446744073709551616) (_hs : s.size ≤ maxLen) :
    Calls Try.prog 5 #[.int .u64 (v : Int), .int .u64 (most : Int), .string s] W (RetB true W) := by
  by_cases hl : 300 < s.size
  · have d1 : decide ((300 : Int) < s.size) = true := by simp; omega
    go_enter Try.func5, Try.ntmps5
    go_wp2
    go_ret
    exact RetB.mk' rfl (Below.refl _ _)
  · have d1 : decide ((300 : Int) < s.size) = false := by simp; omega
    obtain ⟨x, r', hx⟩ : ∃ x r', (Rdr.mk (sevens v) 0).uint most = (x, r') := ⟨_, _, rfl⟩
    obtain ⟨t, q', ht⟩ : ∃ t q', (Rdr.mk (textB s) 0).text ((most % 400 : Nat) : Int) = (t, q') := ⟨_, _, rfl⟩
    have hx1 : (most < v ∧ x = 0 ∧ r' = ⟨[], 4⟩) ∨ (v ≤ most ∧ x = v ∧ r' = ⟨[], 0⟩) := by
      have h := Rdr.uint_sevens (v := v) (limit := most) hv []
      rw [List.append_nil, hx] at h
      by_cases hc : most < v
      · rw [if_pos hc] at h; injection h with h1 h2; exact .inl ⟨hc, h1, h2⟩
      · rw [if_neg hc] at h; injection h with h1 h2; exact .inr ⟨by omega, h1, h2⟩
    have ht1 : (most % 400 < s.size ∧ t = [] ∧ q' = ⟨[], 4⟩) ∨ (s.size ≤ most % 400 ∧ t = s.data.toList ∧ q' = ⟨[], 0⟩) := by
      have h := Rdr.text_textB (s := s) (limit := most % 400) (by omega) []
      rw [List.append_nil, ht] at h
      by_cases hc : most % 400 < s.size
      · rw [if_pos hc] at h; injection h with h1 h2; exact .inl ⟨hc, h1, h2⟩
      · rw [if_neg hc] at h; injection h with h1 h2; exact .inr ⟨by omega, h1, h2⟩
    have hsl := sevens_len v
    have hsl2 := sevens_len s.size
    have hsl3 : (textB s).length ≤ 310 := by rw [textB_len]; omega
    have Hx := Lib.hid hx; have Ht := Lib.hid ht; have Hx1 := Lib.hid hx1; have Ht1 := Lib.hid ht1
    clear hx ht hx1 ht1
    go_enter Try.func5, Try.ntmps5
    go_wp2_with fail
    refine (putUint_nil v _ hv).mono ?_
    rintro e w1 ⟨o1, rfl, hown1, hb1⟩
    obtain ⟨A1, c1, rfl, _, _, hR1⟩ := Rd.of_own hown1
    go_wp2_with fail
    refine (read_any A1 c1 (sevens v) _ hR1 (by omega)).mono ?_
    rintro e w2 ⟨g1, rfl, hg1, hp1, hb2⟩
    go_wp2_with fail
    refine (putText_nil s _ (by omega)).mono ?_
    rintro e w3 ⟨o2, rfl, hown2, hb3⟩
    obtain ⟨A2, c2, rfl, _, _, hR2⟩ := Rd.of_own hown2
    go_wp2_with fail
    refine (read_any A2 c2 (textB s) _ hR2 (by omega)).mono ?_
    rintro e w4 ⟨g2, rfl, hg2, hp2, hb4⟩
    have hp1a := (hp1.below hb3 hp1.lt).below hb4 (hp1.below hb3 hp1.lt).lt
    have hne : g1 ≠ g2 := by have := (hp1.below hb3 hp1.lt).lt; omega
    go_wp2_with fail
    refine (uint_any g1 ⟨sevens v, 0⟩ most _ hp1a).mono ?_
    rintro e w5 ⟨rfl, hp5, hg5⟩
    rw [Hx.out] at hp5 ⊢
    simp only at hp5
    have hp2a := hp2.off hp1a (Ne.symm hne) hg5
    go_wp2_with fail
    refine (text_any g2 ⟨textB s, 0⟩ ((most % 400 : Nat) : Int) _ hp2a (by omega)).mono ?_
    rintro e w6 ⟨rfl, hp6, hg6⟩
    rw [Ht.out] at hp6 ⊢
    simp only at hp6
    have hp5a := hp5.off hp2a hne hg6
    have b1 : Below W.heap.size W w1 := hb1
    have b2 := step_below b1 hb2
    have b3 := step_below b2 hb3
    have b4 := step_below b3 hb4
    have s1 := b1.size
    have b5 := b4.grown hg5 b4.size (fun k hk => by injection hk with hk; omega)
    have s2 := b3.size
    have b6 := b5.grown hg6 b5.size (fun k hk => by injection hk with hk; omega)
    clear hown1 hown2 hR1 hR2 hp1 hp2 hp1a hp2a hb1 hb2 hb3 hb4 hg5 hg6 hp5
    rcases Hx1.out with ⟨hc, rfl, rfl⟩ | ⟨hc, rfl, rfl⟩ <;> rcases Ht1.out with ⟨ht, rfl, rfl⟩ | ⟨ht, rfl, rfl⟩
    · clear Hx1 Ht1 Hx Ht
      have e1 : decide (most < v) = true := by simp; omega
      have e2 : decide (v ≤ most) = false := by simp; omega
      have e3 : decide ((most : Int) % 400 < s.size) = true := by simp; omega
      have e4 : decide ((s.size : Int) ≤ most % 400) = false := by simp; omega
      clear hc ht
      go_wp2_with fail
      refine (err_any g1 ⟨[], 4⟩ _ hp5a).mono ?_
      rintro e w7 ⟨rfl, rfl⟩
      go_wp2_with fail
      refine (err_any g2 ⟨[], 4⟩ _ hp6).mono ?_
      rintro e w8 ⟨rfl, rfl⟩
      go_wp2_with fail
      refine (awake1_any _).mono ?_
      rintro e w9 ⟨rfl, hb9⟩
      go_wp2
      go_ret
      exact RetB.mk' rfl (step_below b6 hb9)
    · clear Hx1 Ht1 Hx Ht
      have e1 : decide (most < v) = true := by simp; omega
      have e2 : decide (v ≤ most) = false := by simp; omega
      have e3 : decide ((most : Int) % 400 < s.size) = false := by simp; omega
      have e4 : decide ((s.size : Int) ≤ most % 400) = true := by simp; omega
      rw [str_back s]
      clear hc ht
      go_wp2_with fail
      refine (err_any g1 ⟨[], 4⟩ _ hp5a).mono ?_
      rintro e w7 ⟨rfl, rfl⟩
      go_wp2_with fail
      refine (end_any g2 ⟨[], 0⟩ _ hp6).mono ?_
      rintro e w8 ⟨rfl, rfl⟩
      rw [(show (Rdr.mk [] 0).fin = 0 from rfl)]
      go_wp2_with fail
      refine (awake1_any _).mono ?_
      rintro e w9 ⟨rfl, hb9⟩
      go_wp2
      go_ret
      exact RetB.mk' rfl (step_below b6 hb9)
    · clear Hx1 Ht1 Hx Ht
      have e1 : decide (most < x) = false := by simp; omega
      have e2 : decide (x ≤ most) = true := by simp; omega
      have e3 : decide ((most : Int) % 400 < s.size) = true := by simp; omega
      have e4 : decide ((s.size : Int) ≤ most % 400) = false := by simp; omega
      clear hc ht
      go_wp2_with fail
      refine (end_any g1 ⟨[], 0⟩ _ hp5a).mono ?_
      rintro e w7 ⟨rfl, rfl⟩
      rw [(show (Rdr.mk [] 0).fin = 0 from rfl)]
      go_wp2_with fail
      refine (err_any g2 ⟨[], 4⟩ _ hp6).mono ?_
      rintro e w8 ⟨rfl, rfl⟩
      go_wp2_with fail
      refine (awake1_any _).mono ?_
      rintro e w9 ⟨rfl, hb9⟩
      go_wp2
      go_ret
      exact RetB.mk' rfl (step_below b6 hb9)
    · clear Hx1 Ht1 Hx Ht
      have e1 : decide (most < x) = false := by simp; omega
      have e2 : decide (x ≤ most) = true := by simp; omega
      have e3 : decide ((most : Int) % 400 < s.size) = false := by simp; omega
      have e4 : decide ((s.size : Int) ≤ most % 400) = true := by simp; omega
      rw [str_back s]
      clear hc ht
      go_wp2_with fail
      refine (end_any g1 ⟨[], 0⟩ _ hp5a).mono ?_
      rintro e w7 ⟨rfl, rfl⟩
      rw [(show (Rdr.mk [] 0).fin = 0 from rfl)]
      go_wp2_with fail
      refine (end_any g2 ⟨[], 0⟩ _ hp6).mono ?_
      rintro e w8 ⟨rfl, rfl⟩
      rw [(show (Rdr.mk [] 0).fin = 0 from rfl)]
      go_wp2_with fail
      refine (awake1_any _).mono ?_
      rintro e w9 ⟨rfl, hb9⟩
      go_wp2
      go_ret
      exact RetB.mk' rfl (step_below b6 hb9)
end Go.Proofs.Ytcblmcpmdpnlbaa
