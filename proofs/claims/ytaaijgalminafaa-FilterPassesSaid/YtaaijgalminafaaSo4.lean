import Derived.Test.YtaaijgalminafaaSo3
/-
  slices.Sort at uint32: siftDown, heapSort.
-/
namespace Go.Proofs.Ytaaijgalminafaa
open Go.RowKit Go.Sort

theorem sift_end {hi first r : Nat} {d : Array Int} (h : 2 * r + 1 ≥ hi) : siftDown ltInt hi first r d = d := by rw [siftDown, dif_pos h]
theorem sift_two {hi first r : Nat} {d : Array Int} {b : Bool} (h : ¬ 2 * r + 1 ≥ hi) (h2 : 2 * r + 2 < hi) (hl : ltInt d[first + (2 * r + 1)]! d[first + (2 * r + 1) + 1]! = true) (hb : ltInt d[first + r]! d[first + (2 * r + 2)]! = b) :
    siftDown ltInt hi first r d = if b then siftDown ltInt hi first (2 * r + 2) (swp d (first + r) (first + (2 * r + 2))) else d := by
  rw [siftDown, dif_neg h, if_pos (by simp [hl]; omega)]
  cases b
  · rw [if_pos (by simp [hb])]; rfl
  · rw [if_neg (by simp [hb]), dif_pos h2]; rfl
theorem sift_one {hi first r : Nat} {d : Array Int} {b : Bool} (h : ¬ 2 * r + 1 ≥ hi) (h2 : ¬ 2 * r + 2 < hi ∨ ltInt d[first + (2 * r + 1)]! d[first + (2 * r + 1) + 1]! = false) (hb : ltInt d[first + r]! d[first + (2 * r + 1)]! = b) :
    siftDown ltInt hi first r d = if b then siftDown ltInt hi first (2 * r + 1) (swp d (first + r) (first + (2 * r + 1))) else d := by
  rw [siftDown, dif_neg h, if_neg (by simp; intro h3; rcases h2 with h2 | h2; omega; exact h2)]
  cases b
  · rw [if_pos (by simp [hb])]; rfl
  · rw [if_neg (by simp [hb])]; rfl

set_option maxHeartbeats 3200000 in
set_option maxRecDepth 100000 in
theorem siftDown_any (blk cap n : Nat) (d : Array Int) (lo hi first : Nat) (w : World) (hL : Ls w blk cap d) (hn : d.size = n) (hb : first + hi ≤ n) (hlo : lo ≤ n) (hsz : n ≤ 1000000) :
    Calls Try.prog 68 #[.slice (some ⟨blk, 0, none⟩) n cap, .int .i64 (lo : Int), .int .i64 (hi : Int), .int .i64 (first : Int)] w fun e w' => e = .returned (.tuple #[]) ∧ St w blk cap (siftDown ltInt hi first lo d) w' := by
  have HN := Lib.hid hn; clear hn
  have HL := Lib.hid hL; clear hL
  go_enter Try.func68, Try.ntmps68
  go_wp2
  go_loopw [8] (fun s wr => ∃ (r : Nat) (dk : Array Int), s = .int .i64 (r : Int) ∧ r ≤ n ∧ Hid (dk.size = n) ∧ St w blk cap dk wr ∧ Hid (siftDown ltInt hi first r dk = siftDown ltInt hi first lo d)) (fun s _ => 1000001 - (intOf s).toNat)
  case atStart => exact ⟨lo, d, rfl, hlo, HN, HL.out.st, rfl⟩
  case round =>
    obtain ⟨r, dk, rfl, hrn, hds, hS, heq⟩ := hrel
    have HS := Lib.hid hS; clear hS
    obtain ⟨c1, hc1⟩ : ∃ c, c = 2 * r + 1 := ⟨_, rfl⟩
    have e1 : 2 * (r : Int) + 1 = (c1 : Int) := by omega
    by_cases hge : hi ≤ c1
    · have hd : decide ((hi : Int) ≤ (c1 : Int)) = true := decide_eq_true (by omega)
      have hd2 : decide (hi ≤ c1) = true := decide_eq_true (by omega)
      have hpure := sift_end (first := first) (d := dk) (show 2 * r + 1 ≥ hi by omega)
      have HP := Lib.hid hpure; have HC := Lib.hid hc1
      clear hpure hc1
      go_wp2
      go_end0
      exact ⟨rfl, by rw [← heq.out, HP.out]; exact HS.out⟩
    · have hd : decide ((hi : Int) ≤ (c1 : Int)) = false := decide_eq_false (by omega)
      have hd2 : decide (hi ≤ c1) = false := decide_eq_false (by omega)
      have hdz := hds.out
      obtain ⟨c2, hc2⟩ : ∃ c, c = c1 + 1 := ⟨_, rfl⟩
      obtain ⟨p1, hp1⟩ : ∃ p, p = first + c1 := ⟨_, rfl⟩
      obtain ⟨p2, hp2⟩ : ∃ p, p = first + c2 := ⟨_, rfl⟩
      obtain ⟨p0, hp0⟩ : ∃ p, p = first + r := ⟨_, rfl⟩
      have hm0 : p0 < dk.size := by omega
      have hm1 : p1 < dk.size := by omega
      have i0 : (p0 : Int) < (n : Int) := by omega
      have i1 : (p1 : Int) < (n : Int) := by omega
      have e2 : (c1 : Int) + 1 = (c2 : Int) := by omega
      have b1 : c1 ≤ 3000000 := by omega
      have b2 : c2 ≤ 3000000 := by omega
      have b3 : p0 ≤ n ∧ p1 ≤ n := by omega
      have rc1 : r < c1 := by omega
      have rc2 : r < c2 := by omega
      have R_p1 : Hid (¬ p0 = p1) := by show ¬ _; omega
      have R_p2 : Hid (¬ p0 = p2) := by show ¬ _; omega
      have V1 : Hid (IntKind.i64.wrap ((first : Int) + (r : Int)) = (p0 : Int)) := by show _ = _; rw [IntWalk.i64_in _ (by omega)]; omega
      have V_c1 : Hid (IntKind.i64.wrap ((first : Int) + (c1 : Int)) = (p1 : Int)) := by show _ = _; rw [IntWalk.i64_in _ (by omega)]; omega
      have V_c2 : Hid (IntKind.i64.wrap ((first : Int) + (c2 : Int)) = (p2 : Int)) := by show _ = _; rw [IntWalk.i64_in _ (by omega)]; omega
      have W1 : Hid (IntKind.i64.wrap ((c1 : Int) + 1) = (c2 : Int)) := by show _ = _; rw [IntWalk.i64_in _ (by omega)]; omega
      have W2 : Hid (IntKind.i64.wrap ((p1 : Int) + 1) = (p2 : Int)) := by show _ = _; rw [IntWalk.i64_in _ (by omega)]; omega
      by_cases h2 : c2 < hi
      · have hg1 : decide ((c2 : Int) < (hi : Int)) = true := decide_eq_true (by omega)
        have hg2 : decide (c2 < hi) = true := decide_eq_true h2
        have hm2 : p2 < dk.size := by omega
        have i2 : (p2 : Int) < (n : Int) := by omega
        have k1 := HS.out.cell (i := p1) hm1
        have k2 := HS.out.cell (i := p2) hm2
        by_cases hl : ltInt dk[p1]! dk[p2]! = true
        · have HPURE : ∀ b, ltInt dk[p0]! dk[p2]! = b → siftDown ltInt hi first r dk = if b then siftDown ltInt hi first c2 (swp dk p0 p2) else dk := fun b hb => by
            subst hp0; subst hp1; subst hp2; subst hc2; subst hc1
            exact sift_two (by omega) (by omega) (by rw [← Nat.add_assoc] at hl ⊢; exact hl) hb
          have H0 := Lib.hid hp0; have H1 := Lib.hid hp1; have H2 := Lib.hid hp2; have H3 := Lib.hid hc2; have H4 := Lib.hid hc1
          clear hp0 hp1 hp2 hc2 hc1
          have Hl := Lib.hid hl
          generalize hx1 : dk[p1]! = x1 at hl k1
          generalize hx2 : dk[p2]! = x2 at hl k2
          clear hx1 hx2
          go_wp2_with fail
          have w1 := W1.out; have w2 := W2.out; have w3 := V_c1.out; have w4 := V_c2.out
          go_quiet ((go_at_call 59; exact Calls.quiet_of_same (less_is hl _)))
          clear w1 w2 w3 w4
          go_wp2_with fail
          generalize hwq : wr.drewN _ = wq
          have HSq := Lib.hid (show St w blk cap dk wq by rw [← hwq]; exact HS.out.drewN _)
          clear hwq HS
          have hst := Lib.hid (fun W (h : St w blk cap dk W) => h.swp (i := p0) (j := p2) hm0 hm2)
          have hsz2 := Lib.hid ((size_sw dk p0 p2).trans hds.out)
          have c0 := HSq.out.cell (i := p0) hm0
          have cc := HSq.out.cell (i := p2) hm2
          have fr0 := HSq.out.frozen p0
          have frc := HSq.out.frozen p2
          have hne1 : ¬ p0 = p2 := R_p2.out
          have hne2 : ¬ p2 = p0 := fun e => R_p2.out e.symm
          clear hdz hm0 hm1
          by_cases hl2 : ltInt dk[p0]! dk[p2]! = true
          · have hpure := Lib.hid (HPURE true hl2)
            generalize dk[p0]! = x at *
            generalize dk[p2]! = y at *
            have v1 := V1.out; have v2 := V_c2.out
            go_quiet ((go_at_call 59; exact Calls.quiet_of_same (less_is hl2 _)))
            go_wp2_with fail
            go_region
            clear v1 v2
            go_wp2
            refine ⟨⟨c2, swp dk p0 p2, rfl, by omega, hsz2, hst.out _ (HSq.out.drewN _), ?_⟩, by simp [intOf]; omega⟩
            have h := hpure.out
            rw [if_pos trivial] at h
            exact h.symm.trans heq.out
          · rw [Bool.not_eq_true] at hl2
            have hpure := Lib.hid (HPURE false hl2)
            generalize dk[p0]! = x at *
            generalize dk[p2]! = y at *
            have v1 := V1.out; have v2 := V_c2.out
            go_quiet ((go_at_call 59; exact Calls.quiet_of_same (less_is hl2 _)))
            clear v1 v2
            go_wp2
            refine bodyPost_ret (results_none rfl _ _ _) rfl ?_
            have h := hpure.out
            rw [if_neg (by simp)] at h
            exact ⟨rfl, by rw [← heq.out, h]; exact HSq.out.drewN _⟩
        · rw [Bool.not_eq_true] at hl
          have HPURE : ∀ b, ltInt dk[p0]! dk[p1]! = b → siftDown ltInt hi first r dk = if b then siftDown ltInt hi first c1 (swp dk p0 p1) else dk := fun b hb => by
            subst hp0; subst hp1; subst hp2; subst hc2; subst hc1
            exact sift_one (by omega) (.inr (by rw [← Nat.add_assoc] at hl ⊢; exact hl)) hb
          have H0 := Lib.hid hp0; have H1 := Lib.hid hp1; have H2 := Lib.hid hp2; have H3 := Lib.hid hc2; have H4 := Lib.hid hc1
          have hmp1 := hm1
          clear hp0 hp1 hp2 hc2 hc1
          generalize hx1 : dk[p1]! = x1 at hl k1
          generalize hx2 : dk[p2]! = x2 at hl k2
          clear hx1 hx2
          go_wp2_with fail
          have w1 := W1.out; have w2 := W2.out; have w3 := V_c1.out; have w4 := V_c2.out
          go_quiet ((go_at_call 59; exact Calls.quiet_of_same (less_is hl _)))
          clear w1 w2 w3 w4
          go_wp2_with fail
          generalize hwq : wr.drewN _ = wq
          have HSq := Lib.hid (show St w blk cap dk wq by rw [← hwq]; exact HS.out.drewN _)
          clear hwq HS
          have hst := Lib.hid (fun W (h : St w blk cap dk W) => h.swp (i := p0) (j := p1) hm0 hmp1)
          have hsz2 := Lib.hid ((size_sw dk p0 p1).trans hds.out)
          have c0 := HSq.out.cell (i := p0) hm0
          have cc := HSq.out.cell (i := p1) hmp1
          have fr0 := HSq.out.frozen p0
          have frc := HSq.out.frozen p1
          have hne1 : ¬ p0 = p1 := R_p1.out
          have hne2 : ¬ p1 = p0 := fun e => R_p1.out e.symm
          clear hdz hm0 hm1
          by_cases hl2 : ltInt dk[p0]! dk[p1]! = true
          · have hpure := Lib.hid (HPURE true hl2)
            generalize dk[p0]! = x at *
            generalize dk[p1]! = y at *
            have v1 := V1.out; have v2 := V_c1.out
            go_quiet ((go_at_call 59; exact Calls.quiet_of_same (less_is hl2 _)))
            go_wp2_with fail
            go_region
            clear v1 v2
            go_wp2
            refine ⟨⟨c1, swp dk p0 p1, rfl, by omega, hsz2, hst.out _ (HSq.out.drewN _), ?_⟩, by simp [intOf]; omega⟩
            have h := hpure.out
            rw [if_pos trivial] at h
            exact h.symm.trans heq.out
          · rw [Bool.not_eq_true] at hl2
            have hpure := Lib.hid (HPURE false hl2)
            generalize dk[p0]! = x at *
            generalize dk[p1]! = y at *
            have v1 := V1.out; have v2 := V_c1.out
            go_quiet ((go_at_call 59; exact Calls.quiet_of_same (less_is hl2 _)))
            clear v1 v2
            go_wp2
            refine bodyPost_ret (results_none rfl _ _ _) rfl ?_
            have h := hpure.out
            rw [if_neg (by simp)] at h
            exact ⟨rfl, by rw [← heq.out, h]; exact HSq.out.drewN _⟩
      · have hg1 : decide ((c2 : Int) < (hi : Int)) = false := decide_eq_false (by omega)
        have hg2 : decide (c2 < hi) = false := decide_eq_false h2
        have HPURE : ∀ b, ltInt dk[p0]! dk[p1]! = b → siftDown ltInt hi first r dk = if b then siftDown ltInt hi first c1 (swp dk p0 p1) else dk := fun b hb => by
          subst hp0; subst hp1; subst hp2; subst hc2; subst hc1
          exact sift_one (by omega) (.inl (by omega)) hb
        have H0 := Lib.hid hp0; have H1 := Lib.hid hp1; have H2 := Lib.hid hp2; have H3 := Lib.hid hc2; have H4 := Lib.hid hc1
        have hmp1 := hm1
        clear hp0 hp1 hp2 hc2 hc1
        go_wp2_with fail
        have w1 := W1.out; have w2 := W2.out; have w3 := V_c1.out; have w4 := V_c2.out
        go_quiet (fail)
        clear w1 w2 w3 w4
        go_wp2_with fail
        generalize hwq : wr.drewN _ = wq
        have HSq := Lib.hid (show St w blk cap dk wq by rw [← hwq]; exact HS.out.drewN _)
        clear hwq HS
        have hst := Lib.hid (fun W (h : St w blk cap dk W) => h.swp (i := p0) (j := p1) hm0 hmp1)
        have hsz2 := Lib.hid ((size_sw dk p0 p1).trans hds.out)
        have c0 := HSq.out.cell (i := p0) hm0
        have cc := HSq.out.cell (i := p1) hmp1
        have fr0 := HSq.out.frozen p0
        have frc := HSq.out.frozen p1
        have hne1 : ¬ p0 = p1 := R_p1.out
        have hne2 : ¬ p1 = p0 := fun e => R_p1.out e.symm
        clear hdz hm0 hm1
        by_cases hl2 : ltInt dk[p0]! dk[p1]! = true
        · have hpure := Lib.hid (HPURE true hl2)
          generalize dk[p0]! = x at *
          generalize dk[p1]! = y at *
          have v1 := V1.out; have v2 := V_c1.out
          go_quiet ((go_at_call 59; exact Calls.quiet_of_same (less_is hl2 _)))
          go_wp2_with fail
          go_region
          clear v1 v2
          go_wp2
          refine ⟨⟨c1, swp dk p0 p1, rfl, by omega, hsz2, hst.out _ (HSq.out.drewN _), ?_⟩, by simp [intOf]; omega⟩
          have h := hpure.out
          rw [if_pos trivial] at h
          exact h.symm.trans heq.out
        · rw [Bool.not_eq_true] at hl2
          have hpure := Lib.hid (HPURE false hl2)
          generalize dk[p0]! = x at *
          generalize dk[p1]! = y at *
          have v1 := V1.out; have v2 := V_c1.out
          go_quiet ((go_at_call 59; exact Calls.quiet_of_same (less_is hl2 _)))
          clear v1 v2
          go_wp2
          refine bodyPost_ret (results_none rfl _ _ _) rfl ?_
          have h := hpure.out
          rw [if_neg (by simp)] at h
          exact ⟨rfl, by rw [← heq.out, h]; exact HSq.out.drewN _⟩
end Go.Proofs.Ytaaijgalminafaa
