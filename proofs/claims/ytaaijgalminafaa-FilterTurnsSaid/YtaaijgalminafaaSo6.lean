/-
  slices.Sort at uint32: partitionEqual (printed by gen_so6.py).
-/
import Derived.Test.YtaaijgalminafaaSo2
import Derived.ChangeAlike
namespace Go.Proofs.Ytaaijgalminafaa
open Go.RowKit Go.Sort

theorem scanUp_g (p : Int → Bool) (d : Array Int) (j i : Nat) (h : i ≤ j) (hp : p d[i]! = true) : scanUp p d j i = scanUp p d j (i + 1) := by
  conv => lhs; rw [scanUp, if_pos (by simp [h, hp])]
theorem scanUp_e (p : Int → Bool) (d : Array Int) (j i : Nat) (h : ¬ i ≤ j ∨ p d[i]! = false) : scanUp p d j i = i := by
  rw [scanUp, if_neg (by rcases h with h | h <;> simp [h])]
theorem scanDown_g (p : Int → Bool) (d : Array Int) (i j : Nat) (h : i ≤ j) (h0 : 0 < j) (hp : p d[j]! = true) : scanDown p d i j = scanDown p d i (j - 1) := by
  obtain ⟨k, rfl⟩ : ∃ k, j = k + 1 := ⟨j - 1, by omega⟩
  conv => lhs; rw [scanDown, if_pos (by simp [h, hp])]
  rfl
theorem scanDown_e (p : Int → Bool) (d : Array Int) (i j : Nat) (h : ¬ i ≤ j ∨ p d[j]! = false) : scanDown p d i j = j := by
  cases j with
  | zero => rfl
  | succ k => rw [scanDown, if_neg (by rcases h with h | h <;> simp [h])]
theorem pe_end {a i j i2 j2 : Nat} {d : Array Int} (hi : i2 = scanUp (fun x => !ltInt d[a]! x) d j i) (hj : j2 = scanDown (fun x => ltInt d[a]! x) d i2 j) (h : i2 > j2) : partEqLoop ltInt a i j d = (i2, d) := by
  rw [partEqLoop]
  simp only [← hi, ← hj]
  rw [if_pos h]
theorem pe_go {a i j i2 j2 : Nat} {d : Array Int} (hi : i2 = scanUp (fun x => !ltInt d[a]! x) d j i) (hj : j2 = scanDown (fun x => ltInt d[a]! x) d i2 j) (h : ¬ i2 > j2) : partEqLoop ltInt a i j d = partEqLoop ltInt a (i2 + 1) (j2 - 1) (swp d i2 j2) := by
  have g := partEqLoop_guard (lt := ltInt) a i j d (by rw [← hi, ← hj]; exact h)
  rw [← hi, ← hj] at g
  conv => lhs; rw [partEqLoop]
  simp only [← hi, ← hj]
  rw [if_neg h, dif_pos g]

set_option maxHeartbeats 6400000 in
set_option maxRecDepth 100000 in
theorem partitionEqual_any (blk cap n : Nat) (d : Array Int) (a b pv : Nat) (w : World) (hL : Ls w blk cap d) (hn : d.size = n) (hab : a ≤ pv) (hpb : pv < b) (hb : b ≤ n) (hsz : n ≤ 1000000) :
    Calls Try.prog 60 #[.slice (some ⟨blk, 0, none⟩) n cap, .int .i64 (a : Int), .int .i64 (b : Int), .int .i64 (pv : Int)] w fun e w' => e = .returned (.int .i64 ((partitionEqual ltInt d a b pv).1 : Int)) ∧ St w blk cap (partitionEqual ltInt d a b pv).2 w' := by
  have ca := hL.cell (i := a) (by omega)
  have cp := hL.cell (i := pv) (by omega)
  have fa := hL.frozen a
  have fp := hL.frozen pv
  have ia : (a : Int) < (n : Int) := by omega
  have ip : (pv : Int) < (n : Int) := by omega
  have hsw := Lib.hid ((hL.st.swp (i := a) (j := pv) (by omega) (by omega)).drew)
  have hds := Lib.hid ((size_sw d a pv).trans hn)
  have HL := Lib.hid hL; have HN := Lib.hid hn
  clear hn hL
  have hpure : Hid (partitionEqual ltInt d a b pv = partEqLoop ltInt a (a + 1) (b - 1) (swp d a pv)) := rfl
  generalize d[a]! = x at *
  generalize d[pv]! = y at *
  obtain ⟨v', hv'⟩ := cell?_setCell_some (w := w) (p := ⟨blk, a, none⟩) (x := .int .u32 y) (q := ⟨blk, pv, none⟩) (v := .int .u32 y) cp
  go_enter Try.func60, Try.ntmps60
  go_wp2_with fail
  go_region
  clear hv' ca cp fa fp
  generalize hw1 : World.drew _ = w1
  have HS1 := Lib.hid (show St w blk cap (swp d a pv) w1 by rw [← hw1]; exact hsw.out)
  clear hw1 hsw
  generalize swp d a pv = d1 at *
  have eb : (b : Int) - 1 = ((b - 1 : Nat) : Int) := by omega
  go_wp2_with fail
  go_loopw [9, 10] (fun s t wr => ∃ (i j : Nat) (dk : Array Int), s = .int .i64 (i : Int) ∧ t = .int .i64 (j : Int) ∧ (a + 1 ≤ i ∧ i ≤ j + 2 ∧ i ≤ n ∧ a ≤ j ∧ j < b) ∧ Hid (dk.size = n) ∧ St w blk cap dk wr ∧ Hid (partEqLoop ltInt a i j dk = partEqLoop ltInt a (a + 1) (b - 1) d1)) (fun s t _ => (intOf t + 1 - intOf s).toNat)
  case atStart => exact ⟨a + 1, b - 1, d1, by go_num, rfl, by omega, hds, HS1.out, rfl⟩
  case round =>
    obtain ⟨i, j, dk, rfl, rfl, hr, hds1, hS, heq⟩ := hrel
    clear hds
    have hds := hds1
    clear hds1 HS1
    have HS := Lib.hid hS; clear hS
    obtain ⟨wo, rfl⟩ : ∃ wo : World, wo = wr := ⟨_, rfl⟩
    clear eb
    obtain ⟨z, hz⟩ : ∃ z, z = dk[a]! := ⟨_, rfl⟩
    have HZ := Lib.hid hz; clear hz
    go_wp2_with fail
    go_loopw [9] (fun s wr => ∃ m : Nat, s = .int .i64 (m : Int) ∧ (i ≤ m ∧ m ≤ j + 2 ∧ m ≤ n) ∧ St w blk cap dk wr ∧ Hid (scanUp (fun x => !ltInt z x) dk j m = scanUp (fun x => !ltInt z x) dk j i)) (fun s _ => j + 1 - (intOf s).toNat)
    case atStart => exact ⟨i, rfl, by omega, HS.out, rfl⟩
    case round =>
      obtain ⟨m, rfl, hmr, hSm, heqm⟩ := hrel
      have HSm := Lib.hid hSm
      clear hSm HS
      have hdz1 := hds.out
      by_cases hle1 : m ≤ j
      · have hdd1 : decide (m ≤ j) = true := decide_eq_true hle1
        have hdd2 : decide ((m : Int) ≤ (j : Int)) = true := decide_eq_true (by omega)
        have him : (m : Int) < (n : Int) := by omega
        have hia : (a : Int) < (n : Int) := by omega
        have cm := HSm.out.cell (i := m) (by omega)
        have ca : wr.cell? ⟨blk, a, none⟩ = some (.int .u32 z) := by rw [HZ.out]; exact HSm.out.cell (i := a) (by omega)
        by_cases hl : ltInt z dk[m]! = false
        · have hst := Lib.hid (scanUp_g ((fun x => !ltInt z x)) dk j m (by omega) (by simp [hl]))
          generalize hxm : dk[m]! = xm at hl cm
          clear hxm hdz1
          go_wp2_with fail
          go_quiet ((go_at_call 59; exact Calls.quiet_of_same (less_is hl _)))
          go_wp2
          exact ⟨⟨m + 1, by go_num, by omega, HSm.out.drewN _, hst.out.symm.trans heqm.out⟩, by simp [intOf] <;> omega⟩
        · have hl1 : ltInt z dk[m]! = true := by rw [Bool.not_eq_false] at hl; exact hl
          clear hl
          have HM1 := Lib.hid ((scanUp_e ((fun x => !ltInt z x)) dk j m (.inr (by simp [hl1]))).symm.trans heqm.out)
          generalize hxm : dk[m]! = xm at hl1 cm
          clear hxm hdz1
          go_wp2_with fail
          go_quiet ((go_at_call 59; exact Calls.quiet_of_same (less_is hl1 _)))
          clear hdd1 hdd2 cm ca hl1 him hia
          generalize hwq : wr.drewN _ = wq1
          have HSq1 := Lib.hid (show St w blk cap dk wq1 by rw [← hwq]; exact HSm.out.drewN _)
          clear hwq HSm
          have HLE1 := Lib.hid hle1; clear hle1
          obtain ⟨i2, rfl⟩ : ∃ i2, i2 = m := ⟨_, rfl⟩
          have HI2 := HM1
          obtain ⟨wo1, rfl⟩ : ∃ wo : World, wo = wq1 := ⟨_, rfl⟩
          clear heqm
          have hle1 := HLE1.out
          go_wp2_with fail

          go_loopw [10] (fun s wr => ∃ m : Nat, s = .int .i64 (m : Int) ∧ (m ≤ j ∧ i2 ≤ m + 2) ∧ St w blk cap dk wr ∧ Hid (scanDown (fun x => ltInt z x) dk i2 m = scanDown (fun x => ltInt z x) dk i2 j)) (fun s _ => (intOf s).toNat)
          case atStart => exact ⟨j, rfl, by omega, HSq1.out, rfl⟩
          case round =>
            obtain ⟨m, rfl, hmr, hSm, heqm⟩ := hrel
            have HSm := Lib.hid hSm
            clear hSm HSq1
            have hdz2 := hds.out
            by_cases hle2 : i2 ≤ m
            · have hdd1 : decide (i2 ≤ m) = true := decide_eq_true hle2
              have hdd2 : decide ((i2 : Int) ≤ (m : Int)) = true := decide_eq_true (by omega)
              have him : (m : Int) < (n : Int) := by omega
              have hia : (a : Int) < (n : Int) := by omega
              have cm := HSm.out.cell (i := m) (by omega)
              have ca : wr.cell? ⟨blk, a, none⟩ = some (.int .u32 z) := by rw [HZ.out]; exact HSm.out.cell (i := a) (by omega)
              by_cases hl : ltInt z dk[m]! = true
              · have hst := Lib.hid (scanDown_g ((fun x => ltInt z x)) dk i2 m (by omega) (by omega) (by simp [hl]))
                generalize hxm : dk[m]! = xm at hl cm
                clear hxm hdz2
                go_wp2_with fail
                go_quiet ((go_at_call 59; exact Calls.quiet_of_same (less_is hl _)))
                go_wp2
                exact ⟨⟨m - 1, by rw [show (m : Int) - 1 = ((m - 1 : Nat) : Int) by omega], by omega, HSm.out.drewN _, hst.out.symm.trans heqm.out⟩, by simp [intOf] <;> omega⟩
              · have hl2 : ltInt z dk[m]! = false := by rw [Bool.not_eq_true] at hl; exact hl
                clear hl
                have HM2 := Lib.hid ((scanDown_e ((fun x => ltInt z x)) dk i2 m (.inr (by simp [hl2]))).symm.trans heqm.out)
                generalize hxm : dk[m]! = xm at hl2 cm
                clear hxm hdz2
                go_wp2_with fail
                go_quiet ((go_at_call 59; exact Calls.quiet_of_same (less_is hl2 _)))
                clear hdd1 hdd2 cm ca hl2 him hia
                generalize hwq : wr.drewN _ = wq2
                have HSq2 := Lib.hid (show St w blk cap dk wq2 by rw [← hwq]; exact HSm.out.drewN _)
                clear hwq HSm
                have HLE2 := Lib.hid hle2; clear hle2
                obtain ⟨j2, rfl⟩ : ∃ j2, j2 = m := ⟨_, rfl⟩
                have HJ2 := HM2
                have hij2 := HLE2.out
                have hgt : ¬ i2 > j2 := by omega
                have hd1 : decide (j2 < i2) = false := decide_eq_false hgt
                have hd2 : decide ((j2 : Int) < (i2 : Int)) = false := decide_eq_false (by omega)
                have hgo := Lib.hid (pe_go (a := a) (i := i) (j := j) (d := dk) (by have h := HI2.out; rw [HZ.out] at h; exact h) (by have h := HJ2.out; rw [HZ.out] at h; exact h) hgt)
                have hdz := hds.out
                have ci := HSq2.out.cell (i := i2) (by omega)
                have cj := HSq2.out.cell (i := j2) (by omega)
                have fi := HSq2.out.frozen i2
                have fj := HSq2.out.frozen j2
                have ii : (i2 : Int) < (n : Int) := by omega
                have ij : (j2 : Int) < (n : Int) := by omega
                have hsw2 := Lib.hid (fun W (h : St w blk cap dk W) => (h.swp (i := i2) (j := j2) (by omega) (by omega)).drew)
                have hsz2 := Lib.hid ((size_sw dk i2 j2).trans hds.out)
                have ej : (j2 : Int) - 1 = ((j2 - 1 : Nat) : Int) := by omega
                have hme : j2 - 1 + 1 - (i2 + 1) < j + 1 - i := by omega
                have hra : a + 1 ≤ i2 + 1 ∧ i2 + 1 ≤ j2 - 1 + 2 ∧ i2 + 1 ≤ n ∧ a ≤ j2 - 1 ∧ j2 - 1 < b := by omega
                clear hdz
                generalize dk[i2]! = x2 at *
                generalize dk[j2]! = y2 at *
                obtain ⟨v', hv'⟩ := cell?_setCell_some (w := wq2) (p := ⟨blk, i2, none⟩) (x := .int .u32 y2) (q := ⟨blk, j2, none⟩) (v := .int .u32 y2) cj
                go_wp2_with fail
                go_region
                clear hv' ci cj fi fj
                go_wp2
                refine ⟨⟨i2 + 1, j2 - 1, swp dk i2 j2, by go_num, rfl, hra, hsz2, hsw2.out _ HSq2.out, hgo.out.symm.trans heq.out⟩, by simp [intOf] <;> omega⟩
            · have hdd1 : decide (i2 ≤ m) = false := decide_eq_false hle2
              have hdd2 : decide ((i2 : Int) ≤ (m : Int)) = false := decide_eq_false (by omega)
              have HM2 := Lib.hid ((scanDown_e ((fun x => ltInt z x)) dk i2 m (.inl hle2)).symm.trans heqm.out)
              clear hdz2
              go_wp2_with fail
              go_quiet (fail)
              clear hdd1 hdd2
              generalize hwq : wr.drewN _ = wq2
              have HSq2 := Lib.hid (show St w blk cap dk wq2 by rw [← hwq]; exact HSm.out.drewN _)
              clear hwq HSm
              obtain ⟨j2, rfl⟩ : ∃ j2, j2 = m := ⟨_, rfl⟩
              have HJ2 := HM2
              have hgt : i2 > j2 := by omega
              have hd1 : decide (j2 < i2) = true := decide_eq_true hgt
              have hd2 : decide ((j2 : Int) < (i2 : Int)) = true := decide_eq_true (by omega)
              have hend := Lib.hid (pe_end (a := a) (i := i) (j := j) (d := dk) (by have h := HI2.out; rw [HZ.out] at h; exact h) (by have h := HJ2.out; rw [HZ.out] at h; exact h) hgt)
              go_wp2
              go_ret
              refine ⟨?_, ?_⟩
              · rw [hpure.out, ← heq.out, hend.out]; rfl
              · rw [hpure.out, ← heq.out, hend.out]; exact HSq2.out
      · have hdd1 : decide (m ≤ j) = false := decide_eq_false hle1
        have hdd2 : decide ((m : Int) ≤ (j : Int)) = false := decide_eq_false (by omega)
        have HM1 := Lib.hid ((scanUp_e ((fun x => !ltInt z x)) dk j m (.inl hle1)).symm.trans heqm.out)
        clear hdz1
        go_wp2_with fail
        go_quiet (fail)
        clear hdd1 hdd2
        generalize hwq : wr.drewN _ = wq1
        have HSq1 := Lib.hid (show St w blk cap dk wq1 by rw [← hwq]; exact HSm.out.drewN _)
        clear hwq HSm
        obtain ⟨i2, rfl⟩ : ∃ i2, i2 = m := ⟨_, rfl⟩
        have HI2 := HM1
        obtain ⟨wo1, rfl⟩ : ∃ wo : World, wo = wq1 := ⟨_, rfl⟩
        clear heqm

        go_wp2_with fail

        go_loopw [10] (fun s wr => ∃ m : Nat, s = .int .i64 (m : Int) ∧ (m ≤ j ∧ i2 ≤ m + 2) ∧ St w blk cap dk wr ∧ Hid (scanDown (fun x => ltInt z x) dk i2 m = scanDown (fun x => ltInt z x) dk i2 j)) (fun s _ => (intOf s).toNat)
        case atStart => exact ⟨j, rfl, by omega, HSq1.out, rfl⟩
        case round =>
          obtain ⟨m, rfl, hmr, hSm, heqm⟩ := hrel
          have HSm := Lib.hid hSm
          clear hSm HSq1
          have hdz2 := hds.out
          have hle2 : ¬ i2 ≤ m := by omega
          · have hdd1 : decide (i2 ≤ m) = false := decide_eq_false hle2
            have hdd2 : decide ((i2 : Int) ≤ (m : Int)) = false := decide_eq_false (by omega)
            have HM2 := Lib.hid ((scanDown_e ((fun x => ltInt z x)) dk i2 m (.inl hle2)).symm.trans heqm.out)
            clear hdz2
            go_wp2_with fail
            go_quiet (fail)
            clear hdd1 hdd2
            generalize hwq : wr.drewN _ = wq2
            have HSq2 := Lib.hid (show St w blk cap dk wq2 by rw [← hwq]; exact HSm.out.drewN _)
            clear hwq HSm
            obtain ⟨j2, rfl⟩ : ∃ j2, j2 = m := ⟨_, rfl⟩
            have HJ2 := HM2
            have hgt : i2 > j2 := by omega
            have hd1 : decide (j2 < i2) = true := decide_eq_true hgt
            have hd2 : decide ((j2 : Int) < (i2 : Int)) = true := decide_eq_true (by omega)
            have hend := Lib.hid (pe_end (a := a) (i := i) (j := j) (d := dk) (by have h := HI2.out; rw [HZ.out] at h; exact h) (by have h := HJ2.out; rw [HZ.out] at h; exact h) hgt)
            go_wp2
            go_ret
            refine ⟨?_, ?_⟩
            · rw [hpure.out, ← heq.out, hend.out]; rfl
            · rw [hpure.out, ← heq.out, hend.out]; exact HSq2.out
end Go.Proofs.Ytaaijgalminafaa
