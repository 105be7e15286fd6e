import Derived.Test.YtaaijgalminafaaSo6
/-
  slices.Sort at uint32: partition (printed by gen_so7.py).
-/
namespace Go.Proofs.Ytaaijgalminafaa
open Go.RowKit Go.Sort

theorem pl_end {a i j i2 j2 : Nat} {d : Array Int} (hi : i2 = scanUp (fun x => ltInt x d[a]!) d j i) (hj : j2 = scanDown (fun x => !ltInt x d[a]!) d i2 j) (h : i2 > j2) : partLoop ltInt a i j d = (j2, d) := by
  rw [partLoop]
  simp only [← hi, ← hj]
  rw [if_pos h]
theorem pl_go {a i j i2 j2 : Nat} {d : Array Int} (hi : i2 = scanUp (fun x => ltInt x d[a]!) d j i) (hj : j2 = scanDown (fun x => !ltInt x d[a]!) d i2 j) (h : ¬ i2 > j2) : partLoop ltInt a i j d = partLoop ltInt a (i2 + 1) (j2 - 1) (swp d i2 j2) := by
  have g := partLoop_guard (lt := ltInt) a i j d (by rw [← hi, ← hj]; exact h)
  rw [← hi, ← hj] at g
  conv => lhs; rw [partLoop]
  simp only [← hi, ← hj]
  rw [if_neg h, dif_pos g]
theorem part_end {a b pv i2 j2 : Nat} {d d1 : Array Int} (hd : d1 = swp d a pv) (hi : i2 = scanUp (fun x => ltInt x d1[a]!) d1 (b - 1) (a + 1)) (hj : j2 = scanDown (fun x => !ltInt x d1[a]!) d1 i2 (b - 1)) (h : i2 > j2) : Sort.partition ltInt d a b pv = (j2, true, swp d1 j2 a) := by
  subst hd
  unfold Sort.partition
  simp only [← hi, ← hj]
  rw [if_pos h]
theorem part_go {a b pv i2 j2 : Nat} {d d1 : Array Int} (hd : d1 = swp d a pv) (hi : i2 = scanUp (fun x => ltInt x d1[a]!) d1 (b - 1) (a + 1)) (hj : j2 = scanDown (fun x => !ltInt x d1[a]!) d1 i2 (b - 1)) (h : ¬ i2 > j2) :
    Sort.partition ltInt d a b pv = ((partLoop ltInt a (i2 + 1) (j2 - 1) (swp d1 i2 j2)).1, false, swp (partLoop ltInt a (i2 + 1) (j2 - 1) (swp d1 i2 j2)).2 (partLoop ltInt a (i2 + 1) (j2 - 1) (swp d1 i2 j2)).1 a) := by
  subst hd
  unfold Sort.partition
  simp only [← hi, ← hj]
  rw [if_neg h]
/-- What a call of partition leaves. -/
def Pt (w : World) (blk cap : Nat) (r : Nat × Bool × Array Int) (e : Ending) (w' : World) : Prop :=
  e = .returned (.tuple #[.int .i64 (r.1 : Int), .bool r.2.1]) ∧ St w blk cap r.2.2 w'

set_option maxHeartbeats 6400000 in
set_option maxRecDepth 100000 in
theorem partition_any (blk cap n : Nat) (d : Array Int) (a b pv : Nat) (w : World) (hL : Ls w blk cap d) (hn : d.size = n) (hab : a ≤ pv) (hpb : pv < b) (hb : b ≤ n) (hsz : n ≤ 1000000) :
    Calls Try.prog 61 #[.slice (some ⟨blk, 0, none⟩) n cap, .int .i64 (a : Int), .int .i64 (b : Int), .int .i64 (pv : Int)] w (Pt w blk cap (Sort.partition ltInt d a b pv)) := by
  have ca := hL.cell (i := a) (by omega)
  have cp := hL.cell (i := pv) (by omega)
  have fa := hL.frozen a
  have fp := hL.frozen pv
  have ia : (a : Int) < (n : Int) := by omega
  have ip : (pv : Int) < (n : Int) := by omega
  have hsw := Lib.hid ((hL.st.swp (i := a) (j := pv) (by omega) (by omega)).drew)
  have hds := Lib.hid ((size_sw d a pv).trans hn)
  have HL := Lib.hid hL; have HN := Lib.hid hn
  clear hn hL
  generalize hx : d[a]! = x at ca hsw
  generalize hy : d[pv]! = y at cp hsw
  clear hx hy
  obtain ⟨v', hv'⟩ := cell?_setCell_some (w := w) (p := ⟨blk, a, none⟩) (x := .int .u32 y) (q := ⟨blk, pv, none⟩) (v := .int .u32 y) cp
  go_enter Try.func61, Try.ntmps61
  go_wp2_with fail
  go_region
  clear hv' ca cp fa fp
  generalize hw1 : World.drew _ = w1
  have HS := Lib.hid (show St w blk cap (swp d a pv) w1 by rw [← hw1]; exact hsw.out)
  clear hw1 hsw
  obtain ⟨d1, hd1⟩ : ∃ d1, d1 = swp d a pv := ⟨_, rfl⟩
  rw [← hd1] at HS hds
  have HD1 := Lib.hid hd1; clear hd1
  obtain ⟨z, hz⟩ : ∃ z, z = d1[a]! := ⟨_, rfl⟩
  have HZ := Lib.hid hz; clear hz
  obtain ⟨i, hi⟩ : ∃ i, i = a + 1 := ⟨_, rfl⟩
  obtain ⟨j, hj⟩ : ∃ j, j = b - 1 := ⟨_, rfl⟩
  have ei : (a : Int) + 1 = (i : Int) := by omega
  have ej : (b : Int) - 1 = (j : Int) := by omega
  have hr : a + 1 ≤ i ∧ i ≤ j + 2 ∧ i ≤ n ∧ a ≤ j ∧ j < b := by omega
  have HI := Lib.hid hi; have HJ := Lib.hid hj; clear hi hj
  go_wp2_with fail
  clear ei ej
  go_loopw [10] (fun s wr => ∃ m : Nat, s = .int .i64 (m : Int) ∧ (i ≤ m ∧ m ≤ j + 2 ∧ m ≤ n) ∧ St w blk cap d1 wr ∧ Hid (scanUp (fun x => ltInt x z) d1 j m = scanUp (fun x => ltInt x z) d1 j i)) (fun s _ => j + 1 - (intOf s).toNat)
  case atStart => exact ⟨i, rfl, by omega, HS.out, rfl⟩
  case round =>
    obtain ⟨m, rfl, hmr, hSm, heqm⟩ := hrel
    have HSm := Lib.hid hSm
    clear hSm HS
    have hdz1 := hds.out
    by_cases hle1 : m ≤ j
    · have hdd1 : decide (m ≤ j) = true := decide_eq_true hle1
      have hdd2 : decide ((m : Int) ≤ (j : Int)) = true := decide_eq_true (by omega)
      have him : (m : Int) < (n : Int) := by omega
      have hia : (a : Int) < (n : Int) := by omega
      have cm := HSm.out.cell (i := m) (by omega)
      have ca : wr.cell? ⟨blk, a, none⟩ = some (.int .u32 z) := by rw [HZ.out]; exact HSm.out.cell (i := a) (by omega)
      by_cases hl : ltInt d1[m]! z = true
      · have hst := Lib.hid (scanUp_g ((fun x => ltInt x z)) d1 j m (by omega) (by simp [hl]))
        generalize hxm : d1[m]! = xm at hl cm
        clear hxm hdz1
        go_wp2_with fail
        go_quiet ((go_at_call 59; exact Calls.quiet_of_same (less_is hl _)))
        go_wp2
        exact ⟨⟨m + 1, by go_num, by omega, HSm.out.drewN _, hst.out.symm.trans heqm.out⟩, by simp [intOf] <;> omega⟩
      · have hl1 : ltInt d1[m]! z = false := by rw [Bool.not_eq_true] at hl; exact hl
        clear hl
        have HM1 := Lib.hid ((scanUp_e ((fun x => ltInt x z)) d1 j m (.inr (by simp [hl1]))).symm.trans heqm.out)
        generalize hxm : d1[m]! = xm at hl1 cm
        clear hxm hdz1
        go_wp2_with fail
        go_quiet ((go_at_call 59; exact Calls.quiet_of_same (less_is hl1 _)))
        clear hdd1 hdd2 cm ca hl1 him hia
        generalize hwq : wr.drewN _ = wq1
        have HSq1 := Lib.hid (show St w blk cap d1 wq1 by rw [← hwq]; exact HSm.out.drewN _)
        clear hwq HSm
        have HLE1 := Lib.hid hle1; clear hle1
        obtain ⟨i2, rfl⟩ : ∃ i2, i2 = m := ⟨_, rfl⟩
        have HI2 := HM1
        obtain ⟨wo1, rfl⟩ : ∃ wo : World, wo = wq1 := ⟨_, rfl⟩
        clear heqm
        have hle1 := HLE1.out
        go_wp2_with fail

        go_loopw [11] (fun s wr => ∃ m : Nat, s = .int .i64 (m : Int) ∧ (m ≤ j ∧ i2 ≤ m + 2) ∧ St w blk cap d1 wr ∧ Hid (scanDown (fun x => !ltInt x z) d1 i2 m = scanDown (fun x => !ltInt x z) d1 i2 j)) (fun s _ => (intOf s).toNat)
        case atStart => exact ⟨j, rfl, by omega, HSq1.out, rfl⟩
        case round =>
          obtain ⟨m, rfl, hmr, hSm, heqm⟩ := hrel
          have HSm := Lib.hid hSm
          clear hSm HSq1
          have hdz2 := hds.out
          by_cases hle2 : i2 ≤ m
          · have hdd1 : decide (i2 ≤ m) = true := decide_eq_true hle2
            have hdd2 : decide ((i2 : Int) ≤ (m : Int)) = true := decide_eq_true (by omega)
            have him : (m : Int) < (n : Int) := by omega
            have hia : (a : Int) < (n : Int) := by omega
            have cm := HSm.out.cell (i := m) (by omega)
            have ca : wr.cell? ⟨blk, a, none⟩ = some (.int .u32 z) := by rw [HZ.out]; exact HSm.out.cell (i := a) (by omega)
            by_cases hl : ltInt d1[m]! z = false
            · have hst := Lib.hid (scanDown_g ((fun x => !ltInt x z)) d1 i2 m (by omega) (by omega) (by simp [hl]))
              generalize hxm : d1[m]! = xm at hl cm
              clear hxm hdz2
              go_wp2_with fail
              go_quiet ((go_at_call 59; exact Calls.quiet_of_same (less_is hl _)))
              go_wp2
              exact ⟨⟨m - 1, by rw [show (m : Int) - 1 = ((m - 1 : Nat) : Int) by omega], by omega, HSm.out.drewN _, hst.out.symm.trans heqm.out⟩, by simp [intOf] <;> omega⟩
            · have hl2 : ltInt d1[m]! z = true := by rw [Bool.not_eq_false] at hl; exact hl
              clear hl
              have HM2 := Lib.hid ((scanDown_e ((fun x => !ltInt x z)) d1 i2 m (.inr (by simp [hl2]))).symm.trans heqm.out)
              generalize hxm : d1[m]! = xm at hl2 cm
              clear hxm hdz2
              go_wp2_with fail
              go_quiet ((go_at_call 59; exact Calls.quiet_of_same (less_is hl2 _)))
              clear hdd1 hdd2 cm ca hl2 him hia
              generalize hwq : wr.drewN _ = wq2
              have HSq2 := Lib.hid (show St w blk cap d1 wq2 by rw [← hwq]; exact HSm.out.drewN _)
              clear hwq HSm
              have HLE2 := Lib.hid hle2; clear hle2
              obtain ⟨j2, rfl⟩ : ∃ j2, j2 = m := ⟨_, rfl⟩
              have HJ2 := HM2
              have hij2 := HLE2.out
              have hgt : ¬ i2 > j2 := by omega
              have hd1 : decide (j2 < i2) = false := decide_eq_false hgt
              have hd2 : decide ((j2 : Int) < (i2 : Int)) = false := decide_eq_false (by omega)
              have hgoP := Lib.hid (part_go HD1.out (by have h := HI2.out; rw [HZ.out, HI.out, HJ.out] at h; exact h) (by have h := HJ2.out; rw [HZ.out, HJ.out] at h; exact h) hgt)
              have hdz := hds.out
              have ci := HSq2.out.cell (i := i2) (by omega)
              have cj := HSq2.out.cell (i := j2) (by omega)
              have fi := HSq2.out.frozen i2
              have fj := HSq2.out.frozen j2
              have ii : (i2 : Int) < (n : Int) := by omega
              have ij : (j2 : Int) < (n : Int) := by omega
              have hsw2 := Lib.hid (fun W (h : St w blk cap d1 W) => (h.swp (i := i2) (j := j2) (by omega) (by omega)).drew)
              have hsz2 := Lib.hid ((size_sw d1 i2 j2).trans hds.out)
              clear hdz
              have ej : (j2 : Int) - 1 = ((j2 - 1 : Nat) : Int) := by omega
              have hra : a + 1 ≤ i2 + 1 ∧ i2 + 1 ≤ j2 - 1 + 2 ∧ i2 + 1 ≤ n ∧ a ≤ j2 - 1 ∧ j2 - 1 < b := by omega
              generalize hx2 : d1[i2]! = x2 at ci hsw2
              generalize hy2 : d1[j2]! = y2 at cj hsw2
              clear hx2 hy2
              obtain ⟨v', hv'⟩ := cell?_setCell_some (w := wq2) (p := ⟨blk, i2, none⟩) (x := .int .u32 y2) (q := ⟨blk, j2, none⟩) (v := .int .u32 y2) cj
              go_wp2_with fail
              go_region
              clear hv' ci cj fi fj
              generalize hw3 : World.drew _ = w3
              have HS3 := Lib.hid (show St w blk cap (swp d1 i2 j2) w3 by rw [← hw3]; exact hsw2.out _ HSq2.out)
              clear hw3 hsw2 HSq2 hds HZ HI2 HJ2
              have hds3 := hsz2
              obtain ⟨d3, hd3⟩ : ∃ d3, d3 = swp d1 i2 j2 := ⟨_, rfl⟩
              rw [← hd3] at HS3 hds3 hgoP
              clear hd3 hsz2
              obtain ⟨i3, hi3⟩ : ∃ i, i = i2 + 1 := ⟨_, rfl⟩
              obtain ⟨j3, hj3⟩ : ∃ i, i = j2 - 1 := ⟨_, rfl⟩
              have ei3 : (i2 : Int) + 1 = (i3 : Int) := by omega
              have ej3 : (j2 : Int) - 1 = (j3 : Int) := by omega
              rw [← hi3, ← hj3] at hra hgoP
              have HI3 := Lib.hid hi3; have HJ3 := Lib.hid hj3
              clear hi3 hj3 ej hd1 hd2 hgt hij2 hmr ii ij
              go_wp2_with fail
              clear ei3 ej3
              go_loopw [10, 11] (fun s t wr => ∃ (i j : Nat) (dk : Array Int), s = .int .i64 (i : Int) ∧ t = .int .i64 (j : Int) ∧ (a + 1 ≤ i ∧ i ≤ j + 2 ∧ i ≤ n ∧ a ≤ j ∧ j < b) ∧ Hid (dk.size = n) ∧ St w blk cap dk wr ∧ Hid (partLoop ltInt a i j dk = partLoop ltInt a i3 j3 d3)) (fun s t _ => (intOf t + 1 - intOf s).toNat)
              case atStart => exact ⟨i3, j3, d3, rfl, rfl, hra, hds3, HS3.out, rfl⟩
              case round =>
                clear hr hra hds3 HS3 HLE1 HLE2 hle1
                obtain ⟨i, j, dk, rfl, rfl, hr, hds, hS, heq⟩ := hrel
                have HS := Lib.hid hS; clear hS
                obtain ⟨wo3, rfl⟩ : ∃ wo : World, wo = wr := ⟨_, rfl⟩
                obtain ⟨z, hz⟩ : ∃ z, z = dk[a]! := ⟨_, rfl⟩
                have HZ := Lib.hid hz; clear hz
                go_wp2_with fail
                go_loopw [10] (fun s wr => ∃ m : Nat, s = .int .i64 (m : Int) ∧ (i ≤ m ∧ m ≤ j + 2 ∧ m ≤ n) ∧ St w blk cap dk wr ∧ Hid (scanUp (fun x => ltInt x z) dk j m = scanUp (fun x => ltInt x z) dk j i)) (fun s _ => j + 1 - (intOf s).toNat)
                case atStart => exact ⟨i, rfl, by omega, HS.out, rfl⟩
                case round =>
                  obtain ⟨m, rfl, hmr, hSm, heqm⟩ := hrel
                  have HSm := Lib.hid hSm
                  clear hSm HS
                  have hdz1 := hds.out
                  by_cases hle1 : m ≤ j
                  · have hdd1 : decide (m ≤ j) = true := decide_eq_true hle1
                    have hdd2 : decide ((m : Int) ≤ (j : Int)) = true := decide_eq_true (by omega)
                    have him : (m : Int) < (n : Int) := by omega
                    have hia : (a : Int) < (n : Int) := by omega
                    have cm := HSm.out.cell (i := m) (by omega)
                    have ca : wr.cell? ⟨blk, a, none⟩ = some (.int .u32 z) := by rw [HZ.out]; exact HSm.out.cell (i := a) (by omega)
                    by_cases hl : ltInt dk[m]! z = true
                    · have hst := Lib.hid (scanUp_g ((fun x => ltInt x z)) dk j m (by omega) (by simp [hl]))
                      generalize hxm : dk[m]! = xm at hl cm
                      clear hxm hdz1
                      go_wp2_with fail
                      go_quiet ((go_at_call 59; exact Calls.quiet_of_same (less_is hl _)))
                      go_wp2
                      exact ⟨⟨m + 1, by go_num, by omega, HSm.out.drewN _, hst.out.symm.trans heqm.out⟩, by simp [intOf] <;> omega⟩
                    · have hl1 : ltInt dk[m]! z = false := by rw [Bool.not_eq_true] at hl; exact hl
                      clear hl
                      have HM1 := Lib.hid ((scanUp_e ((fun x => ltInt x z)) dk j m (.inr (by simp [hl1]))).symm.trans heqm.out)
                      generalize hxm : dk[m]! = xm at hl1 cm
                      clear hxm hdz1
                      go_wp2_with fail
                      go_quiet ((go_at_call 59; exact Calls.quiet_of_same (less_is hl1 _)))
                      clear hdd1 hdd2 cm ca hl1 him hia
                      generalize hwq : wr.drewN _ = wq1
                      have HSq1 := Lib.hid (show St w blk cap dk wq1 by rw [← hwq]; exact HSm.out.drewN _)
                      clear hwq HSm
                      have HLE1 := Lib.hid hle1; clear hle1
                      obtain ⟨i2, rfl⟩ : ∃ i2, i2 = m := ⟨_, rfl⟩
                      have HI2 := HM1
                      obtain ⟨wo1, rfl⟩ : ∃ wo : World, wo = wq1 := ⟨_, rfl⟩
                      clear heqm
                      have hle1 := HLE1.out
                      go_wp2_with fail

                      go_loopw [11] (fun s wr => ∃ m : Nat, s = .int .i64 (m : Int) ∧ (m ≤ j ∧ i2 ≤ m + 2) ∧ St w blk cap dk wr ∧ Hid (scanDown (fun x => !ltInt x z) dk i2 m = scanDown (fun x => !ltInt x z) dk i2 j)) (fun s _ => (intOf s).toNat)
                      case atStart => exact ⟨j, rfl, by omega, HSq1.out, rfl⟩
                      case round =>
                        obtain ⟨m, rfl, hmr, hSm, heqm⟩ := hrel
                        have HSm := Lib.hid hSm
                        clear hSm HSq1
                        have hdz2 := hds.out
                        by_cases hle2 : i2 ≤ m
                        · have hdd1 : decide (i2 ≤ m) = true := decide_eq_true hle2
                          have hdd2 : decide ((i2 : Int) ≤ (m : Int)) = true := decide_eq_true (by omega)
                          have him : (m : Int) < (n : Int) := by omega
                          have hia : (a : Int) < (n : Int) := by omega
                          have cm := HSm.out.cell (i := m) (by omega)
                          have ca : wr.cell? ⟨blk, a, none⟩ = some (.int .u32 z) := by rw [HZ.out]; exact HSm.out.cell (i := a) (by omega)
                          by_cases hl : ltInt dk[m]! z = false
                          · have hst := Lib.hid (scanDown_g ((fun x => !ltInt x z)) dk i2 m (by omega) (by omega) (by simp [hl]))
                            generalize hxm : dk[m]! = xm at hl cm
                            clear hxm hdz2
                            go_wp2_with fail
                            go_quiet ((go_at_call 59; exact Calls.quiet_of_same (less_is hl _)))
                            go_wp2
                            exact ⟨⟨m - 1, by rw [show (m : Int) - 1 = ((m - 1 : Nat) : Int) by omega], by omega, HSm.out.drewN _, hst.out.symm.trans heqm.out⟩, by simp [intOf] <;> omega⟩
                          · have hl2 : ltInt dk[m]! z = true := by rw [Bool.not_eq_false] at hl; exact hl
                            clear hl
                            have HM2 := Lib.hid ((scanDown_e ((fun x => !ltInt x z)) dk i2 m (.inr (by simp [hl2]))).symm.trans heqm.out)
                            generalize hxm : dk[m]! = xm at hl2 cm
                            clear hxm hdz2
                            go_wp2_with fail
                            go_quiet ((go_at_call 59; exact Calls.quiet_of_same (less_is hl2 _)))
                            clear hdd1 hdd2 cm ca hl2 him hia
                            generalize hwq : wr.drewN _ = wq2
                            have HSq2 := Lib.hid (show St w blk cap dk wq2 by rw [← hwq]; exact HSm.out.drewN _)
                            clear hwq HSm
                            have HLE2 := Lib.hid hle2; clear hle2
                            obtain ⟨j2, rfl⟩ : ∃ j2, j2 = m := ⟨_, rfl⟩
                            have HJ2 := HM2
                            have hij2 := HLE2.out
                            have hgt : ¬ i2 > j2 := by omega
                            have hd1 : decide (j2 < i2) = false := decide_eq_false hgt
                            have hd2 : decide ((j2 : Int) < (i2 : Int)) = false := decide_eq_false (by omega)
                            have hgo := Lib.hid (pl_go (a := a) (i := i) (j := j) (d := dk) (by have h := HI2.out; rw [HZ.out] at h; exact h) (by have h := HJ2.out; rw [HZ.out] at h; exact h) hgt)
                            have hdz := hds.out
                            have ci := HSq2.out.cell (i := i2) (by omega)
                            have cj := HSq2.out.cell (i := j2) (by omega)
                            have fi := HSq2.out.frozen i2
                            have fj := HSq2.out.frozen j2
                            have ii : (i2 : Int) < (n : Int) := by omega
                            have ij : (j2 : Int) < (n : Int) := by omega
                            have hsw2 := Lib.hid (fun W (h : St w blk cap dk W) => (h.swp (i := i2) (j := j2) (by omega) (by omega)).drew)
                            have hsz2 := Lib.hid ((size_sw dk i2 j2).trans hds.out)
                            clear hdz
                            have ej : (j2 : Int) - 1 = ((j2 - 1 : Nat) : Int) := by omega
                            have hme : j2 - 1 + 1 - (i2 + 1) < j + 1 - i := by omega
                            have hra : a + 1 ≤ i2 + 1 ∧ i2 + 1 ≤ j2 - 1 + 2 ∧ i2 + 1 ≤ n ∧ a ≤ j2 - 1 ∧ j2 - 1 < b := by omega
                            generalize hx2 : dk[i2]! = x2 at ci hsw2
                            generalize hy2 : dk[j2]! = y2 at cj hsw2
                            clear hx2 hy2
                            obtain ⟨v', hv'⟩ := cell?_setCell_some (w := wq2) (p := ⟨blk, i2, none⟩) (x := .int .u32 y2) (q := ⟨blk, j2, none⟩) (v := .int .u32 y2) cj
                            go_wp2_with fail
                            go_region
                            clear hv' ci cj fi fj
                            go_wp2
                            refine ⟨⟨i2 + 1, j2 - 1, swp dk i2 j2, by go_num, rfl, hra, hsz2, hsw2.out _ HSq2.out, hgo.out.symm.trans heq.out⟩, by simp [intOf] <;> omega⟩
                        · have hdd1 : decide (i2 ≤ m) = false := decide_eq_false hle2
                          have hdd2 : decide ((i2 : Int) ≤ (m : Int)) = false := decide_eq_false (by omega)
                          have HM2 := Lib.hid ((scanDown_e ((fun x => !ltInt x z)) dk i2 m (.inl hle2)).symm.trans heqm.out)
                          clear hdz2
                          go_wp2_with fail
                          go_quiet (fail)
                          clear hdd1 hdd2
                          generalize hwq : wr.drewN _ = wq2
                          have HSq2 := Lib.hid (show St w blk cap dk wq2 by rw [← hwq]; exact HSm.out.drewN _)
                          clear hwq HSm
                          obtain ⟨j2, rfl⟩ : ∃ j2, j2 = m := ⟨_, rfl⟩
                          have HJ2 := HM2
                          have hgt : i2 > j2 := by omega
                          have hd1 : decide (j2 < i2) = true := decide_eq_true hgt
                          have hd2 : decide ((j2 : Int) < (i2 : Int)) = true := decide_eq_true (by omega)
                          have hend := Lib.hid (pl_end (a := a) (i := i) (j := j) (d := dk) (by have h := HI2.out; rw [HZ.out] at h; exact h) (by have h := HJ2.out; rw [HZ.out] at h; exact h) hgt)
                          have hdz := hds.out
                          have ci := HSq2.out.cell (i := j2) (by omega)
                          have cj := HSq2.out.cell (i := a) (by omega)
                          have fi := HSq2.out.frozen j2
                          have fj := HSq2.out.frozen a
                          have ii : (j2 : Int) < (n : Int) := by omega
                          have ij : (a : Int) < (n : Int) := by omega
                          have hsw2 := Lib.hid (fun W (h : St w blk cap dk W) => (h.swp (i := j2) (j := a) (by omega) (by omega)).drew)
                          have hsz2 := Lib.hid ((size_sw dk j2 a).trans hds.out)
                          clear hdz
                          generalize hx2 : dk[j2]! = x2 at ci hsw2
                          generalize hy2 : dk[a]! = y2 at cj hsw2
                          clear hx2 hy2
                          obtain ⟨v', hv'⟩ := cell?_setCell_some (w := wq2) (p := ⟨blk, j2, none⟩) (x := .int .u32 y2) (q := ⟨blk, a, none⟩) (v := .int .u32 y2) cj
                          go_wp2_with fail
                          go_region
                          clear hv' ci cj fi fj
                          go_wp2
                          go_ret2
                          have h := hgoP.out
                          rw [← heq.out, hend.out] at h
                          exact ⟨by rw [h]; rfl, by rw [h]; exact hsw2.out _ HSq2.out⟩
                  · have hdd1 : decide (m ≤ j) = false := decide_eq_false hle1
                    have hdd2 : decide ((m : Int) ≤ (j : Int)) = false := decide_eq_false (by omega)
                    have HM1 := Lib.hid ((scanUp_e ((fun x => ltInt x z)) dk j m (.inl hle1)).symm.trans heqm.out)
                    clear hdz1
                    go_wp2_with fail
                    go_quiet (fail)
                    clear hdd1 hdd2
                    generalize hwq : wr.drewN _ = wq1
                    have HSq1 := Lib.hid (show St w blk cap dk wq1 by rw [← hwq]; exact HSm.out.drewN _)
                    clear hwq HSm
                    obtain ⟨i2, rfl⟩ : ∃ i2, i2 = m := ⟨_, rfl⟩
                    have HI2 := HM1
                    obtain ⟨wo1, rfl⟩ : ∃ wo : World, wo = wq1 := ⟨_, rfl⟩
                    clear heqm

                    go_wp2_with fail

                    go_loopw [11] (fun s wr => ∃ m : Nat, s = .int .i64 (m : Int) ∧ (m ≤ j ∧ i2 ≤ m + 2) ∧ St w blk cap dk wr ∧ Hid (scanDown (fun x => !ltInt x z) dk i2 m = scanDown (fun x => !ltInt x z) dk i2 j)) (fun s _ => (intOf s).toNat)
                    case atStart => exact ⟨j, rfl, by omega, HSq1.out, rfl⟩
                    case round =>
                      obtain ⟨m, rfl, hmr, hSm, heqm⟩ := hrel
                      have HSm := Lib.hid hSm
                      clear hSm HSq1
                      have hdz2 := hds.out
                      have hle2 : ¬ i2 ≤ m := by omega
                      · have hdd1 : decide (i2 ≤ m) = false := decide_eq_false hle2
                        have hdd2 : decide ((i2 : Int) ≤ (m : Int)) = false := decide_eq_false (by omega)
                        have HM2 := Lib.hid ((scanDown_e ((fun x => !ltInt x z)) dk i2 m (.inl hle2)).symm.trans heqm.out)
                        clear hdz2
                        go_wp2_with fail
                        go_quiet (fail)
                        clear hdd1 hdd2
                        generalize hwq : wr.drewN _ = wq2
                        have HSq2 := Lib.hid (show St w blk cap dk wq2 by rw [← hwq]; exact HSm.out.drewN _)
                        clear hwq HSm
                        obtain ⟨j2, rfl⟩ : ∃ j2, j2 = m := ⟨_, rfl⟩
                        have HJ2 := HM2
                        have hgt : i2 > j2 := by omega
                        have hd1 : decide (j2 < i2) = true := decide_eq_true hgt
                        have hd2 : decide ((j2 : Int) < (i2 : Int)) = true := decide_eq_true (by omega)
                        have hend := Lib.hid (pl_end (a := a) (i := i) (j := j) (d := dk) (by have h := HI2.out; rw [HZ.out] at h; exact h) (by have h := HJ2.out; rw [HZ.out] at h; exact h) hgt)
                        have hdz := hds.out
                        have ci := HSq2.out.cell (i := j2) (by omega)
                        have cj := HSq2.out.cell (i := a) (by omega)
                        have fi := HSq2.out.frozen j2
                        have fj := HSq2.out.frozen a
                        have ii : (j2 : Int) < (n : Int) := by omega
                        have ij : (a : Int) < (n : Int) := by omega
                        have hsw2 := Lib.hid (fun W (h : St w blk cap dk W) => (h.swp (i := j2) (j := a) (by omega) (by omega)).drew)
                        have hsz2 := Lib.hid ((size_sw dk j2 a).trans hds.out)
                        clear hdz
                        generalize hx2 : dk[j2]! = x2 at ci hsw2
                        generalize hy2 : dk[a]! = y2 at cj hsw2
                        clear hx2 hy2
                        obtain ⟨v', hv'⟩ := cell?_setCell_some (w := wq2) (p := ⟨blk, j2, none⟩) (x := .int .u32 y2) (q := ⟨blk, a, none⟩) (v := .int .u32 y2) cj
                        go_wp2_with fail
                        go_region
                        clear hv' ci cj fi fj
                        go_wp2
                        go_ret2
                        have h := hgoP.out
                        rw [← heq.out, hend.out] at h
                        exact ⟨by rw [h]; rfl, by rw [h]; exact hsw2.out _ HSq2.out⟩
          · have hdd1 : decide (i2 ≤ m) = false := decide_eq_false hle2
            have hdd2 : decide ((i2 : Int) ≤ (m : Int)) = false := decide_eq_false (by omega)
            have HM2 := Lib.hid ((scanDown_e ((fun x => !ltInt x z)) d1 i2 m (.inl hle2)).symm.trans heqm.out)
            clear hdz2
            go_wp2_with fail
            go_quiet (fail)
            clear hdd1 hdd2
            generalize hwq : wr.drewN _ = wq2
            have HSq2 := Lib.hid (show St w blk cap d1 wq2 by rw [← hwq]; exact HSm.out.drewN _)
            clear hwq HSm
            obtain ⟨j2, rfl⟩ : ∃ j2, j2 = m := ⟨_, rfl⟩
            have HJ2 := HM2
            have hgt : i2 > j2 := by omega
            have hd1 : decide (j2 < i2) = true := decide_eq_true hgt
            have hd2 : decide ((j2 : Int) < (i2 : Int)) = true := decide_eq_true (by omega)
            have hend := Lib.hid (part_end HD1.out (by have h := HI2.out; rw [HZ.out, HI.out, HJ.out] at h; exact h) (by have h := HJ2.out; rw [HZ.out, HJ.out] at h; exact h) hgt)
            have hdz := hds.out
            have ci := HSq2.out.cell (i := j2) (by omega)
            have cj := HSq2.out.cell (i := a) (by omega)
            have fi := HSq2.out.frozen j2
            have fj := HSq2.out.frozen a
            have ii : (j2 : Int) < (n : Int) := by omega
            have ij : (a : Int) < (n : Int) := by omega
            have hsw2 := Lib.hid (fun W (h : St w blk cap d1 W) => (h.swp (i := j2) (j := a) (by omega) (by omega)).drew)
            have hsz2 := Lib.hid ((size_sw d1 j2 a).trans hds.out)
            clear hdz
            generalize hx2 : d1[j2]! = x2 at ci hsw2
            generalize hy2 : d1[a]! = y2 at cj hsw2
            clear hx2 hy2
            obtain ⟨v', hv'⟩ := cell?_setCell_some (w := wq2) (p := ⟨blk, j2, none⟩) (x := .int .u32 y2) (q := ⟨blk, a, none⟩) (v := .int .u32 y2) cj
            go_wp2_with fail
            go_region
            clear hv' ci cj fi fj
            go_wp2
            go_ret2
            exact ⟨by rw [hend.out]; rfl, by rw [hend.out]; exact hsw2.out _ HSq2.out⟩
    · have hdd1 : decide (m ≤ j) = false := decide_eq_false hle1
      have hdd2 : decide ((m : Int) ≤ (j : Int)) = false := decide_eq_false (by omega)
      have HM1 := Lib.hid ((scanUp_e ((fun x => ltInt x z)) d1 j m (.inl hle1)).symm.trans heqm.out)
      clear hdz1
      go_wp2_with fail
      go_quiet (fail)
      clear hdd1 hdd2
      generalize hwq : wr.drewN _ = wq1
      have HSq1 := Lib.hid (show St w blk cap d1 wq1 by rw [← hwq]; exact HSm.out.drewN _)
      clear hwq HSm
      obtain ⟨i2, rfl⟩ : ∃ i2, i2 = m := ⟨_, rfl⟩
      have HI2 := HM1
      obtain ⟨wo1, rfl⟩ : ∃ wo : World, wo = wq1 := ⟨_, rfl⟩
      clear heqm

      go_wp2_with fail

      go_loopw [11] (fun s wr => ∃ m : Nat, s = .int .i64 (m : Int) ∧ (m ≤ j ∧ i2 ≤ m + 2) ∧ St w blk cap d1 wr ∧ Hid (scanDown (fun x => !ltInt x z) d1 i2 m = scanDown (fun x => !ltInt x z) d1 i2 j)) (fun s _ => (intOf s).toNat)
      case atStart => exact ⟨j, rfl, by omega, HSq1.out, rfl⟩
      case round =>
        obtain ⟨m, rfl, hmr, hSm, heqm⟩ := hrel
        have HSm := Lib.hid hSm
        clear hSm HSq1
        have hdz2 := hds.out
        have hle2 : ¬ i2 ≤ m := by omega
        · have hdd1 : decide (i2 ≤ m) = false := decide_eq_false hle2
          have hdd2 : decide ((i2 : Int) ≤ (m : Int)) = false := decide_eq_false (by omega)
          have HM2 := Lib.hid ((scanDown_e ((fun x => !ltInt x z)) d1 i2 m (.inl hle2)).symm.trans heqm.out)
          clear hdz2
          go_wp2_with fail
          go_quiet (fail)
          clear hdd1 hdd2
          generalize hwq : wr.drewN _ = wq2
          have HSq2 := Lib.hid (show St w blk cap d1 wq2 by rw [← hwq]; exact HSm.out.drewN _)
          clear hwq HSm
          obtain ⟨j2, rfl⟩ : ∃ j2, j2 = m := ⟨_, rfl⟩
          have HJ2 := HM2
          have hgt : i2 > j2 := by omega
          have hd1 : decide (j2 < i2) = true := decide_eq_true hgt
          have hd2 : decide ((j2 : Int) < (i2 : Int)) = true := decide_eq_true (by omega)
          have hend := Lib.hid (part_end HD1.out (by have h := HI2.out; rw [HZ.out, HI.out, HJ.out] at h; exact h) (by have h := HJ2.out; rw [HZ.out, HJ.out] at h; exact h) hgt)
          have hdz := hds.out
          have ci := HSq2.out.cell (i := j2) (by omega)
          have cj := HSq2.out.cell (i := a) (by omega)
          have fi := HSq2.out.frozen j2
          have fj := HSq2.out.frozen a
          have ii : (j2 : Int) < (n : Int) := by omega
          have ij : (a : Int) < (n : Int) := by omega
          have hsw2 := Lib.hid (fun W (h : St w blk cap d1 W) => (h.swp (i := j2) (j := a) (by omega) (by omega)).drew)
          have hsz2 := Lib.hid ((size_sw d1 j2 a).trans hds.out)
          clear hdz
          generalize hx2 : d1[j2]! = x2 at ci hsw2
          generalize hy2 : d1[a]! = y2 at cj hsw2
          clear hx2 hy2
          obtain ⟨v', hv'⟩ := cell?_setCell_some (w := wq2) (p := ⟨blk, j2, none⟩) (x := .int .u32 y2) (q := ⟨blk, a, none⟩) (v := .int .u32 y2) cj
          go_wp2_with fail
          go_region
          clear hv' ci cj fi fj
          go_wp2
          go_ret2
          exact ⟨by rw [hend.out]; rfl, by rw [hend.out]; exact hsw2.out _ HSq2.out⟩
end Go.Proofs.Ytaaijgalminafaa
