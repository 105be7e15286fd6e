/-
  slices.Sort at uint32: the pivot's choice, whole.
-/
import Derived.Test.YtaaijgalminafaaSo2
namespace Go.Proofs.Ytaaijgalminafaa
open Go.RowKit Go.Sort

/-- Some place of the part, and some hint. -/
def Pv (a b : Nat) (w : World) (e : Ending) (w' : World) : Prop :=
  ∃ x h : Nat, e = .returned (.tuple #[.int .i64 (x : Int), .int .i64 (h : Int)]) ∧ a ≤ x ∧ x < b ∧ h ≤ 2 ∧ RowKit.Below w.heap.size w w'
set_option maxHeartbeats 1600000 in
set_option maxRecDepth 100000 in
theorem choosePivot_any (blk cap n : Nat) (d : Array Int) (a b : Nat) (w : World) (hL : Ls w blk cap d) (hn : d.size = n) (hab : a + 12 < b) (hb : b ≤ n) (hsz : n ≤ 1000000) :
    Calls Try.prog 56 #[.slice (some ⟨blk, 0, none⟩) n cap, .int .i64 (a : Int), .int .i64 (b : Int)] w (Pv a b w) := by
  have HN := Lib.hid hn; clear hn
  obtain ⟨q, hq⟩ : ∃ q, q = (b - a) / 4 := ⟨_, rfl⟩
  have hbx := heap_alloc_new w (.cells #[.int .i64 0] 3)
  have hLx : Ls (w.alloc (.cells #[.int .i64 0] 3)) blk cap d := hL.kept ((RowKit.Below.refl _ _).alloc (Nat.le_refl _) _)
  have hbl : RowKit.Below w.heap.size w (w.alloc (.cells #[.int .i64 0] 3)) := (RowKit.Below.refl _ _).alloc (Nat.le_refl _) _
  have hne : blk ≠ w.heap.size := by have := hL.lt; omega
  have HQ := Lib.hid hq; have HBX := Lib.hid hbx; have HLX := Lib.hid hLx; have HBL := Lib.hid hbl; have HL := Lib.hid hL
  have hq1 : 3 ≤ q := by omega
  have hq2 : a + q * 3 < b := by omega
  clear hbx hLx hbl hL
  obtain ⟨l, hl⟩ : ∃ l, l = b - a := ⟨_, rfl⟩
  obtain ⟨i1, hi1⟩ : ∃ i, i = a + q := ⟨_, rfl⟩
  obtain ⟨j1, hj1⟩ : ∃ i, i = a + q * 2 := ⟨_, rfl⟩
  obtain ⟨k1, hk1⟩ : ∃ i, i = a + q * 3 := ⟨_, rfl⟩
  have e0 : (b : Int) - (a : Int) = (l : Int) := by omega
  have f1 : Hid ((a : Int) + (l : Int) / 4 = (i1 : Int)) := by show _ = _; omega
  have f2 : Hid ((a : Int) + (l : Int) / 4 * 2 = (j1 : Int)) := by show _ = _; omega
  have f3 : Hid ((a : Int) + (l : Int) / 4 * 3 = (k1 : Int)) := by show _ = _; omega
  have hl12 : 12 < l := by omega
  have hln : l ≤ 1000000 := by omega
  have r1 : a + 3 ≤ i1 ∧ i1 + 3 ≤ j1 ∧ j1 + 3 ≤ k1 ∧ k1 < b := by omega
  have r2 : 50 ≤ l → a + 12 ≤ i1 ∧ k1 + 2 ≤ b := by omega
  obtain ⟨r3, r4, r5, r6⟩ := r1
  have HLL := Lib.hid hl; have HI := Lib.hid hi1; have HJ := Lib.hid hj1; have HK := Lib.hid hk1
  clear hq hl hi1 hj1 hk1
  go_enter Try.func56, Try.ntmps56
  have hd1 : decide ((8 : Int) ≤ (l : Int)) = true := decide_eq_true (by omega)
  by_cases h50 : 50 ≤ l
  · have hd2 : decide ((50 : Int) ≤ (l : Int)) = true := decide_eq_true (by omega)
    obtain ⟨r7, r8⟩ := r2 h50
    go_wp2_with fail
    rw [f1.out, f2.out, f3.out]
    generalize w.alloc _ = w1 at *
    refine (medianAdjacent_any blk cap n w.heap.size 0 d i1 w1 HLX.out HN.out (by omega) (by omega) hsz HBX.out (by omega) hne).mono ?_
    rintro e w2 ⟨x1, k2, rfl, h2, hk2, hg2, hw2⟩
    have HL2 := Lib.hid (HLX.out.other hw2 hne); have HG2 := Lib.hid hg2; have HW2 := Lib.hid hw2
    clear hw2 hg2
    go_wp2_with fail
    refine (medianAdjacent_any blk cap n w.heap.size k2 d j1 w2 HL2.out HN.out (by omega) (by omega) hsz HG2.out (by omega) hne).mono ?_
    rintro e w3 ⟨x2, k3, rfl, h3, hk3, hg3, hw3⟩
    have HL3 := Lib.hid (HL2.out.other hw3 hne); have HG3 := Lib.hid hg3; have HW3 := Lib.hid (grown_trans HW2.out hw3)
    clear hw3 hg3 HL2 HG2 HW2
    go_wp2_with fail
    refine (medianAdjacent_any blk cap n w.heap.size k3 d k1 w3 HL3.out HN.out (by omega) (by omega) hsz HG3.out (by omega) hne).mono ?_
    rintro e w4 ⟨x3, k4, rfl, h4, hk4, hg4, hw4⟩
    have HL4 := Lib.hid (HL3.out.other hw4 hne); have HG4 := Lib.hid hg4; have HW4 := Lib.hid (grown_trans HW3.out hw4)
    clear hw4 hg4 HL3 HG3 HW3
    go_wp2_with fail
    refine (median_any blk cap n w.heap.size k4 d x1 x2 x3 w4 HL4.out HN.out (by omega) (by omega) (by omega) hsz HG4.out (by omega) hne).mono ?_
    rintro e w5 ⟨x4, k5, rfl, h5, hk5, hg5, hw5⟩
    have HW5 := Lib.hid (grown_trans HW4.out hw5)
    have c5 := hg5.cell
    have hx5 : a ≤ x4 ∧ x4 < b := by omega
    have HX5 := Lib.hid hx5
    have hfin : RowKit.Below w.heap.size w w5 := HBL.out.grown HW5.out HBL.out.size (fun k e => by injection e with e; omega)
    have HF := Lib.hid hfin
    clear hw5 hg5 HL4 HG4 HW4 h2 h3 h4 h5 hx5 hfin
    go_wp2
    all_goals
      go_ret2
      first
        | exact ⟨x4, 1, rfl, HX5.out.1, HX5.out.2, by omega, HF.out⟩
        | exact ⟨x4, 2, rfl, HX5.out.1, HX5.out.2, by omega, HF.out⟩
        | exact ⟨x4, 0, rfl, HX5.out.1, HX5.out.2, by omega, HF.out⟩
  · have hd2 : decide ((50 : Int) ≤ (l : Int)) = false := decide_eq_false (by omega)
    go_wp2_with fail
    rw [f1.out, f2.out, f3.out]
    generalize w.alloc _ = w1 at *
    refine (median_any blk cap n w.heap.size 0 d i1 j1 k1 w1 HLX.out HN.out (by omega) (by omega) (by omega) hsz HBX.out (by omega) hne).mono ?_
    rintro e w5 ⟨x4, k5, rfl, h5, hk5, hg5, hw5⟩
    have c5 := hg5.cell
    have hx5 : a ≤ x4 ∧ x4 < b := by omega
    have HX5 := Lib.hid hx5
    have hfin : RowKit.Below w.heap.size w w5 := HBL.out.grown hw5 HBL.out.size (fun k e => by injection e with e; omega)
    have HF := Lib.hid hfin
    clear hw5 hg5 h5 hx5 hfin
    go_wp2
    all_goals
      go_ret2
      first
        | exact ⟨x4, 1, rfl, HX5.out.1, HX5.out.2, by omega, HF.out⟩
        | exact ⟨x4, 2, rfl, HX5.out.1, HX5.out.2, by omega, HF.out⟩
        | exact ⟨x4, 0, rfl, HX5.out.1, HX5.out.2, by omega, HF.out⟩
end Go.Proofs.Ytaaijgalminafaa
