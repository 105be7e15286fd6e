import Derived.Test.YtaaijgalminafaaSo1
/-
  slices.Sort at uint32: the pivot's choice (which place, and which hint, is left open).
-/
namespace Go.Proofs.Ytaaijgalminafaa
open Go.RowKit Go.Sort

theorem less_is {x y : Int} {r : Bool} (h : ltInt x y = r) (w : World) : Calls Try.prog 59 #[.int .u32 x, .int .u32 y] w fun e w' => e = .returned (.bool r) ∧ w' = w := by
  have := less_any x y w
  rwa [h] at this
/-- Block g is a box with a number. -/
def Nb (w : World) (g k : Nat) : Prop := w.heap[g]? = some (.cells #[.int .i64 (k : Int)] 3 (0, 0))
theorem Nb.cell {w : World} {g k : Nat} (h : Nb w g k) : w.cell? ⟨g, 0, none⟩ = some (.int .i64 (k : Int)) := by rw [cell_of_row _ _ 0 _ _ (0, 0) h]; rfl
theorem Nb.frozen {w : World} {g k : Nat} (h : Nb w g k) : w.frozen? ⟨g, 0, none⟩ = false := by unfold Nb at h; simp [World.frozen?, h]
theorem Nb.set {w : World} {g k : Nat} (h : Nb w g k) (j : Nat) : Nb (w.setCell ⟨g, 0, none⟩ (.int .i64 (j : Int))) g j := by unfold Nb at *; simp [World.setCell, Array.getElem?_modify, h]
theorem grown_cell (w : World) (g : Nat) (v : Value) : w.grownBy (w.setCell ⟨g, 0, none⟩ v) (some g) := ⟨rfl, rfl, rfl, by simp [World.setCell], fun k _ hne => RowKit.Below.heap_setCell w _ v k (fun e => hne (by rw [e]))⟩
theorem grown_drewN (w : World) (n : Nat) (r : Option Nat) : w.grownBy (w.drewN n) r := ⟨rfl, rfl, rfl, Nat.le_refl _, fun _ _ _ => rfl⟩
theorem Ls.other {w w' : World} {blk cap g : Nat} {d : Array Int} (h : Ls w blk cap d) (hg : w.grownBy w' (some g)) (hne : blk ≠ g) : Ls w' blk cap d := by
  have hl := h.lt
  obtain ⟨cur, h1, h2⟩ := h
  exact ⟨cur, (hg.block blk hl (fun e => hne (by injection e))).trans h1, h2⟩
/-- Two places come back, in one of the two orders. -/
def Or2 (a b g : Nat) (k : Nat) (w : World) (e : Ending) (w' : World) : Prop :=
  ∃ x y k' : Nat, e = .returned (.tuple #[.int .i64 (x : Int), .int .i64 (y : Int)]) ∧ (x = a ∧ y = b ∨ x = b ∧ y = a) ∧ k' ≤ k + 1 ∧ Nb w' g k' ∧ w.grownBy w' (some g)

set_option maxHeartbeats 1600000 in
set_option maxRecDepth 100000 in
theorem order2_any (blk cap n g k : Nat) (d : Array Int) (a b : Nat) (w : World) (hL : Ls w blk cap d) (hn : d.size = n) (ha : a < n) (hb : b < n) (hsz : n ≤ 1000000) (hg : Nb w g k) (hk : k ≤ 1000) :
    Calls Try.prog 77 #[.slice (some ⟨blk, 0, none⟩) n cap, .int .i64 (a : Int), .int .i64 (b : Int), .pointer (some ⟨g, 0, none⟩)] w (Or2 a b g k w) := by
  have ca := hL.cell (i := a) (by omega)
  have cb := hL.cell (i := b) (by omega)
  have hia : (a : Int) < (n : Int) := by omega
  have hib : (b : Int) < (n : Int) := by omega
  have cg := hg.cell
  have fg := hg.frozen
  have Hg := Lib.hid hg; have HL := Lib.hid hL
  clear hn hL hg
  go_enter Try.func77, Try.ntmps77
  generalize d[a]! = x at *
  generalize d[b]! = y at *
  go_wp2_with fail
  by_cases hl : ltInt y x = true
  · go_quiet ((go_at_call 59; exact Calls.quiet_of_same (less_is hl _)))
    go_wp2
    go_ret2
    refine ⟨b, a, k + 1, rfl, .inr ⟨rfl, rfl⟩, Nat.le_refl _, ?_, grown_trans (grown_drewN _ _ _) (grown_cell _ _ _)⟩
    exact Nb.set (k := k) (w := w.drewN _) Hg.out (k + 1)
  · rw [Bool.not_eq_true] at hl
    go_quiet ((go_at_call 59; exact Calls.quiet_of_same (less_is hl _)))
    go_wp2
    go_ret2
    exact ⟨a, b, k, rfl, .inl ⟨rfl, rfl⟩, Nat.le_succ _, Hg.out, grown_drewN _ _ _⟩

/-- One of some places comes back. -/
def Md (p : Nat → Prop) (g : Nat) (k : Nat) (w : World) (e : Ending) (w' : World) : Prop :=
  ∃ x k' : Nat, e = .returned (.int .i64 (x : Int)) ∧ p x ∧ k' ≤ k ∧ Nb w' g k' ∧ w.grownBy w' (some g)
set_option maxHeartbeats 1600000 in
set_option maxRecDepth 100000 in
theorem median_any (blk cap n g k : Nat) (d : Array Int) (a b c : Nat) (w : World) (hL : Ls w blk cap d) (hn : d.size = n) (ha : a < n) (hb : b < n) (hc : c < n) (hsz : n ≤ 1000000) (hg : Nb w g k) (hk : k ≤ 900) (hne : blk ≠ g) :
    Calls Try.prog 72 #[.slice (some ⟨blk, 0, none⟩) n cap, .int .i64 (a : Int), .int .i64 (b : Int), .int .i64 (c : Int), .pointer (some ⟨g, 0, none⟩)] w (Md (fun x => x = a ∨ x = b ∨ x = c) g (k + 3) w) := by
  have HN := Lib.hid hn; clear hn
  go_enter Try.func72, Try.ntmps72
  go_wp2_with fail
  refine (order2_any blk cap n g k d a b w hL HN.out ha hb hsz hg (by omega)).mono ?_
  rintro e w1 ⟨x1, y1, k1, rfl, h1, hk1, hg1, hw1⟩
  have hL1 := hL.other hw1 hne
  have H1 := Lib.hid h1; have hx1 : x1 < n := by omega
  have hy1 : y1 < n := by omega
  clear h1
  go_wp2_with fail
  refine (order2_any blk cap n g k1 d y1 c w1 hL1 HN.out hy1 hc hsz hg1 (by omega)).mono ?_
  rintro e w2 ⟨x2, y2, k2, rfl, h2, hk2, hg2, hw2⟩
  have hL2 := hL1.other hw2 hne
  have H2 := Lib.hid h2; have hx2 : x2 < n := by omega
  clear h2
  go_wp2_with fail
  refine (order2_any blk cap n g k2 d x1 x2 w2 hL2 HN.out hx1 hx2 hsz hg2 (by omega)).mono ?_
  rintro e w3 ⟨x3, y3, k3, rfl, h3, hk3, hg3, hw3⟩
  have H3 := Lib.hid h3
  clear h3
  go_wp2
  go_ret
  refine ⟨y3, k3, rfl, ?_, by omega, hg3, grown_trans (grown_trans hw1 hw2) hw3⟩
  have h1 := H1.out; have h2 := H2.out; have h3 := H3.out
  omega

set_option maxHeartbeats 1600000 in
set_option maxRecDepth 100000 in
theorem medianAdjacent_any (blk cap n g k : Nat) (d : Array Int) (a : Nat) (w : World) (hL : Ls w blk cap d) (hn : d.size = n) (ha : 1 ≤ a) (hb : a + 1 < n) (hsz : n ≤ 1000000) (hg : Nb w g k) (hk : k ≤ 900) (hne : blk ≠ g) :
    Calls Try.prog 71 #[.slice (some ⟨blk, 0, none⟩) n cap, .int .i64 (a : Int), .pointer (some ⟨g, 0, none⟩)] w (Md (fun x => a - 1 ≤ x ∧ x ≤ a + 1) g (k + 3) w) := by
  have HN := Lib.hid hn; clear hn
  go_enter Try.func71, Try.ntmps71
  go_wp2_with fail
  have e1 : (a : Int) - 1 = ((a - 1 : Nat) : Int) := by omega
  have e2 : (a : Int) + 1 = ((a + 1 : Nat) : Int) := by omega
  rw [e1, e2]
  clear e1 e2
  refine (median_any blk cap n g k d (a - 1) a (a + 1) w hL HN.out (by omega) (by omega) (by omega) hsz hg hk hne).mono ?_
  rintro e w1 ⟨x1, k1, rfl, h1, hk1, hg1, hw1⟩
  have H1 := Lib.hid h1
  clear h1
  go_wp2
  go_ret
  exact ⟨x1, k1, rfl, by have := H1.out; omega, by omega, hg1, hw1⟩
end Go.Proofs.Ytaaijgalminafaa
/-
  slices.Sort at uint32: the pivot's choice, whole.
-/
namespace Go.Proofs.Ytaaijgalminafaa
open Go.RowKit Go.Sort

/-- Some place of the part, and some hint. -/
def Pv (a b : Nat) (w : World) (e : Ending) (w' : World) : Prop :=
  ∃ x h : Nat, e = .returned (.tuple #[.int .i64 (x : Int), .int .i64 (h : Int)]) ∧ a ≤ x ∧ x < b ∧ h ≤ 2 ∧ RowKit.Below w.heap.size w w'
set_option maxHeartbeats 1600000 in
set_option maxRecDepth 100000 in
theorem choosePivot_any (blk cap n : Nat) (d : Array Int) (a b : Nat) (w : World) (hL : Ls w blk cap d) (hn : d.size = n) (hab : a + 12 < b) (hb : b ≤ n) (hsz : n ≤ 1000000) :
    Calls Try.prog 56 #[.slice (some ⟨blk, 0, none⟩) n cap, .int .i64 (a : Int), .int .i64 (b : Int)] w (Pv a b w) := by
  have HN := Lib.hid hn; clear hn
  obtain ⟨q, hq⟩ : ∃ q, q = (b - a) / 4 := ⟨_, rfl⟩
  have hbx := heap_alloc_new w (.cells #[.int .i64 0] 3)
  have hLx : Ls (w.alloc (.cells #[.int .i64 0] 3)) blk cap d := hL.kept ((RowKit.Below.refl _ _).alloc (Nat.le_refl _) _)
  have hbl : RowKit.Below w.heap.size w (w.alloc (.cells #[.int .i64 0] 3)) := (RowKit.Below.refl _ _).alloc (Nat.le_refl _) _
  have hne : blk ≠ w.heap.size := by have := hL.lt; omega
  have HQ := Lib.hid hq; have HBX := Lib.hid hbx; have HLX := Lib.hid hLx; have HBL := Lib.hid hbl; have HL := Lib.hid hL
  have hq1 : 3 ≤ q := by omega
  have hq2 : a + q * 3 < b := by omega
  clear hbx hLx hbl hL
  obtain ⟨l, hl⟩ : ∃ l, l = b - a := ⟨_, rfl⟩
  obtain ⟨i1, hi1⟩ : ∃ i, i = a + q := ⟨_, rfl⟩
  obtain ⟨j1, hj1⟩ : ∃ i, i = a + q * 2 := ⟨_, rfl⟩
  obtain ⟨k1, hk1⟩ : ∃ i, i = a + q * 3 := ⟨_, rfl⟩
  have e0 : (b : Int) - (a : Int) = (l : Int) := by omega
  have f1 : Hid ((a : Int) + (l : Int) / 4 = (i1 : Int)) := by show _ = _; omega
  have f2 : Hid ((a : Int) + (l : Int) / 4 * 2 = (j1 : Int)) := by show _ = _; omega
  have f3 : Hid ((a : Int) + (l : Int) / 4 * 3 = (k1 : Int)) := by show _ = _; omega
  have hl12 : 12 < l := by omega
  have hln : l ≤ 1000000 := by omega
  have r1 : a + 3 ≤ i1 ∧ i1 + 3 ≤ j1 ∧ j1 + 3 ≤ k1 ∧ k1 < b := by omega
  have r2 : 50 ≤ l → a + 12 ≤ i1 ∧ k1 + 2 ≤ b := by omega
  obtain ⟨r3, r4, r5, r6⟩ := r1
  have HLL := Lib.hid hl; have HI := Lib.hid hi1; have HJ := Lib.hid hj1; have HK := Lib.hid hk1
  clear hq hl hi1 hj1 hk1
  go_enter Try.func56, Try.ntmps56
  have hd1 : decide ((8 : Int) ≤ (l : Int)) = true := decide_eq_true (by omega)
  by_cases h50 : 50 ≤ l
  · have hd2 : decide ((50 : Int) ≤ (l : Int)) = true := decide_eq_true (by omega)
    obtain ⟨r7, r8⟩ := r2 h50
    go_wp2_with fail
    rw [f1.out, f2.out, f3.out]
    generalize w.alloc _ = w1 at *
    refine (medianAdjacent_any blk cap n w.heap.size 0 d i1 w1 HLX.out HN.out (by omega) (by omega) hsz HBX.out (by omega) hne).mono ?_
    rintro e w2 ⟨x1, k2, rfl, h2, hk2, hg2, hw2⟩
    have HL2 := Lib.hid (HLX.out.other hw2 hne); have HG2 := Lib.hid hg2; have HW2 := Lib.hid hw2
    clear hw2 hg2
    go_wp2_with fail
    refine (medianAdjacent_any blk cap n w.heap.size k2 d j1 w2 HL2.out HN.out (by omega) (by omega) hsz HG2.out (by omega) hne).mono ?_
    rintro e w3 ⟨x2, k3, rfl, h3, hk3, hg3, hw3⟩
    have HL3 := Lib.hid (HL2.out.other hw3 hne); have HG3 := Lib.hid hg3; have HW3 := Lib.hid (grown_trans HW2.out hw3)
    clear hw3 hg3 HL2 HG2 HW2
    go_wp2_with fail
    refine (medianAdjacent_any blk cap n w.heap.size k3 d k1 w3 HL3.out HN.out (by omega) (by omega) hsz HG3.out (by omega) hne).mono ?_
    rintro e w4 ⟨x3, k4, rfl, h4, hk4, hg4, hw4⟩
    have HL4 := Lib.hid (HL3.out.other hw4 hne); have HG4 := Lib.hid hg4; have HW4 := Lib.hid (grown_trans HW3.out hw4)
    clear hw4 hg4 HL3 HG3 HW3
    go_wp2_with fail
    refine (median_any blk cap n w.heap.size k4 d x1 x2 x3 w4 HL4.out HN.out (by omega) (by omega) (by omega) hsz HG4.out (by omega) hne).mono ?_
    rintro e w5 ⟨x4, k5, rfl, h5, hk5, hg5, hw5⟩
    have HW5 := Lib.hid (grown_trans HW4.out hw5)
    have c5 := hg5.cell
    have hx5 : a ≤ x4 ∧ x4 < b := by omega
    have HX5 := Lib.hid hx5
    have hfin : RowKit.Below w.heap.size w w5 := HBL.out.grown HW5.out HBL.out.size (fun k e => by injection e with e; omega)
    have HF := Lib.hid hfin
    clear hw5 hg5 HL4 HG4 HW4 h2 h3 h4 h5 hx5 hfin
    go_wp2
    all_goals
      go_ret2
      first
        | exact ⟨x4, 1, rfl, HX5.out.1, HX5.out.2, by omega, HF.out⟩
        | exact ⟨x4, 2, rfl, HX5.out.1, HX5.out.2, by omega, HF.out⟩
        | exact ⟨x4, 0, rfl, HX5.out.1, HX5.out.2, by omega, HF.out⟩
  · have hd2 : decide ((50 : Int) ≤ (l : Int)) = false := decide_eq_false (by omega)
    go_wp2_with fail
    rw [f1.out, f2.out, f3.out]
    generalize w.alloc _ = w1 at *
    refine (median_any blk cap n w.heap.size 0 d i1 j1 k1 w1 HLX.out HN.out (by omega) (by omega) (by omega) hsz HBX.out (by omega) hne).mono ?_
    rintro e w5 ⟨x4, k5, rfl, h5, hk5, hg5, hw5⟩
    have c5 := hg5.cell
    have hx5 : a ≤ x4 ∧ x4 < b := by omega
    have HX5 := Lib.hid hx5
    have hfin : RowKit.Below w.heap.size w w5 := HBL.out.grown hw5 HBL.out.size (fun k e => by injection e with e; omega)
    have HF := Lib.hid hfin
    clear hw5 hg5 h5 hx5 hfin
    go_wp2
    all_goals
      go_ret2
      first
        | exact ⟨x4, 1, rfl, HX5.out.1, HX5.out.2, by omega, HF.out⟩
        | exact ⟨x4, 2, rfl, HX5.out.1, HX5.out.2, by omega, HF.out⟩
        | exact ⟨x4, 0, rfl, HX5.out.1, HX5.out.2, by omega, HF.out⟩
end Go.Proofs.Ytaaijgalminafaa
