import Derived.Test.YtaaijgalminafaaProg
import Derived.WalkKit
import Derived.WalkSpells
import Derived.WalkLawsBesides
import Derived.Handy
import Derived.Lib.Hide
import Derived.BigQuiet
import Derived.Deep.QuietTactic
import Derived.Deep.LoopGhost
import Derived.RegionTactic
import Derived.BigRegion
import Derived.IntWalk
import Derived.Laws.AppendOwn
import Derived.Sort.AssemblyPlain
import Derived.Sort.Row
/-
  slices.Sort at uint32: where the row lies, and what one exchange makes of it; cmp.Less; insertionSort, reverseRange.
-/
namespace Go.Proofs.Ytaaijgalminafaa
open Go.RowKit Go.Sort

/-- Block blk is a row of 'cap' numbers whose first ones are d. -/
def Ls (w : World) (blk cap : Nat) (d : Array Int) : Prop :=
  ∃ cur : Array Value, w.heap[blk]? = some (.cells cur 25 (0, 0)) ∧ cur.size = cap ∧ d.size ≤ cap ∧ ∀ i, i < d.size → cur[i]? = some (.int .u32 d[i]!)
/-- .. and all else is as it was in w. -/
structure St (w : World) (blk cap : Nat) (d : Array Int) (w' : World) : Prop where
  l : Ls w' blk cap d
  g : w.grownBy w' (some blk)
section
variable {w w1 w2 : World} {blk cap : Nat} {d d' : Array Int}
theorem grown_refl (w : World) (r : Option Nat) : w.grownBy w r := ⟨rfl, rfl, rfl, Nat.le_refl _, fun _ _ _ => rfl⟩
theorem grown_trans {r : Option Nat} (h : w.grownBy w1 r) (k : w1.grownBy w2 r) : w.grownBy w2 r :=
  ⟨k.os.trans h.os, k.tape.trans h.tape, k.output.trans h.output, Nat.le_trans h.size k.size, fun i hi hne => (k.block i (Nat.lt_of_lt_of_le hi h.size) hne).trans (h.block i hi hne)⟩
theorem Ls.st (h : Ls w blk cap d) : St w blk cap d w := ⟨h, grown_refl _ _⟩
theorem Ls.lt (h : Ls w blk cap d) : blk < w.heap.size := by obtain ⟨cur, h1, _⟩ := h; exact (Array.getElem?_eq_some_iff.1 h1).1
theorem Ls.cell (h : Ls w blk cap d) {i : Nat} (hi : i < d.size) : w.cell? ⟨blk, i, none⟩ = some (.int .u32 d[i]!) := by
  obtain ⟨cur, h1, _, _, h4⟩ := h
  rw [cell_of_row _ _ i _ _ (0, 0) h1]
  exact h4 i hi
theorem Ls.frozen (h : Ls w blk cap d) (i : Nat) : w.frozen? ⟨blk, i, none⟩ = false := by
  obtain ⟨cur, h1, _⟩ := h
  simp [World.frozen?, h1]
theorem Ls.kept (h : Ls w blk cap d) (hb : Below w.heap.size w w1) : Ls w1 blk cap d := by
  have hl := h.lt
  obtain ⟨cur, h1, h2⟩ := h
  exact ⟨cur, (hb.block blk hl).trans h1, h2⟩
theorem Ls.set (h : Ls w blk cap d) {i : Nat} (hi : i < d.size) (x : Int) : Ls (w.setCell ⟨blk, i, none⟩ (.int .u32 x)) blk cap (d.setIfInBounds i x) := by
  obtain ⟨cur, h1, h2, h3, h4⟩ := h
  refine ⟨cur.setIfInBounds i (.int .u32 x), ?_, by simpa using h2, by simpa using h3, fun j hj => ?_⟩
  · simp [World.setCell, Array.getElem?_modify, h1]
  · rw [Array.getElem?_setIfInBounds]
    by_cases hij : i = j
    · subst hij
      have hs := Array.size_setIfInBounds (xs := d) (i := i) (a := x)
      rw [if_pos rfl, if_pos (by omega), getElem!_set_same d i x hi]
    · rw [if_neg hij, getElem!_set_other d i j x (fun e => hij e.symm)]
      exact h4 j (by simpa using hj)
theorem St.below (h : St w blk cap d w1) (hb : Below w1.heap.size w1 w2) : St w blk cap d w2 :=
  ⟨h.l.kept hb, grown_trans h.g ⟨hb.os, hb.tape, hb.output, hb.size, fun k hk _ => hb.block k hk⟩⟩
theorem St.drewN (h : St w blk cap d w1) (n : Nat) : St w blk cap d (w1.drewN n) := h.below ⟨rfl, rfl, rfl, Nat.le_refl _, fun _ _ => rfl⟩
theorem St.drew (h : St w blk cap d w1) : St w blk cap d w1.drew := h.below ⟨rfl, rfl, rfl, Nat.le_refl _, fun _ _ => rfl⟩
theorem St.set (h : St w blk cap d w1) {i : Nat} (hi : i < d.size) (x : Int) : St w blk cap (d.setIfInBounds i x) (w1.setCell ⟨blk, i, none⟩ (.int .u32 x)) :=
  ⟨h.l.set hi x, grown_trans h.g ⟨rfl, rfl, rfl, by simp [World.setCell], fun k _ hne => RowKit.Below.heap_setCell w1 _ _ k (fun e => hne (by rw [e]))⟩⟩
theorem St.swp (h : St w blk cap d w1) {i j : Nat} (hi : i < d.size) (hj : j < d.size) : St w blk cap (swp d i j) ((w1.setCell ⟨blk, i, none⟩ (.int .u32 d[j]!)).setCell ⟨blk, j, none⟩ (.int .u32 d[i]!)) :=
  (h.set hi d[j]!).set (by simpa using hj) d[i]!
theorem St.trans (h : St w blk cap d w1) (k : St w1 blk cap d' w2) : St w blk cap d' w2 := ⟨k.l, grown_trans h.g k.g⟩
theorem St.cell (h : St w blk cap d w1) {i : Nat} (hi : i < d.size) : w1.cell? ⟨blk, i, none⟩ = some (.int .u32 d[i]!) := h.l.cell hi
theorem St.frozen (h : St w blk cap d w1) (i : Nat) : w1.frozen? ⟨blk, i, none⟩ = false := h.l.frozen i
theorem size_sw (d : Array Int) (i j : Nat) : (swp d i j).size = d.size := by simp [swp]
end

theorem isNaN_any (x : Int) (w : World) : Calls Try.prog 73 #[.int .u32 x] w fun e w' => e = .returned (.bool false) ∧ w' = w := by
  go_enter Try.func73, Try.ntmps73
  go_wp2
  go_ret
  exact ⟨by simp, rfl⟩
/-- cmp.Less. -/
theorem less_any (x y : Int) (w : World) : Calls Try.prog 59 #[.int .u32 x, .int .u32 y] w fun e w' => e = .returned (.bool (ltInt x y)) ∧ w' = w := by
  go_enter Try.func59, Try.ntmps59
  go_wp2_with (go_at_call 73; refine (isNaN_any _ _).mono ?_; rintro e w' ⟨rfl, rfl⟩)
  go_ret
  exact ⟨rfl, rfl⟩

set_option maxHeartbeats 1600000 in
set_option maxRecDepth 100000 in
theorem reverseRange_any (blk cap n : Nat) (d : Array Int) (a b : Nat) (w : World) (hL : Ls w blk cap d) (hn : d.size = n) (hab : a ≤ b) (hb : b ≤ n) (hsz : n ≤ 1000000) :
    Calls Try.prog 57 #[.slice (some ⟨blk, 0, none⟩) n cap, .int .i64 (a : Int), .int .i64 (b : Int)] w fun e w' => e = .returned (.tuple #[]) ∧ St w blk cap (reverseRange d a b) w' := by
  have HN := Lib.hid hn; clear hn
  have HL := Lib.hid hL; clear hL
  go_enter Try.func57, Try.ntmps57
  go_wp2
  go_loopg [6, 7] (b - a) (fun k s6 s7 wr => ∃ (i jn : Nat) (jz : Int) (dk : Array Int), s6 = .int .i64 (i : Int) ∧ s7 = .int .i64 jz ∧ ((i : Int) < jz → jz = jn ∧ jn < n) ∧ (¬ (i : Int) < jz → ¬ i < jn) ∧ jn - i ≤ k ∧
    Hid (dk.size = n) ∧ St w blk cap dk wr ∧ Hid (reverseLoop i jn dk = reverseLoop a (b - 1) d))
  case atStart => exact ⟨a, b - 1, (b : Int) - 1, d, rfl, rfl, fun h => ⟨by omega, by omega⟩, fun h => by omega, by omega, HN, HL.out.st, rfl⟩
  case round =>
    obtain ⟨i, jn, jz, dk, rfl, rfl, h1, h2, hk, hds, hS, heq⟩ := hrel
    have HS := Lib.hid hS; clear hS
    have hdz := hds.out
    by_cases hlt : (i : Int) < jz
    · obtain ⟨rfl, hjn⟩ := h1 hlt
      have hij : i < jn := by omega
      have ci := HS.out.cell (i := i) (by omega)
      have cj := HS.out.cell (i := jn) (by omega)
      have fi := HS.out.frozen i
      have fj := HS.out.frozen jn
      have hsw := Lib.hid ((HS.out.swp (i := i) (j := jn) (by omega) (by omega)).drew)
      have hsz2 := Lib.hid ((size_sw dk i jn).trans hds.out)
      clear hdz h1 h2
      generalize dk[i]! = x at *
      generalize dk[jn]! = y at *
      go_wp2_with fail
      go_region
      go_wp2
      go_roundg (jn - 1 - (i + 1))
      case measure => omega
      case rel =>
        have heq2 := heq.out
        rw [reverseLoop, if_pos hij] at heq2
        exact ⟨i + 1, jn - 1, (jn : Int) - 1, swp dk i jn, by simp, rfl, fun h => ⟨by omega, by omega⟩, fun h => by omega, Nat.le_refl _, hsz2, hsw.out, heq2⟩
    · have hnot := h2 hlt
      clear hdz h1 h2
      go_wp2
      go_end0
      have heq2 := heq.out
      rw [reverseLoop, if_neg hnot] at heq2
      exact ⟨rfl, by rw [reverseRange, ← heq2]; exact HS.out⟩

theorem insInner_go {a m p : Nat} {d : Array Int} (hm : m = p + 1) (ha : a < m) (hl : ltInt d[m]! d[p]! = true) : insInner ltInt a m d = insInner ltInt a p (swp d m p) := by
  subst hm
  rw [insInner, if_pos (by simp [hl]; omega)]
theorem insInner_no {a m p : Nat} {d : Array Int} (hm : m = p + 1) (hl : ltInt d[m]! d[p]! = false) : insInner ltInt a m d = d := by
  subst hm
  rw [insInner, if_neg (by simp [hl])]
theorem insOuter_go {a b k : Nat} {d : Array Int} (h : k < b) : insOuter ltInt a b k d = insOuter ltInt a b (k + 1) (insInner ltInt a k d) := by rw [insOuter, if_pos h]
theorem insOuter_no {a b k : Nat} {d : Array Int} (h : ¬ k < b) : insOuter ltInt a b k d = d := by rw [insOuter, if_neg h]
theorem insInner_at {a m : Nat} {d : Array Int} (hm : ¬ a < m) : insInner ltInt a m d = d := by
  cases m with
  | zero => rfl
  | succ m => rw [insInner, if_neg (by simp; omega)]
set_option maxHeartbeats 1600000 in
set_option maxRecDepth 100000 in
theorem insertionSort_any (blk cap n : Nat) (d : Array Int) (a b : Nat) (w : World) (hL : Ls w blk cap d) (hn : d.size = n) (hb : b ≤ n) (hsz : n ≤ 1000000) (ha : a ≤ n) :
    Calls Try.prog 53 #[.slice (some ⟨blk, 0, none⟩) n cap, .int .i64 (a : Int), .int .i64 (b : Int)] w fun e w' => e = .returned (.tuple #[]) ∧ St w blk cap (insertionSort ltInt d a b) w' := by
  have HN := Lib.hid hn; clear hn
  have HL := Lib.hid hL; clear hL
  go_enter Try.func53, Try.ntmps53
  go_wp2
  go_loopw [6] (fun i wr => ∃ (k : Nat) (dk : Array Int), i = .int .i64 (k : Int) ∧ a < k ∧ k ≤ n + 1 ∧ Hid (dk.size = n) ∧ St w blk cap dk wr ∧ Hid (insOuter ltInt a b k dk = insertionSort ltInt d a b)) (fun i _ => b - (intOf i).toNat)
  case atStart => exact ⟨a + 1, d, by go_num, by omega, by omega, HN, HL.out.st, rfl⟩
  case round =>
    obtain ⟨k, dk, rfl, hak, hkn, hds, hS, heq⟩ := hrel
    have HS := Lib.hid hS; clear hS
    by_cases hlt : k < b
    · have hi1 : (k : Int) < (b : Int) := by omega
      obtain ⟨wo, rfl⟩ : ∃ wo : World, wo = wr := ⟨_, rfl⟩
      go_wp2
      go_loopw [7] (fun j wr => ∃ (m : Nat) (dj : Array Int), j = .int .i64 (m : Int) ∧ m ≤ k ∧ a ≤ m ∧ Hid (dj.size = n) ∧ St w blk cap dj wr ∧ Hid (insInner ltInt a m dj = insInner ltInt a k dk)) (fun j _ => (intOf j).toNat)
      case atStart => exact ⟨k, dk, rfl, by omega, by omega, hds, HS.out, rfl⟩
      case round =>
        obtain ⟨m, dj, rfl, hmk, ham, hdj, hS2, heq2⟩ := hrel
        clear HS
        have HS := Lib.hid hS2; clear hS2
        have hdz := hdj.out
        by_cases hgt : a < m
        · have hd : decide (a < m) = true := decide_eq_true hgt
          obtain ⟨p, hp⟩ : ∃ p, m = p + 1 := ⟨m - 1, by omega⟩
          have hpn : p < n := by omega
          have hmn : m < n := by omega
          have hi2 : (m : Int) < (n : Int) := by omega
          have hi3 : (p : Int) < (n : Int) := by omega
          have ci := HS.out.cell (i := m) (by omega)
          have cj := HS.out.cell (i := p) (by omega)
          have fi := HS.out.frozen m
          have fj := HS.out.frozen p
          have hm1 : m < dj.size := by omega
          have hm2 : p < dj.size := by omega
          have hsz2 := Lib.hid ((size_sw dj m p).trans hdj.out)
          have hsw := Lib.hid (fun W (h : St w blk cap dj W) => h.swp (i := m) (j := p) hm1 hm2)
          have hpm : Hid (p < m) := by show _ < _; omega
          have hpa : Hid (a ≤ p) := by show _ ≤ _; omega
          have hpk : Hid (p ≤ k) := by show _ ≤ _; omega
          have hw1 : IntKind.i64.wrap ((m : Int) - 1) = (p : Int) := by rw [IntWalk.i64_in _ (by omega)]; omega
          have hw2 : wrap64 ((m : Int) - 1) = (p : Int) := by clear hw1; rw [IntWalk.wrap64_in _ (by omega)]; omega
          have hw3 : (m : Int) - 1 = (p : Int) := by clear hw1 hw2; omega
          clear hdz hm1 hm2
          by_cases hl : ltInt dj[m]! dj[p]! = true
          · have Hstep := Lib.hid (insInner_go hp hgt hl)
            have HP := Lib.hid hp; clear hp
            generalize dj[m]! = x at *
            generalize dj[p]! = y at *
            go_wp2_with fail
            go_quiet ((go_at_call 59; exact Calls.quiet_of_same (less_any _ _ _)))
            go_wp2_with fail
            go_region
            clear hw1 hw2 hw3
            go_wp2
            refine ⟨⟨p, swp dj m p, (by rw [show (m : Int) - 1 = (p : Int) by have := HP.out; omega]), hpk.out, hpa.out, hsz2, hsw.out _ (HS.out.drewN _), Hstep.out.symm.trans heq2.out⟩, ?_⟩
            have := hpm.out
            simp [intOf]; omega
          · rw [Bool.not_eq_true] at hl
            have Hstep := Lib.hid (insInner_no (a := a) hp hl)
            have HP := Lib.hid hp; clear hp
            generalize dj[m]! = x at *
            generalize dj[p]! = y at *
            go_wp2_with fail
            go_quiet ((go_at_call 59; exact Calls.quiet_of_same (less_any _ _ _)))
            clear hw1 hw2 hw3
            go_wp2
            refine ⟨⟨k + 1, dj, by go_num, by omega, by omega, hdj, HS.out.drewN _, ?_⟩, by simp [intOf]; omega⟩
            show _ = _
            rw [← heq.out, insOuter_go hlt, ← heq2.out, Hstep.out]
        · have hd : decide (a < m) = false := decide_eq_false hgt
          have hgt2 : ¬ (a : Int) < (m : Int) := by omega
          have Hstep := Lib.hid (insInner_at (d := dj) hgt)
          go_wp2_with fail
          go_quiet (fail)
          go_wp2
          refine ⟨⟨k + 1, dj, by go_num, by omega, by omega, hdj, HS.out.drewN _, ?_⟩, by simp [intOf]; omega⟩
          show _ = _
          rw [← heq.out, insOuter_go hlt, ← heq2.out, Hstep.out]
    · have hi1 : ¬ (k : Int) < (b : Int) := by omega
      go_wp2
      go_end0
      have := heq.out
      rw [insOuter_no hlt] at this
      exact ⟨rfl, by rw [← this]; exact HS.out⟩
end Go.Proofs.Ytaaijgalminafaa
