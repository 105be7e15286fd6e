/-
  Layer 8: great, the reference's Ahead and Same by their contracts.
-/
import Derived.Test.YtcblmcpmdpnlbaaRe9
import Derived.Test.YtcblmcpmdpnlbaaFx
namespace Go.Proofs.Ytcblmcpmdpnlbaa
open Go.RowKit Mono
attribute [local go_sem] pureAt pureUpon

def Rl.great (r : Rl) : Bool := (r.cs.any fun o => decide (60 < o.name.size)) || (decide (30 < r.cs.length) || decide (60 < r.name.size))
theorem any_drop {p : Col → Bool} {l : List Col} {j : Nat} (h : j < l.length) : (l.drop j).any p = (p l[j] || (l.drop (j + 1)).any p) := by
  rw [List.drop_eq_getElem_cons h]; rfl

set_option maxRecDepth 100000 in
set_option maxHeartbeats 800000 in
theorem great_any (r : Rl) (A : Option Addr) (c : Nat) (w : World) (hR : Rd w w.heap.size 3 A r.cs.length (cols r.cs)) (hl : r.cs.length ≤ maxLen) (hn : r.name.size ≤ maxLen) (hns : ∀ o ∈ r.cs, o.name.size ≤ maxLen) : Calls Try.prog 40 #[r.v A c] w (RetB r.great w) := by
  obtain ⟨o1, v1, n1, i1, cs⟩ := r
  simp only at hR hl hn hns
  have hg : Rl.great ⟨o1, v1, n1, i1, cs⟩ = ((cs.any fun o => decide (60 < o.name.size)) || (decide (30 < cs.length) || decide (60 < n1.size))) := rfl
  have HG := Lib.hid hg; have HN := Lib.hid hns; clear hg hns
  have hmax : cs.length ≤ 9223372036854775807 := hl
  have hB : Below w.heap.size w (w.alloc (.cells #[.int .u32 (o1 : Int), .int .u32 (v1 : Int), .string n1, .int .u8 (i1 : Int), .slice A cs.length c] 65)) := (Below.refl _ _).alloc (Nat.le_refl _) _
  have HR := Lib.hid (hR.up hB (Nat.le_refl _) hB.size)
  have hbx := heap_alloc_new w (.cells #[.int .u32 (o1 : Int), .int .u32 (v1 : Int), .string n1, .int .u8 (i1 : Int), .slice A cs.length c] 65)
  clear hR
  go_enter Try.func40, Try.ntmps40
  unfold Rl.v
  go_wp2_with fail
  generalize w.alloc (.cells #[.int .u32 (o1 : Int), .int .u32 (v1 : Int), .string n1, .int .u8 (i1 : Int), .slice A cs.length c] 65) = w1 at *
  have b2 : w1.cell? ⟨w.heap.size, 2, none⟩ = some (.string n1) := cell_of_row _ _ 2 _ 65 (0, 0) hbx
  have b4 : w1.cell? ⟨w.heap.size, 4, none⟩ = some (.slice A cs.length c) := cell_of_row _ _ 4 _ 65 (0, 0) hbx
  clear hbx
  go_loop [3] (fun k => ∃ j : Nat, k = .int .i64 (j : Int) ∧ j ≤ cs.length ∧ Hid ((cs.drop j).any (fun o => decide (60 < o.name.size)) = cs.any fun o => decide (60 < o.name.size))) (fun k => cs.length - (intOf k).toNat)
  case atStart => exact ⟨0, rfl, by omega, rfl⟩
  case round =>
    obtain ⟨j, rfl, hj, Ho⟩ := hrel
    by_cases hlt : j < cs.length
    · obtain ⟨b, off, rfl, hbl, hcc⟩ := HR.out.col hlt
      obtain ⟨k0, k1, k2⟩ := hcc j hlt
      have hno : cs[j].name.size ≤ 9223372036854775807 := HN.out _ (List.getElem_mem hlt)
      have ho := Ho.out
      rw [any_drop hlt] at ho
      clear hcc
      generalize cs[j] = o at *
      have hi : (j : Int) < (cs.length : Int) := by omega
      by_cases h6 : 60 < o.name.size
      · rw [decide_eq_true h6, Bool.true_or] at ho
        have d : decide ((60 : Int) < (o.name.size : Int)) = true := by simp; omega
        have hx : Rl.great ⟨o1, v1, n1, i1, cs⟩ = true := by rw [HG.out, ← ho, Bool.true_or]
        have Hx := Lib.hid hx; clear hx ho Ho h6 k1 k2
        go_wp2
        go_ret
        exact RetB.mk' Hx.out.symm hB
      · rw [decide_eq_false h6, Bool.false_or] at ho
        have d : decide ((60 : Int) < (o.name.size : Int)) = false := by simp; omega
        have Ho2 := Lib.hid ho; clear ho Ho h6 k1 k2
        go_wp2
        go_round
        case rel => exact ⟨j + 1, by go_num, by omega, Ho2⟩
        case measure => simp [intOf]; omega
    · have ho := Ho.out
      rw [List.drop_eq_nil_of_le (by omega)] at ho
      have hx := HG.out
      rw [← ho] at hx
      have hx2 : Rl.great ⟨o1, v1, n1, i1, cs⟩ = (decide (30 < cs.length) || decide (60 < n1.size)) := hx
      have hn' : n1.size ≤ 9223372036854775807 := hn
      clear ho Ho hx HG
      by_cases h30 : 30 < cs.length
      · have d : decide ((30 : Int) < (cs.length : Int)) = true := by simp; omega
        rw [decide_eq_true h30, Bool.true_or] at hx2
        have Hx := Lib.hid hx2; clear hx2 h30
        go_wp2
        go_ret
        exact RetB.mk' Hx.out.symm hB
      · have d : decide ((30 : Int) < (cs.length : Int)) = false := by simp; omega
        rw [decide_eq_false h30, Bool.false_or] at hx2
        by_cases h60 : 60 < n1.size
        · have d2 : decide ((60 : Int) < (n1.size : Int)) = true := by simp; omega
          rw [decide_eq_true h60] at hx2
          have Hx := Lib.hid hx2; clear hx2 h30 h60
          go_wp2
          go_ret
          exact RetB.mk' Hx.out.symm hB
        · have d2 : decide ((60 : Int) < (n1.size : Int)) = false := by simp; omega
          rw [decide_eq_false h60] at hx2
          have Hx := Lib.hid hx2; clear hx2 h30 h60
          go_wp2
          go_ret
          exact RetB.mk' Hx.out.symm hB

def aheadB (a1 a2 b1 b2 : Nat) : Bool := decide (a1 < b1 ∨ (a1 = b1 ∧ a2 < b2))
set_option maxRecDepth 100000 in
set_option maxHeartbeats 800000 in
theorem ahead_any (a1 a2 b1 b2 : Nat) (w : World) : Calls Try.prog 44 #[.agg #[.int .u32 (a1 : Int), .int .u32 (a2 : Int)], .agg #[.int .u32 (b1 : Int), .int .u32 (b2 : Int)]] w (RetB (aheadB a1 a2 b1 b2) w) := by
  have hB : Below w.heap.size w ((w.alloc (.cells #[.int .u32 (a1 : Int), .int .u32 (a2 : Int)] 59)).alloc (.cells #[.int .u32 (b1 : Int), .int .u32 (b2 : Int)] 59)) := ((Below.refl _ _).alloc (Nat.le_refl _) _).alloc (by simp) _
  by_cases h1 : a1 < b1
  · have hx : aheadB a1 a2 b1 b2 = true := by unfold aheadB; simp [h1]
    have d1 : decide (a1 < b1) = true := by simpa using h1
    have Hx := Lib.hid hx; clear hx h1
    go_enter Try.func44, Try.ntmps44
    go_wp2
    go_ret
    exact RetB.mk' Hx.out.symm hB
  · have d1 : decide (a1 < b1) = false := by simpa using h1
    by_cases h2 : a1 = b1
    · subst h2
      by_cases h3 : a2 < b2
      · have hx : aheadB a1 a2 a1 b2 = true := by unfold aheadB; simp [h3]
        have d3 : decide (a2 < b2) = true := by simpa using h3
        have Hx := Lib.hid hx; clear hx h1 h3
        go_enter Try.func44, Try.ntmps44
        go_wp2
        go_ret
        exact RetB.mk' Hx.out.symm hB
      · have hx : aheadB a1 a2 a1 b2 = false := by unfold aheadB; simp; omega
        have d3 : decide (a2 < b2) = false := by simpa using h3
        have Hx := Lib.hid hx; clear hx h1 h3
        go_enter Try.func44, Try.ntmps44
        go_wp2
        go_ret
        exact RetB.mk' Hx.out.symm hB
    · have hx : aheadB a1 a2 b1 b2 = false := by unfold aheadB; simp; omega
      have d2 : ((a1 : Int) == (b1 : Int)) = false := by simp; omega
      have Hx := Lib.hid hx; clear hx h1 h2
      go_enter Try.func44, Try.ntmps44
      go_wp2
      go_ret
      exact RetB.mk' Hx.out.symm hB
end Go.Proofs.Ytcblmcpmdpnlbaa
