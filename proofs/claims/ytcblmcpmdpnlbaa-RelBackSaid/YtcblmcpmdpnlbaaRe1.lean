/-
  Layer 8: Ref.Compare by its contract.
-/
import Derived.Test.YtcblmcpmdpnlbaaMx
namespace Go.Proofs.Ytcblmcpmdpnlbaa
open Go.RowKit Mono
attribute [local go_sem] pureAt pureUpon

/-- What an operation that extends the world answers: a slice that reads as these cells, or a fixed value. -/
inductive Gns
  | row (size : Nat) (xs : List Value)
  | val (v : Value)
  | any
def gnsR (f : Nat → Gns) (k : Nat) (v : Value) (w : World) : Prop :=
  match f k with
  | .row size xs => RdS size xs v w
  | .val u => v = u
  | .any => True
def gnsE (f : Nat → Gns) (k : Nat) : Bool :=
  match f k with
  | .any => false
  | _ => true
theorem gns_good (f : Nat → Gns) (w0 : World) : Mono.Good (Below w0.heap.size w0) Ext (gnsR f) := by
  refine ⟨fun w w' h he => step_below h he, fun i v w w' h he => ?_⟩
  unfold gnsR at h ⊢
  split at h <;> first | exact h.up he | exact h

def cmpv (a b : Nat) : Int := if a < b then -1 else if b < a then 1 else 0
/-- The first that is not 0. -/
def orv : List Int → Int
  | [] => 0
  | x :: r => if x = 0 then orv r else x

theorem orv_cons (x : Int) (r : List Int) : orv (x :: r) = if x = 0 then orv r else x := rfl
/-- cmp.Compare[uint32]. -/
theorem compare_any (a b : Nat) (w : World) : Calls Try.prog 59 #[.int .u32 (a : Int), .int .u32 (b : Int)] w fun e w' => e = .returned (.int .i64 (cmpv a b)) ∧ w = w' := by
  rcases Nat.lt_trichotomy a b with h | h | h
  · have hc : cmpv a b = -1 := by simp [cmpv, h]
    have d1 : decide (a < b) = true := by simpa using h
    have H := Lib.hid hc; clear hc h
    go_enter Try.func59, Try.ntmps59
    go_wp2
    go_ret
    exact ⟨ret_i H.out.symm, rfl⟩
  · subst h
    have hc : cmpv a a = 0 := by simp [cmpv]
    have H := Lib.hid hc; clear hc
    go_enter Try.func59, Try.ntmps59
    go_wp2
    go_ret
    exact ⟨ret_i H.out.symm, rfl⟩
  · have hc : cmpv a b = 1 := by unfold cmpv; rw [if_neg (by omega), if_pos h]
    have d1 : decide (a < b) = false := by simp; omega
    have d2 : decide (b < a) = true := by simpa using h
    have H := Lib.hid hc; clear hc h
    go_enter Try.func59, Try.ntmps59
    go_wp2
    go_ret
    exact ⟨ret_i H.out.symm, rfl⟩
/-- cmp.Or[int]. -/
theorem or_any (A : Option Addr) (c : Nat) (l : List Int) (w : World) (hR : Rd w w.heap.size 1 A l.length (ints l)) (hl : l.length ≤ 1000) : Calls Try.prog 58 #[.slice A l.length c] w fun e w' => e = .returned (.int .i64 (orv l)) ∧ w = w' := by
  go_enter Try.func58, Try.ntmps58
  go_wp2
  go_loop [8] (fun k => ∃ j : Nat, k = .int .i64 (j : Int) ∧ j ≤ l.length ∧ Hid (orv (l.drop j) = orv l)) (fun k => l.length - (intOf k).toNat)
  case atStart => exact ⟨0, rfl, by omega, rfl⟩
  case round =>
    obtain ⟨j, rfl, hj, Ho⟩ := hrel
    by_cases hlt : j < l.length
    · obtain ⟨b, off, rfl, _, hc⟩ := hR.at_ hlt
      have hcj := hc j hlt
      clear hc
      have hd := List.drop_eq_getElem_cons hlt
      have ho := Ho.out
      rw [hd, orv_cons] at ho
      clear hd Ho
      generalize l[j] = x at *
      by_cases hx : x = 0
      · rw [if_pos hx] at ho
        subst hx
        have Ho := Lib.hid ho; clear ho
        go_wp2
        go_round
        case rel => exact ⟨j + 1, by go_num, by omega, Ho⟩
        case measure => simp [intOf]; omega
      · rw [if_neg hx] at ho
        have d1 : (x != 0) = true := by simpa using hx
        have Ho := Lib.hid ho; clear ho hx
        go_wp2
        go_ret
        exact ⟨ret_i Ho.out, rfl⟩
    · have ho := Ho.out
      rw [List.drop_eq_nil_of_le (by omega)] at ho
      have Ho2 := Lib.hid ho; clear ho Ho
      go_wp2
      go_ret
      exact ⟨ret_i Ho2.out, rfl⟩

def cmA (a1 a2 b1 b2 : Nat) : Nat → Gns
  | 4 => .val (.int .i64 (cmpv a1 b1))
  | 9 => .val (.int .i64 (cmpv a2 b2))
  | 10 => .row 1 (ints [cmpv a1 b1, cmpv a2 b2])
  | 11 => .val (.int .i64 (orv [cmpv a1 b1, cmpv a2 b2]))
  | _ => .any
def refc (a b : Nat × Nat) : Int := orv [cmpv a.1 b.1, cmpv a.2 b.2]

set_option maxRecDepth 100000 in
set_option maxHeartbeats 800000 in
/-- rel.Ref.Compare. -/
theorem refCompare_any (a1 a2 b1 b2 : Nat) (w : World) : Calls Try.prog 38 #[.agg #[.int .u32 (a1 : Int), .int .u32 (a2 : Int)], .agg #[.int .u32 (b1 : Int), .int .u32 (b2 : Int)]] w (RetI .i64 (refc (a1, a2) (b1, b2)) w) := by
  have e0 : ((w.alloc (.cells #[.int .u32 (a1 : Int), .int .u32 (a2 : Int)] 60)).alloc (.cells #[.int .u32 (b1 : Int), .int .u32 (b2 : Int)] 60)).cell? ⟨w.heap.size, 0, none⟩ = some (.int .u32 (a1 : Int)) := by
    rw [World.cell?_alloc_lt _ _ _ (by simp)]; exact cell_new _ _ _ _
  have e1 : ((w.alloc (.cells #[.int .u32 (a1 : Int), .int .u32 (a2 : Int)] 60)).alloc (.cells #[.int .u32 (b1 : Int), .int .u32 (b2 : Int)] 60)).cell? ⟨w.heap.size, 1, none⟩ = some (.int .u32 (a2 : Int)) := by
    rw [World.cell?_alloc_lt _ _ _ (by simp)]; exact cell_new _ _ _ _
  have e2 : ((w.alloc (.cells #[.int .u32 (a1 : Int), .int .u32 (a2 : Int)] 60)).alloc (.cells #[.int .u32 (b1 : Int), .int .u32 (b2 : Int)] 60)).cell? ⟨w.heap.size + 1, 0, none⟩ = some (.int .u32 (b1 : Int)) := by
    simp
  have e3 : ((w.alloc (.cells #[.int .u32 (a1 : Int), .int .u32 (a2 : Int)] 60)).alloc (.cells #[.int .u32 (b1 : Int), .int .u32 (b2 : Int)] 60)).cell? ⟨w.heap.size + 1, 1, none⟩ = some (.int .u32 (b2 : Int)) := by
    simp
  have hB : Below w.heap.size w ((w.alloc (.cells #[.int .u32 (a1 : Int), .int .u32 (a2 : Int)] 60)).alloc (.cells #[.int .u32 (b1 : Int), .int .u32 (b2 : Int)] 60)) := ((Below.refl _ _).alloc (Nat.le_refl _) _).alloc (by simp) _
  have hsz : ((w.alloc (.cells #[.int .u32 (a1 : Int), .int .u32 (a2 : Int)] 60)).alloc (.cells #[.int .u32 (b1 : Int), .int .u32 (b2 : Int)] 60)).heap.size = w.heap.size + 2 := by simp
  go_enter Try.func38, Try.ntmps38
  go_wp2_with fail
  generalize (w.alloc (.cells #[.int .u32 (a1 : Int), .int .u32 (a2 : Int)] 60)).alloc (.cells #[.int .u32 (b1 : Int), .int .u32 (b2 : Int)] 60) = w2 at *
  refine wp_region_mono _ Ext (gnsE (cmA a1 a2 b1 b2)) (gnsR (cmA a1 a2 b1 b2)) (gns_good _ _) (by kernel_rfl) (by kernel_rfl) (Below.refl w2.heap.size w2).drew ?_
  repeat (first | (refine wpM_skip rfl ?_) | (refine wpM_all rfl rfl (fun K hK => ?_); go_simp; refine hK _ ?_; clear hK K))
  refine wpM_look (.int .u32 (a1 : Int)) rfl rfl (fun w5 hc _ => ?_) ?_
  · have hcell : w5.cell? ⟨w.heap.size, 0, none⟩ = some (.int .u32 (a1 : Int)) := by rw [hc.cell (show w.heap.size < w2.heap.size by omega)]; exact e0
    go_simp
  repeat (first | (refine wpM_skip rfl ?_) | (refine wpM_all rfl rfl (fun K hK => ?_); go_simp; refine hK _ ?_; clear hK K))
  refine wpM_look (.int .u32 (b1 : Int)) rfl rfl (fun w5 hc _ => ?_) ?_
  · have hcell : w5.cell? ⟨w.heap.size + 1, 0, none⟩ = some (.int .u32 (b1 : Int)) := by rw [hc.cell (show w.heap.size + 1 < w2.heap.size by omega)]; exact e2
    go_simp
  repeat (first | (refine wpM_skip rfl ?_) | (refine wpM_all rfl rfl (fun K hK => ?_); go_simp; refine hK _ ?_; clear hK K))
  refine wpM_eff rfl rfl (fun w3 hc _ => steps_enter (compare_any a1 b1 w3) (by go_simp) (by rintro e w4 ⟨rfl, rfl⟩; exact ⟨_, rfl, Below.refl _ _, rfl⟩)) ?_
  rintro v4 ⟨_, rfl⟩
  repeat (first | (refine wpM_skip rfl ?_) | (refine wpM_all rfl rfl (fun K hK => ?_); go_simp; refine hK _ ?_; clear hK K))
  refine wpM_look (.int .u32 (a2 : Int)) rfl rfl (fun w5 hc _ => ?_) ?_
  · have hcell : w5.cell? ⟨w.heap.size, 1, none⟩ = some (.int .u32 (a2 : Int)) := by rw [hc.cell (show w.heap.size < w2.heap.size by omega)]; exact e1
    go_simp
  repeat (first | (refine wpM_skip rfl ?_) | (refine wpM_all rfl rfl (fun K hK => ?_); go_simp; refine hK _ ?_; clear hK K))
  refine wpM_look (.int .u32 (b2 : Int)) rfl rfl (fun w5 hc _ => ?_) ?_
  · have hcell : w5.cell? ⟨w.heap.size + 1, 1, none⟩ = some (.int .u32 (b2 : Int)) := by rw [hc.cell (show w.heap.size + 1 < w2.heap.size by omega)]; exact e3
    go_simp
  repeat (first | (refine wpM_skip rfl ?_) | (refine wpM_all rfl rfl (fun K hK => ?_); go_simp; refine hK _ ?_; clear hK K))
  refine wpM_eff rfl rfl (fun w3 hc _ => steps_enter (compare_any a2 b2 w3) (by go_simp) (by rintro e w4 ⟨rfl, rfl⟩; exact ⟨_, rfl, Below.refl _ _, rfl⟩)) ?_
  rintro v9 ⟨_, rfl⟩
  refine wpM_eff rfl rfl (fun w3 hc _ => steps_val (v := .slice (some ⟨w3.heap.size, 0, none⟩) 2 2) (w' := w3.alloc (.cells #[.int .i64 (cmpv a1 b1), .int .i64 (cmpv a2 b2)] 3)) (by go_simp) (Below.refl _ _ |>.alloc (Nat.le_refl _) _) ⟨_, _, _, rfl, by simpa [ints] using Rd.new w3 #[.int .i64 (cmpv a1 b1), .int .i64 (cmpv a2 b2)] 3 (size := 1) (n := 2) (by simp)⟩) ?_
  rintro v10 -
  refine wpM_eff rfl rfl (fun w3 hc hd => ?_) ?_
  · obtain ⟨A, n, c, rfl, hR⟩ : RdS 1 (ints [cmpv a1 b1, cmpv a2 b2]) v10 w3 := by
      have := hd ⟨10, .data⟩ (by simp) rfl
      simpa [upd, gnsR, cmA] using this
    have hn : n = 2 := by have := hR.len1; simpa [ints] using this.symm
    subst hn
    exact steps_enter (or_any A c [cmpv a1 b1, cmpv a2 b2] w3 hR (by simp)) (by go_simp) (by rintro e w4 ⟨rfl, rfl⟩; exact ⟨_, rfl, Below.refl _ _, rfl⟩)
  rintro v11 ⟨_, rfl⟩
  repeat (first | (refine wpM_skip rfl ?_) | (refine wpM_all rfl rfl (fun K hK => ?_); go_simp; refine hK _ ?_; clear hK K))
  refine wpM_nil fun w3 hc3 _ => ?_
  go_wp2
  go_ret
  exact RetI.mk' rfl (hB.trans (hc3.mono (by omega)))
end Go.Proofs.Ytcblmcpmdpnlbaa
