/-
  Layer 1, prim.Reader: each method by a contract over the plain reader.
-/
import Derived.Test.YtcblmcpmdpnlbaaRs
namespace Go.Proofs.Ytcblmcpmdpnlbaa
open Go.RowKit

/-- Block g is a prim.Reader in the state r. -/
def PR (w : World) (g : Nat) (r : Rdr) : Prop :=
  ∃ A c, r.rest.length ≤ c ∧ c ≤ maxLen ∧ w.heap[g]? = some (.cells #[.slice A r.rest.length c, .int .i64 r.bad] 95 (0, 0)) ∧ Rd w g 1 A r.rest.length (byt r.rest)
def RetR (l : List UInt8) (w : World) (e : Ending) (w' : World) : Prop := ∃ g, e = .returned (.pointer (some ⟨g, 0, none⟩)) ∧ w.heap.size ≤ g ∧ PR w' g ⟨l, 0⟩ ∧ Below w.heap.size w w'
def RetM (v : Value) (g : Nat) (r : Rdr) (w : World) (e : Ending) (w' : World) : Prop := e = .returned v ∧ PR w' g r ∧ w.grownBy w' (some g)

theorem row_cell {w : World} {g : Nat} {cs : Array Value} {t : TypeId} (h : w.heap[g]? = some (.cells cs t (0, 0))) (i : Nat) : w.cell? ⟨g, i, none⟩ = cs[i]? := cell_of_row w g i cs t (0, 0) h
theorem row_free {w : World} {g : Nat} {cs : Array Value} {t : TypeId} (h : w.heap[g]? = some (.cells cs t (0, 0))) (i : Nat) : w.frozen? ⟨g, i, none⟩ = false := by simp [World.frozen?, h]
theorem row_lt {w : World} {g : Nat} {o : Obj} (h : w.heap[g]? = some o) : g < w.heap.size := (Array.getElem?_eq_some_iff.1 h).1
theorem row_set {w : World} {g : Nat} {cs : Array Value} {t : TypeId} (h : w.heap[g]? = some (.cells cs t (0, 0))) (i : Nat) (u : Value) : (w.setCell ⟨g, i, none⟩ u).heap[g]? = some (.cells (cs.setIfInBounds i u) t (0, 0)) := by
  simp [World.setCell, Array.getElem?_modify, h]
theorem grown_set (w : World) (g i : Nat) (u : Value) : w.grownBy (w.setCell ⟨g, i, none⟩ u) (some g) :=
  ⟨rfl, rfl, rfl, by simp [World.setCell], fun k _ hne => Below.heap_setCell w _ u k (fun e => hne (by rw [e]))⟩
theorem grown_trans_same {a b c : World} {row : Option Nat} (h : a.grownBy b row) (k : b.grownBy c row) : a.grownBy c row :=
  ⟨k.os.trans h.os, k.tape.trans h.tape, k.output.trans h.output, Nat.le_trans h.size k.size, fun i hi hne => (k.block i (Nat.lt_of_lt_of_le hi h.size) hne).trans (h.block i hi hne)⟩
theorem Rd.off {w w' : World} {g B n size : Nat} {A : Option Addr} {xs : List Value} (h : Rd w B size A n xs) (hB : B ≤ g) (hg : w.grownBy w' (some g)) (hl : B ≤ w.heap.size) : Rd w' B size A n xs :=
  h.keep fun p hp => World.cell?_of_block (hg.block p.block (by omega) (fun e => by injection e with e; omega))

/-- prim.Read. -/
theorem read_any (A : Option Addr) (c : Nat) (l : List UInt8) (w : World) (hr : Rd w w.heap.size 1 A l.length (byt l)) (hm : l.length ≤ 1048576) :
    Calls Try.prog 20 #[.slice A l.length c] w (RetR l w) := by
  go_enter Try.func20, Try.ntmps20
  go_wp2_with fail
  refine (clone_any A c l _ hr hm).mono ?_
  rintro e w1 ⟨v, rfl, hown, hb⟩
  obtain ⟨A1, c1, rfl, h1, h2, hR⟩ := Rd.of_own hown
  go_wp2
  go_ret
  refine ⟨w1.heap.size, rfl, hb.size, ⟨A1, c1, h1, h2, heap_alloc_new w1 _, hR.alloc (Nat.le_refl _) _⟩, hb.alloc hb.size _⟩

/-- giveUp. -/
theorem giveUp_any (g : Nat) (r : Rdr) (e : Int) (w : World) (h : PR w g r) :
    Calls Try.prog 54 #[.pointer (some ⟨g, 0, none⟩), .int .i64 e] w (RetM (.tuple #[]) g (r.giveUp e) w) := by
  obtain ⟨A, c, h1, h2, hh, hR⟩ := h
  have c1 := row_cell hh 1
  have f0 := row_free hh 0
  have f1 := row_free hh 1
  have c0 := row_cell hh 0
  simp only [List.getElem?_toArray, List.getElem?_cons_succ, List.getElem?_cons_zero] at c0 c1
  by_cases hb : r.bad = 0
  · rw [hb] at c1
    have Hb := Lib.hid hb; clear hb
    go_enter Try.func54, Try.ntmps54
    go_wp2
    go_end0
    refine ⟨rfl, ?_, ?_⟩
    · unfold Rdr.giveUp; rw [if_pos Hb.out]
      refine ⟨none, 0, Nat.le_refl _, Nat.zero_le _, ?_, Rd.none_⟩
      rw [row_set (row_set hh 1 _) 0 _]; rfl
    · exact grown_trans_same (grown_set _ _ _ _) (grown_set _ _ _ _)
  · have hb' : (r.bad == 0) = false := by simpa using hb
    have Hb := Lib.hid hb; clear hb
    go_enter Try.func54, Try.ntmps54
    go_wp2
    refine bodyPost_end (results_none rfl _ _ _) rfl ?_
    refine ⟨rfl, ?_, World.grownBy.refl _ _⟩
    unfold Rdr.giveUp; rw [if_neg Hb.out]
    exact ⟨A, c, h1, h2, hh, hR⟩
end Go.Proofs.Ytcblmcpmdpnlbaa
