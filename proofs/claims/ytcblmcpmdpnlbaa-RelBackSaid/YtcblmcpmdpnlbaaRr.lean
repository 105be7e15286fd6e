/-
  Layer 1, the reference's reader: GiveUp, Left, End, Zag by contracts over the plain reader.
-/
import Derived.Test.YtcblmcpmdpnlbaaSh
import Derived.BigQuiet
namespace Go.Proofs.Ytcblmcpmdpnlbaa
open Go.RowKit

/-- Block g is a reference's reader in the state r. -/
def RR (w : World) (g : Nat) (r : Rdr) : Prop :=
  ∃ A c l at_, at_ ≤ l.length ∧ l.length ≤ 1048576 ∧ l.length ≤ c ∧ c ≤ maxLen ∧ w.heap[g]? = some (.cells #[.slice A l.length c, .int .i64 (at_ : Nat), .int .i64 r.bad] 51 (0, 0)) ∧ Rd w g 1 A l.length (byt l) ∧ r.rest = if r.bad = 0 then l.drop at_ else []
def RetW (v : Value) (g : Nat) (r : Rdr) (w : World) (e : Ending) (w' : World) : Prop := e = .returned v ∧ RR w' g r ∧ w.grownBy w' (some g)
theorem RR.cells {w : World} {g : Nat} {r : Rdr} (h : RR w g r) : ∃ A c l at_, at_ ≤ l.length ∧ l.length ≤ 1048576 ∧ l.length ≤ c ∧ c ≤ maxLen ∧ Rd w g 1 A l.length (byt l) ∧ (r.rest = if r.bad = 0 then l.drop at_ else []) ∧
    w.cell? ⟨g, 0, none⟩ = some (.slice A l.length c) ∧ w.cell? ⟨g, 1, none⟩ = some (.int .i64 (at_ : Nat)) ∧ w.cell? ⟨g, 2, none⟩ = some (.int .i64 r.bad) ∧ w.frozen? ⟨g, 1, none⟩ = false ∧ w.frozen? ⟨g, 2, none⟩ = false ∧
    w.heap[g]? = some (.cells #[.slice A l.length c, .int .i64 (at_ : Nat), .int .i64 r.bad] 51 (0, 0)) := by
  obtain ⟨A, c, l, a, h1, h2, h3, h4, hh, hR, hr⟩ := h
  exact ⟨A, c, l, a, h1, h2, h3, h4, hR, hr, row_cell hh 0, row_cell hh 1, row_cell hh 2, row_free hh 1, row_free hh 2, hh⟩
theorem RR.drewN {w : World} {g : Nat} {r : Rdr} (h : RR w g r) (n : Nat) : RR (w.drewN n) g r := h
theorem RR.below {w w' : World} {g B : Nat} {r : Rdr} (h : RR w g r) (hb : Below B w w') (hg : g < B) : RR w' g r := by
  obtain ⟨A, c, l, a, h1, h2, h3, h4, hh, hR, hr⟩ := h
  exact ⟨A, c, l, a, h1, h2, h3, h4, by rw [hb.block g hg]; exact hh, hR.below hb (by omega), hr⟩
theorem RR.lt {w : World} {g : Nat} {r : Rdr} (h : RR w g r) : g < w.heap.size := by
  obtain ⟨A, c, l, a, h1, h2, h3, h4, hh, hR, hr⟩ := h
  exact row_lt hh
theorem grown_drewN (w : World) (n : Nat) (row : Option Nat) : w.grownBy (w.drewN n) row := ⟨rfl, rfl, rfl, Nat.le_refl _, fun _ _ _ => rfl⟩

/-- GiveUp. -/
theorem giveUpR_any (g : Nat) (r : Rdr) (e : Int) (w : World) (h : RR w g r) :
    Calls Try.prog 35 #[.pointer (some ⟨g, 0, none⟩), .int .i64 e] w (RetW (.tuple #[]) g (r.fail e) w) := by
  obtain ⟨A, c, l, a, h1, h2, h3, h4, hR, hr, c0, c1, c2, f1, f2, hh⟩ := h.cells
  by_cases hb : r.bad = 0
  · rw [hb] at c2
    have Hb := Lib.hid hb; have Hr := Lib.hid hr; have Hh := Lib.hid hh; clear hb hr hh
    go_enter Try.func35, Try.ntmps35
    go_wp2
    go_end0
    refine ⟨rfl, ?_, grown_set _ _ _ _⟩
    have hrow := row_set Hh.out 2 (.int .i64 e)
    refine ⟨A, c, l, a, h1, h2, h3, h4, ?_, hR.setCell (Nat.le_refl _) _, ?_⟩
    · rw [hrow]
      by_cases he : e = 0
      · unfold Rdr.fail; rw [if_pos he, Hb.out, he]; rfl
      · unfold Rdr.fail Rdr.giveUp; rw [if_neg he, if_pos Hb.out]; rfl
    · by_cases he : e = 0
      · unfold Rdr.fail; rw [if_pos he]; exact Hr.out
      · unfold Rdr.fail Rdr.giveUp; rw [if_neg he, if_pos Hb.out, if_neg he]
  · have hb' : (r.bad == 0) = false := by simpa using hb
    have Hb := Lib.hid hb; clear hb
    go_enter Try.func35, Try.ntmps35
    go_wp2
    go_end0
    refine ⟨rfl, ?_, ⟨rfl, rfl, rfl, Nat.le_refl _, fun _ _ _ => rfl⟩⟩
    unfold Rdr.fail Rdr.giveUp
    rw [if_neg Hb.out]
    simpa using h
/-- Left. -/
theorem leftR_any (g : Nat) (r : Rdr) (w : World) (h : RR w g r) :
    Calls Try.prog 36 #[.pointer (some ⟨g, 0, none⟩)] w fun e w' => e = .returned (.int .i64 (r.rest.length : Int)) ∧ ∃ m, w' = w.drewN m := by
  obtain ⟨A, c, l, a, h1, h2, h3, h4, hR, hr, c0, c1, c2, f1, f2, hh⟩ := h.cells
  clear hh f1 f2
  by_cases hb : r.bad = 0
  · rw [hb] at c2
    rw [if_pos hb] at hr
    have hlen : (l.length : Int) - (a : Int) = (r.rest.length : Int) := by rw [hr, List.length_drop]; omega
    have Hl := Lib.hid hlen; clear hb hr hlen
    go_enter Try.func36, Try.ntmps36
    go_wp2
    go_quiet (fail)
    go_wp2
    go_ret
    exact ⟨ret_i (by rw [← Hl.out]), _, rfl⟩
  · have hb' : (r.bad != 0) = true := by simpa using hb
    rw [if_neg hb] at hr
    have Hr := Lib.hid hr; clear hb hr
    go_enter Try.func36, Try.ntmps36
    go_wp2
    go_ret
    exact ⟨ret_i (by rw [Hr.out]; rfl), 0, rfl⟩
/-- End. -/
theorem endR_any (g : Nat) (r : Rdr) (w : World) (h : RR w g r) :
    Calls Try.prog 37 #[.pointer (some ⟨g, 0, none⟩)] w fun e w' => e = .returned (.int .i64 r.fin) ∧ ∃ m, w' = w.drewN m := by
  obtain ⟨A, c, l, a, h1, h2, h3, h4, hR, hr, c0, c1, c2, f1, f2, hh⟩ := h.cells
  clear hh f1 f2 c0 c1 hr hR
  by_cases hb : r.bad = 0
  · rw [hb] at c2
    by_cases hl : 0 < r.rest.length
    · have hf : r.fin = 2 := by unfold Rdr.fin; rw [if_pos ⟨hb, hl⟩]
      have Hf := Lib.hid hf; clear hf hb
      go_enter Try.func37, Try.ntmps37
      go_wp2_with fail
      refine (leftR_any g r _ h).mono ?_
      rintro e w1 ⟨rfl, m, rfl⟩
      go_wp2
      go_ret
      exact ⟨ret_i Hf.out.symm, m, rfl⟩
    · have hf : r.fin = 0 := by unfold Rdr.fin; rw [if_neg (fun h => hl h.2), hb]
      have Hf := Lib.hid hf; clear hf hb
      go_enter Try.func37, Try.ntmps37
      go_wp2_with fail
      refine (leftR_any g r _ h).mono ?_
      rintro e w1 ⟨rfl, m, rfl⟩
      have c2' : (w.drewN m).cell? ⟨g, 2, none⟩ = some (.int .i64 0) := c2
      go_wp2
      go_ret
      exact ⟨ret_i Hf.out.symm, m, rfl⟩
  · have hb' : (r.bad == 0) = false := by simpa using hb
    have hf : r.fin = r.bad := by unfold Rdr.fin; rw [if_neg (fun h => hb h.1)]
    have Hf := Lib.hid hf; clear hf hb
    go_enter Try.func37, Try.ntmps37
    go_wp2
    go_ret
    exact ⟨ret_i Hf.out.symm, 0, rfl⟩
/-- Zag. -/
theorem zagR_any (v : Nat) (w : World) (hv : v < 18446744073709551616) :
    Calls Try.prog 56 #[.int .u64 (v : Int)] w fun e w' => e = .returned (.int .i64 (zag v)) ∧ w = w' := by
  by_cases h1 : v % 2 = 1
  · have hz : zag v = -((v / 2 : Nat) : Int) - 1 := by unfold zag; rw [if_pos h1]
    have d1 : ((v : Int) % 2 == 1) = true := by simp; omega
    have Hz := Lib.hid hz; clear hz h1
    go_enter Try.func56, Try.ntmps56
    go_wp2
    go_ret
    exact ⟨ret_i (by rw [Hz.out]; omega), rfl⟩
  · have hz : zag v = ((v / 2 : Nat) : Int) := by unfold zag; rw [if_neg h1]
    have d1 : ((v : Int) % 2 == 1) = false := by simp; omega
    have Hz := Lib.hid hz; clear hz h1
    go_enter Try.func56, Try.ntmps56
    go_wp2
    go_ret
    exact ⟨ret_i (by rw [Hz.out]; omega), rfl⟩
end Go.Proofs.Ytcblmcpmdpnlbaa
