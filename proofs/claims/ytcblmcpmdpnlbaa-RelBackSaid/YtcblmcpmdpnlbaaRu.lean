/-
  Layer 1, prim.Reader: Uint, bytes, Text, Byte, Word, Int by contracts.
-/
import Derived.Test.YtcblmcpmdpnlbaaRq
namespace Go.Proofs.Ytcblmcpmdpnlbaa
open Go.RowKit

/-- A reader moved on by n bytes. -/
theorem PR.move {w : World} {g : Nat} {r : Rdr} {A : Option Addr} {c n : Nat} (h1 : r.rest.length ≤ c) (h2 : c ≤ maxLen) (hR : Rd w g 1 A r.rest.length (byt r.rest))
    (hh : w.heap[g]? = some (.cells #[.slice A r.rest.length c, .int .i64 r.bad] 95 (0, 0))) (hn : n ≤ r.rest.length) :
    PR (w.setCell ⟨g, 0, none⟩ (.slice (cutA A c n 1) (r.rest.length - n) (c - n))) g ⟨r.rest.drop n, r.bad⟩ := by
  refine ⟨cutA A c n 1, c - n, by simp; omega, by omega, ?_, ?_⟩
  · rw [row_set hh 0 _]; simp
  · have h3 := (hR.cutFrom hn h1).setCell (p := ⟨g, 0, none⟩) (Nat.le_refl _) (.slice (cutA A c n 1) (r.rest.length - n) (c - n))
    simpa [byt, List.map_drop] using h3

/-- Uint. -/
theorem uint_any (g : Nat) (r : Rdr) (limit : Nat) (w : World) (h : PR w g r) :
    Calls Try.prog 21 #[.pointer (some ⟨g, 0, none⟩), .int .u64 (limit : Int)] w (RetM (.int .u64 ((r.uint limit).1 : Int)) g (r.uint limit).2 w) := by
  obtain ⟨A, c, h1, h2, hR, c0, c1, f0, f1, hh⟩ := h.cells
  obtain ⟨i0, hi, hz0, hz1, hz2⟩ := info_parts Try.info5
  have hrng := (dgs_range 0 0 r.rest (by omega) (by simp)).1
  have hE : r.uintE limit = if (dgs 0 0 r.rest).1 = 0 ∧ limit < (dgs 0 0 r.rest).2.1 then 4 else (dgs 0 0 r.rest).1 := rfl
  have hU : r.uint limit = if r.uintE limit = 0 then ((dgs 0 0 r.rest).2.1, ⟨r.rest.drop (dgs 0 0 r.rest).2.2, r.bad⟩) else (0, r.giveUp (r.uintE limit)) := rfl
  have hlen := dgs_len 0 0 r.rest
  obtain ⟨D, hD⟩ : ∃ D, dgs 0 0 r.rest = D := ⟨_, rfl⟩
  obtain ⟨e, v, n⟩ := D
  rw [hD] at hrng hE hU hlen
  simp only at hrng hE hU hlen
  by_cases he : e = 0
  · subst he
    have hn : n ≤ r.rest.length := by have := hlen rfl; omega
    have hcut := run_cut_from (P := Try.prog) w Try.underlying22 hi A r.rest.length c n .i64 hn
    rw [hz1] at hcut
    by_cases hlim : limit < v
    · rw [if_pos ⟨rfl, hlim⟩] at hE
      rw [hE, if_neg (by decide)] at hU
      have HU := Lib.hid hU; have HD := Lib.hid hD; clear hU hE hD hlen hrng hh c0 c1 f0 f1
      go_enter Try.func21, Try.ntmps21
      go_wp2_with fail
      refine (digits_any g r _ h).mono ?_
      rintro e w' ⟨rfl, rfl⟩
      rw [HD.out]
      go_wp2_with fail
      refine (giveUp_any g r 4 _ h).mono ?_
      rintro e w' ⟨rfl, hp, hg⟩
      go_wp2
      go_ret
      rw [HU.out]
      exact ⟨rfl, hp, hg⟩
    · rw [if_neg (fun h => hlim h.2)] at hE
      rw [hE, if_pos rfl] at hU
      have HU := Lib.hid hU; have HD := Lib.hid hD; have Hh := Lib.hid hh; clear hU hE hD hlen hrng hh c1 f1
      go_enter Try.func21, Try.ntmps21
      go_wp2_with fail
      refine (digits_any g r _ h).mono ?_
      rintro e w' ⟨rfl, rfl⟩
      rw [HD.out]
      go_wp2
      go_ret
      rw [HU.out]
      exact ⟨rfl, PR.move h1 h2 hR Hh.out hn, grown_set _ _ _ _⟩
  · rw [if_neg (fun h => he h.1)] at hE
    rw [hE, if_neg he] at hU
    have he0 : (e == 0) = false := by simpa using he
    have he1 : (e != 0) = true := by simpa using he
    have HU := Lib.hid hU; have HD := Lib.hid hD; clear hU hE hD hlen hrng hh c0 c1 f0 f1 he
    go_enter Try.func21, Try.ntmps21
    go_wp2_with fail
    refine (digits_any g r _ h).mono ?_
    rintro _ w' ⟨rfl, rfl⟩
    rw [HD.out]
    go_wp2_with fail
    refine (giveUp_any g r e _ h).mono ?_
    rintro _ w' ⟨rfl, hp, hg⟩
    go_wp2
    go_ret
    rw [HU.out]
    exact ⟨rfl, hp, hg⟩

/-- bytes: what it answers reads as the head, below the reader's block. -/
def RetBy (g : Nat) (l : List UInt8) (r : Rdr) (w : World) (e : Ending) (w' : World) : Prop :=
  ∃ A c, e = .returned (.slice A l.length c) ∧ Rd w' g 1 A l.length (byt l) ∧ PR w' g r ∧ w.grownBy w' (some g)
theorem bytes_any (g : Nat) (r : Rdr) (n : Nat) (w : World) (h : PR w g r) :
    Calls Try.prog 55 #[.pointer (some ⟨g, 0, none⟩), .int .i64 (n : Int)] w (RetBy g (r.take n).1 (r.take n).2 w) := by
  obtain ⟨A, c, h1, h2, hR, c0, c1, f0, f1, hh⟩ := h.cells
  obtain ⟨i0, hi, hz0, hz1, hz2⟩ := info_parts Try.info5
  by_cases hn : r.rest.length < n
  · have hT : r.take n = ([], r.giveUp 1) := by unfold Rdr.take; rw [if_pos hn]
    have HT := Lib.hid hT; clear hT hh c1 f0 f1
    go_enter Try.func55, Try.ntmps55
    go_wp2_with fail
    refine (giveUp_any g r 1 _ h).mono ?_
    rintro e w' ⟨rfl, hp, hg⟩
    go_wp2
    go_ret
    rw [HT.out]
    exact ⟨none, 0, rfl, Rd.none_, hp, hg⟩
  · have hT : r.take n = (r.rest.take n, ⟨r.rest.drop n, r.bad⟩) := by unfold Rdr.take; rw [if_neg hn]
    have hn' : n ≤ r.rest.length := by omega
    have hcut := run_cut_from (P := Try.prog) w Try.underlying22 hi A r.rest.length c n .i64 hn'
    have hcut2 := run_cut_to (P := Try.prog) w Try.underlying22 hi A r.rest.length c n .i64 (by omega)
    rw [hz1] at hcut
    have HT := Lib.hid hT; have Hh := Lib.hid hh; clear hT hh c1 f1
    go_enter Try.func55, Try.ntmps55
    go_wp2
    go_ret
    rw [HT.out]
    have hlen : (r.rest.take n).length = n := by rw [List.length_take]; omega
    have h3 := (hR.take_ hn').setCell (p := ⟨g, 0, none⟩) (Nat.le_refl _) (.slice (cutA A c n 1) (r.rest.length - n) (c - n))
    refine ⟨A, c, by simp only [hlen]; rfl, ?_, PR.move h1 h2 hR Hh.out hn', grown_set _ _ _ _⟩
    simp only [hlen]
    simpa [byt, List.map_take] using h3
end Go.Proofs.Ytcblmcpmdpnlbaa
