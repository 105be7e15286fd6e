/-
  Layer 1, the reference's reader: Uint by its contract.
-/
import Derived.Test.YtcblmcpmdpnlbaaRr
namespace Go.Proofs.Ytcblmcpmdpnlbaa
open Go.RowKit

theorem uint_of_err {r : Rdr} {e : Int} {most : Nat} (h : dgs 0 0 r.rest = (e, 0, 0)) (he : e ≠ 0) : r.uint most = (0, r.fail e) := by
  have h1 : r.uintE most = e := by unfold Rdr.uintE; rw [h, if_neg (fun h => he h.1)]
  unfold Rdr.uint Rdr.fail
  rw [h1, if_neg he, if_neg he]
theorem uint_of_ok {r : Rdr} {V N most : Nat} (h : dgs 0 0 r.rest = (0, V, N)) : r.uint most = if most < V then (0, r.fail 4) else (V, ⟨r.rest.drop N, r.bad⟩) := by
  unfold Rdr.uint Rdr.uintE Rdr.fail
  simp only [h]
  by_cases hm : most < V
  · simp [hm]
  · simp [hm]
theorem RR.at_ {w : World} {g k at_ : Nat} {A : Option Addr} {l : List UInt8} {r : Rdr} (hR : Rd w g 1 A l.length (byt l)) (hr : r.rest = if r.bad = 0 then l.drop at_ else []) (hk : k < r.rest.length) :
    r.bad = 0 ∧ at_ + k < l.length ∧ ∃ b off, A = some ⟨b, off, none⟩ ∧ w.cell? ⟨b, off + (at_ + k), none⟩ = some (.int .u8 (r.rest[k].toNat : Int)) := by
  by_cases hb : r.bad = 0
  · rw [if_pos hb] at hr
    have hlt : at_ + k < l.length := by rw [hr, List.length_drop] at hk; omega
    obtain ⟨b, off, e, _, hc⟩ := hR.at_ hlt
    refine ⟨hb, hlt, b, off, e, ?_⟩
    rw [hc (at_ + k) hlt]
    simp only [hr, List.getElem_drop]
  · rw [if_neg hb] at hr
    rw [hr] at hk; simp at hk

/-- Left, in a region that draws. -/
theorem left_q {g : Nat} {r : Rdr} {w : World} (h : RR w g r) {m n : Nat} : Calls Try.prog 36 #[.pointer (some ⟨g, 0, none⟩)] (w.drewN (m + n)) fun e w' => e = .returned (.int .i64 (r.rest.length : Int)) ∧ ∃ k, w' = w.drewN (m + k) :=
  (leftR_any g r (w.drewN (m + n)) h).mono fun e w' ⟨he, k, hk⟩ => ⟨he, n + k, by rw [hk, World.drewN_drewN, Nat.add_assoc]⟩

def Lead (q : List UInt8) (k : Nat) : Prop := ∀ j (h : j < q.length), j < k → 128 ≤ q[j].toNat
theorem Lead.snoc {q : List UInt8} {k : Nat} (h : Lead q k) (hk : k < q.length) (hx : 128 ≤ q[k].toNat) : Lead q (k + 1) := fun j hj hlt => by
  rcases (show j < k ∨ j = k by omega) with h1 | rfl
  · exact h j hj h1
  · exact hx
def isNat (v : Value) (k : Nat) : Prop := v = .int .i64 (k : Int)

set_option maxRecDepth 100000 in
set_option maxHeartbeats 1600000 in
theorem uintRd_any (g : Nat) (r : Rdr) (most : Nat) (w : World) (h : RR w g r) :
    Calls Try.prog 29 #[.pointer (some ⟨g, 0, none⟩), .int .u64 (most : Int)] w (RetW (.int .u64 ((r.uint most).1 : Int)) g (r.uint most).2 w) := by
  obtain ⟨A, c, l, a, h1, h2, h3, h4, hR, hr, c0, c1, c2, f1, f2, hh⟩ := h.cells
  have hrl : r.rest.length ≤ 1048576 := by
    rw [hr]; split
    · rw [List.length_drop]; omega
    · simp
  have HR := Lib.hid hR; have Hr := Lib.hid hr; have Hh := Lib.hid hh; clear hR hr hh
  go_enter Try.func29, Try.ntmps29
  go_wp2
  go_loopw [5] (fun n wr => ∃ (k m : Nat), n = .int .i64 (k : Int) ∧ k ≤ 10 ∧ k ≤ r.rest.length ∧ Hid (Lead r.rest k) ∧ wr = w.drewN m) (fun n _ => (10 - intOf n).toNat)
  case atStart => exact ⟨0, 0, rfl, by omega, by omega, Lib.hid (fun j _ hj => absurd hj (by omega)), rfl⟩
  case round =>
    obtain ⟨k, m, rfl, hk10, hkl, HL, rfl⟩ := hrel
    by_cases hten : k = 10
    · subst hten
      have hd := dgs_ten hkl (fun j hj h => HL.out j hj h)
      have Hu := Lib.hid (uint_of_err (most := most) hd (by decide)); clear hd
      have c0m : (w.drewN m).cell? ⟨g, 0, none⟩ = some (.slice A l.length c) := c0
      have c1m : (w.drewN m).cell? ⟨g, 1, none⟩ = some (.int .i64 (a : Nat)) := c1
      go_wp2_with fail
      go_quiet (fail)
      rw [World.drewN_drewN]
      generalize m + nq = m1
      clear c0m c1m
      have c0m : (w.drewN m1).cell? ⟨g, 0, none⟩ = some (.slice A l.length c) := c0
      have c1m : (w.drewN m1).cell? ⟨g, 1, none⟩ = some (.int .i64 (a : Nat)) := c1
      go_wp2_with fail
      go_quiet (fail)
      rw [World.drewN_drewN]
      generalize m1 + nq = m2
      clear c0m c1m
      have c0m : (w.drewN m2).cell? ⟨g, 0, none⟩ = some (.slice A l.length c) := c0
      have c1m : (w.drewN m2).cell? ⟨g, 1, none⟩ = some (.int .i64 (a : Nat)) := c1
      go_wp2_with fail
      refine (giveUpR_any g r 5 (w.drewN _) h).mono ?_
      rintro e w9 ⟨rfl, hp, hg⟩
      go_wp2
      go_ret
      rw [Hu.out]
      exact ⟨rfl, hp, ⟨hg.os, hg.tape, hg.output, hg.size, hg.block⟩⟩
    · have hk9 : k ≤ 9 := by omega
      have e10 : decide ((k : Int) < 10) = true := by simp; omega
      have e10' : ((k : Int) == 10) = false := by simp; omega
      by_cases hlen : k = r.rest.length
      · have hd := dgs_end (q := r.rest) (by omega) (fun j hj => HL.out j hj (by omega))
        have Hu := Lib.hid (uint_of_err (most := most) hd (by decide)); clear hd
        have eL : decide (k < r.rest.length) = false := by simp; omega
        have eL' : decide (r.rest.length ≤ k) = true := by simp; omega
        clear hlen hten
        by_cases hnine : k = 9
        · have e9 : ((k : Int) == 9) = true := by simp; omega
          clear hnine
          have c0m : (w.drewN m).cell? ⟨g, 0, none⟩ = some (.slice A l.length c) := c0
          have c1m : (w.drewN m).cell? ⟨g, 1, none⟩ = some (.int .i64 (a : Nat)) := c1
          go_wp2_with fail
          go_quiet ((go_at_call 36; exact left_q h))
          rw [World.drewN_drewN]
          generalize m + nq = m3
          clear c0m c1m
          have c0m : (w.drewN m3).cell? ⟨g, 0, none⟩ = some (.slice A l.length c) := c0
          have c1m : (w.drewN m3).cell? ⟨g, 1, none⟩ = some (.int .i64 (a : Nat)) := c1
          go_wp2_with fail
          go_quiet ((go_at_call 36; exact left_q h))
          rw [World.drewN_drewN]
          generalize m3 + nq = m4
          clear c0m c1m
          have c0m : (w.drewN m4).cell? ⟨g, 0, none⟩ = some (.slice A l.length c) := c0
          have c1m : (w.drewN m4).cell? ⟨g, 1, none⟩ = some (.int .i64 (a : Nat)) := c1
          go_wp2_with fail
          refine (leftR_any g r (w.drewN _) h).mono ?_
          rintro e w1 ⟨rfl, mx, rfl⟩
          go_wp2_with fail
          refine (giveUpR_any g r 1 (w.drewN _) h).mono ?_
          rintro e w9 ⟨rfl, hp, hg⟩
          go_wp2
          go_ret
          rw [Hu.out]
          exact ⟨rfl, hp, ⟨hg.os, hg.tape, hg.output, hg.size, hg.block⟩⟩
        · have e9 : ((k : Int) == 9) = false := by simp; omega
          clear hnine
          have c0m : (w.drewN m).cell? ⟨g, 0, none⟩ = some (.slice A l.length c) := c0
          have c1m : (w.drewN m).cell? ⟨g, 1, none⟩ = some (.int .i64 (a : Nat)) := c1
          go_wp2_with fail
          go_quiet ((go_at_call 36; exact left_q h))
          rw [World.drewN_drewN]
          generalize m + nq = m5
          clear c0m c1m
          have c0m : (w.drewN m5).cell? ⟨g, 0, none⟩ = some (.slice A l.length c) := c0
          have c1m : (w.drewN m5).cell? ⟨g, 1, none⟩ = some (.int .i64 (a : Nat)) := c1
          go_wp2_with fail
          go_quiet ((go_at_call 36; exact left_q h))
          rw [World.drewN_drewN]
          generalize m5 + nq = m6
          clear c0m c1m
          have c0m : (w.drewN m6).cell? ⟨g, 0, none⟩ = some (.slice A l.length c) := c0
          have c1m : (w.drewN m6).cell? ⟨g, 1, none⟩ = some (.int .i64 (a : Nat)) := c1
          go_wp2_with fail
          refine (leftR_any g r (w.drewN _) h).mono ?_
          rintro e w1 ⟨rfl, mx, rfl⟩
          go_wp2_with fail
          refine (giveUpR_any g r 1 (w.drewN _) h).mono ?_
          rintro e w9 ⟨rfl, hp, hg⟩
          go_wp2
          go_ret
          rw [Hu.out]
          exact ⟨rfl, hp, ⟨hg.os, hg.tape, hg.output, hg.size, hg.block⟩⟩
      · have hlt : k < r.rest.length := by omega
        obtain ⟨hbad, hal, b, off, rfl, hcell⟩ := RR.at_ HR.out Hr.out hlt
        have hi : (a : Int) + (k : Int) < (l.length : Int) := by omega
        have hx8 : (r.rest[k]).toNat < 256 := (r.rest[k]).toNat_lt
        have eL : decide (k < r.rest.length) = true := by simp; omega
        have eL' : decide (r.rest.length ≤ k) = false := by simp; omega
        clear hlen hten
        obtain ⟨x, hx⟩ : ∃ x, x = (r.rest[k]).toNat := ⟨_, rfl⟩
        rw [← hx] at hcell hx8
        have Hx := Lib.hid hx; clear hx
        have HB := Lib.hid hbad; clear hbad
        by_cases h127 : 127 < x
        · have e127 : decide ((127 : Int) < (x : Int)) = true := by simp; omega
          have c0m : (w.drewN m).cell? ⟨g, 0, none⟩ = some (.slice (some ⟨b, off, none⟩) l.length c) := c0
          have c1m : (w.drewN m).cell? ⟨g, 1, none⟩ = some (.int .i64 (a : Nat)) := c1
          have cxm : (w.drewN m).cell? ⟨b, off + (a + k), none⟩ = some (.int .u8 (x : Int)) := hcell
          go_wp2_with fail
          go_quiet ((go_at_call 36; exact left_q h))
          rw [World.drewN_drewN]
          generalize m + nq = m7
          clear c0m c1m cxm
          have c0m : (w.drewN m7).cell? ⟨g, 0, none⟩ = some (.slice (some ⟨b, off, none⟩) l.length c) := c0
          have c1m : (w.drewN m7).cell? ⟨g, 1, none⟩ = some (.int .i64 (a : Nat)) := c1
          have cxm : (w.drewN m7).cell? ⟨b, off + (a + k), none⟩ = some (.int .u8 (x : Int)) := hcell
          go_wp2
          go_roundw
          case rel => exact ⟨k + 1, _, by go_num, by omega, by omega, Lib.hid (HL.out.snoc hlt (by rw [← Hx.out]; omega)), rfl⟩
          case measure => simp [intOf]; omega
        · have e127 : decide ((127 : Int) < (x : Int)) = false := by simp; omega
          by_cases hd1 : k = 9 ∧ 1 < x
          · have hd := dgs_nine (q := r.rest) (by omega) (fun j hj h => HL.out j hj (by omega)) (by have h9 := hd1.1; subst h9; rw [← Hx.out]; exact hd1.2)
            have Hu := Lib.hid (uint_of_err (most := most) hd (by decide)); clear hd
            have e9 : ((k : Int) == 9) = true := by simp; omega
            have e1 : decide ((1 : Int) < (x : Int)) = true := by simp; omega
            clear hd1
            have c0m : (w.drewN m).cell? ⟨g, 0, none⟩ = some (.slice (some ⟨b, off, none⟩) l.length c) := c0
            have c1m : (w.drewN m).cell? ⟨g, 1, none⟩ = some (.int .i64 (a : Nat)) := c1
            have cxm : (w.drewN m).cell? ⟨b, off + (a + k), none⟩ = some (.int .u8 (x : Int)) := hcell
            go_wp2_with fail
            go_quiet ((go_at_call 36; exact left_q h))
            rw [World.drewN_drewN]
            generalize m + nq = m8
            clear c0m c1m cxm
            have c0m : (w.drewN m8).cell? ⟨g, 0, none⟩ = some (.slice (some ⟨b, off, none⟩) l.length c) := c0
            have c1m : (w.drewN m8).cell? ⟨g, 1, none⟩ = some (.int .i64 (a : Nat)) := c1
            have cxm : (w.drewN m8).cell? ⟨b, off + (a + k), none⟩ = some (.int .u8 (x : Int)) := hcell
            go_wp2_with fail
            go_quiet ((go_at_call 36; exact left_q h))
            rw [World.drewN_drewN]
            generalize m8 + nq = m9
            clear c0m c1m cxm
            have c0m : (w.drewN m9).cell? ⟨g, 0, none⟩ = some (.slice (some ⟨b, off, none⟩) l.length c) := c0
            have c1m : (w.drewN m9).cell? ⟨g, 1, none⟩ = some (.int .i64 (a : Nat)) := c1
            have cxm : (w.drewN m9).cell? ⟨b, off + (a + k), none⟩ = some (.int .u8 (x : Int)) := hcell
            go_wp2_with fail
            refine (giveUpR_any g r 5 (w.drewN _) h).mono ?_
            rintro e w9 ⟨rfl, hp, hg⟩
            go_wp2
            go_ret
            rw [Hu.out]
            exact ⟨rfl, hp, ⟨hg.os, hg.tape, hg.output, hg.size, hg.block⟩⟩
          · by_cases hd2 : 0 < k ∧ x = 0
            · have hd := dgs_zero (q := r.rest) hk9 hd2.1 hlt (fun j hj h => HL.out j hj h) (by rw [← Hx.out]; exact hd2.2)
              have Hu := Lib.hid (uint_of_err (most := most) hd (by decide)); clear hd
              have e0k : decide (0 < k) = true := by simp; omega
              have e0x : ((x : Int) == 0) = true := by simp; omega
              have e1 : decide ((1 : Int) < (x : Int)) = false := by simp; omega
              clear hd1 hd2
              by_cases hnine : k = 9
              · have e9 : ((k : Int) == 9) = true := by simp; omega
                clear hnine
                have c0m : (w.drewN m).cell? ⟨g, 0, none⟩ = some (.slice (some ⟨b, off, none⟩) l.length c) := c0
                have c1m : (w.drewN m).cell? ⟨g, 1, none⟩ = some (.int .i64 (a : Nat)) := c1
                have cxm : (w.drewN m).cell? ⟨b, off + (a + k), none⟩ = some (.int .u8 (x : Int)) := hcell
                go_wp2_with fail
                go_quiet ((go_at_call 36; exact left_q h))
                rw [World.drewN_drewN]
                generalize m + nq = m10
                clear c0m c1m cxm
                have c0m : (w.drewN m10).cell? ⟨g, 0, none⟩ = some (.slice (some ⟨b, off, none⟩) l.length c) := c0
                have c1m : (w.drewN m10).cell? ⟨g, 1, none⟩ = some (.int .i64 (a : Nat)) := c1
                have cxm : (w.drewN m10).cell? ⟨b, off + (a + k), none⟩ = some (.int .u8 (x : Int)) := hcell
                go_wp2_with fail
                go_quiet ((go_at_call 36; exact left_q h))
                rw [World.drewN_drewN]
                generalize m10 + nq = m11
                clear c0m c1m cxm
                have c0m : (w.drewN m11).cell? ⟨g, 0, none⟩ = some (.slice (some ⟨b, off, none⟩) l.length c) := c0
                have c1m : (w.drewN m11).cell? ⟨g, 1, none⟩ = some (.int .i64 (a : Nat)) := c1
                have cxm : (w.drewN m11).cell? ⟨b, off + (a + k), none⟩ = some (.int .u8 (x : Int)) := hcell
                go_wp2_with fail
                refine (leftR_any g r (w.drewN _) h).mono ?_
                rintro e w1 ⟨rfl, mx, rfl⟩
                rw [World.drewN_drewN]
                generalize m11 + mx = my
                clear c0m c1m cxm
                have c0m : (w.drewN my).cell? ⟨g, 0, none⟩ = some (.slice (some ⟨b, off, none⟩) l.length c) := c0
                have c1m : (w.drewN my).cell? ⟨g, 1, none⟩ = some (.int .i64 (a : Nat)) := c1
                have cxm : (w.drewN my).cell? ⟨b, off + (a + k), none⟩ = some (.int .u8 (x : Int)) := hcell
                go_wp2_with fail
                go_quiet (fail)
                rw [World.drewN_drewN]
                generalize my + nq = m12
                clear c0m c1m cxm
                have c0m : (w.drewN m12).cell? ⟨g, 0, none⟩ = some (.slice (some ⟨b, off, none⟩) l.length c) := c0
                have c1m : (w.drewN m12).cell? ⟨g, 1, none⟩ = some (.int .i64 (a : Nat)) := c1
                have cxm : (w.drewN m12).cell? ⟨b, off + (a + k), none⟩ = some (.int .u8 (x : Int)) := hcell
                go_wp2_with fail
                refine (giveUpR_any g r 5 (w.drewN _) h).mono ?_
                rintro e w9 ⟨rfl, hp, hg⟩
                go_wp2
                go_ret
                rw [Hu.out]
                exact ⟨rfl, hp, ⟨hg.os, hg.tape, hg.output, hg.size, hg.block⟩⟩
              · have e9 : ((k : Int) == 9) = false := by simp; omega
                clear hnine
                have c0m : (w.drewN m).cell? ⟨g, 0, none⟩ = some (.slice (some ⟨b, off, none⟩) l.length c) := c0
                have c1m : (w.drewN m).cell? ⟨g, 1, none⟩ = some (.int .i64 (a : Nat)) := c1
                have cxm : (w.drewN m).cell? ⟨b, off + (a + k), none⟩ = some (.int .u8 (x : Int)) := hcell
                go_wp2_with fail
                go_quiet ((go_at_call 36; exact left_q h))
                rw [World.drewN_drewN]
                generalize m + nq = m13
                clear c0m c1m cxm
                have c0m : (w.drewN m13).cell? ⟨g, 0, none⟩ = some (.slice (some ⟨b, off, none⟩) l.length c) := c0
                have c1m : (w.drewN m13).cell? ⟨g, 1, none⟩ = some (.int .i64 (a : Nat)) := c1
                have cxm : (w.drewN m13).cell? ⟨b, off + (a + k), none⟩ = some (.int .u8 (x : Int)) := hcell
                go_wp2_with fail
                go_quiet (fail)
                rw [World.drewN_drewN]
                generalize m13 + nq = m14
                clear c0m c1m cxm
                have c0m : (w.drewN m14).cell? ⟨g, 0, none⟩ = some (.slice (some ⟨b, off, none⟩) l.length c) := c0
                have c1m : (w.drewN m14).cell? ⟨g, 1, none⟩ = some (.int .i64 (a : Nat)) := c1
                have cxm : (w.drewN m14).cell? ⟨b, off + (a + k), none⟩ = some (.int .u8 (x : Int)) := hcell
                go_wp2_with fail
                refine (leftR_any g r (w.drewN _) h).mono ?_
                rintro e w1 ⟨rfl, mx, rfl⟩
                rw [World.drewN_drewN]
                generalize m14 + mx = my
                clear c0m c1m cxm
                have c0m : (w.drewN my).cell? ⟨g, 0, none⟩ = some (.slice (some ⟨b, off, none⟩) l.length c) := c0
                have c1m : (w.drewN my).cell? ⟨g, 1, none⟩ = some (.int .i64 (a : Nat)) := c1
                have cxm : (w.drewN my).cell? ⟨b, off + (a + k), none⟩ = some (.int .u8 (x : Int)) := hcell
                go_wp2_with fail
                go_quiet (fail)
                rw [World.drewN_drewN]
                generalize my + nq = m15
                clear c0m c1m cxm
                have c0m : (w.drewN m15).cell? ⟨g, 0, none⟩ = some (.slice (some ⟨b, off, none⟩) l.length c) := c0
                have c1m : (w.drewN m15).cell? ⟨g, 1, none⟩ = some (.int .i64 (a : Nat)) := c1
                have cxm : (w.drewN m15).cell? ⟨b, off + (a + k), none⟩ = some (.int .u8 (x : Int)) := hcell
                go_wp2_with fail
                refine (giveUpR_any g r 5 (w.drewN _) h).mono ?_
                rintro e w9 ⟨rfl, hp, hg⟩
                go_wp2
                go_ret
                rw [Hu.out]
                exact ⟨rfl, hp, ⟨hg.os, hg.tape, hg.output, hg.size, hg.block⟩⟩
            · have hle : x < 128 := by omega
              have hd := dgs_fine (q := r.rest) hk9 hlt (fun j hj h => HL.out j hj h) (by rw [← Hx.out]; exact hle) (by rw [← Hx.out]; omega) (by rw [← Hx.out]; omega)
              rw [← seg_zero] at hd
              have hr64 : seg r.rest 0 k < 18446744073709551616 := by have := (dgs_range 0 0 r.rest (by omega) (by simp)).2.1; rw [hd] at this; exact this
              have Hu := Lib.hid (uint_of_ok (most := most) hd); clear hd
              have Hsl := Lib.hid (seg_le r.rest k hlt)
              by_cases hk0 : k = 0
              · have e0k : decide (0 < k) = false := by simp; omega
                have e9 : ((k : Int) == 9) = false := by simp; omega
                clear hd1 hd2 hk0
                have c0m : (w.drewN m).cell? ⟨g, 0, none⟩ = some (.slice (some ⟨b, off, none⟩) l.length c) := c0
                have c1m : (w.drewN m).cell? ⟨g, 1, none⟩ = some (.int .i64 (a : Nat)) := c1
                have cxm : (w.drewN m).cell? ⟨b, off + (a + k), none⟩ = some (.int .u8 (x : Int)) := hcell
                go_wp2_with fail
                go_quiet ((go_at_call 36; exact left_q h))
                rw [World.drewN_drewN]
                generalize m + nq = m16
                clear c0m c1m cxm
                have c0m : (w.drewN m16).cell? ⟨g, 0, none⟩ = some (.slice (some ⟨b, off, none⟩) l.length c) := c0
                have c1m : (w.drewN m16).cell? ⟨g, 1, none⟩ = some (.int .i64 (a : Nat)) := c1
                have cxm : (w.drewN m16).cell? ⟨b, off + (a + k), none⟩ = some (.int .u8 (x : Int)) := hcell
                go_wp2_with fail
                go_quiet (fail)
                rw [World.drewN_drewN]
                generalize m16 + nq = m17
                clear c0m c1m cxm
                have c0m : (w.drewN m17).cell? ⟨g, 0, none⟩ = some (.slice (some ⟨b, off, none⟩) l.length c) := c0
                have c1m : (w.drewN m17).cell? ⟨g, 1, none⟩ = some (.int .i64 (a : Nat)) := c1
                have cxm : (w.drewN m17).cell? ⟨b, off + (a + k), none⟩ = some (.int .u8 (x : Int)) := hcell
                go_wp2_with fail
                refine (leftR_any g r (w.drewN _) h).mono ?_
                rintro e w1 ⟨rfl, mx, rfl⟩
                rw [World.drewN_drewN]
                generalize m17 + mx = my
                clear c0m c1m cxm
                have c0m : (w.drewN my).cell? ⟨g, 0, none⟩ = some (.slice (some ⟨b, off, none⟩) l.length c) := c0
                have c1m : (w.drewN my).cell? ⟨g, 1, none⟩ = some (.int .i64 (a : Nat)) := c1
                have cxm : (w.drewN my).cell? ⟨b, off + (a + k), none⟩ = some (.int .u8 (x : Int)) := hcell
                go_wp2_with fail
                go_quiet (fail)
                rw [World.drewN_drewN]
                generalize my + nq = m18
                clear c0m c1m cxm
                have c0m : (w.drewN m18).cell? ⟨g, 0, none⟩ = some (.slice (some ⟨b, off, none⟩) l.length c) := c0
                have c1m : (w.drewN m18).cell? ⟨g, 1, none⟩ = some (.int .i64 (a : Nat)) := c1
                have cxm : (w.drewN m18).cell? ⟨b, off + (a + k), none⟩ = some (.int .u8 (x : Int)) := hcell
                clear e10 e10' eL eL' e127 e9
                go_wp2
                go_loopw [6, 7] (fun v i wr => ∃ (j m : Nat), v = .int .u64 (seg r.rest j k : Nat) ∧ i = .int .i64 ((j : Int) - 1) ∧ j ≤ k + 1 ∧ wr = w.drewN m) (fun _ i _ => (intOf i + 1).toNat)
                case atStart => exact ⟨k + 1, _, by rw [seg_end]; rfl, by go_num, by omega, rfl⟩
                case round =>
                  obtain ⟨j, mj, rfl, rfl, hj, rfl⟩ := hrel
                  clear c0m c1m cxm hcell hi
                  by_cases hj0 : j = 0
                  · subst hj0
                    obtain ⟨V, hV⟩ : ∃ V, V = seg r.rest 0 k := ⟨_, rfl⟩
                    rw [← hV] at hr64 ⊢
                    have Hu2 := Hu.out
                    rw [← hV] at Hu2
                    clear Hu hV
                    by_cases hmost : most < V
                    · have em : decide (most < V) = true := by simpa using hmost
                      rw [if_pos hmost] at Hu2
                      have Hu := Lib.hid Hu2; clear Hu2 hmost
                      have c0m : (w.drewN mj).cell? ⟨g, 0, none⟩ = some (.slice (some ⟨b, off, none⟩) l.length c) := c0
                      have c1m : (w.drewN mj).cell? ⟨g, 1, none⟩ = some (.int .i64 (a : Nat)) := c1
                      go_wp2_with fail
                      refine (giveUpR_any g r 4 (w.drewN _) h).mono ?_
                      rintro e w9 ⟨rfl, hp, hg⟩
                      go_wp2
                      go_ret
                      rw [Hu.out]
                      exact ⟨rfl, hp, ⟨hg.os, hg.tape, hg.output, hg.size, hg.block⟩⟩
                    · have em : decide (most < V) = false := by simpa using hmost
                      rw [if_neg hmost] at Hu2
                      have Hu := Lib.hid Hu2; clear Hu2 hmost
                      have c0m : (w.drewN mj).cell? ⟨g, 0, none⟩ = some (.slice (some ⟨b, off, none⟩) l.length c) := c0
                      have c1m : (w.drewN mj).cell? ⟨g, 1, none⟩ = some (.int .i64 (a : Nat)) := c1
                      have f1m : (w.drewN mj).frozen? ⟨g, 1, none⟩ = false := f1
                      go_wp2
                      go_ret
                      rw [Hu.out]
                      refine ⟨rfl, ?_, ?_⟩
                      · have hrow := row_set (w := w.drewN mj) Hh.out 1 (.int .i64 ((a : Int) + (k : Int) + 1))
                        refine ⟨some ⟨b, off, none⟩, c, l, a + k + 1, by omega, h2, h3, h4, ?_, HR.out.setCell (Nat.le_refl _) _, ?_⟩
                        · have e3 : ((a + k + 1 : Nat) : Int) = (a : Int) + (k : Int) + 1 := by omega
                          rw [e3]
                          exact hrow
                        · have hr := Hr.out
                          rw [if_pos HB.out] at hr
                          show r.rest.drop (k + 1) = if r.bad = 0 then l.drop (a + k + 1) else []
                          rw [if_pos HB.out, hr, List.drop_drop]; rfl
                      · have hg := grown_set (w.drewN mj) g 1 (.int .i64 ((a + k + 1 : Nat) : Int))
                        exact ⟨hg.os, hg.tape, hg.output, hg.size, hg.block⟩
                  · obtain ⟨jj, rfl⟩ : ∃ jj, j = jj + 1 := ⟨j - 1, by omega⟩
                    have hjlt : jj < r.rest.length := by omega
                    obtain ⟨_, hal2, b2, off2, he2, hcell2⟩ := RR.at_ HR.out Hr.out hjlt
                    injection he2 with he2
                    injection he2 with he2 he3 _
                    subst he2
                    subst he3
                    have hseg := seg_step r.rest jj k (by omega) hlt
                    have hsl := Hsl.out jj (by omega)
                    have hx28 : (r.rest[jj]).toNat < 256 := (r.rest[jj]).toNat_lt
                    generalize (r.rest[jj]).toNat = x2 at *
                    generalize hS : seg r.rest (jj + 1) k = S at *
                    have hb1 : 128 * S < 18446744073709551616 := by omega
                    have hb2 : 128 * S + x2 % 128 < 18446744073709551616 := by omega
                    have HS := Lib.hid hseg; clear hseg hS hsl hj0
                    have ej : decide ((0 : Int) ≤ ((jj + 1 : Nat) : Int) - 1) = true := decide_eq_true (by omega)
                    have hi2 : (a : Int) + (jj : Int) < (l.length : Int) := by omega
                    have c0m : (w.drewN mj).cell? ⟨g, 0, none⟩ = some (.slice (some ⟨b, off, none⟩) l.length c) := c0
                    have c1m : (w.drewN mj).cell? ⟨g, 1, none⟩ = some (.int .i64 (a : Nat)) := c1
                    have cxm : (w.drewN mj).cell? ⟨b, off + (a + jj), none⟩ = some (.int .u8 (x2 : Int)) := hcell2
                    go_wp2_with fail
                    go_quiet (fail)
                    rw [World.drewN_drewN]
                    go_wp2
                    go_roundw
                    case rel => exact ⟨jj, _, by rw [HS.out]; go_num, by go_num, by omega, rfl⟩
                    case measure => simp [intOf] <;> omega
              · have e0k : decide (0 < k) = true := by simp; omega
                have e0x : ((x : Int) == 0) = false := by simp; omega
                clear hk0
                by_cases hnine : k = 9
                · have e9 : ((k : Int) == 9) = true := by simp; omega
                  have e1 : decide ((1 : Int) < (x : Int)) = false := by simp; omega
                  clear hd1 hd2 hnine
                  have c0m : (w.drewN m).cell? ⟨g, 0, none⟩ = some (.slice (some ⟨b, off, none⟩) l.length c) := c0
                  have c1m : (w.drewN m).cell? ⟨g, 1, none⟩ = some (.int .i64 (a : Nat)) := c1
                  have cxm : (w.drewN m).cell? ⟨b, off + (a + k), none⟩ = some (.int .u8 (x : Int)) := hcell
                  go_wp2_with fail
                  go_quiet ((go_at_call 36; exact left_q h))
                  rw [World.drewN_drewN]
                  generalize m + nq = m19
                  clear c0m c1m cxm
                  have c0m : (w.drewN m19).cell? ⟨g, 0, none⟩ = some (.slice (some ⟨b, off, none⟩) l.length c) := c0
                  have c1m : (w.drewN m19).cell? ⟨g, 1, none⟩ = some (.int .i64 (a : Nat)) := c1
                  have cxm : (w.drewN m19).cell? ⟨b, off + (a + k), none⟩ = some (.int .u8 (x : Int)) := hcell
                  go_wp2_with fail
                  go_quiet ((go_at_call 36; exact left_q h))
                  rw [World.drewN_drewN]
                  generalize m19 + nq = m20
                  clear c0m c1m cxm
                  have c0m : (w.drewN m20).cell? ⟨g, 0, none⟩ = some (.slice (some ⟨b, off, none⟩) l.length c) := c0
                  have c1m : (w.drewN m20).cell? ⟨g, 1, none⟩ = some (.int .i64 (a : Nat)) := c1
                  have cxm : (w.drewN m20).cell? ⟨b, off + (a + k), none⟩ = some (.int .u8 (x : Int)) := hcell
                  go_wp2_with fail
                  refine (leftR_any g r (w.drewN _) h).mono ?_
                  rintro e w1 ⟨rfl, mx, rfl⟩
                  rw [World.drewN_drewN]
                  generalize m20 + mx = my
                  clear c0m c1m cxm
                  have c0m : (w.drewN my).cell? ⟨g, 0, none⟩ = some (.slice (some ⟨b, off, none⟩) l.length c) := c0
                  have c1m : (w.drewN my).cell? ⟨g, 1, none⟩ = some (.int .i64 (a : Nat)) := c1
                  have cxm : (w.drewN my).cell? ⟨b, off + (a + k), none⟩ = some (.int .u8 (x : Int)) := hcell
                  go_wp2_with fail
                  go_quiet (fail)
                  rw [World.drewN_drewN]
                  generalize my + nq = m21
                  clear c0m c1m cxm
                  have c0m : (w.drewN m21).cell? ⟨g, 0, none⟩ = some (.slice (some ⟨b, off, none⟩) l.length c) := c0
                  have c1m : (w.drewN m21).cell? ⟨g, 1, none⟩ = some (.int .i64 (a : Nat)) := c1
                  have cxm : (w.drewN m21).cell? ⟨b, off + (a + k), none⟩ = some (.int .u8 (x : Int)) := hcell
                  clear e10 e10' eL eL' e127 e9
                  go_wp2
                  go_loopw [6, 7] (fun v i wr => ∃ (j m : Nat), v = .int .u64 (seg r.rest j k : Nat) ∧ i = .int .i64 ((j : Int) - 1) ∧ j ≤ k + 1 ∧ wr = w.drewN m) (fun _ i _ => (intOf i + 1).toNat)
                  case atStart => exact ⟨k + 1, _, by rw [seg_end]; rfl, by go_num, by omega, rfl⟩
                  case round =>
                    obtain ⟨j, mj, rfl, rfl, hj, rfl⟩ := hrel
                    clear c0m c1m cxm hcell hi
                    by_cases hj0 : j = 0
                    · subst hj0
                      obtain ⟨V, hV⟩ : ∃ V, V = seg r.rest 0 k := ⟨_, rfl⟩
                      rw [← hV] at hr64 ⊢
                      have Hu2 := Hu.out
                      rw [← hV] at Hu2
                      clear Hu hV
                      by_cases hmost : most < V
                      · have em : decide (most < V) = true := by simpa using hmost
                        rw [if_pos hmost] at Hu2
                        have Hu := Lib.hid Hu2; clear Hu2 hmost
                        have c0m : (w.drewN mj).cell? ⟨g, 0, none⟩ = some (.slice (some ⟨b, off, none⟩) l.length c) := c0
                        have c1m : (w.drewN mj).cell? ⟨g, 1, none⟩ = some (.int .i64 (a : Nat)) := c1
                        go_wp2_with fail
                        refine (giveUpR_any g r 4 (w.drewN _) h).mono ?_
                        rintro e w9 ⟨rfl, hp, hg⟩
                        go_wp2
                        go_ret
                        rw [Hu.out]
                        exact ⟨rfl, hp, ⟨hg.os, hg.tape, hg.output, hg.size, hg.block⟩⟩
                      · have em : decide (most < V) = false := by simpa using hmost
                        rw [if_neg hmost] at Hu2
                        have Hu := Lib.hid Hu2; clear Hu2 hmost
                        have c0m : (w.drewN mj).cell? ⟨g, 0, none⟩ = some (.slice (some ⟨b, off, none⟩) l.length c) := c0
                        have c1m : (w.drewN mj).cell? ⟨g, 1, none⟩ = some (.int .i64 (a : Nat)) := c1
                        have f1m : (w.drewN mj).frozen? ⟨g, 1, none⟩ = false := f1
                        go_wp2
                        go_ret
                        rw [Hu.out]
                        refine ⟨rfl, ?_, ?_⟩
                        · have hrow := row_set (w := w.drewN mj) Hh.out 1 (.int .i64 ((a : Int) + (k : Int) + 1))
                          refine ⟨some ⟨b, off, none⟩, c, l, a + k + 1, by omega, h2, h3, h4, ?_, HR.out.setCell (Nat.le_refl _) _, ?_⟩
                          · have e3 : ((a + k + 1 : Nat) : Int) = (a : Int) + (k : Int) + 1 := by omega
                            rw [e3]
                            exact hrow
                          · have hr := Hr.out
                            rw [if_pos HB.out] at hr
                            show r.rest.drop (k + 1) = if r.bad = 0 then l.drop (a + k + 1) else []
                            rw [if_pos HB.out, hr, List.drop_drop]; rfl
                        · have hg := grown_set (w.drewN mj) g 1 (.int .i64 ((a + k + 1 : Nat) : Int))
                          exact ⟨hg.os, hg.tape, hg.output, hg.size, hg.block⟩
                    · obtain ⟨jj, rfl⟩ : ∃ jj, j = jj + 1 := ⟨j - 1, by omega⟩
                      have hjlt : jj < r.rest.length := by omega
                      obtain ⟨_, hal2, b2, off2, he2, hcell2⟩ := RR.at_ HR.out Hr.out hjlt
                      injection he2 with he2
                      injection he2 with he2 he3 _
                      subst he2
                      subst he3
                      have hseg := seg_step r.rest jj k (by omega) hlt
                      have hsl := Hsl.out jj (by omega)
                      have hx28 : (r.rest[jj]).toNat < 256 := (r.rest[jj]).toNat_lt
                      generalize (r.rest[jj]).toNat = x2 at *
                      generalize hS : seg r.rest (jj + 1) k = S at *
                      have hb1 : 128 * S < 18446744073709551616 := by omega
                      have hb2 : 128 * S + x2 % 128 < 18446744073709551616 := by omega
                      have HS := Lib.hid hseg; clear hseg hS hsl hj0
                      have ej : decide ((0 : Int) ≤ ((jj + 1 : Nat) : Int) - 1) = true := decide_eq_true (by omega)
                      have hi2 : (a : Int) + (jj : Int) < (l.length : Int) := by omega
                      have c0m : (w.drewN mj).cell? ⟨g, 0, none⟩ = some (.slice (some ⟨b, off, none⟩) l.length c) := c0
                      have c1m : (w.drewN mj).cell? ⟨g, 1, none⟩ = some (.int .i64 (a : Nat)) := c1
                      have cxm : (w.drewN mj).cell? ⟨b, off + (a + jj), none⟩ = some (.int .u8 (x2 : Int)) := hcell2
                      go_wp2_with fail
                      go_quiet (fail)
                      rw [World.drewN_drewN]
                      go_wp2
                      go_roundw
                      case rel => exact ⟨jj, _, by rw [HS.out]; go_num, by go_num, by omega, rfl⟩
                      case measure => simp [intOf] <;> omega
                · have e9 : ((k : Int) == 9) = false := by simp; omega
                  clear hd1 hd2 hnine
                  have c0m : (w.drewN m).cell? ⟨g, 0, none⟩ = some (.slice (some ⟨b, off, none⟩) l.length c) := c0
                  have c1m : (w.drewN m).cell? ⟨g, 1, none⟩ = some (.int .i64 (a : Nat)) := c1
                  have cxm : (w.drewN m).cell? ⟨b, off + (a + k), none⟩ = some (.int .u8 (x : Int)) := hcell
                  go_wp2_with fail
                  go_quiet ((go_at_call 36; exact left_q h))
                  rw [World.drewN_drewN]
                  generalize m + nq = m22
                  clear c0m c1m cxm
                  have c0m : (w.drewN m22).cell? ⟨g, 0, none⟩ = some (.slice (some ⟨b, off, none⟩) l.length c) := c0
                  have c1m : (w.drewN m22).cell? ⟨g, 1, none⟩ = some (.int .i64 (a : Nat)) := c1
                  have cxm : (w.drewN m22).cell? ⟨b, off + (a + k), none⟩ = some (.int .u8 (x : Int)) := hcell
                  go_wp2_with fail
                  go_quiet (fail)
                  rw [World.drewN_drewN]
                  generalize m22 + nq = m23
                  clear c0m c1m cxm
                  have c0m : (w.drewN m23).cell? ⟨g, 0, none⟩ = some (.slice (some ⟨b, off, none⟩) l.length c) := c0
                  have c1m : (w.drewN m23).cell? ⟨g, 1, none⟩ = some (.int .i64 (a : Nat)) := c1
                  have cxm : (w.drewN m23).cell? ⟨b, off + (a + k), none⟩ = some (.int .u8 (x : Int)) := hcell
                  go_wp2_with fail
                  refine (leftR_any g r (w.drewN _) h).mono ?_
                  rintro e w1 ⟨rfl, mx, rfl⟩
                  rw [World.drewN_drewN]
                  generalize m23 + mx = my
                  clear c0m c1m cxm
                  have c0m : (w.drewN my).cell? ⟨g, 0, none⟩ = some (.slice (some ⟨b, off, none⟩) l.length c) := c0
                  have c1m : (w.drewN my).cell? ⟨g, 1, none⟩ = some (.int .i64 (a : Nat)) := c1
                  have cxm : (w.drewN my).cell? ⟨b, off + (a + k), none⟩ = some (.int .u8 (x : Int)) := hcell
                  go_wp2_with fail
                  go_quiet (fail)
                  rw [World.drewN_drewN]
                  generalize my + nq = m24
                  clear c0m c1m cxm
                  have c0m : (w.drewN m24).cell? ⟨g, 0, none⟩ = some (.slice (some ⟨b, off, none⟩) l.length c) := c0
                  have c1m : (w.drewN m24).cell? ⟨g, 1, none⟩ = some (.int .i64 (a : Nat)) := c1
                  have cxm : (w.drewN m24).cell? ⟨b, off + (a + k), none⟩ = some (.int .u8 (x : Int)) := hcell
                  clear e10 e10' eL eL' e127 e9
                  go_wp2
                  go_loopw [6, 7] (fun v i wr => ∃ (j m : Nat), v = .int .u64 (seg r.rest j k : Nat) ∧ i = .int .i64 ((j : Int) - 1) ∧ j ≤ k + 1 ∧ wr = w.drewN m) (fun _ i _ => (intOf i + 1).toNat)
                  case atStart => exact ⟨k + 1, _, by rw [seg_end]; rfl, by go_num, by omega, rfl⟩
                  case round =>
                    obtain ⟨j, mj, rfl, rfl, hj, rfl⟩ := hrel
                    clear c0m c1m cxm hcell hi
                    by_cases hj0 : j = 0
                    · subst hj0
                      obtain ⟨V, hV⟩ : ∃ V, V = seg r.rest 0 k := ⟨_, rfl⟩
                      rw [← hV] at hr64 ⊢
                      have Hu2 := Hu.out
                      rw [← hV] at Hu2
                      clear Hu hV
                      by_cases hmost : most < V
                      · have em : decide (most < V) = true := by simpa using hmost
                        rw [if_pos hmost] at Hu2
                        have Hu := Lib.hid Hu2; clear Hu2 hmost
                        have c0m : (w.drewN mj).cell? ⟨g, 0, none⟩ = some (.slice (some ⟨b, off, none⟩) l.length c) := c0
                        have c1m : (w.drewN mj).cell? ⟨g, 1, none⟩ = some (.int .i64 (a : Nat)) := c1
                        go_wp2_with fail
                        refine (giveUpR_any g r 4 (w.drewN _) h).mono ?_
                        rintro e w9 ⟨rfl, hp, hg⟩
                        go_wp2
                        go_ret
                        rw [Hu.out]
                        exact ⟨rfl, hp, ⟨hg.os, hg.tape, hg.output, hg.size, hg.block⟩⟩
                      · have em : decide (most < V) = false := by simpa using hmost
                        rw [if_neg hmost] at Hu2
                        have Hu := Lib.hid Hu2; clear Hu2 hmost
                        have c0m : (w.drewN mj).cell? ⟨g, 0, none⟩ = some (.slice (some ⟨b, off, none⟩) l.length c) := c0
                        have c1m : (w.drewN mj).cell? ⟨g, 1, none⟩ = some (.int .i64 (a : Nat)) := c1
                        have f1m : (w.drewN mj).frozen? ⟨g, 1, none⟩ = false := f1
                        go_wp2
                        go_ret
                        rw [Hu.out]
                        refine ⟨rfl, ?_, ?_⟩
                        · have hrow := row_set (w := w.drewN mj) Hh.out 1 (.int .i64 ((a : Int) + (k : Int) + 1))
                          refine ⟨some ⟨b, off, none⟩, c, l, a + k + 1, by omega, h2, h3, h4, ?_, HR.out.setCell (Nat.le_refl _) _, ?_⟩
                          · have e3 : ((a + k + 1 : Nat) : Int) = (a : Int) + (k : Int) + 1 := by omega
                            rw [e3]
                            exact hrow
                          · have hr := Hr.out
                            rw [if_pos HB.out] at hr
                            show r.rest.drop (k + 1) = if r.bad = 0 then l.drop (a + k + 1) else []
                            rw [if_pos HB.out, hr, List.drop_drop]; rfl
                        · have hg := grown_set (w.drewN mj) g 1 (.int .i64 ((a + k + 1 : Nat) : Int))
                          exact ⟨hg.os, hg.tape, hg.output, hg.size, hg.block⟩
                    · obtain ⟨jj, rfl⟩ : ∃ jj, j = jj + 1 := ⟨j - 1, by omega⟩
                      have hjlt : jj < r.rest.length := by omega
                      obtain ⟨_, hal2, b2, off2, he2, hcell2⟩ := RR.at_ HR.out Hr.out hjlt
                      injection he2 with he2
                      injection he2 with he2 he3 _
                      subst he2
                      subst he3
                      have hseg := seg_step r.rest jj k (by omega) hlt
                      have hsl := Hsl.out jj (by omega)
                      have hx28 : (r.rest[jj]).toNat < 256 := (r.rest[jj]).toNat_lt
                      generalize (r.rest[jj]).toNat = x2 at *
                      generalize hS : seg r.rest (jj + 1) k = S at *
                      have hb1 : 128 * S < 18446744073709551616 := by omega
                      have hb2 : 128 * S + x2 % 128 < 18446744073709551616 := by omega
                      have HS := Lib.hid hseg; clear hseg hS hsl hj0
                      have ej : decide ((0 : Int) ≤ ((jj + 1 : Nat) : Int) - 1) = true := decide_eq_true (by omega)
                      have hi2 : (a : Int) + (jj : Int) < (l.length : Int) := by omega
                      have c0m : (w.drewN mj).cell? ⟨g, 0, none⟩ = some (.slice (some ⟨b, off, none⟩) l.length c) := c0
                      have c1m : (w.drewN mj).cell? ⟨g, 1, none⟩ = some (.int .i64 (a : Nat)) := c1
                      have cxm : (w.drewN mj).cell? ⟨b, off + (a + jj), none⟩ = some (.int .u8 (x2 : Int)) := hcell2
                      go_wp2_with fail
                      go_quiet (fail)
                      rw [World.drewN_drewN]
                      go_wp2
                      go_roundw
                      case rel => exact ⟨jj, _, by rw [HS.out]; go_num, by go_num, by omega, rfl⟩
                      case measure => simp [intOf] <;> omega
end Go.Proofs.Ytcblmcpmdpnlbaa
