import Derived.Deep.DeepCutAuto
import Derived.Test.YtaaijgalminafaaSo3
import Derived.Test.YtaaijgalminafaaSo6
import Derived.Test.YtaaijgalminafaaSo7
import Derived.Test.YtaaijgalminafaaSo8
import Derived.Test.YtaaijgalminafaaSo9
/-
  slices.Sort at uint32: pdqsort, and Sort itself: the row is sorted.
-/
namespace Go.Proofs.Ytaaijgalminafaa
open Go.RowKit Go.Sort

/-- What a call leaves: the part is sorted. -/
def Ps (w : World) (blk cap a b : Nat) (d : Array Int) (e : Ending) (w' : World) : Prop :=
  e = .returned (.tuple #[]) ∧ ∃ d', PermIn a b d d' ∧ SortedIn ltInt a b d' ∧ St w blk cap d' w'
/-- What stands between two rounds: what is left to be sorted, and that it is enough. -/
structure Rn (w : World) (blk cap n a b : Nat) (d : Array Int) (a1 b1 : Nat) (dk : Array Int) (wr : World) : Prop where
  r : a ≤ a1 ∧ a1 ≤ b1 ∧ b1 ≤ b
  z : dk.size = n
  s : St w blk cap dk wr
  l : Sort.Below ltInt a1 b1 dk
  g : ∀ R, PermIn a1 b1 dk R → SortedIn ltInt a1 b1 R → PermIn a b d R ∧ SortedIn ltInt a b R
theorem Rn.perm {w : World} {blk cap n a b : Nat} {d : Array Int} {a1 b1 : Nat} {dk dk' : Array Int} {wr wr' : World} (h : Rn w blk cap n a b d a1 b1 dk wr) (hb : b ≤ n) (hp : PermIn a1 b1 dk dk') (hs : St wr blk cap dk' wr') : Rn w blk cap n a b d a1 b1 dk' wr' := by
  have hb1 : b1 ≤ dk.size := by have := h.z; have := h.r; omega
  exact ⟨h.r, hp.1.trans h.z, h.s.trans hs, h.l.perm hb1 hp, fun R hR hS => h.g R (permIn_trans _ _ _ a1 b1 hp hR) hS⟩
theorem Rn.below {w : World} {blk cap n a b : Nat} {d : Array Int} {a1 b1 : Nat} {dk : Array Int} {wr wr' : World} (h : Rn w blk cap n a b d a1 b1 dk wr) (hb : RowKit.Below wr.heap.size wr wr') : Rn w blk cap n a b d a1 b1 dk wr' :=
  ⟨h.r, h.z, h.s.below hb, h.l, h.g⟩

set_option maxHeartbeats 60000000 in
set_option maxRecDepth 100000 in
theorem pdq_any : ∀ (m blk cap n : Nat) (d : Array Int) (a b lim : Nat) (w : World), b - a < m → Ls w blk cap d → d.size = n → a ≤ b → b ≤ n → n ≤ 1000000 → lim ≤ 1000 → Sort.Below ltInt a b d →
    Calls Try.prog 43 #[.slice (some ⟨blk, 0, none⟩) n cap, .int .i64 (a : Int), .int .i64 (b : Int), .int .i64 (lim : Int)] w (Ps w blk cap a b d) := by
  intro m
  induction m with
  | zero => intro _ _ _ _ _ _ _ _ h; omega
  | succ m ih =>
    intro blk cap n d a b lim w hm hL hn hab hb hsz hlim hB
    have HIH := Lib.hid ih; clear ih
    have HR := Lib.hid (show Rn w blk cap n a b d a b d w from ⟨by omega, hn, hL.st, hB, fun R h1 h2 => ⟨h1, h2⟩⟩)
    clear hL hn hB
    go_enter Try.func43, Try.ntmps43
    go_wp2
    go_loopw [1, 2, 3, 8, 9] (fun s1 s2 s3 s8 s9 wr => ∃ (a1 b1 li : Nat) (wb wp : Bool) (dk : Array Int), s1 = .int .i64 (a1 : Int) ∧ s2 = .int .i64 (b1 : Int) ∧ s3 = .int .i64 (li : Int) ∧ s8 = .bool wb ∧ s9 = .bool wp ∧ li ≤ 1000 ∧ Rn w blk cap n a b d a1 b1 dk wr) (fun s1 s2 _ _ _ _ => (intOf s2 - intOf s1).toNat)
    case atStart => exact ⟨a, b, lim, true, true, d, rfl, rfl, rfl, rfl, rfl, hlim, HR.out⟩
    case round =>
      obtain ⟨a1, b1, li, wb, wp, dk, rfl, rfl, rfl, rfl, rfl, hli, hR⟩ := hrel
      have hr := hR.r
      have HR1 := Lib.hid hR; clear hR HR
      obtain ⟨l, hl⟩ : ∃ l, l = b1 - a1 := ⟨_, rfl⟩
      have el : (b1 : Int) - (a1 : Int) = (l : Int) := by omega
      by_cases h12 : l ≤ 12
      · have hd1 : decide (l ≤ 12) = true := decide_eq_true h12
        have hd2 : decide ((l : Int) ≤ 12) = true := decide_eq_true (by omega)
        have HL := Lib.hid hl; clear hl
        go_wp2_with fail
        refine (insertionSort_any blk cap n dk a1 b1 wr HR1.out.s.l HR1.out.z (by omega) hsz (by omega)).mono ?_
        rintro e w2 ⟨rfl, hS2⟩
        go_wp2
        refine bodyPost_ret (results_none rfl _ _ _) rfl ?_
        obtain ⟨p1, p2⟩ := insertionSort_holds swo_ltInt dk a1 b1 (by omega) (by have := HR1.out.z; omega)
        obtain ⟨q1, q2⟩ := HR1.out.g _ p1 p2
        exact ⟨rfl, _, q1, q2, HR1.out.s.trans hS2⟩
      · have hd1 : decide (l ≤ 12) = false := decide_eq_false h12
        have hd2 : decide ((l : Int) ≤ 12) = false := decide_eq_false (by omega)
        have hl12 : a1 + 12 < b1 := by omega
        have HL := Lib.hid hl; clear hl
        by_cases h0 : li = 0
        · have h00 : ((li : Int) == 0) = true := beq_iff_eq.2 (by omega)
          have H0 := Lib.hid h0; clear h0
          go_wp2_with fail
          refine (heapSort_any blk cap n dk a1 b1 wr HR1.out.s.l HR1.out.z (by omega) (by omega) hsz).mono ?_
          rintro e w2 ⟨rfl, hS2⟩
          go_wp2
          refine bodyPost_ret (results_none rfl _ _ _) rfl ?_
          obtain ⟨p1, p2⟩ := heapSort_holds swo_ltInt dk a1 b1 (by omega) (by have := HR1.out.z; omega)
          obtain ⟨q1, q2⟩ := HR1.out.g _ p1 p2
          exact ⟨rfl, _, q1, q2, HR1.out.s.trans hS2⟩
        · have h00 : ((li : Int) == 0) = false := beq_eq_false_iff_ne.2 (by omega)
          obtain ⟨wo, rfl⟩ : ∃ wo : World, wo = wr := ⟨_, rfl⟩
          go_upto_if 35 with (fail)
          go_cut [3] (fun s3 wx => ∃ (li2 : Nat) (d2 : Array Int), s3 = .int .i64 (li2 : Int) ∧ li2 ≤ 1000 ∧ Rn w blk cap n a b d a1 b1 d2 wx)
          case first =>
            cases wb
            · go_wp2_with fail
              refine (breakPatterns_any blk cap n dk a1 b1 wo HR1.out.s.l HR1.out.z hl12 (by omega) hsz).mono ?_
              rintro e w2 ⟨rfl, d2, hp2, hS2⟩
              have e3 : (li : Int) - 1 = ((li - 1 : Nat) : Int) := by omega
              go_wp2
              go_meet
              exact ⟨li - 1, d2, rfl, by omega, HR1.out.perm hb hp2 hS2⟩
            · go_wp2
              go_meet
              exact ⟨li, dk, rfl, hli, HR1.out⟩
          case rest =>
            obtain ⟨li2, d2, rfl, hli2, hR2⟩ := hcut
            have HR2 := Lib.hid hR2; clear hR2 HR1
            go_wp2_with fail
            refine (choosePivot_any blk cap n d2 a1 b1 wc HR2.out.s.l HR2.out.z hl12 (by omega) hsz).mono ?_
            rintro e w3 ⟨pv, h, rfl, hp1, hp2, hh, hb3⟩
            have HR3 := Lib.hid (HR2.out.below hb3)
            clear hb3 HR2
            go_upto_if 50 with (fail)
            go_cut [11, 12] (fun s11 s12 wx => ∃ (p2 h2 : Nat) (d3 : Array Int), s11 = .int .i64 (p2 : Int) ∧ s12 = .int .i64 (h2 : Int) ∧ a1 ≤ p2 ∧ p2 < b1 ∧ Rn w blk cap n a b d a1 b1 d3 wx)
            case first =>
              by_cases hh2 : h = 2
              · have hq : ((h : Int) == 2) = true := beq_iff_eq.2 (by omega)
                have HH := Lib.hid hh2; clear hh2
                go_wp2_with fail
                refine (reverseRange_any blk cap n d2 a1 b1 w3 HR3.out.s.l HR3.out.z (by omega) (by omega) hsz).mono ?_
                rintro e w4 ⟨rfl, hS4⟩
                have e3 : (b1 : Int) - 1 - ((pv : Int) - (a1 : Int)) = ((b1 - 1 - (pv - a1) : Nat) : Int) := by omega
                go_wp2
                go_meet
                exact ⟨b1 - 1 - (pv - a1), 1, reverseRange d2 a1 b1, rfl, rfl, by omega, by omega, HR3.out.perm hb (reverseRange_holds d2 a1 b1 (by omega) (by have := HR3.out.z; omega)) hS4⟩
              · have hq : ((h : Int) == 2) = false := beq_eq_false_iff_ne.2 (by omega)
                go_wp2
                go_meet
                exact ⟨pv, h, d2, rfl, rfl, hp1, hp2, HR3.out⟩
            case rest =>
              obtain ⟨p2, h2, d3, rfl, rfl, hp3, hp4, hR4⟩ := hcut
              have HR4 := Lib.hid hR4; clear hR4 HR3
              cases wb
              · go_wp2_with fail
                have HR5 := HR4
                obtain ⟨d4, rfl⟩ : ∃ d4, d4 = d3 := ⟨_, rfl⟩
                obtain ⟨wc3, rfl⟩ : ∃ wc3 : World, wc3 = wc := ⟨_, rfl⟩
                clear HR4
                have hz5 := HR5.out.z
                by_cases ha0 : 0 < a1
                · have hg1 : decide (0 < a1) = true := decide_eq_true ha0
                  have hg2 : decide ((0 : Int) < (a1 : Int)) = true := decide_eq_true (by omega)
                  obtain ⟨z1, hz1⟩ : ∃ z, a1 = z + 1 := ⟨a1 - 1, by omega⟩
                  have c1 := HR5.out.s.cell (i := z1) (by omega)
                  have c2 := HR5.out.s.cell (i := p2) (by omega)
                  have i1 : (z1 : Int) < (n : Int) := by omega
                  have i2 : (p2 : Int) < (n : Int) := by omega
                  have V1 : Hid (IntKind.i64.wrap ((a1 : Int) - 1) = (z1 : Int)) := by show _ = _; rw [IntWalk.i64_in _ (by omega)]; omega
                  have V2 : Hid (wrap64 ((a1 : Int) - 1) = (z1 : Int)) := by show _ = _; rw [IntWalk.wrap64_in _ (by omega)]; omega
                  by_cases hl : ltInt d4[z1]! d4[p2]! = false
                  · have hnl : Hid (ltInt d4[a1 - 1]! d4[p2]! = false) := by show _ = _; rw [hz1]; exact hl
                    have HZ := Lib.hid hz1; clear hz1 hz5
                    generalize hx1 : d4[z1]! = x1 at hl c1
                    generalize hx2 : d4[p2]! = x2 at hl c2
                    clear hx1 hx2
                    have v1 := V1.out; have v2 := V2.out
                    go_wp2_with fail
                    go_quiet ((go_at_call 59; exact Calls.quiet_of_same (less_is hl _)))
                    clear v1 v2 c1 c2 hl
                    generalize hw17 : wc3.drewN _ = w17
                    have HR6 := Lib.hid (show Rn w blk cap n a b d a1 b1 d4 w17 by rw [← hw17]; exact HR5.out.below ⟨rfl, rfl, rfl, Nat.le_refl _, fun _ _ => rfl⟩)
                    clear hw17
                    go_wp2_with fail
                    refine (partitionEqual_any blk cap n d4 a1 b1 p2 w17 HR6.out.s.l HR6.out.z hp3 hp4 (by omega) hsz).mono ?_
                    obtain ⟨mid, d5, hx⟩ : ∃ mid d5, partitionEqual ltInt d4 a1 b1 p2 = (mid, d5) := ⟨_, _, rfl⟩
                    rw [hx]
                    obtain ⟨g1, g2, g3, g4, g5⟩ := round_eq swo_ltInt (partitionEqual_holds _) ha0 hp3 hp4 (by have := HR6.out.z; omega) HR6.out.l hnl.out hx
                    rintro e w5 ⟨rfl, hS5⟩
                    have hRn : Rn w blk cap n a b d mid b1 d5 w5 := ⟨by omega, g3.trans HR6.out.z, HR6.out.s.trans hS5, g4, fun R r1 r2 => by
                      obtain ⟨x1, x2⟩ := g5 R r1 r2
                      exact HR6.out.g R x1 x2⟩
                    have HRn := Lib.hid hRn
                    clear hx hS5 g3 g4 g5 hRn
                    go_wp2
                    exact ⟨⟨mid, b1, li2, _, _, d5, rfl, rfl, rfl, rfl, rfl, hli2, HRn.out⟩, by simp [intOf] <;> omega⟩
                  · rw [Bool.not_eq_false] at hl
                    have HZ := Lib.hid hz1; clear hz1 hz5
                    generalize hx1 : d4[z1]! = x1 at hl c1
                    generalize hx2 : d4[p2]! = x2 at hl c2
                    clear hx1 hx2
                    have v1 := V1.out; have v2 := V2.out
                    go_wp2_with fail
                    go_quiet ((go_at_call 59; exact Calls.quiet_of_same (less_is hl _)))
                    clear v1 v2 c1 c2 hl hg1 hg2
                    generalize hw17 : wc3.drewN _ = w17
                    have HR6 := Lib.hid (show Rn w blk cap n a b d a1 b1 d4 w17 by rw [← hw17]; exact HR5.out.below ⟨rfl, rfl, rfl, Nat.le_refl _, fun _ _ => rfl⟩)
                    clear hw17
                    go_wp2_with fail
                    refine (partition_any blk cap n d4 a1 b1 p2 w17 HR6.out.s.l HR6.out.z hp3 hp4 (by omega) hsz).mono ?_
                    obtain ⟨mid, ap, d5, hx⟩ : ∃ mid ap d5, Sort.partition ltInt d4 a1 b1 p2 = (mid, ap, d5) := ⟨_, _, _, rfl⟩
                    rw [hx]
                    obtain ⟨g1, g2, g3, g4, g5, g6, g7⟩ := round_part swo_ltInt (partition_holds _) hp3 hp4 (by have := HR6.out.z; omega) HR6.out.l hx
                    rintro e w5 ⟨rfl, hS5⟩
                    have HS5 := Lib.hid hS5
                    have G3 := Lib.hid (g3.trans HR6.out.z); have G4 := Lib.hid g4; have G5 := Lib.hid g5; have G6 := Lib.hid g6; have G7 := Lib.hid g7
                    clear hx hS5 g3 g4 g5 g6 g7
                    obtain ⟨lf, hlf⟩ : ∃ x, x = mid - a1 := ⟨_, rfl⟩
                    obtain ⟨rt, hrt⟩ : ∃ x, x = b1 - mid := ⟨_, rfl⟩
                    have elf : (mid : Int) - (a1 : Int) = (lf : Int) := by omega
                    have ert : (b1 : Int) - (mid : Int) = (rt : Int) := by omega
                    have hsum : lf + rt = b1 - a1 := by omega
                    have HLF := Lib.hid hlf; have HRT := Lib.hid hrt
                    clear hlf hrt
                    simp only at HS5
                    by_cases hlr : lf < rt
                    · have hg1 : decide (lf < rt) = true := decide_eq_true hlr
                      have hg2 : decide ((lf : Int) < (rt : Int)) = true := decide_eq_true (by omega)
                      have hmid : mid + 1 ≤ b1 ∧ mid - a1 < m := by have := HRT.out; omega
                      go_wp2_with fail
                      refine (HIH.out blk cap n d5 a1 mid li2 w5 hmid.2 HS5.out.l G3.out g1 (by omega) hsz hli2 G4.out).mono ?_
                      rintro e w6 ⟨rfl, d6, q1, q2, q3⟩
                      obtain ⟨k1, k2⟩ := G6.out d6 q1 q2
                      have hRn : Rn w blk cap n a b d (mid + 1) b1 d6 w6 := ⟨by omega, q1.1.trans G3.out, (HR6.out.s.trans HS5.out).trans q3, k1, fun R r1 r2 => by
                        obtain ⟨x1, x2⟩ := k2 R r1 r2
                        exact HR6.out.g R x1 x2⟩
                      have HRn := Lib.hid hRn
                      clear q1 q2 q3 k1 k2 hRn
                      go_wp2
                      exact ⟨⟨mid + 1, b1, li2, _, ap, d6, by go_num, rfl, rfl, rfl, rfl, hli2, HRn.out⟩, by simp [intOf] <;> omega⟩
                    · have hg1 : decide (lf < rt) = false := decide_eq_false hlr
                      have hg2 : decide ((lf : Int) < (rt : Int)) = false := decide_eq_false (by omega)
                      have hmid : b1 - (mid + 1) < m := by omega
                      obtain ⟨m1, hm1⟩ : ∃ x, x = mid + 1 := ⟨_, rfl⟩
                      have e4 : (mid : Int) + 1 = (m1 : Int) := by omega
                      have hm2 : m1 ≤ b1 := by have := HRT.out; omega
                      rw [← hm1] at hmid
                      have HM := Lib.hid hm1; clear hm1
                      go_wp2_with fail
                      refine (HIH.out blk cap n d5 m1 b1 li2 w5 hmid HS5.out.l G3.out hm2 (by omega) hsz hli2 (by rw [HM.out]; exact G5.out)).mono ?_
                      rintro e w6 ⟨rfl, d6, q1, q2, q3⟩
                      rw [HM.out] at q1 q2
                      obtain ⟨k1, k2⟩ := G7.out d6 q1 q2
                      have hRn : Rn w blk cap n a b d a1 mid d6 w6 := ⟨by omega, q1.1.trans G3.out, (HR6.out.s.trans HS5.out).trans q3, k1, fun R r1 r2 => by
                        obtain ⟨x1, x2⟩ := k2 R r1 r2
                        exact HR6.out.g R x1 x2⟩
                      have HRn := Lib.hid hRn
                      clear q1 q2 q3 k1 k2 hRn e4
                      go_wp2
                      exact ⟨⟨a1, mid, li2, _, ap, d6, rfl, rfl, rfl, rfl, rfl, hli2, HRn.out⟩, by simp [intOf] <;> omega⟩
                · have hg1 : decide (0 < a1) = false := decide_eq_false ha0
                  have hg2 : decide ((0 : Int) < (a1 : Int)) = false := decide_eq_false (by omega)
                  clear hz5
                  go_wp2_with fail
                  go_quiet (fail)
                  clear hg1 hg2
                  generalize hw17 : wc3.drewN _ = w17
                  have HR6 := Lib.hid (show Rn w blk cap n a b d a1 b1 d4 w17 by rw [← hw17]; exact HR5.out.below ⟨rfl, rfl, rfl, Nat.le_refl _, fun _ _ => rfl⟩)
                  clear hw17
                  go_wp2_with fail
                  refine (partition_any blk cap n d4 a1 b1 p2 w17 HR6.out.s.l HR6.out.z hp3 hp4 (by omega) hsz).mono ?_
                  obtain ⟨mid, ap, d5, hx⟩ : ∃ mid ap d5, Sort.partition ltInt d4 a1 b1 p2 = (mid, ap, d5) := ⟨_, _, _, rfl⟩
                  rw [hx]
                  obtain ⟨g1, g2, g3, g4, g5, g6, g7⟩ := round_part swo_ltInt (partition_holds _) hp3 hp4 (by have := HR6.out.z; omega) HR6.out.l hx
                  rintro e w5 ⟨rfl, hS5⟩
                  have HS5 := Lib.hid hS5
                  have G3 := Lib.hid (g3.trans HR6.out.z); have G4 := Lib.hid g4; have G5 := Lib.hid g5; have G6 := Lib.hid g6; have G7 := Lib.hid g7
                  clear hx hS5 g3 g4 g5 g6 g7
                  obtain ⟨lf, hlf⟩ : ∃ x, x = mid - a1 := ⟨_, rfl⟩
                  obtain ⟨rt, hrt⟩ : ∃ x, x = b1 - mid := ⟨_, rfl⟩
                  have elf : (mid : Int) - (a1 : Int) = (lf : Int) := by omega
                  have ert : (b1 : Int) - (mid : Int) = (rt : Int) := by omega
                  have hsum : lf + rt = b1 - a1 := by omega
                  have HLF := Lib.hid hlf; have HRT := Lib.hid hrt
                  clear hlf hrt
                  simp only at HS5
                  by_cases hlr : lf < rt
                  · have hg1 : decide (lf < rt) = true := decide_eq_true hlr
                    have hg2 : decide ((lf : Int) < (rt : Int)) = true := decide_eq_true (by omega)
                    have hmid : mid + 1 ≤ b1 ∧ mid - a1 < m := by have := HRT.out; omega
                    go_wp2_with fail
                    refine (HIH.out blk cap n d5 a1 mid li2 w5 hmid.2 HS5.out.l G3.out g1 (by omega) hsz hli2 G4.out).mono ?_
                    rintro e w6 ⟨rfl, d6, q1, q2, q3⟩
                    obtain ⟨k1, k2⟩ := G6.out d6 q1 q2
                    have hRn : Rn w blk cap n a b d (mid + 1) b1 d6 w6 := ⟨by omega, q1.1.trans G3.out, (HR6.out.s.trans HS5.out).trans q3, k1, fun R r1 r2 => by
                      obtain ⟨x1, x2⟩ := k2 R r1 r2
                      exact HR6.out.g R x1 x2⟩
                    have HRn := Lib.hid hRn
                    clear q1 q2 q3 k1 k2 hRn
                    go_wp2
                    exact ⟨⟨mid + 1, b1, li2, _, ap, d6, by go_num, rfl, rfl, rfl, rfl, hli2, HRn.out⟩, by simp [intOf] <;> omega⟩
                  · have hg1 : decide (lf < rt) = false := decide_eq_false hlr
                    have hg2 : decide ((lf : Int) < (rt : Int)) = false := decide_eq_false (by omega)
                    have hmid : b1 - (mid + 1) < m := by omega
                    obtain ⟨m1, hm1⟩ : ∃ x, x = mid + 1 := ⟨_, rfl⟩
                    have e4 : (mid : Int) + 1 = (m1 : Int) := by omega
                    have hm2 : m1 ≤ b1 := by have := HRT.out; omega
                    rw [← hm1] at hmid
                    have HM := Lib.hid hm1; clear hm1
                    go_wp2_with fail
                    refine (HIH.out blk cap n d5 m1 b1 li2 w5 hmid HS5.out.l G3.out hm2 (by omega) hsz hli2 (by rw [HM.out]; exact G5.out)).mono ?_
                    rintro e w6 ⟨rfl, d6, q1, q2, q3⟩
                    rw [HM.out] at q1 q2
                    obtain ⟨k1, k2⟩ := G7.out d6 q1 q2
                    have hRn : Rn w blk cap n a b d a1 mid d6 w6 := ⟨by omega, q1.1.trans G3.out, (HR6.out.s.trans HS5.out).trans q3, k1, fun R r1 r2 => by
                      obtain ⟨x1, x2⟩ := k2 R r1 r2
                      exact HR6.out.g R x1 x2⟩
                    have HRn := Lib.hid hRn
                    clear q1 q2 q3 k1 k2 hRn e4
                    go_wp2
                    exact ⟨⟨a1, mid, li2, _, ap, d6, rfl, rfl, rfl, rfl, rfl, hli2, HRn.out⟩, by simp [intOf] <;> omega⟩
              · cases wp
                · go_wp2_with fail
                  have HR5 := HR4
                  obtain ⟨d4, rfl⟩ : ∃ d4, d4 = d3 := ⟨_, rfl⟩
                  obtain ⟨wc3, rfl⟩ : ∃ wc3 : World, wc3 = wc := ⟨_, rfl⟩
                  clear HR4
                  have hz5 := HR5.out.z
                  by_cases ha0 : 0 < a1
                  · have hg1 : decide (0 < a1) = true := decide_eq_true ha0
                    have hg2 : decide ((0 : Int) < (a1 : Int)) = true := decide_eq_true (by omega)
                    obtain ⟨z1, hz1⟩ : ∃ z, a1 = z + 1 := ⟨a1 - 1, by omega⟩
                    have c1 := HR5.out.s.cell (i := z1) (by omega)
                    have c2 := HR5.out.s.cell (i := p2) (by omega)
                    have i1 : (z1 : Int) < (n : Int) := by omega
                    have i2 : (p2 : Int) < (n : Int) := by omega
                    have V1 : Hid (IntKind.i64.wrap ((a1 : Int) - 1) = (z1 : Int)) := by show _ = _; rw [IntWalk.i64_in _ (by omega)]; omega
                    have V2 : Hid (wrap64 ((a1 : Int) - 1) = (z1 : Int)) := by show _ = _; rw [IntWalk.wrap64_in _ (by omega)]; omega
                    by_cases hl : ltInt d4[z1]! d4[p2]! = false
                    · have hnl : Hid (ltInt d4[a1 - 1]! d4[p2]! = false) := by show _ = _; rw [hz1]; exact hl
                      have HZ := Lib.hid hz1; clear hz1 hz5
                      generalize hx1 : d4[z1]! = x1 at hl c1
                      generalize hx2 : d4[p2]! = x2 at hl c2
                      clear hx1 hx2
                      have v1 := V1.out; have v2 := V2.out
                      go_wp2_with fail
                      go_quiet ((go_at_call 59; exact Calls.quiet_of_same (less_is hl _)))
                      clear v1 v2 c1 c2 hl
                      generalize hw17 : wc3.drewN _ = w17
                      have HR6 := Lib.hid (show Rn w blk cap n a b d a1 b1 d4 w17 by rw [← hw17]; exact HR5.out.below ⟨rfl, rfl, rfl, Nat.le_refl _, fun _ _ => rfl⟩)
                      clear hw17
                      go_wp2_with fail
                      refine (partitionEqual_any blk cap n d4 a1 b1 p2 w17 HR6.out.s.l HR6.out.z hp3 hp4 (by omega) hsz).mono ?_
                      obtain ⟨mid, d5, hx⟩ : ∃ mid d5, partitionEqual ltInt d4 a1 b1 p2 = (mid, d5) := ⟨_, _, rfl⟩
                      rw [hx]
                      obtain ⟨g1, g2, g3, g4, g5⟩ := round_eq swo_ltInt (partitionEqual_holds _) ha0 hp3 hp4 (by have := HR6.out.z; omega) HR6.out.l hnl.out hx
                      rintro e w5 ⟨rfl, hS5⟩
                      have hRn : Rn w blk cap n a b d mid b1 d5 w5 := ⟨by omega, g3.trans HR6.out.z, HR6.out.s.trans hS5, g4, fun R r1 r2 => by
                        obtain ⟨x1, x2⟩ := g5 R r1 r2
                        exact HR6.out.g R x1 x2⟩
                      have HRn := Lib.hid hRn
                      clear hx hS5 g3 g4 g5 hRn
                      go_wp2
                      exact ⟨⟨mid, b1, li2, _, _, d5, rfl, rfl, rfl, rfl, rfl, hli2, HRn.out⟩, by simp [intOf] <;> omega⟩
                    · rw [Bool.not_eq_false] at hl
                      have HZ := Lib.hid hz1; clear hz1 hz5
                      generalize hx1 : d4[z1]! = x1 at hl c1
                      generalize hx2 : d4[p2]! = x2 at hl c2
                      clear hx1 hx2
                      have v1 := V1.out; have v2 := V2.out
                      go_wp2_with fail
                      go_quiet ((go_at_call 59; exact Calls.quiet_of_same (less_is hl _)))
                      clear v1 v2 c1 c2 hl hg1 hg2
                      generalize hw17 : wc3.drewN _ = w17
                      have HR6 := Lib.hid (show Rn w blk cap n a b d a1 b1 d4 w17 by rw [← hw17]; exact HR5.out.below ⟨rfl, rfl, rfl, Nat.le_refl _, fun _ _ => rfl⟩)
                      clear hw17
                      go_wp2_with fail
                      refine (partition_any blk cap n d4 a1 b1 p2 w17 HR6.out.s.l HR6.out.z hp3 hp4 (by omega) hsz).mono ?_
                      obtain ⟨mid, ap, d5, hx⟩ : ∃ mid ap d5, Sort.partition ltInt d4 a1 b1 p2 = (mid, ap, d5) := ⟨_, _, _, rfl⟩
                      rw [hx]
                      obtain ⟨g1, g2, g3, g4, g5, g6, g7⟩ := round_part swo_ltInt (partition_holds _) hp3 hp4 (by have := HR6.out.z; omega) HR6.out.l hx
                      rintro e w5 ⟨rfl, hS5⟩
                      have HS5 := Lib.hid hS5
                      have G3 := Lib.hid (g3.trans HR6.out.z); have G4 := Lib.hid g4; have G5 := Lib.hid g5; have G6 := Lib.hid g6; have G7 := Lib.hid g7
                      clear hx hS5 g3 g4 g5 g6 g7
                      obtain ⟨lf, hlf⟩ : ∃ x, x = mid - a1 := ⟨_, rfl⟩
                      obtain ⟨rt, hrt⟩ : ∃ x, x = b1 - mid := ⟨_, rfl⟩
                      have elf : (mid : Int) - (a1 : Int) = (lf : Int) := by omega
                      have ert : (b1 : Int) - (mid : Int) = (rt : Int) := by omega
                      have hsum : lf + rt = b1 - a1 := by omega
                      have HLF := Lib.hid hlf; have HRT := Lib.hid hrt
                      clear hlf hrt
                      simp only at HS5
                      by_cases hlr : lf < rt
                      · have hg1 : decide (lf < rt) = true := decide_eq_true hlr
                        have hg2 : decide ((lf : Int) < (rt : Int)) = true := decide_eq_true (by omega)
                        have hmid : mid + 1 ≤ b1 ∧ mid - a1 < m := by have := HRT.out; omega
                        go_wp2_with fail
                        refine (HIH.out blk cap n d5 a1 mid li2 w5 hmid.2 HS5.out.l G3.out g1 (by omega) hsz hli2 G4.out).mono ?_
                        rintro e w6 ⟨rfl, d6, q1, q2, q3⟩
                        obtain ⟨k1, k2⟩ := G6.out d6 q1 q2
                        have hRn : Rn w blk cap n a b d (mid + 1) b1 d6 w6 := ⟨by omega, q1.1.trans G3.out, (HR6.out.s.trans HS5.out).trans q3, k1, fun R r1 r2 => by
                          obtain ⟨x1, x2⟩ := k2 R r1 r2
                          exact HR6.out.g R x1 x2⟩
                        have HRn := Lib.hid hRn
                        clear q1 q2 q3 k1 k2 hRn
                        go_wp2
                        exact ⟨⟨mid + 1, b1, li2, _, ap, d6, by go_num, rfl, rfl, rfl, rfl, hli2, HRn.out⟩, by simp [intOf] <;> omega⟩
                      · have hg1 : decide (lf < rt) = false := decide_eq_false hlr
                        have hg2 : decide ((lf : Int) < (rt : Int)) = false := decide_eq_false (by omega)
                        have hmid : b1 - (mid + 1) < m := by omega
                        obtain ⟨m1, hm1⟩ : ∃ x, x = mid + 1 := ⟨_, rfl⟩
                        have e4 : (mid : Int) + 1 = (m1 : Int) := by omega
                        have hm2 : m1 ≤ b1 := by have := HRT.out; omega
                        rw [← hm1] at hmid
                        have HM := Lib.hid hm1; clear hm1
                        go_wp2_with fail
                        refine (HIH.out blk cap n d5 m1 b1 li2 w5 hmid HS5.out.l G3.out hm2 (by omega) hsz hli2 (by rw [HM.out]; exact G5.out)).mono ?_
                        rintro e w6 ⟨rfl, d6, q1, q2, q3⟩
                        rw [HM.out] at q1 q2
                        obtain ⟨k1, k2⟩ := G7.out d6 q1 q2
                        have hRn : Rn w blk cap n a b d a1 mid d6 w6 := ⟨by omega, q1.1.trans G3.out, (HR6.out.s.trans HS5.out).trans q3, k1, fun R r1 r2 => by
                          obtain ⟨x1, x2⟩ := k2 R r1 r2
                          exact HR6.out.g R x1 x2⟩
                        have HRn := Lib.hid hRn
                        clear q1 q2 q3 k1 k2 hRn e4
                        go_wp2
                        exact ⟨⟨a1, mid, li2, _, ap, d6, rfl, rfl, rfl, rfl, rfl, hli2, HRn.out⟩, by simp [intOf] <;> omega⟩
                  · have hg1 : decide (0 < a1) = false := decide_eq_false ha0
                    have hg2 : decide ((0 : Int) < (a1 : Int)) = false := decide_eq_false (by omega)
                    clear hz5
                    go_wp2_with fail
                    go_quiet (fail)
                    clear hg1 hg2
                    generalize hw17 : wc3.drewN _ = w17
                    have HR6 := Lib.hid (show Rn w blk cap n a b d a1 b1 d4 w17 by rw [← hw17]; exact HR5.out.below ⟨rfl, rfl, rfl, Nat.le_refl _, fun _ _ => rfl⟩)
                    clear hw17
                    go_wp2_with fail
                    refine (partition_any blk cap n d4 a1 b1 p2 w17 HR6.out.s.l HR6.out.z hp3 hp4 (by omega) hsz).mono ?_
                    obtain ⟨mid, ap, d5, hx⟩ : ∃ mid ap d5, Sort.partition ltInt d4 a1 b1 p2 = (mid, ap, d5) := ⟨_, _, _, rfl⟩
                    rw [hx]
                    obtain ⟨g1, g2, g3, g4, g5, g6, g7⟩ := round_part swo_ltInt (partition_holds _) hp3 hp4 (by have := HR6.out.z; omega) HR6.out.l hx
                    rintro e w5 ⟨rfl, hS5⟩
                    have HS5 := Lib.hid hS5
                    have G3 := Lib.hid (g3.trans HR6.out.z); have G4 := Lib.hid g4; have G5 := Lib.hid g5; have G6 := Lib.hid g6; have G7 := Lib.hid g7
                    clear hx hS5 g3 g4 g5 g6 g7
                    obtain ⟨lf, hlf⟩ : ∃ x, x = mid - a1 := ⟨_, rfl⟩
                    obtain ⟨rt, hrt⟩ : ∃ x, x = b1 - mid := ⟨_, rfl⟩
                    have elf : (mid : Int) - (a1 : Int) = (lf : Int) := by omega
                    have ert : (b1 : Int) - (mid : Int) = (rt : Int) := by omega
                    have hsum : lf + rt = b1 - a1 := by omega
                    have HLF := Lib.hid hlf; have HRT := Lib.hid hrt
                    clear hlf hrt
                    simp only at HS5
                    by_cases hlr : lf < rt
                    · have hg1 : decide (lf < rt) = true := decide_eq_true hlr
                      have hg2 : decide ((lf : Int) < (rt : Int)) = true := decide_eq_true (by omega)
                      have hmid : mid + 1 ≤ b1 ∧ mid - a1 < m := by have := HRT.out; omega
                      go_wp2_with fail
                      refine (HIH.out blk cap n d5 a1 mid li2 w5 hmid.2 HS5.out.l G3.out g1 (by omega) hsz hli2 G4.out).mono ?_
                      rintro e w6 ⟨rfl, d6, q1, q2, q3⟩
                      obtain ⟨k1, k2⟩ := G6.out d6 q1 q2
                      have hRn : Rn w blk cap n a b d (mid + 1) b1 d6 w6 := ⟨by omega, q1.1.trans G3.out, (HR6.out.s.trans HS5.out).trans q3, k1, fun R r1 r2 => by
                        obtain ⟨x1, x2⟩ := k2 R r1 r2
                        exact HR6.out.g R x1 x2⟩
                      have HRn := Lib.hid hRn
                      clear q1 q2 q3 k1 k2 hRn
                      go_wp2
                      exact ⟨⟨mid + 1, b1, li2, _, ap, d6, by go_num, rfl, rfl, rfl, rfl, hli2, HRn.out⟩, by simp [intOf] <;> omega⟩
                    · have hg1 : decide (lf < rt) = false := decide_eq_false hlr
                      have hg2 : decide ((lf : Int) < (rt : Int)) = false := decide_eq_false (by omega)
                      have hmid : b1 - (mid + 1) < m := by omega
                      obtain ⟨m1, hm1⟩ : ∃ x, x = mid + 1 := ⟨_, rfl⟩
                      have e4 : (mid : Int) + 1 = (m1 : Int) := by omega
                      have hm2 : m1 ≤ b1 := by have := HRT.out; omega
                      rw [← hm1] at hmid
                      have HM := Lib.hid hm1; clear hm1
                      go_wp2_with fail
                      refine (HIH.out blk cap n d5 m1 b1 li2 w5 hmid HS5.out.l G3.out hm2 (by omega) hsz hli2 (by rw [HM.out]; exact G5.out)).mono ?_
                      rintro e w6 ⟨rfl, d6, q1, q2, q3⟩
                      rw [HM.out] at q1 q2
                      obtain ⟨k1, k2⟩ := G7.out d6 q1 q2
                      have hRn : Rn w blk cap n a b d a1 mid d6 w6 := ⟨by omega, q1.1.trans G3.out, (HR6.out.s.trans HS5.out).trans q3, k1, fun R r1 r2 => by
                        obtain ⟨x1, x2⟩ := k2 R r1 r2
                        exact HR6.out.g R x1 x2⟩
                      have HRn := Lib.hid hRn
                      clear q1 q2 q3 k1 k2 hRn e4
                      go_wp2
                      exact ⟨⟨a1, mid, li2, _, ap, d6, rfl, rfl, rfl, rfl, rfl, hli2, HRn.out⟩, by simp [intOf] <;> omega⟩
                · by_cases hh1 : h2 = 1
                  · have hq : ((h2 : Int) == 1) = true := beq_iff_eq.2 (by omega)
                    have HH := Lib.hid hh1; clear hh1
                    go_wp2_with fail
                    refine (partialInsertionSort_any blk cap n d3 a1 b1 wc HR4.out.s.l HR4.out.z (by omega) (by omega) hsz).mono ?_
                    obtain ⟨i1, i2⟩ := partialInsertionSort_holds swo_ltInt d3 a1 b1 (by omega) (by have := HR4.out.z; omega) HR4.out.l
                    have I1 := Lib.hid i1; have I2 := Lib.hid i2
                    clear i1 i2
                    generalize partialInsertionSort ltInt d3 a1 b1 = pr at *
                    obtain ⟨d4, t⟩ := pr
                    rintro e w4 ⟨rfl, hS4⟩
                    cases t
                    · have HR5 := Lib.hid (HR4.out.perm hb I1.out hS4)
                      obtain ⟨wc3, rfl⟩ : ∃ wc3 : World, wc3 = w4 := ⟨_, rfl⟩
                      clear HR4 hS4 I1 I2
                      go_wp2_with fail
                      have hz5 := HR5.out.z
                      by_cases ha0 : 0 < a1
                      · have hg1 : decide (0 < a1) = true := decide_eq_true ha0
                        have hg2 : decide ((0 : Int) < (a1 : Int)) = true := decide_eq_true (by omega)
                        obtain ⟨z1, hz1⟩ : ∃ z, a1 = z + 1 := ⟨a1 - 1, by omega⟩
                        have c1 := HR5.out.s.cell (i := z1) (by omega)
                        have c2 := HR5.out.s.cell (i := p2) (by omega)
                        have i1 : (z1 : Int) < (n : Int) := by omega
                        have i2 : (p2 : Int) < (n : Int) := by omega
                        have V1 : Hid (IntKind.i64.wrap ((a1 : Int) - 1) = (z1 : Int)) := by show _ = _; rw [IntWalk.i64_in _ (by omega)]; omega
                        have V2 : Hid (wrap64 ((a1 : Int) - 1) = (z1 : Int)) := by show _ = _; rw [IntWalk.wrap64_in _ (by omega)]; omega
                        by_cases hl : ltInt d4[z1]! d4[p2]! = false
                        · have hnl : Hid (ltInt d4[a1 - 1]! d4[p2]! = false) := by show _ = _; rw [hz1]; exact hl
                          have HZ := Lib.hid hz1; clear hz1 hz5
                          generalize hx1 : d4[z1]! = x1 at hl c1
                          generalize hx2 : d4[p2]! = x2 at hl c2
                          clear hx1 hx2
                          have v1 := V1.out; have v2 := V2.out
                          go_wp2_with fail
                          go_quiet ((go_at_call 59; exact Calls.quiet_of_same (less_is hl _)))
                          clear v1 v2 c1 c2 hl
                          generalize hw17 : wc3.drewN _ = w17
                          have HR6 := Lib.hid (show Rn w blk cap n a b d a1 b1 d4 w17 by rw [← hw17]; exact HR5.out.below ⟨rfl, rfl, rfl, Nat.le_refl _, fun _ _ => rfl⟩)
                          clear hw17
                          go_wp2_with fail
                          refine (partitionEqual_any blk cap n d4 a1 b1 p2 w17 HR6.out.s.l HR6.out.z hp3 hp4 (by omega) hsz).mono ?_
                          obtain ⟨mid, d5, hx⟩ : ∃ mid d5, partitionEqual ltInt d4 a1 b1 p2 = (mid, d5) := ⟨_, _, rfl⟩
                          rw [hx]
                          obtain ⟨g1, g2, g3, g4, g5⟩ := round_eq swo_ltInt (partitionEqual_holds _) ha0 hp3 hp4 (by have := HR6.out.z; omega) HR6.out.l hnl.out hx
                          rintro e w5 ⟨rfl, hS5⟩
                          have hRn : Rn w blk cap n a b d mid b1 d5 w5 := ⟨by omega, g3.trans HR6.out.z, HR6.out.s.trans hS5, g4, fun R r1 r2 => by
                            obtain ⟨x1, x2⟩ := g5 R r1 r2
                            exact HR6.out.g R x1 x2⟩
                          have HRn := Lib.hid hRn
                          clear hx hS5 g3 g4 g5 hRn
                          go_wp2
                          exact ⟨⟨mid, b1, li2, _, _, d5, rfl, rfl, rfl, rfl, rfl, hli2, HRn.out⟩, by simp [intOf] <;> omega⟩
                        · rw [Bool.not_eq_false] at hl
                          have HZ := Lib.hid hz1; clear hz1 hz5
                          generalize hx1 : d4[z1]! = x1 at hl c1
                          generalize hx2 : d4[p2]! = x2 at hl c2
                          clear hx1 hx2
                          have v1 := V1.out; have v2 := V2.out
                          go_wp2_with fail
                          go_quiet ((go_at_call 59; exact Calls.quiet_of_same (less_is hl _)))
                          clear v1 v2 c1 c2 hl hg1 hg2
                          generalize hw17 : wc3.drewN _ = w17
                          have HR6 := Lib.hid (show Rn w blk cap n a b d a1 b1 d4 w17 by rw [← hw17]; exact HR5.out.below ⟨rfl, rfl, rfl, Nat.le_refl _, fun _ _ => rfl⟩)
                          clear hw17
                          go_wp2_with fail
                          refine (partition_any blk cap n d4 a1 b1 p2 w17 HR6.out.s.l HR6.out.z hp3 hp4 (by omega) hsz).mono ?_
                          obtain ⟨mid, ap, d5, hx⟩ : ∃ mid ap d5, Sort.partition ltInt d4 a1 b1 p2 = (mid, ap, d5) := ⟨_, _, _, rfl⟩
                          rw [hx]
                          obtain ⟨g1, g2, g3, g4, g5, g6, g7⟩ := round_part swo_ltInt (partition_holds _) hp3 hp4 (by have := HR6.out.z; omega) HR6.out.l hx
                          rintro e w5 ⟨rfl, hS5⟩
                          have HS5 := Lib.hid hS5
                          have G3 := Lib.hid (g3.trans HR6.out.z); have G4 := Lib.hid g4; have G5 := Lib.hid g5; have G6 := Lib.hid g6; have G7 := Lib.hid g7
                          clear hx hS5 g3 g4 g5 g6 g7
                          obtain ⟨lf, hlf⟩ : ∃ x, x = mid - a1 := ⟨_, rfl⟩
                          obtain ⟨rt, hrt⟩ : ∃ x, x = b1 - mid := ⟨_, rfl⟩
                          have elf : (mid : Int) - (a1 : Int) = (lf : Int) := by omega
                          have ert : (b1 : Int) - (mid : Int) = (rt : Int) := by omega
                          have hsum : lf + rt = b1 - a1 := by omega
                          have HLF := Lib.hid hlf; have HRT := Lib.hid hrt
                          clear hlf hrt
                          simp only at HS5
                          by_cases hlr : lf < rt
                          · have hg1 : decide (lf < rt) = true := decide_eq_true hlr
                            have hg2 : decide ((lf : Int) < (rt : Int)) = true := decide_eq_true (by omega)
                            have hmid : mid + 1 ≤ b1 ∧ mid - a1 < m := by have := HRT.out; omega
                            go_wp2_with fail
                            refine (HIH.out blk cap n d5 a1 mid li2 w5 hmid.2 HS5.out.l G3.out g1 (by omega) hsz hli2 G4.out).mono ?_
                            rintro e w6 ⟨rfl, d6, q1, q2, q3⟩
                            obtain ⟨k1, k2⟩ := G6.out d6 q1 q2
                            have hRn : Rn w blk cap n a b d (mid + 1) b1 d6 w6 := ⟨by omega, q1.1.trans G3.out, (HR6.out.s.trans HS5.out).trans q3, k1, fun R r1 r2 => by
                              obtain ⟨x1, x2⟩ := k2 R r1 r2
                              exact HR6.out.g R x1 x2⟩
                            have HRn := Lib.hid hRn
                            clear q1 q2 q3 k1 k2 hRn
                            go_wp2
                            exact ⟨⟨mid + 1, b1, li2, _, ap, d6, by go_num, rfl, rfl, rfl, rfl, hli2, HRn.out⟩, by simp [intOf] <;> omega⟩
                          · have hg1 : decide (lf < rt) = false := decide_eq_false hlr
                            have hg2 : decide ((lf : Int) < (rt : Int)) = false := decide_eq_false (by omega)
                            have hmid : b1 - (mid + 1) < m := by omega
                            obtain ⟨m1, hm1⟩ : ∃ x, x = mid + 1 := ⟨_, rfl⟩
                            have e4 : (mid : Int) + 1 = (m1 : Int) := by omega
                            have hm2 : m1 ≤ b1 := by have := HRT.out; omega
                            rw [← hm1] at hmid
                            have HM := Lib.hid hm1; clear hm1
                            go_wp2_with fail
                            refine (HIH.out blk cap n d5 m1 b1 li2 w5 hmid HS5.out.l G3.out hm2 (by omega) hsz hli2 (by rw [HM.out]; exact G5.out)).mono ?_
                            rintro e w6 ⟨rfl, d6, q1, q2, q3⟩
                            rw [HM.out] at q1 q2
                            obtain ⟨k1, k2⟩ := G7.out d6 q1 q2
                            have hRn : Rn w blk cap n a b d a1 mid d6 w6 := ⟨by omega, q1.1.trans G3.out, (HR6.out.s.trans HS5.out).trans q3, k1, fun R r1 r2 => by
                              obtain ⟨x1, x2⟩ := k2 R r1 r2
                              exact HR6.out.g R x1 x2⟩
                            have HRn := Lib.hid hRn
                            clear q1 q2 q3 k1 k2 hRn e4
                            go_wp2
                            exact ⟨⟨a1, mid, li2, _, ap, d6, rfl, rfl, rfl, rfl, rfl, hli2, HRn.out⟩, by simp [intOf] <;> omega⟩
                      · have hg1 : decide (0 < a1) = false := decide_eq_false ha0
                        have hg2 : decide ((0 : Int) < (a1 : Int)) = false := decide_eq_false (by omega)
                        clear hz5
                        go_wp2_with fail
                        go_quiet (fail)
                        clear hg1 hg2
                        generalize hw17 : wc3.drewN _ = w17
                        have HR6 := Lib.hid (show Rn w blk cap n a b d a1 b1 d4 w17 by rw [← hw17]; exact HR5.out.below ⟨rfl, rfl, rfl, Nat.le_refl _, fun _ _ => rfl⟩)
                        clear hw17
                        go_wp2_with fail
                        refine (partition_any blk cap n d4 a1 b1 p2 w17 HR6.out.s.l HR6.out.z hp3 hp4 (by omega) hsz).mono ?_
                        obtain ⟨mid, ap, d5, hx⟩ : ∃ mid ap d5, Sort.partition ltInt d4 a1 b1 p2 = (mid, ap, d5) := ⟨_, _, _, rfl⟩
                        rw [hx]
                        obtain ⟨g1, g2, g3, g4, g5, g6, g7⟩ := round_part swo_ltInt (partition_holds _) hp3 hp4 (by have := HR6.out.z; omega) HR6.out.l hx
                        rintro e w5 ⟨rfl, hS5⟩
                        have HS5 := Lib.hid hS5
                        have G3 := Lib.hid (g3.trans HR6.out.z); have G4 := Lib.hid g4; have G5 := Lib.hid g5; have G6 := Lib.hid g6; have G7 := Lib.hid g7
                        clear hx hS5 g3 g4 g5 g6 g7
                        obtain ⟨lf, hlf⟩ : ∃ x, x = mid - a1 := ⟨_, rfl⟩
                        obtain ⟨rt, hrt⟩ : ∃ x, x = b1 - mid := ⟨_, rfl⟩
                        have elf : (mid : Int) - (a1 : Int) = (lf : Int) := by omega
                        have ert : (b1 : Int) - (mid : Int) = (rt : Int) := by omega
                        have hsum : lf + rt = b1 - a1 := by omega
                        have HLF := Lib.hid hlf; have HRT := Lib.hid hrt
                        clear hlf hrt
                        simp only at HS5
                        by_cases hlr : lf < rt
                        · have hg1 : decide (lf < rt) = true := decide_eq_true hlr
                          have hg2 : decide ((lf : Int) < (rt : Int)) = true := decide_eq_true (by omega)
                          have hmid : mid + 1 ≤ b1 ∧ mid - a1 < m := by have := HRT.out; omega
                          go_wp2_with fail
                          refine (HIH.out blk cap n d5 a1 mid li2 w5 hmid.2 HS5.out.l G3.out g1 (by omega) hsz hli2 G4.out).mono ?_
                          rintro e w6 ⟨rfl, d6, q1, q2, q3⟩
                          obtain ⟨k1, k2⟩ := G6.out d6 q1 q2
                          have hRn : Rn w blk cap n a b d (mid + 1) b1 d6 w6 := ⟨by omega, q1.1.trans G3.out, (HR6.out.s.trans HS5.out).trans q3, k1, fun R r1 r2 => by
                            obtain ⟨x1, x2⟩ := k2 R r1 r2
                            exact HR6.out.g R x1 x2⟩
                          have HRn := Lib.hid hRn
                          clear q1 q2 q3 k1 k2 hRn
                          go_wp2
                          exact ⟨⟨mid + 1, b1, li2, _, ap, d6, by go_num, rfl, rfl, rfl, rfl, hli2, HRn.out⟩, by simp [intOf] <;> omega⟩
                        · have hg1 : decide (lf < rt) = false := decide_eq_false hlr
                          have hg2 : decide ((lf : Int) < (rt : Int)) = false := decide_eq_false (by omega)
                          have hmid : b1 - (mid + 1) < m := by omega
                          obtain ⟨m1, hm1⟩ : ∃ x, x = mid + 1 := ⟨_, rfl⟩
                          have e4 : (mid : Int) + 1 = (m1 : Int) := by omega
                          have hm2 : m1 ≤ b1 := by have := HRT.out; omega
                          rw [← hm1] at hmid
                          have HM := Lib.hid hm1; clear hm1
                          go_wp2_with fail
                          refine (HIH.out blk cap n d5 m1 b1 li2 w5 hmid HS5.out.l G3.out hm2 (by omega) hsz hli2 (by rw [HM.out]; exact G5.out)).mono ?_
                          rintro e w6 ⟨rfl, d6, q1, q2, q3⟩
                          rw [HM.out] at q1 q2
                          obtain ⟨k1, k2⟩ := G7.out d6 q1 q2
                          have hRn : Rn w blk cap n a b d a1 mid d6 w6 := ⟨by omega, q1.1.trans G3.out, (HR6.out.s.trans HS5.out).trans q3, k1, fun R r1 r2 => by
                            obtain ⟨x1, x2⟩ := k2 R r1 r2
                            exact HR6.out.g R x1 x2⟩
                          have HRn := Lib.hid hRn
                          clear q1 q2 q3 k1 k2 hRn e4
                          go_wp2
                          exact ⟨⟨a1, mid, li2, _, ap, d6, rfl, rfl, rfl, rfl, rfl, hli2, HRn.out⟩, by simp [intOf] <;> omega⟩
                    · go_wp2
                      refine bodyPost_ret (results_none rfl _ _ _) rfl ?_
                      obtain ⟨q1, q2⟩ := HR4.out.g _ I1.out (I2.out trivial)
                      exact ⟨rfl, _, q1, q2, HR4.out.s.trans hS4⟩
                  · have hq : ((h2 : Int) == 1) = false := beq_eq_false_iff_ne.2 (by omega)
                    go_wp2_with fail
                    have HR5 := HR4
                    obtain ⟨d4, rfl⟩ : ∃ d4, d4 = d3 := ⟨_, rfl⟩
                    obtain ⟨wc3, rfl⟩ : ∃ wc3 : World, wc3 = wc := ⟨_, rfl⟩
                    clear HR4 hq
                    have hz5 := HR5.out.z
                    by_cases ha0 : 0 < a1
                    · have hg1 : decide (0 < a1) = true := decide_eq_true ha0
                      have hg2 : decide ((0 : Int) < (a1 : Int)) = true := decide_eq_true (by omega)
                      obtain ⟨z1, hz1⟩ : ∃ z, a1 = z + 1 := ⟨a1 - 1, by omega⟩
                      have c1 := HR5.out.s.cell (i := z1) (by omega)
                      have c2 := HR5.out.s.cell (i := p2) (by omega)
                      have i1 : (z1 : Int) < (n : Int) := by omega
                      have i2 : (p2 : Int) < (n : Int) := by omega
                      have V1 : Hid (IntKind.i64.wrap ((a1 : Int) - 1) = (z1 : Int)) := by show _ = _; rw [IntWalk.i64_in _ (by omega)]; omega
                      have V2 : Hid (wrap64 ((a1 : Int) - 1) = (z1 : Int)) := by show _ = _; rw [IntWalk.wrap64_in _ (by omega)]; omega
                      by_cases hl : ltInt d4[z1]! d4[p2]! = false
                      · have hnl : Hid (ltInt d4[a1 - 1]! d4[p2]! = false) := by show _ = _; rw [hz1]; exact hl
                        have HZ := Lib.hid hz1; clear hz1 hz5
                        generalize hx1 : d4[z1]! = x1 at hl c1
                        generalize hx2 : d4[p2]! = x2 at hl c2
                        clear hx1 hx2
                        have v1 := V1.out; have v2 := V2.out
                        go_wp2_with fail
                        go_quiet ((go_at_call 59; exact Calls.quiet_of_same (less_is hl _)))
                        clear v1 v2 c1 c2 hl
                        generalize hw17 : wc3.drewN _ = w17
                        have HR6 := Lib.hid (show Rn w blk cap n a b d a1 b1 d4 w17 by rw [← hw17]; exact HR5.out.below ⟨rfl, rfl, rfl, Nat.le_refl _, fun _ _ => rfl⟩)
                        clear hw17
                        go_wp2_with fail
                        refine (partitionEqual_any blk cap n d4 a1 b1 p2 w17 HR6.out.s.l HR6.out.z hp3 hp4 (by omega) hsz).mono ?_
                        obtain ⟨mid, d5, hx⟩ : ∃ mid d5, partitionEqual ltInt d4 a1 b1 p2 = (mid, d5) := ⟨_, _, rfl⟩
                        rw [hx]
                        obtain ⟨g1, g2, g3, g4, g5⟩ := round_eq swo_ltInt (partitionEqual_holds _) ha0 hp3 hp4 (by have := HR6.out.z; omega) HR6.out.l hnl.out hx
                        rintro e w5 ⟨rfl, hS5⟩
                        have hRn : Rn w blk cap n a b d mid b1 d5 w5 := ⟨by omega, g3.trans HR6.out.z, HR6.out.s.trans hS5, g4, fun R r1 r2 => by
                          obtain ⟨x1, x2⟩ := g5 R r1 r2
                          exact HR6.out.g R x1 x2⟩
                        have HRn := Lib.hid hRn
                        clear hx hS5 g3 g4 g5 hRn
                        go_wp2
                        exact ⟨⟨mid, b1, li2, _, _, d5, rfl, rfl, rfl, rfl, rfl, hli2, HRn.out⟩, by simp [intOf] <;> omega⟩
                      · rw [Bool.not_eq_false] at hl
                        have HZ := Lib.hid hz1; clear hz1 hz5
                        generalize hx1 : d4[z1]! = x1 at hl c1
                        generalize hx2 : d4[p2]! = x2 at hl c2
                        clear hx1 hx2
                        have v1 := V1.out; have v2 := V2.out
                        go_wp2_with fail
                        go_quiet ((go_at_call 59; exact Calls.quiet_of_same (less_is hl _)))
                        clear v1 v2 c1 c2 hl hg1 hg2
                        generalize hw17 : wc3.drewN _ = w17
                        have HR6 := Lib.hid (show Rn w blk cap n a b d a1 b1 d4 w17 by rw [← hw17]; exact HR5.out.below ⟨rfl, rfl, rfl, Nat.le_refl _, fun _ _ => rfl⟩)
                        clear hw17
                        go_wp2_with fail
                        refine (partition_any blk cap n d4 a1 b1 p2 w17 HR6.out.s.l HR6.out.z hp3 hp4 (by omega) hsz).mono ?_
                        obtain ⟨mid, ap, d5, hx⟩ : ∃ mid ap d5, Sort.partition ltInt d4 a1 b1 p2 = (mid, ap, d5) := ⟨_, _, _, rfl⟩
                        rw [hx]
                        obtain ⟨g1, g2, g3, g4, g5, g6, g7⟩ := round_part swo_ltInt (partition_holds _) hp3 hp4 (by have := HR6.out.z; omega) HR6.out.l hx
                        rintro e w5 ⟨rfl, hS5⟩
                        have HS5 := Lib.hid hS5
                        have G3 := Lib.hid (g3.trans HR6.out.z); have G4 := Lib.hid g4; have G5 := Lib.hid g5; have G6 := Lib.hid g6; have G7 := Lib.hid g7
                        clear hx hS5 g3 g4 g5 g6 g7
                        obtain ⟨lf, hlf⟩ : ∃ x, x = mid - a1 := ⟨_, rfl⟩
                        obtain ⟨rt, hrt⟩ : ∃ x, x = b1 - mid := ⟨_, rfl⟩
                        have elf : (mid : Int) - (a1 : Int) = (lf : Int) := by omega
                        have ert : (b1 : Int) - (mid : Int) = (rt : Int) := by omega
                        have hsum : lf + rt = b1 - a1 := by omega
                        have HLF := Lib.hid hlf; have HRT := Lib.hid hrt
                        clear hlf hrt
                        simp only at HS5
                        by_cases hlr : lf < rt
                        · have hg1 : decide (lf < rt) = true := decide_eq_true hlr
                          have hg2 : decide ((lf : Int) < (rt : Int)) = true := decide_eq_true (by omega)
                          have hmid : mid + 1 ≤ b1 ∧ mid - a1 < m := by have := HRT.out; omega
                          go_wp2_with fail
                          refine (HIH.out blk cap n d5 a1 mid li2 w5 hmid.2 HS5.out.l G3.out g1 (by omega) hsz hli2 G4.out).mono ?_
                          rintro e w6 ⟨rfl, d6, q1, q2, q3⟩
                          obtain ⟨k1, k2⟩ := G6.out d6 q1 q2
                          have hRn : Rn w blk cap n a b d (mid + 1) b1 d6 w6 := ⟨by omega, q1.1.trans G3.out, (HR6.out.s.trans HS5.out).trans q3, k1, fun R r1 r2 => by
                            obtain ⟨x1, x2⟩ := k2 R r1 r2
                            exact HR6.out.g R x1 x2⟩
                          have HRn := Lib.hid hRn
                          clear q1 q2 q3 k1 k2 hRn
                          go_wp2
                          exact ⟨⟨mid + 1, b1, li2, _, ap, d6, by go_num, rfl, rfl, rfl, rfl, hli2, HRn.out⟩, by simp [intOf] <;> omega⟩
                        · have hg1 : decide (lf < rt) = false := decide_eq_false hlr
                          have hg2 : decide ((lf : Int) < (rt : Int)) = false := decide_eq_false (by omega)
                          have hmid : b1 - (mid + 1) < m := by omega
                          obtain ⟨m1, hm1⟩ : ∃ x, x = mid + 1 := ⟨_, rfl⟩
                          have e4 : (mid : Int) + 1 = (m1 : Int) := by omega
                          have hm2 : m1 ≤ b1 := by have := HRT.out; omega
                          rw [← hm1] at hmid
                          have HM := Lib.hid hm1; clear hm1
                          go_wp2_with fail
                          refine (HIH.out blk cap n d5 m1 b1 li2 w5 hmid HS5.out.l G3.out hm2 (by omega) hsz hli2 (by rw [HM.out]; exact G5.out)).mono ?_
                          rintro e w6 ⟨rfl, d6, q1, q2, q3⟩
                          rw [HM.out] at q1 q2
                          obtain ⟨k1, k2⟩ := G7.out d6 q1 q2
                          have hRn : Rn w blk cap n a b d a1 mid d6 w6 := ⟨by omega, q1.1.trans G3.out, (HR6.out.s.trans HS5.out).trans q3, k1, fun R r1 r2 => by
                            obtain ⟨x1, x2⟩ := k2 R r1 r2
                            exact HR6.out.g R x1 x2⟩
                          have HRn := Lib.hid hRn
                          clear q1 q2 q3 k1 k2 hRn e4
                          go_wp2
                          exact ⟨⟨a1, mid, li2, _, ap, d6, rfl, rfl, rfl, rfl, rfl, hli2, HRn.out⟩, by simp [intOf] <;> omega⟩
                    · have hg1 : decide (0 < a1) = false := decide_eq_false ha0
                      have hg2 : decide ((0 : Int) < (a1 : Int)) = false := decide_eq_false (by omega)
                      clear hz5
                      go_wp2_with fail
                      go_quiet (fail)
                      clear hg1 hg2
                      generalize hw17 : wc3.drewN _ = w17
                      have HR6 := Lib.hid (show Rn w blk cap n a b d a1 b1 d4 w17 by rw [← hw17]; exact HR5.out.below ⟨rfl, rfl, rfl, Nat.le_refl _, fun _ _ => rfl⟩)
                      clear hw17
                      go_wp2_with fail
                      refine (partition_any blk cap n d4 a1 b1 p2 w17 HR6.out.s.l HR6.out.z hp3 hp4 (by omega) hsz).mono ?_
                      obtain ⟨mid, ap, d5, hx⟩ : ∃ mid ap d5, Sort.partition ltInt d4 a1 b1 p2 = (mid, ap, d5) := ⟨_, _, _, rfl⟩
                      rw [hx]
                      obtain ⟨g1, g2, g3, g4, g5, g6, g7⟩ := round_part swo_ltInt (partition_holds _) hp3 hp4 (by have := HR6.out.z; omega) HR6.out.l hx
                      rintro e w5 ⟨rfl, hS5⟩
                      have HS5 := Lib.hid hS5
                      have G3 := Lib.hid (g3.trans HR6.out.z); have G4 := Lib.hid g4; have G5 := Lib.hid g5; have G6 := Lib.hid g6; have G7 := Lib.hid g7
                      clear hx hS5 g3 g4 g5 g6 g7
                      obtain ⟨lf, hlf⟩ : ∃ x, x = mid - a1 := ⟨_, rfl⟩
                      obtain ⟨rt, hrt⟩ : ∃ x, x = b1 - mid := ⟨_, rfl⟩
                      have elf : (mid : Int) - (a1 : Int) = (lf : Int) := by omega
                      have ert : (b1 : Int) - (mid : Int) = (rt : Int) := by omega
                      have hsum : lf + rt = b1 - a1 := by omega
                      have HLF := Lib.hid hlf; have HRT := Lib.hid hrt
                      clear hlf hrt
                      simp only at HS5
                      by_cases hlr : lf < rt
                      · have hg1 : decide (lf < rt) = true := decide_eq_true hlr
                        have hg2 : decide ((lf : Int) < (rt : Int)) = true := decide_eq_true (by omega)
                        have hmid : mid + 1 ≤ b1 ∧ mid - a1 < m := by have := HRT.out; omega
                        go_wp2_with fail
                        refine (HIH.out blk cap n d5 a1 mid li2 w5 hmid.2 HS5.out.l G3.out g1 (by omega) hsz hli2 G4.out).mono ?_
                        rintro e w6 ⟨rfl, d6, q1, q2, q3⟩
                        obtain ⟨k1, k2⟩ := G6.out d6 q1 q2
                        have hRn : Rn w blk cap n a b d (mid + 1) b1 d6 w6 := ⟨by omega, q1.1.trans G3.out, (HR6.out.s.trans HS5.out).trans q3, k1, fun R r1 r2 => by
                          obtain ⟨x1, x2⟩ := k2 R r1 r2
                          exact HR6.out.g R x1 x2⟩
                        have HRn := Lib.hid hRn
                        clear q1 q2 q3 k1 k2 hRn
                        go_wp2
                        exact ⟨⟨mid + 1, b1, li2, _, ap, d6, by go_num, rfl, rfl, rfl, rfl, hli2, HRn.out⟩, by simp [intOf] <;> omega⟩
                      · have hg1 : decide (lf < rt) = false := decide_eq_false hlr
                        have hg2 : decide ((lf : Int) < (rt : Int)) = false := decide_eq_false (by omega)
                        have hmid : b1 - (mid + 1) < m := by omega
                        obtain ⟨m1, hm1⟩ : ∃ x, x = mid + 1 := ⟨_, rfl⟩
                        have e4 : (mid : Int) + 1 = (m1 : Int) := by omega
                        have hm2 : m1 ≤ b1 := by have := HRT.out; omega
                        rw [← hm1] at hmid
                        have HM := Lib.hid hm1; clear hm1
                        go_wp2_with fail
                        refine (HIH.out blk cap n d5 m1 b1 li2 w5 hmid HS5.out.l G3.out hm2 (by omega) hsz hli2 (by rw [HM.out]; exact G5.out)).mono ?_
                        rintro e w6 ⟨rfl, d6, q1, q2, q3⟩
                        rw [HM.out] at q1 q2
                        obtain ⟨k1, k2⟩ := G7.out d6 q1 q2
                        have hRn : Rn w blk cap n a b d a1 mid d6 w6 := ⟨by omega, q1.1.trans G3.out, (HR6.out.s.trans HS5.out).trans q3, k1, fun R r1 r2 => by
                          obtain ⟨x1, x2⟩ := k2 R r1 r2
                          exact HR6.out.g R x1 x2⟩
                        have HRn := Lib.hid hRn
                        clear q1 q2 q3 k1 k2 hRn e4
                        go_wp2
                        exact ⟨⟨a1, mid, li2, _, ap, d6, rfl, rfl, rfl, rfl, rfl, hli2, HRn.out⟩, by simp [intOf] <;> omega⟩

theorem bitLenAux_le : ∀ f x, Lib.bitLenAux f x ≤ f
  | 0, _ => Nat.le_refl _
  | f + 1, x => by
    unfold Lib.bitLenAux
    split
    · omega
    · have := bitLenAux_le f (x / 2)
      omega
/-- slices.Sort. -/
theorem sort_any (blk cap n : Nat) (d : Array Int) (w : World) (hL : Ls w blk cap d) (hn : d.size = n) (hsz : n ≤ 1000000) :
    Calls Try.prog 27 #[.slice (some ⟨blk, 0, none⟩) n cap] w (Ps w blk cap 0 n d) := by
  go_enter Try.func27, Try.ntmps27
  go_wp2_with fail
  refine (Try.bits_Len (n : Int) w (by omega) (by omega)).mono ?_
  rintro e w2 ⟨rfl, rfl⟩
  have hbl : Lib.bitLen (n : Int).toNat ≤ 1000 := by
    have h := bitLenAux_le 64 (n : Int).toNat
    unfold Lib.bitLen
    omega
  generalize Lib.bitLen (n : Int).toNat = k at *
  go_wp2_with fail
  refine (pdq_any (n + 1) blk cap n d 0 n k w2 (by omega) hL hn (by omega) (by omega) hsz hbl (.inl rfl)).mono ?_
  rintro e w3 ⟨rfl, h⟩
  go_wp2
  go_end0
  exact ⟨rfl, h⟩
end Go.Proofs.Ytaaijgalminafaa
