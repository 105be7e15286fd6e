import Derived.ChangeAlike
import Derived.Test.YtaaijgalminafaaSo3
/-
  slices.Sort at uint32: partialInsertionSort (printed by gen_so8.py).
-/
namespace Go.Proofs.Ytaaijgalminafaa
open Go.RowKit Go.Sort

theorem ss_go {d : Array Int} {b i p : Nat} (hp : i = p + 1) (h : i < b) (hl : ltInt d[i]! d[p]! = false) : scanSorted ltInt d b i = scanSorted ltInt d b (i + 1) := by
  subst hp
  conv => lhs; rw [scanSorted, if_pos (by simp [h, hl])]
theorem ss_no {d : Array Int} {b i p : Nat} (hp : i = p + 1) (h : ¬ i < b ∨ ltInt d[i]! d[p]! = true) : scanSorted ltInt d b i = i := by
  subst hp
  rw [scanSorted, if_neg (by rcases h with h | h <;> simp [h])]
theorem sd_go {d : Array Int} {j p : Nat} (hp : j = p + 1) (hl : ltInt d[j]! d[p]! = true) : shiftDown ltInt j d = shiftDown ltInt p (swp d j p) := by
  subst hp
  conv => lhs; rw [shiftDown, if_neg (by simp [hl])]
theorem sd_no {d : Array Int} {j p : Nat} (hp : j = p + 1) (hl : ltInt d[j]! d[p]! = false) : shiftDown ltInt j d = d := by
  subst hp
  rw [shiftDown, if_pos (by simp [hl])]
theorem su_go {d : Array Int} {b j p : Nat} (hp : j = p + 1) (h : j < b) (hl : ltInt d[j]! d[p]! = true) : shiftUp ltInt b j d = shiftUp ltInt b (j + 1) (swp d j p) := by
  subst hp
  conv => lhs; rw [shiftUp, if_pos h, if_neg (by simp [hl])]
  rfl
theorem su_no {d : Array Int} {b j p : Nat} (hp : j = p + 1) (h : ¬ j < b ∨ ltInt d[j]! d[p]! = false) : shiftUp ltInt b j d = d := by
  subst hp
  rw [shiftUp]
  by_cases hb : p + 1 < b
  · rw [if_pos hb, if_pos (by rcases h with h | h; exact absurd hb h; simp [h])]
  · rw [if_neg hb]
theorem pi_true {a b s i i2 : Nat} {d : Array Int} (hi : i2 = scanSorted ltInt d b i) (h : i2 = b) : partialIns ltInt a b (s + 1) i d = (d, true) := by
  rw [partialIns]; simp only [← hi]; rw [if_pos h]
theorem pi_short {a b s i i2 : Nat} {d : Array Int} (hi : i2 = scanSorted ltInt d b i) (h : ¬ i2 = b) (h5 : b - a < 50) : partialIns ltInt a b (s + 1) i d = (d, false) := by
  rw [partialIns]; simp only [← hi]; rw [if_neg h, if_pos h5]
theorem pi_go {a b s i i2 : Nat} {d D2 D3 : Array Int} (hi : i2 = scanSorted ltInt d b i) (h : ¬ i2 = b) (h5 : ¬ b - a < 50) (h2 : D2 = if i2 - a ≥ 2 then shiftDown ltInt (i2 - 1) (swp d i2 (i2 - 1)) else swp d i2 (i2 - 1))
    (h3 : D3 = if b - i2 ≥ 2 then shiftUp ltInt b (i2 + 1) D2 else D2) : partialIns ltInt a b (s + 1) i d = partialIns ltInt a b s i2 D3 := by
  subst h3; subst h2
  conv => lhs; rw [partialIns]
  simp only [← hi]
  rw [if_neg h, if_neg h5]
/-- What a call of partialInsertionSort leaves. -/
def Pi (w : World) (blk cap : Nat) (r : Array Int × Bool) (e : Ending) (w' : World) : Prop :=
  e = .returned (.bool r.2) ∧ St w blk cap r.1 w'

set_option maxHeartbeats 12800000 in
set_option maxRecDepth 100000 in
theorem partialInsertionSort_any (blk cap n : Nat) (d : Array Int) (a b : Nat) (w : World) (hL : Ls w blk cap d) (hn : d.size = n) (hab : a < b) (hb : b ≤ n) (hsz : n ≤ 1000000) :
    Calls Try.prog 58 #[.slice (some ⟨blk, 0, none⟩) n cap, .int .i64 (a : Int), .int .i64 (b : Int)] w (Pi w blk cap (partialInsertionSort ltInt d a b)) := by
  have HN := Lib.hid hn; clear hn
  have HL := Lib.hid hL; clear hL
  obtain ⟨q, hq⟩ : ∃ q, q = b - a := ⟨_, rfl⟩
  have eq0 : (b : Int) - (a : Int) = (q : Int) := by omega
  have HQ := Lib.hid hq; clear hq
  go_enter Try.func58, Try.ntmps58
  go_wp2
  go_loopw [7, 8] (fun t u wr => ∃ (i s st : Nat) (dk : Array Int), t = .int .i64 (i : Int) ∧ u = .int .i64 (st : Int) ∧ Hid (st + s = 5) ∧ st ≤ 5 ∧ (a + 1 ≤ i ∧ i ≤ b) ∧ Hid (dk.size = n) ∧ St w blk cap dk wr ∧ Hid (partialIns ltInt a b s i dk = partialInsertionSort ltInt d a b)) (fun _ u _ => 5 - (intOf u).toNat)
  case atStart => exact ⟨a + 1, 5, 0, d, by go_num, rfl, rfl, by omega, by omega, HN, HL.out.st, rfl⟩
  case round =>
    obtain ⟨i, s, st, dk, rfl, rfl, hst, hst5, hr, hds, hS, heq⟩ := hrel
    have HS := Lib.hid hS; clear hS
    by_cases hs0 : st < 5
    · have hq1 : decide (st < 5) = true := decide_eq_true hs0
      have hq2 : decide ((st : Int) < 5) = true := decide_eq_true (by omega)
      obtain ⟨s1, hs1⟩ : ∃ s1, s = s1 + 1 := ⟨s - 1, by have := hst.out; omega⟩
      have hst1 : Hid (st + 1 + s1 = 5) := by show _ = _; have := hst.out; omega
      subst hs1
      obtain ⟨wo, rfl⟩ : ∃ wo : World, wo = wr := ⟨_, rfl⟩
      go_wp2_with fail
      go_loopw [7] (fun t wr => ∃ m : Nat, t = .int .i64 (m : Int) ∧ (i ≤ m ∧ m ≤ b) ∧ St w blk cap dk wr ∧ Hid (scanSorted ltInt dk b m = scanSorted ltInt dk b i)) (fun t _ => b - (intOf t).toNat)
      case atStart => exact ⟨i, rfl, by omega, HS.out, rfl⟩
      case round =>
        obtain ⟨m, rfl, hmr, hSm, heqm⟩ := hrel
        have HSm := Lib.hid hSm; clear hSm HS
        obtain ⟨p, hp⟩ : ∃ p, m = p + 1 := ⟨m - 1, by omega⟩
        by_cases hle : m < b
        · have hdz := hds.out
          have hdd1 : decide (m < b) = true := decide_eq_true hle
          have hdd2 : decide ((m : Int) < (b : Int)) = true := decide_eq_true (by omega)
          have him : (m : Int) < (n : Int) := by omega
          have hip : (p : Int) < (n : Int) := by omega
          have cm := HSm.out.cell (i := m) (by omega)
          have cp := HSm.out.cell (i := p) (by omega)
          have V1 : Hid (IntKind.i64.wrap ((m : Int) - 1) = (p : Int)) := by show _ = _; rw [IntWalk.i64_in _ (by omega)]; omega
          have V2 : Hid (wrap64 ((m : Int) - 1) = (p : Int)) := by show _ = _; rw [IntWalk.wrap64_in _ (by omega)]; omega
          have hpm : p < m := by omega
          by_cases hl : ltInt dk[m]! dk[p]! = false
          · have hgo := Lib.hid (ss_go hp hle hl)
            have HP := Lib.hid hp; clear hp hdz
            generalize hxm : dk[m]! = xm at hl cm
            generalize hxp : dk[p]! = xp at hl cp
            clear hxm hxp
            have v1 := V1.out; have v2 := V2.out
            go_wp2_with fail
            go_quiet ((go_at_call 59; exact Calls.quiet_of_same (less_is hl _)))
            clear v1 v2
            go_wp2
            exact ⟨⟨m + 1, by go_num, by omega, HSm.out.drewN _, hgo.out.symm.trans heqm.out⟩, by simp [intOf] <;> omega⟩
          · rw [Bool.not_eq_false] at hl
            have HM := Lib.hid ((ss_no hp (.inr hl)).symm.trans heqm.out)
            have HP := Lib.hid hp; clear hp hdz
            generalize hxm : dk[m]! = xm at hl cm
            generalize hxp : dk[p]! = xp at hl cp
            clear hxm hxp
            have v1 := V1.out; have v2 := V2.out
            go_wp2_with fail
            go_quiet ((go_at_call 59; exact Calls.quiet_of_same (less_is hl _)))
            clear v1 v2 hdd1 hdd2 cm cp hl
            generalize hwq : wr.drewN _ = wq
            have HSq := Lib.hid (show St w blk cap dk wq by rw [← hwq]; exact HSm.out.drewN _)
            clear hwq HSm
            have hneb : ((m : Int) == (b : Int)) = false := beq_eq_false_iff_ne.2 (by omega)
            have hmb : ¬ m = b := by omega
            by_cases h50 : q < 50
            · have hd5 : decide ((q : Int) < 50) = true := decide_eq_true (by omega)
              have hd6 : decide (q < 50) = true := decide_eq_true h50
              have hend := Lib.hid (pi_short (a := a) (s := s1) HM.out hmb (by have := HQ.out; omega))
              go_wp2
              go_ret
              exact ⟨by rw [← heq.out, hend.out]; rfl, by rw [← heq.out, hend.out]; exact HSq.out⟩
            · have hd5 : decide ((q : Int) < 50) = false := decide_eq_false (by omega)
              have hd6 : decide (q < 50) = false := decide_eq_false h50
              have hgo := Lib.hid (fun D2 D3 h2 h3 => pi_go (a := a) (s := s1) (D2 := D2) (D3 := D3) HM.out hmb (by have := HQ.out; omega) h2 h3)
              have hdz := hds.out
              have cm := HSq.out.cell (i := m) (by omega)
              have cp := HSq.out.cell (i := p) (by omega)
              have fm := HSq.out.frozen m
              have fp := HSq.out.frozen p
              have hm1 : m < dk.size := by omega
              have hm2 : p < dk.size := by omega
              have hsw := Lib.hid ((HSq.out.swp (i := m) (j := p) hm1 hm2).drew)
              have hsz2 := Lib.hid ((size_sw dk m p).trans hds.out)
              have hem : Hid (m - 1 = p) := by show _ = _; have := HP.out; omega
              have hne1 : ¬ m = p := by omega
              have hne2 : ¬ p = m := by omega
              have e3 : (m : Int) - 1 = (p : Int) := by have := HP.out; omega
              clear hdz hm1 hm2
              generalize hxm : dk[m]! = xm at cm hsw
              generalize hxp : dk[p]! = xp at cp hsw
              clear hxm hxp
              have v1 := V1.out; have v2 := V2.out
              go_wp2_with fail
              go_region
              clear v1 v2 cm cp fm fp
              generalize hw3 : World.drew _ = w3
              have HS3 := Lib.hid (show St w blk cap (swp dk m p) w3 by rw [← hw3]; exact hsw.out)
              clear hw3 hsw HSq
              obtain ⟨D1, hD1⟩ : ∃ D1, D1 = swp dk m p := ⟨_, rfl⟩
              rw [← hD1] at HS3 hsz2
              have HD1 := Lib.hid hD1; clear hD1
              obtain ⟨y, hy⟩ : ∃ y, y = m - a := ⟨_, rfl⟩
              obtain ⟨x, hx⟩ : ∃ x, x = b - m := ⟨_, rfl⟩
              have ey : (m : Int) - (a : Int) = (y : Int) := by omega
              have ex : (b : Int) - (m : Int) = (x : Int) := by omega
              have HY := Lib.hid hy; have HX := Lib.hid hx
              have hpn : p ≤ n := by omega
              clear hy hx hneb hd5 hd6 hq1 hq2
              by_cases hy2 : 2 ≤ y
              · have hg1 : decide (2 ≤ y) = true := decide_eq_true hy2
                have hg2 : decide ((2 : Int) ≤ (y : Int)) = true := decide_eq_true (by omega)
                obtain ⟨wo4, rfl⟩ : ∃ wo4 : World, wo4 = w3 := ⟨_, rfl⟩
                go_wp2_with fail
                go_loopw [9] (fun t wr => ∃ (k : Nat) (dj : Array Int), t = .int .i64 (k : Int) ∧ k ≤ p ∧ Hid (dj.size = n) ∧ St w blk cap dj wr ∧ Hid (shiftDown ltInt k dj = shiftDown ltInt p D1)) (fun t _ => (intOf t).toNat)
                case atStart => exact ⟨p, D1, rfl, by omega, hsz2, HS3.out, rfl⟩
                case round =>
                  obtain ⟨k, dj, rfl, hkr, hdj, hSj, heqj⟩ := hrel
                  have HSj := Lib.hid hSj; clear hSj HS3
                  clear hg1 hg2
                  by_cases hk0 : 1 ≤ k
                  · obtain ⟨r, hr1⟩ : ∃ r, k = r + 1 := ⟨k - 1, by omega⟩
                    have hdz := hdj.out
                    have hk1 : decide (1 ≤ k) = true := decide_eq_true hk0
                    have hk2 : decide ((1 : Int) ≤ (k : Int)) = true := decide_eq_true (by omega)
                    have ik : (k : Int) < (n : Int) := by omega
                    have ir : (r : Int) < (n : Int) := by omega
                    have ck := HSj.out.cell (i := k) (by omega)
                    have cr := HSj.out.cell (i := r) (by omega)
                    have fk := HSj.out.frozen k
                    have fr := HSj.out.frozen r
                    have hm1 : k < dj.size := by omega
                    have hm2 : r < dj.size := by omega
                    have hsw := Lib.hid (fun W (h : St w blk cap dj W) => h.swp (i := k) (j := r) hm1 hm2)
                    have hszj := Lib.hid ((size_sw dj k r).trans hdj.out)
                    have hne3 : ¬ k = r := by omega
                    have hne4 : ¬ r = k := by omega
                    have U1 : Hid (IntKind.i64.wrap ((k : Int) - 1) = (r : Int)) := by show _ = _; rw [IntWalk.i64_in _ (by omega)]; omega
                    have U2 : Hid (wrap64 ((k : Int) - 1) = (r : Int)) := by show _ = _; rw [IntWalk.wrap64_in _ (by omega)]; omega
                    have e4 : (k : Int) - 1 = (r : Int) := by omega
                    have hrp : r ≤ p := by omega
                    have hrk : r < k := by omega
                    by_cases hl : ltInt dj[k]! dj[r]! = true
                    · have hg := Lib.hid (sd_go hr1 hl)
                      have HR := Lib.hid hr1
                      clear hdz hm1 hm2 hr1
                      generalize hxm : dj[k]! = xk at hl ck hsw
                      generalize hxp : dj[r]! = xr at hl cr hsw
                      clear hxm hxp
                      have u1 := U1.out; have u2 := U2.out
                      go_wp2_with fail
                      go_quiet ((go_at_call 59; exact Calls.quiet_of_same (less_is hl _)))
                      go_wp2_with fail
                      go_region
                      clear u1 u2
                      go_wp2
                      exact ⟨⟨r, swp dj k r, rfl, hrp, hszj, hsw.out _ (HSj.out.drewN _), hg.out.symm.trans heqj.out⟩, by simp [intOf] <;> omega⟩
                    · rw [Bool.not_eq_true] at hl
                      have HE2 := Lib.hid ((sd_no hr1 hl).symm.trans heqj.out)
                      have HR2 := Lib.hid hr1
                      clear hdz hm1 hm2 hr1
                      generalize hxm : dj[k]! = xk at hl ck
                      generalize hxp : dj[r]! = xr at hl cr
                      clear hxm hxp
                      have u1 := U1.out; have u2 := U2.out
                      go_wp2_with fail
                      go_quiet ((go_at_call 59; exact Calls.quiet_of_same (less_is hl _)))
                      clear u1 u2 e4 ck cr fk fr hl hk1 hk2
                      generalize hwj : wr.drewN _ = wcur
                      have HS2 := Lib.hid (show St w blk cap dj wcur by rw [← hwj]; exact HSj.out.drewN _)
                      clear hwj HSj hsw
                      obtain ⟨D2, hD2⟩ : ∃ D2, D2 = dj := ⟨_, rfl⟩
                      rw [← hD2] at HS2 hdj HE2
                      have hsz3 := hdj
                      clear hD2 hdj heqj hszj
                      by_cases hx2 : 2 ≤ x
                      · have hg1 : decide (2 ≤ x) = true := decide_eq_true hx2
                        have hg2 : decide ((2 : Int) ≤ (x : Int)) = true := decide_eq_true (by omega)
                        obtain ⟨wo5, rfl⟩ : ∃ wo5 : World, wo5 = wcur := ⟨_, rfl⟩
                        go_wp2_with fail
                        go_loopw [10] (fun t wr => ∃ (k : Nat) (dj : Array Int), t = .int .i64 (k : Int) ∧ (m + 1 ≤ k ∧ k ≤ b) ∧ Hid (dj.size = n) ∧ St w blk cap dj wr ∧ Hid (shiftUp ltInt b k dj = shiftUp ltInt b (m + 1) D2)) (fun t _ => b - (intOf t).toNat)
                        case atStart => exact ⟨m + 1, D2, by go_num, by have := HX.out; omega, hsz3, HS2.out, rfl⟩
                        case round =>
                          obtain ⟨k, dj, rfl, hkr, hdj, hSj, heqj⟩ := hrel
                          have HSj := Lib.hid hSj; clear hSj
                          obtain ⟨r, hr1⟩ : ∃ r, k = r + 1 := ⟨k - 1, by omega⟩
                          by_cases hkb : k < b
                          · have hdz := hdj.out
                            have hk1 : decide (k < b) = true := decide_eq_true hkb
                            have hk2 : decide ((k : Int) < (b : Int)) = true := decide_eq_true (by omega)
                            have ik : (k : Int) < (n : Int) := by omega
                            have ir : (r : Int) < (n : Int) := by omega
                            have ck := HSj.out.cell (i := k) (by omega)
                            have cr := HSj.out.cell (i := r) (by omega)
                            have fk := HSj.out.frozen k
                            have fr := HSj.out.frozen r
                            have hm1 : k < dj.size := by omega
                            have hm2 : r < dj.size := by omega
                            have hsw := Lib.hid (fun W (h : St w blk cap dj W) => h.swp (i := k) (j := r) hm1 hm2)
                            have hszj := Lib.hid ((size_sw dj k r).trans hdj.out)
                            have hne1 : ¬ k = r := by omega
                            have hne2 : ¬ r = k := by omega
                            have U1 : Hid (IntKind.i64.wrap ((k : Int) - 1) = (r : Int)) := by show _ = _; rw [IntWalk.i64_in _ (by omega)]; omega
                            have U2 : Hid (wrap64 ((k : Int) - 1) = (r : Int)) := by show _ = _; rw [IntWalk.wrap64_in _ (by omega)]; omega
                            by_cases hl : ltInt dj[k]! dj[r]! = true
                            · have hg := Lib.hid (su_go hr1 hkb hl)
                              have HR := Lib.hid hr1
                              clear hdz hm1 hm2 hr1
                              generalize hxm : dj[k]! = xk at hl ck hsw
                              generalize hxp : dj[r]! = xr at hl cr hsw
                              clear hxm hxp
                              have u1 := U1.out; have u2 := U2.out
                              go_wp2_with fail
                              go_quiet ((go_at_call 59; exact Calls.quiet_of_same (less_is hl _)))
                              go_wp2_with fail
                              go_region
                              clear u1 u2
                              go_wp2
                              exact ⟨⟨k + 1, swp dj k r, by go_num, by omega, hszj, hsw.out _ (HSj.out.drewN _), hg.out.symm.trans heqj.out⟩, by simp [intOf] <;> omega⟩
                            · rw [Bool.not_eq_true] at hl
                              have HE := Lib.hid ((su_no hr1 (.inr hl)).symm.trans heqj.out)
                              have HR := Lib.hid hr1
                              clear hdz hm1 hm2 hr1
                              generalize hxm : dj[k]! = xk at hl ck
                              generalize hxp : dj[r]! = xr at hl cr
                              clear hxm hxp
                              have u1 := U1.out; have u2 := U2.out
                              go_wp2_with fail
                              go_quiet ((go_at_call 59; exact Calls.quiet_of_same (less_is hl _)))
                              clear u1 u2
                              generalize hwj : wr.drewN _ = wj
                              have HSx := Lib.hid (show St w blk cap dj wj by rw [← hwj]; exact HSj.out.drewN _)
                              clear hwj
                              go_wp2
                              refine ⟨⟨m, s1, st + 1, dj, rfl, by go_num, hst1.out, by omega, by omega, hdj, HSx.out, ?_⟩, by simp [intOf] <;> omega⟩
                              exact (hgo.out D2 dj (by rw [if_pos (by have := HY.out; omega), hem.out, ← HD1.out]; exact HE2.out) (by rw [if_pos (by have := HX.out; omega)]; exact HE.out)).symm.trans heq.out
                          · have HE := Lib.hid ((su_no hr1 (.inl hkb)).symm.trans heqj.out)
                            have hk1 : decide (k < b) = false := decide_eq_false hkb
                            have hk2 : decide ((k : Int) < (b : Int)) = false := decide_eq_false (by omega)
                            have HR := Lib.hid hr1
                            clear hr1
                            go_wp2
                            refine ⟨⟨m, s1, st + 1, dj, rfl, by go_num, hst1.out, by omega, by omega, hdj, HSj.out, ?_⟩, by simp [intOf] <;> omega⟩
                            exact (hgo.out D2 dj (by rw [if_pos (by have := HY.out; omega), hem.out, ← HD1.out]; exact HE2.out) (by rw [if_pos (by have := HX.out; omega)]; exact HE.out)).symm.trans heq.out
                      · have hg1 : decide (2 ≤ x) = false := decide_eq_false hx2
                        have hg2 : decide ((2 : Int) ≤ (x : Int)) = false := decide_eq_false (by omega)
                        go_wp2
                        refine ⟨⟨m, s1, st + 1, D2, rfl, by go_num, hst1.out, by omega, by omega, hsz3, HS2.out, ?_⟩, by simp [intOf] <;> omega⟩
                        exact (hgo.out D2 D2 (by rw [if_pos (by have := HY.out; omega), hem.out, ← HD1.out]; exact HE2.out) (by rw [if_neg (by have := HX.out; omega)])).symm.trans heq.out
                  · have hk00 : k = 0 := by omega
                    have HE2 := Lib.hid (show dj = shiftDown ltInt p D1 by rw [← heqj.out, hk00]; rfl)
                    have hk1 : decide (1 ≤ k) = false := decide_eq_false hk0
                    have hk2 : decide ((1 : Int) ≤ (k : Int)) = false := decide_eq_false (by omega)
                    have HK0 := Lib.hid hk00; clear hk00
                    obtain ⟨wcur, rfl⟩ : ∃ wcur : World, wcur = wr := ⟨_, rfl⟩
                    have HS2 := HSj
                    obtain ⟨D2, hD2⟩ : ∃ D2, D2 = dj := ⟨_, rfl⟩
                    rw [← hD2] at HS2 hdj HE2
                    have hsz3 := hdj
                    clear hD2 hdj heqj HSj
                    by_cases hx2 : 2 ≤ x
                    · have hg1 : decide (2 ≤ x) = true := decide_eq_true hx2
                      have hg2 : decide ((2 : Int) ≤ (x : Int)) = true := decide_eq_true (by omega)
                      obtain ⟨wo5, rfl⟩ : ∃ wo5 : World, wo5 = wcur := ⟨_, rfl⟩
                      go_wp2_with fail
                      go_loopw [10] (fun t wr => ∃ (k : Nat) (dj : Array Int), t = .int .i64 (k : Int) ∧ (m + 1 ≤ k ∧ k ≤ b) ∧ Hid (dj.size = n) ∧ St w blk cap dj wr ∧ Hid (shiftUp ltInt b k dj = shiftUp ltInt b (m + 1) D2)) (fun t _ => b - (intOf t).toNat)
                      case atStart => exact ⟨m + 1, D2, by go_num, by have := HX.out; omega, hsz3, HS2.out, rfl⟩
                      case round =>
                        obtain ⟨k, dj, rfl, hkr, hdj, hSj, heqj⟩ := hrel
                        have HSj := Lib.hid hSj; clear hSj
                        obtain ⟨r, hr1⟩ : ∃ r, k = r + 1 := ⟨k - 1, by omega⟩
                        by_cases hkb : k < b
                        · have hdz := hdj.out
                          have hk1 : decide (k < b) = true := decide_eq_true hkb
                          have hk2 : decide ((k : Int) < (b : Int)) = true := decide_eq_true (by omega)
                          have ik : (k : Int) < (n : Int) := by omega
                          have ir : (r : Int) < (n : Int) := by omega
                          have ck := HSj.out.cell (i := k) (by omega)
                          have cr := HSj.out.cell (i := r) (by omega)
                          have fk := HSj.out.frozen k
                          have fr := HSj.out.frozen r
                          have hm1 : k < dj.size := by omega
                          have hm2 : r < dj.size := by omega
                          have hsw := Lib.hid (fun W (h : St w blk cap dj W) => h.swp (i := k) (j := r) hm1 hm2)
                          have hszj := Lib.hid ((size_sw dj k r).trans hdj.out)
                          have hne1 : ¬ k = r := by omega
                          have hne2 : ¬ r = k := by omega
                          have U1 : Hid (IntKind.i64.wrap ((k : Int) - 1) = (r : Int)) := by show _ = _; rw [IntWalk.i64_in _ (by omega)]; omega
                          have U2 : Hid (wrap64 ((k : Int) - 1) = (r : Int)) := by show _ = _; rw [IntWalk.wrap64_in _ (by omega)]; omega
                          by_cases hl : ltInt dj[k]! dj[r]! = true
                          · have hg := Lib.hid (su_go hr1 hkb hl)
                            have HR := Lib.hid hr1
                            clear hdz hm1 hm2 hr1
                            generalize hxm : dj[k]! = xk at hl ck hsw
                            generalize hxp : dj[r]! = xr at hl cr hsw
                            clear hxm hxp
                            have u1 := U1.out; have u2 := U2.out
                            go_wp2_with fail
                            go_quiet ((go_at_call 59; exact Calls.quiet_of_same (less_is hl _)))
                            go_wp2_with fail
                            go_region
                            clear u1 u2
                            go_wp2
                            exact ⟨⟨k + 1, swp dj k r, by go_num, by omega, hszj, hsw.out _ (HSj.out.drewN _), hg.out.symm.trans heqj.out⟩, by simp [intOf] <;> omega⟩
                          · rw [Bool.not_eq_true] at hl
                            have HE := Lib.hid ((su_no hr1 (.inr hl)).symm.trans heqj.out)
                            have HR := Lib.hid hr1
                            clear hdz hm1 hm2 hr1
                            generalize hxm : dj[k]! = xk at hl ck
                            generalize hxp : dj[r]! = xr at hl cr
                            clear hxm hxp
                            have u1 := U1.out; have u2 := U2.out
                            go_wp2_with fail
                            go_quiet ((go_at_call 59; exact Calls.quiet_of_same (less_is hl _)))
                            clear u1 u2
                            generalize hwj : wr.drewN _ = wj
                            have HSx := Lib.hid (show St w blk cap dj wj by rw [← hwj]; exact HSj.out.drewN _)
                            clear hwj
                            go_wp2
                            refine ⟨⟨m, s1, st + 1, dj, rfl, by go_num, hst1.out, by omega, by omega, hdj, HSx.out, ?_⟩, by simp [intOf] <;> omega⟩
                            exact (hgo.out D2 dj (by rw [if_pos (by have := HY.out; omega), hem.out, ← HD1.out]; exact HE2.out) (by rw [if_pos (by have := HX.out; omega)]; exact HE.out)).symm.trans heq.out
                        · have HE := Lib.hid ((su_no hr1 (.inl hkb)).symm.trans heqj.out)
                          have hk1 : decide (k < b) = false := decide_eq_false hkb
                          have hk2 : decide ((k : Int) < (b : Int)) = false := decide_eq_false (by omega)
                          have HR := Lib.hid hr1
                          clear hr1
                          go_wp2
                          refine ⟨⟨m, s1, st + 1, dj, rfl, by go_num, hst1.out, by omega, by omega, hdj, HSj.out, ?_⟩, by simp [intOf] <;> omega⟩
                          exact (hgo.out D2 dj (by rw [if_pos (by have := HY.out; omega), hem.out, ← HD1.out]; exact HE2.out) (by rw [if_pos (by have := HX.out; omega)]; exact HE.out)).symm.trans heq.out
                    · have hg1 : decide (2 ≤ x) = false := decide_eq_false hx2
                      have hg2 : decide ((2 : Int) ≤ (x : Int)) = false := decide_eq_false (by omega)
                      go_wp2
                      refine ⟨⟨m, s1, st + 1, D2, rfl, by go_num, hst1.out, by omega, by omega, hsz3, HS2.out, ?_⟩, by simp [intOf] <;> omega⟩
                      exact (hgo.out D2 D2 (by rw [if_pos (by have := HY.out; omega), hem.out, ← HD1.out]; exact HE2.out) (by rw [if_neg (by have := HX.out; omega)])).symm.trans heq.out
              · have hg1 : decide (2 ≤ y) = false := decide_eq_false hy2
                have hg2 : decide ((2 : Int) ≤ (y : Int)) = false := decide_eq_false (by omega)
                obtain ⟨wcur, rfl⟩ : ∃ wcur : World, wcur = w3 := ⟨_, rfl⟩
                by_cases hx2 : 2 ≤ x
                · have hg1 : decide (2 ≤ x) = true := decide_eq_true hx2
                  have hg2 : decide ((2 : Int) ≤ (x : Int)) = true := decide_eq_true (by omega)
                  obtain ⟨wo5, rfl⟩ : ∃ wo5 : World, wo5 = wcur := ⟨_, rfl⟩
                  go_wp2_with fail
                  go_loopw [10] (fun t wr => ∃ (k : Nat) (dj : Array Int), t = .int .i64 (k : Int) ∧ (m + 1 ≤ k ∧ k ≤ b) ∧ Hid (dj.size = n) ∧ St w blk cap dj wr ∧ Hid (shiftUp ltInt b k dj = shiftUp ltInt b (m + 1) D1)) (fun t _ => b - (intOf t).toNat)
                  case atStart => exact ⟨m + 1, D1, by go_num, by have := HX.out; omega, hsz2, HS3.out, rfl⟩
                  case round =>
                    obtain ⟨k, dj, rfl, hkr, hdj, hSj, heqj⟩ := hrel
                    have HSj := Lib.hid hSj; clear hSj
                    obtain ⟨r, hr1⟩ : ∃ r, k = r + 1 := ⟨k - 1, by omega⟩
                    by_cases hkb : k < b
                    · have hdz := hdj.out
                      have hk1 : decide (k < b) = true := decide_eq_true hkb
                      have hk2 : decide ((k : Int) < (b : Int)) = true := decide_eq_true (by omega)
                      have ik : (k : Int) < (n : Int) := by omega
                      have ir : (r : Int) < (n : Int) := by omega
                      have ck := HSj.out.cell (i := k) (by omega)
                      have cr := HSj.out.cell (i := r) (by omega)
                      have fk := HSj.out.frozen k
                      have fr := HSj.out.frozen r
                      have hm1 : k < dj.size := by omega
                      have hm2 : r < dj.size := by omega
                      have hsw := Lib.hid (fun W (h : St w blk cap dj W) => h.swp (i := k) (j := r) hm1 hm2)
                      have hszj := Lib.hid ((size_sw dj k r).trans hdj.out)
                      have hne1 : ¬ k = r := by omega
                      have hne2 : ¬ r = k := by omega
                      have U1 : Hid (IntKind.i64.wrap ((k : Int) - 1) = (r : Int)) := by show _ = _; rw [IntWalk.i64_in _ (by omega)]; omega
                      have U2 : Hid (wrap64 ((k : Int) - 1) = (r : Int)) := by show _ = _; rw [IntWalk.wrap64_in _ (by omega)]; omega
                      by_cases hl : ltInt dj[k]! dj[r]! = true
                      · have hg := Lib.hid (su_go hr1 hkb hl)
                        have HR := Lib.hid hr1
                        clear hdz hm1 hm2 hr1
                        generalize hxm : dj[k]! = xk at hl ck hsw
                        generalize hxp : dj[r]! = xr at hl cr hsw
                        clear hxm hxp
                        have u1 := U1.out; have u2 := U2.out
                        go_wp2_with fail
                        go_quiet ((go_at_call 59; exact Calls.quiet_of_same (less_is hl _)))
                        go_wp2_with fail
                        go_region
                        clear u1 u2
                        go_wp2
                        exact ⟨⟨k + 1, swp dj k r, by go_num, by omega, hszj, hsw.out _ (HSj.out.drewN _), hg.out.symm.trans heqj.out⟩, by simp [intOf] <;> omega⟩
                      · rw [Bool.not_eq_true] at hl
                        have HE := Lib.hid ((su_no hr1 (.inr hl)).symm.trans heqj.out)
                        have HR := Lib.hid hr1
                        clear hdz hm1 hm2 hr1
                        generalize hxm : dj[k]! = xk at hl ck
                        generalize hxp : dj[r]! = xr at hl cr
                        clear hxm hxp
                        have u1 := U1.out; have u2 := U2.out
                        go_wp2_with fail
                        go_quiet ((go_at_call 59; exact Calls.quiet_of_same (less_is hl _)))
                        clear u1 u2
                        generalize hwj : wr.drewN _ = wj
                        have HSx := Lib.hid (show St w blk cap dj wj by rw [← hwj]; exact HSj.out.drewN _)
                        clear hwj
                        go_wp2
                        refine ⟨⟨m, s1, st + 1, dj, rfl, by go_num, hst1.out, by omega, by omega, hdj, HSx.out, ?_⟩, by simp [intOf] <;> omega⟩
                        exact (hgo.out D1 dj (by rw [if_neg (by have := HY.out; omega), hem.out]; exact HD1.out) (by rw [if_pos (by have := HX.out; omega)]; exact HE.out)).symm.trans heq.out
                    · have HE := Lib.hid ((su_no hr1 (.inl hkb)).symm.trans heqj.out)
                      have hk1 : decide (k < b) = false := decide_eq_false hkb
                      have hk2 : decide ((k : Int) < (b : Int)) = false := decide_eq_false (by omega)
                      have HR := Lib.hid hr1
                      clear hr1
                      go_wp2
                      refine ⟨⟨m, s1, st + 1, dj, rfl, by go_num, hst1.out, by omega, by omega, hdj, HSj.out, ?_⟩, by simp [intOf] <;> omega⟩
                      exact (hgo.out D1 dj (by rw [if_neg (by have := HY.out; omega), hem.out]; exact HD1.out) (by rw [if_pos (by have := HX.out; omega)]; exact HE.out)).symm.trans heq.out
                · have hg1 : decide (2 ≤ x) = false := decide_eq_false hx2
                  have hg2 : decide ((2 : Int) ≤ (x : Int)) = false := decide_eq_false (by omega)
                  go_wp2
                  refine ⟨⟨m, s1, st + 1, D1, rfl, by go_num, hst1.out, by omega, by omega, hsz2, HS3.out, ?_⟩, by simp [intOf] <;> omega⟩
                  exact (hgo.out D1 D1 (by rw [if_neg (by have := HY.out; omega), hem.out]; exact HD1.out) (by rw [if_neg (by have := HX.out; omega)])).symm.trans heq.out
        · have hmb : m = b := by omega
          have HM := Lib.hid ((ss_no hp (.inl hle)).symm.trans heqm.out)
          have hdd1 : decide (m < b) = false := decide_eq_false hle
          have hdd2 : decide ((m : Int) < (b : Int)) = false := decide_eq_false (by omega)
          have hneb : ((m : Int) == (b : Int)) = true := beq_iff_eq.2 (by omega)
          have hend := Lib.hid (pi_true (a := a) (s := s1) HM.out hmb)
          have HP := Lib.hid hp; have HMB := Lib.hid hmb; clear hp hmb
          go_wp2_with fail
          go_quiet (fail)
          go_wp2
          go_ret
          exact ⟨by rw [← heq.out, hend.out]; rfl, by rw [← heq.out, hend.out]; exact HSm.out.drewN _⟩
    · have hq1 : decide (st < 5) = false := decide_eq_false hs0
      have hq2 : decide ((st : Int) < 5) = false := decide_eq_false (by omega)
      have h0 : Hid (s = 0) := by show _ = _; have := hst.out; omega
      have hend : Hid (partialIns ltInt a b s i dk = (dk, false)) := by show _ = _; rw [h0.out]; rfl
      go_wp2
      go_ret
      exact ⟨by rw [← heq.out, hend.out]; rfl, by rw [← heq.out, hend.out]; exact HS.out⟩
end Go.Proofs.Ytaaijgalminafaa
