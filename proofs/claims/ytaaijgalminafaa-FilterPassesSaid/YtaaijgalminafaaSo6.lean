import Derived.ChangeAlike
import Derived.Test.YtaaijgalminafaaSo4
import Derived.Test.YtaaijgalminafaaSo3
/-
  slices.Sort at uint32: heapSort.
-/
namespace Go.Proofs.Ytaaijgalminafaa
open Go.RowKit Go.Sort

theorem heapBuild_size (hi first : Nat) : ∀ (k : Nat) (d : Array Int), (∀ (r : Nat) (d : Array Int), (siftDown ltInt hi first r d).size = d.size) → (heapBuild ltInt hi first k d).size = d.size
  | 0, _, _ => rfl
  | k + 1, d, h => by rw [heapBuild, heapBuild_size hi first k _ h, h]
theorem sift_size (hi first : Nat) : ∀ (m r : Nat) (d : Array Int), hi - r ≤ m → (siftDown ltInt hi first r d).size = d.size
  | 0, r, d, h => by rw [sift_end (by omega)]
  | m + 1, r, d, h => by
    by_cases h1 : 2 * r + 1 ≥ hi
    · rw [sift_end h1]
    · by_cases h2 : 2 * r + 2 < hi ∧ ltInt d[first + (2 * r + 1)]! d[first + (2 * r + 1) + 1]! = true
      · rw [sift_two h1 h2.1 h2.2 rfl]
        split
        · rw [sift_size hi first m _ _ (by omega), size_sw]
        · rfl
      · rw [sift_one h1 (by rcases Decidable.not_and_iff_not_or_not.1 h2 with h3 | h3; exact .inl h3; exact .inr (by simpa using h3)) rfl]
        split
        · rw [sift_size hi first m _ _ (by omega), size_sw]
        · rfl

set_option maxHeartbeats 1600000 in
set_option maxRecDepth 100000 in
theorem heapSort_any (blk cap n : Nat) (d : Array Int) (a b : Nat) (w : World) (hL : Ls w blk cap d) (hn : d.size = n) (hab : a < b) (hb : b ≤ n) (hsz : n ≤ 1000000) :
    Calls Try.prog 54 #[.slice (some ⟨blk, 0, none⟩) n cap, .int .i64 (a : Int), .int .i64 (b : Int)] w fun e w' => e = .returned (.tuple #[]) ∧ St w blk cap (heapSort ltInt d a b) w' := by
  have HN := Lib.hid hn; clear hn
  have HL := Lib.hid hL; clear hL
  obtain ⟨hi, hhi⟩ : ∃ hi, hi = b - a := ⟨_, rfl⟩
  obtain ⟨k0, hk0⟩ : ∃ k, k = (hi - 1) / 2 := ⟨_, rfl⟩
  have e0 : (b : Int) - (a : Int) = (hi : Int) := by omega
  have e1 : Hid (((hi : Int) - 1) / 2 = (k0 : Int)) := by show _ = _; omega
  have b0 : 1 ≤ hi := by omega
  have b1 : a + hi ≤ n := by omega
  have b2 : k0 ≤ n := by omega
  have hpu : Hid (heapSort ltInt d a b = heapPop ltInt a hi (heapBuild ltInt hi a (k0 + 1) d)) := by
    show _ = _
    unfold heapSort
    rw [← hhi, ← hk0]
  have HH := Lib.hid hhi; have HK := Lib.hid hk0
  clear hhi hk0
  go_enter Try.func54, Try.ntmps54
  go_wp2_with fail
  go_loopw [9] (fun s wr => ∃ (z : Int) (k : Nat) (dk : Array Int), s = .int .i64 z ∧ Hid (z + 1 = (k : Int)) ∧ -1 ≤ z ∧ z ≤ 1000000 ∧ k ≤ k0 + 1 ∧ Hid (dk.size = n) ∧ St w blk cap dk wr ∧ Hid (heapBuild ltInt hi a k dk = heapBuild ltInt hi a (k0 + 1) d)) (fun s _ => (intOf s + 1).toNat)
  case atStart => exact ⟨(k0 : Int), k0 + 1, d, by rw [e1.out], by show _ = _; omega, by omega, by omega, by omega, HN, HL.out.st, rfl⟩
  case round =>
    obtain ⟨z, k, dk, rfl, hzk, hz1, hz2, hk, hds, hS, heq⟩ := hrel
    have HS := Lib.hid hS; clear hS
    by_cases h0 : 0 ≤ z
    · obtain ⟨kk, rfl⟩ := Int.eq_ofNat_of_zero_le h0
      have hkk : Hid (k = kk + 1) := by show _ = _; have := hzk.out; omega
      have hd : decide ((0 : Int) ≤ (kk : Int)) = true := decide_eq_true h0
      have hkn : kk ≤ n := by have := hkk.out; omega
      go_wp2_with fail
      refine (siftDown_any blk cap n dk kk hi a wr HS.out.l hds.out b1 hkn hsz).mono ?_
      rintro e w2 ⟨rfl, hS2⟩
      have HS2 := Lib.hid (HS.out.trans hS2)
      clear hS2
      go_wp2
      refine ⟨⟨(kk : Int) - 1, kk, siftDown ltInt hi a kk dk, rfl, by show _ = _; omega, by omega, by omega, by have := hkk.out; omega, (sift_size hi a hi kk dk (by omega)).trans hds.out, HS2.out, ?_⟩, by simp [intOf] <;> omega⟩
      show _ = _
      rw [← heq.out, hkk.out]; rfl
    · have hk0 : Hid (k = 0) := by show _ = _; have := hzk.out; omega
      have hd : decide ((0 : Int) ≤ z) = false := decide_eq_false h0
      have hpb : Hid (dk = heapBuild ltInt hi a (k0 + 1) d) := by show _ = _; rw [← heq.out, hk0.out]; rfl
      generalize heapBuild ltInt hi a (k0 + 1) d = d1 at *
      obtain ⟨wo, rfl⟩ : ∃ wo : World, wo = wr := ⟨_, rfl⟩
      have hs1 : Hid (d1.size = n) := by show _ = _; rw [← hpb.out]; exact hds.out
      have HS1 := Lib.hid (show St w blk cap d1 wo by rw [← hpb.out]; exact HS.out)
      clear HS hds heq hpb hzk hk0
      go_wp2
      go_loopw [10] (fun s wr => ∃ (z : Int) (k : Nat) (dk : Array Int), s = .int .i64 z ∧ Hid (z + 1 = (k : Int)) ∧ -1 ≤ z ∧ z ≤ 1000000 ∧ k ≤ hi ∧ Hid (dk.size = n) ∧ St w blk cap dk wr ∧ Hid (heapPop ltInt a k dk = heapPop ltInt a hi d1)) (fun s _ => (intOf s + 1).toNat)
      case atStart => exact ⟨(hi : Int) - 1, hi, d1, rfl, by show _ = _; omega, by omega, by omega, by omega, hs1, HS1.out, rfl⟩
      case round =>
        obtain ⟨z, k, dk, rfl, hzk, hz1, hz2, hk, hds, hS, heq⟩ := hrel
        clear HS1
        have HS := Lib.hid hS; clear hS
        by_cases h0 : 0 ≤ z
        · obtain ⟨kk, rfl⟩ := Int.eq_ofNat_of_zero_le h0
          have hkk : Hid (k = kk + 1) := by show _ = _; have := hzk.out; omega
          have hd : decide ((0 : Int) ≤ (kk : Int)) = true := decide_eq_true h0
          obtain ⟨p, hp⟩ : ∃ p, p = a + kk := ⟨_, rfl⟩
          have hpn : p < n := by have := hkk.out; omega
          have han : a < n := by omega
          have hkh : a + kk ≤ n := by have := hkk.out; omega
          have ip : (p : Int) < (n : Int) := by omega
          have ia : (a : Int) < (n : Int) := by omega
          have hdz := hds.out
          have ca := HS.out.cell (i := a) (by omega)
          have cp := HS.out.cell (i := p) (by omega)
          have fa := HS.out.frozen a
          have fp := HS.out.frozen p
          have hm1 : a < dk.size := by omega
          have hm2 : p < dk.size := by omega
          have hsw := Lib.hid (fun W (h : St w blk cap dk W) => (h.swp (i := a) (j := p) hm1 hm2).drew)
          have hsz2 := Lib.hid ((size_sw dk a p).trans hds.out)
          have e2 : (a : Int) + (kk : Int) = (p : Int) := by omega
          have HP := Lib.hid hp
          have hst : Hid (heapPop ltInt a k dk = heapPop ltInt a kk (siftDown ltInt kk a 0 (swp dk a p))) := by show _ = _; rw [hkk.out, hp]; rfl
          have V1 : Hid (IntKind.i64.wrap ((a : Int) + (kk : Int)) = (p : Int)) := by show _ = _; rw [IntWalk.i64_in _ (by omega)]; omega
          clear hdz hm1 hm2 hp
          by_cases hap : p = a
          · subst hap
            generalize dk[p]! = x at *
            go_wp2_with fail
            have v1 := V1.out
            go_region
            clear v1
            go_wp2_with fail
            refine (siftDown_any blk cap n (swp dk p p) 0 kk p _ (hsw.out wr HS.out).l hsz2.out hkh (by omega) hsz).mono ?_
            rintro e w2 ⟨rfl, hS2⟩
            have HS2 := Lib.hid ((hsw.out wr HS.out).trans hS2)
            clear hS2
            go_wp2
            refine ⟨⟨(kk : Int) - 1, kk, siftDown ltInt kk p 0 (swp dk p p), rfl, by show _ = _; omega, by omega, by omega, by have := hkk.out; omega, (sift_size kk p kk 0 _ (by omega)).trans hsz2.out, HS2.out, ?_⟩, by simp [intOf] <;> omega⟩
            show _ = _
            rw [← heq.out, hst.out]
          · have hap2 : ¬ a = p := fun e => hap e.symm
            generalize dk[a]! = x at *
            generalize dk[p]! = y at *
            go_wp2_with fail
            have v1 := V1.out
            go_region
            clear v1
            go_wp2_with fail
            refine (siftDown_any blk cap n (swp dk a p) 0 kk a _ (hsw.out wr HS.out).l hsz2.out hkh (by omega) hsz).mono ?_
            rintro e w2 ⟨rfl, hS2⟩
            have HS2 := Lib.hid ((hsw.out wr HS.out).trans hS2)
            clear hS2
            go_wp2
            refine ⟨⟨(kk : Int) - 1, kk, siftDown ltInt kk a 0 (swp dk a p), rfl, by show _ = _; omega, by omega, by omega, by have := hkk.out; omega, (sift_size kk a kk 0 _ (by omega)).trans hsz2.out, HS2.out, ?_⟩, by simp [intOf] <;> omega⟩
            show _ = _
            rw [← heq.out, hst.out]
        · have hk0 : Hid (k = 0) := by show _ = _; have := hzk.out; omega
          have hd : decide ((0 : Int) ≤ z) = false := decide_eq_false h0
          have hpb : Hid (heapPop ltInt a k dk = dk) := by show _ = _; rw [hk0.out]; rfl
          go_wp2
          go_end0
          exact ⟨rfl, by rw [hpu.out, ← heq.out, hpb.out]; exact HS.out⟩
end Go.Proofs.Ytaaijgalminafaa
/-
  slices.Sort at uint32: partitionEqual (printed by gen_so6.py).
-/
namespace Go.Proofs.Ytaaijgalminafaa
open Go.RowKit Go.Sort

theorem scanUp_g (p : Int → Bool) (d : Array Int) (j i : Nat) (h : i ≤ j) (hp : p d[i]! = true) : scanUp p d j i = scanUp p d j (i + 1) := by
  conv => lhs; rw [scanUp, if_pos (by simp [h, hp])]
theorem scanUp_e (p : Int → Bool) (d : Array Int) (j i : Nat) (h : ¬ i ≤ j ∨ p d[i]! = false) : scanUp p d j i = i := by
  rw [scanUp, if_neg (by rcases h with h | h <;> simp [h])]
theorem scanDown_g (p : Int → Bool) (d : Array Int) (i j : Nat) (h : i ≤ j) (h0 : 0 < j) (hp : p d[j]! = true) : scanDown p d i j = scanDown p d i (j - 1) := by
  obtain ⟨k, rfl⟩ : ∃ k, j = k + 1 := ⟨j - 1, by omega⟩
  conv => lhs; rw [scanDown, if_pos (by simp [h, hp])]
  rfl
theorem scanDown_e (p : Int → Bool) (d : Array Int) (i j : Nat) (h : ¬ i ≤ j ∨ p d[j]! = false) : scanDown p d i j = j := by
  cases j with
  | zero => rfl
  | succ k => rw [scanDown, if_neg (by rcases h with h | h <;> simp [h])]
theorem pe_end {a i j i2 j2 : Nat} {d : Array Int} (hi : i2 = scanUp (fun x => !ltInt d[a]! x) d j i) (hj : j2 = scanDown (fun x => ltInt d[a]! x) d i2 j) (h : i2 > j2) : partEqLoop ltInt a i j d = (i2, d) := by
  rw [partEqLoop]
  simp only [← hi, ← hj]
  rw [if_pos h]
theorem pe_go {a i j i2 j2 : Nat} {d : Array Int} (hi : i2 = scanUp (fun x => !ltInt d[a]! x) d j i) (hj : j2 = scanDown (fun x => ltInt d[a]! x) d i2 j) (h : ¬ i2 > j2) : partEqLoop ltInt a i j d = partEqLoop ltInt a (i2 + 1) (j2 - 1) (swp d i2 j2) := by
  have g := partEqLoop_guard (lt := ltInt) a i j d (by rw [← hi, ← hj]; exact h)
  rw [← hi, ← hj] at g
  conv => lhs; rw [partEqLoop]
  simp only [← hi, ← hj]
  rw [if_neg h, dif_pos g]

set_option maxHeartbeats 6400000 in
set_option maxRecDepth 100000 in
theorem partitionEqual_any (blk cap n : Nat) (d : Array Int) (a b pv : Nat) (w : World) (hL : Ls w blk cap d) (hn : d.size = n) (hab : a ≤ pv) (hpb : pv < b) (hb : b ≤ n) (hsz : n ≤ 1000000) :
    Calls Try.prog 60 #[.slice (some ⟨blk, 0, none⟩) n cap, .int .i64 (a : Int), .int .i64 (b : Int), .int .i64 (pv : Int)] w fun e w' => e = .returned (.int .i64 ((partitionEqual ltInt d a b pv).1 : Int)) ∧ St w blk cap (partitionEqual ltInt d a b pv).2 w' := by
  have ca := hL.cell (i := a) (by omega)
  have cp := hL.cell (i := pv) (by omega)
  have fa := hL.frozen a
  have fp := hL.frozen pv
  have ia : (a : Int) < (n : Int) := by omega
  have ip : (pv : Int) < (n : Int) := by omega
  have hsw := Lib.hid ((hL.st.swp (i := a) (j := pv) (by omega) (by omega)).drew)
  have hds := Lib.hid ((size_sw d a pv).trans hn)
  have HL := Lib.hid hL; have HN := Lib.hid hn
  clear hn hL
  have hpure : Hid (partitionEqual ltInt d a b pv = partEqLoop ltInt a (a + 1) (b - 1) (swp d a pv)) := rfl
  generalize d[a]! = x at *
  generalize d[pv]! = y at *
  obtain ⟨v', hv'⟩ := cell?_setCell_some (w := w) (p := ⟨blk, a, none⟩) (x := .int .u32 y) (q := ⟨blk, pv, none⟩) (v := .int .u32 y) cp
  go_enter Try.func60, Try.ntmps60
  go_wp2_with fail
  go_region
  clear hv' ca cp fa fp
  generalize hw1 : World.drew _ = w1
  have HS1 := Lib.hid (show St w blk cap (swp d a pv) w1 by rw [← hw1]; exact hsw.out)
  clear hw1 hsw
  generalize swp d a pv = d1 at *
  have eb : (b : Int) - 1 = ((b - 1 : Nat) : Int) := by omega
  go_wp2_with fail
  go_loopw [9, 10] (fun s t wr => ∃ (i j : Nat) (dk : Array Int), s = .int .i64 (i : Int) ∧ t = .int .i64 (j : Int) ∧ (a + 1 ≤ i ∧ i ≤ j + 2 ∧ i ≤ n ∧ a ≤ j ∧ j < b) ∧ Hid (dk.size = n) ∧ St w blk cap dk wr ∧ Hid (partEqLoop ltInt a i j dk = partEqLoop ltInt a (a + 1) (b - 1) d1)) (fun s t _ => (intOf t + 1 - intOf s).toNat)
  case atStart => exact ⟨a + 1, b - 1, d1, by go_num, rfl, by omega, hds, HS1.out, rfl⟩
  case round =>
    obtain ⟨i, j, dk, rfl, rfl, hr, hds1, hS, heq⟩ := hrel
    clear hds
    have hds := hds1
    clear hds1 HS1
    have HS := Lib.hid hS; clear hS
    obtain ⟨wo, rfl⟩ : ∃ wo : World, wo = wr := ⟨_, rfl⟩
    clear eb
    obtain ⟨z, hz⟩ : ∃ z, z = dk[a]! := ⟨_, rfl⟩
    have HZ := Lib.hid hz; clear hz
    go_wp2_with fail
    go_loopw [9] (fun s wr => ∃ m : Nat, s = .int .i64 (m : Int) ∧ (i ≤ m ∧ m ≤ j + 2 ∧ m ≤ n) ∧ St w blk cap dk wr ∧ Hid (scanUp (fun x => !ltInt z x) dk j m = scanUp (fun x => !ltInt z x) dk j i)) (fun s _ => j + 1 - (intOf s).toNat)
    case atStart => exact ⟨i, rfl, by omega, HS.out, rfl⟩
    case round =>
      obtain ⟨m, rfl, hmr, hSm, heqm⟩ := hrel
      have HSm := Lib.hid hSm
      clear hSm HS
      have hdz1 := hds.out
      by_cases hle1 : m ≤ j
      · have hdd1 : decide (m ≤ j) = true := decide_eq_true hle1
        have hdd2 : decide ((m : Int) ≤ (j : Int)) = true := decide_eq_true (by omega)
        have him : (m : Int) < (n : Int) := by omega
        have hia : (a : Int) < (n : Int) := by omega
        have cm := HSm.out.cell (i := m) (by omega)
        have ca : wr.cell? ⟨blk, a, none⟩ = some (.int .u32 z) := by rw [HZ.out]; exact HSm.out.cell (i := a) (by omega)
        by_cases hl : ltInt z dk[m]! = false
        · have hst := Lib.hid (scanUp_g ((fun x => !ltInt z x)) dk j m (by omega) (by simp [hl]))
          generalize hxm : dk[m]! = xm at hl cm
          clear hxm hdz1
          go_wp2_with fail
          go_quiet ((go_at_call 59; exact Calls.quiet_of_same (less_is hl _)))
          go_wp2
          exact ⟨⟨m + 1, by go_num, by omega, HSm.out.drewN _, hst.out.symm.trans heqm.out⟩, by simp [intOf] <;> omega⟩
        · have hl1 : ltInt z dk[m]! = true := by rw [Bool.not_eq_false] at hl; exact hl
          clear hl
          have HM1 := Lib.hid ((scanUp_e ((fun x => !ltInt z x)) dk j m (.inr (by simp [hl1]))).symm.trans heqm.out)
          generalize hxm : dk[m]! = xm at hl1 cm
          clear hxm hdz1
          go_wp2_with fail
          go_quiet ((go_at_call 59; exact Calls.quiet_of_same (less_is hl1 _)))
          clear hdd1 hdd2 cm ca hl1 him hia
          generalize hwq : wr.drewN _ = wq1
          have HSq1 := Lib.hid (show St w blk cap dk wq1 by rw [← hwq]; exact HSm.out.drewN _)
          clear hwq HSm
          have HLE1 := Lib.hid hle1; clear hle1
          obtain ⟨i2, rfl⟩ : ∃ i2, i2 = m := ⟨_, rfl⟩
          have HI2 := HM1
          obtain ⟨wo1, rfl⟩ : ∃ wo : World, wo = wq1 := ⟨_, rfl⟩
          clear heqm
          have hle1 := HLE1.out
          go_wp2_with fail

          go_loopw [10] (fun s wr => ∃ m : Nat, s = .int .i64 (m : Int) ∧ (m ≤ j ∧ i2 ≤ m + 2) ∧ St w blk cap dk wr ∧ Hid (scanDown (fun x => ltInt z x) dk i2 m = scanDown (fun x => ltInt z x) dk i2 j)) (fun s _ => (intOf s).toNat)
          case atStart => exact ⟨j, rfl, by omega, HSq1.out, rfl⟩
          case round =>
            obtain ⟨m, rfl, hmr, hSm, heqm⟩ := hrel
            have HSm := Lib.hid hSm
            clear hSm HSq1
            have hdz2 := hds.out
            by_cases hle2 : i2 ≤ m
            · have hdd1 : decide (i2 ≤ m) = true := decide_eq_true hle2
              have hdd2 : decide ((i2 : Int) ≤ (m : Int)) = true := decide_eq_true (by omega)
              have him : (m : Int) < (n : Int) := by omega
              have hia : (a : Int) < (n : Int) := by omega
              have cm := HSm.out.cell (i := m) (by omega)
              have ca : wr.cell? ⟨blk, a, none⟩ = some (.int .u32 z) := by rw [HZ.out]; exact HSm.out.cell (i := a) (by omega)
              by_cases hl : ltInt z dk[m]! = true
              · have hst := Lib.hid (scanDown_g ((fun x => ltInt z x)) dk i2 m (by omega) (by omega) (by simp [hl]))
                generalize hxm : dk[m]! = xm at hl cm
                clear hxm hdz2
                go_wp2_with fail
                go_quiet ((go_at_call 59; exact Calls.quiet_of_same (less_is hl _)))
                go_wp2
                exact ⟨⟨m - 1, by rw [show (m : Int) - 1 = ((m - 1 : Nat) : Int) by omega], by omega, HSm.out.drewN _, hst.out.symm.trans heqm.out⟩, by simp [intOf] <;> omega⟩
              · have hl2 : ltInt z dk[m]! = false := by rw [Bool.not_eq_true] at hl; exact hl
                clear hl
                have HM2 := Lib.hid ((scanDown_e ((fun x => ltInt z x)) dk i2 m (.inr (by simp [hl2]))).symm.trans heqm.out)
                generalize hxm : dk[m]! = xm at hl2 cm
                clear hxm hdz2
                go_wp2_with fail
                go_quiet ((go_at_call 59; exact Calls.quiet_of_same (less_is hl2 _)))
                clear hdd1 hdd2 cm ca hl2 him hia
                generalize hwq : wr.drewN _ = wq2
                have HSq2 := Lib.hid (show St w blk cap dk wq2 by rw [← hwq]; exact HSm.out.drewN _)
                clear hwq HSm
                have HLE2 := Lib.hid hle2; clear hle2
                obtain ⟨j2, rfl⟩ : ∃ j2, j2 = m := ⟨_, rfl⟩
                have HJ2 := HM2
                have hij2 := HLE2.out
                have hgt : ¬ i2 > j2 := by omega
                have hd1 : decide (j2 < i2) = false := decide_eq_false hgt
                have hd2 : decide ((j2 : Int) < (i2 : Int)) = false := decide_eq_false (by omega)
                have hgo := Lib.hid (pe_go (a := a) (i := i) (j := j) (d := dk) (by have h := HI2.out; rw [HZ.out] at h; exact h) (by have h := HJ2.out; rw [HZ.out] at h; exact h) hgt)
                have hdz := hds.out
                have ci := HSq2.out.cell (i := i2) (by omega)
                have cj := HSq2.out.cell (i := j2) (by omega)
                have fi := HSq2.out.frozen i2
                have fj := HSq2.out.frozen j2
                have ii : (i2 : Int) < (n : Int) := by omega
                have ij : (j2 : Int) < (n : Int) := by omega
                have hsw2 := Lib.hid (fun W (h : St w blk cap dk W) => (h.swp (i := i2) (j := j2) (by omega) (by omega)).drew)
                have hsz2 := Lib.hid ((size_sw dk i2 j2).trans hds.out)
                have ej : (j2 : Int) - 1 = ((j2 - 1 : Nat) : Int) := by omega
                have hme : j2 - 1 + 1 - (i2 + 1) < j + 1 - i := by omega
                have hra : a + 1 ≤ i2 + 1 ∧ i2 + 1 ≤ j2 - 1 + 2 ∧ i2 + 1 ≤ n ∧ a ≤ j2 - 1 ∧ j2 - 1 < b := by omega
                clear hdz
                generalize dk[i2]! = x2 at *
                generalize dk[j2]! = y2 at *
                obtain ⟨v', hv'⟩ := cell?_setCell_some (w := wq2) (p := ⟨blk, i2, none⟩) (x := .int .u32 y2) (q := ⟨blk, j2, none⟩) (v := .int .u32 y2) cj
                go_wp2_with fail
                go_region
                clear hv' ci cj fi fj
                go_wp2
                refine ⟨⟨i2 + 1, j2 - 1, swp dk i2 j2, by go_num, rfl, hra, hsz2, hsw2.out _ HSq2.out, hgo.out.symm.trans heq.out⟩, by simp [intOf] <;> omega⟩
            · have hdd1 : decide (i2 ≤ m) = false := decide_eq_false hle2
              have hdd2 : decide ((i2 : Int) ≤ (m : Int)) = false := decide_eq_false (by omega)
              have HM2 := Lib.hid ((scanDown_e ((fun x => ltInt z x)) dk i2 m (.inl hle2)).symm.trans heqm.out)
              clear hdz2
              go_wp2_with fail
              go_quiet (fail)
              clear hdd1 hdd2
              generalize hwq : wr.drewN _ = wq2
              have HSq2 := Lib.hid (show St w blk cap dk wq2 by rw [← hwq]; exact HSm.out.drewN _)
              clear hwq HSm
              obtain ⟨j2, rfl⟩ : ∃ j2, j2 = m := ⟨_, rfl⟩
              have HJ2 := HM2
              have hgt : i2 > j2 := by omega
              have hd1 : decide (j2 < i2) = true := decide_eq_true hgt
              have hd2 : decide ((j2 : Int) < (i2 : Int)) = true := decide_eq_true (by omega)
              have hend := Lib.hid (pe_end (a := a) (i := i) (j := j) (d := dk) (by have h := HI2.out; rw [HZ.out] at h; exact h) (by have h := HJ2.out; rw [HZ.out] at h; exact h) hgt)
              go_wp2
              go_ret
              refine ⟨?_, ?_⟩
              · rw [hpure.out, ← heq.out, hend.out]; rfl
              · rw [hpure.out, ← heq.out, hend.out]; exact HSq2.out
      · have hdd1 : decide (m ≤ j) = false := decide_eq_false hle1
        have hdd2 : decide ((m : Int) ≤ (j : Int)) = false := decide_eq_false (by omega)
        have HM1 := Lib.hid ((scanUp_e ((fun x => !ltInt z x)) dk j m (.inl hle1)).symm.trans heqm.out)
        clear hdz1
        go_wp2_with fail
        go_quiet (fail)
        clear hdd1 hdd2
        generalize hwq : wr.drewN _ = wq1
        have HSq1 := Lib.hid (show St w blk cap dk wq1 by rw [← hwq]; exact HSm.out.drewN _)
        clear hwq HSm
        obtain ⟨i2, rfl⟩ : ∃ i2, i2 = m := ⟨_, rfl⟩
        have HI2 := HM1
        obtain ⟨wo1, rfl⟩ : ∃ wo : World, wo = wq1 := ⟨_, rfl⟩
        clear heqm

        go_wp2_with fail

        go_loopw [10] (fun s wr => ∃ m : Nat, s = .int .i64 (m : Int) ∧ (m ≤ j ∧ i2 ≤ m + 2) ∧ St w blk cap dk wr ∧ Hid (scanDown (fun x => ltInt z x) dk i2 m = scanDown (fun x => ltInt z x) dk i2 j)) (fun s _ => (intOf s).toNat)
        case atStart => exact ⟨j, rfl, by omega, HSq1.out, rfl⟩
        case round =>
          obtain ⟨m, rfl, hmr, hSm, heqm⟩ := hrel
          have HSm := Lib.hid hSm
          clear hSm HSq1
          have hdz2 := hds.out
          have hle2 : ¬ i2 ≤ m := by omega
          · have hdd1 : decide (i2 ≤ m) = false := decide_eq_false hle2
            have hdd2 : decide ((i2 : Int) ≤ (m : Int)) = false := decide_eq_false (by omega)
            have HM2 := Lib.hid ((scanDown_e ((fun x => ltInt z x)) dk i2 m (.inl hle2)).symm.trans heqm.out)
            clear hdz2
            go_wp2_with fail
            go_quiet (fail)
            clear hdd1 hdd2
            generalize hwq : wr.drewN _ = wq2
            have HSq2 := Lib.hid (show St w blk cap dk wq2 by rw [← hwq]; exact HSm.out.drewN _)
            clear hwq HSm
            obtain ⟨j2, rfl⟩ : ∃ j2, j2 = m := ⟨_, rfl⟩
            have HJ2 := HM2
            have hgt : i2 > j2 := by omega
            have hd1 : decide (j2 < i2) = true := decide_eq_true hgt
            have hd2 : decide ((j2 : Int) < (i2 : Int)) = true := decide_eq_true (by omega)
            have hend := Lib.hid (pe_end (a := a) (i := i) (j := j) (d := dk) (by have h := HI2.out; rw [HZ.out] at h; exact h) (by have h := HJ2.out; rw [HZ.out] at h; exact h) hgt)
            go_wp2
            go_ret
            refine ⟨?_, ?_⟩
            · rw [hpure.out, ← heq.out, hend.out]; rfl
            · rw [hpure.out, ← heq.out, hend.out]; exact HSq2.out
end Go.Proofs.Ytaaijgalminafaa
