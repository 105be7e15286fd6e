/-
  slices.Sort at uint32: heapSort.
-/
import Derived.Test.YtaaijgalminafaaSo4
namespace Go.Proofs.Ytaaijgalminafaa
open Go.RowKit Go.Sort

theorem heapBuild_size (hi first : Nat) : ∀ (k : Nat) (d : Array Int), (∀ (r : Nat) (d : Array Int), (siftDown ltInt hi first r d).size = d.size) → (heapBuild ltInt hi first k d).size = d.size
  | 0, _, _ => rfl
  | k + 1, d, h => by rw [heapBuild, heapBuild_size hi first k _ h, h]
theorem sift_size (hi first : Nat) : ∀ (m r : Nat) (d : Array Int), hi - r ≤ m → (siftDown ltInt hi first r d).size = d.size
  | 0, r, d, h => by rw [sift_end (by omega)]
  | m + 1, r, d, h => by
    by_cases h1 : 2 * r + 1 ≥ hi
    · rw [sift_end h1]
    · by_cases h2 : 2 * r + 2 < hi ∧ ltInt d[first + (2 * r + 1)]! d[first + (2 * r + 1) + 1]! = true
      · rw [sift_two h1 h2.1 h2.2 rfl]
        split
        · rw [sift_size hi first m _ _ (by omega), size_sw]
        · rfl
      · rw [sift_one h1 (by rcases Decidable.not_and_iff_not_or_not.1 h2 with h3 | h3; exact .inl h3; exact .inr (by simpa using h3)) rfl]
        split
        · rw [sift_size hi first m _ _ (by omega), size_sw]
        · rfl

set_option maxHeartbeats 1600000 in
set_option maxRecDepth 100000 in
theorem heapSort_any (blk cap n : Nat) (d : Array Int) (a b : Nat) (w : World) (hL : Ls w blk cap d) (hn : d.size = n) (hab : a < b) (hb : b ≤ n) (hsz : n ≤ 1000000) :
    Calls Try.prog 54 #[.slice (some ⟨blk, 0, none⟩) n cap, .int .i64 (a : Int), .int .i64 (b : Int)] w fun e w' => e = .returned (.tuple #[]) ∧ St w blk cap (heapSort ltInt d a b) w' := by
  have HN := Lib.hid hn; clear hn
  have HL := Lib.hid hL; clear hL
  obtain ⟨hi, hhi⟩ : ∃ hi, hi = b - a := ⟨_, rfl⟩
  obtain ⟨k0, hk0⟩ : ∃ k, k = (hi - 1) / 2 := ⟨_, rfl⟩
  have e0 : (b : Int) - (a : Int) = (hi : Int) := by omega
  have e1 : Hid (((hi : Int) - 1) / 2 = (k0 : Int)) := by show _ = _; omega
  have b0 : 1 ≤ hi := by omega
  have b1 : a + hi ≤ n := by omega
  have b2 : k0 ≤ n := by omega
  have hpu : Hid (heapSort ltInt d a b = heapPop ltInt a hi (heapBuild ltInt hi a (k0 + 1) d)) := by
    show _ = _
    unfold heapSort
    rw [← hhi, ← hk0]
  have HH := Lib.hid hhi; have HK := Lib.hid hk0
  clear hhi hk0
  go_enter Try.func54, Try.ntmps54
  go_wp2_with fail
  go_loopw [9] (fun s wr => ∃ (z : Int) (k : Nat) (dk : Array Int), s = .int .i64 z ∧ Hid (z + 1 = (k : Int)) ∧ -1 ≤ z ∧ z ≤ 1000000 ∧ k ≤ k0 + 1 ∧ Hid (dk.size = n) ∧ St w blk cap dk wr ∧ Hid (heapBuild ltInt hi a k dk = heapBuild ltInt hi a (k0 + 1) d)) (fun s _ => (intOf s + 1).toNat)
  case atStart => exact ⟨(k0 : Int), k0 + 1, d, by rw [e1.out], by show _ = _; omega, by omega, by omega, by omega, HN, HL.out.st, rfl⟩
  case round =>
    obtain ⟨z, k, dk, rfl, hzk, hz1, hz2, hk, hds, hS, heq⟩ := hrel
    have HS := Lib.hid hS; clear hS
    by_cases h0 : 0 ≤ z
    · obtain ⟨kk, rfl⟩ := Int.eq_ofNat_of_zero_le h0
      have hkk : Hid (k = kk + 1) := by show _ = _; have := hzk.out; omega
      have hd : decide ((0 : Int) ≤ (kk : Int)) = true := decide_eq_true h0
      have hkn : kk ≤ n := by have := hkk.out; omega
      go_wp2_with fail
      refine (siftDown_any blk cap n dk kk hi a wr HS.out.l hds.out b1 hkn hsz).mono ?_
      rintro e w2 ⟨rfl, hS2⟩
      have HS2 := Lib.hid (HS.out.trans hS2)
      clear hS2
      go_wp2
      refine ⟨⟨(kk : Int) - 1, kk, siftDown ltInt hi a kk dk, rfl, by show _ = _; omega, by omega, by omega, by have := hkk.out; omega, (sift_size hi a hi kk dk (by omega)).trans hds.out, HS2.out, ?_⟩, by simp [intOf] <;> omega⟩
      show _ = _
      rw [← heq.out, hkk.out]; rfl
    · have hk0 : Hid (k = 0) := by show _ = _; have := hzk.out; omega
      have hd : decide ((0 : Int) ≤ z) = false := decide_eq_false h0
      have hpb : Hid (dk = heapBuild ltInt hi a (k0 + 1) d) := by show _ = _; rw [← heq.out, hk0.out]; rfl
      generalize heapBuild ltInt hi a (k0 + 1) d = d1 at *
      obtain ⟨wo, rfl⟩ : ∃ wo : World, wo = wr := ⟨_, rfl⟩
      have hs1 : Hid (d1.size = n) := by show _ = _; rw [← hpb.out]; exact hds.out
      have HS1 := Lib.hid (show St w blk cap d1 wo by rw [← hpb.out]; exact HS.out)
      clear HS hds heq hpb hzk hk0
      go_wp2
      go_loopw [10] (fun s wr => ∃ (z : Int) (k : Nat) (dk : Array Int), s = .int .i64 z ∧ Hid (z + 1 = (k : Int)) ∧ -1 ≤ z ∧ z ≤ 1000000 ∧ k ≤ hi ∧ Hid (dk.size = n) ∧ St w blk cap dk wr ∧ Hid (heapPop ltInt a k dk = heapPop ltInt a hi d1)) (fun s _ => (intOf s + 1).toNat)
      case atStart => exact ⟨(hi : Int) - 1, hi, d1, rfl, by show _ = _; omega, by omega, by omega, by omega, hs1, HS1.out, rfl⟩
      case round =>
        obtain ⟨z, k, dk, rfl, hzk, hz1, hz2, hk, hds, hS, heq⟩ := hrel
        clear HS1
        have HS := Lib.hid hS; clear hS
        by_cases h0 : 0 ≤ z
        · obtain ⟨kk, rfl⟩ := Int.eq_ofNat_of_zero_le h0
          have hkk : Hid (k = kk + 1) := by show _ = _; have := hzk.out; omega
          have hd : decide ((0 : Int) ≤ (kk : Int)) = true := decide_eq_true h0
          obtain ⟨p, hp⟩ : ∃ p, p = a + kk := ⟨_, rfl⟩
          have hpn : p < n := by have := hkk.out; omega
          have han : a < n := by omega
          have hkh : a + kk ≤ n := by have := hkk.out; omega
          have ip : (p : Int) < (n : Int) := by omega
          have ia : (a : Int) < (n : Int) := by omega
          have hdz := hds.out
          have ca := HS.out.cell (i := a) (by omega)
          have cp := HS.out.cell (i := p) (by omega)
          have fa := HS.out.frozen a
          have fp := HS.out.frozen p
          have hm1 : a < dk.size := by omega
          have hm2 : p < dk.size := by omega
          have hsw := Lib.hid (fun W (h : St w blk cap dk W) => (h.swp (i := a) (j := p) hm1 hm2).drew)
          have hsz2 := Lib.hid ((size_sw dk a p).trans hds.out)
          have e2 : (a : Int) + (kk : Int) = (p : Int) := by omega
          have HP := Lib.hid hp
          have hst : Hid (heapPop ltInt a k dk = heapPop ltInt a kk (siftDown ltInt kk a 0 (swp dk a p))) := by show _ = _; rw [hkk.out, hp]; rfl
          have V1 : Hid (IntKind.i64.wrap ((a : Int) + (kk : Int)) = (p : Int)) := by show _ = _; rw [IntWalk.i64_in _ (by omega)]; omega
          clear hdz hm1 hm2 hp
          by_cases hap : p = a
          · subst hap
            generalize dk[p]! = x at *
            go_wp2_with fail
            have v1 := V1.out
            go_region
            clear v1
            go_wp2_with fail
            refine (siftDown_any blk cap n (swp dk p p) 0 kk p _ (hsw.out wr HS.out).l hsz2.out hkh (by omega) hsz).mono ?_
            rintro e w2 ⟨rfl, hS2⟩
            have HS2 := Lib.hid ((hsw.out wr HS.out).trans hS2)
            clear hS2
            go_wp2
            refine ⟨⟨(kk : Int) - 1, kk, siftDown ltInt kk p 0 (swp dk p p), rfl, by show _ = _; omega, by omega, by omega, by have := hkk.out; omega, (sift_size kk p kk 0 _ (by omega)).trans hsz2.out, HS2.out, ?_⟩, by simp [intOf] <;> omega⟩
            show _ = _
            rw [← heq.out, hst.out]
          · have hap2 : ¬ a = p := fun e => hap e.symm
            generalize dk[a]! = x at *
            generalize dk[p]! = y at *
            go_wp2_with fail
            have v1 := V1.out
            go_region
            clear v1
            go_wp2_with fail
            refine (siftDown_any blk cap n (swp dk a p) 0 kk a _ (hsw.out wr HS.out).l hsz2.out hkh (by omega) hsz).mono ?_
            rintro e w2 ⟨rfl, hS2⟩
            have HS2 := Lib.hid ((hsw.out wr HS.out).trans hS2)
            clear hS2
            go_wp2
            refine ⟨⟨(kk : Int) - 1, kk, siftDown ltInt kk a 0 (swp dk a p), rfl, by show _ = _; omega, by omega, by omega, by have := hkk.out; omega, (sift_size kk a kk 0 _ (by omega)).trans hsz2.out, HS2.out, ?_⟩, by simp [intOf] <;> omega⟩
            show _ = _
            rw [← heq.out, hst.out]
        · have hk0 : Hid (k = 0) := by show _ = _; have := hzk.out; omega
          have hd : decide ((0 : Int) ≤ z) = false := decide_eq_false h0
          have hpb : Hid (heapPop ltInt a k dk = dk) := by show _ = _; rw [hk0.out]; rfl
          go_wp2
          go_end0
          exact ⟨rfl, by rw [hpu.out, ← heq.out, hpb.out]; exact HS.out⟩
end Go.Proofs.Ytaaijgalminafaa
