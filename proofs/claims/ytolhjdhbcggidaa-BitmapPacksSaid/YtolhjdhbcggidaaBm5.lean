/-
  The contract of bitmap.Pack.
-/
import Derived.Test.YtolhjdhbcggidaaBm4
import Derived.BigRegion
namespace Go.Proofs.Ytolhjdhbcggidaa
open Go.RowKit

def packAt (l : List Bool) (j : Nat) : List UInt8 := (List.range (szN l.length).toNat).map fun i => UInt8.ofNat (valN (l.take j) / 256 ^ i)

theorem valN_take (l : List Bool) (j : Nat) (h : j < l.length) : valN (l.take (j + 1)) = valN (l.take j) + 2 ^ j * (l[j]).toNat := by
  induction l generalizing j with
  | nil => simp at h
  | cons b r ih =>
    cases j with
    | zero => simp [valN]
    | succ j =>
      have := ih j (by simpa using h)
      simp only [List.take_succ_cons, valN, List.getElem_cons_succ, this, Nat.pow_succ]
      rw [Nat.mul_comm (2 ^ j) 2, Nat.mul_assoc]; omega
theorem packAt_no (l : List Bool) (j : Nat) (h : j < l.length) (hx : l[j] = false) : packAt l (j + 1) = packAt l j := by
  unfold packAt; rw [valN_take l j h, hx]; simp
theorem or_u8 (x r : Nat) (hx : x < 2 ^ r) (hr : r < 8) : bits .or .u8 (x : Int) (2 ^ r % 256) = ((x + 2 ^ r : Nat) : Int) := by
  have h256 : 2 ^ r ≤ 128 := Nat.pow_le_pow_right (n := 2) (by decide) (show r ≤ 7 by omega)
  have e : ((2 : Int) ^ r % 256) = ((2 ^ r : Nat) : Int) := by
    have e' : ((2 ^ r : Nat) : Int) = (2 : Int) ^ r := by simp
    rw [← e']; omega
  rw [e]
  show IntKind.u8.wrap ((BitVec.ofInt 8 (x : Int) ||| BitVec.ofInt 8 ((2 ^ r : Nat) : Int)).toNat : Int) = _
  rw [BitVec.toNat_or, BitVec.ofInt_natCast, BitVec.ofInt_natCast, BitVec.toNat_ofNat, BitVec.toNat_ofNat, Nat.mod_eq_of_lt (by omega), Nat.mod_eq_of_lt (by omega), Nat.or_comm]
  have := Nat.two_pow_add_eq_or_of_lt hx 1
  rw [Nat.mul_one] at this
  rw [← this, IntKind.wrap_u8]
  omega
theorem pack_byte (V j i : Nat) (hV : V < 2 ^ j) (hj : j < 16) (hi : i < 2) : (V + 2 ^ j) / 256 ^ i % 256 = if i = j / 8 then V / 256 ^ i % 256 + 2 ^ (j % 8) else V / 256 ^ i % 256 := by
  rcases (show i = 0 ∨ i = 1 by omega) with hi' | hi' <;> rw [hi'] <;>
  rcases (show j = 0 ∨ j = 1 ∨ j = 2 ∨ j = 3 ∨ j = 4 ∨ j = 5 ∨ j = 6 ∨ j = 7 ∨ j = 8 ∨ j = 9 ∨ j = 10 ∨ j = 11 ∨ j = 12 ∨ j = 13 ∨ j = 14 ∨ j = 15 by omega) with e | e | e | e | e | e | e | e | e | e | e | e | e | e | e | e <;> rw [e] at hV ⊢ <;> simp at hV ⊢ <;> omega
theorem packAt_yes (l : List Bool) (j : Nat) (h : j < l.length) (hx : l[j] = true) (x : UInt8) (hx8 : (byt (packAt l j))[j / 8]? = some (.int .u8 x.toNat)) (h16 : l.length ≤ 16) :
    (byt (packAt l j)).set (j / 8) (.int .u8 (bits .or .u8 (x.toNat : Int) (2 ^ (j % 8) % 256))) = byt (packAt l (j + 1)) := by
  have hV : valN (l.take j) < 2 ^ j := by
    have := valN_lt (l.take j)
    rwa [List.length_take, Nat.min_eq_left (by omega)] at this
  have hsz : (szN l.length).toNat ≤ 2 := by unfold szN; split <;> omega
  have hlen : (packAt l j).length = (szN l.length).toNat := by simp [packAt]
  have hj8 : j / 8 < (packAt l j).length := by
    rcases Nat.lt_or_ge (j / 8) (packAt l j).length with h1 | h1
    · exact h1
    · rw [List.getElem?_eq_none (by simpa [byt] using h1)] at hx8; cases hx8
  have hxv : x.toNat = valN (l.take j) / 256 ^ (j / 8) % 256 := by
    have hj9 : j / 8 < (szN l.length).toNat := by omega
    have e1 : (byt (packAt l j))[j / 8]? = some (.int .u8 ((valN (l.take j) / 256 ^ (j / 8) % 256 : Nat) : Int)) := by
      simp [byt, packAt, hj9]
    rw [e1] at hx8
    injection hx8 with hx8
    injection hx8 with _ hx8
    omega
  have hxlt : x.toNat < 2 ^ (j % 8) := by
    rw [hxv]
    refine Nat.lt_of_le_of_lt (Nat.mod_le _ _) ?_
    rw [Nat.div_lt_iff_lt_mul (Nat.pow_pos (by decide))]
    have e : (2 : Nat) ^ (j % 8) * 256 ^ (j / 8) = 2 ^ j := by
      rw [show (256 : Nat) = 2 ^ 8 by decide, ← Nat.pow_mul, ← Nat.pow_add]; congr 1; omega
    rw [e]; exact hV
  rw [or_u8 x.toNat (j % 8) hxlt (Nat.mod_lt _ (by decide))]
  apply List.ext_getElem?
  intro i
  rw [List.getElem?_set]
  by_cases hi : i < (szN l.length).toNat
  · have hb := pack_byte (valN (l.take j)) j i hV (by omega) (by omega)
    have e1 : (byt (packAt l (j + 1)))[i]? = some (.int .u8 (((valN (l.take j) + 2 ^ j) / 256 ^ i % 256 : Nat) : Int)) := by
      simp [byt, packAt, hi, valN_take l j h, hx]
    rw [e1, hb]
    by_cases e : j / 8 = i
    · subst e
      rw [if_pos rfl, if_pos rfl, if_pos (by simpa [byt, hlen] using hi), hxv]
    · rw [if_neg e, if_neg (fun h => e h.symm)]
      simp [byt, packAt, hi]
  · have e0 : (byt (packAt l (j + 1)))[i]? = none := List.getElem?_eq_none (by simp [byt, packAt]; omega)
    have e2 : (byt (packAt l j))[i]? = none := List.getElem?_eq_none (by simp [byt, packAt]; omega)
    rw [e0, e2, if_neg (by omega)]

set_option maxHeartbeats 400000 in
theorem pack_ok (A : Option Addr) (c : Nat) (l : List Bool) (w : World) (hr : Rd w w.heap.size 1 A l.length (bls l)) (h16 : l.length ≤ 16) :
    Calls Try.prog 17 #[.slice A l.length c] w (RetSI 1 (byt (pkL l)) (pkE l) w) := by
  have hk : okN l.length = true := by simp [okN]; omega
  have hs0 : 0 ≤ szN l.length ∧ szN l.length ≤ 2 := by unfold szN; split <;> omega
  have hE : pkE l = 0 := by simp [pkE, h16]
  have hL : pkL l = packL l := by simp [pkL, h16]
  have hS : szN l.length = ((l.length : Int) + 7) / 8 := by unfold szN; rw [if_pos (by omega)]
  have HE := Lib.hid hE; have HL := Lib.hid hL; have HS := Lib.hid hS; clear hE hL hS
  obtain ⟨i0, hi, hz0, hz1, hz2⟩ := info_parts Try.info5
  obtain ⟨s, hs⟩ : ∃ s : Nat, szN l.length = s := ⟨(szN l.length).toNat, by omega⟩
  rw [hs] at hs0
  have Hs := Lib.hid hs; clear hs
  go_enter Try.func17, Try.ntmps17
  go_wp2_with (first
    | (go_at_call 30; refine (counted_any _ _).mono ?_; rintro e w' ⟨rfl, rfl⟩)
    | (go_at_call 14; refine (size_any _ _).mono ?_; rintro e w' ⟨rfl, rfl⟩; rw [Hs.out])
    | (at_make; refine wpList_make_full _ rfl _ _ 22 rfl w.heap.size 5 i0 (.int .u8 0) 1 Try.underlying22 hi hz0 hz1 _ _ _ _ s rfl rfl rfl rfl (by rw [hz2]; omega) (by simp only [maxLen]; omega) (Nat.le_refl _) ?_))
  intro w1 hown hg1
  have hb1 : Below w.heap.size w w1 := (Below.refl _ _).grown hg1 (Nat.le_refl _) (by simp)
  have hown1 : w1.ownsRow w.heap.size 5 1 (.slice (some ⟨w.heap.size, 0, none⟩) s s) s (byt (packAt l 0)) := by
    have e : (madeCells (Value.int .u8 0).cells (s * 1)).toList = byt (packAt l 0) := by
      rw [show (Value.int .u8 0).cells = #[.int .u8 0] from rfl, toList_madeCells_one]
      have hs2 : (szN l.length).toNat = s := by rw [Hs.out]; simp
      rcases (show s = 0 ∨ s = 1 ∨ s = 2 by omega) with rfl | rfl | rfl <;> simp [packAt, hs2, byt, valN, List.range_succ]
    rw [← e, Nat.mul_one]; exact hown
  clear hown hg1
  go_wp2
  go_loopw [17, 5, 6] (fun k _ _ wr => ∃ j : Nat, j ≤ l.length ∧ k = .int .i64 j ∧ wr.ownsRow w.heap.size 5 1 (.slice (some ⟨w.heap.size, 0, none⟩) s s) s (byt (packAt l j)) ∧ Below w.heap.size w wr) (fun k _ _ _ => l.length - (intOf k).toNat)
  case atStart => exact ⟨0, by omega, rfl, hown1, hb1⟩
  case round =>
    obtain ⟨j, hj, rfl, hown, hbel⟩ := hrel
    by_cases hlt : j < l.length
    · obtain ⟨g, off, rfl, hg, hc⟩ := (hr.below hbel (Nat.le_refl _)).at_ hlt
      have hcj := hc j hlt
      clear hc
      have hj8 : j / 8 < s := by have h1 := HS.out; have h2 := Hs.out; omega
      rcases hx : l[j] with _ | _
      · rw [hx] at hcj
        have Hx := Lib.hid hx; clear hx
        go_wp2
        go_roundw
        case rel => exact ⟨j + 1, by omega, by go_num, by rw [packAt_no l j hlt Hx.out]; exact hown, hbel⟩
        case measure => simp [intOf]; omega
      · have hcell := hown.cellAt (j / 8) (by omega)
        have hfro := hown.frozenAt (j / 8)
        obtain ⟨x, hx8⟩ : ∃ x : UInt8, (byt (packAt l j))[j / 8]? = some (.int .u8 x.toNat) := by
          have : j / 8 < (packAt l j).length := by simp [packAt, Hs.out]; omega
          exact ⟨(packAt l j)[j / 8], by simp [byt, this]⟩
        rw [hx8] at hcell
        have Hx8 := Lib.hid hx8; clear hx8
        rw [hx] at hcj
        have Hx := Lib.hid hx; clear hx
        go_wp2
        go_region
        go_wp2
        go_roundw
        case rel =>
          have h1 := hown.stored (j / 8) (.int .u8 (bits .or .u8 (x.toNat : Int) (2 ^ (j % 8) % 256)))
          rw [packAt_yes l j hlt Hx.out x Hx8.out h16] at h1
          have h2 := hbel.setCell (p := ⟨w.heap.size, j / 8, none⟩) (Nat.le_refl _) (.int .u8 (bits .or .u8 (x.toNat : Int) (2 ^ (j % 8) % 256)))
          exact ⟨j + 1, by omega, by go_num, h1.1.drew, h2.drew⟩
        case measure => simp [intOf]; omega
    · obtain rfl : j = l.length := by omega
      have hP : packAt l l.length = packL l := by simp [packAt, packL]
      rw [hP] at hown
      have Hp := Lib.hid hP; clear hP
      go_wp2
      go_ret2
      rw [HL.out]
      exact RetSI.own hown HE.out.symm hbel
end Go.Proofs.Ytolhjdhbcggidaa
