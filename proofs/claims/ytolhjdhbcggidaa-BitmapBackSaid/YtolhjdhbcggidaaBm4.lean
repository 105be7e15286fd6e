/-
  The contracts of the reference's Unpack and Same, and of Pack on both sides.
-/
import Derived.Test.YtolhjdhbcggidaaBm3
namespace Go.Proofs.Ytolhjdhbcggidaa
open Go.RowKit

/-- lacunaref02.Unpack. -/
theorem unpackR_any (A : Option Addr) (c : Nat) (b : List UInt8) (n : Int) (w : World) (hr : Rd w w.heap.size 1 A b.length (byt b)) :
    Calls Try.prog 12 #[.slice A b.length c, .int .i64 n] w (RetSI 1 (bls (unL b n)) (unE b n) w) := by
  by_cases h : (0 ≤ n ∧ n ≤ 16) ∧ (b.length : Int) = szN n
  · exact unpackR_ok A c b n w hr h.1.1 h.1.2 h.2
  · refine unpackR_no A c b n w ?_
    by_cases h1 : 0 ≤ n ∧ n ≤ 16
    · exact .inr fun e => h ⟨h1, e⟩
    · exact .inl h1

theorem take_succ_eq {α : Type} (l r : List α) (j : Nat) (hl : j < l.length) (hr : j < r.length) (h : l.take j = r.take j) (he : l[j] = r[j]) : l.take (j + 1) = r.take (j + 1) := by
  rw [List.take_succ_eq_append_getElem hl, List.take_succ_eq_append_getElem hr, h, he]

/-- A call returned a bool, and left what was there as it was. -/
def RetB (x : Bool) (w : World) (e : Ending) (w' : World) : Prop := e = .returned (.bool x) ∧ Below w.heap.size w w'
theorem RetB.mk' {x y : Bool} {w w' : World} (h : y = x) (hb : Below w.heap.size w w') : RetB x w (.returned (.bool y)) w' := ⟨by rw [h], hb⟩

/-- lacunaref02.Same. -/
theorem same_any (A A' : Option Addr) (c c' : Nat) (l r : List Bool) (w : World) (hl : Rd w w.heap.size 1 A l.length (bls l)) (hr : Rd w w.heap.size 1 A' r.length (bls r)) (hm : l.length ≤ 1000) :
    Calls Try.prog 13 #[.slice A l.length c, .slice A' r.length c'] w (RetB (l == r) w) := by
  by_cases hlen : l.length = r.length
  · have hlr : ((l.length : Int) != (r.length : Int)) = false := by simp [hlen]
    have Hlen := Lib.hid hlen; clear hlen
    go_enter Try.func13, Try.ntmps13
    go_wp2
    go_loopw [5] (fun i wr => ∃ j : Nat, j ≤ l.length ∧ i = .int .i64 j ∧ Hid (l.take j = r.take j) ∧ Below w.heap.size w wr) (fun i _ => l.length - (intOf i).toNat)
    case atStart => exact ⟨0, by omega, rfl, by simp [Hid], Below.refl _ _⟩
    case round =>
      obtain ⟨j, hj, rfl, ht, hbel⟩ := hrel
      by_cases hlt : j < l.length
      · have hlt' : j < r.length := by have := Hlen.out; omega
        obtain ⟨g, off, rfl, hg, hc⟩ := (hl.below hbel (Nat.le_refl _)).at_ hlt
        obtain ⟨g', off', rfl, hg', hc'⟩ := (hr.below hbel (Nat.le_refl _)).at_ hlt'
        have h1 := hc j hlt
        have h2 := hc' j hlt'
        clear hc hc'
        have hi1 : (j : Int) < (l.length : Int) := by omega
        have hi2 : (j : Int) < (r.length : Int) := by omega
        by_cases he : l[j] = r[j]
        · have He : Hid (l[j] = r[j]) := he
          rw [← he] at h2
          clear he
          go_wp2_with fail
          go_quiet (fail)
          go_wp2
          go_roundw
          case rel => exact ⟨j + 1, by omega, by go_num, take_succ_eq l r j hlt hlt' ht.out He.out, by first | exact hbel | exact ⟨hbel.os, hbel.tape, hbel.output, hbel.size, hbel.block⟩⟩
          case measure => simp [intOf]; omega
        · have hf : (l == r) = false := by
            rw [beq_eq_false_iff_ne]; intro h; subst h; exact he rfl
          have hne : (l[j] != r[j]) = true := by simpa using he
          have hne' : (l[j] == r[j]) = false := by simpa using he
          have Hf := Lib.hid hf; clear hf he
          go_wp2_with fail
          go_quiet (fail)
          go_wp2
          go_ret
          exact RetB.mk' Hf.out.symm (by first | exact hbel | exact ⟨hbel.os, hbel.tape, hbel.output, hbel.size, hbel.block⟩)
      · have hf : (l == r) = true := by
          have := ht.out
          rw [List.take_of_length_le (by omega), List.take_of_length_le (by have := Hlen.out; omega)] at this
          simp [this]
        have Hf := Lib.hid hf; clear hf
        go_wp2
        go_ret
        exact RetB.mk' Hf.out.symm hbel
  · have hlr : ((l.length : Int) != (r.length : Int)) = true := by simpa using (show ¬ (l.length : Int) = (r.length : Int) by omega)
    have hf : (l == r) = false := by
      rw [beq_eq_false_iff_ne]; intro h; subst h; exact hlen rfl
    have Hf := Lib.hid hf; clear hf hlen
    go_enter Try.func13, Try.ntmps13
    go_wp2
    go_ret
    exact RetB.mk' Hf.out.symm (Below.refl _ _)

/-- The map of some things, as bytes. -/
def packL (l : List Bool) : List UInt8 := (List.range (szN l.length).toNat).map fun j => UInt8.ofNat (valN l / 256 ^ j)
def pkE (l : List Bool) : Int := if l.length ≤ 16 then 0 else 17
def pkL (l : List Bool) : List UInt8 := if l.length ≤ 16 then packL l else []

theorem valN_lt (l : List Bool) : valN l < 2 ^ l.length := by
  induction l with
  | nil => simp [valN]
  | cons b r ih =>
    have hb : b.toNat ≤ 1 := by cases b <;> simp
    rw [List.length_cons, Nat.pow_succ]
    simp only [valN]; omega
theorem valN_drop (l : List Bool) (i : Nat) (h : i < l.length) : valN (l.drop i) = 2 * valN (l.drop (i + 1)) + l[i].toNat := by
  rw [List.drop_eq_getElem_cons h]; simp only [valN]; omega

theorem pack_cells (l : List Bool) (V : Nat) (hV : valN l = V) (s : Nat) (hs : (szN l.length).toNat = s) (h2 : s ≤ 2) (hlt : V < 65536) :
    [Value.int .u8 ((V : Int) % 256), Value.int .u8 ((V : Int) / 256)].take s = byt (packL l) := by
  have e0 : (V : Int) % 256 = ((UInt8.ofNat V).toNat : Int) := by simp
  have e1 : (V : Int) / 256 = ((UInt8.ofNat (V / 256)).toNat : Int) := by simp; omega
  unfold byt packL
  rw [hs, hV, e0, e1]
  rcases (show s = 0 ∨ s = 1 ∨ s = 2 by omega) with rfl | rfl | rfl
  · rfl
  · simp [List.range_succ]
  · simp [List.range_succ]

theorem packR_any (A : Option Addr) (c : Nat) (l : List Bool) (w : World) (hr : Rd w w.heap.size 1 A l.length (bls l)) :
    Calls Try.prog 18 #[.slice A l.length c] w (RetSI 1 (byt (pkL l)) (pkE l) w) := by
  by_cases h16 : l.length ≤ 16
  · have hE : pkE l = 0 := by simp [pkE, h16]
    have hL : pkL l = packL l := by simp [pkL, h16]
    have HE := Lib.hid hE; have HL := Lib.hid hL; clear hE hL
    go_enter Try.func18, Try.ntmps18
    go_wp2_with (go_at_call 15; refine (sizeR_any _ _).mono ?_; rintro e w' ⟨rfl, rfl⟩)
    go_loop [4, 5] (fun v i => ∃ j : Nat, j ≤ l.length ∧ i = .int .i64 ((j : Int) - 1) ∧ v = .int .i64 (valN (l.drop j))) (fun _ i => (intOf i + 1).toNat)
    case atStart => exact ⟨l.length, Nat.le_refl _, rfl, by simp [valN]⟩
    case round =>
      obtain ⟨j, hj, rfl, rfl⟩ := hrel
      rcases Nat.eq_zero_or_pos j with hj0 | hj0
      · subst hj0
        have hV := valN_lt l
        have hV2 : valN l < 65536 := Nat.lt_of_lt_of_le hV (Nat.pow_le_pow_right (by decide) (show l.length ≤ 16 by omega))
        clear hV
        simp only [List.drop_zero]
        generalize hV : valN l = V at hV2
        have HV := Lib.hid hV; clear hV
        have hs0 : 0 ≤ szN l.length ∧ szN l.length ≤ 2 := by unfold szN; split <;> omega
        go_wp2_with (go_at_call 15; refine (sizeR_any _ _).mono ?_; rintro e w' ⟨rfl, rfl⟩)
        go_ret2
        have hB : Below w.heap.size w (w.alloc (.cells #[.int .u8 ((V : Int) % 256), .int .u8 ((V : Int) / 256)] 5)) := (Below.refl _ _).alloc (Nat.le_refl _) _
        have hR := Rd.new w #[.int .u8 ((V : Int) % 256), .int .u8 ((V : Int) / 256)] 5 (size := 1) (n := (szN l.length).toNat) (by simp; omega)
        rw [HL.out]
        have e := pack_cells l V HV.out (szN l.length).toNat rfl (by omega) hV2
        rw [← e]
        exact RetSI.mk' (by simpa using hR) (by omega) (by simp [maxLen]) HE.out.symm hB
      · obtain ⟨k, rfl⟩ : ∃ k, j = k + 1 := ⟨j - 1, by omega⟩
        have hk : k < l.length := by omega
        obtain ⟨g, off, rfl, hg, hc⟩ := hr.at_ hk
        have hcj := hc k hk
        clear hc
        have hV := valN_lt (l.drop (k + 1))
        have hV2 : valN (l.drop (k + 1)) < 65536 := Nat.lt_of_lt_of_le hV (Nat.pow_le_pow_right (by decide) (show (l.drop (k + 1)).length ≤ 16 by rw [List.length_drop]; omega))
        clear hV
        have hd := valN_drop l k hk
        have e1 : ((k + 1 : Nat) : Int) - 1 = (k : Int) := by omega
        rw [e1]
        clear e1
        rcases hx : l[k] with _ | _
        all_goals
          rw [hx] at hcj hd
          have Hd := Lib.hid hd
          clear hd hx
          go_wp2
          go_round
          case rel => exact ⟨k, by omega, rfl, by rw [Hd.out]; go_num⟩
          case measure => simp [intOf]
  · have hE : pkE l = 17 := by simp [pkE, h16]
    have hL : pkL l = [] := by simp [pkL, h16]
    have HE := Lib.hid hE; have HL := Lib.hid hL; clear hE hL
    go_enter Try.func18, Try.ntmps18
    go_wp2
    go_ret2
    rw [HL.out]
    exact RetSI.nil_ HE.out.symm (Below.refl _ _)
end Go.Proofs.Ytolhjdhbcggidaa
