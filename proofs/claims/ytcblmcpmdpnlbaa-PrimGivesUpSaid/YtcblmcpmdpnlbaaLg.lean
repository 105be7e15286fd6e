/-
  Layer 1: PrimGivesUp, the walk.
-/
import Derived.Test.YtcblmcpmdpnlbaaSf
namespace Go.Proofs.Ytcblmcpmdpnlbaa
open Go.RowKit Mono

/-- Who gave up has nothing more. -/
theorem dead_uint (limit : Nat) : (Rdr.mk [] 1).uint limit = (0, ⟨[], 1⟩) := by
  simp [Rdr.uint, Rdr.uintE, dgs, Rdr.giveUp]
theorem dead_text (limit : Int) : (Rdr.mk [] 1).text limit = ([], ⟨[], 1⟩) := by
  unfold Rdr.text; rw [dead_uint]; simp [Rdr.take]
theorem dead_int : (Rdr.mk [] 1).int = (0, ⟨[], 1⟩) := by
  unfold Rdr.int; rw [dead_uint]; rfl
theorem dead_byte : (Rdr.mk [] 1).byte = (0, ⟨[], 1⟩) := by
  simp [Rdr.byte, Rdr.take, Rdr.giveUp]
theorem dead_word : (Rdr.mk [] 1).word = (0, ⟨[], 1⟩) := by
  simp [Rdr.word, Rdr.take, Rdr.giveUp, le8]
theorem short_uint {v j : Nat} (hv : v < 18446744073709551616) (h : j < (sevens v).length) (limit : Nat) : (Rdr.mk ((sevens v).take j) 0).uint limit = (0, ⟨[], 1⟩) := by
  have e1 := sevens_short hv h
  simp [Rdr.uint, Rdr.uintE, e1, Rdr.giveUp]
theorem short_text {s : ByteArray} (hs : s.size ≤ 100) {j : Nat} (hj : j < (textB s).length) : (Rdr.mk ((textB s).take j) 0).text 100 = ([], ⟨[], 1⟩) := by
  have hl := str_len s
  unfold textB at hj ⊢
  rw [List.length_append] at hj
  unfold Rdr.text
  rw [(show (max 0 (100 : Int)).toNat = 100 from rfl), List.take_append]
  rcases Nat.lt_or_ge j (sevens s.size).length with h | h
  · have e0 : j - (sevens s.size).length = 0 := by omega
    rw [e0, List.take_zero, List.append_nil, short_uint (by omega) h]
    simp [Rdr.take]
  · rw [List.take_of_length_le h, Rdr.uint_sevens (by omega), if_neg (by omega)]
    unfold Rdr.take
    rw [if_pos (by simp only [List.length_take, hl] at hj ⊢; omega)]
    simp [Rdr.giveUp]
/-- Cut anywhere ahead of its end, a number and a text leave a reader that gave up for being too short. -/
theorem cut_short {v : Nat} {s : ByteArray} (hv : v < 18446744073709551616) (hs : s.size ≤ 100) {j : Nat} (hj : j < (sevens v ++ textB s).length) :
    ((Rdr.mk ((sevens v ++ textB s).take j) 0).uint 18446744073709551615).2.text 100 = ([], ⟨[], 1⟩) := by
  rw [List.length_append] at hj
  rw [List.take_append]
  rcases Nat.lt_or_ge j (sevens v).length with h | h
  · have e0 : j - (sevens v).length = 0 := by omega
    rw [e0, List.take_zero, List.append_nil, short_uint hv h, dead_text]
  · rw [List.take_of_length_le h, Rdr.uint_sevens hv, if_neg (by omega)]
    exact short_text hs (by omega)

set_option maxRecDepth 100000 in
set_option maxHeartbeats 800000 in
theorem primGivesUp_walk (v : Nat) (s : ByteArray) (cut : Nat) (W : World) (hv : v < 18446744073709551616) (_hs : s.size ≤ maxLen) (hcut : cut ≤ 255) :
    Calls Try.prog 7 #[.int .u64 (v : Int), .string s, .int .u8 (cut : Int)] W (RetB true W) := by
  by_cases hl : 100 < s.size
  · have d1 : decide ((100 : Int) < s.size) = true := by simp; omega
    go_enter Try.func7, Try.ntmps7
    go_wp2
    go_ret
    exact RetB.mk' rfl (Below.refl _ _)
  · have d1 : decide ((100 : Int) < s.size) = false := by simp; omega
    have hsl := sevens_len v
    have hsp := sevens_pos v
    have hsl3 : (textB s).length ≤ 110 := by have := sevens_len s.size; rw [textB_len]; omega
    obtain ⟨L, hL⟩ : ∃ L, L = sevens v ++ textB s := ⟨_, rfl⟩
    have hLl : (sevens v).length + (textB s).length = L.length := by rw [hL, List.length_append]
    have hL0 : 0 < L.length := by omega
    have hL1 : L.length ≤ 120 := by omega
    obtain ⟨j, hj⟩ : ∃ j, j = cut % L.length := ⟨_, rfl⟩
    have hjl : j < L.length := by rw [hj]; exact Nat.mod_lt _ hL0
    have hC := cut_short (v := v) (s := s) hv (by omega) (j := j) (by rw [← hL]; exact hjl)
    rw [← hL] at hC
    have HLl := Lib.hid hLl; have HL := Lib.hid hL; have Hj := Lib.hid hj; have HC := Lib.hid hC
    clear hLl hL hj hC
    have hLne : L ≠ [] := by intro h; rw [h] at hL0; simp at hL0
    have hjj : (cut : Int) % (L.length : Int) = (j : Int) := by rw [Hj.out]; simp
    go_enter Try.func7, Try.ntmps7
    go_wp2_with fail
    refine (putUint_nil v _ hv).mono ?_
    rintro e w1 ⟨o1, rfl, hown1, hb1⟩
    obtain ⟨A1, c1, rfl, _, _, hR1⟩ := Rd.of_own hown1
    go_wp2_with fail
    refine (putText_any A1 c1 (sevens v) s _ hR1 (by omega) (by omega)).mono ?_
    rintro e w2 ⟨o2, rfl, hown2, hb2⟩
    obtain ⟨A2, c2, rfl, hc2, hc2m, hR2⟩ := Rd.of_own hown2
    rw [← HL.out] at hR2
    rw [HLl.out] at hR2 hc2 ⊢
    clear hown1 hown2 hR1
    have b2 := step_below hb1 hb2
    have hjc : j ≤ c2 := by omega
    clear hb1 hb2
    go_wp2_with fail
    have hlen : (L.take j).length = j := by rw [List.length_take]; omega
    have hread := read_any A2 c2 (L.take j) w2 (by rw [hlen]; simpa [byt, List.map_take] using hR2.take_ (Nat.le_of_lt hjl)) (by omega)
    rw [hlen] at hread
    refine hread.mono ?_
    clear hread
    rintro e w3 ⟨g, rfl, hg3, hp3, hb3⟩
    have b3 := step_below b2 hb3
    have hgW : W.heap.size ≤ g := by have := b2.size; omega
    clear hb3 b2 hR2 hlen
    go_wp2_with fail
    refine (uint_any g ⟨L.take j, 0⟩ 18446744073709551615 _ hp3).mono ?_
    rintro e w4 ⟨rfl, hp4, hg4⟩
    have b4 := b3.grown hg4 b3.size (fun k hk => by injection hk with hk; omega)
    clear hg4 b3 hp3
    go_wp2_with fail
    refine (text_any g _ 100 _ hp4 (by omega)).mono ?_
    rintro e w5 ⟨rfl, hp5, hg5⟩
    have b5 := b4.grown hg5 b4.size (fun k hk => by injection hk with hk; omega)
    clear hg5 b4 hp4
    rw [HC.out] at hp5 ⊢
    simp only at hp5
    go_wp2_with fail
    refine (err_any g ⟨[], 1⟩ _ hp5).mono ?_
    rintro e w6 ⟨rfl, rfl⟩
    go_wp2_with fail
    refine (end_any g ⟨[], 1⟩ _ hp5).mono ?_
    rintro e w6 ⟨rfl, rfl⟩
    rw [(show (Rdr.mk [] 1).fin = 1 from rfl)]
    go_wp2_with fail
    refine (left_any g ⟨[], 1⟩ _ hp5).mono ?_
    rintro e w6 ⟨rfl, rfl⟩
    go_wp2_with fail
    refine (uint_any g ⟨[], 1⟩ 9 _ hp5).mono ?_
    rintro e w6 ⟨rfl, hp6, hg6⟩
    have b6 := b5.grown hg6 b5.size (fun k hk => by injection hk with hk; omega)
    clear hg6 b5 hp5
    rw [dead_uint] at hp6 ⊢
    simp only at hp6
    go_wp2_with fail
    refine (int_any g ⟨[], 1⟩ _ hp6).mono ?_
    rintro e w7 ⟨rfl, hp7, hg7⟩
    have b7 := b6.grown hg7 b6.size (fun k hk => by injection hk with hk; omega)
    clear hg7 b6 hp6
    rw [dead_int] at hp7 ⊢
    simp only at hp7
    go_wp2_with fail
    refine (text_any g ⟨[], 1⟩ 9 _ hp7 (by omega)).mono ?_
    rintro e w8 ⟨rfl, hp8, hg8⟩
    have b8 := b7.grown hg8 b7.size (fun k hk => by injection hk with hk; omega)
    clear hg8 b7 hp7
    rw [dead_text] at hp8 ⊢
    simp only at hp8
    go_wp2_with fail
    refine (byte_any g ⟨[], 1⟩ _ hp8).mono ?_
    rintro e w9 ⟨rfl, hp9, hg9⟩
    have b9 := b8.grown hg9 b8.size (fun k hk => by injection hk with hk; omega)
    clear hg9 b8 hp8
    rw [dead_byte] at hp9 ⊢
    simp only at hp9
    go_wp2_with fail
    refine (word_any g ⟨[], 1⟩ _ hp9).mono ?_
    rintro e w10 ⟨rfl, hp10, hg10⟩
    have b10 := b9.grown hg10 b9.size (fun k hk => by injection hk with hk; omega)
    clear hg10 b9 hp9
    rw [dead_word] at hp10 ⊢
    simp only at hp10
    go_wp2_with fail
    refine (err_any g ⟨[], 1⟩ _ hp10).mono ?_
    rintro e wx ⟨rfl, rfl⟩
    go_wp2_with fail
    refine (awake1_any _).mono ?_
    rintro e w9 ⟨rfl, hb9⟩
    go_wp2
    go_ret
    exact RetB.mk' rfl (step_below b10 hb9)
end Go.Proofs.Ytcblmcpmdpnlbaa
