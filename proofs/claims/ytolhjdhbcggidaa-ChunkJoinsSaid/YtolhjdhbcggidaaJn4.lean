/-
  Layer 11: ChunkJoins, the walk.
-/
import Derived.Test.YtolhjdhbcggidaaJn2
import Derived.Test.YtolhjdhbcggidaaJn3
namespace Go.Proofs.Ytolhjdhbcggidaa
open Go.RowKit

set_option maxRecDepth 100000 in
set_option maxHeartbeats 1600000 in
theorem chunkJoins_walk (A : Option Addr) (c : Nat) (l : List ByteArray) (A' : Option Addr) (c' : Nat) (sz : List Int) (w : World) (hR : Rd w w.heap.size 1 A l.length (strs l)) (hz : ∀ a ∈ l, a.size ≤ maxLen) (hR' : Rd w w.heap.size 1 A' sz.length (ints sz))
    (hz' : ∀ x ∈ sz, -9223372036854775808 ≤ x ∧ x ≤ 9223372036854775807) (hlc : l.length ≤ c) (hcm : c ≤ maxLen) (hlc' : sz.length ≤ c') (hcm' : c' ≤ maxLen) :
    Calls Try.prog 9 #[.slice A l.length c, .slice A' sz.length c'] w (RetB true w) := by
  have hlm : l.length ≤ maxLen := Nat.le_trans hlc hcm
  have hlm' : sz.length ≤ 9223372036854775807 := Nat.le_trans hlc' hcm'
  have HR := Lib.hid hR; have HR' := Lib.hid hR'; have HZ' := Lib.hid hz'
  clear hR hR' hz'
  go_enter Try.func9, Try.ntmps9
  go_wp2_with fail
  refine (greatS_any l A c 60 w HR.out hlm hz).mono ?_
  rintro e w1 ⟨rfl, hb1⟩
  cases hg : greatB l 60
  · obtain ⟨hs, hn⟩ := great_no (n := 60) hg
    have HS := Lib.hid hs; have HB1 := Lib.hid hb1
    clear hs hb1 hz hg
    by_cases h20 : 20 < sz.length
    · have hd : decide (20 < sz.length) = true := decide_eq_true h20
      have hd2 : decide ((20 : Int) < (sz.length : Int)) = true := decide_eq_true (by omega)
      go_wp2
      go_ret
      exact ⟨rfl, HB1.out⟩
    · have hd : decide (20 < sz.length) = false := decide_eq_false h20
      have hd2 : decide ((20 : Int) < (sz.length : Int)) = false := decide_eq_false (by omega)
      have hR1 := HR.out.up HB1.out (Nat.le_refl _) HB1.out.size
      have hR1' := HR'.out.up HB1.out (Nat.le_refl _) HB1.out.size
      go_wp2_with fail
      refine (join_any l A c sz A' c' w1 hR1 hR1' hlc hcm HS.out (by omega) HZ'.out).mono ?_
      rintro e w2 ⟨A2, n2, c2, rfl, hn2, hc2, hR2, hb2⟩
      have hl2 := hR2.len1
      rw [strs_len] at hl2
      subst hl2
      have hB2 := HB1.out.trans (hb2.mono HB1.out.size)
      have HR2 := Lib.hid hR2; have HB2 := Lib.hid hB2
      clear hR1 hR1' hR2 hb2 hB2
      go_wp2_with fail
      refine (joinR_any l A c sz A' c' w2 (HR.out.up HB2.out (Nat.le_refl _) HB2.out.size) (HR'.out.up HB2.out (Nat.le_refl _) HB2.out.size) (by omega) HS.out (by omega) HZ'.out).mono ?_
      rintro e w3 ⟨A3, n3, c3, rfl, hn3, hc3, hR3, hb3⟩
      have hl3 := hR3.len1
      rw [strs_len] at hl3
      subst hl3
      have hR23 := HR2.out.up hb3 (Nat.le_refl _) hb3.size
      have HR3 := Lib.hid hR3; have HR23 := Lib.hid hR23; have HB3 := Lib.hid (HB2.out.trans (hb3.mono HB2.out.size))
      clear hR3 hR23 hb3 HR2
      generalize jnL l sz = J at *
      generalize jnE l sz = E at *
      go_wp2_with fail
      refine (sameS_any J A2 A3 c2 c3 w3 HR23.out HR3.out (Nat.le_trans hn3 hc3)).mono ?_
      rintro e w4 ⟨rfl, hb4⟩
      have HB4 := Lib.hid (HB3.out.trans (hb4.mono HB3.out.size))
      clear hb4 HR3 HR23
      go_wp2
      go_loop [9] (fun i => ∃ j : Nat, j ≤ sz.length ∧ i = .int .i64 (j : Int) ∧ Hid (∀ x ∈ sz.take j, x ≤ 2048)) (fun i => sz.length - (intOf i).toNat)
      case atStart => exact ⟨0, by omega, rfl, by simp [Hid]⟩
      case round =>
        obtain ⟨j, hj, rfl, ht⟩ := hrel
        by_cases hlt : j < sz.length
        · obtain ⟨g, off, rfl, hg, hc⟩ := (HR'.out.below HB4.out (Nat.le_refl _)).at_ hlt
          have h1 := hc j hlt
          clear hc
          obtain ⟨hx1, hx2⟩ := HZ'.out _ (List.getElem_mem hlt)
          have hi1 : (j : Int) < (sz.length : Int) := by omega
          have htk : Hid (sz.take (j + 1) = sz.take j ++ [sz[j]]) := List.take_succ_eq_append_getElem hlt
          generalize sz[j] = x at *
          by_cases h4 : 2048 < x
          · have hd3 : decide (2048 < x) = true := decide_eq_true h4
            go_wp2_with fail
            refine (awake11_any _).mono ?_
            rintro e w5 ⟨rfl, hb5⟩
            go_wp2
            go_ret
            exact ⟨rfl, HB4.out.trans (hb5.mono HB4.out.size)⟩
          · have hd3 : decide (2048 < x) = false := decide_eq_false h4
            go_wp2
            go_round
            case rel => exact ⟨j + 1, by omega, by go_num, by
              show ∀ x ∈ _, _
              rw [htk.out]
              intro y hy
              rw [List.mem_append] at hy
              rcases hy with hy | hy
              · exact ht.out y hy
              · simp at hy; subst hy; omega⟩
            case measure => simp [intOf]; omega
        · have hok := ht.out
          rw [List.take_of_length_le (by omega)] at hok
          clear ht
          have HOK := Lib.hid (fun x hx => And.intro (HZ'.out x hx).1 (hok x hx))
          clear hok
          go_wp2_with fail
          refine (count_any sz A' c' w4 (HR'.out.up HB4.out (Nat.le_refl _) HB4.out.size) (by omega) HOK.out).mono ?_
          rintro e w5 ⟨rfl, hb5⟩
          have HB5 := Lib.hid (HB4.out.trans (hb5.mono HB4.out.size))
          clear hb5
          go_wp2_with fail
          refine (lengths_any sz A' c' w5 (HR'.out.up HB5.out (Nat.le_refl _) HB5.out.size) (by omega) HOK.out).mono ?_
          rintro e w6 ⟨A6, n6, c6, rfl, hn6, hc6, hR6, hb6⟩
          have hl6 := hR6.len1
          simp only [ints, List.length_map, lensL_len] at hl6
          subst hl6
          have HB6 := Lib.hid (HB5.out.trans (hb6.mono HB5.out.size))
          clear hb6 hR6
          generalize cntL sz = N at *
          go_wp2_with fail
          refine (awake11_any _).mono ?_
          rintro e w7 ⟨rfl, hb7⟩
          go_wp2
          go_ret
          exact ⟨rfl, HB6.out.trans (hb7.mono HB6.out.size)⟩
  · have HB1 := Lib.hid hb1; clear hb1 hg
    go_wp2
    go_ret
    exact ⟨rfl, HB1.out⟩
end Go.Proofs.Ytolhjdhbcggidaa
