/-
  Layer 8: the reference's Right by its contract.
-/
import Derived.Test.YtcblmcpmdpnlbaaRf2
namespace Go.Proofs.Ytcblmcpmdpnlbaa
open Go.RowKit Mono
attribute [local go_sem] pureAt pureUpon

theorem hasName_drop (s : ByteArray) (l : List Col) {m : Nat} (h : m < l.length) : hasName s (l.drop m) = ((l[m]).name.toList == s.toList || hasName s (l.drop (m + 1))) := by
  unfold hasName; rw [List.drop_eq_getElem_cons h, List.any_cons]
theorem keyed_snoc (l : List Col) (o : Col) : keyedB (l ++ [o]) = (keyedB l || o.key) := by simp [keyedB]
theorem colE_name {c : Col} {l : List Col} (h : namedB c.name = false) : colE c l = 3 := by unfold colE; rw [if_pos h]
theorem colE_has {c : Col} {l : List Col} (h : namedB c.name = true) (h2 : hasName c.name l = true) : colE c l = 9 := by unfold colE; rw [if_neg (by rw [h]; decide), if_pos h2]
theorem colE_type {c : Col} {l : List Col} (h : namedB c.name = true) (h2 : hasName c.name l = false) (h3 : c.type < 1 ∨ 6 < c.type) : colE c l = 11 := by unfold colE; rw [if_neg (by rw [h]; decide), if_neg (by rw [h2]; decide), if_pos h3]
theorem colE_ok {c : Col} {l : List Col} (h : namedB c.name = true) (h2 : hasName c.name l = false) (h3 : ¬(c.type < 1 ∨ 6 < c.type)) : colE c l = 0 := by unfold colE; rw [if_neg (by rw [h]; decide), if_neg (by rw [h2]; decide), if_neg h3]

set_option maxRecDepth 100000 in
set_option maxHeartbeats 3200000 in
theorem rightR_any (r : Rl) (A : Option Addr) (c : Nat) (w : World) (hR : Rd w w.heap.size 3 A r.cs.length (cols r.cs)) (hl : r.cs.length ≤ c) (hc : c ≤ maxLen) (hn : r.name.size ≤ maxLen) (hns : ∀ o ∈ r.cs, o.name.size ≤ maxLen) :
    Calls Try.prog 60 #[r.v A c] w (RetI .i64 r.rightE w) := by
  obtain ⟨o1, v1, n1, i1, cs⟩ := r
  simp only at hR hl hn hns
  have hcm : c ≤ 9223372036854775807 := hc
  have hB : Below w.heap.size w (w.alloc (.cells #[.int .u32 (o1 : Int), .int .u32 (v1 : Int), .string n1, .int .u8 (i1 : Int), .slice A cs.length c] 65)) := (Below.refl _ _).alloc (Nat.le_refl _) _
  have hRa := hR.up hB (Nat.le_refl _) hB.size
  have HR := Lib.hid hRa; have HN := Lib.hid hns; clear hRa hR hns
  by_cases h0 : o1 = 0 ∨ v1 = 0
  · have hx : Rl.rightE ⟨o1, v1, n1, i1, cs⟩ = 4 := by unfold Rl.rightE; rw [if_pos h0]
    have Hx := Lib.hid hx; clear hx
    by_cases h1 : o1 = 0
    · subst h1
      clear h0
      go_enter Try.func60, Try.ntmps60
      unfold Rl.v
      go_wp2
      go_ret
      exact RetI.mk' Hx.out.symm hB
    · have d1 : ((o1 : Int) == 0) = false := by simp; omega
      have h2 : v1 = 0 := h0.resolve_left h1
      subst h2
      clear h0 h1
      go_enter Try.func60, Try.ntmps60
      unfold Rl.v
      go_wp2
      go_ret
      exact RetI.mk' Hx.out.symm hB
  have d1 : ((o1 : Int) == 0) = false := by simp; omega
  have d2 : ((v1 : Int) == 0) = false := by simp; omega
  by_cases hnm : namedB n1 = false
  · have hx : Rl.rightE ⟨o1, v1, n1, i1, cs⟩ = 3 := by unfold Rl.rightE; rw [if_neg h0, if_pos hnm]
    have Hx := Lib.hid hx; have HM := Lib.hid hnm; clear hx h0 hnm
    go_enter Try.func60, Try.ntmps60
    unfold Rl.v
    go_wp2_with fail
    refine (namedR_any n1 _).mono ?_
    rintro e w3 ⟨rfl, rfl⟩
    rw [HM.out]
    go_wp2
    go_ret
    exact RetI.mk' Hx.out.symm hB
  have hnm' : namedB n1 ≠ false := hnm
  rw [Bool.not_eq_false] at hnm
  by_cases hi : 2 < i1
  · have hx : Rl.rightE ⟨o1, v1, n1, i1, cs⟩ = 7 := by unfold Rl.rightE; rw [if_neg h0, if_neg hnm', if_pos hi]
    have d3 : decide ((2 : Int) < (i1 : Int)) = true := by simp; omega
    have Hx := Lib.hid hx; have HM := Lib.hid hnm; clear hx h0 hnm hnm' hi
    go_enter Try.func60, Try.ntmps60
    unfold Rl.v
    go_wp2_with fail
    refine (namedR_any n1 _).mono ?_
    rintro e w3 ⟨rfl, rfl⟩
    rw [HM.out]
    go_wp2
    go_ret
    exact RetI.mk' Hx.out.symm hB
  have d3 : decide ((2 : Int) < (i1 : Int)) = false := by simp; omega
  by_cases hln : cs.length < 1 ∨ 16 < cs.length
  · have hx : Rl.rightE ⟨o1, v1, n1, i1, cs⟩ = 17 := by unfold Rl.rightE; rw [if_neg h0, if_neg hnm', if_neg hi, if_pos hln]
    have Hx := Lib.hid hx; have HM := Lib.hid hnm; clear hx h0 hnm hnm' hi
    by_cases hl1 : cs.length < 1
    · have hnil : cs = [] := List.eq_nil_of_length_eq_zero (by omega)
      subst hnil
      clear hln hl1
      go_enter Try.func60, Try.ntmps60
      unfold Rl.v
      go_wp2_with fail
      refine (namedR_any n1 _).mono ?_
      rintro e w3 ⟨rfl, rfl⟩
      rw [HM.out]
      go_wp2
      go_ret
      exact RetI.mk' Hx.out.symm hB
    · have d4 : ((cs.length : Int) == 0) = false := beq_eq_false_iff_ne.2 (by omega)
      have d5 : decide ((16 : Int) < (cs.length : Int)) = true := by simp; omega
      clear hln hl1
      go_enter Try.func60, Try.ntmps60
      unfold Rl.v
      go_wp2_with fail
      refine (namedR_any n1 _).mono ?_
      rintro e w3 ⟨rfl, rfl⟩
      rw [HM.out]
      go_wp2
      go_ret
      exact RetI.mk' Hx.out.symm hB
  have d4 : ((cs.length : Int) == 0) = false := beq_eq_false_iff_ne.2 (by omega)
  have d5 : decide ((16 : Int) < (cs.length : Int)) = false := by simp; omega
  have hx : Rl.rightE ⟨o1, v1, n1, i1, cs⟩ = if colsE [] cs ≠ 0 then colsE [] cs else if i1 = 1 ∧ keyedB cs = false then 13 else 0 := by unfold Rl.rightE; rw [if_neg h0, if_neg hnm', if_neg hi, if_neg hln]
  have Hx := Lib.hid hx; have HM := Lib.hid hnm; clear hx h0 hnm hnm' hi
  have hlen : 1 ≤ cs.length ∧ cs.length ≤ 16 := by omega
  clear hln
  obtain ⟨hlo, hhi⟩ := hlen
  go_enter Try.func60, Try.ntmps60
  unfold Rl.v
  go_wp2_with fail
  refine (namedR_any n1 _).mono ?_
  rintro e w3 ⟨rfl, rfl⟩
  rw [HM.out]
  go_wp2_with fail
  have hbx := heap_alloc_new w (.cells #[.int .u32 (o1 : Int), .int .u32 (v1 : Int), .string n1, .int .u8 (i1 : Int), .slice A cs.length c] 65)
  have hsz : (w.alloc (.cells #[.int .u32 (o1 : Int), .int .u32 (v1 : Int), .string n1, .int .u8 (i1 : Int), .slice A cs.length c] 65)).heap.size = w.heap.size + 1 := by simp
  generalize w.alloc (.cells #[.int .u32 (o1 : Int), .int .u32 (v1 : Int), .string n1, .int .u8 (i1 : Int), .slice A cs.length c] 65) = w1 at *
  have g3 : w1.cell? ⟨w.heap.size, 3, none⟩ = some (.int .u8 (i1 : Int)) := cell_of_row _ _ 3 _ 65 (0, 0) hbx
  have g4 : w1.cell? ⟨w.heap.size, 4, none⟩ = some (.slice A cs.length c) := cell_of_row _ _ 4 _ 65 (0, 0) hbx
  have HS := Lib.hid hsz; have HX := Lib.hid hbx; clear hsz hbx
  go_loopw [3, 4] (fun y k wr => ∃ j : Nat, k = .int .i64 (j : Int) ∧ y = .bool (keyedB (cs.take j)) ∧ j ≤ cs.length ∧ Hid (colsE (cs.take j) (cs.drop j) = colsE [] cs) ∧ Below w1.heap.size w1 wr) (fun _ k _ => cs.length - (intOf k).toNat)
  case atStart => exact ⟨0, rfl, rfl, by omega, rfl, Below.refl _ _⟩
  case round =>
    obtain ⟨j, rfl, rfl, hj, Ho, hb⟩ := hrel
    obtain ⟨wo, rfl⟩ : ∃ wo : World, wo = wr := ⟨_, rfl⟩
    have hbs := hb.size
    have hsz := HS.out
    have g4w : wo.cell? ⟨w.heap.size, 4, none⟩ = some (.slice A cs.length c) := (hb.cell (show w.heap.size < w1.heap.size by omega)).trans g4
    generalize hky : keyedB (cs.take j) = ky at *
    have HKY := Lib.hid hky; clear hky
    by_cases hlt : j < cs.length
    · obtain ⟨b, off, rfl, hbl, hcc⟩ := (HR.out.below hb (Nat.le_refl _)).col hlt
      obtain ⟨k0, k1, k2⟩ := hcc j hlt
      have htk : Hid (cs.take (j + 1) = cs.take j ++ [cs[j]]) := List.take_succ_eq_append_getElem hlt
      have hlj : (cs.take j).length = j := List.length_take_of_le hj
      have HCC := Lib.hid hcc; clear hcc
      have ho := Ho.out
      rw [List.drop_eq_getElem_cons hlt, colsE_cons] at ho
      generalize cs[j] = o at *
      have hi : (j : Int) < (cs.length : Int) := by omega
      have Ho := Lib.hid ho; have HSz := Lib.hid hsz; have Hlj := Lib.hid hlj; clear ho hsz hlj
      go_wp2_with fail
      have e0 := cell_new wo #[.string o.name, .int .u8 (o.type : Int), .bool o.key] 83 0
      have e1 := cell_new wo #[.string o.name, .int .u8 (o.type : Int), .bool o.key] 83 1
      have e2 := cell_new wo #[.string o.name, .int .u8 (o.type : Int), .bool o.key] 83 2
      have hb5 : Below w1.heap.size w1 (wo.alloc (.cells #[.string o.name, .int .u8 (o.type : Int), .bool o.key] 83)) := hb.alloc hbs _
      have hb55 : Below wo.heap.size wo (wo.alloc (.cells #[.string o.name, .int .u8 (o.type : Int), .bool o.key] 83)) := (Below.refl _ _).alloc (Nat.le_refl _) _
      have hs5 : (wo.alloc (.cells #[.string o.name, .int .u8 (o.type : Int), .bool o.key] 83)).heap.size = wo.heap.size + 1 := by simp
      generalize wo.alloc (.cells #[.string o.name, .int .u8 (o.type : Int), .bool o.key] 83) = w5 at *
      refine (namedR_any o.name _).mono ?_
      rintro e w6 ⟨rfl, rfl⟩
      clear k0 k1 k2
      cases hnm : namedB o.name
      · have hE := colE_name (l := cs.take j) hnm
        have ho := Ho.out
        rw [hE, if_neg (by decide)] at ho
        have hx := Hx.out
        rw [← ho, if_pos (by decide)] at hx
        have Hy := Lib.hid hx; clear hx ho Ho hnm hE htk g4w
        go_wp2
        go_ret
        exact RetI.mk' Hy.out.symm (hB.trans (hb5.mono (by have := HSz.out; omega)))
      have HNM := Lib.hid hnm; clear hnm
      go_wp2_with fail
      go_loopw [6] (fun k wr2 => ∃ m : Nat, k = .int .i64 (m : Int) ∧ m ≤ j ∧ Hid (hasName o.name ((cs.take j).drop m) = hasName o.name (cs.take j)) ∧ Below w5.heap.size w5 wr2) (fun k _ => j - (intOf k).toNat)
      case atStart => exact ⟨0, rfl, by omega, rfl, Below.refl _ _⟩
      case round =>
        obtain ⟨m, rfl, hm, Hm, hb2⟩ := hrel
        have hbs2 := hb2.size
        have hb6 : Below wo.heap.size wo wr := hb55.trans (hb2.mono (by omega))
        have hb7 : Below w1.heap.size w1 wr := hb.trans (hb6.mono hbs)
        have f0 : wr.cell? ⟨wo.heap.size, 0, none⟩ = some (.string o.name) := (hb2.cell (show wo.heap.size < w5.heap.size by omega)).trans e0
        have f1 : wr.cell? ⟨wo.heap.size, 1, none⟩ = some (.int .u8 (o.type : Int)) := (hb2.cell (show wo.heap.size < w5.heap.size by omega)).trans e1
        have f2 : wr.cell? ⟨wo.heap.size, 2, none⟩ = some (.bool o.key) := (hb2.cell (show wo.heap.size < w5.heap.size by omega)).trans e2
        have g4x : wr.cell? ⟨w.heap.size, 4, none⟩ = some (.slice (some ⟨b, off, none⟩) cs.length c) := (hb7.cell (show w.heap.size < w1.heap.size by have := HSz.out; omega)).trans g4
        by_cases hml : m < j
        · have hk0 := (hb6.cell (p := ⟨b, off + m * 3, none⟩) (show b < wo.heap.size by omega)).trans (HCC.out m (by omega)).1
          have hmd := Hm.out
          rw [hasName_drop _ _ (by rw [Hlj.out]; exact hml), List.getElem_take] at hmd
          generalize cs[m] = o' at *
          have hi2 : (m : Int) < (cs.length : Int) := by omega
          have hi3 : (m : Int) < (j : Int) := by omega
          have Hmd := Lib.hid hmd; clear hmd
          go_wp2_with fail
          refine wp_region_fx (fun _ => none) (by kernel_rfl) (by kernel_rfl) ?_
          repeat (first | (refine wpM_skip rfl ?_) | (refine wpM_all rfl rfl (fun K hK => ?_); go_simp; refine hK _ ?_; clear hK K))
          refine wpM_look (.slice (some ⟨b, off, none⟩) cs.length c) rfl rfl (fun w6 hc6 _ => ?_) ?_
          · have c0 : w6.cell? ⟨w.heap.size, 4, none⟩ = some (.slice (some ⟨b, off, none⟩) cs.length c) := by rw [hc6.cell (show w.heap.size < wr.heap.size by have := HSz.out; omega)]; exact g4x
            go_simp
          repeat (first | (refine wpM_skip rfl ?_) | (refine wpM_all rfl rfl (fun K hK => ?_); go_simp; refine hK _ ?_; clear hK K))
          refine wpM_look (.string o'.name) rfl rfl (fun w6 hc6 _ => ?_) ?_
          · have c0 : w6.cell? ⟨b, off + m * 3, none⟩ = some (.string o'.name) := by rw [hc6.cell (show b < wr.heap.size by omega)]; exact hk0
            go_simp
          repeat (first | (refine wpM_skip rfl ?_) | (refine wpM_all rfl rfl (fun K hK => ?_); go_simp; refine hK _ ?_; clear hK K))
          refine wpM_look (.string o.name) rfl rfl (fun w6 hc6 _ => ?_) ?_
          · have c0 : w6.cell? ⟨wo.heap.size, 0, none⟩ = some (.string o.name) := by rw [hc6.cell (show wo.heap.size < wr.heap.size by omega)]; exact f0
            go_simp
          repeat (first | (refine wpM_skip rfl ?_) | (refine wpM_all rfl rfl (fun K hK => ?_); go_simp; refine hK _ ?_; clear hK K))
          refine wpM_nil fun w8 hc8 _ => ?_
          have hb8 := step_below hb2 hc8
          clear hk0 f0 f1 f2 g4x hb7 hb6
          cases heq : (o'.name.toList == o.name.toList)
          · have hmd := Hmd.out
            rw [heq, Bool.false_or] at hmd
            have Hm2 := Lib.hid hmd; clear hmd Hmd Hm
            go_wp2
            go_roundw
            case rel => exact ⟨m + 1, by go_num, by omega, Hm2, hb8⟩
            case measure => simp [intOf]; omega
          · have hmd := Hmd.out
            rw [heq, Bool.true_or] at hmd
            have hE := colE_has HNM.out hmd.symm
            have ho := Ho.out
            rw [hE, if_neg (by decide)] at ho
            have hx := Hx.out
            rw [← ho, if_pos (by decide)] at hx
            have Hy := Lib.hid hx; clear hx ho Ho hE hmd Hmd Hm
            go_wp2
            go_ret
            exact RetI.mk' Hy.out.symm (hB.trans ((hb5.trans (hb8.mono (by omega))).mono (by have := HSz.out; omega)))
        · have hme : m = j := by omega
          have hmd := Hm.out
          rw [hme, List.drop_eq_nil_of_le (by rw [Hlj.out]; exact Nat.le_refl _)] at hmd
          have hhas : hasName o.name (cs.take j) = false := hmd.symm
          clear hmd Hm hme
          by_cases ht : o.type < 1 ∨ 6 < o.type
          · have hE := colE_type HNM.out hhas ht
            have ho := Ho.out
            rw [hE, if_neg (by decide)] at ho
            have hx := Hx.out
            rw [← ho, if_pos (by decide)] at hx
            have Hy := Lib.hid hx; clear hx ho Ho hE hhas
            by_cases ht1 : o.type < 1
            · have dt : decide ((o.type : Int) < 1) = true := by simp; omega
              clear ht ht1
              go_wp2
              go_ret
              exact RetI.mk' Hy.out.symm (hB.trans (hb7.mono (by have := HSz.out; omega)))
            · have dt : decide ((o.type : Int) < 1) = false := by simp; omega
              have dt2 : decide ((6 : Int) < (o.type : Int)) = true := by simp; omega
              clear ht ht1
              go_wp2
              go_ret
              exact RetI.mk' Hy.out.symm (hB.trans (hb7.mono (by have := HSz.out; omega)))
          · have hE := colE_ok HNM.out hhas ht
            have ho := Ho.out
            rw [if_pos hE, ← htk.out] at ho
            have hk := HKY.out
            have hk2 : Hid (keyedB (cs.take (j + 1)) = (ky || o.key)) := by rw [Hid, htk.out, keyed_snoc, hk]
            have dt : decide ((o.type : Int) < 1) = false := by simp; omega
            have dt2 : decide ((6 : Int) < (o.type : Int)) = false := by simp; omega
            have Ho2 := Lib.hid ho; clear ho Ho hE hhas ht hk
            cases ky
            · have hk3 := hk2.out
              rw [Bool.false_or] at hk3
              have HK3 := Lib.hid hk3; clear hk3 hk2
              go_wp2
              go_roundw
              case rel => exact ⟨j + 1, by go_num, by rw [HK3.out], by omega, Ho2, hb7⟩
              case measure => simp [intOf]; omega
            · have hk3 := hk2.out
              rw [Bool.true_or] at hk3
              have HK3 := Lib.hid hk3; clear hk3 hk2
              go_wp2
              go_roundw
              case rel => exact ⟨j + 1, by go_num, by rw [HK3.out], by omega, Ho2, hb7⟩
              case measure => simp [intOf]; omega
    · have hje : j = cs.length := by omega
      have ho := Ho.out
      rw [hje, List.drop_length] at ho
      have hx := Hx.out
      have h0 : colsE (cs.take cs.length) [] = 0 := rfl
      rw [← ho, h0, if_neg (by simp)] at hx
      have hk := HKY.out
      rw [hje, List.take_length] at hk
      rw [hk] at hx
      have Hy := Lib.hid hx; clear hx ho Ho h0 hje hk HKY
      have hc3 : wo.cell? ⟨w.heap.size, 3, none⟩ = some (.int .u8 (i1 : Int)) := (hb.cell (show w.heap.size < w1.heap.size by omega)).trans g3
      have hb7 : Below w.heap.size w wo := hB.trans (hb.mono (by omega))
      by_cases h1 : i1 = 1
      · subst h1
        cases ky
        · have hx := Hy.out
          rw [if_pos (by simp)] at hx
          have Hz := Lib.hid hx; clear hx
          go_wp2
          go_ret
          exact RetI.mk' Hz.out.symm hb7
        · have hx := Hy.out
          rw [if_neg (by simp)] at hx
          have Hz := Lib.hid hx; clear hx
          go_wp2
          go_ret
          exact RetI.mk' Hz.out.symm hb7
      · have hx := Hy.out
        rw [if_neg (fun h => h1 h.1)] at hx
        have dd : ((i1 : Int) == 1) = false := by simp; omega
        have Hz := Lib.hid hx; clear hx h1
        go_wp2
        go_ret
        exact RetI.mk' Hz.out.symm hb7
end Go.Proofs.Ytcblmcpmdpnlbaa
