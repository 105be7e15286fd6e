/-
  Layer 8: Right by its contract.
-/
import Derived.Test.YtcblmcpmdpnlbaaRe8
import Derived.Test.YtcblmcpmdpnlbaaTail
namespace Go.Proofs.Ytcblmcpmdpnlbaa
open Go.RowKit Mono
attribute [local go_sem] pureAt pureUpon

/-- What is wrong with the columns of the rest, behind some others. -/
def colsE : List Col → List Col → Int
  | _, [] => 0
  | ahead, c :: r => if colE c ahead = 0 then colsE (ahead ++ [c]) r else colE c ahead
theorem colsE_cons (ahead : List Col) (c : Col) (r : List Col) : colsE ahead (c :: r) = if colE c ahead = 0 then colsE (ahead ++ [c]) r else colE c ahead := rfl
def Rl.rightE (r : Rl) : Int :=
  if r.oid = 0 ∨ r.ver = 0 then 4 else if namedB r.name = false then 3 else if 2 < r.ident then 7 else if r.cs.length < 1 ∨ 16 < r.cs.length then 17
  else if colsE [] r.cs ≠ 0 then colsE [] r.cs else if r.ident = 1 ∧ keyedB r.cs = false then 13 else 0
theorem column_at (o : Col) (A : Option Addr) (c n : Nat) (l : List Col) (w : World) (hn : l.length = n) (hR : Rd w w.heap.size 3 A n (cols l)) (hl : n ≤ maxLen) (hs : o.name.size ≤ maxLen) :
    Calls Try.prog 62 #[o.v, .slice A n c] w (RetI .i64 (colE o l) w) := by subst hn; exact column_any o A c l w hR hl hs
theorem cols_take (l : List Col) : ∀ k, (cols l).take (k * 3) = cols (l.take k) := by
  induction l with
  | nil => intro k; simp [cols]
  | cons c r ih =>
    intro k
    have e : cols (c :: r) = c.cells ++ cols r := rfl
    cases k with
    | zero => simp [cols]
    | succ k =>
      rw [e, List.take_succ_cons]
      have e2 : cols (c :: r.take k) = c.cells ++ cols (r.take k) := rfl
      rw [e2, ← ih k, List.take_append]
      have h3 : c.cells.length = 3 := rfl
      rw [List.take_of_length_le (by rw [h3]; omega), h3, show (k + 1) * 3 - 3 = k * 3 by omega]

set_option maxRecDepth 100000 in
set_option maxHeartbeats 1600000 in
theorem right_any (r : Rl) (A : Option Addr) (c : Nat) (w : World) (hR : Rd w w.heap.size 3 A r.cs.length (cols r.cs)) (hl : r.cs.length ≤ c) (hc : c ≤ maxLen) (hn : r.name.size ≤ maxLen) (hns : ∀ o ∈ r.cs, o.name.size ≤ maxLen) :
    Calls Try.prog 45 #[r.v A c] w (RetI .i64 r.rightE w) := by
  obtain ⟨o1, v1, n1, i1, cs⟩ := r
  simp only at hR hl hn hns
  have hcm : c ≤ 9223372036854775807 := hc
  have hB : Below w.heap.size w (w.alloc (Rl.box ⟨o1, v1, n1, i1, cs⟩ A c)) := (Below.refl _ _).alloc (Nat.le_refl _) _
  have hRa := hR.up hB (Nat.le_refl _) hB.size
  unfold Rl.box at *
  simp only at *
  have HR := Lib.hid hRa; have HN := Lib.hid hns; clear hRa hR hns
  by_cases h0 : o1 = 0 ∨ v1 = 0
  · have hx : Rl.rightE ⟨o1, v1, n1, i1, cs⟩ = 4 := by unfold Rl.rightE; rw [if_pos h0]
    have Hx := Lib.hid hx; clear hx
    by_cases h1 : o1 = 0
    · subst h1
      clear h0
      go_enter Try.func45, Try.ntmps45
      unfold Rl.v
      go_wp2
      go_ret
      exact RetI.mk' Hx.out.symm hB
    · have d1 : ((o1 : Int) == 0) = false := by simp; omega
      have h2 : v1 = 0 := h0.resolve_left h1
      subst h2
      clear h0 h1
      go_enter Try.func45, Try.ntmps45
      unfold Rl.v
      go_wp2
      go_ret
      exact RetI.mk' Hx.out.symm hB
  have d1 : ((o1 : Int) == 0) = false := by simp; omega
  have d2 : ((v1 : Int) == 0) = false := by simp; omega
  by_cases hnm : namedB n1 = false
  · have hx : Rl.rightE ⟨o1, v1, n1, i1, cs⟩ = 3 := by unfold Rl.rightE; rw [if_neg h0, if_pos hnm]
    have Hx := Lib.hid hx; have HM := Lib.hid hnm; clear hx h0 hnm
    go_enter Try.func45, Try.ntmps45
    unfold Rl.v
    go_wp2_with fail
    refine (named_any n1 _ hn).mono ?_
    rintro e w3 ⟨rfl, rfl⟩
    rw [HM.out]
    go_wp2
    go_ret
    exact RetI.mk' Hx.out.symm hB
  have hnm' : namedB n1 ≠ false := hnm
  rw [Bool.not_eq_false] at hnm
  by_cases hi : 2 < i1
  · have hx : Rl.rightE ⟨o1, v1, n1, i1, cs⟩ = 7 := by unfold Rl.rightE; rw [if_neg h0, if_neg hnm', if_pos hi]
    have d3 : decide ((2 : Int) < (i1 : Int)) = true := by simp; omega
    have Hx := Lib.hid hx; have HM := Lib.hid hnm; clear hx h0 hnm hnm' hi
    go_enter Try.func45, Try.ntmps45
    unfold Rl.v
    go_wp2_with fail
    refine (named_any n1 _ hn).mono ?_
    rintro e w3 ⟨rfl, rfl⟩
    rw [HM.out]
    go_wp2
    go_ret
    exact RetI.mk' Hx.out.symm hB
  have d3 : decide ((2 : Int) < (i1 : Int)) = false := by simp; omega
  by_cases hln : cs.length < 1 ∨ 16 < cs.length
  · have hx : Rl.rightE ⟨o1, v1, n1, i1, cs⟩ = 17 := by unfold Rl.rightE; rw [if_neg h0, if_neg hnm', if_neg hi, if_pos hln]
    have Hx := Lib.hid hx; have HM := Lib.hid hnm; clear hx h0 hnm hnm' hi
    by_cases hl1 : cs.length < 1
    · have d4 : decide ((cs.length : Int) < 1) = true := by simp; omega
      clear hln hl1
      go_enter Try.func45, Try.ntmps45
      unfold Rl.v
      go_wp2_with fail
      refine (named_any n1 _ hn).mono ?_
      rintro e w3 ⟨rfl, rfl⟩
      rw [HM.out]
      go_wp2
      go_ret
      exact RetI.mk' Hx.out.symm hB
    · have d4 : decide ((cs.length : Int) < 1) = false := by simp; omega
      have d5 : decide ((16 : Int) < (cs.length : Int)) = true := by simp; omega
      clear hln hl1
      go_enter Try.func45, Try.ntmps45
      unfold Rl.v
      go_wp2_with fail
      refine (named_any n1 _ hn).mono ?_
      rintro e w3 ⟨rfl, rfl⟩
      rw [HM.out]
      go_wp2
      go_ret
      exact RetI.mk' Hx.out.symm hB
  have d4 : decide ((cs.length : Int) < 1) = false := by simp; omega
  have d5 : decide ((16 : Int) < (cs.length : Int)) = false := by simp; omega
  have hx : Rl.rightE ⟨o1, v1, n1, i1, cs⟩ = if colsE [] cs ≠ 0 then colsE [] cs else if i1 = 1 ∧ keyedB cs = false then 13 else 0 := by unfold Rl.rightE; rw [if_neg h0, if_neg hnm', if_neg hi, if_neg hln]
  have Hx := Lib.hid hx; have HM := Lib.hid hnm; clear hx h0 hnm hnm' hi
  have hlen : 1 ≤ cs.length ∧ cs.length ≤ 16 := by omega
  clear hln
  obtain ⟨hlo, hhi⟩ := hlen
  go_enter Try.func45, Try.ntmps45
  unfold Rl.v
  go_wp2_with fail
  refine (named_any n1 _ hn).mono ?_
  rintro e w3 ⟨rfl, rfl⟩
  rw [HM.out]
  go_wp2_with fail
  have hbx := heap_alloc_new w (.cells #[.int .u32 (o1 : Int), .int .u32 (v1 : Int), .string n1, .int .u8 (i1 : Int), .slice A cs.length c] 69)
  have hsz : (w.alloc (.cells #[.int .u32 (o1 : Int), .int .u32 (v1 : Int), .string n1, .int .u8 (i1 : Int), .slice A cs.length c] 69)).heap.size = w.heap.size + 1 := by simp
  generalize w.alloc (.cells #[.int .u32 (o1 : Int), .int .u32 (v1 : Int), .string n1, .int .u8 (i1 : Int), .slice A cs.length c] 69) = w1 at *
  have g3 : w1.cell? ⟨w.heap.size, 3, none⟩ = some (.int .u8 (i1 : Int)) := cell_of_row _ _ 3 _ 69 (0, 0) hbx
  have g4 : w1.cell? ⟨w.heap.size, 4, none⟩ = some (.slice A cs.length c) := cell_of_row _ _ 4 _ 69 (0, 0) hbx
  have HS := Lib.hid hsz; have HX := Lib.hid hbx; clear hsz hbx
  go_loopw [40] (fun k wr => ∃ j : Nat, k = .int .i64 (j : Int) ∧ j ≤ cs.length ∧ Hid (colsE (cs.take j) (cs.drop j) = colsE [] cs) ∧ Below w1.heap.size w1 wr) (fun k _ => cs.length - (intOf k).toNat)
  case atStart => exact ⟨0, rfl, by omega, rfl, Below.refl _ _⟩
  case round =>
    obtain ⟨j, rfl, hj, Ho, hb⟩ := hrel
    have hbs := hb.size
    have hsz := HS.out
    by_cases hlt : j < cs.length
    · obtain ⟨b, off, rfl, hbl, hcc⟩ := (HR.out.below hb (Nat.le_refl _)).col hlt
      obtain ⟨k0, k1, k2⟩ := hcc j hlt
      have hns : cs[j].name.size ≤ maxLen := HN.out _ (List.getElem_mem hlt)
      have htk : Hid (cs.take (j + 1) = cs.take j ++ [cs[j]]) := List.take_succ_eq_append_getElem hlt
      have hRj : Rd wr wr.heap.size 3 (some ⟨b, off, none⟩) j (cols (cs.take j)) := by
        have := (HR.out.up hb (Nat.le_refl _) hbs).take_ (m := j) (by omega)
        rwa [cols_take] at this
      have hlj : (cs.take j).length = j := List.length_take_of_le hj
      clear hcc
      have ho := Ho.out
      rw [List.drop_eq_getElem_cons hlt, colsE_cons] at ho
      generalize cs[j] = o at *
      have hi : (j : Int) < (cs.length : Int) := by omega
      have hjc : j ≤ c := by omega
      have Ho := Lib.hid ho; have HSz := Lib.hid hsz; have HRj := Lib.hid hRj; have Hlj := Lib.hid hlj; clear ho hsz hRj hlj
      go_wp2_with fail
      have e0 := cell_new wr #[.string o.name, .int .u8 (o.type : Int), .bool o.key] 82 0
      have e1 := cell_new wr #[.string o.name, .int .u8 (o.type : Int), .bool o.key] 82 1
      have e2 := cell_new wr #[.string o.name, .int .u8 (o.type : Int), .bool o.key] 82 2
      have hb5 : Below w1.heap.size w1 (wr.alloc (.cells #[.string o.name, .int .u8 (o.type : Int), .bool o.key] 82)) := hb.alloc hbs _
      have hR5 := HRj.out.alloc (Nat.le_refl _) (.cells #[.string o.name, .int .u8 (o.type : Int), .bool o.key] 82)
      have hs5 : (wr.alloc (.cells #[.string o.name, .int .u8 (o.type : Int), .bool o.key] 82)).heap.size = wr.heap.size + 1 := by simp
      generalize wr.alloc (.cells #[.string o.name, .int .u8 (o.type : Int), .bool o.key] 82) = w5 at *
      refine wp_region_mono _ Ext (gnsE (fun k => if k = 5 then .val (.int .i64 (colE o (cs.take j))) else .any)) (gnsR (fun k => if k = 5 then .val (.int .i64 (colE o (cs.take j))) else .any)) (gns_good _ _) (by kernel_rfl) (by kernel_rfl) (Below.refl w5.heap.size w5).drew ?_
      refine wpM_look (.agg #[.string o.name, .int .u8 (o.type : Int), .bool o.key]) rfl rfl (fun w6 hc6 _ => ?_) ?_
      · have c0 : w6.cell? ⟨wr.heap.size, 0, none⟩ = some (.string o.name) := by rw [hc6.cell (show wr.heap.size < w5.heap.size by omega)]; exact e0
        have c1 : w6.cell? ⟨wr.heap.size, 1, none⟩ = some (.int .u8 (o.type : Int)) := by rw [hc6.cell (show wr.heap.size < w5.heap.size by omega)]; exact e1
        have c2 : w6.cell? ⟨wr.heap.size, 2, none⟩ = some (.bool o.key) := by rw [hc6.cell (show wr.heap.size < w5.heap.size by omega)]; exact e2
        go_simp
      repeat (first | (refine wpM_skip rfl ?_) | (refine wpM_all rfl rfl (fun K hK => ?_); go_simp; refine hK _ ?_; clear hK K))
      refine wpM_look (.slice (some ⟨b, off, none⟩) cs.length c) rfl rfl (fun w6 hc6 _ => ?_) ?_
      · have c0 : w6.cell? ⟨w.heap.size, 4, none⟩ = some (.slice (some ⟨b, off, none⟩) cs.length c) := by rw [hc6.cell (show w.heap.size < w5.heap.size by have := HSz.out; omega), hb5.cell (show w.heap.size < w1.heap.size by have := HSz.out; omega)]; exact g4
        go_simp
      repeat (first | (refine wpM_skip rfl ?_) | (refine wpM_all rfl rfl (fun K hK => ?_); go_simp; refine hK _ ?_; clear hK K))
      refine wpM_eff rfl rfl (fun w6 hc6 _ => steps_enter (column_at o (some ⟨b, off, none⟩) c j (cs.take j) w6 Hlj.out (hR5.up hc6 (by omega) (by have := hc6.size; omega)) (by unfold maxLen; omega) hns) (by go_simp; rfl) (by rintro e w4 ⟨rfl, hb4⟩; exact ⟨_, rfl, hb4, rfl⟩)) ?_
      rintro v5 ⟨_, rfl⟩
      repeat (first | (refine wpM_skip rfl ?_) | (refine wpM_all rfl rfl (fun K hK => ?_); go_simp; refine hK _ ?_; clear hK K))
      refine wpM_nil fun w6 hc6 _ => ?_
      have hb6 : Below w1.heap.size w1 w6 := hb5.trans (hc6.mono (by omega))
      clear hb5 hR5 hs5 e0 e1 e2 k0 k1 k2 hc6
      by_cases hz : colE o (cs.take j) = 0
      · have ho := Ho.out
        rw [if_pos hz, ← htk.out] at ho
        rw [hz]
        have Ho2 := Lib.hid ho; clear ho Ho hz htk
        go_wp2
        go_roundw
        case rel => exact ⟨j + 1, by go_num, by omega, Ho2, hb6⟩
        case measure => simp [intOf]; omega
      · have ho := Ho.out
        rw [if_neg hz] at ho
        have hx := Hx.out
        rw [← ho, if_pos hz] at hx
        have dz : (colE o (cs.take j) != 0) = true := by simpa using hz
        have Hy := Lib.hid hx; clear ho Ho hx htk hz
        generalize colE o (cs.take j) = z at *
        go_wp2
        go_ret
        exact RetI.mk' Hy.out.symm (hB.trans (hb6.mono (by have := HSz.out; omega)))
    · have hje : j = cs.length := by omega
      have ho := Ho.out
      rw [hje, List.drop_length] at ho
      have hx := Hx.out
      have h0 : colsE (cs.take cs.length) [] = 0 := rfl
      rw [← ho, h0, if_neg (by simp)] at hx
      have Hy := Lib.hid hx; clear hx ho Ho h0 hje
      have hc3 : wr.cell? ⟨w.heap.size, 3, none⟩ = some (.int .u8 (i1 : Int)) := (hb.cell (show w.heap.size < w1.heap.size by omega)).trans g3
      by_cases h1 : i1 = 1
      · subst h1
        have Hb : Hid (wr.heap[w.heap.size]? = some (.cells #[.int .u32 (o1 : Int), .int .u32 (v1 : Int), .string n1, .int .u8 (1 : Int), .slice A cs.length c] 69)) := (hb.block _ (by omega)).trans HX.out
        have b0 : wr.cell? ⟨w.heap.size, 0, none⟩ = some (.int .u32 (o1 : Int)) := cell_of_row _ _ 0 _ 69 (0, 0) Hb.out
        have b1 : wr.cell? ⟨w.heap.size, 1, none⟩ = some (.int .u32 (v1 : Int)) := cell_of_row _ _ 1 _ 69 (0, 0) Hb.out
        have b2 : wr.cell? ⟨w.heap.size, 2, none⟩ = some (.string n1) := cell_of_row _ _ 2 _ 69 (0, 0) Hb.out
        have b4 : wr.cell? ⟨w.heap.size, 4, none⟩ = some (.slice A cs.length c) := cell_of_row _ _ 4 _ 69 (0, 0) Hb.out
        have hRw := HR.out.up hb (Nat.le_refl _) hbs
        have HSz := Lib.hid hsz; clear hsz
        go_wp2_with fail
        refine (keyed_any ⟨o1, v1, n1, 1, cs⟩ A c _ hRw (by unfold maxLen; simp only; omega)).mono ?_
        rintro e w6 ⟨rfl, hb6⟩
        have hb7 : Below w.heap.size w w6 := hB.trans ((hb.trans (hb6.mono hbs)).mono (by have := HSz.out; omega))
        cases hk : keyedB cs
        · have hx := Hy.out
          rw [if_pos (by simp [hk])] at hx
          have Hz := Lib.hid hx; clear hx hk
          go_wp2
          go_ret
          exact RetI.mk' Hz.out.symm hb7
        · have hx := Hy.out
          rw [if_neg (by rw [hk]; simp)] at hx
          have Hz := Lib.hid hx; clear hx hk
          go_wp2
          go_ret
          exact RetI.mk' Hz.out.symm hb7
      · have hx := Hy.out
        rw [if_neg (fun h => h1 h.1)] at hx
        have dd : ((i1 : Int) == 1) = false := by simp; omega
        have Hz := Lib.hid hx; clear hx h1
        go_wp2
        go_ret
        exact RetI.mk' Hz.out.symm (hB.trans (hb.mono (by omega)))
end Go.Proofs.Ytcblmcpmdpnlbaa
