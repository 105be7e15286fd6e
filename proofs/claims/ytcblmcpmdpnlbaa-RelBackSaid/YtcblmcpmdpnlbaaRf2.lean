/-
  Layer 8: the reference's Same by its contract.
-/
import Derived.Test.YtcblmcpmdpnlbaaRf1
import Derived.Laws.StructEq
namespace Go.Proofs.Ytcblmcpmdpnlbaa
open Go.RowKit Mono
attribute [local go_sem] pureAt pureUpon

set_option maxRecDepth 100000 in
set_option maxHeartbeats 3200000 in
theorem sameR_any (a b : Rl) (A A' : Option Addr) (c c' : Nat) (w : World) (hR : Rd w w.heap.size 3 A a.cs.length (cols a.cs)) (hR' : Rd w w.heap.size 3 A' b.cs.length (cols b.cs)) (hl : a.cs.length ≤ maxLen) (hl' : b.cs.length ≤ maxLen) :
    Calls Try.prog 47 #[a.v A c, b.v A' c'] w (RetB (a.same b) w) := by
  have q1 : Try.prog.stoodInHeld 59 = false := by kernel_rfl
  have q2 : Try.prog.eqGuardType Try.prog.depth 59 = false := by kernel_rfl
  have q3 : Try.prog.stoodInHeld 83 = false := by kernel_rfl
  have q4 : Try.prog.eqGuardType Try.prog.depth 83 = false := by kernel_rfl
  obtain ⟨o1, v1, n1, i1, l1⟩ := a
  obtain ⟨o2, v2, n2, i2, l2⟩ := b
  simp only at hR hR' hl hl'
  have hm1 : l1.length ≤ 9223372036854775807 := hl
  have hm2 : l2.length ≤ 9223372036854775807 := hl'
  have hB : Below w.heap.size w ((w.alloc (.cells #[.int .u32 (o1 : Int), .int .u32 (v1 : Int), .string n1, .int .u8 (i1 : Int), .slice A l1.length c] 65)).alloc (.cells #[.int .u32 (o2 : Int), .int .u32 (v2 : Int), .string n2, .int .u8 (i2 : Int), .slice A' l2.length c'] 65)) := ((Below.refl _ _).alloc (Nat.le_refl _) _).alloc (by simp) _
  have HRa := Lib.hid (hR.up hB (Nat.le_refl _) hB.size)
  have HRb := Lib.hid (hR'.up hB (Nat.le_refl _) hB.size)
  clear hR hR'
  by_cases h1 : o1 = o2 ∧ v1 = v2 ∧ n1.toList = n2.toList ∧ i1 = i2
  · obtain ⟨rfl, rfl, h3, rfl⟩ := h1
    have hs : Rl.same ⟨o1, v1, n1, i1, l1⟩ ⟨o1, v1, n2, i1, l2⟩ = sameCols l1 l2 := by unfold Rl.same; simp [h3]
    have Hs := Lib.hid hs; clear hs
    by_cases hlen : l1.length = l2.length
    · have hbx := heap_alloc_new w (.cells #[.int .u32 (o1 : Int), .int .u32 (v1 : Int), .string n1, .int .u8 (i1 : Int), .slice A l1.length c] 65)
      have hby := heap_alloc_new (w.alloc (.cells #[.int .u32 (o1 : Int), .int .u32 (v1 : Int), .string n1, .int .u8 (i1 : Int), .slice A l1.length c] 65)) (.cells #[.int .u32 (o1 : Int), .int .u32 (v1 : Int), .string n2, .int .u8 (i1 : Int), .slice A' l2.length c'] 65)
      rw [World.size_alloc] at hby
      have hbx' := (Below.heap_alloc (w.alloc (.cells #[.int .u32 (o1 : Int), .int .u32 (v1 : Int), .string n1, .int .u8 (i1 : Int), .slice A l1.length c] 65)) (.cells #[.int .u32 (o1 : Int), .int .u32 (v1 : Int), .string n2, .int .u8 (i1 : Int), .slice A' l2.length c'] 65) w.heap.size (by simp)).trans hbx
      have hsz : ((w.alloc (.cells #[.int .u32 (o1 : Int), .int .u32 (v1 : Int), .string n1, .int .u8 (i1 : Int), .slice A l1.length c] 65)).alloc (.cells #[.int .u32 (o1 : Int), .int .u32 (v1 : Int), .string n2, .int .u8 (i1 : Int), .slice A' l2.length c'] 65)).heap.size = w.heap.size + 2 := by simp
      clear hbx
      have dl : (((l1.length : Int)) == (l2.length : Int)) = true := by simp; omega
      have dl2 : (((l1.length : Int)) != (l2.length : Int)) = false := by simp; omega
      have HL := Lib.hid hlen; clear hlen
      go_enter Try.func47, Try.ntmps47
      unfold Rl.v
      go_wp2_with fail
      generalize (w.alloc (.cells #[.int .u32 (o1 : Int), .int .u32 (v1 : Int), .string n1, .int .u8 (i1 : Int), .slice A l1.length c] 65)).alloc (.cells #[.int .u32 (o1 : Int), .int .u32 (v1 : Int), .string n2, .int .u8 (i1 : Int), .slice A' l2.length c'] 65) = w1 at *
      have x4 : w1.cell? ⟨w.heap.size, 4, none⟩ = some (.slice A l1.length c) := cell_of_row _ _ 4 _ 65 (0, 0) hbx'
      have y4 : w1.cell? ⟨w.heap.size + 1, 4, none⟩ = some (.slice A' l2.length c') := cell_of_row _ _ 4 _ 65 (0, 0) hby
      clear hbx' hby dl dl2
      have HS := Lib.hid hsz; clear hsz
      go_loopw [5] (fun k wr => ∃ j : Nat, k = .int .i64 (j : Int) ∧ j ≤ l1.length ∧ Hid (sameCols (l1.drop j) (l2.drop j) = sameCols l1 l2) ∧ Below w1.heap.size w1 wr) (fun k _ => l1.length - (intOf k).toNat)
      case atStart => exact ⟨0, rfl, by omega, rfl, Below.refl _ _⟩
      case round =>
        obtain ⟨j, rfl, hj, Ho, hb⟩ := hrel
        have hbs := hb.size
        have g4 : wr.cell? ⟨w.heap.size, 4, none⟩ = some (.slice A l1.length c) := by rw [hb.cell (show w.heap.size < w1.heap.size by have := HS.out; omega)]; exact x4
        have g4' : wr.cell? ⟨w.heap.size + 1, 4, none⟩ = some (.slice A' l2.length c') := by rw [hb.cell (show w.heap.size + 1 < w1.heap.size by have := HS.out; omega)]; exact y4
        by_cases hlt : j < l1.length
        · have hlt' : j < l2.length := by rw [← HL.out]; exact hlt
          obtain ⟨b, off, rfl, hbl, hc⟩ := (HRa.out.below hb (Nat.le_refl _)).col hlt
          obtain ⟨b', off', rfl, hbl', hc'⟩ := (HRb.out.below hb (Nat.le_refl _)).col hlt'
          obtain ⟨k0, k1, k2⟩ := hc j hlt
          obtain ⟨k0', k1', k2'⟩ := hc' j hlt'
          clear hc hc'
          have ho := Ho.out
          rw [List.drop_eq_getElem_cons hlt, List.drop_eq_getElem_cons hlt'] at ho
          generalize l1[j] = o at *
          generalize l2[j] = o' at *
          have hi : (j : Int) < (l1.length : Int) := by omega
          have hi' : (j : Int) < (l2.length : Int) := by omega
          have Ho := Lib.hid ho; clear ho hlt'
          go_wp2_with fail
          refine wp_region_fx (fun _ => none) (by kernel_rfl) (by kernel_rfl) ?_
          repeat (first | (refine wpM_skip rfl ?_) | (refine wpM_all rfl rfl (fun K hK => ?_); go_simp; refine hK _ ?_; clear hK K))
          refine wpM_look (.slice (some ⟨b, off, none⟩) l1.length c) rfl rfl (fun w6 hc6 _ => ?_) ?_
          · have c0 : w6.cell? ⟨w.heap.size, 4, none⟩ = some (.slice (some ⟨b, off, none⟩) l1.length c) := by rw [hc6.cell (show w.heap.size < wr.heap.size by have := HS.out; omega)]; exact g4
            go_simp
          repeat (first | (refine wpM_skip rfl ?_) | (refine wpM_all rfl rfl (fun K hK => ?_); go_simp; refine hK _ ?_; clear hK K))
          refine wpM_look (.agg #[.string o.name, .int .u8 (o.type : Int), .bool o.key]) rfl rfl (fun w5 hc _ => ?_) ?_
          · have hc0 : w5.cell? ⟨b, off + j * 3, none⟩ = some (.string o.name) := by rw [hc.cell (show b < wr.heap.size by omega)]; exact k0
            have hc1 : w5.cell? ⟨b, off + j * 3 + 1, none⟩ = some (.int .u8 (o.type : Int)) := by rw [hc.cell (show b < wr.heap.size by omega)]; exact k1
            have hc2 : w5.cell? ⟨b, off + j * 3 + 2, none⟩ = some (.bool o.key) := by rw [hc.cell (show b < wr.heap.size by omega)]; exact k2
            go_simp
          repeat (first | (refine wpM_skip rfl ?_) | (refine wpM_all rfl rfl (fun K hK => ?_); go_simp; refine hK _ ?_; clear hK K))
          refine wpM_look (.slice (some ⟨b', off', none⟩) l2.length c') rfl rfl (fun w6 hc6 _ => ?_) ?_
          · have c0 : w6.cell? ⟨w.heap.size + 1, 4, none⟩ = some (.slice (some ⟨b', off', none⟩) l2.length c') := by rw [hc6.cell (show w.heap.size + 1 < wr.heap.size by have := HS.out; omega)]; exact g4'
            go_simp
          repeat (first | (refine wpM_skip rfl ?_) | (refine wpM_all rfl rfl (fun K hK => ?_); go_simp; refine hK _ ?_; clear hK K))
          refine wpM_look (.agg #[.string o'.name, .int .u8 (o'.type : Int), .bool o'.key]) rfl rfl (fun w5 hc _ => ?_) ?_
          · have hc0 : w5.cell? ⟨b', off' + j * 3, none⟩ = some (.string o'.name) := by rw [hc.cell (show b' < wr.heap.size by omega)]; exact k0'
            have hc1 : w5.cell? ⟨b', off' + j * 3 + 1, none⟩ = some (.int .u8 (o'.type : Int)) := by rw [hc.cell (show b' < wr.heap.size by omega)]; exact k1'
            have hc2 : w5.cell? ⟨b', off' + j * 3 + 2, none⟩ = some (.bool o'.key) := by rw [hc.cell (show b' < wr.heap.size by omega)]; exact k2'
            go_simp
          refine wpM_all rfl rfl (fun K hK => ?_)
          go_simp
          refine ⟨.bool (!o.same o'), fun w => ?_, hK _ ?_⟩
          · have ht : (o.type == o'.type) = decide ((o.type : Int) = (o'.type : Int)) := by
              by_cases h : o.type = o'.type
              · rw [h]; simp
              · rw [beq_false_of_ne h, decide_eq_false (by omega)]
            unfold Col.same
            rw [ht]
            by_cases h1 : o.name.toList = o'.name.toList <;> by_cases h2 : (o.type : Int) = (o'.type : Int) <;> by_cases h3 : o.key = o'.key <;> simp [h1, h2, h3]
          clear hK K
          refine wpM_nil fun w3 hc3 _ => ?_
          have hb3 := step_below hb hc3
          clear k0 k1 k2 k0' k1' k2' hc3 hb g4 g4'
          by_cases hq : o.same o' = true
          · have ho := Ho.out
            rw [sameCols_cons, hq, Bool.true_and] at ho
            rw [hq]
            have Hx := Lib.hid ho; clear ho Ho hq
            go_wp2
            go_roundw
            case rel => exact ⟨j + 1, by go_num, by omega, Hx, hb3⟩
            case measure => simp [intOf]; omega
          · rw [Bool.not_eq_true] at hq
            have ho := Ho.out
            rw [sameCols_cons, hq, Bool.false_and] at ho
            rw [hq]
            have Hx : Hid (false = Rl.same ⟨o1, v1, n1, i1, l1⟩ ⟨o1, v1, n2, i1, l2⟩) := ho.trans Hs.out.symm
            clear ho Ho hq
            go_wp2
            go_ret
            exact RetB.mk' Hx.out (hB.trans (hb3.mono (by have := HS.out; omega)))
        · have ho := Ho.out
          rw [List.drop_eq_nil_of_le (by omega), List.drop_eq_nil_of_le (by have := HL.out; omega)] at ho
          have Hx : Hid (true = Rl.same ⟨o1, v1, n1, i1, l1⟩ ⟨o1, v1, n2, i1, l2⟩) := Eq.trans (b := sameCols l1 l2) ho Hs.out.symm
          clear ho Ho
          go_wp2
          go_ret
          exact RetB.mk' Hx.out (hB.trans (hb.mono (by have := HS.out; omega)))
    · have d2 : (((l1.length : Int)) != (l2.length : Int)) = true := by simp; omega
      have hx := Hs.out
      rw [sameCols_len hlen] at hx
      have Hx := Lib.hid hx; clear hx hlen
      go_enter Try.func47, Try.ntmps47
      unfold Rl.v
      go_wp2
      go_ret
      exact RetB.mk' Hx.out.symm hB
  · have hs : Rl.same ⟨o1, v1, n1, i1, l1⟩ ⟨o2, v2, n2, i2, l2⟩ = false := by
      rw [← Bool.not_eq_true]
      intro h
      unfold Rl.same at h
      simp at h
      exact h1 ⟨h.1.1, h.1.2, h.2.1, h.2.2.1⟩
    have Hs := Lib.hid hs; have H1 := Lib.hid h1; clear hs h1
    by_cases h2 : o1 = o2
    · subst h2
      by_cases h3 : v1 = v2
      · subst h3
        by_cases h4 : n1.toList = n2.toList
        · have d5 : ((i1 : Int) != (i2 : Int)) = true := by
            have := H1.out
            simp; intro e; exact this ⟨rfl, rfl, h4, by omega⟩
          have H4 := Lib.hid h4
          clear H1
          go_enter Try.func47, Try.ntmps47
          unfold Rl.v
          go_wp2
          go_ret
          exact RetB.mk' Hs.out.symm hB
        · have d4 : (n1.toList == n2.toList) = false := by simpa using h4
          clear H1
          go_enter Try.func47, Try.ntmps47
          unfold Rl.v
          go_wp2
          go_ret
          exact RetB.mk' Hs.out.symm hB
      · have d3 : ((v1 : Int) == (v2 : Int)) = false := by simp; omega
        clear H1 h3
        go_enter Try.func47, Try.ntmps47
        unfold Rl.v
        go_wp2
        go_ret
        exact RetB.mk' Hs.out.symm hB
    · have d3 : ((o1 : Int) == (o2 : Int)) = false := by simp; omega
      clear H1 h2
      go_enter Try.func47, Try.ntmps47
      unfold Rl.v
      go_wp2
      go_ret
      exact RetB.mk' Hs.out.symm hB
end Go.Proofs.Ytcblmcpmdpnlbaa
