/-
  Layer 8: RelOrder, the walk.
-/
import Derived.Test.YtcblmcpmdpnlbaaReB
import Derived.Test.YtcblmcpmdpnlbaaMem
namespace Go.Proofs.Ytcblmcpmdpnlbaa
open Go.RowKit State Mem
attribute [local go_sem] Mono.pureAt Mono.pureUpon

def roL (a1 a2 b1 b2 c1 c2 : Nat) : List (Nat × Kind) :=
  [(15, .box 2 60), (16, .box 2 60), (17, .box 2 60), (18, .store 15 (.lit #[.int .u32 (a1 : Int), .int .u32 (a2 : Int)])), (19, .store 16 (.lit #[.int .u32 (b1 : Int), .int .u32 (b2 : Int)])), (20, .store 17 (.lit #[.int .u32 (c1 : Int), .int .u32 (c2 : Int)]))]
theorem inf60 : ∃ i, Try.prog.info? 60 = some i := Option.isSome_iff_exists.1 (by kernel_rfl)
theorem cellsOf60 : Try.prog.cellsOf 60 = 2 := by kernel_rfl

theorem cmpv_anti (a b : Nat) : cmpv b a = -cmpv a b := by unfold cmpv; (repeat' split) <;> omega
theorem refc_eq (a1 a2 b1 b2 : Nat) : refc (a1, a2) (b1, b2) = if cmpv a1 b1 = 0 then (if cmpv a2 b2 = 0 then 0 else cmpv a2 b2) else cmpv a1 b1 := rfl
theorem cmpv_cases (a b : Nat) : (a < b ∧ cmpv a b = -1) ∨ (a = b ∧ cmpv a b = 0) ∨ (b < a ∧ cmpv a b = 1) := by unfold cmpv; (repeat' split) <;> omega
theorem refc_cases (a1 a2 b1 b2 : Nat) : ((a1 < b1 ∨ (a1 = b1 ∧ a2 < b2)) ∧ refc (a1, a2) (b1, b2) = -1 ∧ refc (b1, b2) (a1, a2) = 1) ∨ ((a1 = b1 ∧ a2 = b2) ∧ refc (a1, a2) (b1, b2) = 0 ∧ refc (b1, b2) (a1, a2) = 0) ∨ ((b1 < a1 ∨ (a1 = b1 ∧ b2 < a2)) ∧ refc (a1, a2) (b1, b2) = 1 ∧ refc (b1, b2) (a1, a2) = -1) := by
  rw [refc_eq, refc_eq, cmpv_anti b1 a1, cmpv_anti b2 a2]
  rcases cmpv_cases b1 a1 with ⟨h1, e1⟩ | ⟨h1, e1⟩ | ⟨h1, e1⟩ <;> rcases cmpv_cases b2 a2 with ⟨h2, e2⟩ | ⟨h2, e2⟩ | ⟨h2, e2⟩ <;> rw [e1, e2] <;> simp <;> omega
def roG (x y : Int) : Nat → Option Fact
  | 2 => some (.val (.int .i64 x))
  | 5 => some (.val (.int .i64 y))
  | 11 => some (.val (.int .i64 x))
  | _ => none
theorem cmp_val {f : Nat → Option Fact} {k : Nat} {x z : Int} {w : World} (hx : Hid (z = x)) (hf : f k = some (.val (.int .i64 x))) : ∀ e w', RetI .i64 z w e w' → ∃ u, e = .returned u ∧ Ext w w' ∧ fxR f k u w' := by
  rintro e w' ⟨rfl, hb⟩
  refine ⟨_, rfl, hb, ?_⟩
  unfold fxR; rw [hf]
  show _ = _
  rw [hx.out]

set_option maxRecDepth 100000 in
set_option maxHeartbeats 1600000 in
theorem relOrder_walk (a1 a2 b1 b2 c1 c2 : Nat) (W : World) :
    Calls Try.prog 9 #[.agg #[.int .u32 (a1 : Int), .int .u32 (a2 : Int)], .agg #[.int .u32 (b1 : Int), .int .u32 (b2 : Int)], .agg #[.int .u32 (c1 : Int), .int .u32 (c2 : Int)]] W (RetB true W) := by
  go_enter Try.func9, Try.ntmps9
  go_wp2_with fail
  have hbA := heap_alloc_new W (.cells #[.int .u32 (a1 : Int), .int .u32 (a2 : Int)] 59)
  have hbB := heap_alloc_new (W.alloc (.cells #[.int .u32 (a1 : Int), .int .u32 (a2 : Int)] 59)) (.cells #[.int .u32 (b1 : Int), .int .u32 (b2 : Int)] 59)
  have hbC := heap_alloc_new ((W.alloc (.cells #[.int .u32 (a1 : Int), .int .u32 (a2 : Int)] 59)).alloc (.cells #[.int .u32 (b1 : Int), .int .u32 (b2 : Int)] 59)) (.cells #[.int .u32 (c1 : Int), .int .u32 (c2 : Int)] 59)
  obtain ⟨W1, hW1⟩ : ∃ w, ((W.alloc (.cells #[.int .u32 (a1 : Int), .int .u32 (a2 : Int)] 59)).alloc (.cells #[.int .u32 (b1 : Int), .int .u32 (b2 : Int)] 59)).alloc (.cells #[.int .u32 (c1 : Int), .int .u32 (c2 : Int)] 59) = w := ⟨_, rfl⟩
  have hsz : W1.heap.size = W.heap.size + 3 := by rw [← hW1]; simp
  have hB1 : Below W.heap.size W W1 := by rw [← hW1]; exact (((Below.refl _ W).alloc (Nat.le_refl _) _).alloc (by simp) _).alloc (by simp; omega) _
  have kA : W1.heap[W.heap.size]? = some (.cells #[.int .u32 (a1 : Int), .int .u32 (a2 : Int)] 59 (0, 0)) := by
    rw [← hW1, Below.heap_alloc _ _ _ (by simp; omega), Below.heap_alloc _ _ _ (by simp)]; exact hbA
  have kB : W1.heap[W.heap.size + 1]? = some (.cells #[.int .u32 (b1 : Int), .int .u32 (b2 : Int)] 59 (0, 0)) := by
    rw [← hW1, Below.heap_alloc _ _ _ (by simp)]; simpa using hbB
  have kC : W1.heap[W.heap.size + 2]? = some (.cells #[.int .u32 (c1 : Int), .int .u32 (c2 : Int)] 59 (0, 0)) := by
    rw [← hW1]; simpa using hbC
  rw [hW1]
  clear hW1 hbA hbB hbC
  have HA := Lib.hid kA; have HB := Lib.hid kB; have HC := Lib.hid kC; clear kA kB kC
  obtain ⟨i60, hi60⟩ := inf60
  have HI := Lib.hid hi60; clear hi60
  refine wp_region_mem (roL a1 a2 b1 b2 c1 c2) (by kernel_rfl) (by kernel_rfl) (by kernel_rfl) (by kernel_rfl) (fun hM hO => ?_)
  repeat (first | (refine State.wpM_skip rfl ?_) | (refine State.wpM_all rfl rfl (fun K hK => ?_); go_simp; refine hK _ ?_; clear hK K))
  refine State.wpM_look (.int .u32 (a1 : Int)) rfl rfl (fun F' w hC _ _ => ?_) ?_
  · have c0 : w.cell? ⟨W.heap.size, 0, none⟩ = some (.int .u32 (a1 : Int)) := cell_of_row _ _ 0 _ 59 (0, 0) ((hC.b.block _ (by omega)).trans HA.out)
    go_simp
  repeat (first | (refine State.wpM_skip rfl ?_) | (refine State.wpM_all rfl rfl (fun K hK => ?_); go_simp; refine hK _ ?_; clear hK K))
  refine State.wpM_look (.int .u32 (a2 : Int)) rfl rfl (fun F' w hC _ _ => ?_) ?_
  · have c0 : w.cell? ⟨W.heap.size, 1, none⟩ = some (.int .u32 (a2 : Int)) := cell_of_row _ _ 1 _ 59 (0, 0) ((hC.b.block _ (by omega)).trans HA.out)
    go_simp
  repeat (first | (refine State.wpM_skip rfl ?_) | (refine State.wpM_all rfl rfl (fun K hK => ?_); go_simp; refine hK _ ?_; clear hK K))
  refine State.wpM_look (.int .u32 (b1 : Int)) rfl rfl (fun F' w hC _ _ => ?_) ?_
  · have c0 : w.cell? ⟨W.heap.size + 1, 0, none⟩ = some (.int .u32 (b1 : Int)) := cell_of_row _ _ 0 _ 59 (0, 0) ((hC.b.block _ (by omega)).trans HB.out)
    go_simp
  repeat (first | (refine State.wpM_skip rfl ?_) | (refine State.wpM_all rfl rfl (fun K hK => ?_); go_simp; refine hK _ ?_; clear hK K))
  refine State.wpM_look (.int .u32 (b2 : Int)) rfl rfl (fun F' w hC _ _ => ?_) ?_
  · have c0 : w.cell? ⟨W.heap.size + 1, 1, none⟩ = some (.int .u32 (b2 : Int)) := cell_of_row _ _ 1 _ 59 (0, 0) ((hC.b.block _ (by omega)).trans HB.out)
    go_simp
  repeat (first | (refine State.wpM_skip rfl ?_) | (refine State.wpM_all rfl rfl (fun K hK => ?_); go_simp; refine hK _ ?_; clear hK K))
  refine State.wpM_look (.int .u32 (c1 : Int)) rfl rfl (fun F' w hC _ _ => ?_) ?_
  · have c0 : w.cell? ⟨W.heap.size + 2, 0, none⟩ = some (.int .u32 (c1 : Int)) := cell_of_row _ _ 0 _ 59 (0, 0) ((hC.b.block _ (by omega)).trans HC.out)
    go_simp
  repeat (first | (refine State.wpM_skip rfl ?_) | (refine State.wpM_all rfl rfl (fun K hK => ?_); go_simp; refine hK _ ?_; clear hK K))
  refine State.wpM_look (.int .u32 (c2 : Int)) rfl rfl (fun F' w hC _ _ => ?_) ?_
  · have c0 : w.cell? ⟨W.heap.size + 2, 1, none⟩ = some (.int .u32 (c2 : Int)) := cell_of_row _ _ 1 _ 59 (0, 0) ((hC.b.block _ (by omega)).trans HC.out)
    go_simp
  repeat (first | (refine State.wpM_skip rfl ?_) | (refine State.wpM_all rfl rfl (fun K hK => ?_); go_simp; refine hK _ ?_; clear hK K))
  refine State.wpM_act rfl rfl (fun F' w hC h0 ha _ => acts_box hM rfl hC h0 ha (cs := #[.int .u32 0, .int .u32 0]) rfl (by go_simp)) ?_
  intro v15 ⟨w15, hC15⟩
  obtain ⟨g15, _, rfl, -⟩ := hC15.box 15 2 60 rfl v15 (by simp [State.upd])
  clear hC15 w15
  refine State.wpM_act rfl rfl (fun F' w hC h0 ha _ => acts_box hM rfl hC h0 ha (cs := #[.int .u32 0, .int .u32 0]) rfl (by go_simp)) ?_
  intro v16 ⟨w16, hC16⟩
  obtain ⟨g16, _, rfl, -⟩ := hC16.box 16 2 60 rfl v16 (by simp [State.upd])
  clear hC16 w16
  refine State.wpM_act rfl rfl (fun F' w hC h0 ha _ => acts_box hM rfl hC h0 ha (cs := #[.int .u32 0, .int .u32 0]) rfl (by go_simp)) ?_
  intro v17 ⟨w17, hC17⟩
  obtain ⟨g17, _, rfl, -⟩ := hC17.box 17 2 60 rfl v17 (by simp [State.upd])
  clear hC17 w17
  refine State.wpM_act rfl rfl (fun F' w hC h0 ha hA => acts_store hM hO (j := 15) (n := 2) (g := g15) (cs := #[.int .u32 (a1 : Int), .int .u32 (a2 : Int)]) rfl rfl hC ha (hA ⟨15, .data⟩ (by simp) rfl) rfl rfl (fun cur hh hz => run_op_store rfl (run_storeAt_whole (v := .agg #[.int .u32 (a1 : Int), .int .u32 (a2 : Int)]) HI.out hh (by rw [cellsOf60]; rfl) (by rw [hz]; rfl) (by simp [Value.cells, Value.oneCell'])))) ?_
  rintro v18 -
  refine State.wpM_act rfl rfl (fun F' w hC h0 ha hA => acts_store hM hO (j := 16) (n := 2) (g := g16) (cs := #[.int .u32 (b1 : Int), .int .u32 (b2 : Int)]) rfl rfl hC ha (hA ⟨16, .data⟩ (by simp) rfl) rfl rfl (fun cur hh hz => run_op_store rfl (run_storeAt_whole (v := .agg #[.int .u32 (b1 : Int), .int .u32 (b2 : Int)]) HI.out hh (by rw [cellsOf60]; rfl) (by rw [hz]; rfl) (by simp [Value.cells, Value.oneCell'])))) ?_
  rintro v19 -
  refine State.wpM_act rfl rfl (fun F' w hC h0 ha hA => acts_store hM hO (j := 17) (n := 2) (g := g17) (cs := #[.int .u32 (c1 : Int), .int .u32 (c2 : Int)]) rfl rfl hC ha (hA ⟨17, .data⟩ (by simp) rfl) rfl rfl (fun cur hh hz => run_op_store rfl (run_storeAt_whole (v := .agg #[.int .u32 (c1 : Int), .int .u32 (c2 : Int)]) HI.out hh (by rw [cellsOf60]; rfl) (by rw [hz]; rfl) (by simp [Value.cells, Value.oneCell'])))) ?_
  rintro v20 -
  refine State.wpM_nil fun w2 hC => ?_
  have r0 := hC.store 18 15 2 60 _ rfl rfl v18 (by simp [State.upd]) g15 (by simp [State.upd]) _ rfl
  have r1 := hC.store 19 16 2 60 _ rfl rfl v19 (by simp [State.upd]) g16 (by simp [State.upd]) _ rfl
  have r2 := hC.store 20 17 2 60 _ rfl rfl v20 (by simp [State.upd]) g17 (by simp [State.upd]) _ rfl
  have hb := hC.b
  have rA := (hb.block _ (by omega)).trans HA.out
  have rB := (hb.block _ (by omega)).trans HB.out
  have R0 := Lib.hid r0; have R1 := Lib.hid r1; have R2 := Lib.hid r2; have RA := Lib.hid rA; have RB := Lib.hid rB; have HS := Lib.hid hsz
  have hW2 : Below W.heap.size W w2 := hB1.trans (hb.mono (by omega))
  clear hC hM hO r0 r1 r2 rA rB hb hB1 hsz HA HB HC HI
  have q1 : Try.prog.stoodInHeld 59 = false := by kernel_rfl
  have q2 : Try.prog.eqGuardType Try.prog.depth 59 = false := by kernel_rfl
  go_wp2_with fail
  rcases refc_cases a1 a2 b1 b2 with ⟨ho, h1, h2⟩ | ⟨ho, h1, h2⟩ | ⟨ho, h1, h2⟩
  · have H1 := Lib.hid h1; have H2 := Lib.hid h2; have HO := Lib.hid ho; clear h1 h2 ho
    have qw : IntKind.i64.wrap (-1) = -1 := by decide
    refine wp_region_fx (roG (-1) (1)) (by kernel_rfl) (by kernel_rfl) ?_
    refine Mono.wpM_look (.agg #[.int .u32 (a1 : Int), .int .u32 (a2 : Int)]) rfl rfl (fun w5 hc _ => ?_) ?_
    · have hh := (hc.block _ (Array.getElem?_eq_some_iff.1 R0.out).1).trans R0.out
      have c0 : w5.cell? ⟨g15, 0, none⟩ = some (.int .u32 (a1 : Int)) := cell_of_row _ _ 0 _ 60 (0, 0) hh
      have c1 : w5.cell? ⟨g15, 1, none⟩ = some (.int .u32 (a2 : Int)) := cell_of_row _ _ 1 _ 60 (0, 0) hh
      clear hh
      go_simp
    refine Mono.wpM_look (.agg #[.int .u32 (b1 : Int), .int .u32 (b2 : Int)]) rfl rfl (fun w5 hc _ => ?_) ?_
    · have hh := (hc.block _ (Array.getElem?_eq_some_iff.1 R1.out).1).trans R1.out
      have c0 : w5.cell? ⟨g16, 0, none⟩ = some (.int .u32 (b1 : Int)) := cell_of_row _ _ 0 _ 60 (0, 0) hh
      have c1 : w5.cell? ⟨g16, 1, none⟩ = some (.int .u32 (b2 : Int)) := cell_of_row _ _ 1 _ 60 (0, 0) hh
      clear hh
      go_simp
    refine Mono.wpM_eff rfl rfl (fun w5 _ _ => steps_enter (refCompare_any a1 a2 b1 b2 w5) (by go_simp) (cmp_val H1 rfl)) ?_
    rintro v2 ⟨_, rfl⟩
    refine Mono.wpM_look (.agg #[.int .u32 (b1 : Int), .int .u32 (b2 : Int)]) rfl rfl (fun w5 hc _ => ?_) ?_
    · have hh := (hc.block _ (Array.getElem?_eq_some_iff.1 R1.out).1).trans R1.out
      have c0 : w5.cell? ⟨g16, 0, none⟩ = some (.int .u32 (b1 : Int)) := cell_of_row _ _ 0 _ 60 (0, 0) hh
      have c1 : w5.cell? ⟨g16, 1, none⟩ = some (.int .u32 (b2 : Int)) := cell_of_row _ _ 1 _ 60 (0, 0) hh
      clear hh
      go_simp
    refine Mono.wpM_look (.agg #[.int .u32 (a1 : Int), .int .u32 (a2 : Int)]) rfl rfl (fun w5 hc _ => ?_) ?_
    · have hh := (hc.block _ (Array.getElem?_eq_some_iff.1 R0.out).1).trans R0.out
      have c0 : w5.cell? ⟨g15, 0, none⟩ = some (.int .u32 (a1 : Int)) := cell_of_row _ _ 0 _ 60 (0, 0) hh
      have c1 : w5.cell? ⟨g15, 1, none⟩ = some (.int .u32 (a2 : Int)) := cell_of_row _ _ 1 _ 60 (0, 0) hh
      clear hh
      go_simp
    refine Mono.wpM_eff rfl rfl (fun w5 _ _ => steps_enter (refCompare_any b1 b2 a1 a2 w5) (by go_simp) (cmp_val H2 rfl)) ?_
    rintro v5 ⟨_, rfl⟩
    repeat (first | (refine Mono.wpM_skip rfl ?_) | (refine Mono.wpM_all rfl rfl (fun K hK => ?_); go_simp; refine hK _ ?_; clear hK K))
    refine Mono.wpM_look (.agg #[.int .u32 (a1 : Int), .int .u32 (a2 : Int)]) rfl rfl (fun w5 hc _ => ?_) ?_
    · have hh := (hc.block _ (Array.getElem?_eq_some_iff.1 R0.out).1).trans R0.out
      have c0 : w5.cell? ⟨g15, 0, none⟩ = some (.int .u32 (a1 : Int)) := cell_of_row _ _ 0 _ 60 (0, 0) hh
      have c1 : w5.cell? ⟨g15, 1, none⟩ = some (.int .u32 (a2 : Int)) := cell_of_row _ _ 1 _ 60 (0, 0) hh
      clear hh
      go_simp
    refine Mono.wpM_look (.agg #[.int .u32 (b1 : Int), .int .u32 (b2 : Int)]) rfl rfl (fun w5 hc _ => ?_) ?_
    · have hh := (hc.block _ (Array.getElem?_eq_some_iff.1 R1.out).1).trans R1.out
      have c0 : w5.cell? ⟨g16, 0, none⟩ = some (.int .u32 (b1 : Int)) := cell_of_row _ _ 0 _ 60 (0, 0) hh
      have c1 : w5.cell? ⟨g16, 1, none⟩ = some (.int .u32 (b2 : Int)) := cell_of_row _ _ 1 _ 60 (0, 0) hh
      clear hh
      go_simp
    refine Mono.wpM_eff rfl rfl (fun w5 _ _ => steps_enter (refCompare_any a1 a2 b1 b2 w5) (by go_simp) (cmp_val H1 rfl)) ?_
    rintro v11 ⟨_, rfl⟩
    repeat (first | (refine Mono.wpM_skip rfl ?_) | (refine Mono.wpM_all rfl rfl (fun K hK => ?_); go_simp; refine hK _ ?_; clear hK K))
    refine Mono.wpM_look (.agg #[.int .u32 (a1 : Int), .int .u32 (a2 : Int)]) rfl rfl (fun w5 hc _ => ?_) ?_
    · have hh := (hc.block _ (Array.getElem?_eq_some_iff.1 RA.out).1).trans RA.out
      have c0 : w5.cell? ⟨W.heap.size, 0, none⟩ = some (.int .u32 (a1 : Int)) := cell_of_row _ _ 0 _ 59 (0, 0) hh
      have c1 : w5.cell? ⟨W.heap.size, 1, none⟩ = some (.int .u32 (a2 : Int)) := cell_of_row _ _ 1 _ 59 (0, 0) hh
      clear hh
      go_simp
    refine Mono.wpM_look (.agg #[.int .u32 (b1 : Int), .int .u32 (b2 : Int)]) rfl rfl (fun w5 hc _ => ?_) ?_
    · have hh := (hc.block _ (Array.getElem?_eq_some_iff.1 RB.out).1).trans RB.out
      have c0 : w5.cell? ⟨W.heap.size + 1, 0, none⟩ = some (.int .u32 (b1 : Int)) := cell_of_row _ _ 0 _ 59 (0, 0) hh
      have c1 : w5.cell? ⟨W.heap.size + 1, 1, none⟩ = some (.int .u32 (b2 : Int)) := cell_of_row _ _ 1 _ 59 (0, 0) hh
      clear hh
      go_simp
    refine Mono.wpM_look (.bool false) rfl rfl (fun w5 hc _ => ?_) ?_
    · go_simp
      by_cases e1 : (a1 : Int) = (b1 : Int)
      · by_cases e2 : (a2 : Int) = (b2 : Int)
        · exfalso; have := HO.out; omega
        · rw [if_pos e1, if_neg e2]; exact ⟨rfl, rfl⟩
      · rw [if_neg e1]; exact ⟨rfl, rfl⟩
    repeat (first | (refine Mono.wpM_skip rfl ?_) | (refine Mono.wpM_all rfl rfl (fun K hK => ?_); go_simp; refine hK _ ?_; clear hK K))
    refine Mono.wpM_nil fun w3 hc3 _ => ?_
    clear qw
    have y0 := (hc3.block _ (Array.getElem?_eq_some_iff.1 R0.out).1).trans R0.out
    have y00 : w3.cell? ⟨g15, 0, none⟩ = some (.int .u32 (a1 : Int)) := cell_of_row _ _ 0 _ 60 (0, 0) y0
    have y01 : w3.cell? ⟨g15, 1, none⟩ = some (.int .u32 (a2 : Int)) := cell_of_row _ _ 1 _ 60 (0, 0) y0
    clear y0
    have y1 := (hc3.block _ (Array.getElem?_eq_some_iff.1 R1.out).1).trans R1.out
    have y10 : w3.cell? ⟨g16, 0, none⟩ = some (.int .u32 (b1 : Int)) := cell_of_row _ _ 0 _ 60 (0, 0) y1
    have y11 : w3.cell? ⟨g16, 1, none⟩ = some (.int .u32 (b2 : Int)) := cell_of_row _ _ 1 _ 60 (0, 0) y1
    clear y1
    have y2 := (hc3.block _ (Array.getElem?_eq_some_iff.1 R2.out).1).trans R2.out
    have y20 : w3.cell? ⟨g17, 0, none⟩ = some (.int .u32 (c1 : Int)) := cell_of_row _ _ 0 _ 60 (0, 0) y2
    have y21 : w3.cell? ⟨g17, 1, none⟩ = some (.int .u32 (c2 : Int)) := cell_of_row _ _ 1 _ 60 (0, 0) y2
    clear y2
    go_wp2_with fail
    refine (refCompare_any a1 a2 b1 b2 _).mono ?_
    rintro e w4 ⟨rfl, hb4⟩
    rw [H1.out]
    clear y00 y01 y10 y11 y20 y21
    have hc4 := hc3.trans (hb4.mono hc3.size)
    have y0 := (hc4.block _ (Array.getElem?_eq_some_iff.1 R0.out).1).trans R0.out
    have y00 : w4.cell? ⟨g15, 0, none⟩ = some (.int .u32 (a1 : Int)) := cell_of_row _ _ 0 _ 60 (0, 0) y0
    have y01 : w4.cell? ⟨g15, 1, none⟩ = some (.int .u32 (a2 : Int)) := cell_of_row _ _ 1 _ 60 (0, 0) y0
    clear y0
    have y1 := (hc4.block _ (Array.getElem?_eq_some_iff.1 R1.out).1).trans R1.out
    have y10 : w4.cell? ⟨g16, 0, none⟩ = some (.int .u32 (b1 : Int)) := cell_of_row _ _ 0 _ 60 (0, 0) y1
    have y11 : w4.cell? ⟨g16, 1, none⟩ = some (.int .u32 (b2 : Int)) := cell_of_row _ _ 1 _ 60 (0, 0) y1
    clear y1
    have y2 := (hc4.block _ (Array.getElem?_eq_some_iff.1 R2.out).1).trans R2.out
    have y20 : w4.cell? ⟨g17, 0, none⟩ = some (.int .u32 (c1 : Int)) := cell_of_row _ _ 0 _ 60 (0, 0) y2
    have y21 : w4.cell? ⟨g17, 1, none⟩ = some (.int .u32 (c2 : Int)) := cell_of_row _ _ 1 _ 60 (0, 0) y2
    clear y2
    go_wp2_with fail
    refine (refCompare_any b1 b2 c1 c2 _).mono ?_
    rintro e w5 ⟨rfl, hb5⟩
    clear y00 y01 y10 y11 y20 y21
    have hc5 := hc4.trans (hb5.mono hc4.size)
    rcases refc_cases b1 b2 c1 c2 with ⟨hp, k1, k2⟩ | ⟨hp, k1, k2⟩ | ⟨hp, k1, k2⟩
    · rw [k1]; have HP := Lib.hid hp; clear k1 k2 hp
      have y0 := (hc5.block _ (Array.getElem?_eq_some_iff.1 R0.out).1).trans R0.out
      have y00 : w5.cell? ⟨g15, 0, none⟩ = some (.int .u32 (a1 : Int)) := cell_of_row _ _ 0 _ 60 (0, 0) y0
      have y01 : w5.cell? ⟨g15, 1, none⟩ = some (.int .u32 (a2 : Int)) := cell_of_row _ _ 1 _ 60 (0, 0) y0
      clear y0
      have y1 := (hc5.block _ (Array.getElem?_eq_some_iff.1 R1.out).1).trans R1.out
      have y10 : w5.cell? ⟨g16, 0, none⟩ = some (.int .u32 (b1 : Int)) := cell_of_row _ _ 0 _ 60 (0, 0) y1
      have y11 : w5.cell? ⟨g16, 1, none⟩ = some (.int .u32 (b2 : Int)) := cell_of_row _ _ 1 _ 60 (0, 0) y1
      clear y1
      have y2 := (hc5.block _ (Array.getElem?_eq_some_iff.1 R2.out).1).trans R2.out
      have y20 : w5.cell? ⟨g17, 0, none⟩ = some (.int .u32 (c1 : Int)) := cell_of_row _ _ 0 _ 60 (0, 0) y2
      have y21 : w5.cell? ⟨g17, 1, none⟩ = some (.int .u32 (c2 : Int)) := cell_of_row _ _ 1 _ 60 (0, 0) y2
      clear y2
      go_wp2_with fail
      refine (refCompare_any a1 a2 c1 c2 _).mono ?_
      rintro e w6 ⟨rfl, hb6⟩
      clear y00 y01 y10 y11 y20 y21
      have hc6 := hc5.trans (hb6.mono hc5.size)
      rcases refc_cases a1 a2 c1 c2 with ⟨hq, k1, k2⟩ | ⟨hq, k1, k2⟩ | ⟨hq, k1, k2⟩
      · rw [k1]; clear k1 k2 hq
        go_wp2_with fail
        refine (awake8_any _).mono ?_
        rintro e w9 ⟨rfl, hb9⟩
        go_wp2
        go_ret
        exact RetB.mk' rfl (hW2.trans ((hc6.trans (hb9.mono hc6.size)).mono (by have := hW2.size; omega)))
      · rw [k1]; clear k1 k2 hq
        go_wp2_with fail
        refine (awake8_any _).mono ?_
        rintro e w9 ⟨rfl, hb9⟩
        go_wp2
        go_ret
        exact RetB.mk' rfl (hW2.trans ((hc6.trans (hb9.mono hc6.size)).mono (by have := hW2.size; omega)))
      · exfalso; have := HO.out; have := HP.out; omega
    · rw [k1]; have HP := Lib.hid hp; clear k1 k2 hp
      have y0 := (hc5.block _ (Array.getElem?_eq_some_iff.1 R0.out).1).trans R0.out
      have y00 : w5.cell? ⟨g15, 0, none⟩ = some (.int .u32 (a1 : Int)) := cell_of_row _ _ 0 _ 60 (0, 0) y0
      have y01 : w5.cell? ⟨g15, 1, none⟩ = some (.int .u32 (a2 : Int)) := cell_of_row _ _ 1 _ 60 (0, 0) y0
      clear y0
      have y1 := (hc5.block _ (Array.getElem?_eq_some_iff.1 R1.out).1).trans R1.out
      have y10 : w5.cell? ⟨g16, 0, none⟩ = some (.int .u32 (b1 : Int)) := cell_of_row _ _ 0 _ 60 (0, 0) y1
      have y11 : w5.cell? ⟨g16, 1, none⟩ = some (.int .u32 (b2 : Int)) := cell_of_row _ _ 1 _ 60 (0, 0) y1
      clear y1
      have y2 := (hc5.block _ (Array.getElem?_eq_some_iff.1 R2.out).1).trans R2.out
      have y20 : w5.cell? ⟨g17, 0, none⟩ = some (.int .u32 (c1 : Int)) := cell_of_row _ _ 0 _ 60 (0, 0) y2
      have y21 : w5.cell? ⟨g17, 1, none⟩ = some (.int .u32 (c2 : Int)) := cell_of_row _ _ 1 _ 60 (0, 0) y2
      clear y2
      go_wp2_with fail
      refine (refCompare_any a1 a2 c1 c2 _).mono ?_
      rintro e w6 ⟨rfl, hb6⟩
      clear y00 y01 y10 y11 y20 y21
      have hc6 := hc5.trans (hb6.mono hc5.size)
      rcases refc_cases a1 a2 c1 c2 with ⟨hq, k1, k2⟩ | ⟨hq, k1, k2⟩ | ⟨hq, k1, k2⟩
      · rw [k1]; clear k1 k2 hq
        go_wp2_with fail
        refine (awake8_any _).mono ?_
        rintro e w9 ⟨rfl, hb9⟩
        go_wp2
        go_ret
        exact RetB.mk' rfl (hW2.trans ((hc6.trans (hb9.mono hc6.size)).mono (by have := hW2.size; omega)))
      · rw [k1]; clear k1 k2 hq
        go_wp2_with fail
        refine (awake8_any _).mono ?_
        rintro e w9 ⟨rfl, hb9⟩
        go_wp2
        go_ret
        exact RetB.mk' rfl (hW2.trans ((hc6.trans (hb9.mono hc6.size)).mono (by have := hW2.size; omega)))
      · exfalso; have := HO.out; have := HP.out; omega
    · rw [k1]; have HP := Lib.hid hp; clear k1 k2 hp
      go_wp2_with fail
      refine (awake8_any _).mono ?_
      rintro e w9 ⟨rfl, hb9⟩
      go_wp2
      go_ret
      exact RetB.mk' rfl (hW2.trans ((hc5.trans (hb9.mono hc5.size)).mono (by have := hW2.size; omega)))
  · have H1 := Lib.hid h1; have H2 := Lib.hid h2; have HO := Lib.hid ho; clear h1 h2 ho
    have qw : IntKind.i64.wrap (0) = 0 := by decide
    refine wp_region_fx (roG (0) (0)) (by kernel_rfl) (by kernel_rfl) ?_
    refine Mono.wpM_look (.agg #[.int .u32 (a1 : Int), .int .u32 (a2 : Int)]) rfl rfl (fun w5 hc _ => ?_) ?_
    · have hh := (hc.block _ (Array.getElem?_eq_some_iff.1 R0.out).1).trans R0.out
      have c0 : w5.cell? ⟨g15, 0, none⟩ = some (.int .u32 (a1 : Int)) := cell_of_row _ _ 0 _ 60 (0, 0) hh
      have c1 : w5.cell? ⟨g15, 1, none⟩ = some (.int .u32 (a2 : Int)) := cell_of_row _ _ 1 _ 60 (0, 0) hh
      clear hh
      go_simp
    refine Mono.wpM_look (.agg #[.int .u32 (b1 : Int), .int .u32 (b2 : Int)]) rfl rfl (fun w5 hc _ => ?_) ?_
    · have hh := (hc.block _ (Array.getElem?_eq_some_iff.1 R1.out).1).trans R1.out
      have c0 : w5.cell? ⟨g16, 0, none⟩ = some (.int .u32 (b1 : Int)) := cell_of_row _ _ 0 _ 60 (0, 0) hh
      have c1 : w5.cell? ⟨g16, 1, none⟩ = some (.int .u32 (b2 : Int)) := cell_of_row _ _ 1 _ 60 (0, 0) hh
      clear hh
      go_simp
    refine Mono.wpM_eff rfl rfl (fun w5 _ _ => steps_enter (refCompare_any a1 a2 b1 b2 w5) (by go_simp) (cmp_val H1 rfl)) ?_
    rintro v2 ⟨_, rfl⟩
    refine Mono.wpM_look (.agg #[.int .u32 (b1 : Int), .int .u32 (b2 : Int)]) rfl rfl (fun w5 hc _ => ?_) ?_
    · have hh := (hc.block _ (Array.getElem?_eq_some_iff.1 R1.out).1).trans R1.out
      have c0 : w5.cell? ⟨g16, 0, none⟩ = some (.int .u32 (b1 : Int)) := cell_of_row _ _ 0 _ 60 (0, 0) hh
      have c1 : w5.cell? ⟨g16, 1, none⟩ = some (.int .u32 (b2 : Int)) := cell_of_row _ _ 1 _ 60 (0, 0) hh
      clear hh
      go_simp
    refine Mono.wpM_look (.agg #[.int .u32 (a1 : Int), .int .u32 (a2 : Int)]) rfl rfl (fun w5 hc _ => ?_) ?_
    · have hh := (hc.block _ (Array.getElem?_eq_some_iff.1 R0.out).1).trans R0.out
      have c0 : w5.cell? ⟨g15, 0, none⟩ = some (.int .u32 (a1 : Int)) := cell_of_row _ _ 0 _ 60 (0, 0) hh
      have c1 : w5.cell? ⟨g15, 1, none⟩ = some (.int .u32 (a2 : Int)) := cell_of_row _ _ 1 _ 60 (0, 0) hh
      clear hh
      go_simp
    refine Mono.wpM_eff rfl rfl (fun w5 _ _ => steps_enter (refCompare_any b1 b2 a1 a2 w5) (by go_simp) (cmp_val H2 rfl)) ?_
    rintro v5 ⟨_, rfl⟩
    repeat (first | (refine Mono.wpM_skip rfl ?_) | (refine Mono.wpM_all rfl rfl (fun K hK => ?_); go_simp; refine hK _ ?_; clear hK K))
    refine Mono.wpM_look (.agg #[.int .u32 (a1 : Int), .int .u32 (a2 : Int)]) rfl rfl (fun w5 hc _ => ?_) ?_
    · have hh := (hc.block _ (Array.getElem?_eq_some_iff.1 R0.out).1).trans R0.out
      have c0 : w5.cell? ⟨g15, 0, none⟩ = some (.int .u32 (a1 : Int)) := cell_of_row _ _ 0 _ 60 (0, 0) hh
      have c1 : w5.cell? ⟨g15, 1, none⟩ = some (.int .u32 (a2 : Int)) := cell_of_row _ _ 1 _ 60 (0, 0) hh
      clear hh
      go_simp
    refine Mono.wpM_look (.agg #[.int .u32 (b1 : Int), .int .u32 (b2 : Int)]) rfl rfl (fun w5 hc _ => ?_) ?_
    · have hh := (hc.block _ (Array.getElem?_eq_some_iff.1 R1.out).1).trans R1.out
      have c0 : w5.cell? ⟨g16, 0, none⟩ = some (.int .u32 (b1 : Int)) := cell_of_row _ _ 0 _ 60 (0, 0) hh
      have c1 : w5.cell? ⟨g16, 1, none⟩ = some (.int .u32 (b2 : Int)) := cell_of_row _ _ 1 _ 60 (0, 0) hh
      clear hh
      go_simp
    refine Mono.wpM_eff rfl rfl (fun w5 _ _ => steps_enter (refCompare_any a1 a2 b1 b2 w5) (by go_simp) (cmp_val H1 rfl)) ?_
    rintro v11 ⟨_, rfl⟩
    repeat (first | (refine Mono.wpM_skip rfl ?_) | (refine Mono.wpM_all rfl rfl (fun K hK => ?_); go_simp; refine hK _ ?_; clear hK K))
    refine Mono.wpM_look (.agg #[.int .u32 (a1 : Int), .int .u32 (a2 : Int)]) rfl rfl (fun w5 hc _ => ?_) ?_
    · have hh := (hc.block _ (Array.getElem?_eq_some_iff.1 RA.out).1).trans RA.out
      have c0 : w5.cell? ⟨W.heap.size, 0, none⟩ = some (.int .u32 (a1 : Int)) := cell_of_row _ _ 0 _ 59 (0, 0) hh
      have c1 : w5.cell? ⟨W.heap.size, 1, none⟩ = some (.int .u32 (a2 : Int)) := cell_of_row _ _ 1 _ 59 (0, 0) hh
      clear hh
      go_simp
    refine Mono.wpM_look (.agg #[.int .u32 (b1 : Int), .int .u32 (b2 : Int)]) rfl rfl (fun w5 hc _ => ?_) ?_
    · have hh := (hc.block _ (Array.getElem?_eq_some_iff.1 RB.out).1).trans RB.out
      have c0 : w5.cell? ⟨W.heap.size + 1, 0, none⟩ = some (.int .u32 (b1 : Int)) := cell_of_row _ _ 0 _ 59 (0, 0) hh
      have c1 : w5.cell? ⟨W.heap.size + 1, 1, none⟩ = some (.int .u32 (b2 : Int)) := cell_of_row _ _ 1 _ 59 (0, 0) hh
      clear hh
      go_simp
    refine Mono.wpM_look (.bool true) rfl rfl (fun w5 hc _ => ?_) ?_
    · go_simp
      have e1 : (a1 : Int) = (b1 : Int) := by have := HO.out; omega
      have e2 : (a2 : Int) = (b2 : Int) := by have := HO.out; omega
      rw [if_pos e1, if_pos e2]; exact ⟨rfl, rfl⟩
    repeat (first | (refine Mono.wpM_skip rfl ?_) | (refine Mono.wpM_all rfl rfl (fun K hK => ?_); go_simp; refine hK _ ?_; clear hK K))
    refine Mono.wpM_nil fun w3 hc3 _ => ?_
    clear qw
    have y0 := (hc3.block _ (Array.getElem?_eq_some_iff.1 R0.out).1).trans R0.out
    have y00 : w3.cell? ⟨g15, 0, none⟩ = some (.int .u32 (a1 : Int)) := cell_of_row _ _ 0 _ 60 (0, 0) y0
    have y01 : w3.cell? ⟨g15, 1, none⟩ = some (.int .u32 (a2 : Int)) := cell_of_row _ _ 1 _ 60 (0, 0) y0
    clear y0
    have y1 := (hc3.block _ (Array.getElem?_eq_some_iff.1 R1.out).1).trans R1.out
    have y10 : w3.cell? ⟨g16, 0, none⟩ = some (.int .u32 (b1 : Int)) := cell_of_row _ _ 0 _ 60 (0, 0) y1
    have y11 : w3.cell? ⟨g16, 1, none⟩ = some (.int .u32 (b2 : Int)) := cell_of_row _ _ 1 _ 60 (0, 0) y1
    clear y1
    have y2 := (hc3.block _ (Array.getElem?_eq_some_iff.1 R2.out).1).trans R2.out
    have y20 : w3.cell? ⟨g17, 0, none⟩ = some (.int .u32 (c1 : Int)) := cell_of_row _ _ 0 _ 60 (0, 0) y2
    have y21 : w3.cell? ⟨g17, 1, none⟩ = some (.int .u32 (c2 : Int)) := cell_of_row _ _ 1 _ 60 (0, 0) y2
    clear y2
    go_wp2_with fail
    refine (refCompare_any a1 a2 b1 b2 _).mono ?_
    rintro e w4 ⟨rfl, hb4⟩
    rw [H1.out]
    clear y00 y01 y10 y11 y20 y21
    have hc4 := hc3.trans (hb4.mono hc3.size)
    have y0 := (hc4.block _ (Array.getElem?_eq_some_iff.1 R0.out).1).trans R0.out
    have y00 : w4.cell? ⟨g15, 0, none⟩ = some (.int .u32 (a1 : Int)) := cell_of_row _ _ 0 _ 60 (0, 0) y0
    have y01 : w4.cell? ⟨g15, 1, none⟩ = some (.int .u32 (a2 : Int)) := cell_of_row _ _ 1 _ 60 (0, 0) y0
    clear y0
    have y1 := (hc4.block _ (Array.getElem?_eq_some_iff.1 R1.out).1).trans R1.out
    have y10 : w4.cell? ⟨g16, 0, none⟩ = some (.int .u32 (b1 : Int)) := cell_of_row _ _ 0 _ 60 (0, 0) y1
    have y11 : w4.cell? ⟨g16, 1, none⟩ = some (.int .u32 (b2 : Int)) := cell_of_row _ _ 1 _ 60 (0, 0) y1
    clear y1
    have y2 := (hc4.block _ (Array.getElem?_eq_some_iff.1 R2.out).1).trans R2.out
    have y20 : w4.cell? ⟨g17, 0, none⟩ = some (.int .u32 (c1 : Int)) := cell_of_row _ _ 0 _ 60 (0, 0) y2
    have y21 : w4.cell? ⟨g17, 1, none⟩ = some (.int .u32 (c2 : Int)) := cell_of_row _ _ 1 _ 60 (0, 0) y2
    clear y2
    go_wp2_with fail
    refine (refCompare_any b1 b2 c1 c2 _).mono ?_
    rintro e w5 ⟨rfl, hb5⟩
    clear y00 y01 y10 y11 y20 y21
    have hc5 := hc4.trans (hb5.mono hc4.size)
    rcases refc_cases b1 b2 c1 c2 with ⟨hp, k1, k2⟩ | ⟨hp, k1, k2⟩ | ⟨hp, k1, k2⟩
    · rw [k1]; have HP := Lib.hid hp; clear k1 k2 hp
      have y0 := (hc5.block _ (Array.getElem?_eq_some_iff.1 R0.out).1).trans R0.out
      have y00 : w5.cell? ⟨g15, 0, none⟩ = some (.int .u32 (a1 : Int)) := cell_of_row _ _ 0 _ 60 (0, 0) y0
      have y01 : w5.cell? ⟨g15, 1, none⟩ = some (.int .u32 (a2 : Int)) := cell_of_row _ _ 1 _ 60 (0, 0) y0
      clear y0
      have y1 := (hc5.block _ (Array.getElem?_eq_some_iff.1 R1.out).1).trans R1.out
      have y10 : w5.cell? ⟨g16, 0, none⟩ = some (.int .u32 (b1 : Int)) := cell_of_row _ _ 0 _ 60 (0, 0) y1
      have y11 : w5.cell? ⟨g16, 1, none⟩ = some (.int .u32 (b2 : Int)) := cell_of_row _ _ 1 _ 60 (0, 0) y1
      clear y1
      have y2 := (hc5.block _ (Array.getElem?_eq_some_iff.1 R2.out).1).trans R2.out
      have y20 : w5.cell? ⟨g17, 0, none⟩ = some (.int .u32 (c1 : Int)) := cell_of_row _ _ 0 _ 60 (0, 0) y2
      have y21 : w5.cell? ⟨g17, 1, none⟩ = some (.int .u32 (c2 : Int)) := cell_of_row _ _ 1 _ 60 (0, 0) y2
      clear y2
      go_wp2_with fail
      refine (refCompare_any a1 a2 c1 c2 _).mono ?_
      rintro e w6 ⟨rfl, hb6⟩
      clear y00 y01 y10 y11 y20 y21
      have hc6 := hc5.trans (hb6.mono hc5.size)
      rcases refc_cases a1 a2 c1 c2 with ⟨hq, k1, k2⟩ | ⟨hq, k1, k2⟩ | ⟨hq, k1, k2⟩
      · rw [k1]; clear k1 k2 hq
        go_wp2_with fail
        refine (awake8_any _).mono ?_
        rintro e w9 ⟨rfl, hb9⟩
        go_wp2
        go_ret
        exact RetB.mk' rfl (hW2.trans ((hc6.trans (hb9.mono hc6.size)).mono (by have := hW2.size; omega)))
      · rw [k1]; clear k1 k2 hq
        go_wp2_with fail
        refine (awake8_any _).mono ?_
        rintro e w9 ⟨rfl, hb9⟩
        go_wp2
        go_ret
        exact RetB.mk' rfl (hW2.trans ((hc6.trans (hb9.mono hc6.size)).mono (by have := hW2.size; omega)))
      · exfalso; have := HO.out; have := HP.out; omega
    · rw [k1]; have HP := Lib.hid hp; clear k1 k2 hp
      have y0 := (hc5.block _ (Array.getElem?_eq_some_iff.1 R0.out).1).trans R0.out
      have y00 : w5.cell? ⟨g15, 0, none⟩ = some (.int .u32 (a1 : Int)) := cell_of_row _ _ 0 _ 60 (0, 0) y0
      have y01 : w5.cell? ⟨g15, 1, none⟩ = some (.int .u32 (a2 : Int)) := cell_of_row _ _ 1 _ 60 (0, 0) y0
      clear y0
      have y1 := (hc5.block _ (Array.getElem?_eq_some_iff.1 R1.out).1).trans R1.out
      have y10 : w5.cell? ⟨g16, 0, none⟩ = some (.int .u32 (b1 : Int)) := cell_of_row _ _ 0 _ 60 (0, 0) y1
      have y11 : w5.cell? ⟨g16, 1, none⟩ = some (.int .u32 (b2 : Int)) := cell_of_row _ _ 1 _ 60 (0, 0) y1
      clear y1
      have y2 := (hc5.block _ (Array.getElem?_eq_some_iff.1 R2.out).1).trans R2.out
      have y20 : w5.cell? ⟨g17, 0, none⟩ = some (.int .u32 (c1 : Int)) := cell_of_row _ _ 0 _ 60 (0, 0) y2
      have y21 : w5.cell? ⟨g17, 1, none⟩ = some (.int .u32 (c2 : Int)) := cell_of_row _ _ 1 _ 60 (0, 0) y2
      clear y2
      go_wp2_with fail
      refine (refCompare_any a1 a2 c1 c2 _).mono ?_
      rintro e w6 ⟨rfl, hb6⟩
      clear y00 y01 y10 y11 y20 y21
      have hc6 := hc5.trans (hb6.mono hc5.size)
      rcases refc_cases a1 a2 c1 c2 with ⟨hq, k1, k2⟩ | ⟨hq, k1, k2⟩ | ⟨hq, k1, k2⟩
      · rw [k1]; clear k1 k2 hq
        go_wp2_with fail
        refine (awake8_any _).mono ?_
        rintro e w9 ⟨rfl, hb9⟩
        go_wp2
        go_ret
        exact RetB.mk' rfl (hW2.trans ((hc6.trans (hb9.mono hc6.size)).mono (by have := hW2.size; omega)))
      · rw [k1]; clear k1 k2 hq
        go_wp2_with fail
        refine (awake8_any _).mono ?_
        rintro e w9 ⟨rfl, hb9⟩
        go_wp2
        go_ret
        exact RetB.mk' rfl (hW2.trans ((hc6.trans (hb9.mono hc6.size)).mono (by have := hW2.size; omega)))
      · exfalso; have := HO.out; have := HP.out; omega
    · rw [k1]; have HP := Lib.hid hp; clear k1 k2 hp
      go_wp2_with fail
      refine (awake8_any _).mono ?_
      rintro e w9 ⟨rfl, hb9⟩
      go_wp2
      go_ret
      exact RetB.mk' rfl (hW2.trans ((hc5.trans (hb9.mono hc5.size)).mono (by have := hW2.size; omega)))
  · have H1 := Lib.hid h1; have H2 := Lib.hid h2; have HO := Lib.hid ho; clear h1 h2 ho
    have qw : IntKind.i64.wrap (1) = 1 := by decide
    have qw2 : IntKind.i64.wrap (- -1) = 1 := by decide
    refine wp_region_fx (roG (1) (-1)) (by kernel_rfl) (by kernel_rfl) ?_
    refine Mono.wpM_look (.agg #[.int .u32 (a1 : Int), .int .u32 (a2 : Int)]) rfl rfl (fun w5 hc _ => ?_) ?_
    · have hh := (hc.block _ (Array.getElem?_eq_some_iff.1 R0.out).1).trans R0.out
      have c0 : w5.cell? ⟨g15, 0, none⟩ = some (.int .u32 (a1 : Int)) := cell_of_row _ _ 0 _ 60 (0, 0) hh
      have c1 : w5.cell? ⟨g15, 1, none⟩ = some (.int .u32 (a2 : Int)) := cell_of_row _ _ 1 _ 60 (0, 0) hh
      clear hh
      go_simp
    refine Mono.wpM_look (.agg #[.int .u32 (b1 : Int), .int .u32 (b2 : Int)]) rfl rfl (fun w5 hc _ => ?_) ?_
    · have hh := (hc.block _ (Array.getElem?_eq_some_iff.1 R1.out).1).trans R1.out
      have c0 : w5.cell? ⟨g16, 0, none⟩ = some (.int .u32 (b1 : Int)) := cell_of_row _ _ 0 _ 60 (0, 0) hh
      have c1 : w5.cell? ⟨g16, 1, none⟩ = some (.int .u32 (b2 : Int)) := cell_of_row _ _ 1 _ 60 (0, 0) hh
      clear hh
      go_simp
    refine Mono.wpM_eff rfl rfl (fun w5 _ _ => steps_enter (refCompare_any a1 a2 b1 b2 w5) (by go_simp) (cmp_val H1 rfl)) ?_
    rintro v2 ⟨_, rfl⟩
    refine Mono.wpM_look (.agg #[.int .u32 (b1 : Int), .int .u32 (b2 : Int)]) rfl rfl (fun w5 hc _ => ?_) ?_
    · have hh := (hc.block _ (Array.getElem?_eq_some_iff.1 R1.out).1).trans R1.out
      have c0 : w5.cell? ⟨g16, 0, none⟩ = some (.int .u32 (b1 : Int)) := cell_of_row _ _ 0 _ 60 (0, 0) hh
      have c1 : w5.cell? ⟨g16, 1, none⟩ = some (.int .u32 (b2 : Int)) := cell_of_row _ _ 1 _ 60 (0, 0) hh
      clear hh
      go_simp
    refine Mono.wpM_look (.agg #[.int .u32 (a1 : Int), .int .u32 (a2 : Int)]) rfl rfl (fun w5 hc _ => ?_) ?_
    · have hh := (hc.block _ (Array.getElem?_eq_some_iff.1 R0.out).1).trans R0.out
      have c0 : w5.cell? ⟨g15, 0, none⟩ = some (.int .u32 (a1 : Int)) := cell_of_row _ _ 0 _ 60 (0, 0) hh
      have c1 : w5.cell? ⟨g15, 1, none⟩ = some (.int .u32 (a2 : Int)) := cell_of_row _ _ 1 _ 60 (0, 0) hh
      clear hh
      go_simp
    refine Mono.wpM_eff rfl rfl (fun w5 _ _ => steps_enter (refCompare_any b1 b2 a1 a2 w5) (by go_simp) (cmp_val H2 rfl)) ?_
    rintro v5 ⟨_, rfl⟩
    repeat (first | (refine Mono.wpM_skip rfl ?_) | (refine Mono.wpM_all rfl rfl (fun K hK => ?_); go_simp; refine hK _ ?_; clear hK K))
    refine Mono.wpM_look (.agg #[.int .u32 (a1 : Int), .int .u32 (a2 : Int)]) rfl rfl (fun w5 hc _ => ?_) ?_
    · have hh := (hc.block _ (Array.getElem?_eq_some_iff.1 R0.out).1).trans R0.out
      have c0 : w5.cell? ⟨g15, 0, none⟩ = some (.int .u32 (a1 : Int)) := cell_of_row _ _ 0 _ 60 (0, 0) hh
      have c1 : w5.cell? ⟨g15, 1, none⟩ = some (.int .u32 (a2 : Int)) := cell_of_row _ _ 1 _ 60 (0, 0) hh
      clear hh
      go_simp
    refine Mono.wpM_look (.agg #[.int .u32 (b1 : Int), .int .u32 (b2 : Int)]) rfl rfl (fun w5 hc _ => ?_) ?_
    · have hh := (hc.block _ (Array.getElem?_eq_some_iff.1 R1.out).1).trans R1.out
      have c0 : w5.cell? ⟨g16, 0, none⟩ = some (.int .u32 (b1 : Int)) := cell_of_row _ _ 0 _ 60 (0, 0) hh
      have c1 : w5.cell? ⟨g16, 1, none⟩ = some (.int .u32 (b2 : Int)) := cell_of_row _ _ 1 _ 60 (0, 0) hh
      clear hh
      go_simp
    refine Mono.wpM_eff rfl rfl (fun w5 _ _ => steps_enter (refCompare_any a1 a2 b1 b2 w5) (by go_simp) (cmp_val H1 rfl)) ?_
    rintro v11 ⟨_, rfl⟩
    repeat (first | (refine Mono.wpM_skip rfl ?_) | (refine Mono.wpM_all rfl rfl (fun K hK => ?_); go_simp; refine hK _ ?_; clear hK K))
    refine Mono.wpM_look (.agg #[.int .u32 (a1 : Int), .int .u32 (a2 : Int)]) rfl rfl (fun w5 hc _ => ?_) ?_
    · have hh := (hc.block _ (Array.getElem?_eq_some_iff.1 RA.out).1).trans RA.out
      have c0 : w5.cell? ⟨W.heap.size, 0, none⟩ = some (.int .u32 (a1 : Int)) := cell_of_row _ _ 0 _ 59 (0, 0) hh
      have c1 : w5.cell? ⟨W.heap.size, 1, none⟩ = some (.int .u32 (a2 : Int)) := cell_of_row _ _ 1 _ 59 (0, 0) hh
      clear hh
      go_simp
    refine Mono.wpM_look (.agg #[.int .u32 (b1 : Int), .int .u32 (b2 : Int)]) rfl rfl (fun w5 hc _ => ?_) ?_
    · have hh := (hc.block _ (Array.getElem?_eq_some_iff.1 RB.out).1).trans RB.out
      have c0 : w5.cell? ⟨W.heap.size + 1, 0, none⟩ = some (.int .u32 (b1 : Int)) := cell_of_row _ _ 0 _ 59 (0, 0) hh
      have c1 : w5.cell? ⟨W.heap.size + 1, 1, none⟩ = some (.int .u32 (b2 : Int)) := cell_of_row _ _ 1 _ 59 (0, 0) hh
      clear hh
      go_simp
    refine Mono.wpM_look (.bool false) rfl rfl (fun w5 hc _ => ?_) ?_
    · go_simp
      by_cases e1 : (a1 : Int) = (b1 : Int)
      · by_cases e2 : (a2 : Int) = (b2 : Int)
        · exfalso; have := HO.out; omega
        · rw [if_pos e1, if_neg e2]; exact ⟨rfl, rfl⟩
      · rw [if_neg e1]; exact ⟨rfl, rfl⟩
    repeat (first | (refine Mono.wpM_skip rfl ?_) | (refine Mono.wpM_all rfl rfl (fun K hK => ?_); go_simp; refine hK _ ?_; clear hK K))
    refine Mono.wpM_nil fun w3 hc3 _ => ?_
    clear qw qw2
    have y0 := (hc3.block _ (Array.getElem?_eq_some_iff.1 R0.out).1).trans R0.out
    have y00 : w3.cell? ⟨g15, 0, none⟩ = some (.int .u32 (a1 : Int)) := cell_of_row _ _ 0 _ 60 (0, 0) y0
    have y01 : w3.cell? ⟨g15, 1, none⟩ = some (.int .u32 (a2 : Int)) := cell_of_row _ _ 1 _ 60 (0, 0) y0
    clear y0
    have y1 := (hc3.block _ (Array.getElem?_eq_some_iff.1 R1.out).1).trans R1.out
    have y10 : w3.cell? ⟨g16, 0, none⟩ = some (.int .u32 (b1 : Int)) := cell_of_row _ _ 0 _ 60 (0, 0) y1
    have y11 : w3.cell? ⟨g16, 1, none⟩ = some (.int .u32 (b2 : Int)) := cell_of_row _ _ 1 _ 60 (0, 0) y1
    clear y1
    have y2 := (hc3.block _ (Array.getElem?_eq_some_iff.1 R2.out).1).trans R2.out
    have y20 : w3.cell? ⟨g17, 0, none⟩ = some (.int .u32 (c1 : Int)) := cell_of_row _ _ 0 _ 60 (0, 0) y2
    have y21 : w3.cell? ⟨g17, 1, none⟩ = some (.int .u32 (c2 : Int)) := cell_of_row _ _ 1 _ 60 (0, 0) y2
    clear y2
    go_wp2_with fail
    refine (refCompare_any a1 a2 b1 b2 _).mono ?_
    rintro e w4 ⟨rfl, hb4⟩
    rw [H1.out]
    clear y00 y01 y10 y11 y20 y21
    have hc4 := hc3.trans (hb4.mono hc3.size)
    go_wp2_with fail
    refine (awake8_any _).mono ?_
    rintro e w9 ⟨rfl, hb9⟩
    go_wp2
    go_ret
    exact RetB.mk' rfl (hW2.trans ((hc4.trans (hb9.mono hc4.size)).mono (by have := hW2.size; omega)))
end Go.Proofs.Ytcblmcpmdpnlbaa
