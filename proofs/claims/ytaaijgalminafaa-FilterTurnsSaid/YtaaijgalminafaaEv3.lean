/-
  Layer 24: an event's copy (f36) (printed by gen_ev3.py).
-/
import Derived.Test.YtaaijgalminafaaEv2
namespace Go.Proofs.Ytaaijgalminafaa
open Go.RowKit Mono
attribute [local go_sem] pureAt pureUpon
attribute [local irreducible] Mono.steps Mono.wpM

def Fact.ro {α : Type} (K : Kd α) (S : Nat → Prop) (b0 : Nat) (hS : ∀ b, S b → b < b0) (l : List α) : Fact := ⟨fun v w => ∃ A c, v = .slice A l.length c ∧ b0 ≤ w.heap.size ∧ RoAt K w (Since S b0 w) ⟨l, A, c⟩, fun _ _ _ ⟨A, c, h1, h2, h3⟩ hb => ⟨A, c, h1, Nat.le_trans h2 hb.size, h3.up (Same.below hb (Since.lt fun b h => Nat.lt_of_lt_of_le (hS b h) h2)) (Since.up hb.size)⟩⟩
theorem ro_val {α : Type} {K : Kd α} {S : Nat → Prop} {b0 : Nat} {hS : ∀ b, S b → b < b0} {l : List α} {f : Nat → Option Fact} {k : Nat} {w : World} (hw : b0 ≤ w.heap.size) (hf : f k = some (.ro K S b0 hS l)) : ∀ e w', RetRo K S l w e w' → ∃ u, e = .returned u ∧ Ext w w' ∧ fxR f k u w' := by
  rintro e w' ⟨A, c, rfl, h3, h4⟩
  refine ⟨_, rfl, h4, ?_⟩
  unfold fxR; rw [hf]
  exact ⟨A, c, rfl, Nat.le_trans hw h4.size, h3.up (Same.refl _ _) fun b h => h.imp id fun ⟨h1, h2⟩ => ⟨Nat.le_trans hw h1, h2⟩⟩
/-- A call returned an event, out of S and what is new. -/
def RetEv (K : Kd Ce) (S : Nat → Prop) (x : Ev) (w : World) (e : Ending) (w' : World) : Prop := ∃ y : Er, y.ev = x ∧ e = .returned ((KE K).v y) ∧ ErAt K w' (Since S w.heap.size w') y ∧ Below w.heap.size w w'
def cpF (S : Nat → Prop) (b0 : Nat) (hS : ∀ b, S b → b < b0) (b a : List Ce) (r : List Rf) : Nat → Option Fact
  | 2 => some (.ro KP S b0 hS b)
  | 5 => some (.ro KP S b0 hS a)
  | 8 => some (.ro KF S b0 hS r)
  | _ => none
set_option maxRecDepth 100000 in
set_option maxHeartbeats 6400000 in
theorem copy_any (x : Er) (S : Nat → Prop) (w : World) (hx : ErAt KP w S x) (hS : ∀ b, S b → b < w.heap.size) (hs : x.ev.Sm) : Calls Try.prog 36 #[(KE KP).v x] w (RetEv KP S x.ev w) := by
  obtain ⟨kd, ⟨oid, ver⟩, old, ⟨l1, A1, c1⟩, ⟨l2, A2, c2⟩, ⟨l3, A3, c3⟩, fl⟩ := x
  obtain ⟨hs1, hs2, hs3⟩ := hs
  simp only [Er.ev] at hs1 hs2 hs3
  have HX := Lib.hid hx; clear hx
  show Calls Try.prog 36 #[.agg #[.int .u8 kd, .int .u32 oid, .int .u32 ver, .int .u8 old, .slice A1 l1.length c1, .slice A2 l2.length c2, .slice A3 l3.length c3, .int .u8 fl]] w _
  go_enter Try.func36, Try.ntmps36
  go_wp2_with fail
  generalize hW : World.alloc (World.alloc w _) _ = W
  have hb0 : Below w.heap.size w W := by rw [← hW]; exact ((Below.refl _ w).alloc (Nat.le_refl _) _).alloc (by simp) _
  have p0 : W.heap[w.heap.size]? = some (.cells #[.int .u8 kd, .int .u32 oid, .int .u32 ver, .int .u8 old, .slice A1 l1.length c1, .slice A2 l2.length c2, .slice A3 l3.length c3, .int .u8 fl] 61 (0, 0)) := by
    rw [← hW, heap_alloc_old _ _ (by simp)]; exact heap_alloc_new w _
  have p1 : W.heap[w.heap.size + 1]? = some (.cells #[.int .u8 0, .int .u32 0, .int .u32 0, .int .u8 0, .slice none 0 0, .slice none 0 0, .slice none 0 0, .int .u8 0] 61 (0, 0)) := by
    rw [← hW]
    have := heap_alloc_new (w.alloc (.cells #[.int .u8 kd, .int .u32 oid, .int .u32 ver, .int .u8 old, .slice A1 l1.length c1, .slice A2 l2.length c2, .slice A3 l3.length c3, .int .u8 fl] 61)) (.cells #[.int .u8 0, .int .u32 0, .int .u32 0, .int .u8 0, .slice none 0 0, .slice none 0 0, .slice none 0 0, .int .u8 0] 61)
    rwa [World.size_alloc] at this
  -- region 1
  have HB := Lib.hid hb0; have P0 := Lib.hid p0; have P1 := Lib.hid p1
  have hlt := row_lt p0
  have HWS := Lib.hid (show w.heap.size + 1 + 1 = W.heap.size by rw [← hW]; simp)
  clear hW hb0 p0 p1
  have HXW := Lib.hid (HX.out.up (Same.below HB.out hS) (fun _ h => h) : ErAt KP W S _)
  have hS1 : ∀ b, S b → b < W.heap.size := fun b h => Nat.lt_of_lt_of_le (hS b h) HB.out.size
  refine wp_region_fx_tail 10 (cpF S W.heap.size hS1 l1 l2 l3) (by kernel_rfl) (by kernel_rfl) (by kernel_rfl) (by kernel_rfl) ?_
  repeat (first | (refine wpM_skip rfl ?_) | (refine wpM_all rfl rfl (fun K hK => ?_); go_simp; refine hK _ ?_; clear hK K))
  refine wpM_look (.slice A1 l1.length c1) rfl rfl (fun w6 hc6 _ => ?_) ?_
  · have c0 : w6.cell? ⟨w.heap.size, 4, none⟩ = some (.slice A1 l1.length c1) := cell_of_row _ _ 4 _ 61 (0, 0) ((hc6.block _ (row_lt P0.out)).trans P0.out)
    go_simp
  repeat (first | (refine wpM_skip rfl ?_) | (refine wpM_all rfl rfl (fun K hK => ?_); go_simp; refine hK _ ?_; clear hK K))
  refine wpM_eff rfl rfl (fun w9 hc9 _ => steps_enter (cloneP_any ⟨l1, A1, c1⟩ S w9 (HXW.out.bf.up (Same.below hc9 hS1) fun _ h => h) (fun b h => Nat.lt_of_lt_of_le (hS1 b h) hc9.size) hs1) (by go_simp; first | done | rfl | exact ⟨rfl, rfl⟩) (ro_val hc9.size rfl)) ?_
  rintro v2 ⟨wq, hq⟩
  obtain ⟨B2, d2, rfl, -, -⟩ : ∃ A c, v2 = .slice A (l1).length c ∧ W.heap.size ≤ wq.heap.size ∧ RoAt KP wq (Since S W.heap.size wq) ⟨l1, A, c⟩ := hq
  clear wq
  repeat (first | (refine wpM_skip rfl ?_) | (refine wpM_all rfl rfl (fun K hK => ?_); go_simp; refine hK _ ?_; clear hK K))
  refine wpM_look (.slice A2 l2.length c2) rfl rfl (fun w6 hc6 _ => ?_) ?_
  · have c0 : w6.cell? ⟨w.heap.size, 5, none⟩ = some (.slice A2 l2.length c2) := cell_of_row _ _ 5 _ 61 (0, 0) ((hc6.block _ (row_lt P0.out)).trans P0.out)
    go_simp
  repeat (first | (refine wpM_skip rfl ?_) | (refine wpM_all rfl rfl (fun K hK => ?_); go_simp; refine hK _ ?_; clear hK K))
  refine wpM_eff rfl rfl (fun w9 hc9 _ => steps_enter (cloneP_any ⟨l2, A2, c2⟩ S w9 (HXW.out.af.up (Same.below hc9 hS1) fun _ h => h) (fun b h => Nat.lt_of_lt_of_le (hS1 b h) hc9.size) hs2) (by go_simp; first | done | rfl | exact ⟨rfl, rfl⟩) (ro_val hc9.size rfl)) ?_
  rintro v5 ⟨wq, hq⟩
  obtain ⟨B5, d5, rfl, -, -⟩ : ∃ A c, v5 = .slice A (l2).length c ∧ W.heap.size ≤ wq.heap.size ∧ RoAt KP wq (Since S W.heap.size wq) ⟨l2, A, c⟩ := hq
  clear wq
  repeat (first | (refine wpM_skip rfl ?_) | (refine wpM_all rfl rfl (fun K hK => ?_); go_simp; refine hK _ ?_; clear hK K))
  refine wpM_look (.slice A3 l3.length c3) rfl rfl (fun w6 hc6 _ => ?_) ?_
  · have c0 : w6.cell? ⟨w.heap.size, 6, none⟩ = some (.slice A3 l3.length c3) := cell_of_row _ _ 6 _ 61 (0, 0) ((hc6.block _ (row_lt P0.out)).trans P0.out)
    go_simp
  repeat (first | (refine wpM_skip rfl ?_) | (refine wpM_all rfl rfl (fun K hK => ?_); go_simp; refine hK _ ?_; clear hK K))
  refine wpM_eff rfl rfl (fun w9 hc9 _ => steps_enter (cloneF_any ⟨l3, A3, c3⟩ S w9 (HXW.out.refs.up (Same.below hc9 hS1) fun _ h => h) (fun b h => Nat.lt_of_lt_of_le (hS1 b h) hc9.size) hs3) (by go_simp; first | done | rfl | exact ⟨rfl, rfl⟩) (ro_val hc9.size rfl)) ?_
  rintro v8 ⟨wq, hq⟩
  obtain ⟨B8, d8, rfl, -, -⟩ : ∃ A c, v8 = .slice A (l3).length c ∧ W.heap.size ≤ wq.heap.size ∧ RoAt KF wq (Since S W.heap.size wq) ⟨l3, A, c⟩ := hq
  clear wq
  repeat (first | (refine wpM_skip rfl ?_) | (refine wpM_all rfl rfl (fun K hK => ?_); go_simp; refine hK _ ?_; clear hK K))
  refine wpM_nil fun w10 hc10 hf => ?_
  have R2 : RoAt KP w10 (Since S W.heap.size w10) ⟨l1, B2, d2⟩ := by
    obtain ⟨A, c, e, -, h⟩ : ∃ A c, Value.slice B2 (l1).length d2 = .slice A (l1).length c ∧ W.heap.size ≤ w10.heap.size ∧ RoAt KP w10 (Since S W.heap.size w10) ⟨l1, A, c⟩ := hf 2
    injection e with e1 _ e2
    subst e1 e2
    exact h
  have R5 : RoAt KP w10 (Since S W.heap.size w10) ⟨l2, B5, d5⟩ := by
    obtain ⟨A, c, e, -, h⟩ : ∃ A c, Value.slice B5 (l2).length d5 = .slice A (l2).length c ∧ W.heap.size ≤ w10.heap.size ∧ RoAt KP w10 (Since S W.heap.size w10) ⟨l2, A, c⟩ := hf 5
    injection e with e1 _ e2
    subst e1 e2
    exact h
  have R8 : RoAt KF w10 (Since S W.heap.size w10) ⟨l3, B8, d8⟩ := by
    obtain ⟨A, c, e, -, h⟩ : ∃ A c, Value.slice B8 (l3).length d8 = .slice A (l3).length c ∧ W.heap.size ≤ w10.heap.size ∧ RoAt KF w10 (Since S W.heap.size w10) ⟨l3, A, c⟩ := hf 8
    injection e with e1 _ e2
    subst e1 e2
    exact h
  show wpList _ _ _ [_, _, _, _, _] _ _
  have q0 := (hc10.block _ (row_lt P0.out)).trans P0.out
  have q1 := (hc10.block _ (row_lt P1.out)).trans P1.out
  have HB10 := Lib.hid (HB.out.trans (hc10.mono HB.out.size))
  have HR2 := Lib.hid R2; have HR5 := Lib.hid R5; have HR8 := Lib.hid R8
  have a0 : w10.cell? ⟨w.heap.size, 0, none⟩ = some (.int .u8 kd) := cell_of_row _ _ 0 _ 61 (0, 0) q0
  have a1 : w10.cell? ⟨w.heap.size, 1, none⟩ = some (.int .u32 oid) := cell_of_row _ _ 1 _ 61 (0, 0) q0
  have a2 : w10.cell? ⟨w.heap.size, 2, none⟩ = some (.int .u32 ver) := cell_of_row _ _ 2 _ 61 (0, 0) q0
  have a3 : w10.cell? ⟨w.heap.size, 3, none⟩ = some (.int .u8 old) := cell_of_row _ _ 3 _ 61 (0, 0) q0
  have a4 : w10.cell? ⟨w.heap.size, 4, none⟩ = some (.slice A1 l1.length c1) := cell_of_row _ _ 4 _ 61 (0, 0) q0
  have a5 : w10.cell? ⟨w.heap.size, 5, none⟩ = some (.slice A2 l2.length c2) := cell_of_row _ _ 5 _ 61 (0, 0) q0
  have a6 : w10.cell? ⟨w.heap.size, 6, none⟩ = some (.slice A3 l3.length c3) := cell_of_row _ _ 6 _ 61 (0, 0) q0
  have a7 : w10.cell? ⟨w.heap.size, 7, none⟩ = some (.int .u8 fl) := cell_of_row _ _ 7 _ 61 (0, 0) q0
  have fza : ∀ i, w10.frozen? ⟨w.heap.size, i, none⟩ = false := fun i => row_free q0 i
  have b0 : w10.cell? ⟨(w.heap.size + 1), 0, none⟩ = some (.int .u8 0) := cell_of_row _ _ 0 _ 61 (0, 0) q1
  have b1 : w10.cell? ⟨(w.heap.size + 1), 1, none⟩ = some (.int .u32 0) := cell_of_row _ _ 1 _ 61 (0, 0) q1
  have b2 : w10.cell? ⟨(w.heap.size + 1), 2, none⟩ = some (.int .u32 0) := cell_of_row _ _ 2 _ 61 (0, 0) q1
  have b3 : w10.cell? ⟨(w.heap.size + 1), 3, none⟩ = some (.int .u8 0) := cell_of_row _ _ 3 _ 61 (0, 0) q1
  have b4 : w10.cell? ⟨(w.heap.size + 1), 4, none⟩ = some (.slice none 0 0) := cell_of_row _ _ 4 _ 61 (0, 0) q1
  have b5 : w10.cell? ⟨(w.heap.size + 1), 5, none⟩ = some (.slice none 0 0) := cell_of_row _ _ 5 _ 61 (0, 0) q1
  have b6 : w10.cell? ⟨(w.heap.size + 1), 6, none⟩ = some (.slice none 0 0) := cell_of_row _ _ 6 _ 61 (0, 0) q1
  have b7 : w10.cell? ⟨(w.heap.size + 1), 7, none⟩ = some (.int .u8 0) := cell_of_row _ _ 7 _ 61 (0, 0) q1
  have fzb : ∀ i, w10.frozen? ⟨(w.heap.size + 1), i, none⟩ = false := fun i => row_free q1 i
  have hb9 := (((((((((((HB10.out.setCell (p := ⟨w.heap.size, 4, none⟩) (by simp) (.slice B2 l1.length d2)).setCell (p := ⟨w.heap.size, 5, none⟩) (by simp) (.slice B5 l2.length d5)).setCell (p := ⟨w.heap.size, 6, none⟩) (by simp) (.slice B8 l3.length d8)).setCell (p := ⟨w.heap.size + 1, 0, none⟩) (by simp) (.int .u8 kd)).setCell (p := ⟨w.heap.size + 1, 1, none⟩) (by simp) (.int .u32 oid)).setCell (p := ⟨w.heap.size + 1, 2, none⟩) (by simp) (.int .u32 ver)).setCell (p := ⟨w.heap.size + 1, 3, none⟩) (by simp) (.int .u8 old)).setCell (p := ⟨w.heap.size + 1, 4, none⟩) (by simp) (.slice B2 l1.length d2)).setCell (p := ⟨w.heap.size + 1, 5, none⟩) (by simp) (.slice B5 l2.length d5)).setCell (p := ⟨w.heap.size + 1, 6, none⟩) (by simp) (.slice B8 l3.length d8)).setCell (p := ⟨w.heap.size + 1, 7, none⟩) (by simp) (.int .u8 fl))
  have hh9 := (row_set (row_set (row_set (row_set (row_set (row_set (row_set (row_set ((Below.heap_setCell _ ⟨w.heap.size, 6, none⟩ (.slice B8 l3.length d8) _ (by simp)).trans ((Below.heap_setCell _ ⟨w.heap.size, 5, none⟩ (.slice B5 l2.length d5) _ (by simp)).trans ((Below.heap_setCell _ ⟨w.heap.size, 4, none⟩ (.slice B2 l1.length d2) _ (by simp)).trans q1))) 0 (.int .u8 kd)) 1 (.int .u32 oid)) 2 (.int .u32 ver)) 3 (.int .u8 old)) 4 (.slice B2 l1.length d2)) 5 (.slice B5 l2.length d5)) 6 (.slice B8 l3.length d8)) 7 (.int .u8 fl))
  have hWs : w.heap.size + 1 + 1 = W.heap.size := HWS.out
  have n0 : ¬ Since S W.heap.size w10 w.heap.size := fun h => h.elim (fun h => Nat.lt_irrefl _ (hS _ h)) (fun h => by omega)
  have n1 : ¬ Since S W.heap.size w10 (w.heap.size + 1) := fun h => h.elim (fun h => by have := hS _ h; omega) (fun h => by omega)
  have hs9 := ((((((((((((Same.refl _ w10).trans (Same.setCell (p := ⟨w.heap.size, 4, none⟩) n0 (.slice B2 l1.length d2))).trans (Same.setCell (p := ⟨w.heap.size, 5, none⟩) n0 (.slice B5 l2.length d5))).trans (Same.setCell (p := ⟨w.heap.size, 6, none⟩) n0 (.slice B8 l3.length d8))).trans (Same.setCell (p := ⟨w.heap.size + 1, 0, none⟩) n1 (.int .u8 kd))).trans (Same.setCell (p := ⟨w.heap.size + 1, 1, none⟩) n1 (.int .u32 oid))).trans (Same.setCell (p := ⟨w.heap.size + 1, 2, none⟩) n1 (.int .u32 ver))).trans (Same.setCell (p := ⟨w.heap.size + 1, 3, none⟩) n1 (.int .u8 old))).trans (Same.setCell (p := ⟨w.heap.size + 1, 4, none⟩) n1 (.slice B2 l1.length d2))).trans (Same.setCell (p := ⟨w.heap.size + 1, 5, none⟩) n1 (.slice B5 l2.length d5))).trans (Same.setCell (p := ⟨w.heap.size + 1, 6, none⟩) n1 (.slice B8 l3.length d8))).trans (Same.setCell (p := ⟨w.heap.size + 1, 7, none⟩) n1 (.int .u8 fl)))
  have HB9 := Lib.hid hb9; have HH9 := Lib.hid hh9; have HS9 := Lib.hid hs9
  clear hb9 hh9 hs9 q0 q1 hc10 R2 R5 R8 hf hWs
  go_wp2
  have hz : (((((((((((w10.setCell ⟨w.heap.size, 4, none⟩ (.slice B2 l1.length d2)).setCell ⟨w.heap.size, 5, none⟩ (.slice B5 l2.length d5)).setCell ⟨w.heap.size, 6, none⟩ (.slice B8 l3.length d8)).setCell ⟨w.heap.size + 1, 0, none⟩ (.int .u8 kd)).setCell ⟨w.heap.size + 1, 1, none⟩ (.int .u32 oid)).setCell ⟨w.heap.size + 1, 2, none⟩ (.int .u32 ver)).setCell ⟨w.heap.size + 1, 3, none⟩ (.int .u8 old)).setCell ⟨w.heap.size + 1, 4, none⟩ (.slice B2 l1.length d2)).setCell ⟨w.heap.size + 1, 5, none⟩ (.slice B5 l2.length d5)).setCell ⟨w.heap.size + 1, 6, none⟩ (.slice B8 l3.length d8)).setCell ⟨w.heap.size + 1, 7, none⟩ (.int .u8 fl)).heap.size = w10.heap.size := by simp [World.setCell]
  generalize (((((((((((w10.setCell ⟨w.heap.size, 4, none⟩ (.slice B2 l1.length d2)).setCell ⟨w.heap.size, 5, none⟩ (.slice B5 l2.length d5)).setCell ⟨w.heap.size, 6, none⟩ (.slice B8 l3.length d8)).setCell ⟨w.heap.size + 1, 0, none⟩ (.int .u8 kd)).setCell ⟨w.heap.size + 1, 1, none⟩ (.int .u32 oid)).setCell ⟨w.heap.size + 1, 2, none⟩ (.int .u32 ver)).setCell ⟨w.heap.size + 1, 3, none⟩ (.int .u8 old)).setCell ⟨w.heap.size + 1, 4, none⟩ (.slice B2 l1.length d2)).setCell ⟨w.heap.size + 1, 5, none⟩ (.slice B5 l2.length d5)).setCell ⟨w.heap.size + 1, 6, none⟩ (.slice B8 l3.length d8)).setCell ⟨w.heap.size + 1, 7, none⟩ (.int .u8 fl)) = w9 at *
  refine ⟨rfl, _, results_cell_row rfl _ w9 _ 61 _ (0, 0) _ rfl HH9.out Try.underlying61 rfl (by kernel_rfl), ⟨kd, ⟨oid, ver⟩, old, ⟨l1, B2, d2⟩, ⟨l2, B5, d5⟩, ⟨l3, B8, d8⟩, fl⟩, rfl, rfl, ?_, HB9.out⟩
  have hup : ∀ b, Since S W.heap.size w10 b → Since S w.heap.size w9 b := fun b h => h.imp id fun ⟨h1, h2⟩ => ⟨by have := HWS.out; omega, by omega⟩
  exact ⟨HR2.out.up HS9.out hup, HR5.out.up HS9.out hup, HR8.out.up HS9.out hup⟩
end Go.Proofs.Ytaaijgalminafaa
