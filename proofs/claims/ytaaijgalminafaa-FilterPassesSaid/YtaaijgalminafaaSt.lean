import Derived.Laws.ResultCell
import Derived.Test.YtaaijgalminafaaEv2
/-
  Layer 24: an event's copy (f36) (printed by gen_ev3.py).
-/
namespace Go.Proofs.Ytaaijgalminafaa
open Go.RowKit Mono
attribute [local go_sem] pureAt pureUpon
attribute [local irreducible] Mono.steps Mono.wpM

def Fact.ro {α : Type} (K : Kd α) (S : Nat → Prop) (b0 : Nat) (hS : ∀ b, S b → b < b0) (l : List α) : Fact := ⟨fun v w => ∃ A c, v = .slice A l.length c ∧ b0 ≤ w.heap.size ∧ RoAt K w (Since S b0 w) ⟨l, A, c⟩, fun _ _ _ ⟨A, c, h1, h2, h3⟩ hb => ⟨A, c, h1, Nat.le_trans h2 hb.size, h3.up (Same.below hb (Since.lt fun b h => Nat.lt_of_lt_of_le (hS b h) h2)) (Since.up hb.size)⟩⟩
theorem ro_val {α : Type} {K : Kd α} {S : Nat → Prop} {b0 : Nat} {hS : ∀ b, S b → b < b0} {l : List α} {f : Nat → Option Fact} {k : Nat} {w : World} (hw : b0 ≤ w.heap.size) (hf : f k = some (.ro K S b0 hS l)) : ∀ e w', RetRo K S l w e w' → ∃ u, e = .returned u ∧ Ext w w' ∧ fxR f k u w' := by
  rintro e w' ⟨A, c, rfl, h3, h4⟩
  refine ⟨_, rfl, h4, ?_⟩
  unfold fxR; rw [hf]
  exact ⟨A, c, rfl, Nat.le_trans hw h4.size, h3.up (Same.refl _ _) fun b h => h.imp id fun ⟨h1, h2⟩ => ⟨Nat.le_trans hw h1, h2⟩⟩
/-- A call returned an event, out of S and what is new. -/
def RetEv (K : Kd Ce) (S : Nat → Prop) (x : Ev) (w : World) (e : Ending) (w' : World) : Prop := ∃ y : Er, y.ev = x ∧ e = .returned ((KE K).v y) ∧ ErAt K w' (Since S w.heap.size w') y ∧ Below w.heap.size w w'
def cpF (S : Nat → Prop) (b0 : Nat) (hS : ∀ b, S b → b < b0) (b a : List Ce) (r : List Rf) : Nat → Option Fact
  | 2 => some (.ro KP S b0 hS b)
  | 5 => some (.ro KP S b0 hS a)
  | 8 => some (.ro KF S b0 hS r)
  | _ => none
set_option maxRecDepth 100000 in
set_option maxHeartbeats 6400000 in
theorem copy_any (x : Er) (S : Nat → Prop) (w : World) (hx : ErAt KP w S x) (hS : ∀ b, S b → b < w.heap.size) (hs : x.ev.Sm) : Calls Try.prog 36 #[(KE KP).v x] w (RetEv KP S x.ev w) := by
  obtain ⟨kd, ⟨oid, ver⟩, old, ⟨l1, A1, c1⟩, ⟨l2, A2, c2⟩, ⟨l3, A3, c3⟩, fl⟩ := x
  obtain ⟨hs1, hs2, hs3⟩ := hs
  simp only [Er.ev] at hs1 hs2 hs3
  have HX := Lib.hid hx; clear hx
  show Calls Try.prog 36 #[.agg #[.int .u8 kd, .int .u32 oid, .int .u32 ver, .int .u8 old, .slice A1 l1.length c1, .slice A2 l2.length c2, .slice A3 l3.length c3, .int .u8 fl]] w _
  go_enter Try.func36, Try.ntmps36
  go_wp2_with fail
  generalize hW : World.alloc (World.alloc w _) _ = W
  have hb0 : Below w.heap.size w W := by rw [← hW]; exact ((Below.refl _ w).alloc (Nat.le_refl _) _).alloc (by simp) _
  have p0 : W.heap[w.heap.size]? = some (.cells #[.int .u8 kd, .int .u32 oid, .int .u32 ver, .int .u8 old, .slice A1 l1.length c1, .slice A2 l2.length c2, .slice A3 l3.length c3, .int .u8 fl] 61 (0, 0)) := by
    rw [← hW, heap_alloc_old _ _ (by simp)]; exact heap_alloc_new w _
  have p1 : W.heap[w.heap.size + 1]? = some (.cells #[.int .u8 0, .int .u32 0, .int .u32 0, .int .u8 0, .slice none 0 0, .slice none 0 0, .slice none 0 0, .int .u8 0] 61 (0, 0)) := by
    rw [← hW]
    have := heap_alloc_new (w.alloc (.cells #[.int .u8 kd, .int .u32 oid, .int .u32 ver, .int .u8 old, .slice A1 l1.length c1, .slice A2 l2.length c2, .slice A3 l3.length c3, .int .u8 fl] 61)) (.cells #[.int .u8 0, .int .u32 0, .int .u32 0, .int .u8 0, .slice none 0 0, .slice none 0 0, .slice none 0 0, .int .u8 0] 61)
    rwa [World.size_alloc] at this
  -- region 1
  have HB := Lib.hid hb0; have P0 := Lib.hid p0; have P1 := Lib.hid p1
  have hlt := row_lt p0
  have HWS := Lib.hid (show w.heap.size + 1 + 1 = W.heap.size by rw [← hW]; simp)
  clear hW hb0 p0 p1
  have HXW := Lib.hid (HX.out.up (Same.below HB.out hS) (fun _ h => h) : ErAt KP W S _)
  have hS1 : ∀ b, S b → b < W.heap.size := fun b h => Nat.lt_of_lt_of_le (hS b h) HB.out.size
  refine wp_region_fx_tail 10 (cpF S W.heap.size hS1 l1 l2 l3) (by kernel_rfl) (by kernel_rfl) (by kernel_rfl) (by kernel_rfl) ?_
  repeat (first | (refine wpM_skip rfl ?_) | (refine wpM_all rfl rfl (fun K hK => ?_); go_simp; refine hK _ ?_; clear hK K))
  refine wpM_look (.slice A1 l1.length c1) rfl rfl (fun w6 hc6 _ => ?_) ?_
  · have c0 : w6.cell? ⟨w.heap.size, 4, none⟩ = some (.slice A1 l1.length c1) := cell_of_row _ _ 4 _ 61 (0, 0) ((hc6.block _ (row_lt P0.out)).trans P0.out)
    go_simp
  repeat (first | (refine wpM_skip rfl ?_) | (refine wpM_all rfl rfl (fun K hK => ?_); go_simp; refine hK _ ?_; clear hK K))
  refine wpM_eff rfl rfl (fun w9 hc9 _ => steps_enter (cloneP_any ⟨l1, A1, c1⟩ S w9 (HXW.out.bf.up (Same.below hc9 hS1) fun _ h => h) (fun b h => Nat.lt_of_lt_of_le (hS1 b h) hc9.size) hs1) (by go_simp; first | done | rfl | exact ⟨rfl, rfl⟩) (ro_val hc9.size rfl)) ?_
  rintro v2 ⟨wq, hq⟩
  obtain ⟨B2, d2, rfl, -, -⟩ : ∃ A c, v2 = .slice A (l1).length c ∧ W.heap.size ≤ wq.heap.size ∧ RoAt KP wq (Since S W.heap.size wq) ⟨l1, A, c⟩ := hq
  clear wq
  repeat (first | (refine wpM_skip rfl ?_) | (refine wpM_all rfl rfl (fun K hK => ?_); go_simp; refine hK _ ?_; clear hK K))
  refine wpM_look (.slice A2 l2.length c2) rfl rfl (fun w6 hc6 _ => ?_) ?_
  · have c0 : w6.cell? ⟨w.heap.size, 5, none⟩ = some (.slice A2 l2.length c2) := cell_of_row _ _ 5 _ 61 (0, 0) ((hc6.block _ (row_lt P0.out)).trans P0.out)
    go_simp
  repeat (first | (refine wpM_skip rfl ?_) | (refine wpM_all rfl rfl (fun K hK => ?_); go_simp; refine hK _ ?_; clear hK K))
  refine wpM_eff rfl rfl (fun w9 hc9 _ => steps_enter (cloneP_any ⟨l2, A2, c2⟩ S w9 (HXW.out.af.up (Same.below hc9 hS1) fun _ h => h) (fun b h => Nat.lt_of_lt_of_le (hS1 b h) hc9.size) hs2) (by go_simp; first | done | rfl | exact ⟨rfl, rfl⟩) (ro_val hc9.size rfl)) ?_
  rintro v5 ⟨wq, hq⟩
  obtain ⟨B5, d5, rfl, -, -⟩ : ∃ A c, v5 = .slice A (l2).length c ∧ W.heap.size ≤ wq.heap.size ∧ RoAt KP wq (Since S W.heap.size wq) ⟨l2, A, c⟩ := hq
  clear wq
  repeat (first | (refine wpM_skip rfl ?_) | (refine wpM_all rfl rfl (fun K hK => ?_); go_simp; refine hK _ ?_; clear hK K))
  refine wpM_look (.slice A3 l3.length c3) rfl rfl (fun w6 hc6 _ => ?_) ?_
  · have c0 : w6.cell? ⟨w.heap.size, 6, none⟩ = some (.slice A3 l3.length c3) := cell_of_row _ _ 6 _ 61 (0, 0) ((hc6.block _ (row_lt P0.out)).trans P0.out)
    go_simp
  repeat (first | (refine wpM_skip rfl ?_) | (refine wpM_all rfl rfl (fun K hK => ?_); go_simp; refine hK _ ?_; clear hK K))
  refine wpM_eff rfl rfl (fun w9 hc9 _ => steps_enter (cloneF_any ⟨l3, A3, c3⟩ S w9 (HXW.out.refs.up (Same.below hc9 hS1) fun _ h => h) (fun b h => Nat.lt_of_lt_of_le (hS1 b h) hc9.size) hs3) (by go_simp; first | done | rfl | exact ⟨rfl, rfl⟩) (ro_val hc9.size rfl)) ?_
  rintro v8 ⟨wq, hq⟩
  obtain ⟨B8, d8, rfl, -, -⟩ : ∃ A c, v8 = .slice A (l3).length c ∧ W.heap.size ≤ wq.heap.size ∧ RoAt KF wq (Since S W.heap.size wq) ⟨l3, A, c⟩ := hq
  clear wq
  repeat (first | (refine wpM_skip rfl ?_) | (refine wpM_all rfl rfl (fun K hK => ?_); go_simp; refine hK _ ?_; clear hK K))
  refine wpM_nil fun w10 hc10 hf => ?_
  have R2 : RoAt KP w10 (Since S W.heap.size w10) ⟨l1, B2, d2⟩ := by
    obtain ⟨A, c, e, -, h⟩ : ∃ A c, Value.slice B2 (l1).length d2 = .slice A (l1).length c ∧ W.heap.size ≤ w10.heap.size ∧ RoAt KP w10 (Since S W.heap.size w10) ⟨l1, A, c⟩ := hf 2
    injection e with e1 _ e2
    subst e1 e2
    exact h
  have R5 : RoAt KP w10 (Since S W.heap.size w10) ⟨l2, B5, d5⟩ := by
    obtain ⟨A, c, e, -, h⟩ : ∃ A c, Value.slice B5 (l2).length d5 = .slice A (l2).length c ∧ W.heap.size ≤ w10.heap.size ∧ RoAt KP w10 (Since S W.heap.size w10) ⟨l2, A, c⟩ := hf 5
    injection e with e1 _ e2
    subst e1 e2
    exact h
  have R8 : RoAt KF w10 (Since S W.heap.size w10) ⟨l3, B8, d8⟩ := by
    obtain ⟨A, c, e, -, h⟩ : ∃ A c, Value.slice B8 (l3).length d8 = .slice A (l3).length c ∧ W.heap.size ≤ w10.heap.size ∧ RoAt KF w10 (Since S W.heap.size w10) ⟨l3, A, c⟩ := hf 8
    injection e with e1 _ e2
    subst e1 e2
    exact h
  show wpList _ _ _ [_, _, _, _, _] _ _
  have q0 := (hc10.block _ (row_lt P0.out)).trans P0.out
  have q1 := (hc10.block _ (row_lt P1.out)).trans P1.out
  have HB10 := Lib.hid (HB.out.trans (hc10.mono HB.out.size))
  have HR2 := Lib.hid R2; have HR5 := Lib.hid R5; have HR8 := Lib.hid R8
  have a0 : w10.cell? ⟨w.heap.size, 0, none⟩ = some (.int .u8 kd) := cell_of_row _ _ 0 _ 61 (0, 0) q0
  have a1 : w10.cell? ⟨w.heap.size, 1, none⟩ = some (.int .u32 oid) := cell_of_row _ _ 1 _ 61 (0, 0) q0
  have a2 : w10.cell? ⟨w.heap.size, 2, none⟩ = some (.int .u32 ver) := cell_of_row _ _ 2 _ 61 (0, 0) q0
  have a3 : w10.cell? ⟨w.heap.size, 3, none⟩ = some (.int .u8 old) := cell_of_row _ _ 3 _ 61 (0, 0) q0
  have a4 : w10.cell? ⟨w.heap.size, 4, none⟩ = some (.slice A1 l1.length c1) := cell_of_row _ _ 4 _ 61 (0, 0) q0
  have a5 : w10.cell? ⟨w.heap.size, 5, none⟩ = some (.slice A2 l2.length c2) := cell_of_row _ _ 5 _ 61 (0, 0) q0
  have a6 : w10.cell? ⟨w.heap.size, 6, none⟩ = some (.slice A3 l3.length c3) := cell_of_row _ _ 6 _ 61 (0, 0) q0
  have a7 : w10.cell? ⟨w.heap.size, 7, none⟩ = some (.int .u8 fl) := cell_of_row _ _ 7 _ 61 (0, 0) q0
  have fza : ∀ i, w10.frozen? ⟨w.heap.size, i, none⟩ = false := fun i => row_free q0 i
  have b0 : w10.cell? ⟨(w.heap.size + 1), 0, none⟩ = some (.int .u8 0) := cell_of_row _ _ 0 _ 61 (0, 0) q1
  have b1 : w10.cell? ⟨(w.heap.size + 1), 1, none⟩ = some (.int .u32 0) := cell_of_row _ _ 1 _ 61 (0, 0) q1
  have b2 : w10.cell? ⟨(w.heap.size + 1), 2, none⟩ = some (.int .u32 0) := cell_of_row _ _ 2 _ 61 (0, 0) q1
  have b3 : w10.cell? ⟨(w.heap.size + 1), 3, none⟩ = some (.int .u8 0) := cell_of_row _ _ 3 _ 61 (0, 0) q1
  have b4 : w10.cell? ⟨(w.heap.size + 1), 4, none⟩ = some (.slice none 0 0) := cell_of_row _ _ 4 _ 61 (0, 0) q1
  have b5 : w10.cell? ⟨(w.heap.size + 1), 5, none⟩ = some (.slice none 0 0) := cell_of_row _ _ 5 _ 61 (0, 0) q1
  have b6 : w10.cell? ⟨(w.heap.size + 1), 6, none⟩ = some (.slice none 0 0) := cell_of_row _ _ 6 _ 61 (0, 0) q1
  have b7 : w10.cell? ⟨(w.heap.size + 1), 7, none⟩ = some (.int .u8 0) := cell_of_row _ _ 7 _ 61 (0, 0) q1
  have fzb : ∀ i, w10.frozen? ⟨(w.heap.size + 1), i, none⟩ = false := fun i => row_free q1 i
  have hb9 := (((((((((((HB10.out.setCell (p := ⟨w.heap.size, 4, none⟩) (by simp) (.slice B2 l1.length d2)).setCell (p := ⟨w.heap.size, 5, none⟩) (by simp) (.slice B5 l2.length d5)).setCell (p := ⟨w.heap.size, 6, none⟩) (by simp) (.slice B8 l3.length d8)).setCell (p := ⟨w.heap.size + 1, 0, none⟩) (by simp) (.int .u8 kd)).setCell (p := ⟨w.heap.size + 1, 1, none⟩) (by simp) (.int .u32 oid)).setCell (p := ⟨w.heap.size + 1, 2, none⟩) (by simp) (.int .u32 ver)).setCell (p := ⟨w.heap.size + 1, 3, none⟩) (by simp) (.int .u8 old)).setCell (p := ⟨w.heap.size + 1, 4, none⟩) (by simp) (.slice B2 l1.length d2)).setCell (p := ⟨w.heap.size + 1, 5, none⟩) (by simp) (.slice B5 l2.length d5)).setCell (p := ⟨w.heap.size + 1, 6, none⟩) (by simp) (.slice B8 l3.length d8)).setCell (p := ⟨w.heap.size + 1, 7, none⟩) (by simp) (.int .u8 fl))
  have hh9 := (row_set (row_set (row_set (row_set (row_set (row_set (row_set (row_set ((Below.heap_setCell _ ⟨w.heap.size, 6, none⟩ (.slice B8 l3.length d8) _ (by simp)).trans ((Below.heap_setCell _ ⟨w.heap.size, 5, none⟩ (.slice B5 l2.length d5) _ (by simp)).trans ((Below.heap_setCell _ ⟨w.heap.size, 4, none⟩ (.slice B2 l1.length d2) _ (by simp)).trans q1))) 0 (.int .u8 kd)) 1 (.int .u32 oid)) 2 (.int .u32 ver)) 3 (.int .u8 old)) 4 (.slice B2 l1.length d2)) 5 (.slice B5 l2.length d5)) 6 (.slice B8 l3.length d8)) 7 (.int .u8 fl))
  have hWs : w.heap.size + 1 + 1 = W.heap.size := HWS.out
  have n0 : ¬ Since S W.heap.size w10 w.heap.size := fun h => h.elim (fun h => Nat.lt_irrefl _ (hS _ h)) (fun h => by omega)
  have n1 : ¬ Since S W.heap.size w10 (w.heap.size + 1) := fun h => h.elim (fun h => by have := hS _ h; omega) (fun h => by omega)
  have hs9 := ((((((((((((Same.refl _ w10).trans (Same.setCell (p := ⟨w.heap.size, 4, none⟩) n0 (.slice B2 l1.length d2))).trans (Same.setCell (p := ⟨w.heap.size, 5, none⟩) n0 (.slice B5 l2.length d5))).trans (Same.setCell (p := ⟨w.heap.size, 6, none⟩) n0 (.slice B8 l3.length d8))).trans (Same.setCell (p := ⟨w.heap.size + 1, 0, none⟩) n1 (.int .u8 kd))).trans (Same.setCell (p := ⟨w.heap.size + 1, 1, none⟩) n1 (.int .u32 oid))).trans (Same.setCell (p := ⟨w.heap.size + 1, 2, none⟩) n1 (.int .u32 ver))).trans (Same.setCell (p := ⟨w.heap.size + 1, 3, none⟩) n1 (.int .u8 old))).trans (Same.setCell (p := ⟨w.heap.size + 1, 4, none⟩) n1 (.slice B2 l1.length d2))).trans (Same.setCell (p := ⟨w.heap.size + 1, 5, none⟩) n1 (.slice B5 l2.length d5))).trans (Same.setCell (p := ⟨w.heap.size + 1, 6, none⟩) n1 (.slice B8 l3.length d8))).trans (Same.setCell (p := ⟨w.heap.size + 1, 7, none⟩) n1 (.int .u8 fl)))
  have HB9 := Lib.hid hb9; have HH9 := Lib.hid hh9; have HS9 := Lib.hid hs9
  clear hb9 hh9 hs9 q0 q1 hc10 R2 R5 R8 hf hWs
  go_wp2
  have hz : (((((((((((w10.setCell ⟨w.heap.size, 4, none⟩ (.slice B2 l1.length d2)).setCell ⟨w.heap.size, 5, none⟩ (.slice B5 l2.length d5)).setCell ⟨w.heap.size, 6, none⟩ (.slice B8 l3.length d8)).setCell ⟨w.heap.size + 1, 0, none⟩ (.int .u8 kd)).setCell ⟨w.heap.size + 1, 1, none⟩ (.int .u32 oid)).setCell ⟨w.heap.size + 1, 2, none⟩ (.int .u32 ver)).setCell ⟨w.heap.size + 1, 3, none⟩ (.int .u8 old)).setCell ⟨w.heap.size + 1, 4, none⟩ (.slice B2 l1.length d2)).setCell ⟨w.heap.size + 1, 5, none⟩ (.slice B5 l2.length d5)).setCell ⟨w.heap.size + 1, 6, none⟩ (.slice B8 l3.length d8)).setCell ⟨w.heap.size + 1, 7, none⟩ (.int .u8 fl)).heap.size = w10.heap.size := by simp [World.setCell]
  generalize (((((((((((w10.setCell ⟨w.heap.size, 4, none⟩ (.slice B2 l1.length d2)).setCell ⟨w.heap.size, 5, none⟩ (.slice B5 l2.length d5)).setCell ⟨w.heap.size, 6, none⟩ (.slice B8 l3.length d8)).setCell ⟨w.heap.size + 1, 0, none⟩ (.int .u8 kd)).setCell ⟨w.heap.size + 1, 1, none⟩ (.int .u32 oid)).setCell ⟨w.heap.size + 1, 2, none⟩ (.int .u32 ver)).setCell ⟨w.heap.size + 1, 3, none⟩ (.int .u8 old)).setCell ⟨w.heap.size + 1, 4, none⟩ (.slice B2 l1.length d2)).setCell ⟨w.heap.size + 1, 5, none⟩ (.slice B5 l2.length d5)).setCell ⟨w.heap.size + 1, 6, none⟩ (.slice B8 l3.length d8)).setCell ⟨w.heap.size + 1, 7, none⟩ (.int .u8 fl)) = w9 at *
  refine ⟨rfl, _, results_cell_row rfl _ w9 _ 61 _ (0, 0) _ rfl HH9.out Try.underlying61 rfl (by kernel_rfl), ⟨kd, ⟨oid, ver⟩, old, ⟨l1, B2, d2⟩, ⟨l2, B5, d5⟩, ⟨l3, B8, d8⟩, fl⟩, rfl, rfl, ?_, HB9.out⟩
  have hup : ∀ b, Since S W.heap.size w10 b → Since S w.heap.size w9 b := fun b h => h.imp id fun ⟨h1, h2⟩ => ⟨by have := HWS.out; omega, by omega⟩
  exact ⟨HR2.out.up HS9.out hup, HR5.out.up HS9.out hup, HR8.out.up HS9.out hup⟩
end Go.Proofs.Ytaaijgalminafaa
/-
  Layer 24: does a ref pass (f38) (printed by gen_ev4.py).
-/
namespace Go.Proofs.Ytaaijgalminafaa
open Go.RowKit Mono
attribute [local go_sem] pureAt pureUpon
attribute [local irreducible] Mono.steps Mono.wpM

theorem results_cell_row_tmp {P : Program} {fn : Func} {p u : Tmp} {ty : TypeId} (h : fn.results = #[.cell p ty, .tmp u]) (tmps : Array Value) (w : World) (g : Nat) (t : TypeId) (cs : Array Value) (fr : Nat × Nat) (d : TypeDesc)
    (hp : tmps.getD p undef = .pointer (some ⟨g, 0, none⟩)) (hg : w.heap[g]? = some (.cells cs t fr))
    (hu : P.underlying ty = some d) (hd : (match d with | .struct _ | .array _ _ => true | _ => false) = true) (hi : (P.info? ty).map (·.size) = some cs.size) :
    (results fn tmps).run P w = .ok (.tuple #[.agg cs, tmps.getD u undef]) w := by
  rw [results_cell_tmp h, hp]
  simp [asAddr, run_loadVar_row w g t ty cs fr d hg hu hd hi, Result.andThen]
def rfF (x : Bool) : Nat → Option Fact
  | 4 => some (.val (.bool x))
  | _ => none
/-- Three blocks that have just been made. -/
theorem alloc3 {w W : World} {o0 o1 o2 : Obj} (h : ((w.alloc o0).alloc o1).alloc o2 = W) :
    Below w.heap.size w W ∧ W.heap[w.heap.size]? = some o0 ∧ W.heap[w.heap.size + 1]? = some o1 ∧ W.heap[w.heap.size + 1 + 1]? = some o2 ∧ W.heap.size = w.heap.size + 1 + 1 + 1 := by
  obtain ⟨-, h2, h3, h4, -, h7⟩ := alloc4 (w := w) (o0 := o0) (o1 := o1) (o2 := o2) (o3 := o2) rfl
  subst h
  have hz : (((w.alloc o0).alloc o1).alloc o2).heap.size = w.heap.size + 1 + 1 + 1 := by simp
  refine ⟨((Below.refl _ w).alloc (Nat.le_refl _) _).alloc (by simp) _ |>.alloc (by first | (simp; done) | (simp; omega)) _, ?_, ?_, ?_, hz⟩
  · rwa [heap_alloc_old _ _ (by rw [hz]; omega)] at h2
  · rwa [heap_alloc_old _ _ (by rw [hz]; omega)] at h3
  · rwa [heap_alloc_old _ _ (by rw [hz]; omega)] at h4
set_option maxRecDepth 100000 in
set_option maxHeartbeats 6400000 in
theorem ref_any (f : Fl) (A : Option Addr) (c : Nat) (r : Rf) (w : World) (hF : FlAt w w.heap.size f A c) (hl : f.oids.length ≤ 1000000) :
    Calls Try.prog 38 #[f.v A c, KF.v r] w fun e w' => e = .returned (.tuple #[KF.v r, .bool (f.oid r.oid)]) ∧ Below w.heap.size w w' := by
  obtain ⟨oid, ver⟩ := r
  have HF := Lib.hid hF; clear hF
  obtain ⟨x, hx⟩ : ∃ x, f.oid oid = x := ⟨_, rfl⟩
  have HX := Lib.hid hx
  rw [hx]
  clear hx
  obtain ⟨al, xs, kd, em⟩ := f
  show Calls Try.prog 38 #[.agg #[.bool al, .slice A xs.length c, .int .u8 kd, .bool em], .agg #[.int .u32 oid, .int .u32 ver]] w fun e w' => e = .returned (.tuple #[.agg #[.int .u32 oid, .int .u32 ver], .bool x]) ∧ Below w.heap.size w w'
  go_enter Try.func38, Try.ntmps38
  go_wp2_with fail
  generalize hW : World.alloc (World.alloc (World.alloc w _) _) _ = W
  obtain ⟨hb0, p0, p1, p2, hsz⟩ := alloc3 hW
  have HB := Lib.hid hb0; have P0 := Lib.hid p0; have P1 := Lib.hid p1; have P2 := Lib.hid p2
  clear hW hb0 p0 p1 p2
  have HFW := Lib.hid (HF.out.up HB.out (Nat.le_refl _) HB.out.size : FlAt W W.heap.size _ A c)
  refine wp_region_fx_tail 5 (rfF x) (by kernel_rfl) (by kernel_rfl) (by kernel_rfl) (by kernel_rfl) ?_
  refine wpM_look (.agg #[.int .u32 oid, .int .u32 ver]) rfl rfl (fun w6 hc6 _ => ?_) ?_
  · have c0 : w6.cell? ⟨w.heap.size + 1, 0, none⟩ = some (.int .u32 oid) := cell_of_row _ _ 0 _ 56 (0, 0) ((hc6.block _ (row_lt P1.out)).trans P1.out)
    have c1 : w6.cell? ⟨w.heap.size + 1, 1, none⟩ = some (.int .u32 ver) := cell_of_row _ _ 1 _ 56 (0, 0) ((hc6.block _ (row_lt P1.out)).trans P1.out)
    go_simp
  repeat (first | (refine wpM_skip rfl ?_) | (refine wpM_all rfl rfl (fun K hK => ?_); go_simp; refine hK _ ?_; clear hK K))
  refine wpM_look (.agg #[.bool al, .slice A xs.length c, .int .u8 kd, .bool em]) rfl rfl (fun w6 hc6 _ => ?_) ?_
  · have c0 : w6.cell? ⟨w.heap.size, 0, none⟩ = some (.bool al) := cell_of_row _ _ 0 _ 28 (0, 0) ((hc6.block _ (row_lt P0.out)).trans P0.out)
    have c1 : w6.cell? ⟨w.heap.size, 1, none⟩ = some (.slice A xs.length c) := cell_of_row _ _ 1 _ 28 (0, 0) ((hc6.block _ (row_lt P0.out)).trans P0.out)
    have c2 : w6.cell? ⟨w.heap.size, 2, none⟩ = some (.int .u8 kd) := cell_of_row _ _ 2 _ 28 (0, 0) ((hc6.block _ (row_lt P0.out)).trans P0.out)
    have c3 : w6.cell? ⟨w.heap.size, 3, none⟩ = some (.bool em) := cell_of_row _ _ 3 _ 28 (0, 0) ((hc6.block _ (row_lt P0.out)).trans P0.out)
    go_simp
  repeat (first | (refine wpM_skip rfl ?_) | (refine wpM_all rfl rfl (fun K hK => ?_); go_simp; refine hK _ ?_; clear hK K))
  refine wpM_look (.int .u32 oid) rfl rfl (fun w6 hc6 _ => ?_) ?_
  · have c0 : w6.cell? ⟨w.heap.size + 1, 0, none⟩ = some (.int .u32 oid) := cell_of_row _ _ 0 _ 56 (0, 0) ((hc6.block _ (row_lt P1.out)).trans P1.out)
    go_simp
  repeat (first | (refine wpM_skip rfl ?_) | (refine wpM_all rfl rfl (fun K hK => ?_); go_simp; refine hK _ ?_; clear hK K))
  refine wpM_eff rfl rfl (fun w9 hc9 _ => steps_enter (oid_any ⟨al, xs, kd, em⟩ A c oid w9 (HFW.out.ext hc9) hl) (by go_simp; first | done | rfl | exact ⟨rfl, rfl⟩) (bool_val HX rfl)) ?_
  rintro v4 ⟨wq, hq⟩
  obtain rfl : v4 = _ := hq
  clear wq
  repeat (first | (refine wpM_skip rfl ?_) | (refine wpM_all rfl rfl (fun K hK => ?_); go_simp; refine hK _ ?_; clear hK K))
  refine wpM_nil fun w10 hc10 hf => ?_
  show wpList _ _ _ [_, _] _ _
  have q2 := (hc10.block _ (row_lt P2.out)).trans P2.out
  have HB10 := Lib.hid (HB.out.trans (hc10.mono HB.out.size))
  have b0 : w10.cell? ⟨(w.heap.size + 1 + 1), 0, none⟩ = some (.int .u32 0) := cell_of_row _ _ 0 _ 56 (0, 0) q2
  have b1 : w10.cell? ⟨(w.heap.size + 1 + 1), 1, none⟩ = some (.int .u32 0) := cell_of_row _ _ 1 _ 56 (0, 0) q2
  have fzb : ∀ i, w10.frozen? ⟨(w.heap.size + 1 + 1), i, none⟩ = false := fun i => row_free q2 i
  have hh9 := row_set (row_set q2 0 (.int .u32 oid)) 1 (.int .u32 ver)
  have hb9 := (HB10.out.setCell (p := ⟨w.heap.size + 1 + 1, 0, none⟩) (by simp; omega) (.int .u32 oid)).setCell (p := ⟨w.heap.size + 1 + 1, 1, none⟩) (by simp; omega) (.int .u32 ver)
  have HB9 := Lib.hid hb9; have HH9 := Lib.hid hh9
  clear hb9 hh9 q2 hc10 hf
  go_wp2
  generalize (w10.setCell _ _).setCell _ _ = w9 at *
  exact ⟨rfl, _, results_cell_row_tmp rfl _ w9 _ 56 _ (0, 0) _ rfl HH9.out Try.underlying56 rfl (by kernel_rfl), rfl, HB9.out⟩
end Go.Proofs.Ytaaijgalminafaa
/-
  A whole struct is stored into a block in one step.
-/
namespace Go.Proofs.Ytaaijgalminafaa
open Go.RowKit

theorem wpList_store_row {P : Program} {w : World} {ops : Array Oper} {rest : List Oper} {o : Oper} {a : Act} {Q : Exit → Act → World → Prop} (hgd : o.guard = none) (ty : TypeId) (x y : Operand) (ho : o.op = .store ty x y)
    (g : Nat) (hx : a.eval x = .pointer (some ⟨g, 0, none⟩)) (cs : Array Value) (hy : a.eval y = .agg cs) (cur : Array Value) (te : TypeId) (hg : w.heap[g]? = some (.cells cur te (0, 0)))
    (hi : (P.info? ty).map (·.size) = some cs.size) (hl : cs.size = cur.size) (h1 : ∀ u ∈ cs.toList, u.oneCell' = true) (hd : o.dst = none)
    (h : wpList P ops Q rest a (w.setRow g cs)) : wpList P ops Q (o :: rest) a w := by
  obtain ⟨i, hi1, hi2⟩ : ∃ i, P.info? ty = some i ∧ i.size = cs.size := by
    cases hp : P.info? ty with
    | none => rw [hp] at hi; cases hi
    | some i => rw [hp] at hi; exact ⟨i, rfl, by simpa using hi⟩
  have hco : P.cellsOf ty = cs.size := by simp [Program.cellsOf, hi1, hi2]
  have hr := Mem.run_storeAt_whole (P := P) (w := w) (t := ty) hi1 (g := g) (v := .agg cs) hg hco.symm hl h1
  refine wpList_plain hgd fun K hK => ?_
  unfold Oper.wp execOp
  simp only [ho, hx, hy, Sem.run_bind, Sem.run_pure, hr, Result.andThen_ok]
  have := hK _ _ h
  simpa [Oper.upon, hd, Act.put, Value.cells] using this
section
variable {w w0 : World} {B g : Nat} {cs : Array Value}
theorem below_setRow (h : Below B w0 w) (hg : B ≤ g) : Below B w0 (w.setRow g cs) := ⟨h.os, h.tape, h.output, by simpa [World.setRow] using h.size, fun k hk => (setRow_other w g k cs (by omega)).trans (h.block k hk)⟩
theorem Same.setRow {S : Nat → Prop} (h : ¬ S g) : Same S w (w.setRow g cs) := fun p hp => World.cell?_of_block (setRow_other w g p.block cs (fun e => h (by rw [← e]; exact hp)))
theorem size_setRow : (w.setRow g cs).heap.size = w.heap.size := by simp [World.setRow]
end
end Go.Proofs.Ytaaijgalminafaa
