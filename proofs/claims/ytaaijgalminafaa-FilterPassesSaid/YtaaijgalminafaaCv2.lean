import Derived.Laws.Externs
import Derived.Test.YtaaijgalminafaaEv7
/-
  Layer 24: numbers and their bits (f76, f78).
-/
namespace Go.Proofs.Ytaaijgalminafaa
open Go.RowKit

theorem run_bits (w : World) (b : Nat) : (callFunc 79 #[.float .f64 b]).run Try.prog w = .ok (.value (.int .u64 (b : Int))) w :=
  run_callFunc_extern (e := Extern.MathFloatBits.float64bits) Try.func79 (by kernel_rfl) (by kernel_rfl) (by kernel_rfl) (by kernel_rfl) _ w
theorem run_frombits (w : World) (b : Nat) : (callFunc 80 #[.int .u64 (b : Int)]).run Try.prog w = .ok (.value (.float .f64 b)) w :=
  run_callFunc_extern (e := Extern.MathFloatBits.float64frombits) Try.func80 (by kernel_rfl) (by kernel_rfl) (by kernel_rfl) (by kernel_rfl) _ w
set_option maxRecDepth 100000 in
theorem of_any (re im : Nat) (w : World) : Calls Try.prog 78 #[.int .u64 (re : Int), .int .u64 (im : Int)] w fun e w' => e = .returned (.complex .f64 re im) ∧ w' = w := by
  have h1 := run_frombits w
  go_enter Try.func78, Try.ntmps78
  go_wp2
  go_ret
  exact ⟨rfl, rfl⟩
set_option maxRecDepth 100000 in
theorem bits_any (re im : Nat) (w : World) : Calls Try.prog 76 #[.complex .f64 re im] w fun e w' => e = .returned (.tuple #[.int .u64 (re : Int), .int .u64 (im : Int)]) ∧ w' = w := by
  have h1 := run_bits w
  go_enter Try.func76, Try.ntmps76
  go_wp2
  exact bodyPost_ret (results_tmp2 rfl _ _ _) rfl ⟨rfl, rfl⟩
end Go.Proofs.Ytaaijgalminafaa
/-
  Layer 24: a cell of the document as the program's, and back: values (f74, f67), cells (f64, f52), rows (f47, f41) (printed by gen_cv2.py).
-/
namespace Go.Proofs.Ytaaijgalminafaa
open Go.RowKit Mono
attribute [local go_sem] pureAt pureUpon
attribute [local irreducible] Mono.steps Mono.wpM

/-- Two blocks that have just been made. -/
theorem alloc2 {w W : World} {o0 o1 : Obj} (h : (w.alloc o0).alloc o1 = W) :
    Below w.heap.size w W ∧ W.heap[w.heap.size]? = some o0 ∧ W.heap[w.heap.size + 1]? = some o1 ∧ W.heap.size = w.heap.size + 1 + 1 := by
  obtain ⟨-, h2, h3, -, h7⟩ := alloc3 (w := w) (o0 := o0) (o1 := o1) (o2 := o1) rfl
  subst h
  have hz : ((w.alloc o0).alloc o1).heap.size = w.heap.size + 1 + 1 := by simp
  refine ⟨((Below.refl _ w).alloc (Nat.le_refl _) _).alloc (by simp) _, ?_, ?_, hz⟩
  · rwa [heap_alloc_old _ _ (by rw [hz]; omega)] at h2
  · rwa [heap_alloc_old _ _ (by rw [hz]; omega)] at h3
/-- A call returned this value. -/
def RetV (v : Value) (w : World) (e : Ending) (w' : World) : Prop := e = .returned v ∧ Below w.heap.size w w'
theorem val_val {f : Nat → Option Fact} {k : Nat} {v : Value} {w : World} (hf : f k = some (.val v)) : ∀ e w', RetV v w e w' → ∃ u, e = .returned u ∧ Ext w w' ∧ fxR f k u w' := by
  rintro e w' ⟨rfl, hb⟩
  refine ⟨_, rfl, hb, ?_⟩
  unfold fxR; rw [hf]
  rfl
def oneF (k : Nat) (v : Value) : Nat → Option Fact := fun i => if i = k then some (.val v) else none
theorem oneF_at (k : Nat) (v : Value) : oneF k v k = some (.val v) := if_pos rfl
set_option maxRecDepth 100000 in
set_option maxHeartbeats 6400000 in
/-- A value of the document, as the program's. -/
theorem ownV_any (ty num : Int) (re im : Nat) (text : ByteArray) (w : World) : Calls Try.prog 74 #[.agg #[.int .u8 ty, .int .i64 num, .int .u64 (re : Int), .int .u64 (im : Int), .string text]] w (RetV (.agg #[.int .u8 ty, .int .i64 num, .complex .f64 re im, .string text]) w) := by
  go_enter Try.func74, Try.ntmps74
  go_wp2_with fail
  generalize hW : World.alloc (World.alloc w _) _ = W
  obtain ⟨hb0, p0, p1, hsz⟩ := alloc2 hW
  have HB := Lib.hid hb0; have P0 := Lib.hid p0; have P1 := Lib.hid p1
  clear hW hb0 p0 p1
  refine wp_region_fx_tail 12 (oneF 8 (.complex .f64 re im)) (by kernel_rfl) (by kernel_rfl) (by kernel_rfl) (by kernel_rfl) ?_
  repeat (first | (refine wpM_skip rfl ?_) | (refine wpM_all rfl rfl (fun K hK => ?_); go_simp; refine hK _ ?_; clear hK K))
  refine wpM_look (.int .u8 ty) rfl rfl (fun w6 hc6 _ => ?_) ?_
  · have c0 : w6.cell? ⟨w.heap.size, 0, none⟩ = some (.int .u8 ty) := cell_of_row _ _ 0 _ 104 (0, 0) ((hc6.block _ (row_lt P0.out)).trans P0.out)
    go_simp
  repeat (first | (refine wpM_skip rfl ?_) | (refine wpM_all rfl rfl (fun K hK => ?_); go_simp; refine hK _ ?_; clear hK K))
  refine wpM_look (.int .i64 num) rfl rfl (fun w6 hc6 _ => ?_) ?_
  · have c0 : w6.cell? ⟨w.heap.size, 1, none⟩ = some (.int .i64 num) := cell_of_row _ _ 1 _ 104 (0, 0) ((hc6.block _ (row_lt P0.out)).trans P0.out)
    go_simp
  repeat (first | (refine wpM_skip rfl ?_) | (refine wpM_all rfl rfl (fun K hK => ?_); go_simp; refine hK _ ?_; clear hK K))
  refine wpM_look (.int .u64 (re : Int)) rfl rfl (fun w6 hc6 _ => ?_) ?_
  · have c0 : w6.cell? ⟨w.heap.size, 2, none⟩ = some (.int .u64 (re : Int)) := cell_of_row _ _ 2 _ 104 (0, 0) ((hc6.block _ (row_lt P0.out)).trans P0.out)
    go_simp
  repeat (first | (refine wpM_skip rfl ?_) | (refine wpM_all rfl rfl (fun K hK => ?_); go_simp; refine hK _ ?_; clear hK K))
  refine wpM_look (.int .u64 (im : Int)) rfl rfl (fun w6 hc6 _ => ?_) ?_
  · have c0 : w6.cell? ⟨w.heap.size, 3, none⟩ = some (.int .u64 (im : Int)) := cell_of_row _ _ 3 _ 104 (0, 0) ((hc6.block _ (row_lt P0.out)).trans P0.out)
    go_simp
  repeat (first | (refine wpM_skip rfl ?_) | (refine wpM_all rfl rfl (fun K hK => ?_); go_simp; refine hK _ ?_; clear hK K))
  refine wpM_eff rfl rfl (fun w9 hc9 _ => steps_enter ((of_any re im w9).mono fun e w' h => (⟨h.1, h.2 ▸ Below.refl _ _⟩ : RetV _ _ _ _)) (by go_simp; first | done | rfl | exact ⟨rfl, rfl⟩) (val_val (oneF_at 8 _))) ?_
  rintro v8 ⟨wq, hq⟩
  obtain rfl : v8 = _ := hq
  clear wq
  repeat (first | (refine wpM_skip rfl ?_) | (refine wpM_all rfl rfl (fun K hK => ?_); go_simp; refine hK _ ?_; clear hK K))
  refine wpM_look (.string text) rfl rfl (fun w6 hc6 _ => ?_) ?_
  · have c0 : w6.cell? ⟨w.heap.size, 4, none⟩ = some (.string text) := cell_of_row _ _ 4 _ 104 (0, 0) ((hc6.block _ (row_lt P0.out)).trans P0.out)
    go_simp
  repeat (first | (refine wpM_skip rfl ?_) | (refine wpM_all rfl rfl (fun K hK => ?_); go_simp; refine hK _ ?_; clear hK K))
  (refine wpM_norm (fun K hK => ?_); go_simp; refine hK _ ?_; clear hK K)
  refine wpM_nil fun w10 hc10 _ => ?_
  show wpList _ _ _ [_] _ _
  have q1 := (hc10.block _ (row_lt P1.out)).trans P1.out
  have HB10 := Lib.hid (HB.out.trans (hc10.mono HB.out.size))
  refine wpList_store_row rfl 116 _ _ rfl (w.heap.size + 1) rfl #[.int .u8 ty, .int .i64 num, .complex .f64 re im, .string text] rfl _ 116 q1 (by kernel_rfl) rfl (by
    intro x hx
    simp at hx
    rcases hx with rfl | rfl | rfl | rfl <;> rfl) rfl ?_
  have HB9 := Lib.hid (below_setRow HB10.out (show w.heap.size ≤ w.heap.size + 1 by omega) (cs := #[.int .u8 ty, .int .i64 num, .complex .f64 re im, .string text]))
  have HH9 := Lib.hid (setRow_heap w10 (w.heap.size + 1) _ #[.int .u8 ty, .int .i64 num, .complex .f64 re im, .string text] 116 (0, 0) q1)
  generalize w10.setRow (w.heap.size + 1) #[.int .u8 ty, .int .i64 num, .complex .f64 re im, .string text] = w9 at *
  go_wp2
  exact bodyPost_ret (results_cell_row rfl _ w9 _ 116 _ (0, 0) _ rfl HH9.out Try.underlying116 rfl (by kernel_rfl)) rfl ⟨rfl, HB9.out⟩
set_option maxRecDepth 100000 in
set_option maxHeartbeats 6400000 in
/-- A cell of the document, as the program's. -/
theorem ownC_any (kd ty num : Int) (re im : Nat) (text : ByteArray) (w : World) : Calls Try.prog 64 #[.agg #[.int .u8 kd, .int .u8 ty, .int .i64 num, .int .u64 (re : Int), .int .u64 (im : Int), .string text]] w (RetV (.agg #[.int .u8 kd, .int .u8 ty, .int .i64 num, .complex .f64 re im, .string text]) w) := by
  go_enter Try.func64, Try.ntmps64
  go_wp2_with fail
  generalize hW : World.alloc (World.alloc w _) _ = W
  obtain ⟨hb0, p0, p1, hsz⟩ := alloc2 hW
  have HB := Lib.hid hb0; have P0 := Lib.hid p0; have P1 := Lib.hid p1
  clear hW hb0 p0 p1
  refine wp_region_fx_tail 6 (oneF 4 (.agg #[.int .u8 ty, .int .i64 num, .complex .f64 re im, .string text])) (by kernel_rfl) (by kernel_rfl) (by kernel_rfl) (by kernel_rfl) ?_
  repeat (first | (refine wpM_skip rfl ?_) | (refine wpM_all rfl rfl (fun K hK => ?_); go_simp; refine hK _ ?_; clear hK K))
  refine wpM_look (.int .u8 kd) rfl rfl (fun w6 hc6 _ => ?_) ?_
  · have c0 : w6.cell? ⟨w.heap.size, 0, none⟩ = some (.int .u8 kd) := cell_of_row _ _ 0 _ 106 (0, 0) ((hc6.block _ (row_lt P0.out)).trans P0.out)
    go_simp
  repeat (first | (refine wpM_skip rfl ?_) | (refine wpM_all rfl rfl (fun K hK => ?_); go_simp; refine hK _ ?_; clear hK K))
  refine wpM_look (.agg #[.int .u8 ty, .int .i64 num, .int .u64 (re : Int), .int .u64 (im : Int), .string text]) rfl rfl (fun w6 hc6 _ => ?_) ?_
  · have c0 : w6.cell? ⟨w.heap.size, 1, none⟩ = some (.int .u8 ty) := cell_of_row _ _ 1 _ 106 (0, 0) ((hc6.block _ (row_lt P0.out)).trans P0.out)
    have c1 : w6.cell? ⟨w.heap.size, 2, none⟩ = some (.int .i64 num) := cell_of_row _ _ 2 _ 106 (0, 0) ((hc6.block _ (row_lt P0.out)).trans P0.out)
    have c2 : w6.cell? ⟨w.heap.size, 3, none⟩ = some (.int .u64 (re : Int)) := cell_of_row _ _ 3 _ 106 (0, 0) ((hc6.block _ (row_lt P0.out)).trans P0.out)
    have c3 : w6.cell? ⟨w.heap.size, 4, none⟩ = some (.int .u64 (im : Int)) := cell_of_row _ _ 4 _ 106 (0, 0) ((hc6.block _ (row_lt P0.out)).trans P0.out)
    have c4 : w6.cell? ⟨w.heap.size, 5, none⟩ = some (.string text) := cell_of_row _ _ 5 _ 106 (0, 0) ((hc6.block _ (row_lt P0.out)).trans P0.out)
    go_simp
  repeat (first | (refine wpM_skip rfl ?_) | (refine wpM_all rfl rfl (fun K hK => ?_); go_simp; refine hK _ ?_; clear hK K))
  refine wpM_eff rfl rfl (fun w9 hc9 _ => steps_enter (ownV_any ty num re im text w9) (by go_simp; first | done | rfl | exact ⟨rfl, rfl⟩) (val_val (oneF_at 4 _))) ?_
  rintro v4 ⟨wq, hq⟩
  obtain rfl : v4 = _ := hq
  clear wq
  repeat (first | (refine wpM_skip rfl ?_) | (refine wpM_all rfl rfl (fun K hK => ?_); go_simp; refine hK _ ?_; clear hK K))
  (refine wpM_norm (fun K hK => ?_); go_simp; refine hK _ ?_; clear hK K)
  refine wpM_nil fun w10 hc10 _ => ?_
  show wpList _ _ _ [_] _ _
  have q1 := (hc10.block _ (row_lt P1.out)).trans P1.out
  have HB10 := Lib.hid (HB.out.trans (hc10.mono HB.out.size))
  refine wpList_store_row rfl 118 _ _ rfl (w.heap.size + 1) rfl #[.int .u8 kd, .int .u8 ty, .int .i64 num, .complex .f64 re im, .string text] rfl _ 118 q1 (by kernel_rfl) rfl (by
    intro x hx
    simp at hx
    rcases hx with rfl | rfl | rfl | rfl | rfl <;> rfl) rfl ?_
  have HB9 := Lib.hid (below_setRow HB10.out (show w.heap.size ≤ w.heap.size + 1 by omega) (cs := #[.int .u8 kd, .int .u8 ty, .int .i64 num, .complex .f64 re im, .string text]))
  have HH9 := Lib.hid (setRow_heap w10 (w.heap.size + 1) _ #[.int .u8 kd, .int .u8 ty, .int .i64 num, .complex .f64 re im, .string text] 118 (0, 0) q1)
  generalize w10.setRow (w.heap.size + 1) #[.int .u8 kd, .int .u8 ty, .int .i64 num, .complex .f64 re im, .string text] = w9 at *
  go_wp2
  exact bodyPost_ret (results_cell_row rfl _ w9 _ 118 _ (0, 0) _ rfl HH9.out Try.underlying118 rfl (by kernel_rfl)) rfl ⟨rfl, HB9.out⟩
set_option maxRecDepth 100000 in
set_option maxHeartbeats 6400000 in
/-- A value of the program, as the document's. -/
theorem backV_any (ty num : Int) (re im : Nat) (text : ByteArray) (w : World) : Calls Try.prog 67 #[.agg #[.int .u8 ty, .int .i64 num, .complex .f64 re im, .string text]] w (RetV (.agg #[.int .u8 ty, .int .i64 num, .int .u64 (re : Int), .int .u64 (im : Int), .string text]) w) := by
  go_enter Try.func67, Try.ntmps67
  go_upto_region 1 with fail
  generalize hW : World.alloc (World.alloc w _) _ = W
  obtain ⟨hb0, p0, p1, hsz⟩ := alloc2 hW
  have HB := Lib.hid hb0; have P0 := Lib.hid p0; have P1 := Lib.hid p1
  clear hW hb0 p0 p1
  have a0 : W.cell? ⟨w.heap.size, 0, none⟩ = some (.int .u8 ty) := cell_of_row _ _ 0 _ 116 (0, 0) P0.out
  have a1 : W.cell? ⟨w.heap.size, 1, none⟩ = some (.int .i64 num) := cell_of_row _ _ 1 _ 116 (0, 0) P0.out
  have a2 : W.cell? ⟨w.heap.size, 2, none⟩ = some (.complex .f64 re im) := cell_of_row _ _ 2 _ 116 (0, 0) P0.out
  have a3 : W.cell? ⟨w.heap.size, 3, none⟩ = some (.string text) := cell_of_row _ _ 3 _ 116 (0, 0) P0.out
  have fza : ∀ i, W.frozen? ⟨w.heap.size, i, none⟩ = false := fun i => row_free P0.out i
  clear fza
  go_wp2_with fail
  refine (bits_any re im W).mono ?_
  rintro e w10 ⟨rfl, rfl⟩
  have q1 := P1.out
  have HB10 := HB
  have HB9 := Lib.hid (below_setRow HB10.out (show w.heap.size ≤ w.heap.size + 1 by omega) (cs := #[.int .u8 ty, .int .i64 num, .int .u64 (re : Int), .int .u64 (im : Int), .string text]))
  have HH9 := Lib.hid (setRow_heap w10 (w.heap.size + 1) _ #[.int .u8 ty, .int .i64 num, .int .u64 (re : Int), .int .u64 (im : Int), .string text] 104 (0, 0) q1)
  go_wp2_with (refine wpList_store_row rfl 104 _ _ rfl (w.heap.size + 1) rfl #[.int .u8 ty, .int .i64 num, .int .u64 (re : Int), .int .u64 (im : Int), .string text] rfl _ 104 q1 (by kernel_rfl) rfl (by
    intro x hx
    simp at hx
    rcases hx with rfl | rfl | rfl | rfl | rfl <;> rfl) rfl ?_)
  generalize w10.setRow (w.heap.size + 1) #[.int .u8 ty, .int .i64 num, .int .u64 (re : Int), .int .u64 (im : Int), .string text] = w9 at *
  exact bodyPost_ret (results_cell_row rfl _ w9 _ 104 _ (0, 0) _ rfl HH9.out Try.underlying104 rfl (by kernel_rfl)) rfl ⟨rfl, HB9.out⟩
set_option maxRecDepth 100000 in
set_option maxHeartbeats 6400000 in
/-- A cell of the program, as the document's. -/
theorem backC_any (kd ty num : Int) (re im : Nat) (text : ByteArray) (w : World) : Calls Try.prog 52 #[.agg #[.int .u8 kd, .int .u8 ty, .int .i64 num, .complex .f64 re im, .string text]] w (RetV (.agg #[.int .u8 kd, .int .u8 ty, .int .i64 num, .int .u64 (re : Int), .int .u64 (im : Int), .string text]) w) := by
  go_enter Try.func52, Try.ntmps52
  go_wp2_with fail
  generalize hW : World.alloc (World.alloc w _) _ = W
  obtain ⟨hb0, p0, p1, hsz⟩ := alloc2 hW
  have HB := Lib.hid hb0; have P0 := Lib.hid p0; have P1 := Lib.hid p1
  clear hW hb0 p0 p1
  refine wp_region_fx_tail 6 (oneF 4 (.agg #[.int .u8 ty, .int .i64 num, .int .u64 (re : Int), .int .u64 (im : Int), .string text])) (by kernel_rfl) (by kernel_rfl) (by kernel_rfl) (by kernel_rfl) ?_
  repeat (first | (refine wpM_skip rfl ?_) | (refine wpM_all rfl rfl (fun K hK => ?_); go_simp; refine hK _ ?_; clear hK K))
  refine wpM_look (.int .u8 kd) rfl rfl (fun w6 hc6 _ => ?_) ?_
  · have c0 : w6.cell? ⟨w.heap.size, 0, none⟩ = some (.int .u8 kd) := cell_of_row _ _ 0 _ 118 (0, 0) ((hc6.block _ (row_lt P0.out)).trans P0.out)
    go_simp
  repeat (first | (refine wpM_skip rfl ?_) | (refine wpM_all rfl rfl (fun K hK => ?_); go_simp; refine hK _ ?_; clear hK K))
  refine wpM_look (.agg #[.int .u8 ty, .int .i64 num, .complex .f64 re im, .string text]) rfl rfl (fun w6 hc6 _ => ?_) ?_
  · have c0 : w6.cell? ⟨w.heap.size, 1, none⟩ = some (.int .u8 ty) := cell_of_row _ _ 1 _ 118 (0, 0) ((hc6.block _ (row_lt P0.out)).trans P0.out)
    have c1 : w6.cell? ⟨w.heap.size, 2, none⟩ = some (.int .i64 num) := cell_of_row _ _ 2 _ 118 (0, 0) ((hc6.block _ (row_lt P0.out)).trans P0.out)
    have c2 : w6.cell? ⟨w.heap.size, 3, none⟩ = some (.complex .f64 re im) := cell_of_row _ _ 3 _ 118 (0, 0) ((hc6.block _ (row_lt P0.out)).trans P0.out)
    have c3 : w6.cell? ⟨w.heap.size, 4, none⟩ = some (.string text) := cell_of_row _ _ 4 _ 118 (0, 0) ((hc6.block _ (row_lt P0.out)).trans P0.out)
    go_simp
  repeat (first | (refine wpM_skip rfl ?_) | (refine wpM_all rfl rfl (fun K hK => ?_); go_simp; refine hK _ ?_; clear hK K))
  refine wpM_eff rfl rfl (fun w9 hc9 _ => steps_enter (backV_any ty num re im text w9) (by go_simp; first | done | rfl | exact ⟨rfl, rfl⟩) (val_val (oneF_at 4 _))) ?_
  rintro v4 ⟨wq, hq⟩
  obtain rfl : v4 = _ := hq
  clear wq
  repeat (first | (refine wpM_skip rfl ?_) | (refine wpM_all rfl rfl (fun K hK => ?_); go_simp; refine hK _ ?_; clear hK K))
  (refine wpM_norm (fun K hK => ?_); go_simp; refine hK _ ?_; clear hK K)
  refine wpM_nil fun w10 hc10 _ => ?_
  show wpList _ _ _ [_] _ _
  have q1 := (hc10.block _ (row_lt P1.out)).trans P1.out
  have HB10 := Lib.hid (HB.out.trans (hc10.mono HB.out.size))
  refine wpList_store_row rfl 106 _ _ rfl (w.heap.size + 1) rfl #[.int .u8 kd, .int .u8 ty, .int .i64 num, .int .u64 (re : Int), .int .u64 (im : Int), .string text] rfl _ 106 q1 (by kernel_rfl) rfl (by
    intro x hx
    simp at hx
    rcases hx with rfl | rfl | rfl | rfl | rfl | rfl <;> rfl) rfl ?_
  have HB9 := Lib.hid (below_setRow HB10.out (show w.heap.size ≤ w.heap.size + 1 by omega) (cs := #[.int .u8 kd, .int .u8 ty, .int .i64 num, .int .u64 (re : Int), .int .u64 (im : Int), .string text]))
  have HH9 := Lib.hid (setRow_heap w10 (w.heap.size + 1) _ #[.int .u8 kd, .int .u8 ty, .int .i64 num, .int .u64 (re : Int), .int .u64 (im : Int), .string text] 106 (0, 0) q1)
  generalize w10.setRow (w.heap.size + 1) #[.int .u8 kd, .int .u8 ty, .int .i64 num, .int .u64 (re : Int), .int .u64 (im : Int), .string text] = w9 at *
  go_wp2
  exact bodyPost_ret (results_cell_row rfl _ w9 _ 106 _ (0, 0) _ rfl HH9.out Try.underlying106 rfl (by kernel_rfl)) rfl ⟨rfl, HB9.out⟩
end Go.Proofs.Ytaaijgalminafaa
