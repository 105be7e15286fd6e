import Derived.Test.YtaaijgalminafaaCv2
import Derived.Test.YtaaijgalminafaaFm
/-
  Layer 24: rows of the document as the program's, and back (f47, f41), refs (f46) (printed by gen_cv3.py).
-/
namespace Go.Proofs.Ytaaijgalminafaa
open Go.RowKit

theorem Try.info106 : (Try.prog.info? 106).map (fun i => (i.zero, i.size, i.bytes)) = some (some (.agg #[.int .u8 0, .int .u8 0, .int .i64 0, .int .u64 0, .int .u64 0, .string .empty]), 6, 56) := by kernel_rfl

set_option maxRecDepth 100000 in
set_option maxHeartbeats 6400000 in
/-- The cells of a row of the document, as the program's. -/
theorem ownRow_any (r : Ro Ce) (S : Nat → Prop) (w : World) (hR : RoAt KR w S r) (hS : ∀ b, S b → b < w.heap.size) (hl : r.l.length ≤ 1000) : Calls Try.prog 47 #[r.v] w (RetRo KP S r.l w) := by
  obtain ⟨i0, hi, hz0, hz1, hz2⟩ := info_parts Try.info118
  obtain ⟨l, A, c⟩ := r
  unfold Ro.v
  simp only at hl ⊢
  have HR := Lib.hid hR
  clear hR
  go_enter Try.func47, Try.ntmps47
  go_wp2
  go_loopw [3, 4] (fun s3 s4 wr => ∃ j : Nat, j ≤ l.length ∧ s4 = .int .i64 (j : Int) ∧ Below w.heap.size w wr ∧ Hid (OwE KP S w.heap.size 118 wr s3 (l.take j))) (fun _ s4 _ => l.length - (intOf s4).toNat)
  case atStart => exact ⟨0, by omega, rfl, Below.refl _ _, OwE.nil⟩
  case round =>
    obtain ⟨j, hj, rfl, hb, hO⟩ := hrel
    by_cases hlt : j < l.length
    · have hd : (j : Int) < (l.length : Int) := by omega
      have HB := Lib.hid hb
      obtain ⟨b, off, e0, hSb, hcell⟩ := (HR.out.up (Same.below hb hS) (fun _ h => h) : RoAt KR wr S ⟨l, A, c⟩).get hlt
      simp only at e0
      subst e0
      have hcj := hcell j hlt
      have htk : Hid (l.take (j + 1) = l.take j ++ [l[j]]) := List.take_succ_eq_append_getElem hlt
      have htl : (l.take j).length ≤ 1000 := by rw [List.length_take]; omega
      have hsz := hb.size
      clear hcell
      generalize l[j] = x at *
      obtain ⟨kd, ty, num, re, im, text⟩ := x
      have k0 : wr.cell? ⟨b, off + j * 6, none⟩ = some (.int .u8 kd) := hcj 0 _ rfl
      have k1 : wr.cell? ⟨b, off + j * 6 + 1, none⟩ = some (.int .u8 ty) := hcj 1 _ rfl
      have k2 : wr.cell? ⟨b, off + j * 6 + 2, none⟩ = some (.int .i64 num) := hcj 2 _ rfl
      have k3 : wr.cell? ⟨b, off + j * 6 + 3, none⟩ = some (.int .u64 (re : Int)) := hcj 3 _ rfl
      have k4 : wr.cell? ⟨b, off + j * 6 + 4, none⟩ = some (.int .u64 (im : Int)) := hcj 4 _ rfl
      have k5 : wr.cell? ⟨b, off + j * 6 + 5, none⟩ = some (.string text) := hcj 5 _ rfl
      clear hcj
      go_wp2_with fail
      refine (ownC_any kd ty num re im text wr).mono ?_
      rintro e w2 ⟨rfl, hb2⟩
      have hw3 := hb2.alloc hb2.size (.cells #[.int .u8 kd, .int .u8 ty, .int .i64 num, .complex .f64 re im, .string text] 118)
      have hO3 := Lib.hid (hO.out.up hw3 fun b hb' => Nat.lt_of_lt_of_le (hS b hb') hsz)
      have hb3 := Lib.hid (HB.out.trans (hw3.mono hsz))
      have hnews := cells_news (heap_alloc_new w2 (.cells #[.int .u8 kd, .int .u8 ty, .int .i64 num, .complex .f64 re im, .string text] 118))
      have hone := KP.one ⟨kd, ty, num, re, im, text⟩
      have hsz3 := hw3.size
      have hown := hO3.out.own
      clear hb2 hb k0 k1 k2 k3 k4 k5 hO hw3
      go_wp2_with (at_builtin; refine wpList_append_fresh rfl _ _ 58 rfl w.heap.size 118 i0 (.agg #[.int .u8 0, .int .u8 0, .int .i64 0, .complex .f64 0 0, .string .empty]) 5 56 Try.underlying58 hi hz0 hz1 hz2 rfl (by decide) _ _ _ rfl hown ⟨w2.heap.size, 0, none⟩ 1 1 [.int .u8 kd, .int .u8 ty, .int .i64 num, .complex .f64 re im, .string text] rfl rfl hnews hone (by simp only [maxLen]; omega) (by omega) (by omega) ?_)
      intro v8 w8 hown8 hg8 hf8
      have hown9 : w8.ownsRow w.heap.size 118 KP.k v8 (l.take j ++ [(⟨kd, ty, num, re, im, text⟩ : Ce)]).length ((l.take j ++ [(⟨kd, ty, num, re, im, text⟩ : Ce)]).flatMap KP.f) := by
        rw [List.length_append, List.flatMap_append, List.length_take, Nat.min_eq_left hj]; exact hown8
      have hO9 := hO3.out.snoc (b1 := (w2.alloc (.cells #[.int .u8 kd, .int .u8 ty, .int .i64 num, .complex .f64 re im, .string text] 118)).heap.size) trivial hS (by omega) (fun b hb' => (hO3.out.own.lt b hb').2) (by omega) hown9 hg8 (by simpa only [World.size_alloc] using hf8)
      have hb9 := own_base hown hb3.out hg8 (by omega)
      rw [← htk.out] at hO9
      have HO9 := Lib.hid hO9
      clear hown hown8 hown9 hg8 hf8 hnews hone hO3 hb3 hO9
      go_wp2
      go_roundw
      case rel => exact ⟨j + 1, by omega, by go_num, hb9, HO9⟩
      case measure => simp [intOf]; omega
    · obtain rfl : j = l.length := by omega
      rw [List.take_length] at hO
      go_wp2
      go_ret
      exact hO.out.ret hb

set_option maxRecDepth 100000 in
set_option maxHeartbeats 6400000 in
/-- The cells of a row of the program, as the document's. -/
theorem backRow_any (r : Ro Ce) (S : Nat → Prop) (w : World) (hR : RoAt KP w S r) (hS : ∀ b, S b → b < w.heap.size) (hl : r.l.length ≤ 1000) : Calls Try.prog 41 #[r.v] w (RetRo KR S r.l w) := by
  obtain ⟨i0, hi, hz0, hz1, hz2⟩ := info_parts Try.info106
  obtain ⟨l, A, c⟩ := r
  unfold Ro.v
  simp only at hl ⊢
  have HR := Lib.hid hR
  clear hR
  go_enter Try.func41, Try.ntmps41
  go_wp2
  go_loopw [3, 4] (fun s3 s4 wr => ∃ j : Nat, j ≤ l.length ∧ s4 = .int .i64 (j : Int) ∧ Below w.heap.size w wr ∧ Hid (OwE KR S w.heap.size 106 wr s3 (l.take j))) (fun _ s4 _ => l.length - (intOf s4).toNat)
  case atStart => exact ⟨0, by omega, rfl, Below.refl _ _, OwE.nil⟩
  case round =>
    obtain ⟨j, hj, rfl, hb, hO⟩ := hrel
    by_cases hlt : j < l.length
    · have hd : (j : Int) < (l.length : Int) := by omega
      have HB := Lib.hid hb
      obtain ⟨b, off, e0, hSb, hcell⟩ := (HR.out.up (Same.below hb hS) (fun _ h => h) : RoAt KP wr S ⟨l, A, c⟩).get hlt
      simp only at e0
      subst e0
      have hcj := hcell j hlt
      have htk : Hid (l.take (j + 1) = l.take j ++ [l[j]]) := List.take_succ_eq_append_getElem hlt
      have htl : (l.take j).length ≤ 1000 := by rw [List.length_take]; omega
      have hsz := hb.size
      clear hcell
      generalize l[j] = x at *
      obtain ⟨kd, ty, num, re, im, text⟩ := x
      have k0 : wr.cell? ⟨b, off + j * 5, none⟩ = some (.int .u8 kd) := hcj 0 _ rfl
      have k1 : wr.cell? ⟨b, off + j * 5 + 1, none⟩ = some (.int .u8 ty) := hcj 1 _ rfl
      have k2 : wr.cell? ⟨b, off + j * 5 + 2, none⟩ = some (.int .i64 num) := hcj 2 _ rfl
      have k3 : wr.cell? ⟨b, off + j * 5 + 3, none⟩ = some (.complex .f64 re im) := hcj 3 _ rfl
      have k4 : wr.cell? ⟨b, off + j * 5 + 4, none⟩ = some (.string text) := hcj 4 _ rfl
      clear hcj
      go_wp2_with fail
      refine (backC_any kd ty num re im text wr).mono ?_
      rintro e w2 ⟨rfl, hb2⟩
      have hw3 := hb2.alloc hb2.size (.cells #[.int .u8 kd, .int .u8 ty, .int .i64 num, .int .u64 (re : Int), .int .u64 (im : Int), .string text] 106)
      have hO3 := Lib.hid (hO.out.up hw3 fun b hb' => Nat.lt_of_lt_of_le (hS b hb') hsz)
      have hb3 := Lib.hid (HB.out.trans (hw3.mono hsz))
      have hnews := cells_news (heap_alloc_new w2 (.cells #[.int .u8 kd, .int .u8 ty, .int .i64 num, .int .u64 (re : Int), .int .u64 (im : Int), .string text] 106))
      have hone := KR.one ⟨kd, ty, num, re, im, text⟩
      have hsz3 := hw3.size
      have hown := hO3.out.own
      clear hb2 hb k0 k1 k2 k3 k4 hO hw3
      go_wp2_with (at_builtin; refine wpList_append_fresh rfl _ _ 65 rfl w.heap.size 106 i0 (.agg #[.int .u8 0, .int .u8 0, .int .i64 0, .int .u64 0, .int .u64 0, .string .empty]) 6 56 Try.underlying65 hi hz0 hz1 hz2 rfl (by decide) _ _ _ rfl hown ⟨w2.heap.size, 0, none⟩ 1 1 [.int .u8 kd, .int .u8 ty, .int .i64 num, .int .u64 (re : Int), .int .u64 (im : Int), .string text] rfl rfl hnews hone (by simp only [maxLen]; omega) (by omega) (by omega) ?_)
      intro v8 w8 hown8 hg8 hf8
      have hown9 : w8.ownsRow w.heap.size 106 KR.k v8 (l.take j ++ [(⟨kd, ty, num, re, im, text⟩ : Ce)]).length ((l.take j ++ [(⟨kd, ty, num, re, im, text⟩ : Ce)]).flatMap KR.f) := by
        rw [List.length_append, List.flatMap_append, List.length_take, Nat.min_eq_left hj]; exact hown8
      have hO9 := hO3.out.snoc (b1 := (w2.alloc (.cells #[.int .u8 kd, .int .u8 ty, .int .i64 num, .int .u64 (re : Int), .int .u64 (im : Int), .string text] 106)).heap.size) trivial hS (by omega) (fun b hb' => (hO3.out.own.lt b hb').2) (by omega) hown9 hg8 (by simpa only [World.size_alloc] using hf8)
      have hb9 := own_base hown hb3.out hg8 (by omega)
      rw [← htk.out] at hO9
      have HO9 := Lib.hid hO9
      clear hown hown8 hown9 hg8 hf8 hnews hone hO3 hb3 hO9
      go_wp2
      go_roundw
      case rel => exact ⟨j + 1, by omega, by go_num, hb9, HO9⟩
      case measure => simp [intOf]; omega
    · obtain rfl : j = l.length := by omega
      rw [List.take_length] at hO
      go_wp2
      go_ret
      exact hO.out.ret hb
set_option maxRecDepth 100000 in
/-- A ref of the document, as the program's. -/
theorem ownRef_any (r : Rf) (w : World) : Calls Try.prog 46 #[KF.v r] w (RetV (KF.v r) w) := by
  obtain ⟨oid, ver⟩ := r
  show Calls Try.prog 46 #[.agg #[.int .u32 oid, .int .u32 ver]] w (RetV (.agg #[.int .u32 oid, .int .u32 ver]) w)
  go_enter Try.func46, Try.ntmps46
  go_wp2
  have hb := ((Below.refl _ w).alloc (Nat.le_refl _) (.cells #[.int .u32 oid, .int .u32 ver] 64)).alloc (by simp) (.cells #[.int .u32 oid, .int .u32 ver] 56)
  have hh := heap_alloc_new (w.alloc (.cells #[.int .u32 oid, .int .u32 ver] 64)) (.cells #[.int .u32 oid, .int .u32 ver] 56)
  rw [World.size_alloc] at hh
  exact bodyPost_ret (results_cell_row rfl _ _ _ 56 _ (0, 0) _ rfl hh Try.underlying56 rfl (by kernel_rfl)) rfl ⟨rfl, hb⟩
end Go.Proofs.Ytaaijgalminafaa
/-
  Layer 24: an event is made: its rows, then its refs one by one.
-/
namespace Go.Proofs.Ytaaijgalminafaa
open Go.RowKit State Mem

/-- A slice of such things, out of S and what is new since B. -/
def supRo {α : Type} (S : Nat → Prop) (B : Nat) (K : Kd α) (l : List α) : Mem.Sup where
  p v T w := ∃ A c, v = .slice A l.length c ∧ RoAt K w T ⟨l, A, c⟩ ∧ ∀ b, T b → Since S B w b
  keep := fun _ T _ _ ⟨A, c, h1, h2, h3⟩ hk hs => ⟨A, c, h1, h2.up (S' := T) (fun _ hp => World.cell?_of_block (hk _ hp)) (fun _ h => h), fun b hb => Since.up hs b (h3 b hb)⟩
theorem retRo_sup {α : Type} {S : Nat → Prop} {B : Nat} {K : Kd α} {l : List α} {w : World} (hB : B ≤ w.heap.size) (hS : ∀ b, S b → b < B) : ∀ en w', RetRo K S l w en w' → ∃ u, ∃ T : Nat → Prop, en = .returned u ∧ Below w.heap.size w w' ∧ (supRo S B K l).p u T w' ∧ ∀ g, T g → g < w'.heap.size ∧ (g < B ∨ w.heap.size ≤ g) := by
  rintro en w' ⟨A, c, rfl, h1, hb⟩
  refine ⟨_, Since S w.heap.size w', rfl, hb, ⟨A, c, rfl, h1, fun b hb' => hb'.imp id fun ⟨h2, h3⟩ => ⟨by omega, h3⟩⟩, fun g hg => ⟨Since.lt (fun b h => Nat.lt_of_lt_of_le (hS b h) (Nat.le_trans hB hb.size)) g hg, hg.imp (hS g) (·.1)⟩⟩
/-- A value that leans on nothing. -/
def supV (v0 : Value) : Mem.Sup where
  p v _ _ := v = v0
  keep := fun _ _ _ _ h _ _ => h
theorem retV_sup {v : Value} {B : Nat} {w : World} : ∀ en w', RetV v w en w' → ∃ u, ∃ T : Nat → Prop, en = .returned u ∧ Below w.heap.size w w' ∧ (supV v).p u T w' ∧ ∀ g, T g → g < w'.heap.size ∧ (g < B ∨ w.heap.size ≤ g) := by
  rintro en w' ⟨rfl, hb⟩
  exact ⟨_, fun _ => False, rfl, hb, rfl, fun _ h => h.elim⟩
def evCells (kd oid ver old fl : Int) (b a r : Value) : Array Value := #[.int .u8 kd, .int .u32 oid, .int .u32 ver, .int .u8 old, b, a, r, .int .u8 fl]
/-- What stands while refs are added: w0 is where the call began, w1 where the refs begin; block g holds the event to be. -/
structure EvJ (K : Kd Ce) (S : Nat → Prop) (ty e : TypeId) (g : Nat) (kd oid ver old fl : Int) (bf af : Ro Ce) (T9 T12 : Nat → Prop) (w0 w1 wr : World) (v : Value) (l : List Rf) : Prop where
  lo : w0.heap.size ≤ g
  gl : g < w1.heap.size
  b0 : w0.heap.size ≤ w1.heap.size
  b : Below w0.heap.size w0 wr
  le : w1.heap.size ≤ wr.heap.size
  o : wr.heap[g]? = some (.cells (evCells kd oid ver old fl bf.v af.v v) ty (0, 0))
  own : OwE KF S w1.heap.size e wr v l
  bf : RoAt K wr T9 bf
  af : RoAt K wr T12 af
  t9 : ∀ b, T9 b → Since S w0.heap.size w1 b ∧ b ≠ g
  t12 : ∀ b, T12 b → Since S w0.heap.size w1 b ∧ b ≠ g
  kp : ∀ b, b < w1.heap.size → b ≠ g → wr.heap[b]? = w1.heap[b]?
section
variable {K : Kd Ce} {S : Nat → Prop} {ty e : TypeId} {g : Nat} {kd oid ver old fl : Int} {bf af : Ro Ce} {T9 T12 : Nat → Prop} {w0 w1 wr w' : World} {v v' : Value} {l l' : List Rf}
theorem EvJ.later (h : EvJ K S ty e g kd oid ver old fl bf af T9 T12 w0 w1 wr v l) (hS : ∀ b, S b → b < w0.heap.size) (hb : Below wr.heap.size wr w') : EvJ K S ty e g kd oid ver old fl bf af T9 T12 w0 w1 w' v l := by
  have hSr : ∀ b, S b → b < wr.heap.size := fun b hb' => Nat.lt_of_lt_of_le (hS b hb') h.b.size
  have lt : ∀ b, Since S w0.heap.size w1 b → b < wr.heap.size := fun b hb' => hb'.elim (hSr b) (fun ⟨_, h2⟩ => Nat.lt_of_lt_of_le h2 h.le)
  exact ⟨h.lo, h.gl, h.b0, h.b.trans (hb.mono h.b.size), Nat.le_trans h.le hb.size, (hb.block g (row_lt h.o)).trans h.o, h.own.up hb hSr,
    h.bf.up (Same.below hb fun b hb' => lt b (h.t9 b hb').1) (fun _ h => h), h.af.up (Same.below hb fun b hb' => lt b (h.t12 b hb').1) (fun _ h => h), h.t9, h.t12, fun b hb' hne => (hb.block b (Nat.lt_of_lt_of_le hb' h.le)).trans (h.kp b hb' hne)⟩
theorem row_put {w : World} {g : Nat} {kd oid ver old fl : Int} {b a r r' : Value} {t : TypeId} (h : w.heap[g]? = some (.cells (evCells kd oid ver old fl b a r) t (0, 0))) : (w.setCell ⟨g, 6, none⟩ r').heap[g]? = some (.cells (evCells kd oid ver old fl b a r') t (0, 0)) := row_set h 6 r'
theorem OwE.setCell {α : Type} {K : Kd α} {base : Nat} {w : World} {l : List α} (h : OwE K S base e w v l) (hg : g < base) (hS : ∀ b, S b → b ≠ g) (i : Nat) (u : Value) : OwE K S base e (w.setCell ⟨g, i, none⟩ u) v l := by
  obtain ⟨S', h1, h2, h3⟩ := h.el
  have hz : (w.setCell ⟨g, i, none⟩ u).heap.size = w.heap.size := by simp [World.setCell]
  have hn : ¬ S' g := fun hg' => (h2 g hg').elim (fun h' => hS g h' rfl) (fun h' => by omega)
  refine ⟨ownsRow_setCell_below h.own hg u, S', fun a ha => K.up (h1 a ha) (Same.setCell (p := ⟨g, i, none⟩) hn u) (fun _ h => h), fun b hb => Since.up (by rw [hz]; exact Nat.le_refl _) b (h2 b hb), h3⟩
/-- One ref more: the row was written, then the event's field. -/
theorem EvJ.put (h : EvJ K S ty e g kd oid ver old fl bf af T9 T12 w0 w1 wr v l) (hS : ∀ b, S b → b < w0.heap.size) (hg : wr.grownBy w' v.ownBlock) (hown : OwE KF S w1.heap.size e w' v' l') : EvJ K S ty e g kd oid ver old fl bf af T9 T12 w0 w1 (w'.setCell ⟨g, 6, none⟩ v') v' l' := by
  have hge : ∀ k, v.ownBlock = some k → w1.heap.size ≤ k := fun k hk => (h.own.own.lt k hk).1
  have lt : ∀ b, Since S w0.heap.size w1 b → b < w1.heap.size := fun b hb' => hb'.elim (fun h' => Nat.lt_of_lt_of_le (hS b h') h.b0) (·.2)
  have hz : (w'.setCell ⟨g, 6, none⟩ v').heap.size = w'.heap.size := by simp [World.setCell]
  have sm : ∀ T : Nat → Prop, (∀ b, T b → Since S w0.heap.size w1 b ∧ b ≠ g) → Same T wr (w'.setCell ⟨g, 6, none⟩ v') := fun T hT =>
    (Same.grown hg fun b hb' => ⟨Nat.lt_of_lt_of_le (lt b (hT b hb').1) h.le, fun e' => by have := hge b e'; have := lt b (hT b hb').1; omega⟩).trans (Same.setCell (p := ⟨g, 6, none⟩) (fun hg' => (hT g hg').2 rfl) v')
  refine ⟨h.lo, h.gl, h.b0, (h.b.grown hg h.b.size (fun k hk => by have := hge k hk; have := h.b0; omega)).setCell (p := ⟨g, 6, none⟩) h.lo v', Nat.le_trans h.le (by rw [hz]; exact hg.size), ?_, ?_, h.bf.up (sm _ h.t9) (fun _ h => h), h.af.up (sm _ h.t12) (fun _ h => h), h.t9, h.t12, fun b hb' hne => ?_⟩
  · refine row_put ((hg.block g (row_lt h.o) (fun e' => ?_)).trans h.o)
    have := hge g e'.symm; have := h.gl; omega
  · exact hown.setCell h.gl (fun b hb' e' => by have := hS b hb'; have := h.lo; omega) 6 v'
  · exact (RowKit.Below.heap_setCell w' _ _ b (fun e => hne e)).trans ((hg.block b (Nat.lt_of_lt_of_le hb' h.le) (fun e' => by have := hge b e'.symm; omega)).trans (h.kp b hb' hne))
/-- The event as it is given back: it has been laid into block b2. -/
theorem EvJ.ret (h : EvJ K S ty e g kd oid ver old fl bf af T9 T12 w0 w1 wr v l) (hS : ∀ b, S b → b < w0.heap.size) {b2 : Nat} (hb2 : w0.heap.size ≤ b2) (hl2 : b2 < w1.heap.size) (hn9 : ¬ T9 b2) (hn12 : ¬ T12 b2) (cs : Array Value) :
    ∃ A c, v = .slice A l.length c ∧ ErAt K (wr.setRow b2 cs) (Since S w0.heap.size (wr.setRow b2 cs)) ⟨kd, ⟨oid, ver⟩, old, bf, af, ⟨l, A, c⟩, fl⟩ ∧ Below w0.heap.size w0 (wr.setRow b2 cs) := by
  obtain ⟨S', h1, h2, h3⟩ := h.own.el
  obtain ⟨A, c, rfl, hr⟩ := (⟨h.own.own, fun a ha => KF.up (h1 a ha) (Same.refl _ _) h2⟩ : OwAt KF w1.heap.size e wr (Since S w1.heap.size wr) v l).ro (fun b h4 h5 => .inr ⟨h4, h5⟩)
  have hz : (wr.setRow b2 cs).heap.size = wr.heap.size := size_setRow
  have hup : ∀ b, Since S w0.heap.size w1 b → Since S w0.heap.size (wr.setRow b2 cs) b := fun b hb' => hb'.imp id fun ⟨h4, h5⟩ => ⟨h4, by have := h.le; omega⟩
  refine ⟨A, c, rfl, ⟨h.bf.up (Same.setRow hn9) fun b hb' => hup b (h.t9 b hb').1, h.af.up (Same.setRow hn12) fun b hb' => hup b (h.t12 b hb').1, hr.up (Same.setRow fun h4 => h4.elim (fun h4 => by have := hS _ h4; omega) (fun h4 => by omega)) fun b hb' => hb'.imp id fun ⟨h4, h5⟩ => ⟨by have := h.b0; omega, by omega⟩⟩, below_setRow h.b hb2⟩
end
end Go.Proofs.Ytaaijgalminafaa
