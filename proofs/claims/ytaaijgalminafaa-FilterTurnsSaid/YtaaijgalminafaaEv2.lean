/-
  Layer 24: slices.Clone of cells (f50), of refs (f51) (printed by gen_ev2.py).
-/
import Derived.Test.YtaaijgalminafaaEv1
namespace Go.Proofs.Ytaaijgalminafaa
open Go.RowKit

/-- A call returned a slice of these things, out of S and what is new. -/
def RetRo {α : Type} (K : Kd α) (S : Nat → Prop) (l : List α) (w : World) (e : Ending) (w' : World) : Prop := ∃ A c, e = .returned (.slice A l.length c) ∧ RoAt K w' (Since S w.heap.size w') ⟨l, A, c⟩ ∧ Below w.heap.size w w'
theorem RetRo.own {α : Type} {K : Kd α} {S : Nat → Prop} {l : List α} {e : TypeId} {v : Value} {w w' : World} (h : OwAt K w.heap.size e w' (Since S w.heap.size w') v l) (hb : Below w.heap.size w w') : RetRo K S l w (.returned v) w' := by
  obtain ⟨A, c, rfl, h1⟩ := h.ro (fun b h1 h2 => .inr ⟨h1, h2⟩)
  exact ⟨A, c, rfl, h1, hb⟩
theorem lit_own {w : World} {e : TypeId} {size : Nat} : (w.alloc (.cells #[] e)).ownsRow w.heap.size e size (.slice (some ⟨w.heap.size, 0, none⟩) 0 0) 0 [] :=
  ⟨by simp, .inr ⟨w.heap.size, 0, #[], rfl, Nat.le_refl _, heap_alloc_new w _, Nat.le_refl _, Nat.zero_le _, by simp, by simp⟩⟩
theorem Try.info118 : (Try.prog.info? 118).map (fun i => (i.zero, i.size, i.bytes)) = some (some (.agg #[.int .u8 0, .int .u8 0, .int .i64 0, .complex .f64 0 0, .string .empty]), 5, 56) := by kernel_rfl
theorem Try.info56 : (Try.prog.info? 56).map (fun i => (i.zero, i.size, i.bytes)) = some (some (.agg #[.int .u32 0, .int .u32 0]), 2, 8) := by kernel_rfl

set_option maxRecDepth 100000 in
set_option maxHeartbeats 3200000 in
theorem cloneP_any (r : Ro Ce) (S : Nat → Prop) (w : World) (hR : RoAt KP w S r) (hS : ∀ b, S b → b < w.heap.size) (hl : r.l.length ≤ 1000) : Calls Try.prog 50 #[r.v] w (RetRo KP S r.l w) := by
  obtain ⟨i0, hi, hz0, hz1, hz2⟩ := info_parts Try.info118
  obtain ⟨l, A, c⟩ := r
  unfold Ro.v
  simp only at hl ⊢
  have HR := Lib.hid hR; clear hR
  have hone := Lib.hid (KP.ones l)
  go_enter Try.func50, Try.ntmps50
  have hcmp := fun w A n => Lib.run_eql_slice_nil (P := Try.prog) w 58 118 A n c 0 0 Try.underlying58
  rcases A with _ | ad
  · have h0 : l = [] := List.eq_nil_of_length_eq_zero (by
      rcases Nat.eq_zero_or_pos l.length with h | h
      · exact h
      · obtain ⟨_, _, h, _⟩ := HR.out.rq.2 h; cases h)
    subst h0
    have hc0 := hcmp w none 0
    simp only [Option.isNone_none] at hc0
    clear hcmp
    go_wp2
    go_ret
    exact ⟨none, 0, rfl, RoAt.nil, Below.refl _ _⟩
  · have hrd : Rd (w.alloc (.cells #[] 118)) w.heap.size 5 (some ad) l.length (l.flatMap KP.f) := (HR.out.rq.rd hS).alloc (Nat.le_refl _) _
    have hrd2 := hrd.more (B' := w.heap.size + 1) (by omega)
    have hown := lit_own (w := w) (e := 118) (size := 5)
    have hel := Lib.hid HR.out.el
    have hc0 := hcmp w (some ad) l.length
    clear hrd hcmp
    go_wp2_with (at_builtin; refine wpList_append_rd rfl _ _ 58 rfl w.heap.size 118 i0 (.agg #[.int .u8 0, .int .u8 0, .int .i64 0, .complex .f64 0 0, .string .empty]) 5 56 Try.underlying58 hi hz0 hz1 hz2 rfl (by decide) _ _ _ rfl hown _ (some ad) l.length c (l.flatMap KP.f) rfl hrd2 hone.out (by simp only [maxLen]; omega) (by omega) (by simp) ?_)
    intro v8 w8 hown8 hg8
    have hb8 := own_base hown ((Below.refl _ w).alloc (Nat.le_refl _) _) hg8 (by simp)
    clear hg8 hown hrd2
    go_wp2
    go_ret
    exact RetRo.own ⟨hown8, fun a ha => KP.up (hel.out a ha) (Same.below hb8 hS) (fun _ h => .inl h)⟩ hb8

set_option maxRecDepth 100000 in
set_option maxHeartbeats 3200000 in
theorem cloneF_any (r : Ro Rf) (S : Nat → Prop) (w : World) (hR : RoAt KF w S r) (hS : ∀ b, S b → b < w.heap.size) (hl : r.l.length ≤ 1000) : Calls Try.prog 51 #[r.v] w (RetRo KF S r.l w) := by
  obtain ⟨i0, hi, hz0, hz1, hz2⟩ := info_parts Try.info56
  obtain ⟨l, A, c⟩ := r
  unfold Ro.v
  simp only at hl ⊢
  have HR := Lib.hid hR; clear hR
  have hone := Lib.hid (KF.ones l)
  go_enter Try.func51, Try.ntmps51
  have hcmp := fun w A n => Lib.run_eql_slice_nil (P := Try.prog) w 59 56 A n c 0 0 Try.underlying59
  rcases A with _ | ad
  · have h0 : l = [] := List.eq_nil_of_length_eq_zero (by
      rcases Nat.eq_zero_or_pos l.length with h | h
      · exact h
      · obtain ⟨_, _, h, _⟩ := HR.out.rq.2 h; cases h)
    subst h0
    have hc0 := hcmp w none 0
    simp only [Option.isNone_none] at hc0
    clear hcmp
    go_wp2
    go_ret
    exact ⟨none, 0, rfl, RoAt.nil, Below.refl _ _⟩
  · have hrd : Rd (w.alloc (.cells #[] 56)) w.heap.size 2 (some ad) l.length (l.flatMap KF.f) := (HR.out.rq.rd hS).alloc (Nat.le_refl _) _
    have hrd2 := hrd.more (B' := w.heap.size + 1) (by omega)
    have hown := lit_own (w := w) (e := 56) (size := 2)
    have hel := Lib.hid HR.out.el
    have hc0 := hcmp w (some ad) l.length
    clear hrd hcmp
    go_wp2_with (at_builtin; refine wpList_append_rd rfl _ _ 59 rfl w.heap.size 56 i0 (.agg #[.int .u32 0, .int .u32 0]) 2 8 Try.underlying59 hi hz0 hz1 hz2 rfl (by decide) _ _ _ rfl hown _ (some ad) l.length c (l.flatMap KF.f) rfl hrd2 hone.out (by simp only [maxLen]; omega) (by omega) (by simp) ?_)
    intro v8 w8 hown8 hg8
    have hb8 := own_base hown ((Below.refl _ w).alloc (Nat.le_refl _) _) hg8 (by simp)
    clear hg8 hown hrd2
    go_wp2
    go_ret
    exact RetRo.own ⟨hown8, fun a ha => KF.up (hel.out a ha) (Same.below hb8 hS) (fun _ h => .inl h)⟩ hb8
end Go.Proofs.Ytaaijgalminafaa
