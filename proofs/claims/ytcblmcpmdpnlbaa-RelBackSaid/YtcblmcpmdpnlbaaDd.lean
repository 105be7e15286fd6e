/-
  Layer 8: Decode: what lies there while it reads.
-/
import Derived.Test.YtcblmcpmdpnlbaaDc
import Derived.Test.YtcblmcpmdpnlbaaRw
namespace Go.Proofs.Ytcblmcpmdpnlbaa
open Go.RowKit

/-- The bytes' reader (g), its box (g4), the relation so far (g6); the result's box is the first block. -/
structure De (t e : TypeId) (W : World) (g g4 g6 : Nat) (r : Rl) (col : Value) (rd : Rdr) (w : World) : Prop where
  b : Below W.heap.size W w
  res : w.heap[W.heap.size]? = some (.cells #[.int .u32 0, .int .u32 0, .string ⟨#[]⟩, .int .u8 0, .slice none 0 0] t (0, 0))
  box : w.heap[g4]? = some (.cells #[.pointer (some ⟨g, 0, none⟩)] 34 (0, 0))
  rel : w.heap[g6]? = some (.cells (r.cells col) t (0, 0))
  own : w.ownsRow (g6 + 1) e 3 col r.cs.length (cols r.cs)
  pr : PR w g rd
  l1 : W.heap.size < g
  l2 : g < g4
  l3 : g4 < g6
section
variable {t e : TypeId} {W w w' : World} {g g4 g6 : Nat} {r : Rl} {col : Value} {rd rd' : Rdr}
theorem PR.up (h : PR w g rd) (hb : Below w.heap.size w w') : PR w' g rd := by
  obtain ⟨A, c, h1, h2, hh, hR⟩ := h
  have hl := row_lt hh
  exact ⟨A, c, h1, h2, (hb.block g hl).trans hh, hR.up hb (Nat.le_of_lt hl) (Nat.le_refl _)⟩
theorem De.up (h : De t e W g g4 g6 r col rd w) (hb : Below w.heap.size w w') : De t e W g g4 g6 r col rd w' := by
  have kp : ∀ g o, w.heap[g]? = some o → w'.heap[g]? = some o := fun g o hg => (hb.block g (Array.getElem?_eq_some_iff.1 hg).1).trans hg
  exact ⟨h.b.trans (hb.mono h.b.size), kp _ _ h.res, kp _ _ h.box, kp _ _ h.rel, h.own.kept (row := none) ⟨hb.os, hb.tape, hb.output, hb.size, fun k hk _ => hb.block k hk⟩ (by cases col.ownBlock <;> simp), h.pr.up hb, h.l1, h.l2, h.l3⟩
/-- The reader has read on. -/
theorem De.read (h : De t e W g g4 g6 r col rd w) (hp : PR w' g rd') (hg : w.grownBy w' (some g)) : De t e W g g4 g6 r col rd' w' := by
  have hl := h.l1; have hl2 := h.l2; have hl3 := h.l3
  have kp : ∀ k o, k ≠ g → w.heap[k]? = some o → w'.heap[k]? = some o := fun k o hne hk => (hg.block k (Array.getElem?_eq_some_iff.1 hk).1 (fun e => by injection e with e; exact hne e)).trans hk
  refine ⟨h.b.grown hg h.b.size (fun k hk => by injection hk with hk; omega), kp _ _ (by omega) h.res, kp _ _ (by omega) h.box, kp _ _ (by omega) h.rel, own_block h.own (fun k hk => ?_), hp, h.l1, h.l2, h.l3⟩
  have := h.own.lt k hk
  exact hg.block k this.2 (fun e => by injection e with e; omega)
/-- Something above is turned. -/
theorem De.off {B : Nat} (h : De t e W g g4 g6 r col rd w) (hb : Below B w w') (hB : g6 < B) (ho : ∀ k, col.ownBlock = some k → k < B) : De t e W g g4 g6 r col rd w' := by
  have hl := h.l1; have hl2 := h.l2; have hl3 := h.l3
  obtain ⟨A, c, p1, p2, hh, hR⟩ := h.pr
  have hbW : W.heap.size ≤ B := by omega
  refine ⟨h.b.trans (hb.mono hbW), (hb.block _ (by omega)).trans h.res, (hb.block _ (by omega)).trans h.box, (hb.block _ hB).trans h.rel, own_block h.own (fun k hk => hb.block k (ho k hk)), ⟨A, c, p1, p2, (hb.block g (by omega)).trans hh, hR.up hb (by omega) (Nat.le_refl _)⟩, h.l1, h.l2, h.l3⟩
/-- A field of the relation is set. -/
theorem De.put (h : De t e W g g4 g6 r col rd w) (i : Nat) (u : Value) (r' : Rl) (col' : Value) (hr : (r.cells col).setIfInBounds i u = r'.cells col') (hown : w.ownsRow (g6 + 1) e 3 col' r'.cs.length (cols r'.cs)) : De t e W g g4 g6 r' col' rd (w.setCell ⟨g6, i, none⟩ u) := by
  have hl := h.l1; have hl2 := h.l2; have hl3 := h.l3
  have hB : Below g6 w (w.setCell ⟨g6, i, none⟩ u) := (Below.refl _ w).setCell (p := ⟨g6, i, none⟩) (Nat.le_refl _) _
  obtain ⟨A, c, p1, p2, hh, hR⟩ := h.pr
  refine ⟨h.b.setCell (p := ⟨g6, i, none⟩) (by simp; omega) _, ?_, ?_, ?_, ownsRow_setCell_below hown (by simp) u, ⟨A, c, p1, p2, (hB.block g (by omega)).trans hh, hR.up hB (by omega) (Nat.le_refl _)⟩, h.l1, h.l2, h.l3⟩
  · exact (hB.block _ (by omega)).trans h.res
  · exact (hB.block _ (by omega)).trans h.box
  · rw [← hr]; exact row_set h.rel i u
/-- A column more. -/
theorem De.append {w8 : World} {r' : Rl} {v8 : Value} (h : De t e W g g4 g6 r col rd w) (hg : w.grownBy w8 col.ownBlock) (hown : w8.ownsRow (g6 + 1) e 3 v8 r'.cs.length (cols r'.cs)) (hr : (r.cells col).setIfInBounds 4 v8 = r'.cells v8) :
    De t e W g g4 g6 r' v8 rd (w8.setCell ⟨g6, 4, none⟩ v8) := by
  have hl := h.l1; have hl2 := h.l2; have hl3 := h.l3
  have hge : ∀ k, col.ownBlock = some k → g6 + 1 ≤ k := fun k hk => (h.own.lt k hk).1
  have h6 := row_lt h.rel
  have hb : Below (g6 + 1) w w8 := ⟨hg.os, hg.tape, hg.output, hg.size, fun k hk => hg.block k (by omega) (fun e => by have := hge k e.symm; omega)⟩
  obtain ⟨A, c, p1, p2, hh, hR⟩ := h.pr
  have hB : Below g6 w8 (w8.setCell ⟨g6, 4, none⟩ v8) := (Below.refl _ w8).setCell (p := ⟨g6, 4, none⟩) (Nat.le_refl _) _
  have hb2 : Below g6 w (w8.setCell ⟨g6, 4, none⟩ v8) := (hb.mono (by omega)).trans hB
  refine ⟨h.b.trans (hb2.mono (by omega)), (hb2.block _ (by omega)).trans h.res, (hb2.block _ (by omega)).trans h.box, ?_, ownsRow_setCell_below hown (by simp) v8, ⟨A, c, p1, p2, (hb2.block g (by omega)).trans hh, hR.up hb2 (by omega) (Nat.le_refl _)⟩, h.l1, h.l2, h.l3⟩
  rw [← hr]; exact row_set ((hb.block _ (by omega)).trans h.rel) 4 v8
end

set_option maxRecDepth 100000 in
/-- The closure: a word of 32 bits. -/
theorem dword_any (g g4 : Nat) (rd : Rdr) (w : World) (hb : w.heap[g4]? = some (.cells #[.pointer (some ⟨g, 0, none⟩)] 34 (0, 0))) (h : PR w g rd) :
    Calls Try.prog 66 #[.pointer (some ⟨g4, 0, none⟩)] w (RetM (.int .u32 ((rd.uint 4294967295).1 : Int)) g (rd.uint 4294967295).2 w) := by
  have q := cell_of_row _ _ 0 _ 34 (0, 0) hb
  have q0 : w.cell? ⟨g4, 0, none⟩ = some (.pointer (some ⟨g, 0, none⟩)) := q
  clear q hb
  have hu := rd.uint_le 4294967295
  generalize hU : rd.uint 4294967295 = U at hu ⊢
  obtain ⟨n, r1⟩ := U
  simp only at hu ⊢
  have HU := Lib.hid hU; clear hU
  have hw : IntKind.u32.wrap (n : Int) = (n : Int) := by unfold IntKind.wrap; simp [IntKind.bits, IntKind.signed]; omega
  go_enter Try.func66, Try.ntmps66
  go_wp2_with fail
  refine (uint_any g rd 4294967295 _ h).mono ?_
  rintro e w1 ⟨rfl, hp, hg⟩
  rw [HU.out] at hp
  rw [HU.out]
  simp only at hp
  go_wp2
  go_ret
  exact ⟨rfl, hp, hg⟩
end Go.Proofs.Ytcblmcpmdpnlbaa
