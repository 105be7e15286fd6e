import Derived.Test.YtaaijgalminafaaEv6
/-
  Layer 24: the chapter's example (f10).
-/
namespace Go.Proofs.Ytaaijgalminafaa
open Go.RowKit

theorem RetEvB.opens {K : Kd Ce} {S : Nat → Prop} {f : Fl} {e : Ev} {kd oid ver old fl : Int} {l1 l2 : List Ce} {l3 : List Rf} {b : Bool} {w w' : World} {en : Ending} (h : RetEvB K f S e w en w') (he : evR f e = (⟨kd, ⟨oid, ver⟩, old, l1, l2, l3, fl⟩, b)) :
    ∃ A1 c1 A2 c2 A3 c3, en = .returned (.tuple #[.agg #[.int .u8 kd, .int .u32 oid, .int .u32 ver, .int .u8 old, .slice A1 l1.length c1, .slice A2 l2.length c2, .slice A3 l3.length c3, .int .u8 fl], .bool b]) ∧
      ErAt K w' (Since S w.heap.size w') ⟨kd, ⟨oid, ver⟩, old, ⟨l1, A1, c1⟩, ⟨l2, A2, c2⟩, ⟨l3, A3, c3⟩, fl⟩ ∧ Below w.heap.size w w' := by
  obtain ⟨⟨kd', ⟨oid', ver'⟩, old', ⟨l1', A1, c1⟩, ⟨l2', A2, c2⟩, ⟨l3', A3, c3⟩, fl'⟩, rfl, h1, h3, h4⟩ := h
  rw [he] at h1 ⊢
  simp only [Er.ev, Ev.mk.injEq, Rf.mk.injEq] at h1
  obtain ⟨rfl, ⟨rfl, rfl⟩, rfl, rfl, rfl, rfl, rfl⟩ := h1
  exact ⟨A1, c1, A2, c2, A3, c3, rfl, h3, h4⟩
set_option maxRecDepth 100000 in
set_option maxHeartbeats 6400000 in
theorem awake_any (w : World) : Calls Try.prog 10 #[] w (RetB true w) := by
  go_enter Try.func10, Try.ntmps10
  go_wp2_with fail
  generalize hW : World.alloc (World.alloc (World.alloc w _) _) _ = W
  obtain ⟨hb0, p0, p1, p2, hsz⟩ := alloc3 hW
  have HB := Lib.hid hb0
  have hF : FlAt W W.heap.size ⟨false, [2], 15, false⟩ (some ⟨w.heap.size, 0, none⟩) 1 := ⟨⟨rfl, fun _ => ⟨_, _, rfl, by omega, fun j u hu => by
    rw [Nat.zero_add, cell_of_row _ _ j _ 25 (0, 0) p0]
    simpa [u32s] using hu⟩⟩, Nat.le_refl _, by decide⟩
  have hX : ErAt KP W (Lt W.heap.size) ⟨7, ⟨0, 0⟩, 0, ⟨[], none, 0⟩, ⟨[], none, 0⟩, ⟨[⟨1, 1⟩, ⟨2, 1⟩], some ⟨w.heap.size + 1 + 1, 0, none⟩, 2⟩, 0⟩ := ⟨RoAt.nil, RoAt.nil, ⟨⟨rfl, fun _ => ⟨_, _, rfl, by unfold Lt; omega, fun j u hu => by
    rw [Nat.zero_add, cell_of_row _ _ j _ 56 (0, 0) p2]
    simpa [KF, Rf.c] using hu⟩⟩, Nat.le_refl _, (by decide : (2 : Nat) ≤ maxLen), fun _ _ => trivial⟩⟩
  refine (event_any ⟨false, [2], 15, false⟩ (some ⟨w.heap.size, 0, none⟩) 1 ⟨7, ⟨0, 0⟩, 0, ⟨[], none, 0⟩, ⟨[], none, 0⟩, ⟨[⟨1, 1⟩, ⟨2, 1⟩], some ⟨w.heap.size + 1 + 1, 0, none⟩, 2⟩, 0⟩ (Lt W.heap.size) W hF (by decide) (by decide) (by decide) hX (fun _ h => h) ⟨(by decide : (0 : Nat) ≤ 1000), (by decide : (0 : Nat) ≤ 1000), (by decide : (2 : Nat) ≤ 1000)⟩ (by decide : (0 : Int) ≤ 7) (by decide : (7 : Int) < 256)).mono ?_
  rintro e w2 h2
  have he : evR ⟨false, [2], 15, false⟩ (Er.ev ⟨7, ⟨0, 0⟩, 0, ⟨[], none, 0⟩, ⟨[], none, 0⟩, ⟨[⟨1, 1⟩, ⟨2, 1⟩], some ⟨w.heap.size + 1 + 1, 0, none⟩, 2⟩, 0⟩) = (⟨7, ⟨0, 0⟩, 0, [], [], [⟨2, 1⟩], 0⟩, true) := by
    simp [evR, Er.ev, Fl.kind, Fl.oid]
  obtain ⟨A1, c1, A2, c2, A3, c3, rfl, hy, hb2⟩ := h2.opens he
  obtain ⟨b, off, e3, hb3, hcell⟩ := hy.refs.get (j := 0) (by decide : 0 < 1)
  simp only at e3
  subst e3
  have c0 : w2.cell? ⟨b, off, none⟩ = some (.int .u32 2) := hcell 0 (by decide : 0 < 1) 0 _ rfl
  have hb9 := HB.out.trans (hb2.mono HB.out.size)
  have HB9 := Lib.hid (hb9.alloc hb9.size (.cells #[.int .u8 7, .int .u32 0, .int .u32 0, .int .u8 0, .slice A1 0 c1, .slice A2 0 c2, .slice (some ⟨b, off, none⟩) 1 c3, .int .u8 0] 61))
  have c1' : (w2.alloc (.cells #[.int .u8 7, .int .u32 0, .int .u32 0, .int .u8 0, .slice A1 0 c1, .slice A2 0 c2, .slice (some ⟨b, off, none⟩) 1 c3, .int .u8 0] 61)).cell? ⟨b, off, none⟩ = some (.int .u32 2) := by
    rw [World.cell?_alloc_lt _ _ _ (World.block_lt_of_cell? w2 _ c0)]; exact c0
  have i0 : (0 : Int) < 1 := by decide
  clear hy hcell h2 he hF hX p0 p1 p2 hb0 hb2 hb9 hW
  go_wp2
  go_ret
  exact ⟨rfl, HB9.out⟩
end Go.Proofs.Ytaaijgalminafaa
