/-
  Layer 24: slices.Grow of nothing (f42), slices.Concat of two (f26).
-/
import Derived.Test.YtaaijgalminafaaFi2
import Derived.Lib.AppendZerosOnto
namespace Go.Proofs.Ytaaijgalminafaa
open Go.RowKit Mono

theorem row_of_own {w : World} {g cap base : Nat} {cs : Array Value} {e : TypeId} (hg : w.heap[g]? = some (.cells cs e (0, 0))) (hb : base ≤ g) (hc : cap ≤ maxLen) (hs : cs.size = cap) : w.ownsRow base e 1 (.slice (some ⟨g, 0, none⟩) 0 cap) 0 [] :=
  ⟨by simp, .inr ⟨g, cap, cs, rfl, hb, hg, Nat.zero_le _, hc, by omega, by simp⟩⟩
set_option maxRecDepth 100000 in
set_option maxHeartbeats 3200000 in
theorem grow_any (n : Nat) (w : World) (hn : n ≤ 1000000) : Calls Try.prog 42 #[.slice none 0 0, .int .i64 (n : Int)] w (RetO 25 1 0 [] w) := by
  obtain ⟨i0, hi, hz0, hz1, hz2⟩ := info_parts Try.info25
  have h1 : ¬ ((n : Int) < 0) := by omega
  rcases Nat.eq_zero_or_pos n with h0 | h0
  · subst h0
    go_enter Try.func42, Try.ntmps42
    go_wp2
    go_ret
    exact RetO.mk' (World.ownsRow_nil _ _ _ _) (Below.refl _ _)
  · have h4 : (0 : Int) < (n : Int) := by omega
    have hw : wrap64 (n : Int) = (n : Int) := IntWalk.wrap64_in _ (by omega)
    have hrz : ∀ ty, (Builtin.append_ #[22, 3] ty #[.slice none 0 0, .int .i64 (n : Int)]).run Try.prog w = _ := fun ty =>
      Lib.run_append_grow_zeros (P := Try.prog) w 22 3 ty 25 i0 (.int .u32 0) .i64 .i64 Try.underlying22 Try.underlying3 hi hz0 none 0 0 [] (run_firstCells_none w.drew i0.size 0 0 0) n h0 (by omega) (by omega) (by omega) (by rw [hz2]; omega)
        (by rw [Nat.zero_add]; exact growslice_fits (by omega) (by rw [hz2]; omega))
    have hsz : ∀ (G : Nat), n ≤ G → ((([] : List Value).toArray ++ Builtin.zeroCells (Value.int .u32 0).cells n ++ Builtin.zeroCells (Value.int .u32 0).cells (G - n)) : Array Value).size = G := fun G hG => by
      simp [Builtin.zeroCells, Value.cells]; omega
    rw [Nat.zero_add] at hrz
    have hG1 := grownCap_ge w n 0 25
    have hG2 := grownCap_le_maxLen w n 0 25 (by unfold maxLen; omega)
    generalize grownCap w n 0 25 = G at *
    have hs := hsz G hG1
    clear hsz
    generalize (([] : List Value).toArray ++ Builtin.zeroCells (Value.int .u32 0).cells n ++ Builtin.zeroCells (Value.int .u32 0).cells (G - n)) = cs at *
    have HG1 := Lib.hid hG1; have HG2 := Lib.hid hG2; have HS := Lib.hid hs
    clear hG2 hs
    go_enter Try.func42, Try.ntmps42
    go_wp2_with (at_builtin; refine Lib.wpList_append_run _ rfl _ _ _ _ rfl _ _ rfl rfl _ _ (hrz _) ?_)
    all_goals go_ret
    all_goals exact RetO.mk' (row_of_own (heap_alloc_new _ _) (Nat.le_refl _) HG2.out HS.out) ((Below.refl _ w).drew.alloc (Nat.le_refl _) _)

set_option maxRecDepth 100000 in
set_option maxHeartbeats 3200000 in
theorem concat_any (A1 A2 : Option Addr) (c1 c2 : Nat) (xs ys : List Int) (b : Nat) (w : World) (hb : w.heap[b]? = some (.cells #[.slice A1 xs.length c1, .slice A2 ys.length c2] 22 (0, 0)))
    (hR1 : Rd w w.heap.size 1 A1 xs.length (u32s xs)) (hR2 : Rd w w.heap.size 1 A2 ys.length (u32s ys)) (hn1 : xs.length ≤ 1000) (hn2 : ys.length ≤ 1000) :
    Calls Try.prog 26 #[.slice (some ⟨b, 0, none⟩) 2 2] w (RetO 25 1 (xs.length + ys.length) (u32s (xs ++ ys)) w) := by
  obtain ⟨i0, hi, hz0, hz1, hz2⟩ := info_parts Try.info25
  have HR1 := Lib.hid hR1; have HR2 := Lib.hid hR2; have HBK := Lib.hid hb
  have e0 : w.cell? ⟨b, 0, none⟩ = some (.slice A1 xs.length c1) := cell_of_row _ _ 0 _ 22 (0, 0) hb
  have e1 : w.cell? ⟨b, 1, none⟩ = some (.slice A2 ys.length c2) := cell_of_row _ _ 1 _ 22 (0, 0) hb
  have hbl := row_lt hb
  have hxy := u32s_app xs ys
  have HXY := Lib.hid hxy; clear hxy
  generalize hm1 : u32s xs = us at *
  generalize hm2 : u32s ys = vs at *
  have hu1 : Hid (∀ u ∈ us, u.oneCell' = true) := by rw [← hm1]; exact u32s_one _
  have hu2 : Hid (∀ u ∈ vs, u.oneCell' = true) := by rw [← hm2]; exact u32s_one _
  rw [show RetO 25 1 (xs.length + ys.length) (u32s (xs ++ ys)) w = RetO 25 1 (xs.length + ys.length) (us ++ vs) w by rw [HXY.out]]
  clear hm1 hm2 HXY
  generalize xs.length = n1 at *
  generalize ys.length = n2 at *
  have hE0 := Lib.hid e0; have hE1 := Lib.hid e1
  clear hR1 hR2 hb
  go_enter Try.func26, Try.ntmps26
  go_wp2
  go_loopw [3, 11] (fun v i wr => ∃ j : Nat, j ≤ 2 ∧ i = .int .i64 (j : Int) ∧ (∃ s : Nat, v = .int .i64 (s : Int) ∧ Hid ((j = 0 → s = 0) ∧ (j = 1 → s = n1) ∧ (j = 2 → s = n1 + n2))) ∧ wr = w) (fun _ i _ => 2 - (intOf i).toNat)
  case atStart => exact ⟨0, by omega, rfl, ⟨0, rfl, ⟨fun _ => rfl, by omega, by omega⟩⟩, rfl⟩
  case round =>
    obtain ⟨j, hj, rfl, ⟨s, rfl, hs⟩, rfl⟩ := hrel
    rcases (show j = 0 ∨ j = 1 ∨ j = 2 by omega) with rfl | rfl | rfl
    · obtain rfl := hs.out.1 rfl
      clear hs
      go_wp2
      go_roundw
      case rel => exact ⟨1, by omega, rfl, ⟨n1, rfl, ⟨by omega, fun _ => rfl, by omega⟩⟩, trivial⟩
      case measure => simp [intOf]
    · obtain rfl := hs.out.2.1 rfl
      clear hs
      go_wp2
      go_roundw
      case rel => exact ⟨2, by omega, rfl, ⟨s + n2, by go_num, ⟨by omega, by omega, fun _ => rfl⟩⟩, trivial⟩
      case measure => simp [intOf]
    · obtain rfl := hs.out.2.2 rfl
      clear hs
      obtain ⟨w0, rfl⟩ : ∃ w0, w0 = wr := ⟨_, rfl⟩
      go_wp2_with fail
      refine (grow_any (n1 + n2) w0 (by omega)).mono ?_
      rintro e w1 ⟨v1, rfl, hown0, hb1⟩
      have HB1 := Lib.hid hb1
      clear hb1 e0 e1
      go_wp2
      go_loopw [6, 27] (fun v i wq => ∃ j : Nat, j ≤ 2 ∧ i = .int .i64 (j : Int) ∧ Below w0.heap.size w0 wq ∧ Hid ((j = 0 → wq.ownsRow w0.heap.size 25 1 v 0 []) ∧ (j = 1 → wq.ownsRow w0.heap.size 25 1 v n1 us) ∧ (j = 2 → wq.ownsRow w0.heap.size 25 1 v (n1 + n2) (us ++ vs)))) (fun _ i _ => 2 - (intOf i).toNat)
      case atStart => exact ⟨0, by omega, rfl, HB1.out, ⟨fun _ => hown0, by omega, by omega⟩⟩
      case round =>
        obtain ⟨j, hj, rfl, hbq, hs⟩ := hrel
        clear hown0
        rcases (show j = 0 ∨ j = 1 ∨ j = 2 by omega) with rfl | rfl | rfl
        · have hown := hs.out.1 rfl
          clear hs
          have e0 := (hbq.cell (p := ⟨b, 0, none⟩) hbl).trans hE0.out
          have hRq := HR1.out.below hbq (Nat.le_refl _)
          have hzq := hbq.size
          go_wp2_with (at_builtin; refine wpList_append_rd rfl _ _ 22 rfl w0.heap.size 25 i0 (.int .u32 0) 1 4 Try.underlying22 hi hz0 hz1 hz2 rfl (by decide) _ _ _ rfl hown _ A1 n1 c1 us rfl hRq hu1.out (by simp only [maxLen]; omega) (by omega) hzq ?_)
          intro v8 w8 hown8 hg8
          have hb8 := own_base hown hbq hg8 hzq
          clear hg8 e0 hRq hown
          go_wp2
          go_roundw
          case rel => exact ⟨1, by omega, rfl, hb8, ⟨by omega, fun _ => hown8, by omega⟩⟩
          case measure => simp [intOf]
        · have hown := hs.out.2.1 rfl
          clear hs
          have e1 := (hbq.cell (p := ⟨b, 1, none⟩) hbl).trans hE1.out
          have hRq := HR2.out.below hbq (Nat.le_refl _)
          have hzq := hbq.size
          go_wp2_with (at_builtin; refine wpList_append_rd rfl _ _ 22 rfl w0.heap.size 25 i0 (.int .u32 0) 1 4 Try.underlying22 hi hz0 hz1 hz2 rfl (by decide) _ _ _ rfl hown _ A2 n2 c2 vs rfl hRq hu2.out (by simp only [maxLen]; omega) (by omega) hzq ?_)
          intro v8 w8 hown8 hg8
          have hb8 := own_base hown hbq hg8 hzq
          clear hg8 e1 hRq hown
          go_wp2
          go_roundw
          case rel => exact ⟨2, by omega, rfl, hb8, ⟨by omega, by omega, fun _ => hown8⟩⟩
          case measure => simp [intOf]
        · have hown := hs.out.2.2 rfl
          clear hs
          go_wp2
          go_ret
          exact RetO.mk' hown hbq
end Go.Proofs.Ytaaijgalminafaa
