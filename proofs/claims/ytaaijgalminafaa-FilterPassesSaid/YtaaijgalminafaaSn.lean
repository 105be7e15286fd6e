import Derived.Laws.StructEq
import Derived.Test.YtaaijgalminafaaPa1
/-
  Layer 24: what is the same is told the same: rows (f40), events (f23), transactions (f19, f15) (printed by gen_sm.py).
-/
namespace Go.Proofs.Ytaaijgalminafaa
open Go.RowKit
attribute [local go_sem] Mono.pureAt Mono.pureUpon
attribute [local irreducible] Mono.steps Mono.wpM

set_option maxRecDepth 100000 in
set_option maxHeartbeats 6400000 in
theorem rowSame_any (l : List Ce) (A A' : Option Addr) (c c' : Nat) (S S' : Nat → Prop) (w : World) (hR : RoAt KR w S ⟨l, A, c⟩) (hR' : RoAt KR w S' ⟨l, A', c'⟩) (hS : ∀ b, S b → b < w.heap.size) (hS' : ∀ b, S' b → b < w.heap.size) (hl : l.length ≤ 1000) :
    Calls Try.prog 40 #[.slice A l.length c, .slice A' l.length c'] w (RetB true w) := by
  have HR := Lib.hid hR; have HR' := Lib.hid hR'
  have q1 : Try.prog.stoodInHeld 106 = false := by kernel_rfl
  have q2 : Try.prog.eqGuardType Try.prog.depth 106 = false := by kernel_rfl
  have q3 : Try.prog.stoodInHeld 104 = false := by kernel_rfl
  have q4 : Try.prog.eqGuardType Try.prog.depth 104 = false := by kernel_rfl
  clear hR hR'
  go_enter Try.func40, Try.ntmps40
  go_wp2
  go_loopw [5] (fun s5 wr => ∃ j : Nat, j ≤ l.length ∧ s5 = .int .i64 (j : Int) ∧ Below w.heap.size w wr) (fun s5 _ => l.length - (intOf s5).toNat)
  case atStart => exact ⟨0, by omega, rfl, Below.refl _ _⟩
  case round =>
    obtain ⟨j, hj, rfl, hb⟩ := hrel
    by_cases hlt : j < l.length
    · have hd : (j : Int) < (l.length : Int) := by omega
      have hsz := hb.size
      obtain ⟨b, off, e0, hSb, hcell⟩ := (HR.out.up (Same.below hb hS) (fun _ h => h) : RoAt KR wr S ⟨l, A, c⟩).get hlt
      obtain ⟨b', off', e0', hSb', hcell'⟩ := (HR'.out.up (Same.below hb hS') (fun _ h => h) : RoAt KR wr S' ⟨l, A', c'⟩).get hlt
      simp only at e0 e0'
      subst e0 e0'
      have hcj := hcell j hlt; have hcj' := hcell' j hlt
      have hbl : b < wr.heap.size := Nat.lt_of_lt_of_le (hS b hSb) hsz
      have hbl' : b' < wr.heap.size := Nat.lt_of_lt_of_le (hS' b' hSb') hsz
      have HB := Lib.hid hb
      clear hcell hcell' hb
      generalize l[j] = x at *
      obtain ⟨kd, ty, num, re, im, text⟩ := x
      have k0 : wr.cell? ⟨b, off + j * 6, none⟩ = some (.int .u8 kd) := hcj 0 _ rfl
      have k1 : wr.cell? ⟨b, off + j * 6 + 1, none⟩ = some (.int .u8 ty) := hcj 1 _ rfl
      have k2 : wr.cell? ⟨b, off + j * 6 + 2, none⟩ = some (.int .i64 num) := hcj 2 _ rfl
      have k3 : wr.cell? ⟨b, off + j * 6 + 3, none⟩ = some (.int .u64 (re : Int)) := hcj 3 _ rfl
      have k4 : wr.cell? ⟨b, off + j * 6 + 4, none⟩ = some (.int .u64 (im : Int)) := hcj 4 _ rfl
      have k5 : wr.cell? ⟨b, off + j * 6 + 5, none⟩ = some (.string text) := hcj 5 _ rfl
      have m0 : wr.cell? ⟨b', off' + j * 6, none⟩ = some (.int .u8 kd) := hcj' 0 _ rfl
      have m1 : wr.cell? ⟨b', off' + j * 6 + 1, none⟩ = some (.int .u8 ty) := hcj' 1 _ rfl
      have m2 : wr.cell? ⟨b', off' + j * 6 + 2, none⟩ = some (.int .i64 num) := hcj' 2 _ rfl
      have m3 : wr.cell? ⟨b', off' + j * 6 + 3, none⟩ = some (.int .u64 (re : Int)) := hcj' 3 _ rfl
      have m4 : wr.cell? ⟨b', off' + j * 6 + 4, none⟩ = some (.int .u64 (im : Int)) := hcj' 4 _ rfl
      have m5 : wr.cell? ⟨b', off' + j * 6 + 5, none⟩ = some (.string text) := hcj' 5 _ rfl
      clear hcj hcj'
      go_wp2_with fail
      refine wp_region_fx (fun _ => none) (by kernel_rfl) (by kernel_rfl) ?_
      repeat (first | (refine Mono.wpM_skip rfl ?_) | (refine Mono.wpM_all rfl rfl (fun K hK => ?_); go_simp; refine hK _ ?_; clear hK K))
      refine Mono.wpM_look (.agg #[.int .u8 kd, .int .u8 ty, .int .i64 num, .int .u64 (re : Int), .int .u64 (im : Int), .string text]) rfl rfl (fun w6 hc6 _ => ?_) ?_
      · have hcl0 : w6.cell? ⟨b, off + j * 6, none⟩ = some (.int .u8 kd) := (hc6.cell hbl).trans k0
        have hcl1 : w6.cell? ⟨b, off + j * 6 + 1, none⟩ = some (.int .u8 ty) := (hc6.cell hbl).trans k1
        have hcl2 : w6.cell? ⟨b, off + j * 6 + 2, none⟩ = some (.int .i64 num) := (hc6.cell hbl).trans k2
        have hcl3 : w6.cell? ⟨b, off + j * 6 + 3, none⟩ = some (.int .u64 (re : Int)) := (hc6.cell hbl).trans k3
        have hcl4 : w6.cell? ⟨b, off + j * 6 + 4, none⟩ = some (.int .u64 (im : Int)) := (hc6.cell hbl).trans k4
        have hcl5 : w6.cell? ⟨b, off + j * 6 + 5, none⟩ = some (.string text) := (hc6.cell hbl).trans k5
        go_simp
      repeat (first | (refine Mono.wpM_skip rfl ?_) | (refine Mono.wpM_all rfl rfl (fun K hK => ?_); go_simp; refine hK _ ?_; clear hK K))
      refine Mono.wpM_look (.agg #[.int .u8 kd, .int .u8 ty, .int .i64 num, .int .u64 (re : Int), .int .u64 (im : Int), .string text]) rfl rfl (fun w6 hc6 _ => ?_) ?_
      · have hcl0 : w6.cell? ⟨b', off' + j * 6, none⟩ = some (.int .u8 kd) := (hc6.cell hbl').trans m0
        have hcl1 : w6.cell? ⟨b', off' + j * 6 + 1, none⟩ = some (.int .u8 ty) := (hc6.cell hbl').trans m1
        have hcl2 : w6.cell? ⟨b', off' + j * 6 + 2, none⟩ = some (.int .i64 num) := (hc6.cell hbl').trans m2
        have hcl3 : w6.cell? ⟨b', off' + j * 6 + 3, none⟩ = some (.int .u64 (re : Int)) := (hc6.cell hbl').trans m3
        have hcl4 : w6.cell? ⟨b', off' + j * 6 + 4, none⟩ = some (.int .u64 (im : Int)) := (hc6.cell hbl').trans m4
        have hcl5 : w6.cell? ⟨b', off' + j * 6 + 5, none⟩ = some (.string text) := (hc6.cell hbl').trans m5
        go_simp
      repeat (first | (refine Mono.wpM_skip rfl ?_) | (refine Mono.wpM_all rfl rfl (fun K hK => ?_); go_simp; refine hK _ ?_; clear hK K))
      refine Mono.wpM_nil fun w3 hc3 _ => ?_
      have hb3 := HB.out.trans (hc3.mono hsz)
      clear k0 m0 k1 m1 k2 m2 k3 m3 k4 m4 k5 m5
      go_wp2
      go_roundw
      case rel => exact ⟨j + 1, by omega, by go_num, hb3⟩
      case measure => simp [intOf]; omega
    · go_wp2
      go_ret
      exact ⟨rfl, hb⟩
set_option maxRecDepth 100000 in
set_option maxHeartbeats 12800000 in
theorem evSame_any (x y : Er) (S S' : Nat → Prop) (w : World) (hx : ErAt KR w S x) (hy : ErAt KR w S' y) (hS : ∀ b, S b → b < w.heap.size) (hS' : ∀ b, S' b → b < w.heap.size) (hs : x.ev.Sm) (hxy : x.ev = y.ev) : Calls Try.prog 23 #[(KE KR).v x, (KE KR).v y] w (RetB true w) := by
  obtain ⟨kd, ⟨oid, ver⟩, old, ⟨l1, A1, c1⟩, ⟨l2, A2, c2⟩, ⟨l3, A3, c3⟩, fl⟩ := x
  obtain ⟨kd2, ⟨oid2, ver2⟩, old2, ⟨l4, B1, d1⟩, ⟨l5, B2, d2⟩, ⟨l6, B3, d3⟩, fl2⟩ := y
  simp only [Er.ev, Ev.mk.injEq, Rf.mk.injEq] at hxy
  obtain ⟨rfl, ⟨rfl, rfl⟩, rfl, rfl, rfl, rfl, rfl⟩ := hxy
  obtain ⟨hs1, hs2, hs3⟩ := hs
  simp only [Er.ev] at hs1 hs2 hs3
  have HX := Lib.hid hx; have HY := Lib.hid hy
  have q1 : Try.prog.stoodInHeld 64 = false := by kernel_rfl
  have q2 : Try.prog.eqGuardType Try.prog.depth 64 = false := by kernel_rfl
  clear hx hy
  show Calls Try.prog 23 #[.agg #[.int .u8 kd, .int .u32 oid, .int .u32 ver, .int .u8 old, .slice A1 l1.length c1, .slice A2 l2.length c2, .slice A3 l3.length c3, .int .u8 fl], .agg #[.int .u8 kd, .int .u32 oid, .int .u32 ver, .int .u8 old, .slice B1 l1.length d1, .slice B2 l2.length d2, .slice B3 l3.length d3, .int .u8 fl]] w _
  go_enter Try.func23, Try.ntmps23
  go_upto_region 1 with fail
  generalize hW : World.alloc (World.alloc w _) _ = W
  obtain ⟨hb0, p0, p1, hsz⟩ := alloc2 hW
  have HB := Lib.hid hb0; have P0 := Lib.hid p0; have P1 := Lib.hid p1
  have HXW := Lib.hid (HX.out.up (Same.below hb0 hS) (fun _ h => h) : ErAt KR W S _); have HYW := Lib.hid (HY.out.up (Same.below hb0 hS') (fun _ h => h) : ErAt KR W S' _)
  have hSW : ∀ b, S b → b < W.heap.size := fun b h => Nat.lt_of_lt_of_le (hS b h) hb0.size
  have hSW' : ∀ b, S' b → b < W.heap.size := fun b h => Nat.lt_of_lt_of_le (hS' b h) hb0.size
  have a0 : W.cell? ⟨w.heap.size, 0, none⟩ = some (.int .u8 kd) := cell_of_row _ _ 0 _ 68 (0, 0) p0
  have a1 : W.cell? ⟨w.heap.size, 1, none⟩ = some (.int .u32 oid) := cell_of_row _ _ 1 _ 68 (0, 0) p0
  have a2 : W.cell? ⟨w.heap.size, 2, none⟩ = some (.int .u32 ver) := cell_of_row _ _ 2 _ 68 (0, 0) p0
  have a3 : W.cell? ⟨w.heap.size, 3, none⟩ = some (.int .u8 old) := cell_of_row _ _ 3 _ 68 (0, 0) p0
  have a4 : W.cell? ⟨w.heap.size, 4, none⟩ = some (.slice A1 l1.length c1) := cell_of_row _ _ 4 _ 68 (0, 0) p0
  have a5 : W.cell? ⟨w.heap.size, 5, none⟩ = some (.slice A2 l2.length c2) := cell_of_row _ _ 5 _ 68 (0, 0) p0
  have a6 : W.cell? ⟨w.heap.size, 6, none⟩ = some (.slice A3 l3.length c3) := cell_of_row _ _ 6 _ 68 (0, 0) p0
  have a7 : W.cell? ⟨w.heap.size, 7, none⟩ = some (.int .u8 fl) := cell_of_row _ _ 7 _ 68 (0, 0) p0
  have fza : ∀ i, W.frozen? ⟨w.heap.size, i, none⟩ = false := fun i => row_free p0 i
  have b0 : W.cell? ⟨(w.heap.size + 1), 0, none⟩ = some (.int .u8 kd) := cell_of_row _ _ 0 _ 68 (0, 0) p1
  have b1 : W.cell? ⟨(w.heap.size + 1), 1, none⟩ = some (.int .u32 oid) := cell_of_row _ _ 1 _ 68 (0, 0) p1
  have b2 : W.cell? ⟨(w.heap.size + 1), 2, none⟩ = some (.int .u32 ver) := cell_of_row _ _ 2 _ 68 (0, 0) p1
  have b3 : W.cell? ⟨(w.heap.size + 1), 3, none⟩ = some (.int .u8 old) := cell_of_row _ _ 3 _ 68 (0, 0) p1
  have b4 : W.cell? ⟨(w.heap.size + 1), 4, none⟩ = some (.slice B1 l1.length d1) := cell_of_row _ _ 4 _ 68 (0, 0) p1
  have b5 : W.cell? ⟨(w.heap.size + 1), 5, none⟩ = some (.slice B2 l2.length d2) := cell_of_row _ _ 5 _ 68 (0, 0) p1
  have b6 : W.cell? ⟨(w.heap.size + 1), 6, none⟩ = some (.slice B3 l3.length d3) := cell_of_row _ _ 6 _ 68 (0, 0) p1
  have b7 : W.cell? ⟨(w.heap.size + 1), 7, none⟩ = some (.int .u8 fl) := cell_of_row _ _ 7 _ 68 (0, 0) p1
  have fzb : ∀ i, W.frozen? ⟨(w.heap.size + 1), i, none⟩ = false := fun i => row_free p1 i
  clear hW hb0 p0 p1 fza fzb
  go_wp2
  clear a0 b0 a1 b1 a2 b2 a3 b3 a4 b4 a5 b5 a6 b6 a7 b7
  go_loopw [5] (fun s5 wr => ∃ j : Nat, j ≤ l3.length ∧ s5 = .int .i64 (j : Int) ∧ Hid (Below W.heap.size W wr)) (fun s5 _ => l3.length - (intOf s5).toNat)
  case atStart => exact ⟨0, by omega, rfl, Below.refl _ _⟩
  case round =>
    obtain ⟨j, hj, rfl, hb⟩ := hrel
    have r0 := (hb.out.block _ (row_lt P0.out)).trans P0.out
    have r1 := (hb.out.block _ (row_lt P1.out)).trans P1.out
    have hszr := hb.out.size
    by_cases hlt : j < l3.length
    · have hd : (j : Int) < (l3.length : Int) := by omega
      obtain ⟨b, off, e0, hSb, hcell⟩ := (HXW.out.refs.up (Same.below hb.out hSW) (fun _ h => h) : RoAt KF wr S ⟨l3, A3, c3⟩).get hlt
      obtain ⟨b', off', e0', hSb', hcell'⟩ := (HYW.out.refs.up (Same.below hb.out hSW') (fun _ h => h) : RoAt KF wr S' ⟨l3, B3, d3⟩).get hlt
      simp only at e0 e0'
      subst e0 e0'
      have hcj := hcell j hlt; have hcj' := hcell' j hlt
      have hbl : b < wr.heap.size := Nat.lt_of_lt_of_le (hSW b hSb) hszr
      have hbl' : b' < wr.heap.size := Nat.lt_of_lt_of_le (hSW' b' hSb') hszr
      clear hcell hcell'
      generalize l3[j] = x at *
      obtain ⟨ro, rv⟩ := x
      have a6 : wr.cell? ⟨w.heap.size, 6, none⟩ = some (.slice (some ⟨b, off, none⟩) l3.length c3) := cell_of_row _ _ 6 _ 68 (0, 0) r0
      have R0 := Lib.hid r0; have R1 := Lib.hid r1
      clear r0 r1
      have k0 : wr.cell? ⟨b, off + j * 2, none⟩ = some (.int .u32 ro) := hcj 0 _ rfl
      have k1 : wr.cell? ⟨b, off + j * 2 + 1, none⟩ = some (.int .u32 rv) := hcj 1 _ rfl
      have m0 : wr.cell? ⟨b', off' + j * 2, none⟩ = some (.int .u32 ro) := hcj' 0 _ rfl
      have m1 : wr.cell? ⟨b', off' + j * 2 + 1, none⟩ = some (.int .u32 rv) := hcj' 1 _ rfl
      clear hcj hcj'
      go_wp2_with fail
      refine wp_region_fx (fun _ => none) (by kernel_rfl) (by kernel_rfl) ?_
      repeat (first | (refine Mono.wpM_skip rfl ?_) | (refine Mono.wpM_all rfl rfl (fun K hK => ?_); go_simp; refine hK _ ?_; clear hK K))
      refine Mono.wpM_look (.slice (some ⟨b, off, none⟩) l3.length c3) rfl rfl (fun w6 hc6 _ => ?_) ?_
      · have hcl0 : w6.cell? ⟨w.heap.size, 6, none⟩ = some (.slice (some ⟨b, off, none⟩) l3.length c3) := cell_of_row _ _ 6 _ 68 (0, 0) ((hc6.block _ (row_lt R0.out)).trans R0.out)
        go_simp
      repeat (first | (refine Mono.wpM_skip rfl ?_) | (refine Mono.wpM_all rfl rfl (fun K hK => ?_); go_simp; refine hK _ ?_; clear hK K))
      refine Mono.wpM_look (.agg #[.int .u32 ro, .int .u32 rv]) rfl rfl (fun w6 hc6 _ => ?_) ?_
      · have hcl0 : w6.cell? ⟨b, off + j * 2, none⟩ = some (.int .u32 ro) := (hc6.cell hbl).trans k0
        have hcl1 : w6.cell? ⟨b, off + j * 2 + 1, none⟩ = some (.int .u32 rv) := (hc6.cell hbl).trans k1
        go_simp
      repeat (first | (refine Mono.wpM_skip rfl ?_) | (refine Mono.wpM_all rfl rfl (fun K hK => ?_); go_simp; refine hK _ ?_; clear hK K))
      refine Mono.wpM_look (.slice (some ⟨b', off', none⟩) l3.length d3) rfl rfl (fun w6 hc6 _ => ?_) ?_
      · have hcl0 : w6.cell? ⟨w.heap.size + 1, 6, none⟩ = some (.slice (some ⟨b', off', none⟩) l3.length d3) := cell_of_row _ _ 6 _ 68 (0, 0) ((hc6.block _ (row_lt R1.out)).trans R1.out)
        go_simp
      repeat (first | (refine Mono.wpM_skip rfl ?_) | (refine Mono.wpM_all rfl rfl (fun K hK => ?_); go_simp; refine hK _ ?_; clear hK K))
      refine Mono.wpM_look (.agg #[.int .u32 ro, .int .u32 rv]) rfl rfl (fun w6 hc6 _ => ?_) ?_
      · have hcl0 : w6.cell? ⟨b', off' + j * 2, none⟩ = some (.int .u32 ro) := (hc6.cell hbl').trans m0
        have hcl1 : w6.cell? ⟨b', off' + j * 2 + 1, none⟩ = some (.int .u32 rv) := (hc6.cell hbl').trans m1
        go_simp
      repeat (first | (refine Mono.wpM_skip rfl ?_) | (refine Mono.wpM_all rfl rfl (fun K hK => ?_); go_simp; refine hK _ ?_; clear hK K))
      refine Mono.wpM_nil fun w3 hc3 _ => ?_
      have hb3 := Lib.hid (hb.out.trans (hc3.mono hszr))
      clear k0 k1 m0 m1 a6
      go_wp2
      go_roundw
      case rel => exact ⟨j + 1, by omega, by go_num, hb3⟩
      case measure => simp [intOf]; omega
    · have a6 : wr.cell? ⟨w.heap.size, 6, none⟩ = some (.slice A3 l3.length c3) := cell_of_row _ _ 6 _ 68 (0, 0) r0
      have a4 : wr.cell? ⟨w.heap.size, 4, none⟩ = some (.slice A1 l1.length c1) := cell_of_row _ _ 4 _ 68 (0, 0) r0
      have b4 : wr.cell? ⟨w.heap.size + 1, 4, none⟩ = some (.slice B1 l1.length d1) := cell_of_row _ _ 4 _ 68 (0, 0) r1
      clear r0 r1
      go_wp2_with fail
      refine (rowSame_any l1 A1 B1 c1 d1 S S' wr (HXW.out.bf.up (Same.below hb.out hSW) fun _ h => h) (HYW.out.bf.up (Same.below hb.out hSW') fun _ h => h) (fun b h => Nat.lt_of_lt_of_le (hSW b h) hszr) (fun b h => Nat.lt_of_lt_of_le (hSW' b h) hszr) hs1).mono ?_
      rintro e w4 ⟨rfl, hb4⟩
      have HB4 := Lib.hid (hb.out.trans (hb4.mono hszr))
      have hs4 := HB4.out.size
      have a5 : w4.cell? ⟨w.heap.size, 5, none⟩ = some (.slice A2 l2.length c2) := cell_of_row _ _ 5 _ 68 (0, 0) ((HB4.out.block _ (row_lt P0.out)).trans P0.out)
      have b5 : w4.cell? ⟨w.heap.size + 1, 5, none⟩ = some (.slice B2 l2.length d2) := cell_of_row _ _ 5 _ 68 (0, 0) ((HB4.out.block _ (row_lt P1.out)).trans P1.out)
      clear a6 a4 b4 hb4
      go_wp2_with fail
      refine (rowSame_any l2 A2 B2 c2 d2 S S' w4 (HXW.out.af.up (Same.below HB4.out hSW) fun _ h => h) (HYW.out.af.up (Same.below HB4.out hSW') fun _ h => h) (fun b h => Nat.lt_of_lt_of_le (hSW b h) hs4) (fun b h => Nat.lt_of_lt_of_le (hSW' b h) hs4) hs2).mono ?_
      rintro e w5 ⟨rfl, hb5⟩
      go_wp2
      go_ret
      exact ⟨rfl, HB.out.trans ((HB4.out.trans (hb5.mono hs4)).mono HB.out.size)⟩
end Go.Proofs.Ytaaijgalminafaa
/-
  Layer 24: transactions that are the same are told the same (f19, f15) (printed by gen_sn.py).
-/
namespace Go.Proofs.Ytaaijgalminafaa
open Go.RowKit
attribute [local go_sem] Mono.pureAt Mono.pureUpon
attribute [local irreducible] Mono.steps Mono.wpM

def trueF (k : Nat) : Nat → Option Fact := fun i => if i = k then some (.val (.bool true)) else none
theorem trueF_at (k : Nat) : trueF k k = some (.val (.bool true)) := if_pos rfl
set_option maxRecDepth 100000 in
set_option maxHeartbeats 12800000 in
theorem txSame_any (x y : Tr) (S S' : Nat → Prop) (w : World) (hx : (KT KR).at_ w S x) (hy : (KT KR).at_ w S' y) (hS : ∀ b, S b → b < w.heap.size) (hS' : ∀ b, S' b → b < w.heap.size) (hs : x.tx.Sm) (hxy : x.tx = y.tx) : Calls Try.prog 19 #[(KT KR).v x, (KT KR).v y] w (RetB true w) := by
  obtain ⟨xid, stp, ⟨vs, Av, cv⟩⟩ := x
  obtain ⟨xid2, stp2, ⟨us, Bv, dv⟩⟩ := y
  simp only [Tr.tx, Tx.mk.injEq] at hxy
  obtain ⟨rfl, rfl, hev⟩ := hxy
  have hlen : us.length = vs.length := by have := congrArg List.length hev; simpa using this.symm
  have hvl : vs.length ≤ 1000 := by have := hs.n; simpa [Tr.tx] using this
  have HX := Lib.hid (hx : RoAt (KE KR) w S ⟨vs, Av, cv⟩); have HY := Lib.hid (hy : RoAt (KE KR) w S' ⟨us, Bv, dv⟩); have HSm := Lib.hid hs; have HEV := Lib.hid hev
  clear hx hy hs hev
  have HLEN := Lib.hid hlen
  show Calls Try.prog 19 #[.agg #[.int .u32 xid, .int .u64 stp, .slice Av vs.length cv], .agg #[.int .u32 xid, .int .u64 stp, .slice Bv us.length dv]] w _
  rw [hlen]
  clear hlen
  go_enter Try.func19, Try.ntmps19
  go_upto_region 1 with fail
  generalize hW : World.alloc (World.alloc w _) _ = W
  obtain ⟨hb0, p0, p1, hsz⟩ := alloc2 hW
  have HB := Lib.hid hb0; have P0 := Lib.hid p0; have P1 := Lib.hid p1
  have HXW := Lib.hid (HX.out.up (Same.below hb0 hS) (fun _ h => h)); have HYW := Lib.hid (HY.out.up (Same.below hb0 hS') (fun _ h => h))
  have hSW : ∀ b, S b → b < W.heap.size := fun b h => Nat.lt_of_lt_of_le (hS b h) hb0.size
  have hSW' : ∀ b, S' b → b < W.heap.size := fun b h => Nat.lt_of_lt_of_le (hS' b h) hb0.size
  have a0 : W.cell? ⟨w.heap.size, 0, none⟩ = some (.int .u32 xid) := cell_of_row _ _ 0 _ 53 (0, 0) p0
  have a1 : W.cell? ⟨w.heap.size, 1, none⟩ = some (.int .u64 stp) := cell_of_row _ _ 1 _ 53 (0, 0) p0
  have a2 : W.cell? ⟨w.heap.size, 2, none⟩ = some (.slice Av vs.length cv) := cell_of_row _ _ 2 _ 53 (0, 0) p0
  have fza : ∀ i, W.frozen? ⟨w.heap.size, i, none⟩ = false := fun i => row_free p0 i
  have b0 : W.cell? ⟨(w.heap.size + 1), 0, none⟩ = some (.int .u32 xid) := cell_of_row _ _ 0 _ 53 (0, 0) p1
  have b1 : W.cell? ⟨(w.heap.size + 1), 1, none⟩ = some (.int .u64 stp) := cell_of_row _ _ 1 _ 53 (0, 0) p1
  have b2 : W.cell? ⟨(w.heap.size + 1), 2, none⟩ = some (.slice Bv vs.length dv) := cell_of_row _ _ 2 _ 53 (0, 0) p1
  have fzb : ∀ i, W.frozen? ⟨(w.heap.size + 1), i, none⟩ = false := fun i => row_free p1 i
  clear hW hb0 p0 p1 fza fzb
  go_wp2
  clear a0 a1 a2 b0 b1 b2
  go_loopw [5] (fun s5 wr => ∃ j : Nat, j ≤ vs.length ∧ s5 = .int .i64 (j : Int) ∧ Hid (Below W.heap.size W wr)) (fun s5 _ => vs.length - (intOf s5).toNat)
  case atStart => exact ⟨0, by omega, rfl, Below.refl _ _⟩
  case round =>
    obtain ⟨j, hj, rfl, hb⟩ := hrel
    have r0 := (hb.out.block _ (row_lt P0.out)).trans P0.out
    have r1 := (hb.out.block _ (row_lt P1.out)).trans P1.out
    have hszr := hb.out.size
    have a2 : wr.cell? ⟨w.heap.size, 2, none⟩ = some (.slice Av vs.length cv) := cell_of_row _ _ 2 _ 53 (0, 0) r0
    have R0 := Lib.hid r0; have R1 := Lib.hid r1
    clear r0 r1
    by_cases hlt : j < vs.length
    · have hd : (j : Int) < (vs.length : Int) := by omega
      have hlt' : j < us.length := by rw [HLEN.out]; exact hlt
      have hXr := HXW.out.up (Same.below hb.out hSW) (fun _ h => h)
      have hYr := HYW.out.up (Same.below hb.out hSW') (fun _ h => h)
      obtain ⟨b, off, e0, hSb, hcell⟩ := hXr.get hlt
      obtain ⟨b', off', e0', hSb', hcell'⟩ := hYr.get hlt'
      simp only at e0 e0'
      subst e0 e0'
      have hcj := hcell j hlt; have hcj' := hcell' j hlt'
      have hbl : b < wr.heap.size := Nat.lt_of_lt_of_le (hSW b hSb) hszr
      have hbl' : b' < wr.heap.size := Nat.lt_of_lt_of_le (hSW' b' hSb') hszr
      have hex := hXr.el _ (List.getElem_mem hlt); have hey := hYr.el _ (List.getElem_mem hlt')
      have hsx := HSm.out.ev (vs[j]).ev (List.mem_map.2 ⟨_, List.getElem_mem hlt, rfl⟩)
      have heq : (vs[j]).ev = (us[j]).ev := by
        have h1 : (vs.map Er.ev)[j]? = (us.map Er.ev)[j]? := by rw [HEV.out]
        rw [List.getElem?_map, List.getElem?_map, List.getElem?_eq_getElem hlt, List.getElem?_eq_getElem hlt'] at h1
        simpa using h1
      clear hcell hcell' hXr hYr
      generalize vs[j] = x at *
      generalize us[j] = y at *
      obtain ⟨kd, ⟨oid, ver⟩, old, ⟨l1, A1, c1⟩, ⟨l2, A2, c2⟩, ⟨l3, A3, c3⟩, fl⟩ := x
      obtain ⟨kd2, ⟨oid2, ver2⟩, old2, ⟨l4, B1, d1⟩, ⟨l5, B2, d2⟩, ⟨l6, B3, d3⟩, fl2⟩ := y
      simp only [Er.ev, Ev.mk.injEq, Rf.mk.injEq] at heq
      obtain ⟨rfl, ⟨rfl, rfl⟩, rfl, rfl, rfl, rfl, rfl⟩ := heq
      have HEX := Lib.hid (hex : ErAt KR wr S ⟨kd, ⟨oid, ver⟩, old, ⟨l1, A1, c1⟩, ⟨l2, A2, c2⟩, ⟨l3, A3, c3⟩, fl⟩); have HEY := Lib.hid (hey : ErAt KR wr S' ⟨kd, ⟨oid, ver⟩, old, ⟨l1, B1, d1⟩, ⟨l2, B2, d2⟩, ⟨l3, B3, d3⟩, fl⟩); have HSX := Lib.hid hsx
      have HBr := hb
      have k0 : wr.cell? ⟨b, off + j * 8, none⟩ = some (.int .u8 kd) := hcj 0 _ rfl
      have k1 : wr.cell? ⟨b, off + j * 8 + 1, none⟩ = some (.int .u32 oid) := hcj 1 _ rfl
      have k2 : wr.cell? ⟨b, off + j * 8 + 2, none⟩ = some (.int .u32 ver) := hcj 2 _ rfl
      have k3 : wr.cell? ⟨b, off + j * 8 + 3, none⟩ = some (.int .u8 old) := hcj 3 _ rfl
      have k4 : wr.cell? ⟨b, off + j * 8 + 4, none⟩ = some (.slice A1 l1.length c1) := hcj 4 _ rfl
      have k5 : wr.cell? ⟨b, off + j * 8 + 5, none⟩ = some (.slice A2 l2.length c2) := hcj 5 _ rfl
      have k6 : wr.cell? ⟨b, off + j * 8 + 6, none⟩ = some (.slice A3 l3.length c3) := hcj 6 _ rfl
      have k7 : wr.cell? ⟨b, off + j * 8 + 7, none⟩ = some (.int .u8 fl) := hcj 7 _ rfl
      have m0 : wr.cell? ⟨b', off' + j * 8, none⟩ = some (.int .u8 kd) := hcj' 0 _ rfl
      have m1 : wr.cell? ⟨b', off' + j * 8 + 1, none⟩ = some (.int .u32 oid) := hcj' 1 _ rfl
      have m2 : wr.cell? ⟨b', off' + j * 8 + 2, none⟩ = some (.int .u32 ver) := hcj' 2 _ rfl
      have m3 : wr.cell? ⟨b', off' + j * 8 + 3, none⟩ = some (.int .u8 old) := hcj' 3 _ rfl
      have m4 : wr.cell? ⟨b', off' + j * 8 + 4, none⟩ = some (.slice B1 l1.length d1) := hcj' 4 _ rfl
      have m5 : wr.cell? ⟨b', off' + j * 8 + 5, none⟩ = some (.slice B2 l2.length d2) := hcj' 5 _ rfl
      have m6 : wr.cell? ⟨b', off' + j * 8 + 6, none⟩ = some (.slice B3 l3.length d3) := hcj' 6 _ rfl
      have m7 : wr.cell? ⟨b', off' + j * 8 + 7, none⟩ = some (.int .u8 fl) := hcj' 7 _ rfl
      clear hcj hcj' hex hey hsx
      have hSr : ∀ b, S b → b < wr.heap.size := fun b h => Nat.lt_of_lt_of_le (hSW b h) hszr
      have hSr' : ∀ b, S' b → b < wr.heap.size := fun b h => Nat.lt_of_lt_of_le (hSW' b h) hszr
      go_wp2_with fail
      refine wp_region_fx (trueF 10) (by kernel_rfl) (by kernel_rfl) ?_
      repeat (first | (refine Mono.wpM_skip rfl ?_) | (refine Mono.wpM_all rfl rfl (fun K hK => ?_); go_simp; refine hK _ ?_; clear hK K))
      refine Mono.wpM_look (.slice (some ⟨b, off, none⟩) vs.length cv) rfl rfl (fun w6 hc6 _ => ?_) ?_
      · have hcl0 : w6.cell? ⟨w.heap.size, 2, none⟩ = some (.slice (some ⟨b, off, none⟩) vs.length cv) := cell_of_row _ _ 2 _ 53 (0, 0) ((hc6.block _ (row_lt R0.out)).trans R0.out)
        go_simp
      repeat (first | (refine Mono.wpM_skip rfl ?_) | (refine Mono.wpM_all rfl rfl (fun K hK => ?_); go_simp; refine hK _ ?_; clear hK K))
      refine Mono.wpM_look (.agg #[.int .u8 kd, .int .u32 oid, .int .u32 ver, .int .u8 old, .slice A1 l1.length c1, .slice A2 l2.length c2, .slice A3 l3.length c3, .int .u8 fl]) rfl rfl (fun w6 hc6 _ => ?_) ?_
      · have hcl0 : w6.cell? ⟨b, off + j * 8, none⟩ = some (.int .u8 kd) := (hc6.cell hbl).trans k0
        have hcl1 : w6.cell? ⟨b, off + j * 8 + 1, none⟩ = some (.int .u32 oid) := (hc6.cell hbl).trans k1
        have hcl2 : w6.cell? ⟨b, off + j * 8 + 2, none⟩ = some (.int .u32 ver) := (hc6.cell hbl).trans k2
        have hcl3 : w6.cell? ⟨b, off + j * 8 + 3, none⟩ = some (.int .u8 old) := (hc6.cell hbl).trans k3
        have hcl4 : w6.cell? ⟨b, off + j * 8 + 4, none⟩ = some (.slice A1 l1.length c1) := (hc6.cell hbl).trans k4
        have hcl5 : w6.cell? ⟨b, off + j * 8 + 5, none⟩ = some (.slice A2 l2.length c2) := (hc6.cell hbl).trans k5
        have hcl6 : w6.cell? ⟨b, off + j * 8 + 6, none⟩ = some (.slice A3 l3.length c3) := (hc6.cell hbl).trans k6
        have hcl7 : w6.cell? ⟨b, off + j * 8 + 7, none⟩ = some (.int .u8 fl) := (hc6.cell hbl).trans k7
        go_simp
      repeat (first | (refine Mono.wpM_skip rfl ?_) | (refine Mono.wpM_all rfl rfl (fun K hK => ?_); go_simp; refine hK _ ?_; clear hK K))
      refine Mono.wpM_look (.slice (some ⟨b', off', none⟩) vs.length dv) rfl rfl (fun w6 hc6 _ => ?_) ?_
      · have hcl0 : w6.cell? ⟨w.heap.size + 1, 2, none⟩ = some (.slice (some ⟨b', off', none⟩) vs.length dv) := cell_of_row _ _ 2 _ 53 (0, 0) ((hc6.block _ (row_lt R1.out)).trans R1.out)
        go_simp
      repeat (first | (refine Mono.wpM_skip rfl ?_) | (refine Mono.wpM_all rfl rfl (fun K hK => ?_); go_simp; refine hK _ ?_; clear hK K))
      refine Mono.wpM_look (.agg #[.int .u8 kd, .int .u32 oid, .int .u32 ver, .int .u8 old, .slice B1 l1.length d1, .slice B2 l2.length d2, .slice B3 l3.length d3, .int .u8 fl]) rfl rfl (fun w6 hc6 _ => ?_) ?_
      · have hcl0 : w6.cell? ⟨b', off' + j * 8, none⟩ = some (.int .u8 kd) := (hc6.cell hbl').trans m0
        have hcl1 : w6.cell? ⟨b', off' + j * 8 + 1, none⟩ = some (.int .u32 oid) := (hc6.cell hbl').trans m1
        have hcl2 : w6.cell? ⟨b', off' + j * 8 + 2, none⟩ = some (.int .u32 ver) := (hc6.cell hbl').trans m2
        have hcl3 : w6.cell? ⟨b', off' + j * 8 + 3, none⟩ = some (.int .u8 old) := (hc6.cell hbl').trans m3
        have hcl4 : w6.cell? ⟨b', off' + j * 8 + 4, none⟩ = some (.slice B1 l1.length d1) := (hc6.cell hbl').trans m4
        have hcl5 : w6.cell? ⟨b', off' + j * 8 + 5, none⟩ = some (.slice B2 l2.length d2) := (hc6.cell hbl').trans m5
        have hcl6 : w6.cell? ⟨b', off' + j * 8 + 6, none⟩ = some (.slice B3 l3.length d3) := (hc6.cell hbl').trans m6
        have hcl7 : w6.cell? ⟨b', off' + j * 8 + 7, none⟩ = some (.int .u8 fl) := (hc6.cell hbl').trans m7
        go_simp
      repeat (first | (refine Mono.wpM_skip rfl ?_) | (refine Mono.wpM_all rfl rfl (fun K hK => ?_); go_simp; refine hK _ ?_; clear hK K))
      refine Mono.wpM_eff rfl rfl (fun w9 hc9 _ => steps_enter (evSame_any ⟨kd, ⟨oid, ver⟩, old, ⟨l1, A1, c1⟩, ⟨l2, A2, c2⟩, ⟨l3, A3, c3⟩, fl⟩ ⟨kd, ⟨oid, ver⟩, old, ⟨l1, B1, d1⟩, ⟨l2, B2, d2⟩, ⟨l3, B3, d3⟩, fl⟩ S S' w9 (HEX.out.up (Same.below hc9 hSr) fun _ h => h) (HEY.out.up (Same.below hc9 hSr') fun _ h => h) (fun b h => Nat.lt_of_lt_of_le (hSr b h) hc9.size) (fun b h => Nat.lt_of_lt_of_le (hSr' b h) hc9.size) HSX.out rfl) (by go_simp; first | done | rfl | exact ⟨rfl, rfl⟩) (bool_val (Lib.hid rfl) (trueF_at 10))) ?_
      rintro v10 ⟨wq, hq⟩
      obtain rfl : v10 = _ := hq
      clear wq
      repeat (first | (refine Mono.wpM_skip rfl ?_) | (refine Mono.wpM_all rfl rfl (fun K hK => ?_); go_simp; refine hK _ ?_; clear hK K))
      (refine Mono.wpM_norm (fun K hK => ?_); go_simp; refine hK _ ?_; clear hK K)
      refine Mono.wpM_nil fun w3 hc3 _ => ?_
      have hb3 := Lib.hid (HBr.out.trans (hc3.mono hszr))
      clear k0 m0 k1 m1 k2 m2 k3 m3 k4 m4 k5 m5 k6 m6 k7 m7 a2
      go_wp2
      go_roundw
      case rel => exact ⟨j + 1, by omega, by go_num, hb3⟩
      case measure => simp [intOf]; omega
    · go_wp2
      go_ret
      exact ⟨rfl, HB.out.trans (hb.out.mono HB.out.size)⟩
set_option maxRecDepth 100000 in
set_option maxHeartbeats 12800000 in
theorem allSame_any (r r' : Ro Tr) (S S' : Nat → Prop) (w : World) (hx : RoAt (KT KR) w S r) (hy : RoAt (KT KR) w S' r') (hS : ∀ b, S b → b < w.heap.size) (hS' : ∀ b, S' b → b < w.heap.size) (hl : r.l.length ≤ 1000) (hs : ∀ t ∈ r.l, t.tx.Sm) (hxy : r.l.map Tr.tx = r'.l.map Tr.tx) :
    Calls Try.prog 15 #[r.v, r'.v] w (RetB true w) := by
  obtain ⟨vs, Av, cv⟩ := r
  obtain ⟨us, Bv, dv⟩ := r'
  simp only at hl hs hxy
  unfold Ro.v
  have hlen : us.length = vs.length := by have := congrArg List.length hxy; simpa using this.symm
  have HX := Lib.hid hx; have HY := Lib.hid hy; have HSm := Lib.hid hs; have HEV := Lib.hid hxy
  have HLEN := Lib.hid hlen
  simp only
  rw [hlen]
  clear hlen hx hy hs hxy
  go_enter Try.func15, Try.ntmps15
  go_wp2
  go_loopw [5] (fun s5 wr => ∃ j : Nat, j ≤ vs.length ∧ s5 = .int .i64 (j : Int) ∧ Hid (Below w.heap.size w wr)) (fun s5 _ => vs.length - (intOf s5).toNat)
  case atStart => exact ⟨0, by omega, rfl, Below.refl _ _⟩
  case round =>
    obtain ⟨j, hj, rfl, hb⟩ := hrel
    have hszr := hb.out.size
    by_cases hlt : j < vs.length
    · have hd : (j : Int) < (vs.length : Int) := by omega
      have hlt' : j < us.length := by rw [HLEN.out]; exact hlt
      have hXr := HX.out.up (Same.below hb.out hS) (fun _ h => h)
      have hYr := HY.out.up (Same.below hb.out hS') (fun _ h => h)
      obtain ⟨b, off, e0, hSb, hcell⟩ := hXr.get hlt
      obtain ⟨b', off', e0', hSb', hcell'⟩ := hYr.get hlt'
      simp only at e0 e0'
      subst e0 e0'
      have hcj := hcell j hlt; have hcj' := hcell' j hlt'
      have hbl : b < wr.heap.size := Nat.lt_of_lt_of_le (hS b hSb) hszr
      have hbl' : b' < wr.heap.size := Nat.lt_of_lt_of_le (hS' b' hSb') hszr
      have hex := hXr.el _ (List.getElem_mem hlt); have hey := hYr.el _ (List.getElem_mem hlt')
      have hsx := HSm.out _ (List.getElem_mem hlt)
      have heq : (vs[j]).tx = (us[j]).tx := by
        have h1 : (vs.map Tr.tx)[j]? = (us.map Tr.tx)[j]? := by rw [HEV.out]
        rw [List.getElem?_map, List.getElem?_map, List.getElem?_eq_getElem hlt, List.getElem?_eq_getElem hlt'] at h1
        simpa using h1
      clear hcell hcell' hXr hYr
      generalize vs[j] = x at *
      generalize us[j] = y at *
      obtain ⟨xid, stp, ⟨v1, A1, c1⟩⟩ := x
      obtain ⟨xid2, stp2, ⟨u1', B1, d1⟩⟩ := y
      have HEX := Lib.hid hex; have HEY := Lib.hid hey; have HSX := Lib.hid hsx; have HEQ := Lib.hid heq
      have HBr := hb
      have k0 : wr.cell? ⟨b, off + j * 3, none⟩ = some (.int .u32 xid) := hcj 0 _ rfl
      have k1 : wr.cell? ⟨b, off + j * 3 + 1, none⟩ = some (.int .u64 stp) := hcj 1 _ rfl
      have k2 : wr.cell? ⟨b, off + j * 3 + 2, none⟩ = some (.slice A1 v1.length c1) := hcj 2 _ rfl
      have m0 : wr.cell? ⟨b', off' + j * 3, none⟩ = some (.int .u32 xid2) := hcj' 0 _ rfl
      have m1 : wr.cell? ⟨b', off' + j * 3 + 1, none⟩ = some (.int .u64 stp2) := hcj' 1 _ rfl
      have m2 : wr.cell? ⟨b', off' + j * 3 + 2, none⟩ = some ((.slice B1 u1'.length d1)) := hcj' 2 _ rfl
      clear hcj hcj' hex hey hsx heq
      have hSr : ∀ b, S b → b < wr.heap.size := fun b h => Nat.lt_of_lt_of_le (hS b h) hszr
      have hSr' : ∀ b, S' b → b < wr.heap.size := fun b h => Nat.lt_of_lt_of_le (hS' b h) hszr
      go_wp2_with fail
      refine wp_region_fx (trueF 8) (by kernel_rfl) (by kernel_rfl) ?_
      repeat (first | (refine Mono.wpM_skip rfl ?_) | (refine Mono.wpM_all rfl rfl (fun K hK => ?_); go_simp; refine hK _ ?_; clear hK K))
      refine Mono.wpM_look (.agg #[.int .u32 xid, .int .u64 stp, .slice A1 v1.length c1]) rfl rfl (fun w6 hc6 _ => ?_) ?_
      · have hcl0 : w6.cell? ⟨b, off + j * 3, none⟩ = some (.int .u32 xid) := (hc6.cell hbl).trans k0
        have hcl1 : w6.cell? ⟨b, off + j * 3 + 1, none⟩ = some (.int .u64 stp) := (hc6.cell hbl).trans k1
        have hcl2 : w6.cell? ⟨b, off + j * 3 + 2, none⟩ = some (.slice A1 v1.length c1) := (hc6.cell hbl).trans k2
        go_simp
      repeat (first | (refine Mono.wpM_skip rfl ?_) | (refine Mono.wpM_all rfl rfl (fun K hK => ?_); go_simp; refine hK _ ?_; clear hK K))
      refine Mono.wpM_look (.agg #[.int .u32 xid2, .int .u64 stp2, (.slice B1 u1'.length d1)]) rfl rfl (fun w6 hc6 _ => ?_) ?_
      · have hcl0 : w6.cell? ⟨b', off' + j * 3, none⟩ = some (.int .u32 xid2) := (hc6.cell hbl').trans m0
        have hcl1 : w6.cell? ⟨b', off' + j * 3 + 1, none⟩ = some (.int .u64 stp2) := (hc6.cell hbl').trans m1
        have hcl2 : w6.cell? ⟨b', off' + j * 3 + 2, none⟩ = some ((.slice B1 u1'.length d1)) := (hc6.cell hbl').trans m2
        go_simp
      repeat (first | (refine Mono.wpM_skip rfl ?_) | (refine Mono.wpM_all rfl rfl (fun K hK => ?_); go_simp; refine hK _ ?_; clear hK K))
      refine Mono.wpM_eff rfl rfl (fun w9 hc9 _ => steps_enter (txSame_any ⟨xid, stp, ⟨v1, A1, c1⟩⟩ ⟨xid2, stp2, ⟨u1', B1, d1⟩⟩ S S' w9 ((KT KR).up HEX.out (Same.below hc9 hSr) fun _ h => h) ((KT KR).up HEY.out (Same.below hc9 hSr') fun _ h => h) (fun b h => Nat.lt_of_lt_of_le (hSr b h) hc9.size) (fun b h => Nat.lt_of_lt_of_le (hSr' b h) hc9.size) HSX.out HEQ.out) (by go_simp; first | done | rfl | exact ⟨rfl, rfl⟩) (bool_val (Lib.hid rfl) (trueF_at 8))) ?_
      rintro v8 ⟨wq, hq⟩
      obtain rfl : v8 = _ := hq
      clear wq
      repeat (first | (refine Mono.wpM_skip rfl ?_) | (refine Mono.wpM_all rfl rfl (fun K hK => ?_); go_simp; refine hK _ ?_; clear hK K))
      (refine Mono.wpM_norm (fun K hK => ?_); go_simp; refine hK _ ?_; clear hK K)
      refine Mono.wpM_nil fun w3 hc3 _ => ?_
      have hb3 := Lib.hid (HBr.out.trans (hc3.mono hszr))
      clear k0 k1 k2 m0 m1 m2
      go_wp2
      go_roundw
      case rel => exact ⟨j + 1, by omega, by go_num, hb3⟩
      case measure => simp [intOf]; omega
    · go_wp2
      go_ret
      exact ⟨rfl, hb.out⟩
end Go.Proofs.Ytaaijgalminafaa
