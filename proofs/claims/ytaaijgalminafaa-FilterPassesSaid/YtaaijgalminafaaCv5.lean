import Derived.Test.YtaaijgalminafaaCv4
import Derived.Test.YtaaijgalminafaaFt
import Derived.Test.YtaaijgalminafaaSt
/-
  Layer 24: an event of the document as the program's (f31) (printed by gen_cv5.py).
-/
namespace Go.Proofs.Ytaaijgalminafaa
open Go.RowKit Mem
attribute [local go_sem] Mono.pureAt Mono.pureUpon
attribute [local irreducible] Mono.steps Mono.wpM State.acts State.wpM

def ownL (S : Nat → Prop) (B : Nat) (r : Value) (b a : List Ce) : List (Nat × Mem.Kind) := [(4, .sup (supV r)), (9, .sup (supRo S B KP b)), (12, .sup (supRo S B KP a)), (16, .box 8 61)]
def rfF1 (B : Nat) (v : Value) (cs : Array Value) : Nat → Option Fact
  | 7 => some (.val v)
  | 8 => some (.litK B 1 cs 56)
  | _ => none
set_option maxRecDepth 100000 in
set_option maxHeartbeats 12800000 in
theorem ownEv_any (x : Er) (S : Nat → Prop) (w : World) (hx : ErAt KR w S x) (hS : ∀ b, S b → b < w.heap.size) (hs : x.ev.Sm) : Calls Try.prog 31 #[(KE KR).v x] w (RetEv KP S x.ev w) := by
  obtain ⟨kd, ⟨oid, ver⟩, old, ⟨l1, A1, c1⟩, ⟨l2, A2, c2⟩, ⟨l3, A3, c3⟩, fl⟩ := x
  obtain ⟨hs1, hs2, hs3⟩ := hs
  simp only [Er.ev] at hs1 hs2 hs3
  obtain ⟨i0, hi, hz0, hz1, hz2⟩ := info_parts Try.info56
  have HX := Lib.hid hx; clear hx
  show Calls Try.prog 31 #[.agg #[.int .u8 kd, .int .u32 oid, .int .u32 ver, .int .u8 old, .slice A1 l1.length c1, .slice A2 l2.length c2, .slice A3 l3.length c3, .int .u8 fl]] w (RetEv KP S ⟨kd, ⟨oid, ver⟩, old, l1, l2, l3, fl⟩ w)
  go_enter Try.func31, Try.ntmps31
  go_wp2_with fail
  generalize hW : World.alloc (World.alloc w _) _ = W
  obtain ⟨hb0, p0, p1, hsz⟩ := alloc2 hW
  have HB := Lib.hid hb0; have P0 := Lib.hid p0; have P1 := Lib.hid p1
  have HXW := Lib.hid (HX.out.up (Same.below hb0 hS) (fun _ h => h) : ErAt KR W S _)
  have hSW : ∀ b, S b → b < W.heap.size := fun b h => Nat.lt_of_lt_of_le (hS b h) hb0.size
  clear hW hb0 p0 p1
  go_cut [3] (fun s3 wx => ∃ g B9 d9 B12 d12 T9 T12, s3 = .pointer (some ⟨g, 0, none⟩) ∧ Hid (EvJ KP S 61 56 g kd oid ver old fl ⟨l1, B9, d9⟩ ⟨l2, B12, d12⟩ T9 T12 w wx wx (.slice none 0 0) []) ∧ W.heap.size ≤ g ∧ Hid (Below W.heap.size W wx ∧ (∀ b, T9 b → Since S W.heap.size wx b) ∧ ∀ b, T12 b → Since S W.heap.size wx b))
  case first =>
    refine wp_region_mem_tail 17 (ownL S W.heap.size (.agg #[.int .u32 oid, .int .u32 ver]) l1 l2) (by kernel_rfl) (by kernel_rfl) (by kernel_rfl) (by kernel_rfl) (by kernel_rfl) (by kernel_rfl) (fun hM hO => ?_)
    repeat (first | (refine State.wpM_skip rfl ?_) | (refine State.wpM_all rfl rfl (fun K hK => ?_); go_simp; refine hK _ ?_; clear hK K))
    refine State.wpM_look (.int .u8 kd) rfl rfl (fun F' w6 hC _ _ => ?_) ?_
    · have c0 : w6.cell? ⟨w.heap.size, 0, none⟩ = some (.int .u8 kd) := cell_of_row _ _ 0 _ 68 (0, 0) ((hC.b.block _ (row_lt P0.out)).trans P0.out)
      go_simp
    repeat (first | (refine State.wpM_skip rfl ?_) | (refine State.wpM_all rfl rfl (fun K hK => ?_); go_simp; refine hK _ ?_; clear hK K))
    refine State.wpM_look (.agg #[.int .u32 oid, .int .u32 ver]) rfl rfl (fun F' w6 hC _ _ => ?_) ?_
    · have c0 : w6.cell? ⟨w.heap.size, 1, none⟩ = some (.int .u32 oid) := cell_of_row _ _ 1 _ 68 (0, 0) ((hC.b.block _ (row_lt P0.out)).trans P0.out)
      have c1 : w6.cell? ⟨w.heap.size, 2, none⟩ = some (.int .u32 ver) := cell_of_row _ _ 2 _ 68 (0, 0) ((hC.b.block _ (row_lt P0.out)).trans P0.out)
      go_simp
    repeat (first | (refine State.wpM_skip rfl ?_) | (refine State.wpM_all rfl rfl (fun K hK => ?_); go_simp; refine hK _ ?_; clear hK K))
    refine State.wpM_act rfl rfl (fun F' w5 hC h0 ha hA => ?_) ?_
    · skip
      exact acts_sup hM rfl hC ha (ownRef_any ⟨oid, ver⟩ w5) (by go_simp; first | done | rfl | exact ⟨rfl, rfl⟩) (retV_sup)
    intro v4 ⟨w5, hC5⟩
    obtain ⟨S5, hs, -⟩ := hC5.sup 4 _ rfl v4 (by simp [State.upd])
    obtain rfl : v4 = _ := hs
    clear hC5 w5 S5
    repeat (first | (refine State.wpM_skip rfl ?_) | (refine State.wpM_all rfl rfl (fun K hK => ?_); go_simp; refine hK _ ?_; clear hK K))
    refine State.wpM_look (.int .u8 old) rfl rfl (fun F' w6 hC _ _ => ?_) ?_
    · have c0 : w6.cell? ⟨w.heap.size, 3, none⟩ = some (.int .u8 old) := cell_of_row _ _ 3 _ 68 (0, 0) ((hC.b.block _ (row_lt P0.out)).trans P0.out)
      go_simp
    repeat (first | (refine State.wpM_skip rfl ?_) | (refine State.wpM_all rfl rfl (fun K hK => ?_); go_simp; refine hK _ ?_; clear hK K))
    refine State.wpM_look (.slice A1 l1.length c1) rfl rfl (fun F' w6 hC _ _ => ?_) ?_
    · have c0 : w6.cell? ⟨w.heap.size, 4, none⟩ = some (.slice A1 l1.length c1) := cell_of_row _ _ 4 _ 68 (0, 0) ((hC.b.block _ (row_lt P0.out)).trans P0.out)
      go_simp
    repeat (first | (refine State.wpM_skip rfl ?_) | (refine State.wpM_all rfl rfl (fun K hK => ?_); go_simp; refine hK _ ?_; clear hK K))
    refine State.wpM_act rfl rfl (fun F' w5 hC h0 ha hA => ?_) ?_
    · skip
      exact acts_sup hM rfl hC ha (ownRow_any ⟨l1, A1, c1⟩ S w5 (HXW.out.bf.up (Same.below hC.b hSW) fun _ h => h) (fun b h => Nat.lt_of_lt_of_le (hSW b h) hC.b.size) hs1) (by go_simp; first | done | rfl | exact ⟨rfl, rfl⟩) (retRo_sup hC.b.size hSW)
    intro v9 ⟨w5, hC5⟩
    obtain ⟨S5, hs, -⟩ := hC5.sup 9 _ rfl v9 (by simp [State.upd])
    obtain ⟨B9, d9, rfl, -, -⟩ : ∃ A c, v9 = .slice A (l1).length c ∧ _ ∧ _ := hs
    clear hC5 w5 S5
    repeat (first | (refine State.wpM_skip rfl ?_) | (refine State.wpM_all rfl rfl (fun K hK => ?_); go_simp; refine hK _ ?_; clear hK K))
    refine State.wpM_look (.slice A2 l2.length c2) rfl rfl (fun F' w6 hC _ _ => ?_) ?_
    · have c0 : w6.cell? ⟨w.heap.size, 5, none⟩ = some (.slice A2 l2.length c2) := cell_of_row _ _ 5 _ 68 (0, 0) ((hC.b.block _ (row_lt P0.out)).trans P0.out)
      go_simp
    repeat (first | (refine State.wpM_skip rfl ?_) | (refine State.wpM_all rfl rfl (fun K hK => ?_); go_simp; refine hK _ ?_; clear hK K))
    refine State.wpM_act rfl rfl (fun F' w5 hC h0 ha hA => ?_) ?_
    · skip
      exact acts_sup hM rfl hC ha (ownRow_any ⟨l2, A2, c2⟩ S w5 (HXW.out.af.up (Same.below hC.b hSW) fun _ h => h) (fun b h => Nat.lt_of_lt_of_le (hSW b h) hC.b.size) hs2) (by go_simp; first | done | rfl | exact ⟨rfl, rfl⟩) (retRo_sup hC.b.size hSW)
    intro v12 ⟨w5, hC5⟩
    obtain ⟨S5, hs, -⟩ := hC5.sup 12 _ rfl v12 (by simp [State.upd])
    obtain ⟨B12, d12, rfl, -, -⟩ : ∃ A c, v12 = .slice A (l2).length c ∧ _ ∧ _ := hs
    clear hC5 w5 S5
    repeat (first | (refine State.wpM_skip rfl ?_) | (refine State.wpM_all rfl rfl (fun K hK => ?_); go_simp; refine hK _ ?_; clear hK K))
    refine State.wpM_look (.int .u8 fl) rfl rfl (fun F' w6 hC _ _ => ?_) ?_
    · have c0 : w6.cell? ⟨w.heap.size, 7, none⟩ = some (.int .u8 fl) := cell_of_row _ _ 7 _ 68 (0, 0) ((hC.b.block _ (row_lt P0.out)).trans P0.out)
      go_simp
    repeat (first | (refine State.wpM_skip rfl ?_) | (refine State.wpM_all rfl rfl (fun K hK => ?_); go_simp; refine hK _ ?_; clear hK K))
    refine State.wpM_act rfl rfl (fun F' w hC h0 ha _ => acts_box hM rfl hC h0 ha (cs := #[.int .u8 0, .int .u32 0, .int .u32 0, .int .u8 0, .slice none 0 0, .slice none 0 0, .slice none 0 0, .int .u8 0]) rfl (by go_simp)) ?_
    intro v16 ⟨w5, hC5⟩
    obtain ⟨g16, -, rfl, -⟩ := hC5.box 16 8 61 rfl v16 (by simp [State.upd])
    clear hC5 w5
    (refine State.wpM_norm (fun K hK => ?_); go_simp; refine hK _ ?_; clear hK K)
    refine State.wpM_nil fun w10 hC => ?_
    obtain ⟨z16, cur, ez16, hB16, q16, hz16⟩ := hC.box 16 8 61 rfl (.pointer (some ⟨g16, 0, none⟩)) (by simp [State.upd])
    injection ez16 with ez16; injection ez16 with ez16; injection ez16 with ez16 _ _
    subst ez16
    obtain ⟨T9, hp9, ht9, hn9⟩ := hC.sup 9 _ rfl (.slice B9 (l1).length d9) (by simp [State.upd])
    obtain ⟨A', c', e', hro9, hsi9⟩ : ∃ A c, Value.slice B9 (l1).length d9 = .slice A (l1).length c ∧ RoAt KP w10 T9 ⟨l1, A, c⟩ ∧ ∀ b, T9 b → Since S W.heap.size w10 b := hp9
    injection e' with e1' _ e2'
    subst e1' e2'
    have hng9 : ¬ T9 g16 := hn9 16 8 61 g16 rfl (by simp [State.upd])
    obtain ⟨T12, hp12, ht12, hn12⟩ := hC.sup 12 _ rfl (.slice B12 (l2).length d12) (by simp [State.upd])
    obtain ⟨A', c', e', hro12, hsi12⟩ : ∃ A c, Value.slice B12 (l2).length d12 = .slice A (l2).length c ∧ RoAt KP w10 T12 ⟨l2, A, c⟩ ∧ ∀ b, T12 b → Since S W.heap.size w10 b := hp12
    injection e' with e1' _ e2'
    subst e1' e2'
    have hng12 : ¬ T12 g16 := hn12 16 8 61 g16 rfl (by simp [State.upd])
    have hbw := HB.out.trans (hC.b.mono HB.out.size)
    have hge := HB.out.size
    have hbz := below_setRow hbw (show w.heap.size ≤ g16 by omega) (cs := #[.int .u8 kd, .int .u32 oid, .int .u32 ver, .int .u8 old, .slice B9 l1.length d9, .slice B12 l2.length d12, .slice none 0 0, .int .u8 fl])
    have hbz2 := below_setRow hC.b hB16 (cs := #[.int .u8 kd, .int .u32 oid, .int .u32 ver, .int .u8 old, .slice B9 l1.length d9, .slice B12 l2.length d12, .slice none 0 0, .int .u8 fl])
    have hh := setRow_heap w10 g16 cur #[.int .u8 kd, .int .u32 oid, .int .u32 ver, .int .u8 old, .slice B9 l1.length d9, .slice B12 l2.length d12, .slice none 0 0, .int .u8 fl] 61 (0, 0) q16
    have hzz : (w10.setRow g16 #[.int .u8 kd, .int .u32 oid, .int .u32 ver, .int .u8 old, .slice B9 l1.length d9, .slice B12 l2.length d12, .slice none 0 0, .int .u8 fl]).heap.size = w10.heap.size := size_setRow
    have hx9 := hro9.up (Same.setRow hng9 (cs := #[.int .u8 kd, .int .u32 oid, .int .u32 ver, .int .u8 old, .slice B9 l1.length d9, .slice B12 l2.length d12, .slice none 0 0, .int .u8 fl])) (fun _ h => h)
    have hx12 := hro12.up (Same.setRow hng12 (cs := #[.int .u8 kd, .int .u32 oid, .int .u32 ver, .int .u8 old, .slice B9 l1.length d9, .slice B12 l2.length d12, .slice none 0 0, .int .u8 fl])) (fun _ h => h)
    have hup : ∀ b, Since S W.heap.size w10 b → Since S w.heap.size (w10.setRow g16 #[.int .u8 kd, .int .u32 oid, .int .u32 ver, .int .u8 old, .slice B9 l1.length d9, .slice B12 l2.length d12, .slice none 0 0, .int .u8 fl]) b := fun b h => h.imp id fun ⟨h1, h2⟩ => ⟨by omega, by omega⟩
    have hJ : EvJ KP S 61 56 g16 kd oid ver old fl ⟨l1, B9, d9⟩ ⟨l2, B12, d12⟩ T9 T12 w (w10.setRow g16 #[.int .u8 kd, .int .u32 oid, .int .u32 ver, .int .u8 old, .slice B9 l1.length d9, .slice B12 l2.length d12, .slice none 0 0, .int .u8 fl]) (w10.setRow g16 #[.int .u8 kd, .int .u32 oid, .int .u32 ver, .int .u8 old, .slice B9 l1.length d9, .slice B12 l2.length d12, .slice none 0 0, .int .u8 fl]) (.slice none 0 0) [] :=
      ⟨by omega, by have := row_lt q16; omega, hbz.size, hbz, Nat.le_refl _, hh, OwE.nil, hx9, hx12, fun b hb => ⟨hup b (hsi9 b hb), fun e => hng9 (e ▸ hb)⟩, fun b hb => ⟨hup b (hsi12 b hb), fun e => hng12 (e ▸ hb)⟩, fun _ _ _ => rfl⟩
    have HJ := Lib.hid hJ
    have HZ := Lib.hid (show Below W.heap.size W (w10.setRow g16 #[.int .u8 kd, .int .u32 oid, .int .u32 ver, .int .u8 old, .slice B9 l1.length d9, .slice B12 l2.length d12, .slice none 0 0, .int .u8 fl]) ∧ (∀ b, T9 b → Since S W.heap.size (w10.setRow g16 #[.int .u8 kd, .int .u32 oid, .int .u32 ver, .int .u8 old, .slice B9 l1.length d9, .slice B12 l2.length d12, .slice none 0 0, .int .u8 fl]) b) ∧ ∀ b, T12 b → Since S W.heap.size (w10.setRow g16 #[.int .u8 kd, .int .u32 oid, .int .u32 ver, .int .u8 old, .slice B9 l1.length d9, .slice B12 l2.length d12, .slice none 0 0, .int .u8 fl]) b from ⟨hbz2, fun b h => Since.up (Nat.le_of_eq hzz.symm) b (hsi9 b h), fun b h => Since.up (Nat.le_of_eq hzz.symm) b (hsi12 b h)⟩)
    clear hJ hh hbz hbz2 hbw hx9 hx12 hC hM hO
    show wpList _ _ _ [_] _ _
    refine wpList_store_row rfl 61 _ _ rfl g16 rfl #[.int .u8 kd, .int .u32 oid, .int .u32 ver, .int .u8 old, .slice B9 l1.length d9, .slice B12 l2.length d12, .slice none 0 0, .int .u8 fl] rfl cur 61 q16 (by kernel_rfl) (by rw [hz16]; rfl) ((KE KP).one ⟨kd, ⟨oid, ver⟩, old, ⟨l1, B9, d9⟩, ⟨l2, B12, d12⟩, ⟨[], none, 0⟩, fl⟩) rfl ?_
    generalize w10.setRow g16 #[.int .u8 kd, .int .u32 oid, .int .u32 ver, .int .u8 old, .slice B9 l1.length d9, .slice B12 l2.length d12, .slice none 0 0, .int .u8 fl] = wz at *
    go_wp2
    go_meet
    exact ⟨g16, B9, d9, B12, d12, T9, T12, rfl, HJ, hB16, HZ⟩
  case rest =>
    obtain ⟨g, B9, d9, B12, d12, T9, T12, rfl, HJ, hgW, HZ⟩ := hcut
    obtain ⟨w1, rfl⟩ : ∃ w1 : World, w1 = wc := ⟨_, rfl⟩
    have Q0 := Lib.hid ((HZ.out.1.block _ (row_lt P0.out)).trans P0.out)
    have Q1 := Lib.hid ((HZ.out.1.block _ (row_lt P1.out)).trans P1.out)
    have hX1 := Lib.hid (HXW.out.refs.up (Same.below HZ.out.1 hSW) fun _ h => h : RoAt KF w1 S ⟨l3, A3, c3⟩)
    have hW1 := HZ.out.1.size
    have hSw1 := Lib.hid (fun b (h : S b) => (⟨Nat.lt_of_lt_of_le (hSW b h) hW1, by have := hSW b h; omega⟩ : b < w1.heap.size ∧ b ≠ g))
    have hN9 := Lib.hid (show ¬ T9 (w.heap.size + 1) from fun h => (HZ.out.2.1 _ h).elim (fun h => by have := hS _ h; omega) (fun h => by omega))
    have hN12 := Lib.hid (show ¬ T12 (w.heap.size + 1) from fun h => (HZ.out.2.2 _ h).elim (fun h => by have := hS _ h; omega) (fun h => by omega))
    clear P0 P1 HXW HZ HB HX
    go_wp2
    go_loopw [4] (fun s4 wr => ∃ (j : Nat) (v : Value), j ≤ l3.length ∧ s4 = .int .i64 (j : Int) ∧ Hid (EvJ KP S 61 56 g kd oid ver old fl ⟨l1, B9, d9⟩ ⟨l2, B12, d12⟩ T9 T12 w w1 wr v (l3.take j))) (fun s4 _ => l3.length - (intOf s4).toNat)
    case atStart => exact ⟨0, _, by omega, rfl, HJ⟩
    case round =>
      obtain ⟨j, v, hj, rfl, hJ⟩ := hrel
      clear HJ
      have r0 := (hJ.out.kp _ (row_lt Q0.out) (by omega)).trans Q0.out
      have a6 : wr.cell? ⟨w.heap.size, 6, none⟩ = some (.slice A3 l3.length c3) := cell_of_row _ _ 6 _ 68 (0, 0) r0
      have hle := hJ.out.le
      by_cases hlt : j < l3.length
      · have hd : (j : Int) < (l3.length : Int) := by omega
        obtain ⟨b, off, e0, hSb, hcell⟩ := (hX1.out.up (fun p hp => World.cell?_of_block (hJ.out.kp _ (hSw1.out _ hp).1 (hSw1.out _ hp).2)) (fun _ h => h) : RoAt KF wr S ⟨l3, A3, c3⟩).get hlt
        simp only at e0
        subst e0
        have hcj := hcell j hlt
        have htk : Hid (l3.take (j + 1) = l3.take j ++ [l3[j]]) := List.take_succ_eq_append_getElem hlt
        have htl : (l3.take j).length = j := by rw [List.length_take]; omega
        clear hcell
        generalize l3[j] = x at *
        obtain ⟨ro, rv⟩ := x
        have k0 : wr.cell? ⟨b, off + j * 2, none⟩ = some (.int .u32 ro) := hcj 0 _ rfl
        have k1 : wr.cell? ⟨b, off + j * 2 + 1, none⟩ = some (.int .u32 rv) := hcj 1 _ rfl
        have hbl := (hSw1.out _ hSb).1
        have RO := Lib.hid hJ.out.o; have R0 := Lib.hid r0
        clear hcj r0
        go_wp2_with fail
        refine wp_region_fx_tail 9 (rfF1 w1.heap.size (.agg #[.int .u32 ro, .int .u32 rv]) #[.int .u32 ro, .int .u32 rv]) (by kernel_rfl) (by kernel_rfl) (by kernel_rfl) (by kernel_rfl) ?_
        repeat (first | (refine Mono.wpM_skip rfl ?_) | (refine Mono.wpM_all rfl rfl (fun K hK => ?_); go_simp; refine hK _ ?_; clear hK K))
        refine Mono.wpM_look (v) rfl rfl (fun w6 hc6 _ => ?_) ?_
        · have c0 : w6.cell? ⟨g, 6, none⟩ = some (v) := cell_of_row _ _ 6 _ 61 (0, 0) ((hc6.block _ (row_lt RO.out)).trans RO.out)
          go_simp
        repeat (first | (refine Mono.wpM_skip rfl ?_) | (refine Mono.wpM_all rfl rfl (fun K hK => ?_); go_simp; refine hK _ ?_; clear hK K))
        refine Mono.wpM_look (.slice (some ⟨b, off, none⟩) l3.length c3) rfl rfl (fun w6 hc6 _ => ?_) ?_
        · have c0 : w6.cell? ⟨w.heap.size, 6, none⟩ = some (.slice (some ⟨b, off, none⟩) l3.length c3) := (hc6.cell (row_lt R0.out)).trans a6
          go_simp
        repeat (first | (refine Mono.wpM_skip rfl ?_) | (refine Mono.wpM_all rfl rfl (fun K hK => ?_); go_simp; refine hK _ ?_; clear hK K))
        refine Mono.wpM_look (.agg #[.int .u32 ro, .int .u32 rv]) rfl rfl (fun w6 hc6 _ => ?_) ?_
        · have c0 : w6.cell? ⟨b, off + j * 2, none⟩ = some (.int .u32 ro) := (hc6.cell (Nat.lt_of_lt_of_le hbl hle)).trans k0
          have c1 : w6.cell? ⟨b, off + j * 2 + 1, none⟩ = some (.int .u32 rv) := (hc6.cell (Nat.lt_of_lt_of_le hbl hle)).trans k1
          go_simp
        repeat (first | (refine Mono.wpM_skip rfl ?_) | (refine Mono.wpM_all rfl rfl (fun K hK => ?_); go_simp; refine hK _ ?_; clear hK K))
        refine Mono.wpM_eff rfl rfl (fun w9 hc9 _ => steps_enter (ownRef_any ⟨ro, rv⟩ w9) (by go_simp; first | done | rfl | exact ⟨rfl, rfl⟩) (val_val rfl)) ?_
        rintro v7 ⟨wq, hq⟩
        obtain rfl : v7 = _ := hq
        clear wq
        repeat (first | (refine Mono.wpM_skip rfl ?_) | (refine Mono.wpM_all rfl rfl (fun K hK => ?_); go_simp; refine hK _ ?_; clear hK K))
        refine Mono.wpM_eff rfl rfl (fun w9 hc9 _ => steps_litK rfl (Nat.le_trans hle hc9.size) (by go_simp)) ?_
        rintro v8 ⟨wq, hq⟩
        obtain ⟨g8, rfl, -, -⟩ : ∃ g8, v8 = .slice (some ⟨g8, 0, none⟩) 1 1 ∧ w1.heap.size ≤ g8 ∧ wq.heap[g8]? = some (.cells #[.int .u32 ro, .int .u32 rv] 56 (0, 0)) := hq
        clear wq
        (refine Mono.wpM_norm (fun K hK => ?_); go_simp; refine hK _ ?_; clear hK K)
        refine Mono.wpM_nil fun w10 hc10 hf => ?_
        obtain ⟨g8', e8, hg8', hh8⟩ : ∃ g', Value.slice (some ⟨g8, 0, none⟩) 1 1 = .slice (some ⟨g', 0, none⟩) 1 1 ∧ w1.heap.size ≤ g' ∧ w10.heap[g']? = some (.cells #[.int .u32 ro, .int .u32 rv] 56 (0, 0)) := hf 8
        injection e8 with e8 _ _; injection e8 with e8; injection e8 with e8 _ _
        subst e8
        have hJ10 := Lib.hid (hJ.out.later hS hc10)
        have hown := hJ10.out.own.own
        have hnews := cells_news hh8
        have hz10 := hJ10.out.le
        clear hf
        show wpList _ _ _ [_, _, _] _ _
        refine wpList_append_fresh rfl _ _ 59 rfl w1.heap.size 56 i0 (.agg #[.int .u32 0, .int .u32 0]) 2 8 Try.underlying59 hi hz0 hz1 hz2 rfl (by decide) v (l3.take j).length ((l3.take j).flatMap KF.f) rfl hown ⟨g8, 0, none⟩ 1 1 [.int .u32 ro, .int .u32 rv] rfl rfl hnews (KF.one ⟨ro, rv⟩) (by simp only [maxLen]; omega) (by omega) hz10 ?_
        intro v9 w9 hown9 hg9 hf9
        have hown9' : w9.ownsRow w1.heap.size 56 KF.k v9 (l3.take j ++ [(⟨ro, rv⟩ : Rf)]).length ((l3.take j ++ [(⟨ro, rv⟩ : Rf)]).flatMap KF.f) := by
          rw [List.length_append, List.flatMap_append]; exact hown9
        have hO9 := hJ10.out.own.snoc (b1 := w10.heap.size) trivial (fun b hb => (hSw1.out b hb).1) hz10 (fun b hb => (hJ10.out.own.own.lt b hb).2) hz10 hown9' hg9 hf9
        obtain ⟨A9', c9', rfl, -, -, -⟩ := Rd.of_own hown9
        have hge : ∀ k, v.ownBlock = some k → w1.heap.size ≤ k := fun k hk => (hJ10.out.own.own.lt k hk).1
        have ho9 := (hg9.block g (row_lt hJ10.out.o) (fun e' => by have := hge g e'.symm; have := hJ10.out.gl; omega)).trans hJ10.out.o
        have o9 : w9.cell? ⟨g, 6, none⟩ = some v := cell_of_row _ _ 6 _ 61 (0, 0) ho9
        have f9 : w9.frozen? ⟨g, 6, none⟩ = false := row_free ho9 6
        have hJ9 := hJ10.out.put hS hg9 hO9
        rw [← htk.out, htl] at hJ9
        have HJ9 := Lib.hid hJ9
        clear hown hown9 hown9' hO9 hge ho9 hJ9 hg9 hf9 hnews hh8 hJ10 hJ hc10 k0 k1 a6
        go_wp2
        go_roundw
        case rel => exact ⟨j + 1, _, by omega, by go_num, HJ9⟩
        case measure => simp [intOf]; omega
      · obtain rfl : j = l3.length := by omega
        rw [List.take_length] at hJ
        have q1 := (hJ.out.kp _ (row_lt Q1.out) (by omega)).trans Q1.out
        have hb1 := row_lt Q1.out
        have RO := Lib.hid hJ.out.o
        obtain ⟨A6, c6, rfl, -, -, -⟩ := Rd.of_own hJ.out.own.own
        obtain ⟨A6', c6', e6, he, hb⟩ := hJ.out.ret hS (b2 := w.heap.size + 1) (by omega) hb1 hN9.out hN12.out #[.int .u8 kd, .int .u32 oid, .int .u32 ver, .int .u8 old, .slice B9 l1.length d9, .slice B12 l2.length d12, .slice A6 l3.length c6, .int .u8 fl]
        injection e6 with e6 _ e6'
        subst e6 e6'
        have HE := Lib.hid he; have HB := Lib.hid hb
        have HH := Lib.hid (setRow_heap wr (w.heap.size + 1) _ #[.int .u8 kd, .int .u32 oid, .int .u32 ver, .int .u8 old, .slice B9 l1.length d9, .slice B12 l2.length d12, .slice A6 l3.length c6, .int .u8 fl] 61 (0, 0) q1)
        clear he hb hJ
        go_wp2_with (first | (refine wpList_load_row rfl 61 _ rfl g rfl 61 #[.int .u8 kd, .int .u32 oid, .int .u32 ver, .int .u8 old, .slice B9 l1.length d9, .slice B12 l2.length d12, .slice A6 l3.length c6, .int .u8 fl] (0, 0) _ RO.out Try.underlying61 rfl (by kernel_rfl) ?_) | (refine wpList_store_row rfl 61 _ _ rfl (w.heap.size + 1) rfl #[.int .u8 kd, .int .u32 oid, .int .u32 ver, .int .u8 old, .slice B9 l1.length d9, .slice B12 l2.length d12, .slice A6 l3.length c6, .int .u8 fl] rfl _ 61 q1 (by kernel_rfl) rfl ((KE KP).one ⟨kd, ⟨oid, ver⟩, old, ⟨l1, B9, d9⟩, ⟨l2, B12, d12⟩, ⟨l3, A6, c6⟩, fl⟩) rfl ?_))
        generalize wr.setRow (w.heap.size + 1) #[.int .u8 kd, .int .u32 oid, .int .u32 ver, .int .u8 old, .slice B9 l1.length d9, .slice B12 l2.length d12, .slice A6 l3.length c6, .int .u8 fl] = w9 at *
        exact bodyPost_ret (results_cell_row rfl _ w9 _ 61 _ (0, 0) _ rfl HH.out Try.underlying61 rfl (by kernel_rfl)) rfl ⟨_, rfl, rfl, HE.out, HB.out⟩
end Go.Proofs.Ytaaijgalminafaa
