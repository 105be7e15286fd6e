import Derived.Test.YtaaijgalminafaaCv5
import Derived.Test.YtaaijgalminafaaFt
import Derived.Test.YtaaijgalminafaaSt
/-
  Layer 24: an event of the program as the document's (f24) (printed by gen_cv6.py).
-/
namespace Go.Proofs.Ytaaijgalminafaa
open Go.RowKit Mem
attribute [local go_sem] Mono.pureAt Mono.pureUpon
attribute [local irreducible] Mono.steps Mono.wpM State.acts State.wpM

def backL (S : Nat → Prop) (B : Nat) (b a : List Ce) : List (Nat × Mem.Kind) := [(13, .sup (supRo S B KR b)), (16, .sup (supRo S B KR a)), (20, .box 8 68)]
theorem Try.info64 : (Try.prog.info? 64).map (fun i => (i.zero, i.size, i.bytes)) = some (some (.agg #[.int .u32 0, .int .u32 0]), 2, 8) := by kernel_rfl
def rfF2 (B : Nat) (cs : Array Value) : Nat → Option Fact
  | 15 => some (.litK B 1 cs 64)
  | _ => none
set_option maxRecDepth 100000 in
set_option maxHeartbeats 12800000 in
theorem backEv_any (x : Er) (S : Nat → Prop) (w : World) (hx : ErAt KP w S x) (hS : ∀ b, S b → b < w.heap.size) (hs : x.ev.Sm) : Calls Try.prog 24 #[(KE KP).v x] w (RetEv KR S x.ev w) := by
  obtain ⟨kd, ⟨oid, ver⟩, old, ⟨l1, A1, c1⟩, ⟨l2, A2, c2⟩, ⟨l3, A3, c3⟩, fl⟩ := x
  obtain ⟨hs1, hs2, hs3⟩ := hs
  simp only [Er.ev] at hs1 hs2 hs3
  obtain ⟨i0, hi, hz0, hz1, hz2⟩ := info_parts Try.info64
  have HX := Lib.hid hx; clear hx
  show Calls Try.prog 24 #[.agg #[.int .u8 kd, .int .u32 oid, .int .u32 ver, .int .u8 old, .slice A1 l1.length c1, .slice A2 l2.length c2, .slice A3 l3.length c3, .int .u8 fl]] w (RetEv KR S ⟨kd, ⟨oid, ver⟩, old, l1, l2, l3, fl⟩ w)
  go_enter Try.func24, Try.ntmps24
  go_wp2_with fail
  generalize hW : World.alloc (World.alloc w _) _ = W
  obtain ⟨hb0, p0, p1, hsz⟩ := alloc2 hW
  have HB := Lib.hid hb0; have P0 := Lib.hid p0; have P1 := Lib.hid p1
  have HXW := Lib.hid (HX.out.up (Same.below hb0 hS) (fun _ h => h) : ErAt KP W S _)
  have hSW : ∀ b, S b → b < W.heap.size := fun b h => Nat.lt_of_lt_of_le (hS b h) hb0.size
  clear hW hb0 p0 p1
  go_cut [3] (fun s3 wx => ∃ g B13 d13 B16 d16 T13 T16, s3 = .pointer (some ⟨g, 0, none⟩) ∧ Hid (EvJ KR S 68 64 g kd oid ver old fl ⟨l1, B13, d13⟩ ⟨l2, B16, d16⟩ T13 T16 w wx wx (.slice none 0 0) []) ∧ W.heap.size ≤ g ∧ Hid (Below W.heap.size W wx ∧ (∀ b, T13 b → Since S W.heap.size wx b) ∧ ∀ b, T16 b → Since S W.heap.size wx b))
  case first =>
    refine wp_region_mem_tail 21 (backL S W.heap.size l1 l2) (by kernel_rfl) (by kernel_rfl) (by kernel_rfl) (by kernel_rfl) (by kernel_rfl) (by kernel_rfl) (fun hM hO => ?_)
    repeat (first | (refine State.wpM_skip rfl ?_) | (refine State.wpM_all rfl rfl (fun K hK => ?_); go_simp; refine hK _ ?_; clear hK K))
    refine State.wpM_look (.int .u8 kd) rfl rfl (fun F' w6 hC _ _ => ?_) ?_
    · have c0 : w6.cell? ⟨w.heap.size, 0, none⟩ = some (.int .u8 kd) := cell_of_row _ _ 0 _ 61 (0, 0) ((hC.b.block _ (row_lt P0.out)).trans P0.out)
      go_simp
    repeat (first | (refine State.wpM_skip rfl ?_) | (refine State.wpM_all rfl rfl (fun K hK => ?_); go_simp; refine hK _ ?_; clear hK K))
    refine State.wpM_look (.int .u32 oid) rfl rfl (fun F' w6 hC _ _ => ?_) ?_
    · have c0 : w6.cell? ⟨w.heap.size, 1, none⟩ = some (.int .u32 oid) := cell_of_row _ _ 1 _ 61 (0, 0) ((hC.b.block _ (row_lt P0.out)).trans P0.out)
      go_simp
    repeat (first | (refine State.wpM_skip rfl ?_) | (refine State.wpM_all rfl rfl (fun K hK => ?_); go_simp; refine hK _ ?_; clear hK K))
    refine State.wpM_look (.int .u32 ver) rfl rfl (fun F' w6 hC _ _ => ?_) ?_
    · have c0 : w6.cell? ⟨w.heap.size, 2, none⟩ = some (.int .u32 ver) := cell_of_row _ _ 2 _ 61 (0, 0) ((hC.b.block _ (row_lt P0.out)).trans P0.out)
      go_simp
    repeat (first | (refine State.wpM_skip rfl ?_) | (refine State.wpM_all rfl rfl (fun K hK => ?_); go_simp; refine hK _ ?_; clear hK K))
    refine State.wpM_look (.int .u8 old) rfl rfl (fun F' w6 hC _ _ => ?_) ?_
    · have c0 : w6.cell? ⟨w.heap.size, 3, none⟩ = some (.int .u8 old) := cell_of_row _ _ 3 _ 61 (0, 0) ((hC.b.block _ (row_lt P0.out)).trans P0.out)
      go_simp
    repeat (first | (refine State.wpM_skip rfl ?_) | (refine State.wpM_all rfl rfl (fun K hK => ?_); go_simp; refine hK _ ?_; clear hK K))
    refine State.wpM_look (.slice A1 l1.length c1) rfl rfl (fun F' w6 hC _ _ => ?_) ?_
    · have c0 : w6.cell? ⟨w.heap.size, 4, none⟩ = some (.slice A1 l1.length c1) := cell_of_row _ _ 4 _ 61 (0, 0) ((hC.b.block _ (row_lt P0.out)).trans P0.out)
      go_simp
    repeat (first | (refine State.wpM_skip rfl ?_) | (refine State.wpM_all rfl rfl (fun K hK => ?_); go_simp; refine hK _ ?_; clear hK K))
    refine State.wpM_act rfl rfl (fun F' w5 hC h0 ha hA => ?_) ?_
    · skip
      exact acts_sup hM rfl hC ha (backRow_any ⟨l1, A1, c1⟩ S w5 (HXW.out.bf.up (Same.below hC.b hSW) fun _ h => h) (fun b h => Nat.lt_of_lt_of_le (hSW b h) hC.b.size) hs1) (by go_simp; first | done | rfl | exact ⟨rfl, rfl⟩) (retRo_sup hC.b.size hSW)
    intro v13 ⟨w5, hC5⟩
    obtain ⟨S5, hs, -⟩ := hC5.sup 13 _ rfl v13 (by simp [State.upd])
    obtain ⟨B13, d13, rfl, -, -⟩ : ∃ A c, v13 = .slice A (l1).length c ∧ _ ∧ _ := hs
    clear hC5 w5 S5
    repeat (first | (refine State.wpM_skip rfl ?_) | (refine State.wpM_all rfl rfl (fun K hK => ?_); go_simp; refine hK _ ?_; clear hK K))
    refine State.wpM_look (.slice A2 l2.length c2) rfl rfl (fun F' w6 hC _ _ => ?_) ?_
    · have c0 : w6.cell? ⟨w.heap.size, 5, none⟩ = some (.slice A2 l2.length c2) := cell_of_row _ _ 5 _ 61 (0, 0) ((hC.b.block _ (row_lt P0.out)).trans P0.out)
      go_simp
    repeat (first | (refine State.wpM_skip rfl ?_) | (refine State.wpM_all rfl rfl (fun K hK => ?_); go_simp; refine hK _ ?_; clear hK K))
    refine State.wpM_act rfl rfl (fun F' w5 hC h0 ha hA => ?_) ?_
    · skip
      exact acts_sup hM rfl hC ha (backRow_any ⟨l2, A2, c2⟩ S w5 (HXW.out.af.up (Same.below hC.b hSW) fun _ h => h) (fun b h => Nat.lt_of_lt_of_le (hSW b h) hC.b.size) hs2) (by go_simp; first | done | rfl | exact ⟨rfl, rfl⟩) (retRo_sup hC.b.size hSW)
    intro v16 ⟨w5, hC5⟩
    obtain ⟨S5, hs, -⟩ := hC5.sup 16 _ rfl v16 (by simp [State.upd])
    obtain ⟨B16, d16, rfl, -, -⟩ : ∃ A c, v16 = .slice A (l2).length c ∧ _ ∧ _ := hs
    clear hC5 w5 S5
    repeat (first | (refine State.wpM_skip rfl ?_) | (refine State.wpM_all rfl rfl (fun K hK => ?_); go_simp; refine hK _ ?_; clear hK K))
    refine State.wpM_look (.int .u8 fl) rfl rfl (fun F' w6 hC _ _ => ?_) ?_
    · have c0 : w6.cell? ⟨w.heap.size, 7, none⟩ = some (.int .u8 fl) := cell_of_row _ _ 7 _ 61 (0, 0) ((hC.b.block _ (row_lt P0.out)).trans P0.out)
      go_simp
    repeat (first | (refine State.wpM_skip rfl ?_) | (refine State.wpM_all rfl rfl (fun K hK => ?_); go_simp; refine hK _ ?_; clear hK K))
    refine State.wpM_act rfl rfl (fun F' w hC h0 ha _ => acts_box hM rfl hC h0 ha (cs := #[.int .u8 0, .int .u32 0, .int .u32 0, .int .u8 0, .slice none 0 0, .slice none 0 0, .slice none 0 0, .int .u8 0]) rfl (by go_simp)) ?_
    intro v20 ⟨w5, hC5⟩
    obtain ⟨g20, -, rfl, -⟩ := hC5.box 20 8 68 rfl v20 (by simp [State.upd])
    clear hC5 w5
    (refine State.wpM_norm (fun K hK => ?_); go_simp; refine hK _ ?_; clear hK K)
    refine State.wpM_nil fun w10 hC => ?_
    obtain ⟨z20, cur, ez20, hB20, q20, hz20⟩ := hC.box 20 8 68 rfl (.pointer (some ⟨g20, 0, none⟩)) (by simp [State.upd])
    injection ez20 with ez20; injection ez20 with ez20; injection ez20 with ez20 _ _
    subst ez20
    obtain ⟨T13, hp13, ht13, hn13⟩ := hC.sup 13 _ rfl (.slice B13 (l1).length d13) (by simp [State.upd])
    obtain ⟨A', c', e', hro13, hsi13⟩ : ∃ A c, Value.slice B13 (l1).length d13 = .slice A (l1).length c ∧ RoAt KR w10 T13 ⟨l1, A, c⟩ ∧ ∀ b, T13 b → Since S W.heap.size w10 b := hp13
    injection e' with e1' _ e2'
    subst e1' e2'
    have hng13 : ¬ T13 g20 := hn13 20 8 68 g20 rfl (by simp [State.upd])
    obtain ⟨T16, hp16, ht16, hn16⟩ := hC.sup 16 _ rfl (.slice B16 (l2).length d16) (by simp [State.upd])
    obtain ⟨A', c', e', hro16, hsi16⟩ : ∃ A c, Value.slice B16 (l2).length d16 = .slice A (l2).length c ∧ RoAt KR w10 T16 ⟨l2, A, c⟩ ∧ ∀ b, T16 b → Since S W.heap.size w10 b := hp16
    injection e' with e1' _ e2'
    subst e1' e2'
    have hng16 : ¬ T16 g20 := hn16 20 8 68 g20 rfl (by simp [State.upd])
    have hbw := HB.out.trans (hC.b.mono HB.out.size)
    have hge := HB.out.size
    have hbz := below_setRow hbw (show w.heap.size ≤ g20 by omega) (cs := #[.int .u8 kd, .int .u32 oid, .int .u32 ver, .int .u8 old, .slice B13 l1.length d13, .slice B16 l2.length d16, .slice none 0 0, .int .u8 fl])
    have hbz2 := below_setRow hC.b hB20 (cs := #[.int .u8 kd, .int .u32 oid, .int .u32 ver, .int .u8 old, .slice B13 l1.length d13, .slice B16 l2.length d16, .slice none 0 0, .int .u8 fl])
    have hh := setRow_heap w10 g20 cur #[.int .u8 kd, .int .u32 oid, .int .u32 ver, .int .u8 old, .slice B13 l1.length d13, .slice B16 l2.length d16, .slice none 0 0, .int .u8 fl] 68 (0, 0) q20
    have hzz : (w10.setRow g20 #[.int .u8 kd, .int .u32 oid, .int .u32 ver, .int .u8 old, .slice B13 l1.length d13, .slice B16 l2.length d16, .slice none 0 0, .int .u8 fl]).heap.size = w10.heap.size := size_setRow
    have hx13 := hro13.up (Same.setRow hng13 (cs := #[.int .u8 kd, .int .u32 oid, .int .u32 ver, .int .u8 old, .slice B13 l1.length d13, .slice B16 l2.length d16, .slice none 0 0, .int .u8 fl])) (fun _ h => h)
    have hx16 := hro16.up (Same.setRow hng16 (cs := #[.int .u8 kd, .int .u32 oid, .int .u32 ver, .int .u8 old, .slice B13 l1.length d13, .slice B16 l2.length d16, .slice none 0 0, .int .u8 fl])) (fun _ h => h)
    have hup : ∀ b, Since S W.heap.size w10 b → Since S w.heap.size (w10.setRow g20 #[.int .u8 kd, .int .u32 oid, .int .u32 ver, .int .u8 old, .slice B13 l1.length d13, .slice B16 l2.length d16, .slice none 0 0, .int .u8 fl]) b := fun b h => h.imp id fun ⟨h1, h2⟩ => ⟨by omega, by omega⟩
    have hJ : EvJ KR S 68 64 g20 kd oid ver old fl ⟨l1, B13, d13⟩ ⟨l2, B16, d16⟩ T13 T16 w (w10.setRow g20 #[.int .u8 kd, .int .u32 oid, .int .u32 ver, .int .u8 old, .slice B13 l1.length d13, .slice B16 l2.length d16, .slice none 0 0, .int .u8 fl]) (w10.setRow g20 #[.int .u8 kd, .int .u32 oid, .int .u32 ver, .int .u8 old, .slice B13 l1.length d13, .slice B16 l2.length d16, .slice none 0 0, .int .u8 fl]) (.slice none 0 0) [] :=
      ⟨by omega, by have := row_lt q20; omega, hbz.size, hbz, Nat.le_refl _, hh, OwE.nil, hx13, hx16, fun b hb => ⟨hup b (hsi13 b hb), fun e => hng13 (e ▸ hb)⟩, fun b hb => ⟨hup b (hsi16 b hb), fun e => hng16 (e ▸ hb)⟩, fun _ _ _ => rfl⟩
    have HJ := Lib.hid hJ
    have HZ := Lib.hid (show Below W.heap.size W (w10.setRow g20 #[.int .u8 kd, .int .u32 oid, .int .u32 ver, .int .u8 old, .slice B13 l1.length d13, .slice B16 l2.length d16, .slice none 0 0, .int .u8 fl]) ∧ (∀ b, T13 b → Since S W.heap.size (w10.setRow g20 #[.int .u8 kd, .int .u32 oid, .int .u32 ver, .int .u8 old, .slice B13 l1.length d13, .slice B16 l2.length d16, .slice none 0 0, .int .u8 fl]) b) ∧ ∀ b, T16 b → Since S W.heap.size (w10.setRow g20 #[.int .u8 kd, .int .u32 oid, .int .u32 ver, .int .u8 old, .slice B13 l1.length d13, .slice B16 l2.length d16, .slice none 0 0, .int .u8 fl]) b from ⟨hbz2, fun b h => Since.up (Nat.le_of_eq hzz.symm) b (hsi13 b h), fun b h => Since.up (Nat.le_of_eq hzz.symm) b (hsi16 b h)⟩)
    clear hJ hh hbz hbz2 hbw hx13 hx16 hC hM hO
    show wpList _ _ _ [_] _ _
    refine wpList_store_row rfl 68 _ _ rfl g20 rfl #[.int .u8 kd, .int .u32 oid, .int .u32 ver, .int .u8 old, .slice B13 l1.length d13, .slice B16 l2.length d16, .slice none 0 0, .int .u8 fl] rfl cur 68 q20 (by kernel_rfl) (by rw [hz20]; rfl) ((KE KR).one ⟨kd, ⟨oid, ver⟩, old, ⟨l1, B13, d13⟩, ⟨l2, B16, d16⟩, ⟨[], none, 0⟩, fl⟩) rfl ?_
    generalize w10.setRow g20 #[.int .u8 kd, .int .u32 oid, .int .u32 ver, .int .u8 old, .slice B13 l1.length d13, .slice B16 l2.length d16, .slice none 0 0, .int .u8 fl] = wz at *
    go_wp2
    go_meet
    exact ⟨g20, B13, d13, B16, d16, T13, T16, rfl, HJ, hB20, HZ⟩
  case rest =>
    obtain ⟨g, B13, d13, B16, d16, T13, T16, rfl, HJ, hgW, HZ⟩ := hcut
    obtain ⟨w1, rfl⟩ : ∃ w1 : World, w1 = wc := ⟨_, rfl⟩
    have Q0 := Lib.hid ((HZ.out.1.block _ (row_lt P0.out)).trans P0.out)
    have Q1 := Lib.hid ((HZ.out.1.block _ (row_lt P1.out)).trans P1.out)
    have hX1 := Lib.hid (HXW.out.refs.up (Same.below HZ.out.1 hSW) fun _ h => h : RoAt KF w1 S ⟨l3, A3, c3⟩)
    have hW1 := HZ.out.1.size
    have hSw1 := Lib.hid (fun b (h : S b) => (⟨Nat.lt_of_lt_of_le (hSW b h) hW1, by have := hSW b h; omega⟩ : b < w1.heap.size ∧ b ≠ g))
    have hN9 := Lib.hid (show ¬ T13 (w.heap.size + 1) from fun h => (HZ.out.2.1 _ h).elim (fun h => by have := hS _ h; omega) (fun h => by omega))
    have hN12 := Lib.hid (show ¬ T16 (w.heap.size + 1) from fun h => (HZ.out.2.2 _ h).elim (fun h => by have := hS _ h; omega) (fun h => by omega))
    clear P0 P1 HXW HZ HB HX
    go_wp2
    go_loopw [4] (fun s4 wr => ∃ (j : Nat) (v : Value), j ≤ l3.length ∧ s4 = .int .i64 (j : Int) ∧ Hid (EvJ KR S 68 64 g kd oid ver old fl ⟨l1, B13, d13⟩ ⟨l2, B16, d16⟩ T13 T16 w w1 wr v (l3.take j))) (fun s4 _ => l3.length - (intOf s4).toNat)
    case atStart => exact ⟨0, _, by omega, rfl, HJ⟩
    case round =>
      obtain ⟨j, v, hj, rfl, hJ⟩ := hrel
      clear HJ
      have r0 := (hJ.out.kp _ (row_lt Q0.out) (by omega)).trans Q0.out
      have a6 : wr.cell? ⟨w.heap.size, 6, none⟩ = some (.slice A3 l3.length c3) := cell_of_row _ _ 6 _ 61 (0, 0) r0
      have hle := hJ.out.le
      by_cases hlt : j < l3.length
      · have hd : (j : Int) < (l3.length : Int) := by omega
        obtain ⟨b, off, e0, hSb, hcell⟩ := (hX1.out.up (fun p hp => World.cell?_of_block (hJ.out.kp _ (hSw1.out _ hp).1 (hSw1.out _ hp).2)) (fun _ h => h) : RoAt KF wr S ⟨l3, A3, c3⟩).get hlt
        simp only at e0
        subst e0
        have hcj := hcell j hlt
        have htk : Hid (l3.take (j + 1) = l3.take j ++ [l3[j]]) := List.take_succ_eq_append_getElem hlt
        have htl : (l3.take j).length = j := by rw [List.length_take]; omega
        clear hcell
        generalize l3[j] = x at *
        obtain ⟨ro, rv⟩ := x
        have k0 : wr.cell? ⟨b, off + j * 2, none⟩ = some (.int .u32 ro) := hcj 0 _ rfl
        have k1 : wr.cell? ⟨b, off + j * 2 + 1, none⟩ = some (.int .u32 rv) := hcj 1 _ rfl
        have hbl := (hSw1.out _ hSb).1
        have RO := Lib.hid hJ.out.o; have R0 := Lib.hid r0
        clear hcj r0
        go_wp2_with fail
        refine wp_region_fx_tail 16 (rfF2 w1.heap.size #[.int .u32 ro, .int .u32 rv]) (by kernel_rfl) (by kernel_rfl) (by kernel_rfl) (by kernel_rfl) ?_
        repeat (first | (refine Mono.wpM_skip rfl ?_) | (refine Mono.wpM_all rfl rfl (fun K hK => ?_); go_simp; refine hK _ ?_; clear hK K))
        refine Mono.wpM_look (v) rfl rfl (fun w6 hc6 _ => ?_) ?_
        · have c0 : w6.cell? ⟨g, 6, none⟩ = some (v) := cell_of_row _ _ 6 _ 68 (0, 0) ((hc6.block _ (row_lt RO.out)).trans RO.out)
          go_simp
        repeat (first | (refine Mono.wpM_skip rfl ?_) | (refine Mono.wpM_all rfl rfl (fun K hK => ?_); go_simp; refine hK _ ?_; clear hK K))
        refine Mono.wpM_look (.slice (some ⟨b, off, none⟩) l3.length c3) rfl rfl (fun w6 hc6 _ => ?_) ?_
        · have c0 : w6.cell? ⟨w.heap.size, 6, none⟩ = some (.slice (some ⟨b, off, none⟩) l3.length c3) := (hc6.cell (row_lt R0.out)).trans a6
          go_simp
        repeat (first | (refine Mono.wpM_skip rfl ?_) | (refine Mono.wpM_all rfl rfl (fun K hK => ?_); go_simp; refine hK _ ?_; clear hK K))
        refine Mono.wpM_look (.int .u32 ro) rfl rfl (fun w6 hc6 _ => ?_) ?_
        · have c0 : w6.cell? ⟨b, off + j * 2, none⟩ = some (.int .u32 ro) := (hc6.cell (Nat.lt_of_lt_of_le hbl hle)).trans k0
          go_simp
        repeat (first | (refine Mono.wpM_skip rfl ?_) | (refine Mono.wpM_all rfl rfl (fun K hK => ?_); go_simp; refine hK _ ?_; clear hK K))
        refine Mono.wpM_look (.slice (some ⟨b, off, none⟩) l3.length c3) rfl rfl (fun w6 hc6 _ => ?_) ?_
        · have c0 : w6.cell? ⟨w.heap.size, 6, none⟩ = some (.slice (some ⟨b, off, none⟩) l3.length c3) := (hc6.cell (row_lt R0.out)).trans a6
          go_simp
        repeat (first | (refine Mono.wpM_skip rfl ?_) | (refine Mono.wpM_all rfl rfl (fun K hK => ?_); go_simp; refine hK _ ?_; clear hK K))
        refine Mono.wpM_look (.int .u32 rv) rfl rfl (fun w6 hc6 _ => ?_) ?_
        · have c0 : w6.cell? ⟨b, off + j * 2 + 1, none⟩ = some (.int .u32 rv) := (hc6.cell (Nat.lt_of_lt_of_le hbl hle)).trans k1
          go_simp
        repeat (first | (refine Mono.wpM_skip rfl ?_) | (refine Mono.wpM_all rfl rfl (fun K hK => ?_); go_simp; refine hK _ ?_; clear hK K))
        refine Mono.wpM_eff rfl rfl (fun w9 hc9 _ => steps_litK rfl (Nat.le_trans hle hc9.size) (by go_simp)) ?_
        rintro v15 ⟨wq, hq⟩
        obtain ⟨g8, rfl, -, -⟩ : ∃ g8, v15 = .slice (some ⟨g8, 0, none⟩) 1 1 ∧ w1.heap.size ≤ g8 ∧ wq.heap[g8]? = some (.cells #[.int .u32 ro, .int .u32 rv] 64 (0, 0)) := hq
        clear wq
        (refine Mono.wpM_norm (fun K hK => ?_); go_simp; refine hK _ ?_; clear hK K)
        refine Mono.wpM_nil fun w10 hc10 hf => ?_
        obtain ⟨g8', e8, hg8', hh8⟩ : ∃ g', Value.slice (some ⟨g8, 0, none⟩) 1 1 = .slice (some ⟨g', 0, none⟩) 1 1 ∧ w1.heap.size ≤ g' ∧ w10.heap[g']? = some (.cells #[.int .u32 ro, .int .u32 rv] 64 (0, 0)) := hf 15
        injection e8 with e8 _ _; injection e8 with e8; injection e8 with e8 _ _
        subst e8
        have hJ10 := Lib.hid (hJ.out.later hS hc10)
        have hown := hJ10.out.own.own
        have hnews := cells_news hh8
        have hz10 := hJ10.out.le
        clear hf
        show wpList _ _ _ [_, _, _] _ _
        refine wpList_append_fresh rfl _ _ 66 rfl w1.heap.size 64 i0 (.agg #[.int .u32 0, .int .u32 0]) 2 8 Try.underlying66 hi hz0 hz1 hz2 rfl (by decide) v (l3.take j).length ((l3.take j).flatMap KF.f) rfl hown ⟨g8, 0, none⟩ 1 1 [.int .u32 ro, .int .u32 rv] rfl rfl hnews (KF.one ⟨ro, rv⟩) (by simp only [maxLen]; omega) (by omega) hz10 ?_
        intro v9 w9 hown9 hg9 hf9
        have hown9' : w9.ownsRow w1.heap.size 64 KF.k v9 (l3.take j ++ [(⟨ro, rv⟩ : Rf)]).length ((l3.take j ++ [(⟨ro, rv⟩ : Rf)]).flatMap KF.f) := by
          rw [List.length_append, List.flatMap_append]; exact hown9
        have hO9 := hJ10.out.own.snoc (b1 := w10.heap.size) trivial (fun b hb => (hSw1.out b hb).1) hz10 (fun b hb => (hJ10.out.own.own.lt b hb).2) hz10 hown9' hg9 hf9
        obtain ⟨A9', c9', rfl, -, -, -⟩ := Rd.of_own hown9
        have hge : ∀ k, v.ownBlock = some k → w1.heap.size ≤ k := fun k hk => (hJ10.out.own.own.lt k hk).1
        have ho9 := (hg9.block g (row_lt hJ10.out.o) (fun e' => by have := hge g e'.symm; have := hJ10.out.gl; omega)).trans hJ10.out.o
        have o9 : w9.cell? ⟨g, 6, none⟩ = some v := cell_of_row _ _ 6 _ 68 (0, 0) ho9
        have f9 : w9.frozen? ⟨g, 6, none⟩ = false := row_free ho9 6
        have hJ9 := hJ10.out.put hS hg9 hO9
        rw [← htk.out, htl] at hJ9
        have HJ9 := Lib.hid hJ9
        clear hown hown9 hown9' hO9 hge ho9 hJ9 hg9 hf9 hnews hh8 hJ10 hJ hc10 k0 k1 a6
        go_wp2
        go_roundw
        case rel => exact ⟨j + 1, _, by omega, by go_num, HJ9⟩
        case measure => simp [intOf]; omega
      · obtain rfl : j = l3.length := by omega
        rw [List.take_length] at hJ
        have q1 := (hJ.out.kp _ (row_lt Q1.out) (by omega)).trans Q1.out
        have hb1 := row_lt Q1.out
        have RO := Lib.hid hJ.out.o
        obtain ⟨A6, c6, rfl, -, -, -⟩ := Rd.of_own hJ.out.own.own
        obtain ⟨A6', c6', e6, he, hb⟩ := hJ.out.ret hS (b2 := w.heap.size + 1) (by omega) hb1 hN9.out hN12.out #[.int .u8 kd, .int .u32 oid, .int .u32 ver, .int .u8 old, .slice B13 l1.length d13, .slice B16 l2.length d16, .slice A6 l3.length c6, .int .u8 fl]
        injection e6 with e6 _ e6'
        subst e6 e6'
        have HE := Lib.hid he; have HB := Lib.hid hb
        have HH := Lib.hid (setRow_heap wr (w.heap.size + 1) _ #[.int .u8 kd, .int .u32 oid, .int .u32 ver, .int .u8 old, .slice B13 l1.length d13, .slice B16 l2.length d16, .slice A6 l3.length c6, .int .u8 fl] 68 (0, 0) q1)
        clear he hb hJ
        go_wp2_with (first | (refine wpList_load_row rfl 68 _ rfl g rfl 68 #[.int .u8 kd, .int .u32 oid, .int .u32 ver, .int .u8 old, .slice B13 l1.length d13, .slice B16 l2.length d16, .slice A6 l3.length c6, .int .u8 fl] (0, 0) _ RO.out Try.underlying68 rfl (by kernel_rfl) ?_) | (refine wpList_store_row rfl 68 _ _ rfl (w.heap.size + 1) rfl #[.int .u8 kd, .int .u32 oid, .int .u32 ver, .int .u8 old, .slice B13 l1.length d13, .slice B16 l2.length d16, .slice A6 l3.length c6, .int .u8 fl] rfl _ 68 q1 (by kernel_rfl) rfl ((KE KR).one ⟨kd, ⟨oid, ver⟩, old, ⟨l1, B13, d13⟩, ⟨l2, B16, d16⟩, ⟨l3, A6, c6⟩, fl⟩) rfl ?_))
        generalize wr.setRow (w.heap.size + 1) #[.int .u8 kd, .int .u32 oid, .int .u32 ver, .int .u8 old, .slice B13 l1.length d13, .slice B16 l2.length d16, .slice A6 l3.length c6, .int .u8 fl] = w9 at *
        exact bodyPost_ret (results_cell_row rfl _ w9 _ 68 _ (0, 0) _ rfl HH.out Try.underlying68 rfl (by kernel_rfl)) rfl ⟨_, rfl, rfl, HE.out, HB.out⟩
end Go.Proofs.Ytaaijgalminafaa
/-
  Layer 24: a transaction is made, its events one by one.
-/
namespace Go.Proofs.Ytaaijgalminafaa
open Go.RowKit

/-- An event, out of S and what is new since B. -/
def Fact.ev (K : Kd Ce) (S : Nat → Prop) (B : Nat) (hS : ∀ b, S b → b < B) (x : Ev) : Fact := ⟨fun v w => ∃ y : Er, y.ev = x ∧ v = (KE K).v y ∧ B ≤ w.heap.size ∧ ErAt K w (Since S B w) y,
  fun _ _ _ ⟨y, h0, h1, h2, h3⟩ hb => ⟨y, h0, h1, Nat.le_trans h2 hb.size, h3.up (Same.below hb (Since.lt fun b h => Nat.lt_of_lt_of_le (hS b h) h2)) (Since.up hb.size)⟩⟩
/-- A slice of one event, a block of the call's own. -/
def Fact.evLit (K : Kd Ce) (S : Nat → Prop) (B : Nat) (hS : ∀ b, S b → b < B) (x : Ev) (t : TypeId) : Fact := ⟨fun v w => ∃ (y : Er) (g : Nat), y.ev = x ∧ v = .slice (some ⟨g, 0, none⟩) 1 1 ∧ B ≤ g ∧ B ≤ w.heap.size ∧ w.heap[g]? = some (.cells (Er.c y).toArray t (0, 0)) ∧ ErAt K w (Since S B w) y,
  fun _ _ _ ⟨y, g, h0, h1, h2, h3, h4, h5⟩ hb => ⟨y, g, h0, h1, h2, Nat.le_trans h3 hb.size, (hb.block g (row_lt h4)).trans h4, h5.up (Same.below hb (Since.lt fun b h => Nat.lt_of_lt_of_le (hS b h) h3)) (Since.up hb.size)⟩⟩
theorem ev_val {K : Kd Ce} {S : Nat → Prop} {B : Nat} {hS : ∀ b, S b → b < B} {x : Ev} {f : Nat → Option Fact} {k : Nat} {w : World} (hw : B ≤ w.heap.size) (hf : f k = some (.ev K S B hS x)) : ∀ e w', RetEv K S x w e w' → ∃ u, e = .returned u ∧ Ext w w' ∧ fxR f k u w' := by
  rintro e w' ⟨y, h0, rfl, h3, h4⟩
  refine ⟨_, rfl, h4, ?_⟩
  unfold fxR; rw [hf]
  exact ⟨y, h0, rfl, Nat.le_trans hw h4.size, h3.up (Same.refl _ _) fun b h => h.imp id fun ⟨h1, h2⟩ => ⟨Nat.le_trans hw h1, h2⟩⟩
theorem Er.c_inj {x y : Er} {K : Kd Ce} (h : (KE K).v x = (KE K).v y) : Er.c x = Er.c y := by
  have := congrArg (fun v => match v with | .agg cs => cs.toList | _ => []) h
  simpa [Kd.v, KE] using this
/-- What stands while events are added: all but block g is as in w1; g holds the transaction to be. -/
structure TxJ (K : Kd Ce) (S : Nat → Prop) (ty e : TypeId) (g : Nat) (xid stp : Int) (w1 wr : World) (v : Value) (l : List Er) : Prop where
  gl : g < w1.heap.size
  gr : w1.grownBy wr (some g)
  o : wr.heap[g]? = some (.cells #[.int .u32 xid, .int .u64 stp, v] ty (0, 0))
  own : OwE (KE K) S w1.heap.size e wr v l
section
variable {K : Kd Ce} {S : Nat → Prop} {ty e : TypeId} {g : Nat} {xid stp : Int} {w1 wr w' : World} {v v' : Value} {l l' : List Er}
theorem TxJ.later (h : TxJ K S ty e g xid stp w1 wr v l) (hS : ∀ b, S b → b < w1.heap.size) (hb : Below wr.heap.size wr w') : TxJ K S ty e g xid stp w1 w' v l :=
  ⟨h.gl, grown_trans h.gr ⟨hb.os, hb.tape, hb.output, hb.size, fun k hk _ => hb.block k hk⟩, (hb.block g (row_lt h.o)).trans h.o, h.own.up hb fun b hb' => Nat.lt_of_lt_of_le (hS b hb') h.gr.size⟩
theorem TxJ.put (h : TxJ K S ty e g xid stp w1 wr v l) (hS : ∀ b, S b → b ≠ g) (hg : wr.grownBy w' v.ownBlock) (hown : OwE (KE K) S w1.heap.size e w' v' l') : TxJ K S ty e g xid stp w1 (w'.setCell ⟨g, 2, none⟩ v') v' l' := by
  have hge : ∀ k, v.ownBlock = some k → w1.heap.size ≤ k := fun k hk => (h.own.own.lt k hk).1
  refine ⟨h.gl, ⟨hg.os.trans h.gr.os, hg.tape.trans h.gr.tape, hg.output.trans h.gr.output, Nat.le_trans h.gr.size (by simpa [World.setCell] using hg.size), fun k hk hne => ?_⟩, ?_, hown.setCell h.gl hS 2 v'⟩
  · refine (RowKit.Below.heap_setCell w' _ _ k (fun e' => hne (by rw [e']))).trans ((hg.block k (Nat.lt_of_lt_of_le hk h.gr.size) (fun e' => ?_)).trans (h.gr.block k hk hne))
    have := hge k e'.symm; omega
  · refine row_set ((hg.block g (row_lt h.o) (fun e' => ?_)).trans h.o) 2 v'
    have := hge g e'.symm; have := h.gl; omega
theorem TxJ.below {w0 : World} {B : Nat} (h : TxJ K S ty e g xid stp w1 wr v l) (hb : Below B w0 w1) (hg : B ≤ g) (hB : B ≤ w1.heap.size) : Below B w0 wr := hb.grown h.gr hB fun k hk => by injection hk with hk; omega
theorem TxJ.ro (h : TxJ K S ty e g xid stp w1 wr v l) : ∃ A c, v = .slice A l.length c ∧ RoAt (KE K) wr (Since S w1.heap.size wr) ⟨l, A, c⟩ := by
  obtain ⟨S', h1, h2, _⟩ := h.own.el
  exact (⟨h.own.own, fun a ha => (KE K).up (h1 a ha) (Same.refl _ _) h2⟩ : OwAt (KE K) w1.heap.size e wr (Since S w1.heap.size wr) v l).ro (fun b h4 h5 => .inr ⟨h4, h5⟩)
end
/-- A call returned transactions, out of S and what is new. -/
def RetTxs (K : Kd Ce) (S : Nat → Prop) (txs : List Tx) (w : World) (e : Ending) (w' : World) : Prop := ∃ ys : List Tr, ys.map Tr.tx = txs ∧ RetRo (KT K) S ys w e w'
/-- Small enough to be walked. -/
structure Tx.Sm (t : Tx) : Prop where
  n : t.evs.length ≤ 1000
  ev : ∀ e ∈ t.evs, e.Sm
end Go.Proofs.Ytaaijgalminafaa
