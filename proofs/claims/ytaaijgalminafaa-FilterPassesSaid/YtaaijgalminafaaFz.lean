import Derived.Deep.DeepCutAuto
import Derived.Test.YtaaijgalminafaaFy
/-
  Layer 24: FilterPasses (f5): what passes is what the reference passes (printed by gen_fz.py).
-/
namespace Go.Proofs.Ytaaijgalminafaa
open Go.RowKit State Mem
attribute [local go_sem] Mono.pureAt Mono.pureUpon
attribute [local irreducible] Mono.steps Mono.wpM State.acts State.wpM

def fzF4 (x : Bool) : Nat → Option Fact
  | 2 => some (.val (.bool x))
  | 5 => some (.val (.bool x))
  | _ => none
def fzF20 (a b : List Tx) : Nat → Option Fact
  | 2 => some (.txs KP b)
  | 3 => some (.txs KR b)
  | 6 => some (.txs KR b)
  | 7 => some (.val (.bool true))
  | 10 => some (.txs KR a)
  | 12 => some (.val (.bool true))
  | 15 => some (.val (.bool true))
  | _ => none
theorem passRV (f : Fl) (A0 : Option Addr) (c0 : Nat) (r : Ro Tr) (w : World) (hF : FlAt w w.heap.size f A0 c0) (hk0 : 0 ≤ f.kinds) (hk1 : f.kinds < 256) (hlf : f.oids.length ≤ 1000000) (hR : RoAt (KT KR) w (Lt w.heap.size) r) (hok : TxsOk (r.l.map Tr.tx)) :
    Calls Try.prog 18 #[f.v A0 c0, r.v] w (RetTv KR ((r.l.map Tr.tx).filterMap (txP f)) w) :=
  (passR_any f A0 c0 r _ w hF hk0 hk1 hlf hR lt_lt (by have := hok.n; simpa using this) (fun t ht => hok.ok _ (List.mem_map.2 ⟨t, ht, rfl⟩))).mono (RetTxs.tv lt_lt)
set_option maxRecDepth 100000 in
set_option maxHeartbeats 12800000 in
theorem filterPasses_walk (x : Fl) (r : Ro Tr) (o : Int) (A : Option Addr) (c : Nat) (w : World) (hX : FlAt w w.heap.size x A c) (hox : FlOk x) (hR : RoAt (KT KR) w (Lt w.heap.size) r) (hin : ∀ t ∈ r.l, t.In) :
    Calls Try.prog 5 #[x.v A c, r.v, .int .u32 o] w (RetB true w) := by
  obtain ⟨ti46, i46, -, -, -⟩ := info_parts Try.info46
  obtain ⟨ti61, i61, -, -, -⟩ := info_parts Try.info61
  obtain ⟨ti68, i68, -, -, -⟩ := info_parts Try.info68
  obtain ⟨al, xs, kx, ex⟩ := x
  obtain ⟨l, C, e⟩ := r
  have HX := Lib.hid hX; have HR := Lib.hid hR; have OX := Lib.hid hox; have HIN := Lib.hid hin
  clear hX hR hox hin
  show Calls Try.prog 5 #[.agg #[.bool al, .slice A xs.length c, .int .u8 kx, .bool ex], .slice C l.length e, .int .u32 o] w _
  go_enter Try.func5, Try.ntmps5
  by_cases h1 : 60 < xs.length
  · have h11 : (60 : Int) < (xs.length : Int) := by omega
    go_wp2
    go_ret
    exact ⟨rfl, (Below.refl _ w).alloc (Nat.le_refl _) _⟩
  have h11 : ¬ (60 : Int) < (xs.length : Int) := by omega
  go_wp2_with fail
  generalize hW : World.alloc w _ = W
  have hb0 : Below w.heap.size w W := by rw [← hW]; exact (Below.refl _ w).alloc (Nat.le_refl _) _
  have p0 : W.heap[w.heap.size]? = some (.cells #[.bool al, .slice A xs.length c, .int .u8 kx, .bool ex] 24 (0, 0)) := by rw [← hW]; exact heap_alloc_new w _
  have HRW := Lib.hid (HR.out.up (Same.below hb0 lt_lt) (fun b h => Nat.lt_of_lt_of_le h hb0.size) : RoAt (KT KR) W (Lt W.heap.size) ⟨l, C, e⟩)
  refine (great_any ⟨l, C, e⟩ (Lt W.heap.size) W HRW.out lt_lt (fun t ht => (HIN.out t ht).n)).mono ?_
  rintro e' w3 ⟨g, rfl, hb3, hg⟩
  have HB := Lib.hid (hb0.trans (hb3.mono hb0.size))
  cases g
  · skip
    have P0 := Lib.hid ((hb3.block _ (row_lt p0)).trans p0)
    have hx2 := Lib.hid ((HX.out.up hb0 (Nat.le_refl _) hb0.size).ext hb3)
    have HR3 := Lib.hid (HRW.out.up (Same.below hb3 lt_lt) (fun b h => Nat.lt_of_lt_of_le h hb3.size) : RoAt (KT KR) w3 (Lt w3.heap.size) ⟨l, C, e⟩)
    have HOK := Lib.hid (show TxsOk (l.map Tr.tx) from (hg rfl).ok HIN.out)
    clear hW hb0 p0 hb3 hg HRW HX HR HIN
    have a0 : w3.cell? ⟨w.heap.size, 0, none⟩ = some (.bool al) := cell_of_row _ _ 0 _ 24 (0, 0) P0.out
    have a1 : w3.cell? ⟨w.heap.size, 1, none⟩ = some (.slice A xs.length c) := cell_of_row _ _ 1 _ 24 (0, 0) P0.out
    have a2 : w3.cell? ⟨w.heap.size, 2, none⟩ = some (.int .u8 kx) := cell_of_row _ _ 2 _ 24 (0, 0) P0.out
    have a3 : w3.cell? ⟨w.heap.size, 3, none⟩ = some (.bool ex) := cell_of_row _ _ 3 _ 24 (0, 0) P0.out
    have fza : ∀ i, w3.frozen? ⟨w.heap.size, i, none⟩ = false := fun i => row_free P0.out i
    clear fza
    go_wp2_with fail
    refine (own_any ⟨al, xs, kx, ex⟩ A c w3 hx2.out (by simp only; omega)).mono ?_
    rintro e' w4 ⟨u, rfl, hown, hb4⟩
    obtain ⟨A1, c1, rfl, hf4⟩ := FlAt.of_own (f := ⟨al, xs, kx, ex⟩) hown
    have HF4 := Lib.hid hf4; have HX4 := Lib.hid (hx2.out.ext hb4)
    have HR4 := Lib.hid (HR3.out.up (Same.below hb4 lt_lt) (fun b h => Nat.lt_of_lt_of_le h hb4.size) : RoAt (KT KR) w4 (Lt w4.heap.size) ⟨l, C, e⟩)
    have HB4 := Lib.hid (HB.out.trans (hb4.mono HB.out.size))
    have P4 := Lib.hid ((hb4.block _ (row_lt P0.out)).trans P0.out)
    clear hown hf4 hb4 hx2 HR3 HB P0 a0 a1 a2 a3
    unfold Fl.cells
    go_wp2_with fail
    refine (txsV ⟨l, C, e⟩ w4 HR4.out HOK.out).mono ?_
    rintro e' w5 ⟨v8, rfl, ht8, hb5⟩
    obtain ⟨ys, Ay, cy, rfl, hys, hry⟩ := ht8
    have ht8 : TxsAt KP w5 (.slice Ay ys.length cy) (l.map Tr.tx) := ⟨ys, Ay, cy, rfl, hys, hry⟩
    have HYS := Lib.hid hys
    clear hys hry
    have q7 := heap_alloc_new w5 (.cells #[.bool false, .slice none 0 0, .int .u8 0, .bool false] 28)
    have hh7 := setRow_heap (w5.alloc (.cells #[.bool false, .slice none 0 0, .int .u8 0, .bool false] 28)) w5.heap.size _ #[.bool al, .slice A1 xs.length c1, .int .u8 kx, .bool ex] 28 (0, 0) q7
    have hb7 := below_setRow (cs := #[.bool al, .slice A1 xs.length c1, .int .u8 kx, .bool ex]) ((Below.refl _ w5).alloc (Nat.le_refl _) (.cells #[.bool false, .slice none 0 0, .int .u8 0, .bool false] 28)) (Nat.le_refl _)
    go_upto_region 4 with (refine wpList_store_row rfl 28 _ _ rfl w5.heap.size rfl #[.bool al, .slice A1 xs.length c1, .int .u8 kx, .bool ex] rfl _ 28 q7 (by kernel_rfl) rfl (cells_one4 rfl) rfl ?_)
    generalize World.setRow _ _ _ = w6 at *
    obtain ⟨g7, hg7⟩ : ∃ g7, w5.heap.size = g7 := ⟨_, rfl⟩
    have h46 : Below w4.heap.size w4 w6 := hb5.trans (hb7.mono hb5.size)
    have HB6 := Lib.hid (HB4.out.trans (h46.mono HB4.out.size))
    have P6 := Lib.hid ((h46.block _ (row_lt P4.out)).trans P4.out)
    have HF6 := Lib.hid ((HX4.out).ext h46)
    have HR6 := Lib.hid (HR4.out.up (Same.below h46 lt_lt) (fun b h => Nat.lt_of_lt_of_le h h46.size) : RoAt (KT KR) w6 (Lt w6.heap.size) ⟨l, C, e⟩)
    have HT6 := Lib.hid (ht8.up hb7)
    have hbx : Bx w6 ⟨al, xs, kx, ex⟩ w5.heap.size A1 c1 := ⟨hh7, HF4.out.ext h46⟩
    rw [hg7] at hbx ⊢
    have HBX := Lib.hid hbx
    clear q7 hh7 hb7 h46 hb5 ht8 hbx hg7 HF4 HR4 HX4 HB4 P4
    obtain ⟨ox, hox⟩ : ∃ b, Fl.oid ⟨al, xs, kx, ex⟩ o = b := ⟨_, rfl⟩
    have HOX := Lib.hid hox
    clear hox
    go_cut [36] (fun s36 wx => s36 = .bool false ∧ Hid (Below w6.heap.size w6 wx))
    case first =>
      refine wp_region_fx (fzF4 ox) (by kernel_rfl) (by kernel_rfl) ?_
      repeat (first | (refine Mono.wpM_skip rfl ?_) | (refine Mono.wpM_all rfl rfl (fun K hK => ?_); go_simp; refine hK _ ?_; clear hK K))
      refine Mono.wpM_look (.agg #[.bool al, .slice A1 xs.length c1, .int .u8 kx, .bool ex]) rfl rfl (fun w6 hc6 _ => ?_) ?_
      · have hcl0 : w6.cell? ⟨g7, 0, none⟩ = some (.bool al) := cell_of_row _ _ 0 _ 28 (0, 0) ((hc6.block _ (row_lt HBX.out.o)).trans HBX.out.o)
        have hcl1 : w6.cell? ⟨g7, 1, none⟩ = some (.slice A1 xs.length c1) := cell_of_row _ _ 1 _ 28 (0, 0) ((hc6.block _ (row_lt HBX.out.o)).trans HBX.out.o)
        have hcl2 : w6.cell? ⟨g7, 2, none⟩ = some (.int .u8 kx) := cell_of_row _ _ 2 _ 28 (0, 0) ((hc6.block _ (row_lt HBX.out.o)).trans HBX.out.o)
        have hcl3 : w6.cell? ⟨g7, 3, none⟩ = some (.bool ex) := cell_of_row _ _ 3 _ 28 (0, 0) ((hc6.block _ (row_lt HBX.out.o)).trans HBX.out.o)
        go_simp
      repeat (first | (refine Mono.wpM_skip rfl ?_) | (refine Mono.wpM_all rfl rfl (fun K hK => ?_); go_simp; refine hK _ ?_; clear hK K))
      refine Mono.wpM_eff rfl rfl (fun w9 hc9 _ => steps_enter (oid_any ⟨al, xs, kx, ex⟩ A1 c1 o w9 (HBX.out.f.ext hc9) (by simp only; omega)) (by go_simp; first | done | rfl | exact ⟨rfl, rfl⟩) (bool_val HOX rfl)) ?_
      rintro v2 ⟨wq, hq⟩
      obtain rfl : v2 = _ := hq
      clear wq
      repeat (first | (refine Mono.wpM_skip rfl ?_) | (refine Mono.wpM_all rfl rfl (fun K hK => ?_); go_simp; refine hK _ ?_; clear hK K))
      refine Mono.wpM_look (.agg #[.bool al, .slice A xs.length c, .int .u8 kx, .bool ex]) rfl rfl (fun w6 hc6 _ => ?_) ?_
      · have hcl0 : w6.cell? ⟨w.heap.size, 0, none⟩ = some (.bool al) := cell_of_row _ _ 0 _ 24 (0, 0) ((hc6.block _ (row_lt P6.out)).trans P6.out)
        have hcl1 : w6.cell? ⟨w.heap.size, 1, none⟩ = some (.slice A xs.length c) := cell_of_row _ _ 1 _ 24 (0, 0) ((hc6.block _ (row_lt P6.out)).trans P6.out)
        have hcl2 : w6.cell? ⟨w.heap.size, 2, none⟩ = some (.int .u8 kx) := cell_of_row _ _ 2 _ 24 (0, 0) ((hc6.block _ (row_lt P6.out)).trans P6.out)
        have hcl3 : w6.cell? ⟨w.heap.size, 3, none⟩ = some (.bool ex) := cell_of_row _ _ 3 _ 24 (0, 0) ((hc6.block _ (row_lt P6.out)).trans P6.out)
        go_simp
      repeat (first | (refine Mono.wpM_skip rfl ?_) | (refine Mono.wpM_all rfl rfl (fun K hK => ?_); go_simp; refine hK _ ?_; clear hK K))
      refine Mono.wpM_eff rfl rfl (fun w9 hc9 _ => steps_enter (oidR_any ⟨al, xs, kx, ex⟩ A c o w9 (HF6.out.ext hc9) (by simp only; omega)) (by go_simp; first | done | rfl | exact ⟨rfl, rfl⟩) (bool_val HOX rfl)) ?_
      rintro v5 ⟨wq, hq⟩
      obtain rfl : v5 = _ := hq
      clear wq
      repeat (first | (refine Mono.wpM_skip rfl ?_) | (refine Mono.wpM_all rfl rfl (fun K hK => ?_); go_simp; refine hK _ ?_; clear hK K))
      refine Mono.wpM_nil fun w10 hc10 _ => ?_
      go_wp2
      go_meet
      exact ⟨by simp, hc10⟩
    case rest =>
      obtain ⟨rfl, hb8⟩ := hcut
      obtain ⟨w8, rfl⟩ : ∃ w8 : World, w8 = wc := ⟨_, rfl⟩
      have HB8 := Lib.hid (HB6.out.trans (hb8.out.mono HB6.out.size))
      have P8 := Lib.hid ((hb8.out.block _ (row_lt P6.out)).trans P6.out)
      have HF8 := Lib.hid (HF6.out.ext hb8.out)
      have HR8 := Lib.hid (HR6.out.up (Same.below hb8.out lt_lt) (fun b h => Nat.lt_of_lt_of_le h hb8.out.size) : RoAt (KT KR) w8 (Lt w8.heap.size) ⟨l, C, e⟩)
      have HT8 := Lib.hid (HT6.out.up hb8.out)
      have HX8 := Lib.hid (HBX.out.up hb8.out)
      clear HB6 P6 HF6 HR6 HT6 HBX hb8
      have HK1 := Lib.hid (HOK.out.pass ⟨al, xs, kx, ex⟩)
      have hln : l.length ≤ 1000 := by have := HOK.out.n; simpa using this
      go_wp2_with fail
      go_loopw [9] (fun s9 wr => ∃ j : Nat, j ≤ l.length ∧ s9 = .int .i64 (j : Int) ∧ Hid (Below w8.heap.size w8 wr)) (fun s9 _ => l.length - (intOf s9).toNat)
      case atStart => exact ⟨0, by omega, rfl, Below.refl _ _⟩
      case round =>
        obtain ⟨j, hj, rfl, hb⟩ := hrel
        have hle := hb.out.size
        have HBr := Lib.hid (HB8.out.trans (hb.out.mono HB8.out.size))
        have PR := Lib.hid ((hb.out.block _ (row_lt P8.out)).trans P8.out)
        have HFr := Lib.hid (HF8.out.ext hb.out)
        have HRr := Lib.hid (HR8.out.up (Same.below hb.out lt_lt) (fun b h => Nat.lt_of_lt_of_le h hb.out.size) : RoAt (KT KR) wr (Lt wr.heap.size) ⟨l, C, e⟩)
        have HTr := Lib.hid (HT8.out.up hb.out)
        have HXr := Lib.hid (HX8.out.up hb.out)
        by_cases hlt : j < l.length
        · have hd : (j : Int) < (l.length : Int) := by omega
          have hyl : ys.length = l.length := by have := congrArg List.length HYS.out; simpa using this
          have hlty : j < ys.length := by omega
          obtain ⟨ys', Ay', cy', e8, hys', hry⟩ := HTr.out
          have e8' : Ay = Ay' ∧ ys.length = ys'.length ∧ cy = cy' := by injection e8 with e1 e2 e3; exact ⟨e1, e2, e3⟩
          obtain ⟨rfl, hyn, rfl⟩ := e8'
          have hd2 : (j : Int) < (ys.length : Int) := by omega
          obtain ⟨by_, oy, e9, hSy, hcelly⟩ := hry.get (j := j) (show j < ys'.length by omega)
          simp only at e9
          subst e9
          have hcy := hcelly j (show j < ys'.length by omega)
          obtain ⟨bz, oz, e9, hSz, hcellz⟩ := HRr.out.get (j := j) hlt
          simp only at e9
          subst e9
          have hcz := hcellz j hlt
          have hey := hry.el _ (List.getElem_mem (show j < ys'.length by omega)); have hez := HRr.out.el _ (List.getElem_mem hlt)
          have hokj := HOK.out.ok (l[j]).tx (List.mem_map.2 ⟨_, List.getElem_mem hlt, rfl⟩)
          have hxz : Hid ((ys'[j]'(by omega)).tx = (l[j]).tx) := by
            have h1 : (ys'.map Tr.tx)[j]? = (l.map Tr.tx)[j]? := by rw [hys']
            rw [List.getElem?_map, List.getElem?_map, List.getElem?_eq_getElem hlt, List.getElem?_eq_getElem (show j < ys'.length by omega)] at h1
            show _ = _
            simpa using h1
          have hlz : e - j ≤ maxLen := Nat.le_trans (Nat.sub_le _ _) HRr.out.cm
          have hlc : l.length ≤ e := HRr.out.le
          have HPZ := Lib.hid (RoAt.part HRr.out hlt)
          have hblz : bz < wr.heap.size := hSz
          have hbly : by_ < wr.heap.size := hSy
          clear hcelly hcellz
          generalize ys'[j]'(by omega) = x at *
          generalize l[j] = z at *
          obtain ⟨xid, stp, ⟨vs, Av, cv⟩⟩ := x
          obtain ⟨zid, ztp, ⟨us, Bu, cu⟩⟩ := z
          have hxz2 := hxz.out
          simp only [Tr.tx, Tx.mk.injEq] at hxz2
          obtain ⟨rfl, rfl, hev2⟩ := hxz2
          have HEVS := Lib.hid hev2
          have y0 : wr.cell? ⟨by_, oy + j * 3, none⟩ = some (.int .u32 xid) := hcy 0 _ rfl
          have y1 : wr.cell? ⟨by_, oy + j * 3 + 1, none⟩ = some (.int .u64 stp) := hcy 1 _ rfl
          have y2 : wr.cell? ⟨by_, oy + j * 3 + 2, none⟩ = some (.slice Av vs.length cv) := hcy 2 _ rfl
          have Y2 := Lib.hid y2
          have Z2 := Lib.hid (show wr.cell? ⟨bz, oz + j * 3 + 2, none⟩ = some (.slice Bu us.length cu) from hcz 2 _ rfl)
          have HEY := Lib.hid (hey : RoAt (KE KP) wr (Lt wr.heap.size) ⟨vs, Av, cv⟩)
          have HEZ := Lib.hid (hez : RoAt (KE KR) wr (Lt wr.heap.size) ⟨us, Bu, cu⟩)
          have HOJ := Lib.hid (show (Tr.tx ⟨xid, stp, ⟨vs, Av, cv⟩⟩).Ok by rw [hxz.out]; exact hokj)
          have HB0 := hb
          clear hcy hcz hey hez hokj hb hev2 hry hys' HYS hyl hyn hlty e8
          obtain ⟨th, hth⟩ : ∃ t, (txR ⟨al, xs, kx, ex⟩ (Tr.tx ⟨xid, stp, ⟨vs, Av, cv⟩⟩)).1 = t := ⟨_, rfl⟩
          obtain ⟨bh, hbh⟩ : ∃ t, (txR ⟨al, xs, kx, ex⟩ (Tr.tx ⟨xid, stp, ⟨vs, Av, cv⟩⟩)).2 = t := ⟨_, rfl⟩
          have HTH := Lib.hid hth; have HBH := Lib.hid hbh
          clear hth hbh
          go_wp2_with fail
          go_cut [10, 11] (fun s10 s11 wx => ∃ (y : Tr) (g10 : Nat), s10 = .pointer (some ⟨g10, 0, none⟩) ∧ s11 = .bool bh ∧ Hid (y.tx = th) ∧ Hid (Below wr.heap.size wr wx ∧ wr.heap.size ≤ g10 ∧ wx.heap[g10]? = some (.cells (Tr.c y).toArray 46 (0, 0)) ∧ (KT KP).at_ wx (Lt wx.heap.size) y))
          case first =>
            refine wp_region_mem (okT wr.heap.size th bh) (by kernel_rfl) (by kernel_rfl) (by kernel_rfl) (by kernel_rfl) (fun hM hO => ?_)
            repeat (first | (refine State.wpM_skip rfl ?_) | (refine State.wpM_all rfl rfl (fun K hK => ?_); go_simp; refine hK _ ?_; clear hK K))
            refine State.wpM_look (.agg #[.bool al, .slice A1 xs.length c1, .int .u8 kx, .bool ex]) rfl rfl (fun F' w6 hC _ _ => ?_) ?_
            · have q0 : w6.cell? ⟨g7, 0, none⟩ = some (.bool al) := cell_of_row _ _ 0 _ 28 (0, 0) ((hC.b.block _ (row_lt HXr.out.o)).trans HXr.out.o)
              have q1 : w6.cell? ⟨g7, 1, none⟩ = some (.slice A1 xs.length c1) := cell_of_row _ _ 1 _ 28 (0, 0) ((hC.b.block _ (row_lt HXr.out.o)).trans HXr.out.o)
              have q2 : w6.cell? ⟨g7, 2, none⟩ = some (.int .u8 kx) := cell_of_row _ _ 2 _ 28 (0, 0) ((hC.b.block _ (row_lt HXr.out.o)).trans HXr.out.o)
              have q3 : w6.cell? ⟨g7, 3, none⟩ = some (.bool ex) := cell_of_row _ _ 3 _ 28 (0, 0) ((hC.b.block _ (row_lt HXr.out.o)).trans HXr.out.o)
              go_simp
            repeat (first | (refine State.wpM_skip rfl ?_) | (refine State.wpM_all rfl rfl (fun K hK => ?_); go_simp; refine hK _ ?_; clear hK K))
            refine State.wpM_look (.agg #[.int .u32 xid, .int .u64 stp, .slice Av vs.length cv]) rfl rfl (fun F' w6 hC _ _ => ?_) ?_
            · have q0 : w6.cell? ⟨by_, oy + j * 3, none⟩ = some (.int .u32 xid) := (hC.b.cell hbly).trans y0
              have q1 : w6.cell? ⟨by_, oy + j * 3 + 1, none⟩ = some (.int .u64 stp) := (hC.b.cell hbly).trans y1
              have q2 : w6.cell? ⟨by_, oy + j * 3 + 2, none⟩ = some (.slice Av vs.length cv) := (hC.b.cell hbly).trans y2
              go_simp
            repeat (first | (refine State.wpM_skip rfl ?_) | (refine State.wpM_all rfl rfl (fun K hK => ?_); go_simp; refine hK _ ?_; clear hK K))
            refine State.wpM_act rfl rfl (fun F' w5 hC h0 ha hA => ?_) ?_
            · skip
              have hr := retTxB_sup (K := KP) (f := ⟨al, xs, kx, ex⟩) (S := Lt wr.heap.size) (t := Tr.tx ⟨xid, stp, ⟨vs, Av, cv⟩⟩) (B := wr.heap.size) (w := w5) hC.b.size (fun _ h => h)
              rw [HTH.out, HBH.out] at hr
              exact acts_sup hM rfl hC ha (tx_any ⟨al, xs, kx, ex⟩ A1 c1 ⟨xid, stp, ⟨vs, Av, cv⟩⟩ (Lt wr.heap.size) w5 (HXr.out.f.ext hC.b) OX.out.k0 OX.out.k1 (by simp only; omega) ((KT KP).up (a := ⟨xid, stp, ⟨vs, Av, cv⟩⟩) HEY.out (Same.below hC.b lt_lt) fun _ h => h) (fun b h => Nat.lt_of_lt_of_le h hC.b.size) HOJ.out) (by go_simp; first | done | rfl | exact ⟨rfl, rfl⟩) hr
            rintro v5 -
            repeat (first | (refine State.wpM_skip rfl ?_) | (refine State.wpM_all rfl rfl (fun K hK => ?_); go_simp; refine hK _ ?_; clear hK K))
            refine State.wpM_act rfl rfl (fun F' w5 hC h0 ha hA => ?_) ?_
            · exact acts_derive hM rfl hC ha (i := 5) (v := v5) rfl (hA ⟨5, .data⟩ (by simp) rfl) (by go_simp) (fun T h => h)
            intro v6 ⟨w5, hC5⟩
            obtain ⟨S5, ⟨y0_, rfl, -⟩, -⟩ := hC5.sup 6 _ rfl v6 (by simp [State.upd])
            clear hC5 w5 S5
            repeat (first | (refine State.wpM_skip rfl ?_) | (refine State.wpM_all rfl rfl (fun K hK => ?_); go_simp; refine hK _ ?_; clear hK K))
            refine State.wpM_act rfl rfl (fun F' w5 hC h0 ha hA => ?_) ?_
            · exact acts_derive hM rfl hC ha (i := 6) (v := .tuple #[(KT KP).v y0_, .bool bh]) (u := (KT KP).v y0_) rfl (hA ⟨6, .data⟩ (by simp) rfl) (by go_simp) (fun T h => by
                obtain ⟨y', e, h1, h2, h3⟩ := h
                exact ⟨y', tuple2_inj e, h1, h2, h3⟩)
            intro v7 ⟨w5, hC5⟩
            obtain ⟨S5, ⟨⟨xid2, stp2, ⟨es, D, d⟩⟩, rfl, -⟩, -⟩ := hC5.sup 7 _ rfl v7 (by simp [State.upd])
            clear hC5 w5 S5
            rw [show (KT KP).v ⟨xid2, stp2, ⟨es, D, d⟩⟩ = .agg #[.int .u32 xid2, .int .u64 stp2, .slice D es.length d] from rfl]
            repeat (first | (refine State.wpM_skip rfl ?_) | (refine State.wpM_all rfl rfl (fun K hK => ?_); go_simp; refine hK _ ?_; clear hK K))
            refine State.wpM_act rfl rfl (fun F' w hC h0 ha _ => acts_box hM rfl hC h0 ha (cs := #[.int .u32 0, .int .u64 0, .slice none 0 0]) rfl (by go_simp)) ?_
            intro v9 ⟨w5, hC5⟩
            obtain ⟨g9, -, rfl, -⟩ := hC5.box 9 3 46 rfl v9 (by simp [State.upd])
            clear hC5 w5
            repeat (first | (refine State.wpM_skip rfl ?_) | (refine State.wpM_all rfl rfl (fun K hK => ?_); go_simp; refine hK _ ?_; clear hK K))
            refine State.wpM_act rfl rfl (fun F' w hC h0 ha hA => ?_) ?_
            · have hAj := hA ⟨9, .data⟩ (by simp) rfl
              have hAc := hA ⟨7, .data⟩ (by simp) rfl
              clear hA
              refine acts_store hM hO (j := 9) (c := .ans 7) (n := 3) (g := g9) (t := 46) (cs := #[.int .u32 xid2, .int .u64 stp2, .slice D es.length d]) rfl rfl hC ha hAj ⟨_, hAc, rfl⟩ rfl (fun cur hh hz => ?_)
              refine run_op_store (t := 46) (x := .tmp 10) (y := .tmp 50) rfl ?_
              exact run_storeAt_whole (v := .agg #[.int .u32 xid2, .int .u64 stp2, .slice D es.length d]) i46 hh cells46.symm hz.symm ((KT KP).one ⟨xid2, stp2, ⟨es, D, d⟩⟩)
            rintro v10 -
            repeat (first | (refine State.wpM_skip rfl ?_) | (refine State.wpM_all rfl rfl (fun K hK => ?_); go_simp; refine hK _ ?_; clear hK K))
            refine State.wpM_nil fun w10 hC => ?_
            have r13 := hC.store_ans (i := 10) (j := 9) (k := 7) (n := 3) (t := 46) rfl rfl (u := v10) (by simp [State.upd]) (g := g9) (by simp [State.upd]) (v := .agg #[.int .u32 xid2, .int .u64 stp2, .slice D es.length d]) (by simp [State.upd])
            obtain ⟨T11, ⟨y', e', h1, h2, h3⟩, h4, -⟩ := hC.sup 7 _ rfl (.agg #[.int .u32 xid2, .int .u64 stp2, .slice D es.length d]) (by simp [State.upd])
            obtain ⟨z13, cur13, ez13, hB13, -, -⟩ := hC.box 9 3 46 rfl (.pointer (some ⟨g9, 0, none⟩)) (by simp [State.upd])
            injection ez13 with ez13; injection ez13 with ez13; injection ez13 with ez13 _ _
            subst ez13
            have hcy := Lib.hid (Tr.c_inj (K := KP) (show (KT KP).v ⟨xid2, stp2, ⟨es, D, d⟩⟩ = (KT KP).v y' from e'))
            have HR13 := Lib.hid (show w10.heap[g9]? = some (.cells (Tr.c y').toArray 46 (0, 0)) by rw [← hcy.out]; exact r13)
            have HAT' := Lib.hid ((KT KP).up h2 (Same.refl _ _) h4 : (KT KP).at_ w10 (Lt w10.heap.size) y')
            have H1 := Lib.hid h1; have HBC := Lib.hid hC.b
            clear r13 e' h1 h2 h3 h4 hC hM hO
            go_wp2
            go_meet
            exact ⟨y', g9, rfl, rfl, H1, ⟨HBC.out, hB13, HR13.out, HAT'.out⟩⟩
          case rest =>
            obtain ⟨⟨xid2, stp2, ⟨es, D, d⟩⟩, g10, rfl, rfl, hyt, hC9⟩ := hcut
            obtain ⟨w9, rfl⟩ : ∃ w9 : World, w9 = wc := ⟨_, rfl⟩
            have R10 := Lib.hid (show w9.heap[g10]? = some (.cells #[.int .u32 xid2, .int .u64 stp2, .slice D es.length d] 46 (0, 0)) from hC9.out.2.2.1)
            have A10 := Lib.hid (show RoAt (KE KP) w9 (Lt w9.heap.size) ⟨es, D, d⟩ from hC9.out.2.2.2)
            have HB9 := Lib.hid hC9.out.1
            have P9 := Lib.hid ((HB9.out.block _ (row_lt PR.out)).trans PR.out)
            have HF9 := Lib.hid (HFr.out.ext HB9.out)
            have HPZ9 := Lib.hid (HPZ.out.up (Same.below HB9.out lt_lt) (fun b h => Nat.lt_of_lt_of_le h HB9.out.size) : RoAt (KT KR) w9 (Lt w9.heap.size) ⟨[⟨xid, stp, ⟨us, Bu, cu⟩⟩], some ⟨bz, oz + j * 3, none⟩, e - j⟩)
            have HTK := Lib.hid (show TxsOk ([⟨xid, stp, ⟨us, Bu, cu⟩⟩].map Tr.tx) from ⟨by simp, fun t ht => by
              have h1 : t = Tr.tx ⟨xid, stp, ⟨us, Bu, cu⟩⟩ := by simpa using ht
              rw [h1, ← hxz.out]; exact HOJ.out⟩)
            have HTH1 := Lib.hid (show TxsOk [th] by have := txR_ok ⟨al, xs, kx, ex⟩ HOJ.out; rwa [HTH.out] at this)
            clear hC9 HPZ y0 y1 y2
            go_wp2_with fail
            go_cut [12] (fun s12 wx => Hid (TxsAt KR wx s12 ([Tr.tx ⟨xid, stp, ⟨vs, Av, cv⟩⟩].filterMap (txP ⟨al, xs, kx, ex⟩)) ∧ Below w9.heap.size w9 wx))
            case first =>
              have hwj : IntKind.i64.wrap ((j : Int) + 1) = (j : Int) + 1 := IntWalk.i64_in _ (by omega)
              have hj0 : (0 : Int) ≤ (j : Int) + 1 := by omega
              have hj1 : (j : Int) + 1 ≤ (e : Int) := by omega
              have hj2 : ((j : Int) + 1).toNat = j + 1 := by omega
              have hj3 : j ≤ j + 1 := by omega
              have hj4 : j + 1 - j = 1 := by omega
              have hj5 : ¬ e = j := by omega
              refine wp_region_fx (fzF10 ([Tr.tx ⟨xid, stp, ⟨vs, Av, cv⟩⟩].filterMap (txP ⟨al, xs, kx, ex⟩))) (by kernel_rfl) (by kernel_rfl) ?_
              repeat (first | (refine Mono.wpM_skip rfl ?_) | (refine Mono.wpM_all rfl rfl (fun K hK => ?_); go_simp; refine hK _ ?_; clear hK K))
              refine Mono.wpM_look (.agg #[.bool al, .slice A xs.length c, .int .u8 kx, .bool ex]) rfl rfl (fun w6 hc6 _ => ?_) ?_
              · have hcl0 : w6.cell? ⟨w.heap.size, 0, none⟩ = some (.bool al) := cell_of_row _ _ 0 _ 24 (0, 0) ((hc6.block _ (row_lt P9.out)).trans P9.out)
                have hcl1 : w6.cell? ⟨w.heap.size, 1, none⟩ = some (.slice A xs.length c) := cell_of_row _ _ 1 _ 24 (0, 0) ((hc6.block _ (row_lt P9.out)).trans P9.out)
                have hcl2 : w6.cell? ⟨w.heap.size, 2, none⟩ = some (.int .u8 kx) := cell_of_row _ _ 2 _ 24 (0, 0) ((hc6.block _ (row_lt P9.out)).trans P9.out)
                have hcl3 : w6.cell? ⟨w.heap.size, 3, none⟩ = some (.bool ex) := cell_of_row _ _ 3 _ 24 (0, 0) ((hc6.block _ (row_lt P9.out)).trans P9.out)
                go_simp
              repeat (first | (refine Mono.wpM_skip rfl ?_) | (refine Mono.wpM_all rfl rfl (fun K hK => ?_); go_simp; refine hK _ ?_; clear hK K))
              refine Mono.wpM_eff rfl rfl (fun w10 hc10 _ => ?_) ?_
              · have hr := passRV ⟨al, xs, kx, ex⟩ A c ⟨[⟨xid, stp, ⟨us, Bu, cu⟩⟩], some ⟨bz, oz + j * 3, none⟩, e - j⟩ w10 (HF9.out.ext hc10) OX.out.k0 OX.out.k1 (by simp only; omega) (HPZ9.out.up (Same.below hc10 lt_lt) (fun b h => Nat.lt_of_lt_of_le h hc10.size)) HTK.out
                exact steps_enter hr (by go_simp; first | done | rfl | exact ⟨rfl, rfl⟩) (txs_val (by rw [hxz.out]; rfl) rfl)
              rintro v6 -
              repeat (first | (refine Mono.wpM_skip rfl ?_) | (refine Mono.wpM_all rfl rfl (fun K hK => ?_); go_simp; refine hK _ ?_; clear hK K))
              refine Mono.wpM_nil fun w10 hc10 hf => ?_
              have h6 : TxsAt KR w10 v6 ([Tr.tx ⟨xid, stp, ⟨vs, Av, cv⟩⟩].filterMap (txP ⟨al, xs, kx, ex⟩)) := hf 6
              have H6 := Lib.hid h6
              clear h6 hf
              go_wp2
              go_meet
              exact ⟨H6.out, hc10⟩
            case rest =>
              obtain ⟨w10, rfl⟩ : ∃ w10 : World, w10 = wc := ⟨_, rfl⟩
              have HT12 := Lib.hid hcut.out.1
              have HB10 := Lib.hid hcut.out.2
              have R11 := Lib.hid ((HB10.out.block _ (row_lt R10.out)).trans R10.out)
              have A11 := Lib.hid (A10.out.up (Same.below HB10.out lt_lt) (fun b h => Nat.lt_of_lt_of_le h HB10.out.size) : RoAt (KE KP) w10 (Lt w10.heap.size) ⟨es, D, d⟩)
              clear hcut R10 A10 P9 HF9 HPZ9
              go_wp2_with fail
              go_cut [88] (fun s88 wx => s88 = .bool false ∧ Hid (Below w10.heap.size w10 wx))
              case first =>
                cases bh
                · obtain ⟨hz1, hz2⟩ := txR_none HBH.out
                  rw [HTH.out] at hz1
                  have hyz := hyt.out
                  rw [hz1] at hyz
                  simp only [Tr.tx, Tx.zero, Tx.mk.injEq, List.map_eq_nil_iff] at hyz
                  obtain ⟨rfl, rfl, rfl⟩ := hyz
                  have h12 := HT12.out
                  rw [hz2] at h12
                  obtain ⟨q12, A12, c12, rfl, hq12, -⟩ := h12
                  obtain rfl : q12 = [] := by simpa using hq12
                  have hn1 : ((0 : Int) == 1) = false := by decide
                  clear hz1 hz2
                  refine wp_region_fx (fzF11 w10.heap.size #[.int .u32 0, .int .u64 0, .slice D 0 d] th) (by kernel_rfl) (by kernel_rfl) ?_
                  (refine Mono.wpM_norm (fun K hK => ?_); go_simp; refine hK _ ?_; clear hK K); repeat (first | (refine Mono.wpM_all rfl rfl (fun K hK => ?_); go_simp; refine hK _ ?_; clear hK K) | (refine Mono.wpM_skip rfl ?_; refine Mono.wpM_norm (fun K hK => ?_); go_simp; refine hK _ ?_; clear hK K))
                  refine Mono.wpM_look (.agg #[.int .u32 0, .int .u64 0, .slice D 0 d]) rfl rfl (fun w6 hc6 _ => ?_) ?_
                  · have hcl0 : w6.cell? ⟨g10, 0, none⟩ = some (.int .u32 0) := cell_of_row _ _ 0 _ 46 (0, 0) ((hc6.block _ (row_lt R11.out)).trans R11.out)
                    have hcl1 : w6.cell? ⟨g10, 1, none⟩ = some (.int .u64 0) := cell_of_row _ _ 1 _ 46 (0, 0) ((hc6.block _ (row_lt R11.out)).trans R11.out)
                    have hcl2 : w6.cell? ⟨g10, 2, none⟩ = some (.slice D 0 d) := cell_of_row _ _ 2 _ 46 (0, 0) ((hc6.block _ (row_lt R11.out)).trans R11.out)
                    go_simp
                  (refine Mono.wpM_norm (fun K hK => ?_); go_simp; refine hK _ ?_; clear hK K); repeat (first | (refine Mono.wpM_all rfl rfl (fun K hK => ?_); go_simp; refine hK _ ?_; clear hK K) | (refine Mono.wpM_skip rfl ?_; refine Mono.wpM_norm (fun K hK => ?_); go_simp; refine hK _ ?_; clear hK K))
                  refine Mono.wpM_eff rfl rfl (fun w9 hc9 _ => steps_enter (alike_of D d w9) (by go_simp; first | done | rfl | exact ⟨rfl, rfl⟩) (bool_val (Lib.hid rfl) rfl)) ?_
                  rintro v26 ⟨wq, hq⟩
                  obtain rfl : v26 = _ := hq
                  clear wq
                  (refine Mono.wpM_norm (fun K hK => ?_); go_simp; refine hK _ ?_; clear hK K); repeat (first | (refine Mono.wpM_all rfl rfl (fun K hK => ?_); go_simp; refine hK _ ?_; clear hK K) | (refine Mono.wpM_skip rfl ?_; refine Mono.wpM_norm (fun K hK => ?_); go_simp; refine hK _ ?_; clear hK K))
                  refine Mono.wpM_nil fun w11 hc11 _ => ?_
                  go_wp2
                  go_meet
                  exact ⟨rfl, hc11⟩
                · have h12 := HT12.out
                  rw [txR_some HBH.out, HTH.out] at h12
                  obtain ⟨⟨xidw, stpw, ⟨ws, Aw, cw⟩⟩, bw, ow, c12, rfl, hyw, hbw, hcw, hatw⟩ := h12.single
                  have HYW := Lib.hid hyw
                  have HAW := Lib.hid (hatw : RoAt (KE KR) w10 (Lt w10.heap.size) ⟨ws, Aw, cw⟩)
                  have w0 : w10.cell? ⟨bw, ow, none⟩ = some (.int .u32 xidw) := hcw 0 _ rfl
                  have w1 : w10.cell? ⟨bw, ow + 1, none⟩ = some (.int .u64 stpw) := hcw 1 _ rfl
                  have w2 : w10.cell? ⟨bw, ow + 2, none⟩ = some (.slice Aw ws.length cw) := hcw 2 _ rfl
                  clear hyw hcw hatw h12
                  have hn1 : (0 : Int) < 1 := by decide
                  refine wp_region_fx (fzF11 w10.heap.size #[.int .u32 xid2, .int .u64 stp2, .slice D es.length d] th) (by kernel_rfl) (by kernel_rfl) ?_
                  (refine Mono.wpM_norm (fun K hK => ?_); go_simp; refine hK _ ?_; clear hK K); repeat (first | (refine Mono.wpM_all rfl rfl (fun K hK => ?_); go_simp; refine hK _ ?_; clear hK K) | (refine Mono.wpM_skip rfl ?_; refine Mono.wpM_norm (fun K hK => ?_); go_simp; refine hK _ ?_; clear hK K))
                  refine Mono.wpM_look (.agg #[.int .u32 xid2, .int .u64 stp2, .slice D es.length d]) rfl rfl (fun w6 hc6 _ => ?_) ?_
                  · have hcl0 : w6.cell? ⟨g10, 0, none⟩ = some (.int .u32 xid2) := cell_of_row _ _ 0 _ 46 (0, 0) ((hc6.block _ (row_lt R11.out)).trans R11.out)
                    have hcl1 : w6.cell? ⟨g10, 1, none⟩ = some (.int .u64 stp2) := cell_of_row _ _ 1 _ 46 (0, 0) ((hc6.block _ (row_lt R11.out)).trans R11.out)
                    have hcl2 : w6.cell? ⟨g10, 2, none⟩ = some (.slice D es.length d) := cell_of_row _ _ 2 _ 46 (0, 0) ((hc6.block _ (row_lt R11.out)).trans R11.out)
                    go_simp
                  (refine Mono.wpM_norm (fun K hK => ?_); go_simp; refine hK _ ?_; clear hK K); repeat (first | (refine Mono.wpM_all rfl rfl (fun K hK => ?_); go_simp; refine hK _ ?_; clear hK K) | (refine Mono.wpM_skip rfl ?_; refine Mono.wpM_norm (fun K hK => ?_); go_simp; refine hK _ ?_; clear hK K))
                  refine Mono.wpM_eff rfl rfl (fun w9 hc9 _ => steps_litK rfl hc9.size (by go_simp)) ?_
                  rintro v9 ⟨wq, hq⟩
                  obtain ⟨gL, rfl, -, -⟩ : ∃ g, v9 = .slice (some ⟨g, 0, none⟩) 1 1 ∧ w10.heap.size ≤ g ∧ wq.heap[g]? = some (.cells #[.int .u32 xid2, .int .u64 stp2, .slice D es.length d] 46 (0, 0)) := hq
                  clear wq
                  (refine Mono.wpM_norm (fun K hK => ?_); go_simp; refine hK _ ?_; clear hK K); repeat (first | (refine Mono.wpM_all rfl rfl (fun K hK => ?_); go_simp; refine hK _ ?_; clear hK K) | (refine Mono.wpM_skip rfl ?_; refine Mono.wpM_norm (fun K hK => ?_); go_simp; refine hK _ ?_; clear hK K))
                  refine Mono.wpM_eff rfl rfl (fun w9 hc9 hd => ?_) ?_
                  · obtain ⟨g', eg, -, hg'⟩ : ∃ g', Value.slice (some ⟨gL, 0, none⟩) 1 1 = .slice (some ⟨g', 0, none⟩) 1 1 ∧ w10.heap.size ≤ g' ∧ w9.heap[g']? = some (.cells #[.int .u32 xid2, .int .u64 stp2, .slice D es.length d] 46 (0, 0)) := hd ⟨9, .data⟩ (by simp) rfl
                    injection eg with eg _ _; injection eg with eg; injection eg with eg _ _
                    subst eg
                    have d9 : TxsAt KP w9 (.slice (some ⟨gL, 0, none⟩) 1 1) [th] := by
                      have h1 := TxsAt.lit (K := KP) (y := ⟨xid2, stp2, ⟨es, D, d⟩⟩) hg' (A11.out.up (Same.below hc9 lt_lt) (fun b h => Nat.lt_of_lt_of_le h hc9.size))
                      rwa [hyt.out] at h1
                    exact steps_enter (backV _ [th] w9 d9 HTH1.out) (by go_simp; first | done | rfl | exact ⟨rfl, rfl⟩) (txs_val rfl rfl)
                  rintro v10 ⟨wq, hq⟩
                  obtain ⟨-, b10, o10, c10, rfl, -⟩ := TxsAt.single (show TxsAt KR wq v10 [th] from hq)
                  clear hq wq
                  (refine Mono.wpM_norm (fun K hK => ?_); go_simp; refine hK _ ?_; clear hK K); repeat (first | (refine Mono.wpM_all rfl rfl (fun K hK => ?_); go_simp; refine hK _ ?_; clear hK K) | (refine Mono.wpM_skip rfl ?_; refine Mono.wpM_norm (fun K hK => ?_); go_simp; refine hK _ ?_; clear hK K))
                  refine Mono.wpM_eff rfl rfl (fun w9 hc9 hd => ?_) ?_
                  · have d10 : TxsAt KR w9 (.slice (some ⟨b10, o10, none⟩) 1 c10) [th] := hd ⟨10, .data⟩ (by simp) rfl
                    obtain ⟨y', b', o', c', e', h1, h2, h3, h4⟩ := d10.single
                    injection e' with e' _ _; injection e' with e'; injection e' with e1 e2 _
                    subst e1 e2
                    exact steps_val (v := .pointer (some ⟨b10, o10, none⟩)) (w' := w9) (by go_simp) (Below.refl _ _) (⟨b10, o10, y', rfl, h1, h2, h3, h4⟩ : (Fact.ptr KR th).p _ _)
                  rintro v11 ⟨wq, hq⟩
                  obtain ⟨b11, o11, -, rfl, -⟩ : ∃ b o y, v11 = .pointer (some ⟨b, o, none⟩) ∧ Tr.tx y = th ∧ b < wq.heap.size ∧ (∀ i u, (Tr.c y)[i]? = some u → wq.cell? ⟨b, o + i, none⟩ = some u) ∧ (KT KR).at_ wq (Lt wq.heap.size) y := hq
                  clear wq
                  (refine Mono.wpM_norm (fun K hK => ?_); go_simp; refine hK _ ?_; clear hK K); repeat (first | (refine Mono.wpM_all rfl rfl (fun K hK => ?_); go_simp; refine hK _ ?_; clear hK K) | (refine Mono.wpM_skip rfl ?_; refine Mono.wpM_norm (fun K hK => ?_); go_simp; refine hK _ ?_; clear hK K))
                  refine Mono.wpM_eff rfl rfl (fun w9 hc9 hd => ?_) ?_
                  · obtain ⟨b', o', ⟨xi, st, ⟨ls, L, lc⟩⟩, e', h1, h2, h3, h4⟩ : ∃ b o y, Value.pointer (some ⟨b11, o11, none⟩) = .pointer (some ⟨b, o, none⟩) ∧ Tr.tx y = th ∧ b < w9.heap.size ∧ (∀ i u, (Tr.c y)[i]? = some u → w9.cell? ⟨b, o + i, none⟩ = some u) ∧ (KT KR).at_ w9 (Lt w9.heap.size) y := hd ⟨11, .data⟩ (by simp) rfl
                    injection e' with e'; injection e' with e'; injection e' with e1 e2 _
                    subst e1 e2
                    have q0 : w9.cell? ⟨b11, o11, none⟩ = some (.int .u32 xi) := h3 0 _ rfl
                    have q1 : w9.cell? ⟨b11, o11 + 1, none⟩ = some (.int .u64 st) := h3 1 _ rfl
                    have q2 : w9.cell? ⟨b11, o11 + 2, none⟩ = some (.slice L ls.length lc) := h3 2 _ rfl
                    exact steps_val (v := .agg #[.int .u32 xi, .int .u64 st, .slice L ls.length lc]) (w' := w9) (by go_simp) (Below.refl _ _) (⟨⟨xi, st, ⟨ls, L, lc⟩⟩, rfl, h1, h4⟩ : (Fact.one KR th).p _ _)
                  rintro v12 ⟨wq, hq⟩
                  obtain ⟨⟨xi, st, ⟨ls, L, lc⟩⟩, rfl, -⟩ : ∃ y, v12 = (KT KR).v y ∧ Tr.tx y = th ∧ (KT KR).at_ wq (Lt wq.heap.size) y := hq
                  clear wq
                  rw [show (KT KR).v ⟨xi, st, ⟨ls, L, lc⟩⟩ = .agg #[.int .u32 xi, .int .u64 st, .slice L ls.length lc] from rfl]
                  (refine Mono.wpM_norm (fun K hK => ?_); go_simp; refine hK _ ?_; clear hK K); repeat (first | (refine Mono.wpM_all rfl rfl (fun K hK => ?_); go_simp; refine hK _ ?_; clear hK K) | (refine Mono.wpM_skip rfl ?_; refine Mono.wpM_norm (fun K hK => ?_); go_simp; refine hK _ ?_; clear hK K))
                  refine Mono.wpM_look (.agg #[.int .u32 xidw, .int .u64 stpw, .slice Aw ws.length cw]) rfl rfl (fun w6 hc6 _ => ?_) ?_
                  · have hcl0 : w6.cell? ⟨bw, ow, none⟩ = some (.int .u32 xidw) := (hc6.cell hbw).trans w0
                    have hcl1 : w6.cell? ⟨bw, ow + 1, none⟩ = some (.int .u64 stpw) := (hc6.cell hbw).trans w1
                    have hcl2 : w6.cell? ⟨bw, ow + 2, none⟩ = some (.slice Aw ws.length cw) := (hc6.cell hbw).trans w2
                    go_simp
                  (refine Mono.wpM_norm (fun K hK => ?_); go_simp; refine hK _ ?_; clear hK K); repeat (first | (refine Mono.wpM_all rfl rfl (fun K hK => ?_); go_simp; refine hK _ ?_; clear hK K) | (refine Mono.wpM_skip rfl ?_; refine Mono.wpM_norm (fun K hK => ?_); go_simp; refine hK _ ?_; clear hK K))
                  refine Mono.wpM_eff rfl rfl (fun w9 hc9 hd => ?_) ?_
                  · obtain ⟨y', e', h1, h2⟩ : ∃ y, Value.agg #[.int .u32 xi, .int .u64 st, .slice L ls.length lc] = (KT KR).v y ∧ Tr.tx y = th ∧ (KT KR).at_ w9 (Lt w9.heap.size) y := hd ⟨12, .data⟩ (by simp) rfl
                    have hr := txSame_any y' ⟨xidw, stpw, ⟨ws, Aw, cw⟩⟩ _ _ w9 h2 ((KT KR).up (a := ⟨xidw, stpw, ⟨ws, Aw, cw⟩⟩) HAW.out (Same.below hc9 lt_lt) (fun b h => Nat.lt_of_lt_of_le h hc9.size)) lt_lt lt_lt (by rw [h1]; exact (HTH1.out.ok th (by simp)).sm) (h1.trans HYW.out.symm)
                    rw [← e'] at hr
                    exact steps_enter hr (by go_simp; first | done | rfl | exact ⟨rfl, rfl⟩) (bool_val (Lib.hid rfl) rfl)
                  rintro v16 ⟨wq, hq⟩
                  obtain rfl : v16 = _ := hq
                  clear wq
                  (refine Mono.wpM_norm (fun K hK => ?_); go_simp; refine hK _ ?_; clear hK K); repeat (first | (refine Mono.wpM_all rfl rfl (fun K hK => ?_); go_simp; refine hK _ ?_; clear hK K) | (refine Mono.wpM_skip rfl ?_; refine Mono.wpM_norm (fun K hK => ?_); go_simp; refine hK _ ?_; clear hK K))
                  refine Mono.wpM_nil fun w11 hc11 _ => ?_
                  go_wp2
                  go_meet
                  exact ⟨rfl, hc11⟩
              case rest =>
                obtain ⟨rfl, hb11⟩ := hcut
                obtain ⟨w11, rfl⟩ : ∃ w11 : World, w11 = wc := ⟨_, rfl⟩
                have HB11 := Lib.hid (HB9.out.trans ((HB10.out.trans (hb11.out.mono HB10.out.size)).mono HB9.out.size) : Below wr.heap.size wr w11)
                clear hb11 HB10 HB9 R11 A11 HT12 hyt HTK HTH1 HTH HBH
                go_wp2_with fail
                have hul : us.length ≤ 1000 := by
                  have h1 := congrArg List.length HEVS.out
                  have h2 := HOJ.out.n
                  simp only [Tr.tx, List.length_map] at h1 h2
                  omega
                obtain ⟨wo, rfl⟩ : ∃ wo : World, wo = wr := ⟨_, rfl⟩
                go_loopw [13] (fun s13 wr => ∃ k : Nat, k ≤ us.length ∧ s13 = .int .i64 (k : Int) ∧ Hid (Below wo.heap.size wo wr)) (fun s13 _ => us.length - (intOf s13).toNat)
                case atStart => exact ⟨0, by omega, rfl, HB11⟩
                case round =>
                  obtain ⟨k, hk, rfl, hbk⟩ := hrel
                  have hlk0 := hbk.out.size
                  have z2 : wr.cell? ⟨bz, oz + j * 3 + 2, none⟩ = some (.slice Bu us.length cu) := (hbk.out.cell hblz).trans Z2.out
                  by_cases hlk : k < us.length
                  · have hdk : (k : Int) < (us.length : Int) := by omega
                    have hvu : vs.length = us.length := by have := congrArg List.length HEVS.out; simpa using this
                    have hlv : k < vs.length := by omega
                    have hdv : (k : Int) < (vs.length : Int) := by omega
                    have hve := HEY.out.up (Same.below hbk.out lt_lt) (fun b h => Nat.lt_of_lt_of_le h hlk0 : ∀ b, Lt wo.heap.size b → Lt wr.heap.size b)
                    have hue := HEZ.out.up (Same.below hbk.out lt_lt) (fun b h => Nat.lt_of_lt_of_le h hlk0 : ∀ b, Lt wo.heap.size b → Lt wr.heap.size b)
                    obtain ⟨bv, ov, e1, hSv, hcellv⟩ := hve.get (j := k) hlv
                    obtain ⟨bu, ou, e2, hSu, hcellu⟩ := hue.get (j := k) hlk
                    simp only at e1 e2
                    subst e1 e2
                    have hcv := hcellv k hlv
                    have hcu := hcellu k hlk
                    have hav := hve.el _ (List.getElem_mem hlv)
                    have hau := hue.el _ (List.getElem_mem hlk)
                    have hsv := HOJ.out.ev (vs[k]).ev (List.mem_map.2 ⟨_, List.getElem_mem hlv, rfl⟩)
                    have heq : (vs[k]).ev = (us[k]).ev := by
                      have h1 : (vs.map Er.ev)[k]? = (us.map Er.ev)[k]? := by rw [HEVS.out]
                      rw [List.getElem?_map, List.getElem?_map, List.getElem?_eq_getElem hlv, List.getElem?_eq_getElem hlk] at h1
                      simpa using h1
                    have hbv : bv < wr.heap.size := hSv
                    have hbu : bu < wr.heap.size := hSu
                    clear hcellv hcellu hve hue hvu
                    generalize vs[k] = x at *
                    generalize us[k] = y at *
                    obtain ⟨kd, ⟨oid, ver⟩, old, ⟨l1, A1_, c1_⟩, ⟨l2, A2, c2⟩, ⟨l3, A3, c3⟩, fl⟩ := x
                    obtain ⟨kd2, ⟨oid2, ver2⟩, old2, ⟨l4, B1, d1⟩, ⟨l5, B2, d2⟩, ⟨l6, B3, d3⟩, fl2⟩ := y
                    simp only [Er.ev, Ev.mk.injEq, Rf.mk.injEq] at heq
                    obtain ⟨rfl, ⟨rfl, rfl⟩, rfl, rfl, rfl, rfl, rfl⟩ := heq
                    have n0 : wr.cell? ⟨bv, ov + k * 8, none⟩ = some (.int .u8 kd) := hcv 0 _ rfl
                    have n1 : wr.cell? ⟨bv, ov + k * 8 + 1, none⟩ = some (.int .u32 oid) := hcv 1 _ rfl
                    have n2 : wr.cell? ⟨bv, ov + k * 8 + 2, none⟩ = some (.int .u32 ver) := hcv 2 _ rfl
                    have n3 : wr.cell? ⟨bv, ov + k * 8 + 3, none⟩ = some (.int .u8 old) := hcv 3 _ rfl
                    have n4 : wr.cell? ⟨bv, ov + k * 8 + 4, none⟩ = some (.slice A1_ l1.length c1_) := hcv 4 _ rfl
                    have n5 : wr.cell? ⟨bv, ov + k * 8 + 5, none⟩ = some (.slice A2 l2.length c2) := hcv 5 _ rfl
                    have n6 : wr.cell? ⟨bv, ov + k * 8 + 6, none⟩ = some (.slice A3 l3.length c3) := hcv 6 _ rfl
                    have n7 : wr.cell? ⟨bv, ov + k * 8 + 7, none⟩ = some (.int .u8 fl) := hcv 7 _ rfl
                    have m0 : wr.cell? ⟨bu, ou + k * 8, none⟩ = some (.int .u8 kd) := hcu 0 _ rfl
                    have m1 : wr.cell? ⟨bu, ou + k * 8 + 1, none⟩ = some (.int .u32 oid) := hcu 1 _ rfl
                    have m2 : wr.cell? ⟨bu, ou + k * 8 + 2, none⟩ = some (.int .u32 ver) := hcu 2 _ rfl
                    have m3 : wr.cell? ⟨bu, ou + k * 8 + 3, none⟩ = some (.int .u8 old) := hcu 3 _ rfl
                    have m4 : wr.cell? ⟨bu, ou + k * 8 + 4, none⟩ = some (.slice B1 l1.length d1) := hcu 4 _ rfl
                    have m5 : wr.cell? ⟨bu, ou + k * 8 + 5, none⟩ = some (.slice B2 l2.length d2) := hcu 5 _ rfl
                    have m6 : wr.cell? ⟨bu, ou + k * 8 + 6, none⟩ = some (.slice B3 l3.length d3) := hcu 6 _ rfl
                    have m7 : wr.cell? ⟨bu, ou + k * 8 + 7, none⟩ = some (.int .u8 fl) := hcu 7 _ rfl
                    have M0 := Lib.hid m0
                    have M1 := Lib.hid m1
                    have M2 := Lib.hid m2
                    have M3 := Lib.hid m3
                    have M4 := Lib.hid m4
                    have M5 := Lib.hid m5
                    have M6 := Lib.hid m6
                    have M7 := Lib.hid m7
                    have HAV := Lib.hid (hav : ErAt KP wr (Lt wr.heap.size) ⟨kd, ⟨oid, ver⟩, old, ⟨l1, A1_, c1_⟩, ⟨l2, A2, c2⟩, ⟨l3, A3, c3⟩, fl⟩)
                    have HAU := Lib.hid (hau : ErAt KR wr (Lt wr.heap.size) ⟨kd, ⟨oid, ver⟩, old, ⟨l1, B1, d1⟩, ⟨l2, B2, d2⟩, ⟨l3, B3, d3⟩, fl⟩)
                    have HSV := Lib.hid hsv
                    have p2 : wr.cell? ⟨by_, oy + j * 3 + 2, none⟩ = some (.slice (some ⟨bv, ov, none⟩) vs.length cv) := (hbk.out.cell hbly).trans Y2.out
                    have Z3 := Lib.hid z2
                    have hblz2 : bz < wr.heap.size := Nat.lt_of_lt_of_le hblz hlk0
                    have hbly2 : by_ < wr.heap.size := Nat.lt_of_lt_of_le hbly hlk0
                    have PK := Lib.hid ((hbk.out.block _ (row_lt PR.out)).trans PR.out)
                    have HFk := Lib.hid (HFr.out.ext hbk.out)
                    have HXk := Lib.hid (HXr.out.up hbk.out)
                    have HBk := hbk
                    clear hcv hcu hav hau hsv m0 m1 m2 m3 m4 m5 m6 m7 hbk
                    obtain ⟨eo, heo⟩ : ∃ t, (evR ⟨al, xs, kx, ex⟩ (Er.ev ⟨kd, ⟨oid, ver⟩, old, ⟨l1, A1_, c1_⟩, ⟨l2, A2, c2⟩, ⟨l3, A3, c3⟩, fl⟩)).1 = t := ⟨_, rfl⟩
                    obtain ⟨bo, hbo⟩ : ∃ t, (evR ⟨al, xs, kx, ex⟩ (Er.ev ⟨kd, ⟨oid, ver⟩, old, ⟨l1, A1_, c1_⟩, ⟨l2, A2, c2⟩, ⟨l3, A3, c3⟩, fl⟩)).2 = t := ⟨_, rfl⟩
                    have HEO := Lib.hid heo; have HBO := Lib.hid hbo
                    clear heo hbo
                    go_wp2_with fail
                    clear z2
                    go_cut [14, 15] (fun s14 s15 wx => ∃ (y : Er) (g14 : Nat), s14 = .pointer (some ⟨g14, 0, none⟩) ∧ s15 = .bool bo ∧ Hid (y.ev = eo) ∧ Hid (Below wr.heap.size wr wx ∧ wr.heap.size ≤ g14 ∧ wx.heap[g14]? = some (.cells (Er.c y).toArray 61 (0, 0)) ∧ (KE KP).at_ wx (Lt wx.heap.size) y))
                    case first =>
                      refine wp_region_mem (okP wr.heap.size eo bo) (by kernel_rfl) (by kernel_rfl) (by kernel_rfl) (by kernel_rfl) (fun hM hO => ?_)
                      repeat (first | (refine State.wpM_skip rfl ?_) | (refine State.wpM_all rfl rfl (fun K hK => ?_); go_simp; refine hK _ ?_; clear hK K))
                      refine State.wpM_look (.agg #[.bool al, .slice A1 xs.length c1, .int .u8 kx, .bool ex]) rfl rfl (fun F' w6 hC _ _ => ?_) ?_
                      · have q0 : w6.cell? ⟨g7, 0, none⟩ = some (.bool al) := cell_of_row _ _ 0 _ 28 (0, 0) ((hC.b.block _ (row_lt HXk.out.o)).trans HXk.out.o)
                        have q1 : w6.cell? ⟨g7, 1, none⟩ = some (.slice A1 xs.length c1) := cell_of_row _ _ 1 _ 28 (0, 0) ((hC.b.block _ (row_lt HXk.out.o)).trans HXk.out.o)
                        have q2 : w6.cell? ⟨g7, 2, none⟩ = some (.int .u8 kx) := cell_of_row _ _ 2 _ 28 (0, 0) ((hC.b.block _ (row_lt HXk.out.o)).trans HXk.out.o)
                        have q3 : w6.cell? ⟨g7, 3, none⟩ = some (.bool ex) := cell_of_row _ _ 3 _ 28 (0, 0) ((hC.b.block _ (row_lt HXk.out.o)).trans HXk.out.o)
                        go_simp
                      repeat (first | (refine State.wpM_skip rfl ?_) | (refine State.wpM_all rfl rfl (fun K hK => ?_); go_simp; refine hK _ ?_; clear hK K))
                      refine State.wpM_look (.slice (some ⟨bv, ov, none⟩) vs.length cv) rfl rfl (fun F' w6 hC _ _ => ?_) ?_
                      · have q0 : w6.cell? ⟨by_, oy + j * 3 + 2, none⟩ = some (.slice (some ⟨bv, ov, none⟩) vs.length cv) := (hC.b.cell hbly2).trans p2
                        go_simp
                      repeat (first | (refine State.wpM_skip rfl ?_) | (refine State.wpM_all rfl rfl (fun K hK => ?_); go_simp; refine hK _ ?_; clear hK K))
                      refine State.wpM_look (.agg #[.int .u8 kd, .int .u32 oid, .int .u32 ver, .int .u8 old, .slice A1_ l1.length c1_, .slice A2 l2.length c2, .slice A3 l3.length c3, .int .u8 fl]) rfl rfl (fun F' w6 hC _ _ => ?_) ?_
                      · have q0 : w6.cell? ⟨bv, ov + k * 8, none⟩ = some (.int .u8 kd) := (hC.b.cell hbv).trans n0
                        have q1 : w6.cell? ⟨bv, ov + k * 8 + 1, none⟩ = some (.int .u32 oid) := (hC.b.cell hbv).trans n1
                        have q2 : w6.cell? ⟨bv, ov + k * 8 + 2, none⟩ = some (.int .u32 ver) := (hC.b.cell hbv).trans n2
                        have q3 : w6.cell? ⟨bv, ov + k * 8 + 3, none⟩ = some (.int .u8 old) := (hC.b.cell hbv).trans n3
                        have q4 : w6.cell? ⟨bv, ov + k * 8 + 4, none⟩ = some (.slice A1_ l1.length c1_) := (hC.b.cell hbv).trans n4
                        have q5 : w6.cell? ⟨bv, ov + k * 8 + 5, none⟩ = some (.slice A2 l2.length c2) := (hC.b.cell hbv).trans n5
                        have q6 : w6.cell? ⟨bv, ov + k * 8 + 6, none⟩ = some (.slice A3 l3.length c3) := (hC.b.cell hbv).trans n6
                        have q7 : w6.cell? ⟨bv, ov + k * 8 + 7, none⟩ = some (.int .u8 fl) := (hC.b.cell hbv).trans n7
                        go_simp
                      repeat (first | (refine State.wpM_skip rfl ?_) | (refine State.wpM_all rfl rfl (fun K hK => ?_); go_simp; refine hK _ ?_; clear hK K))
                      refine State.wpM_act rfl rfl (fun F' w5 hC h0 ha hA => ?_) ?_
                      · skip
                        have hr := retEvB_sup (K := KP) (f := ⟨al, xs, kx, ex⟩) (S := Lt wr.heap.size) (e := Er.ev ⟨kd, ⟨oid, ver⟩, old, ⟨l1, A1_, c1_⟩, ⟨l2, A2, c2⟩, ⟨l3, A3, c3⟩, fl⟩) (B := wr.heap.size) (w := w5) hC.b.size (fun _ h => h)
                        rw [HEO.out, HBO.out] at hr
                        exact acts_sup hM rfl hC ha (event_any ⟨al, xs, kx, ex⟩ A1 c1 ⟨kd, ⟨oid, ver⟩, old, ⟨l1, A1_, c1_⟩, ⟨l2, A2, c2⟩, ⟨l3, A3, c3⟩, fl⟩ (Lt wr.heap.size) w5 (HXk.out.f.ext hC.b) OX.out.k0 OX.out.k1 (by simp only; omega) (HAV.out.up (Same.below hC.b lt_lt) fun _ h => h) (fun b h => Nat.lt_of_lt_of_le h hC.b.size) HSV.out.sm HSV.out.k0 HSV.out.k1) (by go_simp; first | done | rfl | exact ⟨rfl, rfl⟩) hr
                      rintro v9 -
                      repeat (first | (refine State.wpM_skip rfl ?_) | (refine State.wpM_all rfl rfl (fun K hK => ?_); go_simp; refine hK _ ?_; clear hK K))
                      refine State.wpM_act rfl rfl (fun F' w5 hC h0 ha hA => ?_) ?_
                      · exact acts_derive hM rfl hC ha (i := 9) (v := v9) rfl (hA ⟨9, .data⟩ (by simp) rfl) (by go_simp) (fun T h => h)
                      intro v10 ⟨w5, hC5⟩
                      obtain ⟨S5, ⟨y0_, rfl, -⟩, -⟩ := hC5.sup 10 _ rfl v10 (by simp [State.upd])
                      clear hC5 w5 S5
                      repeat (first | (refine State.wpM_skip rfl ?_) | (refine State.wpM_all rfl rfl (fun K hK => ?_); go_simp; refine hK _ ?_; clear hK K))
                      refine State.wpM_act rfl rfl (fun F' w5 hC h0 ha hA => ?_) ?_
                      · exact acts_derive hM rfl hC ha (i := 10) (v := .tuple #[(KE KP).v y0_, .bool bo]) (u := (KE KP).v y0_) rfl (hA ⟨10, .data⟩ (by simp) rfl) (by go_simp) (fun T h => by
                          obtain ⟨y', e, h1, h2, h3⟩ := h
                          exact ⟨y', tuple2_inj e, h1, h2, h3⟩)
                      intro v11 ⟨w5, hC5⟩
                      obtain ⟨S5, ⟨⟨kd3, ⟨oid3, ver3⟩, old3, ⟨l43, A43, c43⟩, ⟨l53, A53, c53⟩, ⟨l63, A63, c63⟩, fl3⟩, rfl, -⟩, -⟩ := hC5.sup 11 _ rfl v11 (by simp [State.upd])
                      clear hC5 w5 S5
                      rw [show (KE KP).v ⟨kd3, ⟨oid3, ver3⟩, old3, ⟨l43, A43, c43⟩, ⟨l53, A53, c53⟩, ⟨l63, A63, c63⟩, fl3⟩ = .agg #[.int .u8 kd3, .int .u32 oid3, .int .u32 ver3, .int .u8 old3, .slice A43 l43.length c43, .slice A53 l53.length c53, .slice A63 l63.length c63, .int .u8 fl3] from rfl]
                      repeat (first | (refine State.wpM_skip rfl ?_) | (refine State.wpM_all rfl rfl (fun K hK => ?_); go_simp; refine hK _ ?_; clear hK K))
                      refine State.wpM_act rfl rfl (fun F' w hC h0 ha _ => acts_box hM rfl hC h0 ha (cs := #[.int .u8 0, .int .u32 0, .int .u32 0, .int .u8 0, .slice none 0 0, .slice none 0 0, .slice none 0 0, .int .u8 0]) rfl (by go_simp)) ?_
                      intro v13 ⟨w5, hC5⟩
                      obtain ⟨g13, -, rfl, -⟩ := hC5.box 13 8 61 rfl v13 (by simp [State.upd])
                      clear hC5 w5
                      repeat (first | (refine State.wpM_skip rfl ?_) | (refine State.wpM_all rfl rfl (fun K hK => ?_); go_simp; refine hK _ ?_; clear hK K))
                      refine State.wpM_act rfl rfl (fun F' w hC h0 ha hA => ?_) ?_
                      · have hAj := hA ⟨13, .data⟩ (by simp) rfl
                        have hAc := hA ⟨11, .data⟩ (by simp) rfl
                        clear hA
                        refine acts_store hM hO (j := 13) (c := .ans 11) (n := 8) (g := g13) (t := 61) (cs := #[.int .u8 kd3, .int .u32 oid3, .int .u32 ver3, .int .u8 old3, .slice A43 l43.length c43, .slice A53 l53.length c53, .slice A63 l63.length c63, .int .u8 fl3]) rfl rfl hC ha hAj ⟨_, hAc, rfl⟩ rfl (fun cur hh hz => ?_)
                        refine run_op_store (t := 61) (x := .tmp 14) (y := .tmp 110) rfl ?_
                        exact run_storeAt_whole (v := .agg #[.int .u8 kd3, .int .u32 oid3, .int .u32 ver3, .int .u8 old3, .slice A43 l43.length c43, .slice A53 l53.length c53, .slice A63 l63.length c63, .int .u8 fl3]) i61 hh cells61.symm hz.symm ((KE KP).one ⟨kd3, ⟨oid3, ver3⟩, old3, ⟨l43, A43, c43⟩, ⟨l53, A53, c53⟩, ⟨l63, A63, c63⟩, fl3⟩)
                      rintro v14 -
                      repeat (first | (refine State.wpM_skip rfl ?_) | (refine State.wpM_all rfl rfl (fun K hK => ?_); go_simp; refine hK _ ?_; clear hK K))
                      refine State.wpM_nil fun w10 hC => ?_
                      have r13 := hC.store_ans (i := 14) (j := 13) (k := 11) (n := 8) (t := 61) rfl rfl (u := v14) (by simp [State.upd]) (g := g13) (by simp [State.upd]) (v := .agg #[.int .u8 kd3, .int .u32 oid3, .int .u32 ver3, .int .u8 old3, .slice A43 l43.length c43, .slice A53 l53.length c53, .slice A63 l63.length c63, .int .u8 fl3]) (by simp [State.upd])
                      obtain ⟨T11, ⟨y', e', h1, h2, h3⟩, h4, -⟩ := hC.sup 11 _ rfl (.agg #[.int .u8 kd3, .int .u32 oid3, .int .u32 ver3, .int .u8 old3, .slice A43 l43.length c43, .slice A53 l53.length c53, .slice A63 l63.length c63, .int .u8 fl3]) (by simp [State.upd])
                      obtain ⟨z13, cur13, ez13, hB13, -, -⟩ := hC.box 13 8 61 rfl (.pointer (some ⟨g13, 0, none⟩)) (by simp [State.upd])
                      injection ez13 with ez13; injection ez13 with ez13; injection ez13 with ez13 _ _
                      subst ez13
                      have hcy := Lib.hid (Er.c_inj (K := KP) (show (KE KP).v ⟨kd3, ⟨oid3, ver3⟩, old3, ⟨l43, A43, c43⟩, ⟨l53, A53, c53⟩, ⟨l63, A63, c63⟩, fl3⟩ = (KE KP).v y' from e'))
                      have HR13 := Lib.hid (show w10.heap[g13]? = some (.cells (Er.c y').toArray 61 (0, 0)) by rw [← hcy.out]; exact r13)
                      have HAT' := Lib.hid ((KE KP).up h2 (Same.refl _ _) h4 : (KE KP).at_ w10 (Lt w10.heap.size) y')
                      have H1 := Lib.hid h1; have HBC := Lib.hid hC.b
                      clear r13 e' h1 h2 h3 h4 hC hM hO
                      go_wp2
                      go_meet
                      exact ⟨y', g13, rfl, rfl, H1, ⟨HBC.out, hB13, HR13.out, HAT'.out⟩⟩
                    case rest =>
                      obtain ⟨⟨kd3, ⟨oid3, ver3⟩, old3, ⟨l43, A43, c43⟩, ⟨l53, A53, c53⟩, ⟨l63, A63, c63⟩, fl3⟩, g14, rfl, rfl, hye, hC14⟩ := hcut
                      obtain ⟨w14, rfl⟩ : ∃ w14 : World, w14 = wc := ⟨_, rfl⟩
                      have R14 := Lib.hid (show w14.heap[g14]? = some (.cells #[.int .u8 kd3, .int .u32 oid3, .int .u32 ver3, .int .u8 old3, .slice A43 l43.length c43, .slice A53 l53.length c53, .slice A63 l63.length c63, .int .u8 fl3] 61 (0, 0)) from hC14.out.2.2.1)
                      have A14 := Lib.hid (show ErAt KP w14 (Lt w14.heap.size) ⟨kd3, ⟨oid3, ver3⟩, old3, ⟨l43, A43, c43⟩, ⟨l53, A53, c53⟩, ⟨l63, A63, c63⟩, fl3⟩ from hC14.out.2.2.2)
                      have HB14 := Lib.hid hC14.out.1
                      have P14 := Lib.hid ((HB14.out.block _ (row_lt PK.out)).trans PK.out)
                      have HF14 := Lib.hid (HFk.out.ext HB14.out)
                      have z2 : w14.cell? ⟨bz, oz + j * 3 + 2, none⟩ = some (.slice (some ⟨bu, ou, none⟩) us.length cu) := (HB14.out.cell hblz2).trans Z3.out
                      have hblz3 : bz < w14.heap.size := Nat.lt_of_lt_of_le hblz2 HB14.out.size
                      have hbu3 : bu < w14.heap.size := Nat.lt_of_lt_of_le hbu HB14.out.size
                      have HAU14 := Lib.hid (HAU.out.up (Same.below HB14.out lt_lt) (fun b h => Nat.lt_of_lt_of_le h HB14.out.size) : ErAt KR w14 (Lt w14.heap.size) ⟨kd, ⟨oid, ver⟩, old, ⟨l1, B1, d1⟩, ⟨l2, B2, d2⟩, ⟨l3, B3, d3⟩, fl⟩)
                      have m0 : w14.cell? ⟨bu, ou + k * 8, none⟩ = some (.int .u8 kd) := (HB14.out.cell hbu).trans M0.out
                      have m1 : w14.cell? ⟨bu, ou + k * 8 + 1, none⟩ = some (.int .u32 oid) := (HB14.out.cell hbu).trans M1.out
                      have m2 : w14.cell? ⟨bu, ou + k * 8 + 2, none⟩ = some (.int .u32 ver) := (HB14.out.cell hbu).trans M2.out
                      have m3 : w14.cell? ⟨bu, ou + k * 8 + 3, none⟩ = some (.int .u8 old) := (HB14.out.cell hbu).trans M3.out
                      have m4 : w14.cell? ⟨bu, ou + k * 8 + 4, none⟩ = some (.slice B1 l1.length d1) := (HB14.out.cell hbu).trans M4.out
                      have m5 : w14.cell? ⟨bu, ou + k * 8 + 5, none⟩ = some (.slice B2 l2.length d2) := (HB14.out.cell hbu).trans M5.out
                      have m6 : w14.cell? ⟨bu, ou + k * 8 + 6, none⟩ = some (.slice B3 l3.length d3) := (HB14.out.cell hbu).trans M6.out
                      have m7 : w14.cell? ⟨bu, ou + k * 8 + 7, none⟩ = some (.int .u8 fl) := (HB14.out.cell hbu).trans M7.out
                      clear hC14 n0 n1 n2 n3 n4 n5 n6 n7 p2
                      go_wp2_with fail
                      go_cut [16, 17] (fun s16 s17 wx => ∃ (y : Er) (g16 : Nat), s16 = .pointer (some ⟨g16, 0, none⟩) ∧ s17 = .bool bo ∧ Hid (y.ev = eo) ∧ Hid (Below w14.heap.size w14 wx ∧ w14.heap.size ≤ g16 ∧ wx.heap[g16]? = some (.cells (Er.c y).toArray 68 (0, 0)) ∧ (KE KR).at_ wx (Lt wx.heap.size) y))
                      case first =>
                        refine wp_region_mem (okR w14.heap.size eo bo) (by kernel_rfl) (by kernel_rfl) (by kernel_rfl) (by kernel_rfl) (fun hM hO => ?_)
                        repeat (first | (refine State.wpM_skip rfl ?_) | (refine State.wpM_all rfl rfl (fun K hK => ?_); go_simp; refine hK _ ?_; clear hK K))
                        refine State.wpM_look (.agg #[.bool al, .slice A xs.length c, .int .u8 kx, .bool ex]) rfl rfl (fun F' w6 hC _ _ => ?_) ?_
                        · have q0 : w6.cell? ⟨w.heap.size, 0, none⟩ = some (.bool al) := cell_of_row _ _ 0 _ 24 (0, 0) ((hC.b.block _ (row_lt P14.out)).trans P14.out)
                          have q1 : w6.cell? ⟨w.heap.size, 1, none⟩ = some (.slice A xs.length c) := cell_of_row _ _ 1 _ 24 (0, 0) ((hC.b.block _ (row_lt P14.out)).trans P14.out)
                          have q2 : w6.cell? ⟨w.heap.size, 2, none⟩ = some (.int .u8 kx) := cell_of_row _ _ 2 _ 24 (0, 0) ((hC.b.block _ (row_lt P14.out)).trans P14.out)
                          have q3 : w6.cell? ⟨w.heap.size, 3, none⟩ = some (.bool ex) := cell_of_row _ _ 3 _ 24 (0, 0) ((hC.b.block _ (row_lt P14.out)).trans P14.out)
                          go_simp
                        repeat (first | (refine State.wpM_skip rfl ?_) | (refine State.wpM_all rfl rfl (fun K hK => ?_); go_simp; refine hK _ ?_; clear hK K))
                        refine State.wpM_look (.slice (some ⟨bu, ou, none⟩) us.length cu) rfl rfl (fun F' w6 hC _ _ => ?_) ?_
                        · have q0 : w6.cell? ⟨bz, oz + j * 3 + 2, none⟩ = some (.slice (some ⟨bu, ou, none⟩) us.length cu) := (hC.b.cell hblz3).trans z2
                          go_simp
                        repeat (first | (refine State.wpM_skip rfl ?_) | (refine State.wpM_all rfl rfl (fun K hK => ?_); go_simp; refine hK _ ?_; clear hK K))
                        refine State.wpM_look (.agg #[.int .u8 kd, .int .u32 oid, .int .u32 ver, .int .u8 old, .slice B1 l1.length d1, .slice B2 l2.length d2, .slice B3 l3.length d3, .int .u8 fl]) rfl rfl (fun F' w6 hC _ _ => ?_) ?_
                        · have q0 : w6.cell? ⟨bu, ou + k * 8, none⟩ = some (.int .u8 kd) := (hC.b.cell hbu3).trans m0
                          have q1 : w6.cell? ⟨bu, ou + k * 8 + 1, none⟩ = some (.int .u32 oid) := (hC.b.cell hbu3).trans m1
                          have q2 : w6.cell? ⟨bu, ou + k * 8 + 2, none⟩ = some (.int .u32 ver) := (hC.b.cell hbu3).trans m2
                          have q3 : w6.cell? ⟨bu, ou + k * 8 + 3, none⟩ = some (.int .u8 old) := (hC.b.cell hbu3).trans m3
                          have q4 : w6.cell? ⟨bu, ou + k * 8 + 4, none⟩ = some (.slice B1 l1.length d1) := (hC.b.cell hbu3).trans m4
                          have q5 : w6.cell? ⟨bu, ou + k * 8 + 5, none⟩ = some (.slice B2 l2.length d2) := (hC.b.cell hbu3).trans m5
                          have q6 : w6.cell? ⟨bu, ou + k * 8 + 6, none⟩ = some (.slice B3 l3.length d3) := (hC.b.cell hbu3).trans m6
                          have q7 : w6.cell? ⟨bu, ou + k * 8 + 7, none⟩ = some (.int .u8 fl) := (hC.b.cell hbu3).trans m7
                          go_simp
                        repeat (first | (refine State.wpM_skip rfl ?_) | (refine State.wpM_all rfl rfl (fun K hK => ?_); go_simp; refine hK _ ?_; clear hK K))
                        refine State.wpM_act rfl rfl (fun F' w5 hC h0 ha hA => ?_) ?_
                        · skip
                          have hr := retEvB_sup (K := KR) (f := ⟨al, xs, kx, ex⟩) (S := Lt w14.heap.size) (e := Er.ev ⟨kd, ⟨oid, ver⟩, old, ⟨l1, A1_, c1_⟩, ⟨l2, A2, c2⟩, ⟨l3, A3, c3⟩, fl⟩) (B := w14.heap.size) (w := w5) hC.b.size (fun _ h => h)
                          rw [HEO.out, HBO.out] at hr
                          exact acts_sup hM rfl hC ha (eventR_any ⟨al, xs, kx, ex⟩ A c ⟨kd, ⟨oid, ver⟩, old, ⟨l1, B1, d1⟩, ⟨l2, B2, d2⟩, ⟨l3, B3, d3⟩, fl⟩ (Lt w14.heap.size) w5 (HF14.out.ext hC.b) OX.out.k0 OX.out.k1 (by simp only; omega) (HAU14.out.up (Same.below hC.b lt_lt) fun _ h => h) (fun b h => Nat.lt_of_lt_of_le h hC.b.size) HSV.out.sm HSV.out.k0 HSV.out.k1) (by go_simp; first | done | rfl | exact ⟨rfl, rfl⟩) hr
                        rintro v9 -
                        repeat (first | (refine State.wpM_skip rfl ?_) | (refine State.wpM_all rfl rfl (fun K hK => ?_); go_simp; refine hK _ ?_; clear hK K))
                        refine State.wpM_act rfl rfl (fun F' w5 hC h0 ha hA => ?_) ?_
                        · exact acts_derive hM rfl hC ha (i := 9) (v := v9) rfl (hA ⟨9, .data⟩ (by simp) rfl) (by go_simp) (fun T h => h)
                        intro v10 ⟨w5, hC5⟩
                        obtain ⟨S5, ⟨y0_, rfl, -⟩, -⟩ := hC5.sup 10 _ rfl v10 (by simp [State.upd])
                        clear hC5 w5 S5
                        repeat (first | (refine State.wpM_skip rfl ?_) | (refine State.wpM_all rfl rfl (fun K hK => ?_); go_simp; refine hK _ ?_; clear hK K))
                        refine State.wpM_act rfl rfl (fun F' w5 hC h0 ha hA => ?_) ?_
                        · exact acts_derive hM rfl hC ha (i := 10) (v := .tuple #[(KE KR).v y0_, .bool bo]) (u := (KE KR).v y0_) rfl (hA ⟨10, .data⟩ (by simp) rfl) (by go_simp) (fun T h => by
                            obtain ⟨y', e, h1, h2, h3⟩ := h
                            exact ⟨y', tuple2_inj e, h1, h2, h3⟩)
                        intro v11 ⟨w5, hC5⟩
                        obtain ⟨S5, ⟨⟨kd5, ⟨oid5, ver5⟩, old5, ⟨l45, A45, c45⟩, ⟨l55, A55, c55⟩, ⟨l65, A65, c65⟩, fl5⟩, rfl, -⟩, -⟩ := hC5.sup 11 _ rfl v11 (by simp [State.upd])
                        clear hC5 w5 S5
                        rw [show (KE KR).v ⟨kd5, ⟨oid5, ver5⟩, old5, ⟨l45, A45, c45⟩, ⟨l55, A55, c55⟩, ⟨l65, A65, c65⟩, fl5⟩ = .agg #[.int .u8 kd5, .int .u32 oid5, .int .u32 ver5, .int .u8 old5, .slice A45 l45.length c45, .slice A55 l55.length c55, .slice A65 l65.length c65, .int .u8 fl5] from rfl]
                        repeat (first | (refine State.wpM_skip rfl ?_) | (refine State.wpM_all rfl rfl (fun K hK => ?_); go_simp; refine hK _ ?_; clear hK K))
                        refine State.wpM_act rfl rfl (fun F' w hC h0 ha _ => acts_box hM rfl hC h0 ha (cs := #[.int .u8 0, .int .u32 0, .int .u32 0, .int .u8 0, .slice none 0 0, .slice none 0 0, .slice none 0 0, .int .u8 0]) rfl (by go_simp)) ?_
                        intro v13 ⟨w5, hC5⟩
                        obtain ⟨g13, -, rfl, -⟩ := hC5.box 13 8 68 rfl v13 (by simp [State.upd])
                        clear hC5 w5
                        repeat (first | (refine State.wpM_skip rfl ?_) | (refine State.wpM_all rfl rfl (fun K hK => ?_); go_simp; refine hK _ ?_; clear hK K))
                        refine State.wpM_act rfl rfl (fun F' w hC h0 ha hA => ?_) ?_
                        · have hAj := hA ⟨13, .data⟩ (by simp) rfl
                          have hAc := hA ⟨11, .data⟩ (by simp) rfl
                          clear hA
                          refine acts_store hM hO (j := 13) (c := .ans 11) (n := 8) (g := g13) (t := 68) (cs := #[.int .u8 kd5, .int .u32 oid5, .int .u32 ver5, .int .u8 old5, .slice A45 l45.length c45, .slice A55 l55.length c55, .slice A65 l65.length c65, .int .u8 fl5]) rfl rfl hC ha hAj ⟨_, hAc, rfl⟩ rfl (fun cur hh hz => ?_)
                          refine run_op_store (t := 68) (x := .tmp 16) (y := .tmp 123) rfl ?_
                          exact run_storeAt_whole (v := .agg #[.int .u8 kd5, .int .u32 oid5, .int .u32 ver5, .int .u8 old5, .slice A45 l45.length c45, .slice A55 l55.length c55, .slice A65 l65.length c65, .int .u8 fl5]) i68 hh cells68.symm hz.symm ((KE KR).one ⟨kd5, ⟨oid5, ver5⟩, old5, ⟨l45, A45, c45⟩, ⟨l55, A55, c55⟩, ⟨l65, A65, c65⟩, fl5⟩)
                        rintro v14 -
                        repeat (first | (refine State.wpM_skip rfl ?_) | (refine State.wpM_all rfl rfl (fun K hK => ?_); go_simp; refine hK _ ?_; clear hK K))
                        refine State.wpM_nil fun w10 hC => ?_
                        have r13 := hC.store_ans (i := 14) (j := 13) (k := 11) (n := 8) (t := 68) rfl rfl (u := v14) (by simp [State.upd]) (g := g13) (by simp [State.upd]) (v := .agg #[.int .u8 kd5, .int .u32 oid5, .int .u32 ver5, .int .u8 old5, .slice A45 l45.length c45, .slice A55 l55.length c55, .slice A65 l65.length c65, .int .u8 fl5]) (by simp [State.upd])
                        obtain ⟨T11, ⟨y', e', h1, h2, h3⟩, h4, -⟩ := hC.sup 11 _ rfl (.agg #[.int .u8 kd5, .int .u32 oid5, .int .u32 ver5, .int .u8 old5, .slice A45 l45.length c45, .slice A55 l55.length c55, .slice A65 l65.length c65, .int .u8 fl5]) (by simp [State.upd])
                        obtain ⟨z13, cur13, ez13, hB13, -, -⟩ := hC.box 13 8 68 rfl (.pointer (some ⟨g13, 0, none⟩)) (by simp [State.upd])
                        injection ez13 with ez13; injection ez13 with ez13; injection ez13 with ez13 _ _
                        subst ez13
                        have hcy := Lib.hid (Er.c_inj (K := KR) (show (KE KR).v ⟨kd5, ⟨oid5, ver5⟩, old5, ⟨l45, A45, c45⟩, ⟨l55, A55, c55⟩, ⟨l65, A65, c65⟩, fl5⟩ = (KE KR).v y' from e'))
                        have HR13 := Lib.hid (show w10.heap[g13]? = some (.cells (Er.c y').toArray 68 (0, 0)) by rw [← hcy.out]; exact r13)
                        have HAT' := Lib.hid ((KE KR).up h2 (Same.refl _ _) h4 : (KE KR).at_ w10 (Lt w10.heap.size) y')
                        have H1 := Lib.hid h1; have HBC := Lib.hid hC.b
                        clear r13 e' h1 h2 h3 h4 hC hM hO
                        go_wp2
                        go_meet
                        exact ⟨y', g13, rfl, rfl, H1, ⟨HBC.out, hB13, HR13.out, HAT'.out⟩⟩
                      case rest =>
                        obtain ⟨⟨kd5, ⟨oid5, ver5⟩, old5, ⟨l45, A45, c45⟩, ⟨l55, A55, c55⟩, ⟨l65, A65, c65⟩, fl5⟩, g16, rfl, rfl, hyr, hC16⟩ := hcut
                        obtain ⟨w16, rfl⟩ : ∃ w16 : World, w16 = wc := ⟨_, rfl⟩
                        have R16 := Lib.hid (show w16.heap[g16]? = some (.cells #[.int .u8 kd5, .int .u32 oid5, .int .u32 ver5, .int .u8 old5, .slice A45 l45.length c45, .slice A55 l55.length c55, .slice A65 l65.length c65, .int .u8 fl5] 68 (0, 0)) from hC16.out.2.2.1)
                        have A16 := Lib.hid (show ErAt KR w16 (Lt w16.heap.size) ⟨kd5, ⟨oid5, ver5⟩, old5, ⟨l45, A45, c45⟩, ⟨l55, A55, c55⟩, ⟨l65, A65, c65⟩, fl5⟩ from hC16.out.2.2.2)
                        have HB16 := Lib.hid hC16.out.1
                        have S14 := Lib.hid ((HB16.out.block _ (row_lt R14.out)).trans R14.out)
                        have D14 := Lib.hid (A14.out.up (Same.below HB16.out lt_lt) (fun b h => Nat.lt_of_lt_of_le h HB16.out.size) : ErAt KP w16 (Lt w16.heap.size) ⟨kd3, ⟨oid3, ver3⟩, old3, ⟨l43, A43, c43⟩, ⟨l53, A53, c53⟩, ⟨l63, A63, c63⟩, fl3⟩)
                        have HSE := Lib.hid (show eo.Sm by have := evR_sm ⟨al, xs, kx, ex⟩ HSV.out; rwa [HEO.out] at this)
                        clear hC16 m0 m1 m2 m3 m4 m5 m6 m7 z2 R14 A14
                        go_wp2_with fail
                        go_cut [134] (fun s134 wx => s134 = .bool false ∧ Hid (Below w16.heap.size w16 wx))
                        case first =>
                          cases bo
                          · refine wp_region_fx (fzF18 w16.heap.size eo) (by kernel_rfl) (by kernel_rfl) ?_
                            (refine Mono.wpM_norm (fun K hK => ?_); go_simp; refine hK _ ?_; clear hK K); repeat (first | (refine Mono.wpM_all rfl rfl (fun K hK => ?_); go_simp; refine hK _ ?_; clear hK K) | (refine Mono.wpM_skip rfl ?_; refine Mono.wpM_norm (fun K hK => ?_); go_simp; refine hK _ ?_; clear hK K))
                            refine Mono.wpM_look (.agg #[.int .u8 kd3, .int .u32 oid3, .int .u32 ver3, .int .u8 old3, .slice A43 l43.length c43, .slice A53 l53.length c53, .slice A63 l63.length c63, .int .u8 fl3]) rfl rfl (fun w6 hc6 _ => ?_) ?_
                            · have hcl0 : w6.cell? ⟨g14, 0, none⟩ = some (.int .u8 kd3) := cell_of_row _ _ 0 _ 61 (0, 0) ((hc6.block _ (row_lt S14.out)).trans S14.out)
                              have hcl1 : w6.cell? ⟨g14, 1, none⟩ = some (.int .u32 oid3) := cell_of_row _ _ 1 _ 61 (0, 0) ((hc6.block _ (row_lt S14.out)).trans S14.out)
                              have hcl2 : w6.cell? ⟨g14, 2, none⟩ = some (.int .u32 ver3) := cell_of_row _ _ 2 _ 61 (0, 0) ((hc6.block _ (row_lt S14.out)).trans S14.out)
                              have hcl3 : w6.cell? ⟨g14, 3, none⟩ = some (.int .u8 old3) := cell_of_row _ _ 3 _ 61 (0, 0) ((hc6.block _ (row_lt S14.out)).trans S14.out)
                              have hcl4 : w6.cell? ⟨g14, 4, none⟩ = some (.slice A43 l43.length c43) := cell_of_row _ _ 4 _ 61 (0, 0) ((hc6.block _ (row_lt S14.out)).trans S14.out)
                              have hcl5 : w6.cell? ⟨g14, 5, none⟩ = some (.slice A53 l53.length c53) := cell_of_row _ _ 5 _ 61 (0, 0) ((hc6.block _ (row_lt S14.out)).trans S14.out)
                              have hcl6 : w6.cell? ⟨g14, 6, none⟩ = some (.slice A63 l63.length c63) := cell_of_row _ _ 6 _ 61 (0, 0) ((hc6.block _ (row_lt S14.out)).trans S14.out)
                              have hcl7 : w6.cell? ⟨g14, 7, none⟩ = some (.int .u8 fl3) := cell_of_row _ _ 7 _ 61 (0, 0) ((hc6.block _ (row_lt S14.out)).trans S14.out)
                              go_simp
                            (refine Mono.wpM_norm (fun K hK => ?_); go_simp; refine hK _ ?_; clear hK K); repeat (first | (refine Mono.wpM_all rfl rfl (fun K hK => ?_); go_simp; refine hK _ ?_; clear hK K) | (refine Mono.wpM_skip rfl ?_; refine Mono.wpM_norm (fun K hK => ?_); go_simp; refine hK _ ?_; clear hK K))
                            refine Mono.wpM_eff rfl rfl (fun w9 hc9 _ => ?_) ?_
                            · have hr := backEv_any ⟨kd3, ⟨oid3, ver3⟩, old3, ⟨l43, A43, c43⟩, ⟨l53, A53, c53⟩, ⟨l63, A63, c63⟩, fl3⟩ (Lt w16.heap.size) w9 (D14.out.up (Same.below hc9 lt_lt) fun _ h => h) (fun b h => Nat.lt_of_lt_of_le h hc9.size) (by rw [hye.out]; exact HSE.out)
                              rw [hye.out] at hr
                              exact steps_enter hr (by go_simp; first | done | rfl | exact ⟨rfl, rfl⟩) (ev_val hc9.size rfl)
                            rintro v5 ⟨wq, hq⟩
                            obtain ⟨⟨kd7, ⟨oid7, ver7⟩, old7, ⟨l47, A47, c47⟩, ⟨l57, A57, c57⟩, ⟨l67, A67, c67⟩, fl7⟩, -, rfl, -⟩ : ∃ y : Er, y.ev = eo ∧ v5 = (KE KR).v y ∧ w16.heap.size ≤ wq.heap.size ∧ ErAt KR wq (Since (Lt w16.heap.size) w16.heap.size wq) y := hq
                            clear wq
                            rw [show (KE KR).v ⟨kd7, ⟨oid7, ver7⟩, old7, ⟨l47, A47, c47⟩, ⟨l57, A57, c57⟩, ⟨l67, A67, c67⟩, fl7⟩ = .agg #[.int .u8 kd7, .int .u32 oid7, .int .u32 ver7, .int .u8 old7, .slice A47 l47.length c47, .slice A57 l57.length c57, .slice A67 l67.length c67, .int .u8 fl7] from rfl]
                            (refine Mono.wpM_norm (fun K hK => ?_); go_simp; refine hK _ ?_; clear hK K); repeat (first | (refine Mono.wpM_all rfl rfl (fun K hK => ?_); go_simp; refine hK _ ?_; clear hK K) | (refine Mono.wpM_skip rfl ?_; refine Mono.wpM_norm (fun K hK => ?_); go_simp; refine hK _ ?_; clear hK K))
                            refine Mono.wpM_look (.agg #[.int .u8 kd5, .int .u32 oid5, .int .u32 ver5, .int .u8 old5, .slice A45 l45.length c45, .slice A55 l55.length c55, .slice A65 l65.length c65, .int .u8 fl5]) rfl rfl (fun w6 hc6 _ => ?_) ?_
                            · have hcl0 : w6.cell? ⟨g16, 0, none⟩ = some (.int .u8 kd5) := cell_of_row _ _ 0 _ 68 (0, 0) ((hc6.block _ (row_lt R16.out)).trans R16.out)
                              have hcl1 : w6.cell? ⟨g16, 1, none⟩ = some (.int .u32 oid5) := cell_of_row _ _ 1 _ 68 (0, 0) ((hc6.block _ (row_lt R16.out)).trans R16.out)
                              have hcl2 : w6.cell? ⟨g16, 2, none⟩ = some (.int .u32 ver5) := cell_of_row _ _ 2 _ 68 (0, 0) ((hc6.block _ (row_lt R16.out)).trans R16.out)
                              have hcl3 : w6.cell? ⟨g16, 3, none⟩ = some (.int .u8 old5) := cell_of_row _ _ 3 _ 68 (0, 0) ((hc6.block _ (row_lt R16.out)).trans R16.out)
                              have hcl4 : w6.cell? ⟨g16, 4, none⟩ = some (.slice A45 l45.length c45) := cell_of_row _ _ 4 _ 68 (0, 0) ((hc6.block _ (row_lt R16.out)).trans R16.out)
                              have hcl5 : w6.cell? ⟨g16, 5, none⟩ = some (.slice A55 l55.length c55) := cell_of_row _ _ 5 _ 68 (0, 0) ((hc6.block _ (row_lt R16.out)).trans R16.out)
                              have hcl6 : w6.cell? ⟨g16, 6, none⟩ = some (.slice A65 l65.length c65) := cell_of_row _ _ 6 _ 68 (0, 0) ((hc6.block _ (row_lt R16.out)).trans R16.out)
                              have hcl7 : w6.cell? ⟨g16, 7, none⟩ = some (.int .u8 fl5) := cell_of_row _ _ 7 _ 68 (0, 0) ((hc6.block _ (row_lt R16.out)).trans R16.out)
                              go_simp
                            (refine Mono.wpM_norm (fun K hK => ?_); go_simp; refine hK _ ?_; clear hK K); repeat (first | (refine Mono.wpM_all rfl rfl (fun K hK => ?_); go_simp; refine hK _ ?_; clear hK K) | (refine Mono.wpM_skip rfl ?_; refine Mono.wpM_norm (fun K hK => ?_); go_simp; refine hK _ ?_; clear hK K))
                            refine Mono.wpM_eff rfl rfl (fun w9 hc9 hd => ?_) ?_
                            · obtain ⟨y', h0, e', h2, h3⟩ : ∃ y : Er, y.ev = eo ∧ Value.agg #[.int .u8 kd7, .int .u32 oid7, .int .u32 ver7, .int .u8 old7, .slice A47 l47.length c47, .slice A57 l57.length c57, .slice A67 l67.length c67, .int .u8 fl7] = (KE KR).v y ∧ w16.heap.size ≤ w9.heap.size ∧ ErAt KR w9 (Since (Lt w16.heap.size) w16.heap.size w9) y := hd ⟨5, .data⟩ (by simp) rfl
                              have hr := evSame_any y' ⟨kd5, ⟨oid5, ver5⟩, old5, ⟨l45, A45, c45⟩, ⟨l55, A55, c55⟩, ⟨l65, A65, c65⟩, fl5⟩ _ _ w9 h3 (A16.out.up (Same.below hc9 lt_lt) (fun b h => Nat.lt_of_lt_of_le h hc9.size : ∀ b, Lt w16.heap.size b → Lt w9.heap.size b)) (Since.lt fun b h => Nat.lt_of_lt_of_le h hc9.size) lt_lt (by rw [h0]; exact HSE.out) (h0.trans hyr.out.symm)
                              rw [← e'] at hr
                              exact steps_enter hr (by go_simp; first | done | rfl | exact ⟨rfl, rfl⟩) (bool_val (Lib.hid rfl) rfl)
                            rintro v7 ⟨wq, hq⟩
                            obtain rfl : v7 = _ := hq
                            clear wq
                            (refine Mono.wpM_norm (fun K hK => ?_); go_simp; refine hK _ ?_; clear hK K); repeat (first | (refine Mono.wpM_all rfl rfl (fun K hK => ?_); go_simp; refine hK _ ?_; clear hK K) | (refine Mono.wpM_skip rfl ?_; refine Mono.wpM_norm (fun K hK => ?_); go_simp; refine hK _ ?_; clear hK K))
                            refine Mono.wpM_nil fun w18 hc18 _ => ?_
                            go_wp2
                            go_meet
                            exact ⟨rfl, hc18⟩
                          · refine wp_region_fx (fzF18 w16.heap.size eo) (by kernel_rfl) (by kernel_rfl) ?_
                            (refine Mono.wpM_norm (fun K hK => ?_); go_simp; refine hK _ ?_; clear hK K); repeat (first | (refine Mono.wpM_all rfl rfl (fun K hK => ?_); go_simp; refine hK _ ?_; clear hK K) | (refine Mono.wpM_skip rfl ?_; refine Mono.wpM_norm (fun K hK => ?_); go_simp; refine hK _ ?_; clear hK K))
                            refine Mono.wpM_look (.agg #[.int .u8 kd3, .int .u32 oid3, .int .u32 ver3, .int .u8 old3, .slice A43 l43.length c43, .slice A53 l53.length c53, .slice A63 l63.length c63, .int .u8 fl3]) rfl rfl (fun w6 hc6 _ => ?_) ?_
                            · have hcl0 : w6.cell? ⟨g14, 0, none⟩ = some (.int .u8 kd3) := cell_of_row _ _ 0 _ 61 (0, 0) ((hc6.block _ (row_lt S14.out)).trans S14.out)
                              have hcl1 : w6.cell? ⟨g14, 1, none⟩ = some (.int .u32 oid3) := cell_of_row _ _ 1 _ 61 (0, 0) ((hc6.block _ (row_lt S14.out)).trans S14.out)
                              have hcl2 : w6.cell? ⟨g14, 2, none⟩ = some (.int .u32 ver3) := cell_of_row _ _ 2 _ 61 (0, 0) ((hc6.block _ (row_lt S14.out)).trans S14.out)
                              have hcl3 : w6.cell? ⟨g14, 3, none⟩ = some (.int .u8 old3) := cell_of_row _ _ 3 _ 61 (0, 0) ((hc6.block _ (row_lt S14.out)).trans S14.out)
                              have hcl4 : w6.cell? ⟨g14, 4, none⟩ = some (.slice A43 l43.length c43) := cell_of_row _ _ 4 _ 61 (0, 0) ((hc6.block _ (row_lt S14.out)).trans S14.out)
                              have hcl5 : w6.cell? ⟨g14, 5, none⟩ = some (.slice A53 l53.length c53) := cell_of_row _ _ 5 _ 61 (0, 0) ((hc6.block _ (row_lt S14.out)).trans S14.out)
                              have hcl6 : w6.cell? ⟨g14, 6, none⟩ = some (.slice A63 l63.length c63) := cell_of_row _ _ 6 _ 61 (0, 0) ((hc6.block _ (row_lt S14.out)).trans S14.out)
                              have hcl7 : w6.cell? ⟨g14, 7, none⟩ = some (.int .u8 fl3) := cell_of_row _ _ 7 _ 61 (0, 0) ((hc6.block _ (row_lt S14.out)).trans S14.out)
                              go_simp
                            (refine Mono.wpM_norm (fun K hK => ?_); go_simp; refine hK _ ?_; clear hK K); repeat (first | (refine Mono.wpM_all rfl rfl (fun K hK => ?_); go_simp; refine hK _ ?_; clear hK K) | (refine Mono.wpM_skip rfl ?_; refine Mono.wpM_norm (fun K hK => ?_); go_simp; refine hK _ ?_; clear hK K))
                            refine Mono.wpM_eff rfl rfl (fun w9 hc9 _ => ?_) ?_
                            · have hr := backEv_any ⟨kd3, ⟨oid3, ver3⟩, old3, ⟨l43, A43, c43⟩, ⟨l53, A53, c53⟩, ⟨l63, A63, c63⟩, fl3⟩ (Lt w16.heap.size) w9 (D14.out.up (Same.below hc9 lt_lt) fun _ h => h) (fun b h => Nat.lt_of_lt_of_le h hc9.size) (by rw [hye.out]; exact HSE.out)
                              rw [hye.out] at hr
                              exact steps_enter hr (by go_simp; first | done | rfl | exact ⟨rfl, rfl⟩) (ev_val hc9.size rfl)
                            rintro v5 ⟨wq, hq⟩
                            obtain ⟨⟨kd7, ⟨oid7, ver7⟩, old7, ⟨l47, A47, c47⟩, ⟨l57, A57, c57⟩, ⟨l67, A67, c67⟩, fl7⟩, -, rfl, -⟩ : ∃ y : Er, y.ev = eo ∧ v5 = (KE KR).v y ∧ w16.heap.size ≤ wq.heap.size ∧ ErAt KR wq (Since (Lt w16.heap.size) w16.heap.size wq) y := hq
                            clear wq
                            rw [show (KE KR).v ⟨kd7, ⟨oid7, ver7⟩, old7, ⟨l47, A47, c47⟩, ⟨l57, A57, c57⟩, ⟨l67, A67, c67⟩, fl7⟩ = .agg #[.int .u8 kd7, .int .u32 oid7, .int .u32 ver7, .int .u8 old7, .slice A47 l47.length c47, .slice A57 l57.length c57, .slice A67 l67.length c67, .int .u8 fl7] from rfl]
                            (refine Mono.wpM_norm (fun K hK => ?_); go_simp; refine hK _ ?_; clear hK K); repeat (first | (refine Mono.wpM_all rfl rfl (fun K hK => ?_); go_simp; refine hK _ ?_; clear hK K) | (refine Mono.wpM_skip rfl ?_; refine Mono.wpM_norm (fun K hK => ?_); go_simp; refine hK _ ?_; clear hK K))
                            refine Mono.wpM_look (.agg #[.int .u8 kd5, .int .u32 oid5, .int .u32 ver5, .int .u8 old5, .slice A45 l45.length c45, .slice A55 l55.length c55, .slice A65 l65.length c65, .int .u8 fl5]) rfl rfl (fun w6 hc6 _ => ?_) ?_
                            · have hcl0 : w6.cell? ⟨g16, 0, none⟩ = some (.int .u8 kd5) := cell_of_row _ _ 0 _ 68 (0, 0) ((hc6.block _ (row_lt R16.out)).trans R16.out)
                              have hcl1 : w6.cell? ⟨g16, 1, none⟩ = some (.int .u32 oid5) := cell_of_row _ _ 1 _ 68 (0, 0) ((hc6.block _ (row_lt R16.out)).trans R16.out)
                              have hcl2 : w6.cell? ⟨g16, 2, none⟩ = some (.int .u32 ver5) := cell_of_row _ _ 2 _ 68 (0, 0) ((hc6.block _ (row_lt R16.out)).trans R16.out)
                              have hcl3 : w6.cell? ⟨g16, 3, none⟩ = some (.int .u8 old5) := cell_of_row _ _ 3 _ 68 (0, 0) ((hc6.block _ (row_lt R16.out)).trans R16.out)
                              have hcl4 : w6.cell? ⟨g16, 4, none⟩ = some (.slice A45 l45.length c45) := cell_of_row _ _ 4 _ 68 (0, 0) ((hc6.block _ (row_lt R16.out)).trans R16.out)
                              have hcl5 : w6.cell? ⟨g16, 5, none⟩ = some (.slice A55 l55.length c55) := cell_of_row _ _ 5 _ 68 (0, 0) ((hc6.block _ (row_lt R16.out)).trans R16.out)
                              have hcl6 : w6.cell? ⟨g16, 6, none⟩ = some (.slice A65 l65.length c65) := cell_of_row _ _ 6 _ 68 (0, 0) ((hc6.block _ (row_lt R16.out)).trans R16.out)
                              have hcl7 : w6.cell? ⟨g16, 7, none⟩ = some (.int .u8 fl5) := cell_of_row _ _ 7 _ 68 (0, 0) ((hc6.block _ (row_lt R16.out)).trans R16.out)
                              go_simp
                            (refine Mono.wpM_norm (fun K hK => ?_); go_simp; refine hK _ ?_; clear hK K); repeat (first | (refine Mono.wpM_all rfl rfl (fun K hK => ?_); go_simp; refine hK _ ?_; clear hK K) | (refine Mono.wpM_skip rfl ?_; refine Mono.wpM_norm (fun K hK => ?_); go_simp; refine hK _ ?_; clear hK K))
                            refine Mono.wpM_eff rfl rfl (fun w9 hc9 hd => ?_) ?_
                            · obtain ⟨y', h0, e', h2, h3⟩ : ∃ y : Er, y.ev = eo ∧ Value.agg #[.int .u8 kd7, .int .u32 oid7, .int .u32 ver7, .int .u8 old7, .slice A47 l47.length c47, .slice A57 l57.length c57, .slice A67 l67.length c67, .int .u8 fl7] = (KE KR).v y ∧ w16.heap.size ≤ w9.heap.size ∧ ErAt KR w9 (Since (Lt w16.heap.size) w16.heap.size w9) y := hd ⟨5, .data⟩ (by simp) rfl
                              have hr := evSame_any y' ⟨kd5, ⟨oid5, ver5⟩, old5, ⟨l45, A45, c45⟩, ⟨l55, A55, c55⟩, ⟨l65, A65, c65⟩, fl5⟩ _ _ w9 h3 (A16.out.up (Same.below hc9 lt_lt) (fun b h => Nat.lt_of_lt_of_le h hc9.size : ∀ b, Lt w16.heap.size b → Lt w9.heap.size b)) (Since.lt fun b h => Nat.lt_of_lt_of_le h hc9.size) lt_lt (by rw [h0]; exact HSE.out) (h0.trans hyr.out.symm)
                              rw [← e'] at hr
                              exact steps_enter hr (by go_simp; first | done | rfl | exact ⟨rfl, rfl⟩) (bool_val (Lib.hid rfl) rfl)
                            rintro v7 ⟨wq, hq⟩
                            obtain rfl : v7 = _ := hq
                            clear wq
                            (refine Mono.wpM_norm (fun K hK => ?_); go_simp; refine hK _ ?_; clear hK K); repeat (first | (refine Mono.wpM_all rfl rfl (fun K hK => ?_); go_simp; refine hK _ ?_; clear hK K) | (refine Mono.wpM_skip rfl ?_; refine Mono.wpM_norm (fun K hK => ?_); go_simp; refine hK _ ?_; clear hK K))
                            refine Mono.wpM_nil fun w18 hc18 _ => ?_
                            go_wp2
                            go_meet
                            exact ⟨rfl, hc18⟩
                        case rest =>
                          obtain ⟨rfl, hb18⟩ := hcut
                          obtain ⟨w18, rfl⟩ : ∃ w18 : World, w18 = wc := ⟨_, rfl⟩
                          have HB18 : Hid (Below wo.heap.size wo w18) := HBk.out.trans ((HB14.out.trans ((HB16.out.trans (hb18.out.mono HB16.out.size)).mono HB14.out.size)).mono HBk.out.size)
                          clear hb18
                          go_wp2
                          go_roundw
                          case rel => exact ⟨k + 1, by omega, by go_num, HB18⟩
                          case measure => simp [intOf]; omega
                  · have hlast : Hid (Below w8.heap.size w8 wr) := HB0.out.trans (hbk.out.mono HB0.out.size)
                    clear hbk
                    go_wp2
                    go_roundw
                    case rel => exact ⟨j + 1, by omega, by go_num, hlast⟩
                    case measure => simp [intOf]; omega
        · clear hb
          go_wp2_with fail
          refine wp_region_fx (fzF20 (l.map Tr.tx) ((l.map Tr.tx).filterMap (txP ⟨al, xs, kx, ex⟩))) (by kernel_rfl) (by kernel_rfl) ?_
          (refine Mono.wpM_norm (fun K hK => ?_); go_simp; refine hK _ ?_; clear hK K); repeat (first | (refine Mono.wpM_all rfl rfl (fun K hK => ?_); go_simp; refine hK _ ?_; clear hK K) | (refine Mono.wpM_skip rfl ?_; refine Mono.wpM_norm (fun K hK => ?_); go_simp; refine hK _ ?_; clear hK K))
          refine Mono.wpM_look (.agg #[.bool al, .slice A1 xs.length c1, .int .u8 kx, .bool ex]) rfl rfl (fun w6 hc6 _ => ?_) ?_
          · have hcl0 : w6.cell? ⟨g7, 0, none⟩ = some (.bool al) := cell_of_row _ _ 0 _ 28 (0, 0) ((hc6.block _ (row_lt HXr.out.o)).trans HXr.out.o)
            have hcl1 : w6.cell? ⟨g7, 1, none⟩ = some (.slice A1 xs.length c1) := cell_of_row _ _ 1 _ 28 (0, 0) ((hc6.block _ (row_lt HXr.out.o)).trans HXr.out.o)
            have hcl2 : w6.cell? ⟨g7, 2, none⟩ = some (.int .u8 kx) := cell_of_row _ _ 2 _ 28 (0, 0) ((hc6.block _ (row_lt HXr.out.o)).trans HXr.out.o)
            have hcl3 : w6.cell? ⟨g7, 3, none⟩ = some (.bool ex) := cell_of_row _ _ 3 _ 28 (0, 0) ((hc6.block _ (row_lt HXr.out.o)).trans HXr.out.o)
            go_simp
          (refine Mono.wpM_norm (fun K hK => ?_); go_simp; refine hK _ ?_; clear hK K); repeat (first | (refine Mono.wpM_all rfl rfl (fun K hK => ?_); go_simp; refine hK _ ?_; clear hK K) | (refine Mono.wpM_skip rfl ?_; refine Mono.wpM_norm (fun K hK => ?_); go_simp; refine hK _ ?_; clear hK K))
          refine Mono.wpM_eff rfl rfl (fun w9 hc9 _ => steps_enter (passV ⟨al, xs, kx, ex⟩ A1 c1 (.slice Ay ys.length cy) (l.map Tr.tx) w9 (HXr.out.f.ext hc9) ⟨OX.out.k0, OX.out.k1⟩ (by simp only; omega) (HTr.out.up hc9) HOK.out) (by go_simp; first | done | rfl | exact ⟨rfl, rfl⟩) (txs_val rfl rfl)) ?_
          rintro v2 -
          (refine Mono.wpM_norm (fun K hK => ?_); go_simp; refine hK _ ?_; clear hK K); repeat (first | (refine Mono.wpM_all rfl rfl (fun K hK => ?_); go_simp; refine hK _ ?_; clear hK K) | (refine Mono.wpM_skip rfl ?_; refine Mono.wpM_norm (fun K hK => ?_); go_simp; refine hK _ ?_; clear hK K))
          refine Mono.wpM_eff rfl rfl (fun w9 hc9 hd => ?_) ?_
          · skip
            have d2 : TxsAt KP w9 v2 ((l.map Tr.tx).filterMap (txP ⟨al, xs, kx, ex⟩)) := hd ⟨2, .data⟩ (by simp) rfl
            exact steps_enter (backV v2 ((l.map Tr.tx).filterMap (txP ⟨al, xs, kx, ex⟩)) w9 d2 HK1.out) (by go_simp; first | done | rfl | exact ⟨rfl, rfl⟩) (txs_val rfl rfl)
          rintro v3 -
          (refine Mono.wpM_norm (fun K hK => ?_); go_simp; refine hK _ ?_; clear hK K); repeat (first | (refine Mono.wpM_all rfl rfl (fun K hK => ?_); go_simp; refine hK _ ?_; clear hK K) | (refine Mono.wpM_skip rfl ?_; refine Mono.wpM_norm (fun K hK => ?_); go_simp; refine hK _ ?_; clear hK K))
          refine Mono.wpM_look (.agg #[.bool al, .slice A xs.length c, .int .u8 kx, .bool ex]) rfl rfl (fun w6 hc6 _ => ?_) ?_
          · have hcl0 : w6.cell? ⟨w.heap.size, 0, none⟩ = some (.bool al) := cell_of_row _ _ 0 _ 24 (0, 0) ((hc6.block _ (row_lt PR.out)).trans PR.out)
            have hcl1 : w6.cell? ⟨w.heap.size, 1, none⟩ = some (.slice A xs.length c) := cell_of_row _ _ 1 _ 24 (0, 0) ((hc6.block _ (row_lt PR.out)).trans PR.out)
            have hcl2 : w6.cell? ⟨w.heap.size, 2, none⟩ = some (.int .u8 kx) := cell_of_row _ _ 2 _ 24 (0, 0) ((hc6.block _ (row_lt PR.out)).trans PR.out)
            have hcl3 : w6.cell? ⟨w.heap.size, 3, none⟩ = some (.bool ex) := cell_of_row _ _ 3 _ 24 (0, 0) ((hc6.block _ (row_lt PR.out)).trans PR.out)
            go_simp
          (refine Mono.wpM_norm (fun K hK => ?_); go_simp; refine hK _ ?_; clear hK K); repeat (first | (refine Mono.wpM_all rfl rfl (fun K hK => ?_); go_simp; refine hK _ ?_; clear hK K) | (refine Mono.wpM_skip rfl ?_; refine Mono.wpM_norm (fun K hK => ?_); go_simp; refine hK _ ?_; clear hK K))
          refine Mono.wpM_eff rfl rfl (fun w9 hc9 _ => steps_enter (passRV ⟨al, xs, kx, ex⟩ A c ⟨l, C, e⟩ w9 (HFr.out.ext hc9) OX.out.k0 OX.out.k1 (by simp only; omega) (HRr.out.up (Same.below hc9 lt_lt) (fun b h => Nat.lt_of_lt_of_le h hc9.size)) HOK.out) (by go_simp; first | done | rfl | exact ⟨rfl, rfl⟩) (txs_val rfl rfl)) ?_
          rintro v6 -
          (refine Mono.wpM_norm (fun K hK => ?_); go_simp; refine hK _ ?_; clear hK K); repeat (first | (refine Mono.wpM_all rfl rfl (fun K hK => ?_); go_simp; refine hK _ ?_; clear hK K) | (refine Mono.wpM_skip rfl ?_; refine Mono.wpM_norm (fun K hK => ?_); go_simp; refine hK _ ?_; clear hK K))
          refine Mono.wpM_eff rfl rfl (fun w9 hc9 hd => ?_) ?_
          · skip
            have d3 : TxsAt KR w9 v3 ((l.map Tr.tx).filterMap (txP ⟨al, xs, kx, ex⟩)) := hd ⟨3, .data⟩ (by simp) rfl
            have d6 : TxsAt KR w9 v6 ((l.map Tr.tx).filterMap (txP ⟨al, xs, kx, ex⟩)) := hd ⟨6, .data⟩ (by simp) rfl
            exact steps_enter (sameV v3 v6 ((l.map Tr.tx).filterMap (txP ⟨al, xs, kx, ex⟩)) w9 d3 d6 HK1.out) (by go_simp; first | done | rfl | exact ⟨rfl, rfl⟩) (bool_val (Lib.hid rfl) rfl)
          rintro v7 ⟨wq, hq⟩
          obtain rfl : v7 = _ := hq
          clear wq
          (refine Mono.wpM_norm (fun K hK => ?_); go_simp; refine hK _ ?_; clear hK K); repeat (first | (refine Mono.wpM_all rfl rfl (fun K hK => ?_); go_simp; refine hK _ ?_; clear hK K) | (refine Mono.wpM_skip rfl ?_; refine Mono.wpM_norm (fun K hK => ?_); go_simp; refine hK _ ?_; clear hK K))
          refine Mono.wpM_eff rfl rfl (fun w9 hc9 _ => steps_enter (backV (.slice Ay ys.length cy) (l.map Tr.tx) w9 (HTr.out.up hc9) HOK.out) (by go_simp; first | done | rfl | exact ⟨rfl, rfl⟩) (txs_val rfl rfl)) ?_
          rintro v10 -
          (refine Mono.wpM_norm (fun K hK => ?_); go_simp; refine hK _ ?_; clear hK K); repeat (first | (refine Mono.wpM_all rfl rfl (fun K hK => ?_); go_simp; refine hK _ ?_; clear hK K) | (refine Mono.wpM_skip rfl ?_; refine Mono.wpM_norm (fun K hK => ?_); go_simp; refine hK _ ?_; clear hK K))
          refine Mono.wpM_eff rfl rfl (fun w9 hc9 hd => ?_) ?_
          · skip
            have d10 : TxsAt KR w9 v10 (l.map Tr.tx) := hd ⟨10, .data⟩ (by simp) rfl
            exact steps_enter (sameV v10 (.slice C l.length e) (l.map Tr.tx) w9 d10 ⟨l, C, e, rfl, rfl, HRr.out.up (Same.below hc9 lt_lt) (fun b h => Nat.lt_of_lt_of_le h hc9.size)⟩ HOK.out) (by go_simp; first | done | rfl | exact ⟨rfl, rfl⟩) (bool_val (Lib.hid rfl) rfl)
          rintro v12 ⟨wq, hq⟩
          obtain rfl : v12 = _ := hq
          clear wq
          (refine Mono.wpM_norm (fun K hK => ?_); go_simp; refine hK _ ?_; clear hK K); repeat (first | (refine Mono.wpM_all rfl rfl (fun K hK => ?_); go_simp; refine hK _ ?_; clear hK K) | (refine Mono.wpM_skip rfl ?_; refine Mono.wpM_norm (fun K hK => ?_); go_simp; refine hK _ ?_; clear hK K))
          refine Mono.wpM_eff rfl rfl (fun w9 hc9 _ => steps_enter (awake_any w9) (by go_simp; first | done | rfl | exact ⟨rfl, rfl⟩) (bool_val (Lib.hid rfl) rfl)) ?_
          rintro v15 ⟨wq, hq⟩
          obtain rfl : v15 = _ := hq
          clear wq
          (refine Mono.wpM_norm (fun K hK => ?_); go_simp; refine hK _ ?_; clear hK K); repeat (first | (refine Mono.wpM_all rfl rfl (fun K hK => ?_); go_simp; refine hK _ ?_; clear hK K) | (refine Mono.wpM_skip rfl ?_; refine Mono.wpM_norm (fun K hK => ?_); go_simp; refine hK _ ?_; clear hK K))
          refine Mono.wpM_nil fun w12 hc12 _ => ?_
          have HB12 := Lib.hid (HBr.out.trans (hc12.mono HBr.out.size))
          go_wp2
          go_ret
          exact ⟨rfl, HB12.out⟩
  · clear hb3 hg
    go_wp2
    go_ret
    exact ⟨rfl, HB.out⟩
end Go.Proofs.Ytaaijgalminafaa
