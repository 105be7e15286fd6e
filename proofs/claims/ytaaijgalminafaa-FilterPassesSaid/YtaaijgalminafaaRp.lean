import Derived.Test.YtaaijgalminafaaDv
/-
  Layer 24: what passes of transactions, by the reference (f18) (printed by gen_rp.py).
-/
namespace Go.Proofs.Ytaaijgalminafaa
open Go.RowKit State Mem
attribute [local go_sem] Mono.pureAt Mono.pureUpon
attribute [local irreducible] Mono.steps Mono.wpM State.acts State.wpM

def okL (S : Nat → Prop) (B : Nat) (e : Ev) (b : Bool) : List (Nat × Mem.Kind) := [(9, .sup (supEvB S B KR e b)), (10, .sup (supEvB S B KR e b)), (11, .sup (supEv S B KR e)), (13, .box 8 68), (14, .store 13 (.ans 11))]
theorem Mem.Mem.store_ans {kind : Nat → Mem.Kind} {W w : World} {F : Nat → Option Value} (h : Mem.Mem kind W F w) {i j n k : Nat} {t : TypeId} (hk : kind i = .store j (.ans k)) (hj : kind j = .box n t) {u : Value} (hu : F i = some u) {g : Nat} (hg : F j = some (.pointer (some ⟨g, 0, none⟩))) {v : Value} (hv : F k = some v) : w.heap[g]? = some (.cells v.cells t (0, 0)) :=
  h.store i j n t _ hk hj u hu g hg _ ⟨v, hv, rfl⟩
theorem cells68 : Try.prog.cellsOf 68 = 8 := by kernel_rfl
theorem tuple2_inj {a b c d : Value} (h : Value.tuple #[a, b] = .tuple #[c, d]) : a = c := by
  injection h with h
  have := congrArg Array.toList h
  injection this
set_option maxRecDepth 100000 in
set_option maxHeartbeats 12800000 in
/-- What passes of transactions: the reference's. -/
theorem passR_any (f : Fl) (A0 : Option Addr) (c0 : Nat) (r : Ro Tr) (S : Nat → Prop) (w : World) (hF : FlAt w w.heap.size f A0 c0) (hk0 : 0 ≤ f.kinds) (hk1 : f.kinds < 256) (hlf : f.oids.length ≤ 1000000) (hR : RoAt (KT KR) w S r) (hS : ∀ b, S b → b < w.heap.size) (hl : r.l.length ≤ 1000)
    (hok : ∀ t ∈ r.l, (Tr.tx t).Ok) : Calls Try.prog 18 #[f.v A0 c0, r.v] w (RetTxs KR S ((r.l.map Tr.tx).filterMap (txP f)) w) := by
  obtain ⟨i0, hi, hz0, hz1, hz2⟩ := info_parts Try.info53
  obtain ⟨j0, hj0, hy0, hy1, hy2⟩ := info_parts Try.info68
  obtain ⟨l, A, c⟩ := r
  obtain ⟨al, xs, kx, em⟩ := f
  simp only at hk0 hk1 hlf hl hok ⊢
  have HF := Lib.hid hF; have HR0 := Lib.hid hR; have HOk := Lib.hid hok
  clear hF hR hok
  show Calls Try.prog 18 #[.agg #[.bool al, .slice A0 xs.length c0, .int .u8 kx, .bool em], .slice A l.length c] w _
  go_enter Try.func18, Try.ntmps18
  go_wp2_with fail
  generalize hW : World.alloc w _ = W
  have hbW := Lib.hid (show Below w.heap.size w W by rw [← hW]; exact (Below.refl _ w).alloc (Nat.le_refl _) _)
  have P0 := Lib.hid (show W.heap[w.heap.size]? = some (.cells #[.bool al, .slice A0 xs.length c0, .int .u8 kx, .bool em] 24 (0, 0)) by rw [← hW]; exact heap_alloc_new w _)
  have HFW := Lib.hid (HF.out.ext hbW.out)
  have HR := Lib.hid (HR0.out.up (Same.below hbW.out hS) (fun _ h => h))
  have hS : ∀ b, S b → b < W.heap.size := fun b h => Nat.lt_of_lt_of_le (hS b h) hbW.out.size
  have hlw := row_lt P0.out
  clear hW HF HR0
  go_loopw [5, 6] (fun s5 s6 wr => ∃ (j : Nat) (ys : List Tr), j ≤ l.length ∧ s6 = .int .i64 (j : Int) ∧ Below W.heap.size W wr ∧ Hid (OwE (KT KR) S W.heap.size 53 wr s5 ys) ∧ Hid (ys.map Tr.tx = ((l.take j).map Tr.tx).filterMap (txP ⟨al, xs, kx, em⟩)) ∧ Hid (ys.length ≤ j)) (fun _ s6 _ => l.length - (intOf s6).toNat)
  case atStart => exact ⟨0, [], by omega, rfl, Below.refl _ _, OwE.nil, by simp [Hid], by simp [Hid]⟩
  case round =>
    obtain ⟨j, ys, hj, rfl, hb, hO, hm, hyl⟩ := hrel
    by_cases hlt : j < l.length
    · have hd : (j : Int) < (l.length : Int) := by omega
      have HB := Lib.hid hb
      have hsz := hb.size
      obtain ⟨wb, rfl⟩ : ∃ wb : World, wb = wr := ⟨_, rfl⟩
      have hRr : RoAt (KT KR) wb S ⟨l, A, c⟩ := HR.out.up (Same.below hb hS) (fun _ h => h)
      obtain ⟨b, off, e0, hSb, hcell⟩ := hRr.get hlt
      simp only at e0
      subst e0
      have hcj := hcell j hlt
      have hsn := Lib.hid (fm_snoc (ab := Tr.tx) (p := txP ⟨al, xs, kx, em⟩) hlt)
      have hat := hRr.el _ (List.getElem_mem hlt)
      have hsj := HOk.out _ (List.getElem_mem hlt)
      clear hcell hRr
      generalize l[j] = x at *
      obtain ⟨xid, stp, ⟨vs, Av, cv⟩⟩ := x
      have k0 : wb.cell? ⟨b, off + j * 3, none⟩ = some (.int .u32 xid) := hcj 0 _ rfl
      have k1 : wb.cell? ⟨b, off + j * 3 + 1, none⟩ = some (.int .u64 stp) := hcj 1 _ rfl
      have k2 : wb.cell? ⟨b, off + j * 3 + 2, none⟩ = some (.slice Av vs.length cv) := hcj 2 _ rfl
      have hbl : b < wb.heap.size := Nat.lt_of_lt_of_le (hS b hSb) hsz
      have hSb' : ∀ b, S b → b < wb.heap.size := fun b h => Nat.lt_of_lt_of_le (hS b h) hsz
      have HAT := Lib.hid (hat : RoAt (KE KR) wb S ⟨vs, Av, cv⟩); have HSJ := Lib.hid hsj
      have hvl : vs.length ≤ 1000 := by have := hsj.n; simpa [Tr.tx] using this
      have K2 := Lib.hid k2
      have PB := Lib.hid ((hb.block _ hlw).trans P0.out)
      have HFb := Lib.hid (HFW.out.ext hb)
      clear hcj hat hsj
      go_wp2_with fail
      refine wp_region_fx_tail 12 (bxF wb.heap.size 53) (by kernel_rfl) (by kernel_rfl) (by kernel_rfl) (by kernel_rfl) ?_
      repeat (first | (refine Mono.wpM_skip rfl ?_) | (refine Mono.wpM_all rfl rfl (fun K hK => ?_); go_simp; refine hK _ ?_; clear hK K))
      refine Mono.wpM_look (.int .u32 xid) rfl rfl (fun w6 hc6 _ => ?_) ?_
      · have hcl0 : w6.cell? ⟨b, off + j * 3, none⟩ = some (.int .u32 xid) := (hc6.cell hbl).trans k0
        go_simp
      repeat (first | (refine Mono.wpM_skip rfl ?_) | (refine Mono.wpM_all rfl rfl (fun K hK => ?_); go_simp; refine hK _ ?_; clear hK K))
      refine Mono.wpM_look (.int .u64 stp) rfl rfl (fun w6 hc6 _ => ?_) ?_
      · have hcl0 : w6.cell? ⟨b, off + j * 3 + 1, none⟩ = some (.int .u64 stp) := (hc6.cell hbl).trans k1
        go_simp
      repeat (first | (refine Mono.wpM_skip rfl ?_) | (refine Mono.wpM_all rfl rfl (fun K hK => ?_); go_simp; refine hK _ ?_; clear hK K))
      refine Mono.wpM_eff rfl rfl (fun w9 hc9 _ => steps_box rfl hc9.size (by go_simp)) ?_
      rintro v11 ⟨wq, hq⟩
      obtain ⟨g, rfl, -, -⟩ : ∃ g, v11 = .pointer (some ⟨g, 0, none⟩) ∧ wb.heap.size ≤ g ∧ wq.heap[g]? = some (.cells #[.int .u32 0, .int .u64 0, .slice none 0 0] 53 (0, 0)) := hq
      clear wq
      (refine Mono.wpM_norm (fun K hK => ?_); go_simp; refine hK _ ?_; clear hK K)
      refine Mono.wpM_nil fun w10 hc10 hf => ?_
      obtain ⟨g', eg, hg, qg⟩ : ∃ g', Value.pointer (some ⟨g, 0, none⟩) = .pointer (some ⟨g', 0, none⟩) ∧ wb.heap.size ≤ g' ∧ w10.heap[g']? = some (.cells #[.int .u32 0, .int .u64 0, .slice none 0 0] 53 (0, 0)) := hf 11
      injection eg with eg; injection eg with eg; injection eg with eg _ _
      subst eg
      have hb1 := below_setRow hc10 hg (cs := #[.int .u32 xid, .int .u64 stp, .slice none 0 0])
      have hh1 := setRow_heap w10 g _ #[.int .u32 xid, .int .u64 stp, .slice none 0 0] 53 (0, 0) qg
      have HB1 := Lib.hid hb1; have HH1 := Lib.hid hh1
      clear hb1 hh1 hf k0 k1 k2 hb
      show wpList _ _ _ [_] _ _
      refine wpList_store_row rfl 53 _ _ rfl g rfl #[.int .u32 xid, .int .u64 stp, .slice none 0 0] rfl _ 53 qg (by kernel_rfl) rfl ((KT KR).one ⟨xid, stp, ⟨[], none, 0⟩⟩) rfl ?_
      generalize w10.setRow g #[.int .u32 xid, .int .u64 stp, .slice none 0 0] = w1 at *
      have hs1 := HB1.out.size
      have HJ0 := Lib.hid (⟨row_lt HH1.out, grown_refl _ _, HH1.out, OwE.nil⟩ : TxJ KR S 53 68 g xid stp w1 w1 (.slice none 0 0) [])
      have hS1 : ∀ b, S b → b < w1.heap.size := fun b h => Nat.lt_of_lt_of_le (hSb' b h) hs1
      have hSg : ∀ b, S b → b ≠ g := fun b h e => by have := hSb' b h; omega
      clear qg hc10 HH1
      go_wp2
      go_loopw [8] (fun s8 wr => ∃ (k : Nat) (v : Value) (es : List Er), k ≤ vs.length ∧ s8 = .int .i64 (k : Int) ∧ Hid (TxJ KR S 53 68 g xid stp w1 wr v es) ∧ Hid (es.map Er.ev = ((vs.take k).map Er.ev).filterMap (evP ⟨al, xs, kx, em⟩)) ∧ Hid (es.length ≤ k)) (fun s8 _ => vs.length - (intOf s8).toNat)
      case atStart => exact ⟨0, _, [], by omega, rfl, HJ0, by simp [Hid], by simp [Hid]⟩
      case round =>
        obtain ⟨k, v, es, hk, rfl, hJ, hme, hel⟩ := hrel
        have hle := hJ.out.gr.size
        have hsm1 : Same S wb wr := (Same.below HB1.out hSb').trans (Same.grown hJ.out.gr fun b h => ⟨hS1 b h, fun e => hSg b h (by injection e with e; exact e.symm)⟩)
        have hbr0 := Lib.hid (hJ.out.below HB1.out hg hs1)
        have m2 : wr.cell? ⟨b, off + j * 3 + 2, none⟩ = some (.slice Av vs.length cv) := (hsm1 ⟨b, off + j * 3 + 2, none⟩ hSb).trans K2.out
        have hSr : ∀ b, S b → b < wr.heap.size := fun b h => Nat.lt_of_lt_of_le (hS1 b h) hle
        have PR := Lib.hid ((hbr0.out.block _ (row_lt PB.out)).trans PB.out)
        have HFr := Lib.hid (HFb.out.ext hbr0.out)
        by_cases hlk : k < vs.length
        · have hdk : (k : Int) < (vs.length : Int) := by omega
          have hRv : RoAt (KE KR) wr S ⟨vs, Av, cv⟩ := HAT.out.up hsm1 (fun _ h => h)
          obtain ⟨bv, ov, e1, hSv, hcellv⟩ := hRv.get hlk
          simp only at e1
          subst e1
          have hcv := hcellv k hlk
          have hse := Lib.hid (fm_snoc (ab := Er.ev) (p := evP ⟨al, xs, kx, em⟩) hlk)
          have hav := hRv.el _ (List.getElem_mem hlk)
          have hsv := HSJ.out.ev _ (by show vs[k].ev ∈ vs.map Er.ev; exact List.mem_map.2 ⟨_, List.getElem_mem hlk, rfl⟩)
          have hbv : bv < wr.heap.size := hSr bv hSv
          clear hcellv hRv
          generalize vs[k] = x at *
          obtain ⟨kd, ⟨oid, ver⟩, old, ⟨l1, A1, c1⟩, ⟨l2, A2, c2⟩, ⟨l3, A3, c3⟩, fl⟩ := x
          have n0 : wr.cell? ⟨bv, ov + k * 8, none⟩ = some (.int .u8 kd) := hcv 0 _ rfl
          have n1 : wr.cell? ⟨bv, ov + k * 8 + 1, none⟩ = some (.int .u32 oid) := hcv 1 _ rfl
          have n2 : wr.cell? ⟨bv, ov + k * 8 + 2, none⟩ = some (.int .u32 ver) := hcv 2 _ rfl
          have n3 : wr.cell? ⟨bv, ov + k * 8 + 3, none⟩ = some (.int .u8 old) := hcv 3 _ rfl
          have n4 : wr.cell? ⟨bv, ov + k * 8 + 4, none⟩ = some (.slice A1 l1.length c1) := hcv 4 _ rfl
          have n5 : wr.cell? ⟨bv, ov + k * 8 + 5, none⟩ = some (.slice A2 l2.length c2) := hcv 5 _ rfl
          have n6 : wr.cell? ⟨bv, ov + k * 8 + 6, none⟩ = some (.slice A3 l3.length c3) := hcv 6 _ rfl
          have n7 : wr.cell? ⟨bv, ov + k * 8 + 7, none⟩ = some (.int .u8 fl) := hcv 7 _ rfl
          have HAV := Lib.hid (hav : ErAt KR wr S ⟨kd, ⟨oid, ver⟩, old, ⟨l1, A1, c1⟩, ⟨l2, A2, c2⟩, ⟨l3, A3, c3⟩, fl⟩); have HSV := Lib.hid hsv
          have hbl2 : b < wr.heap.size := hSr b hSb
          have RO := Lib.hid hJ.out.o
          clear hcv hav hsv hsm1
          obtain ⟨eo, heo⟩ : ∃ e, (evR ⟨al, xs, kx, em⟩ (Er.ev ⟨kd, ⟨oid, ver⟩, old, ⟨l1, A1, c1⟩, ⟨l2, A2, c2⟩, ⟨l3, A3, c3⟩, fl⟩)).1 = e := ⟨_, rfl⟩
          obtain ⟨bo, hbo⟩ : ∃ e, (evR ⟨al, xs, kx, em⟩ (Er.ev ⟨kd, ⟨oid, ver⟩, old, ⟨l1, A1, c1⟩, ⟨l2, A2, c2⟩, ⟨l3, A3, c3⟩, fl⟩)).2 = e := ⟨_, rfl⟩
          have HEO := Lib.hid heo; have HBO := Lib.hid hbo
          clear heo hbo
          go_wp2_with fail
          go_cut [9, 10] (fun s9 s10 wx => ∃ (y : Er) (g9 : Nat), s9 = .pointer (some ⟨g9, 0, none⟩) ∧ s10 = .bool bo ∧ Hid (y.ev = eo) ∧ Hid (Below wr.heap.size wr wx ∧ wr.heap.size ≤ g9 ∧ wx.heap[g9]? = some (.cells (Er.c y).toArray 68 (0, 0)) ∧ ErAt KR wx (Since S wr.heap.size wx) y))
          case first =>
            refine wp_region_mem (okL S wr.heap.size eo bo) (by kernel_rfl) (by kernel_rfl) (by kernel_rfl) (by kernel_rfl) (fun hM hO => ?_)
            repeat (first | (refine State.wpM_skip rfl ?_) | (refine State.wpM_all rfl rfl (fun K hK => ?_); go_simp; refine hK _ ?_; clear hK K))
            refine State.wpM_look (.agg #[.bool al, .slice A0 xs.length c0, .int .u8 kx, .bool em]) rfl rfl (fun F' w6 hC _ _ => ?_) ?_
            · have q0 : w6.cell? ⟨w.heap.size, 0, none⟩ = some (.bool al) := cell_of_row _ _ 0 _ 24 (0, 0) ((hC.b.block _ (row_lt PR.out)).trans PR.out)
              have q1 : w6.cell? ⟨w.heap.size, 1, none⟩ = some (.slice A0 xs.length c0) := cell_of_row _ _ 1 _ 24 (0, 0) ((hC.b.block _ (row_lt PR.out)).trans PR.out)
              have q2 : w6.cell? ⟨w.heap.size, 2, none⟩ = some (.int .u8 kx) := cell_of_row _ _ 2 _ 24 (0, 0) ((hC.b.block _ (row_lt PR.out)).trans PR.out)
              have q3 : w6.cell? ⟨w.heap.size, 3, none⟩ = some (.bool em) := cell_of_row _ _ 3 _ 24 (0, 0) ((hC.b.block _ (row_lt PR.out)).trans PR.out)
              go_simp
            repeat (first | (refine State.wpM_skip rfl ?_) | (refine State.wpM_all rfl rfl (fun K hK => ?_); go_simp; refine hK _ ?_; clear hK K))
            refine State.wpM_look (.slice (some ⟨bv, ov, none⟩) vs.length cv) rfl rfl (fun F' w6 hC _ _ => ?_) ?_
            · have q0 : w6.cell? ⟨b, off + j * 3 + 2, none⟩ = some (.slice (some ⟨bv, ov, none⟩) vs.length cv) := (hC.b.cell hbl2).trans m2
              go_simp
            repeat (first | (refine State.wpM_skip rfl ?_) | (refine State.wpM_all rfl rfl (fun K hK => ?_); go_simp; refine hK _ ?_; clear hK K))
            refine State.wpM_look (.agg #[.int .u8 kd, .int .u32 oid, .int .u32 ver, .int .u8 old, .slice A1 l1.length c1, .slice A2 l2.length c2, .slice A3 l3.length c3, .int .u8 fl]) rfl rfl (fun F' w6 hC _ _ => ?_) ?_
            · have q0 : w6.cell? ⟨bv, ov + k * 8, none⟩ = some (.int .u8 kd) := (hC.b.cell hbv).trans n0
              have q1 : w6.cell? ⟨bv, ov + k * 8 + 1, none⟩ = some (.int .u32 oid) := (hC.b.cell hbv).trans n1
              have q2 : w6.cell? ⟨bv, ov + k * 8 + 2, none⟩ = some (.int .u32 ver) := (hC.b.cell hbv).trans n2
              have q3 : w6.cell? ⟨bv, ov + k * 8 + 3, none⟩ = some (.int .u8 old) := (hC.b.cell hbv).trans n3
              have q4 : w6.cell? ⟨bv, ov + k * 8 + 4, none⟩ = some (.slice A1 l1.length c1) := (hC.b.cell hbv).trans n4
              have q5 : w6.cell? ⟨bv, ov + k * 8 + 5, none⟩ = some (.slice A2 l2.length c2) := (hC.b.cell hbv).trans n5
              have q6 : w6.cell? ⟨bv, ov + k * 8 + 6, none⟩ = some (.slice A3 l3.length c3) := (hC.b.cell hbv).trans n6
              have q7 : w6.cell? ⟨bv, ov + k * 8 + 7, none⟩ = some (.int .u8 fl) := (hC.b.cell hbv).trans n7
              go_simp
            repeat (first | (refine State.wpM_skip rfl ?_) | (refine State.wpM_all rfl rfl (fun K hK => ?_); go_simp; refine hK _ ?_; clear hK K))
            refine State.wpM_act rfl rfl (fun F' w5 hC h0 ha hA => ?_) ?_
            · skip
              have hr := retEvB_sup (K := KR) (f := ⟨al, xs, kx, em⟩) (S := S) (e := Er.ev ⟨kd, ⟨oid, ver⟩, old, ⟨l1, A1, c1⟩, ⟨l2, A2, c2⟩, ⟨l3, A3, c3⟩, fl⟩) (B := wr.heap.size) (w := w5) hC.b.size hSr
              rw [HEO.out, HBO.out] at hr
              exact acts_sup hM rfl hC ha (eventR_any ⟨al, xs, kx, em⟩ A0 c0 ⟨kd, ⟨oid, ver⟩, old, ⟨l1, A1, c1⟩, ⟨l2, A2, c2⟩, ⟨l3, A3, c3⟩, fl⟩ S w5 (HFr.out.ext hC.b) hk0 hk1 hlf (HAV.out.up (Same.below hC.b hSr) fun _ h => h) (fun b h => Nat.lt_of_lt_of_le (hSr b h) hC.b.size) HSV.out.sm HSV.out.k0 HSV.out.k1) (by go_simp; first | done | rfl | exact ⟨rfl, rfl⟩) hr
            rintro v9 -
            repeat (first | (refine State.wpM_skip rfl ?_) | (refine State.wpM_all rfl rfl (fun K hK => ?_); go_simp; refine hK _ ?_; clear hK K))
            refine State.wpM_act rfl rfl (fun F' w5 hC h0 ha hA => ?_) ?_
            · exact acts_derive hM rfl hC ha (i := 9) (v := v9) rfl (hA ⟨9, .data⟩ (by simp) rfl) (by go_simp) (fun T h => h)
            intro v10 ⟨w5, hC5⟩
            obtain ⟨S5, ⟨y0, rfl, -⟩, -⟩ := hC5.sup 10 _ rfl v10 (by simp [State.upd])
            clear hC5 w5 S5
            repeat (first | (refine State.wpM_skip rfl ?_) | (refine State.wpM_all rfl rfl (fun K hK => ?_); go_simp; refine hK _ ?_; clear hK K))
            refine State.wpM_act rfl rfl (fun F' w5 hC h0 ha hA => ?_) ?_
            · exact acts_derive hM rfl hC ha (i := 10) (v := .tuple #[(KE KR).v y0, .bool bo]) (u := (KE KR).v y0) rfl (hA ⟨10, .data⟩ (by simp) rfl) (by go_simp) (fun T h => by
                obtain ⟨y', e, h1, h2, h3⟩ := h
                exact ⟨y', tuple2_inj e, h1, h2, h3⟩)
            intro v11 ⟨w5, hC5⟩
            obtain ⟨S5, ⟨⟨kd2, ⟨oid2, ver2⟩, old2, ⟨l4, A4, c4⟩, ⟨l5, A5, c5⟩, ⟨l6, A6, c6⟩, fl2⟩, rfl, -⟩, -⟩ := hC5.sup 11 _ rfl v11 (by simp [State.upd])
            clear hC5 w5 S5
            rw [show (KE KR).v ⟨kd2, ⟨oid2, ver2⟩, old2, ⟨l4, A4, c4⟩, ⟨l5, A5, c5⟩, ⟨l6, A6, c6⟩, fl2⟩ = .agg #[.int .u8 kd2, .int .u32 oid2, .int .u32 ver2, .int .u8 old2, .slice A4 l4.length c4, .slice A5 l5.length c5, .slice A6 l6.length c6, .int .u8 fl2] from rfl]
            repeat (first | (refine State.wpM_skip rfl ?_) | (refine State.wpM_all rfl rfl (fun K hK => ?_); go_simp; refine hK _ ?_; clear hK K))
            refine State.wpM_act rfl rfl (fun F' w hC h0 ha _ => acts_box hM rfl hC h0 ha (cs := #[.int .u8 0, .int .u32 0, .int .u32 0, .int .u8 0, .slice none 0 0, .slice none 0 0, .slice none 0 0, .int .u8 0]) rfl (by go_simp)) ?_
            intro v13 ⟨w5, hC5⟩
            obtain ⟨g13, -, rfl, -⟩ := hC5.box 13 8 68 rfl v13 (by simp [State.upd])
            clear hC5 w5
            repeat (first | (refine State.wpM_skip rfl ?_) | (refine State.wpM_all rfl rfl (fun K hK => ?_); go_simp; refine hK _ ?_; clear hK K))
            refine State.wpM_act rfl rfl (fun F' w hC h0 ha hA => ?_) ?_
            · have hAj := hA ⟨13, .data⟩ (by simp) rfl
              have hAc := hA ⟨11, .data⟩ (by simp) rfl
              clear hA
              refine acts_store hM hO (j := 13) (c := .ans 11) (n := 8) (g := g13) (t := 68) (cs := #[.int .u8 kd2, .int .u32 oid2, .int .u32 ver2, .int .u8 old2, .slice A4 l4.length c4, .slice A5 l5.length c5, .slice A6 l6.length c6, .int .u8 fl2]) rfl rfl hC ha hAj ⟨_, hAc, rfl⟩ rfl (fun cur hh hz => ?_)
              refine run_op_store (t := 68) (x := .tmp 9) (y := .tmp 49) rfl ?_
              exact run_storeAt_whole (v := .agg #[.int .u8 kd2, .int .u32 oid2, .int .u32 ver2, .int .u8 old2, .slice A4 l4.length c4, .slice A5 l5.length c5, .slice A6 l6.length c6, .int .u8 fl2]) hj0 hh cells68.symm hz.symm ((KE KR).one ⟨kd2, ⟨oid2, ver2⟩, old2, ⟨l4, A4, c4⟩, ⟨l5, A5, c5⟩, ⟨l6, A6, c6⟩, fl2⟩)
            rintro v14 -
            repeat (first | (refine State.wpM_skip rfl ?_) | (refine State.wpM_all rfl rfl (fun K hK => ?_); go_simp; refine hK _ ?_; clear hK K))
            refine State.wpM_nil fun w10 hC => ?_
            have r13 := hC.store_ans (i := 14) (j := 13) (k := 11) (n := 8) (t := 68) rfl rfl (u := v14) (by simp [State.upd]) (g := g13) (by simp [State.upd]) (v := .agg #[.int .u8 kd2, .int .u32 oid2, .int .u32 ver2, .int .u8 old2, .slice A4 l4.length c4, .slice A5 l5.length c5, .slice A6 l6.length c6, .int .u8 fl2]) (by simp [State.upd])
            obtain ⟨T11, ⟨y', e', h1, h2, h3⟩, h4, -⟩ := hC.sup 11 _ rfl (.agg #[.int .u8 kd2, .int .u32 oid2, .int .u32 ver2, .int .u8 old2, .slice A4 l4.length c4, .slice A5 l5.length c5, .slice A6 l6.length c6, .int .u8 fl2]) (by simp [State.upd])
            obtain ⟨z13, cur13, ez13, hB13, -, -⟩ := hC.box 13 8 68 rfl (.pointer (some ⟨g13, 0, none⟩)) (by simp [State.upd])
            injection ez13 with ez13; injection ez13 with ez13; injection ez13 with ez13 _ _
            subst ez13
            have hcy := Lib.hid (Er.c_inj (K := KR) (show (KE KR).v ⟨kd2, ⟨oid2, ver2⟩, old2, ⟨l4, A4, c4⟩, ⟨l5, A5, c5⟩, ⟨l6, A6, c6⟩, fl2⟩ = (KE KR).v y' from e'))
            have HR13 := Lib.hid (show w10.heap[g13]? = some (.cells (Er.c y').toArray 68 (0, 0)) by rw [← hcy.out]; exact r13)
            have HAT' := Lib.hid (h2.up (Same.refl _ _) (fun b hb => (h3 b hb).elim .inl (fun h => .inr ⟨h, h4 b hb⟩)) : ErAt KR w10 (Since S wr.heap.size w10) y')
            have H1 := Lib.hid h1; have HBC := Lib.hid hC.b
            clear r13 e' h1 h2 h3 h4 hC hM hO
            go_wp2
            go_meet
            exact ⟨y', g13, rfl, rfl, H1, ⟨HBC.out, hB13, HR13.out, HAT'.out⟩⟩
          case rest =>
            obtain ⟨⟨kd2, ⟨oid2, ver2⟩, old2, ⟨l4, A4, c4⟩, ⟨l5, A5, c5⟩, ⟨l6, A6, c6⟩, fl2⟩, g9, rfl, rfl, hye, hC9⟩ := hcut
            obtain ⟨w9, rfl⟩ : ∃ w9 : World, w9 = wc := ⟨_, rfl⟩
            have HR9 := Lib.hid (show w9.heap[g9]? = some (.cells #[.int .u8 kd2, .int .u32 oid2, .int .u32 ver2, .int .u8 old2, .slice A4 l4.length c4, .slice A5 l5.length c5, .slice A6 l6.length c6, .int .u8 fl2] 68 (0, 0)) from hC9.out.2.2.1)
            have HA9 := Lib.hid hC9.out.2.2.2
            have hb9 := hC9.out.1
            have hl9 := hb9.size
            have hJ9 := Lib.hid (hJ.out.later hS1 hb9)
            clear hC9 n0 n1 n2 n3 n4 n5 n6 n7 m2
            cases bo
            · have hme2 : Hid (es.map Er.ev = ((vs.take (k + 1)).map Er.ev).filterMap (evP ⟨al, xs, kx, em⟩)) := by
                show _ = _
                rw [hse.out, ← hme.out]
                simp [evP, HBO.out]
              have hel2 : Hid (es.length ≤ k + 1) := Nat.le_succ_of_le hel.out
              clear hb9 hme hel hse hJ
              go_wp2
              go_roundw
              case rel => exact ⟨k + 1, v, es, by omega, by go_num, hJ9, hme2, hel2⟩
              case measure => simp [intOf]; omega
            · have hme2 : Hid ((es ++ [(⟨kd2, ⟨oid2, ver2⟩, old2, ⟨l4, A4, c4⟩, ⟨l5, A5, c5⟩, ⟨l6, A6, c6⟩, fl2⟩ : Er)]).map Er.ev = ((vs.take (k + 1)).map Er.ev).filterMap (evP ⟨al, xs, kx, em⟩)) := by
                show _ = _
                rw [hse.out, ← hme.out, List.map_append]
                simp [evP, HBO.out, HEO.out, hye.out]
              have hel2 : Hid ((es ++ [(⟨kd2, ⟨oid2, ver2⟩, old2, ⟨l4, A4, c4⟩, ⟨l5, A5, c5⟩, ⟨l6, A6, c6⟩, fl2⟩ : Er)]).length ≤ k + 1) := by show _ ≤ _; have := hel.out; simp; omega
              have hba := (Below.refl w9.heap.size w9).alloc (Nat.le_refl _) (.cells #[.int .u8 kd2, .int .u32 oid2, .int .u32 ver2, .int .u8 old2, .slice A4 l4.length c4, .slice A5 l5.length c5, .slice A6 l6.length c6, .int .u8 fl2] 68)
              have hJ10 := Lib.hid (hJ9.out.later hS1 hba)
              have hya := Lib.hid (HA9.out.up (Same.below hba (Since.lt fun b h => Nat.lt_of_lt_of_le (hSr b h) hl9)) (Since.up hba.size) : ErAt KR (w9.alloc (.cells #[.int .u8 kd2, .int .u32 oid2, .int .u32 ver2, .int .u8 old2, .slice A4 l4.length c4, .slice A5 l5.length c5, .slice A6 l6.length c6, .int .u8 fl2] 68)) (Since S wr.heap.size _) ⟨kd2, ⟨oid2, ver2⟩, old2, ⟨l4, A4, c4⟩, ⟨l5, A5, c5⟩, ⟨l6, A6, c6⟩, fl2⟩)
              have hown := hJ10.out.own.own
              have hnews := cells_news (heap_alloc_new w9 (.cells #[.int .u8 kd2, .int .u32 oid2, .int .u32 ver2, .int .u8 old2, .slice A4 l4.length c4, .slice A5 l5.length c5, .slice A6 l6.length c6, .int .u8 fl2] 68))
              have hz10 := hJ10.out.gr.size
              have hesb : es.length ≤ 1000 := by have := hel.out; omega
              have o8 : w9.cell? ⟨g, 2, none⟩ = some v := cell_of_row _ _ 2 _ 53 (0, 0) hJ9.out.o
              have hvlt := Lib.hid (fun b (h : Value.ownBlock v = some b) => (hJ.out.own.own.lt b h).2)
              clear hme hel hse hb9 hba hJ
              go_wp2_with (first | (refine wpList_load_row rfl 68 _ rfl g9 rfl 68 #[.int .u8 kd2, .int .u32 oid2, .int .u32 ver2, .int .u8 old2, .slice A4 l4.length c4, .slice A5 l5.length c5, .slice A6 l6.length c6, .int .u8 fl2] (0, 0) _ HR9.out Try.underlying68 rfl (by kernel_rfl) ?_) | (at_builtin; refine wpList_append_fresh rfl _ _ 51 rfl w1.heap.size 68 j0 (.agg #[.int .u8 0, .int .u32 0, .int .u32 0, .int .u8 0, .slice none 0 0, .slice none 0 0, .slice none 0 0, .int .u8 0]) 8 96 Try.underlying51 hj0 hy0 hy1 hy2 rfl (by decide) v es.length (es.flatMap Er.c) rfl hown ⟨w9.heap.size, 0, none⟩ 1 1 (Er.c ⟨kd2, ⟨oid2, ver2⟩, old2, ⟨l4, A4, c4⟩, ⟨l5, A5, c5⟩, ⟨l6, A6, c6⟩, fl2⟩) rfl rfl hnews ((KE KR).one ⟨kd2, ⟨oid2, ver2⟩, old2, ⟨l4, A4, c4⟩, ⟨l5, A5, c5⟩, ⟨l6, A6, c6⟩, fl2⟩) (by simp only [maxLen]; omega) (by omega) hz10 ?_))
              intro vn wn hownn hgn hfn
              obtain ⟨A9', c9', rfl, -, -, -⟩ := Rd.of_own hownn
              have hown' : wn.ownsRow w1.heap.size 68 (KE KR).k (.slice A9' (es.length + 1) c9') (es ++ [(⟨kd2, ⟨oid2, ver2⟩, old2, ⟨l4, A4, c4⟩, ⟨l5, A5, c5⟩, ⟨l6, A6, c6⟩, fl2⟩ : Er)]).length ((es ++ [(⟨kd2, ⟨oid2, ver2⟩, old2, ⟨l4, A4, c4⟩, ⟨l5, A5, c5⟩, ⟨l6, A6, c6⟩, fl2⟩ : Er)]).flatMap (KE KR).f) := by
                rw [List.length_append, List.flatMap_append, List.flatMap_singleton]; exact hownn
              have hOn := hJ10.out.own.snoc (b1 := wr.heap.size) hya.out (fun b hb => hS1 b hb) hle (fun b hb => hvlt.out b hb) hz10 hown' hgn (by simpa only [World.size_alloc] using hfn)
              have hge : ∀ k, v.ownBlock = some k → w1.heap.size ≤ k := fun k hk => (hJ10.out.own.own.lt k hk).1
              have ho9 := (hgn.block g (row_lt hJ10.out.o) (fun e' => by have := hge g e'.symm; have := hJ10.out.gl; omega)).trans hJ10.out.o
              have o9 : wn.cell? ⟨g, 2, none⟩ = some v := cell_of_row _ _ 2 _ 53 (0, 0) ho9
              have f9 : wn.frozen? ⟨g, 2, none⟩ = false := row_free ho9 2
              have HJn := Lib.hid (hJ10.out.put hSg hgn hOn)
              clear hown hownn hown' hOn hge ho9 hgn hfn hnews hJ10 o8
              go_wp2
              go_roundw
              case rel => exact ⟨k + 1, _, es ++ [(⟨kd2, ⟨oid2, ver2⟩, old2, ⟨l4, A4, c4⟩, ⟨l5, A5, c5⟩, ⟨l6, A6, c6⟩, fl2⟩ : Er)], by omega, by go_num, HJn, hme2, hel2⟩
              case measure => simp [intOf]; omega
        · obtain rfl : k = vs.length := by omega
          have hme2 : es.map Er.ev = (vs.map Er.ev).filterMap (evP ⟨al, xs, kx, em⟩) := by have := hme.out; rwa [List.take_length] at this
          have HME := Lib.hid hme2
          clear hme hme2
          obtain ⟨A7, c7, rfl, hro⟩ := hJ.out.ro
          have ho := hJ.out.o
          have x0 : wr.cell? ⟨g, 0, none⟩ = some (.int .u32 xid) := cell_of_row _ _ 0 _ 53 (0, 0) ho
          have x1 : wr.cell? ⟨g, 1, none⟩ = some (.int .u64 stp) := cell_of_row _ _ 1 _ 53 (0, 0) ho
          have x2 : wr.cell? ⟨g, 2, none⟩ = some (.slice A7 es.length c7) := cell_of_row _ _ 2 _ 53 (0, 0) ho
          have a3 : wr.cell? ⟨w.heap.size, 3, none⟩ = some (.bool em) := cell_of_row _ _ 3 _ 24 (0, 0) PR.out
          have HRO := Lib.hid hro
          have hO0 := hO
          have hO2 := Lib.hid (hO.out.up hbr0.out hSb')
          have hesb : es.length ≤ 1000 := by have := hel.out; omega
          have hb2 := Lib.hid (HB.out.trans (hbr0.out.mono hsz))
          have hyb : ys.length ≤ 1000 := by have := hyl.out; omega
          clear ho hro hJ hO
          obtain ⟨np, hnp⟩ : ∃ np : Bool, np = (decide (0 < es.length) || em) := ⟨_, rfl⟩
          have HNP := Lib.hid hnp
          clear hnp
          go_upto_region 12 with fail
          go_cut [65] (fun s65 wx => s65 = .bool np ∧ wx = wr)
          case first =>
            by_cases he0 : 0 < es.length
            · have he1 : (0 : Int) < (es.length : Int) := by omega
              have hnv : Hid (np = true) := by show _ = _; rw [HNP.out, decide_eq_true he0, Bool.true_or]
              go_wp2
              go_meet
              exact ⟨by rw [hnv.out], rfl⟩
            · have he1 : ¬ (0 : Int) < (es.length : Int) := by omega
              have hnv : Hid (np = em) := by show _ = _; rw [HNP.out, decide_eq_false he0, Bool.false_or]
              go_wp2
              go_meet
              exact ⟨by rw [hnv.out], rfl⟩
          case rest =>
            obtain ⟨rfl, rfl⟩ := hcut
            obtain ⟨wr, rfl⟩ : ∃ wr : World, wr = wc := ⟨_, rfl⟩
            cases np
            · have hm2 : Hid (ys.map Tr.tx = ((l.take (j + 1)).map Tr.tx).filterMap (txP ⟨al, xs, kx, em⟩)) := by
                have h1 := HNP.out.symm
                rw [Bool.or_eq_false_iff, decide_eq_false_iff_not] at h1
                have h2 : es = [] := List.eq_nil_of_length_eq_zero (by omega)
                show _ = _
                rw [hsn.out, ← hm.out, txP_eq, if_pos ⟨by show (vs.map Er.ev).filterMap _ = []; rw [← HME.out, h2]; rfl, h1.2⟩]
                simp
              have hy2' : Hid (ys.length ≤ j + 1) := Nat.le_succ_of_le hyl.out
              clear hm hyl hsn x0 x1 x2 a3
              go_wp2
              go_roundw
              case rel => exact ⟨j + 1, ys, by omega, by go_num, hb2.out, hO2, hm2, hy2'⟩
              case measure => simp [intOf]; omega
            · have hm2 : Hid ((ys ++ [(⟨xid, stp, ⟨es, A7, c7⟩⟩ : Tr)]).map Tr.tx = ((l.take (j + 1)).map Tr.tx).filterMap (txP ⟨al, xs, kx, em⟩)) := by
                show _ = _
                rw [hsn.out, ← hm.out, txP_eq, if_neg]
                · rw [List.map_append]
                  show _ ++ [(⟨xid, stp, es.map Er.ev⟩ : Tx)] = _ ++ [(⟨xid, stp, (vs.map Er.ev).filterMap _⟩ : Tx)]
                  rw [HME.out]
                · rintro ⟨h1, h2⟩
                  have h3 : es.map Er.ev = [] := HME.out.trans h1
                  have h4 : es = [] := by simpa using h3
                  have h5 := HNP.out
                  rw [h4, show em = false from h2] at h5
                  simp at h5
              have hy2' : Hid ((ys ++ [(⟨xid, stp, ⟨es, A7, c7⟩⟩ : Tr)]).length ≤ j + 1) := by show _ ≤ _; have := hyl.out; simp; omega
              have hal := (Below.refl wr.heap.size wr).alloc (Nat.le_refl _) (.cells #[.int .u32 xid, .int .u64 stp, .slice A7 es.length c7] 53)
              have hO3 := Lib.hid (hO2.out.up hal hSr)
              have hb3 := Lib.hid (hb2.out.trans (hal.mono hb2.out.size))
              have hnews := cells_news (heap_alloc_new wr (.cells #[.int .u32 xid, .int .u64 stp, .slice A7 es.length c7] 53))
              have hone := (KT KR).one ⟨xid, stp, ⟨es, A7, c7⟩⟩
              have hyt : (KT KR).at_ (wr.alloc (.cells #[.int .u32 xid, .int .u64 stp, .slice A7 es.length c7] 53)) (Since S wb.heap.size (wr.alloc (.cells #[.int .u32 xid, .int .u64 stp, .slice A7 es.length c7] 53))) ⟨xid, stp, ⟨es, A7, c7⟩⟩ :=
                HRO.out.up (Same.below hal (Since.lt hSr)) fun b h => h.imp id fun ⟨h1, h2⟩ => ⟨by omega, by have := hal.size; omega⟩
              have HYT := Lib.hid hyt
              have hsz3 := hal.size
              have hown := hO3.out.own
              have hvlt := Lib.hid (fun b (h : Value.ownBlock u5 = some b) => (hO0.out.own.lt b h).2)
              clear hm hyl hsn hal hyt a3
              go_wp2_with (at_builtin; refine wpList_append_fresh rfl _ _ 34 rfl W.heap.size 53 i0 (.agg #[.int .u32 0, .int .u64 0, .slice none 0 0]) 3 40 Try.underlying34 hi hz0 hz1 hz2 rfl (by decide) _ _ _ rfl hown ⟨wr.heap.size, 0, none⟩ 1 1 [.int .u32 xid, .int .u64 stp, .slice A7 es.length c7] rfl rfl hnews hone (by simp only [maxLen]; omega) (by omega) (by omega) ?_)
              intro v8 w8 hown8 hg8 hf8
              have hown9 : w8.ownsRow W.heap.size 53 (KT KR).k v8 (ys ++ [(⟨xid, stp, ⟨es, A7, c7⟩⟩ : Tr)]).length ((ys ++ [(⟨xid, stp, ⟨es, A7, c7⟩⟩ : Tr)]).flatMap (KT KR).f) := by
                rw [List.length_append, List.flatMap_append]; exact hown8
              have hO9 := Lib.hid (hO3.out.snoc (b1 := wb.heap.size) HYT.out hS hsz (fun b hb' => hvlt.out b hb') (by omega) hown9 hg8 (by simpa only [World.size_alloc] using hf8))
              have hb9 := own_base hown hb3.out hg8 (by omega)
              clear hown hown8 hown9 hg8 hf8 hnews hone hO3 HYT hb3 x0 x1 x2
              go_wp2
              go_roundw
              case rel => exact ⟨j + 1, _, by omega, by go_num, hb9, hO9, hm2, hy2'⟩
              case measure => simp [intOf]; omega
    · obtain rfl : j = l.length := by omega
      rw [List.take_length] at hm
      go_wp2
      go_ret
      obtain ⟨D, d, e6, hro, -⟩ := hO.out.ret hb
      exact ⟨ys, hm.out, D, d, e6, hro.up (Same.refl _ _) (fun b h => h.imp id fun ⟨h1, h2⟩ => ⟨Nat.le_trans hbW.out.size h1, h2⟩), hbW.out.trans (hb.mono hbW.out.size)⟩
end Go.Proofs.Ytaaijgalminafaa
