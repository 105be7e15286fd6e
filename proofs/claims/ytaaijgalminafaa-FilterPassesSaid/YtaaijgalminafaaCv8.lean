import Derived.Test.YtaaijgalminafaaCv7
/-
  Layer 24: transactions of the document as the program's (f12), and back (f13) (printed by gen_cv8.py).
-/
namespace Go.Proofs.Ytaaijgalminafaa
open Go.RowKit
attribute [local go_sem] Mono.pureAt Mono.pureUpon
attribute [local irreducible] Mono.steps Mono.wpM

theorem Try.info68 : (Try.prog.info? 68).map (fun i => (i.zero, i.size, i.bytes)) = some (some (.agg #[.int .u8 0, .int .u32 0, .int .u32 0, .int .u8 0, .slice none 0 0, .slice none 0 0, .slice none 0 0, .int .u8 0]), 8, 96) := by kernel_rfl
theorem Try.info53 : (Try.prog.info? 53).map (fun i => (i.zero, i.size, i.bytes)) = some (some (.agg #[.int .u32 0, .int .u64 0, .slice none 0 0]), 3, 40) := by kernel_rfl
def bxF (B : Nat) (ty : TypeId) : Nat → Option Fact
  | 11 => some (.box B (.cells #[.int .u32 0, .int .u64 0, .slice none 0 0] ty (0, 0)))
  | _ => none
def evF1 (K : Kd Ce) (S : Nat → Prop) (B : Nat) (hS : ∀ b, S b → b < B) (x : Ev) (t : TypeId) : Nat → Option Fact
  | 10 => some (.ev K S B hS x)
  | 11 => some (.evLit K S B hS x t)
  | _ => none
theorem map_snoc {α β : Type} {f : α → β} {ys : List α} {y : α} {l : List β} {j : Nat} {x : β} (h : ys.map f = l.take j) (hj : j < l.length) (hy : f y = x) (hx : l[j] = x) : (ys ++ [y]).map f = l.take (j + 1) := by
  rw [List.take_succ_eq_append_getElem hj, List.map_append, h, hx, ← hy]; rfl
set_option maxRecDepth 100000 in
set_option maxHeartbeats 12800000 in
/-- Transactions of the document, as the program's. -/
theorem txs_any (r : Ro Tr) (S : Nat → Prop) (w : World) (hR : RoAt (KT KR) w S r) (hS : ∀ b, S b → b < w.heap.size) (hl : r.l.length ≤ 1000) (hsm : ∀ t ∈ r.l, t.tx.Sm) : Calls Try.prog 12 #[r.v] w (RetTxs KP S (r.l.map Tr.tx) w) := by
  obtain ⟨i0, hi, hz0, hz1, hz2⟩ := info_parts Try.info46
  obtain ⟨j0, hj0, hy0, hy1, hy2⟩ := info_parts Try.info61
  obtain ⟨l, A, c⟩ := r
  unfold Ro.v
  simp only at hl hsm ⊢
  have HR := Lib.hid hR; have HSm := Lib.hid hsm
  clear hR hsm
  go_enter Try.func12, Try.ntmps12
  go_wp2
  go_loopw [3, 4] (fun s3 s4 wr => ∃ (j : Nat) (ys : List Tr), j ≤ l.length ∧ s4 = .int .i64 (j : Int) ∧ Below w.heap.size w wr ∧ Hid (OwE (KT KP) S w.heap.size 46 wr s3 ys) ∧ Hid (ys.map Tr.tx = (l.map Tr.tx).take j) ∧ Hid (ys.length = j)) (fun _ s4 _ => l.length - (intOf s4).toNat)
  case atStart => exact ⟨0, [], by omega, rfl, Below.refl _ _, OwE.nil, by simp [Hid], rfl⟩
  case round =>
    obtain ⟨j, ys, hj, rfl, hb, hO, hm, hyl⟩ := hrel
    by_cases hlt : j < l.length
    · have hd : (j : Int) < (l.length : Int) := by omega
      have HB := Lib.hid hb
      have hsz := hb.size
      obtain ⟨wb, rfl⟩ : ∃ wb : World, wb = wr := ⟨_, rfl⟩
      have hRr : RoAt (KT KR) wb S ⟨l, A, c⟩ := HR.out.up (Same.below hb hS) (fun _ h => h)
      obtain ⟨b, off, e0, hSb, hcell⟩ := hRr.get hlt
      simp only at e0
      subst e0
      have hcj := hcell j hlt
      have hlj : Hid ((l.map Tr.tx)[j]'(by simpa using hlt) = (l[j]).tx) := by show _ = _; simp
      have hat := hRr.el _ (List.getElem_mem hlt)
      have hsj := HSm.out _ (List.getElem_mem hlt)
      clear hcell hRr
      generalize l[j] = x at *
      obtain ⟨xid, stp, ⟨vs, Av, cv⟩⟩ := x
      have k0 : wb.cell? ⟨b, off + j * 3, none⟩ = some (.int .u32 xid) := hcj 0 _ rfl
      have k1 : wb.cell? ⟨b, off + j * 3 + 1, none⟩ = some (.int .u64 stp) := hcj 1 _ rfl
      have k2 : wb.cell? ⟨b, off + j * 3 + 2, none⟩ = some (.slice Av vs.length cv) := hcj 2 _ rfl
      have hbl : b < wb.heap.size := Nat.lt_of_lt_of_le (hS b hSb) hsz
      have hSb' : ∀ b, S b → b < wb.heap.size := fun b h => Nat.lt_of_lt_of_le (hS b h) hsz
      have HAT := Lib.hid (hat : RoAt (KE KR) wb S ⟨vs, Av, cv⟩); have HSJ := Lib.hid hsj
      have hvl : vs.length ≤ 1000 := by have := hsj.n; simpa [Tr.tx] using this
      have K2 := Lib.hid k2
      clear hcj hat hsj
      go_wp2_with fail
      refine wp_region_fx_tail 12 (bxF wb.heap.size 46) (by kernel_rfl) (by kernel_rfl) (by kernel_rfl) (by kernel_rfl) ?_
      repeat (first | (refine Mono.wpM_skip rfl ?_) | (refine Mono.wpM_all rfl rfl (fun K hK => ?_); go_simp; refine hK _ ?_; clear hK K))
      refine Mono.wpM_look (.int .u32 xid) rfl rfl (fun w6 hc6 _ => ?_) ?_
      · have hcl0 : w6.cell? ⟨b, off + j * 3, none⟩ = some (.int .u32 xid) := (hc6.cell hbl).trans k0
        go_simp
      repeat (first | (refine Mono.wpM_skip rfl ?_) | (refine Mono.wpM_all rfl rfl (fun K hK => ?_); go_simp; refine hK _ ?_; clear hK K))
      refine Mono.wpM_look (.int .u64 stp) rfl rfl (fun w6 hc6 _ => ?_) ?_
      · have hcl0 : w6.cell? ⟨b, off + j * 3 + 1, none⟩ = some (.int .u64 stp) := (hc6.cell hbl).trans k1
        go_simp
      repeat (first | (refine Mono.wpM_skip rfl ?_) | (refine Mono.wpM_all rfl rfl (fun K hK => ?_); go_simp; refine hK _ ?_; clear hK K))
      refine Mono.wpM_eff rfl rfl (fun w9 hc9 _ => steps_box rfl hc9.size (by go_simp)) ?_
      rintro v11 ⟨wq, hq⟩
      obtain ⟨g, rfl, -, -⟩ : ∃ g, v11 = .pointer (some ⟨g, 0, none⟩) ∧ wb.heap.size ≤ g ∧ wq.heap[g]? = some (.cells #[.int .u32 0, .int .u64 0, .slice none 0 0] 46 (0, 0)) := hq
      clear wq
      (refine Mono.wpM_norm (fun K hK => ?_); go_simp; refine hK _ ?_; clear hK K)
      refine Mono.wpM_nil fun w10 hc10 hf => ?_
      obtain ⟨g', eg, hg, qg⟩ : ∃ g', Value.pointer (some ⟨g, 0, none⟩) = .pointer (some ⟨g', 0, none⟩) ∧ wb.heap.size ≤ g' ∧ w10.heap[g']? = some (.cells #[.int .u32 0, .int .u64 0, .slice none 0 0] 46 (0, 0)) := hf 11
      injection eg with eg; injection eg with eg; injection eg with eg _ _
      subst eg
      have hb1 := below_setRow hc10 hg (cs := #[.int .u32 xid, .int .u64 stp, .slice none 0 0])
      have hh1 := setRow_heap w10 g _ #[.int .u32 xid, .int .u64 stp, .slice none 0 0] 46 (0, 0) qg
      have HB1 := Lib.hid hb1; have HH1 := Lib.hid hh1
      clear hb1 hh1 hf k0 k1 k2 hb
      show wpList _ _ _ [_] _ _
      refine wpList_store_row rfl 46 _ _ rfl g rfl #[.int .u32 xid, .int .u64 stp, .slice none 0 0] rfl _ 46 qg (by kernel_rfl) rfl ((KT KP).one ⟨xid, stp, ⟨[], none, 0⟩⟩) rfl ?_
      generalize w10.setRow g #[.int .u32 xid, .int .u64 stp, .slice none 0 0] = w1 at *
      have hs1 := HB1.out.size
      have HJ0 := Lib.hid (⟨row_lt HH1.out, grown_refl _ _, HH1.out, OwE.nil⟩ : TxJ KP S 46 61 g xid stp w1 w1 (.slice none 0 0) [])
      have hS1 : ∀ b, S b → b < w1.heap.size := fun b h => Nat.lt_of_lt_of_le (hSb' b h) hs1
      have hSg : ∀ b, S b → b ≠ g := fun b h e => by have := hSb' b h; omega
      clear qg hc10 HH1
      go_wp2
      go_loopw [6] (fun s6 wr => ∃ (k : Nat) (v : Value) (es : List Er), k ≤ vs.length ∧ s6 = .int .i64 (k : Int) ∧ Hid (TxJ KP S 46 61 g xid stp w1 wr v es) ∧ Hid (es.map Er.ev = (vs.map Er.ev).take k) ∧ Hid (es.length = k)) (fun s6 _ => vs.length - (intOf s6).toNat)
      case atStart => exact ⟨0, _, [], by omega, rfl, HJ0, by simp [Hid], rfl⟩
      case round =>
        obtain ⟨k, v, es, hk, rfl, hJ, hme, hel⟩ := hrel
        have hle := hJ.out.gr.size
        have hsm1 : Same S wb wr := (Same.below HB1.out hSb').trans (Same.grown hJ.out.gr fun b h => ⟨hS1 b h, fun e => hSg b h (by injection e with e; exact e.symm)⟩)
        have m2 : wr.cell? ⟨b, off + j * 3 + 2, none⟩ = some (.slice Av vs.length cv) := (hsm1 ⟨b, off + j * 3 + 2, none⟩ hSb).trans K2.out
        have hSr : ∀ b, S b → b < wr.heap.size := fun b h => Nat.lt_of_lt_of_le (hS1 b h) hle
        by_cases hlk : k < vs.length
        · have hdk : (k : Int) < (vs.length : Int) := by omega
          have hRv : RoAt (KE KR) wr S ⟨vs, Av, cv⟩ := HAT.out.up hsm1 (fun _ h => h)
          obtain ⟨bv, ov, e1, hSv, hcellv⟩ := hRv.get hlk
          simp only at e1
          subst e1
          have hcv := hcellv k hlk
          have hvj : Hid ((vs.map Er.ev)[k]'(by simpa using hlk) = (vs[k]).ev) := by show _ = _; simp
          have hav := hRv.el _ (List.getElem_mem hlk)
          have hsv := HSJ.out.ev _ (by show vs[k].ev ∈ vs.map Er.ev; exact List.mem_map.2 ⟨_, List.getElem_mem hlk, rfl⟩)
          have hbv : bv < wr.heap.size := hSr bv hSv
          clear hcellv hRv
          generalize vs[k] = x at *
          obtain ⟨kd, ⟨oid, ver⟩, old, ⟨l1, A1, c1⟩, ⟨l2, A2, c2⟩, ⟨l3, A3, c3⟩, fl⟩ := x
          have n0 : wr.cell? ⟨bv, ov + k * 8, none⟩ = some (.int .u8 kd) := hcv 0 _ rfl
          have n1 : wr.cell? ⟨bv, ov + k * 8 + 1, none⟩ = some (.int .u32 oid) := hcv 1 _ rfl
          have n2 : wr.cell? ⟨bv, ov + k * 8 + 2, none⟩ = some (.int .u32 ver) := hcv 2 _ rfl
          have n3 : wr.cell? ⟨bv, ov + k * 8 + 3, none⟩ = some (.int .u8 old) := hcv 3 _ rfl
          have n4 : wr.cell? ⟨bv, ov + k * 8 + 4, none⟩ = some (.slice A1 l1.length c1) := hcv 4 _ rfl
          have n5 : wr.cell? ⟨bv, ov + k * 8 + 5, none⟩ = some (.slice A2 l2.length c2) := hcv 5 _ rfl
          have n6 : wr.cell? ⟨bv, ov + k * 8 + 6, none⟩ = some (.slice A3 l3.length c3) := hcv 6 _ rfl
          have n7 : wr.cell? ⟨bv, ov + k * 8 + 7, none⟩ = some (.int .u8 fl) := hcv 7 _ rfl
          have HAV := Lib.hid (hav : ErAt KR wr S ⟨kd, ⟨oid, ver⟩, old, ⟨l1, A1, c1⟩, ⟨l2, A2, c2⟩, ⟨l3, A3, c3⟩, fl⟩); have HSV := Lib.hid hsv
          have hbl2 : b < wr.heap.size := hSr b hSb
          have RO := Lib.hid hJ.out.o
          clear hcv hav hsv hsm1
          go_wp2_with fail
          refine wp_region_fx_tail 12 (evF1 KP S wr.heap.size hSr (Er.ev ⟨kd, ⟨oid, ver⟩, old, ⟨l1, A1, c1⟩, ⟨l2, A2, c2⟩, ⟨l3, A3, c3⟩, fl⟩) 61) (by kernel_rfl) (by kernel_rfl) (by kernel_rfl) (by kernel_rfl) ?_
          repeat (first | (refine Mono.wpM_skip rfl ?_) | (refine Mono.wpM_all rfl rfl (fun K hK => ?_); go_simp; refine hK _ ?_; clear hK K))
          refine Mono.wpM_look (v) rfl rfl (fun w6 hc6 _ => ?_) ?_
          · have hcl0 : w6.cell? ⟨g, 2, none⟩ = some (v) := cell_of_row _ _ 2 _ 46 (0, 0) ((hc6.block _ (row_lt RO.out)).trans RO.out)
            go_simp
          repeat (first | (refine Mono.wpM_skip rfl ?_) | (refine Mono.wpM_all rfl rfl (fun K hK => ?_); go_simp; refine hK _ ?_; clear hK K))
          refine Mono.wpM_look (.slice (some ⟨bv, ov, none⟩) vs.length cv) rfl rfl (fun w6 hc6 _ => ?_) ?_
          · have hcl0 : w6.cell? ⟨b, off + j * 3 + 2, none⟩ = some (.slice (some ⟨bv, ov, none⟩) vs.length cv) := (hc6.cell hbl2).trans m2
            go_simp
          repeat (first | (refine Mono.wpM_skip rfl ?_) | (refine Mono.wpM_all rfl rfl (fun K hK => ?_); go_simp; refine hK _ ?_; clear hK K))
          refine Mono.wpM_look (.agg #[.int .u8 kd, .int .u32 oid, .int .u32 ver, .int .u8 old, .slice A1 l1.length c1, .slice A2 l2.length c2, .slice A3 l3.length c3, .int .u8 fl]) rfl rfl (fun w6 hc6 _ => ?_) ?_
          · have hcl0 : w6.cell? ⟨bv, ov + k * 8, none⟩ = some (.int .u8 kd) := (hc6.cell hbv).trans n0
            have hcl1 : w6.cell? ⟨bv, ov + k * 8 + 1, none⟩ = some (.int .u32 oid) := (hc6.cell hbv).trans n1
            have hcl2 : w6.cell? ⟨bv, ov + k * 8 + 2, none⟩ = some (.int .u32 ver) := (hc6.cell hbv).trans n2
            have hcl3 : w6.cell? ⟨bv, ov + k * 8 + 3, none⟩ = some (.int .u8 old) := (hc6.cell hbv).trans n3
            have hcl4 : w6.cell? ⟨bv, ov + k * 8 + 4, none⟩ = some (.slice A1 l1.length c1) := (hc6.cell hbv).trans n4
            have hcl5 : w6.cell? ⟨bv, ov + k * 8 + 5, none⟩ = some (.slice A2 l2.length c2) := (hc6.cell hbv).trans n5
            have hcl6 : w6.cell? ⟨bv, ov + k * 8 + 6, none⟩ = some (.slice A3 l3.length c3) := (hc6.cell hbv).trans n6
            have hcl7 : w6.cell? ⟨bv, ov + k * 8 + 7, none⟩ = some (.int .u8 fl) := (hc6.cell hbv).trans n7
            go_simp
          repeat (first | (refine Mono.wpM_skip rfl ?_) | (refine Mono.wpM_all rfl rfl (fun K hK => ?_); go_simp; refine hK _ ?_; clear hK K))
          refine Mono.wpM_eff rfl rfl (fun w9 hc9 _ => steps_enter (ownEv_any ⟨kd, ⟨oid, ver⟩, old, ⟨l1, A1, c1⟩, ⟨l2, A2, c2⟩, ⟨l3, A3, c3⟩, fl⟩ S w9 (HAV.out.up (Same.below hc9 hSr) fun _ h => h) (fun b h => Nat.lt_of_lt_of_le (hSr b h) hc9.size) HSV.out) (by go_simp; first | done | rfl | exact ⟨rfl, rfl⟩) (ev_val hc9.size rfl)) ?_
          rintro v10 ⟨wq, hq⟩
          obtain ⟨⟨kd2, ⟨oid2, ver2⟩, old2, ⟨l4, A4, c4⟩, ⟨l5, A5, c5⟩, ⟨l6, A6, c6⟩, fl2⟩, -, rfl, -⟩ : ∃ y : Er, y.ev = Er.ev ⟨kd, ⟨oid, ver⟩, old, ⟨l1, A1, c1⟩, ⟨l2, A2, c2⟩, ⟨l3, A3, c3⟩, fl⟩ ∧ v10 = (KE KP).v y ∧ wr.heap.size ≤ wq.heap.size ∧ ErAt KP wq (Since S wr.heap.size wq) y := hq
          clear wq
          rw [show (KE KP).v ⟨kd2, ⟨oid2, ver2⟩, old2, ⟨l4, A4, c4⟩, ⟨l5, A5, c5⟩, ⟨l6, A6, c6⟩, fl2⟩ = .agg #[.int .u8 kd2, .int .u32 oid2, .int .u32 ver2, .int .u8 old2, .slice A4 l4.length c4, .slice A5 l5.length c5, .slice A6 l6.length c6, .int .u8 fl2] from rfl]
          repeat (first | (refine Mono.wpM_skip rfl ?_) | (refine Mono.wpM_all rfl rfl (fun K hK => ?_); go_simp; refine hK _ ?_; clear hK K))
          refine Mono.wpM_eff rfl rfl (fun w9 hc9 hd => ?_) ?_
          · obtain ⟨y', h0, h1, h2, h3⟩ : ∃ y : Er, y.ev = Er.ev ⟨kd, ⟨oid, ver⟩, old, ⟨l1, A1, c1⟩, ⟨l2, A2, c2⟩, ⟨l3, A3, c3⟩, fl⟩ ∧ Value.agg #[.int .u8 kd2, .int .u32 oid2, .int .u32 ver2, .int .u8 old2, .slice A4 l4.length c4, .slice A5 l5.length c5, .slice A6 l6.length c6, .int .u8 fl2] = (KE KP).v y ∧ wr.heap.size ≤ w9.heap.size ∧ ErAt KP w9 (Since S wr.heap.size w9) y := hd ⟨10, .data⟩ (by simp) rfl
            have hcy := Lib.hid (Er.c_inj (K := KP) (show (KE KP).v ⟨kd2, ⟨oid2, ver2⟩, old2, ⟨l4, A4, c4⟩, ⟨l5, A5, c5⟩, ⟨l6, A6, c6⟩, fl2⟩ = (KE KP).v y' from h1))
            clear h1
            have hba := (Below.refl w9.heap.size w9).alloc (Nat.le_refl _) (.cells #[.int .u8 kd2, .int .u32 oid2, .int .u32 ver2, .int .u8 old2, .slice A4 l4.length c4, .slice A5 l5.length c5, .slice A6 l6.length c6, .int .u8 fl2] 61)
            have hnw := heap_alloc_new w9 (.cells #[.int .u8 kd2, .int .u32 oid2, .int .u32 ver2, .int .u8 old2, .slice A4 l4.length c4, .slice A5 l5.length c5, .slice A6 l6.length c6, .int .u8 fl2] 61)
            refine steps_val (w' := w9.alloc (.cells #[.int .u8 kd2, .int .u32 oid2, .int .u32 ver2, .int .u8 old2, .slice A4 l4.length c4, .slice A5 l5.length c5, .slice A6 l6.length c6, .int .u8 fl2] 61)) (v := .slice (some ⟨w9.heap.size, 0, none⟩) 1 1) (by go_simp) hba ?_
            refine (show (Fact.evLit KP S wr.heap.size hSr (Er.ev ⟨kd, ⟨oid, ver⟩, old, ⟨l1, A1, c1⟩, ⟨l2, A2, c2⟩, ⟨l3, A3, c3⟩, fl⟩) 61).p _ _ from ⟨y', w9.heap.size, h0, rfl, h2, Nat.le_trans h2 hba.size, ?_, h3.up (Same.below hba (Since.lt fun b h => Nat.lt_of_lt_of_le (hSr b h) h2)) (Since.up hba.size)⟩)
            rw [← hcy.out]
            exact hnw
          rintro v11 ⟨wq, hq⟩
          obtain ⟨-, g11, -, rfl, -⟩ : ∃ (y : Er) (g' : Nat), y.ev = Er.ev ⟨kd, ⟨oid, ver⟩, old, ⟨l1, A1, c1⟩, ⟨l2, A2, c2⟩, ⟨l3, A3, c3⟩, fl⟩ ∧ v11 = .slice (some ⟨g', 0, none⟩) 1 1 ∧ wr.heap.size ≤ g' ∧ wr.heap.size ≤ wq.heap.size ∧ wq.heap[g']? = some (.cells (Er.c y).toArray 61 (0, 0)) ∧ ErAt KP wq (Since S wr.heap.size wq) y := hq
          clear wq
          (refine Mono.wpM_norm (fun K hK => ?_); go_simp; refine hK _ ?_; clear hK K)
          refine Mono.wpM_nil fun w10 hc10 hf => ?_
          obtain ⟨y, g', hyx, eg, hg11, -, hh11, hya⟩ : ∃ (y : Er) (g' : Nat), y.ev = Er.ev ⟨kd, ⟨oid, ver⟩, old, ⟨l1, A1, c1⟩, ⟨l2, A2, c2⟩, ⟨l3, A3, c3⟩, fl⟩ ∧ Value.slice (some ⟨g11, 0, none⟩) 1 1 = .slice (some ⟨g', 0, none⟩) 1 1 ∧ wr.heap.size ≤ g' ∧ wr.heap.size ≤ w10.heap.size ∧ w10.heap[g']? = some (.cells (Er.c y).toArray 61 (0, 0)) ∧ ErAt KP w10 (Since S wr.heap.size w10) y := hf 11
          injection eg with eg _ _; injection eg with eg; injection eg with eg _ _
          subst eg
          have hJ10 := Lib.hid (hJ.out.later hS1 hc10)
          have hown := hJ10.out.own.own
          have hnews := cells_news hh11
          have hz10 := hJ10.out.gr.size
          clear hf
          show wpList _ _ _ [_, _, _] _ _
          have hesb : es.length ≤ 1000 := by have := hel.out; omega
          refine wpList_append_fresh rfl _ _ 44 rfl w1.heap.size 61 j0 (.agg #[.int .u8 0, .int .u32 0, .int .u32 0, .int .u8 0, .slice none 0 0, .slice none 0 0, .slice none 0 0, .int .u8 0]) 8 96 Try.underlying44 hj0 hy0 hy1 hy2 rfl (by decide) v es.length (es.flatMap Er.c) rfl hown ⟨g11, 0, none⟩ 1 1 (Er.c y) rfl rfl hnews ((KE KP).one y) (by simp only [maxLen]; omega) (by omega) hz10 ?_
          intro v9 w9 hown9 hg9 hf9
          obtain ⟨A9', c9', rfl, -, -, -⟩ := Rd.of_own hown9
          have hown9' : w9.ownsRow w1.heap.size 61 (KE KP).k (.slice A9' (es.length + 1) c9') (es ++ [y]).length ((es ++ [y]).flatMap (KE KP).f) := by
            rw [List.length_append, List.flatMap_append, List.flatMap_singleton]; exact hown9
          have hO9 := hJ10.out.own.snoc (b1 := wr.heap.size) hya (fun b hb => hS1 b hb) hle (fun b hb => (hJ.out.own.own.lt b hb).2) hz10 hown9' hg9 hf9
          have hge : ∀ k, v.ownBlock = some k → w1.heap.size ≤ k := fun k hk => (hJ10.out.own.own.lt k hk).1
          have ho9 := (hg9.block g (row_lt hJ10.out.o) (fun e' => by have := hge g e'.symm; have := hJ10.out.gl; omega)).trans hJ10.out.o
          have o9 : w9.cell? ⟨g, 2, none⟩ = some v := cell_of_row _ _ 2 _ 46 (0, 0) ho9
          have f9 : w9.frozen? ⟨g, 2, none⟩ = false := row_free ho9 2
          have hJ9 := hJ10.out.put hSg hg9 hO9
          have hm9 : Hid ((es ++ [y]).map Er.ev = (vs.map Er.ev).take (k + 1)) := map_snoc hme.out (by simpa using hlk) hyx hvj.out
          have hle9 : Hid ((es ++ [y]).length = k + 1) := by show _ = _; rw [List.length_append, hel.out]; rfl
          have HJ9 := Lib.hid hJ9
          clear hown hown9 hown9' hO9 hge ho9 hJ9 hg9 hf9 hnews hh11 hJ10 hJ hc10 n0 n1 n2 n3 n4 n5 n6 n7 m2
          go_wp2
          go_roundw
          case rel => exact ⟨k + 1, _, es ++ [y], by omega, by go_num, HJ9, hm9, hle9⟩
          case measure => simp [intOf]; omega
        · obtain rfl : k = vs.length := by omega
          rw [List.take_of_length_le (by simp)] at hme
          obtain ⟨A7, c7, rfl, hro⟩ := hJ.out.ro
          have ho := hJ.out.o
          have x0 : wr.cell? ⟨g, 0, none⟩ = some (.int .u32 xid) := cell_of_row _ _ 0 _ 46 (0, 0) ho
          have x1 : wr.cell? ⟨g, 1, none⟩ = some (.int .u64 stp) := cell_of_row _ _ 1 _ 46 (0, 0) ho
          have x2 : wr.cell? ⟨g, 2, none⟩ = some (.slice A7 es.length c7) := cell_of_row _ _ 2 _ 46 (0, 0) ho
          have hbr := hJ.out.below HB1.out hg hs1
          have hal := (Below.refl wr.heap.size wr).alloc (Nat.le_refl _) (.cells #[.int .u32 xid, .int .u64 stp, .slice A7 es.length c7] 46)
          have hO3 := Lib.hid ((hO.out.up hbr hSb').up hal hSr)
          have hyb : ys.length ≤ 1000 := by have := hyl.out; omega
          have hyl' := hyl
          have hesb : es.length ≤ 1000 := by have := hel.out; omega
          have hb3 := Lib.hid ((HB.out.trans (hbr.mono hsz)).trans (hal.mono (Nat.le_trans hsz (Nat.le_trans hs1 hle))))
          have hnews := cells_news (heap_alloc_new wr (.cells #[.int .u32 xid, .int .u64 stp, .slice A7 es.length c7] 46))
          have hone := (KT KP).one ⟨xid, stp, ⟨es, A7, c7⟩⟩
          have hyt : (KT KP).at_ (wr.alloc (.cells #[.int .u32 xid, .int .u64 stp, .slice A7 es.length c7] 46)) (Since S wb.heap.size (wr.alloc (.cells #[.int .u32 xid, .int .u64 stp, .slice A7 es.length c7] 46))) ⟨xid, stp, ⟨es, A7, c7⟩⟩ :=
            hro.up (Same.below hal (Since.lt hSr)) fun b h => h.imp id fun ⟨h1, h2⟩ => ⟨by omega, by have := hal.size; omega⟩
          have HYT := Lib.hid hyt
          have hsz3 := hal.size
          have hown := hO3.out.own
          have hvlt := Lib.hid (fun b (h : Value.ownBlock u3 = some b) => (hO.out.own.lt b h).2)
          clear hal hro ho hyt hbr
          go_wp2_with (at_builtin; refine wpList_append_fresh rfl _ _ 36 rfl w.heap.size 46 i0 (.agg #[.int .u32 0, .int .u64 0, .slice none 0 0]) 3 40 Try.underlying36 hi hz0 hz1 hz2 rfl (by decide) _ _ _ rfl hown ⟨wr.heap.size, 0, none⟩ 1 1 [.int .u32 xid, .int .u64 stp, .slice A7 es.length c7] rfl rfl hnews hone (by simp only [maxLen]; omega) (by omega) (by omega) ?_)
          intro v8 w8 hown8 hg8 hf8
          have hown9 : w8.ownsRow w.heap.size 46 (KT KP).k v8 (ys ++ [(⟨xid, stp, ⟨es, A7, c7⟩⟩ : Tr)]).length ((ys ++ [(⟨xid, stp, ⟨es, A7, c7⟩⟩ : Tr)]).flatMap (KT KP).f) := by
            rw [List.length_append, List.flatMap_append]; exact hown8
          have hO9 := Lib.hid (hO3.out.snoc (b1 := wb.heap.size) HYT.out hS hsz (fun b hb' => hvlt.out b hb') (by omega) hown9 hg8 (by simpa only [World.size_alloc] using hf8))
          have hb9 := own_base hown hb3.out hg8 (by omega)
          have hm9 : Hid ((ys ++ [(⟨xid, stp, ⟨es, A7, c7⟩⟩ : Tr)]).map Tr.tx = (l.map Tr.tx).take (j + 1)) := map_snoc hm.out (by simpa using hlt) (by show (⟨xid, stp, es.map Er.ev⟩ : Tx) = ⟨xid, stp, vs.map Er.ev⟩; rw [hme.out]) hlj.out
          have hy9 : Hid ((ys ++ [(⟨xid, stp, ⟨es, A7, c7⟩⟩ : Tr)]).length = j + 1) := by show _ = _; rw [List.length_append, hyl'.out]; rfl
          clear hown hown8 hown9 hg8 hf8 hnews hone hO3 HYT hb3 x0 x1 x2
          go_wp2
          go_roundw
          case rel => exact ⟨j + 1, _, by omega, by go_num, hb9, hO9, hm9, hy9⟩
          case measure => simp [intOf]; omega
    · obtain rfl : j = l.length := by omega
      rw [List.take_of_length_le (by simp)] at hm
      go_wp2
      go_ret
      exact ⟨ys, hm.out, hO.out.ret hb⟩
set_option maxRecDepth 100000 in
set_option maxHeartbeats 12800000 in
/-- Transactions of the program, as the document's. -/
theorem backTxs_any (r : Ro Tr) (S : Nat → Prop) (w : World) (hR : RoAt (KT KP) w S r) (hS : ∀ b, S b → b < w.heap.size) (hl : r.l.length ≤ 1000) (hsm : ∀ t ∈ r.l, t.tx.Sm) : Calls Try.prog 13 #[r.v] w (RetTxs KR S (r.l.map Tr.tx) w) := by
  obtain ⟨i0, hi, hz0, hz1, hz2⟩ := info_parts Try.info53
  obtain ⟨j0, hj0, hy0, hy1, hy2⟩ := info_parts Try.info68
  obtain ⟨l, A, c⟩ := r
  unfold Ro.v
  simp only at hl hsm ⊢
  have HR := Lib.hid hR; have HSm := Lib.hid hsm
  clear hR hsm
  go_enter Try.func13, Try.ntmps13
  go_wp2
  go_loopw [3, 4] (fun s3 s4 wr => ∃ (j : Nat) (ys : List Tr), j ≤ l.length ∧ s4 = .int .i64 (j : Int) ∧ Below w.heap.size w wr ∧ Hid (OwE (KT KR) S w.heap.size 53 wr s3 ys) ∧ Hid (ys.map Tr.tx = (l.map Tr.tx).take j) ∧ Hid (ys.length = j)) (fun _ s4 _ => l.length - (intOf s4).toNat)
  case atStart => exact ⟨0, [], by omega, rfl, Below.refl _ _, OwE.nil, by simp [Hid], rfl⟩
  case round =>
    obtain ⟨j, ys, hj, rfl, hb, hO, hm, hyl⟩ := hrel
    by_cases hlt : j < l.length
    · have hd : (j : Int) < (l.length : Int) := by omega
      have HB := Lib.hid hb
      have hsz := hb.size
      obtain ⟨wb, rfl⟩ : ∃ wb : World, wb = wr := ⟨_, rfl⟩
      have hRr : RoAt (KT KP) wb S ⟨l, A, c⟩ := HR.out.up (Same.below hb hS) (fun _ h => h)
      obtain ⟨b, off, e0, hSb, hcell⟩ := hRr.get hlt
      simp only at e0
      subst e0
      have hcj := hcell j hlt
      have hlj : Hid ((l.map Tr.tx)[j]'(by simpa using hlt) = (l[j]).tx) := by show _ = _; simp
      have hat := hRr.el _ (List.getElem_mem hlt)
      have hsj := HSm.out _ (List.getElem_mem hlt)
      clear hcell hRr
      generalize l[j] = x at *
      obtain ⟨xid, stp, ⟨vs, Av, cv⟩⟩ := x
      have k0 : wb.cell? ⟨b, off + j * 3, none⟩ = some (.int .u32 xid) := hcj 0 _ rfl
      have k1 : wb.cell? ⟨b, off + j * 3 + 1, none⟩ = some (.int .u64 stp) := hcj 1 _ rfl
      have k2 : wb.cell? ⟨b, off + j * 3 + 2, none⟩ = some (.slice Av vs.length cv) := hcj 2 _ rfl
      have hbl : b < wb.heap.size := Nat.lt_of_lt_of_le (hS b hSb) hsz
      have hSb' : ∀ b, S b → b < wb.heap.size := fun b h => Nat.lt_of_lt_of_le (hS b h) hsz
      have HAT := Lib.hid (hat : RoAt (KE KP) wb S ⟨vs, Av, cv⟩); have HSJ := Lib.hid hsj
      have hvl : vs.length ≤ 1000 := by have := hsj.n; simpa [Tr.tx] using this
      have K2 := Lib.hid k2
      clear hcj hat hsj
      go_wp2_with fail
      refine wp_region_fx_tail 12 (bxF wb.heap.size 53) (by kernel_rfl) (by kernel_rfl) (by kernel_rfl) (by kernel_rfl) ?_
      repeat (first | (refine Mono.wpM_skip rfl ?_) | (refine Mono.wpM_all rfl rfl (fun K hK => ?_); go_simp; refine hK _ ?_; clear hK K))
      refine Mono.wpM_look (.int .u32 xid) rfl rfl (fun w6 hc6 _ => ?_) ?_
      · have hcl0 : w6.cell? ⟨b, off + j * 3, none⟩ = some (.int .u32 xid) := (hc6.cell hbl).trans k0
        go_simp
      repeat (first | (refine Mono.wpM_skip rfl ?_) | (refine Mono.wpM_all rfl rfl (fun K hK => ?_); go_simp; refine hK _ ?_; clear hK K))
      refine Mono.wpM_look (.int .u64 stp) rfl rfl (fun w6 hc6 _ => ?_) ?_
      · have hcl0 : w6.cell? ⟨b, off + j * 3 + 1, none⟩ = some (.int .u64 stp) := (hc6.cell hbl).trans k1
        go_simp
      repeat (first | (refine Mono.wpM_skip rfl ?_) | (refine Mono.wpM_all rfl rfl (fun K hK => ?_); go_simp; refine hK _ ?_; clear hK K))
      refine Mono.wpM_eff rfl rfl (fun w9 hc9 _ => steps_box rfl hc9.size (by go_simp)) ?_
      rintro v11 ⟨wq, hq⟩
      obtain ⟨g, rfl, -, -⟩ : ∃ g, v11 = .pointer (some ⟨g, 0, none⟩) ∧ wb.heap.size ≤ g ∧ wq.heap[g]? = some (.cells #[.int .u32 0, .int .u64 0, .slice none 0 0] 53 (0, 0)) := hq
      clear wq
      (refine Mono.wpM_norm (fun K hK => ?_); go_simp; refine hK _ ?_; clear hK K)
      refine Mono.wpM_nil fun w10 hc10 hf => ?_
      obtain ⟨g', eg, hg, qg⟩ : ∃ g', Value.pointer (some ⟨g, 0, none⟩) = .pointer (some ⟨g', 0, none⟩) ∧ wb.heap.size ≤ g' ∧ w10.heap[g']? = some (.cells #[.int .u32 0, .int .u64 0, .slice none 0 0] 53 (0, 0)) := hf 11
      injection eg with eg; injection eg with eg; injection eg with eg _ _
      subst eg
      have hb1 := below_setRow hc10 hg (cs := #[.int .u32 xid, .int .u64 stp, .slice none 0 0])
      have hh1 := setRow_heap w10 g _ #[.int .u32 xid, .int .u64 stp, .slice none 0 0] 53 (0, 0) qg
      have HB1 := Lib.hid hb1; have HH1 := Lib.hid hh1
      clear hb1 hh1 hf k0 k1 k2 hb
      show wpList _ _ _ [_] _ _
      refine wpList_store_row rfl 53 _ _ rfl g rfl #[.int .u32 xid, .int .u64 stp, .slice none 0 0] rfl _ 53 qg (by kernel_rfl) rfl ((KT KR).one ⟨xid, stp, ⟨[], none, 0⟩⟩) rfl ?_
      generalize w10.setRow g #[.int .u32 xid, .int .u64 stp, .slice none 0 0] = w1 at *
      have hs1 := HB1.out.size
      have HJ0 := Lib.hid (⟨row_lt HH1.out, grown_refl _ _, HH1.out, OwE.nil⟩ : TxJ KR S 53 68 g xid stp w1 w1 (.slice none 0 0) [])
      have hS1 : ∀ b, S b → b < w1.heap.size := fun b h => Nat.lt_of_lt_of_le (hSb' b h) hs1
      have hSg : ∀ b, S b → b ≠ g := fun b h e => by have := hSb' b h; omega
      clear qg hc10 HH1
      go_wp2
      go_loopw [6] (fun s6 wr => ∃ (k : Nat) (v : Value) (es : List Er), k ≤ vs.length ∧ s6 = .int .i64 (k : Int) ∧ Hid (TxJ KR S 53 68 g xid stp w1 wr v es) ∧ Hid (es.map Er.ev = (vs.map Er.ev).take k) ∧ Hid (es.length = k)) (fun s6 _ => vs.length - (intOf s6).toNat)
      case atStart => exact ⟨0, _, [], by omega, rfl, HJ0, by simp [Hid], rfl⟩
      case round =>
        obtain ⟨k, v, es, hk, rfl, hJ, hme, hel⟩ := hrel
        have hle := hJ.out.gr.size
        have hsm1 : Same S wb wr := (Same.below HB1.out hSb').trans (Same.grown hJ.out.gr fun b h => ⟨hS1 b h, fun e => hSg b h (by injection e with e; exact e.symm)⟩)
        have m2 : wr.cell? ⟨b, off + j * 3 + 2, none⟩ = some (.slice Av vs.length cv) := (hsm1 ⟨b, off + j * 3 + 2, none⟩ hSb).trans K2.out
        have hSr : ∀ b, S b → b < wr.heap.size := fun b h => Nat.lt_of_lt_of_le (hS1 b h) hle
        by_cases hlk : k < vs.length
        · have hdk : (k : Int) < (vs.length : Int) := by omega
          have hRv : RoAt (KE KP) wr S ⟨vs, Av, cv⟩ := HAT.out.up hsm1 (fun _ h => h)
          obtain ⟨bv, ov, e1, hSv, hcellv⟩ := hRv.get hlk
          simp only at e1
          subst e1
          have hcv := hcellv k hlk
          have hvj : Hid ((vs.map Er.ev)[k]'(by simpa using hlk) = (vs[k]).ev) := by show _ = _; simp
          have hav := hRv.el _ (List.getElem_mem hlk)
          have hsv := HSJ.out.ev _ (by show vs[k].ev ∈ vs.map Er.ev; exact List.mem_map.2 ⟨_, List.getElem_mem hlk, rfl⟩)
          have hbv : bv < wr.heap.size := hSr bv hSv
          clear hcellv hRv
          generalize vs[k] = x at *
          obtain ⟨kd, ⟨oid, ver⟩, old, ⟨l1, A1, c1⟩, ⟨l2, A2, c2⟩, ⟨l3, A3, c3⟩, fl⟩ := x
          have n0 : wr.cell? ⟨bv, ov + k * 8, none⟩ = some (.int .u8 kd) := hcv 0 _ rfl
          have n1 : wr.cell? ⟨bv, ov + k * 8 + 1, none⟩ = some (.int .u32 oid) := hcv 1 _ rfl
          have n2 : wr.cell? ⟨bv, ov + k * 8 + 2, none⟩ = some (.int .u32 ver) := hcv 2 _ rfl
          have n3 : wr.cell? ⟨bv, ov + k * 8 + 3, none⟩ = some (.int .u8 old) := hcv 3 _ rfl
          have n4 : wr.cell? ⟨bv, ov + k * 8 + 4, none⟩ = some (.slice A1 l1.length c1) := hcv 4 _ rfl
          have n5 : wr.cell? ⟨bv, ov + k * 8 + 5, none⟩ = some (.slice A2 l2.length c2) := hcv 5 _ rfl
          have n6 : wr.cell? ⟨bv, ov + k * 8 + 6, none⟩ = some (.slice A3 l3.length c3) := hcv 6 _ rfl
          have n7 : wr.cell? ⟨bv, ov + k * 8 + 7, none⟩ = some (.int .u8 fl) := hcv 7 _ rfl
          have HAV := Lib.hid (hav : ErAt KP wr S ⟨kd, ⟨oid, ver⟩, old, ⟨l1, A1, c1⟩, ⟨l2, A2, c2⟩, ⟨l3, A3, c3⟩, fl⟩); have HSV := Lib.hid hsv
          have hbl2 : b < wr.heap.size := hSr b hSb
          have RO := Lib.hid hJ.out.o
          clear hcv hav hsv hsm1
          go_wp2_with fail
          refine wp_region_fx_tail 12 (evF1 KR S wr.heap.size hSr (Er.ev ⟨kd, ⟨oid, ver⟩, old, ⟨l1, A1, c1⟩, ⟨l2, A2, c2⟩, ⟨l3, A3, c3⟩, fl⟩) 68) (by kernel_rfl) (by kernel_rfl) (by kernel_rfl) (by kernel_rfl) ?_
          repeat (first | (refine Mono.wpM_skip rfl ?_) | (refine Mono.wpM_all rfl rfl (fun K hK => ?_); go_simp; refine hK _ ?_; clear hK K))
          refine Mono.wpM_look (v) rfl rfl (fun w6 hc6 _ => ?_) ?_
          · have hcl0 : w6.cell? ⟨g, 2, none⟩ = some (v) := cell_of_row _ _ 2 _ 53 (0, 0) ((hc6.block _ (row_lt RO.out)).trans RO.out)
            go_simp
          repeat (first | (refine Mono.wpM_skip rfl ?_) | (refine Mono.wpM_all rfl rfl (fun K hK => ?_); go_simp; refine hK _ ?_; clear hK K))
          refine Mono.wpM_look (.slice (some ⟨bv, ov, none⟩) vs.length cv) rfl rfl (fun w6 hc6 _ => ?_) ?_
          · have hcl0 : w6.cell? ⟨b, off + j * 3 + 2, none⟩ = some (.slice (some ⟨bv, ov, none⟩) vs.length cv) := (hc6.cell hbl2).trans m2
            go_simp
          repeat (first | (refine Mono.wpM_skip rfl ?_) | (refine Mono.wpM_all rfl rfl (fun K hK => ?_); go_simp; refine hK _ ?_; clear hK K))
          refine Mono.wpM_look (.agg #[.int .u8 kd, .int .u32 oid, .int .u32 ver, .int .u8 old, .slice A1 l1.length c1, .slice A2 l2.length c2, .slice A3 l3.length c3, .int .u8 fl]) rfl rfl (fun w6 hc6 _ => ?_) ?_
          · have hcl0 : w6.cell? ⟨bv, ov + k * 8, none⟩ = some (.int .u8 kd) := (hc6.cell hbv).trans n0
            have hcl1 : w6.cell? ⟨bv, ov + k * 8 + 1, none⟩ = some (.int .u32 oid) := (hc6.cell hbv).trans n1
            have hcl2 : w6.cell? ⟨bv, ov + k * 8 + 2, none⟩ = some (.int .u32 ver) := (hc6.cell hbv).trans n2
            have hcl3 : w6.cell? ⟨bv, ov + k * 8 + 3, none⟩ = some (.int .u8 old) := (hc6.cell hbv).trans n3
            have hcl4 : w6.cell? ⟨bv, ov + k * 8 + 4, none⟩ = some (.slice A1 l1.length c1) := (hc6.cell hbv).trans n4
            have hcl5 : w6.cell? ⟨bv, ov + k * 8 + 5, none⟩ = some (.slice A2 l2.length c2) := (hc6.cell hbv).trans n5
            have hcl6 : w6.cell? ⟨bv, ov + k * 8 + 6, none⟩ = some (.slice A3 l3.length c3) := (hc6.cell hbv).trans n6
            have hcl7 : w6.cell? ⟨bv, ov + k * 8 + 7, none⟩ = some (.int .u8 fl) := (hc6.cell hbv).trans n7
            go_simp
          repeat (first | (refine Mono.wpM_skip rfl ?_) | (refine Mono.wpM_all rfl rfl (fun K hK => ?_); go_simp; refine hK _ ?_; clear hK K))
          refine Mono.wpM_eff rfl rfl (fun w9 hc9 _ => steps_enter (backEv_any ⟨kd, ⟨oid, ver⟩, old, ⟨l1, A1, c1⟩, ⟨l2, A2, c2⟩, ⟨l3, A3, c3⟩, fl⟩ S w9 (HAV.out.up (Same.below hc9 hSr) fun _ h => h) (fun b h => Nat.lt_of_lt_of_le (hSr b h) hc9.size) HSV.out) (by go_simp; first | done | rfl | exact ⟨rfl, rfl⟩) (ev_val hc9.size rfl)) ?_
          rintro v10 ⟨wq, hq⟩
          obtain ⟨⟨kd2, ⟨oid2, ver2⟩, old2, ⟨l4, A4, c4⟩, ⟨l5, A5, c5⟩, ⟨l6, A6, c6⟩, fl2⟩, -, rfl, -⟩ : ∃ y : Er, y.ev = Er.ev ⟨kd, ⟨oid, ver⟩, old, ⟨l1, A1, c1⟩, ⟨l2, A2, c2⟩, ⟨l3, A3, c3⟩, fl⟩ ∧ v10 = (KE KR).v y ∧ wr.heap.size ≤ wq.heap.size ∧ ErAt KR wq (Since S wr.heap.size wq) y := hq
          clear wq
          rw [show (KE KR).v ⟨kd2, ⟨oid2, ver2⟩, old2, ⟨l4, A4, c4⟩, ⟨l5, A5, c5⟩, ⟨l6, A6, c6⟩, fl2⟩ = .agg #[.int .u8 kd2, .int .u32 oid2, .int .u32 ver2, .int .u8 old2, .slice A4 l4.length c4, .slice A5 l5.length c5, .slice A6 l6.length c6, .int .u8 fl2] from rfl]
          repeat (first | (refine Mono.wpM_skip rfl ?_) | (refine Mono.wpM_all rfl rfl (fun K hK => ?_); go_simp; refine hK _ ?_; clear hK K))
          refine Mono.wpM_eff rfl rfl (fun w9 hc9 hd => ?_) ?_
          · obtain ⟨y', h0, h1, h2, h3⟩ : ∃ y : Er, y.ev = Er.ev ⟨kd, ⟨oid, ver⟩, old, ⟨l1, A1, c1⟩, ⟨l2, A2, c2⟩, ⟨l3, A3, c3⟩, fl⟩ ∧ Value.agg #[.int .u8 kd2, .int .u32 oid2, .int .u32 ver2, .int .u8 old2, .slice A4 l4.length c4, .slice A5 l5.length c5, .slice A6 l6.length c6, .int .u8 fl2] = (KE KR).v y ∧ wr.heap.size ≤ w9.heap.size ∧ ErAt KR w9 (Since S wr.heap.size w9) y := hd ⟨10, .data⟩ (by simp) rfl
            have hcy := Lib.hid (Er.c_inj (K := KR) (show (KE KR).v ⟨kd2, ⟨oid2, ver2⟩, old2, ⟨l4, A4, c4⟩, ⟨l5, A5, c5⟩, ⟨l6, A6, c6⟩, fl2⟩ = (KE KR).v y' from h1))
            clear h1
            have hba := (Below.refl w9.heap.size w9).alloc (Nat.le_refl _) (.cells #[.int .u8 kd2, .int .u32 oid2, .int .u32 ver2, .int .u8 old2, .slice A4 l4.length c4, .slice A5 l5.length c5, .slice A6 l6.length c6, .int .u8 fl2] 68)
            have hnw := heap_alloc_new w9 (.cells #[.int .u8 kd2, .int .u32 oid2, .int .u32 ver2, .int .u8 old2, .slice A4 l4.length c4, .slice A5 l5.length c5, .slice A6 l6.length c6, .int .u8 fl2] 68)
            refine steps_val (w' := w9.alloc (.cells #[.int .u8 kd2, .int .u32 oid2, .int .u32 ver2, .int .u8 old2, .slice A4 l4.length c4, .slice A5 l5.length c5, .slice A6 l6.length c6, .int .u8 fl2] 68)) (v := .slice (some ⟨w9.heap.size, 0, none⟩) 1 1) (by go_simp) hba ?_
            refine (show (Fact.evLit KR S wr.heap.size hSr (Er.ev ⟨kd, ⟨oid, ver⟩, old, ⟨l1, A1, c1⟩, ⟨l2, A2, c2⟩, ⟨l3, A3, c3⟩, fl⟩) 68).p _ _ from ⟨y', w9.heap.size, h0, rfl, h2, Nat.le_trans h2 hba.size, ?_, h3.up (Same.below hba (Since.lt fun b h => Nat.lt_of_lt_of_le (hSr b h) h2)) (Since.up hba.size)⟩)
            rw [← hcy.out]
            exact hnw
          rintro v11 ⟨wq, hq⟩
          obtain ⟨-, g11, -, rfl, -⟩ : ∃ (y : Er) (g' : Nat), y.ev = Er.ev ⟨kd, ⟨oid, ver⟩, old, ⟨l1, A1, c1⟩, ⟨l2, A2, c2⟩, ⟨l3, A3, c3⟩, fl⟩ ∧ v11 = .slice (some ⟨g', 0, none⟩) 1 1 ∧ wr.heap.size ≤ g' ∧ wr.heap.size ≤ wq.heap.size ∧ wq.heap[g']? = some (.cells (Er.c y).toArray 68 (0, 0)) ∧ ErAt KR wq (Since S wr.heap.size wq) y := hq
          clear wq
          (refine Mono.wpM_norm (fun K hK => ?_); go_simp; refine hK _ ?_; clear hK K)
          refine Mono.wpM_nil fun w10 hc10 hf => ?_
          obtain ⟨y, g', hyx, eg, hg11, -, hh11, hya⟩ : ∃ (y : Er) (g' : Nat), y.ev = Er.ev ⟨kd, ⟨oid, ver⟩, old, ⟨l1, A1, c1⟩, ⟨l2, A2, c2⟩, ⟨l3, A3, c3⟩, fl⟩ ∧ Value.slice (some ⟨g11, 0, none⟩) 1 1 = .slice (some ⟨g', 0, none⟩) 1 1 ∧ wr.heap.size ≤ g' ∧ wr.heap.size ≤ w10.heap.size ∧ w10.heap[g']? = some (.cells (Er.c y).toArray 68 (0, 0)) ∧ ErAt KR w10 (Since S wr.heap.size w10) y := hf 11
          injection eg with eg _ _; injection eg with eg; injection eg with eg _ _
          subst eg
          have hJ10 := Lib.hid (hJ.out.later hS1 hc10)
          have hown := hJ10.out.own.own
          have hnews := cells_news hh11
          have hz10 := hJ10.out.gr.size
          clear hf
          show wpList _ _ _ [_, _, _] _ _
          have hesb : es.length ≤ 1000 := by have := hel.out; omega
          refine wpList_append_fresh rfl _ _ 51 rfl w1.heap.size 68 j0 (.agg #[.int .u8 0, .int .u32 0, .int .u32 0, .int .u8 0, .slice none 0 0, .slice none 0 0, .slice none 0 0, .int .u8 0]) 8 96 Try.underlying51 hj0 hy0 hy1 hy2 rfl (by decide) v es.length (es.flatMap Er.c) rfl hown ⟨g11, 0, none⟩ 1 1 (Er.c y) rfl rfl hnews ((KE KR).one y) (by simp only [maxLen]; omega) (by omega) hz10 ?_
          intro v9 w9 hown9 hg9 hf9
          obtain ⟨A9', c9', rfl, -, -, -⟩ := Rd.of_own hown9
          have hown9' : w9.ownsRow w1.heap.size 68 (KE KR).k (.slice A9' (es.length + 1) c9') (es ++ [y]).length ((es ++ [y]).flatMap (KE KR).f) := by
            rw [List.length_append, List.flatMap_append, List.flatMap_singleton]; exact hown9
          have hO9 := hJ10.out.own.snoc (b1 := wr.heap.size) hya (fun b hb => hS1 b hb) hle (fun b hb => (hJ.out.own.own.lt b hb).2) hz10 hown9' hg9 hf9
          have hge : ∀ k, v.ownBlock = some k → w1.heap.size ≤ k := fun k hk => (hJ10.out.own.own.lt k hk).1
          have ho9 := (hg9.block g (row_lt hJ10.out.o) (fun e' => by have := hge g e'.symm; have := hJ10.out.gl; omega)).trans hJ10.out.o
          have o9 : w9.cell? ⟨g, 2, none⟩ = some v := cell_of_row _ _ 2 _ 53 (0, 0) ho9
          have f9 : w9.frozen? ⟨g, 2, none⟩ = false := row_free ho9 2
          have hJ9 := hJ10.out.put hSg hg9 hO9
          have hm9 : Hid ((es ++ [y]).map Er.ev = (vs.map Er.ev).take (k + 1)) := map_snoc hme.out (by simpa using hlk) hyx hvj.out
          have hle9 : Hid ((es ++ [y]).length = k + 1) := by show _ = _; rw [List.length_append, hel.out]; rfl
          have HJ9 := Lib.hid hJ9
          clear hown hown9 hown9' hO9 hge ho9 hJ9 hg9 hf9 hnews hh11 hJ10 hJ hc10 n0 n1 n2 n3 n4 n5 n6 n7 m2
          go_wp2
          go_roundw
          case rel => exact ⟨k + 1, _, es ++ [y], by omega, by go_num, HJ9, hm9, hle9⟩
          case measure => simp [intOf]; omega
        · obtain rfl : k = vs.length := by omega
          rw [List.take_of_length_le (by simp)] at hme
          obtain ⟨A7, c7, rfl, hro⟩ := hJ.out.ro
          have ho := hJ.out.o
          have x0 : wr.cell? ⟨g, 0, none⟩ = some (.int .u32 xid) := cell_of_row _ _ 0 _ 53 (0, 0) ho
          have x1 : wr.cell? ⟨g, 1, none⟩ = some (.int .u64 stp) := cell_of_row _ _ 1 _ 53 (0, 0) ho
          have x2 : wr.cell? ⟨g, 2, none⟩ = some (.slice A7 es.length c7) := cell_of_row _ _ 2 _ 53 (0, 0) ho
          have hbr := hJ.out.below HB1.out hg hs1
          have hal := (Below.refl wr.heap.size wr).alloc (Nat.le_refl _) (.cells #[.int .u32 xid, .int .u64 stp, .slice A7 es.length c7] 53)
          have hO3 := Lib.hid ((hO.out.up hbr hSb').up hal hSr)
          have hyb : ys.length ≤ 1000 := by have := hyl.out; omega
          have hyl' := hyl
          have hesb : es.length ≤ 1000 := by have := hel.out; omega
          have hb3 := Lib.hid ((HB.out.trans (hbr.mono hsz)).trans (hal.mono (Nat.le_trans hsz (Nat.le_trans hs1 hle))))
          have hnews := cells_news (heap_alloc_new wr (.cells #[.int .u32 xid, .int .u64 stp, .slice A7 es.length c7] 53))
          have hone := (KT KR).one ⟨xid, stp, ⟨es, A7, c7⟩⟩
          have hyt : (KT KR).at_ (wr.alloc (.cells #[.int .u32 xid, .int .u64 stp, .slice A7 es.length c7] 53)) (Since S wb.heap.size (wr.alloc (.cells #[.int .u32 xid, .int .u64 stp, .slice A7 es.length c7] 53))) ⟨xid, stp, ⟨es, A7, c7⟩⟩ :=
            hro.up (Same.below hal (Since.lt hSr)) fun b h => h.imp id fun ⟨h1, h2⟩ => ⟨by omega, by have := hal.size; omega⟩
          have HYT := Lib.hid hyt
          have hsz3 := hal.size
          have hown := hO3.out.own
          have hvlt := Lib.hid (fun b (h : Value.ownBlock u3 = some b) => (hO.out.own.lt b h).2)
          clear hal hro ho hyt hbr
          go_wp2_with (at_builtin; refine wpList_append_fresh rfl _ _ 34 rfl w.heap.size 53 i0 (.agg #[.int .u32 0, .int .u64 0, .slice none 0 0]) 3 40 Try.underlying34 hi hz0 hz1 hz2 rfl (by decide) _ _ _ rfl hown ⟨wr.heap.size, 0, none⟩ 1 1 [.int .u32 xid, .int .u64 stp, .slice A7 es.length c7] rfl rfl hnews hone (by simp only [maxLen]; omega) (by omega) (by omega) ?_)
          intro v8 w8 hown8 hg8 hf8
          have hown9 : w8.ownsRow w.heap.size 53 (KT KR).k v8 (ys ++ [(⟨xid, stp, ⟨es, A7, c7⟩⟩ : Tr)]).length ((ys ++ [(⟨xid, stp, ⟨es, A7, c7⟩⟩ : Tr)]).flatMap (KT KR).f) := by
            rw [List.length_append, List.flatMap_append]; exact hown8
          have hO9 := Lib.hid (hO3.out.snoc (b1 := wb.heap.size) HYT.out hS hsz (fun b hb' => hvlt.out b hb') (by omega) hown9 hg8 (by simpa only [World.size_alloc] using hf8))
          have hb9 := own_base hown hb3.out hg8 (by omega)
          have hm9 : Hid ((ys ++ [(⟨xid, stp, ⟨es, A7, c7⟩⟩ : Tr)]).map Tr.tx = (l.map Tr.tx).take (j + 1)) := map_snoc hm.out (by simpa using hlt) (by show (⟨xid, stp, es.map Er.ev⟩ : Tx) = ⟨xid, stp, vs.map Er.ev⟩; rw [hme.out]) hlj.out
          have hy9 : Hid ((ys ++ [(⟨xid, stp, ⟨es, A7, c7⟩⟩ : Tr)]).length = j + 1) := by show _ = _; rw [List.length_append, hyl'.out]; rfl
          clear hown hown8 hown9 hg8 hf8 hnews hone hO3 HYT hb3 x0 x1 x2
          go_wp2
          go_roundw
          case rel => exact ⟨j + 1, _, by omega, by go_num, hb9, hO9, hm9, hy9⟩
          case measure => simp [intOf]; omega
    · obtain rfl : j = l.length := by omega
      rw [List.take_of_length_le (by simp)] at hm
      go_wp2
      go_ret
      exact ⟨ys, hm.out, hO.out.ret hb⟩
end Go.Proofs.Ytaaijgalminafaa
