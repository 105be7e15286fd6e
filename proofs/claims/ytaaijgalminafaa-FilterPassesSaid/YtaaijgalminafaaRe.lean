import Derived.Test.YtaaijgalminafaaRk
/-
  Layer 24: what passes of an event, by the reference (f22) (printed by gen_re.py).
-/
namespace Go.Proofs.Ytaaijgalminafaa
open Go.RowKit
attribute [local go_sem] Mono.pureAt Mono.pureUpon
attribute [local irreducible] Mono.steps Mono.wpM

def reF (x : Bool) : Nat → Option Fact
  | 7 => some (.val (.bool x))
  | _ => none
theorem filter_snocA {α : Type} {p : α → Bool} {l : List α} {j : Nat} (hj : j < l.length) : (l.take (j + 1)).filter p = (l.take j).filter p ++ (if p l[j] then [l[j]] else []) := by
  rw [List.take_succ_eq_append_getElem hj, List.filter_append]
  by_cases h : p l[j] <;> simp [h]
set_option maxRecDepth 100000 in
set_option maxHeartbeats 12800000 in
/-- What passes of an event: the reference's. -/
theorem eventR_any (f : Fl) (A : Option Addr) (c : Nat) (x : Er) (S : Nat → Prop) (w : World) (hF : FlAt w w.heap.size f A c) (hk0 : 0 ≤ f.kinds) (hk1 : f.kinds < 256) (hl : f.oids.length ≤ 1000000) (hx : ErAt KR w S x) (hS : ∀ b, S b → b < w.heap.size) (hsm : x.ev.Sm) (h0 : 0 ≤ x.kd) (h1 : x.kd < 256) :
    Calls Try.prog 22 #[f.v A c, (KE KR).v x] w (RetEvB KR f S x.ev w) := by
  obtain ⟨i0, hi, hz0, hz1, hz2⟩ := info_parts Try.info64
  obtain ⟨kd, ⟨oid, ver⟩, old, ⟨l1, A1, c1⟩, ⟨l2, A2, c2⟩, ⟨l3, A3, c3⟩, fl⟩ := x
  obtain ⟨al, xs, kx, em⟩ := f
  simp only at hk0 hk1 hl h0 h1
  have HF := Lib.hid hF; have HX := Lib.hid hx; have HSm := Lib.hid hsm
  clear hF hx hsm
  obtain ⟨R, hR⟩ : ∃ R, RetEvB KR ⟨al, xs, kx, em⟩ S (Er.ev ⟨kd, ⟨oid, ver⟩, old, ⟨l1, A1, c1⟩, ⟨l2, A2, c2⟩, ⟨l3, A3, c3⟩, fl⟩) w = R := ⟨_, rfl⟩
  have HR := Lib.hid hR
  show Calls Try.prog 22 #[.agg #[.bool al, .slice A xs.length c, .int .u8 kx, .bool em], .agg #[.int .u8 kd, .int .u32 oid, .int .u32 ver, .int .u8 old, .slice A1 l1.length c1, .slice A2 l2.length c2, .slice A3 l3.length c3, .int .u8 fl]] w (RetEvB KR ⟨al, xs, kx, em⟩ S (Er.ev ⟨kd, ⟨oid, ver⟩, old, ⟨l1, A1, c1⟩, ⟨l2, A2, c2⟩, ⟨l3, A3, c3⟩, fl⟩) w)
  rw [hR]
  clear hR
  go_enter Try.func22, Try.ntmps22
  go_upto_region 1 with fail
  generalize hW : World.alloc (World.alloc (World.alloc w _) _) _ = W
  obtain ⟨hb0, p0, p1, p2, hsz⟩ := alloc3 hW
  have HB := Lib.hid hb0; have P0 := Lib.hid p0; have P1 := Lib.hid p1; have P2 := Lib.hid p2
  clear hW hb0 p0 p1 p2
  have a0 : W.cell? ⟨w.heap.size, 0, none⟩ = some (.bool al) := cell_of_row _ _ 0 _ 24 (0, 0) P0.out
  have a1 : W.cell? ⟨w.heap.size, 1, none⟩ = some (.slice A xs.length c) := cell_of_row _ _ 1 _ 24 (0, 0) P0.out
  have a2 : W.cell? ⟨w.heap.size, 2, none⟩ = some (.int .u8 kx) := cell_of_row _ _ 2 _ 24 (0, 0) P0.out
  have a3 : W.cell? ⟨w.heap.size, 3, none⟩ = some (.bool em) := cell_of_row _ _ 3 _ 24 (0, 0) P0.out
  have fza : ∀ i, W.frozen? ⟨w.heap.size, i, none⟩ = false := fun i => row_free P0.out i
  have b0 : W.cell? ⟨(w.heap.size + 1), 0, none⟩ = some (.int .u8 kd) := cell_of_row _ _ 0 _ 68 (0, 0) P1.out
  have b1 : W.cell? ⟨(w.heap.size + 1), 1, none⟩ = some (.int .u32 oid) := cell_of_row _ _ 1 _ 68 (0, 0) P1.out
  have b2 : W.cell? ⟨(w.heap.size + 1), 2, none⟩ = some (.int .u32 ver) := cell_of_row _ _ 2 _ 68 (0, 0) P1.out
  have b3 : W.cell? ⟨(w.heap.size + 1), 3, none⟩ = some (.int .u8 old) := cell_of_row _ _ 3 _ 68 (0, 0) P1.out
  have b4 : W.cell? ⟨(w.heap.size + 1), 4, none⟩ = some (.slice A1 l1.length c1) := cell_of_row _ _ 4 _ 68 (0, 0) P1.out
  have b5 : W.cell? ⟨(w.heap.size + 1), 5, none⟩ = some (.slice A2 l2.length c2) := cell_of_row _ _ 5 _ 68 (0, 0) P1.out
  have b6 : W.cell? ⟨(w.heap.size + 1), 6, none⟩ = some (.slice A3 l3.length c3) := cell_of_row _ _ 6 _ 68 (0, 0) P1.out
  have b7 : W.cell? ⟨(w.heap.size + 1), 7, none⟩ = some (.int .u8 fl) := cell_of_row _ _ 7 _ 68 (0, 0) P1.out
  have fzb : ∀ i, W.frozen? ⟨(w.heap.size + 1), i, none⟩ = false := fun i => row_free P1.out i
  clear fza fzb
  have HFW := Lib.hid (HF.out.up HB.out (Nat.le_refl _) HB.out.size : FlAt W W.heap.size _ A c)
  go_wp2_with fail
  refine (kindR_any ⟨al, xs, kx, em⟩ A c kd W hk0 hk1 h0 h1).mono ?_
  rintro e w2 ⟨rfl, hb2⟩
  obtain ⟨kb, hkb⟩ : ∃ kb, Fl.kind ⟨al, xs, kx, em⟩ kd = kb := ⟨_, rfl⟩
  have HKB := Lib.hid hkb
  rw [hkb]
  clear hkb a0 a1 a2 a3 b0 b1 b2 b3 b4 b5 b6 b7
  have HB2 := Lib.hid (HB.out.trans (hb2.mono HB.out.size))
  have Q0 := Lib.hid ((hb2.block _ (row_lt P0.out)).trans P0.out); have Q1 := Lib.hid ((hb2.block _ (row_lt P1.out)).trans P1.out); have Q2 := Lib.hid ((hb2.block _ (row_lt P2.out)).trans P2.out)
  have HF2 := Lib.hid (HFW.out.ext hb2)
  have HX2 := Lib.hid (HX.out.up (Same.below HB2.out hS) (fun _ h => h) : ErAt KR w2 S ⟨kd, ⟨oid, ver⟩, old, ⟨l1, A1, c1⟩, ⟨l2, A2, c2⟩, ⟨l3, A3, c3⟩, fl⟩)
  have hle2 : w.heap.size + 1 + 1 + 1 ≤ w2.heap.size := by have := hb2.size; omega
  have hS2 : ∀ b, S b → b < w2.heap.size := fun b h => by have := hS b h; omega
  clear hb2 P0 P1 P2 HFW HB HF HX
  have nS : ¬ S (w.heap.size + 1 + 1) := fun h => by have := hS _ h; omega
  have HNS := Lib.hid nS
  clear nS
  cases kb
  · have he : evR ⟨al, xs, kx, em⟩ (Er.ev ⟨kd, ⟨oid, ver⟩, old, ⟨l1, A1, c1⟩, ⟨l2, A2, c2⟩, ⟨l3, A3, c3⟩, fl⟩) = (Ev.zero, false) := by
      unfold evR
      exact if_pos HKB.out
    have HE := Lib.hid he
    clear he
    have q2 := Q2.out
    have HB9 := Lib.hid (below_setRow HB2.out (show w.heap.size ≤ w.heap.size + 1 + 1 by omega) (cs := #[.int .u8 0, .int .u32 0, .int .u32 0, .int .u8 0, .slice none 0 0, .slice none 0 0, .slice none 0 0, .int .u8 0]))
    have HH9 := Lib.hid (setRow_heap w2 (w.heap.size + 1 + 1) _ #[.int .u8 0, .int .u32 0, .int .u32 0, .int .u8 0, .slice none 0 0, .slice none 0 0, .slice none 0 0, .int .u8 0] 68 (0, 0) q2)
    have HS9 := Lib.hid (fun S (h : ¬ S (w.heap.size + 1 + 1)) => (Same.setRow h : Same S w2 (World.setRow w2 (w.heap.size + 1 + 1) #[.int .u8 0, .int .u32 0, .int .u32 0, .int .u8 0, .slice none 0 0, .slice none 0 0, .slice none 0 0, .int .u8 0])))
    have HZ9 := Lib.hid (size_setRow : (World.setRow w2 (w.heap.size + 1 + 1) #[.int .u8 0, .int .u32 0, .int .u32 0, .int .u8 0, .slice none 0 0, .slice none 0 0, .slice none 0 0, .int .u8 0]).heap.size = _)
    go_wp2_with (first | (refine wpList_store_row rfl 68 _ _ rfl (w.heap.size + 1 + 1) rfl #[.int .u8 0, .int .u32 0, .int .u32 0, .int .u8 0, .slice none 0 0, .slice none 0 0, .slice none 0 0, .int .u8 0] rfl _ 68 q2 (by kernel_rfl) rfl ((KE KR).one Er.zero) rfl ?_))
    generalize World.setRow w2 _ _ = w9 at *
    refine ⟨rfl, _, results_cell_row_tmp rfl _ w9 _ 68 _ (0, 0) _ rfl HH9.out Try.underlying68 rfl (by kernel_rfl), ?_⟩
    rw [← HR.out]
    unfold RetEvB
    rw [HE.out]
    exact ⟨Er.zero, rfl, rfl, ErAt.zero, HB9.out⟩
  · have hkr : 4 ≤ kd ∧ kd ≤ 7 := by
      have h := HKB.out
      unfold Fl.kind at h
      rw [Bool.and_eq_true, decide_eq_true_iff] at h
      exact h.1
    have b0 : w2.cell? ⟨(w.heap.size + 1), 0, none⟩ = some (.int .u8 kd) := cell_of_row _ _ 0 _ 68 (0, 0) Q1.out
    have b1 : w2.cell? ⟨(w.heap.size + 1), 1, none⟩ = some (.int .u32 oid) := cell_of_row _ _ 1 _ 68 (0, 0) Q1.out
    have b2 : w2.cell? ⟨(w.heap.size + 1), 2, none⟩ = some (.int .u32 ver) := cell_of_row _ _ 2 _ 68 (0, 0) Q1.out
    have b3 : w2.cell? ⟨(w.heap.size + 1), 3, none⟩ = some (.int .u8 old) := cell_of_row _ _ 3 _ 68 (0, 0) Q1.out
    have b4 : w2.cell? ⟨(w.heap.size + 1), 4, none⟩ = some (.slice A1 l1.length c1) := cell_of_row _ _ 4 _ 68 (0, 0) Q1.out
    have b5 : w2.cell? ⟨(w.heap.size + 1), 5, none⟩ = some (.slice A2 l2.length c2) := cell_of_row _ _ 5 _ 68 (0, 0) Q1.out
    have b6 : w2.cell? ⟨(w.heap.size + 1), 6, none⟩ = some (.slice A3 l3.length c3) := cell_of_row _ _ 6 _ 68 (0, 0) Q1.out
    have b7 : w2.cell? ⟨(w.heap.size + 1), 7, none⟩ = some (.int .u8 fl) := cell_of_row _ _ 7 _ 68 (0, 0) Q1.out
    have fzb : ∀ i, w2.frozen? ⟨(w.heap.size + 1), i, none⟩ = false := fun i => row_free Q1.out i
    have a0 : w2.cell? ⟨w.heap.size, 0, none⟩ = some (.bool al) := cell_of_row _ _ 0 _ 24 (0, 0) Q0.out
    have a1 : w2.cell? ⟨w.heap.size, 1, none⟩ = some (.slice A xs.length c) := cell_of_row _ _ 1 _ 24 (0, 0) Q0.out
    have a2 : w2.cell? ⟨w.heap.size, 2, none⟩ = some (.int .u8 kx) := cell_of_row _ _ 2 _ 24 (0, 0) Q0.out
    have a3 : w2.cell? ⟨w.heap.size, 3, none⟩ = some (.bool em) := cell_of_row _ _ 3 _ 24 (0, 0) Q0.out
    have fza : ∀ i, w2.frozen? ⟨w.heap.size, i, none⟩ = false := fun i => row_free Q0.out i
    clear fza
    by_cases h7 : kd = 7
    · subst h7
      clear h0 h1 hkr
      go_wp2_with fail
      clear fzb
      go_loopw [6, 7] (fun s6 s7 wr => ∃ (j : Nat) (ys : List Rf), j ≤ l3.length ∧ s7 = .int .i64 (j : Int) ∧ Hid (Below w2.heap.size w2 wr) ∧ Hid (OwE KF S w2.heap.size 64 wr s6 ys) ∧ Hid (ys = (l3.take j).filter fun r => Fl.oid ⟨al, xs, kx, em⟩ r.oid)) (fun _ s7 _ => l3.length - (intOf s7).toNat)
      case atStart => exact ⟨0, [], by omega, rfl, Below.refl _ _, OwE.nil, by simp [Hid]⟩
      case round =>
        obtain ⟨j, ys, hj, rfl, hb, hO, hm⟩ := hrel
        have hle := hb.out.size
        have hl3 : l3.length ≤ 1000 := HSm.out.refs
        have P0 := Lib.hid ((hb.out.block _ (row_lt Q0.out)).trans Q0.out); have P1 := Lib.hid ((hb.out.block _ (row_lt Q1.out)).trans Q1.out)
        have b6 : wr.cell? ⟨w.heap.size + 1, 6, none⟩ = some (.slice A3 l3.length c3) := cell_of_row _ _ 6 _ 68 (0, 0) P1.out
        have hyl : ys.length ≤ 1000 := by
          have h1 : ys.length ≤ (l3.take j).length := by rw [hm.out]; exact List.length_filter_le _ _
          have h2 : l3.length ≤ 1000 := HSm.out.refs
          rw [List.length_take] at h1
          omega
        by_cases hlt : j < l3.length
        · have hd : (j : Int) < (l3.length : Int) := by omega
          have hX : RoAt KF wr S ⟨l3, A3, c3⟩ := HX2.out.refs.up (Same.below hb.out hS2) (fun _ h => h)
          obtain ⟨b, off, e0, hSb, hcell⟩ := hX.get hlt
          simp only at e0
          subst e0
          have hcj := hcell j hlt
          have hsn := Lib.hid (filter_snocA (p := fun r : Rf => Fl.oid ⟨al, xs, kx, em⟩ r.oid) hlt)
          clear hcell hX
          generalize l3[j] = x at *
          obtain ⟨ro, rv⟩ := x
          have k0 : wr.cell? ⟨b, off + j * 2, none⟩ = some (.int .u32 ro) := hcj 0 _ rfl
          have k1 : wr.cell? ⟨b, off + j * 2 + 1, none⟩ = some (.int .u32 rv) := hcj 1 _ rfl
          have hbl : b < wr.heap.size := Nat.lt_of_lt_of_le (hS2 b hSb) hle
          obtain ⟨ox, hox⟩ : ∃ ox, Fl.oid ⟨al, xs, kx, em⟩ ro = ox := ⟨_, rfl⟩
          have HOX := Lib.hid hox
          have HFr := Lib.hid (HF2.out.ext hb.out)
          clear hcj hox
          go_wp2_with fail
          go_cut [39] (fun s39 wx => s39 = .bool ox ∧ Hid (Below wr.heap.size wr wx))
          case first =>
            refine wp_region_fx (reF ox) (by kernel_rfl) (by kernel_rfl) ?_
            repeat (first | (refine Mono.wpM_skip rfl ?_) | (refine Mono.wpM_all rfl rfl (fun K hK => ?_); go_simp; refine hK _ ?_; clear hK K))
            refine Mono.wpM_look (.agg #[.bool al, .slice A xs.length c, .int .u8 kx, .bool em]) rfl rfl (fun w6 hc6 _ => ?_) ?_
            · have hcl0 : w6.cell? ⟨w.heap.size, 0, none⟩ = some (.bool al) := cell_of_row _ _ 0 _ 24 (0, 0) ((hc6.block _ (row_lt P0.out)).trans P0.out)
              have hcl1 : w6.cell? ⟨w.heap.size, 1, none⟩ = some (.slice A xs.length c) := cell_of_row _ _ 1 _ 24 (0, 0) ((hc6.block _ (row_lt P0.out)).trans P0.out)
              have hcl2 : w6.cell? ⟨w.heap.size, 2, none⟩ = some (.int .u8 kx) := cell_of_row _ _ 2 _ 24 (0, 0) ((hc6.block _ (row_lt P0.out)).trans P0.out)
              have hcl3 : w6.cell? ⟨w.heap.size, 3, none⟩ = some (.bool em) := cell_of_row _ _ 3 _ 24 (0, 0) ((hc6.block _ (row_lt P0.out)).trans P0.out)
              go_simp
            repeat (first | (refine Mono.wpM_skip rfl ?_) | (refine Mono.wpM_all rfl rfl (fun K hK => ?_); go_simp; refine hK _ ?_; clear hK K))
            refine Mono.wpM_look (.slice (some ⟨b, off, none⟩) l3.length c3) rfl rfl (fun w6 hc6 _ => ?_) ?_
            · have hcl0 : w6.cell? ⟨(w.heap.size + 1), 6, none⟩ = some (.slice (some ⟨b, off, none⟩) l3.length c3) := cell_of_row _ _ 6 _ 68 (0, 0) ((hc6.block _ (row_lt P1.out)).trans P1.out)
              go_simp
            repeat (first | (refine Mono.wpM_skip rfl ?_) | (refine Mono.wpM_all rfl rfl (fun K hK => ?_); go_simp; refine hK _ ?_; clear hK K))
            refine Mono.wpM_look (.int .u32 ro) rfl rfl (fun w6 hc6 _ => ?_) ?_
            · have hcl0 : w6.cell? ⟨b, off + j * 2, none⟩ = some (.int .u32 ro) := (hc6.cell hbl).trans k0
              go_simp
            repeat (first | (refine Mono.wpM_skip rfl ?_) | (refine Mono.wpM_all rfl rfl (fun K hK => ?_); go_simp; refine hK _ ?_; clear hK K))
            refine Mono.wpM_eff rfl rfl (fun w9 hc9 _ => steps_enter (oidR_any ⟨al, xs, kx, em⟩ A c ro w9 (HFr.out.ext hc9) hl) (by go_simp; first | done | rfl | exact ⟨rfl, rfl⟩) (bool_val HOX rfl)) ?_
            rintro v7 ⟨wq, hq⟩
            obtain rfl : v7 = _ := hq
            clear wq
            repeat (first | (refine Mono.wpM_skip rfl ?_) | (refine Mono.wpM_all rfl rfl (fun K hK => ?_); go_simp; refine hK _ ?_; clear hK K))
            refine Mono.wpM_nil fun w10 hc10 _ => ?_
            go_wp2
            go_meet
            exact ⟨rfl, hc10⟩
          case rest =>
            obtain ⟨rfl, hbx⟩ := hcut
            obtain ⟨w4, rfl⟩ : ∃ w4 : World, w4 = wc := ⟨_, rfl⟩
            have hlx := hbx.out.size
            have hSr : ∀ b, S b → b < wr.heap.size := fun b h => Nat.lt_of_lt_of_le (hS2 b h) hle
            have hO4 := Lib.hid (hO.out.up hbx.out hSr)
            have hb4 := Lib.hid (hb.out.trans (hbx.out.mono hle))
            have hvl := Lib.hid (fun b (h : Value.ownBlock u6 = some b) => (hO.out.own.lt b h).2)
            cases ox
            · have hm4 : Hid (ys = (l3.take (j + 1)).filter fun r : Rf => Fl.oid ⟨al, xs, kx, em⟩ r.oid) := by
                show _ = _
                rw [hsn.out, hm.out]
                simp [HOX.out]
              clear hO hm hsn
              go_wp2
              go_roundw
              case rel => exact ⟨j + 1, ys, by omega, by go_num, hb4, hO4, hm4⟩
              case measure => simp [intOf]; omega
            · have hm4 : Hid (ys ++ [(⟨ro, rv⟩ : Rf)] = (l3.take (j + 1)).filter fun r : Rf => Fl.oid ⟨al, xs, kx, em⟩ r.oid) := by
                show _ = _
                rw [hsn.out, hm.out]
                simp [HOX.out]
              have b64 : w4.cell? ⟨w.heap.size + 1, 6, none⟩ = some (.slice (some ⟨b, off, none⟩) l3.length c3) := (hbx.out.cell (row_lt P1.out)).trans b6
              have k04 : w4.cell? ⟨b, off + j * 2, none⟩ = some (.int .u32 ro) := (hbx.out.cell hbl).trans k0
              have k14 : w4.cell? ⟨b, off + j * 2 + 1, none⟩ = some (.int .u32 rv) := (hbx.out.cell hbl).trans k1
              have hw5 := (Below.refl w4.heap.size w4).alloc (Nat.le_refl _) (.cells #[.int .u32 ro, .int .u32 rv] 64)
              have hO5 := Lib.hid (hO4.out.up hw5 fun b h => Nat.lt_of_lt_of_le (hSr b h) hlx)
              have hb5 := Lib.hid (hb4.out.trans (hw5.mono hb4.out.size))
              have hnews := cells_news (heap_alloc_new w4 (.cells #[.int .u32 ro, .int .u32 rv] 64))
              have hone := KF.one (⟨ro, rv⟩ : Rf)
              have hown := hO5.out.own
              have hsz5 := hw5.size
              clear hO hm hsn hw5 k0 k1 b6 hbx
              go_wp2_with (at_builtin; refine wpList_append_fresh rfl _ _ 66 rfl w2.heap.size 64 i0 (.agg #[.int .u32 0, .int .u32 0]) 2 8 Try.underlying66 hi hz0 hz1 hz2 rfl (by decide) _ _ _ rfl hown ⟨w4.heap.size, 0, none⟩ 1 1 [.int .u32 ro, .int .u32 rv] rfl rfl hnews hone (by simp only [maxLen]; omega) (by omega) (by omega) ?_)
              intro v8 w8 hown8 hg8 hf8
              have hown9 : w8.ownsRow w2.heap.size 64 KF.k v8 (ys ++ [(⟨ro, rv⟩ : Rf)]).length ((ys ++ [(⟨ro, rv⟩ : Rf)]).flatMap KF.f) := by
                rw [List.length_append, List.flatMap_append]; exact hown8
              have hO9 := Lib.hid (hO5.out.snoc (b1 := w4.heap.size) trivial hS2 (by omega) (fun b hb' => by have := hvl.out b hb'; omega) (by omega) hown9 hg8 (by simpa only [World.size_alloc] using hf8))
              have hb9 := Lib.hid (own_base hown hb5.out hg8 (by omega))
              clear hown hown8 hown9 hg8 hf8 hnews hone hO5 hb5
              go_wp2
              go_roundw
              case rel => exact ⟨j + 1, _, by omega, by go_num, hb9, hO9, hm4⟩
              case measure => simp [intOf]; omega
        · have hjl : j = l3.length := by omega
          have HM := Lib.hid (show ys = l3.filter fun r : Rf => Fl.oid ⟨al, xs, kx, em⟩ r.oid by rw [hm.out, hjl, List.take_length])
          have hret := hO.out.ret hb.out
          obtain ⟨D6, d6, e6, hro, -⟩ := hret
          injection e6 with e6
          subst e6
          have HRO := Lib.hid hro
          have P2 := Lib.hid ((hb.out.block _ (row_lt Q2.out)).trans Q2.out)
          have HBr := Lib.hid (HB2.out.trans (hb.out.mono HB2.out.size))
          have HXr := Lib.hid (HX2.out.up (Same.below hb.out hS2) (fun _ h => h) : ErAt KR wr S _)
          clear hro hm hO hb hjl
          cases ys with
          | nil =>
            have he : evR ⟨al, xs, kx, em⟩ (Er.ev ⟨7, ⟨oid, ver⟩, old, ⟨l1, A1, c1⟩, ⟨l2, A2, c2⟩, ⟨l3, A3, c3⟩, fl⟩) = (Ev.zero, false) := by
              unfold evR
              rw [if_neg (by rw [show (Er.ev ⟨7, ⟨oid, ver⟩, old, ⟨l1, A1, c1⟩, ⟨l2, A2, c2⟩, ⟨l3, A3, c3⟩, fl⟩).kd = 7 from rfl, HKB.out]; simp), if_pos (show (Er.ev ⟨7, ⟨oid, ver⟩, old, ⟨l1, A1, c1⟩, ⟨l2, A2, c2⟩, ⟨l3, A3, c3⟩, fl⟩).kd = 7 from rfl)]
              exact if_pos HM.out.symm
            have HE := Lib.hid he
            clear he
            simp only [List.length_nil]
            have q2 := P2.out
            have HB9 := Lib.hid (below_setRow HBr.out (show w.heap.size ≤ w.heap.size + 1 + 1 by omega) (cs := #[.int .u8 0, .int .u32 0, .int .u32 0, .int .u8 0, .slice none 0 0, .slice none 0 0, .slice none 0 0, .int .u8 0]))
            have HH9 := Lib.hid (setRow_heap wr (w.heap.size + 1 + 1) _ #[.int .u8 0, .int .u32 0, .int .u32 0, .int .u8 0, .slice none 0 0, .slice none 0 0, .slice none 0 0, .int .u8 0] 68 (0, 0) q2)
            have HS9 := Lib.hid (fun S (h : ¬ S (w.heap.size + 1 + 1)) => (Same.setRow h : Same S wr (World.setRow wr (w.heap.size + 1 + 1) #[.int .u8 0, .int .u32 0, .int .u32 0, .int .u8 0, .slice none 0 0, .slice none 0 0, .slice none 0 0, .int .u8 0])))
            have HZ9 := Lib.hid (size_setRow : (World.setRow wr (w.heap.size + 1 + 1) #[.int .u8 0, .int .u32 0, .int .u32 0, .int .u8 0, .slice none 0 0, .slice none 0 0, .slice none 0 0, .int .u8 0]).heap.size = _)
            go_wp2_with (first | (refine wpList_store_row rfl 68 _ _ rfl (w.heap.size + 1 + 1) rfl #[.int .u8 0, .int .u32 0, .int .u32 0, .int .u8 0, .slice none 0 0, .slice none 0 0, .slice none 0 0, .int .u8 0] rfl _ 68 q2 (by kernel_rfl) rfl ((KE KR).one Er.zero) rfl ?_))
            generalize World.setRow wr _ _ = w9 at *
            refine ⟨rfl, _, results_cell_row_tmp rfl _ w9 _ 68 _ (0, 0) _ rfl HH9.out Try.underlying68 rfl (by kernel_rfl), ?_⟩
            rw [← HR.out]
            unfold RetEvB
            rw [HE.out]
            exact ⟨Er.zero, rfl, rfl, ErAt.zero, HB9.out⟩
          | cons q qs =>
            have he : evR ⟨al, xs, kx, em⟩ (Er.ev ⟨7, ⟨oid, ver⟩, old, ⟨l1, A1, c1⟩, ⟨l2, A2, c2⟩, ⟨l3, A3, c3⟩, fl⟩) = (⟨7, ⟨oid, ver⟩, old, l1, l2, q :: qs, fl⟩, true) := by
              unfold evR
              rw [if_neg (by rw [show (Er.ev ⟨7, ⟨oid, ver⟩, old, ⟨l1, A1, c1⟩, ⟨l2, A2, c2⟩, ⟨l3, A3, c3⟩, fl⟩).kd = 7 from rfl, HKB.out]; simp), if_pos (show (Er.ev ⟨7, ⟨oid, ver⟩, old, ⟨l1, A1, c1⟩, ⟨l2, A2, c2⟩, ⟨l3, A3, c3⟩, fl⟩).kd = 7 from rfl)]
              have h : (Er.ev ⟨7, ⟨oid, ver⟩, old, ⟨l1, A1, c1⟩, ⟨l2, A2, c2⟩, ⟨l3, A3, c3⟩, fl⟩).refs.filter (fun r => Fl.oid ⟨al, xs, kx, em⟩ r.oid) = q :: qs := HM.out.symm
              rw [if_neg (by rw [h]; simp), h]
              rfl
            have HE := Lib.hid he
            clear he
            have hn0 : (((q :: qs).length : Int) == 0) = false := beq_eq_false_iff_ne.2 (by simp; omega)
            generalize q :: qs = rs at *
            have f6 : wr.frozen? ⟨w.heap.size + 1, 6, none⟩ = false := row_free P1.out 6
            obtain ⟨w5, hw5⟩ : ∃ w5, w5 = wr.setCell ⟨w.heap.size + 1, 6, none⟩ (.slice D6 rs.length d6) := ⟨_, rfl⟩
            have T1 := Lib.hid (show w5.heap[w.heap.size + 1]? = some (.cells #[.int .u8 7, .int .u32 oid, .int .u32 ver, .int .u8 old, .slice A1 l1.length c1, .slice A2 l2.length c2, .slice D6 rs.length d6, .int .u8 fl] 68 (0, 0)) by rw [hw5]; exact row_set P1.out 6 _)
            have T2 := Lib.hid (show w5.heap[w.heap.size + 1 + 1]? = some (.cells #[.int .u8 0, .int .u32 0, .int .u32 0, .int .u8 0, .slice none 0 0, .slice none 0 0, .slice none 0 0, .int .u8 0] 68 (0, 0)) by rw [hw5, Below.heap_setCell _ _ _ _ (by simp)]; exact P2.out)
            have HB5 := Lib.hid (show Below w.heap.size w w5 by rw [hw5]; exact HBr.out.setCell (p := ⟨w.heap.size + 1, 6, none⟩) (by simp) _)
            have HS5 := Lib.hid (fun S (h : ¬ S (w.heap.size + 1)) => (show Same S wr w5 by rw [hw5]; exact Same.setCell (p := ⟨w.heap.size + 1, 6, none⟩) h _))
            have hz5 : w5.heap.size = wr.heap.size := by rw [hw5]; simp [World.setCell]
            go_upto_region 16 with fail
            rw [← hw5]
            clear f6 hw5 b6
            have n1 : ¬ Since S w2.heap.size wr (w.heap.size + 1) := fun h => h.elim (fun h => by have := hS _ h; omega) (fun h => by omega)
            have n2 : ¬ Since S w2.heap.size wr (w.heap.size + 1 + 1) := fun h => h.elim (fun h => by have := hS _ h; omega) (fun h => by omega)
            have n3 : ¬ S (w.heap.size + 1) := fun h => by have := hS _ h; omega
            have HN1 := Lib.hid n1; have HN2 := Lib.hid n2; have HN3 := Lib.hid n3
            clear n1 n2 n3
            have q2 := T2.out
            have HB9 := Lib.hid (below_setRow HB5.out (show w.heap.size ≤ w.heap.size + 1 + 1 by omega) (cs := #[.int .u8 7, .int .u32 oid, .int .u32 ver, .int .u8 old, .slice A1 l1.length c1, .slice A2 l2.length c2, .slice D6 rs.length d6, .int .u8 fl]))
            have HH9 := Lib.hid (setRow_heap w5 (w.heap.size + 1 + 1) _ #[.int .u8 7, .int .u32 oid, .int .u32 ver, .int .u8 old, .slice A1 l1.length c1, .slice A2 l2.length c2, .slice D6 rs.length d6, .int .u8 fl] 68 (0, 0) q2)
            have HS9 := Lib.hid (fun S (h : ¬ S (w.heap.size + 1 + 1)) => (Same.setRow h : Same S w5 (World.setRow w5 (w.heap.size + 1 + 1) #[.int .u8 7, .int .u32 oid, .int .u32 ver, .int .u8 old, .slice A1 l1.length c1, .slice A2 l2.length c2, .slice D6 rs.length d6, .int .u8 fl])))
            have HZ9 := Lib.hid (size_setRow : (World.setRow w5 (w.heap.size + 1 + 1) #[.int .u8 7, .int .u32 oid, .int .u32 ver, .int .u8 old, .slice A1 l1.length c1, .slice A2 l2.length c2, .slice D6 rs.length d6, .int .u8 fl]).heap.size = _)
            go_wp2_with (first | (refine wpList_load_row rfl 68 _ rfl (w.heap.size + 1) rfl 68 #[.int .u8 7, .int .u32 oid, .int .u32 ver, .int .u8 old, .slice A1 l1.length c1, .slice A2 l2.length c2, .slice D6 rs.length d6, .int .u8 fl] (0, 0) _ T1.out Try.underlying68 rfl (by kernel_rfl) ?_) | (refine wpList_store_row rfl 68 _ _ rfl (w.heap.size + 1 + 1) rfl #[.int .u8 7, .int .u32 oid, .int .u32 ver, .int .u8 old, .slice A1 l1.length c1, .slice A2 l2.length c2, .slice D6 rs.length d6, .int .u8 fl] rfl _ 68 q2 (by kernel_rfl) rfl ((KE KR).one ⟨7, ⟨oid, ver⟩, old, ⟨l1, A1, c1⟩, ⟨l2, A2, c2⟩, ⟨rs, D6, d6⟩, fl⟩) rfl ?_))
            generalize World.setRow w5 _ _ = w9 at *
            refine ⟨rfl, _, results_cell_row_tmp rfl _ w9 _ 68 _ (0, 0) _ rfl HH9.out Try.underlying68 rfl (by kernel_rfl), ?_⟩
            rw [← HR.out]
            unfold RetEvB
            rw [HE.out]
            have hz9 : w9.heap.size = wr.heap.size := HZ9.out.trans hz5
            have hq1 : Same S wr w9 := (HS5.out S HN3.out).trans (HS9.out S HNS.out)
            have hq3 : Same (Since S w2.heap.size wr) wr w9 := (HS5.out _ HN1.out).trans (HS9.out _ HN2.out)
            have hq4 : ∀ b, Since S w2.heap.size wr b → Since S w.heap.size w9 b := fun b h => h.imp id fun ⟨h1, h2⟩ => ⟨by omega, by omega⟩
            exact ⟨⟨7, ⟨oid, ver⟩, old, ⟨l1, A1, c1⟩, ⟨l2, A2, c2⟩, ⟨rs, D6, d6⟩, fl⟩, rfl, rfl, ⟨HXr.out.bf.up hq1 (fun b h => .inl h), HXr.out.af.up hq1 (fun b h => .inl h), HRO.out.up hq3 hq4⟩, HB9.out⟩
    · have he0 : kd < 7 := by omega
      go_wp2_with fail
      refine (oidR_any ⟨al, xs, kx, em⟩ A c oid w2 HF2.out hl).mono ?_
      rintro e w3 ⟨rfl, hb3⟩
      obtain ⟨ox, hox⟩ : ∃ ox, Fl.oid ⟨al, xs, kx, em⟩ oid = ox := ⟨_, rfl⟩
      have HOX := Lib.hid hox
      rw [hox]
      have HB3 := Lib.hid (HB2.out.trans (hb3.mono HB2.out.size))
      have R1 := Lib.hid ((hb3.block _ (row_lt Q1.out)).trans Q1.out); have R2 := Lib.hid ((hb3.block _ (row_lt Q2.out)).trans Q2.out)
      have HX3 := Lib.hid (HX2.out.up (Same.below hb3 hS2) (fun _ h => h))
      clear hb3 hox fzb a0 a1 a2 a3 b0 b1 b2 b3 b4 b5 b6 b7
      cases ox
      · have he : evR ⟨al, xs, kx, em⟩ (Er.ev ⟨kd, ⟨oid, ver⟩, old, ⟨l1, A1, c1⟩, ⟨l2, A2, c2⟩, ⟨l3, A3, c3⟩, fl⟩) = (Ev.zero, false) := by
          unfold evR
          rw [if_neg (by rw [show (Er.ev ⟨kd, ⟨oid, ver⟩, old, ⟨l1, A1, c1⟩, ⟨l2, A2, c2⟩, ⟨l3, A3, c3⟩, fl⟩).kd = kd from rfl, HKB.out]; simp), if_neg (show ¬ (Er.ev ⟨kd, ⟨oid, ver⟩, old, ⟨l1, A1, c1⟩, ⟨l2, A2, c2⟩, ⟨l3, A3, c3⟩, fl⟩).kd = 7 from h7)]
          exact if_neg (by rw [show Fl.oid ⟨al, xs, kx, em⟩ (Er.ev ⟨kd, ⟨oid, ver⟩, old, ⟨l1, A1, c1⟩, ⟨l2, A2, c2⟩, ⟨l3, A3, c3⟩, fl⟩).at_.oid = false from HOX.out]; simp)
        have HE := Lib.hid he
        clear he
        have q2 := R2.out
        have HB9 := Lib.hid (below_setRow HB3.out (show w.heap.size ≤ w.heap.size + 1 + 1 by omega) (cs := #[.int .u8 0, .int .u32 0, .int .u32 0, .int .u8 0, .slice none 0 0, .slice none 0 0, .slice none 0 0, .int .u8 0]))
        have HH9 := Lib.hid (setRow_heap w3 (w.heap.size + 1 + 1) _ #[.int .u8 0, .int .u32 0, .int .u32 0, .int .u8 0, .slice none 0 0, .slice none 0 0, .slice none 0 0, .int .u8 0] 68 (0, 0) q2)
        have HS9 := Lib.hid (fun S (h : ¬ S (w.heap.size + 1 + 1)) => (Same.setRow h : Same S w3 (World.setRow w3 (w.heap.size + 1 + 1) #[.int .u8 0, .int .u32 0, .int .u32 0, .int .u8 0, .slice none 0 0, .slice none 0 0, .slice none 0 0, .int .u8 0])))
        have HZ9 := Lib.hid (size_setRow : (World.setRow w3 (w.heap.size + 1 + 1) #[.int .u8 0, .int .u32 0, .int .u32 0, .int .u8 0, .slice none 0 0, .slice none 0 0, .slice none 0 0, .int .u8 0]).heap.size = _)
        go_wp2_with (first | (refine wpList_store_row rfl 68 _ _ rfl (w.heap.size + 1 + 1) rfl #[.int .u8 0, .int .u32 0, .int .u32 0, .int .u8 0, .slice none 0 0, .slice none 0 0, .slice none 0 0, .int .u8 0] rfl _ 68 q2 (by kernel_rfl) rfl ((KE KR).one Er.zero) rfl ?_))
        generalize World.setRow w3 _ _ = w9 at *
        refine ⟨rfl, _, results_cell_row_tmp rfl _ w9 _ 68 _ (0, 0) _ rfl HH9.out Try.underlying68 rfl (by kernel_rfl), ?_⟩
        rw [← HR.out]
        unfold RetEvB
        rw [HE.out]
        exact ⟨Er.zero, rfl, rfl, ErAt.zero, HB9.out⟩
      · have he : evR ⟨al, xs, kx, em⟩ (Er.ev ⟨kd, ⟨oid, ver⟩, old, ⟨l1, A1, c1⟩, ⟨l2, A2, c2⟩, ⟨l3, A3, c3⟩, fl⟩) = (Er.ev ⟨kd, ⟨oid, ver⟩, old, ⟨l1, A1, c1⟩, ⟨l2, A2, c2⟩, ⟨l3, A3, c3⟩, fl⟩, true) := by
          unfold evR
          rw [if_neg (by rw [show (Er.ev ⟨kd, ⟨oid, ver⟩, old, ⟨l1, A1, c1⟩, ⟨l2, A2, c2⟩, ⟨l3, A3, c3⟩, fl⟩).kd = kd from rfl, HKB.out]; simp), if_neg (show ¬ (Er.ev ⟨kd, ⟨oid, ver⟩, old, ⟨l1, A1, c1⟩, ⟨l2, A2, c2⟩, ⟨l3, A3, c3⟩, fl⟩).kd = 7 from h7)]
          exact if_pos HOX.out
        have HE := Lib.hid he
        clear he
        have q2 := R2.out
        have HB9 := Lib.hid (below_setRow HB3.out (show w.heap.size ≤ w.heap.size + 1 + 1 by omega) (cs := #[.int .u8 kd, .int .u32 oid, .int .u32 ver, .int .u8 old, .slice A1 l1.length c1, .slice A2 l2.length c2, .slice A3 l3.length c3, .int .u8 fl]))
        have HH9 := Lib.hid (setRow_heap w3 (w.heap.size + 1 + 1) _ #[.int .u8 kd, .int .u32 oid, .int .u32 ver, .int .u8 old, .slice A1 l1.length c1, .slice A2 l2.length c2, .slice A3 l3.length c3, .int .u8 fl] 68 (0, 0) q2)
        have HS9 := Lib.hid (fun S (h : ¬ S (w.heap.size + 1 + 1)) => (Same.setRow h : Same S w3 (World.setRow w3 (w.heap.size + 1 + 1) #[.int .u8 kd, .int .u32 oid, .int .u32 ver, .int .u8 old, .slice A1 l1.length c1, .slice A2 l2.length c2, .slice A3 l3.length c3, .int .u8 fl])))
        have HZ9 := Lib.hid (size_setRow : (World.setRow w3 (w.heap.size + 1 + 1) #[.int .u8 kd, .int .u32 oid, .int .u32 ver, .int .u8 old, .slice A1 l1.length c1, .slice A2 l2.length c2, .slice A3 l3.length c3, .int .u8 fl]).heap.size = _)
        go_wp2_with (first | (refine wpList_load_row rfl 68 _ rfl (w.heap.size + 1) rfl 68 #[.int .u8 kd, .int .u32 oid, .int .u32 ver, .int .u8 old, .slice A1 l1.length c1, .slice A2 l2.length c2, .slice A3 l3.length c3, .int .u8 fl] (0, 0) _ R1.out Try.underlying68 rfl (by kernel_rfl) ?_) | (refine wpList_store_row rfl 68 _ _ rfl (w.heap.size + 1 + 1) rfl #[.int .u8 kd, .int .u32 oid, .int .u32 ver, .int .u8 old, .slice A1 l1.length c1, .slice A2 l2.length c2, .slice A3 l3.length c3, .int .u8 fl] rfl _ 68 q2 (by kernel_rfl) rfl ((KE KR).one ⟨kd, ⟨oid, ver⟩, old, ⟨l1, A1, c1⟩, ⟨l2, A2, c2⟩, ⟨l3, A3, c3⟩, fl⟩) rfl ?_))
        generalize World.setRow w3 _ _ = w9 at *
        refine ⟨rfl, _, results_cell_row_tmp rfl _ w9 _ 68 _ (0, 0) _ rfl HH9.out Try.underlying68 rfl (by kernel_rfl), ?_⟩
        rw [← HR.out]
        unfold RetEvB
        rw [HE.out]
        exact ⟨⟨kd, ⟨oid, ver⟩, old, ⟨l1, A1, c1⟩, ⟨l2, A2, c2⟩, ⟨l3, A3, c3⟩, fl⟩, rfl, rfl, HX3.out.up (HS9.out S HNS.out) (fun b h => .inl h), HB9.out⟩
end Go.Proofs.Ytaaijgalminafaa
