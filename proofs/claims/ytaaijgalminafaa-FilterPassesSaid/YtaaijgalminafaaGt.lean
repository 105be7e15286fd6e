import Derived.Test.YtaaijgalminafaaSn
/-
  Layer 24: are there more than are looked at: rows (f30), transactions (f11) (printed by gen_gr.py).
-/
namespace Go.Proofs.Ytaaijgalminafaa
open Go.RowKit

/-- A call told true, or this holds. -/
def RetG (p : Prop) (w : World) (e : Ending) (w' : World) : Prop := ∃ g : Bool, e = .returned (.bool g) ∧ Below w.heap.size w w' ∧ (g = false → p)
set_option maxRecDepth 100000 in
set_option maxHeartbeats 6400000 in
theorem greatRow_any (r : Ro Ce) (S : Nat → Prop) (w : World) (hR : RoAt KR w S r) (hS : ∀ b, S b → b < w.heap.size) : Calls Try.prog 30 #[r.v, .agg #[.int .u32 0, .int .u32 0, .string ⟨#[]⟩, .int .u8 0, .slice none 0 0]] w (RetG (r.l.length ≤ 20) w) := by
  obtain ⟨l, A, c⟩ := r
  unfold Ro.v
  simp only
  have hmax : l.length ≤ 9223372036854775807 := Nat.le_trans hR.le hR.cm
  have HR := Lib.hid hR
  clear hR
  go_enter Try.func30, Try.ntmps30
  go_wp2
  go_loopw [5] (fun s5 wr => ∃ j : Nat, j ≤ l.length ∧ s5 = .int .i64 (j : Int) ∧ wr = w.alloc (.cells #[.int .u32 0, .int .u32 0, .string ⟨#[]⟩, .int .u8 0, .slice none 0 0] 84)) (fun s5 _ => l.length - (intOf s5).toNat)
  case atStart => exact ⟨0, by omega, rfl, rfl⟩
  case round =>
    obtain ⟨j, hj, rfl, rfl⟩ := hrel
    have hb1 := Lib.hid ((Below.refl _ w).alloc (Nat.le_refl _) (.cells #[.int .u32 0, .int .u32 0, .string ⟨#[]⟩, .int .u8 0, .slice none 0 0] 84))
    by_cases hlt : j < l.length
    · have hd : (j : Int) < (l.length : Int) := by omega
      obtain ⟨b, off, e0, hSb, hcell⟩ := (HR.out.up (Same.below hb1.out hS) (fun _ h => h)).get hlt
      simp only at e0
      subst e0
      have hcj := hcell j hlt
      clear hcell
      generalize l[j] = x at *
      obtain ⟨kd, ty, num, re, im, text⟩ := x
      have k5 : (w.alloc (.cells #[.int .u32 0, .int .u32 0, .string ⟨#[]⟩, .int .u8 0, .slice none 0 0] 84)).cell? ⟨b, off + j * 6 + 5, none⟩ = some (.string text) := hcj 5 _ rfl
      clear hcj
      by_cases ht : 3000 < text.size
      · have htt : (3000 : Int) < (text.size : Int) := by omega
        go_wp2
        go_ret
        exact ⟨true, rfl, hb1.out, fun h => by cases h⟩
      · have htt : ¬ (3000 : Int) < (text.size : Int) := by omega
        go_wp2
        go_roundw
        case rel => exact ⟨j + 1, by omega, by go_num, trivial⟩
        case measure => simp [intOf]; omega
    · go_wp2
      go_loopw [6] (fun s6 wr => s6 = .int .i64 0 ∧ wr = w.alloc (.cells #[.int .u32 0, .int .u32 0, .string ⟨#[]⟩, .int .u8 0, .slice none 0 0] 84)) (fun _ _ => 0)
      case atStart => exact ⟨rfl, rfl⟩
      case round =>
        obtain ⟨rfl, rfl⟩ := hrel
        by_cases h20 : 20 < l.length
        · have h21 : (20 : Int) < (l.length : Int) := by omega
          go_wp2
          go_ret
          exact ⟨true, rfl, hb1.out, fun h => by cases h⟩
        · have h21 : ¬ (20 : Int) < (l.length : Int) := by omega
          go_wp2
          go_ret
          exact ⟨false, rfl, hb1.out, fun _ => by show l.length ≤ 20; omega⟩
end Go.Proofs.Ytaaijgalminafaa
/-
  Layer 24: are there more transactions than are looked at (f11) (printed by gen_gt.py).
-/
namespace Go.Proofs.Ytaaijgalminafaa
open Go.RowKit

structure Er.Few (e : Er) : Prop where
  bf : e.bf.l.length ≤ 20
  af : e.af.l.length ≤ 20
  refs : e.refs.l.length ≤ 30
/-- Few enough to be looked at. -/
structure Few (l : List Tr) : Prop where
  n : l.length ≤ 60
  ev : ∀ t ∈ l, t.evs.l.length ≤ 600 ∧ ∀ e ∈ t.evs.l, e.Few
def evSum (l : List Tr) : Nat := (l.map fun t => t.evs.l.length).sum
theorem evSum_snoc (l : List Tr) (j : Nat) (h : j < l.length) : evSum (l.take (j + 1)) = evSum (l.take j) + l[j].evs.l.length := by
  unfold evSum
  rw [List.take_succ_eq_append_getElem h, List.map_append, List.sum_append]
  simp
theorem evSum_mem : ∀ (l : List Tr) (t : Tr), t ∈ l → t.evs.l.length ≤ evSum l
  | [], _, h => by cases h
  | a :: l, t, h => by
    have e : evSum (a :: l) = a.evs.l.length + evSum l := rfl
    rw [e]
    rcases List.mem_cons.1 h with rfl | h
    · omega
    · have := evSum_mem l t h; omega
theorem evSum_le : ∀ (l : List Tr) (n : Nat), (∀ t ∈ l, t.evs.l.length ≤ n) → evSum l ≤ l.length * n
  | [], _, _ => by simp [evSum]
  | a :: l, n, h => by
    have e : evSum (a :: l) = a.evs.l.length + evSum l := rfl
    have h1 := evSum_le l n (fun t ht => h t (by simp [ht]))
    have h2 := h a (by simp)
    rw [e, List.length_cons, Nat.succ_mul]; omega
/-- What has been seen of them after j. -/
structure Seen (l : List Tr) (j : Nat) (m : Int) : Prop where
  sum : j ≤ 60 → m = (evSum (l.take j) : Int)
  few : j ≤ 60 → m ≤ 600 → ∀ t ∈ l.take j, ∀ e ∈ t.evs.l, e.Few
set_option maxRecDepth 100000 in
set_option maxHeartbeats 12800000 in
theorem great_any (r : Ro Tr) (S : Nat → Prop) (w : World) (hR : RoAt (KT KR) w S r) (hS : ∀ b, S b → b < w.heap.size) (hbig : ∀ t ∈ r.l, t.evs.l.length ≤ 140737488355328) : Calls Try.prog 11 #[.slice none 0 0, r.v] w (RetG (Few r.l) w) := by
  obtain ⟨i0, hi, hz0, hz1, hz2⟩ := info_parts Try.info68
  obtain ⟨l, A, c⟩ := r
  unfold Ro.v
  simp only at hbig ⊢
  have hmax : l.length ≤ 9223372036854775807 := Nat.le_trans hR.le hR.cm
  have HR := Lib.hid hR; have HBG := Lib.hid hbig
  clear hR hbig
  go_enter Try.func11, Try.ntmps11
  go_wp2
  go_loopw [5, 6] (fun s5 s6 wr => ∃ (j : Nat) (m : Int), j ≤ l.length ∧ s5 = .int .i64 m ∧ s6 = .int .i64 (j : Int) ∧ Hid (Seen l j m) ∧ Hid (Below w.heap.size w wr)) (fun _ s6 _ => l.length - (intOf s6).toNat)
  case atStart => exact ⟨0, 0, by omega, rfl, rfl, ⟨fun _ => rfl, fun _ _ t ht => by simp at ht⟩, Below.refl _ _⟩
  case round =>
    obtain ⟨j, m, hj, rfl, rfl, hs, hb⟩ := hrel
    obtain ⟨wb, rfl⟩ : ∃ wb : World, wb = wr := ⟨_, rfl⟩
    have hle := hb.out.size
    by_cases hlt : j < l.length
    · have hd : (j : Int) < (l.length : Int) := by omega
      have hRr : RoAt (KT KR) wb S ⟨l, A, c⟩ := HR.out.up (Same.below hb.out hS) (fun _ h => h)
      have hSr : ∀ b, S b → b < wb.heap.size := fun b h => Nat.lt_of_lt_of_le (hS b h) hle
      obtain ⟨b, off, e0, hSb, hcell⟩ := hRr.get hlt
      simp only at e0
      subst e0
      have hcj := hcell j hlt
      have hat := hRr.el _ (List.getElem_mem hlt)
      have hbj := HBG.out _ (List.getElem_mem hlt)
      have HXJ : Hid (l.take (j + 1) = l.take j ++ [l[j]] ∧ evSum (l.take (j + 1)) = evSum (l.take j) + l[j].evs.l.length) := ⟨List.take_succ_eq_append_getElem hlt, evSum_snoc l j hlt⟩
      clear hcell hRr
      generalize l[j] = x at *
      obtain ⟨xid, stp, ⟨vs, Av, cv⟩⟩ := x
      have k2 : wb.cell? ⟨b, off + j * 3 + 2, none⟩ = some (.slice Av vs.length cv) := hcj 2 _ rfl
      have HAT := Lib.hid (hat : RoAt (KE KR) wb S ⟨vs, Av, cv⟩)
      have hvl : vs.length ≤ 140737488355328 := hbj
      have hbl := hSr b hSb
      clear hcj hat hbj
      go_upto_region 6 with fail
      obtain ⟨m', hm'⟩ : ∃ m', wrap64 (m + (vs.length : Int)) = m' := ⟨_, rfl⟩
      rw [hm']
      have HM := Lib.hid (show Seen l (j + 1) m' ∨ True from .inr trivial)
      have HSum : Hid (j + 1 ≤ 60 → m' = (evSum (l.take (j + 1)) : Int)) := fun h6 => by
        have h1 := hs.out.sum (by omega)
        have h2 : evSum (l.take j) ≤ (l.take j).length * 140737488355328 := evSum_le _ _ (fun t ht => HBG.out t (List.mem_of_mem_take ht))
        have h3 : (l.take j).length = j := by rw [List.length_take]; omega
        have h4 : evSum (l.take (j + 1)) = evSum (l.take j) + vs.length := HXJ.out.2
        rw [h3] at h2
        rw [← hm', IntWalk.wrap64_in _ (by omega)]
        omega
      clear hm' HM
      go_wp2
      go_loopw [7] (fun s7 wr => ∃ k : Nat, k ≤ vs.length ∧ s7 = .int .i64 (k : Int) ∧ Hid (Below w.heap.size w wr) ∧ Hid (Below wb.heap.size wb wr) ∧ Hid (∀ e ∈ vs.take k, e.Few)) (fun s7 _ => vs.length - (intOf s7).toNat)
      case atStart => exact ⟨0, by omega, rfl, hb, Below.refl _ _, fun e he => by simp at he⟩
      case round =>
        obtain ⟨k, hk, rfl, hb1, hb2, hfew⟩ := hrel
        have hlei := hb2.out.size
        have hSi : ∀ b, S b → b < wr.heap.size := fun b h => Nat.lt_of_lt_of_le (hSr b h) hlei
        have k2' : wr.cell? ⟨b, off + j * 3 + 2, none⟩ = some (.slice Av vs.length cv) := (hb2.out.cell hbl).trans k2
        have hbi := hSi b hSb
        by_cases hlk : k < vs.length
        · by_cases h600 : m' ≤ 600
          · have hdk : (k : Int) < (vs.length : Int) := by omega
            have hRv : RoAt (KE KR) wr S ⟨vs, Av, cv⟩ := HAT.out.up (Same.below hb2.out hSr) (fun _ h => h)
            obtain ⟨bv, ov, e1, hSv, hcellv⟩ := hRv.get hlk
            simp only at e1
            subst e1
            have hcv := hcellv k hlk
            have hav := hRv.el _ (List.getElem_mem hlk)
            have hbv : bv < wr.heap.size := hSi bv hSv
            have HKX : Hid (vs.take (k + 1) = vs.take k ++ [vs[k]]) := List.take_succ_eq_append_getElem hlk
            clear hcellv hRv
            generalize vs[k] = x at *
            obtain ⟨kd, ⟨oid, ver⟩, old, ⟨l1, A1, c1⟩, ⟨l2, A2, c2⟩, ⟨l3, A3, c3⟩, fl⟩ := x
            have n0 : wr.cell? ⟨bv, ov + k * 8, none⟩ = some (.int .u8 kd) := hcv 0 _ rfl
            have n1 : wr.cell? ⟨bv, ov + k * 8 + 1, none⟩ = some (.int .u32 oid) := hcv 1 _ rfl
            have n2 : wr.cell? ⟨bv, ov + k * 8 + 2, none⟩ = some (.int .u32 ver) := hcv 2 _ rfl
            have n3 : wr.cell? ⟨bv, ov + k * 8 + 3, none⟩ = some (.int .u8 old) := hcv 3 _ rfl
            have n4 : wr.cell? ⟨bv, ov + k * 8 + 4, none⟩ = some (.slice A1 l1.length c1) := hcv 4 _ rfl
            have n5 : wr.cell? ⟨bv, ov + k * 8 + 5, none⟩ = some (.slice A2 l2.length c2) := hcv 5 _ rfl
            have n6 : wr.cell? ⟨bv, ov + k * 8 + 6, none⟩ = some (.slice A3 l3.length c3) := hcv 6 _ rfl
            have n7 : wr.cell? ⟨bv, ov + k * 8 + 7, none⟩ = some (.int .u8 fl) := hcv 7 _ rfl
            have HAV := Lib.hid (hav : ErAt KR wr S ⟨kd, ⟨oid, ver⟩, old, ⟨l1, A1, c1⟩, ⟨l2, A2, c2⟩, ⟨l3, A3, c3⟩, fl⟩)
            have q2 := heap_alloc_new wr (.cells #[.int .u8 0, .int .u32 0, .int .u32 0, .int .u8 0, .slice none 0 0, .slice none 0 0, .slice none 0 0, .int .u8 0] 68)
            clear hcv hav
            go_upto_region 10 with (refine wpList_store_row rfl 68 _ _ rfl wr.heap.size rfl #[.int .u8 kd, .int .u32 oid, .int .u32 ver, .int .u8 old, .slice A1 l1.length c1, .slice A2 l2.length c2, .slice A3 l3.length c3, .int .u8 fl] rfl _ 68 q2 (by kernel_rfl) rfl ((KE KR).one ⟨kd, ⟨oid, ver⟩, old, ⟨l1, A1, c1⟩, ⟨l2, A2, c2⟩, ⟨l3, A3, c3⟩, fl⟩) rfl ?_)
            have hh1 := setRow_heap (wr.alloc (.cells #[.int .u8 0, .int .u32 0, .int .u32 0, .int .u8 0, .slice none 0 0, .slice none 0 0, .slice none 0 0, .int .u8 0] 68)) wr.heap.size _ #[.int .u8 kd, .int .u32 oid, .int .u32 ver, .int .u8 old, .slice A1 l1.length c1, .slice A2 l2.length c2, .slice A3 l3.length c3, .int .u8 fl] 68 (0, 0) q2
            have hbw := below_setRow (cs := #[.int .u8 kd, .int .u32 oid, .int .u32 ver, .int .u8 old, .slice A1 l1.length c1, .slice A2 l2.length c2, .slice A3 l3.length c3, .int .u8 fl]) ((Below.refl _ wr).alloc (Nat.le_refl _) (.cells #[.int .u8 0, .int .u32 0, .int .u32 0, .int .u8 0, .slice none 0 0, .slice none 0 0, .slice none 0 0, .int .u8 0] 68)) (Nat.le_refl _)
            generalize World.setRow _ _ _ = w1 at *
            clear n0 n1 n2 n3 n4 n5 n6 n7 q2
            have HH1 := Lib.hid hh1; have HB1 := Lib.hid hbw
            have hs1 := hbw.size
            have hrl := row_lt hh1
            clear hh1 hbw
            have a3 : w1.cell? ⟨wr.heap.size, 3, none⟩ = some (.int .u8 old) := cell_of_row _ _ 3 _ 68 (0, 0) HH1.out
            have a4 : w1.cell? ⟨wr.heap.size, 4, none⟩ = some (.slice A1 l1.length c1) := cell_of_row _ _ 4 _ 68 (0, 0) HH1.out
            have hS1 : ∀ b, S b → b < w1.heap.size := fun b h => Nat.lt_of_lt_of_le (hSi b h) hs1
            have HA1 : ErAt KR w1 S ⟨kd, ⟨oid, ver⟩, old, ⟨l1, A1, c1⟩, ⟨l2, A2, c2⟩, ⟨l3, A3, c3⟩, fl⟩ := HAV.out.up (Same.below HB1.out hSi) (fun _ h => h)
            have HA := Lib.hid HA1
            clear HA1
            go_cut [61] (fun s61 wx => ∃ g : Bool, s61 = .bool g ∧ Hid (Below w1.heap.size w1 wx) ∧ Hid (g = false → l1.length ≤ 20 ∧ l2.length ≤ 20 ∧ l3.length ≤ 30))
            case first =>
              go_wp2_with fail
              refine (greatRow_any ⟨l1, A1, c1⟩ S w1 HA.out.bf hS1).mono ?_
              rintro e w2 ⟨g1, rfl, hb12, hg1⟩
              have HB12 := Lib.hid hb12
              cases g1
              · have hA2 := (HA.out.up (Same.below hb12 hS1) (fun _ h => h) : ErAt KR w2 S ⟨kd, ⟨oid, ver⟩, old, ⟨l1, A1, c1⟩, ⟨l2, A2, c2⟩, ⟨l3, A3, c3⟩, fl⟩)
                have HA2 := Lib.hid hA2
                have hS2 : ∀ b, S b → b < w2.heap.size := fun b h => Nat.lt_of_lt_of_le (hS1 b h) hb12.size
                have b5 : w2.cell? ⟨wr.heap.size, 5, none⟩ = some (.slice A2 l2.length c2) := cell_of_row _ _ 5 _ 68 (0, 0) ((hb12.block _ hrl).trans HH1.out)
                have q2 := (hb12.block _ hrl).trans HH1.out
                have HQ2 := Lib.hid q2
                have hr2 := row_lt q2
                have HG1 := Lib.hid (hg1 rfl)
                clear hb12 hg1 hA2 q2
                go_wp2_with fail
                refine (greatRow_any ⟨l2, A2, c2⟩ S w2 HA2.out.af hS2).mono ?_
                rintro e w3 ⟨g2, rfl, hb23, hg2⟩
                have HB13 := Lib.hid (HB12.out.trans (hb23.mono HB12.out.size))
                cases g2
                · have d6 : w3.cell? ⟨wr.heap.size, 6, none⟩ = some (.slice A3 l3.length c3) := cell_of_row _ _ 6 _ 68 (0, 0) ((hb23.block _ hr2).trans HQ2.out)
                  have HG2 := Lib.hid (hg2 rfl)
                  clear hb23 hg2
                  by_cases h30 : 30 < l3.length
                  · have h31 : (30 : Int) < (l3.length : Int) := by omega
                    go_wp2
                    go_meet
                    exact ⟨true, rfl, HB13, fun h => by cases h⟩
                  · have h31 : ¬ (30 : Int) < (l3.length : Int) := by omega
                    go_wp2
                    go_meet
                    exact ⟨_, rfl, HB13, fun _ => ⟨HG1.out, HG2.out, by omega⟩⟩
                · clear hb23 hg2
                  go_wp2
                  go_meet
                  exact ⟨true, rfl, HB13, fun h => by cases h⟩
              · clear hb12 hg1
                go_wp2
                go_meet
                exact ⟨true, rfl, HB12, fun h => by cases h⟩
            case rest =>
              obtain ⟨g, rfl, hbx, hg⟩ := hcut
              have HBx := Lib.hid (HB1.out.trans (hbx.out.mono hs1) : Below wr.heap.size wr wc)
              cases g
              · have hg' := Lib.hid (hg.out rfl)
                clear hg
                go_wp2
                go_roundw
                case rel => exact ⟨k + 1, by omega, by go_num, hb1.out.trans (HBx.out.mono hb1.out.size), hb2.out.trans (HBx.out.mono hlei), fun e he => by
                  rw [HKX.out] at he
                  rcases List.mem_append.1 he with he | he
                  · exact hfew.out e he
                  · rw [List.mem_singleton.1 he]; exact ⟨hg'.out.1, hg'.out.2.1, hg'.out.2.2⟩⟩
                case measure => simp [intOf]; omega
              · clear hg
                go_wp2
                go_ret
                exact ⟨true, rfl, hb1.out.trans (HBx.out.mono hb1.out.size), fun h => by cases h⟩
          · have HF2 : Hid (Seen l (j + 1) m') := ⟨HSum.out, fun _ h => absurd h h600⟩
            go_wp2
            go_roundw
            case rel => exact ⟨j + 1, m', by omega, rfl, by go_num, HF2, hb1⟩
            case measure => simp [intOf]; omega
        · have HF2 : Hid (Seen l (j + 1) m') := ⟨HSum.out, fun h1 h2 t ht e he => by
            have e1 := HXJ.out.1
            have h3 := HSum.out h1
            have h4 := hs.out.sum (by omega)
            have h5 := HXJ.out.2
            rw [e1] at ht
            rcases List.mem_append.1 ht with ht | ht
            · exact hs.out.few (by omega) (by omega) t ht e he
            · rw [List.mem_singleton.1 ht] at he
              have hkk : k = vs.length := by omega
              have h6 := hfew.out
              rw [hkk, List.take_length] at h6
              exact h6 e he⟩
          go_wp2
          go_roundw
          case rel => exact ⟨j + 1, m', by omega, rfl, by go_num, HF2, hb1⟩
          case measure => simp [intOf]; omega
    · go_wp2
      go_loopw [9] (fun s9 wx => s9 = .int .i64 0 ∧ wx = wb) (fun _ _ => 0)
      case atStart => exact ⟨rfl, rfl⟩
      case round =>
        obtain ⟨rfl, rfl⟩ := hrel
        by_cases hm6 : 600 < m
        · go_wp2
          go_ret
          exact ⟨true, rfl, hb.out, fun h => by cases h⟩
        · by_cases hl6 : 60 < l.length
          · have hl6' : (60 : Int) < (l.length : Int) := by omega
            go_wp2
            go_ret
            exact ⟨true, rfl, hb.out, fun h => by cases h⟩
          · have hl6' : ¬ (60 : Int) < (l.length : Int) := by omega
            have hjl : Hid (j = l.length) := by show _ = _; omega
            go_wp2
            go_ret
            exact ⟨false, rfl, hb.out, fun _ => ⟨by omega, fun t ht => by
              have h1 := hs.out.sum (by rw [hjl.out]; omega)
              have h2 := hs.out.few (by rw [hjl.out]; omega) (by omega)
              rw [hjl.out, List.take_length] at h1 h2
              exact ⟨by have := evSum_mem l t ht; omega, h2 t ht⟩⟩⟩
end Go.Proofs.Ytaaijgalminafaa
