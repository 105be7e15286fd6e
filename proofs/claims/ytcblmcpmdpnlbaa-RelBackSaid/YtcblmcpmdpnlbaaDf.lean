/-
  Layer 8: the reference's Decode (f50), the walk.
-/
import Derived.Test.YtcblmcpmdpnlbaaDe
namespace Go.Proofs.Ytcblmcpmdpnlbaa
open Go.RowKit

theorem RR.up {w w' : World} {g : Nat} {r : Rdr} (h : RR w g r) (hb : Below w.heap.size w w') : RR w' g r := h.below hb h.lt
/-- The bytes' reader (g), the relation so far (g6); the result's box is the first block. -/
structure Dr (t e : TypeId) (W : World) (g g6 : Nat) (r : Rl) (col : Value) (rd : Rdr) (w : World) : Prop where
  b : Below W.heap.size W w
  res : w.heap[W.heap.size]? = some (.cells #[.int .u32 0, .int .u32 0, .string ⟨#[]⟩, .int .u8 0, .slice none 0 0] t (0, 0))
  rel : w.heap[g6]? = some (.cells (r.cells col) t (0, 0))
  own : w.ownsRow (g6 + 1) e 3 col r.cs.length (cols r.cs)
  pr : RR w g rd
  l1 : W.heap.size < g
  l3 : g < g6
section
variable {t e : TypeId} {W w w' : World} {g g6 : Nat} {r : Rl} {col : Value} {rd rd' : Rdr}
theorem Dr.up (h : Dr t e W g g6 r col rd w) (hb : Below w.heap.size w w') : Dr t e W g g6 r col rd w' := by
  have kp : ∀ g o, w.heap[g]? = some o → w'.heap[g]? = some o := fun g o hg => (hb.block g (Array.getElem?_eq_some_iff.1 hg).1).trans hg
  exact ⟨h.b.trans (hb.mono h.b.size), kp _ _ h.res, kp _ _ h.rel, h.own.kept (row := none) ⟨hb.os, hb.tape, hb.output, hb.size, fun k hk _ => hb.block k hk⟩ (by cases col.ownBlock <;> simp), h.pr.up hb, h.l1, h.l3⟩
/-- The reader has read on. -/
theorem Dr.read (h : Dr t e W g g6 r col rd w) (hp : RR w' g rd') (hg : w.grownBy w' (some g)) : Dr t e W g g6 r col rd' w' := by
  have hl := h.l1; have hl3 := h.l3
  have kp : ∀ k o, k ≠ g → w.heap[k]? = some o → w'.heap[k]? = some o := fun k o hne hk => (hg.block k (Array.getElem?_eq_some_iff.1 hk).1 (fun e => by injection e with e; exact hne e)).trans hk
  refine ⟨h.b.grown hg h.b.size (fun k hk => by injection hk with hk; omega), kp _ _ (by omega) h.res, kp _ _ (by omega) h.rel, own_block h.own (fun k hk => ?_), hp, h.l1, h.l3⟩
  have := h.own.lt k hk
  exact hg.block k this.2 (fun e => by injection e with e; omega)
/-- A field of the relation is set. -/
theorem Dr.put (h : Dr t e W g g6 r col rd w) (i : Nat) (u : Value) (r' : Rl) (col' : Value) (hr : (r.cells col).setIfInBounds i u = r'.cells col') (hown : w.ownsRow (g6 + 1) e 3 col' r'.cs.length (cols r'.cs)) : Dr t e W g g6 r' col' rd (w.setCell ⟨g6, i, none⟩ u) := by
  have hl := h.l1; have hl3 := h.l3
  have hB : Below g6 w (w.setCell ⟨g6, i, none⟩ u) := (Below.refl _ w).setCell (p := ⟨g6, i, none⟩) (Nat.le_refl _) _
  refine ⟨h.b.setCell (p := ⟨g6, i, none⟩) (by simp; omega) _, ?_, ?_, ownsRow_setCell_below hown (by simp) u, h.pr.below hB (by omega), h.l1, h.l3⟩
  · exact (hB.block _ (by omega)).trans h.res
  · rw [← hr]; exact row_set h.rel i u
/-- A column more. -/
theorem Dr.append {w8 : World} {r' : Rl} {v8 : Value} (h : Dr t e W g g6 r col rd w) (hg : w.grownBy w8 col.ownBlock) (hown : w8.ownsRow (g6 + 1) e 3 v8 r'.cs.length (cols r'.cs)) (hr : (r.cells col).setIfInBounds 4 v8 = r'.cells v8) :
    Dr t e W g g6 r' v8 rd (w8.setCell ⟨g6, 4, none⟩ v8) := by
  have hl := h.l1; have hl3 := h.l3
  have hge : ∀ k, col.ownBlock = some k → g6 + 1 ≤ k := fun k hk => (h.own.lt k hk).1
  have h6 := row_lt h.rel
  have hb : Below (g6 + 1) w w8 := ⟨hg.os, hg.tape, hg.output, hg.size, fun k hk => hg.block k (by omega) (fun e => by have := hge k e.symm; omega)⟩
  have hB : Below g6 w8 (w8.setCell ⟨g6, 4, none⟩ v8) := (Below.refl _ w8).setCell (p := ⟨g6, 4, none⟩) (Nat.le_refl _) _
  have hb2 : Below g6 w (w8.setCell ⟨g6, 4, none⟩ v8) := (hb.mono (by omega)).trans hB
  refine ⟨h.b.trans (hb2.mono (by omega)), (hb2.block _ (by omega)).trans h.res, ?_, ownsRow_setCell_below hown (by simp) v8, h.pr.below hb2 (by omega), h.l1, h.l3⟩
  rw [← hr]; exact row_set ((hb.block _ (by omega)).trans h.rel) 4 v8
end

set_option maxRecDepth 100000 in
set_option maxHeartbeats 3200000 in
theorem decodeR_any (A : Option Addr) (c : Nat) (l : List UInt8) (w : World) (hr : Rd w w.heap.size 1 A l.length (byt l)) (hm : l.length ≤ 1048576) (hlc : l.length ≤ c) (hcm : c ≤ maxLen) :
    Calls Try.prog 50 #[.slice A l.length c] w (RetDc l w) := by
  obtain ⟨i0, hi, hz0, hz1, hz2⟩ := info_parts Try.info83
  have D0 : Dr 65 83 w (w.heap.size + 1) (w.heap.size + 1 + 1) ⟨0, 0, ⟨#[]⟩, 0, []⟩ (.slice none 0 0) ⟨l, 0⟩ (((w.alloc (.cells #[.int .u32 0, .int .u32 0, .string ⟨#[]⟩, .int .u8 0, .slice none 0 0] 65)).alloc (.cells #[.slice A l.length c, .int .i64 0, .int .i64 0] 51)).alloc (.cells #[.int .u32 0, .int .u32 0, .string ⟨#[]⟩, .int .u8 0, .slice none 0 0] 65)) := by
    have hb3 : Below w.heap.size w (((w.alloc (.cells #[.int .u32 0, .int .u32 0, .string ⟨#[]⟩, .int .u8 0, .slice none 0 0] 65)).alloc (.cells #[.slice A l.length c, .int .i64 0, .int .i64 0] 51)).alloc (.cells #[.int .u32 0, .int .u32 0, .string ⟨#[]⟩, .int .u8 0, .slice none 0 0] 65)) := (((Below.refl _ _).alloc (Nat.le_refl _) _).alloc (by simp) _).alloc (by simp; omega) _
    have hn0 := heap_alloc_new w (.cells #[.int .u32 0, .int .u32 0, .string ⟨#[]⟩, .int .u8 0, .slice none 0 0] 65)
    have hn1 := heap_alloc_new (w.alloc (.cells #[.int .u32 0, .int .u32 0, .string ⟨#[]⟩, .int .u8 0, .slice none 0 0] 65)) (.cells #[.slice A l.length c, .int .i64 0, .int .i64 0] 51)
    have hn2 := heap_alloc_new ((w.alloc (.cells #[.int .u32 0, .int .u32 0, .string ⟨#[]⟩, .int .u8 0, .slice none 0 0] 65)).alloc (.cells #[.slice A l.length c, .int .i64 0, .int .i64 0] 51)) (.cells #[.int .u32 0, .int .u32 0, .string ⟨#[]⟩, .int .u8 0, .slice none 0 0] 65)
    rw [World.size_alloc] at hn1
    rw [World.size_alloc, World.size_alloc] at hn2
    refine ⟨hb3, ?_, hn2, World.ownsRow_nil _ _ _ _, ⟨A, c, l, 0, Nat.zero_le _, hm, hlc, hcm, ?_, hr.up hb3 (Nat.le_refl _) (by omega), rfl⟩, by omega, by omega⟩
    · rw [Below.heap_alloc _ _ _ (by simp; omega), Below.heap_alloc _ _ _ (by simp)]; exact hn0
    · rw [Below.heap_alloc _ _ _ (by simp)]; exact hn1
  have HD0 := Lib.hid D0; clear D0 hr
  go_enter Try.func50, Try.ntmps50
  go_wp2_with fail
  have D0 := HD0.out; clear HD0
  generalize ((w.alloc _).alloc _).alloc _ = w3 at *
  generalize w.heap.size + 1 = g at *
  generalize hg6 : g + 1 = g6 at *
  clear hg6
  have hw1 : IntKind.u32.wrap ((dc1 l).1 : Int) = ((dc1 l).1 : Int) := by have := (⟨l, 0⟩ : Rdr).uint_le 4294967295; have : (dc1 l).1 ≤ 4294967295 := this; unfold IntKind.wrap; simp [IntKind.bits, IntKind.signed]; omega
  have hw2 : IntKind.u32.wrap ((dc2 l).1 : Int) = ((dc2 l).1 : Int) := by have := (dc1 l).2.uint_le 4294967295; have : (dc2 l).1 ≤ 4294967295 := this; unfold IntKind.wrap; simp [IntKind.bits, IntKind.signed]; omega
  refine (show Calls Try.prog 29 _ _ (RetW (.int .u64 ((dc1 l).1 : Int)) g (dc1 l).2 _) from uintRd_any g ⟨l, 0⟩ 4294967295 _ D0.pr).mono ?_
  rintro e w4 ⟨rfl, hp4, hg4⟩
  have D1 : Dr 65 83 w g g6 ⟨0, 0, ⟨#[]⟩, 0, []⟩ (.slice none 0 0) (dc1 l).2 w4 := D0.read hp4 hg4
  clear D0 hp4 hg4
  have f0 := row_free D1.rel 0
  have c0 : w4.cell? ⟨g6, 0, none⟩ = some (.int .u32 ((0 : Nat) : Int)) := row_cell D1.rel 0
  have D2 : Dr 65 83 w g g6 ⟨(dc1 l).1, 0, ⟨#[]⟩, 0, []⟩ (.slice none 0 0) (dc1 l).2 (w4.setCell ⟨g6, 0, none⟩ (.int .u32 ((dc1 l).1 : Int))) := D1.put 0 _ _ _ rfl D1.own
  have HD2 := Lib.hid D2; clear D1 D2
  go_wp2_with fail
  clear f0 c0 hw1
  refine (show Calls Try.prog 29 _ _ (RetW (.int .u64 ((dc2 l).1 : Int)) g (dc2 l).2 _) from uintRd_any g (dc1 l).2 4294967295 _ HD2.out.pr).mono ?_
  rintro e w5 ⟨rfl, hp5, hg5⟩
  have D3 : Dr 65 83 w g g6 ⟨(dc1 l).1, 0, ⟨#[]⟩, 0, []⟩ (.slice none 0 0) (dc2 l).2 w5 := HD2.out.read hp5 hg5
  clear HD2 hp5 hg5
  have f1 := row_free D3.rel 1
  have c1 : w5.cell? ⟨g6, 1, none⟩ = some (.int .u32 ((0 : Nat) : Int)) := row_cell D3.rel 1
  have D4 : Dr 65 83 w g g6 ⟨(dc1 l).1, (dc2 l).1, ⟨#[]⟩, 0, []⟩ (.slice none 0 0) (dc2 l).2 (w5.setCell ⟨g6, 1, none⟩ (.int .u32 ((dc2 l).1 : Int))) := D3.put 1 _ _ _ rfl D3.own
  have HD4 := Lib.hid D4; clear D4 D3
  go_wp2_with fail
  clear f1 c1 hw2
  refine (show Calls Try.prog 31 _ _ (RetW (.string ⟨(dc3 l).1.toArray⟩) g (dc3 l).2 _) from textRd_any g (dc2 l).2 31 _ HD4.out.pr (by omega)).mono ?_
  rintro e w6 ⟨rfl, hp6, hg6⟩
  have D5 : Dr 65 83 w g g6 ⟨(dc1 l).1, (dc2 l).1, ⟨#[]⟩, 0, []⟩ (.slice none 0 0) (dc3 l).2 w6 := HD4.out.read hp6 hg6
  clear HD4 hp6 hg6
  have f2 := row_free D5.rel 2
  have c2 : w6.cell? ⟨g6, 2, none⟩ = some (.string ⟨#[]⟩) := row_cell D5.rel 2
  have D6 : Dr 65 83 w g g6 ⟨(dc1 l).1, (dc2 l).1, ⟨(dc3 l).1.toArray⟩, 0, []⟩ (.slice none 0 0) (dc3 l).2 (w6.setCell ⟨g6, 2, none⟩ (.string ⟨(dc3 l).1.toArray⟩)) := D5.put 2 _ _ _ rfl D5.own
  have HD6 := Lib.hid D6; clear D6 D5
  go_wp2_with fail
  clear f2 c2
  refine (show Calls Try.prog 32 _ _ (RetW (.int .u8 ((dc4 l).1 : Int)) g (dc4 l).2 _) from byteRd_any g (dc3 l).2 _ HD6.out.pr).mono ?_
  rintro e w7 ⟨rfl, hp7, hg7⟩
  have D7 : Dr 65 83 w g g6 ⟨(dc1 l).1, (dc2 l).1, ⟨(dc3 l).1.toArray⟩, 0, []⟩ (.slice none 0 0) (dc4 l).2 w7 := HD6.out.read hp7 hg7
  clear HD6 hp7 hg7
  have f3 := row_free D7.rel 3
  have c3 : w7.cell? ⟨g6, 3, none⟩ = some (.int .u8 ((0 : Nat) : Int)) := row_cell D7.rel 3
  have D8 : Dr 65 83 w g g6 ⟨(dc1 l).1, (dc2 l).1, ⟨(dc3 l).1.toArray⟩, (dc4 l).1, []⟩ (.slice none 0 0) (dc4 l).2 (w7.setCell ⟨g6, 3, none⟩ (.int .u8 ((dc4 l).1 : Int))) := D7.put 3 _ _ _ rfl D7.own
  have HD8 := Lib.hid D8; clear D8 D7
  go_wp2_with fail
  clear f3 c3
  refine (show Calls Try.prog 29 _ _ (RetW (.int .u64 ((dc5 l).1 : Int)) g (dc5 l).2 _) from uintRd_any g (dc4 l).2 16 _ HD8.out.pr).mono ?_
  rintro e w8 ⟨rfl, hp8, hg8⟩
  have D9 : Dr 65 83 w g g6 (dcR l 0) (.slice none 0 0) (colsTo (dc5 l).2 0).2 w8 := HD8.out.read hp8 hg8
  clear HD8 hp8 hg8
  have hn : (dc5 l).1 ≤ 16 := (dc4 l).2.uint_le 16
  generalize hnn : (dc5 l).1 = n at *
  have HNN := Lib.hid hnn; clear hnn
  go_wp2_with fail
  go_loopw [7] (fun i wr => ∃ (j : Nat) (col : Value), i = .int .u64 (j : Int) ∧ j ≤ n ∧ Dr 65 83 w g g6 (dcR l j) col (colsTo (dc5 l).2 j).2 wr) (fun i _ => n - (intOf i).toNat)
  case atStart => exact ⟨0, _, rfl, Nat.zero_le _, D9⟩
  case round =>
    clear D9
    obtain ⟨j, col, rfl, hj, D⟩ := hrel
    by_cases hlt : j < n
    · have hd : decide ((j : Int) < (n : Int)) = true := by simp; omega
      have HD := Lib.hid D; clear D
      generalize hrd : (colsTo (dc5 l).2 j).2 = rd at *
      have HRD := Lib.hid hrd; clear hrd
      have hji : (j : Int) < (n : Int) := by omega
      go_wp2_with fail
      clear hd
      refine (textRd_any g rd 31 _ HD.out.pr (by omega)).mono ?_
      rintro e w9 ⟨rfl, hp9, hg9⟩
      have E1 := HD.out.read hp9 hg9
      clear HD hp9 hg9
      have HE1 := Lib.hid E1; clear E1
      go_wp2_with fail
      refine (byteRd_any g (rd.text 31).2 _ HE1.out.pr).mono ?_
      rintro e w10 ⟨rfl, hp10, hg10⟩
      have E3 := HE1.out.read hp10 hg10
      have o4 : w10.cell? ⟨g6, 4, none⟩ = some col := row_cell E3.rel 4
      have hby := (rd.text 31).2.byte_lt
      generalize hbv : (rd.text 31).2.byte.1 = by_ at *
      have Hbv := Lib.hid hbv; clear hbv
      obtain ⟨ty, hty⟩ : ∃ ty : Nat, ty = by_ % 128 := ⟨_, rfl⟩
      obtain ⟨ky, e2⟩ : ∃ ky, decide ((127 : Int) < (by_ : Int)) = ky := ⟨_, rfl⟩
      have e1 : (by_ : Int) % 128 = (ty : Int) := by omega
      have hky : decide (128 ≤ by_) = ky := by rw [← e2]; by_cases h : 128 ≤ by_ <;> simp [h] <;> omega
      have Hty := Lib.hid hty; have Hky := Lib.hid hky; clear hty hky
      generalize hsx : (⟨(rd.text 31).1.toArray⟩ : ByteArray) = sx at *
      have Hsx := Lib.hid hsx; clear hsx
      have hB2 : Below w10.heap.size w10 (w10.alloc (.cells #[.string sx, .int .u8 (ty : Int), .bool ky] 83)) := (Below.refl _ _).alloc (Nat.le_refl _) _
      have E5 := E3.up hB2
      have hnews := cells_news (heap_alloc_new w10 (.cells #[.string sx, .int .u8 (ty : Int), .bool ky] 83))
      have how := E5.own
      have hlen : (dcR l j).cs.length = j := colsTo_len _ _
      rw [hlen] at how
      have h6w := row_lt E5.rel
      have HE5 := Lib.hid E5; have Hh6 := Lib.hid h6w; have Hlen := Lib.hid hlen
      clear E5 E3 hB2 h6w hlen HE1 hp10 hg10
      go_wp2_with (at_builtin; refine wpList_append_own _ rfl _ _ 63 rfl (g6 + 1) 83 i0 (.agg #[.string .empty, .int .u8 0, .bool false]) 3 24 Try.underlying63 hi hz0 hz1 hz2 rfl (by decide) _ _ _ rfl how ⟨w10.heap.size, 0, none⟩ 1 1 [.string sx, .int .u8 (ty : Int), .bool ky] rfl rfl hnews (by simp [Value.oneCell']) (by simp only [maxLen]; omega) (by omega) (by have := Hh6.out; omega) ?_)
      intro v8 w8 hown8 hg8 _
      have hcs : (dcR l (j + 1)).cs = (dcR l j).cs ++ [⟨sx, ty, ky⟩] := by
        show (colsTo (dc5 l).2 j).1 ++ [(colsTo (dc5 l).2 j).2.col.1] = _
        rw [HRD.out]
        unfold Rdr.col
        rw [Hsx.out, Hbv.out, ← Hty.out, Hky.out]
        rfl
      have hrd' : (colsTo (dc5 l).2 (j + 1)).2 = (rd.text 31).2.byte.2 := by
        show (colsTo (dc5 l).2 j).2.col.2 = _
        rw [HRD.out]; rfl
      have hl' : (dcR l (j + 1)).cs.length = j + 1 := colsTo_len _ _
      have E8 : Dr 65 83 w g g6 (dcR l (j + 1)) v8 (rd.text 31).2.byte.2 (w8.setCell ⟨g6, 4, none⟩ v8) := HE5.out.append hg8 (by rw [hl', hcs, cols_snoc]; exact hown8) rfl
      have b8 := (hg8.block g6 (row_lt HE5.out.rel) (fun e' => by have := (HE5.out.own.lt _ e'.symm).1; omega)).trans HE5.out.rel
      obtain ⟨g8, cap8, rfl, _, _⟩ := own_form hown8 (by omega)
      have c8 : w8.cell? ⟨g6, 4, none⟩ = some col := row_cell b8 4
      have f8 := row_free b8 4
      have HE8 := Lib.hid E8; have Hrd' := Lib.hid hrd'
      clear E8 hrd' hl' hcs hown8 hg8 b8 how hnews o4 e1 e2
      go_wp2
      go_roundw
      case rel => exact ⟨j + 1, _, by go_num, by omega, by rw [Hrd'.out]; exact HE8.out⟩
      case measure => simp [intOf]; omega
    · obtain rfl : j = n := by omega
      obtain ⟨A', c', rfl, hc1, hc2, hRd⟩ := Rd.of_own D.own
      have hln : (dcR l j).cs.length = j := colsTo_len _ _
      have hdE : dcE l = if (colsTo (dc5 l).2 j).2.fin = 0 then (dcR l j).rightE else (colsTo (dc5 l).2 j).2.fin := by unfold dcE; rw [HNN.out]
      have hdV : dcV l = if dcE l = 0 then dcR l j else ⟨0, 0, ⟨#[]⟩, 0, []⟩ := by unfold dcV; rw [HNN.out]
      have hok := dcR_ok l j
      have HD := Lib.hid D; clear D
      generalize hfin : (colsTo (dc5 l).2 j).2.fin = fin at *
      have Hfin := Lib.hid hfin; clear hfin
      by_cases hf : fin = 0
      · subst hf
        rw [if_pos rfl] at hdE
        have HdE := Lib.hid hdE; have HdV := Lib.hid hdV; have Hln := Lib.hid hln; have Hok := Lib.hid hok; have HRd := Lib.hid hRd; clear hdE hdV hln hok hRd
        go_wp2_with fail
        refine (endR_any g _ _ HD.out.pr).mono ?_
        rintro e w9 ⟨rfl, m9, hwm⟩
        have hb9 : Below wr.heap.size wr w9 := by rw [hwm]; exact ⟨rfl, rfl, rfl, Nat.le_refl _, fun _ _ => rfl⟩
        have E9 := HD.out.up hb9
        have HRd9 := Lib.hid (HRd.out.up hb9 (Nat.le_refl _) hb9.size)
        clear hwm hb9 HRd
        have o0 : w9.cell? ⟨g6, 0, none⟩ = some (.int .u32 ((dcR l j).oid : Int)) := row_cell E9.rel 0
        have o1 : w9.cell? ⟨g6, 1, none⟩ = some (.int .u32 ((dcR l j).ver : Int)) := row_cell E9.rel 1
        have o2 : w9.cell? ⟨g6, 2, none⟩ = some (.string (dcR l j).name) := row_cell E9.rel 2
        have o3 : w9.cell? ⟨g6, 3, none⟩ = some (.int .u8 ((dcR l j).ident : Int)) := row_cell E9.rel 3
        have o4 : w9.cell? ⟨g6, 4, none⟩ = some (.slice A' (dcR l j).cs.length c') := row_cell E9.rel 4
        have r0 : w9.cell? ⟨w.heap.size, 0, none⟩ = some (.int .u32 0) := row_cell E9.res 0
        have r1 : w9.cell? ⟨w.heap.size, 1, none⟩ = some (.int .u32 0) := row_cell E9.res 1
        have r2 : w9.cell? ⟨w.heap.size, 2, none⟩ = some (.string ⟨#[]⟩) := row_cell E9.res 2
        have r3 : w9.cell? ⟨w.heap.size, 3, none⟩ = some (.int .u8 0) := row_cell E9.res 3
        have r4 : w9.cell? ⟨w.heap.size, 4, none⟩ = some (.slice none 0 0) := row_cell E9.res 4
        have f0 := row_free E9.res 0
        have f1 := row_free E9.res 1
        have f2 := row_free E9.res 2
        have f3 := row_free E9.res 3
        have f4 := row_free E9.res 4
        have HD9 := Lib.hid E9; clear E9
        rw [Hfin.out]
        clear Hfin HD
        go_wp2_with fail
        clear r0 r1 r2 r3 r4 f0 f1 f2 f3 f4 o0 o1 o2 o3 o4
        refine (rightR_any (dcR l j) A' c' _ HRd9.out hc1 hc2 Hok.out.nm Hok.out.nms).mono ?_
        rintro e w10 ⟨rfl, hb10⟩
        have E := HD9.out.up hb10
        have o0 : w10.cell? ⟨g6, 0, none⟩ = some (.int .u32 ((dcR l j).oid : Int)) := row_cell E.rel 0
        have o1 : w10.cell? ⟨g6, 1, none⟩ = some (.int .u32 ((dcR l j).ver : Int)) := row_cell E.rel 1
        have o2 : w10.cell? ⟨g6, 2, none⟩ = some (.string (dcR l j).name) := row_cell E.rel 2
        have o3 : w10.cell? ⟨g6, 3, none⟩ = some (.int .u8 ((dcR l j).ident : Int)) := row_cell E.rel 3
        have o4 : w10.cell? ⟨g6, 4, none⟩ = some (.slice A' (dcR l j).cs.length c') := row_cell E.rel 4
        have r0 : w10.cell? ⟨w.heap.size, 0, none⟩ = some (.int .u32 0) := row_cell E.res 0
        have r1 : w10.cell? ⟨w.heap.size, 1, none⟩ = some (.int .u32 0) := row_cell E.res 1
        have r2 : w10.cell? ⟨w.heap.size, 2, none⟩ = some (.string ⟨#[]⟩) := row_cell E.res 2
        have r3 : w10.cell? ⟨w.heap.size, 3, none⟩ = some (.int .u8 0) := row_cell E.res 3
        have r4 : w10.cell? ⟨w.heap.size, 4, none⟩ = some (.slice none 0 0) := row_cell E.res 4
        have f0 := row_free E.res 0
        have f1 := row_free E.res 1
        have f2 := row_free E.res 2
        have f3 := row_free E.res 3
        have f4 := row_free E.res 4
        have HE := Lib.hid E; clear E hb10 HD9
        by_cases hz : (dcR l j).rightE = 0
        · have HdE2 := Lib.hid (HdE.out.trans hz)
          rw [hz]
          clear hz
          go_wp2_with fail
          clear r0 r1 r2 r3 r4 f0 f1 f2 f3 f4 o0 o1 o2 o3 o4
          obtain ⟨w11, hw11, hb11, hh11, how11⟩ := res_set HE.out.b HE.out.res (.int .u32 ((dcR l j).oid : Int)) (.int .u32 ((dcR l j).ver : Int)) (.string (dcR l j).name) (.int .u8 ((dcR l j).ident : Int)) (.slice A' (dcR l j).cs.length c') HE.out.own (by have := HE.out.l1; have := HE.out.l3; omega)
          rw [hw11]
          clear hw11
          have z0 := row_cell hh11 0
          have z1 := row_cell hh11 1
          have z2 := row_cell hh11 2
          have z3 := row_cell hh11 3
          have z4 := row_cell hh11 4
          simp only [List.getElem?_toArray, List.getElem?_cons_succ, List.getElem?_cons_zero] at z0 z1 z2 z3 z4
          exact bodyPost_ret (v := .tuple #[.agg ((dcR l j).cells (.slice A' (dcR l j).cs.length c')), .int .i64 0]) (by simp [results, Try.f50, go_sem, z0, z1, z2, z3, z4, Rl.cells]) rfl (retDc_yes HdE2.out (by rw [HNN.out]) how11 hb11)
        · have Hz := Lib.hid hz
          have ht : (((dcR l j).rightE : Int) == 0) = false := beq_eq_false_iff_ne.2 hz
          clear hz
          go_wp2_with fail
          clear r0 r1 r2 r3 r4 f0 f1 f2 f3 f4 o0 o1 o2 o3 o4
          obtain ⟨w11, hw11, hb11, hh11, how11⟩ := res_set HE.out.b HE.out.res (.int .u32 0) (.int .u32 0) (.string ⟨#[]⟩) (.int .u8 0) (.slice none 0 0) (World.ownsRow_nil w10 (w.heap.size + 1) 83 3) (by omega)
          rw [hw11]
          clear hw11
          have z0 := row_cell hh11 0
          have z1 := row_cell hh11 1
          have z2 := row_cell hh11 2
          have z3 := row_cell hh11 3
          have z4 := row_cell hh11 4
          simp only [List.getElem?_toArray, List.getElem?_cons_succ, List.getElem?_cons_zero] at z0 z1 z2 z3 z4
          exact bodyPost_ret (v := .tuple #[.agg #[.int .u32 0, .int .u32 0, .string ⟨#[]⟩, .int .u8 0, .slice none 0 0], .int .i64 (dcR l j).rightE]) (by simp [results, Try.f50, go_sem, z0, z1, z2, z3, z4]) rfl (retDc_no HdE.out Hz.out hb11)
      · rw [if_neg hf] at hdE
        have HdE := Lib.hid hdE; have HdV := Lib.hid hdV; have Hln := Lib.hid hln; have Hok := Lib.hid hok; have HRd := Lib.hid hRd; clear hdE hdV hln hok hRd
        have ht : ((fin : Int) == 0) = false := beq_eq_false_iff_ne.2 hf
        have Hf := Lib.hid hf; clear hf
        go_wp2_with fail
        refine (endR_any g _ _ HD.out.pr).mono ?_
        rintro e w9 ⟨rfl, m9, hwm⟩
        have hb9 : Below wr.heap.size wr w9 := by rw [hwm]; exact ⟨rfl, rfl, rfl, Nat.le_refl _, fun _ _ => rfl⟩
        have E9 := HD.out.up hb9
        have HRd9 := Lib.hid (HRd.out.up hb9 (Nat.le_refl _) hb9.size)
        clear hwm hb9 HRd
        have o0 : w9.cell? ⟨g6, 0, none⟩ = some (.int .u32 ((dcR l j).oid : Int)) := row_cell E9.rel 0
        have o1 : w9.cell? ⟨g6, 1, none⟩ = some (.int .u32 ((dcR l j).ver : Int)) := row_cell E9.rel 1
        have o2 : w9.cell? ⟨g6, 2, none⟩ = some (.string (dcR l j).name) := row_cell E9.rel 2
        have o3 : w9.cell? ⟨g6, 3, none⟩ = some (.int .u8 ((dcR l j).ident : Int)) := row_cell E9.rel 3
        have o4 : w9.cell? ⟨g6, 4, none⟩ = some (.slice A' (dcR l j).cs.length c') := row_cell E9.rel 4
        have r0 : w9.cell? ⟨w.heap.size, 0, none⟩ = some (.int .u32 0) := row_cell E9.res 0
        have r1 : w9.cell? ⟨w.heap.size, 1, none⟩ = some (.int .u32 0) := row_cell E9.res 1
        have r2 : w9.cell? ⟨w.heap.size, 2, none⟩ = some (.string ⟨#[]⟩) := row_cell E9.res 2
        have r3 : w9.cell? ⟨w.heap.size, 3, none⟩ = some (.int .u8 0) := row_cell E9.res 3
        have r4 : w9.cell? ⟨w.heap.size, 4, none⟩ = some (.slice none 0 0) := row_cell E9.res 4
        have f0 := row_free E9.res 0
        have f1 := row_free E9.res 1
        have f2 := row_free E9.res 2
        have f3 := row_free E9.res 3
        have f4 := row_free E9.res 4
        have HD9 := Lib.hid E9; clear E9
        rw [Hfin.out]
        clear Hfin HD
        go_wp2_with fail
        clear r0 r1 r2 r3 r4 f0 f1 f2 f3 f4 o0 o1 o2 o3 o4
        obtain ⟨w12, hw9, hb9, hh9, how9⟩ := res_set HD9.out.b HD9.out.res (.int .u32 0) (.int .u32 0) (.string ⟨#[]⟩) (.int .u8 0) (.slice none 0 0) (World.ownsRow_nil w9 (w.heap.size + 1) 83 3) (by omega)
        rw [hw9]
        clear hw9
        have z0 := row_cell hh9 0
        have z1 := row_cell hh9 1
        have z2 := row_cell hh9 2
        have z3 := row_cell hh9 3
        have z4 := row_cell hh9 4
        simp only [List.getElem?_toArray, List.getElem?_cons_succ, List.getElem?_cons_zero] at z0 z1 z2 z3 z4
        exact bodyPost_ret (v := .tuple #[.agg #[.int .u32 0, .int .u32 0, .string ⟨#[]⟩, .int .u8 0, .slice none 0 0], .int .i64 fin]) (by simp [results, Try.f50, go_sem, z0, z1, z2, z3, z4]) rfl (retDc_no HdE.out Hf.out hb9)
end Go.Proofs.Ytcblmcpmdpnlbaa
