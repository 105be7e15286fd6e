/-
  Layer 8: Decode (f49), the walk.
-/
import Derived.Test.YtcblmcpmdpnlbaaDd
namespace Go.Proofs.Ytcblmcpmdpnlbaa
open Go.RowKit

/-- What a decoder answers. -/
def RetDc (l : List UInt8) (w : World) (en : Ending) (w' : World) : Prop :=
  ∃ A c, en = .returned (.tuple #[(dcV l).v A c, .int .i64 (dcE l)]) ∧ RlAt w' w'.heap.size (dcV l) A c ∧ Below w.heap.size w w'
/-- The result's five cells are set. -/
theorem res_set {W wr : World} {t e : TypeId} {base n : Nat} {xs : List Value} {u0 u1 u2 u3 u4 : Value} (hb : Below W.heap.size W wr) (hres : wr.heap[W.heap.size]? = some (.cells #[u0, u1, u2, u3, u4] t (0, 0))) (v0 v1 v2 v3 v4 : Value) (hown : wr.ownsRow base e 3 v4 n xs) (hbase : W.heap.size < base) :
    ∃ w9, ((((wr.setCell ⟨W.heap.size, 0, none⟩ v0).setCell ⟨W.heap.size, 1, none⟩ v1).setCell ⟨W.heap.size, 2, none⟩ v2).setCell ⟨W.heap.size, 3, none⟩ v3).setCell ⟨W.heap.size, 4, none⟩ v4 = w9 ∧ Below W.heap.size W w9 ∧ w9.heap[W.heap.size]? = some (.cells #[v0, v1, v2, v3, v4] t (0, 0)) ∧ w9.ownsRow base e 3 v4 n xs := by
  refine ⟨_, rfl, ?_, ?_, ?_⟩
  · exact ((((hb.setCell (p := ⟨W.heap.size, 0, none⟩) (by simp) _).setCell (p := ⟨W.heap.size, 1, none⟩) (by simp) _).setCell (p := ⟨W.heap.size, 2, none⟩) (by simp) _).setCell (p := ⟨W.heap.size, 3, none⟩) (by simp) _).setCell (p := ⟨W.heap.size, 4, none⟩) (by simp) _
  · exact row_set (row_set (row_set (row_set (row_set hres 0 v0) 1 v1) 2 v2) 3 v3) 4 v4
  · exact ownsRow_setCell_below (ownsRow_setCell_below (ownsRow_setCell_below (ownsRow_setCell_below (ownsRow_setCell_below hown (a := ⟨W.heap.size, 0, none⟩) (by simp; omega) v0) (a := ⟨W.heap.size, 1, none⟩) (by simp; omega) v1) (a := ⟨W.heap.size, 2, none⟩) (by simp; omega) v2) (a := ⟨W.heap.size, 3, none⟩) (by simp; omega) v3) (a := ⟨W.heap.size, 4, none⟩) (by simp; omega) v4
/-- What was answered: nothing, and an error. -/
theorem retDc_no {l : List UInt8} {w w' : World} {z : Int} (hz : dcE l = z) (h0 : z ≠ 0) (hb : Below w.heap.size w w') : RetDc l w (.returned (.tuple #[.agg #[.int .u32 0, .int .u32 0, .string ⟨#[]⟩, .int .u8 0, .slice none 0 0], .int .i64 z])) w' := by
  subst hz
  have hv : dcV l = ⟨0, 0, ⟨#[]⟩, 0, []⟩ := by unfold dcV; rw [if_neg h0]
  refine ⟨none, 0, ?_, ?_, hb⟩
  · rw [hv]; rfl
  · rw [hv]; exact ⟨Rd.none_, Nat.le_refl _, by simp [maxLen]⟩
theorem retDc_yes {l : List UInt8} {w w' : World} {r : Rl} {base : Nat} {e : TypeId} {v : Value} (hz : dcE l = 0) (hr : dcR l (dc5 l).1 = r) (hown : w'.ownsRow base e 3 v r.cs.length (cols r.cs)) (hb : Below w.heap.size w w') : RetDc l w (.returned (.tuple #[.agg (r.cells v), .int .i64 0])) w' := by
  have hv : dcV l = r := by unfold dcV; rw [if_pos hz, hr]
  obtain ⟨A, c, rfl, h1, h2, h3⟩ := Rd.of_own hown
  exact ⟨A, c, by rw [hv, hz]; rfl, by rw [hv]; exact ⟨h3, h1, h2⟩, hb⟩
theorem Rl.cells_set0 (r : Rl) (n : Nat) (v : Value) : (r.cells v).setIfInBounds 0 (.int .u32 (n : Int)) = Rl.cells { r with oid := n } v := rfl
theorem Rl.cells_set1 (r : Rl) (n : Nat) (v : Value) : (r.cells v).setIfInBounds 1 (.int .u32 (n : Int)) = Rl.cells { r with ver := n } v := rfl
theorem Rl.cells_set2 (r : Rl) (n : ByteArray) (v : Value) : (r.cells v).setIfInBounds 2 (.string n) = Rl.cells { r with name := n } v := rfl
theorem Rl.cells_set3 (r : Rl) (n : Nat) (v : Value) : (r.cells v).setIfInBounds 3 (.int .u8 (n : Int)) = Rl.cells { r with ident := n } v := rfl

set_option maxRecDepth 100000 in
set_option maxHeartbeats 3200000 in
theorem decode_any (A : Option Addr) (c : Nat) (l : List UInt8) (w : World) (hr : Rd w w.heap.size 1 A l.length (byt l)) (hm : l.length ≤ 1048576) :
    Calls Try.prog 49 #[.slice A l.length c] w (RetDc l w) := by
  obtain ⟨i0, hi, hz0, hz1, hz2⟩ := info_parts Try.info82
  have HR := Lib.hid hr; clear hr
  go_enter Try.func49, Try.ntmps49
  have hb1 : Below w.heap.size w (w.alloc (.cells #[.int .u32 0, .int .u32 0, .string ⟨#[]⟩, .int .u8 0, .slice none 0 0] 69)) := (Below.refl _ _).alloc (Nat.le_refl _) _
  have hg2 := heap_alloc_new w (.cells #[.int .u32 0, .int .u32 0, .string ⟨#[]⟩, .int .u8 0, .slice none 0 0] 69)
  have hs1 : (w.alloc (.cells #[.int .u32 0, .int .u32 0, .string ⟨#[]⟩, .int .u8 0, .slice none 0 0] 69)).heap.size = w.heap.size + 1 := by simp
  have Hb1 := Lib.hid hb1; have Hg2 := Lib.hid hg2; have Hs1 := Lib.hid hs1; clear hb1 hg2 hs1
  go_wp2_with fail
  generalize w.alloc (.cells #[.int .u32 0, .int .u32 0, .string ⟨#[]⟩, .int .u8 0, .slice none 0 0] 69) = w1 at *
  refine (read_any A c l _ (HR.out.up Hb1.out (Nat.le_refl _) Hb1.out.size) hm).mono ?_
  rintro e w2 ⟨g, rfl, hg, hp, hb2⟩
  have hs2 : w2.heap.size ≤ (w2.alloc (.cells #[.pointer (some ⟨g, 0, none⟩)] 34)).heap.size := by simp
  have D0 : De 69 82 w g w2.heap.size (w2.heap.size + 1) ⟨0, 0, ⟨#[]⟩, 0, []⟩ (.slice none 0 0) ⟨l, 0⟩ ((w2.alloc (.cells #[.pointer (some ⟨g, 0, none⟩)] 34)).alloc (.cells #[.int .u32 0, .int .u32 0, .string ⟨#[]⟩, .int .u8 0, .slice none 0 0] 69)) := by
    have hb3 : Below w2.heap.size w2 ((w2.alloc (.cells #[.pointer (some ⟨g, 0, none⟩)] 34)).alloc (.cells #[.int .u32 0, .int .u32 0, .string ⟨#[]⟩, .int .u8 0, .slice none 0 0] 69)) := ((Below.refl _ _).alloc (Nat.le_refl _) _).alloc hs2 _
    have hn1 := heap_alloc_new w2 (.cells #[.pointer (some ⟨g, 0, none⟩)] 34)
    have hn2 := heap_alloc_new (w2.alloc (.cells #[.pointer (some ⟨g, 0, none⟩)] 34)) (.cells #[.int .u32 0, .int .u32 0, .string ⟨#[]⟩, .int .u8 0, .slice none 0 0] 69)
    rw [World.size_alloc] at hn2
    have hsz := hb2.size
    have hgl : g < w2.heap.size := by obtain ⟨A', c', _, _, hh, _⟩ := hp; exact row_lt hh
    have hb2w : Below w.heap.size w w2 := Hb1.out.trans (hb2.mono Hb1.out.size)
    refine ⟨hb2w.trans (hb3.mono hb2w.size), ?_, ?_, hn2, World.ownsRow_nil _ _ _ _, hp.up hb3, ?_, hgl, by omega⟩
    · rw [hb3.block _ (by have := Hs1.out; omega), hb2.block _ (by have := Hs1.out; omega)]; exact Hg2.out
    · rw [Below.heap_alloc _ _ _ (by simp)]; exact hn1
    · have := Hs1.out; omega
  clear hs2
  have HD0 := Lib.hid D0; clear D0 hp hb2 hg
  go_wp2_with fail
  have D0 := HD0.out; clear HD0
  generalize (w2.alloc _).alloc _ = w3 at *
  generalize w2.heap.size = g4 at *
  refine (show Calls Try.prog 66 _ _ (RetM (.int .u32 ((dc1 l).1 : Int)) g (dc1 l).2 _) from dword_any g g4 ⟨l, 0⟩ _ D0.box D0.pr).mono ?_
  rintro e w4 ⟨rfl, hp4, hg4⟩
  generalize hg6 : g4 + 1 = g6 at *
  clear hg6
  have D1 : De 69 82 w g g4 g6 ⟨0, 0, ⟨#[]⟩, 0, []⟩ (.slice none 0 0) (dc1 l).2 w4 := D0.read hp4 hg4
  clear D0 hp4 hg4
  have f0 := row_free D1.rel 0
  have c0 : w4.cell? ⟨g6, 0, none⟩ = some (.int .u32 ((0 : Nat) : Int)) := row_cell D1.rel 0
  have HD1 := Lib.hid D1; clear D1
  go_wp2_with fail
  clear f0 c0
  have D2 : De 69 82 w g g4 g6 ⟨(dc1 l).1, 0, ⟨#[]⟩, 0, []⟩ (.slice none 0 0) (dc1 l).2 (w4.setCell ⟨g6, 0, none⟩ (.int .u32 ((dc1 l).1 : Int))) := HD1.out.put 0 _ _ _ rfl HD1.out.own
  refine (show Calls Try.prog 66 _ _ (RetM (.int .u32 ((dc2 l).1 : Int)) g (dc2 l).2 _) from dword_any g g4 (dc1 l).2 _ D2.box D2.pr).mono ?_
  rintro e w5 ⟨rfl, hp5, hg5⟩
  have D3 : De 69 82 w g g4 g6 ⟨(dc1 l).1, 0, ⟨#[]⟩, 0, []⟩ (.slice none 0 0) (dc2 l).2 w5 := D2.read hp5 hg5
  clear D2 HD1 hp5 hg5
  have f1 := row_free D3.rel 1
  have c1 : w5.cell? ⟨g6, 1, none⟩ = some (.int .u32 ((0 : Nat) : Int)) := row_cell D3.rel 1
  have D4 : De 69 82 w g g4 g6 ⟨(dc1 l).1, (dc2 l).1, ⟨#[]⟩, 0, []⟩ (.slice none 0 0) (dc2 l).2 (w5.setCell ⟨g6, 1, none⟩ (.int .u32 ((dc2 l).1 : Int))) := D3.put 1 _ _ _ rfl D3.own
  have q4 : (w5.setCell ⟨g6, 1, none⟩ (.int .u32 ((dc2 l).1 : Int))).cell? ⟨g4, 0, none⟩ = some (.pointer (some ⟨g, 0, none⟩)) := row_cell D4.box 0
  have HD4 := Lib.hid D4; clear D4 D3
  go_wp2_with fail
  clear f1 c1 q4
  refine (show Calls Try.prog 22 _ _ (RetM (.string ⟨(dc3 l).1.toArray⟩) g (dc3 l).2 _) from text_any g (dc2 l).2 31 _ HD4.out.pr (by omega)).mono ?_
  rintro e w6 ⟨rfl, hp6, hg6⟩
  have D5 : De 69 82 w g g4 g6 ⟨(dc1 l).1, (dc2 l).1, ⟨#[]⟩, 0, []⟩ (.slice none 0 0) (dc3 l).2 w6 := HD4.out.read hp6 hg6
  clear HD4 hp6 hg6
  have f2 := row_free D5.rel 2
  have c2 : w6.cell? ⟨g6, 2, none⟩ = some (.string ⟨#[]⟩) := row_cell D5.rel 2
  have D6 : De 69 82 w g g4 g6 ⟨(dc1 l).1, (dc2 l).1, ⟨(dc3 l).1.toArray⟩, 0, []⟩ (.slice none 0 0) (dc3 l).2 (w6.setCell ⟨g6, 2, none⟩ (.string ⟨(dc3 l).1.toArray⟩)) := D5.put 2 _ _ _ rfl D5.own
  have q6 : (w6.setCell ⟨g6, 2, none⟩ (.string ⟨(dc3 l).1.toArray⟩)).cell? ⟨g4, 0, none⟩ = some (.pointer (some ⟨g, 0, none⟩)) := row_cell D6.box 0
  have HD6 := Lib.hid D6; clear D6 D5
  go_wp2_with fail
  clear f2 c2 q6
  refine (show Calls Try.prog 27 _ _ (RetM (.int .u8 ((dc4 l).1 : Int)) g (dc4 l).2 _) from byte_any g (dc3 l).2 _ HD6.out.pr).mono ?_
  rintro e w7 ⟨rfl, hp7, hg7⟩
  have D7 : De 69 82 w g g4 g6 ⟨(dc1 l).1, (dc2 l).1, ⟨(dc3 l).1.toArray⟩, 0, []⟩ (.slice none 0 0) (dc4 l).2 w7 := HD6.out.read hp7 hg7
  clear HD6 hp7 hg7
  have f3 := row_free D7.rel 3
  have c3 : w7.cell? ⟨g6, 3, none⟩ = some (.int .u8 ((0 : Nat) : Int)) := row_cell D7.rel 3
  have D8 : De 69 82 w g g4 g6 ⟨(dc1 l).1, (dc2 l).1, ⟨(dc3 l).1.toArray⟩, (dc4 l).1, []⟩ (.slice none 0 0) (dc4 l).2 (w7.setCell ⟨g6, 3, none⟩ (.int .u8 ((dc4 l).1 : Int))) := D7.put 3 _ _ _ rfl D7.own
  have q8 : (w7.setCell ⟨g6, 3, none⟩ (.int .u8 ((dc4 l).1 : Int))).cell? ⟨g4, 0, none⟩ = some (.pointer (some ⟨g, 0, none⟩)) := row_cell D8.box 0
  have HD8 := Lib.hid D8; clear D8 D7
  go_wp2_with fail
  clear f3 c3 q8
  refine (show Calls Try.prog 21 _ _ (RetM (.int .u64 ((dc5 l).1 : Int)) g (dc5 l).2 _) from uint_any g (dc4 l).2 16 _ HD8.out.pr).mono ?_
  rintro e w8 ⟨rfl, hp8, hg8⟩
  have D9 : De 69 82 w g g4 g6 (dcR l 0) (.slice none 0 0) (colsTo (dc5 l).2 0).2 w8 := HD8.out.read hp8 hg8
  clear HD8 hp8 hg8
  have hn : (dc5 l).1 ≤ 16 := (dc4 l).2.uint_le 16
  generalize hnn : (dc5 l).1 = n at *
  have HNN := Lib.hid hnn; clear hnn
  go_wp2_with fail
  go_loopw [30] (fun i wr => ∃ (j : Nat) (col : Value), i = .int .u64 (j : Int) ∧ j ≤ n ∧ De 69 82 w g g4 g6 (dcR l j) col (colsTo (dc5 l).2 j).2 wr) (fun i _ => n - (intOf i).toNat)
  case atStart => exact ⟨0, _, rfl, Nat.zero_le _, D9⟩
  case round =>
    clear D9
    obtain ⟨j, col, rfl, hj, D⟩ := hrel
    by_cases hlt : j < n
    · have hd : decide ((j : Int) < (n : Int)) = true := by simp; omega
      have q := row_cell D.box 0
      have q0 : wr.cell? ⟨g4, 0, none⟩ = some (.pointer (some ⟨g, 0, none⟩)) := q
      clear q
      have HD := Lib.hid D; clear D
      generalize hrd : (colsTo (dc5 l).2 j).2 = rd at *
      have HRD := Lib.hid hrd; clear hrd
      have hji : (j : Int) < (n : Int) := by omega
      go_wp2_with fail
      clear q0 hd
      refine (text_any g rd 31 _ HD.out.pr (by omega)).mono ?_
      rintro e w9 ⟨rfl, hp9, hg9⟩
      have E1 := HD.out.read hp9 hg9
      clear HD hp9 hg9
      have hbA : Below w9.heap.size w9 (w9.alloc (.cells #[.string ⟨(rd.text 31).1.toArray⟩, .int .u8 0, .bool false] 82)) := (Below.refl _ _).alloc (Nat.le_refl _) _
      have E2 := E1.up hbA
      have hgA := heap_alloc_new w9 (.cells #[.string ⟨(rd.text 31).1.toArray⟩, .int .u8 0, .bool false] 82)
      have q0 : (w9.alloc (.cells #[.string ⟨(rd.text 31).1.toArray⟩, .int .u8 0, .bool false] 82)).cell? ⟨g4, 0, none⟩ = some (.pointer (some ⟨g, 0, none⟩)) := row_cell E2.box 0
      have hl6 : g6 < w9.heap.size := row_lt E1.rel
      have Hown : Hid (∀ k, col.ownBlock = some k → k < w9.heap.size) := fun k hk => (E1.own.lt k hk).2
      have HE2 := Lib.hid E2; have HgA := Lib.hid hgA; have Hl6 := Lib.hid hl6; clear E2 E1 hbA hgA hl6
      go_wp2_with fail
      clear q0
      refine (byte_any g (rd.text 31).2 _ HE2.out.pr).mono ?_
      rintro e w10 ⟨rfl, hp10, hg10⟩
      have E3 := HE2.out.read hp10 hg10
      have gA : w10.heap[w9.heap.size]? = some (.cells #[.string ⟨(rd.text 31).1.toArray⟩, .int .u8 0, .bool false] 82 (0, 0)) := (hg10.block _ (by simp) (fun e => by injection e with e; have := E3.l2; have := E3.l3; have := Hl6.out; omega)).trans HgA.out
      have ho : ∀ k, col.ownBlock = some k → k < w9.heap.size := Hown.out
      have f1 := row_free gA 1
      have f2 := row_free gA 2
      have c1 : w10.cell? ⟨w9.heap.size, 1, none⟩ = some (.int .u8 0) := row_cell gA 1
      have c2 : w10.cell? ⟨w9.heap.size, 2, none⟩ = some (.bool false) := row_cell gA 2
      have o4 : w10.cell? ⟨g6, 4, none⟩ = some col := row_cell E3.rel 4
      have c0 : w10.cell? ⟨w9.heap.size, 0, none⟩ = some (.string ⟨(rd.text 31).1.toArray⟩) := row_cell gA 0
      have HE3 := Lib.hid E3; have HgA' := Lib.hid gA; clear E3 gA HE2 hp10 hg10 HgA
      have Ho := Lib.hid ho; clear ho
      have hby := (rd.text 31).2.byte_lt
      generalize hbv : (rd.text 31).2.byte.1 = by_ at *
      have Hbv := Lib.hid hbv; clear hbv
      obtain ⟨ty, hty⟩ : ∃ ty : Nat, ty = by_ % 128 := ⟨_, rfl⟩
      obtain ⟨ky, e2⟩ : ∃ ky, decide ((128 : Int) ≤ (by_ : Int)) = ky := ⟨_, rfl⟩
      have e1 : (by_ : Int) % 128 = (ty : Int) := by omega
      have hky : decide (128 ≤ by_) = ky := by rw [← e2]; by_cases h : 128 ≤ by_ <;> simp [h] <;> omega
      have Hty := Lib.hid hty; have Hky := Lib.hid hky; clear hty hky
      generalize hsx : (⟨(rd.text 31).1.toArray⟩ : ByteArray) = sx at *
      have Hsx := Lib.hid hsx; clear hsx
      have hB1 : Below w9.heap.size w10 ((w10.setCell ⟨w9.heap.size, 1, none⟩ (.int .u8 (ty : Int))).setCell ⟨w9.heap.size, 2, none⟩ (.bool ky)) := ((Below.refl _ w10).setCell (p := ⟨w9.heap.size, 1, none⟩) (Nat.le_refl _) _).setCell (p := ⟨w9.heap.size, 2, none⟩) (Nat.le_refl _) _
      have hsz1 : ((w10.setCell ⟨w9.heap.size, 1, none⟩ (.int .u8 (ty : Int))).setCell ⟨w9.heap.size, 2, none⟩ (.bool ky)).heap.size = w10.heap.size := by simp
      have E4 := HE3.out.off hB1 Hl6.out Ho.out
      have hB2 : Below ((w10.setCell ⟨w9.heap.size, 1, none⟩ (.int .u8 (ty : Int))).setCell ⟨w9.heap.size, 2, none⟩ (.bool ky)).heap.size ((w10.setCell ⟨w9.heap.size, 1, none⟩ (.int .u8 (ty : Int))).setCell ⟨w9.heap.size, 2, none⟩ (.bool ky)) (((w10.setCell ⟨w9.heap.size, 1, none⟩ (.int .u8 (ty : Int))).setCell ⟨w9.heap.size, 2, none⟩ (.bool ky)).alloc (.cells #[.string sx, .int .u8 (ty : Int), .bool ky] 82)) := (Below.refl _ _).alloc (Nat.le_refl _) _
      have E5 := E4.up hB2
      have hnews := cells_news (heap_alloc_new ((w10.setCell ⟨w9.heap.size, 1, none⟩ (.int .u8 (ty : Int))).setCell ⟨w9.heap.size, 2, none⟩ (.bool ky)) (.cells #[.string sx, .int .u8 (ty : Int), .bool ky] 82))
      rw [hsz1] at hnews
      have how := E5.own
      have hlen : (dcR l j).cs.length = j := colsTo_len _ _
      rw [hlen] at how
      have h6w := row_lt E5.rel
      have HE5 := Lib.hid E5; have Hh6 := Lib.hid h6w; have Hlen := Lib.hid hlen
      clear E5 E4 hB2 hB1 HE3 hsz1 h6w hlen
      go_wp2_with (at_builtin; refine wpList_append_own _ rfl _ _ 67 rfl (g6 + 1) 82 i0 (.agg #[.string .empty, .int .u8 0, .bool false]) 3 24 Try.underlying67 hi hz0 hz1 hz2 rfl (by decide) _ _ _ rfl how ⟨w10.heap.size, 0, none⟩ 1 1 [.string sx, .int .u8 (ty : Int), .bool ky] rfl rfl hnews (by simp [Value.oneCell']) (by simp only [maxLen]; omega) (by omega) (by have := Hh6.out; omega) ?_)
      intro v8 w8 hown8 hg8 _
      have hcs : (dcR l (j + 1)).cs = (dcR l j).cs ++ [⟨sx, ty, ky⟩] := by
        show (colsTo (dc5 l).2 j).1 ++ [(colsTo (dc5 l).2 j).2.col.1] = _
        rw [HRD.out]
        unfold Rdr.col
        rw [Hsx.out, Hbv.out, ← Hty.out, Hky.out]
        rfl
      have hrd' : (colsTo (dc5 l).2 (j + 1)).2 = (rd.text 31).2.byte.2 := by
        show (colsTo (dc5 l).2 j).2.col.2 = _
        rw [HRD.out]; rfl
      have hl' : (dcR l (j + 1)).cs.length = j + 1 := colsTo_len _ _
      have E8 : De 69 82 w g g4 g6 (dcR l (j + 1)) v8 (rd.text 31).2.byte.2 (w8.setCell ⟨g6, 4, none⟩ v8) := HE5.out.append hg8 (by rw [hl', hcs, cols_snoc]; exact hown8) rfl
      have b8 := (hg8.block g6 (row_lt HE5.out.rel) (fun e' => by have := (HE5.out.own.lt _ e'.symm).1; omega)).trans HE5.out.rel
      obtain ⟨g8, cap8, rfl, _, _⟩ := own_form hown8 (by omega)
      have c8 : w8.cell? ⟨g6, 4, none⟩ = some col := row_cell b8 4
      have f8 := row_free b8 4
      have HE8 := Lib.hid E8; have Hrd' := Lib.hid hrd'
      clear E8 hrd' hl' hcs hown8 hg8 b8 how hnews o4 c0 c1 c2 f1 f2 e1 e2 HgA'
      go_wp2
      go_roundw
      case rel => exact ⟨j + 1, _, by go_num, by omega, by rw [Hrd'.out]; exact HE8.out⟩
      case measure => simp [intOf]; omega
    · obtain rfl : j = n := by omega
      have q0 : wr.cell? ⟨g4, 0, none⟩ = some (.pointer (some ⟨g, 0, none⟩)) := row_cell D.box 0
      obtain ⟨A', c', rfl, hc1, hc2, hRd⟩ := Rd.of_own D.own
      have hln : (dcR l j).cs.length = j := colsTo_len _ _
      have o0 : wr.cell? ⟨g6, 0, none⟩ = some (.int .u32 ((dcR l j).oid : Int)) := row_cell D.rel 0
      have o1 : wr.cell? ⟨g6, 1, none⟩ = some (.int .u32 ((dcR l j).ver : Int)) := row_cell D.rel 1
      have o2 : wr.cell? ⟨g6, 2, none⟩ = some (.string (dcR l j).name) := row_cell D.rel 2
      have o3 : wr.cell? ⟨g6, 3, none⟩ = some (.int .u8 ((dcR l j).ident : Int)) := row_cell D.rel 3
      have o4 : wr.cell? ⟨g6, 4, none⟩ = some (.slice A' (dcR l j).cs.length c') := row_cell D.rel 4
      have r0 : wr.cell? ⟨w.heap.size, 0, none⟩ = some (.int .u32 0) := row_cell D.res 0
      have r1 : wr.cell? ⟨w.heap.size, 1, none⟩ = some (.int .u32 0) := row_cell D.res 1
      have r2 : wr.cell? ⟨w.heap.size, 2, none⟩ = some (.string ⟨#[]⟩) := row_cell D.res 2
      have r3 : wr.cell? ⟨w.heap.size, 3, none⟩ = some (.int .u8 0) := row_cell D.res 3
      have r4 : wr.cell? ⟨w.heap.size, 4, none⟩ = some (.slice none 0 0) := row_cell D.res 4
      have f0 := row_free D.res 0
      have f1 := row_free D.res 1
      have f2 := row_free D.res 2
      have f3 := row_free D.res 3
      have f4 := row_free D.res 4
      have hdE : dcE l = if (colsTo (dc5 l).2 j).2.fin = 0 then (dcR l j).rightE else (colsTo (dc5 l).2 j).2.fin := by unfold dcE; rw [HNN.out]
      have hdV : dcV l = if dcE l = 0 then dcR l j else ⟨0, 0, ⟨#[]⟩, 0, []⟩ := by unfold dcV; rw [HNN.out]
      have hok := dcR_ok l j
      have HD := Lib.hid D; clear D
      generalize hfin : (colsTo (dc5 l).2 j).2.fin = fin at *
      have Hfin := Lib.hid hfin; clear hfin
      by_cases hf : fin = 0
      · subst hf
        rw [if_pos rfl] at hdE
        have HdE := Lib.hid hdE; have HdV := Lib.hid hdV; have Hln := Lib.hid hln; have Hok := Lib.hid hok; have HRd := Lib.hid hRd; clear hdE hdV hln hok hRd
        go_wp2_with fail
        refine (end_any g _ _ HD.out.pr).mono ?_
        rintro e w9 ⟨rfl, rfl⟩
        rw [Hfin.out]
        go_wp2_with fail
        clear r0 r1 r2 r3 r4 f0 f1 f2 f3 f4 o0 o1 o2 o3 o4 q0
        refine (right_any (dcR l j) A' c' _ HRd.out hc1 hc2 Hok.out.nm Hok.out.nms).mono ?_
        rintro e w9 ⟨rfl, hb9⟩
        have E := HD.out.up hb9
        have o0 : w9.cell? ⟨g6, 0, none⟩ = some (.int .u32 ((dcR l j).oid : Int)) := row_cell E.rel 0
        have o1 : w9.cell? ⟨g6, 1, none⟩ = some (.int .u32 ((dcR l j).ver : Int)) := row_cell E.rel 1
        have o2 : w9.cell? ⟨g6, 2, none⟩ = some (.string (dcR l j).name) := row_cell E.rel 2
        have o3 : w9.cell? ⟨g6, 3, none⟩ = some (.int .u8 ((dcR l j).ident : Int)) := row_cell E.rel 3
        have o4 : w9.cell? ⟨g6, 4, none⟩ = some (.slice A' (dcR l j).cs.length c') := row_cell E.rel 4
        have r0 : w9.cell? ⟨w.heap.size, 0, none⟩ = some (.int .u32 0) := row_cell E.res 0
        have r1 : w9.cell? ⟨w.heap.size, 1, none⟩ = some (.int .u32 0) := row_cell E.res 1
        have r2 : w9.cell? ⟨w.heap.size, 2, none⟩ = some (.string ⟨#[]⟩) := row_cell E.res 2
        have r3 : w9.cell? ⟨w.heap.size, 3, none⟩ = some (.int .u8 0) := row_cell E.res 3
        have r4 : w9.cell? ⟨w.heap.size, 4, none⟩ = some (.slice none 0 0) := row_cell E.res 4
        have f0 := row_free E.res 0
        have f1 := row_free E.res 1
        have f2 := row_free E.res 2
        have f3 := row_free E.res 3
        have f4 := row_free E.res 4
        have HE := Lib.hid E; clear E hb9 HD
        by_cases hz : (dcR l j).rightE = 0
        · have HdE2 := Lib.hid (HdE.out.trans hz)
          rw [hz]
          clear hz
          go_wp2_with fail
          clear r0 r1 r2 r3 r4 f0 f1 f2 f3 f4 o0 o1 o2 o3 o4
          obtain ⟨w10, hw10, hb10, hh10, how10⟩ := res_set HE.out.b HE.out.res (.int .u32 ((dcR l j).oid : Int)) (.int .u32 ((dcR l j).ver : Int)) (.string (dcR l j).name) (.int .u8 ((dcR l j).ident : Int)) (.slice A' (dcR l j).cs.length c') HE.out.own (by have := HE.out.l1; have := HE.out.l2; have := HE.out.l3; omega)
          rw [hw10]
          clear hw10
          have z0 := row_cell hh10 0
          have z1 := row_cell hh10 1
          have z2 := row_cell hh10 2
          have z3 := row_cell hh10 3
          have z4 := row_cell hh10 4
          simp only [List.getElem?_toArray, List.getElem?_cons_succ, List.getElem?_cons_zero] at z0 z1 z2 z3 z4
          exact bodyPost_ret (v := .tuple #[.agg ((dcR l j).cells (.slice A' (dcR l j).cs.length c')), .int .i64 0]) (by simp [results, Try.f49, go_sem, z0, z1, z2, z3, z4, Rl.cells]) rfl (retDc_yes HdE2.out (by rw [HNN.out]) how10 hb10)
        · have Hz := Lib.hid hz
          have ht : (((dcR l j).rightE : Int) == 0) = false := beq_eq_false_iff_ne.2 hz
          clear hz
          go_wp2_with fail
          clear r0 r1 r2 r3 r4 f0 f1 f2 f3 f4 o0 o1 o2 o3 o4
          obtain ⟨w10, hw10, hb10, hh10, how10⟩ := res_set HE.out.b HE.out.res (.int .u32 0) (.int .u32 0) (.string ⟨#[]⟩) (.int .u8 0) (.slice none 0 0) (World.ownsRow_nil w9 (w.heap.size + 1) 82 3) (by omega)
          rw [hw10]
          clear hw10
          have z0 := row_cell hh10 0
          have z1 := row_cell hh10 1
          have z2 := row_cell hh10 2
          have z3 := row_cell hh10 3
          have z4 := row_cell hh10 4
          simp only [List.getElem?_toArray, List.getElem?_cons_succ, List.getElem?_cons_zero] at z0 z1 z2 z3 z4
          exact bodyPost_ret (v := .tuple #[.agg #[.int .u32 0, .int .u32 0, .string ⟨#[]⟩, .int .u8 0, .slice none 0 0], .int .i64 (dcR l j).rightE]) (by simp [results, Try.f49, go_sem, z0, z1, z2, z3, z4]) rfl (retDc_no HdE.out Hz.out hb10)
      · rw [if_neg hf] at hdE
        have HdE := Lib.hid hdE; have HdV := Lib.hid hdV; have Hln := Lib.hid hln; have Hok := Lib.hid hok; have HRd := Lib.hid hRd; clear hdE hdV hln hok hRd
        have ht : ((fin : Int) == 0) = false := beq_eq_false_iff_ne.2 hf
        have Hf := Lib.hid hf; clear hf
        clear o0 o1 o2 o3 o4
        go_wp2_with fail
        refine (end_any g _ _ HD.out.pr).mono ?_
        rintro e w9 ⟨rfl, rfl⟩
        rw [Hfin.out]
        go_wp2_with fail
        clear r0 r1 r2 r3 r4 f0 f1 f2 f3 f4
        obtain ⟨w9, hw9, hb9, hh9, how9⟩ := res_set HD.out.b HD.out.res (.int .u32 0) (.int .u32 0) (.string ⟨#[]⟩) (.int .u8 0) (.slice none 0 0) (World.ownsRow_nil wr (w.heap.size + 1) 82 3) (by omega)
        rw [hw9]
        clear hw9
        have z0 := row_cell hh9 0
        have z1 := row_cell hh9 1
        have z2 := row_cell hh9 2
        have z3 := row_cell hh9 3
        have z4 := row_cell hh9 4
        simp only [List.getElem?_toArray, List.getElem?_cons_succ, List.getElem?_cons_zero] at z0 z1 z2 z3 z4
        exact bodyPost_ret (v := .tuple #[.agg #[.int .u32 0, .int .u32 0, .string ⟨#[]⟩, .int .u8 0, .slice none 0 0], .int .i64 fin]) (by simp [results, Try.f49, go_sem, z0, z1, z2, z3, z4]) rfl (retDc_no HdE.out Hf.out hb9)
end Go.Proofs.Ytcblmcpmdpnlbaa
