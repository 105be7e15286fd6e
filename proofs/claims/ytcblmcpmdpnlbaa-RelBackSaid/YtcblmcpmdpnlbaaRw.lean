/-
  Layer 1, the reference's reader: Bytes, Int, Text, Byte, Word by contracts.
-/
import Derived.Test.YtcblmcpmdpnlbaaRt
import Derived.Test.YtcblmcpmdpnlbaaMx
namespace Go.Proofs.Ytcblmcpmdpnlbaa
open Go.RowKit Mono
attribute [local go_sem] pureAt pureUpon

theorem pureAt_of {P : Program} {o : Oper} {a : Act} {w : World} {v : Value} (h : (execOp a.eval o).run P w = .ok (.value v) w) : pureAt P o a w v := by
  unfold pureAt; rw [h]; exact ⟨rfl, rfl⟩
theorem run_sliceAt {P : Program} {w : World} {T e : TypeId} {x : Value} {lo hi : Option Value} {v : Value} (ht : P.underlying T = some (.slice e)) (h : (Instr.slice T x lo hi none).run P w = .ok v w) : (Instr.sliceAt T x lo hi none).run P w = .ok v w := by
  rw [← h]; simp [Instr.sliceAt, run_underlying ht]
theorem grown_below {w w2 w3 : World} {g : Nat} (h : w.grownBy w2 (some g)) (hb : Below w2.heap.size w2 w3) : w.grownBy w3 (some g) :=
  grown_trans_same h ⟨hb.os, hb.tape, hb.output, hb.size, fun i hi _ => hb.block i hi⟩
set_option maxRecDepth 100000 in
set_option maxHeartbeats 800000 in
/-- Bytes. -/
theorem bytesR_any (g : Nat) (r : Rdr) (n : Nat) (w : World) (h : RR w g r) (hn : n < 18446744073709551616) :
    Calls Try.prog 57 #[.pointer (some ⟨g, 0, none⟩), .int .u64 (n : Int)] w (RetW (.string ⟨(r.take n).1.toArray⟩) g (r.take n).2 w) := by
  obtain ⟨A, c, l, a, h1, h2, h3, h4, hR, hr, c0, c1, c2, f1, f2, hh⟩ := h.cells
  have hrl : r.rest.length ≤ 1048576 := by
    rw [hr]; split
    · rw [List.length_drop]; omega
    · simp
  by_cases hlt : r.rest.length < n
  · have hT : r.take n = ([], r.fail 1) := by unfold Rdr.take Rdr.fail; rw [if_pos hlt]; rfl
    have d1 : decide (r.rest.length < n) = true := by simpa using hlt
    have HT := Lib.hid hT; clear hT hlt hR hr hh
    go_enter Try.func57, Try.ntmps57
    go_wp2_with fail
    refine (leftR_any g r _ h).mono ?_
    rintro e w1 ⟨rfl, m, rfl⟩
    go_wp2_with fail
    refine (giveUpR_any g r 1 (w.drewN _) h).mono ?_
    rintro e w9 ⟨rfl, hp, hg⟩
    go_wp2
    go_ret
    rw [HT.out]
    exact ⟨rfl, hp, ⟨hg.os, hg.tape, hg.output, hg.size, hg.block⟩⟩
  · have d1 : decide (r.rest.length < n) = false := by simpa using hlt
    have hT : r.take n = (r.rest.take n, ⟨r.rest.drop n, r.bad⟩) := by unfold Rdr.take; rw [if_neg hlt]
    have hnl : n ≤ 1048576 := by omega
    have han : a + n ≤ l.length := by
      have h5 : ¬ r.rest.length < n := hlt
      rw [hr] at h5
      by_cases hb : r.bad = 0
      · rw [if_pos hb, List.length_drop] at h5; omega
      · rw [if_neg hb] at h5; simp at h5; omega
    have HT := Lib.hid hT; have HR := Lib.hid hR; have Hr := Lib.hid hr; have Hh := Lib.hid hh; have Hlt := Lib.hid hlt; clear hT hlt hR hr hh
    go_enter Try.func57, Try.ntmps57
    go_wp2_with fail
    refine (leftR_any g r _ h).mono ?_
    rintro e w1 ⟨rfl, m, rfl⟩
    have c0m : (w.drewN m).cell? ⟨g, 0, none⟩ = some (.slice A l.length c) := c0
    have c1m : (w.drewN m).cell? ⟨g, 1, none⟩ = some (.int .i64 (a : Nat)) := c1
    have f1m : (w.drewN m).frozen? ⟨g, 1, none⟩ = false := f1
    go_wp2_with fail
    have hrow := row_set (w := w.drewN m) Hh.out 1 (.int .i64 ((a : Int) + (n : Int)))
    have hR2 := Rd.setCell (w := w.drewN m) HR.out (p := ⟨g, 1, none⟩) (Nat.le_refl _) (.int .i64 ((a : Int) + (n : Int)))
    have hg2 := grown_set (w.drewN m) g 1 (.int .i64 ((a : Int) + (n : Int)))
    have hg3 : w.grownBy ((w.drewN m).setCell ⟨g, 1, none⟩ (.int .i64 ((a : Int) + (n : Int)))) (some g) := ⟨hg2.os, hg2.tape, hg2.output, hg2.size, hg2.block⟩
    clear hg2 c0m c1m f1m c0 c1 c2 f1 f2 h
    generalize (w.drewN m).setCell ⟨g, 1, none⟩ (.int .i64 ((a : Int) + (n : Int))) = w2 at *
    have k0 := row_cell hrow 0
    have k1 := row_cell hrow 1
    simp only [List.setIfInBounds_toArray, List.set_cons_succ, List.set_cons_zero, List.getElem?_toArray, List.getElem?_cons_succ, List.getElem?_cons_zero] at k0 k1
    have hgl := row_lt hrow
    have hcut : Rd w2 g 1 (cutA A c a 1) n (byt ((l.drop a).take n)) := by
      have := hR2.cutA (k := a) (m := n) (cap := c) han h3
      simpa [byt, List.map_take, List.map_drop] using this
    have hbytes : (l.drop a).take n = r.rest.take n := by
      have h5 := Hr.out
      have h6 := Hlt.out
      by_cases hb : r.bad = 0
      · rw [if_pos hb] at h5; rw [h5]
      · rw [if_neg hb] at h5
        rw [h5] at h6
        have hn0 : n = 0 := by simp at h6; omega
        rw [hn0]; simp
    rw [hbytes] at hcut
    have hRw := hR2
    clear hbytes hR2
    refine wp_region_mono _ Ext (ansE (fun _ => .any)) (ansR (fun _ => .any)) (ans_good _ _) (by kernel_rfl) (by kernel_rfl) (Below.refl w2.heap.size w2).drew ?_
    repeat (first | (refine wpM_skip rfl ?_) | (refine wpM_all rfl rfl (fun K hK => ?_); go_simp; refine hK _ ?_; clear hK K))
    refine wpM_look (.slice A l.length c) rfl rfl (fun w5 hc _ => ?_) ?_
    · have hcell : w5.cell? ⟨g, 0, none⟩ = some (.slice A l.length c) := by rw [hc.cell hgl]; exact k0
      go_simp
    repeat (first | (refine wpM_skip rfl ?_) | (refine wpM_all rfl rfl (fun K hK => ?_); go_simp; refine hK _ ?_; clear hK K))
    refine wpM_look (.int .i64 ((a : Int) + (n : Int))) rfl rfl (fun w5 hc _ => ?_) ?_
    · have hcell : w5.cell? ⟨g, 1, none⟩ = some (.int .i64 ((a : Int) + (n : Int))) := by rw [hc.cell hgl]; exact k1
      go_simp
    have hw1 : IntKind.i64.wrap (n : Int) = (n : Int) := by rw [IntKind.wrap_i64]; omega
    have hw2 : IntKind.i64.wrap (a : Int) = (a : Int) := by rw [IntKind.wrap_i64]; omega
    repeat (first | (refine wpM_skip rfl ?_) | (refine wpM_all rfl rfl (fun K hK => ?_); go_simp; refine hK _ ?_; clear hK K))
    refine wpM_look (.int .i64 ((a : Int) + (n : Int))) rfl rfl (fun w5 hc _ => ?_) ?_
    · have hcell : w5.cell? ⟨g, 1, none⟩ = some (.int .i64 ((a : Int) + (n : Int))) := by rw [hc.cell hgl]; exact k1
      go_simp
    refine wpM_look (.slice (cutA A c a 1) n (c - a)) rfl rfl (fun w5 hc _ => ?_) ?_
    · obtain ⟨i0, hi, hz0, hz1, hz2⟩ := info_parts Try.info5
      have hs := run_cut_mid (P := Try.prog) w5 Try.underlying22 hi A l.length c a (a + n) .i64 .i64 (by omega) (by omega)
      rw [hz1, (show a + n - a = n by omega), (show ((a + n : Nat) : Int) = (a : Int) + (n : Int) by omega)] at hs
      have hs2 := run_sliceAt Try.underlying22 hs
      exact pureAt_of (run_v hs2)
    refine wpM_look (.string ⟨(r.rest.take n).toArray⟩) rfl rfl (fun w5 hc _ => ?_) ?_
    · have hs := run_str_of_bytes (P := Try.prog) (src := 22) (dst := 9) (c := c - a) Try.underlying22 Try.underlying5 Try.underlying9 (hcut.below hc (Nat.le_of_lt hgl))
      exact pureAt_of (run_v hs)
    repeat (first | (refine wpM_skip rfl ?_) | (refine wpM_all rfl rfl (fun K hK => ?_); go_simp; refine hK _ ?_; clear hK K))
    refine wpM_nil fun w3 hc3 _ => ?_
    go_wp2
    go_ret
    rw [HT.out]
    refine ⟨rfl, ⟨A, c, l, a + n, han, h2, h3, h4, ?_, ?_, ?_⟩, grown_below hg3 hc3⟩
    · rw [hc3.block g hgl, hrow, (show ((a + n : Nat) : Int) = (a : Int) + (n : Int) by omega)]; rfl
    · exact hRw.below hc3 (Nat.le_of_lt hgl)
    · have hr := Hr.out
      show r.rest.drop n = if r.bad = 0 then l.drop (a + n) else []
      rw [hr]
      split
      · rw [List.drop_drop]
      · simp
end Go.Proofs.Ytcblmcpmdpnlbaa
