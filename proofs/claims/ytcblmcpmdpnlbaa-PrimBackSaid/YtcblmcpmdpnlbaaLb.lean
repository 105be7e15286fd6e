/-
  Layer 1: PrimBack, the walk.
-/
import Derived.Test.YtcblmcpmdpnlbaaSg
namespace Go.Proofs.Ytcblmcpmdpnlbaa
open Go.RowKit Mono
attribute [local go_sem] pureAt pureUpon

def baA (B n0 : Nat) (z : Int) (s : ByteArray) : Nat → Bns
  | 2 => .rd (sevens n0)
  | 6 => .rd (sevens n0 ++ sevens (zig z).toNat)
  | 8 => .rd (sevens n0 ++ sevens (zig z).toNat ++ textB s)
  | 9 => .rdr B (sevens n0 ++ sevens (zig z).toNat ++ textB s)
  | _ => .any
def baB (v : Nat) (u : List UInt8) (l : List UInt8) : Nat → Bns
  | 1 => .rd (sevens v)
  | 3 => .rd (sevens v ++ textB ⟨u.toArray⟩)
  | 4 => .val (.string ⟨(sevens v ++ textB ⟨u.toArray⟩).toArray⟩)
  | 6 => .val (.string ⟨l.toArray⟩)
  | 9 => .val (.bool true)
  | _ => .any

set_option maxRecDepth 100000 in
set_option maxHeartbeats 1600000 in
theorem primBack_walk (n0 n1 : Nat) (s : ByteArray) (A : Option Addr) (c : Nat) (l : List UInt8) (W : World) (h0 : n0 < 18446744073709551616) (_h1 : n1 < 18446744073709551616) (_hs : s.size ≤ maxLen) (hR : Rd W W.heap.size 1 A l.length (byt l)) :
    Calls Try.prog 6 #[.agg #[.int .u64 (n0 : Int), .int .u64 (n1 : Int)], .string s, .slice A l.length c] W (RetB true W) := by
  by_cases hl : 300 < s.size
  · have d1 : decide ((300 : Int) < s.size) = true := by simp; omega
    go_enter Try.func6, Try.ntmps6
    go_wp2
    go_ret
    exact RetB.mk' rfl ((Below.refl _ _).alloc (Nat.le_refl _) _)
  · have d1 : decide ((300 : Int) < s.size) = false := by simp; omega
    by_cases hl' : 100 < l.length
    · have d2 : decide ((100 : Int) < l.length) = true := by simp; omega
      go_enter Try.func6, Try.ntmps6
      go_wp2
      go_ret
      exact RetB.mk' rfl ((Below.refl _ _).alloc (Nat.le_refl _) _)
    · have d2 : decide ((100 : Int) < l.length) = false := by simp; omega
      obtain ⟨z, hzz⟩ : ∃ z, z = wrap64 (n1 : Int) := ⟨_, rfl⟩
      have hz : -9223372036854775808 ≤ z ∧ z ≤ 9223372036854775807 := by rw [hzz]; unfold wrap64; omega
      have hsl := sevens_len n0
      have hsl2 := sevens_len (zig z).toNat
      have hsl3 : (textB s).length ≤ 310 := by have := sevens_len s.size; rw [textB_len]; omega
      have hR0 : Rd (W.alloc (.cells #[.int .u64 (n0 : Int), .int .u64 (n1 : Int)] 41)) (W.heap.size + 1) 1 A l.length (byt l) := (hR.alloc (Nat.le_refl _) _).more (Nat.le_succ _)
      have b0 : Below W.heap.size W (W.alloc (.cells #[.int .u64 (n0 : Int), .int .u64 (n1 : Int)] 41)) := (Below.refl _ _).alloc (Nat.le_refl _) _
      have e0 := cell_new W #[.int .u64 (n0 : Int), .int .u64 (n1 : Int)] 41 0
      have e1 := cell_new W #[.int .u64 (n0 : Int), .int .u64 (n1 : Int)] 41 1
      simp only [List.getElem?_toArray, List.getElem?_cons_succ, List.getElem?_cons_zero] at e0 e1
      have hsz : (W.alloc (.cells #[.int .u64 (n0 : Int), .int .u64 (n1 : Int)] 41)).heap.size = W.heap.size + 1 := by simp
      have hz2 : IntKind.i64.wrap (n1 : Int) = z := by rw [IntKind.wrap_i64]; unfold wrap64 at hzz; omega
      have hz3 : wrap64 (n1 : Int) = z := hzz.symm
      clear hzz
      go_enter Try.func6, Try.ntmps6
      go_wp2_with fail
      generalize W.alloc (.cells #[.int .u64 (n0 : Int), .int .u64 (n1 : Int)] 41) = W1 at *
      refine wp_region_mono (Below W1.heap.size W1) Ext (bnsE (baA W1.heap.size n0 z s)) (bnsR (baA W1.heap.size n0 z s)) (bns_good _ _) (by kernel_rfl) (by kernel_rfl) (Below.refl _ _).drew ?_
      repeat (first | (refine wpM_skip rfl ?_) | (refine wpM_all rfl rfl (fun K hK => ?_); go_simp; refine hK _ ?_; clear hK K))
      refine wpM_look (.int .u64 (n0 : Int)) rfl rfl (fun w5 hc _ => ?_) ?_
      · have hcell : w5.cell? ⟨W.heap.size, 0, none⟩ = some (.int .u64 (n0 : Int)) := by rw [hc.cell (show W.heap.size < W1.heap.size by omega)]; exact e0
        go_simp
      repeat (first | (refine wpM_skip rfl ?_) | (refine wpM_all rfl rfl (fun K hK => ?_); go_simp; refine hK _ ?_; clear hK K))
      refine wpM_eff rfl rfl (fun w3 hc _ => steps_enter (putUint_nil n0 w3 h0) (by go_simp) (rets_ownB rfl)) ?_
      rintro v2 -
      repeat (first | (refine wpM_skip rfl ?_) | (refine wpM_all rfl rfl (fun K hK => ?_); go_simp; refine hK _ ?_; clear hK K))
      refine wpM_look (.int .u64 (n1 : Int)) rfl rfl (fun w5 hc _ => ?_) ?_
      · have hcell : w5.cell? ⟨W.heap.size, 1, none⟩ = some (.int .u64 (n1 : Int)) := by rw [hc.cell (show W.heap.size < W1.heap.size by omega)]; exact e1
        go_simp
      repeat (first | (refine wpM_skip rfl ?_) | (refine wpM_all rfl rfl (fun K hK => ?_); go_simp; refine hK _ ?_; clear hK K))
      refine wpM_eff rfl rfl (fun w3 hc hd => ?_) ?_
      · obtain ⟨A2, c2, rfl, hR2⟩ := RdS.form (l := sevens n0) (v := v2) (w := w3) (by have := hd ⟨2, .data⟩ (by simp) rfl; simpa [upd, bnsR, baA] using this)
        exact steps_enter (putInt_any A2 c2 (sevens n0) z w3 hR2 (by omega) hz) (by go_simp) (rets_ownB rfl)
      rintro v6 -
      repeat (first | (refine wpM_skip rfl ?_) | (refine wpM_all rfl rfl (fun K hK => ?_); go_simp; refine hK _ ?_; clear hK K))
      refine wpM_eff rfl rfl (fun w3 hc hd => ?_) ?_
      · obtain ⟨A2, c2, rfl, hR2⟩ := RdS.form (l := sevens n0 ++ sevens (zig z).toNat) (v := v6) (w := w3) (by have := hd ⟨6, .data⟩ (by simp) rfl; simpa [upd, bnsR, baA] using this)
        exact steps_enter (putText_any A2 c2 (sevens n0 ++ sevens (zig z).toNat) s w3 hR2 (by simp; omega) (by omega)) (by go_simp) (rets_ownB rfl)
      rintro v8 -
      repeat (first | (refine wpM_skip rfl ?_) | (refine wpM_all rfl rfl (fun K hK => ?_); go_simp; refine hK _ ?_; clear hK K))
      refine wpM_eff rfl rfl (fun w3 hc hd => ?_) ?_
      · obtain ⟨A2, c2, rfl, hR2⟩ := RdS.form (l := sevens n0 ++ sevens (zig z).toNat ++ textB s) (v := v8) (w := w3) (by have := hd ⟨8, .data⟩ (by simp) rfl; simpa [upd, bnsR, baA] using this)
        refine steps_enter (read_any A2 c2 (sevens n0 ++ sevens (zig z).toNat ++ textB s) w3 hR2 (by simp; omega)) (by go_simp) ?_
        rintro e w4 ⟨g, rfl, hg, hp, hb⟩
        exact ⟨_, rfl, hb, g, rfl, Nat.le_trans hc.size hg, hp⟩
      rintro v9 hv9
      repeat (first | (refine wpM_skip rfl ?_) | (refine wpM_all rfl rfl (fun K hK => ?_); go_simp; refine hK _ ?_; clear hK K))
      refine wpM_nil fun w2 hc2 hF => ?_
      have hF9 := hF 9
      simp [upd, bnsR, baA] at hF9
      obtain ⟨g, rfl, hgB, hp⟩ := hF9
      clear hF hv9
      go_wp2_with fail
      refine (uint_any g _ 18446744073709551615 _ hp).mono ?_
      rintro e w3 ⟨rfl, hp3, hg3⟩
      rw [Rdr.uint_sevens h0, if_neg (by omega)] at hp3 ⊢
      have b3 := hc2.grown hg3 hc2.size (fun k hk => by injection hk with hk; omega)
      clear hp hg3 hc2
      go_wp2_with fail
      refine (int_any g _ _ hp3).mono ?_
      rintro e w4 ⟨rfl, hp4, hg4⟩
      rw [Rdr.int_zig hz] at hp4 ⊢
      have b4 := b3.grown hg4 b3.size (fun k hk => by injection hk with hk; omega)
      clear hp3 hg4 b3
      have hT := Rdr.text_textB (s := s) (limit := 300) (by omega) []
      rw [List.append_nil, if_neg (by omega), (show ((300 : Nat) : Int) = 300 from rfl)] at hT
      go_wp2_with fail
      refine (text_any g _ 300 _ hp4 (by omega)).mono ?_
      rintro e w5 ⟨rfl, hp5, hg5⟩
      simp only at hp5 ⊢
      rw [hT] at hp5 ⊢
      rw [str_back]
      have b5 := b4.grown hg5 b4.size (fun k hk => by injection hk with hk; omega)
      clear hp4 hg5 b4 hT
      have k0 : w5.cell? ⟨W.heap.size, 0, none⟩ = some (.int .u64 (n0 : Int)) := by rw [b5.cell (show W.heap.size < W1.heap.size by omega)]; exact e0
      have k1 : w5.cell? ⟨W.heap.size, 1, none⟩ = some (.int .u64 (n1 : Int)) := by rw [b5.cell (show W.heap.size < W1.heap.size by omega)]; exact e1
      go_wp2_with fail
      refine (end_any g ⟨[], 0⟩ _ hp5).mono ?_
      rintro e wx ⟨rfl, rfl⟩
      rw [(show (Rdr.mk [] 0).fin = 0 from rfl)]
      have b5W : Below W.heap.size W w5 := b0.trans (b5.mono (by omega))
      clear b5 b0 e0 e1 hR0 hp5
      go_wp2_with fail
      refine (read_any A c l _ (hR.up b5W (Nat.le_refl _) b5W.size) (by omega)).mono ?_
      rintro e w6 ⟨q, rfl, hqB, hq, hb6⟩
      have b6 := step_below b5W hb6
      have hqW : W.heap.size ≤ q := by have := b5W.size; omega
      clear hb6 b5W
      go_wp2_with fail
      refine (uint_any q _ 18446744073709551615 _ hq).mono ?_
      rintro e w7 ⟨rfl, hq7, hg7⟩
      have b7 := b6.grown hg7 b6.size (fun k hk => by injection hk with hk; omega)
      clear hq hg7 b6
      go_wp2_with fail
      refine (text_any q _ 100 _ hq7 (by omega)).mono ?_
      rintro e w8 ⟨rfl, hq8, hg8⟩
      have b8 := b7.grown hg8 b7.size (fun k hk => by injection hk with hk; omega)
      clear hq7 hg8 b7
      have hback := read_back (l := l) (m := 18446744073709551615) (limit := 100)
      have hv := Rdr.uint_lt (Rdr.mk l 0) 18446744073709551615
      have hu := Nat.le_trans (text_len_le ((Rdr.mk l 0).uint 18446744073709551615).2 100) (Rdr.uint_rest _ _)
      simp only at hu
      generalize ((Rdr.mk l 0).uint 18446744073709551615).1 = v at *
      generalize ((Rdr.mk l 0).uint 18446744073709551615).2 = r1 at *
      generalize (r1.text 100).1 = u at *
      generalize (r1.text 100).2 = r2 at *
      have Hb := Lib.hid hback; clear hback
      go_wp2_with fail
      refine (end_any q r2 _ hq8).mono ?_
      rintro e wx ⟨rfl, rfl⟩
      by_cases hf : r2.fin = 0
      · have Hl2 := Lib.hid (Hb.out hf)
        rw [hf]
        clear hf Hb
        have hR8 := hR.up b8 (Nat.le_refl _) b8.size
        have hul : (⟨u.toArray⟩ : ByteArray).size ≤ 100 := by simp [ByteArray.size]; omega
        go_wp2_with fail
        refine wp_region_mono _ Ext (bnsE (baB v u l)) (bnsR (baB v u l)) (bns_good _ _) (by kernel_rfl) (by kernel_rfl) (Below.refl w8.heap.size w8).drew ?_
        repeat (first | (refine wpM_skip rfl ?_) | (refine wpM_all rfl rfl (fun K hK => ?_); go_simp; refine hK _ ?_; clear hK K))
        refine wpM_eff rfl rfl (fun w3 hc _ => steps_enter (putUint_nil v w3 hv) (by go_simp) (rets_ownB rfl)) ?_
        rintro v1 -
        repeat (first | (refine wpM_skip rfl ?_) | (refine wpM_all rfl rfl (fun K hK => ?_); go_simp; refine hK _ ?_; clear hK K))
        refine wpM_eff rfl rfl (fun w3 hc hd => ?_) ?_
        · obtain ⟨A2, c2, rfl, hR2⟩ := RdS.form (l := sevens v) (v := v1) (w := w3) (by have := hd ⟨1, .data⟩ (by simp) rfl; simpa [upd, bnsR, baB] using this)
          exact steps_enter (putText_any A2 c2 (sevens v) ⟨u.toArray⟩ w3 hR2 (by have := sevens_len v; omega) (by omega)) (by go_simp) (rets_ownB rfl)
        rintro v3 -
        repeat (first | (refine wpM_skip rfl ?_) | (refine wpM_all rfl rfl (fun K hK => ?_); go_simp; refine hK _ ?_; clear hK K))
        refine wpM_eff rfl rfl (fun w3 hc hd => steps_str v3 (l := sevens v ++ textB ⟨u.toArray⟩) Try.underlying22 Try.underlying5 Try.underlying9 (by have := hd ⟨3, .data⟩ (by simp) rfl; simpa [upd, bnsR, baB] using this) (fun u w' h => run_v h) rfl) ?_
        rintro v4 ⟨_, rfl⟩
        repeat (first | (refine wpM_skip rfl ?_) | (refine wpM_all rfl rfl (fun K hK => ?_); go_simp; refine hK _ ?_; clear hK K))
        refine wpM_eff rfl rfl (fun w3 hc hd => steps_str _ (l := l) Try.underlying22 Try.underlying5 Try.underlying9 (RdS.of (c := c) hR8 hc) (fun u w' h => run_v h) rfl) ?_
        rintro v6 ⟨_, rfl⟩
        rw [← Hl2.out]
        repeat (first | (refine wpM_skip rfl ?_) | (refine wpM_all rfl rfl (fun K hK => ?_); go_simp; refine hK _ ?_; clear hK K))
        refine wpM_eff rfl rfl (fun w3 hc _ => steps_enter (awake1_any w3) (by go_simp) (by rintro e w4 ⟨rfl, hb⟩; exact ⟨_, rfl, hb, rfl⟩)) ?_
        rintro v9 ⟨_, rfl⟩
        repeat (first | (refine wpM_skip rfl ?_) | (refine wpM_all rfl rfl (fun K hK => ?_); go_simp; refine hK _ ?_; clear hK K))
        refine wpM_nil fun w3 hc3 _ => ?_
        go_wp2
        go_ret
        exact RetB.mk' rfl (step_below b8 hc3)
      · have d3 : (r2.fin == 0) = false := by simpa using hf
        have d4 : (r2.fin != 0) = true := by simpa using hf
        clear hf Hb
        go_wp2_with fail
        refine (awake1_any _).mono ?_
        rintro e w9 ⟨rfl, hb9⟩
        go_wp2
        go_ret
        exact RetB.mk' rfl (step_below b8 hb9)
end Go.Proofs.Ytcblmcpmdpnlbaa
