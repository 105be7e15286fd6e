/-
  Layer 1: the examples (awake).
-/
import Derived.Test.YtcblmcpmdpnlbaaMx
namespace Go.Proofs.Ytcblmcpmdpnlbaa
open Go.RowKit Mono
attribute [local go_sem] pureAt pureUpon

def awA : Nat → Ans
  | 4 => .val (.int .i64 4)
  | 8 => .rd [172, 2]
  | 9 => .val (.string ⟨#[172, 2]⟩)
  | 10 => .rd [172, 2]
  | 11 => .val (.string ⟨#[172, 2]⟩)
  | 15 => .rd [1]
  | 16 => .val (.string ⟨#[1]⟩)
  | _ => .any
set_option maxRecDepth 100000 in
set_option maxHeartbeats 800000 in
theorem awake1_any (w : World) : Calls Try.prog 19 #[] w (RetB true w) := by
  have hd : dgs 0 0 [10] = (0, 10, 1) := by decide
  have hU : (Rdr.uint ⟨[10], 0⟩ 9) = (0, ⟨[], 4⟩) := by simp [Rdr.uint, Rdr.uintE, Rdr.giveUp, hd]
  have HU := Lib.hid hU; clear hU hd
  go_enter Try.func19, Try.ntmps19
  go_wp2_with fail
  have hR0 := Rd.new w #[.int .u8 10] 5 (size := 1) (n := 1) (by simp)
  refine (read_any (some ⟨w.heap.size, 0, none⟩) 1 [10] _ (by simpa [byt] using hR0) (by simp)).mono ?_
  rintro e w1 ⟨g, rfl, hg, hp, hB⟩
  go_wp2_with fail
  refine (uint_any g ⟨[10], 0⟩ 9 _ hp).mono ?_
  rintro e w2 ⟨rfl, hp2, hg2⟩
  rw [HU.out] at hp2 ⊢
  simp only at hp2
  go_wp2_with fail
  refine wp_region_mono (Below w2.heap.size w2) Ext (ansE awA) (ansR awA) (ans_good awA w2) (by kernel_rfl) (by kernel_rfl) (below_drewN (Below.refl _ _) 1) ?_
  repeat (first | (refine wpM_skip rfl ?_) | (refine wpM_all rfl rfl (fun K hK => ?_); go_simp; refine hK _ ?_; clear hK K))
  refine wpM_eff rfl rfl (fun w3 hc _ => steps_enter (err_any g ⟨[], 4⟩ w3 (hp2.below hc hp2.lt)) (by go_simp) (by rintro e w4 ⟨rfl, rfl⟩; exact ⟨_, rfl, Below.refl _ _, rfl⟩)) ?_
  rintro v ⟨_, rfl⟩
  repeat (first | (refine wpM_skip rfl ?_) | (refine wpM_all rfl rfl (fun K hK => ?_); go_simp; refine hK _ ?_; clear hK K))
  refine wpM_eff rfl rfl (fun w3 hc _ => steps_enter (putUint_any none 0 [] 300 w3 Rd.none_ (by simp) (by omega)) (by go_simp) (rets_own rfl)) ?_
  rintro v8 -
  repeat (first | (refine wpM_skip rfl ?_) | (refine wpM_all rfl rfl (fun K hK => ?_); go_simp; refine hK _ ?_; clear hK K))
  refine wpM_eff rfl rfl (fun w3 hc hd => steps_str v8 (l := [172, 2]) Try.underlying22 Try.underlying5 Try.underlying9 (by have := hd ⟨8, .data⟩ (by simp) rfl; simpa [upd, ansR, awA] using this) (fun u w' h => run_v h) rfl) ?_
  rintro v9 ⟨_, rfl⟩
  repeat (first | (refine wpM_skip rfl ?_) | (refine wpM_all rfl rfl (fun K hK => ?_); go_simp; refine hK _ ?_; clear hK K))
  refine wpM_eff rfl rfl (fun w3 hc _ => steps_val (v := .slice (some ⟨w3.heap.size, 0, none⟩) 2 2) (w' := w3.alloc (.cells #[.int .u8 172, .int .u8 2] 5)) (by go_simp) (Below.refl _ _ |>.alloc (Nat.le_refl _) _) ⟨_, _, _, rfl, by simpa [byt] using Rd.new w3 #[.int .u8 172, .int .u8 2] 5 (size := 1) (n := 2) (by simp)⟩) ?_
  rintro v10 -
  repeat (first | (refine wpM_skip rfl ?_) | (refine wpM_all rfl rfl (fun K hK => ?_); go_simp; refine hK _ ?_; clear hK K))
  refine wpM_eff rfl rfl (fun w3 hc hd => steps_str v10 (l := [172, 2]) Try.underlying22 Try.underlying5 Try.underlying9 (by have := hd ⟨10, .data⟩ (by simp) rfl; simpa [upd, ansR, awA] using this) (fun u w' h => run_v h) rfl) ?_
  rintro v11 ⟨_, rfl⟩
  repeat (first | (refine wpM_skip rfl ?_) | (refine wpM_all rfl rfl (fun K hK => ?_); go_simp; refine hK _ ?_; clear hK K))
  refine wpM_eff rfl rfl (fun w3 hc _ => steps_enter (putInt_any none 0 [] (-1) w3 Rd.none_ (by simp) (by omega)) (by go_simp) (rets_own rfl)) ?_
  rintro v15 -
  repeat (first | (refine wpM_skip rfl ?_) | (refine wpM_all rfl rfl (fun K hK => ?_); go_simp; refine hK _ ?_; clear hK K))
  refine wpM_eff rfl rfl (fun w3 hc hd => steps_str v15 (l := [1]) Try.underlying22 Try.underlying5 Try.underlying9 (by have := hd ⟨15, .data⟩ (by simp) rfl; simpa [upd, ansR, awA] using this) (fun u w' h => run_v h) rfl) ?_
  rintro v16 ⟨_, rfl⟩
  repeat (first | (refine wpM_skip rfl ?_) | (refine wpM_all rfl rfl (fun K hK => ?_); go_simp; refine hK _ ?_; clear hK K))
  refine wpM_nil fun w3 hc _ => ?_
  go_wp2
  go_ret
  have hs1 : w.heap.size ≤ w1.heap.size := by have := hB.size; simp at this; omega
  have hg' : w.heap.size ≤ g := by simp at hg; omega
  have b1 : Below w.heap.size w w1 := ((Below.refl _ _).alloc (Nat.le_refl _) _).trans (hB.mono (by simp))
  have b2 := b1.grown hg2 hs1 (fun k hk => by injection hk with hk; omega)
  exact RetB.mk' rfl (b2.trans (hc.mono (by have := hg2.size; omega)))
end Go.Proofs.Ytcblmcpmdpnlbaa
