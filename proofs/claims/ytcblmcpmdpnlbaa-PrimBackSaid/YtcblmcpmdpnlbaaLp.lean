/-
  Layer 1: PrimPuts, the walk.
-/
import Derived.Test.YtcblmcpmdpnlbaaAw
namespace Go.Proofs.Ytcblmcpmdpnlbaa
open Go.RowKit Mono
attribute [local go_sem] pureAt pureUpon

def puA (l : List UInt8) (v : Nat) : Nat → Ans
  | 2 => .rd (l ++ sevens v)
  | 3 => .val (.string ⟨(l ++ sevens v).toArray⟩)
  | 5 => .val (.string ⟨l.toArray⟩)
  | 7 => .rd (sevens v)
  | 8 => .val (.string ⟨(sevens v).toArray⟩)
  | _ => .any
def puB (l : List UInt8) (z : Int) : Nat → Ans
  | 3 => .rd (l ++ sevens (zig z).toNat)
  | 4 => .val (.string ⟨(l ++ sevens (zig z).toNat).toArray⟩)
  | 6 => .val (.string ⟨l.toArray⟩)
  | 9 => .val (.int .u64 (((zig z).toNat : Nat) : Int))
  | 10 => .rd (sevens (zig z).toNat)
  | 11 => .val (.string ⟨(sevens (zig z).toNat).toArray⟩)
  | _ => .any
def puC (l : List UInt8) (s : ByteArray) : Nat → Ans
  | 7 => .rd (l ++ textB s)
  | 8 => .val (.string ⟨(l ++ textB s).toArray⟩)
  | 10 => .val (.string ⟨l.toArray⟩)
  | 12 => .rd (textB s)
  | 13 => .val (.string ⟨(textB s).toArray⟩)
  | 18 => .val (.bool true)
  | _ => .any
theorem cat_str (l r : List UInt8) : (⟨l.toArray⟩ ++ ⟨r.toArray⟩ : ByteArray) = ⟨(l ++ r).toArray⟩ := by
  apply ByteArray.ext
  simp
theorem i64_wrap_range (v : Int) : -9223372036854775808 ≤ IntKind.i64.wrap v ∧ IntKind.i64.wrap v ≤ 9223372036854775807 := by rw [IntKind.wrap_i64]; omega
theorem RdS.of {A : Option Addr} {n c size : Nat} {xs : List Value} {w w' : World} (h : Rd w w.heap.size size A n xs) (hb : Below w.heap.size w w') : RdS size xs (.slice A n c) w' := ⟨A, n, c, rfl, h.up hb (Nat.le_refl _) hb.size⟩

set_option maxRecDepth 100000 in
set_option maxHeartbeats 800000 in
theorem primPuts_walk (A : Option Addr) (c : Nat) (l : List UInt8) (v : Nat) (s : ByteArray) (W : World) (hR : Rd W W.heap.size 1 A l.length (byt l)) (hv : v < 18446744073709551616) (_hs : s.size ≤ maxLen) :
    Calls Try.prog 3 #[.slice A l.length c, .int .u64 (v : Int), .string s] W (RetB true W) := by
  by_cases hl : 300 < l.length ∨ 300 < s.size
  · rcases hl with hl | hl
    · have d1 : decide ((300 : Int) < l.length) = true := by simp; omega
      go_enter Try.func3, Try.ntmps3
      go_wp2
      go_ret
      exact RetB.mk' rfl (Below.refl _ _)
    · by_cases hl' : 300 < l.length
      · have d1 : decide ((300 : Int) < l.length) = true := by simp; omega
        go_enter Try.func3, Try.ntmps3
        go_wp2
        go_ret
        exact RetB.mk' rfl (Below.refl _ _)
      · have d1 : decide ((300 : Int) < l.length) = false := by simp; omega
        have d2 : decide ((300 : Int) < s.size) = true := by simp; omega
        go_enter Try.func3, Try.ntmps3
        go_wp2
        go_ret
        exact RetB.mk' rfl (Below.refl _ _)
  · have hl1 : l.length ≤ 300 := by omega
    have hl2 : s.size ≤ 300 := by omega
    have hz := i64_wrap_range v
    have hzr := zig_range _ hz
    have hsl2 := sevens_len (zig (IntKind.i64.wrap v)).toNat
    have hsl3 := sevens_len s.size
    have hsl4 := textB_len s
    have hsl := sevens_len v
    have d1 : decide ((300 : Int) < l.length) = false := by simp; omega
    have d2 : decide ((300 : Int) < s.size) = false := by simp; omega
    go_enter Try.func3, Try.ntmps3
    go_wp2_with fail
    refine wp_region_mono (Below W.heap.size W) Ext (ansE (puA l v)) (ansR (puA l v)) (ans_good _ W) (by kernel_rfl) (by kernel_rfl) (Below.refl _ _).drew ?_
    repeat (first | (refine wpM_skip rfl ?_) | (refine wpM_all rfl rfl (fun K hK => ?_); go_simp; refine hK _ ?_; clear hK K))
    refine wpM_eff rfl rfl (fun w3 hc _ => steps_enter (putUint_any A c l v w3 (hR.up hc (Nat.le_refl _) hc.size) (by omega) hv) (by go_simp) (rets_own rfl)) ?_
    rintro v2 -
    repeat (first | (refine wpM_skip rfl ?_) | (refine wpM_all rfl rfl (fun K hK => ?_); go_simp; refine hK _ ?_; clear hK K))
    refine wpM_eff rfl rfl (fun w3 hc hd => steps_str v2 (l := l ++ sevens v) Try.underlying22 Try.underlying5 Try.underlying9 (by have := hd ⟨2, .data⟩ (by simp) rfl; simpa [upd, ansR, puA] using this) (fun u w' h => run_v h) rfl) ?_
    rintro v3 ⟨_, rfl⟩
    repeat (first | (refine wpM_skip rfl ?_) | (refine wpM_all rfl rfl (fun K hK => ?_); go_simp; refine hK _ ?_; clear hK K))
    refine wpM_eff rfl rfl (fun w3 hc hd => steps_str _ (l := l) Try.underlying22 Try.underlying5 Try.underlying9 (RdS.of (c := c) hR hc) (fun u w' h => run_v h) rfl) ?_
    rintro v5 ⟨_, rfl⟩
    repeat (first | (refine wpM_skip rfl ?_) | (refine wpM_all rfl rfl (fun K hK => ?_); go_simp; refine hK _ ?_; clear hK K))
    refine wpM_eff rfl rfl (fun w3 hc _ => steps_enter (uintR_any v w3 hv) (by go_simp) (rets_own rfl)) ?_
    rintro v7 -
    repeat (first | (refine wpM_skip rfl ?_) | (refine wpM_all rfl rfl (fun K hK => ?_); go_simp; refine hK _ ?_; clear hK K))
    refine wpM_eff rfl rfl (fun w3 hc hd => steps_str v7 (l := sevens v) Try.underlying22 Try.underlying5 Try.underlying9 (by have := hd ⟨7, .data⟩ (by simp) rfl; simpa [upd, ansR, puA] using this) (fun u w' h => run_v h) rfl) ?_
    rintro v8 ⟨_, rfl⟩
    (refine wpM_all rfl rfl (fun K hK => ?_); go_simp; refine ⟨.string ⟨(l ++ (sevens v)).toArray⟩, fun w => (by rw [if_neg (by omega)]; exact ⟨rfl, congrArg Value.string (cat_str l (sevens v))⟩), hK _ ?_⟩; clear hK K)
    repeat (first | (refine wpM_skip rfl ?_) | (refine wpM_all rfl rfl (fun K hK => ?_); go_simp; refine hK _ ?_; clear hK K))
    refine wpM_nil fun w3 hc3 _ => ?_
    go_wp2_with fail
    refine wp_region_mono (Below W.heap.size W) Ext (ansE (puB l (IntKind.i64.wrap v))) (ansR (puB l (IntKind.i64.wrap v))) (ans_good _ W) (by kernel_rfl) (by kernel_rfl) hc3.drew ?_
    repeat (first | (refine wpM_skip rfl ?_) | (refine wpM_all rfl rfl (fun K hK => ?_); go_simp; refine hK _ ?_; clear hK K))
    refine wpM_eff rfl rfl (fun w3 hc _ => steps_enter (putInt_any A c l (IntKind.i64.wrap v) w3 (hR.up hc (Nat.le_refl _) hc.size) (by omega) hz) (by go_simp) (rets_own rfl)) ?_
    rintro u3 -
    repeat (first | (refine wpM_skip rfl ?_) | (refine wpM_all rfl rfl (fun K hK => ?_); go_simp; refine hK _ ?_; clear hK K))
    refine wpM_eff rfl rfl (fun w3 hc hd => steps_str u3 (l := l ++ sevens (zig (IntKind.i64.wrap v)).toNat) Try.underlying22 Try.underlying5 Try.underlying9 (by have := hd ⟨3, .data⟩ (by simp) rfl; simpa [upd, ansR, puB] using this) (fun u w' h => run_v h) rfl) ?_
    rintro u4 ⟨_, rfl⟩
    repeat (first | (refine wpM_skip rfl ?_) | (refine wpM_all rfl rfl (fun K hK => ?_); go_simp; refine hK _ ?_; clear hK K))
    refine wpM_eff rfl rfl (fun w3 hc hd => steps_str _ (l := l) Try.underlying22 Try.underlying5 Try.underlying9 (RdS.of (c := c) hR hc) (fun u w' h => run_v h) rfl) ?_
    rintro u6 ⟨_, rfl⟩
    repeat (first | (refine wpM_skip rfl ?_) | (refine wpM_all rfl rfl (fun K hK => ?_); go_simp; refine hK _ ?_; clear hK K))
    refine wpM_eff rfl rfl (fun w3 hc _ => steps_enter (zigR_any (IntKind.i64.wrap v) w3 hz) (by go_simp) (by rintro e w4 ⟨rfl, rfl⟩; refine ⟨_, rfl, Below.refl _ _, ?_⟩; show Value.int .u64 _ = Value.int .u64 _; rw [Int.toNat_of_nonneg hzr.1])) ?_
    rintro u9 ⟨_, rfl⟩
    repeat (first | (refine wpM_skip rfl ?_) | (refine wpM_all rfl rfl (fun K hK => ?_); go_simp; refine hK _ ?_; clear hK K))
    refine wpM_eff rfl rfl (fun w3 hc _ => steps_enter (uintR_any (zig (IntKind.i64.wrap v)).toNat w3 (by omega)) (by go_simp) (rets_own rfl)) ?_
    rintro u10 -
    repeat (first | (refine wpM_skip rfl ?_) | (refine wpM_all rfl rfl (fun K hK => ?_); go_simp; refine hK _ ?_; clear hK K))
    refine wpM_eff rfl rfl (fun w3 hc hd => steps_str u10 (l := sevens (zig (IntKind.i64.wrap v)).toNat) Try.underlying22 Try.underlying5 Try.underlying9 (by have := hd ⟨10, .data⟩ (by simp) rfl; simpa [upd, ansR, puB] using this) (fun u w' h => run_v h) rfl) ?_
    rintro u11 ⟨_, rfl⟩
    (refine wpM_all rfl rfl (fun K hK => ?_); go_simp; refine ⟨.string ⟨(l ++ (sevens (zig (IntKind.i64.wrap v)).toNat)).toArray⟩, fun w => (by rw [if_neg (by omega)]; exact ⟨rfl, congrArg Value.string (cat_str l (sevens (zig (IntKind.i64.wrap v)).toNat))⟩), hK _ ?_⟩; clear hK K)
    repeat (first | (refine wpM_skip rfl ?_) | (refine wpM_all rfl rfl (fun K hK => ?_); go_simp; refine hK _ ?_; clear hK K))
    refine wpM_nil fun w3 hc3 _ => ?_
    go_wp2_with fail
    refine wp_region_mono (Below W.heap.size W) Ext (ansE (puC l s)) (ansR (puC l s)) (ans_good _ W) (by kernel_rfl) (by kernel_rfl) hc3.drew ?_
    repeat (first | (refine wpM_skip rfl ?_) | (refine wpM_all rfl rfl (fun K hK => ?_); go_simp; refine hK _ ?_; clear hK K))
    refine wpM_eff rfl rfl (fun w3 hc _ => steps_enter (putText_any A c l s w3 (hR.up hc (Nat.le_refl _) hc.size) (by omega) (by omega)) (by go_simp) (rets_own rfl)) ?_
    rintro x7 -
    repeat (first | (refine wpM_skip rfl ?_) | (refine wpM_all rfl rfl (fun K hK => ?_); go_simp; refine hK _ ?_; clear hK K))
    refine wpM_eff rfl rfl (fun w3 hc hd => steps_str x7 (l := l ++ textB s) Try.underlying22 Try.underlying5 Try.underlying9 (by have := hd ⟨7, .data⟩ (by simp) rfl; simpa [upd, ansR, puC] using this) (fun u w' h => run_v h) rfl) ?_
    rintro x8 ⟨_, rfl⟩
    repeat (first | (refine wpM_skip rfl ?_) | (refine wpM_all rfl rfl (fun K hK => ?_); go_simp; refine hK _ ?_; clear hK K))
    refine wpM_eff rfl rfl (fun w3 hc hd => steps_str _ (l := l) Try.underlying22 Try.underlying5 Try.underlying9 (RdS.of (c := c) hR hc) (fun u w' h => run_v h) rfl) ?_
    rintro x10 ⟨_, rfl⟩
    repeat (first | (refine wpM_skip rfl ?_) | (refine wpM_all rfl rfl (fun K hK => ?_); go_simp; refine hK _ ?_; clear hK K))
    refine wpM_eff rfl rfl (fun w3 hc _ => steps_enter (textR_any s w3 (by omega)) (by go_simp) (rets_own rfl)) ?_
    rintro x12 -
    repeat (first | (refine wpM_skip rfl ?_) | (refine wpM_all rfl rfl (fun K hK => ?_); go_simp; refine hK _ ?_; clear hK K))
    refine wpM_eff rfl rfl (fun w3 hc hd => steps_str x12 (l := textB s) Try.underlying22 Try.underlying5 Try.underlying9 (by have := hd ⟨12, .data⟩ (by simp) rfl; simpa [upd, ansR, puC] using this) (fun u w' h => run_v h) rfl) ?_
    rintro x13 ⟨_, rfl⟩
    (refine wpM_all rfl rfl (fun K hK => ?_); go_simp; refine ⟨.string ⟨(l ++ (textB s)).toArray⟩, fun w => (by rw [if_neg (by omega)]; exact ⟨rfl, congrArg Value.string (cat_str l (textB s))⟩), hK _ ?_⟩; clear hK K)
    repeat (first | (refine wpM_skip rfl ?_) | (refine wpM_all rfl rfl (fun K hK => ?_); go_simp; refine hK _ ?_; clear hK K))
    refine wpM_eff rfl rfl (fun w3 hc _ => steps_enter (awake1_any w3) (by go_simp) (by rintro e w4 ⟨rfl, hb⟩; exact ⟨_, rfl, hb, rfl⟩)) ?_
    rintro x18 ⟨_, rfl⟩
    repeat (first | (refine wpM_skip rfl ?_) | (refine wpM_all rfl rfl (fun K hK => ?_); go_simp; refine hK _ ?_; clear hK K))
    refine wpM_nil fun w3 hc3 _ => ?_
    go_wp2
    go_ret
    exact RetB.mk' rfl hc3
end Go.Proofs.Ytcblmcpmdpnlbaa
