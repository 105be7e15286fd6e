/-
  Layer 1, the puts: bytes.Clone, PutUint, PutInt, PutText and the reference's sevens, by contracts.
-/
import Derived.Test.YtcblmcpmdpnlbaaProg
import Derived.Test.YtcblmcpmdpnlbaaKit
import Derived.Lib.AppendStr
import Derived.ScopeJumps
import Derived.WalkMore
namespace Go.Proofs.Ytcblmcpmdpnlbaa
open Go.RowKit

theorem Try.info5 : (Try.prog.info? 5).map (fun i => (i.zero, i.size, i.bytes)) = some (some (.int .u8 0), 1, 1) := by kernel_rfl


set_option maxRecDepth 100000 in
theorem clone_any (A : Option Addr) (c : Nat) (l : List UInt8) (w : World) (hr : Rd w w.heap.size 1 A l.length (byt l)) (hm : l.length ≤ 1048576) :
    Calls Try.prog 52 #[.slice A l.length c] w (RetO 5 1 l.length (byt l) w) := by
  rcases A with _ | ad
  · have h0 : l.length = 0 := by
      rcases Nat.eq_zero_or_pos l.length with h | h
      · exact h
      · obtain ⟨_, _, e, _⟩ := hr.2 h; cases e
    have hl : l = [] := List.eq_nil_of_length_eq_zero h0
    subst hl
    clear h0
    simp only [List.length_nil]
    have hnil := fun w => Lib.run_eql_slice_nil (P := Try.prog) w 22 5 none 0 c 0 0 Try.underlying22
    go_enter Try.func52, Try.ntmps52
    go_wp2
    go_ret
    exact RetO.mk' (by simpa [byt] using World.ownsRow_nil _ _ _ _) (Below.refl _ _)
  · obtain ⟨i0, hi, hz0, hz1, hz2⟩ := info_parts Try.info5
    have hown0 : (w.alloc (.cells #[] 5)).ownsRow w.heap.size 5 1 (.slice (some ⟨w.heap.size, 0, none⟩) 0 0) 0 [] := World.ownsRow_made w #[] 0 (Nat.le_refl _) (by simp) (by simp)
    have hnil := fun w => Lib.run_eql_slice_nil (P := Try.prog) w 22 5 (some ad) l.length c 0 0 Try.underlying22
    have hc := Lib.hid ((hr.alloc (Nat.le_refl _) (.cells #[] 5)).cells)
    go_enter Try.func52, Try.ntmps52
    go_wp2_with (at_builtin; refine wpList_append_own _ rfl _ _ 22 rfl w.heap.size 5 i0 (.int .u8 0) 1 1 Try.underlying22 hi hz0 hz1 hz2 rfl (by decide) _ _ _ rfl hown0 ad l.length c (byt l) rfl (by simp [byt]) hc.out (byt_one l) (by simp only [maxLen]; omega) (by omega) (by simp) ?_)
    intro v' w1 hown1 hg1 _
    have hb1 := own_base hown0 ((Below.refl w.heap.size w).alloc (Nat.le_refl _) (.cells #[] 5)) hg1 (by simp)
    go_wp2
    go_ret
    exact RetO.mk' (by simpa using hown1) hb1

/-- A number's sevens: 'f' passes at most. -/
def sv : Nat → Nat → List UInt8
  | 0, v => [UInt8.ofNat v]
  | f + 1, v => if 128 ≤ v then UInt8.ofNat (v % 128 + 128) :: sv f (v / 128) else [UInt8.ofNat v]
def sevens (v : Nat) : List UInt8 := sv 9 v
theorem sv_len (f v : Nat) : (sv f v).length ≤ f + 1 := by
  induction f generalizing v with
  | zero => simp [sv]
  | succ f ih => unfold sv; split
                 · simp; exact ih _
                 · simp
theorem sevens_len (v : Nat) : (sevens v).length ≤ 10 := sv_len 9 v

theorem bits_or128 (x : Nat) (hx : x < 256) : bits .or .u8 (x : Int) 128 = ((x % 128 + 128 : Nat) : Int) := by
  show IntKind.u8.wrap ((BitVec.ofInt 8 (x : Int) ||| BitVec.ofInt 8 128).toNat : Int) = _
  have h1 : (BitVec.ofInt 8 128).toNat = 128 := by decide
  rw [BitVec.toNat_or, BitVec.ofInt_natCast, BitVec.toNat_ofNat, h1, Nat.mod_eq_of_lt (by omega), IntKind.wrap_u8]
  have h2 : x ||| 128 = x % 128 + 128 := by
    have e : x = 128 * (x / 128) + x % 128 := by omega
    have h3 := Nat.two_pow_add_eq_or_of_lt (i := 7) (b := x % 128) (by omega) 1
    have h4 := Nat.two_pow_add_eq_or_of_lt (i := 7) (b := x % 128) (by omega) (x / 128)
    rcases (show x / 128 = 0 ∨ x / 128 = 1 by omega) with h | h
    · rw [h] at e
      have e' : x = x % 128 := by omega
      rw [e', Nat.or_comm]; simp at h3; omega
    · rw [h] at h4 e
      have e' : x = 128 ||| x % 128 := by simp at h4; omega
      have e2 : 128 ||| x % 128 = x % 128 + 128 := by simp at h3; omega
      conv => lhs; rw [e']
      rw [Nat.or_comm, ← Nat.or_assoc, Nat.or_self, e2]
  rw [h2]; omega

/-- What holds at PutUint's label. -/
def PutJ (A : Option Addr) (c : Nat) (l : List UInt8) (v : Nat) (w : World) (a' : Act) (w' : World) : Prop :=
  ∃ (m f n : Nat) (xs : List UInt8) (o : Value) (u6 u7 u8 u9 u10 u11 u12 u13 u14 u15 u16 u17 : Value), a' = { tmps := #[.slice A l.length c, .int .u64 (m : Int), undef, undef, .slice none 0 0, o, u6, u7, u8, u9, u10, u11, u12, u13, u14, u15, u16, u17, undef, undef, undef, undef, undef], defers := [] } ∧
      w'.ownsRow w.heap.size 5 1 o n (byt xs) ∧ Below w.heap.size w w' ∧ m < 2 ^ (7 * f + 1) ∧ m < 18446744073709551616 ∧ f ≤ 9 ∧ n + f ≤ 1048576 + 9 ∧ Hid (xs ++ sv f m = l ++ sevens v)
def slot1 (a' : Act) (_ : World) : Nat := (intOf (a'.tmps.getD 1 undef)).toNat

set_option maxRecDepth 100000 in
set_option maxHeartbeats 400000 in
/-- prim.PutUint. -/
theorem putUint_any (A : Option Addr) (c : Nat) (l : List UInt8) (v : Nat) (w : World) (hr : Rd w w.heap.size 1 A l.length (byt l)) (hm : l.length ≤ 1048576) (hv : v < 18446744073709551616) :
    Calls Try.prog 13 #[.slice A l.length c, .int .u64 (v : Int)] w (RetO 5 1 (l.length + (sevens v).length) (byt (l ++ sevens v)) w) := by
  obtain ⟨i0, hi, hz0, hz1, hz2⟩ := info_parts Try.info5
  go_enter Try.func13, Try.ntmps13
  go_wp2
  refine wp_scope_loop 0 (PutJ A c l v w) slot1 rfl ?_ ?_
  · intro H
    go_wp2_with fail
    refine (clone_any A c l _ hr hm).mono ?_
    rintro e w1 ⟨o, rfl, hown, hb⟩
    go_wp2
    go_step3
    go_step
    go_step
    exact H.out _ _ ⟨v, 9, l.length, l, o, _, _, _, _, _, _, _, _, _, _, _, _, rfl, hown, hb, by omega, hv, by omega, by omega, rfl⟩
  · rintro a' w' ⟨m, f, n, xs, o, u6, u7, u8, u9, u10, u11, u12, u13, u14, u15, u16, u17, rfl, hown, hb, hmf, hm64, hf9, hn, Hx⟩
    have hmod : m % 256 < 256 := Nat.mod_lt _ (by decide)
    have hlen : n = xs.length := by have := hown.1; simp [byt] at this; omega
    subst hlen
    have hfin := congrArg List.length Hx.out
    by_cases h128 : 128 ≤ m
    · obtain ⟨f, rfl⟩ : ∃ g, f = g + 1 := by
        cases f with
        | zero => simp at hmf; omega
        | succ g => exact ⟨g, rfl⟩
      have hor := bits_or128 (m % 256) hmod
      rw [show ((m % 256 : Nat) : Int) = (m : Int) % 256 by omega, show m % 256 % 128 + 128 = (UInt8.ofNat (m % 128 + 128)).toNat by simp; omega] at hor
      clear hfin
      go_wp2_with (at_builtin; refine wpList_append_own _ rfl _ _ 22 rfl w.heap.size 5 i0 (.int .u8 0) 1 1 Try.underlying22 hi hz0 hz1 hz2 rfl (by decide) _ _ _ rfl (hown.alloc _) ⟨w'.heap.size, 0, none⟩ 1 1 [.int .u8 ((UInt8.ofNat (m % 128 + 128)).toNat : Int)] rfl rfl (cell_one_new _ _ _) (by simp [Value.oneCell']) (by simp only [maxLen]; omega) (by omega) (by have := hb.size; simp; omega) ?_)
      intro v' w1 hown' hg' _
      have hb1 := own_base (hown.alloc _) (hb.alloc hb.size _) hg' (by have := hb.size; simp; omega)
      go_wp2
      go_step3
      refine ⟨rfl, ⟨m / 128, f, xs.length + 1, xs ++ [UInt8.ofNat (m % 128 + 128)], v', _, _, _, _, _, _, _, _, _, _, _, _, by first | rfl | (congr; omega), by simpa [byt] using hown', hb1, ?_, by omega, by omega, by omega, ?_⟩, ?_⟩
      · rw [Nat.div_lt_iff_lt_mul (by decide), ← (show 2 ^ 7 = 128 by decide), ← Nat.pow_add]
        exact Nat.lt_of_lt_of_eq hmf (by congr 1)
      · have := Hx.out
        unfold sv at this
        rw [if_pos h128] at this
        show _ = _
        rw [← this]; simp
      · simp [slot1, intOf]; omega
    · have hsv : sv f m = [UInt8.ofNat m] := by
        cases f with
        | zero => rfl
        | succ f => unfold sv; rw [if_neg h128]
      rw [hsv] at hfin
      simp at hfin
      have hfin2 : byt xs ++ [.int .u8 ((UInt8.ofNat m).toNat : Int)] = byt (l ++ sevens v) := by rw [← Hx.out, hsv]; simp [byt]
      have e1 : ((UInt8.ofNat m).toNat : Int) = (m : Int) % 256 := by simp
      rw [e1] at hfin2
      have e2 : ((m : Int) % 256) = (m : Int) := by omega
      rw [e2] at hfin2
      have Hf := Lib.hid hfin; have Hf2 := Lib.hid hfin2; clear hfin hfin2 hsv e1 e2
      go_wp2_with (at_builtin; refine wpList_append_own _ rfl _ _ 22 rfl w.heap.size 5 i0 (.int .u8 0) 1 1 Try.underlying22 hi hz0 hz1 hz2 rfl (by decide) _ _ _ rfl (hown.alloc _) ⟨w'.heap.size, 0, none⟩ 1 1 [.int .u8 (m : Int)] rfl rfl (cell_one_new _ _ _) (by simp [Value.oneCell']) (by simp only [maxLen]; omega) (by omega) (by have := hb.size; simp; omega) ?_)
      intro v' w1 hown' hg' _
      have hb1 := own_base (hown.alloc _) (hb.alloc hb.size _) hg' (by have := hb.size; simp; omega)
      go_wp2
      simp only [Exit.jump]
      go_ret
      rw [Hf2.out] at hown'
      exact RetO.mk' (by rw [← Hf.out]; exact hown') hb1
end Go.Proofs.Ytcblmcpmdpnlbaa
