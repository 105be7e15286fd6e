/-
  Layer 1, prim.Reader: Left, Err, End, Fail, digits, Uint by contracts.
-/
import Derived.Test.YtcblmcpmdpnlbaaRp
namespace Go.Proofs.Ytcblmcpmdpnlbaa
open Go.RowKit

theorem PR.cells {w : World} {g : Nat} {r : Rdr} (h : PR w g r) : ∃ A c, r.rest.length ≤ c ∧ c ≤ maxLen ∧ Rd w g 1 A r.rest.length (byt r.rest) ∧ w.cell? ⟨g, 0, none⟩ = some (.slice A r.rest.length c) ∧ w.cell? ⟨g, 1, none⟩ = some (.int .i64 r.bad) ∧
    w.frozen? ⟨g, 0, none⟩ = false ∧ w.frozen? ⟨g, 1, none⟩ = false ∧ w.heap[g]? = some (.cells #[.slice A r.rest.length c, .int .i64 r.bad] 95 (0, 0)) := by
  obtain ⟨A, c, h1, h2, hh, hR⟩ := h
  exact ⟨A, c, h1, h2, hR, row_cell hh 0, row_cell hh 1, row_free hh 0, row_free hh 1, hh⟩

/-- Left. -/
theorem left_any (g : Nat) (r : Rdr) (w : World) (h : PR w g r) :
    Calls Try.prog 26 #[.pointer (some ⟨g, 0, none⟩)] w fun e w' => e = .returned (.int .i64 (r.rest.length : Int)) ∧ w = w' := by
  obtain ⟨A, c, h1, h2, hR, c0, c1, f0, f1, hh⟩ := h.cells
  go_enter Try.func26, Try.ntmps26
  go_wp2
  go_ret
  exact ⟨rfl, rfl⟩
/-- Err. -/
theorem err_any (g : Nat) (r : Rdr) (w : World) (h : PR w g r) :
    Calls Try.prog 23 #[.pointer (some ⟨g, 0, none⟩)] w fun e w' => e = .returned (.int .i64 r.bad) ∧ w = w' := by
  obtain ⟨A, c, h1, h2, hR, c0, c1, f0, f1, hh⟩ := h.cells
  go_enter Try.func23, Try.ntmps23
  go_wp2
  go_ret
  exact ⟨rfl, rfl⟩
/-- End. -/
theorem end_any (g : Nat) (r : Rdr) (w : World) (h : PR w g r) :
    Calls Try.prog 24 #[.pointer (some ⟨g, 0, none⟩)] w fun e w' => e = .returned (.int .i64 r.fin) ∧ w = w' := by
  obtain ⟨A, c, h1, h2, hR, c0, c1, f0, f1, hh⟩ := h.cells
  by_cases hb : r.bad = 0
  · rw [hb] at c1
    by_cases hl : 0 < r.rest.length
    · have hf : r.fin = 2 := by unfold Rdr.fin; rw [if_pos ⟨hb, hl⟩]
      have Hf := Lib.hid hf; clear hf hb hh
      go_enter Try.func24, Try.ntmps24
      go_wp2
      go_ret
      exact ⟨ret_i Hf.out.symm, rfl⟩
    · have hf : r.fin = 0 := by unfold Rdr.fin; rw [if_neg (fun h => hl h.2), hb]
      have Hf := Lib.hid hf; clear hf hb hh
      go_enter Try.func24, Try.ntmps24
      go_wp2
      go_ret
      exact ⟨ret_i Hf.out.symm, rfl⟩
  · have hb' : (r.bad == 0) = false := by simpa using hb
    have hf : r.fin = r.bad := by unfold Rdr.fin; rw [if_neg (fun h => hb h.1)]
    have Hf := Lib.hid hf; clear hf hb hh
    go_enter Try.func24, Try.ntmps24
    go_wp2
    go_ret
    exact ⟨ret_i Hf.out.symm, rfl⟩
/-- Fail. -/
theorem fail_any (g : Nat) (r : Rdr) (e : Int) (w : World) (h : PR w g r) :
    Calls Try.prog 34 #[.pointer (some ⟨g, 0, none⟩), .int .i64 e] w (RetM (.tuple #[]) g (r.fail e) w) := by
  by_cases he : e = 0
  · subst he
    go_enter Try.func34, Try.ntmps34
    go_wp2
    refine bodyPost_end (results_none rfl _ _ _) rfl ?_
    exact ⟨rfl, h, World.grownBy.refl _ _⟩
  · have he' : (e != 0) = true := by simpa using he
    have He := Lib.hid he; clear he
    go_enter Try.func34, Try.ntmps34
    go_wp2_with fail
    refine (giveUp_any g r e _ h).mono ?_
    rintro _ w' ⟨rfl, hp, hg⟩
    go_wp2
    refine bodyPost_end (results_none rfl _ _ _) rfl ?_
    exact ⟨rfl, by unfold Rdr.fail; rw [if_neg He.out]; exact hp, hg⟩

/-- What holds at digits' label 'next': k bytes are read, they are worth acc. -/
def DgJ (g : Nat) (l : List UInt8) (w : World) (a' : Act) (w' : World) : Prop :=
  ∃ (m : Nat) (k : Nat) (x : Value) (u6 u7 u8 u9 u10 u11 u12 u13 u14 u15 u16 u17 u18 u19 u20 u21 u22 u23 u24 u25 u26 u27 u28 u29 u30 u31 u32 u33 u34 u35 u36 u37 u38 u39 u40 u41 u42 u43 : Value),
    a' = { tmps := #[.pointer (some ⟨g, 0, none⟩), undef, .int .u64 (m : Int), .int .i64 (k : Int), .int .i64 0, x, u6, u7, u8, u9, u10, u11, u12, u13, u14, u15, u16, u17, u18, u19, u20, u21, u22, u23, u24, u25, u26, u27, u28, u29, u30, u31, u32, u33, u34, u35, u36, u37, u38, u39, u40, u41, u42, u43, undef, undef], defers := [] } ∧
    w = w' ∧ k ≤ 9 ∧ k ≤ l.length ∧ m < 128 ^ k ∧ Hid (dgs k m (l.drop k) = dgs 0 0 l)
/-- .. at 'over': the number is written longer than it is. -/
def DgK (l : List UInt8) (w : World) (a' : Act) (w' : World) : Prop :=
  ∃ (x0 x1 x2 x3 x4 x5 : Value) (u6 u7 u8 u9 u10 u11 u12 u13 u14 u15 u16 u17 u18 u19 u20 u21 u22 u23 u24 u25 u26 u27 u28 u29 u30 u31 u32 u33 u34 u35 u36 u37 u38 u39 u40 u41 u42 u43 : Value),
    a' = { tmps := #[x0, x1, x2, x3, x4, x5, u6, u7, u8, u9, u10, u11, u12, u13, u14, u15, u16, u17, u18, u19, u20, u21, u22, u23, u24, u25, u26, u27, u28, u29, u30, u31, u32, u33, u34, u35, u36, u37, u38, u39, u40, u41, u42, u43, undef, undef], defers := [] } ∧
    w = w' ∧ Hid (dgs 0 0 l = (5, 0, 0))
def dgM (a' : Act) (_ : World) : Nat := (10 - intOf (a'.tmps.getD 3 undef)).toNat
theorem dgs_cons (k acc : Nat) (x : UInt8) (r : List UInt8) : dgs k acc (x :: r) =
    if k = 9 ∧ 1 < x.toNat then (5, 0, 0)
    else if 128 ≤ x.toNat then dgs (k + 1) (acc + 128 ^ k * (x.toNat % 128)) r
    else if 0 < k ∧ x.toNat = 0 then (5, 0, 0)
    else (0, acc + 128 ^ k * x.toNat, k + 1) := rfl

theorem or_u64 (a k x : Nat) (ha : a < 128 ^ k) (hk : k ≤ 9) (hx : x < 128) (h9 : k = 9 → x ≤ 1) : bits .or .u64 (a : Int) ((128 ^ k * x : Nat) : Int) = ((a + 128 ^ k * x : Nat) : Int) := by
  have hb : a + 128 ^ k * x < 18446744073709551616 := by
    rcases (show k = 9 ∨ k ≤ 8 by omega) with rfl | h8
    · have := h9 rfl
      have h1 : 128 ^ 9 * x ≤ 128 ^ 9 * 1 := Nat.mul_le_mul_left _ this
      omega
    · have h0 : 128 ^ k ≤ 128 ^ 8 := Nat.pow_le_pow_right (by decide) h8
      have h1 : 128 ^ k * x ≤ 128 ^ 8 * 127 := Nat.mul_le_mul h0 (by omega)
      omega
  show IntKind.u64.wrap ((BitVec.ofInt 64 (a : Int) ||| BitVec.ofInt 64 ((128 ^ k * x : Nat) : Int)).toNat : Int) = _
  rw [BitVec.toNat_or, BitVec.ofInt_natCast, BitVec.ofInt_natCast, BitVec.toNat_ofNat, BitVec.toNat_ofNat, Nat.mod_eq_of_lt (by omega), Nat.mod_eq_of_lt (by omega), Nat.or_comm]
  have e : (128 : Nat) ^ k = 2 ^ (7 * k) := by rw [show (128 : Nat) = 2 ^ 7 by decide, ← Nat.pow_mul]
  rw [e] at ha hb ⊢
  rw [← Nat.two_pow_add_eq_or_of_lt ha x, IntKind.wrap_u64]
  omega

theorem or_u64' (a k x : Nat) (ha : a < 128 ^ k) (hk : k ≤ 9) (hx : x < 128) (h9 : k = 9 → x ≤ 1) : bits .or .u64 (a : Int) (IntKind.u64.wrap ((x : Int) * 2 ^ (7 * k))) = ((a + 128 ^ k * x : Nat) : Int) := by
  rw [← or_u64 a k x ha hk hx h9]
  congr 1
  have hb : 128 ^ k * x < 18446744073709551616 := by
    rcases (show k = 9 ∨ k ≤ 8 by omega) with rfl | h8
    · have := h9 rfl
      have h1 : 128 ^ 9 * x ≤ 128 ^ 9 * 1 := Nat.mul_le_mul_left _ this
      omega
    · have h0 : 128 ^ k ≤ 128 ^ 8 := Nat.pow_le_pow_right (by decide) h8
      have h1 : 128 ^ k * x ≤ 128 ^ 8 * 127 := Nat.mul_le_mul h0 (by omega)
      omega
  have e : ((x : Int) * 2 ^ (7 * k)) = ((128 ^ k * x : Nat) : Int) := by
    rw [show (128 : Nat) = 2 ^ 7 by decide, ← Nat.pow_mul, Nat.mul_comm (2 ^ (7 * k)), Int.natCast_mul]
    congr 1
  rw [e, IntKind.wrap_u64]; omega

set_option maxRecDepth 100000 in
set_option maxHeartbeats 1600000 in
/-- digits. -/
theorem digits_any (g : Nat) (r : Rdr) (w : World) (h : PR w g r) :
    Calls Try.prog 53 #[.pointer (some ⟨g, 0, none⟩)] w fun e w' => e = .returned (.tuple #[.int .u64 ((dgs 0 0 r.rest).2.1 : Int), .int .i64 ((dgs 0 0 r.rest).2.2 : Int), .int .i64 (dgs 0 0 r.rest).1]) ∧ w = w' := by
  obtain ⟨A, c, h1, h2, hR, c0, c1, f0, f1, hh⟩ := h.cells
  have hlen : r.rest.length ≤ 9223372036854775807 := by unfold maxLen at h2; omega
  clear c1 f0 f1 hh h
  generalize r.rest = l at *
  go_enter Try.func53, Try.ntmps53
  go_wp2
  refine wp_scope_two 0 1 (DgJ g l w) (DgK l w) dgM (by decide) rfl rfl ?_ ?_ ?_
  · intro H
    go_wp2
    go_step3
    go_step
    go_step
    exact H.out _ _ ⟨0, 0, _, _, _, _, _, _, _, _, _, _, _, _, _, _, _, _, _, _, _, _, _, _, _, _, _, _, _, _, _, _, _, _, _, _, _, _, _, _, _, rfl, rfl, by omega, by omega, by simp, rfl⟩
  · rintro a' w' ⟨acc, k, x, u6, u7, u8, u9, u10, u11, u12, u13, u14, u15, u16, u17, u18, u19, u20, u21, u22, u23, u24, u25, u26, u27, u28, u29, u30, u31, u32, u33, u34, u35, u36, u37, u38, u39, u40, u41, u42, u43, rfl, rfl, hk9, hkl, hacc, Hx⟩
    by_cases hend : k = l.length
    · have e1 : ((k : Int) == (l.length : Int)) = true := by simp [hend]
      have hd : dgs 0 0 l = (1, 0, 0) := by rw [← Hx.out, hend, List.drop_length]; rfl
      have Hd := Lib.hid hd; clear hd hend
      go_wp2
      simp only [Jumps]
      go_ret3
      rw [Hd.out]
      exact ⟨rfl, rfl⟩
    · have hlt : k < l.length := by omega
      have e1 : ((k : Int) == (l.length : Int)) = false := by simp; omega
      obtain ⟨b, off, rfl, hb, hc⟩ := hR.at_ hlt
      have hck := hc k hlt
      have hd := List.drop_eq_getElem_cons hlt
      have hx8 : (l[k]).toNat < 256 := (l[k]).toNat_lt
      have hstep := Hx.out
      rw [hd, dgs_cons] at hstep
      clear hc hd
      generalize hxx : (l[k]).toNat = x0 at *
      clear hxx Hx
      by_cases h9 : k = 9 ∧ 1 < x0
      · rw [if_pos h9] at hstep
        obtain ⟨rfl, h91⟩ := h9
        have Hd := Lib.hid hstep.symm; clear hstep hend
        go_wp2
        go_step3
        exact .inr ⟨rfl, _, _, _, _, _, _, _, _, _, _, _, _, _, _, _, _, _, _, _, _, _, _, _, _, _, _, _, _, _, _, _, _, _, _, _, _, _, _, _, _, _, _, _, _, rfl, rfl, Hd⟩
      · rw [if_neg h9] at hstep
        have hx1 : k = 9 → x0 ≤ 1 := fun h => by omega
        have h91 : ((k : Int) == 9) = false ∨ (((k : Int) == 9) = true ∧ x0 ≤ 1) := by
          by_cases h : k = 9
          · exact .inr ⟨by simp [h], hx1 h⟩
          · exact .inl (by simp; omega)
        have hor := or_u64' acc k (x0 % 128) hacc hk9 (by omega) (fun h => by have := hx1 h; omega)
        rw [show ((x0 % 128 : Nat) : Int) = (x0 : Int) % 128 by omega] at hor
        have h2 : 128 ^ k * (x0 % 128) ≤ 128 ^ k * 127 := Nat.mul_le_mul_left _ (by omega)
        obtain ⟨acc', hacc'⟩ : ∃ m, m = acc + 128 ^ k * (x0 % 128) := ⟨_, rfl⟩
        have hlt' : acc' < 128 ^ (k + 1) := by rw [hacc', Nat.pow_succ]; omega
        rw [← hacc'] at hor hstep
        have Hx1 := Lib.hid hx1; have Hacc := Lib.hid hacc'; clear hx1 h9 h2 hacc'
        by_cases h128 : 128 ≤ x0
        · rw [if_pos h128] at hstep
          have hk8 : k ≤ 8 := by
            have := Hx1.out
            omega
          have Hd := Lib.hid hstep; clear hstep
          rcases h91 with h91 | ⟨h91, hx2⟩
          · go_wp2
            go_step3
            exact .inl ⟨rfl, ⟨acc', k + 1, _, _, _, _, _, _, _, _, _, _, _, _, _, _, _, _, _, _, _, _, _, _, _, _, _, _, _, _, _, _, _, _, _, _, _, _, _, _, _, rfl, rfl, by omega, by omega, hlt', Hd⟩, by simp [dgM, intOf]; omega⟩
          · omega
        · rw [if_neg h128] at hstep
          by_cases h0 : 0 < k ∧ x0 = 0
          · rw [if_pos h0] at hstep
            have Hd := Lib.hid hstep.symm; clear hstep
            obtain ⟨h01, rfl⟩ := h0
            rcases h91 with h91 | ⟨h91, hx2⟩
            all_goals
              go_wp2
              go_step3
              exact .inr ⟨rfl, _, _, _, _, _, _, _, _, _, _, _, _, _, _, _, _, _, _, _, _, _, _, _, _, _, _, _, _, _, _, _, _, _, _, _, _, _, _, _, _, _, _, _, _, rfl, rfl, Hd⟩
          · rw [if_neg h0] at hstep
            have e5 : x0 % 128 = x0 := Nat.mod_eq_of_lt (by omega)
            have hfin : dgs 0 0 l = (0, acc', k + 1) := by rw [← hstep, Hacc.out, e5]
            have h00 : ((x0 : Int) == 0) = false ∨ k < 1 := by
              by_cases h : k = 0
              · exact .inr (by omega)
              · exact .inl (by simp; omega)
            have Hf := Lib.hid hfin; clear hfin hstep e5
            rcases h00 with h00 | h00
            · rcases h91 with h91 | ⟨h91, hx2⟩
              all_goals
                go_wp2 <;> ((try simp only [Jumps]); go_ret3; rw [Hf.out]; exact ⟨rfl, rfl⟩)
            · rcases h91 with h91 | ⟨h91, _⟩
              · go_wp2
                simp only [Jumps]
                go_ret3
                rw [Hf.out]
                exact ⟨rfl, rfl⟩
              · simp at h91; omega
  · rintro a' w' ⟨x0, x1, x2, x3, x4, x5, u6, u7, u8, u9, u10, u11, u12, u13, u14, u15, u16, u17, u18, u19, u20, u21, u22, u23, u24, u25, u26, u27, u28, u29, u30, u31, u32, u33, u34, u35, u36, u37, u38, u39, u40, u41, u42, u43, rfl, rfl, Hd⟩
    go_wp2
    simp only [Jumps]
    go_ret3
    rw [Hd.out]
    exact ⟨rfl, rfl⟩
end Go.Proofs.Ytcblmcpmdpnlbaa
