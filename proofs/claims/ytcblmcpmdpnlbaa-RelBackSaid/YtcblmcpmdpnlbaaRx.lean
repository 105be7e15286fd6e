/-
  Layer 1, the reference's reader: Int, Text, Byte, Word by contracts.
-/
import Derived.Test.YtcblmcpmdpnlbaaRw
import Derived.Test.YtcblmcpmdpnlbaaRv
namespace Go.Proofs.Ytcblmcpmdpnlbaa
open Go.RowKit

/-- Int. -/
theorem intRd_any (g : Nat) (r : Rdr) (w : World) (hp0 : RR w g r) :
    Calls Try.prog 30 #[.pointer (some ⟨g, 0, none⟩)] w (RetW (.int .i64 r.int.1) g r.int.2 w) := by
  have hB : r.int = (zag (r.uint 18446744073709551615).1, (r.uint 18446744073709551615).2) := rfl
  have hlt := r.uint_lt 18446744073709551615
  generalize hU : r.uint 18446744073709551615 = U at hB hlt
  obtain ⟨v, r1⟩ := U
  simp only at hB hlt
  have HB := Lib.hid hB; have HU := Lib.hid hU; clear hB hU
  go_enter Try.func30, Try.ntmps30
  go_wp2_with fail
  refine (uintRd_any g r 18446744073709551615 _ hp0).mono ?_
  rintro e w1 ⟨rfl, hp, hg⟩
  rw [HU.out] at hp
  rw [HU.out]
  simp only at hp
  go_wp2_with fail
  refine (zagR_any v _ hlt).mono ?_
  rintro e w2 ⟨rfl, rfl⟩
  go_wp2
  go_ret
  rw [HB.out]
  exact ⟨rfl, hp, hg⟩
set_option maxRecDepth 100000 in
/-- Text. -/
theorem textRd_any (g : Nat) (r : Rdr) (limit : Int) (w : World) (hp0 : RR w g r) (hl : -9223372036854775808 ≤ limit ∧ limit ≤ 9223372036854775807) :
    Calls Try.prog 31 #[.pointer (some ⟨g, 0, none⟩), .int .i64 limit] w (RetW (.string ⟨(r.text limit).1.toArray⟩) g (r.text limit).2 w) := by
  have hT : r.text limit = (r.uint (max 0 limit).toNat).2.take (r.uint (max 0 limit).toNat).1 := rfl
  obtain ⟨L, hL, hL1, hL2⟩ : ∃ L : Nat, (max 0 limit).toNat = L ∧ ((0 ≤ limit ∧ limit = (L : Int)) ∨ (limit < 0 ∧ L = 0)) ∧ L < 9223372036854775808 := ⟨(max 0 limit).toNat, rfl, by omega, by omega⟩
  rw [hL] at hT
  have hlt := r.uint_lt L
  generalize hU : r.uint L = U at hT hlt
  obtain ⟨n, r1⟩ := U
  simp only at hT hlt
  have HT := Lib.hid hT; have HU := Lib.hid hU; clear hT hU hL
  rcases hL1 with ⟨h0, rfl⟩ | ⟨h0, rfl⟩
  · go_enter Try.func31, Try.ntmps31
    go_wp2_with fail
    refine (uintRd_any g r L _ hp0).mono ?_
    rintro e w1 ⟨rfl, hp, hg⟩
    rw [HU.out] at hp
    rw [HU.out]
    simp only at hp
    go_wp2_with fail
    refine (bytesR_any g r1 n _ hp hlt).mono ?_
    rintro e w2 ⟨rfl, hp2, hg2⟩
    go_wp2
    go_ret
    rw [HT.out]
    exact ⟨rfl, hp2, grown_trans_same hg hg2⟩
  · have d1 : decide (limit < 0) = true := by simpa using h0
    go_enter Try.func31, Try.ntmps31
    go_wp2_with fail
    refine (uintRd_any g r 0 _ hp0).mono ?_
    rintro e w1 ⟨rfl, hp, hg⟩
    rw [HU.out] at hp
    rw [HU.out]
    simp only at hp
    go_wp2_with fail
    refine (bytesR_any g r1 n _ hp hlt).mono ?_
    rintro e w2 ⟨rfl, hp2, hg2⟩
    go_wp2
    go_ret
    rw [HT.out]
    exact ⟨rfl, hp2, grown_trans_same hg hg2⟩
set_option maxRecDepth 100000 in
/-- Byte. -/
theorem byteRd_any (g : Nat) (r : Rdr) (w : World) (h : RR w g r) :
    Calls Try.prog 32 #[.pointer (some ⟨g, 0, none⟩)] w (RetW (.int .u8 (r.byte.1 : Int)) g r.byte.2 w) := by
  have hB : r.byte = (((r.take 1).1.headD 0).toNat, (r.take 1).2) := rfl
  have hl := r.take_len 1
  generalize hU : r.take 1 = U at hB hl
  obtain ⟨l, r1⟩ := U
  simp only at hB hl
  have HB := Lib.hid hB; have HU := Lib.hid hU; clear hB hU
  go_enter Try.func32, Try.ntmps32
  go_wp2_with fail
  refine (bytesR_any g r 1 _ h (by omega)).mono ?_
  rintro e w1 ⟨rfl, hp, hg⟩
  rw [HU.out] at hp
  rw [HU.out]
  simp only at hp
  match l, hl with
  | [], _ =>
    go_wp2
    go_ret
    rw [HB.out]
    exact ⟨rfl, hp, hg⟩
  | [x], _ =>
    go_wp2
    go_ret
    rw [HB.out]
    exact ⟨rfl, hp, hg⟩
set_option maxRecDepth 100000 in
/-- Word. -/
theorem wordRd_any (g : Nat) (r : Rdr) (w : World) (hp0 : RR w g r) :
    Calls Try.prog 33 #[.pointer (some ⟨g, 0, none⟩)] w (RetW (.int .u64 (r.word.1 : Int)) g r.word.2 w) := by
  have hB : r.word = (le8 (r.take 8).1, (r.take 8).2) := rfl
  have hl := r.take_len 8
  generalize hU : r.take 8 = U at hB hl
  obtain ⟨l, r1⟩ := U
  simp only at hB hl
  have HB := Lib.hid hB; have HU := Lib.hid hU; clear hB hU
  go_enter Try.func33, Try.ntmps33
  go_wp2_with fail
  refine (bytesR_any g r 8 _ hp0 (by omega)).mono ?_
  rintro e w1 ⟨rfl, hp, hg⟩
  rw [HU.out] at hp
  rw [HU.out]
  simp only at hp
  go_wp2
  go_loop [4, 5] (fun v k => ∃ j : Nat, j ≤ l.length ∧ k = .int .i64 ((j : Int) - 1) ∧ v = .int .u64 (le8 (l.drop j) : Int)) (fun _ k => (intOf k + 1).toNat)
  case atStart => exact ⟨l.length, by omega, by go_num, by simp [le8]⟩
  case round =>
    obtain ⟨j, hj, rfl, rfl⟩ := hrel
    by_cases hj0 : j = 0
    · subst hj0
      go_wp2
      go_ret
      rw [HB.out]
      exact ⟨rfl, hp, hg⟩
    · obtain ⟨jj, rfl⟩ : ∃ jj, j = jj + 1 := ⟨j - 1, by omega⟩
      have hlt : jj < l.length := by omega
      have h1 := le8_lt (l.drop jj)
      have h2 : le8 (l.drop jj) = (l[jj]).toNat + 256 * le8 (l.drop (jj + 1)) := by rw [List.drop_eq_getElem_cons hlt]; rfl
      rw [List.length_drop] at h1
      have h3 : 2 ^ (8 * (l.length - jj)) ≤ 2 ^ 64 := Nat.pow_le_pow_right (by decide) (by omega)
      have hx := (l[jj]).toNat_lt
      have ej : decide ((0 : Int) ≤ ((jj + 1 : Nat) : Int) - 1) = true := decide_eq_true (by omega)
      have hb1 : 256 * le8 (l.drop (jj + 1)) + (l[jj]).toNat < 18446744073709551616 := by omega
      have H2 := Lib.hid h2; clear h1 h2 h3 hj0
      go_wp2
      refine ⟨⟨jj, by omega, rfl, ?_⟩, by simp [intOf] <;> omega⟩
      have e : ∀ h, ((⟨l.toArray⟩ : ByteArray)[jj]'h).toNat = (l[jj]).toNat := fun h => rfl
      rw [e, H2.out, IntKind.wrap_u64, IntKind.wrap_u64]
      congr 1
      omega
end Go.Proofs.Ytcblmcpmdpnlbaa
