/-
  Layer 24: two filters together: whichever comes first, whichever two of three are put together first: the plain law.
-/
import Derived.Test.YtaaijgalminafaaFa1
namespace Go.Proofs.Ytaaijgalminafaa
open Go.RowKit

theorem band_def (a b : Int) : bits .and .u8 a b = IntKind.u8.wrap ((BitVec.ofInt 8 a &&& BitVec.ofInt 8 b).toNat : Int) := rfl
theorem band_comm (a b : Int) : bits .and .u8 a b = bits .and .u8 b a := by rw [band_def, band_def, BitVec.and_comm]
theorem band_ofInt (a b : Int) : BitVec.ofInt 8 (bits .and .u8 a b) = BitVec.ofInt 8 a &&& BitVec.ofInt 8 b := by
  rw [band_def]
  generalize BitVec.ofInt 8 a &&& BitVec.ofInt 8 b = V
  have h := V.isLt
  rw [IntKind.wrap_u8]
  have e : ((V.toNat : Int) % 256) = (V.toNat : Int) := by omega
  rw [e, BitVec.ofInt_natCast]
  exact BitVec.ofNat_toNat 8 V |>.trans (by simp)
theorem band_assoc (a b c : Int) : bits .and .u8 (bits .and .u8 a b) c = bits .and .u8 a (bits .and .u8 b c) := by
  rw [band_def (bits .and .u8 a b) c, band_ofInt, band_def a (bits .and .u8 b c), band_ofInt, BitVec.and_assoc]
theorem AndIs.comm {x y r : Fl} (h : AndIs x y r) : AndIs y x r :=
  ⟨by rw [h.all, Bool.and_comm], by rw [h.empty, Bool.and_comm], by rw [h.kinds, band_comm], by have := h.len; omega, h.nil, h.up, fun ha o => by
    rw [h.mem ha]; exact ⟨fun ⟨h1, h2, h3⟩ => ⟨h1.symm, h3, h2⟩, fun ⟨h1, h2, h3⟩ => ⟨h1.symm, h3, h2⟩⟩⟩
theorem AndIs.oid {x y r : Fl} (h : AndIs x y r) (o : Int) : r.oid o = (x.oid o && y.oid o) := by
  have hall := h.all
  cases ha : r.all with
  | true =>
    rw [ha] at hall
    have h1 := Bool.and_eq_true_iff.1 hall.symm
    simp [Fl.oid, ha, h1.1, h1.2]
  | false =>
    rw [Bool.eq_iff_iff]
    have e : r.oid o = true ↔ o ∈ r.oids := by simp [Fl.oid, ha]
    rw [e, h.mem ha, Bool.and_eq_true]
    refine ⟨fun h1 => h1.2, fun h1 => ⟨?_, h1⟩⟩
    rw [ha] at hall
    obtain ⟨h2, h3⟩ := h1
    unfold Fl.oid at h2 h3
    rw [Bool.or_eq_true, decide_eq_true_iff] at h2 h3
    rcases h2 with h2 | h2
    · rcases h3 with h3 | h3
      · rw [h2, h3] at hall; cases hall
      · exact .inr h3
    · exact .inl h2
theorem AndIs.mem_oid {x y r : Fl} (_ : AndIs x y r) (ha : r.all = false) (o : Int) : o ∈ r.oids ↔ r.oid o = true := by simp [Fl.oid, ha]
theorem AndIs.assoc {x y z a b c d : Fl} (ha : AndIs x y a) (hc : AndIs a z c) (hb : AndIs y z b) (hd : AndIs x b d) : c = d := by
  have e1 : c.all = d.all := by rw [hc.all, ha.all, hd.all, hb.all, Bool.and_assoc]
  have e2 : c.empty = d.empty := by rw [hc.empty, ha.empty, hd.empty, hb.empty, Bool.and_assoc]
  have e3 : c.kinds = d.kinds := by rw [hc.kinds, ha.kinds, hd.kinds, hb.kinds, band_assoc]
  have e4 : c.oids = d.oids := by
    cases h : c.all with
    | true => rw [hc.nil h, hd.nil (e1 ▸ h)]
    | false => exact up_uniq _ _ hc.up hd.up fun o => by rw [hc.mem_oid h, hd.mem_oid (e1 ▸ h), hc.oid, ha.oid, hd.oid, hb.oid, Bool.and_assoc]
  obtain ⟨c1, c2, c3, c4⟩ := c
  obtain ⟨d1, d2, d3, d4⟩ := d
  simp only at e1 e2 e3 e4
  rw [e1, e2, e3, e4]
end Go.Proofs.Ytaaijgalminafaa
