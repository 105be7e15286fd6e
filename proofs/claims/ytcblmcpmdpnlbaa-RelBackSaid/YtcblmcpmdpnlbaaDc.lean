/-
  Layer 8: Decode, the plain law: what is read off the bytes.
-/
import Derived.Test.YtcblmcpmdpnlbaaRx
import Derived.Test.YtcblmcpmdpnlbaaRel
namespace Go.Proofs.Ytcblmcpmdpnlbaa
open Go.RowKit

theorem Rdr.uint_le (r : Rdr) (limit : Nat) : (r.uint limit).1 ≤ limit := by
  unfold Rdr.uint
  split
  · rename_i h
    unfold Rdr.uintE at h
    split at h
    · simp at h
    · rename_i h2
      simp only [h, true_and] at h2
      simp only; omega
  · exact Nat.zero_le _
theorem Rdr.text_len (r : Rdr) (n : Nat) : (r.text (n : Int)).1.length ≤ n := by
  unfold Rdr.text
  have h1 := (r.uint (max 0 (n : Int)).toNat).2.take_len (r.uint (max 0 (n : Int)).toNat).1
  have h2 := r.uint_le (max 0 (n : Int)).toNat
  omega
theorem Rdr.byte_lt (r : Rdr) : r.byte.1 < 256 := by
  unfold Rdr.byte
  have := ((r.take 1).1.headD 0).toNat_lt
  simpa using this
/-- A column read off. -/
def Rdr.col (r : Rdr) : Col × Rdr := (⟨⟨(r.text 31).1.toArray⟩, (r.text 31).2.byte.1 % 128, decide (128 ≤ (r.text 31).2.byte.1)⟩, (r.text 31).2.byte.2)
def colsTo (r : Rdr) : Nat → List Col × Rdr
  | 0 => ([], r)
  | j + 1 => ((colsTo r j).1 ++ [(colsTo r j).2.col.1], (colsTo r j).2.col.2)
theorem colsTo_len (r : Rdr) : ∀ j, (colsTo r j).1.length = j
  | 0 => rfl
  | j + 1 => by simp [colsTo, colsTo_len r j]
theorem colsTo_ok (r : Rdr) : ∀ j, ∀ o ∈ (colsTo r j).1, o.name.size ≤ 31
  | 0, o, h => by simp [colsTo] at h
  | j + 1, o, h => by
    simp only [colsTo, List.mem_append, List.mem_singleton] at h
    rcases h with h | rfl
    · exact colsTo_ok r j o h
    · have := Rdr.text_len (colsTo r j).2 31
      simpa [Rdr.col, ByteArray.size] using this
def dc1 (l : List UInt8) : Nat × Rdr := (⟨l, 0⟩ : Rdr).uint 4294967295
def dc2 (l : List UInt8) : Nat × Rdr := (dc1 l).2.uint 4294967295
def dc3 (l : List UInt8) : List UInt8 × Rdr := (dc2 l).2.text 31
def dc4 (l : List UInt8) : Nat × Rdr := (dc3 l).2.byte
def dc5 (l : List UInt8) : Nat × Rdr := (dc4 l).2.uint 16
/-- What has been read when the end is looked at. -/
def dcR (l : List UInt8) (j : Nat) : Rl := ⟨(dc1 l).1, (dc2 l).1, ⟨(dc3 l).1.toArray⟩, (dc4 l).1, (colsTo (dc5 l).2 j).1⟩
def dcE (l : List UInt8) : Int := if (colsTo (dc5 l).2 (dc5 l).1).2.fin = 0 then (dcR l (dc5 l).1).rightE else (colsTo (dc5 l).2 (dc5 l).1).2.fin
def dcV (l : List UInt8) : Rl := if dcE l = 0 then dcR l (dc5 l).1 else ⟨0, 0, ⟨#[]⟩, 0, []⟩
theorem dcR_ok (l : List UInt8) (j : Nat) : RlOk (dcR l j) := by
  refine ⟨?_, fun o h => ?_, ?_, ?_⟩
  · have := Rdr.text_len (dc2 l).2 31
    have h2 : (dcR l j).name.size = ((dc2 l).2.text 31).1.length := by simp [dcR, dc3, ByteArray.size]
    rw [h2]
    exact Nat.le_trans this (by simp [maxLen])
  · have := colsTo_ok (dc5 l).2 j o h
    simp only [maxLen]; omega
  · have := (⟨l, 0⟩ : Rdr).uint_le 4294967295
    show (dc1 l).1 < _
    unfold dc1; omega
  · have := (dc1 l).2.uint_le 4294967295
    show (dc2 l).1 < _
    unfold dc2; omega
end Go.Proofs.Ytcblmcpmdpnlbaa
