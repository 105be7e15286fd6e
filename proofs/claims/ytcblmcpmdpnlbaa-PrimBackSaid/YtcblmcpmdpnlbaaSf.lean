/-
  Layer 1: what a reader of just what was put answers; two readers stand apart.
-/
import Derived.Test.YtcblmcpmdpnlbaaSe
import Derived.Test.YtcblmcpmdpnlbaaAw
namespace Go.Proofs.Ytcblmcpmdpnlbaa
open Go.RowKit

theorem Rdr.uint_sevens {v limit : Nat} (hv : v < 18446744073709551616) (r : List UInt8) : (Rdr.mk (sevens v ++ r) 0).uint limit = if limit < v then (0, ⟨[], 4⟩) else (v, ⟨r, 0⟩) := by
  unfold Rdr.uint Rdr.uintE
  simp only [dgs_sevens hv r]
  by_cases h : limit < v
  · simp [h, Rdr.giveUp]
  · simp [h]
theorem Rdr.text_textB {s : ByteArray} {limit : Nat} (hv : s.size < 18446744073709551616) (r : List UInt8) : (Rdr.mk (textB s ++ r) 0).text (limit : Int) = if limit < s.size then ([], ⟨[], 4⟩) else (s.data.toList, ⟨r, 0⟩) := by
  unfold Rdr.text textB
  have e : (max 0 (limit : Int)).toNat = limit := by omega
  have hl := str_len s
  rw [e, List.append_assoc, Rdr.uint_sevens hv]
  by_cases h : limit < s.size
  · simp [h, Rdr.take]
  · simp only [h, if_false]
    unfold Rdr.take
    rw [if_neg (by simp only [List.length_append, hl]; omega)]
    rw [← hl, List.take_left, List.drop_left]
theorem str_back (s : ByteArray) : (⟨s.data.toList.toArray⟩ : ByteArray) = s := ByteArray.ext (by simp)

/-- A reader stays as it is while another one goes on: a block of readers is no block of bytes. -/
theorem PR.off {w w' : World} {g g1 : Nat} {r r1 : Rdr} (h : PR w g r) (h1 : PR w g1 r1) (hne : g ≠ g1) (hg : w.grownBy w' (some g1)) : PR w' g r := by
  obtain ⟨A, c, k1, k2, hh, hR⟩ := h
  obtain ⟨A1, c1, _, _, hh1, _⟩ := h1
  have hlt := row_lt hh
  refine ⟨A, c, k1, k2, by rw [hg.block g hlt (fun e => by injection e with e; omega)]; exact hh, hR.1, fun hn => ?_⟩
  obtain ⟨b, off, rfl, hb, hc⟩ := hR.2 hn
  refine ⟨b, off, rfl, hb, fun j u hu => ?_⟩
  have hbne : b ≠ g1 := by
    rintro rfl
    have h0 := hc j u hu
    rw [row_cell hh1] at h0
    have hu' : ∃ x : UInt8, u = .int .u8 (x.toNat : Int) := by
      unfold byt at hu
      rw [List.getElem?_map] at hu
      cases hx : r.rest[j]? with
      | none => rw [hx] at hu; cases hu
      | some x => rw [hx] at hu; exact ⟨x, by injection hu with hu; exact hu.symm⟩
    obtain ⟨x, rfl⟩ := hu'
    rcases hq : off + j with _ | _ | q <;> rw [hq] at h0 <;> simp at h0
  rw [← hc j u hu]
  exact World.cell?_of_block (hg.block b (by omega) (fun e => by injection e with e; exact hbne e))
theorem putUint_nil (v : Nat) (w : World) (hv : v < 18446744073709551616) : Calls Try.prog 13 #[.slice none 0 0, .int .u64 (v : Int)] w (RetO 5 1 (sevens v).length (byt (sevens v)) w) := by
  simpa using putUint_any none 0 [] v w Rd.none_ (by simp) hv
theorem putInt_nil (v : Int) (w : World) (hv : -9223372036854775808 ≤ v ∧ v ≤ 9223372036854775807) : Calls Try.prog 15 #[.slice none 0 0, .int .i64 v] w (RetO 5 1 (sevens (zig v).toNat).length (byt (sevens (zig v).toNat)) w) := by
  simpa using putInt_any none 0 [] v w Rd.none_ (by simp) hv
theorem putText_nil (s : ByteArray) (w : World) (hs : s.size ≤ 1048000) : Calls Try.prog 17 #[.slice none 0 0, .string s] w (RetO 5 1 (textB s).length (byt (textB s)) w) := by
  simpa using putText_any none 0 [] s w Rd.none_ (by simp) hs
end Go.Proofs.Ytcblmcpmdpnlbaa
