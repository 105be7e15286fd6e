/-
  Layer 11: great, the reference's Same; the pieces of texts, as plain Lean.
-/
import Derived.Test.YtolhjdhbcggidaaProg
import Derived.Test.YtolhjdhbcggidaaKn
namespace Go.Proofs.Ytolhjdhbcggidaa
open Go.RowKit

def greatB (l : List ByteArray) (most : Int) : Bool := (l.any fun s => decide (3000 < s.size)) || decide (most < (l.length : Int))
set_option maxRecDepth 100000 in
/-- great. -/
theorem greatS_any (l : List ByteArray) (A : Option Addr) (c : Nat) (most : Int) (w : World) (hR : Rd w w.heap.size 1 A l.length (strs l)) (hl : l.length ≤ maxLen) (hz : ∀ a ∈ l, a.size ≤ maxLen) :
    Calls Try.prog 20 #[.slice A l.length c, .int .i64 most] w (RetB (greatB l most) w) := by
  have hml : l.length ≤ 9223372036854775807 := hl
  go_enter Try.func20, Try.ntmps20
  go_wp2
  go_loop [5] (fun i => ∃ j : Nat, j ≤ l.length ∧ i = .int .i64 (j : Int) ∧ Hid ((l.take j).any (fun s => decide (3000 < s.size)) = false)) (fun i => l.length - (intOf i).toNat)
  case atStart => exact ⟨0, by omega, rfl, by simp [Hid]⟩
  case round =>
    obtain ⟨j, hj, rfl, ht⟩ := hrel
    by_cases hlt : j < l.length
    · obtain ⟨g, off, rfl, hg, hc⟩ := hR.at_ hlt
      have h1 := hc j hlt
      clear hc
      have hz1 := hz _ (List.getElem_mem hlt)
      unfold maxLen at hz1
      have hi1 : (j : Int) < (l.length : Int) := by omega
      have htk : Hid (l.take (j + 1) = l.take j ++ [l[j]]) := List.take_succ_eq_append_getElem hlt
      have hmem : Hid (l[j] ∈ l) := List.getElem_mem hlt
      generalize l[j] = s at *
      by_cases h3 : 3000 < s.size
      · have hd : decide ((3000 : Int) < (s.size : Int)) = true := decide_eq_true (by omega)
        have hf : Hid (greatB l most = true) := by
          show _ = _
          unfold greatB
          rw [Bool.or_eq_true, List.any_eq_true]
          exact .inl ⟨s, hmem.out, decide_eq_true h3⟩
        go_wp2
        go_ret
        exact RetB.mk' hf.out.symm (Below.refl _ _)
      · have hd : decide ((3000 : Int) < (s.size : Int)) = false := decide_eq_false (by omega)
        go_wp2
        go_round
        case rel => exact ⟨j + 1, by omega, by go_num, by show _ = _; rw [htk.out, List.any_append, ht.out]; simp; omega⟩
        case measure => simp [intOf]; omega
    · have hf : Hid (decide (most < (l.length : Int)) = greatB l most) := by
        have := ht.out
        rw [List.take_of_length_le (by omega)] at this
        show _ = _
        unfold greatB
        rw [this, Bool.false_or]
      go_wp2
      go_ret
      exact RetB.mk' hf.out (Below.refl _ _)

set_option maxRecDepth 100000 in
/-- The reference's Same, of two rows that are alike. -/
theorem sameS_any (l : List ByteArray) (A A' : Option Addr) (c c' : Nat) (w : World) (hl : Rd w w.heap.size 1 A l.length (strs l)) (hr : Rd w w.heap.size 1 A' l.length (strs l)) (hm : l.length ≤ maxLen) :
    Calls Try.prog 21 #[.slice A l.length c, .slice A' l.length c'] w (RetB true w) := by
  have hml : l.length ≤ 9223372036854775807 := hm
  go_enter Try.func21, Try.ntmps21
  go_wp2
  go_loopw [5] (fun i wr => ∃ j : Nat, j ≤ l.length ∧ i = .int .i64 j ∧ Below w.heap.size w wr) (fun i _ => l.length - (intOf i).toNat)
  case atStart => exact ⟨0, by omega, rfl, Below.refl _ _⟩
  case round =>
    obtain ⟨j, hj, rfl, hbel⟩ := hrel
    by_cases hlt : j < l.length
    · obtain ⟨g, off, rfl, hg, hc⟩ := (hl.below hbel (Nat.le_refl _)).at_ hlt
      obtain ⟨g', off', rfl, hg', hc'⟩ := (hr.below hbel (Nat.le_refl _)).at_ hlt
      have h1 := hc j hlt
      have h2 := hc' j hlt
      clear hc hc'
      have hi1 : (j : Int) < (l.length : Int) := by omega
      generalize l[j] = s at *
      go_wp2_with fail
      go_quiet (fail)
      go_wp2
      go_roundw
      case rel => exact ⟨j + 1, by omega, by go_num, by first | exact hbel | exact ⟨hbel.os, hbel.tape, hbel.output, hbel.size, hbel.block⟩⟩
      case measure => simp [intOf]; omega
    · go_wp2
      go_ret
      exact RetB.mk' rfl hbel

/-- How many pieces a text of this size has; its piece number j; its pieces; the pieces of texts. -/
def nPc (n : Nat) : Nat := (n + 255) / 256
def pc (s : ByteArray) (j : Nat) : ByteArray := s.extract (256 * j) (min (256 * j + 256) s.size)
def pcsTo (s : ByteArray) (k : Nat) : List ByteArray := (List.range k).map (pc s)
def pcs (s : ByteArray) : List ByteArray := pcsTo s (nPc s.size)
def splitL (l : List ByteArray) : List ByteArray := l.flatMap pcs
theorem pcsTo_succ (s : ByteArray) (k : Nat) : pcsTo s (k + 1) = pcsTo s k ++ [pc s k] := by simp [pcsTo, List.range_succ]
theorem pcsTo_len (s : ByteArray) (k : Nat) : (pcsTo s k).length = k := by simp [pcsTo]
theorem pc_size (s : ByteArray) (j : Nat) : (pc s j).size = min (256 * j + 256) s.size - 256 * j := by
  unfold pc; rw [ByteArray.size_extract]; omega
theorem strs_app (l r : List ByteArray) : strs (l ++ r) = strs l ++ strs r := by simp [strs]
theorem strs_len (l : List ByteArray) : (strs l).length = l.length := by simp [strs]
end Go.Proofs.Ytolhjdhbcggidaa
