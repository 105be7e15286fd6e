/-
  Layer 11: the reference's Split by its contract.
-/
import Derived.Test.YtolhjdhbcggidaaCk1
import Derived.WideShapes
import Derived.Lib.IndexBytes
namespace Go.Proofs.Ytolhjdhbcggidaa
open Go.RowKit

theorem Try.info9 : (Try.prog.info? 9).map (fun i => (i.zero, i.size, i.bytes)) = some (some (.string .empty), 1, 16) := by kernel_rfl
theorem own_up {w w' : World} {base size n : Nat} {e : TypeId} {v : Value} {xs : List Value} (h : w.ownsRow base e size v n xs) (hb : Below w.heap.size w w') : w'.ownsRow base e size v n xs :=
  h.kept (row := none) ⟨hb.os, hb.tape, hb.output, hb.size, fun k hk _ => hb.block k hk⟩ (by cases v.ownBlock <;> simp)
theorem cells_one {w : World} {v : Value} {t : TypeId} {g : Nat} (h : w.heap[g]? = some (.cells #[v] t (0, 0))) : ∀ j u, [v][j]? = some u → w.cell? ((⟨g, 0, none⟩ : Addr).add j) = some u := by
  intro j u hu
  have : (⟨g, 0, none⟩ : Addr).add j = ⟨g, j, none⟩ := by unfold Addr.add; split <;> simp_all
  rw [this, cell_of_row _ _ j _ t (0, 0) h]
  simpa using hu
/-- How long a text's value is. -/
def szOf : Value → Nat
  | .string b => b.size
  | _ => 0
/-- What is left of a text behind k pieces. -/
def Left (t s : ByteArray) (k : Nat) : Prop := s = t.extract (256 * k) t.size
theorem Left.size {t s : ByteArray} {k : Nat} (h : Left t s k) : s.size = t.size - 256 * k := by unfold Left at h; subst h; rw [ByteArray.size_extract]; omega
theorem Left.zero (t : ByteArray) : Left t t 0 := by unfold Left; simp
theorem Left.piece {t s : ByteArray} {k : Nat} (h : Left t s k) (hs : 256 ≤ s.size) : s.extract 0 256 = pc t k := by
  have hz := h.size
  unfold Left at h; subst h
  unfold pc
  rw [ByteArray.extract_extract]
  congr 1 <;> omega
theorem Left.next {t s : ByteArray} {k : Nat} (h : Left t s k) (hs : 256 ≤ s.size) : Left t (s.extract 256 s.size) (k + 1) := by
  have hz := h.size
  unfold Left at *
  subst h
  rw [ByteArray.extract_extract]
  congr 1 <;> omega
theorem Left.last {t s : ByteArray} {k : Nat} (h : Left t s k) (hs : s.size ≤ 256) : s = pc t k := by
  have hz := h.size
  unfold Left at h; subst h
  unfold pc
  by_cases h0 : 256 * k ≤ t.size
  · rw [Nat.min_eq_right (by omega)]
  · apply Go.WideShapes.bytes_inj
    simp [ByteArray.data_extract, Array.extract_eq_empty_of_le (show min t.size t.data.size ≤ 256 * k by have : t.data.size = t.size := rfl; omega)]
    omega
theorem emp {s : ByteArray} (h : s.size = 0) : s.toList = [] ∧ s.toList.isEmpty = true := by
  have e : s.toList = [] := by rw [Lib.toList_data]; exact List.eq_nil_of_length_eq_zero (by simpa using h)
  exact ⟨e, by rw [e]; rfl⟩
theorem nemp {s : ByteArray} (h : ¬ s.size = 0) : s.toList ≠ [] ∧ s.toList.isEmpty = false := by
  have e : s.toList ≠ [] := by rw [Lib.toList_data]; intro e; exact h (by simpa using congrArg List.length e)
  exact ⟨e, by simpa using e⟩
theorem splitL_snoc {l : List ByteArray} {j : Nat} (h : j < l.length) : splitL (l.take (j + 1)) = splitL (l.take j) ++ pcs l[j] := by
  unfold splitL
  rw [List.take_succ_eq_append_getElem h, List.flatMap_append]
  simp
theorem splitL_len (l : List ByteArray) (h : ∀ a ∈ l, a.size ≤ 3000) : (splitL l).length ≤ 12 * l.length := by
  induction l with
  | nil => simp [splitL]
  | cons a l ih =>
    have h1 := ih (fun b hb => h b (by simp [hb]))
    have h2 := h a (by simp)
    have h3 : (splitL (a :: l)).length = nPc a.size + (splitL l).length := by simp [splitL, pcs, pcsTo_len]
    unfold nPc at h3
    rw [h3, List.length_cons]
    omega

set_option maxRecDepth 100000 in
set_option maxHeartbeats 1600000 in
theorem splitR_any (l : List ByteArray) (A : Option Addr) (c : Nat) (w : World) (hR : Rd w w.heap.size 1 A l.length (strs l)) (hl : l.length ≤ 1000) (hz : ∀ a ∈ l, a.size ≤ 3000) :
    Calls Try.prog 23 #[.slice A l.length c] w (RetS 1 (strs (splitL l)) w) := by
  obtain ⟨i0, hi, hz0, hz1, hz2⟩ := info_parts Try.info9
  have HR := Lib.hid hR; have HZ := Lib.hid hz; clear hR hz
  go_enter Try.func23, Try.ntmps23
  go_wp2
  go_loopw [3, 4, 5] (fun v i s wr => ∃ j : Nat, j ≤ l.length ∧ i = .int .i64 (j : Int) ∧ wr.ownsRow w.heap.size 9 1 v (splitL (l.take j)).length (strs (splitL (l.take j))) ∧ Below w.heap.size w wr) (fun _ i _ _ => l.length - (intOf i).toNat)
  case atStart => exact ⟨0, by omega, rfl, World.ownsRow_nil _ _ _ _, Below.refl _ _⟩
  case round =>
    obtain ⟨j, hj, rfl, hown, hb⟩ := hrel
    by_cases hlt : j < l.length
    · obtain ⟨g, off, rfl, hg, hc⟩ := (HR.out.below hb (Nat.le_refl _)).at_ hlt
      have h1 := hc j hlt
      clear hc
      have hzt := HZ.out _ (List.getElem_mem hlt)
      have hsn := splitL_snoc hlt
      have hll : (splitL (l.take j)).length ≤ 12 * j := by
        have := splitL_len (l.take j) (fun a ha => HZ.out a (List.mem_of_mem_take ha))
        rw [List.length_take] at this
        omega
      have hi1 : (j : Int) < (l.length : Int) := by omega
      have Hsn := Lib.hid hsn; clear hsn
      generalize splitL (l.take j) = L at *
      generalize l[j] = t at *
      obtain ⟨wo, rfl⟩ : ∃ wo : World, wo = wr := ⟨_, rfl⟩
      go_wp2
      go_loopw [3, 5] (fun v s wr => ∃ (k : Nat) (s1 : ByteArray), s = .string s1 ∧ Left t s1 k ∧ k ≤ nPc t.size ∧ wr.ownsRow w.heap.size 9 1 v (L ++ pcsTo t k).length (strs (L ++ pcsTo t k)) ∧ Below w.heap.size w wr) (fun _ s _ => szOf s)
      case atStart => exact ⟨0, t, rfl, Left.zero t, Nat.zero_le _, by simpa [pcsTo] using hown, hb⟩
      case round =>
        obtain ⟨k, s1, rfl, hL, hk, hown1, hb1⟩ := hrel
        clear hown hb
        have hsz := hL.size
        by_cases hgt : 256 < s1.size
        · have hd : decide ((256 : Int) < (s1.size : Int)) = true := decide_eq_true (by omega)
          have hgt' : (256 : Int) < (s1.size : Int) := by omega
          have hp : Hid (s1.extract 0 256 = pc t k) := hL.piece (by omega)
          have hn := hL.next (by omega)
          have hnews := cells_one (heap_alloc_new wr (.cells #[.string (s1.extract 0 256)] 9))
          have hk1 : k + 1 ≤ nPc t.size := by unfold nPc; omega
          have hn12 : nPc t.size ≤ 12 := by unfold nPc; omega
          have hLl : (L ++ pcsTo t k).length ≤ 12 * j + k := by rw [List.length_append, pcsTo_len]; omega
          have HL := Lib.hid hL; have Hn := Lib.hid hn; clear hL hn hsz
          go_wp2_with (at_builtin; refine wpList_append_own _ rfl _ _ 41 rfl w.heap.size 9 i0 (.string .empty) 1 16 Try.underlying41 hi hz0 hz1 hz2 rfl (by decide) _ _ _ rfl (hown1.alloc _) ⟨wr.heap.size, 0, none⟩ 1 1 [.string (s1.extract 0 256)] rfl rfl hnews (by simp [Value.oneCell']) (by simp only [maxLen]; omega) (by omega) (by have := hb1.size; simp; omega) ?_)
          intro v8 w8 hown8 hg8 _
          have hb8 := own_base (hown1.alloc _) (hb1.alloc hb1.size _) hg8 (by have := hb1.size; simp; omega)
          have hown9 : w8.ownsRow w.heap.size 9 1 v8 (L ++ pcsTo t (k + 1)).length (strs (L ++ pcsTo t (k + 1))) := by
            have e : strs (L ++ pcsTo t k) ++ [Value.string (s1.extract 0 256)] = strs (L ++ pcsTo t (k + 1)) := by rw [hp.out, pcsTo_succ, ← List.append_assoc, strs_app (L ++ pcsTo t k)]; rfl
            have e2 : (L ++ pcsTo t (k + 1)).length = L.length + (pcsTo t k).length + 1 := by rw [List.length_append, pcsTo_len, pcsTo_len]; omega
            rw [e] at hown8; rw [e2]; exact hown8
          have hms : (s1.extract 256 s1.size).size < s1.size := by rw [ByteArray.size_extract]; omega
          clear hown8 hg8 hnews hown1 hb1
          go_wp2
          go_roundw
          case rel => exact ⟨k + 1, _, rfl, Hn.out, hk1, hown9, hb8⟩
          case measure => simpa [szOf] using hms
        · have hd : decide ((256 : Int) < (s1.size : Int)) = false := decide_eq_false (by omega)
          have hgt' : ¬ (256 : Int) < (s1.size : Int) := by omega
          by_cases h0 : s1.size = 0
          · obtain ⟨e1, e2⟩ := emp h0
            have hkn : Hid (k = nPc t.size) := by show _ = _; unfold nPc at *; omega
            have HL := Lib.hid hL; have H0 := Lib.hid h0; clear hL h0 hsz
            go_wp2
            go_roundw
            case rel => exact ⟨j + 1, by omega, by go_num, by rw [Hsn.out]; unfold pcs; rw [← hkn.out]; exact hown1, hb1⟩
            case measure => simp [intOf]; omega
          · obtain ⟨e1, e2⟩ := nemp h0
            have hkn : Hid (k + 1 = nPc t.size) := by show _ = _; unfold nPc at *; omega
            have hp : Hid (s1 = pc t k) := hL.last (by omega)
            have hnews := cells_one (heap_alloc_new wr (.cells #[.string s1] 9))
            have hn12 : nPc t.size ≤ 12 := by unfold nPc; omega
            have hLl : (L ++ pcsTo t k).length ≤ 12 * j + k := by rw [List.length_append, pcsTo_len]; omega
            have HL := Lib.hid hL; have H0 := Lib.hid h0; clear hL h0 hsz
            go_wp2_with (at_builtin; refine wpList_append_own _ rfl _ _ 41 rfl w.heap.size 9 i0 (.string .empty) 1 16 Try.underlying41 hi hz0 hz1 hz2 rfl (by decide) _ _ _ rfl (hown1.alloc _) ⟨wr.heap.size, 0, none⟩ 1 1 [.string s1] rfl rfl hnews (by simp [Value.oneCell']) (by simp only [maxLen]; omega) (by omega) (by have := hb1.size; simp; omega) ?_)
            intro v8 w8 hown8 hg8 _
            have hb8 := own_base (hown1.alloc _) (hb1.alloc hb1.size _) hg8 (by have := hb1.size; simp; omega)
            have hown9 : w8.ownsRow w.heap.size 9 1 v8 (L ++ pcs t).length (strs (L ++ pcs t)) := by
              have e : strs (L ++ pcsTo t k) ++ [Value.string s1] = strs (L ++ pcs t) := by unfold pcs; rw [← hkn.out, pcsTo_succ, ← List.append_assoc, strs_app (L ++ pcsTo t k), ← hp.out]; rfl
              have e2 : (L ++ pcs t).length = L.length + (pcsTo t k).length + 1 := by unfold pcs; rw [← hkn.out, List.length_append, pcsTo_len, pcsTo_len]; omega
              rw [e] at hown8; rw [e2]; exact hown8
            clear hown8 hg8 hnews hown1 hb1
            go_wp2
            go_roundw
            case rel => exact ⟨j + 1, by omega, by go_num, by rw [Hsn.out]; exact hown9, hb8⟩
            case measure => simp [intOf]; omega
    · have hje : j = l.length := by omega
      subst hje
      rw [List.take_length] at hown
      obtain ⟨A', c', rfl, h1, h2, h3⟩ := Rd.of_own hown
      go_wp2
      go_ret
      exact RetS.mk' h3 h1 h2 hb
end Go.Proofs.Ytolhjdhbcggidaa
