/-
  Layer 11: ChunkShort, the walk.
-/
import Derived.Test.YtolhjdhbcggidaaCk6
namespace Go.Proofs.Ytolhjdhbcggidaa
open Go.RowKit

/-- Texts one behind the other. -/
def catB (l : List ByteArray) : List UInt8 := l.flatMap fun s => s.data.toList
theorem catB_snoc {l : List ByteArray} {j : Nat} (h : j < l.length) : catB (l.take (j + 1)) = catB (l.take j) ++ l[j].data.toList := by
  unfold catB
  rw [List.take_succ_eq_append_getElem h, List.flatMap_append]
  simp
theorem catB_app (l r : List ByteArray) : catB (l ++ r) = catB l ++ catB r := by simp [catB]
theorem catB_pcsTo (s : ByteArray) : ∀ k, k ≤ nPc s.size → catB (pcsTo s k) = s.data.toList.take (256 * k)
  | 0, _ => by simp [pcsTo, catB]
  | k + 1, h => by
    have hk : 256 * k < s.size := by unfold nPc at h; omega
    rw [pcsTo_succ, catB_app, catB_pcsTo s k (by omega)]
    have e : catB [pc s k] = (s.data.toList.drop (256 * k)).take 256 := by
      unfold catB pc
      simp only [List.flatMap_cons, List.flatMap_nil, List.append_nil]
      rw [ByteArray.data_extract, Array.toList_extract, List.extract_eq_take_drop]
      have hl : s.data.toList.length = s.size := by simp
      by_cases hm : 256 * k + 256 ≤ s.size
      · rw [Nat.min_eq_left hm]
        congr 1
        omega
      · rw [Nat.min_eq_right (by omega)]
        rw [List.take_of_length_le (by rw [List.length_drop, hl]; omega), List.take_of_length_le (by rw [List.length_drop, hl]; omega)]
    rw [e, Nat.mul_succ, List.take_add]
theorem catB_pcs (s : ByteArray) : catB (pcs s) = s.data.toList := by
  unfold pcs
  rw [catB_pcsTo s _ (Nat.le_refl _), List.take_of_length_le]
  have hl : s.data.toList.length = s.size := by simp
  rw [hl]
  unfold nPc
  omega
theorem catB_split (l : List ByteArray) : catB (splitL l) = catB l := by
  induction l with
  | nil => rfl
  | cons a l ih =>
    have h1 : splitL (a :: l) = pcs a ++ splitL l := by simp [splitL]
    have h2 : catB (a :: l) = a.data.toList ++ catB l := by simp [catB]
    rw [h1, h2, catB_app, catB_pcs, ih]
theorem pcs_size {s p : ByteArray} (h : p ∈ pcs s) : 1 ≤ p.size ∧ p.size ≤ 256 := by
  unfold pcs pcsTo at h
  rw [List.mem_map] at h
  obtain ⟨k, hk, rfl⟩ := h
  rw [List.mem_range] at hk
  rw [pc_size]
  unfold nPc at hk
  omega
theorem split_size {l : List ByteArray} {p : ByteArray} (h : p ∈ splitL l) : 1 ≤ p.size ∧ p.size ≤ 256 := by
  unfold splitL at h
  rw [List.mem_flatMap] at h
  obtain ⟨s, _, hp⟩ := h
  exact pcs_size hp
theorem catB_len (l : List ByteArray) (n : Nat) (h : ∀ a ∈ l, a.size ≤ n) : (catB l).length ≤ n * l.length := by
  induction l with
  | nil => simp [catB]
  | cons a l ih =>
    have h1 := ih (fun b hb => h b (by simp [hb]))
    have h2 := h a (by simp)
    have h3 : (catB (a :: l)).length = a.size + (catB l).length := by simp [catB]
    rw [h3, List.length_cons, Nat.mul_succ]
    omega
theorem great_no {l : List ByteArray} {n : Nat} (h : greatB l (n : Int) = false) : (∀ a ∈ l, a.size ≤ 3000) ∧ l.length ≤ n := by
  unfold greatB at h
  rw [Bool.or_eq_false_iff, List.any_eq_false] at h
  refine ⟨fun a ha => ?_, ?_⟩
  · have := h.1 a ha; simp at this; omega
  · have := h.2; simp at this; omega
theorem str_add (l : List UInt8) (s : ByteArray) : (⟨l.toArray⟩ : ByteArray) ++ s = ⟨(l ++ s.data.toList).toArray⟩ := by
  apply Go.WideShapes.bytes_inj
  simp [ByteArray.data_append]

set_option maxRecDepth 100000 in
set_option maxHeartbeats 1600000 in
theorem chunkShort_walk (A : Option Addr) (c : Nat) (l : List ByteArray) (w : World) (hR : Rd w w.heap.size 1 A l.length (strs l)) (hz : ∀ a ∈ l, a.size ≤ maxLen) (hlc : l.length ≤ c) (hcm : c ≤ maxLen) :
    Calls Try.prog 8 #[.slice A l.length c] w (RetB true w) := by
  have hlm : l.length ≤ maxLen := Nat.le_trans hlc hcm
  have HR := Lib.hid hR
  go_enter Try.func8, Try.ntmps8
  go_wp2_with fail
  refine (greatS_any l A c 12 w hR hlm hz).mono ?_
  rintro e w1 ⟨rfl, hb1⟩
  cases hg : greatB l 12
  · obtain ⟨hs, hn⟩ := great_no (n := 12) hg
    have hR1 := HR.out.up hb1 (Nat.le_refl _) hb1.size
    have HS := Lib.hid hs; have HB1 := Lib.hid hb1; have HR1 := Lib.hid hR1
    clear hs hb1 hR1 hR hz hg
    go_wp2_with fail
    refine (split_any l A c w1 HR1.out (by omega) HS.out).mono ?_
    rintro e w2 ⟨A2, n2, c2, rfl, hn2, hc2, hR2, hb2⟩
    have hl2 := hR2.len1
    rw [strs_len] at hl2
    subst hl2
    have hsz := splitL_len l HS.out
    have hB2 := HB1.out.trans (hb2.mono HB1.out.size)
    have hRl := HR1.out.up hb2 (Nat.le_refl _) hb2.size
    have HB2 := Lib.hid hB2; have HRl := Lib.hid hRl; have HR2 := Lib.hid hR2
    have hsp : ∀ a ∈ splitL l, 1 ≤ a.size ∧ a.size ≤ 256 := fun a ha => split_size ha
    have HSP := Lib.hid hsp
    have hcat := Lib.hid (catB_split l)
    clear hB2 hRl hR2 hb2 HB1 HR1 HR hsp
    generalize splitL l = p at *
    go_wp2_with fail
    go_loop [3, 6] (fun s i => ∃ j : Nat, j ≤ p.length ∧ i = .int .i64 (j : Int) ∧ s = .string ⟨(catB (p.take j)).toArray⟩) (fun _ i => p.length - (intOf i).toNat)
    case atStart => exact ⟨0, by omega, rfl, by simp [catB]⟩
    case round =>
      obtain ⟨j, hj, rfl, rfl⟩ := hrel
      by_cases hlt : j < p.length
      · obtain ⟨g, off, rfl, hg, hc⟩ := HR2.out.at_ hlt
        have h1 := hc j hlt
        clear hc
        obtain ⟨hz1, hz2⟩ := HSP.out _ (List.getElem_mem hlt)
        have hsn := Lib.hid (catB_snoc hlt)
        have hcl := catB_len (p.take j) 256 (fun a ha => (HSP.out a (List.mem_of_mem_take ha)).2)
        rw [List.length_take] at hcl
        have hi1 : (j : Int) < (p.length : Int) := by omega
        generalize p[j] = s at *
        generalize catB (p.take j) = L at *
        have hd1 : decide ((s.size : Int) < 1) = false := decide_eq_false (by omega)
        have hd2 : decide ((256 : Int) < (s.size : Int)) = false := decide_eq_false (by omega)
        have hadd := Lib.hid (str_add L s)
        have hLs : (⟨L.toArray⟩ : ByteArray).size = L.length := by simp [ByteArray.size]
        go_wp2
        refine ⟨⟨j + 1, by omega, by go_num, ?_⟩, by simp [intOf]; omega⟩
        rw [hadd.out, hsn.out]
      · have hje : j = p.length := by omega
        subst hje
        rw [List.take_length]
        rw [hcat.out]
        clear hcat
        go_wp2
        go_loop [4, 7] (fun s i => ∃ j : Nat, j ≤ l.length ∧ i = .int .i64 (j : Int) ∧ s = .string ⟨(catB (l.take j)).toArray⟩) (fun _ i => l.length - (intOf i).toNat)
        case atStart => exact ⟨0, by omega, rfl, by simp [catB]⟩
        case round =>
          obtain ⟨j, hj, rfl, rfl⟩ := hrel
          by_cases hlt : j < l.length
          · obtain ⟨g, off, rfl, hg, hc⟩ := HRl.out.at_ hlt
            have h1 := hc j hlt
            clear hc
            have hz2 := HS.out _ (List.getElem_mem hlt)
            have hsn := Lib.hid (catB_snoc hlt)
            have hcl := catB_len (l.take j) 3000 (fun a ha => HS.out a (List.mem_of_mem_take ha))
            rw [List.length_take] at hcl
            have hi1 : (j : Int) < (l.length : Int) := by omega
            generalize l[j] = s at *
            generalize catB (l.take j) = L at *
            have hadd := Lib.hid (str_add L s)
            have hLs : (⟨L.toArray⟩ : ByteArray).size = L.length := by simp [ByteArray.size]
            go_wp2
            refine ⟨⟨j + 1, by omega, by go_num, ?_⟩, by simp [intOf]; omega⟩
            rw [hadd.out, hsn.out]
          · have hje : j = l.length := by omega
            subst hje
            rw [List.take_length]
            go_wp2_with fail
            refine (awake11_any _).mono ?_
            rintro e w3 ⟨rfl, hb3⟩
            go_wp2
            go_ret
            exact ⟨rfl, HB2.out.trans (hb3.mono HB2.out.size)⟩
  · have HB1 := Lib.hid hb1; clear hb1 hg
    go_wp2
    go_ret
    exact ⟨rfl, HB1.out⟩
end Go.Proofs.Ytolhjdhbcggidaa
