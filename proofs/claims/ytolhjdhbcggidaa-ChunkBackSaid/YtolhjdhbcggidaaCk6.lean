/-
  Layer 11: awake: what the chapter's example says.
-/
import Derived.Test.YtolhjdhbcggidaaCk4
import Derived.Test.YtolhjdhbcggidaaCk5
import Derived.Test.YtolhjdhbcggidaaSl
namespace Go.Proofs.Ytolhjdhbcggidaa
open Go.RowKit

theorem pcs_300 {s : ByteArray} (h : s.size = 300) : splitL [s] = [pc s 0, pc s 1] ∧ (pc s 0).size = 256 ∧ (pc s 1).size = 44 := by
  refine ⟨?_, by rw [pc_size]; omega, by rw [pc_size]; omega⟩
  have : nPc s.size = 2 := by unfold nPc; omega
  simp [splitL, pcs, this, pcsTo, List.range_succ]
set_option maxRecDepth 100000 in
set_option maxHeartbeats 1600000 in
theorem awake11_any (w : World) : Calls Try.prog 25 #[] w (RetB true w) := by
  go_enter Try.func25, Try.ntmps25
  go_wp2_with fail
  refine (Try.strings_Repeat ⟨#[97]⟩ 300 w (by omega) (by decide)).mono ?_
  rintro e w1 ⟨rfl, hb1⟩
  have hs : (⟨(Lib.repeatL (⟨#[97]⟩ : ByteArray).data.toList 300).toArray⟩ : ByteArray).size = 300 := by decide
  generalize (⟨(Lib.repeatL (⟨#[97]⟩ : ByteArray).data.toList 300).toArray⟩ : ByteArray) = s at *
  obtain ⟨h1, h2, h3⟩ := pcs_300 hs
  have hR1 := Rd.new w1 #[.string s] 9 (size := 1) (n := 1) (by simp)
  have Hs := Lib.hid hs; have H1 := Lib.hid h1; clear hs h1
  have hB1 : Below w.heap.size w (w1.alloc (.cells #[.string s] 9)) := hb1.alloc hb1.size _
  have hR1' : Rd (w1.alloc (.cells #[.string s] 9)) (w1.alloc (.cells #[.string s] 9)).heap.size 1 (some ⟨w1.heap.size, 0, none⟩) [s].length (strs [s]) := by simpa [strs] using hR1
  have HR1 := Lib.hid hR1'; have HB1 := Lib.hid hB1
  clear hR1 hR1' hB1 hb1
  go_wp2_with fail
  refine (split_any [s] (some ⟨w1.heap.size, 0, none⟩) 1 _ HR1.out (by simp) (by intro a ha; simp at ha; subst ha; have := Hs.out; omega)).mono ?_
  rw [H1.out]
  rintro e w2 ⟨A, n, c, rfl, hn, hc, hR2, hb2⟩
  have hlen := hR2.len1
  simp [strs] at hlen
  subst hlen
  have hB2 := HB1.out.trans (hb2.mono HB1.out.size)
  obtain ⟨b, off, rfl, hbl, hcc⟩ := Rd.at_ (f := Value.string) (l := [pc s 0, pc s 1]) hR2 (k := 0) (by simp)
  have k0 := hcc 0 (by simp)
  have k1 := hcc 1 (by simp)
  simp only [List.getElem_cons_zero, List.getElem_cons_succ, Nat.add_zero] at k0 k1
  have HB2 := Lib.hid hB2; clear hB2 hcc hR2 hb2 HB1 HR1
  generalize pc s 0 = p0 at *
  generalize pc s 1 = p1 at *
  have z0 : ((p0.size : Int) == 256) = true := by rw [h2]; rfl
  have z1 : ((p1.size : Int) == 44) = true := by rw [h3]; rfl
  have hR4 := Rd.new w2 #[.int .i64 0, .int .i64 512] 3 (size := 1) (n := 2) (by simp)
  have HR4 := Lib.hid hR4; clear hR4
  go_wp2_with fail
  refine (count_any [0, 512] (some ⟨w2.heap.size, 0, none⟩) 2 _ (by simpa [ints] using HR4.out) (by simp) (by intro x hx; simp at hx; omega)).mono ?_
  rintro e w3 ⟨rfl, hb3⟩
  have hc2 : cntL [0, 512] = 2 := by decide
  rw [hc2]
  have hB3 : Below w.heap.size w w3 := (HB2.out.alloc HB2.out.size _).trans (hb3.mono (by have := HB2.out.size; simp; omega))
  clear hc2 hb3
  go_wp2
  go_ret
  exact ⟨rfl, hB3⟩
end Go.Proofs.Ytolhjdhbcggidaa
