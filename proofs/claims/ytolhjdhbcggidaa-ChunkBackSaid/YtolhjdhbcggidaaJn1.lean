/-
  Layer 11: what a join answers, in plain words.
-/
import Derived.Test.YtolhjdhbcggidaaCk7
namespace Go.Proofs.Ytolhjdhbcggidaa
open Go.RowKit

/-- How long texts are. -/
def szs (l : List ByteArray) : List Int := l.map fun p => (p.size : Int)
def badS (sz : List Int) : Bool := sz.any fun x => decide (x < 0) || decide (2048 < x)
/-- The texts of pieces, of which there are as many as there must be. -/
def grp : List Int → List ByteArray → List ByteArray
  | [], _ => []
  | x :: xs, ps => ⟨(catB (ps.take (nPc x.toNat))).toArray⟩ :: grp xs (ps.drop (nPc x.toNat))
def jnE (l : List ByteArray) (sz : List Int) : Int := if badS sz then 4 else if lensL sz = szs l then 0 else 16
def jnL (l : List ByteArray) (sz : List Int) : List ByteArray := if badS sz then [] else if lensL sz = szs l then grp sz l else []
theorem szs_len (l : List ByteArray) : (szs l).length = l.length := by simp [szs]
theorem szs_take (l : List ByteArray) (k : Nat) : szs (l.take k) = (szs l).take k := by simp [szs]
theorem szs_drop (l : List ByteArray) (k : Nat) : szs (l.drop k) = (szs l).drop k := by simp [szs]
theorem jn_bad {l : List ByteArray} {sz : List Int} (h : badS sz = true) : jnE l sz = 4 ∧ jnL l sz = [] := by simp [jnE, jnL, h]
theorem jn_ok {l : List ByteArray} {sz : List Int} (h : badS sz = false) (he : lensL sz = szs l) : jnE l sz = 0 ∧ jnL l sz = grp sz l := by simp [jnE, jnL, h, he]
theorem jn_no {l : List ByteArray} {sz : List Int} (h : badS sz = false) (he : lensL sz ≠ szs l) : jnE l sz = 16 ∧ jnL l sz = [] := by simp [jnE, jnL, h, he]
theorem badS_no {sz : List Int} (h : badS sz = false) : ∀ x ∈ sz, 0 ≤ x ∧ x ≤ 2048 := by
  intro x hx
  unfold badS at h
  rw [List.any_eq_false] at h
  have := h x hx
  simp at this
  omega
theorem badS_yes {sz : List Int} {x : Int} (hx : x ∈ sz) (h : x < 0 ∨ 2048 < x) : badS sz = true := by
  unfold badS
  rw [List.any_eq_true]
  exact ⟨x, hx, by simpa using h⟩
theorem badS_mk {sz : List Int} (h : ∀ x ∈ sz, 0 ≤ x ∧ x ≤ 2048) : badS sz = false := by
  unfold badS
  rw [List.any_eq_false]
  intro x hx
  have := h x hx
  simp
  omega
theorem lensL_app (a b : List Int) : lensL (a ++ b) = lensL a ++ lensL b := by simp [lensL]
theorem cntL_app (a b : List Int) : cntL (a ++ b) = cntL a + cntL b := by simp [cntL]
theorem cntL_one (x : Int) : cntL [x] = nPc x.toNat := by simp [cntL]
theorem grp_snoc (x : Int) : ∀ (xs : List Int) (ps : List ByteArray), grp (xs ++ [x]) ps = grp xs ps ++ [⟨(catB ((ps.drop (cntL xs)).take (nPc x.toNat))).toArray⟩]
  | [], ps => by simp [grp, cntL]
  | y :: ys, ps => by
    have e : cntL (y :: ys) = nPc y.toNat + cntL ys := by simp [cntL]
    simp only [List.cons_append, grp, grp_snoc x ys, List.drop_drop, e]
theorem grp_len : ∀ (xs : List Int) (ps : List ByteArray), (grp xs ps).length = xs.length
  | [], _ => rfl
  | x :: xs, ps => by simp [grp, grp_len xs]
/-- What the lengths say at the place of one size. -/
theorem lensL_parts {sz : List Int} {j : Nat} (h : j < sz.length) : lensL sz = lensL (sz.take j) ++ (lens1 sz[j] ++ lensL (sz.drop (j + 1))) := by
  have e : sz = sz.take j ++ ([sz[j]] ++ sz.drop (j + 1)) := by simp
  conv => lhs; rw [e]
  rw [lensL_app, lensL_app]
  simp [lensL]
theorem lensL_get {sz : List Int} {j i : Nat} (h : j < sz.length) (hi : i < nPc sz[j].toNat) : (lensL sz)[cntL (sz.take j) + i]? = some (min 256 (sz[j] - 256 * (i : Int))) := by
  rw [lensL_parts h, List.getElem?_append_right (by rw [lensL_len]; omega), lensL_len, Nat.add_sub_cancel_left, List.getElem?_append_left (by rw [lens1_len]; exact hi)]
  unfold lens1 lensTo
  rw [List.getElem?_map, List.getElem?_range hi]
  rfl
theorem lens_mid {sz : List Int} {j : Nat} (h : j < sz.length) : ((lensL sz).drop (cntL (sz.take j))).take (nPc sz[j].toNat) = lens1 sz[j] := by
  rw [lensL_parts h, ← lensL_len (sz.take j), List.drop_left, List.take_left' (lens1_len _)]
theorem lens_end {sz : List Int} {j : Nat} (h : j < sz.length) : cntL (sz.take (j + 1)) ≤ (lensL sz).length := by
  have h1 := congrArg List.length (lensL_parts h)
  rw [List.length_append, List.length_append, lens1_len, lensL_len, lensL_len] at h1
  rw [cntL_snoc h]
  rw [lensL_len]
  omega
/-- The first pieces of one size have as many bytes as there must be. -/
theorem catB_sz (ps : List ByteArray) : ((catB ps).length : Int) = (szs ps).sum := by
  induction ps with
  | nil => rfl
  | cons a l ih =>
    have h1 : (catB (a :: l)).length = a.size + (catB l).length := by simp [catB]
    have h2 : (szs (a :: l)).sum = (a.size : Int) + (szs l).sum := by simp [szs]
    rw [h1, h2, ← ih]; omega
theorem lensTo_sum (x : Int) (h0 : 0 ≤ x) : ∀ n, n ≤ nPc x.toNat → (lensTo x n).sum = min (256 * (n : Int)) x
  | 0, _ => by simp [lensTo]; omega
  | n + 1, h => by
    rw [lensTo_succ, List.sum_append, lensTo_sum x h0 n (by omega)]
    simp
    unfold nPc at h
    omega
theorem catB_lensTo {ps : List ByteArray} {x : Int} {n : Nat} (h0 : 0 ≤ x) (hn : n ≤ nPc x.toNat) (h : szs ps = lensTo x n) : (catB ps).length = min (256 * n) x.toNat := by
  have h1 := catB_sz ps
  rw [h, lensTo_sum x h0 n hn] at h1
  omega
theorem szs_snoc {l : List ByteArray} {k : Nat} (h : k < l.length) : szs (l.take (k + 1)) = szs (l.take k) ++ [(l[k].size : Int)] := by
  rw [List.take_succ_eq_append_getElem h]; unfold szs; rw [List.map_append]; rfl
/-- A step of the walk through the pieces of one size. -/
theorem piece_step {l : List ByteArray} {k i : Nat} {x : Int} (h : k + i < l.length) (hs : szs ((l.drop k).take i) = lensTo x i) (he : (l[k + i].size : Int) = min 256 (x - 256 * (i : Int))) : szs ((l.drop k).take (i + 1)) = lensTo x (i + 1) := by
  have h' : i < (l.drop k).length := by rw [List.length_drop]; omega
  have e : (l.drop k)[i] = l[k + i] := by simp
  rw [szs_snoc h', hs, e, he, lensTo_succ]
theorem cat_step {l : List ByteArray} {k i : Nat} (h : k + i < l.length) : catB ((l.drop k).take (i + 1)) = catB ((l.drop k).take i) ++ l[k + i].data.toList := by
  have h' : i < (l.drop k).length := by rw [List.length_drop]; omega
  have e : (l.drop k)[i] = l[k + i] := by simp
  rw [catB_snoc h', e]
/-- The pieces do not fit: too few, or one is not as long as it must be. -/
theorem few_no {l : List ByteArray} {sz : List Int} {j i : Nat} (h : j < sz.length) (hi : i < nPc sz[j].toNat) (hl : l.length ≤ cntL (sz.take j) + i) : lensL sz ≠ szs l := by
  intro e
  have h1 := lensL_get h hi
  rw [e, List.getElem?_eq_none (by rw [szs_len]; exact hl)] at h1
  cases h1
theorem long_no {l : List ByteArray} {sz : List Int} {j i : Nat} (h : j < sz.length) (hi : i < nPc sz[j].toNat) (hl : cntL (sz.take j) + i < l.length) (hne : (l[cntL (sz.take j) + i].size : Int) ≠ min 256 (sz[j] - 256 * (i : Int))) : lensL sz ≠ szs l := by
  intro e
  have h1 := lensL_get h hi
  rw [e] at h1
  unfold szs at h1
  rw [List.getElem?_map, List.getElem?_eq_getElem hl] at h1
  simp at h1
  exact hne h1
/-- All pieces of one size are there. -/
theorem size_done {l : List ByteArray} {sz : List Int} {j : Nat} (h : j < sz.length) (hk : szs (l.take (cntL (sz.take j))) = lensL (sz.take j)) (hs : szs ((l.drop (cntL (sz.take j))).take (nPc sz[j].toNat)) = lensTo sz[j] (nPc sz[j].toNat)) :
    szs (l.take (cntL (sz.take (j + 1)))) = lensL (sz.take (j + 1)) := by
  rw [cntL_snoc h, lensL_snoc h, List.take_add]
  unfold szs at *
  rw [List.map_append, hk, hs]
  rfl
theorem take_all_no {l : List ByteArray} {sz : List Int} (h : cntL sz < l.length) : lensL sz ≠ szs l := by
  intro e
  have := congrArg List.length e
  rw [lensL_len, szs_len] at this
  omega
/-- What is cut off the texts one behind the other, where the pieces are as long as they must be. -/
theorem cut_at {l : List ByteArray} {sz : List Int} {j : Nat} (he : lensL sz = szs l) (h : j < sz.length) (h0 : 0 ≤ sz[j]) :
    (catB ((l.drop (cntL (sz.take j))).take (nPc sz[j].toNat))).length = sz[j].toNat ∧ catB (l.drop (cntL (sz.take j))) = catB ((l.drop (cntL (sz.take j))).take (nPc sz[j].toNat)) ++ catB (l.drop (cntL (sz.take (j + 1)))) := by
  constructor
  · rw [catB_lensTo h0 (Nat.le_refl _) (by rw [szs_take, szs_drop, ← he, lens_mid h]; rfl)]
    unfold nPc; omega
  · rw [cntL_snoc h, ← List.drop_drop, ← catB_app, List.take_append_drop]
end Go.Proofs.Ytolhjdhbcggidaa
