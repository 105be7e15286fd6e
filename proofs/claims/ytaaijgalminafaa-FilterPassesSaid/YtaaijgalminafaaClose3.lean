import Derived.Deep.SlicePairs
import Derived.Lib.SmallJoins
import Derived.Test.YtaaijgalminafaaClose
/-
  From a row's premises to the walks: arguments that are structs; slices of elements of several cells.
-/
namespace Go.Proofs.Ytaaijgalminafaa
open Go.RowKit Go.ChangeShapes Go.WideShapes Go.Deep

theorem flat_at {α : Type} {f : α → List Value} {k : Nat} (hk : ∀ a, (f a).length = k) : ∀ (l : List α) (j : Nat) (u : Value), (l.flatMap f)[j]? = some u → ∃ i r, ∃ h : i < l.length, r < k ∧ j = i * k + r ∧ (f l[i])[r]? = some u
  | [], j, u, h => by simp at h
  | a :: l, j, u, h => by
    rw [List.flatMap_cons] at h
    rcases Nat.lt_or_ge j k with hj | hj
    · rw [List.getElem?_append_left (by rw [hk]; exact hj)] at h
      exact ⟨0, j, by simp, hj, by simp, by simpa using h⟩
    · rw [List.getElem?_append_right (by rw [hk]; exact hj), hk] at h
      obtain ⟨i, r, hi, hr, e, hu⟩ := flat_at hk l _ u h
      exact ⟨i + 1, r, by simpa using hi, hr, by rw [Nat.add_mul]; omega, by simpa using hu⟩
theorem flat_len {α : Type} {f : α → List Value} {k : Nat} (hk : ∀ a, (f a).length = k) (l : List α) : (l.flatMap f).length = l.length * k := by
  induction l with
  | nil => simp
  | cons a l ih => rw [List.flatMap_cons, List.length_append, hk, ih, List.length_cons, Nat.add_mul]; omega

theorem list2 {α : Type} {l : List α} (h : l.length = 2) : ∃ a b, l = [a, b] := by
  match l, h with
  | [a, b], _ => exact ⟨a, b, rfl⟩
theorem list3 {α : Type} {l : List α} (h : l.length = 3) : ∃ a b c, l = [a, b, c] := by
  match l, h with
  | [a, b, c], _ => exact ⟨a, b, c, rfl⟩
theorem list4 {α : Type} {l : List α} (h : l.length = 4) : ∃ a b c d, l = [a, b, c, d] := by
  match l, h with
  | [a, b, c, d], _ => exact ⟨a, b, c, d, rfl⟩
theorem list5 {α : Type} {l : List α} (h : l.length = 5) : ∃ a b c d e, l = [a, b, c, d, e] := by
  match l, h with
  | [a, b, c, d, e], _ => exact ⟨a, b, c, d, e, rfl⟩

section
variable {H : Type} {enc : TypeId × Value → H} {P : Program} {W : World}
/-- A slice of elements of k cells, as a list. -/
theorem trod_rdK {α : Type} (f : α → List Value) (pr : α → Prop) {k : Nat} (hk0 : 0 < k) (hk : ∀ a, (f a).length = k) {t e : TypeId} (ht : P.underlying t = some (.slice e)) (hc : P.cellsOf e = k)
    (hel : ∀ (n : Nat) (cs : List Value) (y : DataW H × List MemPlace), DataW.trod enc P W 0 (fun _ => true) true n e cs = some y → ∃ a, cs = f a ∧ pr a)
    {fuel : Nat} {cs : List Value} {x : DataW H × List MemPlace} (hf : DataW.trod enc P W 0 (fun _ => true) true fuel t cs = some x) :
    ∃ A c, ∃ l : List α, cs = [.slice A l.length c] ∧ l.length ≤ c ∧ c ≤ maxLen ∧ Rd W W.heap.size k A l.length (l.flatMap f) ∧ ∀ a ∈ l, pr a := by
  rcases open_slice ht hf with ⟨hcs, hx⟩ | ⟨a, len, cap, m, n, D, Pl, hcs, _, hl, hm, hmm, hx, hi⟩
  · exact ⟨none, 0, [], hcs, Nat.le_refl _, Nat.zero_le _, Rd.none_, by simp⟩
  · have hmc : m = cap := by simpa using hmm
    subst hmc
    obtain ⟨l, hll, hlp⟩ := list_of (fun i (x : α) => W.cells? 0 (a.add (i * k)) k = some (f x) ∧ pr x) len (fun i hil => by
      obtain ⟨cs', h1, h2⟩ := hi i (by omega)
      rw [hc] at h1
      obtain ⟨y, rfl, hy⟩ := hel _ _ _ h2
      exact ⟨y, h1, hy⟩)
    subst hll
    refine ⟨some a, m, l, hcs, hl, hm, ⟨flat_len hk l, fun hn => ?_⟩, fun y hy => ?_⟩
    · obtain ⟨_, _, hcl⟩ := World.cells?_some (hlp 0 hn).1
      have h0 := hcl 0 hk0
      obtain ⟨hs, hb⟩ : a.spot = none ∧ a.block < W.heap.size := by
        have ha : (a.add (0 * k)).add 0 = a := by simp [Addr.add]
        rw [ha] at h0
        exact plain_of_cell (h0.trans (List.getElem?_eq_getElem (by rw [hk]; exact hk0)))
      obtain ⟨b, off, sp⟩ := a
      simp only at hs hb
      subst hs
      refine ⟨b, off, rfl, hb, fun j u hu => ?_⟩
      obtain ⟨i, r, hil, hr, rfl, hru⟩ := flat_at hk l j u hu
      obtain ⟨_, _, hcl⟩ := World.cells?_some (hlp i hil).1
      have := hcl r hr
      rw [add_plain, add_plain] at this
      rw [show off + (i * k + r) = off + i * k + r by omega, this]
      exact hru
    · obtain ⟨i, hi', rfl⟩ := List.mem_iff_getElem.1 hy
      exact (hlp i hi').2
theorem el_u8' {e : TypeId} (he : P.underlying e = some (.int .u8)) {n : Nat} {cs : List Value} {y : DataW H × List MemPlace} (hy : DataW.trod enc P W 0 (fun _ => true) true n e cs = some y) : ∃ a : Nat, cs = [.int .u8 (a : Int)] ∧ a < 256 := by
  obtain ⟨z, hz, _, hw⟩ := DataW.trod_int he hy
  have hb : 0 ≤ z ∧ z ≤ 255 := by simpa [Lit.wf, IntKind.min, IntKind.max, IntKind.signed, IntKind.bits] using hw
  exact ⟨z.toNat, by rw [Int.toNat_of_nonneg hb.1]; exact hz, by omega⟩
theorem el_u32' {e : TypeId} (he : P.underlying e = some (.int .u32)) {n : Nat} {cs : List Value} {y : DataW H × List MemPlace} (hy : DataW.trod enc P W 0 (fun _ => true) true n e cs = some y) : ∃ a : Nat, cs = [.int .u32 (a : Int)] ∧ a < 4294967296 := by
  obtain ⟨z, hz, _, hw⟩ := DataW.trod_int he hy
  have hb : 0 ≤ z ∧ z ≤ 4294967295 := by simpa [Lit.wf, IntKind.min, IntKind.max, IntKind.signed, IntKind.bits] using hw
  exact ⟨z.toNat, by rw [Int.toNat_of_nonneg hb.1]; exact hz, by omega⟩
theorem el_bool' {e : TypeId} (he : P.underlying e = some .bool) {n : Nat} {cs : List Value} {y : DataW H × List MemPlace} (hy : DataW.trod enc P W 0 (fun _ => true) true n e cs = some y) : ∃ b : Bool, cs = [.bool b] := by
  obtain ⟨z, hz, _⟩ := DataW.trod_bool he hy
  exact ⟨z, hz⟩
theorem el_str' {e : TypeId} (he : P.underlying e = some .string) {n : Nat} {cs : List Value} {y : DataW H × List MemPlace} (hy : DataW.trod enc P W 0 (fun _ => true) true n e cs = some y) : ∃ a : ByteArray, cs = [.string a] ∧ a.size ≤ maxLen := by
  obtain ⟨s, hs, _, hm⟩ := DataW.trod_string he hy
  exact ⟨s, hs, hm⟩
/-- An argument that is a struct: the value, and its cells' reading. -/
theorem open_struct {r : Reach} {b0 : Nat} {t : TypeId} {fs : Array Field} {v : Value} {d : DataW H} {p : List MemPlace} (hs : P.underlying t = some (.struct fs)) (hv : Value.okWide P W r b0 t v) (h : DataW.Trod enc P W 0 (fun _ => true) true t v d p) :
    ∃ cs : List Value, v = .agg cs.toArray ∧ cs.length = P.cellsOf t ∧ ∃ fuel, DataW.trod enc P W 0 (fun _ => true) true fuel t cs = some (d, p) := by
  obtain ⟨cs, rfl, hsz⟩ := okWide_struct hs hv
  obtain ⟨fuel, hf⟩ := h
  exact ⟨cs.toList, by simp, by simpa using hsz, fuel, hf⟩
end
end Go.Proofs.Ytaaijgalminafaa
