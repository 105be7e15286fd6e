/-
  From a row's premises to the walks: an argument that is an array of two; a slice of strings or of numbers as a list.
-/
import Derived.Test.YtolhjdhbcggidaaCl
namespace Go.Proofs.Ytolhjdhbcggidaa
open Go.RowKit Go.ChangeShapes Go.WideShapes Go.Deep

section
variable {H : Type} {enc : TypeId × Value → H} {P : Program} {W : World}

/-- An argument that is an array of two one-cell elements. -/
theorem open_two {α : Type} (f : α → Value) (pr : α → Prop) {r : Reach} {b0 : Nat} {t e : TypeId} {v : Value} {d : DataW H} {p : List MemPlace} (ht : P.underlying t = some (.array 2 e)) (hc : P.cellsOf e = 1) (hct : P.cellsOf t = 2)
    (hel : ∀ (n : Nat) (V : Value) (y : DataW H × List MemPlace), DataW.trod enc P W 0 (fun _ => true) true n e [V] = some y → ∃ a, V = f a ∧ pr a)
    (hok : Value.okWide P W r b0 t v) (h : DataW.Trod enc P W 0 (fun _ => true) true t v d p) :
    ∃ a b, v = .agg #[f a, f b] ∧ pr a ∧ pr b := by
  simp only [Value.okWide, ht] at hok
  obtain ⟨cs, rfl, hcs, _⟩ := hok
  rw [hct] at hcs
  obtain ⟨l⟩ := cs
  obtain ⟨x, y, rfl⟩ : ∃ x y, l = [x, y] := by
    match l, hcs with
    | [x, y], _ => exact ⟨x, y, rfl⟩
  obtain ⟨fuel, hf⟩ := h
  obtain ⟨xs, m, _, _, _, hl, hx⟩ := DataW.trod_array ht hf
  rw [hc] at hx
  have h0 := hx 0 (by omega)
  have h1 := hx 1 (by omega)
  obtain ⟨y0, hy0⟩ : ∃ y, xs[0]? = some y := ⟨_, List.getElem?_eq_getElem (by omega)⟩
  obtain ⟨y1, hy1⟩ : ∃ y, xs[1]? = some y := ⟨_, List.getElem?_eq_getElem (by omega)⟩
  rw [hy0] at h0
  rw [hy1] at h1
  obtain ⟨a, rfl, ha⟩ := hel _ _ _ (by simpa [Value.cells] using h0)
  obtain ⟨b, rfl, hb⟩ := hel _ _ _ (by simpa [Value.cells] using h1)
  exact ⟨a, b, rfl, ha, hb⟩

theorem el_str {e : TypeId} (he : P.underlying e = some .string) : ∀ (n : Nat) (V : Value) (y : DataW H × List MemPlace), DataW.trod enc P W 0 (fun _ => true) true n e [V] = some y → ∃ a : ByteArray, V = .string a ∧ a.size ≤ maxLen := by
  intro n V y hy
  obtain ⟨s, hs, _, hm⟩ := DataW.trod_string he hy
  exact ⟨s, by simpa using hs, hm⟩
theorem el_u64 {e : TypeId} (he : P.underlying e = some (.int .u64)) : ∀ (n : Nat) (V : Value) (y : DataW H × List MemPlace), DataW.trod enc P W 0 (fun _ => true) true n e [V] = some y → ∃ a : Nat, V = .int .u64 (a : Int) ∧ a < 18446744073709551616 := by
  intro n V y hy
  obtain ⟨z, hz, _, hw⟩ := DataW.trod_int he hy
  have hb : 0 ≤ z ∧ z ≤ 18446744073709551615 := by simpa [Lit.wf, IntKind.min, IntKind.max, IntKind.signed, IntKind.bits] using hw
  exact ⟨z.toNat, by rw [Int.toNat_of_nonneg hb.1]; simpa using hz, by omega⟩
theorem el_i64 {e : TypeId} (he : P.underlying e = some (.int .i64)) : ∀ (n : Nat) (V : Value) (y : DataW H × List MemPlace), DataW.trod enc P W 0 (fun _ => true) true n e [V] = some y → ∃ a : Int, V = .int .i64 a ∧ -9223372036854775808 ≤ a ∧ a ≤ 9223372036854775807 := by
  intro n V y hy
  obtain ⟨z, hz, _, hw⟩ := DataW.trod_int he hy
  have hb : -9223372036854775808 ≤ z ∧ z ≤ 9223372036854775807 := by simpa [Lit.wf, IntKind.min, IntKind.max, IntKind.signed, IntKind.bits] using hw
  exact ⟨z, by simpa using hz, hb⟩
theorem open_strs {r : Reach} {b0 : Nat} {t e : TypeId} {v : Value} {d : DataW H} {p : List MemPlace} (ht : P.underlying t = some (.slice e)) (he : P.underlying e = some .string) (hc : P.cellsOf e = 1)
    (hok : Value.okWide P W r b0 t v) (h : DataW.Trod enc P W 0 (fun _ => true) true t v d p) :
    ∃ A c, ∃ l : List ByteArray, v = .slice A l.length c ∧ l.length ≤ c ∧ c ≤ maxLen ∧ Rd W W.heap.size 1 A l.length (strs l) ∧ ∀ a ∈ l, a.size ≤ maxLen := by
  obtain ⟨A, n, c, l, rfl, h1, h2, rfl, h4, h5⟩ := open_rd Value.string (fun a => a.size ≤ maxLen) ht hc (el_str he) hok h
  exact ⟨A, c, l, rfl, h1, h2, h4, h5⟩
theorem open_ints {r : Reach} {b0 : Nat} {t e : TypeId} {v : Value} {d : DataW H} {p : List MemPlace} (ht : P.underlying t = some (.slice e)) (he : P.underlying e = some (.int .i64)) (hc : P.cellsOf e = 1)
    (hok : Value.okWide P W r b0 t v) (h : DataW.Trod enc P W 0 (fun _ => true) true t v d p) :
    ∃ A c, ∃ l : List Int, v = .slice A l.length c ∧ l.length ≤ c ∧ c ≤ maxLen ∧ Rd W W.heap.size 1 A l.length (ints l) ∧ ∀ a ∈ l, -9223372036854775808 ≤ a ∧ a ≤ 9223372036854775807 := by
  obtain ⟨A, n, c, l, rfl, h1, h2, rfl, h4, h5⟩ := open_rd (Value.int .i64) (fun a => -9223372036854775808 ≤ a ∧ a ≤ 9223372036854775807) ht hc (el_i64 he) hok h
  exact ⟨A, c, l, rfl, h1, h2, h4, h5⟩
/-- .. an argument that is a slice of bytes; nil has no room. -/
theorem open_bytes2 {r : Reach} {b0 : Nat} {t e : TypeId} {v : Value} {d : DataW H} {p : List MemPlace} (ht : P.underlying t = some (.slice e)) (he : P.underlying e = some (.int .u8)) (hc : P.cellsOf e = 1)
    (hok : Value.okWide P W r b0 t v) (h : DataW.Trod enc P W 0 (fun _ => true) true t v d p) :
    ∃ A c, ∃ l : List UInt8, v = .slice A l.length c ∧ l.length ≤ c ∧ c ≤ maxLen ∧ Rd W W.heap.size 1 A l.length (byt l) ∧ (A = none → c = 0) := by
  obtain ⟨a0, len, cap, rfl⟩ := okWide_slice ht hok
  obtain ⟨A, c, l, e1, h1, h2, h3⟩ := open_bytes ht he hc hok h
  refine ⟨A, c, l, e1, h1, h2, h3, fun hA => ?_⟩
  obtain ⟨fuel, hf⟩ := h
  rcases open_slice1 ht hc hf with ⟨hcs, _⟩ | ⟨a, len', cap', _, _, _, _, _, hcs, _⟩
  · have e2 : Value.slice a0 len cap = .slice none 0 0 := by simpa [Value.cells] using hcs
    rw [e2] at e1
    injection e1 with _ _ e1
    exact e1.symm
  · have e2 : Value.slice a0 len cap = .slice (some a) len' cap' := by simpa [Value.cells] using hcs
    rw [e2] at e1
    injection e1 with e1 _ _
    rw [hA] at e1; cases e1
end
end Go.Proofs.Ytolhjdhbcggidaa
