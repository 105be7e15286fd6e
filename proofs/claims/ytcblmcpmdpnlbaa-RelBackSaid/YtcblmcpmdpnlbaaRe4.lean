/-
  Layer 8: columns in memory; IndexFunc and ContainsFunc of a column's name.
-/
import Derived.Test.YtcblmcpmdpnlbaaRe3
namespace Go.Proofs.Ytcblmcpmdpnlbaa
open Go.RowKit

structure Col where
  name : ByteArray
  type : Nat
  key : Bool
def Col.cells (c : Col) : List Value := [.string c.name, .int .u8 (c.type : Int), .bool c.key]
def Col.v (c : Col) : Value := .agg #[.string c.name, .int .u8 (c.type : Int), .bool c.key]
/-- The cells of columns. -/
def cols (l : List Col) : List Value := l.flatMap Col.cells
theorem cols_len (l : List Col) : (cols l).length = l.length * 3 := by
  induction l with
  | nil => rfl
  | cons c r ih =>
    have : cols (c :: r) = c.cells ++ cols r := rfl
    rw [this, List.length_append, ih]; simp [Col.cells]; omega
theorem cols_at (l : List Col) : ∀ (j : Nat) (h : j < l.length) (i : Nat), i < 3 → (cols l)[j * 3 + i]? = (l[j]).cells[i]? := by
  induction l with
  | nil => intro j h; simp at h
  | cons c r ih =>
    intro j h i hi
    have e : cols (c :: r) = c.cells ++ cols r := rfl
    rw [e]
    cases j with
    | zero => rw [List.getElem?_append_left (by simp [Col.cells]; omega)]; simp
    | succ j =>
      rw [List.getElem?_append_right (by simp [Col.cells]; omega)]
      have : (j + 1) * 3 + i - c.cells.length = j * 3 + i := by simp [Col.cells]; omega
      rw [this, ih j (by simpa using h) i hi]; simp
theorem Rd.col {w : World} {B n : Nat} {A : Option Addr} {l : List Col} (h : Rd w B 3 A n (cols l)) {j : Nat} (hj : j < l.length) :
    ∃ b off, A = some ⟨b, off, none⟩ ∧ b < B ∧ ∀ j (_ : j < l.length), w.cell? ⟨b, off + j * 3, none⟩ = some (.string l[j].name) ∧ w.cell? ⟨b, off + j * 3 + 1, none⟩ = some (.int .u8 (l[j].type : Int)) ∧ w.cell? ⟨b, off + j * 3 + 2, none⟩ = some (.bool l[j].key) := by
  have hn : l.length * 3 = n * 3 := by rw [← cols_len]; exact h.1
  obtain ⟨b, off, e, hb, hc⟩ := h.2 (by omega)
  refine ⟨b, off, e, hb, fun j hj => ⟨?_, ?_, ?_⟩⟩
  · have := hc (j * 3 + 0) _ (by rw [cols_at l j hj 0 (by omega)]; rfl)
    simpa using this
  · have := hc (j * 3 + 1) _ (by rw [cols_at l j hj 1 (by omega)]; rfl)
    simpa [Nat.add_assoc] using this
  · have := hc (j * 3 + 2) _ (by rw [cols_at l j hj 2 (by omega)]; rfl)
    simpa [Nat.add_assoc] using this

/-- column$1: has a column the name that lies at g? -/
theorem sameName_any (o : Col) (g : Nat) (s : ByteArray) (w : World) (hg : w.cell? ⟨g, 0, none⟩ = some (.string s)) :
    Calls Try.prog 70 #[o.v, .pointer (some ⟨g, 0, none⟩)] w (RetB (o.name.toList == s.toList) w) := by
  have hg2 : (w.alloc (.cells #[.string o.name, .int .u8 (o.type : Int), .bool o.key] 82)).cell? ⟨g, 0, none⟩ = some (.string s) := by
    rw [World.cell?_alloc_lt _ _ _ (World.block_lt_of_cell? w _ hg)]; exact hg
  go_enter Try.func70, Try.ntmps70
  unfold Col.v
  go_wp2
  go_ret
  exact RetB.mk' rfl ((Below.refl _ _).alloc (Nat.le_refl _) _)
/-- Where the first column of that name stands, or -1. -/
def ixOf (s : ByteArray) : List Col → Nat → Int
  | [], _ => -1
  | c :: r, k => if (c.name.toList == s.toList) = true then (k : Int) else ixOf s r (k + 1)
theorem ixOf_cons (s : ByteArray) (c : Col) (r : List Col) (k : Nat) : ixOf s (c :: r) k = if (c.name.toList == s.toList) = true then (k : Int) else ixOf s r (k + 1) := rfl
def hasName (s : ByteArray) (l : List Col) : Bool := l.any fun c => c.name.toList == s.toList
theorem ixOf_has (s : ByteArray) : ∀ (l : List Col) (k : Nat), decide ((0 : Int) ≤ ixOf s l k) = hasName s l
  | [], _ => by simp [ixOf, hasName]
  | c :: r, k => by
    have ih := ixOf_has s r (k + 1)
    unfold ixOf
    by_cases h : (c.name.toList == s.toList) = true
    · rw [if_pos h]; unfold hasName; rw [List.any_cons, h]; simp
    · rw [if_neg h, ih]; unfold hasName; rw [List.any_cons]
      rw [Bool.not_eq_true] at h
      rw [h, Bool.false_or]

set_option maxRecDepth 100000 in
/-- slices.IndexFunc of a column's name. -/
theorem indexName_any (A : Option Addr) (c : Nat) (l : List Col) (g : Nat) (s : ByteArray) (w : World) (hR : Rd w w.heap.size 3 A l.length (cols l)) (hl : l.length ≤ maxLen) (hg : w.cell? ⟨g, 0, none⟩ = some (.string s)) :
    Calls Try.prog 71 #[.slice A l.length c, .func (.func 70) #[] #[.pointer (some ⟨g, 0, none⟩)]] w (RetI .i64 (ixOf s l 0) w) := by
  have hgl := World.block_lt_of_cell? w _ hg
  simp only at hgl
  have hmax : l.length ≤ 9223372036854775807 := hl
  have HR := Lib.hid hR; clear hR
  go_enter Try.func71, Try.ntmps71
  go_wp2
  go_loopw [8] (fun k wr => ∃ j : Nat, k = .int .i64 (j : Int) ∧ j ≤ l.length ∧ Hid (ixOf s (l.drop j) j = ixOf s l 0) ∧ Below w.heap.size w wr) (fun k _ => l.length - (intOf k).toNat)
  case atStart => exact ⟨0, rfl, by omega, rfl, Below.refl _ _⟩
  case round =>
    obtain ⟨j, rfl, hj, Ho, hb⟩ := hrel
    by_cases hlt : j < l.length
    · obtain ⟨b, off, rfl, hbl, hc⟩ := (HR.out.below hb (Nat.le_refl _)).col hlt
      obtain ⟨k0, k1, k2⟩ := hc j hlt
      clear hc
      have ho := Ho.out
      rw [List.drop_eq_getElem_cons hlt] at ho
      have hgr : wr.cell? ⟨g, 0, none⟩ = some (.string s) := by rw [hb.cell hgl]; exact hg
      generalize l[j] = o at *
      have hi : (j : Int) < (l.length : Int) := by omega
      have Ho := Lib.hid ho; clear ho
      go_wp2_with fail
      refine (sameName_any o g s _ hgr).mono ?_
      rintro e w2 ⟨rfl, hb2⟩
      have hb3 := step_below hb hb2
      by_cases hq : (o.name.toList == s.toList) = true
      · have ho := Ho.out
        rw [ixOf_cons, if_pos hq] at ho
        rw [hq]
        have Hx : Hid ((j : Int) = ixOf s l 0) := ho
        clear ho hq k0 k1 k2 hgr Ho
        go_wp2
        go_ret
        exact RetI.mk' Hx.out hb3
      · have ho := Ho.out
        rw [ixOf_cons, if_neg hq] at ho
        rw [Bool.not_eq_true] at hq
        rw [hq]
        have Hx := Lib.hid ho
        clear ho hq k0 k1 k2 hgr Ho
        go_wp2
        go_roundw
        case rel => exact ⟨j + 1, by go_num, by omega, Hx, hb3⟩
        case measure => simp [intOf]; omega
    · have ho := Ho.out
      rw [List.drop_eq_nil_of_le (by omega)] at ho
      have Hx : Hid ((-1 : Int) = ixOf s l 0) := ho
      clear ho Ho
      go_wp2
      go_ret
      exact RetI.mk' Hx.out hb
set_option maxRecDepth 100000 in
/-- slices.ContainsFunc of a column's name. -/
theorem hasName_any (A : Option Addr) (c : Nat) (l : List Col) (g : Nat) (s : ByteArray) (w : World) (hR : Rd w w.heap.size 3 A l.length (cols l)) (hl : l.length ≤ maxLen) (hg : w.cell? ⟨g, 0, none⟩ = some (.string s)) :
    Calls Try.prog 69 #[.slice A l.length c, .func (.func 70) #[] #[.pointer (some ⟨g, 0, none⟩)]] w (RetB (hasName s l) w) := by
  have hx := ixOf_has s l 0
  have Hx := Lib.hid hx; clear hx
  go_enter Try.func69, Try.ntmps69
  go_wp2_with fail
  refine (indexName_any A c l g s _ hR hl hg).mono ?_
  rintro e w2 ⟨rfl, hb2⟩
  go_wp2
  go_ret
  exact RetB.mk' Hx.out hb2
end Go.Proofs.Ytcblmcpmdpnlbaa
