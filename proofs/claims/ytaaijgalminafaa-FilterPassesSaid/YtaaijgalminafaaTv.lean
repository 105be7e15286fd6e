import Derived.Handed
import Derived.Test.YtaaijgalminafaaFm
import Derived.Test.YtaaijgalminafaaPa1
import Derived.Test.YtaaijgalminafaaFi2
import Derived.Test.YtaaijgalminafaaClose3
import Derived.Test.YtaaijgalminafaaFt
import Derived.Test.YtaaijgalminafaaGt
/-
  Layer 24: what passes twice, and through two filters: the plain law.
-/
namespace Go.Proofs.Ytaaijgalminafaa
open Go.RowKit

theorem band_nat (a b : Nat) (ha : a < 256) (hb : b < 256) : bits .and .u8 (a : Int) (b : Int) = ((a &&& b : Nat) : Int) := by
  rw [band_def]
  have h1 : ((BitVec.ofInt 8 (a : Int)) &&& (BitVec.ofInt 8 (b : Int))).toNat = a &&& b := by
    rw [BitVec.toNat_and, BitVec.ofInt_natCast, BitVec.ofInt_natCast, BitVec.toNat_ofNat, BitVec.toNat_ofNat, Nat.mod_eq_of_lt (by omega), Nat.mod_eq_of_lt (by omega)]
  rw [h1, IntKind.wrap_u8]
  have h2 : a &&& b ≤ a := Nat.and_le_left
  omega
theorem bit_and (a b i : Nat) : (((a &&& b : Nat) : Int) / 2 ^ i % 2 = 1) ↔ ((a : Int) / 2 ^ i % 2 = 1 ∧ (b : Int) / 2 ^ i % 2 = 1) := by
  have h := Nat.testBit_and a b i
  rw [Nat.testBit_eq_decide_div_mod_eq, Nat.testBit_eq_decide_div_mod_eq, Nat.testBit_eq_decide_div_mod_eq] at h
  have e : ∀ n : Nat, ((n : Int) / 2 ^ i % 2 = 1) ↔ n / 2 ^ i % 2 = 1 := fun n => by
    have : ((n : Int) / 2 ^ i % 2) = ((n / 2 ^ i % 2 : Nat) : Int) := by push_cast; rfl
    rw [this]; omega
  rw [e, e, e]
  have := decide_eq_decide.1 (h.trans (Bool.decide_and _ _).symm)
  exact this
theorem AndIs.kind {x y r : Fl} (h : AndIs x y r) (hx : FlOk x) (hy : FlOk y) (kd : Int) : r.kind kd = (x.kind kd && y.kind kd) := by
  have hk := h.kinds
  obtain ⟨a, ha⟩ := Int.eq_ofNat_of_zero_le hx.k0
  obtain ⟨b, hb⟩ := Int.eq_ofNat_of_zero_le hy.k0
  have h1 := hx.k1; have h2 := hy.k1
  rw [ha] at h1; rw [hb] at h2
  rw [ha, hb, band_nat a b (by omega) (by omega)] at hk
  unfold Fl.kind
  rw [hk, ha, hb, Bool.eq_iff_iff]
  simp only [Bool.and_eq_true, decide_eq_true_iff]
  rw [bit_and]
  constructor
  · rintro ⟨h1, h2, h3⟩; exact ⟨⟨h1, h2⟩, h1, h3⟩
  · rintro ⟨⟨h1, h2⟩, _, h3⟩; exact ⟨h1, h2, h3⟩
theorem FlOk.and {x y r : Fl} (h : AndIs x y r) (hx : FlOk x) (hy : FlOk y) : 0 ≤ r.kinds ∧ r.kinds < 256 := by
  obtain ⟨a, ha⟩ := Int.eq_ofNat_of_zero_le hx.k0
  obtain ⟨b, hb⟩ := Int.eq_ofNat_of_zero_le hy.k0
  have h1 := hx.k1; have h2 := hy.k1
  rw [ha] at h1; rw [hb] at h2
  rw [h.kinds, ha, hb, band_nat a b (by omega) (by omega)]
  have h3 : a &&& b ≤ a := Nat.and_le_left
  omega
theorem evP_eq (f : Fl) (e : Ev) : evP f e = if f.kind e.kd = false then none else if e.kd = 7 then (if e.refs.filter (fun r => f.oid r.oid) = [] then none else some { e with refs := e.refs.filter fun r => f.oid r.oid }) else if f.oid e.at_.oid then some e else none := by
  unfold evP evR
  split
  · rfl
  · split
    · split <;> rfl
    · split <;> rfl
theorem evP_and {x y r : Fl} (h : AndIs x y r) (hx : FlOk x) (hy : FlOk y) (e : Ev) : (evP x e).bind (evP y) = evP r e := by
  have hf : (fun q : Rf => r.oid q.oid) = fun q => (x.oid q.oid && y.oid q.oid) := funext fun q => h.oid _
  have hkd := h.kind hx hy e.kd
  rw [evP_eq x e, evP_eq r e]
  by_cases h1 : x.kind e.kd = false
  · rw [if_pos h1, if_pos (by rw [hkd, h1]; rfl)]; rfl
  · rw [if_neg h1]
    have h1' : x.kind e.kd = true := by simpa using h1
    rw [h1', Bool.true_and] at hkd
    by_cases h7 : e.kd = 7
    · rw [if_pos h7, if_pos h7, hf, ← List.filter_filter]
      by_cases h2 : e.refs.filter (fun q => x.oid q.oid) = []
      · rw [if_pos h2, Option.bind_none]
        have h3 : List.filter (fun q : Rf => x.oid q.oid) (List.filter (fun q => y.oid q.oid) e.refs) = [] := by
          rw [List.filter_filter]
          rw [List.filter_eq_nil_iff] at h2 ⊢
          intro q hq
          have := h2 q hq
          simp at this ⊢
          intro h; rw [this] at h; cases h
        rw [h3]
        simp
      · rw [if_neg h2, Option.bind_some, evP_eq]
        simp only
        rw [← hkd]
        by_cases h3 : r.kind e.kd = false
        · rw [if_pos h3, if_pos h3]
        · rw [if_neg h3, if_neg h3, if_pos h7]
          have h4 : List.filter (fun q : Rf => y.oid q.oid) (List.filter (fun q => x.oid q.oid) e.refs) = List.filter (fun q => x.oid q.oid) (List.filter (fun q => y.oid q.oid) e.refs) := by
            rw [List.filter_filter, List.filter_filter]
            congr 1; funext q; rw [Bool.and_comm]
          rw [h4]
    · rw [if_neg h7, if_neg h7, h.oid]
      cases h2 : x.oid e.at_.oid with
      | false =>
        simp
      | true =>
        rw [if_pos rfl, Option.bind_some, evP_eq, ← hkd]
        by_cases h3 : r.kind e.kd = false
        · rw [if_pos h3, if_pos h3]
        · rw [if_neg h3, if_neg h3, if_neg h7, Bool.true_and]
theorem filterMap_bind {α β γ : Type} (p : α → Option β) (q : β → Option γ) (l : List α) : (l.filterMap p).filterMap q = l.filterMap fun a => (p a).bind q := by
  rw [List.filterMap_filterMap]
theorem txP_eq (f : Fl) (t : Tx) : txP f t = if t.evs.filterMap (evP f) = [] ∧ f.empty = false then none else some ⟨t.xid, t.stamp, t.evs.filterMap (evP f)⟩ := by
  unfold txP txR
  split <;> rfl
theorem txP_and {x y r : Fl} (h : AndIs x y r) (hx : FlOk x) (hy : FlOk y) (he : x.empty = y.empty) (t : Tx) : (txP x t).bind (txP y) = txP r t := by
  have hev : (t.evs.filterMap (evP x)).filterMap (evP y) = t.evs.filterMap (evP r) := by
    rw [filterMap_bind]; congr 1; funext e; exact evP_and h hx hy e
  have hre : r.empty = y.empty := by rw [h.empty, he, Bool.and_self]
  rw [txP_eq x, txP_eq r, ← hev, hre]
  by_cases h1 : t.evs.filterMap (evP x) = [] ∧ x.empty = false
  · rw [if_pos h1, if_pos ⟨by rw [h1.1]; rfl, by rw [← he]; exact h1.2⟩]; rfl
  · rw [if_neg h1, Option.bind_some, txP_eq]
theorem txs_and {x y r : Fl} (h : AndIs x y r) (hx : FlOk x) (hy : FlOk y) (he : x.empty = y.empty) (l : List Tx) : (l.filterMap (txP x)).filterMap (txP y) = l.filterMap (txP r) := by
  rw [filterMap_bind]; congr 1; funext t; exact txP_and h hx hy he t
theorem evP_idem (f : Fl) (e : Ev) : (evP f e).bind (evP f) = evP f e := by
  rw [evP_eq]
  by_cases h1 : f.kind e.kd = false
  · rw [if_pos h1]; rfl
  · rw [if_neg h1]
    by_cases h7 : e.kd = 7
    · rw [if_pos h7]
      by_cases h2 : e.refs.filter (fun q => f.oid q.oid) = []
      · rw [if_pos h2]; rfl
      · rw [if_neg h2, Option.bind_some, evP_eq]
        simp only
        rw [if_neg h1, if_pos h7, List.filter_filter]
        have : (fun q : Rf => f.oid q.oid && f.oid q.oid) = fun q => f.oid q.oid := funext fun q => Bool.and_self _
        rw [this, if_neg h2]
    · rw [if_neg h7]
      cases h2 : f.oid e.at_.oid with
      | false => rfl
      | true => rw [if_pos rfl, Option.bind_some, evP_eq, if_neg h1, if_neg h7, h2, if_pos rfl]
theorem txs_idem (f : Fl) (l : List Tx) : (l.filterMap (txP f)).filterMap (txP f) = l.filterMap (txP f) := by
  rw [filterMap_bind]; congr 1; funext t
  have hev : (t.evs.filterMap (evP f)).filterMap (evP f) = t.evs.filterMap (evP f) := by
    rw [filterMap_bind]; congr 1; funext e; exact evP_idem f e
  rw [txP_eq f t]
  by_cases h1 : t.evs.filterMap (evP f) = [] ∧ f.empty = false
  · rw [if_pos h1]; rfl
  · rw [if_neg h1, Option.bind_some, txP_eq]
    simp only
    rw [hev, if_neg h1]
theorem evP_ok {f : Fl} {e e' : Ev} (h : evP f e = some e') (hok : e.Ok) : e'.Ok := by
  rw [evP_eq] at h
  split at h
  · cases h
  · split at h
    · split at h
      · cases h
      · injection h with h
        subst h
        exact ⟨⟨hok.sm.bf, hok.sm.af, Nat.le_trans (List.length_filter_le _ _) hok.sm.refs⟩, hok.k0, hok.k1⟩
    · split at h
      · injection h with h
        subst h
        exact hok
      · cases h
theorem txP_ok {f : Fl} {t t' : Tx} (h : txP f t = some t') (hok : t.Ok) : t'.Ok := by
  rw [txP_eq] at h
  split at h
  · cases h
  · injection h with h
    subst h
    refine ⟨Nat.le_trans (List.length_filterMap_le _ _) hok.n, fun e he => ?_⟩
    obtain ⟨e0, h0, h1⟩ := List.mem_filterMap.1 he
    exact evP_ok h1 (hok.ev e0 h0)
/-- Transactions that may be walked. -/
structure TxsOk (l : List Tx) : Prop where
  n : l.length ≤ 1000
  ok : ∀ t ∈ l, t.Ok
theorem TxsOk.pass {l : List Tx} (h : TxsOk l) (f : Fl) : TxsOk (l.filterMap (txP f)) :=
  ⟨Nat.le_trans (List.length_filterMap_le _ _) h.n, fun t ht => by
    obtain ⟨t0, h0, h1⟩ := List.mem_filterMap.1 ht
    exact txP_ok h1 (h.ok t0 h0)⟩
end Go.Proofs.Ytaaijgalminafaa
/-
  Layer 24: an argument that is a filter of the document.
-/
namespace Go.Proofs.Ytaaijgalminafaa
open Go.ChangeShapes Go.WideShapes Go.ChangeAt Go.RowKit Go.Deep
section
variable {H : Type} {enc : TypeId × Value → H} {P : Program} {W : World}
theorem trod_struct4 {t : TypeId} {f0 f1 f2 f3 : Field} {fuel : Nat} {cs : List Value} {x : DataW H × List MemPlace} (ht : P.underlying t = some (.struct #[f0, f1, f2, f3])) (h : DataW.trod enc P W 0 (fun _ => true) true fuel t cs = some x) :
    ∃ y0 y1 y2 y3 n, DataW.trod enc P W 0 (fun _ => true) true n f0.type ((cs.drop f0.offset).take (P.cellsOf f0.type)) = some y0 ∧
      DataW.trod enc P W 0 (fun _ => true) true n f1.type ((cs.drop f1.offset).take (P.cellsOf f1.type)) = some y1 ∧ DataW.trod enc P W 0 (fun _ => true) true n f2.type ((cs.drop f2.offset).take (P.cellsOf f2.type)) = some y2 ∧
      DataW.trod enc P W 0 (fun _ => true) true n f3.type ((cs.drop f3.offset).take (P.cellsOf f3.type)) = some y3 := by
  obtain ⟨xs, n, _, rfl, hl, hlen, hf⟩ := DataW.trod_struct ht h
  match xs, hlen with
  | [y0, y1, y2, y3], _ => exact ⟨y0, y1, y2, y3, n, by simpa using hf 0 f0 rfl, by simpa using hf 1 f1 rfl, by simpa using hf 2 f2 rfl, by simpa using hf 3 f3 rfl⟩
end
theorem flat_u32 (l : List Int) : l.flatMap (fun o : Int => [Value.int .u32 o]) = u32s l := by
  unfold u32s
  induction l with
  | nil => rfl
  | cons a l ih => rw [List.flatMap_cons, List.map_cons, ih]; rfl
theorem flCells : Try.prog.cellsOf 24 = 4 ∧ Try.prog.cellsOf 4 = 1 ∧ Try.prog.cellsOf 22 = 1 ∧ Try.prog.cellsOf 5 = 1 ∧ Try.prog.cellsOf 25 = 1 := by
  refine ⟨?_, ?_, ?_, ?_, ?_⟩ <;> kernel_rfl
set_option maxRecDepth 100000 in
/-- The cells of a filter, as it is read. -/
theorem fl_of {H : Type} {enc : TypeId × Value → H} {W : World} {n : Nat} {cs : List Value} {y : DataW H × List MemPlace} (hl : cs.length = 4) (hf : DataW.trod enc Try.prog W 0 (fun _ => true) true n 24 cs = some y) :
    ∃ (f : Fl) (A : Option Addr) (c : Nat), cs = (f.cells (.slice A f.oids.length c)).toList ∧ FlAt W W.heap.size f A c ∧ FlOk f := by
  obtain ⟨c24, c4, c22, c5, c25⟩ := flCells
  obtain ⟨x0, x1, x2, x3, rfl⟩ := list4 hl
  obtain ⟨y0, y1, y2, y3, m, h0, h1, h2, h3⟩ := trod_struct4 Try.underlying24 hf
  simp only [c4, c22, c5] at h0 h1 h2 h3
  simp at h0 h1 h2 h3
  obtain ⟨al, e0⟩ := el_bool' Try.underlying4 h0
  obtain ⟨A, c, l, e1, hlc, hcm, hR, hp⟩ := trod_rdK (P := Try.prog) (fun o : Int => [Value.int .u32 o]) (fun o => 0 ≤ o ∧ o < 4294967296) (k := 1) (by omega) (fun _ => rfl) Try.underlying22 c25 (fun n cs y hy => by
    obtain ⟨a, e, hb⟩ := el_u32' Try.underlying25 hy
    exact ⟨(a : Int), e, by omega, by omega⟩) h1
  obtain ⟨kd, e2, hk⟩ := el_u8' Try.underlying5 h2
  obtain ⟨em, e3⟩ := el_bool' Try.underlying4 h3
  injection e0 with e0 _; injection e1 with e1 _; injection e2 with e2 _; injection e3 with e3 _
  subst e0 e1 e2 e3
  have hfl := flat_u32 l
  rw [hfl] at hR
  exact ⟨⟨al, l, kd, em⟩, A, c, rfl, ⟨hR, hlc, hcm⟩, ⟨by simp, by simp; omega, hp⟩⟩
set_option maxRecDepth 100000 in
theorem open_fl {H : Type} {enc : TypeId × Value → H} {W : World} {r : Reach} {b0 : Nat} {v : Value} {d : DataW H} {p : List MemPlace} (hok : Value.okWide Try.prog W r b0 24 v) (h : DataW.Trod enc Try.prog W 0 (fun _ => true) true 24 v d p) :
    ∃ (f : Fl) (A : Option Addr) (c : Nat), v = f.v A c ∧ FlAt W W.heap.size f A c ∧ FlOk f := by
  obtain ⟨cs, rfl, hl, fuel, hf⟩ := open_struct Try.underlying24 hok h
  rw [flCells.1] at hl
  obtain ⟨f, A, c, rfl, h1, h2⟩ := fl_of hl hf
  exact ⟨f, A, c, rfl, h1, h2⟩
end Go.Proofs.Ytaaijgalminafaa
/-
  Layer 24: an argument that is a list of transactions of the document.
-/
namespace Go.Proofs.Ytaaijgalminafaa
open Go.ChangeShapes Go.WideShapes Go.ChangeAt Go.RowKit Go.Deep
section
variable {H : Type} {enc : TypeId × Value → H} {P : Program} {W : World}
theorem list7 {α : Type} {l : List α} (h : l.length = 7) : ∃ a b c d e f g, l = [a, b, c, d, e, f, g] := by
  match l, h with
  | [a, b, c, d, e, f, g], _ => exact ⟨a, b, c, d, e, f, g, rfl⟩
theorem list8 {α : Type} {l : List α} (h : l.length = 8) : ∃ a b c d e f g i, l = [a, b, c, d, e, f, g, i] := by
  match l, h with
  | [a, b, c, d, e, f, g, i], _ => exact ⟨a, b, c, d, e, f, g, i, rfl⟩
theorem list6 {α : Type} {l : List α} (h : l.length = 6) : ∃ a b c d e f, l = [a, b, c, d, e, f] := by
  match l, h with
  | [a, b, c, d, e, f], _ => exact ⟨a, b, c, d, e, f, rfl⟩
theorem trod_struct5 {t : TypeId} {f0 f1 f2 f3 f4 : Field} {fuel : Nat} {cs : List Value} {x : DataW H × List MemPlace} (ht : P.underlying t = some (.struct #[f0, f1, f2, f3, f4])) (h : DataW.trod enc P W 0 (fun _ => true) true fuel t cs = some x) :
    ∃ y0 y1 y2 y3 y4 n, DataW.trod enc P W 0 (fun _ => true) true n f0.type ((cs.drop f0.offset).take (P.cellsOf f0.type)) = some y0 ∧
      DataW.trod enc P W 0 (fun _ => true) true n f1.type ((cs.drop f1.offset).take (P.cellsOf f1.type)) = some y1 ∧ DataW.trod enc P W 0 (fun _ => true) true n f2.type ((cs.drop f2.offset).take (P.cellsOf f2.type)) = some y2 ∧
      DataW.trod enc P W 0 (fun _ => true) true n f3.type ((cs.drop f3.offset).take (P.cellsOf f3.type)) = some y3 ∧ DataW.trod enc P W 0 (fun _ => true) true n f4.type ((cs.drop f4.offset).take (P.cellsOf f4.type)) = some y4 := by
  obtain ⟨xs, n, _, rfl, hl, hlen, hf⟩ := DataW.trod_struct ht h
  match xs, hlen with
  | [y0, y1, y2, y3, y4], _ => exact ⟨y0, y1, y2, y3, y4, n, by simpa using hf 0 f0 rfl, by simpa using hf 1 f1 rfl, by simpa using hf 2 f2 rfl, by simpa using hf 3 f3 rfl, by simpa using hf 4 f4 rfl⟩
theorem trod_struct7 {t : TypeId} {f0 f1 f2 f3 f4 f5 f6 : Field} {fuel : Nat} {cs : List Value} {x : DataW H × List MemPlace} (ht : P.underlying t = some (.struct #[f0, f1, f2, f3, f4, f5, f6])) (h : DataW.trod enc P W 0 (fun _ => true) true fuel t cs = some x) :
    cs.length = P.cellsOf t ∧ ∃ y0 y1 y2 y3 y4 y5 y6 n, DataW.trod enc P W 0 (fun _ => true) true n f0.type ((cs.drop f0.offset).take (P.cellsOf f0.type)) = some y0 ∧
      DataW.trod enc P W 0 (fun _ => true) true n f1.type ((cs.drop f1.offset).take (P.cellsOf f1.type)) = some y1 ∧ DataW.trod enc P W 0 (fun _ => true) true n f2.type ((cs.drop f2.offset).take (P.cellsOf f2.type)) = some y2 ∧
      DataW.trod enc P W 0 (fun _ => true) true n f3.type ((cs.drop f3.offset).take (P.cellsOf f3.type)) = some y3 ∧ DataW.trod enc P W 0 (fun _ => true) true n f4.type ((cs.drop f4.offset).take (P.cellsOf f4.type)) = some y4 ∧
      DataW.trod enc P W 0 (fun _ => true) true n f5.type ((cs.drop f5.offset).take (P.cellsOf f5.type)) = some y5 ∧ DataW.trod enc P W 0 (fun _ => true) true n f6.type ((cs.drop f6.offset).take (P.cellsOf f6.type)) = some y6 := by
  obtain ⟨xs, n, _, rfl, hl, hlen, hf⟩ := DataW.trod_struct ht h
  match xs, hlen with
  | [y0, y1, y2, y3, y4, y5, y6], _ => exact ⟨hl, y0, y1, y2, y3, y4, y5, y6, n, by simpa using hf 0 f0 rfl, by simpa using hf 1 f1 rfl, by simpa using hf 2 f2 rfl, by simpa using hf 3 f3 rfl, by simpa using hf 4 f4 rfl, by simpa using hf 5 f5 rfl, by simpa using hf 6 f6 rfl⟩
theorem trod_pair {t : TypeId} {f0 f1 : Field} {fuel : Nat} {cs : List Value} {x : DataW H × List MemPlace} (ht : P.underlying t = some (.struct #[f0, f1])) (h : DataW.trod enc P W 0 (fun _ => true) true fuel t cs = some x) :
    cs.length = P.cellsOf t ∧ ∃ y0 y1 n, DataW.trod enc P W 0 (fun _ => true) true n f0.type ((cs.drop f0.offset).take (P.cellsOf f0.type)) = some y0 ∧
      DataW.trod enc P W 0 (fun _ => true) true n f1.type ((cs.drop f1.offset).take (P.cellsOf f1.type)) = some y1 := by
  obtain ⟨xs, n, _, rfl, hl, hlen, hf⟩ := DataW.trod_struct ht h
  match xs, hlen with
  | [y0, y1], _ => exact ⟨hl, y0, y1, n, by simpa using hf 0 f0 rfl, by simpa using hf 1 f1 rfl⟩
/-- A struct of three fields, and what the third weighs. -/
theorem trod_struct3w {t : TypeId} {f0 f1 f2 : Field} {fuel : Nat} {cs : List Value} {x : DataW H × List MemPlace} (ht : P.underlying t = some (.struct #[f0, f1, f2])) (h : DataW.trod enc P W 0 (fun _ => true) true fuel t cs = some x) :
    cs.length = P.cellsOf t ∧ ∃ y0 y1 y2 n, DataW.trod enc P W 0 (fun _ => true) true n f0.type ((cs.drop f0.offset).take (P.cellsOf f0.type)) = some y0 ∧
      DataW.trod enc P W 0 (fun _ => true) true n f1.type ((cs.drop f1.offset).take (P.cellsOf f1.type)) = some y1 ∧ DataW.trod enc P W 0 (fun _ => true) true n f2.type ((cs.drop f2.offset).take (P.cellsOf f2.type)) = some y2 ∧
      ∀ k ∈ y2.1.weights P f2.type, k ∈ x.1.weights P t := by
  obtain ⟨xs, n, _, rfl, hl, hlen, hf⟩ := DataW.trod_struct ht h
  match xs, hlen with
  | [y0, y1, y2], _ => exact ⟨hl, y0, y1, y2, n, by simpa using hf 0 f0 rfl, by simpa using hf 1 f1 rfl, by simpa using hf 2 f2 rfl, fun k hk => by simp [DataW.weights, ht, DataW.weightsEach, hk]⟩
theorem weights_all {e : TypeId} {k : Nat} : ∀ {ds : List (DataW H)} {d : DataW H}, d ∈ ds → k ∈ d.weights P e → k ∈ DataW.weightsAll P e ds
  | a :: ds, d, h, hk => by
    rw [DataW.weightsAll]
    rcases List.mem_cons.1 h with rfl | h
    · exact List.mem_append.2 (.inl hk)
    · exact List.mem_append.2 (.inr (weights_all h hk))
/-- A slice of elements of k cells, as a list; where each weighs no more than n0. -/
theorem trod_rdW {α : Type} (n0 : Nat) (f : α → List Value) (pr : α → Prop) {k : Nat} (hk0 : 0 < k) (hk : ∀ a, (f a).length = k) {t e : TypeId} (ht : P.underlying t = some (.slice e)) (hc : P.cellsOf e = k)
    (hel : ∀ (n : Nat) (cs : List Value) (y : DataW H × List MemPlace), DataW.trod enc P W 0 (fun _ => true) true n e cs = some y → (∀ k ∈ y.1.weights P e, k ≤ n0) → ∃ a, cs = f a ∧ pr a)
    {fuel : Nat} {cs : List Value} {x : DataW H × List MemPlace} (hf : DataW.trod enc P W 0 (fun _ => true) true fuel t cs = some x) (hw : ∀ k ∈ x.1.weights P t, k ≤ n0) :
    ∃ A c, ∃ l : List α, cs = [.slice A l.length c] ∧ l.length ≤ c ∧ c ≤ maxLen ∧ Rd W W.heap.size k A l.length (l.flatMap f) ∧ (∀ a ∈ l, pr a) ∧ l.length * P.bytesOf e ≤ n0 := by
  rcases open_slice ht hf with ⟨hcs, hx⟩ | ⟨a, len, cap, m, n, D, Pl, hcs, _, hl, hm, hmm, hx, hi⟩
  · exact ⟨none, 0, [], hcs, Nat.le_refl _, Nat.zero_le _, Rd.none_, by simp, by simp⟩
  · have hmc : m = cap := by simpa using hmm
    subst hmc
    subst hx
    have hw0 := hw ((len + (m - len)) * P.bytesOf e) (by simp [DataW.weights, ht])
    have hwi : ∀ i, i < len → ∀ k ∈ (D i).weights P e, k ≤ n0 := fun i hil k hk => hw k (by
      rw [DataW.weights, ht]
      exact List.mem_cons.2 (.inr (List.mem_append.2 (.inl (weights_all (List.mem_map.2 ⟨i, List.mem_range.2 hil, rfl⟩) hk)))))
    obtain ⟨l, hll, hlp⟩ := list_of (fun i (x : α) => W.cells? 0 (a.add (i * k)) k = some (f x) ∧ pr x) len (fun i hil => by
      obtain ⟨cs', h1, h2⟩ := hi i (by omega)
      rw [hc] at h1
      obtain ⟨y, rfl, hy⟩ := hel _ _ _ h2 (hwi i hil)
      exact ⟨y, h1, hy⟩)
    subst hll
    refine ⟨some a, m, l, hcs, hl, hm, ⟨flat_len hk l, fun hn => ?_⟩, fun y hy => ?_, Nat.le_trans (Nat.mul_le_mul_right _ (Nat.le_add_right _ _)) hw0⟩
    · obtain ⟨_, _, hcl⟩ := World.cells?_some (hlp 0 hn).1
      have h0 := hcl 0 hk0
      obtain ⟨hs, hb⟩ : a.spot = none ∧ a.block < W.heap.size := by
        have ha : (a.add (0 * k)).add 0 = a := by simp [Addr.add]
        rw [ha] at h0
        exact plain_of_cell (h0.trans (List.getElem?_eq_getElem (by rw [hk]; exact hk0)))
      obtain ⟨b, off, sp⟩ := a
      simp only at hs hb
      subst hs
      refine ⟨b, off, rfl, hb, fun j u hu => ?_⟩
      obtain ⟨i, r, hil, hr, rfl, hru⟩ := flat_at hk l j u hu
      obtain ⟨_, _, hcl⟩ := World.cells?_some (hlp i hil).1
      have := hcl r hr
      rw [add_plain, add_plain] at this
      rw [show off + (i * k + r) = off + i * k + r by omega, this]
      exact hru
    · obtain ⟨i, hi', rfl⟩ := List.mem_iff_getElem.1 hy
      exact (hlp i hi').2
theorem el_int' {k : IntKind} {e : TypeId} (he : P.underlying e = some (.int k)) {n : Nat} {cs : List Value} {y : DataW H × List MemPlace} (hy : DataW.trod enc P W 0 (fun _ => true) true n e cs = some y) : ∃ z : Int, cs = [.int k z] := by
  obtain ⟨z, hz, _, hw⟩ := DataW.trod_int he hy
  exact ⟨z, hz⟩
end

theorem inCells : Try.prog.cellsOf 106 = 6 ∧ Try.prog.cellsOf 104 = 5 ∧ Try.prog.cellsOf 64 = 2 ∧ Try.prog.cellsOf 53 = 3 ∧ Try.prog.cellsOf 68 = 8 ∧ Try.prog.cellsOf 2 = 1 ∧ Try.prog.cellsOf 43 = 1 ∧ Try.prog.cellsOf 9 = 1 := by
  refine ⟨?_, ?_, ?_, ?_, ?_, ?_, ?_, ?_⟩ <;> kernel_rfl
theorem inCells2 : Try.prog.cellsOf 65 = 1 ∧ Try.prog.cellsOf 66 = 1 ∧ Try.prog.cellsOf 51 = 1 ∧ Try.prog.bytesOf 68 = 96 := by
  refine ⟨?_, ?_, ?_, ?_⟩ <;> kernel_rfl
section
variable {H : Type} {enc : TypeId × Value → H} {W : World}
theorem lit_u64 {z : Int} (w : (Lit.int .u64 z).wf = true) : 0 ≤ z := by
  have h := w
  simp [Lit.wf, IntKind.min, IntKind.max, IntKind.signed, IntKind.bits] at h
  exact h.1
theorem ce_of {n : Nat} {cs : List Value} {y : DataW H × List MemPlace} (h : DataW.trod enc Try.prog W 0 (fun _ => true) true n 106 cs = some y) : ∃ c : Ce, cs = c.r ∧ True := by
  obtain ⟨c106, c104, c64, c53, c68, c2, c43, c9⟩ := inCells
  obtain ⟨c24, c4, c22, c5, c25⟩ := flCells
  obtain ⟨hl, y0, y1, n, h0, h1⟩ := trod_pair Try.underlying106 h
  rw [c106] at hl
  obtain ⟨x0, x1, x2, x3, x4, x5, rfl⟩ := list6 hl
  simp only [c5, c104] at h0 h1
  simp at h0 h1
  obtain ⟨z0, z1, z2, z3, z4, m, k0, k1, k2, k3, k4⟩ := trod_struct5 Try.underlying104 h1
  simp only [c5, c2, c43, c9] at k0 k1 k2 k3 k4
  simp at k0 k1 k2 k3 k4
  obtain ⟨a0, e0, _⟩ := el_u8' Try.underlying5 h0
  obtain ⟨a1, e1, _⟩ := el_u8' Try.underlying5 k0
  obtain ⟨a2, e2⟩ := el_int' Try.underlying2 k1
  obtain ⟨a3, e3, _, w3⟩ := DataW.trod_int Try.underlying43 k2
  obtain ⟨a4, e4, _, w4⟩ := DataW.trod_int Try.underlying43 k3
  obtain ⟨a5, e5, _⟩ := el_str' Try.underlying9 k4
  have b3 : 0 ≤ a3 := lit_u64 w3
  have b4 : 0 ≤ a4 := lit_u64 w4
  obtain ⟨a3, rfl⟩ := Int.eq_ofNat_of_zero_le b3
  obtain ⟨a4, rfl⟩ := Int.eq_ofNat_of_zero_le b4
  injection e0 with e0 _; injection e1 with e1 _; injection e2 with e2 _; injection e3 with e3 _; injection e4 with e4 _; injection e5 with e5 _
  subst e0 e1 e2 e3 e4 e5
  exact ⟨⟨a0, a1, a2, a3, a4, a5⟩, rfl, trivial⟩
theorem rf_of {n : Nat} {cs : List Value} {y : DataW H × List MemPlace} (h : DataW.trod enc Try.prog W 0 (fun _ => true) true n 64 cs = some y) : ∃ c : Rf, cs = c.c ∧ True := by
  obtain ⟨c106, c104, c64, c53, c68, c2, c43, c9⟩ := inCells
  obtain ⟨c24, c4, c22, c5, c25⟩ := flCells
  obtain ⟨hl, y0, y1, n, h0, h1⟩ := trod_pair Try.underlying64 h
  rw [c64] at hl
  obtain ⟨x0, x1, rfl⟩ := list2 hl
  simp only [c25] at h0 h1
  simp at h0 h1
  obtain ⟨a0, e0, _⟩ := el_u32' Try.underlying25 h0
  obtain ⟨a1, e1, _⟩ := el_u32' Try.underlying25 h1
  injection e0 with e0 _; injection e1 with e1 _
  subst e0 e1
  exact ⟨⟨a0, a1⟩, rfl, trivial⟩
theorem er_of {n : Nat} {cs : List Value} {y : DataW H × List MemPlace} (h : DataW.trod enc Try.prog W 0 (fun _ => true) true n 68 cs = some y) :
    ∃ x : Er, cs = x.c ∧ ErAt KR W (Lt W.heap.size) x ∧ 0 ≤ x.kd ∧ x.kd < 256 := by
  obtain ⟨c106, c104, c64, c53, c68, c2, c43, c9⟩ := inCells
  obtain ⟨c65, c66, c51, b68⟩ := inCells2
  obtain ⟨c24, c4, c22, c5, c25⟩ := flCells
  obtain ⟨hl, y0, y1, y2, y3, y4, y5, y6, n, h0, h1, h2, h3, h4, h5, h6⟩ := trod_struct7 Try.underlying68 h
  rw [c68] at hl
  obtain ⟨x0, x1, x2, x3, x4, x5, x6, x7, rfl⟩ := list8 hl
  simp only [c5, c64, c65, c66] at h0 h1 h2 h3 h4 h5 h6
  simp at h0 h1 h2 h3 h4 h5 h6
  obtain ⟨a0, e0, b0⟩ := el_u8' Try.underlying5 h0
  obtain ⟨a1, e1, _⟩ := rf_of h1
  obtain ⟨a2, e2, _⟩ := el_u8' Try.underlying5 h2
  obtain ⟨A1, d1, l1, e3, hlc1, hcm1, hR1, _⟩ := trod_rdK (P := Try.prog) Ce.r (fun _ => True) (k := 6) (by omega) (fun _ => rfl) Try.underlying65 c106 (fun n cs y hy => ce_of hy) h3
  obtain ⟨A2, d2, l2, e4, hlc2, hcm2, hR2, _⟩ := trod_rdK (P := Try.prog) Ce.r (fun _ => True) (k := 6) (by omega) (fun _ => rfl) Try.underlying65 c106 (fun n cs y hy => ce_of hy) h4
  obtain ⟨A3, d3, l3, e5, hlc3, hcm3, hR3, _⟩ := trod_rdK (P := Try.prog) Rf.c (fun _ => True) (k := 2) (by omega) (fun _ => rfl) Try.underlying66 c64 (fun n cs y hy => rf_of hy) h5
  obtain ⟨a6, e6, _⟩ := el_u8' Try.underlying5 h6
  obtain ⟨oid, ver⟩ := a1
  injection e0 with e0 _; injection e1 with e1 e1'; injection e1' with e1' _; injection e2 with e2 _; injection e3 with e3 _; injection e4 with e4 _; injection e5 with e5 _; injection e6 with e6 _
  subst e0 e1 e1' e2 e3 e4 e5 e6
  exact ⟨⟨a0, ⟨oid, ver⟩, a2, ⟨l1, A1, d1⟩, ⟨l2, A2, d2⟩, ⟨l3, A3, d3⟩, a6⟩, rfl, ⟨⟨Rq.of_rd hR1, hlc1, hcm1, fun _ _ => trivial⟩, ⟨Rq.of_rd hR2, hlc2, hcm2, fun _ _ => trivial⟩, ⟨Rq.of_rd hR3, hlc3, hcm3, fun _ _ => trivial⟩⟩, by show (0 : Int) ≤ (a0 : Int); omega, by show (a0 : Int) < 256; omega⟩
/-- What is known of transactions that come in. -/
structure Tr.In (t : Tr) : Prop where
  n : t.evs.l.length ≤ 140737488355328
  kd : ∀ e ∈ t.evs.l, 0 ≤ e.kd ∧ e.kd < 256
theorem tr_of {n : Nat} {cs : List Value} {y : DataW H × List MemPlace} (h : DataW.trod enc Try.prog W 0 (fun _ => true) true n 53 cs = some y) (hw : ∀ k ∈ y.1.weights Try.prog 53, k ≤ reachBytes) :
    ∃ x : Tr, cs = x.c ∧ RoAt (KE KR) W (Lt W.heap.size) x.evs ∧ x.In := by
  obtain ⟨c106, c104, c64, c53, c68, c2, c43, c9⟩ := inCells
  obtain ⟨c65, c66, c51, b68⟩ := inCells2
  obtain ⟨c24, c4, c22, c5, c25⟩ := flCells
  obtain ⟨hl, y0, y1, y2, n, h0, h1, h2, hw2⟩ := trod_struct3w Try.underlying53 h
  rw [c53] at hl
  obtain ⟨x0, x1, x2, rfl⟩ := list3 hl
  simp only [c25, c43, c51] at h0 h1 h2
  simp at h0 h1 h2
  obtain ⟨a0, e0, _⟩ := el_u32' Try.underlying25 h0
  obtain ⟨a1, e1⟩ := el_int' Try.underlying43 h1
  obtain ⟨A, d, l, e2, hlc, hcm, hR, hp, hb⟩ := trod_rdW (P := Try.prog) reachBytes Er.c (fun x => ErAt KR W (Lt W.heap.size) x ∧ 0 ≤ x.kd ∧ x.kd < 256) (k := 8) (by omega) (fun _ => rfl) Try.underlying51 c68 (fun n cs y hy _ => er_of hy) h2 (fun k hk => hw k (hw2 k hk))
  injection e0 with e0 _; injection e1 with e1 _; injection e2 with e2 _
  subst e0 e1 e2
  rw [b68] at hb
  refine ⟨⟨a0, a1, ⟨l, A, d⟩⟩, rfl, ⟨Rq.of_rd hR, hlc, hcm, fun x hx => (hp x hx).1⟩, ⟨?_, fun e he => (hp e he).2⟩⟩
  have : reachBytes = 140737488351232 := rfl
  show l.length ≤ _
  omega
set_option maxRecDepth 100000 in
/-- An argument that is a list of transactions. -/
theorem open_txs {r : Reach} {b0 : Nat} {v : Value} {d : DataW H} {p : List MemPlace} (hok : Value.okWide Try.prog W r b0 34 v) (h : DataW.Trod enc Try.prog W 0 (fun _ => true) true 34 v d p) (hw : ∀ k ∈ d.weights Try.prog 34, k ≤ reachBytes) :
    ∃ x : Ro Tr, v = x.v ∧ RoAt (KT KR) W (Lt W.heap.size) x ∧ ∀ t ∈ x.l, t.In := by
  obtain ⟨a, len, cap, rfl⟩ := okWide_slice Try.underlying34 hok
  obtain ⟨fuel, hf⟩ := h
  obtain ⟨A, c, l, e0, hlc, hcm, hR, hp, _⟩ := trod_rdW (P := Try.prog) reachBytes Tr.c (fun x => RoAt (KE KR) W (Lt W.heap.size) x.evs ∧ x.In) (k := 3) (by omega) (fun _ => rfl) Try.underlying34 inCells.2.2.2.1 (fun n cs y hy hy2 => tr_of hy hy2) hf hw
  have e1 : Value.slice a len cap = .slice A l.length c := by
    have : [Value.slice a len cap] = [.slice A l.length c] := e0
    injection this
  exact ⟨⟨l, A, c⟩, e1, ⟨Rq.of_rd hR, hlc, hcm, fun t ht => (hp t ht).1⟩, fun t ht => (hp t ht).2⟩
end
end Go.Proofs.Ytaaijgalminafaa
/-
  Layer 24: lists of transactions as values: what is known of them, and the contracts over them.
-/
namespace Go.Proofs.Ytaaijgalminafaa
open Go.RowKit Mem

/-- The value is a list of these transactions. -/
def TxsAt (K : Kd Ce) (w : World) (v : Value) (txs : List Tx) : Prop := ∃ (ys : List Tr) (A : Option Addr) (c : Nat), v = .slice A ys.length c ∧ ys.map Tr.tx = txs ∧ RoAt (KT K) w (Lt w.heap.size) ⟨ys, A, c⟩
theorem lt_lt {w : World} : ∀ b, Lt w.heap.size b → b < w.heap.size := fun _ h => h
theorem TxsAt.up {K : Kd Ce} {w w' : World} {v : Value} {txs : List Tx} (h : TxsAt K w v txs) (hb : Below w.heap.size w w') : TxsAt K w' v txs := by
  obtain ⟨ys, A, c, h0, h1, h2⟩ := h
  exact ⟨ys, A, c, h0, h1, h2.up (Same.below hb lt_lt) fun b h => Nat.lt_of_lt_of_le h hb.size⟩
/-- A call returned a list of these. -/
def RetTv (K : Kd Ce) (txs : List Tx) (w : World) (e : Ending) (w' : World) : Prop := ∃ u, e = .returned u ∧ TxsAt K w' u txs ∧ Below w.heap.size w w'
theorem RetTxs.tv {K : Kd Ce} {S : Nat → Prop} {txs : List Tx} {w : World} (hS : ∀ b, S b → b < w.heap.size) : ∀ e w', RetTxs K S txs w e w' → RetTv K txs w e w' := by
  rintro e w' ⟨ys, h1, D, d, rfl, hro, hb⟩
  exact ⟨_, rfl, ⟨ys, D, d, rfl, h1, hro.up (Same.refl _ _) fun b h => h.elim (fun h => Nat.lt_of_lt_of_le (hS b h) hb.size) (·.2)⟩, hb⟩
theorem passV (f : Fl) (A : Option Addr) (c : Nat) (v : Value) (txs : List Tx) (w : World) (hF : FlAt w w.heap.size f A c) (hk : 0 ≤ f.kinds ∧ f.kinds < 256) (hl : f.oids.length ≤ 1000000) (hv : TxsAt KP w v txs) (hok : TxsOk txs) :
    Calls Try.prog 14 #[f.v A c, v] w (RetTv KP (txs.filterMap (txP f)) w) := by
  obtain ⟨ys, D, d, rfl, rfl, h2⟩ := hv
  exact (passes_any f A c ⟨ys, D, d⟩ _ w hF hk.1 hk.2 hl h2 lt_lt (by have := hok.n; simpa using this) (fun t ht => hok.ok _ (List.mem_map.2 ⟨t, ht, rfl⟩))).mono (RetTxs.tv lt_lt)
theorem backV (v : Value) (txs : List Tx) (w : World) (hv : TxsAt KP w v txs) (hok : TxsOk txs) : Calls Try.prog 13 #[v] w (RetTv KR txs w) := by
  obtain ⟨ys, D, d, rfl, rfl, h2⟩ := hv
  exact (backTxs_any ⟨ys, D, d⟩ _ w h2 lt_lt (by have := hok.n; simpa using this) (fun t ht => (hok.ok _ (List.mem_map.2 ⟨t, ht, rfl⟩)).sm)).mono (RetTxs.tv lt_lt)
theorem sameV (u v : Value) (txs : List Tx) (w : World) (hu : TxsAt KR w u txs) (hv : TxsAt KR w v txs) (hok : TxsOk txs) : Calls Try.prog 15 #[u, v] w (RetB true w) := by
  obtain ⟨ys, D, d, rfl, rfl, h2⟩ := hu
  obtain ⟨zs, E, e, rfl, h3, h4⟩ := hv
  exact allSame_any ⟨ys, D, d⟩ ⟨zs, E, e⟩ _ _ w h2 h4 lt_lt lt_lt (by have := hok.n; simpa using this) (fun t ht => (hok.ok _ (List.mem_map.2 ⟨t, ht, rfl⟩)).sm) h3.symm
theorem txsV (r : Ro Tr) (w : World) (hR : RoAt (KT KR) w (Lt w.heap.size) r) (hok : TxsOk (r.l.map Tr.tx)) : Calls Try.prog 12 #[r.v] w (RetTv KP (r.l.map Tr.tx) w) :=
  (txs_any r _ w hR lt_lt (by have := hok.n; simpa using this) (fun t ht => (hok.ok _ (List.mem_map.2 ⟨t, ht, rfl⟩)).sm)).mono (RetTxs.tv lt_lt)
/-- Few of them: they may be walked. -/
theorem Few.ok {l : List Tr} (h : Few l) (hin : ∀ t ∈ l, t.In) : TxsOk (l.map Tr.tx) := by
  refine ⟨by have := h.n; simp; omega, fun t ht => ?_⟩
  obtain ⟨t, h1, rfl⟩ := List.mem_map.1 ht
  obtain ⟨h2, h3⟩ := h.ev t h1
  refine ⟨by show (t.evs.l.map Er.ev).length ≤ 1000; simp; omega, fun e he => ?_⟩
  obtain ⟨e, h4, rfl⟩ := List.mem_map.1 he
  have h5 := h3 e h4
  have h6 := (hin t h1).kd e h4
  exact ⟨⟨by have := h5.bf; show e.bf.l.length ≤ 1000; omega, by have := h5.af; show e.af.l.length ≤ 1000; omega, by have := h5.refs; show e.refs.l.length ≤ 1000; omega⟩, h6.1, h6.2⟩
def Fact.txs (K : Kd Ce) (txs : List Tx) : Fact := ⟨fun v w => TxsAt K w v txs, fun _ _ _ h hb => h.up hb⟩
theorem txs_val {K : Kd Ce} {txs txs' : List Tx} {f : Nat → Option Fact} {k : Nat} {w : World} (he : txs = txs') (hf : f k = some (.txs K txs')) : ∀ e w', RetTv K txs w e w' → ∃ u, e = .returned u ∧ Ext w w' ∧ fxR f k u w' := by
  rintro e w' ⟨u, rfl, h1, h2⟩
  subst he
  refine ⟨u, rfl, h2, ?_⟩
  unfold fxR; rw [hf]
  exact h1
def supTxs (txs : List Tx) : Mem.Sup where
  p v T w := ∃ (ys : List Tr) (A : Option Addr) (c : Nat), v = .slice A ys.length c ∧ ys.map Tr.tx = txs ∧ RoAt (KT KP) w T ⟨ys, A, c⟩
  keep := fun _ _ _ _ ⟨ys, A, c, h0, h1, h2⟩ hk _ => ⟨ys, A, c, h0, h1, h2.up (fun _ hp => World.cell?_of_block (hk _ hp)) fun _ h => h⟩
theorem retTxs_sup {B : Nat} {txs : List Tx} {w : World} (hB : B ≤ w.heap.size) : ∀ en w', RetTxs KP (Lt B) txs w en w' → ∃ u, ∃ T : Nat → Prop, en = .returned u ∧ Below w.heap.size w w' ∧ (supTxs txs).p u T w' ∧ ∀ g, T g → g < w'.heap.size ∧ (g < B ∨ w.heap.size ≤ g) := by
  rintro en w' ⟨ys, h1, D, d, rfl, hro, hb⟩
  refine ⟨_, Since (Lt B) w.heap.size w', rfl, hb, ⟨ys, D, d, rfl, h1, hro⟩, fun g hg => ?_⟩
  rcases hg with hg | ⟨h2, h3⟩
  · exact ⟨Nat.lt_of_lt_of_le hg (Nat.le_trans hB hb.size), .inl hg⟩
  · exact ⟨h3, .inr h2⟩
theorem supTxs_at {txs : List Tx} {v : Value} {T : Nat → Prop} {w w' : World} (h : (supTxs txs).p v T w) (hT : ∀ b, T b → b < w.heap.size) (hs : Same T w w') (hz : w.heap.size ≤ w'.heap.size) : TxsAt KP w' v txs := by
  obtain ⟨ys, A, c, h0, h1, h2⟩ := h
  exact ⟨ys, A, c, h0, h1, h2.up hs fun b hb => Nat.lt_of_lt_of_le (hT b hb) hz⟩
end Go.Proofs.Ytaaijgalminafaa
