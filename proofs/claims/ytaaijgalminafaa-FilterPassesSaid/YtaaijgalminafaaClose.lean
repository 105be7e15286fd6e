import Derived.ProofKit
import Derived.Deep.Slices
import Derived.OpenShut
import Derived.Test.YtaaijgalminafaaKit
/-
  From a row's premises to the walks and back: arguments that are slices of one-cell elements as lists; a law's row closed by one lemma: true was returned and nothing that was there has changed.
-/
namespace Go.Proofs.Ytaaijgalminafaa
open Go.RowKit Go.ChangeShapes Go.WideShapes Go.Deep

theorem list_of {α : Type} (p : Nat → α → Prop) : ∀ n, (∀ i, i < n → ∃ a, p i a) → ∃ l : List α, l.length = n ∧ ∀ i (h : i < l.length), p i l[i]
  | 0, _ => ⟨[], rfl, fun i h => by simp at h⟩
  | n + 1, h => by
    obtain ⟨l, hl, hp⟩ := list_of p n (fun i hi => h i (by omega))
    obtain ⟨a, ha⟩ := h n (by omega)
    refine ⟨l ++ [a], by simp [hl], fun i hi => ?_⟩
    rcases Nat.lt_or_ge i l.length with h1 | h1
    · rw [List.getElem_append_left h1]; exact hp i h1
    · have : i = n := by simp at hi; omega
      subst this
      rw [List.getElem_append_right (by omega)]; simpa [hl] using ha

theorem add_plain (b off j : Nat) : (⟨b, off, none⟩ : Addr).add j = ⟨b, off + j, none⟩ := by unfold Addr.add; split <;> simp_all
theorem plain_of_cell {w : World} {a : Addr} {u : Value} (h : w.cell? a = some u) : a.spot = none ∧ a.block < w.heap.size := by
  refine ⟨?_, World.block_lt_of_cell? w a h⟩
  unfold World.cell? at h
  split at h
  · split at h
    · cases h
    · rename_i hs; simpa using hs
  · cases h

section
variable {H : Type} {enc : TypeId × Value → H} {P : Program} {W : World}

/-- An argument that is a slice of one-cell elements, as a list. -/
theorem open_rd {α : Type} (f : α → Value) (pr : α → Prop) {r : Reach} {b0 : Nat} {t e : TypeId} {v : Value} {d : DataW H} {p : List MemPlace} (ht : P.underlying t = some (.slice e)) (hc : P.cellsOf e = 1)
    (hel : ∀ (n : Nat) (V : Value) (y : DataW H × List MemPlace), DataW.trod enc P W 0 (fun _ => true) true n e [V] = some y → ∃ a, V = f a ∧ pr a)
    (hok : Value.okWide P W r b0 t v) (h : DataW.Trod enc P W 0 (fun _ => true) true t v d p) :
    ∃ A n c, ∃ l : List α, v = .slice A n c ∧ n ≤ c ∧ c ≤ maxLen ∧ l.length = n ∧ Rd W W.heap.size 1 A n (l.map f) ∧ ∀ a ∈ l, pr a := by
  obtain ⟨a0, len, cap, rfl⟩ := okWide_slice ht hok
  obtain ⟨fuel, hf⟩ := h
  rcases open_slice1 ht hc hf with ⟨hcs, hx⟩ | ⟨a, len', cap', m, n, V, D, Pl, hcs, _, hl, hm, hmm, hx, hi⟩
  · have e : Value.slice a0 len cap = .slice none 0 0 := by simpa [Value.cells] using hcs
    injection e with e1 e2 e3
    subst e1; subst e2; subst e3
    exact ⟨none, 0, 0, [], rfl, Nat.le_refl _, Nat.zero_le _, rfl, Rd.none_, by simp⟩
  · have e : Value.slice a0 len cap = .slice (some a) len' cap' := by simpa [Value.cells] using hcs
    injection e with e1 e2 e3
    subst e1; subst e2; subst e3
    have hmc : m = cap := by simpa using hmm
    subst hmc
    obtain ⟨l, hll, hlp⟩ := list_of (fun i (x : α) => W.cell? (a.add i) = some (f x) ∧ pr x) len (fun i hil => by
      obtain ⟨h1, h2⟩ := hi i (by omega)
      obtain ⟨x, hx1, hx2⟩ := hel _ _ _ h2
      exact ⟨x, by rw [h1, hx1], hx2⟩)
    refine ⟨some a, len, m, l, rfl, hl, hm, hll, ⟨by simp [hll], fun hn => ?_⟩, fun x hx => ?_⟩
    · have h0 := (hlp 0 (by omega)).1
      obtain ⟨hs, hb⟩ := plain_of_cell h0
      have ha : a.add 0 = a := by simp [Addr.add]
      rw [ha] at hs hb
      obtain ⟨b, off, sp⟩ := a
      simp only at hs hb
      subst hs
      refine ⟨b, off, rfl, hb, fun j u hu => ?_⟩
      obtain ⟨hj, rfl⟩ := List.getElem?_eq_some_iff.1 hu
      have := (hlp j (by simpa using hj)).1
      rw [add_plain] at this
      simpa using this
    · obtain ⟨i, hi', rfl⟩ := List.mem_iff_getElem.1 hx
      exact (hlp i hi').2

theorem open_bytes {r : Reach} {b0 : Nat} {t e : TypeId} {v : Value} {d : DataW H} {p : List MemPlace} (ht : P.underlying t = some (.slice e)) (he : P.underlying e = some (.int .u8)) (hc : P.cellsOf e = 1)
    (hok : Value.okWide P W r b0 t v) (h : DataW.Trod enc P W 0 (fun _ => true) true t v d p) :
    ∃ A c, ∃ l : List UInt8, v = .slice A l.length c ∧ l.length ≤ c ∧ c ≤ maxLen ∧ Rd W W.heap.size 1 A l.length (byt l) := by
  obtain ⟨A, n, c, l, rfl, h1, h2, rfl, h4, _⟩ := open_rd (fun b : UInt8 => .int .u8 (b.toNat : Int)) (fun _ => True) ht hc (fun n V y hy => by
    obtain ⟨z, hz, _, hw⟩ := DataW.trod_int he hy
    have hz' : V = .int .u8 z := by simpa using hz
    subst hz'
    have hb : 0 ≤ z ∧ z ≤ 255 := by simpa [Lit.wf, IntKind.min, IntKind.max, IntKind.signed, IntKind.bits] using hw
    exact ⟨UInt8.ofNat z.toNat, by congr 1; simp; omega, trivial⟩) hok h
  exact ⟨A, c, l, rfl, h1, h2, h4⟩
theorem open_bools {r : Reach} {b0 : Nat} {t e : TypeId} {v : Value} {d : DataW H} {p : List MemPlace} (ht : P.underlying t = some (.slice e)) (he : P.underlying e = some .bool) (hc : P.cellsOf e = 1)
    (hok : Value.okWide P W r b0 t v) (h : DataW.Trod enc P W 0 (fun _ => true) true t v d p) :
    ∃ A c, ∃ l : List Bool, v = .slice A l.length c ∧ l.length ≤ c ∧ c ≤ maxLen ∧ Rd W W.heap.size 1 A l.length (bls l) := by
  obtain ⟨A, n, c, l, rfl, h1, h2, rfl, h4, _⟩ := open_rd Value.bool (fun _ => True) ht hc (fun n V y hy => by
    obtain ⟨z, hz, _⟩ := DataW.trod_bool he hy
    exact ⟨z, by simpa using hz, trivial⟩) hok h
  exact ⟨A, c, l, rfl, h1, h2, h4⟩

theorem trodAll_stays (hl : laidOutB P = true) {W' : World} (hb : Below W.heap.size W W') : ∀ {ts : List TypeId} {vs : List Value} {ds : List (DataW H)} {ps : List MemPlace}, (∀ t ∈ ts, P.readableRec t = true ∧ t < P.types.size) →
    DataW.TrodAll enc P W 0 (fun _ => true) true ts vs ds ps → (∀ x ∈ ps, x.block < W.heap.size) → DataW.TrodAll enc P W' 0 (fun b => decide (b < W.heap.size)) true ts vs ds ps
  | [], vs, ds, ps, _, h, _ => by
    cases vs <;> cases ds <;> simp [DataW.TrodAll] at h ⊢
    exact h
  | t :: ts, vs, ds, ps, hr, h, hlt => by
    obtain ⟨v, vs', d, ds', p, q, rfl, rfl, rfl, h0, hs⟩ := trodAll_cons h
    exact ⟨p, q, Below.trod hl (hr t (by simp)).1 (hr t (by simp)).2 h0 hb (fun x hx => hlt x (by simp [hx])), trodAll_stays hl hb (fun t' ht' => hr t' (by simp [ht'])) hs (fun x hx => hlt x (by simp [hx])), rfl⟩

/-- A LAW's ROW IS CLOSED: true was returned, and nothing that was there has changed. -/
theorem law_done {f : Func} {s : ChangeSpec} {W' : World} {args : Array Value} {ds gs : List (DataW H)} {before : List MemPlace} (hW : DataW.Whole enc P f.params.toList s.vars false W args.toList ds gs before)
    (hv : s.vars = []) (hl : laidOutB P = true) (hr : ∀ t ∈ f.params.toList, P.readableRec t = true ∧ t < P.types.size) {tb : TypeId} (hrt : f.resultTypes = #[tb]) (htb : P.underlying tb = some .bool)
    (hres : (s.fn H (ds ++ gs)).results = [.lit (.bool true)]) (hargs : (s.fn H (ds ++ gs)).args = ds) (hvs : (s.fn H (ds ++ gs)).vars = []) (hB : Below W.heap.size W W') :
    s.post enc P f false true false false W args (.bool true) W' := by
  have hlt : ∀ p ∈ before, p.block < W.heap.size := fun p hp => hW.lt p hp
  have hW2 := hW
  obtain ⟨p, q, hA, hV, rfl, _, _⟩ := hW
  rw [hv] at hV
  obtain ⟨rfl, rfl⟩ := trodVars_none hV
  refine ⟨ds, _, _, [], p, [], hW2, ?_, ?_, ?_, ?_, fun h => by cases h⟩
  · rw [hres, hrt]
    exact trodAll_mk1 (shut_bool htb _)
  · rw [hargs]
    exact trodAll_stays hl hB hr hA (fun x hx => hlt x (by simp [hx]))
  · rw [hvs, hv]; rfl
  · refine World.keptBut_mono (fun x hx => ⟨hx, Or.inr (Or.inl ?_)⟩) (hB.frame (· ∈ p ++ []))
    simpa using hx
end
end Go.Proofs.Ytaaijgalminafaa
