/-
  Layer 8: what RelTells leans on: the columns of the key, one by one; relations at hand.
-/
import Derived.Test.YtcblmcpmdpnlbaaRf4
import Derived.Test.YtcblmcpmdpnlbaaBk
import Derived.Test.YtcblmcpmdpnlbaaReB
import Derived.Test.YtcblmcpmdpnlbaaMem
namespace Go.Proofs.Ytcblmcpmdpnlbaa
open Go.RowKit

/-- The place of the last one that has come; -1: none has. -/
def lastOf (pre : List (Nat × Col)) : Int := match pre.getLast? with
  | some x => (x.1 : Int)
  | none => -1
theorem lastOf_snoc (pre : List (Nat × Col)) (x : Nat × Col) : lastOf (pre ++ [x]) = (x.1 : Int) := by simp [lastOf]
theorem lastOf_nil : lastOf [] = -1 := rfl
theorem lastOf_lo (pre : List (Nat × Col)) : -1 ≤ lastOf pre := by unfold lastOf; split <;> omega
theorem lastOf_lt (l : List Col) : ∀ k, k ≤ l.length → lastOf (keysTo l k) < (k : Int)
  | 0, _ => by simp [keysTo, lastOf]
  | k + 1, h => by
    have ih := lastOf_lt l k (by omega)
    have hk : l[k]? = some (l[k]'(by omega)) := List.getElem?_eq_getElem (by omega)
    by_cases hy : (l[k]'(by omega)).key = true
    · rw [keysTo_yes hk hy, lastOf_snoc]; simp only; omega
    · rw [Bool.not_eq_true] at hy
      rw [keysTo_no hk hy]; omega
theorem none_between (l : List Col) : ∀ k, k ≤ l.length → ∀ (j : Nat) (d : Col), lastOf (keysTo l k) < (j : Int) → j < k → l[j]? = some d → d.key = false
  | 0, _, j, d, _, hj, _ => by omega
  | k + 1, h, j, d, hl, hj, hd => by
    have ih := none_between l k (by omega) j d
    have hk : l[k]? = some (l[k]'(by omega)) := List.getElem?_eq_getElem (by omega)
    by_cases hy : (l[k]'(by omega)).key = true
    · rw [keysTo_yes hk hy, lastOf_snoc] at hl; simp only at hl; omega
    · rw [Bool.not_eq_true] at hy
      rw [keysTo_no hk hy] at hl
      by_cases e : j = k
      · subst e; rw [hd] at hk; injection hk with hk; rw [hk]; exact hy
      · exact ih hl (by omega) hd
/-- One came out of order. -/
def Bad (l : List Col) (p : List (Nat × Col)) : Prop := ∃ pre x, p = pre ++ [x] ∧ ((x.1 : Int) ≤ lastOf pre ∨ ∃ (j : Nat) (d : Col), lastOf pre < (j : Int) ∧ j < x.1 ∧ l[j]? = some d ∧ d.key = true)
theorem not_bad {l : List Col} {k : Nat} {d : Col} (hk : l[k]? = some d) : ¬ Bad l (keysTo l k ++ [(k, d)]) := by
  rintro ⟨pre, x, he, h⟩
  have hkl : k < l.length := (List.getElem?_eq_some_iff.1 hk).1
  obtain ⟨rfl, hx⟩ := List.append_inj' he rfl
  injection hx with hx _
  subst hx
  rcases h with h | ⟨j, d', h1, h2, h3, h4⟩
  · have := lastOf_lt l k (by omega); simp only at h; omega
  · have := none_between l k (by omega) j d' h1 h2 h3
    rw [h4] at this; cases this

/-- A relation that came in, or that the call has made: its columns lie somewhere. -/
structure RlAt (w : World) (B : Nat) (r : Rl) (A : Option Addr) (c : Nat) : Prop where
  rd : Rd w B 3 A r.cs.length (cols r.cs)
  lc : r.cs.length ≤ c
  cm : c ≤ maxLen
structure RlOk (r : Rl) : Prop where
  nm : r.name.size ≤ maxLen
  nms : ∀ o ∈ r.cs, o.name.size ≤ maxLen
  o : r.oid < 4294967296
  v : r.ver < 4294967296
theorem RlAt.up {w w' : World} {B D B' : Nat} {r : Rl} {A : Option Addr} {c : Nat} (h : RlAt w B r A c) (hb : Below D w w') (hD : B ≤ D) (hB : B ≤ B') : RlAt w' B' r A c := ⟨h.rd.up hb hD hB, h.lc, h.cm⟩
theorem Rl.v_cells (r : Rl) (A : Option Addr) (c : Nat) : r.v A c = .agg (r.cells (.slice A r.cs.length c)) := rfl
/-- A row leans on its block alone. -/
theorem own_block {w w' : World} {base size n : Nat} {e : TypeId} {v : Value} {xs : List Value} (h : w.ownsRow base e size v n xs) (hk : ∀ g, v.ownBlock = some g → w'.heap[g]? = w.heap[g]?) : w'.ownsRow base e size v n xs := by
  refine ⟨h.1, ?_⟩
  rcases h.2 with h2 | ⟨g, cap, cur, rfl, hb, hg, hr⟩
  · exact .inl h2
  · exact .inr ⟨g, cap, cur, rfl, hb, (hk g rfl).trans hg, hr⟩
/-- A relation's value whose columns are a row of the call's own. -/
def supRl (B : Nat) (e : TypeId) (r : Rl) : Mem.Sup where
  p v S w := ∃ col, v = .agg (r.cells col) ∧ w.ownsRow B e 3 col r.cs.length (cols r.cs) ∧ ∀ g, col.ownBlock = some g → S g
  keep := fun _ _ _ _ ⟨col, h1, h2, h3⟩ hk _ => ⟨col, h1, own_block h2 (fun g hg => hk g (h3 g hg)), h3⟩
theorem retRl_sup {B : Nat} {e : TypeId} {r : Rl} {w : World} (hB : B ≤ w.heap.size) : ∀ en w', RetRl e r w en w' → ∃ u, ∃ S : Nat → Prop, en = .returned u ∧ Below w.heap.size w w' ∧ (supRl B e r).p u S w' ∧ ∀ g, S g → g < w'.heap.size ∧ (g < B ∨ w.heap.size ≤ g) := by
  rintro en w' ⟨col, rfl, hown, hb⟩
  refine ⟨_, fun g => col.ownBlock = some g, rfl, hb, ⟨col, rfl, own_le hown hB, fun g hg => hg⟩, fun g hg => ?_⟩
  have := hown.lt g hg
  exact ⟨this.2, .inr this.1⟩
end Go.Proofs.Ytcblmcpmdpnlbaa
