/-
  Layer 24: answers that are filters, in a region that makes blocks.
-/
import Derived.Test.YtaaijgalminafaaFp
namespace Go.Proofs.Ytaaijgalminafaa
open Go.RowKit State Mem

/-- A row leans on its block alone. -/
theorem own_block {w w' : World} {base size n : Nat} {e : TypeId} {v : Value} {xs : List Value} (h : w.ownsRow base e size v n xs) (hk : ∀ g, v.ownBlock = some g → w'.heap[g]? = w.heap[g]?) : w'.ownsRow base e size v n xs := by
  refine ⟨h.1, ?_⟩
  rcases h.2 with h2 | ⟨g, cap, cur, rfl, hb, hg, hr⟩
  · exact .inl h2
  · exact .inr ⟨g, cap, cur, rfl, hb, (hk g rfl).trans hg, hr⟩
/-- A filter of which P holds, its oids a row of the call's own. -/
def supFl (B : Nat) (P : Fl → Prop) : Mem.Sup where
  p v S w := ∃ r u, P r ∧ v = .agg (r.cells u) ∧ w.ownsRow B 25 1 u r.oids.length (u32s r.oids) ∧ ∀ g, u.ownBlock = some g → S g
  keep := fun _ _ _ _ ⟨r, u, h0, h1, h2, h3⟩ hk _ => ⟨r, u, h0, h1, own_block h2 (fun g hg => hk g (h3 g hg)), h3⟩
theorem retFl_sup {B : Nat} {P : Fl → Prop} {w : World} (hB : B ≤ w.heap.size) : ∀ en w', (∃ r, RetFl r w en w' ∧ P r) → ∃ u, ∃ S : Nat → Prop, en = .returned u ∧ Below w.heap.size w w' ∧ (supFl B P).p u S w' ∧ ∀ g, S g → g < w'.heap.size ∧ (g < B ∨ w.heap.size ≤ g) := by
  rintro en w' ⟨r, ⟨u, rfl, hown, hb⟩, hP⟩
  refine ⟨_, fun g => u.ownBlock = some g, rfl, hb, ⟨r, u, hP, rfl, own_le hown hB, fun g hg => hg⟩, fun g hg => ?_⟩
  have := hown.lt g hg
  exact ⟨this.2, .inr this.1⟩
theorem supFl_at {B : Nat} {P : Fl → Prop} {r : Fl} {v : Value} {S : Nat → Prop} {w : World} (hu : ∀ r r', P r → P r' → r = r') (hP : P r) (h : (supFl B P).p (.agg (r.cells v)) S w) :
    w.ownsRow B 25 1 v r.oids.length (u32s r.oids) ∧ ∀ g, v.ownBlock = some g → S g := by
  obtain ⟨r', u, h0, h1, h2, h3⟩ := h
  obtain rfl := hu _ _ h0 hP
  have := fl_inj h1
  subst this
  exact ⟨h2, h3⟩
/-- The reading of an answer that is a filter, at a later step. -/
theorem supFl_use {L : List (Nat × Kind)} {W w : World} {F : Nat → Option Value} {B : Nat} {P : Fl → Prop} {r : Fl} {A : Option Addr} {c k : Nat} (hC : Mem.Mem (kindOf L) W F w) (hk : kindOf L k = .sup (supFl B P)) (hu : ∀ r r', P r → P r' → r = r') (hP : P r)
    (hF : F k = some (.agg (r.cells (.slice A r.oids.length c)))) : FlAt w w.heap.size r A c := by
  obtain ⟨S, hp, -⟩ := hC.sup k _ hk _ hF
  obtain ⟨A', c', e, h3⟩ := FlAt.of_own (supFl_at hu hP hp).1
  injection e with e1 _ e2
  subst e1 e2
  exact h3
theorem eq_uniq (f : Fl) : ∀ r r', r = f → r' = f → r = r' := fun _ _ h h' => h.trans h'.symm
theorem and_uniq (x y : Fl) : ∀ r r', AndIs x y r → AndIs x y r' → r = r' := fun _ _ h h' => h.uniq h'
def Left3 (x y z r : Fl) : Prop := ∃ r0, AndIs x y r0 ∧ AndIs r0 z r
def Right3 (x y z r : Fl) : Prop := ∃ r0, AndIs y z r0 ∧ AndIs x r0 r
theorem left_uniq (x y z : Fl) : ∀ r r', Left3 x y z r → Left3 x y z r' → r = r' := fun _ _ ⟨_, h1, h2⟩ ⟨_, h3, h4⟩ => by
  obtain rfl := h1.uniq h3
  exact h2.uniq h4
theorem right_uniq (x y z : Fl) : ∀ r r', Right3 x y z r → Right3 x y z r' → r = r' := fun _ _ ⟨_, h1, h2⟩ ⟨_, h3, h4⟩ => by
  obtain rfl := h1.uniq h3
  exact h2.uniq h4
theorem left_right {x y z c d : Fl} (h : Left3 x y z c) (h' : Right3 x y z d) : c = d := by
  obtain ⟨_, h1, h2⟩ := h
  obtain ⟨_, h3, h4⟩ := h'
  exact h1.assoc h2 h3 h4
theorem left_len {x y z r : Fl} (h : Left3 x y z r) : r.oids.length ≤ x.oids.length + y.oids.length + z.oids.length := by
  obtain ⟨_, h1, h2⟩ := h
  have := h1.len; have := h2.len
  omega
end Go.Proofs.Ytaaijgalminafaa
