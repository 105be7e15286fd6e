import Derived.Test.YtaaijgalminafaaRe
import Derived.Test.YtaaijgalminafaaAl
/-
  An answer that comes out of another one, in a region that makes blocks; answers that are events and transactions with a word.
-/
namespace Go.Proofs.Ytaaijgalminafaa
open Go.RowKit State Mem

theorem Mem.Mem.derive {kind : Nat → Kind} {W w : World} {F : Nat → Option Value} {k i : Nat} {v u : Value} {φ ψ : Sup} (h : Mem kind W F w) (hk : kind k = .sup φ) (hst : ∀ i j c, kind i = .store j c → (j = k ∨ c = .ans k) → F i = none)
    (hi : kind i = .sup ψ) (hv : F i = some v) (hd : ∀ T, ψ.p v T w → φ.p u T w) : Mem kind W (upd F k u) w := by
  have val : ∀ {i u'}, upd F k u i = some u' → (i = k ∧ u' = u) ∨ (i ≠ k ∧ F i = some u') := fun {i u'} hu => by
    by_cases e : i = k
    · subst e; rw [upd_same] at hu; injection hu with hu; exact .inl ⟨rfl, hu.symm⟩
    · rw [upd_other e] at hu; exact .inr ⟨e, hu⟩
  have box : ∀ {j n t g}, kind j = .box n t → upd F k u j = some (.pointer (some ⟨g, 0, none⟩)) → F j = some (.pointer (some ⟨g, 0, none⟩)) := fun {j n t g} hj hg => by
    rwa [upd_other (fun e => by subst e; rw [hj] at hk; cases hk)] at hg
  refine ⟨h.b, fun i' ψ' hi' u' hu => ?_, fun i' m s hi' u' hu => ?_, fun i' j n' m t' s u' hi' hj hij hu hu' => ?_, fun i' j n' t' c hi' hj u' hu g hg cs' hcs' => ?_⟩
  · rcases val hu with ⟨rfl, rfl⟩ | ⟨_, hu⟩
    · rw [hi'] at hk; injection hk with hk; subst hk
      obtain ⟨T, h1, h2, h3⟩ := h.sup i ψ hi v hv
      exact ⟨T, hd T h1, h2, fun j n t g hj hg => h3 j n t g hj (box hj hg)⟩
    · obtain ⟨T, h1, h2, h3⟩ := h.sup i' ψ' hi' u' hu
      exact ⟨T, h1, h2, fun j n t g hj hg => h3 j n t g hj (box hj hg)⟩
  · exact h.box i' m s hi' u' (by rwa [upd_other (fun e => by subst e; rw [hi'] at hk; cases hk)] at hu)
  · rw [upd_other (fun e => by subst e; rw [hi'] at hk; cases hk)] at hu
    rw [upd_other (fun e => by subst e; rw [hj] at hk; cases hk)] at hu'
    exact h.ne i' j n' m t' s u' hi' hj hij hu hu'
  · have hik : i' ≠ k := fun e => by subst e; rw [hi'] at hk; cases hk
    have hu' : F i' = some u' := by rwa [upd_other hik] at hu
    have hg' := box hj hg
    refine h.store i' j n' t' c hi' hj u' hu' g hg' cs' (Cont.is_down (fun m hm e => ?_) hcs')
    subst e
    have := hst i' j c hi' (.inr hm)
    rw [hu'] at this
    cases this
section
variable {P : Program} {md : Region.Mode} {ops : Array Oper} {L : List (Nat × Kind)} {W w : World} {F : Nat → Option Value} {k : Nat} {o : Oper} {a : Act}
/-- An answer that comes out of another one. -/
theorem acts_derive {φ ψ : Sup} {i : Nat} {u v : Value} (hM : Hid (memB md ops L = true)) (hk : kindOf L k = .sup φ) (hC : Mem (kindOf L) W F w) (ha : After ops md k F) (hi : kindOf L i = .sup ψ) (hv : F i = some v)
    (h : (execOp a.eval o).run P w = .ok (.value u) w) (hd : ∀ T, ψ.p v T w → φ.p u T w) : acts P (Mem (kindOf L) W) F k o a w :=
  acts_val h (hC.derive hk (mem_stores hM.out ha) hi hv hd)
end
def supEvB (S : Nat → Prop) (B : Nat) (K : Kd Ce) (e : Ev) (b : Bool) : Mem.Sup where
  p v T w := ∃ y : Er, v = .tuple #[(KE K).v y, .bool b] ∧ y.ev = e ∧ ErAt K w T y ∧ ∀ g, T g → S g ∨ B ≤ g
  keep := fun _ _ _ _ ⟨y, h0, h1, h2, h3⟩ hk _ => ⟨y, h0, h1, h2.up (fun _ hp => World.cell?_of_block (hk _ hp)) fun _ h => h, h3⟩
def supEv (S : Nat → Prop) (B : Nat) (K : Kd Ce) (e : Ev) : Mem.Sup where
  p v T w := ∃ y : Er, v = (KE K).v y ∧ y.ev = e ∧ ErAt K w T y ∧ ∀ g, T g → S g ∨ B ≤ g
  keep := fun _ _ _ _ ⟨y, h0, h1, h2, h3⟩ hk _ => ⟨y, h0, h1, h2.up (fun _ hp => World.cell?_of_block (hk _ hp)) fun _ h => h, h3⟩
def supTxB (S : Nat → Prop) (B : Nat) (K : Kd Ce) (t : Tx) (b : Bool) : Mem.Sup where
  p v T w := ∃ y : Tr, v = .tuple #[(KT K).v y, .bool b] ∧ y.tx = t ∧ (KT K).at_ w T y ∧ ∀ g, T g → S g ∨ B ≤ g
  keep := fun _ _ _ _ ⟨y, h0, h1, h2, h3⟩ hk _ => ⟨y, h0, h1, (KT K).up h2 (fun _ hp => World.cell?_of_block (hk _ hp)) fun _ h => h, h3⟩
def supTx (S : Nat → Prop) (B : Nat) (K : Kd Ce) (t : Tx) : Mem.Sup where
  p v T w := ∃ y : Tr, v = (KT K).v y ∧ y.tx = t ∧ (KT K).at_ w T y ∧ ∀ g, T g → S g ∨ B ≤ g
  keep := fun _ _ _ _ ⟨y, h0, h1, h2, h3⟩ hk _ => ⟨y, h0, h1, (KT K).up h2 (fun _ hp => World.cell?_of_block (hk _ hp)) fun _ h => h, h3⟩
theorem retEvB_sup {K : Kd Ce} {f : Fl} {S : Nat → Prop} {e : Ev} {B : Nat} {w : World} (hB : B ≤ w.heap.size) (hS : ∀ b, S b → b < B) : ∀ en w', RetEvB K f S e w en w' →
    ∃ u, ∃ T : Nat → Prop, en = .returned u ∧ Below w.heap.size w w' ∧ (supEvB S B K (evR f e).1 (evR f e).2).p u T w' ∧ ∀ g, T g → g < w'.heap.size ∧ (g < B ∨ w.heap.size ≤ g) := by
  rintro en w' ⟨y, rfl, h1, h2, h3⟩
  refine ⟨_, Since S w.heap.size w', rfl, h3, ⟨y, rfl, h1, h2, fun g hg => hg.imp id fun h => Nat.le_trans hB h.1⟩, fun g hg => ?_⟩
  rcases hg with hg | ⟨h4, h5⟩
  · have := hS g hg
    have := h3.size
    exact ⟨by omega, .inl (hS g hg)⟩
  · exact ⟨h5, .inr h4⟩
theorem retTxB_sup {K : Kd Ce} {f : Fl} {S : Nat → Prop} {t : Tx} {B : Nat} {w : World} (hB : B ≤ w.heap.size) (hS : ∀ b, S b → b < B) : ∀ en w', RetTxB K f S t w en w' →
    ∃ u, ∃ T : Nat → Prop, en = .returned u ∧ Below w.heap.size w w' ∧ (supTxB S B K (txR f t).1 (txR f t).2).p u T w' ∧ ∀ g, T g → g < w'.heap.size ∧ (g < B ∨ w.heap.size ≤ g) := by
  rintro en w' ⟨y, rfl, h1, h2, h3⟩
  refine ⟨_, Since S w.heap.size w', rfl, h3, ⟨y, rfl, h1, h2, fun g hg => hg.imp id fun h => Nat.le_trans hB h.1⟩, fun g hg => ?_⟩
  rcases hg with hg | ⟨h4, h5⟩
  · have := hS g hg
    have := h3.size
    exact ⟨by omega, .inl (hS g hg)⟩
  · exact ⟨h5, .inr h4⟩
end Go.Proofs.Ytaaijgalminafaa
