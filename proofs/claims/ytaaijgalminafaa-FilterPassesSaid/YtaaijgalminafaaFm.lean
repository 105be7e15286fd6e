import Derived.Test.YtaaijgalminafaaFa1
/-
  Layer 24: two filters together: whichever comes first, whichever two of three are put together first: the plain law.
-/
namespace Go.Proofs.Ytaaijgalminafaa
open Go.RowKit

theorem band_def (a b : Int) : bits .and .u8 a b = IntKind.u8.wrap ((BitVec.ofInt 8 a &&& BitVec.ofInt 8 b).toNat : Int) := rfl
theorem band_comm (a b : Int) : bits .and .u8 a b = bits .and .u8 b a := by rw [band_def, band_def, BitVec.and_comm]
theorem band_ofInt (a b : Int) : BitVec.ofInt 8 (bits .and .u8 a b) = BitVec.ofInt 8 a &&& BitVec.ofInt 8 b := by
  rw [band_def]
  generalize BitVec.ofInt 8 a &&& BitVec.ofInt 8 b = V
  have h := V.isLt
  rw [IntKind.wrap_u8]
  have e : ((V.toNat : Int) % 256) = (V.toNat : Int) := by omega
  rw [e, BitVec.ofInt_natCast]
  exact BitVec.ofNat_toNat 8 V |>.trans (by simp)
theorem band_assoc (a b c : Int) : bits .and .u8 (bits .and .u8 a b) c = bits .and .u8 a (bits .and .u8 b c) := by
  rw [band_def (bits .and .u8 a b) c, band_ofInt, band_def a (bits .and .u8 b c), band_ofInt, BitVec.and_assoc]
theorem AndIs.comm {x y r : Fl} (h : AndIs x y r) : AndIs y x r :=
  ⟨by rw [h.all, Bool.and_comm], by rw [h.empty, Bool.and_comm], by rw [h.kinds, band_comm], by have := h.len; omega, h.nil, h.up, fun ha o => by
    rw [h.mem ha]; exact ⟨fun ⟨h1, h2, h3⟩ => ⟨h1.symm, h3, h2⟩, fun ⟨h1, h2, h3⟩ => ⟨h1.symm, h3, h2⟩⟩⟩
theorem AndIs.oid {x y r : Fl} (h : AndIs x y r) (o : Int) : r.oid o = (x.oid o && y.oid o) := by
  have hall := h.all
  cases ha : r.all with
  | true =>
    rw [ha] at hall
    have h1 := Bool.and_eq_true_iff.1 hall.symm
    simp [Fl.oid, ha, h1.1, h1.2]
  | false =>
    rw [Bool.eq_iff_iff]
    have e : r.oid o = true ↔ o ∈ r.oids := by simp [Fl.oid, ha]
    rw [e, h.mem ha, Bool.and_eq_true]
    refine ⟨fun h1 => h1.2, fun h1 => ⟨?_, h1⟩⟩
    rw [ha] at hall
    obtain ⟨h2, h3⟩ := h1
    unfold Fl.oid at h2 h3
    rw [Bool.or_eq_true, decide_eq_true_iff] at h2 h3
    rcases h2 with h2 | h2
    · rcases h3 with h3 | h3
      · rw [h2, h3] at hall; cases hall
      · exact .inr h3
    · exact .inl h2
theorem AndIs.mem_oid {x y r : Fl} (_ : AndIs x y r) (ha : r.all = false) (o : Int) : o ∈ r.oids ↔ r.oid o = true := by simp [Fl.oid, ha]
theorem AndIs.assoc {x y z a b c d : Fl} (ha : AndIs x y a) (hc : AndIs a z c) (hb : AndIs y z b) (hd : AndIs x b d) : c = d := by
  have e1 : c.all = d.all := by rw [hc.all, ha.all, hd.all, hb.all, Bool.and_assoc]
  have e2 : c.empty = d.empty := by rw [hc.empty, ha.empty, hd.empty, hb.empty, Bool.and_assoc]
  have e3 : c.kinds = d.kinds := by rw [hc.kinds, ha.kinds, hd.kinds, hb.kinds, band_assoc]
  have e4 : c.oids = d.oids := by
    cases h : c.all with
    | true => rw [hc.nil h, hd.nil (e1 ▸ h)]
    | false => exact up_uniq _ _ hc.up hd.up fun o => by rw [hc.mem_oid h, hd.mem_oid (e1 ▸ h), hc.oid, ha.oid, hd.oid, hb.oid, Bool.and_assoc]
  obtain ⟨c1, c2, c3, c4⟩ := c
  obtain ⟨d1, d2, d3, d4⟩ := d
  simp only at e1 e2 e3 e4
  rw [e1, e2, e3, e4]
end Go.Proofs.Ytaaijgalminafaa
/-
  Layer 24: answers that are filters, in a region that makes blocks.
-/
namespace Go.Proofs.Ytaaijgalminafaa
open Go.RowKit State Mem

/-- A row leans on its block alone. -/
theorem own_block {w w' : World} {base size n : Nat} {e : TypeId} {v : Value} {xs : List Value} (h : w.ownsRow base e size v n xs) (hk : ∀ g, v.ownBlock = some g → w'.heap[g]? = w.heap[g]?) : w'.ownsRow base e size v n xs := by
  refine ⟨h.1, ?_⟩
  rcases h.2 with h2 | ⟨g, cap, cur, rfl, hb, hg, hr⟩
  · exact .inl h2
  · exact .inr ⟨g, cap, cur, rfl, hb, (hk g rfl).trans hg, hr⟩
/-- A filter of which P holds, its oids a row of the call's own. -/
def supFl (B : Nat) (P : Fl → Prop) : Mem.Sup where
  p v S w := ∃ r u, P r ∧ v = .agg (r.cells u) ∧ w.ownsRow B 25 1 u r.oids.length (u32s r.oids) ∧ ∀ g, u.ownBlock = some g → S g
  keep := fun _ _ _ _ ⟨r, u, h0, h1, h2, h3⟩ hk _ => ⟨r, u, h0, h1, own_block h2 (fun g hg => hk g (h3 g hg)), h3⟩
theorem retFl_sup {B : Nat} {P : Fl → Prop} {w : World} (hB : B ≤ w.heap.size) : ∀ en w', (∃ r, RetFl r w en w' ∧ P r) → ∃ u, ∃ S : Nat → Prop, en = .returned u ∧ Below w.heap.size w w' ∧ (supFl B P).p u S w' ∧ ∀ g, S g → g < w'.heap.size ∧ (g < B ∨ w.heap.size ≤ g) := by
  rintro en w' ⟨r, ⟨u, rfl, hown, hb⟩, hP⟩
  refine ⟨_, fun g => u.ownBlock = some g, rfl, hb, ⟨r, u, hP, rfl, own_le hown hB, fun g hg => hg⟩, fun g hg => ?_⟩
  have := hown.lt g hg
  exact ⟨this.2, .inr this.1⟩
theorem supFl_at {B : Nat} {P : Fl → Prop} {r : Fl} {v : Value} {S : Nat → Prop} {w : World} (hu : ∀ r r', P r → P r' → r = r') (hP : P r) (h : (supFl B P).p (.agg (r.cells v)) S w) :
    w.ownsRow B 25 1 v r.oids.length (u32s r.oids) ∧ ∀ g, v.ownBlock = some g → S g := by
  obtain ⟨r', u, h0, h1, h2, h3⟩ := h
  obtain rfl := hu _ _ h0 hP
  have := fl_inj h1
  subst this
  exact ⟨h2, h3⟩
/-- The reading of an answer that is a filter, at a later step. -/
theorem supFl_use {L : List (Nat × Kind)} {W w : World} {F : Nat → Option Value} {B : Nat} {P : Fl → Prop} {r : Fl} {A : Option Addr} {c k : Nat} (hC : Mem.Mem (kindOf L) W F w) (hk : kindOf L k = .sup (supFl B P)) (hu : ∀ r r', P r → P r' → r = r') (hP : P r)
    (hF : F k = some (.agg (r.cells (.slice A r.oids.length c)))) : FlAt w w.heap.size r A c := by
  obtain ⟨S, hp, -⟩ := hC.sup k _ hk _ hF
  obtain ⟨A', c', e, h3⟩ := FlAt.of_own (supFl_at hu hP hp).1
  injection e with e1 _ e2
  subst e1 e2
  exact h3
theorem eq_uniq (f : Fl) : ∀ r r', r = f → r' = f → r = r' := fun _ _ h h' => h.trans h'.symm
theorem and_uniq (x y : Fl) : ∀ r r', AndIs x y r → AndIs x y r' → r = r' := fun _ _ h h' => h.uniq h'
def Left3 (x y z r : Fl) : Prop := ∃ r0, AndIs x y r0 ∧ AndIs r0 z r
def Right3 (x y z r : Fl) : Prop := ∃ r0, AndIs y z r0 ∧ AndIs x r0 r
theorem left_uniq (x y z : Fl) : ∀ r r', Left3 x y z r → Left3 x y z r' → r = r' := fun _ _ ⟨_, h1, h2⟩ ⟨_, h3, h4⟩ => by
  obtain rfl := h1.uniq h3
  exact h2.uniq h4
theorem right_uniq (x y z : Fl) : ∀ r r', Right3 x y z r → Right3 x y z r' → r = r' := fun _ _ ⟨_, h1, h2⟩ ⟨_, h3, h4⟩ => by
  obtain rfl := h1.uniq h3
  exact h2.uniq h4
theorem left_right {x y z c d : Fl} (h : Left3 x y z c) (h' : Right3 x y z d) : c = d := by
  obtain ⟨_, h1, h2⟩ := h
  obtain ⟨_, h3, h4⟩ := h'
  exact h1.assoc h2 h3 h4
theorem left_len {x y z r : Fl} (h : Left3 x y z r) : r.oids.length ≤ x.oids.length + y.oids.length + z.oids.length := by
  obtain ⟨_, h1, h2⟩ := h
  have := h1.len; have := h2.len
  omega
end Go.Proofs.Ytaaijgalminafaa
