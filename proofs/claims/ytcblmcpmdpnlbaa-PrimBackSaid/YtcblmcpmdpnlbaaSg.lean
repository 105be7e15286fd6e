/-
  Layer 1: what is read of any bytes, and ends there, is put as just these; the answers of operations that draw their order, with a reader among them.
-/
import Derived.Test.YtcblmcpmdpnlbaaSf
import Derived.Test.YtcblmcpmdpnlbaaLp
namespace Go.Proofs.Ytcblmcpmdpnlbaa
open Go.RowKit Mono

theorem Rdr.giveUp_bad (r : Rdr) {e : Int} (he : e ≠ 0) : (r.giveUp e).bad ≠ 0 := by
  unfold Rdr.giveUp; split
  · exact he
  · assumption
theorem Rdr.uint_ok {r : Rdr} {limit : Nat} (h : (r.uint limit).2.bad = 0) : r.bad = 0 ∧ r.rest = sevens (r.uint limit).1 ++ (r.uint limit).2.rest ∧ (r.uint limit).1 ≤ limit := by
  unfold Rdr.uint at h ⊢
  by_cases h0 : r.uintE limit = 0
  · rw [if_pos h0] at h ⊢
    unfold Rdr.uintE at h0
    split at h0
    · exact absurd h0 (by omega)
    · rename_i h1
      have hd : dgs 0 0 r.rest = (0, (dgs 0 0 r.rest).2.1, (dgs 0 0 r.rest).2.2) := by rw [← h0]
      obtain ⟨h2, h3⟩ := sevens_only hd
      refine ⟨h, ?_, by simp only; omega⟩
      simp only
      rw [← h3, List.take_append_drop]
  · rw [if_neg h0] at h
    exact absurd h (Rdr.giveUp_bad r h0)
theorem Rdr.take_ok {r : Rdr} {n : Nat} (h : (r.take n).2.bad = 0) : r.bad = 0 ∧ r.rest = (r.take n).1 ++ (r.take n).2.rest ∧ (r.take n).1.length = n := by
  unfold Rdr.take at h ⊢
  by_cases h0 : r.rest.length < n
  · rw [if_pos h0] at h
    exact absurd h (Rdr.giveUp_bad r (by omega))
  · rw [if_neg h0] at h ⊢
    exact ⟨h, (List.take_append_drop n _).symm, by simp; omega⟩
theorem Rdr.text_ok {r : Rdr} {limit : Int} (h : (r.text limit).2.bad = 0) : r.bad = 0 ∧ r.rest = sevens (r.text limit).1.length ++ (r.text limit).1 ++ (r.text limit).2.rest := by
  unfold Rdr.text at h ⊢
  obtain ⟨h1, h2, h3⟩ := Rdr.take_ok h
  obtain ⟨h4, h5, _⟩ := Rdr.uint_ok h1
  refine ⟨h4, ?_⟩
  rw [h3, List.append_assoc, ← h2]
  exact h5
theorem Rdr.fin_ok {r : Rdr} (h : r.fin = 0) : r.bad = 0 ∧ r.rest = [] := by
  unfold Rdr.fin at h
  split at h
  · exact absurd h (by omega)
  · rename_i h1
    refine ⟨h, ?_⟩
    cases hr : r.rest with
    | nil => rfl
    | cons a t => exact absurd ⟨h, by rw [hr]; simp⟩ h1
theorem textB_of (u : List UInt8) : textB ⟨u.toArray⟩ = sevens u.length ++ u := by
  unfold textB
  simp [ByteArray.size]
theorem read_back {l : List UInt8} {m : Nat} {limit : Int} (h : (((Rdr.mk l 0).uint m).2.text limit).2.fin = 0) : l = sevens ((Rdr.mk l 0).uint m).1 ++ textB ⟨(((Rdr.mk l 0).uint m).2.text limit).1.toArray⟩ := by
  obtain ⟨h1, h2⟩ := Rdr.fin_ok h
  obtain ⟨h3, h4⟩ := Rdr.text_ok h1
  obtain ⟨_, h5, _⟩ := Rdr.uint_ok h3
  rw [textB_of]
  rw [h2, List.append_nil] at h4
  rw [← h4]
  exact h5
theorem text_len_le (r : Rdr) (limit : Int) : (r.text limit).1.length ≤ r.rest.length := by
  unfold Rdr.text Rdr.take
  have := r.uint_rest (max 0 limit).toNat
  split
  · simp
  · simp; omega
theorem Rdr.int_zig {v : Int} (h : -9223372036854775808 ≤ v ∧ v ≤ 9223372036854775807) (r : List UInt8) : (Rdr.mk (sevens (zig v).toNat ++ r) 0).int = (v, ⟨r, 0⟩) := by
  have hz := zig_range v h
  unfold Rdr.int
  rw [Rdr.uint_sevens (by omega), if_neg (by omega)]
  simp [zig_zag v h]

/-- What an operation that extends the world answers, where it may be a reader too. -/
inductive Bns
  | rd (xs : List UInt8)
  | val (v : Value)
  | rdr (B : Nat) (l : List UInt8)
  | any
def bnsR (f : Nat → Bns) (k : Nat) (v : Value) (w : World) : Prop :=
  match f k with
  | .rd xs => RdS 1 (byt xs) v w
  | .val u => v = u
  | .rdr B l => ∃ g, v = .pointer (some ⟨g, 0, none⟩) ∧ B ≤ g ∧ PR w g ⟨l, 0⟩
  | .any => True
def bnsE (f : Nat → Bns) (k : Nat) : Bool :=
  match f k with
  | .any => false
  | _ => true
theorem bns_good (f : Nat → Bns) (w0 : World) : Mono.Good (Below w0.heap.size w0) Ext (bnsR f) := by
  refine ⟨fun w w' h he => step_below h he, fun i v w w' h he => ?_⟩
  unfold bnsR at h ⊢
  split at h
  · exact h.up he
  · exact h
  · obtain ⟨g, h1, h2, h3⟩ := h
    exact ⟨g, h1, h2, h3.below he h3.lt⟩
  · trivial
theorem rets_ownB {f : Nat → Bns} {k n : Nat} {xs : List UInt8} {w : World} {e : TypeId} (hf : f k = .rd xs) : ∀ en w', RetO e 1 n (byt xs) w en w' → ∃ u, en = .returned u ∧ Ext w w' ∧ bnsR f k u w' := by
  rintro en w' ⟨o, rfl, hown, hb⟩
  obtain ⟨A1, c1, rfl, h1, h2, hR⟩ := Rd.of_own hown
  refine ⟨_, rfl, hb, ?_⟩
  unfold bnsR; rw [hf]
  exact ⟨A1, _, c1, rfl, hR⟩
theorem RdS.form {l : List UInt8} {v : Value} {w : World} (h : RdS 1 (byt l) v w) : ∃ A c, v = .slice A l.length c ∧ Rd w w.heap.size 1 A l.length (byt l) := by
  obtain ⟨A, n, c, rfl, hR⟩ := h
  have hn := hR.len1
  rw [byt_len] at hn
  subst hn
  exact ⟨A, c, rfl, hR⟩
end Go.Proofs.Ytcblmcpmdpnlbaa
