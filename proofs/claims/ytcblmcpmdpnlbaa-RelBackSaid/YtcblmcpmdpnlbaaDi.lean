/-
  Layer 8, plain law: what is encoded is decoded as it was; cut anywhere it is too short; and what is decoded is encoded to the same bytes.
-/
import Derived.Test.YtcblmcpmdpnlbaaDg
import Derived.Test.YtcblmcpmdpnlbaaSe
namespace Go.Proofs.Ytcblmcpmdpnlbaa
open Go.RowKit

theorem Rdr.uint_sevens {v limit : Nat} (hv : v < 18446744073709551616) (r : List UInt8) : (Rdr.mk (sevens v ++ r) 0).uint limit = if limit < v then (0, ⟨[], 4⟩) else (v, ⟨r, 0⟩) := by
  unfold Rdr.uint Rdr.uintE
  simp only [dgs_sevens hv r]
  by_cases h : limit < v
  · simp [h, Rdr.giveUp]
  · simp [h]
theorem Rdr.text_textB {s : ByteArray} {limit : Nat} (hv : s.size < 18446744073709551616) (r : List UInt8) : (Rdr.mk (textB s ++ r) 0).text (limit : Int) = if limit < s.size then ([], ⟨[], 4⟩) else (s.data.toList, ⟨r, 0⟩) := by
  unfold Rdr.text textB
  have e : (max 0 (limit : Int)).toNat = limit := by omega
  have hl := str_len s
  rw [e, List.append_assoc, Rdr.uint_sevens hv]
  by_cases h : limit < s.size
  · simp [h, Rdr.take]
  · simp only [h, if_false]
    unfold Rdr.take
    rw [if_neg (by simp only [List.length_append, hl]; omega)]
    rw [← hl, List.take_left, List.drop_left]
theorem str_back (s : ByteArray) : (⟨s.data.toList.toArray⟩ : ByteArray) = s := ByteArray.ext (by simp)
theorem Rdr.giveUp_bad (r : Rdr) {e : Int} (he : e ≠ 0) : (r.giveUp e).bad ≠ 0 := by
  unfold Rdr.giveUp; split
  · exact he
  · assumption
theorem Rdr.uint_ok {r : Rdr} {limit : Nat} (h : (r.uint limit).2.bad = 0) : r.bad = 0 ∧ r.rest = sevens (r.uint limit).1 ++ (r.uint limit).2.rest ∧ (r.uint limit).1 ≤ limit := by
  unfold Rdr.uint at h ⊢
  by_cases h0 : r.uintE limit = 0
  · rw [if_pos h0] at h ⊢
    unfold Rdr.uintE at h0
    split at h0
    · exact absurd h0 (by omega)
    · rename_i h1
      have hd : dgs 0 0 r.rest = (0, (dgs 0 0 r.rest).2.1, (dgs 0 0 r.rest).2.2) := by rw [← h0]
      obtain ⟨h2, h3⟩ := sevens_only hd
      refine ⟨h, ?_, by simp only; omega⟩
      simp only
      rw [← h3, List.take_append_drop]
  · rw [if_neg h0] at h
    exact absurd h (Rdr.giveUp_bad r h0)
theorem Rdr.take_ok {r : Rdr} {n : Nat} (h : (r.take n).2.bad = 0) : r.bad = 0 ∧ r.rest = (r.take n).1 ++ (r.take n).2.rest ∧ (r.take n).1.length = n := by
  unfold Rdr.take at h ⊢
  by_cases h0 : r.rest.length < n
  · rw [if_pos h0] at h
    exact absurd h (Rdr.giveUp_bad r (by omega))
  · rw [if_neg h0] at h ⊢
    exact ⟨h, (List.take_append_drop n _).symm, by simp; omega⟩
theorem Rdr.text_ok {r : Rdr} {limit : Int} (h : (r.text limit).2.bad = 0) : r.bad = 0 ∧ r.rest = sevens (r.text limit).1.length ++ (r.text limit).1 ++ (r.text limit).2.rest := by
  unfold Rdr.text at h ⊢
  obtain ⟨h1, h2, h3⟩ := Rdr.take_ok h
  obtain ⟨h4, h5, _⟩ := Rdr.uint_ok h1
  refine ⟨h4, ?_⟩
  rw [h3, List.append_assoc, ← h2]
  exact h5
theorem Rdr.fin_ok {r : Rdr} (h : r.fin = 0) : r.bad = 0 ∧ r.rest = [] := by
  unfold Rdr.fin at h
  split at h
  · exact absurd h (by omega)
  · rename_i h1
    refine ⟨h, ?_⟩
    cases hr : r.rest with
    | nil => rfl
    | cons a t => exact absurd ⟨h, by rw [hr]; simp⟩ h1
theorem textB_of (u : List UInt8) : textB ⟨u.toArray⟩ = sevens u.length ++ u := by
  unfold textB
  simp [ByteArray.size]

/-- A way of reading on takes up just these bytes; of fewer ones it says that they are too short. -/
structure Eats (f : Rdr → Rdr) (l : List UInt8) : Prop where
  all : ∀ t, f ⟨l ++ t, 0⟩ = ⟨t, 0⟩
  cut : ∀ k, k < l.length → f ⟨l.take k, 0⟩ = ⟨[], 1⟩
  dead : f ⟨[], 1⟩ = ⟨[], 1⟩
theorem Eats.comp {f g : Rdr → Rdr} {l m : List UInt8} (hf : Eats f l) (hg : Eats g m) : Eats (fun r => g (f r)) (l ++ m) := by
  refine ⟨fun t => by rw [List.append_assoc, hf.all, hg.all], fun k hk => ?_, by rw [hf.dead, hg.dead]⟩
  by_cases h : k < l.length
  · rw [List.take_append_of_le_length (by omega), hf.cut k h, hg.dead]
  · rw [List.take_append, List.take_of_length_le (by omega : l.length ≤ k), hf.all]
    rw [List.length_append] at hk
    exact hg.cut _ (by omega)
theorem Rdr.uint_dead (limit : Nat) : (Rdr.mk [] 1).uint limit = (0, ⟨[], 1⟩) := by
  unfold Rdr.uint Rdr.uintE Rdr.giveUp
  simp [dgs]
theorem Rdr.take_dead (n : Nat) : (Rdr.mk [] 1).take n = ([], ⟨[], 1⟩) := by
  unfold Rdr.take Rdr.giveUp
  by_cases h : 0 < n <;> simp [h]
theorem Rdr.uint_short {v limit : Nat} (hv : v < 18446744073709551616) {k : Nat} (hk : k < (sevens v).length) : (Rdr.mk ((sevens v).take k) 0).uint limit = (0, ⟨[], 1⟩) := by
  unfold Rdr.uint Rdr.uintE Rdr.giveUp
  simp [sevens_short hv hk]
theorem eats_uint {v limit : Nat} (hv : v < 18446744073709551616) (hl : v ≤ limit) : Eats (fun r => (r.uint limit).2) (sevens v) :=
  ⟨fun t => by rw [Rdr.uint_sevens hv, if_neg (by omega)], fun k hk => by rw [Rdr.uint_short hv hk], by rw [Rdr.uint_dead]⟩
theorem eats_text {s : ByteArray} {limit : Nat} (hv : s.size < 18446744073709551616) (hl : s.size ≤ limit) : Eats (fun r => (r.text (limit : Int)).2) (textB s) := by
  have e : (max 0 (limit : Int)).toNat = limit := by omega
  have hs := str_len s
  refine ⟨fun t => by rw [Rdr.text_textB hv, if_neg (by omega)], fun k hk => ?_, ?_⟩
  · unfold Rdr.text textB at *
    rw [e]
    by_cases h : k < (sevens s.size).length
    · rw [List.take_append_of_le_length (by omega), Rdr.uint_short hv h]
      simp only [Rdr.take_dead]
    · rw [List.take_append, List.take_of_length_le (by omega : (sevens s.size).length ≤ k), Rdr.uint_sevens hv, if_neg (by omega)]
      rw [List.length_append] at hk
      unfold Rdr.take Rdr.giveUp
      simp only [List.length_take, hs]
      rw [if_pos (by omega)]
      rfl
  · unfold Rdr.text
    rw [e, Rdr.uint_dead]
    simp only [Rdr.take_dead]
theorem eats_byte (x : UInt8) : Eats (fun r => r.byte.2) [x] := by
  refine ⟨fun t => ?_, fun k hk => ?_, ?_⟩
  · unfold Rdr.byte Rdr.take; simp
  · have : k = 0 := by simp at hk; omega
    subst this
    unfold Rdr.byte Rdr.take Rdr.giveUp; simp
  · unfold Rdr.byte; rw [Rdr.take_dead]
theorem byte_all (x : UInt8) (t : List UInt8) : (Rdr.mk (x :: t) 0).byte = (x.toNat, ⟨t, 0⟩) := by
  unfold Rdr.byte Rdr.take; simp
/-- A column that may stand in a relation. -/
def Col.fine (c : Col) : Prop := c.name.size ≤ 31 ∧ c.type < 128
theorem eats_col {c : Col} (h : c.fine) : Eats (fun r => r.col.2) (colB c) :=
  Eats.comp (eats_text (limit := 31) (by have := h.1; omega) h.1) (eats_byte _)
theorem kind_mod {c : Col} (h : c.type < 128) : (UInt8.ofNat c.kind).toNat % 128 = c.type ∧ decide (128 ≤ (UInt8.ofNat c.kind).toNat) = c.key := by
  have hk : c.kind < 256 := Nat.mod_lt _ (by omega)
  rw [ofNat_toNat hk]
  unfold Col.kind
  cases hc : c.key
  · simp; omega
  · simp; omega
theorem col_all {c : Col} (h : c.fine) (t : List UInt8) : (Rdr.mk (colB c ++ t) 0).col = (c, ⟨t, 0⟩) := by
  unfold Rdr.col colB
  rw [List.append_assoc]
  have ht := Rdr.text_textB (s := c.name) (limit := 31) (by have := h.1; omega) ([UInt8.ofNat c.kind] ++ t)
  rw [if_neg (by have := h.1; omega)] at ht
  rw [show ((31 : Nat) : Int) = 31 from rfl] at ht
  rw [ht]
  simp only [List.cons_append, List.nil_append, byte_all]
  obtain ⟨h1, h2⟩ := kind_mod h.2
  rw [h1, h2, str_back]
theorem colsTo_all {cs : List Col} (h : ∀ c ∈ cs, c.fine) : ∀ j, j ≤ cs.length → colsTo ⟨cs.flatMap colB, 0⟩ j = (cs.take j, ⟨(cs.drop j).flatMap colB, 0⟩)
  | 0, _ => by simp [colsTo]
  | j + 1, hj => by
    have hd : cs.drop j = cs[j] :: cs.drop (j + 1) := List.drop_eq_getElem_cons (by omega)
    unfold colsTo
    rw [colsTo_all h j (by omega), hd]
    simp only [List.flatMap_cons]
    rw [col_all (h _ (List.getElem_mem _))]
    rw [List.take_succ_eq_append_getElem (by omega : j < cs.length)]
theorem colsTo_dead : ∀ j, (colsTo ⟨[], 1⟩ j).2 = ⟨[], 1⟩
  | 0 => rfl
  | j + 1 => by
    show (colsTo ⟨[], 1⟩ j).2.col.2 = _
    rw [colsTo_dead j]
    unfold Rdr.col Rdr.text
    rw [Rdr.uint_dead]
    simp only [Rdr.take_dead]
    unfold Rdr.byte
    rw [Rdr.take_dead]
theorem eats_cols {cs : List Col} (h : ∀ c ∈ cs, c.fine) : ∀ j, j ≤ cs.length → Eats (fun r => (colsTo r j).2) ((cs.take j).flatMap colB)
  | 0, _ => ⟨fun t => by simp [colsTo], fun k hk => by simp at hk, rfl⟩
  | j + 1, hj => by
    rw [List.take_succ_eq_append_getElem (by omega : j < cs.length), List.flatMap_append]
    have := (eats_cols h j (by omega)).comp (eats_col (h _ (List.getElem_mem (show j < cs.length by omega))))
    simpa [colsTo] using this

/-- What may stand in a relation, as far as its bytes go. -/
structure Rl.Fine (r : Rl) : Prop where
  o : r.oid < 4294967296
  v : r.ver < 4294967296
  n : r.name.size ≤ 31
  i : r.ident < 256
  cs : r.cs.length ≤ 16
  col : ∀ c ∈ r.cs, c.fine
theorem Rl.Ok.fine {r : Rl} (h : r.Ok) (ho : r.oid < 4294967296) (hv : r.ver < 4294967296) : r.Fine :=
  ⟨ho, hv, named_size h.name, by have := h.ident; omega, h.hi, fun c hc => by have := colsE_zero h.cols c hc; exact ⟨named_size this.1, by omega⟩⟩
def headR (r : Rdr) : Rdr := ((((r.uint 4294967295).2.uint 4294967295).2.text 31).2.byte.2.uint 16).2
theorem eats_head {r : Rl} (h : r.Fine) : Eats headR r.head :=
  ((((eats_uint (by have := h.o; omega) (by have := h.o; omega)).comp (eats_uint (by have := h.v; omega) (by have := h.v; omega))).comp (eats_text (limit := 31) (by have := h.n; omega) h.n)).comp (eats_byte _)).comp (eats_uint (by have := h.cs; omega) h.cs)
theorem dc5_head (l : List UInt8) : (dc5 l).2 = headR ⟨l, 0⟩ := rfl
theorem dc_head {r : Rl} (h : r.Fine) (t : List UInt8) : (dc1 (r.head ++ t)).1 = r.oid ∧ (dc2 (r.head ++ t)).1 = r.ver ∧ (dc3 (r.head ++ t)).1 = r.name.data.toList ∧ (dc4 (r.head ++ t)).1 = r.ident ∧ dc5 (r.head ++ t) = (r.cs.length, ⟨t, 0⟩) := by
  have h1 : dc1 (r.head ++ t) = (r.oid, ⟨sevens r.ver ++ (textB r.name ++ (UInt8.ofNat r.ident :: (sevens r.cs.length ++ t))), 0⟩) := by
    unfold dc1 Rl.head
    simp only [List.append_assoc]
    rw [Rdr.uint_sevens (by have := h.o; omega), if_neg (by have := h.o; omega)]
    rfl
  have h2 : dc2 (r.head ++ t) = (r.ver, ⟨textB r.name ++ (UInt8.ofNat r.ident :: (sevens r.cs.length ++ t)), 0⟩) := by
    unfold dc2
    rw [h1, Rdr.uint_sevens (by have := h.v; omega), if_neg (by have := h.v; omega)]
  have h3 : dc3 (r.head ++ t) = (r.name.data.toList, ⟨UInt8.ofNat r.ident :: (sevens r.cs.length ++ t), 0⟩) := by
    unfold dc3
    rw [h2]
    have := Rdr.text_textB (s := r.name) (limit := 31) (by have := h.n; omega) (UInt8.ofNat r.ident :: (sevens r.cs.length ++ t))
    rw [if_neg (by have := h.n; omega)] at this
    exact this
  have h4 : dc4 (r.head ++ t) = (r.ident, ⟨sevens r.cs.length ++ t, 0⟩) := by
    unfold dc4
    rw [h3, byte_all, ofNat_toNat h.i]
  refine ⟨by rw [h1], by rw [h2], by rw [h3], by rw [h4], ?_⟩
  unfold dc5
  rw [h4, Rdr.uint_sevens (by have := h.cs; omega), if_neg (by have := h.cs; omega)]
/-- What is encoded is decoded as it was. -/
theorem dc_back {r : Rl} (h : r.Fine) : dcR r.bytes (dc5 r.bytes).1 = r ∧ (colsTo (dc5 r.bytes).2 (dc5 r.bytes).1).2 = ⟨[], 0⟩ := by
  obtain ⟨h1, h2, h3, h4, h5⟩ := dc_head h (r.cs.flatMap colB)
  have hc := colsTo_all h.col r.cs.length (Nat.le_refl _)
  have hb : r.bytes = r.head ++ r.cs.flatMap colB := rfl
  unfold dcR
  rw [hb, h1, h2, h3, h4, h5]
  simp only
  rw [hc]
  simp
theorem dcE_back {r : Rl} (h : r.Fine) (hz : r.rightE = 0) : dcE r.bytes = 0 ∧ dcV r.bytes = r := by
  obtain ⟨h1, h2⟩ := dc_back h
  have e : dcE r.bytes = 0 := by
    unfold dcE
    rw [h2, h1, hz]
    simp [Rdr.fin]
  refine ⟨e, ?_⟩
  unfold dcV
  rw [if_pos e, h1]
theorem dcE_cut {r : Rl} (h : r.Fine) {k : Nat} (hk : k < r.bytes.length) : dcE (r.bytes.take k) = 1 := by
  have hd : (colsTo (dc5 (r.bytes.take k)).2 (dc5 (r.bytes.take k)).1).2 = ⟨[], 1⟩ := by
    have hb : r.bytes = r.head ++ r.cs.flatMap colB := rfl
    rw [hb] at hk ⊢
    by_cases hlt : k < r.head.length
    · rw [List.take_append_of_le_length (by omega)]
      rw [dc5_head, (eats_head h).cut k hlt, colsTo_dead]
    · rw [List.take_append, List.take_of_length_le (by omega : r.head.length ≤ k)]
      obtain ⟨_, _, _, _, h5⟩ := dc_head h ((r.cs.flatMap colB).take (k - r.head.length))
      rw [h5]
      rw [List.length_append] at hk
      have := (eats_cols h.col r.cs.length (Nat.le_refl _)).cut (k - r.head.length) (by rw [List.take_length]; omega)
      rw [List.take_length] at this
      exact this
  unfold dcE
  rw [hd]
  simp [Rdr.fin]
theorem Rdr.byte_ok {r : Rdr} (h : r.byte.2.bad = 0) : r.bad = 0 ∧ r.rest = UInt8.ofNat r.byte.1 :: r.byte.2.rest := by
  unfold Rdr.byte at h ⊢
  obtain ⟨h1, h2, h3⟩ := Rdr.take_ok h
  refine ⟨h1, ?_⟩
  rw [h2]
  match hq : (r.take 1).1, h3 with
  | [x], _ => simp
theorem Rdr.col_ok {r : Rdr} (h : r.col.2.bad = 0) : r.bad = 0 ∧ r.rest = colB r.col.1 ++ r.col.2.rest := by
  unfold Rdr.col at h ⊢
  obtain ⟨h1, h2⟩ := Rdr.byte_ok h
  obtain ⟨h3, h4⟩ := Rdr.text_ok h1
  refine ⟨h3, ?_⟩
  have hlt := (r.text 31).2.byte_lt
  unfold colB Col.kind
  simp only
  rw [textB_of, h4, h2]
  have : ((r.text 31).2.byte.1 % 128 + if decide (128 ≤ (r.text 31).2.byte.1) = true then 128 else 0) % 256 = (r.text 31).2.byte.1 := by
    by_cases h128 : 128 ≤ (r.text 31).2.byte.1
    · simp [h128]; omega
    · simp [h128]; omega
  rw [this]
  simp
theorem colsTo_ok_back (r : Rdr) : ∀ j, (colsTo r j).2.bad = 0 → r.bad = 0 ∧ r.rest = (colsTo r j).1.flatMap colB ++ (colsTo r j).2.rest
  | 0, h => ⟨h, by simp [colsTo]⟩
  | j + 1, h => by
    obtain ⟨h1, h2⟩ := Rdr.col_ok (r := (colsTo r j).2) h
    obtain ⟨h3, h4⟩ := colsTo_ok_back r j h1
    refine ⟨h3, ?_⟩
    rw [h4, h2]
    simp [colsTo]
/-- What is decoded is encoded to the same bytes. -/
theorem dc_only {l : List UInt8} (h : dcE l = 0) : (dcV l).rightE = 0 ∧ (dcV l).bytes = l := by
  have hv : dcV l = dcR l (dc5 l).1 := by unfold dcV; rw [if_pos h]
  have hf : (colsTo (dc5 l).2 (dc5 l).1).2.fin = 0 := by
    by_cases hf : (colsTo (dc5 l).2 (dc5 l).1).2.fin = 0
    · exact hf
    · unfold dcE at h; rw [if_neg hf] at h; exact h
  have hr : (dcR l (dc5 l).1).rightE = 0 := by unfold dcE at h; rw [if_pos hf] at h; exact h
  refine ⟨by rw [hv]; exact hr, ?_⟩
  obtain ⟨k1, k2⟩ := Rdr.fin_ok hf
  obtain ⟨k3, k4⟩ := colsTo_ok_back _ _ k1
  obtain ⟨k5, k6, _⟩ := Rdr.uint_ok (r := (dc4 l).2) (limit := 16) k3
  obtain ⟨k7, k8⟩ := Rdr.byte_ok (r := (dc3 l).2) k5
  obtain ⟨k9, k10⟩ := Rdr.text_ok (r := (dc2 l).2) (limit := 31) k7
  obtain ⟨k11, k12, _⟩ := Rdr.uint_ok (r := (dc1 l).2) (limit := 4294967295) k9
  obtain ⟨_, k14, _⟩ := Rdr.uint_ok (r := ⟨l, 0⟩) (limit := 4294967295) k11
  have hl : l = sevens (dc1 l).1 ++ (dc1 l).2.rest := k14
  have e1 : (dc1 l).2.rest = sevens (dc2 l).1 ++ (dc2 l).2.rest := k12
  have e2 : (dc2 l).2.rest = sevens (dc3 l).1.length ++ (dc3 l).1 ++ (dc3 l).2.rest := k10
  have e3 : (dc3 l).2.rest = UInt8.ofNat (dc4 l).1 :: (dc4 l).2.rest := k8
  have e4 : (dc4 l).2.rest = sevens (dc5 l).1 ++ (dc5 l).2.rest := k6
  rw [k2, List.append_nil] at k4
  have hcl := colsTo_len (dc5 l).2 (dc5 l).1
  rw [hv]
  unfold Rl.bytes Rl.head dcR
  simp only
  rw [textB_of, hcl, ← k4]
  conv => rhs; rw [hl, e1, e2, e3, e4]
  simp
theorem Rl.bytes_le {r : Rl} (h : r.Fine) : r.bytes.length ≤ 900 := by
  have l1 := sevens_len r.oid
  have l2 := sevens_len r.ver
  have l3 := sevens_len r.name.size
  have l4 : (sevens r.cs.length).length = 1 := by rw [sevens_small _ (by have := h.cs; omega)]; rfl
  have hn := h.n
  have hcs : ∀ cs : List Col, (∀ c ∈ cs, c.fine) → (cs.flatMap colB).length ≤ 42 * cs.length := by
    intro cs
    induction cs with
    | nil => simp
    | cons c cs ih =>
      intro hc
      have hc1 := (hc c (by simp)).1
      have := ih (fun d hd => hc d (by simp [hd]))
      have l5 := sevens_len c.name.size
      simp only [List.flatMap_cons, List.length_append, List.length_cons, colB, textB_len, List.length_nil]
      omega
  have := hcs r.cs h.col
  have := h.cs
  unfold Rl.bytes Rl.head
  simp only [List.length_append, List.length_cons, List.length_nil, textB_len, l4]
  omega
end Go.Proofs.Ytcblmcpmdpnlbaa
