import Derived.Test.YtaaijgalminafaaFi6
import Derived.Test.YtaaijgalminafaaClose3
/-
  Layer 24: events, transactions: what they hold, how they lie in memory.
-/
namespace Go.Proofs.Ytaaijgalminafaa
open Go.RowKit

/-- The slice value '.slice A n c' holds the cells xs, in a block of S. -/
def Rq (w : World) (S : Nat → Prop) (size : Nat) (A : Option Addr) (n : Nat) (xs : List Value) : Prop :=
  xs.length = n * size ∧ (0 < n → ∃ b off, A = some ⟨b, off, none⟩ ∧ S b ∧ ∀ j u, xs[j]? = some u → w.cell? ⟨b, off + j, none⟩ = some u)
/-- Cells in the blocks of S are as they were. -/
def Same (S : Nat → Prop) (w w' : World) : Prop := ∀ p : Addr, S p.block → w'.cell? p = w.cell? p
/-- S, and what has been made since there were b0 blocks. -/
def Since (S : Nat → Prop) (b0 : Nat) (w : World) : Nat → Prop := fun b => S b ∨ (b0 ≤ b ∧ b < w.heap.size)
def Lt (n : Nat) : Nat → Prop := fun b => b < n
theorem Same.below {S : Nat → Prop} {w w' : World} (hb : Below w.heap.size w w') (hS : ∀ b, S b → b < w.heap.size) : Same S w w' := fun _ hp => hb.cell (hS _ hp)
theorem Same.trans {S : Nat → Prop} {w w' w'' : World} (h : Same S w w') (h' : Same S w' w'') : Same S w w'' := fun p hp => (h' p hp).trans (h p hp)
theorem Same.refl (S : Nat → Prop) (w : World) : Same S w w := fun _ _ => rfl
theorem Same.setCell {S : Nat → Prop} {w : World} {p : Addr} (h : ¬ S p.block) (u : Value) : Same S w (w.setCell p u) := fun q hq => World.cell?_setCell_other w p q u (fun e => h (by rw [e]; exact hq))
theorem Same.less {S S' : Nat → Prop} {w w' : World} (h : Same S' w w') (hS : ∀ b, S b → S' b) : Same S w w' := fun p hp => h p (hS _ hp)
theorem Same.grown {S : Nat → Prop} {w w' : World} {g : Option Nat} (h : w.grownBy w' g) (hS : ∀ b, S b → b < w.heap.size ∧ g ≠ some b) : Same S w w' := fun p hp =>
  World.cell?_of_block (h.block p.block (hS _ hp).1 (fun e => (hS _ hp).2 e.symm))
theorem Since.lt {S : Nat → Prop} {b0 : Nat} {w : World} (hS : ∀ b, S b → b < w.heap.size) : ∀ b, Since S b0 w b → b < w.heap.size := fun b h => h.elim (hS b) (·.2)
theorem Since.up {S : Nat → Prop} {b0 : Nat} {w w' : World} (h : w.heap.size ≤ w'.heap.size) : ∀ b, Since S b0 w b → Since S b0 w' b := fun _ h' => h'.imp id fun ⟨h1, h2⟩ => ⟨h1, by omega⟩
theorem Since.more {S : Nat → Prop} {b0 b1 : Nat} {w w' : World} (hb : b0 ≤ b1) (hw : w.heap.size ≤ w'.heap.size) : ∀ b, Since (Since S b0 w) b1 w' b → Since S b0 w' b := fun b h => by
  rcases h with (h | ⟨h1, h2⟩) | ⟨h1, h2⟩
  · exact .inl h
  · exact .inr ⟨h1, by omega⟩
  · exact .inr ⟨by omega, h2⟩
section
variable {w w' : World} {S S' : Nat → Prop} {size n : Nat} {A : Option Addr} {xs : List Value}
theorem Rq.none_ : Rq w S size A 0 [] := ⟨by simp, fun h => absurd h (by omega)⟩
theorem Rq.up (h : Rq w S size A n xs) (hk : Same S w w') (hS : ∀ b, S b → S' b) : Rq w' S' size A n xs :=
  ⟨h.1, fun hn => by
    obtain ⟨b, off, e, hb, hc⟩ := h.2 hn
    exact ⟨b, off, e, hS b hb, fun j u hu => (hk ⟨b, off + j, none⟩ hb).trans (hc j u hu)⟩⟩
theorem Rq.rd (h : Rq w S size A n xs) {B : Nat} (hS : ∀ b, S b → b < B) : Rd w B size A n xs := ⟨h.1, fun hn => by
  obtain ⟨b, off, e, hb, hc⟩ := h.2 hn
  exact ⟨b, off, e, hS b hb, hc⟩⟩
theorem Rq.of_rd {B : Nat} (h : Rd w B size A n xs) : Rq w (Lt B) size A n xs := h
theorem Rq.of_own {base : Nat} {e : TypeId} {v : Value} (h : w.ownsRow base e size v n xs) : ∃ A c, v = .slice A n c ∧ n ≤ c ∧ c ≤ maxLen ∧ Rq w (fun b => base ≤ b ∧ b < w.heap.size) size A n xs := by
  obtain ⟨A, c, rfl, h1, h2, h3⟩ := Rd.of_own h
  refine ⟨A, c, rfl, h1, h2, h3.1, fun hn => ?_⟩
  obtain ⟨b, off, rfl, hb, hc⟩ := h3.2 hn
  obtain ⟨g, cap, e, hg, _⟩ := own_form h hn
  injection e with e _ _
  injection e with e
  injection e with e _ _
  subst e
  exact ⟨b, off, rfl, ⟨hg, hb⟩, hc⟩
end
/-- A way for things of one type to lie in memory. -/
structure Kd (α : Type) where
  f : α → List Value
  k : Nat
  len : ∀ a, (f a).length = k
  pos : 0 < k
  at_ : World → (Nat → Prop) → α → Prop
  up : ∀ {w w' S S' a}, at_ w S a → Same S w w' → (∀ b, S b → S' b) → at_ w' S' a
  one : ∀ a, ∀ u ∈ f a, u.oneCell' = true
def Kd.v {α : Type} (K : Kd α) (a : α) : Value := .agg (K.f a).toArray
theorem Kd.flat {α : Type} (K : Kd α) (l : List α) : (l.flatMap K.f).length = l.length * K.k := flat_len K.len l
theorem Kd.ones {α : Type} (K : Kd α) (l : List α) : ∀ u ∈ l.flatMap K.f, u.oneCell' = true := by
  intro u hu
  obtain ⟨a, _, ha⟩ := List.mem_flatMap.1 hu
  exact K.one a u ha
theorem flat_get {α : Type} {f : α → List Value} {k : Nat} (hk : ∀ a, (f a).length = k) : ∀ (l : List α) (j : Nat) (h : j < l.length) (i : Nat), i < k → (l.flatMap f)[j * k + i]? = (f l[j])[i]?
  | [], j, h, i, _ => by simp at h
  | a :: l, 0, _, i, hi => by rw [List.flatMap_cons, List.getElem?_append_left (by rw [hk]; omega)]; simp
  | a :: l, j + 1, h, i, hi => by
    rw [List.flatMap_cons, List.getElem?_append_right (by rw [hk, Nat.add_mul]; omega), hk]
    have e : (j + 1) * k + i - k = j * k + i := by rw [Nat.add_mul]; omega
    rw [e, flat_get hk l j (by simpa using h) i hi]; simp
/-- A slice of such things: what it holds, where it lies. -/
structure Ro (α : Type) where
  l : List α
  A : Option Addr
  c : Nat
def Ro.v {α : Type} (r : Ro α) : Value := .slice r.A r.l.length r.c
structure RoAt {α : Type} (K : Kd α) (w : World) (S : Nat → Prop) (r : Ro α) : Prop where
  rq : Rq w S K.k r.A r.l.length (r.l.flatMap K.f)
  le : r.l.length ≤ r.c
  cm : r.c ≤ maxLen
  el : ∀ a ∈ r.l, K.at_ w S a
theorem RoAt.up {α : Type} {K : Kd α} {w w' : World} {S S' : Nat → Prop} {r : Ro α} (h : RoAt K w S r) (hk : Same S w w') (hS : ∀ b, S b → S' b) : RoAt K w' S' r :=
  ⟨h.rq.up hk hS, h.le, h.cm, fun a ha => K.up (h.el a ha) hk hS⟩
theorem RoAt.nil {α : Type} {K : Kd α} {w : World} {S : Nat → Prop} : RoAt K w S ⟨[], none, 0⟩ := ⟨Rq.none_, Nat.le_refl _, Nat.zero_le _, fun _ h => by cases h⟩
/-- The cells of one of them. -/
theorem RoAt.get {α : Type} {K : Kd α} {w : World} {S : Nat → Prop} {r : Ro α} (h : RoAt K w S r) {j : Nat} (hj : j < r.l.length) :
    ∃ b off, r.A = some ⟨b, off, none⟩ ∧ S b ∧ ∀ j (h : j < r.l.length) i u, (K.f r.l[j])[i]? = some u → w.cell? ⟨b, off + j * K.k + i, none⟩ = some u := by
  obtain ⟨b, off, e, hb, hc⟩ := h.rq.2 (by omega)
  refine ⟨b, off, e, hb, fun j hj i u hu => ?_⟩
  have hi : i < K.k := by rw [← K.len r.l[j]]; exact (List.getElem?_eq_some_iff.1 hu).1
  rw [Nat.add_assoc]
  exact hc (j * K.k + i) u (by rw [flat_get K.len _ j hj i hi]; exact hu)
/-- A row of the call's own of such things. -/
structure OwAt {α : Type} (K : Kd α) (base : Nat) (e : TypeId) (w : World) (S : Nat → Prop) (v : Value) (l : List α) : Prop where
  own : w.ownsRow base e K.k v l.length (l.flatMap K.f)
  el : ∀ a ∈ l, K.at_ w S a
theorem OwAt.nil {α : Type} {K : Kd α} {base : Nat} {e : TypeId} {w : World} {S : Nat → Prop} : OwAt K base e w S (.slice none 0 0) [] := ⟨World.ownsRow_nil _ _ _ _, fun _ h => by cases h⟩
theorem OwAt.ro {α : Type} {K : Kd α} {base : Nat} {e : TypeId} {w : World} {S : Nat → Prop} {v : Value} {l : List α} (h : OwAt K base e w S v l) (hS : ∀ b, base ≤ b → b < w.heap.size → S b) : ∃ A c, v = .slice A l.length c ∧ RoAt K w S ⟨l, A, c⟩ := by
  obtain ⟨A, c, rfl, h1, h2, h3⟩ := Rq.of_own h.own
  exact ⟨A, c, rfl, h3.up (Same.refl _ _) (fun b hb => hS b hb.1 hb.2), h1, h2, h.el⟩

/-- A cell of a row: kind; type, number, float, text. -/
structure Ce where
  kind : Int
  ty : Int
  num : Int
  re : Nat
  im : Nat
  text : ByteArray
structure Rf where
  oid : Int
  ver : Int
def Ce.p (c : Ce) : List Value := [.int .u8 c.kind, .int .u8 c.ty, .int .i64 c.num, .complex .f64 c.re c.im, .string c.text]
def Ce.r (c : Ce) : List Value := [.int .u8 c.kind, .int .u8 c.ty, .int .i64 c.num, .int .u64 (c.re : Int), .int .u64 (c.im : Int), .string c.text]
def Rf.c (r : Rf) : List Value := [.int .u32 r.oid, .int .u32 r.ver]
def KP : Kd Ce := ⟨Ce.p, 5, fun _ => rfl, by decide, fun _ _ _ => True, fun _ _ _ => trivial, fun a u hu => by simp [Ce.p] at hu; rcases hu with rfl | rfl | rfl | rfl | rfl <;> rfl⟩
def KR : Kd Ce := ⟨Ce.r, 6, fun _ => rfl, by decide, fun _ _ _ => True, fun _ _ _ => trivial, fun a u hu => by simp [Ce.r] at hu; rcases hu with rfl | rfl | rfl | rfl | rfl | rfl <;> rfl⟩
def KF : Kd Rf := ⟨Rf.c, 2, fun _ => rfl, by decide, fun _ _ _ => True, fun _ _ _ => trivial, fun a u hu => by simp [Rf.c] at hu; rcases hu with rfl | rfl <;> rfl⟩
/-- An event, as it is meant. -/
structure Ev where
  kd : Int
  at_ : Rf
  old : Int
  bf : List Ce
  af : List Ce
  refs : List Rf
  fl : Int
/-- An event, with where its rows and refs lie. -/
structure Er where
  kd : Int
  at_ : Rf
  old : Int
  bf : Ro Ce
  af : Ro Ce
  refs : Ro Rf
  fl : Int
def Er.ev (x : Er) : Ev := ⟨x.kd, x.at_, x.old, x.bf.l, x.af.l, x.refs.l, x.fl⟩
def Er.c (x : Er) : List Value := [.int .u8 x.kd, .int .u32 x.at_.oid, .int .u32 x.at_.ver, .int .u8 x.old, x.bf.v, x.af.v, x.refs.v, .int .u8 x.fl]
structure ErAt (K : Kd Ce) (w : World) (S : Nat → Prop) (x : Er) : Prop where
  bf : RoAt K w S x.bf
  af : RoAt K w S x.af
  refs : RoAt KF w S x.refs
theorem ErAt.up {K : Kd Ce} {w w' : World} {S S' : Nat → Prop} {x : Er} (h : ErAt K w S x) (hk : Same S w w') (hS : ∀ b, S b → S' b) : ErAt K w' S' x := ⟨h.bf.up hk hS, h.af.up hk hS, h.refs.up hk hS⟩
/-- Events: the program's (cells by KP), the document's (by KR). -/
def KE (K : Kd Ce) : Kd Er := ⟨Er.c, 8, fun _ => rfl, by decide, ErAt K, fun h hk hB => h.up hk hB, fun a u hu => by simp [Er.c, Ro.v] at hu; rcases hu with rfl | rfl | rfl | rfl | rfl | rfl | rfl | rfl <;> rfl⟩
structure Tx where
  xid : Int
  stamp : Int
  evs : List Ev
structure Tr where
  xid : Int
  stamp : Int
  evs : Ro Er
def Tr.tx (t : Tr) : Tx := ⟨t.xid, t.stamp, t.evs.l.map Er.ev⟩
def Tr.c (t : Tr) : List Value := [.int .u32 t.xid, .int .u64 t.stamp, t.evs.v]
def KT (K : Kd Ce) : Kd Tr := ⟨Tr.c, 3, fun _ => rfl, by decide, fun w S t => RoAt (KE K) w S t.evs, fun h hk hB => h.up hk hB, fun a u hu => by simp [Tr.c, Ro.v] at hu; rcases hu with rfl | rfl | rfl <;> rfl⟩
/-- The empty event. -/
def Er.zero : Er := ⟨0, ⟨0, 0⟩, 0, ⟨[], none, 0⟩, ⟨[], none, 0⟩, ⟨[], none, 0⟩, 0⟩
def Ev.zero : Ev := ⟨0, ⟨0, 0⟩, 0, [], [], [], 0⟩
theorem ErAt.zero {K : Kd Ce} {w : World} {S : Nat → Prop} : ErAt K w S Er.zero := ⟨RoAt.nil, RoAt.nil, RoAt.nil⟩
/-- Small enough to be copied. -/
structure Ev.Sm (x : Ev) : Prop where
  bf : x.bf.length ≤ 1000
  af : x.af.length ≤ 1000
  refs : x.refs.length ≤ 1000
end Go.Proofs.Ytaaijgalminafaa
/-
  Layer 24: slices.Clone of cells (f50), of refs (f51) (printed by gen_ev2.py).
-/
namespace Go.Proofs.Ytaaijgalminafaa
open Go.RowKit

/-- A call returned a slice of these things, out of S and what is new. -/
def RetRo {α : Type} (K : Kd α) (S : Nat → Prop) (l : List α) (w : World) (e : Ending) (w' : World) : Prop := ∃ A c, e = .returned (.slice A l.length c) ∧ RoAt K w' (Since S w.heap.size w') ⟨l, A, c⟩ ∧ Below w.heap.size w w'
theorem RetRo.own {α : Type} {K : Kd α} {S : Nat → Prop} {l : List α} {e : TypeId} {v : Value} {w w' : World} (h : OwAt K w.heap.size e w' (Since S w.heap.size w') v l) (hb : Below w.heap.size w w') : RetRo K S l w (.returned v) w' := by
  obtain ⟨A, c, rfl, h1⟩ := h.ro (fun b h1 h2 => .inr ⟨h1, h2⟩)
  exact ⟨A, c, rfl, h1, hb⟩
theorem lit_own {w : World} {e : TypeId} {size : Nat} : (w.alloc (.cells #[] e)).ownsRow w.heap.size e size (.slice (some ⟨w.heap.size, 0, none⟩) 0 0) 0 [] :=
  ⟨by simp, .inr ⟨w.heap.size, 0, #[], rfl, Nat.le_refl _, heap_alloc_new w _, Nat.le_refl _, Nat.zero_le _, by simp, by simp⟩⟩
theorem Try.info118 : (Try.prog.info? 118).map (fun i => (i.zero, i.size, i.bytes)) = some (some (.agg #[.int .u8 0, .int .u8 0, .int .i64 0, .complex .f64 0 0, .string .empty]), 5, 56) := by kernel_rfl
theorem Try.info56 : (Try.prog.info? 56).map (fun i => (i.zero, i.size, i.bytes)) = some (some (.agg #[.int .u32 0, .int .u32 0]), 2, 8) := by kernel_rfl

set_option maxRecDepth 100000 in
set_option maxHeartbeats 3200000 in
theorem cloneP_any (r : Ro Ce) (S : Nat → Prop) (w : World) (hR : RoAt KP w S r) (hS : ∀ b, S b → b < w.heap.size) (hl : r.l.length ≤ 1000) : Calls Try.prog 50 #[r.v] w (RetRo KP S r.l w) := by
  obtain ⟨i0, hi, hz0, hz1, hz2⟩ := info_parts Try.info118
  obtain ⟨l, A, c⟩ := r
  unfold Ro.v
  simp only at hl ⊢
  have HR := Lib.hid hR; clear hR
  have hone := Lib.hid (KP.ones l)
  go_enter Try.func50, Try.ntmps50
  have hcmp := fun w A n => Lib.run_eql_slice_nil (P := Try.prog) w 58 118 A n c 0 0 Try.underlying58
  rcases A with _ | ad
  · have h0 : l = [] := List.eq_nil_of_length_eq_zero (by
      rcases Nat.eq_zero_or_pos l.length with h | h
      · exact h
      · obtain ⟨_, _, h, _⟩ := HR.out.rq.2 h; cases h)
    subst h0
    have hc0 := hcmp w none 0
    simp only [Option.isNone_none] at hc0
    clear hcmp
    go_wp2
    go_ret
    exact ⟨none, 0, rfl, RoAt.nil, Below.refl _ _⟩
  · have hrd : Rd (w.alloc (.cells #[] 118)) w.heap.size 5 (some ad) l.length (l.flatMap KP.f) := (HR.out.rq.rd hS).alloc (Nat.le_refl _) _
    have hrd2 := hrd.more (B' := w.heap.size + 1) (by omega)
    have hown := lit_own (w := w) (e := 118) (size := 5)
    have hel := Lib.hid HR.out.el
    have hc0 := hcmp w (some ad) l.length
    clear hrd hcmp
    go_wp2_with (at_builtin; refine wpList_append_rd rfl _ _ 58 rfl w.heap.size 118 i0 (.agg #[.int .u8 0, .int .u8 0, .int .i64 0, .complex .f64 0 0, .string .empty]) 5 56 Try.underlying58 hi hz0 hz1 hz2 rfl (by decide) _ _ _ rfl hown _ (some ad) l.length c (l.flatMap KP.f) rfl hrd2 hone.out (by simp only [maxLen]; omega) (by omega) (by simp) ?_)
    intro v8 w8 hown8 hg8
    have hb8 := own_base hown ((Below.refl _ w).alloc (Nat.le_refl _) _) hg8 (by simp)
    clear hg8 hown hrd2
    go_wp2
    go_ret
    exact RetRo.own ⟨hown8, fun a ha => KP.up (hel.out a ha) (Same.below hb8 hS) (fun _ h => .inl h)⟩ hb8

set_option maxRecDepth 100000 in
set_option maxHeartbeats 3200000 in
theorem cloneF_any (r : Ro Rf) (S : Nat → Prop) (w : World) (hR : RoAt KF w S r) (hS : ∀ b, S b → b < w.heap.size) (hl : r.l.length ≤ 1000) : Calls Try.prog 51 #[r.v] w (RetRo KF S r.l w) := by
  obtain ⟨i0, hi, hz0, hz1, hz2⟩ := info_parts Try.info56
  obtain ⟨l, A, c⟩ := r
  unfold Ro.v
  simp only at hl ⊢
  have HR := Lib.hid hR; clear hR
  have hone := Lib.hid (KF.ones l)
  go_enter Try.func51, Try.ntmps51
  have hcmp := fun w A n => Lib.run_eql_slice_nil (P := Try.prog) w 59 56 A n c 0 0 Try.underlying59
  rcases A with _ | ad
  · have h0 : l = [] := List.eq_nil_of_length_eq_zero (by
      rcases Nat.eq_zero_or_pos l.length with h | h
      · exact h
      · obtain ⟨_, _, h, _⟩ := HR.out.rq.2 h; cases h)
    subst h0
    have hc0 := hcmp w none 0
    simp only [Option.isNone_none] at hc0
    clear hcmp
    go_wp2
    go_ret
    exact ⟨none, 0, rfl, RoAt.nil, Below.refl _ _⟩
  · have hrd : Rd (w.alloc (.cells #[] 56)) w.heap.size 2 (some ad) l.length (l.flatMap KF.f) := (HR.out.rq.rd hS).alloc (Nat.le_refl _) _
    have hrd2 := hrd.more (B' := w.heap.size + 1) (by omega)
    have hown := lit_own (w := w) (e := 56) (size := 2)
    have hel := Lib.hid HR.out.el
    have hc0 := hcmp w (some ad) l.length
    clear hrd hcmp
    go_wp2_with (at_builtin; refine wpList_append_rd rfl _ _ 59 rfl w.heap.size 56 i0 (.agg #[.int .u32 0, .int .u32 0]) 2 8 Try.underlying59 hi hz0 hz1 hz2 rfl (by decide) _ _ _ rfl hown _ (some ad) l.length c (l.flatMap KF.f) rfl hrd2 hone.out (by simp only [maxLen]; omega) (by omega) (by simp) ?_)
    intro v8 w8 hown8 hg8
    have hb8 := own_base hown ((Below.refl _ w).alloc (Nat.le_refl _) _) hg8 (by simp)
    clear hg8 hown hrd2
    go_wp2
    go_ret
    exact RetRo.own ⟨hown8, fun a ha => KF.up (hel.out a ha) (Same.below hb8 hS) (fun _ h => .inl h)⟩ hb8
end Go.Proofs.Ytaaijgalminafaa
