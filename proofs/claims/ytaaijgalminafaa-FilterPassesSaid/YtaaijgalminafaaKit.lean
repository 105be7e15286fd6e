import Derived.WalkKit
import Derived.WalkSpells
import Derived.WalkLawsBesides
import Derived.Handy
import Derived.Lib.Hide
import Derived.BigQuiet
import Derived.Deep.QuietTactic
import Derived.Deep.Draws
import Derived.Laws.BytesArg
import Derived.Laws.OwnMore
import Derived.Maps.AppendAt
import Derived.ScopeJumps
import Derived.WalkMore
/-
  Small words on memory that the proofs of this seat share: a slice that reads as a list of cells, what the call itself owns, strings out of bytes. No program is named here.
-/
namespace Go.Proofs.Ytaaijgalminafaa
open Go.RowKit

/-- The slice value '.slice A n c' holds the cells xs, below block B. -/
def Rd (w : World) (B size : Nat) (A : Option Addr) (n : Nat) (xs : List Value) : Prop :=
  xs.length = n * size ∧ (0 < n → ∃ b off, A = some ⟨b, off, none⟩ ∧ b < B ∧ ∀ j u, xs[j]? = some u → w.cell? ⟨b, off + j, none⟩ = some u)

def byt (l : List UInt8) : List Value := l.map fun b => .int .u8 (b.toNat : Int)
def bls (l : List Bool) : List Value := l.map .bool
def ints (l : List Int) : List Value := l.map (.int .i64)
def strs (l : List ByteArray) : List Value := l.map .string

section
variable {w w' : World} {B B' size n : Nat} {A : Option Addr} {xs : List Value}
theorem Rd.none_ : Rd w B size A 0 [] := ⟨by simp, fun h => absurd h (by omega)⟩
theorem Rd.len1 (h : Rd w B 1 A n xs) : xs.length = n := by simpa using h.1
theorem Rd.nil_ (h : Rd w B size A 0 xs) : xs = [] := List.eq_nil_of_length_eq_zero (by simpa using h.1)
theorem Rd.keep (h : Rd w B size A n xs) (hk : ∀ p : Addr, p.block < B → w'.cell? p = w.cell? p) : Rd w' B size A n xs :=
  ⟨h.1, fun hn => by
    obtain ⟨b, off, e, hb, hc⟩ := h.2 hn
    exact ⟨b, off, e, hb, fun j u hu => (hk _ hb).trans (hc j u hu)⟩⟩
theorem Rd.more (h : Rd w B size A n xs) (hB : B ≤ B') : Rd w B' size A n xs :=
  ⟨h.1, fun hn => by
    obtain ⟨b, off, e, hb, hc⟩ := h.2 hn
    exact ⟨b, off, e, by omega, hc⟩⟩
theorem Rd.below (h : Rd w B size A n xs) {D : Nat} (hb : Below D w w') (hD : B ≤ D) : Rd w' B size A n xs := h.keep fun _ hp => hb.cell (by omega)
theorem Rd.up (h : Rd w B size A n xs) {D : Nat} (hb : Below D w w') (hD : B ≤ D) (hB : B ≤ B') : Rd w' B' size A n xs := (h.below hb hD).more hB
theorem Rd.drewN (h : Rd w B size A n xs) (k : Nat) : Rd (w.drewN k) B size A n xs := h
theorem Rd.drew (h : Rd w B size A n xs) : Rd w.drew B size A n xs := h
theorem Rd.alloc (h : Rd w B size A n xs) (hB : B ≤ w.heap.size) (o : Obj) : Rd (w.alloc o) B size A n xs := h.keep fun p hp => World.cell?_alloc_lt w o p (by omega)
theorem Rd.setCell (h : Rd w B size A n xs) {p : Addr} (hB : B ≤ p.block) (u : Value) : Rd (w.setCell p u) B size A n xs :=
  h.keep fun q hq => World.cell?_setCell_other w p q u (fun e => by subst e; omega)
/-- The cell at place k of a row of one-cell elements. -/
theorem Rd.at_ {α : Type} {f : α → Value} {l : List α} (h : Rd w B 1 A n (l.map f)) {k : Nat} (hk : k < l.length) :
    ∃ b off, A = some ⟨b, off, none⟩ ∧ b < B ∧ ∀ j (hj : j < l.length), w.cell? ⟨b, off + j, none⟩ = some (f l[j]) := by
  have hl : l.length = n := by simpa using h.1
  obtain ⟨b, off, e, hb, hc⟩ := h.2 (by omega)
  exact ⟨b, off, e, hb, fun j hj => hc j _ (by simp [hj])⟩
theorem Rd.of_own {base : Nat} {e : TypeId} {v : Value} (h : w.ownsRow base e size v n xs) :
    ∃ A c, v = .slice A n c ∧ n ≤ c ∧ c ≤ maxLen ∧ Rd w w.heap.size size A n xs := by
  rcases h.2 with ⟨rfl, rfl⟩ | ⟨g, cap, cur, rfl, hb, hg, hnc, hcm, hcs, htake⟩
  · have hx : xs = [] := List.eq_nil_of_length_eq_zero (by simpa using h.1)
    subst hx
    exact ⟨none, 0, rfl, Nat.le_refl _, by simp [maxLen], Rd.none_⟩
  · refine ⟨some ⟨g, 0, none⟩, cap, rfl, hnc, hcm, h.1, fun hn => ⟨g, 0, rfl, (Array.getElem?_eq_some_iff.1 hg).1, fun j u hu => ?_⟩⟩
    have := h.cells (g := g) rfl j u hu
    have hadd : (⟨g, 0, none⟩ : Addr).add j = ⟨g, 0 + j, none⟩ := by unfold Addr.add; split <;> simp_all
    rwa [hadd] at this
theorem Rd.cells {ad : Addr} (h : Rd w B size (some ad) n xs) : ∀ j u, xs[j]? = some u → w.cell? (ad.add j) = some u := by
  intro j u hu
  rcases Nat.eq_zero_or_pos n with h0 | h0
  · subst h0; rw [h.nil_] at hu; simp at hu
  · obtain ⟨b, off, e, _, hc⟩ := h.2 h0
    injection e with e
    subst e
    have e : (⟨b, off, none⟩ : Addr).add j = ⟨b, off + j, none⟩ := by unfold Addr.add; split <;> simp_all
    rw [e]; exact hc j u hu
theorem own_form {base : Nat} {e : TypeId} {v : Value} (h : w.ownsRow base e size v n xs) (hn : 0 < n) : ∃ g cap, v = .slice (some ⟨g, 0, none⟩) n cap ∧ base ≤ g ∧ g < w.heap.size := by
  rcases h.2 with ⟨_, h0⟩ | ⟨g, cap, cur, rfl, hb, hg, _⟩
  · omega
  · exact ⟨g, cap, rfl, hb, (Array.getElem?_eq_some_iff.1 hg).1⟩
/-- A cut of a row. -/
theorem Rd.cut (h : Rd w B size A n xs) {k m : Nat} (hk : k + m ≤ n) (A' : Option Addr) (hA : 0 < m → ∀ b off, A = some ⟨b, off, none⟩ → A' = some ⟨b, off + k * size, none⟩) :
    Rd w B size A' m ((xs.drop (k * size)).take (m * size)) := by
  have hle : m * size ≤ xs.length - k * size := by
    rw [h.1, ← Nat.sub_mul]; exact Nat.mul_le_mul_right _ (by omega)
  refine ⟨by rw [List.length_take, List.length_drop]; omega, fun hm => ?_⟩
  obtain ⟨b, off, e, hb, hc⟩ := h.2 (by omega)
  refine ⟨b, off + k * size, hA hm b off e, hb, fun j u hu => ?_⟩
  rw [List.getElem?_take] at hu
  split at hu
  · rw [List.getElem?_drop] at hu
    rw [Nat.add_assoc]; exact hc _ _ hu
  · cases hu
theorem Rd.take_ (h : Rd w B size A n xs) {m : Nat} (hm : m ≤ n) : Rd w B size A m (xs.take (m * size)) := by
  have := h.cut (k := 0) (m := m) (by omega) A (fun _ b off e => by simpa using e)
  simpa using this
end

/-- The address of a cut. -/
def cutA (A : Option Addr) (cap k size : Nat) : Option Addr := if cap = k then A else A.map (·.add (k * size))
theorem Rd.cutA {w : World} {B size n : Nat} {A : Option Addr} {xs : List Value} (h : Rd w B size A n xs) {k m cap : Nat} (hk : k + m ≤ n) (hc : n ≤ cap) : Rd w B size (cutA A cap k size) m ((xs.drop (k * size)).take (m * size)) := by
  refine h.cut hk _ (fun hm b off e => ?_)
  subst e
  unfold Go.Proofs.Ytaaijgalminafaa.cutA
  rw [if_neg (by omega)]
  simp only [Option.map_some, Option.some.injEq]
  unfold Addr.add; split <;> simp_all
theorem Rd.cutFrom {w : World} {B size n : Nat} {A : Option Addr} {xs : List Value} (h : Rd w B size A n xs) {k cap : Nat} (hk : k ≤ n) (hc : n ≤ cap) : Rd w B size (Go.Proofs.Ytaaijgalminafaa.cutA A cap k size) (n - k) (xs.drop (k * size)) := by
  have h1 := h.cutA (k := k) (m := n - k) (by omega) hc
  rwa [List.take_of_length_le (by rw [List.length_drop, h.1, ← Nat.sub_mul]; exact Nat.le_refl _)] at h1
section
variable {P : Program}
theorem run_cut_from (w : World) {T e : TypeId} {i : TypeInfo} (ht : P.underlying T = some (.slice e)) (hi : P.info? e = some i) (A : Option Addr) (len cap n : Nat) (k : IntKind) (hn : n ≤ len) :
    (Instr.slice T (.slice A len cap) (some (.int k (n : Int))) none none).run P w = .ok (.slice (cutA A cap n i.size) (len - n) (cap - n)) w := by
  simp [Instr.slice, Instr.sliceBounds, Instr.sliceBound, run_underlying ht, sizeOf, typeInfo, hi, asIntOf, hn, cutA]
theorem run_cut_to (w : World) {T e : TypeId} {i : TypeInfo} (ht : P.underlying T = some (.slice e)) (hi : P.info? e = some i) (A : Option Addr) (len cap n : Nat) (k : IntKind) (hn : n ≤ cap) :
    (Instr.slice T (.slice A len cap) none (some (.int k (n : Int))) none).run P w = .ok (.slice A n cap) w := by
  have e : (if cap = 0 then A else A.map (·.add (0 * i.size))) = A := by
    split
    · rfl
    · cases A <;> simp [Addr.add]
  simp [Instr.slice, Instr.sliceBounds, Instr.sliceBound, run_underlying ht, sizeOf, typeInfo, hi, asIntOf, hn]
  simpa using e
theorem run_cut_mid (w : World) {T e : TypeId} {i : TypeInfo} (ht : P.underlying T = some (.slice e)) (hi : P.info? e = some i) (A : Option Addr) (len cap n m : Nat) (k k' : IntKind) (hn : n ≤ m) (hm : m ≤ cap) :
    (Instr.slice T (.slice A len cap) (some (.int k (n : Int))) (some (.int k' (m : Int))) none).run P w = .ok (.slice (cutA A cap n i.size) (m - n) (cap - n)) w := by
  simp [Instr.slice, Instr.sliceBounds, Instr.sliceBound, run_underlying ht, sizeOf, typeInfo, hi, asIntOf, hn, hm, cutA]
end
theorem cell_new (w : World) (cs : Array Value) (t : TypeId) (i : Nat) : (w.alloc (.cells cs t)).cell? ⟨w.heap.size, i, none⟩ = cs[i]? :=
  cell_of_row _ _ i cs t (0, 0) (heap_alloc_new w _)
/-- A block that has just been made. -/
theorem Rd.new (w : World) (cs : Array Value) (t : TypeId) {size n : Nat} (h : n * size ≤ cs.size) :
    Rd (w.alloc (.cells cs t)) (w.heap.size + 1) size (some ⟨w.heap.size, 0, none⟩) n (cs.toList.take (n * size)) := by
  refine ⟨by simp; omega, fun _ => ⟨_, _, rfl, by omega, fun j u hu => ?_⟩⟩
  rw [cell_new, Nat.zero_add]
  rw [List.getElem?_take] at hu
  split at hu
  · simpa using hu
  · cases hu
theorem byt_len (l : List UInt8) : (byt l).length = l.length := by simp [byt]
theorem byt_str_len (s : ByteArray) : (byt s.data.toList).length = s.size * 1 := by rw [byt_len, Nat.mul_one, Array.length_toList]; rfl
theorem str_len (s : ByteArray) : s.data.toList.length = s.size := by rw [Array.length_toList]; rfl
theorem byt_app (l r : List UInt8) : byt (l ++ r) = byt l ++ byt r := by simp [byt]
theorem map_one {α : Type} {f : α → Value} (hf : ∀ a, (f a).oneCell' = true) (l : List α) : ∀ u ∈ l.map f, u.oneCell' = true := by
  intro u hu
  obtain ⟨a, _, rfl⟩ := List.mem_map.1 hu
  exact hf a
theorem byt_one (l : List UInt8) : ∀ u ∈ byt l, u.oneCell' = true := map_one (fun _ => rfl) l
theorem bls_one (l : List Bool) : ∀ u ∈ bls l, u.oneCell' = true := map_one (fun _ => rfl) l
theorem strs_one (l : List ByteArray) : ∀ u ∈ strs l, u.oneCell' = true := map_one (fun _ => rfl) l
theorem ints_one (l : List Int) : ∀ u ∈ ints l, u.oneCell' = true := map_one (fun _ => rfl) l

/-- 'string(b)'. -/
theorem run_str_of_bytes {P : Program} {w : World} {B n c : Nat} {A : Option Addr} {l : List UInt8} {src dst e : TypeId} (hs : P.underlying src = some (.slice e)) (he : P.underlying e = some (.int .u8)) (hd : P.underlying dst = some .string)
    (h : Rd w B 1 A n (byt l)) : (convert src dst (.slice A n c)).run P w = .ok (.string ⟨l.toArray⟩) w := by
  have hl : l.length = n := by simpa [byt] using h.1
  rcases Nat.eq_zero_or_pos n with h0 | h0
  · subst h0
    have hnil : l = [] := List.eq_nil_of_length_eq_zero hl
    subst hnil
    rcases A with _ | a
    · exact run_convert_bytes_nil w src e hs he 0 c dst hd
    · rw [run_convert_bytes_string w src dst e _ 0 c hs he hd]
      have hz : (loadCells a 0).run P w = .ok (([] : List Int).map (Value.int .u8)).toArray w := by
        have := run_loadCells_list (P := P) w a [] (fun j v hj => by simp at hj)
        simpa using this
      rw [run_bytesToString w a 0 c [] hz]
      rfl
  · obtain ⟨b, off, rfl, hb, hc⟩ := h.2 h0
    have := run_convert_bytes_arg (P := P) w src e hs he b off n c (l.map fun b => (b.toNat : Int)) (by simpa using hl) (fun i hi => by
      have := hc i (.int .u8 ((l[i]'(by omega)).toNat : Int)) (by simp [byt, show i < l.length by omega])
      rw [this]; simp [show i < l.length by omega]) dst hd
    rw [this]
    congr 2
    simp only [strOfNums, List.map_map]
    congr 2
    conv => rhs; rw [← List.map_id l]
    exact List.map_congr_left fun b _ => by simp

/-- '[]byte(s)': a new block that reads as s; what was there is as it was. -/
theorem run_bytes_new {P : Program} (w : World) (src dst e : TypeId) (s : ByteArray) (hs : P.underlying src = some .string) (hd : P.underlying dst = some (.slice e)) (he : P.underlying e = some (.int .u8)) (hm : s.size ≤ maxLen) :
    ∃ c w', (convert src dst (.string s)).run P w = .ok (.slice (some ⟨w.heap.size, 0, none⟩) s.size c) w' ∧ s.size ≤ c ∧ c ≤ maxLen ∧ w.grownBy w' none ∧ Rd w' w'.heap.size 1 (some ⟨w.heap.size, 0, none⟩) s.size (byt s.data.toList) := by
  refine ⟨_, _, run_bytes_of_string w src dst e s hs hd he, grownCap_ge _ _ _ _, grownCap_le_maxLen _ _ _ _ hm, ⟨rfl, rfl, rfl, (by rw [World.size_alloc]; exact Nat.le_succ _), fun k hk _ => Below.heap_alloc w.drew _ k hk⟩, (by rw [byt_len, Nat.mul_one, Array.length_toList]; rfl), fun _ => ⟨w.heap.size, 0, rfl, (by rw [World.size_alloc]; exact Nat.lt_succ_self _), fun j u hu => ?_⟩⟩
  have hj : j < s.data.size := by
    have := (List.getElem?_eq_some_iff.1 hu).1
    simpa [byt] using this
  have h1 := bytesRow_at s (grownCap w s.size 0 e) j hj
  rw [cell_of_row _ w.heap.size (0 + j) _ e _ (heap_alloc_new w.drew _), Nat.zero_add, h1]
  have h2 : (byt s.data.toList)[j]? = some (.int .u8 ((s.data[j]).toNat : Int)) := by
    simp only [byt, List.getElem?_map, Array.getElem?_toList, Array.getElem?_eq_getElem hj, Option.map_some]
  rw [h2] at hu
  exact hu
/-- A scope that is run through by jumps back to one label: what holds at the label (J), what every pass lowers, and the way to the label. -/
theorem wp_scope_loop {P : Program} {a : Act} {w : World} {Q : Exit → Act → World → Prop} {c rest : Code} (l : Nat) (J : Act → World → Prop) (μ : Act → World → Nat) (hf : findLabel c l = some (Code.skip.seq rest))
    (first : Hid (∀ a w, J a w → rest.wp P (Exit.jump l J Q) a w) → c.wp P (Exit.jump l J Q) a w)
    (pass : ∀ a w, J a w → rest.wp P (Exit.jump l (fun a' w' => J a' w' ∧ μ a' w' < μ a w) Q) a w) : (Code.scope c).wp P Q a w :=
  wp_scope_jumps l J μ hf (first fun a w h => Code.wp_mono (fun e a' w' q => by cases e <;> first | exact q | exact ⟨q.1, q.2.1⟩) (pass a w h)) (fun a w h => wp_seq (wp_skip (pass a w h)))
/-- As Q; by a goto to a label: what J says of it. -/
def Jumps (J : Nat → Act → World → Prop) (Q : Exit → Act → World → Prop) : Exit → Act → World → Prop
  | .goto l, a, w => J l a w
  | e, a, w => Q e a w
/-- A scope that is run through by jumps to its labels: what holds at each, what every pass lowers. -/
theorem wp_scope_multi {P : Program} {a : Act} {w : World} {Q : Exit → Act → World → Prop} {c : Code} (J : Nat → Act → World → Prop) (μ : Nat → Act → World → Nat)
    (first : c.wp P (Jumps J Q) a w)
    (pass : ∀ l a w, J l a w → ∃ rest, findLabel c l = some rest ∧ rest.wp P (Jumps (fun l' a' w' => J l' a' w' ∧ μ l' a' w' < μ l a w) Q) a w) : (Code.scope c).wp P Q a w := by
  intro b k cs
  have key : ∀ n l a w, μ l a w = n → J l a w → ∃ rest e a' w', findLabel c l = some rest ∧ Q e a' w' ∧ Arrives P (lone (b.at a (.code rest :: .inScope c :: k)) cs w) b k cs e a' w' := by
    intro n
    induction n using Nat.strongRecOn with
    | _ n ih =>
      intro l a w hn hJ
      obtain ⟨rest, hf, hp⟩ := pass l a w hJ
      obtain ⟨e, a₁, w₁, hq, harr⟩ := hp b (.inScope c :: k) cs
      refine ⟨rest, ?_⟩
      cases e with
      | normal => exact ⟨.normal, a₁, w₁, hf, hq, Steps.trans harr (.one step_inScope)⟩
      | exit id => exact ⟨.exit id, a₁, w₁, hf, hq, fun k' hk => harr k' (by simp [exitTo, hk])⟩
      | goto l' =>
        obtain ⟨hJ', hlt⟩ := hq
        obtain ⟨rest', e₂, a₂, w₂, hf', hq₂, harr₂⟩ := ih _ (by omega) l' a₁ w₁ rfl hJ'
        exact ⟨e₂, a₂, w₂, hf, hq₂, .of_steps (harr _ (by simp [gotoIn, hf'])) harr₂⟩
      | ret => exact ⟨_, a₁, w₁, hf, hq, harr⟩
      | panic ch => exact ⟨_, a₁, w₁, hf, hq, harr⟩
      | outgrown => exact ⟨_, a₁, w₁, hf, hq, harr⟩
  obtain ⟨e, a₁, w₁, hq, harr⟩ := first b (.inScope c :: k) cs
  cases e with
  | normal => exact ⟨.normal, a₁, w₁, hq, .head step_scope (Steps.trans harr (.one step_inScope))⟩
  | exit id => exact ⟨.exit id, a₁, w₁, hq, fun k' hk => .head step_scope (harr k' (by simp [exitTo, hk]))⟩
  | goto l' =>
    obtain ⟨rest', e₂, a₂, w₂, hf', hq₂, harr₂⟩ := key _ l' a₁ w₁ rfl hq
    exact ⟨e₂, a₂, w₂, hq₂, .of_steps (.head step_scope (harr _ (by simp [gotoIn, hf']))) harr₂⟩
  | ret => exact ⟨_, a₁, w₁, hq, .of_steps (.one step_scope) harr⟩
  | panic ch => exact ⟨_, a₁, w₁, hq, .of_steps (.one step_scope) harr⟩
  | outgrown => exact ⟨_, a₁, w₁, hq, .of_steps (.one step_scope) harr⟩
theorem Jumps.weak {J : Nat → Act → World → Prop} {R : Nat → Act → World → Prop} {Q : Exit → Act → World → Prop} : ∀ e a w, Jumps (fun l a w => J l a w ∧ R l a w) Q e a w → Jumps J Q e a w := fun e a w q => by
  cases e <;> first | exact q | exact q.1
/-- Two labels: one that is jumped back to, one that leads out. -/
theorem wp_scope_two {P : Program} {a : Act} {w : World} {Q : Exit → Act → World → Prop} {c rest0 rest1 : Code} (l0 l1 : Nat) (J0 J1 : Act → World → Prop) (μ : Act → World → Nat) (hne : l0 ≠ l1)
    (hf0 : findLabel c l0 = some (Code.skip.seq rest0)) (hf1 : findLabel c l1 = some (Code.skip.seq rest1))
    (first : Hid (∀ a w, J0 a w → rest0.wp P (Jumps (fun l a w => (l = l0 ∧ J0 a w) ∨ (l = l1 ∧ J1 a w)) Q) a w) → c.wp P (Jumps (fun l a w => (l = l0 ∧ J0 a w) ∨ (l = l1 ∧ J1 a w)) Q) a w)
    (pass0 : ∀ a w, J0 a w → rest0.wp P (Jumps (fun l a' w' => (l = l0 ∧ J0 a' w' ∧ μ a' w' < μ a w) ∨ (l = l1 ∧ J1 a' w')) Q) a w)
    (pass1 : ∀ a w, J1 a w → rest1.wp P (Jumps (fun _ _ _ => False) Q) a w) : (Code.scope c).wp P Q a w := by
  have weak : ∀ a w, ∀ e a' w', Jumps (fun l a' w' => (l = l0 ∧ J0 a' w' ∧ μ a' w' < μ a w) ∨ (l = l1 ∧ J1 a' w')) Q e a' w' → Jumps (fun l a w => (l = l0 ∧ J0 a w) ∨ (l = l1 ∧ J1 a w)) Q e a' w' := fun a w e a' w' q => by
    cases e with
    | goto l =>
      rcases q with ⟨h1, h2, _⟩ | ⟨h1, h2⟩
      · exact .inl ⟨h1, h2⟩
      · exact .inr ⟨h1, h2⟩
    | _ => exact q
  refine wp_scope_multi (fun l a w => (l = l0 ∧ J0 a w) ∨ (l = l1 ∧ J1 a w)) (fun l a w => if l = l0 then μ a w + 1 else 0) (first fun a w h => Code.wp_mono (weak a w) (pass0 a w h)) ?_
  rintro l a w (⟨rfl, h⟩ | ⟨rfl, h⟩)
  · refine ⟨_, hf0, wp_seq (wp_skip (Code.wp_mono (fun e a' w' q => ?_) (pass0 a w h)))⟩
    cases e with
    | goto l' =>
      rcases q with ⟨rfl, h1, h2⟩ | ⟨rfl, h1⟩
      · exact ⟨.inl ⟨rfl, h1⟩, by simp only [if_true]; omega⟩
      · exact ⟨.inr ⟨rfl, h1⟩, by simp only [if_true]; rw [if_neg (fun e => hne e.symm)]; omega⟩
    | _ => exact q
  · refine ⟨_, hf1, wp_seq (wp_skip (Code.wp_mono (fun e a' w' q => ?_) (pass1 a w h)))⟩
    cases e with
    | goto l' => exact q.elim
    | _ => exact q
theorem ret_i {k : IntKind} {a b : Int} (h : a = b) : Ending.returned (.int k a) = .returned (.int k b) := by rw [h]
theorem ret_b {a b : Bool} (h : a = b) : Ending.returned (.bool a) = .returned (.bool b) := by rw [h]

/-- A call returned a bool, and left what was there as it was. -/
def RetB (x : Bool) (w : World) (e : Ending) (w' : World) : Prop := e = .returned (.bool x) ∧ Below w.heap.size w w'
theorem RetB.mk' {x y : Bool} {w w' : World} (h : y = x) (hb : Below w.heap.size w w') : RetB x w (.returned (.bool y)) w' := ⟨by rw [h], hb⟩
theorem step_below {w0 w w' : World} (hb : Below w0.heap.size w0 w) (h : Below w.heap.size w w') : Below w0.heap.size w0 w' := hb.trans (h.mono hb.size)
theorem below_drewN {B : Nat} {a w : World} (h : Below B a w) (n : Nat) : Below B a (w.drewN n) := ⟨h.os, h.tape, h.output, h.size, h.block⟩

/-- What the call itself owns after one 'append' of one element, as a relation wants it. -/
theorem own_base {w w' w'' : World} {base : Nat} {e : TypeId} {size n : Nat} {v : Value} {xs : List Value} (h : w.ownsRow base e size v n xs) (hb : Below base w' w) (hg : World.grownBy w w'' v.ownBlock) (hB : base ≤ w.heap.size) : Below base w' w'' :=
  hb.grown hg hB fun k hk => (h.lt k hk).1
/-- A call returned a slice that reads as xs, and a number; what lay there before is as it was. -/
def RetSI (size : Nat) (xs : List Value) (code : Int) (w : World) (e : Ending) (w' : World) : Prop :=
  ∃ A n c, e = .returned (.tuple #[.slice A n c, .int .i64 code]) ∧ n ≤ c ∧ c ≤ maxLen ∧ Rd w' w'.heap.size size A n xs ∧ Below w.heap.size w w'
/-- A call returned a slice that reads as xs. -/
def RetS (size : Nat) (xs : List Value) (w : World) (e : Ending) (w' : World) : Prop :=
  ∃ A n c, e = .returned (.slice A n c) ∧ n ≤ c ∧ c ≤ maxLen ∧ Rd w' w'.heap.size size A n xs ∧ Below w.heap.size w w'
theorem RetSI.nil_ {size : Nat} {code code' : Int} {w w' : World} (h : code' = code) (hb : Below w.heap.size w w') : RetSI size [] code w (.returned (.tuple #[.slice none 0 0, .int .i64 code'])) w' :=
  ⟨none, 0, 0, by rw [h], Nat.le_refl _, Nat.zero_le _, Rd.none_, hb⟩
theorem RetSI.mk' {size : Nat} {A : Option Addr} {n c : Nat} {xs : List Value} {code code' : Int} {w w' : World} (hR : Rd w' w'.heap.size size A n xs) (h1 : n ≤ c) (h2 : c ≤ maxLen) (h : code' = code) (hb : Below w.heap.size w w') :
    RetSI size xs code w (.returned (.tuple #[.slice A n c, .int .i64 code'])) w' := ⟨A, n, c, by rw [h], h1, h2, hR, hb⟩
/-- A call returned a slice of its own that reads as xs (an append onto it may write in place). -/
def RetO (e : TypeId) (size : Nat) (n : Nat) (xs : List Value) (w : World) (en : Ending) (w' : World) : Prop :=
  ∃ v, en = .returned v ∧ w'.ownsRow w.heap.size e size v n xs ∧ Below w.heap.size w w'
theorem RetO.mk' {e : TypeId} {size n : Nat} {xs : List Value} {v : Value} {w w' : World} (ho : w'.ownsRow w.heap.size e size v n xs) (hb : Below w.heap.size w w') : RetO e size n xs w (.returned v) w' := ⟨v, rfl, ho, hb⟩
/-- A call returned a number, and left what was there as it was. -/
def RetI (k : IntKind) (x : Int) (w : World) (e : Ending) (w' : World) : Prop := e = .returned (.int k x) ∧ Below w.heap.size w w'
theorem RetI.mk' {k : IntKind} {x y : Int} {w w' : World} (h : y = x) (hb : Below w.heap.size w w') : RetI k x w (.returned (.int k y)) w' := ⟨by rw [h], hb⟩
/-- A call returned a string, and left what was there as it was. -/
def RetT (s : ByteArray) (w : World) (e : Ending) (w' : World) : Prop := e = .returned (.string s) ∧ Below w.heap.size w w'
theorem RetT.mk' {s s' : ByteArray} {w w' : World} (h : s' = s) (hb : Below w.heap.size w w') : RetT s w (.returned (.string s')) w' := ⟨by rw [h], hb⟩
theorem RetS.mk' {size : Nat} {A : Option Addr} {n c : Nat} {xs : List Value} {w w' : World} (hR : Rd w' w'.heap.size size A n xs) (h1 : n ≤ c) (h2 : c ≤ maxLen) (hb : Below w.heap.size w w') :
    RetS size xs w (.returned (.slice A n c)) w' := ⟨A, n, c, rfl, h1, h2, hR, hb⟩
theorem RetSI.own {size : Nat} {base : Nat} {e : TypeId} {n : Nat} {v : Value} {xs : List Value} {code code' : Int} {w w' : World} (ho : w'.ownsRow base e size v n xs) (h : code' = code) (hb : Below w.heap.size w w') :
    RetSI size xs code w (.returned (.tuple #[v, .int .i64 code'])) w' := by
  obtain ⟨A, c, rfl, h1, h2, h3⟩ := Rd.of_own ho
  exact ⟨A, n, c, by rw [h], h1, h2, h3, hb⟩
theorem RetS.own {size : Nat} {base : Nat} {e : TypeId} {n : Nat} {v : Value} {xs : List Value} {w w' : World} (ho : w'.ownsRow base e size v n xs) (hb : Below w.heap.size w w') : RetS size xs w (.returned v) w' := by
  obtain ⟨A, c, rfl, h1, h2, h3⟩ := Rd.of_own ho
  exact ⟨A, n, c, rfl, h1, h2, h3, hb⟩
end Go.Proofs.Ytaaijgalminafaa
