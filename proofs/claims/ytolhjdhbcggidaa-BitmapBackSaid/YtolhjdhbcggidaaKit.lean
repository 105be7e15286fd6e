/-
  Small words on memory that the proofs of this seat share: a slice that reads as a list of cells, what the call itself owns, strings out of bytes. No program is named here.
-/
import Derived.WalkKit
import Derived.WalkSpells
import Derived.WalkLawsBesides
import Derived.Handy
import Derived.Lib.Hide
import Derived.BigQuiet
import Derived.Deep.QuietTactic
import Derived.Deep.Draws
import Derived.Laws.BytesArg
import Derived.Laws.OwnMore
import Derived.Maps.AppendAt
namespace Go.Proofs.Ytolhjdhbcggidaa
open Go.RowKit

/-- The slice value '.slice A n c' holds the cells xs, below block B. -/
def Rd (w : World) (B size : Nat) (A : Option Addr) (n : Nat) (xs : List Value) : Prop :=
  xs.length = n * size ∧ (0 < n → ∃ b off, A = some ⟨b, off, none⟩ ∧ b < B ∧ ∀ j u, xs[j]? = some u → w.cell? ⟨b, off + j, none⟩ = some u)

def byt (l : List UInt8) : List Value := l.map fun b => .int .u8 (b.toNat : Int)
def bls (l : List Bool) : List Value := l.map .bool
def ints (l : List Int) : List Value := l.map (.int .i64)
def strs (l : List ByteArray) : List Value := l.map .string

section
variable {w w' : World} {B B' size n : Nat} {A : Option Addr} {xs : List Value}
theorem Rd.none_ : Rd w B size A 0 [] := ⟨by simp, fun h => absurd h (by omega)⟩
theorem Rd.len1 (h : Rd w B 1 A n xs) : xs.length = n := by simpa using h.1
theorem Rd.nil_ (h : Rd w B size A 0 xs) : xs = [] := List.eq_nil_of_length_eq_zero (by simpa using h.1)
theorem Rd.keep (h : Rd w B size A n xs) (hk : ∀ p : Addr, p.block < B → w'.cell? p = w.cell? p) : Rd w' B size A n xs :=
  ⟨h.1, fun hn => by
    obtain ⟨b, off, e, hb, hc⟩ := h.2 hn
    exact ⟨b, off, e, hb, fun j u hu => (hk _ hb).trans (hc j u hu)⟩⟩
theorem Rd.more (h : Rd w B size A n xs) (hB : B ≤ B') : Rd w B' size A n xs :=
  ⟨h.1, fun hn => by
    obtain ⟨b, off, e, hb, hc⟩ := h.2 hn
    exact ⟨b, off, e, by omega, hc⟩⟩
theorem Rd.below (h : Rd w B size A n xs) {D : Nat} (hb : Below D w w') (hD : B ≤ D) : Rd w' B size A n xs := h.keep fun _ hp => hb.cell (by omega)
theorem Rd.up (h : Rd w B size A n xs) {D : Nat} (hb : Below D w w') (hD : B ≤ D) (hB : B ≤ B') : Rd w' B' size A n xs := (h.below hb hD).more hB
theorem Rd.drewN (h : Rd w B size A n xs) (k : Nat) : Rd (w.drewN k) B size A n xs := h
theorem Rd.drew (h : Rd w B size A n xs) : Rd w.drew B size A n xs := h
theorem Rd.alloc (h : Rd w B size A n xs) (hB : B ≤ w.heap.size) (o : Obj) : Rd (w.alloc o) B size A n xs := h.keep fun p hp => World.cell?_alloc_lt w o p (by omega)
theorem Rd.setCell (h : Rd w B size A n xs) {p : Addr} (hB : B ≤ p.block) (u : Value) : Rd (w.setCell p u) B size A n xs :=
  h.keep fun q hq => World.cell?_setCell_other w p q u (fun e => by subst e; omega)
/-- The cell at place k of a row of one-cell elements. -/
theorem Rd.at_ {α : Type} {f : α → Value} {l : List α} (h : Rd w B 1 A n (l.map f)) {k : Nat} (hk : k < l.length) :
    ∃ b off, A = some ⟨b, off, none⟩ ∧ b < B ∧ ∀ j (hj : j < l.length), w.cell? ⟨b, off + j, none⟩ = some (f l[j]) := by
  have hl : l.length = n := by simpa using h.1
  obtain ⟨b, off, e, hb, hc⟩ := h.2 (by omega)
  exact ⟨b, off, e, hb, fun j hj => hc j _ (by simp [hj])⟩
theorem Rd.of_own {base : Nat} {e : TypeId} {v : Value} (h : w.ownsRow base e size v n xs) :
    ∃ A c, v = .slice A n c ∧ n ≤ c ∧ c ≤ maxLen ∧ Rd w w.heap.size size A n xs := by
  rcases h.2 with ⟨rfl, rfl⟩ | ⟨g, cap, cur, rfl, hb, hg, hnc, hcm, hcs, htake⟩
  · have hx : xs = [] := List.eq_nil_of_length_eq_zero (by simpa using h.1)
    subst hx
    exact ⟨none, 0, rfl, Nat.le_refl _, by simp [maxLen], Rd.none_⟩
  · refine ⟨some ⟨g, 0, none⟩, cap, rfl, hnc, hcm, h.1, fun hn => ⟨g, 0, rfl, (Array.getElem?_eq_some_iff.1 hg).1, fun j u hu => ?_⟩⟩
    have := h.cells (g := g) rfl j u hu
    have hadd : (⟨g, 0, none⟩ : Addr).add j = ⟨g, 0 + j, none⟩ := by unfold Addr.add; split <;> simp_all
    rwa [hadd] at this
theorem own_form {base : Nat} {e : TypeId} {v : Value} (h : w.ownsRow base e size v n xs) (hn : 0 < n) : ∃ g cap, v = .slice (some ⟨g, 0, none⟩) n cap ∧ base ≤ g ∧ g < w.heap.size := by
  rcases h.2 with ⟨_, h0⟩ | ⟨g, cap, cur, rfl, hb, hg, _⟩
  · omega
  · exact ⟨g, cap, rfl, hb, (Array.getElem?_eq_some_iff.1 hg).1⟩
/-- A cut of a row. -/
theorem Rd.cut (h : Rd w B size A n xs) {k m : Nat} (hk : k + m ≤ n) (A' : Option Addr) (hA : 0 < m → ∀ b off, A = some ⟨b, off, none⟩ → A' = some ⟨b, off + k * size, none⟩) :
    Rd w B size A' m ((xs.drop (k * size)).take (m * size)) := by
  have hle : m * size ≤ xs.length - k * size := by
    rw [h.1, ← Nat.sub_mul]; exact Nat.mul_le_mul_right _ (by omega)
  refine ⟨by rw [List.length_take, List.length_drop]; omega, fun hm => ?_⟩
  obtain ⟨b, off, e, hb, hc⟩ := h.2 (by omega)
  refine ⟨b, off + k * size, hA hm b off e, hb, fun j u hu => ?_⟩
  rw [List.getElem?_take] at hu
  split at hu
  · rw [List.getElem?_drop] at hu
    rw [Nat.add_assoc]; exact hc _ _ hu
  · cases hu
theorem Rd.take_ (h : Rd w B size A n xs) {m : Nat} (hm : m ≤ n) : Rd w B size A m (xs.take (m * size)) := by
  have := h.cut (k := 0) (m := m) (by omega) A (fun _ b off e => by simpa using e)
  simpa using this
end

theorem cell_new (w : World) (cs : Array Value) (t : TypeId) (i : Nat) : (w.alloc (.cells cs t)).cell? ⟨w.heap.size, i, none⟩ = cs[i]? :=
  cell_of_row _ _ i cs t (0, 0) (heap_alloc_new w _)
/-- A block that has just been made. -/
theorem Rd.new (w : World) (cs : Array Value) (t : TypeId) {size n : Nat} (h : n * size ≤ cs.size) :
    Rd (w.alloc (.cells cs t)) (w.heap.size + 1) size (some ⟨w.heap.size, 0, none⟩) n (cs.toList.take (n * size)) := by
  refine ⟨by simp; omega, fun _ => ⟨_, _, rfl, by omega, fun j u hu => ?_⟩⟩
  rw [cell_new, Nat.zero_add]
  rw [List.getElem?_take] at hu
  split at hu
  · simpa using hu
  · cases hu
theorem byt_len (l : List UInt8) : (byt l).length = l.length := by simp [byt]
theorem byt_app (l r : List UInt8) : byt (l ++ r) = byt l ++ byt r := by simp [byt]
theorem map_one {α : Type} {f : α → Value} (hf : ∀ a, (f a).oneCell' = true) (l : List α) : ∀ u ∈ l.map f, u.oneCell' = true := by
  intro u hu
  obtain ⟨a, _, rfl⟩ := List.mem_map.1 hu
  exact hf a
theorem byt_one (l : List UInt8) : ∀ u ∈ byt l, u.oneCell' = true := map_one (fun _ => rfl) l
theorem bls_one (l : List Bool) : ∀ u ∈ bls l, u.oneCell' = true := map_one (fun _ => rfl) l
theorem strs_one (l : List ByteArray) : ∀ u ∈ strs l, u.oneCell' = true := map_one (fun _ => rfl) l
theorem ints_one (l : List Int) : ∀ u ∈ ints l, u.oneCell' = true := map_one (fun _ => rfl) l

/-- 'string(b)'. -/
theorem run_str_of_bytes {P : Program} {w : World} {B n c : Nat} {A : Option Addr} {l : List UInt8} {src dst e : TypeId} (hs : P.underlying src = some (.slice e)) (he : P.underlying e = some (.int .u8)) (hd : P.underlying dst = some .string)
    (h : Rd w B 1 A n (byt l)) : (convert src dst (.slice A n c)).run P w = .ok (.string ⟨l.toArray⟩) w := by
  have hl : l.length = n := by simpa [byt] using h.1
  rcases Nat.eq_zero_or_pos n with h0 | h0
  · subst h0
    have hnil : l = [] := List.eq_nil_of_length_eq_zero hl
    subst hnil
    rcases A with _ | a
    · exact run_convert_bytes_nil w src e hs he 0 c dst hd
    · rw [run_convert_bytes_string w src dst e _ 0 c hs he hd]
      have hz : (loadCells a 0).run P w = .ok (([] : List Int).map (Value.int .u8)).toArray w := by
        have := run_loadCells_list (P := P) w a [] (fun j v hj => by simp at hj)
        simpa using this
      rw [run_bytesToString w a 0 c [] hz]
      rfl
  · obtain ⟨b, off, rfl, hb, hc⟩ := h.2 h0
    have := run_convert_bytes_arg (P := P) w src e hs he b off n c (l.map fun b => (b.toNat : Int)) (by simpa using hl) (fun i hi => by
      have := hc i (.int .u8 ((l[i]'(by omega)).toNat : Int)) (by simp [byt, show i < l.length by omega])
      rw [this]; simp [show i < l.length by omega]) dst hd
    rw [this]
    congr 2
    simp only [strOfNums, List.map_map]
    congr 2
    conv => rhs; rw [← List.map_id l]
    exact List.map_congr_left fun b _ => by simp

theorem ret_i {k : IntKind} {a b : Int} (h : a = b) : Ending.returned (.int k a) = .returned (.int k b) := by rw [h]
theorem ret_b {a b : Bool} (h : a = b) : Ending.returned (.bool a) = .returned (.bool b) := by rw [h]

/-- What the call itself owns after one 'append' of one element, as a relation wants it. -/
theorem own_base {w w' w'' : World} {base : Nat} {e : TypeId} {size n : Nat} {v : Value} {xs : List Value} (h : w.ownsRow base e size v n xs) (hb : Below base w' w) (hg : World.grownBy w w'' v.ownBlock) (hB : base ≤ w.heap.size) : Below base w' w'' :=
  hb.grown hg hB fun k hk => (h.lt k hk).1
/-- A call returned a slice that reads as xs, and a number; what lay there before is as it was. -/
def RetSI (size : Nat) (xs : List Value) (code : Int) (w : World) (e : Ending) (w' : World) : Prop :=
  ∃ A n c, e = .returned (.tuple #[.slice A n c, .int .i64 code]) ∧ n ≤ c ∧ c ≤ maxLen ∧ Rd w' w'.heap.size size A n xs ∧ Below w.heap.size w w'
/-- A call returned a slice that reads as xs. -/
def RetS (size : Nat) (xs : List Value) (w : World) (e : Ending) (w' : World) : Prop :=
  ∃ A n c, e = .returned (.slice A n c) ∧ n ≤ c ∧ c ≤ maxLen ∧ Rd w' w'.heap.size size A n xs ∧ Below w.heap.size w w'
theorem RetSI.nil_ {size : Nat} {code code' : Int} {w w' : World} (h : code' = code) (hb : Below w.heap.size w w') : RetSI size [] code w (.returned (.tuple #[.slice none 0 0, .int .i64 code'])) w' :=
  ⟨none, 0, 0, by rw [h], Nat.le_refl _, Nat.zero_le _, Rd.none_, hb⟩
theorem RetSI.mk' {size : Nat} {A : Option Addr} {n c : Nat} {xs : List Value} {code code' : Int} {w w' : World} (hR : Rd w' w'.heap.size size A n xs) (h1 : n ≤ c) (h2 : c ≤ maxLen) (h : code' = code) (hb : Below w.heap.size w w') :
    RetSI size xs code w (.returned (.tuple #[.slice A n c, .int .i64 code'])) w' := ⟨A, n, c, by rw [h], h1, h2, hR, hb⟩
theorem RetS.mk' {size : Nat} {A : Option Addr} {n c : Nat} {xs : List Value} {w w' : World} (hR : Rd w' w'.heap.size size A n xs) (h1 : n ≤ c) (h2 : c ≤ maxLen) (hb : Below w.heap.size w w') :
    RetS size xs w (.returned (.slice A n c)) w' := ⟨A, n, c, rfl, h1, h2, hR, hb⟩
theorem RetSI.own {size : Nat} {base : Nat} {e : TypeId} {n : Nat} {v : Value} {xs : List Value} {code code' : Int} {w w' : World} (ho : w'.ownsRow base e size v n xs) (h : code' = code) (hb : Below w.heap.size w w') :
    RetSI size xs code w (.returned (.tuple #[v, .int .i64 code'])) w' := by
  obtain ⟨A, c, rfl, h1, h2, h3⟩ := Rd.of_own ho
  exact ⟨A, n, c, by rw [h], h1, h2, h3, hb⟩
theorem RetS.own {size : Nat} {base : Nat} {e : TypeId} {n : Nat} {v : Value} {xs : List Value} {w w' : World} (ho : w'.ownsRow base e size v n xs) (hb : Below w.heap.size w w') : RetS size xs w (.returned v) w' := by
  obtain ⟨A, c, rfl, h1, h2, h3⟩ := Rd.of_own ho
  exact ⟨A, n, c, rfl, h1, h2, h3, hb⟩
end Go.Proofs.Ytolhjdhbcggidaa
