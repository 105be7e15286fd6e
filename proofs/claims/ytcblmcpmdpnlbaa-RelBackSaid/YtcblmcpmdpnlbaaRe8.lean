/-
  Layer 8: the walk through the columns of the key (an iterator): its contract.
-/
import Derived.Test.YtcblmcpmdpnlbaaRe7
import Derived.RangeFuncNested
import Derived.RangeFuncBound
import Derived.RangeFuncCalls
import Derived.RangeFuncLeaves
import Derived.RangeFuncBox
import Derived.Shelf.Abstract
import Derived.Shelf.AbstractIn
import Derived.Shelf.RegionOpen
import Derived.OwnWalkIn
import Derived.TacticsInMore
import Derived.LoopNIn
import Derived.LoopIn
namespace Go.Proofs.Ytcblmcpmdpnlbaa
open Go.RowKit Go.Shelf
attribute [local go_sem] Oper.semAt_some

/-- The columns of the key among the first k, each with its place. -/
def keysTo (l : List Col) : Nat → List (Nat × Col)
  | 0 => []
  | k + 1 => keysTo l k ++ match l[k]? with
    | some c => if c.key = true then [(k, c)] else []
    | none => []
theorem keysTo_yes {l : List Col} {k : Nat} {c : Col} (h : l[k]? = some c) (hk : c.key = true) : keysTo l (k + 1) = keysTo l k ++ [(k, c)] := by simp [keysTo, h, hk]
theorem keysTo_no {l : List Col} {k : Nat} {c : Col} (h : l[k]? = some c) (hk : c.key = false) : keysTo l (k + 1) = keysTo l k := by simp [keysTo, h, hk]
theorem keysTo_len (l : List Col) : ∀ k, (keysTo l k).length ≤ k
  | 0 => by simp [keysTo]
  | k + 1 => by
    have ih := keysTo_len l k
    simp only [keysTo, List.length_append]
    cases l[k]? with
    | none => simp; omega
    | some c => by_cases h : c.key = true <;> simp [h] <;> omega
def encK (x : Nat × Col) : Array Value := #[.int .i64 (x.1 : Int), x.2.v]

set_option maxRecDepth 100000 in
set_option maxHeartbeats 2000000 in
/-- Keys' closure, for every loop body that keeps what lay below n₀. -/
theorem keys1_in (F : Fence) (n : Nat) (h65 : F.fn 65) (hro : F.round = none) (hn : 1 ≤ n) (l Br n₀ : Nat) (r : Rl) (A : Option Addr) (c : Nat) (J Jx : List (Nat × Col) → World → Prop)
    (hY : ∀ k d W, r.cs[k]? = some d → d.key = true → J (keysTo r.cs k) W → (keysTo r.cs k).length < r.cs.length → YieldAt F (n - 1) Try.prog l (encK (k, d)) W fun e W' =>
      (e = .returned (.bool true) ∧ J (keysTo r.cs k ++ [(k, d)]) W' ∧ Below n₀ W W') ∨ (e = .returned (.bool false) ∧ Jx (keysTo r.cs k ++ [(k, d)]) W'))
    (W : World) (hJ : AbidesFrom W.heap.size J) (hr : W.heap[Br]? = some (r.box A c)) (hR : Rd W n₀ 3 A r.cs.length (cols r.cs)) (hl : r.cs.length ≤ maxLen) (hn₀ : n₀ ≤ W.heap.size) (h0 : J [] W) :
    CallsIn F n Try.prog 65 #[.func (.yield l) #[] #[], .pointer (some ⟨Br, 0, none⟩)] W fun e W' => (∃ v, e = .returned v) ∧
      ((∃ ys, ys = keysTo r.cs r.cs.length ∧ J ys W') ∨ (∃ pre, (∃ k d, r.cs[k]? = some d ∧ d.key = true ∧ pre = keysTo r.cs (k + 1)) ∧ Jx pre W')) := by
  obtain ⟨o1, v1, n1, i1, cs⟩ := r
  simp only at *
  unfold maxLen at hl
  have h3 : W.cell? ⟨Br, 4, none⟩ = some (.slice A cs.length c) := cell_of_row _ _ 4 _ 69 (0, 0) hr
  have HR := Lib.hid hR; have HH := Lib.hid hr; clear hR hr
  refine callsIn_of_wp Try.func65 rfl h65 ?_ hro
  simp only [Try.ntmps65, List.size_toArray, List.length_cons, List.length_nil, Nat.reduceAdd, Nat.reduceSub, Array.replicate_succ, Array.replicate_zero, List.push_toArray, List.append_toArray, List.nil_append, List.cons_append]
  gi_wp2
  gi_loopw [8] (fun i wr => ∃ k : Nat, k ≤ cs.length ∧ i = .int .i64 k ∧ J (keysTo cs k) wr ∧ Below n₀ W wr ∧ W.heap.size ≤ wr.heap.size)
    (fun i _ => cs.length - (intOf i).toNat)
  case atStart => exact ⟨0, Nat.zero_le _, rfl, h0, Below.refl _ _, Nat.le_refl _⟩
  case round =>
    obtain ⟨k, hk, rfl, hJs, hnx, hsz⟩ := hrel
    by_cases hlt : k < cs.length
    · obtain ⟨b, off, rfl, hbl, hc⟩ := (HR.out.below hnx (Nat.le_refl _)).col hlt
      obtain ⟨k0, k1, k2⟩ := hc k hlt
      have hget : cs[k]? = some cs[k] := List.getElem?_eq_getElem hlt
      clear hc
      generalize cs[k] = o at *
      have hy := keysTo_yes (l := cs) (k := k) (c := o) hget
      have hno := keysTo_no (l := cs) (k := k) (c := o) hget
      have hlen := keysTo_len cs k
      have hi : (k : Int) < (cs.length : Int) := by omega
      have hJ1 : J (keysTo cs k) (wr.alloc (.cells #[.string o.name, .int .u8 (o.type : Int), .bool o.key] 82)) := hJ _ _ _ none hJs (World.grownBy_alloc _ _ none) (fun r e => by cases e)
      have hb1 : Below n₀ wr (wr.alloc (.cells #[.string o.name, .int .u8 (o.type : Int), .bool o.key] 82)) := (Below.refl _ _).alloc (by omega) _
      have hs1 : wr.heap.size ≤ (wr.alloc (.cells #[.string o.name, .int .u8 (o.type : Int), .bool o.key] 82)).heap.size := by simp
      obtain ⟨on, ot, ok⟩ := o
      cases ok
      · have hn1 := Lib.hid (hno rfl); have HG := Lib.hid hget; clear hno hy hget
        gi_wp2
        refine ⟨fun _ h => (by cases h), ?_⟩
        gi_wp2
        go_roundw
        case rel => exact ⟨k + 1, by omega, by simp, by rw [hn1.out]; exact hJ1, hnx.trans hb1, by omega⟩
        case measure => simp [intOf]; omega
      · have hy1 := Lib.hid (hy rfl); have HG := Lib.hid hget; clear hno hy hget
        obtain ⟨fn, tmps, assign, body, hyy, hRR⟩ := hY k ⟨on, ot, true⟩ _ HG.out rfl hJ1 (by omega)
        simp only [encK, Col.v] at hyy
        gi_wp2
        refine hRR.mono ?_
        rintro e W3 (⟨rfl, hJ3, hk3⟩ | ⟨rfl, hJx3⟩)
        · gi_wp2
          go_roundw
          case rel => exact ⟨k + 1, by omega, by simp, by rw [hy1.out]; exact hJ3, (hnx.trans hb1).trans hk3, by have := hk3.size; omega⟩
          case measure => simp [intOf]; omega
        · gi_wp2
          refine bodyPost_ret (results_none rfl _ _ _) rfl ?_
          exact ⟨⟨_, rfl⟩, .inr ⟨_, ⟨k, _, HG.out, rfl, hy1.out.symm⟩, hJx3⟩⟩
    · obtain rfl : k = cs.length := by omega
      gi_wp2
      go_end0
      exact ⟨⟨_, rfl⟩, .inl ⟨_, rfl, hJs⟩⟩

set_option maxRecDepth 100000 in
/-- Keys: the relation is boxed; the function value captures the box. -/
theorem keys_in (F : Fence) (n : Nat) (h48 : F.fn 48) (hro : F.round = none) (r : Rl) (A : Option Addr) (c : Nat) (w : World) :
    CallsIn F n Try.prog 48 #[r.v A c] w fun e w' => e = .returned (.func (.func 65) #[] #[.pointer (some ⟨w.heap.size, 0, none⟩)]) ∧ w' = w.alloc (r.box A c) := by
  unfold Rl.v Rl.box
  refine callsIn_of_wp Try.func48 rfl h48 ?_ hro
  simp only [Try.ntmps48, List.size_toArray, List.length_cons, List.length_nil, Nat.reduceAdd, Nat.reduceSub, Array.replicate_succ, Array.replicate_zero, List.push_toArray, List.append_toArray, List.nil_append, List.cons_append]
  gi_wp2
  go_ret
  exact ⟨rfl, rfl⟩
/-- What Keys hands back goes through the columns of the key, all or some first ones. -/
theorem keys_stops (F : Fence) (n : Nat) (h65 : F.fn 65) (hro : F.round = none) (hn : 1 ≤ n) (Br n₀ : Nat) (r : Rl) (A : Option Addr) (c : Nat) (w : World) (hr : w.heap[Br]? = some (r.box A c)) (hn₀ : n₀ ≤ w.heap.size)
    (hR : Rd w n₀ 3 A r.cs.length (cols r.cs)) (hl : r.cs.length ≤ maxLen) :
    SeqStopsK F n Try.prog 65 #[.pointer (some ⟨Br, 0, none⟩)] encK (Below n₀) (fun ys => ys = keysTo r.cs r.cs.length) (fun pre => ∃ k d, r.cs[k]? = some d ∧ d.key = true ∧ pre = keysTo r.cs (k + 1)) r.cs.length w :=
  fun l J Jx W hW hJ _ hY h0 =>
    keys1_in F n h65 hro hn l Br n₀ r A c J Jx (fun k d W1 _ _ hj hl => hY _ (k, d) W1 hj hl) W hJ ((hW.block Br (Array.getElem?_eq_some_iff.1 hr).1).trans hr) (hR.below hW hn₀) hl (Nat.le_trans hn₀ hW.size) h0

/-- A column of the key, with its place. -/
def KeyAt (l : List Col) : Type := { x : Nat × Col // l[x.1]? = some x.2 ∧ x.2.key = true }
def encKA {l : List Col} (x : KeyAt l) : Array Value := encK x.1
/-- The same, where what is handed on is known to be a column of the key. -/
theorem keys_stopsA (F : Fence) (n : Nat) (h65 : F.fn 65) (hro : F.round = none) (hn : 1 ≤ n) (Br n₀ : Nat) (r : Rl) (A : Option Addr) (c : Nat) (w : World) (hr : w.heap[Br]? = some (r.box A c)) (hn₀ : n₀ ≤ w.heap.size)
    (hR : Rd w n₀ 3 A r.cs.length (cols r.cs)) (hl : r.cs.length ≤ maxLen) :
    SeqStopsK F n Try.prog 65 #[.pointer (some ⟨Br, 0, none⟩)] (encKA (l := r.cs)) (Below n₀) (fun ys => ys.map (·.1) = keysTo r.cs r.cs.length) (fun pre => ∃ k d, r.cs[k]? = some d ∧ d.key = true ∧ pre.map (·.1) = keysTo r.cs k ++ [(k, d)]) r.cs.length w := by
  intro l J Jx W hW hJ _ hY h0
  refine (keys1_in F n h65 hro hn l Br n₀ r A c (fun pre W => ∃ ps : List (KeyAt r.cs), ps.map (·.1) = pre ∧ J ps W) (fun pre W => ∃ ps : List (KeyAt r.cs), ps.map (·.1) = pre ∧ Jx ps W) ?_ W
    (fun s A B row hs hg hrow => by obtain ⟨ps, h1, h2⟩ := hs; exact ⟨ps, h1, hJ ps A B row h2 hg hrow⟩)
    ((hW.block Br (Array.getElem?_eq_some_iff.1 hr).1).trans hr) (hR.below hW hn₀) hl (Nat.le_trans hn₀ hW.size) ⟨[], rfl, h0⟩).mono ?_
  · rintro k d W1 hk hd ⟨ps, h1, h2⟩ hlen
    have hlen2 : ps.length < r.cs.length := by rw [← h1, List.length_map] at hlen; exact hlen
    obtain ⟨fn, tmps, assign, body, hy, hRR⟩ := hY ps ⟨(k, d), hk, hd⟩ W1 h2 hlen2
    refine ⟨fn, tmps, assign, body, hy, hRR.mono ?_⟩
    rintro e W' (⟨he, hj, hb⟩ | ⟨he, hj⟩)
    · exact .inl ⟨he, ⟨_, by rw [List.map_append, h1]; rfl, hj⟩, hb⟩
    · exact .inr ⟨he, ⟨_, by rw [List.map_append, h1]; rfl, hj⟩⟩
  · rintro e W' ⟨hv, ⟨ys, rfl, ps, h1, h2⟩ | ⟨pre, ⟨k, d, hk, hd, rfl⟩, ps, h1, h2⟩⟩
    · exact ⟨hv, .inl ⟨ps, h1, h2⟩⟩
    · exact ⟨hv, .inr ⟨ps, ⟨k, d, hk, hd, by rw [h1, keysTo_yes hk hd]⟩, h2⟩⟩

theorem keysTo_any (l : List Col) : ∀ k, k ≤ l.length → ((l.take k).any (·.key) = true ↔ keysTo l k ≠ [])
  | 0, _ => by simp [keysTo]
  | k + 1, h => by
    have ih := keysTo_any l k (by omega)
    have hk : l[k]? = some l[k] := List.getElem?_eq_getElem (by omega)
    rw [List.take_succ_eq_append_getElem (by omega), List.any_append]
    by_cases hy : (l[k]'(by omega)).key = true
    · rw [keysTo_yes hk hy]; simp [hy]
    · rw [Bool.not_eq_true] at hy
      rw [keysTo_no hk hy]; simp only [List.any_cons, hy, List.any_nil, Bool.or_false]; exact ih
def keyedB (l : List Col) : Bool := l.any (·.key)
theorem keyed_all {l : List Col} (h : keysTo l l.length = []) : keyedB l = false := by
  rw [← Bool.not_eq_true]
  intro hk
  exact (keysTo_any l l.length (Nat.le_refl _)).1 (by rw [List.take_length]; exact hk) h
theorem keyed_some {l : List Col} {k : Nat} {d : Col} (h : l[k]? = some d) (hd : d.key = true) : keyedB l = true :=
  List.any_eq_true.2 ⟨d, List.mem_of_getElem? h, hd⟩

set_option maxRecDepth 100000 in
set_option maxHeartbeats 2000000 in
theorem keyed_in (F : Fence) (n : Nat) (h63 : F.fn 63) (h48 : F.fn 48) (h65 : F.fn 65) (hro : F.round = none) (hn : 3 ≤ n) (r : Rl) (A : Option Addr) (c : Nat) (w : World) (hR : Rd w w.heap.size 3 A r.cs.length (cols r.cs)) (hl : r.cs.length ≤ maxLen) :
    CallsIn F n Try.prog 63 #[r.v A c] w fun e W' => e = .returned (.bool (keyedB r.cs)) ∧ Below w.heap.size w W' := by
  have h1 : 1 ≤ n := by omega
  obtain ⟨B0, hB0⟩ : ∃ B, B = w.heap.size := ⟨_, rfl⟩
  have hv : r.v A c = .agg #[.int .u32 (r.oid : Int), .int .u32 (r.ver : Int), .string r.name, .int .u8 (r.ident : Int), .slice A r.cs.length c] := rfl
  have hx : r.box A c = .cells #[.int .u32 (r.oid : Int), .int .u32 (r.ver : Int), .string r.name, .int .u8 (r.ident : Int), .slice A r.cs.length c] 69 := rfl
  have Hx := Lib.hid hx; clear hx
  refine callsIn_of_wp_marks Try.func63 rfl h63 ?_ hro
  simp only [Try.ntmps63, List.size_toArray, List.length_cons, List.length_nil, Nat.reduceAdd, Nat.reduceSub, Array.replicate_succ, Array.replicate_zero, List.push_toArray, List.append_toArray, List.nil_append, List.cons_append]
  rw [hv]
  clear hv
  have bR := (Boxed.new (w.alloc (.cells #[.int .u32 (r.oid : Int), .int .u32 (r.ver : Int), .string r.name, .int .u8 (r.ident : Int), .slice A r.cs.length c] 69)) 4 (.bool false)).alloc (r.box A c)
  have hbox := heap_alloc_new ((w.alloc (.cells #[.int .u32 (r.oid : Int), .int .u32 (r.ver : Int), .string r.name, .int .u8 (r.ident : Int), .slice A r.cs.length c] 69)).alloc (.cells #[.bool false] 4)) (r.box A c)
  have hsz : (((w.alloc (.cells #[.int .u32 (r.oid : Int), .int .u32 (r.ver : Int), .string r.name, .int .u8 (r.ident : Int), .slice A r.cs.length c] 69)).alloc (.cells #[.bool false] 4)).alloc (r.box A c)).heap.size = w.heap.size + 3 := by simp
  have hBel : Below w.heap.size w (((w.alloc (.cells #[.int .u32 (r.oid : Int), .int .u32 (r.ver : Int), .string r.name, .int .u8 (r.ident : Int), .slice A r.cs.length c] 69)).alloc (.cells #[.bool false] 4)).alloc (r.box A c)) := (((Below.refl _ w).alloc (Nat.le_refl _) _).alloc (by simp) _).alloc (by simp; omega) _
  rw [World.size_alloc, World.size_alloc] at hbox
  rw [World.size_alloc] at bR
  gi_wp2_with (gi_at_call 48; refine (keys_in F (n - 1) h48 hro r A c _).mono ?_; rintro e w' ⟨rfl, rfl⟩)
  obtain ⟨W0, hW0⟩ : ∃ W0, (((w.alloc (.cells #[.int .u32 (r.oid : Int), .int .u32 (r.ver : Int), .string r.name, .int .u8 (r.ident : Int), .slice A r.cs.length c] 69)).alloc (.cells #[.bool false] 4)).alloc (r.box A c)) = W0 := ⟨_, rfl⟩
  rw [hW0] at bR hbox hsz hBel ⊢
  clear hW0
  have hRW := hR.below hBel (Nat.le_refl _)
  have Hs := Lib.hid hsz
  clear Hx
  refine wpIn_rangeFunc_ownG hro h1 (gf := 65) (lb := #[.pointer (some ⟨w.heap.size + 1 + 1, 0, none⟩)]) rfl h65 (enters_of Try.func65 (by kernel_rfl) rfl)
    (keys_stops F (n - 1) h65 hro (by omega) (w.heap.size + 1 + 1) w.heap.size r A c W0 hbox (by omega) hRW hl) belowK_t (belowK_b (by omega)) (Below.refl _ _) (fun _ => rfl)
    (fun pre W => (pre = [] ∧ Boxed W (w.heap.size + 1) 4 (.bool false)) ∧ Below w.heap.size w W)
    (fun j _ W => (j = .ret ∧ Boxed W (w.heap.size + 1) 4 (.bool true)) ∧ Below w.heap.size w W)
    (OwnFrom.and (Own.from (fun s A B row hs hg hr => ⟨hs.1, (boxed_own (w.heap.size + 1) 4 (fun _ => .bool false)) s A B row hs.2 hg hr⟩) _) (ownFrom_below (Nat.le_refl _) (by omega)))
    (fun j => OwnFrom.and (Own.from (fun s A B row hs hg hr => ⟨hs.1, (boxed_own (w.heap.size + 1) 4 (fun _ => .bool true)) s A B row hs.2 hg hr⟩) _) (ownFrom_below (Nat.le_refl _) (by omega)))
    ⟨⟨rfl, bR⟩, hBel⟩
    (fun x => { tmps := #[.agg #[.int .u32 (r.oid : Int), .int .u32 (r.ver : Int), .string r.name, .int .u8 (r.ident : Int), .slice A r.cs.length c], .pointer (some ⟨w.heap.size, 0, none⟩), .pointer (some ⟨w.heap.size + 1, 0, none⟩), .agg #[.int .u32 (r.oid : Int), .int .u32 (r.ver : Int), .string r.name, .int .u8 (r.ident : Int), .slice A r.cs.length c], .func (.func 65) #[] #[.pointer (some ⟨w.heap.size + 1 + 1, 0, none⟩)], .int .i64 (x.1 : Int), x.2.v], defers := [] }) ?assign ?body ?done ?stop
  case assign =>
    rintro l ⟨x1, x2⟩ W K hK
    simp only [encK]
    gi_wp2
    exact hK
  case body =>
    rintro l pre x W ⟨⟨rfl, hb⟩, hB⟩ _
    have hc := hb.cell
    have hf := hb.frozen
    gi_wp2
    exact ⟨(KeepsOthers.setCell _ _ _).from _, ⟨rfl, hb.set _⟩, hB.setCell (p := ⟨w.heap.size + 1, 0, none⟩) (Nat.le_succ _) _⟩
  case done =>
    rintro D ys W hD hys ⟨⟨rfl, hb⟩, hB⟩ hK
    have hkb := keyed_all hys.symm
    have Hk := Lib.hid hkb; clear hkb hys
    have hc := hb.cell
    have hf := hb.frozen
    gi_wp2
    have hK' := (KeepsOthers.setCell W ⟨w.heap.size + 1, 0, none⟩ (.bool false)).same D _ hK rfl
    refine ⟨by simp, .inl ⟨_, _, rfl, run_takeDeferred hK', ?_⟩⟩
    have hc5 := cell_kept (hb.set (.bool false)).cell (grownBy_putObj' _ D (.deferred none)) (fun r e => by cases e; exact ⟨_, hK', rfl⟩)
    refine ⟨.bool false, ?_, by rw [Hk.out], (hB.setCell (p := ⟨w.heap.size + 1, 0, none⟩) (Nat.le_succ _) _).trans (belowK_b (w := w) (Nat.le_refl _) _ D _ _ (by omega) hK' rfl rfl)⟩
    simp [results, Try.f63, go_sem, hc5]
  case stop =>
    rintro D j pre W hD ⟨k, d, hk, hkd, rfl⟩ ⟨⟨rfl, hb⟩, hB⟩ hK
    have hkb := keyed_some hk hkd
    have Hk := Lib.hid hkb; clear hkb hkd hk
    gi_wp2
    refine ⟨by simp, .inl ⟨_, _, rfl, run_takeDeferred hK, ?_⟩⟩
    have hc5 := cell_kept hb.cell (grownBy_putObj' _ D (.deferred none)) (fun r e => by cases e; exact ⟨_, hK, rfl⟩)
    refine ⟨.bool true, ?_, by rw [Hk.out], hB.trans (belowK_b (w := w) (Nat.le_refl _) W D _ _ (by omega) hK rfl rfl)⟩
    simp [results, Try.f63, go_sem, hc5]
/-- keyed: is a column of the key? -/
theorem keyed_any (r : Rl) (A : Option Addr) (c : Nat) (w : World) (hR : Rd w w.heap.size 3 A r.cs.length (cols r.cs)) (hl : r.cs.length ≤ maxLen) : Calls Try.prog 63 #[r.v A c] w (RetB (keyedB r.cs) w) :=
  callsIn_wide.1 (keyed_in Fence.wide 3 trivial trivial trivial rfl (Nat.le_refl _) r A c w hR hl)
end Go.Proofs.Ytcblmcpmdpnlbaa
