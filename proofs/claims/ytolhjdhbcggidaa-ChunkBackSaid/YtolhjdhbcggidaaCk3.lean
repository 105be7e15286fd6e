/-
  Layer 11: the walk through a text's pieces (an iterator): its contract.
-/
import Derived.Test.YtolhjdhbcggidaaCk2
import Derived.RangeFuncNested
import Derived.RangeFuncBound
import Derived.RangeFuncCalls
import Derived.RangeFuncLeaves
import Derived.RangeFuncBox
import Derived.Shelf.Abstract
import Derived.Shelf.AbstractIn
import Derived.Shelf.RegionOpen
import Derived.OwnWalkIn
import Derived.TacticsInMore
import Derived.LoopNIn
import Derived.LoopIn
namespace Go.Proofs.Ytolhjdhbcggidaa
open Go.RowKit Go.Shelf
attribute [local go_sem] Oper.semAt_some

/-- What is handed on with piece number k. -/
def encP (s : ByteArray) (k : Nat) : Array Value := #[.int .i64 ((256 * k : Nat) : Int), .string (pc s k)]

/-- Block b is as it was. -/
def Keep (b : Nat) (W W' : World) : Prop := ∀ o : Obj, W.heap[b]? = some o → o.isCells = true → W'.heap[b]? = some o
theorem Keep.refl (b : Nat) (W : World) : Keep b W W := fun _ h _ => h
theorem Keep.trans {b : Nat} {X Y Z : World} (h : Keep b X Y) (k : Keep b Y Z) : Keep b X Z := fun o ho hc => k o (h o ho hc) hc
theorem Keep.putObj (b : Nat) (W : World) (l : Nat) (o o' : Obj) (hl : W.heap[l]? = some o) (hc : o.isCells = false) : Keep b W (W.putObj l o') := fun x hx hxc => by
  rw [World.putObj_heap_other (fun e => ?_)]
  · exact hx
  · subst e; rw [hl] at hx; injection hx with hx; subst hx; rw [hc] at hxc; cases hxc
theorem Keep.below {b n₀ : Nat} {W W' : World} (h : Below n₀ W W') (hb : b < n₀) : Keep b W W' := fun o ho _ => (h.block b hb).trans ho
/-- How the walk ends: all pieces have come, or a round has said 'no more'. -/
def WkPost (s : ByteArray) (J Jx : List Nat → World → Prop) (e : Ending) (W' : World) : Prop :=
  (∃ v, e = .returned v) ∧ (J (List.range (nPc s.size)) W' ∨ ∃ k, k < nPc s.size ∧ Jx (List.range (k + 1)) W')
theorem pc_mid {s : ByteArray} {k a : Nat} (ha : a = 256 * k) (h : a + 256 ≤ s.size) : pc s k = s.extract a (a + 256) := by
  subst ha; unfold pc; rw [Nat.min_eq_left (by omega)]
theorem pc_end {s : ByteArray} {k a : Nat} (ha : a = 256 * k) (h : ¬ a + 256 ≤ s.size) : pc s k = s.extract a s.size := by
  subst ha; unfold pc; rw [Nat.min_eq_right (by omega)]

set_option maxRecDepth 100000 in
set_option maxHeartbeats 2000000 in
/-- Walk's closure, for every loop body that keeps what lay below n₀. -/
theorem walk1_in (F : Fence) (n : Nat) (h31 : F.fn 31) (hro : F.round = none) (hn : 1 ≤ n) (l Bs : Nat) (s : ByteArray) (J Jx : List Nat → World → Prop)
    (hY : ∀ k W, k < nPc s.size → J (List.range k) W → YieldAt F (n - 1) Try.prog l (encP s k) W fun e W' =>
      (e = .returned (.bool true) ∧ J (List.range k ++ [k]) W' ∧ Keep Bs W W') ∨ (e = .returned (.bool false) ∧ Jx (List.range k ++ [k]) W'))
    (W : World) (hs : W.heap[Bs]? = some (.cells #[.string s] 9 (0, 0))) (hz : s.size ≤ 1048576) (h0 : J [] W) :
    CallsIn F n Try.prog 31 #[.func (.yield l) #[] #[], .pointer (some ⟨Bs, 0, none⟩)] W (WkPost s J Jx) := by
  have HH := Lib.hid hs; clear hs
  refine callsIn_of_wp Try.func31 rfl h31 ?_ hro
  simp only [Try.ntmps31, List.size_toArray, List.length_cons, List.length_nil, Nat.reduceAdd, Nat.reduceSub, Array.replicate_succ, Array.replicate_zero, List.push_toArray, List.append_toArray, List.nil_append, List.cons_append]
  gi_wp2
  gi_loopw [3] (fun i wr => ∃ a k : Nat, Hid (a = 256 * k) ∧ k ≤ nPc s.size ∧ a ≤ 1048831 ∧ i = .int .i64 (a : Int) ∧ J (List.range k) wr ∧ Keep Bs W wr)
    (fun i _ => 1048832 - (intOf i).toNat)
  case atStart => exact ⟨0, 0, rfl, Nat.zero_le _, by omega, rfl, h0, Keep.refl _ _⟩
  case round =>
    obtain ⟨a, k, ha, hk, hal, rfl, hJs, hnx⟩ := hrel
    have hcell : wr.cell? ⟨Bs, 0, none⟩ = some (.string s) := cell_of_row _ _ 0 _ 9 (0, 0) (hnx _ HH.out rfl)
    by_cases hlt' : k < nPc s.size
    · have hk2 : a < s.size := by rw [ha.out]; unfold nPc at hlt'; omega
      have hi : (a : Int) < (s.size : Int) := by omega
      obtain ⟨fn, tmps, assign, body, hyy, hRR⟩ := hY k wr hlt' hJs
      have hrs := Lib.hid (List.range_succ (n := k))
      have ha' : Hid (a + 256 = 256 * (k + 1)) := by show _ = _; rw [ha.out]; omega
      by_cases hm : a + 256 ≤ s.size
      · have hm' : (a : Int) + 256 ≤ (s.size : Int) := by omega
        have htn : ((a : Int) + 256).toNat = a + 256 := by omega
        simp only [encP, pc_mid ha.out hm] at hyy
        rw [← ha.out] at hyy
        gi_wp2
        refine hRR.mono ?_
        rintro e W3 (⟨rfl, hJ3, hk3⟩ | ⟨rfl, hJx3⟩)
        · rw [← hrs.out] at hJ3
          gi_wp2
          go_roundw
          case rel => exact ⟨a + 256, k + 1, ha'.out, by omega, by omega, by go_num, hJ3, hnx.trans hk3⟩
          case measure => simp [intOf]; omega
        · rw [← hrs.out] at hJx3
          gi_wp2
          refine bodyPost_ret (results_none rfl _ _ _) rfl ?_
          exact ⟨⟨_, rfl⟩, .inr ⟨k, hlt', hJx3⟩⟩
      · have hm' : (s.size : Int) < (a : Int) + 256 := by omega
        simp only [encP, pc_end ha.out hm] at hyy
        rw [← ha.out] at hyy
        gi_wp2
        refine hRR.mono ?_
        rintro e W3 (⟨rfl, hJ3, hk3⟩ | ⟨rfl, hJx3⟩)
        · rw [← hrs.out] at hJ3
          gi_wp2
          go_roundw
          case rel => exact ⟨a + 256, k + 1, ha'.out, by omega, by omega, by go_num, hJ3, hnx.trans hk3⟩
          case measure => simp [intOf]; omega
        · rw [← hrs.out] at hJx3
          gi_wp2
          refine bodyPost_ret (results_none rfl _ _ _) rfl ?_
          exact ⟨⟨_, rfl⟩, .inr ⟨k, hlt', hJx3⟩⟩
    · have hk2 : ¬ a < s.size := by rw [ha.out]; unfold nPc at hk hlt'; omega
      have hke : Hid (k = nPc s.size) := by show _ = _; omega
      have hi : ¬ (a : Int) < (s.size : Int) := by omega
      gi_wp2
      go_end0
      exact ⟨⟨_, rfl⟩, .inl (by rw [← hke.out]; exact hJs)⟩

/-- Walk: the text is boxed; the function value captures the box. -/
theorem walk_in (F : Fence) (n : Nat) (h24 : F.fn 24) (hro : F.round = none) (s : ByteArray) (w : World) :
    CallsIn F n Try.prog 24 #[.string s] w fun e w' => e = .returned (.func (.func 31) #[] #[.pointer (some ⟨w.heap.size, 0, none⟩)]) ∧ w' = w.alloc (.cells #[.string s] 9) := by
  refine callsIn_of_wp Try.func24 rfl h24 ?_ hro
  simp only [Try.ntmps24, List.size_toArray, List.length_cons, List.length_nil, Nat.reduceAdd, Nat.reduceSub, Array.replicate_succ, Array.replicate_zero, List.push_toArray, List.append_toArray, List.nil_append, List.cons_append]
  gi_wp2
  go_ret
  exact ⟨rfl, rfl⟩
/-- What Walk hands back goes through the pieces, all or some first ones. -/
theorem walk_stops (F : Fence) (n : Nat) (h31 : F.fn 31) (hro : F.round = none) (hn : 1 ≤ n) (Bs : Nat) (s : ByteArray) (w : World) (hs : w.heap[Bs]? = some (.cells #[.string s] 9 (0, 0))) (hz : s.size ≤ 1048576) :
    SeqStopsK F n Try.prog 31 #[.pointer (some ⟨Bs, 0, none⟩)] (encP s) (Keep Bs) (fun ys => ys = List.range (nPc s.size)) (fun pre => ∃ k, k < nPc s.size ∧ pre = List.range (k + 1)) (nPc s.size) w :=
  fun l J Jx W hW _ _ hY h0 =>
    (walk1_in F n h31 hro hn l Bs s J Jx (fun k W1 hk hj => hY _ k W1 hj (by simpa using hk)) W ((hW.block Bs (Array.getElem?_eq_some_iff.1 hs).1).trans hs) hz h0).mono fun e W' ⟨h1, h2⟩ =>
      ⟨h1, h2.imp (fun h => ⟨_, rfl, h⟩) (fun ⟨k, hk, h⟩ => ⟨_, ⟨k, hk, rfl⟩, h⟩)⟩
end Go.Proofs.Ytolhjdhbcggidaa
