/-
  Layer 8: slices.Equal of columns by its contract.
-/
import Derived.Test.YtcblmcpmdpnlbaaRe5
import Derived.Laws.StructEq
namespace Go.Proofs.Ytcblmcpmdpnlbaa
open Go.RowKit Mono
attribute [local go_sem] pureAt pureUpon

def Col.same (a b : Col) : Bool := a.name.toList == b.name.toList && (a.type == b.type && a.key == b.key)
def sameCols : List Col → List Col → Bool
  | [], [] => true
  | a :: r, b :: t => a.same b && sameCols r t
  | _, _ => false

theorem sameCols_cons (a b : Col) (r t : List Col) : sameCols (a :: r) (b :: t) = (a.same b && sameCols r t) := rfl
theorem sameCols_len : ∀ {l l' : List Col}, l.length ≠ l'.length → sameCols l l' = false
  | [], [], h => absurd rfl h
  | [], _ :: _, _ => rfl
  | _ :: _, [], _ => rfl
  | a :: r, b :: t, h => by
    rw [sameCols_cons, sameCols_len (l := r) (l' := t) (fun e => h (by simp [e])), Bool.and_false]
set_option maxRecDepth 100000 in
set_option maxHeartbeats 800000 in
theorem equal_any (A A' : Option Addr) (c c' : Nat) (l l' : List Col) (w : World) (hR : Rd w w.heap.size 3 A l.length (cols l)) (hR' : Rd w w.heap.size 3 A' l'.length (cols l')) (hl : l.length ≤ maxLen) :
    Calls Try.prog 64 #[.slice A l.length c, .slice A' l'.length c'] w (RetB (sameCols l l') w) := by
  have hmax : l.length ≤ 9223372036854775807 := hl
  by_cases hlen : l.length = l'.length
  · have hlen2 := hlen
    rw [← hlen] at hR' ⊢
    have Hlen := Lib.hid hlen2; clear hlen hlen2
    have HR := Lib.hid hR; have HR' := Lib.hid hR'; clear hR hR'
    have q1 : Try.prog.stoodInHeld 82 = false := by kernel_rfl
    have q2 : Try.prog.eqGuardType Try.prog.depth 82 = false := by kernel_rfl
    go_enter Try.func64, Try.ntmps64
    go_wp2
    go_loopw [13] (fun k wr => ∃ j : Nat, k = .int .i64 (j : Int) ∧ j ≤ l.length ∧ Hid (sameCols (l.drop j) (l'.drop j) = sameCols l l') ∧ Below w.heap.size w wr) (fun k _ => l.length - (intOf k).toNat)
    case atStart => exact ⟨0, rfl, by omega, rfl, Below.refl _ _⟩
    case round =>
      obtain ⟨j, rfl, hj, Ho, hb⟩ := hrel
      have hbs := hb.size
      by_cases hlt : j < l.length
      · have hlt' : j < l'.length := by rw [← Hlen.out]; exact hlt
        obtain ⟨b, off, rfl, hbl, hc⟩ := (HR.out.below hb (Nat.le_refl _)).col hlt
        obtain ⟨b', off', rfl, hbl', hc'⟩ := (HR'.out.below hb (Nat.le_refl _)).col hlt'
        obtain ⟨k0, k1, k2⟩ := hc j hlt
        obtain ⟨k0', k1', k2'⟩ := hc' j hlt'
        clear hc hc'
        have ho := Ho.out
        rw [List.drop_eq_getElem_cons hlt, List.drop_eq_getElem_cons hlt'] at ho
        generalize l[j] = o at *
        generalize l'[j] = o' at *
        have hi : (j : Int) < (l.length : Int) := by omega
        have Ho := Lib.hid ho; clear ho hlt'
        go_wp2_with fail
        refine wp_region_mono _ Ext (ansE (fun _ => .any)) (ansR (fun _ => .any)) (ans_good _ _) (by kernel_rfl) (by kernel_rfl) (Below.refl wr.heap.size wr).drew ?_
        repeat (first | (refine wpM_skip rfl ?_) | (refine wpM_all rfl rfl (fun K hK => ?_); go_simp; refine hK _ ?_; clear hK K))
        refine wpM_look (.agg #[.string o.name, .int .u8 (o.type : Int), .bool o.key]) rfl rfl (fun w5 hc _ => ?_) ?_
        · have hc0 : w5.cell? ⟨b, off + j * 3, none⟩ = some (.string o.name) := by rw [hc.cell (show b < wr.heap.size by omega)]; exact k0
          have hc1 : w5.cell? ⟨b, off + j * 3 + 1, none⟩ = some (.int .u8 (o.type : Int)) := by rw [hc.cell (show b < wr.heap.size by omega)]; exact k1
          have hc2 : w5.cell? ⟨b, off + j * 3 + 2, none⟩ = some (.bool o.key) := by rw [hc.cell (show b < wr.heap.size by omega)]; exact k2
          go_simp
        repeat (first | (refine wpM_skip rfl ?_) | (refine wpM_all rfl rfl (fun K hK => ?_); go_simp; refine hK _ ?_; clear hK K))
        refine wpM_look (.agg #[.string o'.name, .int .u8 (o'.type : Int), .bool o'.key]) rfl rfl (fun w5 hc _ => ?_) ?_
        · have hc0 : w5.cell? ⟨b', off' + j * 3, none⟩ = some (.string o'.name) := by rw [hc.cell (show b' < wr.heap.size by omega)]; exact k0'
          have hc1 : w5.cell? ⟨b', off' + j * 3 + 1, none⟩ = some (.int .u8 (o'.type : Int)) := by rw [hc.cell (show b' < wr.heap.size by omega)]; exact k1'
          have hc2 : w5.cell? ⟨b', off' + j * 3 + 2, none⟩ = some (.bool o'.key) := by rw [hc.cell (show b' < wr.heap.size by omega)]; exact k2'
          go_simp
        refine wpM_all rfl rfl (fun K hK => ?_)
        go_simp
        refine ⟨.bool (!o.same o'), fun w => ?_, hK _ ?_⟩
        · have ht : (o.type == o'.type) = decide ((o.type : Int) = (o'.type : Int)) := by
            by_cases h : o.type = o'.type
            · rw [h]; simp
            · rw [beq_false_of_ne h, decide_eq_false (by omega)]
          unfold Col.same
          rw [ht]
          by_cases h1 : o.name.toList = o'.name.toList <;> by_cases h2 : (o.type : Int) = (o'.type : Int) <;> by_cases h3 : o.key = o'.key <;> simp [h1, h2, h3]
        clear hK K
        refine wpM_nil fun w3 hc3 _ => ?_
        have hb3 := step_below hb hc3
        clear k0 k1 k2 k0' k1' k2' hc3 hb
        by_cases hq : o.same o' = true
        · have ho := Ho.out
          rw [sameCols_cons, hq, Bool.true_and] at ho
          rw [hq]
          have Hx := Lib.hid ho; clear ho Ho hq
          go_wp2
          go_roundw
          case rel => exact ⟨j + 1, by go_num, by omega, Hx, hb3⟩
          case measure => simp [intOf]; omega
        · rw [Bool.not_eq_true] at hq
          have ho := Ho.out
          rw [sameCols_cons, hq, Bool.false_and] at ho
          rw [hq]
          have Hx := Lib.hid ho; clear ho Ho hq
          go_wp2
          go_ret
          exact RetB.mk' Hx.out hb3
      · have ho := Ho.out
        rw [List.drop_eq_nil_of_le (by omega), List.drop_eq_nil_of_le (by have := Hlen.out; omega)] at ho
        have Hx : Hid (true = sameCols l l') := ho
        clear ho Ho
        go_wp2
        go_ret
        exact RetB.mk' Hx.out hb
  · have d1 : (((l.length : Int)) == (l'.length : Int)) = false := by simp; omega
    have d2 : (((l.length : Int)) != (l'.length : Int)) = true := by simp; omega
    have hx := sameCols_len hlen
    have Hx := Lib.hid hx; clear hx hlen
    go_enter Try.func64, Try.ntmps64
    go_wp2
    go_ret
    exact RetB.mk' Hx.out.symm (Below.refl _ _)
end Go.Proofs.Ytcblmcpmdpnlbaa
