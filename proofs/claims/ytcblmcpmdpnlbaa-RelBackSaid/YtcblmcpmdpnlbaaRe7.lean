/-
  Layer 8: relations in memory; Same by its contract.
-/
import Derived.Test.YtcblmcpmdpnlbaaRe6
namespace Go.Proofs.Ytcblmcpmdpnlbaa
open Go.RowKit

structure Rl where
  oid : Nat
  ver : Nat
  name : ByteArray
  ident : Nat
  cs : List Col
/-- A relation's value, its columns at A. -/
def Rl.v (r : Rl) (A : Option Addr) (c : Nat) : Value := .agg #[.int .u32 (r.oid : Int), .int .u32 (r.ver : Int), .string r.name, .int .u8 (r.ident : Int), .slice A r.cs.length c]
def Rl.box (r : Rl) (A : Option Addr) (c : Nat) : Obj := .cells #[.int .u32 (r.oid : Int), .int .u32 (r.ver : Int), .string r.name, .int .u8 (r.ident : Int), .slice A r.cs.length c] 69
def Rl.same (a b : Rl) : Bool := (a.oid == b.oid && a.ver == b.ver) && (a.name.toList == b.name.toList && (a.ident == b.ident && sameCols a.cs b.cs))

set_option maxRecDepth 100000 in
set_option maxHeartbeats 800000 in
/-- rel.Rel.Same. -/
theorem same_any (a b : Rl) (A A' : Option Addr) (c c' : Nat) (w : World) (hR : Rd w w.heap.size 3 A a.cs.length (cols a.cs)) (hR' : Rd w w.heap.size 3 A' b.cs.length (cols b.cs)) (hl : a.cs.length ≤ maxLen) :
    Calls Try.prog 46 #[a.v A c, b.v A' c'] w (RetB (a.same b) w) := by
  have q1 : Try.prog.stoodInHeld 60 = false := by kernel_rfl
  have q2 : Try.prog.eqGuardType Try.prog.depth 60 = false := by kernel_rfl
  obtain ⟨o1, v1, n1, i1, l1⟩ := a
  obtain ⟨o2, v2, n2, i2, l2⟩ := b
  simp only at hR hR' hl
  have hB : Below w.heap.size w ((w.alloc (Rl.box ⟨o1, v1, n1, i1, l1⟩ A c)).alloc (Rl.box ⟨o2, v2, n2, i2, l2⟩ A' c')) := ((Below.refl _ _).alloc (Nat.le_refl _) _).alloc (by simp) _
  have hRa := hR.up hB (Nat.le_refl _) hB.size
  have hRb := hR'.up hB (Nat.le_refl _) hB.size
  unfold Rl.box at *
  simp only at *
  by_cases h1 : o1 = o2 ∧ v1 = v2 ∧ n1.toList = n2.toList ∧ i1 = i2
  · obtain ⟨rfl, rfl, h3, rfl⟩ := h1
    have hs : Rl.same ⟨o1, v1, n1, i1, l1⟩ ⟨o1, v1, n2, i1, l2⟩ = sameCols l1 l2 := by unfold Rl.same; simp [h3]
    have Hs := Lib.hid hs; clear hs
    go_enter Try.func46, Try.ntmps46
    unfold Rl.v
    go_wp2_with fail
    refine (equal_any A A' c c' l1 l2 _ hRa hRb hl).mono ?_
    rintro e w3 ⟨rfl, hb3⟩
    go_wp2
    go_ret
    exact RetB.mk' Hs.out.symm (step_below hB hb3)
  · have hs : Rl.same ⟨o1, v1, n1, i1, l1⟩ ⟨o2, v2, n2, i2, l2⟩ = false := by
      rw [← Bool.not_eq_true]
      intro h
      unfold Rl.same at h
      simp at h
      exact h1 ⟨h.1.1, h.1.2, h.2.1, h.2.2.1⟩
    have Hs := Lib.hid hs; have H1 := Lib.hid h1; clear hs h1
    go_enter Try.func46, Try.ntmps46
    unfold Rl.v
    go_wp2_with fail
    all_goals first
      | (go_ret; exact RetB.mk' Hs.out.symm (((Below.refl _ _).alloc (Nat.le_refl _) _).alloc (by simp) _))
      | (exfalso; exact H1.out ⟨by omega, by omega, by first | assumption | simp_all, by omega⟩)
end Go.Proofs.Ytcblmcpmdpnlbaa
