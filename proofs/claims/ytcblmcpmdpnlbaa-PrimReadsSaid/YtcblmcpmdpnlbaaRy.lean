/-
  Layer 1: the two readers stand apart.
-/
import Derived.Test.YtcblmcpmdpnlbaaRx
import Derived.Test.YtcblmcpmdpnlbaaStage
import Derived.Test.YtcblmcpmdpnlbaaAw
namespace Go.Proofs.Ytcblmcpmdpnlbaa
open Go.RowKit

/-- Bytes stay as they are while a block that holds no byte is turned. -/
theorem bytes_off {w w' : World} {B g1 n : Nat} {A : Option Addr} {l : List UInt8} {cs : Array Value} {t : TypeId} (hR : Rd w B 1 A n (byt l)) (hh : w.heap[g1]? = some (.cells cs t (0, 0))) (hcs : ∀ (i : Nat) (x : UInt8), cs[i]? ≠ some (Value.int .u8 (x.toNat : Int))) (hg : w.grownBy w' (some g1)) (hB : B ≤ w.heap.size) : Rd w' B 1 A n (byt l) := by
  refine ⟨hR.1, fun hn => ?_⟩
  obtain ⟨b, off, rfl, hb, hc⟩ := hR.2 hn
  refine ⟨b, off, rfl, hb, fun j u hu => ?_⟩
  have hbne : b ≠ g1 := by
    rintro rfl
    have h0 := hc j u hu
    rw [row_cell hh] at h0
    have hu' : ∃ x : UInt8, u = .int .u8 (x.toNat : Int) := by
      unfold byt at hu
      rw [List.getElem?_map] at hu
      cases hx : l[j]? with
      | none => rw [hx] at hu; cases hu
      | some x => rw [hx] at hu; exact ⟨x, by injection hu with hu; exact hu.symm⟩
    obtain ⟨x, rfl⟩ := hu'
    exact hcs _ _ h0
  rw [← hc j u hu]
  exact World.cell?_of_block (hg.block b (by omega) (fun e => by injection e with e; exact hbne e))
theorem PR.offR {w w' : World} {g g1 : Nat} {r r1 : Rdr} (h : PR w g r) (h1 : RR w g1 r1) (hne : g ≠ g1) (hg : w.grownBy w' (some g1)) : PR w' g r := by
  obtain ⟨A, c, k1, k2, hh, hR⟩ := h
  obtain ⟨A1, c1, l1, a1, _, _, _, _, hh1, _, _⟩ := h1
  have hlt := row_lt hh
  refine ⟨A, c, k1, k2, by rw [hg.block g hlt (fun e => by injection e with e; omega)]; exact hh, bytes_off hR hh1 ?_ hg (by omega)⟩
  intro i x
  rcases i with _ | _ | _ | i <;> simp
theorem RR.offP {w w' : World} {g g1 : Nat} {r r1 : Rdr} (h : RR w g r) (h1 : PR w g1 r1) (hne : g ≠ g1) (hg : w.grownBy w' (some g1)) : RR w' g r := by
  obtain ⟨A, c, l, a, k1, k2, k3, k4, hh, hR, hr⟩ := h
  obtain ⟨A1, c1, _, _, hh1, _⟩ := h1
  have hlt := row_lt hh
  refine ⟨A, c, l, a, k1, k2, k3, k4, by rw [hg.block g hlt (fun e => by injection e with e; omega)]; exact hh, bytes_off hR hh1 ?_ hg (by omega), hr⟩
  intro i x
  rcases i with _ | _ | i <;> simp

/-- Both readers are in the state r, in new blocks of their own; what was there before is as it was. -/
structure Both (W : World) (g h : Nat) (r r' : Rdr) (w : World) : Prop where
  p : PR w g r
  q : RR w h r'
  b : Below W.heap.size W w
  ne : g ≠ h
  g1 : W.heap.size ≤ g
  h1 : W.heap.size ≤ h
theorem Both.prim {W w w' : World} {g h : Nat} {r r' r1 : Rdr} (H : Both W g h r r' w) (hp : PR w' g r1) (hg : w.grownBy w' (some g)) : Both W g h r1 r' w' :=
  ⟨hp, H.q.offP H.p H.ne.symm hg, H.b.grown hg H.b.size (fun k hk => by injection hk with hk; have := H.g1; omega), H.ne, H.g1, H.h1⟩
theorem Both.ref {W w w' : World} {g h : Nat} {r r' r1 : Rdr} (H : Both W g h r r' w) (hp : RR w' h r1) (hg : w.grownBy w' (some h)) : Both W g h r r1 w' :=
  ⟨H.p.offR H.q H.ne hg, hp, H.b.grown hg H.b.size (fun k hk => by injection hk with hk; have := H.h1; omega), H.ne, H.g1, H.h1⟩
theorem Both.drewN {W w : World} {g h : Nat} {r r' : Rdr} (H : Both W g h r r' w) (n : Nat) : Both W g h r r' (w.drewN n) :=
  ⟨H.p, H.q, below_drewN H.b n, H.ne, H.g1, H.h1⟩
theorem Both.drew {W w : World} {g h : Nat} {r r' : Rdr} (H : Both W g h r r' w) : Both W g h r r' w.drew := ⟨H.p, H.q, H.b.drew, H.ne, H.g1, H.h1⟩
end Go.Proofs.Ytcblmcpmdpnlbaa
