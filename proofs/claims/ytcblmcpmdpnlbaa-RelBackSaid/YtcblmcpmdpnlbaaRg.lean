/-
  Layer 8: RelTells: what lies there while it goes.
-/
import Derived.Test.YtcblmcpmdpnlbaaReC
import Derived.Test.YtcblmcpmdpnlbaaRbox
import Derived.Test.YtcblmcpmdpnlbaaRo
namespace Go.Proofs.Ytcblmcpmdpnlbaa
open Go.RowKit State Mem
/-- What lies there while RelTells goes: the two arguments, the answer. -/
structure Tl (a b : Rl) (A : Option Addr) (c : Nat) (A' : Option Addr) (c' : Nat) (x : Bool) (W w : World) : Prop where
  lo : Below W.heap.size W w
  ga : w.heap[W.heap.size]? = some (.cells (a.cells (.slice A a.cs.length c)) 65 (0, 0))
  gb : w.heap[W.heap.size + 1]? = some (.cells (b.cells (.slice A' b.cs.length c')) 65 (0, 0))
  gr : Boxed w (W.heap.size + 1 + 1) 4 (.bool x)
theorem Tl.up {a b : Rl} {A A' : Option Addr} {c c' : Nat} {x : Bool} {W w w' : World} (h : Tl a b A c A' c' x W w) (hb : Below w.heap.size w w') : Tl a b A c A' c' x W w' := by
  have kp : ∀ g o, w.heap[g]? = some o → w'.heap[g]? = some o := fun g o hg => (hb.block g (Array.getElem?_eq_some_iff.1 hg).1).trans hg
  exact ⟨h.lo.trans (hb.mono h.lo.size), kp _ _ h.ga, kp _ _ h.gb, kp _ _ h.gr⟩
theorem Rl.cells_cells (r : Rl) (A : Option Addr) (n c : Nat) : (Value.agg (r.cells (.slice A n c))).cells = r.cells (.slice A n c) := by
  unfold Rl.cells; simp [Value.cells]
/-- The same, and two copies of their own. -/
structure Tm (a b : Rl) (A : Option Addr) (c : Nat) (A' : Option Addr) (c' : Nat) (A1 : Option Addr) (c1 : Nat) (A2 : Option Addr) (c2 g4 g5 : Nat) (W w : World) : Prop where
  t : Tl a b A c A' c' false W w
  gx : w.heap[g4]? = some (.cells (a.cells (.slice A1 a.cs.length c1)) 69 (0, 0))
  gy : w.heap[g5]? = some (.cells (b.cells (.slice A2 b.cs.length c2)) 69 (0, 0))
  rx : RlAt w w.heap.size a A1 c1
  ry : RlAt w w.heap.size b A2 c2
theorem Tm.up {a b : Rl} {A A' A1 A2 : Option Addr} {c c' c1 c2 g4 g5 : Nat} {W w w' : World} (h : Tm a b A c A' c' A1 c1 A2 c2 g4 g5 W w) (hb : Below w.heap.size w w') : Tm a b A c A' c' A1 c1 A2 c2 g4 g5 W w' := by
  have kp : ∀ g o, w.heap[g]? = some o → w'.heap[g]? = some o := fun g o hg => (hb.block g (Array.getElem?_eq_some_iff.1 hg).1).trans hg
  exact ⟨h.t.up hb, kp _ _ h.gx, kp _ _ h.gy, h.rx.up hb (Nat.le_refl _) hb.size, h.ry.up hb (Nat.le_refl _) hb.size⟩
theorem supRl_at {B : Nat} {e : TypeId} {r : Rl} {A : Option Addr} {c : Nat} {S : Nat → Prop} {w : World} (h : (supRl B e r).p (.agg (r.cells (.slice A r.cs.length c))) S w) : RlAt w w.heap.size r A c := by
  obtain ⟨col, e, hw, -⟩ := h
  have e : col = .slice A r.cs.length c := by unfold Rl.cells at e; simpa using e.symm
  subst e
  obtain ⟨A', c', e, h1, h2, h3⟩ := Rd.of_own hw
  injection e with e1 _ e2
  subst e1 e2
  exact ⟨h3, h1, h2⟩
theorem Mem.Mem.store_ans {kind : Nat → Mem.Kind} {W w : World} {F : Nat → Option Value} (h : Mem.Mem kind W F w) {i j n k : Nat} {t : TypeId} (hk : kind i = .store j (.ans k)) (hj : kind j = .box n t) {u : Value} (hu : F i = some u) {g : Nat} (hg : F j = some (.pointer (some ⟨g, 0, none⟩))) {v : Value} (hv : F k = some v) : w.heap[g]? = some (.cells v.cells t (0, 0)) :=
  h.store i j n t _ hk hj u hu g hg _ ⟨v, hv, rfl⟩
def teF (s : ByteArray) (r : Int) (x : Bool) (z : Int) : Nat → Option Fact
  | 1 => some (.val (.string s))
  | 3 => some (.val (.string s))
  | 12 => some (.val (.int .i64 r))
  | 19 => some (.val (.bool x))
  | 22 => some (.val (.bool x))
  | 30 => some (.val (.int .i64 z))
  | _ => none
theorem bool_val {f : Nat → Option Fact} {k : Nat} {x z : Bool} {w : World} (hx : Hid (z = x)) (hf : f k = some (.val (.bool x))) : ∀ e w', RetB z w e w' → ∃ u, e = .returned u ∧ Ext w w' ∧ fxR f k u w' := by
  rintro e w' ⟨rfl, hb⟩
  refine ⟨_, rfl, hb, ?_⟩
  unfold fxR; rw [hf]
  show _ = _
  rw [hx.out]
theorem str_val {f : Nat → Option Fact} {k : Nat} {x z : ByteArray} {w : World} (hx : Hid (z = x)) (hf : f k = some (.val (.string x))) : fxR f k (.string z) w := by
  unfold fxR; rw [hf]
  show _ = _
  rw [hx.out]
theorem Mono.wpM_norm {P : Program} {ops : Array Oper} {md : Region.Mode} {C0 : World → Prop} {E : World → World → Prop} {eff : Nat → Bool} {R : Nat → Value → World → Prop} {Q : Act → World → Prop} {l : List Oper} {k : Nat} {F : Mono.Facts} {a : Act}
    (h : ∀ K : Act → Prop, (∀ a, Mono.wpM P ops md C0 E eff R Q l k F a → K a) → K a) : Mono.wpM P ops md C0 E eff R Q l k F a := h _ (fun _ h => h)
theorem rdS_of {A : Option Addr} {n c size : Nat} {xs : List Value} {w w' : World} (h : Rd w w.heap.size size A n xs) (hb : Below w.heap.size w w') : RdS size xs (.slice A n c) w' := ⟨A, n, c, rfl, h.up hb (Nat.le_refl _) hb.size⟩
end Go.Proofs.Ytcblmcpmdpnlbaa
