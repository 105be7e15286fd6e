/-
  A region that draws its order, in a round of a range over a function (or anywhere within the wide fence): one walk in the order of the text.
-/
import Derived.Test.YtolhjdhbcggidaaFx
import Derived.OrdersIn
import Derived.OwnWalkIn
import Derived.RangeFuncCalls
import Derived.RangeFuncLeaves
namespace Go.Proofs.Ytolhjdhbcggidaa.Rnd
open Go Go.RowKit Mono
section
variable {P : Program} {ops : Array Oper} {md : Region.Mode} {C0 : World → Prop} {E : World → World → Prop} {eff : Nat → Bool} {R : Nat → Value → World → Prop} {l n : Nat}
theorem wpIn_of_steps {Q' : Exit → Act → World → Prop} {o : Oper} {a : Act} {w : World} {k : Nat} {K : Act → World → Prop} (hd : ∀ c, o.op ≠ .defer c) (h : steps P E o a w (R k)) (hK : ∀ v w', E w w' → R k v w' → K (a.put o.dst v) w') :
    o.wpIn (Fence.wide.inRound l) n P a w K Q' := by
  refine ⟨fun _ _ => trivial, ?_⟩
  rw [Oper.semAt_plain _ _ _ hd]
  unfold steps at h
  generalize (execOp a.eval o).run P w = r at *
  cases r with
  | ok x w' =>
    cases x <;> simp only [stepsUpon] at h <;> simp only [Oper.uponIn]
    case value u => exact hK _ _ h.1 h.2
    case skip => exact hK _ _ h.1 h.2
    case enter f args =>
      refine ⟨fun hx => by simp [Fence.wide] at hx, CallsIn.inRound l (callsIn_wide.2 (h.mono fun e w'' ⟨u, he, h1, h2⟩ => ?_))⟩
      subst he; exact hK _ _ h1 h2
  | halt x w' => exact h.elim
theorem wpIn_of_pure {Q' : Exit → Act → World → Prop} {o : Oper} {a : Act} {w : World} {v : Value} {K : Act → World → Prop} (hd : ∀ c, o.op ≠ .defer c) (h : pureAt P o a w v) (hK : K (a.put o.dst v) w) : o.wpIn (Fence.wide.inRound l) n P a w K Q' := by
  refine ⟨fun _ _ => trivial, ?_⟩
  rw [Oper.semAt_plain _ _ _ hd]
  unfold pureAt at h
  generalize (execOp a.eval o).run P w = r at *
  cases r with
  | ok x w' =>
    cases x <;> simp only [pureUpon] at h <;> simp only [Oper.uponIn]
    case value u => obtain ⟨rfl, rfl⟩ := h; exact hK
    case skip => obtain ⟨rfl, rfl⟩ := h; exact hK
  | halt x w' => exact h.elim
def noDefer (ops : Array Oper) : Bool := ops.all fun o => match o.op with
  | .defer _ => false
  | _ => true
theorem noDefer_spec (h : noDefer ops = true) {i : Nat} {o : Oper} (ho : ops[i]? = some o) : ∀ c, o.op ≠ .defer c := by
  intro c heq
  have := Array.all_eq_true_iff_forall_mem.1 h o (Array.mem_of_getElem? ho)
  simp [heq] at this
theorem wpAnyIn_of_M (hnd : noDefer ops = true) (hg : Mono.Good C0 E R) {Q : Act → World → Prop} {Q' : Exit → Act → World → Prop} (hQ : ∀ a w, Q a w → Q' .normal a w) : ∀ (fuel : Nat) (listed : Array Bool) (F : Facts) (a : Act) (w : World), Mono.Inv E listed F → C0 w → (∀ j, F j w) →
    wpAnyM P ops md C0 E eff R Q fuel listed F a → wpAnyIn (Fence.wide.inRound l) n P md ops Q' fuel listed a w
  | 0, _, _, _, w, _, hc, hf, h => ⟨h.1, hQ _ _ (h.2 w hc hf)⟩
  | fuel + 1, listed, F, a, w, hI, hc, hf, h => by
    refine ⟨fun h0 => hQ _ _ (h.1 h0 w hc hf), fun i hi => ?_⟩
    have hil : i < listed.size := by
      have := (mem_ready.1 hi).1
      rcases Nat.lt_or_ge i listed.size with h' | h'
      · exact h'
      · simp [Array.getElem?_eq_none h'] at this
    have H := h.2 i hi
    unfold mOp at H
    unfold wpOpIn
    cases ho : ops[i]? with
    | none => simp only [ho] at H ⊢; exact wpAnyIn_of_M hnd hg hQ fuel _ F a w (hI.set i) hc hf H
    | some o =>
      have hd := noDefer_spec hnd ho
      simp only [ho] at H ⊢
      by_cases hw : Region.wanted o (yielded ops a.tmps) = true
      · simp only [hw, if_true] at H ⊢
        by_cases he : eff i = true
        · simp only [he, if_true] at H
          refine wpIn_of_steps hd (H.1 w hc (fun e _ _ => hf e.on)) fun v w' hE hR => ?_
          have hf' : ∀ j, upd F i (R i v) j w' := fun j => by
            unfold upd
            split
            · exact hR
            · exact hI.up _ _ _ (hf j) hE
          exact wpAnyIn_of_M hnd hg hQ fuel _ _ _ w' (hI.upd hg hil v) (hg.c _ _ hc hE) hf' (H.2 v ⟨w', hg.c _ _ hc hE, hf'⟩)
        · simp only [he, Bool.false_eq_true, if_false] at H
          obtain ⟨v, h1, h2⟩ := H
          exact wpIn_of_pure hd (h1 w hc (fun e _ _ => hf e.on)) (wpAnyIn_of_M hnd hg hQ fuel _ F _ w (hI.set i) hc hf h2)
      · simp only [hw, Bool.false_eq_true, if_false] at H ⊢
        exact ⟨fun _ _ => trivial, wpAnyIn_of_M hnd hg hQ fuel _ F _ w (hI.set i) hc hf H⟩
end
section
variable {P : Program} {id l n : Nat} {Q : Exit → Act → World → Prop} {a : Act} {w : World} {ops : List Oper}
theorem wpIn_region_fx (f : Nat → Option Fact) (hm : P.follows .mixedOrders = true) (hnd : noDefer ops.toArray = true) (hB : Region.lexB .any ops.toArray = true)
    (h : wpM P ops.toArray .any (Below w.heap.size w) Ext (fxE f) (fxR f) (fun a w => Q .normal a w) ops 0 (fun _ _ => True) a) : (Code.region id ops.toArray true).wpIn (Fence.wide.inRound l) n P Q a w := by
  simp only [Region.lexB, Bool.and_eq_true] at hB
  have hg := fx_good f w
  have hI : Mono.Inv Ext (Array.replicate ops.toArray.size false) (fun _ _ => True) := ⟨fun _ _ _ => trivial, fun _ _ _ h _ => h⟩
  refine wpIn_region_any hm (wpAnyIn_of_M (eff := fxE f) hnd hg (Q := fun a w => Q .normal a w) (fun _ _ h => h) _ _ (fun _ _ => True) a _ hI (Below.refl w.heap.size w).drew (fun _ => trivial) ?_)
  have := wpAnyM_lex (md := .any) (eff := fxE f) hg hB.1 ops 0 (Array.replicate ops.toArray.size false) (fun _ _ => True) a (by simp) hI ⟨w.drew, (Below.refl w.heap.size w).drew, fun _ => trivial⟩ (by simpa using hB.2) h
  simpa using this
/-- A function's contract from its body, where the body holds a range over a function. -/
theorem calls_of_wp_marks {f : FuncId} {fn : Func} {c : Code} {args : Array Value} {w : World} {R : Ending → World → Prop} (hf : P.funcs[f]? = some fn) (hb : fn.body = some c)
    (h : c.wp P (bodyPostM Fence.wide 9 P fn R) { tmps := args ++ Array.replicate (fn.ntmps - args.size) undef, defers := [] } w) : Calls P f args w R :=
  callsIn_wide.1 (callsIn_of_wp_marks hf hb trivial ((wpIn_wide (n := 9)).2 h))
end
end Go.Proofs.Ytolhjdhbcggidaa.Rnd
