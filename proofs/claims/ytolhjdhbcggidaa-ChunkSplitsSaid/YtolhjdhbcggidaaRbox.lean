/-
  A range over a function whose loop variable is boxed in every round: the round's body is told of the box.
-/
import Derived.Test.YtolhjdhbcggidaaRnd
import Derived.RangeFuncNested
namespace Go.Proofs.Ytolhjdhbcggidaa.Rnd
open Go Go.RowKit
variable {F : Fence} {n : Nat} {P : Program}
theorem wpIn_rangeFunc_box {α : Type} {g : Operand} {ps : Array Tmp} {assign body : Code} {Q : Exit → Act → World → Prop} {a : Act} {w : World}
    (hro : F.round = none) (h1 : 1 ≤ n) {gf : Nat} {lb : Array Value} (hg : a.eval g = .func (.func gf) #[] lb) (hFg : F.fn gf) (eg : ∀ args w, (callFunc gf args).run P w = .ok (.enter gf args) w)
    {encs : α → Array Value} {n₀ : Nat} {S Sp : List α → Prop} {N : Nat} (hseq : SeqStopsK F (n - 1) P gf lb encs (Below n₀) S Sp N w) (hn₀ : n₀ ≤ w.heap.size) (hps : ∀ x, (encs x).size = ps.size)
    (obj : α → Obj) (hobj : ∀ x, (obj x).isCells = true) (up : Nat → α → Array Value → Array Value)
    (I : List α → World → Prop) (Ix : Code → List α → World → Prop) (hI : OwnFrom w.heap.size I) (hIx : ∀ c, OwnFrom w.heap.size (Ix c)) (h0 : I [] w) (hsz : ∀ pre W, I pre W → w.heap.size ≤ W.heap.size)
    (hassign : ∀ (l : Nat) (x : α) (W : World) (K : Act → World → Prop), K { tmps := up W.heap.size x ((ps.zip (encs x)).foldl (fun t (p, v) => t.setIfInBounds p v) a.tmps), defers := [] } (W.alloc (obj x)) →
      assign.wpIn (F.inRound l) (n - 1 - 1) P (Exit.then K (fun _ _ _ => False)) { tmps := (ps.zip (encs x)).foldl (fun t (p, v) => t.setIfInBounds p v) a.tmps, defers := [] } W)
    (hbody : ∀ (l : Nat) (pre : List α) (x : α) (B : Nat) (W : World), w.heap.size ≤ B → W.heap[B]? = some (obj x) → I pre W → pre.length < N →
      body.wpIn (F.inRound l) (n - 1 - 1) P (ownPostG w.heap.size (Below n₀) I Ix (pre ++ [x]) W) { tmps := up B x ((ps.zip (encs x)).foldl (fun t (p, v) => t.setIfInBounds p v) a.tmps), defers := [] } W)
    (hdone : ∀ (D : Nat) (xs : List α) (W : World), w.heap.size ≤ D → S xs → I xs W → W.heap[D]? = some (.deferred (some [])) → Q .normal { a with defers := { target := .collected D, args := #[] } :: a.defers } W)
    (hstop : ∀ (D : Nat) (c : Code) (pre : List α) (W : World), w.heap.size ≤ D → Sp pre → Ix c pre W → W.heap[D]? = some (.deferred (some [])) → c.wpIn F n P Q { a with defers := { target := .collected D, args := #[] } :: a.defers } W) :
    (Code.rangeFunc g ps assign body).wpIn F n P Q a w := by
  refine wpIn_rangeFunc_ownH hro h1 hg hFg eg hseq belowK_t (belowK_b hn₀) (Below.refl _ _) hps I Ix hI hIx h0
    (fun x a' W => ∃ B, w.heap.size ≤ B ∧ W.heap[B]? = some (obj x) ∧ a' = { tmps := up B x ((ps.zip (encs x)).foldl (fun t (p, v) => t.setIfInBounds p v) a.tmps), defers := [] })
    (fun x a' _ X Y row hs hg' hr => ?_) (fun l pre x W K hi hK => ?_) (fun l pre x a' W _ _ hi hax hlen => ?_) hdone hstop
  · obtain ⟨B, h1, h2, h3⟩ := hs
    refine ⟨B, h1, ?_, h3⟩
    rw [hg'.block B (Array.getElem?_eq_some_iff.1 h2).1 (fun e => ?_)]
    · exact h2
    · obtain ⟨_, o, ho, hc⟩ := hr B e.symm
      rw [h2] at ho
      injection ho with ho
      rw [← ho, hobj] at hc
      cases hc
  · have hs := hsz pre W hi
    exact hassign l x W K (hK _ _ ((KeepsOthers.alloc _ _).from _) ((Below.refl _ _).alloc (by omega) _) (hI.alloc _ hi) ⟨W.heap.size, hs, heap_alloc_new W _, rfl⟩)
  · obtain ⟨B, h1, h2, rfl⟩ := hax
    exact hbody l pre x B W h1 h2 hi hlen
end Go.Proofs.Ytolhjdhbcggidaa.Rnd
