import Derived.Test.YtaaijgalminafaaMono
/-
  A region that draws its order and whose last operations stand behind all others: the first ones are walked as a region of their own, the last ones in the order of the text.
-/
namespace Go.Proofs.Ytaaijgalminafaa.Tail
open Go Mono

/-- The operations that stand right ahead of operation k. -/
def preds (md : Region.Mode) (ops : Array Oper) (k : Nat) : List Nat :=
  match ops[k]? with
  | some o => (o.after.toList.filter fun e => Region.binds md e).map (·.on)
  | none => []
/-- .. and those ahead of them. -/
def close (md : Region.Mode) (ops : Array Oper) : Nat → List Nat → List Nat
  | 0, s => s
  | k + 1, s => close md ops k (if s.contains k then s ++ preds md ops k else s)
/-- Each operation from m on stands behind all that are ahead of it in the text; no edge and no guard leads on. -/
def tailB (md : Region.Mode) (ops : Array Oper) (m : Nat) : Bool :=
  ((List.range ops.size).all fun k => (preds md ops k).all (· < k)) &&
  (((List.range ops.size).all fun k => match (ops[k]?).bind (·.guard) with
    | some (g, _) => decide (g < k)
    | none => true) &&
  ((List.range ops.size).all fun j => decide (j < m) || (List.range j).all fun i => (close md ops j (preds md ops j)).contains i))

section
variable {P : Program} {ops : Array Oper} {md : Region.Mode} {Q : Exit → Act → World → Prop}
/-- What stands ahead of a listed operation is listed. -/
def Closed (md : Region.Mode) (ops : Array Oper) (listed : Array Bool) : Prop := ∀ k, listed.getD k false = true → ∀ i ∈ preds md ops k, listed.getD i false = true
theorem mem_preds {k i : Nat} {o : Oper} (ho : ops[k]? = some o) : i ∈ preds md ops k ↔ ∃ e ∈ o.after, Region.binds md e = true ∧ e.on = i := by
  simp only [preds, ho, List.mem_map, List.mem_filter, Array.mem_toList_iff]
  exact ⟨fun ⟨e, ⟨h1, h2⟩, h3⟩ => ⟨e, h1, h2, h3⟩, fun ⟨e, h1, h2, h3⟩ => ⟨e, ⟨h1, h2⟩, h3⟩⟩
theorem close_listed {listed : Array Bool} (hc : Closed md ops listed) : ∀ (n : Nat) (s : List Nat), (∀ i ∈ s, listed.getD i false = true) → ∀ i ∈ close md ops n s, listed.getD i false = true
  | 0, s, h => h
  | k + 1, s, h => by
    refine close_listed hc k _ ?_
    by_cases hk : s.contains k = true
    · rw [if_pos hk]
      intro i hi
      rcases List.mem_append.1 hi with h1 | h1
      · exact h i h1
      · exact hc k (h k (by simpa using hk)) i h1
    · rw [if_neg hk]; exact h
theorem tail_back {m : Nat} (h : tailB md ops m = true) {k : Nat} : ∀ i ∈ preds md ops k, i < k := by
  intro i hi
  simp only [tailB, Bool.and_eq_true, List.all_eq_true] at h
  have hk : k < ops.size := by
    cases ho : ops[k]? with
    | none => simp [preds, ho] at hi
    | some o => exact (Array.getElem?_eq_some_iff.1 ho).1
  simpa using h.1 k (List.mem_range.2 hk) i hi
theorem tail_guard {m : Nat} (h : tailB md ops m = true) {k g : Nat} {b : Bool} {o : Oper} (ho : ops[k]? = some o) (hg : o.guard = some (g, b)) : g < k := by
  simp only [tailB, Bool.and_eq_true, List.all_eq_true] at h
  have := h.2.1 k (List.mem_range.2 (Array.getElem?_eq_some_iff.1 ho).1)
  simp only [ho, Option.bind_some, hg] at this
  simpa using this
theorem tail_all {m : Nat} (h : tailB md ops m = true) {listed : Array Bool} (hc : Closed md ops listed) {j : Nat} (hj : j ∈ Region.ready md ops listed) (hm : m ≤ j) : ∀ i, i < j → listed.getD i false = true := by
  intro i hi
  obtain ⟨_, o, ho, hall⟩ := mem_ready.1 hj
  simp only [tailB, Bool.and_eq_true, List.all_eq_true] at h
  have := h.2.2 j (List.mem_range.2 (Array.getElem?_eq_some_iff.1 ho).1)
  simp only [Bool.or_eq_true, decide_eq_true_eq, List.all_eq_true] at this
  rcases this with h1 | h1
  · omega
  · have hx := h1 i (List.mem_range.2 hi)
    refine close_listed hc j _ (fun k hk => ?_) i (by simpa using hx)
    obtain ⟨e, he, hb, rfl⟩ := (mem_preds ho).1 hk
    exact hall e he hb
theorem closed_set {listed : Array Bool} (hc : Closed md ops listed) {i : Nat} (hr : i ∈ Region.ready md ops listed) : Closed md ops (listed.setIfInBounds i true) := by
  intro k hk j hj
  refine getD_set_true ?_
  by_cases e : i = k
  · subst e
    obtain ⟨_, o, ho, hall⟩ := mem_ready.1 hr
    obtain ⟨e, he, hb, rfl⟩ := (mem_preds ho).1 hj
    exact hall e he hb
  · rw [getD_set_ne false e] at hk
    exact hc k hk j hj
/-- The last operations: only one may come up at a time. -/
theorem wpAny_tail {m : Nat} (h : tailB md ops m = true) : ∀ (l : List Oper) (k fuel : Nat) (listed : Array Bool) (a : Act) (w : World), m ≤ k → (∀ j, l[j]? = ops[k + j]?) → l.length ≤ fuel → listed.size = ops.size → Closed md ops listed →
    (∀ i, i < k → i < ops.size → listed.getD i false = true) → (∀ i, k ≤ i → listed.getD i false = false) → wpList P ops Q l a w → wpAny P md ops Q fuel listed a w
  | [], k, fuel, listed, a, w, hm, hl, hf, hs, hc, h1, h0, hq => by
    have hk : ops.size ≤ k := by
      have := hl 0
      simp at this
      exact this
    have hr : Region.ready md ops listed = [] := by
      rw [List.eq_nil_iff_forall_not_mem]
      intro i hi
      obtain ⟨hu, o, ho, _⟩ := mem_ready.1 hi
      have hi' := (Array.getElem?_eq_some_iff.1 ho).1
      have := h1 i (by omega) hi'
      simp [show i < listed.size by omega] at this hu
      rw [this] at hu; cases hu
    cases fuel with
    | zero => exact ⟨hr, hq⟩
    | succ fuel => exact ⟨fun _ => hq, fun i hi => by rw [hr] at hi; cases hi⟩
  | o :: l, k, 0, listed, a, w, hm, hl, hf, hs, hc, h1, h0, hq => by simp at hf
  | o :: l, k, fuel + 1, listed, a, w, hm, hl, hf, hs, hc, h1, h0, hq => by
    have ho : ops[k]? = some o := by simpa using (hl 0).symm
    have hk := (Array.getElem?_eq_some_iff.1 ho).1
    have hr : k ∈ Region.ready md ops listed := by
      refine mem_ready.2 ⟨by have := h0 k (Nat.le_refl _); simpa [show k < listed.size by omega] using this, o, ho, fun e he hb => ?_⟩
      have hlt : e.on < k := tail_back h _ ((mem_preds ho).2 ⟨e, he, hb, rfl⟩)
      exact h1 _ hlt (by omega)
    refine ⟨(fun hn => by rw [hn] at hr; cases hr), fun i hi => ?_⟩
    have hik : i = k := by
      obtain ⟨hu, oi, hoi, _⟩ := mem_ready.1 hi
      have hi' := (Array.getElem?_eq_some_iff.1 hoi).1
      rcases Nat.lt_trichotomy i k with h2 | h2 | h2
      · have := h1 i h2 hi'
        simp [show i < listed.size by omega] at this hu
        rw [this] at hu; cases hu
      · exact h2
      · have := tail_all h hc hi (by omega) k h2
        rw [h0 k (Nat.le_refl _)] at this; cases this
    subst hik
    have hcs := closed_set hc hi
    have rec_ : ∀ a w, wpList P ops Q l a w → wpAny P md ops Q fuel (listed.setIfInBounds i true) a w := fun a w hq => by
      refine wpAny_tail h l (i + 1) fuel _ a w (by omega) (fun j => by have := hl (j + 1); simpa [Nat.add_assoc, Nat.add_comm 1 j] using this) (by simpa using hf) (by simpa using hs) hcs (fun j hj hjs => ?_) (fun j hj => ?_) hq
      · by_cases e : i = j
        · subst e; simp [show i < listed.size by omega]
        · rw [getD_set_ne false e]; exact h1 j (by omega) hjs
      · rw [getD_set_ne false (by omega)]; exact h0 j (by omega)
    unfold wpList at hq
    unfold wpOp
    simp only [ho]
    by_cases hw : Region.wanted o (yielded ops a.tmps) = true
    · rw [if_pos hw] at hq ⊢
      exact hq.imp (Oper.wp_mono rec_) id
    · rw [if_neg hw] at hq ⊢
      exact rec_ _ _ hq
theorem wp_posts {o : Oper} {a : Act} {w : World} {K : Act → World → Prop} {Q Q' : Exit → Act → World → Prop} (hp : ∀ c a w, Q' (.panic c) a w → Q (.panic c) a w) (ho : ∀ a w, Q' .outgrown a w → Q .outgrown a w)
    (hh : o.wp P a w K Q') : o.wp P a w K Q := by
  have hlet : LetsOut Q' → LetsOut Q := fun ⟨a, w, h⟩ => ⟨a, w, ho a w h⟩
  unfold Oper.wp at *
  generalize (execOp a.eval o).run P w = r at *
  cases r with
  | ok n w' =>
    cases n <;> simp only [Oper.upon] at hh ⊢ <;>
      first
        | exact hh
        | exact Calls.mono hh (fun e w'' he => by cases e <;> first | exact he | exact hp _ _ _ he | exact hlet he)
  | halt x w' => cases x <;> simp only [Oper.upon] at hh ⊢ <;> first | exact hh | exact hp _ _ _ hh
/-- The first operations by themselves; then the last ones in the order of the text. -/
theorem wpAny_head {l : List Oper} {m : Nat} (hm : m ≤ l.length) (h : tailB md l.toArray m = true) : ∀ (fuel : Nat) (listed1 listed : Array Bool) (a : Act) (w : World), listed1.size = m → listed.size = l.length → Closed md l.toArray listed → (∀ i, i < m → listed1.getD i false = listed.getD i false) →
    (∀ i, m ≤ i → listed.getD i false = false) →
    wpAny P md (l.take m).toArray (Exit.then (wpList P l.toArray Q (l.drop m)) Q) fuel listed1 a w → wpAny P md l.toArray Q (fuel + (l.length - m)) listed a w := by
  have get1 : ∀ i, i < m → (l.take m).toArray[i]? = l.toArray[i]? := fun i hi => by simp [hi]
  intro fuel
  induction fuel with
  | zero =>
    intro listed1 listed a w hs1 hs hc heq h0 hh
    have hr1 : Region.ready md (l.take m).toArray listed1 = [] := hh.1
    have hall : ∀ i, i < m → listed.getD i false = true := by
      intro i
      induction i using Nat.strongRecOn with
      | _ i ih =>
        intro hi
        rw [← heq i hi]
        cases hb : listed1.getD i false with
        | true => rfl
        | false =>
          exfalso
          have hil : i < l.length := by omega
          have : i ∈ Region.ready md (l.take m).toArray listed1 := by
            refine mem_ready.2 ⟨by simpa [show i < listed1.size by omega] using hb, l[i], by rw [get1 i hi]; simp [hil], fun e he hb => ?_⟩
            have hlt : e.on < i := tail_back h _ ((mem_preds (k := i) (o := l[i]) (by simp [hil])).2 ⟨e, he, hb, rfl⟩)
            rw [heq _ (by omega)]
            exact ih _ hlt (by omega)
          rw [hr1] at this; cases this
    exact wpAny_tail h (l.drop m) m _ listed a w (Nat.le_refl _) (fun j => by simp [List.getElem?_drop]) (by simp) (by simpa using hs) hc (fun i hi _ => hall i hi) h0 hh.2
  | succ fuel ih =>
    intro listed1 listed a w hs1 hs hc heq h0 hh
    by_cases hr1 : Region.ready md (l.take m).toArray listed1 = []
    · have hall : ∀ i, i < m → listed.getD i false = true := by
        intro i
        induction i using Nat.strongRecOn with
        | _ i ih =>
          intro hi
          rw [← heq i hi]
          cases hb : listed1.getD i false with
          | true => rfl
          | false =>
            exfalso
            have hil : i < l.length := by omega
            have : i ∈ Region.ready md (l.take m).toArray listed1 := by
              refine mem_ready.2 ⟨by simpa [show i < listed1.size by omega] using hb, l[i], by rw [get1 i hi]; simp [hil], fun e he hb => ?_⟩
              have hlt : e.on < i := tail_back h _ ((mem_preds (k := i) (o := l[i]) (by simp [hil])).2 ⟨e, he, hb, rfl⟩)
              rw [heq _ (by omega)]
              exact ih _ hlt (by omega)
            rw [hr1] at this; cases this
      exact wpAny_tail h (l.drop m) m _ listed a w (Nat.le_refl _) (fun j => by simp [List.getElem?_drop]) (by simp) (by simpa using hs) hc (fun i hi _ => hall i hi) h0 (hh.1 hr1)
    · obtain ⟨i0, hi0⟩ := List.exists_mem_of_ne_nil _ hr1
      have up : ∀ i, i ∈ Region.ready md (l.take m).toArray listed1 → i < m ∧ i ∈ Region.ready md l.toArray listed := by
        intro i hi
        obtain ⟨hu, o, ho, hall⟩ := mem_ready.1 hi
        have him : i < m := by have := (Array.getElem?_eq_some_iff.1 ho).1; simp at this; omega
        rw [get1 i him] at ho
        refine ⟨him, mem_ready.2 ⟨?_, o, ho, fun e he hb => ?_⟩⟩
        · have := heq i him
          simp [show i < listed1.size by omega, show i < listed.size by omega] at this hu ⊢
          rw [← this]; exact hu
        · have hlt : e.on < i := tail_back h _ ((mem_preds ho).2 ⟨e, he, hb, rfl⟩)
          rw [← heq _ (by omega)]; exact hall e he hb
      have dn : ∀ i, i < m → i ∈ Region.ready md l.toArray listed → i ∈ Region.ready md (l.take m).toArray listed1 := by
        intro i him hi
        obtain ⟨hu, o, ho, hall⟩ := mem_ready.1 hi
        refine mem_ready.2 ⟨?_, o, by rw [get1 i him]; exact ho, fun e he hb => ?_⟩
        · have := heq i him
          simp [show i < listed1.size by omega, show i < listed.size by omega] at this hu ⊢
          rw [this]; exact hu
        · have hlt : e.on < i := tail_back h _ ((mem_preds ho).2 ⟨e, he, hb, rfl⟩)
          rw [heq _ (by omega)]; exact hall e he hb
      rw [Nat.add_right_comm]
      refine ⟨(fun hn => by have := (up i0 hi0).2; rw [hn] at this; cases this), fun i hi => ?_⟩
      have him : i < m := by
        rcases Nat.lt_or_ge i m with h1 | h1
        · exact h1
        · exfalso
          have h2 := tail_all h hc hi h1 i0 (by have := (up i0 hi0).1; omega)
          obtain ⟨hu, _⟩ := mem_ready.1 (up i0 hi0).2
          have := (up i0 hi0).1
          simp [show i0 < listed.size by omega] at h2 hu
          rw [h2] at hu; cases hu
      have H := hh.2 i (dn i him hi)
      have rec_ : ∀ a w, wpAny P md (l.take m).toArray (Exit.then (wpList P l.toArray Q (l.drop m)) Q) fuel (listed1.setIfInBounds i true) a w → wpAny P md l.toArray Q (fuel + (l.length - m)) (listed.setIfInBounds i true) a w := fun a w hh => by
        refine ih _ _ a w (by simpa using hs1) (by simpa using hs) (closed_set hc hi) (fun j hj => ?_) (fun j hj => ?_) hh
        · by_cases e : i = j
          · subst e; simp [show i < listed1.size by omega, show i < listed.size by omega]
          · rw [getD_set_ne false e, getD_set_ne false e]; exact heq j hj
        · rw [getD_set_ne false (by omega)]; exact h0 j hj
      unfold wpOp at H ⊢
      rw [get1 i him] at H
      cases ho : l.toArray[i]? with
      | none => simp only [ho] at H ⊢; exact rec_ _ _ H
      | some o =>
        simp only [ho] at H ⊢
        have hwant : Region.wanted o (yielded (l.take m).toArray a.tmps) = Region.wanted o (yielded l.toArray a.tmps) := by
          unfold Region.wanted
          cases hg : o.guard with
          | none => rfl
          | some gb =>
            obtain ⟨g, b⟩ := gb
            have hgl := tail_guard h ho hg
            have : yielded (l.take m).toArray a.tmps g = yielded l.toArray a.tmps g := by unfold yielded; rw [get1 g (by omega)]
            simp only [this]
        rw [hwant] at H
        by_cases hw : Region.wanted o (yielded l.toArray a.tmps) = true
        · simp only [hw, if_true] at H ⊢
          rcases H with H | ⟨H1, a', w', H2⟩
          · exact .inl (wp_posts (fun _ _ _ q => q) (fun _ _ q => q) (Oper.wp_mono rec_ H))
          · exact .inr ⟨H1, a', w', H2⟩
        · simp only [hw, Bool.false_eq_true, if_false] at H ⊢
          exact rec_ _ _ H
theorem rep_false (n k : Nat) : (Array.replicate n false).getD k false = false := by
  rcases Nat.lt_or_ge k n with h | h
  · simp [h]
  · simp [Array.getElem?_eq_none (show (Array.replicate n false).size ≤ k by simpa using h)]
theorem wp_region_tail {id : Nat} {a : Act} {w : World} {l : List Oper} (m : Nat) (hm : P.follows .mixedOrders = true) (hml : m ≤ l.length) (h : tailB .any l.toArray m = true)
    (hh : wpAny P .any (l.take m).toArray (Exit.then (wpList P l.toArray Q (l.drop m)) Q) m (Array.replicate m false) a w.drew) : (Code.region id l.toArray true).wp P Q a w := by
  refine wp_region_any hm ?_
  have := wpAny_head hml h m (Array.replicate m false) (Array.replicate l.length false) a w.drew (by simp) (by simp) (fun k hk => by rw [rep_false] at hk; cases hk) (fun i _ => by rw [rep_false, rep_false]) (fun i _ => rep_false _ _) hh
  rw [Nat.add_sub_cancel' hml] at this
  simpa using this
end

section
variable {P : Program} {Q : Exit → Act → World → Prop}
/-- The first m operations by one walk of Mono's; the rest in the order of the text. -/
theorem wp_region_mono_tail {id : Nat} {a : Act} {w : World} {l : List Oper} (m : Nat) (C0 : World → Prop) (E : World → World → Prop) (eff : Nat → Bool) (R : Nat → Value → World → Prop) (hg : Good C0 E R)
    (hm : P.follows .mixedOrders = true) (hml : decide (m ≤ l.length) = true) (hT : tailB .any l.toArray m = true) (hB : Region.lexB .any (l.take m).toArray = true) (hC : C0 w.drew)
    (h : wpM P (l.take m).toArray .any C0 E eff R (fun a w => wpList P l.toArray Q (l.drop m) a w) (l.take m) 0 (fun _ _ => True) a) : (Code.region id l.toArray true).wp P Q a w := by
  simp only [Region.lexB, Bool.and_eq_true] at hB
  have hml' := of_decide_eq_true hml
  have hlen : (l.take m).length = m := by simp; omega
  have hI : Inv E (Array.replicate m false) (fun _ _ => True) := ⟨fun _ _ _ => trivial, fun _ _ _ h _ => h⟩
  refine wp_region_tail m hm hml' hT (wpAny_of_M (eff := eff) hg (Q := fun a w => wpList P l.toArray Q (l.drop m) a w) (fun _ _ h => h) _ _ (fun _ _ => True) a _ hI hC (fun _ => trivial) ?_)
  have := wpAnyM_lex (md := .any) (eff := eff) hg hB.1 (l.take m) 0 (Array.replicate m false) (fun _ _ => True) a (by simp) hI ⟨_, hC, fun _ => trivial⟩ (by simpa [hlen] using hB.2) h
  rwa [hlen] at this
end
end Go.Proofs.Ytaaijgalminafaa.Tail
