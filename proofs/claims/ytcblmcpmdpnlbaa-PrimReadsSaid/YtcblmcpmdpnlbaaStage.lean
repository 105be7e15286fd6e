/-
  A region that draws its order and holds calls that WRITE, one behind the other: one walk in the order of the text serves every order. The calls go from stage to stage; every other operation answers the same at every stage and leaves the world alone.
-/
import Derived.Test.YtcblmcpmdpnlbaaMono
namespace Go.Proofs.Ytcblmcpmdpnlbaa.Stage
open Go Mono
section
variable (P : Program) (ops : Array Oper) (md : Region.Mode) (C : Nat → World → Prop) (stg : Nat → Bool)

/-- The operation answers u, and the world is at the next stage. -/
def goesUpon (s : Nat) (u : Value) : Result Next → Prop
  | .ok (.value v) w' => v = u ∧ C (s + 1) w'
  | .ok (.enter f args) w' => Calls P f args w' (fun e w'' => e = .returned u ∧ C (s + 1) w'')
  | _ => False
def goes (s : Nat) (o : Oper) (a : Act) (w : World) (u : Value) : Prop := goesUpon P C s u ((execOp a.eval o).run P w)
def sOp (i : Nat) (K : Nat → Act → Prop) (s : Nat) (a : Act) : Prop :=
  match ops[i]? with
  | none => K s a
  | some o =>
    if Region.wanted o (yielded ops a.tmps) then
      if stg i then ∃ u, (∀ w, C s w → goes P C s o a w u) ∧ K (s + 1) (a.put o.dst u)
      else ∃ v, (∀ t w, C t w → pureAt P o a w v) ∧ K s (a.put o.dst v)
    else K s (a.put o.dst undef)
def wpAnyS (Q : Act → World → Prop) : Nat → Array Bool → Nat → Act → Prop
  | 0, listed, s, a => Region.ready md ops listed = [] ∧ ∀ w, C s w → Q a w
  | fuel + 1, listed, s, a =>
    (Region.ready md ops listed = [] → ∀ w, C s w → Q a w) ∧
    ∀ i ∈ Region.ready md ops listed, sOp P ops C stg i (wpAnyS Q fuel (listed.setIfInBounds i true)) s a
/-- The walk in the order of the text. -/
def wpS (Q : Act → World → Prop) : List Oper → Nat → Nat → Act → Prop
  | [], _, s, a => ∀ w, C s w → Q a w
  | o :: rest, k, s, a =>
    if Region.wanted o (yielded ops a.tmps) then
      if stg k then ∃ u, (∀ w, C s w → goes P C s o a w u) ∧ wpS Q rest (k + 1) (s + 1) (a.put o.dst u)
      else ∃ v, (∀ t w, C t w → pureAt P o a w v) ∧ wpS Q rest (k + 1) s (a.put o.dst v)
    else wpS Q rest (k + 1) s (a.put o.dst undef)
/-- Of two calls that go to the next stage one stands behind the other. -/
def chained (n : Nat) : Bool :=
  (List.range n).all fun i => (List.range n).all fun j => !(stg i && stg j && i != j) || ((ops[i]?.map fun o => o.after.any fun e => Region.binds md e && e.on == j).getD false || (ops[j]?.map fun o => o.after.any fun e => Region.binds md e && e.on == i).getD false)
end

section
variable {P : Program} {ops : Array Oper} {md : Region.Mode} {C : Nat → World → Prop} {stg : Nat → Bool}

theorem goes_same {s : Nat} {o : Oper} {a a' : Act} {w : World} {u : Value} (he : execOp a'.eval o = execOp a.eval o) (h : goes P C s o a w u) : goes P C s o a' w u := by
  unfold goes at *; rwa [he]
theorem sOp_mono {i : Nat} {K K' : Nat → Act → Prop} {s : Nat} {a : Act} (h : ∀ s' a', K s' a' → K' s' a') (hh : sOp P ops C stg i K s a) : sOp P ops C stg i K' s a := by
  unfold sOp at *
  cases ho : ops[i]? with
  | none => simp only [ho] at hh ⊢; exact h _ _ hh
  | some o =>
    simp only [ho] at hh ⊢
    by_cases hw : Region.wanted o (yielded ops a.tmps) = true
    · simp only [hw, if_true] at hh ⊢
      by_cases he : stg i = true
      · simp only [he, if_true] at hh ⊢
        obtain ⟨u, h1, h2⟩ := hh
        exact ⟨u, h1, h _ _ h2⟩
      · simp only [he, Bool.false_eq_true, if_false] at hh ⊢
        obtain ⟨v, h1, h2⟩ := hh
        exact ⟨v, h1, h _ _ h2⟩
    · simp only [hw, Bool.false_eq_true, if_false] at hh ⊢
      exact h _ _ hh
theorem chained_spec (hc : chained ops md stg ops.size = true) {i j : Nat} {oi oj : Oper} (hi : ops[i]? = some oi) (hj : ops[j]? = some oj) (hij : i ≠ j) (si : stg i = true) (sj : stg j = true)
    (hei : ∀ e ∈ oi.after, Region.binds md e = true → e.on ≠ j) (hej : ∀ e ∈ oj.after, Region.binds md e = true → e.on ≠ i) : False := by
  have li := (Array.getElem?_eq_some_iff.1 hi).1
  have lj := (Array.getElem?_eq_some_iff.1 hj).1
  unfold chained at hc
  rw [List.all_eq_true] at hc
  have h1 := hc i (List.mem_range.2 li)
  rw [List.all_eq_true] at h1
  have h2 := h1 j (List.mem_range.2 lj)
  simp only [si, sj, hi, hj, Option.map_some, Option.getD_some, Bool.and_true, Bool.true_and, Bool.or_eq_true, Bool.not_eq_true', bne_eq_false_iff_eq, Array.any_eq_true, Bool.and_eq_true, beq_iff_eq] at h2
  rcases h2 with h2 | h2 | h2
  · exact hij h2
  · obtain ⟨x, hx, hb, ho⟩ := h2
    exact hei _ (Array.getElem_mem hx) hb ho
  · obtain ⟨x, hx, hb, ho⟩ := h2
    exact hej _ (Array.getElem_mem hx) hb ho

theorem swap (hc : chained ops md stg ops.size = true) {i j : Nat} (hij : i ≠ j) {oi oj : Oper} (hi : ops[i]? = some oi) (hj : ops[j]? = some oj) (hap : oi.apart ops oj = true)
    (hsi : ∀ cs b, oi.op ≠ .select cs b) (hsj : ∀ cs b, oj.op ≠ .select cs b)
    (hei : ∀ e ∈ oi.after, Region.binds md e = true → e.on ≠ j) (hej : ∀ e ∈ oj.after, Region.binds md e = true → e.on ≠ i)
    {s : Nat} {K : Nat → Act → Prop} {a : Act} (h : sOp P ops C stg i (sOp P ops C stg j K) s a) : sOp P ops C stg j (sOp P ops C stg i K) s a := by
  obtain ⟨h1, h2, h3⟩ := Oper.apart_spec hap
  have wi : ∀ (a : Act) u, Region.wanted oi (yielded ops (a.put oj.dst u).tmps) = Region.wanted oi (yielded ops a.tmps) := fun a u => wanted_put oi a oj.dst u h3
  have wj : ∀ (a : Act) u, Region.wanted oj (yielded ops (a.put oi.dst u).tmps) = Region.wanted oj (yielded ops a.tmps) := fun a u => wanted_put oj a oi.dst u h1
  have ei : ∀ (a : Act) u, execOp (a.put oj.dst u).eval oi = execOp a.eval oi := fun a u => execOp_put oi hsi a oj.dst u h3
  have ej : ∀ (a : Act) u, execOp (a.put oi.dst u).eval oj = execOp a.eval oj := fun a u => execOp_put oj hsj a oi.dst u h1
  have pc : ∀ (a : Act) u v, (a.put oj.dst u).put oi.dst v = (a.put oi.dst v).put oj.dst u := fun a u v => (Act.put_comm a v u h2).symm
  unfold sOp at h ⊢
  simp only [hi, hj, wi, wj, pc] at h ⊢
  by_cases hwi : Region.wanted oi (yielded ops a.tmps) = true <;> by_cases hwj : Region.wanted oj (yielded ops a.tmps) = true <;> simp only [hwi, hwj, if_true, Bool.false_eq_true, if_false] at h ⊢
  · by_cases hi' : stg i = true <;> by_cases hj' : stg j = true <;> simp only [hi', hj', if_true, Bool.false_eq_true, if_false] at h ⊢
    · exact (chained_spec hc hi hj hij hi' hj' hei hej).elim
    · obtain ⟨u, s1, v, s2, s3⟩ := h
      exact ⟨v, fun t w hw => pure_same (ej a u).symm (s2 t w hw), u, fun w hw => goes_same (ei a v) (s1 w hw), s3⟩
    · obtain ⟨v, s1, u, s2, s3⟩ := h
      exact ⟨u, fun w hw => goes_same (ej a v).symm (s2 w hw), v, fun t w hw => pure_same (ei a u) (s1 t w hw), s3⟩
    · obtain ⟨v, s1, u, s2, s3⟩ := h
      exact ⟨u, fun t w hw => pure_same (ej a v).symm (s2 t w hw), v, fun t w hw => pure_same (ei a u) (s1 t w hw), s3⟩
  · by_cases hi' : stg i = true <;> simp only [hi', if_true, Bool.false_eq_true, if_false] at h ⊢
    · obtain ⟨u, s1, s2⟩ := h
      exact ⟨u, fun w hw => goes_same (ei a undef) (s1 w hw), s2⟩
    · obtain ⟨v, s1, s2⟩ := h
      exact ⟨v, fun t w hw => pure_same (ei a undef) (s1 t w hw), s2⟩
  · by_cases hj' : stg j = true <;> simp only [hj', if_true, Bool.false_eq_true, if_false] at h ⊢
    · obtain ⟨u, s1, s2⟩ := h
      exact ⟨u, fun w hw => goes_same (ej a undef).symm (s1 w hw), s2⟩
    · obtain ⟨v, s1, s2⟩ := h
      exact ⟨v, fun t w hw => pure_same (ej a undef).symm (s1 t w hw), s2⟩
  · exact h

theorem sOp_ne {i : Nat} {K : Nat → Act → Prop} {s : Nat} {a : Act} (h : sOp P ops C stg i K s a) : ∃ s' a', K s' a' := by
  unfold sOp at h
  cases ho : ops[i]? with
  | none => simp only [ho] at h; exact ⟨_, _, h⟩
  | some o =>
    simp only [ho] at h
    split at h
    · split at h
      · obtain ⟨_, _, h⟩ := h; exact ⟨_, _, h⟩
      · obtain ⟨_, _, h⟩ := h; exact ⟨_, _, h⟩
    · exact ⟨_, _, h⟩

theorem wpAnyS_first (hc : chained ops md stg ops.size = true) {Q : Act → World → Prop} {i : Nat} {oi : Oper} (hi : ops[i]? = some oi) (hsel : ∀ (j : Nat) (o : Oper) cs b, ops[j]? = some o → o.op ≠ .select cs b) :
    ∀ (fuel : Nat) (listed : Array Bool) (s : Nat) (a : Act),
      (∀ j oj, ops[j]? = some oj → j ≠ i → listed.getD j true = false → (∀ e ∈ oj.after, Region.binds md e = true → e.on ≠ i) → oi.apart ops oj = true) →
      i ∈ Region.ready md ops listed →
      sOp P ops C stg i (wpAnyS P ops md C stg Q fuel (listed.setIfInBounds i true)) s a → wpAnyS P ops md C stg Q (fuel + 1) listed s a := by
  intro fuel
  induction fuel with
  | zero =>
    intro listed s a _ hr H
    refine ⟨fun h => (by rw [h] at hr; cases hr), fun j hj => ?_⟩
    by_cases hji : j = i
    · subst hji; exact H
    · obtain ⟨s', a', h1⟩ := sOp_ne H
      have := ready_mono hj hji
      rw [h1.1] at this
      cases this
  | succ fuel ih =>
    intro listed s a hfree hr H
    refine ⟨fun h => (by rw [h] at hr; cases hr), fun j hj => ?_⟩
    by_cases hji : j = i
    · subst hji; exact H
    · have inl : ∀ {k : Nat}, k ∈ Region.ready md ops listed → listed.getD k false = false := by
        intro k hk
        have := (mem_ready.1 hk).1
        rcases Nat.lt_or_ge k listed.size with h' | h'
        · simp [h'] at this ⊢; exact this
        · simp [Array.getElem?_eq_none h'] at this
      obtain ⟨hjun, oj, hoj, hall⟩ := mem_ready.1 hj
      obtain ⟨hiun, oi', hoi', halli⟩ := mem_ready.1 hr
      obtain rfl : oi' = oi := by rw [hi] at hoi'; exact (Option.some.inj hoi').symm
      have no_edge : ∀ {m : Nat} {o : Oper}, (∀ e ∈ o.after, Region.binds md e = true → listed.getD e.on false = true) → m ∈ Region.ready md ops listed → ∀ e ∈ o.after, Region.binds md e = true → e.on ≠ m := by
        intro m o hall hm e he hb heq
        have h1 := hall e he hb
        rw [heq, inl hm] at h1
        cases h1
      have hnot := no_edge hall hr
      have hnoti := no_edge halli hj
      have H2 : sOp P ops C stg i (sOp P ops C stg j (wpAnyS P ops md C stg Q fuel ((listed.setIfInBounds i true).setIfInBounds j true))) s a :=
        sOp_mono (fun s' a' h => h.2 j (ready_mono hj hji)) H
      have H3 := swap hc (Ne.symm hji) hi hoj (hfree j oj hoj hji hjun hnot) (fun cs b => hsel i _ cs b hi) (fun cs b => hsel j oj cs b hoj) hnoti hnot H2
      refine sOp_mono (fun s' a' h3 => ih (listed.setIfInBounds j true) s' a' ?_ (ready_mono hr (Ne.symm hji)) ?_) H3
      · intro k ok hk hki hun hno
        refine hfree k ok hk hki ?_ hno
        by_cases hjk : j = k
        · subst hjk; exact hjun
        · rw [getD_set_ne true hjk] at hun; exact hun
      · rw [Array.setIfInBounds_comm _ _ hji]
        exact h3

theorem wpAnyS_lex (hc : chained ops md stg ops.size = true) {Q : Act → World → Prop} (hs : Region.noSelect ops = true) : ∀ (l : List Oper) (k : Nat) (listed : Array Bool) (s : Nat) (a : Act), (∀ j, l[j]? = ops[k + j]?) →
    Region.lexFrom md ops l.length k listed = true → wpS P ops C stg Q l k s a → wpAnyS P ops md C stg Q l.length listed s a
  | [], _, _, _, _, _, hB, h => ⟨by simpa [Region.lexFrom] using hB, h⟩
  | o :: l, k, listed, s, a, hl, hB, h => by
    have h0 : ops[k]? = some o := by simpa using (hl 0).symm
    simp only [List.length_cons, Region.lexFrom, Bool.and_eq_true] at hB
    obtain ⟨⟨hr, hf⟩, hB'⟩ := hB
    have hr' : k ∈ Region.ready md ops listed := by simpa using hr
    have hst : sOp P ops C stg k (fun s a => wpS P ops C stg Q l (k + 1) s a) s a := by unfold sOp; simp only [h0]; exact h
    refine wpAnyS_first hc h0 (Region.noSelect_spec hs) l.length listed s a (Region.free_spec h0 hf) hr' ?_
    exact sOp_mono (fun s' a' h3 => wpAnyS_lex hc hs l (k + 1) _ s' a' (fun j => by have := hl (j + 1); simpa [Nat.add_assoc, Nat.add_comm 1 j] using this) hB' h3) hst

theorem wpAny_of_S {Q : Act → World → Prop} {Q' : Exit → Act → World → Prop} (hQ : ∀ a w, Q a w → Q' .normal a w) : ∀ (fuel : Nat) (listed : Array Bool) (s : Nat) (a : Act) (w : World), C s w →
    wpAnyS P ops md C stg Q fuel listed s a → wpAny P md ops Q' fuel listed a w
  | 0, _, _, _, w, hc, h => ⟨h.1, hQ _ _ (h.2 w hc)⟩
  | fuel + 1, listed, s, a, w, hc, h => by
    refine ⟨fun h0 => hQ _ _ (h.1 h0 w hc), fun i hi => ?_⟩
    have H := h.2 i hi
    unfold sOp at H
    unfold wpOp
    cases ho : ops[i]? with
    | none => simp only [ho] at H ⊢; exact wpAny_of_S hQ fuel _ s a w hc H
    | some o =>
      simp only [ho] at H ⊢
      by_cases hw : Region.wanted o (yielded ops a.tmps) = true
      · simp only [hw, if_true] at H ⊢
        refine .inl ?_
        by_cases he : stg i = true
        · simp only [he, if_true] at H
          obtain ⟨u, h1, h2⟩ := H
          have hg := h1 w hc
          unfold goes at hg
          unfold Oper.wp
          generalize (execOp a.eval o).run P w = r at *
          cases r with
          | ok n w' =>
            cases n <;> simp only [goesUpon] at hg <;> simp only [Oper.upon]
            case value v => obtain ⟨rfl, hc'⟩ := hg; exact wpAny_of_S hQ fuel _ (s + 1) _ w' hc' h2
            case enter f args => exact hg.mono fun e w'' ⟨he, hc'⟩ => by subst he; exact wpAny_of_S hQ fuel _ (s + 1) _ w'' hc' h2
          | halt x w' => exact hg.elim
        · simp only [he, Bool.false_eq_true, if_false] at H
          obtain ⟨v, h1, h2⟩ := H
          exact wp_of_pure (h1 s w hc) (wpAny_of_S hQ fuel _ s _ w hc h2)
      · simp only [hw, Bool.false_eq_true, if_false] at H ⊢
        exact wpAny_of_S hQ fuel _ s _ w hc H

/-- ONE WALK IN THE ORDER OF THE TEXT SERVES EVERY ORDER. -/
theorem wp_region_stage {id : Nat} {Q : Exit → Act → World → Prop} {a : Act} {w : World} {l : List Oper} (C : Nat → World → Prop) (stg : Nat → Bool)
    (hm : P.follows .mixedOrders = true) (hB : Region.lexB .any l.toArray = true) (hch : chained l.toArray .any stg l.toArray.size = true) (hC : C 0 w.drew)
    (h : wpS P l.toArray C stg (fun a w => Q .normal a w) l 0 0 a) : (Code.region id l.toArray true).wp P Q a w := by
  simp only [Region.lexB, Bool.and_eq_true] at hB
  refine wp_region_any hm (wpAny_of_S (C := C) (stg := stg) (Q := fun a w => Q .normal a w) (fun _ _ h => h) _ _ 0 a _ hC ?_)
  have := wpAnyS_lex (md := .any) hch hB.1 l 0 (Array.replicate l.toArray.size false) 0 a (by simp) (by simpa using hB.2) h
  simpa using this

section
variable {Q : Act → World → Prop} {o : Oper} {rest : List Oper} {k s : Nat} {a : Act}
theorem wpS_nil (h : ∀ w, C s w → Q a w) : wpS P ops C stg Q [] k s a := h
theorem wpS_skip (hw : Region.wanted o (yielded ops a.tmps) = false) (h : wpS P ops C stg Q rest (k + 1) s (a.put o.dst undef)) : wpS P ops C stg Q (o :: rest) k s a := by
  unfold wpS; simp only [hw, Bool.false_eq_true, if_false]; exact h
/-- An operation that neither looks at the world nor turns it. -/
theorem wpS_all (hw : Region.wanted o (yielded ops a.tmps) = true) (he : stg k = false) (h : ∀ K : Act → Prop, (∀ a, wpS P ops C stg Q rest (k + 1) s a → K a) → ∃ v, (∀ w, pureAt P o a w v) ∧ K (a.put o.dst v)) :
    wpS P ops C stg Q (o :: rest) k s a := by
  obtain ⟨v, h1, h2⟩ := h _ (fun _ h => h)
  unfold wpS; simp only [hw, he, if_true, Bool.false_eq_true, if_false]
  exact ⟨v, fun _ w _ => h1 w, h2⟩
/-- An operation that looks at the world. -/
theorem wpS_look (v : Value) (hw : Region.wanted o (yielded ops a.tmps) = true) (he : stg k = false) (h1 : ∀ t w, C t w → pureAt P o a w v) (h2 : wpS P ops C stg Q rest (k + 1) s (a.put o.dst v)) :
    wpS P ops C stg Q (o :: rest) k s a := by
  unfold wpS; simp only [hw, he, if_true, Bool.false_eq_true, if_false]
  exact ⟨v, h1, h2⟩
/-- A call, by its contract. -/
theorem wpS_call (u : Value) (hw : Region.wanted o (yielded ops a.tmps) = true) (he : stg k = true) {f : FuncId} {args : Array Value} (h0 : ∀ w, (execOp a.eval o).run P w = .ok (.enter f args) w)
    (h1 : ∀ w, C s w → Calls P f args w (fun e w'' => e = .returned u ∧ C (s + 1) w'')) (h2 : wpS P ops C stg Q rest (k + 1) (s + 1) (a.put o.dst u)) : wpS P ops C stg Q (o :: rest) k s a := by
  unfold wpS; simp only [hw, he, if_true]
  refine ⟨u, fun w hc => ?_, h2⟩
  unfold goes
  rw [h0 w]
  exact h1 w hc
end
end
end Go.Proofs.Ytcblmcpmdpnlbaa.Stage
