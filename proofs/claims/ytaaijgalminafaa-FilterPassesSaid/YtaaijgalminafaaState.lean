import Derived.Test.YtaaijgalminafaaTail
/-
  A region that draws its order and whose operations make and write memory: one walk in the order of the text serves every order. C tells what holds of the world when just these operations have answered just this; two operations that act and may change places are soft (an alloc): what they answered can be forgotten.
-/
namespace Go.Proofs.Ytaaijgalminafaa.State
open Go Mono
section
variable (P : Program) (ops : Array Oper) (md : Region.Mode) (C : (Nat → Option Value) → World → Prop) (eff soft : Nat → Bool)

def upd (F : Nat → Option Value) (i : Nat) (v : Value) : Nat → Option Value := fun k => if k = i then some v else F k
def Agree (F F' : Nat → Option Value) (o : Oper) : Prop := ∀ e ∈ o.after, Region.binds md e = true → F' e.on = F e.on
def Ne (F : Nat → Option Value) : Prop := ∃ w, C F w
/-- What stands behind operation i has not answered yet. -/
def After (i : Nat) (F : Nat → Option Value) : Prop := ∀ k o, ops[k]? = some o → (∃ e ∈ o.after, Region.binds md e = true ∧ e.on = i) → F k = none
/-- The operation answers something that C then knows of. -/
def actsUpon (F : Nat → Option Value) (i : Nat) : Result Next → Prop
  | .ok (.value u) w' => C (upd F i u) w'
  | .ok .skip w' => C (upd F i undef) w'
  | .ok (.enter f args) w' => Calls P f args w' (fun e w'' => ∃ u, e = .returned u ∧ C (upd F i u) w'')
  | _ => False
def acts (F : Nat → Option Value) (i : Nat) (o : Oper) (a : Act) (w : World) : Prop := actsUpon P C F i ((execOp a.eval o).run P w)
def mOp (i : Nat) (K : (Nat → Option Value) → Act → Prop) (F : Nat → Option Value) (a : Act) : Prop :=
  match ops[i]? with
  | none => K F a
  | some o =>
    if Region.wanted o (yielded ops a.tmps) then
      if eff i then (∀ F' w, C F' w → F' i = none → After ops md i F' → Agree md F F' o → acts P C F' i o a w) ∧ ∀ v, Ne C (upd F i v) → K (upd F i v) (a.put o.dst v)
      else ∃ v, (∀ F' w, C F' w → After ops md i F' → Agree md F F' o → pureAt P o a w v) ∧ K F (a.put o.dst v)
    else K F (a.put o.dst undef)
def wpAnyM (Q : Act → World → Prop) : Nat → Array Bool → (Nat → Option Value) → Act → Prop
  | 0, listed, F, a => Region.ready md ops listed = [] ∧ ∀ w, C F w → Q a w
  | fuel + 1, listed, F, a =>
    (Region.ready md ops listed = [] → ∀ w, C F w → Q a w) ∧
    ∀ i ∈ Region.ready md ops listed, mOp P ops md C eff i (wpAnyM Q fuel (listed.setIfInBounds i true)) F a
/-- The walk in the order of the text. -/
def wpM (Q : Act → World → Prop) : List Oper → Nat → (Nat → Option Value) → Act → Prop
  | [], _, F, a => ∀ w, C F w → Q a w
  | o :: rest, k, F, a =>
    if Region.wanted o (yielded ops a.tmps) then
      if eff k then (∀ F' w, C F' w → F' k = none → After ops md k F' → Agree md F F' o → acts P C F' k o a w) ∧ ∀ v, Ne C (upd F k v) → wpM Q rest (k + 1) (upd F k v) (a.put o.dst v)
      else ∃ v, (∀ F' w, C F' w → After ops md k F' → Agree md F F' o → pureAt P o a w v) ∧ wpM Q rest (k + 1) F (a.put o.dst v)
    else wpM Q rest (k + 1) F (a.put o.dst undef)
/-- Of two operations that act, not both soft, one stands behind the other. -/
def chained (n : Nat) : Bool :=
  (List.range n).all fun i => (List.range n).all fun j => !(eff i && eff j && !(soft i && soft j) && i != j) || ((ops[i]?.map fun o => o.after.any fun e => Region.binds md e && e.on == j).getD false || (ops[j]?.map fun o => o.after.any fun e => Region.binds md e && e.on == i).getD false)
end

section
variable {P : Program} {ops : Array Oper} {md : Region.Mode} {C : (Nat → Option Value) → World → Prop} {eff soft : Nat → Bool}

theorem upd_comm {F : Nat → Option Value} {i j : Nat} (h : i ≠ j) (p q : Value) : upd (upd F i p) j q = upd (upd F j q) i p := by
  funext k
  unfold upd
  by_cases h1 : k = i <;> by_cases h2 : k = j <;> simp [h1, h2]
  · exact absurd (h1.symm.trans h2) h
  · intro e; exact absurd e h
  · intro e; exact absurd e.symm h
theorem upd_other {F : Nat → Option Value} {i j : Nat} (h : j ≠ i) (p : Value) : upd F i p j = F j := by unfold upd; rw [if_neg h]
theorem agree_upd {F F' : Nat → Option Value} {o : Oper} {i : Nat} {p : Value} (h : ∀ e ∈ o.after, Region.binds md e = true → e.on ≠ i) : Agree md (upd F i p) F' o ↔ Agree md F F' o := by
  unfold Agree
  constructor <;> intro hd e he hb <;> have := hd e he hb
  · rwa [upd_other (h e he hb)] at this
  · rwa [upd_other (h e he hb)]
theorem acts_same {F : Nat → Option Value} {i : Nat} {o : Oper} {a a' : Act} {w : World} (he : execOp a'.eval o = execOp a.eval o) (h : acts P C F i o a w) : acts P C F i o a' w := by
  unfold acts at *; rwa [he]
theorem acts_some {F : Nat → Option Value} {i : Nat} {o : Oper} {a : Act} {w : World} (h : acts P C F i o a w) : ∃ v, Ne C (upd F i v) := by
  unfold acts at h
  generalize (execOp a.eval o).run P w = r at h
  cases r with
  | ok n w' =>
    cases n <;> simp only [actsUpon] at h
    case value u => exact ⟨_, _, h⟩
    case skip => exact ⟨_, _, h⟩
    case enter f args =>
      obtain ⟨e, w'', fr, ⟨u, _, h1⟩, _⟩ := h []
      exact ⟨u, w'', h1⟩
  | halt x w' => exact h.elim
variable (ops md) in
structure Inv (listed : Array Bool) (F : Nat → Option Value) : Prop where
  none_ : ∀ k, listed.getD k false = false → F k = none
  closed : ∀ k o, ops[k]? = some o → listed.getD k false = true → ∀ e ∈ o.after, Region.binds md e = true → listed.getD e.on false = true
theorem Inv.after {listed : Array Bool} {F : Nat → Option Value} (h : Inv ops md listed F) {i : Nat} (hi : listed.getD i false = false) : After ops md i F := by
  rintro k o ho ⟨e, he, hb, rfl⟩
  refine h.none_ k ?_
  cases hk : listed.getD k false with
  | false => rfl
  | true => rw [h.closed k o ho hk e he hb] at hi; cases hi
theorem set_up {listed : Array Bool} {i m : Nat} (h : listed.getD m false = true) : (listed.setIfInBounds i true).getD m false = true := by
  by_cases e : i = m
  · subst e
    rcases Nat.lt_or_ge i listed.size with h' | h'
    · simp [h']
    · simp [Array.getElem?_eq_none h'] at h
  · rwa [getD_set_ne false e]
theorem closed_set {listed : Array Bool} {F : Nat → Option Value} (h : Inv ops md listed F) {i : Nat} (hr : i ∈ Region.ready md ops listed) : ∀ k o, ops[k]? = some o → (listed.setIfInBounds i true).getD k false = true → ∀ e ∈ o.after, Region.binds md e = true → (listed.setIfInBounds i true).getD e.on false = true := by
  intro k o ho hk e he hb
  by_cases hki : i = k
  · subst hki
    obtain ⟨_, oi, hoi, hall⟩ := mem_ready.1 hr
    obtain rfl : oi = o := by rw [ho] at hoi; exact (Option.some.inj hoi).symm
    exact set_up (hall e he hb)
  · rw [getD_set_ne false hki] at hk
    exact set_up (h.closed k o ho hk e he hb)
theorem none_set {listed : Array Bool} {F : Nat → Option Value} (h : Inv ops md listed F) (i : Nat) : ∀ k, (listed.setIfInBounds i true).getD k false = false → F k = none := by
  intro k hk
  refine h.none_ k ?_
  by_cases e : i = k
  · subst e
    rcases Nat.lt_or_ge i listed.size with h' | h'
    · simp [h'] at hk
    · simp [Array.getElem?_eq_none h']
  · rwa [getD_set_ne false e] at hk
theorem Inv.set {listed : Array Bool} {F : Nat → Option Value} (h : Inv ops md listed F) {i : Nat} (hr : i ∈ Region.ready md ops listed) : Inv ops md (listed.setIfInBounds i true) F := ⟨none_set h i, closed_set h hr⟩
theorem Inv.upd {listed : Array Bool} {F : Nat → Option Value} (h : Inv ops md listed F) {i : Nat} (hr : i ∈ Region.ready md ops listed) (hi : i < listed.size) (v : Value) : Inv ops md (listed.setIfInBounds i true) (State.upd F i v) := by
  refine ⟨fun k hk => ?_, closed_set h hr⟩
  have hne : k ≠ i := by
    rintro rfl
    simp [hi] at hk
  rw [upd_other hne]
  exact none_set h i k hk
theorem mOp_mono {i : Nat} {K K' : (Nat → Option Value) → Act → Prop} {F : Nat → Option Value} {a : Act} (hn : Ne C F) (h : ∀ F' a', (F' = F ∨ ∃ v, F' = upd F i v) → Ne C F' → K F' a' → K' F' a') (hh : mOp P ops md C eff i K F a) : mOp P ops md C eff i K' F a := by
  unfold mOp at *
  cases ho : ops[i]? with
  | none => simp only [ho] at hh ⊢; exact h _ _ (.inl rfl) hn hh
  | some o =>
    simp only [ho] at hh ⊢
    by_cases hw : Region.wanted o (yielded ops a.tmps) = true
    · simp only [hw, if_true] at hh ⊢
      by_cases he : eff i = true
      · simp only [he, if_true] at hh ⊢
        exact ⟨hh.1, fun v hv => h _ _ (.inr ⟨v, rfl⟩) hv (hh.2 v hv)⟩
      · simp only [he, Bool.false_eq_true, if_false] at hh ⊢
        obtain ⟨v, h1, h2⟩ := hh
        exact ⟨v, h1, h _ _ (.inl rfl) hn h2⟩
    · simp only [hw, Bool.false_eq_true, if_false] at hh ⊢
      exact h _ _ (.inl rfl) hn hh
theorem chained_spec (hc : chained ops md eff soft ops.size = true) {i j : Nat} {oi oj : Oper} (hi : ops[i]? = some oi) (hj : ops[j]? = some oj) (hij : i ≠ j) (si : eff i = true) (sj : eff j = true)
    (hei : ∀ e ∈ oi.after, Region.binds md e = true → e.on ≠ j) (hej : ∀ e ∈ oj.after, Region.binds md e = true → e.on ≠ i) : soft i = true ∧ soft j = true := by
  have li := (Array.getElem?_eq_some_iff.1 hi).1
  have lj := (Array.getElem?_eq_some_iff.1 hj).1
  unfold chained at hc
  rw [List.all_eq_true] at hc
  have h1 := hc i (List.mem_range.2 li)
  rw [List.all_eq_true] at h1
  have h2 := h1 j (List.mem_range.2 lj)
  by_cases hs : (soft i && soft j) = true
  · simpa using hs
  · rw [Bool.not_eq_true] at hs
    simp only [si, sj, hs, hi, hj, Option.map_some, Option.getD_some, Bool.and_true, Bool.true_and, Bool.not_false, Bool.or_eq_true, Bool.not_eq_true', bne_eq_false_iff_eq, Array.any_eq_true, Bool.and_eq_true, beq_iff_eq] at h2
    rcases h2 with h2 | h2 | h2
    · exact absurd h2 hij
    · obtain ⟨x, hx, hb, ho⟩ := h2
      exact absurd ho (hei _ (Array.getElem_mem hx) hb)
    · obtain ⟨x, hx, hb, ho⟩ := h2
      exact absurd ho (hej _ (Array.getElem_mem hx) hb)

/-- What a soft operation answered can be forgotten. -/
def Down (ops : Array Oper) (md : Region.Mode) (C : (Nat → Option Value) → World → Prop) (soft : Nat → Bool) : Prop := ∀ F j v, soft j = true → F j = none → After ops md j F → Ne C (upd F j v) → Ne C F

theorem swap (hdn : Down ops md C soft) (hc : chained ops md eff soft ops.size = true) {i j : Nat} (hij : i ≠ j) {oi oj : Oper} (hi : ops[i]? = some oi) (hj : ops[j]? = some oj) (hap : oi.apart ops oj = true)
    (hsi : ∀ cs b, oi.op ≠ .select cs b) (hsj : ∀ cs b, oj.op ≠ .select cs b)
    (hei : ∀ e ∈ oi.after, Region.binds md e = true → e.on ≠ j) (hej : ∀ e ∈ oj.after, Region.binds md e = true → e.on ≠ i)
    {F : Nat → Option Value} (hin : F i = none) (hjn : F j = none) (hai : After ops md i F) (haj : After ops md j F) (hn : Ne C F) {K : (Nat → Option Value) → Act → Prop} {a : Act}
    (h : mOp P ops md C eff i (mOp P ops md C eff j K) F a) : mOp P ops md C eff j (mOp P ops md C eff i K) F a := by
  obtain ⟨h1, h2, h3⟩ := Oper.apart_spec hap
  have wi : ∀ (a : Act) u, Region.wanted oi (yielded ops (a.put oj.dst u).tmps) = Region.wanted oi (yielded ops a.tmps) := fun a u => wanted_put oi a oj.dst u h3
  have wj : ∀ (a : Act) u, Region.wanted oj (yielded ops (a.put oi.dst u).tmps) = Region.wanted oj (yielded ops a.tmps) := fun a u => wanted_put oj a oi.dst u h1
  have ei : ∀ (a : Act) u, execOp (a.put oj.dst u).eval oi = execOp a.eval oi := fun a u => execOp_put oi hsi a oj.dst u h3
  have ej : ∀ (a : Act) u, execOp (a.put oi.dst u).eval oj = execOp a.eval oj := fun a u => execOp_put oj hsj a oi.dst u h1
  have pc : ∀ (a : Act) u v, (a.put oj.dst u).put oi.dst v = (a.put oi.dst v).put oj.dst u := fun a u v => (Act.put_comm a v u h2).symm
  unfold mOp at h ⊢
  simp only [hi, hj, wi, wj, pc] at h ⊢
  have some0 : (∀ F' w, C F' w → F' i = none → After ops md i F' → Agree md F F' oi → acts P C F' i oi a w) → ∃ v, Ne C (upd F i v) := fun s => by
    obtain ⟨w, hw⟩ := hn
    exact acts_some (s F w hw hin hai (fun _ _ _ => rfl))
  by_cases hwi : Region.wanted oi (yielded ops a.tmps) = true <;> by_cases hwj : Region.wanted oj (yielded ops a.tmps) = true <;> simp only [hwi, hwj, if_true, Bool.false_eq_true, if_false] at h ⊢
  · by_cases hi' : eff i = true <;> by_cases hj' : eff j = true <;> simp only [hi', hj', if_true, Bool.false_eq_true, if_false] at h ⊢
    · obtain ⟨s1, s2⟩ := h
      obtain ⟨_, sfj⟩ := chained_spec hc hi hj hij hi' hj' hei hej
      obtain ⟨v0, hv0⟩ := some0 s1
      have t1 := (s2 v0 hv0).1
      refine ⟨fun F' w hC h0 hF hA => acts_same (ej a v0).symm (t1 F' w hC h0 hF ((agree_upd hej).2 hA)), fun u hu => ⟨fun F' w hC h0 hF hA => acts_same (ei a u) (s1 F' w hC h0 hF ((agree_upd hei).1 hA)), fun v hv => ?_⟩⟩
      rw [upd_comm (fun e => hij e.symm)] at hv ⊢
      exact (s2 v (hdn _ j u sfj (by rw [upd_other (fun e => hij e.symm)]; exact hjn) (fun k o ho hx => by rw [upd_other (fun e => by subst e; rw [hi] at ho; injection ho with ho; subst ho; obtain ⟨e, he, hb, ho⟩ := hx; exact hei e he hb ho)]; exact haj k o ho hx) hv)).2 u hv
    · obtain ⟨s1, s2⟩ := h
      obtain ⟨v0, hv0⟩ := some0 s1
      obtain ⟨u, t1, _⟩ := s2 v0 hv0
      refine ⟨u, fun F' w hC hf hA => pure_same (ej a v0).symm (t1 F' w hC hf ((agree_upd hej).2 hA)), fun F' w hC h0 hF hA => acts_same (ei a u) (s1 F' w hC h0 hF hA), fun v hv => ?_⟩
      obtain ⟨u', t1', t2'⟩ := s2 v hv
      obtain ⟨w, hw⟩ := hn
      have : u' = u := pureAt_det (pure_same (ej a v).symm (t1' F w hw haj ((agree_upd hej).2 (fun _ _ _ => rfl)))) (pure_same (ej a v0).symm (t1 F w hw haj ((agree_upd hej).2 (fun _ _ _ => rfl))))
      rwa [this] at t2'
    · obtain ⟨v, s1, s2, s3⟩ := h
      exact ⟨fun F' w hC h0 hF hA => acts_same (ej a v).symm (s2 F' w hC h0 hF hA), fun u hu => ⟨v, fun F' w hC hf hA => pure_same (ei a u) (s1 F' w hC hf ((agree_upd hei).1 hA)), s3 u hu⟩⟩
    · obtain ⟨v, s1, u, s2, s3⟩ := h
      exact ⟨u, fun F' w hC hf hA => pure_same (ej a v).symm (s2 F' w hC hf hA), v, fun F' w hC hf hA => pure_same (ei a u) (s1 F' w hC hf hA), s3⟩
  · by_cases hi' : eff i = true <;> simp only [hi', if_true, Bool.false_eq_true, if_false] at h ⊢
    · exact ⟨fun F' w hC h0 hF hA => acts_same (ei a undef) (h.1 F' w hC h0 hF hA), h.2⟩
    · obtain ⟨v, s1, s2⟩ := h
      exact ⟨v, fun F' w hC hf hA => pure_same (ei a undef) (s1 F' w hC hf hA), s2⟩
  · by_cases hj' : eff j = true <;> simp only [hj', if_true, Bool.false_eq_true, if_false] at h ⊢
    · exact ⟨fun F' w hC h0 hF hA => acts_same (ej a undef).symm (h.1 F' w hC h0 hF hA), h.2⟩
    · obtain ⟨v, s1, s2⟩ := h
      exact ⟨v, fun F' w hC hf hA => pure_same (ej a undef).symm (s1 F' w hC hf hA), s2⟩
  · exact h
theorem mOp_ne {listed : Array Bool} {F : Nat → Option Value} (hI : Inv ops md listed F) (hn : Ne C F) {i : Nat} (hr : i ∈ Region.ready md ops listed) (hil : i < listed.size) (hin : F i = none) (hai : After ops md i F) {K : (Nat → Option Value) → Act → Prop} {a : Act} (h : mOp P ops md C eff i K F a) :
    ∃ F' a', Inv ops md (listed.setIfInBounds i true) F' ∧ Ne C F' ∧ K F' a' := by
  unfold mOp at h
  cases ho : ops[i]? with
  | none => simp only [ho] at h; exact ⟨_, _, hI.set hr, hn, h⟩
  | some o =>
    simp only [ho] at h
    by_cases hw : Region.wanted o (yielded ops a.tmps) = true
    · simp only [hw, if_true] at h
      by_cases he : eff i = true
      · simp only [he, if_true] at h
        obtain ⟨w, hw⟩ := hn
        obtain ⟨v, hv⟩ := acts_some (h.1 F w hw hin hai (fun _ _ _ => rfl))
        exact ⟨_, _, hI.upd hr hil v, hv, h.2 v hv⟩
      · simp only [he, Bool.false_eq_true, if_false] at h
        obtain ⟨v, _, h2⟩ := h
        exact ⟨_, _, hI.set hr, hn, h2⟩
    · simp only [hw, Bool.false_eq_true, if_false] at h
      exact ⟨_, _, hI.set hr, hn, h⟩

theorem wpAnyM_first (hdn : Down ops md C soft) (hc : chained ops md eff soft ops.size = true) {Q : Act → World → Prop} {i : Nat} {oi : Oper} (hi : ops[i]? = some oi) (hsel : ∀ (j : Nat) (o : Oper) cs b, ops[j]? = some o → o.op ≠ .select cs b) :
    ∀ (fuel : Nat) (listed : Array Bool) (F : Nat → Option Value) (a : Act), Inv ops md listed F → Ne C F →
      (∀ j oj, ops[j]? = some oj → j ≠ i → listed.getD j true = false → (∀ e ∈ oj.after, Region.binds md e = true → e.on ≠ i) → oi.apart ops oj = true) →
      i ∈ Region.ready md ops listed →
      mOp P ops md C eff i (wpAnyM P ops md C eff Q fuel (listed.setIfInBounds i true)) F a → wpAnyM P ops md C eff Q (fuel + 1) listed F a := by
  intro fuel
  induction fuel with
  | zero =>
    intro listed F a hI hn _ hr H
    refine ⟨fun h => (by rw [h] at hr; cases hr), fun j hj => ?_⟩
    by_cases hji : j = i
    · subst hji; exact H
    · have hil : i < listed.size ∧ listed.getD i false = false := by
        have := (mem_ready.1 hr).1
        rcases Nat.lt_or_ge i listed.size with h' | h'
        · simp [h'] at this ⊢; exact this
        · simp [Array.getElem?_eq_none h'] at this
      obtain ⟨F', a', _, _, h1⟩ := mOp_ne hI hn hr hil.1 (hI.none_ i hil.2) (hI.after hil.2) H
      have := ready_mono hj hji
      rw [h1.1] at this
      cases this
  | succ fuel ih =>
    intro listed F a hI hn hfree hr H
    refine ⟨fun h => (by rw [h] at hr; cases hr), fun j hj => ?_⟩
    by_cases hji : j = i
    · subst hji; exact H
    · have inl : ∀ {k : Nat}, k ∈ Region.ready md ops listed → k < listed.size ∧ listed.getD k true = false ∧ listed.getD k false = false := by
        intro k hk
        have := (mem_ready.1 hk).1
        rcases Nat.lt_or_ge k listed.size with h' | h'
        · simp [h'] at this ⊢; exact this
        · simp [Array.getElem?_eq_none h'] at this
      obtain ⟨hjun, oj, hoj, hall⟩ := mem_ready.1 hj
      obtain ⟨hiun, oi', hoi', halli⟩ := mem_ready.1 hr
      obtain rfl : oi' = oi := by rw [hi] at hoi'; exact (Option.some.inj hoi').symm
      have no_edge : ∀ {m : Nat} {o : Oper}, (∀ e ∈ o.after, Region.binds md e = true → listed.getD e.on false = true) → m ∈ Region.ready md ops listed → ∀ e ∈ o.after, Region.binds md e = true → e.on ≠ m := by
        intro m o hall hm e he hb heq
        have h1 := hall e he hb
        rw [heq, (inl hm).2.2] at h1
        cases h1
      have hnot := no_edge hall hr
      have hnoti := no_edge halli hj
      have H2 : mOp P ops md C eff i (mOp P ops md C eff j (wpAnyM P ops md C eff Q fuel ((listed.setIfInBounds i true).setIfInBounds j true))) F a :=
        mOp_mono hn (fun F' a' _ _ h => h.2 j (ready_mono hj hji)) H
      have H3 := swap hdn hc (fun e => hji e.symm) hi hoj (hfree j oj hoj hji hjun hnot) (fun cs b => hsel i _ cs b hi) (fun cs b => hsel j oj cs b hoj) hnoti hnot (hI.none_ i (inl hr).2.2) (hI.none_ j (inl hj).2.2) (hI.after (inl hr).2.2) (hI.after (inl hj).2.2) hn H2
      refine mOp_mono hn (fun F' a' hF' hn' h3 => ih (listed.setIfInBounds j true) F' a' ?_ hn' ?_ (ready_mono hr (fun e => hji e.symm)) ?_) H3
      · rcases hF' with rfl | ⟨v, rfl⟩
        · exact hI.set hj
        · exact hI.upd hj (inl hj).1 v
      · intro k ok hk hki hun hno
        refine hfree k ok hk hki ?_ hno
        by_cases hjk : j = k
        · subst hjk; exact hjun
        · rw [getD_set_ne true hjk] at hun; exact hun
      · rw [Array.setIfInBounds_comm _ _ hji]
        exact h3

theorem wpAnyM_lex (hdn : Down ops md C soft) (hc : chained ops md eff soft ops.size = true) {Q : Act → World → Prop} (hs : Region.noSelect ops = true) : ∀ (l : List Oper) (k : Nat) (listed : Array Bool) (F : Nat → Option Value) (a : Act), (∀ j, l[j]? = ops[k + j]?) → Inv ops md listed F → Ne C F →
    Region.lexFrom md ops l.length k listed = true → wpM P ops md C eff Q l k F a → wpAnyM P ops md C eff Q l.length listed F a
  | [], _, _, _, _, _, _, _, hB, h => ⟨by simpa [Region.lexFrom] using hB, h⟩
  | o :: l, k, listed, F, a, hl, hI, hn, hB, h => by
    have h0 : ops[k]? = some o := by simpa using (hl 0).symm
    simp only [List.length_cons, Region.lexFrom, Bool.and_eq_true] at hB
    obtain ⟨⟨hr, hf⟩, hB'⟩ := hB
    have hr' : k ∈ Region.ready md ops listed := by simpa using hr
    have hkl : k < listed.size := by
      have := (mem_ready.1 hr').1
      rcases Nat.lt_or_ge k listed.size with h' | h'
      · exact h'
      · simp [Array.getElem?_eq_none h'] at this
    have hst : mOp P ops md C eff k (fun F a => wpM P ops md C eff Q l (k + 1) F a) F a := by unfold mOp; simp only [h0]; exact h
    refine wpAnyM_first hdn hc h0 (Region.noSelect_spec hs) l.length listed F a hI hn (Region.free_spec h0 hf) hr' ?_
    refine mOp_mono hn (fun F' a' hF' hn' h3 => wpAnyM_lex hdn hc hs l (k + 1) _ F' a' (fun j => by have := hl (j + 1); simpa [Nat.add_assoc, Nat.add_comm 1 j] using this) ?_ hn' hB' h3) hst
    rcases hF' with rfl | ⟨v, rfl⟩
    · exact hI.set hr'
    · exact hI.upd hr' hkl v

theorem wpAny_of_M {Q : Act → World → Prop} {Q' : Exit → Act → World → Prop} (hQ : ∀ a w, Q a w → Q' .normal a w) : ∀ (fuel : Nat) (listed : Array Bool) (F : Nat → Option Value) (a : Act) (w : World), Inv ops md listed F → C F w →
    wpAnyM P ops md C eff Q fuel listed F a → wpAny P md ops Q' fuel listed a w
  | 0, _, _, _, w, _, hc, h => ⟨h.1, hQ _ _ (h.2 w hc)⟩
  | fuel + 1, listed, F, a, w, hI, hc, h => by
    refine ⟨fun h0 => hQ _ _ (h.1 h0 w hc), fun i hi => ?_⟩
    have hil : i < listed.size ∧ listed.getD i false = false := by
      have := (mem_ready.1 hi).1
      rcases Nat.lt_or_ge i listed.size with h' | h'
      · simp [h'] at this ⊢; exact this
      · simp [Array.getElem?_eq_none h'] at this
    have H := h.2 i hi
    unfold mOp at H
    unfold wpOp
    cases ho : ops[i]? with
    | none => simp only [ho] at H ⊢; exact wpAny_of_M hQ fuel _ F a w (hI.set hi) hc H
    | some o =>
      simp only [ho] at H ⊢
      by_cases hw : Region.wanted o (yielded ops a.tmps) = true
      · simp only [hw, if_true] at H ⊢
        refine .inl ?_
        by_cases he : eff i = true
        · simp only [he, if_true] at H
          have hg := H.1 F w hc (hI.none_ i hil.2) (hI.after hil.2) (fun _ _ _ => rfl)
          unfold acts at hg
          unfold Oper.wp
          generalize (execOp a.eval o).run P w = r at *
          cases r with
          | ok n w' =>
            cases n <;> simp only [actsUpon] at hg <;> simp only [Oper.upon]
            case value v => exact wpAny_of_M hQ fuel _ _ _ w' (hI.upd hi hil.1 v) hg (H.2 v ⟨_, hg⟩)
            case skip => exact wpAny_of_M hQ fuel _ _ _ w' (hI.upd hi hil.1 undef) hg (H.2 undef ⟨_, hg⟩)
            case enter f args => exact hg.mono fun e w'' ⟨u, he, hc'⟩ => by subst he; exact wpAny_of_M hQ fuel _ _ _ w'' (hI.upd hi hil.1 u) hc' (H.2 u ⟨_, hc'⟩)
          | halt x w' => exact hg.elim
        · simp only [he, Bool.false_eq_true, if_false] at H
          obtain ⟨v, h1, h2⟩ := H
          exact wp_of_pure (h1 F w hc (hI.after hil.2) (fun _ _ _ => rfl)) (wpAny_of_M hQ fuel _ F _ w (hI.set hi) hc h2)
      · simp only [hw, Bool.false_eq_true, if_false] at H ⊢
        exact wpAny_of_M hQ fuel _ F _ w (hI.set hi) hc H

theorem rep_false (n k : Nat) : (Array.replicate n false).getD k false = false := by
  rcases Nat.lt_or_ge k n with h | h
  · simp [h]
  · simp [Array.getElem?_eq_none (show (Array.replicate n false).size ≤ k by simpa using h)]
/-- ONE WALK IN THE ORDER OF THE TEXT SERVES EVERY ORDER. -/
theorem wp_region_state {id : Nat} {Q : Exit → Act → World → Prop} {a : Act} {w : World} {l : List Oper} (C : (Nat → Option Value) → World → Prop) (eff soft : Nat → Bool) (hdn : Down l.toArray .any C soft)
    (hm : P.follows .mixedOrders = true) (hB : Region.lexB .any l.toArray = true) (hch : chained l.toArray .any eff soft l.toArray.size = true) (hC : C (fun _ => none) w.drew)
    (h : wpM P l.toArray .any C eff (fun a w => Q .normal a w) l 0 (fun _ => none) a) : (Code.region id l.toArray true).wp P Q a w := by
  simp only [Region.lexB, Bool.and_eq_true] at hB
  refine wp_region_any hm (wpAny_of_M (C := C) (eff := eff) (Q := fun a w => Q .normal a w) (fun _ _ h => h) _ _ (fun _ => none) a _ ⟨fun _ _ => rfl, fun k o _ hk => by rw [rep_false] at hk; cases hk⟩ hC ?_)
  have := wpAnyM_lex (md := .any) hdn hch hB.1 l 0 (Array.replicate l.toArray.size false) (fun _ => none) a (by simp) ⟨fun _ _ => rfl, fun k o _ hk => by rw [rep_false] at hk; cases hk⟩ ⟨_, hC⟩ (by simpa using hB.2) h
  simpa using this

/-- The first m operations by one walk; the rest in the order of the text. -/
theorem wp_region_state_tail {id : Nat} {Q : Exit → Act → World → Prop} {a : Act} {w : World} {l : List Oper} (m : Nat) (C : (Nat → Option Value) → World → Prop) (eff soft : Nat → Bool) (hdn : Down (l.take m).toArray .any C soft)
    (hm : P.follows .mixedOrders = true) (hml : decide (m ≤ l.length) = true) (hT : Tail.tailB .any l.toArray m = true) (hB : Region.lexB .any (l.take m).toArray = true) (hch : chained (l.take m).toArray .any eff soft (l.take m).toArray.size = true) (hC : C (fun _ => none) w.drew)
    (h : wpM P (l.take m).toArray .any C eff (fun a w => wpList P l.toArray Q (l.drop m) a w) (l.take m) 0 (fun _ => none) a) : (Code.region id l.toArray true).wp P Q a w := by
  simp only [Region.lexB, Bool.and_eq_true] at hB
  have hml' := of_decide_eq_true hml
  have hlen : (l.take m).length = m := by simp; omega
  refine Tail.wp_region_tail m hm hml' hT (wpAny_of_M (C := C) (eff := eff) (Q := fun a w => wpList P l.toArray Q (l.drop m) a w) (fun _ _ h => h) _ _ (fun _ => none) a _ ⟨fun _ _ => rfl, fun k o _ hk => by rw [rep_false] at hk; cases hk⟩ hC ?_)
  have := wpAnyM_lex (md := .any) hdn hch hB.1 (l.take m) 0 (Array.replicate m false) (fun _ => none) a (by simp) ⟨fun _ _ => rfl, fun k o _ hk => by rw [rep_false] at hk; cases hk⟩ ⟨_, hC⟩ (by simpa [hlen] using hB.2) h
  rwa [hlen] at this

theorem acts_val {F : Nat → Option Value} {i : Nat} {o : Oper} {a : Act} {w w' : World} {v : Value} (h : (execOp a.eval o).run P w = .ok (.value v) w') (hC : C (upd F i v) w') : acts P C F i o a w := by
  unfold acts; rw [h]; exact hC
theorem acts_skip {F : Nat → Option Value} {i : Nat} {o : Oper} {a : Act} {w w' : World} (h : (execOp a.eval o).run P w = .ok .skip w') (hC : C (upd F i undef) w') : acts P C F i o a w := by
  unfold acts; rw [h]; exact hC
theorem acts_call {F : Nat → Option Value} {i : Nat} {o : Oper} {a : Act} {w : World} {f : FuncId} {args : Array Value} {post : Ending → World → Prop} (hc : Calls P f args w post) (h : (execOp a.eval o).run P w = .ok (.enter f args) w)
    (hp : ∀ e w', post e w' → ∃ u, e = .returned u ∧ C (upd F i u) w') : acts P C F i o a w := by
  unfold acts; rw [h]; exact hc.mono hp

section
variable {Q : Act → World → Prop} {o : Oper} {rest : List Oper} {k : Nat} {F : Nat → Option Value} {a : Act}
theorem wpM_nil (h : ∀ w, C F w → Q a w) : wpM P ops md C eff Q [] k F a := h
theorem wpM_skip (hw : Region.wanted o (yielded ops a.tmps) = false) (h : wpM P ops md C eff Q rest (k + 1) F (a.put o.dst undef)) : wpM P ops md C eff Q (o :: rest) k F a := by
  unfold wpM; simp only [hw, Bool.false_eq_true, if_false]; exact h
theorem wpM_all (hw : Region.wanted o (yielded ops a.tmps) = true) (he : eff k = false) (h : ∀ K : Act → Prop, (∀ a, wpM P ops md C eff Q rest (k + 1) F a → K a) → ∃ v, (∀ w, pureAt P o a w v) ∧ K (a.put o.dst v)) :
    wpM P ops md C eff Q (o :: rest) k F a := by
  obtain ⟨v, h1, h2⟩ := h _ (fun _ h => h)
  unfold wpM; simp only [hw, he, if_true, Bool.false_eq_true, if_false]
  exact ⟨v, fun _ w _ _ _ => h1 w, h2⟩
theorem wpM_look (v : Value) (hw : Region.wanted o (yielded ops a.tmps) = true) (he : eff k = false) (h1 : ∀ F' w, C F' w → After ops md k F' → Agree md F F' o → pureAt P o a w v) (h2 : wpM P ops md C eff Q rest (k + 1) F (a.put o.dst v)) :
    wpM P ops md C eff Q (o :: rest) k F a := by
  unfold wpM; simp only [hw, he, if_true, Bool.false_eq_true, if_false]
  exact ⟨v, h1, h2⟩
theorem wpM_act (hw : Region.wanted o (yielded ops a.tmps) = true) (he : eff k = true) (h1 : ∀ F' w, C F' w → F' k = none → After ops md k F' → Agree md F F' o → acts P C F' k o a w)
    (h2 : ∀ v, Ne C (upd F k v) → wpM P ops md C eff Q rest (k + 1) (upd F k v) (a.put o.dst v)) : wpM P ops md C eff Q (o :: rest) k F a := by
  unfold wpM; simp only [hw, he, if_true]
  exact ⟨h1, h2⟩
end
end
end Go.Proofs.Ytaaijgalminafaa.State
