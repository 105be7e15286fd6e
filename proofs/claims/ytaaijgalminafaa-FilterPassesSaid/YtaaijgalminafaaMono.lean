import Derived.Still
import Derived.Tactics
import Derived.Tactics2
import Derived.KernelRfl
/-
  A region that draws its order and whose operations extend the world (calls that make memory, new blocks, conversions): one walk in the order of the text serves every order, where each such operation's answer is told by a property that stays true while the world is extended.
-/
namespace Go.Proofs.Ytaaijgalminafaa.Mono
open Go
section
variable (P : Program) (ops : Array Oper) (md : Region.Mode) (C0 : World → Prop) (E : World → World → Prop) (eff : Nat → Bool) (R : Nat → Value → World → Prop)

/-- What is known of the answers: a property of the world for each operation that was carried out. -/
abbrev Facts := Nat → World → Prop
def upd (F : Facts) (i : Nat) (p : World → Prop) : Facts := fun k => if k = i then p else F k
def Deps (F : Facts) (o : Oper) (w : World) : Prop := ∀ e ∈ o.after, Region.binds md e = true → F e.on w
def Ne (F : Facts) : Prop := ∃ w, C0 w ∧ ∀ j, F j w
/-- The operation goes on to a world that extends the one it got, and answers u with p. -/
def stepsUpon (w : World) (p : Value → World → Prop) : Result Next → Prop
  | .ok (.value u) w' => E w w' ∧ p u w'
  | .ok .skip w' => E w w' ∧ p undef w'
  | .ok (.enter f args) w' => Calls P f args w' (fun e w'' => ∃ u, e = .returned u ∧ E w w'' ∧ p u w'')
  | _ => False
def steps (o : Oper) (a : Act) (w : World) (p : Value → World → Prop) : Prop := stepsUpon P E w p ((execOp a.eval o).run P w)
/-- The operation answers v and leaves the world alone. -/
def pureUpon (w : World) (v : Value) : Result Next → Prop
  | .ok (.value u) w' => w' = w ∧ u = v
  | .ok .skip w' => w' = w ∧ v = undef
  | _ => False
def pureAt (o : Oper) (a : Act) (w : World) (v : Value) : Prop := pureUpon w v ((execOp a.eval o).run P w)
/-- Operation i comes up. -/
def mOp (i : Nat) (K : Facts → Act → Prop) (F : Facts) (a : Act) : Prop :=
  match ops[i]? with
  | none => K F a
  | some o =>
    if Region.wanted o (yielded ops a.tmps) then
      if eff i then (∀ w, C0 w → Deps md F o w → steps P E o a w (R i)) ∧ ∀ v, Ne C0 (upd F i (R i v)) → K (upd F i (R i v)) (a.put o.dst v)
      else ∃ v, (∀ w, C0 w → Deps md F o w → pureAt P o a w v) ∧ K F (a.put o.dst v)
    else K F (a.put o.dst undef)
def Fin (Q : Act → World → Prop) (F : Facts) (a : Act) : Prop := ∀ w, C0 w → (∀ j, F j w) → Q a w
def wpAnyM (Q : Act → World → Prop) : Nat → Array Bool → Facts → Act → Prop
  | 0, listed, F, a => Region.ready md ops listed = [] ∧ Fin C0 Q F a
  | fuel + 1, listed, F, a =>
    (Region.ready md ops listed = [] → Fin C0 Q F a) ∧
    ∀ i ∈ Region.ready md ops listed, mOp P ops md C0 E eff R i (wpAnyM Q fuel (listed.setIfInBounds i true)) F a
/-- The walk in the order of the text. -/
def wpM (Q : Act → World → Prop) : List Oper → Nat → Facts → Act → Prop
  | [], _, F, a => Fin C0 Q F a
  | o :: rest, k, F, a =>
    if Region.wanted o (yielded ops a.tmps) then
      if eff k then (∀ w, C0 w → Deps md F o w → steps P E o a w (R k)) ∧ ∀ v, Ne C0 (upd F k (R k v)) → wpM Q rest (k + 1) (upd F k (R k v)) (a.put o.dst v)
      else ∃ v, (∀ w, C0 w → Deps md F o w → pureAt P o a w v) ∧ wpM Q rest (k + 1) F (a.put o.dst v)
    else wpM Q rest (k + 1) F (a.put o.dst undef)
end

section
variable {P : Program} {ops : Array Oper} {md : Region.Mode} {C0 : World → Prop} {E : World → World → Prop} {eff : Nat → Bool} {R : Nat → Value → World → Prop}

theorem upd_comm {F : Facts} {i j : Nat} (h : i ≠ j) (p q : World → Prop) : upd (upd F i p) j q = upd (upd F j q) i p := by
  funext k
  unfold upd
  by_cases h1 : k = i <;> by_cases h2 : k = j <;> simp [h1, h2]
  · exact absurd (h1.symm.trans h2) h
  · intro e; exact absurd e h
  · intro e; exact absurd e.symm h
theorem deps_upd {F : Facts} {o : Oper} {i : Nat} {p : World → Prop} {w : World} (h : ∀ e ∈ o.after, Region.binds md e = true → e.on ≠ i) : Deps md (upd F i p) o w ↔ Deps md F o w := by
  unfold Deps upd
  constructor
  · intro hd e he hb
    have := hd e he hb
    rwa [if_neg (h e he hb)] at this
  · intro hd e he hb
    rw [if_neg (h e he hb)]; exact hd e he hb
theorem pureAt_det {o : Oper} {a : Act} {w : World} {u v : Value} (h : pureAt P o a w u) (h' : pureAt P o a w v) : u = v := by
  unfold pureAt at *
  generalize (execOp a.eval o).run P w = r at *
  cases r with
  | ok n w' =>
    cases n <;> simp only [pureUpon] at h h'
    · exact h.2.symm.trans h'.2
    · exact h.2.trans h'.2.symm
  | halt x w' => exact h.elim
theorem steps_same {o : Oper} {a a' : Act} {w : World} {p : Value → World → Prop} (he : execOp a'.eval o = execOp a.eval o) (h : steps P E o a w p) : steps P E o a' w p := by
  unfold steps at *; rwa [he]
theorem pure_same {o : Oper} {a a' : Act} {w : World} {v : Value} (he : execOp a'.eval o = execOp a.eval o) (h : pureAt P o a w v) : pureAt P o a' w v := by
  unfold pureAt at *; rwa [he]
/-- An operation that steps leaves some answer in some world. -/
theorem steps_some {o : Oper} {a : Act} {w : World} {p : Value → World → Prop} (h : steps P E o a w p) : ∃ v w', E w w' ∧ p v w' := by
  unfold steps at h
  generalize (execOp a.eval o).run P w = r at h
  cases r with
  | ok n w' =>
    cases n <;> simp only [stepsUpon] at h
    case value u => exact ⟨_, _, h⟩
    case skip => exact ⟨_, _, h⟩
    case enter f args =>
      obtain ⟨e, w'', fr, ⟨u, _, h1, h2⟩, _⟩ := h []
      exact ⟨u, w'', h1, h2⟩
  | halt x w' => exact h.elim

structure Good (C0 : World → Prop) (E : World → World → Prop) (R : Nat → Value → World → Prop) : Prop where
  c : ∀ w w', C0 w → E w w' → C0 w'
  r : ∀ i v w w', R i v w → E w w' → R i v w'
structure Inv (E : World → World → Prop) (listed : Array Bool) (F : Facts) : Prop where
  none_ : ∀ k, listed.getD k false = false → ∀ w, F k w
  up : ∀ k w w', F k w → E w w' → F k w'
theorem Inv.set {listed : Array Bool} {F : Facts} (h : Inv E listed F) (i : Nat) : Inv E (listed.setIfInBounds i true) F := by
  refine ⟨fun k hk => h.none_ k ?_, h.up⟩
  by_cases e : i = k
  · subst e
    rcases Nat.lt_or_ge i listed.size with h' | h'
    · simp [h'] at hk
    · simp [Array.getElem?_eq_none h']
  · rwa [getD_set_ne false e] at hk
theorem Inv.upd (hg : Good C0 E R) {listed : Array Bool} {F : Facts} (h : Inv E listed F) {i : Nat} (hi : i < listed.size) (v : Value) : Inv E (listed.setIfInBounds i true) (Mono.upd F i (R i v)) := by
  refine ⟨fun k hk => ?_, fun k w w' hw he => ?_⟩
  · have hne : i ≠ k := by
      rintro rfl
      simp [hi] at hk
    unfold Mono.upd
    rw [if_neg (fun e => hne e.symm)]
    exact (h.set i).none_ k hk
  · unfold Mono.upd at hw ⊢
    split
    · rename_i e; subst e; rw [if_pos rfl] at hw; exact hg.r _ _ _ _ hw he
    · rename_i e; rw [if_neg e] at hw; exact h.up k w w' hw he
theorem ne_upd (hg : Good C0 E R) {listed : Array Bool} {F : Facts} (h : Inv E listed F) (hn : Ne C0 F) {o : Oper} {a : Act} {i : Nat} (hs : ∀ w, C0 w → Deps md F o w → steps P E o a w (R i)) : ∃ v, Ne C0 (upd F i (R i v)) := by
  obtain ⟨w, hc, hf⟩ := hn
  obtain ⟨v, w', he, hr⟩ := steps_some (hs w hc (fun e _ _ => hf e.on))
  refine ⟨v, w', hg.c _ _ hc he, fun j => ?_⟩
  unfold upd
  split
  · exact hr
  · exact h.up _ _ _ (hf j) he
theorem mOp_mono {i : Nat} {K K' : Facts → Act → Prop} {F : Facts} {a : Act} (hn : Ne C0 F) (h : ∀ F' a', (F' = F ∨ ∃ v, F' = upd F i (R i v)) → Ne C0 F' → K F' a' → K' F' a') (hh : mOp P ops md C0 E eff R i K F a) : mOp P ops md C0 E eff R i K' F a := by
  unfold mOp at *
  cases ho : ops[i]? with
  | none => simp only [ho] at hh ⊢; exact h _ _ (.inl rfl) hn hh
  | some o =>
    simp only [ho] at hh ⊢
    by_cases hw : Region.wanted o (yielded ops a.tmps) = true
    · simp only [hw, if_true] at hh ⊢
      by_cases he : eff i = true
      · simp only [he, if_true] at hh ⊢
        exact ⟨hh.1, fun v hv => h _ _ (.inr ⟨v, rfl⟩) hv (hh.2 v hv)⟩
      · simp only [he, Bool.false_eq_true, if_false] at hh ⊢
        obtain ⟨v, h1, h2⟩ := hh
        exact ⟨v, h1, h _ _ (.inl rfl) hn h2⟩
    · simp only [hw, Bool.false_eq_true, if_false] at hh ⊢
      exact h _ _ (.inl rfl) hn hh

/-- Two operations that are apart may be taken the other way round. -/
theorem swap (hg : Good C0 E R) {i j : Nat} (hij : i ≠ j) {oi oj : Oper} (hi : ops[i]? = some oi) (hj : ops[j]? = some oj) (hap : oi.apart ops oj = true)
    (hsi : ∀ cs b, oi.op ≠ .select cs b) (hsj : ∀ cs b, oj.op ≠ .select cs b)
    (hei : ∀ e ∈ oi.after, Region.binds md e = true → e.on ≠ j) (hej : ∀ e ∈ oj.after, Region.binds md e = true → e.on ≠ i)
    {listed : Array Bool} {F : Facts} (hI : Inv E listed F) (hjn : ∀ w, F j w) (hn : Ne C0 F) {K : Facts → Act → Prop} {a : Act}
    (h : mOp P ops md C0 E eff R i (mOp P ops md C0 E eff R j K) F a) : mOp P ops md C0 E eff R j (mOp P ops md C0 E eff R i K) F a := by
  obtain ⟨h1, h2, h3⟩ := Oper.apart_spec hap
  have wi : ∀ (a : Act) u, Region.wanted oi (yielded ops (a.put oj.dst u).tmps) = Region.wanted oi (yielded ops a.tmps) := fun a u => wanted_put oi a oj.dst u h3
  have wj : ∀ (a : Act) u, Region.wanted oj (yielded ops (a.put oi.dst u).tmps) = Region.wanted oj (yielded ops a.tmps) := fun a u => wanted_put oj a oi.dst u h1
  have ei : ∀ (a : Act) u, execOp (a.put oj.dst u).eval oi = execOp a.eval oi := fun a u => execOp_put oi hsi a oj.dst u h3
  have ej : ∀ (a : Act) u, execOp (a.put oi.dst u).eval oj = execOp a.eval oj := fun a u => execOp_put oj hsj a oi.dst u h1
  have pc : ∀ (a : Act) u v, (a.put oj.dst u).put oi.dst v = (a.put oi.dst v).put oj.dst u := fun a u v => (Act.put_comm a v u h2).symm
  unfold mOp at h ⊢
  simp only [hi, hj, wi, wj, pc] at h ⊢
  by_cases hwi : Region.wanted oi (yielded ops a.tmps) = true <;> by_cases hwj : Region.wanted oj (yielded ops a.tmps) = true <;> simp only [hwi, hwj, if_true, Bool.false_eq_true, if_false] at h ⊢
  · by_cases hi' : eff i = true <;> by_cases hj' : eff j = true <;> simp only [hi', hj', if_true, Bool.false_eq_true, if_false] at h ⊢
    · obtain ⟨s1, s2⟩ := h
      obtain ⟨v0, hv0⟩ := ne_upd hg hI hn s1
      have t1 := (s2 v0 hv0).1
      refine ⟨fun w hc hd => steps_same (ej a v0).symm (t1 w hc ((deps_upd hej).2 hd)), fun u hu => ⟨fun w hc hd => steps_same (ei a u) (s1 w hc ((deps_upd hei).1 hd)), fun v hv => ?_⟩⟩
      rw [upd_comm (fun e => hij e.symm)] at hv ⊢
      refine (s2 v ?_).2 u hv
      obtain ⟨w, hc, hf⟩ := hv
      refine ⟨w, hc, fun k => ?_⟩
      by_cases e : k = j
      · subst e; unfold upd; rw [if_neg (fun e => hij e.symm)]; exact hjn w
      · have := hf k
        unfold upd at this ⊢
        rwa [if_neg e] at this
    · obtain ⟨s1, s2⟩ := h
      obtain ⟨v0, hv0⟩ := ne_upd hg hI hn s1
      obtain ⟨u, t1, _⟩ := s2 v0 hv0
      refine ⟨u, fun w hc hd => pure_same (ej a v0).symm (t1 w hc ((deps_upd hej).2 hd)), fun w hc hd => steps_same (ei a u) (s1 w hc hd), fun v hv => ?_⟩
      obtain ⟨u', t1', t2'⟩ := s2 v hv
      obtain ⟨w, hc, hf⟩ := hn
      have hd : Deps md F oj w := fun e _ _ => hf e.on
      have : u' = u := pureAt_det (pure_same (ej a v).symm (t1' w hc ((deps_upd hej).2 hd))) (pure_same (ej a v0).symm (t1 w hc ((deps_upd hej).2 hd)))
      rwa [this] at t2'
    · obtain ⟨v, s1, s2, s3⟩ := h
      refine ⟨fun w hc hd => steps_same (ej a v).symm (s2 w hc hd), fun u hu => ⟨v, fun w hc hd => pure_same (ei a u) (s1 w hc ((deps_upd hei).1 hd)), s3 u hu⟩⟩
    · obtain ⟨v, s1, u, s2, s3⟩ := h
      exact ⟨u, fun w hc hd => pure_same (ej a v).symm (s2 w hc hd), v, fun w hc hd => pure_same (ei a u) (s1 w hc hd), s3⟩
  · by_cases hi' : eff i = true <;> simp only [hi', if_true, Bool.false_eq_true, if_false] at h ⊢
    · exact ⟨fun w hc hd => steps_same (ei a undef) (h.1 w hc hd), h.2⟩
    · obtain ⟨v, s1, s2⟩ := h
      exact ⟨v, fun w hc hd => pure_same (ei a undef) (s1 w hc hd), s2⟩
  · by_cases hj' : eff j = true <;> simp only [hj', if_true, Bool.false_eq_true, if_false] at h ⊢
    · exact ⟨fun w hc hd => steps_same (ej a undef).symm (h.1 w hc hd), h.2⟩
    · obtain ⟨v, s1, s2⟩ := h
      exact ⟨v, fun w hc hd => pure_same (ej a undef).symm (s1 w hc hd), s2⟩
  · exact h

theorem mOp_ne (hg : Good C0 E R) {listed : Array Bool} {F : Facts} (hI : Inv E listed F) (hn : Ne C0 F) {i : Nat} (hil : i < listed.size) {K : Facts → Act → Prop} {a : Act} (h : mOp P ops md C0 E eff R i K F a) :
    ∃ F' a', Inv E (listed.setIfInBounds i true) F' ∧ Ne C0 F' ∧ K F' a' := by
  unfold mOp at h
  cases ho : ops[i]? with
  | none => simp only [ho] at h; exact ⟨_, _, hI.set i, hn, h⟩
  | some o =>
    simp only [ho] at h
    by_cases hw : Region.wanted o (yielded ops a.tmps) = true
    · simp only [hw, if_true] at h
      by_cases he : eff i = true
      · simp only [he, if_true] at h
        obtain ⟨v, hv⟩ := ne_upd hg hI hn h.1
        exact ⟨_, _, hI.upd hg hil v, hv, h.2 v hv⟩
      · simp only [he, Bool.false_eq_true, if_false] at h
        obtain ⟨v, _, h2⟩ := h
        exact ⟨_, _, hI.set i, hn, h2⟩
    · simp only [hw, Bool.false_eq_true, if_false] at h
      exact ⟨_, _, hI.set i, hn, h⟩

/-- An operation that may come up now may be taken first. -/
theorem wpAnyM_first (hg : Good C0 E R) {Q : Act → World → Prop} {i : Nat} {oi : Oper} (hi : ops[i]? = some oi) (hsel : ∀ (j : Nat) (o : Oper) cs b, ops[j]? = some o → o.op ≠ .select cs b) :
    ∀ (fuel : Nat) (listed : Array Bool) (F : Facts) (a : Act), Inv E listed F → Ne C0 F →
      (∀ j oj, ops[j]? = some oj → j ≠ i → listed.getD j true = false → (∀ e ∈ oj.after, Region.binds md e = true → e.on ≠ i) → oi.apart ops oj = true) →
      i ∈ Region.ready md ops listed →
      mOp P ops md C0 E eff R i (wpAnyM P ops md C0 E eff R Q fuel (listed.setIfInBounds i true)) F a → wpAnyM P ops md C0 E eff R Q (fuel + 1) listed F a := by
  intro fuel
  induction fuel with
  | zero =>
    intro listed F a hI hn _ hr H
    refine ⟨fun h => (by rw [h] at hr; cases hr), fun j hj => ?_⟩
    by_cases hji : j = i
    · subst hji; exact H
    · have hil : i < listed.size := by
        have := (mem_ready.1 hr).1
        rcases Nat.lt_or_ge i listed.size with h' | h'
        · exact h'
        · simp [Array.getElem?_eq_none h'] at this
      obtain ⟨F', a', _, _, h1⟩ := mOp_ne hg hI hn hil H
      have := ready_mono hj hji
      rw [h1.1] at this
      cases this
  | succ fuel ih =>
    intro listed F a hI hn hfree hr H
    refine ⟨fun h => (by rw [h] at hr; cases hr), fun j hj => ?_⟩
    by_cases hji : j = i
    · subst hji; exact H
    · have inl : ∀ {k : Nat}, k ∈ Region.ready md ops listed → k < listed.size ∧ listed.getD k true = false ∧ listed.getD k false = false := by
        intro k hk
        have := (mem_ready.1 hk).1
        rcases Nat.lt_or_ge k listed.size with h' | h'
        · simp [h'] at this ⊢; exact this
        · simp [Array.getElem?_eq_none h'] at this
      obtain ⟨hjun, oj, hoj, hall⟩ := mem_ready.1 hj
      obtain ⟨hiun, oi', hoi', halli⟩ := mem_ready.1 hr
      obtain rfl : oi' = oi := by rw [hi] at hoi'; exact (Option.some.inj hoi').symm
      have no_edge : ∀ {k m : Nat} {o : Oper}, (∀ e ∈ o.after, Region.binds md e = true → listed.getD e.on false = true) → m ∈ Region.ready md ops listed → ∀ e ∈ o.after, Region.binds md e = true → e.on ≠ m := by
        intro k m o hall hm e he hb heq
        have h1 := hall e he hb
        rw [heq, (inl hm).2.2] at h1
        cases h1
      have hnot := no_edge (k := j) hall hr
      have hnoti := no_edge (k := i) halli hj
      have H2 : mOp P ops md C0 E eff R i (mOp P ops md C0 E eff R j (wpAnyM P ops md C0 E eff R Q fuel ((listed.setIfInBounds i true).setIfInBounds j true))) F a :=
        mOp_mono hn (fun F' a' _ _ h => h.2 j (ready_mono hj hji)) H
      have H3 := swap hg (Ne.symm hji) hi hoj (hfree j oj hoj hji hjun hnot) (fun cs b => hsel i _ cs b hi) (fun cs b => hsel j oj cs b hoj) hnoti hnot hI (hI.none_ j (inl hj).2.2) hn H2
      refine mOp_mono hn (fun F' a' hF' hn' h3 => ih (listed.setIfInBounds j true) F' a' ?_ hn' ?_ (ready_mono hr (Ne.symm hji)) ?_) H3
      · rcases hF' with rfl | ⟨v, rfl⟩
        · exact hI.set j
        · exact hI.upd hg (inl hj).1 v
      · intro k ok hk hki hun hno
        refine hfree k ok hk hki ?_ hno
        by_cases hjk : j = k
        · subst hjk; exact hjun
        · rw [getD_set_ne true hjk] at hun; exact hun
      · rw [Array.setIfInBounds_comm _ _ hji]
        exact h3

theorem wpAnyM_lex (hg : Good C0 E R) {Q : Act → World → Prop} (hs : Region.noSelect ops = true) : ∀ (l : List Oper) (k : Nat) (listed : Array Bool) (F : Facts) (a : Act), (∀ j, l[j]? = ops[k + j]?) → Inv E listed F → Ne C0 F →
    Region.lexFrom md ops l.length k listed = true → wpM P ops md C0 E eff R Q l k F a → wpAnyM P ops md C0 E eff R Q l.length listed F a
  | [], _, _, _, _, _, _, _, hB, h => ⟨by simpa [Region.lexFrom] using hB, h⟩
  | o :: l, k, listed, F, a, hl, hI, hn, hB, h => by
    have h0 : ops[k]? = some o := by simpa using (hl 0).symm
    simp only [List.length_cons, Region.lexFrom, Bool.and_eq_true] at hB
    obtain ⟨⟨hr, hf⟩, hB'⟩ := hB
    have hr' : k ∈ Region.ready md ops listed := by simpa using hr
    have hkl : k < listed.size := by
      have := (mem_ready.1 hr').1
      rcases Nat.lt_or_ge k listed.size with h' | h'
      · exact h'
      · simp [Array.getElem?_eq_none h'] at this
    have hst : mOp P ops md C0 E eff R k (fun F a => wpM P ops md C0 E eff R Q l (k + 1) F a) F a := by unfold mOp; simp only [h0]; exact h
    refine wpAnyM_first hg h0 (Region.noSelect_spec hs) l.length listed F a hI hn (Region.free_spec h0 hf) hr' ?_
    refine mOp_mono hn (fun F' a' hF' hn' h3 => wpAnyM_lex hg hs l (k + 1) _ F' a' (fun j => by have := hl (j + 1); simpa [Nat.add_assoc, Nat.add_comm 1 j] using this) ?_ hn' hB' h3) hst
    rcases hF' with rfl | ⟨v, rfl⟩
    · exact hI.set k
    · exact hI.upd hg hkl v

theorem wp_of_steps {Q' : Exit → Act → World → Prop} {o : Oper} {a : Act} {w : World} {k : Nat} {K : Act → World → Prop} (h : steps P E o a w (R k)) (hK : ∀ v w', E w w' → R k v w' → K (a.put o.dst v) w') : o.wp P a w K Q' := by
  unfold steps at h
  unfold Oper.wp
  generalize (execOp a.eval o).run P w = r at *
  cases r with
  | ok n w' =>
    cases n <;> simp only [stepsUpon] at h <;> simp only [Oper.upon]
    case value u => exact hK _ _ h.1 h.2
    case skip => exact hK _ _ h.1 h.2
    case enter f args => exact h.mono fun e w'' ⟨u, he, h1, h2⟩ => by subst he; exact hK _ _ h1 h2
  | halt x w' => exact h.elim
theorem wp_of_pure {Q' : Exit → Act → World → Prop} {o : Oper} {a : Act} {w : World} {v : Value} {K : Act → World → Prop} (h : pureAt P o a w v) (hK : K (a.put o.dst v) w) : o.wp P a w K Q' := by
  unfold pureAt at h
  unfold Oper.wp
  generalize (execOp a.eval o).run P w = r at *
  cases r with
  | ok n w' =>
    cases n <;> simp only [pureUpon] at h <;> simp only [Oper.upon]
    case value u => obtain ⟨rfl, rfl⟩ := h; exact hK
    case skip => obtain ⟨rfl, rfl⟩ := h; exact hK
  | halt x w' => exact h.elim

theorem wpAny_of_M (hg : Good C0 E R) {Q : Act → World → Prop} {Q' : Exit → Act → World → Prop} (hQ : ∀ a w, Q a w → Q' .normal a w) : ∀ (fuel : Nat) (listed : Array Bool) (F : Facts) (a : Act) (w : World), Inv E listed F → C0 w → (∀ j, F j w) →
    wpAnyM P ops md C0 E eff R Q fuel listed F a → wpAny P md ops Q' fuel listed a w
  | 0, _, _, _, w, _, hc, hf, h => ⟨h.1, hQ _ _ (h.2 w hc hf)⟩
  | fuel + 1, listed, F, a, w, hI, hc, hf, h => by
    refine ⟨fun h0 => hQ _ _ (h.1 h0 w hc hf), fun i hi => ?_⟩
    have hil : i < listed.size := by
      have := (mem_ready.1 hi).1
      rcases Nat.lt_or_ge i listed.size with h' | h'
      · exact h'
      · simp [Array.getElem?_eq_none h'] at this
    have H := h.2 i hi
    unfold mOp at H
    unfold wpOp
    cases ho : ops[i]? with
    | none => simp only [ho] at H ⊢; exact wpAny_of_M hg hQ fuel _ F a w (hI.set i) hc hf H
    | some o =>
      simp only [ho] at H ⊢
      by_cases hw : Region.wanted o (yielded ops a.tmps) = true
      · simp only [hw, if_true] at H ⊢
        refine .inl ?_
        by_cases he : eff i = true
        · simp only [he, if_true] at H
          refine wp_of_steps (H.1 w hc (fun e _ _ => hf e.on)) fun v w' hE hR => ?_
          have hf' : ∀ j, upd F i (R i v) j w' := fun j => by
            unfold upd
            split
            · exact hR
            · exact hI.up _ _ _ (hf j) hE
          exact wpAny_of_M hg hQ fuel _ _ _ w' (hI.upd hg hil v) (hg.c _ _ hc hE) hf' (H.2 v ⟨w', hg.c _ _ hc hE, hf'⟩)
        · simp only [he, Bool.false_eq_true, if_false] at H
          obtain ⟨v, h1, h2⟩ := H
          exact wp_of_pure (h1 w hc (fun e _ _ => hf e.on)) (wpAny_of_M hg hQ fuel _ F _ w (hI.set i) hc hf h2)
      · simp only [hw, Bool.false_eq_true, if_false] at H ⊢
        exact wpAny_of_M hg hQ fuel _ F _ w (hI.set i) hc hf H

/-- ONE WALK IN THE ORDER OF THE TEXT SERVES EVERY ORDER. -/
theorem wp_region_mono {id : Nat} {Q : Exit → Act → World → Prop} {a : Act} {w : World} {l : List Oper} (C0 : World → Prop) (E : World → World → Prop) (eff : Nat → Bool) (R : Nat → Value → World → Prop) (hg : Good C0 E R)
    (hm : P.follows .mixedOrders = true) (hB : Region.lexB .any l.toArray = true) (hC : C0 w.drew)
    (h : wpM P l.toArray .any C0 E eff R (fun a w => Q .normal a w) l 0 (fun _ _ => True) a) : (Code.region id l.toArray true).wp P Q a w := by
  simp only [Region.lexB, Bool.and_eq_true] at hB
  have hI : Inv E (Array.replicate l.toArray.size false) (fun _ _ => True) := ⟨fun _ _ _ => trivial, fun _ _ _ h _ => h⟩
  refine wp_region_any hm (wpAny_of_M (eff := eff) hg (Q := fun a w => Q .normal a w) (fun _ _ h => h) _ _ (fun _ _ => True) a _ hI hC (fun _ => trivial) ?_)
  have := wpAnyM_lex (md := .any) (eff := eff) hg hB.1 l 0 (Array.replicate l.toArray.size false) (fun _ _ => True) a (by simp) hI ⟨_, hC, fun _ => trivial⟩ (by simpa using hB.2) h
  simpa using this

section
variable {Q : Act → World → Prop} {o : Oper} {rest : List Oper} {k : Nat} {F : Facts} {a : Act}
theorem wpM_nil (h : ∀ w, C0 w → (∀ j, F j w) → Q a w) : wpM P ops md C0 E eff R Q [] k F a := h
theorem wpM_skip (hw : Region.wanted o (yielded ops a.tmps) = false) (h : wpM P ops md C0 E eff R Q rest (k + 1) F (a.put o.dst undef)) : wpM P ops md C0 E eff R Q (o :: rest) k F a := by
  unfold wpM; simp only [hw, Bool.false_eq_true, if_false]; exact h
/-- An operation that neither looks at the world nor turns it. -/
theorem wpM_all (hw : Region.wanted o (yielded ops a.tmps) = true) (he : eff k = false) (h : ∀ K : Act → Prop, (∀ a, wpM P ops md C0 E eff R Q rest (k + 1) F a → K a) → ∃ v, (∀ w, pureAt P o a w v) ∧ K (a.put o.dst v)) :
    wpM P ops md C0 E eff R Q (o :: rest) k F a := by
  obtain ⟨v, h1, h2⟩ := h _ (fun _ h => h)
  unfold wpM; simp only [hw, he, if_true, Bool.false_eq_true, if_false]
  exact ⟨v, fun w _ _ => h1 w, h2⟩
/-- An operation that looks at the world. -/
theorem wpM_look (v : Value) (hw : Region.wanted o (yielded ops a.tmps) = true) (he : eff k = false) (h1 : ∀ w, C0 w → Deps md F o w → pureAt P o a w v) (h2 : wpM P ops md C0 E eff R Q rest (k + 1) F (a.put o.dst v)) :
    wpM P ops md C0 E eff R Q (o :: rest) k F a := by
  unfold wpM; simp only [hw, he, if_true, Bool.false_eq_true, if_false]
  exact ⟨v, h1, h2⟩
/-- An operation that extends the world. -/
theorem wpM_eff (hw : Region.wanted o (yielded ops a.tmps) = true) (he : eff k = true) (h1 : ∀ w, C0 w → Deps md F o w → steps P E o a w (R k))
    (h2 : ∀ v, (∃ w, R k v w) → wpM P ops md C0 E eff R Q rest (k + 1) (upd F k (R k v)) (a.put o.dst v)) : wpM P ops md C0 E eff R Q (o :: rest) k F a := by
  unfold wpM; simp only [hw, he, if_true]
  refine ⟨h1, fun v hv => h2 v ?_⟩
  obtain ⟨w, _, hf⟩ := hv
  refine ⟨w, ?_⟩
  have := hf k
  unfold upd at this
  rwa [if_pos rfl] at this
end
/-- A call, by its contract. -/
theorem steps_call {o : Oper} {a : Act} {w : World} {p : Value → World → Prop} {f : FuncId} {args : Array Value} (h : (execOp a.eval o).run P w = .ok (.enter f args) w)
    (hc : Calls P f args w (fun e w'' => ∃ u, e = .returned u ∧ E w w'' ∧ p u w'')) : steps P E o a w p := by
  unfold steps; rw [h]; exact hc
end
end Go.Proofs.Ytaaijgalminafaa.Mono
