import Derived.Laws.AppendOwnNone
import Derived.Test.YtaaijgalminafaaState
import Derived.Test.YtaaijgalminafaaFx
/-
  A region that draws its order: some operations that look at nothing (an address, a move) come up whenever they like; they are taken first. The first m operations are walked as a region of their own; the last ones, each behind all others, in the order of the text.
-/
namespace Go.Proofs.Ytaaijgalminafaa.Tail
open Go Go.RowKit Mono

/-- The floating operations fl stand behind floating ones alone; of the others from m on (ts), each stands behind all that are ahead of it. -/
def floatB (md : Region.Mode) (ops : Array Oper) (m : Nat) (fl ts : List Nat) : Bool :=
  ((List.range ops.size).all fun k => (preds md ops k).all (· < k)) &&
  (((List.range ops.size).all fun k => match (ops[k]?).bind (·.guard) with
    | some (g, _) => decide (g < k)
    | none => true) &&
  (((List.range ops.size).all fun j => decide (j < m) || (ts.contains j || fl.contains j)) &&
  ((ts.all fun j => decide (m ≤ j) && !fl.contains j && decide (j < ops.size)) &&
  ((fl.all fun j => decide (m ≤ j) && decide (j < ops.size)) &&
  (ts.all fun j => (List.range ops.size).all fun i => (decide (j ≤ i) || fl.contains i || (close md ops j (preds md ops j)).contains i))))))
def upB : List Nat → Bool
  | [] => true
  | a :: r => r.all (fun b => decide (a < b)) && upB r
/-- The floating operations may be taken first, one after the other. -/
def takeB (md : Region.Mode) (ops : Array Oper) : List Nat → Array Bool → Bool
  | [], _ => true
  | i :: r, listed => (Region.ready md ops listed).contains i && Region.free md ops listed i && takeB md ops r (listed.setIfInBounds i true)
def setAll : List Nat → Array Bool → Array Bool
  | [], listed => listed
  | i :: r, listed => setAll r (listed.setIfInBounds i true)
section
variable {P : Program} {ops : Array Oper} {md : Region.Mode} {Q : Exit → Act → World → Prop} {m : Nat} {fl ts : List Nat}
def floats (P : Program) (ops : Array Oper) : List Nat → Act → (Act → Prop) → Prop
  | [], a, K => K a
  | i :: r, a, K => ∃ o v, ops[i]? = some o ∧ Yields P ops o v a ∧ floats P ops r (a.put o.dst v) K
def tailOps (ops : Array Oper) (ts : List Nat) : List Oper := ts.filterMap fun i => ops[i]?
theorem float_back (h : floatB md ops m fl ts = true) {k : Nat} : ∀ i ∈ preds md ops k, i < k := by
  intro i hi
  simp only [floatB, Bool.and_eq_true, List.all_eq_true] at h
  have hk : k < ops.size := by
    cases ho : ops[k]? with
    | none => simp [preds, ho] at hi
    | some o => exact (Array.getElem?_eq_some_iff.1 ho).1
  simpa using h.1 k (List.mem_range.2 hk) i hi
theorem float_guard (h : floatB md ops m fl ts = true) {k g : Nat} {b : Bool} {o : Oper} (ho : ops[k]? = some o) (hg : o.guard = some (g, b)) : g < k := by
  simp only [floatB, Bool.and_eq_true, List.all_eq_true] at h
  have := h.2.1 k (List.mem_range.2 (Array.getElem?_eq_some_iff.1 ho).1)
  simp only [ho, Option.bind_some, hg] at this
  simpa using this
theorem float_part (h : floatB md ops m fl ts = true) {j : Nat} (hj : j < ops.size) (hm : m ≤ j) : j ∈ ts ∨ j ∈ fl := by
  simp only [floatB, Bool.and_eq_true, List.all_eq_true] at h
  have := h.2.2.1 j (List.mem_range.2 hj)
  simp only [Bool.or_eq_true, decide_eq_true_eq, List.contains_iff_mem] at this
  rcases this with h1 | h1
  · omega
  · exact h1
theorem float_ts (h : floatB md ops m fl ts = true) {j : Nat} (hj : j ∈ ts) : m ≤ j ∧ j ∉ fl ∧ j < ops.size := by
  simp only [floatB, Bool.and_eq_true, List.all_eq_true] at h
  have := h.2.2.2.1 j hj
  simp only [decide_eq_true_eq, Bool.not_eq_true', ← Bool.not_eq_true, List.contains_iff_mem] at this
  exact ⟨this.1.1, this.1.2, this.2⟩
theorem float_fl (h : floatB md ops m fl ts = true) {j : Nat} (hj : j ∈ fl) : m ≤ j ∧ j < ops.size := by
  simp only [floatB, Bool.and_eq_true, List.all_eq_true] at h
  have := h.2.2.2.2.1 j hj
  simp only [decide_eq_true_eq] at this
  exact this
theorem float_all (h : floatB md ops m fl ts = true) {listed : Array Bool} (hc : Closed md ops listed) {j : Nat} (hj : j ∈ Region.ready md ops listed) (hjt : j ∈ ts) : ∀ i, i < j → i ∉ fl → listed.getD i false = true := by
  intro i hi hif
  obtain ⟨_, o, ho, hall⟩ := mem_ready.1 hj
  have hjs := (Array.getElem?_eq_some_iff.1 ho).1
  simp only [floatB, Bool.and_eq_true, List.all_eq_true] at h
  have := h.2.2.2.2.2 j hjt i (List.mem_range.2 (by omega))
  simp only [Bool.or_eq_true, decide_eq_true_eq, List.contains_iff_mem] at this
  rcases this with (h1 | h1) | h1
  · omega
  · exact absurd h1 hif
  · refine close_listed hc j _ (fun k hk => ?_) i h1
    obtain ⟨e, he, hb, rfl⟩ := (mem_preds ho).1 hk
    exact hall e he hb
theorem wpAny_ts (h : floatB md ops m fl ts = true) : ∀ (us : List Nat) (fuel : Nat) (listed : Array Bool) (a : Act) (w : World), upB us = true → us <:+ ts → us.length ≤ fuel → listed.size = ops.size → Closed md ops listed →
    (∀ i, i < ops.size → i ∉ us → listed.getD i false = true) → (∀ i ∈ us, listed.getD i false = false) → wpList P ops Q (tailOps ops us) a w → wpAny P md ops Q fuel listed a w
  | [], fuel, listed, a, w, _, _, hf, hs, hc, h1, h0, hq => by
    have hr : Region.ready md ops listed = [] := by
      rw [List.eq_nil_iff_forall_not_mem]
      intro i hi
      obtain ⟨hu, o, ho, _⟩ := mem_ready.1 hi
      have hi' := (Array.getElem?_eq_some_iff.1 ho).1
      have := h1 i hi' (by simp)
      simp [show i < listed.size by omega] at this hu
      rw [this] at hu; cases hu
    exact wpAny_done hr (by simpa [tailOps, wpList] using hq) fuel
  | k :: us, 0, listed, a, w, _, _, hf, _, _, _, _, _ => by simp at hf
  | k :: us, fuel + 1, listed, a, w, hup, hsuf, hf, hs, hc, h1, h0, hq => by
    have hkt : k ∈ ts := hsuf.subset (List.mem_cons_self ..)
    obtain ⟨hmk, hkf, hks⟩ := float_ts h hkt
    obtain ⟨o, ho⟩ : ∃ o, ops[k]? = some o := ⟨_, Array.getElem?_eq_getElem hks⟩
    simp only [upB, Bool.and_eq_true, List.all_eq_true, decide_eq_true_eq] at hup
    have hr : k ∈ Region.ready md ops listed := by
      refine mem_ready.2 ⟨by have := h0 k (List.mem_cons_self ..); simpa [show k < listed.size by omega] using this, o, ho, fun e he hb => ?_⟩
      have hlt : e.on < k := float_back h _ ((mem_preds ho).2 ⟨e, he, hb, rfl⟩)
      refine h1 _ (by omega) (fun hin => ?_)
      rcases List.mem_cons.1 hin with e1 | e1
      · omega
      · have := hup.1 _ e1; omega
    refine ⟨(fun hn => by rw [hn] at hr; cases hr), fun i hi => ?_⟩
    have hik : i = k := by
      obtain ⟨hu, oi, hoi, _⟩ := mem_ready.1 hi
      have hi' := (Array.getElem?_eq_some_iff.1 hoi).1
      have hin : i ∈ k :: us := Classical.byContradiction fun hn => by
        have := h1 i hi' hn
        simp [show i < listed.size by omega] at this hu
        rw [this] at hu; cases hu
      rcases List.mem_cons.1 hin with e1 | e1
      · exact e1
      · exfalso
        have hki := hup.1 _ e1
        have := float_all h hc hi (hsuf.subset hin) k hki hkf
        rw [h0 k (List.mem_cons_self ..)] at this; cases this
    subst hik
    have hcs := closed_set hc hi
    have hnot : i ∉ us := fun hin => by have := hup.1 _ hin; omega
    have rec_ : ∀ a w, wpList P ops Q (tailOps ops us) a w → wpAny P md ops Q fuel (listed.setIfInBounds i true) a w := fun a w hq => by
      refine wpAny_ts h us fuel _ a w hup.2 ((List.suffix_cons i us).trans hsuf) (by simpa using hf) (by simpa using hs) hcs (fun j hjs hj => ?_) (fun j hj => ?_) hq
      · by_cases e : i = j
        · subst e; simp [show i < listed.size by omega]
        · rw [getD_set_ne false e]; exact h1 j hjs (fun hin => by rcases List.mem_cons.1 hin with e1 | e1; exact e e1.symm; exact hj e1)
      · rw [getD_set_ne false (fun e => by subst e; exact hnot hj)]; exact h0 j (List.mem_cons_of_mem _ hj)
    have hto : tailOps ops (i :: us) = o :: tailOps ops us := by simp [tailOps, ho]
    rw [hto] at hq
    unfold wpList at hq
    unfold wpOp
    simp only [ho]
    by_cases hw : Region.wanted o (yielded ops a.tmps) = true
    · rw [if_pos hw] at hq ⊢
      exact hq.imp (Oper.wp_mono rec_) id
    · rw [if_neg hw] at hq ⊢
      exact rec_ _ _ hq
/-- The head, where the floating operations are listed. -/
theorem wpAny_head_fl {l : List Oper} {r : Nat} (hml : m ≤ l.length) (h : floatB md l.toArray m fl ts = true) (hup : upB ts = true) (hts : ts.length = r) : ∀ (fuel : Nat) (listed1 listed : Array Bool) (a : Act) (w : World), listed1.size = m → listed.size = l.length → Closed md l.toArray listed → (∀ i, i < m → listed1.getD i false = listed.getD i false) →
    (∀ i ∈ fl, listed.getD i false = true) → (∀ i ∈ ts, listed.getD i false = false) →
    wpAny P md (l.take m).toArray (Exit.then (wpList P l.toArray Q (tailOps l.toArray ts)) Q) fuel listed1 a w → wpAny P md l.toArray Q (fuel + r) listed a w := by
  have get1 : ∀ i, i < m → (l.take m).toArray[i]? = l.toArray[i]? := fun i hi => by simp [hi]
  have all : ∀ (listed1 listed : Array Bool), listed1.size = m → (∀ i, i < m → listed1.getD i false = listed.getD i false) → Region.ready md (l.take m).toArray listed1 = [] → ∀ i, i < m → listed.getD i false = true := by
    intro listed1 listed hs1 heq hr1 i
    induction i using Nat.strongRecOn with
    | _ i ih =>
      intro hi
      rw [← heq i hi]
      cases hb : listed1.getD i false with
      | true => rfl
      | false =>
        exfalso
        have hil : i < l.length := by omega
        have : i ∈ Region.ready md (l.take m).toArray listed1 := by
          refine mem_ready.2 ⟨by simpa [show i < listed1.size by omega] using hb, l[i], by rw [get1 i hi]; simp [hil], fun e he hb => ?_⟩
          have hlt : e.on < i := float_back h _ ((mem_preds (k := i) (o := l[i]) (by simp [hil])).2 ⟨e, he, hb, rfl⟩)
          rw [heq _ (by omega)]
          exact ih _ hlt (by omega)
        rw [hr1] at this; cases this
  have fin : ∀ (fuel : Nat) (listed1 listed : Array Bool) (a : Act) (w : World), listed1.size = m → listed.size = l.length → Closed md l.toArray listed → (∀ i, i < m → listed1.getD i false = listed.getD i false) →
      (∀ i ∈ fl, listed.getD i false = true) → (∀ i ∈ ts, listed.getD i false = false) → Region.ready md (l.take m).toArray listed1 = [] → wpList P l.toArray Q (tailOps l.toArray ts) a w → wpAny P md l.toArray Q (fuel + r) listed a w := by
    intro fuel listed1 listed a w hs1 hs hc heq hf h0 hr1 hq
    have ha := all listed1 listed hs1 heq hr1
    refine wpAny_ts h ts _ listed a w hup (List.suffix_refl _) (by omega) (by simpa using hs) hc (fun i hi hn => ?_) h0 hq
    rcases Nat.lt_or_ge i m with h1 | h1
    · exact ha i h1
    · rcases float_part h hi h1 with h2 | h2
      · exact absurd h2 hn
      · exact hf i h2
  intro fuel
  induction fuel with
  | zero =>
    intro listed1 listed a w hs1 hs hc heq hf h0 hh
    exact fin 0 listed1 listed a w hs1 hs hc heq hf h0 hh.1 hh.2
  | succ fuel ih =>
    intro listed1 listed a w hs1 hs hc heq hf h0 hh
    by_cases hr1 : Region.ready md (l.take m).toArray listed1 = []
    · exact fin (fuel + 1) listed1 listed a w hs1 hs hc heq hf h0 hr1 (hh.1 hr1)
    · obtain ⟨i0, hi0⟩ := List.exists_mem_of_ne_nil _ hr1
      have up : ∀ i, i ∈ Region.ready md (l.take m).toArray listed1 → i < m ∧ i ∈ Region.ready md l.toArray listed := by
        intro i hi
        obtain ⟨hu, o, ho, hall⟩ := mem_ready.1 hi
        have him : i < m := by have := (Array.getElem?_eq_some_iff.1 ho).1; simp at this; omega
        rw [get1 i him] at ho
        refine ⟨him, mem_ready.2 ⟨?_, o, ho, fun e he hb => ?_⟩⟩
        · have := heq i him
          simp [show i < listed1.size by omega, show i < listed.size by omega] at this hu ⊢
          rw [← this]; exact hu
        · have hlt : e.on < i := float_back h _ ((mem_preds ho).2 ⟨e, he, hb, rfl⟩)
          rw [← heq _ (by omega)]; exact hall e he hb
      have dn : ∀ i, i < m → i ∈ Region.ready md l.toArray listed → i ∈ Region.ready md (l.take m).toArray listed1 := by
        intro i him hi
        obtain ⟨hu, o, ho, hall⟩ := mem_ready.1 hi
        refine mem_ready.2 ⟨?_, o, by rw [get1 i him]; exact ho, fun e he hb => ?_⟩
        · have := heq i him
          simp [show i < listed1.size by omega, show i < listed.size by omega] at this hu ⊢
          rw [this]; exact hu
        · have hlt : e.on < i := float_back h _ ((mem_preds ho).2 ⟨e, he, hb, rfl⟩)
          rw [heq _ (by omega)]; exact hall e he hb
      rw [Nat.add_right_comm]
      refine ⟨(fun hn => by have := (up i0 hi0).2; rw [hn] at this; cases this), fun i hi => ?_⟩
      have hi0m := (up i0 hi0).1
      have him : i < m := by
        rcases Nat.lt_or_ge i m with h1 | h1
        · exact h1
        · exfalso
          obtain ⟨hu, oi, hoi, _⟩ := mem_ready.1 hi
          have his := (Array.getElem?_eq_some_iff.1 hoi).1
          rcases float_part h his h1 with h2 | h2
          · have h3 := float_all h hc hi h2 i0 (by omega) (fun hf0 => by have := (float_fl h hf0).1; omega)
            obtain ⟨hu, _⟩ := mem_ready.1 (up i0 hi0).2
            simp [show i0 < listed.size by omega] at h3 hu
            rw [h3] at hu; cases hu
          · have := hf i h2
            simp at his
            simp [show i < listed.size by omega] at this hu
            rw [this] at hu; cases hu
      have H := hh.2 i (dn i him hi)
      have nf : i ∉ fl := fun hif => by have := (float_fl h hif).1; omega
      have nt : i ∉ ts := fun hit => by have := (float_ts h hit).1; omega
      have rec_ : ∀ a w, wpAny P md (l.take m).toArray (Exit.then (wpList P l.toArray Q (tailOps l.toArray ts)) Q) fuel (listed1.setIfInBounds i true) a w → wpAny P md l.toArray Q (fuel + r) (listed.setIfInBounds i true) a w := fun a w hh => by
        refine ih _ _ a w (by simpa using hs1) (by simpa using hs) (closed_set hc hi) (fun j hj => ?_) (fun j hj => ?_) (fun j hj => ?_) hh
        · by_cases e : i = j
          · subst e; simp [show i < listed1.size by omega, show i < listed.size by omega]
          · rw [getD_set_ne false e, getD_set_ne false e]; exact heq j hj
        · rw [getD_set_ne false (fun e => nf (by rw [e]; exact hj))]; exact hf j hj
        · rw [getD_set_ne false (fun e => nt (by rw [e]; exact hj))]; exact h0 j hj
      unfold wpOp at H ⊢
      rw [get1 i him] at H
      cases ho : l.toArray[i]? with
      | none => simp only [ho] at H ⊢; exact rec_ _ _ H
      | some o =>
        simp only [ho] at H ⊢
        have hwant : Region.wanted o (yielded (l.take m).toArray a.tmps) = Region.wanted o (yielded l.toArray a.tmps) := by
          unfold Region.wanted
          cases hg : o.guard with
          | none => rfl
          | some gb =>
            obtain ⟨g, b⟩ := gb
            have hgl := float_guard h ho hg
            have : yielded (l.take m).toArray a.tmps g = yielded l.toArray a.tmps g := by unfold yielded; rw [get1 g (by omega)]
            simp only [this]
        rw [hwant] at H
        by_cases hw : Region.wanted o (yielded l.toArray a.tmps) = true
        · simp only [hw, if_true] at H ⊢
          rcases H with H | ⟨H1, a', w', H2⟩
          · exact .inl (wp_posts (fun _ _ _ q => q) (fun _ _ q => q) (Oper.wp_mono rec_ H))
          · exact .inr ⟨H1, a', w', H2⟩
        · simp only [hw, Bool.false_eq_true, if_false] at H ⊢
          exact rec_ _ _ H
theorem setAll_size : ∀ (fl : List Nat) (listed : Array Bool), (setAll fl listed).size = listed.size
  | [], _ => rfl
  | i :: r, listed => by unfold setAll; rw [setAll_size r]; simp
theorem setAll_other : ∀ (fl : List Nat) (listed : Array Bool) (j : Nat), j ∉ fl → (setAll fl listed).getD j false = listed.getD j false
  | [], _, _, _ => rfl
  | i :: r, listed, j, h => by
    unfold setAll
    rw [setAll_other r _ j (fun hj => h (List.mem_cons_of_mem _ hj)), getD_set_ne false (fun e => h (by rw [e]; exact List.mem_cons_self ..))]
theorem setAll_keep : ∀ (fl : List Nat) (listed : Array Bool) (j : Nat), listed.getD j false = true → (setAll fl listed).getD j false = true
  | [], _, _, h => h
  | _ :: r, _, j, h => setAll_keep r _ j (getD_set_true h)
theorem setAll_in : ∀ (fl : List Nat) (listed : Array Bool) (j : Nat), j ∈ fl → j < listed.size → (setAll fl listed).getD j false = true
  | i :: r, listed, j, h, hj => by
    unfold setAll
    rcases List.mem_cons.1 h with rfl | h
    · exact setAll_keep r _ j (by simp [hj])
    · exact setAll_in r _ j h (by simpa using hj)
theorem wpAny_floats (hs : Region.noSelect ops = true) (hQ : ∀ c a d v w, Q (.panic c) (Act.put a d v) w → Q (.panic c) a w) : ∀ (fl : List Nat) (fuel : Nat) (listed : Array Bool) (a : Act) (w : World), takeB md ops fl listed = true → Closed md ops listed →
    floats P ops fl a (fun a' => Closed md ops (setAll fl listed) → wpAny P md ops Q fuel (setAll fl listed) a' w) → wpAny P md ops Q (fuel + fl.length) listed a w
  | [], fuel, listed, a, w, _, hc, h => h hc
  | i :: r, fuel, listed, a, w, ht, hc, ⟨o, v, ho, hy, h⟩ => by
    simp only [takeB, Bool.and_eq_true] at ht
    rw [List.length_cons, ← Nat.add_assoc]
    exact wpAny_take ho hs ht.1.2 ht.1.1 (fun c a w => hQ c a _ v w) hy (wpAny_floats hs hQ r fuel _ _ w ht.2 (closed_set hc (by simpa using ht.1.1)) h)
theorem wp_region_float {id : Nat} {a : Act} {w : World} {l : List Oper} (m : Nat) (fl ts : List Nat) (hm : P.follows .mixedOrders = true) (hml : m ≤ l.length) (h : floatB .any l.toArray m fl ts = true) (hup : upB ts = true) (hlen : m + ts.length + fl.length = l.length)
    (hT : takeB .any l.toArray fl (Array.replicate l.length false) = true) (hs : Region.noSelect l.toArray = true) (hQ : ∀ c a d v w, Q (.panic c) (Act.put a d v) w → Q (.panic c) a w)
    (hh : floats P l.toArray fl a (fun a' => wpAny P .any (l.take m).toArray (Exit.then (wpList P l.toArray Q (tailOps l.toArray ts)) Q) m (Array.replicate m false) a' w.drew)) : (Code.region id l.toArray true).wp P Q a w := by
  refine wp_region_any hm ?_
  have hz : (l.toArray).size = m + ts.length + fl.length := by simp; omega
  rw [hz]
  have hc0 : Closed .any l.toArray (Array.replicate l.length false) := fun k hk => by rw [rep_false] at hk; cases hk
  have := wpAny_floats (P := P) (Q := Q) (md := .any) hs hQ fl (m + ts.length) (Array.replicate l.length false) a w.drew hT hc0 ?_
  · have e : Array.replicate (m + ts.length + fl.length) false = Array.replicate l.length false := by rw [hlen]
    rw [e]; exact this
  · have gen : ∀ (us : List Nat) (a : Act) (K K' : Act → Prop), (∀ a, K a → K' a) → floats P l.toArray us a K → floats P l.toArray us a K' := by
      intro us
      induction us with
      | nil => intro a K K' hk h; exact hk a h
      | cons i r ih => rintro a K K' hk ⟨o, v, ho, hy, h⟩; exact ⟨o, v, ho, hy, ih _ K K' hk h⟩
    refine gen fl a _ _ (fun a' ha hcl => ?_) hh
    refine wpAny_head_fl hml h hup rfl m (Array.replicate m false) _ a' w.drew (by simp) (by rw [setAll_size]; simp) hcl (fun i hi => ?_) (fun i hi => ?_) (fun i hi => ?_) ha
    · rw [setAll_other fl _ i (fun hif => by have := (float_fl h hif).1; omega), rep_false, rep_false]
    · exact setAll_in fl _ i hi (by have := (float_fl h hi).2; simpa using this)
    · rw [setAll_other fl _ i (float_ts h hi).2.1, rep_false]
end
def floatOk (l : List Oper) (m : Nat) (fl ts : List Nat) : Bool :=
  decide (m ≤ l.length) && (floatB .any l.toArray m fl ts && (upB ts && (decide (m + ts.length + fl.length = l.length) && (takeB .any l.toArray fl (Array.replicate l.length false) && Region.noSelect l.toArray))))
/-- The first m operations by one walk of Fx's; the floating ones ahead; the last ones in the order of the text. -/
theorem wp_region_fx_float {P : Program} {Q : Exit → Act → World → Prop} {id : Nat} {a : Act} {w : World} {l : List Oper} (m : Nat) (fl ts : List Nat) (f : Nat → Option Fact) (hm : P.follows .mixedOrders = true) (hok : floatOk l m fl ts = true) (hB : Region.lexB .any (l.take m).toArray = true)
    (hQ : ∀ c a d v w, Q (.panic c) (Act.put a d v) w → Q (.panic c) a w)
    (h : floats P l.toArray fl a (fun a' => wpM P (l.take m).toArray .any (Below w.heap.size w) Ext (fxE f) (fxR f) (fun a w => wpList P l.toArray Q (tailOps l.toArray ts) a w) (l.take m) 0 (fun _ _ => True) a')) : (Code.region id l.toArray true).wp P Q a w := by
  simp only [floatOk, Bool.and_eq_true, decide_eq_true_eq] at hok
  obtain ⟨hml, h1, h2, h3, h4, h5⟩ := hok
  refine wp_region_float m fl ts hm hml h1 h2 h3 h4 h5 hQ ?_
  have hlen : (l.take m).length = m := by simp; omega
  have gen : ∀ (us : List Nat) (a : Act) (K K' : Act → Prop), (∀ a, K a → K' a) → floats P l.toArray us a K → floats P l.toArray us a K' := by
    intro us
    induction us with
    | nil => intro a K K' hk h; exact hk a h
    | cons i r ih => rintro a K K' hk ⟨o, v, ho, hy, h⟩; exact ⟨o, v, ho, hy, ih _ K K' hk h⟩
  refine gen fl a _ _ (fun a' ha => ?_) h
  simp only [Region.lexB, Bool.and_eq_true] at hB
  have hg := fx_good f w
  have hI : Inv Ext (Array.replicate m false) (fun _ _ => True) := ⟨fun _ _ _ => trivial, fun _ _ _ h _ => h⟩
  refine wpAny_of_M (eff := fxE f) hg (Q := fun a w => wpList P l.toArray Q (tailOps l.toArray ts) a w) (fun _ _ h => h) _ _ (fun _ _ => True) a' _ hI (Below.refl w.heap.size w).drew (fun _ => trivial) ?_
  have := wpAnyM_lex (md := .any) (eff := fxE f) hg hB.1 (l.take m) 0 (Array.replicate m false) (fun _ _ => True) a' (by simp) hI ⟨w.drew, (Below.refl w.heap.size w).drew, fun _ => trivial⟩ (by simpa [hlen] using hB.2) ha
  rwa [hlen] at this
end Go.Proofs.Ytaaijgalminafaa.Tail
/-
  Appends onto an empty literal and out of a row of one's own.
-/
namespace Go.Proofs.Ytaaijgalminafaa
open Go.RowKit Mono

section
variable {P : Program} {w : World}
/-- 'append([]T{}, xs...)': what was there stays as it was. -/
theorem run_append_empty (base : Nat) (t ty e : TypeId) (i : TypeInfo) (z : Value) (size bytes : Nat) (ht : P.underlying t = some (.slice e)) (hi : P.info? e = some i) (hz : i.zero = some z)
    (hsize : i.size = size) (hby : i.bytes = bytes) (hzs : z.cells.size = size) (hsz : 0 < size) {g : Nat} (hg : w.heap[g]? = some (.cells #[] e (0, 0))) (hgb : base ≤ g)
    (a : Addr) (m c : Nat) (news : List Value) (hl : news.length = m * size) (hnews : ∀ j u, news[j]? = some u → w.cell? (a.add j) = some u) (h1 : ∀ u ∈ news, u.oneCell' = true)
    (h63 : m ≤ maxLen) (hbytes : m * bytes ≤ 140737488355328) (hbase : base ≤ w.heap.size) :
    ∃ v' w', (Builtin.append_ #[t, t] ty #[.slice (some ⟨g, 0, none⟩) 0 0, .slice (some a) m c]).run P w = .ok v' w' ∧ w'.ownsRow base e size v' m news ∧ Below w.heap.size w w' := by
  have hown : w.ownsRow base e size (.slice (some ⟨g, 0, none⟩) 0 0) 0 [] := ⟨by simp, .inr ⟨g, 0, #[], rfl, hgb, hg, Nat.le_refl _, Nat.zero_le _, by simp, by simp⟩⟩
  obtain ⟨v', w', hr, h2, h3, _⟩ := run_append_own (P := P) w base t ty e i z size bytes ht hi hz hsize hby hzs hsz _ 0 [] hown a m c news hl hnews h1 (by omega) (by rw [Nat.zero_add]; exact hbytes) hbase
  refine ⟨v', w', hr, by simpa using h2, ⟨h3.os, h3.tape, h3.output, h3.size, fun k hk => ?_⟩⟩
  by_cases hkg : k = g
  · subst hkg
    by_cases hm : m = 0
    · subst hm
      have hn : news = [] := List.eq_nil_of_length_eq_zero (by simpa using hl)
      subst hn
      have hq := run_append_room (P := P) w t ty e i ht hi k 0 0 #[] hg a 0 c [] (by simp) (by simp) (by simp) (by simp) (by simp)
      rw [hr] at hq
      injection hq with _ hq
      subst hq
      rw [setRow_heap w k #[] _ e _ hg, hg]
      simp
    · subst hsize
      subst hby
      have hq := run_append_grow (P := P) w t ty e i z ht hi hz ⟨k, 0, none⟩ 0 0 [] (by simp) (by simp) a m c news hl hnews (by omega) (by have := h63; unfold maxLen at this; omega) (growslice_fits (by omega) (by rw [Nat.zero_add]; exact hbytes))
      rw [hr] at hq
      injection hq with _ hq
      subst hq
      exact Below.heap_alloc w.drew _ k hk
  · exact h3.block k hk (fun e => hkg (by simpa [Value.ownBlock] using e))
theorem steps_append_empty {o : Oper} {a : Act} {p : Value → World → Prop} (s x : Operand) (t : TypeId) (ho : o.op = .call { callee := .builtin .append, args := #[s, x], argTypes := #[t, t] })
    (base : Nat) (e : TypeId) (i : TypeInfo) (z : Value) (size bytes : Nat) (ht : P.underlying t = some (.slice e)) (hi : P.info? e = some i) (hz : i.zero = some z)
    (hsize : i.size = size) (hby : i.bytes = bytes) (hzs : z.cells.size = size) (hsz : 0 < size) {g : Nat} (hg : w.heap[g]? = some (.cells #[] e (0, 0))) (hgb : base ≤ g) (hs : a.eval s = .slice (some ⟨g, 0, none⟩) 0 0)
    (ad : Addr) (m c : Nat) (news : List Value) (hx : a.eval x = .slice (some ad) m c) (hl : news.length = m * size) (hnews : ∀ j u, news[j]? = some u → w.cell? (ad.add j) = some u) (h1 : ∀ u ∈ news, u.oneCell' = true)
    (h63 : m ≤ maxLen) (hbytes : m * bytes ≤ 140737488355328) (hbase : base ≤ w.heap.size) (hp : ∀ v' w', w'.ownsRow base e size v' m news → p v' w') : steps P Ext o a w p := by
  obtain ⟨v', w', hr, h2, h3⟩ := run_append_empty (w := w) base t o.type e i z size bytes ht hi hz hsize hby hzs hsz hg hgb ad m c news hl hnews h1 h63 hbytes hbase
  refine steps_val (w' := w') (v := v') ?_ h3 (hp _ _ h2)
  unfold execOp
  simp only [ho, resolve, invoke, builtin, Sem.run_bind, Sem.run_pure, Result.andThen_ok, List.map_toArray, List.map_cons, List.map_nil, hs, hx, hr]
/-- 'append(out, xs...)', xs a row of the call's own, nil or not. -/
theorem wpList_append_own_row {ops : Array Oper} {rest : List Oper} {o : Oper} {a : Act} {Q : Exit → Act → World → Prop} (hgd : o.guard = none) (s x : Operand) (t : TypeId)
    (ho : o.op = .call { callee := .builtin .append, args := #[s, x], argTypes := #[t, t] })
    (base : Nat) (e : TypeId) (i : TypeInfo) (z : Value) (size bytes : Nat) (ht : P.underlying t = some (.slice e)) (hi : P.info? e = some i) (hz : i.zero = some z)
    (hsize : i.size = size) (hby : i.bytes = bytes) (hzs : z.cells.size = size) (hsz : 0 < size)
    (v : Value) (n : Nat) (xs : List Value) (hs : a.eval s = v) (hown : w.ownsRow base e size v n xs)
    (base' : Nat) (vx : Value) (m : Nat) (news : List Value) (hx : a.eval x = vx) (hsrc : w.ownsRow base' e size vx m news) (h1 : ∀ u ∈ news, u.oneCell' = true)
    (h63 : n + m ≤ maxLen) (hbytes : (n + m) * bytes ≤ 140737488355328) (hbase : base ≤ w.heap.size)
    (h : ∀ v' w', w'.ownsRow base e size v' (n + m) (xs ++ news) → w.grownBy w' v.ownBlock → wpList P ops Q rest (a.put o.dst v') w') : wpList P ops Q (o :: rest) a w := by
  rcases hsrc.2 with ⟨rfl, rfl⟩ | ⟨g, cap, cur, rfl, _⟩
  · have hn : news = [] := List.eq_nil_of_length_eq_zero (by simpa using hsrc.1)
    subst hn
    exact wpList_append_own_none hgd s x t ho base e i size ht hi v n xs hs hown hx (h v w (by simpa using hown) ⟨rfl, rfl, rfl, Nat.le_refl _, fun _ _ _ => rfl⟩)
  · exact wpList_append_own w hgd s x t ho base e i z size bytes ht hi hz hsize hby hzs hsz v n xs hs hown ⟨g, 0, none⟩ m cap news hx hsrc.1 (fun j u hu => hsrc.cells (g := g) rfl j u hu) h1 h63 hbytes hbase (fun v' w' h2 h3 _ => h v' w' h2 h3)
end

theorem Mono.wpM_norm {P : Program} {ops : Array Oper} {md : Region.Mode} {C0 : World → Prop} {E : World → World → Prop} {eff : Nat → Bool} {R : Nat → Value → World → Prop} {Q : Act → World → Prop} {l : List Oper} {k : Nat} {F : Mono.Facts} {a : Act}
    (h : ∀ K : Act → Prop, (∀ a, Mono.wpM P ops md C0 E eff R Q l k F a → K a) → K a) : Mono.wpM P ops md C0 E eff R Q l k F a := h _ (fun _ h => h)

section
variable {P : Program} {w : World}
theorem run_append_none_any (base : Nat) (t ty e : TypeId) (i : TypeInfo) (size c : Nat) (ht : P.underlying t = some (.slice e)) (hi : P.info? e = some i)
    (v : Value) (n : Nat) (xs : List Value) (hown : w.ownsRow base e size v n xs) :
    (Builtin.append_ #[t, t] ty #[v, .slice none 0 c]).run P w = .ok v w := by
  rcases hown.2 with ⟨rfl, rfl⟩ | ⟨g, cap, cur, rfl, _, _, hnc, _⟩
  · simp [Builtin.append_, run_underlying ht, sizeOf, typeInfo, hi, Builtin.lenOf, Builtin.firstCells]
  · simp [Builtin.append_, run_underlying ht, sizeOf, typeInfo, hi, Builtin.lenOf, Builtin.firstCells, hnc, storeCells]
/-- 'append([]T{}, xs...)', xs any slice that reads as news. -/
theorem steps_append_lit {o : Oper} {a : Act} {p : Value → World → Prop} (s x : Operand) (t : TypeId) (ho : o.op = .call { callee := .builtin .append, args := #[s, x], argTypes := #[t, t] })
    (base : Nat) (e : TypeId) (i : TypeInfo) (z : Value) (size bytes : Nat) (ht : P.underlying t = some (.slice e)) (hi : P.info? e = some i) (hz : i.zero = some z)
    (hsize : i.size = size) (hby : i.bytes = bytes) (hzs : z.cells.size = size) (hsz : 0 < size) {g : Nat} (hg : w.heap[g]? = some (.cells #[] e (0, 0))) (hgb : base ≤ g) (hs : a.eval s = .slice (some ⟨g, 0, none⟩) 0 0)
    (B : Nat) (A : Option Addr) (m c : Nat) (news : List Value) (hx : a.eval x = .slice A m c) (hR : Rd w B size A m news) (h1 : ∀ u ∈ news, u.oneCell' = true)
    (h63 : m ≤ maxLen) (hbytes : m * bytes ≤ 140737488355328) (hbase : base ≤ w.heap.size) (hp : ∀ v' w', w'.ownsRow base e size v' m news → p v' w') : steps P Ext o a w p := by
  rcases A with _ | ad
  · have hm : m = 0 := by
      rcases Nat.eq_zero_or_pos m with h | h
      · exact h
      · obtain ⟨_, _, h, _⟩ := hR.2 h; cases h
    subst hm
    have hn : news = [] := hR.nil_
    subst hn
    have hown : w.ownsRow base e size (.slice (some ⟨g, 0, none⟩) 0 0) 0 [] := ⟨by simp, .inr ⟨g, 0, #[], rfl, hgb, hg, Nat.le_refl _, Nat.zero_le _, by simp, by simp⟩⟩
    have hr := run_append_none_any (P := P) (w := w) base t o.type e i size c ht hi _ 0 [] hown
    refine steps_val (w' := w) (v := .slice (some ⟨g, 0, none⟩) 0 0) ?_ (Below.refl _ _) (hp _ _ hown)
    unfold execOp
    simp only [ho, resolve, invoke, builtin, Sem.run_bind, Sem.run_pure, Result.andThen_ok, List.map_toArray, List.map_cons, List.map_nil, hs, hx, hr]
  · exact steps_append_empty s x t ho base e i z size bytes ht hi hz hsize hby hzs hsz hg hgb hs ad m c news hx hR.1 hR.cells h1 h63 hbytes hbase hp
/-- 'append(out, xs...)', xs any slice that reads as news. -/
theorem wpList_append_rd {ops : Array Oper} {rest : List Oper} {o : Oper} {a : Act} {Q : Exit → Act → World → Prop} (hgd : o.guard = none) (s x : Operand) (t : TypeId)
    (ho : o.op = .call { callee := .builtin .append, args := #[s, x], argTypes := #[t, t] })
    (base : Nat) (e : TypeId) (i : TypeInfo) (z : Value) (size bytes : Nat) (ht : P.underlying t = some (.slice e)) (hi : P.info? e = some i) (hz : i.zero = some z)
    (hsize : i.size = size) (hby : i.bytes = bytes) (hzs : z.cells.size = size) (hsz : 0 < size)
    (v : Value) (n : Nat) (xs : List Value) (hs : a.eval s = v) (hown : w.ownsRow base e size v n xs)
    (B : Nat) (A : Option Addr) (m c : Nat) (news : List Value) (hx : a.eval x = .slice A m c) (hR : Rd w B size A m news) (h1 : ∀ u ∈ news, u.oneCell' = true)
    (h63 : n + m ≤ maxLen) (hbytes : (n + m) * bytes ≤ 140737488355328) (hbase : base ≤ w.heap.size)
    (h : ∀ v' w', w'.ownsRow base e size v' (n + m) (xs ++ news) → w.grownBy w' v.ownBlock → wpList P ops Q rest (a.put o.dst v') w') : wpList P ops Q (o :: rest) a w := by
  rcases A with _ | ad
  · have hm : m = 0 := by
      rcases Nat.eq_zero_or_pos m with h | h
      · exact h
      · obtain ⟨_, _, h, _⟩ := hR.2 h; cases h
    subst hm
    have hn : news = [] := hR.nil_
    subst hn
    have hr := run_append_none_any (P := P) (w := w) base t o.type e i size c ht hi v n xs hown
    refine wpList_plain hgd fun K hK => ?_
    unfold Oper.wp
    simp [execOp, ho, resolve, invoke, builtin, hs, hx, hr, Result.andThen]
    exact hK _ _ (h v w (by simpa using hown) ⟨rfl, rfl, rfl, Nat.le_refl _, fun _ _ _ => rfl⟩)
  · exact wpList_append_own w hgd s x t ho base e i z size bytes ht hi hz hsize hby hzs hsz v n xs hs hown ad m c news hx hR.1 hR.cells h1 h63 hbytes hbase (fun v' w' h2 h3 _ => h v' w' h2 h3)
end
theorem row_free {w : World} {g : Nat} {cs : Array Value} {t : TypeId} (h : w.heap[g]? = some (.cells cs t (0, 0))) (i : Nat) : w.frozen? ⟨g, i, none⟩ = false := by simp [World.frozen?, h]
theorem row_lt {w : World} {g : Nat} {o : Obj} (h : w.heap[g]? = some o) : g < w.heap.size := (Array.getElem?_eq_some_iff.1 h).1
theorem row_set {w : World} {g : Nat} {cs : Array Value} {t : TypeId} (h : w.heap[g]? = some (.cells cs t (0, 0))) (i : Nat) (u : Value) : (w.setCell ⟨g, i, none⟩ u).heap[g]? = some (.cells (cs.setIfInBounds i u) t (0, 0)) := by
  simp [World.setCell, Array.getElem?_modify, h]
theorem own_up {w w' : World} {base size n : Nat} {e : TypeId} {v : Value} {xs : List Value} (h : w.ownsRow base e size v n xs) (hb : Below w.heap.size w w') : w'.ownsRow base e size v n xs :=
  h.kept (row := none) ⟨hb.os, hb.tape, hb.output, hb.size, fun k hk _ => hb.block k hk⟩ (by cases v.ownBlock <;> simp)
theorem own_le {w : World} {base base' size n : Nat} {e : TypeId} {v : Value} {xs : List Value} (h : w.ownsRow base e size v n xs) (hb : base' ≤ base) : w.ownsRow base' e size v n xs :=
  ⟨h.1, h.2.imp id fun ⟨g, cap, cur, h1, h2, h3⟩ => ⟨g, cap, cur, h1, Nat.le_trans hb h2, h3⟩⟩
theorem cells_one {w : World} {v : Value} {t : TypeId} {g : Nat} (h : w.heap[g]? = some (.cells #[v] t (0, 0))) : ∀ j u, [v][j]? = some u → w.cell? ((⟨g, 0, none⟩ : Addr).add j) = some u := by
  intro j u hu
  have : (⟨g, 0, none⟩ : Addr).add j = ⟨g, j, none⟩ := by unfold Addr.add; split <;> simp_all
  rw [this, cell_of_row _ _ j _ t (0, 0) h]
  simpa using hu
end Go.Proofs.Ytaaijgalminafaa
