import Derived.Laws.CopyRow
import Derived.Laws.CopyOwn
import Derived.ChangeKeysEq
import Derived.Test.YtaaijgalminafaaFx
import Derived.Test.YtaaijgalminafaaState
/-
  A region that draws its order: calls, new blocks, and stores into the blocks that it makes, in whatever order they come.
-/
namespace Go.Proofs.Ytaaijgalminafaa.Mem
open Go Go.RowKit State

/-- A store of a whole value into a block, at a place. -/
theorem run_storeAt_row {P : Program} {w : World} {t : TypeId} {i : TypeInfo} (hi : P.info? t = some i) {g o : Nat} {v : Value} {cur : Array Value} {te : TypeId} (hg : w.heap[g]? = some (.cells cur te (0, 0)))
    (hsz : v.cells.size = P.cellsOf t) (hl : o + v.cells.size ≤ cur.size) (h1 : ∀ u ∈ v.cells.toList, u.oneCell' = true) :
    (Instr.storeAt t (.pointer (some ⟨g, o, none⟩)) v).run P w = .ok () (w.setRow g (cur.toList.take o ++ v.cells.toList ++ cur.toList.drop (o + v.cells.size)).toArray) := by
  have h := run_storeCells_at (P := P) g o te v.cells.toList 0 cur w hg (by simpa using hl) h1
  simp only [Nat.add_zero, Array.length_toList] at h
  simp only [Instr.storeAt, Instr.sureAddr, storeVar, Sem.run_bind, Sem.run_pure, run_sizeOf w hi, Result.andThen_ok, hsz, ne_eq, not_true_eq_false, if_false]
  rw [← hsz]
  exact h
theorem run_storeAt_whole {P : Program} {w : World} {t : TypeId} {i : TypeInfo} (hi : P.info? t = some i) {g : Nat} {v : Value} {cur : Array Value} {te : TypeId} (hg : w.heap[g]? = some (.cells cur te (0, 0)))
    (hsz : v.cells.size = P.cellsOf t) (hl : v.cells.size = cur.size) (h1 : ∀ u ∈ v.cells.toList, u.oneCell' = true) :
    (Instr.storeAt t (.pointer (some ⟨g, 0, none⟩)) v).run P w = .ok () (w.setRow g v.cells) := by
  rw [run_storeAt_row hi hg hsz (by omega) h1]
  have : cur.toList.drop (0 + v.cells.size) = [] := List.drop_eq_nil_of_le (by simp; omega)
  rw [this]; simp

theorem run_op_store {P : Program} {w w' : World} {o : Oper} {a : Act} {t : TypeId} {x y : Operand} (ho : o.op = .store t x y) (h : (Instr.storeAt t (a.eval x) (a.eval y)).run P w = .ok () w') : (execOp a.eval o).run P w = .ok .skip w' := by
  unfold execOp
  simp [ho, h]
/-- A fact about an answer, with the blocks on which it leans. -/
structure Sup where
  p : Value → (Nat → Prop) → World → Prop
  keep : ∀ v S w w', p v S w → (∀ k, S k → w'.heap[k]? = w.heap[k]?) → w.heap.size ≤ w'.heap.size → p v S w'
/-- What is stored: these cells, or the cells of an answer. -/
inductive Cont
  | lit (cs : Array Value)
  | ans (k : Nat)
inductive Kind
  | none
  | sup (φ : Sup)
  | box (n : Nat) (t : TypeId)
  | store (j : Nat) (c : Cont)
def Cont.is (c : Cont) (F : Nat → Option Value) (cs : Array Value) : Prop :=
  match c with
  | .lit x => cs = x
  | .ans k => ∃ u, F k = some u ∧ cs = u.cells
def kindOf : List (Nat × Kind) → Nat → Kind
  | [], _ => .none
  | (j, κ) :: r, i => if i = j then κ else kindOf r i
def Kind.acts : Kind → Bool
  | .none => false
  | _ => true
def edge (md : Region.Mode) (ops : Array Oper) (i j : Nat) : Bool := (ops[i]?.map fun o => o.after.any fun e => Region.binds md e && e.on == j).getD false
def memB (md : Region.Mode) (ops : Array Oper) (L : List (Nat × Kind)) : Bool := L.all fun x => match x.2 with
  | .store j c => edge md ops x.1 j && (match c with
    | .ans k => edge md ops x.1 k
    | .lit _ => true)
  | _ => true

structure Mem (kind : Nat → Kind) (W : World) (F : Nat → Option Value) (w : World) : Prop where
  b : Below W.heap.size W w
  sup : ∀ i φ, kind i = .sup φ → ∀ v, F i = some v → ∃ S : Nat → Prop, φ.p v S w ∧ (∀ k, S k → k < w.heap.size) ∧ ∀ j n t g, kind j = .box n t → F j = some (.pointer (some ⟨g, 0, none⟩)) → ¬ S g
  box : ∀ i n t, kind i = .box n t → ∀ v, F i = some v → ∃ g cs, v = .pointer (some ⟨g, 0, none⟩) ∧ W.heap.size ≤ g ∧ w.heap[g]? = some (.cells cs t (0, 0)) ∧ cs.size = n
  ne : ∀ i j n m t s v, kind i = .box n t → kind j = .box m s → i ≠ j → F i = some v → F j ≠ some v
  store : ∀ i j n t c, kind i = .store j c → kind j = .box n t → ∀ u, F i = some u → ∀ g, F j = some (.pointer (some ⟨g, 0, none⟩)) → ∀ cs, c.is F cs → w.heap[g]? = some (.cells cs t (0, 0))
section
variable {kind : Nat → Kind} {W w w' : World} {F : Nat → Option Value} {k : Nat}
theorem upd_same (v : Value) : upd F k v k = some v := by unfold upd; rw [if_pos rfl]
theorem Cont.is_upd {c : Cont} {cs : Array Value} {v : Value} (h0 : F k = none) (h : c.is F cs) : c.is (upd F k v) cs := by
  cases c with
  | lit x => exact h
  | ans m =>
    obtain ⟨u, hu, hc⟩ := h
    exact ⟨u, by rw [upd_other (fun e => by subst e; rw [h0] at hu; cases hu)]; exact hu, hc⟩
theorem Cont.is_down {c : Cont} {cs : Array Value} {v : Value} (hc : ∀ m, c = .ans m → m ≠ k) (h : c.is (upd F k v) cs) : c.is F cs := by
  cases c with
  | lit x => exact h
  | ans m =>
    obtain ⟨u, hu, hcs⟩ := h
    exact ⟨u, by rwa [upd_other (hc m rfl)] at hu, hcs⟩
theorem Mem.down {v : Value} (h0 : F k = none) (h : Mem kind W (upd F k v) w) : Mem kind W F w := by
  have up : ∀ i u, F i = some u → upd F k v i = some u := fun i u hu => by rw [upd_other (fun e => by subst e; rw [h0] at hu; cases hu)]; exact hu
  refine ⟨h.b, fun i φ hi u hu => ?_, fun i n t hi u hu => h.box i n t hi u (up i u hu), fun i j n m t s u hi hj hij hu hu' => h.ne i j n m t s u hi hj hij (up i u hu) (up j u hu'), fun i j n t c hi hj u hu g hg cs hcs => h.store i j n t c hi hj u (up i u hu) g (up j _ hg) cs (Cont.is_upd h0 hcs)⟩
  obtain ⟨S, h1, h2, h3⟩ := h.sup i φ hi u (up i u hu)
  exact ⟨S, h1, h2, fun j n t g hj hg => h3 j n t g hj (up j _ hg)⟩
theorem Mem.boxlt (h : Mem kind W F w) {i n : Nat} {t : TypeId} {g : Nat} (hi : kind i = .box n t) (hg : F i = some (.pointer (some ⟨g, 0, none⟩))) : g < w.heap.size ∧ W.heap.size ≤ g := by
  obtain ⟨g', cs, e, hB, hh, _⟩ := h.box i n t hi _ hg
  injection e with e; injection e with e; injection e with e
  subst e
  exact ⟨(Array.getElem?_eq_some_iff.1 hh).1, hB⟩
theorem Mem.alloc (h : Mem kind W F w) {n : Nat} {t : TypeId} {cs : Array Value} (hk : kind k = .box n t) (h0 : F k = none) (hst : ∀ i j c, kind i = .store j c → (j = k ∨ c = .ans k) → F i = none) (hcs : cs.size = n) :
    Mem kind W (upd F k (.pointer (some ⟨w.heap.size, 0, none⟩))) (w.alloc (.cells cs t)) := by
  have old : ∀ g, g < w.heap.size → (w.alloc (.cells cs t)).heap[g]? = w.heap[g]? := fun g hg => Below.heap_alloc _ _ _ hg
  have new := heap_alloc_new w (.cells cs t)
  have val : ∀ {i v}, upd F k (.pointer (some ⟨w.heap.size, 0, none⟩)) i = some v → (i = k ∧ v = .pointer (some ⟨w.heap.size, 0, none⟩)) ∨ (i ≠ k ∧ F i = some v) := fun {i v} hv => by
    by_cases e : i = k
    · subst e; rw [upd_same] at hv; injection hv with hv; exact .inl ⟨rfl, hv.symm⟩
    · rw [upd_other e] at hv; exact .inr ⟨e, hv⟩
  refine ⟨h.b.alloc h.b.size _, fun i φ hi v hv => ?_, fun i m s hi v hv => ?_, fun i j n' m t' s v hi hj hij hv hv' => ?_, fun i j n' t' c hi hj u hu g hg cs' hcs' => ?_⟩
  · rcases val hv with ⟨rfl, rfl⟩ | ⟨_, hv⟩
    · rw [hi] at hk; cases hk
    · obtain ⟨S, h1, h2, h3⟩ := h.sup i φ hi v hv
      refine ⟨S, φ.keep v S _ _ h1 (fun g hg => old g (h2 g hg)) (by rw [World.size_alloc]; omega), fun g hg => by rw [World.size_alloc]; have := h2 g hg; omega, fun j m s g hj hg hS => ?_⟩
      rcases val hg with ⟨_, e⟩ | ⟨_, hg⟩
      · injection e with e; injection e with e; injection e with e
        have := h2 g hS; omega
      · exact h3 j m s g hj hg hS
  · rcases val hv with ⟨rfl, rfl⟩ | ⟨_, hv⟩
    · rw [hi] at hk; injection hk with e1 e2; subst e1; subst e2
      exact ⟨_, cs, rfl, h.b.size, new, hcs⟩
    · obtain ⟨g, cs', rfl, hB, hh, hz⟩ := h.box i m s hi v hv
      exact ⟨g, cs', rfl, hB, by rw [old g (Array.getElem?_eq_some_iff.1 hh).1]; exact hh, hz⟩
  · rcases val hv with ⟨e1, e2⟩ | ⟨_, h1⟩ <;> rcases val hv' with ⟨e3, e4⟩ | ⟨_, h2⟩
    · exact hij (e1.trans e3.symm)
    · rw [e2] at h2; have := (h.boxlt hj h2).1; omega
    · rw [e4] at h1; have := (h.boxlt hi h1).1; omega
    · exact h.ne i j n' m t' s v hi hj hij h1 h2
  · have hik : i ≠ k := fun e => by subst e; rw [hi] at hk; cases hk
    have hu' : F i = some u := by rwa [upd_other hik] at hu
    have hjk : j ≠ k := fun e => by rw [hst i j c hi (.inl e)] at hu'; cases hu'
    have hg' : F j = some (.pointer (some ⟨g, 0, none⟩)) := by rwa [upd_other hjk] at hg
    rw [old g (h.boxlt hj hg').1]
    exact h.store i j n' t' c hi hj u hu' g hg' cs' (Cont.is_down (fun m hm e => by rw [hst i j c hi (.inr (by rw [hm, e]))] at hu'; cases hu') hcs')
/-- An answer that leans on blocks that are new, or older than the region. -/
theorem Mem.call (h : Mem kind W F w) {φ : Sup} {v : Value} {S : Nat → Prop} (hk : kind k = .sup φ) (hst : ∀ i j c, kind i = .store j c → (j = k ∨ c = .ans k) → F i = none)
    (hb : Below w.heap.size w w') (hφ : φ.p v S w') (hS : ∀ g, S g → g < w'.heap.size ∧ (g < W.heap.size ∨ w.heap.size ≤ g)) : Mem kind W (upd F k v) w' := by
  have old : ∀ g, g < w.heap.size → w'.heap[g]? = w.heap[g]? := fun g hg => hb.block g hg
  have val : ∀ {i u}, upd F k v i = some u → (i = k ∧ u = v) ∨ (i ≠ k ∧ F i = some u) := fun {i u} hu => by
    by_cases e : i = k
    · subst e; rw [upd_same] at hu; injection hu with hu; exact .inl ⟨rfl, hu.symm⟩
    · rw [upd_other e] at hu; exact .inr ⟨e, hu⟩
  have box : ∀ {j n t g}, kind j = .box n t → upd F k v j = some (.pointer (some ⟨g, 0, none⟩)) → F j = some (.pointer (some ⟨g, 0, none⟩)) := fun {j n t g} hj hg => by
    rwa [upd_other (fun e => by subst e; rw [hj] at hk; cases hk)] at hg
  refine ⟨h.b.trans (hb.mono h.b.size), fun i ψ hi u hu => ?_, fun i m s hi u hu => ?_, fun i j n' m t' s u hi hj hij hu hu' => ?_, fun i j n' t' c hi hj u hu g hg cs' hcs' => ?_⟩
  · rcases val hu with ⟨rfl, rfl⟩ | ⟨_, hu⟩
    · rw [hi] at hk; injection hk with hk; subst hk
      refine ⟨S, hφ, fun g hg => (hS g hg).1, fun j n t g hj hg hSg => ?_⟩
      have := h.boxlt hj (box hj hg)
      rcases (hS g hSg).2 with h1 | h1 <;> omega
    · obtain ⟨S', h1, h2, h3⟩ := h.sup i ψ hi u hu
      exact ⟨S', ψ.keep u S' _ _ h1 (fun g hg => old g (h2 g hg)) hb.size, fun g hg => Nat.lt_of_lt_of_le (h2 g hg) hb.size, fun j m s g hj hg hSg => h3 j m s g hj (box hj hg) hSg⟩
  · have hu' : F i = some u := by rwa [upd_other (fun e => by subst e; rw [hi] at hk; cases hk)] at hu
    obtain ⟨g, cs', rfl, hB, hh, hz⟩ := h.box i m s hi u hu'
    exact ⟨g, cs', rfl, hB, by rw [old g (Array.getElem?_eq_some_iff.1 hh).1]; exact hh, hz⟩
  · rw [upd_other (fun e => by subst e; rw [hi] at hk; cases hk)] at hu
    rw [upd_other (fun e => by subst e; rw [hj] at hk; cases hk)] at hu'
    exact h.ne i j n' m t' s u hi hj hij hu hu'
  · have hik : i ≠ k := fun e => by subst e; rw [hi] at hk; cases hk
    have hu' : F i = some u := by rwa [upd_other hik] at hu
    have hg' := box hj hg
    rw [old g (h.boxlt hj hg').1]
    exact h.store i j n' t' c hi hj u hu' g hg' cs' (Cont.is_down (fun m hm e => by rw [hst i j c hi (.inr (by rw [hm, e]))] at hu'; cases hu') hcs')
theorem Cont.is_fun {c : Cont} {x y : Array Value} (hx : c.is F x) (hy : c.is F y) : x = y := by
  cases c with
  | lit z => exact hx.trans hy.symm
  | ans m =>
    obtain ⟨u, hu, rfl⟩ := hx
    obtain ⟨v, hv, rfl⟩ := hy
    rw [hu] at hv; injection hv with hv; rw [hv]
/-- A store into a block that the region has made. -/
theorem Mem.put (h : Mem kind W F w) {j n g : Nat} {t : TypeId} {c : Cont} {cs : Array Value} {u : Value} (hk : kind k = .store j c) (hj : kind j = .box n t) (hg : F j = some (.pointer (some ⟨g, 0, none⟩)))
    (hst : ∀ i j c, kind i = .store j c → (j = k ∨ c = .ans k) → F i = none) (hone : ∀ i c', kind i = .store j c' → i = k) (hck : c ≠ .ans k) (hc : c.is F cs) (hcs : cs.size = n) : Mem kind W (upd F k u) (w.setRow g cs) := by
  obtain ⟨hglt, hgB⟩ := h.boxlt hj hg
  obtain ⟨g', old, e, _, hh, hz⟩ := h.box j n t hj _ hg
  injection e with e; injection e with e; injection e with e
  subst e
  have new := setRow_heap w g old cs t (0, 0) hh
  have oth : ∀ x, x ≠ g → (w.setRow g cs).heap[x]? = w.heap[x]? := fun x hx => setRow_other w g x cs hx
  have nk : ∀ {i n t}, kind i = .box n t → i ≠ k := fun hi e => by subst e; rw [hi] at hk; cases hk
  have bx : ∀ {i n t v}, kind i = .box n t → upd F k u i = some v → F i = some v := fun hi hv => by rwa [upd_other (nk hi)] at hv
  refine ⟨below_setRow h.b hgB cs, fun i φ hi v hv => ?_, fun i m s hi v hv => ?_, fun i i' m m' s s' v hi hi' hne hv hv' => h.ne i i' m m' s s' v hi hi' hne (bx hi hv) (bx hi' hv'), fun i i' m s c' hi hi' v hv x hx cs' hcs' => ?_⟩
  · have hv' : F i = some v := by rwa [upd_other (fun e => by subst e; rw [hi] at hk; cases hk)] at hv
    obtain ⟨S, h1, h2, h3⟩ := h.sup i φ hi v hv'
    exact ⟨S, φ.keep v S _ _ h1 (fun x hx => oth x (fun e => by subst e; exact h3 j n t x hj hg hx)) (by rw [setRow_size]; omega), fun x hx => by rw [setRow_size]; exact h2 x hx, fun j' m s x hj' hx => h3 j' m s x hj' (bx hj' hx)⟩
  · obtain ⟨x, cs', rfl, hB, hx, hz'⟩ := h.box i m s hi v (bx hi hv)
    by_cases e : x = g
    · subst e
      have hij : i = j := Classical.byContradiction fun hne => h.ne i j m n s t _ hi hj hne (bx hi hv) hg
      subst hij
      rw [hi] at hj; injection hj with e1 e2; subst e1; subst e2
      exact ⟨x, cs, rfl, hB, new, hcs⟩
    · exact ⟨x, cs', rfl, hB, by rw [oth x e]; exact hx, hz'⟩
  · have hx' := bx hi' hx
    by_cases hik : i = k
    · subst hik
      rw [hi] at hk; injection hk with e1 e2; subst e1; subst e2
      rw [hg] at hx'
      injection hx' with e; injection e with e; injection e with e; injection e with e
      subst e
      rw [hj] at hi'; injection hi' with e1 e2; subst e1; subst e2
      have : cs' = cs := Cont.is_fun (Cont.is_down (fun m hm e => hck (by rw [hm, e])) hcs') hc
      rw [this]; exact new
    · have hv' : F i = some v := by rwa [upd_other hik] at hv
      have hij : i' ≠ j := fun e => by subst e; exact hik (hone i c' hi)
      have hxg : x ≠ g := fun e => by subst e; exact h.ne i' j m n s t _ hi' hj hij hx' hg
      rw [oth x hxg]
      exact h.store i i' m s c' hi hi' v hv' x hx' cs' (Cont.is_down (fun m hm e => by rw [hst i i' c' hi (.inr (by rw [hm, e]))] at hv'; cases hv') hcs')
end

/-- No two stores go to one block; what is stored has been answered elsewhere. -/
def oneB (L : List (Nat × Kind)) : Bool := L.all fun x => match x.2 with
  | .store j c => (match c with
    | .ans k => k != x.1
    | .lit _ => true) && L.all fun y => match y.2 with
    | .store j' _ => j' != j || y.1 == x.1
    | _ => true
  | _ => true
theorem kind_mem {L : List (Nat × Kind)} {i : Nat} {κ : Kind} (h : kindOf L i = κ) (hn : κ ≠ .none) : (i, κ) ∈ L := by
  induction L with
  | nil => exact absurd h.symm hn
  | cons x r ih =>
    obtain ⟨j, κ'⟩ := x
    unfold kindOf at h
    split at h
    · rename_i e; subst e; subst h; exact List.mem_cons_self ..
    · exact List.mem_cons_of_mem _ (ih h)
section
variable {P : Program} {md : Region.Mode} {ops : Array Oper} {L : List (Nat × Kind)} {W w w' : World} {F : Nat → Option Value} {k : Nat} {o : Oper} {a : Act}
theorem edge_spec {i j : Nat} (h : edge md ops i j = true) : ∃ o, ops[i]? = some o ∧ ∃ e ∈ o.after, Region.binds md e = true ∧ e.on = j := by
  unfold edge at h
  cases ho : ops[i]? with
  | none => simp [ho] at h
  | some o =>
    simp only [ho, Option.map_some, Option.getD_some, Array.any_eq_true, Bool.and_eq_true, beq_iff_eq] at h
    obtain ⟨x, hx, hb, hj⟩ := h
    exact ⟨o, rfl, _, Array.getElem_mem hx, hb, hj⟩
theorem mem_stores (hM : memB md ops L = true) (ha : After ops md k F) : ∀ i j c, kindOf L i = .store j c → (j = k ∨ c = .ans k) → F i = none := by
  intro i j c hi hjk
  have hm := kind_mem hi (by simp)
  have := List.all_eq_true.1 hM _ hm
  simp only [Bool.and_eq_true] at this
  rcases hjk with rfl | rfl
  · obtain ⟨o, ho, e, he, hb, hon⟩ := edge_spec this.1
    exact ha i o ho ⟨e, he, hb, hon⟩
  · obtain ⟨o, ho, e, he, hb, hon⟩ := edge_spec this.2
    exact ha i o ho ⟨e, he, hb, hon⟩
theorem one_stores (hO : oneB L = true) {j : Nat} {c : Cont} (hk : kindOf L k = .store j c) : (∀ i c', kindOf L i = .store j c' → i = k) ∧ c ≠ .ans k := by
  have hm := kind_mem hk (by simp)
  have h1 := List.all_eq_true.1 hO _ hm
  simp only [Bool.and_eq_true] at h1
  refine ⟨fun i c' hi => ?_, fun e => ?_⟩
  · have hm' := kind_mem hi (by simp)
    have := List.all_eq_true.1 h1.2 _ hm'
    simpa using this
  · subst e; simpa using h1.1
/-- An alloc. -/
theorem acts_box (hM : Hid (memB md ops L = true)) {n : Nat} {t : TypeId} {cs : Array Value} (hk : kindOf L k = .box n t) (hC : Mem (kindOf L) W F w) (h0 : F k = none) (ha : After ops md k F) (hcs : cs.size = n)
    (h : (execOp a.eval o).run P w = .ok (.value (.pointer (some ⟨w.heap.size, 0, none⟩))) (w.alloc (.cells cs t))) : acts P (Mem (kindOf L) W) F k o a w :=
  acts_val h (hC.alloc hk h0 (mem_stores hM.out ha) hcs)
/-- A call. -/
theorem acts_sup {φ : Sup} {f : FuncId} {args : Array Value} {post : Ending → World → Prop} (hM : Hid (memB md ops L = true)) (hk : kindOf L k = .sup φ) (hC : Mem (kindOf L) W F w) (ha : After ops md k F) (hc : Calls P f args w post)
    (h : (execOp a.eval o).run P w = .ok (.enter f args) w)
    (hp : ∀ e w', post e w' → ∃ u, ∃ S : Nat → Prop, e = .returned u ∧ Below w.heap.size w w' ∧ φ.p u S w' ∧ ∀ g, S g → g < w'.heap.size ∧ (g < W.heap.size ∨ w.heap.size ≤ g)) : acts P (Mem (kindOf L) W) F k o a w :=
  acts_call hc h fun e w' q => by
    obtain ⟨u, S, he, hb, hφ, hS⟩ := hp e w' q
    exact ⟨u, he, hC.call hk (mem_stores hM.out ha) hb hφ hS⟩
/-- Another operation that makes memory. -/
theorem acts_new {φ : Sup} {S : Nat → Prop} {u : Value} (hM : Hid (memB md ops L = true)) (hk : kindOf L k = .sup φ) (hC : Mem (kindOf L) W F w) (ha : After ops md k F) (h : (execOp a.eval o).run P w = .ok (.value u) w') (hb : Below w.heap.size w w')
    (hφ : φ.p u S w') (hS : ∀ g, S g → g < w'.heap.size ∧ (g < W.heap.size ∨ w.heap.size ≤ g)) : acts P (Mem (kindOf L) W) F k o a w :=
  acts_val h (hC.call hk (mem_stores hM.out ha) hb hφ hS)
/-- A store. -/
theorem acts_store (hM : Hid (memB md ops L = true)) (hO : Hid (oneB L = true)) {j n g : Nat} {t : TypeId} {c : Cont} {cs : Array Value} (hk : kindOf L k = .store j c) (hj : kindOf L j = .box n t) (hC : Mem (kindOf L) W F w) (ha : After ops md k F)
    (hg : F j = some (.pointer (some ⟨g, 0, none⟩))) (hc : c.is F cs) (hcs : cs.size = n)
    (h : ∀ cur, w.heap[g]? = some (.cells cur t (0, 0)) → cur.size = n → (execOp a.eval o).run P w = .ok .skip (w.setRow g cs)) : acts P (Mem (kindOf L) W) F k o a w := by
  obtain ⟨g', cur, e, _, hh, hz⟩ := hC.box j n t hj _ hg
  injection e with e; injection e with e; injection e with e
  subst e
  obtain ⟨h1, h2⟩ := one_stores hO.out hk
  exact acts_skip (h cur hh hz) (hC.put hk hj hg (mem_stores hM.out ha) h1 h2 hc hcs)
theorem chained_soft (n : Nat) (eff : Nat → Bool) : chained ops md eff (fun _ => true) n = true := by
  unfold chained
  rw [List.all_eq_true]
  intro i _
  rw [List.all_eq_true]
  intro j _
  simp
end
section
variable {P : Program} {id : Nat} {Q : Exit → Act → World → Prop} {a : Act} {w : World} {l : List Oper}
theorem wp_region_mem (L : List (Nat × Kind)) (hm : P.follows .mixedOrders = true) (hB : Region.lexB .any l.toArray = true) (hM : memB .any l.toArray L = true) (hO : oneB L = true)
    (h : Hid (memB .any l.toArray L = true) → Hid (oneB L = true) → wpM P l.toArray .any (Mem (kindOf L) w) (fun k => (kindOf L k).acts) (fun a w => Q .normal a w) l 0 (fun _ => none) a) : (Code.region id l.toArray true).wp P Q a w :=
  wp_region_state (Mem (kindOf L) w) (fun k => (kindOf L k).acts) (fun _ => true) (fun _ _ _ _ h0 _ ⟨w', hw⟩ => ⟨w', hw.down h0⟩) hm hB (chained_soft _ _)
    ⟨(Below.refl w.heap.size w).drew, fun _ _ _ _ hv => by (cases hv), fun _ _ _ _ _ hv => by (cases hv), fun _ _ _ _ _ _ _ _ _ _ hv => by (cases hv), fun _ _ _ _ _ _ _ _ hu => by (cases hu)⟩ (h (Lib.hid hM) (Lib.hid hO))
theorem wp_region_mem_tail (m : Nat) (L : List (Nat × Kind)) (hm : P.follows .mixedOrders = true) (hml : decide (m ≤ l.length) = true) (hT : Tail.tailB .any l.toArray m = true) (hB : Region.lexB .any (l.take m).toArray = true) (hM : memB .any (l.take m).toArray L = true) (hO : oneB L = true)
    (h : Hid (memB .any (l.take m).toArray L = true) → Hid (oneB L = true) → wpM P (l.take m).toArray .any (Mem (kindOf L) w) (fun k => (kindOf L k).acts) (fun a w => wpList P l.toArray Q (l.drop m) a w) (l.take m) 0 (fun _ => none) a) : (Code.region id l.toArray true).wp P Q a w :=
  wp_region_state_tail m (Mem (kindOf L) w) (fun k => (kindOf L k).acts) (fun _ => true) (fun _ _ _ _ h0 _ ⟨w', hw⟩ => ⟨w', hw.down h0⟩) hm hml hT hB (chained_soft _ _)
    ⟨(Below.refl w.heap.size w).drew, fun _ _ _ _ hv => by (cases hv), fun _ _ _ _ _ hv => by (cases hv), fun _ _ _ _ _ _ _ _ _ _ hv => by (cases hv), fun _ _ _ _ _ _ _ _ hu => by (cases hu)⟩ (h (Lib.hid hM) (Lib.hid hO))
end
end Go.Proofs.Ytaaijgalminafaa.Mem
