import Derived.Test.YtaaijgalminafaaRp
/-
  Layer 24: what FilterPasses' rounds need: an empty transaction is like the empty one, what passes is small, one transaction's answers as facts.
-/
namespace Go.Proofs.Ytaaijgalminafaa
open Go.RowKit State Mem
set_option maxRecDepth 100000 in
theorem equalNil_of (A : Option Addr) (c : Nat) (w : World) : Calls Try.prog 34 #[.slice A 0 c, .slice none 0 0, .func (.func 35) #[] #[]] w (RetB true w) := by
  go_enter Try.func34, Try.ntmps34
  go_wp2
  go_loopw [17] (fun s17 wr => s17 = .int .i64 0 ∧ wr = w) (fun _ _ => 0)
  case atStart => exact ⟨rfl, rfl⟩
  case round =>
    obtain ⟨rfl, rfl⟩ := hrel
    go_wp2
    go_ret
    exact ⟨rfl, Below.refl _ _⟩
set_option maxRecDepth 100000 in
theorem alike_of (A : Option Addr) (c : Nat) (w : World) : Calls Try.prog 20 #[.agg #[.int .u32 0, .int .u64 0, .slice A 0 c], .agg #[.int .u32 0, .int .u64 0, .slice none 0 0]] w (RetB true w) := by
  go_enter Try.func20, Try.ntmps20
  go_wp2_with fail
  refine (equalNil_of A c _).mono ?_
  rintro e w2 ⟨rfl, hb2⟩
  have HB := Lib.hid (((Below.refl _ w).alloc (Nat.le_refl _) (.cells #[.int .u32 0, .int .u64 0, .slice A 0 c] 46)).alloc (by simp) (.cells #[.int .u32 0, .int .u64 0, .slice none 0 0] 46))
  have HB2 := Lib.hid (HB.out.trans (hb2.mono HB.out.size))
  clear hb2
  go_wp2
  go_ret
  exact ⟨rfl, HB2.out⟩
theorem Ev.Sm.zero : Ev.zero.Sm := ⟨Nat.zero_le _, Nat.zero_le _, Nat.zero_le _⟩
theorem evR_sm (f : Fl) {e : Ev} (h : e.Ok) : (evR f e).1.Sm := by
  by_cases hb : (evR f e).2 = true
  · exact (evP_ok (f := f) (e := e) (e' := (evR f e).1) (by unfold evP; rw [if_pos hb]) h).sm
  · unfold evR at hb ⊢
    split
    · exact Ev.Sm.zero
    · rename_i h1
      rw [if_neg h1] at hb
      split
      · rename_i h2
        rw [if_pos h2] at hb
        split
        · exact Ev.Sm.zero
        · rename_i h3
          rw [if_neg h3] at hb
          exact absurd rfl hb
      · rename_i h2
        rw [if_neg h2] at hb
        split
        · rename_i h3
          rw [if_pos h3] at hb
          exact absurd rfl hb
        · exact Ev.Sm.zero
theorem txR_ok (f : Fl) {t : Tx} (h : t.Ok) : TxsOk [(txR f t).1] := by
  refine ⟨by simp, fun t' ht => ?_⟩
  rw [List.mem_singleton] at ht
  subst ht
  by_cases hb : (txR f t).2 = true
  · exact txP_ok (f := f) (t := t) (by unfold txP; rw [if_pos hb]) h
  · unfold txR at hb ⊢
    split
    · exact ⟨Nat.zero_le _, fun _ h => by cases h⟩
    · rename_i h1
      rw [if_neg h1] at hb
      exact absurd rfl hb
theorem txR_none {f : Fl} {t : Tx} (h : (txR f t).2 = false) : (txR f t).1 = Tx.zero ∧ [t].filterMap (txP f) = [] := by
  unfold txR at h ⊢
  split at h
  · rename_i h1
    rw [if_pos h1]
    exact ⟨rfl, by rw [List.filterMap_cons, txP_eq, if_pos h1]; rfl⟩
  · cases h
theorem txR_some {f : Fl} {t : Tx} (h : (txR f t).2 = true) : [t].filterMap (txP f) = [(txR f t).1] := by
  rw [List.filterMap_cons]
  unfold txP
  rw [if_pos h]
  rfl
/-- A pointer to such a transaction. -/
def Fact.ptr (K : Kd Ce) (t : Tx) : Fact := ⟨fun v w => ∃ b o y, v = .pointer (some ⟨b, o, none⟩) ∧ Tr.tx y = t ∧ b < w.heap.size ∧ (∀ i u, (Tr.c y)[i]? = some u → w.cell? ⟨b, o + i, none⟩ = some u) ∧ (KT K).at_ w (Lt w.heap.size) y,
  fun _ _ _ ⟨b, o, y, h0, h1, h2, h3, h4⟩ hb => ⟨b, o, y, h0, h1, Nat.lt_of_lt_of_le h2 hb.size, fun i u hu => (hb.cell h2).trans (h3 i u hu), (KT K).up h4 (Same.below hb lt_lt) fun _ h => Nat.lt_of_lt_of_le h hb.size⟩⟩
/-- Such a transaction. -/
def Fact.one (K : Kd Ce) (t : Tx) : Fact := ⟨fun v w => ∃ y, v = (KT K).v y ∧ Tr.tx y = t ∧ (KT K).at_ w (Lt w.heap.size) y,
  fun _ _ _ ⟨y, h0, h1, h4⟩ hb => ⟨y, h0, h1, (KT K).up h4 (Same.below hb lt_lt) fun _ h => Nat.lt_of_lt_of_le h hb.size⟩⟩
/-- A list of one such transaction. -/
theorem TxsAt.single {K : Kd Ce} {w : World} {v : Value} {t : Tx} (h : TxsAt K w v [t]) : ∃ y b o c, v = .slice (some ⟨b, o, none⟩) 1 c ∧ Tr.tx y = t ∧ b < w.heap.size ∧ (∀ i u, (Tr.c y)[i]? = some u → w.cell? ⟨b, o + i, none⟩ = some u) ∧ (KT K).at_ w (Lt w.heap.size) y := by
  obtain ⟨ys, A, c, rfl, h1, h2⟩ := h
  cases ys with
  | nil => cases h1
  | cons y r =>
    cases r with
    | cons z r => cases h1
    | nil =>
      obtain ⟨b, o, e, hb, hc⟩ := h2.get (j := 0) (by simp)
      simp only at e
      subst e
      refine ⟨y, b, o, c, rfl, by simpa using h1, hb, fun i u hu => ?_, h2.el y (by simp)⟩
      have := hc 0 (by simp) i u hu
      rwa [Nat.zero_mul, Nat.add_zero] at this
/-- A slice of one transaction. -/
theorem TxsAt.lit {K : Kd Ce} {w : World} {y : Tr} {g : Nat} {t : TypeId} (hg : w.heap[g]? = some (.cells (Tr.c y).toArray t (0, 0))) (hy : (KT K).at_ w (Lt w.heap.size) y) : TxsAt K w (.slice (some ⟨g, 0, none⟩) 1 1) [Tr.tx y] := by
  refine ⟨[y], some ⟨g, 0, none⟩, 1, rfl, rfl, ⟨⟨by simp [KT, Tr.c], fun _ => ⟨g, 0, rfl, row_lt hg, fun j u hu => ?_⟩⟩, Nat.le_refl _, (by decide : 1 ≤ maxLen), fun a ha => ?_⟩⟩
  · rw [Nat.zero_add, cell_of_row _ _ j _ t (0, 0) hg]
    simpa [KT] using hu
  · rw [List.mem_singleton] at ha
    subst ha
    exact hy
/-- A part of a list of transactions: one of them. -/
theorem RoAt.part {K : Kd Ce} {w : World} {S : Nat → Prop} {l : List Tr} {b o c j : Nat} (h : RoAt (KT K) w S ⟨l, some ⟨b, o, none⟩, c⟩) (hj : j < l.length) : RoAt (KT K) w S ⟨[l[j]], some ⟨b, o + j * 3, none⟩, c - j⟩ := by
  obtain ⟨b', o', e, hb, hc⟩ := h.get hj
  simp only at e
  injection e with e
  injection e with e1 e2
  subst e1 e2
  have hle : l.length ≤ c := h.le
  have hcm : c ≤ maxLen := h.cm
  refine ⟨⟨by simp [KT, Tr.c], fun _ => ⟨b, _, rfl, hb, fun i u hu => ?_⟩⟩, by show 1 ≤ c - j; omega, by show c - j ≤ maxLen; omega, fun a ha => ?_⟩
  · exact hc j hj i u (by simpa [KT] using hu)
  · rw [List.mem_singleton] at ha
    subst ha
    exact h.el _ (List.getElem_mem hj)
theorem cells46 : Try.prog.cellsOf 46 = 3 := by kernel_rfl
theorem cells61 : Try.prog.cellsOf 61 = 8 := by kernel_rfl
theorem Tr.c_inj {x y : Tr} {K : Kd Ce} (h : (KT K).v x = (KT K).v y) : Tr.c x = Tr.c y := by
  have := congrArg (fun v => match v with | .agg cs => cs.toList | _ => []) h
  simpa [Kd.v, KT] using this
def okT (B : Nat) (t : Tx) (b : Bool) : List (Nat × Mem.Kind) := [(5, .sup (supTxB (Lt B) B KP t b)), (6, .sup (supTxB (Lt B) B KP t b)), (7, .sup (supTx (Lt B) B KP t)), (9, .box 3 46), (10, .store 9 (.ans 7))]
def okP (B : Nat) (e : Ev) (b : Bool) : List (Nat × Mem.Kind) := [(9, .sup (supEvB (Lt B) B KP e b)), (10, .sup (supEvB (Lt B) B KP e b)), (11, .sup (supEv (Lt B) B KP e)), (13, .box 8 61), (14, .store 13 (.ans 11))]
def okR (B : Nat) (e : Ev) (b : Bool) : List (Nat × Mem.Kind) := [(9, .sup (supEvB (Lt B) B KR e b)), (10, .sup (supEvB (Lt B) B KR e b)), (11, .sup (supEv (Lt B) B KR e)), (13, .box 8 68), (14, .store 13 (.ans 11))]
def fzF10 (a : List Tx) : Nat → Option Fact
  | 6 => some (.txs KR a)
  | _ => none
def fzF11 (B : Nat) (cs : Array Value) (t : Tx) : Nat → Option Fact
  | 9 => some (.litK B 1 cs 46)
  | 10 => some (.txs KR [t])
  | 11 => some (.ptr KR t)
  | 12 => some (.one KR t)
  | 16 => some (.val (.bool true))
  | 26 => some (.val (.bool true))
  | _ => none
def fzF18 (B : Nat) (e : Ev) : Nat → Option Fact
  | 5 => some (.ev KR (Lt B) B (fun _ h => h) e)
  | 7 => some (.val (.bool true))
  | _ => none
end Go.Proofs.Ytaaijgalminafaa
