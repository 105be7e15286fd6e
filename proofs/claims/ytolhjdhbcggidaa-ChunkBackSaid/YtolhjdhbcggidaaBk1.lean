/-
  Layer 11: what is split is joined as it was, in plain words; appends onto an empty literal and out of a row of one's own.
-/
import Derived.Test.YtolhjdhbcggidaaJn3
import Derived.Test.YtolhjdhbcggidaaFloat
import Derived.Laws.AppendOwnNone
namespace Go.Proofs.Ytolhjdhbcggidaa
open Go.RowKit Mono

section
variable {P : Program} {w : World}
/-- 'append([]T{}, xs...)': what was there stays as it was. -/
theorem run_append_empty (base : Nat) (t ty e : TypeId) (i : TypeInfo) (z : Value) (size bytes : Nat) (ht : P.underlying t = some (.slice e)) (hi : P.info? e = some i) (hz : i.zero = some z)
    (hsize : i.size = size) (hby : i.bytes = bytes) (hzs : z.cells.size = size) (hsz : 0 < size) {g : Nat} (hg : w.heap[g]? = some (.cells #[] e (0, 0))) (hgb : base ≤ g)
    (a : Addr) (m c : Nat) (news : List Value) (hl : news.length = m * size) (hnews : ∀ j u, news[j]? = some u → w.cell? (a.add j) = some u) (h1 : ∀ u ∈ news, u.oneCell' = true)
    (h63 : m ≤ maxLen) (hbytes : m * bytes ≤ 140737488355328) (hbase : base ≤ w.heap.size) :
    ∃ v' w', (Builtin.append_ #[t, t] ty #[.slice (some ⟨g, 0, none⟩) 0 0, .slice (some a) m c]).run P w = .ok v' w' ∧ w'.ownsRow base e size v' m news ∧ Below w.heap.size w w' := by
  have hown : w.ownsRow base e size (.slice (some ⟨g, 0, none⟩) 0 0) 0 [] := ⟨by simp, .inr ⟨g, 0, #[], rfl, hgb, hg, Nat.le_refl _, Nat.zero_le _, by simp, by simp⟩⟩
  obtain ⟨v', w', hr, h2, h3, _⟩ := run_append_own (P := P) w base t ty e i z size bytes ht hi hz hsize hby hzs hsz _ 0 [] hown a m c news hl hnews h1 (by omega) (by rw [Nat.zero_add]; exact hbytes) hbase
  refine ⟨v', w', hr, by simpa using h2, ⟨h3.os, h3.tape, h3.output, h3.size, fun k hk => ?_⟩⟩
  by_cases hkg : k = g
  · subst hkg
    by_cases hm : m = 0
    · subst hm
      have hn : news = [] := List.eq_nil_of_length_eq_zero (by simpa using hl)
      subst hn
      have hq := run_append_room (P := P) w t ty e i ht hi k 0 0 #[] hg a 0 c [] (by simp) (by simp) (by simp) (by simp) (by simp)
      rw [hr] at hq
      injection hq with _ hq
      subst hq
      rw [setRow_heap w k #[] _ e _ hg, hg]
      simp
    · subst hsize
      subst hby
      have hq := run_append_grow (P := P) w t ty e i z ht hi hz ⟨k, 0, none⟩ 0 0 [] (by simp) (by simp) a m c news hl hnews (by omega) (by have := h63; unfold maxLen at this; omega) (growslice_fits (by omega) (by rw [Nat.zero_add]; exact hbytes))
      rw [hr] at hq
      injection hq with _ hq
      subst hq
      exact Below.heap_alloc w.drew _ k hk
  · exact h3.block k hk (fun e => hkg (by simpa [Value.ownBlock] using e))
theorem steps_append_empty {o : Oper} {a : Act} {p : Value → World → Prop} (s x : Operand) (t : TypeId) (ho : o.op = .call { callee := .builtin .append, args := #[s, x], argTypes := #[t, t] })
    (base : Nat) (e : TypeId) (i : TypeInfo) (z : Value) (size bytes : Nat) (ht : P.underlying t = some (.slice e)) (hi : P.info? e = some i) (hz : i.zero = some z)
    (hsize : i.size = size) (hby : i.bytes = bytes) (hzs : z.cells.size = size) (hsz : 0 < size) {g : Nat} (hg : w.heap[g]? = some (.cells #[] e (0, 0))) (hgb : base ≤ g) (hs : a.eval s = .slice (some ⟨g, 0, none⟩) 0 0)
    (ad : Addr) (m c : Nat) (news : List Value) (hx : a.eval x = .slice (some ad) m c) (hl : news.length = m * size) (hnews : ∀ j u, news[j]? = some u → w.cell? (ad.add j) = some u) (h1 : ∀ u ∈ news, u.oneCell' = true)
    (h63 : m ≤ maxLen) (hbytes : m * bytes ≤ 140737488355328) (hbase : base ≤ w.heap.size) (hp : ∀ v' w', w'.ownsRow base e size v' m news → p v' w') : steps P Ext o a w p := by
  obtain ⟨v', w', hr, h2, h3⟩ := run_append_empty (w := w) base t o.type e i z size bytes ht hi hz hsize hby hzs hsz hg hgb ad m c news hl hnews h1 h63 hbytes hbase
  refine steps_val (w' := w') (v := v') ?_ h3 (hp _ _ h2)
  unfold execOp
  simp only [ho, resolve, invoke, builtin, Sem.run_bind, Sem.run_pure, Result.andThen_ok, List.map_toArray, List.map_cons, List.map_nil, hs, hx, hr]
/-- 'append(out, xs...)', xs a row of the call's own, nil or not. -/
theorem wpList_append_own_row {ops : Array Oper} {rest : List Oper} {o : Oper} {a : Act} {Q : Exit → Act → World → Prop} (hgd : o.guard = none) (s x : Operand) (t : TypeId)
    (ho : o.op = .call { callee := .builtin .append, args := #[s, x], argTypes := #[t, t] })
    (base : Nat) (e : TypeId) (i : TypeInfo) (z : Value) (size bytes : Nat) (ht : P.underlying t = some (.slice e)) (hi : P.info? e = some i) (hz : i.zero = some z)
    (hsize : i.size = size) (hby : i.bytes = bytes) (hzs : z.cells.size = size) (hsz : 0 < size)
    (v : Value) (n : Nat) (xs : List Value) (hs : a.eval s = v) (hown : w.ownsRow base e size v n xs)
    (base' : Nat) (vx : Value) (m : Nat) (news : List Value) (hx : a.eval x = vx) (hsrc : w.ownsRow base' e size vx m news) (h1 : ∀ u ∈ news, u.oneCell' = true)
    (h63 : n + m ≤ maxLen) (hbytes : (n + m) * bytes ≤ 140737488355328) (hbase : base ≤ w.heap.size)
    (h : ∀ v' w', w'.ownsRow base e size v' (n + m) (xs ++ news) → w.grownBy w' v.ownBlock → wpList P ops Q rest (a.put o.dst v') w') : wpList P ops Q (o :: rest) a w := by
  rcases hsrc.2 with ⟨rfl, rfl⟩ | ⟨g, cap, cur, rfl, _⟩
  · have hn : news = [] := List.eq_nil_of_length_eq_zero (by simpa using hsrc.1)
    subst hn
    exact wpList_append_own_none hgd s x t ho base e i size ht hi v n xs hs hown hx (h v w (by simpa using hown) ⟨rfl, rfl, rfl, Nat.le_refl _, fun _ _ _ => rfl⟩)
  · exact wpList_append_own w hgd s x t ho base e i z size bytes ht hi hz hsize hby hzs hsz v n xs hs hown ⟨g, 0, none⟩ m cap news hx hsrc.1 (fun j u hu => hsrc.cells (g := g) rfl j u hu) h1 h63 hbytes hbase (fun v' w' h2 h3 _ => h v' w' h2 h3)
end

theorem Mono.wpM_norm {P : Program} {ops : Array Oper} {md : Region.Mode} {C0 : World → Prop} {E : World → World → Prop} {eff : Nat → Bool} {R : Nat → Value → World → Prop} {Q : Act → World → Prop} {l : List Oper} {k : Nat} {F : Mono.Facts} {a : Act}
    (h : ∀ K : Act → Prop, (∀ a, Mono.wpM P ops md C0 E eff R Q l k F a → K a) → K a) : Mono.wpM P ops md C0 E eff R Q l k F a := h _ (fun _ h => h)
theorem szs_app (a b : List ByteArray) : szs (a ++ b) = szs a ++ szs b := by simp [szs]
theorem lens1_pcs (s : ByteArray) : lens1 (s.size : Int) = szs (pcs s) := by
  unfold lens1 lensTo pcs pcsTo szs
  rw [Int.toNat_natCast, List.map_map]
  refine List.map_congr_left fun j _ => ?_
  simp only [Function.comp, pc_size]
  rename_i hj
  rw [List.mem_range] at hj
  unfold nPc at hj
  omega
theorem lensL_split (l : List ByteArray) : lensL (szs l) = szs (splitL l) := by
  induction l with
  | nil => rfl
  | cons a l ih =>
    have h1 : lensL (szs (a :: l)) = lens1 (a.size : Int) ++ lensL (szs l) := by simp [lensL, szs]
    have h2 : splitL (a :: l) = pcs a ++ splitL l := by simp [splitL]
    rw [h1, h2, szs_app, ih, lens1_pcs]
theorem pcs_len (s : ByteArray) : (pcs s).length = nPc s.size := pcsTo_len _ _
theorem grp_split (l : List ByteArray) : grp (szs l) (splitL l) = l := by
  induction l with
  | nil => rfl
  | cons a l ih =>
    have h1 : szs (a :: l) = (a.size : Int) :: szs l := by simp [szs]
    have h2 : splitL (a :: l) = pcs a ++ splitL l := by simp [splitL]
    rw [h1, h2]
    simp only [grp, Int.toNat_natCast]
    rw [List.take_left' (pcs_len a), List.drop_left' (pcs_len a), ih, catB_pcs]
theorem cnt_split (l : List ByteArray) : cntL (szs l) = (splitL l).length := by rw [← lensL_len, lensL_split, szs_len]
theorem badS_szs {l : List ByteArray} (h : ∀ a ∈ l, a.size ≤ 2048) : badS (szs l) = false := by
  refine badS_mk fun x hx => ?_
  unfold szs at hx
  obtain ⟨a, ha, rfl⟩ := List.mem_map.1 hx
  have := h a ha
  omega
/-- Joined again. -/
theorem jn_split {l : List ByteArray} (h : ∀ a ∈ l, a.size ≤ 2048) : jnE (splitL l) (szs l) = 0 ∧ jnL (splitL l) (szs l) = l := by
  obtain ⟨h1, h2⟩ := jn_ok (badS_szs h) (lensL_split l)
  exact ⟨h1, h2.trans (grp_split l)⟩
/-- More or fewer pieces. -/
theorem jn_other {l q : List ByteArray} (h : ∀ a ∈ l, a.size ≤ 2048) (hq : q.length ≠ (splitL l).length) : jnE q (szs l) = 16 ∧ jnL q (szs l) = [] := by
  refine jn_no (badS_szs h) fun e => hq ?_
  have := congrArg List.length e
  rw [lensL_len, szs_len, cnt_split] at this
  exact this.symm
end Go.Proofs.Ytolhjdhbcggidaa
