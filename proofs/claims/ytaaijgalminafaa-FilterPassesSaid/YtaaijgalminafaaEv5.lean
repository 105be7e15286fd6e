import Derived.Test.YtaaijgalminafaaSt
/-
  Layer 24: what passes of a list: each, of refs (f37), events (f33), transactions (f32) (printed by gen_ev5.py).
-/
namespace Go.Proofs.Ytaaijgalminafaa
open Go.RowKit

/-- 'append(s, xs...)' to a row of the call's own: the block is the old one, or new. -/
theorem run_append_fresh {P : Program} {w : World} (base : Nat) (t ty e : TypeId) (i : TypeInfo) (z : Value) (size bytes : Nat) (ht : P.underlying t = some (.slice e)) (hi : P.info? e = some i) (hz : i.zero = some z)
    (hsize : i.size = size) (hby : i.bytes = bytes) (hzs : z.cells.size = size) (hsz : 0 < size)
    (v : Value) (n : Nat) (xs : List Value) (hown : w.ownsRow base e size v n xs)
    (a : Addr) (m c : Nat) (news : List Value) (hl : news.length = m * size) (hnews : ∀ j u, news[j]? = some u → w.cell? (a.add j) = some u) (h1 : ∀ u ∈ news, u.oneCell' = true)
    (h63 : n + m ≤ maxLen) (hbytes : (n + m) * bytes ≤ 140737488355328) (hbase : base ≤ w.heap.size) :
    ∃ v' w', (Builtin.append_ #[t, t] ty #[v, .slice (some a) m c]).run P w = .ok v' w' ∧ w'.ownsRow base e size v' (n + m) (xs ++ news) ∧ w.grownBy w' v.ownBlock ∧
      (∀ b, v'.ownBlock = some b → v.ownBlock = some b ∨ w.heap.size ≤ b) := by
  obtain ⟨v', w', hr, h2, h3, _⟩ := run_append_own (P := P) (w := w) base t ty e i z size bytes ht hi hz hsize hby hzs hsz v n xs hown a m c news hl hnews h1 h63 hbytes hbase
  refine ⟨v', w', hr, h2, h3, fun b hb => ?_⟩
  rcases hown.2 with ⟨rfl, rfl⟩ | ⟨g, cap, cur, rfl, hbg, hg, hnc, hcm, hcs, htake⟩
  · have hx : xs = [] := List.eq_nil_of_length_eq_zero (by simpa using hown.1)
    subst hx
    obtain ⟨v2, w2, hr2, h4, _, _⟩ := run_append_own (P := P) (w := w) w.heap.size t ty e i z size bytes ht hi hz hsize hby hzs hsz (.slice none 0 0) 0 [] (World.ownsRow_nil _ _ _ _) a m c news hl hnews h1 h63 hbytes (Nat.le_refl _)
    rw [hr] at hr2
    injection hr2 with e1 e2
    subst e1 e2
    exact .inr (h4.lt b hb).1
  · subst hsize
    subst hby
    by_cases hroom : n + m ≤ cap
    · have hfit : n * i.size + news.length ≤ cur.size := by rw [hl, hcs, ← Nat.add_mul]; exact Nat.mul_le_mul_right _ hroom
      have hq := run_append_room (P := P) w t ty e i ht hi g n cap cur hg a m c news hl hnews h1 hroom hfit
      rw [hr] at hq
      injection hq with e1 _
      subst e1
      exact .inl hb
    · have hq := run_append_grow (P := P) w t ty e i z ht hi hz ⟨g, 0, none⟩ n cap xs hown.1 (hown.cells (g := g) rfl) a m c news hl hnews (by omega) (by unfold maxLen at h63; omega) (growslice_fits (by omega) hbytes)
      rw [hr] at hq
      injection hq with e1 _
      subst e1
      simp only [Value.ownBlock, Option.some.injEq] at hb
      exact .inr (by omega)
theorem wpList_append_fresh {P : Program} {w : World} {ops : Array Oper} {rest : List Oper} {o : Oper} {a : Act} {Q : Exit → Act → World → Prop} (hgd : o.guard = none) (s x : Operand) (t : TypeId)
    (ho : o.op = .call { callee := .builtin .append, args := #[s, x], argTypes := #[t, t] })
    (base : Nat) (e : TypeId) (i : TypeInfo) (z : Value) (size bytes : Nat) (ht : P.underlying t = some (.slice e)) (hi : P.info? e = some i) (hz : i.zero = some z)
    (hsize : i.size = size) (hby : i.bytes = bytes) (hzs : z.cells.size = size) (hsz : 0 < size)
    (v : Value) (n : Nat) (xs : List Value) (hs : a.eval s = v) (hown : w.ownsRow base e size v n xs)
    (ad : Addr) (m c : Nat) (news : List Value) (hx : a.eval x = .slice (some ad) m c) (hl : news.length = m * size) (hnews : ∀ j u, news[j]? = some u → w.cell? (ad.add j) = some u) (h1 : ∀ u ∈ news, u.oneCell' = true)
    (h63 : n + m ≤ maxLen) (hbytes : (n + m) * bytes ≤ 140737488355328) (hbase : base ≤ w.heap.size)
    (h : ∀ v' w', w'.ownsRow base e size v' (n + m) (xs ++ news) → w.grownBy w' v.ownBlock → (∀ b, v'.ownBlock = some b → v.ownBlock = some b ∨ w.heap.size ≤ b) → wpList P ops Q rest (a.put o.dst v') w') : wpList P ops Q (o :: rest) a w := by
  obtain ⟨v', w', hr, h2, h3, h4⟩ := run_append_fresh (P := P) (w := w) base t o.type e i z size bytes ht hi hz hsize hby hzs hsz v n xs hown ad m c news hl hnews h1 h63 hbytes hbase
  refine wpList_plain hgd fun K hK => ?_
  unfold Oper.wp
  simp [execOp, ho, resolve, invoke, builtin, hs, hx, hr, Result.andThen]
  exact hK _ _ (h v' w' h2 h3 h4)
/-- A row of the call's own; its things lie out of S and what is new, and not in the row's own block. -/
structure OwE {α : Type} (K : Kd α) (S : Nat → Prop) (base : Nat) (e : TypeId) (w : World) (v : Value) (l : List α) : Prop where
  own : w.ownsRow base e K.k v l.length (l.flatMap K.f)
  el : ∃ S' : Nat → Prop, (∀ a ∈ l, K.at_ w S' a) ∧ (∀ b, S' b → Since S base w b) ∧ ∀ b, v.ownBlock = some b → ¬ S' b
section
variable {α : Type} {K : Kd α} {S : Nat → Prop} {base : Nat} {e : TypeId} {w w' : World} {v v' : Value} {l : List α}
theorem OwE.nil : OwE K S base e w (.slice none 0 0) [] := ⟨World.ownsRow_nil _ _ _ _, fun _ => False, fun _ h => (by cases h), fun _ h => h.elim, fun _ _ h => h⟩
theorem OwE.up (h : OwE K S base e w v l) (hb : Below w.heap.size w w') (hS : ∀ b, S b → b < w.heap.size) : OwE K S base e w' v l := by
  obtain ⟨S', h1, h2, h3⟩ := h.el
  exact ⟨own_up h.own hb, S', fun a ha => K.up (h1 a ha) (Same.below hb fun b hb' => Since.lt hS b (h2 b hb')) (fun _ h => h), fun b hb' => Since.up hb.size b (h2 b hb'), h3⟩
theorem OwE.snoc (h : OwE K S base e w v l) {b1 : Nat} {y : α} (hy : K.at_ w (Since S b1 w) y) (hS : ∀ b, S b → b < base) (hb1 : base ≤ b1) (hv : ∀ b, v.ownBlock = some b → b < b1) (hbase : base ≤ w.heap.size)
    (hown : w'.ownsRow base e K.k v' (l ++ [y]).length ((l ++ [y]).flatMap K.f)) (hg : w.grownBy w' v.ownBlock) (hf : ∀ b, v'.ownBlock = some b → v.ownBlock = some b ∨ w.heap.size ≤ b) : OwE K S base e w' v' (l ++ [y]) := by
  obtain ⟨S', h1, h2, h3⟩ := h.el
  have hSw : ∀ b, S b → b < w.heap.size := fun b hb => Nat.lt_of_lt_of_le (hS b hb) hbase
  have hne : ∀ b, Since S b1 w b → v.ownBlock ≠ some b := fun b hb e' => by
    have h4 := (h.own.lt b e').1
    rcases hb with hb | hb
    · have := hS b hb; omega
    · have := hv b e'; omega
  have hlt : ∀ b, S' b ∨ Since S b1 w b → b < w.heap.size := fun b hb => hb.elim (fun hb => Since.lt hSw b (h2 b hb)) (fun hb => Since.lt hSw b hb)
  have hsm : Same (fun b => S' b ∨ Since S b1 w b) w w' := Same.grown hg fun b hb => ⟨hlt b hb, hb.elim (fun hb e' => h3 b e' hb) (hne b)⟩
  refine ⟨hown, fun b => S' b ∨ Since S b1 w b, fun a ha => ?_, fun b hb => ?_, fun b hb hb2 => ?_⟩
  · rcases List.mem_append.1 ha with ha | ha
    · exact K.up (h1 a ha) (hsm.less fun _ h => .inl h) (fun _ h => .inl h)
    · obtain rfl : a = y := by simpa using ha
      exact K.up hy (hsm.less fun _ h => .inr h) (fun _ h => .inr h)
  · refine Since.up hg.size b (hb.elim (h2 b) fun hb => hb.imp id fun ⟨h4, h5⟩ => ⟨by omega, h5⟩)
  · rcases hf b hb with h4 | h4
    · exact hb2.elim (h3 b h4) (fun h5 => hne b h5 h4)
    · have := hlt b hb2; omega
theorem OwE.ret {w0 : World} (h : OwE K S w0.heap.size e w' v l) (hb : Below w0.heap.size w0 w') : RetRo K S l w0 (.returned v) w' := by
  obtain ⟨S', h1, h2, _⟩ := h.el
  exact RetRo.own ⟨h.own, fun a ha => K.up (h1 a ha) (Same.refl _ _) h2⟩ hb
end
theorem cells_news {w : World} {g : Nat} {cs : Array Value} {t : TypeId} (h : w.heap[g]? = some (.cells cs t (0, 0))) : ∀ j u, cs.toList[j]? = some u → w.cell? ((⟨g, 0, none⟩ : Addr).add j) = some u := by
  intro j u hu
  have : (⟨g, 0, none⟩ : Addr).add j = ⟨g, j, none⟩ := by unfold Addr.add; split <;> simp_all
  rw [this, cell_of_row _ _ j _ t (0, 0) h]
  simpa using hu
/-- A call told of one whether it passes, and what then passes. -/
def RetPass {α β : Type} (K : Kd α) (ab : α → β) (p : β → Option β) (S : Nat → Prop) (x : α) (w : World) (e : Ending) (w' : World) : Prop :=
  ∃ y b, e = .returned (.tuple #[K.v y, .bool b]) ∧ K.at_ w' (Since S w.heap.size w') y ∧ Below w.heap.size w w' ∧ (b = true → p (ab x) = some (ab y)) ∧ (b = false → p (ab x) = none)
/-- A call returned what passes of these. -/
def RetEach {α β : Type} (K : Kd α) (ab : α → β) (p : β → Option β) (S : Nat → Prop) (l : List α) (w : World) (e : Ending) (w' : World) : Prop :=
  ∃ ys : List α, ys.map ab = (l.map ab).filterMap p ∧ ys.length ≤ l.length ∧ RetRo K S ys w e w'
theorem Try.info61 : (Try.prog.info? 61).map (fun i => (i.zero, i.size, i.bytes)) = some (some (.agg #[.int .u8 0, .int .u32 0, .int .u32 0, .int .u8 0, .slice none 0 0, .slice none 0 0, .slice none 0 0, .int .u8 0]), 8, 96) := by kernel_rfl
theorem Try.info46 : (Try.prog.info? 46).map (fun i => (i.zero, i.size, i.bytes)) = some (some (.agg #[.int .u32 0, .int .u64 0, .slice none 0 0]), 3, 40) := by kernel_rfl
theorem fm_snoc {α β : Type} {ab : α → β} {p : β → Option β} {l : List α} {j : Nat} (hj : j < l.length) : ((l.take (j + 1)).map ab).filterMap p = ((l.take j).map ab).filterMap p ++ (p (ab l[j])).toList := by
  rw [List.take_succ_eq_append_getElem hj, List.map_append, List.filterMap_append]
  rw [List.map_cons, List.map_nil, List.filterMap_cons]
  cases h : p (ab l[j]) <;> simp

set_option maxRecDepth 100000 in
set_option maxHeartbeats 6400000 in
theorem eachF_any {β : Type} (ab : Rf → β) (p : β → Option β) (bound : Value) (r : Ro Rf) (S : Nat → Prop) (w : World) (hR : RoAt KF w S r) (hS : ∀ b, S b → b < w.heap.size) (hl : r.l.length ≤ 1000)
    (hc : ∀ x ∈ r.l, ∀ w1, Below w.heap.size w w1 → KF.at_ w1 S x → Calls Try.prog 38 #[bound, KF.v x] w1 (RetPass KF ab p S x w1)) :
    Calls Try.prog 37 #[r.v, .func (.func 38) #[bound] #[]] w (RetEach KF ab p S r.l w) := by
  obtain ⟨i0, hi, hz0, hz1, hz2⟩ := info_parts Try.info56
  obtain ⟨l, A, c⟩ := r
  unfold Ro.v
  simp only at hl hc ⊢
  have HR := Lib.hid hR; have HC := Lib.hid hc
  clear hR hc
  go_enter Try.func37, Try.ntmps37
  go_wp2
  go_loopw [5, 12] (fun s5 s12 wr => ∃ (j : Nat) (ys : List Rf), j ≤ l.length ∧ s12 = .int .i64 (j : Int) ∧ Below w.heap.size w wr ∧ Hid (OwE KF S w.heap.size 56 wr s5 ys) ∧ Hid (ys.map ab = ((l.take j).map ab).filterMap p) ∧ ys.length ≤ j) (fun _ s12 _ => l.length - (intOf s12).toNat)
  case atStart => exact ⟨0, [], by omega, rfl, Below.refl _ _, OwE.nil, by simp [Hid], by simp⟩
  case round =>
    obtain ⟨j, ys, hj, rfl, hb, hO, hm, hyl⟩ := hrel
    by_cases hlt : j < l.length
    · have hd : (j : Int) < (l.length : Int) := by omega
      have HB := Lib.hid hb
      have hRr : RoAt KF wr S ⟨l, A, c⟩ := HR.out.up (Same.below hb hS) (fun _ h => h)
      obtain ⟨b, off, e0, hSb, hcell⟩ := hRr.get hlt
      simp only at e0
      subst e0
      have hcj := hcell j hlt
      have hx0 := hRr.el _ (List.getElem_mem hlt)
      have hcx := HC.out _ (List.getElem_mem hlt)
      have hsn := Lib.hid (fm_snoc (ab := ab) (p := p) hlt)
      have hsz := hb.size
      clear hcell hRr
      generalize l[j] = x at *
      have HX := Lib.hid hx0; have HCX := Lib.hid hcx
      clear hx0 hcx
      obtain ⟨oid, ver⟩ := x
      have k0' : wr.cell? ⟨b, off + j * 2, none⟩ = some (.int .u32 oid) := hcj 0 _ rfl
      have k1' : wr.cell? ⟨b, off + j * 2 + 1, none⟩ = some (.int .u32 ver) := hcj 1 _ rfl
      clear hcj
      go_wp2_with fail
      have hw1 : Below w.heap.size w (wr.alloc (.cells #[.int .u32 oid, .int .u32 ver] 56)) := hb.alloc hsz _
      refine (HCX.out _ hw1 (KF.up HX.out (Same.below ((Below.refl _ _).alloc (Nat.le_refl _) _) fun b hb' => Nat.lt_of_lt_of_le (hS b hb') hsz) fun _ h => h)).mono ?_
      rintro e w2 ⟨y, pb, rfl, hy, hb2, hp1, hp2⟩
      have hbr2 : Below wr.heap.size wr w2 := ((Below.refl _ wr).alloc (Nat.le_refl _) _).trans (hb2.mono (by simp))
      have hO2 := Lib.hid (hO.out.up hbr2 fun b hb' => Nat.lt_of_lt_of_le (hS b hb') hsz)
      have hvl := Lib.hid (fun b (h : Value.ownBlock u5 = some b) => (hO.out.own.lt b h).2)
      have HB2 := Lib.hid (hb.trans (hbr2.mono hsz))
      have hY := Lib.hid hy; have HP1 := Lib.hid hp1; have HP2 := Lib.hid hp2
      have hs2 := hbr2.size
      clear hw1 hy hp1 hp2 hb2 hbr2 hO hb
      obtain ⟨oid2, ver2⟩ := y
      rw [show KF.v (⟨oid2, ver2⟩ : Rf) = .agg #[.int .u32 oid2, .int .u32 ver2] from rfl]
      cases pb
      · have hnone := HP2.out rfl
        have hm2 : Hid (ys.map ab = ((l.take (j + 1)).map ab).filterMap p) := by
          show _ = _
          rw [hsn.out, hnone, hm.out]; simp
        have hO3 := Lib.hid (hO2.out.up ((Below.refl _ w2).alloc (Nat.le_refl _) (.cells #[.int .u32 oid2, .int .u32 ver2] 56)) fun b hb' => Nat.lt_of_lt_of_le (hS b hb') (Nat.le_trans hsz hs2))
        have hb3 := HB2.out.alloc (Nat.le_trans hsz hs2) (.cells #[.int .u32 oid2, .int .u32 ver2] 56)
        clear hnone HP1 HP2 hsn hm hO2
        go_wp2
        go_roundw
        case rel => exact ⟨j + 1, ys, by omega, by go_num, hb3, hO3, hm2, by omega⟩
        case measure => simp [intOf]; omega
      · have hsome := HP1.out rfl
        have hm2 : Hid ((ys ++ [(⟨oid2, ver2⟩ : Rf)]).map ab = ((l.take (j + 1)).map ab).filterMap p) := by
          show _ = _
          rw [hsn.out, hsome, List.map_append, hm.out]; rfl
        have hw3 := ((Below.refl w2.heap.size w2).alloc (Nat.le_refl _) (.cells #[.int .u32 oid2, .int .u32 ver2] 56)).alloc (by simp) (.cells #[.int .u32 oid2, .int .u32 ver2] 56)
        have hO3 := Lib.hid (hO2.out.up hw3 fun b hb' => Nat.lt_of_lt_of_le (hS b hb') (Nat.le_trans hsz hs2))
        have hY3 := Lib.hid (KF.up hY.out (Same.below hw3 (Since.lt fun b hb' => Nat.lt_of_lt_of_le (hS b hb') (Nat.le_trans hsz hs2))) (Since.up hw3.size))
        have hb3 := Lib.hid (HB2.out.trans (hw3.mono HB2.out.size))
        have hnews := cells_news (heap_alloc_new (w2.alloc (.cells #[.int .u32 oid2, .int .u32 ver2] 56)) (.cells #[.int .u32 oid2, .int .u32 ver2] 56))
        have hone := KF.one (⟨oid2, ver2⟩ : Rf)
        rw [World.size_alloc] at hnews
        have hsz3 := hw3.size
        clear hsome HP1 HP2 hsn hm hO2 hw3
        have hown := hO3.out.own
        go_wp2_with (at_builtin; refine wpList_append_fresh rfl _ _ 59 rfl w.heap.size 56 i0 (.agg #[.int .u32 0, .int .u32 0]) 2 8 Try.underlying59 hi hz0 hz1 hz2 rfl (by decide) _ _ _ rfl hown ⟨w2.heap.size + 1, 0, none⟩ 1 1 [.int .u32 oid2, .int .u32 ver2] rfl rfl hnews hone (by simp only [maxLen]; omega) (by omega) (by omega) ?_)
        intro v8 w8 hown8 hg8 hf8
        have hown9 : w8.ownsRow w.heap.size 56 KF.k v8 (ys ++ [(⟨oid2, ver2⟩ : Rf)]).length ((ys ++ [(⟨oid2, ver2⟩ : Rf)]).flatMap KF.f) := by
          rw [List.length_append, List.flatMap_append]; exact hown8
        have hO9 := Lib.hid (hO3.out.snoc hY3.out hS (by simp; omega) (fun b hb' => by have := hvl.out b hb'; simp; omega) (by omega) hown9 hg8 (by simpa only [World.size_alloc] using hf8))
        have hb9 := own_base hown hb3.out hg8 (by omega)
        clear hown hown8 hown9 hg8 hf8 hnews hone hO3 hY3 hb3
        go_wp2
        go_roundw
        case rel => exact ⟨j + 1, _, by omega, by go_num, hb9, hO9, hm2, by simp; omega⟩
        case measure => simp [intOf]; omega
    · obtain rfl : j = l.length := by omega
      rw [List.take_length] at hm
      go_wp2
      go_ret
      exact ⟨ys, hm.out, hyl, hO.out.ret hb⟩

set_option maxRecDepth 100000 in
set_option maxHeartbeats 6400000 in
theorem eachE_any {β : Type} (ab : Er → β) (p : β → Option β) (bound : Value) (r : Ro Er) (S : Nat → Prop) (w : World) (hR : RoAt (KE KP) w S r) (hS : ∀ b, S b → b < w.heap.size) (hl : r.l.length ≤ 1000)
    (hc : ∀ x ∈ r.l, ∀ w1, Below w.heap.size w w1 → (KE KP).at_ w1 S x → Calls Try.prog 21 #[bound, (KE KP).v x] w1 (RetPass (KE KP) ab p S x w1)) :
    Calls Try.prog 33 #[r.v, .func (.func 21) #[bound] #[]] w (RetEach (KE KP) ab p S r.l w) := by
  obtain ⟨i0, hi, hz0, hz1, hz2⟩ := info_parts Try.info61
  obtain ⟨l, A, c⟩ := r
  unfold Ro.v
  simp only at hl hc ⊢
  have HR := Lib.hid hR; have HC := Lib.hid hc
  clear hR hc
  go_enter Try.func33, Try.ntmps33
  go_wp2
  go_loopw [5, 12] (fun s5 s12 wr => ∃ (j : Nat) (ys : List Er), j ≤ l.length ∧ s12 = .int .i64 (j : Int) ∧ Below w.heap.size w wr ∧ Hid (OwE (KE KP) S w.heap.size 61 wr s5 ys) ∧ Hid (ys.map ab = ((l.take j).map ab).filterMap p) ∧ ys.length ≤ j) (fun _ s12 _ => l.length - (intOf s12).toNat)
  case atStart => exact ⟨0, [], by omega, rfl, Below.refl _ _, OwE.nil, by simp [Hid], by simp⟩
  case round =>
    obtain ⟨j, ys, hj, rfl, hb, hO, hm, hyl⟩ := hrel
    by_cases hlt : j < l.length
    · have hd : (j : Int) < (l.length : Int) := by omega
      have HB := Lib.hid hb
      have hRr : RoAt (KE KP) wr S ⟨l, A, c⟩ := HR.out.up (Same.below hb hS) (fun _ h => h)
      obtain ⟨b, off, e0, hSb, hcell⟩ := hRr.get hlt
      simp only at e0
      subst e0
      have hcj := hcell j hlt
      have hx0 := hRr.el _ (List.getElem_mem hlt)
      have hcx := HC.out _ (List.getElem_mem hlt)
      have hsn := Lib.hid (fm_snoc (ab := ab) (p := p) hlt)
      have hsz := hb.size
      clear hcell hRr
      generalize l[j] = x at *
      have HX := Lib.hid hx0; have HCX := Lib.hid hcx
      clear hx0 hcx
      obtain ⟨kd, ⟨oid, ver⟩, old, ⟨l1, A1, c1⟩, ⟨l2, A2, c2⟩, ⟨l3, A3, c3⟩, fl⟩ := x
      have k0' : wr.cell? ⟨b, off + j * 8, none⟩ = some (.int .u8 kd) := hcj 0 _ rfl
      have k1' : wr.cell? ⟨b, off + j * 8 + 1, none⟩ = some (.int .u32 oid) := hcj 1 _ rfl
      have k2' : wr.cell? ⟨b, off + j * 8 + 2, none⟩ = some (.int .u32 ver) := hcj 2 _ rfl
      have k3' : wr.cell? ⟨b, off + j * 8 + 3, none⟩ = some (.int .u8 old) := hcj 3 _ rfl
      have k4' : wr.cell? ⟨b, off + j * 8 + 4, none⟩ = some (.slice A1 l1.length c1) := hcj 4 _ rfl
      have k5' : wr.cell? ⟨b, off + j * 8 + 5, none⟩ = some (.slice A2 l2.length c2) := hcj 5 _ rfl
      have k6' : wr.cell? ⟨b, off + j * 8 + 6, none⟩ = some (.slice A3 l3.length c3) := hcj 6 _ rfl
      have k7' : wr.cell? ⟨b, off + j * 8 + 7, none⟩ = some (.int .u8 fl) := hcj 7 _ rfl
      clear hcj
      go_wp2_with fail
      have hw1 : Below w.heap.size w (wr.alloc (.cells #[.int .u8 kd, .int .u32 oid, .int .u32 ver, .int .u8 old, .slice A1 l1.length c1, .slice A2 l2.length c2, .slice A3 l3.length c3, .int .u8 fl] 61)) := hb.alloc hsz _
      refine (HCX.out _ hw1 ((KE KP).up HX.out (Same.below ((Below.refl _ _).alloc (Nat.le_refl _) _) fun b hb' => Nat.lt_of_lt_of_le (hS b hb') hsz) fun _ h => h)).mono ?_
      rintro e w2 ⟨y, pb, rfl, hy, hb2, hp1, hp2⟩
      have hbr2 : Below wr.heap.size wr w2 := ((Below.refl _ wr).alloc (Nat.le_refl _) _).trans (hb2.mono (by simp))
      have hO2 := Lib.hid (hO.out.up hbr2 fun b hb' => Nat.lt_of_lt_of_le (hS b hb') hsz)
      have hvl := Lib.hid (fun b (h : Value.ownBlock u5 = some b) => (hO.out.own.lt b h).2)
      have HB2 := Lib.hid (hb.trans (hbr2.mono hsz))
      have hY := Lib.hid hy; have HP1 := Lib.hid hp1; have HP2 := Lib.hid hp2
      have hs2 := hbr2.size
      clear hw1 hy hp1 hp2 hb2 hbr2 hO hb
      obtain ⟨kd2, ⟨oid2, ver2⟩, old2, ⟨l4, A4, c4⟩, ⟨l5, A5, c5⟩, ⟨l6, A6, c6⟩, fl2⟩ := y
      rw [show (KE KP).v (⟨kd2, ⟨oid2, ver2⟩, old2, ⟨l4, A4, c4⟩, ⟨l5, A5, c5⟩, ⟨l6, A6, c6⟩, fl2⟩ : Er) = .agg #[.int .u8 kd2, .int .u32 oid2, .int .u32 ver2, .int .u8 old2, .slice A4 l4.length c4, .slice A5 l5.length c5, .slice A6 l6.length c6, .int .u8 fl2] from rfl]
      cases pb
      · have hnone := HP2.out rfl
        have hm2 : Hid (ys.map ab = ((l.take (j + 1)).map ab).filterMap p) := by
          show _ = _
          rw [hsn.out, hnone, hm.out]; simp
        have hO3 := Lib.hid (hO2.out.up ((Below.refl _ w2).alloc (Nat.le_refl _) (.cells #[.int .u8 kd2, .int .u32 oid2, .int .u32 ver2, .int .u8 old2, .slice A4 l4.length c4, .slice A5 l5.length c5, .slice A6 l6.length c6, .int .u8 fl2] 61)) fun b hb' => Nat.lt_of_lt_of_le (hS b hb') (Nat.le_trans hsz hs2))
        have hb3 := HB2.out.alloc (Nat.le_trans hsz hs2) (.cells #[.int .u8 kd2, .int .u32 oid2, .int .u32 ver2, .int .u8 old2, .slice A4 l4.length c4, .slice A5 l5.length c5, .slice A6 l6.length c6, .int .u8 fl2] 61)
        clear hnone HP1 HP2 hsn hm hO2
        go_wp2
        go_roundw
        case rel => exact ⟨j + 1, ys, by omega, by go_num, hb3, hO3, hm2, by omega⟩
        case measure => simp [intOf]; omega
      · have hsome := HP1.out rfl
        have hm2 : Hid ((ys ++ [(⟨kd2, ⟨oid2, ver2⟩, old2, ⟨l4, A4, c4⟩, ⟨l5, A5, c5⟩, ⟨l6, A6, c6⟩, fl2⟩ : Er)]).map ab = ((l.take (j + 1)).map ab).filterMap p) := by
          show _ = _
          rw [hsn.out, hsome, List.map_append, hm.out]; rfl
        have hw3 := ((Below.refl w2.heap.size w2).alloc (Nat.le_refl _) (.cells #[.int .u8 kd2, .int .u32 oid2, .int .u32 ver2, .int .u8 old2, .slice A4 l4.length c4, .slice A5 l5.length c5, .slice A6 l6.length c6, .int .u8 fl2] 61)).alloc (by simp) (.cells #[.int .u8 kd2, .int .u32 oid2, .int .u32 ver2, .int .u8 old2, .slice A4 l4.length c4, .slice A5 l5.length c5, .slice A6 l6.length c6, .int .u8 fl2] 61)
        have hO3 := Lib.hid (hO2.out.up hw3 fun b hb' => Nat.lt_of_lt_of_le (hS b hb') (Nat.le_trans hsz hs2))
        have hY3 := Lib.hid ((KE KP).up hY.out (Same.below hw3 (Since.lt fun b hb' => Nat.lt_of_lt_of_le (hS b hb') (Nat.le_trans hsz hs2))) (Since.up hw3.size))
        have hb3 := Lib.hid (HB2.out.trans (hw3.mono HB2.out.size))
        have hnews := cells_news (heap_alloc_new (w2.alloc (.cells #[.int .u8 kd2, .int .u32 oid2, .int .u32 ver2, .int .u8 old2, .slice A4 l4.length c4, .slice A5 l5.length c5, .slice A6 l6.length c6, .int .u8 fl2] 61)) (.cells #[.int .u8 kd2, .int .u32 oid2, .int .u32 ver2, .int .u8 old2, .slice A4 l4.length c4, .slice A5 l5.length c5, .slice A6 l6.length c6, .int .u8 fl2] 61))
        have hone := (KE KP).one (⟨kd2, ⟨oid2, ver2⟩, old2, ⟨l4, A4, c4⟩, ⟨l5, A5, c5⟩, ⟨l6, A6, c6⟩, fl2⟩ : Er)
        rw [World.size_alloc] at hnews
        have hsz3 := hw3.size
        clear hsome HP1 HP2 hsn hm hO2 hw3
        have hown := hO3.out.own
        go_wp2_with (at_builtin; refine wpList_append_fresh rfl _ _ 44 rfl w.heap.size 61 i0 (.agg #[.int .u8 0, .int .u32 0, .int .u32 0, .int .u8 0, .slice none 0 0, .slice none 0 0, .slice none 0 0, .int .u8 0]) 8 96 Try.underlying44 hi hz0 hz1 hz2 rfl (by decide) _ _ _ rfl hown ⟨w2.heap.size + 1, 0, none⟩ 1 1 [.int .u8 kd2, .int .u32 oid2, .int .u32 ver2, .int .u8 old2, .slice A4 l4.length c4, .slice A5 l5.length c5, .slice A6 l6.length c6, .int .u8 fl2] rfl rfl hnews hone (by simp only [maxLen]; omega) (by omega) (by omega) ?_)
        intro v8 w8 hown8 hg8 hf8
        have hown9 : w8.ownsRow w.heap.size 61 (KE KP).k v8 (ys ++ [(⟨kd2, ⟨oid2, ver2⟩, old2, ⟨l4, A4, c4⟩, ⟨l5, A5, c5⟩, ⟨l6, A6, c6⟩, fl2⟩ : Er)]).length ((ys ++ [(⟨kd2, ⟨oid2, ver2⟩, old2, ⟨l4, A4, c4⟩, ⟨l5, A5, c5⟩, ⟨l6, A6, c6⟩, fl2⟩ : Er)]).flatMap (KE KP).f) := by
          rw [List.length_append, List.flatMap_append]; exact hown8
        have hO9 := Lib.hid (hO3.out.snoc hY3.out hS (by simp; omega) (fun b hb' => by have := hvl.out b hb'; simp; omega) (by omega) hown9 hg8 (by simpa only [World.size_alloc] using hf8))
        have hb9 := own_base hown hb3.out hg8 (by omega)
        clear hown hown8 hown9 hg8 hf8 hnews hone hO3 hY3 hb3
        go_wp2
        go_roundw
        case rel => exact ⟨j + 1, _, by omega, by go_num, hb9, hO9, hm2, by simp; omega⟩
        case measure => simp [intOf]; omega
    · obtain rfl : j = l.length := by omega
      rw [List.take_length] at hm
      go_wp2
      go_ret
      exact ⟨ys, hm.out, hyl, hO.out.ret hb⟩

set_option maxRecDepth 100000 in
set_option maxHeartbeats 6400000 in
theorem eachT_any {β : Type} (ab : Tr → β) (p : β → Option β) (bound : Value) (r : Ro Tr) (S : Nat → Prop) (w : World) (hR : RoAt (KT KP) w S r) (hS : ∀ b, S b → b < w.heap.size) (hl : r.l.length ≤ 1000)
    (hc : ∀ x ∈ r.l, ∀ w1, Below w.heap.size w w1 → (KT KP).at_ w1 S x → Calls Try.prog 17 #[bound, (KT KP).v x] w1 (RetPass (KT KP) ab p S x w1)) :
    Calls Try.prog 32 #[r.v, .func (.func 17) #[bound] #[]] w (RetEach (KT KP) ab p S r.l w) := by
  obtain ⟨i0, hi, hz0, hz1, hz2⟩ := info_parts Try.info46
  obtain ⟨l, A, c⟩ := r
  unfold Ro.v
  simp only at hl hc ⊢
  have HR := Lib.hid hR; have HC := Lib.hid hc
  clear hR hc
  go_enter Try.func32, Try.ntmps32
  go_wp2
  go_loopw [5, 12] (fun s5 s12 wr => ∃ (j : Nat) (ys : List Tr), j ≤ l.length ∧ s12 = .int .i64 (j : Int) ∧ Below w.heap.size w wr ∧ Hid (OwE (KT KP) S w.heap.size 46 wr s5 ys) ∧ Hid (ys.map ab = ((l.take j).map ab).filterMap p) ∧ ys.length ≤ j) (fun _ s12 _ => l.length - (intOf s12).toNat)
  case atStart => exact ⟨0, [], by omega, rfl, Below.refl _ _, OwE.nil, by simp [Hid], by simp⟩
  case round =>
    obtain ⟨j, ys, hj, rfl, hb, hO, hm, hyl⟩ := hrel
    by_cases hlt : j < l.length
    · have hd : (j : Int) < (l.length : Int) := by omega
      have HB := Lib.hid hb
      have hRr : RoAt (KT KP) wr S ⟨l, A, c⟩ := HR.out.up (Same.below hb hS) (fun _ h => h)
      obtain ⟨b, off, e0, hSb, hcell⟩ := hRr.get hlt
      simp only at e0
      subst e0
      have hcj := hcell j hlt
      have hx0 := hRr.el _ (List.getElem_mem hlt)
      have hcx := HC.out _ (List.getElem_mem hlt)
      have hsn := Lib.hid (fm_snoc (ab := ab) (p := p) hlt)
      have hsz := hb.size
      clear hcell hRr
      generalize l[j] = x at *
      have HX := Lib.hid hx0; have HCX := Lib.hid hcx
      clear hx0 hcx
      obtain ⟨xid, stp, ⟨l1, A1, c1⟩⟩ := x
      have k0' : wr.cell? ⟨b, off + j * 3, none⟩ = some (.int .u32 xid) := hcj 0 _ rfl
      have k1' : wr.cell? ⟨b, off + j * 3 + 1, none⟩ = some (.int .u64 stp) := hcj 1 _ rfl
      have k2' : wr.cell? ⟨b, off + j * 3 + 2, none⟩ = some (.slice A1 l1.length c1) := hcj 2 _ rfl
      clear hcj
      go_wp2_with fail
      have hw1 : Below w.heap.size w (wr.alloc (.cells #[.int .u32 xid, .int .u64 stp, .slice A1 l1.length c1] 46)) := hb.alloc hsz _
      refine (HCX.out _ hw1 ((KT KP).up HX.out (Same.below ((Below.refl _ _).alloc (Nat.le_refl _) _) fun b hb' => Nat.lt_of_lt_of_le (hS b hb') hsz) fun _ h => h)).mono ?_
      rintro e w2 ⟨y, pb, rfl, hy, hb2, hp1, hp2⟩
      have hbr2 : Below wr.heap.size wr w2 := ((Below.refl _ wr).alloc (Nat.le_refl _) _).trans (hb2.mono (by simp))
      have hO2 := Lib.hid (hO.out.up hbr2 fun b hb' => Nat.lt_of_lt_of_le (hS b hb') hsz)
      have hvl := Lib.hid (fun b (h : Value.ownBlock u5 = some b) => (hO.out.own.lt b h).2)
      have HB2 := Lib.hid (hb.trans (hbr2.mono hsz))
      have hY := Lib.hid hy; have HP1 := Lib.hid hp1; have HP2 := Lib.hid hp2
      have hs2 := hbr2.size
      clear hw1 hy hp1 hp2 hb2 hbr2 hO hb
      obtain ⟨xid2, stp2, ⟨l4, A4, c4⟩⟩ := y
      rw [show (KT KP).v (⟨xid2, stp2, ⟨l4, A4, c4⟩⟩ : Tr) = .agg #[.int .u32 xid2, .int .u64 stp2, .slice A4 l4.length c4] from rfl]
      cases pb
      · have hnone := HP2.out rfl
        have hm2 : Hid (ys.map ab = ((l.take (j + 1)).map ab).filterMap p) := by
          show _ = _
          rw [hsn.out, hnone, hm.out]; simp
        have hO3 := Lib.hid (hO2.out.up ((Below.refl _ w2).alloc (Nat.le_refl _) (.cells #[.int .u32 xid2, .int .u64 stp2, .slice A4 l4.length c4] 46)) fun b hb' => Nat.lt_of_lt_of_le (hS b hb') (Nat.le_trans hsz hs2))
        have hb3 := HB2.out.alloc (Nat.le_trans hsz hs2) (.cells #[.int .u32 xid2, .int .u64 stp2, .slice A4 l4.length c4] 46)
        clear hnone HP1 HP2 hsn hm hO2
        go_wp2
        go_roundw
        case rel => exact ⟨j + 1, ys, by omega, by go_num, hb3, hO3, hm2, by omega⟩
        case measure => simp [intOf]; omega
      · have hsome := HP1.out rfl
        have hm2 : Hid ((ys ++ [(⟨xid2, stp2, ⟨l4, A4, c4⟩⟩ : Tr)]).map ab = ((l.take (j + 1)).map ab).filterMap p) := by
          show _ = _
          rw [hsn.out, hsome, List.map_append, hm.out]; rfl
        have hw3 := ((Below.refl w2.heap.size w2).alloc (Nat.le_refl _) (.cells #[.int .u32 xid2, .int .u64 stp2, .slice A4 l4.length c4] 46)).alloc (by simp) (.cells #[.int .u32 xid2, .int .u64 stp2, .slice A4 l4.length c4] 46)
        have hO3 := Lib.hid (hO2.out.up hw3 fun b hb' => Nat.lt_of_lt_of_le (hS b hb') (Nat.le_trans hsz hs2))
        have hY3 := Lib.hid ((KT KP).up hY.out (Same.below hw3 (Since.lt fun b hb' => Nat.lt_of_lt_of_le (hS b hb') (Nat.le_trans hsz hs2))) (Since.up hw3.size))
        have hb3 := Lib.hid (HB2.out.trans (hw3.mono HB2.out.size))
        have hnews := cells_news (heap_alloc_new (w2.alloc (.cells #[.int .u32 xid2, .int .u64 stp2, .slice A4 l4.length c4] 46)) (.cells #[.int .u32 xid2, .int .u64 stp2, .slice A4 l4.length c4] 46))
        have hone := (KT KP).one (⟨xid2, stp2, ⟨l4, A4, c4⟩⟩ : Tr)
        rw [World.size_alloc] at hnews
        have hsz3 := hw3.size
        clear hsome HP1 HP2 hsn hm hO2 hw3
        have hown := hO3.out.own
        go_wp2_with (at_builtin; refine wpList_append_fresh rfl _ _ 36 rfl w.heap.size 46 i0 (.agg #[.int .u32 0, .int .u64 0, .slice none 0 0]) 3 40 Try.underlying36 hi hz0 hz1 hz2 rfl (by decide) _ _ _ rfl hown ⟨w2.heap.size + 1, 0, none⟩ 1 1 [.int .u32 xid2, .int .u64 stp2, .slice A4 l4.length c4] rfl rfl hnews hone (by simp only [maxLen]; omega) (by omega) (by omega) ?_)
        intro v8 w8 hown8 hg8 hf8
        have hown9 : w8.ownsRow w.heap.size 46 (KT KP).k v8 (ys ++ [(⟨xid2, stp2, ⟨l4, A4, c4⟩⟩ : Tr)]).length ((ys ++ [(⟨xid2, stp2, ⟨l4, A4, c4⟩⟩ : Tr)]).flatMap (KT KP).f) := by
          rw [List.length_append, List.flatMap_append]; exact hown8
        have hO9 := Lib.hid (hO3.out.snoc hY3.out hS (by simp; omega) (fun b hb' => by have := hvl.out b hb'; simp; omega) (by omega) hown9 hg8 (by simpa only [World.size_alloc] using hf8))
        have hb9 := own_base hown hb3.out hg8 (by omega)
        clear hown hown8 hown9 hg8 hf8 hnews hone hO3 hY3 hb3
        go_wp2
        go_roundw
        case rel => exact ⟨j + 1, _, by omega, by go_num, hb9, hO9, hm2, by simp; omega⟩
        case measure => simp [intOf]; omega
    · obtain rfl : j = l.length := by omega
      rw [List.take_length] at hm
      go_wp2
      go_ret
      exact ⟨ys, hm.out, hyl, hO.out.ret hb⟩
end Go.Proofs.Ytaaijgalminafaa
