/-
  Layer 11: Split by its contract: a range over a function within a loop.
-/
import Derived.Test.YtolhjdhbcggidaaCk3
import Derived.Test.YtolhjdhbcggidaaRnd
import Derived.RangeFuncOne
import Derived.Deep.LoopGhost
import Derived.RangeFuncWrites
namespace Go.Proofs.Ytolhjdhbcggidaa
open Go.RowKit Go.Shelf
attribute [local go_sem] Oper.semAt_some

/-- The marks that loops over functions have left, one above the other. -/
def Marks (n₀ : Nat) : Nat → List Deferred → World → Prop
  | _, [], _ => True
  | B, d :: ds, w => ∃ D, d = { target := .collected D, args := #[] } ∧ n₀ ≤ D ∧ D < B ∧ w.heap[D]? = some (.deferred (some [])) ∧ Marks n₀ D ds w
theorem Marks.up {n₀ : Nat} {w w' : World} : ∀ {ds : List Deferred} {B : Nat}, Marks n₀ B ds w → (∀ D, D < B → w.heap[D]? = some (.deferred (some [])) → w'.heap[D]? = some (.deferred (some []))) → Marks n₀ B ds w'
  | [], _, _, _ => trivial
  | _ :: _, _, ⟨D, h1, h2, h3, h4, h5⟩, h => ⟨D, h1, h2, h3, h D h3 h4, h5.up fun D' hd hh => h D' (by omega) hh⟩
theorem Marks.mono {n₀ : Nat} {w : World} : ∀ {ds : List Deferred} {B B' : Nat}, Marks n₀ B ds w → B ≤ B' → Marks n₀ B' ds w
  | [], _, _, _, _ => trivial
  | _ :: _, _, _, ⟨D, h1, h2, h3, h4, h5⟩, h => ⟨D, h1, h2, by omega, h4, h5⟩
theorem leaves_marks {F : Fence} {n n₀ : Nat} {P : Program} {fn : Func} {tmps : Array Value} {R : Ending → World → Prop} {J : World → Prop} (hJ : OwnFrom n₀ (fun (_ : Unit) W => J W))
    (hR : ∀ w', J w' → LeavesInM F n P fn tmps R [] .returning w') : ∀ (ds : List Deferred) (B : Nat) (w : World), Marks n₀ B ds w → J w → LeavesInM F n P fn tmps R ds .returning w
  | [], _, w, _, hj => hR w hj
  | d :: ds, B, w, ⟨D, h1, h2, h3, h4, h5⟩, hj => by
    subst h1
    refine ⟨by simp, .inl ⟨_, _, rfl, run_takeDeferred h4, ?_⟩⟩
    refine leaves_marks hJ hR ds D _ (h5.up fun D' hd hh => ?_) (hJ.putObj (s := ()) _ hj h2 h4 rfl)
    rw [World.putObj_heap_other (by omega)]; exact hh

/-- Behind an append the row lies apart from a box of one text. -/
theorem append_apart {W w1 : World} {bs Bs n : Nat} {v v' : Value} {ys : List Value} {tmp : Obj} {s : ByteArray} (hs : W.heap[Bs]? = some (.cells #[.string s] 9 (0, 0))) (hne : v.ownBlock ≠ some Bs)
    (hown' : w1.ownsRow bs 9 1 v' (n + 1) ys) (hgrow : (W.alloc tmp).grownBy w1 v.ownBlock) (h0 : n = 0 → Bs < bs) : v'.ownBlock ≠ some Bs ∧ w1.heap[Bs]? = some (.cells #[.string s] 9 (0, 0)) := by
  have hlt := (Array.getElem?_eq_some_iff.1 hs).1
  have hk : w1.heap[Bs]? = some (.cells #[.string s] 9 (0, 0)) := by
    rw [hgrow.block Bs (by simp; omega) (fun e => hne e.symm), Below.heap_alloc _ _ _ hlt]; exact hs
  refine ⟨fun e => ?_, hk⟩
  rcases hown'.2 with ⟨_, h⟩ | ⟨g, cap, cur, rfl, hb, hg, hnc, hcm, hcs, _⟩
  · omega
  · have e : g = Bs := by simpa [Value.ownBlock] using e
    subst e
    rw [hk] at hg
    injection hg with hg
    injection hg with hg _ _
    subst hg
    by_cases hn : n = 0
    · have := h0 hn; omega
    · simp at hcs; omega
theorem grown_set (w : World) (g i : Nat) (u : Value) : w.grownBy (w.setCell ⟨g, i, none⟩ u) (some g) :=
  ⟨rfl, rfl, rfl, by simp [World.setCell], fun k _ hne => Below.heap_setCell w _ u k (fun e => hne (by rw [e]))⟩
theorem own_le {w : World} {base base' size n : Nat} {e : TypeId} {v : Value} {xs : List Value} (h : w.ownsRow base e size v n xs) (hb : base' ≤ base) : w.ownsRow base' e size v n xs :=
  ⟨h.1, h.2.imp id fun ⟨g, cap, cur, h1, h2, h3⟩ => ⟨g, cap, cur, h1, Nat.le_trans hb h2, h3⟩⟩
/-- What lies there while the texts are split: what has been collected so far, the marks of the walks that are over. -/
structure Sj (w : World) (L : List ByteArray) (ds : List Deferred) (wr : World) : Prop where
  row : ∃ v, Boxed wr w.heap.size 41 v ∧ wr.ownsRow w.heap.size 9 1 v L.length (strs L) ∧ (L.length = 0 → v = .slice none 0 0)
  b : Below w.heap.size w wr
  m : Marks w.heap.size wr.heap.size ds wr

theorem row_own (n₀ : Nat) (e : TypeId) (size : Nat) (v : Value) (k : Nat) (xs : List Value) : Own (fun (_ : Unit) W => W.ownsRow n₀ e size v k xs) := by
  rintro s X Y row hr hg hrow
  refine hr.kept hg ?_
  rcases hr.2 with ⟨rfl, _⟩ | ⟨g, cap, cur, rfl, _, hgb, _⟩
  · exact .inl rfl
  · refine .inr fun e' => ?_
    obtain ⟨o, ho, hc⟩ := hrow g (by simpa [Value.ownBlock] using e'.symm)
    rw [hgb] at ho; cases ho; cases hc
/-- What lies there between two rounds of the walk through one text, whose box is block b. -/
structure Si (w : World) (b : Nat) (L : List ByteArray) (t : ByteArray) (ds : List Deferred) (pre : List Nat) (W : World) : Prop where
  row : ∃ v, Boxed W w.heap.size 41 v ∧ W.ownsRow w.heap.size 9 1 v (L ++ pre.map (pc t)).length (strs (L ++ pre.map (pc t))) ∧ ((L ++ pre.map (pc t)).length = 0 → v = .slice none 0 0) ∧ v.ownBlock ≠ some b
  box : W.heap[b]? = some (.cells #[.string t] 9 (0, 0))
  bel : Below w.heap.size w W
  m : Marks w.heap.size b ds W
theorem Si.own {w : World} {b B : Nat} {L : List ByteArray} {t : ByteArray} {ds : List Deferred} (hb : b ≤ B) (hw : w.heap.size ≤ B) : OwnFrom B (fun (pre : List Nat) W => Si w b L t ds pre W) := by
  rintro pre X Y row ⟨h1, h2, h3, h4⟩ hg hr
  refine ⟨holdsRow_own w.heap.size w.heap.size 41 9 1 (fun pre : List Nat => (L ++ pre.map (pc t)).length) (fun pre => strs (L ++ pre.map (pc t))) (fun pre v => ((L ++ pre.map (pc t)).length = 0 → v = .slice none 0 0) ∧ v.ownBlock ≠ some b) pre X Y row h1 hg (fun r e => (hr r e).2), ?_, ?_, ?_⟩
  · rw [hg.block b (Array.getElem?_eq_some_iff.1 h2).1 (fun e => ?_)]
    · exact h2
    · obtain ⟨_, o, ho, hc⟩ := hr b e.symm
      rw [h2] at ho; injection ho with ho; subst ho; cases hc
  · exact h3.grown hg h3.size (fun k e => Nat.le_trans hw (hr k e).1)
  · exact h4.up fun D hD hh => by
      rw [hg.block D (Array.getElem?_eq_some_iff.1 hh).1 (fun e => by have := (hr D e.symm).1; omega)]; exact hh

set_option maxRecDepth 100000 in
set_option maxHeartbeats 1600000 in
theorem split_own (l : List ByteArray) (A : Option Addr) (c : Nat) (w : World) (hR : Rd w w.heap.size 1 A l.length (strs l)) (hl : l.length ≤ 1000) (hz : ∀ a ∈ l, a.size ≤ 3000) :
    Calls Try.prog 22 #[.slice A l.length c] w (RetO 9 1 (splitL l).length (strs (splitL l)) w) := by
  obtain ⟨i0, hi, hz0, hz1, hz2⟩ := info_parts Try.info9
  have HR := Lib.hid hR; have HZ := Lib.hid hz; clear hR hz
  refine Rnd.calls_of_wp_marks Try.func22 rfl ?_
  simp only [Try.ntmps22, List.size_toArray, List.length_cons, List.length_nil, Nat.reduceAdd, Nat.reduceSub, Array.replicate_succ, Array.replicate_zero, List.push_toArray, List.append_toArray, List.nil_append, List.cons_append]
  obtain ⟨FW, hFW⟩ : ∃ F, F = Fence.wide := ⟨_, rfl⟩
  go_wp2_with fail
  refine wp_loop_ghost_k (fun k a' wr => ∃ (u5 u11 u12 u13 u14 u15 u22 : Value) (j : Nat) (ds : List Deferred), a' = { tmps := #[.slice A l.length c, undef, .slice none 0 0, .pointer (some ⟨w.heap.size, 0, none⟩), undef, u5, undef, undef, .slice A l.length c, .int .i64 (l.length : Int), .int .i64 (j : Int), u11, u12, u13, u14, u15, undef, undef, undef, undef, undef, undef, u22, undef], defers := ds } ∧ j ≤ l.length ∧ k = l.length - j ∧ Sj w (splitL (l.take j)) ds wr) l.length ?_ ?_
  · exact ⟨_, _, _, _, _, _, _, 0, [], rfl, by omega, by omega, ⟨⟨_, Boxed.new _ _ _, World.ownsRow_nil _ _ _ _, fun _ => rfl⟩, (Below.refl _ _).alloc (Nat.le_refl _) _, trivial⟩⟩
  · rintro k a wr ⟨u5, u11, u12, u13, u14, u15, u22, j, ds, rfl, hj, hk, hS⟩ J K hJ hK
    by_cases hlt : j < l.length
    · have hi1 : (j : Int) < (l.length : Int) := by omega
      obtain ⟨g, off, rfl, hg, hc⟩ := (HR.out.below hS.b (Nat.le_refl _)).at_ hlt
      have h1 := hc j hlt
      clear hc
      have hzt := HZ.out _ (List.getElem_mem hlt)
      have hsn := splitL_snoc hlt
      have hll : (splitL (l.take j)).length ≤ 12 * j := by
        have := splitL_len (l.take j) (fun a ha => HZ.out a (List.mem_of_mem_take ha))
        rw [List.length_take] at this
        omega
      have Hsn := Lib.hid hsn; clear hsn
      have HS := Lib.hid hS; clear hS
      have Hk := Lib.hid hk; clear hk
      generalize splitL (l.take j) = L at *
      generalize l[j] = t at *
      go_wp2_with fail
      refine (callsIn_wide.1 (walk_in Fence.wide 9 trivial rfl t wr)).mono ?_
      rintro e w2 ⟨rfl, rfl⟩
      have hbox := heap_alloc_new wr (.cells #[.string t] 9)
      obtain ⟨v0, hv0, hown0, hnil0⟩ := HS.out.row
      have hsz : (wr.alloc (.cells #[.string t] 9)).heap.size = wr.heap.size + 1 := by simp
      have hI0 : Si w wr.heap.size L t ds [] (wr.alloc (.cells #[.string t] 9)) := by
        refine ⟨⟨v0, hv0.alloc (.cells #[.string t] 9), by simpa using hown0.alloc (.cells #[.string t] 9), by simpa using hnil0, fun e => ?_⟩, hbox, HS.out.b.alloc HS.out.b.size _, ?_⟩
        · have := (hown0.lt _ e).2; omega
        · exact HS.out.m.up fun D hD hh => by rw [Below.heap_alloc _ _ _ hD]; exact hh
      have hwb : w.heap.size < wr.heap.size := hv0.lt
      clear hv0 hown0 hnil0 h1
      go_wp2_with fail
      generalize wr.alloc (.cells #[.string t] 9) = wR at *
      refine (wpIn_wide (n := 9)).1 ?_
      obtain ⟨F, hF⟩ : ∃ F, F = Fence.wide := ⟨_, rfl⟩
      have hro : F.round = none := by rw [hF]; rfl
      have h31 : F.fn 31 := by rw [hF]; trivial
      rw [← hF]
      have HF := Lib.hid hF; clear hF
      refine wpIn_rangeFunc_ownG (F := F) (n := 9) hro (by omega) (gf := 31) (lb := #[.pointer (some ⟨wr.heap.size, 0, none⟩)]) rfl h31 (enters_of Try.func31 (by kernel_rfl) rfl)
        (walk_stops F 8 h31 hro (by omega) wr.heap.size t wR hbox (by omega)) (fun h k => h.trans k) (fun W l o o' _ h1 h2 _ => Keep.putObj _ W l o o' h1 h2) (Below.refl _ _) (fun _ => rfl)
        (fun pre W => Si w wr.heap.size L t ds pre W) (fun _ _ _ => False) (Si.own (by omega) (by omega)) (fun _ _ _ _ _ hs _ _ => hs) hI0
        (fun x => { tmps := #[.slice (some ⟨g, off, none⟩) l.length c, undef, .slice none 0 0, .pointer (some ⟨w.heap.size, 0, none⟩), undef, .string t, undef, .string (pc t x), .slice (some ⟨g, off, none⟩) l.length c, .int .i64 (l.length : Int), .int .i64 (j : Int), .bool true, .pointer (some ⟨g, off + j, none⟩), .string t, .string t, .func (.func 31) #[] #[.pointer (some ⟨wr.heap.size, 0, none⟩)], .int .i64 ((256 * x : Nat) : Int), .string (pc t x), undef, undef, undef, undef, u22, undef], defers := [] }) ?assign ?body ?done ?stop
      case assign =>
        intro l x W K hK
        simp only [encP]
        gi_wp2
        exact hK
      case body =>
        rintro l pre x W hIW hlen
        obtain ⟨v, hv, hrow, hnil, hap⟩ := hIW.row
        have hcl := hv.cell
        have hfz := hv.frozen
        have hlen2 : pre.length < 12 := by unfold nPc at hlen; omega
        have hXl : (L ++ pre.map (pc t)).length ≤ 12 * j + 11 := by rw [List.length_append, List.length_map]; omega
        have hstep := Lib.hid (show L ++ (pre ++ [x]).map (pc t) = (L ++ pre.map (pc t)) ++ [pc t x] by simp)
        obtain ⟨bs, hbs1, hbs2, hrow2, hbs3⟩ : ∃ bs, w.heap.size ≤ bs ∧ bs ≤ W.heap.size ∧ W.ownsRow bs 9 1 v (L ++ pre.map (pc t)).length (strs (L ++ pre.map (pc t))) ∧ ((L ++ pre.map (pc t)).length = 0 → wr.heap.size < bs) := by
          have hbl := (Array.getElem?_eq_some_iff.1 hIW.box).1
          by_cases h0 : (L ++ pre.map (pc t)).length = 0
          · refine ⟨W.heap.size, hIW.bel.size, Nat.le_refl _, ?_, fun _ => hbl⟩
            have e : L ++ pre.map (pc t) = [] := List.eq_nil_of_length_eq_zero h0
            rw [hnil h0, e]
            exact World.ownsRow_nil _ _ _ _
          · exact ⟨w.heap.size, Nat.le_refl _, hIW.bel.size, hrow, fun h => absurd h h0⟩
        have hws := hIW.bel.size
        have hbx := hIW.box
        have HIW := Lib.hid hIW; have Hnil := Lib.hid hnil; have Hap := Lib.hid hap; have Hbs3 := Lib.hid hbs3; have Hrow := Lib.hid hrow; have Hv := Lib.hid hv; have Hbx := Lib.hid hbx
        clear hIW hnil hap hbs3 hrow hv hbx
        generalize hX : L ++ pre.map (pc t) = X at *
        have HX := Lib.hid hX; clear hX
        have hnews := cells_one (heap_alloc_new W (.cells #[.string (pc t x)] 9))
        gi_wp2_with (gi_at_builtin; refine wpListIn_append_own _ rfl _ _ 41 rfl bs 9 i0 (.string .empty) 1 16 Try.underlying41 hi hz0 hz1 hz2 rfl (by decide) _ _ _ rfl (hrow2.alloc _) ⟨W.heap.size, 0, none⟩ 1 1 [.string (pc t x)] rfl rfl hnews (by simp [Value.oneCell']) (by simp only [maxLen]; omega) (by omega) (by simp; omega) ?_)
        intro v' w1 hown' hgrow _
        obtain ⟨g', cap', rfl⟩ := ownsRow_succ hown'
        obtain ⟨hap', hbx'⟩ := append_apart Hbx.out Hap.out hown' hgrow Hbs3.out
        have hown2 := own_le hown' hbs1
        obtain ⟨hv1, hv2, hr2, hk2, hb2⟩ := Hv.out.appended (by decide) Hrow.out hws (Nat.le_refl _) hown2 hgrow
        have hc1 := hv1.cell
        have hf1 := hv1.frozen
        have hbx2 : (w1.setCell ⟨w.heap.size, 0, none⟩ (.slice (some ⟨g', 0, none⟩) (X.length + 1) cap')).heap[wr.heap.size]? = some (.cells #[.string t] 9 (0, 0)) := by
          rw [(grown_set w1 w.heap.size 0 _).block _ (Array.getElem?_eq_some_iff.1 hbx').1 (fun e => by injection e with e; omega)]; exact hbx'
        have hS' : Si w wr.heap.size L t ds (pre ++ [x]) (w1.setCell ⟨w.heap.size, 0, none⟩ (.slice (some ⟨g', 0, none⟩) (X.length + 1) cap')) := by
          have e : L ++ (pre ++ [x]).map (pc t) = X ++ [pc t x] := by rw [hstep.out]
          refine ⟨⟨_, hv2, ?_, fun h0 => ?_, hap'⟩, hbx2, HIW.out.bel.trans hb2, HIW.out.m.up fun D hD hh => hk2.same D _ hh rfl⟩
          · rw [e, strs_app, List.length_append]; exact hr2
          · rw [e] at h0; simp at h0
        have HS' := Lib.hid hS'; have Hbx2 := Lib.hid hbx2; have Hk2 := Lib.hid hk2
        clear hS' hbx2 hk2 hb2 hr2 hv2 hown2 hown' hgrow hap' hbx' hnews
        gi_wp2
        exact ⟨Hk2.out.from _, fun o ho _ => by rw [Hbx.out] at ho; injection ho with ho; subst ho; exact Hbx2.out, HS'.out⟩
      case done =>
        rintro D ys W hD rfl hIW hK2
        have hFw := HF.out
        subst hFw
        clear HF
        have HIW := Lib.hid hIW; have HK2 := Lib.hid hK2; clear hIW hK2
        go_wp2_with fail
        refine Handed.intro (l.length - (j + 1)) (by have := Hk.out; omega) (hJ _ _ _ ⟨_, _, _, _, _, _, _, j + 1, _, rfl, by omega, rfl, ?_⟩)
        have hI2 := HIW.out
        obtain ⟨v, hv, hrow, hnil, -⟩ := hI2.row
        have hbl := (Array.getElem?_eq_some_iff.1 hI2.box).1
        have hDl := (Array.getElem?_eq_some_iff.1 HK2.out).1
        have e : splitL (l.take (j + 1)) = L ++ (List.range (nPc t.size)).map (pc t) := by rw [Hsn.out]; rfl
        refine ⟨?_, hI2.bel, ⟨D, rfl, by omega, hDl, HK2.out, hI2.m.mono (by omega)⟩⟩
        rw [e]
        exact ⟨v, hv, hrow, hnil⟩
      case stop =>
        rintro D cc pre W _ _ h _
        exact h.elim
    · have hje : j = l.length := by omega
      subst hje
      rw [List.take_length] at hS
      obtain ⟨v, hv, hown, _⟩ := hS.row
      have hcl := hv.cell
      go_wp2_with fail
      refine leaves_marks (J := fun W => W.ownsRow w.heap.size 9 1 v (splitL l).length (strs (splitL l)) ∧ Below w.heap.size w W) ?_ ?_ ds wr.heap.size wr hS.m ⟨hown, hS.b⟩
      · exact OwnFrom.and (Own.from (row_own _ _ _ _ _ _) _) (ownFrom_below (Nat.le_refl _) (Nat.le_refl _))
      · rintro w' ⟨h1, h2⟩
        exact ⟨_, results_tmp rfl _ _ _, v, rfl, h1, h2⟩
theorem split_any (l : List ByteArray) (A : Option Addr) (c : Nat) (w : World) (hR : Rd w w.heap.size 1 A l.length (strs l)) (hl : l.length ≤ 1000) (hz : ∀ a ∈ l, a.size ≤ 3000) :
    Calls Try.prog 22 #[.slice A l.length c] w (RetS 1 (strs (splitL l)) w) :=
  (split_own l A c w hR hl hz).mono fun _ _ ⟨_, h1, h2, h3⟩ => by subst h1; exact RetS.own h2 h3
end Go.Proofs.Ytolhjdhbcggidaa
