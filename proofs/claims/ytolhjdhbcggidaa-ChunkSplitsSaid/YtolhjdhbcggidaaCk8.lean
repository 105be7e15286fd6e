/-
  Layer 11: ChunkSplits, the walk.
-/
import Derived.Test.YtolhjdhbcggidaaCk7
import Derived.Test.YtolhjdhbcggidaaRbox
namespace Go.Proofs.Ytolhjdhbcggidaa
open Go.RowKit Go.Shelf
attribute [local go_sem] Oper.semAt_some Mono.pureAt Mono.pureUpon
attribute [local irreducible] Mono.steps Mono.wpM

/-- What lies there: how many are asked for, the answer, the pieces that there must be. -/
structure Sp (w : World) (g5 g6 : Nat) (most : Nat) (s : ByteArray) (A6 : Option Addr) (c6 g7 : Nat) (W : World) : Prop where
  b : Below w.heap.size w W
  k5 : Boxed W g5 5 (.int .u8 (most : Int))
  k6 : Boxed W g6 4 (.bool false)
  k7 : Boxed W g7 41 (.slice A6 (pcs s).length c6)
  rd : Rd W g7 1 A6 (pcs s).length (strs (pcs s))
theorem Sp.up {w : World} {g5 g6 most : Nat} {s : ByteArray} {A6 : Option Addr} {c6 g7 : Nat} {W W' : World} (h : Sp w g5 g6 most s A6 c6 g7 W) (hb : Below W.heap.size W W') : Sp w g5 g6 most s A6 c6 g7 W' :=
  ⟨h.b.trans (hb.mono h.b.size), (hb.block _ h.k5.lt).trans h.k5, (hb.block _ h.k6.lt).trans h.k6, (hb.block _ h.k7.lt).trans h.k7, h.rd.below hb (Nat.le_of_lt h.k7.lt)⟩

theorem range_bad {pre : List Nat} {x : Nat} (h : pre = List.range pre.length) (hx : x ≠ pre.length) : ∀ k, pre ++ [x] ≠ List.range (k + 1) := by
  intro k e
  rw [List.range_succ] at e
  have h1 := List.append_inj_right' e rfl
  have h2 := congrArg List.length (List.append_inj_left' e rfl)
  simp at h1 h2
  omega
theorem range_good {pre : List Nat} {x : Nat} (h : pre = List.range pre.length) (hx : x = pre.length) : pre ++ [x] = List.range (pre ++ [x]).length := by
  subst hx
  simp only [List.length_append, List.length_cons, List.length_nil, Nat.zero_add, List.range_succ]
  rw [← h]
theorem rd_own (B g n : Nat) (A : Option Addr) (xs : List Value) {β : Type} : OwnFrom B (fun (_ : β) W => Rd W g 1 A n xs) := by
  rintro s X Y row hR hg hr
  refine ⟨hR.1, fun hn => ?_⟩
  obtain ⟨b, off, rfl, hb, hc⟩ := hR.2 hn
  exact ⟨b, off, rfl, hb, fun j u hu => cell_kept (hc j u hu) hg (fun r e => (hr r e).2)⟩
/-- What lies there between two rounds of the walk. -/
structure Sl (w : World) (g5 g6 most : Nat) (s : ByteArray) (A6 : Option Addr) (c6 g7 g9 g10 : Nat) (pre : List Nat) (W : World) : Prop where
  b : Below w.heap.size w W
  k5 : Boxed W g5 5 (.int .u8 (most : Int))
  k6 : Boxed W g6 4 (.bool false)
  k7 : Boxed W g7 41 (.slice A6 (pcs s).length c6)
  rd : Rd W g7 1 A6 (pcs s).length (strs (pcs s))
  many : Boxed W g9 3 (.int .i64 (pre.length : Int))
  from_ : Boxed W g10 3 (.int .i64 ((min (256 * pre.length) s.size : Nat) : Int))
  px : pre = List.range pre.length
  le : pre.length ≤ nPc s.size
theorem Sl.own {w : World} {g5 g6 most : Nat} {s : ByteArray} {A6 : Option Addr} {c6 g7 g9 g10 B : Nat} (hB : w.heap.size ≤ B) : OwnFrom B (Sl w g5 g6 most s A6 c6 g7 g9 g10) := by
  rintro pre X Y row h hg hr
  have hr2 : ∀ r, row = some r → ∃ o : Obj, X.heap[r]? = some o ∧ o.isCells = false := fun r e => (hr r e).2
  exact ⟨h.b.grown hg h.b.size (fun k e => Nat.le_trans hB (hr k e).1), boxed_own _ _ (fun _ : Unit => _) () X Y row h.k5 hg hr2, boxed_own _ _ (fun _ : Unit => _) () X Y row h.k6 hg hr2,
    boxed_own _ _ (fun _ : Unit => _) () X Y row h.k7 hg hr2, rd_own B _ _ _ _ () X Y row h.rd hg hr, boxed_own _ _ (fun _ : Unit => _) () X Y row h.many hg hr2, boxed_own _ _ (fun _ : Unit => _) () X Y row h.from_ hg hr2, h.px, h.le⟩
theorem Sl.step {w : World} {g5 g6 most : Nat} {s : ByteArray} {A6 : Option Addr} {c6 g7 g9 : Nat} {pre : List Nat} {W : World} (h : Sl w g5 g6 most s A6 c6 g7 g9 (g9 + 1) pre W) (hw : w.heap.size ≤ g9) (h5 : g5 < g9) (h6 : g6 < g9) (h7 : g7 < g9) (hl : pre.length < nPc s.size)
    {u v : Int} (hu : u = ((min (256 * (pre.length + 1)) s.size : Nat) : Int)) (hv : v = (pre.length : Int) + 1) : Sl w g5 g6 most s A6 c6 g7 g9 (g9 + 1) (pre ++ [pre.length]) ((W.setCell ⟨g9 + 1, 0, none⟩ (.int .i64 u)).setCell ⟨g9, 0, none⟩ (.int .i64 v)) := by
  have hl1 : (pre ++ [pre.length]).length = pre.length + 1 := by simp
  subst hu; subst hv
  refine ⟨(h.b.setCell (p := ⟨g9 + 1, 0, none⟩) (by simp; omega) _).setCell (p := ⟨g9, 0, none⟩) (by simp; omega) _, (h.k5.other (by omega) _).other (by omega) _, (h.k6.other (by omega) _).other (by omega) _, (h.k7.other (by omega) _).other (by omega) _,
    (h.rd.setCell (p := ⟨g9 + 1, 0, none⟩) (by simp; omega) _).setCell (p := ⟨g9, 0, none⟩) (by simp; omega) _, ?_, ?_, range_good h.px rfl, by rw [hl1]; omega⟩
  · rw [hl1]; exact (h.many.other (by omega) _).set _
  · rw [hl1]; exact (h.from_.set _).other (by omega) _
/-- How a round leaves: what came is none of the text's pieces (that is never so); or as many have come as are asked for. -/
def Lv (w : World) (g5 g6 most : Nat) (s : ByteArray) (A6 : Option Addr) (c6 g7 g9 g10 : Nat) (j : Code) (pre : List Nat) (W : World) : Prop :=
  (j = .ret ∧ ∀ k, pre ≠ List.range (k + 1)) ∨ (j = .exit 0 ∧ pre.length = max 1 most ∧ Sl w g5 g6 most s A6 c6 g7 g9 g10 pre W)
def Go_ (w : World) (g5 g6 most : Nat) (s : ByteArray) (A6 : Option Addr) (c6 g7 g9 g10 : Nat) (pre : List Nat) (W : World) : Prop :=
  Sl w g5 g6 most s A6 c6 g7 g9 g10 pre W ∧ (pre.length = 0 ∨ pre.length < most)
set_option maxRecDepth 100000 in
set_option maxHeartbeats 3200000 in
theorem chunkSplits_walk (A : Option Addr) (c : Nat) (l : List ByteArray) (s : ByteArray) (most : Nat) (w : World) (hR : Rd w w.heap.size 1 A l.length (strs l)) (hz : ∀ a ∈ l, a.size ≤ maxLen) (hs : s.size ≤ maxLen) (hm : most < 256) (hlc : l.length ≤ c) (hcm : c ≤ maxLen) :
    Calls Try.prog 7 #[.slice A l.length c, .string s, .int .u8 (most : Int)] w (RetB true w) := by
  have hlm : l.length ≤ maxLen := Nat.le_trans hlc hcm
  have hsm : s.size ≤ 9223372036854775807 := hs
  have hB0 : Below w.heap.size w ((w.alloc (.cells #[.int .u8 (most : Int)] 5)).alloc (.cells #[.bool false] 4)) := ((Below.refl _ _).alloc (Nat.le_refl _) _).alloc (by simp) _
  have hb5 : Boxed ((w.alloc (.cells #[.int .u8 (most : Int)] 5)).alloc (.cells #[.bool false] 4)) w.heap.size 5 (.int .u8 (most : Int)) := (Boxed.new w 5 (.int .u8 (most : Int))).alloc _
  have hb6 := Boxed.new (w.alloc (.cells #[.int .u8 (most : Int)] 5)) 4 (.bool false)
  rw [World.size_alloc] at hb6
  have HR := Lib.hid hR; have HB0 := Lib.hid hB0; have Hb5 := Lib.hid hb5; have Hb6 := Lib.hid hb6
  clear hR hB0 hb5 hb6
  refine Rnd.calls_of_wp_marks Try.func7 rfl ?_
  simp only [Try.ntmps7, List.size_toArray, List.length_cons, List.length_nil, Nat.reduceAdd, Nat.reduceSub, Array.replicate_succ, Array.replicate_zero, List.push_toArray, List.append_toArray, List.nil_append, List.cons_append]
  go_wp2_with fail
  generalize (w.alloc _).alloc _ = w0 at *
  refine (greatS_any l A c 12 w0 (HR.out.up HB0.out (Nat.le_refl _) HB0.out.size) hlm hz).mono ?_
  rintro e w1 ⟨rfl, hb1⟩
  cases hg : greatB l 12
  · obtain ⟨hs3, hn⟩ := great_no (n := 12) hg
    have hR1 := (HR.out.up HB0.out (Nat.le_refl _) HB0.out.size).up hb1 (Nat.le_refl _) hb1.size
    have hB1 := HB0.out.trans (hb1.mono HB0.out.size)
    have hk5 : Boxed w1 w.heap.size 5 (.int .u8 (most : Int)) := (hb1.block _ Hb5.out.lt).trans Hb5.out
    have hk6 : Boxed w1 (w.heap.size + 1) 4 (.bool false) := (hb1.block _ Hb6.out.lt).trans Hb6.out
    have HS := Lib.hid hs3; have HB1 := Lib.hid hB1; have HR1 := Lib.hid hR1; have Hk5 := Lib.hid hk5; have Hk6 := Lib.hid hk6
    clear hs3 hb1 hB1 hR1 hk5 hk6 hz hg HR HB0 Hb5 Hb6
    by_cases hgs : 3000 < s.size
    · have hd : decide ((3000 : Int) < (s.size : Int)) = true := decide_eq_true (by omega)
      have c6 := Hk6.out.cell
      have f6 := Hk6.out.frozen
      go_wp2_with fail
      have hc := (Hk6.out.set (.bool true)).cell
      exact ⟨.bool true, by simp [results, Try.f7, go_sem, hc], rfl, HB1.out.setCell (p := ⟨w.heap.size + 1, 0, none⟩) (by simp) _⟩
    · have hd : decide ((3000 : Int) < (s.size : Int)) = false := decide_eq_false (by omega)
      go_wp2_with fail
      refine (split_any l A c w1 HR1.out (by omega) HS.out).mono ?_
      rintro e w2 ⟨A2, n2, c2, rfl, hn2, hc2, hR2, hb2⟩
      have hl2 := hR2.len1
      rw [strs_len] at hl2
      subst hl2
      have hr2 := HR1.out.up hb2 (Nat.le_refl _) hb2.size
      have Hr2 := Lib.hid hr2; have HR2 := Lib.hid hR2; have Hb2 := Lib.hid hb2
      clear hr2 hR2 hb2
      go_wp2_with fail
      refine (splitR_any l A c w2 Hr2.out (by omega) HS.out).mono ?_
      rintro e w3 ⟨A3, n3, c3, rfl, hn3, hc3, hR3, hb3⟩
      have hl3 := hR3.len1
      rw [strs_len] at hl3
      subst hl3
      have hr3 := HR2.out.up hb3 (Nat.le_refl _) hb3.size
      have hsl := splitL_len l HS.out
      have hb13 := Hb2.out.trans (hb3.mono Hb2.out.size)
      have Hr3 := Lib.hid hr3; have HR3 := Lib.hid hR3; have Hb13 := Lib.hid hb13
      clear hr3 hR3 hb3 hb13 HR2 Hr2
      generalize splitL l = p at *
      go_wp2_with fail
      refine (sameS_any p A2 A3 c2 c3 w3 Hr3.out HR3.out (by simp only [maxLen]; omega)).mono ?_
      rintro e w4 ⟨rfl, hb4⟩
      have hb14 := Hb13.out.trans (hb4.mono Hb13.out.size)
      have hB4 := HB1.out.trans (hb14.mono HB1.out.size)
      have hk5 : Boxed w4 w.heap.size 5 (.int .u8 (most : Int)) := (hb14.block _ Hk5.out.lt).trans Hk5.out
      have hk6 : Boxed w4 (w.heap.size + 1) 4 (.bool false) := (hb14.block _ Hk6.out.lt).trans Hk6.out
      have hb5 : Below w4.heap.size w4 (w4.alloc (.cells #[.string s] 9)) := (Below.refl _ _).alloc (Nat.le_refl _) _
      have hR5 : Rd (w4.alloc (.cells #[.string s] 9)) (w4.alloc (.cells #[.string s] 9)).heap.size 1 (some ⟨w4.heap.size, 0, none⟩) [s].length (strs [s]) := by
        have := Rd.new w4 #[.string s] 9 (size := 1) (n := 1) (by simp)
        simpa [strs] using this
      have HB4 := Lib.hid hB4; have Hk5' := Lib.hid hk5; have Hk6' := Lib.hid hk6; have Hb5 := Lib.hid hb5; have HR5 := Lib.hid hR5
      clear hb4 hb14 hB4 hk5 hk6 hb5 hR5 Hk5 Hk6 Hb13 HR3 Hr3 Hb2 HR1 HB1
      go_wp2_with fail
      generalize hg4 : w4.heap.size = g4 at *
      generalize w4.alloc _ = w5 at *
      refine (splitR_any [s] (some ⟨g4, 0, none⟩) 1 w5 HR5.out (by simp) (by intro a ha; simp at ha; subst ha; omega)).mono ?_
      have hsp : splitL [s] = pcs s := by simp [splitL]
      rw [hsp]
      clear hsp
      rintro e w6 ⟨A6, n6, c6, rfl, hn6, hc6, hR6, hb6⟩
      have hl6 := hR6.len1
      rw [strs_len] at hl6
      subst hl6
      have S7 : Sp w w.heap.size (w.heap.size + 1) most s A6 c6 w6.heap.size (w6.alloc (.cells #[.slice A6 (pcs s).length c6] 41)) := by
        have hb7 : Below w6.heap.size w6 (w6.alloc (.cells #[.slice A6 (pcs s).length c6] 41)) := (Below.refl _ _).alloc (Nat.le_refl _) _
        have hb46 : Below g4 w4 w6 := Hb5.out.trans (hb6.mono (by have := Hb5.out.size; omega))
        have h56 := hb46.size
        have h5l := Hk5'.out.lt
        have h6l := Hk6'.out.lt
        have hw4 := HB4.out.size
        refine ⟨(HB4.out.trans (hb46.mono (by omega))).trans (hb7.mono (by omega)), ?_, ?_, Boxed.new _ _ _, hR6.below hb7 (Nat.le_refl _)⟩
        · exact (hb7.block _ (by omega)).trans ((hb46.block _ (by omega)).trans Hk5'.out)
        · exact (hb7.block _ (by omega)).trans ((hb46.block _ (by omega)).trans Hk6'.out)
      have HS7 := Lib.hid S7
      have Hg4 := Lib.hid hg4
      clear S7 hg4 hR6 hb6 Hk5' Hk6' HR5 Hb5 HB4
      go_wp2_with fail
      generalize hg7 : w6.heap.size = g7 at *
      generalize w6.alloc _ = w7 at *
      clear hg7
      refine (callsIn_wide.1 (walk_in Fence.wide 9 trivial rfl s w7)).mono ?_
      rintro e w8 ⟨rfl, rfl⟩
      have hb8 : Below w7.heap.size w7 (w7.alloc (.cells #[.string s] 9)) := (Below.refl _ _).alloc (Nat.le_refl _) _
      have S8 := HS7.out.up hb8
      have hbox := heap_alloc_new w7 (.cells #[.string s] 9)
      have h8 : w7.heap.size < (w7.alloc (.cells #[.string s] 9)).heap.size := by simp
      have HS8 := Lib.hid S8; have Hbox := Lib.hid hbox
      clear S8 hbox hb8 HS7
      have hnf : ∀ (g : Nat) (w : World), Sem.run Try.prog (binOp BinOp.eql 47 (Value.func (Fn.func 31) #[] #[Value.pointer (some ⟨g, 0, none⟩)]) Value.nilFunc) w = .ok (.bool false) w := fun _ _ => by kernel_rfl
      go_wp2_with fail
      have hsz8 : (w7.alloc (.cells #[.string s] 9)).heap.size = w7.heap.size + 1 := by simp
      generalize w7.heap.size = g8 at *
      generalize w7.alloc _ = w8 at *
      clear hnf h8
      have hSL : Sl w w.heap.size (w.heap.size + 1) most s A6 c6 g7 (g8 + 1) (g8 + 1 + 1) [] ((w8.alloc (.cells #[.int .i64 0] 3)).alloc (.cells #[.int .i64 0] 3)) := by
        have hb : Below w8.heap.size w8 ((w8.alloc (.cells #[.int .i64 0] 3)).alloc (.cells #[.int .i64 0] 3)) := ((Below.refl _ _).alloc (Nat.le_refl _) _).alloc (by simp) _
        have S9 := HS8.out.up hb
        have h9 : Boxed ((w8.alloc (.cells #[.int .i64 0] 3)).alloc (.cells #[.int .i64 0] 3)) w8.heap.size 3 (.int .i64 0) := (Boxed.new w8 3 (.int .i64 0)).alloc _
        have h10 := Boxed.new (w8.alloc (.cells #[.int .i64 0] 3)) 3 (.int .i64 0)
        rw [World.size_alloc, hsz8] at h10
        rw [hsz8] at h9
        exact ⟨S9.b, S9.k5, S9.k6, S9.k7, S9.rd, h9, by simpa using h10, rfl, Nat.zero_le _⟩
      have hbox9 : ((w8.alloc (.cells #[.int .i64 0] 3)).alloc (.cells #[.int .i64 0] 3)).heap[g8]? = some (.cells #[.string s] 9 (0, 0)) := by
        rw [Below.heap_alloc _ _ _ (by simp; omega), Below.heap_alloc _ _ _ (by omega)]; exact Hbox.out
      have hwz : ((w8.alloc (.cells #[.int .i64 0] 3)).alloc (.cells #[.int .i64 0] 3)).heap.size = g8 + 3 := by simp; omega
      have hw8 : w.heap.size ≤ g8 + 1 := by have := HS8.out.b.size; omega
      have hg7 : g7 < g8 + 1 := by have := HS8.out.k7.lt; omega
      have hg5 : w.heap.size + 1 < g8 + 1 := by have := HS8.out.k6.lt; omega
      clear Hbox HS8
      generalize (w8.alloc _).alloc _ = wR at *
      have HSL := Lib.hid hSL; clear hSL
      rename_i K hK
      have HK := Lib.hid hK; clear hK
      refine (wpIn_wide (n := 9)).1 ?_
      obtain ⟨F, hF⟩ : ∃ F, F = Fence.wide := ⟨_, rfl⟩
      have hro : F.round = none := by rw [hF]; rfl
      have h31 : F.fn 31 := by rw [hF]; trivial
      rw [← hF]
      have HF := Lib.hid hF; clear hF
      refine wpIn_rangeFunc_ownG (F := F) (n := 9) hro (by omega) (gf := 31) (lb := #[.pointer (some ⟨g8, 0, none⟩)]) rfl h31 (enters_of Try.func31 (by kernel_rfl) rfl)
        (walk_stops F 8 h31 hro (by omega) g8 s wR hbox9 (by omega)) (fun h k => h.trans k) (fun W l o o' _ h1 h2 _ => Keep.putObj _ W l o o' h1 h2) (Below.refl _ _) (fun _ => rfl)
        (Go_ w w.heap.size (w.heap.size + 1) most s A6 c6 g7 (g8 + 1) (g8 + 1 + 1))
        (Lv w w.heap.size (w.heap.size + 1) most s A6 c6 g7 (g8 + 1) (g8 + 1 + 1))
        (OwnFrom.and (Sl.own (by omega)) (ownFrom_pure _ _)) ?hIx ⟨HSL.out, .inl rfl⟩
        (fun x => { tmps := #[.slice A l.length c, .string s, .int .u8 (most : Int), undef, undef, .pointer (some ⟨w.heap.size, 0, none⟩), .pointer (some ⟨w.heap.size + 1, 0, none⟩), .pointer (some ⟨g7, 0, none⟩), .func (.func 31) #[] #[.pointer (some ⟨g8, 0, none⟩)], .pointer (some ⟨g8 + 1, 0, none⟩), .pointer (some ⟨g8 + 1 + 1, 0, none⟩), .int .i64 ((256 * x : Nat) : Int), .string (pc s x), .slice A l.length c, .bool false, .bool false, .string s, .int .i64 s.size, .bool false, .bool false, .slice A l.length c, .slice A2 p.length c2, .slice A l.length c, .slice A3 p.length c3, .bool true, .bool false, .string s, .slice (some ⟨g4, 0, none⟩) 1 1, .slice A6 (pcs s).length c6, .string s, .func (.func 31) #[] #[.pointer (some ⟨g8, 0, none⟩)], .func (.func 31) #[] #[.pointer (some ⟨g8, 0, none⟩)], .bool false, .func (.func 31) #[] #[.pointer (some ⟨g8, 0, none⟩)], .int .i64 ((256 * x : Nat) : Int), .string (pc s x), undef, undef, undef, undef, undef, undef, undef, undef, undef, undef, undef, undef, undef, undef, undef, undef, undef, undef, undef, undef, undef, undef, undef, undef, undef, undef, undef, undef, undef, undef, undef, undef, undef, undef, undef, undef, undef, undef], defers := [] }) ?assign ?body ?done ?stop
      case hIx =>
        rintro j pre X Y row h hg hr
        rcases h with ⟨h1, h2⟩ | ⟨h1, h2, h3⟩
        · exact .inl ⟨h1, h2⟩
        · exact .inr ⟨h1, h2, Sl.own (by omega) pre X Y row h3 hg hr⟩
      case assign =>
        intro l x W K hK
        simp only [encP]
        gi_wp2
        exact hK
      case body =>
        rintro l pre x W ⟨hS, hlt⟩ hlen
        have hpl : (pcs s).length = nPc s.size := pcsTo_len _ _
        obtain ⟨b, off, rfl, hbl, hcc⟩ := Rd.at_ (f := Value.string) (l := pcs s) hS.rd (k := pre.length) (by omega)
        have hck := hcc pre.length (by omega)
        have hpk : (pcs s)[pre.length]'(by omega) = pc s pre.length := by simp [pcs, pcsTo]
        rw [hpk] at hck
        have c5 := hS.k5.cell
        have c6' := hS.k6.cell
        have f6 := hS.k6.frozen
        have c7 := hS.k7.cell
        have c9 := hS.many.cell
        have f9 := hS.many.frozen
        have c10 := hS.from_.cell
        have f10 := hS.from_.frozen
        have hle := hS.le
        have hdA : decide (nPc s.size ≤ pre.length) = false := decide_eq_false (by omega)
        have hi : (pre.length : Int) < (nPc s.size : Int) := by omega
        have hk13 : nPc s.size ≤ 12 := by unfold nPc; omega
        have hmn : min (256 * pre.length) s.size = 256 * pre.length := Nat.min_eq_left (by unfold nPc at hlen; omega)
        rw [hmn] at c10
        have HS := Lib.hid hS; have HL := Lib.hid hlt; have HMN := Lib.hid hmn
        rw [hpl] at c7
        clear hcc hpk hS hlt hmn
        rw [hpl]
        clear hpl
        by_cases hx : x = pre.length
        · subst hx
          have hpz := pc_size s pre.length
          have hq : Hid (((256 * pre.length : Nat) : Int) + ((pc s pre.length).size : Int) = ((min (256 * (pre.length + 1)) s.size : Nat) : Int)) := by show _ = _; rw [hpz]; unfold nPc at hlen; omega
          have hp1 : (pc s pre.length).size ≤ 256 := by omega
          have hk0 : 256 * pre.length ≤ 3072 := by omega
          clear hpz
          have hkp : ∀ a b, Keep g8 W ((W.setCell ⟨g8 + 1 + 1, 0, none⟩ a).setCell ⟨g8 + 1, 0, none⟩ b) := fun a b o ho _ => by
            rw [Below.heap_setCell _ _ _ _ (by show ¬ g8 = g8 + 1; omega), Below.heap_setCell _ _ _ _ (by show ¬ g8 = g8 + 1 + 1; omega)]; exact ho
          have Hkp := Lib.hid hkp; clear hkp
          have hst := Lib.hid (fun u v hu hv => HS.out.step (u := u) (v := v) (by omega) (by omega) (by omega) (by omega) hlen hu hv)
          generalize pc s pre.length = px at *
          generalize 256 * pre.length = ak at *
          by_cases hms : most ≤ pre.length + 1
          · have hd : decide (most ≤ pre.length + 1) = true := decide_eq_true hms
            have hd2 : decide ((most : Int) ≤ (pre.length : Int) + 1) = true := decide_eq_true (by omega)
            gi_wp2
            refine ⟨((KeepsOthers.setCell _ _ _).trans (KeepsOthers.setCell _ _ _)).from _, .inr ⟨rfl, ?_, hst.out _ _ hq.out rfl⟩⟩
            have := HL.out
            simp
            omega
          · have hd : decide (most ≤ pre.length + 1) = false := decide_eq_false hms
            have hd2 : decide ((most : Int) ≤ (pre.length : Int) + 1) = false := decide_eq_false (by omega)
            gi_wp2
            exact ⟨((KeepsOthers.setCell _ _ _).trans (KeepsOthers.setCell _ _ _)).from _, Hkp.out _ _, hst.out _ _ hq.out rfl, .inr (by simp; omega)⟩
        · have hx2 : ¬ 256 * x = 256 * pre.length := by omega
          have hbad := Lib.hid (range_bad HS.out.px hx)
          clear hx
          generalize 256 * x = ax at *
          generalize 256 * pre.length = ak at *
          have hne : ((ax : Int) != (ak : Int)) = true := by simp; omega
          have hne2 : ((ax : Int) == (ak : Int)) = false := by simp; omega
          by_cases he : pc s x = pc s pre.length
          · rw [← he] at hck
            clear he
            generalize pc s x = px at *
            gi_wp2
            exact ⟨(KeepsOthers.setCell _ _ _).from _, .inl ⟨rfl, hbad.out⟩⟩
          · generalize pc s x = px at *
            generalize pc s pre.length = pk at *
            clear he
            gi_wp2
            all_goals exact ⟨(KeepsOthers.setCell _ _ _).from _, .inl ⟨rfl, hbad.out⟩⟩
      case' done =>
        rintro D ys W hD rfl ⟨hS, hlt⟩ hK2
        have hFw := HF.out
        subst hFw
        clear HF
        have hcnt : (List.range (nPc s.size)).length = min (max 1 most) (nPc s.size) := by simp at hlt ⊢; omega
        generalize List.range (nPc s.size) = ys at *
        refine HK.out _ _ ?_
        clear HK HSL hlt
      case' stop =>
        rintro D cc ys W hD ⟨k, hk, rfl⟩ hL hK2
        rcases hL with ⟨-, h2⟩ | ⟨rfl, hlt, hS⟩
        · exact absurd rfl (h2 k)
        have hFw := HF.out
        subst hFw
        clear HF
        have hcnt : (List.range (k + 1)).length = min (max 1 most) (nPc s.size) := by simp at hlt ⊢; omega
        generalize List.range (k + 1) = ys at *
        refine (wpIn_wide (n := 9)).2 ?_
        go_wp2_with fail
        refine HK.out _ _ ?_
        clear HK HSL hlt
      all_goals
        have hpl : (pcs s).length = nPc s.size := pcsTo_len _ _
        have c5 := hS.k5.cell
        have c6' := hS.k6.cell
        have f6 := hS.k6.frozen
        have c7 := hS.k7.cell
        have c9 := hS.many.cell
        rw [hpl] at c7
        have HS := Lib.hid hS
        have HC := Lib.hid hcnt
        have hWD : w.heap.size ≤ D := by omega
        have HK2 := Lib.hid hK2
        clear hS hpl hcnt hD hK2
        rw [HC.out] at c9
        have hk13 : nPc s.size ≤ 12 := by unfold nPc; omega
        go_wp2_with fail
        all_goals
          refine (awake11_any W).mono ?_
          rintro e w9 ⟨rfl, hb9⟩
          have hK9 : w9.heap[D]? = some (.deferred (some [])) := (hb9.block D (Array.getElem?_eq_some_iff.1 HK2.out).1).trans HK2.out
          have hk6 : Boxed w9 (w.heap.size + 1) 4 (.bool false) := (hb9.block _ HS.out.k6.lt).trans HS.out.k6
          have hB9 := HS.out.b.trans (hb9.mono HS.out.b.size)
          have d6 := hk6.cell
          have g6 := hk6.frozen
          have HK9 := Lib.hid hK9; have Hk6 := Lib.hid hk6; have HB9 := Lib.hid hB9
          clear hb9 hK9 hk6 hB9 c5 c6' f6 c7 c9 HK2
          go_wp2_with fail
          have hK' := (KeepsOthers.setCell w9 ⟨w.heap.size + 1, 0, none⟩ (.bool true)).same D _ HK9.out rfl
          refine ⟨by simp, .inl ⟨_, _, rfl, run_takeDeferred hK', ?_⟩⟩
          have hc5 := cell_kept (Hk6.out.set (.bool true)).cell (grownBy_putObj' _ D (.deferred none)) (fun r e => by cases e; exact ⟨_, hK', rfl⟩)
          have hB5 : Below w.heap.size w (w9.setCell ⟨w.heap.size + 1, 0, none⟩ (.bool true)) := HB9.out.setCell (p := ⟨w.heap.size + 1, 0, none⟩) (by simp) _
          refine ⟨.bool true, ?_, rfl, hB5.trans (belowK_b (w := w) (Nat.le_refl _) _ D _ _ hWD hK' rfl rfl)⟩
          simp [results, Try.f7, go_sem, hc5]
  · have HB1 := Lib.hid hb1; clear hb1 hg
    have c6 : w1.cell? ⟨w.heap.size + 1, 0, none⟩ = some (.bool false) := Boxed.cell ((HB1.out.block _ Hb6.out.lt).trans Hb6.out)
    have f6 : w1.frozen? ⟨w.heap.size + 1, 0, none⟩ = false := Boxed.frozen ((HB1.out.block _ Hb6.out.lt).trans Hb6.out)
    go_wp2_with fail
    have hc := (Boxed.set (.bool true) ((HB1.out.block _ Hb6.out.lt).trans Hb6.out)).cell
    exact ⟨.bool true, by simp [results, Try.f7, go_sem, hc], rfl, (HB0.out.trans (HB1.out.mono HB0.out.size)).setCell (p := ⟨w.heap.size + 1, 0, none⟩) (by simp) _⟩
end Go.Proofs.Ytolhjdhbcggidaa
