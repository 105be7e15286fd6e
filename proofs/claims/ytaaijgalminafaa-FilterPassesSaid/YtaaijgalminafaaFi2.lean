import Derived.Test.YtaaijgalminafaaFloat
import Derived.Test.YtaaijgalminafaaSoA
import Derived.Test.YtaaijgalminafaaMem
/-
  Layer 24: filters: what they hold; Own (f7), Oid (f9), the reference's Oid (f16).
-/
namespace Go.Proofs.Ytaaijgalminafaa
open Go.RowKit Mono
attribute [local go_sem] pureAt pureUpon
attribute [local irreducible] Mono.steps Mono.wpM

theorem Try.info25 : (Try.prog.info? 25).map (fun i => (i.zero, i.size, i.bytes)) = some (some (.int .u32 0), 1, 4) := by kernel_rfl
/-- A filter: both packages' have these fields in this order. -/
structure Fl where
  all : Bool
  oids : List Int
  kinds : Int
  empty : Bool
def u32s (l : List Int) : List Value := l.map (.int .u32)
theorem u32s_len (l : List Int) : (u32s l).length = l.length := by simp [u32s]
theorem u32s_one (l : List Int) : ∀ u ∈ u32s l, u.oneCell' = true := map_one (fun _ => rfl) l
theorem u32s_app (a b : List Int) : u32s (a ++ b) = u32s a ++ u32s b := by simp [u32s]
def Fl.cells (f : Fl) (v : Value) : Array Value := #[.bool f.all, v, .int .u8 f.kinds, .bool f.empty]
def Fl.v (f : Fl) (A : Option Addr) (c : Nat) : Value := .agg (f.cells (.slice A f.oids.length c))
/-- Does an oid pass? -/
def Fl.oid (f : Fl) (o : Int) : Bool := f.all || decide (o ∈ f.oids)
structure FlAt (w : World) (B : Nat) (f : Fl) (A : Option Addr) (c : Nat) : Prop where
  rd : Rd w B 1 A f.oids.length (u32s f.oids)
  le : f.oids.length ≤ c
  cm : c ≤ maxLen
structure FlOk (f : Fl) : Prop where
  k0 : 0 ≤ f.kinds
  k1 : f.kinds < 256
  o : ∀ x ∈ f.oids, 0 ≤ x ∧ x < 4294967296
theorem FlAt.up {w w' : World} {B B' D : Nat} {f : Fl} {A : Option Addr} {c : Nat} (h : FlAt w B f A c) (hb : Below D w w') (hD : B ≤ D) (hB : B ≤ B') : FlAt w' B' f A c := ⟨h.rd.up hb hD hB, h.le, h.cm⟩
theorem FlAt.ext {w w' : World} {f : Fl} {A : Option Addr} {c : Nat} (h : FlAt w w.heap.size f A c) (hb : Below w.heap.size w w') : FlAt w' w'.heap.size f A c := h.up hb (Nat.le_refl _) hb.size
/-- A call returned this filter. -/
def RetFl (f : Fl) (w : World) (e : Ending) (w' : World) : Prop := ∃ v, e = .returned (.agg (f.cells v)) ∧ w'.ownsRow w.heap.size 25 1 v f.oids.length (u32s f.oids) ∧ Below w.heap.size w w'
theorem FlAt.of_own {w : World} {base : Nat} {f : Fl} {v : Value} (h : w.ownsRow base 25 1 v f.oids.length (u32s f.oids)) : ∃ A c, v = .slice A f.oids.length c ∧ FlAt w w.heap.size f A c := by
  obtain ⟨A, c, rfl, h1, h2, h3⟩ := Rd.of_own h
  exact ⟨A, c, rfl, h3, h1, h2⟩

def owF (B : Nat) (n : Nat) (xs : List Value) : Nat → Option Fact
  | 2 => some (.litK B 0 #[] 25)
  | 5 => some (.own B 25 1 n xs)
  | _ => none
set_option maxRecDepth 100000 in
set_option maxHeartbeats 3200000 in
/-- Own: the filter as it is. -/
theorem own_any (f : Fl) (A : Option Addr) (c : Nat) (w : World) (hF : FlAt w w.heap.size f A c) (hl : f.oids.length ≤ 1000000) : Calls Try.prog 7 #[f.v A c] w (RetFl f w) := by
  obtain ⟨i0, hi, hz0, hz1, hz2⟩ := info_parts Try.info25
  obtain ⟨hR, hlc, hcm⟩ := hF
  obtain ⟨al, xs, kd, em⟩ := f
  simp only at hR hlc hl
  have HR := Lib.hid hR; clear hR
  unfold Fl.v Fl.cells
  go_enter Try.func7, Try.ntmps7
  go_wp2_with fail
  have hb0 : Below w.heap.size w ((w.alloc (.cells #[.bool al, .slice A xs.length c, .int .u8 kd, .bool em] 24)).alloc (.cells #[.bool false, .slice none 0 0, .int .u8 0, .bool false] 28)) := ((Below.refl _ w).alloc (Nat.le_refl _) _).alloc (by simp) _
  have hx0 : ((w.alloc (.cells #[.bool al, .slice A xs.length c, .int .u8 kd, .bool em] 24)).alloc (.cells #[.bool false, .slice none 0 0, .int .u8 0, .bool false] 28)).heap[w.heap.size]? = some (.cells #[.bool al, .slice A xs.length c, .int .u8 kd, .bool em] 24 (0, 0)) := by
    rw [Below.heap_alloc _ _ _ (by simp)]; exact heap_alloc_new w _
  have hx1 : ((w.alloc (.cells #[.bool al, .slice A xs.length c, .int .u8 kd, .bool em] 24)).alloc (.cells #[.bool false, .slice none 0 0, .int .u8 0, .bool false] 28)).heap[w.heap.size + 1]? = some (.cells #[.bool false, .slice none 0 0, .int .u8 0, .bool false] 28 (0, 0)) := by
    have := heap_alloc_new (w.alloc (.cells #[.bool al, .slice A xs.length c, .int .u8 kd, .bool em] 24)) (.cells #[.bool false, .slice none 0 0, .int .u8 0, .bool false] 28)
    rwa [World.size_alloc] at this
  have HB0 := Lib.hid hb0; have HX0 := Lib.hid hx0; have HX1 := Lib.hid hx1
  clear hb0 hx0 hx1
  generalize ((w.alloc (.cells #[.bool al, .slice A xs.length c, .int .u8 kd, .bool em] 24)).alloc (.cells #[.bool false, .slice none 0 0, .int .u8 0, .bool false] 28)) = w0 at *
  refine wp_region_fx_tail 11 (owF w0.heap.size xs.length (u32s xs)) (by kernel_rfl) (by kernel_rfl) (by kernel_rfl) (by kernel_rfl) ?_
  have hlt : w.heap.size < w0.heap.size := (Array.getElem?_eq_some_iff.1 HX0.out).1
  repeat (first | (refine wpM_skip rfl ?_) | (refine wpM_all rfl rfl (fun K hK => ?_); go_simp; refine hK _ ?_; clear hK K))
  refine wpM_look (.bool al) rfl rfl (fun w6 hc6 _ => ?_) ?_
  · have c0 : w6.cell? ⟨w.heap.size, 0, none⟩ = some (.bool al) := by rw [hc6.cell hlt]; exact cell_of_row _ _ 0 _ 24 (0, 0) HX0.out
    go_simp
  repeat (first | (refine wpM_skip rfl ?_) | (refine wpM_all rfl rfl (fun K hK => ?_); go_simp; refine hK _ ?_; clear hK K))
  refine wpM_eff rfl rfl (fun w9 hc9 _ => steps_litK rfl hc9.size (by go_simp)) ?_
  rintro v0 ⟨wq, hq⟩
  obtain ⟨g0, rfl, -, -⟩ : ∃ g, v0 = .slice (some ⟨g, 0, none⟩) 0 0 ∧ w0.heap.size ≤ g ∧ wq.heap[g]? = some (.cells #[] 25 (0, 0)) := hq
  clear wq
  repeat (first | (refine wpM_skip rfl ?_) | (refine wpM_all rfl rfl (fun K hK => ?_); go_simp; refine hK _ ?_; clear hK K))
  refine wpM_look (.slice A xs.length c) rfl rfl (fun w6 hc6 _ => ?_) ?_
  · have c0 : w6.cell? ⟨w.heap.size, 1, none⟩ = some (.slice A xs.length c) := by rw [hc6.cell hlt]; exact cell_of_row _ _ 1 _ 24 (0, 0) HX0.out
    go_simp
  repeat (first | (refine wpM_skip rfl ?_) | (refine wpM_all rfl rfl (fun K hK => ?_); go_simp; refine hK _ ?_; clear hK K))
  refine wpM_eff rfl rfl (fun w9 hc9 hd => ?_) ?_
  · obtain ⟨g, e1, hg1, hg2⟩ : ∃ g, Value.slice (some ⟨g0, 0, none⟩) 0 0 = .slice (some ⟨g, 0, none⟩) 0 0 ∧ w0.heap.size ≤ g ∧ w9.heap[g]? = some (.cells #[] 25 (0, 0)) := hd ⟨2, .data⟩ (by simp) rfl
    injection e1 with e1 _ _
    injection e1 with e1
    injection e1 with e1 _ _
    subst e1
    exact steps_append_lit _ _ 22 rfl w0.heap.size 25 i0 (.int .u32 0) 1 4 Try.underlying22 hi hz0 hz1 hz2 rfl (by decide) hg2 hg1 rfl _ A xs.length c (u32s xs) rfl ((HR.out.below HB0.out (Nat.le_refl _)).below (hc9.mono HB0.out.size) (Nat.le_refl _)) (u32s_one _) (by omega) (by omega) hc9.size (fun v' w' h => h)
  rintro v5 ⟨wq, hq⟩
  obtain ⟨A5, c5, rfl, hc51, hc52, -⟩ := Rd.of_own (show wq.ownsRow w0.heap.size 25 1 v5 xs.length (u32s xs) from hq)
  clear hq wq
  repeat (first | (refine wpM_skip rfl ?_) | (refine wpM_all rfl rfl (fun K hK => ?_); go_simp; refine hK _ ?_; clear hK K))
  refine wpM_look (.int .u8 kd) rfl rfl (fun w6 hc6 _ => ?_) ?_
  · have c0 : w6.cell? ⟨w.heap.size, 2, none⟩ = some (.int .u8 kd) := by rw [hc6.cell hlt]; exact cell_of_row _ _ 2 _ 24 (0, 0) HX0.out
    go_simp
  repeat (first | (refine wpM_skip rfl ?_) | (refine wpM_all rfl rfl (fun K hK => ?_); go_simp; refine hK _ ?_; clear hK K))
  refine wpM_look (.bool em) rfl rfl (fun w6 hc6 _ => ?_) ?_
  · have c0 : w6.cell? ⟨w.heap.size, 3, none⟩ = some (.bool em) := by rw [hc6.cell hlt]; exact cell_of_row _ _ 3 _ 24 (0, 0) HX0.out
    go_simp
  repeat (first | (refine wpM_skip rfl ?_) | (refine wpM_all rfl rfl (fun K hK => ?_); go_simp; refine hK _ ?_; clear hK K))
  refine wpM_nil fun w10 hc10 hf => ?_
  have hown : w10.ownsRow w0.heap.size 25 1 (.slice A5 xs.length c5) xs.length (u32s xs) := hf 5
  clear hf
  show wpList _ _ _ [_] _ _
  have hx1 : w10.heap[w.heap.size + 1]? = some (.cells #[.bool false, .slice none 0 0, .int .u8 0, .bool false] 28 (0, 0)) := (hc10.block _ (Array.getElem?_eq_some_iff.1 HX1.out).1).trans HX1.out
  have hb10 := HB0.out.trans (hc10.mono HB0.out.size)
  have hown' : w10.ownsRow (w.heap.size + 2) 25 1 (.slice A5 xs.length c5) xs.length (u32s xs) := by
    have := (Array.getElem?_eq_some_iff.1 HX1.out).1
    refine ⟨hown.1, ?_⟩
    rcases hown.2 with h | ⟨g, cap, cur, h1, h2, h3⟩
    · exact .inl h
    · exact .inr ⟨g, cap, cur, h1, by omega, h3⟩
  clear hown
  have h0 : w10.cell? ⟨w.heap.size + 1, 0, none⟩ = some (.bool false) := cell_of_row _ _ 0 _ 28 (0, 0) hx1
  have h1 : w10.cell? ⟨w.heap.size + 1, 1, none⟩ = some (.slice none 0 0) := cell_of_row _ _ 1 _ 28 (0, 0) hx1
  have h2 : w10.cell? ⟨w.heap.size + 1, 2, none⟩ = some (.int .u8 0) := cell_of_row _ _ 2 _ 28 (0, 0) hx1
  have h3 : w10.cell? ⟨w.heap.size + 1, 3, none⟩ = some (.bool false) := cell_of_row _ _ 3 _ 28 (0, 0) hx1
  have fz : ∀ i, w10.frozen? ⟨w.heap.size + 1, i, none⟩ = false := fun i => by simp [World.frozen?, hx1]
  have hh9 := row_set (row_set (row_set (row_set hx1 0 (.bool al)) 1 (.slice A5 xs.length c5)) 2 (.int .u8 kd)) 3 (.bool em)
  have how9 := ownsRow_setCell_below (ownsRow_setCell_below (ownsRow_setCell_below (ownsRow_setCell_below hown' (a := ⟨w.heap.size + 1, 0, none⟩) (by simp) (.bool al)) (a := ⟨w.heap.size + 1, 1, none⟩) (by simp) (.slice A5 xs.length c5)) (a := ⟨w.heap.size + 1, 2, none⟩) (by simp) (.int .u8 kd)) (a := ⟨w.heap.size + 1, 3, none⟩) (by simp) (.bool em)
  have hb9 := ((((hb10.setCell (p := ⟨w.heap.size + 1, 0, none⟩) (by simp) (.bool al)).setCell (p := ⟨w.heap.size + 1, 1, none⟩) (by simp) (.slice A5 xs.length c5)).setCell (p := ⟨w.heap.size + 1, 2, none⟩) (by simp) (.int .u8 kd)).setCell (p := ⟨w.heap.size + 1, 3, none⟩) (by simp) (.bool em))
  have HH9 := Lib.hid hh9; have HOW9 := Lib.hid how9; have HB9 := Lib.hid hb9
  clear hh9 how9 hb9 hx1 hown' hb10 hc10
  go_wp2
  generalize (((w10.setCell _ _).setCell _ _).setCell _ _).setCell _ _ = w9 at *
  exact bodyPost_ret (results_cell_row rfl _ w9 _ 28 _ (0, 0) _ rfl HH9.out Try.underlying28 rfl (by kernel_rfl)) rfl ⟨_, rfl, own_le HOW9.out (by omega), HB9.out⟩
end Go.Proofs.Ytaaijgalminafaa
/-
  Layer 24: Oid (f9), the reference's Oid (f16).
-/
namespace Go.Proofs.Ytaaijgalminafaa
open Go.RowKit Mono Go.Shelf Go.Lib

theorem any_contains (l : List Int) (o : Int) : (l.any fun y => decide (o = y)) = decide (o ∈ l) := by
  induction l with
  | nil => rfl
  | cons a l ih => rw [List.any_cons, ih, Bool.eq_iff_iff]; simp
theorem contains_any (A : Option Addr) (c : Nat) (xs : List Int) (o : Int) (w : World) (hR : Rd w w.heap.size 1 A xs.length (u32s xs)) (hl : xs.length ≤ 1000000) :
    Calls Try.prog 29 #[.slice A xs.length c, .int .u32 o] w fun e w' => e = .returned (.bool (decide (o ∈ xs))) ∧ w' = w := by
  rcases Nat.eq_zero_or_pos xs.length with h0 | h0
  · have hn : xs = [] := List.eq_nil_of_length_eq_zero h0
    subst hn
    exact Try.slices_Contains_empty (α := Int) A c (.int .u32 o) w
  · obtain ⟨b, off, rfl, hb, hc⟩ := hR.at_ h0
    refine (Try.slices_Contains (α := Int) (.int .u32) (fun x y => decide (x = y)) (EqlAt.intD _ _ _) b off xs.length c xs o w (Nat.le_refl _) (by omega) (fun j hj => ?_)).mono ?_
    · rw [hc j hj]; simp [hj]
    · rintro e w' ⟨rfl, rfl⟩
      rw [List.take_length, any_contains]
      exact ⟨rfl, rfl⟩
set_option maxRecDepth 100000 in
set_option maxHeartbeats 3200000 in
/-- Oid: does an oid pass? -/
theorem oid_any (f : Fl) (A : Option Addr) (c : Nat) (o : Int) (w : World) (hF : FlAt w w.heap.size f A c) (hl : f.oids.length ≤ 1000000) : Calls Try.prog 9 #[f.v A c, .int .u32 o] w (RetB (f.oid o) w) := by
  obtain ⟨hR, hlc, hcm⟩ := hF
  obtain ⟨al, xs, kd, em⟩ := f
  simp only at hR hlc hl
  unfold Fl.v Fl.cells Fl.oid
  go_enter Try.func9, Try.ntmps9
  have hR1 := hR.alloc (Nat.le_refl _) (.cells #[.bool al, .slice A xs.length c, .int .u8 kd, .bool em] 28)
  have HR := Lib.hid hR1; clear hR hR1
  cases al
  · go_wp2_with fail
    refine (contains_any A c xs o _ (HR.out.more (by simp)) hl).mono ?_
    rintro e w2 ⟨rfl, rfl⟩
    go_wp2
    go_ret
    exact ⟨rfl, (Below.refl _ w).alloc (Nat.le_refl _) _⟩
  · go_wp2
    go_ret
    exact ⟨rfl, (Below.refl _ w).alloc (Nat.le_refl _) _⟩
set_option maxRecDepth 100000 in
set_option maxHeartbeats 3200000 in
/-- The reference's Oid. -/
theorem oidR_any (f : Fl) (A : Option Addr) (c : Nat) (o : Int) (w : World) (hF : FlAt w w.heap.size f A c) (hl : f.oids.length ≤ 1000000) : Calls Try.prog 16 #[f.v A c, .int .u32 o] w (RetB (f.oid o) w) := by
  obtain ⟨hR, hlc, hcm⟩ := hF
  obtain ⟨al, xs, kd, em⟩ := f
  simp only at hR hlc hl
  unfold Fl.v Fl.cells Fl.oid
  go_enter Try.func16, Try.ntmps16
  have hb0 : Below w.heap.size w (w.alloc (.cells #[.bool al, .slice A xs.length c, .int .u8 kd, .bool em] 24)) := (Below.refl _ w).alloc (Nat.le_refl _) _
  have HB := Lib.hid hb0; have HR := Lib.hid hR
  clear hb0 hR
  go_wp2
  go_loopw [5] (fun i wr => ∃ j : Nat, j ≤ xs.length ∧ i = .int .i64 (j : Int) ∧ Hid (∀ k (hk : k < xs.length), k < j → xs[k] ≠ o) ∧ wr = w.alloc (.cells #[.bool al, .slice A xs.length c, .int .u8 kd, .bool em] 24)) (fun i _ => xs.length - (intOf i).toNat)
  case atStart => exact ⟨0, by omega, rfl, fun _ _ h => absurd h (by omega), rfl⟩
  case round =>
    obtain ⟨j, hj, rfl, hn, rfl⟩ := hrel
    by_cases hlt : j < xs.length
    · obtain ⟨b, off, rfl, hb, hc⟩ := HR.out.at_ hlt
      have c0 := HB.out.cell (p := ⟨b, off + j, none⟩) hb
      rw [hc j hlt] at c0
      clear hc
      have hd : (j : Int) < (xs.length : Int) := by omega
      have hmem : Hid (xs[j] ∈ xs) := List.getElem_mem hlt
      obtain ⟨x, hx⟩ : ∃ x, xs[j] = x := ⟨_, rfl⟩
      have HX := Lib.hid hx
      rw [hx] at c0 hmem
      clear hx
      by_cases he : x = o
      · have he2 : (x == o) = true := beq_iff_eq.2 he
        have hin : Hid ((al || decide (o ∈ xs)) = true) := by
          show _ = _
          rw [← he, decide_eq_true hmem.out, Bool.or_true]
        have HE := Lib.hid he; clear he
        go_wp2
        go_ret
        exact ⟨by rw [hin.out]; rfl, HB.out⟩
      · have he2 : (x == o) = false := beq_eq_false_iff_ne.2 he
        have HE := Lib.hid he; clear he
        go_wp2
        go_roundw
        case rel => exact ⟨j + 1, by omega, by go_num, fun k hk hkj => by
          rcases Nat.lt_or_ge k j with h | h
          · exact hn.out k hk h
          · have : k = j := by omega
            subst this
            rw [HX.out]; exact HE.out, trivial⟩
        case measure => simp [intOf]; omega
    · have hd : ¬ ((j : Int) < (xs.length : Int)) := by omega
      have hno : Hid (decide (o ∈ xs) = false) := by
        show _ = _
        rw [decide_eq_false_iff_not]
        intro hm
        obtain ⟨k, hk, hk2⟩ := List.mem_iff_getElem.1 hm
        exact hn.out k hk (by omega) hk2
      go_wp2
      go_ret
      exact ⟨by rw [hno.out, Bool.or_false]; rfl, HB.out⟩
end Go.Proofs.Ytaaijgalminafaa
