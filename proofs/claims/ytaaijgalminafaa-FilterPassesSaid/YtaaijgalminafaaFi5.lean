import Derived.Test.YtaaijgalminafaaFi4
import Derived.Test.YtaaijgalminafaaClose
/-
  Layer 24: And (f8).
-/
namespace Go.Proofs.Ytaaijgalminafaa
open Go.RowKit Mono

/-- What a filter by which passes what passes both must be. -/
structure AndIs (x y r : Fl) : Prop where
  all : r.all = (x.all && y.all)
  empty : r.empty = (x.empty && y.empty)
  kinds : r.kinds = bits BinOp.and IntKind.u8 x.kinds y.kinds
  len : r.oids.length ≤ x.oids.length + y.oids.length
  nil : r.all = true → r.oids = []
  up : r.oids.Pairwise (· < ·)
  mem : r.all = false → ∀ o, o ∈ r.oids ↔ (o ∈ x.oids ∨ o ∈ y.oids) ∧ x.oid o = true ∧ y.oid o = true
/-- What stands while the oids are gathered: all but block b is as in w5; b holds the filter to be. -/
structure AndJ (w5 : World) (b : Nat) (al em : Bool) (kd : Int) (wr : World) (v : Value) (l : List Int) : Prop where
  g : w5.grownBy wr (some b)
  o : wr.heap[b]? = some (.cells #[.bool al, v, .int .u8 kd, .bool em] 28 (0, 0))
  own : wr.ownsRow w5.heap.size 25 1 v l.length (u32s l)
  lt : b < w5.heap.size
theorem AndJ.later {w5 wr w' : World} {b : Nat} {al em : Bool} {kd : Int} {v : Value} {l : List Int} (h : AndJ w5 b al em kd wr v l) (hb : Below wr.heap.size wr w') : AndJ w5 b al em kd w' v l :=
  ⟨grown_trans h.g ⟨hb.os, hb.tape, hb.output, hb.size, fun k hk _ => hb.block k hk⟩, (hb.block b (row_lt h.o)).trans h.o, own_up h.own hb, h.lt⟩
/-- The row has been written; b not yet. -/
theorem AndJ.wrote {w5 wr w' : World} {b : Nat} {al em : Bool} {kd : Int} {v : Value} {l : List Int} (h : AndJ w5 b al em kd wr v l) (hg : wr.grownBy w' v.ownBlock) :
    w5.grownBy w' (some b) ∧ w'.heap[b]? = some (.cells #[.bool al, v, .int .u8 kd, .bool em] 28 (0, 0)) := by
  have hge : ∀ k, v.ownBlock = some k → w5.heap.size ≤ k := fun k hk => (h.own.lt k hk).1
  refine ⟨⟨hg.os.trans h.g.os, hg.tape.trans h.g.tape, hg.output.trans h.g.output, Nat.le_trans h.g.size hg.size, fun k hk hne => ?_⟩, ?_⟩
  · rw [hg.block k (Nat.lt_of_lt_of_le hk h.g.size) (fun e => by have := hge k e.symm; omega)]
    exact h.g.block k hk hne
  · rw [hg.block b (row_lt h.o) (fun e => by have := hge b e.symm; have := h.lt; omega)]
    exact h.o
theorem AndJ.put {w5 wr w' : World} {b : Nat} {al em : Bool} {kd : Int} {v v' : Value} {l l' : List Int} (h : AndJ w5 b al em kd wr v l) (hg : wr.grownBy w' v.ownBlock) (hown : w'.ownsRow w5.heap.size 25 1 v' l'.length (u32s l')) :
    AndJ w5 b al em kd (w'.setCell ⟨b, 1, none⟩ v') v' l' := by
  obtain ⟨h1, h2⟩ := h.wrote hg
  refine ⟨grown_trans h1 ⟨rfl, rfl, rfl, by simp [World.setCell], fun k _ hne => RowKit.Below.heap_setCell w' _ _ k (fun e => hne (by rw [e]))⟩, ?_, ownsRow_setCell_below hown (by have := h.lt; exact this) v', h.lt⟩
  exact row_set h2 1 v'
theorem AndJ.sorted {w5 wr w' : World} {b : Nat} {al em : Bool} {kd : Int} {v : Value} {l l' : List Int} (h : AndJ w5 b al em kd wr v l) (hg : wr.grownBy w' v.ownBlock) (hown : w'.ownsRow w5.heap.size 25 1 v l'.length (u32s l')) :
    AndJ w5 b al em kd w' v l' := by
  obtain ⟨h1, h2⟩ := h.wrote hg
  exact ⟨h1, h2, hown, h.lt⟩
theorem AndJ.keep {w5 wr : World} {b : Nat} {al em : Bool} {kd : Int} {v : Value} {l : List Int} (h : AndJ w5 b al em kd wr v l) {p : Addr} (hp : p.block < w5.heap.size) (hne : p.block ≠ b) : wr.cell? p = w5.cell? p :=
  World.cell?_of_block (h.g.block p.block hp (fun e => hne (by injection e)))
theorem AndJ.rd {w5 wr : World} {b : Nat} {al em : Bool} {kd : Int} {v : Value} {l : List Int} (h : AndJ w5 b al em kd wr v l) {B size n : Nat} {A : Option Addr} {xs : List Value} (hR : Rd w5 B size A n xs) (hB : B ≤ b) : Rd wr wr.heap.size size A n xs :=
  (hR.keep fun p hp => h.keep (by have := h.lt; omega) (by omega)).more (by have := h.lt; have := h.g.size; omega)

theorem alloc5 {w W : World} {o0 o1 o2 o3 o4 : Obj} (h : ((((w.alloc o0).alloc o1).alloc o2).alloc o3).alloc o4 = W) :
    Below w.heap.size w W ∧ W.heap[w.heap.size]? = some o0 ∧ W.heap[w.heap.size + 1]? = some o1 ∧ W.heap[w.heap.size + 1 + 1]? = some o2 ∧ W.heap[w.heap.size + 1 + 1 + 1]? = some o3 ∧ W.heap[w.heap.size + 1 + 1 + 1 + 1]? = some o4 ∧ W.heap.size = w.heap.size + 1 + 1 + 1 + 1 + 1 := by
  subst h
  refine ⟨((((Below.refl _ w).alloc (Nat.le_refl _) _).alloc (by simp) _).alloc (by first | (simp; done) | (simp; omega)) _ |>.alloc (by first | (simp; done) | (simp; omega)) _).alloc (by first | (simp; done) | (simp; omega)) _, ?_, ?_, ?_, ?_, ?_, by simp⟩
  · rw [heap_alloc_old _ _ (by first | (simp; done) | (simp; omega)), heap_alloc_old _ _ (by first | (simp; done) | (simp; omega)), heap_alloc_old _ _ (by first | (simp; done) | (simp; omega)), heap_alloc_old _ _ (by simp)]; exact heap_alloc_new w o0
  · rw [heap_alloc_old _ _ (by first | (simp; done) | (simp; omega)), heap_alloc_old _ _ (by first | (simp; done) | (simp; omega)), heap_alloc_old _ _ (by simp)]
    have := heap_alloc_new (w.alloc o0) o1
    simpa using this
  · rw [heap_alloc_old _ _ (by first | (simp; done) | (simp; omega)), heap_alloc_old _ _ (by simp)]
    have := heap_alloc_new ((w.alloc o0).alloc o1) o2
    simpa using this
  · rw [heap_alloc_old _ _ (by simp)]
    have := heap_alloc_new (((w.alloc o0).alloc o1).alloc o2) o3
    simpa using this
  · have := heap_alloc_new ((((w.alloc o0).alloc o1).alloc o2).alloc o3) o4
    simpa using this
theorem filter_snoc {cc : List Int} {P : Int → Bool} {j : Nat} (hj : j < cc.length) : (cc.take (j + 1)).filter P = (cc.take j).filter P ++ (if P cc[j] then [cc[j]] else []) := by
  rw [List.take_succ_eq_append_getElem hj, List.filter_append]
  by_cases h : P cc[j] <;> simp [h]

set_option maxRecDepth 100000 in
set_option maxHeartbeats 60000000 in
theorem and_ff (be : Bool) (xs ys : List Int) (kx ky : Int) (ey : Bool) (A B : Option Addr) (c d : Nat) (w : World) (hX : FlAt w w.heap.size ⟨false, xs, kx, false⟩ A c) (hY : FlAt w w.heap.size ⟨be, ys, ky, ey⟩ B d) (hl1 : xs.length ≤ 500) (hl2 : ys.length ≤ 500) :
    Calls Try.prog 8 #[Fl.v ⟨false, xs, kx, false⟩ A c, Fl.v ⟨be, ys, ky, ey⟩ B d] w fun e w' => ∃ r, RetFl r w e w' ∧ AndIs ⟨false, xs, kx, false⟩ ⟨be, ys, ky, ey⟩ r := by
  obtain ⟨i0, hi, hz0, hz1, hz2⟩ := info_parts Try.info25
  obtain ⟨P, hP⟩ : ∃ P : Int → Bool, ∀ o, P o = (Fl.oid ⟨false, xs, kx, false⟩ o && Fl.oid ⟨be, ys, ky, ey⟩ o) := ⟨_, fun _ => rfl⟩
  have HP := Lib.hid hP; clear hP
  have HX := Lib.hid hX; have HY := Lib.hid hY
  clear hX hY
  unfold Fl.v Fl.cells
  go_enter Try.func8, Try.ntmps8
  go_wp2_with fail
  generalize hW : World.alloc (World.alloc (World.alloc (World.alloc (World.alloc w _) _) _) _) _ = W
  obtain ⟨hb0, p0, p1, p2, p3, p4, hsz⟩ := alloc5 hW
  have HB0 := Lib.hid hb0; have P0 := Lib.hid p0; have P1 := Lib.hid p1; have P2 := Lib.hid p2; have P3 := Lib.hid p3; have P4 := Lib.hid p4
  clear hW hb0 p0 p1 p2 p3 p4
  refine (concat_any A B c d xs ys _ W P4.out (HX.out.rd.up HB0.out (Nat.le_refl _) (by omega)) (HY.out.rd.up HB0.out (Nat.le_refl _) (by omega)) (by omega) (by omega)).mono ?_
  rintro e w5 ⟨v3, rfl, hown3, hb5⟩
  obtain ⟨A3, c3, rfl, hc31, hc32, -⟩ := Rd.of_own hown3
  have HB5 := Lib.hid (HB0.out.trans (hb5.mono HB0.out.size))
  have hlen : (xs ++ ys).length = xs.length + ys.length := List.length_append
  have HCC := Lib.hid (show ∀ o, o ∈ xs ++ ys ↔ (o ∈ xs ∨ o ∈ ys) from fun o => List.mem_append)
  have HO3 := Lib.hid hown3
  have hs5 : w.heap.size + 1 + 1 + 1 + 1 + 1 ≤ w5.heap.size := by have := hb5.size; omega
  have Q0 := Lib.hid ((hb5.block _ (by omega)).trans P0.out); have Q1 := Lib.hid ((hb5.block _ (by omega)).trans P1.out)
  have Q2 := Lib.hid ((hb5.block _ (by omega)).trans P2.out); have Q3 := Lib.hid ((hb5.block _ (by omega)).trans P3.out)
  clear P0 P1 P2 P3 P4 hb5 hown3 HB0
  rw [← hlen] at hc31 ⊢
  rw [← hlen] at HO3
  generalize xs ++ ys = cc at *
  have hcl : cc.length ≤ 1000 := by omega
  have HLEN := Lib.hid hlen; clear hlen
  have hJ0 := (⟨grown_refl _ _, Q3.out, World.ownsRow_nil _ _ _ _, by omega⟩ : AndJ w5 (w.heap.size + 1 + 1 + 1) _ _ _ w5 (.slice none 0 0) [])
  have HJ0 := Lib.hid hJ0; clear hJ0
  go_wp2
  go_loopw [36] (fun i wr => ∃ (j : Nat) (v : Value), j ≤ cc.length ∧ i = .int .i64 (j : Int) ∧ Hid (AndJ w5 (w.heap.size + 1 + 1 + 1) _ _ _ wr v ((cc.take j).filter P))) (fun i _ => cc.length - (intOf i).toNat)
  case atStart => exact ⟨0, _, by omega, rfl, HJ0⟩
  case round =>
    obtain ⟨j, v, hj, rfl, hJ⟩ := hrel
    clear HJ0
    by_cases hlt : j < cc.length
    · have hd1 : (j : Int) < (cc.length : Int) := by omega
      obtain ⟨g, cap, e3, hg1, hg2⟩ := own_form HO3.out (by omega)
      injection e3 with e3 _ e3'
      subst e3 e3'
      have e5 : w5.cell? ⟨g, j, none⟩ = some (.int .u32 cc[j]) := by
        have := HO3.out.cells (g := g) rfl j (.int .u32 cc[j]) (by simp [u32s, hlt])
        rwa [add_plain, Nat.zero_add] at this
      have e0 := (hJ.out.keep (p := ⟨g, j, none⟩) hg2 (by simp; omega)).trans e5
      clear e5
      have hsn := Lib.hid (filter_snoc (P := P) hlt)
      generalize cc[j] = o at *
      have q0 := (hJ.out.g.block (w.heap.size) (by omega) (by simp; omega)).trans Q0.out
      have q1 := (hJ.out.g.block (w.heap.size + 1) (by omega) (by simp)).trans Q1.out
      have hFX := Lib.hid ((HX.out.up HB5.out (Nat.le_refl _) HB5.out.size : FlAt w5 w5.heap.size _ A c))
      have hX1 : FlAt wr wr.heap.size _ A c := ⟨hJ.out.rd (HX.out.rd.below HB5.out (Nat.le_refl _)) (by omega), HX.out.le, HX.out.cm⟩
      have hY1 : FlAt wr wr.heap.size _ B d := ⟨hJ.out.rd (HY.out.rd.below HB5.out (Nat.le_refl _)) (by omega), HY.out.le, HY.out.cm⟩
      have HX1 := Lib.hid hX1; have HY1 := Lib.hid hY1
      clear hX1 hY1 hFX
      have c00 : wr.cell? ⟨w.heap.size, 0, none⟩ = some (.bool _) := cell_of_row _ _ 0 _ 28 (0, 0) q0
      have c01 : wr.cell? ⟨w.heap.size, 1, none⟩ = some (.slice A xs.length c) := cell_of_row _ _ 1 _ 28 (0, 0) q0
      have c02 : wr.cell? ⟨w.heap.size, 2, none⟩ = some (.int .u8 kx) := cell_of_row _ _ 2 _ 28 (0, 0) q0
      have c03 : wr.cell? ⟨w.heap.size, 3, none⟩ = some (.bool _) := cell_of_row _ _ 3 _ 28 (0, 0) q0
      have hq1 := Lib.hid q1
      clear q0 q1
      go_wp2_with fail
      refine (oid_any _ A c o wr HX1.out (by simp only; omega)).mono ?_
      rintro e w6 ⟨rfl, hb6⟩
      clear c00 c01 c02 c03 e0
      have HPo := Lib.hid (HP.out o)
      have HJ6 := Lib.hid (hJ.out.later hb6)
      cases hox : Fl.oid _ o
      · have HOX := Lib.hid hox; clear hox
        have hpo : P o = false := by rw [HPo.out]; rw [HOX.out]; rfl
        have hl : Hid ((cc.take (j + 1)).filter P = (cc.take j).filter P) := by show _ = _; rw [hsn.out, hpo]; simp
        go_wp2
        go_roundw
        case rel => exact ⟨j + 1, v, by omega, by go_num, by show AndJ _ _ _ _ _ _ _ _; rw [hl.out]; exact HJ6.out⟩
        case measure => simp [intOf]; omega
      · have HOX := Lib.hid hox; clear hox
        have q1 := (hb6.block _ (row_lt hq1.out)).trans hq1.out
        have c10 : w6.cell? ⟨w.heap.size + 1, 0, none⟩ = some (.bool _) := cell_of_row _ _ 0 _ 28 (0, 0) q1
        have c11 : w6.cell? ⟨w.heap.size + 1, 1, none⟩ = some (.slice B ys.length d) := cell_of_row _ _ 1 _ 28 (0, 0) q1
        have c12 : w6.cell? ⟨w.heap.size + 1, 2, none⟩ = some (.int .u8 ky) := cell_of_row _ _ 2 _ 28 (0, 0) q1
        have c13 : w6.cell? ⟨w.heap.size + 1, 3, none⟩ = some (.bool ey) := cell_of_row _ _ 3 _ 28 (0, 0) q1
        clear q1
        have HB6 := Lib.hid hb6; clear hb6
        go_wp2_with fail
        refine (oid_any _ B d o w6 (HY1.out.ext HB6.out) (by simp only; omega)).mono ?_
        rintro e w7 ⟨rfl, hb7⟩
        clear c10 c11 c12 c13
        have HJ7 := Lib.hid (HJ6.out.later hb7)
        clear hb7 HJ6
        cases hoy : Fl.oid _ o
        · have HOY := Lib.hid hoy; clear hoy
          have hpo : P o = false := by rw [HPo.out]; rw [HOX.out, HOY.out]; rfl
          have hl : Hid ((cc.take (j + 1)).filter P = (cc.take j).filter P) := by show _ = _; rw [hsn.out, hpo]; simp
          go_wp2
          go_roundw
          case rel => exact ⟨j + 1, v, by omega, by go_num, by show AndJ _ _ _ _ _ _ _ _; rw [hl.out]; exact HJ7.out⟩
          case measure => simp [intOf]; omega
        · have HOY := Lib.hid hoy; clear hoy
          have hpo : P o = true := by rw [HPo.out, HOX.out, HOY.out]; rfl
          have hl : Hid ((cc.take (j + 1)).filter P = (cc.take j).filter P ++ [o]) := by show _ = _; rw [hsn.out, hpo]; simp
          have hll : ((cc.take j).filter P).length ≤ 1000 := Nat.le_trans (List.length_filter_le _ _) (by simp; omega)
          have o1 : w7.cell? ⟨w.heap.size + 1 + 1 + 1, 1, none⟩ = some v := cell_of_row _ _ 1 _ 28 (0, 0) HJ7.out.o
          have hown := HJ7.out.own
          have hnews := cells_one (heap_alloc_new w7 (.cells #[.int .u32 o] 25))
          have hs7 := HJ7.out.g.size
          generalize hll2 : (cc.take j).filter P = L at *
          clear hll2
          go_wp2_with (at_builtin; refine wpList_append_own _ rfl _ _ 22 rfl w5.heap.size 25 i0 (.int .u32 0) 1 4 Try.underlying22 hi hz0 hz1 hz2 rfl (by decide) _ _ _ rfl (hown.alloc _) ⟨w7.heap.size, 0, none⟩ 1 1 [.int .u32 o] rfl rfl hnews (by simp [Value.oneCell']) (by simp only [maxLen]; omega) (by omega) (by simp; omega) ?_)
          intro v8 w8 hown8 hg8 _
          obtain ⟨A8, c8, rfl, -, -, -⟩ := Rd.of_own hown8
          have hown9 : w8.ownsRow w5.heap.size 25 1 (.slice A8 (L.length + 1) c8) (L ++ [o]).length (u32s (L ++ [o])) := by
            rw [List.length_append, u32s_app]; exact hown8
          have hJ8 := (HJ7.out.later ((Below.refl _ w7).alloc (Nat.le_refl _) (.cells #[.int .u32 o] 25))).put hg8 hown9
          have hw8 := ((HJ7.out.later ((Below.refl _ w7).alloc (Nat.le_refl _) (.cells #[.int .u32 o] 25))).wrote hg8).2
          have HJ8 := Lib.hid hJ8
          have o8 : w8.cell? ⟨w.heap.size + 1 + 1 + 1, 1, none⟩ = some v := cell_of_row _ _ 1 _ 28 (0, 0) hw8
          have f8 : w8.frozen? ⟨w.heap.size + 1 + 1 + 1, 1, none⟩ = false := frozen_of_row _ _ _ _ 28 hw8
          clear hown8 hown9 hown hg8 hnews hJ8 hw8 o1 HJ7
          go_wp2
          go_roundw
          case rel => exact ⟨j + 1, _, by omega, by go_num, by show AndJ _ _ _ _ _ _ _ _; rw [hl.out]; exact HJ8.out⟩
          case measure => simp [intOf]; omega
    · obtain rfl : j = cc.length := by omega
      rw [List.take_length] at hJ
      have hJ := hJ.out
      have o1 : wr.cell? ⟨w.heap.size + 1 + 1 + 1, 1, none⟩ = some v := cell_of_row _ _ 1 _ 28 (0, 0) hJ.o
      have hll : (cc.filter P).length ≤ cc.length := List.length_filter_le _ _
      have hmem := Lib.hid (show ∀ o, o ∈ cc.filter P ↔ o ∈ cc ∧ P o = true from fun o => List.mem_filter)
      generalize cc.filter P = L at *
      have HJ := Lib.hid hJ; clear hJ
      go_wp2_with fail
      refine (sortO_any _ v L wr HJ.out.own (by omega)).mono ?_
      rintro e w6 ⟨rfl, l6, hp6, hs6, hown6, hg6⟩
      have HJ6 := Lib.hid (HJ.out.sorted hg6 hown6)
      have HP6 := Lib.hid hp6
      have hl6 : l6.length ≤ cc.length := by rw [hp6.length_eq]; exact hll
      clear hown6 hg6 HJ o1 hp6
      have o6 : w6.cell? ⟨w.heap.size + 1 + 1 + 1, 1, none⟩ = some v := cell_of_row _ _ 1 _ 28 (0, 0) HJ6.out.o
      go_wp2_with fail
      refine (compactO_any _ v l6 w6 HJ6.out.own (by omega) hs6).mono ?_
      rintro e w7 ⟨v7, l7, rfl, hu7, hm7, hl7, hown7, hg7⟩
      obtain ⟨A7, c7, rfl, -, -, -⟩ := Rd.of_own hown7
      have hw7 := (HJ6.out.wrote hg7).2
      have HJ7 := Lib.hid (HJ6.out.put hg7 hown7)
      have HU := Lib.hid hu7; have HM := Lib.hid hm7
      have o7 : w7.cell? ⟨w.heap.size + 1 + 1 + 1, 1, none⟩ = some v := cell_of_row _ _ 1 _ 28 (0, 0) hw7
      have f7 : w7.frozen? ⟨w.heap.size + 1 + 1 + 1, 1, none⟩ = false := frozen_of_row _ _ _ _ 28 hw7
      have q2 := (((HJ6.out.wrote hg7).1).block (w.heap.size + 1 + 1) (by omega) (by simp)).trans Q2.out
      have o70 : w7.cell? ⟨w.heap.size + 1 + 1 + 1, 0, none⟩ = some (.bool _) := cell_of_row _ _ 0 _ 28 (0, 0) hw7
      have o72 : w7.cell? ⟨w.heap.size + 1 + 1 + 1, 2, none⟩ = some (.int .u8 _) := cell_of_row _ _ 2 _ 28 (0, 0) hw7
      have o73 : w7.cell? ⟨w.heap.size + 1 + 1 + 1, 3, none⟩ = some (.bool _) := cell_of_row _ _ 3 _ 28 (0, 0) hw7
      have q20 : w7.cell? ⟨w.heap.size + 1 + 1, 0, none⟩ = some (.bool false) := cell_of_row _ _ 0 _ 28 (0, 0) q2
      have q21 : w7.cell? ⟨w.heap.size + 1 + 1, 1, none⟩ = some (.slice none 0 0) := cell_of_row _ _ 1 _ 28 (0, 0) q2
      have q22 : w7.cell? ⟨w.heap.size + 1 + 1, 2, none⟩ = some (.int .u8 0) := cell_of_row _ _ 2 _ 28 (0, 0) q2
      have q23 : w7.cell? ⟨w.heap.size + 1 + 1, 3, none⟩ = some (.bool false) := cell_of_row _ _ 3 _ 28 (0, 0) q2
      have fz : ∀ i, w7.frozen? ⟨w.heap.size + 1 + 1, i, none⟩ = false := fun i => frozen_of_row _ _ i _ 28 q2
      have hW8 : (w7.setCell ⟨w.heap.size + 1 + 1 + 1, 1, none⟩ (.slice A7 l7.length c7)).heap[w.heap.size + 1 + 1]? = some (.cells #[.bool false, .slice none 0 0, .int .u8 0, .bool false] 28 (0, 0)) := by
        rw [Below.heap_setCell _ _ _ _ (by simp)]; exact q2
      clear hown7 hg7 hw7 o6 HJ6 hu7 hm7 q2
      go_wp2
      have hb9 := ((((HB5.out.grown HJ7.out.g HB5.out.size (fun k hk => by injection hk with hk; omega)).setCell (p := ⟨w.heap.size + 1 + 1, 0, none⟩) (by simp; omega) (.bool false)).setCell (p := ⟨w.heap.size + 1 + 1, 1, none⟩) (by simp; omega) (.slice A7 l7.length c7)).setCell (p := ⟨w.heap.size + 1 + 1, 2, none⟩) (by simp; omega) (.int .u8 (bits BinOp.and IntKind.u8 kx ky))).setCell (p := ⟨w.heap.size + 1 + 1, 3, none⟩) (by simp; omega) (.bool false)
      have how9 := ownsRow_setCell_below (ownsRow_setCell_below (ownsRow_setCell_below (ownsRow_setCell_below HJ7.out.own (a := ⟨w.heap.size + 1 + 1, 0, none⟩) (by simp; omega) (.bool false)) (a := ⟨w.heap.size + 1 + 1, 1, none⟩) (by simp; omega) (.slice A7 l7.length c7)) (a := ⟨w.heap.size + 1 + 1, 2, none⟩) (by simp; omega) (.int .u8 (bits BinOp.and IntKind.u8 kx ky))) (a := ⟨w.heap.size + 1 + 1, 3, none⟩) (by simp; omega) (.bool false)
      have hh9 := row_set (row_set (row_set (row_set hW8 0 (.bool false)) 1 (.slice A7 l7.length c7)) 2 (.int .u8 (bits BinOp.and IntKind.u8 kx ky))) 3 (.bool false)
      clear fz q20 q21 q22 q23 o70 o72 o73 o7 f7
      generalize ((((w7.setCell _ _).setCell _ _).setCell _ _).setCell _ _).setCell _ _ = w9 at *
      refine ⟨rfl, _, results_cell_row rfl _ w9 _ 28 _ (0, 0) _ rfl hh9 Try.underlying28 rfl (by kernel_rfl), ⟨false, l7, _, _⟩, ⟨_, rfl, own_le how9 (by omega), hb9⟩, ?_⟩
      refine ⟨rfl, rfl, rfl, ?_, (fun h => by cases h), HU.out, fun _ o => ?_⟩
      · have := HLEN.out
        show l7.length ≤ xs.length + ys.length
        omega
      · show o ∈ l7 ↔ _
        rw [HM.out, HP6.out.mem_iff, hmem.out, HCC.out, HP.out, Bool.and_eq_true]
set_option maxRecDepth 100000 in
set_option maxHeartbeats 60000000 in
theorem and_ft (be : Bool) (xs ys : List Int) (kx ky : Int) (ey : Bool) (A B : Option Addr) (c d : Nat) (w : World) (hX : FlAt w w.heap.size ⟨false, xs, kx, true⟩ A c) (hY : FlAt w w.heap.size ⟨be, ys, ky, ey⟩ B d) (hl1 : xs.length ≤ 500) (hl2 : ys.length ≤ 500) :
    Calls Try.prog 8 #[Fl.v ⟨false, xs, kx, true⟩ A c, Fl.v ⟨be, ys, ky, ey⟩ B d] w fun e w' => ∃ r, RetFl r w e w' ∧ AndIs ⟨false, xs, kx, true⟩ ⟨be, ys, ky, ey⟩ r := by
  obtain ⟨i0, hi, hz0, hz1, hz2⟩ := info_parts Try.info25
  obtain ⟨P, hP⟩ : ∃ P : Int → Bool, ∀ o, P o = (Fl.oid ⟨false, xs, kx, true⟩ o && Fl.oid ⟨be, ys, ky, ey⟩ o) := ⟨_, fun _ => rfl⟩
  have HP := Lib.hid hP; clear hP
  have HX := Lib.hid hX; have HY := Lib.hid hY
  clear hX hY
  unfold Fl.v Fl.cells
  go_enter Try.func8, Try.ntmps8
  go_wp2_with fail
  generalize hW : World.alloc (World.alloc (World.alloc (World.alloc (World.alloc w _) _) _) _) _ = W
  obtain ⟨hb0, p0, p1, p2, p3, p4, hsz⟩ := alloc5 hW
  have HB0 := Lib.hid hb0; have P0 := Lib.hid p0; have P1 := Lib.hid p1; have P2 := Lib.hid p2; have P3 := Lib.hid p3; have P4 := Lib.hid p4
  clear hW hb0 p0 p1 p2 p3 p4
  refine (concat_any A B c d xs ys _ W P4.out (HX.out.rd.up HB0.out (Nat.le_refl _) (by omega)) (HY.out.rd.up HB0.out (Nat.le_refl _) (by omega)) (by omega) (by omega)).mono ?_
  rintro e w5 ⟨v3, rfl, hown3, hb5⟩
  obtain ⟨A3, c3, rfl, hc31, hc32, -⟩ := Rd.of_own hown3
  have HB5 := Lib.hid (HB0.out.trans (hb5.mono HB0.out.size))
  have hlen : (xs ++ ys).length = xs.length + ys.length := List.length_append
  have HCC := Lib.hid (show ∀ o, o ∈ xs ++ ys ↔ (o ∈ xs ∨ o ∈ ys) from fun o => List.mem_append)
  have HO3 := Lib.hid hown3
  have hs5 : w.heap.size + 1 + 1 + 1 + 1 + 1 ≤ w5.heap.size := by have := hb5.size; omega
  have Q0 := Lib.hid ((hb5.block _ (by omega)).trans P0.out); have Q1 := Lib.hid ((hb5.block _ (by omega)).trans P1.out)
  have Q2 := Lib.hid ((hb5.block _ (by omega)).trans P2.out); have Q3 := Lib.hid ((hb5.block _ (by omega)).trans P3.out)
  clear P0 P1 P2 P3 P4 hb5 hown3 HB0
  rw [← hlen] at hc31 ⊢
  rw [← hlen] at HO3
  generalize xs ++ ys = cc at *
  have hcl : cc.length ≤ 1000 := by omega
  have HLEN := Lib.hid hlen; clear hlen
  have hJ0 := (⟨grown_refl _ _, Q3.out, World.ownsRow_nil _ _ _ _, by omega⟩ : AndJ w5 (w.heap.size + 1 + 1 + 1) _ _ _ w5 (.slice none 0 0) [])
  have HJ0 := Lib.hid hJ0; clear hJ0
  go_wp2
  go_loopw [36] (fun i wr => ∃ (j : Nat) (v : Value), j ≤ cc.length ∧ i = .int .i64 (j : Int) ∧ Hid (AndJ w5 (w.heap.size + 1 + 1 + 1) _ _ _ wr v ((cc.take j).filter P))) (fun i _ => cc.length - (intOf i).toNat)
  case atStart => exact ⟨0, _, by omega, rfl, HJ0⟩
  case round =>
    obtain ⟨j, v, hj, rfl, hJ⟩ := hrel
    clear HJ0
    by_cases hlt : j < cc.length
    · have hd1 : (j : Int) < (cc.length : Int) := by omega
      obtain ⟨g, cap, e3, hg1, hg2⟩ := own_form HO3.out (by omega)
      injection e3 with e3 _ e3'
      subst e3 e3'
      have e5 : w5.cell? ⟨g, j, none⟩ = some (.int .u32 cc[j]) := by
        have := HO3.out.cells (g := g) rfl j (.int .u32 cc[j]) (by simp [u32s, hlt])
        rwa [add_plain, Nat.zero_add] at this
      have e0 := (hJ.out.keep (p := ⟨g, j, none⟩) hg2 (by simp; omega)).trans e5
      clear e5
      have hsn := Lib.hid (filter_snoc (P := P) hlt)
      generalize cc[j] = o at *
      have q0 := (hJ.out.g.block (w.heap.size) (by omega) (by simp; omega)).trans Q0.out
      have q1 := (hJ.out.g.block (w.heap.size + 1) (by omega) (by simp)).trans Q1.out
      have hFX := Lib.hid ((HX.out.up HB5.out (Nat.le_refl _) HB5.out.size : FlAt w5 w5.heap.size _ A c))
      have hX1 : FlAt wr wr.heap.size _ A c := ⟨hJ.out.rd (HX.out.rd.below HB5.out (Nat.le_refl _)) (by omega), HX.out.le, HX.out.cm⟩
      have hY1 : FlAt wr wr.heap.size _ B d := ⟨hJ.out.rd (HY.out.rd.below HB5.out (Nat.le_refl _)) (by omega), HY.out.le, HY.out.cm⟩
      have HX1 := Lib.hid hX1; have HY1 := Lib.hid hY1
      clear hX1 hY1 hFX
      have c00 : wr.cell? ⟨w.heap.size, 0, none⟩ = some (.bool _) := cell_of_row _ _ 0 _ 28 (0, 0) q0
      have c01 : wr.cell? ⟨w.heap.size, 1, none⟩ = some (.slice A xs.length c) := cell_of_row _ _ 1 _ 28 (0, 0) q0
      have c02 : wr.cell? ⟨w.heap.size, 2, none⟩ = some (.int .u8 kx) := cell_of_row _ _ 2 _ 28 (0, 0) q0
      have c03 : wr.cell? ⟨w.heap.size, 3, none⟩ = some (.bool _) := cell_of_row _ _ 3 _ 28 (0, 0) q0
      have hq1 := Lib.hid q1
      clear q0 q1
      go_wp2_with fail
      refine (oid_any _ A c o wr HX1.out (by simp only; omega)).mono ?_
      rintro e w6 ⟨rfl, hb6⟩
      clear c00 c01 c02 c03 e0
      have HPo := Lib.hid (HP.out o)
      have HJ6 := Lib.hid (hJ.out.later hb6)
      cases hox : Fl.oid _ o
      · have HOX := Lib.hid hox; clear hox
        have hpo : P o = false := by rw [HPo.out]; rw [HOX.out]; rfl
        have hl : Hid ((cc.take (j + 1)).filter P = (cc.take j).filter P) := by show _ = _; rw [hsn.out, hpo]; simp
        go_wp2
        go_roundw
        case rel => exact ⟨j + 1, v, by omega, by go_num, by show AndJ _ _ _ _ _ _ _ _; rw [hl.out]; exact HJ6.out⟩
        case measure => simp [intOf]; omega
      · have HOX := Lib.hid hox; clear hox
        have q1 := (hb6.block _ (row_lt hq1.out)).trans hq1.out
        have c10 : w6.cell? ⟨w.heap.size + 1, 0, none⟩ = some (.bool _) := cell_of_row _ _ 0 _ 28 (0, 0) q1
        have c11 : w6.cell? ⟨w.heap.size + 1, 1, none⟩ = some (.slice B ys.length d) := cell_of_row _ _ 1 _ 28 (0, 0) q1
        have c12 : w6.cell? ⟨w.heap.size + 1, 2, none⟩ = some (.int .u8 ky) := cell_of_row _ _ 2 _ 28 (0, 0) q1
        have c13 : w6.cell? ⟨w.heap.size + 1, 3, none⟩ = some (.bool ey) := cell_of_row _ _ 3 _ 28 (0, 0) q1
        clear q1
        have HB6 := Lib.hid hb6; clear hb6
        go_wp2_with fail
        refine (oid_any _ B d o w6 (HY1.out.ext HB6.out) (by simp only; omega)).mono ?_
        rintro e w7 ⟨rfl, hb7⟩
        clear c10 c11 c12 c13
        have HJ7 := Lib.hid (HJ6.out.later hb7)
        clear hb7 HJ6
        cases hoy : Fl.oid _ o
        · have HOY := Lib.hid hoy; clear hoy
          have hpo : P o = false := by rw [HPo.out]; rw [HOX.out, HOY.out]; rfl
          have hl : Hid ((cc.take (j + 1)).filter P = (cc.take j).filter P) := by show _ = _; rw [hsn.out, hpo]; simp
          go_wp2
          go_roundw
          case rel => exact ⟨j + 1, v, by omega, by go_num, by show AndJ _ _ _ _ _ _ _ _; rw [hl.out]; exact HJ7.out⟩
          case measure => simp [intOf]; omega
        · have HOY := Lib.hid hoy; clear hoy
          have hpo : P o = true := by rw [HPo.out, HOX.out, HOY.out]; rfl
          have hl : Hid ((cc.take (j + 1)).filter P = (cc.take j).filter P ++ [o]) := by show _ = _; rw [hsn.out, hpo]; simp
          have hll : ((cc.take j).filter P).length ≤ 1000 := Nat.le_trans (List.length_filter_le _ _) (by simp; omega)
          have o1 : w7.cell? ⟨w.heap.size + 1 + 1 + 1, 1, none⟩ = some v := cell_of_row _ _ 1 _ 28 (0, 0) HJ7.out.o
          have hown := HJ7.out.own
          have hnews := cells_one (heap_alloc_new w7 (.cells #[.int .u32 o] 25))
          have hs7 := HJ7.out.g.size
          generalize hll2 : (cc.take j).filter P = L at *
          clear hll2
          go_wp2_with (at_builtin; refine wpList_append_own _ rfl _ _ 22 rfl w5.heap.size 25 i0 (.int .u32 0) 1 4 Try.underlying22 hi hz0 hz1 hz2 rfl (by decide) _ _ _ rfl (hown.alloc _) ⟨w7.heap.size, 0, none⟩ 1 1 [.int .u32 o] rfl rfl hnews (by simp [Value.oneCell']) (by simp only [maxLen]; omega) (by omega) (by simp; omega) ?_)
          intro v8 w8 hown8 hg8 _
          obtain ⟨A8, c8, rfl, -, -, -⟩ := Rd.of_own hown8
          have hown9 : w8.ownsRow w5.heap.size 25 1 (.slice A8 (L.length + 1) c8) (L ++ [o]).length (u32s (L ++ [o])) := by
            rw [List.length_append, u32s_app]; exact hown8
          have hJ8 := (HJ7.out.later ((Below.refl _ w7).alloc (Nat.le_refl _) (.cells #[.int .u32 o] 25))).put hg8 hown9
          have hw8 := ((HJ7.out.later ((Below.refl _ w7).alloc (Nat.le_refl _) (.cells #[.int .u32 o] 25))).wrote hg8).2
          have HJ8 := Lib.hid hJ8
          have o8 : w8.cell? ⟨w.heap.size + 1 + 1 + 1, 1, none⟩ = some v := cell_of_row _ _ 1 _ 28 (0, 0) hw8
          have f8 : w8.frozen? ⟨w.heap.size + 1 + 1 + 1, 1, none⟩ = false := frozen_of_row _ _ _ _ 28 hw8
          clear hown8 hown9 hown hg8 hnews hJ8 hw8 o1 HJ7
          go_wp2
          go_roundw
          case rel => exact ⟨j + 1, _, by omega, by go_num, by show AndJ _ _ _ _ _ _ _ _; rw [hl.out]; exact HJ8.out⟩
          case measure => simp [intOf]; omega
    · obtain rfl : j = cc.length := by omega
      rw [List.take_length] at hJ
      have hJ := hJ.out
      have o1 : wr.cell? ⟨w.heap.size + 1 + 1 + 1, 1, none⟩ = some v := cell_of_row _ _ 1 _ 28 (0, 0) hJ.o
      have hll : (cc.filter P).length ≤ cc.length := List.length_filter_le _ _
      have hmem := Lib.hid (show ∀ o, o ∈ cc.filter P ↔ o ∈ cc ∧ P o = true from fun o => List.mem_filter)
      generalize cc.filter P = L at *
      have HJ := Lib.hid hJ; clear hJ
      go_wp2_with fail
      refine (sortO_any _ v L wr HJ.out.own (by omega)).mono ?_
      rintro e w6 ⟨rfl, l6, hp6, hs6, hown6, hg6⟩
      have HJ6 := Lib.hid (HJ.out.sorted hg6 hown6)
      have HP6 := Lib.hid hp6
      have hl6 : l6.length ≤ cc.length := by rw [hp6.length_eq]; exact hll
      clear hown6 hg6 HJ o1 hp6
      have o6 : w6.cell? ⟨w.heap.size + 1 + 1 + 1, 1, none⟩ = some v := cell_of_row _ _ 1 _ 28 (0, 0) HJ6.out.o
      go_wp2_with fail
      refine (compactO_any _ v l6 w6 HJ6.out.own (by omega) hs6).mono ?_
      rintro e w7 ⟨v7, l7, rfl, hu7, hm7, hl7, hown7, hg7⟩
      obtain ⟨A7, c7, rfl, -, -, -⟩ := Rd.of_own hown7
      have hw7 := (HJ6.out.wrote hg7).2
      have HJ7 := Lib.hid (HJ6.out.put hg7 hown7)
      have HU := Lib.hid hu7; have HM := Lib.hid hm7
      have o7 : w7.cell? ⟨w.heap.size + 1 + 1 + 1, 1, none⟩ = some v := cell_of_row _ _ 1 _ 28 (0, 0) hw7
      have f7 : w7.frozen? ⟨w.heap.size + 1 + 1 + 1, 1, none⟩ = false := frozen_of_row _ _ _ _ 28 hw7
      have q2 := (((HJ6.out.wrote hg7).1).block (w.heap.size + 1 + 1) (by omega) (by simp)).trans Q2.out
      have o70 : w7.cell? ⟨w.heap.size + 1 + 1 + 1, 0, none⟩ = some (.bool _) := cell_of_row _ _ 0 _ 28 (0, 0) hw7
      have o72 : w7.cell? ⟨w.heap.size + 1 + 1 + 1, 2, none⟩ = some (.int .u8 _) := cell_of_row _ _ 2 _ 28 (0, 0) hw7
      have o73 : w7.cell? ⟨w.heap.size + 1 + 1 + 1, 3, none⟩ = some (.bool _) := cell_of_row _ _ 3 _ 28 (0, 0) hw7
      have q20 : w7.cell? ⟨w.heap.size + 1 + 1, 0, none⟩ = some (.bool false) := cell_of_row _ _ 0 _ 28 (0, 0) q2
      have q21 : w7.cell? ⟨w.heap.size + 1 + 1, 1, none⟩ = some (.slice none 0 0) := cell_of_row _ _ 1 _ 28 (0, 0) q2
      have q22 : w7.cell? ⟨w.heap.size + 1 + 1, 2, none⟩ = some (.int .u8 0) := cell_of_row _ _ 2 _ 28 (0, 0) q2
      have q23 : w7.cell? ⟨w.heap.size + 1 + 1, 3, none⟩ = some (.bool false) := cell_of_row _ _ 3 _ 28 (0, 0) q2
      have fz : ∀ i, w7.frozen? ⟨w.heap.size + 1 + 1, i, none⟩ = false := fun i => frozen_of_row _ _ i _ 28 q2
      have hW8 : (w7.setCell ⟨w.heap.size + 1 + 1 + 1, 1, none⟩ (.slice A7 l7.length c7)).heap[w.heap.size + 1 + 1]? = some (.cells #[.bool false, .slice none 0 0, .int .u8 0, .bool false] 28 (0, 0)) := by
        rw [Below.heap_setCell _ _ _ _ (by simp)]; exact q2
      clear hown7 hg7 hw7 o6 HJ6 hu7 hm7 q2
      go_wp2
      have hb9 := ((((HB5.out.grown HJ7.out.g HB5.out.size (fun k hk => by injection hk with hk; omega)).setCell (p := ⟨w.heap.size + 1 + 1, 0, none⟩) (by simp; omega) (.bool false)).setCell (p := ⟨w.heap.size + 1 + 1, 1, none⟩) (by simp; omega) (.slice A7 l7.length c7)).setCell (p := ⟨w.heap.size + 1 + 1, 2, none⟩) (by simp; omega) (.int .u8 (bits BinOp.and IntKind.u8 kx ky))).setCell (p := ⟨w.heap.size + 1 + 1, 3, none⟩) (by simp; omega) (.bool ey)
      have how9 := ownsRow_setCell_below (ownsRow_setCell_below (ownsRow_setCell_below (ownsRow_setCell_below HJ7.out.own (a := ⟨w.heap.size + 1 + 1, 0, none⟩) (by simp; omega) (.bool false)) (a := ⟨w.heap.size + 1 + 1, 1, none⟩) (by simp; omega) (.slice A7 l7.length c7)) (a := ⟨w.heap.size + 1 + 1, 2, none⟩) (by simp; omega) (.int .u8 (bits BinOp.and IntKind.u8 kx ky))) (a := ⟨w.heap.size + 1 + 1, 3, none⟩) (by simp; omega) (.bool ey)
      have hh9 := row_set (row_set (row_set (row_set hW8 0 (.bool false)) 1 (.slice A7 l7.length c7)) 2 (.int .u8 (bits BinOp.and IntKind.u8 kx ky))) 3 (.bool ey)
      clear fz q20 q21 q22 q23 o70 o72 o73 o7 f7
      generalize ((((w7.setCell _ _).setCell _ _).setCell _ _).setCell _ _).setCell _ _ = w9 at *
      refine ⟨rfl, _, results_cell_row rfl _ w9 _ 28 _ (0, 0) _ rfl hh9 Try.underlying28 rfl (by kernel_rfl), ⟨false, l7, _, _⟩, ⟨_, rfl, own_le how9 (by omega), hb9⟩, ?_⟩
      refine ⟨rfl, rfl, rfl, ?_, (fun h => by cases h), HU.out, fun _ o => ?_⟩
      · have := HLEN.out
        show l7.length ≤ xs.length + ys.length
        omega
      · show o ∈ l7 ↔ _
        rw [HM.out, HP6.out.mem_iff, hmem.out, HCC.out, HP.out, Bool.and_eq_true]
set_option maxRecDepth 100000 in
set_option maxHeartbeats 60000000 in
theorem and_tff  (xs ys : List Int) (kx ky : Int) (ey : Bool) (A B : Option Addr) (c d : Nat) (w : World) (hX : FlAt w w.heap.size ⟨true, xs, kx, false⟩ A c) (hY : FlAt w w.heap.size ⟨false, ys, ky, ey⟩ B d) (hl1 : xs.length ≤ 500) (hl2 : ys.length ≤ 500) :
    Calls Try.prog 8 #[Fl.v ⟨true, xs, kx, false⟩ A c, Fl.v ⟨false, ys, ky, ey⟩ B d] w fun e w' => ∃ r, RetFl r w e w' ∧ AndIs ⟨true, xs, kx, false⟩ ⟨false, ys, ky, ey⟩ r := by
  obtain ⟨i0, hi, hz0, hz1, hz2⟩ := info_parts Try.info25
  obtain ⟨P, hP⟩ : ∃ P : Int → Bool, ∀ o, P o = (Fl.oid ⟨true, xs, kx, false⟩ o && Fl.oid ⟨false, ys, ky, ey⟩ o) := ⟨_, fun _ => rfl⟩
  have HP := Lib.hid hP; clear hP
  have HX := Lib.hid hX; have HY := Lib.hid hY
  clear hX hY
  unfold Fl.v Fl.cells
  go_enter Try.func8, Try.ntmps8
  go_wp2_with fail
  generalize hW : World.alloc (World.alloc (World.alloc (World.alloc (World.alloc w _) _) _) _) _ = W
  obtain ⟨hb0, p0, p1, p2, p3, p4, hsz⟩ := alloc5 hW
  have HB0 := Lib.hid hb0; have P0 := Lib.hid p0; have P1 := Lib.hid p1; have P2 := Lib.hid p2; have P3 := Lib.hid p3; have P4 := Lib.hid p4
  clear hW hb0 p0 p1 p2 p3 p4
  refine (concat_any A B c d xs ys _ W P4.out (HX.out.rd.up HB0.out (Nat.le_refl _) (by omega)) (HY.out.rd.up HB0.out (Nat.le_refl _) (by omega)) (by omega) (by omega)).mono ?_
  rintro e w5 ⟨v3, rfl, hown3, hb5⟩
  obtain ⟨A3, c3, rfl, hc31, hc32, -⟩ := Rd.of_own hown3
  have HB5 := Lib.hid (HB0.out.trans (hb5.mono HB0.out.size))
  have hlen : (xs ++ ys).length = xs.length + ys.length := List.length_append
  have HCC := Lib.hid (show ∀ o, o ∈ xs ++ ys ↔ (o ∈ xs ∨ o ∈ ys) from fun o => List.mem_append)
  have HO3 := Lib.hid hown3
  have hs5 : w.heap.size + 1 + 1 + 1 + 1 + 1 ≤ w5.heap.size := by have := hb5.size; omega
  have Q0 := Lib.hid ((hb5.block _ (by omega)).trans P0.out); have Q1 := Lib.hid ((hb5.block _ (by omega)).trans P1.out)
  have Q2 := Lib.hid ((hb5.block _ (by omega)).trans P2.out); have Q3 := Lib.hid ((hb5.block _ (by omega)).trans P3.out)
  clear P0 P1 P2 P3 P4 hb5 hown3 HB0
  rw [← hlen] at hc31 ⊢
  rw [← hlen] at HO3
  generalize xs ++ ys = cc at *
  have hcl : cc.length ≤ 1000 := by omega
  have HLEN := Lib.hid hlen; clear hlen
  have hJ0 := (⟨grown_refl _ _, Q3.out, World.ownsRow_nil _ _ _ _, by omega⟩ : AndJ w5 (w.heap.size + 1 + 1 + 1) _ _ _ w5 (.slice none 0 0) [])
  have HJ0 := Lib.hid hJ0; clear hJ0
  go_wp2
  go_loopw [36] (fun i wr => ∃ (j : Nat) (v : Value), j ≤ cc.length ∧ i = .int .i64 (j : Int) ∧ Hid (AndJ w5 (w.heap.size + 1 + 1 + 1) _ _ _ wr v ((cc.take j).filter P))) (fun i _ => cc.length - (intOf i).toNat)
  case atStart => exact ⟨0, _, by omega, rfl, HJ0⟩
  case round =>
    obtain ⟨j, v, hj, rfl, hJ⟩ := hrel
    clear HJ0
    by_cases hlt : j < cc.length
    · have hd1 : (j : Int) < (cc.length : Int) := by omega
      obtain ⟨g, cap, e3, hg1, hg2⟩ := own_form HO3.out (by omega)
      injection e3 with e3 _ e3'
      subst e3 e3'
      have e5 : w5.cell? ⟨g, j, none⟩ = some (.int .u32 cc[j]) := by
        have := HO3.out.cells (g := g) rfl j (.int .u32 cc[j]) (by simp [u32s, hlt])
        rwa [add_plain, Nat.zero_add] at this
      have e0 := (hJ.out.keep (p := ⟨g, j, none⟩) hg2 (by simp; omega)).trans e5
      clear e5
      have hsn := Lib.hid (filter_snoc (P := P) hlt)
      generalize cc[j] = o at *
      have q0 := (hJ.out.g.block (w.heap.size) (by omega) (by simp; omega)).trans Q0.out
      have q1 := (hJ.out.g.block (w.heap.size + 1) (by omega) (by simp)).trans Q1.out
      have hFX := Lib.hid ((HX.out.up HB5.out (Nat.le_refl _) HB5.out.size : FlAt w5 w5.heap.size _ A c))
      have hX1 : FlAt wr wr.heap.size _ A c := ⟨hJ.out.rd (HX.out.rd.below HB5.out (Nat.le_refl _)) (by omega), HX.out.le, HX.out.cm⟩
      have hY1 : FlAt wr wr.heap.size _ B d := ⟨hJ.out.rd (HY.out.rd.below HB5.out (Nat.le_refl _)) (by omega), HY.out.le, HY.out.cm⟩
      have HX1 := Lib.hid hX1; have HY1 := Lib.hid hY1
      clear hX1 hY1 hFX
      have c00 : wr.cell? ⟨w.heap.size, 0, none⟩ = some (.bool _) := cell_of_row _ _ 0 _ 28 (0, 0) q0
      have c01 : wr.cell? ⟨w.heap.size, 1, none⟩ = some (.slice A xs.length c) := cell_of_row _ _ 1 _ 28 (0, 0) q0
      have c02 : wr.cell? ⟨w.heap.size, 2, none⟩ = some (.int .u8 kx) := cell_of_row _ _ 2 _ 28 (0, 0) q0
      have c03 : wr.cell? ⟨w.heap.size, 3, none⟩ = some (.bool _) := cell_of_row _ _ 3 _ 28 (0, 0) q0
      have hq1 := Lib.hid q1
      clear q0 q1
      go_wp2_with fail
      refine (oid_any _ A c o wr HX1.out (by simp only; omega)).mono ?_
      rintro e w6 ⟨rfl, hb6⟩
      clear c00 c01 c02 c03 e0
      have HPo := Lib.hid (HP.out o)
      have HJ6 := Lib.hid (hJ.out.later hb6)
      cases hox : Fl.oid _ o
      · have HOX := Lib.hid hox; clear hox
        have hpo : P o = false := by rw [HPo.out]; rw [HOX.out]; rfl
        have hl : Hid ((cc.take (j + 1)).filter P = (cc.take j).filter P) := by show _ = _; rw [hsn.out, hpo]; simp
        go_wp2
        go_roundw
        case rel => exact ⟨j + 1, v, by omega, by go_num, by show AndJ _ _ _ _ _ _ _ _; rw [hl.out]; exact HJ6.out⟩
        case measure => simp [intOf]; omega
      · have HOX := Lib.hid hox; clear hox
        have q1 := (hb6.block _ (row_lt hq1.out)).trans hq1.out
        have c10 : w6.cell? ⟨w.heap.size + 1, 0, none⟩ = some (.bool _) := cell_of_row _ _ 0 _ 28 (0, 0) q1
        have c11 : w6.cell? ⟨w.heap.size + 1, 1, none⟩ = some (.slice B ys.length d) := cell_of_row _ _ 1 _ 28 (0, 0) q1
        have c12 : w6.cell? ⟨w.heap.size + 1, 2, none⟩ = some (.int .u8 ky) := cell_of_row _ _ 2 _ 28 (0, 0) q1
        have c13 : w6.cell? ⟨w.heap.size + 1, 3, none⟩ = some (.bool ey) := cell_of_row _ _ 3 _ 28 (0, 0) q1
        clear q1
        have HB6 := Lib.hid hb6; clear hb6
        go_wp2_with fail
        refine (oid_any _ B d o w6 (HY1.out.ext HB6.out) (by simp only; omega)).mono ?_
        rintro e w7 ⟨rfl, hb7⟩
        clear c10 c11 c12 c13
        have HJ7 := Lib.hid (HJ6.out.later hb7)
        clear hb7 HJ6
        cases hoy : Fl.oid _ o
        · have HOY := Lib.hid hoy; clear hoy
          have hpo : P o = false := by rw [HPo.out]; rw [HOX.out, HOY.out]; rfl
          have hl : Hid ((cc.take (j + 1)).filter P = (cc.take j).filter P) := by show _ = _; rw [hsn.out, hpo]; simp
          go_wp2
          go_roundw
          case rel => exact ⟨j + 1, v, by omega, by go_num, by show AndJ _ _ _ _ _ _ _ _; rw [hl.out]; exact HJ7.out⟩
          case measure => simp [intOf]; omega
        · have HOY := Lib.hid hoy; clear hoy
          have hpo : P o = true := by rw [HPo.out, HOX.out, HOY.out]; rfl
          have hl : Hid ((cc.take (j + 1)).filter P = (cc.take j).filter P ++ [o]) := by show _ = _; rw [hsn.out, hpo]; simp
          have hll : ((cc.take j).filter P).length ≤ 1000 := Nat.le_trans (List.length_filter_le _ _) (by simp; omega)
          have o1 : w7.cell? ⟨w.heap.size + 1 + 1 + 1, 1, none⟩ = some v := cell_of_row _ _ 1 _ 28 (0, 0) HJ7.out.o
          have hown := HJ7.out.own
          have hnews := cells_one (heap_alloc_new w7 (.cells #[.int .u32 o] 25))
          have hs7 := HJ7.out.g.size
          generalize hll2 : (cc.take j).filter P = L at *
          clear hll2
          go_wp2_with (at_builtin; refine wpList_append_own _ rfl _ _ 22 rfl w5.heap.size 25 i0 (.int .u32 0) 1 4 Try.underlying22 hi hz0 hz1 hz2 rfl (by decide) _ _ _ rfl (hown.alloc _) ⟨w7.heap.size, 0, none⟩ 1 1 [.int .u32 o] rfl rfl hnews (by simp [Value.oneCell']) (by simp only [maxLen]; omega) (by omega) (by simp; omega) ?_)
          intro v8 w8 hown8 hg8 _
          obtain ⟨A8, c8, rfl, -, -, -⟩ := Rd.of_own hown8
          have hown9 : w8.ownsRow w5.heap.size 25 1 (.slice A8 (L.length + 1) c8) (L ++ [o]).length (u32s (L ++ [o])) := by
            rw [List.length_append, u32s_app]; exact hown8
          have hJ8 := (HJ7.out.later ((Below.refl _ w7).alloc (Nat.le_refl _) (.cells #[.int .u32 o] 25))).put hg8 hown9
          have hw8 := ((HJ7.out.later ((Below.refl _ w7).alloc (Nat.le_refl _) (.cells #[.int .u32 o] 25))).wrote hg8).2
          have HJ8 := Lib.hid hJ8
          have o8 : w8.cell? ⟨w.heap.size + 1 + 1 + 1, 1, none⟩ = some v := cell_of_row _ _ 1 _ 28 (0, 0) hw8
          have f8 : w8.frozen? ⟨w.heap.size + 1 + 1 + 1, 1, none⟩ = false := frozen_of_row _ _ _ _ 28 hw8
          clear hown8 hown9 hown hg8 hnews hJ8 hw8 o1 HJ7
          go_wp2
          go_roundw
          case rel => exact ⟨j + 1, _, by omega, by go_num, by show AndJ _ _ _ _ _ _ _ _; rw [hl.out]; exact HJ8.out⟩
          case measure => simp [intOf]; omega
    · obtain rfl : j = cc.length := by omega
      rw [List.take_length] at hJ
      have hJ := hJ.out
      have o1 : wr.cell? ⟨w.heap.size + 1 + 1 + 1, 1, none⟩ = some v := cell_of_row _ _ 1 _ 28 (0, 0) hJ.o
      have hll : (cc.filter P).length ≤ cc.length := List.length_filter_le _ _
      have hmem := Lib.hid (show ∀ o, o ∈ cc.filter P ↔ o ∈ cc ∧ P o = true from fun o => List.mem_filter)
      generalize cc.filter P = L at *
      have HJ := Lib.hid hJ; clear hJ
      go_wp2_with fail
      refine (sortO_any _ v L wr HJ.out.own (by omega)).mono ?_
      rintro e w6 ⟨rfl, l6, hp6, hs6, hown6, hg6⟩
      have HJ6 := Lib.hid (HJ.out.sorted hg6 hown6)
      have HP6 := Lib.hid hp6
      have hl6 : l6.length ≤ cc.length := by rw [hp6.length_eq]; exact hll
      clear hown6 hg6 HJ o1 hp6
      have o6 : w6.cell? ⟨w.heap.size + 1 + 1 + 1, 1, none⟩ = some v := cell_of_row _ _ 1 _ 28 (0, 0) HJ6.out.o
      go_wp2_with fail
      refine (compactO_any _ v l6 w6 HJ6.out.own (by omega) hs6).mono ?_
      rintro e w7 ⟨v7, l7, rfl, hu7, hm7, hl7, hown7, hg7⟩
      obtain ⟨A7, c7, rfl, -, -, -⟩ := Rd.of_own hown7
      have hw7 := (HJ6.out.wrote hg7).2
      have HJ7 := Lib.hid (HJ6.out.put hg7 hown7)
      have HU := Lib.hid hu7; have HM := Lib.hid hm7
      have o7 : w7.cell? ⟨w.heap.size + 1 + 1 + 1, 1, none⟩ = some v := cell_of_row _ _ 1 _ 28 (0, 0) hw7
      have f7 : w7.frozen? ⟨w.heap.size + 1 + 1 + 1, 1, none⟩ = false := frozen_of_row _ _ _ _ 28 hw7
      have q2 := (((HJ6.out.wrote hg7).1).block (w.heap.size + 1 + 1) (by omega) (by simp)).trans Q2.out
      have o70 : w7.cell? ⟨w.heap.size + 1 + 1 + 1, 0, none⟩ = some (.bool _) := cell_of_row _ _ 0 _ 28 (0, 0) hw7
      have o72 : w7.cell? ⟨w.heap.size + 1 + 1 + 1, 2, none⟩ = some (.int .u8 _) := cell_of_row _ _ 2 _ 28 (0, 0) hw7
      have o73 : w7.cell? ⟨w.heap.size + 1 + 1 + 1, 3, none⟩ = some (.bool _) := cell_of_row _ _ 3 _ 28 (0, 0) hw7
      have q20 : w7.cell? ⟨w.heap.size + 1 + 1, 0, none⟩ = some (.bool false) := cell_of_row _ _ 0 _ 28 (0, 0) q2
      have q21 : w7.cell? ⟨w.heap.size + 1 + 1, 1, none⟩ = some (.slice none 0 0) := cell_of_row _ _ 1 _ 28 (0, 0) q2
      have q22 : w7.cell? ⟨w.heap.size + 1 + 1, 2, none⟩ = some (.int .u8 0) := cell_of_row _ _ 2 _ 28 (0, 0) q2
      have q23 : w7.cell? ⟨w.heap.size + 1 + 1, 3, none⟩ = some (.bool false) := cell_of_row _ _ 3 _ 28 (0, 0) q2
      have fz : ∀ i, w7.frozen? ⟨w.heap.size + 1 + 1, i, none⟩ = false := fun i => frozen_of_row _ _ i _ 28 q2
      have hW8 : (w7.setCell ⟨w.heap.size + 1 + 1 + 1, 1, none⟩ (.slice A7 l7.length c7)).heap[w.heap.size + 1 + 1]? = some (.cells #[.bool false, .slice none 0 0, .int .u8 0, .bool false] 28 (0, 0)) := by
        rw [Below.heap_setCell _ _ _ _ (by simp)]; exact q2
      clear hown7 hg7 hw7 o6 HJ6 hu7 hm7 q2
      go_wp2
      have hb9 := ((((HB5.out.grown HJ7.out.g HB5.out.size (fun k hk => by injection hk with hk; omega)).setCell (p := ⟨w.heap.size + 1 + 1, 0, none⟩) (by simp; omega) (.bool false)).setCell (p := ⟨w.heap.size + 1 + 1, 1, none⟩) (by simp; omega) (.slice A7 l7.length c7)).setCell (p := ⟨w.heap.size + 1 + 1, 2, none⟩) (by simp; omega) (.int .u8 (bits BinOp.and IntKind.u8 kx ky))).setCell (p := ⟨w.heap.size + 1 + 1, 3, none⟩) (by simp; omega) (.bool false)
      have how9 := ownsRow_setCell_below (ownsRow_setCell_below (ownsRow_setCell_below (ownsRow_setCell_below HJ7.out.own (a := ⟨w.heap.size + 1 + 1, 0, none⟩) (by simp; omega) (.bool false)) (a := ⟨w.heap.size + 1 + 1, 1, none⟩) (by simp; omega) (.slice A7 l7.length c7)) (a := ⟨w.heap.size + 1 + 1, 2, none⟩) (by simp; omega) (.int .u8 (bits BinOp.and IntKind.u8 kx ky))) (a := ⟨w.heap.size + 1 + 1, 3, none⟩) (by simp; omega) (.bool false)
      have hh9 := row_set (row_set (row_set (row_set hW8 0 (.bool false)) 1 (.slice A7 l7.length c7)) 2 (.int .u8 (bits BinOp.and IntKind.u8 kx ky))) 3 (.bool false)
      clear fz q20 q21 q22 q23 o70 o72 o73 o7 f7
      generalize ((((w7.setCell _ _).setCell _ _).setCell _ _).setCell _ _).setCell _ _ = w9 at *
      refine ⟨rfl, _, results_cell_row rfl _ w9 _ 28 _ (0, 0) _ rfl hh9 Try.underlying28 rfl (by kernel_rfl), ⟨false, l7, _, _⟩, ⟨_, rfl, own_le how9 (by omega), hb9⟩, ?_⟩
      refine ⟨rfl, rfl, rfl, ?_, (fun h => by cases h), HU.out, fun _ o => ?_⟩
      · have := HLEN.out
        show l7.length ≤ xs.length + ys.length
        omega
      · show o ∈ l7 ↔ _
        rw [HM.out, HP6.out.mem_iff, hmem.out, HCC.out, HP.out, Bool.and_eq_true]
set_option maxRecDepth 100000 in
set_option maxHeartbeats 60000000 in
theorem and_tft  (xs ys : List Int) (kx ky : Int) (ey : Bool) (A B : Option Addr) (c d : Nat) (w : World) (hX : FlAt w w.heap.size ⟨true, xs, kx, true⟩ A c) (hY : FlAt w w.heap.size ⟨false, ys, ky, ey⟩ B d) (hl1 : xs.length ≤ 500) (hl2 : ys.length ≤ 500) :
    Calls Try.prog 8 #[Fl.v ⟨true, xs, kx, true⟩ A c, Fl.v ⟨false, ys, ky, ey⟩ B d] w fun e w' => ∃ r, RetFl r w e w' ∧ AndIs ⟨true, xs, kx, true⟩ ⟨false, ys, ky, ey⟩ r := by
  obtain ⟨i0, hi, hz0, hz1, hz2⟩ := info_parts Try.info25
  obtain ⟨P, hP⟩ : ∃ P : Int → Bool, ∀ o, P o = (Fl.oid ⟨true, xs, kx, true⟩ o && Fl.oid ⟨false, ys, ky, ey⟩ o) := ⟨_, fun _ => rfl⟩
  have HP := Lib.hid hP; clear hP
  have HX := Lib.hid hX; have HY := Lib.hid hY
  clear hX hY
  unfold Fl.v Fl.cells
  go_enter Try.func8, Try.ntmps8
  go_wp2_with fail
  generalize hW : World.alloc (World.alloc (World.alloc (World.alloc (World.alloc w _) _) _) _) _ = W
  obtain ⟨hb0, p0, p1, p2, p3, p4, hsz⟩ := alloc5 hW
  have HB0 := Lib.hid hb0; have P0 := Lib.hid p0; have P1 := Lib.hid p1; have P2 := Lib.hid p2; have P3 := Lib.hid p3; have P4 := Lib.hid p4
  clear hW hb0 p0 p1 p2 p3 p4
  refine (concat_any A B c d xs ys _ W P4.out (HX.out.rd.up HB0.out (Nat.le_refl _) (by omega)) (HY.out.rd.up HB0.out (Nat.le_refl _) (by omega)) (by omega) (by omega)).mono ?_
  rintro e w5 ⟨v3, rfl, hown3, hb5⟩
  obtain ⟨A3, c3, rfl, hc31, hc32, -⟩ := Rd.of_own hown3
  have HB5 := Lib.hid (HB0.out.trans (hb5.mono HB0.out.size))
  have hlen : (xs ++ ys).length = xs.length + ys.length := List.length_append
  have HCC := Lib.hid (show ∀ o, o ∈ xs ++ ys ↔ (o ∈ xs ∨ o ∈ ys) from fun o => List.mem_append)
  have HO3 := Lib.hid hown3
  have hs5 : w.heap.size + 1 + 1 + 1 + 1 + 1 ≤ w5.heap.size := by have := hb5.size; omega
  have Q0 := Lib.hid ((hb5.block _ (by omega)).trans P0.out); have Q1 := Lib.hid ((hb5.block _ (by omega)).trans P1.out)
  have Q2 := Lib.hid ((hb5.block _ (by omega)).trans P2.out); have Q3 := Lib.hid ((hb5.block _ (by omega)).trans P3.out)
  clear P0 P1 P2 P3 P4 hb5 hown3 HB0
  rw [← hlen] at hc31 ⊢
  rw [← hlen] at HO3
  generalize xs ++ ys = cc at *
  have hcl : cc.length ≤ 1000 := by omega
  have HLEN := Lib.hid hlen; clear hlen
  have hJ0 := (⟨grown_refl _ _, Q3.out, World.ownsRow_nil _ _ _ _, by omega⟩ : AndJ w5 (w.heap.size + 1 + 1 + 1) _ _ _ w5 (.slice none 0 0) [])
  have HJ0 := Lib.hid hJ0; clear hJ0
  go_wp2
  go_loopw [36] (fun i wr => ∃ (j : Nat) (v : Value), j ≤ cc.length ∧ i = .int .i64 (j : Int) ∧ Hid (AndJ w5 (w.heap.size + 1 + 1 + 1) _ _ _ wr v ((cc.take j).filter P))) (fun i _ => cc.length - (intOf i).toNat)
  case atStart => exact ⟨0, _, by omega, rfl, HJ0⟩
  case round =>
    obtain ⟨j, v, hj, rfl, hJ⟩ := hrel
    clear HJ0
    by_cases hlt : j < cc.length
    · have hd1 : (j : Int) < (cc.length : Int) := by omega
      obtain ⟨g, cap, e3, hg1, hg2⟩ := own_form HO3.out (by omega)
      injection e3 with e3 _ e3'
      subst e3 e3'
      have e5 : w5.cell? ⟨g, j, none⟩ = some (.int .u32 cc[j]) := by
        have := HO3.out.cells (g := g) rfl j (.int .u32 cc[j]) (by simp [u32s, hlt])
        rwa [add_plain, Nat.zero_add] at this
      have e0 := (hJ.out.keep (p := ⟨g, j, none⟩) hg2 (by simp; omega)).trans e5
      clear e5
      have hsn := Lib.hid (filter_snoc (P := P) hlt)
      generalize cc[j] = o at *
      have q0 := (hJ.out.g.block (w.heap.size) (by omega) (by simp; omega)).trans Q0.out
      have q1 := (hJ.out.g.block (w.heap.size + 1) (by omega) (by simp)).trans Q1.out
      have hFX := Lib.hid ((HX.out.up HB5.out (Nat.le_refl _) HB5.out.size : FlAt w5 w5.heap.size _ A c))
      have hX1 : FlAt wr wr.heap.size _ A c := ⟨hJ.out.rd (HX.out.rd.below HB5.out (Nat.le_refl _)) (by omega), HX.out.le, HX.out.cm⟩
      have hY1 : FlAt wr wr.heap.size _ B d := ⟨hJ.out.rd (HY.out.rd.below HB5.out (Nat.le_refl _)) (by omega), HY.out.le, HY.out.cm⟩
      have HX1 := Lib.hid hX1; have HY1 := Lib.hid hY1
      clear hX1 hY1 hFX
      have c00 : wr.cell? ⟨w.heap.size, 0, none⟩ = some (.bool _) := cell_of_row _ _ 0 _ 28 (0, 0) q0
      have c01 : wr.cell? ⟨w.heap.size, 1, none⟩ = some (.slice A xs.length c) := cell_of_row _ _ 1 _ 28 (0, 0) q0
      have c02 : wr.cell? ⟨w.heap.size, 2, none⟩ = some (.int .u8 kx) := cell_of_row _ _ 2 _ 28 (0, 0) q0
      have c03 : wr.cell? ⟨w.heap.size, 3, none⟩ = some (.bool _) := cell_of_row _ _ 3 _ 28 (0, 0) q0
      have hq1 := Lib.hid q1
      clear q0 q1
      go_wp2_with fail
      refine (oid_any _ A c o wr HX1.out (by simp only; omega)).mono ?_
      rintro e w6 ⟨rfl, hb6⟩
      clear c00 c01 c02 c03 e0
      have HPo := Lib.hid (HP.out o)
      have HJ6 := Lib.hid (hJ.out.later hb6)
      cases hox : Fl.oid _ o
      · have HOX := Lib.hid hox; clear hox
        have hpo : P o = false := by rw [HPo.out]; rw [HOX.out]; rfl
        have hl : Hid ((cc.take (j + 1)).filter P = (cc.take j).filter P) := by show _ = _; rw [hsn.out, hpo]; simp
        go_wp2
        go_roundw
        case rel => exact ⟨j + 1, v, by omega, by go_num, by show AndJ _ _ _ _ _ _ _ _; rw [hl.out]; exact HJ6.out⟩
        case measure => simp [intOf]; omega
      · have HOX := Lib.hid hox; clear hox
        have q1 := (hb6.block _ (row_lt hq1.out)).trans hq1.out
        have c10 : w6.cell? ⟨w.heap.size + 1, 0, none⟩ = some (.bool _) := cell_of_row _ _ 0 _ 28 (0, 0) q1
        have c11 : w6.cell? ⟨w.heap.size + 1, 1, none⟩ = some (.slice B ys.length d) := cell_of_row _ _ 1 _ 28 (0, 0) q1
        have c12 : w6.cell? ⟨w.heap.size + 1, 2, none⟩ = some (.int .u8 ky) := cell_of_row _ _ 2 _ 28 (0, 0) q1
        have c13 : w6.cell? ⟨w.heap.size + 1, 3, none⟩ = some (.bool ey) := cell_of_row _ _ 3 _ 28 (0, 0) q1
        clear q1
        have HB6 := Lib.hid hb6; clear hb6
        go_wp2_with fail
        refine (oid_any _ B d o w6 (HY1.out.ext HB6.out) (by simp only; omega)).mono ?_
        rintro e w7 ⟨rfl, hb7⟩
        clear c10 c11 c12 c13
        have HJ7 := Lib.hid (HJ6.out.later hb7)
        clear hb7 HJ6
        cases hoy : Fl.oid _ o
        · have HOY := Lib.hid hoy; clear hoy
          have hpo : P o = false := by rw [HPo.out]; rw [HOX.out, HOY.out]; rfl
          have hl : Hid ((cc.take (j + 1)).filter P = (cc.take j).filter P) := by show _ = _; rw [hsn.out, hpo]; simp
          go_wp2
          go_roundw
          case rel => exact ⟨j + 1, v, by omega, by go_num, by show AndJ _ _ _ _ _ _ _ _; rw [hl.out]; exact HJ7.out⟩
          case measure => simp [intOf]; omega
        · have HOY := Lib.hid hoy; clear hoy
          have hpo : P o = true := by rw [HPo.out, HOX.out, HOY.out]; rfl
          have hl : Hid ((cc.take (j + 1)).filter P = (cc.take j).filter P ++ [o]) := by show _ = _; rw [hsn.out, hpo]; simp
          have hll : ((cc.take j).filter P).length ≤ 1000 := Nat.le_trans (List.length_filter_le _ _) (by simp; omega)
          have o1 : w7.cell? ⟨w.heap.size + 1 + 1 + 1, 1, none⟩ = some v := cell_of_row _ _ 1 _ 28 (0, 0) HJ7.out.o
          have hown := HJ7.out.own
          have hnews := cells_one (heap_alloc_new w7 (.cells #[.int .u32 o] 25))
          have hs7 := HJ7.out.g.size
          generalize hll2 : (cc.take j).filter P = L at *
          clear hll2
          go_wp2_with (at_builtin; refine wpList_append_own _ rfl _ _ 22 rfl w5.heap.size 25 i0 (.int .u32 0) 1 4 Try.underlying22 hi hz0 hz1 hz2 rfl (by decide) _ _ _ rfl (hown.alloc _) ⟨w7.heap.size, 0, none⟩ 1 1 [.int .u32 o] rfl rfl hnews (by simp [Value.oneCell']) (by simp only [maxLen]; omega) (by omega) (by simp; omega) ?_)
          intro v8 w8 hown8 hg8 _
          obtain ⟨A8, c8, rfl, -, -, -⟩ := Rd.of_own hown8
          have hown9 : w8.ownsRow w5.heap.size 25 1 (.slice A8 (L.length + 1) c8) (L ++ [o]).length (u32s (L ++ [o])) := by
            rw [List.length_append, u32s_app]; exact hown8
          have hJ8 := (HJ7.out.later ((Below.refl _ w7).alloc (Nat.le_refl _) (.cells #[.int .u32 o] 25))).put hg8 hown9
          have hw8 := ((HJ7.out.later ((Below.refl _ w7).alloc (Nat.le_refl _) (.cells #[.int .u32 o] 25))).wrote hg8).2
          have HJ8 := Lib.hid hJ8
          have o8 : w8.cell? ⟨w.heap.size + 1 + 1 + 1, 1, none⟩ = some v := cell_of_row _ _ 1 _ 28 (0, 0) hw8
          have f8 : w8.frozen? ⟨w.heap.size + 1 + 1 + 1, 1, none⟩ = false := frozen_of_row _ _ _ _ 28 hw8
          clear hown8 hown9 hown hg8 hnews hJ8 hw8 o1 HJ7
          go_wp2
          go_roundw
          case rel => exact ⟨j + 1, _, by omega, by go_num, by show AndJ _ _ _ _ _ _ _ _; rw [hl.out]; exact HJ8.out⟩
          case measure => simp [intOf]; omega
    · obtain rfl : j = cc.length := by omega
      rw [List.take_length] at hJ
      have hJ := hJ.out
      have o1 : wr.cell? ⟨w.heap.size + 1 + 1 + 1, 1, none⟩ = some v := cell_of_row _ _ 1 _ 28 (0, 0) hJ.o
      have hll : (cc.filter P).length ≤ cc.length := List.length_filter_le _ _
      have hmem := Lib.hid (show ∀ o, o ∈ cc.filter P ↔ o ∈ cc ∧ P o = true from fun o => List.mem_filter)
      generalize cc.filter P = L at *
      have HJ := Lib.hid hJ; clear hJ
      go_wp2_with fail
      refine (sortO_any _ v L wr HJ.out.own (by omega)).mono ?_
      rintro e w6 ⟨rfl, l6, hp6, hs6, hown6, hg6⟩
      have HJ6 := Lib.hid (HJ.out.sorted hg6 hown6)
      have HP6 := Lib.hid hp6
      have hl6 : l6.length ≤ cc.length := by rw [hp6.length_eq]; exact hll
      clear hown6 hg6 HJ o1 hp6
      have o6 : w6.cell? ⟨w.heap.size + 1 + 1 + 1, 1, none⟩ = some v := cell_of_row _ _ 1 _ 28 (0, 0) HJ6.out.o
      go_wp2_with fail
      refine (compactO_any _ v l6 w6 HJ6.out.own (by omega) hs6).mono ?_
      rintro e w7 ⟨v7, l7, rfl, hu7, hm7, hl7, hown7, hg7⟩
      obtain ⟨A7, c7, rfl, -, -, -⟩ := Rd.of_own hown7
      have hw7 := (HJ6.out.wrote hg7).2
      have HJ7 := Lib.hid (HJ6.out.put hg7 hown7)
      have HU := Lib.hid hu7; have HM := Lib.hid hm7
      have o7 : w7.cell? ⟨w.heap.size + 1 + 1 + 1, 1, none⟩ = some v := cell_of_row _ _ 1 _ 28 (0, 0) hw7
      have f7 : w7.frozen? ⟨w.heap.size + 1 + 1 + 1, 1, none⟩ = false := frozen_of_row _ _ _ _ 28 hw7
      have q2 := (((HJ6.out.wrote hg7).1).block (w.heap.size + 1 + 1) (by omega) (by simp)).trans Q2.out
      have o70 : w7.cell? ⟨w.heap.size + 1 + 1 + 1, 0, none⟩ = some (.bool _) := cell_of_row _ _ 0 _ 28 (0, 0) hw7
      have o72 : w7.cell? ⟨w.heap.size + 1 + 1 + 1, 2, none⟩ = some (.int .u8 _) := cell_of_row _ _ 2 _ 28 (0, 0) hw7
      have o73 : w7.cell? ⟨w.heap.size + 1 + 1 + 1, 3, none⟩ = some (.bool _) := cell_of_row _ _ 3 _ 28 (0, 0) hw7
      have q20 : w7.cell? ⟨w.heap.size + 1 + 1, 0, none⟩ = some (.bool false) := cell_of_row _ _ 0 _ 28 (0, 0) q2
      have q21 : w7.cell? ⟨w.heap.size + 1 + 1, 1, none⟩ = some (.slice none 0 0) := cell_of_row _ _ 1 _ 28 (0, 0) q2
      have q22 : w7.cell? ⟨w.heap.size + 1 + 1, 2, none⟩ = some (.int .u8 0) := cell_of_row _ _ 2 _ 28 (0, 0) q2
      have q23 : w7.cell? ⟨w.heap.size + 1 + 1, 3, none⟩ = some (.bool false) := cell_of_row _ _ 3 _ 28 (0, 0) q2
      have fz : ∀ i, w7.frozen? ⟨w.heap.size + 1 + 1, i, none⟩ = false := fun i => frozen_of_row _ _ i _ 28 q2
      have hW8 : (w7.setCell ⟨w.heap.size + 1 + 1 + 1, 1, none⟩ (.slice A7 l7.length c7)).heap[w.heap.size + 1 + 1]? = some (.cells #[.bool false, .slice none 0 0, .int .u8 0, .bool false] 28 (0, 0)) := by
        rw [Below.heap_setCell _ _ _ _ (by simp)]; exact q2
      clear hown7 hg7 hw7 o6 HJ6 hu7 hm7 q2
      go_wp2
      have hb9 := ((((HB5.out.grown HJ7.out.g HB5.out.size (fun k hk => by injection hk with hk; omega)).setCell (p := ⟨w.heap.size + 1 + 1, 0, none⟩) (by simp; omega) (.bool false)).setCell (p := ⟨w.heap.size + 1 + 1, 1, none⟩) (by simp; omega) (.slice A7 l7.length c7)).setCell (p := ⟨w.heap.size + 1 + 1, 2, none⟩) (by simp; omega) (.int .u8 (bits BinOp.and IntKind.u8 kx ky))).setCell (p := ⟨w.heap.size + 1 + 1, 3, none⟩) (by simp; omega) (.bool ey)
      have how9 := ownsRow_setCell_below (ownsRow_setCell_below (ownsRow_setCell_below (ownsRow_setCell_below HJ7.out.own (a := ⟨w.heap.size + 1 + 1, 0, none⟩) (by simp; omega) (.bool false)) (a := ⟨w.heap.size + 1 + 1, 1, none⟩) (by simp; omega) (.slice A7 l7.length c7)) (a := ⟨w.heap.size + 1 + 1, 2, none⟩) (by simp; omega) (.int .u8 (bits BinOp.and IntKind.u8 kx ky))) (a := ⟨w.heap.size + 1 + 1, 3, none⟩) (by simp; omega) (.bool ey)
      have hh9 := row_set (row_set (row_set (row_set hW8 0 (.bool false)) 1 (.slice A7 l7.length c7)) 2 (.int .u8 (bits BinOp.and IntKind.u8 kx ky))) 3 (.bool ey)
      clear fz q20 q21 q22 q23 o70 o72 o73 o7 f7
      generalize ((((w7.setCell _ _).setCell _ _).setCell _ _).setCell _ _).setCell _ _ = w9 at *
      refine ⟨rfl, _, results_cell_row rfl _ w9 _ 28 _ (0, 0) _ rfl hh9 Try.underlying28 rfl (by kernel_rfl), ⟨false, l7, _, _⟩, ⟨_, rfl, own_le how9 (by omega), hb9⟩, ?_⟩
      refine ⟨rfl, rfl, rfl, ?_, (fun h => by cases h), HU.out, fun _ o => ?_⟩
      · have := HLEN.out
        show l7.length ≤ xs.length + ys.length
        omega
      · show o ∈ l7 ↔ _
        rw [HM.out, HP6.out.mem_iff, hmem.out, HCC.out, HP.out, Bool.and_eq_true]
set_option maxRecDepth 100000 in
set_option maxHeartbeats 60000000 in
theorem and_ttf  (xs ys : List Int) (kx ky : Int) (ey : Bool) (A B : Option Addr) (c d : Nat) (w : World) (hX : FlAt w w.heap.size ⟨true, xs, kx, false⟩ A c) (hY : FlAt w w.heap.size ⟨true, ys, ky, ey⟩ B d) :
    Calls Try.prog 8 #[Fl.v ⟨true, xs, kx, false⟩ A c, Fl.v ⟨true, ys, ky, ey⟩ B d] w fun e w' => ∃ r, RetFl r w e w' ∧ AndIs ⟨true, xs, kx, false⟩ ⟨true, ys, ky, ey⟩ r := by
  obtain ⟨i0, hi, hz0, hz1, hz2⟩ := info_parts Try.info25
  obtain ⟨P, hP⟩ : ∃ P : Int → Bool, ∀ o, P o = (Fl.oid ⟨true, xs, kx, false⟩ o && Fl.oid ⟨true, ys, ky, ey⟩ o) := ⟨_, fun _ => rfl⟩
  have HP := Lib.hid hP; clear hP
  have HX := Lib.hid hX; have HY := Lib.hid hY
  clear hX hY
  unfold Fl.v Fl.cells
  go_enter Try.func8, Try.ntmps8
  go_wp2
  have hb4 := ((((Below.refl _ w).alloc (Nat.le_refl _) (.cells #[.bool true, .slice A xs.length c, .int .u8 kx, .bool false] 28)).alloc (by simp) (.cells #[.bool true, .slice B ys.length d, .int .u8 ky, .bool ey] 28)).alloc (by first | (simp; done) | (simp; omega)) (.cells #[.bool true, .slice none 0 0, .int .u8 (bits BinOp.and IntKind.u8 kx ky), .bool false] 28)).alloc (by first | (simp; done) | (simp; omega)) (.cells #[.bool true, .slice none 0 0, .int .u8 (bits BinOp.and IntKind.u8 kx ky), .bool false] 28)
  have hh4 := heap_alloc_new ((w.alloc (.cells #[.bool true, .slice A xs.length c, .int .u8 kx, .bool false] 28)).alloc (.cells #[.bool true, .slice B ys.length d, .int .u8 ky, .bool ey] 28)) (.cells #[.bool true, .slice none 0 0, .int .u8 (bits BinOp.and IntKind.u8 kx ky), .bool false] 28)
  rw [← heap_alloc_old _ (.cells #[.bool true, .slice none 0 0, .int .u8 (bits BinOp.and IntKind.u8 kx ky), .bool false] 28) (by simp)] at hh4
  generalize (((w.alloc _).alloc _).alloc _).alloc _ = w4 at *
  simp only [World.size_alloc] at hh4
  refine ⟨rfl, _, results_cell_row rfl _ w4 _ 28 _ (0, 0) _ rfl hh4 Try.underlying28 rfl (by kernel_rfl), ⟨true, [], _, _⟩, ⟨.slice none 0 0, rfl, World.ownsRow_nil _ _ _ _, hb4⟩, ?_⟩
  exact ⟨rfl, rfl, rfl, Nat.zero_le _, fun _ => rfl, List.Pairwise.nil, fun h => by cases h⟩
set_option maxRecDepth 100000 in
set_option maxHeartbeats 60000000 in
theorem and_ttt  (xs ys : List Int) (kx ky : Int) (ey : Bool) (A B : Option Addr) (c d : Nat) (w : World) (hX : FlAt w w.heap.size ⟨true, xs, kx, true⟩ A c) (hY : FlAt w w.heap.size ⟨true, ys, ky, ey⟩ B d) :
    Calls Try.prog 8 #[Fl.v ⟨true, xs, kx, true⟩ A c, Fl.v ⟨true, ys, ky, ey⟩ B d] w fun e w' => ∃ r, RetFl r w e w' ∧ AndIs ⟨true, xs, kx, true⟩ ⟨true, ys, ky, ey⟩ r := by
  obtain ⟨i0, hi, hz0, hz1, hz2⟩ := info_parts Try.info25
  obtain ⟨P, hP⟩ : ∃ P : Int → Bool, ∀ o, P o = (Fl.oid ⟨true, xs, kx, true⟩ o && Fl.oid ⟨true, ys, ky, ey⟩ o) := ⟨_, fun _ => rfl⟩
  have HP := Lib.hid hP; clear hP
  have HX := Lib.hid hX; have HY := Lib.hid hY
  clear hX hY
  unfold Fl.v Fl.cells
  go_enter Try.func8, Try.ntmps8
  go_wp2
  have hb4 := ((((Below.refl _ w).alloc (Nat.le_refl _) (.cells #[.bool true, .slice A xs.length c, .int .u8 kx, .bool true] 28)).alloc (by simp) (.cells #[.bool true, .slice B ys.length d, .int .u8 ky, .bool ey] 28)).alloc (by first | (simp; done) | (simp; omega)) (.cells #[.bool true, .slice none 0 0, .int .u8 (bits BinOp.and IntKind.u8 kx ky), .bool ey] 28)).alloc (by first | (simp; done) | (simp; omega)) (.cells #[.bool true, .slice none 0 0, .int .u8 (bits BinOp.and IntKind.u8 kx ky), .bool ey] 28)
  have hh4 := heap_alloc_new ((w.alloc (.cells #[.bool true, .slice A xs.length c, .int .u8 kx, .bool true] 28)).alloc (.cells #[.bool true, .slice B ys.length d, .int .u8 ky, .bool ey] 28)) (.cells #[.bool true, .slice none 0 0, .int .u8 (bits BinOp.and IntKind.u8 kx ky), .bool ey] 28)
  rw [← heap_alloc_old _ (.cells #[.bool true, .slice none 0 0, .int .u8 (bits BinOp.and IntKind.u8 kx ky), .bool ey] 28) (by simp)] at hh4
  generalize (((w.alloc _).alloc _).alloc _).alloc _ = w4 at *
  simp only [World.size_alloc] at hh4
  refine ⟨rfl, _, results_cell_row rfl _ w4 _ 28 _ (0, 0) _ rfl hh4 Try.underlying28 rfl (by kernel_rfl), ⟨true, [], _, _⟩, ⟨.slice none 0 0, rfl, World.ownsRow_nil _ _ _ _, hb4⟩, ?_⟩
  exact ⟨rfl, rfl, rfl, Nat.zero_le _, fun _ => rfl, List.Pairwise.nil, fun h => by cases h⟩
theorem and_any (x y : Fl) (A B : Option Addr) (c d : Nat) (w : World) (hX : FlAt w w.heap.size x A c) (hY : FlAt w w.heap.size y B d) (hl1 : x.oids.length ≤ 500) (hl2 : y.oids.length ≤ 500) :
    Calls Try.prog 8 #[x.v A c, y.v B d] w fun e w' => ∃ r, RetFl r w e w' ∧ AndIs x y r := by
  obtain ⟨al, xs, kx, ex⟩ := x
  obtain ⟨be, ys, ky, ey⟩ := y
  cases al
  · cases ex
    · exact and_ff be xs ys kx ky ey A B c d w hX hY hl1 hl2
    · exact and_ft be xs ys kx ky ey A B c d w hX hY hl1 hl2
  · cases be
    · cases ex
      · exact and_tff xs ys kx ky ey A B c d w hX hY hl1 hl2
      · exact and_tft xs ys kx ky ey A B c d w hX hY hl1 hl2
    · cases ex
      · exact and_ttf xs ys kx ky ey A B c d w hX hY
      · exact and_ttt xs ys kx ky ey A B c d w hX hY
end Go.Proofs.Ytaaijgalminafaa
