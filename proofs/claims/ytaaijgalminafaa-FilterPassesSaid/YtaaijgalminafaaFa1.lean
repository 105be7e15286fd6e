import Derived.Test.YtaaijgalminafaaEv7
/-
  Layer 24: any two filters together (f6) (printed by gen_fa1.py).
-/
namespace Go.Proofs.Ytaaijgalminafaa
open Go.RowKit Mono
attribute [local go_sem] pureAt pureUpon
attribute [local irreducible] Mono.steps Mono.wpM

theorem up_uniq : ∀ l l' : List Int, l.Pairwise (· < ·) → l'.Pairwise (· < ·) → (∀ o, o ∈ l ↔ o ∈ l') → l = l'
  | [], [], _, _, _ => rfl
  | [], b :: l', _, _, h => absurd ((h b).2 (by simp)) (by simp)
  | a :: l, [], _, _, h => absurd ((h a).1 (by simp)) (by simp)
  | a :: l, b :: l', h1, h2, h => by
    obtain ⟨h3, h4⟩ := List.pairwise_cons.1 h1
    obtain ⟨h5, h6⟩ := List.pairwise_cons.1 h2
    have e : a = b := by
      rcases List.mem_cons.1 ((h a).1 (by simp)) with e | e
      · exact e
      · rcases List.mem_cons.1 ((h b).2 (by simp)) with e' | e'
        · exact e'.symm
        · have := h5 a e; have := h3 b e'; omega
    subst e
    congr 1
    refine up_uniq l l' h4 h6 fun o => ⟨fun ho => ?_, fun ho => ?_⟩
    · rcases List.mem_cons.1 ((h o).1 (by simp [ho])) with e | e
      · have := h3 o ho; omega
      · exact e
    · rcases List.mem_cons.1 ((h o).2 (by simp [ho])) with e | e
      · have := h5 o ho; omega
      · exact e
theorem AndIs.uniq {x y r r' : Fl} (h : AndIs x y r) (h' : AndIs x y r') : r = r' := by
  have e1 : r.all = r'.all := h.all.trans h'.all.symm
  have e2 : r.oids = r'.oids := by
    cases ha : r.all with
    | true => rw [h.nil ha, h'.nil (e1 ▸ ha)]
    | false => exact up_uniq _ _ h.up h'.up fun o => (h.mem ha o).trans (h'.mem (e1 ▸ ha) o).symm
  obtain ⟨a, o, k, e⟩ := r
  obtain ⟨a', o', k', e'⟩ := r'
  simp only at e1 e2
  have e3 := h.kinds.trans h'.kinds.symm
  have e4 := h.empty.trans h'.empty.symm
  simp only at e3 e4
  rw [e1, e2, e3, e4]
theorem own_type {w : World} {base size n g : Nat} {e t : TypeId} {v : Value} {xs : List Value} {cs : Array Value} (h : w.ownsRow base e size v n xs) (hg : w.heap[g]? = some (.cells cs t (0, 0))) (hne : e ≠ t) : v.ownBlock ≠ some g := by
  intro e'
  rcases h.2 with ⟨rfl, _⟩ | ⟨g', cap, cur, rfl, _, hg', _⟩
  · cases e'
  · injection e' with e'
    subst e'
    rw [hg] at hg'
    injection hg' with hg'
    injection hg' with _ h2 _
    exact hne h2.symm
theorem own_setRow {w : World} {base size n g : Nat} {e t : TypeId} {v : Value} {xs : List Value} {cs cs' : Array Value} (h : w.ownsRow base e size v n xs) (hg : w.heap[g]? = some (.cells cs t (0, 0))) (hne : e ≠ t) : (w.setRow g cs').ownsRow base e size v n xs :=
  h.kept (row := some g) ⟨rfl, rfl, rfl, by rw [size_setRow]; exact Nat.le_refl _, fun k _ hk => setRow_other w g k cs' (fun e' => hk (by rw [e']))⟩ (.inr (own_type h hg hne))
/-- A filter whose oids lie in a row of the call's own. -/
def Fact.fl (B : Nat) (f : Fl) : Fact := ⟨fun v w => ∃ u, v = .agg (f.cells u) ∧ w.ownsRow B 25 1 u f.oids.length (u32s f.oids), fun _ _ _ ⟨u, h1, h2⟩ hb => ⟨u, h1, own_up h2 hb⟩⟩
/-- What two filters are together. -/
def Fact.both (B : Nat) (x y : Fl) : Fact := ⟨fun v w => ∃ r u, AndIs x y r ∧ v = .agg (r.cells u) ∧ w.ownsRow B 25 1 u r.oids.length (u32s r.oids), fun _ _ _ ⟨r, u, h0, h1, h2⟩ hb => ⟨r, u, h0, h1, own_up h2 hb⟩⟩
theorem fl_val {B : Nat} {f : Fl} {F : Nat → Option Fact} {k : Nat} {w : World} (hw : B ≤ w.heap.size) (hf : F k = some (.fl B f)) : ∀ e w', RetFl f w e w' → ∃ u, e = .returned u ∧ Ext w w' ∧ fxR F k u w' := by
  rintro e w' ⟨u, rfl, h3, h4⟩
  refine ⟨_, rfl, h4, ?_⟩
  unfold fxR; rw [hf]
  exact ⟨u, rfl, own_le h3 hw⟩
theorem both_val {B : Nat} {x y : Fl} {F : Nat → Option Fact} {k : Nat} {w : World} (hw : B ≤ w.heap.size) (hf : F k = some (.both B x y)) : ∀ e w', (∃ r, RetFl r w e w' ∧ AndIs x y r) → ∃ u, e = .returned u ∧ Ext w w' ∧ fxR F k u w' := by
  rintro e w' ⟨r, ⟨u, rfl, h3, h4⟩, h5⟩
  refine ⟨_, rfl, h4, ?_⟩
  unfold fxR; rw [hf]
  exact ⟨r, u, h5, rfl, own_le h3 hw⟩
theorem fl_inj {f : Fl} {u u' : Value} (h : Value.agg (f.cells u) = .agg (f.cells u')) : u = u' := by
  unfold Fl.cells at h
  injection h with h
  simpa using h
theorem FlAt.of_fl {B : Nat} {f : Fl} {A : Option Addr} {c : Nat} {w : World} (h : (Fact.fl B f).p (f.v A c) w) : FlAt w w.heap.size f A c := by
  obtain ⟨u, h1, h2⟩ := h
  have := fl_inj h1
  subst this
  obtain ⟨A', c', e, h3⟩ := FlAt.of_own h2
  injection e with e1 _ e2
  subst e1 e2
  exact h3
theorem both_at {B : Nat} {x y r : Fl} {v : Value} {w : World} (h : AndIs x y r) (hp : (Fact.both B x y).p (.agg (r.cells v)) w) : w.ownsRow B 25 1 v r.oids.length (u32s r.oids) := by
  obtain ⟨r', u, h', e, ho⟩ := hp
  obtain rfl := h'.uniq h
  rw [fl_inj e]
  exact ho
theorem cells_one4 {a e : Bool} {u : Value} {k : Int} (hu : u.oneCell' = true) : ∀ x ∈ (#[.bool a, u, .int .u8 k, .bool e] : Array Value).toList, x.oneCell' = true := by
  intro x hx
  simp at hx
  rcases hx with rfl | rfl | rfl | rfl
  · rfl
  · exact hu
  · rfl
  · rfl
def anF (B : Nat) (x y : Fl) : Nat → Option Fact
  | 1 => some (.fl B x)
  | 3 => some (.fl B y)
  | 4 => some (.both B x y)
  | 7 => some (.both B x y)
  | 8 => some (.box B (.cells #[.bool false, .slice none 0 0, .int .u8 0, .bool false] 28 (0, 0)))
  | 9 => some (.box B (.cells #[.bool false, .slice none 0 0, .int .u8 0, .bool false] 24 (0, 0)))
  | _ => none
set_option maxRecDepth 100000 in
set_option maxHeartbeats 12800000 in
theorem filterAnds_walk (x y : Fl) (A B : Option Addr) (c d : Nat) (w : World) (hX : FlAt w w.heap.size x A c) (hY : FlAt w w.heap.size y B d) (okx : FlOk x) (oky : FlOk y) : Calls Try.prog 6 #[x.v A c, y.v B d] w (RetB true w) := by
  obtain ⟨al, xs, kx, ex⟩ := x
  obtain ⟨be, ys, ky, ey⟩ := y
  obtain ⟨k0, k1, -⟩ := okx
  obtain ⟨j0, j1, -⟩ := oky
  simp only at k0 k1 j0 j1
  obtain ⟨kx, rfl⟩ := Int.eq_ofNat_of_zero_le k0
  obtain ⟨ky, rfl⟩ := Int.eq_ofNat_of_zero_le j0
  have HX := Lib.hid hX; have HY := Lib.hid hY
  clear hX hY
  show Calls Try.prog 6 #[.agg #[.bool al, .slice A xs.length c, .int .u8 (kx : Int), .bool ex], .agg #[.bool be, .slice B ys.length d, .int .u8 (ky : Int), .bool ey]] w _
  go_enter Try.func6, Try.ntmps6
  by_cases h1 : 60 < xs.length
  · have h11 : (60 : Int) < (xs.length : Int) := by omega
    go_wp2
    go_ret
    exact ⟨rfl, ((Below.refl _ w).alloc (Nat.le_refl _) _).alloc (by simp) _⟩
  have h11 : ¬ (60 : Int) < (xs.length : Int) := by omega
  by_cases h2 : 60 < ys.length
  · have h22 : (60 : Int) < (ys.length : Int) := by omega
    go_wp2
    go_ret
    exact ⟨rfl, ((Below.refl _ w).alloc (Nat.le_refl _) _).alloc (by simp) _⟩
  have h22 : ¬ (60 : Int) < (ys.length : Int) := by omega
  go_wp2_with fail
  generalize hW : World.alloc (World.alloc w _) _ = W
  have hb0 : Below w.heap.size w W := by rw [← hW]; exact ((Below.refl _ w).alloc (Nat.le_refl _) _).alloc (by simp) _
  have p0 : W.heap[w.heap.size]? = some (.cells #[.bool al, .slice A xs.length c, .int .u8 (kx : Int), .bool ex] 24 (0, 0)) := by rw [← hW, heap_alloc_old _ _ (by simp)]; exact heap_alloc_new w _
  have p1 : W.heap[w.heap.size + 1]? = some (.cells #[.bool be, .slice B ys.length d, .int .u8 (ky : Int), .bool ey] 24 (0, 0)) := by
    rw [← hW]
    have := heap_alloc_new (w.alloc (.cells #[.bool al, .slice A xs.length c, .int .u8 (kx : Int), .bool ex] 24)) (.cells #[.bool be, .slice B ys.length d, .int .u8 (ky : Int), .bool ey] 24)
    rwa [World.size_alloc] at this
  have hWs : W.heap.size = w.heap.size + 1 + 1 := by rw [← hW]; simp
  have HB := Lib.hid hb0; have P0 := Lib.hid p0; have P1 := Lib.hid p1
  have hx2 := Lib.hid (HX.out.up hb0 (Nat.le_refl _) hb0.size); have hy2 := Lib.hid (HY.out.up hb0 (Nat.le_refl _) hb0.size)
  clear hW hb0 p0 p1
  refine wp_region_fx_tail 10 (anF W.heap.size ⟨al, xs, (kx : Int), ex⟩ ⟨be, ys, (ky : Int), ey⟩) (by kernel_rfl) (by kernel_rfl) (by kernel_rfl) (by kernel_rfl) ?_
  refine wpM_look (.agg #[.bool al, .slice A xs.length c, .int .u8 (kx : Int), .bool ex]) rfl rfl (fun w6 hc6 _ => ?_) ?_
  · have c0 : w6.cell? ⟨w.heap.size, 0, none⟩ = some (.bool al) := cell_of_row _ _ 0 _ 24 (0, 0) ((hc6.block _ (row_lt P0.out)).trans P0.out)
    have c1 : w6.cell? ⟨w.heap.size, 1, none⟩ = some (.slice A xs.length c) := cell_of_row _ _ 1 _ 24 (0, 0) ((hc6.block _ (row_lt P0.out)).trans P0.out)
    have c2 : w6.cell? ⟨w.heap.size, 2, none⟩ = some (.int .u8 (kx : Int)) := cell_of_row _ _ 2 _ 24 (0, 0) ((hc6.block _ (row_lt P0.out)).trans P0.out)
    have c3 : w6.cell? ⟨w.heap.size, 3, none⟩ = some (.bool ex) := cell_of_row _ _ 3 _ 24 (0, 0) ((hc6.block _ (row_lt P0.out)).trans P0.out)
    go_simp
  repeat (first | (refine wpM_skip rfl ?_) | (refine wpM_all rfl rfl (fun K hK => ?_); go_simp; refine hK _ ?_; clear hK K))
  refine wpM_eff rfl rfl (fun w9 hc9 _ => steps_enter (own_any ⟨al, xs, (kx : Int), ex⟩ A c w9 (hx2.out.ext hc9) (by simp only; omega)) (by go_simp; first | done | rfl | exact ⟨rfl, rfl⟩) (fl_val hc9.size rfl)) ?_
  rintro v1 ⟨wq, hq⟩
  obtain ⟨u1', rfl, hq⟩ : ∃ u, v1 = .agg (Fl.cells ⟨al, xs, (kx : Int), ex⟩ u) ∧ wq.ownsRow W.heap.size 25 1 u (xs).length (u32s xs) := hq
  obtain ⟨A1, c1, rfl, -⟩ := FlAt.of_own (f := ⟨al, xs, (kx : Int), ex⟩) hq
  clear hq wq
  unfold Fl.cells
  repeat (first | (refine wpM_skip rfl ?_) | (refine wpM_all rfl rfl (fun K hK => ?_); go_simp; refine hK _ ?_; clear hK K))
  refine wpM_look (.agg #[.bool be, .slice B ys.length d, .int .u8 (ky : Int), .bool ey]) rfl rfl (fun w6 hc6 _ => ?_) ?_
  · have c0 : w6.cell? ⟨(w.heap.size + 1), 0, none⟩ = some (.bool be) := cell_of_row _ _ 0 _ 24 (0, 0) ((hc6.block _ (row_lt P1.out)).trans P1.out)
    have c1 : w6.cell? ⟨(w.heap.size + 1), 1, none⟩ = some (.slice B ys.length d) := cell_of_row _ _ 1 _ 24 (0, 0) ((hc6.block _ (row_lt P1.out)).trans P1.out)
    have c2 : w6.cell? ⟨(w.heap.size + 1), 2, none⟩ = some (.int .u8 (ky : Int)) := cell_of_row _ _ 2 _ 24 (0, 0) ((hc6.block _ (row_lt P1.out)).trans P1.out)
    have c3 : w6.cell? ⟨(w.heap.size + 1), 3, none⟩ = some (.bool ey) := cell_of_row _ _ 3 _ 24 (0, 0) ((hc6.block _ (row_lt P1.out)).trans P1.out)
    go_simp
  repeat (first | (refine wpM_skip rfl ?_) | (refine wpM_all rfl rfl (fun K hK => ?_); go_simp; refine hK _ ?_; clear hK K))
  refine wpM_eff rfl rfl (fun w9 hc9 _ => steps_enter (own_any ⟨be, ys, (ky : Int), ey⟩ B d w9 (hy2.out.ext hc9) (by simp only; omega)) (by go_simp; first | done | rfl | exact ⟨rfl, rfl⟩) (fl_val hc9.size rfl)) ?_
  rintro v3 ⟨wq, hq⟩
  obtain ⟨u3', rfl, hq⟩ : ∃ u, v3 = .agg (Fl.cells ⟨be, ys, (ky : Int), ey⟩ u) ∧ wq.ownsRow W.heap.size 25 1 u (ys).length (u32s ys) := hq
  obtain ⟨A3, c3, rfl, -⟩ := FlAt.of_own (f := ⟨be, ys, (ky : Int), ey⟩) hq
  clear hq wq
  unfold Fl.cells
  repeat (first | (refine wpM_skip rfl ?_) | (refine wpM_all rfl rfl (fun K hK => ?_); go_simp; refine hK _ ?_; clear hK K))
  refine wpM_eff rfl rfl (fun w9 hc9 hd => ?_) ?_
  · have d1 : FlAt w9 w9.heap.size ⟨al, xs, (kx : Int), ex⟩ A1 c1 := FlAt.of_fl (hd ⟨1, .data⟩ (by simp) rfl)
    have d3 : FlAt w9 w9.heap.size ⟨be, ys, (ky : Int), ey⟩ A3 c3 := FlAt.of_fl (hd ⟨3, .data⟩ (by simp) rfl)
    exact steps_enter (and_any ⟨al, xs, (kx : Int), ex⟩ ⟨be, ys, (ky : Int), ey⟩ A1 A3 c1 c3 w9 d1 d3 (by simp only; omega) (by simp only; omega)) (by go_simp; first | done | rfl | exact ⟨rfl, rfl⟩) (both_val hc9.size rfl)
  rintro v4 ⟨wq, hq⟩
  obtain ⟨⟨a4, o4, m4, e4⟩, u4', hi4, rfl, hq⟩ : ∃ r u, AndIs ⟨al, xs, (kx : Int), ex⟩ ⟨be, ys, (ky : Int), ey⟩ r ∧ v4 = .agg (Fl.cells r u) ∧ wq.ownsRow W.heap.size 25 1 u r.oids.length (u32s r.oids) := hq
  obtain ⟨A4, c4, rfl, -⟩ := FlAt.of_own (f := ⟨a4, o4, m4, e4⟩) hq
  have HI4 := Lib.hid hi4
  clear hq wq hi4
  unfold Fl.cells
  repeat (first | (refine wpM_skip rfl ?_) | (refine wpM_all rfl rfl (fun K hK => ?_); go_simp; refine hK _ ?_; clear hK K))
  refine wpM_look (.agg #[.bool al, .slice A xs.length c, .int .u8 (kx : Int), .bool ex]) rfl rfl (fun w6 hc6 _ => ?_) ?_
  · have c0 : w6.cell? ⟨w.heap.size, 0, none⟩ = some (.bool al) := cell_of_row _ _ 0 _ 24 (0, 0) ((hc6.block _ (row_lt P0.out)).trans P0.out)
    have c1 : w6.cell? ⟨w.heap.size, 1, none⟩ = some (.slice A xs.length c) := cell_of_row _ _ 1 _ 24 (0, 0) ((hc6.block _ (row_lt P0.out)).trans P0.out)
    have c2 : w6.cell? ⟨w.heap.size, 2, none⟩ = some (.int .u8 (kx : Int)) := cell_of_row _ _ 2 _ 24 (0, 0) ((hc6.block _ (row_lt P0.out)).trans P0.out)
    have c3 : w6.cell? ⟨w.heap.size, 3, none⟩ = some (.bool ex) := cell_of_row _ _ 3 _ 24 (0, 0) ((hc6.block _ (row_lt P0.out)).trans P0.out)
    go_simp
  repeat (first | (refine wpM_skip rfl ?_) | (refine wpM_all rfl rfl (fun K hK => ?_); go_simp; refine hK _ ?_; clear hK K))
  refine wpM_look (.agg #[.bool be, .slice B ys.length d, .int .u8 (ky : Int), .bool ey]) rfl rfl (fun w6 hc6 _ => ?_) ?_
  · have c0 : w6.cell? ⟨(w.heap.size + 1), 0, none⟩ = some (.bool be) := cell_of_row _ _ 0 _ 24 (0, 0) ((hc6.block _ (row_lt P1.out)).trans P1.out)
    have c1 : w6.cell? ⟨(w.heap.size + 1), 1, none⟩ = some (.slice B ys.length d) := cell_of_row _ _ 1 _ 24 (0, 0) ((hc6.block _ (row_lt P1.out)).trans P1.out)
    have c2 : w6.cell? ⟨(w.heap.size + 1), 2, none⟩ = some (.int .u8 (ky : Int)) := cell_of_row _ _ 2 _ 24 (0, 0) ((hc6.block _ (row_lt P1.out)).trans P1.out)
    have c3 : w6.cell? ⟨(w.heap.size + 1), 3, none⟩ = some (.bool ey) := cell_of_row _ _ 3 _ 24 (0, 0) ((hc6.block _ (row_lt P1.out)).trans P1.out)
    go_simp
  repeat (first | (refine wpM_skip rfl ?_) | (refine wpM_all rfl rfl (fun K hK => ?_); go_simp; refine hK _ ?_; clear hK K))
  refine wpM_eff rfl rfl (fun w9 hc9 _ => steps_enter (andR_any al be ex ey xs ys kx ky A B c d w9 (hx2.out.ext hc9) (hy2.out.ext hc9) (by omega) (by omega) (by omega) (by omega)) (by go_simp; first | done | rfl | exact ⟨rfl, rfl⟩) (both_val hc9.size rfl)) ?_
  rintro v7 ⟨wq, hq⟩
  obtain ⟨⟨a7, o7, m7, e7⟩, u7', hi7, rfl, hq⟩ : ∃ r u, AndIs ⟨al, xs, (kx : Int), ex⟩ ⟨be, ys, (ky : Int), ey⟩ r ∧ v7 = .agg (Fl.cells r u) ∧ wq.ownsRow W.heap.size 25 1 u r.oids.length (u32s r.oids) := hq
  obtain ⟨A7, c7, rfl, -⟩ := FlAt.of_own (f := ⟨a7, o7, m7, e7⟩) hq
  have HI7 := Lib.hid hi7
  clear hq wq hi7
  unfold Fl.cells
  repeat (first | (refine wpM_skip rfl ?_) | (refine wpM_all rfl rfl (fun K hK => ?_); go_simp; refine hK _ ?_; clear hK K))
  refine wpM_eff rfl rfl (fun w9 hc9 _ => steps_box rfl hc9.size (by go_simp)) ?_
  rintro v8 ⟨wq, hq⟩
  obtain ⟨g8, rfl, -, -⟩ : ∃ g, v8 = .pointer (some ⟨g, 0, none⟩) ∧ W.heap.size ≤ g ∧ wq.heap[g]? = some (.cells #[.bool false, .slice none 0 0, .int .u8 0, .bool false] 28 (0, 0)) := hq
  clear wq
  refine wpM_eff rfl rfl (fun w9 hc9 _ => steps_box rfl hc9.size (by go_simp)) ?_
  rintro v9 ⟨wq, hq⟩
  obtain ⟨g9, rfl, -, -⟩ : ∃ g, v9 = .pointer (some ⟨g, 0, none⟩) ∧ W.heap.size ≤ g ∧ wq.heap[g]? = some (.cells #[.bool false, .slice none 0 0, .int .u8 0, .bool false] 24 (0, 0)) := hq
  clear wq
  (refine wpM_norm (fun K hK => ?_); go_simp; refine hK _ ?_; clear hK K)
  refine wpM_nil fun w10 hc10 hf => ?_
  have ho4 := both_at HI4.out (show (Fact.both W.heap.size ⟨al, xs, (kx : Int), ex⟩ ⟨be, ys, (ky : Int), ey⟩).p (.agg (Fl.cells ⟨a4, o4, m4, e4⟩ (.slice A4 o4.length c4))) w10 from hf 4)
  have ho7 := both_at HI7.out (show (Fact.both W.heap.size ⟨al, xs, (kx : Int), ex⟩ ⟨be, ys, (ky : Int), ey⟩).p (.agg (Fl.cells ⟨a7, o7, m7, e7⟩ (.slice A7 o7.length c7))) w10 from hf 7)
  obtain ⟨g, e', hg8, q8⟩ : ∃ g, Value.pointer (some ⟨g8, 0, none⟩) = .pointer (some ⟨g, 0, none⟩) ∧ W.heap.size ≤ g ∧ w10.heap[g]? = some (.cells #[.bool false, .slice none 0 0, .int .u8 0, .bool false] 28 (0, 0)) := hf 8
  injection e' with e'; injection e' with e'; injection e' with e' _ _
  subst e'
  obtain ⟨g, e', hg9, q9⟩ : ∃ g, Value.pointer (some ⟨g9, 0, none⟩) = .pointer (some ⟨g, 0, none⟩) ∧ W.heap.size ≤ g ∧ w10.heap[g]? = some (.cells #[.bool false, .slice none 0 0, .int .u8 0, .bool false] 24 (0, 0)) := hf 9
  injection e' with e'; injection e' with e'; injection e' with e' _ _
  subst e'
  have hne : g9 ≠ g8 := fun e => by
    rw [e, q8] at q9
    injection q9 with q9; injection q9 with _ q9 _; cases q9
  have he := HI4.out.uniq HI7.out
  injection he with he1 he2 he3 he4
  subst he1 he2 he3 he4
  clear hf
  have r8 := setRow_heap w10 g8 _ #[.bool a4, .slice A4 o4.length c4, .int .u8 m4, .bool e4] 28 (0, 0) q8
  have r9 := (setRow_other w10 g8 g9 #[.bool a4, .slice A4 o4.length c4, .int .u8 m4, .bool e4] hne).trans q9
  have s8 := (setRow_other (w10.setRow g8 #[.bool a4, .slice A4 o4.length c4, .int .u8 m4, .bool e4]) g9 g8 #[.bool a4, .slice A7 o4.length c7, .int .u8 m4, .bool e4] (Ne.symm hne)).trans r8
  have s9 := setRow_heap (w10.setRow g8 #[.bool a4, .slice A4 o4.length c4, .int .u8 m4, .bool e4]) g9 _ #[.bool a4, .slice A7 o4.length c7, .int .u8 m4, .bool e4] 24 (0, 0) r9
  have t4 := own_setRow (cs' := #[.bool a4, .slice A7 o4.length c7, .int .u8 m4, .bool e4]) (own_setRow (cs' := #[.bool a4, .slice A4 o4.length c4, .int .u8 m4, .bool e4]) ho4 q8 (by decide)) r9 (by decide)
  have t7 := own_setRow (cs' := #[.bool a4, .slice A7 o4.length c7, .int .u8 m4, .bool e4]) (own_setRow (cs' := #[.bool a4, .slice A4 o4.length c4, .int .u8 m4, .bool e4]) ho7 q8 (by decide)) r9 (by decide)
  have hb12 := below_setRow (below_setRow (HB.out.trans (hc10.mono HB.out.size)) (show w.heap.size ≤ g8 by omega) (cs := #[.bool a4, .slice A4 o4.length c4, .int .u8 m4, .bool e4])) (show w.heap.size ≤ g9 by omega) (cs := #[.bool a4, .slice A7 o4.length c7, .int .u8 m4, .bool e4])
  have HB12 := Lib.hid hb12; have S8 := Lib.hid s8; have S9 := Lib.hid s9; have T4 := Lib.hid t4; have T7 := Lib.hid t7
  clear hb12 s8 s9 t4 t7 ho4 ho7 r8 hc10 hne
  show wpList _ _ _ [_, _] _ _
  refine wpList_store_row rfl 28 _ _ rfl g8 rfl #[.bool a4, .slice A4 o4.length c4, .int .u8 m4, .bool e4] rfl _ 28 q8 (by kernel_rfl) rfl (cells_one4 rfl) rfl ?_
  refine wpList_store_row rfl 24 _ _ rfl g9 rfl #[.bool a4, .slice A7 o4.length c7, .int .u8 m4, .bool e4] rfl _ 24 r9 (by kernel_rfl) rfl (cells_one4 rfl) rfl ?_
  generalize (w10.setRow g8 #[.bool a4, .slice A4 o4.length c4, .int .u8 m4, .bool e4]).setRow g9 #[.bool a4, .slice A7 o4.length c7, .int .u8 m4, .bool e4] = w12 at *
  clear q8 q9 r9 hg8 hg9
  have x0 : w12.cell? ⟨g8, 0, none⟩ = some (.bool a4) := cell_of_row _ _ 0 _ 28 (0, 0) S8.out
  have x1 : w12.cell? ⟨g8, 1, none⟩ = some (.slice A4 o4.length c4) := cell_of_row _ _ 1 _ 28 (0, 0) S8.out
  have x2 : w12.cell? ⟨g8, 2, none⟩ = some (.int .u8 m4) := cell_of_row _ _ 2 _ 28 (0, 0) S8.out
  have x3 : w12.cell? ⟨g8, 3, none⟩ = some (.bool e4) := cell_of_row _ _ 3 _ 28 (0, 0) S8.out
  have fzx : ∀ i, w12.frozen? ⟨g8, i, none⟩ = false := fun i => row_free S8.out i
  have y0 : w12.cell? ⟨g9, 0, none⟩ = some (.bool a4) := cell_of_row _ _ 0 _ 24 (0, 0) S9.out
  have y1 : w12.cell? ⟨g9, 1, none⟩ = some (.slice A7 o4.length c7) := cell_of_row _ _ 1 _ 24 (0, 0) S9.out
  have y2 : w12.cell? ⟨g9, 2, none⟩ = some (.int .u8 m4) := cell_of_row _ _ 2 _ 24 (0, 0) S9.out
  have y3 : w12.cell? ⟨g9, 3, none⟩ = some (.bool e4) := cell_of_row _ _ 3 _ 24 (0, 0) S9.out
  have fzy : ∀ i, w12.frozen? ⟨g9, i, none⟩ = false := fun i => row_free S9.out i
  have hol : o4.length ≤ 1000 := by
    have h : o4.length ≤ xs.length + ys.length := HI4.out.len
    omega
  go_wp2
  go_loopw [7] (fun s7 wr => ∃ j : Nat, j ≤ o4.length ∧ s7 = .int .i64 (j : Int) ∧ Hid (Below w12.heap.size w12 wr)) (fun s7 _ => o4.length - (intOf s7).toNat)
  case atStart => exact ⟨0, by omega, rfl, Below.refl _ _⟩
  case round =>
    obtain ⟨j, hj, rfl, hb⟩ := hrel
    clear x0 x1 x2 x3 y0 y1 y2 y3 fzx fzy
    have r8 := (hb.out.block _ (row_lt S8.out)).trans S8.out
    have r9 := (hb.out.block _ (row_lt S9.out)).trans S9.out
    have x1 : wr.cell? ⟨g8, 1, none⟩ = some (.slice A4 o4.length c4) := cell_of_row _ _ 1 _ 28 (0, 0) r8
    have y1 : wr.cell? ⟨g9, 1, none⟩ = some (.slice A7 o4.length c7) := cell_of_row _ _ 1 _ 24 (0, 0) r9
    clear r8 r9
    by_cases hlt : j < o4.length
    · have hd1 : (j : Int) < (o4.length : Int) := by omega
      obtain ⟨ga, ka, ea, ha1, ha2⟩ := own_form T4.out (by omega)
      obtain ⟨gb, kb, eb, hb1, hb2⟩ := own_form T7.out (by omega)
      injection ea with ea _ ea'; injection eb with eb _ eb'
      subst ea ea' eb eb'
      have xa : wr.cell? ⟨ga, j, none⟩ = some (.int .u32 o4[j]) := by
        have := T4.out.cells (g := ga) rfl j (.int .u32 o4[j]) (by simp [u32s, hlt])
        rw [add_plain, Nat.zero_add] at this
        exact (hb.out.cell ha2).trans this
      have xb : wr.cell? ⟨gb, j, none⟩ = some (.int .u32 o4[j]) := by
        have := T7.out.cells (g := gb) rfl j (.int .u32 o4[j]) (by simp [u32s, hlt])
        rw [add_plain, Nat.zero_add] at this
        exact (hb.out.cell hb2).trans this
      generalize o4[j] = o at *
      go_upto_region 9 with fail
      go_quiet (fail)
      go_wp2
      go_roundw
      case rel => exact ⟨j + 1, by omega, by go_num, below_drewN hb.out _⟩
      case measure => simp [intOf]; omega
    · go_wp2_with fail
      refine (awake_any wr).mono ?_
      rintro e w13 ⟨rfl, hb13⟩
      go_wp2
      go_ret
      exact ⟨rfl, (HB12.out.trans (hb.out.mono HB12.out.size)).trans (hb13.mono (Nat.le_trans HB12.out.size hb.out.size))⟩
end Go.Proofs.Ytaaijgalminafaa
