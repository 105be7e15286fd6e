import Derived.Deep.DeepCutAuto
import Derived.Test.YtaaijgalminafaaFm
/-
  Layer 24: FilterTurns (f3): three filters, their copies, what two and three are together (printed by gen_ft.py).
-/
namespace Go.Proofs.Ytaaijgalminafaa
open Go.RowKit Mem
attribute [local go_sem] Mono.pureAt Mono.pureUpon
attribute [local irreducible] Mono.steps Mono.wpM State.acts State.wpM

theorem State.wpM_norm {P : Program} {ops : Array Oper} {md : Region.Mode} {C : (Nat → Option Value) → World → Prop} {eff : Nat → Bool} {Q : Act → World → Prop} {l : List Oper} {k : Nat} {F : Nat → Option Value} {a : Act}
    (h : ∀ K : Act → Prop, (∀ a, State.wpM P ops md C eff Q l k F a → K a) → K a) : State.wpM P ops md C eff Q l k F a := h _ (fun _ h => h)
theorem own_setRow_ne {w : World} {base size n g : Nat} {e : TypeId} {v : Value} {xs : List Value} {cs : Array Value} (h : w.ownsRow base e size v n xs) (hne : v.ownBlock ≠ some g) : (w.setRow g cs).ownsRow base e size v n xs :=
  own_block h fun g' hg' => setRow_other w g g' cs (fun e' => hne (by rw [← e']; exact hg'))
/-- Block g holds a filter of the program. -/
structure Bx (w : World) (f : Fl) (g : Nat) (A : Option Addr) (c : Nat) : Prop where
  o : w.heap[g]? = some (.cells (f.cells (.slice A f.oids.length c)) 28 (0, 0))
  f : FlAt w w.heap.size f A c
theorem Bx.up {w w' : World} {f : Fl} {g : Nat} {A : Option Addr} {c : Nat} (h : Bx w f g A c) (hb : Below w.heap.size w w') : Bx w' f g A c := ⟨(hb.block g (row_lt h.o)).trans h.o, h.f.ext hb⟩
theorem Bx.mk' {w : World} {f : Fl} {g base : Nat} {A : Option Addr} {c : Nat} (h : w.heap[g]? = some (.cells (f.cells (.slice A f.oids.length c)) 28 (0, 0))) (ho : w.ownsRow base 25 1 (.slice A f.oids.length c) f.oids.length (u32s f.oids)) : Bx w f g A c := by
  refine ⟨h, ?_⟩
  obtain ⟨A', c', e, h3⟩ := FlAt.of_own ho
  injection e with e1 _ e2
  subst e1 e2
  exact h3
def turnL3 (B : Nat) (x y z : Fl) : List (Nat × Mem.Kind) := [(1, .sup (supFl B (· = x))), (3, .sup (supFl B (· = y))), (6, .sup (supFl B (· = z))), (7, .box 4 28), (8, .box 4 28), (9, .box 4 28)]
def turnL4 (B : Nat) (x y : Fl) : List (Nat × Mem.Kind) := [(2, .sup (supFl B (AndIs x y))), (5, .sup (supFl B (AndIs y x))), (6, .box 4 28), (7, .box 4 28)]
def turnL5 (B : Nat) (x y z : Fl) : List (Nat × Mem.Kind) := [(2, .sup (supFl B (AndIs x y))), (4, .sup (supFl B (Left3 x y z))), (8, .sup (supFl B (AndIs y z))), (9, .sup (supFl B (Right3 x y z))), (10, .box 4 28), (11, .box 4 28)]
def ftF (r x y : Bool) : Nat → Option Fact
  | 2 => some (.val (.bool r))
  | 5 => some (.val (.bool x))
  | 9 => some (.val (.bool y))
  | 15 => some (.val (.bool r))
  | 18 => some (.val (.bool r))
  | _ => none
set_option maxRecDepth 100000 in
set_option maxHeartbeats 12800000 in
theorem filterTurns_walk (x y z : Fl) (o : Int) (A B C : Option Addr) (c d e : Nat) (w : World) (hX : FlAt w w.heap.size x A c) (hY : FlAt w w.heap.size y B d) (hZ : FlAt w w.heap.size z C e) :
    Calls Try.prog 3 #[x.v A c, y.v B d, .agg #[.bool z.all, .slice C z.oids.length e, .int .u8 z.kinds, .bool z.empty, .int .u32 o]] w (RetB true w) := by
  obtain ⟨al, xs, kx, ex⟩ := x
  obtain ⟨be, ys, ky, ey⟩ := y
  obtain ⟨ga, zs, kz, ez⟩ := z
  have HX := Lib.hid hX; have HY := Lib.hid hY; have HZ := Lib.hid hZ
  clear hX hY hZ
  show Calls Try.prog 3 #[.agg #[.bool al, .slice A xs.length c, .int .u8 kx, .bool ex], .agg #[.bool be, .slice B ys.length d, .int .u8 ky, .bool ey], .agg #[.bool ga, .slice C zs.length e, .int .u8 kz, .bool ez, .int .u32 o]] w _
  go_enter Try.func3, Try.ntmps3
  by_cases h1 : 60 < xs.length
  · have h11 : (60 : Int) < (xs.length : Int) := by omega
    go_wp2
    go_ret
    exact ⟨rfl, (((Below.refl _ w).alloc (Nat.le_refl _) _).alloc (by simp) _).alloc (by first | (simp; done) | (simp; omega)) _⟩
  have h11 : ¬ (60 : Int) < (xs.length : Int) := by omega
  by_cases h2 : 60 < ys.length
  · have h22 : (60 : Int) < (ys.length : Int) := by omega
    go_wp2
    go_ret
    exact ⟨rfl, (((Below.refl _ w).alloc (Nat.le_refl _) _).alloc (by simp) _).alloc (by first | (simp; done) | (simp; omega)) _⟩
  have h22 : ¬ (60 : Int) < (ys.length : Int) := by omega
  by_cases h3 : 60 < zs.length
  · have h33 : (60 : Int) < (zs.length : Int) := by omega
    go_wp2
    go_ret
    exact ⟨rfl, (((Below.refl _ w).alloc (Nat.le_refl _) _).alloc (by simp) _).alloc (by first | (simp; done) | (simp; omega)) _⟩
  have h33 : ¬ (60 : Int) < (zs.length : Int) := by omega
  go_wp2_with fail
  generalize hW : World.alloc (World.alloc (World.alloc w _) _) _ = W
  obtain ⟨hb0, p0, p1, p2, hsz⟩ := alloc3 hW
  have HB := Lib.hid hb0; have P0 := Lib.hid p0; have P1 := Lib.hid p1; have P2 := Lib.hid p2
  have hx2 := Lib.hid (HX.out.up hb0 (Nat.le_refl _) hb0.size); have hy2 := Lib.hid (HY.out.up hb0 (Nat.le_refl _) hb0.size); have hz2 := Lib.hid (HZ.out.up hb0 (Nat.le_refl _) hb0.size)
  clear hW hb0 p0 p1 p2
  go_cut [7, 8, 9] (fun s7 s8 s9 wx => ∃ g7 g8 g9 A1 c1 A3 c3 A6 c6, s7 = .pointer (some ⟨g7, 0, none⟩) ∧ s8 = .pointer (some ⟨g8, 0, none⟩) ∧ s9 = .pointer (some ⟨g9, 0, none⟩) ∧ Hid (Below W.heap.size W wx ∧ Bx wx ⟨al, xs, kx, ex⟩ g7 A1 c1 ∧ Bx wx ⟨be, ys, ky, ey⟩ g8 A3 c3 ∧ Bx wx ⟨ga, zs, kz, ez⟩ g9 A6 c6))
  case first =>
    refine wp_region_mem_tail 10 (turnL3 W.heap.size ⟨al, xs, kx, ex⟩ ⟨be, ys, ky, ey⟩ ⟨ga, zs, kz, ez⟩) (by kernel_rfl) (by kernel_rfl) (by kernel_rfl) (by kernel_rfl) (by kernel_rfl) (by kernel_rfl) (fun hM hO => ?_)
    refine State.wpM_look (.agg #[.bool al, .slice A xs.length c, .int .u8 kx, .bool ex]) rfl rfl (fun F' w6 hC _ _ => ?_) ?_
    · have c0 : w6.cell? ⟨w.heap.size, 0, none⟩ = some (.bool al) := cell_of_row _ _ 0 _ 24 (0, 0) ((hC.b.block _ (row_lt P0.out)).trans P0.out)
      have c1 : w6.cell? ⟨w.heap.size, 1, none⟩ = some (.slice A xs.length c) := cell_of_row _ _ 1 _ 24 (0, 0) ((hC.b.block _ (row_lt P0.out)).trans P0.out)
      have c2 : w6.cell? ⟨w.heap.size, 2, none⟩ = some (.int .u8 kx) := cell_of_row _ _ 2 _ 24 (0, 0) ((hC.b.block _ (row_lt P0.out)).trans P0.out)
      have c3 : w6.cell? ⟨w.heap.size, 3, none⟩ = some (.bool ex) := cell_of_row _ _ 3 _ 24 (0, 0) ((hC.b.block _ (row_lt P0.out)).trans P0.out)
      go_simp
    repeat (first | (refine State.wpM_skip rfl ?_) | (refine State.wpM_all rfl rfl (fun K hK => ?_); go_simp; refine hK _ ?_; clear hK K))
    refine State.wpM_act rfl rfl (fun F' w5 hC h0 ha hA => ?_) ?_
    · skip
      exact acts_sup hM rfl hC ha ((own_any ⟨al, xs, kx, ex⟩ A c w5 (hx2.out.ext hC.b) (by simp only; omega)).mono fun e w' h => ⟨_, h, rfl⟩) (by go_simp; first | done | rfl | exact ⟨rfl, rfl⟩) (retFl_sup hC.b.size)
    intro v1 ⟨w5, hC5⟩
    obtain ⟨S5, ⟨r1, u1', hP1, rfl, hw1, -⟩, -⟩ := hC5.sup 1 _ rfl v1 (by simp [State.upd])
    obtain ⟨A1, c1, rfl, -⟩ := FlAt.of_own hw1
    subst hP1
    clear hC5 hw1 w5 S5
    unfold Fl.cells
    repeat (first | (refine State.wpM_skip rfl ?_) | (refine State.wpM_all rfl rfl (fun K hK => ?_); go_simp; refine hK _ ?_; clear hK K))
    refine State.wpM_look (.agg #[.bool be, .slice B ys.length d, .int .u8 ky, .bool ey]) rfl rfl (fun F' w6 hC _ _ => ?_) ?_
    · have c0 : w6.cell? ⟨w.heap.size + 1, 0, none⟩ = some (.bool be) := cell_of_row _ _ 0 _ 24 (0, 0) ((hC.b.block _ (row_lt P1.out)).trans P1.out)
      have c1 : w6.cell? ⟨w.heap.size + 1, 1, none⟩ = some (.slice B ys.length d) := cell_of_row _ _ 1 _ 24 (0, 0) ((hC.b.block _ (row_lt P1.out)).trans P1.out)
      have c2 : w6.cell? ⟨w.heap.size + 1, 2, none⟩ = some (.int .u8 ky) := cell_of_row _ _ 2 _ 24 (0, 0) ((hC.b.block _ (row_lt P1.out)).trans P1.out)
      have c3 : w6.cell? ⟨w.heap.size + 1, 3, none⟩ = some (.bool ey) := cell_of_row _ _ 3 _ 24 (0, 0) ((hC.b.block _ (row_lt P1.out)).trans P1.out)
      go_simp
    repeat (first | (refine State.wpM_skip rfl ?_) | (refine State.wpM_all rfl rfl (fun K hK => ?_); go_simp; refine hK _ ?_; clear hK K))
    refine State.wpM_act rfl rfl (fun F' w5 hC h0 ha hA => ?_) ?_
    · skip
      exact acts_sup hM rfl hC ha ((own_any ⟨be, ys, ky, ey⟩ B d w5 (hy2.out.ext hC.b) (by simp only; omega)).mono fun e w' h => ⟨_, h, rfl⟩) (by go_simp; first | done | rfl | exact ⟨rfl, rfl⟩) (retFl_sup hC.b.size)
    intro v3 ⟨w5, hC5⟩
    obtain ⟨S5, ⟨r3, u3', hP3, rfl, hw3, -⟩, -⟩ := hC5.sup 3 _ rfl v3 (by simp [State.upd])
    obtain ⟨A3, c3, rfl, -⟩ := FlAt.of_own hw3
    subst hP3
    clear hC5 hw3 w5 S5
    unfold Fl.cells
    repeat (first | (refine State.wpM_skip rfl ?_) | (refine State.wpM_all rfl rfl (fun K hK => ?_); go_simp; refine hK _ ?_; clear hK K))
    refine State.wpM_look (.agg #[.bool ga, .slice C zs.length e, .int .u8 kz, .bool ez]) rfl rfl (fun F' w6 hC _ _ => ?_) ?_
    · have c0 : w6.cell? ⟨w.heap.size + 1 + 1, 0, none⟩ = some (.bool ga) := cell_of_row _ _ 0 _ 27 (0, 0) ((hC.b.block _ (row_lt P2.out)).trans P2.out)
      have c1 : w6.cell? ⟨w.heap.size + 1 + 1, 1, none⟩ = some (.slice C zs.length e) := cell_of_row _ _ 1 _ 27 (0, 0) ((hC.b.block _ (row_lt P2.out)).trans P2.out)
      have c2 : w6.cell? ⟨w.heap.size + 1 + 1, 2, none⟩ = some (.int .u8 kz) := cell_of_row _ _ 2 _ 27 (0, 0) ((hC.b.block _ (row_lt P2.out)).trans P2.out)
      have c3 : w6.cell? ⟨w.heap.size + 1 + 1, 3, none⟩ = some (.bool ez) := cell_of_row _ _ 3 _ 27 (0, 0) ((hC.b.block _ (row_lt P2.out)).trans P2.out)
      go_simp
    repeat (first | (refine State.wpM_skip rfl ?_) | (refine State.wpM_all rfl rfl (fun K hK => ?_); go_simp; refine hK _ ?_; clear hK K))
    refine State.wpM_act rfl rfl (fun F' w5 hC h0 ha hA => ?_) ?_
    · skip
      exact acts_sup hM rfl hC ha ((own_any ⟨ga, zs, kz, ez⟩ C e w5 (hz2.out.ext hC.b) (by simp only; omega)).mono fun e w' h => ⟨_, h, rfl⟩) (by go_simp; first | done | rfl | exact ⟨rfl, rfl⟩) (retFl_sup hC.b.size)
    intro v6 ⟨w5, hC5⟩
    obtain ⟨S5, ⟨r6, u6', hP6, rfl, hw6, -⟩, -⟩ := hC5.sup 6 _ rfl v6 (by simp [State.upd])
    obtain ⟨A6, c6, rfl, -⟩ := FlAt.of_own hw6
    subst hP6
    clear hC5 hw6 w5 S5
    unfold Fl.cells
    repeat (first | (refine State.wpM_skip rfl ?_) | (refine State.wpM_all rfl rfl (fun K hK => ?_); go_simp; refine hK _ ?_; clear hK K))
    refine State.wpM_act rfl rfl (fun F' w hC h0 ha _ => acts_box hM rfl hC h0 ha (cs := #[.bool false, .slice none 0 0, .int .u8 0, .bool false]) rfl (by go_simp)) ?_
    intro v7 ⟨w5, hC5⟩
    obtain ⟨g7, -, rfl, -⟩ := hC5.box 7 4 28 rfl v7 (by simp [State.upd])
    clear hC5 w5
    refine State.wpM_act rfl rfl (fun F' w hC h0 ha _ => acts_box hM rfl hC h0 ha (cs := #[.bool false, .slice none 0 0, .int .u8 0, .bool false]) rfl (by go_simp)) ?_
    intro v8 ⟨w5, hC5⟩
    obtain ⟨g8, -, rfl, -⟩ := hC5.box 8 4 28 rfl v8 (by simp [State.upd])
    clear hC5 w5
    refine State.wpM_act rfl rfl (fun F' w hC h0 ha _ => acts_box hM rfl hC h0 ha (cs := #[.bool false, .slice none 0 0, .int .u8 0, .bool false]) rfl (by go_simp)) ?_
    intro v9 ⟨w5, hC5⟩
    obtain ⟨g9, -, rfl, -⟩ := hC5.box 9 4 28 rfl v9 (by simp [State.upd])
    clear hC5 w5
    (refine State.wpM_norm (fun K hK => ?_); go_simp; refine hK _ ?_; clear hK K)
    refine State.wpM_nil fun w10 hC => ?_
    obtain ⟨z7', cur7, ez7, hB7, q7, hz7⟩ := hC.box 7 4 28 rfl (.pointer (some ⟨g7, 0, none⟩)) (by simp [State.upd])
    injection ez7 with ez7; injection ez7 with ez7; injection ez7 with ez7 _ _
    subst ez7
    obtain ⟨z8', cur8, ez8, hB8, q8, hz8⟩ := hC.box 8 4 28 rfl (.pointer (some ⟨g8, 0, none⟩)) (by simp [State.upd])
    injection ez8 with ez8; injection ez8 with ez8; injection ez8 with ez8 _ _
    subst ez8
    obtain ⟨z9', cur9, ez9, hB9, q9, hz9⟩ := hC.box 9 4 28 rfl (.pointer (some ⟨g9, 0, none⟩)) (by simp [State.upd])
    injection ez9 with ez9; injection ez9 with ez9; injection ez9 with ez9 _ _
    subst ez9
    have n7_8 : g8 ≠ g7 := fun e => hC.ne 7 8 4 4 28 28 (.pointer (some ⟨g7, 0, none⟩)) rfl rfl (by decide) (by simp [State.upd]) (by rw [← e]; simp [State.upd])
    have n7_9 : g9 ≠ g7 := fun e => hC.ne 7 9 4 4 28 28 (.pointer (some ⟨g7, 0, none⟩)) rfl rfl (by decide) (by simp [State.upd]) (by rw [← e]; simp [State.upd])
    have n8_9 : g9 ≠ g8 := fun e => hC.ne 8 9 4 4 28 28 (.pointer (some ⟨g8, 0, none⟩)) rfl rfl (by decide) (by simp [State.upd]) (by rw [← e]; simp [State.upd])
    obtain ⟨S1, hp1, -, hn1⟩ := hC.sup 1 _ rfl (.agg #[.bool al, .slice A1 xs.length c1, .int .u8 kx, .bool ex]) (by simp [State.upd])
    obtain ⟨ow1, hb1⟩ := supFl_at (r := ⟨al, xs, kx, ex⟩) (eq_uniq ⟨al, xs, kx, ex⟩) rfl hp1
    have m1_7 : Value.ownBlock (.slice A1 xs.length c1) ≠ some g7 := fun e => hn1 7 4 28 g7 rfl (by simp [State.upd]) (hb1 _ e)
    have m1_8 : Value.ownBlock (.slice A1 xs.length c1) ≠ some g8 := fun e => hn1 8 4 28 g8 rfl (by simp [State.upd]) (hb1 _ e)
    have m1_9 : Value.ownBlock (.slice A1 xs.length c1) ≠ some g9 := fun e => hn1 9 4 28 g9 rfl (by simp [State.upd]) (hb1 _ e)
    obtain ⟨S3, hp3, -, hn3⟩ := hC.sup 3 _ rfl (.agg #[.bool be, .slice A3 ys.length c3, .int .u8 ky, .bool ey]) (by simp [State.upd])
    obtain ⟨ow3, hb3⟩ := supFl_at (r := ⟨be, ys, ky, ey⟩) (eq_uniq ⟨be, ys, ky, ey⟩) rfl hp3
    have m3_7 : Value.ownBlock (.slice A3 ys.length c3) ≠ some g7 := fun e => hn3 7 4 28 g7 rfl (by simp [State.upd]) (hb3 _ e)
    have m3_8 : Value.ownBlock (.slice A3 ys.length c3) ≠ some g8 := fun e => hn3 8 4 28 g8 rfl (by simp [State.upd]) (hb3 _ e)
    have m3_9 : Value.ownBlock (.slice A3 ys.length c3) ≠ some g9 := fun e => hn3 9 4 28 g9 rfl (by simp [State.upd]) (hb3 _ e)
    obtain ⟨S6, hp6, -, hn6⟩ := hC.sup 6 _ rfl (.agg #[.bool ga, .slice A6 zs.length c6, .int .u8 kz, .bool ez]) (by simp [State.upd])
    obtain ⟨ow6, hb6⟩ := supFl_at (r := ⟨ga, zs, kz, ez⟩) (eq_uniq ⟨ga, zs, kz, ez⟩) rfl hp6
    have m6_7 : Value.ownBlock (.slice A6 zs.length c6) ≠ some g7 := fun e => hn6 7 4 28 g7 rfl (by simp [State.upd]) (hb6 _ e)
    have m6_8 : Value.ownBlock (.slice A6 zs.length c6) ≠ some g8 := fun e => hn6 8 4 28 g8 rfl (by simp [State.upd]) (hb6 _ e)
    have m6_9 : Value.ownBlock (.slice A6 zs.length c6) ≠ some g9 := fun e => hn6 9 4 28 g9 rfl (by simp [State.upd]) (hb6 _ e)
    have qq7 : w10.heap[g7]? = some (.cells cur7 28 (0, 0)) := q7
    have s7 : (((w10.setRow g7 #[.bool al, .slice A1 xs.length c1, .int .u8 kx, .bool ex]).setRow g8 #[.bool be, .slice A3 ys.length c3, .int .u8 ky, .bool ey]).setRow g9 #[.bool ga, .slice A6 zs.length c6, .int .u8 kz, .bool ez]).heap[g7]? = some (.cells #[.bool al, .slice A1 xs.length c1, .int .u8 kx, .bool ex] 28 (0, 0)) := (setRow_other ((w10.setRow g7 #[.bool al, .slice A1 xs.length c1, .int .u8 kx, .bool ex]).setRow g8 #[.bool be, .slice A3 ys.length c3, .int .u8 ky, .bool ey]) g9 g7 _ (Ne.symm n7_9)).trans ((setRow_other (w10.setRow g7 #[.bool al, .slice A1 xs.length c1, .int .u8 kx, .bool ex]) g8 g7 _ (Ne.symm n7_8)).trans (setRow_heap w10 g7 cur7 #[.bool al, .slice A1 xs.length c1, .int .u8 kx, .bool ex] 28 (0, 0) qq7))
    have x1 : (((w10.setRow g7 #[.bool al, .slice A1 xs.length c1, .int .u8 kx, .bool ex]).setRow g8 #[.bool be, .slice A3 ys.length c3, .int .u8 ky, .bool ey]).setRow g9 #[.bool ga, .slice A6 zs.length c6, .int .u8 kz, .bool ez]).ownsRow W.heap.size 25 1 (.slice A1 xs.length c1) _ _ := (own_setRow_ne (own_setRow_ne (own_setRow_ne ow1 m1_7) m1_8) m1_9)
    have qq8 : (w10.setRow g7 #[.bool al, .slice A1 xs.length c1, .int .u8 kx, .bool ex]).heap[g8]? = some (.cells cur8 28 (0, 0)) := (setRow_other w10 g7 g8 _ n7_8).trans (q8)
    have s8 : (((w10.setRow g7 #[.bool al, .slice A1 xs.length c1, .int .u8 kx, .bool ex]).setRow g8 #[.bool be, .slice A3 ys.length c3, .int .u8 ky, .bool ey]).setRow g9 #[.bool ga, .slice A6 zs.length c6, .int .u8 kz, .bool ez]).heap[g8]? = some (.cells #[.bool be, .slice A3 ys.length c3, .int .u8 ky, .bool ey] 28 (0, 0)) := (setRow_other ((w10.setRow g7 #[.bool al, .slice A1 xs.length c1, .int .u8 kx, .bool ex]).setRow g8 #[.bool be, .slice A3 ys.length c3, .int .u8 ky, .bool ey]) g9 g8 _ (Ne.symm n8_9)).trans (setRow_heap (w10.setRow g7 #[.bool al, .slice A1 xs.length c1, .int .u8 kx, .bool ex]) g8 cur8 #[.bool be, .slice A3 ys.length c3, .int .u8 ky, .bool ey] 28 (0, 0) qq8)
    have x3 : (((w10.setRow g7 #[.bool al, .slice A1 xs.length c1, .int .u8 kx, .bool ex]).setRow g8 #[.bool be, .slice A3 ys.length c3, .int .u8 ky, .bool ey]).setRow g9 #[.bool ga, .slice A6 zs.length c6, .int .u8 kz, .bool ez]).ownsRow W.heap.size 25 1 (.slice A3 ys.length c3) _ _ := (own_setRow_ne (own_setRow_ne (own_setRow_ne ow3 m3_7) m3_8) m3_9)
    have qq9 : ((w10.setRow g7 #[.bool al, .slice A1 xs.length c1, .int .u8 kx, .bool ex]).setRow g8 #[.bool be, .slice A3 ys.length c3, .int .u8 ky, .bool ey]).heap[g9]? = some (.cells cur9 28 (0, 0)) := (setRow_other (w10.setRow g7 #[.bool al, .slice A1 xs.length c1, .int .u8 kx, .bool ex]) g8 g9 _ n8_9).trans ((setRow_other w10 g7 g9 _ n7_9).trans (q9))
    have s9 : (((w10.setRow g7 #[.bool al, .slice A1 xs.length c1, .int .u8 kx, .bool ex]).setRow g8 #[.bool be, .slice A3 ys.length c3, .int .u8 ky, .bool ey]).setRow g9 #[.bool ga, .slice A6 zs.length c6, .int .u8 kz, .bool ez]).heap[g9]? = some (.cells #[.bool ga, .slice A6 zs.length c6, .int .u8 kz, .bool ez] 28 (0, 0)) := setRow_heap ((w10.setRow g7 #[.bool al, .slice A1 xs.length c1, .int .u8 kx, .bool ex]).setRow g8 #[.bool be, .slice A3 ys.length c3, .int .u8 ky, .bool ey]) g9 cur9 #[.bool ga, .slice A6 zs.length c6, .int .u8 kz, .bool ez] 28 (0, 0) qq9
    have x6 : (((w10.setRow g7 #[.bool al, .slice A1 xs.length c1, .int .u8 kx, .bool ex]).setRow g8 #[.bool be, .slice A3 ys.length c3, .int .u8 ky, .bool ey]).setRow g9 #[.bool ga, .slice A6 zs.length c6, .int .u8 kz, .bool ez]).ownsRow W.heap.size 25 1 (.slice A6 zs.length c6) _ _ := (own_setRow_ne (own_setRow_ne (own_setRow_ne ow6 m6_7) m6_8) m6_9)
    have hbz := (below_setRow (below_setRow (below_setRow hC.b hB7 (cs := #[.bool al, .slice A1 xs.length c1, .int .u8 kx, .bool ex])) hB8 (cs := #[.bool be, .slice A3 ys.length c3, .int .u8 ky, .bool ey])) hB9 (cs := #[.bool ga, .slice A6 zs.length c6, .int .u8 kz, .bool ez]))
    have Hs7 := Lib.hid s7
    have Hx1 := Lib.hid x1
    have Hs8 := Lib.hid s8
    have Hx3 := Lib.hid x3
    have Hs9 := Lib.hid s9
    have Hx6 := Lib.hid x6
    have HBZ := Lib.hid hbz
    clear s7 x1 s8 x3 s9 x6 hbz hC hM hO
    show wpList _ _ _ [_, _, _] _ _
    refine wpList_store_row rfl 28 _ _ rfl g7 rfl #[.bool al, .slice A1 xs.length c1, .int .u8 kx, .bool ex] rfl cur7 28 qq7 (by kernel_rfl) (by rw [hz7]; rfl) (cells_one4 rfl) rfl ?_
    refine wpList_store_row rfl 28 _ _ rfl g8 rfl #[.bool be, .slice A3 ys.length c3, .int .u8 ky, .bool ey] rfl cur8 28 qq8 (by kernel_rfl) (by rw [hz8]; rfl) (cells_one4 rfl) rfl ?_
    refine wpList_store_row rfl 28 _ _ rfl g9 rfl #[.bool ga, .slice A6 zs.length c6, .int .u8 kz, .bool ez] rfl cur9 28 qq9 (by kernel_rfl) (by rw [hz9]; rfl) (cells_one4 rfl) rfl ?_
    generalize (((w10.setRow g7 #[.bool al, .slice A1 xs.length c1, .int .u8 kx, .bool ex]).setRow g8 #[.bool be, .slice A3 ys.length c3, .int .u8 ky, .bool ey]).setRow g9 #[.bool ga, .slice A6 zs.length c6, .int .u8 kz, .bool ez]) = wz at *
    go_wp2
    go_meet
    exact ⟨g7, g8, g9, A1, c1, A3, c3, A6, c6, rfl, rfl, rfl, ⟨HBZ.out, Bx.mk' Hs7.out Hx1.out, Bx.mk' Hs8.out Hx3.out, Bx.mk' Hs9.out Hx6.out⟩⟩
  case rest =>
    obtain ⟨g7, g8, g9, A1, c1, A3, c3, A6, c6, rfl, rfl, rfl, HC⟩ := hcut
    obtain ⟨w3, rfl⟩ : ∃ w3 : World, w3 = wc := ⟨_, rfl⟩
    go_wp2_with fail
    go_cut [10, 11] (fun s10 s11 wx => ∃ g10 g11 r Aa ca Ab cb, s10 = .pointer (some ⟨g10, 0, none⟩) ∧ s11 = .pointer (some ⟨g11, 0, none⟩) ∧ Hid (AndIs ⟨al, xs, kx, ex⟩ ⟨be, ys, ky, ey⟩ r) ∧ Hid (Below w3.heap.size w3 wx ∧ Bx wx r g10 Aa ca ∧ Bx wx r g11 Ab cb))
    case first =>
      refine wp_region_mem_tail 8 (turnL4 w3.heap.size ⟨al, xs, kx, ex⟩ ⟨be, ys, ky, ey⟩) (by kernel_rfl) (by kernel_rfl) (by kernel_rfl) (by kernel_rfl) (by kernel_rfl) (by kernel_rfl) (fun hM hO => ?_)
      refine State.wpM_look (.agg #[.bool al, .slice A1 xs.length c1, .int .u8 kx, .bool ex]) rfl rfl (fun F' w6 hC _ _ => ?_) ?_
      · have c0 : w6.cell? ⟨g7, 0, none⟩ = some (.bool al) := cell_of_row _ _ 0 _ 28 (0, 0) ((hC.b.block _ (row_lt HC.out.2.1.o)).trans HC.out.2.1.o)
        have c1 : w6.cell? ⟨g7, 1, none⟩ = some (.slice A1 xs.length c1) := cell_of_row _ _ 1 _ 28 (0, 0) ((hC.b.block _ (row_lt HC.out.2.1.o)).trans HC.out.2.1.o)
        have c2 : w6.cell? ⟨g7, 2, none⟩ = some (.int .u8 kx) := cell_of_row _ _ 2 _ 28 (0, 0) ((hC.b.block _ (row_lt HC.out.2.1.o)).trans HC.out.2.1.o)
        have c3 : w6.cell? ⟨g7, 3, none⟩ = some (.bool ex) := cell_of_row _ _ 3 _ 28 (0, 0) ((hC.b.block _ (row_lt HC.out.2.1.o)).trans HC.out.2.1.o)
        go_simp
      repeat (first | (refine State.wpM_skip rfl ?_) | (refine State.wpM_all rfl rfl (fun K hK => ?_); go_simp; refine hK _ ?_; clear hK K))
      refine State.wpM_look (.agg #[.bool be, .slice A3 ys.length c3, .int .u8 ky, .bool ey]) rfl rfl (fun F' w6 hC _ _ => ?_) ?_
      · have c0 : w6.cell? ⟨g8, 0, none⟩ = some (.bool be) := cell_of_row _ _ 0 _ 28 (0, 0) ((hC.b.block _ (row_lt HC.out.2.2.1.o)).trans HC.out.2.2.1.o)
        have c1 : w6.cell? ⟨g8, 1, none⟩ = some (.slice A3 ys.length c3) := cell_of_row _ _ 1 _ 28 (0, 0) ((hC.b.block _ (row_lt HC.out.2.2.1.o)).trans HC.out.2.2.1.o)
        have c2 : w6.cell? ⟨g8, 2, none⟩ = some (.int .u8 ky) := cell_of_row _ _ 2 _ 28 (0, 0) ((hC.b.block _ (row_lt HC.out.2.2.1.o)).trans HC.out.2.2.1.o)
        have c3 : w6.cell? ⟨g8, 3, none⟩ = some (.bool ey) := cell_of_row _ _ 3 _ 28 (0, 0) ((hC.b.block _ (row_lt HC.out.2.2.1.o)).trans HC.out.2.2.1.o)
        go_simp
      repeat (first | (refine State.wpM_skip rfl ?_) | (refine State.wpM_all rfl rfl (fun K hK => ?_); go_simp; refine hK _ ?_; clear hK K))
      refine State.wpM_act rfl rfl (fun F' w5 hC h0 ha hA => ?_) ?_
      · skip
        exact acts_sup hM rfl hC ha (and_any ⟨al, xs, kx, ex⟩ ⟨be, ys, ky, ey⟩ A1 A3 c1 c3 w5 (HC.out.2.1.f.ext hC.b) (HC.out.2.2.1.f.ext hC.b) (by simp only; omega) (by simp only; omega)) (by go_simp; first | done | rfl | exact ⟨rfl, rfl⟩) (retFl_sup hC.b.size)
      intro v2 ⟨w5, hC5⟩
      obtain ⟨S5, ⟨⟨a2, o2, m2, e2⟩, u2', hP2, rfl, hw2, -⟩, -⟩ := hC5.sup 2 _ rfl v2 (by simp [State.upd])
      obtain ⟨A2, c2, rfl, -⟩ := FlAt.of_own (f := ⟨a2, o2, m2, e2⟩) hw2
      have HP2 := Lib.hid hP2
      clear hC5 hw2 w5 S5 hP2
      unfold Fl.cells
      repeat (first | (refine State.wpM_skip rfl ?_) | (refine State.wpM_all rfl rfl (fun K hK => ?_); go_simp; refine hK _ ?_; clear hK K))
      refine State.wpM_look (.agg #[.bool be, .slice A3 ys.length c3, .int .u8 ky, .bool ey]) rfl rfl (fun F' w6 hC _ _ => ?_) ?_
      · have c0 : w6.cell? ⟨g8, 0, none⟩ = some (.bool be) := cell_of_row _ _ 0 _ 28 (0, 0) ((hC.b.block _ (row_lt HC.out.2.2.1.o)).trans HC.out.2.2.1.o)
        have c1 : w6.cell? ⟨g8, 1, none⟩ = some (.slice A3 ys.length c3) := cell_of_row _ _ 1 _ 28 (0, 0) ((hC.b.block _ (row_lt HC.out.2.2.1.o)).trans HC.out.2.2.1.o)
        have c2 : w6.cell? ⟨g8, 2, none⟩ = some (.int .u8 ky) := cell_of_row _ _ 2 _ 28 (0, 0) ((hC.b.block _ (row_lt HC.out.2.2.1.o)).trans HC.out.2.2.1.o)
        have c3 : w6.cell? ⟨g8, 3, none⟩ = some (.bool ey) := cell_of_row _ _ 3 _ 28 (0, 0) ((hC.b.block _ (row_lt HC.out.2.2.1.o)).trans HC.out.2.2.1.o)
        go_simp
      repeat (first | (refine State.wpM_skip rfl ?_) | (refine State.wpM_all rfl rfl (fun K hK => ?_); go_simp; refine hK _ ?_; clear hK K))
      refine State.wpM_look (.agg #[.bool al, .slice A1 xs.length c1, .int .u8 kx, .bool ex]) rfl rfl (fun F' w6 hC _ _ => ?_) ?_
      · have c0 : w6.cell? ⟨g7, 0, none⟩ = some (.bool al) := cell_of_row _ _ 0 _ 28 (0, 0) ((hC.b.block _ (row_lt HC.out.2.1.o)).trans HC.out.2.1.o)
        have c1 : w6.cell? ⟨g7, 1, none⟩ = some (.slice A1 xs.length c1) := cell_of_row _ _ 1 _ 28 (0, 0) ((hC.b.block _ (row_lt HC.out.2.1.o)).trans HC.out.2.1.o)
        have c2 : w6.cell? ⟨g7, 2, none⟩ = some (.int .u8 kx) := cell_of_row _ _ 2 _ 28 (0, 0) ((hC.b.block _ (row_lt HC.out.2.1.o)).trans HC.out.2.1.o)
        have c3 : w6.cell? ⟨g7, 3, none⟩ = some (.bool ex) := cell_of_row _ _ 3 _ 28 (0, 0) ((hC.b.block _ (row_lt HC.out.2.1.o)).trans HC.out.2.1.o)
        go_simp
      repeat (first | (refine State.wpM_skip rfl ?_) | (refine State.wpM_all rfl rfl (fun K hK => ?_); go_simp; refine hK _ ?_; clear hK K))
      refine State.wpM_act rfl rfl (fun F' w5 hC h0 ha hA => ?_) ?_
      · skip
        exact acts_sup hM rfl hC ha (and_any ⟨be, ys, ky, ey⟩ ⟨al, xs, kx, ex⟩ A3 A1 c3 c1 w5 (HC.out.2.2.1.f.ext hC.b) (HC.out.2.1.f.ext hC.b) (by simp only; omega) (by simp only; omega)) (by go_simp; first | done | rfl | exact ⟨rfl, rfl⟩) (retFl_sup hC.b.size)
      intro v5 ⟨w5, hC5⟩
      obtain ⟨S5, ⟨⟨a5, o5, m5, e5⟩, u5', hP5, rfl, hw5, -⟩, -⟩ := hC5.sup 5 _ rfl v5 (by simp [State.upd])
      obtain ⟨A5, c5, rfl, -⟩ := FlAt.of_own (f := ⟨a5, o5, m5, e5⟩) hw5
      have HP5 := Lib.hid hP5
      clear hC5 hw5 w5 S5 hP5
      unfold Fl.cells
      repeat (first | (refine State.wpM_skip rfl ?_) | (refine State.wpM_all rfl rfl (fun K hK => ?_); go_simp; refine hK _ ?_; clear hK K))
      refine State.wpM_act rfl rfl (fun F' w hC h0 ha _ => acts_box hM rfl hC h0 ha (cs := #[.bool false, .slice none 0 0, .int .u8 0, .bool false]) rfl (by go_simp)) ?_
      intro v6 ⟨w5, hC5⟩
      obtain ⟨g6, -, rfl, -⟩ := hC5.box 6 4 28 rfl v6 (by simp [State.upd])
      clear hC5 w5
      refine State.wpM_act rfl rfl (fun F' w hC h0 ha _ => acts_box hM rfl hC h0 ha (cs := #[.bool false, .slice none 0 0, .int .u8 0, .bool false]) rfl (by go_simp)) ?_
      intro v7 ⟨w5, hC5⟩
      obtain ⟨g7, -, rfl, -⟩ := hC5.box 7 4 28 rfl v7 (by simp [State.upd])
      clear hC5 w5
      (refine State.wpM_norm (fun K hK => ?_); go_simp; refine hK _ ?_; clear hK K)
      refine State.wpM_nil fun w10 hC => ?_
      obtain ⟨z6', cur6, ez6, hB6, q6, hz6⟩ := hC.box 6 4 28 rfl (.pointer (some ⟨g6, 0, none⟩)) (by simp [State.upd])
      injection ez6 with ez6; injection ez6 with ez6; injection ez6 with ez6 _ _
      subst ez6
      obtain ⟨z7', cur7, ez7, hB7, q7, hz7⟩ := hC.box 7 4 28 rfl (.pointer (some ⟨g7, 0, none⟩)) (by simp [State.upd])
      injection ez7 with ez7; injection ez7 with ez7; injection ez7 with ez7 _ _
      subst ez7
      have n6_7 : g7 ≠ g6 := fun e => hC.ne 6 7 4 4 28 28 (.pointer (some ⟨g6, 0, none⟩)) rfl rfl (by decide) (by simp [State.upd]) (by rw [← e]; simp [State.upd])
      obtain ⟨S2, hp2, -, hn2⟩ := hC.sup 2 _ rfl (.agg #[.bool a2, .slice A2 o2.length c2, .int .u8 m2, .bool e2]) (by simp [State.upd])
      obtain ⟨ow2, hb2⟩ := supFl_at (r := ⟨a2, o2, m2, e2⟩) (and_uniq ⟨al, xs, kx, ex⟩ ⟨be, ys, ky, ey⟩) HP2.out hp2
      have m2_6 : Value.ownBlock (.slice A2 o2.length c2) ≠ some g6 := fun e => hn2 6 4 28 g6 rfl (by simp [State.upd]) (hb2 _ e)
      have m2_7 : Value.ownBlock (.slice A2 o2.length c2) ≠ some g7 := fun e => hn2 7 4 28 g7 rfl (by simp [State.upd]) (hb2 _ e)
      obtain ⟨S5, hp5, -, hn5⟩ := hC.sup 5 _ rfl (.agg #[.bool a5, .slice A5 o5.length c5, .int .u8 m5, .bool e5]) (by simp [State.upd])
      obtain ⟨ow5, hb5⟩ := supFl_at (r := ⟨a5, o5, m5, e5⟩) (and_uniq ⟨be, ys, ky, ey⟩ ⟨al, xs, kx, ex⟩) HP5.out hp5
      have m5_6 : Value.ownBlock (.slice A5 o5.length c5) ≠ some g6 := fun e => hn5 6 4 28 g6 rfl (by simp [State.upd]) (hb5 _ e)
      have m5_7 : Value.ownBlock (.slice A5 o5.length c5) ≠ some g7 := fun e => hn5 7 4 28 g7 rfl (by simp [State.upd]) (hb5 _ e)
      have qq6 : w10.heap[g6]? = some (.cells cur6 28 (0, 0)) := q6
      have s6 : ((w10.setRow g6 #[.bool a2, .slice A2 o2.length c2, .int .u8 m2, .bool e2]).setRow g7 #[.bool a5, .slice A5 o5.length c5, .int .u8 m5, .bool e5]).heap[g6]? = some (.cells #[.bool a2, .slice A2 o2.length c2, .int .u8 m2, .bool e2] 28 (0, 0)) := (setRow_other (w10.setRow g6 #[.bool a2, .slice A2 o2.length c2, .int .u8 m2, .bool e2]) g7 g6 _ (Ne.symm n6_7)).trans (setRow_heap w10 g6 cur6 #[.bool a2, .slice A2 o2.length c2, .int .u8 m2, .bool e2] 28 (0, 0) qq6)
      have x2 : ((w10.setRow g6 #[.bool a2, .slice A2 o2.length c2, .int .u8 m2, .bool e2]).setRow g7 #[.bool a5, .slice A5 o5.length c5, .int .u8 m5, .bool e5]).ownsRow w3.heap.size 25 1 (.slice A2 o2.length c2) _ _ := (own_setRow_ne (own_setRow_ne ow2 m2_6) m2_7)
      have qq7 : (w10.setRow g6 #[.bool a2, .slice A2 o2.length c2, .int .u8 m2, .bool e2]).heap[g7]? = some (.cells cur7 28 (0, 0)) := (setRow_other w10 g6 g7 _ n6_7).trans (q7)
      have s7 : ((w10.setRow g6 #[.bool a2, .slice A2 o2.length c2, .int .u8 m2, .bool e2]).setRow g7 #[.bool a5, .slice A5 o5.length c5, .int .u8 m5, .bool e5]).heap[g7]? = some (.cells #[.bool a5, .slice A5 o5.length c5, .int .u8 m5, .bool e5] 28 (0, 0)) := setRow_heap (w10.setRow g6 #[.bool a2, .slice A2 o2.length c2, .int .u8 m2, .bool e2]) g7 cur7 #[.bool a5, .slice A5 o5.length c5, .int .u8 m5, .bool e5] 28 (0, 0) qq7
      have x5 : ((w10.setRow g6 #[.bool a2, .slice A2 o2.length c2, .int .u8 m2, .bool e2]).setRow g7 #[.bool a5, .slice A5 o5.length c5, .int .u8 m5, .bool e5]).ownsRow w3.heap.size 25 1 (.slice A5 o5.length c5) _ _ := (own_setRow_ne (own_setRow_ne ow5 m5_6) m5_7)
      have hbz := (below_setRow (below_setRow hC.b hB6 (cs := #[.bool a2, .slice A2 o2.length c2, .int .u8 m2, .bool e2])) hB7 (cs := #[.bool a5, .slice A5 o5.length c5, .int .u8 m5, .bool e5]))
      have Hs6 := Lib.hid s6
      have Hx2 := Lib.hid x2
      have Hs7 := Lib.hid s7
      have Hx5 := Lib.hid x5
      have HBZ := Lib.hid hbz
      clear s6 x2 s7 x5 hbz hC hM hO
      show wpList _ _ _ [_, _] _ _
      refine wpList_store_row rfl 28 _ _ rfl g6 rfl #[.bool a2, .slice A2 o2.length c2, .int .u8 m2, .bool e2] rfl cur6 28 qq6 (by kernel_rfl) (by rw [hz6]; rfl) (cells_one4 rfl) rfl ?_
      refine wpList_store_row rfl 28 _ _ rfl g7 rfl #[.bool a5, .slice A5 o5.length c5, .int .u8 m5, .bool e5] rfl cur7 28 qq7 (by kernel_rfl) (by rw [hz7]; rfl) (cells_one4 rfl) rfl ?_
      generalize ((w10.setRow g6 #[.bool a2, .slice A2 o2.length c2, .int .u8 m2, .bool e2]).setRow g7 #[.bool a5, .slice A5 o5.length c5, .int .u8 m5, .bool e5]) = wz at *
      have he := HP2.out.uniq HP5.out.comm
      injection he with he1 he2 he3 he4
      subst he1 he2 he3 he4
      go_wp2
      go_meet
      exact ⟨g6, g7, ⟨a2, o2, m2, e2⟩, A2, c2, A5, c5, rfl, rfl, HP2, ⟨HBZ.out, Bx.mk' Hs6.out Hx2.out, Bx.mk' Hs7.out Hx5.out⟩⟩
    case rest =>
      obtain ⟨g10, g11, ⟨ra, ro, rk, re⟩, Aa, ca, Ab, cb, rfl, rfl, HR, HD⟩ := hcut
      have HC4 := Lib.hid (show Bx wc ⟨al, xs, kx, ex⟩ g7 A1 c1 ∧ Bx wc ⟨be, ys, ky, ey⟩ g8 A3 c3 ∧ Bx wc ⟨ga, zs, kz, ez⟩ g9 A6 c6 from ⟨HC.out.2.1.up HD.out.1, HC.out.2.2.1.up HD.out.1, HC.out.2.2.2.up HD.out.1⟩)
      have HB4 := Lib.hid (((HB.out.trans (HC.out.1.mono HB.out.size)).trans (HD.out.1.mono (HB.out.trans (HC.out.1.mono HB.out.size)).size)))
      have P24 := Lib.hid ((HD.out.1.block _ (row_lt ((HC.out.1.block _ (row_lt P2.out)).trans P2.out))).trans ((HC.out.1.block _ (row_lt P2.out)).trans P2.out))
      have HE := Lib.hid HD.out.2
      clear HC HD HB P0 P1 P2 hx2 hy2 hz2
      obtain ⟨w4, rfl⟩ : ∃ w4 : World, w4 = wc := ⟨_, rfl⟩
      go_wp2_with fail
      go_cut [12, 13] (fun s12 s13 wx => ∃ g12 g13 r Aa ca Ab cb, s12 = .pointer (some ⟨g12, 0, none⟩) ∧ s13 = .pointer (some ⟨g13, 0, none⟩) ∧ Hid (Left3 ⟨al, xs, kx, ex⟩ ⟨be, ys, ky, ey⟩ ⟨ga, zs, kz, ez⟩ r) ∧ Hid (Below w4.heap.size w4 wx ∧ Bx wx r g12 Aa ca ∧ Bx wx r g13 Ab cb))
      case first =>
        refine wp_region_mem_tail 12 (turnL5 w4.heap.size ⟨al, xs, kx, ex⟩ ⟨be, ys, ky, ey⟩ ⟨ga, zs, kz, ez⟩) (by kernel_rfl) (by kernel_rfl) (by kernel_rfl) (by kernel_rfl) (by kernel_rfl) (by kernel_rfl) (fun hM hO => ?_)
        refine State.wpM_look (.agg #[.bool al, .slice A1 xs.length c1, .int .u8 kx, .bool ex]) rfl rfl (fun F' w6 hC _ _ => ?_) ?_
        · have c0 : w6.cell? ⟨g7, 0, none⟩ = some (.bool al) := cell_of_row _ _ 0 _ 28 (0, 0) ((hC.b.block _ (row_lt HC4.out.1.o)).trans HC4.out.1.o)
          have c1 : w6.cell? ⟨g7, 1, none⟩ = some (.slice A1 xs.length c1) := cell_of_row _ _ 1 _ 28 (0, 0) ((hC.b.block _ (row_lt HC4.out.1.o)).trans HC4.out.1.o)
          have c2 : w6.cell? ⟨g7, 2, none⟩ = some (.int .u8 kx) := cell_of_row _ _ 2 _ 28 (0, 0) ((hC.b.block _ (row_lt HC4.out.1.o)).trans HC4.out.1.o)
          have c3 : w6.cell? ⟨g7, 3, none⟩ = some (.bool ex) := cell_of_row _ _ 3 _ 28 (0, 0) ((hC.b.block _ (row_lt HC4.out.1.o)).trans HC4.out.1.o)
          go_simp
        repeat (first | (refine State.wpM_skip rfl ?_) | (refine State.wpM_all rfl rfl (fun K hK => ?_); go_simp; refine hK _ ?_; clear hK K))
        refine State.wpM_look (.agg #[.bool be, .slice A3 ys.length c3, .int .u8 ky, .bool ey]) rfl rfl (fun F' w6 hC _ _ => ?_) ?_
        · have c0 : w6.cell? ⟨g8, 0, none⟩ = some (.bool be) := cell_of_row _ _ 0 _ 28 (0, 0) ((hC.b.block _ (row_lt HC4.out.2.1.o)).trans HC4.out.2.1.o)
          have c1 : w6.cell? ⟨g8, 1, none⟩ = some (.slice A3 ys.length c3) := cell_of_row _ _ 1 _ 28 (0, 0) ((hC.b.block _ (row_lt HC4.out.2.1.o)).trans HC4.out.2.1.o)
          have c2 : w6.cell? ⟨g8, 2, none⟩ = some (.int .u8 ky) := cell_of_row _ _ 2 _ 28 (0, 0) ((hC.b.block _ (row_lt HC4.out.2.1.o)).trans HC4.out.2.1.o)
          have c3 : w6.cell? ⟨g8, 3, none⟩ = some (.bool ey) := cell_of_row _ _ 3 _ 28 (0, 0) ((hC.b.block _ (row_lt HC4.out.2.1.o)).trans HC4.out.2.1.o)
          go_simp
        repeat (first | (refine State.wpM_skip rfl ?_) | (refine State.wpM_all rfl rfl (fun K hK => ?_); go_simp; refine hK _ ?_; clear hK K))
        refine State.wpM_act rfl rfl (fun F' w5 hC h0 ha hA => ?_) ?_
        · skip
          exact acts_sup hM rfl hC ha (and_any ⟨al, xs, kx, ex⟩ ⟨be, ys, ky, ey⟩ A1 A3 c1 c3 w5 (HC4.out.1.f.ext hC.b) (HC4.out.2.1.f.ext hC.b) (by simp only; omega) (by simp only; omega)) (by go_simp; first | done | rfl | exact ⟨rfl, rfl⟩) (retFl_sup hC.b.size)
        intro v2 ⟨w5, hC5⟩
        obtain ⟨S5, ⟨⟨a2, o2, m2, e2⟩, u2', hP2, rfl, hw2, -⟩, -⟩ := hC5.sup 2 _ rfl v2 (by simp [State.upd])
        obtain ⟨A2, c2, rfl, -⟩ := FlAt.of_own (f := ⟨a2, o2, m2, e2⟩) hw2
        have HP2 := Lib.hid hP2
        clear hC5 hw2 w5 S5 hP2
        unfold Fl.cells
        repeat (first | (refine State.wpM_skip rfl ?_) | (refine State.wpM_all rfl rfl (fun K hK => ?_); go_simp; refine hK _ ?_; clear hK K))
        refine State.wpM_look (.agg #[.bool ga, .slice A6 zs.length c6, .int .u8 kz, .bool ez]) rfl rfl (fun F' w6 hC _ _ => ?_) ?_
        · have c0 : w6.cell? ⟨g9, 0, none⟩ = some (.bool ga) := cell_of_row _ _ 0 _ 28 (0, 0) ((hC.b.block _ (row_lt HC4.out.2.2.o)).trans HC4.out.2.2.o)
          have c1 : w6.cell? ⟨g9, 1, none⟩ = some (.slice A6 zs.length c6) := cell_of_row _ _ 1 _ 28 (0, 0) ((hC.b.block _ (row_lt HC4.out.2.2.o)).trans HC4.out.2.2.o)
          have c2 : w6.cell? ⟨g9, 2, none⟩ = some (.int .u8 kz) := cell_of_row _ _ 2 _ 28 (0, 0) ((hC.b.block _ (row_lt HC4.out.2.2.o)).trans HC4.out.2.2.o)
          have c3 : w6.cell? ⟨g9, 3, none⟩ = some (.bool ez) := cell_of_row _ _ 3 _ 28 (0, 0) ((hC.b.block _ (row_lt HC4.out.2.2.o)).trans HC4.out.2.2.o)
          go_simp
        repeat (first | (refine State.wpM_skip rfl ?_) | (refine State.wpM_all rfl rfl (fun K hK => ?_); go_simp; refine hK _ ?_; clear hK K))
        refine State.wpM_act rfl rfl (fun F' w5 hC h0 ha hA => ?_) ?_
        · skip
          have d2 : FlAt w5 w5.heap.size ⟨a2, o2, m2, e2⟩ A2 c2 := supFl_use hC rfl (and_uniq ⟨al, xs, kx, ex⟩ ⟨be, ys, ky, ey⟩) HP2.out (hA ⟨2, .data⟩ (by simp) rfl)
          exact acts_sup hM rfl hC ha ((and_any ⟨a2, o2, m2, e2⟩ ⟨ga, zs, kz, ez⟩ A2 A6 c2 c6 w5 d2 (HC4.out.2.2.f.ext hC.b) (by have h : o2.length ≤ xs.length + ys.length := HP2.out.len; simp only; omega) (by simp only; omega)).mono fun e w' ⟨r, h1, h2⟩ => ⟨r, h1, _, HP2.out, h2⟩) (by go_simp; first | done | rfl | exact ⟨rfl, rfl⟩) (retFl_sup hC.b.size)
        intro v4 ⟨w5, hC5⟩
        obtain ⟨S5, ⟨⟨a4, o4, m4, e4⟩, u4', hP4, rfl, hw4, -⟩, -⟩ := hC5.sup 4 _ rfl v4 (by simp [State.upd])
        obtain ⟨A4, c4, rfl, -⟩ := FlAt.of_own (f := ⟨a4, o4, m4, e4⟩) hw4
        have HP4 := Lib.hid hP4
        clear hC5 hw4 w5 S5 hP4
        unfold Fl.cells
        repeat (first | (refine State.wpM_skip rfl ?_) | (refine State.wpM_all rfl rfl (fun K hK => ?_); go_simp; refine hK _ ?_; clear hK K))
        refine State.wpM_look (.agg #[.bool al, .slice A1 xs.length c1, .int .u8 kx, .bool ex]) rfl rfl (fun F' w6 hC _ _ => ?_) ?_
        · have c0 : w6.cell? ⟨g7, 0, none⟩ = some (.bool al) := cell_of_row _ _ 0 _ 28 (0, 0) ((hC.b.block _ (row_lt HC4.out.1.o)).trans HC4.out.1.o)
          have c1 : w6.cell? ⟨g7, 1, none⟩ = some (.slice A1 xs.length c1) := cell_of_row _ _ 1 _ 28 (0, 0) ((hC.b.block _ (row_lt HC4.out.1.o)).trans HC4.out.1.o)
          have c2 : w6.cell? ⟨g7, 2, none⟩ = some (.int .u8 kx) := cell_of_row _ _ 2 _ 28 (0, 0) ((hC.b.block _ (row_lt HC4.out.1.o)).trans HC4.out.1.o)
          have c3 : w6.cell? ⟨g7, 3, none⟩ = some (.bool ex) := cell_of_row _ _ 3 _ 28 (0, 0) ((hC.b.block _ (row_lt HC4.out.1.o)).trans HC4.out.1.o)
          go_simp
        repeat (first | (refine State.wpM_skip rfl ?_) | (refine State.wpM_all rfl rfl (fun K hK => ?_); go_simp; refine hK _ ?_; clear hK K))
        refine State.wpM_look (.agg #[.bool be, .slice A3 ys.length c3, .int .u8 ky, .bool ey]) rfl rfl (fun F' w6 hC _ _ => ?_) ?_
        · have c0 : w6.cell? ⟨g8, 0, none⟩ = some (.bool be) := cell_of_row _ _ 0 _ 28 (0, 0) ((hC.b.block _ (row_lt HC4.out.2.1.o)).trans HC4.out.2.1.o)
          have c1 : w6.cell? ⟨g8, 1, none⟩ = some (.slice A3 ys.length c3) := cell_of_row _ _ 1 _ 28 (0, 0) ((hC.b.block _ (row_lt HC4.out.2.1.o)).trans HC4.out.2.1.o)
          have c2 : w6.cell? ⟨g8, 2, none⟩ = some (.int .u8 ky) := cell_of_row _ _ 2 _ 28 (0, 0) ((hC.b.block _ (row_lt HC4.out.2.1.o)).trans HC4.out.2.1.o)
          have c3 : w6.cell? ⟨g8, 3, none⟩ = some (.bool ey) := cell_of_row _ _ 3 _ 28 (0, 0) ((hC.b.block _ (row_lt HC4.out.2.1.o)).trans HC4.out.2.1.o)
          go_simp
        repeat (first | (refine State.wpM_skip rfl ?_) | (refine State.wpM_all rfl rfl (fun K hK => ?_); go_simp; refine hK _ ?_; clear hK K))
        refine State.wpM_look (.agg #[.bool ga, .slice A6 zs.length c6, .int .u8 kz, .bool ez]) rfl rfl (fun F' w6 hC _ _ => ?_) ?_
        · have c0 : w6.cell? ⟨g9, 0, none⟩ = some (.bool ga) := cell_of_row _ _ 0 _ 28 (0, 0) ((hC.b.block _ (row_lt HC4.out.2.2.o)).trans HC4.out.2.2.o)
          have c1 : w6.cell? ⟨g9, 1, none⟩ = some (.slice A6 zs.length c6) := cell_of_row _ _ 1 _ 28 (0, 0) ((hC.b.block _ (row_lt HC4.out.2.2.o)).trans HC4.out.2.2.o)
          have c2 : w6.cell? ⟨g9, 2, none⟩ = some (.int .u8 kz) := cell_of_row _ _ 2 _ 28 (0, 0) ((hC.b.block _ (row_lt HC4.out.2.2.o)).trans HC4.out.2.2.o)
          have c3 : w6.cell? ⟨g9, 3, none⟩ = some (.bool ez) := cell_of_row _ _ 3 _ 28 (0, 0) ((hC.b.block _ (row_lt HC4.out.2.2.o)).trans HC4.out.2.2.o)
          go_simp
        repeat (first | (refine State.wpM_skip rfl ?_) | (refine State.wpM_all rfl rfl (fun K hK => ?_); go_simp; refine hK _ ?_; clear hK K))
        refine State.wpM_act rfl rfl (fun F' w5 hC h0 ha hA => ?_) ?_
        · skip
          exact acts_sup hM rfl hC ha (and_any ⟨be, ys, ky, ey⟩ ⟨ga, zs, kz, ez⟩ A3 A6 c3 c6 w5 (HC4.out.2.1.f.ext hC.b) (HC4.out.2.2.f.ext hC.b) (by simp only; omega) (by simp only; omega)) (by go_simp; first | done | rfl | exact ⟨rfl, rfl⟩) (retFl_sup hC.b.size)
        intro v8 ⟨w5, hC5⟩
        obtain ⟨S5, ⟨⟨a8, o8, m8, e8⟩, u8', hP8, rfl, hw8, -⟩, -⟩ := hC5.sup 8 _ rfl v8 (by simp [State.upd])
        obtain ⟨A8, c8, rfl, -⟩ := FlAt.of_own (f := ⟨a8, o8, m8, e8⟩) hw8
        have HP8 := Lib.hid hP8
        clear hC5 hw8 w5 S5 hP8
        unfold Fl.cells
        repeat (first | (refine State.wpM_skip rfl ?_) | (refine State.wpM_all rfl rfl (fun K hK => ?_); go_simp; refine hK _ ?_; clear hK K))
        refine State.wpM_act rfl rfl (fun F' w5 hC h0 ha hA => ?_) ?_
        · skip
          have d8 : FlAt w5 w5.heap.size ⟨a8, o8, m8, e8⟩ A8 c8 := supFl_use hC rfl (and_uniq ⟨be, ys, ky, ey⟩ ⟨ga, zs, kz, ez⟩) HP8.out (hA ⟨8, .data⟩ (by simp) rfl)
          exact acts_sup hM rfl hC ha ((and_any ⟨al, xs, kx, ex⟩ ⟨a8, o8, m8, e8⟩ A1 A8 c1 c8 w5 (HC4.out.1.f.ext hC.b) d8 (by simp only; omega) (by have h : o8.length ≤ ys.length + zs.length := HP8.out.len; simp only; omega)).mono fun e w' ⟨r, h1, h2⟩ => ⟨r, h1, _, HP8.out, h2⟩) (by go_simp; first | done | rfl | exact ⟨rfl, rfl⟩) (retFl_sup hC.b.size)
        intro v9 ⟨w5, hC5⟩
        obtain ⟨S5, ⟨⟨a9, o9, m9, e9⟩, u9', hP9, rfl, hw9, -⟩, -⟩ := hC5.sup 9 _ rfl v9 (by simp [State.upd])
        obtain ⟨A9, c9, rfl, -⟩ := FlAt.of_own (f := ⟨a9, o9, m9, e9⟩) hw9
        have HP9 := Lib.hid hP9
        clear hC5 hw9 w5 S5 hP9
        unfold Fl.cells
        repeat (first | (refine State.wpM_skip rfl ?_) | (refine State.wpM_all rfl rfl (fun K hK => ?_); go_simp; refine hK _ ?_; clear hK K))
        refine State.wpM_act rfl rfl (fun F' w hC h0 ha _ => acts_box hM rfl hC h0 ha (cs := #[.bool false, .slice none 0 0, .int .u8 0, .bool false]) rfl (by go_simp)) ?_
        intro v10 ⟨w5, hC5⟩
        obtain ⟨g10, -, rfl, -⟩ := hC5.box 10 4 28 rfl v10 (by simp [State.upd])
        clear hC5 w5
        refine State.wpM_act rfl rfl (fun F' w hC h0 ha _ => acts_box hM rfl hC h0 ha (cs := #[.bool false, .slice none 0 0, .int .u8 0, .bool false]) rfl (by go_simp)) ?_
        intro v11 ⟨w5, hC5⟩
        obtain ⟨g11, -, rfl, -⟩ := hC5.box 11 4 28 rfl v11 (by simp [State.upd])
        clear hC5 w5
        (refine State.wpM_norm (fun K hK => ?_); go_simp; refine hK _ ?_; clear hK K)
        refine State.wpM_nil fun w10 hC => ?_
        obtain ⟨z10', cur10, ez10, hB10, q10, hz10⟩ := hC.box 10 4 28 rfl (.pointer (some ⟨g10, 0, none⟩)) (by simp [State.upd])
        injection ez10 with ez10; injection ez10 with ez10; injection ez10 with ez10 _ _
        subst ez10
        obtain ⟨z11', cur11, ez11, hB11, q11, hz11⟩ := hC.box 11 4 28 rfl (.pointer (some ⟨g11, 0, none⟩)) (by simp [State.upd])
        injection ez11 with ez11; injection ez11 with ez11; injection ez11 with ez11 _ _
        subst ez11
        have n10_11 : g11 ≠ g10 := fun e => hC.ne 10 11 4 4 28 28 (.pointer (some ⟨g10, 0, none⟩)) rfl rfl (by decide) (by simp [State.upd]) (by rw [← e]; simp [State.upd])
        obtain ⟨S4, hp4, -, hn4⟩ := hC.sup 4 _ rfl (.agg #[.bool a4, .slice A4 o4.length c4, .int .u8 m4, .bool e4]) (by simp [State.upd])
        obtain ⟨ow4, hb4⟩ := supFl_at (r := ⟨a4, o4, m4, e4⟩) (left_uniq ⟨al, xs, kx, ex⟩ ⟨be, ys, ky, ey⟩ ⟨ga, zs, kz, ez⟩) HP4.out hp4
        have m4_10 : Value.ownBlock (.slice A4 o4.length c4) ≠ some g10 := fun e => hn4 10 4 28 g10 rfl (by simp [State.upd]) (hb4 _ e)
        have m4_11 : Value.ownBlock (.slice A4 o4.length c4) ≠ some g11 := fun e => hn4 11 4 28 g11 rfl (by simp [State.upd]) (hb4 _ e)
        obtain ⟨S9, hp9, -, hn9⟩ := hC.sup 9 _ rfl (.agg #[.bool a9, .slice A9 o9.length c9, .int .u8 m9, .bool e9]) (by simp [State.upd])
        obtain ⟨ow9, hb9⟩ := supFl_at (r := ⟨a9, o9, m9, e9⟩) (right_uniq ⟨al, xs, kx, ex⟩ ⟨be, ys, ky, ey⟩ ⟨ga, zs, kz, ez⟩) HP9.out hp9
        have m9_10 : Value.ownBlock (.slice A9 o9.length c9) ≠ some g10 := fun e => hn9 10 4 28 g10 rfl (by simp [State.upd]) (hb9 _ e)
        have m9_11 : Value.ownBlock (.slice A9 o9.length c9) ≠ some g11 := fun e => hn9 11 4 28 g11 rfl (by simp [State.upd]) (hb9 _ e)
        have qq10 : w10.heap[g10]? = some (.cells cur10 28 (0, 0)) := q10
        have s10 : ((w10.setRow g10 #[.bool a4, .slice A4 o4.length c4, .int .u8 m4, .bool e4]).setRow g11 #[.bool a9, .slice A9 o9.length c9, .int .u8 m9, .bool e9]).heap[g10]? = some (.cells #[.bool a4, .slice A4 o4.length c4, .int .u8 m4, .bool e4] 28 (0, 0)) := (setRow_other (w10.setRow g10 #[.bool a4, .slice A4 o4.length c4, .int .u8 m4, .bool e4]) g11 g10 _ (Ne.symm n10_11)).trans (setRow_heap w10 g10 cur10 #[.bool a4, .slice A4 o4.length c4, .int .u8 m4, .bool e4] 28 (0, 0) qq10)
        have x4 : ((w10.setRow g10 #[.bool a4, .slice A4 o4.length c4, .int .u8 m4, .bool e4]).setRow g11 #[.bool a9, .slice A9 o9.length c9, .int .u8 m9, .bool e9]).ownsRow w4.heap.size 25 1 (.slice A4 o4.length c4) _ _ := (own_setRow_ne (own_setRow_ne ow4 m4_10) m4_11)
        have qq11 : (w10.setRow g10 #[.bool a4, .slice A4 o4.length c4, .int .u8 m4, .bool e4]).heap[g11]? = some (.cells cur11 28 (0, 0)) := (setRow_other w10 g10 g11 _ n10_11).trans (q11)
        have s11 : ((w10.setRow g10 #[.bool a4, .slice A4 o4.length c4, .int .u8 m4, .bool e4]).setRow g11 #[.bool a9, .slice A9 o9.length c9, .int .u8 m9, .bool e9]).heap[g11]? = some (.cells #[.bool a9, .slice A9 o9.length c9, .int .u8 m9, .bool e9] 28 (0, 0)) := setRow_heap (w10.setRow g10 #[.bool a4, .slice A4 o4.length c4, .int .u8 m4, .bool e4]) g11 cur11 #[.bool a9, .slice A9 o9.length c9, .int .u8 m9, .bool e9] 28 (0, 0) qq11
        have x9 : ((w10.setRow g10 #[.bool a4, .slice A4 o4.length c4, .int .u8 m4, .bool e4]).setRow g11 #[.bool a9, .slice A9 o9.length c9, .int .u8 m9, .bool e9]).ownsRow w4.heap.size 25 1 (.slice A9 o9.length c9) _ _ := (own_setRow_ne (own_setRow_ne ow9 m9_10) m9_11)
        have hbz := (below_setRow (below_setRow hC.b hB10 (cs := #[.bool a4, .slice A4 o4.length c4, .int .u8 m4, .bool e4])) hB11 (cs := #[.bool a9, .slice A9 o9.length c9, .int .u8 m9, .bool e9]))
        have Hs10 := Lib.hid s10
        have Hx4 := Lib.hid x4
        have Hs11 := Lib.hid s11
        have Hx9 := Lib.hid x9
        have HBZ := Lib.hid hbz
        clear s10 x4 s11 x9 hbz hC hM hO
        show wpList _ _ _ [_, _] _ _
        refine wpList_store_row rfl 28 _ _ rfl g10 rfl #[.bool a4, .slice A4 o4.length c4, .int .u8 m4, .bool e4] rfl cur10 28 qq10 (by kernel_rfl) (by rw [hz10]; rfl) (cells_one4 rfl) rfl ?_
        refine wpList_store_row rfl 28 _ _ rfl g11 rfl #[.bool a9, .slice A9 o9.length c9, .int .u8 m9, .bool e9] rfl cur11 28 qq11 (by kernel_rfl) (by rw [hz11]; rfl) (cells_one4 rfl) rfl ?_
        generalize ((w10.setRow g10 #[.bool a4, .slice A4 o4.length c4, .int .u8 m4, .bool e4]).setRow g11 #[.bool a9, .slice A9 o9.length c9, .int .u8 m9, .bool e9]) = wz at *
        have he := left_right HP4.out HP9.out
        injection he with he1 he2 he3 he4
        subst he1 he2 he3 he4
        go_wp2
        go_meet
        exact ⟨g10, g11, ⟨a4, o4, m4, e4⟩, A4, c4, A9, c9, rfl, rfl, HP4, ⟨HBZ.out, Bx.mk' Hs10.out Hx4.out, Bx.mk' Hs11.out Hx9.out⟩⟩
      case rest =>
        obtain ⟨g12, g13, ⟨sa, so, sk, se⟩, Ac, cc, Ad, cd, rfl, rfl, HL, HG⟩ := hcut
        have HC5 := Lib.hid (show Bx wc ⟨al, xs, kx, ex⟩ g7 A1 c1 ∧ Bx wc ⟨be, ys, ky, ey⟩ g8 A3 c3 from ⟨HC4.out.1.up HG.out.1, HC4.out.2.1.up HG.out.1⟩)
        have HE5 := Lib.hid (show Bx wc ⟨ra, ro, rk, re⟩ g10 Aa ca ∧ Bx wc ⟨ra, ro, rk, re⟩ g11 Ab cb from ⟨HE.out.1.up HG.out.1, HE.out.2.up HG.out.1⟩)
        have HB5 := Lib.hid (HB4.out.trans (HG.out.1.mono HB4.out.size))
        have p25 : wc.cell? ⟨w.heap.size + 1 + 1, 4, none⟩ = some (.int .u32 o) := cell_of_row _ _ 4 _ 27 (0, 0) ((HG.out.1.block _ (row_lt P24.out)).trans P24.out)
        have HG5 := Lib.hid HG.out.2
        have hsl : so.length ≤ 1000 := by
          have h : so.length ≤ xs.length + ys.length + zs.length := left_len HL.out
          omega
        have hrl : ro.length ≤ 1000 := by
          have h : ro.length ≤ xs.length + ys.length := HR.out.len
          omega
        clear HC4 HE HG HB4 P24 HL
        obtain ⟨w5, rfl⟩ : ∃ w5 : World, w5 = wc := ⟨_, rfl⟩
        go_wp2_with fail
        go_cut [99] (fun s99 wx => s99 = .bool false ∧ Hid (Below w5.heap.size w5 wx))
        case first =>
          -- BEGIN r7
          obtain ⟨ox, hox⟩ : ∃ b, Fl.oid ⟨al, xs, kx, ex⟩ o = b := ⟨_, rfl⟩
          obtain ⟨oy, hoy⟩ : ∃ b, Fl.oid ⟨be, ys, ky, ey⟩ o = b := ⟨_, rfl⟩
          have HOX := Lib.hid hox; have HOY := Lib.hid hoy
          have HOR := Lib.hid (show Fl.oid ⟨ra, ro, rk, re⟩ o = (ox && oy) by rw [HR.out.oid, hox, hoy])
          clear hox hoy
          cases ox
          · skip
            refine wp_region_fx (ftF false false oy) (by kernel_rfl) (by kernel_rfl) ?_
            (refine Mono.wpM_norm (fun K hK => ?_); go_simp; refine hK _ ?_; clear hK K); repeat (first | (refine Mono.wpM_all rfl rfl (fun K hK => ?_); go_simp; refine hK _ ?_; clear hK K) | (refine Mono.wpM_skip rfl ?_; refine Mono.wpM_norm (fun K hK => ?_); go_simp; refine hK _ ?_; clear hK K))
            refine Mono.wpM_look (.agg #[.bool ra, .slice Aa ro.length ca, .int .u8 rk, .bool re]) rfl rfl (fun w6 hc6 _ => ?_) ?_
            · have c0 : w6.cell? ⟨g10, 0, none⟩ = some (.bool ra) := cell_of_row _ _ 0 _ 28 (0, 0) ((hc6.block _ (row_lt HE5.out.1.o)).trans HE5.out.1.o)
              have c1 : w6.cell? ⟨g10, 1, none⟩ = some (.slice Aa ro.length ca) := cell_of_row _ _ 1 _ 28 (0, 0) ((hc6.block _ (row_lt HE5.out.1.o)).trans HE5.out.1.o)
              have c2 : w6.cell? ⟨g10, 2, none⟩ = some (.int .u8 rk) := cell_of_row _ _ 2 _ 28 (0, 0) ((hc6.block _ (row_lt HE5.out.1.o)).trans HE5.out.1.o)
              have c3 : w6.cell? ⟨g10, 3, none⟩ = some (.bool re) := cell_of_row _ _ 3 _ 28 (0, 0) ((hc6.block _ (row_lt HE5.out.1.o)).trans HE5.out.1.o)
              go_simp
            (refine Mono.wpM_norm (fun K hK => ?_); go_simp; refine hK _ ?_; clear hK K); repeat (first | (refine Mono.wpM_all rfl rfl (fun K hK => ?_); go_simp; refine hK _ ?_; clear hK K) | (refine Mono.wpM_skip rfl ?_; refine Mono.wpM_norm (fun K hK => ?_); go_simp; refine hK _ ?_; clear hK K))
            refine Mono.wpM_eff rfl rfl (fun w9 hc9 _ => steps_enter (oid_any ⟨ra, ro, rk, re⟩ Aa ca o w9 (HE5.out.1.f.ext hc9) (by simp only; omega)) (by go_simp; first | done | rfl | exact ⟨rfl, rfl⟩) (bool_val HOR rfl)) ?_
            rintro v2 ⟨wq, hq⟩
            obtain rfl : v2 = _ := hq
            clear wq
            (refine Mono.wpM_norm (fun K hK => ?_); go_simp; refine hK _ ?_; clear hK K); repeat (first | (refine Mono.wpM_all rfl rfl (fun K hK => ?_); go_simp; refine hK _ ?_; clear hK K) | (refine Mono.wpM_skip rfl ?_; refine Mono.wpM_norm (fun K hK => ?_); go_simp; refine hK _ ?_; clear hK K))
            refine Mono.wpM_look (.agg #[.bool al, .slice A1 xs.length c1, .int .u8 kx, .bool ex]) rfl rfl (fun w6 hc6 _ => ?_) ?_
            · have c0 : w6.cell? ⟨g7, 0, none⟩ = some (.bool al) := cell_of_row _ _ 0 _ 28 (0, 0) ((hc6.block _ (row_lt HC5.out.1.o)).trans HC5.out.1.o)
              have c1 : w6.cell? ⟨g7, 1, none⟩ = some (.slice A1 xs.length c1) := cell_of_row _ _ 1 _ 28 (0, 0) ((hc6.block _ (row_lt HC5.out.1.o)).trans HC5.out.1.o)
              have c2 : w6.cell? ⟨g7, 2, none⟩ = some (.int .u8 kx) := cell_of_row _ _ 2 _ 28 (0, 0) ((hc6.block _ (row_lt HC5.out.1.o)).trans HC5.out.1.o)
              have c3 : w6.cell? ⟨g7, 3, none⟩ = some (.bool ex) := cell_of_row _ _ 3 _ 28 (0, 0) ((hc6.block _ (row_lt HC5.out.1.o)).trans HC5.out.1.o)
              go_simp
            (refine Mono.wpM_norm (fun K hK => ?_); go_simp; refine hK _ ?_; clear hK K); repeat (first | (refine Mono.wpM_all rfl rfl (fun K hK => ?_); go_simp; refine hK _ ?_; clear hK K) | (refine Mono.wpM_skip rfl ?_; refine Mono.wpM_norm (fun K hK => ?_); go_simp; refine hK _ ?_; clear hK K))
            refine Mono.wpM_eff rfl rfl (fun w9 hc9 _ => steps_enter (oid_any ⟨al, xs, kx, ex⟩ A1 c1 o w9 (HC5.out.1.f.ext hc9) (by simp only; omega)) (by go_simp; first | done | rfl | exact ⟨rfl, rfl⟩) (bool_val HOX rfl)) ?_
            rintro v5 ⟨wq, hq⟩
            obtain rfl : v5 = _ := hq
            clear wq
            (refine Mono.wpM_norm (fun K hK => ?_); go_simp; refine hK _ ?_; clear hK K); repeat (first | (refine Mono.wpM_all rfl rfl (fun K hK => ?_); go_simp; refine hK _ ?_; clear hK K) | (refine Mono.wpM_skip rfl ?_; refine Mono.wpM_norm (fun K hK => ?_); go_simp; refine hK _ ?_; clear hK K))
            refine Mono.wpM_look (.agg #[.bool ra, .slice Aa ro.length ca, .int .u8 rk, .bool re]) rfl rfl (fun w6 hc6 _ => ?_) ?_
            · have c0 : w6.cell? ⟨g10, 0, none⟩ = some (.bool ra) := cell_of_row _ _ 0 _ 28 (0, 0) ((hc6.block _ (row_lt HE5.out.1.o)).trans HE5.out.1.o)
              have c1 : w6.cell? ⟨g10, 1, none⟩ = some (.slice Aa ro.length ca) := cell_of_row _ _ 1 _ 28 (0, 0) ((hc6.block _ (row_lt HE5.out.1.o)).trans HE5.out.1.o)
              have c2 : w6.cell? ⟨g10, 2, none⟩ = some (.int .u8 rk) := cell_of_row _ _ 2 _ 28 (0, 0) ((hc6.block _ (row_lt HE5.out.1.o)).trans HE5.out.1.o)
              have c3 : w6.cell? ⟨g10, 3, none⟩ = some (.bool re) := cell_of_row _ _ 3 _ 28 (0, 0) ((hc6.block _ (row_lt HE5.out.1.o)).trans HE5.out.1.o)
              go_simp
            (refine Mono.wpM_norm (fun K hK => ?_); go_simp; refine hK _ ?_; clear hK K); repeat (first | (refine Mono.wpM_all rfl rfl (fun K hK => ?_); go_simp; refine hK _ ?_; clear hK K) | (refine Mono.wpM_skip rfl ?_; refine Mono.wpM_norm (fun K hK => ?_); go_simp; refine hK _ ?_; clear hK K))
            refine Mono.wpM_eff rfl rfl (fun w9 hc9 _ => steps_enter (oid_any ⟨ra, ro, rk, re⟩ Aa ca o w9 (HE5.out.1.f.ext hc9) (by simp only; omega)) (by go_simp; first | done | rfl | exact ⟨rfl, rfl⟩) (bool_val HOR rfl)) ?_
            rintro v15 ⟨wq, hq⟩
            obtain rfl : v15 = _ := hq
            clear wq
            (refine Mono.wpM_norm (fun K hK => ?_); go_simp; refine hK _ ?_; clear hK K); repeat (first | (refine Mono.wpM_all rfl rfl (fun K hK => ?_); go_simp; refine hK _ ?_; clear hK K) | (refine Mono.wpM_skip rfl ?_; refine Mono.wpM_norm (fun K hK => ?_); go_simp; refine hK _ ?_; clear hK K))
            refine Mono.wpM_look (.agg #[.bool ra, .slice Ab ro.length cb, .int .u8 rk, .bool re]) rfl rfl (fun w6 hc6 _ => ?_) ?_
            · have c0 : w6.cell? ⟨g11, 0, none⟩ = some (.bool ra) := cell_of_row _ _ 0 _ 28 (0, 0) ((hc6.block _ (row_lt HE5.out.2.o)).trans HE5.out.2.o)
              have c1 : w6.cell? ⟨g11, 1, none⟩ = some (.slice Ab ro.length cb) := cell_of_row _ _ 1 _ 28 (0, 0) ((hc6.block _ (row_lt HE5.out.2.o)).trans HE5.out.2.o)
              have c2 : w6.cell? ⟨g11, 2, none⟩ = some (.int .u8 rk) := cell_of_row _ _ 2 _ 28 (0, 0) ((hc6.block _ (row_lt HE5.out.2.o)).trans HE5.out.2.o)
              have c3 : w6.cell? ⟨g11, 3, none⟩ = some (.bool re) := cell_of_row _ _ 3 _ 28 (0, 0) ((hc6.block _ (row_lt HE5.out.2.o)).trans HE5.out.2.o)
              go_simp
            (refine Mono.wpM_norm (fun K hK => ?_); go_simp; refine hK _ ?_; clear hK K); repeat (first | (refine Mono.wpM_all rfl rfl (fun K hK => ?_); go_simp; refine hK _ ?_; clear hK K) | (refine Mono.wpM_skip rfl ?_; refine Mono.wpM_norm (fun K hK => ?_); go_simp; refine hK _ ?_; clear hK K))
            refine Mono.wpM_eff rfl rfl (fun w9 hc9 _ => steps_enter (oid_any ⟨ra, ro, rk, re⟩ Ab cb o w9 (HE5.out.2.f.ext hc9) (by simp only; omega)) (by go_simp; first | done | rfl | exact ⟨rfl, rfl⟩) (bool_val HOR rfl)) ?_
            rintro v18 ⟨wq, hq⟩
            obtain rfl : v18 = _ := hq
            clear wq
            (refine Mono.wpM_norm (fun K hK => ?_); go_simp; refine hK _ ?_; clear hK K); repeat (first | (refine Mono.wpM_all rfl rfl (fun K hK => ?_); go_simp; refine hK _ ?_; clear hK K) | (refine Mono.wpM_skip rfl ?_; refine Mono.wpM_norm (fun K hK => ?_); go_simp; refine hK _ ?_; clear hK K))
            refine Mono.wpM_look (.int .u8 rk) rfl rfl (fun w6 hc6 _ => ?_) ?_
            · have c0 : w6.cell? ⟨g10, 2, none⟩ = some (.int .u8 rk) := cell_of_row _ _ 2 _ 28 (0, 0) ((hc6.block _ (row_lt HE5.out.1.o)).trans HE5.out.1.o)
              go_simp
            (refine Mono.wpM_norm (fun K hK => ?_); go_simp; refine hK _ ?_; clear hK K); repeat (first | (refine Mono.wpM_all rfl rfl (fun K hK => ?_); go_simp; refine hK _ ?_; clear hK K) | (refine Mono.wpM_skip rfl ?_; refine Mono.wpM_norm (fun K hK => ?_); go_simp; refine hK _ ?_; clear hK K))
            refine Mono.wpM_look (.int .u8 rk) rfl rfl (fun w6 hc6 _ => ?_) ?_
            · have c0 : w6.cell? ⟨g11, 2, none⟩ = some (.int .u8 rk) := cell_of_row _ _ 2 _ 28 (0, 0) ((hc6.block _ (row_lt HE5.out.2.o)).trans HE5.out.2.o)
              go_simp
            (refine Mono.wpM_norm (fun K hK => ?_); go_simp; refine hK _ ?_; clear hK K); repeat (first | (refine Mono.wpM_all rfl rfl (fun K hK => ?_); go_simp; refine hK _ ?_; clear hK K) | (refine Mono.wpM_skip rfl ?_; refine Mono.wpM_norm (fun K hK => ?_); go_simp; refine hK _ ?_; clear hK K))
            refine Mono.wpM_look (.bool re) rfl rfl (fun w6 hc6 _ => ?_) ?_
            · have c0 : w6.cell? ⟨g10, 3, none⟩ = some (.bool re) := cell_of_row _ _ 3 _ 28 (0, 0) ((hc6.block _ (row_lt HE5.out.1.o)).trans HE5.out.1.o)
              go_simp
            (refine Mono.wpM_norm (fun K hK => ?_); go_simp; refine hK _ ?_; clear hK K); repeat (first | (refine Mono.wpM_all rfl rfl (fun K hK => ?_); go_simp; refine hK _ ?_; clear hK K) | (refine Mono.wpM_skip rfl ?_; refine Mono.wpM_norm (fun K hK => ?_); go_simp; refine hK _ ?_; clear hK K))
            refine Mono.wpM_look (.bool re) rfl rfl (fun w6 hc6 _ => ?_) ?_
            · have c0 : w6.cell? ⟨g11, 3, none⟩ = some (.bool re) := cell_of_row _ _ 3 _ 28 (0, 0) ((hc6.block _ (row_lt HE5.out.2.o)).trans HE5.out.2.o)
              go_simp
            (refine Mono.wpM_norm (fun K hK => ?_); go_simp; refine hK _ ?_; clear hK K); repeat (first | (refine Mono.wpM_all rfl rfl (fun K hK => ?_); go_simp; refine hK _ ?_; clear hK K) | (refine Mono.wpM_skip rfl ?_; refine Mono.wpM_norm (fun K hK => ?_); go_simp; refine hK _ ?_; clear hK K))
            refine Mono.wpM_look (.bool ra) rfl rfl (fun w6 hc6 _ => ?_) ?_
            · have c0 : w6.cell? ⟨g10, 0, none⟩ = some (.bool ra) := cell_of_row _ _ 0 _ 28 (0, 0) ((hc6.block _ (row_lt HE5.out.1.o)).trans HE5.out.1.o)
              go_simp
            (refine Mono.wpM_norm (fun K hK => ?_); go_simp; refine hK _ ?_; clear hK K); repeat (first | (refine Mono.wpM_all rfl rfl (fun K hK => ?_); go_simp; refine hK _ ?_; clear hK K) | (refine Mono.wpM_skip rfl ?_; refine Mono.wpM_norm (fun K hK => ?_); go_simp; refine hK _ ?_; clear hK K))
            refine Mono.wpM_look (.bool ra) rfl rfl (fun w6 hc6 _ => ?_) ?_
            · have c0 : w6.cell? ⟨g11, 0, none⟩ = some (.bool ra) := cell_of_row _ _ 0 _ 28 (0, 0) ((hc6.block _ (row_lt HE5.out.2.o)).trans HE5.out.2.o)
              go_simp
            (refine Mono.wpM_norm (fun K hK => ?_); go_simp; refine hK _ ?_; clear hK K); repeat (first | (refine Mono.wpM_all rfl rfl (fun K hK => ?_); go_simp; refine hK _ ?_; clear hK K) | (refine Mono.wpM_skip rfl ?_; refine Mono.wpM_norm (fun K hK => ?_); go_simp; refine hK _ ?_; clear hK K))
            refine Mono.wpM_nil fun w10 hc10 _ => ?_
            go_wp2
            go_meet
            exact ⟨rfl, hc10⟩
          · cases oy
            · skip
              refine wp_region_fx (ftF false true false) (by kernel_rfl) (by kernel_rfl) ?_
              (refine Mono.wpM_norm (fun K hK => ?_); go_simp; refine hK _ ?_; clear hK K); repeat (first | (refine Mono.wpM_all rfl rfl (fun K hK => ?_); go_simp; refine hK _ ?_; clear hK K) | (refine Mono.wpM_skip rfl ?_; refine Mono.wpM_norm (fun K hK => ?_); go_simp; refine hK _ ?_; clear hK K))
              refine Mono.wpM_look (.agg #[.bool ra, .slice Aa ro.length ca, .int .u8 rk, .bool re]) rfl rfl (fun w6 hc6 _ => ?_) ?_
              · have c0 : w6.cell? ⟨g10, 0, none⟩ = some (.bool ra) := cell_of_row _ _ 0 _ 28 (0, 0) ((hc6.block _ (row_lt HE5.out.1.o)).trans HE5.out.1.o)
                have c1 : w6.cell? ⟨g10, 1, none⟩ = some (.slice Aa ro.length ca) := cell_of_row _ _ 1 _ 28 (0, 0) ((hc6.block _ (row_lt HE5.out.1.o)).trans HE5.out.1.o)
                have c2 : w6.cell? ⟨g10, 2, none⟩ = some (.int .u8 rk) := cell_of_row _ _ 2 _ 28 (0, 0) ((hc6.block _ (row_lt HE5.out.1.o)).trans HE5.out.1.o)
                have c3 : w6.cell? ⟨g10, 3, none⟩ = some (.bool re) := cell_of_row _ _ 3 _ 28 (0, 0) ((hc6.block _ (row_lt HE5.out.1.o)).trans HE5.out.1.o)
                go_simp
              (refine Mono.wpM_norm (fun K hK => ?_); go_simp; refine hK _ ?_; clear hK K); repeat (first | (refine Mono.wpM_all rfl rfl (fun K hK => ?_); go_simp; refine hK _ ?_; clear hK K) | (refine Mono.wpM_skip rfl ?_; refine Mono.wpM_norm (fun K hK => ?_); go_simp; refine hK _ ?_; clear hK K))
              refine Mono.wpM_eff rfl rfl (fun w9 hc9 _ => steps_enter (oid_any ⟨ra, ro, rk, re⟩ Aa ca o w9 (HE5.out.1.f.ext hc9) (by simp only; omega)) (by go_simp; first | done | rfl | exact ⟨rfl, rfl⟩) (bool_val HOR rfl)) ?_
              rintro v2 ⟨wq, hq⟩
              obtain rfl : v2 = _ := hq
              clear wq
              (refine Mono.wpM_norm (fun K hK => ?_); go_simp; refine hK _ ?_; clear hK K); repeat (first | (refine Mono.wpM_all rfl rfl (fun K hK => ?_); go_simp; refine hK _ ?_; clear hK K) | (refine Mono.wpM_skip rfl ?_; refine Mono.wpM_norm (fun K hK => ?_); go_simp; refine hK _ ?_; clear hK K))
              refine Mono.wpM_look (.agg #[.bool al, .slice A1 xs.length c1, .int .u8 kx, .bool ex]) rfl rfl (fun w6 hc6 _ => ?_) ?_
              · have c0 : w6.cell? ⟨g7, 0, none⟩ = some (.bool al) := cell_of_row _ _ 0 _ 28 (0, 0) ((hc6.block _ (row_lt HC5.out.1.o)).trans HC5.out.1.o)
                have c1 : w6.cell? ⟨g7, 1, none⟩ = some (.slice A1 xs.length c1) := cell_of_row _ _ 1 _ 28 (0, 0) ((hc6.block _ (row_lt HC5.out.1.o)).trans HC5.out.1.o)
                have c2 : w6.cell? ⟨g7, 2, none⟩ = some (.int .u8 kx) := cell_of_row _ _ 2 _ 28 (0, 0) ((hc6.block _ (row_lt HC5.out.1.o)).trans HC5.out.1.o)
                have c3 : w6.cell? ⟨g7, 3, none⟩ = some (.bool ex) := cell_of_row _ _ 3 _ 28 (0, 0) ((hc6.block _ (row_lt HC5.out.1.o)).trans HC5.out.1.o)
                go_simp
              (refine Mono.wpM_norm (fun K hK => ?_); go_simp; refine hK _ ?_; clear hK K); repeat (first | (refine Mono.wpM_all rfl rfl (fun K hK => ?_); go_simp; refine hK _ ?_; clear hK K) | (refine Mono.wpM_skip rfl ?_; refine Mono.wpM_norm (fun K hK => ?_); go_simp; refine hK _ ?_; clear hK K))
              refine Mono.wpM_eff rfl rfl (fun w9 hc9 _ => steps_enter (oid_any ⟨al, xs, kx, ex⟩ A1 c1 o w9 (HC5.out.1.f.ext hc9) (by simp only; omega)) (by go_simp; first | done | rfl | exact ⟨rfl, rfl⟩) (bool_val HOX rfl)) ?_
              rintro v5 ⟨wq, hq⟩
              obtain rfl : v5 = _ := hq
              clear wq
              (refine Mono.wpM_norm (fun K hK => ?_); go_simp; refine hK _ ?_; clear hK K); repeat (first | (refine Mono.wpM_all rfl rfl (fun K hK => ?_); go_simp; refine hK _ ?_; clear hK K) | (refine Mono.wpM_skip rfl ?_; refine Mono.wpM_norm (fun K hK => ?_); go_simp; refine hK _ ?_; clear hK K))
              refine Mono.wpM_look (.agg #[.bool be, .slice A3 ys.length c3, .int .u8 ky, .bool ey]) rfl rfl (fun w6 hc6 _ => ?_) ?_
              · have c0 : w6.cell? ⟨g8, 0, none⟩ = some (.bool be) := cell_of_row _ _ 0 _ 28 (0, 0) ((hc6.block _ (row_lt HC5.out.2.o)).trans HC5.out.2.o)
                have c1 : w6.cell? ⟨g8, 1, none⟩ = some (.slice A3 ys.length c3) := cell_of_row _ _ 1 _ 28 (0, 0) ((hc6.block _ (row_lt HC5.out.2.o)).trans HC5.out.2.o)
                have c2 : w6.cell? ⟨g8, 2, none⟩ = some (.int .u8 ky) := cell_of_row _ _ 2 _ 28 (0, 0) ((hc6.block _ (row_lt HC5.out.2.o)).trans HC5.out.2.o)
                have c3 : w6.cell? ⟨g8, 3, none⟩ = some (.bool ey) := cell_of_row _ _ 3 _ 28 (0, 0) ((hc6.block _ (row_lt HC5.out.2.o)).trans HC5.out.2.o)
                go_simp
              (refine Mono.wpM_norm (fun K hK => ?_); go_simp; refine hK _ ?_; clear hK K); repeat (first | (refine Mono.wpM_all rfl rfl (fun K hK => ?_); go_simp; refine hK _ ?_; clear hK K) | (refine Mono.wpM_skip rfl ?_; refine Mono.wpM_norm (fun K hK => ?_); go_simp; refine hK _ ?_; clear hK K))
              refine Mono.wpM_eff rfl rfl (fun w9 hc9 _ => steps_enter (oid_any ⟨be, ys, ky, ey⟩ A3 c3 o w9 (HC5.out.2.f.ext hc9) (by simp only; omega)) (by go_simp; first | done | rfl | exact ⟨rfl, rfl⟩) (bool_val HOY rfl)) ?_
              rintro v9 ⟨wq, hq⟩
              obtain rfl : v9 = _ := hq
              clear wq
              (refine Mono.wpM_norm (fun K hK => ?_); go_simp; refine hK _ ?_; clear hK K); repeat (first | (refine Mono.wpM_all rfl rfl (fun K hK => ?_); go_simp; refine hK _ ?_; clear hK K) | (refine Mono.wpM_skip rfl ?_; refine Mono.wpM_norm (fun K hK => ?_); go_simp; refine hK _ ?_; clear hK K))
              refine Mono.wpM_look (.agg #[.bool ra, .slice Aa ro.length ca, .int .u8 rk, .bool re]) rfl rfl (fun w6 hc6 _ => ?_) ?_
              · have c0 : w6.cell? ⟨g10, 0, none⟩ = some (.bool ra) := cell_of_row _ _ 0 _ 28 (0, 0) ((hc6.block _ (row_lt HE5.out.1.o)).trans HE5.out.1.o)
                have c1 : w6.cell? ⟨g10, 1, none⟩ = some (.slice Aa ro.length ca) := cell_of_row _ _ 1 _ 28 (0, 0) ((hc6.block _ (row_lt HE5.out.1.o)).trans HE5.out.1.o)
                have c2 : w6.cell? ⟨g10, 2, none⟩ = some (.int .u8 rk) := cell_of_row _ _ 2 _ 28 (0, 0) ((hc6.block _ (row_lt HE5.out.1.o)).trans HE5.out.1.o)
                have c3 : w6.cell? ⟨g10, 3, none⟩ = some (.bool re) := cell_of_row _ _ 3 _ 28 (0, 0) ((hc6.block _ (row_lt HE5.out.1.o)).trans HE5.out.1.o)
                go_simp
              (refine Mono.wpM_norm (fun K hK => ?_); go_simp; refine hK _ ?_; clear hK K); repeat (first | (refine Mono.wpM_all rfl rfl (fun K hK => ?_); go_simp; refine hK _ ?_; clear hK K) | (refine Mono.wpM_skip rfl ?_; refine Mono.wpM_norm (fun K hK => ?_); go_simp; refine hK _ ?_; clear hK K))
              refine Mono.wpM_eff rfl rfl (fun w9 hc9 _ => steps_enter (oid_any ⟨ra, ro, rk, re⟩ Aa ca o w9 (HE5.out.1.f.ext hc9) (by simp only; omega)) (by go_simp; first | done | rfl | exact ⟨rfl, rfl⟩) (bool_val HOR rfl)) ?_
              rintro v15 ⟨wq, hq⟩
              obtain rfl : v15 = _ := hq
              clear wq
              (refine Mono.wpM_norm (fun K hK => ?_); go_simp; refine hK _ ?_; clear hK K); repeat (first | (refine Mono.wpM_all rfl rfl (fun K hK => ?_); go_simp; refine hK _ ?_; clear hK K) | (refine Mono.wpM_skip rfl ?_; refine Mono.wpM_norm (fun K hK => ?_); go_simp; refine hK _ ?_; clear hK K))
              refine Mono.wpM_look (.agg #[.bool ra, .slice Ab ro.length cb, .int .u8 rk, .bool re]) rfl rfl (fun w6 hc6 _ => ?_) ?_
              · have c0 : w6.cell? ⟨g11, 0, none⟩ = some (.bool ra) := cell_of_row _ _ 0 _ 28 (0, 0) ((hc6.block _ (row_lt HE5.out.2.o)).trans HE5.out.2.o)
                have c1 : w6.cell? ⟨g11, 1, none⟩ = some (.slice Ab ro.length cb) := cell_of_row _ _ 1 _ 28 (0, 0) ((hc6.block _ (row_lt HE5.out.2.o)).trans HE5.out.2.o)
                have c2 : w6.cell? ⟨g11, 2, none⟩ = some (.int .u8 rk) := cell_of_row _ _ 2 _ 28 (0, 0) ((hc6.block _ (row_lt HE5.out.2.o)).trans HE5.out.2.o)
                have c3 : w6.cell? ⟨g11, 3, none⟩ = some (.bool re) := cell_of_row _ _ 3 _ 28 (0, 0) ((hc6.block _ (row_lt HE5.out.2.o)).trans HE5.out.2.o)
                go_simp
              (refine Mono.wpM_norm (fun K hK => ?_); go_simp; refine hK _ ?_; clear hK K); repeat (first | (refine Mono.wpM_all rfl rfl (fun K hK => ?_); go_simp; refine hK _ ?_; clear hK K) | (refine Mono.wpM_skip rfl ?_; refine Mono.wpM_norm (fun K hK => ?_); go_simp; refine hK _ ?_; clear hK K))
              refine Mono.wpM_eff rfl rfl (fun w9 hc9 _ => steps_enter (oid_any ⟨ra, ro, rk, re⟩ Ab cb o w9 (HE5.out.2.f.ext hc9) (by simp only; omega)) (by go_simp; first | done | rfl | exact ⟨rfl, rfl⟩) (bool_val HOR rfl)) ?_
              rintro v18 ⟨wq, hq⟩
              obtain rfl : v18 = _ := hq
              clear wq
              (refine Mono.wpM_norm (fun K hK => ?_); go_simp; refine hK _ ?_; clear hK K); repeat (first | (refine Mono.wpM_all rfl rfl (fun K hK => ?_); go_simp; refine hK _ ?_; clear hK K) | (refine Mono.wpM_skip rfl ?_; refine Mono.wpM_norm (fun K hK => ?_); go_simp; refine hK _ ?_; clear hK K))
              refine Mono.wpM_look (.int .u8 rk) rfl rfl (fun w6 hc6 _ => ?_) ?_
              · have c0 : w6.cell? ⟨g10, 2, none⟩ = some (.int .u8 rk) := cell_of_row _ _ 2 _ 28 (0, 0) ((hc6.block _ (row_lt HE5.out.1.o)).trans HE5.out.1.o)
                go_simp
              (refine Mono.wpM_norm (fun K hK => ?_); go_simp; refine hK _ ?_; clear hK K); repeat (first | (refine Mono.wpM_all rfl rfl (fun K hK => ?_); go_simp; refine hK _ ?_; clear hK K) | (refine Mono.wpM_skip rfl ?_; refine Mono.wpM_norm (fun K hK => ?_); go_simp; refine hK _ ?_; clear hK K))
              refine Mono.wpM_look (.int .u8 rk) rfl rfl (fun w6 hc6 _ => ?_) ?_
              · have c0 : w6.cell? ⟨g11, 2, none⟩ = some (.int .u8 rk) := cell_of_row _ _ 2 _ 28 (0, 0) ((hc6.block _ (row_lt HE5.out.2.o)).trans HE5.out.2.o)
                go_simp
              (refine Mono.wpM_norm (fun K hK => ?_); go_simp; refine hK _ ?_; clear hK K); repeat (first | (refine Mono.wpM_all rfl rfl (fun K hK => ?_); go_simp; refine hK _ ?_; clear hK K) | (refine Mono.wpM_skip rfl ?_; refine Mono.wpM_norm (fun K hK => ?_); go_simp; refine hK _ ?_; clear hK K))
              refine Mono.wpM_look (.bool re) rfl rfl (fun w6 hc6 _ => ?_) ?_
              · have c0 : w6.cell? ⟨g10, 3, none⟩ = some (.bool re) := cell_of_row _ _ 3 _ 28 (0, 0) ((hc6.block _ (row_lt HE5.out.1.o)).trans HE5.out.1.o)
                go_simp
              (refine Mono.wpM_norm (fun K hK => ?_); go_simp; refine hK _ ?_; clear hK K); repeat (first | (refine Mono.wpM_all rfl rfl (fun K hK => ?_); go_simp; refine hK _ ?_; clear hK K) | (refine Mono.wpM_skip rfl ?_; refine Mono.wpM_norm (fun K hK => ?_); go_simp; refine hK _ ?_; clear hK K))
              refine Mono.wpM_look (.bool re) rfl rfl (fun w6 hc6 _ => ?_) ?_
              · have c0 : w6.cell? ⟨g11, 3, none⟩ = some (.bool re) := cell_of_row _ _ 3 _ 28 (0, 0) ((hc6.block _ (row_lt HE5.out.2.o)).trans HE5.out.2.o)
                go_simp
              (refine Mono.wpM_norm (fun K hK => ?_); go_simp; refine hK _ ?_; clear hK K); repeat (first | (refine Mono.wpM_all rfl rfl (fun K hK => ?_); go_simp; refine hK _ ?_; clear hK K) | (refine Mono.wpM_skip rfl ?_; refine Mono.wpM_norm (fun K hK => ?_); go_simp; refine hK _ ?_; clear hK K))
              refine Mono.wpM_look (.bool ra) rfl rfl (fun w6 hc6 _ => ?_) ?_
              · have c0 : w6.cell? ⟨g10, 0, none⟩ = some (.bool ra) := cell_of_row _ _ 0 _ 28 (0, 0) ((hc6.block _ (row_lt HE5.out.1.o)).trans HE5.out.1.o)
                go_simp
              (refine Mono.wpM_norm (fun K hK => ?_); go_simp; refine hK _ ?_; clear hK K); repeat (first | (refine Mono.wpM_all rfl rfl (fun K hK => ?_); go_simp; refine hK _ ?_; clear hK K) | (refine Mono.wpM_skip rfl ?_; refine Mono.wpM_norm (fun K hK => ?_); go_simp; refine hK _ ?_; clear hK K))
              refine Mono.wpM_look (.bool ra) rfl rfl (fun w6 hc6 _ => ?_) ?_
              · have c0 : w6.cell? ⟨g11, 0, none⟩ = some (.bool ra) := cell_of_row _ _ 0 _ 28 (0, 0) ((hc6.block _ (row_lt HE5.out.2.o)).trans HE5.out.2.o)
                go_simp
              (refine Mono.wpM_norm (fun K hK => ?_); go_simp; refine hK _ ?_; clear hK K); repeat (first | (refine Mono.wpM_all rfl rfl (fun K hK => ?_); go_simp; refine hK _ ?_; clear hK K) | (refine Mono.wpM_skip rfl ?_; refine Mono.wpM_norm (fun K hK => ?_); go_simp; refine hK _ ?_; clear hK K))
              refine Mono.wpM_nil fun w10 hc10 _ => ?_
              go_wp2
              go_meet
              exact ⟨rfl, hc10⟩
            · skip
              refine wp_region_fx (ftF true true true) (by kernel_rfl) (by kernel_rfl) ?_
              (refine Mono.wpM_norm (fun K hK => ?_); go_simp; refine hK _ ?_; clear hK K); repeat (first | (refine Mono.wpM_all rfl rfl (fun K hK => ?_); go_simp; refine hK _ ?_; clear hK K) | (refine Mono.wpM_skip rfl ?_; refine Mono.wpM_norm (fun K hK => ?_); go_simp; refine hK _ ?_; clear hK K))
              refine Mono.wpM_look (.agg #[.bool ra, .slice Aa ro.length ca, .int .u8 rk, .bool re]) rfl rfl (fun w6 hc6 _ => ?_) ?_
              · have c0 : w6.cell? ⟨g10, 0, none⟩ = some (.bool ra) := cell_of_row _ _ 0 _ 28 (0, 0) ((hc6.block _ (row_lt HE5.out.1.o)).trans HE5.out.1.o)
                have c1 : w6.cell? ⟨g10, 1, none⟩ = some (.slice Aa ro.length ca) := cell_of_row _ _ 1 _ 28 (0, 0) ((hc6.block _ (row_lt HE5.out.1.o)).trans HE5.out.1.o)
                have c2 : w6.cell? ⟨g10, 2, none⟩ = some (.int .u8 rk) := cell_of_row _ _ 2 _ 28 (0, 0) ((hc6.block _ (row_lt HE5.out.1.o)).trans HE5.out.1.o)
                have c3 : w6.cell? ⟨g10, 3, none⟩ = some (.bool re) := cell_of_row _ _ 3 _ 28 (0, 0) ((hc6.block _ (row_lt HE5.out.1.o)).trans HE5.out.1.o)
                go_simp
              (refine Mono.wpM_norm (fun K hK => ?_); go_simp; refine hK _ ?_; clear hK K); repeat (first | (refine Mono.wpM_all rfl rfl (fun K hK => ?_); go_simp; refine hK _ ?_; clear hK K) | (refine Mono.wpM_skip rfl ?_; refine Mono.wpM_norm (fun K hK => ?_); go_simp; refine hK _ ?_; clear hK K))
              refine Mono.wpM_eff rfl rfl (fun w9 hc9 _ => steps_enter (oid_any ⟨ra, ro, rk, re⟩ Aa ca o w9 (HE5.out.1.f.ext hc9) (by simp only; omega)) (by go_simp; first | done | rfl | exact ⟨rfl, rfl⟩) (bool_val HOR rfl)) ?_
              rintro v2 ⟨wq, hq⟩
              obtain rfl : v2 = _ := hq
              clear wq
              (refine Mono.wpM_norm (fun K hK => ?_); go_simp; refine hK _ ?_; clear hK K); repeat (first | (refine Mono.wpM_all rfl rfl (fun K hK => ?_); go_simp; refine hK _ ?_; clear hK K) | (refine Mono.wpM_skip rfl ?_; refine Mono.wpM_norm (fun K hK => ?_); go_simp; refine hK _ ?_; clear hK K))
              refine Mono.wpM_look (.agg #[.bool al, .slice A1 xs.length c1, .int .u8 kx, .bool ex]) rfl rfl (fun w6 hc6 _ => ?_) ?_
              · have c0 : w6.cell? ⟨g7, 0, none⟩ = some (.bool al) := cell_of_row _ _ 0 _ 28 (0, 0) ((hc6.block _ (row_lt HC5.out.1.o)).trans HC5.out.1.o)
                have c1 : w6.cell? ⟨g7, 1, none⟩ = some (.slice A1 xs.length c1) := cell_of_row _ _ 1 _ 28 (0, 0) ((hc6.block _ (row_lt HC5.out.1.o)).trans HC5.out.1.o)
                have c2 : w6.cell? ⟨g7, 2, none⟩ = some (.int .u8 kx) := cell_of_row _ _ 2 _ 28 (0, 0) ((hc6.block _ (row_lt HC5.out.1.o)).trans HC5.out.1.o)
                have c3 : w6.cell? ⟨g7, 3, none⟩ = some (.bool ex) := cell_of_row _ _ 3 _ 28 (0, 0) ((hc6.block _ (row_lt HC5.out.1.o)).trans HC5.out.1.o)
                go_simp
              (refine Mono.wpM_norm (fun K hK => ?_); go_simp; refine hK _ ?_; clear hK K); repeat (first | (refine Mono.wpM_all rfl rfl (fun K hK => ?_); go_simp; refine hK _ ?_; clear hK K) | (refine Mono.wpM_skip rfl ?_; refine Mono.wpM_norm (fun K hK => ?_); go_simp; refine hK _ ?_; clear hK K))
              refine Mono.wpM_eff rfl rfl (fun w9 hc9 _ => steps_enter (oid_any ⟨al, xs, kx, ex⟩ A1 c1 o w9 (HC5.out.1.f.ext hc9) (by simp only; omega)) (by go_simp; first | done | rfl | exact ⟨rfl, rfl⟩) (bool_val HOX rfl)) ?_
              rintro v5 ⟨wq, hq⟩
              obtain rfl : v5 = _ := hq
              clear wq
              (refine Mono.wpM_norm (fun K hK => ?_); go_simp; refine hK _ ?_; clear hK K); repeat (first | (refine Mono.wpM_all rfl rfl (fun K hK => ?_); go_simp; refine hK _ ?_; clear hK K) | (refine Mono.wpM_skip rfl ?_; refine Mono.wpM_norm (fun K hK => ?_); go_simp; refine hK _ ?_; clear hK K))
              refine Mono.wpM_look (.agg #[.bool be, .slice A3 ys.length c3, .int .u8 ky, .bool ey]) rfl rfl (fun w6 hc6 _ => ?_) ?_
              · have c0 : w6.cell? ⟨g8, 0, none⟩ = some (.bool be) := cell_of_row _ _ 0 _ 28 (0, 0) ((hc6.block _ (row_lt HC5.out.2.o)).trans HC5.out.2.o)
                have c1 : w6.cell? ⟨g8, 1, none⟩ = some (.slice A3 ys.length c3) := cell_of_row _ _ 1 _ 28 (0, 0) ((hc6.block _ (row_lt HC5.out.2.o)).trans HC5.out.2.o)
                have c2 : w6.cell? ⟨g8, 2, none⟩ = some (.int .u8 ky) := cell_of_row _ _ 2 _ 28 (0, 0) ((hc6.block _ (row_lt HC5.out.2.o)).trans HC5.out.2.o)
                have c3 : w6.cell? ⟨g8, 3, none⟩ = some (.bool ey) := cell_of_row _ _ 3 _ 28 (0, 0) ((hc6.block _ (row_lt HC5.out.2.o)).trans HC5.out.2.o)
                go_simp
              (refine Mono.wpM_norm (fun K hK => ?_); go_simp; refine hK _ ?_; clear hK K); repeat (first | (refine Mono.wpM_all rfl rfl (fun K hK => ?_); go_simp; refine hK _ ?_; clear hK K) | (refine Mono.wpM_skip rfl ?_; refine Mono.wpM_norm (fun K hK => ?_); go_simp; refine hK _ ?_; clear hK K))
              refine Mono.wpM_eff rfl rfl (fun w9 hc9 _ => steps_enter (oid_any ⟨be, ys, ky, ey⟩ A3 c3 o w9 (HC5.out.2.f.ext hc9) (by simp only; omega)) (by go_simp; first | done | rfl | exact ⟨rfl, rfl⟩) (bool_val HOY rfl)) ?_
              rintro v9 ⟨wq, hq⟩
              obtain rfl : v9 = _ := hq
              clear wq
              (refine Mono.wpM_norm (fun K hK => ?_); go_simp; refine hK _ ?_; clear hK K); repeat (first | (refine Mono.wpM_all rfl rfl (fun K hK => ?_); go_simp; refine hK _ ?_; clear hK K) | (refine Mono.wpM_skip rfl ?_; refine Mono.wpM_norm (fun K hK => ?_); go_simp; refine hK _ ?_; clear hK K))
              refine Mono.wpM_look (.agg #[.bool ra, .slice Aa ro.length ca, .int .u8 rk, .bool re]) rfl rfl (fun w6 hc6 _ => ?_) ?_
              · have c0 : w6.cell? ⟨g10, 0, none⟩ = some (.bool ra) := cell_of_row _ _ 0 _ 28 (0, 0) ((hc6.block _ (row_lt HE5.out.1.o)).trans HE5.out.1.o)
                have c1 : w6.cell? ⟨g10, 1, none⟩ = some (.slice Aa ro.length ca) := cell_of_row _ _ 1 _ 28 (0, 0) ((hc6.block _ (row_lt HE5.out.1.o)).trans HE5.out.1.o)
                have c2 : w6.cell? ⟨g10, 2, none⟩ = some (.int .u8 rk) := cell_of_row _ _ 2 _ 28 (0, 0) ((hc6.block _ (row_lt HE5.out.1.o)).trans HE5.out.1.o)
                have c3 : w6.cell? ⟨g10, 3, none⟩ = some (.bool re) := cell_of_row _ _ 3 _ 28 (0, 0) ((hc6.block _ (row_lt HE5.out.1.o)).trans HE5.out.1.o)
                go_simp
              (refine Mono.wpM_norm (fun K hK => ?_); go_simp; refine hK _ ?_; clear hK K); repeat (first | (refine Mono.wpM_all rfl rfl (fun K hK => ?_); go_simp; refine hK _ ?_; clear hK K) | (refine Mono.wpM_skip rfl ?_; refine Mono.wpM_norm (fun K hK => ?_); go_simp; refine hK _ ?_; clear hK K))
              refine Mono.wpM_eff rfl rfl (fun w9 hc9 _ => steps_enter (oid_any ⟨ra, ro, rk, re⟩ Aa ca o w9 (HE5.out.1.f.ext hc9) (by simp only; omega)) (by go_simp; first | done | rfl | exact ⟨rfl, rfl⟩) (bool_val HOR rfl)) ?_
              rintro v15 ⟨wq, hq⟩
              obtain rfl : v15 = _ := hq
              clear wq
              (refine Mono.wpM_norm (fun K hK => ?_); go_simp; refine hK _ ?_; clear hK K); repeat (first | (refine Mono.wpM_all rfl rfl (fun K hK => ?_); go_simp; refine hK _ ?_; clear hK K) | (refine Mono.wpM_skip rfl ?_; refine Mono.wpM_norm (fun K hK => ?_); go_simp; refine hK _ ?_; clear hK K))
              refine Mono.wpM_look (.agg #[.bool ra, .slice Ab ro.length cb, .int .u8 rk, .bool re]) rfl rfl (fun w6 hc6 _ => ?_) ?_
              · have c0 : w6.cell? ⟨g11, 0, none⟩ = some (.bool ra) := cell_of_row _ _ 0 _ 28 (0, 0) ((hc6.block _ (row_lt HE5.out.2.o)).trans HE5.out.2.o)
                have c1 : w6.cell? ⟨g11, 1, none⟩ = some (.slice Ab ro.length cb) := cell_of_row _ _ 1 _ 28 (0, 0) ((hc6.block _ (row_lt HE5.out.2.o)).trans HE5.out.2.o)
                have c2 : w6.cell? ⟨g11, 2, none⟩ = some (.int .u8 rk) := cell_of_row _ _ 2 _ 28 (0, 0) ((hc6.block _ (row_lt HE5.out.2.o)).trans HE5.out.2.o)
                have c3 : w6.cell? ⟨g11, 3, none⟩ = some (.bool re) := cell_of_row _ _ 3 _ 28 (0, 0) ((hc6.block _ (row_lt HE5.out.2.o)).trans HE5.out.2.o)
                go_simp
              (refine Mono.wpM_norm (fun K hK => ?_); go_simp; refine hK _ ?_; clear hK K); repeat (first | (refine Mono.wpM_all rfl rfl (fun K hK => ?_); go_simp; refine hK _ ?_; clear hK K) | (refine Mono.wpM_skip rfl ?_; refine Mono.wpM_norm (fun K hK => ?_); go_simp; refine hK _ ?_; clear hK K))
              refine Mono.wpM_eff rfl rfl (fun w9 hc9 _ => steps_enter (oid_any ⟨ra, ro, rk, re⟩ Ab cb o w9 (HE5.out.2.f.ext hc9) (by simp only; omega)) (by go_simp; first | done | rfl | exact ⟨rfl, rfl⟩) (bool_val HOR rfl)) ?_
              rintro v18 ⟨wq, hq⟩
              obtain rfl : v18 = _ := hq
              clear wq
              (refine Mono.wpM_norm (fun K hK => ?_); go_simp; refine hK _ ?_; clear hK K); repeat (first | (refine Mono.wpM_all rfl rfl (fun K hK => ?_); go_simp; refine hK _ ?_; clear hK K) | (refine Mono.wpM_skip rfl ?_; refine Mono.wpM_norm (fun K hK => ?_); go_simp; refine hK _ ?_; clear hK K))
              refine Mono.wpM_look (.int .u8 rk) rfl rfl (fun w6 hc6 _ => ?_) ?_
              · have c0 : w6.cell? ⟨g10, 2, none⟩ = some (.int .u8 rk) := cell_of_row _ _ 2 _ 28 (0, 0) ((hc6.block _ (row_lt HE5.out.1.o)).trans HE5.out.1.o)
                go_simp
              (refine Mono.wpM_norm (fun K hK => ?_); go_simp; refine hK _ ?_; clear hK K); repeat (first | (refine Mono.wpM_all rfl rfl (fun K hK => ?_); go_simp; refine hK _ ?_; clear hK K) | (refine Mono.wpM_skip rfl ?_; refine Mono.wpM_norm (fun K hK => ?_); go_simp; refine hK _ ?_; clear hK K))
              refine Mono.wpM_look (.int .u8 rk) rfl rfl (fun w6 hc6 _ => ?_) ?_
              · have c0 : w6.cell? ⟨g11, 2, none⟩ = some (.int .u8 rk) := cell_of_row _ _ 2 _ 28 (0, 0) ((hc6.block _ (row_lt HE5.out.2.o)).trans HE5.out.2.o)
                go_simp
              (refine Mono.wpM_norm (fun K hK => ?_); go_simp; refine hK _ ?_; clear hK K); repeat (first | (refine Mono.wpM_all rfl rfl (fun K hK => ?_); go_simp; refine hK _ ?_; clear hK K) | (refine Mono.wpM_skip rfl ?_; refine Mono.wpM_norm (fun K hK => ?_); go_simp; refine hK _ ?_; clear hK K))
              refine Mono.wpM_look (.bool re) rfl rfl (fun w6 hc6 _ => ?_) ?_
              · have c0 : w6.cell? ⟨g10, 3, none⟩ = some (.bool re) := cell_of_row _ _ 3 _ 28 (0, 0) ((hc6.block _ (row_lt HE5.out.1.o)).trans HE5.out.1.o)
                go_simp
              (refine Mono.wpM_norm (fun K hK => ?_); go_simp; refine hK _ ?_; clear hK K); repeat (first | (refine Mono.wpM_all rfl rfl (fun K hK => ?_); go_simp; refine hK _ ?_; clear hK K) | (refine Mono.wpM_skip rfl ?_; refine Mono.wpM_norm (fun K hK => ?_); go_simp; refine hK _ ?_; clear hK K))
              refine Mono.wpM_look (.bool re) rfl rfl (fun w6 hc6 _ => ?_) ?_
              · have c0 : w6.cell? ⟨g11, 3, none⟩ = some (.bool re) := cell_of_row _ _ 3 _ 28 (0, 0) ((hc6.block _ (row_lt HE5.out.2.o)).trans HE5.out.2.o)
                go_simp
              (refine Mono.wpM_norm (fun K hK => ?_); go_simp; refine hK _ ?_; clear hK K); repeat (first | (refine Mono.wpM_all rfl rfl (fun K hK => ?_); go_simp; refine hK _ ?_; clear hK K) | (refine Mono.wpM_skip rfl ?_; refine Mono.wpM_norm (fun K hK => ?_); go_simp; refine hK _ ?_; clear hK K))
              refine Mono.wpM_look (.bool ra) rfl rfl (fun w6 hc6 _ => ?_) ?_
              · have c0 : w6.cell? ⟨g10, 0, none⟩ = some (.bool ra) := cell_of_row _ _ 0 _ 28 (0, 0) ((hc6.block _ (row_lt HE5.out.1.o)).trans HE5.out.1.o)
                go_simp
              (refine Mono.wpM_norm (fun K hK => ?_); go_simp; refine hK _ ?_; clear hK K); repeat (first | (refine Mono.wpM_all rfl rfl (fun K hK => ?_); go_simp; refine hK _ ?_; clear hK K) | (refine Mono.wpM_skip rfl ?_; refine Mono.wpM_norm (fun K hK => ?_); go_simp; refine hK _ ?_; clear hK K))
              refine Mono.wpM_look (.bool ra) rfl rfl (fun w6 hc6 _ => ?_) ?_
              · have c0 : w6.cell? ⟨g11, 0, none⟩ = some (.bool ra) := cell_of_row _ _ 0 _ 28 (0, 0) ((hc6.block _ (row_lt HE5.out.2.o)).trans HE5.out.2.o)
                go_simp
              (refine Mono.wpM_norm (fun K hK => ?_); go_simp; refine hK _ ?_; clear hK K); repeat (first | (refine Mono.wpM_all rfl rfl (fun K hK => ?_); go_simp; refine hK _ ?_; clear hK K) | (refine Mono.wpM_skip rfl ?_; refine Mono.wpM_norm (fun K hK => ?_); go_simp; refine hK _ ?_; clear hK K))
              refine Mono.wpM_nil fun w10 hc10 _ => ?_
              go_wp2
              go_meet
              exact ⟨rfl, hc10⟩
          -- END r7
        case rest =>
          obtain ⟨rfl, hbc⟩ := hcut
          have HE6 := Lib.hid (show Bx wc ⟨ra, ro, rk, re⟩ g10 Aa ca ∧ Bx wc ⟨ra, ro, rk, re⟩ g11 Ab cb from ⟨HE5.out.1.up hbc.out, HE5.out.2.up hbc.out⟩)
          have HG6 := Lib.hid (show Bx wc ⟨sa, so, sk, se⟩ g12 Ac cc ∧ Bx wc ⟨sa, so, sk, se⟩ g13 Ad cd from ⟨HG5.out.1.up hbc.out, HG5.out.2.up hbc.out⟩)
          have HB6 := Lib.hid (HB5.out.trans (hbc.out.mono HB5.out.size))
          clear HE5 HG5 HB5 HC5 hbc p25
          obtain ⟨w6, rfl⟩ : ∃ w6 : World, w6 = wc := ⟨_, rfl⟩
          have p0 : w6.cell? ⟨g10, 0, none⟩ = some (.bool ra) := cell_of_row _ _ 0 _ 28 (0, 0) HE6.out.1.o
          have p1 : w6.cell? ⟨g10, 1, none⟩ = some (.slice Aa ro.length ca) := cell_of_row _ _ 1 _ 28 (0, 0) HE6.out.1.o
          have p2 : w6.cell? ⟨g10, 2, none⟩ = some (.int .u8 rk) := cell_of_row _ _ 2 _ 28 (0, 0) HE6.out.1.o
          have p3 : w6.cell? ⟨g10, 3, none⟩ = some (.bool re) := cell_of_row _ _ 3 _ 28 (0, 0) HE6.out.1.o
          have fzp : ∀ i, w6.frozen? ⟨g10, i, none⟩ = false := fun i => row_free HE6.out.1.o i
          have q0 : w6.cell? ⟨g11, 0, none⟩ = some (.bool ra) := cell_of_row _ _ 0 _ 28 (0, 0) HE6.out.2.o
          have q1 : w6.cell? ⟨g11, 1, none⟩ = some (.slice Ab ro.length cb) := cell_of_row _ _ 1 _ 28 (0, 0) HE6.out.2.o
          have q2 : w6.cell? ⟨g11, 2, none⟩ = some (.int .u8 rk) := cell_of_row _ _ 2 _ 28 (0, 0) HE6.out.2.o
          have q3 : w6.cell? ⟨g11, 3, none⟩ = some (.bool re) := cell_of_row _ _ 3 _ 28 (0, 0) HE6.out.2.o
          have fzq : ∀ i, w6.frozen? ⟨g11, i, none⟩ = false := fun i => row_free HE6.out.2.o i
          have x0 : w6.cell? ⟨g12, 0, none⟩ = some (.bool sa) := cell_of_row _ _ 0 _ 28 (0, 0) HG6.out.1.o
          have x1 : w6.cell? ⟨g12, 1, none⟩ = some (.slice Ac so.length cc) := cell_of_row _ _ 1 _ 28 (0, 0) HG6.out.1.o
          have x2 : w6.cell? ⟨g12, 2, none⟩ = some (.int .u8 sk) := cell_of_row _ _ 2 _ 28 (0, 0) HG6.out.1.o
          have x3 : w6.cell? ⟨g12, 3, none⟩ = some (.bool se) := cell_of_row _ _ 3 _ 28 (0, 0) HG6.out.1.o
          have fzx : ∀ i, w6.frozen? ⟨g12, i, none⟩ = false := fun i => row_free HG6.out.1.o i
          have y0 : w6.cell? ⟨g13, 0, none⟩ = some (.bool sa) := cell_of_row _ _ 0 _ 28 (0, 0) HG6.out.2.o
          have y1 : w6.cell? ⟨g13, 1, none⟩ = some (.slice Ad so.length cd) := cell_of_row _ _ 1 _ 28 (0, 0) HG6.out.2.o
          have y2 : w6.cell? ⟨g13, 2, none⟩ = some (.int .u8 sk) := cell_of_row _ _ 2 _ 28 (0, 0) HG6.out.2.o
          have y3 : w6.cell? ⟨g13, 3, none⟩ = some (.bool se) := cell_of_row _ _ 3 _ 28 (0, 0) HG6.out.2.o
          have fzy : ∀ i, w6.frozen? ⟨g13, i, none⟩ = false := fun i => row_free HG6.out.2.o i
          clear fzp fzq fzx fzy
          go_wp2
          clear p0 p1 p2 p3 q0 q1 q2 q3 x0 x1 x2 x3 y0 y1 y2 y3
          go_loopw [15] (fun s15 wr => ∃ j : Nat, j ≤ so.length ∧ s15 = .int .i64 (j : Int) ∧ Hid (Below w6.heap.size w6 wr)) (fun s15 _ => so.length - (intOf s15).toNat)
          case atStart => exact ⟨0, by omega, rfl, Below.refl _ _⟩
          case round =>
            obtain ⟨j, hj, rfl, hb⟩ := hrel
            have r8 := (hb.out.block _ (row_lt HG6.out.1.o)).trans HG6.out.1.o
            have r9 := (hb.out.block _ (row_lt HG6.out.2.o)).trans HG6.out.2.o
            have x1 : wr.cell? ⟨g12, 1, none⟩ = some (.slice Ac so.length cc) := cell_of_row _ _ 1 _ 28 (0, 0) r8
            have y1 : wr.cell? ⟨g13, 1, none⟩ = some (.slice Ad so.length cd) := cell_of_row _ _ 1 _ 28 (0, 0) r9
            clear r8 r9
            by_cases hlt : j < so.length
            · have hd1 : (j : Int) < (so.length : Int) := by omega
              obtain ⟨ba, oa, rfl, hba, hca⟩ := HG6.out.1.f.rd.at_ hlt
              obtain ⟨bb, ob, rfl, hbb, hcb⟩ := HG6.out.2.f.rd.at_ hlt
              have xa : wr.cell? ⟨ba, oa + j, none⟩ = some (.int .u32 so[j]) := (hb.out.cell hba).trans (hca j hlt)
              have xb : wr.cell? ⟨bb, ob + j, none⟩ = some (.int .u32 so[j]) := (hb.out.cell hbb).trans (hcb j hlt)
              clear hca hcb
              generalize so[j] = oj at *
              go_upto_region 14 with fail
              go_quiet (fail)
              go_wp2
              go_roundw
              case rel => exact ⟨j + 1, by omega, by go_num, below_drewN hb.out _⟩
              case measure => simp [intOf]; omega
            · go_wp2_with fail
              refine (awake_any wr).mono ?_
              rintro e w13 ⟨rfl, hb13⟩
              go_wp2
              go_ret
              exact ⟨rfl, (HB6.out.trans (hb.out.mono HB6.out.size)).trans (hb13.mono (Nat.le_trans HB6.out.size hb.out.size))⟩
end Go.Proofs.Ytaaijgalminafaa
