import Derived.Deep.DeepCutAuto
import Derived.Test.YtaaijgalminafaaTv
/-
  Layer 24: FilterTwice (f4): what passes twice, and through two filters (printed by gen_fw.py).
-/
namespace Go.Proofs.Ytaaijgalminafaa
open Go.RowKit Mem
attribute [local go_sem] Mono.pureAt Mono.pureUpon
attribute [local irreducible] Mono.steps Mono.wpM State.acts State.wpM

def twL3 (B : Nat) (x y : Fl) (txs : List Tx) : List (Nat × Mem.Kind) := [(1, .sup (supFl B (· = x))), (3, .sup (supFl B (· = y))), (5, .sup (supTxs txs)), (6, .box 4 28), (7, .box 4 28)]
def twF5 (a : List Tx) : Nat → Option Fact
  | 3 => some (.txs KP a)
  | 4 => some (.txs KP a)
  | 5 => some (.txs KR a)
  | 7 => some (.val (.bool true))
  | _ => none
def twF10 (a b c : List Tx) : Nat → Option Fact
  | 3 => some (.txs KP a)
  | 4 => some (.txs KP c)
  | 5 => some (.txs KR c)
  | 7 => some (.val (.bool true))
  | 12 => some (.txs KP b)
  | 13 => some (.txs KP c)
  | 14 => some (.txs KR c)
  | 16 => some (.val (.bool true))
  | 19 => some (.val (.bool true))
  | _ => none
set_option maxRecDepth 100000 in
set_option maxHeartbeats 12800000 in
theorem filterTwice_walk (x y : Fl) (r : Ro Tr) (A B : Option Addr) (c d : Nat) (w : World) (hX : FlAt w w.heap.size x A c) (hY : FlAt w w.heap.size y B d) (hox : FlOk x) (hoy : FlOk y) (hR : RoAt (KT KR) w (Lt w.heap.size) r) (hin : ∀ t ∈ r.l, t.In) :
    Calls Try.prog 4 #[x.v A c, y.v B d, r.v] w (RetB true w) := by
  obtain ⟨al, xs, kx, ex⟩ := x
  obtain ⟨be, ys, ky, ey⟩ := y
  obtain ⟨l, C, e⟩ := r
  have HX := Lib.hid hX; have HY := Lib.hid hY; have HR := Lib.hid hR; have OX := Lib.hid hox; have OY := Lib.hid hoy; have HIN := Lib.hid hin
  clear hX hY hR hox hoy hin
  show Calls Try.prog 4 #[.agg #[.bool al, .slice A xs.length c, .int .u8 kx, .bool ex], .agg #[.bool be, .slice B ys.length d, .int .u8 ky, .bool ey], .slice C l.length e] w _
  go_enter Try.func4, Try.ntmps4
  by_cases h1 : 60 < xs.length
  · have h11 : (60 : Int) < (xs.length : Int) := by omega
    go_wp2
    go_ret
    exact ⟨rfl, ((Below.refl _ w).alloc (Nat.le_refl _) _).alloc (by simp) _⟩
  have h11 : ¬ (60 : Int) < (xs.length : Int) := by omega
  by_cases h2 : 60 < ys.length
  · have h22 : (60 : Int) < (ys.length : Int) := by omega
    go_wp2
    go_ret
    exact ⟨rfl, ((Below.refl _ w).alloc (Nat.le_refl _) _).alloc (by simp) _⟩
  have h22 : ¬ (60 : Int) < (ys.length : Int) := by omega
  go_wp2_with fail
  generalize hW : World.alloc (World.alloc w _) _ = W
  obtain ⟨hb0, p0, p1, hsz⟩ := alloc2 hW
  have HRW := Lib.hid (HR.out.up (Same.below hb0 lt_lt) (fun b h => Nat.lt_of_lt_of_le h hb0.size) : RoAt (KT KR) W (Lt W.heap.size) ⟨l, C, e⟩)
  refine (great_any ⟨l, C, e⟩ (Lt W.heap.size) W HRW.out lt_lt (fun t ht => (HIN.out t ht).n)).mono ?_
  rintro e' w3 ⟨g, rfl, hb3, hg⟩
  have HB := Lib.hid (hb0.trans (hb3.mono hb0.size))
  cases g
  · skip
    have P0 := Lib.hid ((hb3.block _ (row_lt p0)).trans p0); have P1 := Lib.hid ((hb3.block _ (row_lt p1)).trans p1)
    have hx2 := Lib.hid ((HX.out.up hb0 (Nat.le_refl _) hb0.size).ext hb3); have hy2 := Lib.hid ((HY.out.up hb0 (Nat.le_refl _) hb0.size).ext hb3)
    have HR3 := Lib.hid (HRW.out.up (Same.below hb3 lt_lt) (fun b h => Nat.lt_of_lt_of_le h hb3.size) : RoAt (KT KR) w3 (Lt w3.heap.size) ⟨l, C, e⟩)
    obtain ⟨txs, htx⟩ : ∃ txs, l.map Tr.tx = txs := ⟨_, rfl⟩
    have HOK := Lib.hid (show TxsOk txs by rw [← htx]; exact (hg rfl).ok HIN.out)
    have HTX := Lib.hid htx
    clear hW hb0 p0 p1 hb3 hg HRW hsz htx HX HY HR HIN
    go_wp2_with fail
    go_cut [7, 8, 9] (fun s7 s8 s9 wx => ∃ g7 g8 A1 c1 A3 c3, s7 = .pointer (some ⟨g7, 0, none⟩) ∧ s8 = .pointer (some ⟨g8, 0, none⟩) ∧ Hid (Below w3.heap.size w3 wx ∧ Bx wx ⟨al, xs, kx, ex⟩ g7 A1 c1 ∧ Bx wx ⟨be, ys, ky, ey⟩ g8 A3 c3 ∧ TxsAt KP wx s9 txs))
    case first =>
      refine wp_region_mem_tail 8 (twL3 w3.heap.size ⟨al, xs, kx, ex⟩ ⟨be, ys, ky, ey⟩ txs) (by kernel_rfl) (by kernel_rfl) (by kernel_rfl) (by kernel_rfl) (by kernel_rfl) (by kernel_rfl) (fun hM hO => ?_)
      refine State.wpM_look (.agg #[.bool al, .slice A xs.length c, .int .u8 kx, .bool ex]) rfl rfl (fun F' w6 hC _ _ => ?_) ?_
      · have c0 : w6.cell? ⟨w.heap.size, 0, none⟩ = some (.bool al) := cell_of_row _ _ 0 _ 24 (0, 0) ((hC.b.block _ (row_lt P0.out)).trans P0.out)
        have c1 : w6.cell? ⟨w.heap.size, 1, none⟩ = some (.slice A xs.length c) := cell_of_row _ _ 1 _ 24 (0, 0) ((hC.b.block _ (row_lt P0.out)).trans P0.out)
        have c2 : w6.cell? ⟨w.heap.size, 2, none⟩ = some (.int .u8 kx) := cell_of_row _ _ 2 _ 24 (0, 0) ((hC.b.block _ (row_lt P0.out)).trans P0.out)
        have c3 : w6.cell? ⟨w.heap.size, 3, none⟩ = some (.bool ex) := cell_of_row _ _ 3 _ 24 (0, 0) ((hC.b.block _ (row_lt P0.out)).trans P0.out)
        go_simp
      repeat (first | (refine State.wpM_skip rfl ?_) | (refine State.wpM_all rfl rfl (fun K hK => ?_); go_simp; refine hK _ ?_; clear hK K))
      refine State.wpM_act rfl rfl (fun F' w5 hC h0 ha hA => ?_) ?_
      · skip
        exact acts_sup hM rfl hC ha ((own_any ⟨al, xs, kx, ex⟩ A c w5 (hx2.out.ext hC.b) (by simp only; omega)).mono fun e w' h => ⟨_, h, rfl⟩) (by go_simp; first | done | rfl | exact ⟨rfl, rfl⟩) (retFl_sup hC.b.size)
      intro v1 ⟨w5, hC5⟩
      obtain ⟨S5, ⟨r1, u1', hP1, rfl, hw1, -⟩, -⟩ := hC5.sup 1 _ rfl v1 (by simp [State.upd])
      obtain ⟨A1, c1, rfl, -⟩ := FlAt.of_own hw1
      subst hP1
      clear hC5 hw1 w5 S5
      unfold Fl.cells
      repeat (first | (refine State.wpM_skip rfl ?_) | (refine State.wpM_all rfl rfl (fun K hK => ?_); go_simp; refine hK _ ?_; clear hK K))
      refine State.wpM_look (.agg #[.bool be, .slice B ys.length d, .int .u8 ky, .bool ey]) rfl rfl (fun F' w6 hC _ _ => ?_) ?_
      · have c0 : w6.cell? ⟨w.heap.size + 1, 0, none⟩ = some (.bool be) := cell_of_row _ _ 0 _ 24 (0, 0) ((hC.b.block _ (row_lt P1.out)).trans P1.out)
        have c1 : w6.cell? ⟨w.heap.size + 1, 1, none⟩ = some (.slice B ys.length d) := cell_of_row _ _ 1 _ 24 (0, 0) ((hC.b.block _ (row_lt P1.out)).trans P1.out)
        have c2 : w6.cell? ⟨w.heap.size + 1, 2, none⟩ = some (.int .u8 ky) := cell_of_row _ _ 2 _ 24 (0, 0) ((hC.b.block _ (row_lt P1.out)).trans P1.out)
        have c3 : w6.cell? ⟨w.heap.size + 1, 3, none⟩ = some (.bool ey) := cell_of_row _ _ 3 _ 24 (0, 0) ((hC.b.block _ (row_lt P1.out)).trans P1.out)
        go_simp
      repeat (first | (refine State.wpM_skip rfl ?_) | (refine State.wpM_all rfl rfl (fun K hK => ?_); go_simp; refine hK _ ?_; clear hK K))
      refine State.wpM_act rfl rfl (fun F' w5 hC h0 ha hA => ?_) ?_
      · skip
        exact acts_sup hM rfl hC ha ((own_any ⟨be, ys, ky, ey⟩ B d w5 (hy2.out.ext hC.b) (by simp only; omega)).mono fun e w' h => ⟨_, h, rfl⟩) (by go_simp; first | done | rfl | exact ⟨rfl, rfl⟩) (retFl_sup hC.b.size)
      intro v3 ⟨w5, hC5⟩
      obtain ⟨S5, ⟨r3, u3', hP3, rfl, hw3, -⟩, -⟩ := hC5.sup 3 _ rfl v3 (by simp [State.upd])
      obtain ⟨A3, c3, rfl, -⟩ := FlAt.of_own hw3
      subst hP3
      clear hC5 hw3 w5 S5
      unfold Fl.cells
      repeat (first | (refine State.wpM_skip rfl ?_) | (refine State.wpM_all rfl rfl (fun K hK => ?_); go_simp; refine hK _ ?_; clear hK K))
      refine State.wpM_act rfl rfl (fun F' w5 hC h0 ha hA => ?_) ?_
      · skip
        have hc5 : Calls Try.prog 12 #[.slice C l.length e] w5 (RetTxs KP (Lt w3.heap.size) txs w5) := by
          rw [← HTX.out]
          have hk := HOK.out
          rw [← HTX.out] at hk
          exact txs_any ⟨l, C, e⟩ (Lt w3.heap.size) w5 (HR3.out.up (Same.below hC.b lt_lt) fun _ h => h) (fun b h => Nat.lt_of_lt_of_le h hC.b.size) (by have := hk.n; simpa using this) (fun t ht => (hk.ok _ (List.mem_map.2 ⟨t, ht, rfl⟩)).sm)
        exact acts_sup hM rfl hC ha hc5 (by go_simp; first | done | rfl | exact ⟨rfl, rfl⟩) (retTxs_sup hC.b.size)
      intro v5 _
      repeat (first | (refine State.wpM_skip rfl ?_) | (refine State.wpM_all rfl rfl (fun K hK => ?_); go_simp; refine hK _ ?_; clear hK K))
      refine State.wpM_act rfl rfl (fun F' w hC h0 ha _ => acts_box hM rfl hC h0 ha (cs := #[.bool false, .slice none 0 0, .int .u8 0, .bool false]) rfl (by go_simp)) ?_
      intro v6 ⟨w5, hC5⟩
      obtain ⟨g6, -, rfl, -⟩ := hC5.box 6 4 28 rfl v6 (by simp [State.upd])
      clear hC5 w5
      refine State.wpM_act rfl rfl (fun F' w hC h0 ha _ => acts_box hM rfl hC h0 ha (cs := #[.bool false, .slice none 0 0, .int .u8 0, .bool false]) rfl (by go_simp)) ?_
      intro v7 ⟨w5, hC5⟩
      obtain ⟨g7, -, rfl, -⟩ := hC5.box 7 4 28 rfl v7 (by simp [State.upd])
      clear hC5 w5
      (refine State.wpM_norm (fun K hK => ?_); go_simp; refine hK _ ?_; clear hK K)
      refine State.wpM_nil fun w10 hC => ?_
      obtain ⟨z6', cur6, ez6, hB6, q6, hz6⟩ := hC.box 6 4 28 rfl (.pointer (some ⟨g6, 0, none⟩)) (by simp [State.upd])
      injection ez6 with ez6; injection ez6 with ez6; injection ez6 with ez6 _ _
      subst ez6
      obtain ⟨z7', cur7, ez7, hB7, q7, hz7⟩ := hC.box 7 4 28 rfl (.pointer (some ⟨g7, 0, none⟩)) (by simp [State.upd])
      injection ez7 with ez7; injection ez7 with ez7; injection ez7 with ez7 _ _
      subst ez7
      have n6_7 : g7 ≠ g6 := fun e => hC.ne 6 7 4 4 28 28 (.pointer (some ⟨g6, 0, none⟩)) rfl rfl (by decide) (by simp [State.upd]) (by rw [← e]; simp [State.upd])
      obtain ⟨S1, hp1, -, hn1⟩ := hC.sup 1 _ rfl (.agg #[.bool al, .slice A1 xs.length c1, .int .u8 kx, .bool ex]) (by simp [State.upd])
      obtain ⟨ow1, hb1⟩ := supFl_at (r := ⟨al, xs, kx, ex⟩) (eq_uniq ⟨al, xs, kx, ex⟩) rfl hp1
      have m1_6 : Value.ownBlock (.slice A1 xs.length c1) ≠ some g6 := fun e => hn1 6 4 28 g6 rfl (by simp [State.upd]) (hb1 _ e)
      have m1_7 : Value.ownBlock (.slice A1 xs.length c1) ≠ some g7 := fun e => hn1 7 4 28 g7 rfl (by simp [State.upd]) (hb1 _ e)
      obtain ⟨S3, hp3, -, hn3⟩ := hC.sup 3 _ rfl (.agg #[.bool be, .slice A3 ys.length c3, .int .u8 ky, .bool ey]) (by simp [State.upd])
      obtain ⟨ow3, hb3⟩ := supFl_at (r := ⟨be, ys, ky, ey⟩) (eq_uniq ⟨be, ys, ky, ey⟩) rfl hp3
      have m3_6 : Value.ownBlock (.slice A3 ys.length c3) ≠ some g6 := fun e => hn3 6 4 28 g6 rfl (by simp [State.upd]) (hb3 _ e)
      have m3_7 : Value.ownBlock (.slice A3 ys.length c3) ≠ some g7 := fun e => hn3 7 4 28 g7 rfl (by simp [State.upd]) (hb3 _ e)
      have qq6 : w10.heap[g6]? = some (.cells cur6 28 (0, 0)) := q6
      have s6 : ((w10.setRow g6 #[.bool al, .slice A1 xs.length c1, .int .u8 kx, .bool ex]).setRow g7 #[.bool be, .slice A3 ys.length c3, .int .u8 ky, .bool ey]).heap[g6]? = some (.cells #[.bool al, .slice A1 xs.length c1, .int .u8 kx, .bool ex] 28 (0, 0)) := (setRow_other (w10.setRow g6 #[.bool al, .slice A1 xs.length c1, .int .u8 kx, .bool ex]) g7 g6 _ (Ne.symm n6_7)).trans (setRow_heap w10 g6 cur6 #[.bool al, .slice A1 xs.length c1, .int .u8 kx, .bool ex] 28 (0, 0) qq6)
      have x1 : ((w10.setRow g6 #[.bool al, .slice A1 xs.length c1, .int .u8 kx, .bool ex]).setRow g7 #[.bool be, .slice A3 ys.length c3, .int .u8 ky, .bool ey]).ownsRow w3.heap.size 25 1 (.slice A1 xs.length c1) _ _ := (own_setRow_ne (own_setRow_ne ow1 m1_6) m1_7)
      have qq7 : (w10.setRow g6 #[.bool al, .slice A1 xs.length c1, .int .u8 kx, .bool ex]).heap[g7]? = some (.cells cur7 28 (0, 0)) := (setRow_other w10 g6 g7 _ n6_7).trans (q7)
      have s7 : ((w10.setRow g6 #[.bool al, .slice A1 xs.length c1, .int .u8 kx, .bool ex]).setRow g7 #[.bool be, .slice A3 ys.length c3, .int .u8 ky, .bool ey]).heap[g7]? = some (.cells #[.bool be, .slice A3 ys.length c3, .int .u8 ky, .bool ey] 28 (0, 0)) := setRow_heap (w10.setRow g6 #[.bool al, .slice A1 xs.length c1, .int .u8 kx, .bool ex]) g7 cur7 #[.bool be, .slice A3 ys.length c3, .int .u8 ky, .bool ey] 28 (0, 0) qq7
      have x3 : ((w10.setRow g6 #[.bool al, .slice A1 xs.length c1, .int .u8 kx, .bool ex]).setRow g7 #[.bool be, .slice A3 ys.length c3, .int .u8 ky, .bool ey]).ownsRow w3.heap.size 25 1 (.slice A3 ys.length c3) _ _ := (own_setRow_ne (own_setRow_ne ow3 m3_6) m3_7)
      obtain ⟨S5, hp5, hl5, hn5⟩ := hC.sup 5 _ rfl v5 (by simp [State.upd])
      have z5 : TxsAt KP ((w10.setRow g6 #[.bool al, .slice A1 xs.length c1, .int .u8 kx, .bool ex]).setRow g7 #[.bool be, .slice A3 ys.length c3, .int .u8 ky, .bool ey]) v5 txs := supTxs_at hp5 hl5 ((Same.setRow (hn5 6 4 28 g6 rfl (by simp [State.upd]))).trans (Same.setRow (hn5 7 4 28 g7 rfl (by simp [State.upd])))) (by rw [size_setRow, size_setRow]; exact Nat.le_refl _)
      have HZ5 := Lib.hid z5
      clear z5 hp5 hl5 hn5
      have hbz := (below_setRow (below_setRow hC.b hB6 (cs := #[.bool al, .slice A1 xs.length c1, .int .u8 kx, .bool ex])) hB7 (cs := #[.bool be, .slice A3 ys.length c3, .int .u8 ky, .bool ey]))
      have Hs6 := Lib.hid s6
      have Hx1 := Lib.hid x1
      have Hs7 := Lib.hid s7
      have Hx3 := Lib.hid x3
      have HBZ := Lib.hid hbz
      clear s6 x1 s7 x3 hbz hC hM hO
      show wpList _ _ _ [_, _, _] _ _
      refine wpList_store_row rfl 28 _ _ rfl g6 rfl #[.bool al, .slice A1 xs.length c1, .int .u8 kx, .bool ex] rfl cur6 28 qq6 (by kernel_rfl) (by rw [hz6]; rfl) (cells_one4 rfl) rfl ?_
      refine wpList_store_row rfl 28 _ _ rfl g7 rfl #[.bool be, .slice A3 ys.length c3, .int .u8 ky, .bool ey] rfl cur7 28 qq7 (by kernel_rfl) (by rw [hz7]; rfl) (cells_one4 rfl) rfl ?_
      generalize ((w10.setRow g6 #[.bool al, .slice A1 xs.length c1, .int .u8 kx, .bool ex]).setRow g7 #[.bool be, .slice A3 ys.length c3, .int .u8 ky, .bool ey]) = wz at *
      go_wp2
      go_meet
      exact ⟨g6, g7, A1, c1, A3, c3, rfl, rfl, ⟨HBZ.out, Bx.mk' Hs6.out Hx1.out, Bx.mk' Hs7.out Hx3.out, HZ5.out⟩⟩
    case rest =>
      obtain ⟨g7, g8, A1, c1, A3, c3, rfl, rfl, HC⟩ := hcut
      obtain ⟨w4, rfl⟩ : ∃ w4 : World, w4 = wc := ⟨_, rfl⟩
      have HB4 := Lib.hid (HB.out.trans (HC.out.1.mono HB.out.size))
      have Q0 := Lib.hid ((HC.out.1.block _ (row_lt P0.out)).trans P0.out); have Q1 := Lib.hid ((HC.out.1.block _ (row_lt P1.out)).trans P1.out)
      have HD := Lib.hid HC.out.2
      clear HC HB P0 P1 hx2 hy2 HR3 HTX
      have p0 : w4.cell? ⟨g7, 0, none⟩ = some (.bool al) := cell_of_row _ _ 0 _ 28 (0, 0) HD.out.1.o
      have p1 : w4.cell? ⟨g7, 1, none⟩ = some (.slice A1 xs.length c1) := cell_of_row _ _ 1 _ 28 (0, 0) HD.out.1.o
      have p2 : w4.cell? ⟨g7, 2, none⟩ = some (.int .u8 kx) := cell_of_row _ _ 2 _ 28 (0, 0) HD.out.1.o
      have p3 : w4.cell? ⟨g7, 3, none⟩ = some (.bool ex) := cell_of_row _ _ 3 _ 28 (0, 0) HD.out.1.o
      have fzp : ∀ i, w4.frozen? ⟨g7, i, none⟩ = false := fun i => row_free HD.out.1.o i
      clear fzp
      go_wp2_with fail
      refine (passV ⟨al, xs, kx, ex⟩ A1 c1 u9 txs w4 HD.out.1.f ⟨OX.out.k0, OX.out.k1⟩ (by simp only; omega) HD.out.2.2 HOK.out).mono ?_
      rintro e' w5 ⟨u34, rfl, ht34, hb5⟩
      have HK1 := Lib.hid (HOK.out.pass ⟨al, xs, kx, ex⟩)
      have HT34 := Lib.hid ht34
      clear ht34 p0 p1 p2 p3
      go_wp2_with fail
      refine (backV u34 _ w5 HT34.out HK1.out).mono ?_
      rintro e' w6 ⟨v10, rfl, ht10, hb6⟩
      have HB6 := Lib.hid ((HB4.out.trans (hb5.mono HB4.out.size)).trans (hb6.mono (HB4.out.trans (hb5.mono HB4.out.size)).size))
      have h46 : Below w4.heap.size w4 w6 := hb5.trans (hb6.mono hb5.size)
      have HE := Lib.hid (show Bx w6 ⟨al, xs, kx, ex⟩ g7 A1 c1 ∧ Bx w6 ⟨be, ys, ky, ey⟩ g8 A3 c3 ∧ TxsAt KP w6 u9 txs ∧ TxsAt KR w6 v10 (txs.filterMap (txP ⟨al, xs, kx, ex⟩)) from ⟨HD.out.1.up h46, HD.out.2.1.up h46, HD.out.2.2.up h46, ht10⟩)
      have S0 := Lib.hid ((h46.block _ (row_lt Q0.out)).trans Q0.out); have S1 := Lib.hid ((h46.block _ (row_lt Q1.out)).trans Q1.out)
      clear ht10 HT34 hb5 hb6 h46 HD HB4 Q0 Q1
      go_wp2_with fail
      go_cut [44] (fun s44 wx => s44 = .bool false ∧ Hid (Below w6.heap.size w6 wx))
      case first =>
        refine wp_region_fx (twF5 (txs.filterMap (txP ⟨al, xs, kx, ex⟩))) (by kernel_rfl) (by kernel_rfl) ?_
        repeat (first | (refine Mono.wpM_skip rfl ?_) | (refine Mono.wpM_all rfl rfl (fun K hK => ?_); go_simp; refine hK _ ?_; clear hK K))
        refine Mono.wpM_look (.agg #[.bool al, .slice A1 xs.length c1, .int .u8 kx, .bool ex]) rfl rfl (fun w6 hc6 _ => ?_) ?_
        · have hcl0 : w6.cell? ⟨g7, 0, none⟩ = some (.bool al) := cell_of_row _ _ 0 _ 28 (0, 0) ((hc6.block _ (row_lt HE.out.1.o)).trans HE.out.1.o)
          have hcl1 : w6.cell? ⟨g7, 1, none⟩ = some (.slice A1 xs.length c1) := cell_of_row _ _ 1 _ 28 (0, 0) ((hc6.block _ (row_lt HE.out.1.o)).trans HE.out.1.o)
          have hcl2 : w6.cell? ⟨g7, 2, none⟩ = some (.int .u8 kx) := cell_of_row _ _ 2 _ 28 (0, 0) ((hc6.block _ (row_lt HE.out.1.o)).trans HE.out.1.o)
          have hcl3 : w6.cell? ⟨g7, 3, none⟩ = some (.bool ex) := cell_of_row _ _ 3 _ 28 (0, 0) ((hc6.block _ (row_lt HE.out.1.o)).trans HE.out.1.o)
          go_simp
        repeat (first | (refine Mono.wpM_skip rfl ?_) | (refine Mono.wpM_all rfl rfl (fun K hK => ?_); go_simp; refine hK _ ?_; clear hK K))
        refine Mono.wpM_look (.agg #[.bool al, .slice A1 xs.length c1, .int .u8 kx, .bool ex]) rfl rfl (fun w6 hc6 _ => ?_) ?_
        · have hcl0 : w6.cell? ⟨g7, 0, none⟩ = some (.bool al) := cell_of_row _ _ 0 _ 28 (0, 0) ((hc6.block _ (row_lt HE.out.1.o)).trans HE.out.1.o)
          have hcl1 : w6.cell? ⟨g7, 1, none⟩ = some (.slice A1 xs.length c1) := cell_of_row _ _ 1 _ 28 (0, 0) ((hc6.block _ (row_lt HE.out.1.o)).trans HE.out.1.o)
          have hcl2 : w6.cell? ⟨g7, 2, none⟩ = some (.int .u8 kx) := cell_of_row _ _ 2 _ 28 (0, 0) ((hc6.block _ (row_lt HE.out.1.o)).trans HE.out.1.o)
          have hcl3 : w6.cell? ⟨g7, 3, none⟩ = some (.bool ex) := cell_of_row _ _ 3 _ 28 (0, 0) ((hc6.block _ (row_lt HE.out.1.o)).trans HE.out.1.o)
          go_simp
        repeat (first | (refine Mono.wpM_skip rfl ?_) | (refine Mono.wpM_all rfl rfl (fun K hK => ?_); go_simp; refine hK _ ?_; clear hK K))
        refine Mono.wpM_eff rfl rfl (fun w9 hc9 _ => steps_enter (passV ⟨al, xs, kx, ex⟩ A1 c1 u9 txs w9 (HE.out.1.f.ext hc9) ⟨OX.out.k0, OX.out.k1⟩ (by simp only; omega) (HE.out.2.2.1.up hc9) HOK.out) (by go_simp; first | done | rfl | exact ⟨rfl, rfl⟩) (txs_val rfl rfl)) ?_
        rintro v3 -
        repeat (first | (refine Mono.wpM_skip rfl ?_) | (refine Mono.wpM_all rfl rfl (fun K hK => ?_); go_simp; refine hK _ ?_; clear hK K))
        refine Mono.wpM_eff rfl rfl (fun w9 hc9 hd => ?_) ?_
        · have d3 : TxsAt KP w9 v3 (txs.filterMap (txP ⟨al, xs, kx, ex⟩)) := hd ⟨3, .data⟩ (by simp) rfl
          exact steps_enter (passV ⟨al, xs, kx, ex⟩ A1 c1 v3 (txs.filterMap (txP ⟨al, xs, kx, ex⟩)) w9 (HE.out.1.f.ext hc9) ⟨OX.out.k0, OX.out.k1⟩ (by simp only; omega) d3 HK1.out) (by go_simp; first | done | rfl | exact ⟨rfl, rfl⟩) (txs_val (txs_idem ⟨al, xs, kx, ex⟩ txs) rfl)
        rintro v4 -
        repeat (first | (refine Mono.wpM_skip rfl ?_) | (refine Mono.wpM_all rfl rfl (fun K hK => ?_); go_simp; refine hK _ ?_; clear hK K))
        refine Mono.wpM_eff rfl rfl (fun w9 hc9 hd => ?_) ?_
        · have d4 : TxsAt KP w9 v4 (txs.filterMap (txP ⟨al, xs, kx, ex⟩)) := hd ⟨4, .data⟩ (by simp) rfl
          exact steps_enter (backV v4 (txs.filterMap (txP ⟨al, xs, kx, ex⟩)) w9 d4 HK1.out) (by go_simp; first | done | rfl | exact ⟨rfl, rfl⟩) (txs_val rfl rfl)
        rintro v5 -
        repeat (first | (refine Mono.wpM_skip rfl ?_) | (refine Mono.wpM_all rfl rfl (fun K hK => ?_); go_simp; refine hK _ ?_; clear hK K))
        refine Mono.wpM_eff rfl rfl (fun w9 hc9 hd => ?_) ?_
        · have d5 : TxsAt KR w9 v5 (txs.filterMap (txP ⟨al, xs, kx, ex⟩)) := hd ⟨5, .data⟩ (by simp) rfl
          exact steps_enter (sameV v5 v10 (txs.filterMap (txP ⟨al, xs, kx, ex⟩)) w9 d5 (HE.out.2.2.2.up hc9) HK1.out) (by go_simp; first | done | rfl | exact ⟨rfl, rfl⟩) (bool_val (Lib.hid rfl) rfl)
        rintro v7 ⟨wq, hq⟩
        obtain rfl : v7 = _ := hq
        clear wq
        repeat (first | (refine Mono.wpM_skip rfl ?_) | (refine Mono.wpM_all rfl rfl (fun K hK => ?_); go_simp; refine hK _ ?_; clear hK K))
        refine Mono.wpM_nil fun w10 hc10 _ => ?_
        go_wp2
        go_meet
        exact ⟨rfl, hc10⟩
      case rest =>
        obtain ⟨rfl, hb7⟩ := hcut
        obtain ⟨w7, rfl⟩ : ∃ w7 : World, w7 = wc := ⟨_, rfl⟩
        have HB7 := Lib.hid (HB6.out.trans (hb7.out.mono HB6.out.size))
        have HG := Lib.hid (show Bx w7 ⟨al, xs, kx, ex⟩ g7 A1 c1 ∧ Bx w7 ⟨be, ys, ky, ey⟩ g8 A3 c3 ∧ TxsAt KP w7 u9 txs from ⟨HE.out.1.up hb7.out, HE.out.2.1.up hb7.out, HE.out.2.2.1.up hb7.out⟩)
        have a3 : w7.cell? ⟨w.heap.size, 3, none⟩ = some (.bool ex) := cell_of_row _ _ 3 _ 24 (0, 0) ((hb7.out.block _ (row_lt S0.out)).trans S0.out)
        have b3 : w7.cell? ⟨w.heap.size + 1, 3, none⟩ = some (.bool ey) := cell_of_row _ _ 3 _ 24 (0, 0) ((hb7.out.block _ (row_lt S1.out)).trans S1.out)
        clear HE HB6 hb7 S0 S1
        by_cases hxy : ex = ey
        · subst hxy
          have p0 : w7.cell? ⟨g7, 0, none⟩ = some (.bool al) := cell_of_row _ _ 0 _ 28 (0, 0) HG.out.1.o
          have p1 : w7.cell? ⟨g7, 1, none⟩ = some (.slice A1 xs.length c1) := cell_of_row _ _ 1 _ 28 (0, 0) HG.out.1.o
          have p2 : w7.cell? ⟨g7, 2, none⟩ = some (.int .u8 kx) := cell_of_row _ _ 2 _ 28 (0, 0) HG.out.1.o
          have p3 : w7.cell? ⟨g7, 3, none⟩ = some (.bool ex) := cell_of_row _ _ 3 _ 28 (0, 0) HG.out.1.o
          have fzp : ∀ i, w7.frozen? ⟨g7, i, none⟩ = false := fun i => row_free HG.out.1.o i
          have q0 : w7.cell? ⟨g8, 0, none⟩ = some (.bool be) := cell_of_row _ _ 0 _ 28 (0, 0) HG.out.2.1.o
          have q1 : w7.cell? ⟨g8, 1, none⟩ = some (.slice A3 ys.length c3) := cell_of_row _ _ 1 _ 28 (0, 0) HG.out.2.1.o
          have q2 : w7.cell? ⟨g8, 2, none⟩ = some (.int .u8 ky) := cell_of_row _ _ 2 _ 28 (0, 0) HG.out.2.1.o
          have q3 : w7.cell? ⟨g8, 3, none⟩ = some (.bool ex) := cell_of_row _ _ 3 _ 28 (0, 0) HG.out.2.1.o
          have fzq : ∀ i, w7.frozen? ⟨g8, i, none⟩ = false := fun i => row_free HG.out.2.1.o i
          clear fzp fzq
          go_wp2_with fail
          refine (and_any ⟨al, xs, kx, ex⟩ ⟨be, ys, ky, ex⟩ A1 A3 c1 c3 w7 HG.out.1.f HG.out.2.1.f (by simp only; omega) (by simp only; omega)).mono ?_
          rintro e' w8 ⟨⟨ra, ro, rk, re⟩, ⟨u, rfl, hown, hb8⟩, hand⟩
          obtain ⟨Aa, ca, rfl, hfl⟩ := FlAt.of_own (f := ⟨ra, ro, rk, re⟩) hown
          have HAND := Lib.hid hand; have HFL := Lib.hid hfl
          have HB8 := Lib.hid (HB7.out.trans (hb8.mono HB7.out.size))
          have HH := Lib.hid (show Bx w8 ⟨al, xs, kx, ex⟩ g7 A1 c1 ∧ Bx w8 ⟨be, ys, ky, ex⟩ g8 A3 c3 ∧ TxsAt KP w8 u9 txs from ⟨HG.out.1.up hb8, HG.out.2.1.up hb8, HG.out.2.2.up hb8⟩)
          have hrl : ro.length ≤ 1000 := by
            have h : ro.length ≤ xs.length + ys.length := hand.len
            omega
          have HK2 := Lib.hid (HOK.out.pass ⟨ra, ro, rk, re⟩); have HK3 := Lib.hid (HOK.out.pass ⟨be, ys, ky, ex⟩)
          have HE1 := Lib.hid (txs_and hand OX.out OY.out rfl txs); have HE2 := Lib.hid (txs_and hand.comm OY.out OX.out rfl txs)
          clear hown hand hfl hb8 HG HB7 a3 b3 p0 p1 p2 p3 q0 q1 q2 q3
          unfold Fl.cells
          go_wp2_with fail
          refine (passV ⟨ra, ro, rk, re⟩ Aa ca u9 txs w8 HFL.out (FlOk.and HAND.out OX.out OY.out) (by simp only; omega) HH.out.2.2 HOK.out).mono ?_
          rintro e' w9 ⟨u55, rfl, ht55, hb9⟩
          have HT55 := Lib.hid ht55
          have HB9 := Lib.hid (HB8.out.trans (hb9.mono HB8.out.size))
          have HI := Lib.hid (show Bx w9 ⟨al, xs, kx, ex⟩ g7 A1 c1 ∧ Bx w9 ⟨be, ys, ky, ex⟩ g8 A3 c3 ∧ TxsAt KP w9 u9 txs from ⟨HH.out.1.up hb9, HH.out.2.1.up hb9, HH.out.2.2.up hb9⟩)
          clear ht55 hb9 HFL HH HB8 HAND
          go_wp2_with fail
          refine (backV u55 _ w9 HT55.out HK2.out).mono ?_
          rintro e' w10 ⟨v11, rfl, ht11, hb10⟩
          have HB10 := Lib.hid (HB9.out.trans (hb10.mono HB9.out.size))
          have HJ := Lib.hid (show Bx w10 ⟨al, xs, kx, ex⟩ g7 A1 c1 ∧ Bx w10 ⟨be, ys, ky, ex⟩ g8 A3 c3 ∧ TxsAt KP w10 u9 txs ∧ TxsAt KR w10 v11 (txs.filterMap (txP ⟨ra, ro, rk, re⟩)) from ⟨HI.out.1.up hb10, HI.out.2.1.up hb10, HI.out.2.2.up hb10, ht11⟩)
          clear ht11 hb10 HI HB9 HT55
          go_wp2_with fail
          refine wp_region_fx (twF10 (txs.filterMap (txP ⟨al, xs, kx, ex⟩)) (txs.filterMap (txP ⟨be, ys, ky, ex⟩)) (txs.filterMap (txP ⟨ra, ro, rk, re⟩))) (by kernel_rfl) (by kernel_rfl) ?_
          (refine Mono.wpM_norm (fun K hK => ?_); go_simp; refine hK _ ?_; clear hK K); repeat (first | (refine Mono.wpM_all rfl rfl (fun K hK => ?_); go_simp; refine hK _ ?_; clear hK K) | (refine Mono.wpM_skip rfl ?_; refine Mono.wpM_norm (fun K hK => ?_); go_simp; refine hK _ ?_; clear hK K))
          refine Mono.wpM_look (.agg #[.bool be, .slice A3 ys.length c3, .int .u8 ky, .bool ex]) rfl rfl (fun w6 hc6 _ => ?_) ?_
          · have hcl0 : w6.cell? ⟨g8, 0, none⟩ = some (.bool be) := cell_of_row _ _ 0 _ 28 (0, 0) ((hc6.block _ (row_lt HJ.out.2.1.o)).trans HJ.out.2.1.o)
            have hcl1 : w6.cell? ⟨g8, 1, none⟩ = some (.slice A3 ys.length c3) := cell_of_row _ _ 1 _ 28 (0, 0) ((hc6.block _ (row_lt HJ.out.2.1.o)).trans HJ.out.2.1.o)
            have hcl2 : w6.cell? ⟨g8, 2, none⟩ = some (.int .u8 ky) := cell_of_row _ _ 2 _ 28 (0, 0) ((hc6.block _ (row_lt HJ.out.2.1.o)).trans HJ.out.2.1.o)
            have hcl3 : w6.cell? ⟨g8, 3, none⟩ = some (.bool ex) := cell_of_row _ _ 3 _ 28 (0, 0) ((hc6.block _ (row_lt HJ.out.2.1.o)).trans HJ.out.2.1.o)
            go_simp
          (refine Mono.wpM_norm (fun K hK => ?_); go_simp; refine hK _ ?_; clear hK K); repeat (first | (refine Mono.wpM_all rfl rfl (fun K hK => ?_); go_simp; refine hK _ ?_; clear hK K) | (refine Mono.wpM_skip rfl ?_; refine Mono.wpM_norm (fun K hK => ?_); go_simp; refine hK _ ?_; clear hK K))
          refine Mono.wpM_look (.agg #[.bool al, .slice A1 xs.length c1, .int .u8 kx, .bool ex]) rfl rfl (fun w6 hc6 _ => ?_) ?_
          · have hcl0 : w6.cell? ⟨g7, 0, none⟩ = some (.bool al) := cell_of_row _ _ 0 _ 28 (0, 0) ((hc6.block _ (row_lt HJ.out.1.o)).trans HJ.out.1.o)
            have hcl1 : w6.cell? ⟨g7, 1, none⟩ = some (.slice A1 xs.length c1) := cell_of_row _ _ 1 _ 28 (0, 0) ((hc6.block _ (row_lt HJ.out.1.o)).trans HJ.out.1.o)
            have hcl2 : w6.cell? ⟨g7, 2, none⟩ = some (.int .u8 kx) := cell_of_row _ _ 2 _ 28 (0, 0) ((hc6.block _ (row_lt HJ.out.1.o)).trans HJ.out.1.o)
            have hcl3 : w6.cell? ⟨g7, 3, none⟩ = some (.bool ex) := cell_of_row _ _ 3 _ 28 (0, 0) ((hc6.block _ (row_lt HJ.out.1.o)).trans HJ.out.1.o)
            go_simp
          (refine Mono.wpM_norm (fun K hK => ?_); go_simp; refine hK _ ?_; clear hK K); repeat (first | (refine Mono.wpM_all rfl rfl (fun K hK => ?_); go_simp; refine hK _ ?_; clear hK K) | (refine Mono.wpM_skip rfl ?_; refine Mono.wpM_norm (fun K hK => ?_); go_simp; refine hK _ ?_; clear hK K))
          refine Mono.wpM_eff rfl rfl (fun w9 hc9 _ => steps_enter (passV ⟨al, xs, kx, ex⟩ A1 c1 u9 txs w9 (HJ.out.1.f.ext hc9) ⟨OX.out.k0, OX.out.k1⟩ (by simp only; omega) (HJ.out.2.2.1.up hc9) HOK.out) (by go_simp; first | done | rfl | exact ⟨rfl, rfl⟩) (txs_val rfl rfl)) ?_
          rintro v3 -
          (refine Mono.wpM_norm (fun K hK => ?_); go_simp; refine hK _ ?_; clear hK K); repeat (first | (refine Mono.wpM_all rfl rfl (fun K hK => ?_); go_simp; refine hK _ ?_; clear hK K) | (refine Mono.wpM_skip rfl ?_; refine Mono.wpM_norm (fun K hK => ?_); go_simp; refine hK _ ?_; clear hK K))
          refine Mono.wpM_eff rfl rfl (fun w9 hc9 hd => ?_) ?_
          · have d3 : TxsAt KP w9 v3 (txs.filterMap (txP ⟨al, xs, kx, ex⟩)) := hd ⟨3, .data⟩ (by simp) rfl
            exact steps_enter (passV ⟨be, ys, ky, ex⟩ A3 c3 v3 (txs.filterMap (txP ⟨al, xs, kx, ex⟩)) w9 (HJ.out.2.1.f.ext hc9) ⟨OY.out.k0, OY.out.k1⟩ (by simp only; omega) d3 HK1.out) (by go_simp; first | done | rfl | exact ⟨rfl, rfl⟩) (txs_val HE1.out rfl)
          rintro v4 -
          (refine Mono.wpM_norm (fun K hK => ?_); go_simp; refine hK _ ?_; clear hK K); repeat (first | (refine Mono.wpM_all rfl rfl (fun K hK => ?_); go_simp; refine hK _ ?_; clear hK K) | (refine Mono.wpM_skip rfl ?_; refine Mono.wpM_norm (fun K hK => ?_); go_simp; refine hK _ ?_; clear hK K))
          refine Mono.wpM_eff rfl rfl (fun w9 hc9 hd => ?_) ?_
          · have d4 : TxsAt KP w9 v4 (txs.filterMap (txP ⟨ra, ro, rk, re⟩)) := hd ⟨4, .data⟩ (by simp) rfl
            exact steps_enter (backV v4 (txs.filterMap (txP ⟨ra, ro, rk, re⟩)) w9 d4 HK2.out) (by go_simp; first | done | rfl | exact ⟨rfl, rfl⟩) (txs_val rfl rfl)
          rintro v5 -
          (refine Mono.wpM_norm (fun K hK => ?_); go_simp; refine hK _ ?_; clear hK K); repeat (first | (refine Mono.wpM_all rfl rfl (fun K hK => ?_); go_simp; refine hK _ ?_; clear hK K) | (refine Mono.wpM_skip rfl ?_; refine Mono.wpM_norm (fun K hK => ?_); go_simp; refine hK _ ?_; clear hK K))
          refine Mono.wpM_eff rfl rfl (fun w9 hc9 hd => ?_) ?_
          · have d5 : TxsAt KR w9 v5 (txs.filterMap (txP ⟨ra, ro, rk, re⟩)) := hd ⟨5, .data⟩ (by simp) rfl
            exact steps_enter (sameV v5 v11 (txs.filterMap (txP ⟨ra, ro, rk, re⟩)) w9 d5 (HJ.out.2.2.2.up hc9) HK2.out) (by go_simp; first | done | rfl | exact ⟨rfl, rfl⟩) (bool_val (Lib.hid rfl) rfl)
          rintro v7 ⟨wq, hq⟩
          obtain rfl : v7 = _ := hq
          clear wq
          (refine Mono.wpM_norm (fun K hK => ?_); go_simp; refine hK _ ?_; clear hK K); repeat (first | (refine Mono.wpM_all rfl rfl (fun K hK => ?_); go_simp; refine hK _ ?_; clear hK K) | (refine Mono.wpM_skip rfl ?_; refine Mono.wpM_norm (fun K hK => ?_); go_simp; refine hK _ ?_; clear hK K))
          refine Mono.wpM_look (.agg #[.bool al, .slice A1 xs.length c1, .int .u8 kx, .bool ex]) rfl rfl (fun w6 hc6 _ => ?_) ?_
          · have hcl0 : w6.cell? ⟨g7, 0, none⟩ = some (.bool al) := cell_of_row _ _ 0 _ 28 (0, 0) ((hc6.block _ (row_lt HJ.out.1.o)).trans HJ.out.1.o)
            have hcl1 : w6.cell? ⟨g7, 1, none⟩ = some (.slice A1 xs.length c1) := cell_of_row _ _ 1 _ 28 (0, 0) ((hc6.block _ (row_lt HJ.out.1.o)).trans HJ.out.1.o)
            have hcl2 : w6.cell? ⟨g7, 2, none⟩ = some (.int .u8 kx) := cell_of_row _ _ 2 _ 28 (0, 0) ((hc6.block _ (row_lt HJ.out.1.o)).trans HJ.out.1.o)
            have hcl3 : w6.cell? ⟨g7, 3, none⟩ = some (.bool ex) := cell_of_row _ _ 3 _ 28 (0, 0) ((hc6.block _ (row_lt HJ.out.1.o)).trans HJ.out.1.o)
            go_simp
          (refine Mono.wpM_norm (fun K hK => ?_); go_simp; refine hK _ ?_; clear hK K); repeat (first | (refine Mono.wpM_all rfl rfl (fun K hK => ?_); go_simp; refine hK _ ?_; clear hK K) | (refine Mono.wpM_skip rfl ?_; refine Mono.wpM_norm (fun K hK => ?_); go_simp; refine hK _ ?_; clear hK K))
          refine Mono.wpM_look (.agg #[.bool be, .slice A3 ys.length c3, .int .u8 ky, .bool ex]) rfl rfl (fun w6 hc6 _ => ?_) ?_
          · have hcl0 : w6.cell? ⟨g8, 0, none⟩ = some (.bool be) := cell_of_row _ _ 0 _ 28 (0, 0) ((hc6.block _ (row_lt HJ.out.2.1.o)).trans HJ.out.2.1.o)
            have hcl1 : w6.cell? ⟨g8, 1, none⟩ = some (.slice A3 ys.length c3) := cell_of_row _ _ 1 _ 28 (0, 0) ((hc6.block _ (row_lt HJ.out.2.1.o)).trans HJ.out.2.1.o)
            have hcl2 : w6.cell? ⟨g8, 2, none⟩ = some (.int .u8 ky) := cell_of_row _ _ 2 _ 28 (0, 0) ((hc6.block _ (row_lt HJ.out.2.1.o)).trans HJ.out.2.1.o)
            have hcl3 : w6.cell? ⟨g8, 3, none⟩ = some (.bool ex) := cell_of_row _ _ 3 _ 28 (0, 0) ((hc6.block _ (row_lt HJ.out.2.1.o)).trans HJ.out.2.1.o)
            go_simp
          (refine Mono.wpM_norm (fun K hK => ?_); go_simp; refine hK _ ?_; clear hK K); repeat (first | (refine Mono.wpM_all rfl rfl (fun K hK => ?_); go_simp; refine hK _ ?_; clear hK K) | (refine Mono.wpM_skip rfl ?_; refine Mono.wpM_norm (fun K hK => ?_); go_simp; refine hK _ ?_; clear hK K))
          refine Mono.wpM_eff rfl rfl (fun w9 hc9 _ => steps_enter (passV ⟨be, ys, ky, ex⟩ A3 c3 u9 txs w9 (HJ.out.2.1.f.ext hc9) ⟨OY.out.k0, OY.out.k1⟩ (by simp only; omega) (HJ.out.2.2.1.up hc9) HOK.out) (by go_simp; first | done | rfl | exact ⟨rfl, rfl⟩) (txs_val rfl rfl)) ?_
          rintro v12 -
          (refine Mono.wpM_norm (fun K hK => ?_); go_simp; refine hK _ ?_; clear hK K); repeat (first | (refine Mono.wpM_all rfl rfl (fun K hK => ?_); go_simp; refine hK _ ?_; clear hK K) | (refine Mono.wpM_skip rfl ?_; refine Mono.wpM_norm (fun K hK => ?_); go_simp; refine hK _ ?_; clear hK K))
          refine Mono.wpM_eff rfl rfl (fun w9 hc9 hd => ?_) ?_
          · have d12 : TxsAt KP w9 v12 (txs.filterMap (txP ⟨be, ys, ky, ex⟩)) := hd ⟨12, .data⟩ (by simp) rfl
            exact steps_enter (passV ⟨al, xs, kx, ex⟩ A1 c1 v12 (txs.filterMap (txP ⟨be, ys, ky, ex⟩)) w9 (HJ.out.1.f.ext hc9) ⟨OX.out.k0, OX.out.k1⟩ (by simp only; omega) d12 HK3.out) (by go_simp; first | done | rfl | exact ⟨rfl, rfl⟩) (txs_val HE2.out rfl)
          rintro v13 -
          (refine Mono.wpM_norm (fun K hK => ?_); go_simp; refine hK _ ?_; clear hK K); repeat (first | (refine Mono.wpM_all rfl rfl (fun K hK => ?_); go_simp; refine hK _ ?_; clear hK K) | (refine Mono.wpM_skip rfl ?_; refine Mono.wpM_norm (fun K hK => ?_); go_simp; refine hK _ ?_; clear hK K))
          refine Mono.wpM_eff rfl rfl (fun w9 hc9 hd => ?_) ?_
          · have d13 : TxsAt KP w9 v13 (txs.filterMap (txP ⟨ra, ro, rk, re⟩)) := hd ⟨13, .data⟩ (by simp) rfl
            exact steps_enter (backV v13 (txs.filterMap (txP ⟨ra, ro, rk, re⟩)) w9 d13 HK2.out) (by go_simp; first | done | rfl | exact ⟨rfl, rfl⟩) (txs_val rfl rfl)
          rintro v14 -
          (refine Mono.wpM_norm (fun K hK => ?_); go_simp; refine hK _ ?_; clear hK K); repeat (first | (refine Mono.wpM_all rfl rfl (fun K hK => ?_); go_simp; refine hK _ ?_; clear hK K) | (refine Mono.wpM_skip rfl ?_; refine Mono.wpM_norm (fun K hK => ?_); go_simp; refine hK _ ?_; clear hK K))
          refine Mono.wpM_eff rfl rfl (fun w9 hc9 hd => ?_) ?_
          · have d14 : TxsAt KR w9 v14 (txs.filterMap (txP ⟨ra, ro, rk, re⟩)) := hd ⟨14, .data⟩ (by simp) rfl
            exact steps_enter (sameV v14 v11 (txs.filterMap (txP ⟨ra, ro, rk, re⟩)) w9 d14 (HJ.out.2.2.2.up hc9) HK2.out) (by go_simp; first | done | rfl | exact ⟨rfl, rfl⟩) (bool_val (Lib.hid rfl) rfl)
          rintro v16 ⟨wq, hq⟩
          obtain rfl : v16 = _ := hq
          clear wq
          (refine Mono.wpM_norm (fun K hK => ?_); go_simp; refine hK _ ?_; clear hK K); repeat (first | (refine Mono.wpM_all rfl rfl (fun K hK => ?_); go_simp; refine hK _ ?_; clear hK K) | (refine Mono.wpM_skip rfl ?_; refine Mono.wpM_norm (fun K hK => ?_); go_simp; refine hK _ ?_; clear hK K))
          refine Mono.wpM_eff rfl rfl (fun w9 hc9 _ => steps_enter (awake_any w9) (by go_simp; first | done | rfl | exact ⟨rfl, rfl⟩) (bool_val (Lib.hid rfl) rfl)) ?_
          rintro v19 ⟨wq, hq⟩
          obtain rfl : v19 = _ := hq
          clear wq
          (refine Mono.wpM_norm (fun K hK => ?_); go_simp; refine hK _ ?_; clear hK K); repeat (first | (refine Mono.wpM_all rfl rfl (fun K hK => ?_); go_simp; refine hK _ ?_; clear hK K) | (refine Mono.wpM_skip rfl ?_; refine Mono.wpM_norm (fun K hK => ?_); go_simp; refine hK _ ?_; clear hK K))
          refine Mono.wpM_nil fun w12 hc12 _ => ?_
          have HB12 := Lib.hid (HB10.out.trans (hc12.mono HB10.out.size))
          go_wp2
          go_ret
          exact ⟨rfl, HB12.out⟩
        · cases ex <;> cases ey <;> first | exact absurd rfl hxy | skip
          · clear hxy
            go_wp2_with fail
            refine (awake_any w7).mono ?_
            rintro e' w8 ⟨rfl, hb8⟩
            have HB8 := Lib.hid (HB7.out.trans (hb8.mono HB7.out.size))
            clear hb8
            go_wp2
            go_ret
            exact ⟨rfl, HB8.out⟩
          · clear hxy
            go_wp2_with fail
            refine (awake_any w7).mono ?_
            rintro e' w8 ⟨rfl, hb8⟩
            have HB8 := Lib.hid (HB7.out.trans (hb8.mono HB7.out.size))
            clear hb8
            go_wp2
            go_ret
            exact ⟨rfl, HB8.out⟩
  · clear hb3 hg
    go_wp2
    go_ret
    exact ⟨rfl, HB.out⟩
end Go.Proofs.Ytaaijgalminafaa
