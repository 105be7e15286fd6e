/-
  Layer 8: RelTells, the walk.
-/
import Derived.Test.YtcblmcpmdpnlbaaReF
namespace Go.Proofs.Ytcblmcpmdpnlbaa
open Go.RowKit State Mem
attribute [local go_sem] Mono.pureAt Mono.pureUpon
attribute [local irreducible] State.acts State.wpM Mono.steps Mono.wpM

theorem inf69 : ∃ i, Try.prog.info? 69 = some i := Option.isSome_iff_exists.1 (by kernel_rfl)
theorem cellsOf69 : Try.prog.cellsOf 69 = 5 := by kernel_rfl
theorem cells5 (a b d : Int) (n : ByteArray) (p : Option Addr) (q r : Nat) : (Value.agg #[.int .u32 a, .int .u32 b, .string n, .int .u8 d, .slice p q r]).cells = #[.int .u32 a, .int .u32 b, .string n, .int .u8 d, .slice p q r] := by simp [Value.cells]
theorem run_storeAt_cells {P : Program} {w : World} {t : TypeId} {i : TypeInfo} {v : Value} {cs : Array Value} (hv : v.cells = cs) (hi : P.info? t = some i) {g : Nat} {cur : Array Value} {te : TypeId} (hg : w.heap[g]? = some (.cells cur te (0, 0)))
    (hsz : cs.size = P.cellsOf t) (hl : cs.size = cur.size) (h1 : ∀ u ∈ cs.toList, u.oneCell' = true) :
    (Instr.storeAt t (.pointer (some ⟨g, 0, none⟩)) v).run P w = .ok () (w.setRow g cs) := by
  subst hv; exact run_storeAt_whole hi hg hsz hl h1
def teL (B : Nat) (a b : Rl) : List (Nat × Kind) := [(1, .sup (supRl B 82 a)), (3, .sup (supRl B 82 b)), (4, .box 5 69), (5, .box 5 69), (6, .store 4 (.ans 1)), (7, .store 5 (.ans 3))]

set_option maxRecDepth 100000 in
set_option maxHeartbeats 6400000 in
theorem relTells_walk (a b : Rl) (A : Option Addr) (c : Nat) (A' : Option Addr) (c' : Nat) (W : World) (hA : RlAt W W.heap.size a A c) (hA' : RlAt W W.heap.size b A' c') (oa : RlOk a) (ob : RlOk b) :
    Calls Try.prog 10 #[a.v A c, b.v A' c'] W (RetB true W) := by
  refine Rnd.calls_of_wp_marks Try.func10 rfl ?_
  simp only [Try.ntmps10, List.size_toArray, List.length_cons, List.length_nil, Nat.reduceAdd, Nat.reduceSub, Array.replicate_succ, Array.replicate_zero, List.push_toArray, List.append_toArray, List.nil_append, List.cons_append]
  have ea := Rl.v_cells a A c
  have eb := Rl.v_cells b A' c'
  have la := hA.lc
  have lb := hA'.lc
  have lca := hA.cm
  have lcb := hA'.cm
  obtain ⟨o1, v1, n1, i1, l1⟩ := a
  obtain ⟨o2, v2, n2, i2, l2⟩ := b
  rw [ea, eb]
  simp only [Rl.cells] at *
  clear ea eb
  have T0 : Tl ⟨o1, v1, n1, i1, l1⟩ ⟨o2, v2, n2, i2, l2⟩ A c A' c' false W (((W.alloc (.cells #[.int .u32 (o1 : Int), .int .u32 (v1 : Int), .string n1, .int .u8 (i1 : Int), .slice A l1.length c] 65)).alloc (.cells #[.int .u32 (o2 : Int), .int .u32 (v2 : Int), .string n2, .int .u8 (i2 : Int), .slice A' l2.length c'] 65)).alloc (.cells #[.bool false] 4)) := by
    refine ⟨(((Below.refl _ W).alloc (Nat.le_refl _) _).alloc (by simp) _).alloc (by simp; omega) _, ?_, ?_, ?_⟩
    · rw [Below.heap_alloc _ _ _ (by simp; omega), Below.heap_alloc _ _ _ (by simp)]; exact heap_alloc_new W _
    · rw [Below.heap_alloc _ _ _ (by simp)]; have := heap_alloc_new (W.alloc (.cells #[.int .u32 (o1 : Int), .int .u32 (v1 : Int), .string n1, .int .u8 (i1 : Int), .slice A l1.length c] 65)) (.cells #[.int .u32 (o2 : Int), .int .u32 (v2 : Int), .string n2, .int .u8 (i2 : Int), .slice A' l2.length c'] 65); rwa [World.size_alloc] at this
    · have := heap_alloc_new ((W.alloc (.cells #[.int .u32 (o1 : Int), .int .u32 (v1 : Int), .string n1, .int .u8 (i1 : Int), .slice A l1.length c] 65)).alloc (.cells #[.int .u32 (o2 : Int), .int .u32 (v2 : Int), .string n2, .int .u8 (i2 : Int), .slice A' l2.length c'] 65)) (.cells #[.bool false] 4); rwa [World.size_alloc, World.size_alloc] at this
  go_wp2_with fail
  generalize ((W.alloc _).alloc _).alloc _ = w1 at *
  refine (great_any ⟨o1, v1, n1, i1, l1⟩ A c _ (hA.rd.up T0.lo (Nat.le_refl _) T0.lo.size) (by simp only; omega) oa.nm oa.nms).mono ?_
  rintro e w2 ⟨rfl, hb2⟩
  have T2 := T0.up hb2
  clear T0
  cases hg1 : Rl.great ⟨o1, v1, n1, i1, l1⟩
  · have hgr1 := Lib.hid hg1; clear hg1
    have b0 : w2.cell? ⟨W.heap.size + 1, 0, none⟩ = some (.int .u32 (o2 : Int)) := cell_of_row _ _ 0 _ _ (0, 0) T2.gb
    have b1 : w2.cell? ⟨W.heap.size + 1, 1, none⟩ = some (.int .u32 (v2 : Int)) := cell_of_row _ _ 1 _ _ (0, 0) T2.gb
    have b2 : w2.cell? ⟨W.heap.size + 1, 2, none⟩ = some (.string n2) := cell_of_row _ _ 2 _ _ (0, 0) T2.gb
    have b3 : w2.cell? ⟨W.heap.size + 1, 3, none⟩ = some (.int .u8 (i2 : Int)) := cell_of_row _ _ 3 _ _ (0, 0) T2.gb
    have b4 : w2.cell? ⟨W.heap.size + 1, 4, none⟩ = some (.slice A' l2.length c') := cell_of_row _ _ 4 _ _ (0, 0) T2.gb
    have HT2 := Lib.hid T2; clear T2
    go_wp2_with fail
    have T2 := HT2.out
    refine (great_any ⟨o2, v2, n2, i2, l2⟩ A' c' _ (hA'.rd.up T2.lo (Nat.le_refl _) T2.lo.size) (by simp only; omega) ob.nm ob.nms).mono ?_
    rintro e w3 ⟨rfl, hb3⟩
    have T3 := T2.up hb3
    clear T2 HT2 hb3 b0 b1 b2 b3 b4
    cases hg2 : Rl.great ⟨o2, v2, n2, i2, l2⟩
    · have hgr2 := Lib.hid hg2; clear hg2
      have hsm : l1.length ≤ 30 ∧ l2.length ≤ 30 := by
        have h1 := hgr1.out
        have h2 := hgr2.out
        unfold Rl.great at h1 h2
        simp at h1 h2
        omega
      obtain ⟨hs1, hs2⟩ := hsm
      obtain ⟨i69, hi69⟩ := inf69
      have HI := Lib.hid hi69; clear hi69
      have hT3s := T3.lo.size
      have HT3 := Lib.hid T3; clear T3
      go_wp2_with fail
      refine wp_region_mem (teL w3.heap.size ⟨o1, v1, n1, i1, l1⟩ ⟨o2, v2, n2, i2, l2⟩) (by kernel_rfl) (by kernel_rfl) (by kernel_rfl) (by kernel_rfl) (fun hM hO => ?_)
      refine State.wpM_look (.agg #[.int .u32 (o1 : Int), .int .u32 (v1 : Int), .string n1, .int .u8 (i1 : Int), .slice A l1.length c]) rfl rfl (fun F' w5 hC _ _ => ?_) ?_
      · have hh := (hC.b.block _ (Array.getElem?_eq_some_iff.1 HT3.out.ga).1).trans HT3.out.ga
        have q0 : w5.cell? ⟨W.heap.size, 0, none⟩ = some (.int .u32 (o1 : Int)) := cell_of_row _ _ 0 _ _ (0, 0) hh
        have q1 : w5.cell? ⟨W.heap.size, 1, none⟩ = some (.int .u32 (v1 : Int)) := cell_of_row _ _ 1 _ _ (0, 0) hh
        have q2 : w5.cell? ⟨W.heap.size, 2, none⟩ = some (.string n1) := cell_of_row _ _ 2 _ _ (0, 0) hh
        have q3 : w5.cell? ⟨W.heap.size, 3, none⟩ = some (.int .u8 (i1 : Int)) := cell_of_row _ _ 3 _ _ (0, 0) hh
        have q4 : w5.cell? ⟨W.heap.size, 4, none⟩ = some (.slice A l1.length c) := cell_of_row _ _ 4 _ _ (0, 0) hh
        clear hh
        go_simp
      refine State.wpM_act rfl rfl (fun F' w5 hC h0 ha _ => acts_sup hM rfl hC ha (own_any ⟨o1, v1, n1, i1, l1⟩ A c w5 (hA.rd.up (HT3.out.lo.trans (hC.b.mono hT3s)) (Nat.le_refl _) (by have := hC.b.size; omega)) (by simp only; omega)) (by go_simp; rfl) (retRl_sup hC.b.size)) ?_
      intro v1' ⟨w5, hC5⟩
      obtain ⟨S5, ⟨col1, rfl, hw1, -⟩, -⟩ := hC5.sup 1 _ rfl v1' (by simp [State.upd])
      obtain ⟨A1, c1, rfl, -, -, -⟩ := Rd.of_own hw1
      clear hC5 hw1 w5 S5
      refine State.wpM_look (.agg #[.int .u32 (o2 : Int), .int .u32 (v2 : Int), .string n2, .int .u8 (i2 : Int), .slice A' l2.length c']) rfl rfl (fun F' w5 hC _ _ => ?_) ?_
      · have hh := (hC.b.block _ (Array.getElem?_eq_some_iff.1 HT3.out.gb).1).trans HT3.out.gb
        have q0 : w5.cell? ⟨W.heap.size + 1, 0, none⟩ = some (.int .u32 (o2 : Int)) := cell_of_row _ _ 0 _ _ (0, 0) hh
        have q1 : w5.cell? ⟨W.heap.size + 1, 1, none⟩ = some (.int .u32 (v2 : Int)) := cell_of_row _ _ 1 _ _ (0, 0) hh
        have q2 : w5.cell? ⟨W.heap.size + 1, 2, none⟩ = some (.string n2) := cell_of_row _ _ 2 _ _ (0, 0) hh
        have q3 : w5.cell? ⟨W.heap.size + 1, 3, none⟩ = some (.int .u8 (i2 : Int)) := cell_of_row _ _ 3 _ _ (0, 0) hh
        have q4 : w5.cell? ⟨W.heap.size + 1, 4, none⟩ = some (.slice A' l2.length c') := cell_of_row _ _ 4 _ _ (0, 0) hh
        clear hh
        go_simp
      refine State.wpM_act rfl rfl (fun F' w5 hC h0 ha _ => acts_sup hM rfl hC ha (own_any ⟨o2, v2, n2, i2, l2⟩ A' c' w5 (hA'.rd.up (HT3.out.lo.trans (hC.b.mono hT3s)) (Nat.le_refl _) (by have := hC.b.size; omega)) (by simp only; omega)) (by go_simp; rfl) (retRl_sup hC.b.size)) ?_
      intro v3' ⟨w5, hC5⟩
      obtain ⟨S5, ⟨col2, rfl, hw1, -⟩, -⟩ := hC5.sup 3 _ rfl v3' (by simp [State.upd])
      obtain ⟨A2, c2, rfl, -, -, -⟩ := Rd.of_own hw1
      clear hC5 hw1 w5 S5
      refine State.wpM_act rfl rfl (fun F' w hC h0 ha _ => acts_box hM rfl hC h0 ha (cs := #[.int .u32 0, .int .u32 0, .string ⟨#[]⟩, .int .u8 0, .slice none 0 0]) rfl (by go_simp)) ?_
      intro v4 ⟨w4, hC4⟩
      obtain ⟨g4, -, rfl, -⟩ := hC4.box 4 5 69 rfl v4 (by simp [State.upd])
      clear hC4 w4
      refine State.wpM_act rfl rfl (fun F' w hC h0 ha _ => acts_box hM rfl hC h0 ha (cs := #[.int .u32 0, .int .u32 0, .string ⟨#[]⟩, .int .u8 0, .slice none 0 0]) rfl (by go_simp)) ?_
      intro v5 ⟨w5, hC5⟩
      obtain ⟨g5, -, rfl, -⟩ := hC5.box 5 5 69 rfl v5 (by simp [State.upd])
      clear hC5 w5
      refine State.wpM_act rfl rfl (fun F' w hC h0 ha hA => ?_) ?_
      · have hAj := hA ⟨4, .data⟩ (by simp) rfl
        have hAc := hA ⟨1, .data⟩ (by simp) rfl
        clear hA
        refine acts_store hM hO (j := 4) (c := .ans 1) (n := 5) (g := g4) (t := 69) (cs := #[.int .u32 (o1 : Int), .int .u32 (v1 : Int), .string n1, .int .u8 (i1 : Int), .slice A1 l1.length c1]) rfl rfl hC ha hAj ⟨_, hAc, (cells5 ..).symm⟩ rfl (fun cur hh hz => ?_)
        refine run_op_store (t := 69) (x := .tmp 5) (y := .tmp 24) rfl ?_
        skip
        go_simp
        exact run_storeAt_cells (cells5 ..) HI.out hh cellsOf69.symm hz.symm (by simp [Value.oneCell'])
      rintro v6 -
      refine State.wpM_act rfl rfl (fun F' w hC h0 ha hA => ?_) ?_
      · have hAj := hA ⟨5, .data⟩ (by simp) rfl
        have hAc := hA ⟨3, .data⟩ (by simp) rfl
        clear hA
        refine acts_store hM hO (j := 5) (c := .ans 3) (n := 5) (g := g5) (t := 69) (cs := #[.int .u32 (o2 : Int), .int .u32 (v2 : Int), .string n2, .int .u8 (i2 : Int), .slice A2 l2.length c2]) rfl rfl hC ha hAj ⟨_, hAc, (cells5 ..).symm⟩ rfl (fun cur hh hz => ?_)
        refine run_op_store (t := 69) (x := .tmp 6) (y := .tmp 26) rfl ?_
        skip
        go_simp
        exact run_storeAt_cells (cells5 ..) HI.out hh cellsOf69.symm hz.symm (by simp [Value.oneCell'])
      rintro v7 -
      refine State.wpM_nil fun w4 hC => ?_
      have T4 : Tm ⟨o1, v1, n1, i1, l1⟩ ⟨o2, v2, n2, i2, l2⟩ A c A' c' A1 c1 A2 c2 g4 g5 W w4 := by
        have r4 := hC.store_ans (i := 6) (j := 4) (k := 1) (n := 5) (t := 69) rfl rfl (u := v6) (by simp [State.upd]) (g := g4) (by simp [State.upd]) (v := .agg (Rl.cells ⟨o1, v1, n1, i1, l1⟩ (.slice A1 l1.length c1))) (by simp [State.upd])
        have r5 := hC.store_ans (i := 7) (j := 5) (k := 3) (n := 5) (t := 69) rfl rfl (u := v7) (by simp [State.upd]) (g := g5) (by simp [State.upd]) (v := .agg (Rl.cells ⟨o2, v2, n2, i2, l2⟩ (.slice A2 l2.length c2))) (by simp [State.upd])
        rw [Rl.cells_cells] at r4 r5
        obtain ⟨S1, s1, -⟩ := hC.sup 1 _ rfl (.agg (Rl.cells ⟨o1, v1, n1, i1, l1⟩ (.slice A1 l1.length c1))) (by simp [State.upd])
        obtain ⟨S3, s3, -⟩ := hC.sup 3 _ rfl (.agg (Rl.cells ⟨o2, v2, n2, i2, l2⟩ (.slice A2 l2.length c2))) (by simp [State.upd])
        exact ⟨HT3.out.up hC.b, r4, r5, supRl_at (A := A1) (c := c1) s1, supRl_at (A := A2) (c := c2) s3⟩
      clear hC hM hO HI HT3 hT3s
      obtain ⟨ρ, ha1, ha2, hρ, hor⟩ : ∃ p : Bool × Bool × Int, aheadB o1 v1 o2 v2 = p.1 ∧ aheadB o2 v2 o1 v1 = p.2.1 ∧ refc (o1, v1) (o2, v2) = p.2.2 ∧ (p = (true, false, -1) ∨ p = (false, false, 0) ∨ p = (false, true, 1)) := by
        rcases refc_cases o1 v1 o2 v2 with ⟨h, e, -⟩ | ⟨h, e, -⟩ | ⟨h, e, -⟩
        · exact ⟨(true, false, -1), by unfold aheadB; simpa using h, by unfold aheadB; simp; omega, e, .inl rfl⟩
        · exact ⟨(false, false, 0), by unfold aheadB; simp; omega, by unfold aheadB; simp; omega, e, .inr (.inl rfl)⟩
        · exact ⟨(false, true, 1), by unfold aheadB; simp; omega, by unfold aheadB; simp; omega, e, .inr (.inr rfl)⟩
      have x0 : w4.cell? ⟨g4, 0, none⟩ = some (.int .u32 (o1 : Int)) := cell_of_row _ _ 0 _ _ (0, 0) T4.gx
      have x1 : w4.cell? ⟨g4, 1, none⟩ = some (.int .u32 (v1 : Int)) := cell_of_row _ _ 1 _ _ (0, 0) T4.gx
      have x2 : w4.cell? ⟨g4, 2, none⟩ = some (.string n1) := cell_of_row _ _ 2 _ _ (0, 0) T4.gx
      have x3 : w4.cell? ⟨g4, 3, none⟩ = some (.int .u8 (i1 : Int)) := cell_of_row _ _ 3 _ _ (0, 0) T4.gx
      have x4 : w4.cell? ⟨g4, 4, none⟩ = some (.slice A1 l1.length c1) := cell_of_row _ _ 4 _ _ (0, 0) T4.gx
      have a0 : w4.cell? ⟨W.heap.size, 0, none⟩ = some (.int .u32 (o1 : Int)) := cell_of_row _ _ 0 _ _ (0, 0) T4.t.ga
      have a1 : w4.cell? ⟨W.heap.size, 1, none⟩ = some (.int .u32 (v1 : Int)) := cell_of_row _ _ 1 _ _ (0, 0) T4.t.ga
      have a2 : w4.cell? ⟨W.heap.size, 2, none⟩ = some (.string n1) := cell_of_row _ _ 2 _ _ (0, 0) T4.t.ga
      have a3 : w4.cell? ⟨W.heap.size, 3, none⟩ = some (.int .u8 (i1 : Int)) := cell_of_row _ _ 3 _ _ (0, 0) T4.t.ga
      have a4 : w4.cell? ⟨W.heap.size, 4, none⟩ = some (.slice A l1.length c) := cell_of_row _ _ 4 _ _ (0, 0) T4.t.ga
      have HT4 := Lib.hid T4; clear T4
      have HA1 := Lib.hid ha1; clear ha1
      have HA2 := Lib.hid ha2; clear ha2
      have Hρ := Lib.hid hρ; clear hρ
      have Hor := Lib.hid hor; clear hor
      go_simp
      go_wp2_with fail
      have T4 := HT4.out
      refine (encode_any ⟨o1, v1, n1, i1, l1⟩ A1 c1 _ T4.rx.rd T4.rx.lc T4.rx.cm oa.nm oa.nms oa.o oa.v).mono ?_
      rintro e w5 ⟨Ae, ne, ce, rfl, hne, hce, hRe, hb5⟩
      have T5 := T4.up hb5
      clear T4 HT4 hb5
      clear x0 x1 x2 x3 x4 a0 a1 a2 a3 a4
      have a0 : w5.cell? ⟨W.heap.size, 0, none⟩ = some (.int .u32 (o1 : Int)) := cell_of_row _ _ 0 _ _ (0, 0) T5.t.ga
      have a1 : w5.cell? ⟨W.heap.size, 1, none⟩ = some (.int .u32 (v1 : Int)) := cell_of_row _ _ 1 _ _ (0, 0) T5.t.ga
      have a2 : w5.cell? ⟨W.heap.size, 2, none⟩ = some (.string n1) := cell_of_row _ _ 2 _ _ (0, 0) T5.t.ga
      have a3 : w5.cell? ⟨W.heap.size, 3, none⟩ = some (.int .u8 (i1 : Int)) := cell_of_row _ _ 3 _ _ (0, 0) T5.t.ga
      have a4 : w5.cell? ⟨W.heap.size, 4, none⟩ = some (.slice A l1.length c) := cell_of_row _ _ 4 _ _ (0, 0) T5.t.ga
      have b0 : w5.cell? ⟨W.heap.size + 1, 0, none⟩ = some (.int .u32 (o2 : Int)) := cell_of_row _ _ 0 _ _ (0, 0) T5.t.gb
      have b1 : w5.cell? ⟨W.heap.size + 1, 1, none⟩ = some (.int .u32 (v2 : Int)) := cell_of_row _ _ 1 _ _ (0, 0) T5.t.gb
      have b2 : w5.cell? ⟨W.heap.size + 1, 2, none⟩ = some (.string n2) := cell_of_row _ _ 2 _ _ (0, 0) T5.t.gb
      have b3 : w5.cell? ⟨W.heap.size + 1, 3, none⟩ = some (.int .u8 (i2 : Int)) := cell_of_row _ _ 3 _ _ (0, 0) T5.t.gb
      have b4 : w5.cell? ⟨W.heap.size + 1, 4, none⟩ = some (.slice A' l2.length c') := cell_of_row _ _ 4 _ _ (0, 0) T5.t.gb
      have HT5 := Lib.hid T5; clear T5
      have HRe := Lib.hid hRe; clear hRe
      have re := Lib.hid (rfl : Rl.rightE ⟨o1, v1, n1, i1, l1⟩ = Rl.rightE ⟨o1, v1, n1, i1, l1⟩)
      generalize hr5 : Rl.rightE ⟨o1, v1, n1, i1, l1⟩ = rE at *
      have Hr5 := Lib.hid hr5; clear hr5 re
      go_wp2_with fail
      have T5 := HT5.out
      refine (encodeR_any ⟨o1, v1, n1, i1, l1⟩ A c _ (hA.rd.up T5.t.lo (Nat.le_refl _) T5.t.lo.size) la lca oa.nm oa.nms oa.o oa.v).mono ?_
      rintro e w6 ⟨Af, nf, cf, rfl, hnf, hcf, hRf, hb6⟩
      have T6 := T5.up hb6
      have hRe6 := HRe.out.up hb6 (Nat.le_refl _) hb6.size
      clear T5 HT5 hb6 HRe
      clear a0 a1 a2 a3 a4 b0 b1 b2 b3 b4
      have a0 : w6.cell? ⟨W.heap.size, 0, none⟩ = some (.int .u32 (o1 : Int)) := cell_of_row _ _ 0 _ _ (0, 0) T6.t.ga
      have a1 : w6.cell? ⟨W.heap.size, 1, none⟩ = some (.int .u32 (v1 : Int)) := cell_of_row _ _ 1 _ _ (0, 0) T6.t.ga
      have a2 : w6.cell? ⟨W.heap.size, 2, none⟩ = some (.string n1) := cell_of_row _ _ 2 _ _ (0, 0) T6.t.ga
      have a3 : w6.cell? ⟨W.heap.size, 3, none⟩ = some (.int .u8 (i1 : Int)) := cell_of_row _ _ 3 _ _ (0, 0) T6.t.ga
      have a4 : w6.cell? ⟨W.heap.size, 4, none⟩ = some (.slice A l1.length c) := cell_of_row _ _ 4 _ _ (0, 0) T6.t.ga
      have b0 : w6.cell? ⟨W.heap.size + 1, 0, none⟩ = some (.int .u32 (o2 : Int)) := cell_of_row _ _ 0 _ _ (0, 0) T6.t.gb
      have b1 : w6.cell? ⟨W.heap.size + 1, 1, none⟩ = some (.int .u32 (v2 : Int)) := cell_of_row _ _ 1 _ _ (0, 0) T6.t.gb
      have b2 : w6.cell? ⟨W.heap.size + 1, 2, none⟩ = some (.string n2) := cell_of_row _ _ 2 _ _ (0, 0) T6.t.gb
      have b3 : w6.cell? ⟨W.heap.size + 1, 3, none⟩ = some (.int .u8 (i2 : Int)) := cell_of_row _ _ 3 _ _ (0, 0) T6.t.gb
      have b4 : w6.cell? ⟨W.heap.size + 1, 4, none⟩ = some (.slice A' l2.length c') := cell_of_row _ _ 4 _ _ (0, 0) T6.t.gb
      rw [Hr5.out]
      have HT6 := Lib.hid T6; clear T6
      have HRf := Lib.hid hRf; clear hRf
      have HRe6 := Lib.hid hRe6; clear hRe6
      go_wp2_with fail
      have T6 := HT6.out
      refine (ahead_any o1 v1 o2 v2 _).mono ?_
      rintro e w7 ⟨rfl, hb7⟩
      have T7 := T6.up hb7
      have hRe7 := HRe6.out.up hb7 (Nat.le_refl _) hb7.size
      have hRf7 := HRf.out.up hb7 (Nat.le_refl _) hb7.size
      clear T6 HT6 hb7 HRe6 HRf
      rw [HA1.out]
      clear a0 a1 a2 a3 a4 b0 b1 b2 b3 b4
      have a0 : w7.cell? ⟨W.heap.size, 0, none⟩ = some (.int .u32 (o1 : Int)) := cell_of_row _ _ 0 _ _ (0, 0) T7.t.ga
      have a1 : w7.cell? ⟨W.heap.size, 1, none⟩ = some (.int .u32 (v1 : Int)) := cell_of_row _ _ 1 _ _ (0, 0) T7.t.ga
      have a2 : w7.cell? ⟨W.heap.size, 2, none⟩ = some (.string n1) := cell_of_row _ _ 2 _ _ (0, 0) T7.t.ga
      have a3 : w7.cell? ⟨W.heap.size, 3, none⟩ = some (.int .u8 (i1 : Int)) := cell_of_row _ _ 3 _ _ (0, 0) T7.t.ga
      have a4 : w7.cell? ⟨W.heap.size, 4, none⟩ = some (.slice A l1.length c) := cell_of_row _ _ 4 _ _ (0, 0) T7.t.ga
      have b0 : w7.cell? ⟨W.heap.size + 1, 0, none⟩ = some (.int .u32 (o2 : Int)) := cell_of_row _ _ 0 _ _ (0, 0) T7.t.gb
      have b1 : w7.cell? ⟨W.heap.size + 1, 1, none⟩ = some (.int .u32 (v2 : Int)) := cell_of_row _ _ 1 _ _ (0, 0) T7.t.gb
      have b2 : w7.cell? ⟨W.heap.size + 1, 2, none⟩ = some (.string n2) := cell_of_row _ _ 2 _ _ (0, 0) T7.t.gb
      have b3 : w7.cell? ⟨W.heap.size + 1, 3, none⟩ = some (.int .u8 (i2 : Int)) := cell_of_row _ _ 3 _ _ (0, 0) T7.t.gb
      have b4 : w7.cell? ⟨W.heap.size + 1, 4, none⟩ = some (.slice A' l2.length c') := cell_of_row _ _ 4 _ _ (0, 0) T7.t.gb
      have HT7 := Lib.hid T7; clear T7
      have HRf7 := Lib.hid hRf7; clear hRf7
      have HRe7 := Lib.hid hRe7; clear hRe7
      rcases Hor.out with h | h | h
      all_goals
        subst h
        simp only at HA1 HA2 Hρ
        clear Hor
      · skip
        go_wp2_with fail
        have T7 := HT7.out
        refine (ahead_any o2 v2 o1 v1 _).mono ?_
        rintro e w8 ⟨rfl, hb8⟩
        have T8 := T7.up hb8
        have hRe8 := HRe7.out.up hb8 (Nat.le_refl _) hb8.size
        have hRf8 := HRf7.out.up hb8 (Nat.le_refl _) hb8.size
        clear T7 HT7 hb8 HRe7 HRf7
        rw [HA2.out]
        clear a0 a1 a2 a3 a4 b0 b1 b2 b3 b4
        have HT8 := Lib.hid T8; clear T8
        have HRf8 := Lib.hid hRf8; clear hRf8
        have HRe8 := Lib.hid hRe8; clear hRe8
        go_wp2_with fail
        have hsz := HT8.out.t.lo.size
        have Hsz := Lib.hid hsz; clear hsz
        obtain ⟨sE, hsE⟩ : ∃ s : ByteArray, (⟨(Rl.encB ⟨o1, v1, n1, i1, l1⟩).toArray⟩ : ByteArray) = s := ⟨_, rfl⟩
        obtain ⟨sv, hsv⟩ : ∃ s, Rl.same ⟨o1, v1, n1, i1, l1⟩ ⟨o2, v2, n2, i2, l2⟩ = s := ⟨_, rfl⟩
        have HsE := Lib.hid hsE; clear hsE
        have Hsv := Lib.hid hsv; clear hsv
        refine wp_region_fx (teF sE rE sv (-1)) (by kernel_rfl) (by kernel_rfl) ?_
        first | (refine Mono.wpM_all rfl rfl (fun K hK => ?_); go_simp; refine hK _ ?_; clear hK K) | (refine Mono.wpM_skip rfl ?_)
        refine Mono.wpM_eff rfl rfl (fun w9 hc _ => steps_str _ (l := Rl.encB ⟨o1, v1, n1, i1, l1⟩) Try.underlying22 Try.underlying5 Try.underlying9 (rdS_of (c := ce) HRe8.out hc) (fun u w' h => run_v h) (str_val HsE rfl)) ?_
        rintro s1 ⟨_, rfl⟩
        first | (refine Mono.wpM_all rfl rfl (fun K hK => ?_); go_simp; refine hK _ ?_; clear hK K) | (refine Mono.wpM_skip rfl ?_)
        refine Mono.wpM_eff rfl rfl (fun w9 hc _ => steps_str _ (l := Rl.encB ⟨o1, v1, n1, i1, l1⟩) Try.underlying22 Try.underlying5 Try.underlying9 (rdS_of (c := cf) HRf8.out hc) (fun u w' h => run_v h) (str_val HsE rfl)) ?_
        rintro s3 ⟨_, rfl⟩
        first | (refine Mono.wpM_all rfl rfl (fun K hK => ?_); go_simp; refine hK _ ?_; clear hK K) | (refine Mono.wpM_skip rfl ?_)
        first | (refine Mono.wpM_all rfl rfl (fun K hK => ?_); go_simp; refine hK _ ?_; clear hK K) | (refine Mono.wpM_skip rfl ?_)
        first | (refine Mono.wpM_all rfl rfl (fun K hK => ?_); go_simp; refine hK _ ?_; clear hK K) | (refine Mono.wpM_skip rfl ?_)
        first | (refine Mono.wpM_all rfl rfl (fun K hK => ?_); go_simp; refine hK _ ?_; clear hK K) | (refine Mono.wpM_skip rfl ?_)
        first | (refine Mono.wpM_all rfl rfl (fun K hK => ?_); go_simp; refine hK _ ?_; clear hK K) | (refine Mono.wpM_skip rfl ?_)
        first | (refine Mono.wpM_all rfl rfl (fun K hK => ?_); go_simp; refine hK _ ?_; clear hK K) | (refine Mono.wpM_skip rfl ?_)
        first | (refine Mono.wpM_all rfl rfl (fun K hK => ?_); go_simp; refine hK _ ?_; clear hK K) | (refine Mono.wpM_skip rfl ?_)
        refine Mono.wpM_norm (fun K hK => ?_); go_simp; refine hK _ ?_; clear hK K
        refine Mono.wpM_look (.agg #[.int .u32 (o1 : Int), .int .u32 (v1 : Int), .string n1, .int .u8 (i1 : Int), .slice A1 l1.length c1]) rfl rfl (fun w5 hc _ => ?_) ?_
        · have hh := (hc.block _ (Array.getElem?_eq_some_iff.1 HT8.out.gx).1).trans HT8.out.gx
          have q0 : w5.cell? ⟨g4, 0, none⟩ = some (.int .u32 (o1 : Int)) := cell_of_row _ _ 0 _ _ (0, 0) hh
          have q1 : w5.cell? ⟨g4, 1, none⟩ = some (.int .u32 (v1 : Int)) := cell_of_row _ _ 1 _ _ (0, 0) hh
          have q2 : w5.cell? ⟨g4, 2, none⟩ = some (.string n1) := cell_of_row _ _ 2 _ _ (0, 0) hh
          have q3 : w5.cell? ⟨g4, 3, none⟩ = some (.int .u8 (i1 : Int)) := cell_of_row _ _ 3 _ _ (0, 0) hh
          have q4 : w5.cell? ⟨g4, 4, none⟩ = some (.slice A1 l1.length c1) := cell_of_row _ _ 4 _ _ (0, 0) hh
          clear hh
          go_simp
        refine Mono.wpM_norm (fun K hK => ?_); go_simp; refine hK _ ?_; clear hK K
        refine Mono.wpM_eff rfl rfl (fun w9 hc _ => steps_enter (right_any ⟨o1, v1, n1, i1, l1⟩ A1 c1 w9 (HT8.out.rx.up hc (Nat.le_refl _) hc.size).rd HT8.out.rx.lc HT8.out.rx.cm oa.nm oa.nms) (by go_simp; rfl) (cmp_val Hr5 rfl)) ?_
        rintro s12 ⟨_, rfl⟩
        first | (refine Mono.wpM_all rfl rfl (fun K hK => ?_); go_simp; refine hK _ ?_; clear hK K) | (refine Mono.wpM_skip rfl ?_)
        first | (refine Mono.wpM_all rfl rfl (fun K hK => ?_); go_simp; refine hK _ ?_; clear hK K) | (refine Mono.wpM_skip rfl ?_)
        first | (refine Mono.wpM_all rfl rfl (fun K hK => ?_); go_simp; refine hK _ ?_; clear hK K) | (refine Mono.wpM_skip rfl ?_)
        first | (refine Mono.wpM_all rfl rfl (fun K hK => ?_); go_simp; refine hK _ ?_; clear hK K) | (refine Mono.wpM_skip rfl ?_)
        refine Mono.wpM_norm (fun K hK => ?_); go_simp; refine hK _ ?_; clear hK K
        refine Mono.wpM_look (.agg #[.int .u32 (o1 : Int), .int .u32 (v1 : Int), .string n1, .int .u8 (i1 : Int), .slice A1 l1.length c1]) rfl rfl (fun w5 hc _ => ?_) ?_
        · have hh := (hc.block _ (Array.getElem?_eq_some_iff.1 HT8.out.gx).1).trans HT8.out.gx
          have q0 : w5.cell? ⟨g4, 0, none⟩ = some (.int .u32 (o1 : Int)) := cell_of_row _ _ 0 _ _ (0, 0) hh
          have q1 : w5.cell? ⟨g4, 1, none⟩ = some (.int .u32 (v1 : Int)) := cell_of_row _ _ 1 _ _ (0, 0) hh
          have q2 : w5.cell? ⟨g4, 2, none⟩ = some (.string n1) := cell_of_row _ _ 2 _ _ (0, 0) hh
          have q3 : w5.cell? ⟨g4, 3, none⟩ = some (.int .u8 (i1 : Int)) := cell_of_row _ _ 3 _ _ (0, 0) hh
          have q4 : w5.cell? ⟨g4, 4, none⟩ = some (.slice A1 l1.length c1) := cell_of_row _ _ 4 _ _ (0, 0) hh
          clear hh
          go_simp
        refine Mono.wpM_norm (fun K hK => ?_); go_simp; refine hK _ ?_; clear hK K
        refine Mono.wpM_look (.agg #[.int .u32 (o2 : Int), .int .u32 (v2 : Int), .string n2, .int .u8 (i2 : Int), .slice A2 l2.length c2]) rfl rfl (fun w5 hc _ => ?_) ?_
        · have hh := (hc.block _ (Array.getElem?_eq_some_iff.1 HT8.out.gy).1).trans HT8.out.gy
          have q0 : w5.cell? ⟨g5, 0, none⟩ = some (.int .u32 (o2 : Int)) := cell_of_row _ _ 0 _ _ (0, 0) hh
          have q1 : w5.cell? ⟨g5, 1, none⟩ = some (.int .u32 (v2 : Int)) := cell_of_row _ _ 1 _ _ (0, 0) hh
          have q2 : w5.cell? ⟨g5, 2, none⟩ = some (.string n2) := cell_of_row _ _ 2 _ _ (0, 0) hh
          have q3 : w5.cell? ⟨g5, 3, none⟩ = some (.int .u8 (i2 : Int)) := cell_of_row _ _ 3 _ _ (0, 0) hh
          have q4 : w5.cell? ⟨g5, 4, none⟩ = some (.slice A2 l2.length c2) := cell_of_row _ _ 4 _ _ (0, 0) hh
          clear hh
          go_simp
        refine Mono.wpM_norm (fun K hK => ?_); go_simp; refine hK _ ?_; clear hK K
        refine Mono.wpM_eff rfl rfl (fun w9 hc _ => steps_enter (same_any ⟨o1, v1, n1, i1, l1⟩ ⟨o2, v2, n2, i2, l2⟩ A1 A2 c1 c2 w9 (HT8.out.rx.up hc (Nat.le_refl _) hc.size).rd (HT8.out.ry.up hc (Nat.le_refl _) hc.size).rd (by simp only [maxLen]; omega)) (by go_simp; exact ⟨rfl, rfl⟩) (bool_val Hsv rfl)) ?_
        rintro s19 ⟨_, rfl⟩
        refine Mono.wpM_norm (fun K hK => ?_); go_simp; refine hK _ ?_; clear hK K
        refine Mono.wpM_look (.agg #[.int .u32 (o1 : Int), .int .u32 (v1 : Int), .string n1, .int .u8 (i1 : Int), .slice A l1.length c]) rfl rfl (fun w5 hc _ => ?_) ?_
        · have hh := (hc.block _ (Array.getElem?_eq_some_iff.1 HT8.out.t.ga).1).trans HT8.out.t.ga
          have q0 : w5.cell? ⟨W.heap.size, 0, none⟩ = some (.int .u32 (o1 : Int)) := cell_of_row _ _ 0 _ _ (0, 0) hh
          have q1 : w5.cell? ⟨W.heap.size, 1, none⟩ = some (.int .u32 (v1 : Int)) := cell_of_row _ _ 1 _ _ (0, 0) hh
          have q2 : w5.cell? ⟨W.heap.size, 2, none⟩ = some (.string n1) := cell_of_row _ _ 2 _ _ (0, 0) hh
          have q3 : w5.cell? ⟨W.heap.size, 3, none⟩ = some (.int .u8 (i1 : Int)) := cell_of_row _ _ 3 _ _ (0, 0) hh
          have q4 : w5.cell? ⟨W.heap.size, 4, none⟩ = some (.slice A l1.length c) := cell_of_row _ _ 4 _ _ (0, 0) hh
          clear hh
          go_simp
        refine Mono.wpM_norm (fun K hK => ?_); go_simp; refine hK _ ?_; clear hK K
        refine Mono.wpM_look (.agg #[.int .u32 (o2 : Int), .int .u32 (v2 : Int), .string n2, .int .u8 (i2 : Int), .slice A' l2.length c']) rfl rfl (fun w5 hc _ => ?_) ?_
        · have hh := (hc.block _ (Array.getElem?_eq_some_iff.1 HT8.out.t.gb).1).trans HT8.out.t.gb
          have q0 : w5.cell? ⟨W.heap.size + 1, 0, none⟩ = some (.int .u32 (o2 : Int)) := cell_of_row _ _ 0 _ _ (0, 0) hh
          have q1 : w5.cell? ⟨W.heap.size + 1, 1, none⟩ = some (.int .u32 (v2 : Int)) := cell_of_row _ _ 1 _ _ (0, 0) hh
          have q2 : w5.cell? ⟨W.heap.size + 1, 2, none⟩ = some (.string n2) := cell_of_row _ _ 2 _ _ (0, 0) hh
          have q3 : w5.cell? ⟨W.heap.size + 1, 3, none⟩ = some (.int .u8 (i2 : Int)) := cell_of_row _ _ 3 _ _ (0, 0) hh
          have q4 : w5.cell? ⟨W.heap.size + 1, 4, none⟩ = some (.slice A' l2.length c') := cell_of_row _ _ 4 _ _ (0, 0) hh
          clear hh
          go_simp
        refine Mono.wpM_norm (fun K hK => ?_); go_simp; refine hK _ ?_; clear hK K
        refine Mono.wpM_eff rfl rfl (fun w9 hc _ => steps_enter (sameR_any ⟨o1, v1, n1, i1, l1⟩ ⟨o2, v2, n2, i2, l2⟩ A A' c c' w9 (hA.rd.up (HT8.out.t.lo.trans (hc.mono Hsz.out)) (Nat.le_refl _) (Nat.le_trans Hsz.out hc.size)) (hA'.rd.up (HT8.out.t.lo.trans (hc.mono Hsz.out)) (Nat.le_refl _) (Nat.le_trans Hsz.out hc.size)) (by simp only [maxLen]; omega) (by simp only [maxLen]; omega)) (by go_simp; exact ⟨rfl, rfl⟩) (bool_val Hsv rfl)) ?_
        rintro s22 ⟨_, rfl⟩
        first | (refine Mono.wpM_all rfl rfl (fun K hK => ?_); go_simp; refine hK _ ?_; clear hK K) | (refine Mono.wpM_skip rfl ?_)
        first | (refine Mono.wpM_all rfl rfl (fun K hK => ?_); go_simp; refine hK _ ?_; clear hK K) | (refine Mono.wpM_skip rfl ?_)
        first | (refine Mono.wpM_all rfl rfl (fun K hK => ?_); go_simp; refine hK _ ?_; clear hK K) | (refine Mono.wpM_skip rfl ?_)
        first | (refine Mono.wpM_all rfl rfl (fun K hK => ?_); go_simp; refine hK _ ?_; clear hK K) | (refine Mono.wpM_skip rfl ?_)
        refine Mono.wpM_norm (fun K hK => ?_); go_simp; refine hK _ ?_; clear hK K
        refine Mono.wpM_look (.agg #[.int .u32 (o1 : Int), .int .u32 (v1 : Int)]) rfl rfl (fun w5 hc _ => ?_) ?_
        · have hh := (hc.block _ (Array.getElem?_eq_some_iff.1 HT8.out.gx).1).trans HT8.out.gx
          have q0 : w5.cell? ⟨g4, 0, none⟩ = some (.int .u32 (o1 : Int)) := cell_of_row _ _ 0 _ _ (0, 0) hh
          have q1 : w5.cell? ⟨g4, 1, none⟩ = some (.int .u32 (v1 : Int)) := cell_of_row _ _ 1 _ _ (0, 0) hh
          clear hh
          go_simp
        first | (refine Mono.wpM_all rfl rfl (fun K hK => ?_); go_simp; refine hK _ ?_; clear hK K) | (refine Mono.wpM_skip rfl ?_)
        refine Mono.wpM_norm (fun K hK => ?_); go_simp; refine hK _ ?_; clear hK K
        refine Mono.wpM_look (.agg #[.int .u32 (o2 : Int), .int .u32 (v2 : Int)]) rfl rfl (fun w5 hc _ => ?_) ?_
        · have hh := (hc.block _ (Array.getElem?_eq_some_iff.1 HT8.out.gy).1).trans HT8.out.gy
          have q0 : w5.cell? ⟨g5, 0, none⟩ = some (.int .u32 (o2 : Int)) := cell_of_row _ _ 0 _ _ (0, 0) hh
          have q1 : w5.cell? ⟨g5, 1, none⟩ = some (.int .u32 (v2 : Int)) := cell_of_row _ _ 1 _ _ (0, 0) hh
          clear hh
          go_simp
        refine Mono.wpM_norm (fun K hK => ?_); go_simp; refine hK _ ?_; clear hK K
        refine Mono.wpM_eff rfl rfl (fun w9 hc _ => steps_enter (refCompare_any o1 v1 o2 v2 w9) (by go_simp) (cmp_val Hρ rfl)) ?_
        rintro s30 ⟨_, rfl⟩
        first | (refine Mono.wpM_all rfl rfl (fun K hK => ?_); go_simp; refine hK _ ?_; clear hK K) | (refine Mono.wpM_skip rfl ?_)
        first | (refine Mono.wpM_all rfl rfl (fun K hK => ?_); go_simp; refine hK _ ?_; clear hK K) | (refine Mono.wpM_skip rfl ?_)
        first | (refine Mono.wpM_all rfl rfl (fun K hK => ?_); go_simp; refine hK _ ?_; clear hK K) | (refine Mono.wpM_skip rfl ?_)
        refine Mono.wpM_nil fun w9 hc9 _ => ?_
        have T9 := HT8.out.up hc9
        have hb9 : Below w9.heap.size w9 (w9.alloc (.cells #[.int .i64 (-1)] 3)) := (Below.refl _ _).alloc (Nat.le_refl _) _
        have T10 := T9.up hb9
        clear hc9 HT8 Hsz HRe8 HRf8 hb9
        have x0 : (w9.alloc (.cells #[.int .i64 (-1)] 3)).cell? ⟨g4, 0, none⟩ = some (.int .u32 (o1 : Int)) := cell_of_row _ _ 0 _ _ (0, 0) T10.gx
        have x1 : (w9.alloc (.cells #[.int .i64 (-1)] 3)).cell? ⟨g4, 1, none⟩ = some (.int .u32 (v1 : Int)) := cell_of_row _ _ 1 _ _ (0, 0) T10.gx
        have x2 : (w9.alloc (.cells #[.int .i64 (-1)] 3)).cell? ⟨g4, 2, none⟩ = some (.string n1) := cell_of_row _ _ 2 _ _ (0, 0) T10.gx
        have x3 : (w9.alloc (.cells #[.int .i64 (-1)] 3)).cell? ⟨g4, 3, none⟩ = some (.int .u8 (i1 : Int)) := cell_of_row _ _ 3 _ _ (0, 0) T10.gx
        have x4 : (w9.alloc (.cells #[.int .i64 (-1)] 3)).cell? ⟨g4, 4, none⟩ = some (.slice A1 l1.length c1) := cell_of_row _ _ 4 _ _ (0, 0) T10.gx
        have HT9 := Lib.hid T9; clear T9
        have HT10 := Lib.hid T10; clear T10
        go_simp
        go_wp2_with fail
        refine (callsIn_wide.1 (keys_in Fence.wide 9 trivial rfl ⟨o1, v1, n1, i1, l1⟩ A1 c1 _)).mono ?_
        rintro e w10 ⟨rfl, rfl⟩
        clear x0 x1 x2 x3 x4
        go_wp2_with fail
        rename_i Kz hKz
        refine tells_loop o1 v1 n1 i1 l1 ⟨o2, v2, n2, i2, l2⟩ A c A' c' A1 c1 A2 c2 g4 g5 W w9 hA HT9.out hs1 _ _ ?_
        intro D W' hD hB hb hW
        refine hKz _ _ ?_
        exact tells_end o1 v1 n1 i1 l1 ⟨o2, v2, n2, i2, l2⟩ A c A' c' A1 c1 A2 c2 g4 g5 w9.heap.size D W W' hA (HT9.out.up hB) hs1 hb hW (Nat.le_trans HT9.out.t.lo.size hD)
      · skip
        go_wp2_with fail
        have T7 := HT7.out
        refine (ahead_any o2 v2 o1 v1 _).mono ?_
        rintro e w8 ⟨rfl, hb8⟩
        have T8 := T7.up hb8
        have hRe8 := HRe7.out.up hb8 (Nat.le_refl _) hb8.size
        have hRf8 := HRf7.out.up hb8 (Nat.le_refl _) hb8.size
        clear T7 HT7 hb8 HRe7 HRf7
        rw [HA2.out]
        clear a0 a1 a2 a3 a4 b0 b1 b2 b3 b4
        have HT8 := Lib.hid T8; clear T8
        have HRf8 := Lib.hid hRf8; clear hRf8
        have HRe8 := Lib.hid hRe8; clear hRe8
        go_wp2_with fail
        have hsz := HT8.out.t.lo.size
        have Hsz := Lib.hid hsz; clear hsz
        obtain ⟨sE, hsE⟩ : ∃ s : ByteArray, (⟨(Rl.encB ⟨o1, v1, n1, i1, l1⟩).toArray⟩ : ByteArray) = s := ⟨_, rfl⟩
        obtain ⟨sv, hsv⟩ : ∃ s, Rl.same ⟨o1, v1, n1, i1, l1⟩ ⟨o2, v2, n2, i2, l2⟩ = s := ⟨_, rfl⟩
        have HsE := Lib.hid hsE; clear hsE
        have Hsv := Lib.hid hsv; clear hsv
        refine wp_region_fx (teF sE rE sv (0)) (by kernel_rfl) (by kernel_rfl) ?_
        first | (refine Mono.wpM_all rfl rfl (fun K hK => ?_); go_simp; refine hK _ ?_; clear hK K) | (refine Mono.wpM_skip rfl ?_)
        refine Mono.wpM_eff rfl rfl (fun w9 hc _ => steps_str _ (l := Rl.encB ⟨o1, v1, n1, i1, l1⟩) Try.underlying22 Try.underlying5 Try.underlying9 (rdS_of (c := ce) HRe8.out hc) (fun u w' h => run_v h) (str_val HsE rfl)) ?_
        rintro s1 ⟨_, rfl⟩
        first | (refine Mono.wpM_all rfl rfl (fun K hK => ?_); go_simp; refine hK _ ?_; clear hK K) | (refine Mono.wpM_skip rfl ?_)
        refine Mono.wpM_eff rfl rfl (fun w9 hc _ => steps_str _ (l := Rl.encB ⟨o1, v1, n1, i1, l1⟩) Try.underlying22 Try.underlying5 Try.underlying9 (rdS_of (c := cf) HRf8.out hc) (fun u w' h => run_v h) (str_val HsE rfl)) ?_
        rintro s3 ⟨_, rfl⟩
        first | (refine Mono.wpM_all rfl rfl (fun K hK => ?_); go_simp; refine hK _ ?_; clear hK K) | (refine Mono.wpM_skip rfl ?_)
        first | (refine Mono.wpM_all rfl rfl (fun K hK => ?_); go_simp; refine hK _ ?_; clear hK K) | (refine Mono.wpM_skip rfl ?_)
        first | (refine Mono.wpM_all rfl rfl (fun K hK => ?_); go_simp; refine hK _ ?_; clear hK K) | (refine Mono.wpM_skip rfl ?_)
        first | (refine Mono.wpM_all rfl rfl (fun K hK => ?_); go_simp; refine hK _ ?_; clear hK K) | (refine Mono.wpM_skip rfl ?_)
        first | (refine Mono.wpM_all rfl rfl (fun K hK => ?_); go_simp; refine hK _ ?_; clear hK K) | (refine Mono.wpM_skip rfl ?_)
        first | (refine Mono.wpM_all rfl rfl (fun K hK => ?_); go_simp; refine hK _ ?_; clear hK K) | (refine Mono.wpM_skip rfl ?_)
        first | (refine Mono.wpM_all rfl rfl (fun K hK => ?_); go_simp; refine hK _ ?_; clear hK K) | (refine Mono.wpM_skip rfl ?_)
        refine Mono.wpM_norm (fun K hK => ?_); go_simp; refine hK _ ?_; clear hK K
        refine Mono.wpM_look (.agg #[.int .u32 (o1 : Int), .int .u32 (v1 : Int), .string n1, .int .u8 (i1 : Int), .slice A1 l1.length c1]) rfl rfl (fun w5 hc _ => ?_) ?_
        · have hh := (hc.block _ (Array.getElem?_eq_some_iff.1 HT8.out.gx).1).trans HT8.out.gx
          have q0 : w5.cell? ⟨g4, 0, none⟩ = some (.int .u32 (o1 : Int)) := cell_of_row _ _ 0 _ _ (0, 0) hh
          have q1 : w5.cell? ⟨g4, 1, none⟩ = some (.int .u32 (v1 : Int)) := cell_of_row _ _ 1 _ _ (0, 0) hh
          have q2 : w5.cell? ⟨g4, 2, none⟩ = some (.string n1) := cell_of_row _ _ 2 _ _ (0, 0) hh
          have q3 : w5.cell? ⟨g4, 3, none⟩ = some (.int .u8 (i1 : Int)) := cell_of_row _ _ 3 _ _ (0, 0) hh
          have q4 : w5.cell? ⟨g4, 4, none⟩ = some (.slice A1 l1.length c1) := cell_of_row _ _ 4 _ _ (0, 0) hh
          clear hh
          go_simp
        refine Mono.wpM_norm (fun K hK => ?_); go_simp; refine hK _ ?_; clear hK K
        refine Mono.wpM_eff rfl rfl (fun w9 hc _ => steps_enter (right_any ⟨o1, v1, n1, i1, l1⟩ A1 c1 w9 (HT8.out.rx.up hc (Nat.le_refl _) hc.size).rd HT8.out.rx.lc HT8.out.rx.cm oa.nm oa.nms) (by go_simp; rfl) (cmp_val Hr5 rfl)) ?_
        rintro s12 ⟨_, rfl⟩
        first | (refine Mono.wpM_all rfl rfl (fun K hK => ?_); go_simp; refine hK _ ?_; clear hK K) | (refine Mono.wpM_skip rfl ?_)
        first | (refine Mono.wpM_all rfl rfl (fun K hK => ?_); go_simp; refine hK _ ?_; clear hK K) | (refine Mono.wpM_skip rfl ?_)
        first | (refine Mono.wpM_all rfl rfl (fun K hK => ?_); go_simp; refine hK _ ?_; clear hK K) | (refine Mono.wpM_skip rfl ?_)
        first | (refine Mono.wpM_all rfl rfl (fun K hK => ?_); go_simp; refine hK _ ?_; clear hK K) | (refine Mono.wpM_skip rfl ?_)
        refine Mono.wpM_norm (fun K hK => ?_); go_simp; refine hK _ ?_; clear hK K
        refine Mono.wpM_look (.agg #[.int .u32 (o1 : Int), .int .u32 (v1 : Int), .string n1, .int .u8 (i1 : Int), .slice A1 l1.length c1]) rfl rfl (fun w5 hc _ => ?_) ?_
        · have hh := (hc.block _ (Array.getElem?_eq_some_iff.1 HT8.out.gx).1).trans HT8.out.gx
          have q0 : w5.cell? ⟨g4, 0, none⟩ = some (.int .u32 (o1 : Int)) := cell_of_row _ _ 0 _ _ (0, 0) hh
          have q1 : w5.cell? ⟨g4, 1, none⟩ = some (.int .u32 (v1 : Int)) := cell_of_row _ _ 1 _ _ (0, 0) hh
          have q2 : w5.cell? ⟨g4, 2, none⟩ = some (.string n1) := cell_of_row _ _ 2 _ _ (0, 0) hh
          have q3 : w5.cell? ⟨g4, 3, none⟩ = some (.int .u8 (i1 : Int)) := cell_of_row _ _ 3 _ _ (0, 0) hh
          have q4 : w5.cell? ⟨g4, 4, none⟩ = some (.slice A1 l1.length c1) := cell_of_row _ _ 4 _ _ (0, 0) hh
          clear hh
          go_simp
        refine Mono.wpM_norm (fun K hK => ?_); go_simp; refine hK _ ?_; clear hK K
        refine Mono.wpM_look (.agg #[.int .u32 (o2 : Int), .int .u32 (v2 : Int), .string n2, .int .u8 (i2 : Int), .slice A2 l2.length c2]) rfl rfl (fun w5 hc _ => ?_) ?_
        · have hh := (hc.block _ (Array.getElem?_eq_some_iff.1 HT8.out.gy).1).trans HT8.out.gy
          have q0 : w5.cell? ⟨g5, 0, none⟩ = some (.int .u32 (o2 : Int)) := cell_of_row _ _ 0 _ _ (0, 0) hh
          have q1 : w5.cell? ⟨g5, 1, none⟩ = some (.int .u32 (v2 : Int)) := cell_of_row _ _ 1 _ _ (0, 0) hh
          have q2 : w5.cell? ⟨g5, 2, none⟩ = some (.string n2) := cell_of_row _ _ 2 _ _ (0, 0) hh
          have q3 : w5.cell? ⟨g5, 3, none⟩ = some (.int .u8 (i2 : Int)) := cell_of_row _ _ 3 _ _ (0, 0) hh
          have q4 : w5.cell? ⟨g5, 4, none⟩ = some (.slice A2 l2.length c2) := cell_of_row _ _ 4 _ _ (0, 0) hh
          clear hh
          go_simp
        refine Mono.wpM_norm (fun K hK => ?_); go_simp; refine hK _ ?_; clear hK K
        refine Mono.wpM_eff rfl rfl (fun w9 hc _ => steps_enter (same_any ⟨o1, v1, n1, i1, l1⟩ ⟨o2, v2, n2, i2, l2⟩ A1 A2 c1 c2 w9 (HT8.out.rx.up hc (Nat.le_refl _) hc.size).rd (HT8.out.ry.up hc (Nat.le_refl _) hc.size).rd (by simp only [maxLen]; omega)) (by go_simp; exact ⟨rfl, rfl⟩) (bool_val Hsv rfl)) ?_
        rintro s19 ⟨_, rfl⟩
        refine Mono.wpM_norm (fun K hK => ?_); go_simp; refine hK _ ?_; clear hK K
        refine Mono.wpM_look (.agg #[.int .u32 (o1 : Int), .int .u32 (v1 : Int), .string n1, .int .u8 (i1 : Int), .slice A l1.length c]) rfl rfl (fun w5 hc _ => ?_) ?_
        · have hh := (hc.block _ (Array.getElem?_eq_some_iff.1 HT8.out.t.ga).1).trans HT8.out.t.ga
          have q0 : w5.cell? ⟨W.heap.size, 0, none⟩ = some (.int .u32 (o1 : Int)) := cell_of_row _ _ 0 _ _ (0, 0) hh
          have q1 : w5.cell? ⟨W.heap.size, 1, none⟩ = some (.int .u32 (v1 : Int)) := cell_of_row _ _ 1 _ _ (0, 0) hh
          have q2 : w5.cell? ⟨W.heap.size, 2, none⟩ = some (.string n1) := cell_of_row _ _ 2 _ _ (0, 0) hh
          have q3 : w5.cell? ⟨W.heap.size, 3, none⟩ = some (.int .u8 (i1 : Int)) := cell_of_row _ _ 3 _ _ (0, 0) hh
          have q4 : w5.cell? ⟨W.heap.size, 4, none⟩ = some (.slice A l1.length c) := cell_of_row _ _ 4 _ _ (0, 0) hh
          clear hh
          go_simp
        refine Mono.wpM_norm (fun K hK => ?_); go_simp; refine hK _ ?_; clear hK K
        refine Mono.wpM_look (.agg #[.int .u32 (o2 : Int), .int .u32 (v2 : Int), .string n2, .int .u8 (i2 : Int), .slice A' l2.length c']) rfl rfl (fun w5 hc _ => ?_) ?_
        · have hh := (hc.block _ (Array.getElem?_eq_some_iff.1 HT8.out.t.gb).1).trans HT8.out.t.gb
          have q0 : w5.cell? ⟨W.heap.size + 1, 0, none⟩ = some (.int .u32 (o2 : Int)) := cell_of_row _ _ 0 _ _ (0, 0) hh
          have q1 : w5.cell? ⟨W.heap.size + 1, 1, none⟩ = some (.int .u32 (v2 : Int)) := cell_of_row _ _ 1 _ _ (0, 0) hh
          have q2 : w5.cell? ⟨W.heap.size + 1, 2, none⟩ = some (.string n2) := cell_of_row _ _ 2 _ _ (0, 0) hh
          have q3 : w5.cell? ⟨W.heap.size + 1, 3, none⟩ = some (.int .u8 (i2 : Int)) := cell_of_row _ _ 3 _ _ (0, 0) hh
          have q4 : w5.cell? ⟨W.heap.size + 1, 4, none⟩ = some (.slice A' l2.length c') := cell_of_row _ _ 4 _ _ (0, 0) hh
          clear hh
          go_simp
        refine Mono.wpM_norm (fun K hK => ?_); go_simp; refine hK _ ?_; clear hK K
        refine Mono.wpM_eff rfl rfl (fun w9 hc _ => steps_enter (sameR_any ⟨o1, v1, n1, i1, l1⟩ ⟨o2, v2, n2, i2, l2⟩ A A' c c' w9 (hA.rd.up (HT8.out.t.lo.trans (hc.mono Hsz.out)) (Nat.le_refl _) (Nat.le_trans Hsz.out hc.size)) (hA'.rd.up (HT8.out.t.lo.trans (hc.mono Hsz.out)) (Nat.le_refl _) (Nat.le_trans Hsz.out hc.size)) (by simp only [maxLen]; omega) (by simp only [maxLen]; omega)) (by go_simp; exact ⟨rfl, rfl⟩) (bool_val Hsv rfl)) ?_
        rintro s22 ⟨_, rfl⟩
        first | (refine Mono.wpM_all rfl rfl (fun K hK => ?_); go_simp; refine hK _ ?_; clear hK K) | (refine Mono.wpM_skip rfl ?_)
        first | (refine Mono.wpM_all rfl rfl (fun K hK => ?_); go_simp; refine hK _ ?_; clear hK K) | (refine Mono.wpM_skip rfl ?_)
        first | (refine Mono.wpM_all rfl rfl (fun K hK => ?_); go_simp; refine hK _ ?_; clear hK K) | (refine Mono.wpM_skip rfl ?_)
        first | (refine Mono.wpM_all rfl rfl (fun K hK => ?_); go_simp; refine hK _ ?_; clear hK K) | (refine Mono.wpM_skip rfl ?_)
        refine Mono.wpM_norm (fun K hK => ?_); go_simp; refine hK _ ?_; clear hK K
        refine Mono.wpM_look (.agg #[.int .u32 (o1 : Int), .int .u32 (v1 : Int)]) rfl rfl (fun w5 hc _ => ?_) ?_
        · have hh := (hc.block _ (Array.getElem?_eq_some_iff.1 HT8.out.gx).1).trans HT8.out.gx
          have q0 : w5.cell? ⟨g4, 0, none⟩ = some (.int .u32 (o1 : Int)) := cell_of_row _ _ 0 _ _ (0, 0) hh
          have q1 : w5.cell? ⟨g4, 1, none⟩ = some (.int .u32 (v1 : Int)) := cell_of_row _ _ 1 _ _ (0, 0) hh
          clear hh
          go_simp
        first | (refine Mono.wpM_all rfl rfl (fun K hK => ?_); go_simp; refine hK _ ?_; clear hK K) | (refine Mono.wpM_skip rfl ?_)
        refine Mono.wpM_norm (fun K hK => ?_); go_simp; refine hK _ ?_; clear hK K
        refine Mono.wpM_look (.agg #[.int .u32 (o2 : Int), .int .u32 (v2 : Int)]) rfl rfl (fun w5 hc _ => ?_) ?_
        · have hh := (hc.block _ (Array.getElem?_eq_some_iff.1 HT8.out.gy).1).trans HT8.out.gy
          have q0 : w5.cell? ⟨g5, 0, none⟩ = some (.int .u32 (o2 : Int)) := cell_of_row _ _ 0 _ _ (0, 0) hh
          have q1 : w5.cell? ⟨g5, 1, none⟩ = some (.int .u32 (v2 : Int)) := cell_of_row _ _ 1 _ _ (0, 0) hh
          clear hh
          go_simp
        refine Mono.wpM_norm (fun K hK => ?_); go_simp; refine hK _ ?_; clear hK K
        refine Mono.wpM_eff rfl rfl (fun w9 hc _ => steps_enter (refCompare_any o1 v1 o2 v2 w9) (by go_simp) (cmp_val Hρ rfl)) ?_
        rintro s30 ⟨_, rfl⟩
        first | (refine Mono.wpM_all rfl rfl (fun K hK => ?_); go_simp; refine hK _ ?_; clear hK K) | (refine Mono.wpM_skip rfl ?_)
        first | (refine Mono.wpM_all rfl rfl (fun K hK => ?_); go_simp; refine hK _ ?_; clear hK K) | (refine Mono.wpM_skip rfl ?_)
        first | (refine Mono.wpM_all rfl rfl (fun K hK => ?_); go_simp; refine hK _ ?_; clear hK K) | (refine Mono.wpM_skip rfl ?_)
        refine Mono.wpM_nil fun w9 hc9 _ => ?_
        have T9 := HT8.out.up hc9
        have hb9 : Below w9.heap.size w9 (w9.alloc (.cells #[.int .i64 (-1)] 3)) := (Below.refl _ _).alloc (Nat.le_refl _) _
        have T10 := T9.up hb9
        clear hc9 HT8 Hsz HRe8 HRf8 hb9
        have x0 : (w9.alloc (.cells #[.int .i64 (-1)] 3)).cell? ⟨g4, 0, none⟩ = some (.int .u32 (o1 : Int)) := cell_of_row _ _ 0 _ _ (0, 0) T10.gx
        have x1 : (w9.alloc (.cells #[.int .i64 (-1)] 3)).cell? ⟨g4, 1, none⟩ = some (.int .u32 (v1 : Int)) := cell_of_row _ _ 1 _ _ (0, 0) T10.gx
        have x2 : (w9.alloc (.cells #[.int .i64 (-1)] 3)).cell? ⟨g4, 2, none⟩ = some (.string n1) := cell_of_row _ _ 2 _ _ (0, 0) T10.gx
        have x3 : (w9.alloc (.cells #[.int .i64 (-1)] 3)).cell? ⟨g4, 3, none⟩ = some (.int .u8 (i1 : Int)) := cell_of_row _ _ 3 _ _ (0, 0) T10.gx
        have x4 : (w9.alloc (.cells #[.int .i64 (-1)] 3)).cell? ⟨g4, 4, none⟩ = some (.slice A1 l1.length c1) := cell_of_row _ _ 4 _ _ (0, 0) T10.gx
        have HT9 := Lib.hid T9; clear T9
        have HT10 := Lib.hid T10; clear T10
        go_simp
        go_wp2_with fail
        refine (callsIn_wide.1 (keys_in Fence.wide 9 trivial rfl ⟨o1, v1, n1, i1, l1⟩ A1 c1 _)).mono ?_
        rintro e w10 ⟨rfl, rfl⟩
        clear x0 x1 x2 x3 x4
        go_wp2_with fail
        rename_i Kz hKz
        refine tells_loop o1 v1 n1 i1 l1 ⟨o2, v2, n2, i2, l2⟩ A c A' c' A1 c1 A2 c2 g4 g5 W w9 hA HT9.out hs1 _ _ ?_
        intro D W' hD hB hb hW
        refine hKz _ _ ?_
        exact tells_end o1 v1 n1 i1 l1 ⟨o2, v2, n2, i2, l2⟩ A c A' c' A1 c1 A2 c2 g4 g5 w9.heap.size D W W' hA (HT9.out.up hB) hs1 hb hW (Nat.le_trans HT9.out.t.lo.size hD)
      · skip
        go_wp2_with fail
        have T7 := HT7.out
        refine (ahead_any o2 v2 o1 v1 _).mono ?_
        rintro e w8 ⟨rfl, hb8⟩
        have T8 := T7.up hb8
        have hRe8 := HRe7.out.up hb8 (Nat.le_refl _) hb8.size
        have hRf8 := HRf7.out.up hb8 (Nat.le_refl _) hb8.size
        clear T7 HT7 hb8 HRe7 HRf7
        rw [HA2.out]
        clear a0 a1 a2 a3 a4 b0 b1 b2 b3 b4
        have HT8 := Lib.hid T8; clear T8
        have HRf8 := Lib.hid hRf8; clear hRf8
        have HRe8 := Lib.hid hRe8; clear hRe8
        go_wp2_with fail
        have hsz := HT8.out.t.lo.size
        have Hsz := Lib.hid hsz; clear hsz
        obtain ⟨sE, hsE⟩ : ∃ s : ByteArray, (⟨(Rl.encB ⟨o1, v1, n1, i1, l1⟩).toArray⟩ : ByteArray) = s := ⟨_, rfl⟩
        obtain ⟨sv, hsv⟩ : ∃ s, Rl.same ⟨o1, v1, n1, i1, l1⟩ ⟨o2, v2, n2, i2, l2⟩ = s := ⟨_, rfl⟩
        have HsE := Lib.hid hsE; clear hsE
        have Hsv := Lib.hid hsv; clear hsv
        refine wp_region_fx (teF sE rE sv (1)) (by kernel_rfl) (by kernel_rfl) ?_
        first | (refine Mono.wpM_all rfl rfl (fun K hK => ?_); go_simp; refine hK _ ?_; clear hK K) | (refine Mono.wpM_skip rfl ?_)
        refine Mono.wpM_eff rfl rfl (fun w9 hc _ => steps_str _ (l := Rl.encB ⟨o1, v1, n1, i1, l1⟩) Try.underlying22 Try.underlying5 Try.underlying9 (rdS_of (c := ce) HRe8.out hc) (fun u w' h => run_v h) (str_val HsE rfl)) ?_
        rintro s1 ⟨_, rfl⟩
        first | (refine Mono.wpM_all rfl rfl (fun K hK => ?_); go_simp; refine hK _ ?_; clear hK K) | (refine Mono.wpM_skip rfl ?_)
        refine Mono.wpM_eff rfl rfl (fun w9 hc _ => steps_str _ (l := Rl.encB ⟨o1, v1, n1, i1, l1⟩) Try.underlying22 Try.underlying5 Try.underlying9 (rdS_of (c := cf) HRf8.out hc) (fun u w' h => run_v h) (str_val HsE rfl)) ?_
        rintro s3 ⟨_, rfl⟩
        first | (refine Mono.wpM_all rfl rfl (fun K hK => ?_); go_simp; refine hK _ ?_; clear hK K) | (refine Mono.wpM_skip rfl ?_)
        first | (refine Mono.wpM_all rfl rfl (fun K hK => ?_); go_simp; refine hK _ ?_; clear hK K) | (refine Mono.wpM_skip rfl ?_)
        first | (refine Mono.wpM_all rfl rfl (fun K hK => ?_); go_simp; refine hK _ ?_; clear hK K) | (refine Mono.wpM_skip rfl ?_)
        first | (refine Mono.wpM_all rfl rfl (fun K hK => ?_); go_simp; refine hK _ ?_; clear hK K) | (refine Mono.wpM_skip rfl ?_)
        first | (refine Mono.wpM_all rfl rfl (fun K hK => ?_); go_simp; refine hK _ ?_; clear hK K) | (refine Mono.wpM_skip rfl ?_)
        first | (refine Mono.wpM_all rfl rfl (fun K hK => ?_); go_simp; refine hK _ ?_; clear hK K) | (refine Mono.wpM_skip rfl ?_)
        first | (refine Mono.wpM_all rfl rfl (fun K hK => ?_); go_simp; refine hK _ ?_; clear hK K) | (refine Mono.wpM_skip rfl ?_)
        refine Mono.wpM_norm (fun K hK => ?_); go_simp; refine hK _ ?_; clear hK K
        refine Mono.wpM_look (.agg #[.int .u32 (o1 : Int), .int .u32 (v1 : Int), .string n1, .int .u8 (i1 : Int), .slice A1 l1.length c1]) rfl rfl (fun w5 hc _ => ?_) ?_
        · have hh := (hc.block _ (Array.getElem?_eq_some_iff.1 HT8.out.gx).1).trans HT8.out.gx
          have q0 : w5.cell? ⟨g4, 0, none⟩ = some (.int .u32 (o1 : Int)) := cell_of_row _ _ 0 _ _ (0, 0) hh
          have q1 : w5.cell? ⟨g4, 1, none⟩ = some (.int .u32 (v1 : Int)) := cell_of_row _ _ 1 _ _ (0, 0) hh
          have q2 : w5.cell? ⟨g4, 2, none⟩ = some (.string n1) := cell_of_row _ _ 2 _ _ (0, 0) hh
          have q3 : w5.cell? ⟨g4, 3, none⟩ = some (.int .u8 (i1 : Int)) := cell_of_row _ _ 3 _ _ (0, 0) hh
          have q4 : w5.cell? ⟨g4, 4, none⟩ = some (.slice A1 l1.length c1) := cell_of_row _ _ 4 _ _ (0, 0) hh
          clear hh
          go_simp
        refine Mono.wpM_norm (fun K hK => ?_); go_simp; refine hK _ ?_; clear hK K
        refine Mono.wpM_eff rfl rfl (fun w9 hc _ => steps_enter (right_any ⟨o1, v1, n1, i1, l1⟩ A1 c1 w9 (HT8.out.rx.up hc (Nat.le_refl _) hc.size).rd HT8.out.rx.lc HT8.out.rx.cm oa.nm oa.nms) (by go_simp; rfl) (cmp_val Hr5 rfl)) ?_
        rintro s12 ⟨_, rfl⟩
        first | (refine Mono.wpM_all rfl rfl (fun K hK => ?_); go_simp; refine hK _ ?_; clear hK K) | (refine Mono.wpM_skip rfl ?_)
        first | (refine Mono.wpM_all rfl rfl (fun K hK => ?_); go_simp; refine hK _ ?_; clear hK K) | (refine Mono.wpM_skip rfl ?_)
        first | (refine Mono.wpM_all rfl rfl (fun K hK => ?_); go_simp; refine hK _ ?_; clear hK K) | (refine Mono.wpM_skip rfl ?_)
        first | (refine Mono.wpM_all rfl rfl (fun K hK => ?_); go_simp; refine hK _ ?_; clear hK K) | (refine Mono.wpM_skip rfl ?_)
        refine Mono.wpM_norm (fun K hK => ?_); go_simp; refine hK _ ?_; clear hK K
        refine Mono.wpM_look (.agg #[.int .u32 (o1 : Int), .int .u32 (v1 : Int), .string n1, .int .u8 (i1 : Int), .slice A1 l1.length c1]) rfl rfl (fun w5 hc _ => ?_) ?_
        · have hh := (hc.block _ (Array.getElem?_eq_some_iff.1 HT8.out.gx).1).trans HT8.out.gx
          have q0 : w5.cell? ⟨g4, 0, none⟩ = some (.int .u32 (o1 : Int)) := cell_of_row _ _ 0 _ _ (0, 0) hh
          have q1 : w5.cell? ⟨g4, 1, none⟩ = some (.int .u32 (v1 : Int)) := cell_of_row _ _ 1 _ _ (0, 0) hh
          have q2 : w5.cell? ⟨g4, 2, none⟩ = some (.string n1) := cell_of_row _ _ 2 _ _ (0, 0) hh
          have q3 : w5.cell? ⟨g4, 3, none⟩ = some (.int .u8 (i1 : Int)) := cell_of_row _ _ 3 _ _ (0, 0) hh
          have q4 : w5.cell? ⟨g4, 4, none⟩ = some (.slice A1 l1.length c1) := cell_of_row _ _ 4 _ _ (0, 0) hh
          clear hh
          go_simp
        refine Mono.wpM_norm (fun K hK => ?_); go_simp; refine hK _ ?_; clear hK K
        refine Mono.wpM_look (.agg #[.int .u32 (o2 : Int), .int .u32 (v2 : Int), .string n2, .int .u8 (i2 : Int), .slice A2 l2.length c2]) rfl rfl (fun w5 hc _ => ?_) ?_
        · have hh := (hc.block _ (Array.getElem?_eq_some_iff.1 HT8.out.gy).1).trans HT8.out.gy
          have q0 : w5.cell? ⟨g5, 0, none⟩ = some (.int .u32 (o2 : Int)) := cell_of_row _ _ 0 _ _ (0, 0) hh
          have q1 : w5.cell? ⟨g5, 1, none⟩ = some (.int .u32 (v2 : Int)) := cell_of_row _ _ 1 _ _ (0, 0) hh
          have q2 : w5.cell? ⟨g5, 2, none⟩ = some (.string n2) := cell_of_row _ _ 2 _ _ (0, 0) hh
          have q3 : w5.cell? ⟨g5, 3, none⟩ = some (.int .u8 (i2 : Int)) := cell_of_row _ _ 3 _ _ (0, 0) hh
          have q4 : w5.cell? ⟨g5, 4, none⟩ = some (.slice A2 l2.length c2) := cell_of_row _ _ 4 _ _ (0, 0) hh
          clear hh
          go_simp
        refine Mono.wpM_norm (fun K hK => ?_); go_simp; refine hK _ ?_; clear hK K
        refine Mono.wpM_eff rfl rfl (fun w9 hc _ => steps_enter (same_any ⟨o1, v1, n1, i1, l1⟩ ⟨o2, v2, n2, i2, l2⟩ A1 A2 c1 c2 w9 (HT8.out.rx.up hc (Nat.le_refl _) hc.size).rd (HT8.out.ry.up hc (Nat.le_refl _) hc.size).rd (by simp only [maxLen]; omega)) (by go_simp; exact ⟨rfl, rfl⟩) (bool_val Hsv rfl)) ?_
        rintro s19 ⟨_, rfl⟩
        refine Mono.wpM_norm (fun K hK => ?_); go_simp; refine hK _ ?_; clear hK K
        refine Mono.wpM_look (.agg #[.int .u32 (o1 : Int), .int .u32 (v1 : Int), .string n1, .int .u8 (i1 : Int), .slice A l1.length c]) rfl rfl (fun w5 hc _ => ?_) ?_
        · have hh := (hc.block _ (Array.getElem?_eq_some_iff.1 HT8.out.t.ga).1).trans HT8.out.t.ga
          have q0 : w5.cell? ⟨W.heap.size, 0, none⟩ = some (.int .u32 (o1 : Int)) := cell_of_row _ _ 0 _ _ (0, 0) hh
          have q1 : w5.cell? ⟨W.heap.size, 1, none⟩ = some (.int .u32 (v1 : Int)) := cell_of_row _ _ 1 _ _ (0, 0) hh
          have q2 : w5.cell? ⟨W.heap.size, 2, none⟩ = some (.string n1) := cell_of_row _ _ 2 _ _ (0, 0) hh
          have q3 : w5.cell? ⟨W.heap.size, 3, none⟩ = some (.int .u8 (i1 : Int)) := cell_of_row _ _ 3 _ _ (0, 0) hh
          have q4 : w5.cell? ⟨W.heap.size, 4, none⟩ = some (.slice A l1.length c) := cell_of_row _ _ 4 _ _ (0, 0) hh
          clear hh
          go_simp
        refine Mono.wpM_norm (fun K hK => ?_); go_simp; refine hK _ ?_; clear hK K
        refine Mono.wpM_look (.agg #[.int .u32 (o2 : Int), .int .u32 (v2 : Int), .string n2, .int .u8 (i2 : Int), .slice A' l2.length c']) rfl rfl (fun w5 hc _ => ?_) ?_
        · have hh := (hc.block _ (Array.getElem?_eq_some_iff.1 HT8.out.t.gb).1).trans HT8.out.t.gb
          have q0 : w5.cell? ⟨W.heap.size + 1, 0, none⟩ = some (.int .u32 (o2 : Int)) := cell_of_row _ _ 0 _ _ (0, 0) hh
          have q1 : w5.cell? ⟨W.heap.size + 1, 1, none⟩ = some (.int .u32 (v2 : Int)) := cell_of_row _ _ 1 _ _ (0, 0) hh
          have q2 : w5.cell? ⟨W.heap.size + 1, 2, none⟩ = some (.string n2) := cell_of_row _ _ 2 _ _ (0, 0) hh
          have q3 : w5.cell? ⟨W.heap.size + 1, 3, none⟩ = some (.int .u8 (i2 : Int)) := cell_of_row _ _ 3 _ _ (0, 0) hh
          have q4 : w5.cell? ⟨W.heap.size + 1, 4, none⟩ = some (.slice A' l2.length c') := cell_of_row _ _ 4 _ _ (0, 0) hh
          clear hh
          go_simp
        refine Mono.wpM_norm (fun K hK => ?_); go_simp; refine hK _ ?_; clear hK K
        refine Mono.wpM_eff rfl rfl (fun w9 hc _ => steps_enter (sameR_any ⟨o1, v1, n1, i1, l1⟩ ⟨o2, v2, n2, i2, l2⟩ A A' c c' w9 (hA.rd.up (HT8.out.t.lo.trans (hc.mono Hsz.out)) (Nat.le_refl _) (Nat.le_trans Hsz.out hc.size)) (hA'.rd.up (HT8.out.t.lo.trans (hc.mono Hsz.out)) (Nat.le_refl _) (Nat.le_trans Hsz.out hc.size)) (by simp only [maxLen]; omega) (by simp only [maxLen]; omega)) (by go_simp; exact ⟨rfl, rfl⟩) (bool_val Hsv rfl)) ?_
        rintro s22 ⟨_, rfl⟩
        first | (refine Mono.wpM_all rfl rfl (fun K hK => ?_); go_simp; refine hK _ ?_; clear hK K) | (refine Mono.wpM_skip rfl ?_)
        first | (refine Mono.wpM_all rfl rfl (fun K hK => ?_); go_simp; refine hK _ ?_; clear hK K) | (refine Mono.wpM_skip rfl ?_)
        first | (refine Mono.wpM_all rfl rfl (fun K hK => ?_); go_simp; refine hK _ ?_; clear hK K) | (refine Mono.wpM_skip rfl ?_)
        first | (refine Mono.wpM_all rfl rfl (fun K hK => ?_); go_simp; refine hK _ ?_; clear hK K) | (refine Mono.wpM_skip rfl ?_)
        refine Mono.wpM_norm (fun K hK => ?_); go_simp; refine hK _ ?_; clear hK K
        refine Mono.wpM_look (.agg #[.int .u32 (o1 : Int), .int .u32 (v1 : Int)]) rfl rfl (fun w5 hc _ => ?_) ?_
        · have hh := (hc.block _ (Array.getElem?_eq_some_iff.1 HT8.out.gx).1).trans HT8.out.gx
          have q0 : w5.cell? ⟨g4, 0, none⟩ = some (.int .u32 (o1 : Int)) := cell_of_row _ _ 0 _ _ (0, 0) hh
          have q1 : w5.cell? ⟨g4, 1, none⟩ = some (.int .u32 (v1 : Int)) := cell_of_row _ _ 1 _ _ (0, 0) hh
          clear hh
          go_simp
        first | (refine Mono.wpM_all rfl rfl (fun K hK => ?_); go_simp; refine hK _ ?_; clear hK K) | (refine Mono.wpM_skip rfl ?_)
        refine Mono.wpM_norm (fun K hK => ?_); go_simp; refine hK _ ?_; clear hK K
        refine Mono.wpM_look (.agg #[.int .u32 (o2 : Int), .int .u32 (v2 : Int)]) rfl rfl (fun w5 hc _ => ?_) ?_
        · have hh := (hc.block _ (Array.getElem?_eq_some_iff.1 HT8.out.gy).1).trans HT8.out.gy
          have q0 : w5.cell? ⟨g5, 0, none⟩ = some (.int .u32 (o2 : Int)) := cell_of_row _ _ 0 _ _ (0, 0) hh
          have q1 : w5.cell? ⟨g5, 1, none⟩ = some (.int .u32 (v2 : Int)) := cell_of_row _ _ 1 _ _ (0, 0) hh
          clear hh
          go_simp
        refine Mono.wpM_norm (fun K hK => ?_); go_simp; refine hK _ ?_; clear hK K
        refine Mono.wpM_eff rfl rfl (fun w9 hc _ => steps_enter (refCompare_any o1 v1 o2 v2 w9) (by go_simp) (cmp_val Hρ rfl)) ?_
        rintro s30 ⟨_, rfl⟩
        first | (refine Mono.wpM_all rfl rfl (fun K hK => ?_); go_simp; refine hK _ ?_; clear hK K) | (refine Mono.wpM_skip rfl ?_)
        first | (refine Mono.wpM_all rfl rfl (fun K hK => ?_); go_simp; refine hK _ ?_; clear hK K) | (refine Mono.wpM_skip rfl ?_)
        first | (refine Mono.wpM_all rfl rfl (fun K hK => ?_); go_simp; refine hK _ ?_; clear hK K) | (refine Mono.wpM_skip rfl ?_)
        refine Mono.wpM_nil fun w9 hc9 _ => ?_
        have T9 := HT8.out.up hc9
        have hb9 : Below w9.heap.size w9 (w9.alloc (.cells #[.int .i64 (-1)] 3)) := (Below.refl _ _).alloc (Nat.le_refl _) _
        have T10 := T9.up hb9
        clear hc9 HT8 Hsz HRe8 HRf8 hb9
        have x0 : (w9.alloc (.cells #[.int .i64 (-1)] 3)).cell? ⟨g4, 0, none⟩ = some (.int .u32 (o1 : Int)) := cell_of_row _ _ 0 _ _ (0, 0) T10.gx
        have x1 : (w9.alloc (.cells #[.int .i64 (-1)] 3)).cell? ⟨g4, 1, none⟩ = some (.int .u32 (v1 : Int)) := cell_of_row _ _ 1 _ _ (0, 0) T10.gx
        have x2 : (w9.alloc (.cells #[.int .i64 (-1)] 3)).cell? ⟨g4, 2, none⟩ = some (.string n1) := cell_of_row _ _ 2 _ _ (0, 0) T10.gx
        have x3 : (w9.alloc (.cells #[.int .i64 (-1)] 3)).cell? ⟨g4, 3, none⟩ = some (.int .u8 (i1 : Int)) := cell_of_row _ _ 3 _ _ (0, 0) T10.gx
        have x4 : (w9.alloc (.cells #[.int .i64 (-1)] 3)).cell? ⟨g4, 4, none⟩ = some (.slice A1 l1.length c1) := cell_of_row _ _ 4 _ _ (0, 0) T10.gx
        have HT9 := Lib.hid T9; clear T9
        have HT10 := Lib.hid T10; clear T10
        go_simp
        go_wp2_with fail
        refine (callsIn_wide.1 (keys_in Fence.wide 9 trivial rfl ⟨o1, v1, n1, i1, l1⟩ A1 c1 _)).mono ?_
        rintro e w10 ⟨rfl, rfl⟩
        clear x0 x1 x2 x3 x4
        go_wp2_with fail
        rename_i Kz hKz
        refine tells_loop o1 v1 n1 i1 l1 ⟨o2, v2, n2, i2, l2⟩ A c A' c' A1 c1 A2 c2 g4 g5 W w9 hA HT9.out hs1 _ _ ?_
        intro D W' hD hB hb hW
        refine hKz _ _ ?_
        exact tells_end o1 v1 n1 i1 l1 ⟨o2, v2, n2, i2, l2⟩ A c A' c' A1 c1 A2 c2 g4 g5 w9.heap.size D W W' hA (HT9.out.up hB) hs1 hb hW (Nat.le_trans HT9.out.t.lo.size hD)
    · clear hg2 hgr1
      have cr := T3.gr.cell
      have fr := T3.gr.frozen
      have HT := Lib.hid T3; clear T3
      go_wp2
      have T3 := HT.out
      have cr2 := (T3.gr.set (.bool true)).cell
      refine ⟨.bool true, ?_, rfl, T3.lo.setCell (p := ⟨W.heap.size + 1 + 1, 0, none⟩) (by simp; omega) _⟩
      simp [results, Try.f10, go_sem, cr2]
  · clear hg1
    have cr := T2.gr.cell
    have fr := T2.gr.frozen
    have HT := Lib.hid T2; clear T2
    go_wp2
    have T2 := HT.out
    have cr2 := (T2.gr.set (.bool true)).cell
    refine ⟨.bool true, ?_, rfl, T2.lo.setCell (p := ⟨W.heap.size + 1 + 1, 0, none⟩) (by simp; omega) _⟩
    simp [results, Try.f10, go_sem, cr2]
end Go.Proofs.Ytcblmcpmdpnlbaa
