/-
  Layer 8: RelBack, the walk.
-/
import Derived.Test.YtcblmcpmdpnlbaaDi
import Derived.Test.YtcblmcpmdpnlbaaRf1
namespace Go.Proofs.Ytcblmcpmdpnlbaa
open Go.RowKit
attribute [local go_sem] Mono.pureAt Mono.pureUpon
attribute [local irreducible] Mono.steps Mono.wpM

/-- The relation that came in lies boxed; the world is a later one. -/
structure Rb (r : Rl) (A : Option Addr) (c : Nat) (A' : Option Addr) (l : List UInt8) (W w : World) : Prop where
  lo : Below W.heap.size W w
  ga : w.heap[W.heap.size]? = some (.cells (r.cells (.slice A r.cs.length c)) 65 (0, 0))
  ra : RlAt w w.heap.size r A c
  rb : Rd w w.heap.size 1 A' l.length (byt l)
theorem Rb.up {r : Rl} {A : Option Addr} {c : Nat} {A' : Option Addr} {l : List UInt8} {W w w' : World} (h : Rb r A c A' l W w) (hb : Below w.heap.size w w') : Rb r A c A' l W w' :=
  ⟨h.lo.trans (hb.mono h.lo.size), (hb.block _ (Array.getElem?_eq_some_iff.1 h.ga).1).trans h.ga, h.ra.up hb (Nat.le_refl _) hb.size, h.rb.up hb (Nat.le_refl _) hb.size⟩
theorem Rb.row {r : Rl} {A : Option Addr} {c : Nat} {A' : Option Addr} {l : List UInt8} {W w : World} (h : Rb r A c A' l W w) (o1 v1 i1 : Nat) (n1 : ByteArray) (cs : List Col) (hr : r = ⟨o1, v1, n1, i1, cs⟩) :
    w.cell? ⟨W.heap.size, 0, none⟩ = some (.int .u32 (o1 : Int)) ∧ w.cell? ⟨W.heap.size, 1, none⟩ = some (.int .u32 (v1 : Int)) ∧ w.cell? ⟨W.heap.size, 2, none⟩ = some (.string n1) ∧ w.cell? ⟨W.heap.size, 3, none⟩ = some (.int .u8 (i1 : Int)) ∧ w.cell? ⟨W.heap.size, 4, none⟩ = some (.slice A cs.length c) := by
  subst hr
  exact ⟨row_cell h.ga 0, row_cell h.ga 1, row_cell h.ga 2, row_cell h.ga 3, row_cell h.ga 4⟩
def rbF (r : Rl) : Nat → Option Fact
  | 4 => some (.rl r)
  | 6 => some (.val (.bool true))
  | _ => none

set_option maxRecDepth 100000 in
set_option maxHeartbeats 6400000 in
theorem relBack_walk (r : Rl) (A : Option Addr) (c : Nat) (A' : Option Addr) (c' : Nat) (l : List UInt8) (cut : Nat) (W : World) (hA : RlAt W W.heap.size r A c) (oa : RlOk r) (hl : Rd W W.heap.size 1 A' l.length (byt l)) (hlc : l.length ≤ c') (hcm : c' ≤ maxLen) (hcut : cut < 65536) :
    Calls Try.prog 12 #[r.v A c, .slice A' l.length c', .int .u16 (cut : Int)] W (RetB true W) := by
  obtain ⟨⟨o5, v5, n5, i5, cs5⟩, z5, hD, hok5, hcl5, hyes, hno⟩ : ∃ (r5 : Rl) (z5 : Int), (∀ w', Rd w' w'.heap.size 1 A' l.length (byt l) → l.length ≤ 1048576 → Calls Try.prog 49 #[.slice A' l.length c'] w' (fun en w2 => ∃ A c, en = .returned (.tuple #[r5.v A c, .int .i64 z5]) ∧ RlAt w2 w2.heap.size r5 A c ∧ Below w'.heap.size w' w2)) ∧ RlOk r5 ∧ r5.cs.length ≤ 16 ∧ (z5 = 0 → r5.rightE = 0 ∧ r5.bytes = l) ∧ (z5 ≠ 0 → r5 = ⟨0, 0, ⟨#[]⟩, 0, []⟩) :=
    ⟨dcV l, dcE l, fun w' h h2 => decode_any A' c' l w' h h2, dcV_ok l, dcV_cols l, dc_only, fun h => by unfold dcV; rw [if_neg h]⟩
  unfold Rl.v at hD
  simp only at hD hcl5
  have HD := Lib.hid hD; have Hok5 := Lib.hid hok5; have Hyes := Lib.hid hyes; have Hno := Lib.hid hno; clear hD hok5 hyes hno
  have ea := Rl.v_cells r A c
  have hlm : l.length ≤ 9223372036854775807 := Nat.le_trans hlc hcm
  have la := hA.lc
  have lca := hA.cm
  have T0 : Rb r A c A' l W (W.alloc (.cells (r.cells (.slice A r.cs.length c)) 65)) := by
    have hb : Below W.heap.size W (W.alloc (.cells (r.cells (.slice A r.cs.length c)) 65)) := (Below.refl _ _).alloc (Nat.le_refl _) _
    exact ⟨hb, heap_alloc_new W _, hA.up hb (Nat.le_refl _) hb.size, hl.up hb (Nat.le_refl _) hb.size⟩
  obtain ⟨o1, v1, n1, i1, cs⟩ := r
  rw [ea]
  simp only [Rl.cells] at *
  clear ea
  obtain ⟨a0, a1, a2, a3, a4⟩ := T0.row _ _ _ _ _ rfl
  have HT0 := Lib.hid T0; clear T0
  have HA := Lib.hid hA; have HL := Lib.hid hl; have Oa := Lib.hid oa; clear hA hl oa
  go_enter Try.func12, Try.ntmps12
  go_wp2_with fail
  generalize W.alloc _ = w1 at *
  refine (great_any ⟨o1, v1, n1, i1, cs⟩ A c _ HT0.out.ra.rd (by simp only; omega) Oa.out.nm Oa.out.nms).mono ?_
  rintro e w2 ⟨rfl, hb2⟩
  have T2 := HT0.out.up hb2
  clear hb2 HT0 a0 a1 a2 a3 a4
  cases hg1 : Rl.great ⟨o1, v1, n1, i1, cs⟩
  · have hsm : cs.length ≤ 30 := by
      have h1 := hg1
      unfold Rl.great at h1
      simp at h1
      omega
    have Hg := Lib.hid hg1; clear hg1
    by_cases hgt : 900 < l.length
    · have hd : decide ((900 : Int) < (l.length : Int)) = true := decide_eq_true (by omega)
      have HT2 := Lib.hid T2; clear T2
      go_wp2
      go_ret
      exact ⟨rfl, HT2.out.lo⟩
    · have hd : decide ((900 : Int) < (l.length : Int)) = false := decide_eq_false (by omega)
      obtain ⟨a0, a1, a2, a3, a4⟩ := T2.row _ _ _ _ _ rfl
      have HT2 := Lib.hid T2; clear T2
      go_wp2_with fail
      refine (own_any ⟨o1, v1, n1, i1, cs⟩ A c _ HT2.out.ra.rd (by simp only; omega)).mono ?_
      rintro e w3 ⟨col, rfl, hown, hb3⟩
      obtain ⟨A1, c1, rfl, h1, h2, h3⟩ := Rd.of_own hown
      have T3 := HT2.out.up hb3
      have H3 : RlAt w3 w3.heap.size ⟨o1, v1, n1, i1, cs⟩ A1 c1 := ⟨h3, h1, h2⟩
      simp only [Rl.cells] at *
      have HT3 := Lib.hid T3; clear T3 HT2 hown h3 hb3 a0 a1 a2 a3 a4
      go_wp2_with fail
      refine (encode_any ⟨o1, v1, n1, i1, cs⟩ A1 c1 _ H3.rd H3.lc H3.cm Oa.out.nm Oa.out.nms Oa.out.o Oa.out.v).mono ?_
      rintro e w4 ⟨A2, n2, c2, rfl, hn2, hc2, hR2, hb4⟩
      have T4 := HT3.out.up hb4
      have HT4 := Lib.hid T4; clear T4 HT3 hb4 H3
      have HR2 := Lib.hid hR2; clear hR2
      by_cases hz : Rl.rightE ⟨o1, v1, n1, i1, cs⟩ = 0
      · have hok := Rl.ok_of hz
        have hfine := hok.fine Oa.out.o Oa.out.v
        have hen : Rl.encB ⟨o1, v1, n1, i1, cs⟩ = Rl.bytes ⟨o1, v1, n1, i1, cs⟩ := by unfold Rl.encB; rw [if_pos hz]
        rw [hz]
        have HZ := Lib.hid hz; clear hz
        have hR2 := HR2.out
        rw [hen] at hR2
        have hlen := hR2.len1
        rw [byt_len] at hlen
        subst hlen
        have hle := Rl.bytes_le hfine
        have hb1 : 2 ≤ (Rl.bytes ⟨o1, v1, n1, i1, cs⟩).length := by
          have := sevens_one o1
          have := sevens_one v1
          unfold Rl.bytes Rl.head
          simp only [List.length_append]
          omega
        have hdec : ∀ w', Rd w' w'.heap.size 1 A2 (Rl.bytes ⟨o1, v1, n1, i1, cs⟩).length (byt (Rl.bytes ⟨o1, v1, n1, i1, cs⟩)) → Calls Try.prog 49 #[.slice A2 (Rl.bytes ⟨o1, v1, n1, i1, cs⟩).length c2] w' (fun en w2 => ∃ A c, en = .returned (.tuple #[.agg #[.int .u32 (o1 : Int), .int .u32 (v1 : Int), .string n1, .int .u8 (i1 : Int), .slice A cs.length c], .int .i64 0]) ∧ RlAt w2 w2.heap.size ⟨o1, v1, n1, i1, cs⟩ A c ∧ Below w'.heap.size w' w2) := fun w' h => by
          have := decode_any A2 c2 _ w' h (by omega)
          unfold RetDc at this
          rw [(dcE_back hfine HZ.out).1, (dcE_back hfine HZ.out).2] at this
          exact this
        have hcutd : ∀ k w', k < (Rl.bytes ⟨o1, v1, n1, i1, cs⟩).length → Rd w' w'.heap.size 1 A2 (Rl.bytes ⟨o1, v1, n1, i1, cs⟩).length (byt (Rl.bytes ⟨o1, v1, n1, i1, cs⟩)) → Calls Try.prog 49 #[.slice A2 k c2] w' (fun en w2 => ∃ A c, en = .returned (.tuple #[.agg #[.int .u32 0, .int .u32 0, .string ⟨#[]⟩, .int .u8 0, .slice A 0 c], .int .i64 1]) ∧ Below w'.heap.size w' w2) := fun k w' hk h => by
          have h2 := h.take_ (m := k) (by omega)
          have hlk : ((Rl.bytes ⟨o1, v1, n1, i1, cs⟩).take k).length = k := by rw [List.length_take]; omega
          have h3 := decode_any A2 c2 ((Rl.bytes ⟨o1, v1, n1, i1, cs⟩).take k) w' (by rw [hlk]; simpa [byt, List.map_take] using h2) (by omega)
          rw [hlk] at h3
          refine h3.mono ?_
          rintro e w2 ⟨A9, c9, rfl, _, hb⟩
          have he := dcE_cut hfine hk
          have hv : dcV ((Rl.bytes ⟨o1, v1, n1, i1, cs⟩).take k) = ⟨0, 0, ⟨#[]⟩, 0, []⟩ := by unfold dcV; rw [if_neg (by rw [he]; omega)]
          exact ⟨A9, c9, by rw [he, hv]; rfl, hb⟩
        have hrd := HR2.out
        rw [hen] at hrd
        have Hdec := Lib.hid hdec; have Hcutd := Lib.hid hcutd; have Hrd := Lib.hid hrd
        clear hdec hcutd hrd hR2 hen hok hfine HZ
        generalize Rl.bytes ⟨o1, v1, n1, i1, cs⟩ = bs at *
        go_wp2_with fail
        refine (Hdec.out _ Hrd.out).mono ?_
        rintro e w5 ⟨A5, c5, rfl, hR5, hb5⟩
        have T5 := HT4.out.up hb5
        have hb6 : Below w5.heap.size w5 (w5.alloc (.cells #[.int .u32 (o1 : Int), .int .u32 (v1 : Int), .string n1, .int .u8 (i1 : Int), .slice A5 cs.length c5] 69)) := (Below.refl _ _).alloc (Nat.le_refl _) _
        have T6 := T5.up hb6
        have hR6 := hR5.alloc (.cells #[.int .u32 (o1 : Int), .int .u32 (v1 : Int), .string n1, .int .u8 (i1 : Int), .slice A5 cs.length c5] 69)
        have hx6 := heap_alloc_new w5 (.cells #[.int .u32 (o1 : Int), .int .u32 (v1 : Int), .string n1, .int .u8 (i1 : Int), .slice A5 cs.length c5] 69)
        have hrd6 := (Hrd.out.up hb5 (Nat.le_refl _) hb5.size).up hb6 (Nat.le_refl _) hb6.size
        have HT6 := Lib.hid T6; have HR6 := Lib.hid hR6; have Hx6 := Lib.hid hx6; have Hrd6 := Lib.hid hrd6
        clear T5 T6 hR5 hR6 hx6 hrd6 hb6 hb5 HT4 Hrd
        obtain ⟨k, hk⟩ : ∃ k : Nat, cut % bs.length = k := ⟨_, rfl⟩
        have hklt : k < bs.length := by rw [← hk]; exact Nat.mod_lt _ (by omega)
        have hmod : (cut : Int) % (bs.length : Int) = (k : Int) := by rw [← hk]; exact (Int.natCast_emod _ _).symm
        have Hk := Lib.hid hk; clear hk
        have hone : (1 : Int) < (bs.length : Int) := by omega
        go_wp2_with fail
        generalize hg5 : w5.heap.size = g5 at *
        clear hg5
        generalize w5.alloc _ = w6 at *
        refine (Hcutd.out k _ hklt Hrd6.out).mono ?_
        rintro e w7 ⟨A7, c7, rfl, hb7⟩
        have T7 := HT6.out.up hb7
        have hR7 := HR6.out.up hb7 (Nat.le_refl _) hb7.size
        have hx7 := (hb7.block _ (row_lt Hx6.out)).trans Hx6.out
        have hb8 : Below w7.heap.size w7 (w7.alloc (.cells #[.int .u32 0, .int .u32 0, .string ⟨#[]⟩, .int .u8 0, .slice A7 0 c7] 69)) := (Below.refl _ _).alloc (Nat.le_refl _) _
        have T8 := T7.up hb8
        have hR8 := hR7.alloc (.cells #[.int .u32 0, .int .u32 0, .string ⟨#[]⟩, .int .u8 0, .slice A7 0 c7] 69)
        have hx8 := (hb8.block _ (row_lt hx7)).trans hx7
        have HT8 := Lib.hid T8; have HR8 := Lib.hid hR8; have Hx8 := Lib.hid hx8
        clear T7 T8 hR7 hR8 hx7 hx8 hb7 hb8 HT6 HR6 Hx6 Hrd6 Hcutd hmod
        go_wp2_with fail
        generalize w7.alloc _ = w8 at *
        refine wp_region_fx (rbF ⟨o1, v1, n1, i1, cs⟩) (by kernel_rfl) (by kernel_rfl) ?_
        first | (refine Mono.wpM_all rfl rfl (fun K hK => ?_); go_simp; refine hK _ ?_; clear hK K) | (refine Mono.wpM_skip rfl ?_)
        first | (refine Mono.wpM_all rfl rfl (fun K hK => ?_); go_simp; refine hK _ ?_; clear hK K) | (refine Mono.wpM_skip rfl ?_)
        first | (refine Mono.wpM_all rfl rfl (fun K hK => ?_); go_simp; refine hK _ ?_; clear hK K) | (refine Mono.wpM_skip rfl ?_)
        refine Mono.wpM_norm (fun K hK => ?_); go_simp; refine hK _ ?_; clear hK K
        refine Mono.wpM_look (.agg #[.int .u32 (o1 : Int), .int .u32 (v1 : Int), .string n1, .int .u8 (i1 : Int), .slice A5 cs.length c5]) rfl rfl (fun w9 hc _ => ?_) ?_
        · have hh := (hc.block _ (row_lt Hx8.out)).trans Hx8.out
          have q0 : w9.cell? ⟨g5, 0, none⟩ = some (.int .u32 (o1 : Int)) := cell_of_row _ _ 0 _ _ (0, 0) hh
          have q1 : w9.cell? ⟨g5, 1, none⟩ = some (.int .u32 (v1 : Int)) := cell_of_row _ _ 1 _ _ (0, 0) hh
          have q2 : w9.cell? ⟨g5, 2, none⟩ = some (.string n1) := cell_of_row _ _ 2 _ _ (0, 0) hh
          have q3 : w9.cell? ⟨g5, 3, none⟩ = some (.int .u8 (i1 : Int)) := cell_of_row _ _ 3 _ _ (0, 0) hh
          have q4 : w9.cell? ⟨g5, 4, none⟩ = some (.slice A5 cs.length c5) := cell_of_row _ _ 4 _ _ (0, 0) hh
          clear hh
          go_simp
        refine Mono.wpM_norm (fun K hK => ?_); go_simp; refine hK _ ?_; clear hK K
        refine Mono.wpM_eff rfl rfl (fun w9 hc _ => steps_enter (back_any ⟨o1, v1, n1, i1, cs⟩ A5 c5 w9 (HR8.out.up hc (Nat.le_refl _) hc.size).rd (by simp only; omega)) (by go_simp; rfl) (rl_val rfl)) ?_
        rintro s4 ⟨w9, A9, c9, rfl, -⟩
        refine Mono.wpM_norm (fun K hK => ?_); go_simp; refine hK _ ?_; clear hK K
        refine Mono.wpM_look (.agg #[.int .u32 (o1 : Int), .int .u32 (v1 : Int), .string n1, .int .u8 (i1 : Int), .slice A cs.length c]) rfl rfl (fun w9 hc _ => ?_) ?_
        · obtain ⟨q0, q1, q2, q3, q4⟩ := (HT8.out.up hc).row _ _ _ _ _ rfl
          go_simp
        refine Mono.wpM_norm (fun K hK => ?_); go_simp; refine hK _ ?_; clear hK K
        refine Mono.wpM_eff rfl rfl (fun w9 hc hd => ?_) ?_
        · have h5 : RlAt w9 w9.heap.size ⟨o1, v1, n1, i1, cs⟩ A9 c9 := by
            have := hd ⟨4, .data⟩ (by simp) rfl
            obtain ⟨A0, c0, ⟨rfl, rfl⟩, h⟩ : ∃ A c, (A9 = A ∧ c9 = c) ∧ RlAt w9 w9.heap.size ⟨o1, v1, n1, i1, cs⟩ A c := by simpa [Mono.upd, fxR, rbF, Fact.rl, Rl.v] using this
            exact h
          exact steps_enter (sameR_any ⟨o1, v1, n1, i1, cs⟩ ⟨o1, v1, n1, i1, cs⟩ A9 A c9 c w9 h5.rd (HT8.out.up hc).ra.rd (by simp only [maxLen]; omega) (by simp only [maxLen]; omega)) (by go_simp; rfl) (bool_val (Rl.same_refl _) rfl)
        rintro s6 ⟨_, rfl⟩
        first | (refine Mono.wpM_all rfl rfl (fun K hK => ?_); go_simp; refine hK _ ?_; clear hK K) | (refine Mono.wpM_skip rfl ?_)
        first | (refine Mono.wpM_all rfl rfl (fun K hK => ?_); go_simp; refine hK _ ?_; clear hK K) | (refine Mono.wpM_skip rfl ?_)
        first | (refine Mono.wpM_all rfl rfl (fun K hK => ?_); go_simp; refine hK _ ?_; clear hK K) | (refine Mono.wpM_skip rfl ?_)
        first | (refine Mono.wpM_all rfl rfl (fun K hK => ?_); go_simp; refine hK _ ?_; clear hK K) | (refine Mono.wpM_skip rfl ?_)
        first | (refine Mono.wpM_all rfl rfl (fun K hK => ?_); go_simp; refine hK _ ?_; clear hK K) | (refine Mono.wpM_skip rfl ?_)
        first | (refine Mono.wpM_all rfl rfl (fun K hK => ?_); go_simp; refine hK _ ?_; clear hK K) | (refine Mono.wpM_skip rfl ?_)
        refine Mono.wpM_nil fun w9 hc9 _ => ?_
        have T9 := HT8.out.up hc9
        have HT9 := Lib.hid T9
        clear T9 HT8 HR8 Hx8 hc9
        go_wp2_with fail
        refine (HD.out _ HT9.out.rb (by omega)).mono ?_
        rintro e w5 ⟨A5, c5, rfl, hR5, hb5⟩
        have T5 := HT9.out.up hb5
        have hb6 : Below w5.heap.size w5 (w5.alloc (.cells #[.int .u32 (o5 : Int), .int .u32 (v5 : Int), .string n5, .int .u8 (i5 : Int), .slice A5 cs5.length c5] 69)) := (Below.refl _ _).alloc (Nat.le_refl _) _
        have T6 := T5.up hb6
        have hR6 := hR5.alloc (.cells #[.int .u32 (o5 : Int), .int .u32 (v5 : Int), .string n5, .int .u8 (i5 : Int), .slice A5 cs5.length c5] 69)
        have hx6 := heap_alloc_new w5 (.cells #[.int .u32 (o5 : Int), .int .u32 (v5 : Int), .string n5, .int .u8 (i5 : Int), .slice A5 cs5.length c5] 69)
        have k0 : (w5.alloc (.cells #[.int .u32 (o5 : Int), .int .u32 (v5 : Int), .string n5, .int .u8 (i5 : Int), .slice A5 cs5.length c5] 69)).cell? ⟨w5.heap.size, 0, none⟩ = some (.int .u32 (o5 : Int)) := row_cell hx6 0
        have k1 : (w5.alloc (.cells #[.int .u32 (o5 : Int), .int .u32 (v5 : Int), .string n5, .int .u8 (i5 : Int), .slice A5 cs5.length c5] 69)).cell? ⟨w5.heap.size, 1, none⟩ = some (.int .u32 (v5 : Int)) := row_cell hx6 1
        have k2 : (w5.alloc (.cells #[.int .u32 (o5 : Int), .int .u32 (v5 : Int), .string n5, .int .u8 (i5 : Int), .slice A5 cs5.length c5] 69)).cell? ⟨w5.heap.size, 2, none⟩ = some (.string n5) := row_cell hx6 2
        have k3 : (w5.alloc (.cells #[.int .u32 (o5 : Int), .int .u32 (v5 : Int), .string n5, .int .u8 (i5 : Int), .slice A5 cs5.length c5] 69)).cell? ⟨w5.heap.size, 3, none⟩ = some (.int .u8 (i5 : Int)) := row_cell hx6 3
        have k4 : (w5.alloc (.cells #[.int .u32 (o5 : Int), .int .u32 (v5 : Int), .string n5, .int .u8 (i5 : Int), .slice A5 cs5.length c5] 69)).cell? ⟨w5.heap.size, 4, none⟩ = some (.slice A5 cs5.length c5) := row_cell hx6 4
        have HT6 := Lib.hid T6; have HR6 := Lib.hid hR6
        clear T5 T6 hR6 hR5 hx6 hb6 hb5
        by_cases hz5 : z5 = 0
        · have hy := Hyes.out hz5
          subst hz5
          have Hy := Lib.hid hy; clear hy
          go_wp2_with fail
          generalize w5.alloc _ = w6 at *
          refine (encode_any ⟨o5, v5, n5, i5, cs5⟩ A5 c5 _ HR6.out.rd HR6.out.lc HR6.out.cm Hok5.out.nm Hok5.out.nms Hok5.out.o Hok5.out.v).mono ?_
          have henc : Rl.encB ⟨o5, v5, n5, i5, cs5⟩ = l := by unfold Rl.encB; rw [if_pos Hy.out.1]; exact Hy.out.2
          rw [henc, Hy.out.1]
          clear henc
          rintro e w7 ⟨A7, n7, c7, rfl, hn7, hc7, hR7, hb7⟩
          have T7 := HT6.out.up hb7
          have hl7 := hR7.len1
          rw [byt_len] at hl7
          subst hl7
          have q1 := run_str_of_bytes (P := Try.prog) (src := 22) (dst := 9) (c := c7) Try.underlying22 Try.underlying5 Try.underlying9 hR7
          have q2 := run_str_of_bytes (P := Try.prog) (src := 22) (dst := 9) (c := c') Try.underlying22 Try.underlying5 Try.underlying9 T7.rb
          have HT7 := Lib.hid T7; have HR7 := Lib.hid hR7
          clear T7 hR7 hb7 k0 k1 k2 k3 k4 HT6
          go_wp2_with fail
          refine (awake8_any _).mono ?_
          rintro e w8 ⟨rfl, hb8⟩
          go_wp2
          go_ret
          exact ⟨rfl, (HT7.out.up hb8).lo⟩
        · have hn := Hno.out hz5
          have hze5 : ((z5 : Int) == 0) = false := beq_eq_false_iff_ne.2 hz5
          have hsame : Rl.same ⟨o5, v5, n5, i5, cs5⟩ ⟨0, 0, ⟨#[]⟩, 0, []⟩ = true := by rw [hn]; exact Rl.same_refl _
          have Hs := Lib.hid hsame; clear hsame hn hz5
          go_wp2_with fail
          generalize w5.alloc _ = w6 at *
          refine (same_any ⟨o5, v5, n5, i5, cs5⟩ ⟨0, 0, ⟨#[]⟩, 0, []⟩ A5 none c5 0 _ HR6.out.rd Rd.none_ (by simp only [maxLen]; omega)).mono ?_
          rw [Hs.out]
          rintro e w7 ⟨rfl, hb7⟩
          go_wp2_with fail
          refine (awake8_any _).mono ?_
          rintro e w8 ⟨rfl, hb8⟩
          go_wp2
          go_ret
          exact ⟨rfl, ((HT6.out.up hb7).up hb8).lo⟩
      · have HZ := Lib.hid hz
        have hze : ((Rl.rightE ⟨o1, v1, n1, i1, cs⟩ : Int) == 0) = false := beq_eq_false_iff_ne.2 hz
        clear hz
        go_wp2_with fail
        refine (HD.out _ HT4.out.rb (by omega)).mono ?_
        rintro e w5 ⟨A5, c5, rfl, hR5, hb5⟩
        have T5 := HT4.out.up hb5
        have hb6 : Below w5.heap.size w5 (w5.alloc (.cells #[.int .u32 (o5 : Int), .int .u32 (v5 : Int), .string n5, .int .u8 (i5 : Int), .slice A5 cs5.length c5] 69)) := (Below.refl _ _).alloc (Nat.le_refl _) _
        have T6 := T5.up hb6
        have hR6 := hR5.alloc (.cells #[.int .u32 (o5 : Int), .int .u32 (v5 : Int), .string n5, .int .u8 (i5 : Int), .slice A5 cs5.length c5] 69)
        have hx6 := heap_alloc_new w5 (.cells #[.int .u32 (o5 : Int), .int .u32 (v5 : Int), .string n5, .int .u8 (i5 : Int), .slice A5 cs5.length c5] 69)
        have k0 : (w5.alloc (.cells #[.int .u32 (o5 : Int), .int .u32 (v5 : Int), .string n5, .int .u8 (i5 : Int), .slice A5 cs5.length c5] 69)).cell? ⟨w5.heap.size, 0, none⟩ = some (.int .u32 (o5 : Int)) := row_cell hx6 0
        have k1 : (w5.alloc (.cells #[.int .u32 (o5 : Int), .int .u32 (v5 : Int), .string n5, .int .u8 (i5 : Int), .slice A5 cs5.length c5] 69)).cell? ⟨w5.heap.size, 1, none⟩ = some (.int .u32 (v5 : Int)) := row_cell hx6 1
        have k2 : (w5.alloc (.cells #[.int .u32 (o5 : Int), .int .u32 (v5 : Int), .string n5, .int .u8 (i5 : Int), .slice A5 cs5.length c5] 69)).cell? ⟨w5.heap.size, 2, none⟩ = some (.string n5) := row_cell hx6 2
        have k3 : (w5.alloc (.cells #[.int .u32 (o5 : Int), .int .u32 (v5 : Int), .string n5, .int .u8 (i5 : Int), .slice A5 cs5.length c5] 69)).cell? ⟨w5.heap.size, 3, none⟩ = some (.int .u8 (i5 : Int)) := row_cell hx6 3
        have k4 : (w5.alloc (.cells #[.int .u32 (o5 : Int), .int .u32 (v5 : Int), .string n5, .int .u8 (i5 : Int), .slice A5 cs5.length c5] 69)).cell? ⟨w5.heap.size, 4, none⟩ = some (.slice A5 cs5.length c5) := row_cell hx6 4
        have HT6 := Lib.hid T6; have HR6 := Lib.hid hR6
        clear T5 T6 hR6 hR5 hx6 hb6 hb5
        by_cases hz5 : z5 = 0
        · have hy := Hyes.out hz5
          subst hz5
          have Hy := Lib.hid hy; clear hy
          go_wp2_with fail
          generalize w5.alloc _ = w6 at *
          refine (encode_any ⟨o5, v5, n5, i5, cs5⟩ A5 c5 _ HR6.out.rd HR6.out.lc HR6.out.cm Hok5.out.nm Hok5.out.nms Hok5.out.o Hok5.out.v).mono ?_
          have henc : Rl.encB ⟨o5, v5, n5, i5, cs5⟩ = l := by unfold Rl.encB; rw [if_pos Hy.out.1]; exact Hy.out.2
          rw [henc, Hy.out.1]
          clear henc
          rintro e w7 ⟨A7, n7, c7, rfl, hn7, hc7, hR7, hb7⟩
          have T7 := HT6.out.up hb7
          have hl7 := hR7.len1
          rw [byt_len] at hl7
          subst hl7
          have q1 := run_str_of_bytes (P := Try.prog) (src := 22) (dst := 9) (c := c7) Try.underlying22 Try.underlying5 Try.underlying9 hR7
          have q2 := run_str_of_bytes (P := Try.prog) (src := 22) (dst := 9) (c := c') Try.underlying22 Try.underlying5 Try.underlying9 T7.rb
          have HT7 := Lib.hid T7; have HR7 := Lib.hid hR7
          clear T7 hR7 hb7 k0 k1 k2 k3 k4 HT6
          go_wp2_with fail
          refine (awake8_any _).mono ?_
          rintro e w8 ⟨rfl, hb8⟩
          go_wp2
          go_ret
          exact ⟨rfl, (HT7.out.up hb8).lo⟩
        · have hn := Hno.out hz5
          have hze5 : ((z5 : Int) == 0) = false := beq_eq_false_iff_ne.2 hz5
          have hsame : Rl.same ⟨o5, v5, n5, i5, cs5⟩ ⟨0, 0, ⟨#[]⟩, 0, []⟩ = true := by rw [hn]; exact Rl.same_refl _
          have Hs := Lib.hid hsame; clear hsame hn hz5
          go_wp2_with fail
          generalize w5.alloc _ = w6 at *
          refine (same_any ⟨o5, v5, n5, i5, cs5⟩ ⟨0, 0, ⟨#[]⟩, 0, []⟩ A5 none c5 0 _ HR6.out.rd Rd.none_ (by simp only [maxLen]; omega)).mono ?_
          rw [Hs.out]
          rintro e w7 ⟨rfl, hb7⟩
          go_wp2_with fail
          refine (awake8_any _).mono ?_
          rintro e w8 ⟨rfl, hb8⟩
          go_wp2
          go_ret
          exact ⟨rfl, ((HT6.out.up hb7).up hb8).lo⟩
  · have HT2 := Lib.hid T2; clear T2 hg1
    go_wp2
    go_ret
    exact ⟨rfl, HT2.out.lo⟩
end Go.Proofs.Ytcblmcpmdpnlbaa
