/-
  Layer 8: RelDecodes, the walk.
-/
import Derived.Test.YtcblmcpmdpnlbaaDf
import Derived.Test.YtcblmcpmdpnlbaaRg
import Derived.Test.YtcblmcpmdpnlbaaRf2
namespace Go.Proofs.Ytcblmcpmdpnlbaa
open Go.RowKit
attribute [local go_sem] Mono.pureAt Mono.pureUpon
attribute [local irreducible] Mono.steps Mono.wpM

/-- A relation's value, its columns somewhere. -/
def Fact.rl (r : Rl) : Fact := ⟨fun v w => ∃ A c, v = r.v A c ∧ RlAt w w.heap.size r A c, fun _ _ _ ⟨A, c, h1, h2⟩ hb => ⟨A, c, h1, h2.up hb (Nat.le_refl _) hb.size⟩⟩
theorem rl_val {f : Nat → Option Fact} {k : Nat} {r : Rl} {w : World} {e : TypeId} (hf : f k = some (.rl r)) : ∀ en w', RetRl e r w en w' → ∃ u, en = .returned u ∧ Ext w w' ∧ fxR f k u w' := by
  rintro en w' ⟨col, rfl, hown, hb⟩
  obtain ⟨A, c, rfl, h1, h2, h3⟩ := Rd.of_own hown
  refine ⟨_, rfl, hb, ?_⟩
  unfold fxR; rw [hf]
  exact ⟨A, c, rfl, h3, h1, h2⟩
theorem sameCols_refl : ∀ l : List Col, sameCols l l = true
  | [] => rfl
  | o :: l => by rw [sameCols_cons, sameCols_refl l]; simp [Col.same]
theorem Rl.same_refl (r : Rl) : r.same r = true := by unfold Rl.same; simp [sameCols_refl]
theorem RlAt.alloc {w : World} {r : Rl} {A : Option Addr} {c : Nat} (h : RlAt w w.heap.size r A c) (o : Obj) : RlAt (w.alloc o) (w.alloc o).heap.size r A c := h.up ((Below.refl w.heap.size w).alloc (Nat.le_refl _) o) (Nat.le_refl _) (by simp)
def rdF (r : Rl) : Nat → Option Fact
  | 1 => some (.rl r)
  | 3 => some (.val (.bool true))
  | 10 => some (.val (.bool true))
  | _ => none
theorem dcV_ok (l : List UInt8) : RlOk (dcV l) := by
  unfold dcV
  split
  · exact dcR_ok _ _
  · exact ⟨Nat.zero_le _, by simp, by simp, by simp⟩
theorem dcV_cols (l : List UInt8) : (dcV l).cs.length ≤ 16 := by
  unfold dcV
  split
  · show (colsTo _ _).1.length ≤ 16
    rw [colsTo_len]; exact (dc4 l).2.uint_le 16
  · simp

set_option maxRecDepth 100000 in
set_option maxHeartbeats 3200000 in
theorem relDecodes_walk (A : Option Addr) (c : Nat) (l : List UInt8) (w : World) (hr : Rd w w.heap.size 1 A l.length (byt l)) (hlc : l.length ≤ c) (hcm : c ≤ maxLen) :
    Calls Try.prog 11 #[.slice A l.length c] w (RetB true w) := by
  have hlm : l.length ≤ 9223372036854775807 := Nat.le_trans hlc hcm
  by_cases hgt : 900 < l.length
  · have hd : decide ((900 : Int) < (l.length : Int)) = true := decide_eq_true (by omega)
    go_enter Try.func11, Try.ntmps11
    go_wp2
    go_ret
    exact ⟨rfl, Below.refl _ _⟩
  · have hd : decide ((900 : Int) < (l.length : Int)) = false := decide_eq_false (by omega)
    have hok := dcV_ok l
    have hcl := dcV_cols l
    have D1 : ∀ w', Rd w' w'.heap.size 1 A l.length (byt l) → Calls Try.prog 49 #[.slice A l.length c] w' (RetDc l w') := fun w' h => decode_any A c l w' h (by omega)
    have D2 : ∀ w', Rd w' w'.heap.size 1 A l.length (byt l) → Calls Try.prog 50 #[.slice A l.length c] w' (RetDc l w') := fun w' h => decodeR_any A c l w' h (by omega) hlc hcm
    unfold RetDc at D1 D2
    generalize dcV l = r at *
    generalize dcE l = z at *
    obtain ⟨o1, v1, n1, i1, cs⟩ := r
    unfold Rl.v at D1 D2
    simp only at D1 D2 hcl
    have HD1 := Lib.hid D1; have HD2 := Lib.hid D2; have Hok := Lib.hid hok; clear D1 D2 hok
    go_enter Try.func11, Try.ntmps11
    go_wp2_with fail
    refine (HD1.out w hr).mono ?_
    rintro e w1 ⟨A1, c1, rfl, hR1, hb1⟩
    have hr1 := hr.up hb1 (Nat.le_refl _) hb1.size
    have hB1 : Below w.heap.size w (w1.alloc (.cells #[.int .u32 (o1 : Int), .int .u32 (v1 : Int), .string n1, .int .u8 (i1 : Int), .slice A1 cs.length c1] 69)) := hb1.alloc hb1.size _
    have hx1 := heap_alloc_new w1 (.cells #[.int .u32 (o1 : Int), .int .u32 (v1 : Int), .string n1, .int .u8 (i1 : Int), .slice A1 cs.length c1] 69)
    have hR1' := hR1.alloc (.cells #[.int .u32 (o1 : Int), .int .u32 (v1 : Int), .string n1, .int .u8 (i1 : Int), .slice A1 cs.length c1] 69)
    have hrB := hr.up hB1 (Nat.le_refl _) hB1.size
    have hsz : w1.heap.size < (w1.alloc (.cells #[.int .u32 (o1 : Int), .int .u32 (v1 : Int), .string n1, .int .u8 (i1 : Int), .slice A1 cs.length c1] 69)).heap.size := by simp
    have HB1 := Lib.hid hB1; have Hx1 := Lib.hid hx1; have HR1 := Lib.hid hR1'; have HrB := Lib.hid hrB; have Hsz := Lib.hid hsz
    clear hr1 hB1 hx1 hR1 hR1' hrB hsz hb1
    go_wp2_with fail
    generalize hg1 : w1.heap.size = g1 at *
    clear hg1
    generalize w1.alloc _ = w2 at *
    refine (HD2.out w2 HrB.out).mono ?_
    rintro e w3 ⟨A3, c3, rfl, hR3, hb3⟩
    have hx3 := (hb3.block _ Hsz.out).trans Hx1.out
    have hR13 := HR1.out.up hb3 (Nat.le_refl _) hb3.size
    have hB3 := HB1.out.trans (hb3.mono HB1.out.size)
    have hb4 : Below w3.heap.size w3 (w3.alloc (.cells #[.int .u32 (o1 : Int), .int .u32 (v1 : Int), .string n1, .int .u8 (i1 : Int), .slice A3 cs.length c3] 65)) := (Below.refl _ _).alloc (Nat.le_refl _) _
    have hx4 := heap_alloc_new w3 (.cells #[.int .u32 (o1 : Int), .int .u32 (v1 : Int), .string n1, .int .u8 (i1 : Int), .slice A3 cs.length c3] 65)
    have hx14 := (hb4.block _ (row_lt hx3)).trans hx3
    have hR14 := hR13.up hb4 (Nat.le_refl _) hb4.size
    have hR34 := hR3.up hb4 (Nat.le_refl _) hb4.size
    have hB4 := hB3.trans (hb4.mono hB3.size)
    have Hx4 := Lib.hid hx4; have Hx14 := Lib.hid hx14; have HR14 := Lib.hid hR14; have HR34 := Lib.hid hR34; have HB4 := Lib.hid hB4
    clear hx3 hR13 hB3 hb4 hx4 hx14 hR14 hR34 hB4 hR3 hb3 HB1 Hx1 HR1 HrB Hsz
    go_wp2_with fail
    generalize w3.heap.size = g3 at *
    generalize w3.alloc _ = w4 at *
    refine wp_region_fx (rdF ⟨o1, v1, n1, i1, cs⟩) (by kernel_rfl) (by kernel_rfl) ?_
    refine Mono.wpM_look (.agg #[.int .u32 (o1 : Int), .int .u32 (v1 : Int), .string n1, .int .u8 (i1 : Int), .slice A1 cs.length c1]) rfl rfl (fun w5 hc _ => ?_) ?_
    · have hh := (hc.block _ (row_lt Hx14.out)).trans Hx14.out
      have q0 : w5.cell? ⟨g1, 0, none⟩ = some (.int .u32 (o1 : Int)) := cell_of_row _ _ 0 _ _ (0, 0) hh
      have q1 : w5.cell? ⟨g1, 1, none⟩ = some (.int .u32 (v1 : Int)) := cell_of_row _ _ 1 _ _ (0, 0) hh
      have q2 : w5.cell? ⟨g1, 2, none⟩ = some (.string n1) := cell_of_row _ _ 2 _ _ (0, 0) hh
      have q3 : w5.cell? ⟨g1, 3, none⟩ = some (.int .u8 (i1 : Int)) := cell_of_row _ _ 3 _ _ (0, 0) hh
      have q4 : w5.cell? ⟨g1, 4, none⟩ = some (.slice A1 cs.length c1) := cell_of_row _ _ 4 _ _ (0, 0) hh
      clear hh
      go_simp
    refine Mono.wpM_eff rfl rfl (fun w9 hc _ => steps_enter (back_any ⟨o1, v1, n1, i1, cs⟩ A1 c1 w9 (HR14.out.up hc (Nat.le_refl _) hc.size).rd (by simp only; omega)) (by go_simp; rfl) (rl_val rfl)) ?_
    rintro s1 ⟨w9, A5, c5, rfl, -⟩
    refine Mono.wpM_look (.agg #[.int .u32 (o1 : Int), .int .u32 (v1 : Int), .string n1, .int .u8 (i1 : Int), .slice A3 cs.length c3]) rfl rfl (fun w5 hc _ => ?_) ?_
    · have hh := (hc.block _ (row_lt Hx4.out)).trans Hx4.out
      have q0 : w5.cell? ⟨g3, 0, none⟩ = some (.int .u32 (o1 : Int)) := cell_of_row _ _ 0 _ _ (0, 0) hh
      have q1 : w5.cell? ⟨g3, 1, none⟩ = some (.int .u32 (v1 : Int)) := cell_of_row _ _ 1 _ _ (0, 0) hh
      have q2 : w5.cell? ⟨g3, 2, none⟩ = some (.string n1) := cell_of_row _ _ 2 _ _ (0, 0) hh
      have q3 : w5.cell? ⟨g3, 3, none⟩ = some (.int .u8 (i1 : Int)) := cell_of_row _ _ 3 _ _ (0, 0) hh
      have q4 : w5.cell? ⟨g3, 4, none⟩ = some (.slice A3 cs.length c3) := cell_of_row _ _ 4 _ _ (0, 0) hh
      clear hh
      go_simp
    refine Mono.wpM_eff rfl rfl (fun w9 hc hd => ?_) ?_
    · have h5 : RlAt w9 w9.heap.size ⟨o1, v1, n1, i1, cs⟩ A5 c5 := by
        have := hd ⟨1, .data⟩ (by simp) rfl
        obtain ⟨A0, c0, ⟨rfl, rfl⟩, h⟩ : ∃ A c, (A5 = A ∧ c5 = c) ∧ RlAt w9 w9.heap.size ⟨o1, v1, n1, i1, cs⟩ A c := by simpa [Mono.upd, fxR, rdF, Fact.rl, Rl.v] using this
        exact h
      exact steps_enter (sameR_any ⟨o1, v1, n1, i1, cs⟩ ⟨o1, v1, n1, i1, cs⟩ A5 A3 c5 c3 w9 h5.rd (HR34.out.up hc (Nat.le_refl _) hc.size).rd (by simp only [maxLen]; omega) (by simp only [maxLen]; omega)) (by go_simp; rfl) (bool_val (Rl.same_refl _) rfl)
    rintro s3 ⟨_, rfl⟩
    first | (refine Mono.wpM_all rfl rfl (fun K hK => ?_); go_simp; refine hK _ ?_; clear hK K) | (refine Mono.wpM_skip rfl ?_)
    first | (refine Mono.wpM_all rfl rfl (fun K hK => ?_); go_simp; refine hK _ ?_; clear hK K) | (refine Mono.wpM_skip rfl ?_)
    first | (refine Mono.wpM_all rfl rfl (fun K hK => ?_); go_simp; refine hK _ ?_; clear hK K) | (refine Mono.wpM_skip rfl ?_)
    first | (refine Mono.wpM_all rfl rfl (fun K hK => ?_); go_simp; refine hK _ ?_; clear hK K) | (refine Mono.wpM_skip rfl ?_)
    first | (refine Mono.wpM_all rfl rfl (fun K hK => ?_); go_simp; refine hK _ ?_; clear hK K) | (refine Mono.wpM_skip rfl ?_)
    first | (refine Mono.wpM_all rfl rfl (fun K hK => ?_); go_simp; refine hK _ ?_; clear hK K) | (refine Mono.wpM_skip rfl ?_)
    refine Mono.wpM_eff rfl rfl (fun w9 hc _ => steps_enter (awake8_any w9) (by go_simp) (bool_val (Lib.hid rfl) rfl)) ?_
    rintro s10 ⟨_, rfl⟩
    first | (refine Mono.wpM_all rfl rfl (fun K hK => ?_); go_simp; refine hK _ ?_; clear hK K) | (refine Mono.wpM_skip rfl ?_)
    first | (refine Mono.wpM_all rfl rfl (fun K hK => ?_); go_simp; refine hK _ ?_; clear hK K) | (refine Mono.wpM_skip rfl ?_)
    refine Mono.wpM_nil fun w9 hc9 _ => ?_
    go_wp2
    go_ret
    exact ⟨rfl, HB4.out.trans (hc9.mono HB4.out.size)⟩
end Go.Proofs.Ytcblmcpmdpnlbaa
