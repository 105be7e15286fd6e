/-
  Layer 8: the reference's Encode by its contract.
-/
import Derived.Test.YtcblmcpmdpnlbaaRf3
import Derived.Test.YtcblmcpmdpnlbaaOw
namespace Go.Proofs.Ytcblmcpmdpnlbaa
open Go.RowKit Mono
attribute [local go_sem] pureAt pureUpon

theorem sevens_one (v : Nat) : 1 ≤ (sevens v).length := by
  unfold sevens
  unfold sv
  split <;> simp
theorem sevens_small (v : Nat) (h : v < 128) : sevens v = [UInt8.ofNat v] := by
  unfold sevens
  unfold sv
  rw [if_neg (by omega)]
theorem own_up {w w' : World} {base size n : Nat} {e : TypeId} {v : Value} {xs : List Value} (h : w.ownsRow base e size v n xs) (hb : Below w.heap.size w w') : w'.ownsRow base e size v n xs :=
  h.kept (row := none) ⟨hb.os, hb.tape, hb.output, hb.size, fun k hk _ => hb.block k hk⟩ (by cases v.ownBlock <;> simp)
theorem own_len {w : World} {base n : Nat} {e : TypeId} {v : Value} {l : List UInt8} (h : w.ownsRow base e 1 v n (byt l)) : w.ownsRow base e 1 v l.length (byt l) := by
  have : l.length = n := by have := h.1; rw [byt_len] at this; omega
  rw [this]; exact h
theorem own_src {w : World} {base n : Nat} {e : TypeId} {v : Value} {l : List UInt8} (h : w.ownsRow base e 1 v n (byt l)) (hn : 1 ≤ n) :
    ∃ g cap, v = .slice (some ⟨g, 0, none⟩) n cap ∧ ∀ j u, (byt l)[j]? = some u → w.cell? ((⟨g, 0, none⟩ : Addr).add j) = some u := by
  obtain ⟨g, cap, rfl, _, _⟩ := own_form h hn
  exact ⟨g, cap, rfl, h.cells (g := g) rfl⟩

set_option maxRecDepth 100000 in
set_option maxHeartbeats 3200000 in
theorem encodeR_any (r : Rl) (A : Option Addr) (c : Nat) (w : World) (hR : Rd w w.heap.size 3 A r.cs.length (cols r.cs)) (hl : r.cs.length ≤ c) (hc : c ≤ maxLen) (hn : r.name.size ≤ maxLen) (hns : ∀ o ∈ r.cs, o.name.size ≤ maxLen)
    (ho : r.oid < 4294967296) (hv : r.ver < 4294967296) :
    Calls Try.prog 43 #[r.v A c] w (RetSI 1 (byt r.encB) r.rightE w) := by
  obtain ⟨o1, v1, n1, i1, cs⟩ := r
  simp only at hR hl hn hns ho hv
  have hB : Below w.heap.size w (w.alloc (.cells #[.int .u32 (o1 : Int), .int .u32 (v1 : Int), .string n1, .int .u8 (i1 : Int), .slice A cs.length c] 65)) := (Below.refl _ _).alloc (Nat.le_refl _) _
  have hRa := hR.up hB (Nat.le_refl _) hB.size
  have hbx := heap_alloc_new w (.cells #[.int .u32 (o1 : Int), .int .u32 (v1 : Int), .string n1, .int .u8 (i1 : Int), .slice A cs.length c] 65)
  have hsz : (w.alloc (.cells #[.int .u32 (o1 : Int), .int .u32 (v1 : Int), .string n1, .int .u8 (i1 : Int), .slice A cs.length c] 65)).heap.size = w.heap.size + 1 := by simp
  have HN := Lib.hid hns; have HR0 := Lib.hid hR; clear hR hns
  go_enter Try.func43, Try.ntmps43
  unfold Rl.v
  go_wp2_with fail
  generalize w.alloc (.cells #[.int .u32 (o1 : Int), .int .u32 (v1 : Int), .string n1, .int .u8 (i1 : Int), .slice A cs.length c] 65) = w1 at *
  refine (rightR_any ⟨o1, v1, n1, i1, cs⟩ A c _ hRa hl hc hn HN.out).mono ?_
  rintro e w2 ⟨rfl, hb2⟩
  have hB2 := hB.trans (hb2.mono (by omega))
  by_cases hz : Rl.rightE ⟨o1, v1, n1, i1, cs⟩ = 0
  · have hok := Rl.ok_of hz
    have hen : Rl.encB ⟨o1, v1, n1, i1, cs⟩ = Rl.bytes ⟨o1, v1, n1, i1, cs⟩ := by unfold Rl.encB; rw [if_pos hz]
    have Hen := Lib.hid hen; have Hz := Lib.hid hz
    rw [hz]
    clear hz hen
    have hn31 := named_size hok.name
    simp only at hn31
    have hbx2 := (hb2.block w.heap.size (by omega)).trans hbx
    have g0 : w2.cell? ⟨w.heap.size, 0, none⟩ = some (.int .u32 (o1 : Int)) := cell_of_row _ _ 0 _ 65 (0, 0) hbx2
    have g1 : w2.cell? ⟨w.heap.size, 1, none⟩ = some (.int .u32 (v1 : Int)) := cell_of_row _ _ 1 _ 65 (0, 0) hbx2
    have g2 : w2.cell? ⟨w.heap.size, 2, none⟩ = some (.string n1) := cell_of_row _ _ 2 _ 65 (0, 0) hbx2
    have g3 : w2.cell? ⟨w.heap.size, 3, none⟩ = some (.int .u8 (i1 : Int)) := cell_of_row _ _ 3 _ 65 (0, 0) hbx2
    have g4 : w2.cell? ⟨w.heap.size, 4, none⟩ = some (.slice A cs.length c) := cell_of_row _ _ 4 _ 65 (0, 0) hbx2
    have hlt : w.heap.size < w2.heap.size := by have := hb2.size; omega
    have hR2 := hRa.up hb2 (Nat.le_refl _) hb2.size
    have l1 := sevens_len o1
    have l2 := sevens_len v1
    clear hbx hbx2 hb2 hsz hB hRa
    have q1 : IntKind.u64.wrap (o1 : Int) = (o1 : Int) := IntWalk.u64_in _ (by omega)
    have q2 : IntKind.u64.wrap (v1 : Int) = (v1 : Int) := IntWalk.u64_in _ (by omega)
    obtain ⟨i0, hi, hz0, hz1, hz2⟩ := info_parts Try.info5
    have hlo := hok.lo
    have hhi := hok.hi
    simp only at hlo hhi
    go_wp2_with fail
    refine (uintR_any o1 _ (by omega)).mono ?_
    rintro e w3 ⟨v3, rfl, hown3, hb3⟩
    have how3 := own_le (base' := w.heap.size + 1) hown3 (by omega)
    have g13 := (hb3.cell (p := ⟨w.heap.size, 1, none⟩) hlt).trans g1
    have hs3 := hb3.size
    go_wp2_with fail
    refine (uintR_any v1 _ (by omega)).mono ?_
    rintro e w4 ⟨v4, rfl, hown4, hb4⟩
    have how4 := own_up how3 hb4
    obtain ⟨g4x, cap4, rfl, hn4⟩ := own_src hown4 (sevens_one v1)
    have hb24 : Below w2.heap.size w2 w4 := hb3.trans (hb4.mono hs3)
    have hs4 := hb4.size
    clear hown3 hown4 how3 g13
    go_wp2_with (at_builtin; refine wpList_append_own _ rfl _ _ 22 rfl (w.heap.size + 1) 5 i0 (.int .u8 0) 1 1 Try.underlying22 hi hz0 hz1 hz2 rfl (by decide) _ _ _ rfl how4 ⟨g4x, 0, none⟩ (sevens v1).length cap4 (byt (sevens v1)) rfl (by rw [byt_len]; omega) hn4 (byt_one _) (by simp only [maxLen]; omega) (by omega) (by omega) ?_)
    intro v5 w5 hown5 hg5 _
    have hb45 : Below (w.heap.size + 1) w4 w5 := own_base how4 (Below.refl _ _) hg5 (by omega)
    have hb25 : Below (w.heap.size + 1) w2 w5 := (hb24.mono (by omega)).trans hb45
    rw [← byt_app] at hown5
    have hown5 := own_len hown5
    have hL5 : (sevens o1 ++ sevens v1).length ≤ 20 := by simp; omega
    have g25 := (hb25.cell (p := ⟨w.heap.size, 2, none⟩) (by simp)).trans g2
    have hs5 := hb45.size
    clear how4 hg5 hn4 hb45 hb24
    go_wp2_with fail
    refine (textR_any n1 _ (by omega)).mono ?_
    rintro e w6 ⟨v6, rfl, hown6, hb6⟩
    have how6 := own_up hown5 hb6
    have htn : 1 ≤ (textB n1).length ∧ (textB n1).length ≤ 41 := by have := sevens_len n1.size; have := sevens_one n1.size; rw [textB_len]; omega
    obtain ⟨g6x, cap6, rfl, hn6⟩ := own_src hown6 htn.1
    have hb26 : Below (w.heap.size + 1) w2 w6 := hb25.trans (hb6.mono (by omega))
    have hs6 := hb6.size
    clear hown5 hown6 g25
    go_wp2_with (at_builtin; refine wpList_append_own _ rfl _ _ 22 rfl (w.heap.size + 1) 5 i0 (.int .u8 0) 1 1 Try.underlying22 hi hz0 hz1 hz2 rfl (by decide) _ _ _ rfl how6 ⟨g6x, 0, none⟩ (textB n1).length cap6 (byt (textB n1)) rfl (by rw [byt_len]; omega) hn6 (byt_one _) (by simp only [maxLen]; omega) (by omega) (by omega) ?_)
    intro v7 w7 hown7 hg7 _
    have hb67 : Below (w.heap.size + 1) w6 w7 := own_base how6 (Below.refl _ _) hg7 (by omega)
    have hb27 : Below (w.heap.size + 1) w2 w7 := hb26.trans hb67
    rw [← byt_app] at hown7
    have hown7 := own_len hown7
    have hL7 : (sevens o1 ++ sevens v1 ++ textB n1).length ≤ 61 := by simp at hL5 ⊢; omega
    have HL : Hid (sevens o1 ++ sevens v1 ++ textB n1 ++ [UInt8.ofNat i1, UInt8.ofNat cs.length] = Rl.head ⟨o1, v1, n1, i1, cs⟩) := by rw [Hid]; unfold Rl.head; rw [sevens_small cs.length (by omega)]; simp
    generalize sevens o1 ++ sevens v1 ++ textB n1 = L at *
    have g37 := (hb27.cell (p := ⟨w.heap.size, 3, none⟩) (by simp)).trans g3
    have g47 := (hb27.cell (p := ⟨w.heap.size, 4, none⟩) (by simp)).trans g4
    have hs7 := hb67.size
    have q3 : IntKind.u8.wrap (cs.length : Int) = (cs.length : Int) := IntWalk.u8_in _ (by omega)
    clear how6 hg7 hn6 hb67 hb26
    have hnew7 : ∀ j u, [Value.int .u8 (i1 : Int), .int .u8 (cs.length : Int)][j]? = some u → (w7.alloc (.cells #[.int .u8 (i1 : Int), .int .u8 (cs.length : Int)] 5)).cell? ((⟨w7.heap.size, 0, none⟩ : Addr).add j) = some u := cells_news (heap_alloc_new w7 _)
    go_wp2_with (at_builtin; refine wpList_append_own _ rfl _ _ 22 rfl (w.heap.size + 1) 5 i0 (.int .u8 0) 1 1 Try.underlying22 hi hz0 hz1 hz2 rfl (by decide) _ _ _ rfl (hown7.alloc _) ⟨w7.heap.size, 0, none⟩ 2 2 [.int .u8 (i1 : Int), .int .u8 (cs.length : Int)] rfl rfl hnew7 (by simp [Value.oneCell']) (by simp only [maxLen]; omega) (by omega) (by simp; omega) ?_)
    intro v8 w8 hown8 hg8 _
    have hb78 : Below (w.heap.size + 1) w7 w8 := own_base (hown7.alloc _) ((Below.refl _ _).alloc (by omega) _) hg8 (by simp; omega)
    have hb28 : Below (w.heap.size + 1) w2 w8 := hb27.trans hb78
    have e8 : byt L ++ [.int .u8 (i1 : Int), .int .u8 (cs.length : Int)] = byt (Rl.head ⟨o1, v1, n1, i1, cs⟩) := by
      rw [← HL.out, byt_app]
      simp [byt, Nat.mod_eq_of_lt (show i1 < 256 by have := hok.ident; simp only at this; omega), Nat.mod_eq_of_lt (show cs.length < 256 by omega)]
    rw [e8] at hown8
    have hown8 := own_len hown8
    have hhd : (Rl.head ⟨o1, v1, n1, i1, cs⟩).length ≤ 72 := by rw [← HL.out]; simp; omega
    have HH : Hid (Rl.head ⟨o1, v1, n1, i1, cs⟩ ++ cs.flatMap colB = Rl.bytes ⟨o1, v1, n1, i1, cs⟩) := rfl
    have hs8 := hb78.size
    have hB8 : Below w.heap.size w w8 := hB2.trans (hb28.mono (by omega))
    clear hown7 hg8 hnew7 q1 q2 q3 e8 HL hb78 hb27 g37 g47
    generalize Rl.head ⟨o1, v1, n1, i1, cs⟩ = L0 at *
    have g48 := (hb28.cell (p := ⟨w.heap.size, 4, none⟩) (by simp)).trans g4
    have hcz := colsE_zero hok.cols
    have HZ := Lib.hid hcz; clear hcz
    have HB8 := Lib.hid hB8
    clear hR2 hok hB8 l1 l2 hn31 hn hc g0 g1 g2 g3 g4
    go_wp2_with fail
    go_loopw [5, 6] (fun b k wr => ∃ (j : Nat) (l : List UInt8), k = .int .i64 (j : Int) ∧ j ≤ cs.length ∧ wr.ownsRow (w.heap.size + 1) 5 1 b l.length (byt l) ∧ l.length ≤ 72 + 43 * j ∧ Hid (l = L0 ++ (cs.take j).flatMap colB) ∧ Below (w.heap.size + 1) w8 wr) (fun _ k _ => cs.length - (intOf k).toNat)
    case atStart => exact ⟨0, L0, rfl, by omega, hown8, by omega, by simp [Hid], Below.refl _ _⟩
    case round =>
      obtain ⟨j, l, rfl, hj, how, hll, HL, hb⟩ := hrel
      have hbs := hb.size
      have hBw : Below w.heap.size w wr := HB8.out.trans (hb.mono (by omega))
      have hBws := hBw.size
      have g4r := (hb.cell (p := ⟨w.heap.size, 4, none⟩) (by simp)).trans g48
      by_cases hltj : j < cs.length
      · obtain ⟨bA, off, rfl, hbl, hcc⟩ := (HR0.out.below hBw (Nat.le_refl _)).col hltj
        obtain ⟨k0, k1, k2⟩ := hcc j hltj
        obtain ⟨z0, z1, z2⟩ := HZ.out _ (List.getElem_mem hltj)
        have htk : Hid (cs.take (j + 1) = cs.take j ++ [cs[j]]) := List.take_succ_eq_append_getElem hltj
        clear hcc
        generalize cs[j] = o at *
        have hon := named_size z0
        have hlen := sevens_len o.name.size
        have hpos := sevens_one o.name.size
        have hidx : (j : Int) < (cs.length : Int) := by omega
        have htl : (textB o.name).length ≤ 41 ∧ 1 ≤ (textB o.name).length := by rw [textB_len]; omega
        have hb5 : Below (w.heap.size + 1) wr (wr.alloc (.cells #[.string o.name, .int .u8 (o.type : Int), .bool o.key] 83)) := (Below.refl _ _).alloc (by omega) _
        have hs5 : (wr.alloc (.cells #[.string o.name, .int .u8 (o.type : Int), .bool o.key] 83)).heap.size = wr.heap.size + 1 := by simp
        have ho5 := how.alloc (.cells #[.string o.name, .int .u8 (o.type : Int), .bool o.key] 83)
        have hbx5 := heap_alloc_new wr (.cells #[.string o.name, .int .u8 (o.type : Int), .bool o.key] 83)
        obtain ⟨on, ot, ok⟩ := o
        simp only at *
        have hkind : Hid (∀ kk : Nat, kk = (if ok = true then ot + 128 else ot) → byt (l ++ textB on ++ [UInt8.ofNat kk]) = byt (l ++ textB on) ++ [.int .u8 (kk : Int)] ∧ l ++ textB on ++ [UInt8.ofNat kk] = L0 ++ (cs.take (j + 1)).flatMap colB) := by
          intro kk hkk
          have hk256 : kk < 256 := by subst hkk; split <;> omega
          refine ⟨byt_u8 _ _ hk256, ?_⟩
          rw [HL.out, htk.out, List.flatMap_append]
          have : colB ⟨on, ot, ok⟩ = textB on ++ [UInt8.ofNat kk] := by
            unfold colB Col.kind
            simp only
            have : (ot + if ok = true then 128 else 0) % 256 = kk := by subst hkk; split <;> omega
            rw [this]
          simp [this]
        have hub : Hid (∀ g, u5.ownBlock = some g → g < wr.heap.size) := fun g h => (how.lt g h).2
        clear z0 htk how
        go_wp2_with fail
        refine (textR_any on _ (by omega)).mono ?_
        rintro e w5 ⟨v5, rfl, hown5, hb55⟩
        have how5 := own_up ho5 hb55
        obtain ⟨g5x, cap5, rfl, hn5⟩ := own_src hown5 htl.2
        have hb5w : Below (w.heap.size + 1) wr w5 := hb5.trans (hb55.mono (by omega))
        have hbx6 := (hb55.block wr.heap.size (by omega)).trans hbx5
        have hs55 := hb55.size
        clear hown5 ho5 hbx5 k0 k1 k2
        go_wp2_with (at_builtin; refine wpList_append_own _ rfl _ _ 22 rfl (w.heap.size + 1) 5 i0 (.int .u8 0) 1 1 Try.underlying22 hi hz0 hz1 hz2 rfl (by decide) _ _ _ rfl how5 ⟨g5x, 0, none⟩ (textB on).length cap5 (byt (textB on)) rfl (by rw [byt_len]; omega) hn5 (byt_one _) (by simp only [maxLen]; omega) (by omega) (by omega) ?_)
        intro v6 w6 hown6 hg6 _
        rw [← byt_app] at hown6
        have hown6 := own_len hown6
        have hb6w : Below (w.heap.size + 1) w5 w6 := own_base how5 (Below.refl _ _) hg6 (by omega)
        have hbx7 := (hg6.block wr.heap.size (by omega) (fun e' => by have := hub.out _ e'.symm; omega)).trans hbx6
        have b1 : w6.cell? ⟨wr.heap.size, 1, none⟩ = some (.int .u8 (ot : Int)) := cell_of_row _ _ 1 _ 83 (0, 0) hbx7
        have b2 : w6.cell? ⟨wr.heap.size, 2, none⟩ = some (.bool ok) := cell_of_row _ _ 2 _ 83 (0, 0) hbx7
        have hl7 : (l ++ textB on).length ≤ 72 + 43 * j + 41 := by simp; omega
        have hs6w := hb6w.size
        clear hbx6 hbx7 how5 hg6 hn5
        cases ok
        · have hk2 := hkind.out ot rfl
          have Hk2 := Lib.hid hk2; clear hkind hk2
          generalize l ++ textB on = l7 at *
          go_wp2_with (at_builtin; refine wpList_append_own _ rfl _ _ 22 rfl (w.heap.size + 1) 5 i0 (.int .u8 0) 1 1 Try.underlying22 hi hz0 hz1 hz2 rfl (by decide) _ _ _ rfl (hown6.alloc _) ⟨w6.heap.size, 0, none⟩ 1 1 [.int .u8 (ot : Int)] rfl rfl (news_one (cell_new _ _ _ 0)) (by simp [Value.oneCell']) (by simp only [maxLen]; omega) (by omega) (by simp; omega) ?_)
          intro v7 w7 hown7 hg7 _
          have hB7 : Below (w.heap.size + 1) wr w7 := own_base (hown6.alloc _) ((hb5w.trans hb6w).alloc (by omega) _) hg7 (by simp; omega)
          have e8 := Hk2.out
          skip
          rw [← e8.1, e8.2] at hown7
          have hown7 := own_len hown7
          have hl8 : (l7 ++ [UInt8.ofNat (ot)]).length ≤ 72 + 43 * (j + 1) := by simp; omega
          rw [e8.2] at hl8
          clear hg7 hown6 e8 Hk2 HL b1 b2
          go_wp2
          go_roundw
          case rel => exact ⟨j + 1, _, by go_num, by omega, hown7, hl8, rfl, hb.trans hB7⟩
          case measure => simp [intOf]; omega
        · have hk2 := hkind.out (ot + 128) rfl
          have Hk2 := Lib.hid hk2; clear hkind hk2
          generalize l ++ textB on = l7 at *
          go_wp2_with (at_builtin; refine wpList_append_own _ rfl _ _ 22 rfl (w.heap.size + 1) 5 i0 (.int .u8 0) 1 1 Try.underlying22 hi hz0 hz1 hz2 rfl (by decide) _ _ _ rfl (hown6.alloc _) ⟨w6.heap.size, 0, none⟩ 1 1 [.int .u8 ((ot : Int) + 128)] rfl rfl (news_one (cell_new _ _ _ 0)) (by simp [Value.oneCell']) (by simp only [maxLen]; omega) (by omega) (by simp; omega) ?_)
          intro v7 w7 hown7 hg7 _
          have hB7 : Below (w.heap.size + 1) wr w7 := own_base (hown6.alloc _) ((hb5w.trans hb6w).alloc (by omega) _) hg7 (by simp; omega)
          have e8 := Hk2.out
          rw [show ((ot + 128 : Nat) : Int) = (ot : Int) + 128 by omega] at e8
          rw [← e8.1, e8.2] at hown7
          have hown7 := own_len hown7
          have hl8 : (l7 ++ [UInt8.ofNat (ot + 128)]).length ≤ 72 + 43 * (j + 1) := by simp; omega
          rw [e8.2] at hl8
          clear hg7 hown6 e8 Hk2 HL b1 b2
          go_wp2
          go_roundw
          case rel => exact ⟨j + 1, _, by go_num, by omega, hown7, hl8, rfl, hb.trans hB7⟩
          case measure => simp [intOf]; omega
      · have hje : j = cs.length := by omega
        have hl2 := HL.out
        rw [hje, List.take_length, HH.out, ← Hen.out] at hl2
        have HL2 := Lib.hid hl2; clear hl2 HL hje
        have sl := Sl.of_own how
        clear how
        go_wp2
        go_ret2
        exact RetSI.sl sl HL2.out Hz.out.symm hBw
  · have hen : Rl.encB ⟨o1, v1, n1, i1, cs⟩ = [] := by unfold Rl.encB; rw [if_neg hz]
    have Hen := Lib.hid hen
    have dz : (Rl.rightE ⟨o1, v1, n1, i1, cs⟩ != 0) = true := by simpa using hz
    clear hz hen hbx hsz
    go_wp2
    go_ret2
    exact RetSI.nilE (by rw [Hen.out]; rfl) rfl hB2
end Go.Proofs.Ytcblmcpmdpnlbaa
