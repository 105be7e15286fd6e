/-
  Layer 8: RelTells: what follows the range over the keys (printed by gen_ref.py).
-/
import Derived.Test.YtcblmcpmdpnlbaaReE
namespace Go.Proofs.Ytcblmcpmdpnlbaa
open Go.RowKit
set_option maxRecDepth 100000 in
set_option maxHeartbeats 6400000 in
theorem tells_end (o1 v1 : Nat) (n1 : ByteArray) (i1 : Nat) (l1 : List Col) (b : Rl) (A : Option Addr) (c : Nat) (A' : Option Addr) (c' : Nat) (A1 : Option Addr) (c1 : Nat) (A2 : Option Addr) (c2 g4 g5 g9 D : Nat) (W W' : World) (hA : RlAt W W.heap.size ⟨o1, v1, n1, i1, l1⟩ A c)
    (T : Tm ⟨o1, v1, n1, i1, l1⟩ b A c A' c' A1 c1 A2 c2 g4 g5 W W') (hs : l1.length ≤ 30) (hLast : Boxed W' g9 3 (.int .i64 (lastOf (keysTo l1 l1.length)))) (hD : W'.heap[D]? = some (.deferred (some []))) (hWD : W.heap.size ≤ D) {s0 s1 s3 s5 s6 s7 s8 s9 s10 s11 s13 s14 s15 s16 s17 s18 s19 s20 s21 s22 s23 s24 s25 s26 s27 s28 s29 s30 s31 s32 s33 s34 s35 s36 s37 s38 s39 s40 s41 s42 s43 s44 s45 s46 s47 s48 s49 s50 s51 s52 s53 s54 s55 s56 s57 s58 s59 s60 s61 s62 s63 s64 s65 s66 s67 s68 s69 s70 s71 s72 s73 s74 s75 s76 s77 s78 s79 s80 s81 s82 s83 s84 s85 s86 s87 s88 s89 s90 s91 s92 s93 s94 s95 s96 s97 s98 s99 s100 s101 s102 s103 s104 s105 s106 s107 s108 s109 s110 s111 s112 s113 s114 s115 s116 s117 s118 s119 s120 s121 s122 s123 s124 s125 s126 s127 s128 s129 s130 s131 s132 s133 s134 s135 s136 s137 s138 s139 s140 s141 s142 s143 s144 s145 s146 s147 s148 s149 s150 s151 : Value} :
    tellsRest.wp Try.prog (bodyPostM Fence.wide 9 Try.prog Try.f10 (RetB true W)) { tmps := #[s0, s1, .pointer (some ⟨W.heap.size, 0, none⟩), s3, .pointer (some ⟨W.heap.size + 1 + 1, 0, none⟩), s5, s6, s7, s8, s9, s10, s11, .pointer (some ⟨g9, 0, none⟩), s13, s14, s15, s16, s17, s18, s19, s20, s21, s22, s23, s24, s25, s26, s27, s28, s29, s30, s31, s32, s33, s34, s35, s36, s37, s38, s39, s40, s41, s42, s43, s44, s45, s46, s47, s48, s49, s50, s51, s52, s53, s54, s55, s56, s57, s58, s59, s60, s61, s62, s63, s64, s65, s66, s67, s68, s69, s70, s71, s72, s73, s74, s75, s76, s77, s78, s79, s80, s81, s82, s83, s84, s85, s86, s87, s88, s89, s90, s91, s92, s93, s94, s95, s96, s97, s98, s99, s100, s101, s102, s103, s104, s105, s106, s107, s108, s109, s110, s111, s112, s113, s114, s115, s116, s117, s118, s119, s120, s121, s122, s123, s124, s125, s126, s127, s128, s129, s130, s131, s132, s133, s134, s135, s136, s137, s138, s139, s140, s141, s142, s143, s144, s145, s146, s147, s148, s149, s150, s151], defers := [{ target := .collected D, args := #[] }] } W' := by
  have hl1 := lastOf_lo (keysTo l1 l1.length)
  have hl2 := lastOf_lt l1 l1.length (Nat.le_refl _)
  have hno := none_between l1 l1.length (Nat.le_refl _)
  generalize lastOf (keysTo l1 l1.length) = lp at *
  have HNO := Lib.hid hno; clear hno
  have HT := Lib.hid T; clear T
  have q12 := hLast.cell
  have HL := Lib.hid hLast; clear hLast
  have HD := Lib.hid hD; clear hD
  have a4 : W'.cell? ⟨W.heap.size, 4, none⟩ = some (.slice A l1.length c) := cell_of_row _ _ 4 _ _ (0, 0) HT.out.t.ga
  have hw : IntKind.i64.wrap (lp + 1) = lp + 1 := by rw [IntKind.wrap_i64]; omega
  have hgW := (Array.getElem?_eq_some_iff.1 HT.out.t.ga).1
  have H4 := Lib.hid a4; clear a4
  generalize hQ : bodyPostM Fence.wide 9 Try.prog Try.f10 (RetB true W) = Qp
  simp only [tellsRest, tellsX, Try.f10, ctail, Option.getD_some]
  have HQ := Lib.hid hQ; clear hQ
  go_wp2_with fail
  clear q12 hw
  go_loopw [16] (fun i wr => ∃ j : Nat, i = .int .i64 (j : Int) ∧ lp < (j : Int) ∧ j ≤ l1.length ∧ Below W'.heap.size W' wr) (fun i _ => l1.length - (intOf i).toNat)
  case atStart => exact ⟨(lp + 1).toNat, by rw [Int.toNat_of_nonneg (by omega)], by omega, by omega, Below.refl _ _⟩
  case round =>
    obtain ⟨j, rfl, hlj, hjk, hbr⟩ := hrel
    by_cases hlt : j < l1.length
    · obtain ⟨b', off, rfl, hbl, hcs⟩ := (hA.rd.below HT.out.t.lo (Nat.le_refl _)).col hlt
      have hm := (hcs j hlt).2.2
      have hk : l1[j].key = false := HNO.out j l1[j] hlj hlt (List.getElem?_eq_getElem hlt)
      simp only at hm
      rw [hk] at hm
      clear hcs hk
      have hblW : b' < W'.heap.size := by have := HT.out.t.lo.size; omega
      have g4' : wr.cell? ⟨W.heap.size, 4, none⟩ = some (.slice (some ⟨b', off, none⟩) l1.length c) := by rw [hbr.cell hgW]; exact H4.out
      have g2' : wr.cell? ⟨b', off + j * 3 + 2, none⟩ = some (.bool false) := by rw [hbr.cell hblW]; exact hm
      have hj2 : (j : Int) < (l1.length : Int) := by omega
      clear hm
      go_wp2
      go_roundw
      case rel => exact ⟨j + 1, by go_num, by omega, by omega, hbr⟩
      case measure => simp [intOf]; omega
    · obtain rfl : j = l1.length := by omega
      have g4' : wr.cell? ⟨W.heap.size, 4, none⟩ = some (.slice A l1.length c) := by rw [hbr.cell hgW]; exact H4.out
      go_wp2_with fail
      refine (awake8_any _).mono ?_
      rintro e w8 ⟨rfl, hb8⟩
      have hT8 := HT.out.up (hbr.trans (hb8.mono hbr.size))
      have cr := hT8.t.gr.cell
      have fr := hT8.t.gr.frozen
      have HT8 := Lib.hid hT8; clear hT8
      have h8 := hbr.trans (hb8.mono hbr.size)
      have HB8 := Lib.hid h8; clear h8 hbr hb8 g4'
      go_wp2
      rw [← HQ.out]
      have hK' := (KeepsOthers.setCell w8 ⟨W.heap.size + 1 + 1, 0, none⟩ (.bool true)).same D _ ((keeps_below HB8.out).same D _ HD.out rfl) rfl
      refine ⟨by simp, .inl ⟨_, _, rfl, run_takeDeferred hK', ?_⟩⟩
      have hc5 := cell_kept (HT8.out.t.gr.set (.bool true)).cell (grownBy_putObj' _ D (.deferred none)) (fun r e => by cases e; exact ⟨_, hK', rfl⟩)
      have hB5 : Below W.heap.size W (w8.setCell ⟨W.heap.size + 1 + 1, 0, none⟩ (.bool true)) := HT8.out.t.lo.setCell (p := ⟨W.heap.size + 1 + 1, 0, none⟩) (by simp; omega) _
      refine ⟨.bool true, ?_, rfl, hB5.trans (belowK_b (w := W) (Nat.le_refl _) _ D _ _ hWD hK' rfl rfl)⟩
      simp [results, Try.f10, go_sem, hc5]
end Go.Proofs.Ytcblmcpmdpnlbaa
