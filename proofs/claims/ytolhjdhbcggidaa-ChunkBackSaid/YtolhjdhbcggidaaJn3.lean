/-
  Layer 11: Join by its contract.
-/
import Derived.Test.YtolhjdhbcggidaaJn1
import Derived.IntWalk
namespace Go.Proofs.Ytolhjdhbcggidaa
open Go.RowKit

theorem byt_cells (l : List UInt8) : byt l = Lib.byteCells l := rfl
theorem byt_str (s : ByteArray) : Lib.strCells s = byt s.data.toList := rfl

theorem blen_any (B b : Nat) (acc : List UInt8) (w : World) (h : Lib.IsBuilder 65 5 B b (byt acc) w) :
    Calls Try.prog 33 #[.pointer (some ⟨b, 0, none⟩)] w fun e w' => e = .returned (.int .i64 (acc.length : Int)) ∧ w' = w := by
  have := Try.Builder_Len B b _ w h
  rwa [byt_len] at this
theorem bput_any (B b : Nat) (acc : List UInt8) (s : ByteArray) (w : World) (h : Lib.IsBuilder 65 5 B b (byt acc) w) (hlen : acc.length + s.size ≤ 140737488355328) (hBw : B ≤ w.heap.size) :
    Calls Try.prog 34 #[.pointer (some ⟨b, 0, none⟩), .string s] w fun e w' => e = .returned (.tuple #[.int .i64 s.size, .nilIface]) ∧ Lib.IsBuilder 65 5 B b (byt (acc ++ s.data.toList)) w' ∧ Below B w w' := by
  refine (Try.Builder_WriteString B b _ s w h (by rw [byt_len]; exact hlen) hBw).mono fun e w' ⟨h1, h2, h3⟩ => ⟨h1, .inr ?_, h3⟩
  rw [byt_app]
  exact h2
def lenOf : Value → Nat
  | .slice _ n _ => n
  | _ => 0
/-- How the pieces of one size are gone through: i of them are taken. -/
structure Pj (w w0 : World) (l : List ByteArray) (x : Int) (K i mi : Nat) (Ai : Option Addr) (wi : World) : Prop where
  le : K + i ≤ l.length
  em : mi = l.length - (K + i)
  sz : szs ((l.drop K).take i) = lensTo x i
  rd : Rd w w.heap.size 1 Ai mi (strs (l.drop (K + i)))
  bd : Lib.IsBuilder 65 5 w0.heap.size w0.heap.size (byt (catB ((l.drop K).take i))) wi
  b : Below w0.heap.size w0 wi

set_option maxRecDepth 100000 in
set_option maxHeartbeats 3200000 in
theorem join_any (l : List ByteArray) (A : Option Addr) (c : Nat) (sz : List Int) (A' : Option Addr) (c' : Nat) (w : World) (hR : Rd w w.heap.size 1 A l.length (strs l)) (hR' : Rd w w.heap.size 1 A' sz.length (ints sz)) (hlc : l.length ≤ c) (hcm : c ≤ maxLen) (hz : ∀ a ∈ l, a.size ≤ 3000) (hl' : sz.length ≤ 1000) (hz' : ∀ x ∈ sz, -9223372036854775808 ≤ x ∧ x ≤ 9223372036854775807) :
    Calls Try.prog 26 #[.slice A l.length c, .slice A' sz.length c'] w (RetSI 1 (strs (jnL l sz)) (jnE l sz) w) := by
  obtain ⟨i0, hi, hz0, hz1, hz2⟩ := info_parts Try.info9
  have HR := Lib.hid hR; have HR' := Lib.hid hR'; have HZ := Lib.hid hz; have HZ' := Lib.hid hz'; have HLC := Lib.hid hlc; have HCM := Lib.hid hcm; clear hR hR' hz hz' hlc hcm
  go_enter Try.func26, Try.ntmps26
  go_wp2
  go_loop [14] (fun i => ∃ j : Nat, j ≤ sz.length ∧ i = .int .i64 (j : Int) ∧ Hid (∀ x ∈ sz.take j, 0 ≤ x ∧ x ≤ 2048)) (fun i => sz.length - (intOf i).toNat)
  case atStart => exact ⟨0, by omega, rfl, by simp [Hid]⟩
  case round =>
    obtain ⟨j, hj, rfl, ht⟩ := hrel
    by_cases hlt : j < sz.length
    · obtain ⟨g, off, rfl, hg, hc⟩ := HR'.out.at_ hlt
      have h1 := hc j hlt
      clear hc
      obtain ⟨hx1, hx2⟩ := HZ'.out _ (List.getElem_mem hlt)
      have hi1 : (j : Int) < (sz.length : Int) := by omega
      have htk : Hid (sz.take (j + 1) = sz.take j ++ [sz[j]]) := List.take_succ_eq_append_getElem hlt
      have hmem : Hid (sz[j] ∈ sz) := List.getElem_mem hlt
      generalize sz[j] = x at *
      by_cases h3 : x < 0
      · have hd : decide (x < 0) = true := decide_eq_true h3
        obtain ⟨e1, e2⟩ := jn_bad (l := l) (badS_yes hmem.out (.inl h3))
        have E1 := Lib.hid e1; have E2 := Lib.hid e2; clear e1 e2
        go_wp2
        go_ret2
        rw [E1.out, E2.out]
        exact RetSI.nil_ rfl (Below.refl _ _)
      · have hd : decide (x < 0) = false := decide_eq_false h3
        by_cases h4 : 2048 < x
        · have hd2 : decide (2048 < x) = true := decide_eq_true h4
          obtain ⟨e1, e2⟩ := jn_bad (l := l) (badS_yes hmem.out (.inr h4))
          have E1 := Lib.hid e1; have E2 := Lib.hid e2; clear e1 e2
          go_wp2
          go_ret2
          rw [E1.out, E2.out]
          exact RetSI.nil_ rfl (Below.refl _ _)
        · have hd2 : decide (2048 < x) = false := decide_eq_false h4
          go_wp2
          go_round
          case rel => exact ⟨j + 1, by omega, by go_num, by
            show ∀ x ∈ _, _
            rw [htk.out]
            intro y hy
            rw [List.mem_append] at hy
            rcases hy with hy | hy
            · exact ht.out y hy
            · simp at hy; subst hy; omega⟩
          case measure => simp [intOf]; omega
    · have hok := ht.out
      rw [List.take_of_length_le (by omega)] at hok
      clear ht
      have hb := badS_mk hok
      have HB := Lib.hid hb
      have HOK := Lib.hid hok
      have hjl : Hid (j = sz.length) := by show _ = _; omega
      clear hb hok
      go_wp2
      go_loopw [0, 8, 27] (fun p v i wr => ∃ (j : Nat) (Ak : Option Addr) (m ck : Nat), j ≤ sz.length ∧ i = .int .i64 (j : Int) ∧ p = .slice Ak m ck ∧ m ≤ ck ∧ ck ≤ 9223372036854775807 ∧ Hid (cntL (sz.take j) ≤ l.length ∧ m = l.length - cntL (sz.take j) ∧ szs (l.take (cntL (sz.take j))) = lensL (sz.take j) ∧ Rd w w.heap.size 1 Ak m (strs (l.drop (cntL (sz.take j))))) ∧ wr.ownsRow w.heap.size 9 1 v (grp (sz.take j) l).length (strs (grp (sz.take j) l)) ∧ Below w.heap.size w wr) (fun _ _ i _ => sz.length - (intOf i).toNat)
      case atStart => exact ⟨0, A, l.length, c, by omega, rfl, rfl, HLC.out, HCM.out, ⟨by simp [cntL], by simp [cntL], by simp [cntL, szs, lensL], by simpa [cntL] using HR.out⟩, World.ownsRow_nil _ _ _ _, Below.refl _ _⟩
      case round =>
        obtain ⟨k, Ak, m, ck, hk, rfl, rfl, hmc, hcm, hkm, hown, hb⟩ := hrel
        by_cases hlt : k < sz.length
        · obtain ⟨g, off, rfl, hg, hc⟩ := HR'.out.at_ hlt
          have h0 := Lib.hid (hc k hlt)
          have h1 := (hb.cell (p := ⟨g, off + k, none⟩) hg).trans h0.out
          clear hc
          obtain ⟨hx1, hx2⟩ := HOK.out _ (List.getElem_mem hlt)
          have hi1 : (k : Int) < (sz.length : Int) := by omega
          have hfew := Lib.hid (fun i hi hh => few_no (l := l) (i := i) hlt hi hh)
          have hlong := Lib.hid (fun i hi hh hn => long_no (l := l) (i := i) hlt hi hh hn)
          have hdone := Lib.hid (fun hh => size_done hlt hkm.out.2.2.1 (l := l) hh)
          have hgs := Lib.hid (grp_snoc sz[k] (sz.take k) l)
          have htk := Lib.hid (List.take_succ_eq_append_getElem hlt)
          have hcn := Lib.hid (cntL_snoc hlt)
          have hgl := grp_len (sz.take k) l
          rw [List.length_take] at hgl
          generalize sz[k] = x at *
          obtain ⟨m0, rfl⟩ := Int.eq_ofNat_of_zero_le hx1
          have hm0 : ((m0 : Int)).toNat = m0 := by omega
          simp only [hm0] at hfew hlong hdone hgs hcn
          clear hm0
          have hIB := Lib.fresh_isBuilder 65 5 wr
          have hbn : Below wr.heap.size wr (wr.alloc (.cells #[.pointer none, .slice none 0 0] 65)) := (Below.refl _ _).alloc (Nat.le_refl _) _
          obtain ⟨wo, rfl⟩ : ∃ wo : World, wo = wr := ⟨_, rfl⟩
          go_wp2_with fail
          have HOWN := Lib.hid hown; have HB1 := Lib.hid hb
          have HP : Pj w wo l (m0 : Int) (cntL (sz.take k)) 0 m Ak (wo.alloc (.cells #[.pointer none, .slice none 0 0] 65)) := ⟨by have := hkm.out.1; omega, by have := hkm.out.2.1; omega, by simp [szs, lensTo], hkm.out.2.2.2, by simpa [catB, byt] using hIB, hbn⟩
          have HP0 := Lib.hid HP
          clear HP hown hb hIB hbn h1
          generalize wo.alloc _ = wb at *
          go_loopw [0] (fun p wi => ∃ (i mi ci : Nat) (Ai : Option Addr), p = .slice Ai mi ci ∧ mi ≤ ci ∧ ci ≤ 9223372036854775807 ∧ i ≤ nPc m0 ∧ Hid (Pj w wo l (m0 : Int) (cntL (sz.take k)) i mi Ai wi)) (fun p _ => lenOf p)
          case atStart => exact ⟨0, m, ck, Ak, rfl, hmc, hcm, by omega, HP0.out⟩
          case round =>
            obtain ⟨i, mi, ci, Ai, rfl, hmi, hci, hin, hP⟩ := hrel
            clear HP0 hmc hcm
            have hal := catB_lensTo (n := i) (by omega) (by simpa using hin) hP.out.sz
            have hal2 : (catB ((l.drop (cntL (sz.take k))).take i)).length = min (256 * i) m0 := by simpa using hal
            have hB := hP.out.bd
            have HBD := Lib.hid hB; clear hB hal
            generalize hacc : catB ((l.drop (cntL (sz.take k))).take i) = acc at *
            have HACC := Lib.hid hacc; clear hacc
            by_cases hlt2 : i < nPc m0
            · have hd : decide (acc.length < m0) = true := decide_eq_true (by unfold nPc at hlt2; omega)
              have hd' : acc.length < m0 := by unfold nPc at hlt2; omega
              have hal3 : Hid (acc.length = 256 * i) := by show _ = _; unfold nPc at hlt2; omega
              clear hal2
              go_wp2_with (go_at_call 33; refine (blen_any _ _ _ _ HBD.out).mono ?_; rintro e w1 ⟨rfl, rfl⟩)
              by_cases hm0 : mi = 0
              · obtain ⟨e1, e2⟩ := jn_no (l := l) HB.out (hfew.out i hlt2 (by have := hP.out.le; have := hP.out.em; omega))
                have E1 := Lib.hid e1; have E2 := Lib.hid e2; clear e1 e2
                have hd0 : ((mi : Int) == 0) = true := by simp; omega
                have HM0 := Lib.hid hm0; clear hm0
                go_quiet ((go_at_call 33; exact Calls.quiet_of_same (blen_any _ _ _ _ HBD.out)))
                go_wp2
                go_ret2
                rw [E1.out, E2.out]
                have hBB := HB1.out.trans (hP.out.b.mono HB1.out.size)
                exact RetSI.nil_ rfl (by first | exact hBB | exact ⟨hBB.os, hBB.tape, hBB.output, hBB.size, hBB.block⟩)
              · have hd0 : ((mi : Int) == 0) = false := by simp; omega
                have hlk : cntL (sz.take k) + i < l.length := by have := hP.out.le; have := hP.out.em; omega
                obtain ⟨b1, off1, rfl, hb1, hc1⟩ := Rd.at_ (f := Value.string) (l := l.drop (cntL (sz.take k) + i)) hP.out.rd (k := 0) (by rw [List.length_drop]; omega)
                have h5 := hc1 0 (by rw [List.length_drop]; omega)
                rw [List.getElem_drop] at h5
                simp only [Nat.add_zero] at h5
                have hBB := HB1.out.trans (hP.out.b.mono HB1.out.size)
                have h6 := (hBB.cell (p := ⟨b1, off1, none⟩) hb1).trans h5
                have H5 := Lib.hid h5; have HBB := Lib.hid hBB
                clear hc1 h5 hBB
                have hzs := HZ.out _ (List.getElem_mem hlk)
                have hst := Lib.hid (fun he => piece_step hlk hP.out.sz he)
                have hca := Lib.hid (cat_step hlk)
                have hlg := Lib.hid (hlong.out i hlt2 hlk)
                generalize l[cntL (sz.take k) + i] = s at *
                have hw1 : IntKind.i64.wrap ((m0 : Int) - (acc.length : Int)) = (m0 : Int) - (acc.length : Int) := IntWalk.i64_in _ (by omega)
                have hw2 : wrap64 ((m0 : Int) - (acc.length : Int)) = (m0 : Int) - (acc.length : Int) := IntWalk.wrap64_in _ (by omega)
                have hmp : (0 : Int) < (mi : Int) := by omega
                by_cases he : (s.size : Int) = min 256 ((m0 : Int) - (acc.length : Int))
                · have hE1 : ((s.size : Int) != min 256 ((m0 : Int) - (acc.length : Int))) = false := by simp [he]
                  have hE2 : ((s.size : Int) == min 256 ((m0 : Int) - (acc.length : Int))) = true := by simp [he]
                  have HE := Lib.hid he; clear he
                  go_quiet ((go_at_call 33; exact Calls.quiet_of_same (blen_any _ _ _ _ HBD.out)))
                  have hBD2 : Lib.IsBuilder 65 5 wo.heap.size wo.heap.size (byt acc) (w1.drewN nq) := HBD.out
                  have hB3 : Below wo.heap.size wo (w1.drewN nq) := ⟨hP.out.b.os, hP.out.b.tape, hP.out.b.output, hP.out.b.size, hP.out.b.block⟩
                  have hsz3 := hB3.size
                  have HBD2 := Lib.hid hBD2; have HB3 := Lib.hid hB3
                  have h7 : (w1.drewN nq).cell? ⟨b1, off1, none⟩ = some (.string s) := h6
                  clear hBD2 hB3 h6 HBD
                  generalize w1.drewN nq = w3 at *
                  go_wp2_with fail
                  refine (bput_any _ _ acc s w3 HBD2.out (by omega) hsz3).mono ?_
                  rintro e w4 ⟨rfl, hB4, hb4⟩
                  have hcut : ∀ W : World, (Instr.slice 41 (.slice (some ⟨b1, off1, none⟩) mi ci) (some (.int .i64 1)) none none).run Try.prog W = .ok (.slice (cutA (some ⟨b1, off1, none⟩) ci 1 1) (mi - 1) (ci - 1)) W := fun W => by
                    have := run_cut_from W Try.underlying41 hi (some ⟨b1, off1, none⟩) mi ci 1 .i64 (by omega)
                    rwa [hz1] at this
                  have HBD4 := Lib.hid hB4; have HB4 := Lib.hid hb4
                  clear hB4 hb4 h7
                  go_wp2
                  go_roundw
                  case rel =>
                    refine ⟨i + 1, mi - 1, ci - 1, _, rfl, by omega, by omega, by omega, ?_⟩
                    show Pj _ _ _ _ _ _ _ _ _
                    have h1 := hP.out.em
                    have h3 := hP.out.rd.cutFrom (k := 1) (cap := ci) (by omega) hmi
                    have e3 : (strs (l.drop (cntL (sz.take k) + i))).drop (1 * 1) = strs (l.drop (cntL (sz.take k) + (i + 1))) := by
                      rw [Nat.add_comm i 1, ← Nat.add_assoc, Nat.add_right_comm, ← List.drop_drop]; simp [strs]
                    rw [e3] at h3
                    refine ⟨by omega, by omega, hst.out (by rw [HE.out]; have := hal3.out; omega), h3, ?_, HB3.out.trans HB4.out⟩
                    rw [hca.out, HACC.out]
                    exact HBD4.out
                  case measure => simp [lenOf]; omega
                · have hE1 : ((s.size : Int) != min 256 ((m0 : Int) - (acc.length : Int))) = true := by simpa using he
                  have hE2 : ((s.size : Int) == min 256 ((m0 : Int) - (acc.length : Int))) = false := by simpa using he
                  have hno : lensL sz ≠ szs l := hlg.out (fun h => he (by rw [h]; have := hal3.out; omega))
                  obtain ⟨e1, e2⟩ := jn_no (l := l) HB.out hno
                  have E1 := Lib.hid e1; have E2 := Lib.hid e2; clear e1 e2 hno he
                  go_quiet ((go_at_call 33; exact Calls.quiet_of_same (blen_any _ _ _ _ HBD.out)))
                  go_wp2
                  go_ret2
                  rw [E1.out, E2.out]
                  exact RetSI.nil_ rfl (by first | exact HBB.out | exact ⟨HBB.out.os, HBB.out.tape, HBB.out.output, HBB.out.size, HBB.out.block⟩)
            · have hie : i = nPc m0 := by omega
              have hd : decide (acc.length < m0) = false := decide_eq_false (by unfold nPc at hie; omega)
              have hd' : ¬ acc.length < m0 := by unfold nPc at hie; omega
              subst hie
              have hsd := Lib.hid (hdone.out (by simpa using hP.out.sz))
              clear hal2 hlt2
              go_wp2_with (go_at_call 33; refine (blen_any _ _ _ _ HBD.out).mono ?_; rintro e w1 ⟨rfl, rfl⟩)
              refine (Try.Builder_String_any _ _ acc w1 HBD.out hP.out.b.size).mono ?_
              rintro e w4 ⟨rfl, hb4⟩
              have hbo4 : Below wo.heap.size wo w4 := hP.out.b.trans hb4
              have hown4 := own_up HOWN.out hbo4
              have hb14 := HB1.out.trans (hbo4.mono HB1.out.size)
              have hnews := cells_one (heap_alloc_new w4 (.cells #[.string ⟨acc.toArray⟩] 9))
              have hG : Hid (grp (sz.take (k + 1)) l = grp (sz.take k) l ++ [⟨acc.toArray⟩]) := by show _ = _; rw [htk.out, hgs.out, HACC.out]
              have hz4 := hb14.size
              clear hbo4 hb4 hgs htk HBD HACC
              generalize grp (sz.take k) l = G at *
              have hgl2 : G.length ≤ 1000 := by omega
              clear hgl
              go_wp2_with (at_builtin; refine wpList_append_own _ rfl _ _ 41 rfl w.heap.size 9 i0 (.string .empty) 1 16 Try.underlying41 hi hz0 hz1 hz2 rfl (by decide) _ _ _ rfl (hown4.alloc _) ⟨w4.heap.size, 0, none⟩ 1 1 [.string ⟨acc.toArray⟩] rfl rfl hnews (by simp [Value.oneCell']) (by simp only [maxLen]; omega) (by omega) (by simp; omega) ?_)
              intro v8 w8 hown8 hg8 _
              have hb8 := own_base (hown4.alloc _) (hb14.alloc hb14.size _) hg8 (by simp; omega)
              have hown9 : w8.ownsRow w.heap.size 9 1 v8 (grp (sz.take (k + 1)) l).length (strs (grp (sz.take (k + 1)) l)) := by
                rw [hG.out, List.length_append, strs_app]
                simpa [strs] using hown8
              clear hown8 hg8 hnews hown4 hb14 hz4
              go_wp2
              go_roundw
              case rel =>
                refine ⟨k + 1, Ai, mi, ci, by omega, by go_num, rfl, hmi, hci, ⟨?_, ?_, hsd.out, ?_⟩, hown9, hb8⟩
                · rw [hcn.out]; exact hP.out.le
                · rw [hcn.out]; exact hP.out.em
                · rw [hcn.out]; exact hP.out.rd
              case measure => simp [intOf]; omega
        · have hke : k = sz.length := by omega
          subst hke
          rw [List.take_length] at hkm hown
          obtain ⟨q1, q2, q3, q4⟩ := hkm.out
          clear hkm
          by_cases hm0 : m = 0
          · have hno : lensL sz = szs l := by rw [← q3, List.take_of_length_le (by omega)]
            obtain ⟨e1, e2⟩ := jn_ok (l := l) HB.out hno
            have E1 := Lib.hid e1; have E2 := Lib.hid e2; clear e1 e2 hno
            have hd : decide (0 < m) = false := decide_eq_false (by omega)
            have HM0 := Lib.hid hm0
            clear hm0 q3 q4 q2 q1
            obtain ⟨A5, c5, rfl, h1, h2, h3⟩ := Rd.of_own hown
            go_wp2
            go_ret2
            rw [E1.out, E2.out]
            exact RetSI.mk' h3 h1 h2 rfl hb
          · obtain ⟨e1, e2⟩ := jn_no (l := l) HB.out (take_all_no (by omega))
            have E1 := Lib.hid e1; have E2 := Lib.hid e2; clear e1 e2
            have hd : decide (0 < m) = true := decide_eq_true (by omega)
            clear hm0 q3 q4 q2 q1
            go_wp2
            go_ret2
            rw [E1.out, E2.out]
            exact RetSI.nil_ rfl hb
end Go.Proofs.Ytolhjdhbcggidaa
