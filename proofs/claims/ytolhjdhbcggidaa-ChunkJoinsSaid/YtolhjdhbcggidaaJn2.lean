/-
  Layer 11: the reference's Join by its contract.
-/
import Derived.Test.YtolhjdhbcggidaaJn1
namespace Go.Proofs.Ytolhjdhbcggidaa
open Go.RowKit

theorem str_take (l : List UInt8) (n : Nat) : (⟨l.toArray⟩ : ByteArray).extract 0 n = ⟨(l.take n).toArray⟩ := by
  apply Go.WideShapes.bytes_inj
  simp [ByteArray.data_extract]
theorem str_drop (l : List UInt8) (n : Nat) : (⟨l.toArray⟩ : ByteArray).extract n (⟨l.toArray⟩ : ByteArray).size = ⟨(l.drop n).toArray⟩ := by
  apply Go.WideShapes.bytes_inj
  simp [ByteArray.data_extract, ByteArray.size]
  exact List.take_of_length_le (by simp)
theorem str_size (l : List UInt8) : (⟨l.toArray⟩ : ByteArray).size = l.length := by simp [ByteArray.size]

set_option maxRecDepth 100000 in
set_option maxHeartbeats 1600000 in
theorem joinR_any (l : List ByteArray) (A : Option Addr) (c : Nat) (sz : List Int) (A' : Option Addr) (c' : Nat) (w : World) (hR : Rd w w.heap.size 1 A l.length (strs l)) (hR' : Rd w w.heap.size 1 A' sz.length (ints sz)) (hl : l.length ≤ 1000) (hz : ∀ a ∈ l, a.size ≤ 3000) (hl' : sz.length ≤ 1000) (hz' : ∀ x ∈ sz, -9223372036854775808 ≤ x ∧ x ≤ 9223372036854775807) :
    Calls Try.prog 27 #[.slice A l.length c, .slice A' sz.length c'] w (RetSI 1 (strs (jnL l sz)) (jnE l sz) w) := by
  obtain ⟨i0, hi, hz0, hz1, hz2⟩ := info_parts Try.info9
  have HR := Lib.hid hR; have HR' := Lib.hid hR'; have HZ := Lib.hid hz; have HZ' := Lib.hid hz'; clear hR hR' hz hz'
  go_enter Try.func27, Try.ntmps27
  go_wp2
  go_loop [6] (fun i => ∃ j : Nat, j ≤ sz.length ∧ i = .int .i64 (j : Int) ∧ Hid (∀ x ∈ sz.take j, 0 ≤ x ∧ x ≤ 2048)) (fun i => sz.length - (intOf i).toNat)
  case atStart => exact ⟨0, by omega, rfl, by simp [Hid]⟩
  case round =>
    obtain ⟨j, hj, rfl, ht⟩ := hrel
    by_cases hlt : j < sz.length
    · obtain ⟨g, off, rfl, hg, hc⟩ := HR'.out.at_ hlt
      have h1 := hc j hlt
      clear hc
      obtain ⟨hx1, hx2⟩ := HZ'.out _ (List.getElem_mem hlt)
      have hi1 : (j : Int) < (sz.length : Int) := by omega
      have htk : Hid (sz.take (j + 1) = sz.take j ++ [sz[j]]) := List.take_succ_eq_append_getElem hlt
      have hmem : Hid (sz[j] ∈ sz) := List.getElem_mem hlt
      generalize sz[j] = x at *
      by_cases h3 : x < 0
      · have hd : decide (x < 0) = true := decide_eq_true h3
        obtain ⟨e1, e2⟩ := jn_bad (l := l) (badS_yes hmem.out (.inl h3))
        have E1 := Lib.hid e1; have E2 := Lib.hid e2; clear e1 e2
        go_wp2
        go_ret2
        rw [E1.out, E2.out]
        exact RetSI.nil_ rfl (Below.refl _ _)
      · have hd : decide (x < 0) = false := decide_eq_false h3
        by_cases h4 : 2048 < x
        · have hd2 : decide (2048 < x) = true := decide_eq_true h4
          obtain ⟨e1, e2⟩ := jn_bad (l := l) (badS_yes hmem.out (.inr h4))
          have E1 := Lib.hid e1; have E2 := Lib.hid e2; clear e1 e2
          go_wp2
          go_ret2
          rw [E1.out, E2.out]
          exact RetSI.nil_ rfl (Below.refl _ _)
        · have hd2 : decide (2048 < x) = false := decide_eq_false h4
          go_wp2
          go_round
          case rel => exact ⟨j + 1, by omega, by go_num, by
            show ∀ x ∈ _, _
            rw [htk.out]
            intro y hy
            rw [List.mem_append] at hy
            rcases hy with hy | hy
            · exact ht.out y hy
            · simp at hy; subst hy; omega⟩
          case measure => simp [intOf]; omega
    · have hok := ht.out
      rw [List.take_of_length_le (by omega)] at hok
      clear ht
      have hb := badS_mk hok
      have HB := Lib.hid hb
      have HOK := Lib.hid hok
      have hjl : Hid (j = sz.length) := by show _ = _; omega
      clear hb hok
      go_wp2_with fail
      refine (lengths_any sz A' c' w HR'.out (by omega) (fun x hx => ⟨(HZ'.out x hx).1, (HOK.out x hx).2⟩)).mono ?_
      rintro e w2 ⟨A2, n2, c2, rfl, hn2, hc2, hR2, hb2⟩
      have hl2 := hR2.len1
      simp only [ints, List.length_map] at hl2
      subst hl2
      have hsz := cntL_le sz (fun x hx => (HOK.out x hx).2)
      rw [← lensL_len] at hsz
      have HR2 := Lib.hid hR2; have HB2 := Lib.hid hb2
      clear hR2 hb2
      by_cases hln : (lensL sz).length = l.length
      · have HLN := Lib.hid hln; clear hln
        generalize hL : lensL sz = L at *
        have HL := Lib.hid hL; clear hL
        have hLl := HLN.out
        have hLz : L.length ≤ 9223372036854775807 := by omega
        have hne : ((L.length : Int) != (l.length : Int)) = false := by simp; omega
        have hne2 : ((L.length : Int) == (l.length : Int)) = true := by simp; omega
        clear hLl
        go_wp2_with fail
        go_loopw [8, 9] (fun s i wr => ∃ j : Nat, j ≤ L.length ∧ i = .int .i64 (j : Int) ∧ s = .string ⟨(catB (l.take j)).toArray⟩ ∧ Hid (szs (l.take j) = L.take j) ∧ Below w.heap.size w wr ∧ Below w2.heap.size w2 wr) (fun _ i _ => L.length - (intOf i).toNat)
        case atStart => exact ⟨0, by omega, rfl, by simp [catB], by simp [Hid, szs], HB2.out, Below.refl _ _⟩
        case round =>
          obtain ⟨j, hj, rfl, rfl, hm, hbel, hbel2⟩ := hrel
          have HM := hm; clear hm
          have HBL := Lib.hid hbel; have HBL2 := Lib.hid hbel2; clear hbel hbel2
          by_cases hlt : j < L.length
          · have hlt2 : j < l.length := by have := HLN.out; omega
            obtain ⟨g, off, rfl, hg, hc⟩ := (HR.out.below HBL.out (Nat.le_refl _)).at_ hlt2
            have h1 := hc j hlt2
            clear hc
            obtain ⟨g', off', rfl, hg', hc⟩ := (HR2.out.below HBL2.out (Nat.le_refl _)).at_ hlt
            have h2 := hc j hlt
            clear hc
            have hz1 := HZ.out _ (List.getElem_mem hlt2)
            have hi1 : (j : Int) < (L.length : Int) := by omega
            have hi2 : (j : Int) < (l.length : Int) := by omega
            have hsn := Lib.hid (szs_snoc hlt2)
            have hcs := Lib.hid (catB_snoc hlt2)
            have htk := Lib.hid (List.take_succ_eq_append_getElem hlt)
            have hcl := catB_len (l.take j) 3000 (fun a ha => HZ.out a (List.mem_of_mem_take ha))
            rw [List.length_take] at hcl
            by_cases he : (l[j].size : Int) = L[j]
            · rw [← he] at h2
              have HE := Lib.hid he; clear he
              generalize L[j] = x at *
              generalize l[j] = t at *
              generalize catB (l.take j) = T at *
              have hadd := Lib.hid (str_add T t)
              have hLs := str_size T
              go_wp2_with fail
              go_quiet (fail)
              go_wp2
              go_roundw
              case rel => exact ⟨j + 1, by omega, by go_num, by rw [hadd.out, hcs.out], by show _ = _; rw [hsn.out, htk.out, HM.out, HE.out], by first | exact HBL.out | exact ⟨HBL.out.os, HBL.out.tape, HBL.out.output, HBL.out.size, HBL.out.block⟩, by first | exact HBL2.out | exact ⟨HBL2.out.os, HBL2.out.tape, HBL2.out.output, HBL2.out.size, HBL2.out.block⟩⟩
              case measure => simp [intOf]; omega
            · have hno : lensL sz ≠ szs l := by
                rw [HL.out]
                intro e
                have h3 : L[j]? = (szs l)[j]? := by rw [e]
                rw [List.getElem?_eq_getElem hlt] at h3
                unfold szs at h3
                rw [List.getElem?_map, List.getElem?_eq_getElem hlt2] at h3
                simp at h3
                exact he h3.symm
              obtain ⟨e1, e2⟩ := jn_no (l := l) HB.out hno
              have E1 := Lib.hid e1; have E2 := Lib.hid e2; clear e1 e2 hno
              generalize L[j] = x at *
              generalize l[j] = t at *
              generalize catB (l.take j) = T at *
              have hne3 : ((t.size : Int) != x) = true := by simpa using he
              have hne4 : ((t.size : Int) == x) = false := by simpa using he
              clear he
              go_wp2_with fail
              go_quiet (fail)
              go_wp2
              go_ret2
              rw [E1.out, E2.out]
              exact RetSI.nil_ rfl (by first | exact HBL.out | exact ⟨HBL.out.os, HBL.out.tape, HBL.out.output, HBL.out.size, HBL.out.block⟩)
          · have hj2 : l.take j = l := List.take_of_length_le (by have := HLN.out; omega)
            have hj3 : L.take j = L := List.take_of_length_le (by omega)
            have hm := HM.out
            rw [hj2, hj3, ← HL.out] at hm
            obtain ⟨e1, e2⟩ := jn_ok (l := l) HB.out hm.symm
            have E1 := Lib.hid e1; have E2 := Lib.hid e2; have HEQ := Lib.hid hm.symm
            rw [hj2]
            clear e1 e2 hm hj2 hj3 HM
            obtain ⟨wo, rfl⟩ : ∃ wo : World, wo = wr := ⟨_, rfl⟩
            go_wp2
            go_loopw [8, 10, 11] (fun s v i wr => ∃ k : Nat, k ≤ sz.length ∧ i = .int .i64 (k : Int) ∧ s = .string ⟨(catB (l.drop (cntL (sz.take k)))).toArray⟩ ∧ wr.ownsRow w.heap.size 9 1 v (grp (sz.take k) l).length (strs (grp (sz.take k) l)) ∧ Below w.heap.size w wr) (fun _ _ i _ => sz.length - (intOf i).toNat)
            case atStart => exact ⟨0, by omega, rfl, by simp [cntL], World.ownsRow_nil _ _ _ _, HBL.out⟩
            case round =>
              obtain ⟨k, hk, rfl, rfl, hown, hb⟩ := hrel
              clear HBL HBL2
              by_cases hlt3 : k < sz.length
              · obtain ⟨g, off, rfl, hg, hc⟩ := HR'.out.at_ hlt3
                have h0 := Lib.hid (hc k hlt3)
                have h1 := (hb.cell (p := ⟨g, off + k, none⟩) hg).trans h0.out
                clear hc
                obtain ⟨hx1, hx2⟩ := HOK.out _ (List.getElem_mem hlt3)
                obtain ⟨c1, c2⟩ := cut_at HEQ.out hlt3 hx1
                have hgs := grp_snoc sz[k] (sz.take k) l
                rw [← List.take_succ_eq_append_getElem hlt3] at hgs
                have hgl := grp_len (sz.take k) l
                rw [List.length_take] at hgl
                generalize hG1 : grp (sz.take (k + 1)) l = G' at *
                generalize grp (sz.take k) l = G at *
                generalize catB ((l.drop (cntL (sz.take k))).take (nPc sz[k].toNat)) = Pt at *
                generalize hT1 : catB (l.drop (cntL (sz.take (k + 1)))) = T' at *
                generalize catB (l.drop (cntL (sz.take k))) = T at *
                generalize sz[k] = x at *
                obtain ⟨m, rfl⟩ := Int.eq_ofNat_of_zero_le hx1
                have hi1 : (k : Int) < (sz.length : Int) := by omega
                have q0 : (⟨T.toArray⟩ : ByteArray).size = T.length := str_size T
                have q1 : (⟨T.toArray⟩ : ByteArray).extract 0 m = ⟨Pt.toArray⟩ := by rw [str_take, c2, List.take_left' (by simpa using c1)]
                have q2 : (⟨T.toArray⟩ : ByteArray).extract m (⟨T.toArray⟩ : ByteArray).size = ⟨T'.toArray⟩ := by rw [str_drop, c2, List.drop_left' (by simpa using c1)]
                have q3 : m ≤ T.length := by rw [c2, List.length_append]; simp at c1; omega
                generalize (⟨T.toArray⟩ : ByteArray) = S at *
                have q4 : m ≤ S.size := by omega
                have q5 : (m : Int) ≤ (S.size : Int) := by omega
                have hnews := cells_one (heap_alloc_new wr (.cells #[.string (S.extract 0 m)] 9))
                have Q1 := Lib.hid q1; have Q2 := Lib.hid q2; have HGS := Lib.hid hgs; have HG1 := Lib.hid hG1; have HT1 := Lib.hid hT1
                have hgl2 : G.length ≤ 1000 := by omega
                clear c1 c2 q0 q1 q2 q3 hgs hgl hG1 hT1
                go_wp2_with (at_builtin; refine wpList_append_own _ rfl _ _ 41 rfl w.heap.size 9 i0 (.string .empty) 1 16 Try.underlying41 hi hz0 hz1 hz2 rfl (by decide) _ _ _ rfl (hown.alloc _) ⟨wr.heap.size, 0, none⟩ 1 1 [.string (S.extract 0 m)] rfl rfl hnews (by simp [Value.oneCell']) (by simp only [maxLen]; omega) (by omega) (by have := hb.size; simp; omega) ?_)
                intro v8 w8 hown8 hg8 _
                have hb8 := own_base (hown.alloc _) (hb.alloc hb.size _) hg8 (by have := hb.size; simp; omega)
                have hown9 : w8.ownsRow w.heap.size 9 1 v8 G'.length (strs G') := by
                  rw [HGS.out, List.length_append, strs_app]
                  rw [Q1.out] at hown8
                  simpa [strs] using hown8
                have h2 := (hb8.cell (p := ⟨g, off + k, none⟩) hg).trans h0.out
                clear hown8 hg8 hnews hown hb h1
                go_wp2
                go_roundw
                case rel => exact ⟨k + 1, by omega, by go_num, by rw [Q2.out, HT1.out], by rw [HG1.out]; exact hown9, hb8⟩
                case measure => simp [intOf]; omega
              · have hke : k = sz.length := by omega
                subst hke
                rw [List.take_length] at hown
                obtain ⟨A5, c5, rfl, h1, h2, h3⟩ := Rd.of_own hown
                go_wp2
                go_ret2
                rw [E1.out, E2.out]
                exact RetSI.mk' h3 h1 h2 rfl hb
      · obtain ⟨e1, e2⟩ := jn_no (l := l) HB.out (fun e => hln (by rw [e, szs_len]))
        have E1 := Lib.hid e1; have E2 := Lib.hid e2; clear e1 e2
        generalize lensL sz = L at *
        have hne : ((L.length : Int) != (l.length : Int)) = true := by simp; omega
        have hne2 : ((L.length : Int) == (l.length : Int)) = false := by simp; omega
        clear hln
        go_wp2
        go_ret2
        rw [E1.out, E2.out]
        exact RetSI.nil_ rfl HB2.out
end Go.Proofs.Ytolhjdhbcggidaa
