/-
  Layer 11: ChunkBack, the walk.
-/
import Derived.Test.YtolhjdhbcggidaaBk1
import Derived.Test.YtolhjdhbcggidaaCl
namespace Go.Proofs.Ytolhjdhbcggidaa
open Go.RowKit Mono
attribute [local go_sem] Mono.pureAt Mono.pureUpon
attribute [local irreducible] Mono.steps Mono.wpM

def bk20 (B k : Nat) (p : List ByteArray) : Nat → Option Fact
  | 0 => some (.litK B 0 #[] 9)
  | 4 => some (.own B 9 1 k (strs (p.take k)))
  | _ => none
def bk21 (B k : Nat) (p : List ByteArray) (a b : ByteArray) : Nat → Option Fact
  | 0 => some (.litK B 0 #[] 9)
  | 4 => some (.own B 9 1 k (strs (p.take k)))
  | 27 => some (.litK B 2 #[.string a, .string b] 9)
  | _ => none

set_option maxRecDepth 100000 in
set_option maxHeartbeats 3200000 in
theorem chunkBack_walk (A : Option Addr) (c : Nat) (l : List ByteArray) (at_ : Nat) (w : World) (hR : Rd w w.heap.size 1 A l.length (strs l)) (hz : ∀ a ∈ l, a.size ≤ maxLen) (hat : at_ < 256) (hlc : l.length ≤ c) (hcm : c ≤ maxLen) :
    Calls Try.prog 10 #[.slice A l.length c, .int .u8 (at_ : Int)] w (RetB true w) := by
  have hlm : l.length ≤ maxLen := Nat.le_trans hlc hcm
  obtain ⟨i3, hi3, hz30, hz31, hz32⟩ := info_parts Try.info3
  obtain ⟨i9, hi9, hz90, hz91, hz92⟩ := info_parts Try.info9
  have HR := Lib.hid hR; have HLC := Lib.hid hlc; have HCM := Lib.hid hcm
  clear hR
  go_enter Try.func10, Try.ntmps10
  go_wp2_with fail
  refine (greatS_any l A c 12 w HR.out hlm hz).mono ?_
  rintro e w1 ⟨rfl, hb1⟩
  cases hg : greatB l 12
  · obtain ⟨hs, hn⟩ := great_no (n := 12) hg
    have HS := Lib.hid hs; have HB1 := Lib.hid hb1
    clear hs hb1 hz hg
    go_wp2
    go_loopw [5, 6] (fun v i wr => ∃ j : Nat, j ≤ l.length ∧ i = .int .i64 (j : Int) ∧ Hid (∀ a ∈ l.take j, a.size ≤ 2048) ∧ wr.ownsRow w.heap.size 3 1 v (szs (l.take j)).length (ints (szs (l.take j))) ∧ Below w.heap.size w wr) (fun _ i _ => l.length - (intOf i).toNat)
    case atStart => exact ⟨0, by omega, rfl, by simp [Hid], World.ownsRow_nil _ _ _ _, HB1.out⟩
    case round =>
      obtain ⟨j, hj, rfl, ht, hown, hb⟩ := hrel
      clear HB1
      by_cases hlt : j < l.length
      · obtain ⟨g, off, rfl, hg, hc⟩ := HR.out.at_ hlt
        have h0 := Lib.hid (hc j hlt)
        have h1 := (hb.cell (p := ⟨g, off + j, none⟩) hg).trans h0.out
        clear hc
        have hzs := HS.out _ (List.getElem_mem hlt)
        have hi1 : (j : Int) < (l.length : Int) := by omega
        have htk : Hid (l.take (j + 1) = l.take j ++ [l[j]]) := List.take_succ_eq_append_getElem hlt
        have hsn := Lib.hid (szs_snoc hlt)
        have hsl := szs_len (l.take j)
        rw [List.length_take] at hsl
        generalize l[j] = s at *
        by_cases h4 : 2048 < s.size
        · have hd : decide ((2048 : Int) < (s.size : Int)) = true := decide_eq_true (by omega)
          go_wp2
          go_ret
          exact ⟨rfl, hb⟩
        · have hd : decide ((2048 : Int) < (s.size : Int)) = false := decide_eq_false (by omega)
          have hnews := cells_one (heap_alloc_new wr (.cells #[.int .i64 (s.size : Int)] 3))
          generalize szs (l.take j) = L at *
          have hLl : L.length ≤ 12 := by omega
          clear hsl
          go_wp2_with (at_builtin; refine wpList_append_own _ rfl _ _ 51 rfl w.heap.size 3 i3 (.int .i64 0) 1 8 Try.underlying51 hi3 hz30 hz31 hz32 rfl (by decide) _ _ _ rfl (hown.alloc _) ⟨wr.heap.size, 0, none⟩ 1 1 [.int .i64 (s.size : Int)] rfl rfl hnews (by simp [Value.oneCell']) (by simp only [maxLen]; omega) (by omega) (by have := hb.size; simp; omega) ?_)
          intro v8 w8 hown8 hg8 _
          have hb8 := own_base (hown.alloc _) (hb.alloc hb.size _) hg8 (by have := hb.size; simp; omega)
          have hown9 : w8.ownsRow w.heap.size 3 1 v8 (szs (l.take (j + 1))).length (ints (szs (l.take (j + 1)))) := by
            rw [hsn.out, List.length_append, ints_app]
            simpa [ints] using hown8
          clear hown8 hg8 hnews hown hb h1
          go_wp2
          go_roundw
          case rel => exact ⟨j + 1, by omega, by go_num, by
            show ∀ x ∈ _, _
            rw [htk.out]
            intro y hy
            rw [List.mem_append] at hy
            rcases hy with hy | hy
            · exact ht.out y hy
            · simp at hy; subst hy; omega, hown9, hb8⟩
          case measure => simp [intOf]; omega
      · have hje : j = l.length := by omega
        subst hje
        rw [List.take_length] at ht hown
        obtain ⟨As, cs, rfl, hs1, hs2, hRs⟩ := Rd.of_own hown
        have HRs := Lib.hid hRs; have HT := Lib.hid ht.out; have HB := Lib.hid hb
        have hj1 := (jn_split (l := l) ht.out).1
        have hj2 := (jn_split (l := l) ht.out).2
        have hcn := cnt_split l
        have HJ1 := Lib.hid hj1; have HJ2 := Lib.hid hj2; have HCN := Lib.hid hcn
        have hno := Lib.hid (fun q (hq : q.length ≠ (splitL l).length) => (jn_other (l := l) (q := q) ht.out hq).1)
        have hsz := splitL_len l HS.out
        have hsp := Lib.hid (fun a (ha : a ∈ splitL l) => split_size ha)
        have hzi := Lib.hid (show ∀ x ∈ szs l, -9223372036854775808 ≤ x ∧ x ≤ 2048 from fun x hx => by
          unfold szs at hx
          obtain ⟨a, ha, rfl⟩ := List.mem_map.1 hx
          have := ht.out a ha
          omega)
        have hszl := szs_len l
        have hszl2 : (szs l).length ≤ 12 := by omega
        have HSZL := Lib.hid hszl
        clear hszl
        clear hRs ht hb hj1 hj2 hcn hown
        go_wp2_with fail
        refine (split_own l A c wr (HR.out.up HB.out (Nat.le_refl _) HB.out.size) (by omega) HS.out).mono ?_
        rintro e w2 ⟨vp, rfl, hp, hb2⟩
        have HP := Lib.hid hp
        obtain ⟨Ap, cp, rfl, hp1, hp2, hRp⟩ := Rd.of_own hp
        have HRp := Lib.hid hRp
        have HB2 := Lib.hid (HB.out.trans (hb2.mono HB.out.size))
        have HRs2 := Lib.hid (HRs.out.up hb2 (Nat.le_refl _) hb2.size)
        clear hp hRp hb2 HRs HB
        generalize splitL l = p at *
        generalize szs l = sz at *
        have hz3 := Lib.hid (show ∀ a ∈ p, a.size ≤ 3000 from fun a ha => by have := (hsp.out a ha).2; omega)
        have hzi2 := Lib.hid (show ∀ x ∈ sz, -9223372036854775808 ≤ x ∧ x ≤ 9223372036854775807 from fun x hx => by have := hzi.out x hx; omega)
        go_wp2_with fail
        refine (join_any p Ap cp sz As cs w2 HRp.out HRs2.out hp1 hp2 hz3.out (by omega) hzi2.out).mono ?_
        rw [HJ1.out, HJ2.out]
        rintro e w3 ⟨A3, n3, c3, rfl, hn3, hc3, hR3, hb3⟩
        have hl3 := hR3.len1
        rw [strs_len] at hl3
        subst hl3
        have HB3 := Lib.hid (HB2.out.trans (hb3.mono HB2.out.size))
        have HR3 := Lib.hid hR3
        have HP3 := Lib.hid (own_up HP.out hb3)
        have HRp3 := Lib.hid (HRp.out.up hb3 (Nat.le_refl _) hb3.size)
        have HRs3 := Lib.hid (HRs2.out.up hb3 (Nat.le_refl _) hb3.size)
        clear hb3 hR3 HP HRp HRs2 HB2 HJ1 HJ2
        go_wp2_with fail
        refine (sameS_any l A3 A c3 c w3 HR3.out (HR.out.up HB3.out (Nat.le_refl _) HB3.out.size) hlm).mono ?_
        rintro e w4 ⟨rfl, hb4⟩
        have HB4 := Lib.hid (HB3.out.trans (hb4.mono HB3.out.size))
        have HP4 := Lib.hid (own_up HP3.out hb4)
        have HRp4 := Lib.hid (HRp3.out.up hb4 (Nat.le_refl _) hb4.size)
        have HRs4 := Lib.hid (HRs3.out.up hb4 (Nat.le_refl _) hb4.size)
        clear hb4 HR3 HP3 HRp3 HRs3 HB3
        go_wp2_with fail
        refine (count_any sz As cs w4 HRs4.out (by omega) hzi.out).mono ?_
        rintro e w5 ⟨rfl, hb5⟩
        rw [HCN.out]
        have HB5 := Lib.hid (HB4.out.trans (hb5.mono HB4.out.size))
        have HP5 := Lib.hid (own_up HP4.out hb5)
        have HRs5 := Lib.hid (HRs4.out.up hb5 (Nat.le_refl _) hb5.size)
        clear hb5 HP4 HRp4 HRs4 HB4
        have hp0 : p.length ≤ 144 := by omega
        have hown0 : (w5.alloc (.cells #[] 9)).ownsRow w5.heap.size 9 1 (.slice (some ⟨w5.heap.size, 0, none⟩) 0 0) 0 [] := World.ownsRow_made w5 #[] 0 (Nat.le_refl _) (by simp) (by simp)
        have hsrc := HP5.out.alloc (.cells #[] 9)
        go_wp2_with (at_builtin; refine wpList_append_own_row rfl _ _ 41 rfl w5.heap.size 9 i9 (.string .empty) 1 16 Try.underlying41 hi9 hz90 hz91 hz92 rfl (by decide) _ 0 [] rfl hown0 _ _ p.length (strs p) rfl hsrc (strs_one p) (by simp only [maxLen]; omega) (by omega) (by simp) ?_)
        intro v6 w6 hown6 hg6
        have hb6 := own_base hown0 ((Below.refl w5.heap.size w5).alloc (Nat.le_refl _) (.cells #[] 9)) hg6 (by simp)
        have hs6 := hb6.size
        clear hown0 hsrc hg6
        have hnews := cells_one (heap_alloc_new w6 (.cells #[.string ⟨#[120]⟩] 9))
        go_wp2_with (at_builtin; refine wpList_append_own _ rfl _ _ 41 rfl w5.heap.size 9 i9 (.string .empty) 1 16 Try.underlying41 hi9 hz90 hz91 hz92 rfl (by decide) _ _ _ rfl (hown6.alloc _) ⟨w6.heap.size, 0, none⟩ 1 1 [.string ⟨#[120]⟩] rfl rfl hnews (by simp [Value.oneCell']) (by simp only [maxLen]; omega) (by omega) (by simp; omega) ?_)
        intro v7 w7 hown7 hg7 _
        have hb7 := own_base (hown6.alloc _) (hb6.alloc hs6 _) hg7 (by simp; omega)
        clear hown6 hb6 hg7 hnews
        have hown8 : w7.ownsRow w5.heap.size 9 1 v7 (p ++ [(⟨#[120]⟩ : ByteArray)]).length (strs (p ++ [(⟨#[120]⟩ : ByteArray)])) := by
          rw [List.length_append, strs_app]; exact hown7
        obtain ⟨A7, c7, rfl, hq1, hq2, hR7⟩ := Rd.of_own hown8
        have HR7 := Lib.hid hR7; have HB7 := Lib.hid (HB5.out.trans (hb7.mono HB5.out.size))
        have HP7 := Lib.hid (own_up HP5.out hb7)
        have HRs7 := Lib.hid (HRs5.out.up hb7 (Nat.le_refl _) hb7.size)
        have hq3 := (hno.out (p ++ [(⟨#[120]⟩ : ByteArray)]) (by simp))
        have hq4 : ∀ a ∈ p ++ [(⟨#[120]⟩ : ByteArray)], a.size ≤ 3000 := by
          intro a ha
          rw [List.mem_append] at ha
          rcases ha with ha | ha
          · exact hz3.out a ha
          · simp at ha; subst ha; decide
        have HQ3 := Lib.hid hq3; have HQ4 := Lib.hid hq4
        have hq5 : (p ++ [(⟨#[120]⟩ : ByteArray)]).length ≤ 145 := by simp; omega
        clear hown7 hown8 hR7 hb7 HB5 HP5 HRs5 hq3 hq4 hs6
        generalize p ++ [(⟨#[120]⟩ : ByteArray)] = q at *
        go_wp2_with fail
        refine (join_any q A7 c7 sz As cs w7 HR7.out HRs7.out hq1 hq2 HQ4.out (by omega) hzi2.out).mono ?_
        rw [HQ3.out]
        rintro e w8 ⟨A8, n8, c8, rfl, hn8, hc8, hR8, hb8⟩
        have HB8 := Lib.hid (HB7.out.trans (hb8.mono HB7.out.size))
        have HP8 := Lib.hid (own_up HP7.out hb8)
        have HRs8 := Lib.hid (HRs7.out.up hb8 (Nat.le_refl _) hb8.size)
        clear hb8 hR8 HB7 HP7 HRs7 HR7 HQ3 HQ4
        by_cases hpl : p.length = 0
        · have hd0 : ((p.length : Int) == 0) = true := beq_iff_eq.2 (by omega)
          have HPL := Lib.hid hpl; clear hpl
          go_wp2_with fail
          refine (awake11_any _).mono ?_
          rintro e w9 ⟨rfl, hb9⟩
          go_wp2
          go_ret
          exact ⟨rfl, HB8.out.trans (hb9.mono HB8.out.size)⟩
        · have hd0 : ((p.length : Int) == 0) = false := beq_eq_false_iff_ne.2 (by omega)
          obtain ⟨k, hk⟩ : ∃ k, at_ % p.length = k := ⟨_, rfl⟩
          have hkl : k < p.length := by rw [← hk]; exact Nat.mod_lt _ (by omega)
          have hkk : (at_ : Int) % (p.length : Int) = (k : Int) := by rw [← hk]; simp
          have hpos : 0 < p.length := by omega
          clear hpl hk
          go_wp2_with fail
          simp only [hkk]
          obtain ⟨gp, cap, ep, -, hgpl⟩ := own_form HP8.out hpos
          injection ep with ep1 _ ep2
          subst ep1
          have hcl : k + 1 ≤ cp := by omega
          have hcut1 : ∀ W : World, (Instr.slice 41 (.slice (some ⟨gp, 0, none⟩) p.length cp) none (some (.int .i64 (k : Int))) none).run Try.prog W = .ok (.slice (some ⟨gp, 0, none⟩) k cp) W := fun W => run_cut_to W Try.underlying41 hi9 (some ⟨gp, 0, none⟩) p.length cp k .i64 (by omega)
          obtain ⟨ad, had⟩ : ∃ ad, cutA (some ⟨gp, 0, none⟩) cp (k + 1) 1 = some ad := by unfold cutA; split <;> simp
          have hcut2 : ∀ W : World, (Instr.slice 41 (.slice (some ⟨gp, 0, none⟩) p.length cp) (some (.int .i64 ((k : Int) + 1))) none none).run Try.prog W = .ok (.slice (some ad) (p.length - (k + 1)) (cp - (k + 1))) W := fun W => by
            have := run_cut_from W Try.underlying41 hi9 (some ⟨gp, 0, none⟩) p.length cp (k + 1) .i64 (by omega)
            rw [hz91, had] at this
            exact this
          have hR8 : Rd w8 w8.heap.size 1 (some ⟨gp, 0, none⟩) p.length (strs p) := by
            obtain ⟨A9, c9, e9, _, _, h9⟩ := Rd.of_own HP8.out
            injection e9 with e9 _ _
            rw [e9]; exact h9
          have HRp8 := Lib.hid hR8; have HAD := Lib.hid had
          clear hR8 had ep2
          refine wp_region_fx_tail 9 (bk20 w8.heap.size k p) (by kernel_rfl) (by kernel_rfl) (by kernel_rfl) (by kernel_rfl) ?_
          refine wpM_eff rfl rfl (fun w9 hc9 _ => steps_litK rfl hc9.size (by go_simp)) ?_
          rintro v0 ⟨wq, hq⟩
          obtain ⟨g0, rfl, -, -⟩ : ∃ g, v0 = .slice (some ⟨g, 0, none⟩) 0 0 ∧ w8.heap.size ≤ g ∧ wq.heap[g]? = some (.cells #[] 9 (0, 0)) := hq
          clear wq
          repeat (first | (refine wpM_skip rfl ?_) | (refine wpM_all rfl rfl (fun K hK => ?_); go_simp; refine hK _ ?_; clear hK K))
          refine wpM_eff rfl rfl (fun w9 hc9 hd => ?_) ?_
          · obtain ⟨g, e1, hg1, hg2⟩ : ∃ g, Value.slice (some ⟨g0, 0, none⟩) 0 0 = .slice (some ⟨g, 0, none⟩) 0 0 ∧ w8.heap.size ≤ g ∧ w9.heap[g]? = some (.cells #[] 9 (0, 0)) := hd ⟨0, .data⟩ (by simp) rfl
            injection e1 with e1 _ _
            injection e1 with e1
            injection e1 with e1 _ _
            subst e1
            have hRk := (HRp8.out.below hc9 (Nat.le_refl _)).take_ (m := k) (by omega)
            refine steps_append_empty _ _ 41 rfl w8.heap.size 9 i9 (.string .empty) 1 16 Try.underlying41 hi9 hz90 hz91 hz92 rfl (by decide) hg2 hg1 rfl ⟨gp, 0, none⟩ k cp (strs (p.take k)) rfl (by rw [strs_len, List.length_take]; omega) ?_ (strs_one _) (by simp only [maxLen]; omega) (by omega) hc9.size (fun v' w' h => h)
            have e3 : (strs p).take (k * 1) = strs (p.take k) := by simp [strs]
            rw [e3] at hRk
            exact hRk.cells
          rintro v4 -
          have hw1 : IntKind.i64.wrap ((k : Int) + 1) = (k : Int) + 1 := IntWalk.i64_in _ (by omega)
          have hw2 : wrap64 ((k : Int) + 1) = (k : Int) + 1 := IntWalk.wrap64_in _ (by clear hw1; omega)
          repeat (first | (refine wpM_skip rfl ?_) | (refine wpM_all rfl rfl (fun K hK => ?_); go_simp; refine hK _ ?_; clear hK K))
          clear hw1 hw2
          refine wpM_nil fun w10 hc10 hf => ?_
          have hown4 : w10.ownsRow w8.heap.size 9 1 v4 k (strs (p.take k)) := hf 4
          clear hf
          show wpList _ _ _ [_, _] _ _
          have hRd : Rd w8 w8.heap.size 1 (some ad) (p.length - (k + 1)) (strs (p.drop (k + 1))) := by
            have h := HRp8.out.cutFrom (k := k + 1) (cap := cp) (by omega) hp1
            rw [HAD.out] at h
            have e3 : (strs p).drop ((k + 1) * 1) = strs (p.drop (k + 1)) := by simp [strs]
            rwa [e3] at h
          have HRd := Lib.hid hRd
          have hnews := (hRd.below hc10 (Nat.le_refl _)).cells
          have hz10 := hc10.size
          clear hRd
          go_wp2_with (at_builtin; refine wpList_append_own _ rfl _ _ 41 rfl w8.heap.size 9 i9 (.string .empty) 1 16 Try.underlying41 hi9 hz90 hz91 hz92 rfl (by decide) _ _ _ rfl hown4 ad (p.length - (k + 1)) (cp - (k + 1)) (strs (p.drop (k + 1))) rfl (by rw [strs_len, List.length_drop]; omega) hnews (strs_one _) (by simp only [maxLen]; omega) (by omega) hz10 ?_)
          intro v11 w11 hown11 hg11 _
          have hb11 := own_base hown4 hc10 hg11 hz10
          have hownL : w11.ownsRow w8.heap.size 9 1 v11 (p.take k ++ p.drop (k + 1)).length (strs (p.take k ++ p.drop (k + 1))) := by
            have e : (p.take k ++ p.drop (k + 1)).length = k + (p.length - (k + 1)) := by rw [List.length_append, List.length_take, List.length_drop]; omega
            rw [e, strs_app]; exact hown11
          have hqL : (p.take k ++ p.drop (k + 1)).length = p.length - 1 := by rw [List.length_append, List.length_take, List.length_drop]; omega
          have hq3 := hno.out (p.take k ++ p.drop (k + 1)) (by rw [hqL]; omega)
          have hq4 : ∀ a ∈ p.take k ++ p.drop (k + 1), a.size ≤ 3000 := by
            intro a ha
            rw [List.mem_append] at ha
            rcases ha with ha | ha
            · exact hz3.out a (List.mem_of_mem_take ha)
            · exact hz3.out a (List.mem_of_mem_drop ha)
          have hq5L : (p.take k ++ p.drop (k + 1)).length ≤ 145 := by omega
          have HL3 := Lib.hid hq3; have HL4 := Lib.hid hq4
          clear hown11 hown4 hg11 hnews hz10 hqL hq3 hq4
          generalize p.take k ++ p.drop (k + 1) = pl at *
          obtain ⟨AL, cL, rfl, hl1, hl2, hRL⟩ := Rd.of_own hownL
          have HB11 := Lib.hid (HB8.out.trans (hb11.mono HB8.out.size))
          have HRs11 := Lib.hid (HRs8.out.up hb11 (Nat.le_refl _) hb11.size)
          have HRp11 := Lib.hid (HRp8.out.up hb11 (Nat.le_refl _) hb11.size)
          have HRd11 := Lib.hid (HRd.out.up hb11 (Nat.le_refl _) hb11.size)
          have HRL := Lib.hid hRL
          clear hownL hRL hb11 hc10 HB8 HRs8 HRp8 HRd HP8
          go_wp2_with fail
          have hs1 : w11.cell? ⟨gp, k, none⟩ = some (.string p[k]) := by
            have := HRp11.out.cells (ad := ⟨gp, 0, none⟩) k (.string p[k]) (by simp [strs, hkl])
            rwa [add_plain, Nat.zero_add] at this
          have hgp11 : gp < w11.heap.size := World.block_lt_of_cell? w11 ⟨gp, k, none⟩ hs1
          have hzk := hz3.out _ (List.getElem_mem hkl)
          generalize p[k] = s at *
          have HS1 := Lib.hid hs1; clear hs1
          obtain ⟨m, hm⟩ : ∃ m, m = s.size / 2 := ⟨_, rfl⟩
          have hm2 : m ≤ s.size := by omega
          have hdiv1 : (s.size : Int) / 2 = (m : Int) := by omega
          have hdiv2 : (s.size : Int).tdiv 2 = (m : Int) := by rw [Int.tdiv_eq_ediv_of_nonneg (by omega)]; exact hdiv1
          have hi1 : (k : Int) < (p.length : Int) := by omega
          have HM := Lib.hid hm; clear hm
          have HW := Lib.hid (show IntKind.i64.wrap (m : Int) = (m : Int) from IntWalk.i64_in _ (by unfold maxLen at *; omega))
          have HD1 := Lib.hid hdiv1; have HD2 := Lib.hid hdiv2; clear hdiv1 hdiv2
          refine Tail.wp_region_fx_float 28 [29, 30, 31, 32] [28, 33, 34] (bk21 w11.heap.size k p (s.extract 0 m) (s.extract m s.size)) (by kernel_rfl) (by kernel_rfl) (by kernel_rfl) (fun c a d v w h => by cases d <;> exact h) ?_
          refine ⟨_, .slice (some ⟨gp, 0, none⟩) p.length cp, rfl, .inl ⟨rfl, fun W => by go_simp⟩, ?_⟩
          refine ⟨_, .int .i64 (k : Int), rfl, .inl ⟨rfl, fun W => by go_simp⟩, ?_⟩
          refine ⟨_, .int .i64 ((k : Int) + 1), rfl, .inl ⟨rfl, fun W => by go_simp; exact IntWalk.i64_in _ (by omega)⟩, ?_⟩
          refine ⟨_, .slice (some ad) (p.length - (k + 1)) (cp - (k + 1)), rfl, .inl ⟨rfl, fun W => by go_simp⟩, ?_⟩
          unfold Tail.floats
          refine Mono.wpM_norm (fun K hK => ?_); go_simp; refine hK _ ?_; clear hK K
          refine wpM_eff rfl rfl (fun w9 hc9 _ => steps_litK rfl hc9.size (by go_simp)) ?_
          rintro v0 ⟨wq, hq⟩
          obtain ⟨g0, rfl, -, -⟩ : ∃ g, v0 = .slice (some ⟨g, 0, none⟩) 0 0 ∧ w11.heap.size ≤ g ∧ wq.heap[g]? = some (.cells #[] 9 (0, 0)) := hq
          clear wq
          repeat (first | (refine wpM_skip rfl ?_) | (refine wpM_all rfl rfl (fun K hK => ?_); go_simp; refine hK _ ?_; clear hK K))
          refine wpM_eff rfl rfl (fun w9 hc9 hd => ?_) ?_
          · obtain ⟨g, e1, hg1, hg2⟩ : ∃ g, Value.slice (some ⟨g0, 0, none⟩) 0 0 = .slice (some ⟨g, 0, none⟩) 0 0 ∧ w11.heap.size ≤ g ∧ w9.heap[g]? = some (.cells #[] 9 (0, 0)) := hd ⟨0, .data⟩ (by simp) rfl
            injection e1 with e1 _ _
            injection e1 with e1
            injection e1 with e1 _ _
            subst e1
            have hRk := (HRp11.out.below hc9 (Nat.le_refl _)).take_ (m := k) (by omega)
            refine steps_append_empty _ _ 41 rfl w11.heap.size 9 i9 (.string .empty) 1 16 Try.underlying41 hi9 hz90 hz91 hz92 rfl (by decide) hg2 hg1 rfl ⟨gp, 0, none⟩ k cp (strs (p.take k)) rfl (by rw [strs_len, List.length_take]; omega) ?_ (strs_one _) (by simp only [maxLen]; omega) (by omega) hc9.size (fun v' w' h => h)
            have e3 : (strs p).take (k * 1) = strs (p.take k) := by simp [strs]
            rw [e3] at hRk
            exact hRk.cells
          rintro v4 -
          repeat (first | (refine wpM_skip rfl ?_) | (refine wpM_all rfl rfl (fun K hK => ?_); go_simp; refine hK _ ?_; clear hK K))
          refine wpM_look (.string s) rfl rfl (fun w6 hc6 _ => ?_) ?_
          · have c0 : w6.cell? ⟨gp, k, none⟩ = some (.string s) := by rw [hc6.cell hgp11]; exact HS1.out
            go_simp
          repeat (first | (refine wpM_skip rfl ?_) | (refine wpM_all rfl rfl (fun K hK => ?_); go_simp; refine hK _ ?_; clear hK K))
          refine wpM_look (.string s) rfl rfl (fun w6 hc6 _ => ?_) ?_
          · have c0 : w6.cell? ⟨gp, k, none⟩ = some (.string s) := by rw [hc6.cell hgp11]; exact HS1.out
            go_simp
          have hdiv1 := HD1.out
          have hdiv2 := HD2.out
          have hwm := HW.out
          repeat (first | (refine wpM_skip rfl ?_) | (refine wpM_all rfl rfl (fun K hK => ?_); go_simp; refine hK _ ?_; clear hK K))
          clear hdiv1 hdiv2 hwm
          refine wpM_look (.string s) rfl rfl (fun w6 hc6 _ => ?_) ?_
          · have c0 : w6.cell? ⟨gp, k, none⟩ = some (.string s) := by rw [hc6.cell hgp11]; exact HS1.out
            go_simp
          repeat (first | (refine wpM_skip rfl ?_) | (refine wpM_all rfl rfl (fun K hK => ?_); go_simp; refine hK _ ?_; clear hK K))
          refine wpM_look (.string s) rfl rfl (fun w6 hc6 _ => ?_) ?_
          · have c0 : w6.cell? ⟨gp, k, none⟩ = some (.string s) := by rw [hc6.cell hgp11]; exact HS1.out
            go_simp
          have hdiv1 := HD1.out
          have hdiv2 := HD2.out
          have hwm := HW.out
          repeat (first | (refine wpM_skip rfl ?_) | (refine wpM_all rfl rfl (fun K hK => ?_); go_simp; refine hK _ ?_; clear hK K))
          clear hdiv1 hdiv2 hwm
          refine wpM_eff rfl rfl (fun w9 hc9 _ => steps_litK rfl hc9.size (by go_simp)) ?_
          rintro v27 -
          refine wpM_nil fun w12 hc12 hf => ?_
          have hown4 : w12.ownsRow w11.heap.size 9 1 v4 k (strs (p.take k)) := hf 4
          obtain ⟨g27, rfl, hg27, hh27⟩ : ∃ g, v27 = .slice (some ⟨g, 0, none⟩) 2 2 ∧ w11.heap.size ≤ g ∧ w12.heap[g]? = some (.cells #[.string (s.extract 0 m), .string (s.extract m s.size)] 9 (0, 0)) := hf 27
          clear hf
          show wpList _ _ _ [_, _, _] _ _
          have hnews : ∀ j u, ([.string (s.extract 0 m), .string (s.extract m s.size)] : List Value)[j]? = some u → w12.cell? ((⟨g27, 0, none⟩ : Addr).add j) = some u := by
            intro j u hu
            rw [add_plain, Nat.zero_add, cell_of_row _ _ j _ 9 (0, 0) hh27]
            simpa using hu
          have hz12 := hc12.size
          have hx1 : (s.extract 0 m).size ≤ 3000 := by rw [ByteArray.size_extract]; omega
          have hy1 : (s.extract m s.size).size ≤ 3000 := by rw [ByteArray.size_extract]; omega
          clear hh27
          generalize s.extract 0 m = sa at *
          generalize s.extract m s.size = sb at *
          refine wpList_append_own _ rfl _ _ 41 rfl w11.heap.size 9 i9 (.string .empty) 1 16 Try.underlying41 hi9 hz90 hz91 hz92 rfl (by decide) _ _ _ rfl hown4 ⟨g27, 0, none⟩ 2 2 [.string sa, .string sb] rfl rfl hnews (by simp [Value.oneCell']) (by simp only [maxLen]; omega) (by omega) hz12 ?_
          intro v13 w13 hown13 hg13 _
          have hb13 := own_base hown4 hc12 hg13 hz12
          have hnews2 := (HRd11.out.below hb13 (Nat.le_refl _)).cells
          have hz13 := hb13.size
          clear hown4 hg13 hnews hz12 hc12
          refine wpList_append_own _ rfl _ _ 41 rfl w11.heap.size 9 i9 (.string .empty) 1 16 Try.underlying41 hi9 hz90 hz91 hz92 rfl (by decide) _ _ _ rfl hown13 ad (p.length - (k + 1)) (cp - (k + 1)) (strs (p.drop (k + 1))) rfl (by rw [strs_len, List.length_drop]; omega) hnews2 (strs_one _) (by simp only [maxLen]; omega) (by omega) hz13 ?_
          intro v14 w14 hown14 hg14 _
          have hb14 := own_base hown13 hb13 hg14 hz13
          have hqP : (p.take k ++ [sa, sb] ++ p.drop (k + 1)).length = p.length + 1 := by simp; omega
          have hownP : w14.ownsRow w11.heap.size 9 1 v14 (p.take k ++ [sa, sb] ++ p.drop (k + 1)).length (strs (p.take k ++ [sa, sb] ++ p.drop (k + 1))) := by
            have e : (p.take k ++ [sa, sb] ++ p.drop (k + 1)).length = k + 2 + (p.length - (k + 1)) := by rw [hqP]; omega
            rw [e, strs_app, strs_app]; exact hown14
          have hq3 := hno.out (p.take k ++ [sa, sb] ++ p.drop (k + 1)) (by rw [hqP]; omega)
          have hq4 : ∀ a ∈ p.take k ++ [sa, sb] ++ p.drop (k + 1), a.size ≤ 3000 := by
            intro a ha
            rw [List.mem_append, List.mem_append] at ha
            rcases ha with (ha | ha) | ha
            · exact hz3.out a (List.mem_of_mem_take ha)
            · simp at ha; rcases ha with rfl | rfl
              · exact hx1
              · exact hy1
            · exact hz3.out a (List.mem_of_mem_drop ha)
          have hq5P : (p.take k ++ [sa, sb] ++ p.drop (k + 1)).length ≤ 145 := by omega
          have HP3 := Lib.hid hq3; have HP4 := Lib.hid hq4
          clear hown13 hown14 hg14 hnews2 hz13 hqP hq3 hq4 hb13
          generalize p.take k ++ [sa, sb] ++ p.drop (k + 1) = pd at *
          obtain ⟨AP, cP, rfl, hd1, hd2, hRP⟩ := Rd.of_own hownP
          have HB14 := Lib.hid (HB11.out.trans (hb14.mono HB11.out.size))
          have HRs14 := Lib.hid (HRs11.out.up hb14 (Nat.le_refl _) hb14.size)
          have HRL14 := Lib.hid (HRL.out.up hb14 (Nat.le_refl _) hb14.size)
          have HRP := Lib.hid hRP
          clear hownP hRP hb14 HB11 HRs11 HRL HRp11 HRd11
          go_wp2_with fail
          refine (join_any pl AL cL sz As cs w14 HRL14.out HRs14.out hl1 hl2 HL4.out (by omega) hzi2.out).mono ?_
          rw [HL3.out]
          rintro e w15 ⟨A15, n15, c15, rfl, hn15, hc15, hR15, hb15⟩
          have HB15 := Lib.hid (HB14.out.trans (hb15.mono HB14.out.size))
          have HRs15 := Lib.hid (HRs14.out.up hb15 (Nat.le_refl _) hb15.size)
          have HRP15 := Lib.hid (HRP.out.up hb15 (Nat.le_refl _) hb15.size)
          clear hR15 hb15 HB14 HRs14 HRL14 HRP HL3 HL4
          go_wp2_with fail
          refine (join_any pd AP cP sz As cs w15 HRP15.out HRs15.out hd1 hd2 HP4.out (by omega) hzi2.out).mono ?_
          rw [HP3.out]
          rintro e w16 ⟨A16, n16, c16, rfl, hn16, hc16, hR16, hb16⟩
          have HB16 := Lib.hid (HB15.out.trans (hb16.mono HB15.out.size))
          clear hR16 hb16 HB15 HRs15 HRP15 HP3 HP4
          go_wp2_with fail
          refine (awake11_any _).mono ?_
          rintro e w17 ⟨rfl, hb17⟩
          go_wp2
          go_ret
          exact ⟨rfl, HB16.out.trans (hb17.mono HB16.out.size)⟩
  · have HB1 := Lib.hid hb1; clear hb1 hg
    go_wp2
    go_ret
    exact ⟨rfl, HB1.out⟩
end Go.Proofs.Ytolhjdhbcggidaa
