/-
  BitmapApart as a walk.
-/
import Derived.Test.YtolhjdhbcggidaaBm9
namespace Go.Proofs.Ytolhjdhbcggidaa
open Go.RowKit

theorem count_set (l : List Bool) (k : Nat) (h : k < l.length) : ((l.set k (!l[k])).count true : Int) - (l.count true : Int) = if l[k] = true then -1 else 1 := by
  induction l generalizing k with
  | nil => simp at h
  | cons b r ih =>
    cases k with
    | zero => cases b <;> simp <;> omega
    | succ k =>
      have := ih k (by simpa using h)
      simp only [List.set_cons_succ, List.getElem_cons_succ, List.count_cons] at this ⊢
      omega
theorem pkL_inj (l m : List Bool) (hl : l.length ≤ 16) (hm : m.length = l.length) (h : pkL l = pkL m) : l = m := by
  have h1 := back_L l hl
  have h2 := back_L m (by omega)
  rw [hm, ← h, h1] at h2
  exact h2
theorem bls_set (l : List Bool) (k : Nat) (x : Bool) : (bls l).set k (.bool x) = bls (l.set k x) := by simp [bls, List.map_set]

set_option maxHeartbeats 400000 in
theorem bitmapApart_walk (A : Option Addr) (c : Nat) (l : List Bool) (a : Nat) (w : World) (hl : Rd w w.heap.size 1 A l.length (bls l)) (ha : a ≤ 255) :
    Calls Try.prog 6 #[.slice A l.length c, .int .u8 (a : Int)] w (RetB true w) := by
  by_cases h16 : l.length ≤ 16
  · by_cases h0 : l.length = 0
    · have h1 : ((l.length : Int) == 0) = true := by simp [h0]
      clear h0
      go_enter Try.func6, Try.ntmps6
      go_wp2
      go_ret
      exact RetB.mk' rfl (Below.refl _ _)
    · have h1 : ((l.length : Int) == 0) = false := by simp; exact fun e => h0 (by simp [e])
      have hpos : 0 < l.length := by omega
      clear h0
      obtain ⟨b, off, rfl, hb, hc⟩ := hl.2 hpos
      obtain ⟨i0, hi, hz0, hz1, hz2⟩ := info_parts Try.info4
      have hc' : ∀ j u, (bls l)[j]? = some u → (w.alloc (.cells #[] 4)).cell? ((⟨b, off, none⟩ : Addr).add j) = some u := by
        intro j u hu
        have e : (⟨b, off, none⟩ : Addr).add j = ⟨b, off + j, none⟩ := by unfold Addr.add; split <;> simp_all
        rw [e, World.cell?_alloc_lt _ _ _ hb]
        exact hc j u hu
      have hown0 : (w.alloc (.cells #[] 4)).ownsRow w.heap.size 4 1 (.slice (some ⟨w.heap.size, 0, none⟩) 0 0) 0 [] := World.ownsRow_made w #[] 0 (Nat.le_refl _) (by simp) (by simp)
      have Hc := Lib.hid hc'; clear hc hc'
      go_enter Try.func6, Try.ntmps6
      go_wp2_with (at_builtin; refine wpList_append_own _ rfl _ _ 23 rfl w.heap.size 4 i0 (.bool false) 1 1 Try.underlying23 hi hz0 hz1 hz2 rfl (by decide) _ _ _ rfl hown0 ⟨b, off, none⟩ l.length c (bls l) rfl (by simp [bls]) Hc.out (bls_one l) (by simp only [maxLen]; omega) (by omega) (by simp) ?_)
      intro v' w1 hown1 hg1 _
      have hb1 := own_base hown0 ((Below.refl w.heap.size w).alloc (Nat.le_refl _) (.cells #[] 4)) hg1 (by simp)
      clear hown0 hg1 Hc
      obtain ⟨g, cap, rfl, hgb, hgl⟩ := own_form hown1 hpos
      have hk : a % l.length < l.length := Nat.mod_lt _ hpos
      obtain ⟨k, hkk⟩ : ∃ k, a % l.length = k := ⟨_, rfl⟩
      rw [hkk] at hk
      have hkk' : (a : Int) % (l.length : Int) = (k : Int) := by rw [← hkk]; simp
      have hcell := hown1.cellAt k (by omega)
      have hbk : (bls l)[k]? = some (.bool l[k]) := by simp [bls, hk]
      rw [hbk] at hcell
      have hfro := hown1.frozenAt k
      obtain ⟨x, hx⟩ : ∃ x, l[k] = x := ⟨_, rfl⟩
      rw [hx] at hcell
      have Hx := Lib.hid hx; have Hkk := Lib.hid hkk; clear hx hkk hbk
      go_wp2_with fail
      have hown2 := (hown1.stored k (.bool (!x))).1
      rw [bls_set] at hown2
      have hb2 := hb1.setCell (p := ⟨g, k, none⟩) hgb (.bool (!x))
      obtain ⟨w2, hw2⟩ : ∃ w2, w2 = w1.setCell ⟨g, k, none⟩ (.bool (!x)) := ⟨_, rfl⟩
      rw [← hw2] at hown2 hb2 ⊢
      clear hw2 hown1 hcell hfro hb1
      have hml : (l.set k (!x)).length = l.length := by simp
      have hmk : (l.set k (!x))[k]? = some (!x) := by simp [hk]
      have hcnt := count_set l k hk
      have hne : pkL l ≠ pkL (l.set k (!x)) := by
        intro h
        have := pkL_inj l _ h16 hml h
        rw [← this, List.getElem?_eq_getElem hk, Hx.out] at hmk
        cases x <;> simp at hmk
      rw [Hx.out] at hcnt
      have e1 : pkE l = 0 := by simp [pkE, h16]
      have e2 : pkE (l.set k (!x)) = 0 := by simp [pkE, h16]
      have e3 : (pkL l).length = (pkL (l.set k (!x))).length := by
        have h1 := back_len l h16
        have h2 := back_len (l.set k (!x)) (by omega)
        rw [hml] at h2; omega
      generalize hm : l.set k (!x) = m at *
      have Hm := Lib.hid hm; have Hml := Lib.hid hml; have E3 := Lib.hid e3; have Hcnt := Lib.hid hcnt; have Hmk := Lib.hid hmk; clear hm hml e3 hcnt hmk
      have hm16 : m.length ≤ 16 := by have := Hml.out; omega
      obtain ⟨A2, c2, hv2, hc2, _, hR2⟩ := Rd.of_own hown2
      rw [← Hml.out] at hR2
      have hA2 : A2 = some ⟨g, 0, none⟩ := by injection hv2 with h _ _; exact h.symm
      subst hA2
      refine (pack_any (some ⟨b, off, none⟩) c l _ (hl.up hb2 (Nat.le_refl _) hb2.size) (by omega)).mono ?_
      rintro e w3 ⟨A3, n3, c3, rfl, h3, h3', hR3, hB3⟩
      obtain rfl : n3 = (pkL l).length := by simpa [byt] using hR3.len1.symm
      rw [e1]
      have hb3 := step_below hb2 hB3
      go_wp2_with fail
      have hp := pack_any (some ⟨g, 0, none⟩) cap m w3 (hR2.up hB3 (Nat.le_refl _) hB3.size) (by omega)
      rw [Hml.out] at hp
      refine hp.mono ?_
      clear hp
      rintro e w4 ⟨A4, n4, c4, rfl, h4, h4', hR4, hB4⟩
      obtain rfl : n4 = (pkL m).length := by simpa [byt] using hR4.len1.symm
      rw [e2]
      have hb4 := step_below hb3 hB4
      have hRm := (hR2.up hB3 (Nat.le_refl _) hB3.size).up hB4 (Nat.le_refl _) hB4.size
      have hRl := hl.up hb4 (Nat.le_refl _) hb4.size
      have hRx := hR3.up hB4 (Nat.le_refl _) hB4.size
      go_wp2_with fail
      have hp := count_any (some ⟨g, 0, none⟩) cap m w4 hRm (by omega)
      rw [Hml.out] at hp
      refine hp.mono ?_
      clear hp
      rintro e w5 ⟨rfl, rfl⟩
      go_wp2_with fail
      refine (count_any (some ⟨b, off, none⟩) c l _ hRl (by omega)).mono ?_
      rintro e w5 ⟨rfl, rfl⟩
      have hcv1 := run_str_of_bytes (P := Try.prog) (src := 22) (dst := 9) (c := c3) Try.underlying22 Try.underlying5 Try.underlying9 hRx
      have hcv2 := run_str_of_bytes (P := Try.prog) (src := 22) (dst := 9) (c := c4) Try.underlying22 Try.underlying5 Try.underlying9 hR4
      rw [← E3.out] at hR4 hcv2 h4 ⊢
      have hcm : w4.cell? ⟨g, k, none⟩ = some (.bool (!x)) := by
        obtain ⟨b', off', he, _, hc⟩ := hRm.2 (by have := Hml.out; omega)
        injection he with he
        injection he with he1 he2
        subst he1; subst he2
        have := hc k (.bool (!x)) (by simp [bls, Hmk.out])
        rwa [Nat.zero_add] at this
      have hcl : w4.cell? ⟨b, off + k, none⟩ = some (.bool x) := by
        obtain ⟨b', off', he, _, hc⟩ := hRl.2 hpos
        injection he with he
        injection he with he1 he2
        subst he1; subst he2
        exact hc k (.bool x) (by simp [bls, hk, Hx.out])
      have hne' : ((pkL l) == (pkL m)) = false := by simpa using hne
      clear hne
      cases x
      all_goals
        have hd := Hcnt.out
        simp only [Bool.false_eq_true, if_false, if_true, Bool.not_false, Bool.not_true] at hd hcm hcl
        go_wp2_with fail
        refine (awake_any _).mono ?_
        rintro e w7 ⟨rfl, hB7⟩
        go_wp2
        go_ret
        exact RetB.mk' rfl (step_below hb4 hB7)
  · go_enter Try.func6, Try.ntmps6
    go_wp2
    go_ret
    exact RetB.mk' rfl (Below.refl _ _)
end Go.Proofs.Ytolhjdhbcggidaa
