/-
  Layer 24: Oid (f9), the reference's Oid (f16).
-/
import Derived.Test.YtaaijgalminafaaFi1
namespace Go.Proofs.Ytaaijgalminafaa
open Go.RowKit Mono Go.Shelf Go.Lib

theorem any_contains (l : List Int) (o : Int) : (l.any fun y => decide (o = y)) = decide (o ∈ l) := by
  induction l with
  | nil => rfl
  | cons a l ih => rw [List.any_cons, ih, Bool.eq_iff_iff]; simp
theorem contains_any (A : Option Addr) (c : Nat) (xs : List Int) (o : Int) (w : World) (hR : Rd w w.heap.size 1 A xs.length (u32s xs)) (hl : xs.length ≤ 1000000) :
    Calls Try.prog 29 #[.slice A xs.length c, .int .u32 o] w fun e w' => e = .returned (.bool (decide (o ∈ xs))) ∧ w' = w := by
  rcases Nat.eq_zero_or_pos xs.length with h0 | h0
  · have hn : xs = [] := List.eq_nil_of_length_eq_zero h0
    subst hn
    exact Try.slices_Contains_empty (α := Int) A c (.int .u32 o) w
  · obtain ⟨b, off, rfl, hb, hc⟩ := hR.at_ h0
    refine (Try.slices_Contains (α := Int) (.int .u32) (fun x y => decide (x = y)) (EqlAt.intD _ _ _) b off xs.length c xs o w (Nat.le_refl _) (by omega) (fun j hj => ?_)).mono ?_
    · rw [hc j hj]; simp [hj]
    · rintro e w' ⟨rfl, rfl⟩
      rw [List.take_length, any_contains]
      exact ⟨rfl, rfl⟩
set_option maxRecDepth 100000 in
set_option maxHeartbeats 3200000 in
/-- Oid: does an oid pass? -/
theorem oid_any (f : Fl) (A : Option Addr) (c : Nat) (o : Int) (w : World) (hF : FlAt w w.heap.size f A c) (hl : f.oids.length ≤ 1000000) : Calls Try.prog 9 #[f.v A c, .int .u32 o] w (RetB (f.oid o) w) := by
  obtain ⟨hR, hlc, hcm⟩ := hF
  obtain ⟨al, xs, kd, em⟩ := f
  simp only at hR hlc hl
  unfold Fl.v Fl.cells Fl.oid
  go_enter Try.func9, Try.ntmps9
  have hR1 := hR.alloc (Nat.le_refl _) (.cells #[.bool al, .slice A xs.length c, .int .u8 kd, .bool em] 28)
  have HR := Lib.hid hR1; clear hR hR1
  cases al
  · go_wp2_with fail
    refine (contains_any A c xs o _ (HR.out.more (by simp)) hl).mono ?_
    rintro e w2 ⟨rfl, rfl⟩
    go_wp2
    go_ret
    exact ⟨rfl, (Below.refl _ w).alloc (Nat.le_refl _) _⟩
  · go_wp2
    go_ret
    exact ⟨rfl, (Below.refl _ w).alloc (Nat.le_refl _) _⟩
set_option maxRecDepth 100000 in
set_option maxHeartbeats 3200000 in
/-- The reference's Oid. -/
theorem oidR_any (f : Fl) (A : Option Addr) (c : Nat) (o : Int) (w : World) (hF : FlAt w w.heap.size f A c) (hl : f.oids.length ≤ 1000000) : Calls Try.prog 16 #[f.v A c, .int .u32 o] w (RetB (f.oid o) w) := by
  obtain ⟨hR, hlc, hcm⟩ := hF
  obtain ⟨al, xs, kd, em⟩ := f
  simp only at hR hlc hl
  unfold Fl.v Fl.cells Fl.oid
  go_enter Try.func16, Try.ntmps16
  have hb0 : Below w.heap.size w (w.alloc (.cells #[.bool al, .slice A xs.length c, .int .u8 kd, .bool em] 24)) := (Below.refl _ w).alloc (Nat.le_refl _) _
  have HB := Lib.hid hb0; have HR := Lib.hid hR
  clear hb0 hR
  go_wp2
  go_loopw [5] (fun i wr => ∃ j : Nat, j ≤ xs.length ∧ i = .int .i64 (j : Int) ∧ Hid (∀ k (hk : k < xs.length), k < j → xs[k] ≠ o) ∧ wr = w.alloc (.cells #[.bool al, .slice A xs.length c, .int .u8 kd, .bool em] 24)) (fun i _ => xs.length - (intOf i).toNat)
  case atStart => exact ⟨0, by omega, rfl, fun _ _ h => absurd h (by omega), rfl⟩
  case round =>
    obtain ⟨j, hj, rfl, hn, rfl⟩ := hrel
    by_cases hlt : j < xs.length
    · obtain ⟨b, off, rfl, hb, hc⟩ := HR.out.at_ hlt
      have c0 := HB.out.cell (p := ⟨b, off + j, none⟩) hb
      rw [hc j hlt] at c0
      clear hc
      have hd : (j : Int) < (xs.length : Int) := by omega
      have hmem : Hid (xs[j] ∈ xs) := List.getElem_mem hlt
      obtain ⟨x, hx⟩ : ∃ x, xs[j] = x := ⟨_, rfl⟩
      have HX := Lib.hid hx
      rw [hx] at c0 hmem
      clear hx
      by_cases he : x = o
      · have he2 : (x == o) = true := beq_iff_eq.2 he
        have hin : Hid ((al || decide (o ∈ xs)) = true) := by
          show _ = _
          rw [← he, decide_eq_true hmem.out, Bool.or_true]
        have HE := Lib.hid he; clear he
        go_wp2
        go_ret
        exact ⟨by rw [hin.out]; rfl, HB.out⟩
      · have he2 : (x == o) = false := beq_eq_false_iff_ne.2 he
        have HE := Lib.hid he; clear he
        go_wp2
        go_roundw
        case rel => exact ⟨j + 1, by omega, by go_num, fun k hk hkj => by
          rcases Nat.lt_or_ge k j with h | h
          · exact hn.out k hk h
          · have : k = j := by omega
            subst this
            rw [HX.out]; exact HE.out, trivial⟩
        case measure => simp [intOf]; omega
    · have hd : ¬ ((j : Int) < (xs.length : Int)) := by omega
      have hno : Hid (decide (o ∈ xs) = false) := by
        show _ = _
        rw [decide_eq_false_iff_not]
        intro hm
        obtain ⟨k, hk, hk2⟩ := List.mem_iff_getElem.1 hm
        exact hn.out k hk (by omega) hk2
      go_wp2
      go_ret
      exact ⟨by rw [hno.out, Bool.or_false]; rfl, HB.out⟩
end Go.Proofs.Ytaaijgalminafaa
