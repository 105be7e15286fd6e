import Derived.Test.YtaaijgalminafaaTv
/-
  Layer 24: does a kind pass, by the reference (f39).
-/
namespace Go.Proofs.Ytaaijgalminafaa
open Go.RowKit
set_option maxRecDepth 100000 in
set_option maxHeartbeats 6400000 in
/-- Does a kind pass? The reference's. -/
theorem kindR_any (f : Fl) (A : Option Addr) (c : Nat) (kd : Int) (w : World) (hk0 : 0 ≤ f.kinds) (hk1 : f.kinds < 256) (h0 : 0 ≤ kd) (h1 : kd < 256) :
    Calls Try.prog 39 #[f.v A c, .int .u8 kd] w (RetB (f.kind kd) w) := by
  obtain ⟨al, xs, kx, em⟩ := f
  simp only at hk0 hk1 ⊢
  obtain ⟨R, hR⟩ : ∃ R, Fl.kind ⟨al, xs, kx, em⟩ kd = R := ⟨_, rfl⟩
  have HR := Lib.hid hR
  rw [hR]
  clear hR
  show Calls Try.prog 39 #[.agg #[.bool al, .slice A xs.length c, .int .u8 kx, .bool em], .int .u8 kd] w (RetB R w)
  go_enter Try.func39, Try.ntmps39
  by_cases h4 : kd = 4
  · subst h4
    have hv := HR.out
    go_wp2
    go_ret
    refine RetB.mk' ?_ ((Below.refl _ w).alloc (Nat.le_refl _) _)
    rw [← hv]
    simp [Fl.kind]; rfl
  by_cases h5 : kd = 5
  · subst h5
    have hv := HR.out
    clear h4
    go_wp2
    go_ret
    refine RetB.mk' ?_ ((Below.refl _ w).alloc (Nat.le_refl _) _)
    rw [← hv]
    simp [Fl.kind]; rfl
  by_cases h6 : kd = 6
  · subst h6
    have hv := HR.out
    clear h4 h5
    go_wp2
    go_ret
    refine RetB.mk' ?_ ((Below.refl _ w).alloc (Nat.le_refl _) _)
    rw [← hv]
    simp [Fl.kind]; rfl
  by_cases h7 : kd = 7
  · subst h7
    have hv := HR.out
    clear h4 h5 h6
    go_wp2
    go_ret
    refine RetB.mk' ?_ ((Below.refl _ w).alloc (Nat.le_refl _) _)
    rw [← hv]
    simp [Fl.kind]; rfl
  · have hv := HR.out
    go_wp2
    go_ret
    refine RetB.mk' ?_ ((Below.refl _ w).alloc (Nat.le_refl _) _)
    rw [← hv]
    have : ¬ (4 ≤ kd ∧ kd ≤ 7) := by omega
    simp [Fl.kind, this]
end Go.Proofs.Ytaaijgalminafaa
