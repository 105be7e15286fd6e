/-
  Layer 8: column by its contract.
-/
import Derived.Test.YtcblmcpmdpnlbaaRe4
namespace Go.Proofs.Ytcblmcpmdpnlbaa
open Go.RowKit

/-- What is wrong with a column behind some others. -/
def colE (c : Col) (ahead : List Col) : Int := if namedB c.name = false then 3 else if hasName c.name ahead = true then 9 else if c.type < 1 ∨ 6 < c.type then 11 else 0

set_option maxRecDepth 100000 in
/-- rel.column. -/
theorem column_any (o : Col) (A : Option Addr) (c : Nat) (l : List Col) (w : World) (hR : Rd w w.heap.size 3 A l.length (cols l)) (hl : l.length ≤ maxLen) (hs : o.name.size ≤ maxLen) :
    Calls Try.prog 62 #[o.v, .slice A l.length c] w (RetI .i64 (colE o l) w) := by
  have e0 : (w.alloc (.cells #[.string o.name, .int .u8 (o.type : Int), .bool o.key] 82)).cell? ⟨w.heap.size, 0, none⟩ = some (.string o.name) := cell_new _ _ _ _
  have e1 : (w.alloc (.cells #[.string o.name, .int .u8 (o.type : Int), .bool o.key] 82)).cell? ⟨w.heap.size, 1, none⟩ = some (.int .u8 (o.type : Int)) := cell_new _ _ _ _
  have hB : Below w.heap.size w (w.alloc (.cells #[.string o.name, .int .u8 (o.type : Int), .bool o.key] 82)) := (Below.refl _ _).alloc (Nat.le_refl _) _
  have hsz : (w.alloc (.cells #[.string o.name, .int .u8 (o.type : Int), .bool o.key] 82)).heap.size = w.heap.size + 1 := by simp
  have hR2 := hR.up hB (Nat.le_refl _) hB.size
  go_enter Try.func62, Try.ntmps62
  unfold Col.v
  go_wp2_with fail
  generalize w.alloc (.cells #[.string o.name, .int .u8 (o.type : Int), .bool o.key] 82) = w2 at *
  refine (named_any o.name _ hs).mono ?_
  rintro e w3 ⟨rfl, rfl⟩
  by_cases hn : namedB o.name = true
  · rw [hn]
    go_wp2_with fail
    refine (hasName_any A c l w.heap.size o.name _ hR2 hl e0).mono ?_
    rintro e w3 ⟨rfl, hb3⟩
    have hB3 := hB.trans (hb3.mono (by omega))
    have e1' : w3.cell? ⟨w.heap.size, 1, none⟩ = some (.int .u8 (o.type : Int)) := by rw [hb3.cell (show w.heap.size < w2.heap.size by omega)]; exact e1
    by_cases hh : hasName o.name l = true
    · have hx : colE o l = 9 := by unfold colE; rw [if_neg (by rw [hn]; decide), if_pos hh]
      rw [hh]
      have Hx := Lib.hid hx; clear hx hh hn
      go_wp2
      go_ret
      exact RetI.mk' Hx.out.symm hB3
    · have hh' := hh
      rw [Bool.not_eq_true] at hh
      rw [hh]
      by_cases ht : o.type < 1
      · have hx : colE o l = 11 := by unfold colE; rw [if_neg (by rw [hn]; decide), if_neg hh', if_pos (.inl ht)]
        have d1 : decide ((o.type : Int) < 1) = true := by simp; omega
        have Hx := Lib.hid hx; clear hx hh' hh hn ht
        go_wp2
        go_ret
        exact RetI.mk' Hx.out.symm hB3
      · have d1 : decide ((o.type : Int) < 1) = false := by simp; omega
        by_cases ht6 : 6 < o.type
        · have hx : colE o l = 11 := by unfold colE; rw [if_neg (by rw [hn]; decide), if_neg hh', if_pos (.inr ht6)]
          have d2 : decide ((6 : Int) < (o.type : Int)) = true := by simp; omega
          have Hx := Lib.hid hx; clear hx hh' hh hn ht ht6
          go_wp2
          go_ret
          exact RetI.mk' Hx.out.symm hB3
        · have hx : colE o l = 0 := by unfold colE; rw [if_neg (by rw [hn]; decide), if_neg hh', if_neg (by omega)]
          have d2 : decide ((6 : Int) < (o.type : Int)) = false := by simp; omega
          have Hx := Lib.hid hx; clear hx hh' hh hn ht ht6
          go_wp2
          go_ret
          exact RetI.mk' Hx.out.symm hB3
  · rw [Bool.not_eq_true] at hn
    have hx : colE o l = 3 := by unfold colE; rw [if_pos hn]
    rw [hn]
    have Hx := Lib.hid hx; clear hx hn
    go_wp2
    go_ret
    exact RetI.mk' Hx.out.symm hB
end Go.Proofs.Ytcblmcpmdpnlbaa
