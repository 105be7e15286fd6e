import Derived.ChangeAlike
import Derived.WalkSmall
import Derived.Sort.LotD5
import Derived.Test.YtaaijgalminafaaSo3
import Derived.Test.YtaaijgalminafaaSl
/-
  slices.Sort at uint32: breakPatterns (which places are exchanged is left open).
-/
namespace Go.Proofs.Ytaaijgalminafaa
open Go.RowKit Go.Sort

def Ub (w : World) (g X : Nat) : Prop := w.heap[g]? = some (.cells #[.int .u64 (X : Int)] 137 (0, 0))
theorem Ub.cell {w : World} {g k : Nat} (h : Ub w g k) : w.cell? ⟨g, 0, none⟩ = some (.int .u64 (k : Int)) := by rw [cell_of_row _ _ 0 _ _ (0, 0) h]; rfl
theorem Ub.frozen {w : World} {g k : Nat} (h : Ub w g k) : w.frozen? ⟨g, 0, none⟩ = false := by unfold Ub at h; simp [World.frozen?, h]
theorem Ub.set {w : World} {g k : Nat} (h : Ub w g k) (j : Nat) : Ub (w.setCell ⟨g, 0, none⟩ (.int .u64 (j : Int))) g j := by unfold Ub at *; simp [World.setCell, Array.getElem?_modify, h]
theorem Ub.kept {w w' : World} {g k : Nat} (h : Ub w g k) (hk : w'.heap[g]? = w.heap[g]?) : Ub w' g k := hk.trans h
theorem mod_bd (l : Nat) (h : 0 < l) : 1 ≤ 1 <<< bitsLen l ∧ 1 <<< bitsLen l ≤ 2 * l := by
  unfold bitsLen
  rw [if_neg (by omega), Nat.shiftLeft_eq, Nat.one_mul, Nat.pow_succ]
  have h1 := Nat.log2_self_le (show l ≠ 0 by omega)
  have h2 := Nat.two_pow_pos l.log2
  omega
/-- What a call leaves: within the part all is permuted. -/
def Pm (w : World) (blk cap a b : Nat) (d : Array Int) (e : Ending) (w' : World) : Prop :=
  e = .returned (.tuple #[]) ∧ ∃ d', PermIn a b d d' ∧ St w blk cap d' w'

set_option maxHeartbeats 3200000 in
set_option maxRecDepth 100000 in
theorem breakPatterns_any (blk cap n : Nat) (d : Array Int) (a b : Nat) (w : World) (hL : Ls w blk cap d) (hn : d.size = n) (hab : a + 12 < b) (hb : b ≤ n) (hsz : n ≤ 1000000) :
    Calls Try.prog 55 #[.slice (some ⟨blk, 0, none⟩) n cap, .int .i64 (a : Int), .int .i64 (b : Int)] w (Pm w blk cap a b d) := by
  have HN := Lib.hid hn; clear hn
  obtain ⟨l, hl⟩ : ∃ l, l = b - a := ⟨_, rfl⟩
  obtain ⟨q, hq⟩ : ∃ q, q = l / 4 * 2 := ⟨_, rfl⟩
  obtain ⟨lo, hlo⟩ : ∃ x, x = a + q - 1 := ⟨_, rfl⟩
  have el : (b : Int) - (a : Int) = (l : Int) := by omega
  have hl12 : 12 < l := by omega
  have hln : l ≤ 1000000 := by omega
  have eq1 : Hid ((l : Int) / 4 * 2 = (q : Int)) := by show _ = _; omega
  have hr : a + 1 ≤ lo ∧ lo + 3 < b ∧ a + l = b := by omega
  have elo : (a : Int) + (q : Int) - 1 = (lo : Int) := by omega
  obtain ⟨h2, hh2⟩ : ∃ x, x = lo + 2 := ⟨_, rfl⟩
  have f0 : Hid ((a : Int) + (l : Int) / 4 * 2 - 1 = (lo : Int)) := by show _ = _; omega
  have f1 : (a : Int) + (l : Int) / 4 * 2 + 1 = (h2 : Int) := by omega
  have HLL := Lib.hid hl; have HQ := Lib.hid hq; have HLO := Lib.hid hlo
  have HH2 := Lib.hid hh2
  clear hl hq hlo hh2 elo
  have hbx : (w.alloc (.cells #[.int .u64 (l : Int)] 137)).heap[w.heap.size]? = some (.cells #[.int .u64 (l : Int)] 137 (0, 0)) := heap_alloc_new w _
  have hS0 : St w blk cap d (w.alloc (.cells #[.int .u64 (l : Int)] 137)) := hL.st.below ((RowKit.Below.refl _ _).alloc (Nat.le_refl _) _)
  have hne : ¬ blk = w.heap.size := by have := hL.lt; omega
  have HBX := Lib.hid hbx; have HS0 := Lib.hid hS0; have HL := Lib.hid hL
  obtain ⟨hM1, hM2⟩ := mod_bd l (by omega)
  clear hbx hS0 hL
  have hd8 : decide ((8 : Int) ≤ (l : Int)) = true := decide_eq_true (by omega)
  go_enter Try.func55, Try.ntmps55
  go_wp2_with fail
  generalize w.alloc _ = w1 at *
  refine (Try.nextPowerOfTwo l (by omega) w1).mono ?_
  rintro e w2 ⟨rfl, rfl⟩
  generalize (1 <<< bitsLen l) = M at *
  go_wp2_with fail
  have hX0 : l < 18446744073709551616 := by omega
  go_loopw [9] (fun t wr => ∃ (k X : Nat) (dk : Array Int), t = .int .i64 (k : Int) ∧ (lo ≤ k ∧ k ≤ lo + 3) ∧ Hid (dk.size = n) ∧ St w blk cap dk wr ∧ Hid (PermIn a b d dk) ∧ Hid (X < 18446744073709551616) ∧ Ub wr w.heap.size X) (fun t _ => lo + 3 - (intOf t).toNat)
  case atStart => exact ⟨lo, l, d, by rw [f0.out], by omega, HN, HS0.out, permIn_refl d a b, hX0, HBX.out⟩
  case round =>
    obtain ⟨k, X, dk, rfl, hkr, hds, hS, hpm, hX, hU⟩ := hrel
    have HS := Lib.hid hS; have HU := Lib.hid hU; clear hS hU HS0 HBX
    by_cases hk : k ≤ h2
    · have hd1 : decide (k ≤ h2) = true := decide_eq_true hk
      have hd2 : decide ((k : Int) ≤ (h2 : Int)) = true := decide_eq_true (by omega)
      go_wp2_with fail
      refine (Try.xorshift_Next w.heap.size 0 X hX.out wr HU.out.cell HU.out.frozen).mono ?_
      rintro e w3 ⟨rfl, rfl⟩
      have hr64 : Hid (xorNextN X < 18446744073709551616) := xorNextN_lt X hX.out
      have HU3 := Lib.hid (show Ub ((wr.setCell ⟨w.heap.size, 0, none⟩ (.int .u64 (xorNextN X : Nat))).drewN 3) w.heap.size (xorNextN X) from HU.out.set _)
      have HS3 := Lib.hid (show St w blk cap dk ((wr.setCell ⟨w.heap.size, 0, none⟩ (.int .u64 (xorNextN X : Nat))).drewN 3) from (⟨HS.out.l.other (grown_cell _ _ _) hne, HS.out.g.os, HS.out.g.tape, HS.out.g.output, by simpa [World.setCell] using HS.out.g.size, fun j hj hjb => by
        rw [RowKit.Below.heap_setCell _ _ _ _ (by show ¬ j = w.heap.size; omega)]; exact HS.out.g.block j hj hjb⟩ : St w blk cap dk (wr.setCell ⟨w.heap.size, 0, none⟩ (.int .u64 (xorNextN X : Nat)))).drewN 3)
      generalize World.drewN _ 3 = w3 at *
      generalize xorNextN X = r at *
      obtain ⟨O, hO⟩ : ∃ O, O = r &&& (M - 1) := ⟨_, rfl⟩
      have hOle : O ≤ M - 1 := by rw [hO]; exact Nat.and_le_right
      have hrr := hr64.out
      have hbits : bits BinOp.and IntKind.u64 (r : Int) ((M : Int) - 1) = (O : Int) := by
        rw [hO, show (M : Int) - 1 = ((M - 1 : Nat) : Int) by omega]
        exact bits_and_u64_nat r (M - 1) (by omega) (by omega)
      have HO := Lib.hid hO
      clear hO hrr
      by_cases hol : l ≤ O
      · have ho1 : decide (l ≤ O) = true := decide_eq_true hol
        have ho2 : decide ((l : Int) ≤ (O : Int)) = true := decide_eq_true (by omega)
        obtain ⟨o, hoo⟩ : ∃ o, o = O - l := ⟨_, rfl⟩
        have eo : (O : Int) - (l : Int) = (o : Int) := by omega
        have hol2 : o < l := by omega
        have HOO := Lib.hid hoo
        clear hoo
        have hh2 := HH2.out
        have hpn : a + o < b := by omega
        obtain ⟨p, hp⟩ : ∃ p, p = a + o := ⟨_, rfl⟩
        have ip : (p : Int) < (n : Int) := by omega
        have ik : (k : Int) < (n : Int) := by omega
        have hdz := hds.out
        have ck := HS3.out.cell (i := k) (by omega)
        have cp := HS3.out.cell (i := p) (by omega)
        have fk := HS3.out.frozen k
        have fp := HS3.out.frozen p
        have hsw := Lib.hid (fun W (h : St w blk cap dk W) => (h.swp (i := k) (j := p) (by omega) (by omega)).drew)
        have hsz2 := Lib.hid ((size_sw dk k p).trans hds.out)
        have hpm2 := Lib.hid (permIn_trans _ _ _ a b hpm.out (swp_permIn dk a b k p (by omega) (by omega) (by omega) (by omega) (by omega)))
        have V1 : Hid (IntKind.i64.wrap ((a : Int) + (o : Int)) = (p : Int)) := by show _ = _; rw [IntWalk.i64_in _ (by omega)]; omega
        have HP := Lib.hid hp
        clear hdz hp hh2
        generalize hxk : dk[k]! = xk at ck hsw
        generalize hxp : dk[p]! = xp at cp hsw
        clear hxk hxp
        obtain ⟨v', hv'⟩ := cell?_setCell_some (w := w3) (p := ⟨blk, k, none⟩) (x := .int .u32 xp) (q := ⟨blk, p, none⟩) (v := .int .u32 xp) cp
        go_wp2_with fail
        have v1 := V1.out
        go_region
        clear v1 hv' ck cp fk fp
        go_wp2
        refine ⟨⟨k + 1, r, swp dk k p, by go_num, by have := HH2.out; omega, hsz2, hsw.out _ HS3.out, hpm2, hr64, ?_⟩, by have := HH2.out; simp [intOf] <;> omega⟩
        refine HU3.out.kept ?_
        show (World.setCell (World.setCell w3 _ _) _ _).heap[w.heap.size]? = _
        rw [RowKit.Below.heap_setCell _ _ _ _ (fun e => hne e.symm), RowKit.Below.heap_setCell _ _ _ _ (fun e => hne e.symm)]
      · have ho1 : decide (l ≤ O) = false := decide_eq_false hol
        have ho2 : decide ((l : Int) ≤ (O : Int)) = false := decide_eq_false (by omega)
        obtain ⟨o, rfl⟩ : ∃ o, o = O := ⟨_, rfl⟩
        have hh2 := HH2.out
        have hpn : a + o < b := by omega
        obtain ⟨p, hp⟩ : ∃ p, p = a + o := ⟨_, rfl⟩
        have ip : (p : Int) < (n : Int) := by omega
        have ik : (k : Int) < (n : Int) := by omega
        have hdz := hds.out
        have ck := HS3.out.cell (i := k) (by omega)
        have cp := HS3.out.cell (i := p) (by omega)
        have fk := HS3.out.frozen k
        have fp := HS3.out.frozen p
        have hsw := Lib.hid (fun W (h : St w blk cap dk W) => (h.swp (i := k) (j := p) (by omega) (by omega)).drew)
        have hsz2 := Lib.hid ((size_sw dk k p).trans hds.out)
        have hpm2 := Lib.hid (permIn_trans _ _ _ a b hpm.out (swp_permIn dk a b k p (by omega) (by omega) (by omega) (by omega) (by omega)))
        have V1 : Hid (IntKind.i64.wrap ((a : Int) + (o : Int)) = (p : Int)) := by show _ = _; rw [IntWalk.i64_in _ (by omega)]; omega
        have HP := Lib.hid hp
        clear hdz hp hh2
        generalize hxk : dk[k]! = xk at ck hsw
        generalize hxp : dk[p]! = xp at cp hsw
        clear hxk hxp
        obtain ⟨v', hv'⟩ := cell?_setCell_some (w := w3) (p := ⟨blk, k, none⟩) (x := .int .u32 xp) (q := ⟨blk, p, none⟩) (v := .int .u32 xp) cp
        go_wp2_with fail
        have v1 := V1.out
        go_region
        clear v1 hv' ck cp fk fp
        go_wp2
        refine ⟨⟨k + 1, r, swp dk k p, by go_num, by have := HH2.out; omega, hsz2, hsw.out _ HS3.out, hpm2, hr64, ?_⟩, by have := HH2.out; simp [intOf] <;> omega⟩
        refine HU3.out.kept ?_
        show (World.setCell (World.setCell w3 _ _) _ _).heap[w.heap.size]? = _
        rw [RowKit.Below.heap_setCell _ _ _ _ (fun e => hne e.symm), RowKit.Below.heap_setCell _ _ _ _ (fun e => hne e.symm)]
    · have hd1 : decide (k ≤ h2) = false := decide_eq_false hk
      have hd2 : decide ((k : Int) ≤ (h2 : Int)) = false := decide_eq_false (by omega)
      go_wp2
      go_end0
      exact ⟨rfl, dk, hpm.out, HS.out⟩
end Go.Proofs.Ytaaijgalminafaa
