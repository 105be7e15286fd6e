/-
  Layer 11: Count and Lengths by contracts.
-/
import Derived.Test.YtolhjdhbcggidaaCk2
namespace Go.Proofs.Ytolhjdhbcggidaa
open Go.RowKit

/-- How many pieces texts of some sizes have. -/
def cntL (l : List Int) : Nat := (l.map fun x => nPc x.toNat).sum
/-- How long the pieces of a text of some size are. -/
def lensTo (x : Int) (k : Nat) : List Int := (List.range k).map fun j : Nat => min 256 (x - 256 * (j : Int))
def lens1 (x : Int) : List Int := lensTo x (nPc x.toNat)
theorem lensTo_succ (x : Int) (k : Nat) : lensTo x (k + 1) = lensTo x k ++ [min 256 (x - 256 * (k : Int))] := by simp [lensTo, List.range_succ]
theorem lensTo_len (x : Int) (k : Nat) : (lensTo x k).length = k := by simp [lensTo]
theorem ints_app (l r : List Int) : ints (l ++ r) = ints l ++ ints r := by simp [ints]
def lensL (l : List Int) : List Int := l.flatMap lens1
theorem cntL_snoc {l : List Int} {j : Nat} (h : j < l.length) : cntL (l.take (j + 1)) = cntL (l.take j) + nPc l[j].toNat := by
  unfold cntL
  rw [List.take_succ_eq_append_getElem h, List.map_append, List.sum_append]
  simp only [List.map_cons, List.map_nil, List.sum_cons, List.sum_nil, Nat.add_zero]
theorem cntL_le (l : List Int) (h : ∀ x ∈ l, x ≤ 2048) : cntL l ≤ 8 * l.length := by
  induction l with
  | nil => simp [cntL]
  | cons x l ih =>
    have h1 := ih (fun y hy => h y (by simp [hy]))
    have h2 := h x (by simp)
    unfold cntL at *
    simp only [List.map_cons, List.sum_cons, List.length_cons]
    unfold nPc at *
    omega
theorem lens1_len (x : Int) : (lens1 x).length = nPc x.toNat := lensTo_len _ _
theorem lensL_len (l : List Int) : (lensL l).length = cntL l := by
  unfold lensL cntL
  induction l with
  | nil => rfl
  | cons x l ih => simp [lens1_len, ih]
theorem lensL_snoc {l : List Int} {j : Nat} (h : j < l.length) : lensL (l.take (j + 1)) = lensL (l.take j) ++ lens1 l[j] := by
  unfold lensL
  rw [List.take_succ_eq_append_getElem h, List.flatMap_append]
  simp

set_option maxRecDepth 100000 in
theorem count_any (l : List Int) (A : Option Addr) (c : Nat) (w : World) (hR : Rd w w.heap.size 1 A l.length (ints l)) (hl : l.length ≤ 1000) (hz : ∀ x ∈ l, -9223372036854775808 ≤ x ∧ x ≤ 2048) :
    Calls Try.prog 28 #[.slice A l.length c] w (RetI .i64 (cntL l : Int) w) := by
  have HR := Lib.hid hR; have HZ := Lib.hid hz; clear hR hz
  go_enter Try.func28, Try.ntmps28
  go_wp2
  go_loop [3, 8] (fun n i => ∃ j : Nat, j ≤ l.length ∧ i = .int .i64 (j : Int) ∧ n = .int .i64 (cntL (l.take j) : Int)) (fun _ i => l.length - (intOf i).toNat)
  case atStart => exact ⟨0, by omega, rfl, by simp [cntL]⟩
  case round =>
    obtain ⟨j, hj, rfl, rfl⟩ := hrel
    by_cases hlt : j < l.length
    · obtain ⟨g, off, rfl, hg, hc⟩ := HR.out.at_ hlt
      have h1 := hc j hlt
      clear hc
      have hzx := HZ.out _ (List.getElem_mem hlt)
      have hsn := Lib.hid (cntL_snoc hlt)
      have hle := cntL_le (l.take j) (fun x hx => (HZ.out x (List.mem_of_mem_take hx)).2)
      rw [List.length_take] at hle
      have hi1 : (j : Int) < (l.length : Int) := by omega
      generalize cntL (l.take j) = n at *
      generalize l[j] = x at *
      obtain ⟨hx1, hx2⟩ := hzx
      by_cases h0 : 0 < x
      · have hq : Hid (((n : Int) + ((x - 1) / 256 + 1)) = ((n + nPc x.toNat : Nat) : Int)) := by
          show _ = _
          unfold nPc
          omega
        go_wp2
        go_round
        case rel => exact ⟨j + 1, by omega, by go_num, by rw [hsn.out, ← hq.out]⟩
        case measure => simp [intOf]; omega
      · have hq : Hid (n = n + nPc x.toNat) := by
          show _ = _
          unfold nPc
          omega
        go_wp2
        go_round
        case rel => exact ⟨j + 1, by omega, by go_num, by rw [hsn.out, ← hq.out]⟩
        case measure => simp [intOf]; omega
    · have hje : j = l.length := by omega
      subst hje
      go_wp2
      go_ret
      exact RetI.mk' rfl (Below.refl _ _)

theorem Try.info3 : (Try.prog.info? 3).map (fun i => (i.zero, i.size, i.bytes)) = some (some (.int .i64 0), 1, 8) := by kernel_rfl
set_option maxRecDepth 100000 in
set_option maxHeartbeats 1600000 in
theorem lengths_any (l : List Int) (A : Option Addr) (c : Nat) (w : World) (hR : Rd w w.heap.size 1 A l.length (ints l)) (hl : l.length ≤ 1000) (hz : ∀ x ∈ l, -9223372036854775808 ≤ x ∧ x ≤ 2048) :
    Calls Try.prog 29 #[.slice A l.length c] w (RetS 1 (ints (lensL l)) w) := by
  obtain ⟨i0, hi, hz0, hz1, hz2⟩ := info_parts Try.info3
  have HR := Lib.hid hR; have HZ := Lib.hid hz; clear hR hz
  go_enter Try.func29, Try.ntmps29
  go_wp2
  go_loopw [3, 4, 5] (fun v i s wr => ∃ j : Nat, j ≤ l.length ∧ i = .int .i64 (j : Int) ∧ wr.ownsRow w.heap.size 3 1 v (lensL (l.take j)).length (ints (lensL (l.take j))) ∧ Below w.heap.size w wr) (fun _ i _ _ => l.length - (intOf i).toNat)
  case atStart => exact ⟨0, by omega, rfl, World.ownsRow_nil _ _ _ _, Below.refl _ _⟩
  case round =>
    obtain ⟨j, hj, rfl, hown, hb⟩ := hrel
    by_cases hlt : j < l.length
    · obtain ⟨g, off, rfl, hg, hc⟩ := (HR.out.below hb (Nat.le_refl _)).at_ hlt
      have h1 := hc j hlt
      clear hc
      have hzt := HZ.out _ (List.getElem_mem hlt)
      have hsn := lensL_snoc hlt
      have hll : (lensL (l.take j)).length ≤ 8 * j := by
        have := cntL_le (l.take j) (fun a ha => (HZ.out a (List.mem_of_mem_take ha)).2)
        rw [List.length_take] at this
        rw [lensL_len]
        omega
      have hi1 : (j : Int) < (l.length : Int) := by omega
      have Hsn := Lib.hid hsn; clear hsn
      generalize lensL (l.take j) = L at *
      generalize l[j] = t at *
      obtain ⟨ht1, ht2⟩ := hzt
      obtain ⟨wo, rfl⟩ : ∃ wo : World, wo = wr := ⟨_, rfl⟩
      go_wp2
      go_loopw [3, 5] (fun v s wr => ∃ (k : Nat) (s1 : Int), s = .int .i64 s1 ∧ Hid (s1 = t - 256 * (k : Int)) ∧ k ≤ nPc t.toNat ∧ s1 ≤ 2048 ∧ -9223372036854775808 ≤ s1 ∧ wr.ownsRow w.heap.size 3 1 v (L ++ lensTo t k).length (ints (L ++ lensTo t k)) ∧ Below w.heap.size w wr) (fun _ s _ => (intOf s).toNat)
      case atStart => exact ⟨0, t, rfl, by simp [Hid], Nat.zero_le _, ht2, ht1, by simpa [lensTo] using hown, hb⟩
      case round =>
        obtain ⟨k, s1, rfl, hS, hk, hs1, hs2, hown1, hb1⟩ := hrel
        clear hown hb
        by_cases hgt : 256 < s1
        · have hd : decide ((256 : Int) < s1) = true := decide_eq_true hgt
          have hp : Hid (min 256 (t - 256 * (k : Int)) = 256) := by show _ = _; have := hS.out; omega
          have hn : Hid (s1 - 256 = t - 256 * ((k + 1 : Nat) : Int)) := by show _ = _; have := hS.out; omega
          have hnews := cells_one (heap_alloc_new wr (.cells #[.int .i64 256] 3))
          have hk1 : k + 1 ≤ nPc t.toNat := by have := hS.out; unfold nPc; omega
          have hn12 : nPc t.toNat ≤ 12 := by unfold nPc; omega
          have hLl : (L ++ lensTo t k).length ≤ 8 * j + k := by rw [List.length_append, lensTo_len]; omega
          go_wp2_with (at_builtin; refine wpList_append_own _ rfl _ _ 51 rfl w.heap.size 3 i0 (.int .i64 0) 1 8 Try.underlying51 hi hz0 hz1 hz2 rfl (by decide) _ _ _ rfl (hown1.alloc _) ⟨wr.heap.size, 0, none⟩ 1 1 [.int .i64 256] rfl rfl hnews (by simp [Value.oneCell']) (by simp only [maxLen]; omega) (by omega) (by have := hb1.size; simp; omega) ?_)
          intro v8 w8 hown8 hg8 _
          have hb8 := own_base (hown1.alloc _) (hb1.alloc hb1.size _) hg8 (by have := hb1.size; simp; omega)
          have hown9 : w8.ownsRow w.heap.size 3 1 v8 (L ++ lensTo t (k + 1)).length (ints (L ++ lensTo t (k + 1))) := by
            have e : ints (L ++ lensTo t k) ++ [Value.int .i64 256] = ints (L ++ lensTo t (k + 1)) := by rw [lensTo_succ, hp.out, ← List.append_assoc, ints_app (L ++ lensTo t k)]; rfl
            have e2 : (L ++ lensTo t (k + 1)).length = L.length + (lensTo t k).length + 1 := by rw [List.length_append, lensTo_len, lensTo_len]; omega
            rw [e] at hown8; rw [e2]; exact hown8
          clear hown8 hg8 hnews hown1 hb1
          go_wp2
          go_roundw
          case rel => exact ⟨k + 1, _, rfl, hn, hk1, by omega, by omega, hown9, hb8⟩
          case measure => simp [intOf]; omega
        · have hd : decide ((256 : Int) < s1) = false := decide_eq_false hgt
          by_cases h0 : 0 < s1
          · have hkn : Hid (k + 1 = nPc t.toNat) := by show _ = _; have := hS.out; unfold nPc at *; omega
            have hp : Hid (min 256 (t - 256 * (k : Int)) = s1) := by show _ = _; have := hS.out; omega
            have hnews := cells_one (heap_alloc_new wr (.cells #[.int .i64 s1] 3))
            have hn12 : nPc t.toNat ≤ 12 := by unfold nPc; omega
            have hLl : (L ++ lensTo t k).length ≤ 8 * j + k := by rw [List.length_append, lensTo_len]; omega
            have hd0 : decide ((0 : Int) < s1) = true := decide_eq_true h0
            go_wp2_with (at_builtin; refine wpList_append_own _ rfl _ _ 51 rfl w.heap.size 3 i0 (.int .i64 0) 1 8 Try.underlying51 hi hz0 hz1 hz2 rfl (by decide) _ _ _ rfl (hown1.alloc _) ⟨wr.heap.size, 0, none⟩ 1 1 [.int .i64 s1] rfl rfl hnews (by simp [Value.oneCell']) (by simp only [maxLen]; omega) (by omega) (by have := hb1.size; simp; omega) ?_)
            intro v8 w8 hown8 hg8 _
            have hb8 := own_base (hown1.alloc _) (hb1.alloc hb1.size _) hg8 (by have := hb1.size; simp; omega)
            have hown9 : w8.ownsRow w.heap.size 3 1 v8 (L ++ lens1 t).length (ints (L ++ lens1 t)) := by
              have e : ints (L ++ lensTo t k) ++ [Value.int .i64 s1] = ints (L ++ lens1 t) := by unfold lens1; rw [← hkn.out, lensTo_succ, hp.out, ← List.append_assoc, ints_app (L ++ lensTo t k)]; rfl
              have e2 : (L ++ lens1 t).length = L.length + (lensTo t k).length + 1 := by unfold lens1; rw [← hkn.out, List.length_append, lensTo_len, lensTo_len]; omega
              rw [e] at hown8; rw [e2]; exact hown8
            clear hown8 hg8 hnews hown1 hb1
            go_wp2
            go_roundw
            case rel => exact ⟨j + 1, by omega, by go_num, by rw [Hsn.out]; exact hown9, hb8⟩
            case measure => simp [intOf]; omega
          · have hkn : Hid (k = nPc t.toNat) := by show _ = _; have := hS.out; unfold nPc at *; omega
            have hd0 : decide ((0 : Int) < s1) = false := decide_eq_false h0
            go_wp2
            go_roundw
            case rel => exact ⟨j + 1, by omega, by go_num, by rw [Hsn.out]; unfold lens1; rw [← hkn.out]; exact hown1, hb1⟩
            case measure => simp [intOf]; omega
    · have hje : j = l.length := by omega
      subst hje
      rw [List.take_length] at hown
      obtain ⟨A', c', rfl, h1, h2, h3⟩ := Rd.of_own hown
      go_wp2
      go_ret
      exact RetS.mk' h3 h1 h2 hb
end Go.Proofs.Ytolhjdhbcggidaa
