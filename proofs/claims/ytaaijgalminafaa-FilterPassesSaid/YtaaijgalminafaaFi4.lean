import Derived.Lib.AppendZerosOnto
import Derived.Test.YtaaijgalminafaaFi2
/-
  Layer 24: slices.Grow of nothing (f42), slices.Concat of two (f26).
-/
namespace Go.Proofs.Ytaaijgalminafaa
open Go.RowKit Mono

theorem row_of_own {w : World} {g cap base : Nat} {cs : Array Value} {e : TypeId} (hg : w.heap[g]? = some (.cells cs e (0, 0))) (hb : base ≤ g) (hc : cap ≤ maxLen) (hs : cs.size = cap) : w.ownsRow base e 1 (.slice (some ⟨g, 0, none⟩) 0 cap) 0 [] :=
  ⟨by simp, .inr ⟨g, cap, cs, rfl, hb, hg, Nat.zero_le _, hc, by omega, by simp⟩⟩
set_option maxRecDepth 100000 in
set_option maxHeartbeats 3200000 in
theorem grow_any (n : Nat) (w : World) (hn : n ≤ 1000000) : Calls Try.prog 42 #[.slice none 0 0, .int .i64 (n : Int)] w (RetO 25 1 0 [] w) := by
  obtain ⟨i0, hi, hz0, hz1, hz2⟩ := info_parts Try.info25
  have h1 : ¬ ((n : Int) < 0) := by omega
  rcases Nat.eq_zero_or_pos n with h0 | h0
  · subst h0
    go_enter Try.func42, Try.ntmps42
    go_wp2
    go_ret
    exact RetO.mk' (World.ownsRow_nil _ _ _ _) (Below.refl _ _)
  · have h4 : (0 : Int) < (n : Int) := by omega
    have hw : wrap64 (n : Int) = (n : Int) := IntWalk.wrap64_in _ (by omega)
    have hrz : ∀ ty, (Builtin.append_ #[22, 3] ty #[.slice none 0 0, .int .i64 (n : Int)]).run Try.prog w = _ := fun ty =>
      Lib.run_append_grow_zeros (P := Try.prog) w 22 3 ty 25 i0 (.int .u32 0) .i64 .i64 Try.underlying22 Try.underlying3 hi hz0 none 0 0 [] (run_firstCells_none w.drew i0.size 0 0 0) n h0 (by omega) (by omega) (by omega) (by rw [hz2]; omega)
        (by rw [Nat.zero_add]; exact growslice_fits (by omega) (by rw [hz2]; omega))
    have hsz : ∀ (G : Nat), n ≤ G → ((([] : List Value).toArray ++ Builtin.zeroCells (Value.int .u32 0).cells n ++ Builtin.zeroCells (Value.int .u32 0).cells (G - n)) : Array Value).size = G := fun G hG => by
      simp [Builtin.zeroCells, Value.cells]; omega
    rw [Nat.zero_add] at hrz
    have hG1 := grownCap_ge w n 0 25
    have hG2 := grownCap_le_maxLen w n 0 25 (by unfold maxLen; omega)
    generalize grownCap w n 0 25 = G at *
    have hs := hsz G hG1
    clear hsz
    generalize (([] : List Value).toArray ++ Builtin.zeroCells (Value.int .u32 0).cells n ++ Builtin.zeroCells (Value.int .u32 0).cells (G - n)) = cs at *
    have HG1 := Lib.hid hG1; have HG2 := Lib.hid hG2; have HS := Lib.hid hs
    clear hG2 hs
    go_enter Try.func42, Try.ntmps42
    go_wp2_with (at_builtin; refine Lib.wpList_append_run _ rfl _ _ _ _ rfl _ _ rfl rfl _ _ (hrz _) ?_)
    all_goals go_ret
    all_goals exact RetO.mk' (row_of_own (heap_alloc_new _ _) (Nat.le_refl _) HG2.out HS.out) ((Below.refl _ w).drew.alloc (Nat.le_refl _) _)

set_option maxRecDepth 100000 in
set_option maxHeartbeats 3200000 in
theorem concat_any (A1 A2 : Option Addr) (c1 c2 : Nat) (xs ys : List Int) (b : Nat) (w : World) (hb : w.heap[b]? = some (.cells #[.slice A1 xs.length c1, .slice A2 ys.length c2] 22 (0, 0)))
    (hR1 : Rd w w.heap.size 1 A1 xs.length (u32s xs)) (hR2 : Rd w w.heap.size 1 A2 ys.length (u32s ys)) (hn1 : xs.length ≤ 1000) (hn2 : ys.length ≤ 1000) :
    Calls Try.prog 26 #[.slice (some ⟨b, 0, none⟩) 2 2] w (RetO 25 1 (xs.length + ys.length) (u32s (xs ++ ys)) w) := by
  obtain ⟨i0, hi, hz0, hz1, hz2⟩ := info_parts Try.info25
  have HR1 := Lib.hid hR1; have HR2 := Lib.hid hR2; have HBK := Lib.hid hb
  have e0 : w.cell? ⟨b, 0, none⟩ = some (.slice A1 xs.length c1) := cell_of_row _ _ 0 _ 22 (0, 0) hb
  have e1 : w.cell? ⟨b, 1, none⟩ = some (.slice A2 ys.length c2) := cell_of_row _ _ 1 _ 22 (0, 0) hb
  have hbl := row_lt hb
  have hxy := u32s_app xs ys
  have HXY := Lib.hid hxy; clear hxy
  generalize hm1 : u32s xs = us at *
  generalize hm2 : u32s ys = vs at *
  have hu1 : Hid (∀ u ∈ us, u.oneCell' = true) := by rw [← hm1]; exact u32s_one _
  have hu2 : Hid (∀ u ∈ vs, u.oneCell' = true) := by rw [← hm2]; exact u32s_one _
  rw [show RetO 25 1 (xs.length + ys.length) (u32s (xs ++ ys)) w = RetO 25 1 (xs.length + ys.length) (us ++ vs) w by rw [HXY.out]]
  clear hm1 hm2 HXY
  generalize xs.length = n1 at *
  generalize ys.length = n2 at *
  have hE0 := Lib.hid e0; have hE1 := Lib.hid e1
  clear hR1 hR2 hb
  go_enter Try.func26, Try.ntmps26
  go_wp2
  go_loopw [3, 11] (fun v i wr => ∃ j : Nat, j ≤ 2 ∧ i = .int .i64 (j : Int) ∧ (∃ s : Nat, v = .int .i64 (s : Int) ∧ Hid ((j = 0 → s = 0) ∧ (j = 1 → s = n1) ∧ (j = 2 → s = n1 + n2))) ∧ wr = w) (fun _ i _ => 2 - (intOf i).toNat)
  case atStart => exact ⟨0, by omega, rfl, ⟨0, rfl, ⟨fun _ => rfl, by omega, by omega⟩⟩, rfl⟩
  case round =>
    obtain ⟨j, hj, rfl, ⟨s, rfl, hs⟩, rfl⟩ := hrel
    rcases (show j = 0 ∨ j = 1 ∨ j = 2 by omega) with rfl | rfl | rfl
    · obtain rfl := hs.out.1 rfl
      clear hs
      go_wp2
      go_roundw
      case rel => exact ⟨1, by omega, rfl, ⟨n1, rfl, ⟨by omega, fun _ => rfl, by omega⟩⟩, trivial⟩
      case measure => simp [intOf]
    · obtain rfl := hs.out.2.1 rfl
      clear hs
      go_wp2
      go_roundw
      case rel => exact ⟨2, by omega, rfl, ⟨s + n2, by go_num, ⟨by omega, by omega, fun _ => rfl⟩⟩, trivial⟩
      case measure => simp [intOf]
    · obtain rfl := hs.out.2.2 rfl
      clear hs
      obtain ⟨w0, rfl⟩ : ∃ w0, w0 = wr := ⟨_, rfl⟩
      go_wp2_with fail
      refine (grow_any (n1 + n2) w0 (by omega)).mono ?_
      rintro e w1 ⟨v1, rfl, hown0, hb1⟩
      have HB1 := Lib.hid hb1
      clear hb1 e0 e1
      go_wp2
      go_loopw [6, 27] (fun v i wq => ∃ j : Nat, j ≤ 2 ∧ i = .int .i64 (j : Int) ∧ Below w0.heap.size w0 wq ∧ Hid ((j = 0 → wq.ownsRow w0.heap.size 25 1 v 0 []) ∧ (j = 1 → wq.ownsRow w0.heap.size 25 1 v n1 us) ∧ (j = 2 → wq.ownsRow w0.heap.size 25 1 v (n1 + n2) (us ++ vs)))) (fun _ i _ => 2 - (intOf i).toNat)
      case atStart => exact ⟨0, by omega, rfl, HB1.out, ⟨fun _ => hown0, by omega, by omega⟩⟩
      case round =>
        obtain ⟨j, hj, rfl, hbq, hs⟩ := hrel
        clear hown0
        rcases (show j = 0 ∨ j = 1 ∨ j = 2 by omega) with rfl | rfl | rfl
        · have hown := hs.out.1 rfl
          clear hs
          have e0 := (hbq.cell (p := ⟨b, 0, none⟩) hbl).trans hE0.out
          have hRq := HR1.out.below hbq (Nat.le_refl _)
          have hzq := hbq.size
          go_wp2_with (at_builtin; refine wpList_append_rd rfl _ _ 22 rfl w0.heap.size 25 i0 (.int .u32 0) 1 4 Try.underlying22 hi hz0 hz1 hz2 rfl (by decide) _ _ _ rfl hown _ A1 n1 c1 us rfl hRq hu1.out (by simp only [maxLen]; omega) (by omega) hzq ?_)
          intro v8 w8 hown8 hg8
          have hb8 := own_base hown hbq hg8 hzq
          clear hg8 e0 hRq hown
          go_wp2
          go_roundw
          case rel => exact ⟨1, by omega, rfl, hb8, ⟨by omega, fun _ => hown8, by omega⟩⟩
          case measure => simp [intOf]
        · have hown := hs.out.2.1 rfl
          clear hs
          have e1 := (hbq.cell (p := ⟨b, 1, none⟩) hbl).trans hE1.out
          have hRq := HR2.out.below hbq (Nat.le_refl _)
          have hzq := hbq.size
          go_wp2_with (at_builtin; refine wpList_append_rd rfl _ _ 22 rfl w0.heap.size 25 i0 (.int .u32 0) 1 4 Try.underlying22 hi hz0 hz1 hz2 rfl (by decide) _ _ _ rfl hown _ A2 n2 c2 vs rfl hRq hu2.out (by simp only [maxLen]; omega) (by omega) hzq ?_)
          intro v8 w8 hown8 hg8
          have hb8 := own_base hown hbq hg8 hzq
          clear hg8 e1 hRq hown
          go_wp2
          go_roundw
          case rel => exact ⟨2, by omega, rfl, hb8, ⟨by omega, by omega, fun _ => hown8⟩⟩
          case measure => simp [intOf]
        · have hown := hs.out.2.2 rfl
          clear hs
          go_wp2
          go_ret
          exact RetO.mk' hown hbq
end Go.Proofs.Ytaaijgalminafaa
/-
  Layer 24: a row of the call's own, sorted (f27) and without repeats (f28).
-/
namespace Go.Proofs.Ytaaijgalminafaa
open Go.RowKit Mono Go.Sort Go.Lib

theorem own_of_reads {w : World} {base g cap n : Nat} {cur : Array Value} {e : TypeId} {xs : List Value} (hg : w.heap[g]? = some (.cells cur e (0, 0))) (hb : base ≤ g) (hc : cap ≤ maxLen) (hs : cur.size = cap) (hn : n ≤ cap)
    (hl : xs.length = n) (hr : ∀ j u, xs[j]? = some u → w.cell? ⟨g, j, none⟩ = some u) : w.ownsRow base e 1 (.slice (some ⟨g, 0, none⟩) n cap) n xs := by
  refine ⟨by omega, .inr ⟨g, cap, cur, rfl, hb, hg, hn, hc, by omega, ?_⟩⟩
  apply List.ext_getElem?
  intro j
  rw [Nat.mul_one, List.getElem?_take]
  by_cases hj : j < n
  · rw [if_pos hj, Array.getElem?_toList]
    have h1 := hr j xs[j] (List.getElem?_eq_getElem (by omega))
    rw [cell_of_row _ _ j _ e (0, 0) hg] at h1
    rw [h1, List.getElem?_eq_getElem]
  · rw [if_neg hj, List.getElem?_eq_none (by omega)]
theorem own_reads {w : World} {base g cap n : Nat} {e : TypeId} {xs : List Value} (h : w.ownsRow base e 1 (.slice (some ⟨g, 0, none⟩) n cap) n xs) :
    ∃ cur : Array Value, w.heap[g]? = some (.cells cur e (0, 0)) ∧ base ≤ g ∧ cap ≤ maxLen ∧ cur.size = cap ∧ n ≤ cap ∧ xs.length = n ∧ ∀ (j : Nat) (u : Value), xs[j]? = some u → cur[j]? = some u := by
  rcases h.2 with ⟨h1, _⟩ | ⟨g', cap', cur, h1, hb, hg, hnc, hcm, hcs, ht⟩
  · cases h1
  · injection h1 with h1 _ h2
    injection h1 with h1
    injection h1 with h1 _ _
    subst h1 h2
    refine ⟨cur, hg, hb, hcm, by omega, hnc, by simpa using h.1, fun j u hu => ?_⟩
    rw [← ht, List.getElem?_take] at hu
    split at hu
    · rwa [Array.getElem?_toList] at hu
    · cases hu
/-- An ordered list without repeats, of the same numbers. -/
theorem compact_up (d : Array Int) (hd : ∀ i j, i < j → j < d.size → ¬ d[j]! < d[i]!) : ∀ m, m ≤ d.size → (compactUpTo d m).Pairwise (· < ·) ∧ ∀ v, v ∈ compactUpTo d m ↔ ∃ j, j < m ∧ d[j]! = v := by
  intro m
  induction m with
  | zero => intro _; exact ⟨by simp [compactUpTo], by simp [compactUpTo]⟩
  | succ m ih =>
    intro hm
    obtain ⟨h1, h2⟩ := ih (by omega)
    rw [compactUpTo_succ]
    by_cases hk : keeps d m = true
    · rw [if_pos hk]
      refine ⟨List.pairwise_append.2 ⟨h1, by simp, fun a ha b hb => ?_⟩, fun v => ?_⟩
      · obtain rfl : b = d[m]! := by simpa using hb
        obtain ⟨j, hj, rfl⟩ := (h2 a).1 ha
        have e1 := hd j m hj (by omega)
        have hne : d[m]! ≠ d[m - 1]! := by
          unfold keeps at hk
          have hm0 : m ≠ 0 := by omega
          simpa [hm0] using hk
        have e2 := hd (m - 1) m (by omega) (by omega)
        rcases Nat.lt_or_ge j (m - 1) with h | h
        · have e3 := hd j (m - 1) h (by omega)
          omega
        · have : j = m - 1 := by omega
          subst this
          omega
      · rw [List.mem_append, h2]
        constructor
        · rintro (⟨j, hj, rfl⟩ | h)
          · exact ⟨j, by omega, rfl⟩
          · obtain rfl : v = d[m]! := by simpa using h
            exact ⟨m, by omega, rfl⟩
        · rintro ⟨j, hj, rfl⟩
          rcases Nat.lt_or_ge j m with h | h
          · exact .inl ⟨j, h, rfl⟩
          · have : j = m := by omega
            subst this
            exact .inr (by simp)
    · rw [if_neg hk, List.append_nil]
      refine ⟨h1, fun v => ?_⟩
      rw [h2]
      constructor
      · rintro ⟨j, hj, rfl⟩; exact ⟨j, by omega, rfl⟩
      · rintro ⟨j, hj, rfl⟩
        rcases Nat.lt_or_ge j m with h | h
        · exact ⟨j, h, rfl⟩
        · have : j = m := by omega
          subst this
          unfold keeps at hk
          simp at hk
          exact ⟨j - 1, by omega, hk.2.symm⟩

def Srt (l : List Int) : Prop := ∀ i j, i < j → j < l.toArray.size → ¬ l.toArray[j]! < l.toArray[i]!
/-- What sorting a row of the call's own leaves. -/
def RetSort (base : Nat) (v : Value) (l : List Int) (w : World) (e : Ending) (w' : World) : Prop :=
  e = .returned (.tuple #[]) ∧ ∃ l' : List Int, l'.Perm l ∧ Srt l' ∧ w'.ownsRow base 25 1 v l'.length (u32s l') ∧ w.grownBy w' v.ownBlock
theorem arr_get {l : List Int} {j : Nat} (h : j < l.length) : l.toArray[j]! = l[j] := by simp [h]
set_option maxRecDepth 100000 in
set_option maxHeartbeats 3200000 in
theorem ins_none (w : World) : Calls Try.prog 53 #[.slice none 0 0, .int .i64 0, .int .i64 0] w fun e w' => e = .returned (.tuple #[]) ∧ w' = w := by
  go_enter Try.func53, Try.ntmps53
  go_wp2
  go_loopw [6] (fun i wr => i = .int .i64 1 ∧ wr = w) (fun _ _ => 0)
  case atStart => exact ⟨rfl, rfl⟩
  case round =>
    obtain ⟨rfl, rfl⟩ := hrel
    go_wp2
    exact ⟨rfl, _, results_none rfl _ _ _, rfl, rfl⟩
set_option maxRecDepth 100000 in
set_option maxHeartbeats 3200000 in
theorem pdq_none (k : Int) (w : World) : Calls Try.prog 43 #[.slice none 0 0, .int .i64 0, .int .i64 0, .int .i64 k] w fun e w' => e = .returned (.tuple #[]) ∧ w' = w := by
  go_enter Try.func43, Try.ntmps43
  go_wp2
  go_loopw [1, 2] (fun i j wr => i = .int .i64 0 ∧ j = .int .i64 0 ∧ wr = w) (fun _ _ _ => 0)
  case atStart => exact ⟨rfl, rfl, rfl⟩
  case round =>
    obtain ⟨rfl, rfl, rfl⟩ := hrel
    go_wp2_with fail
    refine (ins_none wr).mono ?_
    rintro e w2 ⟨rfl, rfl⟩
    go_wp2
    exact ⟨rfl, _, results_none rfl _ _ _, rfl, rfl⟩
set_option maxRecDepth 100000 in
set_option maxHeartbeats 3200000 in
theorem sort_none (w : World) : Calls Try.prog 27 #[.slice none 0 0] w fun e w' => e = .returned (.tuple #[]) ∧ w' = w := by
  go_enter Try.func27, Try.ntmps27
  go_wp2_with fail
  refine (Try.bits_Len (0 : Int) w (by omega) (by omega)).mono ?_
  rintro e w2 ⟨rfl, rfl⟩
  go_wp2_with fail
  refine (pdq_none _ w2).mono ?_
  rintro e w3 ⟨rfl, rfl⟩
  go_wp2
  show bodyPost Try.prog Try.f27 _ _ _ _
  exact ⟨rfl, _, results_none rfl _ _ _, rfl, rfl⟩
set_option maxRecDepth 100000 in
set_option maxHeartbeats 3200000 in
theorem compact_none (w : World) : Calls Try.prog 28 #[.slice none 0 0] w fun e w' => e = .returned (.slice none 0 0) ∧ w' = w := by
  go_enter Try.func28, Try.ntmps28
  go_wp2
  go_ret
  exact ⟨rfl, rfl⟩
theorem sortO_any (base : Nat) (v : Value) (l : List Int) (w : World) (hown : w.ownsRow base 25 1 v l.length (u32s l)) (hl : l.length ≤ 1000000) : Calls Try.prog 27 #[v] w (RetSort base v l w) := by
  rcases (show v = .slice none 0 0 ∧ l.length = 0 ∨ ∃ g cap, v = .slice (some ⟨g, 0, none⟩) l.length cap from by
    rcases hown.2 with h | ⟨g, cap, cur, h, _⟩
    · exact .inl h
    · exact .inr ⟨g, cap, h⟩) with ⟨rfl, h0⟩ | ⟨g, cap, rfl⟩
  · obtain rfl : l = [] := List.eq_nil_of_length_eq_zero h0
    refine (sort_none w).mono ?_
    rintro e w' ⟨rfl, rfl⟩
    exact ⟨rfl, [], List.Perm.refl _, (by intro i j _ h; simp at h), hown, grown_refl _ _⟩
  · obtain ⟨cur, hg, hb, hcm, hcs, hnc, hlen, hrd⟩ := own_reads hown
    have hL : Ls w g cap l.toArray := ⟨cur, hg, hcs, by simpa using hnc, fun i hi => by
      have hi' : i < l.length := by simpa using hi
      rw [arr_get hi']
      exact hrd i _ (by simp [u32s, hi'])⟩
    refine (sort_any g cap l.length l.toArray w hL (by simp) hl).mono ?_
    rintro e w' ⟨rfl, d', ⟨hp1, hp2, hp3⟩, hs, ⟨⟨cur', hg', hcs', hds, hrd'⟩, hgr⟩⟩
    have hsz : d'.size = l.length := by simpa using hp1
    refine ⟨rfl, d'.toList, ?_, ?_, ?_, hgr⟩
    · have e1 : d'.extract 0 l.length = d' := by rw [← hsz]; simp
      have e2 : l.toArray.extract 0 l.length = l.toArray := by simp
      rw [e1, e2] at hp3
      simpa using hp3
    · intro i j hij hj
      have := hs i j (Nat.zero_le _) hij (by simpa [hsz] using hj)
      simpa [ltInt] using this
    · rw [show d'.toList.length = l.length by simpa using hsz]
      refine own_of_reads hg' hb hcm hcs' hnc (by rw [u32s_len]; simpa using hsz) fun j u hu => ?_
      rw [cell_of_row _ _ j _ 25 (0, 0) hg']
      have hj : j < d'.size := by
        have := (List.getElem?_eq_some_iff.1 hu).1
        simpa [u32s] using this
      rw [hrd' j hj]
      simp only [u32s, List.getElem?_map, Array.getElem?_toList, Array.getElem?_eq_getElem hj, Option.map_some, Option.some.injEq] at hu
      rw [← hu]; simp [hj]

/-- What slices.Compact leaves of an ordered row of the call's own. -/
def RetComp (base : Nat) (v : Value) (l : List Int) (w : World) (e : Ending) (w' : World) : Prop :=
  ∃ v' l', e = .returned v' ∧ l'.Pairwise (· < ·) ∧ (∀ x, x ∈ l' ↔ x ∈ l) ∧ l'.length ≤ l.length ∧ w'.ownsRow base 25 1 v' l'.length (u32s l') ∧ w.grownBy w' v.ownBlock
theorem mem_arr (l : List Int) (v : Int) : v ∈ l ↔ ∃ j, j < l.length ∧ l.toArray[j]! = v := by
  rw [List.mem_iff_getElem]
  constructor
  · rintro ⟨j, hj, rfl⟩; exact ⟨j, hj, arr_get hj⟩
  · rintro ⟨j, hj, rfl⟩; exact ⟨j, hj, (arr_get hj).symm⟩
theorem compactO_any (base : Nat) (v : Value) (l : List Int) (w : World) (hown : w.ownsRow base 25 1 v l.length (u32s l)) (hl : l.length ≤ 1000000) (hs : Srt l) : Calls Try.prog 28 #[v] w (RetComp base v l w) := by
  rcases (show v = .slice none 0 0 ∧ l.length = 0 ∨ ∃ g cap, v = .slice (some ⟨g, 0, none⟩) l.length cap from by
    rcases hown.2 with h | ⟨g, cap, cur, h, _⟩
    · exact .inl h
    · exact .inr ⟨g, cap, h⟩) with ⟨rfl, h0⟩ | ⟨g, cap, rfl⟩
  · obtain rfl : l = [] := List.eq_nil_of_length_eq_zero h0
    refine (compact_none w).mono ?_
    rintro e w' ⟨rfl, rfl⟩
    exact ⟨_, [], rfl, by simp, by simp, by simp, hown, grown_refl _ _⟩
  · obtain ⟨cur, hg, hb, hcm, hcs, hnc, hlen, hrd⟩ := own_reads hown
    obtain ⟨hp, hm⟩ := compact_up l.toArray hs l.toArray.size (Nat.le_refl _)
    have hH : Holds (Value.int .u32) w g 0 l.toArray := fun j hj => by
      have hj' : j < l.length := by simpa using hj
      rw [Nat.zero_add, arr_get hj']
      refine ⟨?_, by simp [World.frozen?, hg]⟩
      rw [cell_of_row _ _ j _ 25 (0, 0) hg]
      exact hrd j _ (by simp [u32s, hj'])
    have hc := Try.slices_Compact (α := Int) (.int .u32) (fun _ => rfl) (EqlAt.intD _ _ _) (NeqAt.intD _ _ _) 0 Try.zeroValue25 g 0 cap l.toArray w hH (by simp; omega) (by simpa using hnc)
    rw [show l.toArray.size = l.length by simp] at hc hp hm
    refine hc.mono ?_
    have hle : (compactUpTo l.toArray l.length).length ≤ l.length := by
      unfold compactUpTo
      rw [List.length_map]
      exact Nat.le_trans (List.length_filter_le _ _) (by simp)
    generalize compactUpTo l.toArray l.length = cl at *
    rintro e w' ⟨rfl, q, rfl⟩
    refine ⟨_, cl, rfl, hp, fun x => ?_, hle, ?_, ?_⟩
    · rw [hm, mem_arr]
    · have hput : (putRow (Value.int .u32) (Sort.ahead w q) g 0 (cl ++ List.replicate (l.length - cl.length) 0).toArray).heap[g]? = some (.cells (putCells (Value.int .u32) 0 (cl ++ List.replicate (l.length - cl.length) 0).toArray cur) 25 (0, 0)) := by
        simp [putRow, mapBlock, Sort.ahead, Array.getElem?_modify, hg, onCells]
      refine own_of_reads hput hb hcm (by simp [putCells, hcs]) (by omega) (u32s_len _) fun j u hu => ?_
      have hj : j < cl.length := by
        have := (List.getElem?_eq_some_iff.1 hu).1
        simpa [u32s] using this
      have := cell?_putRow (Value.int .u32) (Sort.ahead w q) g 0 l.toArray (cl ++ List.replicate (l.length - cl.length) 0).toArray (holds_ahead _ _ _ _ _ _ hH) (by simp; omega) j (by simp; omega)
      rw [Nat.zero_add] at this
      rw [this, arr_get (by simp; omega), List.getElem_append_left hj]
      simp only [u32s, List.getElem?_map, List.getElem?_eq_getElem hj, Option.map_some] at hu
      exact hu
    · refine ⟨rfl, rfl, rfl, by simp [Sort.ahead], fun k hk hne => ?_⟩
      have : k ≠ g := fun e => hne (by rw [e]; rfl)
      simp [putRow, mapBlock, Sort.ahead, Array.getElem?_modify, this.symm]
end Go.Proofs.Ytaaijgalminafaa
