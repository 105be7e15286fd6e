import Derived.Deep.DeepCutAuto
import Derived.Test.YtaaijgalminafaaFi5
/-
  Layer 24: the reference's And (f25): the kinds.
-/
namespace Go.Proofs.Ytaaijgalminafaa
open Go.RowKit Mono
attribute [local go_sem] pureAt pureUpon
attribute [local irreducible] Mono.steps Mono.wpM

/-- The bits that both have, up to the k-th. -/
def bothN (a b k : Nat) : Nat := (a &&& b) % 2 ^ k
theorem bothN_succ (a b k : Nat) : bothN a b (k + 1) = bothN a b k + (if a / 2 ^ k % 2 = 1 ∧ b / 2 ^ k % 2 = 1 then 2 ^ k else 0) := by
  unfold bothN
  rw [Nat.mod_pow_succ]
  congr 1
  have h : (a &&& b) / 2 ^ k % 2 = if a / 2 ^ k % 2 = 1 ∧ b / 2 ^ k % 2 = 1 then 1 else 0 := by
    have h1 := Nat.testBit_and a b k
    simp only [Nat.testBit_eq_decide_div_mod_eq] at h1
    have h2 := Nat.mod_two_eq_zero_or_one ((a &&& b) / 2 ^ k)
    by_cases ha : a / 2 ^ k % 2 = 1 <;> by_cases hb : b / 2 ^ k % 2 = 1 <;> simp [ha, hb] at h1 ⊢ <;> omega
  rw [h]
  split <;> simp
theorem bothN_lt (a b k : Nat) : bothN a b k < 2 ^ k := Nat.mod_lt _ (Nat.two_pow_pos k)
theorem bothN_all (a b : Nat) (ha : a < 256) (hb : b < 256) : ((bothN a b 8 : Nat) : Int) = bits .and .u8 (a : Int) (b : Int) := by
  show _ = IntKind.u8.wrap ((BitVec.ofInt 8 (a : Int) &&& BitVec.ofInt 8 (b : Int)).toNat : Int)
  rw [BitVec.toNat_and, BitVec.ofInt_natCast, BitVec.ofInt_natCast, BitVec.toNat_ofNat, BitVec.toNat_ofNat, Nat.mod_eq_of_lt (a := a) (by omega), Nat.mod_eq_of_lt (a := b) (by omega), IntKind.wrap_u8]
  have h : a &&& b < 2 ^ 8 := Nat.and_lt_two_pow _ hb
  unfold bothN
  rw [Nat.mod_eq_of_lt h]
  omega
theorem tmod_bit (a k : Nat) : ((a : Int) / 2 ^ k).tmod 2 = ((a / 2 ^ k % 2 : Nat) : Int) := by
  have e : (a : Int) / 2 ^ k = ((a / 2 ^ k : Nat) : Int) := by simp
  rw [e]
  exact (Int.tmod_eq_emod_of_nonneg (Int.natCast_nonneg _)).trans (Int.natCast_emod _ 2).symm
/-- What stands while the reference's filter is made: all but block b is as in w5; b holds the filter to be. -/
structure AndR (w5 : World) (b : Nat) (al em : Bool) (kd : Int) (wr : World) (v : Value) (l : List Int) : Prop where
  g : w5.grownBy wr (some b)
  o : wr.heap[b]? = some (.cells #[.bool al, v, .int .u8 kd, .bool em] 24 (0, 0))
  own : wr.ownsRow w5.heap.size 25 1 v l.length (u32s l)
  lt : b < w5.heap.size
theorem AndR.later {w5 wr w' : World} {b : Nat} {al em : Bool} {kd : Int} {v : Value} {l : List Int} (h : AndR w5 b al em kd wr v l) (hb : Below wr.heap.size wr w') : AndR w5 b al em kd w' v l :=
  ⟨grown_trans h.g ⟨hb.os, hb.tape, hb.output, hb.size, fun k hk _ => hb.block k hk⟩, (hb.block b (row_lt h.o)).trans h.o, own_up h.own hb, h.lt⟩
theorem AndR.wrote {w5 wr w' : World} {b : Nat} {al em : Bool} {kd : Int} {v : Value} {l : List Int} (h : AndR w5 b al em kd wr v l) (hg : wr.grownBy w' v.ownBlock) :
    w5.grownBy w' (some b) ∧ w'.heap[b]? = some (.cells #[.bool al, v, .int .u8 kd, .bool em] 24 (0, 0)) := by
  have hge : ∀ k, v.ownBlock = some k → w5.heap.size ≤ k := fun k hk => (h.own.lt k hk).1
  refine ⟨⟨hg.os.trans h.g.os, hg.tape.trans h.g.tape, hg.output.trans h.g.output, Nat.le_trans h.g.size hg.size, fun k hk hne => ?_⟩, ?_⟩
  · rw [hg.block k (Nat.lt_of_lt_of_le hk h.g.size) (fun e => by have := hge k e.symm; omega)]
    exact h.g.block k hk hne
  · rw [hg.block b (row_lt h.o) (fun e => by have := hge b e.symm; have := h.lt; omega)]
    exact h.o
theorem AndR.put {w5 wr w' : World} {b : Nat} {al em : Bool} {kd : Int} {v v' : Value} {l l' : List Int} (h : AndR w5 b al em kd wr v l) (hg : wr.grownBy w' v.ownBlock) (hown : w'.ownsRow w5.heap.size 25 1 v' l'.length (u32s l')) :
    AndR w5 b al em kd (w'.setCell ⟨b, 1, none⟩ v') v' l' := by
  obtain ⟨h1, h2⟩ := h.wrote hg
  refine ⟨grown_trans h1 ⟨rfl, rfl, rfl, by simp [World.setCell], fun k _ hne => RowKit.Below.heap_setCell w' _ _ k (fun e => hne (by rw [e]))⟩, ?_, ownsRow_setCell_below hown (by have := h.lt; exact this) v', h.lt⟩
  exact row_set h2 1 v'
theorem AndR.kind {w5 wr : World} {b : Nat} {al em : Bool} {kd : Int} {v : Value} {l : List Int} (h : AndR w5 b al em kd wr v l) (kd' : Int) :
    AndR w5 b al em kd' (wr.setCell ⟨b, 2, none⟩ (.int .u8 kd')) v l :=
  ⟨grown_trans h.g ⟨rfl, rfl, rfl, by simp [World.setCell], fun k _ hne => RowKit.Below.heap_setCell wr _ _ k (fun e => hne (by rw [e]))⟩, row_set h.o 2 _, ownsRow_setCell_below h.own (by have := h.lt; exact this) _, h.lt⟩
theorem AndR.keep {w5 wr : World} {b : Nat} {al em : Bool} {kd : Int} {v : Value} {l : List Int} (h : AndR w5 b al em kd wr v l) {p : Addr} (hp : p.block < w5.heap.size) (hne : p.block ≠ b) : wr.cell? p = w5.cell? p :=
  World.cell?_of_block (h.g.block p.block hp (fun e => hne (by injection e)))
theorem AndR.rd {w5 wr : World} {b : Nat} {al em : Bool} {kd : Int} {v : Value} {l : List Int} (h : AndR w5 b al em kd wr v l) {B size n : Nat} {A : Option Addr} {xs : List Value} (hR : Rd w5 B size A n xs) (hB : B ≤ b) : Rd wr wr.heap.size size A n xs :=
  (hR.keep fun p hp => h.keep (by have := h.lt; omega) (by omega)).more (by have := h.lt; have := h.g.size; omega)
theorem AndR.box {w5 wr : World} {b : Nat} {al em : Bool} {kd : Int} {v : Value} {l : List Int} (h : AndR w5 b al em kd wr v l) {g : Nat} {o : Obj} (hg : w5.heap[g]? = some o) (hne : g ≠ b) : wr.heap[g]? = some o :=
  (h.g.block g (row_lt hg) (fun e => hne (by injection e))).trans hg

theorem alloc4 {w W : World} {o0 o1 o2 o3 : Obj} (h : (((w.alloc o0).alloc o1).alloc o2).alloc o3 = W) :
    Below w.heap.size w W ∧ W.heap[w.heap.size]? = some o0 ∧ W.heap[w.heap.size + 1]? = some o1 ∧ W.heap[w.heap.size + 1 + 1]? = some o2 ∧ W.heap[w.heap.size + 1 + 1 + 1]? = some o3 ∧ W.heap.size = w.heap.size + 1 + 1 + 1 + 1 := by
  obtain ⟨h1, h2, h3, h4, h5, _, h7⟩ := alloc5 (w := w) (o0 := o0) (o1 := o1) (o2 := o2) (o3 := o3) (o4 := o3) rfl
  subst h
  have hz : ((((w.alloc o0).alloc o1).alloc o2).alloc o3).heap.size = w.heap.size + 1 + 1 + 1 + 1 := by simp
  refine ⟨(((Below.refl _ w).alloc (Nat.le_refl _) _).alloc (by simp) _).alloc (by first | (simp; done) | (simp; omega)) _ |>.alloc (by first | (simp; done) | (simp; omega)) _, ?_, ?_, ?_, ?_, hz⟩
  · rwa [heap_alloc_old _ _ (by rw [hz]; omega)] at h2
  · rwa [heap_alloc_old _ _ (by rw [hz]; omega)] at h3
  · rwa [heap_alloc_old _ _ (by rw [hz]; omega)] at h4
  · rwa [heap_alloc_old _ _ (by rw [hz]; omega)] at h5

theorem wrap_nat (m : Nat) (h : m ≤ 1000000) : IntKind.i64.wrap (m : Int) = (m : Int) := by
  rw [IntKind.wrap_i64]; omega
def an9 (B : Nat) (n : Nat) (xs : List Value) : Nat → Option Fact
  | 0 => some (.litK B 0 #[] 25)
  | 3 => some (.own B 25 1 n xs)
  | _ => none
def an15 (x y : Bool) : Nat → Option Fact
  | 7 => some (.val (.bool x))
  | 15 => some (.val (.bool y))
  | _ => none
theorem bool_val {f : Nat → Option Fact} {k : Nat} {x z : Bool} {w : World} (hx : Hid (z = x)) (hf : f k = some (.val (.bool x))) : ∀ e w', RetB z w e w' → ∃ u, e = .returned u ∧ Ext w w' ∧ fxR f k u w' := by
  rintro e w' ⟨rfl, hb⟩
  refine ⟨_, rfl, hb, ?_⟩
  unfold fxR; rw [hf]
  show _ = _
  rw [hx.out]
/-- Is a number greater than all of these? -/
def aheadB (l : List Int) (o : Int) : Bool := l.all fun a => decide (a < o)
theorem aheadB_iff {l : List Int} {o : Int} : aheadB l o = true ↔ ∀ a ∈ l, a < o := by simp [aheadB]
theorem aheadB_last {l : List Int} {z o : Int} (h : (l ++ [z]).Pairwise (· < ·)) : aheadB (l ++ [z]) o = decide (z < o) := by
  rw [Bool.eq_iff_iff, aheadB_iff, decide_eq_true_iff]
  refine ⟨fun h2 => h2 z (by simp), fun h2 a ha => ?_⟩
  rcases List.mem_append.1 ha with h3 | h3
  · have := (List.pairwise_append.1 h).2.2 a h3 z (by simp)
    omega
  · obtain rfl : a = z := by simpa using h3
    exact h2
theorem countP_less {p q : Int → Bool} : ∀ (l : List Int), (∀ o ∈ l, q o = true → p o = true) → (∃ o ∈ l, p o = true ∧ q o = false) → l.countP q < l.countP p
  | [], _, h => by obtain ⟨o, h, _⟩ := h; cases h
  | a :: l, h, h2 => by
    have hle : l.countP q ≤ l.countP p := List.countP_mono_left fun o ho => h o (List.mem_cons_of_mem a ho)
    obtain ⟨o, ho, h3, h4⟩ := h2
    rw [List.countP_cons, List.countP_cons]
    rcases List.mem_cons.1 ho with rfl | ho
    · rw [h3, h4]; simp; omega
    · have := countP_less l (fun o ho => h o (List.mem_cons_of_mem a ho)) ⟨o, ho, h3, h4⟩
      have h5 := h a (by simp)
      by_cases hq : q a = true
      · rw [h5 hq, hq]; omega
      · rw [Bool.not_eq_true] at hq; rw [hq]; simp; omega
/-- How far the picking has come: l are the least that pass. -/
structure Pick (cc : List Int) (P : Int → Bool) (l : List Int) : Prop where
  up : l.Pairwise (· < ·)
  sub : ∀ o ∈ l, o ∈ cc ∧ P o = true
  all : ∀ o ∈ cc, P o = true → o ∈ l ∨ aheadB l o = true
  len : l.length + cc.countP (aheadB l) ≤ cc.length
theorem Pick.start (cc : List Int) (P : Int → Bool) : Pick cc P [] := ⟨List.Pairwise.nil, by simp, fun _ _ _ => .inr rfl, by simpa using List.countP_le_length⟩
theorem Pick.next {cc : List Int} {P : Int → Bool} {l : List Int} (h : Pick cc P l) {z : Int} (hz : z ∈ cc) (hp : P z = true) (ha : aheadB l z = true) (hl : ∀ o ∈ cc, P o = true → aheadB l o = true → z ≤ o) :
    Pick cc P (l ++ [z]) ∧ cc.countP (aheadB (l ++ [z])) < cc.countP (aheadB l) := by
  have hup : (l ++ [z]).Pairwise (· < ·) := List.pairwise_append.2 ⟨h.up, by simp, fun a h1 b h2 => by
    obtain rfl : b = z := by simpa using h2
    exact aheadB_iff.1 ha a h1⟩
  have hlt : cc.countP (aheadB (l ++ [z])) < cc.countP (aheadB l) := by
    refine countP_less cc (fun o _ ho => ?_) ⟨z, hz, ha, ?_⟩
    · rw [aheadB_iff] at ho ⊢
      exact fun a h1 => ho a (by simp [h1])
    · rw [aheadB_last hup]; simp
  refine ⟨⟨hup, fun o ho => ?_, fun o ho hpo => ?_, ?_⟩, hlt⟩
  · rcases List.mem_append.1 ho with h1 | h1
    · exact h.sub o h1
    · obtain rfl : o = z := by simpa using h1
      exact ⟨hz, hp⟩
  · rcases h.all o ho hpo with h1 | h1
    · exact .inl (by simp [h1])
    · have := hl o ho hpo h1
      rw [aheadB_last hup]
      rcases Int.lt_or_eq_of_le this with h2 | h2
      · exact .inr (decide_eq_true h2)
      · exact .inl (by simp [h2])
  · rw [List.length_append, List.length_singleton]
    have := h.len
    omega
theorem Pick.done {cc : List Int} {P : Int → Bool} {l : List Int} (h : Pick cc P l) (hn : ∀ o ∈ cc, P o = true → aheadB l o = false) : ∀ o, o ∈ l ↔ o ∈ cc ∧ P o = true := fun o =>
  ⟨h.sub o, fun ⟨h1, h2⟩ => (h.all o h1 h2).elim id fun h3 => by rw [hn o h1 h2] at h3; cases h3⟩
/-- How far one search for the least has come. -/
structure Seek (cc : List Int) (P : Int → Bool) (l : List Int) (j : Nat) (least : Int) (is : Bool) : Prop where
  yes : is = true → least ∈ cc ∧ P least = true ∧ aheadB l least = true
  low : ∀ i (h : i < cc.length), i < j → P cc[i] = true → aheadB l cc[i] = true → is = true ∧ least ≤ cc[i]
theorem Seek.start (cc : List Int) (P : Int → Bool) (l : List Int) : Seek cc P l 0 0 false := ⟨fun h => (by cases h), fun i _ h => absurd h (by omega)⟩
theorem Seek.pass {cc : List Int} {P : Int → Bool} {l : List Int} {j : Nat} {least : Int} {is : Bool} (h : Seek cc P l j least is) (hj : j < cc.length)
    (hn : (aheadB l cc[j] && P cc[j] && (!is || decide (cc[j] < least))) = false) : Seek cc P l (j + 1) least is := by
  refine ⟨h.yes, fun i hi hij hp ha => ?_⟩
  rcases Nat.lt_or_ge i j with h1 | h1
  · exact h.low i hi h1 hp ha
  · obtain rfl : i = j := by omega
    rw [hp, ha] at hn
    cases is
    · simp at hn
    · simp at hn; exact ⟨rfl, by omega⟩
theorem Seek.take {cc : List Int} {P : Int → Bool} {l : List Int} {j : Nat} {least : Int} {is : Bool} (h : Seek cc P l j least is) (hj : j < cc.length)
    (hn : (aheadB l cc[j] && P cc[j] && (!is || decide (cc[j] < least))) = true) : Seek cc P l (j + 1) cc[j] true := by
  rw [Bool.and_eq_true, Bool.and_eq_true] at hn
  obtain ⟨⟨h1, h2⟩, h3⟩ := hn
  refine ⟨fun _ => ⟨List.getElem_mem hj, h2, h1⟩, fun i hi hij hp ha => ⟨rfl, ?_⟩⟩
  rcases Nat.lt_or_ge i j with h4 | h4
  · obtain ⟨h5, h6⟩ := h.low i hi h4 hp ha
    rw [h5] at h3
    simp at h3
    omega
  · obtain rfl : i = j := by omega
    exact Int.le_refl _
set_option maxRecDepth 100000 in
set_option maxHeartbeats 60000000 in
theorem andR_any (al be ex ey : Bool) (xs ys : List Int) (kx ky : Nat) (A B : Option Addr) (c d : Nat) (w : World) (hX : FlAt w w.heap.size ⟨al, xs, kx, ex⟩ A c) (hY : FlAt w w.heap.size ⟨be, ys, ky, ey⟩ B d)
    (hkx : kx < 256) (hky : ky < 256) (hl1 : xs.length ≤ 500) (hl2 : ys.length ≤ 500) :
    Calls Try.prog 25 #[Fl.v ⟨al, xs, kx, ex⟩ A c, Fl.v ⟨be, ys, ky, ey⟩ B d] w fun e w' => ∃ r, RetFl r w e w' ∧ AndIs ⟨al, xs, kx, ex⟩ ⟨be, ys, ky, ey⟩ r := by
  obtain ⟨i0, hi, hz0, hz1, hz2⟩ := info_parts Try.info25
  have HX := Lib.hid hX; have HY := Lib.hid hY
  clear hX hY
  unfold Fl.v Fl.cells
  go_enter Try.func25, Try.ntmps25
  go_upto_region 1 with fail
  go_cut [5] (fun s5 wx => s5 = .pointer (some ⟨w.heap.size + 1 + 1 + 1, 0, none⟩) ∧ wx = (((w.alloc (.cells #[.bool al, .slice A xs.length c, .int .u8 (kx : Int), .bool ex] 24)).alloc (.cells #[.bool be, .slice B ys.length d, .int .u8 (ky : Int), .bool ey] 24)).alloc (.cells #[.bool false, .slice none 0 0, .int .u8 0, .bool false] 24)).alloc (.cells #[.bool (al && be), .slice none 0 0, .int .u8 0, .bool (ex && ey)] 24))
  case first =>
    cases al <;> cases ex <;> (go_wp2; go_meet; exact ⟨rfl, rfl⟩)
  case rest =>
    obtain ⟨rfl, rfl⟩ := hcut
    generalize hW : World.alloc (World.alloc (World.alloc (World.alloc w _) _) _) _ = W
    obtain ⟨hb0, p0, p1, p2, p3, hsz⟩ := alloc4 hW
    have HB := Lib.hid hb0; have P0 := Lib.hid p0; have P1 := Lib.hid p1; have P2 := Lib.hid p2
    have hJ0 := (⟨grown_refl _ _, p3, World.ownsRow_nil _ _ _ _, by omega⟩ : AndR W (w.heap.size + 1 + 1 + 1) _ _ _ W (.slice none 0 0) [])
    have HJ0 := Lib.hid hJ0
    clear hW hb0 p0 p1 p2 p3 hJ0
    generalize hal : (al && be) = al' at *
    generalize hem : (ex && ey) = em' at *
    have HAL := Lib.hid hal; have HEM := Lib.hid hem
    clear hal hem
    go_wp2
    go_loopw [6] (fun s6 wr => ∃ k : Nat, k ≤ 8 ∧ s6 = .int .u8 (k : Int) ∧ Hid (AndR W (w.heap.size + 1 + 1 + 1) al' em' (bothN kx ky k : Nat) wr (.slice none 0 0) [])) (fun s6 _ => 8 - (intOf s6).toNat)
    case atStart => exact ⟨0, by omega, rfl, by
      have : bothN kx ky 0 = 0 := by unfold bothN; simp [Nat.mod_one]
      show AndR _ _ _ _ _ _ _ _
      rw [this]; exact HJ0.out⟩
    case round =>
      obtain ⟨k, hk, rfl, hJ⟩ := hrel
      clear HJ0
      by_cases hlt : k < 8
      · have hd1 : (k : Int) < 8 := by omega
        have c02 : wr.cell? ⟨w.heap.size, 2, none⟩ = some (.int .u8 (kx : Int)) := cell_of_row _ _ 2 _ 24 (0, 0) (hJ.out.box P0.out (by omega))
        have c12 : wr.cell? ⟨w.heap.size + 1, 2, none⟩ = some (.int .u8 (ky : Int)) := cell_of_row _ _ 2 _ 24 (0, 0) (hJ.out.box P1.out (by omega))
        have c32 : wr.cell? ⟨w.heap.size + 1 + 1 + 1, 2, none⟩ = some (.int .u8 ((bothN kx ky k : Nat) : Int)) := cell_of_row _ _ 2 _ 24 (0, 0) hJ.out.o
        have f32 : wr.frozen? ⟨w.heap.size + 1 + 1 + 1, 2, none⟩ = false := row_free hJ.out.o 2
        have hsu := Lib.hid (bothN_succ kx ky k)
        have hbl := bothN_lt kx ky k
        have ex2 := tmod_bit kx k
        have ey2 := tmod_bit ky k
        by_cases hx1 : kx / 2 ^ k % 2 = 1
        · by_cases hy1 : ky / 2 ^ k % 2 = 1
          · have tx : (((kx : Int) / 2 ^ k).tmod 2 == 1) = true := by rw [ex2, hx1]; rfl
            have ty : (((ky : Int) / 2 ^ k).tmod 2 == 1) = true := by rw [ey2, hy1]; rfl
            have hs2 : Hid (bothN kx ky (k + 1) = bothN kx ky k + 2 ^ k) := by
              have := hsu.out
              rw [if_pos ⟨hx1, hy1⟩] at this
              exact this
            clear ex2 ey2 hx1 hy1 hsu
            have hval : Hid ((((bothN kx ky k : Nat) : Int) + 2 ^ k) % 256 = ((bothN kx ky (k + 1) : Nat) : Int)) := by
              show _ = _
              have h2 := hs2.out
              have h3 : bothN kx ky (k + 1) < 256 := Nat.lt_of_lt_of_le (bothN_lt kx ky (k + 1)) (Nat.pow_le_pow_right (by omega) (show k + 1 ≤ 8 by omega))
              have h4 : ((2 ^ k : Nat) : Int) = 2 ^ k := by simp
              rw [h2] at h3 ⊢
              rw [← h4]
              omega
            go_wp2
            go_roundw
            case rel => exact ⟨k + 1, by omega, by go_num, by rw [hval.out]; exact hJ.out.kind _⟩
            case measure => simp [intOf]; omega
          · have tx : (((kx : Int) / 2 ^ k).tmod 2 == 1) = true := by rw [ex2, hx1]; rfl
            have ty : (((ky : Int) / 2 ^ k).tmod 2 == 1) = false := by rw [ey2]; exact beq_eq_false_iff_ne.2 (by omega)
            have hs2 : Hid (bothN kx ky (k + 1) = bothN kx ky k) := by
              have := hsu.out
              rw [if_neg (fun h => hy1 h.2)] at this
              exact this
            clear ex2 ey2 hx1 hy1 hsu
            go_wp2
            go_roundw
            case rel => exact ⟨k + 1, by omega, by go_num, by show AndR _ _ _ _ _ _ _ _; rw [hs2.out]; exact hJ.out⟩
            case measure => simp [intOf]; omega
        · have tx : (((kx : Int) / 2 ^ k).tmod 2 == 1) = false := by rw [ex2]; exact beq_eq_false_iff_ne.2 (by omega)
          have hs2 : Hid (bothN kx ky (k + 1) = bothN kx ky k) := by
            have := hsu.out
            rw [if_neg (fun h => hx1 h.1)] at this
            exact this
          clear ex2 ey2 hx1 hsu
          go_wp2
          go_roundw
          case rel => exact ⟨k + 1, by omega, by go_num, by show AndR _ _ _ _ _ _ _ _; rw [hs2.out]; exact hJ.out⟩
          case measure => simp [intOf]; omega
      · obtain rfl : k = 8 := by omega
        have hb8 := bothN_all kx ky hkx hky
        rw [hb8] at hJ
        clear hb8
        have HJ := hJ
        clear hJ
        have c30 : wr.cell? ⟨w.heap.size + 1 + 1 + 1, 0, none⟩ = some (.bool al') := cell_of_row _ _ 0 _ 24 (0, 0) HJ.out.o
        have c31 : wr.cell? ⟨w.heap.size + 1 + 1 + 1, 1, none⟩ = some (.slice none 0 0) := cell_of_row _ _ 1 _ 24 (0, 0) HJ.out.o
        have c32 : wr.cell? ⟨w.heap.size + 1 + 1 + 1, 2, none⟩ = some (.int .u8 (bits .and .u8 (kx : Int) (ky : Int))) := cell_of_row _ _ 2 _ 24 (0, 0) HJ.out.o
        have c33 : wr.cell? ⟨w.heap.size + 1 + 1 + 1, 3, none⟩ = some (.bool em') := cell_of_row _ _ 3 _ 24 (0, 0) HJ.out.o
        have q2 := HJ.out.box P2.out (by omega)
        have c20 : wr.cell? ⟨w.heap.size + 1 + 1, 0, none⟩ = some (.bool false) := cell_of_row _ _ 0 _ 24 (0, 0) q2
        have c21 : wr.cell? ⟨w.heap.size + 1 + 1, 1, none⟩ = some (.slice none 0 0) := cell_of_row _ _ 1 _ 24 (0, 0) q2
        have c22 : wr.cell? ⟨w.heap.size + 1 + 1, 2, none⟩ = some (.int .u8 0) := cell_of_row _ _ 2 _ 24 (0, 0) q2
        have c23 : wr.cell? ⟨w.heap.size + 1 + 1, 3, none⟩ = some (.bool false) := cell_of_row _ _ 3 _ 24 (0, 0) q2
        have fz : ∀ i, wr.frozen? ⟨w.heap.size + 1 + 1, i, none⟩ = false := fun i => row_free q2 i
        have HQ2 := Lib.hid q2; clear q2
        cases al'
        · clear c32 c33 c20 c21 c22 c23 fz
          have HB1 := Lib.hid (HB.out.grown HJ.out.g HB.out.size (fun k hk => by injection hk with hk; omega))
          have Q0 := Lib.hid (HJ.out.box P0.out (by omega)); have Q1 := Lib.hid (HJ.out.box P1.out (by omega))
          have HO := Lib.hid HJ.out.o
          have hge : Hid (W.heap.size ≤ wr.heap.size) := HJ.out.g.size
          have hX1 := Lib.hid (HX.out.up HB1.out (Nat.le_refl _) HB1.out.size); have hY1 := Lib.hid (HY.out.up HB1.out (Nat.le_refl _) HB1.out.size)
          have hszr : w.heap.size + 1 + 1 + 1 + 1 ≤ wr.heap.size := by have := hge.out; omega
          clear HJ c31 hge
          go_wp2_with fail
          clear c30
          refine wp_region_fx_tail 6 (an9 wr.heap.size xs.length (u32s xs)) (by kernel_rfl) (by kernel_rfl) (by kernel_rfl) (by kernel_rfl) ?_
          refine wpM_eff rfl rfl (fun w9 hc9 _ => steps_litK rfl hc9.size (by go_simp)) ?_
          rintro v0 ⟨wq, hq⟩
          obtain ⟨g0, rfl, -, -⟩ : ∃ g, v0 = .slice (some ⟨g, 0, none⟩) 0 0 ∧ wr.heap.size ≤ g ∧ wq.heap[g]? = some (.cells #[] 25 (0, 0)) := hq
          clear wq
          repeat (first | (refine wpM_skip rfl ?_) | (refine wpM_all rfl rfl (fun K hK => ?_); go_simp; refine hK _ ?_; clear hK K))
          refine wpM_look (.slice A xs.length c) rfl rfl (fun w6 hc6 _ => ?_) ?_
          · have c0 : w6.cell? ⟨w.heap.size, 1, none⟩ = some (.slice A xs.length c) := by rw [hc6.cell (row_lt Q0.out)]; exact cell_of_row _ _ 1 _ 24 (0, 0) Q0.out
            go_simp
          refine wpM_eff rfl rfl (fun w9 hc9 hd => ?_) ?_
          · obtain ⟨g, e1, hg1, hg2⟩ : ∃ g, Value.slice (some ⟨g0, 0, none⟩) 0 0 = .slice (some ⟨g, 0, none⟩) 0 0 ∧ wr.heap.size ≤ g ∧ w9.heap[g]? = some (.cells #[] 25 (0, 0)) := hd ⟨0, .data⟩ (by simp) rfl
            injection e1 with e1 _ _
            injection e1 with e1
            injection e1 with e1 _ _
            subst e1
            exact steps_append_lit _ _ 22 rfl wr.heap.size 25 i0 (.int .u32 0) 1 4 Try.underlying22 hi hz0 hz1 hz2 rfl (by decide) hg2 hg1 rfl _ A xs.length c (u32s xs) rfl (hX1.out.rd.below hc9 (Nat.le_refl _)) (u32s_one _) (by simp only [maxLen]; omega) (by omega) hc9.size (fun v' w' h => h)
          rintro v3 ⟨wq, hq⟩
          obtain ⟨A3, c3, rfl, hc31, hc32, -⟩ := Rd.of_own (show wq.ownsRow wr.heap.size 25 1 v3 xs.length (u32s xs) from hq)
          clear hq wq
          repeat (first | (refine wpM_skip rfl ?_) | (refine wpM_all rfl rfl (fun K hK => ?_); go_simp; refine hK _ ?_; clear hK K))
          refine wpM_look (.slice B ys.length d) rfl rfl (fun w6 hc6 _ => ?_) ?_
          · have c0 : w6.cell? ⟨w.heap.size + 1, 1, none⟩ = some (.slice B ys.length d) := by rw [hc6.cell (row_lt Q1.out)]; exact cell_of_row _ _ 1 _ 24 (0, 0) Q1.out
            go_simp
          refine wpM_nil fun w10 hc10 hf => ?_
          have hown : w10.ownsRow wr.heap.size 25 1 (.slice A3 xs.length c3) xs.length (u32s xs) := hf 3
          clear hf
          show wpList _ _ _ [_, _] _ _
          have hY2 := hY1.out.rd.below hc10 (Nat.le_refl _)
          have hz10 := hc10.size
          go_wp2_with (at_builtin; refine wpList_append_rd rfl _ _ 22 rfl wr.heap.size 25 i0 (.int .u32 0) 1 4 Try.underlying22 hi hz0 hz1 hz2 rfl (by decide) _ _ _ rfl hown _ B ys.length d (u32s ys) rfl hY2 (u32s_one _) (by simp only [maxLen]; omega) (by omega) hz10 ?_)
          intro v7 w5 hown7 hg7
          have hb5 := own_base hown hc10 hg7 hz10
          have HB5 := Lib.hid (HB1.out.trans (hb5.mono HB1.out.size))
          have kp : ∀ g o, wr.heap[g]? = some o → w5.heap[g]? = some o := fun g o hg => (hb5.block g (row_lt hg)).trans hg
          have R0 := Lib.hid (kp _ _ Q0.out); have R1 := Lib.hid (kp _ _ Q1.out); have R2 := Lib.hid (kp _ _ HQ2.out)
          have HX5 := Lib.hid (hX1.out.ext hb5); have HY5 := Lib.hid (hY1.out.ext hb5)
          have hlen : (xs ++ ys).length = xs.length + ys.length := List.length_append
          have HCC := Lib.hid (show ∀ o, o ∈ xs ++ ys ↔ (o ∈ xs ∨ o ∈ ys) from fun o => List.mem_append)
          rw [← u32s_app, ← hlen] at hown7
          have hJ0 : AndR w5 (w.heap.size + 1 + 1 + 1) false em' _ w5 (.slice none 0 0) [] := ⟨grown_refl _ _, kp _ _ HO.out, World.ownsRow_nil _ _ _ _, row_lt (kp _ _ HO.out)⟩
          have HJ0 := Lib.hid hJ0
          have hszw : wr.heap.size ≤ w5.heap.size := hb5.size
          obtain ⟨A7, c7, rfl, hc71, hc72, -⟩ := Rd.of_own hown7
          have HO7 := Lib.hid hown7
          have hcl : (xs ++ ys).length ≤ 1000 := by omega
          have HLEN := Lib.hid hlen
          clear hown7 hJ0 hg7 hown hb5 kp hc10 hY2 hz10 Q0 Q1 HO HQ2 hX1 hY1 HB1 hlen hc31 hc32 HB P0 P1 P2
          generalize xs ++ ys = cc at *
          obtain ⟨P, hP⟩ : ∃ P : Int → Bool, ∀ o, P o = (Fl.oid ⟨al, xs, kx, ex⟩ o && Fl.oid ⟨be, ys, ky, ey⟩ o) := ⟨_, fun _ => rfl⟩
          have HP := Lib.hid hP; clear hP
          go_wp2
          go_loopg [8] (cc.countP (aheadB [])) (fun gk _ wq => ∃ (l : List Int) (v : Value), gk = cc.countP (aheadB l) ∧ Hid (AndR w5 (w.heap.size + 1 + 1 + 1) false em' (bits .and .u8 (kx : Int) (ky : Int)) wq v l) ∧ Hid (Pick cc P l))
          case atStart => exact ⟨[], _, rfl, HJ0, Pick.start cc P⟩
          case round =>
            obtain ⟨l, v, rfl, hJ, hK⟩ := hrel
            clear HJ0
            obtain ⟨wo, rfl⟩ : ∃ wo : World, wo = wr := ⟨_, rfl⟩
            go_wp2
            go_loopg [8, 9, 10] cc.length (fun gk s8 s9 s10 wi => ∃ (j : Nat) (least : Int) (is : Bool), j ≤ cc.length ∧ gk = cc.length - j ∧ s8 = .int .u32 least ∧ s9 = .bool is ∧ s10 = .int .i64 (j : Int) ∧ Hid (AndR w5 (w.heap.size + 1 + 1 + 1) false em' (bits .and .u8 (kx : Int) (ky : Int)) wi v l) ∧ Hid (Seek cc P l j least is))
            case atStart => exact ⟨0, 0, false, by omega, rfl, rfl, rfl, rfl, hJ, Seek.start cc P l⟩
            case round =>
              obtain ⟨j, least, is, hj, rfl, rfl, rfl, rfl, hJi, hS⟩ := hrel
              by_cases hlt : j < cc.length
              · have hd1 : (j : Int) < (cc.length : Int) := by omega
                obtain ⟨g7, cap7, e7, hg71, hg72⟩ := own_form HO7.out (by omega)
                injection e7 with e7 _ e7'
                subst e7 e7'
                have e5 : w5.cell? ⟨g7, j, none⟩ = some (.int .u32 cc[j]) := by
                  have := HO7.out.cells (g := g7) rfl j (.int .u32 cc[j]) (by simp [u32s, hlt])
                  rwa [add_plain, Nat.zero_add] at this
                have ei := (hJi.out.keep (p := ⟨g7, j, none⟩) hg72 (by simp; omega)).trans e5
                have ek := Lib.hid e5
                clear e5
                have HSp := Lib.hid (fun h => hS.out.pass hlt h)
                have HSt := Lib.hid (fun h => hS.out.take hlt h)
                generalize cc[j] = o at *
                obtain ⟨Av, cv, rfl, hcv1, hcv2, -⟩ := Rd.of_own hJi.out.own
                have o1 : wr.cell? ⟨w.heap.size + 1 + 1 + 1, 1, none⟩ = some (.slice Av l.length cv) := cell_of_row _ _ 1 _ 24 (0, 0) hJi.out.o
                have hup := hK.out.up
                go_upto_region 14 with fail
                go_cut [11] (fun s11 wx => s11 = .bool (aheadB l o) ∧ Hid (AndR w5 (w.heap.size + 1 + 1 + 1) false em' (bits .and .u8 (kx : Int) (ky : Int)) wx (.slice Av l.length cv) l))
                case first =>
                  -- BEGIN r14
                  rcases List.eq_nil_or_concat l with rfl | ⟨l0, z, rfl⟩
                  · go_quiet (fail)
                    go_wp2
                    go_meet
                    exact ⟨rfl, hJi.out.later (below_drewN (Below.refl _ _) _)⟩
                  · rw [List.concat_eq_append] at *
                    have hn : (l0 ++ [z]).length = l0.length + 1 := by simp
                    obtain ⟨gv, capv, ev, hgv1, hgv2⟩ := own_form hJi.out.own (by rw [hn]; omega)
                    injection ev with ev _ ev'
                    subst ev ev'
                    have cz : wr.cell? ⟨gv, l0.length, none⟩ = some (.int .u32 z) := by
                      have := hJi.out.own.cells (g := gv) rfl l0.length (.int .u32 z) (by simp [u32s])
                      rwa [add_plain, Nat.zero_add] at this
                    have hall := Lib.hid (aheadB_last (o := o) hup)
                    have hll : l0.length + 1 ≤ 1000 := by
                      have h1 := hK.out.len
                      rw [hn] at h1
                      omega
                    rw [hn] at o1
                    have hk0 : (((l0.length + 1 : Nat) : Int) == 0) = false := beq_eq_false_iff_ne.2 (by omega)
                    have hk1 : (l0.length : Int) < ((l0.length + 1 : Nat) : Int) := by omega
                    have HN := Lib.hid hn
                    clear hn
                    generalize l0.length = m at *
                    have b1 := row_lt hJi.out.o
                    have hwr := wrap_nat m (Nat.le_trans (Nat.le_of_succ_le hll) (by decide))
                    have hk2 : (m : Int) < (m : Int) + 1 := Int.lt_succ _
                    have b7 := Nat.lt_of_lt_of_le hg72 hJi.out.g.size
                    refine wp_region_fx (fun _ => none) (by kernel_rfl) (by kernel_rfl) ?_
                    repeat (first | (refine wpM_skip rfl ?_) | (refine wpM_all rfl rfl (fun K hK => ?_); go_simp; refine hK _ ?_; clear hK K))
                    refine wpM_look (.slice (some ⟨gv, 0, none⟩) (m + 1) cv) rfl rfl (fun w6 hc6 _ => ?_) ?_
                    · have c0 : w6.cell? ⟨w.heap.size + 1 + 1 + 1, 1, none⟩ = some (.slice (some ⟨gv, 0, none⟩) (m + 1) cv) := (hc6.cell b1).trans o1
                      go_simp
                    repeat (first | (refine wpM_skip rfl ?_) | (refine wpM_all rfl rfl (fun K hK => ?_); go_simp; refine hK _ ?_; clear hK K))
                    refine wpM_look (.int .u32 o) rfl rfl (fun w6 hc6 _ => ?_) ?_
                    · have c0 : w6.cell? ⟨g7, j, none⟩ = some (.int .u32 o) := (hc6.cell b7).trans ei
                      go_simp
                    repeat (first | (refine wpM_skip rfl ?_) | (refine wpM_all rfl rfl (fun K hK => ?_); go_simp; refine hK _ ?_; clear hK K))
                    refine wpM_look (.slice (some ⟨gv, 0, none⟩) (m + 1) cv) rfl rfl (fun w6 hc6 _ => ?_) ?_
                    · have c0 : w6.cell? ⟨w.heap.size + 1 + 1 + 1, 1, none⟩ = some (.slice (some ⟨gv, 0, none⟩) (m + 1) cv) := (hc6.cell b1).trans o1
                      go_simp
                    repeat (first | (refine wpM_skip rfl ?_) | (refine wpM_all rfl rfl (fun K hK => ?_); go_simp; refine hK _ ?_; clear hK K))
                    refine wpM_look (.slice (some ⟨gv, 0, none⟩) (m + 1) cv) rfl rfl (fun w6 hc6 _ => ?_) ?_
                    · have c0 : w6.cell? ⟨w.heap.size + 1 + 1 + 1, 1, none⟩ = some (.slice (some ⟨gv, 0, none⟩) (m + 1) cv) := (hc6.cell b1).trans o1
                      go_simp
                    repeat (first | (refine wpM_skip rfl ?_) | (refine wpM_all rfl rfl (fun K hK => ?_); go_simp; refine hK _ ?_; clear hK K))
                    refine wpM_look (.int .u32 z) rfl rfl (fun w6 hc6 _ => ?_) ?_
                    · have c0 : w6.cell? ⟨gv, m, none⟩ = some (.int .u32 z) := (hc6.cell hgv2).trans cz
                      go_simp
                    repeat (first | (refine wpM_skip rfl ?_) | (refine wpM_all rfl rfl (fun K hK => ?_); go_simp; refine hK _ ?_; clear hK K))
                    refine wpM_nil fun w10 hc10 _ => ?_
                    go_wp2
                    go_meet
                    have hk3 : ((m : Int) + 1 == 0) = false := beq_eq_false_iff_ne.2 (by omega)
                    exact ⟨by rw [hall.out, hk3, Bool.false_or], hJi.out.later hc10⟩
                  -- END r14
                case rest =>
                  obtain ⟨rfl, hJ2⟩ := hcut
                  clear o1 hJi
                  generalize hah : aheadB l o = ah at *
                  have HAH := Lib.hid hah; clear hah
                  obtain ⟨wi, rfl⟩ : ∃ wi : World, wi = wc := ⟨_, rfl⟩
                  have q0 := hJ2.out.box R0.out (by omega)
                  have q1 := hJ2.out.box R1.out (by omega)
                  have ei2 := (hJ2.out.keep (p := ⟨g7, j, none⟩) hg72 (by simp; omega)).trans ek.out
                  have b7 : g7 < wi.heap.size := Nat.lt_of_lt_of_le hg72 hJ2.out.g.size
                  have hX2 : FlAt wi wi.heap.size ⟨al, xs, kx, ex⟩ A c := ⟨hJ2.out.rd (HX.out.rd.below HB5.out (Nat.le_refl _)) (by omega), HX.out.le, HX.out.cm⟩
                  have hY2 : FlAt wi wi.heap.size ⟨be, ys, ky, ey⟩ B d := ⟨hJ2.out.rd (HY.out.rd.below HB5.out (Nat.le_refl _)) (by omega), HY.out.le, HY.out.cm⟩
                  go_wp2_with fail
                  go_cut [112] (fun s112 wx => s112 = .bool (ah && P o && (!is || decide (o < least))) ∧ Hid (AndR w5 (w.heap.size + 1 + 1 + 1) false em' (bits .and .u8 (kx : Int) (ky : Int)) wx (.slice Av l.length cv) l))
                  case first =>
                    -- BEGIN r15
                    obtain ⟨ox, hox⟩ : ∃ b, Fl.oid ⟨al, xs, kx, ex⟩ o = b := ⟨_, rfl⟩
                    obtain ⟨oy, hoy⟩ : ∃ b, Fl.oid ⟨be, ys, ky, ey⟩ o = b := ⟨_, rfl⟩
                    have HOX := Lib.hid hox; have HOY := Lib.hid hoy
                    clear hox hoy
                    cases ah
                    · skip
                      refine wp_region_fx (an15 ox oy) (by kernel_rfl) (by kernel_rfl) ?_
                      (refine wpM_norm (fun K hK => ?_); go_simp; refine hK _ ?_; clear hK K); repeat (first | (refine wpM_all rfl rfl (fun K hK => ?_); go_simp; refine hK _ ?_; clear hK K) | (refine wpM_skip rfl ?_; refine wpM_norm (fun K hK => ?_); go_simp; refine hK _ ?_; clear hK K))
                      refine wpM_nil fun w10 hc10 _ => ?_
                      go_wp2
                      go_meet
                      exact ⟨by rw [HP.out]; simp [HOX.out, HOY.out], hJ2.out.later hc10⟩
                    · cases ox
                      · skip
                        refine wp_region_fx (an15 false oy) (by kernel_rfl) (by kernel_rfl) ?_
                        (refine wpM_norm (fun K hK => ?_); go_simp; refine hK _ ?_; clear hK K); repeat (first | (refine wpM_all rfl rfl (fun K hK => ?_); go_simp; refine hK _ ?_; clear hK K) | (refine wpM_skip rfl ?_; refine wpM_norm (fun K hK => ?_); go_simp; refine hK _ ?_; clear hK K))
                        refine wpM_look (.agg #[.bool al, .slice A xs.length c, .int .u8 (kx : Int), .bool ex]) rfl rfl (fun w6 hc6 _ => ?_) ?_
                        · have c0 : w6.cell? ⟨w.heap.size, 0, none⟩ = some (.bool al) := cell_of_row _ _ 0 _ 24 (0, 0) (hc6.block _ (row_lt q0) |>.trans q0)
                          have c1 : w6.cell? ⟨w.heap.size, 1, none⟩ = some (.slice A xs.length c) := cell_of_row _ _ 1 _ 24 (0, 0) (hc6.block _ (row_lt q0) |>.trans q0)
                          have c2 : w6.cell? ⟨w.heap.size, 2, none⟩ = some (.int .u8 (kx : Int)) := cell_of_row _ _ 2 _ 24 (0, 0) (hc6.block _ (row_lt q0) |>.trans q0)
                          have c3 : w6.cell? ⟨w.heap.size, 3, none⟩ = some (.bool ex) := cell_of_row _ _ 3 _ 24 (0, 0) (hc6.block _ (row_lt q0) |>.trans q0)
                          go_simp
                        (refine wpM_norm (fun K hK => ?_); go_simp; refine hK _ ?_; clear hK K); repeat (first | (refine wpM_all rfl rfl (fun K hK => ?_); go_simp; refine hK _ ?_; clear hK K) | (refine wpM_skip rfl ?_; refine wpM_norm (fun K hK => ?_); go_simp; refine hK _ ?_; clear hK K))
                        refine wpM_look (.int .u32 o) rfl rfl (fun w6 hc6 _ => ?_) ?_
                        · have c0 : w6.cell? ⟨g7, j, none⟩ = some (.int .u32 o) := (hc6.cell b7).trans ei2
                          go_simp
                        (refine wpM_norm (fun K hK => ?_); go_simp; refine hK _ ?_; clear hK K); repeat (first | (refine wpM_all rfl rfl (fun K hK => ?_); go_simp; refine hK _ ?_; clear hK K) | (refine wpM_skip rfl ?_; refine wpM_norm (fun K hK => ?_); go_simp; refine hK _ ?_; clear hK K))
                        refine wpM_eff rfl rfl (fun w9 hc9 _ => steps_enter (oidR_any ⟨al, xs, kx, ex⟩ A c o w9 (hX2.ext hc9) (by simp only; omega)) (by go_simp; first | done | rfl | exact ⟨rfl, rfl⟩) (bool_val HOX rfl)) ?_
                        rintro v7 ⟨wq, hq⟩
                        obtain rfl : v7 = _ := hq
                        clear wq
                        (refine wpM_norm (fun K hK => ?_); go_simp; refine hK _ ?_; clear hK K); repeat (first | (refine wpM_all rfl rfl (fun K hK => ?_); go_simp; refine hK _ ?_; clear hK K) | (refine wpM_skip rfl ?_; refine wpM_norm (fun K hK => ?_); go_simp; refine hK _ ?_; clear hK K))
                        refine wpM_nil fun w10 hc10 _ => ?_
                        go_wp2
                        go_meet
                        exact ⟨by rw [HP.out]; simp [HOX.out, HOY.out], hJ2.out.later hc10⟩
                      · cases oy
                        · skip
                          refine wp_region_fx (an15 true false) (by kernel_rfl) (by kernel_rfl) ?_
                          (refine wpM_norm (fun K hK => ?_); go_simp; refine hK _ ?_; clear hK K); repeat (first | (refine wpM_all rfl rfl (fun K hK => ?_); go_simp; refine hK _ ?_; clear hK K) | (refine wpM_skip rfl ?_; refine wpM_norm (fun K hK => ?_); go_simp; refine hK _ ?_; clear hK K))
                          refine wpM_look (.agg #[.bool al, .slice A xs.length c, .int .u8 (kx : Int), .bool ex]) rfl rfl (fun w6 hc6 _ => ?_) ?_
                          · have c0 : w6.cell? ⟨w.heap.size, 0, none⟩ = some (.bool al) := cell_of_row _ _ 0 _ 24 (0, 0) (hc6.block _ (row_lt q0) |>.trans q0)
                            have c1 : w6.cell? ⟨w.heap.size, 1, none⟩ = some (.slice A xs.length c) := cell_of_row _ _ 1 _ 24 (0, 0) (hc6.block _ (row_lt q0) |>.trans q0)
                            have c2 : w6.cell? ⟨w.heap.size, 2, none⟩ = some (.int .u8 (kx : Int)) := cell_of_row _ _ 2 _ 24 (0, 0) (hc6.block _ (row_lt q0) |>.trans q0)
                            have c3 : w6.cell? ⟨w.heap.size, 3, none⟩ = some (.bool ex) := cell_of_row _ _ 3 _ 24 (0, 0) (hc6.block _ (row_lt q0) |>.trans q0)
                            go_simp
                          (refine wpM_norm (fun K hK => ?_); go_simp; refine hK _ ?_; clear hK K); repeat (first | (refine wpM_all rfl rfl (fun K hK => ?_); go_simp; refine hK _ ?_; clear hK K) | (refine wpM_skip rfl ?_; refine wpM_norm (fun K hK => ?_); go_simp; refine hK _ ?_; clear hK K))
                          refine wpM_look (.int .u32 o) rfl rfl (fun w6 hc6 _ => ?_) ?_
                          · have c0 : w6.cell? ⟨g7, j, none⟩ = some (.int .u32 o) := (hc6.cell b7).trans ei2
                            go_simp
                          (refine wpM_norm (fun K hK => ?_); go_simp; refine hK _ ?_; clear hK K); repeat (first | (refine wpM_all rfl rfl (fun K hK => ?_); go_simp; refine hK _ ?_; clear hK K) | (refine wpM_skip rfl ?_; refine wpM_norm (fun K hK => ?_); go_simp; refine hK _ ?_; clear hK K))
                          refine wpM_eff rfl rfl (fun w9 hc9 _ => steps_enter (oidR_any ⟨al, xs, kx, ex⟩ A c o w9 (hX2.ext hc9) (by simp only; omega)) (by go_simp; first | done | rfl | exact ⟨rfl, rfl⟩) (bool_val HOX rfl)) ?_
                          rintro v7 ⟨wq, hq⟩
                          obtain rfl : v7 = _ := hq
                          clear wq
                          (refine wpM_norm (fun K hK => ?_); go_simp; refine hK _ ?_; clear hK K); repeat (first | (refine wpM_all rfl rfl (fun K hK => ?_); go_simp; refine hK _ ?_; clear hK K) | (refine wpM_skip rfl ?_; refine wpM_norm (fun K hK => ?_); go_simp; refine hK _ ?_; clear hK K))
                          refine wpM_look (.agg #[.bool be, .slice B ys.length d, .int .u8 (ky : Int), .bool ey]) rfl rfl (fun w6 hc6 _ => ?_) ?_
                          · have c0 : w6.cell? ⟨w.heap.size + 1, 0, none⟩ = some (.bool be) := cell_of_row _ _ 0 _ 24 (0, 0) (hc6.block _ (row_lt q1) |>.trans q1)
                            have c1 : w6.cell? ⟨w.heap.size + 1, 1, none⟩ = some (.slice B ys.length d) := cell_of_row _ _ 1 _ 24 (0, 0) (hc6.block _ (row_lt q1) |>.trans q1)
                            have c2 : w6.cell? ⟨w.heap.size + 1, 2, none⟩ = some (.int .u8 (ky : Int)) := cell_of_row _ _ 2 _ 24 (0, 0) (hc6.block _ (row_lt q1) |>.trans q1)
                            have c3 : w6.cell? ⟨w.heap.size + 1, 3, none⟩ = some (.bool ey) := cell_of_row _ _ 3 _ 24 (0, 0) (hc6.block _ (row_lt q1) |>.trans q1)
                            go_simp
                          (refine wpM_norm (fun K hK => ?_); go_simp; refine hK _ ?_; clear hK K); repeat (first | (refine wpM_all rfl rfl (fun K hK => ?_); go_simp; refine hK _ ?_; clear hK K) | (refine wpM_skip rfl ?_; refine wpM_norm (fun K hK => ?_); go_simp; refine hK _ ?_; clear hK K))
                          refine wpM_look (.int .u32 o) rfl rfl (fun w6 hc6 _ => ?_) ?_
                          · have c0 : w6.cell? ⟨g7, j, none⟩ = some (.int .u32 o) := (hc6.cell b7).trans ei2
                            go_simp
                          (refine wpM_norm (fun K hK => ?_); go_simp; refine hK _ ?_; clear hK K); repeat (first | (refine wpM_all rfl rfl (fun K hK => ?_); go_simp; refine hK _ ?_; clear hK K) | (refine wpM_skip rfl ?_; refine wpM_norm (fun K hK => ?_); go_simp; refine hK _ ?_; clear hK K))
                          refine wpM_eff rfl rfl (fun w9 hc9 _ => steps_enter (oidR_any ⟨be, ys, ky, ey⟩ B d o w9 (hY2.ext hc9) (by simp only; omega)) (by go_simp; first | done | rfl | exact ⟨rfl, rfl⟩) (bool_val HOY rfl)) ?_
                          rintro v15 ⟨wq, hq⟩
                          obtain rfl : v15 = _ := hq
                          clear wq
                          (refine wpM_norm (fun K hK => ?_); go_simp; refine hK _ ?_; clear hK K); repeat (first | (refine wpM_all rfl rfl (fun K hK => ?_); go_simp; refine hK _ ?_; clear hK K) | (refine wpM_skip rfl ?_; refine wpM_norm (fun K hK => ?_); go_simp; refine hK _ ?_; clear hK K))
                          refine wpM_nil fun w10 hc10 _ => ?_
                          go_wp2
                          go_meet
                          exact ⟨by rw [HP.out]; simp [HOX.out, HOY.out], hJ2.out.later hc10⟩
                        · cases is
                          · skip
                            refine wp_region_fx (an15 true true) (by kernel_rfl) (by kernel_rfl) ?_
                            (refine wpM_norm (fun K hK => ?_); go_simp; refine hK _ ?_; clear hK K); repeat (first | (refine wpM_all rfl rfl (fun K hK => ?_); go_simp; refine hK _ ?_; clear hK K) | (refine wpM_skip rfl ?_; refine wpM_norm (fun K hK => ?_); go_simp; refine hK _ ?_; clear hK K))
                            refine wpM_look (.agg #[.bool al, .slice A xs.length c, .int .u8 (kx : Int), .bool ex]) rfl rfl (fun w6 hc6 _ => ?_) ?_
                            · have c0 : w6.cell? ⟨w.heap.size, 0, none⟩ = some (.bool al) := cell_of_row _ _ 0 _ 24 (0, 0) (hc6.block _ (row_lt q0) |>.trans q0)
                              have c1 : w6.cell? ⟨w.heap.size, 1, none⟩ = some (.slice A xs.length c) := cell_of_row _ _ 1 _ 24 (0, 0) (hc6.block _ (row_lt q0) |>.trans q0)
                              have c2 : w6.cell? ⟨w.heap.size, 2, none⟩ = some (.int .u8 (kx : Int)) := cell_of_row _ _ 2 _ 24 (0, 0) (hc6.block _ (row_lt q0) |>.trans q0)
                              have c3 : w6.cell? ⟨w.heap.size, 3, none⟩ = some (.bool ex) := cell_of_row _ _ 3 _ 24 (0, 0) (hc6.block _ (row_lt q0) |>.trans q0)
                              go_simp
                            (refine wpM_norm (fun K hK => ?_); go_simp; refine hK _ ?_; clear hK K); repeat (first | (refine wpM_all rfl rfl (fun K hK => ?_); go_simp; refine hK _ ?_; clear hK K) | (refine wpM_skip rfl ?_; refine wpM_norm (fun K hK => ?_); go_simp; refine hK _ ?_; clear hK K))
                            refine wpM_look (.int .u32 o) rfl rfl (fun w6 hc6 _ => ?_) ?_
                            · have c0 : w6.cell? ⟨g7, j, none⟩ = some (.int .u32 o) := (hc6.cell b7).trans ei2
                              go_simp
                            (refine wpM_norm (fun K hK => ?_); go_simp; refine hK _ ?_; clear hK K); repeat (first | (refine wpM_all rfl rfl (fun K hK => ?_); go_simp; refine hK _ ?_; clear hK K) | (refine wpM_skip rfl ?_; refine wpM_norm (fun K hK => ?_); go_simp; refine hK _ ?_; clear hK K))
                            refine wpM_eff rfl rfl (fun w9 hc9 _ => steps_enter (oidR_any ⟨al, xs, kx, ex⟩ A c o w9 (hX2.ext hc9) (by simp only; omega)) (by go_simp; first | done | rfl | exact ⟨rfl, rfl⟩) (bool_val HOX rfl)) ?_
                            rintro v7 ⟨wq, hq⟩
                            obtain rfl : v7 = _ := hq
                            clear wq
                            (refine wpM_norm (fun K hK => ?_); go_simp; refine hK _ ?_; clear hK K); repeat (first | (refine wpM_all rfl rfl (fun K hK => ?_); go_simp; refine hK _ ?_; clear hK K) | (refine wpM_skip rfl ?_; refine wpM_norm (fun K hK => ?_); go_simp; refine hK _ ?_; clear hK K))
                            refine wpM_look (.agg #[.bool be, .slice B ys.length d, .int .u8 (ky : Int), .bool ey]) rfl rfl (fun w6 hc6 _ => ?_) ?_
                            · have c0 : w6.cell? ⟨w.heap.size + 1, 0, none⟩ = some (.bool be) := cell_of_row _ _ 0 _ 24 (0, 0) (hc6.block _ (row_lt q1) |>.trans q1)
                              have c1 : w6.cell? ⟨w.heap.size + 1, 1, none⟩ = some (.slice B ys.length d) := cell_of_row _ _ 1 _ 24 (0, 0) (hc6.block _ (row_lt q1) |>.trans q1)
                              have c2 : w6.cell? ⟨w.heap.size + 1, 2, none⟩ = some (.int .u8 (ky : Int)) := cell_of_row _ _ 2 _ 24 (0, 0) (hc6.block _ (row_lt q1) |>.trans q1)
                              have c3 : w6.cell? ⟨w.heap.size + 1, 3, none⟩ = some (.bool ey) := cell_of_row _ _ 3 _ 24 (0, 0) (hc6.block _ (row_lt q1) |>.trans q1)
                              go_simp
                            (refine wpM_norm (fun K hK => ?_); go_simp; refine hK _ ?_; clear hK K); repeat (first | (refine wpM_all rfl rfl (fun K hK => ?_); go_simp; refine hK _ ?_; clear hK K) | (refine wpM_skip rfl ?_; refine wpM_norm (fun K hK => ?_); go_simp; refine hK _ ?_; clear hK K))
                            refine wpM_look (.int .u32 o) rfl rfl (fun w6 hc6 _ => ?_) ?_
                            · have c0 : w6.cell? ⟨g7, j, none⟩ = some (.int .u32 o) := (hc6.cell b7).trans ei2
                              go_simp
                            (refine wpM_norm (fun K hK => ?_); go_simp; refine hK _ ?_; clear hK K); repeat (first | (refine wpM_all rfl rfl (fun K hK => ?_); go_simp; refine hK _ ?_; clear hK K) | (refine wpM_skip rfl ?_; refine wpM_norm (fun K hK => ?_); go_simp; refine hK _ ?_; clear hK K))
                            refine wpM_eff rfl rfl (fun w9 hc9 _ => steps_enter (oidR_any ⟨be, ys, ky, ey⟩ B d o w9 (hY2.ext hc9) (by simp only; omega)) (by go_simp; first | done | rfl | exact ⟨rfl, rfl⟩) (bool_val HOY rfl)) ?_
                            rintro v15 ⟨wq, hq⟩
                            obtain rfl : v15 = _ := hq
                            clear wq
                            (refine wpM_norm (fun K hK => ?_); go_simp; refine hK _ ?_; clear hK K); repeat (first | (refine wpM_all rfl rfl (fun K hK => ?_); go_simp; refine hK _ ?_; clear hK K) | (refine wpM_skip rfl ?_; refine wpM_norm (fun K hK => ?_); go_simp; refine hK _ ?_; clear hK K))
                            refine wpM_nil fun w10 hc10 _ => ?_
                            go_wp2
                            go_meet
                            exact ⟨by rw [HP.out]; simp [HOX.out, HOY.out], hJ2.out.later hc10⟩
                          · skip
                            refine wp_region_fx (an15 true true) (by kernel_rfl) (by kernel_rfl) ?_
                            (refine wpM_norm (fun K hK => ?_); go_simp; refine hK _ ?_; clear hK K); repeat (first | (refine wpM_all rfl rfl (fun K hK => ?_); go_simp; refine hK _ ?_; clear hK K) | (refine wpM_skip rfl ?_; refine wpM_norm (fun K hK => ?_); go_simp; refine hK _ ?_; clear hK K))
                            refine wpM_look (.agg #[.bool al, .slice A xs.length c, .int .u8 (kx : Int), .bool ex]) rfl rfl (fun w6 hc6 _ => ?_) ?_
                            · have c0 : w6.cell? ⟨w.heap.size, 0, none⟩ = some (.bool al) := cell_of_row _ _ 0 _ 24 (0, 0) (hc6.block _ (row_lt q0) |>.trans q0)
                              have c1 : w6.cell? ⟨w.heap.size, 1, none⟩ = some (.slice A xs.length c) := cell_of_row _ _ 1 _ 24 (0, 0) (hc6.block _ (row_lt q0) |>.trans q0)
                              have c2 : w6.cell? ⟨w.heap.size, 2, none⟩ = some (.int .u8 (kx : Int)) := cell_of_row _ _ 2 _ 24 (0, 0) (hc6.block _ (row_lt q0) |>.trans q0)
                              have c3 : w6.cell? ⟨w.heap.size, 3, none⟩ = some (.bool ex) := cell_of_row _ _ 3 _ 24 (0, 0) (hc6.block _ (row_lt q0) |>.trans q0)
                              go_simp
                            (refine wpM_norm (fun K hK => ?_); go_simp; refine hK _ ?_; clear hK K); repeat (first | (refine wpM_all rfl rfl (fun K hK => ?_); go_simp; refine hK _ ?_; clear hK K) | (refine wpM_skip rfl ?_; refine wpM_norm (fun K hK => ?_); go_simp; refine hK _ ?_; clear hK K))
                            refine wpM_look (.int .u32 o) rfl rfl (fun w6 hc6 _ => ?_) ?_
                            · have c0 : w6.cell? ⟨g7, j, none⟩ = some (.int .u32 o) := (hc6.cell b7).trans ei2
                              go_simp
                            (refine wpM_norm (fun K hK => ?_); go_simp; refine hK _ ?_; clear hK K); repeat (first | (refine wpM_all rfl rfl (fun K hK => ?_); go_simp; refine hK _ ?_; clear hK K) | (refine wpM_skip rfl ?_; refine wpM_norm (fun K hK => ?_); go_simp; refine hK _ ?_; clear hK K))
                            refine wpM_eff rfl rfl (fun w9 hc9 _ => steps_enter (oidR_any ⟨al, xs, kx, ex⟩ A c o w9 (hX2.ext hc9) (by simp only; omega)) (by go_simp; first | done | rfl | exact ⟨rfl, rfl⟩) (bool_val HOX rfl)) ?_
                            rintro v7 ⟨wq, hq⟩
                            obtain rfl : v7 = _ := hq
                            clear wq
                            (refine wpM_norm (fun K hK => ?_); go_simp; refine hK _ ?_; clear hK K); repeat (first | (refine wpM_all rfl rfl (fun K hK => ?_); go_simp; refine hK _ ?_; clear hK K) | (refine wpM_skip rfl ?_; refine wpM_norm (fun K hK => ?_); go_simp; refine hK _ ?_; clear hK K))
                            refine wpM_look (.agg #[.bool be, .slice B ys.length d, .int .u8 (ky : Int), .bool ey]) rfl rfl (fun w6 hc6 _ => ?_) ?_
                            · have c0 : w6.cell? ⟨w.heap.size + 1, 0, none⟩ = some (.bool be) := cell_of_row _ _ 0 _ 24 (0, 0) (hc6.block _ (row_lt q1) |>.trans q1)
                              have c1 : w6.cell? ⟨w.heap.size + 1, 1, none⟩ = some (.slice B ys.length d) := cell_of_row _ _ 1 _ 24 (0, 0) (hc6.block _ (row_lt q1) |>.trans q1)
                              have c2 : w6.cell? ⟨w.heap.size + 1, 2, none⟩ = some (.int .u8 (ky : Int)) := cell_of_row _ _ 2 _ 24 (0, 0) (hc6.block _ (row_lt q1) |>.trans q1)
                              have c3 : w6.cell? ⟨w.heap.size + 1, 3, none⟩ = some (.bool ey) := cell_of_row _ _ 3 _ 24 (0, 0) (hc6.block _ (row_lt q1) |>.trans q1)
                              go_simp
                            (refine wpM_norm (fun K hK => ?_); go_simp; refine hK _ ?_; clear hK K); repeat (first | (refine wpM_all rfl rfl (fun K hK => ?_); go_simp; refine hK _ ?_; clear hK K) | (refine wpM_skip rfl ?_; refine wpM_norm (fun K hK => ?_); go_simp; refine hK _ ?_; clear hK K))
                            refine wpM_look (.int .u32 o) rfl rfl (fun w6 hc6 _ => ?_) ?_
                            · have c0 : w6.cell? ⟨g7, j, none⟩ = some (.int .u32 o) := (hc6.cell b7).trans ei2
                              go_simp
                            (refine wpM_norm (fun K hK => ?_); go_simp; refine hK _ ?_; clear hK K); repeat (first | (refine wpM_all rfl rfl (fun K hK => ?_); go_simp; refine hK _ ?_; clear hK K) | (refine wpM_skip rfl ?_; refine wpM_norm (fun K hK => ?_); go_simp; refine hK _ ?_; clear hK K))
                            refine wpM_eff rfl rfl (fun w9 hc9 _ => steps_enter (oidR_any ⟨be, ys, ky, ey⟩ B d o w9 (hY2.ext hc9) (by simp only; omega)) (by go_simp; first | done | rfl | exact ⟨rfl, rfl⟩) (bool_val HOY rfl)) ?_
                            rintro v15 ⟨wq, hq⟩
                            obtain rfl : v15 = _ := hq
                            clear wq
                            (refine wpM_norm (fun K hK => ?_); go_simp; refine hK _ ?_; clear hK K); repeat (first | (refine wpM_all rfl rfl (fun K hK => ?_); go_simp; refine hK _ ?_; clear hK K) | (refine wpM_skip rfl ?_; refine wpM_norm (fun K hK => ?_); go_simp; refine hK _ ?_; clear hK K))
                            refine wpM_look (.int .u32 o) rfl rfl (fun w6 hc6 _ => ?_) ?_
                            · have c0 : w6.cell? ⟨g7, j, none⟩ = some (.int .u32 o) := (hc6.cell b7).trans ei2
                              go_simp
                            (refine wpM_norm (fun K hK => ?_); go_simp; refine hK _ ?_; clear hK K); repeat (first | (refine wpM_all rfl rfl (fun K hK => ?_); go_simp; refine hK _ ?_; clear hK K) | (refine wpM_skip rfl ?_; refine wpM_norm (fun K hK => ?_); go_simp; refine hK _ ?_; clear hK K))
                            refine wpM_nil fun w10 hc10 _ => ?_
                            go_wp2
                            go_meet
                            exact ⟨by rw [HP.out]; simp [HOX.out, HOY.out], hJ2.out.later hc10⟩
                    -- END r15
                  case rest =>
                    obtain ⟨rfl, hJ3⟩ := hcut
                    have ei3 := (hJ3.out.keep (p := ⟨g7, j, none⟩) hg72 (by simp; omega)).trans ek.out
                    clear hJ2 ei2 q0 q1 hX2 hY2 ei
                    generalize (ah && P o && (!is || decide (o < least))) = cd at *
                    cases cd
                    · have hS2 := Lib.hid (HSp.out rfl)
                      go_wp2
                      go_roundg (cc.length - (j + 1))
                      case measure => omega
                      case rel => exact ⟨j + 1, least, is, by omega, rfl, rfl, rfl, by go_num, hJ3, hS2⟩
                    · have hS2 := Lib.hid (HSt.out rfl)
                      go_wp2
                      go_roundg (cc.length - (j + 1))
                      case measure => omega
                      case rel => exact ⟨j + 1, o, true, by omega, rfl, rfl, rfl, by go_num, hJ3, hS2⟩
              · obtain rfl : j = cc.length := by omega
                have HNone := Lib.hid (show is = false → ∀ o ∈ cc, P o = true → aheadB l o = false from fun h o ho hp => by
                  obtain ⟨i, hi, rfl⟩ := List.mem_iff_getElem.1 ho
                  cases h1 : aheadB l cc[i] with
                  | false => rfl
                  | true =>
                    have := (hS.out.low i hi hi hp h1).1
                    rw [h] at this; cases this)
                have HLow := Lib.hid (show is = true → ∀ o ∈ cc, P o = true → aheadB l o = true → least ≤ o from fun _ o ho hp h1 => by
                  obtain ⟨i, hi, rfl⟩ := List.mem_iff_getElem.1 ho
                  exact (hS.out.low i hi hi hp h1).2)
                have HYes := Lib.hid hS.out.yes
                obtain ⟨Av, cv, rfl, hcv1, hcv2, -⟩ := Rd.of_own hJi.out.own
                have hJ := hJi.out
                have o0 : wr.cell? ⟨w.heap.size + 1 + 1 + 1, 0, none⟩ = some (.bool false) := cell_of_row _ _ 0 _ 24 (0, 0) hJ.o
                have o1 : wr.cell? ⟨w.heap.size + 1 + 1 + 1, 1, none⟩ = some (.slice Av l.length cv) := cell_of_row _ _ 1 _ 24 (0, 0) hJ.o
                have o2 : wr.cell? ⟨w.heap.size + 1 + 1 + 1, 2, none⟩ = some (.int .u8 (bits .and .u8 (kx : Int) (ky : Int))) := cell_of_row _ _ 2 _ 24 (0, 0) hJ.o
                have o3 : wr.cell? ⟨w.heap.size + 1 + 1 + 1, 3, none⟩ = some (.bool em') := cell_of_row _ _ 3 _ 24 (0, 0) hJ.o
                have q2 := hJ.box R2.out (by omega)
                have c20 : wr.cell? ⟨w.heap.size + 1 + 1, 0, none⟩ = some (.bool false) := cell_of_row _ _ 0 _ 24 (0, 0) q2
                have c21 : wr.cell? ⟨w.heap.size + 1 + 1, 1, none⟩ = some (.slice none 0 0) := cell_of_row _ _ 1 _ 24 (0, 0) q2
                have c22 : wr.cell? ⟨w.heap.size + 1 + 1, 2, none⟩ = some (.int .u8 0) := cell_of_row _ _ 2 _ 24 (0, 0) q2
                have c23 : wr.cell? ⟨w.heap.size + 1 + 1, 3, none⟩ = some (.bool false) := cell_of_row _ _ 3 _ 24 (0, 0) q2
                have fz : ∀ i, wr.frozen? ⟨w.heap.size + 1 + 1, i, none⟩ = false := fun i => row_free q2 i
                have HQ2 := Lib.hid q2
                have hll := hK.out.len
                clear q2 hJ hS
                cases is
                · have how9 := ownsRow_setCell_below (ownsRow_setCell_below (ownsRow_setCell_below (ownsRow_setCell_below hJi.out.own (a := ⟨w.heap.size + 1 + 1, 0, none⟩) (by simp; omega) (.bool false)) (a := ⟨w.heap.size + 1 + 1, 1, none⟩) (by simp; omega) (.slice Av l.length cv)) (a := ⟨w.heap.size + 1 + 1, 2, none⟩) (by simp; omega) (.int .u8 (bits .and .u8 (kx : Int) (ky : Int)))) (a := ⟨w.heap.size + 1 + 1, 3, none⟩) (by simp; omega) (.bool em')
                  have hh9 := row_set (row_set (row_set (row_set HQ2.out 0 (.bool false)) 1 (.slice Av l.length cv)) 2 (.int .u8 (bits .and .u8 (kx : Int) (ky : Int)))) 3 (.bool em')
                  have hb9 := ((((HB5.out.grown hJi.out.g HB5.out.size (fun k hk => by injection hk with hk; omega)).setCell (p := ⟨w.heap.size + 1 + 1, 0, none⟩) (by simp; omega) (.bool false)).setCell (p := ⟨w.heap.size + 1 + 1, 1, none⟩) (by simp; omega) (.slice Av l.length cv)).setCell (p := ⟨w.heap.size + 1 + 1, 2, none⟩) (by simp; omega) (.int .u8 (bits .and .u8 (kx : Int) (ky : Int)))).setCell (p := ⟨w.heap.size + 1 + 1, 3, none⟩) (by simp; omega) (.bool em')
                  have HH := Lib.hid hh9; have HB9 := Lib.hid hb9; have HOW9 := Lib.hid how9
                  clear hh9 hb9 how9
                  go_wp2
                  generalize (((wr.setCell _ _).setCell _ _).setCell _ _).setCell _ _ = w9 at *
                  refine ⟨rfl, _, results_cell_row rfl _ w9 _ 24 _ (0, 0) _ rfl HH.out Try.underlying24 rfl (by kernel_rfl), ⟨false, l, _, _⟩, ⟨_, rfl, own_le HOW9.out HB5.out.size, HB9.out⟩, ?_⟩
                  refine ⟨HAL.out.symm, HEM.out.symm, rfl, ?_, (fun h => by cases h), hK.out.up, fun _ o => ?_⟩
                  · have := HLEN.out
                    show l.length ≤ xs.length + ys.length
                    omega
                  · show o ∈ l ↔ _
                    rw [hK.out.done (HNone.out (by trivial)), HCC.out, HP.out, Bool.and_eq_true]
                · obtain ⟨y1, y2, y3⟩ := HYes.out rfl
                  have HNx := Lib.hid (hK.out.next y1 y2 y3 (HLow.out rfl))
                  have hown := hJi.out.own
                  have hnews := cells_one (heap_alloc_new wr (.cells #[.int .u32 least] 25))
                  have hs7 := hJi.out.g.size
                  clear y1 y2 y3 c20 c21 c22 c23 fz o0 o2 o3
                  go_wp2_with (at_builtin; refine wpList_append_own _ rfl _ _ 22 rfl w5.heap.size 25 i0 (.int .u32 0) 1 4 Try.underlying22 hi hz0 hz1 hz2 rfl (by decide) _ _ _ rfl (hown.alloc _) ⟨wr.heap.size, 0, none⟩ 1 1 [.int .u32 least] rfl rfl hnews (by simp [Value.oneCell']) (by simp only [maxLen]; omega) (by omega) (by simp; omega) ?_)
                  intro v8 w8 hown8 hg8 _
                  obtain ⟨A8, c8, rfl, -, -, -⟩ := Rd.of_own hown8
                  have hown9 : w8.ownsRow w5.heap.size 25 1 (.slice A8 (l.length + 1) c8) (l ++ [least]).length (u32s (l ++ [least])) := by
                    rw [List.length_append, u32s_app]; exact hown8
                  have hJ8 := (hJi.out.later ((Below.refl _ wr).alloc (Nat.le_refl _) (.cells #[.int .u32 least] 25))).put hg8 hown9
                  have hw8 := ((hJi.out.later ((Below.refl _ wr).alloc (Nat.le_refl _) (.cells #[.int .u32 least] 25))).wrote hg8).2
                  have HJ8 := Lib.hid hJ8
                  have o8 : w8.cell? ⟨w.heap.size + 1 + 1 + 1, 1, none⟩ = some (.slice Av l.length cv) := cell_of_row _ _ 1 _ 24 (0, 0) hw8
                  have f8 : w8.frozen? ⟨w.heap.size + 1 + 1 + 1, 1, none⟩ = false := frozen_of_row _ _ _ _ 24 hw8
                  clear hown8 hown9 hown hg8 hnews hJ8 hw8 o1
                  go_wp2
                  go_roundg (cc.countP (aheadB (l ++ [least])))
                  case measure => exact HNx.out.2
                  case rel => exact ⟨l ++ [least], _, rfl, HJ8, HNx.out.1⟩
        · have hh9 := row_set (row_set (row_set (row_set HQ2.out 0 (.bool true)) 1 (.slice none 0 0)) 2 (.int .u8 (bits .and .u8 (kx : Int) (ky : Int)))) 3 (.bool em')
          have hb9 := ((((HB.out.grown HJ.out.g HB.out.size (fun k hk => by injection hk with hk; omega)).setCell (p := ⟨w.heap.size + 1 + 1, 0, none⟩) (by simp; omega) (.bool true)).setCell (p := ⟨w.heap.size + 1 + 1, 1, none⟩) (by simp; omega) (.slice none 0 0)).setCell (p := ⟨w.heap.size + 1 + 1, 2, none⟩) (by simp; omega) (.int .u8 (bits .and .u8 (kx : Int) (ky : Int)))).setCell (p := ⟨w.heap.size + 1 + 1, 3, none⟩) (by simp; omega) (.bool em')
          have HH := Lib.hid hh9; have HB9 := Lib.hid hb9
          clear hh9 hb9
          go_wp2
          generalize (((wr.setCell _ _).setCell _ _).setCell _ _).setCell _ _ = w9 at *
          refine ⟨rfl, _, results_cell_row rfl _ w9 _ 24 _ (0, 0) _ rfl HH.out Try.underlying24 rfl (by kernel_rfl), ⟨true, [], _, _⟩, ⟨.slice none 0 0, rfl, World.ownsRow_nil _ _ _ _, HB9.out⟩, ?_⟩
          exact ⟨HAL.out.symm, HEM.out.symm, rfl, Nat.zero_le _, fun _ => rfl, List.Pairwise.nil, fun h => by cases h⟩
end Go.Proofs.Ytaaijgalminafaa
