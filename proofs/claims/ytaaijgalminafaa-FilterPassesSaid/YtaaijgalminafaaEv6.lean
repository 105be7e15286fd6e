import Derived.Test.YtaaijgalminafaaEv5
import Derived.Test.YtaaijgalminafaaSt
/-
  Layer 24: what passes of an event (f21) (printed by gen_ev6.py).
-/
namespace Go.Proofs.Ytaaijgalminafaa
open Go.RowKit

theorem bits_and1 (x : Nat) (hx : x < 256) : bits .and .u8 (x : Int) 1 = ((x % 2 : Nat) : Int) := by
  show IntKind.u8.wrap ((BitVec.ofInt 8 (x : Int) &&& BitVec.ofInt 8 1).toNat : Int) = _
  have h1 : (BitVec.ofInt 8 1).toNat = 1 := by decide
  rw [BitVec.toNat_and, BitVec.ofInt_natCast, BitVec.toNat_ofNat, h1, Nat.mod_eq_of_lt (by omega), Nat.and_one_is_mod, IntKind.wrap_u8]
  omega
theorem kind_bit (x n : Nat) (hx : x < 256) : (bits .and .u8 ((x : Int) / (n : Int)) 1 == 0) = !decide ((x : Int) / (n : Int) % 2 = 1) := by
  have e : (x : Int) / (n : Int) = ((x / n : Nat) : Int) := by simp
  rw [e, bits_and1 _ (Nat.lt_of_le_of_lt (Nat.div_le_self _ _) hx), Bool.eq_iff_iff]
  simp
  omega
/-- Does a kind pass? -/
def Fl.kind (f : Fl) (kd : Int) : Bool := decide (4 ≤ kd ∧ kd ≤ 7) && decide (f.kinds / 2 ^ (kd - 4).toNat % 2 = 1)
/-- What passes of an event, or the empty one; and whether anything does. -/
def evR (f : Fl) (e : Ev) : Ev × Bool :=
  if f.kind e.kd = false then (Ev.zero, false)
  else if e.kd = 7 then
    if e.refs.filter (fun r => f.oid r.oid) = [] then (Ev.zero, false) else ({ e with refs := e.refs.filter fun r => f.oid r.oid }, true)
  else if f.oid e.at_.oid then (e, true) else (Ev.zero, false)
def evP (f : Fl) (e : Ev) : Option Ev := if (evR f e).2 then some (evR f e).1 else none
/-- A call returned what passes of an event. -/
def RetEvB (K : Kd Ce) (f : Fl) (S : Nat → Prop) (e : Ev) (w : World) (en : Ending) (w' : World) : Prop :=
  ∃ y : Er, en = .returned (.tuple #[(KE K).v y, .bool (evR f e).2]) ∧ y.ev = (evR f e).1 ∧ ErAt K w' (Since S w.heap.size w') y ∧ Below w.heap.size w w'
theorem RetEvB.pass {K : Kd Ce} {f : Fl} {S : Nat → Prop} {x : Er} {w : World} : ∀ e w', RetEvB K f S x.ev w e w' → RetPass (KE K) Er.ev (evP f) S x w e w' := by
  rintro e w' ⟨y, rfl, h1, h2, h3⟩
  refine ⟨y, _, rfl, h2, h3, fun h => ?_, fun h => ?_⟩
  · unfold evP; rw [if_pos h, h1]
  · unfold evP; rw [h]; rfl
def refP (f : Fl) (r : Rf) : Option Rf := if f.oid r.oid then some r else none
theorem refP_all (f : Fl) (l : List Rf) : l.filterMap (refP f) = l.filter fun r => f.oid r.oid := by
  induction l with
  | nil => rfl
  | cons r l ih =>
    rw [List.filterMap_cons, List.filter_cons]
    by_cases h : f.oid r.oid = true
    · simp [refP, h, ih]
    · simp [refP, h, ih]
theorem eachRef_any (f : Fl) (A : Option Addr) (c : Nat) (r : Ro Rf) (S : Nat → Prop) (w : World) (hF : FlAt w w.heap.size f A c) (hl : f.oids.length ≤ 1000000) (hR : RoAt KF w S r) (hS : ∀ b, S b → b < w.heap.size) (hr : r.l.length ≤ 1000) :
    Calls Try.prog 37 #[r.v, .func (.func 38) #[f.v A c] #[]] w (RetRo KF S (r.l.filter fun r => f.oid r.oid) w) := by
  refine (eachF_any id (refP f) (f.v A c) r S w hR hS hr (fun x _ w1 hb _ => (ref_any f A c x w1 (hF.ext hb) hl).mono ?_)).mono ?_
  · rintro e w' ⟨rfl, hb'⟩
    refine ⟨x, _, rfl, trivial, hb', fun h => ?_, fun h => ?_⟩
    · simp [refP, h]
    · simp [refP, h]
  · rintro e w' ⟨ys, h1, _, h2⟩
    rw [List.map_id, List.map_id, refP_all] at h1
    rw [← h1]
    exact h2
theorem RetEv.opens {K : Kd Ce} {S : Nat → Prop} {kd oid ver old fl : Int} {l1 l2 : List Ce} {l3 : List Rf} {w w' : World} {e : Ending} (h : RetEv K S ⟨kd, ⟨oid, ver⟩, old, l1, l2, l3, fl⟩ w e w') :
    ∃ A1 c1 A2 c2 A3 c3, e = .returned (.agg #[.int .u8 kd, .int .u32 oid, .int .u32 ver, .int .u8 old, .slice A1 l1.length c1, .slice A2 l2.length c2, .slice A3 l3.length c3, .int .u8 fl]) ∧
      ErAt K w' (Since S w.heap.size w') ⟨kd, ⟨oid, ver⟩, old, ⟨l1, A1, c1⟩, ⟨l2, A2, c2⟩, ⟨l3, A3, c3⟩, fl⟩ ∧ Below w.heap.size w w' := by
  obtain ⟨⟨kd', ⟨oid', ver'⟩, old', ⟨l1', A1, c1⟩, ⟨l2', A2, c2⟩, ⟨l3', A3, c3⟩, fl'⟩, h1, rfl, h3, h4⟩ := h
  simp only [Er.ev, Ev.mk.injEq, Rf.mk.injEq] at h1
  obtain ⟨rfl, ⟨rfl, rfl⟩, rfl, rfl, rfl, rfl, rfl⟩ := h1
  exact ⟨A1, c1, A2, c2, A3, c3, rfl, h3, h4⟩
set_option maxRecDepth 100000 in
set_option maxHeartbeats 12800000 in
theorem event_any (f : Fl) (A : Option Addr) (c : Nat) (x : Er) (S : Nat → Prop) (w : World) (hF : FlAt w w.heap.size f A c) (hk0 : 0 ≤ f.kinds) (hk1 : f.kinds < 256) (hl : f.oids.length ≤ 1000000) (hx : ErAt KP w S x) (hS : ∀ b, S b → b < w.heap.size) (hs : x.ev.Sm)
    (hd0 : 0 ≤ x.kd) (hd1 : x.kd < 256) : Calls Try.prog 21 #[f.v A c, (KE KP).v x] w (RetEvB KP f S x.ev w) := by
  obtain ⟨kd, ⟨oid, ver⟩, old, ⟨l1, A1, c1⟩, ⟨l2, A2, c2⟩, ⟨l3, A3, c3⟩, fl⟩ := x
  obtain ⟨al, xs, kx, em⟩ := f
  simp only at hk0 hk1 hl hd0 hd1
  obtain ⟨kx, rfl⟩ := Int.eq_ofNat_of_zero_le hk0
  have HF := Lib.hid hF; have HX := Lib.hid hx; have HSm := Lib.hid hs
  clear hF hx hs hk0
  show Calls Try.prog 21 #[.agg #[.bool al, .slice A xs.length c, .int .u8 (kx : Int), .bool em], .agg #[.int .u8 kd, .int .u32 oid, .int .u32 ver, .int .u8 old, .slice A1 l1.length c1, .slice A2 l2.length c2, .slice A3 l3.length c3, .int .u8 fl]] w _
  obtain ⟨R, hR⟩ : ∃ R, RetEvB KP ⟨al, xs, (kx : Int), em⟩ S (Er.ev ⟨kd, ⟨oid, ver⟩, old, ⟨l1, A1, c1⟩, ⟨l2, A2, c2⟩, ⟨l3, A3, c3⟩, fl⟩) w = R := ⟨_, rfl⟩
  have HR := Lib.hid hR
  show Calls Try.prog 21 _ w (RetEvB KP ⟨al, xs, (kx : Int), em⟩ S (Er.ev ⟨kd, ⟨oid, ver⟩, old, ⟨l1, A1, c1⟩, ⟨l2, A2, c2⟩, ⟨l3, A3, c3⟩, fl⟩) w)
  rw [hR]
  clear hR
  go_enter Try.func21, Try.ntmps21
  go_upto_region 1 with fail
  generalize hW : World.alloc (World.alloc (World.alloc w _) _) _ = W
  obtain ⟨hb0, p0, p1, p2, hsz⟩ := alloc3 hW
  have HB := Lib.hid hb0; have P0 := Lib.hid p0; have P1 := Lib.hid p1; have P2 := Lib.hid p2
  have a0 : W.cell? ⟨w.heap.size, 0, none⟩ = some (.bool al) := cell_of_row _ _ 0 _ 28 (0, 0) p0
  have a1 : W.cell? ⟨w.heap.size, 1, none⟩ = some (.slice A xs.length c) := cell_of_row _ _ 1 _ 28 (0, 0) p0
  have a2 : W.cell? ⟨w.heap.size, 2, none⟩ = some (.int .u8 (kx : Int)) := cell_of_row _ _ 2 _ 28 (0, 0) p0
  have a3 : W.cell? ⟨w.heap.size, 3, none⟩ = some (.bool em) := cell_of_row _ _ 3 _ 28 (0, 0) p0
  have fza : ∀ i, W.frozen? ⟨w.heap.size, i, none⟩ = false := fun i => row_free p0 i
  have b0 : W.cell? ⟨(w.heap.size + 1), 0, none⟩ = some (.int .u8 kd) := cell_of_row _ _ 0 _ 61 (0, 0) p1
  have b1 : W.cell? ⟨(w.heap.size + 1), 1, none⟩ = some (.int .u32 oid) := cell_of_row _ _ 1 _ 61 (0, 0) p1
  have b2 : W.cell? ⟨(w.heap.size + 1), 2, none⟩ = some (.int .u32 ver) := cell_of_row _ _ 2 _ 61 (0, 0) p1
  have b3 : W.cell? ⟨(w.heap.size + 1), 3, none⟩ = some (.int .u8 old) := cell_of_row _ _ 3 _ 61 (0, 0) p1
  have b4 : W.cell? ⟨(w.heap.size + 1), 4, none⟩ = some (.slice A1 l1.length c1) := cell_of_row _ _ 4 _ 61 (0, 0) p1
  have b5 : W.cell? ⟨(w.heap.size + 1), 5, none⟩ = some (.slice A2 l2.length c2) := cell_of_row _ _ 5 _ 61 (0, 0) p1
  have b6 : W.cell? ⟨(w.heap.size + 1), 6, none⟩ = some (.slice A3 l3.length c3) := cell_of_row _ _ 6 _ 61 (0, 0) p1
  have b7 : W.cell? ⟨(w.heap.size + 1), 7, none⟩ = some (.int .u8 fl) := cell_of_row _ _ 7 _ 61 (0, 0) p1
  have fzb : ∀ i, W.frozen? ⟨(w.heap.size + 1), i, none⟩ = false := fun i => row_free p1 i
  clear hW hb0 p0 p1 p2 fza fzb
  have HFW := Lib.hid (HF.out.up HB.out (Nat.le_refl _) HB.out.size : FlAt W W.heap.size _ A c)
  have HXW := Lib.hid (HX.out.up (Same.below HB.out hS) (fun _ h => h) : ErAt KP W S _)
  obtain ⟨kb, hkb⟩ : ∃ kb, Fl.kind ⟨al, xs, (kx : Int), em⟩ kd = kb := ⟨_, rfl⟩
  have HKB := Lib.hid hkb
  clear hkb
  go_cut [24] (fun s24 wx => s24 = .bool (!kb) ∧ wx = W)
  case first =>
    by_cases h4 : kd < 4
    · have hd1 : decide (kd < 4) = true := decide_eq_true h4
      have hv : kb = false := by
        rw [← HKB.out]; unfold Fl.kind
        rw [decide_eq_false (by omega), Bool.false_and]
      subst hv
      go_wp2
      go_meet
      exact ⟨rfl, rfl⟩
    · by_cases h7 : 7 < kd
      · have hv : kb = false := by
          rw [← HKB.out]; unfold Fl.kind
          rw [decide_eq_false (by omega), Bool.false_and]
        subst hv
        go_wp2
        go_meet
        exact ⟨rfl, rfl⟩
      · have hv : Hid (kb = decide ((kx : Int) / 2 ^ (kd - 4).toNat % 2 = 1)) := by
          show _ = _
          rw [← HKB.out]; unfold Fl.kind
          rw [decide_eq_true (show 4 ≤ kd ∧ kd ≤ 7 by omega), Bool.true_and]
        rcases (show kd = 4 ∨ kd = 5 ∨ kd = 6 ∨ kd = 7 by omega) with rfl | rfl | rfl | rfl
        · go_wp2
          go_meet
          refine ⟨?_, rfl⟩
          rw [hv.out, show (2 : Int) ^ (4 - 4 : Int).toNat = ((1 : Nat) : Int) by decide, ← kind_bit kx 1 (by omega)]
          simp
        · go_wp2
          go_meet
          refine ⟨?_, rfl⟩
          rw [hv.out, show (2 : Int) ^ (5 - 4 : Int).toNat = ((2 : Nat) : Int) by decide, ← kind_bit kx 2 (by omega)]
          rfl
        · go_wp2
          go_meet
          refine ⟨?_, rfl⟩
          rw [hv.out, show (2 : Int) ^ (6 - 4 : Int).toNat = ((4 : Nat) : Int) by decide, ← kind_bit kx 4 (by omega)]
          rfl
        · go_wp2
          go_meet
          refine ⟨?_, rfl⟩
          rw [hv.out, show (2 : Int) ^ (7 - 4 : Int).toNat = ((8 : Nat) : Int) by decide, ← kind_bit kx 8 (by omega)]
          rfl
  case rest =>
    obtain ⟨rfl, rfl⟩ := hcut
    obtain ⟨W, rfl⟩ : ∃ W : World, W = wc := ⟨_, rfl⟩
    cases kb
    · have he : evR ⟨al, xs, (kx : Int), em⟩ (Er.ev ⟨kd, ⟨oid, ver⟩, old, ⟨l1, A1, c1⟩, ⟨l2, A2, c2⟩, ⟨l3, A3, c3⟩, fl⟩) = (Ev.zero, false) := by
        unfold evR
        exact if_pos HKB.out
      have q2 := P2.out
      have HB9 := Lib.hid (below_setRow HB.out (show w.heap.size ≤ w.heap.size + 1 + 1 by omega) (cs := #[.int .u8 0, .int .u32 0, .int .u32 0, .int .u8 0, .slice none 0 0, .slice none 0 0, .slice none 0 0, .int .u8 0]))
      have HH9 := Lib.hid (setRow_heap W (w.heap.size + 1 + 1) _ #[.int .u8 0, .int .u32 0, .int .u32 0, .int .u8 0, .slice none 0 0, .slice none 0 0, .slice none 0 0, .int .u8 0] 61 (0, 0) q2)
      have HS9 := Lib.hid (fun S (h : ¬ S (w.heap.size + 1 + 1)) => (Same.setRow h : Same S W (World.setRow W (w.heap.size + 1 + 1) #[.int .u8 0, .int .u32 0, .int .u32 0, .int .u8 0, .slice none 0 0, .slice none 0 0, .slice none 0 0, .int .u8 0])))
      have HZ9 := Lib.hid (size_setRow : (World.setRow W (w.heap.size + 1 + 1) #[.int .u8 0, .int .u32 0, .int .u32 0, .int .u8 0, .slice none 0 0, .slice none 0 0, .slice none 0 0, .int .u8 0]).heap.size = _)
      go_wp2_with (first | (refine wpList_store_row rfl 61 _ _ rfl (w.heap.size + 1 + 1) rfl #[.int .u8 0, .int .u32 0, .int .u32 0, .int .u8 0, .slice none 0 0, .slice none 0 0, .slice none 0 0, .int .u8 0] rfl _ 61 q2 (by kernel_rfl) rfl ((KE KP).one Er.zero) rfl ?_))
      generalize World.setRow W _ _ = w9 at *
      refine ⟨rfl, _, results_cell_row_tmp rfl _ w9 _ 61 _ (0, 0) _ rfl HH9.out Try.underlying61 rfl (by kernel_rfl), ?_⟩
      rw [← HR.out]
      unfold RetEvB
      rw [he]
      exact ⟨Er.zero, rfl, rfl, ErAt.zero, HB9.out⟩
    · have hSW : ∀ b, S b → b < W.heap.size := fun b h => Nat.lt_of_lt_of_le (hS b h) HB.out.size
      have b0 : W.cell? ⟨(w.heap.size + 1), 0, none⟩ = some (.int .u8 kd) := cell_of_row _ _ 0 _ 61 (0, 0) P1.out
      have b1 : W.cell? ⟨(w.heap.size + 1), 1, none⟩ = some (.int .u32 oid) := cell_of_row _ _ 1 _ 61 (0, 0) P1.out
      have b2 : W.cell? ⟨(w.heap.size + 1), 2, none⟩ = some (.int .u32 ver) := cell_of_row _ _ 2 _ 61 (0, 0) P1.out
      have b3 : W.cell? ⟨(w.heap.size + 1), 3, none⟩ = some (.int .u8 old) := cell_of_row _ _ 3 _ 61 (0, 0) P1.out
      have b4 : W.cell? ⟨(w.heap.size + 1), 4, none⟩ = some (.slice A1 l1.length c1) := cell_of_row _ _ 4 _ 61 (0, 0) P1.out
      have b5 : W.cell? ⟨(w.heap.size + 1), 5, none⟩ = some (.slice A2 l2.length c2) := cell_of_row _ _ 5 _ 61 (0, 0) P1.out
      have b6 : W.cell? ⟨(w.heap.size + 1), 6, none⟩ = some (.slice A3 l3.length c3) := cell_of_row _ _ 6 _ 61 (0, 0) P1.out
      have b7 : W.cell? ⟨(w.heap.size + 1), 7, none⟩ = some (.int .u8 fl) := cell_of_row _ _ 7 _ 61 (0, 0) P1.out
      have fzb : ∀ i, W.frozen? ⟨(w.heap.size + 1), i, none⟩ = false := fun i => row_free P1.out i
      go_wp2_with fail
      refine (copy_any ⟨kd, ⟨oid, ver⟩, old, ⟨l1, A1, c1⟩, ⟨l2, A2, c2⟩, ⟨l3, A3, c3⟩, fl⟩ S W HXW.out hSW HSm.out).mono ?_
      rintro e w2 h2
      change RetEv KP S ⟨kd, ⟨oid, ver⟩, old, l1, l2, l3, fl⟩ W _ _ at h2
      obtain ⟨D1, d1, D2, d2, D3, d3, rfl, hy, hb2⟩ := RetEv.opens h2
      clear h2 b0 b1 b2 b3 b4 b5 b6 b7 fzb
      go_upto_region 4 with fail
      generalize hw3 : World.alloc w2 _ = w3
      have h23 : Below w2.heap.size w2 w3 := by rw [← hw3]; exact (Below.refl _ w2).alloc (Nat.le_refl _) _
      have P6 := Lib.hid (show w3.heap[w2.heap.size]? = some (.cells #[.int .u8 kd, .int .u32 oid, .int .u32 ver, .int .u8 old, .slice D1 l1.length d1, .slice D2 l2.length d2, .slice D3 l3.length d3, .int .u8 fl] 61 (0, 0)) by rw [← hw3]; exact heap_alloc_new w2 _)
      have hz3 : w3.heap.size = w2.heap.size + 1 := by rw [← hw3]; simp
      have hW3 : Below W.heap.size W w3 := hb2.trans (h23.mono hb2.size)
      have HB3 := Lib.hid (HB.out.trans (hW3.mono HB.out.size))
      have r0 := (hW3.block _ (row_lt P0.out)).trans P0.out
      have r1 := (hW3.block _ (row_lt P1.out)).trans P1.out
      have r2 := Lib.hid ((hW3.block _ (row_lt P2.out)).trans P2.out)
      have hle2 := hb2.size
      have HY3 := Lib.hid (hy.up (Same.below h23 (Since.lt fun b h => Nat.lt_of_lt_of_le (hSW b h) hb2.size)) (fun _ h => h) : ErAt KP w3 (Since S W.heap.size w2) ⟨kd, ⟨oid, ver⟩, old, ⟨l1, D1, d1⟩, ⟨l2, D2, d2⟩, ⟨l3, D3, d3⟩, fl⟩)
      have HF3 := Lib.hid (HFW.out.ext hW3)
      have HX3 := Lib.hid (HXW.out.up (Same.below hW3 hSW) (fun _ h => h))
      have hS3 : ∀ b, S b → b < w3.heap.size := fun b h => Nat.lt_of_lt_of_le (hSW b h) hW3.size
      have a0 : w3.cell? ⟨w.heap.size, 0, none⟩ = some (.bool al) := cell_of_row _ _ 0 _ 28 (0, 0) r0
      have a1 : w3.cell? ⟨w.heap.size, 1, none⟩ = some (.slice A xs.length c) := cell_of_row _ _ 1 _ 28 (0, 0) r0
      have a2 : w3.cell? ⟨w.heap.size, 2, none⟩ = some (.int .u8 (kx : Int)) := cell_of_row _ _ 2 _ 28 (0, 0) r0
      have a3 : w3.cell? ⟨w.heap.size, 3, none⟩ = some (.bool em) := cell_of_row _ _ 3 _ 28 (0, 0) r0
      have fza : ∀ i, w3.frozen? ⟨w.heap.size, i, none⟩ = false := fun i => row_free r0 i
      have b0 : w3.cell? ⟨(w.heap.size + 1), 0, none⟩ = some (.int .u8 kd) := cell_of_row _ _ 0 _ 61 (0, 0) r1
      have b1 : w3.cell? ⟨(w.heap.size + 1), 1, none⟩ = some (.int .u32 oid) := cell_of_row _ _ 1 _ 61 (0, 0) r1
      have b2 : w3.cell? ⟨(w.heap.size + 1), 2, none⟩ = some (.int .u32 ver) := cell_of_row _ _ 2 _ 61 (0, 0) r1
      have b3 : w3.cell? ⟨(w.heap.size + 1), 3, none⟩ = some (.int .u8 old) := cell_of_row _ _ 3 _ 61 (0, 0) r1
      have b4 : w3.cell? ⟨(w.heap.size + 1), 4, none⟩ = some (.slice A1 l1.length c1) := cell_of_row _ _ 4 _ 61 (0, 0) r1
      have b5 : w3.cell? ⟨(w.heap.size + 1), 5, none⟩ = some (.slice A2 l2.length c2) := cell_of_row _ _ 5 _ 61 (0, 0) r1
      have b6 : w3.cell? ⟨(w.heap.size + 1), 6, none⟩ = some (.slice A3 l3.length c3) := cell_of_row _ _ 6 _ 61 (0, 0) r1
      have b7 : w3.cell? ⟨(w.heap.size + 1), 7, none⟩ = some (.int .u8 fl) := cell_of_row _ _ 7 _ 61 (0, 0) r1
      have fzb : ∀ i, w3.frozen? ⟨(w.heap.size + 1), i, none⟩ = false := fun i => row_free r1 i
      clear fza fzb hb2 hy h23 hW3 r0 r1
      clear hw3
      by_cases h7 : kd = 7
      · have h77 : (kd == 7) = true := beq_iff_eq.2 h7
        have H7 := Lib.hid h7; clear h7
        go_wp2_with fail
        refine (eachRef_any ⟨al, xs, (kx : Int), em⟩ A c ⟨l3, A3, c3⟩ S w3 HF3.out hl HX3.out.refs hS3 HSm.out.refs).mono ?_
        rintro e w4 ⟨D4, d4, rfl, hro, hb4⟩
        generalize hrs : l3.filter (fun r => Fl.oid ⟨al, xs, (kx : Int), em⟩ r.oid) = rs at *
        have HRS := Lib.hid hrs
        change RoAt KF w4 (Since S w3.heap.size w4) ⟨rs, D4, d4⟩ at hro
        have HRO := Lib.hid hro
        clear hro
        obtain ⟨w5, hw5⟩ : ∃ w5, w5 = w4.setCell ⟨w2.heap.size, 6, none⟩ (.slice D4 rs.length d4) := ⟨_, rfl⟩
        have P64 := (hb4.block _ (row_lt P6.out)).trans P6.out
        have c66 : w4.cell? ⟨w2.heap.size, 6, none⟩ = some (.slice D3 l3.length d3) := cell_of_row _ _ 6 _ 61 (0, 0) P64
        have f66 : w4.frozen? ⟨w2.heap.size, 6, none⟩ = false := row_free P64 6
        have P65 := Lib.hid (show w5.heap[w2.heap.size]? = some (.cells #[.int .u8 kd, .int .u32 oid, .int .u32 ver, .int .u8 old, .slice D1 l1.length d1, .slice D2 l2.length d2, .slice D4 rs.length d4, .int .u8 fl] 61 (0, 0)) by rw [hw5]; exact row_set P64 6 _)
        have r25 := Lib.hid (show w5.heap[w.heap.size + 1 + 1]? = some (.cells #[.int .u8 0, .int .u32 0, .int .u32 0, .int .u8 0, .slice none 0 0, .slice none 0 0, .slice none 0 0, .int .u8 0] 61 (0, 0)) by
          rw [hw5, Below.heap_setCell _ _ _ _ (by simp; omega)]; exact (hb4.block _ (row_lt r2.out)).trans r2.out)
        have HB5 := Lib.hid (show Below w.heap.size w w5 by rw [hw5]; exact (HB3.out.trans (hb4.mono HB3.out.size)).setCell (p := ⟨w2.heap.size, 6, none⟩) (by simp; omega) _)
        have HS5 := Lib.hid (fun S (h : ¬ S w2.heap.size) => (show Same S w4 w5 by rw [hw5]; exact Same.setCell (p := ⟨w2.heap.size, 6, none⟩) h _))
        have hz5 : w5.heap.size = w4.heap.size := by rw [hw5]; simp [World.setCell]
        have hle4 := hb4.size
        have HS4 := Lib.hid (Same.below hb4 (Since.lt hS3 (b0 := W.heap.size)))
        clear P64 hrs a0 a1 a2 a3 b0 b1 b2 b3 b4 b5 b6 b7
        go_upto_region 6 with fail
        rw [← hw5]
        clear c66 f66 hw5
        cases rs with
        | nil =>
          have he : evR ⟨al, xs, (kx : Int), em⟩ (Er.ev ⟨kd, ⟨oid, ver⟩, old, ⟨l1, A1, c1⟩, ⟨l2, A2, c2⟩, ⟨l3, A3, c3⟩, fl⟩) = (Ev.zero, false) := by
            unfold evR
            rw [if_neg (by rw [show (Er.ev ⟨kd, ⟨oid, ver⟩, old, ⟨l1, A1, c1⟩, ⟨l2, A2, c2⟩, ⟨l3, A3, c3⟩, fl⟩).kd = kd from rfl, HKB.out]; simp), if_pos (show (Er.ev ⟨kd, ⟨oid, ver⟩, old, ⟨l1, A1, c1⟩, ⟨l2, A2, c2⟩, ⟨l3, A3, c3⟩, fl⟩).kd = 7 from H7.out)]
            exact if_pos HRS.out
          have HE := Lib.hid he
          clear he
          have c65 : w5.cell? ⟨w2.heap.size, 6, none⟩ = some (.slice D4 0 d4) := cell_of_row _ _ 6 _ 61 (0, 0) P65.out
          have h0 : (([] : List Rf).length : Int) = 0 := rfl
          have q2 := r25.out
          have HB9 := Lib.hid (below_setRow HB5.out (show w.heap.size ≤ w.heap.size + 1 + 1 by omega) (cs := #[.int .u8 0, .int .u32 0, .int .u32 0, .int .u8 0, .slice none 0 0, .slice none 0 0, .slice none 0 0, .int .u8 0]))
          have HH9 := Lib.hid (setRow_heap w5 (w.heap.size + 1 + 1) _ #[.int .u8 0, .int .u32 0, .int .u32 0, .int .u8 0, .slice none 0 0, .slice none 0 0, .slice none 0 0, .int .u8 0] 61 (0, 0) q2)
          have HS9 := Lib.hid (fun S (h : ¬ S (w.heap.size + 1 + 1)) => (Same.setRow h : Same S w5 (World.setRow w5 (w.heap.size + 1 + 1) #[.int .u8 0, .int .u32 0, .int .u32 0, .int .u8 0, .slice none 0 0, .slice none 0 0, .slice none 0 0, .int .u8 0])))
          have HZ9 := Lib.hid (size_setRow : (World.setRow w5 (w.heap.size + 1 + 1) #[.int .u8 0, .int .u32 0, .int .u32 0, .int .u8 0, .slice none 0 0, .slice none 0 0, .slice none 0 0, .int .u8 0]).heap.size = _)
          go_wp2_with (first | (refine wpList_store_row rfl 61 _ _ rfl (w.heap.size + 1 + 1) rfl #[.int .u8 0, .int .u32 0, .int .u32 0, .int .u8 0, .slice none 0 0, .slice none 0 0, .slice none 0 0, .int .u8 0] rfl _ 61 q2 (by kernel_rfl) rfl ((KE KP).one Er.zero) rfl ?_))
          generalize World.setRow w5 _ _ = w9 at *
          refine ⟨rfl, _, results_cell_row_tmp rfl _ w9 _ 61 _ (0, 0) _ rfl HH9.out Try.underlying61 rfl (by kernel_rfl), ?_⟩
          rw [← HR.out]
          unfold RetEvB
          rw [HE.out]
          exact ⟨Er.zero, rfl, rfl, ErAt.zero, HB9.out⟩
        | cons q qs =>
          have he : evR ⟨al, xs, (kx : Int), em⟩ (Er.ev ⟨kd, ⟨oid, ver⟩, old, ⟨l1, A1, c1⟩, ⟨l2, A2, c2⟩, ⟨l3, A3, c3⟩, fl⟩) = (⟨kd, ⟨oid, ver⟩, old, l1, l2, q :: qs, fl⟩, true) := by
            unfold evR
            rw [if_neg (by rw [show (Er.ev ⟨kd, ⟨oid, ver⟩, old, ⟨l1, A1, c1⟩, ⟨l2, A2, c2⟩, ⟨l3, A3, c3⟩, fl⟩).kd = kd from rfl, HKB.out]; simp), if_pos (show (Er.ev ⟨kd, ⟨oid, ver⟩, old, ⟨l1, A1, c1⟩, ⟨l2, A2, c2⟩, ⟨l3, A3, c3⟩, fl⟩).kd = 7 from H7.out)]
            have h : (Er.ev ⟨kd, ⟨oid, ver⟩, old, ⟨l1, A1, c1⟩, ⟨l2, A2, c2⟩, ⟨l3, A3, c3⟩, fl⟩).refs.filter (fun r => Fl.oid ⟨al, xs, (kx : Int), em⟩ r.oid) = q :: qs := HRS.out
            rw [if_neg (by rw [h]; simp), h]
            rfl
          have HE := Lib.hid he
          clear he
          have c65 : w5.cell? ⟨w2.heap.size, 6, none⟩ = some (.slice D4 (q :: qs).length d4) := cell_of_row _ _ 6 _ 61 (0, 0) P65.out
          have hn0 : (((q :: qs).length : Int) == 0) = false := beq_eq_false_iff_ne.2 (by simp; omega)
          have nS : ∀ b, S b → b < w.heap.size := hS
          have n2 : ¬ Since S W.heap.size w2 (w.heap.size + 1 + 1) := fun h => h.elim (fun h => by have := nS _ h; omega) (fun h => by omega)
          have n4 : ¬ Since S w3.heap.size w4 (w.heap.size + 1 + 1) := fun h => h.elim (fun h => by have := nS _ h; omega) (fun h => by omega)
          have m4 : ¬ Since S w3.heap.size w4 w2.heap.size := fun h => h.elim (fun h => by have := nS _ h; omega) (fun h => by omega)
          have m2 : ¬ Since S W.heap.size w2 w2.heap.size := fun h => h.elim (fun h => by have := nS _ h; omega) (fun h => by omega)
          have HN2 := Lib.hid n2; have HN4 := Lib.hid n4; have HM4 := Lib.hid m4; have HM2 := Lib.hid m2
          clear n2 n4 m4 m2 nS
          generalize q :: qs = rs at *
          have q2 := r25.out
          have HB9 := Lib.hid (below_setRow HB5.out (show w.heap.size ≤ w.heap.size + 1 + 1 by omega) (cs := #[.int .u8 kd, .int .u32 oid, .int .u32 ver, .int .u8 old, .slice D1 l1.length d1, .slice D2 l2.length d2, .slice D4 rs.length d4, .int .u8 fl]))
          have HH9 := Lib.hid (setRow_heap w5 (w.heap.size + 1 + 1) _ #[.int .u8 kd, .int .u32 oid, .int .u32 ver, .int .u8 old, .slice D1 l1.length d1, .slice D2 l2.length d2, .slice D4 rs.length d4, .int .u8 fl] 61 (0, 0) q2)
          have HS9 := Lib.hid (fun S (h : ¬ S (w.heap.size + 1 + 1)) => (Same.setRow h : Same S w5 (World.setRow w5 (w.heap.size + 1 + 1) #[.int .u8 kd, .int .u32 oid, .int .u32 ver, .int .u8 old, .slice D1 l1.length d1, .slice D2 l2.length d2, .slice D4 rs.length d4, .int .u8 fl])))
          have HZ9 := Lib.hid (size_setRow : (World.setRow w5 (w.heap.size + 1 + 1) #[.int .u8 kd, .int .u32 oid, .int .u32 ver, .int .u8 old, .slice D1 l1.length d1, .slice D2 l2.length d2, .slice D4 rs.length d4, .int .u8 fl]).heap.size = _)
          go_wp2_with (first | (refine wpList_load_row rfl 61 _ rfl w2.heap.size rfl 61 #[.int .u8 kd, .int .u32 oid, .int .u32 ver, .int .u8 old, .slice D1 l1.length d1, .slice D2 l2.length d2, .slice D4 rs.length d4, .int .u8 fl] (0, 0) _ P65.out Try.underlying61 rfl (by kernel_rfl) ?_) | (refine wpList_store_row rfl 61 _ _ rfl (w.heap.size + 1 + 1) rfl #[.int .u8 kd, .int .u32 oid, .int .u32 ver, .int .u8 old, .slice D1 l1.length d1, .slice D2 l2.length d2, .slice D4 rs.length d4, .int .u8 fl] rfl _ 61 q2 (by kernel_rfl) rfl ((KE KP).one ⟨kd, ⟨oid, ver⟩, old, ⟨l1, D1, d1⟩, ⟨l2, D2, d2⟩, ⟨rs, D4, d4⟩, fl⟩) rfl ?_))
          generalize World.setRow w5 _ _ = w9 at *
          refine ⟨rfl, _, results_cell_row_tmp rfl _ w9 _ 61 _ (0, 0) _ rfl HH9.out Try.underlying61 rfl (by kernel_rfl), ?_⟩
          rw [← HR.out]
          unfold RetEvB
          rw [HE.out]
          have hz9 : w9.heap.size = w4.heap.size := HZ9.out.trans hz5
          have hq1 : Same (Since S W.heap.size w2) w3 w9 := ((HS4.out.less (Since.up (by omega))).trans (HS5.out _ HM2.out)).trans (HS9.out _ HN2.out)
          have hq2 : ∀ b, Since S W.heap.size w2 b → Since S w.heap.size w9 b := fun b h => h.imp id fun ⟨h1, h2⟩ => ⟨by omega, by omega⟩
          have hq3 : Same (Since S w3.heap.size w4) w4 w9 := (HS5.out _ HM4.out).trans (HS9.out _ HN4.out)
          have hq4 : ∀ b, Since S w3.heap.size w4 b → Since S w.heap.size w9 b := fun b h => h.imp id fun ⟨h1, h2⟩ => ⟨by omega, by omega⟩
          exact ⟨⟨kd, ⟨oid, ver⟩, old, ⟨l1, D1, d1⟩, ⟨l2, D2, d2⟩, ⟨rs, D4, d4⟩, fl⟩, rfl, rfl, ⟨HY3.out.bf.up hq1 hq2, HY3.out.af.up hq1 hq2, HRO.out.up hq3 hq4⟩, HB9.out⟩
      · have h77 : (kd == 7) = false := beq_eq_false_iff_ne.2 h7
        have H7 := Lib.hid h7; clear h7
        go_wp2_with fail
        refine (oid_any ⟨al, xs, (kx : Int), em⟩ A c oid w3 HF3.out hl).mono ?_
        rintro e w4 ⟨rfl, hb4⟩
        obtain ⟨ox, hox⟩ : ∃ ox, Fl.oid ⟨al, xs, (kx : Int), em⟩ oid = ox := ⟨_, rfl⟩
        have HOX := Lib.hid hox
        rw [hox]
        have P64 := Lib.hid ((hb4.block _ (row_lt P6.out)).trans P6.out)
        have r24 := Lib.hid ((hb4.block _ (row_lt r2.out)).trans r2.out)
        have HB4 := Lib.hid (HB3.out.trans (hb4.mono HB3.out.size))
        have HS4 := Lib.hid (Same.below hb4 (Since.lt hS3 (b0 := W.heap.size)))
        have hle4 := hb4.size
        have nS : ∀ b, S b → b < w.heap.size := hS
        have n2 : ¬ Since S W.heap.size w2 (w.heap.size + 1 + 1) := fun h => h.elim (fun h => by have := nS _ h; omega) (fun h => by omega)
        have HN2 := Lib.hid n2
        clear hox hb4 n2 nS a0 a1 a2 a3 b0 b1 b2 b3 b4 b5 b6 b7
        cases ox
        · have he : evR ⟨al, xs, (kx : Int), em⟩ (Er.ev ⟨kd, ⟨oid, ver⟩, old, ⟨l1, A1, c1⟩, ⟨l2, A2, c2⟩, ⟨l3, A3, c3⟩, fl⟩) = (Ev.zero, false) := by
            unfold evR
            rw [if_neg (by rw [show (Er.ev ⟨kd, ⟨oid, ver⟩, old, ⟨l1, A1, c1⟩, ⟨l2, A2, c2⟩, ⟨l3, A3, c3⟩, fl⟩).kd = kd from rfl, HKB.out]; simp), if_neg (show ¬ (Er.ev ⟨kd, ⟨oid, ver⟩, old, ⟨l1, A1, c1⟩, ⟨l2, A2, c2⟩, ⟨l3, A3, c3⟩, fl⟩).kd = 7 from H7.out)]
            exact if_neg (by rw [show Fl.oid ⟨al, xs, (kx : Int), em⟩ (Er.ev ⟨kd, ⟨oid, ver⟩, old, ⟨l1, A1, c1⟩, ⟨l2, A2, c2⟩, ⟨l3, A3, c3⟩, fl⟩).at_.oid = false from HOX.out]; simp)
          have HE := Lib.hid he
          clear he
          have q2 := r24.out
          have HB9 := Lib.hid (below_setRow HB4.out (show w.heap.size ≤ w.heap.size + 1 + 1 by omega) (cs := #[.int .u8 0, .int .u32 0, .int .u32 0, .int .u8 0, .slice none 0 0, .slice none 0 0, .slice none 0 0, .int .u8 0]))
          have HH9 := Lib.hid (setRow_heap w4 (w.heap.size + 1 + 1) _ #[.int .u8 0, .int .u32 0, .int .u32 0, .int .u8 0, .slice none 0 0, .slice none 0 0, .slice none 0 0, .int .u8 0] 61 (0, 0) q2)
          have HS9 := Lib.hid (fun S (h : ¬ S (w.heap.size + 1 + 1)) => (Same.setRow h : Same S w4 (World.setRow w4 (w.heap.size + 1 + 1) #[.int .u8 0, .int .u32 0, .int .u32 0, .int .u8 0, .slice none 0 0, .slice none 0 0, .slice none 0 0, .int .u8 0])))
          have HZ9 := Lib.hid (size_setRow : (World.setRow w4 (w.heap.size + 1 + 1) #[.int .u8 0, .int .u32 0, .int .u32 0, .int .u8 0, .slice none 0 0, .slice none 0 0, .slice none 0 0, .int .u8 0]).heap.size = _)
          go_wp2_with (first | (refine wpList_store_row rfl 61 _ _ rfl (w.heap.size + 1 + 1) rfl #[.int .u8 0, .int .u32 0, .int .u32 0, .int .u8 0, .slice none 0 0, .slice none 0 0, .slice none 0 0, .int .u8 0] rfl _ 61 q2 (by kernel_rfl) rfl ((KE KP).one Er.zero) rfl ?_))
          generalize World.setRow w4 _ _ = w9 at *
          refine ⟨rfl, _, results_cell_row_tmp rfl _ w9 _ 61 _ (0, 0) _ rfl HH9.out Try.underlying61 rfl (by kernel_rfl), ?_⟩
          rw [← HR.out]
          unfold RetEvB
          rw [HE.out]
          exact ⟨Er.zero, rfl, rfl, ErAt.zero, HB9.out⟩
        · have he : evR ⟨al, xs, (kx : Int), em⟩ (Er.ev ⟨kd, ⟨oid, ver⟩, old, ⟨l1, A1, c1⟩, ⟨l2, A2, c2⟩, ⟨l3, A3, c3⟩, fl⟩) = (⟨kd, ⟨oid, ver⟩, old, l1, l2, l3, fl⟩, true) := by
            unfold evR
            rw [if_neg (by rw [show (Er.ev ⟨kd, ⟨oid, ver⟩, old, ⟨l1, A1, c1⟩, ⟨l2, A2, c2⟩, ⟨l3, A3, c3⟩, fl⟩).kd = kd from rfl, HKB.out]; simp), if_neg (show ¬ (Er.ev ⟨kd, ⟨oid, ver⟩, old, ⟨l1, A1, c1⟩, ⟨l2, A2, c2⟩, ⟨l3, A3, c3⟩, fl⟩).kd = 7 from H7.out)]
            exact if_pos HOX.out
          have HE := Lib.hid he
          clear he
          have q2 := r24.out
          have HB9 := Lib.hid (below_setRow HB4.out (show w.heap.size ≤ w.heap.size + 1 + 1 by omega) (cs := #[.int .u8 kd, .int .u32 oid, .int .u32 ver, .int .u8 old, .slice D1 l1.length d1, .slice D2 l2.length d2, .slice D3 l3.length d3, .int .u8 fl]))
          have HH9 := Lib.hid (setRow_heap w4 (w.heap.size + 1 + 1) _ #[.int .u8 kd, .int .u32 oid, .int .u32 ver, .int .u8 old, .slice D1 l1.length d1, .slice D2 l2.length d2, .slice D3 l3.length d3, .int .u8 fl] 61 (0, 0) q2)
          have HS9 := Lib.hid (fun S (h : ¬ S (w.heap.size + 1 + 1)) => (Same.setRow h : Same S w4 (World.setRow w4 (w.heap.size + 1 + 1) #[.int .u8 kd, .int .u32 oid, .int .u32 ver, .int .u8 old, .slice D1 l1.length d1, .slice D2 l2.length d2, .slice D3 l3.length d3, .int .u8 fl])))
          have HZ9 := Lib.hid (size_setRow : (World.setRow w4 (w.heap.size + 1 + 1) #[.int .u8 kd, .int .u32 oid, .int .u32 ver, .int .u8 old, .slice D1 l1.length d1, .slice D2 l2.length d2, .slice D3 l3.length d3, .int .u8 fl]).heap.size = _)
          go_wp2_with (first | (refine wpList_load_row rfl 61 _ rfl w2.heap.size rfl 61 #[.int .u8 kd, .int .u32 oid, .int .u32 ver, .int .u8 old, .slice D1 l1.length d1, .slice D2 l2.length d2, .slice D3 l3.length d3, .int .u8 fl] (0, 0) _ P64.out Try.underlying61 rfl (by kernel_rfl) ?_) | (refine wpList_store_row rfl 61 _ _ rfl (w.heap.size + 1 + 1) rfl #[.int .u8 kd, .int .u32 oid, .int .u32 ver, .int .u8 old, .slice D1 l1.length d1, .slice D2 l2.length d2, .slice D3 l3.length d3, .int .u8 fl] rfl _ 61 q2 (by kernel_rfl) rfl ((KE KP).one ⟨kd, ⟨oid, ver⟩, old, ⟨l1, D1, d1⟩, ⟨l2, D2, d2⟩, ⟨l3, D3, d3⟩, fl⟩) rfl ?_))
          generalize World.setRow w4 _ _ = w9 at *
          refine ⟨rfl, _, results_cell_row_tmp rfl _ w9 _ 61 _ (0, 0) _ rfl HH9.out Try.underlying61 rfl (by kernel_rfl), ?_⟩
          rw [← HR.out]
          unfold RetEvB
          rw [HE.out]
          have hz9 : w9.heap.size = w4.heap.size := HZ9.out
          have hq1 : Same (Since S W.heap.size w2) w3 w9 := (HS4.out.less (Since.up (by omega))).trans (HS9.out _ HN2.out)
          have hq2 : ∀ b, Since S W.heap.size w2 b → Since S w.heap.size w9 b := fun b h => h.imp id fun ⟨h1, h2⟩ => ⟨by omega, by omega⟩
          exact ⟨⟨kd, ⟨oid, ver⟩, old, ⟨l1, D1, d1⟩, ⟨l2, D2, d2⟩, ⟨l3, D3, d3⟩, fl⟩, rfl, rfl, ⟨HY3.out.bf.up hq1 hq2, HY3.out.af.up hq1 hq2, HY3.out.refs.up hq1 hq2⟩, HB9.out⟩
end Go.Proofs.Ytaaijgalminafaa
