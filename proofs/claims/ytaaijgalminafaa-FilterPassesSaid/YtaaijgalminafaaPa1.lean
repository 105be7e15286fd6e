import Derived.Test.YtaaijgalminafaaCv8
/-
  Layer 24: what passes of a transaction (f17), of transactions (f14) (printed by gen_pa1.py).
-/
namespace Go.Proofs.Ytaaijgalminafaa
open Go.RowKit

def Tx.zero : Tx := ⟨0, 0, []⟩
def Tr.zero : Tr := ⟨0, 0, ⟨[], none, 0⟩⟩
/-- What passes of a transaction, or the empty one; and whether anything does. -/
def txR (f : Fl) (t : Tx) : Tx × Bool := if t.evs.filterMap (evP f) = [] ∧ f.empty = false then (Tx.zero, false) else (⟨t.xid, t.stamp, t.evs.filterMap (evP f)⟩, true)
def txP (f : Fl) (t : Tx) : Option Tx := if (txR f t).2 then some (txR f t).1 else none
/-- An event's kind is a byte, and it is small. -/
structure Ev.Ok (e : Ev) : Prop where
  sm : e.Sm
  k0 : 0 ≤ e.kd
  k1 : e.kd < 256
structure Tx.Ok (t : Tx) : Prop where
  n : t.evs.length ≤ 1000
  ev : ∀ e ∈ t.evs, e.Ok
theorem Tx.Ok.sm {t : Tx} (h : t.Ok) : t.Sm := ⟨h.n, fun e he => (h.ev e he).sm⟩
def RetTxB (K : Kd Ce) (f : Fl) (S : Nat → Prop) (t : Tx) (w : World) (en : Ending) (w' : World) : Prop :=
  ∃ y : Tr, en = .returned (.tuple #[(KT K).v y, .bool (txR f t).2]) ∧ y.tx = (txR f t).1 ∧ (KT K).at_ w' (Since S w.heap.size w') y ∧ Below w.heap.size w w'
theorem RetTxB.pass {K : Kd Ce} {f : Fl} {S : Nat → Prop} {x : Tr} {w : World} : ∀ e w', RetTxB K f S x.tx w e w' → RetPass (KT K) Tr.tx (txP f) S x w e w' := by
  rintro e w' ⟨y, rfl, h1, h2, h3⟩
  refine ⟨y, _, rfl, h2, h3, fun h => ?_, fun h => ?_⟩
  · unfold txP; rw [if_pos h, h1]
  · unfold txP; rw [h]; rfl
theorem eachEv_any (f : Fl) (A : Option Addr) (c : Nat) (r : Ro Er) (S : Nat → Prop) (w : World) (hF : FlAt w w.heap.size f A c) (hk0 : 0 ≤ f.kinds) (hk1 : f.kinds < 256) (hl : f.oids.length ≤ 1000000) (hR : RoAt (KE KP) w S r) (hS : ∀ b, S b → b < w.heap.size) (hr : r.l.length ≤ 1000)
    (hok : ∀ e ∈ r.l, (Er.ev e).Ok) : Calls Try.prog 33 #[r.v, .func (.func 21) #[f.v A c] #[]] w (RetEach (KE KP) Er.ev (evP f) S r.l w) :=
  eachE_any Er.ev (evP f) (f.v A c) r S w hR hS hr (fun x hx w1 hb hat => (event_any f A c x S w1 (hF.ext hb) hk0 hk1 hl hat (fun b h => Nat.lt_of_lt_of_le (hS b h) hb.size) (hok x hx).sm (hok x hx).k0 (hok x hx).k1).mono RetEvB.pass)
set_option maxRecDepth 100000 in
set_option maxHeartbeats 12800000 in
theorem tx_any (f : Fl) (A : Option Addr) (c : Nat) (x : Tr) (S : Nat → Prop) (w : World) (hF : FlAt w w.heap.size f A c) (hk0 : 0 ≤ f.kinds) (hk1 : f.kinds < 256) (hl : f.oids.length ≤ 1000000) (hx : (KT KP).at_ w S x) (hS : ∀ b, S b → b < w.heap.size) (hok : x.tx.Ok) :
    Calls Try.prog 17 #[f.v A c, (KT KP).v x] w (RetTxB KP f S x.tx w) := by
  obtain ⟨xid, stp, ⟨vs, Av, cv⟩⟩ := x
  obtain ⟨al, xs, kx, em⟩ := f
  simp only at hk0 hk1 hl
  have HF := Lib.hid hF; have HX := Lib.hid (hx : RoAt (KE KP) w S ⟨vs, Av, cv⟩); have HOk := Lib.hid hok
  clear hF hx hok
  obtain ⟨R, hR⟩ : ∃ R, RetTxB KP ⟨al, xs, kx, em⟩ S (Tr.tx ⟨xid, stp, ⟨vs, Av, cv⟩⟩) w = R := ⟨_, rfl⟩
  have HR := Lib.hid hR
  show Calls Try.prog 17 #[.agg #[.bool al, .slice A xs.length c, .int .u8 kx, .bool em], .agg #[.int .u32 xid, .int .u64 stp, .slice Av vs.length cv]] w (RetTxB KP ⟨al, xs, kx, em⟩ S (Tr.tx ⟨xid, stp, ⟨vs, Av, cv⟩⟩) w)
  rw [hR]
  clear hR
  go_enter Try.func17, Try.ntmps17
  go_upto_region 1 with fail
  generalize hW : World.alloc (World.alloc (World.alloc w _) _) _ = W
  obtain ⟨hb0, p0, p1, p2, hsz⟩ := alloc3 hW
  have HB := Lib.hid hb0; have P0 := Lib.hid p0; have P1 := Lib.hid p1; have P2 := Lib.hid p2
  have a0 : W.cell? ⟨w.heap.size, 0, none⟩ = some (.bool al) := cell_of_row _ _ 0 _ 28 (0, 0) p0
  have a1 : W.cell? ⟨w.heap.size, 1, none⟩ = some (.slice A xs.length c) := cell_of_row _ _ 1 _ 28 (0, 0) p0
  have a2 : W.cell? ⟨w.heap.size, 2, none⟩ = some (.int .u8 kx) := cell_of_row _ _ 2 _ 28 (0, 0) p0
  have a3 : W.cell? ⟨w.heap.size, 3, none⟩ = some (.bool em) := cell_of_row _ _ 3 _ 28 (0, 0) p0
  have fza : ∀ i, W.frozen? ⟨w.heap.size, i, none⟩ = false := fun i => row_free p0 i
  have b0 : W.cell? ⟨(w.heap.size + 1), 0, none⟩ = some (.int .u32 xid) := cell_of_row _ _ 0 _ 46 (0, 0) p1
  have b1 : W.cell? ⟨(w.heap.size + 1), 1, none⟩ = some (.int .u64 stp) := cell_of_row _ _ 1 _ 46 (0, 0) p1
  have b2 : W.cell? ⟨(w.heap.size + 1), 2, none⟩ = some (.slice Av vs.length cv) := cell_of_row _ _ 2 _ 46 (0, 0) p1
  have fzb : ∀ i, W.frozen? ⟨(w.heap.size + 1), i, none⟩ = false := fun i => row_free p1 i
  have HFW := Lib.hid (HF.out.up hb0 (Nat.le_refl _) hb0.size : FlAt W W.heap.size _ A c)
  have HXW := Lib.hid (HX.out.up (Same.below hb0 hS) (fun _ h => h))
  have hSW : ∀ b, S b → b < W.heap.size := fun b h => Nat.lt_of_lt_of_le (hS b h) hb0.size
  have hvl : vs.length ≤ 1000 := by have := HOk.out.n; simpa [Tr.tx] using this
  clear hW hb0 p0 p1 p2 fza fzb
  go_wp2_with fail
  refine (eachEv_any ⟨al, xs, kx, em⟩ A c ⟨vs, Av, cv⟩ S W HFW.out hk0 hk1 hl HXW.out hSW hvl (fun e he => HOk.out.ev _ (List.mem_map.2 ⟨e, he, rfl⟩))).mono ?_
  rintro e w4 ⟨es, hes, hel, D, d, rfl, hro, hb4⟩
  have HES := Lib.hid (show es.map Er.ev = (Tr.tx ⟨xid, stp, ⟨vs, Av, cv⟩⟩).evs.filterMap (evP ⟨al, xs, kx, em⟩) from hes)
  have HRO := Lib.hid hro
  have q0 := (hb4.block _ (row_lt P0.out)).trans P0.out
  have q1 := (hb4.block _ (row_lt P1.out)).trans P1.out
  have q2 := (hb4.block _ (row_lt P2.out)).trans P2.out
  have hle4 := hb4.size
  have c12 : w4.cell? ⟨w.heap.size + 1, 2, none⟩ = some (.slice Av vs.length cv) := cell_of_row _ _ 2 _ 46 (0, 0) q1
  have f12 : w4.frozen? ⟨w.heap.size + 1, 2, none⟩ = false := row_free q1 2
  obtain ⟨w5, hw5⟩ : ∃ w5, w5 = w4.setCell ⟨w.heap.size + 1, 2, none⟩ (.slice D es.length d) := ⟨_, rfl⟩
  have HQ1 := Lib.hid (show w5.heap[w.heap.size + 1]? = some (.cells #[.int .u32 xid, .int .u64 stp, .slice D es.length d] 46 (0, 0)) by rw [hw5]; exact row_set q1 2 _)
  have HQ2 := Lib.hid (show w5.heap[w.heap.size + 1 + 1]? = some (.cells #[.int .u32 0, .int .u64 0, .slice none 0 0] 46 (0, 0)) by rw [hw5, Below.heap_setCell _ _ _ _ (by simp)]; exact q2)
  have HQ0 := Lib.hid (show w5.heap[w.heap.size]? = some (.cells #[.bool al, .slice A xs.length c, .int .u8 kx, .bool em] 28 (0, 0)) by rw [hw5, Below.heap_setCell _ _ _ _ (by simp)]; exact q0)
  have HB5 := Lib.hid (show Below w.heap.size w w5 by rw [hw5]; exact (HB.out.trans (hb4.mono HB.out.size)).setCell (p := ⟨w.heap.size + 1, 2, none⟩) (by simp) _)
  have hz5 : w5.heap.size = w4.heap.size := by rw [hw5]; simp [World.setCell]
  have n1 : ¬ Since S W.heap.size w4 (w.heap.size + 1) := fun h => h.elim (fun h => by have := hS _ h; omega) (fun h => by omega)
  have n2 : ¬ Since S W.heap.size w4 (w.heap.size + 1 + 1) := fun h => h.elim (fun h => by have := hS _ h; omega) (fun h => by omega)
  have HS5 := Lib.hid (show Same (Since S W.heap.size w4) w4 w5 by rw [hw5]; exact Same.setCell (p := ⟨w.heap.size + 1, 2, none⟩) n1 _)
  have HN2 := Lib.hid n2
  clear hes hro hb4 q0 q1 q2 n1 n2 a0 a1 a2 a3 b0 b1 b2
  go_upto_region 2 with fail
  rw [← hw5]
  clear c12 f12 hw5
  have x2 : w5.cell? ⟨w.heap.size + 1, 2, none⟩ = some (.slice D es.length d) := cell_of_row _ _ 2 _ 46 (0, 0) HQ1.out
  have a3 : w5.cell? ⟨w.heap.size, 3, none⟩ = some (.bool em) := cell_of_row _ _ 3 _ 28 (0, 0) HQ0.out
  obtain ⟨np, hnp⟩ : ∃ np : Bool, np = (decide (es = []) && !em) := ⟨_, rfl⟩
  go_cut [20] (fun s20 wx => s20 = .bool np ∧ wx = w5)
  case first =>
    cases es with
    | nil =>
      cases em
      · go_wp2; go_meet; exact ⟨by rw [hnp]; rfl, rfl⟩
      · go_wp2; go_meet; exact ⟨by rw [hnp]; rfl, rfl⟩
    | cons q qs =>
      have hn0 : (((q :: qs).length : Int) == 0) = false := beq_eq_false_iff_ne.2 (by simp; omega)
      have hnp2 : Hid (np = false) := by show _ = _; rw [hnp]; simp
      generalize q :: qs = es at *
      clear hnp
      go_wp2; go_meet; exact ⟨by rw [hnp2.out], rfl⟩
  case rest =>
    obtain ⟨rfl, rfl⟩ := hcut
    obtain ⟨w5, rfl⟩ : ∃ w5 : World, w5 = wc := ⟨_, rfl⟩
    have hbo := Lib.hid hnp
    clear hnp
    cases np
    · have he : txR ⟨al, xs, kx, em⟩ (Tr.tx ⟨xid, stp, ⟨vs, Av, cv⟩⟩) = (⟨xid, stp, es.map Er.ev⟩, true) := by
        unfold txR
        rw [if_neg, ← HES.out]
        · rfl
        · rintro ⟨h1, h2⟩
          rw [← HES.out] at h1
          have h3 : es = [] := by simpa using h1
          have h4 : em = false := h2
          have := hbo.out
          rw [h3, h4] at this
          simp at this
      have HE := Lib.hid he; clear he
      have q2 := HQ2.out
      have HB9 := Lib.hid (below_setRow HB5.out (show w.heap.size ≤ w.heap.size + 1 + 1 by omega) (cs := #[.int .u32 xid, .int .u64 stp, .slice D es.length d]))
      have HH9 := Lib.hid (setRow_heap w5 (w.heap.size + 1 + 1) _ #[.int .u32 xid, .int .u64 stp, .slice D es.length d] 46 (0, 0) q2)
      have HS9 := Lib.hid (fun S (h : ¬ S (w.heap.size + 1 + 1)) => (Same.setRow h : Same S w5 (w5.setRow (w.heap.size + 1 + 1) #[.int .u32 xid, .int .u64 stp, .slice D es.length d])))
      have HZ9 := Lib.hid (size_setRow : (w5.setRow (w.heap.size + 1 + 1) #[.int .u32 xid, .int .u64 stp, .slice D es.length d]).heap.size = _)
      go_wp2_with (first | (refine wpList_load_row rfl 46 _ rfl (w.heap.size + 1) rfl 46 #[.int .u32 xid, .int .u64 stp, .slice D es.length d] (0, 0) _ HQ1.out Try.underlying46 rfl (by kernel_rfl) ?_) | (refine wpList_store_row rfl 46 _ _ rfl (w.heap.size + 1 + 1) rfl #[.int .u32 xid, .int .u64 stp, .slice D es.length d] rfl _ 46 q2 (by kernel_rfl) rfl ((KT KP).one ⟨xid, stp, ⟨es, D, d⟩⟩) rfl ?_))
      generalize w5.setRow _ _ = w9 at *
      refine ⟨rfl, _, results_cell_row_tmp rfl _ w9 _ 46 _ (0, 0) _ rfl HH9.out Try.underlying46 rfl (by kernel_rfl), ?_⟩
      rw [← HR.out]
      unfold RetTxB
      rw [HE.out]
      have hz9 : w9.heap.size = w4.heap.size := HZ9.out.trans hz5
      have hat : (KT KP).at_ w9 (Since S w.heap.size w9) ⟨xid, stp, ⟨es, D, d⟩⟩ := HRO.out.up (HS5.out.trans (HS9.out _ HN2.out)) fun b h => h.imp id fun ⟨h1, h2⟩ => ⟨by omega, by omega⟩
      exact ⟨⟨xid, stp, ⟨es, D, d⟩⟩, rfl, rfl, hat, HB9.out⟩
    · have he : txR ⟨al, xs, kx, em⟩ (Tr.tx ⟨xid, stp, ⟨vs, Av, cv⟩⟩) = (Tx.zero, false) := by
        have h1 := hbo.out.symm
        rw [Bool.and_eq_true, decide_eq_true_iff] at h1
        unfold txR
        rw [if_pos]
        exact ⟨by rw [← HES.out, h1.1]; rfl, by simpa using h1.2⟩
      have HE := Lib.hid he; clear he
      have q2 := HQ2.out
      have HB9 := Lib.hid (below_setRow HB5.out (show w.heap.size ≤ w.heap.size + 1 + 1 by omega) (cs := #[.int .u32 0, .int .u64 0, .slice none 0 0]))
      have HH9 := Lib.hid (setRow_heap w5 (w.heap.size + 1 + 1) _ #[.int .u32 0, .int .u64 0, .slice none 0 0] 46 (0, 0) q2)
      have HS9 := Lib.hid (fun S (h : ¬ S (w.heap.size + 1 + 1)) => (Same.setRow h : Same S w5 (w5.setRow (w.heap.size + 1 + 1) #[.int .u32 0, .int .u64 0, .slice none 0 0])))
      have HZ9 := Lib.hid (size_setRow : (w5.setRow (w.heap.size + 1 + 1) #[.int .u32 0, .int .u64 0, .slice none 0 0]).heap.size = _)
      go_wp2_with (first | (refine wpList_store_row rfl 46 _ _ rfl (w.heap.size + 1 + 1) rfl #[.int .u32 0, .int .u64 0, .slice none 0 0] rfl _ 46 q2 (by kernel_rfl) rfl ((KT KP).one Tr.zero) rfl ?_))
      generalize w5.setRow _ _ = w9 at *
      refine ⟨rfl, _, results_cell_row_tmp rfl _ w9 _ 46 _ (0, 0) _ rfl HH9.out Try.underlying46 rfl (by kernel_rfl), ?_⟩
      rw [← HR.out]
      unfold RetTxB
      rw [HE.out]
      exact ⟨Tr.zero, rfl, rfl, RoAt.nil, HB9.out⟩
theorem pass_any (f : Fl) (A : Option Addr) (c : Nat) (r : Ro Tr) (S : Nat → Prop) (w : World) (hF : FlAt w w.heap.size f A c) (hk0 : 0 ≤ f.kinds) (hk1 : f.kinds < 256) (hl : f.oids.length ≤ 1000000) (hR : RoAt (KT KP) w S r) (hS : ∀ b, S b → b < w.heap.size) (hr : r.l.length ≤ 1000)
    (hok : ∀ t ∈ r.l, (Tr.tx t).Ok) : Calls Try.prog 32 #[r.v, .func (.func 17) #[f.v A c] #[]] w (RetEach (KT KP) Tr.tx (txP f) S r.l w) :=
  eachT_any Tr.tx (txP f) (f.v A c) r S w hR hS hr (fun x hx w1 hb hat => (tx_any f A c x S w1 (hF.ext hb) hk0 hk1 hl hat (fun b h => Nat.lt_of_lt_of_le (hS b h) hb.size) (hok x hx)).mono RetTxB.pass)
set_option maxRecDepth 100000 in
set_option maxHeartbeats 6400000 in
/-- Pass: what passes of transactions. -/
theorem passes_any (f : Fl) (A : Option Addr) (c : Nat) (r : Ro Tr) (S : Nat → Prop) (w : World) (hF : FlAt w w.heap.size f A c) (hk0 : 0 ≤ f.kinds) (hk1 : f.kinds < 256) (hl : f.oids.length ≤ 1000000) (hR : RoAt (KT KP) w S r) (hS : ∀ b, S b → b < w.heap.size) (hr : r.l.length ≤ 1000)
    (hok : ∀ t ∈ r.l, (Tr.tx t).Ok) : Calls Try.prog 14 #[f.v A c, r.v] w (RetTxs KP S ((r.l.map Tr.tx).filterMap (txP f)) w) := by
  obtain ⟨l, A1, c1⟩ := r
  obtain ⟨al, xs, kx, em⟩ := f
  simp only at hk0 hk1 hl hr hok ⊢
  have HF := Lib.hid hF; have HR := Lib.hid hR; have HOk := Lib.hid hok
  clear hF hR hok
  show Calls Try.prog 14 #[.agg #[.bool al, .slice A xs.length c, .int .u8 kx, .bool em], .slice A1 l.length c1] w _
  have hb1 := (Below.refl _ w).alloc (Nat.le_refl _) (.cells #[.bool al, .slice A xs.length c, .int .u8 kx, .bool em] 28)
  have HF1 := Lib.hid (HF.out.up hb1 (Nat.le_refl _) hb1.size : FlAt _ _ ⟨al, xs, kx, em⟩ A c)
  have HR1 := Lib.hid (HR.out.up (Same.below hb1 hS) (fun _ h => h))
  have HB1 := Lib.hid hb1
  clear hb1
  go_enter Try.func14, Try.ntmps14
  go_wp2_with fail
  refine (pass_any ⟨al, xs, kx, em⟩ A c ⟨l, A1, c1⟩ S _ HF1.out hk0 hk1 hl HR1.out (fun b h => Nat.lt_of_lt_of_le (hS b h) HB1.out.size) hr HOk.out).mono ?_
  rintro e w2 ⟨ys, h1, h2, D, d, rfl, hro, hb2⟩
  have HRO := Lib.hid hro; have HB2 := Lib.hid hb2; have H1 := Lib.hid h1
  clear hro hb2 h1 h2
  go_wp2
  go_ret
  exact ⟨ys, H1.out, D, d, rfl, HRO.out.up (Same.refl _ _) (fun b h => h.imp id fun ⟨h1, h2⟩ => ⟨Nat.le_trans HB1.out.size h1, h2⟩), HB1.out.trans (HB2.out.mono HB1.out.size)⟩
end Go.Proofs.Ytaaijgalminafaa
