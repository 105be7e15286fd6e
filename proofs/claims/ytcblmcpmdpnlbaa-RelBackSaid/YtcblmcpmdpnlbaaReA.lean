/-
  Layer 8: Encode by its contract.
-/
import Derived.Test.YtcblmcpmdpnlbaaRe9
import Derived.Test.YtcblmcpmdpnlbaaFx
import Derived.IntWalk
namespace Go.Proofs.Ytcblmcpmdpnlbaa
open Go.RowKit Mono
attribute [local go_sem] pureAt pureUpon

/-- A column's last byte. -/
def Col.kind (c : Col) : Nat := (c.type + if c.key = true then 128 else 0) % 256
def colB (c : Col) : List UInt8 := textB c.name ++ [UInt8.ofNat c.kind]
def Rl.head (r : Rl) : List UInt8 := sevens r.oid ++ sevens r.ver ++ textB r.name ++ [UInt8.ofNat r.ident] ++ sevens r.cs.length
def Rl.bytes (r : Rl) : List UInt8 := r.head ++ r.cs.flatMap colB
def Rl.encB (r : Rl) : List UInt8 := if r.rightE = 0 then r.bytes else []

theorem colE_zero {c : Col} {ahead : List Col} (h : colE c ahead = 0) : namedB c.name = true ∧ hasName c.name ahead = false ∧ 1 ≤ c.type ∧ c.type ≤ 6 := by
  unfold colE at h
  by_cases h1 : namedB c.name = false
  · rw [if_pos h1] at h; omega
  · rw [if_neg h1] at h
    by_cases h2 : hasName c.name ahead = true
    · rw [if_pos h2] at h; omega
    · rw [if_neg h2] at h
      by_cases h3 : c.type < 1 ∨ 6 < c.type
      · rw [if_pos h3] at h; omega
      · exact ⟨by simpa using h1, by simpa using h2, by omega, by omega⟩
theorem colsE_zero : ∀ {l ahead : List Col}, colsE ahead l = 0 → ∀ o ∈ l, namedB o.name = true ∧ 1 ≤ o.type ∧ o.type ≤ 6
  | [], _, _ => by simp
  | c :: r, ahead, h => by
    rw [colsE_cons] at h
    by_cases h1 : colE c ahead = 0
    · rw [if_pos h1] at h
      intro o ho
      rcases List.mem_cons.1 ho with rfl | ho
      · have := colE_zero h1; exact ⟨this.1, this.2.2⟩
      · exact colsE_zero h o ho
    · rw [if_neg h1] at h; exact absurd h h1
theorem named_size {s : ByteArray} (h : namedB s = true) : s.size ≤ 31 := by
  unfold namedB at h; simp at h; omega
structure Rl.Ok (r : Rl) : Prop where
  oid : r.oid ≠ 0
  ver : r.ver ≠ 0
  name : namedB r.name = true
  ident : r.ident ≤ 2
  lo : 1 ≤ r.cs.length
  hi : r.cs.length ≤ 16
  cols : colsE [] r.cs = 0
  key : r.ident = 1 → keyedB r.cs = true
theorem Rl.ok_of {r : Rl} (h : r.rightE = 0) : r.Ok := by
  unfold Rl.rightE at h
  by_cases h1 : r.oid = 0 ∨ r.ver = 0
  · rw [if_pos h1] at h; omega
  rw [if_neg h1] at h
  by_cases h2 : namedB r.name = false
  · rw [if_pos h2] at h; omega
  rw [if_neg h2] at h
  by_cases h3 : 2 < r.ident
  · rw [if_pos h3] at h; omega
  rw [if_neg h3] at h
  by_cases h4 : r.cs.length < 1 ∨ 16 < r.cs.length
  · rw [if_pos h4] at h; omega
  rw [if_neg h4] at h
  by_cases h5 : colsE [] r.cs ≠ 0
  · rw [if_pos h5] at h; exact absurd h h5
  rw [if_neg h5] at h
  by_cases h6 : r.ident = 1 ∧ keyedB r.cs = false
  · rw [if_pos h6] at h; omega
  exact ⟨fun e => h1 (.inl e), fun e => h1 (.inr e), by simpa using h2, by omega, by omega, by omega, by simpa using h5, fun e => by
    cases hk : keyedB r.cs with
    | true => rfl
    | false => exact absurd ⟨e, hk⟩ h6⟩

/-- A slice value that reads as these bytes. -/
def Sl (w : World) (v : Value) (l : List UInt8) : Prop := ∃ A c, v = .slice A l.length c ∧ l.length ≤ c ∧ c ≤ maxLen ∧ Rd w w.heap.size 1 A l.length (byt l)
theorem Sl.of_own {w : World} {base : Nat} {e : TypeId} {v : Value} {n : Nat} {l : List UInt8} (h : w.ownsRow base e 1 v n (byt l)) : Sl w v l := by
  obtain ⟨A, c, rfl, h1, h2, h3⟩ := Rd.of_own h
  have hn : l.length = n := by rw [← byt_len]; exact h3.len1
  subst hn
  exact ⟨A, c, rfl, h1, h2, h3⟩
theorem Sl.up {w w' : World} {v : Value} {l : List UInt8} (h : Sl w v l) (hb : Below w.heap.size w w') : Sl w' v l := by
  obtain ⟨A, c, rfl, h1, h2, h3⟩ := h
  exact ⟨A, c, rfl, h1, h2, h3.up hb (Nat.le_refl _) hb.size⟩
def Fact.sl (l : List UInt8) : Fact := ⟨fun v w => Sl w v l, fun _ _ _ h he => h.up he⟩

theorem RetSI.nilE {size : Nat} {xs : List Value} {code code' : Int} {w w' : World} (hx : xs = []) (h : code' = code) (hb : Below w.heap.size w w') : RetSI size xs code w (.returned (.tuple #[.slice none 0 0, .int .i64 code'])) w' := by
  subst hx; exact RetSI.nil_ h hb
theorem RetSI.sl {l l' : List UInt8} {v : Value} {code code' : Int} {w w' : World} (hs : Sl w' v l') (hx : l' = l) (h : code' = code) (hb : Below w.heap.size w w') : RetSI 1 (byt l) code w (.returned (.tuple #[v, .int .i64 code'])) w' := by
  subst hx; obtain ⟨A, c, rfl, h1, h2, h3⟩ := hs
  exact RetSI.mk' h3 h1 h2 h hb
theorem rets_sl {f : Nat → Option Fact} {k n : Nat} {l : List UInt8} {w : World} {e : TypeId} (hf : f k = some (.sl l)) : ∀ en w', RetO e 1 n (byt l) w en w' → ∃ u, en = .returned u ∧ Ext w w' ∧ fxR f k u w' := by
  rintro en w' ⟨o, rfl, hown, hb⟩
  refine ⟨_, rfl, hb, ?_⟩
  unfold fxR; rw [hf]
  exact Sl.of_own hown
theorem rets_own' {f : Nat → Option Fact} {k n base size : Nat} {xs : List Value} {w : World} {e : TypeId} (hf : f k = some (.own base e size n xs)) (hb : base ≤ w.heap.size) : ∀ en w', RetO e size n xs w en w' → ∃ u, en = .returned u ∧ Ext w w' ∧ fxR f k u w' := by
  rintro en w' ⟨o, rfl, hown, hb'⟩
  refine ⟨_, rfl, hb', ?_⟩
  unfold fxR; rw [hf]
  exact ⟨hown.1, hown.2.imp id fun ⟨g, cap, cur, h1, h2, h3⟩ => ⟨g, cap, cur, h1, Nat.le_trans hb h2, h3⟩⟩
theorem put_sl {v : Value} {l : List UInt8} {w : World} (h : Sl w v l) (x : Nat) (hm : l.length ≤ 1048576) (hv : x < 18446744073709551616) : Calls Try.prog 13 #[v, .int .u64 (x : Int)] w (RetO 5 1 (l.length + (sevens x).length) (byt (l ++ sevens x)) w) := by
  obtain ⟨A, c, rfl, h1, h2, h3⟩ := h
  exact putUint_any A c l x w h3 hm hv
theorem putT_sl {v : Value} {l : List UInt8} {w : World} (h : Sl w v l) (s : ByteArray) (hm : l.length ≤ 1048000) (hs : s.size ≤ 1048000) : Calls Try.prog 17 #[v, .string s] w (RetO 5 1 (l.length + (textB s).length) (byt (l ++ textB s)) w) := by
  obtain ⟨A, c, rfl, h1, h2, h3⟩ := h
  exact putText_any A c l s w h3 hm hs
theorem Sl.nil_ (w : World) : Sl w (.slice none 0 0) [] := ⟨none, 0, rfl, Nat.le_refl _, Nat.zero_le _, Rd.none_⟩
theorem news_one {w : World} {g : Nat} {u : Value} (h : w.cell? ⟨g, 0, none⟩ = some u) : ∀ j u', [u][j]? = some u' → w.cell? ((⟨g, 0, none⟩ : Addr).add j) = some u' := by
  intro j u' hu
  cases j with
  | zero => simp at hu; subst hu; exact h
  | succ j => simp at hu
theorem own_le {w : World} {base base' size n : Nat} {e : TypeId} {v : Value} {xs : List Value} (h : w.ownsRow base e size v n xs) (hb : base' ≤ base) : w.ownsRow base' e size v n xs :=
  ⟨h.1, h.2.imp id fun ⟨g, cap, cur, h1, h2, h3⟩ => ⟨g, cap, cur, h1, Nat.le_trans hb h2, h3⟩⟩
theorem byt_u8 (l : List UInt8) (i : Nat) (hi : i < 256) : byt (l ++ [UInt8.ofNat i]) = byt l ++ [.int .u8 (i : Int)] := by
  simp [byt, Nat.mod_eq_of_lt hi]
def eF4 (o v : Nat) : Nat → Option Fact
  | 4 => some (.sl (sevens o))
  | 9 => some (.sl (sevens o ++ sevens v))
  | _ => none
def eF5 (base : Nat) (l : List UInt8) (s : ByteArray) (i : Nat) : Nat → Option Fact
  | 3 => some (.own base 5 1 (l.length + (textB s).length) (byt (l ++ textB s)))
  | 6 => some (.lit base #[.int .u8 (i : Int)] 5)
  | _ => none

set_option maxRecDepth 100000 in
set_option maxHeartbeats 3200000 in
theorem encode_any (r : Rl) (A : Option Addr) (c : Nat) (w : World) (hR : Rd w w.heap.size 3 A r.cs.length (cols r.cs)) (hl : r.cs.length ≤ c) (hc : c ≤ maxLen) (hn : r.name.size ≤ maxLen) (hns : ∀ o ∈ r.cs, o.name.size ≤ maxLen)
    (ho : r.oid < 4294967296) (hv : r.ver < 4294967296) :
    Calls Try.prog 42 #[r.v A c] w (RetSI 1 (byt r.encB) r.rightE w) := by
  obtain ⟨o1, v1, n1, i1, cs⟩ := r
  simp only at hR hl hn hns ho hv
  have hB : Below w.heap.size w (w.alloc (Rl.box ⟨o1, v1, n1, i1, cs⟩ A c)) := (Below.refl _ _).alloc (Nat.le_refl _) _
  have hRa := hR.up hB (Nat.le_refl _) hB.size
  have hbx := heap_alloc_new w (Rl.box ⟨o1, v1, n1, i1, cs⟩ A c)
  have hsz : (w.alloc (Rl.box ⟨o1, v1, n1, i1, cs⟩ A c)).heap.size = w.heap.size + 1 := by simp
  unfold Rl.box at *
  simp only at *
  have HN := Lib.hid hns; have HR0 := Lib.hid hR; clear hR hns
  go_enter Try.func42, Try.ntmps42
  unfold Rl.v
  go_wp2_with fail
  generalize w.alloc (.cells #[.int .u32 (o1 : Int), .int .u32 (v1 : Int), .string n1, .int .u8 (i1 : Int), .slice A cs.length c] 69) = w1 at *
  refine (right_any ⟨o1, v1, n1, i1, cs⟩ A c _ hRa hl hc hn HN.out).mono ?_
  rintro e w2 ⟨rfl, hb2⟩
  have hB2 := hB.trans (hb2.mono (by omega))
  by_cases hz : Rl.rightE ⟨o1, v1, n1, i1, cs⟩ = 0
  · have hok := Rl.ok_of hz
    have hen : Rl.encB ⟨o1, v1, n1, i1, cs⟩ = Rl.bytes ⟨o1, v1, n1, i1, cs⟩ := by unfold Rl.encB; rw [if_pos hz]
    have Hen := Lib.hid hen; have Hz := Lib.hid hz
    rw [hz]
    clear hz hen
    have hn31 := named_size hok.name
    simp only at hn31
    have hbx2 := (hb2.block w.heap.size (by omega)).trans hbx
    have g0 : w2.cell? ⟨w.heap.size, 0, none⟩ = some (.int .u32 (o1 : Int)) := cell_of_row _ _ 0 _ 69 (0, 0) hbx2
    have g1 : w2.cell? ⟨w.heap.size, 1, none⟩ = some (.int .u32 (v1 : Int)) := cell_of_row _ _ 1 _ 69 (0, 0) hbx2
    have g2 : w2.cell? ⟨w.heap.size, 2, none⟩ = some (.string n1) := cell_of_row _ _ 2 _ 69 (0, 0) hbx2
    have g3 : w2.cell? ⟨w.heap.size, 3, none⟩ = some (.int .u8 (i1 : Int)) := cell_of_row _ _ 3 _ 69 (0, 0) hbx2
    have g4 : w2.cell? ⟨w.heap.size, 4, none⟩ = some (.slice A cs.length c) := cell_of_row _ _ 4 _ 69 (0, 0) hbx2
    have hlt : w.heap.size < w2.heap.size := by have := hb2.size; omega
    have hR2 := hRa.up hb2 (Nat.le_refl _) hb2.size
    have l1 := sevens_len o1
    have l2 := sevens_len v1
    clear hbx hbx2 hb2 hsz hB hRa
    have q1 : IntKind.u64.wrap (o1 : Int) = (o1 : Int) := IntWalk.u64_in _ (by omega)
    have q2 : IntKind.u64.wrap (v1 : Int) = (v1 : Int) := IntWalk.u64_in _ (by omega)
    go_wp2_with fail
    refine wp_region_fx (eF4 o1 v1) (by kernel_rfl) (by kernel_rfl) ?_
    repeat (first | (refine wpM_skip rfl ?_) | (refine wpM_all rfl rfl (fun K hK => ?_); go_simp; refine hK _ ?_; clear hK K))
    refine wpM_look (.int .u32 (o1 : Int)) rfl rfl (fun w6 hc6 _ => ?_) ?_
    · have c0 : w6.cell? ⟨w.heap.size, 0, none⟩ = some (.int .u32 (o1 : Int)) := by rw [hc6.cell hlt]; exact g0
      go_simp
    repeat (first | (refine wpM_skip rfl ?_) | (refine wpM_all rfl rfl (fun K hK => ?_); go_simp; refine hK _ ?_; clear hK K))
    refine wpM_eff rfl rfl (fun w6 _ _ => steps_enter (put_sl (Sl.nil_ w6) o1 (by simp) (by omega)) (by go_simp) (rets_sl rfl)) ?_
    rintro v4 -
    repeat (first | (refine wpM_skip rfl ?_) | (refine wpM_all rfl rfl (fun K hK => ?_); go_simp; refine hK _ ?_; clear hK K))
    refine wpM_look (.int .u32 (v1 : Int)) rfl rfl (fun w6 hc6 _ => ?_) ?_
    · have c0 : w6.cell? ⟨w.heap.size, 1, none⟩ = some (.int .u32 (v1 : Int)) := by rw [hc6.cell hlt]; exact g1
      go_simp
    repeat (first | (refine wpM_skip rfl ?_) | (refine wpM_all rfl rfl (fun K hK => ?_); go_simp; refine hK _ ?_; clear hK K))
    refine wpM_eff rfl rfl (fun w6 _ hd => steps_enter (put_sl (v := v4) (l := sevens o1) (by have := hd ⟨4, .data⟩ (by simp) rfl; simpa [upd, fxR, eF4, Fact.sl] using this) v1 (by omega) (by omega)) (by go_simp) (rets_sl rfl)) ?_
    rintro v9 -
    repeat (first | (refine wpM_skip rfl ?_) | (refine wpM_all rfl rfl (fun K hK => ?_); go_simp; refine hK _ ?_; clear hK K))
    refine wpM_nil fun w3 hc3 hf => ?_
    have hs5 : Sl w3 v9 (sevens o1 ++ sevens v1) := by have := hf 9; simpa [upd, fxR, eF4, Fact.sl] using this
    have hB3 := hB2.trans (hc3.mono (by omega))
    have hR3 := hR2.up hc3 (Nat.le_refl _) hc3.size
    have g2' := (hc3.cell (p := ⟨w.heap.size, 2, none⟩) hlt).trans g2
    have g3' := (hc3.cell (p := ⟨w.heap.size, 3, none⟩) hlt).trans g3
    have g4' := (hc3.cell (p := ⟨w.heap.size, 4, none⟩) hlt).trans g4
    have hlt3 : w.heap.size < w3.heap.size := by have := hc3.size; omega
    clear q1 q2 g0 g1 g2 g3 g4 hf hc3 hB2 hR2 hlt
    go_wp2_with fail
    refine wp_region_fx_tail 7 (eF5 (w.heap.size + 1) (sevens o1 ++ sevens v1) n1 i1) (by kernel_rfl) (by kernel_rfl) (by kernel_rfl) (by kernel_rfl) ?_
    repeat (first | (refine wpM_skip rfl ?_) | (refine wpM_all rfl rfl (fun K hK => ?_); go_simp; refine hK _ ?_; clear hK K))
    refine wpM_look (.string n1) rfl rfl (fun w6 hc6 _ => ?_) ?_
    · have c0 : w6.cell? ⟨w.heap.size, 2, none⟩ = some (.string n1) := by rw [hc6.cell hlt3]; exact g2'
      go_simp
    refine wpM_eff rfl rfl (fun w6 hc6 _ => steps_enter (putT_sl (hs5.up hc6) n1 (by simp; omega) (by omega)) (by go_simp) (rets_own' rfl (by have := hc6.size; omega))) ?_
    rintro v3 -
    repeat (first | (refine wpM_skip rfl ?_) | (refine wpM_all rfl rfl (fun K hK => ?_); go_simp; refine hK _ ?_; clear hK K))
    refine wpM_look (.int .u8 (i1 : Int)) rfl rfl (fun w6 hc6 _ => ?_) ?_
    · have c0 : w6.cell? ⟨w.heap.size, 3, none⟩ = some (.int .u8 (i1 : Int)) := by rw [hc6.cell hlt3]; exact g3'
      go_simp
    refine wpM_eff rfl rfl (fun w6 hc6 _ => steps_lit rfl (by have := hc6.size; omega) rfl (by go_simp)) ?_
    rintro v6 -
    refine wpM_nil fun w4 hc4 hf => ?_
    have hown : w4.ownsRow (w.heap.size + 1) 5 1 v3 ((sevens o1 ++ sevens v1).length + (textB n1).length) (byt (sevens o1 ++ sevens v1 ++ textB n1)) := by have := hf 3; simpa [upd, fxR, eF5, Fact.own] using this
    obtain ⟨g6, rfl, hg6, hh6⟩ : ∃ g, v6 = .slice (some ⟨g, 0, none⟩) 1 1 ∧ w.heap.size + 1 ≤ g ∧ w4.heap[g]? = some (.cells #[.int .u8 (i1 : Int)] 5 (0, 0)) := by have := hf 6; simpa [upd, fxR, eF5, Fact.lit] using this
    have k6 : w4.cell? ⟨g6, 0, none⟩ = some (.int .u8 (i1 : Int)) := cell_of_row _ _ 0 _ 5 (0, 0) hh6
    have hB4 := hB3.trans (hc4.mono (by omega))
    have hR4 := hR3.up hc4 (Nat.le_refl _) hc4.size
    have g4'' := (hc4.cell (p := ⟨w.heap.size, 4, none⟩) hlt3).trans g4'
    have hlt4 : w.heap.size < w4.heap.size := by have := hc4.size; omega
    clear hf hc4 hB3 hR3 g2' g3' g4' hs5 hlt3
    show wpList _ _ _ [_, _] _ _
    obtain ⟨i0, hi, hz0, hz1, hz2⟩ := info_parts Try.info5
    have hL5 : (sevens o1 ++ sevens v1 ++ textB n1).length ≤ 61 := by have := sevens_len n1.size; simp [textB_len]; omega
    rw [← List.length_append] at hown
    have HL : Hid (sevens o1 ++ sevens v1 ++ textB n1 ++ [UInt8.ofNat i1] ++ sevens cs.length = Rl.head ⟨o1, v1, n1, i1, cs⟩) := rfl
    generalize sevens o1 ++ sevens v1 ++ textB n1 = L at *
    go_wp2_with (at_builtin; refine wpList_append_own _ rfl _ _ 22 rfl (w.heap.size + 1) 5 i0 (.int .u8 0) 1 1 Try.underlying22 hi hz0 hz1 hz2 rfl (by decide) _ _ _ rfl hown ⟨g6, 0, none⟩ 1 1 [.int .u8 (i1 : Int)] rfl rfl (news_one k6) (by simp [Value.oneCell']) (by simp only [maxLen]; omega) (by omega) (by omega) ?_)
    intro v5 w5 hown5 hg5 _
    have hb5 : Below (w.heap.size + 1) w4 w5 := own_base hown (Below.refl _ _) hg5 (by omega)
    have hB5 : Below w.heap.size w w5 := own_base (own_le hown (Nat.le_succ _)) hB4 hg5 hB4.size
    have g45 : w5.cell? ⟨w.heap.size, 4, none⟩ = some (.slice A cs.length c) := (hb5.cell (p := ⟨w.heap.size, 4, none⟩) (Nat.lt_succ_self _)).trans g4''
    rw [← byt_u8 L i1 (by have := hok.ident; simp only at this; omega)] at hown5
    have sl5 := Sl.of_own hown5
    have hlt5 : w.heap.size < w5.heap.size := by have := hb5.size; omega
    clear hown hown5 hg5 hb5 g4'' hB4 hlt4 k6 hh6 hg6
    have hlo := hok.lo
    have hhi := hok.hi
    simp only at hlo hhi
    go_wp2_with fail
    refine (put_sl sl5 cs.length (by simp; omega) (by omega)).mono ?_
    rintro e w6 ⟨v6, rfl, hown6, hb6⟩
    rw [HL.out] at hown6
    have sl6 := Sl.of_own hown6
    have hB6 := hB5.trans (hb6.mono (by omega))
    have g46 := (hb6.cell (p := ⟨w.heap.size, 4, none⟩) hlt5).trans g45
    have hlt6 : w.heap.size < w6.heap.size := by have := hb6.size; omega
    have hhd : (Rl.head ⟨o1, v1, n1, i1, cs⟩).length ≤ 72 := by have := sevens_len cs.length; rw [← HL.out]; simp; omega
    have HH : Hid (Rl.head ⟨o1, v1, n1, i1, cs⟩ ++ cs.flatMap colB = Rl.bytes ⟨o1, v1, n1, i1, cs⟩) := rfl
    clear hown6 sl5 hb6 hB5 g45 hlt5 HL hL5
    generalize Rl.head ⟨o1, v1, n1, i1, cs⟩ = L0 at *
    have hcz := colsE_zero hok.cols
    have HZ := Lib.hid hcz; clear hcz
    have HB6 := Lib.hid hB6
    clear hR4 hok hB6 l1 l2 hn31 hn hc
    go_wp2_with fail
    go_loopw [5, 41] (fun b k wr => ∃ (j : Nat) (l : List UInt8), k = .int .i64 (j : Int) ∧ j ≤ cs.length ∧ Sl wr b l ∧ l.length ≤ 72 + 43 * j ∧ Hid (l = L0 ++ (cs.take j).flatMap colB) ∧ Below (w.heap.size + 1) w6 wr) (fun _ k _ => cs.length - (intOf k).toNat)
    case atStart => exact ⟨0, L0, rfl, by omega, sl6, by omega, by simp [Hid], Below.refl _ _⟩
    case round =>
      obtain ⟨j, l, rfl, hj, sl, hll, HL, hb⟩ := hrel
      have hbs := hb.size
      have hBw : Below w.heap.size w wr := HB6.out.trans (hb.mono (by omega))
      have hBws := hBw.size
      by_cases hlt : j < cs.length
      · obtain ⟨bA, off, rfl, hbl, hcc⟩ := (HR0.out.below hBw (Nat.le_refl _)).col hlt
        obtain ⟨k0, k1, k2⟩ := hcc j hlt
        obtain ⟨z0, z1, z2⟩ := HZ.out _ (List.getElem_mem hlt)
        have htk : Hid (cs.take (j + 1) = cs.take j ++ [cs[j]]) := List.take_succ_eq_append_getElem hlt
        clear hcc
        generalize cs[j] = o at *
        have hon := named_size z0
        have hlen := sevens_len o.name.size
        have hidx : (j : Int) < (cs.length : Int) := by omega
        have htl : (textB o.name).length ≤ 41 := by rw [textB_len]; omega
        have hb5 : Below (w.heap.size + 1) wr (wr.alloc (.cells #[.string o.name, .int .u8 (o.type : Int), .bool o.key] 82)) := (Below.refl _ _).alloc (by omega) _
        have hs5 : (wr.alloc (.cells #[.string o.name, .int .u8 (o.type : Int), .bool o.key] 82)).heap.size = wr.heap.size + 1 := by simp
        have sl5 : Sl (wr.alloc (.cells #[.string o.name, .int .u8 (o.type : Int), .bool o.key] 82)) u5 l := sl.up ((Below.refl _ _).alloc (Nat.le_refl _) _)
        obtain ⟨on, ot, ok⟩ := o
        simp only at *
        have hkind : Hid (∀ kk : Nat, kk = (if ok = true then ot + 128 else ot) → byt (l ++ textB on ++ [UInt8.ofNat kk]) = byt (l ++ textB on) ++ [.int .u8 (kk : Int)] ∧ l ++ textB on ++ [UInt8.ofNat kk] = L0 ++ (cs.take (j + 1)).flatMap colB) := by
          intro kk hkk
          have hk256 : kk < 256 := by subst hkk; split <;> omega
          refine ⟨byt_u8 _ _ hk256, ?_⟩
          rw [HL.out, htk.out, List.flatMap_append]
          have : colB ⟨on, ot, ok⟩ = textB on ++ [UInt8.ofNat kk] := by
            unfold colB Col.kind
            simp only
            have : (ot + if ok = true then 128 else 0) % 256 = kk := by subst hkk; split <;> omega
            rw [this]
          simp [this]
        clear z0 htk
        cases ok
        · have hk2 := hkind.out ot rfl
          have Hk2 := Lib.hid hk2; clear hkind hk2
          go_wp2_with fail
          refine (putT_sl sl5 on (by omega) (by omega)).mono ?_
          rintro e w7 ⟨v7, rfl, hown7, hb7⟩
          rw [← List.length_append] at hown7
          have hB7 : Below (w.heap.size + 1) wr w7 := hb5.trans (hb7.mono (by omega))
          have hbs7 := hb7.size
          have how := own_le (base' := w.heap.size + 1) hown7 (by omega)
          have hl7 : (l ++ textB on).length ≤ 72 + 43 * j + 41 := by simp; omega
          clear hown7 hb7 hb5 sl5 k0 k1 k2
          generalize l ++ textB on = l7 at *
          go_wp2_with (at_builtin; refine wpList_append_own _ rfl _ _ 22 rfl (w.heap.size + 1) 5 i0 (.int .u8 0) 1 1 Try.underlying22 hi hz0 hz1 hz2 rfl (by decide) _ _ _ rfl (how.alloc _) ⟨w7.heap.size, 0, none⟩ 1 1 [.int .u8 (ot : Int)] rfl rfl (news_one (cell_new _ _ _ 0)) (by simp [Value.oneCell']) (by simp only [maxLen]; omega) (by omega) (by simp; omega) ?_)
          intro v8 w8 hown8 hg8 _
          have hB8 : Below (w.heap.size + 1) wr w8 := own_base (how.alloc _) (hB7.alloc (by omega) _) hg8 (by simp; omega)
          have e8 := Hk2.out
          skip
          rw [← e8.1, e8.2] at hown8
          have sl8 := Sl.of_own hown8
          have hl8 : (l7 ++ [UInt8.ofNat (ot)]).length ≤ 72 + 43 * (j + 1) := by simp; omega
          rw [e8.2] at hl8
          clear hown8 hg8 how e8 Hk2 HL
          go_wp2
          go_roundw
          case rel => exact ⟨j + 1, _, by go_num, by omega, sl8, hl8, rfl, hb.trans hB8⟩
          case measure => simp [intOf]; omega
        · have hk2 := hkind.out (ot + 128) rfl
          have Hk2 := Lib.hid hk2; clear hkind hk2
          go_wp2_with fail
          refine (putT_sl sl5 on (by omega) (by omega)).mono ?_
          rintro e w7 ⟨v7, rfl, hown7, hb7⟩
          rw [← List.length_append] at hown7
          have hB7 : Below (w.heap.size + 1) wr w7 := hb5.trans (hb7.mono (by omega))
          have hbs7 := hb7.size
          have how := own_le (base' := w.heap.size + 1) hown7 (by omega)
          have hl7 : (l ++ textB on).length ≤ 72 + 43 * j + 41 := by simp; omega
          clear hown7 hb7 hb5 sl5 k0 k1 k2
          generalize l ++ textB on = l7 at *
          go_wp2_with (at_builtin; refine wpList_append_own _ rfl _ _ 22 rfl (w.heap.size + 1) 5 i0 (.int .u8 0) 1 1 Try.underlying22 hi hz0 hz1 hz2 rfl (by decide) _ _ _ rfl (how.alloc _) ⟨w7.heap.size, 0, none⟩ 1 1 [.int .u8 ((ot : Int) + 128)] rfl rfl (news_one (cell_new _ _ _ 0)) (by simp [Value.oneCell']) (by simp only [maxLen]; omega) (by omega) (by simp; omega) ?_)
          intro v8 w8 hown8 hg8 _
          have hB8 : Below (w.heap.size + 1) wr w8 := own_base (how.alloc _) (hB7.alloc (by omega) _) hg8 (by simp; omega)
          have e8 := Hk2.out
          rw [show ((ot + 128 : Nat) : Int) = (ot : Int) + 128 by omega] at e8
          rw [← e8.1, e8.2] at hown8
          have sl8 := Sl.of_own hown8
          have hl8 : (l7 ++ [UInt8.ofNat (ot + 128)]).length ≤ 72 + 43 * (j + 1) := by simp; omega
          rw [e8.2] at hl8
          clear hown8 hg8 how e8 Hk2 HL
          go_wp2
          go_roundw
          case rel => exact ⟨j + 1, _, by go_num, by omega, sl8, hl8, rfl, hb.trans hB8⟩
          case measure => simp [intOf]; omega
      · have hje : j = cs.length := by omega
        have hl2 := HL.out
        rw [hje, List.take_length, HH.out, ← Hen.out] at hl2
        have HL2 := Lib.hid hl2; clear hl2 HL hje
        go_wp2
        go_ret2
        exact RetSI.sl sl HL2.out Hz.out.symm hBw
  · have hen : Rl.encB ⟨o1, v1, n1, i1, cs⟩ = [] := by unfold Rl.encB; rw [if_neg hz]
    have Hen := Lib.hid hen
    have dz : (Rl.rightE ⟨o1, v1, n1, i1, cs⟩ != 0) = true := by simpa using hz
    clear hz hen hbx hsz
    go_wp2
    go_ret2
    exact RetSI.nilE (by rw [Hen.out]; rfl) rfl hB2
end Go.Proofs.Ytcblmcpmdpnlbaa
