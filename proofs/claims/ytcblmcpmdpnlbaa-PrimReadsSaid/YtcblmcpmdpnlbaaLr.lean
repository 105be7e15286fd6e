/-
  Layer 1: PrimReads, the walk.
-/
import Derived.Test.YtcblmcpmdpnlbaaRy
import Derived.Laws.AppendOwnNone
namespace Go.Proofs.Ytcblmcpmdpnlbaa
open Go.RowKit Stage
attribute [local go_sem] Mono.pureAt Mono.pureUpon

/-- From stage to stage: prim's reader first, then the reference's. -/
def stC (W : World) (g h : Nat) (r r1 : Rdr) : Nat → World → Prop
  | 0, w => Both W g h r r w
  | 1, w => Both W g h r1 r w
  | _, w => Both W g h r1 r1 w
theorem stC_b {W : World} {g h : Nat} {r r1 : Rdr} : ∀ t w, stC W g h r r1 t w → Below W.heap.size W w
  | 0, _, h => h.b
  | 1, _, h => h.b
  | _ + 2, _, h => h.b
theorem qleft {g : Nat} {r : Rdr} {w : World} (h : PR w g r) (n : Nat) : Calls Try.prog 26 #[.pointer (some ⟨g, 0, none⟩)] (w.drewN n) fun e w' => e = .returned (.int .i64 (r.rest.length : Int)) ∧ ∃ k, w' = w.drewN k :=
  (left_any g r (w.drewN n) h).mono fun e w' ⟨he, hk⟩ => ⟨he, n, hk.symm⟩
theorem qerr {g : Nat} {r : Rdr} {w : World} (h : PR w g r) (n : Nat) : Calls Try.prog 23 #[.pointer (some ⟨g, 0, none⟩)] (w.drewN n) fun e w' => e = .returned (.int .i64 r.bad) ∧ ∃ k, w' = w.drewN k :=
  (err_any g r (w.drewN n) h).mono fun e w' ⟨he, hk⟩ => ⟨he, n, hk.symm⟩
theorem qend {g : Nat} {r : Rdr} {w : World} (h : PR w g r) (n : Nat) : Calls Try.prog 24 #[.pointer (some ⟨g, 0, none⟩)] (w.drewN n) fun e w' => e = .returned (.int .i64 r.fin) ∧ ∃ k, w' = w.drewN k :=
  (end_any g r (w.drewN n) h).mono fun e w' ⟨he, hk⟩ => ⟨he, n, hk.symm⟩
theorem qleftR {g : Nat} {r : Rdr} {w : World} (h : RR w g r) (n : Nat) : Calls Try.prog 36 #[.pointer (some ⟨g, 0, none⟩)] (w.drewN n) fun e w' => e = .returned (.int .i64 (r.rest.length : Int)) ∧ ∃ k, w' = w.drewN k :=
  (leftR_any g r (w.drewN n) h).mono fun e w' ⟨he, k, hk⟩ => ⟨he, n + k, by rw [hk, World.drewN_drewN]⟩
theorem qendR {g : Nat} {r : Rdr} {w : World} (h : RR w g r) (n : Nat) : Calls Try.prog 37 #[.pointer (some ⟨g, 0, none⟩)] (w.drewN n) fun e w' => e = .returned (.int .i64 r.fin) ∧ ∃ k, w' = w.drewN k :=
  (endR_any g r (w.drewN n) h).mono fun e w' ⟨he, k, hk⟩ => ⟨he, n + k, by rw [hk, World.drewN_drewN]⟩
/-- append(own, xs...), xs nil or not. -/
theorem wpList_append_rd {P : Program} {w : World} {ops : Array Oper} {rest : List Oper} {o : Oper} {a : Act} {Q : Exit → Act → World → Prop} (hgd : o.guard = none) (s x : Operand) (t : TypeId)
    (ho : o.op = .call { callee := .builtin .append, args := #[s, x], argTypes := #[t, t] })
    (base : Nat) (e : TypeId) (i : TypeInfo) (z : Value) (size bytes : Nat) (ht : P.underlying t = some (.slice e)) (hi : P.info? e = some i) (hz : i.zero = some z)
    (hsize : i.size = size) (hby : i.bytes = bytes) (hzs : z.cells.size = size) (hsz : 0 < size)
    (v : Value) (n : Nat) (xs : List Value) (hs : a.eval s = v) (hown : w.ownsRow base e size v n xs)
    (A : Option Addr) (m c C : Nat) (news : List Value) (hx : a.eval x = .slice A m c) (hA : A = none → c = 0) (hR : Rd w C size A m news) (h1 : ∀ u ∈ news, u.oneCell' = true)
    (h63 : n + m ≤ maxLen) (hbytes : (n + m) * bytes ≤ 140737488355328) (hbase : base ≤ w.heap.size)
    (h : ∀ v' w', w'.ownsRow base e size v' (n + m) (xs ++ news) → w.grownBy w' v.ownBlock → wpList P ops Q rest (a.put o.dst v') w') : wpList P ops Q (o :: rest) a w := by
  rcases A with _ | ad
  · have hm : m = 0 := by
      rcases Nat.eq_zero_or_pos m with h | h
      · exact h
      · obtain ⟨_, _, e, _⟩ := hR.2 h; cases e
    have hc := hA rfl
    subst hm; subst hc
    have hn := hR.nil_
    subst hn
    exact wpList_append_own_none hgd s x t ho base e i size ht hi v n xs hs hown hx (h v w (by simpa using hown) ⟨rfl, rfl, rfl, Nat.le_refl _, fun _ _ _ => rfl⟩)
  · exact wpList_append_own w hgd s x t ho base e i z size bytes ht hi hz hsize hby hzs hsz v n xs hs hown ad m c news hx hR.1 hR.cells h1 h63 hbytes hbase (fun v' w' h1 h2 _ => h v' w' h1 h2)
/-- The j-th act, as it lies in memory. -/
def ActAt (W : World) (B : Option Addr) (j d n : Nat) : Prop := ∃ b off, B = some ⟨b, off, none⟩ ∧ b < W.heap.size ∧ W.cell? ⟨b, off + j * 2, none⟩ = some (.int .u8 (d : Int)) ∧ W.cell? ⟨b, off + j * 2 + 1, none⟩ = some (.int .u64 (n : Int)) ∧ d < 256 ∧ n < 18446744073709551616

set_option maxRecDepth 100000 in
set_option maxHeartbeats 1600000 in
theorem primReads_walk (A : Option Addr) (c : Nat) (l : List UInt8) (B : Option Addr) (m bc : Nat) (acts : Nat → Nat × Nat) (W : World) (hR : Rd W W.heap.size 1 A l.length (byt l)) (hA : A = none → c = 0)
    (hacts : ∀ j, j < m → ActAt W B j (acts j).1 (acts j).2) :
    Calls Try.prog 8 #[.slice A l.length c, .slice B m bc] W (RetB true W) := by
  by_cases hl : 300 < l.length
  · have d1 : decide ((300 : Int) < l.length) = true := by simp; omega
    go_enter Try.func8, Try.ntmps8
    go_wp2
    go_ret
    exact RetB.mk' rfl (Below.refl _ _)
  · have d1 : decide ((300 : Int) < l.length) = false := by simp; omega
    by_cases hm : 40 < m
    · have d2 : decide ((40 : Int) < m) = true := by simp; omega
      go_enter Try.func8, Try.ntmps8
      go_wp2
      go_ret
      exact RetB.mk' rfl (Below.refl _ _)
    · have d2 : decide ((40 : Int) < m) = false := by simp; omega
      obtain ⟨i0, hi, hz0, hz1, hz2⟩ := info_parts Try.info5
      have Hacts := Lib.hid hacts; clear hacts
      go_enter Try.func8, Try.ntmps8
      go_wp2_with fail
      refine (read_any A c l _ hR (by omega)).mono ?_
      rintro e w1 ⟨g, rfl, hg, hp, hb⟩
      have hown0 : (w1.alloc (.cells #[] 5)).ownsRow w1.heap.size 5 1 (.slice (some ⟨w1.heap.size, 0, none⟩) 0 0) 0 [] := World.ownsRow_made w1 #[] 0 (Nat.le_refl _) (by simp) (by simp)
      have hRa : Rd (w1.alloc (.cells #[] 5)) (w1.heap.size) 1 A l.length (byt l) := (hR.up hb (Nat.le_refl _) hb.size).alloc (Nat.le_refl _) _
      go_wp2_with (at_builtin; refine wpList_append_rd rfl _ _ 22 rfl w1.heap.size 5 i0 (.int .u8 0) 1 1 Try.underlying22 hi hz0 hz1 hz2 rfl (by decide) _ _ _ rfl hown0 A l.length c _ (byt l) rfl hA hRa (byt_one l) (by simp only [maxLen]; omega) (by omega) (by simp) ?_)
      intro v' w2 hown2 hg2
      have hb2 := own_base hown0 ((Below.refl w1.heap.size w1).alloc (Nat.le_refl _) (.cells #[] 5)) hg2 (by simp)
      obtain ⟨A2, c2, rfl, hc2, hc2m, hR2⟩ := Rd.of_own hown2
      clear hown2 hown0 hRa hg2
      have HB0 : Both W g w2.heap.size ⟨l, 0⟩ ⟨l, 0⟩ (w2.alloc (.cells #[.slice A2 l.length c2, .int .i64 0, .int .i64 0] 51)) := by
        have hp2 := hp.below hb2 hp.lt
        refine ⟨hp2.below ((Below.refl _ _).alloc (Nat.le_refl _) _) hp2.lt, ?_, (step_below hb hb2).alloc (by have := hb.size; have := hb2.size; omega) _, by have := hp2.lt; omega, hg, by have := hb.size; have := hb2.size; omega⟩
        exact ⟨A2, c2, l, 0, by omega, by omega, hc2, hc2m, heap_alloc_new w2 _, hR2.alloc (Nat.le_refl _) _, by simp⟩
      clear hR2 hb hb2 hp
      go_wp2_with fail
      generalize w2.alloc (.cells #[.slice A2 l.length c2, .int .i64 0, .int .i64 0] 51) = w3 at *
      generalize w2.heap.size = h at *
      have hm40 : m ≤ 40 := by omega
      clear hR hA hg hc2 hc2m hi hz0 hz1 hz2 hl hm d1 d2
      go_loopw [7] (fun i wr => ∃ (j : Nat) (r : Rdr), i = .int .i64 (j : Int) ∧ j ≤ m ∧ Both W g h r r wr) (fun i _ => m - (intOf i).toNat)
      case atStart => exact ⟨0, _, rfl, by omega, HB0⟩
      case round =>
        clear HB0
        obtain ⟨j, r, rfl, hjm, HB⟩ := hrel
        by_cases hj : j < m
        · have ej : decide (j < m) = true := by simpa using hj
          have hj' : (j : Int) < (m : Int) := by omega
          obtain ⟨b, off, rfl, hbW, cd, cn, hd, hn⟩ := Hacts.out j hj
          generalize (acts j).1 = d at *
          generalize (acts j).2 = n at *
          have kd : wr.cell? ⟨b, off + j * 2, none⟩ = some (.int .u8 (d : Int)) := by rw [HB.b.cell hbW]; exact cd
          have hwn : -9223372036854775808 ≤ wrap64 (n : Int) ∧ wrap64 (n : Int) ≤ 9223372036854775807 := by unfold wrap64; omega
          rcases (show d = 0 ∨ d = 1 ∨ d = 2 ∨ d = 3 ∨ d = 4 ∨ d = 6 ∨ (d ≠ 0 ∧ d ≠ 1 ∧ d ≠ 2 ∧ d ≠ 3 ∧ d ≠ 4 ∧ d ≠ 6) by omega) with rfl | rfl | rfl | rfl | rfl | rfl | hdo
          · go_wp2_with fail
            refine wp_region_stage (stC W g h r (r.uint n).2) (fun k => k == 6 || k == 13) (by kernel_rfl) (by kernel_rfl) (by kernel_rfl) HB.drew ?_
            have look : ∀ t w, stC W g h r (r.uint n).2 t w → w.cell? ⟨b, off + j * 2 + 1, none⟩ = some (.int .u64 (n : Int)) := fun t w hc => by rw [(stC_b t w hc).cell hbW]; exact cn
            repeat (first | (refine wpS_skip rfl ?_) | (refine wpS_all rfl rfl (fun K hK => ?_); go_simp; refine hK _ ?_; clear hK K))
            refine wpS_look (.int .u64 (n : Int)) rfl rfl (fun t w5 hc => ?_) ?_
            · have hcell := look t w5 hc
              go_simp
            repeat (first | (refine wpS_skip rfl ?_) | (refine wpS_all rfl rfl (fun K hK => ?_); go_simp; refine hK _ ?_; clear hK K))
            refine wpS_call (.int .u64 ((r.uint n).1 : Int)) rfl rfl (f := 21) (args := #[.pointer (some ⟨g, 0, none⟩), .int .u64 (n : Int)]) (fun w5 => by go_simp) (fun w5 hc => (uint_any g r n w5 (Both.p hc)).mono ?_) ?_
            · rintro e w6 ⟨rfl, hp5, hg5⟩
              exact ⟨rfl, Both.prim hc hp5 hg5⟩
            repeat (first | (refine wpS_skip rfl ?_) | (refine wpS_all rfl rfl (fun K hK => ?_); go_simp; refine hK _ ?_; clear hK K))
            refine wpS_look (.int .u64 (n : Int)) rfl rfl (fun t w5 hc => ?_) ?_
            · have hcell := look t w5 hc
              go_simp
            repeat (first | (refine wpS_skip rfl ?_) | (refine wpS_all rfl rfl (fun K hK => ?_); go_simp; refine hK _ ?_; clear hK K))
            refine wpS_call (.int .u64 ((r.uint n).1 : Int)) rfl rfl (f := 29) (args := #[.pointer (some ⟨h, 0, none⟩), .int .u64 (n : Int)]) (fun w5 => by go_simp) (fun w5 hc => (uintRd_any h r n w5 (Both.q hc)).mono ?_) ?_
            · rintro e w6 ⟨rfl, hp5, hg5⟩
              exact ⟨rfl, Both.ref hc hp5 hg5⟩
            repeat (first | (refine wpS_skip rfl ?_) | (refine wpS_all rfl rfl (fun K hK => ?_); go_simp; refine hK _ ?_; clear hK K))
            refine wpS_nil (fun w7 hc7 => ?_)
            have HB7 : Both W g h (r.uint n).2 (r.uint n).2 w7 := hc7
            clear hc7 look
            have hP := HB7.p
            have hQ := HB7.q
            obtain ⟨_, _, _, _, _, _, _, _, _, _, _, _, cbad, _, _, _⟩ := hQ.cells
            go_wp2_with fail
            go_quiet (first | (go_at_call 26; exact qleft hP _) | (go_at_call 36; exact qleftR hQ _) | (go_at_call 23; exact qerr hP _) | (go_at_call 24; exact qend hP _) | (go_at_call 37; exact qendR hQ _))
            go_wp2
            go_roundw
            case rel => exact ⟨j + 1, _, by go_num, by omega, HB7.drewN _⟩
            case measure => simp [intOf] <;> omega
          · go_wp2_with fail
            refine (int_any g r _ HB.p).mono ?_
            rintro e w5 ⟨rfl, hp5, hg5⟩
            have HB5 := HB.prim hp5 hg5
            clear hp5 hg5
            go_wp2_with fail
            refine (intRd_any h r _ HB5.q).mono ?_
            rintro e w6 ⟨rfl, hp6, hg6⟩
            have HB6 := HB5.ref hp6 hg6
            clear hp6 hg6
            have hP := HB6.p
            have hQ := HB6.q
            obtain ⟨_, _, _, _, _, _, _, _, _, _, _, _, cbad, _, _, _⟩ := hQ.cells
            go_wp2_with fail
            go_quiet (first | (go_at_call 26; exact qleft hP _) | (go_at_call 36; exact qleftR hQ _) | (go_at_call 23; exact qerr hP _) | (go_at_call 24; exact qend hP _) | (go_at_call 37; exact qendR hQ _))
            go_wp2
            go_roundw
            case rel => exact ⟨j + 1, _, by go_num, by omega, HB6.drewN _⟩
            case measure => simp [intOf] <;> omega
          · go_wp2_with fail
            refine wp_region_stage (stC W g h r (r.text (IntKind.i64.wrap (n : Int))).2) (fun k => k == 7 || k == 15) (by kernel_rfl) (by kernel_rfl) (by kernel_rfl) HB.drew ?_
            have look : ∀ t w, stC W g h r (r.text (IntKind.i64.wrap (n : Int))).2 t w → w.cell? ⟨b, off + j * 2 + 1, none⟩ = some (.int .u64 (n : Int)) := fun t w hc => by rw [(stC_b t w hc).cell hbW]; exact cn
            repeat (first | (refine wpS_skip rfl ?_) | (refine wpS_all rfl rfl (fun K hK => ?_); go_simp; refine hK _ ?_; clear hK K))
            refine wpS_look (.int .u64 (n : Int)) rfl rfl (fun t w5 hc => ?_) ?_
            · have hcell := look t w5 hc
              go_simp
            repeat (first | (refine wpS_skip rfl ?_) | (refine wpS_all rfl rfl (fun K hK => ?_); go_simp; refine hK _ ?_; clear hK K))
            refine wpS_call (.string ⟨(r.text (IntKind.i64.wrap (n : Int))).1.toArray⟩) rfl rfl (f := 22) (args := #[.pointer (some ⟨g, 0, none⟩), .int .i64 (IntKind.i64.wrap (n : Int))]) (fun w5 => by go_simp) (fun w5 hc => (text_any g r (IntKind.i64.wrap (n : Int)) w5 (Both.p hc) (by rw [IntKind.wrap_i64]; omega)).mono ?_) ?_
            · rintro e w6 ⟨rfl, hp5, hg5⟩
              exact ⟨rfl, Both.prim hc hp5 hg5⟩
            repeat (first | (refine wpS_skip rfl ?_) | (refine wpS_all rfl rfl (fun K hK => ?_); go_simp; refine hK _ ?_; clear hK K))
            refine wpS_look (.int .u64 (n : Int)) rfl rfl (fun t w5 hc => ?_) ?_
            · have hcell := look t w5 hc
              go_simp
            repeat (first | (refine wpS_skip rfl ?_) | (refine wpS_all rfl rfl (fun K hK => ?_); go_simp; refine hK _ ?_; clear hK K))
            refine wpS_call (.string ⟨(r.text (IntKind.i64.wrap (n : Int))).1.toArray⟩) rfl rfl (f := 31) (args := #[.pointer (some ⟨h, 0, none⟩), .int .i64 (IntKind.i64.wrap (n : Int))]) (fun w5 => by go_simp) (fun w5 hc => (textRd_any h r (IntKind.i64.wrap (n : Int)) w5 (Both.q hc) (by rw [IntKind.wrap_i64]; omega)).mono ?_) ?_
            · rintro e w6 ⟨rfl, hp5, hg5⟩
              exact ⟨rfl, Both.ref hc hp5 hg5⟩
            repeat (first | (refine wpS_skip rfl ?_) | (refine wpS_all rfl rfl (fun K hK => ?_); go_simp; refine hK _ ?_; clear hK K))
            refine wpS_nil (fun w7 hc7 => ?_)
            have HB7 : Both W g h (r.text (IntKind.i64.wrap (n : Int))).2 (r.text (IntKind.i64.wrap (n : Int))).2 w7 := hc7
            clear hc7 look
            have hP := HB7.p
            have hQ := HB7.q
            obtain ⟨_, _, _, _, _, _, _, _, _, _, _, _, cbad, _, _, _⟩ := hQ.cells
            go_wp2_with fail
            go_quiet (first | (go_at_call 26; exact qleft hP _) | (go_at_call 36; exact qleftR hQ _) | (go_at_call 23; exact qerr hP _) | (go_at_call 24; exact qend hP _) | (go_at_call 37; exact qendR hQ _))
            go_wp2
            go_roundw
            case rel => exact ⟨j + 1, _, by go_num, by omega, HB7.drewN _⟩
            case measure => simp [intOf] <;> omega
          · go_wp2_with fail
            refine (byte_any g r _ HB.p).mono ?_
            rintro e w5 ⟨rfl, hp5, hg5⟩
            have HB5 := HB.prim hp5 hg5
            clear hp5 hg5
            go_wp2_with fail
            refine (byteRd_any h r _ HB5.q).mono ?_
            rintro e w6 ⟨rfl, hp6, hg6⟩
            have HB6 := HB5.ref hp6 hg6
            clear hp6 hg6
            have hP := HB6.p
            have hQ := HB6.q
            obtain ⟨_, _, _, _, _, _, _, _, _, _, _, _, cbad, _, _, _⟩ := hQ.cells
            go_wp2_with fail
            go_quiet (first | (go_at_call 26; exact qleft hP _) | (go_at_call 36; exact qleftR hQ _) | (go_at_call 23; exact qerr hP _) | (go_at_call 24; exact qend hP _) | (go_at_call 37; exact qendR hQ _))
            go_wp2
            go_roundw
            case rel => exact ⟨j + 1, _, by go_num, by omega, HB6.drewN _⟩
            case measure => simp [intOf] <;> omega
          · go_wp2_with fail
            refine (word_any g r _ HB.p).mono ?_
            rintro e w5 ⟨rfl, hp5, hg5⟩
            have HB5 := HB.prim hp5 hg5
            clear hp5 hg5
            go_wp2_with fail
            refine (wordRd_any h r _ HB5.q).mono ?_
            rintro e w6 ⟨rfl, hp6, hg6⟩
            have HB6 := HB5.ref hp6 hg6
            clear hp6 hg6
            have hP := HB6.p
            have hQ := HB6.q
            obtain ⟨_, _, _, _, _, _, _, _, _, _, _, _, cbad, _, _, _⟩ := hQ.cells
            go_wp2_with fail
            go_quiet (first | (go_at_call 26; exact qleft hP _) | (go_at_call 36; exact qleftR hQ _) | (go_at_call 23; exact qerr hP _) | (go_at_call 24; exact qend hP _) | (go_at_call 37; exact qendR hQ _))
            go_wp2
            go_roundw
            case rel => exact ⟨j + 1, _, by go_num, by omega, HB6.drewN _⟩
            case measure => simp [intOf] <;> omega
          · have kn : wr.cell? ⟨b, off + j * 2 + 1, none⟩ = some (.int .u64 (n : Int)) := by rw [HB.b.cell hbW]; exact cn
            go_wp2_with fail
            refine (fail_any g r (wrap64 (n : Int)) _ HB.p).mono ?_
            rintro e w5 ⟨rfl, hp5, hg5⟩
            have HB5 := HB.prim hp5 hg5
            clear hp5 hg5 kn
            have kn : w5.cell? ⟨b, off + j * 2 + 1, none⟩ = some (.int .u64 (n : Int)) := by rw [HB5.b.cell hbW]; exact cn
            go_wp2_with fail
            refine (giveUpR_any h r (wrap64 (n : Int)) _ HB5.q).mono ?_
            rintro e w6 ⟨rfl, hp6, hg6⟩
            have HB6 := HB5.ref hp6 hg6
            clear hp6 hg6 kn
            have hP := HB6.p
            have hQ := HB6.q
            obtain ⟨_, _, _, _, _, _, _, _, _, _, _, _, cbad, _, _, _⟩ := hQ.cells
            go_wp2_with fail
            go_quiet (first | (go_at_call 26; exact qleft hP _) | (go_at_call 36; exact qleftR hQ _) | (go_at_call 23; exact qerr hP _) | (go_at_call 24; exact qend hP _) | (go_at_call 37; exact qendR hQ _))
            go_wp2
            go_roundw
            case rel => exact ⟨j + 1, _, by go_num, by omega, HB6.drewN _⟩
            case measure => simp [intOf] <;> omega
          · have e0 : ((d : Int) == 0) = false := by simp; omega
            have e1 : ((d : Int) == 1) = false := by simp; omega
            have e2 : ((d : Int) == 2) = false := by simp; omega
            have e3 : ((d : Int) == 3) = false := by simp; omega
            have e4 : ((d : Int) == 4) = false := by simp; omega
            have e6 : ((d : Int) == 6) = false := by simp; omega
            clear hdo
            have hP := HB.p
            have hQ := HB.q
            obtain ⟨_, _, _, _, _, _, _, _, _, _, _, _, cbad, _, _, _⟩ := hQ.cells
            go_wp2_with fail
            go_quiet (first | (go_at_call 26; exact qleft hP _) | (go_at_call 36; exact qleftR hQ _) | (go_at_call 23; exact qerr hP _) | (go_at_call 24; exact qend hP _) | (go_at_call 37; exact qendR hQ _))
            go_wp2
            go_roundw
            case rel => exact ⟨j + 1, _, by go_num, by omega, HB.drewN _⟩
            case measure => simp [intOf] <;> omega
        · have ej : decide (j < m) = false := by simpa using hj
          have hb := HB.b
          clear hj
          go_wp2_with fail
          refine (awake1_any _).mono ?_
          rintro e w9 ⟨rfl, hb9⟩
          go_wp2
          go_ret
          exact RetB.mk' rfl (step_below hb hb9)
end Go.Proofs.Ytcblmcpmdpnlbaa
