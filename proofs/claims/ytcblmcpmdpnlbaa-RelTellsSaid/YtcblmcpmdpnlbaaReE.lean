/-
  Layer 8: RelTells: the range over the keys, and what follows (printed by gen_ree.py).
-/
import Derived.Test.YtcblmcpmdpnlbaaRg
namespace Go.Proofs.Ytcblmcpmdpnlbaa
open Go.RowKit Go.Shelf
attribute [local go_sem] Oper.semAt_some
attribute [local go_sem] Mono.pureAt Mono.pureUpon
attribute [local irreducible] Mono.steps Mono.wpM

def ctail : Code → Code
  | .seq _ y => y
  | c => c
def chead : Code → Code
  | .seq x _ => x
  | c => c
def cblk : Code → Code
  | .block _ c => c
  | c => c
noncomputable def tellsX : Code := ctail (ctail (ctail (ctail (ctail (ctail (ctail (ctail (ctail (ctail (Try.f10.body.getD .skip))))))))))
noncomputable def tellsRF : Code := cblk (ctail (chead tellsX))
noncomputable def tellsRest : Code := ctail tellsX
def ats {l : List Col} (pre : List (KeyAt l)) : List (Nat × Col) := pre.map (·.1)
theorem ats_snoc {l : List Col} (pre : List (KeyAt l)) (x : KeyAt l) : ats (pre ++ [x]) = ats pre ++ [x.1] := by simp [ats]
theorem keeps_below {W w : World} (h : Below W.heap.size W w) : KeepsOthers W w := ⟨h.size, fun k _ hk _ => (h.block k (Array.getElem?_eq_some_iff.1 hk).1).trans hk⟩
theorem lastOf_at {l : List Col} (pre : List (KeyAt l)) : lastOf (ats pre) < (l.length : Int) := by
  unfold lastOf ats
  split
  · rename_i x h
    have hm := List.mem_of_getLast? h
    obtain ⟨y, -, rfl⟩ := List.mem_map.1 hm
    have := (List.getElem?_eq_some_iff.1 y.2.1).1
    omega
  · omega
set_option maxRecDepth 100000 in
set_option maxHeartbeats 6400000 in
theorem tells_loop (o1 v1 : Nat) (n1 : ByteArray) (i1 : Nat) (l1 : List Col) (b : Rl) (A : Option Addr) (c : Nat) (A' : Option Addr) (c' : Nat) (A1 : Option Addr) (c1 : Nat) (A2 : Option Addr) (c2 g4 g5 : Nat) (W w9 : World) (hA : RlAt W W.heap.size ⟨o1, v1, n1, i1, l1⟩ A c)
    (T : Tm ⟨o1, v1, n1, i1, l1⟩ b A c A' c' A1 c1 A2 c2 g4 g5 W w9) (hs : l1.length ≤ 30) {s0 s1 s3 s5 s6 s7 s8 s9 s10 s11 s13 s14 s15 s16 s17 s18 s19 s20 s21 s22 s23 s24 s25 s26 s27 s28 s29 s30 s31 s32 s33 s34 s35 s36 s37 s38 s39 s40 s41 s42 s43 s44 s45 s46 s47 s48 s49 s50 s51 s52 s53 s54 s55 s56 s57 s58 s59 s60 s61 s62 s63 s64 s65 s66 s67 s68 s69 s70 s71 s72 s73 s74 s75 s76 s77 s78 s79 s80 s81 s83 s84 s85 s86 s87 s88 s89 s90 s91 s92 s93 s94 s95 s96 s97 s98 s99 s100 s101 s102 s103 s104 s105 s106 s107 s108 s109 s110 s111 s112 s113 s114 s115 s116 s117 s118 s119 s120 s121 s122 s123 s124 s125 s126 s127 s128 s129 s130 s131 s132 s133 s134 s135 s136 s137 s138 s139 s140 s141 s142 s143 s144 s145 s146 s147 s148 s149 s150 s151 : Value} (K : Act → World → Prop) (Qp : Exit → Act → World → Prop)
    (hK : ∀ D W', w9.heap.size ≤ D → Below w9.heap.size w9 W' → Boxed W' w9.heap.size 3 (.int .i64 (lastOf (keysTo l1 l1.length))) → W'.heap[D]? = some (.deferred (some [])) → K { tmps := #[s0, s1, .pointer (some ⟨W.heap.size, 0, none⟩), s3, .pointer (some ⟨W.heap.size + 1 + 1, 0, none⟩), s5, s6, s7, s8, s9, s10, s11, .pointer (some ⟨w9.heap.size, 0, none⟩), s13, s14, s15, s16, s17, s18, s19, s20, s21, s22, s23, s24, s25, s26, s27, s28, s29, s30, s31, s32, s33, s34, s35, s36, s37, s38, s39, s40, s41, s42, s43, s44, s45, s46, s47, s48, s49, s50, s51, s52, s53, s54, s55, s56, s57, s58, s59, s60, s61, s62, s63, s64, s65, s66, s67, s68, s69, s70, s71, s72, s73, s74, s75, s76, s77, s78, s79, s80, s81, .func (.func 65) #[] #[.pointer (some ⟨w9.heap.size + 1, 0, none⟩)], s83, s84, s85, s86, s87, s88, s89, s90, s91, s92, s93, s94, s95, s96, s97, s98, s99, s100, s101, s102, s103, s104, s105, s106, s107, s108, s109, s110, s111, s112, s113, s114, s115, s116, s117, s118, s119, s120, s121, s122, s123, s124, s125, s126, s127, s128, s129, s130, s131, s132, s133, s134, s135, s136, s137, s138, s139, s140, s141, s142, s143, s144, s145, s146, s147, s148, s149, s150, s151], defers := [{ target := .collected D, args := #[] }] } W') :
    tellsRF.wp Try.prog (Exit.inBlock 0 (Exit.then K Qp)) { tmps := #[s0, s1, .pointer (some ⟨W.heap.size, 0, none⟩), s3, .pointer (some ⟨W.heap.size + 1 + 1, 0, none⟩), s5, s6, s7, s8, s9, s10, s11, .pointer (some ⟨w9.heap.size, 0, none⟩), s13, s14, s15, s16, s17, s18, s19, s20, s21, s22, s23, s24, s25, s26, s27, s28, s29, s30, s31, s32, s33, s34, s35, s36, s37, s38, s39, s40, s41, s42, s43, s44, s45, s46, s47, s48, s49, s50, s51, s52, s53, s54, s55, s56, s57, s58, s59, s60, s61, s62, s63, s64, s65, s66, s67, s68, s69, s70, s71, s72, s73, s74, s75, s76, s77, s78, s79, s80, s81, .func (.func 65) #[] #[.pointer (some ⟨w9.heap.size + 1, 0, none⟩)], s83, s84, s85, s86, s87, s88, s89, s90, s91, s92, s93, s94, s95, s96, s97, s98, s99, s100, s101, s102, s103, s104, s105, s106, s107, s108, s109, s110, s111, s112, s113, s114, s115, s116, s117, s118, s119, s120, s121, s122, s123, s124, s125, s126, s127, s128, s129, s130, s131, s132, s133, s134, s135, s136, s137, s138, s139, s140, s141, s142, s143, s144, s145, s146, s147, s148, s149, s150, s151], defers := [] }
      ((w9.alloc (.cells #[.int .i64 (-1)] 3)).alloc (Rl.box ⟨o1, v1, n1, i1, l1⟩ A1 c1)) := by
  have hbR : Below w9.heap.size w9 ((w9.alloc (.cells #[.int .i64 (-1)] 3)).alloc (Rl.box ⟨o1, v1, n1, i1, l1⟩ A1 c1)) := ((Below.refl _ _).alloc (Nat.le_refl _) _).alloc (by simp) _
  have hLast : Boxed ((w9.alloc (.cells #[.int .i64 (-1)] 3)).alloc (Rl.box ⟨o1, v1, n1, i1, l1⟩ A1 c1)) w9.heap.size 3 (.int .i64 (-1)) := (Boxed.new w9 3 (.int .i64 (-1))).alloc _
  have hbox := heap_alloc_new (w9.alloc (.cells #[.int .i64 (-1)] 3)) (Rl.box ⟨o1, v1, n1, i1, l1⟩ A1 c1)
  rw [World.size_alloc] at hbox
  have hsz : ((w9.alloc (.cells #[.int .i64 (-1)] 3)).alloc (Rl.box ⟨o1, v1, n1, i1, l1⟩ A1 c1)).heap.size = w9.heap.size + 2 := by simp
  have hT9 := T.t.lo.size
  simp only [tellsRF, tellsX, Try.f10, ctail, chead, cblk, Option.getD_some]
  generalize (w9.alloc (.cells #[.int .i64 (-1)] 3)).alloc (Rl.box ⟨o1, v1, n1, i1, l1⟩ A1 c1) = wR at *
  refine (wpIn_wide (n := 9)).1 ?_
  obtain ⟨F, hF⟩ : ∃ F, F = Fence.wide := ⟨_, rfl⟩
  have hro : F.round = none := by rw [hF]; rfl
  have h65 : F.fn 65 := by rw [hF]; trivial
  rw [← hF]
  have HF := Lib.hid hF; clear hF
  refine Rnd.wpIn_rangeFunc_box (F := F) (n := 9) (α := KeyAt l1) hro (by omega) (gf := 65) (lb := #[.pointer (some ⟨w9.heap.size + 1, 0, none⟩)]) rfl h65 (enters_of Try.func65 (by kernel_rfl) rfl)
    (keys_stopsA F 8 h65 hro (by omega) (w9.heap.size + 1) w9.heap.size ⟨o1, v1, n1, i1, l1⟩ A1 c1 wR hbox (by omega) (T.rx.rd.up hbR (Nat.le_refl _) (Nat.le_refl _)) (by simp only [maxLen]; omega)) (by omega) (fun _ => rfl)
    (fun x => .cells #[.string x.1.2.name, .int .u8 (x.1.2.type : Int), .bool x.1.2.key] 82) (fun _ => rfl)
    (fun B x t => (t.setIfInBounds 13 (.int .i64 (x.1.1 : Int))).setIfInBounds 14 (.pointer (some ⟨B, 0, none⟩)))
    (fun (pre : List (KeyAt l1)) W' => Boxed W' w9.heap.size 3 (.int .i64 (lastOf (ats pre))) ∧ Below w9.heap.size wR W')
    (fun j (pre : List (KeyAt l1)) _ => j = .ret ∧ Bad l1 (ats pre))
    (OwnFrom.and (Own.from (boxed_own w9.heap.size 3 (fun (pre : List (KeyAt l1)) => .int .i64 (lastOf (ats pre)))) _) (ownFrom_below (by omega) (by omega)))
    (fun j => fun s A B row hs hg hr => hs)
    ⟨hLast, Below.refl _ _⟩ (fun pre W' h => h.2.size) ?assign ?body ?done ?stop
  case assign =>
    rintro l ⟨⟨k, d⟩, hx⟩ W' K2 hK2
    simp only [encKA, encK, Col.v] at hK2 ⊢
    have HK := Lib.hid hK2; clear hK2 hx
    gi_wp2
    have h := HK.out
    simp [go_sem] at h
    exact h
  case body =>
    rintro l pre ⟨⟨k, d⟩, hx⟩ B W' hB hg ⟨hb, hBe⟩ _
    simp only [encKA, encK, Col.v] at hg ⊢
    have hx1 := hx.1
    have hx2 := hx.2
    simp only at hx1 hx2
    have hkl : k < l1.length := (List.getElem?_eq_some_iff.1 hx1).1
    have hls := ats_snoc pre ⟨⟨k, d⟩, hx⟩
    have hl1 := lastOf_lo (ats pre)
    have hl2 := lastOf_at pre
    have HX1 := Lib.hid hx1
    have HX2 := Lib.hid hx2
    have HLS := Lib.hid hls
    clear hx1 hx2 hls
    generalize hlp : lastOf (ats pre) = lp at *
    have HLP := Lib.hid hlp; clear hlp
    have hT : Tm ⟨o1, v1, n1, i1, l1⟩ b A c A' c' A1 c1 A2 c2 g4 g5 W W' := T.up (hbR.trans (hBe.mono (by omega)))
    have HT := Lib.hid hT; clear hT
    have HG := Lib.hid hg; clear hg
    have HB := Lib.hid hb; clear hb
    have HBe := Lib.hid hBe; clear hBe
    go_simp
    gi_wp2_with fail
    have hFw := HF.out
    subst hFw
    by_cases hle : (k : Int) ≤ lp
    · have hd : decide ((k : Int) ≤ lp) = true := by simpa using hle
      have HLE := Lib.hid hle; clear hle
      refine Rnd.wpIn_region_fx (fun _ => none) (by kernel_rfl) (by kernel_rfl) (by kernel_rfl) ?_
      first | (refine Mono.wpM_all rfl rfl (fun K hK => ?_); go_simp; refine hK _ ?_; clear hK K) | (refine Mono.wpM_skip rfl ?_)
      refine Mono.wpM_look (.int .i64 lp) rfl rfl (fun w5 hc _ => ?_) ?_
      · have q0 : w5.cell? ⟨w9.heap.size, 0, none⟩ = some (.int .i64 lp) := by rw [hc.cell (show w9.heap.size < W'.heap.size by have := HBe.out.size; omega)]; exact HB.out.cell
        go_simp
      repeat (first | (refine Mono.wpM_all rfl rfl (fun K hK => ?_); go_simp; refine hK _ ?_; clear hK K) | (refine Mono.wpM_skip rfl ?_; refine Mono.wpM_norm (fun K hK => ?_); go_simp; refine hK _ ?_; clear hK K))
      refine Mono.wpM_nil fun w6 hc6 _ => ?_
      have cr := (HT.out.up hc6).t.gr.cell
      have fr := (HT.out.up hc6).t.gr.frozen
      have HC := Lib.hid hc6; clear hc6 hd
      gi_wp2
      exact ⟨((keeps_below HC.out).trans (KeepsOthers.setCell _ _ _)).from _, rfl, ats pre, (k, d), HLS.out, .inl (by rw [HLP.out]; exact HLE.out)⟩
    · have hd : decide ((k : Int) ≤ lp) = false := by simpa using hle
      have hd2 : decide ((l1.length : Int) ≤ (k : Int)) = false := by simp; omega
      have hd3 : decide (l1.length ≤ k) = false := by simp; omega
      have hd4 : ¬ l1.length ≤ k := by omega
      have hi : (k : Int) < (l1.length : Int) := by omega
      have hlt2 : lp < (k : Int) := by omega
      have HLE := Lib.hid hlt2; clear hle hlt2
      obtain ⟨b', off, rfl, hbl, hcs⟩ := (hA.rd.below HT.out.t.lo (Nat.le_refl _)).col hkl
      simp only at hcs
      obtain ⟨k0, k1, k2⟩ := hcs k hkl
      have e : l1[k] = d := (List.getElem?_eq_some_iff.1 HX1.out).2
      rw [e] at k0 k1 k2
      have a4 : W'.cell? ⟨W.heap.size, 4, none⟩ = some (.slice (some ⟨b', off, none⟩) l1.length c) := cell_of_row _ _ 4 _ _ (0, 0) HT.out.t.ga
      have x0 : W'.cell? ⟨B, 0, none⟩ = some (.string d.name) := cell_of_row _ _ 0 _ _ (0, 0) HG.out
      have x1 : W'.cell? ⟨B, 1, none⟩ = some (.int .u8 (d.type : Int)) := cell_of_row _ _ 1 _ _ (0, 0) HG.out
      have x2 : W'.cell? ⟨B, 2, none⟩ = some (.bool true) := by rw [← HX2.out]; exact cell_of_row _ _ 2 _ _ (0, 0) HG.out
      have hblW : b' < W'.heap.size := by have := HBe.out.size; omega
      have HE := Lib.hid e; clear e k2
      have HCS := Lib.hid hcs; clear hcs hbl
      have hbl := hblW; clear hblW
      refine Rnd.wpIn_region_fx (fun _ => none) (by kernel_rfl) (by kernel_rfl) (by kernel_rfl) ?_
      first | (refine Mono.wpM_all rfl rfl (fun K hK => ?_); go_simp; refine hK _ ?_; clear hK K) | (refine Mono.wpM_skip rfl ?_)
      refine Mono.wpM_norm (fun K hK => ?_); go_simp; refine hK _ ?_; clear hK K
      refine Mono.wpM_look (.int .i64 lp) rfl rfl (fun w5 hc _ => ?_) ?_
      · have q0 : w5.cell? ⟨w9.heap.size, 0, none⟩ = some (.int .i64 lp) := by rw [hc.cell (show w9.heap.size < W'.heap.size by have := HBe.out.size; omega)]; exact HB.out.cell
        go_simp
      first | (refine Mono.wpM_all rfl rfl (fun K hK => ?_); go_simp; refine hK _ ?_; clear hK K) | (refine Mono.wpM_skip rfl ?_)
      first | (refine Mono.wpM_all rfl rfl (fun K hK => ?_); go_simp; refine hK _ ?_; clear hK K) | (refine Mono.wpM_skip rfl ?_)
      first | (refine Mono.wpM_all rfl rfl (fun K hK => ?_); go_simp; refine hK _ ?_; clear hK K) | (refine Mono.wpM_skip rfl ?_)
      first | (refine Mono.wpM_all rfl rfl (fun K hK => ?_); go_simp; refine hK _ ?_; clear hK K) | (refine Mono.wpM_skip rfl ?_)
      refine Mono.wpM_norm (fun K hK => ?_); go_simp; refine hK _ ?_; clear hK K
      refine Mono.wpM_look (.slice (some ⟨b', off, none⟩) l1.length c) rfl rfl (fun w5 hc _ => ?_) ?_
      · have q0 : w5.cell? ⟨W.heap.size, 4, none⟩ = some (.slice (some ⟨b', off, none⟩) l1.length c) := by rw [hc.cell (show W.heap.size < W'.heap.size by have := HBe.out.size; omega)]; exact a4
        go_simp
      first | (refine Mono.wpM_all rfl rfl (fun K hK => ?_); go_simp; refine hK _ ?_; clear hK K) | (refine Mono.wpM_skip rfl ?_)
      first | (refine Mono.wpM_all rfl rfl (fun K hK => ?_); go_simp; refine hK _ ?_; clear hK K) | (refine Mono.wpM_skip rfl ?_)
      first | (refine Mono.wpM_all rfl rfl (fun K hK => ?_); go_simp; refine hK _ ?_; clear hK K) | (refine Mono.wpM_skip rfl ?_)
      first | (refine Mono.wpM_all rfl rfl (fun K hK => ?_); go_simp; refine hK _ ?_; clear hK K) | (refine Mono.wpM_skip rfl ?_)
      first | (refine Mono.wpM_all rfl rfl (fun K hK => ?_); go_simp; refine hK _ ?_; clear hK K) | (refine Mono.wpM_skip rfl ?_)
      refine Mono.wpM_norm (fun K hK => ?_); go_simp; refine hK _ ?_; clear hK K
      refine Mono.wpM_look (.bool true) rfl rfl (fun w5 hc _ => ?_) ?_
      · have q0 : w5.cell? ⟨B, 2, none⟩ = some (.bool true) := by rw [hc.cell (show B < W'.heap.size by exact (Array.getElem?_eq_some_iff.1 HG.out).1)]; exact x2
        go_simp
      first | (refine Mono.wpM_all rfl rfl (fun K hK => ?_); go_simp; refine hK _ ?_; clear hK K) | (refine Mono.wpM_skip rfl ?_)
      first | (refine Mono.wpM_all rfl rfl (fun K hK => ?_); go_simp; refine hK _ ?_; clear hK K) | (refine Mono.wpM_skip rfl ?_)
      first | (refine Mono.wpM_all rfl rfl (fun K hK => ?_); go_simp; refine hK _ ?_; clear hK K) | (refine Mono.wpM_skip rfl ?_)
      first | (refine Mono.wpM_all rfl rfl (fun K hK => ?_); go_simp; refine hK _ ?_; clear hK K) | (refine Mono.wpM_skip rfl ?_)
      refine Mono.wpM_norm (fun K hK => ?_); go_simp; refine hK _ ?_; clear hK K
      refine Mono.wpM_look (.string d.name) rfl rfl (fun w5 hc _ => ?_) ?_
      · have q0 : w5.cell? ⟨B, 0, none⟩ = some (.string d.name) := by rw [hc.cell (show B < W'.heap.size by exact (Array.getElem?_eq_some_iff.1 HG.out).1)]; exact x0
        go_simp
      first | (refine Mono.wpM_all rfl rfl (fun K hK => ?_); go_simp; refine hK _ ?_; clear hK K) | (refine Mono.wpM_skip rfl ?_)
      refine Mono.wpM_norm (fun K hK => ?_); go_simp; refine hK _ ?_; clear hK K
      refine Mono.wpM_look (.slice (some ⟨b', off, none⟩) l1.length c) rfl rfl (fun w5 hc _ => ?_) ?_
      · have q0 : w5.cell? ⟨W.heap.size, 4, none⟩ = some (.slice (some ⟨b', off, none⟩) l1.length c) := by rw [hc.cell (show W.heap.size < W'.heap.size by have := HBe.out.size; omega)]; exact a4
        go_simp
      first | (refine Mono.wpM_all rfl rfl (fun K hK => ?_); go_simp; refine hK _ ?_; clear hK K) | (refine Mono.wpM_skip rfl ?_)
      first | (refine Mono.wpM_all rfl rfl (fun K hK => ?_); go_simp; refine hK _ ?_; clear hK K) | (refine Mono.wpM_skip rfl ?_)
      first | (refine Mono.wpM_all rfl rfl (fun K hK => ?_); go_simp; refine hK _ ?_; clear hK K) | (refine Mono.wpM_skip rfl ?_)
      refine Mono.wpM_norm (fun K hK => ?_); go_simp; refine hK _ ?_; clear hK K
      refine Mono.wpM_look (.string d.name) rfl rfl (fun w5 hc _ => ?_) ?_
      · have q0 : w5.cell? ⟨b', off + k * 3, none⟩ = some (.string d.name) := by rw [hc.cell hbl]; exact k0
        go_simp
      first | (refine Mono.wpM_all rfl rfl (fun K hK => ?_); go_simp; refine hK _ ?_; clear hK K) | (refine Mono.wpM_skip rfl ?_)
      first | (refine Mono.wpM_all rfl rfl (fun K hK => ?_); go_simp; refine hK _ ?_; clear hK K) | (refine Mono.wpM_skip rfl ?_)
      first | (refine Mono.wpM_all rfl rfl (fun K hK => ?_); go_simp; refine hK _ ?_; clear hK K) | (refine Mono.wpM_skip rfl ?_)
      first | (refine Mono.wpM_all rfl rfl (fun K hK => ?_); go_simp; refine hK _ ?_; clear hK K) | (refine Mono.wpM_skip rfl ?_)
      refine Mono.wpM_norm (fun K hK => ?_); go_simp; refine hK _ ?_; clear hK K
      refine Mono.wpM_look (.int .u8 (d.type : Int)) rfl rfl (fun w5 hc _ => ?_) ?_
      · have q0 : w5.cell? ⟨B, 1, none⟩ = some (.int .u8 (d.type : Int)) := by rw [hc.cell (show B < W'.heap.size by exact (Array.getElem?_eq_some_iff.1 HG.out).1)]; exact x1
        go_simp
      first | (refine Mono.wpM_all rfl rfl (fun K hK => ?_); go_simp; refine hK _ ?_; clear hK K) | (refine Mono.wpM_skip rfl ?_)
      refine Mono.wpM_norm (fun K hK => ?_); go_simp; refine hK _ ?_; clear hK K
      refine Mono.wpM_look (.slice (some ⟨b', off, none⟩) l1.length c) rfl rfl (fun w5 hc _ => ?_) ?_
      · have q0 : w5.cell? ⟨W.heap.size, 4, none⟩ = some (.slice (some ⟨b', off, none⟩) l1.length c) := by rw [hc.cell (show W.heap.size < W'.heap.size by have := HBe.out.size; omega)]; exact a4
        go_simp
      first | (refine Mono.wpM_all rfl rfl (fun K hK => ?_); go_simp; refine hK _ ?_; clear hK K) | (refine Mono.wpM_skip rfl ?_)
      first | (refine Mono.wpM_all rfl rfl (fun K hK => ?_); go_simp; refine hK _ ?_; clear hK K) | (refine Mono.wpM_skip rfl ?_)
      first | (refine Mono.wpM_all rfl rfl (fun K hK => ?_); go_simp; refine hK _ ?_; clear hK K) | (refine Mono.wpM_skip rfl ?_)
      refine Mono.wpM_norm (fun K hK => ?_); go_simp; refine hK _ ?_; clear hK K
      refine Mono.wpM_look (.int .u8 (d.type : Int)) rfl rfl (fun w5 hc _ => ?_) ?_
      · have q0 : w5.cell? ⟨b', off + k * 3 + 1, none⟩ = some (.int .u8 (d.type : Int)) := by rw [hc.cell hbl]; exact k1
        go_simp
      first | (refine Mono.wpM_all rfl rfl (fun K hK => ?_); go_simp; refine hK _ ?_; clear hK K) | (refine Mono.wpM_skip rfl ?_)
      first | (refine Mono.wpM_all rfl rfl (fun K hK => ?_); go_simp; refine hK _ ?_; clear hK K) | (refine Mono.wpM_skip rfl ?_)
      refine Mono.wpM_nil fun w6 hc6 _ => ?_
      clear x0 x1 x2 k0 k1 hd hd2 hd3 hd4
      have q12 : w6.cell? ⟨w9.heap.size, 0, none⟩ = some (.int .i64 lp) := by rw [hc6.cell (show w9.heap.size < W'.heap.size by have := HBe.out.size; omega)]; exact HB.out.cell
      have hw : IntKind.i64.wrap (lp + 1) = lp + 1 := by rw [IntKind.wrap_i64]; omega
      have HC6 := Lib.hid hc6; clear hc6
      have A4 := Lib.hid a4; clear a4
      gi_wp2
      clear q12 hw
      gi_loopw [15] (fun i wr => ∃ j : Nat, i = .int .i64 (j : Int) ∧ lp < (j : Int) ∧ j ≤ k ∧ Below W'.heap.size W' wr) (fun i _ => k - (intOf i).toNat)
      case atStart => exact ⟨(lp + 1).toNat, by rw [Int.toNat_of_nonneg (by omega)], by omega, by have := HLE.out; omega, HC6.out⟩
      case round =>
        obtain ⟨j, rfl, hlj, hjk, hbr⟩ := hrel
        by_cases hlt : j < k
        · have hjl : j < l1.length := by omega
          have hget : l1[j]? = some l1[j] := List.getElem?_eq_getElem hjl
          have hm := (HCS.out j hjl).2.2
          generalize l1[j] = d' at *
          have g4 : wr.cell? ⟨W.heap.size, 4, none⟩ = some (.slice (some ⟨b', off, none⟩) l1.length c) := by rw [hbr.cell (show W.heap.size < W'.heap.size by have := HBe.out.size; omega)]; exact A4.out
          have g2 : wr.cell? ⟨b', off + j * 3 + 2, none⟩ = some (.bool d'.key) := by rw [hbr.cell hbl]; exact hm
          have hj1 : (j : Int) < (k : Int) := by omega
          have hj2 : (j : Int) < (l1.length : Int) := by omega
          have HGET := Lib.hid hget; clear hget hm
          cases hkey : d'.key
          · rw [hkey] at g2
            clear hkey
            gi_wp2
            go_roundw
            case rel => exact ⟨j + 1, by go_num, by omega, by omega, hbr⟩
            case measure => simp [intOf]; omega
          · rw [hkey] at g2
            have HKEY := Lib.hid hkey; clear hkey
            have cr := (HT.out.up hbr).t.gr.cell
            have fr := (HT.out.up hbr).t.gr.frozen
            have HC := Lib.hid hbr; clear hbr
            gi_wp2
            exact ⟨((keeps_below HC.out).trans (KeepsOthers.setCell _ _ _)).from _, rfl, ats pre, (k, d), HLS.out, .inr ⟨j, d', by rw [HLP.out]; exact hlj, hlt, HGET.out, HKEY.out⟩⟩
        · obtain rfl : j = k := by omega
          have hbx : Boxed wr w9.heap.size 3 (.int .i64 lp) := (hbr.block _ (Array.getElem?_eq_some_iff.1 HB.out).1).trans HB.out
          have cr := hbx.cell
          have fr := hbx.frozen
          have HBX := Lib.hid hbx; clear hbx
          have HC := Lib.hid hbr; clear hbr
          gi_wp2
          have hm := HC.out.mono (show w9.heap.size ≤ W'.heap.size by have := HBe.out.size; omega)
          refine ⟨((keeps_below HC.out).trans (KeepsOthers.setCell _ _ _)).from _, hm.setCell (p := ⟨w9.heap.size, 0, none⟩) (Nat.le_refl _) _, ?_, (HBe.out.trans hm).setCell (p := ⟨w9.heap.size, 0, none⟩) (Nat.le_refl _) _⟩
          rw [HLS.out, lastOf_snoc]
          exact HBX.out.set _
  case done =>
    rintro D ys W' hD hys ⟨hb, hB⟩ hW
    refine hK D W' (by omega) (hbR.trans (hB.mono (by omega))) ?_ hW
    have e : ats ys = keysTo l1 l1.length := hys
    rw [← e]; exact hb
  case stop =>
    rintro D j pre W' hD ⟨k, d, hk, hkd, he⟩ ⟨rfl, hbad⟩ hW
    refine absurd hbad ?_
    unfold ats
    rw [he]
    exact not_bad hk
end Go.Proofs.Ytcblmcpmdpnlbaa
