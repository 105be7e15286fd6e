/-
  Layer 24: does a ref pass (f38) (printed by gen_ev4.py).
-/
import Derived.Test.YtaaijgalminafaaEv3
import Derived.Laws.ResultCell
namespace Go.Proofs.Ytaaijgalminafaa
open Go.RowKit Mono
attribute [local go_sem] pureAt pureUpon
attribute [local irreducible] Mono.steps Mono.wpM

theorem results_cell_row_tmp {P : Program} {fn : Func} {p u : Tmp} {ty : TypeId} (h : fn.results = #[.cell p ty, .tmp u]) (tmps : Array Value) (w : World) (g : Nat) (t : TypeId) (cs : Array Value) (fr : Nat × Nat) (d : TypeDesc)
    (hp : tmps.getD p undef = .pointer (some ⟨g, 0, none⟩)) (hg : w.heap[g]? = some (.cells cs t fr))
    (hu : P.underlying ty = some d) (hd : (match d with | .struct _ | .array _ _ => true | _ => false) = true) (hi : (P.info? ty).map (·.size) = some cs.size) :
    (results fn tmps).run P w = .ok (.tuple #[.agg cs, tmps.getD u undef]) w := by
  rw [results_cell_tmp h, hp]
  simp [asAddr, run_loadVar_row w g t ty cs fr d hg hu hd hi, Result.andThen]
def rfF (x : Bool) : Nat → Option Fact
  | 4 => some (.val (.bool x))
  | _ => none
/-- Three blocks that have just been made. -/
theorem alloc3 {w W : World} {o0 o1 o2 : Obj} (h : ((w.alloc o0).alloc o1).alloc o2 = W) :
    Below w.heap.size w W ∧ W.heap[w.heap.size]? = some o0 ∧ W.heap[w.heap.size + 1]? = some o1 ∧ W.heap[w.heap.size + 1 + 1]? = some o2 ∧ W.heap.size = w.heap.size + 1 + 1 + 1 := by
  obtain ⟨-, h2, h3, h4, -, h7⟩ := alloc4 (w := w) (o0 := o0) (o1 := o1) (o2 := o2) (o3 := o2) rfl
  subst h
  have hz : (((w.alloc o0).alloc o1).alloc o2).heap.size = w.heap.size + 1 + 1 + 1 := by simp
  refine ⟨((Below.refl _ w).alloc (Nat.le_refl _) _).alloc (by simp) _ |>.alloc (by first | (simp; done) | (simp; omega)) _, ?_, ?_, ?_, hz⟩
  · rwa [heap_alloc_old _ _ (by rw [hz]; omega)] at h2
  · rwa [heap_alloc_old _ _ (by rw [hz]; omega)] at h3
  · rwa [heap_alloc_old _ _ (by rw [hz]; omega)] at h4
set_option maxRecDepth 100000 in
set_option maxHeartbeats 6400000 in
theorem ref_any (f : Fl) (A : Option Addr) (c : Nat) (r : Rf) (w : World) (hF : FlAt w w.heap.size f A c) (hl : f.oids.length ≤ 1000000) :
    Calls Try.prog 38 #[f.v A c, KF.v r] w fun e w' => e = .returned (.tuple #[KF.v r, .bool (f.oid r.oid)]) ∧ Below w.heap.size w w' := by
  obtain ⟨oid, ver⟩ := r
  have HF := Lib.hid hF; clear hF
  obtain ⟨x, hx⟩ : ∃ x, f.oid oid = x := ⟨_, rfl⟩
  have HX := Lib.hid hx
  rw [hx]
  clear hx
  obtain ⟨al, xs, kd, em⟩ := f
  show Calls Try.prog 38 #[.agg #[.bool al, .slice A xs.length c, .int .u8 kd, .bool em], .agg #[.int .u32 oid, .int .u32 ver]] w fun e w' => e = .returned (.tuple #[.agg #[.int .u32 oid, .int .u32 ver], .bool x]) ∧ Below w.heap.size w w'
  go_enter Try.func38, Try.ntmps38
  go_wp2_with fail
  generalize hW : World.alloc (World.alloc (World.alloc w _) _) _ = W
  obtain ⟨hb0, p0, p1, p2, hsz⟩ := alloc3 hW
  have HB := Lib.hid hb0; have P0 := Lib.hid p0; have P1 := Lib.hid p1; have P2 := Lib.hid p2
  clear hW hb0 p0 p1 p2
  have HFW := Lib.hid (HF.out.up HB.out (Nat.le_refl _) HB.out.size : FlAt W W.heap.size _ A c)
  refine wp_region_fx_tail 5 (rfF x) (by kernel_rfl) (by kernel_rfl) (by kernel_rfl) (by kernel_rfl) ?_
  refine wpM_look (.agg #[.int .u32 oid, .int .u32 ver]) rfl rfl (fun w6 hc6 _ => ?_) ?_
  · have c0 : w6.cell? ⟨w.heap.size + 1, 0, none⟩ = some (.int .u32 oid) := cell_of_row _ _ 0 _ 56 (0, 0) ((hc6.block _ (row_lt P1.out)).trans P1.out)
    have c1 : w6.cell? ⟨w.heap.size + 1, 1, none⟩ = some (.int .u32 ver) := cell_of_row _ _ 1 _ 56 (0, 0) ((hc6.block _ (row_lt P1.out)).trans P1.out)
    go_simp
  repeat (first | (refine wpM_skip rfl ?_) | (refine wpM_all rfl rfl (fun K hK => ?_); go_simp; refine hK _ ?_; clear hK K))
  refine wpM_look (.agg #[.bool al, .slice A xs.length c, .int .u8 kd, .bool em]) rfl rfl (fun w6 hc6 _ => ?_) ?_
  · have c0 : w6.cell? ⟨w.heap.size, 0, none⟩ = some (.bool al) := cell_of_row _ _ 0 _ 28 (0, 0) ((hc6.block _ (row_lt P0.out)).trans P0.out)
    have c1 : w6.cell? ⟨w.heap.size, 1, none⟩ = some (.slice A xs.length c) := cell_of_row _ _ 1 _ 28 (0, 0) ((hc6.block _ (row_lt P0.out)).trans P0.out)
    have c2 : w6.cell? ⟨w.heap.size, 2, none⟩ = some (.int .u8 kd) := cell_of_row _ _ 2 _ 28 (0, 0) ((hc6.block _ (row_lt P0.out)).trans P0.out)
    have c3 : w6.cell? ⟨w.heap.size, 3, none⟩ = some (.bool em) := cell_of_row _ _ 3 _ 28 (0, 0) ((hc6.block _ (row_lt P0.out)).trans P0.out)
    go_simp
  repeat (first | (refine wpM_skip rfl ?_) | (refine wpM_all rfl rfl (fun K hK => ?_); go_simp; refine hK _ ?_; clear hK K))
  refine wpM_look (.int .u32 oid) rfl rfl (fun w6 hc6 _ => ?_) ?_
  · have c0 : w6.cell? ⟨w.heap.size + 1, 0, none⟩ = some (.int .u32 oid) := cell_of_row _ _ 0 _ 56 (0, 0) ((hc6.block _ (row_lt P1.out)).trans P1.out)
    go_simp
  repeat (first | (refine wpM_skip rfl ?_) | (refine wpM_all rfl rfl (fun K hK => ?_); go_simp; refine hK _ ?_; clear hK K))
  refine wpM_eff rfl rfl (fun w9 hc9 _ => steps_enter (oid_any ⟨al, xs, kd, em⟩ A c oid w9 (HFW.out.ext hc9) hl) (by go_simp; first | done | rfl | exact ⟨rfl, rfl⟩) (bool_val HX rfl)) ?_
  rintro v4 ⟨wq, hq⟩
  obtain rfl : v4 = _ := hq
  clear wq
  repeat (first | (refine wpM_skip rfl ?_) | (refine wpM_all rfl rfl (fun K hK => ?_); go_simp; refine hK _ ?_; clear hK K))
  refine wpM_nil fun w10 hc10 hf => ?_
  show wpList _ _ _ [_, _] _ _
  have q2 := (hc10.block _ (row_lt P2.out)).trans P2.out
  have HB10 := Lib.hid (HB.out.trans (hc10.mono HB.out.size))
  have b0 : w10.cell? ⟨(w.heap.size + 1 + 1), 0, none⟩ = some (.int .u32 0) := cell_of_row _ _ 0 _ 56 (0, 0) q2
  have b1 : w10.cell? ⟨(w.heap.size + 1 + 1), 1, none⟩ = some (.int .u32 0) := cell_of_row _ _ 1 _ 56 (0, 0) q2
  have fzb : ∀ i, w10.frozen? ⟨(w.heap.size + 1 + 1), i, none⟩ = false := fun i => row_free q2 i
  have hh9 := row_set (row_set q2 0 (.int .u32 oid)) 1 (.int .u32 ver)
  have hb9 := (HB10.out.setCell (p := ⟨w.heap.size + 1 + 1, 0, none⟩) (by simp; omega) (.int .u32 oid)).setCell (p := ⟨w.heap.size + 1 + 1, 1, none⟩) (by simp; omega) (.int .u32 ver)
  have HB9 := Lib.hid hb9; have HH9 := Lib.hid hh9
  clear hb9 hh9 q2 hc10 hf
  go_wp2
  generalize (w10.setCell _ _).setCell _ _ = w9 at *
  exact ⟨rfl, _, results_cell_row_tmp rfl _ w9 _ 56 _ (0, 0) _ rfl HH9.out Try.underlying56 rfl (by kernel_rfl), rfl, HB9.out⟩
end Go.Proofs.Ytaaijgalminafaa
