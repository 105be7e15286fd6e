/-
  Layer 8, the law's Own: a relation of the document as the program's, by its contract.
-/
import Derived.Test.YtcblmcpmdpnlbaaReA
namespace Go.Proofs.Ytcblmcpmdpnlbaa
open Go.RowKit Mono
attribute [local go_sem] pureAt pureUpon

theorem Try.info82 : (Try.prog.info? 82).map (fun i => (i.zero, i.size, i.bytes)) = some (some (.agg #[.string .empty, .int .u8 0, .bool false]), 3, 24) := by kernel_rfl
def Rl.cells (r : Rl) (v : Value) : Array Value := #[.int .u32 (r.oid : Int), .int .u32 (r.ver : Int), .string r.name, .int .u8 (r.ident : Int), v]
/-- A call returned this relation, its columns the call's own. -/
def RetRl (e : TypeId) (r : Rl) (w : World) (en : Ending) (w' : World) : Prop :=
  ∃ v, en = .returned (.agg (r.cells v)) ∧ w'.ownsRow w.heap.size e 3 v r.cs.length (cols r.cs) ∧ Below w.heap.size w w'
theorem cols_snoc (l : List Col) (c : Col) : cols (l ++ [c]) = cols l ++ c.cells := by simp [cols]
theorem cells_news {w : World} {g : Nat} {cs : Array Value} {t : TypeId} (h : w.heap[g]? = some (.cells cs t (0, 0))) : ∀ j u, cs.toList[j]? = some u → w.cell? ((⟨g, 0, none⟩ : Addr).add j) = some u := by
  intro j u hu
  have : (⟨g, 0, none⟩ : Addr).add j = ⟨g, j, none⟩ := by unfold Addr.add; split <;> simp_all
  rw [this, cell_of_row _ _ j _ t (0, 0) h]
  simpa using hu
def owF (base : Nat) (o : Col) : Nat → Option Fact
  | 21 => some (.litK base 1 #[.string o.name, .int .u8 (o.type : Int), .bool o.key] 82)
  | _ => none

/-- What lies there while a relation is copied: the argument's box (type tb), the result's cell, the copy (type t), its columns so far (type e). -/
structure OwJ (tb t e : TypeId) (r : Rl) (A : Option Addr) (c : Nat) (w : World) (j : Nat) (v : Value) (wr : World) : Prop where
  b : Below w.heap.size w wr
  arg : wr.heap[w.heap.size]? = some (.cells (r.cells (.slice A r.cs.length c)) tb (0, 0))
  res : wr.heap[w.heap.size + 1]? = some (.cells #[.int .u32 0, .int .u32 0, .string ⟨#[]⟩, .int .u8 0, .slice none 0 0] t (0, 0))
  out : wr.heap[w.heap.size + 1 + 1]? = some (.cells (r.cells v) t (0, 0))
  own : wr.ownsRow (w.heap.size + 3) e 3 v j (cols (r.cs.take j))
theorem OwJ.later {tb t e : TypeId} {r : Rl} {A : Option Addr} {c j : Nat} {w wr w' : World} {v : Value} (h : OwJ tb t e r A c w j v wr) (hb : Below wr.heap.size wr w') : OwJ tb t e r A c w j v w' := by
  have kp : ∀ g o, wr.heap[g]? = some o → w'.heap[g]? = some o := fun g o hg => (hb.block g (Array.getElem?_eq_some_iff.1 hg).1).trans hg
  exact ⟨h.b.trans (hb.mono h.b.size), kp _ _ h.arg, kp _ _ h.res, kp _ _ h.out, h.own.kept (row := none) ⟨hb.os, hb.tape, hb.output, hb.size, fun k hk _ => hb.block k hk⟩ (by cases v.ownBlock <;> simp)⟩
/-- A column more. -/
theorem OwJ.step {tb t e : TypeId} {r : Rl} {A : Option Addr} {c j : Nat} {w w4 w8 : World} {v v8 : Value} {o : Col} (h : OwJ tb t e r A c w j v w4) (hg : w4.grownBy w8 v.ownBlock) (hown : w8.ownsRow (w.heap.size + 3) e 3 v8 (j + 1) (cols (r.cs.take j) ++ o.cells))
    (htk : r.cs.take (j + 1) = r.cs.take j ++ [o]) : OwJ tb t e r A c w (j + 1) v8 (w8.setCell ⟨w.heap.size + 1 + 1, 4, none⟩ v8) := by
  have hge : ∀ k, v.ownBlock = some k → w.heap.size + 3 ≤ k := fun k hk => (h.own.lt k hk).1
  have kp : ∀ g ob, g < w.heap.size + 3 → w4.heap[g]? = some ob → w8.heap[g]? = some ob := fun g ob hlt hgo =>
    (hg.block g (Array.getElem?_eq_some_iff.1 hgo).1 (fun e' => by have := hge g e'.symm; omega)).trans hgo
  have hsz := h.b.size
  refine ⟨(h.b.grown hg hsz (fun k hk => by have := hge k hk; omega)).setCell (p := ⟨w.heap.size + 1 + 1, 4, none⟩) (by simp; omega) _, ?_, ?_, ?_, ?_⟩
  · rw [Below.heap_setCell _ _ _ _ (by simp; omega)]; exact kp _ _ (by omega) h.arg
  · rw [Below.heap_setCell _ _ _ _ (by simp)]; exact kp _ _ (by omega) h.res
  · exact row_set (kp _ _ (by omega) h.out) 4 v8
  · rw [htk, cols_snoc]; exact ownsRow_setCell_below hown (by simp) v8
theorem own_size {w : World} {base n size : Nat} {e : TypeId} {v : Value} {xs : List Value} (h : w.ownsRow base e size v n xs) (g : Nat) (hg : g < base) : v.ownBlock ≠ some g := fun e' => by have := (h.lt g e').1; omega

set_option maxRecDepth 100000 in
set_option maxHeartbeats 3200000 in
theorem own_any (r : Rl) (A : Option Addr) (c : Nat) (w : World) (hR : Rd w w.heap.size 3 A r.cs.length (cols r.cs)) (hl : r.cs.length ≤ 1000) :
    Calls Try.prog 41 #[r.v A c] w (RetRl 82 r w) := by
  obtain ⟨o1, v1, n1, i1, cs⟩ := r
  simp only at hR hl
  obtain ⟨i0, hi, hz0, hz1, hz2⟩ := info_parts Try.info82
  have HR := Lib.hid hR; clear hR
  go_enter Try.func41, Try.ntmps41
  unfold Rl.v
  go_wp2_with fail
  have hJ : OwJ 65 69 82 ⟨o1, v1, n1, i1, cs⟩ A c w 0 (.slice none 0 0) (((w.alloc (.cells #[.int .u32 (o1 : Int), .int .u32 (v1 : Int), .string n1, .int .u8 (i1 : Int), .slice A cs.length c] 65)).alloc (.cells #[.int .u32 0, .int .u32 0, .string ⟨#[]⟩, .int .u8 0, .slice none 0 0] 69)).alloc (.cells #[.int .u32 (o1 : Int), .int .u32 (v1 : Int), .string n1, .int .u8 (i1 : Int), .slice none 0 0] 69)) := by
    refine ⟨(((Below.refl _ w).alloc (Nat.le_refl _) _).alloc (by simp) _).alloc (by simp; omega) _, ?_, ?_, ?_, World.ownsRow_nil _ _ _ _⟩
    · rw [Below.heap_alloc _ _ _ (by simp; omega), Below.heap_alloc _ _ _ (by simp)]; exact heap_alloc_new w _
    · rw [Below.heap_alloc _ _ _ (by simp)]; have := heap_alloc_new (w.alloc (.cells #[.int .u32 (o1 : Int), .int .u32 (v1 : Int), .string n1, .int .u8 (i1 : Int), .slice A cs.length c] 65)) (.cells #[.int .u32 0, .int .u32 0, .string ⟨#[]⟩, .int .u8 0, .slice none 0 0] 69); rwa [World.size_alloc] at this
    · have := heap_alloc_new ((w.alloc (.cells #[.int .u32 (o1 : Int), .int .u32 (v1 : Int), .string n1, .int .u8 (i1 : Int), .slice A cs.length c] 65)).alloc (.cells #[.int .u32 0, .int .u32 0, .string ⟨#[]⟩, .int .u8 0, .slice none 0 0] 69)) (.cells #[.int .u32 (o1 : Int), .int .u32 (v1 : Int), .string n1, .int .u8 (i1 : Int), .slice none 0 0] 69); rwa [World.size_alloc, World.size_alloc] at this
  generalize ((w.alloc _).alloc _).alloc _ = w1 at *
  go_loopw [4] (fun k wr => ∃ (j : Nat) (v : Value), k = .int .i64 (j : Int) ∧ j ≤ cs.length ∧ OwJ 65 69 82 ⟨o1, v1, n1, i1, cs⟩ A c w j v wr) (fun k _ => cs.length - (intOf k).toNat)
  case atStart => exact ⟨0, _, rfl, by omega, hJ⟩
  case round =>
    obtain ⟨j, v, rfl, hj, J⟩ := hrel
    clear hJ
    have hbs := J.b.size
    have hl1 := (Array.getElem?_eq_some_iff.1 J.out).1
    have a4 : wr.cell? ⟨w.heap.size, 4, none⟩ = some (.slice A cs.length c) := cell_of_row _ _ 4 _ 65 (0, 0) J.arg
    by_cases hlt : j < cs.length
    · obtain ⟨b, off, rfl, hbl, hcc⟩ := (HR.out.below J.b (Nat.le_refl _)).col hlt
      obtain ⟨k0, k1, k2⟩ := hcc j hlt
      have htk : Hid (cs.take (j + 1) = cs.take j ++ [cs[j]]) := List.take_succ_eq_append_getElem hlt
      clear hcc
      generalize cs[j] = o at *
      have hidx : (j : Int) < (cs.length : Int) := by omega
      have o4 : wr.cell? ⟨w.heap.size + 1 + 1, 4, none⟩ = some v := cell_of_row _ _ 4 _ 69 (0, 0) J.out
      go_wp2_with fail
      refine wp_region_fx_tail 22 (owF (w.heap.size + 3) o) (by kernel_rfl) (by kernel_rfl) (by kernel_rfl) (by kernel_rfl) ?_
      repeat (first | (refine wpM_skip rfl ?_) | (refine wpM_all rfl rfl (fun K hK => ?_); go_simp; refine hK _ ?_; clear hK K))
      refine wpM_look (v) rfl rfl (fun w6 hc6 _ => ?_) ?_
      · have c0 : w6.cell? ⟨w.heap.size + 1 + 1, 4, none⟩ = some (v) := by rw [hc6.cell (by simp; omega)]; exact o4
        go_simp
      repeat (first | (refine wpM_skip rfl ?_) | (refine wpM_all rfl rfl (fun K hK => ?_); go_simp; refine hK _ ?_; clear hK K))
      refine wpM_look (.slice (some ⟨b, off, none⟩) cs.length c) rfl rfl (fun w6 hc6 _ => ?_) ?_
      · have c0 : w6.cell? ⟨w.heap.size, 4, none⟩ = some (.slice (some ⟨b, off, none⟩) cs.length c) := by rw [hc6.cell (by simp; omega)]; exact a4
        go_simp
      repeat (first | (refine wpM_skip rfl ?_) | (refine wpM_all rfl rfl (fun K hK => ?_); go_simp; refine hK _ ?_; clear hK K))
      refine wpM_look (.string o.name) rfl rfl (fun w6 hc6 _ => ?_) ?_
      · have c0 : w6.cell? ⟨b, off + j * 3, none⟩ = some (.string o.name) := by rw [hc6.cell (by simp; omega)]; exact k0
        go_simp
      repeat (first | (refine wpM_skip rfl ?_) | (refine wpM_all rfl rfl (fun K hK => ?_); go_simp; refine hK _ ?_; clear hK K))
      refine wpM_look (.slice (some ⟨b, off, none⟩) cs.length c) rfl rfl (fun w6 hc6 _ => ?_) ?_
      · have c0 : w6.cell? ⟨w.heap.size, 4, none⟩ = some (.slice (some ⟨b, off, none⟩) cs.length c) := by rw [hc6.cell (by simp; omega)]; exact a4
        go_simp
      repeat (first | (refine wpM_skip rfl ?_) | (refine wpM_all rfl rfl (fun K hK => ?_); go_simp; refine hK _ ?_; clear hK K))
      refine wpM_look (.int .u8 (o.type : Int)) rfl rfl (fun w6 hc6 _ => ?_) ?_
      · have c0 : w6.cell? ⟨b, off + j * 3 + 1, none⟩ = some (.int .u8 (o.type : Int)) := by rw [hc6.cell (by simp; omega)]; exact k1
        go_simp
      repeat (first | (refine wpM_skip rfl ?_) | (refine wpM_all rfl rfl (fun K hK => ?_); go_simp; refine hK _ ?_; clear hK K))
      refine wpM_look (.slice (some ⟨b, off, none⟩) cs.length c) rfl rfl (fun w6 hc6 _ => ?_) ?_
      · have c0 : w6.cell? ⟨w.heap.size, 4, none⟩ = some (.slice (some ⟨b, off, none⟩) cs.length c) := by rw [hc6.cell (by simp; omega)]; exact a4
        go_simp
      repeat (first | (refine wpM_skip rfl ?_) | (refine wpM_all rfl rfl (fun K hK => ?_); go_simp; refine hK _ ?_; clear hK K))
      refine wpM_look (.bool o.key) rfl rfl (fun w6 hc6 _ => ?_) ?_
      · have c0 : w6.cell? ⟨b, off + j * 3 + 2, none⟩ = some (.bool o.key) := by rw [hc6.cell (by simp; omega)]; exact k2
        go_simp
      repeat (first | (refine wpM_skip rfl ?_) | (refine wpM_all rfl rfl (fun K hK => ?_); go_simp; refine hK _ ?_; clear hK K))
      refine wpM_eff rfl rfl (fun w6 hc6 _ => steps_litK rfl (by have := hc6.size; omega) (by go_simp)) ?_
      rintro v21 -
      refine wpM_nil fun w4 hc4 hf => ?_
      obtain ⟨g6, rfl, hg6, hh6⟩ : ∃ g, v21 = .slice (some ⟨g, 0, none⟩) 1 1 ∧ w.heap.size + 3 ≤ g ∧ w4.heap[g]? = some (.cells #[.string o.name, .int .u8 (o.type : Int), .bool o.key] 82 (0, 0)) := by have := hf 21; simpa [upd, fxR, owF, Fact.litK] using this
      clear hf
      show wpList _ _ _ [_, _, _] _ _
      have J4 := J.later hc4
      have hs4 := J4.b.size
      have o8 := fun w8 (hg : w4.grownBy w8 v.ownBlock) => (hg.block (w.heap.size + 1 + 1) (Array.getElem?_eq_some_iff.1 J4.out).1 (fun e' => by have := (J4.own.lt _ e'.symm).1; omega)).trans J4.out
      have Ho8 := Lib.hid o8
      have HJ4 := Lib.hid J4
      have how := J4.own
      simp only at how
      have hnews := cells_news hh6
      clear o8 J4 J hc4 a4 o4 k0 k1 k2 hh6
      go_wp2_with (at_builtin; refine wpList_append_own _ rfl _ _ 67 rfl (w.heap.size + 3) 82 i0 (.agg #[.string .empty, .int .u8 0, .bool false]) 3 24 Try.underlying67 hi hz0 hz1 hz2 rfl (by decide) _ _ _ rfl how ⟨g6, 0, none⟩ 1 1 [.string o.name, .int .u8 (o.type : Int), .bool o.key] rfl rfl hnews (by simp [Value.oneCell']) (by simp only [maxLen]; omega) (by omega) (by have := (Array.getElem?_eq_some_iff.1 HJ4.out.out).1; omega) ?_)
      intro v8 w8 hown8 hg8 _
      have J8 := HJ4.out.step hg8 hown8 htk.out
      obtain ⟨g8, cap8, rfl, _, _⟩ := own_form hown8 (by omega)
      have b8 := Ho8.out _ hg8
      have c8 : w8.cell? ⟨w.heap.size + 1 + 1, 4, none⟩ = some v := cell_of_row _ _ 4 _ 69 (0, 0) b8
      have f8 : w8.frozen? ⟨w.heap.size + 1 + 1, 4, none⟩ = false := by simp [World.frozen?, b8]
      clear hown8 hg8 b8 how hnews Ho8 HJ4
      go_wp2
      go_roundw
      case rel => exact ⟨j + 1, _, by go_num, by omega, J8⟩
      case measure => simp [intOf]; omega
    · have hje : j = cs.length := by omega
      obtain ⟨A', c', rfl, h1, h2, _⟩ := Rd.of_own J.own
      have o0 : wr.cell? ⟨w.heap.size + 1 + 1, 0, none⟩ = some (.int .u32 (o1 : Int)) := cell_of_row _ _ 0 _ 69 (0, 0) J.out
      have o1' : wr.cell? ⟨w.heap.size + 1 + 1, 1, none⟩ = some (.int .u32 (v1 : Int)) := cell_of_row _ _ 1 _ 69 (0, 0) J.out
      have o2 : wr.cell? ⟨w.heap.size + 1 + 1, 2, none⟩ = some (.string n1) := cell_of_row _ _ 2 _ 69 (0, 0) J.out
      have o3 : wr.cell? ⟨w.heap.size + 1 + 1, 3, none⟩ = some (.int .u8 (i1 : Int)) := cell_of_row _ _ 3 _ 69 (0, 0) J.out
      have o4 : wr.cell? ⟨w.heap.size + 1 + 1, 4, none⟩ = some (.slice A' j c') := cell_of_row _ _ 4 _ 69 (0, 0) J.out
      have r0 : wr.cell? ⟨w.heap.size + 1, 0, none⟩ = some (.int .u32 0) := cell_of_row _ _ 0 _ 69 (0, 0) J.res
      have r1 : wr.cell? ⟨w.heap.size + 1, 1, none⟩ = some (.int .u32 0) := cell_of_row _ _ 1 _ 69 (0, 0) J.res
      have r2 : wr.cell? ⟨w.heap.size + 1, 2, none⟩ = some (.string ⟨#[]⟩) := cell_of_row _ _ 2 _ 69 (0, 0) J.res
      have r3 : wr.cell? ⟨w.heap.size + 1, 3, none⟩ = some (.int .u8 0) := cell_of_row _ _ 3 _ 69 (0, 0) J.res
      have r4 : wr.cell? ⟨w.heap.size + 1, 4, none⟩ = some (.slice none 0 0) := cell_of_row _ _ 4 _ 69 (0, 0) J.res
      have fz : ∀ i, wr.frozen? ⟨w.heap.size + 1, i, none⟩ = false := fun i => by simp [World.frozen?, J.res]
      have f0 := fz 0
      have f1 := fz 1
      have f2 := fz 2
      have f3 := fz 3
      have f4 := fz 4
      have HJ := Lib.hid J; have HE := Lib.hid hje
      clear fz J hje
      go_wp2
      have J := HJ.out
      have hb9 : Below w.heap.size w (((((wr.setCell ⟨w.heap.size + 1, 0, none⟩ (.int .u32 (o1 : Int))).setCell ⟨w.heap.size + 1, 1, none⟩ (.int .u32 (v1 : Int))).setCell ⟨w.heap.size + 1, 2, none⟩ (.string n1)).setCell ⟨w.heap.size + 1, 3, none⟩ (.int .u8 (i1 : Int))).setCell ⟨w.heap.size + 1, 4, none⟩ (.slice A' j c')) :=
        ((((J.b.setCell (p := ⟨w.heap.size + 1, 0, none⟩) (by simp) _).setCell (p := ⟨w.heap.size + 1, 1, none⟩) (by simp) _).setCell (p := ⟨w.heap.size + 1, 2, none⟩) (by simp) _).setCell (p := ⟨w.heap.size + 1, 3, none⟩) (by simp) _).setCell (p := ⟨w.heap.size + 1, 4, none⟩) (by simp) _
      have hh9 := row_set (row_set (row_set (row_set (row_set J.res 0 (.int .u32 (o1 : Int))) 1 (.int .u32 (v1 : Int))) 2 (.string n1)) 3 (.int .u8 (i1 : Int))) 4 (.slice A' j c')
      have how9 := ownsRow_setCell_below (ownsRow_setCell_below (ownsRow_setCell_below (ownsRow_setCell_below (ownsRow_setCell_below J.own (a := ⟨w.heap.size + 1, 0, none⟩) (by simp) (.int .u32 (o1 : Int))) (a := ⟨w.heap.size + 1, 1, none⟩) (by simp) (.int .u32 (v1 : Int))) (a := ⟨w.heap.size + 1, 2, none⟩) (by simp) (.string n1)) (a := ⟨w.heap.size + 1, 3, none⟩) (by simp) (.int .u8 (i1 : Int))) (a := ⟨w.heap.size + 1, 4, none⟩) (by simp) (.slice A' j c')
      clear o0 o1' o2 o3 o4 r0 r1 r2 r3 r4 f0 f1 f2 f3 f4 HJ J
      generalize ((((wr.setCell _ _).setCell _ _).setCell _ _).setCell _ _).setCell _ _ = w9 at *
      have z0 : w9.cell? ⟨w.heap.size + 1, 0, none⟩ = some (.int .u32 (o1 : Int)) := cell_of_row _ _ 0 _ 69 (0, 0) hh9
      have z1 : w9.cell? ⟨w.heap.size + 1, 1, none⟩ = some (.int .u32 (v1 : Int)) := cell_of_row _ _ 1 _ 69 (0, 0) hh9
      have z2 : w9.cell? ⟨w.heap.size + 1, 2, none⟩ = some (.string n1) := cell_of_row _ _ 2 _ 69 (0, 0) hh9
      have z3 : w9.cell? ⟨w.heap.size + 1, 3, none⟩ = some (.int .u8 (i1 : Int)) := cell_of_row _ _ 3 _ 69 (0, 0) hh9
      have z4 : w9.cell? ⟨w.heap.size + 1, 4, none⟩ = some (.slice A' j c') := cell_of_row _ _ 4 _ 69 (0, 0) hh9
      refine bodyPost_ret (v := .agg #[.int .u32 (o1 : Int), .int .u32 (v1 : Int), .string n1, .int .u8 (i1 : Int), .slice A' j c']) (by simp [results, Try.f41, go_sem, z0, z1, z2, z3, z4]) rfl ⟨_, rfl, ?_, hb9⟩
      have hje := HE.out
      subst hje
      simp only [List.take_length] at how9
      exact own_le how9 (by omega)
end Go.Proofs.Ytcblmcpmdpnlbaa
