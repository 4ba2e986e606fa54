/- posts.Find: by posts.change. -/
import Derived.Test.YtdpmfghlhgfhfaaDoorMut
set_option linter.unusedVariables false
set_option linter.unusedSimpArgs false
namespace Go.Proofs.YtdpmfghlhgfhfaaDoor
open Go.RowKit

theorem heap_set {W : World} {b j : Nat} {cs : Array Value} {T : TypeId} (v : Value) (h : W.heap[b]? = some (.cells cs T)) : (W.setCell ⟨b, j, none⟩ v).heap[b]? = some (.cells (cs.setIfInBounds j v) T) := by
  obtain ⟨hlt, hk⟩ := Array.getElem?_eq_some_iff.1 h
  show (W.heap.modify b _)[b]? = _
  rw [Array.getElem?_eq_getElem (by rw [Array.size_modify]; exact hlt), Array.getElem_modify_self, hk]
  rfl
/-- What the function does that hands the post out: 'b' holds it. -/
structure RDf (w : World) (m : List Ent) (b : Nat) (g cap i : Nat) (r : Int) (Wd W' : World) : Prop where
  ok : r = 0
  out : W'.os = Wd.os ∧ W'.tape = Wd.tape ∧ W'.output = Wd.output ∧ W'.heap.size = Wd.heap.size
  oth : ∀ k, k ≠ b → W'.heap[k]? = Wd.heap[k]?
  got : ∀ x, m[i]? = some x → W'.heap[b]? = some (.cells #[.int .i64 x.no, .int .i64 x.user, .string x.text, .int .i64 x.edits, .bool x.gone] 33)
set_option maxHeartbeats 1600000 in
theorem find1_calls (w : World) (m : List Ent) (i : Nat) (hi : i < m.length) (b g cap h0 : Nat) (Wd : World)
    (ho : Wd.ownsRow (h0 + 5) 33 5 (.slice (some ⟨g, 0, none⟩) m.length cap) m.length (encs m)) (hb : Wd.heap[b]? = some (.cells #[.int .i64 0, .int .i64 0, .string ⟨#[]⟩, .int .i64 0, .bool false] 33)) (l0 : b < h0) :
    Calls Tryd.prog 32 #[.pointer (some ⟨g, i * 5, none⟩), .pointer (some ⟨b, 0, none⟩)] Wd
      fun e W' => ∃ r, e = .returned (.int .i64 r) ∧ RDf w m b g cap i r Wd W' := by
  obtain ⟨_, _, hv, hgb, hgl⟩ := ho.form (by omega)
  cases hv
  have q0 := own_cell ho (i := i * 5) (u := .int .i64 m[i].no) (by have := encs_get m i hi 0 (by omega); rw [Nat.add_zero] at this; rw [this]; rfl)
  have q1 := own_cell ho (i := i * 5 + 1) (u := .int .i64 m[i].user) (by rw [encs_get m i hi 1 (by omega)]; rfl)
  have q2 := own_cell ho (i := i * 5 + 2) (u := .string m[i].text) (by rw [encs_get m i hi 2 (by omega)]; rfl)
  have q3 := own_cell ho (i := i * 5 + 3) (u := .int .i64 m[i].edits) (by rw [encs_get m i hi 3 (by omega)]; rfl)
  have q4 := own_cell ho (i := i * 5 + 4) (u := .bool m[i].gone) (by rw [encs_get m i hi 4 (by omega)]; rfl)
  have hx : m[i]? = some m[i] := List.getElem?_eq_getElem hi
  have HX := hide hx
  have p0 : Wd.cell? ⟨b, 0, none⟩ = some (.int .i64 0) := by simp [World.cell?, hb]
  have p1 : Wd.cell? ⟨b, 1, none⟩ = some (.int .i64 0) := by simp [World.cell?, hb]
  have p2 : Wd.cell? ⟨b, 2, none⟩ = some (.string ⟨#[]⟩) := by simp [World.cell?, hb]
  have p3 : Wd.cell? ⟨b, 3, none⟩ = some (.int .i64 0) := by simp [World.cell?, hb]
  have p4 : Wd.cell? ⟨b, 4, none⟩ = some (.bool false) := by simp [World.cell?, hb]
  have fz : ∀ j, Wd.frozen? ⟨b, j, none⟩ = false := fun j => by simp [World.frozen?, hb]
  have f0 := fz 0
  have f1 := fz 1
  have f2 := fz 2
  have f3 := fz 3
  have f4 := fz 4
  have HB := hide hb
  clear fz hx ho
  generalize m[i] = x at *
  go_enter Tryd.func32, Tryd.ntmps32
  go_wp2_with fail
  go_ret
  refine ⟨0, rfl, rfl, ⟨rfl, rfl, rfl, by simp only [World.size_setCell]⟩, fun k hk => ?_, fun y hy => ?_⟩
  · exact (Below.heap_setCell _ _ _ _ hk).trans ((Below.heap_setCell _ _ _ _ hk).trans ((Below.heap_setCell _ _ _ _ hk).trans ((Below.heap_setCell _ _ _ _ hk).trans (Below.heap_setCell _ _ _ _ hk))))
  · rw [unhide HX] at hy
    cases hy
    exact heap_set (j := 4) _ (heap_set (j := 3) _ (heap_set (j := 2) _ (heap_set (j := 1) _ (heap_set (j := 0) _ (unhide HB)))))

set_option maxHeartbeats 1600000 in
theorem find_calls (A : Option Addr) (n c : Nat) (l : List Ent) (no : Int) (w : World) (hr : RdE w A n l) (hT : Tabs w) :
    Calls Tryd.prog 17 #[.slice A n c, .int .i64 no] w (RetEE w (findL l no).1 (findL l no).2) := by
  obtain ⟨o0, ho0⟩ : ∃ o, o = Obj.cells #[.int .i64 0, .int .i64 0, .string ⟨#[]⟩, .int .i64 0, .bool false] 33 := ⟨_, rfl⟩
  obtain ⟨W, hW⟩ : ∃ W, (w.alloc o0).alloc o0 = W := ⟨_, rfl⟩
  have hbW : Below w.heap.size w W := by rw [← hW]; exact ((Below.refl _ w).alloc (Nat.le_refl _) _).alloc (by simp) _
  have hs : W.heap.size = w.heap.size + 2 := by rw [← hW]; simp
  have b0 : W.heap[w.heap.size]? = some o0 := by rw [← hW]; exact (Below.heap_alloc _ _ _ (by simp)).trans (World.alloc_heap_new w _)
  have b1 : W.heap[w.heap.size + 1]? = some o0 := by rw [← hW]; have := World.alloc_heap_new (w.alloc o0) o0; rwa [World.size_alloc] at this
  have HF : Hid (findL l no = if atI (fairL l) no < 0 then (Ent.zero, 5) else (((fairL l)[(atI (fairL l) no).toNat]?).getD Ent.zero, 0)) := rfl
  have K := hide (change_calls A n c l no 32 #[.pointer (some ⟨w.heap.size + 1, 0, none⟩)] W (hr.below hbW) (hT.below hbW) (RDf W (fairL l) (w.heap.size + 1))
      ⟨fun Wd g cap i hi ho hbd => find1_calls W (fairL l) i hi (w.heap.size + 1) g cap W.heap.size Wd ho ((hbd.block _ (by omega)).trans (ho0 ▸ b1)) (by omega), fun h => ⟨Nat.le_of_eq h.out.2.2.2.symm, fun k hk _ _ => h.oth k (by omega)⟩⟩ entersFind1)
  have HB0 := hide b0
  have HB1 := hide b1
  have HS := hide hs
  have HBW := hide hbW
  obtain ⟨x, r, hxr⟩ : ∃ x r, findL l no = (x, r) := ⟨_, _, rfl⟩
  rw [hxr] at HF ⊢
  clear b0 b1 hbW hs hr hT
  subst ho0
  go_enter Tryd.func17, Tryd.ntmps17
  go_wp2_with fail
  refine (unhide K).mono ?_
  intro e w2 hch
  have hmain : ∃ v, e = .returned (.tuple #[v, .int .i64 r]) ∧ Below w.heap.size w w2 ∧ w2.heap[w.heap.size]? = some (.cells #[.int .i64 0, .int .i64 0, .string ⟨#[]⟩, .int .i64 0, .bool false] 33) ∧
      w2.heap[w.heap.size + 1]? = some (.cells #[.int .i64 x.no, .int .i64 x.user, .string x.text, .int .i64 x.edits, .bool x.gone] 33) := by
    have hs := unhide HS
    rcases hch with ⟨h1, rfl, h2⟩ | ⟨i, g, cap, r', Wd, W', h1, hi, h2, h3, h4, h5, rfl⟩
    · have hf := unhide HF
      rw [h1, if_pos (by omega)] at hf
      cases hf
      exact ⟨_, rfl, (unhide HBW).trans (h2.mono (unhide HBW).size), (h2.block _ (by omega)).trans (unhide HB0), (h2.block _ (by omega)).trans (unhide HB1)⟩
    · have hf := unhide HF
      rw [h1, if_neg (by omega), Int.toNat_natCast, List.getElem?_eq_getElem hi] at hf
      cases hf
      obtain ⟨hr0, ⟨o1, o2, o3, o4⟩, hoth, hgot⟩ := h4
      subst hr0
      have hWW : Below w.heap.size w Wd := (unhide HBW).trans (h2.mono (unhide HBW).size)
      have h5s := h5.2.2.2.1
      have h2s := h2.size
      refine ⟨_, rfl, ⟨h5.1.trans (o1.trans hWW.os), h5.2.1.trans (o2.trans hWW.tape), h5.2.2.1.trans (o3.trans hWW.output), by omega, fun k hk => (h5.2.2.2.2 k (by omega)).trans ((hoth k (by omega)).trans (hWW.block k hk))⟩, ?_, ?_⟩
      · exact (h5.2.2.2.2 _ (by omega)).trans ((hoth _ (by omega)).trans ((h2.block _ (by omega)).trans (unhide HB0)))
      · exact (h5.2.2.2.2 _ (by omega)).trans (hgot _ (List.getElem?_eq_getElem hi))
  obtain ⟨v, rfl, hbb, k0, k1⟩ := hmain
  have p0 : w2.cell? ⟨w.heap.size + 1, 0, none⟩ = some (.int .i64 x.no) := by simp [World.cell?, k1]
  have p1 : w2.cell? ⟨w.heap.size + 1, 1, none⟩ = some (.int .i64 x.user) := by simp [World.cell?, k1]
  have p2 : w2.cell? ⟨w.heap.size + 1, 2, none⟩ = some (.string x.text) := by simp [World.cell?, k1]
  have p3 : w2.cell? ⟨w.heap.size + 1, 3, none⟩ = some (.int .i64 x.edits) := by simp [World.cell?, k1]
  have p4 : w2.cell? ⟨w.heap.size + 1, 4, none⟩ = some (.bool x.gone) := by simp [World.cell?, k1]
  have fz : ∀ j, w2.frozen? ⟨w.heap.size, j, none⟩ = false := fun j => by simp [World.frozen?, k0]
  have z0 : w2.cell? ⟨w.heap.size, 0, none⟩ = some (.int .i64 0) := by simp [World.cell?, k0]
  have z1 : w2.cell? ⟨w.heap.size, 1, none⟩ = some (.int .i64 0) := by simp [World.cell?, k0]
  have z2 : w2.cell? ⟨w.heap.size, 2, none⟩ = some (.string ⟨#[]⟩) := by simp [World.cell?, k0]
  have z3 : w2.cell? ⟨w.heap.size, 3, none⟩ = some (.int .i64 0) := by simp [World.cell?, k0]
  have z4 : w2.cell? ⟨w.heap.size, 4, none⟩ = some (.bool false) := by simp [World.cell?, k0]
  have f0 := fz 0
  have f1 := fz 1
  have f2 := fz 2
  have f3 := fz 3
  have f4 := fz 4
  have K0 := hide k0
  have HBB := hide hbb
  clear fz k0 k1 hbb hch
  go_wp2_with fail
  have hfin := heap_set (j := 4) (.bool x.gone) (heap_set (j := 3) (.int .i64 x.edits) (heap_set (j := 2) (.string x.text) (heap_set (j := 1) (.int .i64 x.user) (heap_set (j := 0) (.int .i64 x.no) (unhide K0)))))
  refine bodyPost_ret (v := .tuple #[.agg #[.int .i64 x.no, .int .i64 x.user, .string x.text, .int .i64 x.edits, .bool x.gone], .int .i64 r]) ?_ rfl ⟨rfl, ?_⟩
  · generalize ((((w2.setCell ⟨w.heap.size, 0, none⟩ (.int .i64 x.no)).setCell ⟨w.heap.size, 1, none⟩ (.int .i64 x.user)).setCell ⟨w.heap.size, 2, none⟩ (.string x.text)).setCell ⟨w.heap.size, 3, none⟩ (.int .i64 x.edits)).setCell ⟨w.heap.size, 4, none⟩ (.bool x.gone) = WF at *
    have c0 : WF.cell? ⟨w.heap.size, 0, none⟩ = some (.int .i64 x.no) := by simp [World.cell?, hfin]
    have c1 : WF.cell? ⟨w.heap.size, 1, none⟩ = some (.int .i64 x.user) := by simp [World.cell?, hfin]
    have c2 : WF.cell? ⟨w.heap.size, 2, none⟩ = some (.string x.text) := by simp [World.cell?, hfin]
    have c3 : WF.cell? ⟨w.heap.size, 3, none⟩ = some (.int .i64 x.edits) := by simp [World.cell?, hfin]
    have c4 : WF.cell? ⟨w.heap.size, 4, none⟩ = some (.bool x.gone) := by simp [World.cell?, hfin]
    simp [results, Tryd.results17, go_sem, c0, c1, c2, c3, c4]
  · exact (((((unhide HBB).setCell (p := ⟨w.heap.size, 0, none⟩) (Nat.le_refl _) _).setCell (p := ⟨w.heap.size, 1, none⟩) (Nat.le_refl _) _).setCell (p := ⟨w.heap.size, 2, none⟩) (Nat.le_refl _) _).setCell (p := ⟨w.heap.size, 3, none⟩) (Nat.le_refl _) _).setCell (p := ⟨w.heap.size, 4, none⟩) (Nat.le_refl _) _
end Go.Proofs.YtdpmfghlhgfhfaaDoor
