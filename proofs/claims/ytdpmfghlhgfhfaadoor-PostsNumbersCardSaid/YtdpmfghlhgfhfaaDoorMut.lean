/- posts.Find, Edit, Delete: by posts.change. -/
import Derived.Test.YtdpmfghlhgfhfaaDoorChange
set_option linter.unusedVariables false
set_option linter.unusedSimpArgs false
namespace Go.Proofs.YtdpmfghlhgfhfaaDoor
open Go.RowKit

theorem own_after {W W' : World} {h g base cap n size : Nat} {e : TypeId} {cs : List Value} (ho : W.ownsRow base e size (.slice (some ⟨g, 0, none⟩) n cap) n cs) (ha : After h g W W') :
    W'.ownsRow base e size (.slice (some ⟨g, 0, none⟩) n cap) n cs := by
  obtain ⟨h1, h2⟩ := ho
  refine ⟨h1, ?_⟩
  rcases h2 with ⟨h2, _⟩ | ⟨g', cap', cur, hv, hb, hh, r⟩
  · cases h2
  · have : g = g' := by injection hv with hv; injection hv with hv; injection hv with hv
    subst this
    exact .inr ⟨g, cap', cur, hv, hb, (ha.2.2.2.2 g (.inr rfl)).trans hh, r⟩
theorem After.below {h g : Nat} {W W' : World} (ha : After h g W W') (hs : h ≤ W.heap.size) : Below h W W' := ⟨ha.1, ha.2.1, ha.2.2.1, ha.2.2.2.1, fun k hk => ha.2.2.2.2 k (.inl hk)⟩
/-- What a function does that turns the post it is handed. -/
structure RDm (w : World) (m : List Ent) (F : Nat → List Ent × Int) (g cap i : Nat) (r : Int) (Wd W' : World) : Prop where
  bel : Below w.heap.size Wd W'
  oth : ∀ k, w.heap.size ≤ k → k < Wd.heap.size → k ≠ g → W'.heap[k]? = Wd.heap[k]?
  err : (F i).2 = r
  own : r = 0 → (F i).1.length = m.length ∧ W'.ownsRow (w.heap.size + 5) 33 5 (.slice (some ⟨g, 0, none⟩) m.length cap) m.length (encs (F i).1)
  bad : r ≠ 0 → (F i).1 = []
theorem change_ret {w0 w w' : World} {m : List Ent} {no : Int} {F : Nat → List Ent × Int} {e : Ending} (hb : Below w0.heap.size w0 w) (h : ChangeR w m no (RDm w m F) e w') :
    RetLE w0 (if atI m no < 0 then ([], 5) else F (atI m no).toNat) e w' := by
  rcases h with ⟨h1, rfl, h2⟩ | ⟨i, g, cap, r, Wd, W', h1, hi, h2, h3, h4, h5, rfl⟩
  · rw [h1, if_pos (by omega)]
    exact RetLE.nil rfl (hb.trans (h2.mono hb.size))
  · rw [h1, if_neg (by omega), Int.toNat_natCast]
    have hbb : Below w0.heap.size w0 w' := hb.trans (((h2.trans (h4.bel)).trans (h5.below (Nat.le_trans h2.size h4.bel.size))).mono hb.size)
    by_cases hr : r = 0
    · obtain ⟨hl, ho⟩ := h4.own hr
      simp only [hr, if_true]
      exact RetLE.own (m := (F i).1) (by rw [← hr, ← h4.err]) hl (own_after ho h5) hbb
    · simp only [hr, if_false]
      exact RetLE.nil (by rw [← h4.err, ← h4.bad hr]) hbb

/-! ### posts.Edit -/
set_option maxHeartbeats 1600000 in
theorem edit1_calls (m : List Ent) (i : Nat) (hi : i < m.length) (user : Int) (t : ByteArray) (w : World) (h0 b0 b1 : Nat) (Wd : World) (g cap : Nat) (hm : m[i].may = true)
    (ho : Wd.ownsRow (h0 + 5) 33 5 (.slice (some ⟨g, 0, none⟩) m.length cap) m.length (encs m)) (hh : w.heap.size = h0) (hb0 : Wd.cell? ⟨b0, 0, none⟩ = some (.int .i64 user)) (hb1 : Wd.cell? ⟨b1, 0, none⟩ = some (.string t))
    (l0 : b0 < h0) (l1 : b1 < h0) :
    Calls Tryd.prog 37 #[.pointer (some ⟨g, i * 5, none⟩), .pointer (some ⟨b0, 0, none⟩), .pointer (some ⟨b1, 0, none⟩)] Wd
      fun e W' => ∃ r, e = .returned (.int .i64 r) ∧ RDm w m (fun i => editAt m i user t) g cap i r Wd W' := by
  obtain ⟨_, _, hv, hgb, hgl⟩ := ho.form (by omega)
  cases hv
  have q1 := own_cell ho (i := i * 5 + 1) (u := .int .i64 m[i].user) (by rw [encs_get m i hi 1 (by omega)]; rfl)
  have q2 := own_cell ho (i := i * 5 + 2) (u := .string m[i].text) (by rw [encs_get m i hi 2 (by omega)]; rfl)
  have q3 := own_cell ho (i := i * 5 + 3) (u := .int .i64 m[i].edits) (by rw [encs_get m i hi 3 (by omega)]; rfl)
  have f2 := own_frozen ho (i * 5 + 2)
  have f3 := own_frozen ho (i * 5 + 3)
  have HE := hide (encs_edit m i hi t (m[i].edits + 1))
  obtain ⟨hed0, hed1⟩ := Ent.may_edits hm
  have HA : Hid (editAt m i user t = if m[i].user = user then (if 1073741824 ≤ m[i].edits then ([], 7) else (m.set i { m[i] with text := t, edits := m[i].edits + 1 }, 0)) else ([], 8)) := by
    simp only [Hid, editAt, List.getElem?_eq_getElem hi]
  have HO := hide ho
  have HGB := hide hgb
  have hng0 : b0 ≠ g := by omega
  have hng1 : b1 ≠ g := by omega
  have key : ∀ (r : Int), (editAt m i user t) = ([], r) → r ≠ 0 → ∀ n, RDm w m (fun i => editAt m i user t) g cap i r Wd (Wd.drewN n) := fun r hr h0 n =>
    ⟨below_drewN (Below.refl _ _) n, fun k _ _ _ => rfl, by rw [hr], fun h => absurd h h0, fun _ => by rw [hr]⟩
  have KEY := hide key
  clear key hm ho hgb
  generalize m[i] = x at *
  go_enter Tryd.func37, Tryd.ntmps37
  by_cases hu : x.user = user
  · have hu1 : (x.user != user) = false := by simpa using hu
    rw [if_pos hu] at HA
    clear hu
    go_wp2_with fail
    go_quiet (fail)
    by_cases hx : 1073741824 ≤ x.edits
    · rw [if_pos hx] at HA
      go_wp2_with fail
      go_ret
      exact ⟨7, rfl, (unhide KEY) 7 (unhide HA) (by omega) _⟩
    · rw [if_neg hx] at HA
      go_wp2_with fail
      go_ret
      refine ⟨0, rfl, (((below_drewN (Below.refl _ Wd) nq).setCell (p := ⟨g, i * 5 + 2, none⟩) (by have := unhide HGB; show w.heap.size ≤ g; omega) _).setCell (p := ⟨g, i * 5 + 3, none⟩) (by have := unhide HGB; show w.heap.size ≤ g; omega) _), fun k _ hk hkg => ?_, by rw [unhide HA], fun _ => ⟨by rw [unhide HA]; simp, ?_⟩, fun h => absurd rfl h⟩
      · exact (Below.heap_setCell _ _ _ _ (by show k ≠ _; exact hkg)).trans (Below.heap_setCell _ _ _ _ (by show k ≠ _; exact hkg))
      · rw [unhide HA, unhide HE]
        rw [hh]
        exact own_store (own_store (unhide HO) _ _) _ _
  · have hu1 : (x.user != user) = true := by simpa using hu
    rw [if_neg hu] at HA
    clear hu
    go_wp2_with fail
    go_quiet (fail)
    go_wp2_with fail
    go_ret
    exact ⟨8, rfl, (unhide KEY) 8 (unhide HA) (by omega) _⟩

theorem entersEdit1 : ∀ args w, (callFunc 37 args).run Tryd.prog w = .ok (.enter 37 args) w := enters_of Tryd.func37 (by kernel_rfl) rfl
theorem entersDelete1 : ∀ args w, (callFunc 38 args).run Tryd.prog w = .ok (.enter 38 args) w := enters_of Tryd.func38 (by kernel_rfl) rfl
theorem entersFind1 : ∀ args w, (callFunc 32 args).run Tryd.prog w = .ok (.enter 32 args) w := enters_of Tryd.func32 (by kernel_rfl) rfl

set_option maxHeartbeats 1600000 in
theorem edit_calls (A : Option Addr) (n c : Nat) (l : List Ent) (no user : Int) (t : ByteArray) (w : World) (hr : RdE w A n l) (hT : Tabs w) :
    Calls Tryd.prog 22 #[.slice A n c, .int .i64 no, .int .i64 user, .string t] w (RetLE w (editL l no user t)) := by
  obtain ⟨W, hW⟩ : ∃ W, (w.alloc (.cells #[.int .i64 user] 3)).alloc (.cells #[.string t] 9) = W := ⟨_, rfl⟩
  have hbW : Below w.heap.size w W := by rw [← hW]; exact ((Below.refl _ w).alloc (Nat.le_refl _) _).alloc (by simp) _
  have hs : W.heap.size = w.heap.size + 2 := by rw [← hW]; simp
  have c0 : W.cell? ⟨w.heap.size, 0, none⟩ = some (.int .i64 user) := by rw [← hW]; simp
  have c1 : W.cell? ⟨w.heap.size + 1, 0, none⟩ = some (.string t) := by rw [← hW]; simp
  have C0 := hide c0
  have C1 := hide c1
  have HBW := hide hbW
  have HS := hide hs
  have HR := hide (hr.below hbW)
  have HT := hide (hT.below hbW)
  have HF : Hid (editL l no user t = if tmay t = true then (if atI (fairL l) no < 0 then ([], 5) else editAt (fairL l) (atI (fairL l) no).toNat user t) else ([], 1)) := rfl
  have HMAY : Hid (∀ x ∈ fairL l, x.may = true) := fun x hx => fairL_may hx
  generalize editL l no user t = ANS at *
  clear hr hT hbW hs c0
  go_enter Tryd.func22, Tryd.ntmps22
  go_wp2_with fail
  refine (text_calls t W (unhide HT)).mono ?_
  rintro e w1 ⟨rfl, hb⟩
  have hb0w := (unhide HBW).trans (hb.mono (unhide HBW).size)
  have hs1 : w.heap.size + 2 ≤ w1.heap.size := by have := hb.size; have := unhide HS; omega
  have C0' := hide ((cell_below hb (unhide C0)))
  have C1' := hide ((cell_below hb (unhide C1)))
  cases hTT : tmay t with
  | false =>
    rw [hTT] at HF
    have HF2 : Hid (ANS = ([], 1)) := by rw [Hid, unhide HF]; rfl
    clear hTT
    go_wp2_with fail
    go_ret2
    exact RetLE.nil (unhide HF2) hb0w
  | true =>
    rw [hTT, if_pos rfl] at HF
    clear hTT
    have K := hide (change_calls A n c l no 37 #[.pointer (some ⟨w.heap.size, 0, none⟩), .pointer (some ⟨w.heap.size + 1, 0, none⟩)] w1 ((unhide HR).below hb) ((unhide HT).below hb) (RDm w1 (fairL l) (fun i => editAt (fairL l) i user t))
      ⟨fun Wd g cap i hi ho hbd => edit1_calls (fairL l) i hi user t w1 w1.heap.size w.heap.size (w.heap.size + 1) Wd g cap (unhide HMAY _ (List.getElem_mem hi)) ho rfl (cell_below hbd (unhide C0')) (cell_below hbd (unhide C1')) (by omega) (by omega), fun h => ⟨h.bel.size, h.oth⟩⟩ entersEdit1)
    clear c1
    go_wp2_with fail
    refine (unhide K).mono ?_
    intro e w2 hch
    have hret := change_ret (F := fun i => editAt (fairL l) i user t) hb0w hch
    rw [← unhide HF] at hret
    obtain ⟨A', n', c', rfl, hrd, hcap, hbb⟩ := hret
    go_wp2_with fail
    go_ret2
    exact ⟨A', n', c', rfl, hrd, hcap, hbb⟩

/-! ### posts.Delete -/
set_option maxHeartbeats 1600000 in
theorem delete1_calls (m : List Ent) (i : Nat) (hi : i < m.length) (user owner : Int) (w : World) (h0 b0 b1 : Nat) (Wd : World) (g cap : Nat)
    (ho : Wd.ownsRow (h0 + 5) 33 5 (.slice (some ⟨g, 0, none⟩) m.length cap) m.length (encs m)) (hh : w.heap.size = h0) (hb0 : Wd.cell? ⟨b0, 0, none⟩ = some (.int .i64 user)) (hb1 : Wd.cell? ⟨b1, 0, none⟩ = some (.int .i64 owner))
    (l0 : b0 < h0) (l1 : b1 < h0) :
    Calls Tryd.prog 38 #[.pointer (some ⟨g, i * 5, none⟩), .pointer (some ⟨b0, 0, none⟩), .pointer (some ⟨b1, 0, none⟩)] Wd
      fun e W' => ∃ r, e = .returned (.int .i64 r) ∧ RDm w m (fun i => delAt m i user owner) g cap i r Wd W' := by
  obtain ⟨_, _, hv, hgb, hgl⟩ := ho.form (by omega)
  cases hv
  have q1 := own_cell ho (i := i * 5 + 1) (u := .int .i64 m[i].user) (by rw [encs_get m i hi 1 (by omega)]; rfl)
  have q2 := own_cell ho (i := i * 5 + 2) (u := .string m[i].text) (by rw [encs_get m i hi 2 (by omega)]; rfl)
  have q4 := own_cell ho (i := i * 5 + 4) (u := .bool m[i].gone) (by rw [encs_get m i hi 4 (by omega)]; rfl)
  have f2 := own_frozen ho (i * 5 + 2)
  have f4 := own_frozen ho (i * 5 + 4)
  have HE := hide (encs_gone m i hi)
  have HA : Hid (delAt m i user owner = if m[i].user = user ∨ user = owner then (m.set i { m[i] with text := ⟨#[]⟩, gone := true }, 0) else ([], 8)) := by
    simp only [Hid, delAt, List.getElem?_eq_getElem hi]
  have HO := hide ho
  have HGB := hide hgb
  have hng0 : b0 ≠ g := by omega
  have hng1 : b1 ≠ g := by omega
  have key : ∀ (r : Int), (delAt m i user owner) = ([], r) → r ≠ 0 → ∀ n, RDm w m (fun i => delAt m i user owner) g cap i r Wd (Wd.drewN n) := fun r hr h0 n =>
    ⟨below_drewN (Below.refl _ _) n, fun k _ _ _ => rfl, by rw [hr], fun h => absurd h h0, fun _ => by rw [hr]⟩
  have KEY := hide key
  have OKK : Hid (∀ N, delAt m i user owner = (m.set i { m[i] with text := ⟨#[]⟩, gone := true }, 0) → RDm w m (fun i => delAt m i user owner) g cap i 0 Wd (((Wd.drewN N).setCell ⟨g, i * 5 + 2, none⟩ (.string ⟨#[]⟩)).setCell ⟨g, i * 5 + 4, none⟩ (.bool true))) := fun N HA => by
    refine ⟨(((below_drewN (Below.refl _ Wd) N).setCell (p := ⟨g, i * 5 + 2, none⟩) (by have := unhide HGB; show w.heap.size ≤ g; omega) _).setCell (p := ⟨g, i * 5 + 4, none⟩) (by have := unhide HGB; show w.heap.size ≤ g; omega) _), fun k _ hk hkg => ?_, by rw [HA], fun _ => ⟨by rw [HA]; simp, ?_⟩, fun h => absurd rfl h⟩
    · exact (Below.heap_setCell _ _ _ _ (by show k ≠ _; exact hkg)).trans (Below.heap_setCell _ _ _ _ (by show k ≠ _; exact hkg))
    · rw [HA, unhide HE]
      rw [hh]
      exact own_store (own_store (show (Wd.drewN N).ownsRow _ _ _ _ _ _ from unhide HO) _ _) _ _
  clear key ho hgb HE
  generalize m[i] = x at *
  by_cases hu : x.user = user
  · have hu1 : (user != x.user) = false := by simp [hu]
    have HA2 : Hid (delAt m i user owner = (m.set i { x with text := ⟨#[]⟩, gone := true }, 0)) := by rw [Hid, unhide HA, if_pos (.inl hu)]
    clear hu
    go_enter Tryd.func38, Tryd.ntmps38
    go_wp2_with fail
    go_quiet (fail)
    go_wp2_with fail
    go_ret
    exact ⟨0, rfl, (unhide OKK) _ (unhide HA2)⟩
  · have hu1 : (user != x.user) = true := by simpa using fun h => hu h.symm
    by_cases hw : user = owner
    · have hw1 : (user != owner) = false := by simp [hw]
      have HA2 : Hid (delAt m i user owner = (m.set i { x with text := ⟨#[]⟩, gone := true }, 0)) := by rw [Hid, unhide HA, if_pos (.inr hw)]
      clear hu hw
      go_enter Tryd.func38, Tryd.ntmps38
      go_wp2_with fail
      go_quiet (fail)
      go_wp2_with fail
      go_ret
      exact ⟨0, rfl, (unhide OKK) _ (unhide HA2)⟩
    · have hw1 : (user != owner) = true := by simpa using hw
      have HA2 : Hid (delAt m i user owner = ([], 8)) := by rw [Hid, unhide HA, if_neg (fun h => h.elim hu hw)]
      clear hu hw
      go_enter Tryd.func38, Tryd.ntmps38
      go_wp2_with fail
      go_quiet (fail)
      go_wp2_with fail
      go_ret
      exact ⟨8, rfl, (unhide KEY) 8 (unhide HA2) (by omega) _⟩

set_option maxHeartbeats 1600000 in
theorem delete_calls (A : Option Addr) (n c : Nat) (l : List Ent) (no user owner : Int) (w : World) (hr : RdE w A n l) (hT : Tabs w) :
    Calls Tryd.prog 23 #[.slice A n c, .int .i64 no, .int .i64 user, .int .i64 owner] w (RetLE w (delL l no user owner)) := by
  obtain ⟨W, hW⟩ : ∃ W, (w.alloc (.cells #[.int .i64 user] 3)).alloc (.cells #[.int .i64 owner] 3) = W := ⟨_, rfl⟩
  have hbW : Below w.heap.size w W := by rw [← hW]; exact ((Below.refl _ w).alloc (Nat.le_refl _) _).alloc (by simp) _
  have hs : W.heap.size = w.heap.size + 2 := by rw [← hW]; simp
  have c0 : W.cell? ⟨w.heap.size, 0, none⟩ = some (.int .i64 user) := by rw [← hW]; simp
  have c1 : W.cell? ⟨w.heap.size + 1, 0, none⟩ = some (.int .i64 owner) := by rw [← hW]; simp
  have HBW := hide hbW
  have HF : Hid (delL l no user owner = if atI (fairL l) no < 0 then ([], 5) else delAt (fairL l) (atI (fairL l) no).toNat user owner) := rfl
  have K := hide (change_calls A n c l no 38 #[.pointer (some ⟨w.heap.size, 0, none⟩), .pointer (some ⟨w.heap.size + 1, 0, none⟩)] W (hr.below hbW) (hT.below hbW) (RDm W (fairL l) (fun i => delAt (fairL l) i user owner))
      ⟨fun Wd g cap i hi ho hbd => delete1_calls (fairL l) i hi user owner W W.heap.size w.heap.size (w.heap.size + 1) Wd g cap ho rfl (cell_below hbd c0) (cell_below hbd c1) (by omega) (by omega), fun h => ⟨h.bel.size, h.oth⟩⟩ entersDelete1)
  generalize delL l no user owner = ANS at *
  clear hr hT hbW hs c0 c1
  go_enter Tryd.func23, Tryd.ntmps23
  go_wp2_with fail
  refine (unhide K).mono ?_
  intro e w2 hch
  have hret := change_ret (F := fun i => delAt (fairL l) i user owner) (unhide HBW) hch
  rw [← unhide HF] at hret
  obtain ⟨A', n', c', rfl, hrd, hcap, hbb⟩ := hret
  go_wp2_with fail
  go_ret2
  exact ⟨A', n', c', rfl, hrd, hcap, hbb⟩
end Go.Proofs.YtdpmfghlhgfhfaaDoor
