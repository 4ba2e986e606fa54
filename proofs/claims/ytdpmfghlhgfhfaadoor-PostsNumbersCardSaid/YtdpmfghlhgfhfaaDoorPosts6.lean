/- The reference's Edit, Delete. -/
import Derived.Test.YtdpmfghlhgfhfaaDoorPosts5
set_option linter.unusedVariables false
set_option linter.unusedSimpArgs false
namespace Go.Proofs.YtdpmfghlhgfhfaaDoor
open Go.RowKit

theorem encs_set : ∀ (m : List Ent) (i : Nat) (hi : i < m.length) (y : Ent),
    encs (m.set i y) = ((((((encs m).set (i * 5) (.int .i64 y.no)).set (i * 5 + 1) (.int .i64 y.user)).set (i * 5 + 2) (.string y.text)).set (i * 5 + 3) (.int .i64 y.edits)).set (i * 5 + 4) (.bool y.gone))
  | x :: t, 0, _, y => by simp [encs, Ent.enc]
  | x :: t, i + 1, hi, y => by
    have ih := encs_set t i (by simpa using hi) y
    have e : ∀ l : List Ent, encs (x :: l) = x.enc ++ encs l := fun l => rfl
    rw [List.set_cons_succ, e, e, ih]
    have k : ∀ (j : Nat) (l : List Value) (v : Value), (x.enc ++ l).set ((i + 1) * 5 + j) v = x.enc ++ l.set (i * 5 + j) v := fun j l v => by
      rw [List.set_append_right _ _ (by rw [Ent.enc_length]; omega), Ent.enc_length]
      congr 2
      omega
    have k0 := fun l v => k 0 l v
    simp only [Nat.add_zero] at k0
    rw [k0, k 1, k 2, k 3, k 4]
theorem encs_get (m : List Ent) (i : Nat) (hi : i < m.length) (j : Nat) (hj : j < 5) : (encs m)[i * 5 + j]? = (m[i].enc)[j]? := flat_at _ 5 Ent.enc_length m i j hi hj
/-- One that says something else. -/
theorem encs_edit (m : List Ent) (i : Nat) (hi : i < m.length) (t : ByteArray) (ed : Int) :
    encs (m.set i { m[i] with text := t, edits := ed }) = ((encs m).set (i * 5 + 2) (.string t)).set (i * 5 + 3) (.int .i64 ed) := by
  have h0 := encs_get m i hi 0 (by omega)
  have h1 := encs_get m i hi 1 (by omega)
  have h4 := encs_get m i hi 4 (by omega)
  rw [encs_set m i hi]
  dsimp only
  rw [set_same (α := Value) (v := .int .i64 m[i].no) (by exact h0), set_same (α := Value) (v := .int .i64 m[i].user) (by exact h1)]
  rw [set_same (α := Value) (v := .bool m[i].gone)]
  rw [List.getElem?_set_ne (by omega), List.getElem?_set_ne (by omega)]
  exact h4
/-- One that goes. -/
theorem encs_gone (m : List Ent) (i : Nat) (hi : i < m.length) :
    encs (m.set i { m[i] with text := ⟨#[]⟩, gone := true }) = ((encs m).set (i * 5 + 2) (.string ⟨#[]⟩)).set (i * 5 + 4) (.bool true) := by
  have h0 := encs_get m i hi 0 (by omega)
  have h1 := encs_get m i hi 1 (by omega)
  have h3 := encs_get m i hi 3 (by omega)
  rw [encs_set m i hi]
  dsimp only
  rw [set_same (α := Value) (v := .int .i64 m[i].no) (by exact h0), set_same (α := Value) (v := .int .i64 m[i].user) (by exact h1)]
  rw [set_same (α := Value) (i := i * 5 + 3) (v := .int .i64 m[i].edits)]
  rw [List.getElem?_set_ne (by omega)]
  exact h3

theorem okFrom_all : ∀ (l : List Ent) (p : Option Int), okFrom p l = true → ∀ x ∈ l, x.may = true
  | [], _, _, x, hx => by cases hx
  | y :: t, p, h, x, hx => by
    simp only [okFrom, Bool.and_eq_true] at h
    rcases List.mem_cons.1 hx with rfl | hx
    · exact h.1.1
    · exact okFrom_all t _ h.2 x hx
theorem fairL_may {l : List Ent} {x : Ent} (hx : x ∈ fairL l) : x.may = true := by
  unfold fairL at hx
  split at hx
  · rename_i h
    simp only [mayL, Bool.and_eq_true] at h
    exact okFrom_all l _ h.1 x hx
  · cases hx
theorem fairL_len (l : List Ent) : (fairL l).length ≤ 32 := by
  unfold fairL
  split
  · rename_i h
    simp only [mayL, Bool.and_eq_true, decide_eq_true_eq] at h
    exact h.2
  · simp

def editAt (m : List Ent) (i : Nat) (user : Int) (t : ByteArray) : List Ent × Int :=
  match m[i]? with
  | none => ([], 5)
  | some x => if x.user = user then (if 1073741824 ≤ x.edits then ([], 7) else (m.set i { x with text := t, edits := x.edits + 1 }, 0)) else ([], 8)
/-- Posts with one that says something else. -/
def editL (l : List Ent) (no user : Int) (t : ByteArray) : List Ent × Int :=
  if tmay t = true then (if atI (fairL l) no < 0 then ([], 5) else editAt (fairL l) (atI (fairL l) no).toNat user t) else ([], 1)
def delAt (m : List Ent) (i : Nat) (user owner : Int) : List Ent × Int :=
  match m[i]? with
  | none => ([], 5)
  | some x => if x.user = user ∨ user = owner then (m.set i { x with text := ⟨#[]⟩, gone := true }, 0) else ([], 8)
/-- Posts with one that is gone. -/
def delL (l : List Ent) (no user owner : Int) : List Ent × Int :=
  if atI (fairL l) no < 0 then ([], 5) else delAt (fairL l) (atI (fairL l) no).toNat user owner
/-- Posts and an error. -/
def RetLE (w : World) (p : List Ent × Int) (e : Ending) (w' : World) : Prop :=
  ∃ A n c, e = .returned (.tuple #[.slice A n c, .int .i64 p.2]) ∧ RdE w' A n p.1 ∧ n ≤ c ∧ Below w.heap.size w w'
theorem RetLE.nil {w w' : World} {p : List Ent × Int} {r : Int} (h : p = ([], r)) (hb : Below w.heap.size w w') : RetLE w p (.returned (.tuple #[.slice none 0 0, .int .i64 r])) w' := by
  subst h
  exact ⟨none, 0, 0, rfl, ⟨rfl, Reads.nil none⟩, Nat.le_refl _, hb⟩
theorem RetLE.own {w w' : World} {p : List Ent × Int} {m : List Ent} {v : Value} {r : Int} {n : Nat} {base : Nat} (h : p = (m, r)) (hl : m.length = n) (ho : w'.ownsRow base 33 5 v n (encs m)) (hb : Below w.heap.size w w') : RetLE w p (.returned (.tuple #[v, .int .i64 r])) w' := by
  subst h
  obtain ⟨A, c, rfl, hr, hc⟩ := own_open ho
  exact ⟨A, n, c, rfl, ⟨hl, hr⟩, hc, hb⟩

set_option maxHeartbeats 1600000 in
theorem refEdit_calls (A : Option Addr) (n c : Nat) (l : List Ent) (no user : Int) (t : ByteArray) (w : World) (hr : RdE w A n l) :
    Calls Tryd.prog 26 #[.slice A n c, .int .i64 no, .int .i64 user, .string t] w (RetLE w (editL l no user t)) := by
  have K := hide (refFair_calls A n c l w hr)
  obtain ⟨m, hm⟩ : ∃ m, fairL l = m := ⟨_, rfl⟩
  have HF : Hid (editL l no user t = if tmay t = true then (if atI m no < 0 then ([], 5) else editAt m (atI m no).toNat user t) else ([], 1)) := by simp only [Hid, editL, hm]
  rw [hm] at K
  have HMAY : Hid (∀ x ∈ m, x.may = true) := fun x hx => fairL_may (hm ▸ hx)
  generalize editL l no user t = ANS at *
  clear hm hr
  have HSP := hide (atFrom_spec no m 0)
  go_enter Tryd.func26, Tryd.ntmps26
  go_wp2_with fail
  refine (unhide K).mono ?_
  rintro e w1 ⟨v, rfl, hown, hb⟩
  obtain ⟨A', c', rfl, hrd, hcap⟩ := own_open hown
  have HO := hide hown
  have HRD := hide hrd
  clear hown hrd
  go_wp2_with fail
  refine (refText_calls t w1).mono ?_
  rintro e w' ⟨rfl, rfl⟩
  cases hT : tmay t with
  | false =>
    rw [hT] at HF
    have HF2 : Hid (ANS = ([], 1)) := by rw [Hid, unhide HF]; rfl
    clear hT
    go_wp2_with fail
    go_ret2
    exact RetLE.nil (unhide HF2) hb
  | true =>
    rw [hT, if_pos rfl] at HF
    clear hT
    go_wp2_with fail
    refine (refAt_calls A' m.length c' m no w1 ⟨rfl, unhide HRD⟩).mono ?_
    rintro e w2 ⟨rfl, hb2⟩
    have hbb := hb.trans (hb2.mono hb.size)
    have HBB := hide hbb
    have HO2 := hide (own_below (unhide HO) hb2)
    clear HO hb hb2 hbb
    rcases unhide HSP with ⟨h1, _⟩ | ⟨i, hi, h1, h2, h3, h4⟩
    · have h1' : atI m no = -1 := h1
      have HA : Hid (ANS = ([], 5)) := by rw [Hid, unhide HF, h1']; rfl
      have hneg : atI m no < 0 := by omega
      clear h1 h1'
      generalize atI m no = at_ at *
      go_wp2_with fail
      go_ret2
      exact RetLE.nil (unhide HA) (unhide HBB)
    · have h1' : atI m no = ((i : Nat) : Int) := by rw [atI, h1]; simp
      have HA : Hid (ANS = if m[i].user = user then (if 1073741824 ≤ m[i].edits then ([], 7) else (m.set i { m[i] with text := t, edits := m[i].edits + 1 }, 0)) else ([], 8)) := by
        rw [Hid, unhide HF, h1', if_neg (by omega), Int.toNat_natCast]
        simp only [editAt, List.getElem?_eq_getElem hi]
      rw [h1']
      clear h1 h1' h2 h3 h4
      obtain ⟨g, cap, hA', hgb, hgl⟩ := (unhide HO2).form (by omega)
      injection hA' with e1 e2 e3
      subst e1 e3
      have hml := (unhide HRD).le
      have q1 := own_cell (unhide HO2) (i := i * 5 + 1) (u := .int .i64 m[i].user) (by rw [encs_get m i hi 1 (by omega)]; rfl)
      have q2 := own_cell (unhide HO2) (i := i * 5 + 2) (u := .string m[i].text) (by rw [encs_get m i hi 2 (by omega)]; rfl)
      have q3 := own_cell (unhide HO2) (i := i * 5 + 3) (u := .int .i64 m[i].edits) (by rw [encs_get m i hi 3 (by omega)]; rfl)
      have f2 := own_frozen (unhide HO2) (i * 5 + 2)
      have f3 := own_frozen (unhide HO2) (i * 5 + 3)
      have hi1 : ¬ ((i : Int) < 0) := by omega
      have hi2 : (i : Int) < (m.length : Int) := by omega
      have HE := hide (encs_edit m i hi t (m[i].edits + 1))
      have HGL := hide hgl
      obtain ⟨hed0, hed1⟩ := Ent.may_edits (unhide HMAY _ (List.getElem_mem hi))
      clear hgl
      generalize m[i] = x at *
      by_cases hu : x.user = user
      · have hu1 : (x.user != user) = false := by simpa using hu
        rw [if_pos hu] at HA
        clear hu
        by_cases hx : 1073741824 ≤ x.edits
        · rw [if_pos hx] at HA
          go_wp2_with fail
          go_ret2
          exact RetLE.nil (unhide HA) (unhide HBB)
        · rw [if_neg hx] at HA
          go_wp2_with fail
          go_ret2
          refine RetLE.own (base := w.heap.size) (unhide HA) (n := m.length) (by simp) ?_ (((unhide HBB).setCell (p := ⟨g, i * 5 + 2, none⟩) hgb _).setCell (p := ⟨g, i * 5 + 3, none⟩) hgb _)
          rw [unhide HE]
          exact own_store (own_store (unhide HO2) _ _) _ _
      · have hu1 : (x.user != user) = true := by simpa using hu
        rw [if_neg hu] at HA
        clear hu
        go_wp2_with fail
        go_ret2
        exact RetLE.nil (unhide HA) (unhide HBB)

set_option maxHeartbeats 1600000 in
theorem refDelete_calls (A : Option Addr) (n c : Nat) (l : List Ent) (no user owner : Int) (w : World) (hr : RdE w A n l) :
    Calls Tryd.prog 27 #[.slice A n c, .int .i64 no, .int .i64 user, .int .i64 owner] w (RetLE w (delL l no user owner)) := by
  have K := hide (refFair_calls A n c l w hr)
  obtain ⟨m, hm⟩ : ∃ m, fairL l = m := ⟨_, rfl⟩
  have HF : Hid (delL l no user owner = if atI m no < 0 then ([], 5) else delAt m (atI m no).toNat user owner) := by simp only [Hid, delL, hm]
  rw [hm] at K
  generalize delL l no user owner = ANS at *
  clear hm hr
  have HSP := hide (atFrom_spec no m 0)
  go_enter Tryd.func27, Tryd.ntmps27
  go_wp2_with fail
  refine (unhide K).mono ?_
  rintro e w1 ⟨v, rfl, hown, hb⟩
  obtain ⟨A', c', rfl, hrd, hcap⟩ := own_open hown
  have HO := hide hown
  have HRD := hide hrd
  clear hown hrd
  go_wp2_with fail
  refine (refAt_calls A' m.length c' m no w1 ⟨rfl, unhide HRD⟩).mono ?_
  rintro e w2 ⟨rfl, hb2⟩
  have hbb := hb.trans (hb2.mono hb.size)
  have HBB := hide hbb
  have HO2 := hide (own_below (unhide HO) hb2)
  clear HO hb hb2 hbb
  rcases unhide HSP with ⟨h1, _⟩ | ⟨i, hi, h1, h2, h3, h4⟩
  · have h1' : atI m no = -1 := h1
    have HA : Hid (ANS = ([], 5)) := by rw [Hid, unhide HF, h1']; rfl
    have hneg : atI m no < 0 := by omega
    clear h1 h1'
    generalize atI m no = at_ at *
    go_wp2_with fail
    go_ret2
    exact RetLE.nil (unhide HA) (unhide HBB)
  · have h1' : atI m no = ((i : Nat) : Int) := by rw [atI, h1]; simp
    have HA : Hid (ANS = if m[i].user = user ∨ user = owner then (m.set i { m[i] with text := ⟨#[]⟩, gone := true }, 0) else ([], 8)) := by
      rw [Hid, unhide HF, h1', if_neg (by omega), Int.toNat_natCast]
      simp only [delAt, List.getElem?_eq_getElem hi]
    rw [h1']
    clear h1 h1' h2 h3 h4
    obtain ⟨g, cap, hA', hgb, hgl⟩ := (unhide HO2).form (by omega)
    injection hA' with e1 e2 e3
    subst e1 e3
    have hml := (unhide HRD).le
    have q1 := own_cell (unhide HO2) (i := i * 5 + 1) (u := .int .i64 m[i].user) (by rw [encs_get m i hi 1 (by omega)]; rfl)
    have q2 := own_cell (unhide HO2) (i := i * 5 + 2) (u := .string m[i].text) (by rw [encs_get m i hi 2 (by omega)]; rfl)
    have q4 := own_cell (unhide HO2) (i := i * 5 + 4) (u := .bool m[i].gone) (by rw [encs_get m i hi 4 (by omega)]; rfl)
    have f2 := own_frozen (unhide HO2) (i * 5 + 2)
    have f4 := own_frozen (unhide HO2) (i * 5 + 4)
    have hi1 : ¬ ((i : Int) < 0) := by omega
    have hi2 : (i : Int) < (m.length : Int) := by omega
    have HE := hide (encs_gone m i hi)
    have HGL := hide hgl
    clear hgl
    generalize m[i] = x at *
    by_cases hu : x.user = user
    · have hu1 : (x.user != user) = false := by simpa using hu
      rw [if_pos (.inl hu)] at HA
      clear hu
      go_wp2_with fail
      go_ret2
      refine RetLE.own (base := w.heap.size) (unhide HA) (n := m.length) (by simp) ?_ (((unhide HBB).setCell (p := ⟨g, i * 5 + 2, none⟩) hgb _).setCell (p := ⟨g, i * 5 + 4, none⟩) hgb _)
      rw [unhide HE]
      exact own_store (own_store (unhide HO2) _ _) _ _
    · have hu1 : (x.user != user) = true := by simpa using hu
      by_cases ho : user = owner
      · have ho1 : (user != owner) = false := by simpa using ho
        rw [if_pos (.inr ho)] at HA
        clear ho
        go_wp2_with fail
        go_ret2
        refine RetLE.own (base := w.heap.size) (unhide HA) (n := m.length) (by simp) ?_ (((unhide HBB).setCell (p := ⟨g, i * 5 + 2, none⟩) hgb _).setCell (p := ⟨g, i * 5 + 4, none⟩) hgb _)
        rw [unhide HE]
        exact own_store (own_store (unhide HO2) _ _) _ _
      · have ho1 : (user != owner) = true := by simpa using ho
        rw [if_neg (fun h => h.elim hu ho)] at HA
        clear ho hu
        go_wp2_with fail
        go_ret2
        exact RetLE.nil (unhide HA) (unhide HBB)
end Go.Proofs.YtdpmfghlhgfhfaaDoor
