/- The plain laws of posts: what add, edit, delete make may be; who may; what stays. No program is walked here. -/
import Derived.Test.YtdpmfghlhgfhfaaDoorAwake
set_option linter.unusedVariables false
set_option linter.unusedSimpArgs false
namespace Go.Proofs.YtdpmfghlhgfhfaaDoor

theorem okFrom_of : ∀ (l : List Ent) (p : Option Int), (∀ x ∈ l, x.may = true) → (∀ i (h : i + 1 < l.length), l[i + 1].no = l[i].no + 1) → (∀ q, p = some q → ∀ h : 0 < l.length, l[0].no = q + 1) → okFrom p l = true
  | [], _, _, _, _ => rfl
  | x :: t, p, h1, h2, h3 => by
    have ih := okFrom_of t (some x.no) (fun y hy => h1 y (List.mem_cons_of_mem _ hy)) (fun i h => by have := h2 (i + 1) (by simpa using h); simpa using this)
      (fun q e h => by cases e; have := h2 0 (by simpa using h); simpa using this)
    simp only [okFrom, Bool.and_eq_true]
    refine ⟨⟨h1 x (List.mem_cons_self ..), ?_⟩, ih⟩
    cases p with
    | none => rfl
    | some q => have := h3 q rfl (by simp); simp only [List.getElem_cons_zero] at this; simpa using this
theorem mayL_of {l : List Ent} (h1 : ∀ x ∈ l, x.may = true) (h2 : ∀ i (h : i + 1 < l.length), l[i + 1].no = l[i].no + 1) (h3 : l.length ≤ 32) : mayL l = true := by
  simp only [mayL, Bool.and_eq_true, decide_eq_true_eq]
  exact ⟨okFrom_of l none h1 h2 (fun q e => by cases e), h3⟩
theorem mayL_all {l : List Ent} (h : mayL l = true) : (∀ x ∈ l, x.may = true) ∧ (∀ i (h : i + 1 < l.length), l[i + 1].no = l[i].no + 1) ∧ l.length ≤ 32 := by
  simp only [mayL, Bool.and_eq_true, decide_eq_true_eq] at h
  exact ⟨okFrom_all l none h.1, fun i hi => okFrom_next h.1 i hi, h.2⟩
theorem fairL_isMay (l : List Ent) : mayL (fairL l) = true := by
  simp only [mayL, Bool.and_eq_true, decide_eq_true_eq]
  exact ⟨fairL_ok l, fairL_len l⟩
theorem fairL_of {l : List Ent} (h : mayL l = true) : fairL l = l := by simp [fairL, h]
theorem tmay_ne {t : ByteArray} (h : tmay t = true) : t.toList.isEmpty = false := by
  simp only [tmay, Bool.and_eq_true, decide_eq_true_eq] at h
  cases he : t.toList.isEmpty with
  | false => rfl
  | true =>
    exfalso
    have : t.toList = [] := by simpa using he
    rw [Lib.toList_data] at this
    have hz := Lib.size_eq t
    have h1 := h.1.1
    rw [hz, this] at h1
    simp at h1
theorem new_may {la user : Int} {t : ByteArray} (ht : tmay t = true) (h1 : 1 ≤ user) (h2 : user ≤ 1048576) (h3 : 0 ≤ la) (h4 : ¬ 1073741824 ≤ la) : (Ent.mk (la + 1) user t 0 false).may = true := by
  simp only [Ent.may, tmay_ne ht, ht, Bool.and_eq_true, decide_eq_true_eq]
  refine ⟨⟨⟨⟨rfl, rfl⟩, ?_, ?_⟩, h1, h2⟩, ?_, ?_⟩ <;> omega
theorem edit_may {x : Ent} {t : ByteArray} (hx : x.may = true) (hg : x.gone = false) (ht : tmay t = true) (he : ¬ 1073741824 ≤ x.edits) : ({ x with text := t, edits := x.edits + 1 } : Ent).may = true := by
  simp only [Ent.may, Bool.and_eq_true, decide_eq_true_eq] at hx
  simp only [Ent.may, tmay_ne ht, ht, hg, Bool.and_eq_true, decide_eq_true_eq]
  obtain ⟨⟨⟨⟨_, _⟩, a1, a2⟩, a3, a4⟩, a5, a6⟩ := hx
  refine ⟨⟨⟨⟨rfl, rfl⟩, a1, a2⟩, a3, a4⟩, ?_, ?_⟩ <;> omega
theorem gone_may {x : Ent} (hx : x.may = true) : ({ x with text := ⟨#[]⟩, gone := true } : Ent).may = true := by
  simp only [Ent.may, Bool.and_eq_true, decide_eq_true_eq] at hx
  have h0 : (⟨#[]⟩ : ByteArray).toList.isEmpty = true := by decide +kernel
  simp only [Ent.may, h0, Bool.and_eq_true, decide_eq_true_eq]
  obtain ⟨⟨⟨⟨_, _⟩, a1⟩, a3⟩, a5⟩ := hx
  exact ⟨⟨⟨⟨rfl, rfl⟩, a1⟩, a3⟩, a5⟩
/-- Where one of a number that is not gone stands. -/
theorem atI_spec (m : List Ent) (no : Int) : (atI m no = -1 ∧ ∀ x ∈ m, ¬ (x.no = no ∧ x.gone = false)) ∨
    ∃ (i : Nat), ∃ h : i < m.length, atI m no = (i : Int) ∧ m[i].no = no ∧ m[i].gone = false := by
  rcases atFrom_spec no m 0 with ⟨h1, h2⟩ | ⟨i, hi, h1, h2, h3, _⟩
  · exact .inl ⟨h1, h2⟩
  · exact .inr ⟨i, hi, by rw [atI, h1]; simp, h2, h3⟩
theorem set_may {m : List Ent} (h : mayL m = true) {i : Nat} (hi : i < m.length) {y : Ent} (hy : y.may = true) (hn : y.no = m[i].no) : mayL (m.set i y) = true := by
  obtain ⟨h1, h2, h3⟩ := mayL_all h
  refine mayL_of (fun x hx => ?_) (fun k hk => ?_) (by simpa using h3)
  · rcases List.mem_or_eq_of_mem_set hx with hx | rfl
    · exact h1 x hx
    · exact hy
  · have hk' : k + 1 < m.length := by simpa using hk
    have e : ∀ j (hj : j < (m.set i y).length), (m.set i y)[j].no = (m[j]'(by simpa using hj)).no := fun j hj => by
      rw [List.getElem_set]
      split
      · rename_i e; subst e; exact hn
      · rfl
    rw [e, e]
    exact h2 k hk'
theorem drop_may {l : List Ent} {k : Nat} (h1 : ∀ x ∈ l, x.may = true) (h2 : ∀ i (h : i + 1 < l.length), l[i + 1].no = l[i].no + 1) (h3 : (l.drop k).length ≤ 32) : mayL (l.drop k) = true := by
  refine mayL_of (fun x hx => h1 x (List.mem_of_mem_drop hx)) (fun i hi => ?_) h3
  simp only [List.length_drop] at hi
  rw [List.getElem_drop, List.getElem_drop]
  exact h2 (k + i) (by omega)
/-- The last one's number, of some that may be. -/
theorem lastL_get {m : List Ent} (h : mayL m = true) (hp : 0 < m.length) : lastL m = m[m.length - 1].no := by
  unfold lastL
  rw [fairL_of h, List.getLast?_eq_getElem?, List.getElem?_eq_getElem (by omega)]
  rfl
theorem lastL_nil : lastL [] = 0 := rfl
theorem add_next {m : List Ent} {y : Ent} (h : mayL m = true) (hy : y.no = lastL m + 1) : ∀ i (hi : i + 1 < (m ++ [y]).length), (m ++ [y])[i + 1].no = (m ++ [y])[i].no + 1 := by
  intro i hi
  obtain ⟨h1, h2, h3⟩ := mayL_all h
  simp only [List.length_append, List.length_cons, List.length_nil] at hi
  by_cases hlt : i + 1 < m.length
  · rw [List.getElem_append_left hlt, List.getElem_append_left (by omega)]
    exact h2 i hlt
  · have e1 : (m ++ [y])[i + 1] = y := by
      rw [List.getElem_append_right (by omega)]
      simp
    have e2 : i = m.length - 1 := by omega
    rw [e1, List.getElem_append_left (by omega), hy, lastL_get h (by omega)]
    subst e2
    rfl
/-- What is made may be. -/
theorem addL_may (l : List Ent) (user : Int) (t : ByteArray) : mayL (addL l user t).1 = true := by
  unfold addL
  split
  · rename_i h
    split
    · rfl
    · rename_i hla
      have hl := lastL_range l
      refine drop_may (fun x hx => ?_) (add_next (fairL_isMay l) (by rw [lastL_fair])) (by rw [List.length_drop]; simp; omega)
      rcases List.mem_append.1 hx with hx | hx
      · exact fairL_may hx
      · rcases List.mem_singleton.1 hx with rfl
        exact new_may h.1 h.2.1 h.2.2 hl.1 hla
  · rfl
theorem editL_may (l : List Ent) (no user : Int) (t : ByteArray) : mayL (editL l no user t).1 = true := by
  unfold editL
  split
  · rename_i ht
    rcases atI_spec (fairL l) no with ⟨h1, _⟩ | ⟨i, hi, h1, h2, h3⟩
    · rw [h1, if_pos (by omega)]; rfl
    · rw [h1, if_neg (by omega), Int.toNat_natCast]
      simp only [editAt, List.getElem?_eq_getElem hi]
      split
      · split
        · rfl
        · rename_i he
          exact set_may (fairL_isMay l) hi (edit_may (fairL_may (List.getElem_mem hi)) h3 ht he) rfl
      · rfl
  · rfl
theorem delL_may (l : List Ent) (no user owner : Int) : mayL (delL l no user owner).1 = true := by
  unfold delL
  rcases atI_spec (fairL l) no with ⟨h1, _⟩ | ⟨i, hi, h1, h2, h3⟩
  · rw [h1, if_pos (by omega)]; rfl
  · rw [h1, if_neg (by omega), Int.toNat_natCast]
    simp only [delAt, List.getElem?_eq_getElem hi]
    split
    · exact set_may (fairL_isMay l) hi (gone_may (fairL_may (List.getElem_mem hi))) rfl
    · rfl
theorem doL_may (l : List Ent) (o : OpL) : mayL (doL l o).1 = true := by
  unfold doL
  split
  · exact addL_may ..
  · split
    · exact editL_may ..
    · exact delL_may ..
end Go.Proofs.YtdpmfghlhgfhfaaDoor
