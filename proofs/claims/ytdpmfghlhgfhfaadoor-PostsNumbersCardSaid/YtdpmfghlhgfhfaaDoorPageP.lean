/- PostsPage and PostsNumbers, the plain laws: who pages on sees each post once; what is done keeps numbers. -/
import Derived.Test.YtdpmfghlhgfhfaaDoorCell
set_option linter.unusedVariables false
set_option linter.unusedSimpArgs false
namespace Go.Proofs.YtdpmfghlhgfhfaaDoor

theorem okFrom_lt : ∀ (l : List Ent) (p : Option Int), okFrom p l = true → l.Pairwise (fun a b => a.no < b.no) ∧ ∀ q, p = some q → ∀ x ∈ l, q < x.no
  | [], _, _ => ⟨List.Pairwise.nil, fun _ _ _ h => by cases h⟩
  | x :: t, p, h => by
    simp only [okFrom, Bool.and_eq_true] at h
    obtain ⟨h1, h2⟩ := okFrom_lt t (some x.no) h.2
    refine ⟨List.Pairwise.cons (fun y hy => h2 x.no rfl y hy) h1, fun q e y hy => ?_⟩
    subst e
    have hx : x.no = q + 1 := by simpa using h.1.2
    rcases List.mem_cons.1 hy with rfl | hy
    · omega
    · have := h2 x.no rfl y hy
      omega
theorem mayL_lt {l : List Ent} (h : mayL l = true) : l.Pairwise (fun a b => a.no < b.no) := by
  simp only [mayL, Bool.and_eq_true] at h
  exact (okFrom_lt l none h.1).1
theorem lt_eq : ∀ {l : List Ent}, l.Pairwise (fun a b => a.no < b.no) → ∀ {x y : Ent}, x ∈ l → y ∈ l → x.no = y.no → x = y
  | z :: t, h, x, y, hx, hy, e => by
    rw [List.pairwise_cons] at h
    rcases List.mem_cons.1 hx with hx1 | hx1
    · rcases List.mem_cons.1 hy with hy1 | hy1
      · rw [hx1, hy1]
      · have := h.1 y hy1
        rw [hx1] at e
        omega
    · rcases List.mem_cons.1 hy with hy1 | hy1
      · have := h.1 x hx1
        rw [hy1] at e
        omega
      · exact lt_eq h.2 hx1 hy1 e

/-! ### paging -/
def there' (fr : Int) (l : List Ent) : List Ent := l.filter fun x => !x.gone && decide (fr ≤ x.no)
def nx (l : List Ent) : Int := (l.head?.map (·.no)).getD 0
theorem pg_eq (fr : Int) (M : Nat) : ∀ (l acc : List Ent), acc.length ≤ M → pg fr M acc l = (acc ++ (there' fr l).take (M - acc.length), nx ((there' fr l).drop (M - acc.length)))
  | [], acc, _ => by simp [pg, there', nx]
  | x :: t, acc, h => by
    simp only [pg]
    by_cases hx : x.gone = true ∨ x.no < fr
    · have e : there' fr (x :: t) = there' fr t := by
        unfold there'
        rw [List.filter_cons_of_neg]
        rcases hx with hx | hx
        · simp [hx]
        · have : ¬ fr ≤ x.no := by omega
          simp [this]
      rw [if_pos hx, e]
      exact pg_eq fr M t acc h
    · have e : there' fr (x :: t) = x :: there' fr t := by
        unfold there'
        rw [List.filter_cons_of_pos]
        have h1 : x.gone = false := by
          cases hg : x.gone with
          | false => rfl
          | true => exact absurd (.inl hg) hx
        have h2 : fr ≤ x.no := by
          have : ¬ x.no < fr := fun h => hx (.inr h)
          omega
        simp [h1, h2]
      rw [if_neg hx, e]
      by_cases hm : (M : Int) ≤ (acc.length : Int)
      · have h0 : M - acc.length = 0 := by omega
        rw [if_pos hm, h0]
        simp [nx]
      · rw [if_neg hm, pg_eq fr M t (acc ++ [x]) (by simp; omega)]
        have h1 : M - acc.length = (M - (acc ++ [x]).length) + 1 := by simp; omega
        rw [h1, List.take_succ_cons, List.drop_succ_cons, List.append_assoc]
        rfl
def vis (l : List Ent) : List Ent := l.filter fun x => !x.gone
theorem there_vis (fr : Int) (l : List Ent) : there' fr l = (vis l).filter fun x => decide (fr ≤ x.no) := by
  unfold there' vis
  rw [List.filter_filter]
  congr 1
  funext x
  exact Bool.and_comm _ _
theorem filter_from {v : List Ent} (hv : v.Pairwise (fun a b => a.no < b.no)) (j : Nat) (hj : j < v.length) : v.filter (fun x => decide (v[j].no ≤ x.no)) = v.drop j := by
  have e : v = v.take j ++ v.drop j := (List.take_append_drop j v).symm
  have hd : v.drop j = v[j] :: v.drop (j + 1) := List.drop_eq_getElem_cons hj
  have h1 := hv
  rw [e, List.pairwise_append] at h1
  obtain ⟨_, h2, h3⟩ := h1
  have hmem : v[j] ∈ v.drop j := by rw [hd]; exact List.mem_cons_self ..
  generalize hz : v[j] = z at *
  rw [e, List.filter_append]
  have f1 : (v.take j).filter (fun x => decide (z.no ≤ x.no)) = [] := by
    rw [List.filter_eq_nil_iff]
    intro x hx
    have := h3 x hx z hmem
    simp
    omega
  have f2 : (v.drop j).filter (fun x => decide (z.no ≤ x.no)) = v.drop j := by
    rw [List.filter_eq_self]
    intro x hx
    rw [hd] at hx h2
    rw [List.pairwise_cons] at h2
    rcases List.mem_cons.1 hx with rfl | hx
    · simp
    · have := h2.1 x hx
      simp
      omega
  rw [f1, f2]
  simp
/-- Behind so many pages. -/
def PageS (l : List Ent) (M k : Nat) (next : Int) (seen : List Ent) : Prop :=
  seen = (vis l).take (k * M) ∧ ((k = 0 ∧ next = 1) ∨ (0 < k ∧ next = nx ((vis l).drop (k * M))))
theorem vis_may {l : List Ent} (h : mayL l = true) {x : Ent} (hx : x ∈ vis l) : 1 ≤ x.no := (Ent.may_no ((mayL_all h).1 x (List.mem_filter.1 hx).1)).1
theorem vis_lt {l : List Ent} (h : mayL l = true) : (vis l).Pairwise (fun a b => a.no < b.no) := (mayL_lt h).filter _
theorem vis_len (l : List Ent) : (vis l).length ≤ l.length := List.length_filter_le _ _
theorem page_from {l : List Ent} {M k : Nat} {next : Int} {seen : List Ent} (h : mayL l = true) (hs : PageS l M k next seen) (hn : 0 < next) : there' next l = (vis l).drop (k * M) := by
  rw [there_vis]
  rcases hs.2 with ⟨rfl, rfl⟩ | ⟨hk, e⟩
  · rw [Nat.zero_mul, List.drop_zero, List.filter_eq_self]
    intro x hx
    simpa using vis_may h hx
  · by_cases hj : k * M < (vis l).length
    · have hd := List.drop_eq_getElem_cons hj
      rw [hd] at e
      have e' : next = (vis l)[k * M].no := by rw [e]; rfl
      rw [e']
      exact filter_from (vis_lt h) _ hj
    · rw [List.drop_eq_nil_of_le (by omega)] at e
      simp [nx] at e
      omega
theorem page_round {l : List Ent} {M k : Nat} {next : Int} {seen : List Ent} (h : mayL l = true) (hM : 1 ≤ M) (hs : PageS l M k next seen) (hn : 0 < next) :
    (pageL l next M).1.length ≤ M ∧ (0 < (pageL l next M).2 → (pageL l next M).1.length = M) ∧ PageS l M (k + 1) (pageL l next M).2 (seen ++ (pageL l next M).1) := by
  have e : pageL l next M = (((vis l).drop (k * M)).take M, nx (((vis l).drop (k * M)).drop M)) := by
    unfold pageL
    rw [fairL_of h, pg_eq next M l [] (Nat.zero_le _), page_from h hs hn]
    simp
  rw [e]
  refine ⟨by simp; omega, fun hp => ?_, ?_, .inr ⟨by omega, ?_⟩⟩
  · simp only [List.length_take, List.length_drop]
    rw [List.drop_drop] at hp
    by_cases hj : k * M + M < (vis l).length
    · omega
    · have hz : (vis l).drop (k * M + M) = [] := List.drop_eq_nil_of_le (by omega)
      rw [hz] at hp
      simp [nx] at hp
  · rw [hs.1, Nat.add_mul, Nat.one_mul, List.take_add]
  · show nx _ = nx _
    rw [List.drop_drop, Nat.add_mul, Nat.one_mul]
theorem page_end {l : List Ent} {M k : Nat} {next : Int} {seen : List Ent} (h : mayL l = true) (hM : 1 ≤ M) (hs : PageS l M k next seen) (hk : k ≤ l.length + 1) (hend : ¬ (k ≤ l.length ∧ 0 < next)) : seen = vis l ∧ next = 0 := by
  have hv := vis_len l
  obtain ⟨h1, h2⟩ := hs
  rcases h2 with ⟨rfl, rfl⟩ | ⟨hk0, e⟩
  · exact absurd ⟨Nat.zero_le _, by omega⟩ hend
  · by_cases hj : k * M < (vis l).length
    · exfalso
      rw [List.drop_eq_getElem_cons hj] at e
      have e' : next = (vis l)[k * M].no := by rw [e]; rfl
      have hp := vis_may h (List.getElem_mem hj)
      have hkM : k ≤ k * M := Nat.le_mul_of_pos_right k (by omega)
      exact hend ⟨by omega, by omega⟩
    · rw [List.drop_eq_nil_of_le (by omega)] at e
      exact ⟨by rw [h1, List.take_of_length_le (by omega)], by simpa [nx] using e⟩

/-! ### numbers -/
theorem set_pairs {m : List Ent} (h : mayL m = true) {i : Nat} (hi : i < m.length) {z : Ent} (hn : z.no = m[i].no) (hz : m[i].user = z.user ∧ (m[i].gone = true → z.gone = true) ∧ m[i].edits ≤ z.edits) :
    ∀ x ∈ m, ∀ y ∈ m.set i z, x.no = y.no → x.user = y.user ∧ (x.gone = true → y.gone = true) ∧ x.edits ≤ y.edits := by
  intro x hx y hy e
  rcases List.mem_or_eq_of_mem_set hy with hy | rfl
  · have := lt_eq (mayL_lt h) hx hy e
    subst this
    exact ⟨rfl, id, Int.le_refl _⟩
  · have := lt_eq (mayL_lt h) hx (List.getElem_mem hi) (e.trans hn)
    subst this
    exact hz
theorem set_last {m : List Ent} (h : mayL m = true) {i : Nat} (hi : i < m.length) {z : Ent} (hz : z.may = true) (hn : z.no = m[i].no) : lastL (m.set i z) = lastL m := by
  rw [lastL_get (set_may h hi hz hn) (by simp; omega), lastL_get h (by omega), List.getElem_set]
  simp only [List.length_set]
  split
  · rename_i e
    rw [hn]
    congr 1
    simp only [e]
  · rfl
def NumOk (m r : List Ent) (added : Int) : Prop :=
  lastL r = lastL m + added ∧ m.length ≤ r.length ∧ ∀ x ∈ m, ∀ y ∈ r, x.no = y.no → x.user = y.user ∧ (x.gone = true → y.gone = true) ∧ x.edits ≤ y.edits
theorem add_num {m : List Ent} (h : mayL m = true) (user : Int) (t : ByteArray) : (¬ (addL m user t).2 = 0 → (addL m user t).1 = []) ∧ ((addL m user t).2 = 0 → NumOk m (addL m user t).1 1) := by
  have hmay := addL_may m user t
  revert hmay
  unfold addL
  rw [fairL_of h]
  split
  · rename_i hg
    split
    · exact fun _ => ⟨fun _ => rfl, fun h => absurd h (by decide)⟩
    · rename_i hla
      intro hmay
      refine ⟨fun h => absurd rfl h, fun _ => ⟨?_, ?_, ?_⟩⟩
      · have hl := (mayL_all h).2.2
        rw [lastL_get hmay (by simp; omega)]
        simp only [List.getElem_drop]
        rw [List.getElem_append_right (by simp; omega)]
        simp
      · have hl := (mayL_all h).2.2
        simp
        omega
      · intro x hx y hy e
        have hp : (m ++ [Ent.mk (lastL m + 1) user t 0 false]).Pairwise (fun a b => a.no < b.no) := by
          refine (okFrom_lt _ none (okFrom_of _ none (fun z hz => ?_) (add_next h rfl) (fun q e => by cases e))).1
          rcases List.mem_append.1 hz with hz | hz
          · exact (mayL_all h).1 z hz
          · rcases List.mem_singleton.1 hz with rfl
            exact new_may hg.1 hg.2.1 hg.2.2 (lastL_range m).1 hla
        have := lt_eq hp (List.mem_append_left _ hx) (List.mem_of_mem_drop hy) e
        subst this
        exact ⟨rfl, id, Int.le_refl _⟩
  · exact fun _ => ⟨fun _ => rfl, fun h => absurd h (by decide)⟩
theorem edit_num {m : List Ent} (h : mayL m = true) (no user : Int) (t : ByteArray) : (¬ (editL m no user t).2 = 0 → (editL m no user t).1 = []) ∧ ((editL m no user t).2 = 0 → NumOk m (editL m no user t).1 0) := by
  unfold editL
  rw [fairL_of h]
  by_cases ht : tmay t = true
  · rw [if_pos ht]
    rcases atI_spec m no with ⟨h1, _⟩ | ⟨i, hi, h1, h2, h3⟩
    · rw [h1, if_pos (by omega)]
      exact ⟨fun _ => rfl, fun h => absurd h (by decide)⟩
    · rw [h1, if_neg (by omega), Int.toNat_natCast]
      simp only [editAt, List.getElem?_eq_getElem hi]
      by_cases hu : m[i].user = user
      · rw [if_pos hu]
        by_cases he : 1073741824 ≤ m[i].edits
        · rw [if_pos he]
          exact ⟨fun _ => rfl, fun h => absurd h (by decide)⟩
        · rw [if_neg he]
          refine ⟨fun h => absurd rfl h, fun _ => ⟨?_, by simp, set_pairs h hi rfl ⟨rfl, id, by simp only; omega⟩⟩⟩
          rw [set_last h hi (edit_may ((mayL_all h).1 _ (List.getElem_mem hi)) h3 ht he) rfl]
          omega
      · rw [if_neg hu]
        exact ⟨fun _ => rfl, fun h => absurd h (by decide)⟩
  · rw [if_neg ht]
    exact ⟨fun _ => rfl, fun h => absurd h (by decide)⟩
theorem del_num {m : List Ent} (h : mayL m = true) (no user owner : Int) : (¬ (delL m no user owner).2 = 0 → (delL m no user owner).1 = []) ∧ ((delL m no user owner).2 = 0 → NumOk m (delL m no user owner).1 0) := by
  unfold delL
  rw [fairL_of h]
  rcases atI_spec m no with ⟨h1, _⟩ | ⟨i, hi, h1, h2, h3⟩
  · rw [h1, if_pos (by omega)]
    exact ⟨fun _ => rfl, fun h => absurd h (by decide)⟩
  · rw [h1, if_neg (by omega), Int.toNat_natCast]
    simp only [delAt, List.getElem?_eq_getElem hi]
    by_cases hu : m[i].user = user ∨ user = owner
    · rw [if_pos hu]
      refine ⟨fun h => absurd rfl h, fun _ => ⟨?_, by simp, set_pairs h hi rfl ⟨rfl, fun _ => rfl, Int.le_refl _⟩⟩⟩
      rw [set_last h hi (gone_may ((mayL_all h).1 _ (List.getElem_mem hi))) rfl]
      omega
    · rw [if_neg hu]
      exact ⟨fun _ => rfl, fun h => absurd h (by decide)⟩
theorem do_num {m : List Ent} (h : mayL m = true) (o : OpL) : (¬ (doL m o).2 = 0 → (doL m o).1 = []) ∧ ((doL m o).2 = 0 → NumOk m (doL m o).1 (if o.kind = 0 then 1 else 0)) := by
  unfold doL
  by_cases h0 : o.kind = 0
  · simp only [if_pos h0]; exact add_num h _ _
  · simp only [if_neg h0]
    by_cases h1 : o.kind = 1
    · simp only [if_pos h1]; exact edit_num h _ _ _
    · simp only [if_neg h1]; exact del_num h _ _ _
end Go.Proofs.YtdpmfghlhgfhfaaDoor
