/- PostsKeep, the plain law: what is kept of posts of one author. -/
import Derived.Test.YtdpmfghlhgfhfaaDoorCell
set_option linter.unusedVariables false
set_option linter.unusedSimpArgs false
namespace Go.Proofs.YtdpmfghlhgfhfaaDoor

def kE (user : Int) (s : ByteArray) (j : Nat) : Ent := ⟨(j : Int) + 1, user, s, 0, false⟩
/-- The last 32 of so many posts of one author. -/
def keepK (user : Int) (s : ByteArray) (k : Nat) : List Ent := ((List.range k).map (kE user s)).drop (k - 32)
section
variable {user : Int} {s : ByteArray} {k : Nat}
theorem keepK_len : (keepK user s k).length = k - (k - 32) := by simp [keepK]
theorem keepK_get {i : Nat} (h : i < (keepK user s k).length) : (keepK user s k)[i] = kE user s (k - 32 + i) := by
  simp [keepK, List.getElem_drop]
theorem keepK_mem {x : Ent} (h : x ∈ keepK user s k) : ∃ j, j < k ∧ k - 32 ≤ j ∧ x = kE user s j := by
  obtain ⟨i, hi, rfl⟩ := List.getElem_of_mem h
  have hl := hi
  rw [keepK_len] at hl
  exact ⟨k - 32 + i, by omega, by omega, keepK_get hi⟩
theorem kE_may (ht : tmay s = true) (h1 : 1 ≤ user) (h2 : user ≤ 1048576) {j : Nat} (hj : j < 80) : (kE user s j).may = true := new_may ht h1 h2 (by omega) (by omega)
theorem keepK_may (ht : tmay s = true) (h1 : 1 ≤ user) (h2 : user ≤ 1048576) (hk : k ≤ 80) : mayL (keepK user s k) = true := by
  refine mayL_of (fun x hx => ?_) (fun i hi => ?_) (by rw [keepK_len]; omega)
  · obtain ⟨j, hj, _, rfl⟩ := keepK_mem hx
    exact kE_may ht h1 h2 (by omega)
  · rw [keepK_get, keepK_get]
    simp only [kE]
    omega
theorem keepK_last (ht : tmay s = true) (h1 : 1 ≤ user) (h2 : user ≤ 1048576) (hk : k ≤ 80) : lastL (keepK user s k) = k := by
  rcases Nat.eq_zero_or_pos k with rfl | hp
  · rfl
  · rw [lastL_get (keepK_may ht h1 h2 hk) (by rw [keepK_len]; omega), keepK_get]
    have := @keepK_len user s k
    simp only [kE, this]
    omega
theorem keepK_add (ht : tmay s = true) (h1 : 1 ≤ user) (h2 : user ≤ 1048576) (hk : k < 80) : addL (keepK user s k) user s = (keepK user s (k + 1), 0) := by
  have hla := keepK_last (user := user) (s := s) (k := k) ht h1 h2 (by omega)
  unfold addL
  rw [if_pos ⟨ht, h1, h2⟩, hla, if_neg (by omega), fairL_of (keepK_may ht h1 h2 (by omega)), keepK_len]
  have e : (List.range k).map (kE user s) ++ [kE user s k] = (List.range (k + 1)).map (kE user s) := by rw [List.range_succ, List.map_append]; rfl
  have e2 : keepK user s k ++ [Ent.mk ((k : Int) + 1) user s 0 false] = ((List.range (k + 1)).map (kE user s)).drop (k - 32) := by
    rw [← e, List.drop_append_of_le_length (by simp)]
    rfl
  rw [e2, List.drop_drop]
  have e3 : k - 32 + (k - (k - 32) + 1 - 32) = k + 1 - 32 := by omega
  rw [e3]
  rfl
theorem addL_bad (l : List Ent) (h : ¬ (tmay s = true ∧ 1 ≤ user ∧ user ≤ 1048576)) : addL l user s = ([], 1) := by unfold addL; rw [if_neg h]
theorem keepK_find (ht : tmay s = true) (h1 : 1 ≤ user) (h2 : user ≤ 1048576) (hk : k < 80) : findL (keepK user s (k + 1)) ((k : Int) + 1) = (kE user s k, 0) := by
  unfold findL
  rw [fairL_of (keepK_may ht h1 h2 (by omega))]
  rcases atI_spec (keepK user s (k + 1)) ((k : Int) + 1) with ⟨_, hn⟩ | ⟨i, hi, e1, e2, _⟩
  · exfalso
    have hl : (k + 1 - 32) + (k - (k + 1 - 32)) = k := by omega
    have hi : k - (k + 1 - 32) < (keepK user s (k + 1)).length := by rw [keepK_len]; omega
    have hg := keepK_get hi
    rw [hl] at hg
    exact hn (kE user s k) (hg ▸ List.getElem_mem hi) ⟨rfl, rfl⟩
  · rw [e1, if_neg (by omega), Int.toNat_natCast, List.getElem?_eq_getElem hi]
    obtain ⟨j, hj, _, hx⟩ := keepK_mem (List.getElem_mem hi)
    rw [hx] at e2 ⊢
    simp only [kE] at e2
    have : j = k := by omega
    subst this
    rfl
theorem keepK_lost (ht : tmay s = true) (h1 : 1 ≤ user) (h2 : user ≤ 1048576) (hk : k ≤ 80) (h32 : 32 < k) : (findL (keepK user s k) ((k : Int) - 32)).2 = 5 := by
  unfold findL
  rw [fairL_of (keepK_may ht h1 h2 hk)]
  rcases atI_spec (keepK user s k) ((k : Int) - 32) with ⟨h, _⟩ | ⟨i, hi, e1, e2, _⟩
  · rw [h, if_pos (by omega)]
  · exfalso
    obtain ⟨j, hj, hj2, hx⟩ := keepK_mem (List.getElem_mem hi)
    rw [hx] at e2
    simp only [kE] at e2
    omega
theorem keepK_first (h32 : 32 < k) (h : 0 < (keepK user s k).length) : (keepK user s k)[0].no = (k : Int) - 31 := by
  rw [keepK_get]
  simp only [kE]
  omega
end
end Go.Proofs.YtdpmfghlhgfhfaaDoor
