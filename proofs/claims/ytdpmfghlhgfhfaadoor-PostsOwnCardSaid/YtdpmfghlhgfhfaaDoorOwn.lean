/- PostsOwn: the plain law, and the walk: for every input it is true. -/
import Derived.Test.YtdpmfghlhgfhfaaDoorCell
set_option linter.unusedVariables false
set_option linter.unusedSimpArgs false
namespace Go.Proofs.YtdpmfghlhgfhfaaDoor
open Go.RowKit

theorem own_law {l : List Ent} (h : mayL l = true) (no user owner : Int) (t : ByteArray) :
    (¬ (findL l no).2 = 0 → ((editL l no user t).2 = 5 ∨ (editL l no user t).2 = 1) ∧ (delL l no user owner).2 = 5) ∧
    ((findL l no).2 = 0 → ¬ user = (findL l no).1.user → ((editL l no user t).2 = 8 ∨ (editL l no user t).2 = 1) ∧ ((user = owner ∧ (delL l no user owner).2 = 0) ∨ (¬ user = owner ∧ (delL l no user owner).2 = 8))) ∧
    ((findL l no).2 = 0 → user = (findL l no).1.user → (delL l no user owner).2 = 0 ∧ ((editL l no user t).2 = 0 ∨ (editL l no user t).2 = 1 ∨ ((editL l no user t).2 = 7 ∧ (findL l no).1.edits = 1073741824))) := by
  unfold findL editL delL
  rw [fairL_of h]
  rcases atI_spec l no with ⟨h1, _⟩ | ⟨i, hi, h1, h2, h3⟩
  · have hn : atI l no < 0 := by omega
    simp only [if_pos hn]
    refine ⟨fun _ => ⟨?_, trivial⟩, fun h => absurd h (by decide), fun h => absurd h (by decide)⟩
    split
    · exact .inl rfl
    · exact .inr rfl
  · have hn : ¬ atI l no < 0 := by omega
    simp only [if_neg hn]
    rw [h1, Int.toNat_natCast]
    simp only [List.getElem?_eq_getElem hi, Option.getD_some, editAt, delAt]
    have hm := (mayL_all h).1 l[i] (List.getElem_mem hi)
    obtain ⟨he0, he1⟩ := Ent.may_edits hm
    generalize l[i] = x at *
    refine ⟨fun h => absurd trivial h, fun _ hu => ⟨?_, ?_⟩, fun _ hu => ⟨?_, ?_⟩⟩
    · have hu' : ¬ x.user = user := fun e => hu e.symm
      by_cases ht : tmay t = true
      · rw [if_pos ht, if_neg hu']; exact .inl rfl
      · rw [if_neg ht]; exact .inr rfl
    · have hu' : ¬ x.user = user := fun e => hu e.symm
      by_cases ho : user = owner
      · rw [if_pos (.inr ho)]; exact .inl ⟨ho, rfl⟩
      · rw [if_neg (fun h => h.elim hu' ho)]; exact .inr ⟨ho, rfl⟩
    · rw [if_pos (.inl hu.symm)]
    · by_cases ht : tmay t = true
      · rw [if_pos ht, if_pos hu.symm]
        by_cases he : 1073741824 ≤ x.edits
        · rw [if_pos he]; exact .inr (.inr ⟨rfl, by omega⟩)
        · rw [if_neg he]; exact .inl rfl
      · rw [if_neg ht]; exact .inr (.inl rfl)

set_option maxHeartbeats 1600000 in
theorem postsOwn_calls (A : Option Addr) (n c : Nat) (l : List Ent) (no user owner : Int) (t : ByteArray) (w : World) (hr : RdE w A n l) (hT : Tabs w) :
    Calls Tryd.prog 7 #[.slice A n c, .int .i64 no, .int .i64 user, .int .i64 owner, .string t] w fun e w' => e = .returned (.bool true) ∧ Below w.heap.size w w' := by
  have HR := hide hr
  have HT := hide hT
  clear hr hT
  obtain ⟨X, hX⟩ : ∃ X, (findL l no).1 = X := ⟨_, rfl⟩
  obtain ⟨r, hr⟩ : ∃ r, (findL l no).2 = r := ⟨_, rfl⟩
  obtain ⟨P, hP⟩ : ∃ P, editL l no user t = P := ⟨_, rfl⟩
  obtain ⟨Q, hQ⟩ : ∃ Q, delL l no user owner = Q := ⟨_, rfl⟩
  obtain ⟨M, hM⟩ : ∃ M, mayL l = M := ⟨_, rfl⟩
  have HLAW : Hid (M = true → (¬ r = 0 → (P.2 = 5 ∨ P.2 = 1) ∧ Q.2 = 5) ∧ (r = 0 → ¬ user = X.user → (P.2 = 8 ∨ P.2 = 1) ∧ ((user = owner ∧ Q.2 = 0) ∨ (¬ user = owner ∧ Q.2 = 8))) ∧
    (r = 0 → user = X.user → Q.2 = 0 ∧ (P.2 = 0 ∨ P.2 = 1 ∨ (P.2 = 7 ∧ X.edits = 1073741824)))) := fun h => by
    have := own_law (hM.trans h) no user owner t
    rw [hX, hr, hP, hQ] at this
    exact this
  have HX := hide hX
  have HRR := hide hr
  have HP := hide hP
  have HQ := hide hQ
  have HM := hide hM
  clear hX hr hP hQ hM
  go_enter Tryd.func7, Tryd.ntmps7
  go_wp2_with fail
  refine (awake_calls w (unhide HT)).mono ?_
  rintro e w1 ⟨rfl, hb1⟩
  have HB1 := hide hb1
  have HR1 := hide ((unhide HR).below hb1)
  have HT1 := hide ((unhide HT).below hb1)
  clear hb1
  go_wp2_with fail
  refine (few_calls A n c l w1 (unhide HR1)).mono ?_
  rintro e w1' ⟨rfl, rfl⟩
  obtain ⟨FW, hFW⟩ : ∃ FW, fewL l = FW := ⟨_, rfl⟩
  rw [hFW]
  clear hFW
  cases FW with
  | false =>
    go_wp2_with fail
    go_ret
    exact ⟨rfl, unhide HB1⟩
  | true =>
    by_cases hs : t.size ≤ 200
    · have hs' : ¬ (200 : Int) < (t.size : Int) := by omega
      go_wp2_with fail
      refine (may_calls A n c l w1 (unhide HR1) (unhide HT1)).mono ?_
      rintro e w2 ⟨rfl, hb2⟩
      rw [unhide HM]
      have HB2 := hide ((unhide HB1).trans (hb2.mono (unhide HB1).size))
      have HR2 := hide ((unhide HR1).below hb2)
      have HT2 := hide ((unhide HT1).below hb2)
      clear hb2
      cases M with
      | false =>
        go_wp2_with fail
        go_ret
        exact ⟨rfl, unhide HB2⟩
      | true =>
        have HLAW2 := hide ((unhide HLAW) rfl)
        go_wp2_with fail
        refine (find_calls A n c l no w2 (unhide HR2) (unhide HT2)).mono ?_
        intro e w3 hret
        rw [unhide HX, unhide HRR] at hret
        obtain ⟨rfl, hb3⟩ := hret
        obtain ⟨W3, hW3⟩ : ∃ W3, w3.alloc (.cells #[.int .i64 X.no, .int .i64 X.user, .string X.text, .int .i64 X.edits, .bool X.gone] 33) = W3 := ⟨_, rfl⟩
        have hbW3 : Below w3.heap.size w3 W3 := by rw [← hW3]; exact (Below.refl _ w3).alloc (Nat.le_refl _) _
        have hx3 : W3.heap[w3.heap.size]? = some (.cells #[.int .i64 X.no, .int .i64 X.user, .string X.text, .int .i64 X.edits, .bool X.gone] 33) := by rw [← hW3]; exact World.alloc_heap_new w3 _
        have hs3 : w3.heap.size < W3.heap.size := (Array.getElem?_eq_some_iff.1 hx3).1
        have HB3 := hide ((unhide HB2).trans ((hb3.trans (hbW3.mono hb3.size)).mono (unhide HB2).size))
        have HR3 := hide (((unhide HR2).below hb3).below hbW3)
        have HT3 := hide (((unhide HT2).below hb3).below hbW3)
        have HX3 := hide hx3
        clear hb3 hbW3 hx3
        go_wp2_with fail
        refine (edit_calls A n c l no user t W3 (unhide HR3) (unhide HT3)).mono ?_
        intro e w4 hret
        rw [unhide HP] at hret
        obtain ⟨A4, n4, c4, rfl, hr4, hc4, hb4⟩ := hret
        have HB4 := hide ((unhide HB3).trans (hb4.mono (unhide HB3).size))
        have HR4 := hide ((unhide HR3).below hb4)
        have HT4 := hide ((unhide HT3).below hb4)
        have HX4 := hide ((hb4.block _ hs3).trans (unhide HX3))
        have HS4 := hide (Nat.lt_of_lt_of_le hs3 hb4.size)
        clear hW3 hs3 hr4 hc4 hb4
        go_wp2_with fail
        refine (delete_calls A n c l no user owner w4 (unhide HR4) (unhide HT4)).mono ?_
        intro e w5 hret
        rw [unhide HQ] at hret
        obtain ⟨A5, n5, c5, rfl, hr5, hc5, hb5⟩ := hret
        have HB5 := hide ((unhide HB4).trans (hb5.mono (unhide HB4).size))
        obtain ⟨q0, q1, q2, q3, q4⟩ := entCells ((hb5.block _ (unhide HS4)).trans (unhide HX4))
        simp only [Nat.zero_add] at q0 q1 q2 q3 q4
        obtain ⟨L1, L2, L3⟩ := unhide HLAW2
        obtain ⟨p, hp⟩ : ∃ p, P.2 = p := ⟨_, rfl⟩
        obtain ⟨q, hq⟩ : ∃ q, Q.2 = q := ⟨_, rfl⟩
        rw [hp, hq] at L1 L2 L3
        rw [hq]
        simp only [hp]
        clear hr5 hc5 hb5 hp hq
        by_cases hr0 : r = 0
        · subst hr0
          by_cases hu : user = X.user
          · obtain ⟨rfl, h2⟩ := L3 rfl hu
            have hu1 : (user != X.user) = false := by simpa using hu
            clear L1 L2 L3
            rcases h2 with rfl | rfl | ⟨rfl, h3⟩
            · clear hu
              go_wp2_with fail
              go_ret
              exact ⟨rfl, unhide HB5⟩
            · clear hu
              go_wp2_with fail
              go_ret
              exact ⟨rfl, unhide HB5⟩
            · clear hu
              rw [h3] at q3
              go_wp2_with fail
              go_ret
              exact ⟨rfl, unhide HB5⟩
          · obtain ⟨h1, h2⟩ := L2 rfl hu
            have hu1 : (user != X.user) = true := by simpa using hu
            clear L1 L2 L3 hu
            rcases h2 with ⟨ho, rfl⟩ | ⟨ho, rfl⟩
            · have ho1 : (user != owner) = false := by simpa using ho
              clear ho
              rcases h1 with rfl | rfl
              all_goals
                go_wp2_with fail
                go_ret
                exact ⟨rfl, unhide HB5⟩
            · have ho1 : (user != owner) = true := by simpa using ho
              clear ho
              rcases h1 with rfl | rfl
              all_goals
                go_wp2_with fail
                go_ret
                exact ⟨rfl, unhide HB5⟩
        · obtain ⟨h1, rfl⟩ := L1 hr0
          have hr1 : (r != 0) = true := by simpa using hr0
          clear L1 L2 L3 hr0
          rcases h1 with rfl | rfl
          all_goals
            go_wp2_with fail
            go_ret
            exact ⟨rfl, unhide HB5⟩
    · have hs' : (200 : Int) < (t.size : Int) := by omega
      go_wp2_with fail
      go_ret
      exact ⟨rfl, unhide HB1⟩
end Go.Proofs.YtdpmfghlhgfhfaaDoor
