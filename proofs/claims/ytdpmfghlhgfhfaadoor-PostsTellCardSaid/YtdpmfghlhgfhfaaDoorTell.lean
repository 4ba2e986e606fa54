/- PostsTell, walked: for every input it is true. -/
import Derived.Test.YtdpmfghlhgfhfaaDoorCell
set_option linter.unusedVariables false
set_option linter.unusedSimpArgs false
namespace Go.Proofs.YtdpmfghlhgfhfaaDoor
open Go.RowKit

set_option maxHeartbeats 1600000 in
theorem postsTell_calls (A : Option Addr) (n c : Nat) (l : List Ent) (no fr many : Int) (w : World) (hr : RdE w A n l) (hT : Tabs w) :
    Calls Tryd.prog 6 #[.slice A n c, .int .i64 no, .int .i64 fr, .int .i64 many] w fun e w' => e = .returned (.bool true) ∧ Below w.heap.size w w' := by
  have HR := hide hr
  have HT := hide hT
  clear hr hT
  obtain ⟨P, hP⟩ : ∃ P, pageL l fr many = P := ⟨_, rfl⟩
  obtain ⟨X, hX⟩ : ∃ X, (findL l no).1 = X := ⟨_, rfl⟩
  obtain ⟨r, hr⟩ : ∃ r, (findL l no).2 = r := ⟨_, rfl⟩
  have HP := hide hP
  have HX := hide hX
  have HRR := hide hr
  clear hP hX hr
  go_enter Tryd.func6, Tryd.ntmps6
  go_wp2_with fail
  refine (awake_calls w (unhide HT)).mono ?_
  rintro e w1 ⟨rfl, hb1⟩
  have HB1 := hide hb1
  have HR1 := hide ((unhide HR).below hb1)
  have HT1 := hide ((unhide HT).below hb1)
  clear hb1
  go_wp2_with fail
  refine (few_calls A n c l w1 (unhide HR1)).mono ?_
  rintro e w1' ⟨rfl, rfl⟩
  obtain ⟨FW, hFW⟩ : ∃ FW, fewL l = FW := ⟨_, rfl⟩
  rw [hFW]
  clear hFW
  cases FW with
  | false =>
    go_wp2_with fail
    go_ret
    exact ⟨rfl, unhide HB1⟩
  | true =>
    go_wp2_with fail
    refine (find_calls A n c l no w1 (unhide HR1) (unhide HT1)).mono ?_
    intro e w2 hret
    rw [unhide HX, unhide HRR] at hret
    obtain ⟨rfl, hb2⟩ := hret
    obtain ⟨W2, hW2⟩ : ∃ W2, w2.alloc (.cells #[.int .i64 X.no, .int .i64 X.user, .string X.text, .int .i64 X.edits, .bool X.gone] 33) = W2 := ⟨_, rfl⟩
    have hbW2 : Below w2.heap.size w2 W2 := by rw [← hW2]; exact (Below.refl _ w2).alloc (Nat.le_refl _) _
    have hx2 : W2.heap[w2.heap.size]? = some (.cells #[.int .i64 X.no, .int .i64 X.user, .string X.text, .int .i64 X.edits, .bool X.gone] 33) := by rw [← hW2]; exact World.alloc_heap_new w2 _
    have hs2 : w2.heap.size < W2.heap.size := (Array.getElem?_eq_some_iff.1 hx2).1
    have HB2 := hide ((unhide HB1).trans ((hb2.trans (hbW2.mono hb2.size)).mono (unhide HB1).size))
    have HR2 := hide (((unhide HR1).below hb2).below hbW2)
    have HT2 := hide (((unhide HT1).below hb2).below hbW2)
    have HX2 := hide hx2
    clear hb2 hbW2 hx2
    go_wp2_with fail
    refine (refFind_calls A n c l no W2 (unhide HR2)).mono ?_
    intro e w3 hret
    rw [unhide HX, unhide HRR] at hret
    obtain ⟨rfl, hb3⟩ := hret
    obtain ⟨W3, hW3⟩ : ∃ W3, w3.alloc (.cells #[.int .i64 X.no, .int .i64 X.user, .string X.text, .int .i64 X.edits, .bool X.gone] 33) = W3 := ⟨_, rfl⟩
    have hbW3 : Below w3.heap.size w3 W3 := by rw [← hW3]; exact (Below.refl _ w3).alloc (Nat.le_refl _) _
    have hx3 : W3.heap[w3.heap.size]? = some (.cells #[.int .i64 X.no, .int .i64 X.user, .string X.text, .int .i64 X.edits, .bool X.gone] 33) := by rw [← hW3]; exact World.alloc_heap_new w3 _
    have hs3 : w3.heap.size < W3.heap.size := (Array.getElem?_eq_some_iff.1 hx3).1
    have hc23 := hb3.trans (hbW3.mono hb3.size)
    have HB3 := hide ((unhide HB2).trans (hc23.mono (unhide HB2).size))
    have HR3 := hide ((unhide HR2).below hc23)
    have HT3 := hide ((unhide HT2).below hc23)
    have HX23 := hide ((hc23.block _ hs2).trans (unhide HX2))
    have HX3 := hide hx3
    have HS23 := hide (Nat.lt_of_lt_of_le hs2 hc23.size)
    clear hW2 hb3 hbW3 hx3 hc23 hs2
    go_wp2_with fail
    refine (page_calls A n c l fr many W3 (unhide HR3) (unhide HT3)).mono ?_
    intro e w4 hret
    rw [unhide HP] at hret
    obtain ⟨A4, n4, c4, rfl, hr4, hc4, hb4⟩ := hret
    have HB4 := hide ((unhide HB3).trans (hb4.mono (unhide HB3).size))
    have HR4 := hide ((unhide HR3).below hb4)
    have HT4 := hide ((unhide HT3).below hb4)
    have HX24 := hide ((hb4.block _ (unhide HS23)).trans (unhide HX23))
    have HX34 := hide ((hb4.block _ hs3).trans (unhide HX3))
    have HS24 := hide (Nat.lt_of_lt_of_le (unhide HS23) hb4.size)
    have HS34 := hide (Nat.lt_of_lt_of_le hs3 hb4.size)
    have HY4 := hide hr4
    clear hW3 hs3 hr4 hb4 hc4
    go_wp2_with fail
    refine (refPage_calls A n c l fr many w4 (unhide HR4)).mono ?_
    intro e w5 hret
    rw [unhide HP] at hret
    obtain ⟨A5, n5, c5, rfl, hr5, hc5, hb5⟩ := hret
    have HB5 := hide ((unhide HB4).trans (hb5.mono (unhide HB4).size))
    have HR5 := hide ((unhide HR4).below hb5)
    have HT5 := hide ((unhide HT4).below hb5)
    have HX25 := hide ((hb5.block _ (unhide HS24)).trans (unhide HX24))
    have HX35 := hide ((hb5.block _ (unhide HS34)).trans (unhide HX34))
    have HS25 := hide (Nat.lt_of_lt_of_le (unhide HS24) hb5.size)
    have HS35 := hide (Nat.lt_of_lt_of_le (unhide HS34) hb5.size)
    have HY5 := hide ((unhide HY4).below hb5)
    have HZ5 := hide hr5
    clear hr5 hb5 hc5
    go_wp2_with fail
    refine (same_calls A4 A5 n4 n5 c4 c5 P.1 P.1 w5 (unhide HY5) (unhide HZ5)).mono ?_
    rintro e w6 ⟨rfl, hb6⟩
    have hd : decide (P.1 = P.1) = true := by simp
    rw [hd]
    have HB6 := hide ((unhide HB5).trans (hb6.mono (unhide HB5).size))
    have HR6 := hide ((unhide HR5).below hb6)
    have HT6 := hide ((unhide HT5).below hb6)
    obtain ⟨q0, q1, q2, q3, q4⟩ := entCells ((hb6.block _ (unhide HS25)).trans (unhide HX25))
    obtain ⟨p0, p1, p2, p3, p4⟩ := entCells ((hb6.block _ (unhide HS35)).trans (unhide HX35))
    simp only [Nat.zero_add] at q0 q1 q2 q3 q4 p0 p1 p2 p3 p4
    have he := fun W => entEq_run X X W
    rw [decide_eq_true (rfl : X = X)] at he
    clear hd hb6
    go_wp2_with fail
    refine (may_calls A n c l w6 (unhide HR6) (unhide HT6)).mono ?_
    rintro e w7 ⟨rfl, hb7⟩
    have HB7 := hide ((unhide HB6).trans (hb7.mono (unhide HB6).size))
    have HR7 := hide ((unhide HR6).below hb7)
    have HT7 := hide ((unhide HT6).below hb7)
    obtain ⟨M, hM⟩ : ∃ M, mayL l = M := ⟨_, rfl⟩
    have HM := hide hM
    rw [hM]
    clear hM hb7 q0 q1 q2 q3 q4 p0 p1 p2 p3 p4 he
    go_wp2_with fail
    refine (refMay_calls A n c l w7 (unhide HR7)).mono ?_
    rintro e w8 ⟨rfl, hb8⟩
    rw [unhide HM]
    have HB8 := hide ((unhide HB7).trans (hb8.mono (unhide HB7).size))
    have HR8 := hide ((unhide HR7).below hb8)
    have HT8 := hide ((unhide HT7).below hb8)
    clear hb8 HM
    go_wp2_with fail
    refine (last_calls A n c l w8 (unhide HR8) (unhide HT8)).mono ?_
    rintro e w9 ⟨rfl, hb9⟩
    have HB9 := hide ((unhide HB8).trans (hb9.mono (unhide HB8).size))
    have HR9 := hide ((unhide HR8).below hb9)
    clear hb9
    go_wp2_with fail
    refine (refLast_calls A n c l w9 (unhide HR9)).mono ?_
    rintro e w10 ⟨rfl, hb10⟩
    have HB10 := hide ((unhide HB9).trans (hb10.mono (unhide HB9).size))
    clear hb10
    go_wp2_with fail
    go_ret
    exact ⟨rfl, unhide HB10⟩
end Go.Proofs.YtdpmfghlhgfhfaaDoor
