/- posts.Add. -/
import Derived.Test.YtdpmfghlhgfhfaaDoorFind
set_option linter.unusedVariables false
set_option linter.unusedSimpArgs false
namespace Go.Proofs.YtdpmfghlhgfhfaaDoor
open Go.RowKit

set_option maxHeartbeats 1600000 in
theorem add_calls (A : Option Addr) (n c : Nat) (l : List Ent) (user : Int) (t : ByteArray) (w : World) (hr : RdE w A n l) (hT : Tabs w) :
    Calls Tryd.prog 24 #[.slice A n c, .int .i64 user, .string t] w (RetLE w (addL l user t)) := by
  obtain ⟨i0, hi, hz0, hz1, hz2⟩ := info_parts entInfo
  have K := hide (fair_calls A n c l w hr hT)
  obtain ⟨m, hm⟩ : ∃ m, fairL l = m := ⟨_, rfl⟩
  have hlen : m.length ≤ 32 := hm ▸ fairL_len l
  obtain ⟨la, hla⟩ : ∃ la, lastL l = la := ⟨_, rfl⟩
  have hlr := lastL_range l
  rw [hla] at hlr
  obtain ⟨hl0, hl1⟩ := hlr
  have HML : Hid (lastL m = la) := by rw [Hid, ← hm, lastL_fair, hla]
  have HF : Hid (addL l user t = if tmay t = true ∧ 1 ≤ user ∧ user ≤ 1048576 then (if 1073741824 ≤ la then ([], 7) else ((m ++ [Ent.mk (la + 1) user t 0 false]).drop (m.length + 1 - 32), 0)) else ([], 1)) := by simp only [Hid, addL, hm, hla]
  rw [hm] at K
  have HT := hide hT
  generalize addL l user t = ANS at *
  clear hm hr hla hT
  go_enter Tryd.func24, Tryd.ntmps24
  go_wp2_with fail
  refine (unhide K).mono ?_
  rintro e w1 ⟨v, rfl, hown, hb⟩
  obtain ⟨A', c', rfl, hrd, hcap⟩ := own_open hown
  have HO := hide hown
  have HRD := hide hrd
  have HT1 := hide ((unhide HT).below hb)
  clear hown hrd
  go_wp2_with fail
  refine (last_calls A' m.length c' m w1 ⟨rfl, unhide HRD⟩ (unhide HT1)).mono ?_
  rintro e w2 ⟨rfl, hb2⟩
  rw [unhide HML]
  have HT2 := hide ((unhide HT1).below hb2)
  have hbb := hb.trans (hb2.mono hb.size)
  have HO2 := hide (own_below (unhide HO) hb2)
  have HBB := hide hbb
  clear hb hb2 hbb HO HT1
  go_wp2_with fail
  refine (between_calls user 1 1048576 w2).mono ?_
  rintro e w' ⟨rfl, rfl⟩
  by_cases hu : 1 ≤ user ∧ user ≤ 1048576
  · have hub : (decide (1 ≤ user) && decide (user ≤ 1048576)) = true := by simp [hu]
    rw [hub]
    clear hub
    go_wp2_with fail
    refine (text_calls t w2 (unhide HT2)).mono ?_
    rintro e w3 ⟨rfl, hb3⟩
    have HB3 := hide ((unhide HBB).trans (hb3.mono (unhide HBB).size))
    have HO3 := hide (own_below (unhide HO2) hb3)
    clear hb3
    obtain ⟨T, hTm⟩ : ∃ T, tmay t = T := ⟨_, rfl⟩
    rw [hTm] at HF ⊢
    clear hTm
    cases T with
    | false =>
      have HF2 : Hid (ANS = ([], 1)) := by rw [Hid, unhide HF]; simp
      go_wp2_with fail
      go_ret2
      exact RetLE.nil (unhide HF2) (unhide HB3)
    | true =>
      rw [if_pos ⟨rfl, hu.1, hu.2⟩] at HF
      by_cases hx : 1073741824 ≤ la
      · rw [if_pos hx] at HF
        go_wp2_with fail
        go_ret2
        exact RetLE.nil (unhide HF) (unhide HB3)
      · rw [if_neg hx] at HF
        have hol := (unhide HO3).alloc (.cells #[.int .i64 (la + 1), .int .i64 user, .string t, .int .i64 0, .bool false] 33)
        have HOL := hide hol
        have hnew : Reads (w3.alloc (.cells #[.int .i64 (la + 1), .int .i64 user, .string t, .int .i64 0, .bool false] 33)) 5 (some ⟨w3.heap.size, 0, none⟩) 1 (encs [Ent.mk (la + 1) user t 0 false]) :=
          Reads.own (own_lit (base := 0) w3 33 5 1 #[.int .i64 (la + 1), .int .i64 user, .string t, .int .i64 0, .bool false] (Nat.zero_le _) (by simp [maxLen]) rfl)
        have HN := hide hnew
        have H1 := hide (encs_one [Ent.mk (la + 1) user t 0 false])
        have C1 : Hid (m.length + 1 ≤ maxLen) := by simp only [Hid, maxLen]; omega
        have C2 : Hid ((m.length + 1) * 48 ≤ 140737488355328) := by simp only [Hid]; omega
        have C3 : Hid (w.heap.size ≤ (w3.alloc (.cells #[.int .i64 (la + 1), .int .i64 user, .string t, .int .i64 0, .bool false] 33)).heap.size) := by
          have := (unhide HB3).size
          simp only [Hid, World.size_alloc]; omega
        clear hol hnew
        go_wp2_with (at_builtin; refine wpList_append_any _ rfl (.tmp 25) (.tmp 31) _ rfl w.heap.size 33 i0 _ 5 48 Tryd.underlying22 hi hz0 hz1 hz2 rfl (Nat.succ_pos 4) (.slice A' m.length c') m.length (encs m) rfl (unhide HOL) (some ⟨w3.heap.size, 0, none⟩) 1 1 (encs [Ent.mk (la + 1) user t 0 false]) rfl (unhide HN) (unhide H1) (unhide C1) (unhide C2) (unhide C3) ?_; intro v1 w4 hown hg hat; obtain ⟨A4, c4, rfl, hrd4, hcap4⟩ := own_open hown; have HOWN := hide hown; have HRD4 := hide hrd4; have HG := hide hg; clear hown hrd4 hg hat)
        go_ret2
        have hk : (max ((m.length : Int) + 1 - 32) 0).toNat = m.length + 1 - 32 := by omega
        have hrd5 : RdE w4 A4 (m.length + 1) (m ++ [Ent.mk (la + 1) user t 0 false]) := ⟨by simp, by rw [encs_append]; exact unhide HRD4⟩
        have hrd6 := hrd5.cut (k := m.length + 1 - 32) (by omega) hcap4
        rw [if_neg (by omega)] at hrd6
        rw [unhide HF, ← hk] 
        rw [← hk] at hrd6
        refine ⟨_, _, _, rfl, ?_, by omega, below_own_grown (unhide HOL) ((unhide HB3).alloc (by have := (unhide HB3).size; omega) _) (Nat.le_refl _) (unhide C3) (unhide HG)⟩
        exact hrd6
  · rw [if_neg (fun h => hu h.2)] at HF
    have hub : (decide (1 ≤ user) && decide (user ≤ 1048576)) = false := by
      simp only [Bool.and_eq_false_iff, decide_eq_false_iff_not]
      omega
    rw [hub]
    clear hub
    go_wp2_with fail
    go_ret2
    exact RetLE.nil (unhide HF) (unhide HBB)
end Go.Proofs.YtdpmfghlhgfhfaaDoor
