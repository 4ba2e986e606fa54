/- The reference's Add, Page. -/
import Derived.Test.YtdpmfghlhgfhfaaDoorPosts6
set_option linter.unusedVariables false
set_option linter.unusedSimpArgs false
namespace Go.Proofs.YtdpmfghlhgfhfaaDoor
open Go.RowKit

theorem fairL_fair (l : List Ent) : fairL (fairL l) = fairL l := by
  by_cases h : mayL l = true
  · simp [fairL, h]
  · simp [fairL, h]
theorem lastL_fair (l : List Ent) : lastL (fairL l) = lastL l := by unfold lastL; rw [fairL_fair]
theorem lastL_range (l : List Ent) : 0 ≤ lastL l ∧ lastL l ≤ 1073741824 := by
  unfold lastL
  cases h : (fairL l).getLast? with
  | none => simp
  | some x =>
    have hx := Ent.may_no (fairL_may (List.mem_of_getLast? h))
    simp
    omega
/-- Posts with one more. -/
def addL (l : List Ent) (user : Int) (t : ByteArray) : List Ent × Int :=
  if tmay t = true ∧ 1 ≤ user ∧ user ≤ 1048576 then
    (if 1073741824 ≤ lastL l then ([], 7) else ((fairL l ++ [Ent.mk (lastL l + 1) user t 0 false]).drop ((fairL l).length + 1 - 32), 0))
  else ([], 1)
theorem encs_append (l m : List Ent) : encs (l ++ m) = encs l ++ encs m := by simp [encs]

theorem RdE.cut {w : World} {A : Option Addr} {n c : Nat} {l : List Ent} (h : RdE w A n l) {k : Nat} (hk : k ≤ n) (hc : n ≤ c) : RdE w (if c = k then A else A.map (·.add (k * 5))) (n - k) (l.drop k) := by
  refine ⟨by rw [List.length_drop, h.1], ?_⟩
  have := h.2.cut (k := k) hk hc
  rwa [encs, flat_drop _ 5 Ent.enc_length] at this
theorem RdE.tail_ {w : World} {A : Option Addr} {n c : Nat} {l : List Ent} (h : RdE w A (n + 1) l) (hc : n + 1 ≤ c) (hn : 0 < n) : RdE w (Option.map (fun x => ({ block := x.block, off := x.off + 5 } : Addr)) A) n (l.drop 1) := by
  have h1 := h.cut (k := 1) (by omega) hc
  rw [if_neg (by omega)] at h1
  obtain ⟨b, o, rfl, _⟩ := h.get (by omega)
  simpa [add_none] using h1

set_option maxHeartbeats 1600000 in
theorem refAdd_calls (A : Option Addr) (n c : Nat) (l : List Ent) (user : Int) (t : ByteArray) (w : World) (hr : RdE w A n l) :
    Calls Tryd.prog 25 #[.slice A n c, .int .i64 user, .string t] w (RetLE w (addL l user t)) := by
  obtain ⟨i0, hi, hz0, hz1, hz2⟩ := info_parts entInfo
  have K := hide (refFair_calls A n c l w hr)
  obtain ⟨m, hm⟩ : ∃ m, fairL l = m := ⟨_, rfl⟩
  have hlen : m.length ≤ 32 := hm ▸ fairL_len l
  obtain ⟨la, hla⟩ : ∃ la, lastL l = la := ⟨_, rfl⟩
  have hlr := lastL_range l
  rw [hla] at hlr
  obtain ⟨hl0, hl1⟩ := hlr
  have HML : Hid (lastL m = la) := by rw [Hid, ← hm, lastL_fair, hla]
  have HF : Hid (addL l user t = if tmay t = true ∧ 1 ≤ user ∧ user ≤ 1048576 then (if 1073741824 ≤ la then ([], 7) else ((m ++ [Ent.mk (la + 1) user t 0 false]).drop (m.length + 1 - 32), 0)) else ([], 1)) := by simp only [Hid, addL, hm, hla]
  rw [hm] at K
  generalize addL l user t = ANS at *
  clear hm hr hla
  go_enter Tryd.func25, Tryd.ntmps25
  go_wp2_with fail
  refine (unhide K).mono ?_
  rintro e w1 ⟨v, rfl, hown, hb⟩
  obtain ⟨A', c', rfl, hrd, hcap⟩ := own_open hown
  have HO := hide hown
  have HRD := hide hrd
  clear hown hrd
  go_wp2_with fail
  refine (refText_calls t w1).mono ?_
  rintro e w' ⟨rfl, rfl⟩
  obtain ⟨T, hT⟩ : ∃ T, tmay t = T := ⟨_, rfl⟩
  rw [hT] at HF ⊢
  clear hT
  cases T with
  | false =>
    have HF2 : Hid (ANS = ([], 1)) := by rw [Hid, unhide HF]; simp
    go_wp2_with fail
    go_ret2
    exact RetLE.nil (unhide HF2) hb
  | true =>
    by_cases hu : 1 ≤ user ∧ user ≤ 1048576
    · rw [if_pos ⟨rfl, hu.1, hu.2⟩] at HF
      obtain ⟨hu1, hu2⟩ := hu
      go_wp2_with fail
      refine (refLast_calls A' m.length c' m w1 ⟨rfl, unhide HRD⟩).mono ?_
      rintro e w2 ⟨rfl, hb2⟩
      rw [unhide HML]
      have hbb := hb.trans (hb2.mono hb.size)
      by_cases hx : 1073741824 ≤ la
      · rw [if_pos hx] at HF
        clear hb hb2
        go_wp2_with fail
        go_ret2
        exact RetLE.nil (unhide HF) hbb
      · rw [if_neg hx] at HF
        have HR2 := hide ((unhide HRD).below hb2)
        go_wp2_with fail
        refine (refLast_calls A' m.length c' m w2 ⟨rfl, unhide HR2⟩).mono ?_
        rintro e w3 ⟨rfl, hb3⟩
        rw [unhide HML]
        have hbbb := hbb.trans (hb3.mono hbb.size)
        have HB3 := hide hbbb
        have ho3 := own_below (own_below (unhide HO) hb2) hb3
        have hol := ho3.alloc (.cells #[.int .i64 (la + 1), .int .i64 user, .string t, .int .i64 0, .bool false] 33)
        have HOL := hide hol
        have hnew : Reads (w3.alloc (.cells #[.int .i64 (la + 1), .int .i64 user, .string t, .int .i64 0, .bool false] 33)) 5 (some ⟨w3.heap.size, 0, none⟩) 1 (encs [Ent.mk (la + 1) user t 0 false]) :=
          Reads.own (own_lit (base := 0) w3 33 5 1 #[.int .i64 (la + 1), .int .i64 user, .string t, .int .i64 0, .bool false] (Nat.zero_le _) (by simp [maxLen]) rfl)
        have HN := hide hnew
        have H1 := hide (encs_one [Ent.mk (la + 1) user t 0 false])
        have C1 : Hid (m.length + 1 ≤ maxLen) := by simp only [Hid, maxLen]; omega
        have C2 : Hid ((m.length + 1) * 48 ≤ 140737488355328) := by simp only [Hid]; omega
        have C3 : Hid (w.heap.size ≤ (w3.alloc (.cells #[.int .i64 (la + 1), .int .i64 user, .string t, .int .i64 0, .bool false] 33)).heap.size) := by
          have := hbbb.size
          simp only [Hid, World.size_alloc]; omega
        clear hb hb2 hbb hb3 hbbb ho3 hol hnew
        by_cases h32 : 32 < m.length + 1
        · have h32' : (32 : Int) < (m.length : Int) + 1 := by omega
          go_wp2_with (at_builtin; refine wpList_append_any _ rfl (.tmp 27) (.tmp 34) _ rfl w.heap.size 33 i0 _ 5 48 Tryd.underlying22 hi hz0 hz1 hz2 rfl (Nat.succ_pos 4) (.slice A' m.length c') m.length (encs m) rfl (unhide HOL) (some ⟨w3.heap.size, 0, none⟩) 1 1 (encs [Ent.mk (la + 1) user t 0 false]) rfl (unhide HN) (unhide H1) (unhide C1) (unhide C2) (unhide C3) ?_; intro v1 w4 hown hg hat; obtain ⟨A4, c4, rfl, hrd4, hcap4⟩ := own_open hown; have HOWN := hide hown; have HRD4 := hide hrd4; have HG := hide hg; clear hown hrd4 hg hat)
          go_ret2
          have hm32 : m.length + 1 - 32 = 1 := by omega
          rw [hm32] at HF
          have hrd5 : RdE w4 A4 (m.length + 1) (m ++ [Ent.mk (la + 1) user t 0 false]) := ⟨by simp, by rw [encs_append]; exact unhide HRD4⟩
          rw [unhide HF]
          exact ⟨_, _, _, rfl, hrd5.tail_ hcap4 (by omega), by omega, below_own_grown (unhide HOL) ((unhide HB3).alloc (by have := (unhide HB3).size; omega) _) (Nat.le_refl _) (unhide C3) (unhide HG)⟩
        · have h32' : ¬ (32 : Int) < (m.length : Int) + 1 := by omega
          go_wp2_with (at_builtin; refine wpList_append_any _ rfl (.tmp 27) (.tmp 34) _ rfl w.heap.size 33 i0 _ 5 48 Tryd.underlying22 hi hz0 hz1 hz2 rfl (Nat.succ_pos 4) (.slice A' m.length c') m.length (encs m) rfl (unhide HOL) (some ⟨w3.heap.size, 0, none⟩) 1 1 (encs [Ent.mk (la + 1) user t 0 false]) rfl (unhide HN) (unhide H1) (unhide C1) (unhide C2) (unhide C3) ?_; intro v1 w4 hown hg hat; obtain ⟨A4, c4, rfl, hrd4, hcap4⟩ := own_open hown; have HOWN := hide hown; have HRD4 := hide hrd4; have HG := hide hg; clear hown hrd4 hg hat)
          go_ret2
          have hm32 : m.length + 1 - 32 = 0 := by omega
          rw [hm32] at HF
          have hrd5 : RdE w4 A4 (m.length + 1) (m ++ [Ent.mk (la + 1) user t 0 false]) := ⟨by simp, by rw [encs_append]; exact unhide HRD4⟩
          rw [unhide HF]
          exact ⟨_, _, _, rfl, by simpa using hrd5, hcap4, below_own_grown (unhide HOL) ((unhide HB3).alloc (by have := (unhide HB3).size; omega) _) (Nat.le_refl _) (unhide C3) (unhide HG)⟩
    · rw [if_neg (fun h => hu h.2)] at HF
      go_wp2_with fail
      all_goals
        go_ret2
        exact RetLE.nil (unhide HF) hb

/-- So many that are not gone, from a number on. -/
def pg (fr many : Int) : List Ent → List Ent → List Ent × Int
  | acc, [] => (acc, 0)
  | acc, x :: t => if x.gone = true ∨ x.no < fr then pg fr many acc t else if many ≤ (acc.length : Int) then (acc, x.no) else pg fr many (acc ++ [x]) t
def pageL (l : List Ent) (fr many : Int) : List Ent × Int := pg fr many [] (fairL l)

set_option maxHeartbeats 1600000 in
theorem refPage_calls (A : Option Addr) (n c : Nat) (l : List Ent) (fr many : Int) (w : World) (hr : RdE w A n l) :
    Calls Tryd.prog 19 #[.slice A n c, .int .i64 fr, .int .i64 many] w (RetLE w (pageL l fr many)) := by
  obtain ⟨i0, hi, hz0, hz1, hz2⟩ := info_parts entInfo
  have K := hide (refFair_calls A n c l w hr)
  obtain ⟨m, hm⟩ : ∃ m, fairL l = m := ⟨_, rfl⟩
  have hlen : m.length ≤ 32 := hm ▸ fairL_len l
  have HF : Hid (pageL l fr many = pg fr many [] m) := by simp only [Hid, pageL, hm]
  rw [hm] at K
  generalize pageL l fr many = ANS at *
  clear hm hr
  go_enter Tryd.func19, Tryd.ntmps19
  go_wp2_with fail
  refine (unhide K).mono ?_
  rintro e w1 ⟨v, rfl, hown, hb⟩
  obtain ⟨A', c', rfl, hrd, hcap⟩ := own_open hown
  have HRD := hide hrd
  have hb1 := hb.size
  clear hown hrd
  go_wp2_with fail
  go_loopw [9, 10] (fun v i wr => ∃ (k : Nat) (acc : List Ent), k ≤ m.length ∧ acc.length ≤ k ∧ i = .int .i64 k ∧ Below w.heap.size w wr ∧ Below w1.heap.size w1 wr ∧ wr.ownsRow w1.heap.size 33 5 v acc.length (encs acc) ∧ pg fr many acc (m.drop k) = ANS) (fun _ i _ => m.length - (intOf i).toNat)
  case atStart => exact ⟨0, [], Nat.zero_le _, Nat.zero_le _, rfl, hb, Below.refl _ _, own_nil _ _ _ _, (unhide HF).symm⟩
  case round =>
    obtain ⟨k, acc, hk, hak, rfl, hbw, hbw1, hown, hok⟩ := hrel
    obtain ⟨Aa, ca, rfl, hra, hca⟩ := own_open hown
    have HOW := hide hown
    have HRA := hide hra
    clear hown hra
    by_cases hlt : k < m.length
    · rw [List.drop_eq_getElem_cons hlt] at hok
      obtain ⟨b, o, rfl, hbl, hcx⟩ := RdE.get (l := m) ⟨rfl, (unhide HRD).below hbw1⟩ (by omega)
      obtain ⟨q0, q1, q2, q3, q4⟩ := hcx k hlt
      generalize m[k] = x at *
      simp only [pg] at hok
      have HOK := hide hok
      clear hok hcx
      have hi2 : (k : Int) < (m.length : Int) := by omega
      cases hG : x.gone with
      | true =>
        rw [hG] at q4
        rw [hG, Hid, if_pos (.inl rfl)] at HOK
        have HOK2 := hide HOK
        clear hG HOK
        go_wp2_with fail
        go_roundw
        case rel => exact ⟨k + 1, acc, by omega, by omega, by go_num, hbw, hbw1, unhide HOW, unhide HOK2⟩
        case measure => simp [intOf]; omega
      | false =>
        rw [hG] at q4
        have HGF := hide hG
        rw [hG] at HOK
        clear hG
        by_cases hno : x.no < fr
        · rw [Hid, if_pos (.inr hno)] at HOK
          have HOK2 := hide HOK
          clear HOK
          go_wp2_with fail
          go_roundw
          case rel => exact ⟨k + 1, acc, by omega, by omega, by go_num, hbw, hbw1, unhide HOW, unhide HOK2⟩
          case measure => simp [intOf]; omega
        · rw [Hid, if_neg (by simp; omega)] at HOK
          by_cases hmy : many ≤ (acc.length : Int)
          · rw [if_pos hmy] at HOK
            have HOK2 := hide HOK
            clear HOK
            go_wp2_with fail
            go_quiet (fail)
            go_wp2_with fail
            go_ret2
            rw [← unhide HOK2]
            exact ⟨_, _, _, rfl, ⟨rfl, (unhide HRA)⟩, hca, below_drewN hbw _⟩
          · rw [if_neg hmy] at HOK
            have HOK2 := hide HOK
            clear HOK
            have hol := (unhide HOW).alloc (.cells #[.int .i64 x.no, .int .i64 x.user, .string x.text, .int .i64 x.edits, .bool false] 33)
            have HOL := hide hol
            have HN := hide (Reads.own (own_lit (base := 0) wr 33 5 1 #[.int .i64 x.no, .int .i64 x.user, .string x.text, .int .i64 x.edits, .bool false] (Nat.zero_le _) (by simp [maxLen]) rfl))
            have HX : Hid (encs [x] = [.int .i64 x.no, .int .i64 x.user, .string x.text, .int .i64 x.edits, .bool false]) := by simp [Hid, encs, Ent.enc, unhide HGF]
            have H1 := hide (encs_one [x])
            rw [unhide HX] at H1
            have C1 : Hid (acc.length + 1 ≤ maxLen) := by simp only [Hid, maxLen]; omega
            have C2 : Hid ((acc.length + 1) * 48 ≤ 140737488355328) := by simp only [Hid]; omega
            have C3 : Hid (w1.heap.size ≤ (wr.alloc (.cells #[.int .i64 x.no, .int .i64 x.user, .string x.text, .int .i64 x.edits, .bool false] 33)).heap.size) := by
              have := hbw1.size
              simp only [Hid, World.size_alloc]; omega
            have HBW := hide hbw
            have HBW1 := hide hbw1
            clear hol hbw hbw1
            go_wp2_with (at_builtin; refine wpList_append_any _ rfl (.tmp 43) (.tmp 48) _ rfl w1.heap.size 33 i0 _ 5 48 Tryd.underlying22 hi hz0 hz1 hz2 rfl (Nat.succ_pos 4) (.slice Aa acc.length ca) acc.length (encs acc) rfl (unhide HOL) (some ⟨wr.heap.size, 0, none⟩) 1 1 _ rfl (unhide HN) (unhide H1) (unhide C1) (unhide C2) (unhide C3) ?_; intro v1 w4 hown hg hat; obtain ⟨A4, c4, rfl, hrd4, hcap4⟩ := own_open hown; have HOWN := hide hown; have HG := hide hg; clear hown hrd4 hg hat)
            go_roundw
            case rel =>
              refine ⟨k + 1, acc ++ [x], by omega, by simp; omega, by go_num, below_own_grown (unhide HOL) ((unhide HBW).alloc (by have := (unhide HBW).size; omega) _) hb1 (by have := (unhide HBW).size; simp; omega) (unhide HG), below_own_grown (unhide HOL) ((unhide HBW1).alloc (by have := (unhide HBW1).size; omega) _) (Nat.le_refl _) (unhide C3) (unhide HG), ?_, unhide HOK2⟩
              rw [encs_append, unhide HX]
              simpa using unhide HOWN
            case measure => simp [intOf]; omega
    · have hd : m.drop k = [] := List.drop_eq_nil_of_le (by omega)
      rw [hd] at hok
      have HOK := hide hok
      have hi2 : ¬ (k : Int) < (m.length : Int) := by omega
      clear hok hd
      go_wp2_with fail
      go_ret2
      rw [← unhide HOK]
      exact ⟨_, _, _, rfl, ⟨rfl, unhide HRA⟩, hca, hbw⟩
end Go.Proofs.YtdpmfghlhgfhfaaDoor
