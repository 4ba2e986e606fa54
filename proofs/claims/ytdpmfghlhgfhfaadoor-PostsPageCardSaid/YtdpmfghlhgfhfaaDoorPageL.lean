/- PostsPage, walked: for every input it is true. -/
import Derived.Test.YtdpmfghlhgfhfaaDoorPageP
set_option linter.unusedVariables false
set_option linter.unusedSimpArgs false
namespace Go.Proofs.YtdpmfghlhgfhfaaDoor
open Go.RowKit

theorem vis_take (l : List Ent) (k : Nat) (hk : k < l.length) : vis (l.take (k + 1)) = vis (l.take k) ++ (if l[k].gone = true then [] else [l[k]]) := by
  rw [List.take_succ_eq_append_getElem hk]
  simp only [vis, List.filter_append]
  congr 1
  cases h : l[k].gone <;> simp [h]
theorem vis_take_len (l : List Ent) (k : Nat) : (vis (l.take k)).length ≤ k := Nat.le_trans (vis_len _) (by simp; omega)

set_option maxHeartbeats 3200000 in
theorem postsPage_calls (A : Option Addr) (n c : Nat) (l : List Ent) (many : Int) (w : World) (hr : RdE w A n l) (hT : Tabs w) :
    Calls Tryd.prog 4 #[.slice A n c, .int .i64 many] w fun e w' => e = .returned (.bool true) ∧ Below w.heap.size w w' := by
  obtain ⟨i0, hi, hz0, hz1, hz2⟩ := info_parts entInfo
  have HL := hide hr.1
  have HR := hide hr
  have HT := hide hT
  obtain ⟨M, hM⟩ : ∃ M, mayL l = M := ⟨_, rfl⟩
  have HM := hide hM
  clear hr hT hM
  go_enter Tryd.func4, Tryd.ntmps4
  go_wp2_with fail
  refine (awake_calls w (unhide HT)).mono ?_
  rintro e w1 ⟨rfl, hb1⟩
  have HB1 := hide hb1
  have HR1 := hide ((unhide HR).below hb1)
  have HT1 := hide ((unhide HT).below hb1)
  clear hb1
  go_wp2_with fail
  refine (few_calls A n c l w1 (unhide HR1)).mono ?_
  rintro e w1' ⟨rfl, rfl⟩
  obtain ⟨FW, hFW⟩ : ∃ FW, fewL l = FW := ⟨_, rfl⟩
  rw [hFW]
  clear hFW
  cases FW with
  | false =>
    go_wp2_with fail
    go_ret
    exact ⟨rfl, unhide HB1⟩
  | true =>
    go_wp2_with fail
    refine (may_calls A n c l w1 (unhide HR1) (unhide HT1)).mono ?_
    rintro e w2 ⟨rfl, hb2⟩
    rw [unhide HM]
    have HB2 := hide ((unhide HB1).trans (hb2.mono (unhide HB1).size))
    have HR2 := hide ((unhide HR1).below hb2)
    have HT2 := hide ((unhide HT1).below hb2)
    clear hb2
    cases M with
    | false =>
      go_wp2_with fail
      go_ret
      exact ⟨rfl, unhide HB2⟩
    | true =>
      have hn32 : n ≤ 32 := by rw [← unhide HL]; exact (mayL_all (unhide HM)).2.2
      by_cases hm1 : many < 1
      · go_wp2_with fail
        go_ret
        exact ⟨rfl, unhide HB2⟩
      · by_cases hm2 : 50 < many
        · go_wp2_with fail
          go_ret
          exact ⟨rfl, unhide HB2⟩
        · obtain ⟨K, rfl⟩ : ∃ K : Nat, many = (K : Int) := ⟨many.toNat, by omega⟩
          have hK : 1 ≤ K := by omega
          go_wp2_with fail
          go_loopw [7, 8] (fun v i wr => ∃ k : Nat, k ≤ n ∧ i = .int .i64 k ∧ wr.ownsRow w2.heap.size 33 5 v (vis (l.take k)).length (encs (vis (l.take k))) ∧ Below w2.heap.size w2 wr) (fun _ i _ => n - (intOf i).toNat)
          case atStart => exact ⟨0, Nat.zero_le _, rfl, own_nil w2 w2.heap.size 33 5, Below.refl _ _⟩
          case round =>
            obtain ⟨k, hk, rfl, hown, hbw⟩ := hrel
            obtain ⟨Aa, ca, rfl, hra, hca⟩ := own_open hown
            have HOW := hide hown
            have HBW := hide hbw
            by_cases hlt : k < n
            · have hkl : k < l.length := by rw [unhide HL]; exact hlt
              have hvt := vis_take l k hkl
              have hvl := vis_take_len l k
              obtain ⟨b, o, rfl, hbl, hcx⟩ := RdE.get ((unhide HR2).below hbw) (by omega)
              obtain ⟨q0, q1, q2, q3, q4⟩ := hcx k hkl
              generalize l[k] = x at *
              have HVT := hide hvt
              have hi2 : (k : Int) < (n : Int) := by omega
              generalize vis (l.take k) = acc at *
              clear hvt hcx hown hra hbw
              cases hG : x.gone with
              | true =>
                rw [hG] at q4
                have HV2 : Hid (vis (l.take (k + 1)) = acc) := show vis (l.take (k + 1)) = acc by have := unhide HVT; rw [this, hG]; simp
                clear hG HVT
                go_wp2_with fail
                go_roundw
                case rel =>
                  refine ⟨k + 1, by omega, by go_num, ?_, unhide HBW⟩
                  rw [unhide HV2]
                  exact unhide HOW
                case measure => simp [intOf]; omega
              | false =>
                rw [hG] at q4
                have HV2 : Hid (vis (l.take (k + 1)) = acc ++ [x]) := show vis (l.take (k + 1)) = acc ++ [x] by have := unhide HVT; rw [this, hG]; simp
                have hol := (unhide HOW).alloc (.cells #[.int .i64 x.no, .int .i64 x.user, .string x.text, .int .i64 x.edits, .bool false] 33)
                have HOL := hide hol
                have HN := hide (Reads.own (own_lit (base := 0) wr 33 5 1 #[.int .i64 x.no, .int .i64 x.user, .string x.text, .int .i64 x.edits, .bool false] (Nat.zero_le _) (by simp [maxLen]) rfl))
                have HX : Hid (encs [x] = [.int .i64 x.no, .int .i64 x.user, .string x.text, .int .i64 x.edits, .bool false]) := by simp [Hid, encs, Ent.enc, hG]
                have H1 := hide (encs_one [x])
                rw [unhide HX] at H1
                have C1 : Hid (acc.length + 1 ≤ maxLen) := by simp only [Hid, maxLen]; omega
                have C2 : Hid ((acc.length + 1) * 48 ≤ 140737488355328) := by simp only [Hid]; omega
                have C3 : Hid (w2.heap.size ≤ (wr.alloc (.cells #[.int .i64 x.no, .int .i64 x.user, .string x.text, .int .i64 x.edits, .bool false] 33)).heap.size) := by
                  have := (unhide HBW).size
                  simp only [Hid, World.size_alloc]; omega
                clear hol hG HVT
                go_wp2_with (at_builtin; refine wpList_append_any _ rfl (.tmp 50) (.tmp 55) _ rfl w2.heap.size 33 i0 _ 5 48 Tryd.underlying22 hi hz0 hz1 hz2 rfl (Nat.succ_pos 4) (.slice Aa acc.length ca) acc.length (encs acc) rfl (unhide HOL) (some ⟨wr.heap.size, 0, none⟩) 1 1 _ rfl (unhide HN) (unhide H1) (unhide C1) (unhide C2) (unhide C3) ?_; intro v1 w4 hown hg hat; obtain ⟨A4, c4, rfl, hrd4, hcap4⟩ := own_open hown; have HOWN := hide hown; have HG := hide hg; clear hown hrd4 hg hat)
                go_roundw
                case rel =>
                  refine ⟨k + 1, by omega, by go_num, ?_, below_own_grown (unhide HOL) ((unhide HBW).alloc (by have := (unhide HBW).size; omega) _) (Nat.le_refl _) (unhide C3) (unhide HG)⟩
                  rw [unhide HV2, encs_append, unhide HX]
                  simpa using unhide HOWN
                case measure => simp [intOf]; omega
            · have hkn : k = n := by omega
              have hlk : l.take k = l := List.take_of_length_le (by rw [unhide HL]; omega)
              rw [hlk] at hown hra hca HOW
              have hi2 : ¬ (k : Int) < (n : Int) := by omega
              have HW : Hid (RdE wr Aa (vis l).length (vis l)) := ⟨rfl, hra⟩
              have HR3 := hide ((unhide HR2).below hbw)
              have HT3 := hide ((unhide HT2).below hbw)
              have HB3 := hide ((unhide HB2).trans (hbw.mono (unhide HB2).size))
              rw [hlk]
              clear hown hra hca hbw HOW HBW hlk hkn hlt
              obtain ⟨w3, hw3⟩ : ∃ x, x = wr := ⟨_, rfl⟩
              subst hw3
              go_wp2_with fail
              go_loopw [9, 10, 11] (fun v nv i wr => ∃ (k : Nat) (next : Int) (seen : List Ent), k ≤ n + 1 ∧ i = .int .i64 k ∧ nv = .int .i64 next ∧ PageS l K k next seen ∧ wr.ownsRow w3.heap.size 33 5 v seen.length (encs seen) ∧ Below w3.heap.size w3 wr) (fun _ _ i _ => n + 1 - (intOf i).toNat)
              case atStart => exact ⟨0, 1, [], Nat.zero_le _, rfl, rfl, ⟨by simp, .inl ⟨rfl, rfl⟩⟩, own_nil w3 w3.heap.size 33 5, Below.refl _ _⟩
              case round =>
                obtain ⟨k, next, seen, hk, rfl, rfl, hps, hown, hbw⟩ := hrel
                obtain ⟨As, cs, rfl, hra, hca⟩ := own_open hown
                have HOW := hide hown
                have HBW := hide hbw
                have hseen : seen.length ≤ 32 := by
                  rw [hps.1]
                  have := vis_len l
                  have := unhide HL
                  simp only [List.length_take]
                  omega
                by_cases hgo : k ≤ n ∧ 0 < next
                · obtain ⟨hk1, hk2⟩ := hgo
                  have hk1' : (k : Int) ≤ (n : Int) := by omega
                  obtain ⟨r1, r2, r3⟩ := page_round (unhide HM) hK hps hk2
                  have HR4 := hide ((unhide HR3).below hbw)
                  have HT4 := hide ((unhide HT3).below hbw)
                  have HPS3 := hide r3
                  clear hps hown hra hbw r3
                  go_wp2_with fail
                  refine (page_calls A n c l next K wr (unhide HR4) (unhide HT4)).mono ?_
                  intro e w4 hret
                  generalize pageL l next K = P at *
                  obtain ⟨p, n'⟩ := P
                  obtain ⟨A4, c4, rfl, hr4, hc4, hb4⟩ := hret.get rfl
                  simp only at r1 r2 HPS3
                  have hpl : ¬ (K : Int) < (p.length : Int) := by omega
                  have HO4 := hide (own_below (unhide HOW) hb4)
                  have HB4 := hide ((unhide HBW).trans (hb4.mono (unhide HBW).size))
                  have HR5 := hide hr4.2
                  have H1 := hide (encs_one p)
                  have C1 : Hid (seen.length + p.length ≤ maxLen) := by simp only [Hid, maxLen]; omega
                  have C2 : Hid ((seen.length + p.length) * 48 ≤ 140737488355328) := by simp only [Hid]; omega
                  have C3 : Hid (w3.heap.size ≤ w4.heap.size) := (unhide HB4).size
                  clear hret hr4 hb4
                  by_cases hn' : 0 < n'
                  · have hpk : ((p.length : Int) != (K : Int)) = false := by have := r2 hn'; simp [this]
                    clear r2
                    go_wp2_with (at_builtin; refine wpList_append_any _ rfl (.tmp 88) (.tmp 89) _ rfl w3.heap.size 33 i0 _ 5 48 Tryd.underlying22 hi hz0 hz1 hz2 rfl (Nat.succ_pos 4) (.slice As seen.length cs) seen.length (encs seen) rfl (unhide HO4) A4 p.length c4 (encs p) rfl (unhide HR5) (unhide H1) (unhide C1) (unhide C2) (unhide C3) ?_; intro v1 w5 hown hg hat; obtain ⟨A5, c5, rfl, hrd5, hcap5⟩ := own_open hown; have HOWN := hide hown; have HG := hide hg; clear hown hrd5 hg hat)
                    refine ⟨⟨k + 1, n', seen ++ p, by omega, by go_num, rfl, unhide HPS3, ?_, below_own_grown (unhide HO4) (unhide HB4) (Nat.le_refl _) (unhide C3) (unhide HG)⟩, by simp [intOf]; omega⟩
                    rw [encs_append]
                    simpa using unhide HOWN
                  · clear r2
                    go_wp2_with (at_builtin; refine wpList_append_any _ rfl (.tmp 88) (.tmp 89) _ rfl w3.heap.size 33 i0 _ 5 48 Tryd.underlying22 hi hz0 hz1 hz2 rfl (Nat.succ_pos 4) (.slice As seen.length cs) seen.length (encs seen) rfl (unhide HO4) A4 p.length c4 (encs p) rfl (unhide HR5) (unhide H1) (unhide C1) (unhide C2) (unhide C3) ?_; intro v1 w5 hown hg hat; obtain ⟨A5, c5, rfl, hrd5, hcap5⟩ := own_open hown; have HOWN := hide hown; have HG := hide hg; clear hown hrd5 hg hat)
                    refine ⟨⟨k + 1, n', seen ++ p, by omega, by go_num, rfl, unhide HPS3, ?_, below_own_grown (unhide HO4) (unhide HB4) (Nat.le_refl _) (unhide C3) (unhide HG)⟩, by simp [intOf]; omega⟩
                    rw [encs_append]
                    simpa using unhide HOWN
                · obtain ⟨e1, e2⟩ := page_end (unhide HM) hK hps (by rw [unhide HL]; exact hk) (by rw [unhide HL]; exact hgo)
                  subst e1 e2
                  have HS := hide (show RdE wr As (vis l).length (vis l) from ⟨rfl, hra⟩)
                  have HW4 := hide ((unhide HW).below hbw)
                  have HB4 := hide ((unhide HB3).trans (hbw.mono (unhide HB3).size))
                  have h00 : ¬ (0 : Int) < 0 := by decide
                  clear hgo hps hown hra hbw HOW HBW
                  by_cases hk1 : (k : Int) ≤ (n : Int)
                  all_goals
                    go_wp2_with fail
                    refine (same_calls As Aa _ _ cs ca (vis l) (vis l) wr (unhide HS) (unhide HW4)).mono ?_
                    rintro e w5 ⟨rfl, hb5⟩
                    have hd : decide (vis l = vis l) = true := by simp
                    rw [hd]
                    have HB5 := hide ((unhide HB4).trans (hb5.mono (unhide HB4).size))
                    clear hd hb5
                    go_wp2_with fail
                    go_ret
                    exact ⟨rfl, unhide HB5⟩
end Go.Proofs.YtdpmfghlhgfhfaaDoor
