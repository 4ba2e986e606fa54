/- The reference's May, Fair, Last, at, Find, Same. -/
import Derived.Test.YtdpmfghlhgfhfaaDoorPosts3
set_option linter.unusedVariables false
set_option linter.unusedSimpArgs false
namespace Go.Proofs.YtdpmfghlhgfhfaaDoor
open Go.RowKit

set_option maxHeartbeats 1600000 in
theorem refMay_calls (A : Option Addr) (n c : Nat) (l : List Ent) (w : World) (hr : RdE w A n l) :
    Calls Tryd.prog 20 #[.slice A n c] w fun e w' => e = .returned (.bool (mayL l)) ∧ Below w.heap.size w w' := by
  have hn := hr.2.le
  have hlen := hr.1
  obtain ⟨ANS, hA⟩ : ∃ ANS, okFrom none l = ANS := ⟨_, rfl⟩
  have HM : Hid (mayL l = (ANS && decide (l.length ≤ 32))) := by rw [← hA]; rfl
  have HA := hide hA
  have HL := hide hlen
  have HR := hide hr
  clear hA hlen hr
  by_cases h32 : 32 < n
  · have h32' : (32 : Int) < (n : Int) := by omega
    go_enter Tryd.func20, Tryd.ntmps20
    go_wp2_with fail
    go_ret
    refine ⟨ret_b ?_, Below.refl _ _⟩
    rw [unhide HM, unhide HL]
    simp
    omega
  have h32' : ¬ (32 : Int) < (n : Int) := by omega
  have HM2 : Hid (mayL l = ANS) := by
    rw [Hid, unhide HM, unhide HL]
    have : decide (n ≤ 32) = true := by simp; omega
    rw [this, Bool.and_true]
  clear HM
  go_enter Tryd.func20, Tryd.ntmps20
  go_wp2_with fail
  go_loopw [3] (fun i wr => ∃ k : Nat, k ≤ n ∧ i = .int .i64 k ∧ Below w.heap.size w wr ∧ okFrom (prevNo l k) (l.drop k) = ANS ∧ (∀ (h : k - 1 < l.length), 0 < k → 1 ≤ l[k - 1].no ∧ l[k - 1].no ≤ 1073741824)) (fun i _ => n - (intOf i).toNat)
  case atStart => exact ⟨0, Nat.zero_le _, rfl, Below.refl _ _, by simpa [prevNo] using unhide HA, by intros; omega⟩
  case round =>
    obtain ⟨k, hk, rfl, hbw, hok, hpv⟩ := hrel
    by_cases hlt : k < n
    · have hkl : k < l.length := by rw [unhide HL]; exact hlt
      rw [okFrom_step l k hkl] at hok
      obtain ⟨b, o, rfl, hb, hc⟩ := ((unhide HR).below hbw).get (by omega)
      have hcx := hc k hkl
      obtain ⟨q0, q1, q2, q3, q4⟩ := hcx
      obtain ⟨x, hx⟩ : ∃ x, l[k] = x := ⟨_, rfl⟩
      rw [hx] at q0 q1 q2 q3 q4 hok
      have KM := hide (refPostMay_calls x wr)
      have HX := hide hx
      have HOK := hide hok
      have HC := hide hc
      have HPV := hide hpv
      have HXM : Hid (x.may = true → 1 ≤ x.no ∧ x.no ≤ 1073741824) := fun h => Ent.may_no h
      clear hok hc hpv hx
      obtain ⟨M, hM⟩ : ∃ M, x.may = M := ⟨_, rfl⟩
      rw [hM] at KM
      have HMM := hide hM
      clear hM
      go_wp2_with fail
      refine (unhide KM).mono ?_
      rintro e w1 ⟨rfl, hb1⟩
      have hbw1 := hbw.trans (hb1.mono hbw.size)
      have HBW := hide hbw1
      have r0 := cell_below hb1 q0
      clear q0 q1 q2 q3 q4 hbw1 hbw
      cases M with
      | false =>
        clear hb1
        go_wp2_with fail
        go_quiet (fail)
        go_wp2_with fail
        go_ret
        refine ⟨ret_b ?_, below_drewN (unhide HBW) _⟩
        rw [unhide HM2, ← unhide HOK, unhide HMM]
        rfl
      | true =>
        have hxm := unhide HXM (unhide HMM)
        by_cases h0 : 0 < k
        · have h0' : (0 : Int) < (k : Int) := by omega
          have hkp : k - 1 < l.length := by omega
          have hp := cell_below hb1 (unhide HC (k - 1) hkp).1
          obtain ⟨pb1, pb2⟩ := unhide HPV hkp h0
          have HP : Hid (prevNo l k = some l[k - 1].no) := by simp [Hid, prevNo, show k ≠ 0 by omega, List.getElem?_eq_getElem hkp]
          generalize l[k - 1].no = pn at *
          have hi : (0 : Int) ≤ (k : Int) - 1 := by omega
          have hi2 : (k : Int) - 1 < (n : Int) := by omega
          have hi3 : (k : Int) < (n : Int) := by omega
          by_cases hq : x.no = pn + 1
          · have hq1 : (x.no == pn + 1) = true := by simpa using hq
            have hq2 : (x.no != pn + 1) = false := by simpa using hq
            have HQ := hide hq1
            have hs1 : IntKind.i64.wrap (pn + 1) = pn + 1 := IntWalk.i64_in _ (by omega)
            have hs2 : IntKind.i64.wrap ((k : Int) - 1) = (k : Int) - 1 := IntWalk.i64_in _ (by omega)
            clear hq hb1
            go_wp2_with fail
            go_quiet (fail)
            clear hs1 hs2 hq1 hq2
            go_wp2_with fail
            go_roundw
            case rel =>
              refine ⟨k + 1, by omega, by go_num, below_drewN (unhide HBW) _, ?_, ?_⟩
              · rw [← unhide HOK, unhide HMM, unhide HP]
                simp only [Bool.true_and, unhide HQ]
              · intro h _
                simp only [Nat.add_sub_cancel, unhide HX]
                exact hxm
            case measure => simp [intOf]; omega
          · have hq1 : (x.no == pn + 1) = false := by simpa using hq
            have hq2 : (x.no != pn + 1) = true := by simpa using hq
            have HQ := hide hq1
            have hs1 : IntKind.i64.wrap (pn + 1) = pn + 1 := IntWalk.i64_in _ (by omega)
            have hs2 : IntKind.i64.wrap ((k : Int) - 1) = (k : Int) - 1 := IntWalk.i64_in _ (by omega)
            clear hq hb1
            go_wp2_with fail
            go_quiet (fail)
            clear hs1 hs2 hq1 hq2
            go_wp2_with fail
            go_ret
            refine ⟨ret_b ?_, below_drewN (unhide HBW) _⟩
            rw [unhide HM2, ← unhide HOK, unhide HMM, unhide HP]
            simp only [Bool.true_and, unhide HQ, Bool.false_and]
        · have h0' : ¬ (0 : Int) < (k : Int) := by omega
          have h0d : decide ((0 : Int) < (k : Int)) = false := by simpa using h0'
          have HP : Hid (prevNo l k = none) := by simp [Hid, prevNo, show k = 0 by omega]
          clear hb1
          go_wp2_with fail
          go_quiet (fail)
          go_wp2_with fail
          go_roundw
          case rel =>
            refine ⟨k + 1, by omega, by go_num, below_drewN (unhide HBW) _, ?_, ?_⟩
            · rw [← unhide HOK, unhide HMM, unhide HP]
              simp only [Bool.true_and]
            · intro h _
              simp only [Nat.add_sub_cancel, unhide HX]
              exact hxm
          case measure => simp [intOf]; omega
    · have hkn : k = n := by omega
      have hd : l.drop k = [] := List.drop_eq_nil_of_le (by rw [unhide HL]; omega)
      rw [hd] at hok
      have HOK : Hid (ANS = true) := hok.symm
      clear hok hd hkn
      go_wp2_with fail
      go_ret
      refine ⟨ret_b ?_, hbw⟩
      rw [unhide HM2, unhide HOK]

set_option maxHeartbeats 800000 in
theorem refFair_calls (A : Option Addr) (n c : Nat) (l : List Ent) (w : World) (hr : RdE w A n l) :
    Calls Tryd.prog 33 #[.slice A n c] w (RetOwn w 33 5 (fairL l).length (encs (fairL l))) := by
  obtain ⟨i0, hi, hz0, hz1, hz2⟩ := info_parts entInfo
  have K := hide (refMay_calls A n c l w hr)
  cases hm : mayL l with
  | false =>
    rw [hm] at K
    have hf : fairL l = [] := by simp [fairL, hm]
    rw [hf]
    clear hm hf hr
    go_enter Tryd.func33, Tryd.ntmps33
    go_wp2_with fail
    refine (unhide K).mono ?_
    rintro e w1 ⟨rfl, hb⟩
    go_wp2_with fail
    go_ret
    exact ⟨_, rfl, own_nil _ _ _ _, hb⟩
  | true =>
    rw [hm] at K
    have hf : fairL l = l := by simp [fairL, hm]
    rw [hf, hr.1]
    have hle : n ≤ 1000 := by
      have := hr.1
      simp only [mayL, Bool.and_eq_true, decide_eq_true_eq] at hm
      omega
    have HR := hide hr
    have H1 := hide (encs_one l)
    have C1 : Hid (0 + n ≤ maxLen) := by simp only [Hid, maxLen]; omega
    have C2 : Hid ((0 + n) * 48 ≤ 140737488355328) := by simp only [Hid]; omega
    clear hm hf hr
    go_enter Tryd.func33, Tryd.ntmps33
    go_wp2_with fail
    refine (unhide K).mono ?_
    rintro e w1 ⟨rfl, hb⟩
    go_wp2_with (at_builtin; refine wpList_append_any _ rfl (.const (.slice none 0 0)) (.tmp 8) _ rfl w.heap.size 33 i0 _ 5 48 Tryd.underlying22 hi hz0 hz1 hz2 rfl (Nat.succ_pos 4) (.slice none 0 0) 0 [] rfl (own_nil _ _ _ _) A n c (encs l) rfl ((unhide HR).2.below hb) (unhide H1) (unhide C1) (unhide C2) hb.size ?_; intro v1 w2 hown hg hat)
    go_ret
    refine ⟨_, rfl, by simpa using hown, below_own_grown (own_nil w1 w.heap.size 33 5) hb (Nat.le_refl _) hb.size hg⟩

set_option maxHeartbeats 800000 in
theorem refLast_calls (A : Option Addr) (n c : Nat) (l : List Ent) (w : World) (hr : RdE w A n l) :
    Calls Tryd.prog 21 #[.slice A n c] w fun e w' => e = .returned (.int .i64 (lastL l)) ∧ Below w.heap.size w w' := by
  have K := hide (refFair_calls A n c l w hr)
  obtain ⟨m, hm⟩ : ∃ m, fairL l = m := ⟨_, rfl⟩
  have HL : Hid (lastL l = (m.getLast?.map (·.no)).getD 0) := by simp only [Hid, lastL, hm]
  rw [hm] at K
  generalize lastL l = ANS at *
  clear hm hr
  go_enter Tryd.func21, Tryd.ntmps21
  go_wp2_with fail
  refine (unhide K).mono ?_
  rintro e w1 ⟨v, rfl, hown, hb⟩
  obtain ⟨A', c', rfl, hrd, hcap⟩ := own_open hown
  have hml := hrd.le
  by_cases h0 : 0 < m.length
  · have h0' : ((m.length : Int) == 0) = false := by simp; intro h; simp [h] at h0
    obtain ⟨b, o, rfl, hbb, hc⟩ := RdE.get (l := m) ⟨rfl, hrd⟩ h0
    obtain ⟨q0, _⟩ := hc (m.length - 1) (by omega)
    have HL2 : Hid (ANS = m[m.length - 1].no) := by
      rw [Hid, unhide HL, List.getLast?_eq_getElem?, List.getElem?_eq_getElem (by omega)]; rfl
    have hi : (0 : Int) ≤ (m.length : Int) - 1 := by omega
    have hi2 : (m.length : Int) - 1 < (m.length : Int) := by omega
    clear hc hown hrd
    go_wp2_with fail
    go_ret
    exact ⟨ret_i (unhide HL2).symm, hb⟩
  · have h0' : ((m.length : Int) == 0) = true := by simp; exact List.eq_nil_of_length_eq_zero (by omega)
    have hm0 : m = [] := List.eq_nil_of_length_eq_zero (by omega)
    have HL2 : Hid (ANS = 0) := by rw [Hid, unhide HL, hm0]; rfl
    clear hown hrd hm0
    go_wp2_with fail
    go_ret
    exact ⟨ret_i (unhide HL2).symm, hb⟩

/-- Where the post of a number is that is not gone, from place k on; -1: there is none. -/
def atFrom (no : Int) : Nat → List Ent → Int
  | _, [] => -1
  | k, x :: t => if x.no = no ∧ x.gone = false then (k : Int) else atFrom no (k + 1) t
def atI (l : List Ent) (no : Int) : Int := atFrom no 0 l
theorem atFrom_spec (no : Int) : ∀ (l : List Ent) (k : Nat), (atFrom no k l = -1 ∧ ∀ x ∈ l, ¬ (x.no = no ∧ x.gone = false)) ∨
    (∃ i, ∃ h : i < l.length, atFrom no k l = ((k + i : Nat) : Int) ∧ l[i].no = no ∧ l[i].gone = false ∧ ∀ j (hj : j < i), ¬ (l[j].no = no ∧ l[j].gone = false))
  | [], k => .inl ⟨rfl, by simp⟩
  | x :: t, k => by
    by_cases hx : x.no = no ∧ x.gone = false
    · exact .inr ⟨0, by simp, by simp [atFrom, hx], hx.1, hx.2, by intros; omega⟩
    · rcases atFrom_spec no t (k + 1) with ⟨h1, h2⟩ | ⟨i, hi, h1, h2, h3, h4⟩
      · exact .inl ⟨by simp only [atFrom, if_neg hx, h1], by
          intro y hy
          rcases List.mem_cons.1 hy with rfl | hy
          · exact hx
          · exact h2 y hy⟩
      · refine .inr ⟨i + 1, by simpa using hi, by simp only [atFrom, if_neg hx, h1]; omega, h2, h3, ?_⟩
        intro j hj
        cases j with
        | zero => exact hx
        | succ j => exact h4 j (by omega)

set_option maxHeartbeats 800000 in
theorem refAt_calls (A : Option Addr) (n c : Nat) (l : List Ent) (no : Int) (w : World) (hr : RdE w A n l) :
    Calls Tryd.prog 34 #[.slice A n c, .int .i64 no] w fun e w' => e = .returned (.int .i64 (atI l no)) ∧ Below w.heap.size w w' := by
  have hn := hr.2.le
  have hlen := hr.1
  obtain ⟨ANS, hA⟩ : ∃ ANS, atI l no = ANS := ⟨_, rfl⟩
  rw [hA]
  have HA := hide hA
  have HL := hide hlen
  have HR := hide hr
  clear hA hlen hr
  go_enter Tryd.func34, Tryd.ntmps34
  go_wp2_with fail
  go_loopw [5] (fun i wr => ∃ k : Nat, k ≤ n ∧ i = .int .i64 k ∧ Below w.heap.size w wr ∧ atFrom no k (l.drop k) = ANS) (fun i _ => n - (intOf i).toNat)
  case atStart => exact ⟨0, Nat.zero_le _, rfl, Below.refl _ _, unhide HA⟩
  case round =>
    obtain ⟨k, hk, rfl, hbw, hok⟩ := hrel
    by_cases hlt : k < n
    · have hkl : k < l.length := by rw [unhide HL]; exact hlt
      rw [List.drop_eq_getElem_cons hkl] at hok
      obtain ⟨b, o, rfl, hb, hc⟩ := ((unhide HR).below hbw).get (by omega)
      obtain ⟨q0, q1, q2, q3, q4⟩ := hc k hkl
      obtain ⟨x, hx⟩ : ∃ x, l[k] = x := ⟨_, rfl⟩
      rw [hx] at q0 q1 q2 q3 q4 hok
      simp only [atFrom] at hok
      have HOK := hide hok
      clear hok hc hx
      by_cases hq : x.no = no
      · have hq1 : (x.no == no) = true := by simpa using hq
        have HQ := hide hq
        clear hq
        obtain ⟨G, hG⟩ : ∃ G, x.gone = G := ⟨_, rfl⟩
        rw [hG] at q4
        have HG := hide hG
        clear hG
        cases G with
        | false =>
          go_wp2_with fail
          go_ret
          refine ⟨ret_i ?_, hbw⟩
          rw [← unhide HOK, if_pos ⟨unhide HQ, unhide HG⟩]
        | true =>
          go_wp2_with fail
          go_roundw
          case rel =>
            refine ⟨k + 1, by omega, by go_num, hbw, ?_⟩
            rw [← unhide HOK, if_neg (by rw [unhide HG]; simp)]
          case measure => simp [intOf]; omega
      · have hq1 : (x.no == no) = false := by simpa using hq
        go_wp2_with fail
        go_roundw
        case rel =>
          refine ⟨k + 1, by omega, by go_num, hbw, ?_⟩
          rw [← unhide HOK, if_neg (fun h => hq h.1)]
        case measure => simp [intOf]; omega
    · have hd : l.drop k = [] := List.drop_eq_nil_of_le (by rw [unhide HL]; omega)
      rw [hd] at hok
      have HOK : Hid (ANS = -1) := hok.symm
      clear hok hd
      go_wp2_with fail
      go_ret
      exact ⟨ret_i (unhide HOK).symm, hbw⟩
end Go.Proofs.YtdpmfghlhgfhfaaDoor
