/- slices.Clone of posts, posts.fair, posts.Last. -/
import Derived.Test.YtdpmfghlhgfhfaaDoorPosts1
set_option linter.unusedVariables false
set_option linter.unusedSimpArgs false
namespace Go.Proofs.YtdpmfghlhgfhfaaDoor
open Go.RowKit

theorem entInfo : (Tryd.prog.info? 33).map (fun i => (i.zero, i.size, i.bytes)) = some (some (.agg #[.int .i64 0, .int .i64 0, .string ByteArray.empty, .int .i64 0, .bool false]), 5, 48) := by kernel_rfl
theorem encs_one (l : List Ent) : ∀ u ∈ encs l, u.oneCell' = true := by
  intro u hu
  simp only [encs, List.mem_flatMap] at hu
  obtain ⟨x, _, hx⟩ := hu
  simp only [Ent.enc, List.mem_cons, List.not_mem_nil, or_false] at hx
  rcases hx with rfl | rfl | rfl | rfl | rfl <;> rfl

set_option maxHeartbeats 800000 in
theorem clone_calls (A : Option Addr) (n c : Nat) (l : List Ent) (w : World) (hr : RdE w A n l) (hn : n ≤ 1000) :
    Calls Tryd.prog 42 #[.slice A n c] w (RetOwn w 33 5 n (encs l)) := by
  obtain ⟨i0, hi, hz0, hz1, hz2⟩ := info_parts entInfo
  have hq := fun (w : World) (a : Option Addr) (n c : Nat) => Lib.run_eql_slice_nil (P := Tryd.prog) w 22 33 a n c 0 0 Tryd.underlying22
  rcases A with _ | a
  · have h0 : n = 0 := by
      rcases Nat.eq_zero_or_pos n with h | h
      · exact h
      · obtain ⟨b, o, e, _⟩ := hr.2.get h; cases e
    subst h0
    have hl : l = [] := List.eq_nil_of_length_eq_zero hr.1
    subst hl
    go_enter Tryd.func42, Tryd.ntmps42
    go_wp2
    go_ret
    exact ⟨_, rfl, own_nil _ _ _ _, Below.refl _ _⟩
  · have hr' := hr.2.alloc (.cells #[] 33)
    have ho := own_lit (base := w.heap.size) w 33 5 0 #[] (Nat.le_refl _) (by simp [maxLen]) rfl
    have h1 := encs_one l
    have HR := hide hr'
    have H1 := hide h1
    have C1 : Hid (0 + n ≤ maxLen) := by simp only [Hid, maxLen]; omega
    have C2 : Hid ((0 + n) * 48 ≤ 140737488355328) := by simp only [Hid]; omega
    have C3 : Hid (w.heap.size ≤ (w.alloc (.cells #[] 33)).heap.size) := by simp [Hid]
    clear hr hr' h1
    go_enter Tryd.func42, Tryd.ntmps42
    go_wp2_with (at_builtin; refine wpList_append_any _ rfl (.tmp 5) (.tmp 6) _ rfl w.heap.size 33 i0 _ 5 48 Tryd.underlying22 hi hz0 hz1 hz2 rfl (Nat.succ_pos 4) (.slice (some ⟨w.heap.size, 0, none⟩) 0 0) 0 [] rfl ho (some a) n c (encs l) rfl (unhide HR) (unhide H1) (unhide C1) (unhide C2) (unhide C3) ?_; intro v1 w1 hown hg hat)
    go_ret
    refine ⟨_, rfl, by simpa using hown, below_own_grown ho ((Below.refl _ w).alloc (Nat.le_refl _) _) (Nat.le_refl _) (by simp) hg⟩

set_option maxHeartbeats 800000 in
theorem fair_calls (A : Option Addr) (n c : Nat) (l : List Ent) (w : World) (hr : RdE w A n l) (hT : Tabs w) :
    Calls Tryd.prog 30 #[.slice A n c] w (RetOwn w 33 5 (fairL l).length (encs (fairL l))) := by
  have K := hide (may_calls A n c l w hr hT)
  cases hm : mayL l with
  | false =>
    rw [hm] at K
    have hf : fairL l = [] := by simp [fairL, hm]
    rw [hf]
    clear hm hf hr hT
    go_enter Tryd.func30, Tryd.ntmps30
    go_wp2_with fail
    refine (unhide K).mono ?_
    rintro e w1 ⟨rfl, hb⟩
    go_wp2_with fail
    go_ret
    exact ⟨_, rfl, own_nil _ _ _ _, hb⟩
  | true =>
    rw [hm] at K
    have hf : fairL l = l := by simp [fairL, hm]
    rw [hf, hr.1]
    have hle : n ≤ 1000 := by
      have := hr.1
      simp only [mayL, Bool.and_eq_true, decide_eq_true_eq] at hm
      omega
    have HR := hide hr
    clear hm hf hT hr
    go_enter Tryd.func30, Tryd.ntmps30
    go_wp2_with fail
    refine (unhide K).mono ?_
    rintro e w1 ⟨rfl, hb⟩
    go_wp2_with fail
    refine (clone_calls A n c l _ ((unhide HR).below hb) hle).mono ?_
    rintro e w2 ⟨v, rfl, hown, hb2⟩
    go_wp2_with fail
    go_ret
    exact ⟨_, rfl, own_lower hown hb.size, below_then hb hb2⟩

/-- The last one's number. -/
def lastL (l : List Ent) : Int := ((fairL l).getLast?.map (·.no)).getD 0
set_option maxHeartbeats 800000 in
theorem last_calls (A : Option Addr) (n c : Nat) (l : List Ent) (w : World) (hr : RdE w A n l) (hT : Tabs w) :
    Calls Tryd.prog 16 #[.slice A n c] w fun e w' => e = .returned (.int .i64 (lastL l)) ∧ Below w.heap.size w w' := by
  have K := hide (fair_calls A n c l w hr hT)
  obtain ⟨m, hm⟩ : ∃ m, fairL l = m := ⟨_, rfl⟩
  have HL : Hid (lastL l = (m.getLast?.map (·.no)).getD 0) := by simp only [Hid, lastL, hm]
  rw [hm] at K
  generalize lastL l = ANS at *
  clear hm hr hT
  go_enter Tryd.func16, Tryd.ntmps16
  go_wp2_with fail
  refine (unhide K).mono ?_
  rintro e w1 ⟨v, rfl, hown, hb⟩
  obtain ⟨A', c', rfl, hrd, hcap⟩ := own_open hown
  have hml := hrd.le
  by_cases h0 : 0 < m.length
  · have h0' : (0 : Int) < (m.length : Int) := by omega
    obtain ⟨b, o, rfl, hbb, hc⟩ := RdE.get (l := m) ⟨rfl, hrd⟩ h0
    obtain ⟨q0, _⟩ := hc (m.length - 1) (by omega)
    have HL2 : Hid (ANS = m[m.length - 1].no) := by
      rw [Hid, unhide HL, List.getLast?_eq_getElem?, List.getElem?_eq_getElem (by omega)]; rfl
    have hi : (0 : Int) ≤ (m.length : Int) - 1 := by omega
    have hi2 : (m.length : Int) - 1 < (m.length : Int) := by omega
    clear hc hown hrd
    go_wp2_with fail
    go_ret
    exact ⟨ret_i (unhide HL2).symm, hb⟩
  · have h0' : ¬ (0 : Int) < (m.length : Int) := by omega
    have hm0 : m = [] := List.eq_nil_of_length_eq_zero (by omega)
    have HL2 : Hid (ANS = 0) := by rw [Hid, unhide HL, hm0]; rfl
    clear hown hrd hm0
    go_wp2_with fail
    go_ret
    exact ⟨ret_i (unhide HL2).symm, hb⟩
end Go.Proofs.YtdpmfghlhgfhfaaDoor
