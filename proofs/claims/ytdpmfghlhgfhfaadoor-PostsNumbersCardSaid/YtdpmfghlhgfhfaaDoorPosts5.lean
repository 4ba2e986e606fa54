/- The reference's Find and Same. -/
import Derived.Test.YtdpmfghlhgfhfaaDoorPosts4
set_option linter.unusedVariables false
set_option linter.unusedSimpArgs false
namespace Go.Proofs.YtdpmfghlhgfhfaaDoor
open Go.RowKit

def Ent.zero : Ent := ⟨0, 0, ⟨#[]⟩, 0, false⟩
/-- One that is found, and the error. -/
def findL (l : List Ent) (no : Int) : Ent × Int :=
  if atI (fairL l) no < 0 then (Ent.zero, 5) else (((fairL l)[(atI (fairL l) no).toNat]?).getD Ent.zero, 0)
def RetEE (w : World) (x : Ent) (r : Int) (e : Ending) (w' : World) : Prop :=
  e = .returned (.tuple #[.agg #[.int .i64 x.no, .int .i64 x.user, .string x.text, .int .i64 x.edits, .bool x.gone], .int .i64 r]) ∧ Below w.heap.size w w'

set_option maxHeartbeats 800000 in
theorem refFind_calls (A : Option Addr) (n c : Nat) (l : List Ent) (no : Int) (w : World) (hr : RdE w A n l) :
    Calls Tryd.prog 18 #[.slice A n c, .int .i64 no] w (RetEE w (findL l no).1 (findL l no).2) := by
  obtain ⟨o0, ho0⟩ : ∃ o, o = Obj.cells #[.int .i64 0, .int .i64 0, .string ⟨#[]⟩, .int .i64 0, .bool false] 33 := ⟨_, rfl⟩
  have hb0 : Below w.heap.size w (w.alloc o0) := (Below.refl _ w).alloc (Nat.le_refl _) _
  have K := hide (refFair_calls A n c l (w.alloc o0) (hr.below hb0))
  obtain ⟨m, hm⟩ : ∃ m, fairL l = m := ⟨_, rfl⟩
  have HF : Hid (findL l no = if atI m no < 0 then (Ent.zero, 5) else ((m[(atI m no).toNat]?).getD Ent.zero, 0)) := by simp only [Hid, findL, hm]
  rw [hm] at K
  generalize findL l no = ANS at *
  have HB0 := hide hb0
  rw [ho0] at K HB0
  clear hm hr ho0 hb0
  have hsp := atFrom_spec no m 0
  have HSP := hide hsp
  clear hsp
  go_enter Tryd.func18, Tryd.ntmps18
  go_wp2_with fail
  refine (unhide K).mono ?_
  rintro e w1 ⟨v, rfl, hown, hb⟩
  obtain ⟨A', c', rfl, hrd, hcap⟩ := own_open hown
  have HRD := hide hrd
  clear hown
  go_wp2_with fail
  refine (refAt_calls A' m.length c' m no w1 ⟨rfl, unhide HRD⟩).mono ?_
  rintro e w2 ⟨rfl, hb2⟩
  have hbb := below_then hb hb2
  obtain ⟨hc1, hf1⟩ := bcell hbb
  have hz := hbb.size
  simp only [World.size_alloc] at hc1 hf1 hz
  rcases unhide HSP with ⟨h1, _⟩ | ⟨i, hi, h1, h2, h3, _⟩
  · have h1' : atI m no = -1 := h1
    have HA : Hid (ANS = (Ent.zero, 5)) := by rw [Hid, unhide HF, h1']; rfl
    have hneg : atI m no < 0 := by omega
    have HBB := hide hbb
    clear h1 h1' hb hb2 hbb
    generalize atI m no = at_ at *
    go_wp2_with fail
    refine bodyPost_ret (v := .tuple #[.agg #[.int .i64 0, .int .i64 0, .string ⟨#[]⟩, .int .i64 0, .bool false], .int .i64 5]) (by simp [results, Tryd.results18, go_sem, hc1, hz]) rfl ⟨by rw [unhide HA]; rfl, ?_⟩
    exact ((((((unhide HB0).trans ((unhide HBB).mono (unhide HB0).size)).setCell (p := ⟨w.heap.size, 0, none⟩) (Nat.le_refl _) _).setCell (p := ⟨w.heap.size, 1, none⟩) (Nat.le_refl _) _).setCell (p := ⟨w.heap.size, 2, none⟩) (Nat.le_refl _) _).setCell (p := ⟨w.heap.size, 3, none⟩) (Nat.le_refl _) _).setCell (p := ⟨w.heap.size, 4, none⟩) (Nat.le_refl _) _
  · have h1' : atI m no = ((i : Nat) : Int) := by rw [atI, h1]; simp
    have HA : Hid (ANS = (m[i], 0)) := by
      rw [Hid, unhide HF, h1', if_neg (by omega), Int.toNat_natCast, List.getElem?_eq_getElem hi]; rfl
    obtain ⟨b, o, rfl, hbl, hcx⟩ := RdE.get (l := m) ⟨rfl, (unhide HRD).below hb2⟩ (by omega)
    obtain ⟨q0, q1, q2, q3, q4⟩ := hcx i hi
    have hml := (unhide HRD).le
    have hi1 : ¬ ((i : Int) < 0) := by omega
    have hi2 : (i : Int) < (m.length : Int) := by omega
    generalize m[i] = x at *
    have HBB := hide hbb
    clear h1 hb hb2 hbb h2 h3 hcx
    rw [h1']
    clear h1'
    go_wp2_with fail
    refine bodyPost_ret (v := .tuple #[.agg #[.int .i64 x.no, .int .i64 x.user, .string x.text, .int .i64 x.edits, .bool x.gone], .int .i64 0]) (by simp [results, Tryd.results18, go_sem, hc1, hz]) rfl ⟨by rw [unhide HA], ?_⟩
    exact ((((((unhide HB0).trans ((unhide HBB).mono (unhide HB0).size)).setCell (p := ⟨w.heap.size, 0, none⟩) (Nat.le_refl _) _).setCell (p := ⟨w.heap.size, 1, none⟩) (Nat.le_refl _) _).setCell (p := ⟨w.heap.size, 2, none⟩) (Nat.le_refl _) _).setCell (p := ⟨w.heap.size, 3, none⟩) (Nat.le_refl _) _).setCell (p := ⟨w.heap.size, 4, none⟩) (Nat.le_refl _) _

set_option maxHeartbeats 800000 in
theorem same_calls (A B : Option Addr) (n m c d : Nat) (l l' : List Ent) (w : World) (hr : RdE w A n l) (hr' : RdE w B m l') :
    Calls Tryd.prog 13 #[.slice A n c, .slice B m d] w fun e w' => e = .returned (.bool (decide (l = l'))) ∧ Below w.heap.size w w' := by
  have hn := hr.2.le
  have hm := hr'.2.le
  have HL := hide hr.1
  have HL' := hide hr'.1
  have HR := hide hr
  have HR' := hide hr'
  clear hr hr'
  by_cases hnm : n = m
  · subst hnm
    have hnn : ((n : Int) != (n : Int)) = false := by simp
    obtain ⟨ANS, hA⟩ : ∃ ANS, decide (l = l') = ANS := ⟨_, rfl⟩
    rw [hA]
    have HA := hide hA
    clear hA
    go_enter Tryd.func13, Tryd.ntmps13
    go_wp2_with fail
    go_loopw [5] (fun i wr => ∃ k : Nat, k ≤ n ∧ i = .int .i64 k ∧ Below w.heap.size w wr ∧ decide (l.drop k = l'.drop k) = ANS) (fun i _ => n - (intOf i).toNat)
    case atStart => exact ⟨0, Nat.zero_le _, rfl, Below.refl _ _, unhide HA⟩
    case round =>
      obtain ⟨k, hk, rfl, hbw, hok⟩ := hrel
      by_cases hlt : k < n
      · have hkl : k < l.length := by rw [unhide HL]; exact hlt
        have hkl' : k < l'.length := by rw [unhide HL']; exact hlt
        rw [List.drop_eq_getElem_cons hkl, List.drop_eq_getElem_cons hkl'] at hok
        obtain ⟨b, o, rfl, hb, hc⟩ := ((unhide HR).below hbw).get (by omega)
        obtain ⟨b', o', rfl, hb', hc'⟩ := ((unhide HR').below hbw).get (by omega)
        obtain ⟨q0, q1, q2, q3, q4⟩ := hc k hkl
        obtain ⟨p0, p1, p2, p3, p4⟩ := hc' k hkl'
        generalize l[k] = x at *
        generalize l'[k] = y at *
        simp only [List.cons.injEq] at hok
        have HOK := hide hok
        have he := fun W => entNe_run x y W
        have hi1 : (0 : Int) ≤ (k : Int) := by omega
        have hi2 : (k : Int) < (n : Int) := by omega
        clear hok hc hc'
        by_cases hxy : x = y
        · have HXY := hide hxy
          rw [decide_eq_true hxy] at he
          have HE := hide he
          clear hxy he
          go_wp2_with fail
          refine wp_region_quiet_lit (by kernel_rfl) (by kernel_rfl) ?_
          repeat (go_big_quiet_step (fail))
          go_big_quiet_want
          refine quiet_cmp .neq 33 33 _ _ rfl _ _ _ rfl rfl (by kernel_rfl) (unhide HE) ?_
          go_big_quiet_on
          refine wpQuiet_nil ?_
          rintro _ ⟨nq, rfl⟩
          go_wp2_with fail
          go_roundw
          case rel =>
            refine ⟨k + 1, by omega, by go_num, below_drewN hbw _, ?_⟩
            rw [← unhide HOK, Bool.eq_iff_iff]
            simp [unhide HXY]
          case measure => simp [intOf]; omega
        · have HXY := hide hxy
          rw [decide_eq_false hxy] at he
          have HE := hide he
          clear hxy he
          go_wp2_with fail
          refine wp_region_quiet_lit (by kernel_rfl) (by kernel_rfl) ?_
          repeat (go_big_quiet_step (fail))
          go_big_quiet_want
          refine quiet_cmp .neq 33 33 _ _ rfl _ _ _ rfl rfl (by kernel_rfl) (unhide HE) ?_
          go_big_quiet_on
          refine wpQuiet_nil ?_
          rintro _ ⟨nq, rfl⟩
          go_wp2_with fail
          go_ret
          refine ⟨ret_b ?_, below_drewN hbw _⟩
          rw [← unhide HOK]
          simp [unhide HXY]
      · have hd : l.drop k = [] := List.drop_eq_nil_of_le (by rw [unhide HL]; omega)
        have hd' : l'.drop k = [] := List.drop_eq_nil_of_le (by rw [unhide HL']; omega)
        rw [hd, hd'] at hok
        have HOK := hide hok
        clear hok hd hd'
        go_wp2_with fail
        go_ret
        refine ⟨ret_b ?_, hbw⟩
        rw [← unhide HOK]
        simp
  · have hnn : ((n : Int) != (m : Int)) = true := by simp; omega
    go_enter Tryd.func13, Tryd.ntmps13
    go_wp2_with fail
    go_ret
    refine ⟨ret_b ?_, Below.refl _ _⟩
    symm
    simp only [decide_eq_false_iff_not]
    intro h
    rw [h, unhide HL'] at HL
    exact hnm (unhide HL).symm
end Go.Proofs.YtdpmfghlhgfhfaaDoor
