/- posts.May, fair, Last, and the reference's. -/
import Derived.Test.YtdpmfghlhgfhfaaDoorEnt
set_option linter.unusedVariables false
set_option linter.unusedSimpArgs false
namespace Go.Proofs.YtdpmfghlhgfhfaaDoor
open Go.RowKit

set_option maxHeartbeats 1600000 in
theorem may_calls (A : Option Addr) (n c : Nat) (l : List Ent) (w : World) (hr : RdE w A n l) (hT : Tabs w) :
    Calls Tryd.prog 14 #[.slice A n c] w fun e w' => e = .returned (.bool (mayL l)) ∧ Below w.heap.size w w' := by
  have hn := hr.2.le
  have hlen := hr.1
  obtain ⟨ANS, hA⟩ : ∃ ANS, okFrom none l = ANS := ⟨_, rfl⟩
  have HM : Hid (mayL l = (ANS && decide (l.length ≤ 32))) := by rw [← hA]; rfl
  have HA := hide hA
  have HL := hide hlen
  have HR := hide hr
  clear hA hlen hr
  go_enter Tryd.func14, Tryd.ntmps14
  go_wp2_with fail
  go_loopw [7] (fun i wr => ∃ k : Nat, k ≤ n ∧ i = .int .i64 k ∧ Below w.heap.size w wr ∧ okFrom (prevNo l k) (l.drop k) = ANS ∧ (∀ (h : k - 1 < l.length), 0 < k → 1 ≤ l[k - 1].no ∧ l[k - 1].no ≤ 1073741824)) (fun i _ => n - (intOf i).toNat)
  case atStart => exact ⟨0, Nat.zero_le _, rfl, Below.refl _ _, by simpa [prevNo] using unhide HA, by intros; omega⟩
  case round =>
    obtain ⟨k, hk, rfl, hbw, hok, hpv⟩ := hrel
    by_cases hlt : k < n
    · have hkl : k < l.length := by rw [unhide HL]; exact hlt
      rw [okFrom_step l k hkl] at hok
      obtain ⟨b, o, rfl, hb, hc⟩ := ((unhide HR).below hbw).get (by omega)
      have hcx := hc k hkl
      obtain ⟨q0, q1, q2, q3, q4⟩ := hcx
      obtain ⟨x, hx⟩ : ∃ x, l[k] = x := ⟨_, rfl⟩
      rw [hx] at q0 q1 q2 q3 q4 hok
      obtain ⟨W, hW⟩ : ∃ W, wr.alloc (.cells #[.int .i64 x.no, .int .i64 x.user, .string x.text, .int .i64 x.edits, .bool x.gone] 33) = W := ⟨_, rfl⟩
      have hbW : Below wr.heap.size wr W := hW ▸ (Below.refl _ wr).alloc (Nat.le_refl _) _
      have hbwW := hbw.trans (hbW.mono hbw.size)
      have KM := fun d os => hide (postMay_calls x (Sort.grow (redrawn W d) os) ((hT.below hbwW).below (below_regrown W d os)))
      have HX := hide hx
      have g0 : W.cell? ⟨wr.heap.size, 0, none⟩ = some (.int .i64 x.no) := by rw [← hW, new_cell]; rfl
      have g1 : W.cell? ⟨wr.heap.size, 1, none⟩ = some (.int .i64 x.user) := by rw [← hW, new_cell]; rfl
      have g2 : W.cell? ⟨wr.heap.size, 2, none⟩ = some (.string x.text) := by rw [← hW, new_cell]; rfl
      have g3 : W.cell? ⟨wr.heap.size, 3, none⟩ = some (.int .i64 x.edits) := by rw [← hW, new_cell]; rfl
      have g4 : W.cell? ⟨wr.heap.size, 4, none⟩ = some (.bool x.gone) := by rw [← hW, new_cell]; rfl
      have G0 := grow_cell g0
      have G1 := grow_cell g1
      have G2 := grow_cell g2
      have G3 := grow_cell g3
      have G4 := grow_cell g4
      have HOK := hide hok
      have HC := hide hc
      have HPV := hide hpv
      have HBW := hide hbwW
      have HHW := hide hW
      have HXM : Hid (x.may = true → 1 ≤ x.no ∧ x.no ≤ 1073741824) := fun h => Ent.may_no h
      clear hok hc hpv hx
      have M := x.may
      obtain ⟨M, hM⟩ : ∃ M, x.may = M := ⟨_, rfl⟩
      rw [hM] at KM
      have HMM := hide hM
      clear hM
      by_cases h0 : 0 < k
      · have h0' : (0 : Int) < (k : Int) := by omega
        have hkp : k - 1 < l.length := by omega
        have hp := cell_below hbW (unhide HC (k - 1) hkp).1
        obtain ⟨pb1, pb2⟩ := unhide HPV hkp h0
        have HP : Hid (prevNo l k = some l[k - 1].no) := by simp [Hid, prevNo, show k ≠ 0 by omega, List.getElem?_eq_getElem hkp]
        generalize l[k - 1].no = pn at *
        have Gp := grow_cell hp
        have hi : (0 : Int) ≤ (k : Int) - 1 := by omega
        have hi2 : (k : Int) - 1 < (n : Int) := by omega
        cases M with
        | false =>
          clear hW hbW hbw g0 g1 g2 g3 g4 hp hbwW
          go_wp2_with fail
          rw [unhide HHW]
          refine wp_region_grow (by kernel_rfl) (by kernel_rfl) ?_
          repeat (go_big_quiet_step (exact Calls.regrown_of (unhide (KM _ _))))
          refine wpQuiet_nil ?_
          intro w3 hb3
          go_wp2_with fail
          go_ret
          refine ⟨ret_b ?_, (unhide HBW).trans (hb3.mono (unhide HBW).size)⟩
          rw [unhide HM, ← unhide HOK, unhide HMM]
          rfl
        | true =>
          have hxm := unhide HXM (unhide HMM)
          by_cases hq : x.no = pn + 1
          · have hq1 : (x.no == pn + 1) = true := by simpa using hq
            have hq2 : (x.no != pn + 1) = false := by simpa using hq
            have HQ := hide hq1
            have hs1 : IntKind.i64.wrap (pn + 1) = pn + 1 := IntWalk.i64_in _ (by omega)
            have hs2 : IntKind.i64.wrap ((k : Int) - 1) = (k : Int) - 1 := IntWalk.i64_in _ (by omega)
            clear hW hbW hbw g0 g1 g2 g3 g4 hp hbwW hq
            go_wp2_with fail
            rw [unhide HHW]
            refine wp_region_grow (by kernel_rfl) (by kernel_rfl) ?_
            repeat (go_big_quiet_step (exact Calls.regrown_of (unhide (KM _ _))))
            refine wpQuiet_nil ?_
            intro w3 hb3
            clear hs1 hs2 hq1 hq2
            go_wp2_with fail
            go_roundw
            case rel =>
              refine ⟨k + 1, by omega, by go_num, (unhide HBW).trans (hb3.mono (unhide HBW).size), ?_, ?_⟩
              · rw [← unhide HOK, unhide HMM, unhide HP]
                simp only [Bool.true_and, unhide HQ]
              · intro h _
                simp only [Nat.add_sub_cancel, unhide HX]
                exact hxm
            case measure => simp [intOf]; omega
          · have hq1 : (x.no == pn + 1) = false := by simpa using hq
            have hq2 : (x.no != pn + 1) = true := by simpa using hq
            have HQ := hide hq1
            have hs1 : IntKind.i64.wrap (pn + 1) = pn + 1 := IntWalk.i64_in _ (by omega)
            have hs2 : IntKind.i64.wrap ((k : Int) - 1) = (k : Int) - 1 := IntWalk.i64_in _ (by omega)
            clear hW hbW hbw g0 g1 g2 g3 g4 hp hbwW hq
            go_wp2_with fail
            rw [unhide HHW]
            refine wp_region_grow (by kernel_rfl) (by kernel_rfl) ?_
            repeat (go_big_quiet_step (exact Calls.regrown_of (unhide (KM _ _))))
            refine wpQuiet_nil ?_
            intro w3 hb3
            clear hs1 hs2 hq1 hq2
            go_wp2_with fail
            go_ret
            refine ⟨ret_b ?_, (unhide HBW).trans (hb3.mono (unhide HBW).size)⟩
            rw [unhide HM, ← unhide HOK, unhide HMM, unhide HP]
            simp only [Bool.true_and, unhide HQ, Bool.false_and]
      · have h0' : ¬ (0 : Int) < (k : Int) := by omega
        have HP : Hid (prevNo l k = none) := by simp [Hid, prevNo, show k = 0 by omega]
        clear hW hbW hbw g0 g1 g2 g3 g4 hbwW
        cases M with
        | false =>
          go_wp2_with fail
          rw [unhide HHW]
          refine wp_region_grow (by kernel_rfl) (by kernel_rfl) ?_
          repeat (go_big_quiet_step (exact Calls.regrown_of (unhide (KM _ _))))
          refine wpQuiet_nil ?_
          intro w3 hb3
          go_wp2_with fail
          go_ret
          refine ⟨ret_b ?_, (unhide HBW).trans (hb3.mono (unhide HBW).size)⟩
          rw [unhide HM, ← unhide HOK, unhide HMM]
          rfl
        | true =>
          have hxm := unhide HXM (unhide HMM)
          go_wp2_with fail
          rw [unhide HHW]
          refine wp_region_grow (by kernel_rfl) (by kernel_rfl) ?_
          repeat (go_big_quiet_step (exact Calls.regrown_of (unhide (KM _ _))))
          refine wpQuiet_nil ?_
          intro w3 hb3
          go_wp2_with fail
          go_roundw
          case rel =>
            refine ⟨k + 1, by omega, by go_num, (unhide HBW).trans (hb3.mono (unhide HBW).size), ?_, ?_⟩
            · rw [← unhide HOK, unhide HMM, unhide HP]
              simp only [Bool.true_and]
            · intro h _
              simp only [Nat.add_sub_cancel, unhide HX]
              exact hxm
          case measure => simp [intOf]; omega
    · have hkn : k = n := by omega
      have hd : l.drop k = [] := List.drop_eq_nil_of_le (by rw [unhide HL]; omega)
      rw [hd] at hok
      have HOK : Hid (ANS = true) := hok.symm
      clear hok hd hkn
      go_wp2_with fail
      go_ret
      refine ⟨ret_b ?_, hbw⟩
      rw [unhide HM, unhide HOK, unhide HL, Bool.eq_iff_iff]
      simp
      omega
end Go.Proofs.YtdpmfghlhgfhfaaDoor
