/- PostsDo, walked: for every input it is true. -/
import Derived.Test.YtdpmfghlhgfhfaaDoorPlain
set_option linter.unusedVariables false
set_option linter.unusedSimpArgs false
namespace Go.Proofs.YtdpmfghlhgfhfaaDoor
open Go.RowKit

set_option maxHeartbeats 1600000 in
theorem postsDo_calls (A : Option Addr) (n c : Nat) (l : List Ent) (o : OpL) (w : World) (hr : RdE w A n l) (hT : Tabs w) :
    Calls Tryd.prog 3 #[.slice A n c, o.val] w fun e w' => e = .returned (.bool true) ∧ Below w.heap.size w w' := by
  obtain ⟨W, hW⟩ : ∃ W, w.alloc (.cells #[.int .i64 o.kind, .int .i64 o.no, .int .i64 o.user, .int .i64 o.owner, .string o.text] 24) = W := ⟨_, rfl⟩
  have hb : Below w.heap.size w W := by rw [← hW]; exact (Below.refl _ w).alloc (Nat.le_refl _) _
  have cz := fun j => new_cell w #[.int .i64 o.kind, .int .i64 o.no, .int .i64 o.user, .int .i64 o.owner, .string o.text] 24 j
  rw [hW] at cz
  have k0 : W.cell? ⟨w.heap.size, 0, none⟩ = some (.int .i64 o.kind) := cz 0
  have k1 : W.cell? ⟨w.heap.size, 1, none⟩ = some (.int .i64 o.no) := cz 1
  have k2 : W.cell? ⟨w.heap.size, 2, none⟩ = some (.int .i64 o.user) := cz 2
  have k3 : W.cell? ⟨w.heap.size, 3, none⟩ = some (.int .i64 o.owner) := cz 3
  have k4 : W.cell? ⟨w.heap.size, 4, none⟩ = some (.string o.text) := cz 4
  have HB := hide hb
  have HR := hide (hr.below hb)
  have HT := hide (hT.below hb)
  have HM := hide (doL_may l o)
  obtain ⟨P, hP⟩ : ∃ P, doL l o = P := ⟨_, rfl⟩
  have HP := hide hP
  rw [hP] at HM
  clear cz hr hT hb hP
  have K0 := hide k0
  have K1 := hide k1
  have K2 := hide k2
  have K3 := hide k3
  have K4 := hide k4
  clear k0 k1 k2 k3 k4
  go_enter Tryd.func3, Tryd.ntmps3
  unfold OpL.val
  go_wp2_with fail
  refine (awake_calls W (unhide HT)).mono ?_
  rintro e w1 ⟨rfl, hb1⟩
  have HB1 := hide ((unhide HB).trans (hb1.mono (unhide HB).size))
  have HR1 := hide ((unhide HR).below hb1)
  have HT1 := hide ((unhide HT).below hb1)
  have k0 := cell_below hb1 (unhide K0)
  have k1 := cell_below hb1 (unhide K1)
  have k2 := cell_below hb1 (unhide K2)
  have k3 := cell_below hb1 (unhide K3)
  have k4 := cell_below hb1 (unhide K4)
  clear hb1 hW
  go_wp2_with fail
  refine (few_calls A n c l w1 (unhide HR1)).mono ?_
  rintro e w1' ⟨rfl, rfl⟩
  obtain ⟨FW, hFW⟩ : ∃ FW, fewL l = FW := ⟨_, rfl⟩
  rw [hFW]
  clear hFW
  cases FW with
  | false =>
    go_wp2_with fail
    go_ret
    exact ⟨rfl, unhide HB1⟩
  | true =>
    by_cases hs : o.text.size ≤ 200
    · have hs' : ¬ (200 : Int) < (o.text.size : Int) := by omega
      go_wp2_with fail
      refine (does_calls A n c l o w1 (unhide HR1) (unhide HT1)).mono ?_
      intro e w2 hret
      rw [unhide HP] at hret
      obtain ⟨A2, n2, c2, rfl, hr2, hc2, hb2⟩ := hret
      have HB2 := hide ((unhide HB1).trans (hb2.mono (unhide HB1).size))
      have HR2 := hide ((unhide HR1).below hb2)
      have HT2 := hide ((unhide HT1).below hb2)
      have HX2 := hide hr2
      have j0 := cell_below hb2 k0
      have j1 := cell_below hb2 k1
      have j2 := cell_below hb2 k2
      have j3 := cell_below hb2 k3
      have j4 := cell_below hb2 k4
      clear k0 k1 k2 k3 k4 hr2 hc2 hb2
      go_wp2_with fail
      refine (did_calls A n c l o w2 (unhide HR2)).mono ?_
      intro e w3 hret
      rw [unhide HP] at hret
      obtain ⟨A3, n3, c3, rfl, hr3, hc3, hb3⟩ := hret
      have HB3 := hide ((unhide HB2).trans (hb3.mono (unhide HB2).size))
      have HT3 := hide ((unhide HT2).below hb3)
      have HX3 := hide ((unhide HX2).below hb3)
      have HY3 := hide hr3
      clear j0 j1 j2 j3 j4 hr3 hc3 hb3
      go_wp2_with fail
      refine (same_calls A2 A3 n2 n3 c2 c3 P.1 P.1 w3 (unhide HX3) (unhide HY3)).mono ?_
      rintro e w4 ⟨rfl, hb4⟩
      have hd : decide (P.1 = P.1) = true := by simp
      rw [hd]
      have HB4 := hide ((unhide HB3).trans (hb4.mono (unhide HB3).size))
      have HT4 := hide ((unhide HT3).below hb4)
      have HX4 := hide ((unhide HX3).below hb4)
      clear hd hb4
      go_wp2_with fail
      refine (may_calls A2 n2 c2 P.1 w4 (unhide HX4) (unhide HT4)).mono ?_
      rintro e w5 ⟨rfl, hb5⟩
      rw [unhide HM]
      have HB5 := hide ((unhide HB4).trans (hb5.mono (unhide HB4).size))
      clear hb5
      go_wp2_with fail
      go_ret
      exact ⟨rfl, unhide HB5⟩
    · have hs' : (200 : Int) < (o.text.size : Int) := by omega
      go_wp2_with fail
      go_ret
      exact ⟨rfl, unhide HB1⟩
end Go.Proofs.YtdpmfghlhgfhfaaDoor
