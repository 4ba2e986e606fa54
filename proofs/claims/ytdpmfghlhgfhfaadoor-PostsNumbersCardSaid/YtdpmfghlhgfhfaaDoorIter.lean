/- posts.there: the range over a function: which posts come. -/
import Derived.RangeFuncNested
import Derived.RangeFuncBound
import Derived.RangeFuncCalls
import Derived.RangeFuncLeaves
import Derived.OwnWalkIn
import Derived.TacticsInMore
import Derived.LoopNIn
import Derived.LoopIn
import Derived.Test.YtdpmfghlhgfhfaaDoorPosts7
set_option linter.unusedVariables false
set_option linter.unusedSimpArgs false
namespace Go.Proofs.YtdpmfghlhgfhfaaDoor
open Go.RowKit

attribute [local go_sem] Oper.semAt_some

/-- Those that are not gone, from a number on, with their places. -/
def ys (fr : Int) : Nat → List Ent → List (Nat × Ent)
  | _, [] => []
  | k, x :: t => if x.gone = false ∧ fr ≤ x.no then (k, x) :: ys fr (k + 1) t else ys fr (k + 1) t
abbrev YE (fr : Int) (m : List Ent) := { p : Nat × Ent // p ∈ ys fr 0 m }
def YE.args {fr : Int} {m : List Ent} (x : YE fr m) : Array Value := #[.int .i64 (x.1.1 : Int), .agg #[.int .i64 x.1.2.no, .int .i64 x.1.2.user, .string x.1.2.text, .int .i64 x.1.2.edits, .bool x.1.2.gone]]

theorem there_calls (A : Option Addr) (n c : Nat) (fr : Int) (w : World) :
    Calls Tryd.prog 29 #[.slice A n c, .int .i64 fr] w fun e w' =>
      e = .returned (.func (.func 41) #[] #[.pointer (some ⟨w.heap.size, 0, none⟩), .pointer (some ⟨w.heap.size + 1, 0, none⟩)]) ∧ w' = (w.alloc (.cells #[.slice A n c] 22)).alloc (.cells #[.int .i64 fr] 3) := by
  go_enter Tryd.func29, Tryd.ntmps29
  go_wp2
  go_ret
  exact ⟨rfl, rfl⟩

set_option maxRecDepth 100000 in
set_option maxHeartbeats 2000000 in
theorem there1_stops (F : Fence) (N : Nat) (hf : F.fn 41) (hro : F.round = none) (hN : 1 ≤ N) (w : World) (Bl Bf : Nat) (A : Option Addr) (n c : Nat) (fr : Int) (m : List Ent)
    (hBl : w.cell? ⟨Bl, 0, none⟩ = some (.slice A n c)) (hBf : w.cell? ⟨Bf, 0, none⟩ = some (.int .i64 fr)) (hr : RdE w A n m) :
    SeqStopsK F N Tryd.prog 41 #[.pointer (some ⟨Bl, 0, none⟩), .pointer (some ⟨Bf, 0, none⟩)] (fun x : YE fr m => x.args) (Below w.heap.size) (fun xs => xs.map (·.1) = ys fr 0 m) (fun pre => pre.map (·.1) <+: ys fr 0 m) (ys fr 0 m).length w := by
  intro l J Jx W hW hJ hJx hY h0
  have hn := hr.2.le
  have HL := hide hr.1
  have HR := hide hr
  have HJ := hide hJ
  have HY := hide hY
  have hltl : Bl < w.heap.size := block_lt hBl
  have hltf : Bf < w.heap.size := block_lt hBf
  have cBl := cell_below hW hBl
  have cBf := cell_below hW hBf
  clear hBl hBf hr hJ hJx hY
  refine callsIn_of_wp Tryd.func41 rfl hf ?_ hro
  simp only [Tryd.ntmps41, List.size_toArray, List.length_cons, List.length_nil, Nat.reduceAdd, Nat.reduceSub, Array.replicate_succ, Array.replicate_zero, List.push_toArray, List.append_toArray, List.nil_append, List.cons_append]
  gi_wp2
  gi_loopw [8] (fun i wr => ∃ (k : Nat) (pre : List (YE fr m)), k ≤ n ∧ i = .int .i64 k ∧ J pre wr ∧ pre.map (·.1) ++ ys fr k (m.drop k) = ys fr 0 m ∧ Below w.heap.size W wr)
    (fun i _ => n - (intOf i).toNat)
  case atStart => exact ⟨0, [], Nat.zero_le _, rfl, h0, by simp, Below.refl _ _⟩
  case round =>
    obtain ⟨k, pre, hk, rfl, hJs, hys, hbw⟩ := hrel
    by_cases hlt : k < n
    · have hkl : k < m.length := by rw [unhide HL]; exact hlt
      rw [List.drop_eq_getElem_cons hkl] at hys
      obtain ⟨b, o, rfl, hb, hc⟩ := ((unhide HR).below (hW.trans hbw)).get (by omega)
      obtain ⟨q0, q1, q2, q3, q4⟩ := hc k hkl
      generalize m[k] = x at *
      simp only [ys] at hys
      have HYS := hide hys
      have dBf := (hbw.cell (p := ⟨Bf, 0, none⟩) hltf).trans cBf
      have hi2 : (k : Int) < (n : Int) := by omega
      clear hys hc
      obtain ⟨G, hG⟩ : ∃ G, x.gone = G := ⟨_, rfl⟩
      rw [hG] at q4
      have HG := hide hG
      clear hG
      have HBW := hide hbw
      have hsz := hbw.size
      have hWs := hW.size
      have hltf2 : Bf < wr.heap.size := by omega
      have hbx : Below w.heap.size W (wr.alloc (.cells #[.int .i64 x.no, .int .i64 x.user, .string x.text, .int .i64 x.edits, .bool G] 33)) := hbw.alloc (by omega) _
      have HBX := hide hbx
      have HJS := hide ((unhide HJ) pre wr (wr.alloc (.cells #[.int .i64 x.no, .int .i64 x.user, .string x.text, .int .i64 x.edits, .bool G] 33)) none hJs (World.grownBy_alloc wr _ none) (fun r e => by cases e))
      clear hbw hbx hJs
      cases G with
      | true =>
        have HYS2 : Hid (pre.map (·.1) ++ ys fr (k + 1) (m.drop (k + 1)) = ys fr 0 m) := by
          have := unhide HYS
          rwa [if_neg (by rw [unhide HG]; simp)] at this
        gi_wp2
        refine ⟨fun _ h => (by cases h), ?_⟩
        gi_wp2
        go_roundw
        case rel => exact ⟨k + 1, pre, by omega, by go_num, unhide HJS, unhide HYS2, unhide HBX⟩
        case measure => simp [intOf]; omega
      | false =>
        by_cases hno : fr ≤ x.no
        · have HYS2 : Hid (pre.map (·.1) ++ (k, x) :: ys fr (k + 1) (m.drop (k + 1)) = ys fr 0 m) := by
            have := unhide HYS
            rwa [if_pos ⟨unhide HG, hno⟩] at this
          have hmem : (k, x) ∈ ys fr 0 m := by rw [← unhide HYS2]; simp
          have hpl : pre.length < (ys fr 0 m).length := by rw [← unhide HYS2]; simp
          obtain ⟨fn, tmps, assign, body, hy, hR⟩ := unhide HY pre ⟨(k, x), hmem⟩ _ (unhide HJS) hpl
          simp only [YE.args, unhide HG] at hy
          have HHR := hide hR
          have HMEM := hide hmem
          clear hR hpl
          gi_wp2
          refine (unhide HHR).mono ?_
          rintro e W3 (⟨rfl, hJ3, hk3⟩ | ⟨rfl, hJx3⟩)
          · gi_wp2
            go_roundw
            case rel => exact ⟨k + 1, pre ++ [⟨(k, x), unhide HMEM⟩], by omega, by go_num, hJ3, by simpa using unhide HYS2, (unhide HBX).trans hk3⟩
            case measure => simp [intOf]; omega
          · gi_wp2
            refine bodyPost_ret (results_none rfl _ _ _) rfl ?_
            exact ⟨⟨_, rfl⟩, .inr ⟨pre ++ [⟨(k, x), unhide HMEM⟩], ⟨ys fr (k + 1) (m.drop (k + 1)), by simpa using unhide HYS2⟩, hJx3⟩⟩
        · have HYS2 : Hid (pre.map (·.1) ++ ys fr (k + 1) (m.drop (k + 1)) = ys fr 0 m) := by
            have := unhide HYS
            rwa [if_neg (fun h => hno h.2)] at this
          gi_wp2
          refine ⟨fun _ h => (by cases h), ?_⟩
          gi_wp2
          go_roundw
          case rel => exact ⟨k + 1, pre, by omega, by go_num, unhide HJS, unhide HYS2, unhide HBX⟩
          case measure => simp [intOf]; omega
    · have hd : m.drop k = [] := List.drop_eq_nil_of_le (by rw [unhide HL]; omega)
      rw [hd] at hys
      have HYS := hide hys
      have hi2 : ¬ (k : Int) < (n : Int) := by omega
      clear hys hd
      gi_wp2
      go_end0
      exact ⟨⟨_, rfl⟩, .inl ⟨pre, by simpa [ys] using unhide HYS, hJs⟩⟩
end Go.Proofs.YtdpmfghlhgfhfaaDoor
