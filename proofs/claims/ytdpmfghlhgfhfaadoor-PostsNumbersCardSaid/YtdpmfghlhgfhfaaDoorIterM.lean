/- posts.there, whose rounds may turn what lies below 'lo'. -/
import Derived.Test.YtdpmfghlhgfhfaaDoorIter
set_option linter.unusedVariables false
set_option linter.unusedSimpArgs false
namespace Go.Proofs.YtdpmfghlhgfhfaaDoor
open Go.RowKit

attribute [local go_sem] Oper.semAt_some

/-- The blocks from lo to hi stand. -/
def Mid (lo hi : Nat) (X Y : World) : Prop := X.heap.size ≤ Y.heap.size ∧ ∀ k, lo ≤ k → k < hi → Y.heap[k]? = X.heap[k]?
theorem Mid.refl (lo hi : Nat) (X : World) : Mid lo hi X X := ⟨Nat.le_refl _, fun _ _ _ => rfl⟩
theorem Mid.trans {lo hi : Nat} {X Y Z : World} (h : Mid lo hi X Y) (k : Mid lo hi Y Z) : Mid lo hi X Z := ⟨Nat.le_trans h.1 k.1, fun i h1 h2 => (k.2 i h1 h2).trans (h.2 i h1 h2)⟩
theorem Mid.of_grownBy {lo hi : Nat} {X Y Z : World} {row : Option Nat} (h : Mid lo hi X Y) (hg : Y.grownBy Z row) (hs : hi ≤ Y.heap.size) (hr : ∀ k, row = some k → k < lo ∨ hi ≤ k) : Mid lo hi X Z :=
  ⟨Nat.le_trans h.1 hg.size, fun i h1 h2 => (hg.block i (by omega) (fun e => by rcases hr i e.symm with h | h <;> omega)).trans (h.2 i h1 h2)⟩
theorem Mid.alloc {lo hi : Nat} {X Y : World} (h : Mid lo hi X Y) (hs : hi ≤ Y.heap.size) (o : Obj) : Mid lo hi X (Y.alloc o) := h.of_grownBy (World.grownBy_alloc Y o none) hs (fun k e => by cases e)
theorem Mid.of_below {lo hi B : Nat} {X Y : World} (h : Below B X Y) (hB : hi ≤ B) : Mid lo hi X Y := ⟨h.size, fun k _ hk => h.block k (by omega)⟩
theorem Mid.cell {lo hi : Nat} {X Y : World} {p : Addr} (h : Mid lo hi X Y) (h1 : lo ≤ p.block) (h2 : p.block < hi) : Y.cell? p = X.cell? p := World.cell?_of_block (h.2 _ h1 h2)
theorem CellsE.mid {lo hi : Nat} {w W Y : World} {b o : Nat} {x : Ent} (hc : CellsE w b o x) (h1 : lo ≤ b) (h2 : b < hi) (hb : W.heap[b]? = w.heap[b]?) (h : Mid lo hi W Y) : CellsE Y b o x := by
  have e : ∀ j, Y.cell? ⟨b, j, none⟩ = w.cell? ⟨b, j, none⟩ := fun j => (h.cell (p := ⟨b, j, none⟩) h1 h2).trans (World.cell?_of_block hb)
  simp only [CellsE, e]
  exact hc

set_option maxRecDepth 100000 in
set_option maxHeartbeats 2000000 in
theorem there1_stopsM (F : Fence) (N : Nat) (hf : F.fn 41) (hro : F.round = none) (hN : 1 ≤ N) (w : World) (Bl Bf : Nat) (A : Option Addr) (n c : Nat) (fr : Int) (m : List Ent)
    (hBl : w.cell? ⟨Bl, 0, none⟩ = some (.slice A n c)) (hBf : w.cell? ⟨Bf, 0, none⟩ = some (.int .i64 fr)) (hr : RdE w A n m) (lo : Nat) (hlo : ∀ b o, A = some ⟨b, o, none⟩ → lo ≤ b) (hlof : lo ≤ Bf) :
    SeqStopsK F N Tryd.prog 41 #[.pointer (some ⟨Bl, 0, none⟩), .pointer (some ⟨Bf, 0, none⟩)] (fun x : YE fr m => x.args) (Mid lo w.heap.size) (fun xs => xs.map (·.1) = ys fr 0 m) (fun pre => pre.map (·.1) <+: ys fr 0 m) (ys fr 0 m).length w := by
  intro l J Jx W hW hJ hJx hY h0
  have hn := hr.2.le
  have HL := hide hr.1
  have HR := hide hr
  have HJ := hide hJ
  have HY := hide hY
  have HLO := hide hlo
  have HLOF := hide hlof
  clear hlo hlof
  have hltl : Bl < w.heap.size := block_lt hBl
  have hltf : Bf < w.heap.size := block_lt hBf
  have cBl := cell_below hW hBl
  have cBf := cell_below hW hBf
  clear hBl hBf hr hJ hJx hY
  refine callsIn_of_wp Tryd.func41 rfl hf ?_ hro
  simp only [Tryd.ntmps41, List.size_toArray, List.length_cons, List.length_nil, Nat.reduceAdd, Nat.reduceSub, Array.replicate_succ, Array.replicate_zero, List.push_toArray, List.append_toArray, List.nil_append, List.cons_append]
  gi_wp2
  gi_loopw [8] (fun i wr => ∃ (k : Nat) (pre : List (YE fr m)), k ≤ n ∧ i = .int .i64 k ∧ J pre wr ∧ pre.map (·.1) ++ ys fr k (m.drop k) = ys fr 0 m ∧ Mid lo w.heap.size W wr)
    (fun i _ => n - (intOf i).toNat)
  case atStart => exact ⟨0, [], Nat.zero_le _, rfl, h0, by simp, Mid.refl _ _ _⟩
  case round =>
    obtain ⟨k, pre, hk, rfl, hJs, hys, hbw⟩ := hrel
    by_cases hlt : k < n
    · have hkl : k < m.length := by rw [unhide HL]; exact hlt
      rw [List.drop_eq_getElem_cons hkl] at hys
      obtain ⟨b, o, rfl, hb, hc⟩ := (unhide HR).get (by omega)
      have hlob := (unhide HLO) b o rfl
      obtain ⟨q0, q1, q2, q3, q4⟩ := (hc k hkl).mid hlob hb (hW.block b hb) hbw
      generalize m[k] = x at *
      simp only [ys] at hys
      have HYS := hide hys
      have dBf := (hbw.cell (p := ⟨Bf, 0, none⟩) (unhide HLOF) hltf).trans cBf
      have hi2 : (k : Int) < (n : Int) := by omega
      clear hys hc
      obtain ⟨G, hG⟩ : ∃ G, x.gone = G := ⟨_, rfl⟩
      rw [hG] at q4
      have HG := hide hG
      clear hG
      have HBW := hide hbw
      have hsz := hbw.1
      have hWs := hW.size
      have hltf2 : Bf < wr.heap.size := by omega
      have hbx : Mid lo w.heap.size W (wr.alloc (.cells #[.int .i64 x.no, .int .i64 x.user, .string x.text, .int .i64 x.edits, .bool G] 33)) := hbw.alloc (by omega) _
      have HBX := hide hbx
      have HJS := hide ((unhide HJ) pre wr (wr.alloc (.cells #[.int .i64 x.no, .int .i64 x.user, .string x.text, .int .i64 x.edits, .bool G] 33)) none hJs (World.grownBy_alloc wr _ none) (fun r e => by cases e))
      clear hbw hbx hJs
      cases G with
      | true =>
        have HYS2 : Hid (pre.map (·.1) ++ ys fr (k + 1) (m.drop (k + 1)) = ys fr 0 m) := by
          have := unhide HYS
          rwa [if_neg (by rw [unhide HG]; simp)] at this
        gi_wp2
        refine ⟨fun _ h => (by cases h), ?_⟩
        gi_wp2
        go_roundw
        case rel => exact ⟨k + 1, pre, by omega, by go_num, unhide HJS, unhide HYS2, unhide HBX⟩
        case measure => simp [intOf]; omega
      | false =>
        by_cases hno : fr ≤ x.no
        · have HYS2 : Hid (pre.map (·.1) ++ (k, x) :: ys fr (k + 1) (m.drop (k + 1)) = ys fr 0 m) := by
            have := unhide HYS
            rwa [if_pos ⟨unhide HG, hno⟩] at this
          have hmem : (k, x) ∈ ys fr 0 m := by rw [← unhide HYS2]; simp
          have hpl : pre.length < (ys fr 0 m).length := by rw [← unhide HYS2]; simp
          obtain ⟨fn, tmps, assign, body, hy, hR⟩ := unhide HY pre ⟨(k, x), hmem⟩ _ (unhide HJS) hpl
          simp only [YE.args, unhide HG] at hy
          have HHR := hide hR
          have HMEM := hide hmem
          clear hR hpl
          gi_wp2
          refine (unhide HHR).mono ?_
          rintro e W3 (⟨rfl, hJ3, hk3⟩ | ⟨rfl, hJx3⟩)
          · gi_wp2
            go_roundw
            case rel => exact ⟨k + 1, pre ++ [⟨(k, x), unhide HMEM⟩], by omega, by go_num, hJ3, by simpa using unhide HYS2, (unhide HBX).trans hk3⟩
            case measure => simp [intOf]; omega
          · gi_wp2
            refine bodyPost_ret (results_none rfl _ _ _) rfl ?_
            exact ⟨⟨_, rfl⟩, .inr ⟨pre ++ [⟨(k, x), unhide HMEM⟩], ⟨ys fr (k + 1) (m.drop (k + 1)), by simpa using unhide HYS2⟩, hJx3⟩⟩
        · have HYS2 : Hid (pre.map (·.1) ++ ys fr (k + 1) (m.drop (k + 1)) = ys fr 0 m) := by
            have := unhide HYS
            rwa [if_neg (fun h => hno h.2)] at this
          gi_wp2
          refine ⟨fun _ h => (by cases h), ?_⟩
          gi_wp2
          go_roundw
          case rel => exact ⟨k + 1, pre, by omega, by go_num, unhide HJS, unhide HYS2, unhide HBX⟩
          case measure => simp [intOf]; omega
    · have hd : m.drop k = [] := List.drop_eq_nil_of_le (by rw [unhide HL]; omega)
      rw [hd] at hys
      have HYS := hide hys
      have hi2 : ¬ (k : Int) < (n : Int) := by omega
      clear hys hd
      gi_wp2
      go_end0
      exact ⟨⟨_, rfl⟩, .inl ⟨pre, by simpa [ys] using unhide HYS, hJs⟩⟩
end Go.Proofs.YtdpmfghlhgfhfaaDoor
