/- What may be a text: text.May and the reference's answer the same. -/
import Derived.Test.YtdpmfghlhgfhfaaDoorText
import Derived.Test.YtdpmfghlhgfhfaaDoorValid
import Derived.Lib.OthersKept
set_option linter.unusedVariables false
set_option linter.unusedSimpArgs false
namespace Go.Proofs.YtdpmfghlhgfhfaaDoor
open Go.RowKit

/-- The library's two tables lie in memory. -/
def Tabs (w : World) : Prop := Lib.Utf8Tabs 0 1 w
theorem Tabs.below {w w1 : World} (h : Tabs w) (hb : Below w.heap.size w w1) : Tabs w1 := Utf8Tabs_below h hb

theorem valid_calls (s : ByteArray) (w : World) (hs : s.size ≤ 9223372036854775807) (hT : Tabs w) :
    Calls Tryd.prog 43 #[.string s] w fun e w' => e = .returned (.bool (Lib.validD s.data.toList)) ∧ Below w.heap.size w w' :=
  Any.utf8_ValidString Tryd.laysValid s w hs hT

theorem drop_ne (s : ByteArray) (p : Nat) (h : p < s.size) : s.data.toList.drop p ≠ [] := by
  intro e
  have := congrArg List.length e
  simp at this
  omega
theorem drop_end (s : ByteArray) (p : Nat) (h : ¬ p < s.size) : s.data.toList.drop p = [] := List.drop_eq_nil_of_le (by simpa using Nat.le_of_not_lt h)

set_option maxHeartbeats 800000 in
theorem refText_calls (s : ByteArray) (w : World) :
    Calls Tryd.prog 40 #[.string s] w fun e w' => e = .returned (.bool (tmay s)) ∧ w = w' := by
  obtain ⟨ANS, hA⟩ : ∃ ANS, runesOk s.data.toList = ANS := ⟨_, rfl⟩
  have HT : Hid (tmay s = (decide (1 ≤ s.size) && decide (s.size ≤ 64) && ANS)) := by rw [← hA]; rfl
  have HA := hide hA
  clear hA
  by_cases h1 : s.size < 1
  · have h1' : (s.size : Int) < 1 := by omega
    go_enter Tryd.func40, Tryd.ntmps40
    go_wp2
    go_ret
    exact ⟨ret_b (by rw [unhide HT]; simp; omega), rfl⟩
  by_cases h2 : 64 < s.size
  · have h1' : ¬ (s.size : Int) < 1 := by omega
    have h2' : (64 : Int) < (s.size : Int) := by omega
    go_enter Tryd.func40, Tryd.ntmps40
    go_wp2
    go_ret
    exact ⟨ret_b (by rw [unhide HT]; simp; omega), rfl⟩
  have h1' : ¬ (s.size : Int) < 1 := by omega
  have h2' : ¬ (64 : Int) < (s.size : Int) := by omega
  have HT2 : Hid (tmay s = ANS) := by
    have := unhide HT
    rw [this]
    have e1 : decide (1 ≤ s.size) = true := by simp; omega
    have e2 : decide (s.size ≤ 64) = true := by simp; omega
    simp only [Hid, e1, e2, Bool.true_and]
  clear HT
  go_enter Tryd.func40, Tryd.ntmps40
  go_wp2
  go_loop [3] (fun i => ∃ p : Nat, p ≤ s.size ∧ i = .int .i64 p ∧ runesOk (s.data.toList.drop p) = ANS) (fun i => s.size - (intOf i).toNat)
  case atStart => exact ⟨0, by omega, rfl, by simpa using unhide HA⟩
  case round =>
    obtain ⟨p, hp, rfl, hr⟩ := hrel
    by_cases hlt : p < s.size
    · have hlt' : (p : Int) < (s.size : Int) := by omega
      have hle := headSize_le _ (drop_ne s p hlt)
      rw [runesOk_ref _ (drop_ne s p hlt), sizeAt_head, byt_drop, List.drop_drop] at hr
      rw [sizeAt_head, List.length_drop, Array.length_toList] at hle
      replace hle : sizeAt s p ≤ s.size - p := hle
      simp only [Nat.add_zero] at hr
      have hx := byt_at s p hlt
      have HR := hide hr
      clear hr
      have K := hide (size_calls s p hlt (by omega) w)
      generalize sizeAt s p = n at *
      generalize byt s p = b at *
      by_cases hn : n = 0
      · have hn' : ((n : Int) == 0) = true := by simp [hn]
        go_wp2_with fail
        refine (unhide K).mono ?_
        rintro e w' ⟨rfl, rfl⟩
        go_wp2_with fail
        go_ret
        refine ⟨ret_b ?_, rfl⟩
        have := unhide HR
        rw [if_pos hn] at this
        rw [unhide HT2, ← this]
      · have hn' : ((n : Int) == 0) = false := by simp [hn]
        by_cases hc : b.toNat < 32
        · have hc' : (b.toNat : Int) < 32 := by omega
          go_wp2_with fail
          refine (unhide K).mono ?_
          rintro e w' ⟨rfl, rfl⟩
          go_wp2_with fail
          go_ret
          refine ⟨ret_b ?_, rfl⟩
          have := unhide HR
          rw [if_neg hn, if_pos (.inl hc)] at this
          rw [unhide HT2, ← this]
        · have hc' : ¬ (b.toNat : Int) < 32 := by omega
          by_cases hd : b.toNat = 127
          · have hd' : ((b.toNat : Int) == 127) = true := by simp [hd]
            have HD := hide hd
            clear hd
            go_wp2_with fail
            refine (unhide K).mono ?_
            rintro e w' ⟨rfl, rfl⟩
            go_wp2_with fail
            go_ret
            refine ⟨ret_b ?_, rfl⟩
            have := unhide HR
            rw [if_neg hn, if_pos (.inr (unhide HD))] at this
            rw [unhide HT2, ← this]
          · have hd' : ((b.toNat : Int) == 127) = false := by simp; omega
            go_wp2_with fail
            refine (unhide K).mono ?_
            rintro e w' ⟨rfl, rfl⟩
            go_wp2_with fail
            go_round
            case rel =>
              have := unhide HR
              rw [if_neg hn, if_neg (by omega)] at this
              exact ⟨p + n, by omega, by go_num, this⟩
            case measure => simp [intOf]; omega
    · have hlt' : ¬ (p : Int) < (s.size : Int) := by omega
      rw [drop_end s p hlt] at hr
      have HR := hide hr
      clear hr
      go_wp2
      go_ret
      refine ⟨ret_b ?_, rfl⟩
      rw [unhide HT2, ← unhide HR]
      rfl

theorem iterPos_of {w : World} {k : Nat} {s : ByteArray} {p : Nat} (h : w.heap[k]? = some (.stringIter s p)) : w.iterPos k = p := by simp [World.iterPos, h]

set_option maxHeartbeats 800000 in
theorem text_calls (s : ByteArray) (w : World) (hT : Tabs w) :
    Calls Tryd.prog 36 #[.string s] w fun e w' => e = .returned (.bool (tmay s)) ∧ Below w.heap.size w w' := by
  by_cases h1 : s.size < 1
  · have h1' : (s.size : Int) < 1 := by omega
    go_enter Tryd.func36, Tryd.ntmps36
    go_wp2_with fail
    go_ret
    exact ⟨ret_b (by unfold tmay; simp; omega), Below.refl _ _⟩
  by_cases h2 : 64 < s.size
  · have h1' : ¬ (s.size : Int) < 1 := by omega
    have h2' : (64 : Int) < (s.size : Int) := by omega
    go_enter Tryd.func36, Tryd.ntmps36
    go_wp2_with fail
    go_ret
    exact ⟨ret_b (by unfold tmay; simp; omega), Below.refl _ _⟩
  have h1' : ¬ (s.size : Int) < 1 := by omega
  have h2' : ¬ (64 : Int) < (s.size : Int) := by omega
  obtain ⟨ANS, hA⟩ : ∃ ANS, runesOk s.data.toList = ANS := ⟨_, rfl⟩
  have HT : Hid (tmay s = ANS) := by
    have e1 : decide (1 ≤ s.size) = true := by simp; omega
    have e2 : decide (s.size ≤ 64) = true := by simp; omega
    simp only [Hid, tmay, e1, e2, Bool.true_and, hA]
  have K := hide (valid_calls s w (by omega) hT)
  cases hv : Lib.validD s.data.toList with
  | false =>
    have hi := runesOk_invalid _ _ (Nat.le_refl _) hv
    have HI := hide hi
    rw [hv] at K
    have HA := hide hA
    clear hv hi hA hT
    go_enter Tryd.func36, Tryd.ntmps36
    go_wp2_with fail
    refine (unhide K).mono ?_
    rintro e w1 ⟨rfl, hb⟩
    go_wp2_with fail
    go_ret
    exact ⟨ret_b (by rw [unhide HT, ← unhide HA, unhide HI]), hb⟩
  | true =>
    rw [hv] at K
    have HV := hide hv
    have HA := hide hA
    clear hv hA hT
    go_enter Tryd.func36, Tryd.ntmps36
    go_wp2_with fail
    refine (unhide K).mono ?_
    rintro e w1 ⟨rfl, hb⟩
    go_wp2_with fail
    go_loopw [] (fun wr => ∃ p : Nat, wr = w1.iter s p ∧ Lib.validD (s.data.toList.drop p) = true ∧ runesOk (s.data.toList.drop p) = ANS) (fun wr => s.size - wr.iterPos w1.heap.size)
    case atStart => exact ⟨0, rfl, by simpa using unhide HV, by simpa using unhide HA⟩
    case round =>
      obtain ⟨p, rfl, hvp, hr⟩ := hrel
      by_cases hlt : p < s.size
      · have hnx : ∀ ty, (Instr.next (.pointer (some ⟨w1.heap.size, 0, none⟩)) true ty).run Tryd.prog (w1.iter s p) = _ := fun ty => run_next_any w1 s p ty hlt
        obtain ⟨hbad, hvn⟩ := validD_next _ (drop_ne s p hlt) hvp
        rw [runesOk_step _ (drop_ne s p hlt), if_neg hbad, ← decode_dropL, List.drop_drop] at hr
        rw [← decode_dropL, List.drop_drop] at hvn
        have hwd := Lib.width_pos s p
        have hle := decode_le s p
        clear hbad hvp
        generalize Utf8.decode s p = d at *
        obtain ⟨r, n⟩ := d
        simp only [] at *
        have HR := hide hr
        have HVN := hide hvn
        clear hr hvn
        by_cases hc : r < 32
        · have hc' : (r : Int) < 32 := by omega
          go_wp2_with fail
          go_ret
          refine ⟨ret_b ?_, hb.trans ((Below.refl _ w1).alloc (Nat.le_refl _) _ |>.mono hb.size)⟩
          have := unhide HR
          rw [if_pos (.inl hc)] at this
          rw [unhide HT, ← this]
        · have hc' : ¬ (r : Int) < 32 := by omega
          by_cases hd : r = 127
          · have hd' : ((r : Int) == 127) = true := by simp [hd]
            have HD := hide hd
            clear hd
            go_wp2_with fail
            go_ret
            refine ⟨ret_b ?_, hb.trans ((Below.refl _ w1).alloc (Nat.le_refl _) _ |>.mono hb.size)⟩
            have := unhide HR
            rw [if_pos (.inr (unhide HD))] at this
            rw [unhide HT, ← this]
          · have hd' : ((r : Int) == 127) = false := by simp; omega
            go_wp2_with fail
            go_roundw
            case rel =>
              have := unhide HR
              rw [if_neg (by omega)] at this
              exact ⟨p + n, rfl, unhide HVN, this⟩
            case measure => simp; omega
      · have hnx : ∀ ty, (Instr.next (.pointer (some ⟨w1.heap.size, 0, none⟩)) true ty).run Tryd.prog (w1.iter s p) = _ := fun ty => run_next_end w1 s p ty hlt
        rw [drop_end s p hlt] at hr
        have HR := hide hr
        clear hr hvp
        go_wp2_with fail
        go_ret
        refine ⟨ret_b ?_, hb.trans ((Below.refl _ w1).alloc (Nat.le_refl _) _ |>.mono hb.size)⟩
        rw [unhide HT, ← unhide HR]
        rfl
end Go.Proofs.YtdpmfghlhgfhfaaDoor
