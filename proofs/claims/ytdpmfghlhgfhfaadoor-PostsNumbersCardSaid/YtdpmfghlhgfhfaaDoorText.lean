/- What the reference's text functions answer: colloquyref14.follows, size, May. -/
import Derived.Test.YtdpmfghlhgfhfaaDoorRows
import Derived.Test.YtdpmfghlhgfhfaaDoorBase
import Derived.Test.YtdpmfghlhgfhfaaDoorPlainText
set_option linter.unusedVariables false
set_option linter.unusedSimpArgs false
namespace Go.Proofs.YtdpmfghlhgfhfaaDoor
open Go.RowKit

theorem ret_b {a b : Bool} (h : a = b) : Ending.returned (.bool a) = .returned (.bool b) := by rw [h]
theorem ret_i {k : IntKind} {a b : Int} (h : a = b) : Ending.returned (.int k a) = .returned (.int k b) := by rw [h]

/-- The byte at a place. -/
def byt (s : ByteArray) (i : Nat) : UInt8 := s.data.toList.getD i 0
theorem byt_at (s : ByteArray) (i : Nat) (h : i < s.size) : s[i]'h = byt s i := by
  unfold byt
  rw [List.getD_eq_getElem?_getD, List.getElem?_eq_getElem (by simpa using h)]
  rfl
def goesOn (s : ByteArray) (i : Nat) : Bool := decide (i < s.size) && decide (128 ≤ (byt s i).toNat) && decide ((byt s i).toNat ≤ 191)
def folB (s : ByteArray) (a m : Nat) : Bool := (List.range m).all fun j => goesOn s (a + j)
theorem folB_succ (s : ByteArray) (a m : Nat) : folB s a (m + 1) = (folB s a m && goesOn s (a + m)) := by simp [folB, List.range_succ]
theorem folB_false {s : ByteArray} {a m k : Nat} (hk : k < m) (h : goesOn s (a + k) = false) : folB s a m = false := by
  unfold folB
  rw [List.all_eq_false]
  exact ⟨k, by simpa using hk, by simp [h]⟩

set_option maxHeartbeats 400000 in
theorem follows_calls (s : ByteArray) (a m : Int) (ha : 0 ≤ a) (hm : 0 ≤ m) (hb : a + m ≤ 4611686018427387904) (hs : s.size ≤ 4611686018427387904) (w : World) :
    Calls Tryd.prog 46 #[.string s, .int .i64 a, .int .i64 m] w fun e w' => e = .returned (.bool (folB s a.toNat m.toNat)) ∧ w = w' := by
  obtain ⟨a, rfl⟩ := Int.eq_ofNat_of_zero_le ha
  obtain ⟨m, rfl⟩ := Int.eq_ofNat_of_zero_le hm
  simp only [Int.toNat_natCast]
  obtain ⟨ANS, hA⟩ : ∃ ANS, folB s a m = ANS := ⟨_, rfl⟩
  rw [hA]
  have HA := hide hA
  clear hA
  go_enter Tryd.func46, Tryd.ntmps46
  go_wp2
  go_loop [7] (fun i => ∃ k : Nat, k ≤ m ∧ i = .int .i64 ((a : Int) + k) ∧ folB s a k = true) (fun i => a + m - (intOf i).toNat)
  case atStart => exact ⟨0, by omega, by simp, rfl⟩
  case round =>
    obtain ⟨k, hk, rfl, hf⟩ := hrel
    have HF := hide hf
    clear hf
    by_cases hlt : k < m
    · have hz : (a : Int) + k < (a : Int) + m := by omega
      have hsucc := folB_succ s a k
      have HS := hide hsucc
      clear hsucc
      by_cases hin : a + k < s.size
      · have hin' : ((a : Int) + k) < (s.size : Int) := by omega
        have hx := byt_at s (a + k) hin
        obtain ⟨x, hxx⟩ : ∃ x, byt s (a + k) = x := ⟨_, rfl⟩
        rw [hxx] at hx
        have hx' : ∀ h, s[((a : Int) + k).toNat]'h = x := fun h => by
          have e : ((a : Int) + k).toNat = a + k := by omega
          simp only [e]; exact hx
        have HX := hide hxx
        clear hxx
        go_wp2
        all_goals first
          | (go_round
             case rel => exact ⟨k + 1, by omega, by go_num, by rw [unhide HS, unhide HF]; simp [goesOn, unhide HX]; omega⟩
             case measure => simp [intOf]; omega)
          | (go_ret
             refine ⟨ret_b ?_, rfl⟩
             rw [← unhide HA]
             exact (folB_false hlt (by simp [goesOn, unhide HX]; omega)).symm)
      · have hin' : ¬ ((a : Int) + k) < (s.size : Int) := by omega
        go_wp2
        go_ret
        refine ⟨ret_b ?_, rfl⟩
        rw [← unhide HA]
        exact (folB_false hlt (by simp [goesOn]; omega)).symm
    · have hz : ¬ (a : Int) + k < (a : Int) + m := by omega
      go_wp2
      go_ret
      refine ⟨ret_b ?_, rfl⟩
      rw [← unhide HA]
      have e : k = m := by omega
      subst e
      exact (unhide HF).symm

theorem byt_drop (s : ByteArray) (p k : Nat) : (s.data.toList.drop p).getD k 0 = byt s (p + k) := by simp [byt, List.getD, List.getElem?_drop]
/-- The size of the rune at a place. -/
def sizeAt (s : ByteArray) (p : Nat) : Nat := refSize (s.size - p) (byt s p).toNat (byt s (p + 1)).toNat (byt s (p + 2)).toNat (byt s (p + 3)).toNat
theorem sizeAt_head (s : ByteArray) (p : Nat) : headSize (s.data.toList.drop p) = sizeAt s p := by
  unfold headSize sizeAt
  simp only [byt_drop, List.length_drop, Nat.add_zero, Array.length_toList]
  rfl
theorem folB_1 (s : ByteArray) (p : Nat) : folB s (p + 1) 1 = true ↔ (1 < s.size - p ∧ 128 ≤ (byt s (p + 1)).toNat ∧ (byt s (p + 1)).toNat ≤ 191) := by
  simp [folB, goesOn, List.range_succ]; omega
theorem folB_2 (s : ByteArray) (p : Nat) : folB s (p + 1) 2 = true ↔ (1 < s.size - p ∧ 128 ≤ (byt s (p + 1)).toNat ∧ (byt s (p + 1)).toNat ≤ 191) ∧ (2 < s.size - p ∧ 128 ≤ (byt s (p + 2)).toNat ∧ (byt s (p + 2)).toNat ≤ 191) := by
  simp [folB, goesOn, List.range_succ, Nat.add_assoc]; omega
theorem folB_3 (s : ByteArray) (p : Nat) : folB s (p + 1) 3 = true ↔ (1 < s.size - p ∧ 128 ≤ (byt s (p + 1)).toNat ∧ (byt s (p + 1)).toNat ≤ 191) ∧ (2 < s.size - p ∧ 128 ≤ (byt s (p + 2)).toNat ∧ (byt s (p + 2)).toNat ≤ 191) ∧ (3 < s.size - p ∧ 128 ≤ (byt s (p + 3)).toNat ∧ (byt s (p + 3)).toNat ≤ 191) := by
  simp [folB, goesOn, List.range_succ, Nat.add_assoc]; omega

set_option maxRecDepth 100000 in
set_option maxHeartbeats 1600000 in
theorem size_calls (s : ByteArray) (p : Nat) (hp : p < s.size) (hs : s.size ≤ 4611686018427387900) (w : World) :
    Calls Tryd.prog 44 #[.string s, .int .i64 p] w fun e w' => e = .returned (.int .i64 (sizeAt s p)) ∧ w = w' := by
  have F1 := hide (folB_1 s p)
  have F2 := hide (folB_2 s p)
  have F3 := hide (folB_3 s p)
  have hx0 := byt_at s p hp
  have e1 : ((p : Int) + 1).toNat = p + 1 := by omega
  have hx1 : ∀ h, s[((p : Int) + 1).toNat]'h = byt s (p + 1) := fun h => by simp only [e1]; exact byt_at s (p + 1) (by omega)
  have hx1' : ∀ h, s[p + 1]'h = byt s (p + 1) := fun h => byt_at s (p + 1) h
  have t1 : folB s ((p : Int) + 1).toNat (1 : Int).toNat = folB s (p + 1) 1 := by rw [e1]; rfl
  have t2 : folB s ((p : Int) + 1).toNat (2 : Int).toNat = folB s (p + 1) 2 := by rw [e1]; rfl
  have t3 : folB s ((p : Int) + 1).toNat (3 : Int).toNat = folB s (p + 1) 3 := by rw [e1]; rfl
  have c1 := follows_calls s ((p : Int) + 1) 1 (by omega) (by omega) (by omega) (by omega) w
  have c2 := follows_calls s ((p : Int) + 1) 2 (by omega) (by omega) (by omega) (by omega) w
  have c3 := follows_calls s ((p : Int) + 1) 3 (by omega) (by omega) (by omega) (by omega) w
  rw [t1] at c1
  rw [t2] at c2
  rw [t3] at c3
  have HS : Hid (sizeAt s p = refSize (s.size - p) (byt s p).toNat (byt s (p + 1)).toNat (byt s (p + 2)).toNat (byt s (p + 3)).toNat) := rfl
  have H1 := (byt s (p + 1)).toNat_lt
  have H0 := (byt s p).toNat_lt
  have hlen1 : folB s (p + 1) 2 = true → p + 1 < s.size := fun h => by have := (folB_2 s p).1 h; omega
  have hlen2 : folB s (p + 1) 3 = true → p + 1 < s.size := fun h => by have := (folB_3 s p).1 h; omega
  generalize hf1 : folB s (p + 1) 1 = f1 at *
  generalize hf2 : folB s (p + 1) 2 = f2 at *
  generalize hf3 : folB s (p + 1) 3 = f3 at *
  generalize byt s (p + 1) = b1 at *
  generalize byt s (p + 2) = b2 at *
  generalize byt s (p + 3) = b3 at *
  generalize byt s p = b0 at *
  generalize sizeAt s p = ANS at *
  clear hf1 hf2 hf3 t1 t2 t3 e1
  have K1 := hide c1
  have K2 := hide c2
  have K3 := hide c3
  have L1 := hide hlen1
  have L2 := hide hlen2
  clear c1 c2 c3 hlen1 hlen2
  by_cases ha : b0.toNat < 128
  · have ha' : (b0.toNat : Int) < 128 := by omega
    go_enter Tryd.func44, Tryd.ntmps44
    go_wp2_with fail
    go_ret
    refine ⟨ret_i ?_, rfl⟩
    rw [unhide HS]
    simp [refSize, ha]
  · have ha' : ¬ (b0.toNat : Int) < 128 := by omega
    cases f1 <;> cases f2 <;> cases f3
    all_goals try (exfalso; have := unhide F1; have := unhide F2; have := unhide F3; simp only [Bool.false_eq_true, false_iff, true_iff] at *; omega)
    all_goals
      first
        | (have hlen1 : p + 1 < s.size := by first | exact unhide L1 rfl | exact unhide L2 rfl
           have hl : ((p : Int) + 1) < (s.size : Int) := by omega
           clear L1 L2)
        | clear L1 L2
      go_enter Tryd.func44, Tryd.ntmps44
      go_wp2_with fail
      refine (unhide K1).mono ?_
      rintro e w' ⟨rfl, rfl⟩
      go_wp2_with fail
      refine (unhide K2).mono ?_
      rintro e w' ⟨rfl, rfl⟩
      go_wp2_with fail
      refine (unhide K3).mono ?_
      rintro e w' ⟨rfl, rfl⟩
      go_wp2_with fail
      all_goals
        go_ret
        refine ⟨ret_i ?_, rfl⟩
        rw [unhide HS]
        have f1 := unhide F1
        have f2 := unhide F2
        have f3 := unhide F3
        simp only [Bool.false_eq_true, false_iff, true_iff] at f1 f2 f3
        unfold refSize
        repeat' split
        all_goals first | rfl | (exfalso; omega)
end Go.Proofs.YtdpmfghlhgfhfaaDoor
