/- PostsKeep, walked: for every input it is true. -/
import Derived.Test.YtdpmfghlhgfhfaaDoorKeepP
set_option linter.unusedVariables false
set_option linter.unusedSimpArgs false
namespace Go.Proofs.YtdpmfghlhgfhfaaDoor
open Go.RowKit

set_option maxHeartbeats 3200000 in
theorem postsKeep_calls (n user : Int) (s : ByteArray) (w : World) (hT : Tabs w) :
    Calls Tryd.prog 8 #[.int .i64 n, .int .i64 user, .string s] w fun e w' => e = .returned (.bool true) ∧ Below w.heap.size w w' := by
  have HT := hide hT
  clear hT
  go_enter Tryd.func8, Tryd.ntmps8
  go_wp2_with fail
  refine (awake_calls w (unhide HT)).mono ?_
  rintro e w1 ⟨rfl, hb1⟩
  have HB1 := hide hb1
  have HT1 := hide ((unhide HT).below hb1)
  clear hb1
  by_cases hin : 1 ≤ n ∧ n ≤ 80 ∧ s.size ≤ 200
  · obtain ⟨hn1, hn2, hss⟩ := hin
    have hs' : ¬ (200 : Int) < (s.size : Int) := by omega
    have hn1' : ¬ n < 1 := by omega
    have hn2' : ¬ 80 < n := by omega
    go_wp2_with fail
    go_loopw [8, 9] (fun v i wr => ∃ (k : Nat) (A : Option Addr) (c : Nat), (k : Int) ≤ n ∧ i = .int .i64 ((k : Int) + 1) ∧ v = .slice A (keepK user s k).length c ∧ RdE wr A (keepK user s k).length (keepK user s k) ∧ (keepK user s k).length ≤ c ∧ Below w.heap.size w wr ∧ (k = 0 ∨ (tmay s = true ∧ 1 ≤ user ∧ user ≤ 1048576))) (fun _ i _ => (n + 1 - intOf i).toNat)
    case atStart => exact ⟨0, none, 0, by omega, rfl, rfl, ⟨rfl, Reads.nil _⟩, Nat.le_refl _, unhide HB1, .inl rfl⟩
    case round =>
      obtain ⟨k, A, c, hk, rfl, rfl, hrd, hcap, hbw, hok⟩ := hrel
      have HB := hide hbw
      have HR := hide hrd
      have HTr := hide ((unhide HT).below hbw)
      clear hbw hrd
      by_cases hlt : (k : Int) + 1 ≤ n
      · by_cases hgood : tmay s = true ∧ 1 ≤ user ∧ user ≤ 1048576
        · obtain ⟨g1, g2, g3⟩ := hgood
          have HA := hide (keepK_add (k := k) g1 g2 g3 (by omega))
          have HFI := hide (keepK_find (k := k) g1 g2 g3 (by omega))
          have HG := hide (And.intro g1 (And.intro g2 g3))
          clear g1 g2 g3 hok
          go_wp2_with fail
          refine (add_calls A _ c (keepK user s k) user s wr (unhide HR) (unhide HTr)).mono ?_
          intro e w2 hret
          obtain ⟨A2, c2, rfl, hr2, hc2, hb2⟩ := hret.get (unhide HA)
          have HR2 := hide hr2
          have HB2 := hide ((unhide HB).trans (hb2.mono (unhide HB).size))
          have HT2 := hide ((unhide HTr).below hb2)
          clear hret hr2 hb2
          go_wp2_with fail
          refine (find_calls A2 _ c2 (keepK user s (k + 1)) ((k : Int) + 1) w2 (unhide HR2) (unhide HT2)).mono ?_
          intro e w3 hret
          rw [unhide HFI] at hret
          obtain ⟨rfl, hb3⟩ := hret
          have HR3 := hide ((unhide HR2).below hb3)
          have HB3 := hide ((unhide HB2).trans (hb3.mono (unhide HB2).size))
          obtain ⟨W3, hW3⟩ : ∃ W3, w3.alloc (.cells #[.int .i64 ((k : Int) + 1), .int .i64 user, .string s, .int .i64 0, .bool false] 33) = W3 := ⟨_, rfl⟩
          have hbW3 : Below w3.heap.size w3 W3 := by rw [← hW3]; exact (Below.refl _ w3).alloc (Nat.le_refl _) _
          have hx3 : W3.heap[w3.heap.size]? = some (.cells #[.int .i64 (kE user s k).no, .int .i64 (kE user s k).user, .string (kE user s k).text, .int .i64 (kE user s k).edits, .bool (kE user s k).gone] 33) := by rw [← hW3]; exact World.alloc_heap_new w3 _
          obtain ⟨q0, q1, q2, q3, q4⟩ := entCells hx3
          simp only [Nat.zero_add, kE] at q0 q1 q2 q3 q4
          have he := fun W => entNe_run (kE user s k) (kE user s k) W
          rw [decide_eq_true (rfl : kE user s k = kE user s k)] at he
          simp only [kE, Bool.not_true] at he
          have HR4 := hide ((unhide HR3).below hbW3)
          have HB4 := hide ((unhide HB3).trans (hbW3.mono (unhide HB3).size))
          clear hb3 hbW3 hx3
          go_wp2_with fail
          refine ⟨⟨k + 1, A2, c2, by omega, by go_num, rfl, ?_, hc2, ?_, .inr (unhide HG)⟩, ?_⟩
          · have hh := unhide HR4
            rw [← hW3] at hh
            exact hh
          · have hh := unhide HB4
            rw [← hW3] at hh
            exact hh
          · simp [intOf]; omega
        · have hk0 : k = 0 := by rcases hok with h | h; exact h; exact absurd h hgood
          subst hk0
          have HA := hide (addL_bad (keepK user s 0) hgood)
          clear hok hgood
          go_wp2_with fail
          refine (add_calls A _ c (keepK user s 0) user s wr (unhide HR) (unhide HTr)).mono ?_
          intro e w2 hret
          obtain ⟨A2, c2, rfl, hr2, hc2, hb2⟩ := hret.get (unhide HA)
          have HB2 := hide ((unhide HB).trans (hb2.mono (unhide HB).size))
          clear hret hr2 hb2
          go_wp2_with fail
          go_ret
          exact ⟨rfl, unhide HB2⟩
      · have hkn : (k : Int) = n := by omega
        have hgood : tmay s = true ∧ 1 ≤ user ∧ user ≤ 1048576 := by
          rcases hok with h | h
          · exfalso; omega
          · exact h
        obtain ⟨g1, g2, g3⟩ := hgood
        have HLA := hide (keepK_last (k := k) g1 g2 g3 (by omega))
        have HLOST : Hid (32 < k → (findL (keepK user s k) ((k : Int) - 32)).2 = 5) := keepK_lost g1 g2 g3 (by omega)
        have HLEN := hide (keepK_len (user := user) (s := s) (k := k))
        subst hkn
        clear hok g1 g2 g3
        go_wp2_with fail
        refine (find_calls A _ c (keepK user s k) ((k : Int) - 32) wr (unhide HR) (unhide HTr)).mono ?_
        intro e w2 hret
        obtain ⟨rfl, hb2⟩ := hret
        generalize (findL (keepK user s k) ((k : Int) - 32)).1 = X at *
        obtain ⟨r, hr⟩ : ∃ r, (findL (keepK user s k) ((k : Int) - 32)).2 = r := ⟨_, rfl⟩
        rw [hr] at HLOST ⊢
        clear hr
        obtain ⟨W2, hW2⟩ : ∃ W2, w2.alloc (.cells #[.int .i64 X.no, .int .i64 X.user, .string X.text, .int .i64 X.edits, .bool X.gone] 33) = W2 := ⟨_, rfl⟩
        have hbW2 : Below w2.heap.size w2 W2 := by rw [← hW2]; exact (Below.refl _ w2).alloc (Nat.le_refl _) _
        have HR2 := hide (((unhide HR).below hb2).below hbW2)
        have HB2 := hide (((unhide HB).trans (hb2.mono (unhide HB).size)).trans (hbW2.mono (Nat.le_trans (unhide HB).size hb2.size)))
        have HT2 := hide (((unhide HTr).below hb2).below hbW2)
        clear hb2 hbW2
        go_wp2_with fail
        refine (last_calls A _ c (keepK user s k) W2 (unhide HR2) (unhide HT2)).mono ?_
        rintro e w3 ⟨rfl, hb3⟩
        rw [unhide HLA]
        have HR3 := hide ((unhide HR2).below hb3)
        have HB3 := hide ((unhide HB2).trans (hb3.mono (unhide HB2).size))
        clear hb3
        by_cases h32 : (k : Int) ≤ 32
        · have hl : (keepK user s k).length = k := by rw [unhide HLEN]; omega
          rw [hl]
          go_wp2_with fail
          go_ret
          exact ⟨rfl, unhide HB3⟩
        · have hl : (keepK user s k).length = 32 := by rw [unhide HLEN]; omega
          have hr5 : r = 5 := (unhide HLOST) (by omega)
          subst hr5
          obtain ⟨b, o, rfl, hbl, hcx⟩ := RdE.at_ (w := w3) (k := 0) (unhide HR3) (by omega) (by omega)
          obtain ⟨q0, _, _, _, _⟩ := hcx
          rw [keepK_first (by omega)] at q0
          simp only [Nat.zero_mul, Nat.add_zero] at q0
          have h32' : (32 : Int) < (k : Int) := by omega
          rw [hl] at *
          go_wp2_with fail
          go_ret
          exact ⟨rfl, unhide HB3⟩
  · by_cases h1 : n < 1
    · go_wp2_with fail
      go_ret
      exact ⟨rfl, unhide HB1⟩
    · by_cases h2 : 80 < n
      · go_wp2_with fail
        go_ret
        exact ⟨rfl, unhide HB1⟩
      · have h3 : (200 : Int) < (s.size : Int) := by omega
        go_wp2_with fail
        go_ret
        exact ⟨rfl, unhide HB1⟩
end Go.Proofs.YtdpmfghlhgfhfaaDoor
