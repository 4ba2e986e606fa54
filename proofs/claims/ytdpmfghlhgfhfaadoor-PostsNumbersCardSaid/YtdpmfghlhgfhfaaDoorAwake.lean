/- The law's helpers: awake, Few, does, did. -/
import Derived.Test.YtdpmfghlhgfhfaaDoorPage
set_option linter.unusedVariables false
set_option linter.unusedSimpArgs false
namespace Go.Proofs.YtdpmfghlhgfhfaaDoor
open Go.RowKit

def exA : List Ent := [⟨1, 1, ⟨#[120]⟩, 0, false⟩]
def exB : List Ent := [⟨1, 1, ⟨#[120]⟩, 0, false⟩, ⟨2, 2, ⟨#[121]⟩, 0, false⟩]
def exC : List Ent := [⟨1, 1, ⟨#[]⟩, 0, true⟩, ⟨2, 2, ⟨#[121]⟩, 0, false⟩]
theorem ex_a : addL [] 1 ⟨#[120]⟩ = (exA, 0) := by decide +kernel
theorem ex_b : addL exA 2 ⟨#[121]⟩ = (exB, 0) := by decide +kernel
theorem ex_c : delL exB 1 1 9 = (exC, 0) := by decide +kernel
theorem ex_d : editL exC 1 1 ⟨#[122]⟩ = ([], 5) := by decide +kernel
theorem ex_e : pageL exC 1 5 = ([⟨2, 2, ⟨#[121]⟩, 0, false⟩], 0) := by decide +kernel
theorem ex_f : lastL exB = 2 := by decide +kernel

theorem RetLE.get {w w' : World} {p : List Ent × Int} {l : List Ent} {r : Int} {e : Ending} (h : RetLE w p e w') (hp : p = (l, r)) :
    ∃ A c, e = .returned (.tuple #[.slice A l.length c, .int .i64 r]) ∧ RdE w' A l.length l ∧ l.length ≤ c ∧ Below w.heap.size w w' := by
  subst hp
  obtain ⟨A, n, c, rfl, h1, h2, h3⟩ := h
  have := h1.1
  subst this
  exact ⟨A, c, rfl, h1, h2, h3⟩

set_option maxHeartbeats 1600000 in
theorem awake_calls (w : World) (hT : Tabs w) : Calls Tryd.prog 9 #[] w fun e w' => e = .returned (.bool true) ∧ Below w.heap.size w w' := by
  have HT := hide hT
  clear hT
  go_enter Tryd.func9, Tryd.ntmps9
  go_wp2_with fail
  refine (add_calls none 0 0 [] 1 ⟨#[120]⟩ w ⟨rfl, Reads.nil none⟩ (unhide HT)).mono ?_
  intro e w1 hret
  obtain ⟨A1, c1, rfl, hr1, hc1, hb1⟩ := hret.get ex_a
  have HR1 := hide hr1
  have HT1 := hide ((unhide HT).below hb1)
  have HB1 := hide hb1
  clear hret hr1 hc1 hb1
  go_wp2_with fail
  refine (add_calls A1 _ c1 exA 2 ⟨#[121]⟩ w1 (unhide HR1) (unhide HT1)).mono ?_
  intro e w2 hret
  obtain ⟨A2, c2, rfl, hr2, hc2, hb2⟩ := hret.get ex_b
  have HR2 := hide hr2
  have HT2 := hide ((unhide HT1).below hb2)
  have HB2 := hide ((unhide HB1).trans (hb2.mono (unhide HB1).size))
  clear hret hr2 hc2 hb2
  go_wp2_with fail
  refine (delete_calls A2 _ c2 exB 1 1 9 w2 (unhide HR2) (unhide HT2)).mono ?_
  intro e w3 hret
  obtain ⟨A3, c3, rfl, hr3, hc3, hb3⟩ := hret.get ex_c
  have HR3 := hide hr3
  have HR2' := hide ((unhide HR2).below hb3)
  have HT3 := hide ((unhide HT2).below hb3)
  have HB3 := hide ((unhide HB2).trans (hb3.mono (unhide HB2).size))
  clear hret hr3 hc3 hb3
  go_wp2_with fail
  refine (edit_calls A3 _ c3 exC 1 1 ⟨#[122]⟩ w3 (unhide HR3) (unhide HT3)).mono ?_
  intro e w4 hret
  obtain ⟨A4, c4, rfl, hr4, hc4, hb4⟩ := hret.get ex_d
  have HR4 := hide ((unhide HR3).below hb4)
  have HR2'' := hide ((unhide HR2').below hb4)
  have HT4 := hide ((unhide HT3).below hb4)
  have HB4 := hide ((unhide HB3).trans (hb4.mono (unhide HB3).size))
  clear hret hr4 hc4 hb4
  go_wp2_with fail
  refine (page_calls A3 _ c3 exC 1 5 w4 (unhide HR4) (unhide HT4)).mono ?_
  intro e w5 hret
  obtain ⟨A5, c5, rfl, hr5, hc5, hb5⟩ := hret.get ex_e
  have HR5 := hide hr5
  have HR2''' := hide ((unhide HR2'').below hb5)
  have HT5 := hide ((unhide HT4).below hb5)
  have HB5 := hide ((unhide HB4).trans (hb5.mono (unhide HB4).size))
  clear hret hr5 hc5 hb5
  go_wp2_with fail
  refine (last_calls A2 _ c2 exB w5 (unhide HR2''') (unhide HT5)).mono ?_
  rintro e w6 ⟨rfl, hb6⟩
  rw [ex_f]
  have HB6 := hide ((unhide HB5).trans (hb6.mono (unhide HB5).size))
  obtain ⟨b, o, rfl, hbl, hcx⟩ := RdE.at_ (w := w6) (k := 0) ((unhide HR5).below hb6) (by simp) (by simp)
  obtain ⟨q0, q1, q2, q3, q4⟩ := hcx
  simp only [Nat.zero_mul, Nat.add_zero, List.getElem_cons_zero] at q0
  clear q1 q2 q3 q4 hb6
  go_wp2_with fail
  go_ret
  exact ⟨rfl, unhide HB6⟩

/-! ### Few -/
def fewL (l : List Ent) : Bool := decide (l.length ≤ 50) && l.all fun x => decide (x.text.size ≤ 200)
set_option maxHeartbeats 1600000 in
theorem few_calls (A : Option Addr) (n c : Nat) (l : List Ent) (w : World) (hr : RdE w A n l) :
    Calls Tryd.prog 10 #[.slice A n c] w fun e w' => e = .returned (.bool (fewL l)) ∧ w = w' := by
  have hn := hr.2.le
  have HL := hide hr.1
  have HR := hide hr
  obtain ⟨ANS, hA⟩ : ∃ ANS, (l.all fun x => decide (x.text.size ≤ 200)) = ANS := ⟨_, rfl⟩
  have HF : Hid (fewL l = (decide (l.length ≤ 50) && ANS)) := by rw [← hA]; rfl
  have HA := hide hA
  clear hr hA
  generalize fewL l = R at *
  by_cases h50 : n ≤ 50
  · have hR : R = ANS := by rw [unhide HF, unhide HL]; simp [h50]
    subst hR
    have h50' : (n : Int) ≤ 50 := by omega
    clear HF
    go_enter Tryd.func10, Tryd.ntmps10
    go_wp2_with fail
    go_loopw [3] (fun i wr => ∃ k : Nat, k ≤ n ∧ i = .int .i64 k ∧ w = wr ∧ ((l.drop k).all fun x => decide (x.text.size ≤ 200)) = R) (fun i _ => n - (intOf i).toNat)
    case atStart => exact ⟨0, Nat.zero_le _, rfl, rfl, by simpa using unhide HA⟩
    case round =>
      obtain ⟨k, hk, rfl, rfl, hok⟩ := hrel
      by_cases hlt : k < n
      · have hkl : k < l.length := by rw [unhide HL]; exact hlt
        rw [List.drop_eq_getElem_cons hkl, List.all_cons] at hok
        obtain ⟨b, o, rfl, hb, hc⟩ := (unhide HR).get (by omega)
        obtain ⟨q0, q1, q2, q3, q4⟩ := hc k hkl
        generalize l[k] = x at *
        have hi2 : (k : Int) < (n : Int) := by omega
        clear hc q0 q1 q3 q4
        by_cases hs : x.text.size ≤ 200
        · have hs' : (x.text.size : Int) ≤ 200 := by omega
          have HOK : Hid (((l.drop (k + 1)).all fun x => decide (x.text.size ≤ 200)) = R) := show ((l.drop (k + 1)).all fun x => decide (x.text.size ≤ 200)) = R by simpa [hs] using hok
          clear hok
          go_wp2_with fail
          go_roundw
          case rel => exact ⟨k + 1, by omega, by go_num, trivial, unhide HOK⟩
          case measure => simp [intOf]; omega
        · have hs' : ¬ (x.text.size : Int) ≤ 200 := by omega
          have HOK : Hid (R = false) := show R = false by simpa [hs] using hok
          clear hok
          go_wp2_with fail
          go_ret
          exact ⟨by rw [unhide HOK]; rfl, rfl⟩
      · have HOK : Hid (R = true) := show R = true by rw [List.drop_eq_nil_of_le (by rw [unhide HL]; omega)] at hok; simpa using hok
        have hi2 : ¬ (k : Int) < (n : Int) := by omega
        clear hok
        go_wp2_with fail
        go_ret
        exact ⟨by rw [unhide HOK]; rfl, rfl⟩
  · have hR : R = false := by rw [unhide HF, unhide HL]; simp [h50]
    subst hR
    have h50' : ¬ (n : Int) ≤ 50 := by omega
    go_enter Tryd.func10, Tryd.ntmps10
    go_wp2_with fail
    go_ret
    exact ⟨rfl, rfl⟩

/-! ### does, did -/
structure OpL where
  kind : Int
  no : Int
  user : Int
  owner : Int
  text : ByteArray
def doL (l : List Ent) (o : OpL) : List Ent × Int :=
  if o.kind = 0 then addL l o.user o.text else if o.kind = 1 then editL l o.no o.user o.text else delL l o.no o.user o.owner
def OpL.val (o : OpL) : Value := .agg #[.int .i64 o.kind, .int .i64 o.no, .int .i64 o.user, .int .i64 o.owner, .string o.text]
set_option maxHeartbeats 1600000 in
theorem does_calls (A : Option Addr) (n c : Nat) (l : List Ent) (o : OpL) (w : World) (hr : RdE w A n l) (hT : Tabs w) :
    Calls Tryd.prog 11 #[.slice A n c, o.val] w (RetLE w (doL l o)) := by
  have hb : Below w.heap.size w (w.alloc (.cells #[.int .i64 o.kind, .int .i64 o.no, .int .i64 o.user, .int .i64 o.owner, .string o.text] 24)) := (Below.refl _ w).alloc (Nat.le_refl _) _
  have HB := hide hb
  have HR := hide (hr.below hb)
  have HT := hide (hT.below hb)
  have HF : Hid (doL l o = if o.kind = 0 then addL l o.user o.text else if o.kind = 1 then editL l o.no o.user o.text else delL l o.no o.user o.owner) := rfl
  generalize doL l o = ANS at *
  clear hr hT hb
  by_cases h0 : o.kind = 0
  · have h0b : (o.kind == 0) = true := by simp [h0]
    have HF2 : Hid (ANS = addL l o.user o.text) := by rw [Hid, unhide HF, if_pos h0]
    clear HF h0
    go_enter Tryd.func11, Tryd.ntmps11
    unfold OpL.val
    go_wp2_with fail
    refine (add_calls A n c l o.user o.text _ (unhide HR) (unhide HT)).mono ?_
    intro e w1 hret
    obtain ⟨A1, n1, c1, rfl, hr1, hc1, hb1⟩ := hret
    have HH := hide hr1
    have HH2 := hide (unhide HF2)
    go_wp2_with fail
    go_ret2
    rw [unhide HF2]
    exact ⟨A1, n1, c1, rfl, hr1, hc1, (unhide HB).trans (hb1.mono (unhide HB).size)⟩
  · have h0b : (o.kind == 0) = false := by simp [h0]
    by_cases h1 : o.kind = 1
    · have h1b : (o.kind == 1) = true := by simp [h1]
      have HF2 : Hid (ANS = editL l o.no o.user o.text) := by rw [Hid, unhide HF, if_neg h0, if_pos h1]
      clear HF h0 h1
      go_enter Tryd.func11, Tryd.ntmps11
      unfold OpL.val
      go_wp2_with fail
      refine (edit_calls A n c l o.no o.user o.text _ (unhide HR) (unhide HT)).mono ?_
      intro e w1 hret
      obtain ⟨A1, n1, c1, rfl, hr1, hc1, hb1⟩ := hret
      have HH := hide hr1
      have HH2 := hide (unhide HF2)
      go_wp2_with fail
      go_ret2
      rw [unhide HF2]
      exact ⟨A1, n1, c1, rfl, hr1, hc1, (unhide HB).trans (hb1.mono (unhide HB).size)⟩
    · have h1b : (o.kind == 1) = false := by simp [h1]
      have HF2 : Hid (ANS = delL l o.no o.user o.owner) := by rw [Hid, unhide HF, if_neg h0, if_neg h1]
      clear HF
      go_enter Tryd.func11, Tryd.ntmps11
      unfold OpL.val
      go_wp2_with fail
      refine (delete_calls A n c l o.no o.user o.owner _ (unhide HR) (unhide HT)).mono ?_
      intro e w1 hret
      obtain ⟨A1, n1, c1, rfl, hr1, hc1, hb1⟩ := hret
      have HH := hide hr1
      have HH2 := hide (unhide HF2)
      go_wp2_with fail
      go_ret2
      rw [unhide HF2]
      exact ⟨A1, n1, c1, rfl, hr1, hc1, (unhide HB).trans (hb1.mono (unhide HB).size)⟩

set_option maxHeartbeats 1600000 in
theorem did_calls (A : Option Addr) (n c : Nat) (l : List Ent) (o : OpL) (w : World) (hr : RdE w A n l) :
    Calls Tryd.prog 12 #[.slice A n c, o.val] w (RetLE w (doL l o)) := by
  have hb : Below w.heap.size w (w.alloc (.cells #[.int .i64 o.kind, .int .i64 o.no, .int .i64 o.user, .int .i64 o.owner, .string o.text] 24)) := (Below.refl _ w).alloc (Nat.le_refl _) _
  have HB := hide hb
  have HR := hide (hr.below hb)
  have HF : Hid (doL l o = if o.kind = 0 then addL l o.user o.text else if o.kind = 1 then editL l o.no o.user o.text else delL l o.no o.user o.owner) := rfl
  generalize doL l o = ANS at *
  clear hr hb
  by_cases h0 : o.kind = 0
  · have h0b : (o.kind == 0) = true := by simp [h0]
    have HF2 : Hid (ANS = addL l o.user o.text) := by rw [Hid, unhide HF, if_pos h0]
    clear HF h0
    go_enter Tryd.func12, Tryd.ntmps12
    unfold OpL.val
    go_wp2_with fail
    refine (refAdd_calls A n c l o.user o.text _ (unhide HR) ).mono ?_
    intro e w1 hret
    obtain ⟨A1, n1, c1, rfl, hr1, hc1, hb1⟩ := hret
    have HH := hide hr1
    have HH2 := hide (unhide HF2)
    go_wp2_with fail
    go_ret2
    rw [unhide HF2]
    exact ⟨A1, n1, c1, rfl, hr1, hc1, (unhide HB).trans (hb1.mono (unhide HB).size)⟩
  · have h0b : (o.kind == 0) = false := by simp [h0]
    by_cases h1 : o.kind = 1
    · have h1b : (o.kind == 1) = true := by simp [h1]
      have HF2 : Hid (ANS = editL l o.no o.user o.text) := by rw [Hid, unhide HF, if_neg h0, if_pos h1]
      clear HF h0 h1
      go_enter Tryd.func12, Tryd.ntmps12
      unfold OpL.val
      go_wp2_with fail
      refine (refEdit_calls A n c l o.no o.user o.text _ (unhide HR) ).mono ?_
      intro e w1 hret
      obtain ⟨A1, n1, c1, rfl, hr1, hc1, hb1⟩ := hret
      have HH := hide hr1
      have HH2 := hide (unhide HF2)
      go_wp2_with fail
      go_ret2
      rw [unhide HF2]
      exact ⟨A1, n1, c1, rfl, hr1, hc1, (unhide HB).trans (hb1.mono (unhide HB).size)⟩
    · have h1b : (o.kind == 1) = false := by simp [h1]
      have HF2 : Hid (ANS = delL l o.no o.user o.owner) := by rw [Hid, unhide HF, if_neg h0, if_neg h1]
      clear HF
      go_enter Tryd.func12, Tryd.ntmps12
      unfold OpL.val
      go_wp2_with fail
      refine (refDelete_calls A n c l o.no o.user o.owner _ (unhide HR) ).mono ?_
      intro e w1 hret
      obtain ⟨A1, n1, c1, rfl, hr1, hc1, hb1⟩ := hret
      have HH := hide hr1
      have HH2 := hide (unhide HF2)
      go_wp2_with fail
      go_ret2
      rw [unhide HF2]
      exact ⟨A1, n1, c1, rfl, hr1, hc1, (unhide HB).trans (hb1.mono (unhide HB).size)⟩

end Go.Proofs.YtdpmfghlhgfhfaaDoor
