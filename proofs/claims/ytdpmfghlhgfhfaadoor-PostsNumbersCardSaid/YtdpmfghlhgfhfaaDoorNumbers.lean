/- PostsNumbers, walked: for every input it is true. -/
import Derived.Test.YtdpmfghlhgfhfaaDoorPageP
set_option linter.unusedVariables false
set_option linter.unusedSimpArgs false
namespace Go.Proofs.YtdpmfghlhgfhfaaDoor
open Go.RowKit

def OpL.enc (o : OpL) : List Value := [.int .i64 o.kind, .int .i64 o.no, .int .i64 o.user, .int .i64 o.owner, .string o.text]
theorem OpL.enc_length (o : OpL) : o.enc.length = 5 := rfl
def encsO (l : List OpL) : List Value := l.flatMap OpL.enc
theorem encsO_length (l : List OpL) : (encsO l).length = l.length * 5 := flat_length _ 5 OpL.enc_length l
/-- A slice that reads as ops. -/
def RdO (w : World) (A : Option Addr) (n : Nat) (l : List OpL) : Prop := l.length = n ∧ Reads w 5 A n (encsO l)
theorem RdO.below {w w1 : World} {A : Option Addr} {n : Nat} {l : List OpL} (h : RdO w A n l) (hb : Below w.heap.size w w1) : RdO w1 A n l := ⟨h.1, h.2.below hb⟩
theorem RdO.get {w : World} {A : Option Addr} {n : Nat} {l : List OpL} (h : RdO w A n l) (hn : 0 < n) :
    ∃ b o, A = some ⟨b, o, none⟩ ∧ b < w.heap.size ∧ ∀ k (hk : k < l.length), w.cell? ⟨b, o + k * 5, none⟩ = some (.int .i64 l[k].kind) ∧ w.cell? ⟨b, o + k * 5 + 1, none⟩ = some (.int .i64 l[k].no) ∧
      w.cell? ⟨b, o + k * 5 + 2, none⟩ = some (.int .i64 l[k].user) ∧ w.cell? ⟨b, o + k * 5 + 3, none⟩ = some (.int .i64 l[k].owner) ∧ w.cell? ⟨b, o + k * 5 + 4, none⟩ = some (.string l[k].text) := by
  obtain ⟨b, o, rfl, hb, hc⟩ := h.2.get hn
  refine ⟨b, o, rfl, hb, fun k hk => ?_⟩
  have key : ∀ j, j < 5 → ∀ u, l[k].enc[j]? = some u → w.cell? ⟨b, o + k * 5 + j, none⟩ = some u := fun j hj u hu => by
    rw [Nat.add_assoc]
    exact hc _ _ ((flat_at _ 5 OpL.enc_length l k j hk hj).trans hu)
  exact ⟨key 0 (by omega) _ rfl, key 1 (by omega) _ rfl, key 2 (by omega) _ rfl, key 3 (by omega) _ rfl, key 4 (by omega) _ rfl⟩

set_option maxRecDepth 100000 in
set_option maxHeartbeats 4000000 in
theorem postsNumbers_calls (A : Option Addr) (n c : Nat) (l : List OpL) (w : World) (hr : RdO w A n l) (hT : Tabs w) :
    Calls Tryd.prog 5 #[.slice A n c] w fun e w' => e = .returned (.bool true) ∧ Below w.heap.size w w' := by
  have HL := hide hr.1
  have HR := hide hr
  have HT := hide hT
  clear hr hT
  go_enter Tryd.func5, Tryd.ntmps5
  go_wp2_with fail
  refine (awake_calls w (unhide HT)).mono ?_
  rintro e w1 ⟨rfl, hb1⟩
  have HB1 := hide hb1
  have HR1 := hide ((unhide HR).below hb1)
  have HT1 := hide ((unhide HT).below hb1)
  clear hb1
  by_cases h100 : n ≤ 100
  · have h100' : ¬ (100 : Int) < (n : Int) := by omega
    go_wp2_with fail
    go_loopw [4, 5] (fun v i wr => ∃ (k : Nat) (now : List Ent) (An : Option Addr) (cn : Nat), k ≤ n ∧ i = .int .i64 k ∧ v = .slice An now.length cn ∧ RdE wr An now.length now ∧ now.length ≤ cn ∧ mayL now = true ∧ Below w1.heap.size w1 wr) (fun _ i _ => n - (intOf i).toNat)
    case atStart => exact ⟨0, [], none, 0, Nat.zero_le _, rfl, rfl, ⟨rfl, Reads.nil _⟩, Nat.le_refl _, rfl, Below.refl _ _⟩
    case round =>
      obtain ⟨k, now, An, cn, hk, rfl, rfl, hrd, hcn, hmay, hbw⟩ := hrel
      by_cases hlt : k < n
      · have hkl : k < l.length := by rw [unhide HL]; exact hlt
        obtain ⟨b, o, rfl, hbl, hcx⟩ := ((unhide HR1).below hbw).get (by omega)
        obtain ⟨q0, q1, q2, q3, q4⟩ := hcx k hkl
        generalize l[k] = op at *
        have hi2 : (k : Int) < (n : Int) := by omega
        have HRN := hide hrd
        have HMAY := hide hmay
        have HNUM := hide (do_num hmay op)
        have HM2 := hide (doL_may now op)
        have HLR := hide (lastL_range now)
        have HBW := hide hbw
        have hlen32 := (mayL_all hmay).2.2
        clear hcx hrd hmay
        by_cases hts : op.text.size ≤ 200
        · have hts' : ¬ (200 : Int) < (op.text.size : Int) := by omega
          clear hbw
          go_wp2_with fail
          refine (does_calls An now.length cn now op wr (unhide HRN) ((unhide HT1).below (unhide HBW))).mono ?_
          intro e w2 hret
          obtain ⟨nxt, r, hP⟩ : ∃ nxt r, doL now op = (nxt, r) := ⟨_, _, rfl⟩
          rw [hP] at HNUM HM2
          obtain ⟨A2, c2, rfl, hr2, hc2, hb2⟩ := hret.get hP
          have k0 := cell_below hb2 q0
          have HR2 := hide hr2
          have HRN2 := hide ((unhide HRN).below hb2)
          have HB2 := hide ((unhide HBW).trans (hb2.mono (unhide HBW).size))
          have HT2 := hide (((unhide HT1).below (unhide HBW)).below hb2)
          clear hret hP hr2 hb2 q0 q1 q2 q3 q4
          simp only at HNUM HM2
          have hnx32 : nxt.length ≤ 32 := (mayL_all (unhide HM2)).2.2
          by_cases hr0 : r = 0
          · subst hr0
            obtain ⟨hla, hll, hpair⟩ := (unhide HNUM).2 rfl
            have HPAIR := hide hpair
            have HLA := hide hla
            have hll' : ¬ (nxt.length : Int) < (now.length : Int) := by omega
            obtain ⟨hl0, hl1⟩ := unhide HLR
            clear hpair hla HNUM
            by_cases hkd : op.kind = 0
            · rw [if_pos hkd] at HLA
              rw [hkd] at k0
              clear hkd
              go_wp2_with fail
              refine (last_calls A2 _ c2 nxt w2 (unhide HR2) (unhide HT2)).mono ?_
              rintro e w3 ⟨rfl, hb3⟩
              rw [unhide HLA]
              have HR3 := hide ((unhide HR2).below hb3)
              have HRN3 := hide ((unhide HRN2).below hb3)
              have HT3 := hide ((unhide HT2).below hb3)
              have HB3 := hide ((unhide HB2).trans (hb3.mono (unhide HB2).size))
              clear hb3
              go_wp2_with fail
              refine (last_calls An _ cn now w3 (unhide HRN3) (unhide HT3)).mono ?_
              rintro e w4 ⟨rfl, hb4⟩
              have HR4 := hide ((unhide HR3).below hb4)
              have HRN4 := hide ((unhide HRN3).below hb4)
              have HB4 := hide ((unhide HB3).trans (hb4.mono (unhide HB3).size))
              clear hb4
              generalize lastL now = La at *
              go_wp2_with fail
              go_loopw [9] (fun i wr => ∃ a : Nat, a ≤ now.length ∧ i = .int .i64 a ∧ Below w4.heap.size w4 wr) (fun i _ => now.length - (intOf i).toNat)
              case atStart => exact ⟨0, Nat.zero_le _, rfl, Below.refl _ _⟩
              case round =>
                obtain ⟨a, ha, rfl, hba⟩ := hrel
                by_cases hal : a < now.length
                · have ha2 : (a : Int) < (now.length : Int) := by omega
                  obtain ⟨ba, oa, rfl, hbal, hca⟩ := ((unhide HRN4).below hba).get (by omega)
                  have hxx := hca a hal
                  have HPA : Hid (∀ y ∈ nxt, now[a].no = y.no → now[a].user = y.user ∧ (now[a].gone = true → y.gone = true) ∧ now[a].edits ≤ y.edits) := (unhide HPAIR) _ (List.getElem_mem hal)
                  generalize now[a] = x at *
                  have HXC := hide hxx
                  have HBA := hide hba
                  have HR5 := hide ((unhide HR4).below hba)
                  clear hca hxx hba
                  obtain ⟨w5, hw5⟩ : ∃ z, z = wr := ⟨_, rfl⟩
                  subst hw5
                  go_wp2_with fail
                  go_loopw [10] (fun i wr => ∃ b : Nat, b ≤ nxt.length ∧ i = .int .i64 b ∧ Below w5.heap.size w5 wr) (fun i _ => nxt.length - (intOf i).toNat)
                  case atStart => exact ⟨0, Nat.zero_le _, rfl, Below.refl _ _⟩
                  case round =>
                    obtain ⟨bq, hbq, rfl, hbb⟩ := hrel
                    by_cases hbl2 : bq < nxt.length
                    · have hb2 : (bq : Int) < (nxt.length : Int) := by omega
                      obtain ⟨b2, o2, rfl, hb2l, hcb⟩ := ((unhide HR5).below hbb).get (by omega)
                      obtain ⟨p0, p1, p2, p3, p4⟩ := hcb bq hbl2
                      obtain ⟨x0, x1, x2, x3, x4⟩ := (unhide HXC).below hbb
                      have HPY := hide ((unhide HPA) _ (List.getElem_mem hbl2))
                      generalize nxt[bq] = y at *
                      have hbal2 : ba < wr.heap.size := Nat.lt_of_lt_of_le hbal hbb.size
                      have HBB := hide hbb
                      have HBZ : Hid (∀ o1 o2, Below w5.heap.size w5 ((wr.alloc o1).alloc o2)) := fun o1 o2 => (hbb.alloc hbb.size o1).alloc (by have := hbb.size; simp; omega) o2
                      clear hcb hbb
                      by_cases hno : x.no = y.no
                      · obtain ⟨hus, hgo, hed⟩ := (unhide HPY) hno
                        have hno1 : (x.no == y.no) = true := by simp [hno]
                        have hus1 : (x.user != y.user) = false := by simp [hus]
                        have hed1 : ¬ y.edits < x.edits := by omega
                        clear hno hus HPY
                        cases hxg : x.gone with
                        | false =>
                          rw [hxg] at x4
                          clear hgo hxg
                          go_wp2_with fail
                          go_roundw
                          case rel => exact ⟨bq + 1, by omega, by go_num, (unhide HBZ) _ _⟩
                          case measure => simp [intOf]; omega
                        | true =>
                          rw [hxg] at x4
                          rw [hgo hxg] at p4
                          clear hgo hxg
                          go_wp2_with fail
                          go_roundw
                          case rel => exact ⟨bq + 1, by omega, by go_num, (unhide HBZ) _ _⟩
                          case measure => simp [intOf]; omega
                      · have hno1 : (x.no == y.no) = false := by simpa using hno
                        clear hno HPY
                        go_wp2_with fail
                        go_roundw
                        case rel => exact ⟨bq + 1, by omega, by go_num, (unhide HBZ) _ _⟩
                        case measure => simp [intOf]; omega
                    · have hb2 : ¬ (bq : Int) < (nxt.length : Int) := by omega
                      have HBB := hide hbb
                      clear hbb
                      go_wp2_with fail
                      go_roundw
                      case rel => exact ⟨a + 1, by omega, by go_num, (unhide HBA).trans ((unhide HBB).mono (unhide HBA).size)⟩
                      case measure => simp [intOf]; omega
                · have ha2 : ¬ (a : Int) < (now.length : Int) := by omega
                  have HBA := hide hba
                  clear hba
                  go_wp2_with fail
                  go_roundw
                  case rel => exact ⟨k + 1, nxt, A2, c2, by omega, by go_num, rfl, (unhide HR4).below (unhide HBA), hc2, unhide HM2, (unhide HB4).trans ((unhide HBA).mono (unhide HB4).size)⟩
                  case measure => simp [intOf]; omega
            · rw [if_neg hkd] at HLA
              have hkd1 : (op.kind == 0) = false := by simpa using hkd
              clear hkd
              go_wp2_with fail
              refine (last_calls A2 _ c2 nxt w2 (unhide HR2) (unhide HT2)).mono ?_
              rintro e w3 ⟨rfl, hb3⟩
              rw [unhide HLA, Int.add_zero]
              have HR3 := hide ((unhide HR2).below hb3)
              have HRN3 := hide ((unhide HRN2).below hb3)
              have HT3 := hide ((unhide HT2).below hb3)
              have HB3 := hide ((unhide HB2).trans (hb3.mono (unhide HB2).size))
              clear hb3
              go_wp2_with fail
              refine (last_calls An _ cn now w3 (unhide HRN3) (unhide HT3)).mono ?_
              rintro e w4 ⟨rfl, hb4⟩
              have HR4 := hide ((unhide HR3).below hb4)
              have HRN4 := hide ((unhide HRN3).below hb4)
              have HB4 := hide ((unhide HB3).trans (hb4.mono (unhide HB3).size))
              clear hb4
              generalize lastL now = La at *
              go_wp2_with fail
              go_loopw [9] (fun i wr => ∃ a : Nat, a ≤ now.length ∧ i = .int .i64 a ∧ Below w4.heap.size w4 wr) (fun i _ => now.length - (intOf i).toNat)
              case atStart => exact ⟨0, Nat.zero_le _, rfl, Below.refl _ _⟩
              case round =>
                obtain ⟨a, ha, rfl, hba⟩ := hrel
                by_cases hal : a < now.length
                · have ha2 : (a : Int) < (now.length : Int) := by omega
                  obtain ⟨ba, oa, rfl, hbal, hca⟩ := ((unhide HRN4).below hba).get (by omega)
                  have hxx := hca a hal
                  have HPA : Hid (∀ y ∈ nxt, now[a].no = y.no → now[a].user = y.user ∧ (now[a].gone = true → y.gone = true) ∧ now[a].edits ≤ y.edits) := (unhide HPAIR) _ (List.getElem_mem hal)
                  generalize now[a] = x at *
                  have HXC := hide hxx
                  have HBA := hide hba
                  have HR5 := hide ((unhide HR4).below hba)
                  clear hca hxx hba
                  obtain ⟨w5, hw5⟩ : ∃ z, z = wr := ⟨_, rfl⟩
                  subst hw5
                  go_wp2_with fail
                  go_loopw [10] (fun i wr => ∃ b : Nat, b ≤ nxt.length ∧ i = .int .i64 b ∧ Below w5.heap.size w5 wr) (fun i _ => nxt.length - (intOf i).toNat)
                  case atStart => exact ⟨0, Nat.zero_le _, rfl, Below.refl _ _⟩
                  case round =>
                    obtain ⟨bq, hbq, rfl, hbb⟩ := hrel
                    by_cases hbl2 : bq < nxt.length
                    · have hb2 : (bq : Int) < (nxt.length : Int) := by omega
                      obtain ⟨b2, o2, rfl, hb2l, hcb⟩ := ((unhide HR5).below hbb).get (by omega)
                      obtain ⟨p0, p1, p2, p3, p4⟩ := hcb bq hbl2
                      obtain ⟨x0, x1, x2, x3, x4⟩ := (unhide HXC).below hbb
                      have HPY := hide ((unhide HPA) _ (List.getElem_mem hbl2))
                      generalize nxt[bq] = y at *
                      have hbal2 : ba < wr.heap.size := Nat.lt_of_lt_of_le hbal hbb.size
                      have HBB := hide hbb
                      have HBZ : Hid (∀ o1 o2, Below w5.heap.size w5 ((wr.alloc o1).alloc o2)) := fun o1 o2 => (hbb.alloc hbb.size o1).alloc (by have := hbb.size; simp; omega) o2
                      clear hcb hbb
                      by_cases hno : x.no = y.no
                      · obtain ⟨hus, hgo, hed⟩ := (unhide HPY) hno
                        have hno1 : (x.no == y.no) = true := by simp [hno]
                        have hus1 : (x.user != y.user) = false := by simp [hus]
                        have hed1 : ¬ y.edits < x.edits := by omega
                        clear hno hus HPY
                        cases hxg : x.gone with
                        | false =>
                          rw [hxg] at x4
                          clear hgo hxg
                          go_wp2_with fail
                          go_roundw
                          case rel => exact ⟨bq + 1, by omega, by go_num, (unhide HBZ) _ _⟩
                          case measure => simp [intOf]; omega
                        | true =>
                          rw [hxg] at x4
                          rw [hgo hxg] at p4
                          clear hgo hxg
                          go_wp2_with fail
                          go_roundw
                          case rel => exact ⟨bq + 1, by omega, by go_num, (unhide HBZ) _ _⟩
                          case measure => simp [intOf]; omega
                      · have hno1 : (x.no == y.no) = false := by simpa using hno
                        clear hno HPY
                        go_wp2_with fail
                        go_roundw
                        case rel => exact ⟨bq + 1, by omega, by go_num, (unhide HBZ) _ _⟩
                        case measure => simp [intOf]; omega
                    · have hb2 : ¬ (bq : Int) < (nxt.length : Int) := by omega
                      have HBB := hide hbb
                      clear hbb
                      go_wp2_with fail
                      go_roundw
                      case rel => exact ⟨a + 1, by omega, by go_num, (unhide HBA).trans ((unhide HBB).mono (unhide HBA).size)⟩
                      case measure => simp [intOf]; omega
                · have ha2 : ¬ (a : Int) < (now.length : Int) := by omega
                  have HBA := hide hba
                  clear hba
                  go_wp2_with fail
                  go_roundw
                  case rel => exact ⟨k + 1, nxt, A2, c2, by omega, by go_num, rfl, (unhide HR4).below (unhide HBA), hc2, unhide HM2, (unhide HB4).trans ((unhide HBA).mono (unhide HB4).size)⟩
                  case measure => simp [intOf]; omega
          · have hr1 : (r != 0) = true := by simpa using hr0
            have hnil := (unhide HNUM).1 hr0
            subst hnil
            clear hr0
            go_wp2_with fail
            exact ⟨⟨k + 1, now, An, cn, by omega, by go_num, rfl, unhide HRN2, hcn, unhide HMAY, unhide HB2⟩, by simp [intOf]; omega⟩
        · have hts' : (200 : Int) < (op.text.size : Int) := by omega
          go_wp2_with fail
          go_ret
          exact ⟨rfl, (unhide HB1).trans ((unhide HBW).mono (unhide HB1).size)⟩
      · have hi2 : ¬ (k : Int) < (n : Int) := by omega
        go_wp2_with fail
        go_ret
        exact ⟨rfl, (unhide HB1).trans (hbw.mono (unhide HB1).size)⟩
  · have h100' : (100 : Int) < (n : Int) := by omega
    go_wp2_with fail
    go_ret
    exact ⟨rfl, unhide HB1⟩
end Go.Proofs.YtdpmfghlhgfhfaaDoor
