/- Posts as data: an entry's five cells; what may be. -/
import Derived.Test.YtdpmfghlhgfhfaaDoorText2
set_option linter.unusedVariables false
set_option linter.unusedSimpArgs false
namespace Go.Proofs.YtdpmfghlhgfhfaaDoor
open Go.RowKit

structure Ent where
  no : Int
  user : Int
  text : ByteArray
  edits : Int
  gone : Bool
  deriving DecidableEq
/-- An entry's cells. -/
def Ent.enc (x : Ent) : List Value := [.int .i64 x.no, .int .i64 x.user, .string x.text, .int .i64 x.edits, .bool x.gone]
theorem Ent.enc_length (x : Ent) : x.enc.length = 5 := rfl
def encs (l : List Ent) : List Value := l.flatMap Ent.enc
theorem encs_length (l : List Ent) : (encs l).length = l.length * 5 := flat_length _ 5 Ent.enc_length l
/-- A slice that reads as entries. -/
def RdE (w : World) (A : Option Addr) (n : Nat) (l : List Ent) : Prop := l.length = n ∧ Reads w 5 A n (encs l)
theorem RdE.below {w w1 : World} {A : Option Addr} {n : Nat} {l : List Ent} (h : RdE w A n l) (hb : Below w.heap.size w w1) : RdE w1 A n l := ⟨h.1, h.2.below hb⟩
/-- The cells of one of them. -/
def CellsE (w : World) (b o : Nat) (x : Ent) : Prop :=
  w.cell? ⟨b, o, none⟩ = some (.int .i64 x.no) ∧ w.cell? ⟨b, o + 1, none⟩ = some (.int .i64 x.user) ∧ w.cell? ⟨b, o + 2, none⟩ = some (.string x.text) ∧
  w.cell? ⟨b, o + 3, none⟩ = some (.int .i64 x.edits) ∧ w.cell? ⟨b, o + 4, none⟩ = some (.bool x.gone)
theorem CellsE.of {w : World} {b o : Nat} {x : Ent} (h : ∀ j u, x.enc[j]? = some u → w.cell? ⟨b, o + j, none⟩ = some u) : CellsE w b o x :=
  ⟨h 0 _ rfl, h 1 _ rfl, h 2 _ rfl, h 3 _ rfl, h 4 _ rfl⟩
theorem CellsE.below {w w1 : World} {b o : Nat} {x : Ent} (h : CellsE w b o x) (hb : Below w.heap.size w w1) : CellsE w1 b o x :=
  ⟨cell_below hb h.1, cell_below hb h.2.1, cell_below hb h.2.2.1, cell_below hb h.2.2.2.1, cell_below hb h.2.2.2.2⟩
theorem RdE.at_ {w : World} {A : Option Addr} {n : Nat} {l : List Ent} (h : RdE w A n l) {k : Nat} (hk : k < n) (hk' : k < l.length) :
    ∃ b o, A = some ⟨b, o, none⟩ ∧ b < w.heap.size ∧ CellsE w b (o + k * 5) l[k] := by
  obtain ⟨hl, hr⟩ := h
  obtain ⟨b, o, rfl, hb, hc⟩ := hr.get (by omega)
  refine ⟨b, o, rfl, hb, CellsE.of fun j u hu => ?_⟩
  have hj : j < 5 := by
    rcases Nat.lt_or_ge j 5 with h | h
    · exact h
    · rw [List.getElem?_eq_none (by rw [Ent.enc_length]; exact h)] at hu; cases hu
  rw [Nat.add_assoc]
  exact hc _ _ (by rw [encs, flat_at _ 5 Ent.enc_length l k j hk' hj]; exact hu)
/-- The same for two places in one row. -/
theorem RdE.get {w : World} {A : Option Addr} {n : Nat} {l : List Ent} (h : RdE w A n l) (hn : 0 < n) :
    ∃ b o, A = some ⟨b, o, none⟩ ∧ b < w.heap.size ∧ ∀ k (hk : k < l.length), CellsE w b (o + k * 5) l[k] := by
  have hl := h.1
  obtain ⟨b, o, rfl, hb, _⟩ := h.2.get hn
  refine ⟨b, o, rfl, hb, fun k hk => ?_⟩
  obtain ⟨b', o', e, _, hc⟩ := h.at_ (k := k) (by omega) hk
  cases e
  exact hc

/-- May one be? -/
def Ent.may (x : Ent) : Bool := (x.gone == x.text.toList.isEmpty) && (x.gone || tmay x.text) && (decide (1 ≤ x.no) && decide (x.no ≤ 1073741824)) && (decide (1 ≤ x.user) && decide (x.user ≤ 1048576)) && (decide (0 ≤ x.edits) && decide (x.edits ≤ 1073741824))
/-- May some be, behind one of a number? -/
def okFrom : Option Int → List Ent → Bool
  | _, [] => true
  | p, x :: t => x.may && (match p with | none => true | some p => x.no == p + 1) && okFrom (some x.no) t
def mayL (l : List Ent) : Bool := okFrom none l && decide (l.length ≤ 32)
def fairL (l : List Ent) : List Ent := if mayL l then l else []
theorem Ent.may_no {x : Ent} (h : x.may = true) : 1 ≤ x.no ∧ x.no ≤ 1073741824 := by
  simp only [Ent.may, Bool.and_eq_true, decide_eq_true_eq] at h
  exact h.1.1.2
theorem Ent.may_user {x : Ent} (h : x.may = true) : 1 ≤ x.user ∧ x.user ≤ 1048576 := by
  simp only [Ent.may, Bool.and_eq_true, decide_eq_true_eq] at h
  exact h.1.2
theorem Ent.may_edits {x : Ent} (h : x.may = true) : 0 ≤ x.edits ∧ x.edits ≤ 1073741824 := by
  simp only [Ent.may, Bool.and_eq_true, decide_eq_true_eq] at h
  exact h.2
/-- The number ahead of place k. -/
def prevNo (l : List Ent) (k : Nat) : Option Int := if k = 0 then none else (l[k - 1]?).map (·.no)
theorem okFrom_step (l : List Ent) (k : Nat) (hk : k < l.length) : okFrom (prevNo l k) (l.drop k) = (l[k].may && (match prevNo l k with | none => true | some p => l[k].no == p + 1) && okFrom (prevNo l (k + 1)) (l.drop (k + 1))) := by
  rw [List.drop_eq_getElem_cons hk]
  simp [okFrom, prevNo, hk]

theorem grow_cell {w : World} {a : Addr} {v : Value} (h : w.cell? a = some v) : ∀ d os, (Sort.grow (redrawn w d) os).cell? a = some v := fun d os => cell_regrown h d os

theorem bcell {W w1 : World} (hb : Below W.heap.size W w1) : (∀ b o, b < W.heap.size → w1.cell? ⟨b, o, none⟩ = W.cell? ⟨b, o, none⟩) ∧ (∀ b o, b < W.heap.size → w1.frozen? ⟨b, o, none⟩ = W.frozen? ⟨b, o, none⟩) :=
  ⟨fun b o h => hb.cell (p := ⟨b, o, none⟩) h, fun b o h => hb.frozen (p := ⟨b, o, none⟩) h⟩

theorem between_calls (n a b : Int) (w : World) :
    Calls Tryd.prog 39 #[.int .i64 n, .int .i64 a, .int .i64 b] w fun e w' => e = .returned (.bool (decide (a ≤ n) && decide (n ≤ b))) ∧ w = w' := by
  go_enter Tryd.func39, Tryd.ntmps39
  go_wp2
  all_goals
    go_ret
    refine ⟨ret_b ?_, rfl⟩
    rw [Bool.eq_iff_iff]
    simp
    try omega

set_option maxHeartbeats 400000 in
theorem postMay_calls (x : Ent) (w : World) (hT : Tabs w) :
    Calls Tryd.prog 28 #[.agg #[.int .i64 x.no, .int .i64 x.user, .string x.text, .int .i64 x.edits, .bool x.gone]] w fun e w' => e = .returned (.bool x.may) ∧ Below w.heap.size w w' := by
  obtain ⟨no, user, text, edits, gone⟩ := x
  dsimp only
  obtain ⟨o, ho⟩ : ∃ o, o = Obj.cells #[.int .i64 no, .int .i64 user, .string text, .int .i64 edits, .bool gone] 33 := ⟨_, rfl⟩
  have hb0 : Below w.heap.size w (w.alloc o) := (Below.refl _ w).alloc (Nat.le_refl _) _
  have K := hide (text_calls text (w.alloc o) (hT.below hb0))
  rw [ho] at K hb0
  have HB := hide hb0
  clear hb0 ho
  obtain ⟨T, hT'⟩ : ∃ T, tmay text = T := ⟨_, rfl⟩
  obtain ⟨E, hE⟩ : ∃ E, text.toList.isEmpty = E := ⟨_, rfl⟩
  have HM : Hid (Ent.may ⟨no, user, text, edits, gone⟩ = ((gone == E) && (gone || T) && (decide (1 ≤ no) && decide (no ≤ 1073741824)) && (decide (1 ≤ user) && decide (user ≤ 1048576)) && (decide (0 ≤ edits) && decide (edits ≤ 1073741824)))) := by
    simp only [Hid, Ent.may, hT', hE]
  rw [hT'] at K
  have hE1 : (text.toList == []) = E := by rw [← hE]; cases text.toList <;> rfl
  clear hT'
  generalize Ent.may ⟨no, user, text, edits, gone⟩ = ANS at *
  go_enter Tryd.func28, Tryd.ntmps28
  cases gone <;> cases E <;> cases T
  all_goals
    go_wp2_with (first
      | (go_at_call 39; refine (between_calls _ _ _ _).mono ?_; rintro e w' ⟨rfl, rfl⟩)
      | (go_at_call 36; refine (unhide K).mono ?_; rintro e w1 ⟨rfl, hb1⟩; obtain ⟨hc1, hf1⟩ := bcell hb1))
  all_goals
    go_ret
    refine ⟨ret_b ?_, by first | exact unhide HB | exact (unhide HB).trans (hb1.mono (unhide HB).size)⟩
    rw [unhide HM]
    try (rw [Bool.eq_iff_iff]; simp; try omega)
end Go.Proofs.YtdpmfghlhgfhfaaDoor
