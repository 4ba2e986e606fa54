/- The reference's May, Fair, Last, at, Find, Same. -/
import Derived.Test.YtdpmfghlhgfhfaaDoorPosts2
set_option linter.unusedVariables false
set_option linter.unusedSimpArgs false
namespace Go.Proofs.YtdpmfghlhgfhfaaDoor
open Go.RowKit

set_option maxHeartbeats 800000 in
theorem refPostMay_calls (x : Ent) (w : World) :
    Calls Tryd.prog 35 #[.agg #[.int .i64 x.no, .int .i64 x.user, .string x.text, .int .i64 x.edits, .bool x.gone]] w fun e w' => e = .returned (.bool x.may) ∧ Below w.heap.size w w' := by
  obtain ⟨no, user, text, edits, gone⟩ := x
  dsimp only
  have K := fun W => hide (refText_calls text W)
  obtain ⟨T, hT'⟩ : ∃ T, tmay text = T := ⟨_, rfl⟩
  obtain ⟨E, hE⟩ : ∃ E, text.toList.isEmpty = E := ⟨_, rfl⟩
  have HM : Hid (Ent.may ⟨no, user, text, edits, gone⟩ = ((gone == E) && (gone || T) && (decide (1 ≤ no) && decide (no ≤ 1073741824)) && (decide (1 ≤ user) && decide (user ≤ 1048576)) && (decide (0 ≤ edits) && decide (edits ≤ 1073741824)))) := by
    simp only [Hid, Ent.may, hT', hE]
  have HET : Hid (E = true → T = false) := by
    intro h
    rw [← hT']
    have : text.toList = [] := by simpa [← hE] using h
    have hz : text.size = 0 := by rw [Lib.toList_data] at this; rw [Lib.size_eq, this]; rfl
    simp [tmay, hz]
  rw [hT'] at K
  have hE1 : (text.toList == []) = E := by rw [← hE]; cases text.toList <;> rfl
  clear hT'
  generalize Ent.may ⟨no, user, text, edits, gone⟩ = ANS at *
  go_enter Tryd.func35, Tryd.ntmps35
  cases gone <;> cases E <;> cases T
  all_goals
    go_wp2_with (go_at_call 40; refine (unhide (K _)).mono ?_; rintro e w1 ⟨rfl, rfl⟩)
  all_goals
    go_ret
    refine ⟨ret_b ?_, (Below.refl _ w).alloc (Nat.le_refl _) _⟩
    rw [unhide HM]
    have := unhide HET
    try (rw [Bool.eq_iff_iff]; simp at this ⊢; try omega)

theorem ba_beq (s t : ByteArray) : (s.toList == t.toList) = decide (s = t) := by
  rw [Bool.eq_iff_iff]
  simp only [beq_iff_eq, decide_eq_true_eq, Lib.toList_data]
  constructor
  · intro h
    obtain ⟨⟨x⟩⟩ := s
    obtain ⟨⟨y⟩⟩ := t
    simp at h
    rw [h]
  · intro h; rw [h]
theorem Ent.eq_bool (x y : Ent) : ((x.no == y.no) && ((x.user == y.user) && ((x.text.toList == y.text.toList) && ((x.edits == y.edits) && ((x.gone == y.gone) && true))))) = decide (x = y) := by
  rw [ba_beq, Bool.eq_iff_iff]
  obtain ⟨a, b, c, d, e⟩ := x
  obtain ⟨a', b', c', d', e'⟩ := y
  simp
theorem entEq_fields (x y : Ent) (w : World) : ∃ fs, Tryd.prog.underlying 33 = some (.struct fs) ∧
    (Op.eqFields 9999 #[.int .i64 x.no, .int .i64 x.user, .string x.text, .int .i64 x.edits, .bool x.gone] #[.int .i64 y.no, .int .i64 y.user, .string y.text, .int .i64 y.edits, .bool y.gone] fs.toList).run Tryd.prog w = .ok (decide (x = y)) w := by
  refine ⟨_, Tryd.underlying33, ?_⟩
  rw [← Ent.eq_bool]
  refine eqf_cons rfl (by first | (simp [part, go_sem]; done) | (simp [part, go_sem]; rfl)) (by first | (simp [part, go_sem]; done) | (simp [part, go_sem]; rfl)) (run_equalIn_int w _ _ _ _ _ _ Tryd.underlying3) ?_
  refine eqf_cons rfl (by first | (simp [part, go_sem]; done) | (simp [part, go_sem]; rfl)) (by first | (simp [part, go_sem]; done) | (simp [part, go_sem]; rfl)) (run_equalIn_int w _ _ _ _ _ _ Tryd.underlying3) ?_
  refine eqf_cons rfl (by first | (simp [part, go_sem]; done) | (simp [part, go_sem]; rfl)) (by first | (simp [part, go_sem]; done) | (simp [part, go_sem]; rfl)) (run_equalIn_string w _ _ _ _ Tryd.underlying9) ?_
  refine eqf_cons rfl (by first | (simp [part, go_sem]; done) | (simp [part, go_sem]; rfl)) (by first | (simp [part, go_sem]; done) | (simp [part, go_sem]; rfl)) (run_equalIn_int w _ _ _ _ _ _ Tryd.underlying3) ?_
  exact eqf_cons rfl (by first | (simp [part, go_sem]; done) | (simp [part, go_sem]; rfl)) (by first | (simp [part, go_sem]; done) | (simp [part, go_sem]; rfl)) (run_equalIn_bool' w _ _ _ _ Tryd.underlying4) eqf_nil
theorem entNe_run (x y : Ent) (w : World) : (binOp .neq 33 (.agg #[.int .i64 x.no, .int .i64 x.user, .string x.text, .int .i64 x.edits, .bool x.gone]) (.agg #[.int .i64 y.no, .int .i64 y.user, .string y.text, .int .i64 y.edits, .bool y.gone])).run Tryd.prog w = .ok (.bool (!decide (x = y))) w := by
  obtain ⟨fs, hu, h⟩ := entEq_fields x y w
  exact neq_of hu (by kernel_rfl) h
theorem entEq_run (x y : Ent) (w : World) : (binOp .eql 33 (.agg #[.int .i64 x.no, .int .i64 x.user, .string x.text, .int .i64 x.edits, .bool x.gone]) (.agg #[.int .i64 y.no, .int .i64 y.user, .string y.text, .int .i64 y.edits, .bool y.gone])).run Tryd.prog w = .ok (.bool (decide (x = y))) w := by
  obtain ⟨fs, hu, h⟩ := entEq_fields x y w
  exact eql_of hu (by kernel_rfl) h
end Go.Proofs.YtdpmfghlhgfhfaaDoor
