/- A slice of ops reads as ops. -/
import Derived.Test.YtdpmfghlhgfhfaaDoorRow
import Derived.Test.YtdpmfghlhgfhfaaDoorNumbers
set_option linter.unusedVariables false
set_option linter.unusedSimpArgs false
namespace Go.Proofs.YtdpmfghlhgfhfaaDoor
open Go.ChangeShapes Go.WideShapes Go.ChangeAt Go.RowKit Go.Deep Go.Joins Go.Shelf Go.Lib

def opAt (w : World) (a : Addr) (i : Nat) : OpL := ⟨gI (w.cell? (a.add (i * 5 + 0))), gI (w.cell? (a.add (i * 5 + 1))), gI (w.cell? (a.add (i * 5 + 2))), gI (w.cell? (a.add (i * 5 + 3))), gS (w.cell? (a.add (i * 5 + 4)))⟩
set_option maxRecDepth 100000 in
theorem open_ops {H : Type} {enc : TypeId × Value → H} {W : World} {base b0 : Nat} {sp : Nat → Bool} {held : Bool} {r : Reach} {v : Value} {d : DataW H} {p : List MemPlace} (hv : Value.okWide Tryd.prog W r b0 37 v)
    (h : DataW.Trod enc Tryd.prog W base sp held 37 v d p) : ∃ A n c l, v = .slice A n c ∧ RdO W A n l ∧ n ≤ c := by
  obtain ⟨a0, len0, cap0, rfl⟩ := okWide_slice Tryd.underlying37 hv
  obtain ⟨fuel, hf⟩ := h
  rcases open_slice_fields Tryd.underlying37 Tryd.underlying24 (by kernel_rfl) (by kernel_rfl) hf with ⟨hcs, _⟩ | ⟨a, len, cap, m, D, Pl, hcs, _, hl, hm, hmm, hx, hi⟩
  · simp [Value.cells] at hcs
    obtain ⟨rfl, rfl, rfl⟩ := hcs
    exact ⟨_, _, _, [], rfl, ⟨rfl, Reads.nil _⟩, Nat.le_refl _⟩
  · simp [Value.cells] at hcs
    obtain ⟨rfl, rfl, rfl⟩ := hcs
    have hfield : ∀ i, i < len0 → (∃ z, W.cell? (a.add (i * 5 + 0)) = some (.int .i64 z)) ∧ (∃ z, W.cell? (a.add (i * 5 + 1)) = some (.int .i64 z)) ∧ (∃ z, W.cell? (a.add (i * 5 + 2)) = some (.int .i64 z)) ∧
        (∃ z, W.cell? (a.add (i * 5 + 3)) = some (.int .i64 z)) ∧ (∃ z, W.cell? (a.add (i * 5 + 4)) = some (.string z)) := by
      intro i him
      obtain ⟨ys, n, _, _, _, hf⟩ := hi i (by rw [hmm]; split <;> omega)
      refine ⟨?_, ?_, ?_, ?_, ?_⟩
      · obtain ⟨v, y, h1, _, h3⟩ := hf 0 _ rfl
        obtain ⟨z, hz, _⟩ := DataW.trod_int Tryd.underlying3 h3
        exact ⟨z, by rw [← (List.cons.inj hz).1]; exact h1⟩
      · obtain ⟨v, y, h1, _, h3⟩ := hf 1 _ rfl
        obtain ⟨z, hz, _⟩ := DataW.trod_int Tryd.underlying3 h3
        exact ⟨z, by rw [← (List.cons.inj hz).1]; exact h1⟩
      · obtain ⟨v, y, h1, _, h3⟩ := hf 2 _ rfl
        obtain ⟨z, hz, _⟩ := DataW.trod_int Tryd.underlying3 h3
        exact ⟨z, by rw [← (List.cons.inj hz).1]; exact h1⟩
      · obtain ⟨v, y, h1, _, h3⟩ := hf 3 _ rfl
        obtain ⟨z, hz, _⟩ := DataW.trod_int Tryd.underlying3 h3
        exact ⟨z, by rw [← (List.cons.inj hz).1]; exact h1⟩
      · obtain ⟨v, y, h1, _, h3⟩ := hf 4 _ rfl
        obtain ⟨z, hz, _⟩ := DataW.trod_string Tryd.underlying9 h3
        exact ⟨z, by rw [← (List.cons.inj hz).1]; exact h1⟩
    refine ⟨_, _, _, (List.range len0).map (opAt W a), rfl, ⟨by simp, ?_, by simp only [maxLen] at *; omega, fun hn => ?_⟩, hl⟩
    · rw [encsO_length]; simp
    · obtain ⟨z, hz⟩ := (hfield 0 hn).1
      obtain ⟨b, o, spot⟩ := a
      have hsp : spot = Option.none := by
        have := cell_spot (b := b) (o := o + 0) (sp := spot) (by simpa [Addr.add] using hz)
        exact this
      subst hsp
      refine ⟨b, o, rfl, ?_, fun i u hu => ?_⟩
      · rw [add_none] at hz; exact block_lt hz
      · have hil : i < len0 * 5 := by
          have := (List.getElem?_eq_some_iff.1 hu).1
          rw [encsO_length] at this
          simpa using this
        have hd : i = i / 5 * 5 + i % 5 := by omega
        have hk : i / 5 < len0 := by omega
        rw [hd, show (encsO _)[i / 5 * 5 + i % 5]? = _ from flat_at _ 5 OpL.enc_length _ (i / 5) (i % 5) (by simpa using hk) (by omega)] at hu
        simp only [List.getElem_map, List.getElem_range] at hu
        rw [hd, ← add_none]
        obtain ⟨⟨z0, e0⟩, ⟨z1, e1⟩, ⟨z2, e2⟩, ⟨z3, e3⟩, ⟨z4, e4⟩⟩ := hfield (i / 5) hk
        have h5 : i % 5 < 5 := by omega
        generalize i % 5 = j at *
        simp only [OpL.enc, opAt, e0, e1, e2, e3, e4, gI, gS, gB] at hu
        match j, h5 with
        | 0, _ => rw [e0]; exact hu
        | 1, _ => rw [e1]; exact hu
        | 2, _ => rw [e2]; exact hu
        | 3, _ => rw [e3]; exact hu
        | 4, _ => rw [e4]; exact hu

end Go.Proofs.YtdpmfghlhgfhfaaDoor
