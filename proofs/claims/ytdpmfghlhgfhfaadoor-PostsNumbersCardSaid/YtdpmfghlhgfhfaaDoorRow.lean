/- The frame of the rows: what a slice of posts reads as; the tables; the witness's world. -/
import Derived.Test.YtdpmfghlhgfhfaaDoorTie
import Derived.Test.YtdpmfghlhgfhfaaDoorCards
import Derived.Test.YtdpmfghlhgfhfaaDoorDo
import Derived.ProofKit
import Derived.OpenShut
import Derived.LaidMore
import Derived.Lay
import Derived.Carry
import Derived.Lib.LaidU8T
import Derived.SevenTiedAt
import Derived.Stop.Joined
import Derived.Deep.Slices
import Derived.Deep.Fields
import Derived.ChangeSame
import Derived.Lib.SmallJoins
set_option linter.unusedVariables false
set_option linter.unusedSimpArgs false
namespace Go.Proofs.YtdpmfghlhgfhfaaDoor
open Go.ChangeShapes Go.WideShapes Go.ChangeAt Go.RowKit Go.Deep Go.Joins Go.Shelf Go.Lib

section
variable {H : Type} {enc : TypeId × Value → H} {P : Program} {w : World} {base : Nat} {spare : Nat → Bool} {held : Bool}
theorem open_slice_fields {t e : TypeId} {fs : Array Field} {fuel : Nat} {cs : List Value} {x : DataW H × List MemPlace} (ht : P.underlying t = some (.slice e)) (he : P.underlying e = some (.struct fs))
    (hone : oneCellFields P fs = true) (hC : P.cellsOf e = fs.size) (h : DataW.trod enc P w base spare held fuel t cs = some x) :
    (cs = [.slice none 0 0] ∧ x = (.nil, [])) ∨
    ∃ (a : Addr) (len cap m : Nat) (D : Nat → DataW H) (Pl : Nat → List MemPlace), cs = [.slice (some a) len cap] ∧ base ≤ a.block ∧ len ≤ cap ∧ cap ≤ maxLen ∧ m = (if spare a.block then cap else len) ∧
      x = (.slice ((List.range len).map D) ((List.range (m - len)).map fun j => D (len + j)), MemPlace.row a (m * fs.size) ++ (List.range m).flatMap Pl) ∧
      ∀ i, i < m → ∃ (ys : List (DataW H × List MemPlace)) (n : Nat), D i = .agg (ys.map (·.1)) ∧ Pl i = ys.flatMap (·.2) ∧ ys.length = fs.size ∧
        ∀ (j : Nat) (f : Field), fs[j]? = some f → ∃ (v : Value) (y : DataW H × List MemPlace), w.cell? (a.add (i * fs.size + j)) = some v ∧ ys[j]? = some y ∧ DataW.trod enc P w base spare held n f.type [v] = some y := by
  rcases open_slice ht h with h0 | ⟨a, len, cap, m, n, D, Pl, hcs, hb, hl, hm, hmm, hx, hi⟩
  · exact .inl h0
  · refine .inr ⟨a, len, cap, m, D, Pl, hcs, hb, hl, hm, hmm, by rw [hC] at hx; exact hx, fun i him => ?_⟩
    obtain ⟨cs', hc, ht'⟩ := hi i him
    rw [hC] at hc
    obtain ⟨ys, n', hn', hy, hlen, hyl, hf⟩ := DataW.trod_struct he ht'
    obtain ⟨_, hcl, hat⟩ := World.cells?_some hc
    simp only [Prod.mk.injEq] at hy
    refine ⟨ys, n', hy.1, hy.2, hyl, fun j f hj => ?_⟩
    obtain ⟨ho, hk⟩ := hone_of hone j f hj
    have hjl : j < fs.size := (Array.getElem?_eq_some_iff.1 hj).1
    have hcell := hat j hjl
    have hv : cs'[j]? = some (cs'[j]'(by omega)) := List.getElem?_eq_getElem (by omega)
    have h1 := hf j f hj
    rw [ho, hk] at h1
    have hone' : (cs'.drop j).take 1 = [cs'[j]'(by omega)] := by
      rw [List.drop_eq_getElem_cons (by omega)]
      rfl
    rw [hone'] at h1
    have hys : ys[j]? = some (ys[j]'(by omega)) := List.getElem?_eq_getElem (by omega)
    refine ⟨_, _, ?_, hys, h1.trans hys⟩
    rw [← Go.Deep.add_add, hcell, hv]
end

section
variable {H : Type} {enc : TypeId × Value → H} {P : Program} {w : World} {base : Nat} {spare : Nat → Bool} {held : Bool}
theorem open_agg5 {r : Reach} {b0 : Nat} {t : TypeId} {f0 f1 f2 f3 f4 : Field} {v : Value} {d : DataW H} {p : List MemPlace} (hs : P.underlying t = some (.struct #[f0, f1, f2, f3, f4])) (hone : oneCellFields P #[f0, f1, f2, f3, f4] = true) (hC : P.cellsOf t = 5)
    (hv : Value.okWide P w r b0 t v) (h : DataW.Trod enc P w base spare held t v d p) :
    ∃ (v0 v1 v2 v3 v4 : Value) (y0 y1 y2 y3 y4 : DataW H × List MemPlace) (n : Nat), v = .agg #[v0, v1, v2, v3, v4] ∧ d = .agg [y0.1, y1.1, y2.1, y3.1, y4.1] ∧ p = y0.2 ++ (y1.2 ++ (y2.2 ++ (y3.2 ++ y4.2))) ∧
      DataW.trod enc P w base spare held n f0.type [v0] = some y0 ∧ DataW.trod enc P w base spare held n f1.type [v1] = some y1 ∧ DataW.trod enc P w base spare held n f2.type [v2] = some y2 ∧ DataW.trod enc P w base spare held n f3.type [v3] = some y3 ∧ DataW.trod enc P w base spare held n f4.type [v4] = some y4 := by
  obtain ⟨cs, rfl, hsz⟩ := okWide_struct hs hv
  obtain ⟨l⟩ := cs
  match l, hsz.trans hC with
  | [c0, c1, c2, c3, c4], _ =>
    obtain ⟨fuel, hf⟩ := h
    obtain ⟨xs, n, _, hx, _, hlen, hg⟩ := DataW.trod_struct hs hf
    obtain ⟨o0, k0⟩ := hone_of hone 0 f0 rfl
    obtain ⟨o1, k1⟩ := hone_of hone 1 f1 rfl
    obtain ⟨o2, k2⟩ := hone_of hone 2 f2 rfl
    obtain ⟨o3, k3⟩ := hone_of hone 3 f3 rfl
    obtain ⟨o4, k4⟩ := hone_of hone 4 f4 rfl
    match xs, hlen with
    | [y0, y1, y2, y3, y4], _ =>
      simp only [Prod.mk.injEq] at hx
      exact ⟨c0, c1, c2, c3, c4, y0, y1, y2, y3, y4, n, rfl, by simpa using hx.1, by simpa using hx.2, by simpa [Value.cells, o0, k0] using hg 0 f0 rfl, by simpa [Value.cells, o1, k1] using hg 1 f1 rfl, by simpa [Value.cells, o2, k2] using hg 2 f2 rfl, by simpa [Value.cells, o3, k3] using hg 3 f3 rfl, by simpa [Value.cells, o4, k4] using hg 4 f4 rfl⟩

end

theorem own : ownKnob Tryd.prog.godebug = Option.none := by kernel_rfl
theorem laidOut : laidOutB Tryd.prog = true := by kernel_rfl

theorem trodAll_below {H : Type} {enc : TypeId × Value → H} {P : Program} (hlo : laidOutB P = true) {W W' : World} (hb : Below W.heap.size W W') {ts : List TypeId} : ∀ {vs : List Value} {ds : List (DataW H)} {p : List MemPlace}, (∀ t ∈ ts, P.readableRec t = true ∧ t < P.types.size) →
    DataW.TrodAll enc P W 0 (fun _ => true) true ts vs ds p → (∀ x ∈ p, x.block < W.heap.size) → DataW.TrodAll enc P W' 0 (fun b => decide (b < W.heap.size)) true ts vs ds p := by
  induction ts with
  | nil =>
    intro vs ds p _ h _
    obtain ⟨rfl, rfl, rfl⟩ := trodAll_nil h
    exact rfl
  | cons t ts ih =>
    intro vs ds p hall h hlt
    obtain ⟨v, vs, d, ds, p, q, rfl, rfl, rfl, h1, h2⟩ := trodAll_cons h
    obtain ⟨ht1, ht2⟩ := hall t (List.mem_cons_self ..)
    exact ⟨p, q, Below.trod hlo ht1 ht2 h1 hb (fun x hx => hlt x (List.mem_append_left _ hx)), ih (fun u hu => hall u (List.mem_cons_of_mem _ hu)) h2 (fun x hx => hlt x (List.mem_append_right _ hx)), rfl⟩

/-! ### a slice of posts -/
def gI : Option Value → Int
  | some (.int _ z) => z
  | _ => 0
def gS : Option Value → ByteArray
  | some (.string s) => s
  | _ => ⟨#[]⟩
def gB : Option Value → Bool
  | some (.bool b) => b
  | _ => false
def entAt (w : World) (a : Addr) (i : Nat) : Ent := ⟨gI (w.cell? (a.add (i * 5 + 0))), gI (w.cell? (a.add (i * 5 + 1))), gS (w.cell? (a.add (i * 5 + 2))), gI (w.cell? (a.add (i * 5 + 3))), gB (w.cell? (a.add (i * 5 + 4)))⟩
set_option maxRecDepth 100000 in
theorem open_entries {H : Type} {enc : TypeId × Value → H} {W : World} {base b0 : Nat} {sp : Nat → Bool} {held : Bool} {r : Reach} {v : Value} {d : DataW H} {p : List MemPlace} (hv : Value.okWide Tryd.prog W r b0 22 v)
    (h : DataW.Trod enc Tryd.prog W base sp held 22 v d p) : ∃ A n c l, v = .slice A n c ∧ RdE W A n l ∧ n ≤ c := by
  obtain ⟨a0, len0, cap0, rfl⟩ := okWide_slice Tryd.underlying22 hv
  obtain ⟨fuel, hf⟩ := h
  rcases open_slice_fields Tryd.underlying22 Tryd.underlying33 (by kernel_rfl) (by kernel_rfl) hf with ⟨hcs, _⟩ | ⟨a, len, cap, m, D, Pl, hcs, _, hl, hm, hmm, hx, hi⟩
  · simp [Value.cells] at hcs
    obtain ⟨rfl, rfl, rfl⟩ := hcs
    exact ⟨_, _, _, [], rfl, ⟨rfl, Reads.nil _⟩, Nat.le_refl _⟩
  · simp [Value.cells] at hcs
    obtain ⟨rfl, rfl, rfl⟩ := hcs
    have hfield : ∀ i, i < len0 → (∃ z, W.cell? (a.add (i * 5 + 0)) = some (.int .i64 z)) ∧ (∃ z, W.cell? (a.add (i * 5 + 1)) = some (.int .i64 z)) ∧ (∃ z, W.cell? (a.add (i * 5 + 2)) = some (.string z)) ∧
        (∃ z, W.cell? (a.add (i * 5 + 3)) = some (.int .i64 z)) ∧ (∃ z, W.cell? (a.add (i * 5 + 4)) = some (.bool z)) := by
      intro i him
      obtain ⟨ys, n, _, _, _, hf⟩ := hi i (by rw [hmm]; split <;> omega)
      refine ⟨?_, ?_, ?_, ?_, ?_⟩
      · obtain ⟨v, y, h1, _, h3⟩ := hf 0 _ rfl
        obtain ⟨z, hz, _⟩ := DataW.trod_int Tryd.underlying3 h3
        exact ⟨z, by rw [← (List.cons.inj hz).1]; exact h1⟩
      · obtain ⟨v, y, h1, _, h3⟩ := hf 1 _ rfl
        obtain ⟨z, hz, _⟩ := DataW.trod_int Tryd.underlying3 h3
        exact ⟨z, by rw [← (List.cons.inj hz).1]; exact h1⟩
      · obtain ⟨v, y, h1, _, h3⟩ := hf 2 _ rfl
        obtain ⟨z, hz, _⟩ := DataW.trod_string Tryd.underlying9 h3
        exact ⟨z, by rw [← (List.cons.inj hz).1]; exact h1⟩
      · obtain ⟨v, y, h1, _, h3⟩ := hf 3 _ rfl
        obtain ⟨z, hz, _⟩ := DataW.trod_int Tryd.underlying3 h3
        exact ⟨z, by rw [← (List.cons.inj hz).1]; exact h1⟩
      · obtain ⟨v, y, h1, _, h3⟩ := hf 4 _ rfl
        obtain ⟨z, hz, _⟩ := DataW.trod_bool Tryd.underlying4 h3
        exact ⟨z, by rw [← (List.cons.inj hz).1]; exact h1⟩
    refine ⟨_, _, _, (List.range len0).map (entAt W a), rfl, ⟨by simp, ?_, by simp only [maxLen] at *; omega, fun hn => ?_⟩, hl⟩
    · rw [encs_length]; simp
    · obtain ⟨z, hz⟩ := (hfield 0 hn).1
      obtain ⟨b, o, spot⟩ := a
      have hsp : spot = Option.none := by
        have := cell_spot (b := b) (o := o + 0) (sp := spot) (by simpa [Addr.add] using hz)
        exact this
      subst hsp
      refine ⟨b, o, rfl, ?_, fun i u hu => ?_⟩
      · rw [add_none] at hz; exact block_lt hz
      · have hil : i < len0 * 5 := by
          have := (List.getElem?_eq_some_iff.1 hu).1
          rw [encs_length] at this
          simpa using this
        have hd : i = i / 5 * 5 + i % 5 := by omega
        have hk : i / 5 < len0 := by omega
        rw [hd, encs_get _ (i / 5) (by simpa using hk) (i % 5) (by omega)] at hu
        simp only [List.getElem_map, List.getElem_range] at hu
        rw [hd, ← add_none]
        obtain ⟨⟨z0, e0⟩, ⟨z1, e1⟩, ⟨z2, e2⟩, ⟨z3, e3⟩, ⟨z4, e4⟩⟩ := hfield (i / 5) hk
        have h5 : i % 5 < 5 := by omega
        generalize i % 5 = j at *
        simp only [Ent.enc, entAt, e0, e1, e2, e3, e4, gI, gS, gB] at hu
        match j, h5 with
        | 0, _ => rw [e0]; exact hu
        | 1, _ => rw [e1]; exact hu
        | 2, _ => rw [e2]; exact hu
        | 3, _ => rw [e3]; exact hu
        | 4, _ => rw [e4]; exact hu

theorem open_op {H : Type} {enc : TypeId × Value → H} {W : World} {base b0 : Nat} {sp : Nat → Bool} {held : Bool} {r : Reach} {v : Value} {d : DataW H} {p : List MemPlace} (hv : Value.okWide Tryd.prog W r b0 24 v)
    (h : DataW.Trod enc Tryd.prog W base sp held 24 v d p) : ∃ o : OpL, v = o.val := by
  obtain ⟨v0, v1, v2, v3, v4, y0, y1, y2, y3, y4, n, rfl, _, _, h0, h1, h2, h3, h4⟩ := open_agg5 Tryd.underlying24 (by kernel_rfl) (by kernel_rfl) hv h
  obtain ⟨z0, e0, _⟩ := DataW.trod_int Tryd.underlying3 h0
  obtain ⟨z1, e1, _⟩ := DataW.trod_int Tryd.underlying3 h1
  obtain ⟨z2, e2, _⟩ := DataW.trod_int Tryd.underlying3 h2
  obtain ⟨z3, e3, _⟩ := DataW.trod_int Tryd.underlying3 h3
  obtain ⟨z4, e4, _⟩ := DataW.trod_string Tryd.underlying9 h4
  obtain rfl := (List.cons.inj e0).1
  obtain rfl := (List.cons.inj e1).1
  obtain rfl := (List.cons.inj e2).1
  obtain rfl := (List.cons.inj e3).1
  obtain rfl := (List.cons.inj e4).1
  exact ⟨⟨z0, z1, z2, z3, z4⟩, rfl⟩
theorem trodAll_five {H : Type} {enc : TypeId × Value → H} {P : Program} {w : World} {base : Nat} {spare : Nat → Bool} {held : Bool} {t0 t1 t2 t3 t4 : TypeId} {args : Array Value} {ds : List (DataW H)} {ps : List MemPlace} (h : DataW.TrodAll enc P w base spare held [t0, t1, t2, t3, t4] args.toList ds ps) :
    ∃ v0 v1 v2 v3 v4 d0 d1 d2 d3 d4 p0 p1 p2 p3 p4, args = #[v0, v1, v2, v3, v4] ∧ ds = [d0, d1, d2, d3, d4] ∧ ps = p0 ++ (p1 ++ (p2 ++ (p3 ++ p4))) ∧ DataW.Trod enc P w base spare held t0 v0 d0 p0 ∧ DataW.Trod enc P w base spare held t1 v1 d1 p1 ∧
      DataW.Trod enc P w base spare held t2 v2 d2 p2 ∧ DataW.Trod enc P w base spare held t3 v3 d3 p3 ∧ DataW.Trod enc P w base spare held t4 v4 d4 p4 := by
  obtain ⟨v0, vs0, d0, ds0, p0, q0, ha, rfl, rfl, h0, r0⟩ := trodAll_cons h
  obtain ⟨v1, vs1, d1, ds1, p1, q1, rfl, rfl, rfl, h1, r1⟩ := trodAll_cons r0
  obtain ⟨v2, vs2, d2, ds2, p2, q2, rfl, rfl, rfl, h2, r2⟩ := trodAll_cons r1
  obtain ⟨v3, vs3, d3, ds3, p3, q3, rfl, rfl, rfl, h3, r3⟩ := trodAll_cons r2
  obtain ⟨v4, vs4, d4, ds4, p4, q4, rfl, rfl, rfl, h4, r4⟩ := trodAll_cons r3
  obtain ⟨rfl, rfl, rfl⟩ := trodAll_nil r4
  exact ⟨v0, v1, v2, v3, v4, d0, d1, d2, d3, d4, p0, p1, p2, p3, p4, by cases args; simp_all, rfl, by simp, h0, h1, h2, h3, h4⟩

/-! ### the tables -/
set_option maxRecDepth 100000 in
theorem tabs_of_laid {W : World} (h : laidMetH Tryd.prog [("unicode/utf8.acceptRanges", Rows.laid_unicode_utf8_acceptRanges), ("unicode/utf8.first", Rows.laid_unicode_utf8_first)] W) : Tabs W := by
  rw [MakeChecks.laidMetH_plain _ _ _ (by kernel_rfl)] at h
  have h1 := Lib.laidMet.reads h (.head _)
  have h2 := Lib.laidMet.reads h (.tail _ (.head _))
  rw [show Rows.laid_unicode_utf8_acceptRanges (H := Unit) = Lib.acceptData by kernel_rfl] at h1
  rw [show Rows.laid_unicode_utf8_first = Lib.firstData by kernel_rfl] at h2
  exact utf8Tabs_of_readsT (U8Types.of196 Tryd.laysValid) ⟨by kernel_rfl, by kernel_rfl, by kernel_rfl, by kernel_rfl, by kernel_rfl, by kernel_rfl, by kernel_rfl⟩ h2 h1
end Go.Proofs.YtdpmfghlhgfhfaaDoor
