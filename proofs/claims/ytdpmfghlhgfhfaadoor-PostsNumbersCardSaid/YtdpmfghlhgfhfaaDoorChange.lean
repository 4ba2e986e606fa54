/- posts.change: a post of a number is handed to a function, which may change it. -/
import Derived.Test.YtdpmfghlhgfhfaaDoorIter
import Derived.Shelf.RegionOpen
set_option linter.unusedVariables false
set_option linter.unusedSimpArgs false
namespace Go.Proofs.YtdpmfghlhgfhfaaDoor
open Go.RowKit

attribute [local go_sem] Oper.semAt_some

/-! ### plain: the first post that comes -/
theorem ys_mem {fr : Int} : ∀ {l : List Ent} {k : Nat} {p : Nat × Ent}, p ∈ ys fr k l → k ≤ p.1 ∧ ∃ h : p.1 - k < l.length, l[p.1 - k] = p.2 ∧ p.2.gone = false ∧ fr ≤ p.2.no
  | [], k, p, h => by cases h
  | x :: t, k, p, h => by
    simp only [ys] at h
    have rec_ : p ∈ ys fr (k + 1) t → k ≤ p.1 ∧ ∃ h : p.1 - k < (x :: t).length, (x :: t)[p.1 - k] = p.2 ∧ p.2.gone = false ∧ fr ≤ p.2.no := fun h => by
      obtain ⟨h1, h2, h3, h4, h5⟩ := ys_mem h
      refine ⟨by omega, by simp; omega, ?_, h4, h5⟩
      have e : p.1 - k = (p.1 - (k + 1)) + 1 := by omega
      simp only [e, List.getElem_cons_succ]
      exact h3
    split at h
    · rename_i hx
      rcases List.mem_cons.1 h with rfl | h
      · exact ⟨Nat.le_refl _, by simp, by simp, hx.1, hx.2⟩
      · exact rec_ h
    · exact rec_ h
theorem YE.spec {fr : Int} {m : List Ent} (x : YE fr m) : ∃ h : x.1.1 < m.length, m[x.1.1] = x.1.2 ∧ x.1.2.gone = false ∧ fr ≤ x.1.2.no := by
  obtain ⟨_, h, h1, h2, h3⟩ := ys_mem x.2
  exact ⟨h, h1, h2, h3⟩
theorem okFrom_next : ∀ {l : List Ent} {p : Option Int}, okFrom p l = true → ∀ (i : Nat) (h : i + 1 < l.length), l[i + 1].no = l[i].no + 1
  | [], _, _, i, h => by simp at h
  | [x], _, _, i, h => by simp at h
  | x :: y :: t, p, hk, i, h => by
    simp only [okFrom, Bool.and_eq_true] at hk
    cases i with
    | zero => simpa using hk.2.1.2
    | succ i =>
      have : okFrom (some x.no) (y :: t) = true := by simp only [okFrom, Bool.and_eq_true]; exact hk.2
      exact okFrom_next this i (by simpa using h)
theorem okFrom_no {l : List Ent} {p : Option Int} (hk : okFrom p l = true) (i : Nat) : ∀ (d : Nat) (h : i + d < l.length), l[i + d].no = l[i].no + d
  | 0, h => by simp
  | d + 1, h => by
    have h1 := okFrom_no hk i d (by omega)
    have h2 := okFrom_next hk (i + d) (by omega)
    have : l[i + (d + 1)].no = l[i + d + 1].no := rfl
    rw [this, h2, h1]
    simp
    omega
theorem fairL_ok (l : List Ent) : okFrom none (fairL l) = true := by
  unfold fairL
  split
  · rename_i h
    simp only [mayL, Bool.and_eq_true] at h
    exact h.1
  · rfl
theorem ys_head {fr : Int} : ∀ (l : List Ent) (k : Nat), (ys fr k l = [] ∧ ∀ x ∈ l, ¬ (x.gone = false ∧ fr ≤ x.no)) ∨
    ∃ i x rest, ∃ h : i < l.length, ys fr k l = (k + i, x) :: rest ∧ l[i] = x ∧ ∀ j (hj : j < i), ¬ (l[j].gone = false ∧ fr ≤ l[j].no)
  | [], k => .inl ⟨rfl, by simp⟩
  | x :: t, k => by
    by_cases hx : x.gone = false ∧ fr ≤ x.no
    · exact .inr ⟨0, x, ys fr (k + 1) t, by simp, by simp only [ys, if_pos hx]; rfl, rfl, by intros; omega⟩
    · rcases ys_head (fr := fr) t (k + 1) with ⟨h1, h2⟩ | ⟨i, y, rest, hi, h1, h2, h3⟩
      · refine .inl ⟨by simp only [ys, if_neg hx, h1], ?_⟩
        intro y hy
        rcases List.mem_cons.1 hy with rfl | hy
        · exact hx
        · exact h2 y hy
      · refine .inr ⟨i + 1, y, rest, by simpa using hi, by simp only [ys, if_neg hx, h1]; congr 2; omega, by simpa using h2, ?_⟩
        intro j hj
        cases j with
        | zero => exact hx
        | succ j => exact h3 j (by omega)
/-- Who comes first, if anyone does, is the one of the number, or there is none of it. -/
theorem first_at {m : List Ent} (hk : okFrom none m = true) (no : Int) :
    (∀ x : YE no m, [x.1] <+: ys no 0 m → x.1.2.no = no → atI m no = (x.1.1 : Int)) ∧
    (∀ x : YE no m, [x.1] <+: ys no 0 m → x.1.2.no ≠ no → atI m no = -1) ∧ (ys no 0 m = [] → atI m no = -1) := by
  rcases atFrom_spec no m 0 with ⟨h1, h2⟩ | ⟨i, hi, h1, h2, h3, h4⟩
  · refine ⟨fun x hx hn => ?_, fun _ _ _ => h1, fun _ => h1⟩
    obtain ⟨hl, e, hg, _⟩ := x.spec
    exact absurd ⟨hn, hg⟩ (h2 x.1.2 (e ▸ List.getElem_mem hl))
  · have hat : atI m no = (i : Int) := by rw [atI, h1]; simp
    have key : ∀ x : YE no m, [x.1] <+: ys no 0 m → x.1.1 = i := by
      intro x hx
      rcases ys_head (fr := no) m 0 with ⟨e, _⟩ | ⟨j, y, rest, hj, e, ey, hb⟩
      · obtain ⟨t, ht⟩ := hx
        have := ht.trans e
        simp at this
      · have hxy : x.1 = (0 + j, y) := by
          obtain ⟨t, ht⟩ := hx
          have ht2 := ht.trans e
          simp only [List.cons_append, List.nil_append, List.cons.injEq] at ht2
          exact ht2.1
        have hxj : x.1.1 = j := by rw [hxy]; simp
        obtain ⟨hl, ex, hg, hle⟩ := x.spec
        rw [hxj]
        have hij : ¬ i < j := fun h => hb i h ⟨h3, by omega⟩
        have hji : ¬ j < i := fun h => by
          have hd := okFrom_no hk j (i - j) (by omega)
          have e1 : j + (i - j) = i := by omega
          simp only [e1] at hd
          have e2 : m[j].no = x.1.2.no := by rw [← ex]; simp only [hxj]
          omega
        omega
    refine ⟨fun x hx _ => by rw [hat, key x hx], fun x hx hn => ?_, fun h => ?_⟩
    · exfalso
      have hxi := key x hx
      obtain ⟨hl, ex, _⟩ := x.spec
      apply hn
      rw [← ex]
      simp only [hxi, h2]
    · exfalso
      rcases ys_head (fr := no) m 0 with ⟨_, hb⟩ | ⟨j, y, rest, hj, e, _⟩
      · exact hb m[i] (List.getElem_mem hi) ⟨h3, by omega⟩
      · rw [h] at e; cases e
/-! ### the walk -/
/-- What lies in memory while a post is looked for. -/
def ChI (w : World) (no : Int) (dov v : Value) (m : List Ent) (W : World) : Prop :=
  (Boxed W w.heap.size 22 v ∧ Boxed W (w.heap.size + 1) 3 (.int .i64 no) ∧ Boxed W (w.heap.size + 2) 55 dov ∧
    Boxed W (w.heap.size + 3) 22 (.slice none 0 0) ∧ Boxed W (w.heap.size + 4) 27 (.int .i64 0) ∧ W.ownsRow (w.heap.size + 5) 33 5 v m.length (encs m)) ∧ Below w.heap.size w W
theorem own_noncells {W W' : World} {base : Nat} {e : TypeId} {size n : Nat} {v : Value} {cs : List Value} {row : Option Nat} (h : W.ownsRow base e size v n cs) (hg : W.grownBy W' row)
    (hr : ∀ r, row = some r → ∃ o : Obj, W.heap[r]? = some o ∧ o.isCells = false) : W'.ownsRow base e size v n cs := by
  refine h.kept hg ?_
  rcases h.2 with ⟨rfl, _⟩ | ⟨g, cap, cur, rfl, _, hgb, _⟩
  · exact .inl rfl
  · refine .inr fun e' => ?_
    obtain ⟨o, ho, hc⟩ := hr g (by simpa [Value.ownBlock] using e'.symm)
    rw [hgb] at ho; cases ho; cases hc
theorem boxed_noncells {W W' : World} {B : Nat} {t : TypeId} {v : Value} {row : Option Nat} (h : Boxed W B t v) (hg : W.grownBy W' row)
    (hr : ∀ r, row = some r → ∃ o : Obj, W.heap[r]? = some o ∧ o.isCells = false) : Boxed W' B t v :=
  h.kept hg fun e' => by obtain ⟨o, ho, hc⟩ := hr B e'.symm; rw [show W.heap[B]? = _ from h] at ho; cases ho; cases hc
theorem ChI.grown {w : World} {no : Int} {dov v : Value} {m : List Ent} {W W' : World} {row : Option Nat} (h : ChI w no dov v m W) (hg : W.grownBy W' row)
    (hr : ∀ r, row = some r → w.heap.size ≤ r ∧ ∃ o : Obj, W.heap[r]? = some o ∧ o.isCells = false) : ChI w no dov v m W' := by
  obtain ⟨⟨h1, h2, h3, h4, h5, h6⟩, hb⟩ := h
  have hr' := fun r e => (hr r e).2
  exact ⟨⟨boxed_noncells h1 hg hr', boxed_noncells h2 hg hr', boxed_noncells h3 hg hr', boxed_noncells h4 hg hr', boxed_noncells h5 hg hr', own_noncells h6 hg hr'⟩, hb.grown hg hb.size (fun k e => (hr k e).1)⟩
theorem ChI.alloc {w : World} {no : Int} {dov v : Value} {m : List Ent} {W : World} (h : ChI w no dov v m W) (o : Obj) : ChI w no dov v m (W.alloc o) :=
  h.grown (World.grownBy_alloc W o none) (fun r e => by cases e)
/-- What a post's function may do, and what lies behind it: 'RD g cap i r Wd W''. -/
structure DoOk (w : World) (m : List Ent) (gd : Nat) (caps : Array Value) (RD : Nat → Nat → Nat → Int → World → World → Prop) : Prop where
  calls : ∀ (Wd : World) (g cap i : Nat) (hi : i < m.length), Wd.ownsRow (w.heap.size + 5) 33 5 (.slice (some ⟨g, 0, none⟩) m.length cap) m.length (encs m) → Below w.heap.size w Wd →
    Calls Tryd.prog gd (#[.pointer (some ⟨g, i * 5, none⟩)] ++ caps) Wd fun e W' => ∃ r, e = .returned (.int .i64 r) ∧ RD g cap i r Wd W'
  keeps : ∀ {g cap i r Wd W'}, RD g cap i r Wd W' → Wd.heap.size ≤ W'.heap.size ∧ ∀ k, w.heap.size ≤ k → k < Wd.heap.size → k ≠ g → W'.heap[k]? = Wd.heap[k]?
/-- Behind the function no more is done than to turn blocks of one's own. -/
def After (h g : Nat) (W W' : World) : Prop := W'.os = W.os ∧ W'.tape = W.tape ∧ W'.output = W.output ∧ W.heap.size ≤ W'.heap.size ∧ ∀ k, (k < h ∨ k = g) → W'.heap[k]? = W.heap[k]?
def ChangeR (w : World) (m : List Ent) (no : Int) (RD : Nat → Nat → Nat → Int → World → World → Prop) (e : Ending) (w' : World) : Prop :=
  (atI m no = -1 ∧ e = .returned (.tuple #[.slice none 0 0, .int .i64 5]) ∧ Below w.heap.size w w') ∨
  (∃ (i g cap : Nat) (r : Int) (Wd W' : World), atI m no = (i : Int) ∧ i < m.length ∧ Below w.heap.size w Wd ∧ Wd.ownsRow (w.heap.size + 5) 33 5 (.slice (some ⟨g, 0, none⟩) m.length cap) m.length (encs m) ∧
    RD g cap i r Wd W' ∧ After w.heap.size g W' w' ∧ e = .returned (.tuple #[if r = 0 then .slice (some ⟨g, 0, none⟩) m.length cap else .slice none 0 0, .int .i64 r]))

theorem entersIter : ∀ args w, (callFunc 41 args).run Tryd.prog w = .ok (.enter 41 args) w := enters_of Tryd.func41 (by kernel_rfl) rfl

theorem gcells_of {W : World} {base : Nat} {e : TypeId} {size n g cap : Nat} {v : Value} {cs : List Value} (h : W.ownsRow base e size v n cs) (hv : v = .slice (some ⟨g, 0, none⟩) n cap) (hn : 0 < n) :
    ∃ o : Obj, W.heap[g]? = some o ∧ o.isCells = true := by
  rcases h.2 with ⟨rfl, _⟩ | ⟨g', cap', cur, rfl, _, hgb, _⟩
  · cases hv
  · cases hv; exact ⟨_, hgb, rfl⟩
theorem change_end {w W w' : World} {m : List Ent} {gd : Nat} {caps : Array Value} {RD : Nat → Nat → Nat → Int → World → World → Prop} {g cap i B : Nat} {r : Int} {u3 u4 v e : Value}
    (hdo : DoOk w m gd caps RD) (hRD : RD g cap i r W.drew w') (hB : w.heap.size + 5 ≤ B) (hg5 : w.heap.size + 5 ≤ g) (hgc : ∃ o : Obj, W.heap[g]? = some o ∧ o.isCells = true)
    (d3 : Boxed w' (w.heap.size + 3) 22 u3) (d4 : Boxed w' (w.heap.size + 4) 27 u4) {Wf : World}
    (hf : Wf = (w'.setCell ⟨w.heap.size + 3, 0, none⟩ v).setCell ⟨w.heap.size + 4, 0, none⟩ e) :
    KeepsFrom B W Wf ∧ After w.heap.size g w' Wf ∧ g < Wf.heap.size ∧ Boxed Wf (w.heap.size + 3) 22 v ∧ Boxed Wf (w.heap.size + 4) 27 e := by
  obtain ⟨hk1, hk2⟩ := hdo.keeps hRD
  have hs : Wf.heap.size = w'.heap.size := by rw [hf]; simp [World.size_setCell]
  have hd : W.drew.heap.size = W.heap.size := rfl
  obtain ⟨o, ho, hoc⟩ := hgc
  have hgl : g < W.heap.size := (Array.getElem?_eq_some_iff.1 ho).1
  have hb : ∀ k, k < w'.heap.size → k ≠ w.heap.size + 3 → k ≠ w.heap.size + 4 → Wf.heap[k]? = w'.heap[k]? := fun k hk h3 h4 => by
    rw [hf]
    exact (Below.heap_setCell _ _ _ _ (by show k ≠ _; simp; omega)).trans (Below.heap_setCell _ _ _ _ (by show k ≠ _; simp; omega))
  refine ⟨⟨by omega, fun k o' hkB hk hno => ?_⟩, ⟨by rw [hf]; rfl, by rw [hf]; rfl, by rw [hf]; rfl, by omega, fun k hk => ?_⟩, by omega, ?_, ?_⟩
  · have hkl : k < W.heap.size := (Array.getElem?_eq_some_iff.1 hk).1
    have hkg : k ≠ g := fun e' => by subst e'; rw [ho] at hk; cases hk; rw [hoc] at hno; cases hno
    rw [hb k (by omega) (by omega) (by omega), hk2 k (by omega) (by omega) hkg]
    exact hk
  · refine hb k ?_ ?_ ?_ <;> omega
  · rw [hf]; exact (d3.set v).kept (grownBy_setCell' _ _ _) (by simp)
  · rw [hf]; exact (d4.kept (grownBy_setCell' _ _ _) (by simp)).set e

theorem change_none {w W W' : World} {no : Int} {dov v : Value} {m : List Ent} {RD : Nat → Nat → Nat → Int → World → World → Prop} {D : Nat} {T : Array Value} {a : Act} (hn : atI m no = -1) (hI : ChI w no dov v m W)
    (hD : w.heap.size + 5 ≤ D) (hK : W.heap[D]? = some (.deferred (some [])))
    (hW' : W' = (W.setCell ⟨w.heap.size + 1 + 1 + 1, 0, none⟩ (.slice none 0 0)).setCell ⟨w.heap.size + 1 + 1 + 1 + 1, 0, none⟩ (.int .i64 5)) (ha : a = { tmps := T, defers := [{ target := .collected D, args := #[] }] })
    (hT : (T[6]?, T[7]?) = (some (.pointer (some ⟨w.heap.size + 1 + 1 + 1, 0, none⟩)), some (.pointer (some ⟨w.heap.size + 1 + 1 + 1 + 1, 0, none⟩)))) :
    bodyPostM Fence.wide 9 Tryd.prog Tryd.f31 (ChangeR w m no RD) .ret a W' := by
  subst ha
  have hb3 : w.heap.size + 3 < W.heap.size := block_lt hI.1.2.2.2.1.cell
  have hK' : W'.heap[D]? = some (.deferred (some [])) := by
    rw [hW']
    exact ((Below.heap_setCell _ _ _ _ (by show D ≠ _; simp; omega)).trans (Below.heap_setCell _ _ _ _ (by show D ≠ _; simp; omega))).trans hK
  refine ⟨by simp, .inl ⟨_, _, rfl, run_takeDeferred hK', ?_⟩⟩
  have d3 : Boxed W' (w.heap.size + 3) 22 (.slice none 0 0) := by rw [hW']; exact (hI.1.2.2.2.1.set _).kept (grownBy_setCell' _ _ _) (by simp)
  have d4 : Boxed W' (w.heap.size + 4) 27 (.int .i64 5) := by rw [hW']; exact (hI.1.2.2.2.2.1.kept (grownBy_setCell' _ _ _) (by simp)).set _
  have hc3 := cell_kept d3.cell (grownBy_putObj' _ D (.deferred none)) (fun r e => by cases e; exact ⟨_, hK', rfl⟩)
  have hc4 := cell_kept d4.cell (grownBy_putObj' _ D (.deferred none)) (fun r e => by cases e; exact ⟨_, hK', rfl⟩)
  simp only [Prod.mk.injEq] at hT
  refine ⟨.tuple #[.slice none 0 0, .int .i64 5], by simp [results, Tryd.f31, go_sem, hc3, hc4, hT.1, hT.2], .inl ⟨hn, rfl, ?_⟩⟩
  have hb : Below w.heap.size w W' := by
    rw [hW']
    exact (hI.2.setCell (p := ⟨w.heap.size + 1 + 1 + 1, 0, none⟩) (by show _ ≤ w.heap.size + 1 + 1 + 1; omega) _).setCell (p := ⟨w.heap.size + 1 + 1 + 1 + 1, 0, none⟩) (by show _ ≤ w.heap.size + 1 + 1 + 1 + 1; omega) _
  exact hb.grown (grownBy_putObj' _ D (.deferred none)) hb.size (fun k e => by cases e; omega)

set_option maxRecDepth 100000 in
set_option maxHeartbeats 4000000 in
theorem change_calls (A : Option Addr) (n c : Nat) (l : List Ent) (no : Int) (gd : Nat) (caps : Array Value) (w : World) (hr : RdE w A n l) (hT : Tabs w)
    (RD : Nat → Nat → Nat → Int → World → World → Prop) (hdo : DoOk w (fairL l) gd caps RD) (hEn : ∀ args w, (callFunc gd args).run Tryd.prog w = .ok (.enter gd args) w) :
    Calls Tryd.prog 31 #[.slice A n c, .int .i64 no, .func (.func gd) #[] caps] w (ChangeR w (fairL l) no RD) := by
  obtain ⟨Wi, hWi⟩ : ∃ Wi, ((((w.alloc (.cells #[.slice A n c] 22)).alloc (.cells #[.int .i64 no] 3)).alloc (.cells #[.func (.func gd) #[] caps] 55)).alloc (.cells #[.slice none 0 0] 22)).alloc (.cells #[.int .i64 0] 27) = Wi := ⟨_, rfl⟩
  have hbi : Below w.heap.size w Wi := by
    rw [← hWi]
    exact (((((Below.refl _ w).alloc (Nat.le_refl _) _).alloc (by simp) _).alloc (by simp; omega) _).alloc (by simp; omega) _).alloc (by simp; omega) _
  have hsi : Wi.heap.size = w.heap.size + 5 := by rw [← hWi]; simp
  have b0 : Boxed Wi w.heap.size 22 (.slice A n c) := by rw [← hWi]; exact ((((Boxed.new w _ _).alloc _).alloc _).alloc _).alloc _
  have b1 : Boxed Wi (w.heap.size + 1) 3 (.int .i64 no) := by
    rw [← hWi]; have := Boxed.new (w.alloc (.cells #[.slice A n c] 22)) 3 (.int .i64 no); rw [World.size_alloc] at this; exact ((this.alloc _).alloc _).alloc _
  have b2 : Boxed Wi (w.heap.size + 2) 55 (.func (.func gd) #[] caps) := by
    rw [← hWi]; have := Boxed.new ((w.alloc (.cells #[.slice A n c] 22)).alloc (.cells #[.int .i64 no] 3)) 55 (.func (.func gd) #[] caps); simp only [World.size_alloc] at this; exact (this.alloc _).alloc _
  have b3 : Boxed Wi (w.heap.size + 3) 22 (.slice none 0 0) := by
    rw [← hWi]; have := Boxed.new (((w.alloc (.cells #[.slice A n c] 22)).alloc (.cells #[.int .i64 no] 3)).alloc (.cells #[.func (.func gd) #[] caps] 55)) 22 (.slice none 0 0); simp only [World.size_alloc] at this; exact this.alloc _
  have b4 : Boxed Wi (w.heap.size + 4) 27 (.int .i64 0) := by
    rw [← hWi]; have := Boxed.new ((((w.alloc (.cells #[.slice A n c] 22)).alloc (.cells #[.int .i64 no] 3)).alloc (.cells #[.func (.func gd) #[] caps] 55)).alloc (.cells #[.slice none 0 0] 22)) 27 (.int .i64 0); simp only [World.size_alloc] at this; exact this
  have K := hide (fair_calls A n c l Wi (hr.below hbi) (hT.below hbi))
  have HB0 := hide b0
  have HB1 := hide b1
  have HB2 := hide b2
  have HB3 := hide b3
  have HB4 := hide b4
  have HBI := hide hbi
  have HSI := hide hsi
  have HK := hide (fairL_ok l)
  generalize fairL l = m at *
  have HDO := hide hdo
  clear b0 b1 b2 b3 b4 hbi hsi hr hT hdo
  refine (callsIn_wide (n := 9)).1 ?_
  refine callsIn_of_wp_marks Tryd.func31 rfl trivial ?_ rfl
  simp only [Tryd.ntmps31, List.size_toArray, List.length_cons, List.length_nil, Nat.reduceAdd, Nat.reduceSub, Array.replicate_succ, Array.replicate_zero, List.push_toArray, List.append_toArray, List.nil_append, List.cons_append]
  have ci0 := (unhide HB0).cell
  gi_wp2_with (fail)
  clear ci0
  refine ⟨trivial, (callsIn_wide.2 (unhide K)).mono ?_⟩
  rintro e w1 ⟨v, rfl, hown, hb⟩
  clear hWi
  rw [unhide HSI] at hown
  obtain ⟨A', c', rfl, hrd, hcap⟩ := own_open hown
  have lt5 : ∀ j, j < 5 → w.heap.size + j < Wi.heap.size := fun j hj => by rw [unhide HSI]; omega
  have keep : ∀ {j : Nat} {t : TypeId} {u : Value}, j < 5 → Boxed Wi (w.heap.size + j) t u → Boxed w1 (w.heap.size + j) t u := fun hj h => (hb.block _ (lt5 _ hj)).trans h
  have d0 : Boxed w1 w.heap.size 22 (.slice A n c) := keep (j := 0) (by omega) (unhide HB0)
  have d1 := keep (j := 1) (by omega) (unhide HB1)
  have d2 := keep (j := 2) (by omega) (unhide HB2)
  have d3 := keep (j := 3) (by omega) (unhide HB3)
  have d4 := keep (j := 4) (by omega) (unhide HB4)
  have hbw := (unhide HBI).trans (hb.mono (unhide HBI).size)
  obtain ⟨W0, hW0⟩ : ∃ W0, ((w1.setCell ⟨w.heap.size, 0, none⟩ (.slice A' m.length c')).alloc (.cells #[.slice A' m.length c'] 22)).alloc (.cells #[.int .i64 no] 3) = W0 := ⟨_, rfl⟩
  have hs0 : W0.heap.size = w1.heap.size + 2 := by rw [← hW0]; simp [World.size_setCell]
  have hI0 : ChI w no (.func (.func gd) #[] caps) (.slice A' m.length c') m W0 := by
    rw [← hW0]
    refine ChI.alloc (ChI.alloc ⟨⟨d0.set _, d1.kept (grownBy_setCell' _ _ _) (by simp), d2.kept (grownBy_setCell' _ _ _) (by simp), d3.kept (grownBy_setCell' _ _ _) (by simp), d4.kept (grownBy_setCell' _ _ _) (by simp), ?_⟩, hbw.setCell (p := ⟨w.heap.size, 0, none⟩) (Nat.le_refl _) _⟩ _) _
    exact ownsRow_setCell_below hown (by show w.heap.size < _; omega) _
  have n0 : Boxed W0 w1.heap.size 22 (.slice A' m.length c') := by
    rw [← hW0]; have := Boxed.new (w1.setCell ⟨w.heap.size, 0, none⟩ (.slice A' m.length c')) 22 (.slice A' m.length c'); rw [World.size_setCell] at this; exact this.alloc _
  have n1 : Boxed W0 (w1.heap.size + 1) 3 (.int .i64 no) := by
    rw [← hW0]; have := Boxed.new ((w1.setCell ⟨w.heap.size, 0, none⟩ (.slice A' m.length c')).alloc (.cells #[.slice A' m.length c'] 22)) 3 (.int .i64 no); simp only [World.size_alloc, World.size_setCell] at this; exact this
  have e0 := d0.cell
  have e1 := d1.cell
  have f0 := d0.frozen
  have hlt1 : w.heap.size + 5 ≤ w1.heap.size := by have := hb.size; have := unhide HSI; omega
  have HI0 := hide hI0
  have HN0 := hide n0
  have HN1 := hide n1
  have HS0 := hide hs0
  have hne : w.heap.size + 1 ≠ w.heap.size := by omega
  clear hown hrd hcap keep lt5 d0 d1 d2 d3 d4 hbw hI0 n0 n1 hs0
  gi_wp2_with (fail)
  refine ⟨trivial, (callsIn_wide.2 (there_calls _ _ _ _ _)).mono ?_⟩
  rintro e w2 ⟨rfl, rfl⟩
  gi_wp2_with (fail)
  clear hW0 e0 e1 f0
  have hS0 := unhide HS0
  refine wpIn_rangeFunc_ownH (F := Fence.wide) rfl (by omega) (gf := 41) (lb := #[.pointer (some ⟨w1.heap.size, 0, none⟩), .pointer (some ⟨w1.heap.size + 1, 0, none⟩)]) rfl trivial entersIter
    (there1_stops Fence.wide 8 trivial rfl (by omega) W0 w1.heap.size (w1.heap.size + 1) A' m.length c' no m (unhide HN0).cell (unhide HN1).cell ⟨rfl, Reads.own (unhide HI0).1.2.2.2.2.2⟩) belowK_t (belowK_b (Nat.le_refl _)) (Below.refl _ _) (fun _ => rfl)
    (fun pre W => pre = [] ∧ ChI w no (.func (.func gd) #[] caps) (.slice A' m.length c') m W ∧ W0.heap.size ≤ W.heap.size)
    (fun cc pre W => ∃ x : YE no m, pre = [x] ∧ ((cc = .exit 0 ∧ x.1.2.no ≠ no ∧ ChI w no (.func (.func gd) #[] caps) (.slice A' m.length c') m W) ∨
      (cc = .ret ∧ x.1.2.no = no ∧ ∃ (g cap : Nat) (r : Int) (Wd W' : World), Below w.heap.size w Wd ∧ Wd.ownsRow (w.heap.size + 5) 33 5 (.slice (some ⟨g, 0, none⟩) m.length cap) m.length (encs m) ∧ RD g cap x.1.1 r Wd W' ∧ After w.heap.size g W' W ∧ g < W0.heap.size ∧ W0.heap.size ≤ W.heap.size ∧
        Boxed W (w.heap.size + 3) 22 (if r = 0 then .slice (some ⟨g, 0, none⟩) m.length cap else .slice none 0 0) ∧ Boxed W (w.heap.size + 4) 27 (.int .i64 r))))
    ?hI ?hIx ⟨rfl, unhide HI0, Nat.le_refl _⟩
    (fun x a' W => ∃ Bx, w.heap.size + 5 ≤ Bx ∧ W.heap[Bx]? = some (.cells #[.int .i64 x.1.2.no, .int .i64 x.1.2.user, .string x.1.2.text, .int .i64 x.1.2.edits, .bool x.1.2.gone] 33 (0, 0)) ∧ a' = { tmps := #[.slice A n c, .int .i64 no, .func (.func gd) #[] caps, .pointer (some ⟨w.heap.size, 0, none⟩), .pointer (some ⟨w.heap.size + 1, 0, none⟩), .pointer (some ⟨w.heap.size + 1 + 1, 0, none⟩), .pointer (some ⟨w.heap.size + 1 + 1 + 1, 0, none⟩), .pointer (some ⟨w.heap.size + 1 + 1 + 1 + 1, 0, none⟩), .int .i64 (x.1.1 : Int), .pointer (some ⟨Bx, 0, none⟩), undef, .slice A n c, .slice A' m.length c', .slice A' m.length c', .int .i64 no, .func (.func 41) #[] #[.pointer (some ⟨w1.heap.size, 0, none⟩), .pointer (some ⟨w1.heap.size + 1, 0, none⟩)], .int .i64 (x.1.1 : Int), .agg #[.int .i64 x.1.2.no, .int .i64 x.1.2.user, .string x.1.2.text, .int .i64 x.1.2.edits, .bool x.1.2.gone], undef, undef, undef, undef, undef, undef, undef, undef, undef, undef, undef, undef, undef], defers := [] })
    ?hAx ?assign ?body ?done ?stop
  case assign =>
    rintro l pre x W K ⟨rfl, hI, hsz⟩ hK
    simp only [YE.args]
    gi_wp2
    exact hK _ _ ((KeepsOthers.alloc _ _).from _) ((Below.refl _ W).alloc hsz _) ⟨trivial, hI.alloc _, by simp; omega⟩ ⟨W.heap.size, by omega, World.alloc_heap_new _ _, rfl⟩
  case body =>
    rintro l pre x a' W hl ⟨rec, hrec⟩ ⟨rfl, hI, hsz⟩ ⟨Bx, hBx, hcx, rfl⟩ hlt
    obtain ⟨hxl, hxe, hxg, hxn⟩ := x.spec
    have c0 := hI.1.1.cell
    have c1 := hI.1.2.1.cell
    have c2 := hI.1.2.2.1.cell
    have x0 : W.cell? ⟨Bx, 0, none⟩ = some (.int .i64 x.1.2.no) := by simp [World.cell?, hcx]
    have HI := hide hI
    have HHL := hide hl
    have HREC := hide hrec
    clear hI hl hrec hcx
    by_cases hq : x.1.2.no = no
    · have hq1 : (x.1.2.no != no) = false := by simpa using hq
      have HQ := hide hq
      clear hq
      have hi2 : (x.1.1 : Int) < (m.length : Int) := by omega
      have hml := (Reads.own (unhide HI).1.2.2.2.2.2).le
      obtain ⟨g, cap, hA', hgb, hgl⟩ := (unhide HI0).1.2.2.2.2.2.form (by omega)
      have hglW : g < W.heap.size := Nat.lt_of_lt_of_le hgl hsz
      have HGC := hide (gcells_of (unhide HI).1.2.2.2.2.2 hA' (by omega))
      injection hA' with ea _ ec
      subst ea ec
      clear hxe hxg hxn
      have hmx : Tryd.prog.follows .mixedOrders = true := by kernel_rfl
      have hd : 1 ≤ 8 - 1 := by omega
      gi_wp2
      gi_region_with_o (refine ⟨trivial, ?_⟩; refine (CallsIn.inRound l (callsIn_wide.2 ((unhide HDO).calls _ g c' x.1.1 hxl ((unhide HI).1.2.2.2.2.2.drew) (unhide HI).2.drew))).mono ?_; rintro e w' ⟨r, rfl, hRD⟩)
      all_goals
        have hkp := (unhide HDO).keeps hRD
        have hB0 : w.heap.size + 5 ≤ W0.heap.size := by have := unhide HS0; omega
        have hwl : w.heap.size + 5 ≤ W.heap.size := by have := (unhide HI).1.2.2.2.2.1; have := block_lt this.cell; omega
        have kb : ∀ {j : Nat} {t : TypeId} {u : Value}, j < 5 → Boxed W (w.heap.size + j) t u → Boxed w' (w.heap.size + j) t u := fun hj h => (hkp.2 _ (by omega) (by show _ < W.heap.size; omega) (by omega)).trans h
        have d0 : Boxed w' w.heap.size 22 (.slice (some ⟨g, 0, none⟩) m.length c') := kb (j := 0) (by omega) (unhide HI).1.1
        have d3 := kb (by omega) (unhide HI).1.2.2.2.1
        have d4 := kb (by omega) (unhide HI).1.2.2.2.2.1
        have hgw : g < w'.heap.size := by have h1 := hkp.1; have h2 : W.drew.heap.size = W.heap.size := rfl; omega
        have k0 := d0.cell
        have k3 := d3.cell
        have k4 := d4.cell
        have f3 := d3.frozen
        have f4 := d4.frozen
        have D3 := hide d3
        have D4 := hide d4
        have HRD := hide hRD
        have HKP := hide hkp
        have hne4 : w.heap.size + 1 + 1 + 1 ≠ w.heap.size + 1 + 1 + 1 + 1 := by omega
        have hne3 : w.heap.size ≠ w.heap.size + 1 + 1 + 1 := by omega
        clear d0 d3 d4 hRD hkp kb
        by_cases hr : r = 0
        · have hr1 : (r != 0) = false := by simpa using hr
          gi_wp2
          obtain ⟨q1, q2, q3, q4, q5⟩ := change_end (unhide HDO) (unhide HRD) hB0 hgb (unhide HGC) (unhide D3) (unhide D4) rfl
          refine ⟨q1, x, rfl, .inr ⟨rfl, unhide HQ, g, c', r, W.drew, w', (unhide HI).2.drew, (unhide HI).1.2.2.2.2.2.drew, unhide HRD, q2, hgl, Nat.le_trans hsz q1.size, ?_, ?_⟩⟩
          · simp only [hr, if_true, if_false]; exact q4
          · try rw [hr]
            exact q5
        · have hr1 : (r != 0) = true := by simpa using hr
          gi_wp2
          obtain ⟨q1, q2, q3, q4, q5⟩ := change_end (unhide HDO) (unhide HRD) hB0 hgb (unhide HGC) (unhide D3) (unhide D4) rfl
          refine ⟨q1, x, rfl, .inr ⟨rfl, unhide HQ, g, c', r, W.drew, w', (unhide HI).2.drew, (unhide HI).1.2.2.2.2.2.drew, unhide HRD, q2, hgl, Nat.le_trans hsz q1.size, ?_, ?_⟩⟩
          · simp only [hr, if_true, if_false]; exact q4
          · try rw [hr]
            exact q5
    · have hq1 : (x.1.2.no != no) = true := by simpa using hq
      have HQ := hide hq
      clear hxe hxg hxn hq
      gi_wp2
      exact ⟨KeepsFrom.refl _ _, x, rfl, .inl ⟨rfl, unhide HQ, unhide HI⟩⟩
  case hI =>
    rintro pre W W' row ⟨h1, h2, h3⟩ hg hrw
    exact ⟨h1, h2.grown hg (fun q e => ⟨by have := (hrw q e).1; omega, (hrw q e).2⟩), Nat.le_trans h3 hg.size⟩
  case hAx =>
    rintro x a' u W W' row ⟨Bx, h1, h2, h3⟩ hg hrw
    refine ⟨Bx, h1, (hg.block Bx (Array.getElem?_eq_some_iff.1 h2).1 fun e' => ?_).trans h2, h3⟩
    obtain ⟨o, ho, hc⟩ := (hrw Bx e'.symm).2
    rw [h2] at ho; cases ho; cases hc
  case hIx =>
    rintro c2 pre W W' row ⟨x, hx, h⟩ hg hrw
    refine ⟨x, hx, ?_⟩
    rcases h with ⟨h1, h2, h3⟩ | ⟨h1, h2, g, cap, r, Wd, W1, h3, h4, h5, h6, h7, h7', h8, h9⟩
    · exact .inl ⟨h1, h2, h3.grown hg (fun q e => ⟨by have := (hrw q e).1; omega, (hrw q e).2⟩)⟩
    · have hr' := fun q e => (hrw q e).2
      have hb3 : w.heap.size + 3 < W.heap.size := block_lt h8.cell
      refine .inr ⟨h1, h2, g, cap, r, Wd, W1, h3, h4, h5, ⟨hg.os.trans h6.1, hg.tape.trans h6.2.1, hg.output.trans h6.2.2.1, Nat.le_trans h6.2.2.2.1 hg.size, fun k hk => (hg.block k (by omega) ?_).trans (h6.2.2.2.2 k hk)⟩, h7, Nat.le_trans h7' hg.size, boxed_noncells h8 hg hr', boxed_noncells h9 hg hr'⟩
      intro e'
      have := (hrw k e'.symm).1
      omega
  case done =>
    rintro D xs W hD hS ⟨rfl, hI, hsz⟩ hK
    have hn : atI m no = -1 := (first_at (unhide HK) no).2.2 (by simpa using hS.symm)
    have k3 := hI.1.2.2.2.1.cell
    have k4 := hI.1.2.2.2.2.1.cell
    have f3 := hI.1.2.2.2.1.frozen
    have f4 := hI.1.2.2.2.2.1.frozen
    have HI := hide hI
    have hne4 : w.heap.size + 1 + 1 + 1 ≠ w.heap.size + 1 + 1 + 1 + 1 := by omega
    clear hI
    gi_wp2
    exact change_none hn (unhide HI) (by omega) hK rfl rfl rfl
  case stop =>
    rintro D c2 pre W hD hS ⟨x, rfl, h⟩ hK
    rcases h with ⟨rfl, hne', hI⟩ | ⟨rfl, heq, g, cap, r, Wd, W1, h3, h4, h5, h6, h7, h7', h8, h9⟩
    · have hn : atI m no = -1 := (first_at (unhide HK) no).2.1 x (by simpa using hS) hne'
      have k3 := hI.1.2.2.2.1.cell
      have k4 := hI.1.2.2.2.2.1.cell
      have f3 := hI.1.2.2.2.1.frozen
      have f4 := hI.1.2.2.2.2.1.frozen
      have HI := hide hI
      have hne4 : w.heap.size + 1 + 1 + 1 ≠ w.heap.size + 1 + 1 + 1 + 1 := by omega
      clear hI
      gi_wp2
      exact change_none hn (unhide HI) (by omega) hK rfl rfl rfl
    · have hn : atI m no = (x.1.1 : Int) := (first_at (unhide HK) no).1 x (by simpa using hS) heq
      have hxl := x.spec.1
      gi_wp2
      refine ⟨by simp, .inl ⟨_, _, rfl, run_takeDeferred hK, ?_⟩⟩
      have hc3 := cell_kept h8.cell (grownBy_putObj' _ D (.deferred none)) (fun r e => by cases e; exact ⟨_, hK, rfl⟩)
      have hc4 := cell_kept h9.cell (grownBy_putObj' _ D (.deferred none)) (fun r e => by cases e; exact ⟨_, hK, rfl⟩)
      refine ⟨.tuple #[if r = 0 then .slice (some ⟨g, 0, none⟩) m.length cap else .slice none 0 0, .int .i64 r], by simp [results, Tryd.func31, go_sem, hc3, hc4], .inr ⟨x.1.1, g, cap, r, Wd, W1, hn, hxl, h3, h4, h5, ?_, rfl⟩⟩
      refine ⟨h6.1, h6.2.1, h6.2.2.1, Nat.le_trans h6.2.2.2.1 (grownBy_putObj' W D (.deferred none)).size, fun k hk => ?_⟩
      rw [World.putObj_heap_other (by omega)]
      exact h6.2.2.2.2 k hk
end Go.Proofs.YtdpmfghlhgfhfaaDoor
