/- posts.Page: a range over a function that gathers. -/
import Derived.Test.YtdpmfghlhgfhfaaDoorIterM
import Derived.Test.YtdpmfghlhgfhfaaDoorAdd
import Derived.Shelf.RegionOpen
set_option linter.unusedVariables false
set_option linter.unusedSimpArgs false
namespace Go.Proofs.YtdpmfghlhgfhfaaDoor
open Go.RowKit

attribute [local go_sem] Oper.semAt_some

theorem wpListIn_append_any {F : Fence} {n : Nat} {P : Program} (w : World) {ops : Array Oper} {rest : List Oper} {o : Oper} {a : Act} {Q : Exit → Act → World → Prop} (hgd : o.guard = none) (s x : Operand) (t : TypeId)
    (ho : o.op = .call { callee := .builtin .append, args := #[s, x], argTypes := #[t, t] })
    (base : Nat) (e : TypeId) (i : TypeInfo) (z : Value) (size bytes : Nat) (ht : P.underlying t = some (.slice e)) (hi : P.info? e = some i) (hz : i.zero = some z)
    (hsize : i.size = size) (hby : i.bytes = bytes) (hzs : z.cells.size = size) (hsz : 0 < size)
    (v : Value) (k : Nat) (xs : List Value) (hs : a.eval s = v) (hown : w.ownsRow base e size v k xs)
    (A : Option Addr) (m c : Nat) (news : List Value) (hx : a.eval x = .slice A m c) (hr : Reads w size A m news) (h1 : ∀ u ∈ news, u.oneCell' = true)
    (h63 : k + m ≤ maxLen) (hbytes : (k + m) * bytes ≤ 140737488355328) (hbase : base ≤ w.heap.size)
    (h : ∀ v' w', w'.ownsRow base e size v' (k + m) (xs ++ news) → w.grownBy w' v.ownBlock → (v'.ownBlock = v.ownBlock ∨ v'.ownBlock = some w.heap.size) → wpListIn F n P ops Q rest (a.put o.dst v') w') : wpListIn F n P ops Q (o :: rest) a w := by
  refine wpListIn_plain hgd fun K hK' => ?_
  obtain ⟨v', w', hrun, h2, h3, h4⟩ := run_append_any (P := P) w base t o.type e i z size bytes ht hi hz hsize hby hzs hsz v k xs hown A m c news hr h1 h63 hbytes hbase
  unfold Oper.wpIn
  refine ⟨?_, ?_⟩
  · simp [Oper.about, ho, resolve, Target.leads, Sem.run_pure]
  · rw [Oper.semAt_plain F _ _ (by rw [ho]; intro c hc'; cases hc')]
    simp [execOp, ho, resolve, invoke, builtin, hs, hx, hrun, Result.andThen]
    exact hK' _ _ (h v' w' h2 h3 h4)

/-! ### plain -/
def pgY (many : Int) : List Ent → List Ent → List Ent × Int
  | acc, [] => (acc, 0)
  | acc, x :: t => if many ≤ (acc.length : Int) then (acc, x.no) else pgY many (acc ++ [x]) t
theorem pg_ys (fr many : Int) : ∀ (l : List Ent) (k : Nat) (acc : List Ent), pg fr many acc l = pgY many acc ((ys fr k l).map (·.2))
  | [], k, acc => rfl
  | x :: t, k, acc => by
    simp only [pg, ys]
    by_cases hx : x.gone = false ∧ fr ≤ x.no
    · rw [if_neg (fun h => h.elim (fun h => by rw [hx.1] at h; cases h) (fun h => by omega)), if_pos hx]
      simp only [List.map_cons, pgY]
      split
      · rfl
      · exact pg_ys fr many t (k + 1) _
    · rw [if_pos, if_neg hx]
      · exact pg_ys fr many t (k + 1) acc
      · cases hg : x.gone with
        | true => exact .inl rfl
        | false => exact .inr (by have : ¬ fr ≤ x.no := fun h => hx ⟨hg, h⟩; omega)

theorem ownBlock_ge {W : World} {base : Nat} {e : TypeId} {size n : Nat} {v : Value} {cs : List Value} (h : W.ownsRow base e size v n cs) {k : Nat} (hk : v.ownBlock = some k) : base ≤ k ∧ ∃ o : Obj, W.heap[k]? = some o ∧ o.isCells = true := by
  rcases h.2 with ⟨rfl, _⟩ | ⟨g, cap, cur, rfl, hb, hgb, _⟩
  · cases hk
  · have : g = k := by simpa [Value.ownBlock] using hk
    subst this
    exact ⟨hb, _, hgb, rfl⟩

theorem ys_len (fr : Int) : ∀ (l : List Ent) (k : Nat), (ys fr k l).length ≤ l.length
  | [], k => Nat.le_refl _
  | x :: t, k => by
    have := ys_len fr t (k + 1)
    simp only [ys]
    split <;> simp <;> omega
theorem hR0_len {w : World} {A : Option Addr} {n : Nat} {l : List Ent} (h : RdE w A n l) : n ≤ maxLen := h.2.2.1
theorem mid_b {lo hi : Nat} {w : World} (hn : hi ≤ w.heap.size) (W : World) (l : Nat) (o o' : Obj) (hl : w.heap.size ≤ l) (h : W.heap[l]? = some o) (_ : o.isCells = false) (_ : o.isWalk = false) : Mid lo hi W (W.putObj l o') :=
  (Mid.refl _ _ _).of_grownBy (grownBy_putObj' W l o') (by have := (Array.getElem?_eq_some_iff.1 h).1; omega) (fun k e => by cases e; right; omega)
/-! ### the walk -/
/-- What lies in memory while a page is gathered. -/
def PgI (w : World) (lo : Nat) (many : Int) (acc : List Ent) (v : Value) (W : World) : Prop :=
  Boxed W w.heap.size 3 (.int .i64 many) ∧ Boxed W (w.heap.size + 1) 22 (.slice none 0 0) ∧ Boxed W (w.heap.size + 2) 3 (.int .i64 0) ∧ Boxed W (w.heap.size + 3) 22 v ∧
    W.ownsRow lo 33 5 v acc.length (encs acc) ∧ Below w.heap.size w W ∧ lo ≤ W.heap.size
theorem PgI.grown {w : World} {lo : Nat} {many : Int} {acc : List Ent} {v : Value} {W W' : World} {row : Option Nat} (h : PgI w lo many acc v W) (hlo : w.heap.size ≤ lo) (hg : W.grownBy W' row)
    (hr : ∀ r, row = some r → lo ≤ r ∧ ∃ o : Obj, W.heap[r]? = some o ∧ o.isCells = false) : PgI w lo many acc v W' := by
  obtain ⟨h1, h2, h3, h4, h5, hb, hs⟩ := h
  have hr' := fun r e => (hr r e).2
  exact ⟨boxed_noncells h1 hg hr', boxed_noncells h2 hg hr', boxed_noncells h3 hg hr', boxed_noncells h4 hg hr', own_noncells h5 hg hr', hb.grown hg hb.size (fun k e => Nat.le_trans hlo (hr k e).1), Nat.le_trans hs hg.size⟩

theorem PgI.boxes {w : World} {lo : Nat} {many : Int} {acc : List Ent} {v : Value} {W w4 : World} {o : Obj} (h : PgI w lo many acc v W) (hlo : w.heap.size + 4 ≤ lo) (hg : (W.alloc o).grownBy w4 v.ownBlock) :
    Boxed w4 w.heap.size 3 (.int .i64 many) ∧ Boxed w4 (w.heap.size + 1) 22 (.slice none 0 0) ∧ Boxed w4 (w.heap.size + 2) 3 (.int .i64 0) ∧ Boxed w4 (w.heap.size + 3) 22 v := by
  have hne : ∀ k, k < w.heap.size + 4 → some k ≠ v.ownBlock := fun k hk e => by
    have := (ownBlock_ge h.2.2.2.2.1 e.symm).1
    omega
  exact ⟨(h.1.alloc o).kept hg (hne _ (by omega)), (h.2.1.alloc o).kept hg (hne _ (by omega)), (h.2.2.1.alloc o).kept hg (hne _ (by omega)), (h.2.2.2.1.alloc o).kept hg (hne _ (by omega))⟩
/-- A page with one more. -/
theorem page_more {w : World} {lo : Nat} {many : Int} {acc : List Ent} {x : Ent} {v v1 : Value} {W w4 Wf : World} {o : Obj} (h : PgI w lo many acc v W) (hlo : w.heap.size + 4 ≤ lo) (hg : (W.alloc o).grownBy w4 v.ownBlock)
    (hown : w4.ownsRow lo 33 5 v1 (acc.length + 1) (encs acc ++ encs [x])) (hf : Wf = w4.setCell ⟨w.heap.size + 3, 0, none⟩ v1) :
    KeepsFrom lo W Wf ∧ Mid (w.heap.size + 4) lo W Wf ∧ PgI w lo many (acc ++ [x]) v1 Wf := by
  obtain ⟨k0, k1, k2, k3⟩ := h.boxes hlo hg
  have hs : W.heap.size + 1 ≤ w4.heap.size := by have := hg.size; simp at this; exact this
  have hlW := h.2.2.2.2.2.2
  have hsf : Wf.heap.size = w4.heap.size := by rw [hf]; simp [World.size_setCell]
  have hgf : w4.grownBy Wf (some (w.heap.size + 3)) := by rw [hf]; exact grownBy_setCell' _ _ _
  have hcells : ∀ k, v.ownBlock = some k → lo ≤ k ∧ ∃ o : Obj, W.heap[k]? = some o ∧ o.isCells = true := fun k e => ownBlock_ge h.2.2.2.2.1 e
  have hfar : ∀ k, k < W.heap.size → v.ownBlock ≠ some k → k ≠ w.heap.size + 3 → Wf.heap[k]? = W.heap[k]? := fun k hk h1 h2 => by
    refine (hgf.block k (by omega) (by simp; exact h2)).trans ((hg.block k (by simp; omega) (fun e => h1 e.symm)).trans ?_)
    exact Below.heap_alloc _ _ _ (by omega)
  refine ⟨⟨by omega, fun k o' hk ho hc => ?_⟩, ⟨by omega, fun k h1 h2 => hfar k (by omega) (fun e => by have := (hcells k e).1; omega) (by omega)⟩, ?_⟩
  · rw [hfar k (Array.getElem?_eq_some_iff.1 ho).1 (fun e => ?_) (by omega)]
    · exact ho
    · obtain ⟨o2, ho2, hc2⟩ := (hcells k e).2
      rw [ho] at ho2; cases ho2; rw [hc] at hc2; cases hc2
  · refine ⟨k0.kept hgf (by simp), k1.kept hgf (by simp), k2.kept hgf (by simp), by rw [hf]; exact k3.set _, ?_, ?_, by omega⟩
    · rw [hf]
      have := ownsRow_setCell_below (a := ⟨w.heap.size + 3, 0, none⟩) hown (by show w.heap.size + 3 < lo; omega) v1
      rw [encs_append]
      simpa using this
    · have := h.2.2.2.2.2.1
      refine ((this.alloc (by omega) o).grown hg (by simp; omega) (fun k e => ?_)).grown hgf (by omega) (fun k e => by cases e; omega)
      have := (hcells k e).1
      omega
/-- A page is full. -/
theorem page_full {w : World} {lo : Nat} {many : Int} {acc : List Ent} {v : Value} {no : Int} {W Wf : World} (h : PgI w lo many acc v W) (hlo : w.heap.size + 4 ≤ lo)
    (hf : Wf = (W.drew.setCell ⟨w.heap.size + 1, 0, none⟩ v).setCell ⟨w.heap.size + 1 + 1, 0, none⟩ (.int .i64 no)) :
    KeepsFrom lo W Wf ∧ Boxed Wf (w.heap.size + 1) 22 v ∧ Boxed Wf (w.heap.size + 2) 3 (.int .i64 no) ∧ Wf.ownsRow lo 33 5 v acc.length (encs acc) ∧ Below w.heap.size w Wf := by
  have hb : ∀ k, k ≠ w.heap.size + 1 → k ≠ w.heap.size + 2 → Wf.heap[k]? = W.heap[k]? := fun k h1 h2 => by
    rw [hf]
    exact (Below.heap_setCell _ _ _ _ (by show k ≠ _; omega)).trans (Below.heap_setCell _ _ _ _ (by show k ≠ _; omega))
  have hs : Wf.heap.size = W.heap.size := by rw [hf]; simp only [World.size_setCell]; rfl
  refine ⟨⟨by omega, fun k o' hk ho hc => by rw [hb k (by omega) (by omega)]; exact ho⟩, ?_, ?_, ?_, ?_⟩
  · rw [hf]; exact ((show Boxed W.drew _ _ _ from h.2.1).set v).kept (grownBy_setCell' _ _ _) (by simp)
  · rw [hf]; exact ((show Boxed W.drew _ _ _ from h.2.2.1).kept (grownBy_setCell' _ _ _) (by simp)).set _
  · rw [hf]
    exact ownsRow_setCell_below (a := ⟨w.heap.size + 1 + 1, 0, none⟩) (ownsRow_setCell_below (a := ⟨w.heap.size + 1, 0, none⟩) h.2.2.2.2.1.drew (by show w.heap.size + 1 < lo; omega) _) (by show w.heap.size + 1 + 1 < lo; omega) _
  · rw [hf]
    exact (h.2.2.2.2.2.1.drew.setCell (p := ⟨w.heap.size + 1, 0, none⟩) (by show _ ≤ w.heap.size + 1; omega) _).setCell (p := ⟨w.heap.size + 1 + 1, 0, none⟩) (by show _ ≤ w.heap.size + 1 + 1; omega) _
theorem page_done {w W W' : World} {lo : Nat} {many : Int} {acc : List Ent} {A : Option Addr} {n c : Nat} {D : Nat} {T : Array Value} {a : Act} (hI : PgI w lo many acc (.slice A n c) W)
    (hlo : w.heap.size + 4 ≤ lo) (hD : lo ≤ D) (hK : W.heap[D]? = some (.deferred (some [])))
    (hW' : W' = (W.setCell ⟨w.heap.size + 1, 0, none⟩ (.slice A n c)).setCell ⟨w.heap.size + 1 + 1, 0, none⟩ (.int .i64 0)) (ha : a = { tmps := T, defers := [{ target := .collected D, args := #[] }] })
    (hT : (T[6]?, T[7]?) = (some (.pointer (some ⟨w.heap.size + 1, 0, none⟩)), some (.pointer (some ⟨w.heap.size + 1 + 1, 0, none⟩)))) :
    bodyPostM Fence.wide 9 Tryd.prog Tryd.f15 (RetLE w (acc, 0)) .ret a W' := by
  subst ha
  have hb3 : w.heap.size + 3 < W.heap.size := block_lt hI.2.2.2.1.cell
  have hK' : W'.heap[D]? = some (.deferred (some [])) := by
    rw [hW']
    exact ((Below.heap_setCell _ _ _ _ (by show D ≠ _; simp; omega)).trans (Below.heap_setCell _ _ _ _ (by show D ≠ _; simp; omega))).trans hK
  refine ⟨by simp, .inl ⟨_, _, rfl, run_takeDeferred hK', ?_⟩⟩
  have d3 : Boxed W' (w.heap.size + 1) 22 (.slice A n c) := by rw [hW']; exact (hI.2.1.set _).kept (grownBy_setCell' _ _ _) (by simp)
  have d4 : Boxed W' (w.heap.size + 2) 3 (.int .i64 0) := by rw [hW']; exact (hI.2.2.1.kept (grownBy_setCell' _ _ _) (by simp)).set _
  have hc3 := cell_kept d3.cell (grownBy_putObj' _ D (.deferred none)) (fun r e => by cases e; exact ⟨_, hK', rfl⟩)
  have hc4 := cell_kept d4.cell (grownBy_putObj' _ D (.deferred none)) (fun r e => by cases e; exact ⟨_, hK', rfl⟩)
  simp only [Prod.mk.injEq] at hT
  refine ⟨.tuple #[.slice A n c, .int .i64 0], by simp [results, Tryd.f15, go_sem, hc3, hc4, hT.1, hT.2], ?_⟩
  have hb : Below w.heap.size w W' := by
    rw [hW']
    exact (hI.2.2.2.2.2.1.setCell (p := ⟨w.heap.size + 1, 0, none⟩) (by show _ ≤ w.heap.size + 1; omega) _).setCell (p := ⟨w.heap.size + 1 + 1, 0, none⟩) (by show _ ≤ w.heap.size + 1 + 1; omega) _
  have ho : W'.ownsRow lo 33 5 (.slice A n c) acc.length (encs acc) := by
    rw [hW']
    exact ownsRow_setCell_below (a := ⟨w.heap.size + 1 + 1, 0, none⟩) (ownsRow_setCell_below (a := ⟨w.heap.size + 1, 0, none⟩) hI.2.2.2.2.1 (by show w.heap.size + 1 < lo; omega) _) (by show w.heap.size + 1 + 1 < lo; omega) _
  have ho' := own_noncells ho (grownBy_putObj' W' D (.deferred none)) (fun r e => by cases e; exact ⟨_, hK', rfl⟩)
  exact RetLE.own rfl rfl ho' (hb.grown (grownBy_putObj' _ D (.deferred none)) hb.size (fun k e => by cases e; omega))
def PgT (w : World) (lo : Nat) (fr many : Int) (m : List Ent) (pre : List (YE fr m)) (W : World) : Prop :=
  (∃ v, PgI w lo many (pre.map (·.1.2)) v W) ∧ ∀ rest, pgY many [] (pre.map (·.1.2) ++ rest) = pgY many (pre.map (·.1.2)) rest
def PgS (w : World) (lo : Nat) (fr many : Int) (m : List Ent) (cc : Code) (pre : List (YE fr m)) (W : World) : Prop :=
  cc = .ret ∧ ∃ (pre' : List (YE fr m)) (x : YE fr m) (v : Value), pre = pre' ++ [x] ∧ many ≤ (pre'.length : Int) ∧ (∀ rest, pgY many [] (pre'.map (·.1.2) ++ rest) = pgY many (pre'.map (·.1.2)) rest) ∧
      Boxed W (w.heap.size + 1) 22 v ∧ Boxed W (w.heap.size + 2) 3 (.int .i64 x.1.2.no) ∧ W.ownsRow lo 33 5 v pre'.length (encs (pre'.map (·.1.2))) ∧ Below w.heap.size w W
theorem PgT.alloc {w : World} {lo : Nat} {fr many : Int} {m : List Ent} {pre : List (YE fr m)} {W : World} (h : PgT w lo fr many m pre W) (hlo : w.heap.size ≤ lo) (o : Obj) : PgT w lo fr many m pre (W.alloc o) := by
  obtain ⟨⟨v, hI⟩, hp⟩ := h
  exact ⟨⟨v, hI.grown hlo (World.grownBy_alloc W o none) (fun r e => by cases e)⟩, hp⟩
set_option maxRecDepth 100000 in
set_option maxHeartbeats 4000000 in
theorem page_calls (A : Option Addr) (n c : Nat) (l : List Ent) (fr many : Int) (w : World) (hr : RdE w A n l) (hT : Tabs w) :
    Calls Tryd.prog 15 #[.slice A n c, .int .i64 fr, .int .i64 many] w (RetLE w (pageL l fr many)) := by
  obtain ⟨i0, hi, hz0, hz1, hz2⟩ := info_parts entInfo
  obtain ⟨Wi, hWi⟩ : ∃ Wi, (((w.alloc (.cells #[.int .i64 many] 3)).alloc (.cells #[.slice none 0 0] 22)).alloc (.cells #[.int .i64 0] 3)).alloc (.cells #[.slice none 0 0] 22) = Wi := ⟨_, rfl⟩
  have hbi : Below w.heap.size w Wi := by
    rw [← hWi]
    exact ((((Below.refl _ w).alloc (Nat.le_refl _) _).alloc (by simp) _).alloc (by simp; omega) _).alloc (by simp; omega) _
  have hsi : Wi.heap.size = w.heap.size + 4 := by rw [← hWi]; simp
  have b0 : Boxed Wi w.heap.size 3 (.int .i64 many) := by rw [← hWi]; exact (((Boxed.new w _ _).alloc _).alloc _).alloc _
  have b1 : Boxed Wi (w.heap.size + 1) 22 (.slice none 0 0) := by
    rw [← hWi]; have := Boxed.new (w.alloc (.cells #[.int .i64 many] 3)) 22 (.slice none 0 0); rw [World.size_alloc] at this; exact (this.alloc _).alloc _
  have b2 : Boxed Wi (w.heap.size + 2) 3 (.int .i64 0) := by
    rw [← hWi]; have := Boxed.new ((w.alloc (.cells #[.int .i64 many] 3)).alloc (.cells #[.slice none 0 0] 22)) 3 (.int .i64 0); simp only [World.size_alloc] at this; exact this.alloc _
  have b3 : Boxed Wi (w.heap.size + 3) 22 (.slice none 0 0) := by
    rw [← hWi]; have := Boxed.new (((w.alloc (.cells #[.int .i64 many] 3)).alloc (.cells #[.slice none 0 0] 22)).alloc (.cells #[.int .i64 0] 3)) 22 (.slice none 0 0); simp only [World.size_alloc] at this; exact this
  have K := hide (fair_calls A n c l Wi (hr.below hbi) (hT.below hbi))
  have HB0 := hide b0
  have HB1 := hide b1
  have HB2 := hide b2
  have HB3 := hide b3
  have HBI := hide hbi
  have HSI := hide hsi
  have HLEN := hide (fairL_len l)
  have HF : Hid (pageL l fr many = pgY many [] ((ys fr 0 (fairL l)).map (·.2))) := by rw [Hid, pageL, pg_ys fr many (fairL l) 0 []]
  generalize pageL l fr many = ANS at *
  generalize fairL l = m at *
  clear b0 b1 b2 b3 hbi hsi hr hT
  refine (callsIn_wide (n := 9)).1 ?_
  refine callsIn_of_wp_marks Tryd.func15 rfl trivial ?_ rfl
  simp only [Tryd.ntmps15, List.size_toArray, List.length_cons, List.length_nil, Nat.reduceAdd, Nat.reduceSub, Array.replicate_succ, Array.replicate_zero, List.push_toArray, List.append_toArray, List.nil_append, List.cons_append]
  gi_wp2_with (fail)
  refine ⟨trivial, (callsIn_wide.2 (unhide K)).mono ?_⟩
  rintro e w1 ⟨v, rfl, hown, hb⟩
  clear hWi
  rw [unhide HSI] at hown
  obtain ⟨A', c', rfl, hrd, hcap⟩ := own_open hown
  have lt4 : ∀ j, j < 4 → w.heap.size + j < Wi.heap.size := fun j hj => by rw [unhide HSI]; omega
  have keep : ∀ {j : Nat} {t : TypeId} {u : Value}, j < 4 → Boxed Wi (w.heap.size + j) t u → Boxed w1 (w.heap.size + j) t u := fun hj h => (hb.block _ (lt4 _ hj)).trans h
  have d0 : Boxed w1 w.heap.size 3 (.int .i64 many) := keep (j := 0) (by omega) (unhide HB0)
  have d1 := keep (j := 1) (by omega) (unhide HB1)
  have d2 := keep (j := 2) (by omega) (unhide HB2)
  have d3 := keep (j := 3) (by omega) (unhide HB3)
  have hbw := (unhide HBI).trans (hb.mono (unhide HBI).size)
  have hlt1 : w.heap.size + 4 ≤ w1.heap.size := by have := hb.size; have := unhide HSI; omega
  gi_wp2_with (fail)
  refine ⟨trivial, (callsIn_wide.2 (there_calls _ _ _ _ _)).mono ?_⟩
  obtain ⟨W0, hW0⟩ : ∃ W0, (w1.alloc (.cells #[.slice A' m.length c'] 22)).alloc (.cells #[.int .i64 fr] 3) = W0 := ⟨_, rfl⟩
  rw [hW0]
  have hs0 : W0.heap.size = w1.heap.size + 2 := by rw [← hW0]; simp
  have n0 : Boxed W0 w1.heap.size 22 (.slice A' m.length c') := by
    rw [← hW0]; exact (Boxed.new w1 22 (.slice A' m.length c')).alloc _
  have n1 : Boxed W0 (w1.heap.size + 1) 3 (.int .i64 fr) := by
    rw [← hW0]; have := Boxed.new (w1.alloc (.cells #[.slice A' m.length c'] 22)) 3 (.int .i64 fr); rw [World.size_alloc] at this; exact this
  have hI0 : PgI w W0.heap.size many [] (.slice none 0 0) W0 := by
    have hb0 : Below w.heap.size w W0 := by rw [← hW0]; exact (hbw.alloc (by omega) _).alloc (by simp; omega) _
    refine ⟨?_, ?_, ?_, ?_, own_nil _ _ _ _, hb0, Nat.le_refl _⟩
    all_goals rw [← hW0]
    · exact (d0.alloc _).alloc _
    · exact (d1.alloc _).alloc _
    · exact (d2.alloc _).alloc _
    · exact (d3.alloc _).alloc _
  have hR0 : RdE W0 A' m.length m := ⟨rfl, by rw [← hW0]; exact (hrd.alloc _).alloc _⟩
  have hlo : ∀ b o, A' = some ⟨b, o, none⟩ → w.heap.size + 4 ≤ b := by
    intro b o e
    rcases hown.2 with ⟨h, _⟩ | ⟨g, cap, cur, h, h2, _⟩
    · injection h with h; rw [h] at e; cases e
    · injection h with h; rw [h] at e; cases e; exact h2
  have HI0 := hide hI0
  have HN0 := hide n0
  have HN1 := hide n1
  have HR0 := hide hR0
  have HLO := hide hlo
  have HS0 := hide hs0
  clear hown hrd hcap keep lt4 d0 d1 d2 d3 hbw hI0 n0 n1 hs0 hW0 hR0 hlo
  rintro e W0 ⟨rfl, rfl⟩
  gi_wp2_with (fail)
  have hHI := unhide HI0
  have hml := hR0_len (unhide HR0)
  have hys : (ys fr 0 m).length ≤ m.length := ys_len fr m 0
  refine wpIn_rangeFunc_ownH (F := Fence.wide) rfl (by omega) (gf := 41) (lb := #[.pointer (some ⟨w1.heap.size, 0, none⟩), .pointer (some ⟨w1.heap.size + 1, 0, none⟩)]) rfl trivial entersIter
    (there1_stopsM Fence.wide 8 trivial rfl (by omega) W0 w1.heap.size (w1.heap.size + 1) A' m.length c' fr m (unhide HN0).cell (unhide HN1).cell (unhide HR0) (w.heap.size + 4) (unhide HLO) (by omega)) Mid.trans (mid_b (Nat.le_refl _)) (Below.refl _ _) (fun _ => rfl)
    (PgT w W0.heap.size fr many m) (PgS w W0.heap.size fr many m)
    ?hI ?hIx ⟨⟨_, hHI⟩, fun rest => rfl⟩
    (fun x a' W => ∃ Bx, w.heap.size + 4 ≤ Bx ∧ W.heap[Bx]? = some (.cells #[.int .i64 x.1.2.no, .int .i64 x.1.2.user, .string x.1.2.text, .int .i64 x.1.2.edits, .bool x.1.2.gone] 33 (0, 0)) ∧ a' = { tmps := #[.slice A n c, .int .i64 fr, .int .i64 many, undef, undef, .pointer (some ⟨w.heap.size, 0, none⟩), .pointer (some ⟨w.heap.size + 1, 0, none⟩), .pointer (some ⟨w.heap.size + 1 + 1, 0, none⟩), .pointer (some ⟨w.heap.size + 1 + 1 + 1, 0, none⟩), undef, .pointer (some ⟨Bx, 0, none⟩), .slice A n c, .slice A' m.length c', .int .i64 fr, .func (.func 41) #[] #[.pointer (some ⟨w1.heap.size, 0, none⟩), .pointer (some ⟨w1.heap.size + 1, 0, none⟩)], .int .i64 (x.1.1 : Int), .agg #[.int .i64 x.1.2.no, .int .i64 x.1.2.user, .string x.1.2.text, .int .i64 x.1.2.edits, .bool x.1.2.gone], undef, undef, undef, undef, undef, undef, undef, undef, undef, undef, undef, undef], defers := [] })
    ?hAx ?assign ?body ?done ?stop
  case assign =>
    rintro l pre x W K hI hK
    simp only [YE.args]
    gi_wp2
    have hsz : W0.heap.size ≤ W.heap.size := by obtain ⟨⟨v, h⟩, _⟩ := hI; exact h.2.2.2.2.2.2
    have h0 := unhide HS0
    exact hK _ _ ((KeepsOthers.alloc _ _).from _) ((Mid.refl _ _ W).alloc hsz _) (hI.alloc (by omega) _) ⟨W.heap.size, by omega, World.alloc_heap_new _ _, rfl⟩
  case body =>
    rintro l pre x a' W hl ⟨rec, hrec⟩ ⟨⟨v, hI⟩, hp⟩ ⟨Bx, hBx, hcx, rfl⟩ hlt
    obtain ⟨Aa, ca, rfl, hra, hca⟩ := own_open hI.2.2.2.2.1
    have hle := hra.le
    have c0 := hI.1.cell
    have c1 := hI.2.1.cell
    have c2 := hI.2.2.1.cell
    have c3 := hI.2.2.2.1.cell
    have f1 := hI.2.1.frozen
    have f2 := hI.2.2.1.frozen
    have f3 := hI.2.2.2.1.frozen
    have x0 : W.cell? ⟨Bx, 0, none⟩ = some (.int .i64 x.1.2.no) := by simp [World.cell?, hcx]
    have x1 : W.cell? ⟨Bx, 1, none⟩ = some (.int .i64 x.1.2.user) := by simp [World.cell?, hcx]
    have x2 : W.cell? ⟨Bx, 2, none⟩ = some (.string x.1.2.text) := by simp [World.cell?, hcx]
    have x3 : W.cell? ⟨Bx, 3, none⟩ = some (.int .i64 x.1.2.edits) := by simp [World.cell?, hcx]
    have x4 : W.cell? ⟨Bx, 4, none⟩ = some (.bool x.1.2.gone) := by simp [World.cell?, hcx]
    simp only [List.length_map] at *
    have HI := hide hI
    have HP := hide hp
    have hmx : Tryd.prog.follows .mixedOrders = true := by kernel_rfl
    have hd : 1 ≤ 8 - 1 := by omega
    have hne3 : w.heap.size + 1 + 1 ≠ w.heap.size + 1 := by omega
    have hneb1 : Bx ≠ w.heap.size + 1 := by omega
    have hneb2 : Bx ≠ w.heap.size + 1 + 1 := by omega
    have hne4 : w.heap.size + 1 + 1 + 1 ≠ w.heap.size + 1 := by omega
    have hne5 : w.heap.size + 1 + 1 + 1 ≠ w.heap.size + 1 + 1 := by omega
    clear hI hp hl hrec hcx hra
    have HLO4 : Hid (w.heap.size + 4 ≤ W0.heap.size) := by have := unhide HS0; simp only [Hid]; omega
    by_cases hmy : many ≤ (pre.length : Int)
    · gi_wp2
      gi_region_with_o (fail)
      all_goals gi_wp2
      all_goals
        obtain ⟨q1, q2, q3, q4, q5⟩ := page_full (no := x.1.2.no) (unhide HI) (unhide HLO4) rfl
        rw [List.length_map] at q4
        exact ⟨q1, rfl, pre, x, _, rfl, hmy, unhide HP, q2, q3, q4, q5⟩
    · have hol := (unhide HI).2.2.2.2.1.alloc (.cells #[.int .i64 x.1.2.no, .int .i64 x.1.2.user, .string x.1.2.text, .int .i64 x.1.2.edits, .bool x.1.2.gone] 33)
      rw [List.length_map] at hol
      have HOL := hide hol
      have HN := hide (Reads.own (own_lit (base := 0) W 33 5 1 #[.int .i64 x.1.2.no, .int .i64 x.1.2.user, .string x.1.2.text, .int .i64 x.1.2.edits, .bool x.1.2.gone] (Nat.zero_le _) (by simp [maxLen]) rfl))
      have H1 := hide (encs_one [x.1.2])
      have C1 : Hid (pre.length + 1 ≤ maxLen) := by have := unhide HLEN; simp only [Hid, maxLen]; omega
      have C2 : Hid ((pre.length + 1) * 48 ≤ 140737488355328) := by have := unhide HLEN; simp only [Hid]; omega
      have C3 : Hid (W0.heap.size ≤ (W.alloc (.cells #[.int .i64 x.1.2.no, .int .i64 x.1.2.user, .string x.1.2.text, .int .i64 x.1.2.edits, .bool x.1.2.gone] 33)).heap.size) := by
        have := (unhide HI).2.2.2.2.2.2
        simp only [Hid, World.size_alloc]; omega
      clear hol
      gi_wp2_with (gi_at_builtin; refine wpListIn_append_any _ rfl (.tmp 24) (.tmp 26) _ rfl W0.heap.size 33 i0 _ 5 48 Tryd.underlying22 hi hz0 hz1 hz2 rfl (Nat.succ_pos 4) (.slice Aa pre.length ca) pre.length (encs (pre.map (·.1.2))) rfl (unhide HOL) (some ⟨W.heap.size, 0, none⟩) 1 1 (encs [x.1.2]) rfl (unhide HN) (unhide H1) (unhide C1) (unhide C2) (unhide C3) ?_; intro v1 w4 hown hg hat; have HOWN := hide hown; have HG := hide hg; have hbx4 := (unhide HI).boxes (unhide HLO4) hg; have hc4 := hbx4.2.2.2.cell; have hf4 := hbx4.2.2.2.frozen; obtain ⟨A4, c4, rfl, _, _⟩ := own_open hown; clear hown hg hat hbx4)
      obtain ⟨q1, q2, q3⟩ := page_more (unhide HI) (unhide HLO4) (unhide HG) (by simpa using unhide HOWN) rfl
      refine ⟨q1, q2, ⟨_, by simpa using q3⟩, fun rest => ?_⟩
      rw [List.map_append, List.append_assoc, unhide HP]
      simp only [List.map_cons, List.map_nil, List.cons_append, List.nil_append, pgY, List.length_map, if_neg (show ¬ many ≤ (pre.length : Int) by omega)]
  case hI =>
    rintro pre W W' row ⟨⟨v, hI⟩, hp⟩ hg hrw
    exact ⟨⟨v, hI.grown (by have := unhide HS0; omega) hg hrw⟩, hp⟩
  case hAx =>
    rintro x a' u W W' row ⟨Bx, h1, h2, h3⟩ hg hrw
    refine ⟨Bx, h1, (hg.block Bx (Array.getElem?_eq_some_iff.1 h2).1 fun e' => ?_).trans h2, h3⟩
    obtain ⟨o, ho, hc⟩ := (hrw Bx e'.symm).2
    rw [h2] at ho; cases ho; cases hc
  case hIx =>
    rintro c2 pre W W' row ⟨h1, pre', x, v, h2, h3, h4, h5, h6, h7, h8⟩ hg hrw
    have hr' := fun q e => (hrw q e).2
    have h0 := unhide HS0
    exact ⟨h1, pre', x, v, h2, h3, h4, boxed_noncells h5 hg hr', boxed_noncells h6 hg hr', own_noncells h7 hg hr', h8.grown hg h8.size (fun k e => by have := (hrw k e).1; omega)⟩
  case done =>
    rintro D xs W hD hS ⟨⟨v, hI⟩, hp⟩ hK
    have hA : ANS = (xs.map (·.1.2), 0) := by
      have h1 : (ys fr 0 m).map (·.2) = xs.map (·.1.2) := (congrArg (List.map (·.2)) hS).symm.trans (by simp [Function.comp_def])
      have := hp []
      rw [unhide HF, h1]
      simpa [pgY] using this
    obtain ⟨A5, c5, rfl, hr5, hc5⟩ := own_open hI.2.2.2.2.1
    have c1 := hI.2.1.cell
    have c2 := hI.2.2.1.cell
    have c3 := hI.2.2.2.1.cell
    have f1 := hI.2.1.frozen
    have f2 := hI.2.2.1.frozen
    have HI := hide hI
    have HA := hide hA
    have hne3 : w.heap.size + 1 + 1 + 1 ≠ w.heap.size + 1 := by omega
    have hlo4 : w.heap.size + 4 ≤ W0.heap.size := by have := unhide HS0; omega
    clear hI hp hS hA
    gi_wp2
    rw [unhide HA]
    exact page_done (unhide HI) hlo4 (by omega) hK (by simp only [List.length_map]) rfl rfl
  case stop =>
    rintro D c2 pre W hD hS ⟨rfl, pre', x, v, rfl, hmy, hp, h5, h6, h7, h8⟩ hK
    have hA : ANS = (pre'.map (·.1.2), x.1.2.no) := by
      obtain ⟨rest, hrest⟩ := hS
      have h1 : (ys fr 0 m).map (·.2) = pre'.map (·.1.2) ++ (x.1.2 :: rest.map (·.2)) := (congrArg (List.map (·.2)) hrest).symm.trans (by simp [Function.comp_def])
      have := hp (x.1.2 :: rest.map (·.2))
      rw [unhide HF, h1, this, pgY, if_pos (by simpa using hmy)]
    obtain ⟨A5, c5, rfl, hr5, hc5⟩ := own_open h7
    gi_wp2
    refine ⟨by simp, .inl ⟨_, _, rfl, run_takeDeferred hK, ?_⟩⟩
    have k1 := cell_kept h5.cell (grownBy_putObj' _ D (.deferred none)) (fun r e => by cases e; exact ⟨_, hK, rfl⟩)
    have k2 := cell_kept h6.cell (grownBy_putObj' _ D (.deferred none)) (fun r e => by cases e; exact ⟨_, hK, rfl⟩)
    have hlo4 : w.heap.size + 4 ≤ W0.heap.size := by have := unhide HS0; omega
    refine ⟨.tuple #[.slice A5 pre'.length c5, .int .i64 x.1.2.no], by simp [results, Tryd.func15, go_sem, k1, k2], ?_⟩
    have h7' := own_noncells h7 (grownBy_putObj' W D (.deferred none)) (fun r e => by cases e; exact ⟨_, hK, rfl⟩)
    exact ⟨A5, pre'.length, c5, rfl, ⟨by simp, Reads.own h7'⟩, hc5, h8.grown (grownBy_putObj' W D (.deferred none)) h8.size (fun k e => by cases e; omega)⟩
end Go.Proofs.YtdpmfghlhgfhfaaDoor
