/-
  The engine, part 3: 'mstep' is right: what the model's operation yields is what the abstract one says.
-/
import Derived.Test.YtehcijjdibdljaaEnStep
namespace Go.Am
open Go.RowKit

theorem bif_some {c : Bool} {α : Type} {x : α} {y : Option α} (h : (bif c then y else none) = some x) : c = true ∧ y = some x := by
  cases c with
  | true => exact ⟨rfl, h⟩
  | false => cases h

/-- The block b holds the object. -/
def HRel (β : Book) (w : World) (o : Ob) (b : Nat) : Prop :=
  ∃ cs el, w.heap[b]? = some (.cells cs el (0, 0)) ∧ o.n * o.es ≤ cs.size ∧ ∀ i j, i < o.n → j < o.es → ∃ v, cs[i * o.es + j]? = some v ∧ Rel β w (o.f i j) v ∧ v.oneCell' = true

/-- What an operation yields, over the old book: a value; or a new block, and a pointer to it or a slice of it. -/
def MOk (β : Book) (w : World) (nid : Nat) (r : Result Next) (v : AV) : Option Ob → Prop
  | none => ∃ u, r = .ok (.value u) w ∧ Rel β w v u
  | some x => x.mu = true ∧ ∃ cs el, x.n * x.es ≤ cs.size ∧ (∀ i j, i < x.n → j < x.es → ∃ u, cs[i * x.es + j]? = some u ∧ Rel β w (x.f i j) u ∧ u.oneCell' = true) ∧
      ((v = .own nid x.es 0 0 x.es ∧ x.n = 1 ∧ r = .ok (.value (.pointer (some ⟨w.heap.size, 0, none⟩))) (w.alloc (.cells cs el))) ∨
       (v = .osl nid x.es 0 x.n ∧ cs.size = x.n * x.es ∧ r = .ok (.value (.slice (some ⟨w.heap.size, 0, none⟩) x.n x.n)) (w.alloc (.cells cs el))))

theorem rel_cv (β : Book) (w : World) (v : Value) : Rel β w (cv v) v := by
  unfold cv
  split
  · exact .int
  · exact .bool
  · exact .str
  · exact .nsl
  · exact .junk
  · rename_i h1 h2 h3 h4 h5
    exact .raw fun cs e => h5 cs e

theorem rel_zcells (β : Book) (w : World) (v : Value) (j : Nat) (u : AV) (x : Value) (hu : (zcells v)[j]? = some u) (hx : v.cells[j]? = some x) : Rel β w u x := by
  unfold zcells at hu
  rw [List.getElem?_map] at hu
  rw [Array.getElem?_toList, hx] at hu
  simp at hu
  subst hu
  exact rel_cv β w x

theorem zcells_length (v : Value) : (zcells v).length = v.cells.size := by simp [zcells]

theorem rel_cvA (β : Book) (w : World) (v : Value) : Rel β w (cvA v) v := by
  unfold cvA
  split
  · rename_i cs
    refine .agg (by simp) fun j u x hu hx => ?_
    rw [List.getElem?_map, Array.getElem?_toList, hx] at hu
    simp at hu
    subst hu
    exact rel_cv β w x
  · exact rel_cv β w v

/-- The cells of a related value. -/
theorem rel_cells {β : Book} {w : World} {a : AV} {v : Value} {cs : List AV} (h : Rel β w a v) (hc : acells a = some cs) :
    cs.length = v.cells.size ∧ ∀ (j : Nat) u x, cs[j]? = some u → v.cells[j]? = some x → Rel β w u x := by
  have one : ∀ v' : Value, Rel β w a v' → (∀ c, v' ≠ .agg c) → cs = [a] → cs.length = v'.cells.size ∧ ∀ (j : Nat) u x, cs[j]? = some u → v'.cells[j]? = some x → Rel β w u x := by
    intro v' hr hv hcs
    subst hcs
    have hcells : v'.cells = #[v'] := by cases v' <;> first | rfl | exact absurd rfl (hv _)
    rw [hcells]
    refine ⟨rfl, fun j u x hu hx => ?_⟩
    cases j with
    | zero => simp at hu hx; subst hu; subst hx; exact hr
    | succ j => simp at hu
  cases h <;> simp only [acells, Option.some.injEq, reduceCtorEq] at hc
  case agg cs' hl hr => subst hc; exact ⟨hl, hr⟩
  case raw h => exact one _ (.raw h) h hc.symm
  all_goals (refine one _ (by first | exact .int | exact .bool | exact .str | exact .nsl | exact .esl | exact .own ‹_› ‹_› ‹_› | exact .ownD ‹_› | exact .oel ‹_› ‹_› ‹_› ‹_› | exact .oelD ‹_› | exact .osl ‹_› ‹_› ‹_› ‹_› ‹_› | exact .osl0 ‹_› | exact .oslD ‹_› | exact .isl _ ‹_› ‹_› ‹_› ‹_› ‹_› ‹_› ‹_› | exact .isl0 ‹_› | exact .ipt _ ‹_› ‹_› ‹_› ‹_› ‹_› ‹_› | exact .tup ‹_› ‹_› | exact .fn ‹_› ‹_› ‹_› ‹_› | exact .ifc ‹_› | exact .nn ‹_›) (by intro c; simp) hc.symm)

theorem atL_of {cs : List AV} {j : Nat} {u : AV} (h : cs[j]? = some u) : atL cs j = u := by simp [atL, List.getD, h]

theorem one_cell {β : Book} {w : World} {u : AV} {v : Value} (h : Rel β w u v) (ho : u.one = true) : v.oneCell' = true := by
  cases h <;> first | rfl | (simp [AV.one] at ho; done) | skip
  case raw hh => cases v <;> first | rfl | (simp [AV.one] at ho)

/-- A box over cells. -/
theorem boxed_ok {β : Book} {w : World} {nid : Nat} {cs : List AV} {vs : Array Value} {el : TypeId} {r : Result Next} (hone : cs.all AV.one = true) (hl : cs.length = vs.size)
    (hr : ∀ (j : Nat) u x, cs[j]? = some u → vs[j]? = some x → Rel β w u x) (he : r = .ok (.value (.pointer (some ⟨w.heap.size, 0, none⟩))) (w.alloc (.cells vs el))) :
    MOk β w nid r (boxed nid cs).1 (boxed nid cs).2 := by
  refine ⟨rfl, vs, el, by simp [hl], fun i j hi hj => ?_, .inl ⟨rfl, rfl, he⟩⟩
  have hi' : i < 1 := hi
  have hj' : j < cs.length := hj
  obtain rfl : i = 0 := by omega
  have hj2 : j < vs.size := by omega
  have := hr j cs[j] vs[j] (by simp [hj']) (by simp [hj2])
  refine ⟨vs[j], by simp [hj2], ?_, one_cell this (List.all_eq_true.1 hone _ (List.getElem_mem hj'))⟩
  show Rel β w (atL cs j) vs[j]
  rw [atL_of (u := cs[j]) (by simp [hj'])]
  exact this

/-! ### Parts of structs -/

/-- Cells that are related one by one. -/
structure Rels (β : Book) (w : World) (cs : List AV) (vs : Array Value) : Prop where
  len : cs.length = vs.size
  rel : ∀ (j : Nat) u x, cs[j]? = some u → vs[j]? = some x → Rel β w u x

theorem Rels.at {β : Book} {w : World} {cs : List AV} {vs : Array Value} (h : Rels β w cs vs) {j : Nat} {u : AV} (hu : cs[j]? = some u) : ∃ x, vs[j]? = some x ∧ Rel β w u x := by
  have hj : j < cs.length := (List.getElem?_eq_some_iff.1 hu).1
  have hj' : j < vs.size := by have := h.len; omega
  exact ⟨vs[j], by simp [hj'], h.rel j _ _ hu (by simp [hj'])⟩

theorem Rels.set {β : Book} {w : World} {cs : List AV} {vs : Array Value} (h : Rels β w cs vs) {u : AV} {x : Value} (hr : Rel β w u x) (k : Nat) : Rels β w (cs.set k u) (vs.setIfInBounds k x) := by
  refine ⟨by simp [h.len], fun j a b ha hb => ?_⟩
  rw [List.getElem?_set] at ha
  rw [Array.getElem?_setIfInBounds] at hb
  have hl := h.len
  by_cases hk : k = j
  · subst hk
    by_cases hlt : k < cs.length
    · rw [if_pos rfl, if_pos hlt] at ha
      rw [if_pos rfl, if_pos (by omega)] at hb
      cases ha; cases hb
      exact hr
    · rw [if_pos rfl, if_neg hlt] at ha
      cases ha
  · rw [if_neg hk] at ha hb
    exact h.rel j a b ha hb

theorem splice_rels {β : Book} {w : World} (vs : List AV) : ∀ (us : List Value) (cs : List AV) (zs : Array Value) (off n : Nat), Rels β w cs zs → vs.length = us.length →
    (∀ (j : Nat) u x, vs[j]? = some u → us[j]? = some x → Rel β w u x) →
    Rels β w (splice cs (off + n) vs) ((us.zipIdx n).foldl (fun cs (c, j) => cs.setIfInBounds (off + j) c) zs) := by
  induction vs with
  | nil => intro us cs zs off n h hl _; cases us with
    | nil => exact h
    | cons => simp at hl
  | cons v vs ih =>
    intro us cs zs off n h hl hr
    cases us with
    | nil => simp at hl
    | cons u us =>
      simp only [List.zipIdx_cons, List.foldl_cons, splice]
      have := ih us (cs.set (off + n) v) (zs.setIfInBounds (off + n) u) off (n + 1) (h.set (hr 0 v u rfl rfl) _) (by simpa using hl) (fun j a b ha hb => hr (j + 1) a b (by simpa using ha) (by simpa using hb))
      simpa [Nat.add_assoc] using this

theorem splice_length (vs : List AV) : ∀ (cs : List AV) (off : Nat), (splice cs off vs).length = cs.length := by
  induction vs with
  | nil => intro cs off; rfl
  | cons v vs ih => intro cs off; simp [splice, ih]

theorem afill_length {ρ : Operand → AV} {place : Nat → Option (Nat × Nat)} {parts : List (Nat × Operand)} : ∀ {cs out : List AV}, afill ρ place cs parts = some out → out.length = cs.length := by
  induction parts with
  | nil => intro cs out h; simp [afill] at h; subst h; rfl
  | cons p rest ih =>
    intro cs out h
    obtain ⟨i, x⟩ := p
    simp only [afill] at h
    split at h
    · rename_i off size vs _ _
      cases hb : (Nat.beq vs.length size && Nat.ble (off + vs.length) cs.length) with
      | false => simp [hb] at h
      | true => simp only [hb, cond_true] at h; rw [ih h, splice_length]
    · cases h

theorem fill_ok {β : Book} {w : World} {ρ : Operand → AV} {σ : Operand → Value} {place place' : Nat → Option (Nat × Nat)} (hp : ∀ i, place i = place' i) (parts : List (Nat × Operand)) :
    ∀ (cs : List AV) (zs : Array Value) (out : List AV), Rels β w cs zs → (∀ p, p ∈ parts → Rel β w (ρ p.2) (σ p.2)) → afill ρ place cs parts = some out →
    ∃ zs', Instr.fill place' zs (parts.map fun p => (p.1, σ p.2)) = some zs' ∧ Rels β w out zs' := by
  induction parts with
  | nil => intro cs zs out h _ ho; simp [afill] at ho; subst ho; exact ⟨zs, by simp [Instr.fill], h⟩
  | cons p rest ih =>
    intro cs zs out h hr ho
    obtain ⟨i, x⟩ := p
    simp only [afill] at ho
    cases hpl : place i with
    | none => simp [hpl] at ho
    | some os =>
      obtain ⟨off, size⟩ := os
      cases hac : acells (ρ x) with
      | none => simp [hpl, hac] at ho
      | some vs =>
        simp only [hpl, hac] at ho
        have hx : Rel β w (ρ x) (σ x) := hr (i, x) (List.mem_cons_self ..)
        obtain ⟨hlen, hrel⟩ := rel_cells hx hac
        cases hb : (Nat.beq vs.length size && Nat.ble (off + vs.length) cs.length) with
        | false => simp [hb] at ho
        | true =>
          simp only [hb, cond_true] at ho
          rw [Bool.and_eq_true, Nat.ble_eq] at hb
          have hb1 := Nat.eq_of_beq_eq_true hb.1
          have hsz : (σ x).cells.size = size := by omega
          have hle : off + (σ x).cells.size ≤ zs.size := by have := h.len; omega
          have hs := splice_rels vs (σ x).cells.toList cs zs off 0 h (by simp [hlen]) (fun j u y hu hy => hrel j u y hu (by simpa using hy))
          obtain ⟨zs', hz, hout⟩ := ih _ _ out hs (fun p hp => hr p (List.mem_cons_of_mem _ hp)) ho
          refine ⟨zs', ?_, hout⟩
          simp only [List.map_cons, Instr.fill, ← hp i, hpl]
          rw [if_neg (by simp [hsz]; omega)]
          rw [← hz]
          congr 1
          rw [← Array.foldl_toList, Array.toList_zipIdx]

theorem isAgg_run {P : Program} {t : TypeId} {b : Bool} (w : World) (h : isAggT P t = some b) : (isAgg t).run P w = .ok b w := by
  unfold isAggT at h
  cases hu : P.underlying t with
  | none => simp [hu] at h
  | some d =>
    cases d <;> simp [hu] at h <;> subst h <;> simp [isAgg, run_underlying hu]

theorem part_ok {P : Program} {β : Book} {w : World} {t : TypeId} {cs : List AV} {vs : Array Value} {off : Nat} {v : AV} (h : Rels β w cs vs) (hv : apart? P t cs off = some v) :
    ∃ u, (part t vs off).run P w = .ok u w ∧ Rel β w v u := by
  unfold apart? szT at hv
  cases hg : isAggT P t with
  | none => simp [hg] at hv
  | some g =>
    have h2 := isAgg_run w hg
    cases g with
    | true =>
      cases hi : P.info? t with
      | none => simp [hg, hi] at hv
      | some info =>
        simp only [hg, hi, Option.map_some] at hv
        cases hb : Nat.ble (off + info.size) cs.length with
        | false => simp [hb] at hv
        | true =>
          simp only [hb, cond_true, Option.some.injEq] at hv
          subst hv
          have hl := h.len
          rw [Nat.ble_eq] at hb
          refine ⟨.agg (vs.extract off (off + info.size)), by simp [part, h2, sizeOf, typeInfo, hi], .agg (by simp; omega) fun j u x hu' hx' => ?_⟩
          rw [List.getElem?_take] at hu'
          split at hu'
          · rw [List.getElem?_drop] at hu'
            rw [Array.getElem?_extract] at hx'
            split at hx'
            · exact h.rel _ _ _ hu' hx'
            · cases hx'
          · cases hu'
    | false =>
      have hv' : cs[off]? = some v := by
        revert hv
        cases (P.info? t) <;> simp [hg]
      obtain ⟨x, hx, hr⟩ := h.at hv'
      exact ⟨x, by simp [part, h2, hx], hr⟩

theorem loadCells_ok {P : Program} {w : World} {b off : Nat} (g : Nat → Value) : ∀ (n i : Nat) (acc : Array Value), (∀ j, j < i + n → w.cell? ⟨b, off + j, none⟩ = some (g j)) →
    (loadCellsFrom ⟨b, off, none⟩ i n acc).run P w = .ok (acc ++ ((List.range' i n).map g).toArray) w := by
  intro n
  induction n with
  | zero => intro i acc _; simp [loadCellsFrom]
  | succ n ih =>
    intro i acc h
    have hc : w.cell? ((⟨b, off, none⟩ : Addr).add i) = some (g i) := by
      have := h i (by omega)
      unfold Addr.add
      split
      · rename_i h0; subst h0; simpa using this
      · exact this
    simp only [loadCellsFrom, Sem.run_bind, run_load, hc, Result.andThen_ok]
    rw [ih (i + 1) (acc.push (g i)) (fun j hj => h j (by omega))]
    simp [List.range'_succ]

theorem read_ok {P : Program} {β : Book} {w : World} {t : TypeId} {m b off : Nat} {g : Nat → AV} {v : AV} (vals : Nat → Value) (hc : ∀ j, j < m → w.cell? ⟨b, off + j, none⟩ = some (vals j))
    (hr : ∀ j, j < m → Rel β w (g j) (vals j)) (hv : readT P t m g = some v) : ∃ u, (loadVar t ⟨b, off, none⟩).run P w = .ok u w ∧ Rel β w v u := by
  unfold readT szT at hv
  cases hg : isAggT P t with
  | none => simp [hg] at hv
  | some gg =>
    have h2 := isAgg_run w hg
    cases gg with
    | true =>
      cases hi : P.info? t with
      | none => simp [hg, hi] at hv
      | some info =>
        simp only [hg, hi, Option.map_some] at hv
        cases hb : Nat.ble info.size m with
        | false => simp [hb] at hv
        | true =>
          simp only [hb, cond_true, Option.some.injEq] at hv
          subst hv
          rw [Nat.ble_eq] at hb
          have hl := loadCells_ok (P := P) (w := w) (b := b) (off := off) vals info.size 0 #[] (fun j hj => hc j (by omega))
          refine ⟨.agg ((List.range' 0 info.size).map vals).toArray, by simp [loadVar, h2, sizeOf, typeInfo, hi, loadCells, hl], .agg (by simp) fun j u x hu' hx' => ?_⟩
          simp only [List.getElem?_map, List.getElem?_toArray] at hu' hx'
          by_cases hj : j < info.size
          · simp [hj] at hu' hx'
            subst hu'; subst hx'
            exact hr j (by omega)
          · simp [hj] at hu'
    | false =>
      have hv' : 0 < m ∧ g 0 = v := by
        revert hv
        cases hb : Nat.blt 0 m with
        | false => cases (P.info? t) <;> simp [hg]
        | true => rw [Nat.blt_eq] at hb; cases (P.info? t) <;> simp [hg, hb]
      obtain ⟨hm, rfl⟩ := hv'
      have := hc 0 hm
      rw [Nat.add_zero] at this
      exact ⟨vals 0, by simp [loadVar, h2, this], hr 0 hm⟩

end Go.Am
