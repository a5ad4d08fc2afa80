/-
  The engine, part 8: new objects; stores.
-/
import Derived.Test.YtehcijjdibdljaaEnView
namespace Go.Am
open Go.RowKit

/-- w' is w, but block b holds the cells cs. -/
structure Wrote (w w' : World) (b : Nat) (cs : Array Value) (el : TypeId) : Prop where
  at_ : w'.heap[b]? = some (.cells cs el (0, 0))
  other : ∀ k, k ≠ b → w'.heap[k]? = w.heap[k]?
  size : w'.heap.size = w.heap.size
  os : w'.os = w.os
  tape : w'.tape = w.tape
  output : w'.output = w.output

theorem store_one {P : Program} {w : World} {b off : Nat} {cs : Array Value} {el : TypeId} {v : Value} (hb : w.heap[b]? = some (.cells cs el (0, 0))) (ho : off < cs.size) (hv : v.oneCell' = true) :
    ∃ w', (store ⟨b, off, none⟩ v).run P w = .ok () w' ∧ Wrote w w' b (cs.setIfInBounds off v) el := by
  refine ⟨w.setCell ⟨b, off, none⟩ v, ?_, ?_⟩
  · rw [run_store _ _ _ _ _ hv]
    simp [World.cell?, World.frozen?, hb, ho]
  · refine ⟨?_, fun k hk => Below.heap_setCell w _ v k hk, World.size_setCell .., rfl, rfl, rfl⟩
    simp [World.setCell, Array.getElem?_modify, hb]

theorem storeCells_ok {P : Program} {b off : Nat} {el : TypeId} (vs : List Value) : ∀ (n : Nat) (w : World) (cs : Array Value), w.heap[b]? = some (.cells cs el (0, 0)) → off + n + vs.length ≤ cs.size → (∀ v, v ∈ vs → v.oneCell' = true) →
    ∃ w', (storeCells ⟨b, off, none⟩ vs n).run P w = .ok () w' ∧ Wrote w w' b ((vs.zipIdx n).foldl (fun cs (c, j) => cs.setIfInBounds (off + j) c) cs) el := by
  induction vs with
  | nil => intro n w cs hb _ _; exact ⟨w, by simp [storeCells], hb, fun _ _ => rfl, rfl, rfl, rfl, rfl⟩
  | cons v vs ih =>
    intro n w cs hb hl hv
    simp only [List.length_cons] at hl
    obtain ⟨w1, h1, hw1⟩ := store_one (P := P) (off := off + n) hb (by omega) (hv v (List.mem_cons_self ..))
    obtain ⟨w2, h2, hw2⟩ := ih (n + 1) w1 _ hw1.at_ (by simp; omega) (fun x hx => hv x (List.mem_cons_of_mem _ hx))
    refine ⟨w2, ?_, ?_⟩
    · simp only [storeCells, Sem.run_bind, add_mk, h1, Result.andThen_ok, h2]
    · simp only [List.zipIdx_cons, List.foldl_cons]
      exact ⟨hw2.at_, fun k hk => (hw2.other k hk).trans (hw1.other k hk), hw2.size.trans hw1.size, hw2.os.trans hw1.os, hw2.tape.trans hw1.tape, hw2.output.trans hw1.output⟩

/-- What the cells are behind it. -/
theorem foldl_set (vs : List Value) : ∀ (n off : Nat) (cs : Array Value) (k : Nat), (((vs.zipIdx n).foldl (fun cs (c, j) => cs.setIfInBounds (off + j) c) cs)).size = cs.size ∧
    (((vs.zipIdx n).foldl (fun cs (c, j) => cs.setIfInBounds (off + j) c) cs))[k]? = if off + n ≤ k ∧ k < off + n + vs.length ∧ k < cs.size then vs[k - (off + n)]? else cs[k]? := by
  induction vs with
  | nil => intro n off cs k; simp; intro h1 h2; omega
  | cons v vs ih =>
    intro n off cs k
    simp only [List.zipIdx_cons, List.foldl_cons]
    obtain ⟨h1, h2⟩ := ih (n + 1) off (cs.setIfInBounds (off + n) v) k
    refine ⟨by rw [h1]; simp, ?_⟩
    rw [h2]
    simp only [Array.size_setIfInBounds, List.length_cons]
    by_cases hk : off + n = k
    · subst hk
      rw [if_neg (by omega)]
      by_cases hlt : off + n < cs.size
      · rw [if_pos ⟨Nat.le_refl _, by omega, hlt⟩]
        simp [hlt]
      · rw [if_neg (by omega)]
        simp [hlt]
    · by_cases hc : off + (n + 1) ≤ k ∧ k < off + (n + 1) + vs.length ∧ k < cs.size
      · rw [if_pos hc, if_pos (by omega)]
        have : k - (off + n) = (k - (off + (n + 1))) + 1 := by omega
        rw [this]
        rfl
      · rw [if_neg hc, if_neg (by omega)]
        rw [Array.getElem?_setIfInBounds_ne hk]


section
variable {K : Ctx} {ops : Array Oper} {c : Nat} {E : Nat → Prop} {β : Book} {s : RSt} {a : Act} {w : World} {i : Nat} {o : Oper}

theorem Wrote.shape {w w' : World} {b : Nat} {cs cs' : Array Value} {el : TypeId} (h : Wrote w w' b cs' el) (hb : w.heap[b]? = some (.cells cs el (0, 0))) (hs : cs'.size = cs.size) (k : Nat) : w'.shape? k = w.shape? k := by
  by_cases e : k = b
  · subst e; simp [World.shape?, h.at_, hb, hs]
  · exact shape_of_block (h.other k e)

theorem Wrote.kept {w w' : World} {b B : Nat} {cs cs' : Array Value} {el : TypeId} {G : Nat → Prop} (h : Wrote w w' b cs' el) (hb : w.heap[b]? = some (.cells cs el (0, 0))) (hs : cs'.size = cs.size) (hG : B ≤ b ∨ G b) : Kept B G w w' :=
  ⟨h.os, h.tape, h.output, by rw [h.size]; exact Nat.le_refl _, fun k hk hg => h.other k (fun e => by subst e; rcases hG with h | h; (· omega); (· exact hg h)), fun k _ => h.shape hb hs k⟩

theorem Wrote.keeps {w w' : World} {b id n : Nat} {cs cs' : Array Value} {el : TypeId} (h : Wrote w w' b cs' el) (hb : w.heap[b]? = some (.cells cs el (0, 0))) (hs : cs'.size = cs.size) (hm : β.m id = some (.lives b n true)) : Keeps β w β w' :=
  ⟨fun _ o h => ⟨o, h, o.later_refl⟩, fun k _ hf => h.other k (fun e => by subst e; exact hf.2 id n hm), fun _ _ h => h, fun k el' sz hk => by rw [h.shape hb hs]; exact hk⟩

theorem vH_some {f : Foot} {H : Heap} {id : Nat} {o1 : Ob} (h : vH f H id = some o1) : ∃ ob, H id = some ob ∧ o1.es = ob.es ∧ o1.n = ob.n := by
  unfold vH at h
  cases hr : memN f.rd id with
  | true =>
    simp only [hr, cond_true, Option.map_eq_some_iff] at h
    obtain ⟨ob, h1, rfl⟩ := h
    exact ⟨ob, h1, rfl, rfl⟩
  | false =>
    simp only [hr, cond_false] at h
    cases ha : memN f.al id with
    | false => simp [ha] at h
    | true =>
      simp only [ha, cond_true, Option.map_eq_some_iff] at h
      obtain ⟨ob, h1, rfl⟩ := h
      exact ⟨ob, h1, rfl, rfl⟩

/-! ### Books with other entries -/

def setB (β : Book) (l : List (Nat × Own)) : Book := ⟨fun id => match look l id with | some o => some o | none => β.m id, β.F⟩

theorem setB_at {l : List (Nat × Own)} {id : Nat} {o : Own} (h : look l id = some o) : (setB β l).m id = some o := by simp [setB, h]
theorem setB_old {l : List (Nat × Own)} {id : Nat} (h : look l id = none) : (setB β l).m id = β.m id := by simp [setB, h]

theorem look_one {α : Type} (k : Nat) (x : α) (id : Nat) : look [(k, x)] id = if k = id then some x else none := by
  by_cases h : k = id
  · subst h; simp [look]
  · have : Nat.beq k id = false := by
      cases hb : Nat.beq k id with
      | false => rfl
      | true => exact absurd (Nat.eq_of_beq_eq_true hb) h
    simp [look, this, h]

theorem look_cons {α : Type} (k : Nat) (x : α) (l : List (Nat × α)) (id : Nat) : look ((k, x) :: l) id = if k = id then some x else look l id := by
  by_cases h : k = id
  · subst h; simp [look]
  · have : Nat.beq k id = false := by
      cases hb : Nat.beq k id with
      | false => rfl
      | true => exact absurd (Nat.eq_of_beq_eq_true hb) h
    simp [look, this, h]

/-- A new object. -/
theorem RSim.made {u : Value} {v : AV} {x : Ob} {w' : World} (hs : RSim K ops c E β s a w) (hp : Pre K ops s i o) (hE : E i) (hg : s.G o.guard = true)
    (hb : Below w.heap.size w w') (hsz : w'.heap.size = w.heap.size + 1)
    (hN : ∀ β' : Book, β'.m (c + 8 * i) = some (.lives w.heap.size x.n x.mu) → Keeps β w β' w' → Rel β' w' v u ∧ HRel β' w' x w.heap.size) :
    ∃ β', RSim K ops c (less E i) β' (s.app i o ⟨v, true, [], [(c + 8 * i, some x)], []⟩) (a.put o.dst u) w' := by
  have hfr : β.m (c + 8 * i) = none := hs.h.freshE i 0 hE (by omega)
  have hk : Keeps β w (setB β [(c + 8 * i, .lives w.heap.size x.n x.mu)]) w' := by
    refine ⟨fun id o ho => ⟨o, ?_, o.later_refl⟩, fun b hlt _ => hb.block b hlt, fun b hlt hf => ⟨hf.1, fun id n => ?_⟩, fun b e z hbs => ?_⟩
    · rw [setB_old]
      · exact ho
      · rw [look_one, if_neg]
        rintro rfl
        rw [hfr] at ho; cases ho
    · by_cases e : c + 8 * i = id
      · rw [setB_at (o := .lives w.heap.size x.n x.mu) (by rw [look_one, if_pos e])]
        intro h; injection h with h; injection h with h1 h2 h3; omega
      · rw [setB_old (by rw [look_one, if_neg e])]; exact hf.2 id n
    · rw [shape_of_block (hb.block b (lt_of_shape hbs))]; exact hbs
  obtain ⟨hv, hob⟩ := hN _ (setB_at (by rw [look_one, if_pos rfl])) hk
  refine ⟨_, hs.step hp hE hg hk ((Kept.ofBelow K.G hb).mono hs.h.hB (fun _ _ h => h)) rfl (fun id ob h => ⟨fun _ => ?_, fun h => by cases h⟩) (fun id o' hl ho hgi => ?_) (fun id o' hl ho h => ?_) ?_ (fun id h => ?_) (fun id b n mu h => ?_)
    (fun _ => hv) (fun h => by cases h)⟩
  · simp only [look_one] at h
    by_cases e : c + 8 * i = id
    · rw [if_pos e] at h
      cases h
      subst e
      exact .inl ⟨_, setB_at (by rw [look_one, if_pos rfl]), hob⟩
    · rw [if_neg e] at h; cases h
  · simp only [look_one] at hl
    by_cases e : c + 8 * i = id
    · rw [if_pos e] at hl; cases hl
    · have hon : ∀ o' : Ob, Eff.on ⟨v, true, [], [(c + 8 * i, some x)], []⟩ id o' = o' := fun o' => by simp [Eff.on, look, memN]
      rw [hon]
      rcases hs.h.heap id o' ho hgi with ⟨b, h1, h2⟩ | ⟨h1, h2⟩
      · exact .inl ⟨b, by rw [setB_old (by rw [look_one, if_neg e])]; exact h1, h2.keep hk (hb.block b (hs.h.live id b _ _ h1).2)⟩
      · exact .inr ⟨by rw [setB_old (by rw [look_one, if_neg e])]; exact h1, h2⟩
  · simp only [look_one] at hl
    by_cases e : c + 8 * i = id
    · rw [if_pos e] at hl; cases hl
    · rw [setB_old (by rw [look_one, if_neg e])]; exact h
  · intro p q b n n' mu mu' h1 h2
    by_cases e1 : c + 8 * i = p <;> by_cases e2 : c + 8 * i = q
    · rw [← e1, ← e2]
    · rw [setB_at (o := .lives w.heap.size x.n x.mu) (by rw [look_one, if_pos e1])] at h1
      rw [setB_old (by rw [look_one, if_neg e2])] at h2
      cases h1; have := (hs.h.live q _ _ _ h2).2; omega
    · rw [setB_at (o := .lives w.heap.size x.n x.mu) (by rw [look_one, if_pos e2])] at h2
      rw [setB_old (by rw [look_one, if_neg e1])] at h1
      cases h2; have := (hs.h.live p _ _ _ h1).2; omega
    · rw [setB_old (by rw [look_one, if_neg e1])] at h1
      rw [setB_old (by rw [look_one, if_neg e2])] at h2
      exact hs.h.inj p q b n n' mu mu' h1 h2
  · by_cases e : c + 8 * i = id
    · exact .inr ⟨0, by omega, by omega⟩
    · rw [setB_old (by rw [look_one, if_neg e])] at h; exact .inl h
  · by_cases e : c + 8 * i = id
    · rw [setB_at (o := .lives w.heap.size x.n x.mu) (by rw [look_one, if_pos e])] at h
      cases h
      have := hs.h.hB
      exact ⟨.inl (by omega), by omega⟩
    · rw [setB_old (by rw [look_one, if_neg e])] at h
      have := (hs.h.live id b n mu h).2
      exact ⟨(hs.h.live id b n mu h).1, by omega⟩

/-- A store: into which object, and its cells behind it. -/
def estep (P : Program) (ρ : Operand → AV) (H : Heap) : Op → Option (Nat × Rep)
  | .store t a x => match ρ a, acells (ρ x), szT P t with
    | .own id es i j m, some cs, some z => match H id with
      | some o => bif Nat.beq o.es es && (Nat.beq cs.length z && (Nat.ble z m && cs.all AV.one)) then
          some (id, o.f.stor o.es i j z cs (fun i' j' => bif Nat.ble j j' && Nat.blt j' (j + z) then mixA (Nat.beq i' i) (atL cs (j' - j)) (o.f i' j') else o.f i' j')
            (fun i' j' => mixA (Nat.beq i' i && (Nat.ble j j' && Nat.blt j' (j + z))) (bif Nat.beq z 1 then atL cs 0 else atLI cs (j' - j)) (o.f i' j')))
        else none
      | none => none
    | .oel id es i base len k, some cs, some z => match H id with
      | some o => bif Nat.beq o.es es && (Nat.beq cs.length z && (Nat.beq z 1 && cs.all AV.one)) then
          some (id, o.f.upd o.es (fun i' j' => bif Nat.ble base j' && Nat.blt j' (base + len) then mixA (Nat.beq i' i && Nat.beq (j' - base) k) (atL cs 0) (o.f i' j') else o.f i' j')
            (fun i' j' => mixA (Nat.beq i' i && Nat.beq j' (base + k)) (atL cs 0) (o.f i' j')))
        else none
      | none => none
    | _, _, _ => none
  | _ => none

/-- A store into z cells of a row, and the object behind it. -/
theorem RSim.storeAt {f : Foot} {id ii j z : Nat} {f' : Rep} {cs : List AV} {t ty : TypeId} {ax x : Operand} {dst : Option Tmp} {pos : String} {after : Array Edge} {g : Option (Nat × Bool)} {o1 : Ob} {b n : Nat} {mu : Bool}
    (hs : RSim K ops c E β s a w) (hp : Pre K ops s i ⟨dst, .store t ax x, ty, pos, after, g⟩) (hE : E i) (hg : g = none)
    (hmu : (s.H id).map Ob.mu = some true) (hht : s.ht id = none) {xa : AV} (hx : Rel β w xa (a.eval x)) (hcs : acells xa = some cs) (hz : szT K.P t = some z) (ho1 : vH f s.H id = some o1) (hlen : cs.length = z) (hone : cs.all AV.one = true)
    (hau : a.eval ax = .pointer (some ⟨b, ii * o1.es + j, none⟩)) (hbk : β.m id = some (.lives b n mu)) (hi : ii < n) (hjz : j + z ≤ o1.es)
    (hin : ∀ (w : World) q v, j ≤ q → q < j + z → Rel β w (atL cs (q - j)) v → Rel β w (f' ii q) v) (hou : ∀ (w : World) p q v, q < o1.es → ¬ (p = ii ∧ j ≤ q ∧ q < j + z) → Rel β w (o1.f p q) v → Rel β w (f' p q) v) :
    ∃ w', (execOp a.eval ⟨dst, .store t ax x, ty, pos, after, g⟩).run K.P w = .ok .skip w' ∧ RSim K ops c (less E i) β (s.app i ⟨dst, .store t ax x, ty, pos, after, g⟩ ⟨.junk, true, [(id, f')], [], []⟩) (a.put dst undef) w' := by
  obtain ⟨ob, hob, hes1, hn1⟩ := vH_some ho1
  rw [hob] at hmu
  simp only [Option.map_some, Option.some.injEq] at hmu
  have hobH : Holds β w ob id := hs.h.heap id ob hob (by rw [hht]; rfl)
  obtain ⟨b', hb', _⟩ : ∃ b, β.m id = some (.lives b ob.n ob.mu) ∧ HRel β w ob b := by
    rcases hobH with h | ⟨h, _⟩
    · exact h
    · rw [hbk] at h; cases h
  rw [hbk] at hb'
  cases hb'
  rw [hmu] at hbk
  obtain ⟨_, _, vs, el, hheap, hsz, hcells⟩ := (hs.ok f).lives ho1 hbk
  obtain ⟨hcl, hcr⟩ := rel_cells hx hcs
  have hrow : ii * o1.es + o1.es ≤ vs.size := by
    have := Nat.mul_le_mul_right o1.es (show ii + 1 ≤ o1.n by omega)
    rw [Nat.add_mul] at this
    omega
  have honev : ∀ (q' : Nat) (hq : q' < (a.eval x).cells.size), ((a.eval x).cells[q']).oneCell' = true := fun q' hq => by
    have hq2 : q' < cs.length := by rw [hcl]; exact hq
    have := hcr q' cs[q'] ((a.eval x).cells[q']) (by simp [hq2]) (by simp [hq])
    exact one_cell this (List.all_eq_true.1 hone _ (List.getElem_mem hq2))
  obtain ⟨w', hrun, hwr⟩ := storeCells_ok (P := K.P) (off := ii * o1.es + j) (a.eval x).cells.toList 0 w vs hheap (by simp; omega) (fun y hy => by
    obtain ⟨q', hq', rfl⟩ := List.getElem_of_mem hy
    simpa using honev q' (by simpa using hq'))
  have hset := foldl_set (a.eval x).cells.toList 0 (ii * o1.es + j) vs
  have hk := hwr.keeps hheap (hset 0).1 hbk
  refine ⟨w', ?_, ?_⟩
  · simp only [execOp, Instr.storeAt, hau, Instr.sureAddr, Sem.run_bind, Sem.run_pure, Result.andThen_ok, storeVar, szT_run w hz, if_neg (show ¬ (a.eval x).cells.size ≠ z by omega), hrun]
  · refine hs.step hp hE (by rw [hg]; rfl) hk (hwr.kept hheap (hset 0).1 (hs.h.live id b _ _ hbk).1) rfl (fun id ob h => by cases h) (fun id2 o2 _ ho2 hgi => ?_) (fun id2 o2 _ _ h => h) hs.h.inj (fun id h => .inl h)
      (fun id2 b2 n2 mu2 h => by rw [hwr.size]; exact hs.h.live id2 b2 n2 mu2 h) (fun _ => .junk) (fun _ => rfl)
    by_cases e : id = id2
    · subst e
      rw [hob] at ho2
      cases ho2
      refine .inl ⟨b, by simp only [Eff.on, memN, hmu]; exact hbk, _, el, hwr.at_, ?_, fun p q hp' hq' => ?_⟩
      · show ob.n * ob.es ≤ _
        rw [(hset 0).1, ← hes1, ← hn1]; exact hsz
      · have hp'' : p < o1.n := by rw [hn1]; exact hp'
        have hq'' : q < o1.es := by rw [hes1]; exact hq'
        obtain ⟨y, hy, hyr, hyo⟩ := hcells p q hp'' hq''
        have hlt : p * o1.es + q < vs.size := (Array.getElem?_eq_some_iff.1 hy).1
        show ∃ v, _[p * ob.es + q]? = some v ∧ Rel β w' ((match look [(id, f')] id with | some f => f | none => ob.f) p q) v ∧ v.oneCell' = true
        rw [look_one, if_pos rfl, ← hes1, (hset (p * o1.es + q)).2]
        simp only
        by_cases hcond : p = ii ∧ j ≤ q ∧ q < j + z
        · obtain ⟨e1, e2, e3⟩ := hcond
          subst e1
          rw [if_pos (by simp; omega)]
          have hq3 : q - j < cs.length := by omega
          have hq4 : q - j < (a.eval x).cells.size := by omega
          have e4 : p * o1.es + q - (p * o1.es + j + 0) = q - j := by omega
          rw [e4]
          refine ⟨(a.eval x).cells[q - j], by simp [hq4], ?_, honev _ hq4⟩
          refine hin w' q _ e2 e3 ?_
          rw [atL_of (u := cs[q - j]) (by simp [hq3])]
          exact (hcr (q - j) _ _ (by simp [hq3]) (by simp [hq4])).keep hk
        · have hout : ¬ (ii * o1.es + j + 0 ≤ p * o1.es + q ∧ p * o1.es + q < ii * o1.es + j + 0 + (a.eval x).cells.toList.length ∧ p * o1.es + q < vs.size) := by
            rintro ⟨g1, g2, _⟩
            simp only [Array.length_toList] at g2
            have hpi : p = ii := by
              rcases Nat.lt_trichotomy p ii with hlt' | heq | hgt
              · have := Nat.mul_le_mul_right o1.es (show p + 1 ≤ ii by omega)
                rw [Nat.add_mul] at this; omega
              · exact heq
              · have := Nat.mul_le_mul_right o1.es (show ii + 1 ≤ p by omega)
                rw [Nat.add_mul] at this; omega
            subst hpi
            exact hcond ⟨rfl, by omega, by omega⟩
          rw [if_neg hout]
          exact ⟨y, hy, hou w' p q _ hq'' hcond (hyr.keep hk), hyo⟩
    · have hon : Eff.on ⟨.junk, true, [(id, f')], [], []⟩ id2 o2 = o2 := by simp [Eff.on, look_one, e, memN]
      rw [hon]
      rcases hs.h.heap id2 o2 ho2 hgi with ⟨b1, hb1, hr1⟩ | h0
      · refine .inl ⟨b1, hb1, hr1.keep hk (hwr.other b1 (fun e' => e ?_))⟩
        subst e'
        exact hs.h.inj id id2 _ _ _ _ _ hbk hb1
      · exact .inr h0

/-- A store, and the object behind it. -/
theorem mixA_false' {β : Book} {w : World} {cc : Bool} {x y : AV} {v : Value} (hc : cc = false) (h : Rel β w y v) : Rel β w (mixA cc x y) v := by subst hc; exact mixA_false h

theorem atLI_rel {β : Book} {w : World} {cs : List AV} {q : Nat} {v : Value} (hq : q < cs.length) (h : Rel β w (atL cs q) v) : Rel β w (atLI cs q) v := by
  unfold atLI
  split
  · rename_i kk hk
    obtain ⟨x, hx⟩ := kindAll_spec hk q hq
    rw [hx] at h ⊢
    exact h
  · exact h

theorem RSim.stored {ρ : Operand → AV} {f : Foot} {id : Nat} {f' : Rep} (hs : RSim K ops c E β s a w) (hp : Pre K ops s i o) (hE : E i) (hg : o.guard = none) (hρ : ∀ x, x ∈ o.op.operands → Rel β w (ρ x) (a.eval x))
    (hmu : (s.H id).map Ob.mu = some true) (hht : s.ht id = none) (h : estep K.P ρ (vH f s.H) o.op = some (id, f')) :
    ∃ w', (execOp a.eval o).run K.P w = .ok .skip w' ∧ RSim K ops c (less E i) β (s.app i o ⟨.junk, true, [(id, f')], [], []⟩) (a.put o.dst undef) w' := by
  obtain ⟨dst, op, ty, pos, after, g⟩ := o
  cases op <;> simp only [estep, reduceCtorEq] at h
  rename_i t ax x
  have ha := hρ ax (by simp [Op.operands])
  have hx := hρ x (by simp [Op.operands])
  split at h
  · rename_i id' es ii j m cs z hav hcs hz
    split at h
    · rename_i o1 ho1
      obtain ⟨hc, h2⟩ := bif_some h
      clear h
      simp only [Bool.and_eq_true, Nat.ble_eq] at hc
      obtain ⟨hes, hlen, hzm, hone⟩ := hc
      have hes := Nat.eq_of_beq_eq_true hes
      have hlen := Nat.eq_of_beq_eq_true hlen
      subst hes
      cases h2
      rw [hav] at ha
      obtain ⟨b, n, mu, hau, hbk, hi, hj⟩ := own_addr (hs.ok f) ha ho1
      refine hs.storeAt hp hE hg hmu hht hx hcs hz ho1 hlen hone hau hbk hi (by omega) (fun w q v h1 h2 hr => ?_) (fun w p q v hqe hn hr => ?_)
      · have e1 : (Nat.ble j q && Nat.blt q (j + z)) = true := by simp only [Bool.and_eq_true, Nat.ble_eq, Nat.blt_eq]; exact ⟨h1, h2⟩
        refine Rep.stor_rel (fun e0 _ => ?_) (Rep.upd_rel ?_ ?_)
        · rw [Nat.beq_refl]
          subst e0
          exact mixA_true hr
        · simp only [e1, cond_true, Nat.beq_refl]
          exact mixA_true hr
        · simp only [e1, Nat.beq_refl, Bool.and_self]
          refine mixA_true ?_
          cases hz1 : Nat.beq z 1 with
          | true =>
            have := Nat.eq_of_beq_eq_true hz1
            have e : q - j = 0 := by omega
            rw [e] at hr
            exact hr
          | false => exact atLI_rel (by omega) hr
      · refine Rep.stor_rel (fun e0 ez => mixA_false' ?_ hr) (Rep.upd_rel ?_ (mixA_false' ?_ hr))
        case refine_1 =>
          cases e1 : Nat.beq p ii with
          | false => rfl
          | true => exact absurd ⟨Nat.eq_of_beq_eq_true e1, by omega, by omega⟩ hn
        case refine_3 =>
          cases e1 : (Nat.beq p ii && (Nat.ble j q && Nat.blt q (j + z))) with
          | false => rfl
          | true =>
            simp only [Bool.and_eq_true, Nat.ble_eq, Nat.blt_eq] at e1
            exact absurd ⟨Nat.eq_of_beq_eq_true e1.1, e1.2⟩ hn
        cases e1 : (Nat.ble j q && Nat.blt q (j + z)) with
        | false => simpa using hr
        | true =>
          simp only [Bool.and_eq_true, Nat.ble_eq, Nat.blt_eq] at e1
          cases e2 : Nat.beq p ii with
          | true => exact absurd ⟨Nat.eq_of_beq_eq_true e2, e1⟩ hn
          | false => simp only [cond_true]; exact mixA_false hr
    · cases h
  · rename_i id' es ii base len k cs z hav hcs hz
    split at h
    · rename_i o1 ho1
      obtain ⟨hc, h2⟩ := bif_some h
      clear h
      simp only [Bool.and_eq_true] at hc
      obtain ⟨hes, hlen, hz1, hone⟩ := hc
      have hes := Nat.eq_of_beq_eq_true hes
      have hlen := Nat.eq_of_beq_eq_true hlen
      have hz1 := Nat.eq_of_beq_eq_true hz1
      subst hes
      subst hz1
      cases h2
      rw [hav] at ha
      obtain ⟨b, n, mu, hau, hbk, hi, hk, hl⟩ := oel_addr (hs.ok f) ha ho1
      · refine hs.storeAt (j := base + k) hp hE hg hmu hht hx hcs hz ho1 hlen hone hau hbk hi (by omega) (fun w q v h1 h2 hr => ?_) (fun w p q v hqe hn hr => ?_)
        · have e1 : (Nat.ble base q && Nat.blt q (base + len)) = true := by simp only [Bool.and_eq_true, Nat.ble_eq, Nat.blt_eq]; omega
          have e2 : q - base = k := by omega
          have e3 : q - (base + k) = 0 := by omega
          rw [e3] at hr
          refine Rep.upd_rel ?_ ?_
          · simp only [e1, cond_true, Nat.beq_refl, e2, Bool.and_self]
            exact mixA_true hr
          · have e4 : Nat.beq q (base + k) = true := by rw [show q = base + k by omega]; exact Nat.beq_refl _
            simp only [e4, Nat.beq_refl, Bool.and_self]
            exact mixA_true hr
        · refine Rep.upd_rel ?_ (mixA_false' ?_ hr)
          case refine_2 =>
            cases e1 : (Nat.beq p ii && Nat.beq q (base + k)) with
            | false => rfl
            | true =>
              rw [Bool.and_eq_true] at e1
              have e3 := Nat.eq_of_beq_eq_true e1.1
              have e4 := Nat.eq_of_beq_eq_true e1.2
              exact absurd ⟨e3, by omega, by omega⟩ hn
          cases e1 : (Nat.ble base q && Nat.blt q (base + len)) with
          | false => simpa using hr
          | true =>
            simp only [Bool.and_eq_true, Nat.ble_eq, Nat.blt_eq] at e1
            cases e2 : (Nat.beq p ii && Nat.beq (q - base) k) with
            | true =>
              rw [Bool.and_eq_true] at e2
              have e3 := Nat.eq_of_beq_eq_true e2.1
              have e4 := Nat.eq_of_beq_eq_true e2.2
              exact absurd ⟨e3, by omega, by omega⟩ hn
            | false => simp only [cond_true]; exact mixA_false hr
    · cases h
  · cases h

end
end Go.Am
