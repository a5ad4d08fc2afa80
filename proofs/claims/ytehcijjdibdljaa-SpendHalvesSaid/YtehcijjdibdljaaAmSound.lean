/-
  The engine, part 8: one operation of the walk is what the model does.
-/
import Derived.Test.YtehcijjdibdljaaAmTree
namespace Go.Am
open Go.RowKit

/-- One operation of the walk that writes nothing: its value, the object that it makes, the objects that are frozen. -/
inductive OpV (C : Cfg) (c i : Nat) (o : Oper) (s : RSt) : AV → Option Ob → List Nat → Prop where
  | m {q : Rq} {v : AV} {ob : Option Ob} (h : mstep C.P (ev C.gl s.fr) s.H (c + i) o.op = some (q, v, ob)) (hq : s.G o.guard = true → q.holds) : OpV C c i o s v ob []
  | sc {f : FuncId} {as : List AV} {r : AV} (h : calleeOf (ev C.gl s.fr) o.op = some (f, as)) (hp : s.G o.guard = true → Pure C.P C.gl f (as.map (frz false 9 s.H)) r) (hs : sc 9 r = true) : OpV C c i o s r none []
  | dc {f : FuncId} {as : List AV} {r : AV} (ids : List Nat) (hids : ∀ id, memN ids id = true → s.H id ≠ none) (h : calleeOf (ev C.gl s.fr) o.op = some (f, as))
      (hp : s.G o.guard = true → Pure C.P C.gl f (as.map (frz true 9 (frzH ids s.H))) r) : OpV C c i o s r none ids

/-- One operation of the walk. -/
inductive OpAt (C : Cfg) (c i : Nat) (o : Oper) (s : RSt) : RSt → Prop where
  | v {v : AV} {ob : Option Ob} {ids : List Nat} (h : OpV C c i o s v ob ids) : OpAt C c i o s (({ s with H := frzH ids s.H } : RSt).put c i o v ob)
  | e {q : Rq} {v : AV} {H' : Heap} (hg : o.guard = none) (h : estep C.P (ev C.gl s.fr) s.H o.op = some (q, v, H')) (hq : q.holds) : OpAt C c i o s ({ s with H := H' }.put c i o v none)

theorem frzH_nil (H : Heap) : frzH [] H = H := by
  funext id
  unfold frzH
  cases H id <;> simp [memN]

def lex (C : Cfg) (ops : Array Oper) (c : Nat) : List Oper → Nat → RSt → (RSt → Prop) → Prop
  | [], _, s, X => X s
  | o :: rest, i, s, X => okOp C.nt ops s o = true ∧ ∃ s', OpAt C c i o s s' ∧ lex C ops c rest (i + 1) s' X

theorem mkReq_wp {P : Program} {gl : Globs} {γ : Tag} {g : Bool} {q : Rq} {t : Tree} (h : (mkReq γ g q t).wp P gl) (hg : γ = none → g = true) : (g = true → q.holds) ∧ t.wp P gl := by
  cases q with
  | no => exact ⟨fun _ => trivial, h⟩
  | yes p =>
    cases γ with
    | none => exact ⟨fun _ => h.1, h.2⟩
    | some x => exact ⟨h.1, h.2⟩

theorem filter_some {H : Heap} {l : List Nat} {id : Nat} (h : memN (l.filter fun id => (H id).isSome) id = true) : H id ≠ none := by
  unfold memN at h
  obtain ⟨x, hx, he⟩ := List.any_eq_true.1 h
  have := Nat.eq_of_beq_eq_true he
  subst this
  have := (List.mem_filter.1 hx).2
  intro e
  simp [e] at this

theorem rtree_lex {C : Cfg} {ops : Array Oper} {c : Nat} {k : RSt → Tree} : ∀ (l : List Oper) (i : Nat) (s : RSt), (rtree C ops c l i s k).wp C.P C.gl → lex C ops c l i s (fun s' => (k s').wp C.P C.gl) := by
  intro l
  induction l with
  | nil => intro i s h; exact h
  | cons o rest ih =>
    intro i s h
    simp only [rtree] at h
    cases hok : okOp C.nt ops s o with
    | false => simp only [hok, cond_false] at h; exact h.elim
    | true =>
      simp only [hok, cond_true] at h
      refine ⟨hok, ?_⟩
      cases hc : calleeOf (ev C.gl s.fr) o.op with
      | some fa =>
        obtain ⟨f, as⟩ := fa
        simp only [hc] at h
        cases hsc : scT C.P 9 o.type with
        | true =>
          simp only [hsc, cond_true] at h
          obtain ⟨r, h1, h2, h3⟩ := h
          exact ⟨_, .v (.sc hc h1 h2), by rw [frzH_nil]; exact ih _ _ h3⟩
        | false =>
          simp only [hsc, cond_false] at h
          obtain ⟨r, h1, h3⟩ := h
          exact ⟨_, .v (.dc _ (fun id hid => filter_some hid) hc h1), ih _ _ h3⟩
      | none =>
        simp only [hc] at h
        cases he : estep C.P (ev C.gl s.fr) s.H o.op with
        | some x =>
          obtain ⟨q, v, H'⟩ := x
          simp only [he] at h
          cases hg : o.guard with
          | none =>
            simp only [hg] at h
            obtain ⟨h1, h2⟩ := mkReq_wp h (fun _ => rfl)
            exact ⟨_, .e hg he (h1 rfl), ih _ _ h2⟩
          | some x => simp only [hg] at h; exact h.elim
        | none =>
          simp only [he] at h
          cases hm : mstep C.P (ev C.gl s.fr) s.H (c + i) o.op with
          | some x =>
            obtain ⟨q, v, ob⟩ := x
            simp only [hm] at h
            obtain ⟨h1, h2⟩ := mkReq_wp h (fun hg => by rw [hg]; rfl)
            exact ⟨_, .v (.m hm h1), by rw [frzH_nil]; exact ih _ _ h2⟩
          | none => simp only [hm] at h; exact h.elim

section
variable {K : Ctx} {ops : Array Oper} {c : Nat} {E : Nat → Prop} {β : Book} {s : RSt} {a : Act} {w : World} {i : Nat} {o : Oper}

/-- What 'okOp' says. -/
theorem okOp_pre {nt : Nat} (hnt : K.nt = nt) (h : okOp nt ops s o = true) (hi : ops[i]? = some o) (hone : ∀ j oj d, ops[j]? = some oj → oj.dst = some d → o.dst = some d → j = i) : Pre K ops s i o ∧ opndOk ops s o = true := by
  unfold okOp at h
  rw [Bool.and_eq_true, Bool.and_eq_true] at h
  obtain ⟨⟨h1, h2⟩, h3⟩ := h
  refine ⟨⟨hi, fun j b hg => ?_, fun d hd => ?_, hone⟩, h3⟩
  · rw [hg] at h1
    intro e
    simp [e] at h1
  · rw [hd] at h2
    rw [hnt]
    simpa using h2

theorem rel_ev (hs : RSim K ops c E β s a w) {x : Operand} (hx : ∀ t, x = .tmp t → s.G (s.tg t) = true) : Rel β w (ev K.gl s.fr x) (a.eval x) := by
  cases x with
  | tmp t => exact (hs.f.slot t).1 (hx t rfl)
  | const v => exact rel_cvA β w v
  | global g =>
    simp only [ev, Act.eval]
    cases hg : K.gl g with
    | none => exact .junk
    | some mh => obtain ⟨m, h⟩ := mh; exact hs.h.glob g m h hg
  | func f => exact .fn (by simp) (by simp) (by simp) (by simp)

theorem tagOk_G (hs : RSim K ops c E β s a w) (hγ : ∀ j b, o.guard = some (j, b) → s.gt j ≠ none) {x : Operand} (h : tagOk ops s o.guard x = true) (hg : s.G o.guard = true) : ∀ t, x = .tmp t → s.G (s.tg t) = true := by
  intro t ht
  subst ht
  exact chainImp_G hs.f 20 o.guard (s.tg t) hγ h hg

/-- The guard's outcome in the model is the walk's. -/
theorem wanted_eq (hs : RSim K ops c E β s a w) (hγ : ∀ j b, o.guard = some (j, b) → s.gt j ≠ none) : Region.wanted o (yielded ops a.tmps) = s.G o.guard := by
  cases hg : o.guard with
  | none => simp [Region.wanted, hg, RSt.G]
  | some jw =>
    obtain ⟨j, want⟩ := jw
    have hne := hγ j want hg
    cases hgt : s.gt j with
    | none => exact absurd hgt hne
    | some gb =>
      obtain ⟨g, b⟩ := gb
      obtain ⟨oj, d, hoj, hd, hgo, h1, h2⟩ := hs.f.gtag j g b hgt
      simp only [Region.wanted, hg, RSt.G, hgt, yielded, hoj, Option.bind_some, hd]
      cases g with
      | true =>
        have h := h1 rfl
        rw [Array.getD_eq_getD_getElem?] at h
        cases ht : a.tmps[d]? with
        | none => simp [ht, undef] at h
        | some v => simp [ht] at h; subst h; simp
      | false =>
        have h := h2 rfl
        rw [Array.getD_eq_getD_getElem?] at h
        cases ht : a.tmps[d]? with
        | none => simp
        | some v => simp [ht] at h; subst h; simp [undef]

theorem frzH_some {ids : List Nat} {H : Heap} {id : Nat} {o : Ob} (h : frzH ids H id = some o) : ∃ o', H id = some o' ∧ o.es = o'.es ∧ o.n = o'.n ∧ o.f = o'.f ∧ o.mu = (o'.mu && !memN ids id) := by
  unfold frzH at h
  cases ho : H id with
  | none => simp [ho] at h
  | some o' =>
    simp only [ho] at h
    cases hm : memN ids id with
    | true => simp only [hm, cond_true, Option.some.injEq] at h; subst h; exact ⟨o', rfl, rfl, rfl, rfl, by simp⟩
    | false => simp only [hm, cond_false, Option.some.injEq] at h; subst h; exact ⟨o', rfl, rfl, rfl, rfl, by simp⟩

def frzB (ids : List Nat) (β : Book) : Book := ⟨fun id => match β.m id with
  | some (.lives b n mu) => some (.lives b n (mu && !memN ids id))
  | x => x, β.F⟩

theorem frzB_none {ids : List Nat} {id : Nat} (h : β.m id = none) : (frzB ids β).m id = none := by simp [frzB, h]
theorem frzB_lives {ids : List Nat} {id b n : Nat} {mu : Bool} (h : β.m id = some (.lives b n mu)) : (frzB ids β).m id = some (.lives b n (mu && !memN ids id)) := by simp [frzB, h]
theorem frzB_inv {ids : List Nat} {id b n : Nat} {mu : Bool} (h : (frzB ids β).m id = some (.lives b n mu)) : ∃ mu', β.m id = some (.lives b n mu') ∧ mu = (mu' && !memN ids id) := by
  unfold frzB at h
  simp only at h
  cases hb : β.m id with
  | none => simp [hb] at h
  | some x =>
    cases x with
    | dead => simp [hb] at h
    | lives b' n' mu' => simp [hb] at h; obtain ⟨rfl, rfl, rfl⟩ := h; exact ⟨mu', rfl, rfl⟩

theorem frzB_keeps (ids : List Nat) : Keeps β w (frzB ids β) w := by
  refine ⟨fun id o ho => ?_, fun _ _ _ => rfl, fun b _ hf => ⟨hf.1, fun id n h => ?_⟩, fun _ _ _ h => h⟩
  · cases o with
    | dead => exact ⟨.dead, by simp [frzB, ho], trivial⟩
    | lives b n mu => exact ⟨_, frzB_lives ho, rfl, rfl, fun h => by simp at h; exact h.1⟩
  · obtain ⟨mu', h1, h2⟩ := frzB_inv h
    have : mu' = true := by cases mu' with | true => rfl | false => simp at h2
    subst this
    exact hf.2 id n h1

theorem RSim.freeze (hs : RSim K ops c E β s a w) (ids : List Nat) : RSim K ops c E (frzB ids β) { s with H := frzH ids s.H } a w := by
  have hk := frzB_keeps (β := β) (w := w) ids
  refine ⟨⟨fun id o ho hg => ?_, fun id o ho hg => ?_, fun p q b n n' mu mu' h1 h2 => ?_, fun id hid => frzB_none (hs.h.fresh id hid), fun j hj => frzB_none (hs.h.freshE j hj), fun id b n mu h => ?_, hs.h.bF, hs.h.hF, hs.h.below, hs.h.hB, fun g m h hgl => (hs.h.glob g m h hgl).keep hk⟩,
    ⟨fun n => ⟨fun h => ((hs.f.slot n).1 h).keep hk, (hs.f.slot n).2⟩, hs.f.size, hs.f.defers, hs.f.gtag, hs.f.gtok, hs.f.tgok, hs.f.htok, hs.f.todo⟩⟩
  · obtain ⟨o', h1, e1, e2, e3, e4⟩ := frzH_some ho
    obtain ⟨b, hb, cs, el, g1, g2, g3⟩ := hs.h.heap id o' h1 hg
    refine ⟨b, by rw [frzB_lives hb, e2, e4], cs, el, g1, by rw [e1, e2]; exact g2, fun i j hi hj => ?_⟩
    rw [e2] at hi
    rw [e1] at hj
    obtain ⟨v, hv, hr⟩ := g3 i j hi hj
    exact ⟨v, by rw [e1]; exact hv, by rw [e3]; exact hr.keep hk⟩
  · obtain ⟨o', h1, _⟩ := frzH_some ho
    exact frzB_none (hs.h.hdead id o' h1 hg)
  · obtain ⟨m1, g1, _⟩ := frzB_inv h1
    obtain ⟨m2, g2, _⟩ := frzB_inv h2
    exact hs.h.inj p q b n n' m1 m2 g1 g2
  · obtain ⟨m1, g1, _⟩ := frzB_inv h
    exact hs.h.live id b n m1 g1

/-- A call of a Go function: what it enters. -/
theorem callee_run {P : Program} {ρ : Operand → AV} {σ : Operand → Value} {f : FuncId} {as : List AV} (hρ : ∀ x, x ∈ o.op.operands → Rel β w (ρ x) (σ x)) (h : calleeOf ρ o.op = some (f, as)) (he : Enters P f) :
    ∃ vs, (execOp σ o).run P w = .ok (.enter f vs) w ∧ Rels β w as vs := by
  obtain ⟨dst, op, ty, pos, after, g⟩ := o
  cases op <;> simp only [calleeOf, reduceCtorEq] at h
  rename_i cl
  obtain ⟨callee, args, ts⟩ := cl
  cases callee <;> simp only [reduceCtorEq] at h
  rename_i fx
  have hfx := hρ fx (by simp [Op.operands, Call.operands])
  have hargs : ∀ x, x ∈ args → Rel β w (ρ x) (σ x) := fun x hx => hρ x (by simp [Op.operands, Call.operands, hx])
  cases hv : ρ fx <;> simp only [hv, reduceCtorEq] at h
  rename_i fnn first cap
  cases fnn <;> simp only [reduceCtorEq, Option.some.injEq, Prod.mk.injEq] at h
  obtain ⟨rfl, rfl⟩ := h
  rename_i gg
  rw [hv] at hfx
  cases hsx : σ fx <;> rw [hsx] at hfx <;> cases hfx
  rename_i vf vs hl hr hl' hr'
  obtain ⟨fn, cc, h1, h2, h3⟩ := he
  refine ⟨vf ++ args.map σ ++ vs, ?_, ?_, ?_⟩
  · have hb : fn.body.isNone = false := by simp [h2]
    simp only [execOp, resolve, hsx, Deferred.ofValue, Sem.run_bind, Sem.run_pure, Result.andThen_ok, invoke, callFunc, run_program, h1, h3, Bool.false_eq_true, if_false, hb]
  · simp [hl, hl']
  · intro j u x hu hx
    have hlen : (first ++ args.toList.map ρ).length = (vf ++ args.map σ).size := by simp [hl]
    by_cases hj : j < (first ++ args.toList.map ρ).length
    · rw [List.getElem?_append_left hj] at hu
      rw [Array.getElem?_append_left (by omega)] at hx
      by_cases hj2 : j < first.length
      · rw [List.getElem?_append_left hj2] at hu
        rw [Array.getElem?_append_left (by omega)] at hx
        exact hr j u x hu hx
      · rw [List.getElem?_append_right (by omega)] at hu
        rw [Array.getElem?_append_right (by omega)] at hx
        rw [List.getElem?_map] at hu
        rw [Array.getElem?_map, ← hl] at hx
        cases hy : args[j - first.length]? with
        | none => simp [hy] at hx
        | some y =>
          rw [Array.getElem?_toList, hy] at hu
          simp [hy] at hu hx
          subst hu; subst hx
          exact hargs y (Array.mem_of_getElem? hy)
    · rw [List.getElem?_append_right (by omega)] at hu
      rw [Array.getElem?_append_right (by omega), ← hlen] at hx
      exact hr' _ u x hu hx

end
end Go.Am
