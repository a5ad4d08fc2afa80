/-
  The engine, part 7: operands, guards, and operations that write nothing.
-/
import Derived.Test.YtehcijjdibdljaaEnMap
namespace Go.Am
open Go.RowKit

/-- P: the program; gl: what is known of its variables; nt: how many slots; own: of which functions the calls hand objects over (for each argument: is it handed over?); ng: how many objects this function was handed. -/
structure Cfg where
  P : Program
  gl : Globs
  nt : Nat
  own : FuncId → Option (List Bool)
  ng : Nat

/-- The function that a call enters, and what it is given. -/
def calleeOf (ρ : Operand → AV) : Op → Option (FuncId × List AV)
  | .call { callee := .value f, args := args, .. } => match ρ f with
    | .fn (.func g) first cap => some (g, first ++ args.toList.map ρ ++ cap)
    | _ => none
  | _ => none

def tagOk (ops : Array Oper) (s : RSt) (γ : Tag) : Operand → Bool
  | .tmp t => chainImp ops 20 γ (s.tg t)
  | _ => true

/-- An arm of 'a && b', 'a || b': its slot may have been written under the very guard that the test makes. -/
def armOk (ops : Array Oper) (s : RSt) (γ : Tag) (c : Operand) (want : Bool) (x : Operand) : Bool :=
  tagOk ops s γ x || (match c, x with
    | .tmp tc, .tmp tx => match s.tg tx with
      | some (j, b) => (b == want) && (match ops[j]? with
        | some o => (match o.dst with | some d => Nat.beq d tc | none => false) && chainImp ops 20 γ o.guard
        | none => false)
      | none => false
    | _, _ => false)

def opndOk (ops : Array Oper) (s : RSt) (o : Oper) : Bool :=
  match o.op with
  | .pick c a b => tagOk ops s o.guard c && armOk ops s o.guard c true a && armOk ops s o.guard c false b
  | op => op.operands.toList.all (tagOk ops s o.guard)

def okOp (nt : Nat) (ops : Array Oper) (s : RSt) (o : Oper) : Bool :=
  (match o.guard with | none => true | some (j, _) => (s.gt j).isSome) &&
  (match o.dst with | none => true | some d => Nat.blt d nt) && opndOk ops s o

theorem tagOk_agree {ops : Array Oper} {s s' : RSt} {γ : Tag} {x : Operand} (h : ∀ t, x = .tmp t → s'.tg t = s.tg t) : tagOk ops s' γ x = tagOk ops s γ x := by
  cases x with
  | tmp t => simp only [tagOk, h t rfl]
  | _ => rfl

theorem armOk_agree {ops : Array Oper} {s s' : RSt} {γ : Tag} {c x : Operand} {b : Bool} (h : ∀ t, x = .tmp t → s'.tg t = s.tg t) : armOk ops s' γ c b x = armOk ops s γ c b x := by
  unfold armOk
  rw [tagOk_agree h]
  cases x with
  | tmp t => cases c <;> simp only [h t rfl]
  | _ => cases c <;> rfl

theorem opndOk_agree {ops : Array Oper} {f : Foot} {s s' : RSt} {o : Oper} (h : Agree o f s s') : opndOk ops s' o = opndOk ops s o := by
  have h1 : ∀ x, x ∈ o.op.operands → ∀ t, x = .tmp t → s'.tg t = s.tg t := fun x hx t e => by subst e; exact h.tg t hx
  unfold opndOk
  split
  · rename_i c a b he
    have hm : ∀ x, x = c ∨ x = a ∨ x = b → x ∈ o.op.operands := fun x hx => by rw [he]; simp [Op.operands]; exact hx
    rw [tagOk_agree (h1 c (hm c (.inl rfl))), armOk_agree (h1 a (hm a (.inr (.inl rfl)))), armOk_agree (h1 b (hm b (.inr (.inr rfl))))]
  · rw [Bool.eq_iff_iff, List.all_eq_true, List.all_eq_true]
    constructor
    · intro ha x hx; rw [← tagOk_agree (h1 x (by simpa using hx))]; exact ha x hx
    · intro ha x hx; rw [tagOk_agree (h1 x (by simpa using hx))]; exact ha x hx

section
variable {K : Ctx} {ops : Array Oper} {c : Nat} {E : Nat → Prop} {β : Book} {s : RSt} {a : Act} {w : World} {i : Nat} {o : Oper}

/-- What 'okOp' says. -/
theorem okOp_pre {nt : Nat} (hnt : K.nt = nt) (h : okOp nt ops s o = true) (hi : ops[i]? = some o) (hone : ∀ j oj d, ops[j]? = some oj → oj.dst = some d → o.dst = some d → j = i) : Pre K ops s i o ∧ opndOk ops s o = true := by
  unfold okOp at h
  rw [Bool.and_eq_true, Bool.and_eq_true] at h
  obtain ⟨⟨h1, h2⟩, h3⟩ := h
  refine ⟨⟨hi, fun j b hg => ?_, fun d hd => ?_, hone⟩, h3⟩
  · rw [hg] at h1
    intro e
    simp [e] at h1
  · rw [hd] at h2
    rw [hnt]
    simpa using h2

theorem rel_ev (hs : RSim K ops c E β s a w) {x : Operand} (hx : ∀ t, x = .tmp t → s.G (s.tg t) = true) : Rel β w (ev K.gl s.fr x) (a.eval x) := by
  cases x with
  | tmp t => exact (hs.f.slot t).1 (hx t rfl)
  | const v => exact rel_cvA β w v
  | global g =>
    simp only [ev, Act.eval]
    cases hg : K.gl g with
    | none => exact .junk
    | some mh => obtain ⟨m, h⟩ := mh; exact hs.h.glob g m h hg
  | func f => exact .fn (by simp) (by simp) (by simp) (by simp)

theorem tagOk_G (hs : RSim K ops c E β s a w) (hγ : ∀ j b, o.guard = some (j, b) → s.gt j ≠ none) {x : Operand} (h : tagOk ops s o.guard x = true) (hg : s.G o.guard = true) : ∀ t, x = .tmp t → s.G (s.tg t) = true := by
  intro t ht
  subst ht
  exact chainImp_G hs.f 20 o.guard (s.tg t) hγ h hg

/-- The guard's outcome in the model is the walk's. -/
theorem wanted_eq (hs : RSim K ops c E β s a w) (hγ : ∀ j b, o.guard = some (j, b) → s.gt j ≠ none) : Region.wanted o (yielded ops a.tmps) = s.G o.guard := by
  cases hg : o.guard with
  | none => simp [Region.wanted, hg, RSt.G]
  | some jw =>
    obtain ⟨j, want⟩ := jw
    have hne := hγ j want hg
    cases hgt : s.gt j with
    | none => exact absurd hgt hne
    | some gb =>
      obtain ⟨g, b⟩ := gb
      obtain ⟨oj, d, hoj, hd, hgo, h1, h2⟩ := hs.f.gtag j g b hgt
      simp only [Region.wanted, hg, RSt.G, hgt, yielded, hoj, Option.bind_some, hd]
      cases g with
      | true =>
        have h := h1 rfl
        rw [Array.getD_eq_getD_getElem?] at h
        cases ht : a.tmps[d]? with
        | none => simp [ht, undef] at h
        | some v => simp [ht] at h; subst h; simp
      | false =>
        have h := h2 rfl
        rw [Array.getD_eq_getD_getElem?] at h
        cases ht : a.tmps[d]? with
        | none => simp
        | some v => simp [ht] at h; subst h; simp [undef]

theorem arm_rel (hs : RSim K ops c E β s a w) (hγ : ∀ j b, o.guard = some (j, b) → s.gt j ≠ none) {cx x : Operand} {cb want : Bool} (hg : s.G o.guard = true) (hc : Rel β w (.bool cb) (a.eval cx)) (hcw : cb = want)
    (h : armOk ops s o.guard cx want x = true) : Rel β w (ev K.gl s.fr x) (a.eval x) := by
  unfold armOk at h
  rw [Bool.or_eq_true] at h
  rcases h with h | h
  · exact rel_ev hs (tagOk_G hs hγ h hg)
  · split at h
    · rename_i tc tx
      cases htg : s.tg tx with
      | none => simp [htg] at h
      | some jb =>
        obtain ⟨j, b⟩ := jb
        simp only [htg, Bool.and_eq_true] at h
        obtain ⟨hb, h⟩ := h
        have hb := eq_of_beq hb
        subst hb
        cases hoj : ops[j]? with
        | none => simp [hoj] at h
        | some oj =>
          simp only [hoj, Bool.and_eq_true] at h
          obtain ⟨hd, hch⟩ := h
          cases hdj : oj.dst with
          | none => simp [hdj] at hd
          | some d =>
            simp only [hdj] at hd
            have hd := Nat.eq_of_beq_eq_true hd
            subst hd
            have hgj : s.G oj.guard = true := chainImp_G hs.f 20 o.guard oj.guard hγ hch hg
            have hne := hs.f.tgok tx j b htg
            cases hgt : s.gt j with
            | none => exact absurd hgt hne
            | some gb =>
              obtain ⟨g0, b0⟩ := gb
              obtain ⟨o2, d2, ho2, hd2, hg2, h1, _⟩ := hs.f.gtag j g0 b0 hgt
              rw [hoj] at ho2
              cases ho2
              rw [hdj] at hd2
              cases hd2
              have hg0 : g0 = true := by rw [hg2]; exact hgj
              have hval := h1 hg0
              have hcv := rel_bool_inv hc
              simp only [Act.eval] at hcv
              rw [hval] at hcv
              cases hcv
              subst hcw
              refine rel_ev hs (fun t ht => ?_)
              cases ht
              rw [htg]
              simp [RSt.G, hgt, hg0]
    · cases h

/-- A call of a Go function: what it enters. -/
theorem callee_run {P : Program} {ρ : Operand → AV} {σ : Operand → Value} {f : FuncId} {as : List AV} (hρ : ∀ x, x ∈ o.op.operands → Rel β w (ρ x) (σ x)) (h : calleeOf ρ o.op = some (f, as)) (he : Enters P f) :
    ∃ vs, (execOp σ o).run P w = .ok (.enter f vs) w ∧ Rels β w as vs := by
  obtain ⟨dst, op, ty, pos, after, g⟩ := o
  cases op <;> simp only [calleeOf, reduceCtorEq] at h
  rename_i cl
  obtain ⟨callee, args, ts⟩ := cl
  cases callee <;> simp only [reduceCtorEq] at h
  rename_i fx
  have hfx := hρ fx (by simp [Op.operands, Call.operands])
  have hargs : ∀ x, x ∈ args → Rel β w (ρ x) (σ x) := fun x hx => hρ x (by simp [Op.operands, Call.operands, hx])
  cases hv : ρ fx <;> simp only [hv, reduceCtorEq] at h
  rename_i fnn first cap
  cases fnn <;> simp only [reduceCtorEq, Option.some.injEq, Prod.mk.injEq] at h
  obtain ⟨rfl, rfl⟩ := h
  rename_i gg
  rw [hv] at hfx
  cases hsx : σ fx <;> rw [hsx] at hfx <;> cases hfx
  rename_i vf vs hl hr hl' hr'
  obtain ⟨fn, cc, h1, h2, h3⟩ := he
  refine ⟨vf ++ args.map σ ++ vs, ?_, ?_, ?_⟩
  · have hb : fn.body.isNone = false := by simp [h2]
    simp only [execOp, resolve, hsx, Deferred.ofValue, Sem.run_bind, Sem.run_pure, Result.andThen_ok, invoke, callFunc, run_program, h1, h3, Bool.false_eq_true, if_false, hb]
  · simp [hl, hl']
  · intro j u x hu hx
    have hlen : (first ++ args.toList.map ρ).length = (vf ++ args.map σ).size := by simp [hl]
    by_cases hj : j < (first ++ args.toList.map ρ).length
    · rw [List.getElem?_append_left hj] at hu
      rw [Array.getElem?_append_left (by omega)] at hx
      by_cases hj2 : j < first.length
      · rw [List.getElem?_append_left hj2] at hu
        rw [Array.getElem?_append_left (by omega)] at hx
        exact hr j u x hu hx
      · rw [List.getElem?_append_right (by omega)] at hu
        rw [Array.getElem?_append_right (by omega)] at hx
        rw [List.getElem?_map] at hu
        rw [Array.getElem?_map, ← hl] at hx
        cases hy : args[j - first.length]? with
        | none => simp [hy] at hx
        | some y =>
          rw [Array.getElem?_toList, hy] at hu
          simp [hy] at hu hx
          subst hu; subst hx
          exact hargs y (Array.mem_of_getElem? hy)
    · rw [List.getElem?_append_right (by omega)] at hu
      rw [Array.getElem?_append_right (by omega), ← hlen] at hx
      exact hr' _ u x hu hx

/-! ### Freezing -/

def frzB (ids : List Nat) (β : Book) : Book := ⟨fun id => match β.m id with
  | some (.lives b n mu) => some (.lives b n (mu && !memN ids id))
  | x => x, β.F⟩

theorem frzB_none {ids : List Nat} {id : Nat} (h : β.m id = none) : (frzB ids β).m id = none := by simp [frzB, h]
theorem frzB_lives {ids : List Nat} {id b n : Nat} {mu : Bool} (h : β.m id = some (.lives b n mu)) : (frzB ids β).m id = some (.lives b n (mu && !memN ids id)) := by simp [frzB, h]
theorem frzB_inv {ids : List Nat} {id b n : Nat} {mu : Bool} (h : (frzB ids β).m id = some (.lives b n mu)) : ∃ mu', β.m id = some (.lives b n mu') ∧ mu = (mu' && !memN ids id) := by
  unfold frzB at h
  simp only at h
  cases hb : β.m id with
  | none => simp [hb] at h
  | some x =>
    cases x with
    | dead => simp [hb] at h
    | empty => simp [hb] at h
    | lives b' n' mu' => simp [hb] at h; obtain ⟨rfl, rfl, rfl⟩ := h; exact ⟨mu', rfl, rfl⟩
theorem frzB_ne {ids : List Nat} {id : Nat} (h : (frzB ids β).m id ≠ none) : β.m id ≠ none := fun e => h (frzB_none e)

theorem frzB_keeps (ids : List Nat) : Keeps β w (frzB ids β) w := by
  refine ⟨fun id o ho => ?_, fun _ _ _ => rfl, fun b _ hf => ⟨hf.1, fun id n h => ?_⟩, fun _ _ _ h => h⟩
  · cases o with
    | dead => exact ⟨.dead, by simp [frzB, ho], trivial⟩
    | empty => exact ⟨.empty, by simp [frzB, ho], trivial⟩
    | lives b n mu => exact ⟨_, frzB_lives ho, rfl, rfl, fun h => by simp at h; exact h.1⟩
  · obtain ⟨mu', h1, h2⟩ := frzB_inv h
    have : mu' = true := by cases mu' with | true => rfl | false => simp at h2
    subst this
    exact hf.2 id n h1

theorem frzB_inj {ids : List Nat} (h : InjB β) : InjB (frzB ids β) := by
  intro i j b n n' mu mu' h1 h2
  obtain ⟨_, g1, _⟩ := frzB_inv h1
  obtain ⟨_, g2, _⟩ := frzB_inv h2
  exact h i j b n n' _ _ g1 g2

theorem keeps_ext {w' : World} (hb : Below w.heap.size w w') : Keeps β w β w' :=
  ⟨fun _ o h => ⟨o, h, o.later_refl⟩, fun b hlt _ => hb.block b hlt, fun _ _ h => h, fun b el sz h => by rw [shape_of_block (hb.block b (lt_of_shape h))]; exact h⟩

theorem HRel.keep {β' : Book} {w' : World} {o : Ob} {b : Nat} (k : Keeps β w β' w') (hb : w'.heap[b]? = w.heap[b]?) (h : HRel β w o b) : HRel β' w' o b := by
  obtain ⟨cs, el, h1, h2, h3⟩ := h
  exact ⟨cs, el, by rw [hb]; exact h1, h2, fun i j hi hj => let ⟨v, hv, hr, ho⟩ := h3 i j hi hj; ⟨v, hv, hr.keep k, ho⟩⟩

/-- An operation that writes nothing has been carried out: it may have made new blocks that nobody knows of, and some objects are frozen. -/
theorem RSim.plain {u : Value} {w' : World} {e : Eff} (hs : RSim K ops c E β s a w) (hp : Pre K ops s i o) (hE : E i) (hge : s.G o.guard = e.g) (hws : e.ws = []) (hds : e.ds = []) (hb : Below w.heap.size w w')
    (hv : e.g = true → Rel (frzB e.fz β) w' e.v u) (hu : e.g = false → u = undef) : RSim K ops c (less E i) (frzB e.fz β) (s.app i o e) (a.put o.dst u) w' := by
  have hk : Keeps β w (frzB e.fz β) w' := (frzB_keeps e.fz).trans (keeps_ext hb) (Nat.le_refl _)
  refine hs.step hp hE hge hk ((Kept.ofBelow K.G hb).mono hs.h.hB (fun _ _ h => h)) rfl (fun id ob h => by rw [hds] at h; cases h) (fun id o' _ ho hg => ?_) (fun id o' _ ho h => frzB_none h) (frzB_inj hs.h.inj) (fun id h => .inl (frzB_ne h))
    (fun id b n mu h => ?_) hv hu
  · rcases hs.h.heap id o' ho hg with ⟨b, h1, h2⟩ | ⟨h1, h2⟩
    · refine .inl ⟨b, frzB_lives h1, ?_⟩
      have := h2.keep hk (hb.block b (hs.h.live id b _ _ h1).2)
      simp only [Eff.on, hws, look]
      exact this
    · exact .inr ⟨by simp [frzB, h1], h2⟩
  · obtain ⟨_, h1, _⟩ := frzB_inv h
    have := hs.h.live id b n _ h1
    have := hb.size
    exact ⟨(hs.h.live id b n _ h1).1, by omega⟩

theorem frzB_nil (β : Book) : frzB [] β = β := by
  obtain ⟨m, F⟩ := β
  simp only [frzB, Book.mk.injEq, and_true]
  funext id
  cases h : m id with
  | none => rfl
  | some x => cases x <;> simp [memN]

/-- An operation whose guard says no. -/
theorem RSim.skip {e : Eff} (hs : RSim K ops c E β s a w) (hp : Pre K ops s i o) (hE : E i) (hge : s.G o.guard = e.g) (hg : e.g = false) (hws : e.ws = []) (hds : ∀ id x, look e.ds id = some x → ∃ k, k < 8 ∧ id = c + 8 * i + k) :
    RSim K ops c (less E i) (frzB e.fz β) (s.app i o e) (a.put o.dst undef) w := by
  have hk : Keeps β w (frzB e.fz β) w := frzB_keeps e.fz
  refine hs.step hp hE hge hk (Kept.refl _ _ _) rfl (fun id ob h => ⟨fun h' => absurd h' (by rw [hg]; exact Bool.false_ne_true), fun _ => ?_⟩) (fun id o' _ ho hg => ?_) (fun id o' _ ho h => frzB_none h) (frzB_inj hs.h.inj) (fun id h => .inl (frzB_ne h))
    (fun id b n mu h => ?_) (fun h => by rw [hg] at h; cases h) (fun _ => rfl)
  · obtain ⟨k, hk8, rfl⟩ := hds id _ h
    exact frzB_none (hs.h.freshE i k hE hk8)
  · rcases hs.h.heap id o' ho hg with ⟨b, h1, h2⟩ | ⟨h1, h2⟩
    · refine .inl ⟨b, frzB_lives h1, ?_⟩
      have := h2.keep hk rfl
      simp only [Eff.on, hws, look]
      exact this
    · exact .inr ⟨by simp [frzB, h1], h2⟩
  · obtain ⟨_, h1, _⟩ := frzB_inv h
    exact hs.h.live id b n _ h1

end
end Go.Am
