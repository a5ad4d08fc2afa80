/-
  The engine, part 4: the state inside a region, the effect of an operation on it, and effects that do not touch each other.
-/
import Derived.Test.YtehcijjdibdljaaEnOps5
namespace Go.Am
open Go.RowKit

abbrev Tag := Option (Nat × Bool)

/-- The state inside a region: the slots; under which guard each was written here; of each operation that yielded a Bool: its own guard's outcome and the Bool; the objects; under which guard each was made here. -/
structure RSt where
  fr : Nat → AV
  tg : Nat → Tag
  gt : Nat → Option (Bool × Bool)
  H : Heap
  ht : Nat → Tag

def RSt.G (s : RSt) : Tag → Bool
  | none => true
  | some (j, want) => match s.gt j with | some (g, b) => g && (b == want) | none => false

def gval : Option Tmp → AV → Option Bool
  | some _, .bool b => some b
  | _, _ => none

def memN (l : List Nat) (n : Nat) : Bool := l.any (Nat.beq n)

theorem memN_iff {l : List Nat} {id : Nat} : memN l id = true ↔ id ∈ l := by
  unfold memN
  rw [List.any_eq_true]
  constructor
  · rintro ⟨x, hx, h⟩
    have := Nat.eq_of_beq_eq_true h
    subst this; exact hx
  · intro h; exact ⟨id, h, Nat.beq_refl id⟩

def look {α : Type} : List (Nat × α) → Nat → Option α
  | [], _ => none
  | (k, x) :: l, n => bif Nat.beq k n then some x else look l n

theorem look_some {α : Type} {l : List (Nat × α)} {n : Nat} {x : α} (h : look l n = some x) : (n, x) ∈ l := by
  induction l with
  | nil => simp [look] at h
  | cons p l ih =>
    obtain ⟨k, y⟩ := p
    simp only [look] at h
    cases hb : Nat.beq k n with
    | true =>
      have := Nat.eq_of_beq_eq_true hb
      subst this
      simp only [hb, cond_true, Option.some.injEq] at h
      subst h
      exact List.mem_cons_self ..
    | false => simp only [hb, cond_false] at h; exact List.mem_cons_of_mem _ (ih h)

/-- What an operation does: its value; what its guard comes to; objects whose cells are written; objects that are made (some) or die (none); objects that nobody may write any more. -/
structure Eff where
  v : AV
  g : Bool
  ws : List (Nat × Rep)
  ds : List (Nat × Option Ob)
  fz : List Nat

def Eff.on (e : Eff) (id : Nat) (o : Ob) : Ob := ⟨o.es, o.n, o.mu && !memN e.fz id, match look e.ws id with | some f => f | none => o.f⟩

def Eff.heap (e : Eff) (H : Heap) : Heap := fun id => match look e.ds id with
  | some x => x
  | none => match H id with | some o => some (e.on id o) | none => none

def Eff.still (e : Eff) : Bool := e.ws.isEmpty && (e.ds.isEmpty && e.fz.isEmpty)

def RSt.app (s : RSt) (i : Nat) (o : Oper) (e : Eff) : RSt :=
  { fr := match o.dst with | some d => upd s.fr d e.v | none => s.fr
    tg := match o.dst with | some d => upd s.tg d o.guard | none => s.tg
    gt := match gval o.dst e.v with | some b => upd s.gt i (some (e.g, b)) | none => s.gt
    H := bif e.still then s.H else e.heap s.H
    ht := bif e.ds.isEmpty then s.ht else fun id => match look e.ds id with | some _ => o.guard | none => s.ht id }

theorem app_H (s : RSt) (i : Nat) (o : Oper) (e : Eff) (id : Nat) : (s.app i o e).H id = match look e.ds id with
    | some x => x
    | none => (s.H id).map (e.on id) := by
  unfold RSt.app
  cases hs : e.still with
  | false =>
    simp only [cond_false, Eff.heap]
    cases look e.ds id with
    | some x => rfl
    | none => cases s.H id <;> rfl
  | true =>
    simp only [cond_true]
    obtain ⟨v, g, ws, ds, fz⟩ := e
    simp only [Eff.still, Bool.and_eq_true, List.isEmpty_iff] at hs
    obtain ⟨rfl, rfl, rfl⟩ := hs
    simp only [look]
    cases s.H id with
    | none => rfl
    | some o => simp [Eff.on, memN, look]

theorem app_ht (s : RSt) (i : Nat) (o : Oper) (e : Eff) (id : Nat) : (s.app i o e).ht id = match look e.ds id with
    | some _ => o.guard
    | none => s.ht id := by
  unfold RSt.app
  cases hs : e.ds.isEmpty with
  | false => rfl
  | true =>
    simp only [cond_true]
    rw [List.isEmpty_iff] at hs
    rw [hs]
    rfl

theorem app_fr (s : RSt) (i : Nat) (o : Oper) (e : Eff) (n : Nat) : (s.app i o e).fr n = if o.dst = some n then e.v else s.fr n := by
  unfold RSt.app
  cases hd : o.dst with
  | none => simp
  | some d =>
    by_cases h : n = d
    · subst h; simp [upd_same]
    · have : d ≠ n := fun e => h e.symm
      simp [upd_ne _ _ h, this]

theorem app_tg (s : RSt) (i : Nat) (o : Oper) (e : Eff) (n : Nat) : (s.app i o e).tg n = if o.dst = some n then o.guard else s.tg n := by
  unfold RSt.app
  cases hd : o.dst with
  | none => simp
  | some d =>
    by_cases h : n = d
    · subst h; simp [upd_same]
    · have : d ≠ n := fun e => h e.symm
      simp [upd_ne _ _ h, this]

theorem app_gt_ne (s : RSt) {i j : Nat} (h : j ≠ i) (o : Oper) (e : Eff) : (s.app i o e).gt j = s.gt j := by
  unfold RSt.app
  cases gval o.dst e.v with
  | none => rfl
  | some b => exact upd_ne _ _ h

theorem app_gt_none (s : RSt) {i j : Nat} {o : Oper} (h : o.dst = none) (e : Eff) : (s.app i o e).gt j = s.gt j := by
  unfold RSt.app
  rw [h]
  rfl

theorem app_gt_same (s : RSt) (i : Nat) (o : Oper) (e : Eff) : (s.app i o e).gt i = match gval o.dst e.v with | some b => some (e.g, b) | none => s.gt i := by
  unfold RSt.app
  cases gval o.dst e.v with
  | none => rfl
  | some b => exact upd_same _ _ _

theorem RSt.ext' {s t : RSt} (h1 : ∀ n, s.fr n = t.fr n) (h2 : ∀ n, s.tg n = t.tg n) (h3 : ∀ n, s.gt n = t.gt n) (h4 : ∀ n, s.H n = t.H n) (h5 : ∀ n, s.ht n = t.ht n) : s = t := by
  obtain ⟨a, b, c, d, e⟩ := s
  obtain ⟨a', b', c', d', e'⟩ := t
  obtain rfl : a = a' := funext h1
  obtain rfl : b = b' := funext h2
  obtain rfl : c = c' := funext h3
  obtain rfl : d = d' := funext h4
  obtain rfl : e = e' := funext h5
  rfl

/-- What an operation looks at among the objects: cells; whether an object is there; whether it may be written. -/
structure Foot where
  rd : List Nat
  al : List Nat
  mt : List Nat

/-- The second operation turns nothing that the first looks at. -/
def offOk (ops : Array Oper) (oi : Oper) (f : Foot) (oj : Oper) (e : Eff) : Bool :=
  (match oj.dst with | some d => !(oi.looksAt ops).contains d | none => true) &&
  (e.ds.all (fun p => !memN f.rd p.1 && (!memN f.al p.1 && !memN f.mt p.1)) &&
  (e.ws.all (fun p => !memN f.rd p.1) && e.fz.all (fun id => !memN f.mt id)))

def noneIn {α : Type} (l : List (Nat × α)) (id : Nat) : Bool := (look l id).isNone

/-- The two may change places. -/
def commOk (oi : Oper) (ei : Eff) (oj : Oper) (ej : Eff) : Bool :=
  (match oi.dst, oj.dst with | some d, some d' => !Nat.beq d d' | _, _ => true) &&
  (ei.ds.all (fun p => noneIn ej.ds p.1 && (noneIn ej.ws p.1 && !memN ej.fz p.1)) &&
  (ej.ds.all (fun p => noneIn ei.ws p.1 && !memN ei.fz p.1) && ei.ws.all (fun p => noneIn ej.ws p.1)))

theorem all_look {α : Type} {l : List (Nat × α)} {q : Nat → Bool} (h : l.all (fun p => q p.1) = true) {id : Nat} {x : α} (hx : look l id = some x) : q id = true :=
  List.all_eq_true.1 h (id, x) (look_some hx)

theorem not_true {b : Bool} (h : (!b) = true) : b = false := by cases b <;> simp_all

theorem app_comm {s : RSt} {i j : Nat} {oi oj : Oper} {ei ej : Eff} (hij : i ≠ j) (h : commOk oi ei oj ej = true) : (s.app i oi ei).app j oj ej = (s.app j oj ej).app i oi ei := by
  unfold commOk at h
  simp only [Bool.and_eq_true] at h
  obtain ⟨h1, h2, h3, h4⟩ := h
  have hd : ∀ n, ¬ (oi.dst = some n ∧ oj.dst = some n) := by
    rintro n ⟨a, b⟩
    rw [a, b] at h1
    simp at h1
  have hds : ∀ {id x y}, look ei.ds id = some x → look ej.ds id = some y → False := fun {id x y} hx hy => by
    have := all_look (q := fun id => noneIn ej.ds id && (noneIn ej.ws id && !memN ej.fz id)) h2 hx
    simp [noneIn, hy] at this
  have hdw : ∀ {id x}, look ei.ds id = some x → look ej.ws id = none ∧ memN ej.fz id = false := fun {id x} hx => by
    have := all_look (q := fun id => noneIn ej.ds id && (noneIn ej.ws id && !memN ej.fz id)) h2 hx
    simp only [Bool.and_eq_true, noneIn, Option.isNone_iff_eq_none] at this
    exact ⟨this.2.1, not_true this.2.2⟩
  have hdw' : ∀ {id x}, look ej.ds id = some x → look ei.ws id = none ∧ memN ei.fz id = false := fun {id x} hx => by
    have := all_look (q := fun id => noneIn ei.ws id && !memN ei.fz id) h3 hx
    simp only [Bool.and_eq_true, noneIn, Option.isNone_iff_eq_none] at this
    exact ⟨this.1, not_true this.2⟩
  have hww : ∀ {id x y}, look ei.ws id = some x → look ej.ws id = some y → False := fun {id x y} hx hy => by
    have := all_look (q := fun id => noneIn ej.ws id) h4 hx
    simp [noneIn, hy] at this
  have on_id : ∀ (e : Eff) (id : Nat) (o : Ob), look e.ws id = none → memN e.fz id = false → e.on id o = o := fun e id o a b => by simp [Eff.on, a, b]
  refine RSt.ext' (fun n => ?_) (fun n => ?_) (fun n => ?_) (fun id => ?_) (fun id => ?_)
  · simp only [app_fr]
    by_cases a : oi.dst = some n <;> by_cases b : oj.dst = some n <;> simp [a, b]
    exact (hd n ⟨a, b⟩).elim
  · simp only [app_tg]
    by_cases a : oi.dst = some n <;> by_cases b : oj.dst = some n <;> simp [a, b]
    exact (hd n ⟨a, b⟩).elim
  · by_cases a : n = i
    · subst a
      rw [app_gt_ne _ hij, app_gt_same, app_gt_same, app_gt_ne _ hij]
    · rw [app_gt_ne (s.app j oj ej) a]
      by_cases b : n = j
      · subst b
        rw [app_gt_same, app_gt_same, app_gt_ne _ a]
      · rw [app_gt_ne _ b, app_gt_ne _ b, app_gt_ne _ a]
  · simp only [app_H]
    cases a : look ei.ds id with
    | some x =>
      cases b : look ej.ds id with
      | some y => exact (hds a b).elim
      | none =>
        obtain ⟨c1, c2⟩ := hdw a
        simp only
        cases x with
        | none => rfl
        | some o => simp [on_id ej id o c1 c2]
    | none =>
      cases b : look ej.ds id with
      | some y =>
        obtain ⟨c1, c2⟩ := hdw' b
        simp only
        cases y with
        | none => rfl
        | some o => simp [on_id ei id o c1 c2]
      | none =>
        simp only
        cases s.H id with
        | none => rfl
        | some o =>
          simp only [Option.map_some, Option.some.injEq]
          cases a' : look ei.ws id with
          | some x =>
            cases b' : look ej.ws id with
            | some y => exact (hww a' b').elim
            | none => simp only [Eff.on, a', b', Ob.mk.injEq, true_and, and_true]; cases o.mu <;> cases memN ei.fz id <;> cases memN ej.fz id <;> rfl
          | none => simp only [Eff.on, a', Ob.mk.injEq, true_and, and_true]; cases o.mu <;> cases memN ei.fz id <;> cases memN ej.fz id <;> rfl
  · simp only [app_ht]
    cases a : look ei.ds id with
    | some x =>
      cases b : look ej.ds id with
      | some y => exact (hds a b).elim
      | none => rfl
    | none => cases b : look ej.ds id <;> rfl

/-! ### What an operation looks at -/

def Ob.seen (o : Ob) : Ob := { o with mu := true }
def Ob.dim (o : Ob) : Ob := ⟨o.es, o.n, true, .fn fun _ _ => .junk⟩

/-- The objects as an operation sees them. -/
def vH (f : Foot) (H : Heap) : Heap := fun id => bif memN f.rd id then (H id).map Ob.seen else bif memN f.al id then (H id).map Ob.dim else none

/-- The two states are alike in what an operation looks at. -/
structure Agree (o : Oper) (f : Foot) (s s' : RSt) : Prop where
  fr : ∀ t, Operand.tmp t ∈ o.op.operands → s'.fr t = s.fr t
  tg : ∀ t, Operand.tmp t ∈ o.op.operands → s'.tg t = s.tg t
  gt : ∀ j b, o.guard = some (j, b) → s'.gt j = s.gt j
  rd : ∀ id, memN f.rd id = true → (s'.H id).map Ob.seen = (s.H id).map Ob.seen
  al : ∀ id, memN f.al id = true → (s'.H id).map Ob.dim = (s.H id).map Ob.dim
  mt : ∀ id, memN f.mt id = true → (s'.H id).map Ob.mu = (s.H id).map Ob.mu
  ht : ∀ id, memN f.mt id = true → s'.ht id = s.ht id

theorem Agree.refl (o : Oper) (f : Foot) (s : RSt) : Agree o f s s := ⟨fun _ _ => rfl, fun _ _ => rfl, fun _ _ _ => rfl, fun _ _ => rfl, fun _ _ => rfl, fun _ _ => rfl, fun _ _ => rfl⟩
theorem Agree.symm {o : Oper} {f : Foot} {s s' : RSt} (h : Agree o f s s') : Agree o f s' s :=
  ⟨fun t ht => (h.fr t ht).symm, fun t ht => (h.tg t ht).symm, fun j b hj => (h.gt j b hj).symm, fun id hid => (h.rd id hid).symm, fun id hid => (h.al id hid).symm, fun id hid => (h.mt id hid).symm, fun id hid => (h.ht id hid).symm⟩

theorem Agree.vH {o : Oper} {f : Foot} {s s' : RSt} (h : Agree o f s s') : vH f s'.H = vH f s.H := by
  funext id
  unfold Am.vH
  cases a : memN f.rd id with
  | true => simp only [cond_true]; exact h.rd id a
  | false =>
    simp only [cond_false]
    cases b : memN f.al id with
    | true => simp only [cond_true]; exact h.al id b
    | false => rfl

theorem tmp_looksAt {ops : Array Oper} {o : Oper} {t : Tmp} (h : Operand.tmp t ∈ o.op.operands) : t ∈ o.looksAt ops := by
  unfold Oper.looksAt
  exact List.mem_append_left _ (List.mem_filterMap.2 ⟨.tmp t, by simpa using h, rfl⟩)

theorem guard_looksAt {ops : Array Oper} {o og : Oper} {g : Nat} {b : Bool} {d : Tmp} (h : o.guard = some (g, b)) (hg : ops[g]? = some og) (hd : og.dst = some d) : d ∈ o.looksAt ops := by
  unfold Oper.looksAt
  refine List.mem_append_right _ ?_
  simp [h, hg, hd]

section
variable {ops : Array Oper} {oi : Oper} {f : Foot} {s s' : RSt} {j : Nat} {oj : Oper} {ej : Eff}

theorem off_spec (h : offOk ops oi f oj ej = true) : (∀ d, oj.dst = some d → d ∉ oi.looksAt ops) ∧
    (∀ id x, look ej.ds id = some x → memN f.rd id = false ∧ memN f.al id = false ∧ memN f.mt id = false) ∧ (∀ id x, look ej.ws id = some x → memN f.rd id = false) ∧ (∀ id, memN ej.fz id = true → memN f.mt id = false) := by
  unfold offOk at h
  simp only [Bool.and_eq_true] at h
  obtain ⟨h1, h2, h3, h4⟩ := h
  refine ⟨fun d hd => ?_, fun id x hx => ?_, fun id x hx => ?_, fun id hid => ?_⟩
  · rw [hd] at h1
    simpa using h1
  · have := all_look (q := fun id => !memN f.rd id && (!memN f.al id && !memN f.mt id)) h2 hx
    simp only [Bool.and_eq_true] at this
    exact ⟨not_true this.1, not_true this.2.1, not_true this.2.2⟩
  · exact not_true (all_look (q := fun id => !memN f.rd id) h3 hx)
  · exact not_true (List.all_eq_true.1 h4 id (memN_iff.1 hid))

/-- One more operation on one side, off what is looked at. -/
theorem Agree.more (hj : ops[j]? = some oj) (hoff : offOk ops oi f oj ej = true) (h : Agree oi f s s') : Agree oi f s (s'.app j oj ej) := by
  obtain ⟨h1, h2, h3, h4⟩ := off_spec hoff
  refine ⟨fun t ht => ?_, fun t ht => ?_, fun k b hk => ?_, fun id hid => ?_, fun id hid => ?_, fun id hid => ?_, fun id hid => ?_⟩
  · rw [app_fr, if_neg (fun e => h1 t e (tmp_looksAt ht))]; exact h.fr t ht
  · rw [app_tg, if_neg (fun e => h1 t e (tmp_looksAt ht))]; exact h.tg t ht
  · rw [← h.gt k b hk]
    by_cases e : k = j
    · subst e
      cases hd : oj.dst with
      | none => exact app_gt_none _ hd _
      | some d => exact absurd (guard_looksAt hk hj hd) (h1 d hd)
    · exact app_gt_ne _ e _ _
  · rw [app_H, ← h.rd id hid]
    cases a : look ej.ds id with
    | some x => have := (h2 id x a).1; rw [hid] at this; cases this
    | none =>
      simp only
      cases s'.H id with
      | none => rfl
      | some o =>
        cases b : look ej.ws id with
        | some x => have := h3 id x b; rw [hid] at this; cases this
        | none => simp [Eff.on, b, Ob.seen]
  · rw [app_H, ← h.al id hid]
    cases a : look ej.ds id with
    | some x => have := (h2 id x a).2.1; rw [hid] at this; cases this
    | none =>
      simp only
      cases s'.H id with
      | none => rfl
      | some o => simp [Eff.on, Ob.dim]
  · rw [app_H, ← h.mt id hid]
    cases a : look ej.ds id with
    | some x => have := (h2 id x a).2.2; rw [hid] at this; cases this
    | none =>
      simp only
      cases s'.H id with
      | none => rfl
      | some o =>
        cases b : memN ej.fz id with
        | true => have := h4 id b; rw [hid] at this; cases this
        | false => simp [Eff.on, b]
  · rw [app_ht, ← h.ht id hid]
    cases a : look ej.ds id with
    | some x => have := (h2 id x a).2.2; rw [hid] at this; cases this
    | none => rfl

/-- One operation on both sides. -/
theorem Agree.both (h : Agree oi f s s') : Agree oi f (s.app j oj ej) (s'.app j oj ej) := by
  refine ⟨fun t ht => ?_, fun t ht => ?_, fun k b hk => ?_, fun id hid => ?_, fun id hid => ?_, fun id hid => ?_, fun id hid => ?_⟩
  · rw [app_fr, app_fr, h.fr t ht]
  · rw [app_tg, app_tg, h.tg t ht]
  · by_cases e : k = j
    · subst e; rw [app_gt_same, app_gt_same, h.gt k b hk]
    · rw [app_gt_ne _ e, app_gt_ne _ e, h.gt k b hk]
  · rw [app_H, app_H]
    cases look ej.ds id with
    | some x => rfl
    | none =>
      have := h.rd id hid
      revert this
      cases s'.H id <;> cases s.H id <;> simp [Ob.seen, Eff.on]
      rename_i o o'
      intro a b c
      simp [a, b, c]
  · rw [app_H, app_H]
    cases look ej.ds id with
    | some x => rfl
    | none =>
      have := h.al id hid
      revert this
      cases s'.H id <;> cases s.H id <;> simp [Ob.dim, Eff.on]
  · rw [app_H, app_H]
    cases look ej.ds id with
    | some x => rfl
    | none =>
      have := h.mt id hid
      revert this
      cases s'.H id <;> cases s.H id <;> simp [Eff.on]
      rename_i o o'
      intro a
      simp [a]
  · rw [app_ht, app_ht, h.ht id hid]

end

/-! ### Some operations of a region, carried out in the order of the text -/

section
variable (ops : Array Oper) (es : Nat → Eff)

def stp (s : RSt) (j : Nat) : RSt := match ops[j]? with | some o => s.app j o (es j) | none => s

def stOf (s : RSt) (l : List Nat) : RSt := l.foldl (stp ops es) s

variable {ops es}

theorem stOf_cons (s : RSt) (j : Nat) (l : List Nat) : stOf ops es s (j :: l) = stOf ops es (stp ops es s j) l := rfl
theorem stOf_append (s : RSt) (l k : List Nat) : stOf ops es s (l ++ k) = stOf ops es (stOf ops es s l) k := by unfold stOf; exact List.foldl_append ..

theorem Agree.fold {oi : Oper} {f : Foot} (p : Nat → Bool) : ∀ (l : List Nat) (s s' : RSt), (∀ j oj, j ∈ l → p j = false → ops[j]? = some oj → offOk ops oi f oj (es j) = true) → Agree oi f s s' →
    Agree oi f (stOf ops es s l) (stOf ops es s' (l.filter p)) := by
  intro l
  induction l with
  | nil => intro s s' _ h; exact h
  | cons j l ih =>
    intro s s' hp h
    have hp' : ∀ k ok, k ∈ l → p k = false → ops[k]? = some ok → offOk ops oi f ok (es k) = true := fun k ok hk => hp k ok (List.mem_cons_of_mem _ hk)
    rw [List.filter_cons]
    cases hpj : p j with
    | true =>
      simp only [if_true, stOf_cons]
      refine ih _ _ hp' ?_
      unfold stp
      cases ops[j]? with
      | none => exact h
      | some oj => exact h.both
    | false =>
      simp only [Bool.false_eq_true, if_false, stOf_cons]
      refine ih _ _ hp' ?_
      unfold stp
      cases hoj : ops[j]? with
      | none => exact h
      | some oj => exact (h.symm.more hoj (hp j oj (List.mem_cons_self ..) hpj hoj)).symm

theorem Agree.tail {oi : Oper} {f : Foot} : ∀ (l : List Nat) (s s' : RSt), (∀ j oj, j ∈ l → ops[j]? = some oj → offOk ops oi f oj (es j) = true) → Agree oi f s s' → Agree oi f s (stOf ops es s' l) := by
  intro l
  induction l with
  | nil => intro s s' _ h; exact h
  | cons j l ih =>
    intro s s' hp h
    rw [stOf_cons]
    refine ih _ _ (fun k ok hk => hp k ok (List.mem_cons_of_mem _ hk)) ?_
    unfold stp
    cases hoj : ops[j]? with
    | none => exact h
    | some oj => exact h.more hoj (hp j oj (List.mem_cons_self ..) hoj)

theorem stp_comm {s : RSt} {i j : Nat} (hij : i ≠ j) (h : ∀ oi oj, ops[i]? = some oi → ops[j]? = some oj → commOk oi (es i) oj (es j) = true) : stp ops es (stp ops es s i) j = stp ops es (stp ops es s j) i := by
  unfold stp
  cases hi : ops[i]? with
  | none => rfl
  | some oi =>
    cases hj : ops[j]? with
    | none => rfl
    | some oj => exact app_comm hij (h oi oj hi hj)

/-- An operation may come last. -/
theorem stOf_last {i : Nat} : ∀ (l : List Nat) (s : RSt), (∀ j, j ∈ l → i ≠ j ∧ ∀ oi oj, ops[i]? = some oi → ops[j]? = some oj → commOk oi (es i) oj (es j) = true) → stOf ops es (stp ops es s i) l = stp ops es (stOf ops es s l) i := by
  intro l
  induction l with
  | nil => intro s _; rfl
  | cons j l ih =>
    intro s h
    rw [stOf_cons, stOf_cons, ← ih _ (fun k hk => h k (List.mem_cons_of_mem _ hk))]
    obtain ⟨h1, h2⟩ := h j (List.mem_cons_self ..)
    rw [stp_comm h1 h2]

end
end Go.Am
