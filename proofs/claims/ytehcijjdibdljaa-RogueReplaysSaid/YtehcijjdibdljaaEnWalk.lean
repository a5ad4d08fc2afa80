/-
  The engine, part 15: the walk of a function's body, its soundness, and how a contract is proved.
-/
import Derived.Test.YtehcijjdibdljaaEnTree
import Derived.Deep.LoopGhost
namespace Go.Am
open Go.RowKit

/-- The model's state between regions. -/
structure Sim (K : Ctx) (β : Book) (s : ASt) (a : Act) (w : World) : Prop where
  slot : ∀ n, Rel β w (s.fr n) (a.tmps.getD n undef)
  size : a.tmps.size = K.nt
  defers : a.defers = []
  heap : ∀ id o, s.H id = some o → Holds β w o id
  inj : InjB β
  fresh : ∀ id, s.c ≤ id → β.m id = none
  live : ∀ id b n mu, β.m id = some (.lives b n mu) → (K.B ≤ b ∨ K.G b) ∧ b < w.heap.size
  giv : ∀ id o, K.b0 id = some o → ∃ o', β.m id = some o' ∧ o.later o'
  bF : β.F = K.F
  hF : ∀ b, K.F b → b < K.B ∧ ¬ K.G b
  kept : Kept K.B K.G K.w0 w
  hB : K.B ≤ w.heap.size
  glob : GlobB K.gl β w

def ASt.toR (s : ASt) : RSt := ⟨s.fr, fun _ => none, fun _ => none, s.H, fun _ => none⟩
def RSt.toA (r : RSt) (c : Nat) : ASt :=
  ⟨fun n => match r.tg n with | none => r.fr n | some _ => .junk, fun id => match r.ht id with | none => r.H id | some _ => none, c⟩

theorem Sim.toR {K : Ctx} {β : Book} {s : ASt} {a : Act} {w : World} (h : Sim K β s a w) (ops : Array Oper) : RSim K ops s.c (fun _ => True) β s.toR a w :=
  ⟨⟨fun id o ho _ => h.heap id o ho, fun id o ho hg => by simp [ASt.toR, RSt.G] at hg, h.inj, fun id hid => h.fresh id (by omega), fun i k _ _ => h.fresh _ (by omega), h.live, h.giv, h.bF, h.hF, h.kept, h.hB, h.glob⟩,
   ⟨fun n => ⟨fun _ => h.slot n, fun hg => by simp [ASt.toR, RSt.G] at hg⟩, h.size, h.defers, fun j g b hj => by simp [ASt.toR] at hj, fun j o k b hj => absurd rfl hj, fun n j b hn => by simp [ASt.toR] at hn, fun n j b hn => by simp [ASt.toR] at hn, fun _ _ => rfl⟩⟩

theorem RSim.toA {K : Ctx} {ops : Array Oper} {c : Nat} {E : Nat → Prop} {β : Book} {r : RSt} {a : Act} {w : World} (h : RSim K ops c E β r a w) : Sim K β (r.toA (c + 8 * ops.size)) a w := by
  refine ⟨fun n => ?_, h.f.size, h.f.defers, fun id o ho => ?_, h.h.inj, h.h.fresh, h.h.live, h.h.giv, h.h.bF, h.h.hF, h.h.kept, h.h.hB, h.h.glob⟩
  · cases ht : r.tg n with
    | none => simp only [RSt.toA, ht]; exact (h.f.slot n).1 (by rw [ht]; rfl)
    | some x => simp only [RSt.toA, ht]; exact .junk
  · cases ht : r.ht id with
    | none => simp only [RSt.toA, ht] at ho; exact h.h.heap id o ho (by show r.G (r.ht id) = true; rw [ht]; rfl)
    | some x => simp only [RSt.toA, ht] at ho; cases ho

def dstsOk (ops : Array Oper) : Bool :=
  (List.range ops.size).all fun j => match ops[j]? with
    | some oj => match oj.dst with
      | some d => (List.range j).all fun i => match ops[i]? with
        | some oi => (match oi.dst with | some e => !Nat.beq d e | none => true)
        | none => true
      | none => true
    | none => true

theorem dstsOk_spec {ops : Array Oper} (h : dstsOk ops = true) : ∀ (i j : Nat) (oi oj : Oper) (d : Tmp), ops[i]? = some oi → ops[j]? = some oj → oi.dst = some d → oj.dst = some d → i = j := by
  have key : ∀ (i j : Nat) (oi oj : Oper) (d : Tmp), i < j → ops[i]? = some oi → ops[j]? = some oj → oi.dst = some d → oj.dst = some d → False := by
    intro i j oi oj d hij hi hj hdi hdj
    have hlt : j < ops.size := (Array.getElem?_eq_some_iff.1 hj).1
    have h1 := List.all_eq_true.1 h j (List.mem_range.2 hlt)
    simp only [hj, hdj] at h1
    have h2 := List.all_eq_true.1 h1 i (List.mem_range.2 hij)
    simp [hi, hdi] at h2
  intro i j oi oj d hi hj hdi hdj
  rcases Nat.lt_trichotomy i j with h' | h' | h'
  · exact (key i j oi oj d h' hi hj hdi hdj).elim
  · exact h'
  · exact (key j i oj oi d h' hj hi hdj hdi).elim


theorem region_ok {K : Ctx} {C : Cfg} {ops : Array Oper} {id : Nat} {draw : Bool} {s : ASt} {β : Book} {a : Act} {w : World} {k : RSt → Tree} {le : ASt → ASt → Prop} {Q : Exit → Act → World → Prop} (hP : C.P = K.P) (hgl : C.gl = K.gl) (hnt : C.nt = K.nt)
    (hm : K.P.follows .mixedOrders = true) (hd : dstsOk ops = true) (h : (rtree C ops draw s.c ops.toList 0 s.toR [] k).wp C.P C.gl le) (hs : Sim K β s a w)
    (hQ : ∀ β r a w, RSim K ops s.c (fun j => ops.size ≤ j) β r a w → (k r).wp C.P C.gl le → Q .normal a w) : (Code.region id ops draw).wp K.P Q a w := by
  have hlex := rtree_lex _ _ _ _ h
  have hone : OneDst ops := dstsOk_spec hd
  cases draw with
  | false =>
    refine wp_region ?_
    have := lex_ok hP hgl hnt hone (Q := Q) (fun β r acc a w hr hX => hQ β r a w hr hX.2) ops.toList 0 s.toR [] β a w (by simp) (by simp) hlex ((hs.toR ops).fewer fun _ _ => trivial)
    simpa [List.range_eq_range'] using this
  | true =>
    refine wp_region_any hm ?_
    obtain ⟨es, fs, h1, h2, h3⟩ := lex_states ops.toList 0 s.toR [] (by simp) hlex
    have hr : ∀ n, List.range' 0 n = List.range n := fun n => List.range_eq_range'.symm
    have hdo : drawOk ops ((List.range ops.size).map fun j => (fs j, es j)) = true := by
      have := h2 rfl
      simpa [hr] using this
    have D : Drawn K C ops s.c es fs s.toR Q := ⟨hP, hgl, hnt, fun j oj hj => (drawOk_spec hdo hj).1, fun i j oi oj hij hi hj => (drawOk_spec hdo hj).2 i oi hij hi,
      fun j o ho => by
        have := h1 j o (by simpa using (Array.getElem?_eq_some_iff.1 ho).1) (by simpa using ho)
        simpa [hr] using this, hone, fun β a w hsim => hQ β _ a w (by simpa [hr] using hsim) (by simpa [hr] using h3)⟩
    have hs0 : Sim K β s a { w with drawn := w.drawn + 1 } := by
      have hk : Keeps β w β { w with drawn := w.drawn + 1 } := ⟨fun _ o h => ⟨o, h, o.later_refl⟩, fun _ _ _ => rfl, fun _ _ h => h, fun _ _ _ h => h⟩
      exact ⟨fun n => (hs.slot n).keep hk, hs.size, hs.defers, fun id o ho => (hs.heap id o ho).imp (fun ⟨b, h1, h2⟩ => ⟨b, h1, h2.keep hk rfl⟩) (fun h => h), hs.inj, hs.fresh, hs.live, hs.giv, hs.bF, hs.hF,
        ⟨hs.kept.os, hs.kept.tape, hs.kept.output, hs.kept.size, hs.kept.block, hs.kept.shape⟩, hs.hB, fun g m h hgl => (hs.glob g m h hgl).keep hk⟩
    have hl0 : ∀ j, lst (Array.replicate ops.size false) j = false := by
      intro j
      simp only [lst, Array.getD_eq_getD_getElem?]
      by_cases hj : j < ops.size <;> simp [hj]
    have hf : (List.range ops.size).filter (lst (Array.replicate ops.size false)) = [] := List.filter_eq_nil_iff.2 (fun j _ => by rw [hl0]; simp)
    refine any_ok D ops.size _ β a _ (by simp) (by rw [hf]; simp) (fun i j hi => ?_) ?_
    · have := hl0 i
      unfold lst at this
      unfold Li at hi
      rw [this] at hi
      cases hi
    · rw [hf]
      exact (hs0.toR ops).fewer fun _ _ => trivial

/-- Whatever the model's state is that the first describes, the second describes it too. -/
def Le (ng : Nat) (s t : ASt) : Prop := ∀ K β a w, (∀ id, ng ≤ id → K.b0 id = none) → Sim K β s a w → ∃ β', Sim K β' t a w

def run (C : Cfg) : Code → (AExit → ASt → Tree) → ASt → Tree
  | .skip, k, s => k .normal s
  | .label _, k, s => k .normal s
  | .region _ ops draw, k, s =>
    bif dstsOk ops then rtree C ops draw s.c ops.toList 0 s.toR [] (fun r => k .normal (r.toA (s.c + 8 * ops.size))) else .bad "region"
  | .seq x y, k, s => run C x (fun e s' => match e with | .normal => run C y k s' | .leave id => k (.leave id) s' | .ret => k .ret s') s
  | .cond c x y, k, s => match ev C.gl s.fr c with
    | .bool b => .br b (run C x k s) (run C y k s)
    | _ => .bad "cond"
  | .block id x, k, s => run C x (fun e s' => match e with | .normal => k .normal s' | .leave j => bif Nat.beq j id then k .normal s' else k (.leave j) s' | .ret => k .ret s') s
  | .exit id, k, s => k (.leave id) s
  | .ret, k, s => k .ret s
  | .loop x, k, s => .loop x s (fun S p => run C x (fun e s' => match e with | .normal => .again s' p | .leave id => k (.leave id) s' | .ret => k .ret s') S)
  | _, _, _ => .bad "code"

def exitOf : Exit → Option AExit
  | .normal => some .normal
  | .exit id => some (.leave id)
  | .ret => some .ret
  | _ => none

/-- What is known at an exit. -/
def Final (K : Ctx) (C : Cfg) (k : AExit → ASt → Tree) : Exit → Act → World → Prop := fun e a w => ∃ β s ae, exitOf e = some ae ∧ Sim K β s a w ∧ (k ae s).wp C.P C.gl (Le C.ng)

theorem run_sound {K : Ctx} {C : Cfg} (hP : C.P = K.P) (hgl : C.gl = K.gl) (hnt : C.nt = K.nt) (hng : ∀ id, C.ng ≤ id → K.b0 id = none) (hm : K.P.follows .mixedOrders = true) (x : Code) :
    ∀ (k : AExit → ASt → Tree) (s : ASt) (β : Book) (a : Act) (w : World), (run C x k s).wp C.P C.gl (Le C.ng) → Sim K β s a w → x.wp K.P (Final K C k) a w := by
  induction x with
  | skip => intro k s β a w h hs; exact wp_skip ⟨β, s, .normal, rfl, hs, h⟩
  | label l => intro k s β a w h hs; exact wp_label ⟨β, s, .normal, rfl, hs, h⟩
  | exit id => intro k s β a w h hs; exact wp_exit ⟨β, s, .leave id, rfl, hs, h⟩
  | ret => intro k s β a w h hs; exact wp_ret ⟨β, s, .ret, rfl, hs, h⟩
  | goto l => intro k s β a w h hs; exact h.elim
  | scope b => intro k s β a w h hs; exact h.elim
  | refuse w => intro k s β a w h hs; exact h.elim
  | rangeFunc f p x y => intro k s β a w h hs; exact h.elim
  | region id ops draw =>
    intro k s β a w h hs
    simp only [run] at h
    cases hc : dstsOk ops with
    | false => simp only [hc, cond_false] at h; exact h.elim
    | true =>
      simp only [hc, cond_true] at h
      refine region_ok hP hgl hnt hm hc h hs (fun β' r a' w' hr hX => ?_)
      exact ⟨β', _, .normal, rfl, hr.toA, hX⟩
  | seq x y ihx ihy =>
    intro k s β a w h hs
    refine wp_seq (wp_mono (ihx _ s β a w h hs) ?_)
    rintro e a' w' ⟨β', s', ae, he, hs', hk⟩
    cases e <;> simp only [exitOf, reduceCtorEq, Option.some.injEq] at he
    · subst he; exact ihy k s' β' a' w' hk hs'
    · subst he; exact ⟨β', s', _, rfl, hs', hk⟩
    · subst he; exact ⟨β', s', _, rfl, hs', hk⟩
  | cond c x y ihx ihy =>
    intro k s β a w h hs
    simp only [run] at h
    split at h
    · rename_i b hb
      have hrel : Rel β w (ev K.gl s.fr c) (a.eval c) := by
        have := rel_ev (hs.toR #[]) (x := c) (fun t _ => rfl)
        exact this
      rw [← hgl, hb] at hrel
      have hv := rel_bool_inv hrel
      refine wp_cond_split hv (fun ht => ihx k s β a w (h.1 ht) hs) (fun hf => ihy k s β a w (h.2 hf) hs)
    · exact h.elim
  | block id x ih =>
    intro k s β a w h hs
    refine wp_block (wp_mono (ih _ s β a w h hs) ?_)
    rintro e a' w' ⟨β', s', ae, he, hs', hk⟩
    cases e <;> simp only [exitOf, reduceCtorEq, Option.some.injEq] at he
    · subst he; exact ⟨β', s', _, rfl, hs', hk⟩
    · rename_i j
      subst he
      simp only [Exit.inBlock]
      by_cases e : j = id
      · subst e
        rw [if_pos rfl]
        simp only [Nat.beq_refl, cond_true] at hk
        exact ⟨β', s', .normal, rfl, hs', hk⟩
      · rw [if_neg e]
        have hb : Nat.beq j id = false := by
          cases hb : Nat.beq j id with
          | false => rfl
          | true => exact absurd (Nat.eq_of_beq_eq_true hb) e
        simp only [hb, cond_false] at hk
        exact ⟨β', s', .leave j, rfl, hs', hk⟩
    · subst he; exact ⟨β', s', _, rfl, hs', hk⟩
  | loop x ih =>
    intro k s β a w h hs
    obtain ⟨ι, S, m, i0, hle, hround⟩ := h
    refine wp_loop_ghost (fun n a w => ∃ i β, m i = n ∧ Sim K β (S i) a w) (m i0) ?_ ?_
    · obtain ⟨β', hs'⟩ := hle K β a w hng hs
      exact ⟨i0, β', rfl, hs'⟩
    · rintro n a' w' ⟨i, β', rfl, hs'⟩
      refine wp_mono (ih _ (S i) β' a' w' (hround i) hs') ?_
      rintro e a'' w'' ⟨β2, s2, ae, he, hs2, hk⟩
      cases e <;> simp only [exitOf, reduceCtorEq, Option.some.injEq] at he
      · subst he
        obtain ⟨i', hle', hlt⟩ := hk
        obtain ⟨β3, hs3⟩ := hle' K β2 a'' w'' hng hs2
        exact ⟨m i', hlt, i', β3, rfl, hs3⟩
      · subst he; exact ⟨β2, s2, _, rfl, hs2, hk⟩
      · subst he; exact ⟨β2, s2, _, rfl, hs2, hk⟩

/-- What a function hands back. -/
def resOne (P : Program) (s : ASt) : ResultVar → Option AV
  | .tmp t => some (s.fr t)
  | .cell a t => match s.fr a with
    | .own id es i j m => match s.H id with
      | some o => bif Nat.beq o.es es then readT P t m (fun k => o.f i (j + k)) else none
      | none => none
    | _ => none

def resAll (P : Program) (s : ASt) : List ResultVar → Option (List AV)
  | [] => some []
  | x :: xs => match resOne P s x, resAll P s xs with
    | some v, some vs => some (v :: vs)
    | _, _ => none

def resA (P : Program) (fn : Func) (s : ASt) : Option AV :=
  match resAll P s fn.results.toList with
  | some [v] => some v
  | some vs => some (.tup vs)
  | none => none

def resSem (tmps : Array Value) : ResultVar → Sem Value
  | .tmp t => pure (tmps.getD t undef)
  | .cell a t => do loadVar t (← asAddr (tmps.getD a undef))

theorem results_eq (fn : Func) (tmps : Array Value) : results fn tmps = (do let vs ← fn.results.mapM (resSem tmps); pure (if h : vs.size = 1 then vs[0] else .tuple vs)) := by
  rfl


theorem Sim.ok {K : Ctx} {β : Book} {s : ASt} {a : Act} {w : World} (hs : Sim K β s a w) : HeapOk β w s.H := fun id ob hid _ => by
  rcases hs.heap id ob hid with ⟨b, h1, h2⟩ | h
  · exact .inl ⟨b, _, h1, fun h => h, h2⟩
  · exact .inr h

theorem resOne_ok {K : Ctx} {β : Book} {s : ASt} {a : Act} {w : World} (hs : Sim K β s a w) {x : ResultVar} {v : AV} (h : resOne K.P s x = some v) :
    ∃ u, (resSem a.tmps x).run K.P w = .ok u w ∧ Rel β w v u := by
  have hH := hs.ok
  cases x with
  | tmp t => simp only [resOne, Option.some.injEq] at h; subst h; exact ⟨_, rfl, hs.slot t⟩
  | cell b t =>
    simp only [resOne] at h
    split at h
    · rename_i id es i j m hb
      split at h
      · rename_i o ho
        obtain ⟨hc, h⟩ := bif_some h
        have hsl := hs.slot b
        rw [hb] at hsl
        obtain ⟨bl, vals, hu, hcell, hr, _⟩ := own_cells hH hsl ho (Nat.eq_of_beq_eq_true hc)
        obtain ⟨u, hl, hur⟩ := read_ok vals hcell hr h
        exact ⟨u, by simp [resSem, hu, asAddr, hl], hur⟩
      · cases h
    · cases h

theorem resAll_ok {K : Ctx} {β : Book} {s : ASt} {a : Act} {w : World} (hs : Sim K β s a w) (xs : List ResultVar) : ∀ {vs : List AV}, resAll K.P s xs = some vs →
    ∃ us : List Value, (xs.mapM (resSem a.tmps) : Sem (List Value)).run K.P w = .ok us w ∧ Rels β w vs us.toArray := by
  induction xs with
  | nil => intro vs h; simp [resAll] at h; subst h; exact ⟨[], rfl, rfl, by simp⟩
  | cons x xs ih =>
    intro vs h
    simp only [resAll] at h
    split at h
    · rename_i v vs' h1 h2
      cases h
      obtain ⟨u, hu, hr⟩ := resOne_ok hs h1
      obtain ⟨us, hus, hrs⟩ := ih h2
      refine ⟨u :: us, ?_, ?_⟩
      · simp only [List.mapM_cons, Sem.run_bind, hu, Result.andThen_ok, hus, Sem.run_pure]
      · refine ⟨by have := hrs.len; simp at this ⊢; exact this, fun j p q hp hq => ?_⟩
        cases j with
        | zero => simp at hp hq; subst hp; subst hq; exact hr
        | succ j => exact hrs.rel j p q (by simpa using hp) (by simpa using hq)
    · cases h

theorem res_ok {K : Ctx} {β : Book} {s : ASt} {a : Act} {w : World} {fn : Func} (hs : Sim K β s a w) {v : AV} (h : resA K.P fn s = some v) : ∃ u, (results fn a.tmps).run K.P w = .ok u w ∧ Rel β w v u := by
  unfold resA at h
  have hmap : ∀ us : List Value, (fn.results.toList.mapM (resSem a.tmps) : Sem (List Value)).run K.P w = .ok us w →
      (results fn a.tmps).run K.P w = .ok (if h : us.toArray.size = 1 then us.toArray[0] else .tuple us.toArray) w := by
    intro us hus
    rw [results_eq, Array.mapM_eq_mapM_toList]
    simp only [Sem.run_bind, Sem.run_map, hus, Result.andThen_ok, Sem.run_pure]
  split at h
  · rename_i x hx
    cases h
    obtain ⟨us, hus, hr⟩ := resAll_ok hs _ hx
    have hl := hr.len
    match us, hus, hr, hl with
    | [u], hus, hr, _ => exact ⟨u, by rw [hmap _ hus]; rfl, hr.rel 0 _ _ rfl rfl⟩
  · rename_i vs hx hvs
    cases h
    obtain ⟨us, hus, hr⟩ := resAll_ok hs _ hvs
    refine ⟨.tuple us.toArray, ?_, .tup hr.len hr.rel⟩
    rw [hmap _ hus, dif_neg]
    intro h1
    have hl := hr.len
    rw [h1] at hl
    match vs, hl, hx with
    | [x], _, hx => exact hx x rfl
  · cases h


/-- The ids that stand for the given objects and, if they are handed over, the new ones that the result or a given object leads to. -/
def endIds (ng : Nat) (hand : Bool) (as : List AV) (H : Heap) (v : AV) : List Nat :=
  List.range ng ++ (bif hand then (alive H (rch 9 H v ++ as.flatMap (rch 9 H))).filter (fun id => Nat.ble ng id && muOf H id) else [])

def endOf (P : Program) (fn : Func) (ng : Nat) (hand : Bool) (as : List AV) (s : ASt) : Option (AV × List (Option Ob)) :=
  match resA P fn s with
  | some v => bif nodupB (endIds ng hand as s.H v) then
      some (mapA (posIn (endIds ng hand as s.H v) 0) 9 (restH (endIds ng hand as s.H v) s.H) v, (endIds ng hand as s.H v).map fun id => (s.H id).map (mapO (posIn (endIds ng hand as s.H v) 0) (restH (endIds ng hand as s.H v) s.H)))
    else none
  | none => none

/-- What the walk must come to at the end. -/
def Back (P : Program) (fn : Func) (ng : Nat) (hand : Bool) (as : List AV) (r : AV) (obs' : List (Option Ob)) : AExit → ASt → Tree
  | .normal, s => .out (endOf P fn ng hand as s) r obs'
  | .ret, s => .out (endOf P fn ng hand as s) r obs'
  | .leave _, _ => .bad "leave"

def entry (args : List AV) (obs : List Ob) : ASt := ⟨fun n => args.getD n .junk, fun id => obs[id]?, obs.length⟩

/-- THE WAY TO A CONTRACT. -/
theorem gives_of {P : Program} {gl : Globs} {own : FuncId → Option (List Bool)} {hand : Bool} {f : FuncId} {fn : Func} {code : Code} {obs : List Ob} {args : List AV} {r : AV} {obs' : List (Option Ob)} (hf : P.funcs[f]? = some fn) (hb : fn.body = some code) (hname : (fn.name == "runtime.NumGoroutine") = false)
    (hm : P.follows .mixedOrders = true) (hn : Nat.ble args.length fn.ntmps = true) (hwp : (run ⟨P, gl, fn.ntmps, own, obs.length⟩ code (Back P fn obs.length hand args r obs') (entry args obs)).wp P gl (Le obs.length)) : Gives P gl f obs args r obs' := by
  rw [Nat.ble_eq] at hn
  refine ⟨⟨fn, code, hf, hb, hname⟩, fun β w vs hF hgiv hgl hargs => ?_⟩
  refine calls_of_wp hf hb ?_
  let K : Ctx := ⟨P, gl, w.heap.size, w, fn.ntmps, β.F, BlkOf β, β.m⟩
  have hl := hargs.len
  have hs : Sim K β (entry args obs) { tmps := vs ++ Array.replicate (fn.ntmps - vs.size) undef, defers := [] } w := by
    refine ⟨fun n => ?_, (by show (vs ++ Array.replicate (fn.ntmps - vs.size) undef).size = fn.ntmps; simp; omega), rfl, fun id o ho => hgiv.holds id o ho, hgiv.inj, fun id hid => hgiv.none id hid,
      fun id b n mu h => ⟨.inr ⟨id, n, mu, h⟩, (hgiv.lt id b n mu h).1⟩, fun id o ho => ⟨o, ho, o.later_refl⟩, rfl, fun b hb => ⟨hF b hb, fun ⟨k, n, mu, h⟩ => (hgiv.lt k b n mu h).2 hb⟩, Kept.refl _ _ _, Nat.le_refl _, hgl⟩
    show Rel _ _ (args.getD n .junk) _
    rw [Array.getD_eq_getD_getElem?, List.getD_eq_getElem?_getD]
    by_cases hlt : n < args.length
    · rw [Array.getElem?_append_left (by omega)]
      have h1 : args[n]? = some args[n] := by simp [hlt]
      obtain ⟨x, hx, hr⟩ := hargs.at h1
      rw [h1, hx]
      exact hr
    · rw [List.getElem?_eq_none (by omega)]
      exact .junk
  refine wp_mono (run_sound (K := K) (C := ⟨P, gl, fn.ntmps, own, obs.length⟩) rfl rfl rfl (fun id hid => hgiv.none id hid) hm code _ _ _ _ _ hwp hs) ?_
  have fin : ∀ (β1 : Book) (s : ASt) (a : Act) (w' : World), Sim K β1 s a w' → (∃ x os, endOf P fn obs.length hand args s = some (x, os) ∧ Ent os x r ∧ ObsEnt os os obs') →
      a.defers = [] ∧ ∃ v, (results fn a.tmps).run P w' = .ok v w' ∧ ∃ v' β', Ending.returned v = Ending.returned v' ∧ Kept w.heap.size (BlkOf β) w w' ∧ After β β' w w' obs' ∧ Rel β' w' r v' := by
    rintro β1 s a w' hs' ⟨x, os, hx, hent, hobs⟩
    unfold endOf at hx
    split at hx
    rotate_left
    · cases hx
    rename_i v hv
    obtain ⟨hnd, hx⟩ := bif_some hx
    simp only [Option.some.injEq, Prod.mk.injEq] at hx
    obtain ⟨hx1, hx2⟩ := hx
    generalize hids : endIds obs.length hand args s.H v = ids at hnd hx1 hx2
    obtain ⟨u, hu, hr⟩ := res_ok hs' hv
    have hpre : ∀ k, k < obs.length → ids[k]? = some k := fun k hk => by
      rw [← hids]
      unfold endIds
      rw [List.getElem?_append_left (by simpa using hk), List.getElem?_range hk]
    have hlen : obs.length ≤ ids.length := by
      rw [← hids]
      unfold endIds
      simp
    have hnd' := nodupB_spec hnd
    let bm : Nat → Option Own := fun k => match ids[k]? with | some id => β1.m id | none => none
    let β' : Book := ⟨bm, β1.F⟩
    have bm_some : ∀ {k o}, bm k = some o → ∃ id, ids[k]? = some id ∧ β1.m id = some o := by
      intro k o h
      cases hk : ids[k]? with
      | none => simp only [bm, hk] at h; cases h
      | some id => simp only [bm, hk] at h; exact ⟨id, rfl, h⟩
    have bm_at : ∀ {k id}, ids[k]? = some id → bm k = β1.m id := fun {k id} h => by simp only [bm, h]
    have hHr : HeapOk β1 w' (restH ids s.H) := by
      intro id ob hid hne
      unfold restH at hid
      cases hmem : memN ids id with
      | true => simp [hmem] at hid
      | false => simp only [hmem, cond_false] at hid; exact hs'.ok id ob hid hne
    have h1 : ∀ id k, posIn ids 0 id = some k → β1.m id ≠ none → β'.m k = β1.m id := fun id k h _ => by
      obtain ⟨_, h2⟩ := posIn_some h
      exact bm_at (by simpa using h2)
    have h2 : ∀ b, β1.free b → β'.free b := fun b hf => ⟨hf.1, fun k n h => by
      obtain ⟨id, _, hm'⟩ := bm_some h
      exact hf.2 id n hm'⟩
    have h3 : ∀ id ob b n mu, restH ids s.H id = some ob → β1.m id = some (.lives b n mu) → β'.free b := by
      intro id ob b n mu ho hm'
      unfold restH at ho
      cases hmem : memN ids id with
      | true => simp [hmem] at ho
      | false =>
        refine ⟨fun hF' => ?_, fun k n' h => ?_⟩
        · have hF2 : β1.F b := hF'
          rw [hs'.bF] at hF2
          obtain ⟨g1, g2⟩ := hs'.hF b hF2
          rcases (hs'.live id b n mu hm').1 with h | h
          · omega
          · exact g2 h
        · obtain ⟨id', hk, hm2⟩ := bm_some h
          have := hs'.inj id' id b n' n _ mu hm2 hm'
          subst this
          rw [memN_iff.2 (List.mem_of_getElem? hk)] at hmem
          cases hmem
    obtain ⟨hl1, hobs'⟩ := hobs.spec
    have hHas : Has os β' := fun k o hk => by
      rw [← hx2, List.getElem?_map] at hk
      cases hik : ids[k]? with
      | none => simp [hik] at hk
      | some id =>
        simp only [hik, Option.map_some, Option.some.injEq, Option.map_eq_some_iff] at hk
        obtain ⟨o0, g3, _⟩ := hk
        show bm k ≠ none
        rw [bm_at hik]
        rcases hs'.heap id o0 g3 with ⟨b, g, _⟩ | ⟨g, _⟩ <;> (rw [g]; simp)
    refine ⟨hs'.defers, u, hu, u, β', rfl, hs'.kept, ⟨?_, fun k ob hk => ?_, fun k hk => ?_, fun p q b n n' mu mu' e1 e2 => ?_, fun k b n mu h => ?_, fun k o ho => ?_⟩, hent _ _ _ hHas ?_⟩
    · exact hs'.bF
    · obtain ⟨o1, g1, g2⟩ := hobs' k ob hk
      rw [← hx2, List.getElem?_map] at g1
      cases hik : ids[k]? with
      | none => simp [hik] at g1
      | some id =>
        simp only [hik, Option.map_some, Option.some.injEq, Option.map_eq_some_iff] at g1
        obtain ⟨o0, g3, rfl⟩ := g1
        have hh := mapO_holds (β' := β') hHr h1 h2 h3 (bm_at hik) (hs'.heap id o0 g3)
        obtain ⟨e1, e2, e3, e4⟩ := g2
        rcases hh with ⟨b, k1, cs, el, k2, k3, k4⟩ | ⟨k1, k2⟩
        · refine .inl ⟨b, by rw [← e2, ← e3]; exact k1, cs, el, k2, by rw [← e1, ← e2]; exact k3, fun i j hi hj => ?_⟩
          rw [← e2] at hi
          rw [← e1] at hj ⊢
          obtain ⟨vv, j1, j2, j3⟩ := k4 i j hi hj
          exact ⟨vv, j1, e4 i j hi hj _ _ _ hHas j2, j3⟩
        · exact .inr ⟨k1, by rw [← e2]; exact k2⟩
    · have : ids[k]? = none := List.getElem?_eq_none (by rw [← hl1, ← hx2] at hk; simpa using hk)
      show bm k = none
      simp only [bm, this]
    · obtain ⟨x1, g1, g2⟩ := bm_some e1
      obtain ⟨y1, g3, g4⟩ := bm_some e2
      have := hs'.inj x1 y1 b n n' mu mu' g2 g4
      subst this
      exact hnd' p q x1 g1 g3
    · obtain ⟨id, g1, g2⟩ := bm_some h
      have := hs'.live id b n mu g2
      exact ⟨this.2, this.1⟩
    · have hk : k < obs.length := Nat.lt_of_not_le fun h => by rw [hgiv.none k h] at ho; cases ho
      obtain ⟨o', g1, g2⟩ := hs'.giv k o ho
      exact ⟨o', by show bm k = some o'; rw [bm_at (hpre k hk)]; exact g1, g2⟩
    · rw [← hx1]
      exact mapA_rel hHr h1 h2 h3 9 v u hr
  rintro e a w' ⟨β1, s, ae, he, hs', hk⟩
  cases e <;> simp only [exitOf, reduceCtorEq, Option.some.injEq] at he
  · subst he; exact fin β1 s a w' hs' hk
  · subst he; exact hk.elim
  · subst he; exact fin β1 s a w' hs' hk

end Go.Am
