/- Part of the proof: EnWalk, EnUse, EnLaw, EnOpen, EnRow, EnArg, Sup, EnRound, EnForce, EnSet, EnSet2, UU1, UU2, SpMath, SpPay, UU3. -/
import Derived.Test.YtbmdmoknnlhdoaaM2
import Derived.Deep.LoopGhost
import Derived.LoopN
import Derived.KernelRfl
import Derived.ProofKit
import Derived.Deep.Slices
import Derived.OrdersIn
import Derived.Test.YtbmdmoknnlhdoaaProg
namespace Go.Am
open Go.RowKit

def ASt.toR (s : ASt) : RSt := ⟨s.fr, fun _ => none, fun _ => none, s.H, fun _ => none⟩
def RSt.toA (r : RSt) (c : Nat) : ASt :=
  ⟨fun n => match r.tg n with | none => r.fr n | some _ => .junk, fun id => match r.ht id with | none => r.H id | some _ => none, c⟩

theorem Sim.toR {K : Ctx} {β : Book} {s : ASt} {a : Act} {w : World} (h : Sim K β s a w) (ops : Array Oper) : RSim K ops s.c (fun _ => True) β s.toR a w :=
  ⟨⟨fun id o ho _ => h.heap id o ho, fun id o ho hg => by simp [ASt.toR, RSt.G] at hg, h.inj, fun id hid => h.fresh id (by omega), fun i k _ _ => h.fresh _ (by omega), h.live, h.giv, h.bF, h.hF, h.kept, h.hB, h.glob⟩,
   ⟨fun n => ⟨fun _ => h.slot n, fun hg => by simp [ASt.toR, RSt.G] at hg⟩, h.size, h.defers, fun j g b hj => by simp [ASt.toR] at hj, fun j o k b hj => absurd rfl hj, fun n j b hn => by simp [ASt.toR] at hn, fun n j b hn => by simp [ASt.toR] at hn, fun _ _ => rfl⟩⟩

theorem RSim.toA {K : Ctx} {ops : Array Oper} {c : Nat} {E : Nat → Prop} {β : Book} {r : RSt} {a : Act} {w : World} (h : RSim K ops c E β r a w) : Sim K β (r.toA (c + 8 * ops.size)) a w := by
  refine ⟨fun n => ?_, h.f.size, h.f.defers, fun id o ho => ?_, h.h.inj, h.h.fresh, h.h.live, h.h.giv, h.h.bF, h.h.hF, h.h.kept, h.h.hB, h.h.glob⟩
  · cases ht : r.tg n with
    | none => simp only [RSt.toA, ht]; exact (h.f.slot n).1 (by rw [ht]; rfl)
    | some x => simp only [RSt.toA, ht]; exact .junk
  · cases ht : r.ht id with
    | none => simp only [RSt.toA, ht] at ho; exact h.h.heap id o ho (by show r.G (r.ht id) = true; rw [ht]; rfl)
    | some x => simp only [RSt.toA, ht] at ho; cases ho

def dstsOk (ops : Array Oper) : Bool :=
  (List.range ops.size).all fun j => match ops[j]? with
    | some oj => match oj.dst with
      | some d => (List.range j).all fun i => match ops[i]? with
        | some oi => (match oi.dst with | some e => !Nat.beq d e | none => true)
        | none => true
      | none => true
    | none => true

theorem dstsOk_spec {ops : Array Oper} (h : dstsOk ops = true) : ∀ (i j : Nat) (oi oj : Oper) (d : Tmp), ops[i]? = some oi → ops[j]? = some oj → oi.dst = some d → oj.dst = some d → i = j := by
  have key : ∀ (i j : Nat) (oi oj : Oper) (d : Tmp), i < j → ops[i]? = some oi → ops[j]? = some oj → oi.dst = some d → oj.dst = some d → False := by
    intro i j oi oj d hij hi hj hdi hdj
    have hlt : j < ops.size := (Array.getElem?_eq_some_iff.1 hj).1
    have h1 := List.all_eq_true.1 h j (List.mem_range.2 hlt)
    simp only [hj, hdj] at h1
    have h2 := List.all_eq_true.1 h1 i (List.mem_range.2 hij)
    simp [hi, hdi] at h2
  intro i j oi oj d hi hj hdi hdj
  rcases Nat.lt_trichotomy i j with h' | h' | h'
  · exact (key i j oi oj d h' hi hj hdi hdj).elim
  · exact h'
  · exact (key j i oj oi d h' hj hi hdj hdi).elim


theorem region_core {K : Ctx} {C : Cfg} {ops : Array Oper} {draw : Bool} {s : ASt} {β : Book} {a : Act} {w : World} {k : RSt → Tree} {le : ASt → ASt → Prop} {Q : Exit → Act → World → Prop} (hP : C.P = K.P) (hgl : C.gl = K.gl) (hnt : C.nt = K.nt)
    (hd : dstsOk ops = true) (h : (rtree C ops draw s.c ops.toList 0 s.toR [] k).wp C.P C.gl le) (hs : Sim K β s a w)
    (hQ : ∀ β r a w, RSim K ops s.c (fun j => ops.size ≤ j) β r a w → (k r).wp C.P C.gl le → Q .normal a w) :
    (draw = false → wpOps K.P ops Q (List.range ops.size) a w) ∧ (draw = true → wpAny K.P .any ops Q ops.size (Array.replicate ops.size false) a { w with drawn := w.drawn + 1 }) := by
  have hlex := rtree_lex _ _ _ _ h
  have hone : OneDst ops := dstsOk_spec hd
  cases draw with
  | false =>
    refine ⟨fun _ => ?_, fun h => by cases h⟩
    have := lex_ok hP hgl hnt hone (Q := Q) (fun β r acc a w hr hX => hQ β r a w hr hX.2) ops.toList 0 s.toR [] β a w (by simp) (by simp) hlex ((hs.toR ops).fewer fun _ _ => trivial)
    simpa [List.range_eq_range'] using this
  | true =>
    refine ⟨fun h => (by cases h), fun _ => ?_⟩
    obtain ⟨es, fs, h1, h2, h3⟩ := lex_states ops.toList 0 s.toR [] (by simp) hlex
    have hr : ∀ n, List.range' 0 n = List.range n := fun n => List.range_eq_range'.symm
    have hdo : drawOk ops ((List.range ops.size).map fun j => (fs j, es j)) = true := by
      have := h2 rfl
      simpa [hr] using this
    have D : Drawn K C ops s.c es fs s.toR Q := ⟨hP, hgl, hnt, fun j oj hj => (drawOk_spec hdo hj).1, fun i j oi oj hij hi hj => (drawOk_spec hdo hj).2 i oi hij hi,
      fun j o ho => by
        have := h1 j o (by simpa using (Array.getElem?_eq_some_iff.1 ho).1) (by simpa using ho)
        simpa [hr] using this, hone, fun β a w hsim => hQ β _ a w (by simpa [hr] using hsim) (by simpa [hr] using h3)⟩
    have hs0 : Sim K β s a { w with drawn := w.drawn + 1 } := by
      have hk : Keeps β w β { w with drawn := w.drawn + 1 } := ⟨fun _ o h => ⟨o, h, o.later_refl⟩, fun _ _ _ => rfl, fun _ _ h => h, fun _ _ _ h => h⟩
      exact ⟨fun n => (hs.slot n).keep hk, hs.size, hs.defers, fun id o ho => (hs.heap id o ho).imp (fun ⟨b, h1, h2⟩ => ⟨b, h1, h2.keep hk rfl⟩) (fun h => h), hs.inj, hs.fresh, hs.live, hs.giv, hs.bF, hs.hF,
        ⟨hs.kept.os, hs.kept.tape, hs.kept.output, hs.kept.size, hs.kept.block, hs.kept.shape, hs.kept.othr⟩, hs.hB, fun g m h hgl => (hs.glob g m h hgl).keep hk⟩
    have hl0 : ∀ j, lst (Array.replicate ops.size false) j = false := by
      intro j
      simp only [lst, Array.getD_eq_getD_getElem?]
      by_cases hj : j < ops.size <;> simp [hj]
    have hf : (List.range ops.size).filter (lst (Array.replicate ops.size false)) = [] := List.filter_eq_nil_iff.2 (fun j _ => by rw [hl0]; simp)
    refine any_ok D ops.size _ β a _ (by simp) (by rw [hf]; simp) (fun i j hi => ?_) ?_
    · have := hl0 i
      unfold lst at this
      unfold Li at hi
      rw [this] at hi
      cases hi
    · rw [hf]
      exact (hs0.toR ops).fewer fun _ _ => trivial

theorem region_ok {K : Ctx} {C : Cfg} {ops : Array Oper} {id : Nat} {draw : Bool} {s : ASt} {β : Book} {a : Act} {w : World} {k : RSt → Tree} {le : ASt → ASt → Prop} {Q : Exit → Act → World → Prop} (hP : C.P = K.P) (hgl : C.gl = K.gl) (hnt : C.nt = K.nt)
    (hm : K.P.follows .mixedOrders = true) (hd : dstsOk ops = true) (h : (rtree C ops draw s.c ops.toList 0 s.toR [] k).wp C.P C.gl le) (hs : Sim K β s a w)
    (hQ : ∀ β r a w, RSim K ops s.c (fun j => ops.size ≤ j) β r a w → (k r).wp C.P C.gl le → Q .normal a w) : (Code.region id ops draw).wp K.P Q a w := by
  obtain ⟨h1, h2⟩ := region_core hP hgl hnt hd h hs hQ
  cases draw with
  | false => exact wp_region (h1 rfl)
  | true => exact wp_region_any hm (h2 rfl)

def Le (ng : Nat) (s t : ASt) : Prop := ∀ K β a w, (∀ id, ng ≤ id → K.b0 id = none) → Sim K β s a w → ∃ β', Sim K β' t a w

def hasUpd (ops : Array Oper) : Bool := ops.toList.any fun o => match o.op with | .mapUpdate .. => true | _ => false

def unr (body : (ASt → Tree) → ASt → Tree) : List Bool → ASt → Tree
  | [], _ => .bad "rounds"
  | _ :: l, s => body (unr body l) s

def hasLoop : Code → Bool
  | .loop _ => true
  | .seq x y => hasLoop x || hasLoop y
  | .cond _ x y => hasLoop x || hasLoop y
  | .block _ x => hasLoop x
  | _ => false

def rounds (C : Cfg) (x : Code) : Option (List Bool) := match C.own 999999999 with
  | none => none
  | some l => match C.own 999999998 with
    | none => some l
    | some _ => bif hasLoop x then none else some l

def run (C : Cfg) : Code → (AExit → ASt → Tree) → ASt → Tree
  | .skip, k, s => k .normal s
  | .label _, k, s => k .normal s
  | .region id ops draw, k, s =>
    bif hasUpd ops then .opq C.ng C.nt (.region id ops draw) s (fun s' => k .normal s')
    else bif dstsOk ops then rtree C ops draw s.c ops.toList 0 s.toR [] (fun r => k .normal (r.toA (s.c + 8 * ops.size))) else .bad "region"
  | .seq x y, k, s => run C x (fun e s' => match e with | .normal => run C y k s' | .leave id => k (.leave id) s' | .ret => k .ret s') s
  | .cond c x y, k, s => match ev C.gl s.fr c with
    | .bool b => .br b (run C x k s) (run C y k s)
    | _ => .bad "cond"
  | .block id x, k, s => run C x (fun e s' => match e with | .normal => k .normal s' | .leave j => bif Nat.beq j id then k .normal s' else k (.leave j) s' | .ret => k .ret s') s
  | .exit id, k, s => k (.leave id) s
  | .ret, k, s => k .ret s
  | .loop x, k, s => match rounds C x with
    | some l => unr (fun again s => run C x (fun e s' => match e with | .normal => again s' | .leave id => k (.leave id) s' | .ret => k .ret s') s) l s
    | none => .loop x s (fun S p => run C x (fun e s' => match e with | .normal => .again s' p | .leave id => k (.leave id) s' | .ret => k .ret s') S)
  | .rangeFunc g ps x y, k, s => .opq C.ng C.nt (.rangeFunc g ps x y) s (fun s' => k .normal s')
  | _, _, _ => .bad "code"

def exitOf : Exit → Option AExit
  | .normal => some .normal
  | .exit id => some (.leave id)
  | .ret => some .ret
  | _ => none

def Final (K : Ctx) (C : Cfg) (k : AExit → ASt → Tree) : Exit → Act → World → Prop := fun e a w => ∃ β s ae, exitOf e = some ae ∧ Sim K β s a w ∧ (k ae s).wp C.P C.gl (Le C.ng)

theorem run_sound {K : Ctx} {C : Cfg} (hP : C.P = K.P) (hgl : C.gl = K.gl) (hnt : C.nt = K.nt) (hng : ∀ id, C.ng ≤ id → K.b0 id = none) (hqt : K.qt = false) (hm : K.P.follows .mixedOrders = true) (x : Code) :
    ∀ (k : AExit → ASt → Tree) (s : ASt) (β : Book) (a : Act) (w : World), (run C x k s).wp C.P C.gl (Le C.ng) → Sim K β s a w → x.wp K.P (Final K C k) a w := by
  induction x with
  | skip => intro k s β a w h hs; exact wp_skip ⟨β, s, .normal, rfl, hs, h⟩
  | label l => intro k s β a w h hs; exact wp_label ⟨β, s, .normal, rfl, hs, h⟩
  | exit id => intro k s β a w h hs; exact wp_exit ⟨β, s, .leave id, rfl, hs, h⟩
  | ret => intro k s β a w h hs; exact wp_ret ⟨β, s, .ret, rfl, hs, h⟩
  | goto l => intro k s β a w h hs; exact h.elim
  | scope b => intro k s β a w h hs; exact h.elim
  | refuse w => intro k s β a w h hs; exact h.elim
  | rangeFunc f p x y =>
    intro k s β a w h hs
    obtain ⟨s', ho, hk⟩ := h
    have := ho K β a w hP.symm hgl.symm hnt.symm hng hqt (hP ▸ hm) hs
    rw [hP] at this
    refine wp_mono this ?_
    rintro e a' w' ⟨rfl, β', hs'⟩
    exact ⟨β', s', .normal, rfl, hs', hk⟩
  | region id ops draw =>
    intro k s β a w h hs
    simp only [run] at h
    cases hu : hasUpd ops with
    | true =>
      simp only [hu, cond_true] at h
      obtain ⟨s', ho, hk⟩ := h
      have := ho K β a w hP.symm hgl.symm hnt.symm hng hqt (hP ▸ hm) hs
      rw [hP] at this
      refine wp_mono this ?_
      rintro e a' w' ⟨rfl, β', hs'⟩
      exact ⟨β', s', .normal, rfl, hs', hk⟩
    | false =>
    simp only [hu, cond_false] at h
    cases hc : dstsOk ops with
    | false => simp only [hc, cond_false] at h; exact h.elim
    | true =>
      simp only [hc, cond_true] at h
      refine region_ok hP hgl hnt hm hc h hs (fun β' r a' w' hr hX => ?_)
      exact ⟨β', _, .normal, rfl, hr.toA, hX⟩
  | seq x y ihx ihy =>
    intro k s β a w h hs
    refine wp_seq (wp_mono (ihx _ s β a w h hs) ?_)
    rintro e a' w' ⟨β', s', ae, he, hs', hk⟩
    cases e <;> simp only [exitOf, reduceCtorEq, Option.some.injEq] at he
    · subst he; exact ihy k s' β' a' w' hk hs'
    · subst he; exact ⟨β', s', _, rfl, hs', hk⟩
    · subst he; exact ⟨β', s', _, rfl, hs', hk⟩
  | cond c x y ihx ihy =>
    intro k s β a w h hs
    simp only [run] at h
    split at h
    · rename_i b hb
      have hrel : Rel β w (ev K.gl s.fr c) (a.eval c) := by
        have := rel_ev (hs.toR #[]) (x := c) (fun t _ => rfl)
        exact this
      rw [← hgl, hb] at hrel
      have hv := rel_bool_inv hrel
      refine wp_cond_split hv (fun ht => ihx k s β a w (h.1 ht) hs) (fun hf => ihy k s β a w (h.2 hf) hs)
    · exact h.elim
  | block id x ih =>
    intro k s β a w h hs
    refine wp_block (wp_mono (ih _ s β a w h hs) ?_)
    rintro e a' w' ⟨β', s', ae, he, hs', hk⟩
    cases e <;> simp only [exitOf, reduceCtorEq, Option.some.injEq] at he
    · subst he; exact ⟨β', s', _, rfl, hs', hk⟩
    · rename_i j
      subst he
      simp only [Exit.inBlock]
      by_cases e : j = id
      · subst e
        rw [if_pos rfl]
        simp only [Nat.beq_refl, cond_true] at hk
        exact ⟨β', s', .normal, rfl, hs', hk⟩
      · rw [if_neg e]
        have hb : Nat.beq j id = false := by
          cases hb : Nat.beq j id with
          | false => rfl
          | true => exact absurd (Nat.eq_of_beq_eq_true hb) e
        simp only [hb, cond_false] at hk
        exact ⟨β', s', .leave j, rfl, hs', hk⟩
    · subst he; exact ⟨β', s', _, rfl, hs', hk⟩
  | loop x ih =>
    intro k s β a w h hs
    simp only [run] at h
    cases hun : rounds C x with
    | some l =>
      simp only [hun] at h
      refine wp_loop_rounds l.length ?_
      clear hun
      induction l generalizing s β a w with
      | nil => exact h.elim
      | cons b l ihl =>
        refine wp_mono (ih _ s β a w h hs) ?_
        rintro e a' w' ⟨β', s', ae, he, hs', hk⟩
        cases e <;> simp only [exitOf, reduceCtorEq, Option.some.injEq] at he
        · subst he; exact ihl s' β' a' w' hs' hk
        · subst he; exact ⟨β', s', _, rfl, hs', hk⟩
        · subst he; exact ⟨β', s', _, rfl, hs', hk⟩
    | none =>
    simp only [hun] at h
    obtain ⟨ι, S, m, i0, hle, hround⟩ := h
    refine wp_loop_ghost (fun n a w => ∃ i β, m i = n ∧ Sim K β (S i) a w) (m i0) ?_ ?_
    · obtain ⟨β', hs'⟩ := hle K β a w hng hs
      exact ⟨i0, β', rfl, hs'⟩
    · rintro n a' w' ⟨i, β', rfl, hs'⟩
      refine wp_mono (ih _ (S i) β' a' w' (hround i) hs') ?_
      rintro e a'' w'' ⟨β2, s2, ae, he, hs2, hk⟩
      cases e <;> simp only [exitOf, reduceCtorEq, Option.some.injEq] at he
      · subst he
        obtain ⟨i', hle', hlt⟩ := hk
        obtain ⟨β3, hs3⟩ := hle' K β2 a'' w'' hng hs2
        exact ⟨m i', hlt, i', β3, rfl, hs3⟩
      · subst he; exact ⟨β2, s2, _, rfl, hs2, hk⟩
      · subst he; exact ⟨β2, s2, _, rfl, hs2, hk⟩

def resOne (P : Program) (s : ASt) : ResultVar → Option AV
  | .tmp t => some (s.fr t)
  | .cell a t => match s.fr a with
    | .own id es i j m => match s.H id with
      | some o => bif Nat.beq o.es es then readT P t m (fun k => o.f i (j + k)) else none
      | none => none
    | _ => none

def resAll (P : Program) (s : ASt) : List ResultVar → Option (List AV)
  | [] => some []
  | x :: xs => match resOne P s x, resAll P s xs with
    | some v, some vs => some (v :: vs)
    | _, _ => none

def resA (P : Program) (fn : Func) (s : ASt) : Option AV :=
  match resAll P s fn.results.toList with
  | some [v] => some v
  | some vs => some (.tup vs)
  | none => none

def resSem (tmps : Array Value) : ResultVar → Sem Value
  | .tmp t => pure (tmps.getD t undef)
  | .cell a t => do loadVar t (← asAddr (tmps.getD a undef))

theorem results_eq (fn : Func) (tmps : Array Value) : results fn tmps = (do let vs ← fn.results.mapM (resSem tmps); pure (if h : vs.size = 1 then vs[0] else .tuple vs)) := by
  rfl


theorem Sim.ok {K : Ctx} {β : Book} {s : ASt} {a : Act} {w : World} (hs : Sim K β s a w) : HeapOk β w s.H := fun id ob hid _ => by
  rcases hs.heap id ob hid with ⟨b, h1, h2⟩ | h
  · exact .inl ⟨b, _, h1, fun h => h, h2⟩
  · exact .inr h

theorem resOne_ok {K : Ctx} {β : Book} {s : ASt} {a : Act} {w : World} (hs : Sim K β s a w) {x : ResultVar} {v : AV} (h : resOne K.P s x = some v) :
    ∃ u, (resSem a.tmps x).run K.P w = .ok u w ∧ Rel β w v u := by
  have hH := hs.ok
  cases x with
  | tmp t => simp only [resOne, Option.some.injEq] at h; subst h; exact ⟨_, rfl, hs.slot t⟩
  | cell b t =>
    simp only [resOne] at h
    split at h
    · rename_i id es i j m hb
      split at h
      · rename_i o ho
        obtain ⟨hc, h⟩ := bif_some h
        have hsl := hs.slot b
        rw [hb] at hsl
        obtain ⟨bl, vals, hu, hcell, hr, _⟩ := own_cells hH hsl ho (Nat.eq_of_beq_eq_true hc)
        obtain ⟨u, hl, hur⟩ := read_ok vals hcell hr h
        exact ⟨u, by simp [resSem, hu, asAddr, hl], hur⟩
      · cases h
    · cases h

theorem resAll_ok {K : Ctx} {β : Book} {s : ASt} {a : Act} {w : World} (hs : Sim K β s a w) (xs : List ResultVar) : ∀ {vs : List AV}, resAll K.P s xs = some vs →
    ∃ us : List Value, (xs.mapM (resSem a.tmps) : Sem (List Value)).run K.P w = .ok us w ∧ Rels β w vs us.toArray := by
  induction xs with
  | nil => intro vs h; simp [resAll] at h; subst h; exact ⟨[], rfl, rfl, by simp⟩
  | cons x xs ih =>
    intro vs h
    simp only [resAll] at h
    split at h
    · rename_i v vs' h1 h2
      cases h
      obtain ⟨u, hu, hr⟩ := resOne_ok hs h1
      obtain ⟨us, hus, hrs⟩ := ih h2
      refine ⟨u :: us, ?_, ?_⟩
      · simp only [List.mapM_cons, Sem.run_bind, hu, Result.andThen_ok, hus, Sem.run_pure]
      · refine ⟨by have := hrs.len; simp at this ⊢; exact this, fun j p q hp hq => ?_⟩
        cases j with
        | zero => simp at hp hq; subst hp; subst hq; exact hr
        | succ j => exact hrs.rel j p q (by simpa using hp) (by simpa using hq)
    · cases h

theorem res_ok {K : Ctx} {β : Book} {s : ASt} {a : Act} {w : World} {fn : Func} (hs : Sim K β s a w) {v : AV} (h : resA K.P fn s = some v) : ∃ u, (results fn a.tmps).run K.P w = .ok u w ∧ Rel β w v u := by
  unfold resA at h
  have hmap : ∀ us : List Value, (fn.results.toList.mapM (resSem a.tmps) : Sem (List Value)).run K.P w = .ok us w →
      (results fn a.tmps).run K.P w = .ok (if h : us.toArray.size = 1 then us.toArray[0] else .tuple us.toArray) w := by
    intro us hus
    rw [results_eq, Array.mapM_eq_mapM_toList]
    simp only [Sem.run_bind, Sem.run_map, hus, Result.andThen_ok, Sem.run_pure]
  split at h
  · rename_i x hx
    cases h
    obtain ⟨us, hus, hr⟩ := resAll_ok hs _ hx
    have hl := hr.len
    match us, hus, hr, hl with
    | [u], hus, hr, _ => exact ⟨u, by rw [hmap _ hus]; rfl, hr.rel 0 _ _ rfl rfl⟩
  · rename_i vs hx hvs
    cases h
    obtain ⟨us, hus, hr⟩ := resAll_ok hs _ hvs
    refine ⟨.tuple us.toArray, ?_, .tup hr.len hr.rel⟩
    rw [hmap _ hus, dif_neg]
    intro h1
    have hl := hr.len
    rw [h1] at hl
    match vs, hl, hx with
    | [x], _, hx => exact hx x rfl
  · cases h


def endIds (ng : Nat) (hand : Bool) (ags : List AV) (H : Heap) (v : AV) : List Nat :=
  List.range ng ++ (bif hand then (alive H (rch 9 H v ++ ags.flatMap (rch 9 H))).filter (fun id => Nat.ble ng id && muOf H id) else [])

def endOf (P : Program) (fn : Func) (ng : Nat) (hand : Bool) (ags : List AV) (s : ASt) : Option (AV × List (Option Ob)) :=
  match resA P fn s with
  | some v => bif nodupB (endIds ng hand ags s.H v) then
      some (mapA (posIn (endIds ng hand ags s.H v) 0) 9 (restH (endIds ng hand ags s.H v) s.H) v, (endIds ng hand ags s.H v).map fun id => (s.H id).map (mapO (posIn (endIds ng hand ags s.H v) 0) (restH (endIds ng hand ags s.H v) s.H)))
    else none
  | none => none

def Back (P : Program) (fn : Func) (ng : Nat) (hand : Bool) (ags : List AV) (r : AV) (obs' : List (Option Ob)) : AExit → ASt → Tree
  | .normal, s => .out (endOf P fn ng hand ags s) r obs'
  | .ret, s => .out (endOf P fn ng hand ags s) r obs'
  | .leave _, _ => .bad "leave"

def entry (args : List AV) (obs : List Ob) : ASt := ⟨fun n => args.getD n .junk, fun id => obs[id]?, obs.length⟩

inductive NM : AV → Prop where
  | int {k : IntKind} {n : Int} : NM (.int k n)
  | bool {b : Bool} : NM (.bool b)
  | str {s : ByteArray} : NM (.str s)
  | nsl : NM .nsl
  | esl : NM .esl
  | raw {v : Value} : NM (.raw v)
  | own {id es i j m : Nat} : NM (.own id es i j m)
  | osl {id es i len : Nat} : NM (.osl id es i len)
  | oel {id es i base len k : Nat} : NM (.oel id es i base len k)
  | isl {es n : Nat} {f : Nat → Nat → AV} (h : ∀ i j, i < n → j < es → NM (f i j)) : NM (.isl es n f)
  | ipt {m : Nat} {g : Nat → AV} (h : ∀ j, j < m → NM (g j)) : NM (.ipt m g)
  | agg {cs : List AV} (h : ∀ u, u ∈ cs → NM u) : NM (.agg cs)
  | tup {cs : List AV} (h : ∀ u, u ∈ cs → NM u) : NM (.tup cs)
  | fn {f : Fn} {fs cs : List AV} (h : ∀ u, u ∈ fs → NM u) (h' : ∀ u, u ∈ cs → NM u) : NM (.fn f fs cs)
  | ifc {t : TypeId} {v : AV} (h : NM v) : NM (.ifc t v)
  | nn {v : AV} (h : NM v) : NM (.nn v)
  | junk : NM .junk
def MapsOr (w w' : World) (p : Prop) : Prop := (∀ (b : Nat) (es : Array MapEntry) (z : Nat), w.heap[b]? = some (.map es z) → w'.heap[b]? = some (.map es z)) ∨ p
theorem MapsOr.mono {w w' : World} {p q : Prop} (h : MapsOr w w' p) (k : p → q) : MapsOr w w' q := h.imp (fun h => h) k

theorem Rel.same {β : Book} {w w' : World} (hc : ∀ (b : Nat) (cs : Array Value) (el : TypeId) (z : Nat × Nat), w.heap[b]? = some (.cells cs el z) → w'.heap[b]? = some (.cells cs el z)) {a : AV} {v : Value} (hx : MapsOr w w' (NM a)) (h : Rel β w a v) : Rel β w' a v := by
  have cell : ∀ (p : Addr) v, w.cell? p = some v → w'.cell? p = some v := fun p v hp => by
    unfold World.cell? at hp ⊢
    split at hp
    · rename_i cs el z hb
      rw [hc _ _ _ _ hb]; exact hp
    · cases hp
  have shp : ∀ b el sz, w.shape? b = some (el, sz) → w'.shape? b = some (el, sz) := fun b el sz hp => by
    unfold World.shape? at hp ⊢
    split at hp
    · rename_i cs el' z hb
      rw [hc _ _ _ _ hb]; exact hp
    · cases hp
  induction h with
  | int => exact .int
  | bool => exact .bool
  | str => exact .str
  | nsl => exact .nsl
  | esl => exact .esl
  | raw h => exact .raw h
  | own h hi hj => exact .own h hi hj
  | ownD h => exact .ownD h
  | oel h hi hk hl => exact .oel h hi hk hl
  | oelD h => exact .oelD h
  | osl h hn hc' hs hz => exact .osl h hn hc' (shp _ _ _ hs) hz
  | osl0 h => exact .osl0 h
  | oslD h => exact .oslD h
  | isl vals he hcap hb hcc ho hr hcl ih => exact .isl vals he hcap hb (fun i j hi hj => cell _ _ (hcc i j hi hj)) ho (fun i j hi hj => ih i j hi hj (hx.mono fun h => by cases h with | isl h => exact h i j hi hj)) hcl
  | isl0 h => exact .isl0 h
  | ipt vals hm hb hcc ho hr hcl ih => exact .ipt vals hm hb (fun j hj => cell _ _ (hcc j hj)) ho (fun j hj => ih j hj (hx.mono fun h => by cases h with | ipt h => exact h j hj)) hcl
  | agg hl _ ih => exact .agg hl (fun j u v hu hv => ih j u v hu hv (hx.mono fun h => by cases h with | agg h => exact h u (List.mem_of_getElem? hu)))
  | tup hl _ ih => exact .tup hl (fun j u v hu hv => ih j u v hu hv (hx.mono fun h => by cases h with | tup h => exact h u (List.mem_of_getElem? hu)))
  | fn hl _ hl' _ ih ih' => exact .fn hl (fun j u v hu hv => ih j u v hu hv (hx.mono fun h => by cases h with | fn h _ => exact h u (List.mem_of_getElem? hu))) hl' (fun j u v hu hv => ih' j u v hu hv (hx.mono fun h => by cases h with | fn _ h => exact h u (List.mem_of_getElem? hu)))
  | ifc _ ih => exact .ifc (ih (hx.mono fun h => by cases h with | ifc h => exact h))
  | nn _ ih => exact .nn (ih (hx.mono fun h => by cases h with | nn h => exact h))
  | mpc hb hs =>
    rcases hx with hx | hx
    · obtain ⟨es, z, he⟩ := hs.map
      exact .mpc hb (hs.keep ((hx _ _ _ he).trans he.symm))
    · cases hx
  | junk => exact .junk

theorem Holds.same {β : Book} {w w' : World} (hc : ∀ (b : Nat) (cs : Array Value) (el : TypeId) (z : Nat × Nat), w.heap[b]? = some (.cells cs el z) → w'.heap[b]? = some (.cells cs el z)) {o : Ob} {id : Nat} (hx : MapsOr w w' (∀ i j, i < o.n → j < o.es → NM (o.f i j))) (h : Holds β w o id) : Holds β w' o id := by
  rcases h with ⟨b, h1, cs, el, h2, h3, h4⟩ | h
  · exact .inl ⟨b, h1, cs, el, hc _ _ _ _ h2, h3, fun i j hi hj => let ⟨v, g1, g2, g3⟩ := h4 i j hi hj; ⟨v, g1, g2.same hc (hx.mono fun h => h i j hi hj), g3⟩⟩
  · exact .inr h

def NMS (s : ASt) : Prop := (∀ n, NM (s.fr n)) ∧ ∀ id o, s.H id = some o → ∀ i j, i < o.n → j < o.es → NM (o.f i j)
def NMG (gl : Globs) : Prop := ∀ g m h, gl g = some (m, h) → NM (.ipt m h)

theorem GlobAt.same {β : Book} {w w' : World} (hc : ∀ (b : Nat) (cs : Array Value) (el : TypeId) (z : Nat × Nat), w.heap[b]? = some (.cells cs el z) → w'.heap[b]? = some (.cells cs el z)) {g m : Nat} {f : Nat → AV} (hx : MapsOr w w' (NM (.ipt m f))) (h : GlobAt β w g m f) : GlobAt β w' g m f := by
  refine ⟨h.rel.same hc hx, ?_⟩
  obtain ⟨el, e⟩ := h.size
  refine ⟨el, ?_⟩
  unfold World.shape? at e ⊢
  split at e
  · rename_i cs el' z hb
    rw [hc _ _ _ _ hb]; exact e
  · cases e

theorem Sim.same {K : Ctx} {β : Book} {s : ASt} {a a' : Act} {w w' : World} (hs : Sim K β s a w) (hc : ∀ (b : Nat) (cs : Array Value) (el : TypeId) (z : Nat × Nat), w.heap[b]? = some (.cells cs el z) → w'.heap[b]? = some (.cells cs el z)) (hsz : w.heap.size ≤ w'.heap.size)
    (hx : MapsOr w w' (NMS s ∧ NMG K.gl)) (hk : Kept K.B K.G K.w0 w') (ht : a'.tmps = a.tmps) (hd : Marks K a'.defers w') : Sim K β s a' w' :=
  ⟨fun n => by rw [ht]; exact (hs.slot n).same hc (hx.mono fun h => h.1.1 n), by rw [ht]; exact hs.size, hd, fun id o ho => (hs.heap id o ho).same hc (hx.mono fun h => h.1.2 id o ho), hs.inj, hs.fresh, fun id b n mu h => ⟨(hs.live id b n mu h).1, Nat.lt_of_lt_of_le (hs.live id b n mu h).2 hsz⟩,
    hs.giv, hs.bF, hs.hF, hk, Nat.le_trans hs.hB hsz, fun g m h hgl => (hs.glob g m h hgl).same hc (hx.mono fun h' => h'.2 g m h hgl)⟩

theorem leaves_marks {F : Fence} {n : Nat} {K : Ctx} {β : Book} {s : ASt} {fn : Func} {R : Ending → World → Prop} : ∀ (Ds : List Nat) (a : Act) (w : World), Ds.Nodup → (∀ D, D ∈ Ds → K.B ≤ D ∧ K.w0.heap.size ≤ D ∧ w.heap[D]? = some (.deferred (some []))) →
    Sim K β s { a with defers := [] } w → (∀ w', Sim K β s { a with defers := [] } w' → LeavesInM F n K.P fn a.tmps R [] .returning w') →
    LeavesInM F n K.P fn a.tmps R (Ds.map fun D => { target := .collected D, args := #[] }) .returning w
  | [], a, w, _, _, hs, h => h w hs
  | D :: Ds, a, w, hn, hD, hs, h => by
    obtain ⟨h1, h2, h3⟩ := hD D (List.mem_cons_self ..)
    rw [List.nodup_cons] at hn
    refine ⟨by simp, .inl ⟨D, _, rfl, run_takeDeferred h3, leaves_marks Ds a _ hn.2 (fun D' hD' => ?_) (hs.same (fun b cs el z hb => ?_) (by simp) (.inl fun b es z hb => (World.putObj_heap_other (fun e => by subst e; rw [h3] at hb; cases hb)).trans hb) ?_ rfl (Marks.nil _ _)) h⟩⟩
    · obtain ⟨g1, g2, g3⟩ := hD D' (List.mem_cons_of_mem _ hD')
      exact ⟨g1, g2, (World.putObj_heap_other (fun e => hn.1 (by first | (rw [e]; exact hD') | (rw [← e]; exact hD')))).trans g3⟩
    · exact (World.putObj_heap_other (fun e => by subst e; rw [h3] at hb; cases hb)).trans hb
    · refine ⟨hs.kept.os, hs.kept.tape, hs.kept.output, Nat.le_trans hs.kept.size (by simp), fun k hk hg => ?_, fun k hk => ?_, fun k o hk ho => ?_⟩
      · exact (World.putObj_heap_other (by omega)).trans (hs.kept.block k hk hg)
      · rw [shape_of_block (World.putObj_heap_other (by omega) : (w.putObj D _).heap[k]? = w.heap[k]?)]; exact hs.kept.shape k hk
      · have := (Array.getElem?_eq_some_iff.1 hk).1
        exact (World.putObj_heap_other (by omega)).trans (hs.kept.othr k o hk ho)

theorem gives_by {P : Program} {gl : Globs} {own : FuncId → Option (List Bool)} {hand : Bool} {f : FuncId} {fn : Func} {code : Code} {obs : List Ob} {args : List AV} {r : AV} {obs' : List (Option Ob)} (hf : P.funcs[f]? = some fn) (hb : fn.body = some code) (hname : (fn.name == "runtime.NumGoroutine") = false)
    (hn : Nat.ble args.length fn.ntmps = true)
    (hrun : ∀ (K : Ctx) (β : Book) (a : Act) (w : World), K.P = P → K.gl = gl → K.nt = fn.ntmps → (∀ id, obs.length ≤ id → K.b0 id = none) → K.qt = false → K.B = K.w0.heap.size → Sim K β (entry args obs) a w → code.wp P (Final K ⟨P, gl, fn.ntmps, own, obs.length⟩ (Back P fn obs.length hand args r obs')) a w) : Gives P gl f obs args r obs' := by
  rw [Nat.ble_eq] at hn
  refine ⟨⟨fn, code, hf, hb, hname⟩, fun β w vs hF hgiv hgl hargs => ?_⟩
  refine callsIn_wide.1 (callsIn_of_wp_marks (n := 0) hf hb trivial (wpIn_wide.2 ?_) rfl)
  let K : Ctx := ⟨P, gl, w.heap.size, w, fn.ntmps, β.F, BlkOf β, β.m, false⟩
  have hl := hargs.len
  have hs : Sim K β (entry args obs) { tmps := vs ++ Array.replicate (fn.ntmps - vs.size) undef, defers := [] } w := by
    refine ⟨fun n => ?_, (by show (vs ++ Array.replicate (fn.ntmps - vs.size) undef).size = fn.ntmps; simp; omega), Marks.nil _ _, fun id o ho => hgiv.holds id o ho, hgiv.inj, fun id hid => hgiv.none id hid,
      fun id b n mu h => ⟨.inr ⟨id, n, mu, h⟩, (hgiv.lt id b n mu h).1⟩, fun id o ho => ⟨o, ho, o.later_refl⟩, rfl, fun b hb => ⟨hF b hb, fun ⟨k, n, mu, h⟩ => (hgiv.lt k b n mu h).2 hb⟩, Kept.refl _ _ _, Nat.le_refl _, hgl⟩
    show Rel _ _ (args.getD n .junk) _
    rw [Array.getD_eq_getD_getElem?, List.getD_eq_getElem?_getD]
    by_cases hlt : n < args.length
    · rw [Array.getElem?_append_left (by omega)]
      have h1 : args[n]? = some args[n] := by simp [hlt]
      obtain ⟨x, hx, hr⟩ := hargs.at h1
      rw [h1, hx]
      exact hr
    · rw [List.getElem?_eq_none (by omega)]
      exact .junk
  refine wp_mono (hrun K β _ _ rfl rfl rfl (fun id hid => hgiv.none id hid) rfl rfl hs) ?_
  have fin : ∀ (β1 : Book) (s : ASt) (a : Act) (w' : World), Sim K β1 s a w' → (∃ x os, endOf P fn obs.length hand args s = some (x, os) ∧ Ent os x r ∧ ObsEnt os os obs') →
      ∃ v, (results fn a.tmps).run P w' = .ok v w' ∧ ∃ v' β', Ending.returned v = Ending.returned v' ∧ Kept w.heap.size (BlkOf β) w w' ∧ After β β' w w' obs' ∧ Rel β' w' r v' := by
    rintro β1 s a w' hs' ⟨x, os, hx, hent, hobs⟩
    unfold endOf at hx
    split at hx
    rotate_left
    · cases hx
    rename_i v hv
    obtain ⟨hnd, hx⟩ := bif_some hx
    simp only [Option.some.injEq, Prod.mk.injEq] at hx
    obtain ⟨hx1, hx2⟩ := hx
    generalize hids : endIds obs.length hand args s.H v = ids at hnd hx1 hx2
    obtain ⟨u, hu, hr⟩ := res_ok hs' hv
    have hpre : ∀ k, k < obs.length → ids[k]? = some k := fun k hk => by
      rw [← hids]
      unfold endIds
      rw [List.getElem?_append_left (by simpa using hk), List.getElem?_range hk]
    have hlen : obs.length ≤ ids.length := by
      rw [← hids]
      unfold endIds
      simp
    have hnd' := nodupB_spec hnd
    let bm : Nat → Option Own := fun k => match ids[k]? with | some id => β1.m id | none => none
    let β' : Book := ⟨bm, β1.F⟩
    have bm_some : ∀ {k o}, bm k = some o → ∃ id, ids[k]? = some id ∧ β1.m id = some o := by
      intro k o h
      cases hk : ids[k]? with
      | none => simp only [bm, hk] at h; cases h
      | some id => simp only [bm, hk] at h; exact ⟨id, rfl, h⟩
    have bm_at : ∀ {k id}, ids[k]? = some id → bm k = β1.m id := fun {k id} h => by simp only [bm, h]
    have hHr : HeapOk β1 w' (restH ids s.H) := by
      intro id ob hid hne
      unfold restH at hid
      cases hmem : memN ids id with
      | true => simp [hmem] at hid
      | false => simp only [hmem, cond_false] at hid; exact hs'.ok id ob hid hne
    have h1 : ∀ id k, posIn ids 0 id = some k → β1.m id ≠ none → β'.m k = β1.m id := fun id k h _ => by
      obtain ⟨_, h2⟩ := posIn_some h
      exact bm_at (by simpa using h2)
    have h2 : ∀ b, β1.free b → β'.free b := fun b hf => ⟨hf.1, fun k n h => by
      obtain ⟨id, _, hm'⟩ := bm_some h
      exact hf.2 id n hm'⟩
    have h3 : ∀ id ob b n mu, restH ids s.H id = some ob → β1.m id = some (.lives b n mu) → β'.free b := by
      intro id ob b n mu ho hm'
      unfold restH at ho
      cases hmem : memN ids id with
      | true => simp [hmem] at ho
      | false =>
        refine ⟨fun hF' => ?_, fun k n' h => ?_⟩
        · have hF2 : β1.F b := hF'
          rw [hs'.bF] at hF2
          obtain ⟨g1, g2⟩ := hs'.hF b hF2
          rcases (hs'.live id b n mu hm').1 with h | h
          · omega
          · exact g2 h
        · obtain ⟨id', hk, hm2⟩ := bm_some h
          have := hs'.inj id' id b n' n _ mu hm2 hm'
          subst this
          rw [memN_iff.2 (List.mem_of_getElem? hk)] at hmem
          cases hmem
    obtain ⟨hl1, hobs'⟩ := hobs.spec
    have hHas : Has os β' := fun k o hk => by
      rw [← hx2, List.getElem?_map] at hk
      cases hik : ids[k]? with
      | none => simp [hik] at hk
      | some id =>
        simp only [hik, Option.map_some, Option.some.injEq, Option.map_eq_some_iff] at hk
        obtain ⟨o0, g3, _⟩ := hk
        show bm k ≠ none
        rw [bm_at hik]
        rcases hs'.heap id o0 g3 with ⟨b, g, _⟩ | ⟨g, _⟩ <;> (rw [g]; simp)
    refine ⟨u, hu, u, β', rfl, hs'.kept, ⟨?_, fun k ob hk => ?_, fun k hk => ?_, fun p q b n n' mu mu' e1 e2 => ?_, fun k b n mu h => ?_, fun k o ho => ?_⟩, hent _ _ _ hHas ?_⟩
    · exact hs'.bF
    · obtain ⟨o1, g1, g2⟩ := hobs' k ob hk
      rw [← hx2, List.getElem?_map] at g1
      cases hik : ids[k]? with
      | none => simp [hik] at g1
      | some id =>
        simp only [hik, Option.map_some, Option.some.injEq, Option.map_eq_some_iff] at g1
        obtain ⟨o0, g3, rfl⟩ := g1
        have hh := mapO_holds (β' := β') hHr h1 h2 h3 (bm_at hik) (hs'.heap id o0 g3)
        obtain ⟨e1, e2, e3, e4⟩ := g2
        rcases hh with ⟨b, k1, cs, el, k2, k3, k4⟩ | ⟨k1, k2⟩
        · refine .inl ⟨b, by rw [← e2, ← e3]; exact k1, cs, el, k2, by rw [← e1, ← e2]; exact k3, fun i j hi hj => ?_⟩
          rw [← e2] at hi
          rw [← e1] at hj ⊢
          obtain ⟨vv, j1, j2, j3⟩ := k4 i j hi hj
          exact ⟨vv, j1, e4 i j hi hj _ _ _ hHas j2, j3⟩
        · exact .inr ⟨k1, by rw [← e2]; exact k2⟩
    · have : ids[k]? = none := List.getElem?_eq_none (by rw [← hl1, ← hx2] at hk; simpa using hk)
      show bm k = none
      simp only [bm, this]
    · obtain ⟨x1, g1, g2⟩ := bm_some e1
      obtain ⟨y1, g3, g4⟩ := bm_some e2
      have := hs'.inj x1 y1 b n n' mu mu' g2 g4
      subst this
      exact hnd' p q x1 g1 g3
    · obtain ⟨id, g1, g2⟩ := bm_some h
      have := hs'.live id b n mu g2
      exact ⟨this.2, this.1⟩
    · have hk : k < obs.length := Nat.lt_of_not_le fun h => by rw [hgiv.none k h] at ho; cases ho
      obtain ⟨o', g1, g2⟩ := hs'.giv k o ho
      exact ⟨o', by show bm k = some o'; rw [bm_at (hpre k hk)]; exact g1, g2⟩
    · rw [← hx1]
      exact mapA_rel hHr h1 h2 h3 9 v u hr
  have out : ∀ (β1 : Book) (s : ASt) (a : Act) (w' : World), Sim K β1 s a w' → (∃ x os, endOf P fn obs.length hand args s = some (x, os) ∧ Ent os x r ∧ ObsEnt os os obs') →
      LeavesInM Fence.wide 0 P fn a.tmps (fun e w' => ∃ v β', e = .returned v ∧ Kept w.heap.size (BlkOf β) w w' ∧ After β β' w w' obs' ∧ Rel β' w' r v) a.defers .returning w' := by
    intro β1 s a w' hs' hk
    obtain ⟨Ds, h1, h2, _, h3⟩ := hs'.defers
    rw [h1]
    refine leaves_marks (K := K) (β := β1) (s := s) Ds a w' h2 h3 (hs'.same (fun _ _ _ _ h => h) (Nat.le_refl _) (.inl fun _ _ _ h => h) hs'.kept rfl (Marks.nil _ _)) (fun w2 hs2 => ?_)
    obtain ⟨v, hv, h⟩ := fin β1 s _ w2 hs2 hk
    exact ⟨v, hv, h⟩
  rintro e a w' ⟨β1, s, ae, he, hs', hk⟩
  cases e <;> simp only [exitOf, reduceCtorEq, Option.some.injEq] at he
  · subst he; exact out β1 s a w' hs' hk
  · subst he; exact hk.elim
  · subst he; exact out β1 s a w' hs' hk

theorem gives_of {P : Program} {gl : Globs} {own : FuncId → Option (List Bool)} {hand : Bool} {f : FuncId} {fn : Func} {code : Code} {obs : List Ob} {args : List AV} {r : AV} {obs' : List (Option Ob)} (hf : P.funcs[f]? = some fn) (hb : fn.body = some code) (hname : (fn.name == "runtime.NumGoroutine") = false)
    (hm : P.follows .mixedOrders = true) (hn : Nat.ble args.length fn.ntmps = true) (hwp : (run ⟨P, gl, fn.ntmps, own, obs.length⟩ code (Back P fn obs.length hand args r obs') (entry args obs)).wp P gl (Le obs.length)) : Gives P gl f obs args r obs' :=
  gives_by (own := own) hf hb hname hn fun _ _ _ _ hP hgl hnt hng hqt _ hs => hP ▸ run_sound (C := ⟨P, gl, fn.ntmps, own, obs.length⟩) hP.symm hgl.symm hnt.symm hng hqt (hP.symm ▸ hm) code _ _ _ _ _ hwp hs

end Go.Am

namespace Go.Am

section
variable {x y : Bool} {p q : Prop}
theorem cnd_id_t : x = true → x = true := id
theorem cnd_id_f : x = false → x = false := id
theorem cnd_and_t (f : x = true → p) (g : y = true → q) (h : (x && y) = true) : p ∧ q := by
  cases x <;> cases y <;> first | exact ⟨f rfl, g rfl⟩ | cases h
theorem cnd_and_f (f : x = false → p) (g : y = false → q) (h : (x && y) = false) : p ∨ q := by
  cases x with
  | false => exact .inl (f rfl)
  | true => exact .inr (g h)
theorem cnd_or_t (f : x = true → p) (g : y = true → q) (h : (x || y) = true) : p ∨ q := by
  cases x with
  | true => exact .inl (f rfl)
  | false => exact .inr (g h)
theorem cnd_or_f (f : x = false → p) (g : y = false → q) (h : (x || y) = false) : p ∧ q := by
  cases x <;> cases y <;> first | exact ⟨f rfl, g rfl⟩ | cases h
theorem cnd_not_t (f : x = false → p) (h : (!x) = true) : p := by
  cases x with
  | false => exact f rfl
  | true => cases h
theorem cnd_not_f (f : x = true → p) (h : (!x) = false) : p := by
  cases x with
  | true => exact f rfl
  | false => cases h
theorem cnd_eqt_t (f : x = true → p) (h : (x == true) = true) : p := by
  cases x with
  | true => exact f rfl
  | false => cases h
theorem cnd_eqf_t (f : x = false → p) (h : (x == false) = true) : p := by
  cases x with
  | false => exact f rfl
  | true => cases h
theorem cnd_dec_t {i : Decidable p} (h : @decide p i = true) : p := of_decide_eq_true h
theorem cnd_dec_f {i : Decidable p} (h : @decide p i = false) : ¬ p := of_decide_eq_false h
theorem cnd_beq_t {a b : Int} (h : (a == b) = true) : a = b := by simpa using h
theorem cnd_beq_f {a b : Int} (h : (a == b) = false) : ¬ a = b := by simpa using h
theorem cnd_bne_t {a b : Int} (h : (a != b) = true) : ¬ a = b := by simpa using h
theorem cnd_bne_f {a b : Int} (h : (a != b) = false) : a = b := by simpa using h
end

def EntL (os : List (Option Ob)) : List AV → List AV → Prop
  | [], [] => True
  | a :: l, b :: l' => Ent os a b ∧ EntL os l l'
  | _, _ => False

theorem EntL.spec {os : List (Option Ob)} : ∀ {l l' : List AV}, EntL os l l' → l.length = l'.length ∧ ∀ (k : Nat) a b, l[k]? = some a → l'[k]? = some b → Ent os a b
  | [], [], _ => ⟨rfl, fun k a b h => by simp at h⟩
  | x :: l, y :: l', h => by
    obtain ⟨h1, h2⟩ := EntL.spec h.2
    refine ⟨by simp [h1], fun k a b ha hb => ?_⟩
    cases k with
    | zero => simp at ha hb; subst ha; subst hb; exact h.1
    | succ k => simp at ha hb; exact h2 k a b ha hb
  | [], _ :: _, h => h.elim
  | _ :: _, [], h => h.elim

def lookZ : List Nat → List AV → Nat → AV
  | n :: ns, v :: vs, k => bif Nat.beq n k then v else lookZ ns vs k
  | _, _, _ => .junk

def mkSt (ns : List Nat) (vs : List AV) (obs : List (Option Ob)) : ASt := ⟨lookZ ns vs, fun id => obs.getD id none, obs.length⟩

def valsOf (s : ASt) (ns π : List Nat) : List AV := ns.map fun n => mapA (posIn π 0) 9 (restH π s.H) (s.fr n)
def osOf (s : ASt) (π : List Nat) : List (Option Ob) := π.map fun id => match s.H id with
  | some o => some (mapO (posIn π 0) (restH π s.H) o)
  | none => bif Nat.ble s.c id && !Nat.blt (id - s.c) 256 then some ⟨(id - s.c) / 256, 0, true, .lst []⟩ else none

def descOk (ng c : Nat) (π : List Nat) : Bool := nodupB π && (List.range ng).all fun k => match π[k]? with | some id => Nat.beq id k || (Nat.ble c id && Nat.blt (id - c) 256) | none => false

structure Desc (ng : Nat) (s : ASt) (ns π : List Nat) (vals : List AV) (os : List (Option Ob)) : Prop where
  ok : descOk ng s.c π = true
  vals : valsOf s ns π = vals
  os : osOf s π = os

theorem lookZ_cases (β : Book) (w : World) (s : ASt) (g : AV → AV) (val : Nat → Value) (os : List (Option Ob)) (hh : Has os β) : ∀ (ns : List Nat) (vs : List AV), (∀ (k n : Nat) v, ns[k]? = some n → vs[k]? = some v → Ent os (g (s.fr n)) v) → (∀ n, Rel β w (g (s.fr n)) (val n)) → ∀ n, Rel β w (lookZ ns vs n) (val n)
  | [], _, _, _, _ => .junk
  | _ :: _, [], _, _, _ => .junk
  | m :: ns, v :: vs, h, hr, n => by
    simp only [lookZ]
    cases hb : Nat.beq m n with
    | true =>
      have := Nat.eq_of_beq_eq_true hb
      subst this
      exact h 0 m v rfl rfl _ _ _ hh (hr m)
    | false => exact lookZ_cases β w s g val os hh ns vs (fun k n v hn hv => h (k + 1) n v (by simpa using hn) (by simpa using hv)) hr n

theorem Desc.le0 {ng : Nat} {s : ASt} {ns π : List Nat} {vals vs : List AV} {os obs : List (Option Ob)} (h : Desc ng s ns π vals os) (hv : EntL os vals vs) (ho : ObsEnt os os obs) : Le ng s (mkSt ns vs obs) := by
  intro K β a w hng hs
  obtain ⟨hok, hvals, hos⟩ := h
  unfold descOk at hok
  rw [Bool.and_eq_true] at hok
  obtain ⟨hnd, hpre⟩ := hok
  have hnd' := nodupB_spec hnd
  have hpre' : ∀ k, k < ng → π[k]? = some k ∨ ∃ id, π[k]? = some id ∧ (Nat.ble s.c id && Nat.blt (id - s.c) 256) = true := fun k hk => by
    have := List.all_eq_true.1 hpre k (List.mem_range.2 hk)
    cases hp : π[k]? with
    | none => simp [hp] at this
    | some id =>
      simp only [hp] at this
      rw [Bool.or_eq_true] at this
      rcases this with h | h
      · exact .inl (by rw [Nat.eq_of_beq_eq_true h])
      · exact .inr ⟨id, rfl, h⟩
  obtain ⟨hl1, hv'⟩ := hv.spec
  obtain ⟨hl2, ho'⟩ := ho.spec
  have hlo : os.length = π.length := by rw [← hos]; simp [osOf]
  let bm : Nat → Option Own := fun k => match π[k]? with | some id => bif Nat.ble s.c id then (bif Nat.blt (id - s.c) 256 then some .dead else some .empty) else β.m id | none => none
  let β' : Book := ⟨bm, β.F⟩
  have bm_lives : ∀ {k b n mu}, bm k = some (.lives b n mu) → ∃ id, π[k]? = some id ∧ β.m id = some (.lives b n mu) := by
    intro k b n mu h
    cases hk : π[k]? with
    | none => simp only [bm, hk] at h; cases h
    | some id =>
      simp only [bm, hk] at h
      cases hc : Nat.ble s.c id with
      | true => cases hg : Nat.blt (id - s.c) 256 <;> simp [hc, hg] at h
      | false => simp only [hc, cond_false] at h; exact ⟨id, rfl, h⟩
  have old : ∀ {id}, β.m id ≠ none → Nat.ble s.c id = false := fun {id} hn => by
    cases hc : Nat.ble s.c id with
    | false => rfl
    | true => rw [Nat.ble_eq] at hc; exact absurd (hs.fresh id hc) hn
  have bm_at : ∀ {k id}, π[k]? = some id → β.m id ≠ none → bm k = β.m id := fun {k id} h hn => by simp only [bm, h, old hn, cond_false]
  have hHr : HeapOk β w (restH π s.H) := by
    intro id ob hid hne
    unfold restH at hid
    cases hmem : memN π id with
    | true => simp [hmem] at hid
    | false => simp only [hmem, cond_false] at hid; exact hs.ok id ob hid hne
  have h1 : ∀ id k, posIn π 0 id = some k → β.m id ≠ none → β'.m k = β.m id := fun id k h hn => by
    obtain ⟨_, h2⟩ := posIn_some h
    exact bm_at (by simpa using h2) hn
  have h2 : ∀ b, β.free b → β'.free b := fun b hf => ⟨hf.1, fun k n h => by
    obtain ⟨id, _, hm'⟩ := bm_lives h
    exact hf.2 id n hm'⟩
  have h3 : ∀ id ob b n mu, restH π s.H id = some ob → β.m id = some (.lives b n mu) → β'.free b := by
    intro id ob b n mu ho hm'
    unfold restH at ho
    cases hmem : memN π id with
    | true => simp [hmem] at ho
    | false =>
      refine ⟨fun hF' => ?_, fun k n' h => ?_⟩
      · have hF2 : β.F b := hF'
        rw [hs.bF] at hF2
        obtain ⟨g1, g2⟩ := hs.hF b hF2
        rcases (hs.live id b n mu hm').1 with h | h
        · omega
        · exact g2 h
      · obtain ⟨id', hk, hm2⟩ := bm_lives h
        have := hs.inj id' id b n' n _ mu hm2 hm'
        subst this
        rw [memN_iff.2 (List.mem_of_getElem? hk)] at hmem
        cases hmem
  have hHld : ∀ (k : Nat) o, os[k]? = some (some o) → Holds β' w o k := fun k o hk => by
    rw [← hos, osOf, List.getElem?_map] at hk
    cases hik : π[k]? with
    | none => simp [hik] at hk
    | some id =>
      simp only [hik, Option.map_some, Option.some.injEq] at hk
      cases hH : s.H id with
      | some o0 =>
        simp only [hH, Option.some.injEq] at hk
        subst hk
        have hne : β.m id ≠ none := by rcases hs.heap id o0 hH with ⟨b, g, _⟩ | ⟨g, _⟩ <;> (rw [g]; simp)
        exact mapO_holds (β' := β') hHr h1 h2 h3 (bm_at hik hne) (hs.heap id o0 hH)
      | none =>
        simp only [hH] at hk
        cases hc : Nat.ble s.c id with
        | false => simp [hc] at hk
        | true =>
          cases hg : Nat.blt (id - s.c) 256 with
          | true => simp [hc, hg] at hk
          | false =>
            simp only [hc, hg, Bool.not_false, Bool.and_self, cond_true, Option.some.injEq] at hk
            subst hk
            exact .inr ⟨by show bm k = _; simp only [bm, hik, hc, hg, cond_true, cond_false], rfl⟩
  have hHas : Has os β' := fun k o hk => by
    rcases hHld k o hk with ⟨b, g, _⟩ | ⟨g, _⟩ <;> (rw [g]; simp)
  refine ⟨β', fun n => ?_, hs.size, hs.defers, fun id o hid => ?_, fun p q b n n' mu mu' e1 e2 => ?_, fun id hid => ?_, fun id b n mu h => ?_, fun id o hid => ?_, hs.bF, hs.hF, hs.kept, hs.hB, fun g m h hgl => (hs.glob g m h hgl).rebook h2 (by
    obtain ⟨_, _, _, _, _, _, _, _, hcl, _⟩ := rel_ipt_inv (hs.glob g m h hgl).rel
    exact .ipt hcl)⟩
  · refine lookZ_cases β' w s (mapA (posIn π 0) 9 (restH π s.H)) (fun n => a.tmps.getD n undef) os hHas ns vs (fun k m v hm hv1 => ?_) (fun m => mapA_rel hHr h1 h2 h3 9 _ _ (hs.slot m)) n
    have : vals[k]? = some (mapA (posIn π 0) 9 (restH π s.H) (s.fr m)) := by rw [← hvals, valsOf, List.getElem?_map, hm]; rfl
    exact hv' k _ v this hv1
  · have hid' : obs[id]? = some (some o) := by
      have : obs.getD id none = some o := hid
      rw [List.getD_eq_getElem?_getD] at this
      cases hx : obs[id]? with
      | none => simp [hx] at this
      | some x => simp [hx] at this; rw [this]
    obtain ⟨o1, g1, e1, e2, e3, e4⟩ := ho' id o hid'
    rcases hHld id o1 g1 with ⟨b, k1, cs, el, k2, k3, k4⟩ | ⟨k1, k2⟩
    · refine .inl ⟨b, by rw [← e2, ← e3]; exact k1, cs, el, k2, by rw [← e1, ← e2]; exact k3, fun i j hi hj => ?_⟩
      rw [← e2] at hi
      rw [← e1] at hj ⊢
      obtain ⟨vv, j1, j2, j3⟩ := k4 i j hi hj
      exact ⟨vv, j1, e4 i j hi hj _ _ _ hHas j2, j3⟩
    · exact .inr ⟨k1, by rw [← e2]; exact k2⟩
  · obtain ⟨x1, g1, g2⟩ := bm_lives e1
    obtain ⟨y1, g3, g4⟩ := bm_lives e2
    have := hs.inj x1 y1 b n n' mu mu' g2 g4
    subst this
    exact hnd' p q x1 g1 g3
  · have hlen : obs.length ≤ id := hid
    have : π[id]? = none := List.getElem?_eq_none (by omega)
    show bm id = none
    simp only [bm, this]
  · obtain ⟨id1, g1, g2⟩ := bm_lives h
    exact hs.live id1 b n mu g2
  · have hk : id < ng := Nat.lt_of_not_le fun h => by rw [hng id h] at hid; cases hid
    obtain ⟨o', g1, g2⟩ := hs.giv id o hid
    rcases hpre' id hk with hp | ⟨id', hp, hg⟩
    · exact ⟨o', by show bm id = some o'; rw [bm_at hp (by rw [g1]; simp)]; exact g1, g2⟩
    · rw [Bool.and_eq_true] at hg
      exact ⟨.dead, by show bm id = some .dead; simp only [bm, hp, hg.1, hg.2, cond_true], by cases o <;> trivial⟩

def ObsLow (os : List (Option Ob)) : List (Option Ob) → List (Option Ob) → Prop
  | [], [] => True
  | _ :: l, none :: l' => ObsLow os l l'
  | some ⟨es, n, mu, f⟩ :: l, some o' :: l' => ObEnt os ⟨es, n, mu && o'.mu, f⟩ o' ∧ ObsLow os l l'
  | _, _ => False

theorem ObsLow.spec {os : List (Option Ob)} : ∀ {l l' : List (Option Ob)}, ObsLow os l l' → ∃ l1, ObsEnt os l l1 ∧ l1.length = l'.length ∧
    ∀ id o', l'.getD id none = some o' → ∃ o1, l1.getD id none = some o1 ∧ o1.es = o'.es ∧ o1.n = o'.n ∧ o1.f = o'.f ∧ (o'.mu = true → o1.mu = true)
  | [], [], _ => ⟨[], trivial, rfl, fun id o' h => by simp at h⟩
  | x :: l, none :: l', h => by
    obtain ⟨l1, h1, h2, h3⟩ := ObsLow.spec (l := l) (l' := l') (by cases x <;> exact h)
    refine ⟨none :: l1, by cases x <;> exact h1, by simp [h2], fun id o' hk => ?_⟩
    cases id with
    | zero => simp at hk
    | succ k => simpa using h3 k o' (by simpa using hk)
  | some ⟨es, n, mu, f⟩ :: l, some o' :: l', h => by
    obtain ⟨l1, h1, h2, h3⟩ := ObsLow.spec h.2
    refine ⟨some ⟨o'.es, o'.n, mu, o'.f⟩ :: l1, ⟨⟨h.1.es, h.1.n, rfl, h.1.f⟩, h1⟩, by simp [h2], fun id o2 hk => ?_⟩
    cases id with
    | zero =>
      simp at hk
      subst hk
      refine ⟨_, rfl, rfl, rfl, rfl, fun hm => ?_⟩
      have := h.1.mu
      rw [hm] at this
      cases ho : mu with
      | true => rfl
      | false => rw [ho] at this; cases this
    | succ k => simpa using h3 k o2 (by simpa using hk)
  | [], some o :: l', h => h.elim
  | [], none :: l', h => h.elim
  | none :: l, some o :: l', h => h.elim
  | some o :: l, [], h => h.elim
  | none :: l, [], h => h.elim

theorem Sim.lower {K : Ctx} {β : Book} {a : Act} {w : World} {ns : List Nat} {vs : List AV} {obs1 obs : List (Option Ob)} (hl : obs1.length = obs.length)
    (h : ∀ id o, obs.getD id none = some o → ∃ o1, obs1.getD id none = some o1 ∧ o1.es = o.es ∧ o1.n = o.n ∧ o1.f = o.f ∧ (o.mu = true → o1.mu = true)) (hs : Sim K β (mkSt ns vs obs1) a w) : ∃ β', Sim K β' (mkSt ns vs obs) a w := by
  let ids := (List.range obs.length).filter fun k => match obs.getD k none with | some o => !o.mu | none => false
  have hk : Keeps β w (frzB ids β) w := frzB_keeps ids
  refine ⟨frzB ids β, fun n => (hs.slot n).keep hk, hs.size, hs.defers, fun id o ho => ?_, frzB_inj hs.inj, fun id hid => frzB_none (hs.fresh id (by have hid : obs.length ≤ id := hid; show obs1.length ≤ id; omega)), fun id b n mu hb => ?_, fun id o hid => ?_, hs.bF, hs.hF, hs.kept, hs.hB, fun g m f hgl => (hs.glob g m f hgl).keep hk⟩
  · have ho' : obs.getD id none = some o := ho
    obtain ⟨o1, h1, e1, e2, e3, e4⟩ := h id o ho'
    have hmem : memN ids id = !o.mu := by
      have hlt : id < obs.length := by
        rw [List.getD_eq_getElem?_getD] at ho'
        cases hx : obs[id]? with
        | none => simp [hx] at ho'
        | some x => exact (List.getElem?_eq_some_iff.1 hx).1
      rw [Bool.eq_iff_iff, memN_iff]
      show id ∈ List.filter _ _ ↔ _
      rw [List.mem_filter, List.mem_range, ho']
      simp [hlt]
    rcases hs.heap id o1 h1 with ⟨b, g1, cs, el, k2, k3, k4⟩ | ⟨g1, g2⟩
    · refine .inl ⟨b, ?_, cs, el, k2, by rw [← e1, ← e2]; exact k3, fun i j hi hj => ?_⟩
      · rw [frzB_lives g1, hmem, ← e2]
        congr 2
        cases hm : o.mu with
        | true => rw [e4 hm]; rfl
        | false => simp
      · rw [← e2] at hi
        rw [← e1] at hj ⊢
        obtain ⟨vv, j1, j2, j3⟩ := k4 i j hi hj
        exact ⟨vv, j1, by rw [← e3]; exact j2.keep hk, j3⟩
    · exact .inr ⟨by simp [frzB, g1], by rw [← e2]; exact g2⟩
  · obtain ⟨mu', g1, _⟩ := frzB_inv hb
    exact hs.live id b n mu' g1
  · obtain ⟨o', g1, g2⟩ := hs.giv id o hid
    obtain ⟨o2, g3, g4⟩ := hk.ids id o' g1
    exact ⟨o2, g3, Own.later_trans g2 g4⟩

theorem Desc.le {ng : Nat} {s : ASt} {ns π : List Nat} {vals vs : List AV} {os obs : List (Option Ob)} (h : Desc ng s ns π vals os) (hv : EntL os vals vs) (ho : ObsLow os os obs) : Le ng s (mkSt ns vs obs) := by
  obtain ⟨obs1, h1, h2, h3⟩ := ho.spec
  intro K β a w hng hs
  obtain ⟨β1, hs1⟩ := h.le0 hv h1 K β a w hng hs
  exact hs1.lower h2 h3

inductive Sk : Type 1 where
  | no
  | tt (t : Sk)
  | ff (t : Sk)
  | br (b : Bool) (t e : Sk)
  | req (p : Prop) (t : Sk)
  | sc (g : Bool) (f : FuncId) (args : List AV) (r : AV) (t : Sk)
  | dc (g : Bool) (f : FuncId) (args : List AV) (r : AV) (t : Sk)
  | gc (f : FuncId) (obs : List Ob) (args : List AV) (r : AV) (obs' : List (Option Ob)) (t : Sk)
  | loop (ι : Type) (S : ι → ASt) (m : ι → Nat) (i0 : ι) (ns π : List Nat) (vals : List AV) (os : List (Option Ob)) (t : ι → Sk)
  | again (p : ASt → Prop) (ns π : List Nat) (vals : List AV) (os : List (Option Ob))
  | out (x : AV) (os : List (Option Ob)) (r : AV) (obs : List (Option Ob))
  | opq (nt : Nat) (c : Code) (ns π : List Nat) (vals : List AV) (os : List (Option Ob)) (s' : ASt) (t : Sk)

structure LoopD : Type 1 where
  ι : Type
  ns : List Nat
  vs : ι → List AV
  obs : ι → List (Option Ob)
  m : ι → Nat
  i0 : ι

def Again (ng : Nat) {ι : Type} (S : ι → ASt) (m : ι → Nat) (i : ι) : ASt → Prop := fun s' => ∃ i', Le ng s' (S i') ∧ m i' < m i

def unroll (ng : Nat) : Tree → Sk → Sk
  | _, .no => .no
  | .br b t _, .tt k => match b with | true => .tt (unroll ng t k) | false => .no
  | .br b _ e, .ff k => match b with | true => .no | false => .ff (unroll ng e k)
  | .br b t e, .br _ k k' => .br b (unroll ng t k) (unroll ng e k')
  | .req p t, .req _ k => .req p (unroll ng t k)
  | .scall g f args kk, .sc _ _ _ r k => bif sc 9 r then .sc g f args r (unroll ng (kk r) k) else .no
  | .dcall g f args kk, .dc _ _ _ r k => .dc g f args r (unroll ng (kk r) k)
  | .gcall f n obs args kk, .gc _ _ _ r obs' k => bif Nat.ble n obs'.length && Nat.ble obs'.length (n + 8) then .gc f obs args r obs' (unroll ng (kk r obs') k) else .no
  | .loop _ s kk, .loop ι S m i0 ns π _ _ t => bif descOk ng s.c π then .loop ι S m i0 ns π (valsOf s ns π) (osOf s π) (fun i => unroll ng (kk (S i) (Again ng S m i)) (t i)) else .no
  | .again s p, .again _ ns π _ _ => bif descOk ng s.c π then .again p ns π (valsOf s ns π) (osOf s π) else .no
  | .opq n nt c s kk, .opq _ _ ns π _ _ s' t => bif Nat.beq n ng && descOk ng s.c π then .opq nt c ns π (valsOf s ns π) (osOf s π) s' (unroll ng (kk s') t) else .no
  | .out v r obs, .out .. => match v with | some (x, os) => .out x os r obs | none => .no
  | _, _ => .no

def Sk.ok (P : Program) (gl : Globs) (ng : Nat) : Sk → Prop
  | .no => False
  | .tt t => t.ok P gl ng
  | .ff t => t.ok P gl ng
  | .br b t e => (b = true → t.ok P gl ng) ∧ (b = false → e.ok P gl ng)
  | .req p t => p ∧ t.ok P gl ng
  | .sc g f args r t => (g = true → Pure P gl f args r) ∧ t.ok P gl ng
  | .dc g f args r t => (g = true → Pure P gl f args r) ∧ t.ok P gl ng
  | .gc f obs args r obs' t => Gives P gl f obs args r obs' ∧ t.ok P gl ng
  | .loop ι S _ i0 ns π vals os t => (∀ s, Desc ng s ns π vals os → Le ng s (S i0)) ∧ ∀ i : ι, (t i).ok P gl ng
  | .again p ns π vals os => ∀ s, Desc ng s ns π vals os → p s
  | .out x os r obs => Ent os x r ∧ ObsEnt os os obs
  | .opq nt c ns π vals os s' t => (∀ s, Desc ng s ns π vals os → Opq P gl ng nt c s s') ∧ t.ok P gl ng

theorem bif_no {c : Bool} {x y : Sk} (h : (bif c then x else .no) = y) (hy : y ≠ .no) : c = true ∧ x = y := by
  cases c with
  | true => exact ⟨rfl, h⟩
  | false => exact absurd h.symm hy

theorem unroll_ok {P : Program} {gl : Globs} {ng : Nat} (k : Sk) : ∀ T, unroll ng T k = k → k.ok P gl ng → T.wp P gl (Le ng) := by
  induction k with
  | no => intro T _ h; exact h.elim
  | tt t ih =>
    intro T hu h
    cases T <;> simp only [unroll, reduceCtorEq] at hu
    rename_i b t1 e1
    cases b <;> simp only [reduceCtorEq, Sk.tt.injEq] at hu
    exact ⟨fun _ => ih _ hu h, fun h => by cases h⟩
  | ff t ih =>
    intro T hu h
    cases T <;> simp only [unroll, reduceCtorEq] at hu
    rename_i b t1 e1
    cases b <;> simp only [reduceCtorEq, Sk.ff.injEq] at hu
    exact ⟨fun h => (by cases h), fun _ => ih _ hu h⟩
  | br b t e iht ihe =>
    intro T hu h
    cases T <;> simp only [unroll, reduceCtorEq, Sk.br.injEq] at hu
    obtain ⟨rfl, h1, h2⟩ := hu
    exact ⟨fun hb => iht _ h1 (h.1 hb), fun hb => ihe _ h2 (h.2 hb)⟩
  | req p t ih =>
    intro T hu h
    cases T <;> simp only [unroll, reduceCtorEq, Sk.req.injEq] at hu
    obtain ⟨rfl, h1⟩ := hu
    exact ⟨h.1, ih _ h1 h.2⟩
  | sc g f args r t ih =>
    intro T hu h
    cases T <;> simp only [unroll, reduceCtorEq] at hu
    obtain ⟨hs, hu⟩ := bif_no hu (by simp)
    simp only [Sk.sc.injEq, true_and] at hu
    obtain ⟨rfl, rfl, rfl, h1⟩ := hu
    exact ⟨r, h.1, hs, ih _ h1 h.2⟩
  | dc g f args r t ih =>
    intro T hu h
    cases T <;> simp only [unroll, reduceCtorEq, Sk.dc.injEq, true_and] at hu
    obtain ⟨rfl, rfl, rfl, h1⟩ := hu
    exact ⟨r, h.1, ih _ h1 h.2⟩
  | gc f obs args r obs' t ih =>
    intro T hu h
    cases T <;> simp only [unroll, reduceCtorEq] at hu
    obtain ⟨hs, hu⟩ := bif_no hu (by simp)
    simp only [Sk.gc.injEq, true_and] at hu
    obtain ⟨rfl, rfl, rfl, h1⟩ := hu
    exact ⟨r, obs', h.1, hs, ih _ h1 h.2⟩
  | loop ι S m i0 ns π vals os t ih =>
    intro T hu h
    cases T <;> simp only [unroll, reduceCtorEq] at hu
    obtain ⟨hs, hu⟩ := bif_no hu (by simp)
    simp only [Sk.loop.injEq, true_and, heq_eq_eq] at hu
    obtain ⟨rfl, rfl, h1⟩ := hu
    exact ⟨ι, S, m, i0, h.1 _ ⟨hs, rfl, rfl⟩, fun i => ih i _ (congrFun h1 i) (h.2 i)⟩
  | again p ns π vals os =>
    intro T hu h
    cases T <;> simp only [unroll, reduceCtorEq] at hu
    obtain ⟨hs, hu⟩ := bif_no hu (by simp)
    simp only [Sk.again.injEq, true_and] at hu
    obtain ⟨rfl, rfl, rfl⟩ := hu
    exact h _ ⟨hs, rfl, rfl⟩
  | opq nt c ns π vals os s' t ih =>
    intro T hu h
    cases T <;> simp only [unroll, reduceCtorEq] at hu
    obtain ⟨hs, hu⟩ := bif_no hu (by simp)
    rw [Bool.and_eq_true] at hs
    have hn := Nat.eq_of_beq_eq_true hs.1
    simp only [Sk.opq.injEq, true_and] at hu
    obtain ⟨rfl, rfl, rfl, rfl, h1⟩ := hu
    subst hn
    exact ⟨s', h.1 _ ⟨hs.2, rfl, rfl⟩, ih _ h1 h.2⟩
  | out x os r obs =>
    intro T hu h
    cases T <;> simp only [unroll, reduceCtorEq] at hu
    rename_i v r1 obs1
    cases v with
    | none => simp at hu
    | some xo =>
      obtain ⟨x1, os1⟩ := xo
      simp only [Sk.out.injEq] at hu
      obtain ⟨rfl, rfl, rfl, rfl⟩ := hu
      exact ⟨x1, os1, rfl, h.1, h.2⟩

def walk (P : Program) (gl : Globs) (own : FuncId → Option (List Bool)) (hand : Bool) (fn : Func) (obs : List Ob) (args : List AV) (r : AV) (obs' : List (Option Ob)) : Tree := match fn.body with
  | some code => run ⟨P, gl, fn.ntmps, own, obs.length⟩ code (Back P fn obs.length hand args r obs') (entry args obs)
  | none => .bad "no body"

section
variable {P : Program} {gl : Globs} {own : FuncId → Option (List Bool)}

theorem gives_sk {hand : Bool} {f : FuncId} {fn : Func} {obs : List Ob} {args : List AV} {r : AV} {obs' : List (Option Ob)} (hf : P.funcs[f]? = some fn) (hname : (fn.name == "runtime.NumGoroutine") = false) (hm : P.follows .mixedOrders = true)
    (hn : Nat.ble args.length fn.ntmps = true) (sk : Sk) (hu : unroll obs.length (walk P gl own hand fn obs args r obs') sk = sk) (h : sk.ok P gl obs.length) : Gives P gl f obs args r obs' := by
  have hwp := unroll_ok sk _ hu h
  unfold walk at hwp
  cases hb : fn.body with
  | none => rw [hb] at hwp; exact hwp.elim
  | some code => rw [hb] at hwp; exact gives_of hf hb hname hm hn hwp

theorem pure_sk {f : FuncId} {fn : Func} {args : List AV} {r : AV} (hf : P.funcs[f]? = some fn) (hname : (fn.name == "runtime.NumGoroutine") = false) (hm : P.follows .mixedOrders = true)
    (hn : Nat.ble args.length fn.ntmps = true) (sk : Sk) (hu : unroll 0 (walk P gl own false fn [] args r []) sk = sk) (h : sk.ok P gl 0) : Pure P gl f args r :=
  gives_sk hf hname hm hn sk hu h

variable {ng : Nat}

theorem k_tt {t : Sk} (h : t.ok P gl ng) : (Sk.tt t).ok P gl ng := h
theorem k_ff {t : Sk} (h : t.ok P gl ng) : (Sk.ff t).ok P gl ng := h
theorem k_br {b : Bool} {t e : Sk} (h1 : b = true → t.ok P gl ng) (h2 : b = false → e.ok P gl ng) : (Sk.br b t e).ok P gl ng := ⟨h1, h2⟩
theorem k_req {p : Prop} {t : Sk} (h1 : p) (h2 : t.ok P gl ng) : (Sk.req p t).ok P gl ng := ⟨h1, h2⟩
theorem k_sc {f : FuncId} {args : List AV} {r : AV} {t : Sk} (h1 : Pure P gl f args r) (h2 : t.ok P gl ng) : (Sk.sc true f args r t).ok P gl ng := ⟨fun _ => h1, h2⟩
theorem k_scg {g : Bool} {f : FuncId} {args : List AV} {r : AV} {t : Sk} (h1 : g = true → Pure P gl f args r) (h2 : t.ok P gl ng) : (Sk.sc g f args r t).ok P gl ng := ⟨h1, h2⟩
theorem k_dc {f : FuncId} {args : List AV} {r : AV} {t : Sk} (h1 : Pure P gl f args r) (h2 : t.ok P gl ng) : (Sk.dc true f args r t).ok P gl ng := ⟨fun _ => h1, h2⟩
theorem k_gc {f : FuncId} {obs : List Ob} {args : List AV} {r : AV} {obs' : List (Option Ob)} {t : Sk} (h1 : Gives P gl f obs args r obs') (h2 : t.ok P gl ng) : (Sk.gc f obs args r obs' t).ok P gl ng := ⟨h1, h2⟩
theorem k_loop {ι : Type} {S : ι → ASt} {m : ι → Nat} {i0 : ι} {ns π : List Nat} {vals : List AV} {os : List (Option Ob)} {t : ι → Sk} (h1 : ∀ s, Desc ng s ns π vals os → Le ng s (S i0)) (h2 : ∀ i, (t i).ok P gl ng) :
    (Sk.loop ι S m i0 ns π vals os t).ok P gl ng := ⟨h1, h2⟩
theorem k_again {ι : Type} {S : ι → ASt} {m : ι → Nat} {i : ι} {ns π : List Nat} {vals : List AV} {os : List (Option Ob)} (i' : ι) (h1 : ∀ s, Desc ng s ns π vals os → Le ng s (S i')) (h2 : m i' < m i) :
    (Sk.again (Again ng S m i) ns π vals os).ok P gl ng := fun s hs => ⟨i', h1 s hs, h2⟩
theorem k_opq {nt : Nat} {c : Code} {ns π : List Nat} {vals : List AV} {os : List (Option Ob)} {s1 s' : ASt} {t : Sk} (h0 : ∀ s, Desc ng s ns π vals os → Le ng s s1) (h1 : Opq P gl ng nt c s1 s') (h2 : t.ok P gl ng) :
    (Sk.opq nt c ns π vals os s' t).ok P gl ng := ⟨fun s hs K β a w hP hgl hnt hng hq hm h => let ⟨_, h'⟩ := h0 s hs K β a w hng h; h1 K _ a w hP hgl hnt hng hq hm h', h2⟩
theorem k_out {x r : AV} (h : Ent [] x r) : (Sk.out x [] r []).ok P gl ng := ⟨h, trivial⟩
theorem k_outg {x r : AV} {os obs : List (Option Ob)} (h : Ent os x r) (h2 : ObsEnt os os obs) : (Sk.out x os r obs).ok P gl ng := ⟨h, h2⟩

end
end Go.Am

namespace Go.Am
open Go.RowKit

theorem Ent.junk {os : List (Option Ob)} (a : AV) : Ent os a .junk := fun _ _ _ _ _ => .junk

theorem Ent.nn {os : List (Option Ob)} {a b : AV} (h : Ent os a b) : Ent os (.nn a) b := fun _ _ _ hh hr => by
  cases hr with | nn h' => exact h _ _ _ hh h'

theorem Ent.isl {os : List (Option Ob)} {es n : Nat} {f g : Nat → Nat → AV} (h : ∀ i j, i < n → j < es → f i j = g i j) : Ent os (.isl es n f) (.isl es n g) := fun _ _ _ _ hr => by
  cases hr with
  | isl vals he hcap hb hc ho hr hcl => exact .isl vals he hcap hb hc ho (fun i j hi hj => by rw [← h i j hi hj]; exact hr i j hi hj) (fun i j hi hj => by rw [← h i j hi hj]; exact hcl i j hi hj)
  | isl0 h' => exact .isl0 h'

theorem Ent.islN {os : List (Option Ob)} {es n n' : Nat} {f g : Nat → Nat → AV} (hn : n = n') (h : ∀ i j, i < n → j < es → f i j = g i j) : Ent os (.isl es n f) (.isl es n' g) := by subst hn; exact Ent.isl h

theorem ObEnt.refl {os : List (Option Ob)} (o : Ob) : ObEnt os o o := ⟨rfl, rfl, rfl, fun _ _ _ _ => Ent.refl _⟩
theorem ObsEnt.refl {os : List (Option Ob)} : ∀ l : List (Option Ob), ObsEnt os l l
  | [] => trivial
  | none :: l => ObsEnt.refl l
  | some o :: l => ⟨.refl o, ObsEnt.refl l⟩

theorem EntL.refl {os : List (Option Ob)} : ∀ l : List AV, EntL os l l
  | [] => trivial
  | a :: l => ⟨Ent.refl a, EntL.refl l⟩

theorem Ent.atL {os : List (Option Ob)} {l l' : List AV} (h : EntL os l l') (j : Nat) : Ent os (atL l j) (atL l' j) := by
  obtain ⟨h1, h2⟩ := h.spec
  unfold Am.atL
  rw [List.getD_eq_getElem?_getD, List.getD_eq_getElem?_getD]
  by_cases hj : j < l.length
  · have e1 : l[j]? = some l[j] := by simp [hj]
    have e2 : l'[j]? = some (l'[j]'(by omega)) := by rw [List.getElem?_eq_getElem]
    rw [e1, e2]
    exact h2 j _ _ e1 e2
  · rw [List.getElem?_eq_none (by omega), List.getElem?_eq_none (by omega)]
    exact Ent.refl _

theorem ObEnt.row {os : List (Option Ob)} {es : Nat} {mu : Bool} {l l' : List AV} (h : EntL os l l') : ObEnt os ⟨es, 1, mu, .lst [l]⟩ ⟨es, 1, mu, .lst [l']⟩ := ⟨rfl, rfl, rfl, fun i j hi _ => by
  have hi : i < 1 := hi
  obtain rfl : i = 0 := by omega
  exact Ent.atL h j⟩
theorem ObEnt.junk {os : List (Option Ob)} {es n : Nat} {mu : Bool} {f : Rep} : ObEnt os ⟨es, n, mu, f⟩ ⟨es, n, mu, .fn fun _ _ => .junk⟩ := ⟨rfl, rfl, rfl, fun _ _ _ _ => Ent.junk _⟩

theorem ObEnt.zero {os : List (Option Ob)} {es : Nat} {mu : Bool} {f g : Rep} : ObEnt os ⟨es, 0, mu, f⟩ ⟨es, 0, mu, g⟩ := ⟨rfl, rfl, rfl, fun i _ hi _ => by have hi : i < 0 := hi; omega⟩

theorem atL_map_range {es j : Nat} {g : Nat → AV} (hj : j < es) : Am.atL ((List.range es).map g) j = g j := by
  unfold Am.atL
  rw [List.getD_eq_getElem?_getD, List.getElem?_map, List.getElem?_range hj]
  rfl

theorem ObEnt.len {os : List (Option Ob)} {es n n' : Nat} {mu : Bool} {f : Rep} (h : n = n') : ObEnt os ⟨es, n, mu, f⟩ ⟨es, n', mu, f⟩ := by subst h; exact .refl _

theorem ObEnt.push {os : List (Option Ob)} {es x x' : Nat} {mu : Bool} {k : IntKind} {f : Nat → Nat → Int} {l : List AV} (h : l = (List.range es).map (fun j => .int k (f x j))) (hx : x' = x + 1) :
    ObEnt os ⟨es, x + 1, mu, .fn fun i j => .int k (bif Nat.blt i x then f i j else intOfAV (Am.atL l j))⟩ ⟨es, x', mu, .fn fun i j => .int k (f i j)⟩ := by
  subst hx
  refine ⟨rfl, rfl, rfl, fun i j hi hj => Ent.of_eq ?_⟩
  have hi : i < x + 1 := hi
  have hj : j < es := hj
  show AV.int k _ = AV.int k _
  cases hb : Nat.blt i x with
  | true => rfl
  | false =>
    have : i = x := by
      have : ¬ i < x := fun hlt => by rw [← Nat.blt_eq, hb] at hlt; cases hlt
      omega
    subst this
    rw [h, atL_map_range hj]
    rfl

theorem ObEnt.cat {os : List (Option Ob)} {es n m n' : Nat} {mu : Bool} {f g h : Rep} (hn : n' = n + m) (h1 : ∀ i j, i < n → j < es → Ent os (f i j) (h i j)) (h2 : ∀ i j, i < m → j < es → Ent os (g i j) (h (n + i) j)) :
    ObEnt os ⟨es, n + m, mu, .cat n f g⟩ ⟨es, n', mu, h⟩ := by
  subst hn
  refine ⟨rfl, rfl, rfl, fun i j hi hj => ?_⟩
  have hi : i < n + m := hi
  show Ent os (mixA (Nat.blt i n) (f.at i j) (g.at (i - n) j)) (h i j)
  cases hb : Nat.blt i n with
  | true => rw [mixA_tt]; exact h1 i j (by simpa [Nat.blt_eq] using hb) hj
  | false =>
    rw [mixA_ff]
    have hge : n ≤ i := Nat.le_of_not_lt fun hlt => by rw [← Nat.blt_eq, hb] at hlt; cases hlt
    have := h2 (i - n) j (by omega) hj
    rwa [show n + (i - n) = i by omega] at this

theorem ObEnt.put {os : List (Option Ob)} {es n k : Nat} {mu : Bool} {x : List AV} {f h : Rep} (h1 : ∀ j, k < n → j < es → Ent os (Am.atL x j) (h k j)) (h2 : ∀ i j, i < n → i ≠ k → j < es → Ent os (f i j) (h i j)) :
    ObEnt os ⟨es, n, mu, .put k x f⟩ ⟨es, n, mu, h⟩ := by
  refine ⟨rfl, rfl, rfl, fun i j hi hj => ?_⟩
  have hi : i < n := hi
  show Ent os (mixA (Nat.beq i k) (Am.atL x j) (f.at i j)) (h i j)
  cases hb : Nat.beq i k with
  | true =>
    rw [mixA_tt]
    have := Nat.eq_of_beq_eq_true hb
    subst this
    exact h1 j hi hj
  | false =>
    rw [mixA_ff]
    exact h2 i j hi (fun e => by subst e; rw [Nat.beq_refl] at hb; cases hb) hj

theorem ObEnt.catRow {os : List (Option Ob)} {es n n' : Nat} {mu : Bool} {c c' : Nat → List AV} {x : List AV} (hn : n' = n + 1) (hc : ∀ i, i < n → EntL os (c i) (c' i)) (hx : EntL os x (c' n)) :
    ObEnt os ⟨es, n + 1, mu, .cat n (.row c) (.lst [x])⟩ ⟨es, n', mu, .row c'⟩ :=
  ObEnt.cat hn (fun i j hi _ => Ent.atL (hc i hi) j) (fun i j hi _ => by
    obtain rfl : i = 0 := by omega
    exact Ent.atL hx j)
theorem ObEnt.pushRow {os : List (Option Ob)} {es n n' : Nat} {mu : Bool} {c : Nat → List AV} (hn : n' = n + 1) : ObEnt os ⟨es, n + 1, mu, .cat n (.row c) (.lst [c n])⟩ ⟨es, n', mu, .row c⟩ :=
  ObEnt.catRow hn (fun _ _ => EntL.refl _) (EntL.refl _)

theorem Ent.nsl {os : List (Option Ob)} {es : Nat} {f : Nat → Nat → AV} : Ent os .nsl (.isl es 0 f) := fun _ _ _ _ hr => by
  cases hr; exact .isl0 (fun _ => rfl)

theorem Ent.agg {os : List (Option Ob)} {l l' : List AV} (h : EntL os l l') : Ent os (.agg l) (.agg l') := fun _ _ _ hh hr => by
  obtain ⟨h1, h2⟩ := h.spec
  obtain ⟨vs, rfl, hl, hr⟩ := rel_agg_inv hr
  refine .agg (by rw [← h1]; exact hl) fun j u x hu hx => ?_
  have hj : j < l.length := by rw [h1]; exact (List.getElem?_eq_some_iff.1 hu).1
  exact h2 j l[j] u (by simp [hj]) hu _ _ _ hh (hr j _ _ (by simp [hj]) hx)

theorem Ent.tup {os : List (Option Ob)} {l l' : List AV} (h : EntL os l l') : Ent os (.tup l) (.tup l') := fun _ _ _ hh hr => by
  obtain ⟨h1, h2⟩ := h.spec
  obtain ⟨vs, rfl, hl, hr⟩ := rel_tup_inv hr
  refine .tup (by rw [← h1]; exact hl) fun j u x hu hx => ?_
  have hj : j < l.length := by rw [h1]; exact (List.getElem?_eq_some_iff.1 hu).1
  exact h2 j l[j] u (by simp [hj]) hu _ _ _ hh (hr j _ _ (by simp [hj]) hx)

section
variable {P : Program} {gl : Globs} {f : FuncId}

theorem Gives.nil {obs : List Ob} {args : List AV} {obs' : List (Option Ob)} (h : Gives P gl f obs args .nsl obs') (es : Nat) (g : Rep) :
    Gives P gl f obs args (.osl obs'.length es 0 0) (obs' ++ [some ⟨es, 0, true, g⟩]) := by
  refine ⟨h.1, fun β w vs hF hgiv hgl hargs => (h.2 β w vs hF hgiv hgl hargs).mono fun e w' hh => ?_⟩
  obtain ⟨v, β', he, hk, hA, hr⟩ := hh
  have hn := hA.none obs'.length (Nat.le_refl _)
  let β2 : Book := setB β' [(obs'.length, .empty)]
  have at0 : β2.m obs'.length = some .empty := setB_at (by rw [look_one, if_pos rfl])
  have old : ∀ k, k ≠ obs'.length → β2.m k = β'.m k := fun k hk => setB_old (by rw [look_one, if_neg (fun e => hk e.symm)])
  have lv : ∀ k b n mu, β2.m k = some (.lives b n mu) → β'.m k = some (.lives b n mu) := fun k b n mu hb => by
    by_cases e : k = obs'.length
    · subst e; rw [at0] at hb; cases hb
    · rw [old k e] at hb; exact hb
  have kk : Keeps β' w' β2 w' := ⟨fun id o ho => ⟨o, by
      rw [old id (fun e => by subst e; rw [hn] at ho; cases ho)]; exact ho, o.later_refl⟩, fun _ _ _ => rfl, fun b _ hf => ⟨hf.1, fun id n h => hf.2 id n (lv _ _ _ _ h)⟩, fun _ _ _ h => h⟩
  cases hr
  refine ⟨_, β2, he, hk, ⟨hA.F, fun k ob hkk => ?_, fun k hkk => ?_, fun i j b n n' mu mu' h1 h2 => hA.inj i j b n n' mu mu' (lv _ _ _ _ h1) (lv _ _ _ _ h2), fun k b n mu hb => hA.live k b n mu (lv _ _ _ _ hb), fun k o ho => ?_⟩, .osl0 (by rw [at0]; simp)⟩
  · by_cases e : k = obs'.length
    · subst e
      simp at hkk
      subst hkk
      exact .inr ⟨at0, rfl⟩
    · have hkk' : obs'[k]? = some (some ob) := by
        rcases Nat.lt_or_ge k obs'.length with h' | h'
        · rw [List.getElem?_append_left h'] at hkk; exact hkk
        · rw [List.getElem?_eq_none (by simp; omega)] at hkk; cases hkk
      rcases hA.holds k ob hkk' with ⟨b, g1, g2⟩ | ⟨g1, g2⟩
      · exact .inl ⟨b, by rw [old k e]; exact g1, g2.keep kk rfl⟩
      · exact .inr ⟨by rw [old k e]; exact g1, g2⟩
  · simp at hkk
    rw [old k (by omega)]
    exact hA.none k (by omega)
  · obtain ⟨o', g1, g2⟩ := hA.later k o ho
    exact ⟨o', by rw [old k (fun e => by subst e; rw [hn] at g1; cases g1)]; exact g1, g2⟩

theorem Gives.ent {obs : List Ob} {args : List AV} {r r' : AV} {obs' obs2 : List (Option Ob)} (h : Gives P gl f obs args r obs') (hr : Ent obs' r r') (ho : ObsEnt obs' obs' obs2) : Gives P gl f obs args r' obs2 := by
  refine ⟨h.1, fun β w vs hF hgiv hgl hargs => (h.2 β w vs hF hgiv hgl hargs).mono fun e w' hh => ?_⟩
  obtain ⟨v, β', he, hk, hA, hv⟩ := hh
  obtain ⟨hl, hs⟩ := ho.spec
  have hHas : Has obs' β' := fun k o hk => by rcases hA.holds k o hk with ⟨b, g, _⟩ | ⟨g, _⟩ <;> (rw [g]; simp)
  refine ⟨v, β', he, hk, ⟨hA.F, fun k ob hkk => ?_, fun k hkk => hA.none k (by omega), hA.inj, hA.live, hA.later⟩, hr _ _ _ hHas hv⟩
  obtain ⟨o1, g1, e1, e2, e3, e4⟩ := hs k ob hkk
  rcases hA.holds k o1 g1 with ⟨b, k1, cs, el, k2, k3, k4⟩ | ⟨k1, k2⟩
  · refine .inl ⟨b, by rw [← e2, ← e3]; exact k1, cs, el, k2, by rw [← e1, ← e2]; exact k3, fun i j hi hj => ?_⟩
    rw [← e2] at hi
    rw [← e1] at hj ⊢
    obtain ⟨vv, j1, j2, j3⟩ := k4 i j hi hj
    exact ⟨vv, j1, e4 i j hi hj _ _ _ hHas j2, j3⟩
  · exact .inr ⟨k1, by rw [← e2]; exact k2⟩

theorem Gives.via {obs : List Ob} {args args' : List AV} {r : AV} {obs' : List (Option Ob)} (h : Gives P gl f obs args' r obs') (he : EntL (obs.map some) args args') : Gives P gl f obs args r obs' := by
  refine ⟨h.1, fun β w vs hF hgiv hgl hargs => h.2 β w vs hF hgiv hgl ?_⟩
  obtain ⟨h1, h2⟩ := he.spec
  have hHas : Has (obs.map some) β := fun k o hk => by
    rw [List.getElem?_map] at hk
    cases ho : obs[k]? with
    | none => simp [ho] at hk
    | some ob => rcases hgiv.holds k ob ho with ⟨b, g, _⟩ | ⟨g, _⟩ <;> (rw [g]; simp)
  refine ⟨by rw [← h1]; exact hargs.len, fun j u x hu hx => ?_⟩
  have hj : j < args.length := by rw [h1]; exact (List.getElem?_eq_some_iff.1 hu).1
  exact h2 j args[j] u (by simp [hj]) hu _ _ _ hHas (hargs.rel j _ _ (by simp [hj]) hx)

theorem Pure.via {args args' : List AV} {r : AV} (h : Pure P gl f args' r) (he : EntL [] args args') : Pure P gl f args r := Gives.via h he

theorem Ent.rows {os : List (Option Ob)} {es n : Nat} {f g : Nat → Nat → AV} (h : ∀ i, i < n → (List.range es).map (f i) = (List.range es).map (g i)) : Ent os (.isl es n f) (.isl es n g) :=
  Ent.isl fun i j hi hj => by
    have := congrArg (fun l => l[j]?) (h i hi)
    simpa [hj] using this

theorem Pure.ent {args : List AV} {r r' : AV} (h : Pure P gl f args r) (hr : Ent [] r r') : Pure P gl f args r' := Gives.ent h hr trivial

end
end Go.Am

namespace Go.Am
open Go.RowKit Go.ChangeShapes Go.WideShapes Go.ChangeAt

inductive CT where
  | int (k : IntKind)
  | bool
  | str
  | sl (cs : List CT)

inductive CellOk : CT → AV → Prop where
  | int {k : IntKind} {n : Int} (h : (Lit.int k n).wf = true) : CellOk (.int k) (.int k n)
  | bool {b : Bool} : CellOk .bool (.bool b)
  | str {s : ByteArray} (h : s.size ≤ maxLen) : CellOk .str (.str s)
  | sl {cs : List CT} {n : Nat} {f : Nat → Nat → AV} (hn : n ≤ maxLen) (h : ∀ (i j : Nat) c, i < n → cs[j]? = some c → CellOk c (f i j)) : CellOk (.sl cs) (.isl cs.length n f)

def shapeFs (P : Program) (sh : TypeId → Option (List CT)) : Nat → List Field → Option (List CT)
  | _, [] => some []
  | off, f :: fs => match sh f.type with
    | some l => bif Nat.beq f.offset off && Nat.beq l.length (P.cellsOf f.type) then (match shapeFs P sh (off + l.length) fs with | some r => some (l ++ r) | none => none) else none
    | none => none

def shape (P : Program) : Nat → TypeId → Option (List CT)
  | 0, _ => none
  | n + 1, t => match P.underlying t with
    | some .bool => some [.bool]
    | some (.int k) => some [.int k]
    | some .string => some [.str]
    | some (.slice e) => match shape P n e with
      | some l => bif Nat.beq l.length (P.cellsOf e) && Nat.blt 0 l.length then some [.sl l] else none
      | none => none
    | some (.struct fs) => match shapeFs P (shape P n) 0 fs.toList with
      | some l => bif Nat.beq l.length (P.cellsOf t) then some l else none
      | none => none
    | some (.array m e) => match shape P n e with
      | some l => bif Nat.beq l.length (P.cellsOf e) && Nat.beq (m * l.length) (P.cellsOf t) then some (List.replicate m l).flatten else none
      | none => none
    | _ => none

abbrev noB : Book := Book.none fun _ => False
theorem noB_free (b : Nat) : noB.free b := ⟨fun h => h, fun _ _ h => by cases h⟩

structure Fits (w : World) (ts : List CT) (cs : List Value) : Prop where
  len : cs.length = ts.length
  cell : ∀ (j : Nat) c, ts[j]? = some c → ∃ v a, cs[j]? = some v ∧ CellOk c a ∧ Rel noB w a v ∧ v.oneCell' = true

theorem Fits.nil {w : World} : Fits w [] [] := ⟨rfl, fun j c h => by simp at h⟩
theorem Fits.one {w : World} {c : CT} {v : Value} {a : AV} (h : CellOk c a) (hr : Rel noB w a v) (ho : v.oneCell' = true) : Fits w [c] [v] := by
  refine ⟨rfl, fun j c' hj => ?_⟩
  cases j with
  | zero => simp at hj; subst hj; exact ⟨v, a, rfl, h, hr, ho⟩
  | succ j => simp at hj
theorem Fits.append {w : World} {ts ts' : List CT} {cs cs' : List Value} (h : Fits w ts cs) (h' : Fits w ts' cs') : Fits w (ts ++ ts') (cs ++ cs') := by
  refine ⟨by simp [h.len, h'.len], fun j c hj => ?_⟩
  by_cases hl : j < ts.length
  · rw [List.getElem?_append_left hl] at hj
    rw [List.getElem?_append_left (by rw [h.len]; exact hl)]
    exact h.cell j c hj
  · rw [List.getElem?_append_right (by omega)] at hj
    rw [List.getElem?_append_right (by rw [h.len]; omega), h.len]
    exact h'.cell _ c hj

theorem mapM_each {α β : Type} {f : α → Option β} {l : List α} {r : List β} (h : l.mapM f = some r) {x : α} (hx : x ∈ l) : ∃ y, f x = some y := by
  obtain ⟨i, hi, rfl⟩ := List.getElem_of_mem hx
  have h1 := mapM_some_length h
  have h2 := mapM_some_get h i _ (List.getElem?_eq_getElem hi)
  rw [h2, List.getElem?_eq_getElem (by omega)]
  exact ⟨_, rfl⟩

theorem drop_take_split {cs : List Value} {off a b : Nat} : (cs.drop off).take (a + b) = (cs.drop off).take a ++ (cs.drop (off + a)).take b := by
  rw [List.take_add, List.drop_drop]

section
variable {H : Type} {enc : TypeId × Value → H} {P : Program} {w : World} {sp : Nat → Bool}

theorem fits_fields {sh : TypeId → Option (List CT)} {cs : List Value} : ∀ (fs : List Field) (off : Nat) (ts : List CT), shapeFs P sh off fs = some ts → (∀ f ∈ fs, ∀ l, sh f.type = some l → Fits w l ((cs.drop f.offset).take (P.cellsOf f.type))) →
    Fits w ts ((cs.drop off).take ts.length) := by
  intro fs
  induction fs with
  | nil => intro off ts h _; simp [shapeFs] at h; subst h; simpa using Fits.nil
  | cons f fs ih =>
    intro off ts h hf
    simp only [shapeFs] at h
    cases hl : sh f.type with
    | none => simp [hl] at h
    | some l =>
      simp only [hl] at h
      obtain ⟨hc, h2⟩ := bif_some h
      rw [Bool.and_eq_true] at hc
      have e1 := Nat.eq_of_beq_eq_true hc.1
      have e2 := Nat.eq_of_beq_eq_true hc.2
      cases hr : shapeFs P sh (off + l.length) fs with
      | none => simp [hr] at h2
      | some r =>
        simp only [hr, Option.some.injEq] at h2
        subst h2
        have g1 := hf f (List.mem_cons_self ..) l hl
        have g2 := ih (off + l.length) r hr (fun f' hf' => hf f' (List.mem_cons_of_mem _ hf'))
        rw [e1, ← e2] at g1
        rw [List.length_append, drop_take_split]
        exact g1.append g2

theorem fits_elems {cs : List Value} {l : List CT} : ∀ n : Nat, (∀ i, i < n → Fits w l ((cs.drop (i * l.length)).take l.length)) → Fits w (List.replicate n l).flatten (cs.take (n * l.length)) := by
  intro n
  induction n with
  | zero => intro _; simpa using Fits.nil
  | succ n ih =>
    intro h
    have g1 := ih (fun i hi => h i (by omega))
    have g2 := h n (by omega)
    have e : cs.take ((n + 1) * l.length) = cs.take (n * l.length) ++ (cs.drop (n * l.length)).take l.length := by
      rw [Nat.add_mul, Nat.one_mul, List.take_add]
    have e2 : (List.replicate (n + 1) l).flatten = (List.replicate n l).flatten ++ l := by
      rw [List.replicate_succ', List.flatten_append]; simp
    rw [e, e2]
    exact g1.append g2

theorem open_fits : ∀ (m : Nat) (t : TypeId) (fuel : Nat) (cs : List Value) (x : DataW H × List MemPlace) (ts : List CT), DataW.trod enc P w 0 sp true fuel t cs = some x → shape P m t = some ts → Fits w ts cs := by
  intro m
  induction m with
  | zero => intro t fuel cs x ts _ h; simp [shape] at h
  | succ m ih =>
    intro t fuel cs x ts htr hsh
    simp only [shape] at hsh
    cases fuel with
    | zero => simp [DataW.trod] at htr
    | succ fuel =>
      split at hsh
      · rename_i hu
        simp only [Option.some.injEq] at hsh; subst hsh
        simp only [DataW.trod, hu] at htr
        split at htr <;> simp_all
        exact .one .bool .bool rfl
      · rename_i k hu
        simp only [Option.some.injEq] at hsh; subst hsh
        simp only [DataW.trod, hu] at htr
        split at htr <;> simp_all
        obtain ⟨⟨rfl, hw⟩, _⟩ := htr
        exact .one (.int hw) .int rfl
      · rename_i hu
        simp only [Option.some.injEq] at hsh; subst hsh
        simp only [DataW.trod, hu] at htr
        split at htr <;> simp_all
        exact .one (.str htr.1) .str rfl
      · rename_i e hu
        split at hsh
        · rename_i l hl
          obtain ⟨hc, h2⟩ := bif_some hsh
          clear hsh
          rw [Bool.and_eq_true, Nat.blt_eq] at hc
          have e1 := Nat.eq_of_beq_eq_true hc.1
          cases h2
          rcases Go.Deep.open_slice hu htr with ⟨rfl, _⟩ | ⟨a, len, cap, m', n, D, Pl, rfl, hb, hlc, hm, hmm, _, hx⟩
          · exact .one (a := .isl l.length 0 fun _ _ => .junk) (.sl (Nat.zero_le _) (fun i j c hi => absurd hi (by omega))) (.isl0 fun _ => rfl) rfl
          · have hlm : len ≤ m' := by rw [hmm]; split <;> omega
            have hrow : ∀ i, i < len → ∃ cs', w.cells? 0 (a.add (i * l.length)) l.length = some cs' ∧ Fits w l cs' := fun i hi => by
              obtain ⟨cs', h1, h2⟩ := hx i (by omega)
              rw [← e1] at h1
              exact ⟨cs', h1, ih e n cs' _ l h2 hl⟩
            obtain ⟨C, hC⟩ := Go.Deep.choose_lt hrow
            have hcell : ∀ i j c, i < len → l[j]? = some c → ∃ p : Value × AV, w.cell? (a.add (i * l.length + j)) = some p.1 ∧ CellOk c p.2 ∧ Rel noB w p.2 p.1 ∧ p.1.oneCell' = true := fun i j c hi hj => by
              obtain ⟨h1, h2⟩ := hC i hi
              obtain ⟨v, av, g1, g2, g3, g4⟩ := h2.cell j c hj
              obtain ⟨_, k1, k2⟩ := World.cells?_some h1
              refine ⟨(v, av), ?_, g2, g3, g4⟩
              have hjl : j < l.length := (List.getElem?_eq_some_iff.1 hj).1
              have := k2 j hjl
              rw [Go.Deep.add_add, g1] at this
              exact this
            have hex : ∀ i, i < len → ∃ g : Nat → Value × AV, ∀ j, j < l.length → ∃ c, l[j]? = some c ∧ w.cell? (a.add (i * l.length + j)) = some (g j).1 ∧ CellOk c (g j).2 ∧ Rel noB w (g j).2 (g j).1 ∧ (g j).1.oneCell' = true := fun i hi => by
              have : Inhabited (Value × AV) := ⟨(.bool true, .junk)⟩
              exact Go.Deep.choose_lt (p := fun j (g : Value × AV) => ∃ c, l[j]? = some c ∧ w.cell? (a.add (i * l.length + j)) = some g.1 ∧ CellOk c g.2 ∧ Rel noB w g.2 g.1 ∧ g.1.oneCell' = true) (fun j hj => by
                obtain ⟨p, h1, h2, h3, h4⟩ := hcell i j l[j] hi (by simp [hj])
                exact ⟨p, l[j], by simp [hj], h1, h2, h3, h4⟩)
            have : Inhabited (Nat → Value × AV) := ⟨fun _ => (.bool true, .junk)⟩
            obtain ⟨G, hG⟩ := Go.Deep.choose_lt hex
            refine .one (a := .isl l.length len fun i j => (G i j).2) (.sl (by omega) (fun i j c hi hj => ?_)) ?_ rfl
            · have hjl : j < l.length := (List.getElem?_eq_some_iff.1 hj).1
              obtain ⟨c', g1, _, g3, _⟩ := hG i hi j hjl
              rw [hj] at g1; cases g1
              exact g3
            · rcases Nat.eq_zero_or_pos len with rfl | hpos
              · exact .isl0 (fun h => by cases h)
              · obtain ⟨b, off, spot⟩ := a
                have hspot : spot = none := by
                  obtain ⟨c', _, g2, _⟩ := hG 0 hpos 0 hc.2
                  have := World.cell?_spot g2
                  simpa [Addr.add] using this
                subst hspot
                refine .isl (fun i j => (G i j).1) hc.2 hlc (noB_free b) (fun i j hi hj => ?_) (fun i j hi hj => ?_) (fun i j hi hj => ?_) (fun i j hi hj => ?_)
                · obtain ⟨c', _, g2, _⟩ := hG i hi j hj
                  rw [← g2]
                  congr 1
                  unfold Addr.add
                  split
                  · rename_i h0
                    have : i * l.length = 0 := by omega
                    have : j = 0 := by omega
                    simp [*]
                  · simp; omega
                · obtain ⟨c', _, _, _, _, g5⟩ := hG i hi j hj; exact g5
                · obtain ⟨c', _, _, _, g4, _⟩ := hG i hi j hj; exact g4
                · obtain ⟨c', _, _, _, g4, _⟩ := hG i hi j hj; exact g4.closed
        · cases hsh
      · rename_i fs hu
        split at hsh
        · rename_i l hl
          obtain ⟨hc, h2⟩ := bif_some hsh
          clear hsh
          have h3 : l = ts := Option.some.inj h2
          subst h3
          have e1 := Nat.eq_of_beq_eq_true hc
          simp only [DataW.trod, hu] at htr
          split at htr
          · rename_i hlen
            obtain ⟨xs, hxs, _⟩ := Option.map_eq_some_iff.1 htr
            have := fits_fields (w := w) (P := P) (cs := cs) fs.toList 0 l hl (fun f hf lf hlf => by
              obtain ⟨y, hy⟩ := mapM_each hxs hf
              exact ih f.type fuel _ y lf hy hlf)
            rw [e1, ← hlen] at this
            simpa using this
          · cases htr
        · cases hsh
      · rename_i n e hu
        split at hsh
        · rename_i l hl
          obtain ⟨hc, h2⟩ := bif_some hsh
          clear hsh
          cases h2
          rw [Bool.and_eq_true] at hc
          have e1 := Nat.eq_of_beq_eq_true hc.1
          have e2 := Nat.eq_of_beq_eq_true hc.2
          simp only [DataW.trod, hu] at htr
          split at htr
          · rename_i hlen
            obtain ⟨xs, hxs, _⟩ := Option.map_eq_some_iff.1 htr
            have := fits_elems (w := w) (cs := cs) (l := l) n (fun i hi => by
              obtain ⟨y, hy⟩ := mapM_each hxs (List.mem_range.2 hi)
              rw [← e1] at hy
              exact ih e fuel _ y l hy hl)
            rw [e2, ← hlen] at this
            simpa using this
          · cases htr
        · cases hsh
      · cases hsh

end

section
variable {H : Type} {enc : TypeId × Value → H} {P : Program}

theorem trodAll_stays {W W' : World} {sp' : Nat → Bool} (hl : laidOutB P = true) : ∀ {ts : List TypeId} {vs : List Value} {ds : List (DataW H)} {ps : List MemPlace},
    (∀ t, t ∈ ts → P.readableRec t = true ∧ t < P.types.size) → DataW.TrodAll enc P W 0 (fun _ => true) true ts vs ds ps → (∀ p ∈ ps, W.sameAt W' p) → (∀ p ∈ ps, sp' p.block = true) →
    DataW.TrodAll enc P W' 0 sp' true ts vs ds ps
  | [], [], [], _, _, h, _, _ => h
  | t :: ts, v :: vs, d :: ds, ps, hr, h, hs, hp => by
    obtain ⟨p, q, h1, h2, rfl⟩ := h
    refine ⟨p, q, WideElems.Trod_stays hl (hr t (by simp)).1 (hr t (by simp)).2 h1 (fun x hx => hs x (by simp [hx])) (fun x hx => hp x (by simp [hx])), ?_, rfl⟩
    exact trodAll_stays hl (fun t ht => hr t (by simp [ht])) h2 (fun x hx => hs x (by simp [hx])) (fun x hx => hp x (by simp [hx]))
  | [], _ :: _, _, _, _, h, _, _ => h.elim
  | [], [], _ :: _, _, _, h, _, _ => h.elim
  | _ :: _, [], _, _, _, h, _, _ => h.elim
  | _ :: _, _ :: _, [], _, _, h, _, _ => h.elim

theorem keptBut_of_below {W W' : World} (hb : Below W.heap.size W W') (may : MemPlace → Prop) : W.keptBut W' may := by
  refine ⟨hb.os, hb.output, fun i hi => ?_⟩
  rw [hb.block i hi]
  split
  · rename_i h1 h2
    rw [h1] at h2
    cases h2
    exact ⟨rfl, rfl, rfl, fun _ _ => rfl⟩
  · rename_i h1 h2
    rw [h1] at h2
    cases h2
    exact Or.inr ⟨rfl, rfl⟩
  · rfl

def readB (P : Program) (ts : List TypeId) : Bool := ts.all fun t => P.readableRec t && Nat.blt t P.types.size

theorem readB_ok {ts : List TypeId} (h : readB P ts = true) : ∀ t, t ∈ ts → P.readableRec t = true ∧ t < P.types.size := by
  intro t ht
  have := List.all_eq_true.1 h t ht
  rw [Bool.and_eq_true] at this
  exact ⟨this.1, by have := this.2; simpa [Nat.blt_eq] using this⟩

theorem post_law {f : Func} {s : ChangeSpec} {apart fresh handsOn again : Bool} {W W' : World} {args : Array Value} {ds gs : List (DataW H)} {before : List MemPlace} {tb : TypeId}
    (hl : laidOutB P = true) (hvars : s.vars = []) (hrt : f.resultTypes = #[tb]) (htb : P.underlying tb = some .bool) (hrd : readB P f.params.toList = true)
    (hW : DataW.Whole enc P f.params.toList s.vars apart W args.toList ds gs before) (hb : Below W.heap.size W W')
    (hs : s.fn H ds = { results := [.lit (.bool true)], args := ds }) :
    s.post enc P f apart fresh handsOn again W args (.bool true) W' := by
  have hW0 := hW
  obtain ⟨p, q, hA, hV, rfl, hz, hn⟩ := hW
  rw [hvars] at hV
  obtain ⟨rfl, rfl⟩ := trodVars_none hV
  have hlt : ∀ x ∈ p, x.block < W.heap.size := fun x hx => hA.lt x hx
  have hst : ∀ sp : Nat → Bool, (∀ x ∈ p, sp x.block = true) → DataW.TrodAll enc P W' 0 sp true f.params.toList args.toList ds p :=
    fun sp hsp => trodAll_stays hl (readB_ok hrd) hA (fun x hx => hb.same (hlt x hx)) hsp
  have hres : ∀ (b : Nat) (sp : Nat → Bool) (hd : Bool), DataW.TrodAll enc P W' b sp hd f.resultTypes.toList ((Value.bool true).resultList f.resultTypes.size) [.lit (.bool true)] [] := by
    intro b sp hd
    rw [hrt]
    exact ⟨[], [], shut_bool htb true, rfl, rfl⟩
  refine ⟨ds, [], p ++ [], [], p, [], hW0, ?_, ?_, ?_, keptBut_of_below hb _, fun _ => ?_⟩
  · rw [List.append_nil, hs]; exact hres _ _ _
  · rw [List.append_nil, hs]; exact hst _ (fun x hx => by simpa using hlt x hx)
  · rw [List.append_nil, hs, hvars]; rfl
  · refine ⟨ok_one hrt rfl (okWide_bool_mk htb true), _, [], ([] ++ p) ++ [], ⟨[] ++ p, [], trodAll_append (hst _ (fun _ _ => rfl)) (hres _ _ _), by rw [hvars]; rfl, rfl, ?_, ?_⟩, ?_⟩
    · intro b off hp
      simp only [List.nil_append, List.append_nil] at hp
      have := hlt _ hp
      rw [hb.frozen this]
      exact hz b off (by simpa using hp)
    · intro ha
      simpa using hn ha
    · intro x hx _
      simpa using hx

end

theorem Pure.calls {P : Program} {gl : Globs} {f : FuncId} {args : List AV} (h : Pure P gl f args (.bool true)) {W : World} {vs : Array Value} (hg : GlobB gl noB W)
    (hr : Rels noB W args vs) {Q : Ending → World → Prop} (hQ : ∀ W', Below W.heap.size W W' → Q (.returned (.bool true)) W') : Calls P f vs W Q := by
  refine (h.use (fun _ hf => hf.elim) hg hr).mono ?_
  rintro e W' ⟨v, rfl, hb, hv⟩
  cases hv
  exact hQ W' hb

theorem Rels.nil {w : World} : Rels noB w [] #[] := ⟨rfl, fun j u x h => by simp at h⟩
theorem Rels.cons {w : World} {a : AV} {v : Value} {avs : List AV} {vs : List Value} (h : Rel noB w a v) (hr : Rels noB w avs vs.toArray) : Rels noB w (a :: avs) (v :: vs).toArray := by
  refine ⟨by have := hr.len; simpa using this, fun j u x hu hx => ?_⟩
  cases j with
  | zero => simp at hu hx; subst hu; subst hx; exact h
  | succ j => exact hr.rel j u x (by simpa using hu) (by simpa using hx)


theorem Fits.pick {w : World} {ts : List CT} {cs : List Value} (h : Fits w ts cs) : ∃ g : Nat → AV, ∀ (j : Nat) c, ts[j]? = some c → CellOk c (g j) ∧ ∃ v, cs[j]? = some v ∧ Rel noB w (g j) v := by
  have : Inhabited AV := ⟨.junk⟩
  obtain ⟨g, hg⟩ := Go.Deep.choose_lt (n := ts.length) (p := fun j a => ∀ c, ts[j]? = some c → CellOk c a ∧ ∃ v, cs[j]? = some v ∧ Rel noB w a v) (fun j hj => by
    obtain ⟨v, a, h1, h2, h3, _⟩ := h.cell j ts[j] (by simp [hj])
    refine ⟨a, fun c hc => ?_⟩
    have : c = ts[j] := by simpa [hj] using hc.symm
    subst this
    exact ⟨h2, v, h1, h3⟩)
  exact ⟨g, fun j c hc => hg j (List.getElem?_eq_some_iff.1 hc).1 c hc⟩

theorem Fits.agg {w : World} {ts : List CT} {cs : List Value} (h : Fits w ts cs) {g : Nat → AV} (hg : ∀ (j : Nat) c, ts[j]? = some c → CellOk c (g j) ∧ ∃ v, cs[j]? = some v ∧ Rel noB w (g j) v) {l : List AV}
    (he : EntL [] ((List.range ts.length).map g) l) : Rel noB w (.agg l) (.agg cs.toArray) := by
  obtain ⟨h1, h2⟩ := he.spec
  simp at h1
  refine .agg (by rw [← h1]; simp [h.len]) fun j u v hu hv => ?_
  have hj : j < l.length := (List.getElem?_eq_some_iff.1 hu).1
  have hjt : j < ts.length := by omega
  obtain ⟨_, v', hv', hr⟩ := hg j ts[j] (by simp [hjt])
  have : v' = v := by
    have hv : cs[j]? = some v := by simpa using hv
    rw [hv'] at hv; exact Option.some.inj hv
  subst this
  exact h2 j (g j) u (by simp [hjt]) hu _ _ _ (fun k o hk => by simp at hk) hr

def islN : AV → Nat
  | .isl _ n _ => n
  | _ => 0
def islF : AV → Nat → Nat → AV
  | .isl _ _ f => f
  | _ => fun _ _ => .junk

theorem open_agg {H : Type} {enc : TypeId × Value → H} {P : Program} {W : World} {r : Reach} {b0 : Nat} {t : TypeId} {v : Value} {d : DataW H} {ps : List MemPlace} {sp : Nat → Bool} {ts : List CT} (ht : isAggT P t = some true)
    (hsh : shape P 9 t = some ts) (hv : Value.okWide P W r b0 t v) (h : DataW.Trod enc P W 0 sp true t v d ps) : ∃ cs : List Value, v = .agg cs.toArray ∧ Fits W ts cs := by
  obtain ⟨fuel, hf⟩ := h
  have : ∃ cs : Array Value, v = .agg cs := by
    unfold isAggT at ht
    split at ht
    · rename_i fs hu
      obtain ⟨cs, e, _⟩ := okWide_struct hu hv
      exact ⟨cs, e⟩
    · rename_i n e hu
      unfold Value.okWide at hv
      rw [hu] at hv
      obtain ⟨cs, e, _⟩ := hv
      exact ⟨cs, e⟩
    · simp at ht
    · simp at ht
  obtain ⟨cs, rfl⟩ := this
  exact ⟨cs.toList, by simp, open_fits 9 t fuel _ _ ts hf hsh⟩

end Go.Am

namespace Go.Am
open Go.RowKit

def boolOfAV : AV → Bool
  | .bool b => b
  | _ => false
def strOfAV : AV → ByteArray
  | .str s => s
  | _ => .empty

def homCT : List CT → Option IntKind
  | [.int k] => some k
  | .int k :: cs => match homCT cs with
    | some k' => bif decide (k = k') then some k else none
    | none => none
  | _ => none

theorem homCT_at : ∀ {cs : List CT} {k : IntKind}, homCT cs = some k → ∀ c, c ∈ cs → c = .int k
  | [], _, h => by simp [homCT] at h
  | [c0], k, h => by
    intro c hc
    cases c0 <;> simp [homCT] at h
    subst h
    simpa using hc
  | c0 :: c1 :: cs, k, h => by
    cases c0 <;> simp only [homCT, reduceCtorEq] at h
    rename_i k0
    cases hr : homCT (c1 :: cs) with
    | none => rw [hr] at h; simp at h
    | some k' =>
      rw [hr] at h
      simp only at h
      obtain ⟨h1, h2⟩ := bif_some h
      cases h2
      have h1 := of_decide_eq_true h1
      subst h1
      intro c hc
      rcases List.mem_cons.1 hc with rfl | hc
      · rfl
      · exact homCT_at hr c hc

mutual
def canon : CT → AV → AV
  | .int k, a => .int k (intOfAV a)
  | .bool, a => .bool (boolOfAV a)
  | .str, a => .str (strOfAV a)
  | .sl cs, a => .isl cs.length (islN a) (match homCT cs with
    | some k => fun i j => .int k (intOfAV (islF a i (bif Nat.beq cs.length 1 then 0 else j)))
    | none => fun i j => atL (canonRow cs (fun q => islF a i q) 0) j)
def canonRow : List CT → (Nat → AV) → Nat → List AV
  | [], _, _ => []
  | c :: cs, g, n => canon c (g n) :: canonRow cs g (n + 1)
end

theorem canonRow_get : ∀ (cs : List CT) (g : Nat → AV) (n j : Nat) (c : CT), cs[j]? = some c → (canonRow cs g n)[j]? = some (canon c (g (n + j)))
  | [], _, _, _, _, h => by simp at h
  | c :: cs, g, n, 0, c', h => by simp at h; subst h; simp [canonRow]
  | c :: cs, g, n, j + 1, c', h => by
    simp at h
    simp only [canonRow, List.getElem?_cons_succ]
    rw [canonRow_get cs g (n + 1) j c' h, show n + 1 + j = n + (j + 1) by omega]
theorem canonRow_length : ∀ (cs : List CT) (g : Nat → AV) (n : Nat), (canonRow cs g n).length = cs.length
  | [], _, _ => rfl
  | c :: cs, g, n => by simp [canonRow, canonRow_length cs g (n + 1)]

theorem Ent.islE {os : List (Option Ob)} {es n : Nat} {f g : Nat → Nat → AV} (h : ∀ i j, i < n → j < es → Ent os (f i j) (g i j) ∧ Cl (g i j)) : Ent os (.isl es n f) (.isl es n g) := fun β w v hh hr => by
  cases hr with
  | isl vals he hcap hb hc ho hr hcl => exact .isl vals he hcap hb hc ho (fun i j hi hj => (h i j hi hj).1 β w _ hh (hr i j hi hj)) (fun i j hi hj => (h i j hi hj).2)
  | isl0 h' => exact .isl0 h'

theorem canon_ent {os : List (Option Ob)} {c : CT} {a : AV} (h : CellOk c a) : Ent os a (canon c a) ∧ Cl (canon c a) := by
  induction h with
  | int h => exact ⟨Ent.of_eq (by simp [canon, intOfAV]), by unfold canon; exact .int⟩
  | bool => exact ⟨Ent.of_eq (by simp [canon, boolOfAV]), by unfold canon; exact .bool⟩
  | str h => exact ⟨Ent.of_eq (by simp [canon, strOfAV]), by unfold canon; exact .str⟩
  | @sl cs n f hn h ih =>
    have key : ∀ i j, i < n → j < cs.length → ∃ c, cs[j]? = some c ∧ atL (canonRow cs (fun q => f i q) 0) j = canon c (f i j) := fun i j hi hj => by
      refine ⟨cs[j], by simp [hj], ?_⟩
      unfold atL
      rw [List.getD_eq_getElem?_getD, canonRow_get cs _ 0 j cs[j] (by simp [hj])]
      simp
    unfold canon
    cases hh : homCT cs with
    | none =>
      refine ⟨Ent.islE fun i j hi hj => ?_, .isl fun i j hi hj => ?_⟩
      · obtain ⟨c, h1, h2⟩ := key i j hi hj
        show Ent os (f i j) (atL (canonRow cs (fun q => f i q) 0) j) ∧ Cl (atL (canonRow cs (fun q => f i q) 0) j)
        rw [h2]
        exact ih i j c hi h1
      · obtain ⟨c, h1, h2⟩ := key i j hi hj
        show Cl (atL (canonRow cs (fun q => f i q) 0) j)
        rw [h2]
        exact (ih i j c hi h1).2
    | some k =>
      refine ⟨Ent.islE fun i j hi hj => ⟨Ent.of_eq ?_, .int⟩, .isl fun i j hi hj => .int⟩
      show f i j = .int k (intOfAV (f i (bif Nat.beq cs.length 1 then 0 else j)))
      have hj' : (bif Nat.beq cs.length 1 then 0 else j) = j := by
        cases hb : Nat.beq cs.length 1 with
        | true =>
          have := Nat.eq_of_beq_eq_true hb
          show 0 = j
          omega
        | false => rfl
      rw [hj']
      have hc : cs[j]? = some cs[j] := by simp [hj]
      have := h i j _ hi hc
      rw [homCT_at hh cs[j] (List.getElem_mem hj)] at this
      generalize f i j = q at this
      cases this
      rfl

theorem Fits.canon {w : World} {ts : List CT} {cs : List Value} (h : Fits w ts cs) : ∃ g : Nat → AV, (∀ (j : Nat) c, ts[j]? = some c → CellOk c (g j)) ∧ Rel noB w (.agg (canonRow ts g 0)) (.agg cs.toArray) := by
  obtain ⟨g, hg⟩ := h.pick
  refine ⟨g, fun j c hc => (hg j c hc).1, ?_⟩
  refine .agg (by simp [canonRow_length, h.len]) fun j u v hu hv => ?_
  have hj : j < ts.length := by rw [← canonRow_length ts g 0]; exact (List.getElem?_eq_some_iff.1 hu).1
  have hc : ts[j]? = some ts[j] := by simp [hj]
  rw [canonRow_get ts g 0 j _ hc] at hu
  obtain ⟨h1, v', h2, h3⟩ := hg j _ hc
  have hv : cs[j]? = some v := by simpa using hv
  rw [h2] at hv; cases hv
  cases hu
  rw [Nat.zero_add]
  exact (canon_ent (os := []) h1).1 _ _ _ (fun k o hk => by simp at hk) h3

theorem CellOk.sl_inv {cs : List CT} {a : AV} (h : CellOk (.sl cs) a) : islN a ≤ maxLen ∧ ∀ i j c, i < islN a → cs[j]? = some c → CellOk c (islF a i j) := by
  cases h with
  | sl hn h => exact ⟨hn, h⟩
theorem rel_agg_parts {β : Book} {w : World} {l : List AV} {vs : Array Value} (h : Rel β w (.agg l) (.agg vs)) : l.length = vs.size ∧ ∀ (j : Nat) u v, l[j]? = some u → vs[j]? = some v → Rel β w u v := by
  cases h with | agg hl hr => exact ⟨hl, hr⟩

section
open Go.ChangeShapes Go.WideShapes Go.ChangeAt
variable {H : Type} {enc : TypeId × Value → H} {P : Program} {W : World} {sp : Nat → Bool}

theorem open_any {r : Reach} {b0 : Nat} {t : TypeId} {v : Value} {d : DataW H} {ps : List MemPlace} {ts : List CT} {ag : Bool} (ht : isAggT P t = some ag)
    (hsh : shape P 9 t = some ts) (hv : Value.okWide P W r b0 t v) (h : DataW.Trod enc P W 0 sp true t v d ps) : ∃ cs : List Value, Fits W ts cs ∧ (ag = true → v = .agg cs.toArray) ∧ (ag = false → cs = [v]) := by
  cases ag with
  | true =>
    obtain ⟨cs, e, hf⟩ := open_agg ht hsh hv h
    exact ⟨cs, hf, fun _ => e, fun h => by cases h⟩
  | false =>
    obtain ⟨fuel, hf⟩ := h
    have hc : v.cells.toList = [v] := by
      simp only [shape] at hsh
      split at hsh
      · rename_i hu; obtain ⟨b, rfl⟩ := okWide_bool hu hv; rfl
      · rename_i k hu; obtain ⟨n, rfl⟩ := okWide_int hu hv; rfl
      · rename_i hu; obtain ⟨n, rfl⟩ := okWide_string hu hv; rfl
      · rename_i e hu; obtain ⟨a, l, c, rfl⟩ := okWide_slice hu hv; rfl
      · rename_i fs hu; simp [isAggT, hu] at ht
      · rename_i n e hu; simp [isAggT, hu] at ht
      · cases hsh
    rw [hc] at hf
    exact ⟨[v], open_fits 9 t fuel _ _ ts hf hsh, fun h => by (cases h), fun _ => rfl⟩

def shapesOf (P : Program) : List TypeId → Option (List (Bool × List CT))
  | [] => some []
  | t :: ts => match isAggT P t, shape P 9 t, shapesOf P ts with
    | some b, some l, some r => some ((b, l) :: r)
    | _, _, _ => none

def argsOf : List (Bool × List CT) → (Nat → Nat → AV) → Nat → List AV
  | [], _, _ => []
  | (true, ts) :: S, G, n => .agg (canonRow ts (G n) 0) :: argsOf S G (n + 1)
  | (false, ts) :: S, G, n => atL (canonRow ts (G n) 0) 0 :: argsOf S G (n + 1)

theorem open_all {r : Reach} {b0 : Nat} : ∀ {ts : List TypeId} {vs : List Value} {ds : List (DataW H)} {ps : List MemPlace} {S : List (Bool × List CT)} (n : Nat), shapesOf P ts = some S → DataW.TrodAll enc P W 0 sp true ts vs ds ps →
    (∀ (j : Nat) t v, ts[j]? = some t → vs[j]? = some v → Value.okWide P W r b0 t v) →
    ∃ G : Nat → Nat → AV, (∀ (k : Nat) s, S[k]? = some s → ∀ (j : Nat) c, s.2[j]? = some c → CellOk c (G (n + k) j)) ∧ Rels noB W (argsOf S G n) vs.toArray ∧ ∃ f : Nat → DataW H, ds = (List.range S.length).map f
  | [], [], [], _, S, n, hS, hA, _ => by
    simp [shapesOf] at hS; subst hS
    exact ⟨fun _ _ => .junk, fun k s h => by simp at h, Rels.nil, fun _ => .nil, rfl⟩
  | t :: ts, v :: vs, d :: ds, ps, S, n, hS, hA, hok => by
    obtain ⟨p, q, h1, h2, rfl⟩ := hA
    simp only [shapesOf] at hS
    split at hS
    rotate_left
    · cases hS
    rename_i b l r' e1 e2 e3
    cases hS
    obtain ⟨cs, hf, g1, g2⟩ := open_any e1 e2 (hok 0 t v rfl rfl) h1
    obtain ⟨g, hg, hr⟩ := hf.canon
    obtain ⟨G, hG, hR, f, hds⟩ := open_all (n + 1) e3 h2 (fun j t v ht hv => hok (j + 1) t v (by simpa using ht) (by simpa using hv))
    have hne : ∀ k, Nat.beq (n + 1 + k) n = false := fun k => by
      cases hb : Nat.beq (n + 1 + k) n with
      | false => rfl
      | true => have := Nat.eq_of_beq_eq_true hb; omega
    let G' : Nat → Nat → AV := fun m => bif Nat.beq m n then g else G m
    have hG' : ∀ k, G' (n + 1 + k) = G (n + 1 + k) := fun k => by show (bif _ then _ else _) = _; rw [hne]; rfl
    have hGn : G' n = g := by show (bif Nat.beq n n then _ else _) = _; rw [Nat.beq_refl]; rfl
    have hargs : ∀ (S' : List (Bool × List CT)) (k : Nat), argsOf S' G' (n + 1 + k) = argsOf S' G (n + 1 + k) := by
      intro S'
      induction S' with
      | nil => intro k; rfl
      | cons x S' ih =>
        intro k
        obtain ⟨xb, xl⟩ := x
        cases xb <;> simp only [argsOf, hG'] <;> rw [show n + 1 + k + 1 = n + 1 + (k + 1) by omega, ih]
    refine ⟨G', fun k s hs j c hc => ?_, ?_, fun m => bif Nat.beq m 0 then d else f (m - 1), ?_⟩
    · cases k with
      | zero => simp at hs; subst hs; rw [Nat.add_zero, hGn]; exact hg j c hc
      | succ k =>
        have := hG k s (by simpa using hs) j c hc
        rw [show n + (k + 1) = n + 1 + k by omega, hG']; exact this
    · have h0 := hargs r' 0
      rw [Nat.add_zero] at h0
      cases b with
      | true =>
        have := g1 rfl; subst this
        simp only [argsOf, hGn, h0]
        exact Rels.cons hr hR
      | false =>
        have := g2 rfl; subst this
        simp only [argsOf, hGn, h0]
        refine Rels.cons ?_ hR
        obtain ⟨hl, hrr⟩ := rel_agg_parts hr
        have hlen : l.length = 1 := by rw [← hf.len]; rfl
        have e0 : l[0]? = some l[0] := by simp
        refine hrr 0 _ v ?_ rfl
        unfold atL
        rw [List.getD_eq_getElem?_getD, canonRow_get l g 0 0 _ e0]; rfl
    · rw [hds]
      simp [List.range_succ_eq_map]
      exact fun a _ => rfl
  | [], _ :: _, _, _, _, _, _, h, _ => h.elim
  | [], [], _ :: _, _, _, _, _, h, _ => h.elim
  | _ :: _, [], _, _, _, _, _, h, _ => h.elim
  | _ :: _, _ :: _, [], _, _, _, _, h, _ => h.elim

end
end Go.Am

namespace Go.Sp
open Go Go.Am

structure Sup where
  bank : Int
  epoch : Int
  denom : Int
  issued : Int
  ret : Int
  dbl : Int
  exp : Int
deriving Inhabited
def Sup.cells (s : Sup) : List AV := [.int .i64 s.bank, .int .i64 s.epoch, .int .i64 s.denom, .int .i64 s.issued, .int .i64 s.ret, .int .i64 s.dbl, .int .i64 s.exp]
def I64 (n : Int) : Prop := -9223372036854775808 ≤ n ∧ n ≤ 9223372036854775807
def Sup.R (s : Sup) : Prop := I64 s.bank ∧ I64 s.epoch ∧ I64 s.denom ∧ I64 s.issued ∧ I64 s.ret ∧ I64 s.dbl ∧ I64 s.exp
def amtB (n : Int) : Bool := decide (0 ≤ n) && decide (n ≤ 4503599627370496)
def validS (s : Sup) : Bool := decide (0 ≤ s.bank) && decide (s.bank < 8) && decide (0 ≤ s.epoch) && decide (s.epoch ≤ 1000000) && decide (0 ≤ s.denom) && decide (s.denom ≤ 16) && amtB s.issued && amtB s.ret && amtB s.dbl && amtB s.exp && decide (s.dbl ≤ s.ret)
def cmpI (a b : Int) : Int := if a < b then -1 else if b < a then 1 else 0
def cmpS (a b : Sup) : Int := if cmpI a.bank b.bank ≠ 0 then cmpI a.bank b.bank else if cmpI a.epoch b.epoch ≠ 0 then cmpI a.epoch b.epoch else cmpI a.denom b.denom
def keyB (a b : Sup) : Bool := decide (a.bank = b.bank) && decide (a.epoch = b.epoch) && decide (a.denom = b.denom)
def befB (a b : Sup) : Bool := if a.bank ≠ b.bank then decide (a.bank < b.bank) else if a.epoch ≠ b.epoch then decide (a.epoch < b.epoch) else decide (a.denom < b.denom)
def supA (n : Nat) (f : Nat → Sup) : AV := .isl 7 n fun i j => atL (Sup.cells (f i)) j
def leftS (s : Sup) : Int := IntKind.wrap .i64 (IntKind.wrap .i64 (IntKind.wrap .i64 (s.issued - s.ret) + s.dbl) - s.exp)
end Go.Sp
namespace Go.Sp
open Go Go.Am
def listB (n : Nat) (f : Nat → Sup) : Bool := Nat.ble n 1000 && (List.range n).all fun i => validS (f i) && (List.range i).all fun k => !keyB (f i) (f k)
theorem list_long {n : Nat} {f : Nat → Sup} (h : (n : Int) > 1000) : listB n f = false := by
  unfold listB
  have : Nat.ble n 1000 = false := by
    cases e : Nat.ble n 1000 with
    | false => rfl
    | true => have := Nat.le_of_ble_eq_true e; omega
  rw [this, Bool.false_and]
theorem list_inv {n : Nat} {f : Nat → Sup} {i : Nat} (hi : i < n) (h : validS (f i) = false) : listB n f = false := by
  unfold listB
  have : ((List.range n).all fun i => validS (f i) && (List.range i).all fun k => !keyB (f i) (f k)) = false := List.all_eq_false.2 ⟨i, List.mem_range.2 hi, by simp [h]⟩
  rw [this, Bool.and_false]
theorem list_two {n : Nat} {f : Nat → Sup} {i k : Nat} (hi : i < n) (hk : k < i) (h : keyB (f i) (f k) = true) : listB n f = false := by
  unfold listB
  have : ((List.range n).all fun i => validS (f i) && (List.range i).all fun k => !keyB (f i) (f k)) = false := List.all_eq_false.2 ⟨i, List.mem_range.2 hi, by
    have : ((List.range i).all fun k => !keyB (f i) (f k)) = false := List.all_eq_false.2 ⟨k, List.mem_range.2 hk, by simp [h]⟩
    simp [this]⟩
  rw [this, Bool.and_false]
theorem list_ok {n : Nat} {f : Nat → Sup} (hn : ¬ (n : Int) > 1000) (h : ∀ i, i < n → validS (f i) = true ∧ ∀ k, k < i → keyB (f i) (f k) = false) : listB n f = true := by
  unfold listB
  rw [Nat.ble_eq_true_of_le (by omega), Bool.true_and, List.all_eq_true]
  intro i hi
  obtain ⟨h1, h2⟩ := h i (List.mem_range.1 hi)
  rw [h1, Bool.true_and, List.all_eq_true]
  intro k hk
  rw [h2 k (List.mem_range.1 hk)]; rfl
theorem list_spec {n : Nat} {f : Nat → Sup} (h : listB n f = true) : n ≤ 1000 ∧ ∀ i, i < n → validS (f i) = true ∧ ∀ k, k < i → keyB (f i) (f k) = false := by
  unfold listB at h
  rw [Bool.and_eq_true, List.all_eq_true] at h
  refine ⟨Nat.le_of_ble_eq_true h.1, fun i hi => ?_⟩
  have := h.2 i (List.mem_range.2 hi)
  rw [Bool.and_eq_true, List.all_eq_true] at this
  exact ⟨this.1, fun k hk => by simpa using this.2 k (List.mem_range.2 hk)⟩
def eqS (a b : Sup) : Bool := a.bank == b.bank && (a.epoch == b.epoch && (a.denom == b.denom && (a.issued == b.issued && (a.ret == b.ret && (a.dbl == b.dbl && (a.exp == b.exp && true))))))
def sameL (n m : Nat) (f g : Nat → Sup) : Bool := Nat.beq n m && (List.range n).all fun i => eqS (f i) (g i)
theorem same_len {n m : Nat} {f g : Nat → Sup} (h : ¬ (n : Int) = m) : sameL n m f g = false := by
  unfold sameL
  have : Nat.beq n m = false := by
    cases e : Nat.beq n m with
    | false => rfl
    | true => exact absurd (congrArg _ (Nat.eq_of_beq_eq_true e)) h
  rw [this]; rfl
theorem same_no {n m : Nat} {f g : Nat → Sup} {i : Nat} (hi : i < n) (h : eqS (f i) (g i) = false) : sameL n m f g = false := by
  unfold sameL
  have : ((List.range n).all fun i => eqS (f i) (g i)) = false := List.all_eq_false.2 ⟨i, List.mem_range.2 hi, by rw [h]; decide⟩
  rw [this, Bool.and_false]
theorem same_yes {n m : Nat} {f g : Nat → Sup} (hn : (n : Int) = m) (h : ∀ i, i < n → eqS (f i) (g i) = true) : sameL n m f g = true := by
  obtain rfl : n = m := by omega
  unfold sameL
  rw [Nat.beq_refl, List.all_eq_true.2 fun i hi => h i (List.mem_range.1 hi)]; rfl
end Go.Sp

namespace Go.Am
open Go.RowKit

def keepsOps (pins : List Nat) (ops : Array Oper) : Bool :=
  ops.toList.all fun o => (match o.op with | .defer _ => false | .mapUpdate .. => false | _ => true) && (match o.dst with | some d => !memN pins d | none => true)
def keepsC (pins : List Nat) : Code → Bool
  | .skip => true
  | .region _ ops _ => keepsOps pins ops
  | .seq x y => keepsC pins x && keepsC pins y
  | .cond _ x y => keepsC pins x && keepsC pins y
  | .block _ x => keepsC pins x
  | _ => false

def PinIn (pins : List Nat) (a0 a : Act) : Prop := ∀ n, n ∈ pins → a.tmps.getD n undef = a0.tmps.getD n undef

section
def Open (F : Fence) : Prop := F = Fence.wide ∨ ∃ l, F = Fence.wide.inRound l
theorem Open.calls {F : Fence} (h : Open F) {n : Nat} {P : Program} {f : FuncId} {args : Array Value} {w : World} {R : Ending → World → Prop} (hc : Calls P f args w R) : CallsIn F n P f args w R := by
  rcases h with rfl | ⟨l, rfl⟩
  · exact callsIn_wide.2 hc
  · exact CallsIn.inRound l (callsIn_wide.2 hc)
theorem Open.fn {F : Fence} (h : Open F) (f : FuncId) : F.fn f := by rcases h with rfl | ⟨l, rfl⟩ <;> trivial
theorem Open.deep {F : Fence} (h : Open F) : ¬ F.depth.isSome = true := by rcases h with rfl | ⟨l, rfl⟩ <;> (intro h; cases h)
theorem Open.steps {F : Fence} (h : Open F) {P : Program} {m m' : Machine} (hs : Steps P m m') : StepsIn (Machine.fenced P F) P m m' := by rcases h with rfl | ⟨l, rfl⟩ <;> exact stepsIn_wide.2 hs

variable {P : Program} {ops : Array Oper} {Q Q' : Exit → Act → World → Prop} {F : Fence} {n : Nat} {pins : List Nat} {a0 : Act}

theorem upon_in (hF : Open F) {o : Oper} {a : Act} {K K' : Act → World → Prop} (hp : ∀ ch a w, ¬ Q (.panic ch) a w) (hO : ¬ LetsOut Q) (hK : ∀ a' w', (∃ v, a'.tmps = (a.put o.dst v).tmps) → K a' w' → K' a' w') : ∀ (r : Result Next), o.upon P a K Q r → o.uponIn F n P a K' Q' r := by
  intro r h
  cases r with
  | ok x w' =>
    cases x <;> simp only [Oper.upon] at h <;> simp only [Oper.uponIn]
    case value v => exact hK _ _ ⟨v, rfl⟩ h
    case skip => exact hK _ _ ⟨undef, rfl⟩ h
    case defer d => exact hK _ _ ⟨undef, by cases o.dst <;> rfl⟩ h
    case enter f args =>
      refine ⟨fun h => (hF.deep h).elim, hF.calls (h.mono fun e w'' he => ?_)⟩
      cases e with
      | returned v => exact hK _ _ ⟨v, rfl⟩ he
      | panicked ch => exact (hp _ _ _ he).elim
      | outgrown => exact (hO he).elim
    case row row args =>
      refine ⟨fun h => (hF.deep h).elim, fun c cs _ => ?_⟩
      obtain ⟨v, w'', hr, hs⟩ := h c cs
      exact ⟨v, w'', hK _ _ ⟨v, rfl⟩ hr, hF.steps hs⟩
  | halt x w' =>
    cases x <;> simp only [Oper.upon] at h
    exact (hp _ _ _ h).elim

theorem op_in (hF : Open F) {o : Oper} {a : Act} {w : World} {K K' : Act → World → Prop} (hd : ∀ c, o.op ≠ .defer c) (hp : ∀ ch a w, ¬ Q (.panic ch) a w) (hO : ¬ LetsOut Q) (hK : ∀ a' w', (∃ v, a'.tmps = (a.put o.dst v).tmps) → K a' w' → K' a' w')
    (h : o.wp P a w K Q) : o.wpIn F n P a w K' Q' := by
  refine ⟨fun f _ => hF.fn f, ?_⟩
  rw [Oper.semAt_eq _ _ _ hd]
  exact upon_in hF hp hO hK _ h

theorem keeps_upd {pins : List Nat} {ops : Array Oper} (hk : keepsOps pins ops = true) : hasUpd ops = false := by
  unfold hasUpd
  rw [List.any_eq_false]
  intro o ho
  have := List.all_eq_true.1 hk o ho
  rw [Bool.and_eq_true] at this
  have h1 := this.1
  cases hop : o.op <;> simp [hop] at h1 ⊢

theorem keeps_at {i : Nat} {o : Oper} (hk : keepsOps pins ops = true) (ho : ops[i]? = some o) : (∀ c, o.op ≠ .defer c) ∧ ∀ n, n ∈ pins → o.dst ≠ some n := by
  have hm : o ∈ ops.toList := by
    obtain ⟨h1, h2⟩ := Array.getElem?_eq_some_iff.1 ho
    rw [← h2]; simp
  have := List.all_eq_true.1 hk o hm
  rw [Bool.and_eq_true] at this
  obtain ⟨h1, h2⟩ := this
  refine ⟨fun c e => (by rw [e] at h1; cases h1), fun n hn e => ?_⟩
  rw [e] at h2
  simp only [Bool.not_eq_true'] at h2
  rw [memN_iff.2 hn] at h2
  cases h2

theorem pinned_put {o : Oper} {a a' : Act} {v : Value} (hd : ∀ n, n ∈ pins → o.dst ≠ some n) (h : PinIn pins a0 a) (e : a'.tmps = (a.put o.dst v).tmps) : PinIn pins a0 a' := fun n hn => by
  rw [e, ← h n hn]
  cases hdd : o.dst with
  | none => rfl
  | some d => exact getD_put_ne (fun e => hd n hn (by rw [hdd, e]))

theorem ops_in (hF : Open F) (hk : keepsOps pins ops = true) (hp : ∀ ch a w, ¬ Q (.panic ch) a w) (hO : ¬ LetsOut Q) : ∀ (is : List Nat) (a : Act) (w : World), wpOps P ops Q is a w → PinIn pins a0 a →
    wpOpsIn F n P ops (fun e a w => Q e a w ∧ PinIn pins a0 a) is a w := by
  intro is
  induction is with
  | nil => intro a w h hpin; exact ⟨h, hpin⟩
  | cons i rest ih =>
    intro a w h hpin
    simp only [wpOps] at h
    simp only [wpOpsIn]
    cases ho : ops[i]? with
    | none => simp only [ho] at h ⊢; exact ih a w h hpin
    | some o =>
      simp only [ho] at h ⊢
      obtain ⟨h1, h2⟩ := keeps_at hk ho
      by_cases hw : Region.wanted o (yielded ops a.tmps) = true
      · simp only [hw, if_true] at h ⊢
        rcases h with h | h
        · exact op_in hF h1 hp hO (fun a' w' hv hh => let ⟨v, e⟩ := hv; ih a' w' hh (pinned_put h2 hpin e)) h
        · exact (hO h.2).elim
      · simp only [hw, if_false, Bool.false_eq_true] at h ⊢
        exact ⟨fun f _ => hF.fn f, ih _ _ h (pinned_put h2 hpin rfl)⟩

theorem any_in (hF : Open F) (hk : keepsOps pins ops = true) (hp : ∀ ch a w, ¬ Q (.panic ch) a w) (hO : ¬ LetsOut Q) {md : Region.Mode} : ∀ (fuel : Nat) (listed : Array Bool) (a : Act) (w : World), wpAny P md ops Q fuel listed a w → PinIn pins a0 a →
    wpAnyIn F n P md ops (fun e a w => Q e a w ∧ PinIn pins a0 a) fuel listed a w := by
  intro fuel
  induction fuel with
  | zero => intro listed a w h hpin; exact ⟨h.1, h.2, hpin⟩
  | succ fuel ih =>
    intro listed a w h hpin
    refine ⟨fun hr => ⟨h.1 hr, hpin⟩, fun i hi => ?_⟩
    have := h.2 i hi
    unfold wpOp at this
    unfold wpOpIn
    cases ho : ops[i]? with
    | none => simp only [ho] at this ⊢; exact ih _ a w this hpin
    | some o =>
      simp only [ho] at this ⊢
      obtain ⟨h1, h2⟩ := keeps_at hk ho
      by_cases hw : Region.wanted o (yielded ops a.tmps) = true
      · simp only [hw, if_true] at this ⊢
        rcases this with h | h
        · exact op_in hF h1 hp hO (fun a' w' hv hh => let ⟨v, e⟩ := hv; ih _ a' w' hh (pinned_put h2 hpin e)) h
        · exact (hO h.2).elim
      · simp only [hw, if_false, Bool.false_eq_true] at this ⊢
        exact ⟨fun f _ => hF.fn f, ih _ _ _ this (pinned_put h2 hpin rfl)⟩
end

theorem uponIn_in {P : Program} {F : Fence} {n : Nat} {Q Q' : Exit → Act → World → Prop} {o : Oper} {a : Act} {K K' : Act → World → Prop} (hp : ∀ ch a w, ¬ Q (.panic ch) a w) (hO : ¬ LetsOut Q) (hK : ∀ a' w', K a' w' → K' a' w') : ∀ (r : Result Next), o.uponIn F n P a K Q r → o.uponIn F n P a K' Q' r := by
  intro r h
  cases r with
  | ok x w' =>
    cases x <;> simp only [Oper.uponIn] at h ⊢
    case value v => exact hK _ _ h
    case skip => exact hK _ _ h
    case defer d => exact hK _ _ h
    case enter f args => exact ⟨h.1, h.2.mono fun e w'' he => by
      cases e with
      | returned v => exact hK _ _ he
      | panicked ch => exact (hp _ _ _ he).elim
      | outgrown => exact (hO he).elim⟩
    case row row args => exact ⟨h.1, h.2.mono fun v w'' he => hK _ _ he⟩
    case round l f tmps x y => exact ⟨h.1, h.2.mono fun e w'' he => by
      cases e with
      | returned v => exact hK _ _ he
      | panicked ch => exact (hp _ _ _ he).elim
      | outgrown => exact (hO he).elim⟩
  | halt x w' =>
    cases x <;> simp only [Oper.uponIn] at h
    exact (hp _ _ _ h).elim

theorem opsIn_pre {P : Program} {F : Fence} {n : Nat} {ops ops' : Array Oper} {m : Nat} {X : Act → World → Prop} {Q : Exit → Act → World → Prop} {rest : List Nat} (hops : ∀ i, i < m → ops'[i]? = ops[i]?) (hg : ∀ i o, i < m → ops[i]? = some o → o.guard = none)
    (hX : ∀ a w, X a w → wpOpsIn F n P ops Q rest a w) : ∀ (l : List Nat), (∀ i, i ∈ l → i < m) → ∀ (a : Act) (w : World), wpOpsIn F n P ops' (fun e a w => (e = .normal ∧ X a w)) l a w → wpOpsIn F n P ops Q (l ++ rest) a w := by
  intro l
  induction l with
  | nil => intro _ a w h; exact hX a w h.2
  | cons i l ih =>
    intro hl a w h
    have hi := hl i (List.mem_cons_self ..)
    rw [List.cons_append]
    simp only [wpOpsIn] at h ⊢
    rw [hops i hi] at h
    cases ho : ops[i]? with
    | none => simp only [ho] at h ⊢; exact ih (fun k hk => hl k (List.mem_cons_of_mem _ hk)) a w h
    | some o =>
      simp only [ho] at h ⊢
      have hw : ∀ ys, Region.wanted o ys = true := fun ys => by simp [Region.wanted, hg i o hi ho]
      simp only [hw, if_true] at h ⊢
      exact ⟨h.1, uponIn_in (fun _ _ _ h => by cases h.1) (fun ⟨_, _, h⟩ => by cases h.1) (fun a' w' h' => ih (fun k hk => hl k (List.mem_cons_of_mem _ hk)) a' w' h') _ h.2⟩

theorem final_no_panic {K : Ctx} {C : Cfg} {k : AExit → ASt → Tree} : ∀ ch a w, ¬ Final K C k (.panic ch) a w := fun ch a w ⟨_, _, _, h, _⟩ => by cases h
theorem final_no_out {K : Ctx} {C : Cfg} {k : AExit → ASt → Tree} : ¬ LetsOut (Final K C k) := fun ⟨_, _, _, _, _, h, _⟩ => by cases h

theorem runsIn {K : Ctx} {C : Cfg} {pins : List Nat} {a0 : Act} {F : Fence} {n : Nat} (hF : Open F) (hP : C.P = K.P) (hgl : C.gl = K.gl) (hnt : C.nt = K.nt) (hm : K.P.follows .mixedOrders = true) (x : Code) :
    ∀ (k : AExit → ASt → Tree) (s : ASt) (β : Book) (a : Act) (w : World), keepsC pins x = true → (run C x k s).wp C.P C.gl (Le C.ng) → Sim K β s a w → PinIn pins a0 a →
      x.wpIn F n K.P (fun e a w => Final K C k e a w ∧ PinIn pins a0 a) a w := by
  induction x with
  | skip => intro k s β a w _ h hs hp; exact wpIn_skip ⟨⟨β, s, .normal, rfl, hs, h⟩, hp⟩
  | region id ops draw =>
    intro k s β a w hk h hs hp
    simp only [run, keeps_upd hk, cond_false] at h
    cases hd : dstsOk ops with
    | false => simp only [hd, cond_false] at h; exact h.elim
    | true =>
      simp only [hd, cond_true] at h
      obtain ⟨h1, h2⟩ := region_core hP hgl hnt hd h hs (Q := Final K C k) (fun β' r a' w' hr hX => ⟨β', _, .normal, rfl, hr.toA, hX⟩)
      cases draw with
      | false => exact wpIn_region (ops_in hF hk final_no_panic final_no_out _ a w (h1 rfl) hp)
      | true => exact wpIn_region_any hm (any_in hF hk final_no_panic final_no_out _ _ a _ (h2 rfl) hp)
  | seq x y ihx ihy =>
    intro k s β a w hk h hs hp
    simp only [keepsC, Bool.and_eq_true] at hk
    refine wpIn_seq (wpIn_mono (ihx _ s β a w hk.1 h hs hp) ?_)
    rintro e a' w' ⟨⟨β', s', ae, he, hs', hk'⟩, hp'⟩
    cases e <;> simp only [exitOf, reduceCtorEq, Option.some.injEq] at he
    · subst he; exact ihy k s' β' a' w' hk.2 hk' hs' hp'
    · subst he; exact ⟨⟨β', s', _, rfl, hs', hk'⟩, hp'⟩
    · subst he; exact ⟨⟨β', s', _, rfl, hs', hk'⟩, hp'⟩
  | cond c x y ihx ihy =>
    intro k s β a w hk h hs hp
    simp only [keepsC, Bool.and_eq_true] at hk
    simp only [run] at h
    split at h
    · rename_i b hb
      have hrel : Rel β w (ev K.gl s.fr c) (a.eval c) := by
        have := rel_ev (hs.toR #[]) (x := c) (fun t _ => rfl)
        exact this
      rw [← hgl, hb] at hrel
      have hv := rel_bool_inv hrel
      exact wpIn_cond_split hv (fun ht => ihx k s β a w hk.1 (h.1 ht) hs hp) (fun hf => ihy k s β a w hk.2 (h.2 hf) hs hp)
    · exact h.elim
  | block id x ih =>
    intro k s β a w hk h hs hp
    refine wpIn_block (wpIn_mono (ih _ s β a w hk h hs hp) ?_)
    rintro e a' w' ⟨⟨β', s', ae, he, hs', hk'⟩, hp'⟩
    cases e <;> simp only [exitOf, reduceCtorEq, Option.some.injEq] at he
    · subst he; exact ⟨⟨β', s', _, rfl, hs', hk'⟩, hp'⟩
    · rename_i j
      subst he
      simp only [Exit.inBlock]
      by_cases e : j = id
      · subst e
        rw [if_pos rfl]
        simp only [Nat.beq_refl, cond_true] at hk'
        exact ⟨⟨β', s', .normal, rfl, hs', hk'⟩, hp'⟩
      · rw [if_neg e]
        have hb : Nat.beq j id = false := by
          cases hb : Nat.beq j id with
          | false => rfl
          | true => exact absurd (Nat.eq_of_beq_eq_true hb) e
        simp only [hb, cond_false] at hk'
        exact ⟨⟨β', s', .leave j, rfl, hs', hk'⟩, hp'⟩
    · subst he; exact ⟨⟨β', s', _, rfl, hs', hk'⟩, hp'⟩
  | _ => intro k s β a w hk; cases hk


def CalmIn (β : Book) (w W : World) : Prop := w.heap.size ≤ W.heap.size ∧ (∀ b, b < w.heap.size → β.free b → W.heap[b]? = w.heap[b]?) ∧ ∀ b, b < w.heap.size → W.shape? b = w.shape? b
def Stays (β : Book) (w W W' : World) : Prop := CalmIn β w W → CalmIn β w W'

def Iter (P : Program) (gl : Globs) (gf : FuncId) (lb : List AV) (n : Nat) (xs : Fin n → AV) : Prop :=
  Enters P gf ∧ ∀ (β : Book) (w : World) (vs : Array Value), (∀ b, β.F b → b < w.heap.size) → (∀ id b k mu, β.m id = some (.lives b k mu) → b < w.heap.size) → GlobB gl β w → Rels β w lb vs →
    ∃ ys : Fin n → Value, (∀ i, Rel β w (xs i) (ys i)) ∧ SeqStopsK Fence.wide 8 P gf vs (fun i => #[ys i]) (Stays β w) (fun l => l = List.finRange n) (fun _ => True) n w

def roundT (P : Program) (gl : Globs) (own : FuncId → Option (List Bool)) (ng nt : Nat) (c : Code) (s s' : ASt) : Tree :=
  run ⟨P, gl, nt, own, ng⟩ c (fun e t => match e with | .normal => .again t (fun u => Le ng u s') | _ => .bad "round") s
def Round (P : Program) (gl : Globs) (own : FuncId → Option (List Bool)) (ng nt : Nat) (c : Code) (s s' : ASt) : Prop := (roundT P gl own ng nt c s s').wp P gl (Le ng)

theorem round_sk {P : Program} {gl : Globs} {own : FuncId → Option (List Bool)} {ng nt : Nat} {c : Code} {s s' : ASt} (sk : Sk) (hu : unroll ng (roundT P gl own ng nt c s s') sk = sk) (h : sk.ok P gl ng) : Round P gl own ng nt c s s' :=
  unroll_ok sk _ hu h
theorem k_againR {P : Program} {gl : Globs} {ng : Nat} {s' : ASt} {ns π : List Nat} {vals : List AV} {os : List (Option Ob)} (h : ∀ s, Desc ng s ns π vals os → Le ng s s') : (Sk.again (fun u => Le ng u s') ns π vals os).ok P gl ng := h

theorem lookZ_none {ns : List Nat} {vs : List AV} {n : Nat} (h : n ∉ ns) : lookZ ns vs n = .junk := by
  induction ns generalizing vs with
  | nil => rfl
  | cons m ns ih =>
    cases vs with
    | nil => rfl
    | cons v vs =>
      rw [List.mem_cons, not_or] at h
      have hb : Nat.beq m n = false := by
        cases hb : Nat.beq m n with
        | false => rfl
        | true => exact absurd (Nat.eq_of_beq_eq_true hb).symm h.1
      simp only [lookZ, hb, cond_false]
      exact ih h.2

def calmB (β : Book) (w : World) : Book := ⟨fun _ => none, fun b => b < w.heap.size ∧ ¬ β.free b⟩
theorem Rel.calm {β : Book} {w W : World} {a : AV} {v : Value} (h : Rel β w a v) (hc : Cl a) (hW : CalmIn β w W) : Rel (calmB β w) W a v := by
  let B1 : Book := ⟨fun _ => none, fun b => ¬ β.free b⟩
  have f1 : ∀ b, β.free b → B1.free b := fun b h => ⟨fun h' => h' h, fun id m h => by cases h⟩
  have hk : Keeps B1 w (calmB β w) W := by
    refine ⟨fun id o h => (by cases h), fun b hb hfb => hW.2.1 b hb (Classical.byContradiction fun h => hfb.1 h), fun b hb hfb => ⟨fun h => hfb.1 h.2, fun id m h => by cases h⟩, fun b el sz h => ?_⟩
    rw [hW.2.2 b (lt_of_shape h)]; exact h
  exact (h.rebook f1 hc).keep hk
theorem GlobAt.calm {β : Book} {w W : World} {g m : Nat} {f : Nat → AV} (h : GlobAt β w g m f) (hc : Cl (.ipt m f)) (hW : CalmIn β w W) : GlobAt (calmB β w) W g m f :=
  ⟨h.rel.calm hc hW, let ⟨el, e⟩ := h.size; ⟨el, by rw [hW.2.2 g (lt_of_shape e)]; exact e⟩⟩

def calmK (P : Program) (gl : Globs) (nt : Nat) (β : Book) (w W : World) : Ctx := ⟨P, gl, W.heap.size, W, nt, (calmB β w).F, fun _ => False, fun _ => none, true⟩

theorem Sim.calm {P : Program} {gl : Globs} {nt : Nat} {β : Book} {w W : World} {ns : List Nat} {vs : List AV} {a : Act} (hg : GlobB gl β w) (hW : CalmIn β w W) (hsz : a.tmps.size = nt) (hd : a.defers = [])
    (hv : ∀ (k n : Nat) v, ns[k]? = some n → vs[k]? = some v → Rel (calmB β w) W v (a.tmps.getD n undef)) : Sim (calmK P gl nt β w W) (calmB β w) (mkSt ns vs []) a W := by
  refine ⟨fun n => ?_, hsz, by rw [hd]; exact Marks.nil _ _, fun id o h => (by simp [mkSt] at h), fun _ _ _ _ _ _ _ h => (by cases h), fun _ _ => rfl, fun _ _ _ _ h => (by cases h), fun _ _ h => (by cases h), rfl, fun b hb => ⟨Nat.lt_of_lt_of_le hb.1 hW.1, fun h => h⟩,
    Kept.refl _ _ _, Nat.le_refl _, fun g m h hgl => ((hg g m h hgl).calm ?_ hW)⟩
  · show Rel _ _ (lookZ ns vs n) _
    clear hg hW hsz hd
    induction ns generalizing vs with
    | nil => exact .junk
    | cons m ns ih =>
      cases vs with
      | nil => exact .junk
      | cons v vs =>
        simp only [lookZ]
        cases hb : Nat.beq m n with
        | true =>
          have := Nat.eq_of_beq_eq_true hb
          subst this
          exact hv 0 m v rfl rfl
        | false => exact ih (fun k n v hn hv' => hv (k + 1) n v (by simpa using hn) (by simpa using hv'))
  · obtain ⟨_, _, _, _, _, _, _, _, hcl, _⟩ := rel_ipt_inv (hg g m h hgl).rel
    exact .ipt hcl

theorem Round.in {F : Fence} {n : Nat} {K : Ctx} {own : FuncId → Option (List Bool)} {ng : Nat} {c : Code} {s s' : ASt} {β : Book} {a : Act} {w : World} {pins : List Nat} (hr : Round K.P K.gl own ng K.nt c s s') (hF : Open F) (hk : keepsC pins c = true)
    (hng : ∀ id, ng ≤ id → K.b0 id = none) (hm : K.P.follows .mixedOrders = true) (hs : Sim K β s a w) : c.wpIn F n K.P (fun e a' w' => e = .normal ∧ (∃ β', Sim K β' s' a' w') ∧ PinIn pins a a') a w := by
  refine wpIn_mono (runsIn (C := ⟨K.P, K.gl, K.nt, own, ng⟩) (pins := pins) (a0 := a) hF rfl rfl rfl hm c _ s β a w hk hr hs (fun _ _ => rfl)) ?_
  rintro e a' w' ⟨⟨β', t, ae, he, hs', hk'⟩, hp⟩
  cases e <;> simp only [exitOf, reduceCtorEq, Option.some.injEq] at he
  · subst he; exact ⟨rfl, hk' K β' a' w' hng hs', hp⟩
  · subst he; exact hk'.elim
  · subst he; exact hk'.elim

theorem Round.ops {F : Fence} {n : Nat} {K : Ctx} {own : FuncId → Option (List Bool)} {ng id : Nat} {ops : Array Oper} {s s' : ASt} {β : Book} {a : Act} {w : World} {pins : List Nat} (hr : Round K.P K.gl own ng K.nt (.region id ops false) s s') (hF : Open F) (hk : keepsOps pins ops = true)
    (hng : ∀ id, ng ≤ id → K.b0 id = none) (hs : Sim K β s a w) : wpOpsIn F n K.P ops (fun e a' w' => e = .normal ∧ (∃ β', Sim K β' s' a' w') ∧ PinIn pins a a') (List.range ops.size) a w := by
  have h : (run ⟨K.P, K.gl, K.nt, own, ng⟩ (.region id ops false) (fun e t => match e with | .normal => .again t (fun u => Le ng u s') | _ => .bad "round") s).wp K.P K.gl (Le ng) := hr
  simp only [run, keeps_upd hk, cond_false] at h
  cases hd : dstsOk ops with
  | false => simp only [hd, cond_false] at h; exact h.elim
  | true =>
    simp only [hd, cond_true] at h
    have := (region_core (K := K) (C := ⟨K.P, K.gl, K.nt, own, ng⟩) rfl rfl rfl hd h hs (Q := fun e a w => e = .normal ∧ ∃ β', Sim K β' s' a w) (fun β' r a' w' hr hX => ⟨rfl, hX K β' a' w' hng hr.toA⟩)).1 rfl
    have h2 := ops_in (a0 := a) (pins := pins) (n := n) hF hk (fun _ _ _ h => by cases h.1) (fun ⟨_, _, h⟩ => by cases h.1) _ a w this (fun _ _ => rfl)
    have e : (fun e a' w' => (e = Exit.normal ∧ ∃ β', Sim K β' s' a' w') ∧ PinIn pins a a') = (fun e a' w' => e = .normal ∧ (∃ β', Sim K β' s' a' w') ∧ PinIn pins a a') := funext fun _ => funext fun _ => funext fun _ => propext and_assoc
    rw [e] at h2
    exact h2

def allMu (obs : List (Option Ob)) : Bool := obs.all fun o => match o with | some o => o.mu | none => false

theorem allMu_spec {obs : List (Option Ob)} (h : allMu obs = true) {k : Nat} (hk : k < obs.length) : ∃ o, obs.getD k none = some o ∧ o.mu = true := by
  have := List.all_eq_true.1 h obs[k] (List.getElem_mem hk)
  rw [List.getD_eq_getElem?_getD, List.getElem?_eq_getElem hk]
  cases ho : obs[k] with
  | none => rw [ho] at this; cases this
  | some o => rw [ho] at this; exact ⟨o, by simp, this⟩

theorem NM.atL {l : List AV} (h : ∀ v, v ∈ l → NM v) (j : Nat) : NM (atL l j) := by
  unfold Am.atL
  rw [List.getD_eq_getElem?_getD]
  cases hj : l[j]? with
  | none => exact .junk
  | some x => exact h x (List.mem_of_getElem? hj)
def NML : List AV → Prop
  | [] => True
  | v :: l => NM v ∧ NML l
theorem NML.spec {l : List AV} (h : NML l) : ∀ v, v ∈ l → NM v := by
  induction l with
  | nil => intro v hv; cases hv
  | cons x l ih => intro v hv; rcases List.mem_cons.1 hv with rfl | hv; (· exact h.1); (· exact ih h.2 v hv)
theorem NML.atL {l : List AV} (h : NML l) (j : Nat) : NM (Am.atL l j) := NM.atL h.spec j
def NMB (o : Ob) : Prop := ∀ i j, i < o.n → j < o.es → NM (o.f i j)
def NMO : List (Option Ob) → Prop
  | [] => True
  | none :: l => NMO l
  | some o :: l => NMB o ∧ NMO l
theorem NMO.spec {l : List (Option Ob)} (h : NMO l) : ∀ (k : Nat) o, l[k]? = some (some o) → NMB o := by
  induction l with
  | nil => intro k o hk; simp at hk
  | cons x l ih =>
    intro k o hk
    cases x with
    | none =>
      cases k with
      | zero => simp at hk
      | succ k => exact ih h k o (by simpa using hk)
    | some y =>
      cases k with
      | zero => simp at hk; subst hk; exact h.1
      | succ k => exact ih h.2 k o (by simpa using hk)
theorem NMS.of {ns : List Nat} {vs : List AV} {obs : List (Option Ob)} (h1 : NML vs) (h2 : NMO obs) : NMS (mkSt ns vs obs) := by
  refine ⟨fun n => ?_, fun id o ho => ?_⟩
  · show NM (lookZ ns vs n)
    induction ns generalizing vs with
    | nil => exact .junk
    | cons m ns ih =>
      cases vs with
      | nil => exact .junk
      | cons v vs =>
        simp only [lookZ]
        cases Nat.beq m n with
        | true => exact h1.1
        | false => exact ih h1.2
  · have ho : (obs[id]?).getD none = some o := by simpa [mkSt, List.getD_eq_getElem?_getD] using ho
    cases hk : obs[id]? with
    | none => rw [hk] at ho; cases ho
    | some x => rw [hk] at ho; exact h2.spec id o (by rw [hk]; exact congrArg some ho)

end Go.Am

namespace Go.Am
structure Bx : Type 1 where
  l : List (List AV)
structure OpqD : Type 1 where
  c : Code
  ns : List Nat
  vs : List AV
  obs : List (Option Ob)
  s' : ASt
structure LoopF : Type 1 where
  ι : Type
  ch : ι → List (Nat × AV)
  obs : ι → List (Nat × Option Ob)
  m : ι → Nat
  i0 : ι
def LoopF.st (α : Type) (p : α → Prop) (ch : α → List (Nat × AV)) (obs : α → List (Nat × Option Ob)) (m : α → Nat) (a : α) (h : p a) : LoopF :=
  ⟨{x : α // p x}, fun x => ch x.1, fun x => obs x.1, fun x => m x.1, ⟨a, h⟩⟩
inductive FR : Type 1 where
  | lst (l : List (List AV))
  | row (l : List AV)
  | fn (a : AV)
  | cat (n : Nat) (f g : FR)
  | put (k : Nat) (x : List AV) (f : FR)
inductive FO : Type 1 where
  | no
  | ob (es n : Nat) (mu : Bool) (r : FR)
structure FOs : Type 1 where
  l : List FO
end Go.Am

namespace Go.Am
open Go.RowKit

theorem Sim.grow {K : Ctx} {β : Book} {s : ASt} {a : Act} {w w' : World} (hs : Sim K β s a w) (hb : Below w.heap.size w w') : Sim K β s a w' := by
  have hk : Keeps β w β w' := keeps_ext hb
  have hkp : Kept K.B K.G w w' := (Kept.ofBelow K.G hb).mono hs.hB (fun _ _ h => h)
  exact ⟨fun n => (hs.slot n).keep hk, hs.size, hs.defers.kept hkp, fun id o ho => (hs.heap id o ho).imp (fun ⟨b, h1, h2⟩ => ⟨b, h1, h2.keep hk (hb.block b (hs.live id b _ _ h1).2)⟩) (fun h => h), hs.inj, hs.fresh,
    fun id b n mu h => ⟨(hs.live id b n mu h).1, Nat.lt_of_lt_of_le (hs.live id b n mu h).2 hb.size⟩, hs.giv, hs.bF, hs.hF, hs.kept.trans hkp, Nat.le_trans hs.hB hb.size, fun g m h hgl => (hs.glob g m h hgl).keep hk⟩

theorem Sim.slots {K : Ctx} {β : Book} {s s' : ASt} {a a' : Act} {w : World} (hs : Sim K β s a w) (hH : s'.H = s.H) (hc : s'.c = s.c) (hsz : a'.tmps.size = a.tmps.size) (hd : a'.defers = a.defers) (h : ∀ n, Rel β w (s'.fr n) (a'.tmps.getD n undef)) : Sim K β s' a' w :=
  ⟨h, hsz.trans hs.size, by rw [hd]; exact hs.defers, fun id o ho => hs.heap id o (hH ▸ ho), hs.inj, fun id h => hs.fresh id (hc ▸ h), hs.live, hs.giv, hs.bF, hs.hF, hs.kept, hs.hB, hs.glob⟩

theorem lookZ_cons_ne {m n : Nat} {ns : List Nat} {v : AV} {vs : List AV} (h : m ≠ n) : lookZ (m :: ns) (v :: vs) n = lookZ ns vs n := by
  have hb : Nat.beq m n = false := by
    cases hb : Nat.beq m n with
    | false => rfl
    | true => exact absurd (Nat.eq_of_beq_eq_true hb) h
  simp only [lookZ, hb, cond_false]
theorem lookZ_cons_eq {m : Nat} {ns : List Nat} {v : AV} {vs : List AV} : lookZ (m :: ns) (v :: vs) m = v := by simp [lookZ]

theorem getD_put_eq {a : Act} {d : Nat} {v : Value} (h : d < a.tmps.size) : (a.put (some d) v).tmps.getD d undef = v := by simp [Act.put, Array.getD_eq_getD_getElem?, h]

theorem Sim.put {K : Ctx} {β : Book} {ns : List Nat} {vs : List AV} {obs : List (Option Ob)} {a : Act} {w : World} {d : Nat} {v : Value} {x : AV} (hs : Sim K β (mkSt ns vs obs) a w) (hdt : d < K.nt) (hr : Rel β w x v) : Sim K β (mkSt (d :: ns) (x :: vs) obs) (a.put (some d) v) w := by
  have hdt' : d < a.tmps.size := by rw [hs.size]; exact hdt
  refine hs.slots rfl rfl (by simp [Act.put]) rfl (fun n => ?_)
  show Rel β w (lookZ (d :: ns) (x :: vs) n) _
  by_cases h : d = n
  · subst h
    rw [lookZ_cons_eq]
    rw [getD_put_eq hdt']; exact hr
  · rw [lookZ_cons_ne h, getD_put_ne (Ne.symm h)]
    exact hs.slot n

theorem Sim.drop {K : Ctx} {β : Book} {ns : List Nat} {vs : List AV} {obs : List (Option Ob)} {a : Act} {w : World} {d : Nat} {x : AV} (hd : d ∉ ns) (hs : Sim K β (mkSt (d :: ns) (x :: vs) obs) a w) : Sim K β (mkSt ns vs obs) a w := by
  refine hs.slots rfl rfl rfl rfl (fun n => ?_)
  show Rel β w (lookZ ns vs n) _
  by_cases h : d = n
  · subst h; rw [lookZ_none hd]; exact .junk
  · have := hs.slot n
    have e : (mkSt (d :: ns) (x :: vs) obs).fr n = lookZ ns vs n := lookZ_cons_ne h
    rw [e] at this
    exact this

theorem SetIn.put {P : Program} {w : World} {b n : Nat} {M : Int → Bool} {t k e : TypeId} {A : Int} (h : SetIn w b n M) (ht : P.underlying t = some (.map k e)) (hk : P.underlying k = some (.int .i64)) (he : P.underlying e = some .bool) (hn : n < maxLen) (hA : (Lit.int .i64 A).wf = true) :
    ∃ w', (Instr.mapUpdate t (.map (some b)) (.int .i64 A) (.bool true)).run P w = .ok () w' ∧ SetIn w' b (n + 1) (fun y => M y || decide (y = A)) ∧ w.grownBy w' (some b) := by
  obtain ⟨P', k', e', D, g1, g2, g3, g4⟩ := h
  have own := plain_any g1 g2 hk he g3
  obtain ⟨w', r1, r2, r3⟩ := own.update (Maps.int_keyed hk) ht hn (Maps.keyOf_int_mk hk hA) (plainElem_bool he true)
  refine ⟨w', r1, ⟨P, k, e, _, hk, he, r2, fun x hx => ?_⟩, r3⟩
  by_cases hxa : x = A
  · subst hxa
    rw [Maps.atKey_put_same (own.isMap) ((Maps.int_keyed hk).key (Maps.keyOf_int_mk hk hA))]
    simp
  · rw [Maps.atKey_put_other (fun e => hxa (by injection e)), g4 x hx]
    simp [hxa]


theorem Round.wp {K : Ctx} {own : FuncId → Option (List Bool)} {ng : Nat} {c : Code} {s s' : ASt} {β : Book} {a : Act} {w : World} {pins : List Nat} {Q : Exit → Act → World → Prop} (hr : Round K.P K.gl own ng K.nt c s s') (hk : keepsC pins c = true) (hng : ∀ id, ng ≤ id → K.b0 id = none) (hm : K.P.follows .mixedOrders = true) (hs : Sim K β s a w)
    (hQ : ∀ β' a' w', Sim K β' s' a' w' → PinIn pins a a' → Q .normal a' w') : c.wp K.P Q a w := by
  refine wp_mono (wpIn_wide (n := 9).1 (Round.in (F := Fence.wide) hr (.inl rfl) hk hng hm hs)) ?_
  rintro e a' w' ⟨rfl, ⟨β', hs'⟩, hp⟩
  exact hQ β' a' w' hs' hp

end Go.Am

namespace Go.Proofs.Ytbmdmoknnlhdoaa
open Go Go.Am Go.Sp
set_option maxRecDepth 100000

theorem mixed : Try.prog.follows .mixedOrders = true := by kernel_rfl
def ow0 : FuncId → Option (List Bool) := fun _ => none
def owR (n : Nat) : FuncId → Option (List Bool) := fun f => bif Nat.beq f 999999999 then some (List.replicate n true) else none
def gl0 : Globs := fun _ => none

theorem nan_c (n : Int) : Pure Try.prog gl0 46 [.int .i64 n] (.bool false) := by
  refine pure_sk (own := ow0) Try.func46 (by kernel_rfl) mixed (by kernel_rfl)
    (.out (AV.bool (n != n)) [] (AV.bool false) [])
    (by kernel_rfl) ?_
  exact k_out (Ent.of_eq (by first | rfl | simp_all))
theorem cmpI_c (a b : Int) : Pure Try.prog gl0 38 [.int .i64 a, .int .i64 b] (.int .i64 (cmpI a b)) := by
  refine pure_sk (own := ow0) Try.func38 (by kernel_rfl) mixed (by kernel_rfl)
    (.sc (true) 46 ([Zi a]) (AV.bool false) (.sc (true) 46 ([Zi b]) (AV.bool false) (.ff (.ff (.br (decide (a < b)) (.out (Zi (-1)) [] (Zi (cmpI a b)) []) (.br (decide (a > b)) (.out (Zi 1) [] (Zi (cmpI a b)) []) (.out (Zi 0) [] (Zi (cmpI a b)) [])))))))
    (by kernel_rfl) ?_
  refine k_sc (nan_c (a)) ?_
  refine k_sc (nan_c (b)) ?_
  refine k_ff ?_
  refine k_ff ?_
  refine k_br (fun h4 => ?_) (fun h4 => ?_)
  · have g4 := cnd_dec_t h4
    exact k_out (Ent.of_eq (congrArg (AV.int _) (by unfold cmpI; split <;> (try split) <;> omega)))
  · have g4 := cnd_dec_f h4
    refine k_br (fun h6 => ?_) (fun h6 => ?_)
    · have g6 := cnd_dec_t h6
      exact k_out (Ent.of_eq (congrArg (AV.int _) (by unfold cmpI; split <;> (try split) <;> omega)))
    · have g6 := cnd_dec_f h6
      exact k_out (Ent.of_eq (congrArg (AV.int _) (by unfold cmpI; split <;> (try split) <;> omega)))
theorem or_c (a b c : Int) : Pure Try.prog gl0 37 [.isl 1 3 fun i j => atL (List.getD [[AV.int .i64 a], [AV.int .i64 b], [AV.int .i64 c]] i []) j] (.int .i64 (if a ≠ 0 then a else if b ≠ 0 then b else c)) := by
  refine pure_sk (own := (owR 4)) Try.func37 (by kernel_rfl) mixed (by kernel_rfl)
    (.tt (.req ((0 : Int) ≤ (0 : Int) ∧ (0 : Int) < (↑(3) : Int)) (.br (a != (0 : Int)) (.out (Zi a) [] (Zi (if a ≠ (0 : Int) then a else if b ≠ (0 : Int) then b else c)) []) (.tt (.req ((0 : Int) ≤ IntKind.wrap IntKind.i64 ((0 : Int) + (1 : Int)) ∧ IntKind.wrap IntKind.i64 ((0 : Int) + (1 : Int)) < (↑(3) : Int)) (.br (b != (0 : Int)) (.out (Zi b) [] (Zi (if a ≠ (0 : Int) then a else if b ≠ (0 : Int) then b else c)) []) (.tt (.req ((0 : Int) ≤ IntKind.wrap IntKind.i64 (IntKind.wrap IntKind.i64 ((0 : Int) + (1 : Int)) + (1 : Int)) ∧ IntKind.wrap IntKind.i64 (IntKind.wrap IntKind.i64 ((0 : Int) + (1 : Int)) + (1 : Int)) < (↑(3) : Int)) (.br (c != (0 : Int)) (.out (Zi c) [] (Zi (if a ≠ (0 : Int) then a else if b ≠ (0 : Int) then b else c)) []) (.ff (.out (Zi 0) [] (Zi (if a ≠ (0 : Int) then a else if b ≠ (0 : Int) then b else c)) [])))))))))))
    (by kernel_rfl) ?_
  refine k_tt ?_
  refine k_req (by decide) ?_
  refine k_br (fun h2 => ?_) (fun h2 => ?_)
  · have g2 := cnd_bne_t h2
    exact k_out (Ent.of_eq (congrArg (AV.int _) (by simp_all)))
  · have g2 := cnd_bne_f h2
    refine k_tt ?_
    refine k_req (by decide) ?_
    refine k_br (fun h6 => ?_) (fun h6 => ?_)
    · have g6 := cnd_bne_t h6
      exact k_out (Ent.of_eq (congrArg (AV.int _) (by simp_all)))
    · have g6 := cnd_bne_f h6
      refine k_tt ?_
      refine k_req (by decide) ?_
      refine k_br (fun h10 => ?_) (fun h10 => ?_)
      · have g10 := cnd_bne_t h10
        exact k_out (Ent.of_eq (congrArg (AV.int _) (by simp_all)))
      · have g10 := cnd_bne_f h10
        refine k_ff ?_
        exact k_out (Ent.of_eq (congrArg (AV.int _) (by simp_all)))
theorem compare_c (a b : Sup) : Pure Try.prog gl0 21 [.agg a.cells, .agg b.cells] (.int .i64 (cmpS a b)) := by
  refine pure_sk (own := ow0) Try.func21 (by kernel_rfl) mixed (by kernel_rfl)
    (.sc (true) 38 ([Zi a.1, Zi b.1]) (Zi (cmpI a.1 b.1)) (.sc (true) 38 ([Zi a.2, Zi b.2]) (Zi (cmpI a.2 b.2)) (.sc (true) 38 ([Zi a.3, Zi b.3]) (Zi (cmpI a.3 b.3)) (.sc (true) 37 ([AV.isl (1) (3) fun (r k : Nat) => atL (List.getD [[Zi (cmpI a.1 b.1)], [Zi (cmpI a.2 b.2)], [Zi (cmpI a.3 b.3)]] (r + 0) []) k]) (Zi (if cmpI a.1 b.1 ≠ (0 : Int) then cmpI a.1 b.1 else if cmpI a.2 b.2 ≠ (0 : Int) then cmpI a.2 b.2 else cmpI a.3 b.3)) (.out (Zi (if cmpI a.1 b.1 ≠ (0 : Int) then cmpI a.1 b.1 else if cmpI a.2 b.2 ≠ (0 : Int) then cmpI a.2 b.2 else cmpI a.3 b.3)) [] (Zi (cmpS a b)) [])))))
    (by kernel_rfl) ?_
  refine k_sc (cmpI_c (a.1) (b.1)) ?_
  refine k_sc (cmpI_c (a.2) (b.2)) ?_
  refine k_sc (cmpI_c (a.3) (b.3)) ?_
  refine k_sc (or_c (cmpI a.1 b.1) (cmpI a.2 b.2) (cmpI a.3 b.3)) ?_
  exact k_out (Ent.of_eq (congrArg (AV.int _) (by unfold cmpS; rfl)))
theorem outst_c (s : Sup) : Pure Try.prog gl0 25 [.agg s.cells] (.int .i64 (leftS s)) := by
  refine pure_sk (own := ow0) Try.func25 (by kernel_rfl) mixed (by kernel_rfl)
    (.out (Zi (IntKind.wrap IntKind.i64 (IntKind.wrap IntKind.i64 (IntKind.wrap IntKind.i64 (s.4 - s.5) + s.6) - s.7))) [] (Zi (leftS s)) [])
    (by kernel_rfl) ?_
  exact k_out (Ent.of_eq (by first | rfl | simp_all))
theorem left_c (s : Sup) : Pure Try.prog gl0 12 [.agg s.cells] (.int .i64 (leftS s)) := by
  refine pure_sk (own := ow0) Try.func12 (by kernel_rfl) mixed (by kernel_rfl)
    (.out (Zi (IntKind.wrap IntKind.i64 (IntKind.wrap IntKind.i64 (IntKind.wrap IntKind.i64 (s.4 - s.5) + s.6) - s.7))) [] (Zi (leftS s)) [])
    (by kernel_rfl) ?_
  exact k_out (Ent.of_eq (by first | rfl | simp_all))
theorem amount_c (n : Int) : Pure Try.prog gl0 26 [.int .i64 n] (.bool (amtB n)) := by
  refine pure_sk (own := ow0) Try.func26 (by kernel_rfl) mixed (by kernel_rfl)
    (.out (AV.bool (decide (n ≥ (0 : Int)) && decide (n ≤ (4503599627370496 : Int)))) [] (AV.bool (amtB n)) [])
    (by kernel_rfl) ?_
  exact k_out (Ent.of_eq (by first | rfl | simp_all))
theorem rvalid_c (s : Sup) : Pure Try.prog gl0 11 [.agg s.cells] (.bool (validS s)) := by
  refine pure_sk (own := ow0) Try.func11 (by kernel_rfl) mixed (by kernel_rfl)
    (.sc ((decide (s.1 ≥ (0 : Int)) && decide (s.1 < (8 : Int)) && decide (s.2 ≥ (0 : Int)) && decide (s.2 ≤ (1000000 : Int)) && decide (s.3 ≥ (0 : Int)) && decide (s.3 ≤ (16 : Int))) == true) 26 ([Zi s.4]) (AV.bool (amtB s.4)) (.sc ((decide (s.1 ≥ (0 : Int)) && decide (s.1 < (8 : Int)) && decide (s.2 ≥ (0 : Int)) && decide (s.2 ≤ (1000000 : Int)) && decide (s.3 ≥ (0 : Int)) && decide (s.3 ≤ (16 : Int)) && amtB s.4) == true) 26 ([Zi s.5]) (AV.bool (amtB s.5)) (.sc ((decide (s.1 ≥ (0 : Int)) && decide (s.1 < (8 : Int)) && decide (s.2 ≥ (0 : Int)) && decide (s.2 ≤ (1000000 : Int)) && decide (s.3 ≥ (0 : Int)) && decide (s.3 ≤ (16 : Int)) && amtB s.4 && amtB s.5) == true) 26 ([Zi s.6]) (AV.bool (amtB s.6)) (.sc ((decide (s.1 ≥ (0 : Int)) && decide (s.1 < (8 : Int)) && decide (s.2 ≥ (0 : Int)) && decide (s.2 ≤ (1000000 : Int)) && decide (s.3 ≥ (0 : Int)) && decide (s.3 ≤ (16 : Int)) && amtB s.4 && amtB s.5 && amtB s.6) == true) 26 ([Zi s.7]) (AV.bool (amtB s.7)) (.out (AV.bool (decide (s.1 ≥ (0 : Int)) && decide (s.1 < (8 : Int)) && decide (s.2 ≥ (0 : Int)) && decide (s.2 ≤ (1000000 : Int)) && decide (s.3 ≥ (0 : Int)) && decide (s.3 ≤ (16 : Int)) && amtB s.4 && amtB s.5 && amtB s.6 && amtB s.7 && decide (s.6 ≤ s.5))) [] (AV.bool (validS s)) [])))))
    (by kernel_rfl) ?_
  refine k_scg (fun h0 => amount_c (s.4)) ?_
  refine k_scg (fun h1 => amount_c (s.5)) ?_
  refine k_scg (fun h2 => amount_c (s.6)) ?_
  refine k_scg (fun h3 => amount_c (s.7)) ?_
  exact k_out (Ent.of_eq (by first | rfl | simp_all))
theorem same_c (a b : Sup) : Pure Try.prog gl0 29 [.agg a.cells, .agg b.cells] (.bool (keyB a b)) := by
  refine pure_sk (own := ow0) Try.func29 (by kernel_rfl) mixed (by kernel_rfl)
    (.out (AV.bool (a.1 == b.1 && a.2 == b.2 && a.3 == b.3)) [] (AV.bool (keyB a b)) [])
    (by kernel_rfl) ?_
  exact k_out (Ent.of_eq (by first | rfl | simp_all))
theorem before_c (a b : Sup) : Pure Try.prog gl0 28 [.agg a.cells, .agg b.cells] (.bool (befB a b)) := by
  refine pure_sk (own := ow0) Try.func28 (by kernel_rfl) mixed (by kernel_rfl)
    (.br (a.1 != b.1) (.out (AV.bool (decide (a.1 < b.1))) [] (AV.bool (befB a b)) []) (.br (a.2 != b.2) (.out (AV.bool (decide (a.2 < b.2))) [] (AV.bool (befB a b)) []) (.out (AV.bool (decide (a.3 < b.3))) [] (AV.bool (befB a b)) [])))
    (by kernel_rfl) ?_
  refine k_br (fun h0 => ?_) (fun h0 => ?_)
  · have g0 := cnd_bne_t h0
    exact k_out (Ent.of_eq (congrArg AV.bool (by simp [befB, *])))
  · have g0 := cnd_bne_f h0
    refine k_br (fun h2 => ?_) (fun h2 => ?_)
    · have g2 := cnd_bne_t h2
      exact k_out (Ent.of_eq (congrArg AV.bool (by simp [befB, *])))
    · have g2 := cnd_bne_f h2
      exact k_out (Ent.of_eq (congrArg AV.bool (by simp [befB, *])))


theorem amounts_1 (s : Sup) : Gives Try.prog gl0 22 [⟨7, 1, true, .lst [s.cells]⟩] [.own 0 7 0 0 7] (.agg [.own 0 7 0 3 1, .own 0 7 0 4 1, .own 0 7 0 5 1, .own 0 7 0 6 1]) [some ⟨7, 1, true, .lst [s.cells]⟩] := by
  refine gives_sk (own := ow0) (hand := true) Try.func22 (by kernel_rfl) mixed (by kernel_rfl)
    (.out (AV.agg [AV.own (0) (7) (0) (3) (1), AV.own (0) (7) (0) (4) (1), AV.own (0) (7) (0) (5) (1), AV.own (0) (7) (0) (6) (1)]) ([some { es := 7, n := 1, mu := true, f := Rep.lst [Sup.cells s] }]) (AV.agg [AV.own (0 : Nat) (7 : Nat) (0 : Nat) (3 : Nat) (1 : Nat), AV.own (0 : Nat) (7 : Nat) (0 : Nat) (4 : Nat) (1 : Nat), AV.own (0 : Nat) (7 : Nat) (0 : Nat) (5 : Nat) (1 : Nat), AV.own (0 : Nat) (7 : Nat) (0 : Nat) (6 : Nat) (1 : Nat)]) ([some { es := (7 : Nat), n := (1 : Nat), mu := true, f := Rep.lst [Sup.cells s] }]))
    (by kernel_rfl) ?_
  exact k_outg (Ent.of_eq (by first | rfl | simp_all)) (by repeat' (first | exact trivial | (first | exact ObEnt.refl _ | exact ObEnt.junk | exact ObEnt.zero | exact ObEnt.push rfl rfl | exact ObEnt.pushRow rfl | exact ObEnt.len (by omega) | exact ObEnt.row (by repeat' (first | exact trivial | (first | exact Ent.refl _ | exact inc_ent (by omega) | exact Ent.nil rfl | exact Ent.of_eq (congrArg (AV.osl _ _ _) (by first | omega | (dsimp only; omega))) | exact Ent.of_eq (congrArg (AV.int _) (by first | omega | (dsimp only; omega)))) | refine And.intro ?_ ?_))) | refine And.intro ?_ ?_))
theorem amounts_c (n i : Nat) (hi : i < n) (f : Nat → Sup) : Gives Try.prog gl0 22 [⟨7, n, true, .row fun k => (f k).cells⟩] [.own 0 7 i 0 7] (.agg [.own 0 7 i 3 1, .own 0 7 i 4 1, .own 0 7 i 5 1, .own 0 7 i 6 1]) [some ⟨7, n, true, .row fun k => (f k).cells⟩] := by
  refine gives_sk (own := ow0) (hand := true) Try.func22 (by kernel_rfl) mixed (by kernel_rfl)
    (.out (AV.agg [AV.own (0) (7) i (3) (1), AV.own (0) (7) i (4) (1), AV.own (0) (7) i (5) (1), AV.own (0) (7) i (6) (1)]) ([some { es := 7, n := n, mu := true, f := Rep.row fun (i : Nat) => Sup.cells (f i) }]) (AV.agg [AV.own (0 : Nat) (7 : Nat) i (3 : Nat) (1 : Nat), AV.own (0 : Nat) (7 : Nat) i (4 : Nat) (1 : Nat), AV.own (0 : Nat) (7 : Nat) i (5 : Nat) (1 : Nat), AV.own (0 : Nat) (7 : Nat) i (6 : Nat) (1 : Nat)]) ([some { es := (7 : Nat), n := n, mu := true, f := Rep.row fun (k : Nat) => Sup.cells (f k) }]))
    (by kernel_rfl) ?_
  exact k_outg (Ent.of_eq (by first | rfl | simp_all)) (by repeat' (first | exact trivial | (first | exact ObEnt.refl _ | exact ObEnt.junk | exact ObEnt.zero | exact ObEnt.push rfl rfl | exact ObEnt.pushRow rfl | exact ObEnt.len (by omega) | exact ObEnt.row (by repeat' (first | exact trivial | (first | exact Ent.refl _ | exact inc_ent (by omega) | exact Ent.nil rfl | exact Ent.of_eq (congrArg (AV.osl _ _ _) (by first | omega | (dsimp only; omega))) | exact Ent.of_eq (congrArg (AV.int _) (by first | omega | (dsimp only; omega)))) | refine And.intro ?_ ?_))) | refine And.intro ?_ ?_))
theorem ipt_ext {os : List (Option Ob)} {m : Nat} {f g : Nat → AV} (h : ∀ j, j < m → f j = g j) : Ent os (.ipt m f) (.ipt m g) := fun β w v _ hr => by
  obtain ⟨b, off, vals, rfl, hm, hb, hc, hr, hcl, ho⟩ := rel_ipt_inv hr
  exact .ipt vals hm hb hc ho (fun j hj => by rw [← h j hj]; exact hr j hj) (fun j hj => by rw [← h j hj]; exact hcl j hj)
theorem amounts_p (s : Sup) : Pure Try.prog gl0 22 [.ipt 7 fun k => atL s.cells k] (.agg [.ipt 1 fun k => atL [AV.int .i64 s.issued] k, .ipt 1 fun k => atL [AV.int .i64 s.ret] k, .ipt 1 fun k => atL [AV.int .i64 s.dbl] k, .ipt 1 fun k => atL [AV.int .i64 s.exp] k]) := by
  refine pure_sk (own := ow0) Try.func22 (by kernel_rfl) mixed (by kernel_rfl)
    (.out (AV.agg [AV.ipt (1) fun (k : Nat) => atL (Sup.cells s) (3 + k), AV.ipt (1) fun (k : Nat) => atL (Sup.cells s) (4 + k), AV.ipt (1) fun (k : Nat) => atL (Sup.cells s) (5 + k), AV.ipt (1) fun (k : Nat) => atL (Sup.cells s) (6 + k)]) [] (AV.agg [AV.ipt (1 : Nat) fun (k : Nat) => atL [Zi (Sup.issued s)] k, AV.ipt (1 : Nat) fun (k : Nat) => atL [Zi (Sup.ret s)] k, AV.ipt (1 : Nat) fun (k : Nat) => atL [Zi (Sup.dbl s)] k, AV.ipt (1 : Nat) fun (k : Nat) => atL [Zi (Sup.exp s)] k]) [])
    (by kernel_rfl) ?_
  exact k_out (Ent.agg ⟨ipt_ext fun j hj => by obtain rfl := Nat.lt_one_iff.1 hj; rfl, ipt_ext fun j hj => by obtain rfl := Nat.lt_one_iff.1 hj; rfl, ipt_ext fun j hj => by obtain rfl := Nat.lt_one_iff.1 hj; rfl, ipt_ext fun j hj => by obtain rfl := Nat.lt_one_iff.1 hj; rfl, trivial⟩)
theorem amt_t {n : Int} (h : ¬ n < 0 ∧ ¬ n > 4503599627370496) : amtB n = true := by unfold amtB; rw [decide_eq_true (by omega), decide_eq_true (by omega)]; rfl
theorem amt_f {n : Int} (h : n < 0 ∨ n > 4503599627370496) : amtB n = false := by
  unfold amtB
  by_cases c : 0 ≤ n
  · rw [decide_eq_true c, decide_eq_false (by omega)]; rfl
  · rw [decide_eq_false c]; rfl
theorem valid_c (s : Sup) : Pure Try.prog gl0 15 [.agg s.cells] (.bool (validS s)) := by
  refine pure_sk (own := (owR 5)) Try.func15 (by kernel_rfl) mixed (by kernel_rfl)
    (.dc (true) 22 ([AV.ipt (7) fun (k : Nat) => atL (Sup.cells s) k]) (AV.agg [AV.ipt (1 : Nat) fun (k : Nat) => atL [Zi (Sup.issued s)] k, AV.ipt (1 : Nat) fun (k : Nat) => atL [Zi (Sup.ret s)] k, AV.ipt (1 : Nat) fun (k : Nat) => atL [Zi (Sup.dbl s)] k, AV.ipt (1 : Nat) fun (k : Nat) => atL [Zi (Sup.exp s)] k]) (.tt (.req ((0 : Int) ≤ (0 : Int) ∧ (0 : Int) < (↑(4) : Int)) (.br (decide (s.4 < (0 : Int)) || decide (s.4 > (4503599627370496 : Int))) (.out (AV.bool false) [] (AV.bool (validS s)) []) (.tt (.req ((0 : Int) ≤ IntKind.wrap IntKind.i64 ((0 : Int) + (1 : Int)) ∧ IntKind.wrap IntKind.i64 ((0 : Int) + (1 : Int)) < (↑(4) : Int)) (.br (decide (s.5 < (0 : Int)) || decide (s.5 > (4503599627370496 : Int))) (.out (AV.bool false) [] (AV.bool (validS s)) []) (.tt (.req ((0 : Int) ≤ IntKind.wrap IntKind.i64 (IntKind.wrap IntKind.i64 ((0 : Int) + (1 : Int)) + (1 : Int)) ∧ IntKind.wrap IntKind.i64 (IntKind.wrap IntKind.i64 ((0 : Int) + (1 : Int)) + (1 : Int)) < (↑(4) : Int)) (.br (decide (s.6 < (0 : Int)) || decide (s.6 > (4503599627370496 : Int))) (.out (AV.bool false) [] (AV.bool (validS s)) []) (.tt (.req ((0 : Int) ≤ IntKind.wrap IntKind.i64 (IntKind.wrap IntKind.i64 (IntKind.wrap IntKind.i64 ((0 : Int) + (1 : Int)) + (1 : Int)) + (1 : Int)) ∧ IntKind.wrap IntKind.i64 (IntKind.wrap IntKind.i64 (IntKind.wrap IntKind.i64 ((0 : Int) + (1 : Int)) + (1 : Int)) + (1 : Int)) < (↑(4) : Int)) (.br (decide (s.7 < (0 : Int)) || decide (s.7 > (4503599627370496 : Int))) (.out (AV.bool false) [] (AV.bool (validS s)) []) (.ff (.out (AV.bool (decide (s.1 ≥ (0 : Int)) && decide (s.1 < (8 : Int)) && decide (s.2 ≥ (0 : Int)) && decide (s.2 ≤ (1000000 : Int)) && decide (s.3 ≥ (0 : Int)) && decide (s.3 ≤ (16 : Int)) && decide (s.6 ≤ s.5))) [] (AV.bool (validS s)) [])))))))))))))))
    (by kernel_rfl) ?_
  refine k_dc (amounts_p (s)) ?_
  refine k_tt ?_
  refine k_req (by decide) ?_
  refine k_br (fun h3 => ?_) (fun h3 => ?_)
  · have g3 := (cnd_or_t cnd_dec_t cnd_dec_t) h3
    exact k_out (Ent.of_eq (congrArg AV.bool (by first | (simp [validS, amt_f g3]; done) | (simp [validS, amt_f g7]; done) | (simp [validS, amt_f g11]; done) | (simp [validS, amt_f g15]; done) | (unfold validS; rw [amt_t g3, amt_t g7, amt_t g11, amt_t g15]; simp [Bool.and_assoc]))))
  · have g3 := (cnd_or_f cnd_dec_f cnd_dec_f) h3
    refine k_tt ?_
    refine k_req (by decide) ?_
    refine k_br (fun h7 => ?_) (fun h7 => ?_)
    · have g7 := (cnd_or_t cnd_dec_t cnd_dec_t) h7
      exact k_out (Ent.of_eq (congrArg AV.bool (by first | (simp [validS, amt_f g3]; done) | (simp [validS, amt_f g7]; done) | (simp [validS, amt_f g11]; done) | (simp [validS, amt_f g15]; done) | (unfold validS; rw [amt_t g3, amt_t g7, amt_t g11, amt_t g15]; simp [Bool.and_assoc]))))
    · have g7 := (cnd_or_f cnd_dec_f cnd_dec_f) h7
      refine k_tt ?_
      refine k_req (by decide) ?_
      refine k_br (fun h11 => ?_) (fun h11 => ?_)
      · have g11 := (cnd_or_t cnd_dec_t cnd_dec_t) h11
        exact k_out (Ent.of_eq (congrArg AV.bool (by first | (simp [validS, amt_f g3]; done) | (simp [validS, amt_f g7]; done) | (simp [validS, amt_f g11]; done) | (simp [validS, amt_f g15]; done) | (unfold validS; rw [amt_t g3, amt_t g7, amt_t g11, amt_t g15]; simp [Bool.and_assoc]))))
      · have g11 := (cnd_or_f cnd_dec_f cnd_dec_f) h11
        refine k_tt ?_
        refine k_req (by decide) ?_
        refine k_br (fun h15 => ?_) (fun h15 => ?_)
        · have g15 := (cnd_or_t cnd_dec_t cnd_dec_t) h15
          exact k_out (Ent.of_eq (congrArg AV.bool (by first | (simp [validS, amt_f g3]; done) | (simp [validS, amt_f g7]; done) | (simp [validS, amt_f g11]; done) | (simp [validS, amt_f g15]; done) | (unfold validS; rw [amt_t g3, amt_t g7, amt_t g11, amt_t g15]; simp [Bool.and_assoc]))))
        · have g15 := (cnd_or_f cnd_dec_f cnd_dec_f) h15
          refine k_ff ?_
          exact k_out (Ent.of_eq (congrArg AV.bool (by first | (simp [validS, amt_f g3]; done) | (simp [validS, amt_f g7]; done) | (simp [validS, amt_f g11]; done) | (simp [validS, amt_f g15]; done) | (unfold validS; rw [amt_t g3, amt_t g7, amt_t g11, amt_t g15]; simp [Bool.and_assoc]))))

end Go.Proofs.Ytbmdmoknnlhdoaa

namespace Go.Sp
open Go Go.Am

theorem wI {n : Int} (h : -9223372036854775808 ≤ n) (h' : n ≤ 9223372036854775807) : IntKind.wrap .i64 n = n := by
  simp only [IntKind.wrap, IntKind.bits, IntKind.signed]
  simp only [Bool.true_and, decide_eq_true_eq, ge_iff_le]
  split <;> omega

def nodeB (d l i : Int) : Bool := decide (0 ≤ d ∧ d ≤ 5 ∧ 0 ≤ l ∧ l ≤ d ∧ 0 ≤ i ∧ i < 2 ^ l.toNat)
def spanA (d l i : Int) : Int := if nodeB d l i then i * 2 ^ (d - l).toNat else 0
def spanZ (d l i : Int) : Int := if nodeB d l i then (i + 1) * 2 ^ (d - l).toNat else 0
def spanE (d l i : Int) : Int := if d < 0 ∨ 5 < d then 1 else if nodeB d l i then 0 else 2
theorem p2 {k : Int} (h0 : 0 ≤ k) (h1 : k ≤ 5) : IntKind.wrap IntKind.i64 (1 * 2 ^ min (Int.toNat k) 64) = 2 ^ k.toNat ∧ min (Int.toNat k) 64 = k.toNat ∧ 1 ≤ (2 : Int) ^ k.toNat ∧ (2 : Int) ^ k.toNat ≤ 32 := by
  rcases (by omega : k = 0 ∨ k = 1 ∨ k = 2 ∨ k = 3 ∨ k = 4 ∨ k = 5) with rfl | rfl | rfl | rfl | rfl | rfl <;> decide

structure Spend where
  bank : Int
  epoch : Int
  denom : Int
  depth : Int
  a : Int
  root : Nat → Int
  z : Int
  sa : Int
  sb : Int
  r : Int
  level : Int
  index : Int
  payee : Nat → Int
  time : Int
  number : Int
  nl : Nat
  lf : Nat → Nat → Int
  pidx : Int
  np : Nat
  pf : Nat → Nat → Int

abbrev lvs (n : Nat) (f : Nat → Nat → Int) : AV := .isl 3 n (fun i j => .int .i64 (f i j))
abbrev hss (n : Nat) (f : Nat → Nat → Int) : AV := .isl 32 n (fun i j => .int .u8 (f i j))

def Spend.cw (s : Spend) (x y : AV) : List AV := [.int .i64 s.bank, .int .i64 s.epoch, .int .i64 s.denom, .int .i64 s.depth, .int .i64 s.a, .int .u8 (s.root 0), .int .u8 (s.root 1), .int .u8 (s.root 2), .int .u8 (s.root 3), .int .u8 (s.root 4), .int .u8 (s.root 5), .int .u8 (s.root 6), .int .u8 (s.root 7), .int .u8 (s.root 8), .int .u8 (s.root 9), .int .u8 (s.root 10), .int .u8 (s.root 11), .int .u8 (s.root 12), .int .u8 (s.root 13), .int .u8 (s.root 14), .int .u8 (s.root 15), .int .u8 (s.root 16), .int .u8 (s.root 17), .int .u8 (s.root 18), .int .u8 (s.root 19), .int .u8 (s.root 20), .int .u8 (s.root 21), .int .u8 (s.root 22), .int .u8 (s.root 23), .int .u8 (s.root 24), .int .u8 (s.root 25), .int .u8 (s.root 26), .int .u8 (s.root 27), .int .u8 (s.root 28), .int .u8 (s.root 29), .int .u8 (s.root 30), .int .u8 (s.root 31), .int .i64 s.z, .int .i64 s.sa, .int .i64 s.sb, .int .i64 s.r, .int .i64 s.level, .int .i64 s.index, .int .u8 (s.payee 0), .int .u8 (s.payee 1), .int .u8 (s.payee 2), .int .u8 (s.payee 3), .int .u8 (s.payee 4), .int .u8 (s.payee 5), .int .u8 (s.payee 6), .int .u8 (s.payee 7), .int .u8 (s.payee 8), .int .u8 (s.payee 9), .int .u8 (s.payee 10), .int .u8 (s.payee 11), .int .u8 (s.payee 12), .int .u8 (s.payee 13), .int .u8 (s.payee 14), .int .u8 (s.payee 15), .int .u8 (s.payee 16), .int .u8 (s.payee 17), .int .u8 (s.payee 18), .int .u8 (s.payee 19), .int .u8 (s.payee 20), .int .u8 (s.payee 21), .int .u8 (s.payee 22), .int .u8 (s.payee 23), .int .u8 (s.payee 24), .int .u8 (s.payee 25), .int .u8 (s.payee 26), .int .u8 (s.payee 27), .int .u8 (s.payee 28), .int .u8 (s.payee 29), .int .u8 (s.payee 30), .int .u8 (s.payee 31), .int .i64 s.time, .int .i64 s.number, x, .int .i64 s.pidx, y]
def Spend.cells (s : Spend) : List AV := s.cw (lvs s.nl s.lf) (hss s.np s.pf)
def Spend.av (s : Spend) : AV := .agg s.cells

def okS (s : Spend) : Bool := !(spanE s.depth s.level s.index != 0 || (s.nl : Int) != IntKind.wrap .i64 (spanZ s.depth s.level s.index - spanA s.depth s.level s.index) || decide (s.time < 0) || decide (s.time > 1099511627776) || decide (s.number < 0) || decide (s.number > 1073741824))

def firstI (p : Nat → Bool) : Nat → Nat → Int
  | 0, _ => -1
  | k + 1, i => if p i then i else firstI p k (i + 1)

theorem firstI_step {p : Nat → Bool} {n i : Nat} (h : i < n) : firstI p (n - i) i = if p i then (i : Int) else firstI p (n - (i + 1)) (i + 1) := by
  rw [show n - i = (n - (i + 1)) + 1 by omega]; rfl
theorem firstI_end {p : Nat → Bool} {n i : Nat} (h : n ≤ i) : firstI p (n - i) i = -1 := by
  rw [show n - i = 0 by omega]; rfl
theorem firstI_neg {p : Nat → Bool} : ∀ k i, (decide (firstI p k i ≥ 0)) = (List.range k).any (fun q => p (i + q))
  | 0, i => rfl
  | k + 1, i => by
    have ih := firstI_neg (p := p) k (i + 1)
    have e : (List.range (k + 1)).any (fun q => p (i + q)) = (p i || (List.range k).any (fun q => p (i + 1 + q))) := by
      rw [List.range_succ_eq_map, List.any_cons, List.any_map]
      show (p i || (List.range k).any (fun q => p (i + (q + 1)))) = _
      have : (fun q => p (i + (q + 1))) = (fun q => p (i + 1 + q)) := funext fun q => congrArg p (by omega)
      rw [this]
    rw [e, ← ih]
    by_cases h : p i = true
    · rw [firstI, if_pos h, h]; simp
    · have hf : p i = false := by simpa using h
      rw [firstI, if_neg h, hf]; simp

theorem first_hit {p : Nat → Bool} {A : Int} {n i : Nat} (hx : A = firstI p (n - i) i) (h : i < n) (hp : p i = true) : (i : Int) = A := by rw [hx, firstI_step h, if_pos hp]
theorem first_next {p : Nat → Bool} {A : Int} {n i : Nat} (hx : A = firstI p (n - i) i) (h : i < n) (hp : p i = false) : A = firstI p (n - (i + 1)) (i + 1) := by rw [hx, firstI_step h, if_neg (by simp [hp])]
theorem first_miss {p : Nat → Bool} {A : Int} {n i : Nat} (hx : A = firstI p (n - i) i) (h : n ≤ i) : -1 = A := by rw [hx, firstI_end h]

theorem inc_ent {os : List (Option Ob)} {i : Nat} (h : i < 9223372036854775807) : Ent os (.int .i64 (IntKind.wrap .i64 (Nat.cast i + 1))) (.int .i64 (Nat.cast (i + 1))) := Ent.of_eq (by rw [wI (by omega) (by omega)]; simp)

theorem both {a b : Bool} (h : (!(a && b)) = false) : (a && b) = true := by simpa using congrArg not h

def Spend.zero : Spend := ⟨0, 0, 0, 0, 0, fun _ => 0, 0, 0, 0, 0, 0, 0, fun _ => 0, 0, 0, 0, fun _ _ => 0, 0, 0, fun _ _ => 0⟩

def altE (s : Spend) (k b : Int) : Int := if okS s then (if k < 0 ∨ 11 < k ∨ b < 1 ∨ 1000 < b then 2 else if (k = 10 ∧ s.nl = 1) ∨ (k = 11 ∧ s.np = 0) then 7 else 0) else 1
def x1 (n : Int) : Int := IntKind.wrap .u8 (BitVec.toNat (BitVec.ofInt 8 n ^^^ BitVec.ofInt 8 1))
structure AltOk (s : Spend) (k b : Int) : Prop where
  e : altE s k b = 0
  k0 : 0 ≤ k
  k1 : k ≤ 11
  b0 : 0 ≤ b
  nl : 0 < s.nl
  np : k = 11 → 0 < s.np


abbrev sps (n : Nat) (S : Nat → Spend) : AV := .isl 80 n (fun i j => atL (S i).cells j)
abbrev ils (n : Nat) (f : Nat → Int) : AV := .isl 1 n (fun i _ => .int .i64 (f i))

structure Chn where
  first : Spend
  n : Nat
  l : Nat → Spend

def Chn.cells (h : Chn) : List AV := h.first.cells ++ [sps h.n h.l]
def Chn.av (h : Chn) : AV := .agg h.cells

structure Esc where
  e1 : Int
  e2 : Int
  na : Nat
  a : Nat → Int
  c : Int
  nz : Nat
  z : Nat → Int

def Esc.cw (e : Esc) (x y : AV) : List AV := [.int .i64 e.e1, .int .i64 e.e2, x, .int .i64 e.c, y]
def Esc.cells (e : Esc) : List AV := e.cw (ils e.na e.a) (ils e.nz e.z)
def Esc.av (e : Esc) : AV := .agg e.cells

abbrev chs (n : Nat) (f : Nat → Chn) : AV := .isl 81 n (fun i j => atL (f i).cells j)
abbrev escs (n : Nat) (f : Nat → Esc) : AV := .isl 5 n (fun i j => atL (f i).cells j)

structure Pay where
  number : Int
  ns : Nat
  sp : Nat → Spend
  nc : Nat
  ch : Nat → Chn
  ne : Nat
  es : Nat → Esc

def Pay.cw (p : Pay) (x y z : AV) : List AV := [.int .i64 p.number, x, y, z]
def Pay.cells (p : Pay) : List AV := p.cw (sps p.ns p.sp) (chs p.nc p.ch) (escs p.ne p.es)
def Pay.av (p : Pay) : AV := .agg p.cells

structure Inv where
  payee : Nat → Int
  amount : Int
  time : Int
  number : Int

def u8c (p : Nat → Int) : List AV := [.int .u8 (p 0), .int .u8 (p 1), .int .u8 (p 2), .int .u8 (p 3), .int .u8 (p 4), .int .u8 (p 5), .int .u8 (p 6), .int .u8 (p 7), .int .u8 (p 8), .int .u8 (p 9), .int .u8 (p 10), .int .u8 (p 11), .int .u8 (p 12), .int .u8 (p 13), .int .u8 (p 14), .int .u8 (p 15), .int .u8 (p 16), .int .u8 (p 17), .int .u8 (p 18), .int .u8 (p 19), .int .u8 (p 20), .int .u8 (p 21), .int .u8 (p 22), .int .u8 (p 23), .int .u8 (p 24), .int .u8 (p 25), .int .u8 (p 26), .int .u8 (p 27), .int .u8 (p 28), .int .u8 (p 29), .int .u8 (p 30), .int .u8 (p 31)]
def Inv.cells (v : Inv) : List AV := u8c v.payee ++ [.int .i64 v.amount, .int .i64 v.time, .int .i64 v.number]
def Inv.av (v : Inv) : AV := .agg v.cells
def Inv.zero : Inv := ⟨fun _ => 0, 0, 0, 0⟩
def anyI (p : Nat → Bool) (n : Nat) : Bool := decide (firstI p n 0 ≥ 0)
def Pay.zero : Pay := ⟨0, 0, fun _ => .zero, 0, fun _ => ⟨.zero, 0, fun _ => .zero⟩, 0, fun _ => ⟨0, 0, 0, fun _ => 0, 0, 0, fun _ => 0⟩⟩
structure LightP (p : Pay) : Prop where
  ns : p.ns ≤ 8
  nc : p.nc ≤ 8
  ne : p.ne ≤ 20
  sp : ∀ i, i < p.ns → (p.sp i).nl ≤ 1000 ∧ (p.sp i).np ≤ 1000
  cn : ∀ i, i < p.nc → (p.ch i).n ≤ 10
  cf : ∀ i, i < p.nc → (p.ch i).first.nl ≤ 1000 ∧ (p.ch i).first.np ≤ 1000
  cl : ∀ i j, i < p.nc → j < (p.ch i).n → ((p.ch i).l j).nl ≤ 1000 ∧ ((p.ch i).l j).np ≤ 1000
  es : ∀ i, i < p.ne → (p.es i).na ≤ 1000 ∧ (p.es i).nz ≤ 1000

theorem anyI_f {p : Nat → Bool} {n : Nat} (h : anyI p n = false) : ∀ i, i < n → p i = false := by
  intro i hi
  unfold anyI at h
  rw [firstI_neg] at h
  have := List.any_eq_false.1 h i (List.mem_range.2 hi)
  simpa using this

theorem EntL.app {os : List (Option Ob)} : ∀ {l l' m m' : List AV}, EntL os l l' → EntL os m m' → EntL os (l ++ m) (l' ++ m')
  | [], [], _, _, _, h => h
  | _ :: _, _ :: _, _, _, h, h' => ⟨h.1, EntL.app h.2 h'⟩
  | [], _ :: _, _, _, h, _ => h.elim
  | _ :: _, [], _, _, h, _ => h.elim
end Go.Sp

namespace Go.Proofs.Ytbmdmoknnlhdoaa
open Go Go.Am Go.Sp
set_option maxRecDepth 100000

theorem indexS_w (F : FuncId) (f : Nat → Sup) (n : Nat) (p : Nat → Bool) (hn : n < 9223372036854775808) (hc : ∀ i, i < n → Pure Try.prog gl0 F [.agg (f i).cells] (.bool (p i))) : Pure Try.prog gl0 39 [supA n f, .fn (.func F) [] []] (.int .i64 (firstI p n 0)) := by
  refine pure_sk (own := ow0) Try.func39 (by kernel_rfl) mixed (by kernel_rfl)
    (.loop ({ x : Nat // x ≤ n ∧ (fun (i : Nat) => firstI p n (0 : Nat) = firstI p (n - i) i) x }) (fun (x : { x : Nat // x ≤ n ∧ (fun (i : Nat) => firstI p n (0 : Nat) = firstI p (n - i) i) x }) => mkSt [0, 1, 7, 8] [AV.isl (7) n fun (i j : Nat) => atL (Sup.cells (f i)) j, AV.fn (Fn.func F) [] [], Zi (↑n : Int), Zi (↑(x.1) : Int)] []) (fun (x : { x : Nat // x ≤ n ∧ (fun (i : Nat) => firstI p n (0 : Nat) = firstI p (n - i) i) x }) => n - x.1) (⟨(0 : Nat), ⟨Nat.zero_le n, rfl⟩⟩) ([0, 1, 7, 8]) ([]) ([AV.isl (7) n fun (i j : Nat) => atL (Sup.cells (f i)) j, AV.fn (Fn.func F) [] [], Zi (↑n : Int), Zi 0]) ([]) (fun x0 => (.br (decide ((↑x0.1 : Int) < (↑n : Int))) (.req ((0 : Int) ≤ (↑x0.1 : Int) ∧ (↑x0.1 : Int) < (↑n : Int)) (.sc (true) F ([AV.agg (Sup.cells (f (Int.toNat (↑(x0.1) : Int))))]) (AV.bool (p (Int.toNat (↑(x0.1) : Int)))) (.br (p (Int.toNat (↑x0.1 : Int))) (.out (Zi (↑x0.1 : Int)) [] (Zi (firstI p n (0 : Nat))) []) (.again (Again (0) (fun (x : { x : Nat // x ≤ n ∧ (fun (i : Nat) => firstI p n (0 : Nat) = firstI p (n - i) i) x }) => mkSt [0, 1, 7, 8] [AV.isl (7) n fun (i j : Nat) => atL (Sup.cells (f i)) j, AV.fn (Fn.func F) [] [], Zi (↑n : Int), Zi (↑(x.1) : Int)] []) (fun (x : { x : Nat // x ≤ n ∧ (fun (i : Nat) => firstI p n (0 : Nat) = firstI p (n - i) i) x }) => n - x.1) x0) ([0, 1, 7, 8]) ([]) ([AV.isl (7) n fun (i j : Nat) => atL (Sup.cells (f i)) j, AV.fn (Fn.func F) [] [], Zi (↑n : Int), Zi (IntKind.wrap IntKind.i64 ((↑x0.1 : Int) + (1 : Int)))]) ([]))))) (.out (Zi (-1)) [] (Zi (firstI p n (0 : Nat))) []))))
    (by kernel_rfl) ?_
  refine k_loop (fun _ hs => hs.le (by repeat' (first | exact trivial | (first | exact Ent.refl _ | exact inc_ent (by omega) | exact Ent.nil rfl | exact Ent.of_eq (congrArg (AV.osl _ _ _) (by first | omega | (dsimp only; omega))) | exact Ent.of_eq (congrArg (AV.int _) (by first | omega | (dsimp only; omega)))) | refine And.intro ?_ ?_)) (trivial)) (fun x0 => ?_)
  try (have q0 := x0.2; dsimp only at q0)
  refine k_br (fun h1 => ?_) (fun h1 => ?_)
  · have g1 := cnd_dec_t h1
    refine k_req (by first | omega | (simp only [Int.toNat_natCast]; omega)) ?_
    refine k_sc (hc (Int.toNat (↑(x0.1) : Int)) (by first | assumption | omega)) ?_
    refine k_br (fun h4 => ?_) (fun h4 => ?_)
    · have g4 := cnd_id_t h4
      try simp only [Int.toNat_natCast] at g4
      exact k_out (Ent.of_eq (congrArg _ (first_hit x0.2.2 (by omega) g4)))
    · have g4 := cnd_id_f h4
      try simp only [Int.toNat_natCast] at g4
      exact k_again (⟨x0.1 + 1, by omega, first_next x0.2.2 (by omega) g4⟩) (fun _ hs => hs.le (by repeat' (first | exact trivial | (first | exact Ent.refl _ | exact inc_ent (by omega) | exact Ent.nil rfl | exact Ent.of_eq (congrArg (AV.osl _ _ _) (by first | omega | (dsimp only; omega))) | exact Ent.of_eq (congrArg (AV.int _) (by first | omega | (dsimp only; omega)))) | refine And.intro ?_ ?_)) (trivial)) (by first | omega | (dsimp only; omega) | (simp; omega))
  · have g1 := cnd_dec_f h1
    exact k_out (Ent.of_eq (congrArg _ (first_miss x0.2.2 (by omega))))
theorem containsS_w (F : FuncId) (f : Nat → Sup) (n : Nat) (p : Nat → Bool) (hn : n < 9223372036854775808) (hc : ∀ i, i < n → Pure Try.prog gl0 F [.agg (f i).cells] (.bool (p i))) : Pure Try.prog gl0 23 [supA n f, .fn (.func F) [] []] (.bool (anyI p n)) := by
  have c1 := indexS_w F f n p hn hc
  refine pure_sk (own := ow0) Try.func23 (by kernel_rfl) mixed (by kernel_rfl)
    (.sc (true) 39 ([AV.isl (7) n fun (i j : Nat) => atL (Sup.cells (f i)) j, AV.fn (Fn.func F) [] []]) (Zi (firstI p n (0 : Nat))) (.out (AV.bool (decide (firstI p n (0) ≥ (0 : Int)))) [] (AV.bool (anyI p n)) []))
    (by kernel_rfl) ?_
  refine k_sc (c1) ?_
  exact k_out (Ent.refl _)
theorem not1_c (s : Sup) : Pure Try.prog gl0 24 [.agg s.cells] (.bool (!validS s)) := by
  refine pure_sk (own := ow0) Try.func24 (by kernel_rfl) mixed (by kernel_rfl)
    (.sc (true) 15 ([AV.agg (Sup.cells s)]) (AV.bool (validS s)) (.out (AV.bool !validS s) [] (AV.bool !validS s) []))
    (by kernel_rfl) ?_
  refine k_sc (valid_c (s)) ?_
  exact k_out (Ent.of_eq (by first | rfl | simp_all))
theorem not2_c (s : Sup) : Pure Try.prog gl0 32 [.agg s.cells] (.bool (!validS s)) := by
  refine pure_sk (own := ow0) Try.func32 (by kernel_rfl) mixed (by kernel_rfl)
    (.sc (true) 15 ([AV.agg (Sup.cells s)]) (AV.bool (validS s)) (.out (AV.bool !validS s) [] (AV.bool !validS s) []))
    (by kernel_rfl) ?_
  refine k_sc (valid_c (s)) ?_
  exact k_out (Ent.of_eq (by first | rfl | simp_all))
theorem rsame_c (n m : Nat) (f g : Nat → Sup) (hn : n < 9223372036854775807) : Pure Try.prog gl0 7 [supA n f, supA m g] (.bool (sameL n m f g)) := by
  refine pure_sk (own := ow0) Try.func7 (by kernel_rfl) mixed (by kernel_rfl)
    (.br ((↑n : Int) != (↑m : Int)) (.out (AV.bool false) [] (AV.bool (sameL n m f g)) []) (.loop ({ x : Nat // x ≤ n ∧ (fun (x : Nat) => ∀ (j : Nat), j < x → eqS (f j) (g j) = true) x }) (fun (x : { x : Nat // x ≤ n ∧ (fun (x : Nat) => ∀ (j : Nat), j < x → eqS (f j) (g j) = true) x }) => mkSt [0, 1, 5] [AV.isl (7) n fun (i j : Nat) => atL (Sup.cells (f i)) j, AV.isl (7) m fun (i j : Nat) => atL (Sup.cells (g i)) j, Zi (↑(x.1) : Int)] []) (fun (x : { x : Nat // x ≤ n ∧ (fun (x : Nat) => ∀ (j : Nat), j < x → eqS (f j) (g j) = true) x }) => n - x.1) (⟨(0 : Nat), ⟨Nat.zero_le n, fun (j : Nat) (hj : j < (0 : Nat)) => absurd hj (Nat.not_lt_zero j)⟩⟩) ([0, 1, 5]) ([]) ([AV.isl (7) n fun (i j : Nat) => atL (Sup.cells (f i)) j, AV.isl (7) m fun (i j : Nat) => atL (Sup.cells (g i)) j, Zi 0]) ([]) (fun x2 => (.br (decide ((↑x2.1 : Int) < (↑n : Int))) (.req ((0 : Int) ≤ (↑x2.1 : Int) ∧ (↑x2.1 : Int) < (↑n : Int)) (.req ((0 : Int) ≤ (↑x2.1 : Int) ∧ (↑x2.1 : Int) < (↑m : Int)) (.br (!((f (Int.toNat (↑(x2.1) : Int))).1 == (g (Int.toNat (↑(x2.1) : Int))).1 && ((f (Int.toNat (↑(x2.1) : Int))).2 == (g (Int.toNat (↑(x2.1) : Int))).2 && ((f (Int.toNat (↑(x2.1) : Int))).3 == (g (Int.toNat (↑(x2.1) : Int))).3 && ((f (Int.toNat (↑(x2.1) : Int))).4 == (g (Int.toNat (↑(x2.1) : Int))).4 && ((f (Int.toNat (↑(x2.1) : Int))).5 == (g (Int.toNat (↑(x2.1) : Int))).5 && ((f (Int.toNat (↑(x2.1) : Int))).6 == (g (Int.toNat (↑(x2.1) : Int))).6 && ((f (Int.toNat (↑(x2.1) : Int))).7 == (g (Int.toNat (↑(x2.1) : Int))).7 && true)))))))) (.out (AV.bool false) [] (AV.bool (sameL n m f g)) []) (.again (Again (0) (fun (x : { x : Nat // x ≤ n ∧ (fun (x : Nat) => ∀ (j : Nat), j < x → eqS (f j) (g j) = true) x }) => mkSt [0, 1, 5] [AV.isl (7) n fun (i j : Nat) => atL (Sup.cells (f i)) j, AV.isl (7) m fun (i j : Nat) => atL (Sup.cells (g i)) j, Zi (↑(x.1) : Int)] []) (fun (x : { x : Nat // x ≤ n ∧ (fun (x : Nat) => ∀ (j : Nat), j < x → eqS (f j) (g j) = true) x }) => n - x.1) x2) ([0, 1, 5]) ([]) ([AV.isl (7) n fun (i j : Nat) => atL (Sup.cells (f i)) j, AV.isl (7) m fun (i j : Nat) => atL (Sup.cells (g i)) j, Zi (IntKind.wrap IntKind.i64 ((↑x2.1 : Int) + (1 : Int)))]) ([]))))) (.out (AV.bool true) [] (AV.bool (sameL n m f g)) [])))))
    (by kernel_rfl) ?_
  refine k_br (fun h0 => ?_) (fun h0 => ?_)
  · have g0 := cnd_bne_t h0
    exact k_out (Ent.of_eq (congrArg AV.bool (same_len g0).symm))
  · have g0 := cnd_bne_f h0
    refine k_loop (fun _ hs => hs.le (by repeat' (first | exact trivial | (first | exact Ent.refl _ | exact inc_ent (by omega) | exact Ent.nil rfl | exact Ent.of_eq (congrArg (AV.osl _ _ _) (by first | omega | (dsimp only; omega))) | exact Ent.of_eq (congrArg (AV.int _) (by first | omega | (dsimp only; omega)))) | refine And.intro ?_ ?_)) (trivial)) (fun x2 => ?_)
    try (have q2 := x2.2; dsimp only at q2)
    refine k_br (fun h3 => ?_) (fun h3 => ?_)
    · have g3 := cnd_dec_t h3
      refine k_req (by first | omega | (simp only [Int.toNat_natCast]; omega)) ?_
      refine k_req (by first | omega | (simp only [Int.toNat_natCast]; omega)) ?_
      refine k_br (fun h6 => ?_) (fun h6 => ?_)
      · have g6 := (cnd_not_t (cnd_and_f cnd_beq_f (cnd_and_f cnd_beq_f (cnd_and_f cnd_beq_f (cnd_and_f cnd_beq_f (cnd_and_f cnd_beq_f (cnd_and_f cnd_beq_f (cnd_and_f cnd_beq_f cnd_id_f)))))))) h6
        try simp only [Int.toNat_natCast] at g6
        exact k_out (Ent.of_eq (congrArg AV.bool (same_no (i := x2.1) (by omega) (by simp only [Int.toNat_natCast] at h6; exact (show eqS (f x2.1) (g x2.1) = false from by simpa only [eqS, Bool.not_eq_true'] using h6))).symm))
      · have g6 := (cnd_not_f (cnd_and_t cnd_beq_t (cnd_and_t cnd_beq_t (cnd_and_t cnd_beq_t (cnd_and_t cnd_beq_t (cnd_and_t cnd_beq_t (cnd_and_t cnd_beq_t (cnd_and_t cnd_beq_t cnd_id_t)))))))) h6
        try simp only [Int.toNat_natCast] at g6
        exact k_again (⟨x2.1 + 1, by omega, fun j hj => by rcases Nat.lt_succ_iff_lt_or_eq.1 hj with hj | hj; (· exact q2.2 j hj); (· rw [hj]; simp only [Int.toNat_natCast] at h6; exact (show eqS (f x2.1) (g x2.1) = true from by simpa only [eqS, Bool.not_eq_false'] using h6))⟩) (fun _ hs => hs.le (by repeat' (first | exact trivial | (first | exact Ent.refl _ | exact inc_ent (by omega) | exact Ent.nil rfl | exact Ent.of_eq (congrArg (AV.osl _ _ _) (by first | omega | (dsimp only; omega))) | exact Ent.of_eq (congrArg (AV.int _) (by first | omega | (dsimp only; omega)))) | refine And.intro ?_ ?_)) (trivial)) (by first | omega | (dsimp only; omega) | (simp; omega))
    · have g3 := cnd_dec_f h3
      exact k_out (Ent.of_eq (congrArg AV.bool (same_yes (by omega) (fun j hj => q2.2 j (by omega))).symm))
theorem rlist_c (n : Nat) (f : Nat → Sup) (hn : n < 9223372036854775807) : Pure Try.prog gl0 27 [supA n f] (.bool (listB n f)) := by
  refine pure_sk (own := ow0) Try.func27 (by kernel_rfl) mixed (by kernel_rfl)
    (.br (decide ((↑n : Int) > (1000 : Int))) (.out (AV.bool false) [] (AV.bool (listB n f)) []) (.loop ({ x : Nat // x ≤ n ∧ (fun (x : Nat) => ∀ (i : Nat), i < x → validS (f i) = true ∧ ∀ (k : Nat), k < i → keyB (f i) (f k) = false) x }) (fun (x : { x : Nat // x ≤ n ∧ (fun (x : Nat) => ∀ (i : Nat), i < x → validS (f i) = true ∧ ∀ (k : Nat), k < i → keyB (f i) (f k) = false) x }) => mkSt [0, 3] [AV.isl (7) n fun (i j : Nat) => atL (Sup.cells (f i)) j, Zi (↑(x.1) : Int)] []) (fun (x : { x : Nat // x ≤ n ∧ (fun (x : Nat) => ∀ (i : Nat), i < x → validS (f i) = true ∧ ∀ (k : Nat), k < i → keyB (f i) (f k) = false) x }) => n - x.1) (⟨(0 : Nat), ⟨Nat.zero_le n, fun (j : Nat) (hj : j < (0 : Nat)) => absurd hj (Nat.not_lt_zero j)⟩⟩) ([0, 3]) ([]) ([AV.isl (7) n fun (i j : Nat) => atL (Sup.cells (f i)) j, Zi 0]) ([]) (fun x2 => (.br (decide ((↑x2.1 : Int) < (↑n : Int))) (.req ((0 : Int) ≤ (↑x2.1 : Int) ∧ (↑x2.1 : Int) < (↑n : Int)) (.sc (true) 11 ([AV.agg (Sup.cells (f (Int.toNat (↑(x2.1) : Int))))]) (AV.bool (validS (f (Int.toNat (↑(x2.1) : Int))))) (.br (!validS (f (Int.toNat (↑x2.1 : Int)))) (.out (AV.bool false) [] (AV.bool (listB n f)) []) (.loop ({ x : Nat // x ≤ x2.1 ∧ (fun (y : Nat) => ∀ (k : Nat), k < y → keyB (f (x2.1)) (f k) = false) x }) (fun (x : { x : Nat // x ≤ x2.1 ∧ (fun (y : Nat) => ∀ (k : Nat), k < y → keyB (f (x2.1)) (f k) = false) x }) => mkSt [0, 3, 4] [AV.isl (7) n fun (i j : Nat) => atL (Sup.cells (f i)) j, Zi (↑x2.1 : Int), Zi (↑(x.1) : Int)] []) (fun (x : { x : Nat // x ≤ x2.1 ∧ (fun (y : Nat) => ∀ (k : Nat), k < y → keyB (f (x2.1)) (f k) = false) x }) => x2.1 - x.1) (⟨(0 : Nat), ⟨Nat.zero_le (x2.1), fun (j : Nat) (hj : j < (0 : Nat)) => absurd hj (Nat.not_lt_zero j)⟩⟩) ([0, 3, 4]) ([]) ([AV.isl (7) n fun (i j : Nat) => atL (Sup.cells (f i)) j, Zi (↑x2.1 : Int), Zi 0]) ([]) (fun x8 => (.br (decide ((↑x8.1 : Int) < (↑x2.1 : Int))) (.req ((0 : Int) ≤ (↑x2.1 : Int) ∧ (↑x2.1 : Int) < (↑n : Int)) (.req ((0 : Int) ≤ (↑x8.1 : Int) ∧ (↑x8.1 : Int) < (↑n : Int)) (.sc (true) 29 ([AV.agg (Sup.cells (f (Int.toNat (↑x2.1 : Int)))), AV.agg (Sup.cells (f (Int.toNat (↑(x8.1) : Int))))]) (AV.bool (keyB (f (Int.toNat (↑x2.1 : Int))) (f (Int.toNat (↑(x8.1) : Int))))) (.br (keyB (f (Int.toNat (↑x2.1 : Int))) (f (Int.toNat (↑x8.1 : Int)))) (.out (AV.bool false) [] (AV.bool (listB n f)) []) (.again (Again (0) (fun (x : { x : Nat // x ≤ x2.1 ∧ (fun (y : Nat) => ∀ (k : Nat), k < y → keyB (f (x2.1)) (f k) = false) x }) => mkSt [0, 3, 4] [AV.isl (7) n fun (i j : Nat) => atL (Sup.cells (f i)) j, Zi (↑x2.1 : Int), Zi (↑(x.1) : Int)] []) (fun (x : { x : Nat // x ≤ x2.1 ∧ (fun (y : Nat) => ∀ (k : Nat), k < y → keyB (f (x2.1)) (f k) = false) x }) => x2.1 - x.1) x8) ([0, 3, 4]) ([]) ([AV.isl (7) n fun (i j : Nat) => atL (Sup.cells (f i)) j, Zi (↑x2.1 : Int), Zi (IntKind.wrap IntKind.i64 ((↑x8.1 : Int) + (1 : Int)))]) ([])))))) (.again (Again (0) (fun (x : { x : Nat // x ≤ n ∧ (fun (x : Nat) => ∀ (i : Nat), i < x → validS (f i) = true ∧ ∀ (k : Nat), k < i → keyB (f i) (f k) = false) x }) => mkSt [0, 3] [AV.isl (7) n fun (i j : Nat) => atL (Sup.cells (f i)) j, Zi (↑(x.1) : Int)] []) (fun (x : { x : Nat // x ≤ n ∧ (fun (x : Nat) => ∀ (i : Nat), i < x → validS (f i) = true ∧ ∀ (k : Nat), k < i → keyB (f i) (f k) = false) x }) => n - x.1) x2) ([0, 3]) ([]) ([AV.isl (7) n fun (i j : Nat) => atL (Sup.cells (f i)) j, Zi (IntKind.wrap IntKind.i64 ((↑x2.1 : Int) + (1 : Int)))]) ([])))))))) (.out (AV.bool true) [] (AV.bool (listB n f)) [])))))
    (by kernel_rfl) ?_
  refine k_br (fun h0 => ?_) (fun h0 => ?_)
  · have g0 := cnd_dec_t h0
    exact k_out (Ent.of_eq (congrArg AV.bool (list_long g0).symm))
  · have g0 := cnd_dec_f h0
    refine k_loop (fun _ hs => hs.le (by repeat' (first | exact trivial | (first | exact Ent.refl _ | exact inc_ent (by omega) | exact Ent.nil rfl | exact Ent.of_eq (congrArg (AV.osl _ _ _) (by first | omega | (dsimp only; omega))) | exact Ent.of_eq (congrArg (AV.int _) (by first | omega | (dsimp only; omega)))) | refine And.intro ?_ ?_)) (trivial)) (fun x2 => ?_)
    try (have q2 := x2.2; dsimp only at q2)
    refine k_br (fun h3 => ?_) (fun h3 => ?_)
    · have g3 := cnd_dec_t h3
      refine k_req (by first | omega | (simp only [Int.toNat_natCast]; omega)) ?_
      refine k_sc (rvalid_c (f (Int.toNat (↑(x2.1) : Int)))) ?_
      refine k_br (fun h6 => ?_) (fun h6 => ?_)
      · have g6 := (cnd_not_t cnd_id_f) h6
        try simp only [Int.toNat_natCast] at g6
        exact k_out (Ent.of_eq (congrArg AV.bool (list_inv (i := x2.1) (by omega) g6).symm))
      · have g6 := (cnd_not_f cnd_id_t) h6
        try simp only [Int.toNat_natCast] at g6
        refine k_loop (fun _ hs => hs.le (by repeat' (first | exact trivial | (first | exact Ent.refl _ | exact inc_ent (by omega) | exact Ent.nil rfl | exact Ent.of_eq (congrArg (AV.osl _ _ _) (by first | omega | (dsimp only; omega))) | exact Ent.of_eq (congrArg (AV.int _) (by first | omega | (dsimp only; omega)))) | refine And.intro ?_ ?_)) (trivial)) (fun x8 => ?_)
        try (have q8 := x8.2; dsimp only at q8)
        refine k_br (fun h9 => ?_) (fun h9 => ?_)
        · have g9 := cnd_dec_t h9
          refine k_req (by first | omega | (simp only [Int.toNat_natCast]; omega)) ?_
          refine k_req (by first | omega | (simp only [Int.toNat_natCast]; omega)) ?_
          refine k_sc (same_c (f (Int.toNat (↑x2.1 : Int))) (f (Int.toNat (↑(x8.1) : Int)))) ?_
          refine k_br (fun h13 => ?_) (fun h13 => ?_)
          · have g13 := cnd_id_t h13
            try simp only [Int.toNat_natCast] at g13
            exact k_out (Ent.of_eq (congrArg AV.bool (list_two (i := x2.1) (k := x8.1) (by omega) (by omega) g13).symm))
          · have g13 := cnd_id_f h13
            try simp only [Int.toNat_natCast] at g13
            exact k_again (⟨x8.1 + 1, by omega, fun k hk => by rcases Nat.lt_succ_iff_lt_or_eq.1 hk with hk | hk; (· exact q8.2 k hk); (· rw [hk]; exact g13)⟩) (fun _ hs => hs.le (by repeat' (first | exact trivial | (first | exact Ent.refl _ | exact inc_ent (by omega) | exact Ent.nil rfl | exact Ent.of_eq (congrArg (AV.osl _ _ _) (by first | omega | (dsimp only; omega))) | exact Ent.of_eq (congrArg (AV.int _) (by first | omega | (dsimp only; omega)))) | refine And.intro ?_ ?_)) (trivial)) (by first | omega | (dsimp only; omega) | (simp; omega))
        · have g9 := cnd_dec_f h9
          exact k_again (⟨x2.1 + 1, by omega, fun i hi => by rcases Nat.lt_succ_iff_lt_or_eq.1 hi with hi | hi; (· exact q2.2 i hi); (· rw [hi]; exact ⟨g6, fun k hk => q8.2 k (by omega)⟩)⟩) (fun _ hs => hs.le (by repeat' (first | exact trivial | (first | exact Ent.refl _ | exact inc_ent (by omega) | exact Ent.nil rfl | exact Ent.of_eq (congrArg (AV.osl _ _ _) (by first | omega | (dsimp only; omega))) | exact Ent.of_eq (congrArg (AV.int _) (by first | omega | (dsimp only; omega)))) | refine And.intro ?_ ?_)) (trivial)) (by first | omega | (dsimp only; omega) | (simp; omega))
    · have g3 := cnd_dec_f h3
      exact k_out (Ent.of_eq (congrArg AV.bool (list_ok (by omega) (fun i hi => q2.2 i (by omega))).symm))

end Go.Proofs.Ytbmdmoknnlhdoaa
