/- Part of the proof: EnWalk, EnUse, EnLaw, EnOpen, EnRow, EnGlob, EnLib, Cns, Cns2, Cns3, Cns4, Cns5, Bst, SpMath, Cns6, EnArg, Cns7. -/
import Derived.Test.YtbmdmoknnlhdoaaGreatDoorM2
import Derived.Deep.LoopGhost
import Derived.LoopN
import Derived.KernelRfl
import Derived.ProofKit
import Derived.Deep.Slices
import Derived.OpenShut
import Derived.FnData
import Derived.MakeChecks
import Derived.Lib.LaidTab
import Derived.Lib.ItoaMem
import Derived.Lib.AtoiAllCases
import Derived.Lib.SplitLaws
import Derived.Lib.Replace
import Derived.Lib.Fields
import Derived.Lib.Join
namespace Go.Am
open Go.RowKit

def ASt.toR (s : ASt) : RSt := ⟨s.fr, fun _ => none, fun _ => none, s.H, fun _ => none⟩
def RSt.toA (r : RSt) (c : Nat) : ASt :=
  ⟨fun n => match r.tg n with | none => r.fr n | some _ => .junk, fun id => match r.ht id with | none => r.H id | some _ => none, c⟩

theorem Sim.toR {K : Ctx} {β : Book} {s : ASt} {a : Act} {w : World} (h : Sim K β s a w) (ops : Array Oper) : RSim K ops s.c (fun _ => True) β s.toR a w :=
  ⟨⟨fun id o ho _ => h.heap id o ho, fun id o ho hg => by simp [ASt.toR, RSt.G] at hg, h.inj, fun id hid => h.fresh id (by omega), fun i k _ _ => h.fresh _ (by omega), h.live, h.giv, h.bF, h.hF, h.kept, h.hB, h.glob⟩,
   ⟨fun n => ⟨fun _ => h.slot n, fun hg => by simp [ASt.toR, RSt.G] at hg⟩, h.size, h.defers, fun j g b hj => by simp [ASt.toR] at hj, fun j o k b hj => absurd rfl hj, fun n j b hn => by simp [ASt.toR] at hn, fun n j b hn => by simp [ASt.toR] at hn, fun _ _ => rfl⟩⟩

theorem RSim.toA {K : Ctx} {ops : Array Oper} {c : Nat} {E : Nat → Prop} {β : Book} {r : RSt} {a : Act} {w : World} (h : RSim K ops c E β r a w) : Sim K β (r.toA (c + 8 * ops.size)) a w := by
  refine ⟨fun n => ?_, h.f.size, h.f.defers, fun id o ho => ?_, h.h.inj, h.h.fresh, h.h.live, h.h.giv, h.h.bF, h.h.hF, h.h.kept, h.h.hB, h.h.glob⟩
  · cases ht : r.tg n with
    | none => simp only [RSt.toA, ht]; exact (h.f.slot n).1 (by rw [ht]; rfl)
    | some x => simp only [RSt.toA, ht]; exact .junk
  · cases ht : r.ht id with
    | none => simp only [RSt.toA, ht] at ho; exact h.h.heap id o ho (by show r.G (r.ht id) = true; rw [ht]; rfl)
    | some x => simp only [RSt.toA, ht] at ho; cases ho

def dstsOk (ops : Array Oper) : Bool :=
  (List.range ops.size).all fun j => match ops[j]? with
    | some oj => match oj.dst with
      | some d => (List.range j).all fun i => match ops[i]? with
        | some oi => (match oi.dst with | some e => !Nat.beq d e | none => true)
        | none => true
      | none => true
    | none => true

theorem dstsOk_spec {ops : Array Oper} (h : dstsOk ops = true) : ∀ (i j : Nat) (oi oj : Oper) (d : Tmp), ops[i]? = some oi → ops[j]? = some oj → oi.dst = some d → oj.dst = some d → i = j := by
  have key : ∀ (i j : Nat) (oi oj : Oper) (d : Tmp), i < j → ops[i]? = some oi → ops[j]? = some oj → oi.dst = some d → oj.dst = some d → False := by
    intro i j oi oj d hij hi hj hdi hdj
    have hlt : j < ops.size := (Array.getElem?_eq_some_iff.1 hj).1
    have h1 := List.all_eq_true.1 h j (List.mem_range.2 hlt)
    simp only [hj, hdj] at h1
    have h2 := List.all_eq_true.1 h1 i (List.mem_range.2 hij)
    simp [hi, hdi] at h2
  intro i j oi oj d hi hj hdi hdj
  rcases Nat.lt_trichotomy i j with h' | h' | h'
  · exact (key i j oi oj d h' hi hj hdi hdj).elim
  · exact h'
  · exact (key j i oj oi d h' hj hi hdj hdi).elim


theorem region_core {K : Ctx} {C : Cfg} {ops : Array Oper} {draw : Bool} {s : ASt} {β : Book} {a : Act} {w : World} {k : RSt → Tree} {le : ASt → ASt → Prop} {Q : Exit → Act → World → Prop} (hP : C.P = K.P) (hgl : C.gl = K.gl) (hnt : C.nt = K.nt)
    (hd : dstsOk ops = true) (h : (rtree C ops draw s.c ops.toList 0 s.toR [] k).wp C.P C.gl le) (hs : Sim K β s a w)
    (hQ : ∀ β r a w, RSim K ops s.c (fun j => ops.size ≤ j) β r a w → (k r).wp C.P C.gl le → Q .normal a w) :
    (draw = false → wpOps K.P ops Q (List.range ops.size) a w) ∧ (draw = true → wpAny K.P .any ops Q ops.size (Array.replicate ops.size false) a { w with drawn := w.drawn + 1 }) := by
  have hlex := rtree_lex _ _ _ _ h
  have hone : OneDst ops := dstsOk_spec hd
  cases draw with
  | false =>
    refine ⟨fun _ => ?_, fun h => by cases h⟩
    have := lex_ok hP hgl hnt hone (Q := Q) (fun β r acc a w hr hX => hQ β r a w hr hX.2) ops.toList 0 s.toR [] β a w (by simp) (by simp) hlex ((hs.toR ops).fewer fun _ _ => trivial)
    simpa [List.range_eq_range'] using this
  | true =>
    refine ⟨fun h => (by cases h), fun _ => ?_⟩
    obtain ⟨es, fs, h1, h2, h3⟩ := lex_states ops.toList 0 s.toR [] (by simp) hlex
    have hr : ∀ n, List.range' 0 n = List.range n := fun n => List.range_eq_range'.symm
    have hdo : drawOk ops ((List.range ops.size).map fun j => (fs j, es j)) = true := by
      have := h2 rfl
      simpa [hr] using this
    have D : Drawn K C ops s.c es fs s.toR Q := ⟨hP, hgl, hnt, fun j oj hj => (drawOk_spec hdo hj).1, fun i j oi oj hij hi hj => (drawOk_spec hdo hj).2 i oi hij hi,
      fun j o ho => by
        have := h1 j o (by simpa using (Array.getElem?_eq_some_iff.1 ho).1) (by simpa using ho)
        simpa [hr] using this, hone, fun β a w hsim => hQ β _ a w (by simpa [hr] using hsim) (by simpa [hr] using h3)⟩
    have hs0 : Sim K β s a { w with drawn := w.drawn + 1 } := by
      have hk : Keeps β w β { w with drawn := w.drawn + 1 } := ⟨fun _ o h => ⟨o, h, o.later_refl⟩, fun _ _ _ => rfl, fun _ _ h => h, fun _ _ _ h => h⟩
      exact ⟨fun n => (hs.slot n).keep hk, hs.size, hs.defers, fun id o ho => (hs.heap id o ho).imp (fun ⟨b, h1, h2⟩ => ⟨b, h1, h2.keep hk rfl⟩) (fun h => h), hs.inj, hs.fresh, hs.live, hs.giv, hs.bF, hs.hF,
        ⟨hs.kept.os, hs.kept.tape, hs.kept.output, hs.kept.size, hs.kept.block, hs.kept.shape, hs.kept.othr⟩, hs.hB, fun g m h hgl => (hs.glob g m h hgl).keep hk⟩
    have hl0 : ∀ j, lst (Array.replicate ops.size false) j = false := by
      intro j
      simp only [lst, Array.getD_eq_getD_getElem?]
      by_cases hj : j < ops.size <;> simp [hj]
    have hf : (List.range ops.size).filter (lst (Array.replicate ops.size false)) = [] := List.filter_eq_nil_iff.2 (fun j _ => by rw [hl0]; simp)
    refine any_ok D ops.size _ β a _ (by simp) (by rw [hf]; simp) (fun i j hi => ?_) ?_
    · have := hl0 i
      unfold lst at this
      unfold Li at hi
      rw [this] at hi
      cases hi
    · rw [hf]
      exact (hs0.toR ops).fewer fun _ _ => trivial

theorem region_ok {K : Ctx} {C : Cfg} {ops : Array Oper} {id : Nat} {draw : Bool} {s : ASt} {β : Book} {a : Act} {w : World} {k : RSt → Tree} {le : ASt → ASt → Prop} {Q : Exit → Act → World → Prop} (hP : C.P = K.P) (hgl : C.gl = K.gl) (hnt : C.nt = K.nt)
    (hm : K.P.follows .mixedOrders = true) (hd : dstsOk ops = true) (h : (rtree C ops draw s.c ops.toList 0 s.toR [] k).wp C.P C.gl le) (hs : Sim K β s a w)
    (hQ : ∀ β r a w, RSim K ops s.c (fun j => ops.size ≤ j) β r a w → (k r).wp C.P C.gl le → Q .normal a w) : (Code.region id ops draw).wp K.P Q a w := by
  obtain ⟨h1, h2⟩ := region_core hP hgl hnt hd h hs hQ
  cases draw with
  | false => exact wp_region (h1 rfl)
  | true => exact wp_region_any hm (h2 rfl)

def Le (ng : Nat) (s t : ASt) : Prop := ∀ K β a w, (∀ id, ng ≤ id → K.b0 id = none) → Sim K β s a w → ∃ β', Sim K β' t a w

def hasUpd (ops : Array Oper) : Bool := ops.toList.any fun o => match o.op with | .mapUpdate .. => true | _ => false

def unr (body : (ASt → Tree) → ASt → Tree) : List Bool → ASt → Tree
  | [], _ => .bad "rounds"
  | _ :: l, s => body (unr body l) s

def hasLoop : Code → Bool
  | .loop _ => true
  | .seq x y => hasLoop x || hasLoop y
  | .cond _ x y => hasLoop x || hasLoop y
  | .block _ x => hasLoop x
  | _ => false

def rounds (C : Cfg) (x : Code) : Option (List Bool) := match C.own 999999999 with
  | none => none
  | some l => match C.own 999999998 with
    | none => some l
    | some _ => bif hasLoop x then none else some l

def run (C : Cfg) : Code → (AExit → ASt → Tree) → ASt → Tree
  | .skip, k, s => k .normal s
  | .label _, k, s => k .normal s
  | .region id ops draw, k, s =>
    bif hasUpd ops then .opq C.ng C.nt (.region id ops draw) s (fun s' => k .normal s')
    else bif dstsOk ops then rtree C ops draw s.c ops.toList 0 s.toR [] (fun r => k .normal (r.toA (s.c + 8 * ops.size))) else .bad "region"
  | .seq x y, k, s => run C x (fun e s' => match e with | .normal => run C y k s' | .leave id => k (.leave id) s' | .ret => k .ret s') s
  | .cond c x y, k, s => match ev C.gl s.fr c with
    | .bool b => .br b (run C x k s) (run C y k s)
    | _ => .bad "cond"
  | .block id x, k, s => run C x (fun e s' => match e with | .normal => k .normal s' | .leave j => bif Nat.beq j id then k .normal s' else k (.leave j) s' | .ret => k .ret s') s
  | .exit id, k, s => k (.leave id) s
  | .ret, k, s => k .ret s
  | .loop x, k, s => match rounds C x with
    | some l => unr (fun again s => run C x (fun e s' => match e with | .normal => again s' | .leave id => k (.leave id) s' | .ret => k .ret s') s) l s
    | none => .loop x s (fun S p => run C x (fun e s' => match e with | .normal => .again s' p | .leave id => k (.leave id) s' | .ret => k .ret s') S)
  | .rangeFunc g ps x y, k, s => .opq C.ng C.nt (.rangeFunc g ps x y) s (fun s' => k .normal s')
  | _, _, _ => .bad "code"

def exitOf : Exit → Option AExit
  | .normal => some .normal
  | .exit id => some (.leave id)
  | .ret => some .ret
  | _ => none

def Final (K : Ctx) (C : Cfg) (k : AExit → ASt → Tree) : Exit → Act → World → Prop := fun e a w => ∃ β s ae, exitOf e = some ae ∧ Sim K β s a w ∧ (k ae s).wp C.P C.gl (Le C.ng)

theorem run_sound {K : Ctx} {C : Cfg} (hP : C.P = K.P) (hgl : C.gl = K.gl) (hnt : C.nt = K.nt) (hng : ∀ id, C.ng ≤ id → K.b0 id = none) (hqt : K.qt = false) (hm : K.P.follows .mixedOrders = true) (x : Code) :
    ∀ (k : AExit → ASt → Tree) (s : ASt) (β : Book) (a : Act) (w : World), (run C x k s).wp C.P C.gl (Le C.ng) → Sim K β s a w → x.wp K.P (Final K C k) a w := by
  induction x with
  | skip => intro k s β a w h hs; exact wp_skip ⟨β, s, .normal, rfl, hs, h⟩
  | label l => intro k s β a w h hs; exact wp_label ⟨β, s, .normal, rfl, hs, h⟩
  | exit id => intro k s β a w h hs; exact wp_exit ⟨β, s, .leave id, rfl, hs, h⟩
  | ret => intro k s β a w h hs; exact wp_ret ⟨β, s, .ret, rfl, hs, h⟩
  | goto l => intro k s β a w h hs; exact h.elim
  | scope b => intro k s β a w h hs; exact h.elim
  | refuse w => intro k s β a w h hs; exact h.elim
  | rangeFunc f p x y =>
    intro k s β a w h hs
    obtain ⟨s', ho, hk⟩ := h
    have := ho K β a w hP.symm hgl.symm hnt.symm hng hqt (hP ▸ hm) hs
    rw [hP] at this
    refine wp_mono this ?_
    rintro e a' w' ⟨rfl, β', hs'⟩
    exact ⟨β', s', .normal, rfl, hs', hk⟩
  | region id ops draw =>
    intro k s β a w h hs
    simp only [run] at h
    cases hu : hasUpd ops with
    | true =>
      simp only [hu, cond_true] at h
      obtain ⟨s', ho, hk⟩ := h
      have := ho K β a w hP.symm hgl.symm hnt.symm hng hqt (hP ▸ hm) hs
      rw [hP] at this
      refine wp_mono this ?_
      rintro e a' w' ⟨rfl, β', hs'⟩
      exact ⟨β', s', .normal, rfl, hs', hk⟩
    | false =>
    simp only [hu, cond_false] at h
    cases hc : dstsOk ops with
    | false => simp only [hc, cond_false] at h; exact h.elim
    | true =>
      simp only [hc, cond_true] at h
      refine region_ok hP hgl hnt hm hc h hs (fun β' r a' w' hr hX => ?_)
      exact ⟨β', _, .normal, rfl, hr.toA, hX⟩
  | seq x y ihx ihy =>
    intro k s β a w h hs
    refine wp_seq (wp_mono (ihx _ s β a w h hs) ?_)
    rintro e a' w' ⟨β', s', ae, he, hs', hk⟩
    cases e <;> simp only [exitOf, reduceCtorEq, Option.some.injEq] at he
    · subst he; exact ihy k s' β' a' w' hk hs'
    · subst he; exact ⟨β', s', _, rfl, hs', hk⟩
    · subst he; exact ⟨β', s', _, rfl, hs', hk⟩
  | cond c x y ihx ihy =>
    intro k s β a w h hs
    simp only [run] at h
    split at h
    · rename_i b hb
      have hrel : Rel β w (ev K.gl s.fr c) (a.eval c) := by
        have := rel_ev (hs.toR #[]) (x := c) (fun t _ => rfl)
        exact this
      rw [← hgl, hb] at hrel
      have hv := rel_bool_inv hrel
      refine wp_cond_split hv (fun ht => ihx k s β a w (h.1 ht) hs) (fun hf => ihy k s β a w (h.2 hf) hs)
    · exact h.elim
  | block id x ih =>
    intro k s β a w h hs
    refine wp_block (wp_mono (ih _ s β a w h hs) ?_)
    rintro e a' w' ⟨β', s', ae, he, hs', hk⟩
    cases e <;> simp only [exitOf, reduceCtorEq, Option.some.injEq] at he
    · subst he; exact ⟨β', s', _, rfl, hs', hk⟩
    · rename_i j
      subst he
      simp only [Exit.inBlock]
      by_cases e : j = id
      · subst e
        rw [if_pos rfl]
        simp only [Nat.beq_refl, cond_true] at hk
        exact ⟨β', s', .normal, rfl, hs', hk⟩
      · rw [if_neg e]
        have hb : Nat.beq j id = false := by
          cases hb : Nat.beq j id with
          | false => rfl
          | true => exact absurd (Nat.eq_of_beq_eq_true hb) e
        simp only [hb, cond_false] at hk
        exact ⟨β', s', .leave j, rfl, hs', hk⟩
    · subst he; exact ⟨β', s', _, rfl, hs', hk⟩
  | loop x ih =>
    intro k s β a w h hs
    simp only [run] at h
    cases hun : rounds C x with
    | some l =>
      simp only [hun] at h
      refine wp_loop_rounds l.length ?_
      clear hun
      induction l generalizing s β a w with
      | nil => exact h.elim
      | cons b l ihl =>
        refine wp_mono (ih _ s β a w h hs) ?_
        rintro e a' w' ⟨β', s', ae, he, hs', hk⟩
        cases e <;> simp only [exitOf, reduceCtorEq, Option.some.injEq] at he
        · subst he; exact ihl s' β' a' w' hs' hk
        · subst he; exact ⟨β', s', _, rfl, hs', hk⟩
        · subst he; exact ⟨β', s', _, rfl, hs', hk⟩
    | none =>
    simp only [hun] at h
    obtain ⟨ι, S, m, i0, hle, hround⟩ := h
    refine wp_loop_ghost (fun n a w => ∃ i β, m i = n ∧ Sim K β (S i) a w) (m i0) ?_ ?_
    · obtain ⟨β', hs'⟩ := hle K β a w hng hs
      exact ⟨i0, β', rfl, hs'⟩
    · rintro n a' w' ⟨i, β', rfl, hs'⟩
      refine wp_mono (ih _ (S i) β' a' w' (hround i) hs') ?_
      rintro e a'' w'' ⟨β2, s2, ae, he, hs2, hk⟩
      cases e <;> simp only [exitOf, reduceCtorEq, Option.some.injEq] at he
      · subst he
        obtain ⟨i', hle', hlt⟩ := hk
        obtain ⟨β3, hs3⟩ := hle' K β2 a'' w'' hng hs2
        exact ⟨m i', hlt, i', β3, rfl, hs3⟩
      · subst he; exact ⟨β2, s2, _, rfl, hs2, hk⟩
      · subst he; exact ⟨β2, s2, _, rfl, hs2, hk⟩

def resOne (P : Program) (s : ASt) : ResultVar → Option AV
  | .tmp t => some (s.fr t)
  | .cell a t => match s.fr a with
    | .own id es i j m => match s.H id with
      | some o => bif Nat.beq o.es es then readT P t m (fun k => o.f i (j + k)) else none
      | none => none
    | _ => none

def resAll (P : Program) (s : ASt) : List ResultVar → Option (List AV)
  | [] => some []
  | x :: xs => match resOne P s x, resAll P s xs with
    | some v, some vs => some (v :: vs)
    | _, _ => none

def resA (P : Program) (fn : Func) (s : ASt) : Option AV :=
  match resAll P s fn.results.toList with
  | some [v] => some v
  | some vs => some (.tup vs)
  | none => none

def resSem (tmps : Array Value) : ResultVar → Sem Value
  | .tmp t => pure (tmps.getD t undef)
  | .cell a t => do loadVar t (← asAddr (tmps.getD a undef))

theorem results_eq (fn : Func) (tmps : Array Value) : results fn tmps = (do let vs ← fn.results.mapM (resSem tmps); pure (if h : vs.size = 1 then vs[0] else .tuple vs)) := by
  rfl


theorem Sim.ok {K : Ctx} {β : Book} {s : ASt} {a : Act} {w : World} (hs : Sim K β s a w) : HeapOk β w s.H := fun id ob hid _ => by
  rcases hs.heap id ob hid with ⟨b, h1, h2⟩ | h
  · exact .inl ⟨b, _, h1, fun h => h, h2⟩
  · exact .inr h

theorem resOne_ok {K : Ctx} {β : Book} {s : ASt} {a : Act} {w : World} (hs : Sim K β s a w) {x : ResultVar} {v : AV} (h : resOne K.P s x = some v) :
    ∃ u, (resSem a.tmps x).run K.P w = .ok u w ∧ Rel β w v u := by
  have hH := hs.ok
  cases x with
  | tmp t => simp only [resOne, Option.some.injEq] at h; subst h; exact ⟨_, rfl, hs.slot t⟩
  | cell b t =>
    simp only [resOne] at h
    split at h
    · rename_i id es i j m hb
      split at h
      · rename_i o ho
        obtain ⟨hc, h⟩ := bif_some h
        have hsl := hs.slot b
        rw [hb] at hsl
        obtain ⟨bl, vals, hu, hcell, hr, _⟩ := own_cells hH hsl ho (Nat.eq_of_beq_eq_true hc)
        obtain ⟨u, hl, hur⟩ := read_ok vals hcell hr h
        exact ⟨u, by simp [resSem, hu, asAddr, hl], hur⟩
      · cases h
    · cases h

theorem resAll_ok {K : Ctx} {β : Book} {s : ASt} {a : Act} {w : World} (hs : Sim K β s a w) (xs : List ResultVar) : ∀ {vs : List AV}, resAll K.P s xs = some vs →
    ∃ us : List Value, (xs.mapM (resSem a.tmps) : Sem (List Value)).run K.P w = .ok us w ∧ Rels β w vs us.toArray := by
  induction xs with
  | nil => intro vs h; simp [resAll] at h; subst h; exact ⟨[], rfl, rfl, by simp⟩
  | cons x xs ih =>
    intro vs h
    simp only [resAll] at h
    split at h
    · rename_i v vs' h1 h2
      cases h
      obtain ⟨u, hu, hr⟩ := resOne_ok hs h1
      obtain ⟨us, hus, hrs⟩ := ih h2
      refine ⟨u :: us, ?_, ?_⟩
      · simp only [List.mapM_cons, Sem.run_bind, hu, Result.andThen_ok, hus, Sem.run_pure]
      · refine ⟨by have := hrs.len; simp at this ⊢; exact this, fun j p q hp hq => ?_⟩
        cases j with
        | zero => simp at hp hq; subst hp; subst hq; exact hr
        | succ j => exact hrs.rel j p q (by simpa using hp) (by simpa using hq)
    · cases h

theorem res_ok {K : Ctx} {β : Book} {s : ASt} {a : Act} {w : World} {fn : Func} (hs : Sim K β s a w) {v : AV} (h : resA K.P fn s = some v) : ∃ u, (results fn a.tmps).run K.P w = .ok u w ∧ Rel β w v u := by
  unfold resA at h
  have hmap : ∀ us : List Value, (fn.results.toList.mapM (resSem a.tmps) : Sem (List Value)).run K.P w = .ok us w →
      (results fn a.tmps).run K.P w = .ok (if h : us.toArray.size = 1 then us.toArray[0] else .tuple us.toArray) w := by
    intro us hus
    rw [results_eq, Array.mapM_eq_mapM_toList]
    simp only [Sem.run_bind, Sem.run_map, hus, Result.andThen_ok, Sem.run_pure]
  split at h
  · rename_i x hx
    cases h
    obtain ⟨us, hus, hr⟩ := resAll_ok hs _ hx
    have hl := hr.len
    match us, hus, hr, hl with
    | [u], hus, hr, _ => exact ⟨u, by rw [hmap _ hus]; rfl, hr.rel 0 _ _ rfl rfl⟩
  · rename_i vs hx hvs
    cases h
    obtain ⟨us, hus, hr⟩ := resAll_ok hs _ hvs
    refine ⟨.tuple us.toArray, ?_, .tup hr.len hr.rel⟩
    rw [hmap _ hus, dif_neg]
    intro h1
    have hl := hr.len
    rw [h1] at hl
    match vs, hl, hx with
    | [x], _, hx => exact hx x rfl
  · cases h


def endIds (ng : Nat) (hand : Bool) (ags : List AV) (H : Heap) (v : AV) : List Nat :=
  List.range ng ++ (bif hand then (alive H (rch 9 H v ++ ags.flatMap (rch 9 H))).filter (fun id => Nat.ble ng id && muOf H id) else [])

def endOf (P : Program) (fn : Func) (ng : Nat) (hand : Bool) (ags : List AV) (s : ASt) : Option (AV × List (Option Ob)) :=
  match resA P fn s with
  | some v => bif nodupB (endIds ng hand ags s.H v) then
      some (mapA (posIn (endIds ng hand ags s.H v) 0) 9 (restH (endIds ng hand ags s.H v) s.H) v, (endIds ng hand ags s.H v).map fun id => (s.H id).map (mapO (posIn (endIds ng hand ags s.H v) 0) (restH (endIds ng hand ags s.H v) s.H)))
    else none
  | none => none

def Back (P : Program) (fn : Func) (ng : Nat) (hand : Bool) (ags : List AV) (r : AV) (obs' : List (Option Ob)) : AExit → ASt → Tree
  | .normal, s => .out (endOf P fn ng hand ags s) r obs'
  | .ret, s => .out (endOf P fn ng hand ags s) r obs'
  | .leave _, _ => .bad "leave"

def entry (args : List AV) (obs : List Ob) : ASt := ⟨fun n => args.getD n .junk, fun id => obs[id]?, obs.length⟩

inductive NM : AV → Prop where
  | int {k : IntKind} {n : Int} : NM (.int k n)
  | bool {b : Bool} : NM (.bool b)
  | str {s : ByteArray} : NM (.str s)
  | nsl : NM .nsl
  | esl : NM .esl
  | raw {v : Value} : NM (.raw v)
  | own {id es i j m : Nat} : NM (.own id es i j m)
  | osl {id es i len : Nat} : NM (.osl id es i len)
  | oel {id es i base len k : Nat} : NM (.oel id es i base len k)
  | isl {es n : Nat} {f : Nat → Nat → AV} (h : ∀ i j, i < n → j < es → NM (f i j)) : NM (.isl es n f)
  | ipt {m : Nat} {g : Nat → AV} (h : ∀ j, j < m → NM (g j)) : NM (.ipt m g)
  | agg {cs : List AV} (h : ∀ u, u ∈ cs → NM u) : NM (.agg cs)
  | tup {cs : List AV} (h : ∀ u, u ∈ cs → NM u) : NM (.tup cs)
  | fn {f : Fn} {fs cs : List AV} (h : ∀ u, u ∈ fs → NM u) (h' : ∀ u, u ∈ cs → NM u) : NM (.fn f fs cs)
  | ifc {t : TypeId} {v : AV} (h : NM v) : NM (.ifc t v)
  | nn {v : AV} (h : NM v) : NM (.nn v)
  | junk : NM .junk
def MapsOr (w w' : World) (p : Prop) : Prop := (∀ (b : Nat) (es : Array MapEntry) (z : Nat), w.heap[b]? = some (.map es z) → w'.heap[b]? = some (.map es z)) ∨ p
theorem MapsOr.mono {w w' : World} {p q : Prop} (h : MapsOr w w' p) (k : p → q) : MapsOr w w' q := h.imp (fun h => h) k

theorem Rel.same {β : Book} {w w' : World} (hc : ∀ (b : Nat) (cs : Array Value) (el : TypeId) (z : Nat × Nat), w.heap[b]? = some (.cells cs el z) → w'.heap[b]? = some (.cells cs el z)) {a : AV} {v : Value} (hx : MapsOr w w' (NM a)) (h : Rel β w a v) : Rel β w' a v := by
  have cell : ∀ (p : Addr) v, w.cell? p = some v → w'.cell? p = some v := fun p v hp => by
    unfold World.cell? at hp ⊢
    split at hp
    · rename_i cs el z hb
      rw [hc _ _ _ _ hb]; exact hp
    · cases hp
  have shp : ∀ b el sz, w.shape? b = some (el, sz) → w'.shape? b = some (el, sz) := fun b el sz hp => by
    unfold World.shape? at hp ⊢
    split at hp
    · rename_i cs el' z hb
      rw [hc _ _ _ _ hb]; exact hp
    · cases hp
  induction h with
  | int => exact .int
  | bool => exact .bool
  | str => exact .str
  | nsl => exact .nsl
  | esl => exact .esl
  | raw h => exact .raw h
  | own h hi hj => exact .own h hi hj
  | ownD h => exact .ownD h
  | oel h hi hk hl => exact .oel h hi hk hl
  | oelD h => exact .oelD h
  | osl h hn hc' hs hz => exact .osl h hn hc' (shp _ _ _ hs) hz
  | osl0 h => exact .osl0 h
  | oslD h => exact .oslD h
  | isl vals he hcap hb hcc ho hr hcl ih => exact .isl vals he hcap hb (fun i j hi hj => cell _ _ (hcc i j hi hj)) ho (fun i j hi hj => ih i j hi hj (hx.mono fun h => by cases h with | isl h => exact h i j hi hj)) hcl
  | isl0 h => exact .isl0 h
  | ipt vals hm hb hcc ho hr hcl ih => exact .ipt vals hm hb (fun j hj => cell _ _ (hcc j hj)) ho (fun j hj => ih j hj (hx.mono fun h => by cases h with | ipt h => exact h j hj)) hcl
  | agg hl _ ih => exact .agg hl (fun j u v hu hv => ih j u v hu hv (hx.mono fun h => by cases h with | agg h => exact h u (List.mem_of_getElem? hu)))
  | tup hl _ ih => exact .tup hl (fun j u v hu hv => ih j u v hu hv (hx.mono fun h => by cases h with | tup h => exact h u (List.mem_of_getElem? hu)))
  | fn hl _ hl' _ ih ih' => exact .fn hl (fun j u v hu hv => ih j u v hu hv (hx.mono fun h => by cases h with | fn h _ => exact h u (List.mem_of_getElem? hu))) hl' (fun j u v hu hv => ih' j u v hu hv (hx.mono fun h => by cases h with | fn _ h => exact h u (List.mem_of_getElem? hu)))
  | ifc _ ih => exact .ifc (ih (hx.mono fun h => by cases h with | ifc h => exact h))
  | nn _ ih => exact .nn (ih (hx.mono fun h => by cases h with | nn h => exact h))
  | mpc hb hs =>
    rcases hx with hx | hx
    · obtain ⟨es, z, he⟩ := hs.map
      exact .mpc hb (hs.keep ((hx _ _ _ he).trans he.symm))
    · cases hx
  | junk => exact .junk

theorem Holds.same {β : Book} {w w' : World} (hc : ∀ (b : Nat) (cs : Array Value) (el : TypeId) (z : Nat × Nat), w.heap[b]? = some (.cells cs el z) → w'.heap[b]? = some (.cells cs el z)) {o : Ob} {id : Nat} (hx : MapsOr w w' (∀ i j, i < o.n → j < o.es → NM (o.f i j))) (h : Holds β w o id) : Holds β w' o id := by
  rcases h with ⟨b, h1, cs, el, h2, h3, h4⟩ | h
  · exact .inl ⟨b, h1, cs, el, hc _ _ _ _ h2, h3, fun i j hi hj => let ⟨v, g1, g2, g3⟩ := h4 i j hi hj; ⟨v, g1, g2.same hc (hx.mono fun h => h i j hi hj), g3⟩⟩
  · exact .inr h

def NMS (s : ASt) : Prop := (∀ n, NM (s.fr n)) ∧ ∀ id o, s.H id = some o → ∀ i j, i < o.n → j < o.es → NM (o.f i j)
def NMG (gl : Globs) : Prop := ∀ g m h, gl g = some (m, h) → NM (.ipt m h)

theorem GlobAt.same {β : Book} {w w' : World} (hc : ∀ (b : Nat) (cs : Array Value) (el : TypeId) (z : Nat × Nat), w.heap[b]? = some (.cells cs el z) → w'.heap[b]? = some (.cells cs el z)) {g m : Nat} {f : Nat → AV} (hx : MapsOr w w' (NM (.ipt m f))) (h : GlobAt β w g m f) : GlobAt β w' g m f := by
  refine ⟨h.rel.same hc hx, ?_⟩
  obtain ⟨el, e⟩ := h.size
  refine ⟨el, ?_⟩
  unfold World.shape? at e ⊢
  split at e
  · rename_i cs el' z hb
    rw [hc _ _ _ _ hb]; exact e
  · cases e

theorem Sim.same {K : Ctx} {β : Book} {s : ASt} {a a' : Act} {w w' : World} (hs : Sim K β s a w) (hc : ∀ (b : Nat) (cs : Array Value) (el : TypeId) (z : Nat × Nat), w.heap[b]? = some (.cells cs el z) → w'.heap[b]? = some (.cells cs el z)) (hsz : w.heap.size ≤ w'.heap.size)
    (hx : MapsOr w w' (NMS s ∧ NMG K.gl)) (hk : Kept K.B K.G K.w0 w') (ht : a'.tmps = a.tmps) (hd : Marks K a'.defers w') : Sim K β s a' w' :=
  ⟨fun n => by rw [ht]; exact (hs.slot n).same hc (hx.mono fun h => h.1.1 n), by rw [ht]; exact hs.size, hd, fun id o ho => (hs.heap id o ho).same hc (hx.mono fun h => h.1.2 id o ho), hs.inj, hs.fresh, fun id b n mu h => ⟨(hs.live id b n mu h).1, Nat.lt_of_lt_of_le (hs.live id b n mu h).2 hsz⟩,
    hs.giv, hs.bF, hs.hF, hk, Nat.le_trans hs.hB hsz, fun g m h hgl => (hs.glob g m h hgl).same hc (hx.mono fun h' => h'.2 g m h hgl)⟩

theorem leaves_marks {F : Fence} {n : Nat} {K : Ctx} {β : Book} {s : ASt} {fn : Func} {R : Ending → World → Prop} : ∀ (Ds : List Nat) (a : Act) (w : World), Ds.Nodup → (∀ D, D ∈ Ds → K.B ≤ D ∧ K.w0.heap.size ≤ D ∧ w.heap[D]? = some (.deferred (some []))) →
    Sim K β s { a with defers := [] } w → (∀ w', Sim K β s { a with defers := [] } w' → LeavesInM F n K.P fn a.tmps R [] .returning w') →
    LeavesInM F n K.P fn a.tmps R (Ds.map fun D => { target := .collected D, args := #[] }) .returning w
  | [], a, w, _, _, hs, h => h w hs
  | D :: Ds, a, w, hn, hD, hs, h => by
    obtain ⟨h1, h2, h3⟩ := hD D (List.mem_cons_self ..)
    rw [List.nodup_cons] at hn
    refine ⟨by simp, .inl ⟨D, _, rfl, run_takeDeferred h3, leaves_marks Ds a _ hn.2 (fun D' hD' => ?_) (hs.same (fun b cs el z hb => ?_) (by simp) (.inl fun b es z hb => (World.putObj_heap_other (fun e => by subst e; rw [h3] at hb; cases hb)).trans hb) ?_ rfl (Marks.nil _ _)) h⟩⟩
    · obtain ⟨g1, g2, g3⟩ := hD D' (List.mem_cons_of_mem _ hD')
      exact ⟨g1, g2, (World.putObj_heap_other (fun e => hn.1 (by first | (rw [e]; exact hD') | (rw [← e]; exact hD')))).trans g3⟩
    · exact (World.putObj_heap_other (fun e => by subst e; rw [h3] at hb; cases hb)).trans hb
    · refine ⟨hs.kept.os, hs.kept.tape, hs.kept.output, Nat.le_trans hs.kept.size (by simp), fun k hk hg => ?_, fun k hk => ?_, fun k o hk ho => ?_⟩
      · exact (World.putObj_heap_other (by omega)).trans (hs.kept.block k hk hg)
      · rw [shape_of_block (World.putObj_heap_other (by omega) : (w.putObj D _).heap[k]? = w.heap[k]?)]; exact hs.kept.shape k hk
      · have := (Array.getElem?_eq_some_iff.1 hk).1
        exact (World.putObj_heap_other (by omega)).trans (hs.kept.othr k o hk ho)

theorem gives_by {P : Program} {gl : Globs} {own : FuncId → Option (List Bool)} {hand : Bool} {f : FuncId} {fn : Func} {code : Code} {obs : List Ob} {args : List AV} {r : AV} {obs' : List (Option Ob)} (hf : P.funcs[f]? = some fn) (hb : fn.body = some code) (hname : (fn.name == "runtime.NumGoroutine") = false)
    (hn : Nat.ble args.length fn.ntmps = true)
    (hrun : ∀ (K : Ctx) (β : Book) (a : Act) (w : World), K.P = P → K.gl = gl → K.nt = fn.ntmps → (∀ id, obs.length ≤ id → K.b0 id = none) → K.qt = false → K.B = K.w0.heap.size → Sim K β (entry args obs) a w → code.wp P (Final K ⟨P, gl, fn.ntmps, own, obs.length⟩ (Back P fn obs.length hand args r obs')) a w) : Gives P gl f obs args r obs' := by
  rw [Nat.ble_eq] at hn
  refine ⟨⟨fn, code, hf, hb, hname⟩, fun β w vs hF hgiv hgl hargs => ?_⟩
  refine callsIn_wide.1 (callsIn_of_wp_marks (n := 0) hf hb trivial (wpIn_wide.2 ?_) rfl)
  let K : Ctx := ⟨P, gl, w.heap.size, w, fn.ntmps, β.F, BlkOf β, β.m, false⟩
  have hl := hargs.len
  have hs : Sim K β (entry args obs) { tmps := vs ++ Array.replicate (fn.ntmps - vs.size) undef, defers := [] } w := by
    refine ⟨fun n => ?_, (by show (vs ++ Array.replicate (fn.ntmps - vs.size) undef).size = fn.ntmps; simp; omega), Marks.nil _ _, fun id o ho => hgiv.holds id o ho, hgiv.inj, fun id hid => hgiv.none id hid,
      fun id b n mu h => ⟨.inr ⟨id, n, mu, h⟩, (hgiv.lt id b n mu h).1⟩, fun id o ho => ⟨o, ho, o.later_refl⟩, rfl, fun b hb => ⟨hF b hb, fun ⟨k, n, mu, h⟩ => (hgiv.lt k b n mu h).2 hb⟩, Kept.refl _ _ _, Nat.le_refl _, hgl⟩
    show Rel _ _ (args.getD n .junk) _
    rw [Array.getD_eq_getD_getElem?, List.getD_eq_getElem?_getD]
    by_cases hlt : n < args.length
    · rw [Array.getElem?_append_left (by omega)]
      have h1 : args[n]? = some args[n] := by simp [hlt]
      obtain ⟨x, hx, hr⟩ := hargs.at h1
      rw [h1, hx]
      exact hr
    · rw [List.getElem?_eq_none (by omega)]
      exact .junk
  refine wp_mono (hrun K β _ _ rfl rfl rfl (fun id hid => hgiv.none id hid) rfl rfl hs) ?_
  have fin : ∀ (β1 : Book) (s : ASt) (a : Act) (w' : World), Sim K β1 s a w' → (∃ x os, endOf P fn obs.length hand args s = some (x, os) ∧ Ent os x r ∧ ObsEnt os os obs') →
      ∃ v, (results fn a.tmps).run P w' = .ok v w' ∧ ∃ v' β', Ending.returned v = Ending.returned v' ∧ Kept w.heap.size (BlkOf β) w w' ∧ After β β' w w' obs' ∧ Rel β' w' r v' := by
    rintro β1 s a w' hs' ⟨x, os, hx, hent, hobs⟩
    unfold endOf at hx
    split at hx
    rotate_left
    · cases hx
    rename_i v hv
    obtain ⟨hnd, hx⟩ := bif_some hx
    simp only [Option.some.injEq, Prod.mk.injEq] at hx
    obtain ⟨hx1, hx2⟩ := hx
    generalize hids : endIds obs.length hand args s.H v = ids at hnd hx1 hx2
    obtain ⟨u, hu, hr⟩ := res_ok hs' hv
    have hpre : ∀ k, k < obs.length → ids[k]? = some k := fun k hk => by
      rw [← hids]
      unfold endIds
      rw [List.getElem?_append_left (by simpa using hk), List.getElem?_range hk]
    have hlen : obs.length ≤ ids.length := by
      rw [← hids]
      unfold endIds
      simp
    have hnd' := nodupB_spec hnd
    let bm : Nat → Option Own := fun k => match ids[k]? with | some id => β1.m id | none => none
    let β' : Book := ⟨bm, β1.F⟩
    have bm_some : ∀ {k o}, bm k = some o → ∃ id, ids[k]? = some id ∧ β1.m id = some o := by
      intro k o h
      cases hk : ids[k]? with
      | none => simp only [bm, hk] at h; cases h
      | some id => simp only [bm, hk] at h; exact ⟨id, rfl, h⟩
    have bm_at : ∀ {k id}, ids[k]? = some id → bm k = β1.m id := fun {k id} h => by simp only [bm, h]
    have hHr : HeapOk β1 w' (restH ids s.H) := by
      intro id ob hid hne
      unfold restH at hid
      cases hmem : memN ids id with
      | true => simp [hmem] at hid
      | false => simp only [hmem, cond_false] at hid; exact hs'.ok id ob hid hne
    have h1 : ∀ id k, posIn ids 0 id = some k → β1.m id ≠ none → β'.m k = β1.m id := fun id k h _ => by
      obtain ⟨_, h2⟩ := posIn_some h
      exact bm_at (by simpa using h2)
    have h2 : ∀ b, β1.free b → β'.free b := fun b hf => ⟨hf.1, fun k n h => by
      obtain ⟨id, _, hm'⟩ := bm_some h
      exact hf.2 id n hm'⟩
    have h3 : ∀ id ob b n mu, restH ids s.H id = some ob → β1.m id = some (.lives b n mu) → β'.free b := by
      intro id ob b n mu ho hm'
      unfold restH at ho
      cases hmem : memN ids id with
      | true => simp [hmem] at ho
      | false =>
        refine ⟨fun hF' => ?_, fun k n' h => ?_⟩
        · have hF2 : β1.F b := hF'
          rw [hs'.bF] at hF2
          obtain ⟨g1, g2⟩ := hs'.hF b hF2
          rcases (hs'.live id b n mu hm').1 with h | h
          · omega
          · exact g2 h
        · obtain ⟨id', hk, hm2⟩ := bm_some h
          have := hs'.inj id' id b n' n _ mu hm2 hm'
          subst this
          rw [memN_iff.2 (List.mem_of_getElem? hk)] at hmem
          cases hmem
    obtain ⟨hl1, hobs'⟩ := hobs.spec
    have hHas : Has os β' := fun k o hk => by
      rw [← hx2, List.getElem?_map] at hk
      cases hik : ids[k]? with
      | none => simp [hik] at hk
      | some id =>
        simp only [hik, Option.map_some, Option.some.injEq, Option.map_eq_some_iff] at hk
        obtain ⟨o0, g3, _⟩ := hk
        show bm k ≠ none
        rw [bm_at hik]
        rcases hs'.heap id o0 g3 with ⟨b, g, _⟩ | ⟨g, _⟩ <;> (rw [g]; simp)
    refine ⟨u, hu, u, β', rfl, hs'.kept, ⟨?_, fun k ob hk => ?_, fun k hk => ?_, fun p q b n n' mu mu' e1 e2 => ?_, fun k b n mu h => ?_, fun k o ho => ?_⟩, hent _ _ _ hHas ?_⟩
    · exact hs'.bF
    · obtain ⟨o1, g1, g2⟩ := hobs' k ob hk
      rw [← hx2, List.getElem?_map] at g1
      cases hik : ids[k]? with
      | none => simp [hik] at g1
      | some id =>
        simp only [hik, Option.map_some, Option.some.injEq, Option.map_eq_some_iff] at g1
        obtain ⟨o0, g3, rfl⟩ := g1
        have hh := mapO_holds (β' := β') hHr h1 h2 h3 (bm_at hik) (hs'.heap id o0 g3)
        have e1 := g2.es; have e2 := g2.n; have e3 := g2.mu; have e4 := g2.f
        rcases hh with ⟨b, k1, cs, el, k2, k3, k4⟩ | ⟨k1, k2⟩
        · refine .inl ⟨b, by rw [← e2, ← e3]; exact k1, cs, el, k2, k3.ent g2, fun i j hi hj => ?_⟩
          rw [← e2] at hi
          rw [← e1] at hj ⊢
          obtain ⟨vv, j1, j2, j3⟩ := k4 i j hi hj
          exact ⟨vv, j1, e4 i j hi hj _ _ _ hHas j2, j3⟩
        · exact .inr ⟨k1, by rw [← e2]; exact k2⟩
    · have : ids[k]? = none := List.getElem?_eq_none (by rw [← hl1, ← hx2] at hk; simpa using hk)
      show bm k = none
      simp only [bm, this]
    · obtain ⟨x1, g1, g2⟩ := bm_some e1
      obtain ⟨y1, g3, g4⟩ := bm_some e2
      have := hs'.inj x1 y1 b n n' mu mu' g2 g4
      subst this
      exact hnd' p q x1 g1 g3
    · obtain ⟨id, g1, g2⟩ := bm_some h
      have := hs'.live id b n mu g2
      exact ⟨this.2, this.1⟩
    · have hk : k < obs.length := Nat.lt_of_not_le fun h => by rw [hgiv.none k h] at ho; cases ho
      obtain ⟨o', g1, g2⟩ := hs'.giv k o ho
      exact ⟨o', by show bm k = some o'; rw [bm_at (hpre k hk)]; exact g1, g2⟩
    · rw [← hx1]
      exact mapA_rel hHr h1 h2 h3 9 v u hr
  have out : ∀ (β1 : Book) (s : ASt) (a : Act) (w' : World), Sim K β1 s a w' → (∃ x os, endOf P fn obs.length hand args s = some (x, os) ∧ Ent os x r ∧ ObsEnt os os obs') →
      LeavesInM Fence.wide 0 P fn a.tmps (fun e w' => ∃ v β', e = .returned v ∧ Kept w.heap.size (BlkOf β) w w' ∧ After β β' w w' obs' ∧ Rel β' w' r v) a.defers .returning w' := by
    intro β1 s a w' hs' hk
    obtain ⟨Ds, h1, h2, _, h3⟩ := hs'.defers
    rw [h1]
    refine leaves_marks (K := K) (β := β1) (s := s) Ds a w' h2 h3 (hs'.same (fun _ _ _ _ h => h) (Nat.le_refl _) (.inl fun _ _ _ h => h) hs'.kept rfl (Marks.nil _ _)) (fun w2 hs2 => ?_)
    obtain ⟨v, hv, h⟩ := fin β1 s _ w2 hs2 hk
    exact ⟨v, hv, h⟩
  rintro e a w' ⟨β1, s, ae, he, hs', hk⟩
  cases e <;> simp only [exitOf, reduceCtorEq, Option.some.injEq] at he
  · subst he; exact out β1 s a w' hs' hk
  · subst he; exact hk.elim
  · subst he; exact out β1 s a w' hs' hk

theorem gives_of {P : Program} {gl : Globs} {own : FuncId → Option (List Bool)} {hand : Bool} {f : FuncId} {fn : Func} {code : Code} {obs : List Ob} {args : List AV} {r : AV} {obs' : List (Option Ob)} (hf : P.funcs[f]? = some fn) (hb : fn.body = some code) (hname : (fn.name == "runtime.NumGoroutine") = false)
    (hm : P.follows .mixedOrders = true) (hn : Nat.ble args.length fn.ntmps = true) (hwp : (run ⟨P, gl, fn.ntmps, own, obs.length⟩ code (Back P fn obs.length hand args r obs') (entry args obs)).wp P gl (Le obs.length)) : Gives P gl f obs args r obs' :=
  gives_by (own := own) hf hb hname hn fun _ _ _ _ hP hgl hnt hng hqt _ hs => hP ▸ run_sound (C := ⟨P, gl, fn.ntmps, own, obs.length⟩) hP.symm hgl.symm hnt.symm hng hqt (hP.symm ▸ hm) code _ _ _ _ _ hwp hs

end Go.Am

namespace Go.Am

section
variable {x y : Bool} {p q : Prop}
theorem cnd_id_t : x = true → x = true := id
theorem cnd_id_f : x = false → x = false := id
theorem cnd_and_t (f : x = true → p) (g : y = true → q) (h : (x && y) = true) : p ∧ q := by
  cases x <;> cases y <;> first | exact ⟨f rfl, g rfl⟩ | cases h
theorem cnd_and_f (f : x = false → p) (g : y = false → q) (h : (x && y) = false) : p ∨ q := by
  cases x with
  | false => exact .inl (f rfl)
  | true => exact .inr (g h)
theorem cnd_or_t (f : x = true → p) (g : y = true → q) (h : (x || y) = true) : p ∨ q := by
  cases x with
  | true => exact .inl (f rfl)
  | false => exact .inr (g h)
theorem cnd_or_f (f : x = false → p) (g : y = false → q) (h : (x || y) = false) : p ∧ q := by
  cases x <;> cases y <;> first | exact ⟨f rfl, g rfl⟩ | cases h
theorem cnd_not_t (f : x = false → p) (h : (!x) = true) : p := by
  cases x with
  | false => exact f rfl
  | true => cases h
theorem cnd_not_f (f : x = true → p) (h : (!x) = false) : p := by
  cases x with
  | true => exact f rfl
  | false => cases h
theorem cnd_eqf_t (f : x = false → p) (h : (x == false) = true) : p := by
  cases x with
  | false => exact f rfl
  | true => cases h
theorem cnd_dec_t {i : Decidable p} (h : @decide p i = true) : p := of_decide_eq_true h
theorem cnd_dec_f {i : Decidable p} (h : @decide p i = false) : ¬ p := of_decide_eq_false h
theorem cnd_beq_t {a b : Int} (h : (a == b) = true) : a = b := by simpa using h
theorem cnd_beq_f {a b : Int} (h : (a == b) = false) : ¬ a = b := by simpa using h
theorem cnd_bne_t {a b : Int} (h : (a != b) = true) : ¬ a = b := by simpa using h
theorem cnd_bne_f {a b : Int} (h : (a != b) = false) : a = b := by simpa using h
end

def EntL (os : List (Option Ob)) : List AV → List AV → Prop
  | [], [] => True
  | a :: l, b :: l' => Ent os a b ∧ EntL os l l'
  | _, _ => False

theorem EntL.spec {os : List (Option Ob)} : ∀ {l l' : List AV}, EntL os l l' → l.length = l'.length ∧ ∀ (k : Nat) a b, l[k]? = some a → l'[k]? = some b → Ent os a b
  | [], [], _ => ⟨rfl, fun k a b h => by simp at h⟩
  | x :: l, y :: l', h => by
    obtain ⟨h1, h2⟩ := EntL.spec h.2
    refine ⟨by simp [h1], fun k a b ha hb => ?_⟩
    cases k with
    | zero => simp at ha hb; subst ha; subst hb; exact h.1
    | succ k => simp at ha hb; exact h2 k a b ha hb
  | [], _ :: _, h => h.elim
  | _ :: _, [], h => h.elim

def lookZ : List Nat → List AV → Nat → AV
  | n :: ns, v :: vs, k => bif Nat.beq n k then v else lookZ ns vs k
  | _, _, _ => .junk

def mkSt (ns : List Nat) (vs : List AV) (obs : List (Option Ob)) : ASt := ⟨lookZ ns vs, fun id => obs.getD id none, obs.length⟩

def valsOf (s : ASt) (ns π : List Nat) : List AV := ns.map fun n => mapA (posIn π 0) 9 (restH π s.H) (s.fr n)
def osOf (s : ASt) (π : List Nat) : List (Option Ob) := π.map fun id => match s.H id with
  | some o => some (mapO (posIn π 0) (restH π s.H) o)
  | none => bif Nat.ble s.c id && !Nat.blt (id - s.c) 256 then some ⟨(id - s.c) / 256, 0, true, .ty noTy (.lst [])⟩ else none

def descOk (ng c : Nat) (π : List Nat) : Bool := nodupB π && (List.range ng).all fun k => match π[k]? with | some id => Nat.beq id k || (Nat.ble c id && Nat.blt (id - c) 256) | none => false

structure Desc (ng : Nat) (s : ASt) (ns π : List Nat) (vals : List AV) (os : List (Option Ob)) : Prop where
  ok : descOk ng s.c π = true
  vals : valsOf s ns π = vals
  os : osOf s π = os

theorem lookZ_cases (β : Book) (w : World) (s : ASt) (g : AV → AV) (val : Nat → Value) (os : List (Option Ob)) (hh : Has os β) : ∀ (ns : List Nat) (vs : List AV), (∀ (k n : Nat) v, ns[k]? = some n → vs[k]? = some v → Ent os (g (s.fr n)) v) → (∀ n, Rel β w (g (s.fr n)) (val n)) → ∀ n, Rel β w (lookZ ns vs n) (val n)
  | [], _, _, _, _ => .junk
  | _ :: _, [], _, _, _ => .junk
  | m :: ns, v :: vs, h, hr, n => by
    simp only [lookZ]
    cases hb : Nat.beq m n with
    | true =>
      have := Nat.eq_of_beq_eq_true hb
      subst this
      exact h 0 m v rfl rfl _ _ _ hh (hr m)
    | false => exact lookZ_cases β w s g val os hh ns vs (fun k n v hn hv => h (k + 1) n v (by simpa using hn) (by simpa using hv)) hr n

theorem Desc.le0 {ng : Nat} {s : ASt} {ns π : List Nat} {vals vs : List AV} {os obs : List (Option Ob)} (h : Desc ng s ns π vals os) (hv : EntL os vals vs) (ho : ObsEnt os os obs) : Le ng s (mkSt ns vs obs) := by
  intro K β a w hng hs
  obtain ⟨hok, hvals, hos⟩ := h
  unfold descOk at hok
  rw [Bool.and_eq_true] at hok
  obtain ⟨hnd, hpre⟩ := hok
  have hnd' := nodupB_spec hnd
  have hpre' : ∀ k, k < ng → π[k]? = some k ∨ ∃ id, π[k]? = some id ∧ (Nat.ble s.c id && Nat.blt (id - s.c) 256) = true := fun k hk => by
    have := List.all_eq_true.1 hpre k (List.mem_range.2 hk)
    cases hp : π[k]? with
    | none => simp [hp] at this
    | some id =>
      simp only [hp] at this
      rw [Bool.or_eq_true] at this
      rcases this with h | h
      · exact .inl (by rw [Nat.eq_of_beq_eq_true h])
      · exact .inr ⟨id, rfl, h⟩
  obtain ⟨hl1, hv'⟩ := hv.spec
  obtain ⟨hl2, ho'⟩ := ho.spec
  have hlo : os.length = π.length := by rw [← hos]; simp [osOf]
  let bm : Nat → Option Own := fun k => match π[k]? with | some id => bif Nat.ble s.c id then (bif Nat.blt (id - s.c) 256 then some .dead else some .empty) else β.m id | none => none
  let β' : Book := ⟨bm, β.F⟩
  have bm_lives : ∀ {k b n mu}, bm k = some (.lives b n mu) → ∃ id, π[k]? = some id ∧ β.m id = some (.lives b n mu) := by
    intro k b n mu h
    cases hk : π[k]? with
    | none => simp only [bm, hk] at h; cases h
    | some id =>
      simp only [bm, hk] at h
      cases hc : Nat.ble s.c id with
      | true => cases hg : Nat.blt (id - s.c) 256 <;> simp [hc, hg] at h
      | false => simp only [hc, cond_false] at h; exact ⟨id, rfl, h⟩
  have old : ∀ {id}, β.m id ≠ none → Nat.ble s.c id = false := fun {id} hn => by
    cases hc : Nat.ble s.c id with
    | false => rfl
    | true => rw [Nat.ble_eq] at hc; exact absurd (hs.fresh id hc) hn
  have bm_at : ∀ {k id}, π[k]? = some id → β.m id ≠ none → bm k = β.m id := fun {k id} h hn => by simp only [bm, h, old hn, cond_false]
  have hHr : HeapOk β w (restH π s.H) := by
    intro id ob hid hne
    unfold restH at hid
    cases hmem : memN π id with
    | true => simp [hmem] at hid
    | false => simp only [hmem, cond_false] at hid; exact hs.ok id ob hid hne
  have h1 : ∀ id k, posIn π 0 id = some k → β.m id ≠ none → β'.m k = β.m id := fun id k h hn => by
    obtain ⟨_, h2⟩ := posIn_some h
    exact bm_at (by simpa using h2) hn
  have h2 : ∀ b, β.free b → β'.free b := fun b hf => ⟨hf.1, fun k n h => by
    obtain ⟨id, _, hm'⟩ := bm_lives h
    exact hf.2 id n hm'⟩
  have h3 : ∀ id ob b n mu, restH π s.H id = some ob → β.m id = some (.lives b n mu) → β'.free b := by
    intro id ob b n mu ho hm'
    unfold restH at ho
    cases hmem : memN π id with
    | true => simp [hmem] at ho
    | false =>
      refine ⟨fun hF' => ?_, fun k n' h => ?_⟩
      · have hF2 : β.F b := hF'
        rw [hs.bF] at hF2
        obtain ⟨g1, g2⟩ := hs.hF b hF2
        rcases (hs.live id b n mu hm').1 with h | h
        · omega
        · exact g2 h
      · obtain ⟨id', hk, hm2⟩ := bm_lives h
        have := hs.inj id' id b n' n _ mu hm2 hm'
        subst this
        rw [memN_iff.2 (List.mem_of_getElem? hk)] at hmem
        cases hmem
  have hHld : ∀ (k : Nat) o, os[k]? = some (some o) → Holds β' w o k := fun k o hk => by
    rw [← hos, osOf, List.getElem?_map] at hk
    cases hik : π[k]? with
    | none => simp [hik] at hk
    | some id =>
      simp only [hik, Option.map_some, Option.some.injEq] at hk
      cases hH : s.H id with
      | some o0 =>
        simp only [hH, Option.some.injEq] at hk
        subst hk
        have hne : β.m id ≠ none := by rcases hs.heap id o0 hH with ⟨b, g, _⟩ | ⟨g, _⟩ <;> (rw [g]; simp)
        exact mapO_holds (β' := β') hHr h1 h2 h3 (bm_at hik hne) (hs.heap id o0 hH)
      | none =>
        simp only [hH] at hk
        cases hc : Nat.ble s.c id with
        | false => simp [hc] at hk
        | true =>
          cases hg : Nat.blt (id - s.c) 256 with
          | true => simp [hc, hg] at hk
          | false =>
            simp only [hc, hg, Bool.not_false, Bool.and_self, cond_true, Option.some.injEq] at hk
            subst hk
            exact .inr ⟨by show bm k = _; simp only [bm, hik, hc, hg, cond_true, cond_false], rfl⟩
  have hHas : Has os β' := fun k o hk => by
    rcases hHld k o hk with ⟨b, g, _⟩ | ⟨g, _⟩ <;> (rw [g]; simp)
  refine ⟨β', fun n => ?_, hs.size, hs.defers, fun id o hid => ?_, fun p q b n n' mu mu' e1 e2 => ?_, fun id hid => ?_, fun id b n mu h => ?_, fun id o hid => ?_, hs.bF, hs.hF, hs.kept, hs.hB, fun g m h hgl => (hs.glob g m h hgl).rebook h2 (by
    obtain ⟨_, _, _, _, _, _, _, _, hcl, _⟩ := rel_ipt_inv (hs.glob g m h hgl).rel
    exact .ipt hcl)⟩
  · refine lookZ_cases β' w s (mapA (posIn π 0) 9 (restH π s.H)) (fun n => a.tmps.getD n undef) os hHas ns vs (fun k m v hm hv1 => ?_) (fun m => mapA_rel hHr h1 h2 h3 9 _ _ (hs.slot m)) n
    have : vals[k]? = some (mapA (posIn π 0) 9 (restH π s.H) (s.fr m)) := by rw [← hvals, valsOf, List.getElem?_map, hm]; rfl
    exact hv' k _ v this hv1
  · have hid' : obs[id]? = some (some o) := by
      have : obs.getD id none = some o := hid
      rw [List.getD_eq_getElem?_getD] at this
      cases hx : obs[id]? with
      | none => simp [hx] at this
      | some x => simp [hx] at this; rw [this]
    obtain ⟨o1, g1, g2⟩ := ho' id o hid'
    have e1 := g2.es; have e2 := g2.n; have e3 := g2.mu; have e4 := g2.f
    rcases hHld id o1 g1 with ⟨b, k1, cs, el, k2, k3, k4⟩ | ⟨k1, k2⟩
    · refine .inl ⟨b, by rw [← e2, ← e3]; exact k1, cs, el, k2, k3.ent g2, fun i j hi hj => ?_⟩
      rw [← e2] at hi
      rw [← e1] at hj ⊢
      obtain ⟨vv, j1, j2, j3⟩ := k4 i j hi hj
      exact ⟨vv, j1, e4 i j hi hj _ _ _ hHas j2, j3⟩
    · exact .inr ⟨k1, by rw [← e2]; exact k2⟩
  · obtain ⟨x1, g1, g2⟩ := bm_lives e1
    obtain ⟨y1, g3, g4⟩ := bm_lives e2
    have := hs.inj x1 y1 b n n' mu mu' g2 g4
    subst this
    exact hnd' p q x1 g1 g3
  · have hlen : obs.length ≤ id := hid
    have : π[id]? = none := List.getElem?_eq_none (by omega)
    show bm id = none
    simp only [bm, this]
  · obtain ⟨id1, g1, g2⟩ := bm_lives h
    exact hs.live id1 b n mu g2
  · have hk : id < ng := Nat.lt_of_not_le fun h => by rw [hng id h] at hid; cases hid
    obtain ⟨o', g1, g2⟩ := hs.giv id o hid
    rcases hpre' id hk with hp | ⟨id', hp, hg⟩
    · exact ⟨o', by show bm id = some o'; rw [bm_at hp (by rw [g1]; simp)]; exact g1, g2⟩
    · rw [Bool.and_eq_true] at hg
      exact ⟨.dead, by show bm id = some .dead; simp only [bm, hp, hg.1, hg.2, cond_true], by cases o <;> trivial⟩

def ObsLow (os : List (Option Ob)) : List (Option Ob) → List (Option Ob) → Prop
  | [], [] => True
  | _ :: l, none :: l' => ObsLow os l l'
  | some ⟨es, n, mu, f⟩ :: l, some o' :: l' => ObEnt os ⟨es, n, mu && o'.mu, f⟩ o' ∧ ObsLow os l l'
  | _, _ => False

theorem ObsLow.spec {os : List (Option Ob)} : ∀ {l l' : List (Option Ob)}, ObsLow os l l' → ∃ l1, ObsEnt os l l1 ∧ l1.length = l'.length ∧
    ∀ id o', l'.getD id none = some o' → ∃ o1, l1.getD id none = some o1 ∧ o1.es = o'.es ∧ o1.n = o'.n ∧ o1.f = o'.f ∧ (o'.mu = true → o1.mu = true)
  | [], [], _ => ⟨[], trivial, rfl, fun id o' h => by simp at h⟩
  | x :: l, none :: l', h => by
    obtain ⟨l1, h1, h2, h3⟩ := ObsLow.spec (l := l) (l' := l') (by cases x <;> exact h)
    refine ⟨none :: l1, by cases x <;> exact h1, by simp [h2], fun id o' hk => ?_⟩
    cases id with
    | zero => simp at hk
    | succ k => simpa using h3 k o' (by simpa using hk)
  | some ⟨es, n, mu, f⟩ :: l, some o' :: l', h => by
    obtain ⟨l1, h1, h2, h3⟩ := ObsLow.spec h.2
    refine ⟨some ⟨o'.es, o'.n, mu, o'.f⟩ :: l1, ⟨⟨h.1.es0, h.1.n, rfl, h.1.f⟩, h1⟩, by simp [h2], fun id o2 hk => ?_⟩
    cases id with
    | zero =>
      simp at hk
      subst hk
      refine ⟨_, rfl, rfl, rfl, rfl, fun hm => ?_⟩
      have := h.1.mu
      rw [hm] at this
      cases ho : mu with
      | true => rfl
      | false => rw [ho] at this; cases this
    | succ k => simpa using h3 k o2 (by simpa using hk)
  | [], some o :: l', h => h.elim
  | [], none :: l', h => h.elim
  | none :: l, some o :: l', h => h.elim
  | some o :: l, [], h => h.elim
  | none :: l, [], h => h.elim

theorem Sim.lower {K : Ctx} {β : Book} {a : Act} {w : World} {ns : List Nat} {vs : List AV} {obs1 obs : List (Option Ob)} (hl : obs1.length = obs.length)
    (h : ∀ id o, obs.getD id none = some o → ∃ o1, obs1.getD id none = some o1 ∧ o1.es = o.es ∧ o1.n = o.n ∧ o1.f = o.f ∧ (o.mu = true → o1.mu = true)) (hs : Sim K β (mkSt ns vs obs1) a w) : ∃ β', Sim K β' (mkSt ns vs obs) a w := by
  let ids := (List.range obs.length).filter fun k => match obs.getD k none with | some o => !o.mu | none => false
  have hk : Keeps β w (frzB ids β) w := frzB_keeps ids
  refine ⟨frzB ids β, fun n => (hs.slot n).keep hk, hs.size, hs.defers, fun id o ho => ?_, frzB_inj hs.inj, fun id hid => frzB_none (hs.fresh id (by have hid : obs.length ≤ id := hid; show obs1.length ≤ id; omega)), fun id b n mu hb => ?_, fun id o hid => ?_, hs.bF, hs.hF, hs.kept, hs.hB, fun g m f hgl => (hs.glob g m f hgl).keep hk⟩
  · have ho' : obs.getD id none = some o := ho
    obtain ⟨o1, h1, e1, e2, e3, e4⟩ := h id o ho'
    have hmem : memN ids id = !o.mu := by
      have hlt : id < obs.length := by
        rw [List.getD_eq_getElem?_getD] at ho'
        cases hx : obs[id]? with
        | none => simp [hx] at ho'
        | some x => exact (List.getElem?_eq_some_iff.1 hx).1
      rw [Bool.eq_iff_iff, memN_iff]
      show id ∈ List.filter _ _ ↔ _
      rw [List.mem_filter, List.mem_range, ho']
      simp [hlt]
    rcases hs.heap id o1 h1 with ⟨b, g1, cs, el, k2, k3, k4⟩ | ⟨g1, g2⟩
    · refine .inl ⟨b, ?_, cs, el, k2, by rw [← e1, ← e2, ← e3]; exact k3, fun i j hi hj => ?_⟩
      · rw [frzB_lives g1, hmem, ← e2]
        congr 2
        cases hm : o.mu with
        | true => rw [e4 hm]; rfl
        | false => simp
      · rw [← e2] at hi
        rw [← e1] at hj ⊢
        obtain ⟨vv, j1, j2, j3⟩ := k4 i j hi hj
        exact ⟨vv, j1, by rw [← e3]; exact j2.keep hk, j3⟩
    · exact .inr ⟨by simp [frzB, g1], by rw [← e2]; exact g2⟩
  · obtain ⟨mu', g1, _⟩ := frzB_inv hb
    exact hs.live id b n mu' g1
  · obtain ⟨o', g1, g2⟩ := hs.giv id o hid
    obtain ⟨o2, g3, g4⟩ := hk.ids id o' g1
    exact ⟨o2, g3, Own.later_trans g2 g4⟩

theorem Desc.le {ng : Nat} {s : ASt} {ns π : List Nat} {vals vs : List AV} {os obs : List (Option Ob)} (h : Desc ng s ns π vals os) (hv : EntL os vals vs) (ho : ObsLow os os obs) : Le ng s (mkSt ns vs obs) := by
  obtain ⟨obs1, h1, h2, h3⟩ := ho.spec
  intro K β a w hng hs
  obtain ⟨β1, hs1⟩ := h.le0 hv h1 K β a w hng hs
  exact hs1.lower h2 h3

inductive Sk : Type 1 where
  | no
  | tt (t : Sk)
  | ff (t : Sk)
  | br (b : Bool) (t e : Sk)
  | req (p : Prop) (t : Sk)
  | sc (g : Bool) (f : FuncId) (args : List AV) (r : AV) (t : Sk)
  | dc (g : Bool) (f : FuncId) (args : List AV) (r : AV) (t : Sk)
  | gc (f : FuncId) (obs : List Ob) (args : List AV) (r : AV) (obs' : List (Option Ob)) (t : Sk)
  | loop (ι : Type) (S : ι → ASt) (m : ι → Nat) (i0 : ι) (ns π : List Nat) (vals : List AV) (os : List (Option Ob)) (t : ι → Sk)
  | again (p : ASt → Prop) (ns π : List Nat) (vals : List AV) (os : List (Option Ob))
  | out (x : AV) (os : List (Option Ob)) (r : AV) (obs : List (Option Ob))
  | opq (nt : Nat) (c : Code) (ns π : List Nat) (vals : List AV) (os : List (Option Ob)) (s' : ASt) (t : Sk)

structure LoopD : Type 1 where
  ι : Type
  ns : List Nat
  vs : ι → List AV
  obs : ι → List (Option Ob)
  m : ι → Nat
  i0 : ι

def Again (ng : Nat) {ι : Type} (S : ι → ASt) (m : ι → Nat) (i : ι) : ASt → Prop := fun s' => ∃ i', Le ng s' (S i') ∧ m i' < m i

def unroll (ng : Nat) : Tree → Sk → Sk
  | _, .no => .no
  | .br b t _, .tt k => match b with | true => .tt (unroll ng t k) | false => .no
  | .br b _ e, .ff k => match b with | true => .no | false => .ff (unroll ng e k)
  | .br b t e, .br _ k k' => .br b (unroll ng t k) (unroll ng e k')
  | .req p t, .req _ k => .req p (unroll ng t k)
  | .scall g f args kk, .sc _ _ _ r k => bif sc 9 r then .sc g f args r (unroll ng (kk r) k) else .no
  | .dcall g f args kk, .dc _ _ _ r k => .dc g f args r (unroll ng (kk r) k)
  | .gcall f n obs args kk, .gc _ _ _ r obs' k => bif Nat.ble n obs'.length && Nat.ble obs'.length (n + 8) then .gc f obs args r obs' (unroll ng (kk r obs') k) else .no
  | .loop _ s kk, .loop ι S m i0 ns π _ _ t => bif descOk ng s.c π then .loop ι S m i0 ns π (valsOf s ns π) (osOf s π) (fun i => unroll ng (kk (S i) (Again ng S m i)) (t i)) else .no
  | .again s p, .again _ ns π _ _ => bif descOk ng s.c π then .again p ns π (valsOf s ns π) (osOf s π) else .no
  | .opq n nt c s kk, .opq _ _ ns π _ _ s' t => bif Nat.beq n ng && descOk ng s.c π then .opq nt c ns π (valsOf s ns π) (osOf s π) s' (unroll ng (kk s') t) else .no
  | .out v r obs, .out .. => match v with | some (x, os) => .out x os r obs | none => .no
  | _, _ => .no

def Sk.ok (P : Program) (gl : Globs) (ng : Nat) : Sk → Prop
  | .no => False
  | .tt t => t.ok P gl ng
  | .ff t => t.ok P gl ng
  | .br b t e => (b = true → t.ok P gl ng) ∧ (b = false → e.ok P gl ng)
  | .req p t => p ∧ t.ok P gl ng
  | .sc g f args r t => (g = true → Pure P gl f args r) ∧ t.ok P gl ng
  | .dc g f args r t => (g = true → Pure P gl f args r) ∧ t.ok P gl ng
  | .gc f obs args r obs' t => Gives P gl f obs args r obs' ∧ t.ok P gl ng
  | .loop ι S _ i0 ns π vals os t => (∀ s, Desc ng s ns π vals os → Le ng s (S i0)) ∧ ∀ i : ι, (t i).ok P gl ng
  | .again p ns π vals os => ∀ s, Desc ng s ns π vals os → p s
  | .out x os r obs => Ent os x r ∧ ObsEnt os os obs
  | .opq nt c ns π vals os s' t => (∀ s, Desc ng s ns π vals os → Opq P gl ng nt c s s') ∧ t.ok P gl ng

theorem bif_no {c : Bool} {x y : Sk} (h : (bif c then x else .no) = y) (hy : y ≠ .no) : c = true ∧ x = y := by
  cases c with
  | true => exact ⟨rfl, h⟩
  | false => exact absurd h.symm hy

theorem unroll_ok {P : Program} {gl : Globs} {ng : Nat} (k : Sk) : ∀ T, unroll ng T k = k → k.ok P gl ng → T.wp P gl (Le ng) := by
  induction k with
  | no => intro T _ h; exact h.elim
  | tt t ih =>
    intro T hu h
    cases T <;> simp only [unroll, reduceCtorEq] at hu
    rename_i b t1 e1
    cases b <;> simp only [reduceCtorEq, Sk.tt.injEq] at hu
    exact ⟨fun _ => ih _ hu h, fun h => by cases h⟩
  | ff t ih =>
    intro T hu h
    cases T <;> simp only [unroll, reduceCtorEq] at hu
    rename_i b t1 e1
    cases b <;> simp only [reduceCtorEq, Sk.ff.injEq] at hu
    exact ⟨fun h => (by cases h), fun _ => ih _ hu h⟩
  | br b t e iht ihe =>
    intro T hu h
    cases T <;> simp only [unroll, reduceCtorEq, Sk.br.injEq] at hu
    obtain ⟨rfl, h1, h2⟩ := hu
    exact ⟨fun hb => iht _ h1 (h.1 hb), fun hb => ihe _ h2 (h.2 hb)⟩
  | req p t ih =>
    intro T hu h
    cases T <;> simp only [unroll, reduceCtorEq, Sk.req.injEq] at hu
    obtain ⟨rfl, h1⟩ := hu
    exact ⟨h.1, ih _ h1 h.2⟩
  | sc g f args r t ih =>
    intro T hu h
    cases T <;> simp only [unroll, reduceCtorEq] at hu
    obtain ⟨hs, hu⟩ := bif_no hu (by simp)
    simp only [Sk.sc.injEq, true_and] at hu
    obtain ⟨rfl, rfl, rfl, h1⟩ := hu
    exact ⟨r, h.1, hs, ih _ h1 h.2⟩
  | dc g f args r t ih =>
    intro T hu h
    cases T <;> simp only [unroll, reduceCtorEq, Sk.dc.injEq, true_and] at hu
    obtain ⟨rfl, rfl, rfl, h1⟩ := hu
    exact ⟨r, h.1, ih _ h1 h.2⟩
  | gc f obs args r obs' t ih =>
    intro T hu h
    cases T <;> simp only [unroll, reduceCtorEq] at hu
    obtain ⟨hs, hu⟩ := bif_no hu (by simp)
    simp only [Sk.gc.injEq, true_and] at hu
    obtain ⟨rfl, rfl, rfl, h1⟩ := hu
    exact ⟨r, obs', h.1, hs, ih _ h1 h.2⟩
  | loop ι S m i0 ns π vals os t ih =>
    intro T hu h
    cases T <;> simp only [unroll, reduceCtorEq] at hu
    obtain ⟨hs, hu⟩ := bif_no hu (by simp)
    simp only [Sk.loop.injEq, true_and, heq_eq_eq] at hu
    obtain ⟨rfl, rfl, h1⟩ := hu
    exact ⟨ι, S, m, i0, h.1 _ ⟨hs, rfl, rfl⟩, fun i => ih i _ (congrFun h1 i) (h.2 i)⟩
  | again p ns π vals os =>
    intro T hu h
    cases T <;> simp only [unroll, reduceCtorEq] at hu
    obtain ⟨hs, hu⟩ := bif_no hu (by simp)
    simp only [Sk.again.injEq, true_and] at hu
    obtain ⟨rfl, rfl, rfl⟩ := hu
    exact h _ ⟨hs, rfl, rfl⟩
  | opq nt c ns π vals os s' t ih =>
    intro T hu h
    cases T <;> simp only [unroll, reduceCtorEq] at hu
    obtain ⟨hs, hu⟩ := bif_no hu (by simp)
    rw [Bool.and_eq_true] at hs
    have hn := Nat.eq_of_beq_eq_true hs.1
    simp only [Sk.opq.injEq, true_and] at hu
    obtain ⟨rfl, rfl, rfl, rfl, h1⟩ := hu
    subst hn
    exact ⟨s', h.1 _ ⟨hs.2, rfl, rfl⟩, ih _ h1 h.2⟩
  | out x os r obs =>
    intro T hu h
    cases T <;> simp only [unroll, reduceCtorEq] at hu
    rename_i v r1 obs1
    cases v with
    | none => simp at hu
    | some xo =>
      obtain ⟨x1, os1⟩ := xo
      simp only [Sk.out.injEq] at hu
      obtain ⟨rfl, rfl, rfl, rfl⟩ := hu
      exact ⟨x1, os1, rfl, h.1, h.2⟩

def walk (P : Program) (gl : Globs) (own : FuncId → Option (List Bool)) (hand : Bool) (fn : Func) (obs : List Ob) (args : List AV) (r : AV) (obs' : List (Option Ob)) : Tree := match fn.body with
  | some code => run ⟨P, gl, fn.ntmps, own, obs.length⟩ code (Back P fn obs.length hand args r obs') (entry args obs)
  | none => .bad "no body"

section
variable {P : Program} {gl : Globs} {own : FuncId → Option (List Bool)}

theorem gives_sk {hand : Bool} {f : FuncId} {fn : Func} {obs : List Ob} {args : List AV} {r : AV} {obs' : List (Option Ob)} (hf : P.funcs[f]? = some fn) (hname : (fn.name == "runtime.NumGoroutine") = false) (hm : P.follows .mixedOrders = true)
    (hn : Nat.ble args.length fn.ntmps = true) (sk : Sk) (hu : unroll obs.length (walk P gl own hand fn obs args r obs') sk = sk) (h : sk.ok P gl obs.length) : Gives P gl f obs args r obs' := by
  have hwp := unroll_ok sk _ hu h
  unfold walk at hwp
  cases hb : fn.body with
  | none => rw [hb] at hwp; exact hwp.elim
  | some code => rw [hb] at hwp; exact gives_of hf hb hname hm hn hwp

theorem pure_sk {f : FuncId} {fn : Func} {args : List AV} {r : AV} (hf : P.funcs[f]? = some fn) (hname : (fn.name == "runtime.NumGoroutine") = false) (hm : P.follows .mixedOrders = true)
    (hn : Nat.ble args.length fn.ntmps = true) (sk : Sk) (hu : unroll 0 (walk P gl own false fn [] args r []) sk = sk) (h : sk.ok P gl 0) : Pure P gl f args r :=
  gives_sk hf hname hm hn sk hu h

variable {ng : Nat}

theorem k_tt {t : Sk} (h : t.ok P gl ng) : (Sk.tt t).ok P gl ng := h
theorem k_ff {t : Sk} (h : t.ok P gl ng) : (Sk.ff t).ok P gl ng := h
theorem k_br {b : Bool} {t e : Sk} (h1 : b = true → t.ok P gl ng) (h2 : b = false → e.ok P gl ng) : (Sk.br b t e).ok P gl ng := ⟨h1, h2⟩
theorem k_req {p : Prop} {t : Sk} (h1 : p) (h2 : t.ok P gl ng) : (Sk.req p t).ok P gl ng := ⟨h1, h2⟩
theorem k_sc {f : FuncId} {args : List AV} {r : AV} {t : Sk} (h1 : Pure P gl f args r) (h2 : t.ok P gl ng) : (Sk.sc true f args r t).ok P gl ng := ⟨fun _ => h1, h2⟩
theorem k_scg {g : Bool} {f : FuncId} {args : List AV} {r : AV} {t : Sk} (h1 : g = true → Pure P gl f args r) (h2 : t.ok P gl ng) : (Sk.sc g f args r t).ok P gl ng := ⟨h1, h2⟩
theorem k_dc {f : FuncId} {args : List AV} {r : AV} {t : Sk} (h1 : Pure P gl f args r) (h2 : t.ok P gl ng) : (Sk.dc true f args r t).ok P gl ng := ⟨fun _ => h1, h2⟩
theorem k_gc {f : FuncId} {obs : List Ob} {args : List AV} {r : AV} {obs' : List (Option Ob)} {t : Sk} (h1 : Gives P gl f obs args r obs') (h2 : t.ok P gl ng) : (Sk.gc f obs args r obs' t).ok P gl ng := ⟨h1, h2⟩
theorem k_loop {ι : Type} {S : ι → ASt} {m : ι → Nat} {i0 : ι} {ns π : List Nat} {vals : List AV} {os : List (Option Ob)} {t : ι → Sk} (h1 : ∀ s, Desc ng s ns π vals os → Le ng s (S i0)) (h2 : ∀ i, (t i).ok P gl ng) :
    (Sk.loop ι S m i0 ns π vals os t).ok P gl ng := ⟨h1, h2⟩
theorem k_again {ι : Type} {S : ι → ASt} {m : ι → Nat} {i : ι} {ns π : List Nat} {vals : List AV} {os : List (Option Ob)} (i' : ι) (h1 : ∀ s, Desc ng s ns π vals os → Le ng s (S i')) (h2 : m i' < m i) :
    (Sk.again (Again ng S m i) ns π vals os).ok P gl ng := fun s hs => ⟨i', h1 s hs, h2⟩
theorem k_out {x r : AV} (h : Ent [] x r) : (Sk.out x [] r []).ok P gl ng := ⟨h, trivial⟩
theorem k_outg {x r : AV} {os obs : List (Option Ob)} (h : Ent os x r) (h2 : ObsEnt os os obs) : (Sk.out x os r obs).ok P gl ng := ⟨h, h2⟩

end
end Go.Am

namespace Go.Am
open Go.RowKit

theorem Ent.junk {os : List (Option Ob)} (a : AV) : Ent os a .junk := fun _ _ _ _ _ => .junk

theorem Ent.nn {os : List (Option Ob)} {a b : AV} (h : Ent os a b) : Ent os (.nn a) b := fun _ _ _ hh hr => by
  cases hr with | nn h' => exact h _ _ _ hh h'

theorem Ent.isl {os : List (Option Ob)} {es n : Nat} {f g : Nat → Nat → AV} (h : ∀ i j, i < n → j < es → f i j = g i j) : Ent os (.isl es n f) (.isl es n g) := fun _ _ _ _ hr => by
  cases hr with
  | isl vals he hcap hb hc ho hr hcl => exact .isl vals he hcap hb hc ho (fun i j hi hj => by rw [← h i j hi hj]; exact hr i j hi hj) (fun i j hi hj => by rw [← h i j hi hj]; exact hcl i j hi hj)
  | isl0 h' => exact .isl0 h'

theorem Ent.islN {os : List (Option Ob)} {es n n' : Nat} {f g : Nat → Nat → AV} (hn : n = n') (h : ∀ i j, i < n → j < es → f i j = g i j) : Ent os (.isl es n f) (.isl es n' g) := by subst hn; exact Ent.isl h

theorem ObEnt.refl {os : List (Option Ob)} (o : Ob) : ObEnt os o o := ⟨by rw [tyc_refl], rfl, rfl, fun _ _ _ _ => Ent.refl _⟩
theorem ObsEnt.refl {os : List (Option Ob)} : ∀ l : List (Option Ob), ObsEnt os l l
  | [] => trivial
  | none :: l => ObsEnt.refl l
  | some o :: l => ⟨.refl o, ObsEnt.refl l⟩

theorem EntL.refl {os : List (Option Ob)} : ∀ l : List AV, EntL os l l
  | [] => trivial
  | a :: l => ⟨Ent.refl a, EntL.refl l⟩

theorem Ent.atL {os : List (Option Ob)} {l l' : List AV} (h : EntL os l l') (j : Nat) : Ent os (atL l j) (atL l' j) := by
  obtain ⟨h1, h2⟩ := h.spec
  unfold Am.atL
  rw [List.getD_eq_getElem?_getD, List.getD_eq_getElem?_getD]
  by_cases hj : j < l.length
  · have e1 : l[j]? = some l[j] := by simp [hj]
    have e2 : l'[j]? = some (l'[j]'(by omega)) := by rw [List.getElem?_eq_getElem]
    rw [e1, e2]
    exact h2 j _ _ e1 e2
  · rw [List.getElem?_eq_none (by omega), List.getElem?_eq_none (by omega)]
    exact Ent.refl _

theorem ObEnt.row {os : List (Option Ob)} {es : Nat} {mu : Bool} {l l' : List AV} (h : EntL os l l') : ObEnt os ⟨es, 1, mu, .lst [l]⟩ ⟨es, 1, mu, .lst [l']⟩ := ⟨rfl, rfl, rfl, fun i j hi _ => by
  have hi : i < 1 := hi
  obtain rfl : i = 0 := by omega
  exact Ent.atL h j⟩
theorem ObEnt.junk {os : List (Option Ob)} {es n : Nat} {mu : Bool} {f : Rep} : ObEnt os ⟨es, n, mu, f⟩ ⟨es, n, mu, .fn fun _ _ => .junk⟩ := ⟨rfl, rfl, rfl, fun _ _ _ _ => Ent.junk _⟩

theorem ObEnt.zero {os : List (Option Ob)} {es : Nat} {mu : Bool} {f g : Rep} (ht : tyc f g = true := by rfl) : ObEnt os ⟨es, 0, mu, f⟩ ⟨es, 0, mu, g⟩ := ⟨congrArg (Prod.mk es) ht, rfl, rfl, fun i _ hi _ => by have hi : i < 0 := hi; omega⟩

theorem atL_map_range {es j : Nat} {g : Nat → AV} (hj : j < es) : Am.atL ((List.range es).map g) j = g j := by
  unfold Am.atL
  rw [List.getD_eq_getElem?_getD, List.getElem?_map, List.getElem?_range hj]
  rfl

theorem ObEnt.len {os : List (Option Ob)} {es n n' : Nat} {mu : Bool} {f : Rep} (h : n = n') : ObEnt os ⟨es, n, mu, f⟩ ⟨es, n', mu, f⟩ := by subst h; exact .refl _

theorem ObEnt.push {os : List (Option Ob)} {es x x' : Nat} {mu : Bool} {k : IntKind} {f : Nat → Nat → Int} {l : List AV} (h : l = (List.range es).map (fun j => .int k (f x j))) (hx : x' = x + 1) :
    ObEnt os ⟨es, x + 1, mu, .fn fun i j => .int k (bif Nat.blt i x then f i j else intOfAV (Am.atL l j))⟩ ⟨es, x', mu, .fn fun i j => .int k (f i j)⟩ := by
  subst hx
  refine ⟨rfl, rfl, rfl, fun i j hi hj => Ent.of_eq ?_⟩
  have hi : i < x + 1 := hi
  have hj : j < es := hj
  show AV.int k _ = AV.int k _
  cases hb : Nat.blt i x with
  | true => rfl
  | false =>
    have : i = x := by
      have : ¬ i < x := fun hlt => by rw [← Nat.blt_eq, hb] at hlt; cases hlt
      omega
    subst this
    rw [h, atL_map_range hj]
    rfl

theorem ObEnt.cat {os : List (Option Ob)} {es n m n' : Nat} {mu : Bool} {f g h : Rep} (hn : n' = n + m) (h1 : ∀ i j, i < n → j < es → Ent os (f i j) (h i j)) (h2 : ∀ i j, i < m → j < es → Ent os (g i j) (h (n + i) j)) (ht : tyc (.cat n f g) h = true := by rfl) :
    ObEnt os ⟨es, n + m, mu, .cat n f g⟩ ⟨es, n', mu, h⟩ := by
  subst hn
  refine ⟨congrArg (Prod.mk es) ht, rfl, rfl, fun i j hi hj => ?_⟩
  have hi : i < n + m := hi
  show Ent os (mixA (Nat.blt i n) (f.at i j) (g.at (i - n) j)) (h i j)
  cases hb : Nat.blt i n with
  | true => rw [mixA_tt]; exact h1 i j (by simpa [Nat.blt_eq] using hb) hj
  | false =>
    rw [mixA_ff]
    have hge : n ≤ i := Nat.le_of_not_lt fun hlt => by rw [← Nat.blt_eq, hb] at hlt; cases hlt
    have := h2 (i - n) j (by omega) hj
    rwa [show n + (i - n) = i by omega] at this

theorem ObEnt.put {os : List (Option Ob)} {es n k : Nat} {mu : Bool} {x : List AV} {f h : Rep} (h1 : ∀ j, k < n → j < es → Ent os (Am.atL x j) (h k j)) (h2 : ∀ i j, i < n → i ≠ k → j < es → Ent os (f i j) (h i j)) (ht : tyc (.put k x f) h = true := by rfl) :
    ObEnt os ⟨es, n, mu, .put k x f⟩ ⟨es, n, mu, h⟩ := by
  refine ⟨congrArg (Prod.mk es) ht, rfl, rfl, fun i j hi hj => ?_⟩
  have hi : i < n := hi
  show Ent os (mixA (Nat.beq i k) (Am.atL x j) (f.at i j)) (h i j)
  cases hb : Nat.beq i k with
  | true =>
    rw [mixA_tt]
    have := Nat.eq_of_beq_eq_true hb
    subst this
    exact h1 j hi hj
  | false =>
    rw [mixA_ff]
    exact h2 i j hi (fun e => by subst e; rw [Nat.beq_refl] at hb; cases hb) hj

theorem ObEnt.catRow {os : List (Option Ob)} {es n n' : Nat} {mu : Bool} {c c' : Nat → List AV} {x : List AV} (hn : n' = n + 1) (hc : ∀ i, i < n → EntL os (c i) (c' i)) (hx : EntL os x (c' n)) :
    ObEnt os ⟨es, n + 1, mu, .cat n (.row c) (.lst [x])⟩ ⟨es, n', mu, .row c'⟩ :=
  ObEnt.cat hn (fun i j hi _ => Ent.atL (hc i hi) j) (fun i j hi _ => by
    obtain rfl : i = 0 := by omega
    exact Ent.atL hx j)
theorem ObEnt.pushRow {os : List (Option Ob)} {es n n' : Nat} {mu : Bool} {c : Nat → List AV} (hn : n' = n + 1) : ObEnt os ⟨es, n + 1, mu, .cat n (.row c) (.lst [c n])⟩ ⟨es, n', mu, .row c⟩ :=
  ObEnt.catRow hn (fun _ _ => EntL.refl _) (EntL.refl _)

def ilF (k : IntKind) (l : List Int) : Nat → Nat → AV := fun i _ => .int k (l.getD i 0)
abbrev il (k : IntKind) (l : List Int) : AV := .isl 1 l.length (ilF k l)
abbrev ilO (k : IntKind) (l : List Int) : Option Ob := some ⟨1, l.length, true, .fn (ilF k l)⟩

theorem Ent.nsl {os : List (Option Ob)} {es : Nat} {f : Nat → Nat → AV} : Ent os .nsl (.isl es 0 f) := fun _ _ _ _ hr => by
  cases hr; exact .isl0 (fun _ => rfl)

theorem Ent.agg {os : List (Option Ob)} {l l' : List AV} (h : EntL os l l') : Ent os (.agg l) (.agg l') := fun _ _ _ hh hr => by
  obtain ⟨h1, h2⟩ := h.spec
  obtain ⟨vs, rfl, hl, hr⟩ := rel_agg_inv hr
  refine .agg (by rw [← h1]; exact hl) fun j u x hu hx => ?_
  have hj : j < l.length := by rw [h1]; exact (List.getElem?_eq_some_iff.1 hu).1
  exact h2 j l[j] u (by simp [hj]) hu _ _ _ hh (hr j _ _ (by simp [hj]) hx)

theorem Ent.tup {os : List (Option Ob)} {l l' : List AV} (h : EntL os l l') : Ent os (.tup l) (.tup l') := fun _ _ _ hh hr => by
  obtain ⟨h1, h2⟩ := h.spec
  obtain ⟨vs, rfl, hl, hr⟩ := rel_tup_inv hr
  refine .tup (by rw [← h1]; exact hl) fun j u x hu hx => ?_
  have hj : j < l.length := by rw [h1]; exact (List.getElem?_eq_some_iff.1 hu).1
  exact h2 j l[j] u (by simp [hj]) hu _ _ _ hh (hr j _ _ (by simp [hj]) hx)

section
variable {P : Program} {gl : Globs} {f : FuncId}

theorem Gives.nilSplit {obs : List Ob} {r : AV} {obs' : List (Option Ob)} (pre post : List AV) (es n : Nat) (g : Nat → Nat → AV) (h1 : n = 0 → Gives P gl f obs (pre ++ .nsl :: post) r obs')
    (h2 : Gives P gl f obs (pre ++ .nn (.isl es n g) :: post) r obs') : Gives P gl f obs (pre ++ .isl es n g :: post) r obs' := by
  refine ⟨h2.1, fun β w vs hF hgiv hgl hargs => ?_⟩
  have hx : ∀ (a b : AV), (∀ v, vs[pre.length]? = some v → Rel β w b v) → Rels β w (pre ++ a :: post) vs → Rels β w (pre ++ b :: post) vs := fun a b hb hr => by
    refine ⟨by have := hr.len; simpa using this, fun j u x hu hxx => ?_⟩
    rcases Nat.lt_trichotomy j pre.length with h | h | h
    · refine hr.rel j u x ?_ hxx
      rw [List.getElem?_append_left h] at hu ⊢
      exact hu
    · subst h
      simp at hu
      subst hu
      exact hb x hxx
    · refine hr.rel j u x ?_ hxx
      rw [List.getElem?_append_right (by omega)] at hu ⊢
      obtain ⟨q, hq⟩ : ∃ q, j - pre.length = q + 1 := ⟨j - pre.length - 1, by omega⟩
      rw [hq] at hu ⊢
      simpa using hu
  obtain ⟨v, hv, hr⟩ := hargs.at (j := pre.length) (u := .isl es n g) (by simp)
  obtain ⟨a, cap, rfl, hcap, hnil, _⟩ := rel_isl_inv hr
  cases a with
  | none =>
    have hc := hnil rfl
    subst hc
    have hn : n = 0 := by omega
    subst hn
    exact (h1 rfl).2 β w vs hF hgiv hgl (hx _ _ (fun v' hv' => by rw [hv] at hv'; cases hv'; exact .nsl) hargs)
  | some ad => exact h2.2 β w vs hF hgiv hgl (hx _ _ (fun v' hv' => by rw [hv] at hv'; cases hv'; exact .nn hr) hargs)

theorem Gives.nil {obs : List Ob} {args : List AV} {obs' : List (Option Ob)} (h : Gives P gl f obs args .nsl obs') (es : Nat) (g : Rep) :
    Gives P gl f obs args (.osl obs'.length es 0 0) (obs' ++ [some ⟨es, 0, true, g⟩]) := by
  refine ⟨h.1, fun β w vs hF hgiv hgl hargs => (h.2 β w vs hF hgiv hgl hargs).mono fun e w' hh => ?_⟩
  obtain ⟨v, β', he, hk, hA, hr⟩ := hh
  have hn := hA.none obs'.length (Nat.le_refl _)
  let β2 : Book := setB β' [(obs'.length, .empty)]
  have at0 : β2.m obs'.length = some .empty := setB_at (by rw [look_one, if_pos rfl])
  have old : ∀ k, k ≠ obs'.length → β2.m k = β'.m k := fun k hk => setB_old (by rw [look_one, if_neg (fun e => hk e.symm)])
  have lv : ∀ k b n mu, β2.m k = some (.lives b n mu) → β'.m k = some (.lives b n mu) := fun k b n mu hb => by
    by_cases e : k = obs'.length
    · subst e; rw [at0] at hb; cases hb
    · rw [old k e] at hb; exact hb
  have kk : Keeps β' w' β2 w' := ⟨fun id o ho => ⟨o, by
      rw [old id (fun e => by subst e; rw [hn] at ho; cases ho)]; exact ho, o.later_refl⟩, fun _ _ _ => rfl, fun b _ hf => ⟨hf.1, fun id n h => hf.2 id n (lv _ _ _ _ h)⟩, fun _ _ _ h => h⟩
  cases hr
  refine ⟨_, β2, he, hk, ⟨hA.F, fun k ob hkk => ?_, fun k hkk => ?_, fun i j b n n' mu mu' h1 h2 => hA.inj i j b n n' mu mu' (lv _ _ _ _ h1) (lv _ _ _ _ h2), fun k b n mu hb => hA.live k b n mu (lv _ _ _ _ hb), fun k o ho => ?_⟩, .osl0 (by rw [at0]; simp)⟩
  · by_cases e : k = obs'.length
    · subst e
      simp at hkk
      subst hkk
      exact .inr ⟨at0, rfl⟩
    · have hkk' : obs'[k]? = some (some ob) := by
        rcases Nat.lt_or_ge k obs'.length with h' | h'
        · rw [List.getElem?_append_left h'] at hkk; exact hkk
        · rw [List.getElem?_eq_none (by simp; omega)] at hkk; cases hkk
      rcases hA.holds k ob hkk' with ⟨b, g1, g2⟩ | ⟨g1, g2⟩
      · exact .inl ⟨b, by rw [old k e]; exact g1, g2.keep kk rfl⟩
      · exact .inr ⟨by rw [old k e]; exact g1, g2⟩
  · simp at hkk
    rw [old k (by omega)]
    exact hA.none k (by omega)
  · obtain ⟨o', g1, g2⟩ := hA.later k o ho
    exact ⟨o', by rw [old k (fun e => by subst e; rw [hn] at g1; cases g1)]; exact g1, g2⟩

theorem Gives.ent {obs : List Ob} {args : List AV} {r r' : AV} {obs' obs2 : List (Option Ob)} (h : Gives P gl f obs args r obs') (hr : Ent obs' r r') (ho : ObsEnt obs' obs' obs2) : Gives P gl f obs args r' obs2 := by
  refine ⟨h.1, fun β w vs hF hgiv hgl hargs => (h.2 β w vs hF hgiv hgl hargs).mono fun e w' hh => ?_⟩
  obtain ⟨v, β', he, hk, hA, hv⟩ := hh
  obtain ⟨hl, hs⟩ := ho.spec
  have hHas : Has obs' β' := fun k o hk => by rcases hA.holds k o hk with ⟨b, g, _⟩ | ⟨g, _⟩ <;> (rw [g]; simp)
  refine ⟨v, β', he, hk, ⟨hA.F, fun k ob hkk => ?_, fun k hkk => hA.none k (by omega), hA.inj, hA.live, hA.later⟩, hr _ _ _ hHas hv⟩
  obtain ⟨o1, g1, g2⟩ := hs k ob hkk
  have e1 := g2.es; have e2 := g2.n; have e3 := g2.mu; have e4 := g2.f
  rcases hA.holds k o1 g1 with ⟨b, k1, cs, el, k2, k3, k4⟩ | ⟨k1, k2⟩
  · refine .inl ⟨b, by rw [← e2, ← e3]; exact k1, cs, el, k2, k3.ent g2, fun i j hi hj => ?_⟩
    rw [← e2] at hi
    rw [← e1] at hj ⊢
    obtain ⟨vv, j1, j2, j3⟩ := k4 i j hi hj
    exact ⟨vv, j1, e4 i j hi hj _ _ _ hHas j2, j3⟩
  · exact .inr ⟨k1, by rw [← e2]; exact k2⟩

theorem Gives.via {obs : List Ob} {args args' : List AV} {r : AV} {obs' : List (Option Ob)} (h : Gives P gl f obs args' r obs') (he : EntL (obs.map some) args args') : Gives P gl f obs args r obs' := by
  refine ⟨h.1, fun β w vs hF hgiv hgl hargs => h.2 β w vs hF hgiv hgl ?_⟩
  obtain ⟨h1, h2⟩ := he.spec
  have hHas : Has (obs.map some) β := fun k o hk => by
    rw [List.getElem?_map] at hk
    cases ho : obs[k]? with
    | none => simp [ho] at hk
    | some ob => rcases hgiv.holds k ob ho with ⟨b, g, _⟩ | ⟨g, _⟩ <;> (rw [g]; simp)
  refine ⟨by rw [← h1]; exact hargs.len, fun j u x hu hx => ?_⟩
  have hj : j < args.length := by rw [h1]; exact (List.getElem?_eq_some_iff.1 hu).1
  exact h2 j args[j] u (by simp [hj]) hu _ _ _ hHas (hargs.rel j _ _ (by simp [hj]) hx)

theorem Pure.via {args args' : List AV} {r : AV} (h : Pure P gl f args' r) (he : EntL [] args args') : Pure P gl f args r := Gives.via h he

theorem Ent.rows {os : List (Option Ob)} {es n : Nat} {f g : Nat → Nat → AV} (h : ∀ i, i < n → (List.range es).map (f i) = (List.range es).map (g i)) : Ent os (.isl es n f) (.isl es n g) :=
  Ent.isl fun i j hi hj => by
    have := congrArg (fun l => l[j]?) (h i hi)
    simpa [hj] using this

theorem Pure.ent {args : List AV} {r r' : AV} (h : Pure P gl f args r) (hr : Ent [] r r') : Pure P gl f args r' := Gives.ent h hr trivial

end
end Go.Am

namespace Go.Am
open Go.RowKit Go.ChangeShapes Go.WideShapes Go.ChangeAt

inductive CT where
  | int (k : IntKind)
  | bool
  | str
  | sl (cs : List CT)

inductive CellOk : CT → AV → Prop where
  | int {k : IntKind} {n : Int} (h : (Lit.int k n).wf = true) : CellOk (.int k) (.int k n)
  | bool {b : Bool} : CellOk .bool (.bool b)
  | str {s : ByteArray} (h : s.size ≤ maxLen) : CellOk .str (.str s)
  | sl {cs : List CT} {n : Nat} {f : Nat → Nat → AV} (hn : n ≤ maxLen) (h : ∀ (i j : Nat) c, i < n → cs[j]? = some c → CellOk c (f i j)) : CellOk (.sl cs) (.isl cs.length n f)

def shapeFs (P : Program) (sh : TypeId → Option (List CT)) : Nat → List Field → Option (List CT)
  | _, [] => some []
  | off, f :: fs => match sh f.type with
    | some l => bif Nat.beq f.offset off && Nat.beq l.length (P.cellsOf f.type) then (match shapeFs P sh (off + l.length) fs with | some r => some (l ++ r) | none => none) else none
    | none => none

def shape (P : Program) : Nat → TypeId → Option (List CT)
  | 0, _ => none
  | n + 1, t => match P.underlying t with
    | some .bool => some [.bool]
    | some (.int k) => some [.int k]
    | some .string => some [.str]
    | some (.slice e) => match shape P n e with
      | some l => bif Nat.beq l.length (P.cellsOf e) && Nat.blt 0 l.length then some [.sl l] else none
      | none => none
    | some (.struct fs) => match shapeFs P (shape P n) 0 fs.toList with
      | some l => bif Nat.beq l.length (P.cellsOf t) then some l else none
      | none => none
    | some (.array m e) => match shape P n e with
      | some l => bif Nat.beq l.length (P.cellsOf e) && Nat.beq (m * l.length) (P.cellsOf t) then some (List.replicate m l).flatten else none
      | none => none
    | _ => none

abbrev noB : Book := Book.none fun _ => False
theorem noB_free (b : Nat) : noB.free b := ⟨fun h => h, fun _ _ h => by cases h⟩

structure Fits (w : World) (ts : List CT) (cs : List Value) : Prop where
  len : cs.length = ts.length
  cell : ∀ (j : Nat) c, ts[j]? = some c → ∃ v a, cs[j]? = some v ∧ CellOk c a ∧ Rel noB w a v ∧ v.oneCell' = true

theorem Fits.nil {w : World} : Fits w [] [] := ⟨rfl, fun j c h => by simp at h⟩
theorem Fits.one {w : World} {c : CT} {v : Value} {a : AV} (h : CellOk c a) (hr : Rel noB w a v) (ho : v.oneCell' = true) : Fits w [c] [v] := by
  refine ⟨rfl, fun j c' hj => ?_⟩
  cases j with
  | zero => simp at hj; subst hj; exact ⟨v, a, rfl, h, hr, ho⟩
  | succ j => simp at hj
theorem Fits.append {w : World} {ts ts' : List CT} {cs cs' : List Value} (h : Fits w ts cs) (h' : Fits w ts' cs') : Fits w (ts ++ ts') (cs ++ cs') := by
  refine ⟨by simp [h.len, h'.len], fun j c hj => ?_⟩
  by_cases hl : j < ts.length
  · rw [List.getElem?_append_left hl] at hj
    rw [List.getElem?_append_left (by rw [h.len]; exact hl)]
    exact h.cell j c hj
  · rw [List.getElem?_append_right (by omega)] at hj
    rw [List.getElem?_append_right (by rw [h.len]; omega), h.len]
    exact h'.cell _ c hj

theorem mapM_each {α β : Type} {f : α → Option β} {l : List α} {r : List β} (h : l.mapM f = some r) {x : α} (hx : x ∈ l) : ∃ y, f x = some y := by
  obtain ⟨i, hi, rfl⟩ := List.getElem_of_mem hx
  have h1 := mapM_some_length h
  have h2 := mapM_some_get h i _ (List.getElem?_eq_getElem hi)
  rw [h2, List.getElem?_eq_getElem (by omega)]
  exact ⟨_, rfl⟩

theorem drop_take_split {cs : List Value} {off a b : Nat} : (cs.drop off).take (a + b) = (cs.drop off).take a ++ (cs.drop (off + a)).take b := by
  rw [List.take_add, List.drop_drop]

section
variable {H : Type} {enc : TypeId × Value → H} {P : Program} {w : World} {sp : Nat → Bool}

theorem fits_fields {sh : TypeId → Option (List CT)} {cs : List Value} : ∀ (fs : List Field) (off : Nat) (ts : List CT), shapeFs P sh off fs = some ts → (∀ f ∈ fs, ∀ l, sh f.type = some l → Fits w l ((cs.drop f.offset).take (P.cellsOf f.type))) →
    Fits w ts ((cs.drop off).take ts.length) := by
  intro fs
  induction fs with
  | nil => intro off ts h _; simp [shapeFs] at h; subst h; simpa using Fits.nil
  | cons f fs ih =>
    intro off ts h hf
    simp only [shapeFs] at h
    cases hl : sh f.type with
    | none => simp [hl] at h
    | some l =>
      simp only [hl] at h
      obtain ⟨hc, h2⟩ := bif_some h
      rw [Bool.and_eq_true] at hc
      have e1 := Nat.eq_of_beq_eq_true hc.1
      have e2 := Nat.eq_of_beq_eq_true hc.2
      cases hr : shapeFs P sh (off + l.length) fs with
      | none => simp [hr] at h2
      | some r =>
        simp only [hr, Option.some.injEq] at h2
        subst h2
        have g1 := hf f (List.mem_cons_self ..) l hl
        have g2 := ih (off + l.length) r hr (fun f' hf' => hf f' (List.mem_cons_of_mem _ hf'))
        rw [e1, ← e2] at g1
        rw [List.length_append, drop_take_split]
        exact g1.append g2

theorem fits_elems {cs : List Value} {l : List CT} : ∀ n : Nat, (∀ i, i < n → Fits w l ((cs.drop (i * l.length)).take l.length)) → Fits w (List.replicate n l).flatten (cs.take (n * l.length)) := by
  intro n
  induction n with
  | zero => intro _; simpa using Fits.nil
  | succ n ih =>
    intro h
    have g1 := ih (fun i hi => h i (by omega))
    have g2 := h n (by omega)
    have e : cs.take ((n + 1) * l.length) = cs.take (n * l.length) ++ (cs.drop (n * l.length)).take l.length := by
      rw [Nat.add_mul, Nat.one_mul, List.take_add]
    have e2 : (List.replicate (n + 1) l).flatten = (List.replicate n l).flatten ++ l := by
      rw [List.replicate_succ', List.flatten_append]; simp
    rw [e, e2]
    exact g1.append g2

theorem open_fits : ∀ (m : Nat) (t : TypeId) (fuel : Nat) (cs : List Value) (x : DataW H × List MemPlace) (ts : List CT), DataW.trod enc P w 0 sp true fuel t cs = some x → shape P m t = some ts → Fits w ts cs := by
  intro m
  induction m with
  | zero => intro t fuel cs x ts _ h; simp [shape] at h
  | succ m ih =>
    intro t fuel cs x ts htr hsh
    simp only [shape] at hsh
    cases fuel with
    | zero => simp [DataW.trod] at htr
    | succ fuel =>
      split at hsh
      · rename_i hu
        simp only [Option.some.injEq] at hsh; subst hsh
        simp only [DataW.trod, hu] at htr
        split at htr <;> simp_all
        exact .one .bool .bool rfl
      · rename_i k hu
        simp only [Option.some.injEq] at hsh; subst hsh
        simp only [DataW.trod, hu] at htr
        split at htr <;> simp_all
        obtain ⟨⟨rfl, hw⟩, _⟩ := htr
        exact .one (.int hw) .int rfl
      · rename_i hu
        simp only [Option.some.injEq] at hsh; subst hsh
        simp only [DataW.trod, hu] at htr
        split at htr <;> simp_all
        exact .one (.str htr.1) .str rfl
      · rename_i e hu
        split at hsh
        · rename_i l hl
          obtain ⟨hc, h2⟩ := bif_some hsh
          clear hsh
          rw [Bool.and_eq_true, Nat.blt_eq] at hc
          have e1 := Nat.eq_of_beq_eq_true hc.1
          cases h2
          rcases Go.Deep.open_slice hu htr with ⟨rfl, _⟩ | ⟨a, len, cap, m', n, D, Pl, rfl, hb, hlc, hm, hmm, _, hx⟩
          · exact .one (a := .isl l.length 0 fun _ _ => .junk) (.sl (Nat.zero_le _) (fun i j c hi => absurd hi (by omega))) (.isl0 fun _ => rfl) rfl
          · have hlm : len ≤ m' := by rw [hmm]; split <;> omega
            have hrow : ∀ i, i < len → ∃ cs', w.cells? 0 (a.add (i * l.length)) l.length = some cs' ∧ Fits w l cs' := fun i hi => by
              obtain ⟨cs', h1, h2⟩ := hx i (by omega)
              rw [← e1] at h1
              exact ⟨cs', h1, ih e n cs' _ l h2 hl⟩
            obtain ⟨C, hC⟩ := Go.Deep.choose_lt hrow
            have hcell : ∀ i j c, i < len → l[j]? = some c → ∃ p : Value × AV, w.cell? (a.add (i * l.length + j)) = some p.1 ∧ CellOk c p.2 ∧ Rel noB w p.2 p.1 ∧ p.1.oneCell' = true := fun i j c hi hj => by
              obtain ⟨h1, h2⟩ := hC i hi
              obtain ⟨v, av, g1, g2, g3, g4⟩ := h2.cell j c hj
              obtain ⟨_, k1, k2⟩ := World.cells?_some h1
              refine ⟨(v, av), ?_, g2, g3, g4⟩
              have hjl : j < l.length := (List.getElem?_eq_some_iff.1 hj).1
              have := k2 j hjl
              rw [Go.Deep.add_add, g1] at this
              exact this
            have hex : ∀ i, i < len → ∃ g : Nat → Value × AV, ∀ j, j < l.length → ∃ c, l[j]? = some c ∧ w.cell? (a.add (i * l.length + j)) = some (g j).1 ∧ CellOk c (g j).2 ∧ Rel noB w (g j).2 (g j).1 ∧ (g j).1.oneCell' = true := fun i hi => by
              have : Inhabited (Value × AV) := ⟨(.bool true, .junk)⟩
              exact Go.Deep.choose_lt (p := fun j (g : Value × AV) => ∃ c, l[j]? = some c ∧ w.cell? (a.add (i * l.length + j)) = some g.1 ∧ CellOk c g.2 ∧ Rel noB w g.2 g.1 ∧ g.1.oneCell' = true) (fun j hj => by
                obtain ⟨p, h1, h2, h3, h4⟩ := hcell i j l[j] hi (by simp [hj])
                exact ⟨p, l[j], by simp [hj], h1, h2, h3, h4⟩)
            have : Inhabited (Nat → Value × AV) := ⟨fun _ => (.bool true, .junk)⟩
            obtain ⟨G, hG⟩ := Go.Deep.choose_lt hex
            refine .one (a := .isl l.length len fun i j => (G i j).2) (.sl (by omega) (fun i j c hi hj => ?_)) ?_ rfl
            · have hjl : j < l.length := (List.getElem?_eq_some_iff.1 hj).1
              obtain ⟨c', g1, _, g3, _⟩ := hG i hi j hjl
              rw [hj] at g1; cases g1
              exact g3
            · rcases Nat.eq_zero_or_pos len with rfl | hpos
              · exact .isl0 (fun h => by cases h)
              · obtain ⟨b, off, spot⟩ := a
                have hspot : spot = none := by
                  obtain ⟨c', _, g2, _⟩ := hG 0 hpos 0 hc.2
                  have := World.cell?_spot g2
                  simpa [Addr.add] using this
                subst hspot
                refine .isl (fun i j => (G i j).1) hc.2 hlc (noB_free b) (fun i j hi hj => ?_) (fun i j hi hj => ?_) (fun i j hi hj => ?_) (fun i j hi hj => ?_)
                · obtain ⟨c', _, g2, _⟩ := hG i hi j hj
                  rw [← g2]
                  congr 1
                  unfold Addr.add
                  split
                  · rename_i h0
                    have : i * l.length = 0 := by omega
                    have : j = 0 := by omega
                    simp [*]
                  · simp; omega
                · obtain ⟨c', _, _, _, _, g5⟩ := hG i hi j hj; exact g5
                · obtain ⟨c', _, _, _, g4, _⟩ := hG i hi j hj; exact g4
                · obtain ⟨c', _, _, _, g4, _⟩ := hG i hi j hj; exact g4.closed
        · cases hsh
      · rename_i fs hu
        split at hsh
        · rename_i l hl
          obtain ⟨hc, h2⟩ := bif_some hsh
          clear hsh
          have h3 : l = ts := Option.some.inj h2
          subst h3
          have e1 := Nat.eq_of_beq_eq_true hc
          simp only [DataW.trod, hu] at htr
          split at htr
          · rename_i hlen
            obtain ⟨xs, hxs, _⟩ := Option.map_eq_some_iff.1 htr
            have := fits_fields (w := w) (P := P) (cs := cs) fs.toList 0 l hl (fun f hf lf hlf => by
              obtain ⟨y, hy⟩ := mapM_each hxs hf
              exact ih f.type fuel _ y lf hy hlf)
            rw [e1, ← hlen] at this
            simpa using this
          · cases htr
        · cases hsh
      · rename_i n e hu
        split at hsh
        · rename_i l hl
          obtain ⟨hc, h2⟩ := bif_some hsh
          clear hsh
          cases h2
          rw [Bool.and_eq_true] at hc
          have e1 := Nat.eq_of_beq_eq_true hc.1
          have e2 := Nat.eq_of_beq_eq_true hc.2
          simp only [DataW.trod, hu] at htr
          split at htr
          · rename_i hlen
            obtain ⟨xs, hxs, _⟩ := Option.map_eq_some_iff.1 htr
            have := fits_elems (w := w) (cs := cs) (l := l) n (fun i hi => by
              obtain ⟨y, hy⟩ := mapM_each hxs (List.mem_range.2 hi)
              rw [← e1] at hy
              exact ih e fuel _ y l hy hl)
            rw [e2, ← hlen] at this
            simpa using this
          · cases htr
        · cases hsh
      · cases hsh

end

section
variable {H : Type} {enc : TypeId × Value → H} {P : Program}

theorem trodAll_stays {W W' : World} {sp' : Nat → Bool} (hl : laidOutB P = true) : ∀ {ts : List TypeId} {vs : List Value} {ds : List (DataW H)} {ps : List MemPlace},
    (∀ t, t ∈ ts → P.readableRec t = true ∧ t < P.types.size) → DataW.TrodAll enc P W 0 (fun _ => true) true ts vs ds ps → (∀ p ∈ ps, W.sameAt W' p) → (∀ p ∈ ps, sp' p.block = true) →
    DataW.TrodAll enc P W' 0 sp' true ts vs ds ps
  | [], [], [], _, _, h, _, _ => h
  | t :: ts, v :: vs, d :: ds, ps, hr, h, hs, hp => by
    obtain ⟨p, q, h1, h2, rfl⟩ := h
    refine ⟨p, q, WideElems.Trod_stays hl (hr t (by simp)).1 (hr t (by simp)).2 h1 (fun x hx => hs x (by simp [hx])) (fun x hx => hp x (by simp [hx])), ?_, rfl⟩
    exact trodAll_stays hl (fun t ht => hr t (by simp [ht])) h2 (fun x hx => hs x (by simp [hx])) (fun x hx => hp x (by simp [hx]))
  | [], _ :: _, _, _, _, h, _, _ => h.elim
  | [], [], _ :: _, _, _, h, _, _ => h.elim
  | _ :: _, [], _, _, _, h, _, _ => h.elim
  | _ :: _, _ :: _, [], _, _, h, _, _ => h.elim

theorem keptBut_of_below {W W' : World} (hb : Below W.heap.size W W') (may : MemPlace → Prop) : W.keptBut W' may := by
  refine ⟨hb.os, hb.output, fun i hi => ?_⟩
  rw [hb.block i hi]
  split
  · rename_i h1 h2
    rw [h1] at h2
    cases h2
    exact ⟨rfl, rfl, rfl, fun _ _ => rfl⟩
  · rename_i h1 h2
    rw [h1] at h2
    cases h2
    exact Or.inr ⟨rfl, rfl⟩
  · rfl

def readB (P : Program) (ts : List TypeId) : Bool := ts.all fun t => P.readableRec t && Nat.blt t P.types.size

theorem readB_ok {ts : List TypeId} (h : readB P ts = true) : ∀ t, t ∈ ts → P.readableRec t = true ∧ t < P.types.size := by
  intro t ht
  have := List.all_eq_true.1 h t ht
  rw [Bool.and_eq_true] at this
  exact ⟨this.1, by have := this.2; simpa [Nat.blt_eq] using this⟩

theorem post_law {f : Func} {s : ChangeSpec} {apart fresh handsOn again : Bool} {W W' : World} {args : Array Value} {ds gs : List (DataW H)} {before : List MemPlace} {tb : TypeId}
    (hl : laidOutB P = true) (hvars : s.vars = []) (hrt : f.resultTypes = #[tb]) (htb : P.underlying tb = some .bool) (hrd : readB P f.params.toList = true)
    (hW : DataW.Whole enc P f.params.toList s.vars apart W args.toList ds gs before) (hb : Below W.heap.size W W')
    (hs : s.fn H ds = { results := [.lit (.bool true)], args := ds }) :
    s.post enc P f apart fresh handsOn again W args (.bool true) W' := by
  have hW0 := hW
  obtain ⟨p, q, hA, hV, rfl, hz, hn⟩ := hW
  rw [hvars] at hV
  obtain ⟨rfl, rfl⟩ := trodVars_none hV
  have hlt : ∀ x ∈ p, x.block < W.heap.size := fun x hx => hA.lt x hx
  have hst : ∀ sp : Nat → Bool, (∀ x ∈ p, sp x.block = true) → DataW.TrodAll enc P W' 0 sp true f.params.toList args.toList ds p :=
    fun sp hsp => trodAll_stays hl (readB_ok hrd) hA (fun x hx => hb.same (hlt x hx)) hsp
  have hres : ∀ (b : Nat) (sp : Nat → Bool) (hd : Bool), DataW.TrodAll enc P W' b sp hd f.resultTypes.toList ((Value.bool true).resultList f.resultTypes.size) [.lit (.bool true)] [] := by
    intro b sp hd
    rw [hrt]
    exact ⟨[], [], shut_bool htb true, rfl, rfl⟩
  refine ⟨ds, [], p ++ [], [], p, [], hW0, ?_, ?_, ?_, keptBut_of_below hb _, fun _ => ?_⟩
  · rw [List.append_nil, hs]; exact hres _ _ _
  · rw [List.append_nil, hs]; exact hst _ (fun x hx => by simpa using hlt x hx)
  · rw [List.append_nil, hs, hvars]; rfl
  · refine ⟨ok_one hrt rfl (okWide_bool_mk htb true), _, [], ([] ++ p) ++ [], ⟨[] ++ p, [], trodAll_append (hst _ (fun _ _ => rfl)) (hres _ _ _), by rw [hvars]; rfl, rfl, ?_, ?_⟩, ?_⟩
    · intro b off hp
      simp only [List.nil_append, List.append_nil] at hp
      have := hlt _ hp
      rw [hb.frozen this]
      exact hz b off (by simpa using hp)
    · intro ha
      simpa using hn ha
    · intro x hx _
      simpa using hx

end

theorem Pure.calls {P : Program} {gl : Globs} {f : FuncId} {args : List AV} (h : Pure P gl f args (.bool true)) {W : World} {vs : Array Value} (hg : GlobB gl noB W)
    (hr : Rels noB W args vs) {Q : Ending → World → Prop} (hQ : ∀ W', Below W.heap.size W W' → Q (.returned (.bool true)) W') : Calls P f vs W Q := by
  refine (h.use (fun _ hf => hf.elim) hg hr).mono ?_
  rintro e W' ⟨v, rfl, hb, hv⟩
  cases hv
  exact hQ W' hb

theorem Rels.nil {w : World} : Rels noB w [] #[] := ⟨rfl, fun j u x h => by simp at h⟩
theorem Rels.cons {w : World} {a : AV} {v : Value} {avs : List AV} {vs : List Value} (h : Rel noB w a v) (hr : Rels noB w avs vs.toArray) : Rels noB w (a :: avs) (v :: vs).toArray := by
  refine ⟨by have := hr.len; simpa using this, fun j u x hu hx => ?_⟩
  cases j with
  | zero => simp at hu hx; subst hu; subst hx; exact h
  | succ j => exact hr.rel j u x (by simpa using hu) (by simpa using hx)


theorem Fits.pick {w : World} {ts : List CT} {cs : List Value} (h : Fits w ts cs) : ∃ g : Nat → AV, ∀ (j : Nat) c, ts[j]? = some c → CellOk c (g j) ∧ ∃ v, cs[j]? = some v ∧ Rel noB w (g j) v := by
  have : Inhabited AV := ⟨.junk⟩
  obtain ⟨g, hg⟩ := Go.Deep.choose_lt (n := ts.length) (p := fun j a => ∀ c, ts[j]? = some c → CellOk c a ∧ ∃ v, cs[j]? = some v ∧ Rel noB w a v) (fun j hj => by
    obtain ⟨v, a, h1, h2, h3, _⟩ := h.cell j ts[j] (by simp [hj])
    refine ⟨a, fun c hc => ?_⟩
    have : c = ts[j] := by simpa [hj] using hc.symm
    subst this
    exact ⟨h2, v, h1, h3⟩)
  exact ⟨g, fun j c hc => hg j (List.getElem?_eq_some_iff.1 hc).1 c hc⟩

theorem Fits.agg {w : World} {ts : List CT} {cs : List Value} (h : Fits w ts cs) {g : Nat → AV} (hg : ∀ (j : Nat) c, ts[j]? = some c → CellOk c (g j) ∧ ∃ v, cs[j]? = some v ∧ Rel noB w (g j) v) {l : List AV}
    (he : EntL [] ((List.range ts.length).map g) l) : Rel noB w (.agg l) (.agg cs.toArray) := by
  obtain ⟨h1, h2⟩ := he.spec
  simp at h1
  refine .agg (by rw [← h1]; simp [h.len]) fun j u v hu hv => ?_
  have hj : j < l.length := (List.getElem?_eq_some_iff.1 hu).1
  have hjt : j < ts.length := by omega
  obtain ⟨_, v', hv', hr⟩ := hg j ts[j] (by simp [hjt])
  have : v' = v := by
    have hv : cs[j]? = some v := by simpa using hv
    rw [hv'] at hv; exact Option.some.inj hv
  subst this
  exact h2 j (g j) u (by simp [hjt]) hu _ _ _ (fun k o hk => by simp at hk) hr

def islN : AV → Nat
  | .isl _ n _ => n
  | _ => 0
def islF : AV → Nat → Nat → AV
  | .isl _ _ f => f
  | _ => fun _ _ => .junk

theorem canonI_wf {k : IntKind} {a : AV} (h : CellOk (.int k) a) : (Lit.int k (intOfAV a)).wf = true := by cases h with | int h => exact h
theorem open_agg {H : Type} {enc : TypeId × Value → H} {P : Program} {W : World} {r : Reach} {b0 : Nat} {t : TypeId} {v : Value} {d : DataW H} {ps : List MemPlace} {sp : Nat → Bool} {ts : List CT} (ht : isAggT P t = some true)
    (hsh : shape P 9 t = some ts) (hv : Value.okWide P W r b0 t v) (h : DataW.Trod enc P W 0 sp true t v d ps) : ∃ cs : List Value, v = .agg cs.toArray ∧ Fits W ts cs := by
  obtain ⟨fuel, hf⟩ := h
  have : ∃ cs : Array Value, v = .agg cs := by
    unfold isAggT at ht
    split at ht
    · rename_i fs hu
      obtain ⟨cs, e, _⟩ := okWide_struct hu hv
      exact ⟨cs, e⟩
    · rename_i n e hu
      unfold Value.okWide at hv
      rw [hu] at hv
      obtain ⟨cs, e, _⟩ := hv
      exact ⟨cs, e⟩
    · simp at ht
    · simp at ht
  obtain ⟨cs, rfl⟩ := this
  exact ⟨cs.toList, by simp, open_fits 9 t fuel _ _ ts hf hsh⟩

end Go.Am

namespace Go.Am
open Go

theorem laid_at {P : Program} {w : World} : ∀ {laid : List (String × DataW Unit)} {ps : List MemPlace}, DataW.LaidVars P w laid ps → ∀ {i : Nat} {n : String} {d : DataW Unit}, laid[i]? = some (n, d) →
    ∃ g t cs fuel p, P.globalNamed n = some g ∧ (P.globals[g]?).map (·.type) = some t ∧ w.var? P n = some cs ∧ DataW.trod (fun _ => ()) P w 0 (fun _ => true) false fuel t cs.toList = some (d, p)
  | [], _, _, i, n, d, h => by simp at h
  | (n', d') :: r, ps, ⟨g, t, cs, fuel, p, q, h1, h2, h3, h4, _, _⟩, 0, n, d, h => by
    simp only [List.getElem?_cons_zero, Option.some.injEq, Prod.mk.injEq] at h
    obtain ⟨rfl, rfl⟩ := h
    exact ⟨g, t, cs, fuel, p, h1, h2, h3, h4⟩
  | (n', d') :: r, ps, ⟨g, t, cs, fuel, p, q, h1, h2, h3, h4, h5, _⟩, i + 1, n, d, h => laid_at h5 (by simpa using h)

def arrOk (P : Program) (g n : Nat) (k : IntKind) : Bool :=
  match (P.globals[g]?).map (·.type) with
  | some t =>
    match P.underlying t with
    | some (.array m e) =>
      match P.underlying e with
      | some (.int k') => Nat.beq m n && Nat.beq (P.cellsOf e) 1 && (decide (k' = k) && Nat.beq (P.cellsOf t) n)
      | _ => false
    | _ => false
  | none => false
theorem arrOk_inv {P : Program} {g n : Nat} {k : IntKind} (h : arrOk P g n k = true) : ∃ t e, (P.globals[g]?).map (·.type) = some t ∧ P.underlying t = some (.array n e) ∧ P.underlying e = some (.int k) ∧ P.cellsOf e = 1 ∧ P.cellsOf t = n := by
  unfold arrOk at h
  split at h
  · rename_i t ht
    split at h
    · rename_i m e hu
      split at h
      · rename_i k' he
        simp only [Bool.and_eq_true, decide_eq_true_eq, Nat.beq_eq] at h
        obtain ⟨⟨rfl, h2⟩, rfl, h3⟩ := h
        exact ⟨t, e, ht, hu, he, h2, h3⟩
      · cases h
    · cases h
  · cases h

theorem glob_ints {P : Program} {w : World} {β : Book} {laid : List (String × DataW Unit)} (h : laidMetH P laid w) (hp : (laid.all fun x => x.2.handleName?.isNone) = true) (i : Nat) (name : String) {g n : Nat}
    {k : IntKind} {F : Nat → Int} (hl : laid[i]? = some (name, .agg ((List.range n).map fun j => .lit (.int k (F j))))) (hg : P.globalNamed name = some g) (ho : arrOk P g n k = true) (hn : 0 < n) (hb : β.free g) : GlobAt β w g n fun j => .int k (F j) := by
  obtain ⟨t, e, ht, hu, he, hc, hct⟩ := arrOk_inv ho
  rw [MakeChecks.laidMetH_plain _ _ _ hp] at h
  obtain ⟨ps, hv, _, _⟩ := h
  obtain ⟨g', t', cs, fuel, p, h1, h2, h3, h4⟩ := laid_at hv hl
  obtain rfl := Option.some.inj (hg.symm.trans h1)
  obtain rfl := Option.some.inj (ht.symm.trans h2)
  obtain ⟨xs, m, rfl, hx, hlen, hxl, hel⟩ := DataW.trod_array hu h4
  simp only [Prod.mk.injEq, DataW.agg.injEq] at hx
  obtain ⟨hx, _⟩ := hx
  have cell : ∀ j, j < n → cs[j]? = some (.int k (F j)) := fun j hj => by
    have hj' := hel j hj
    rw [hc, Nat.mul_one, List.getElem?_eq_getElem (by omega : j < xs.length)] at hj'
    obtain ⟨v, e1, e2, _⟩ := DataW.trod_int he hj'
    have e3 : (xs.map (·.1))[j]? = some (.lit (.int k v)) := by rw [List.getElem?_map, List.getElem?_eq_getElem (by omega : j < xs.length), e2]; rfl
    rw [← hx] at e3
    simp only [List.getElem?_map, List.getElem?_range hj, Option.map_some, Option.some.injEq, DataW.lit.injEq, Lit.int.injEq, true_and] at e3
    subst e3
    have e4 : (List.take 1 (List.drop j cs.toList))[0]? = some (.int k (F j)) := by rw [e1]; rfl
    rw [List.getElem?_take_of_lt (by decide), List.getElem?_drop, Nat.add_zero] at e4
    simpa using e4
  have hsh : ∃ el, w.shape? g = some (el, n) := by
    unfold World.var? at h3
    rw [hg] at h3
    have hsz : cs.size = n := hlen.trans hct
    unfold World.shape?
    simp only [Option.bind_some] at h3
    split at h3
    · rename_i cs' el z hb'
      cases h3
      exact ⟨el, by rw [hb', ← hsz]⟩
    · cases h3
  refine ⟨?_, hsh⟩
  refine .ipt (fun j => .int k (F j)) hn hb (fun j hj => ?_) (fun _ _ => rfl) (fun _ _ => .int) (fun _ _ => .int)
  rw [World.var?_cell hg h3]
  simpa using cell j hj
end Go.Am

namespace Go.Am
open Go Go.RowKit

theorem pure_of {P : Program} {gl : Globs} {f : FuncId} {args : List AV} {r : AV} (hE : Enters P f)
    (h : ∀ (β : Book) (w : World) (vs : Array Value), (∀ b, w.heap.size ≤ b → β.free b) → GlobB gl β w → Rels β w args vs → Calls P f vs w fun e w' => ∃ v, e = .returned v ∧ Below w.heap.size w w' ∧ Rel β w' r v) : Pure P gl f args r := by
  refine ⟨hE, fun β w vs hF hG hg ha => ?_⟩
  have hn : ∀ k, β.m k = none := fun k => hG.none k (Nat.zero_le _)
  refine (h β w vs (fun b hb => ⟨fun hf => absurd (hF b hf) (by omega), fun id n hm => by rw [hn] at hm; cases hm⟩) hg ha).mono fun e w' hh => ?_
  obtain ⟨v, he, hb, hr⟩ := hh
  exact ⟨v, β, he, Kept.ofBelow _ hb, ⟨rfl, fun k ob hk => by simp at hk, fun k _ => hn k, (fun i j b n n' mu mu' e1 => by rw [hn] at e1; cases e1), (fun k b n mu e1 => by rw [hn] at e1; cases e1), (fun k o e1 => by rw [hn] at e1; cases e1)⟩, hr⟩

theorem rels1 {β : Book} {w : World} {a : AV} {vs : Array Value} (h : Rels β w [a] vs) : ∃ v, vs = #[v] ∧ Rel β w a v := by
  have hl := h.len
  match vs, hl, h with
  | ⟨[v]⟩, _, h => exact ⟨v, rfl, h.rel 0 _ _ rfl rfl⟩
theorem rels2 {β : Book} {w : World} {a b : AV} {vs : Array Value} (h : Rels β w [a, b] vs) : ∃ u v, vs = #[u, v] ∧ Rel β w a u ∧ Rel β w b v := by
  have hl := h.len
  match vs, hl, h with
  | ⟨[u, v]⟩, _, h => exact ⟨u, v, rfl, h.rel 0 _ _ rfl rfl, h.rel 1 _ _ rfl rfl⟩
theorem alloc_below {w : World} {o : Obj} : Below w.heap.size w (w.alloc o) := (Below.refl _ _).alloc (Nat.le_refl _) _
theorem alloc_blk {w : World} {cs : Array Value} {t : TypeId} : (w.alloc (.cells cs t)).heap[w.heap.size]? = some (.cells cs t (0, 0)) := by
  show (w.heap.push (.cells cs t (0, 0)))[w.heap.size]? = _
  simp
theorem alloc_cell {w : World} {cs : Array Value} {t : TypeId} (j : Nat) : (w.alloc (.cells cs t)).cell? ⟨w.heap.size, j, none⟩ = cs[j]? := by
  simp only [World.cell?, alloc_blk]
  rfl

theorem rel_strs {β : Book} {w : World} (hf : β.free w.heap.size) (l : List ByteArray) (t : TypeId) :
    Rel β (w.alloc (.cells (l.map Value.string).toArray t)) (.isl 1 l.length fun i _ => .str (l.getD i .empty)) (.slice (some ⟨w.heap.size, 0, none⟩) l.length l.length) := by
  refine .isl (fun i _ => .string (l.getD i .empty)) (by decide) (Nat.le_refl _) hf (fun i j hi hj => ?_) (fun _ _ _ _ => rfl) (fun _ _ _ _ => .str) (fun _ _ _ _ => .str)
  obtain rfl : j = 0 := Nat.lt_one_iff.1 hj
  rw [alloc_cell]
  simp [List.getD_eq_getElem?_getD, hi]

theorem gives_strs {P : Program} {gl : Globs} {f : FuncId} {args : List AV} {l : List ByteArray} {R : Rep} (hE : Enters P f) (hR : ∀ i, i < l.length → R.at i 0 = .str (l.getD i .empty))
    (h : ∀ (β : Book) (w : World) (vs : Array Value), GlobB gl β w → Rels β w args vs →
      Calls P f vs w fun e w' => e = .returned (.slice (some ⟨w.heap.size, 0, none⟩) l.length l.length) ∧ ∃ t, w' = w.alloc (.cells (l.map Value.string).toArray t)) (hT : R.tyOf = none := by first | rfl | assumption) :
    Gives P gl f [] args (.osl 0 1 0 l.length) [some ⟨1, l.length, true, R⟩] := by
  refine ⟨hE, fun β w vs hF hG hg ha => ?_⟩
  have hn : ∀ k, β.m k = none := fun k => hG.none k (Nat.zero_le _)
  refine (h β w vs hg ha).mono fun e w' hh => ?_
  obtain ⟨he, t, rfl⟩ := hh
  have hblk : (w.alloc (.cells (l.map Value.string).toArray t)).heap[w.heap.size]? = some (.cells (l.map Value.string).toArray t (0, 0)) := alloc_blk
  refine ⟨_, ⟨fun k => if k = 0 then some (.lives w.heap.size l.length true) else none, β.F⟩, he, Kept.ofBelow _ alloc_below, ⟨rfl, fun k ob hk => ?_, fun k hk => if_neg (by simp at hk; omega), fun i j b n n' mu mu' e1 e2 => ?_, fun k b n mu e1 => ?_, fun k o e1 => by rw [hn] at e1; cases e1⟩, ?_⟩
  · cases k with
    | succ k => simp at hk
    | zero =>
      simp at hk
      subst hk
      refine .inl ⟨w.heap.size, (show (if (0 : Nat) = 0 then some (Own.lives w.heap.size l.length true) else none) = _ from if_pos rfl), (l.map Value.string).toArray, t, hblk, ⟨by simp, fun t h => by rw [hT] at h; cases h⟩, fun i j hi hj => ?_⟩
      have hi' : i < l.length := hi
      obtain rfl : j = 0 := Nat.lt_one_iff.1 hj
      refine ⟨.string (l.getD i .empty), ?_, by rw [hR i hi']; exact .str, rfl⟩
      simp [List.getD_eq_getElem?_getD, hi']
  · have g : ∀ {q b n mu}, (if q = 0 then some (Own.lives w.heap.size l.length true) else none) = some (.lives b n mu) → q = 0 := fun {q} {b} {n} {mu} e => by
      by_cases hq : q = 0
      · exact hq
      · rw [if_neg hq] at e; cases e
    rw [g e1, g e2]
  · by_cases hq : k = 0
    · subst hq
      have : some (Own.lives w.heap.size l.length true) = some (.lives b n mu) := e1
      cases this
      exact ⟨(Array.getElem?_eq_some_iff.1 hblk).1, .inl (Nat.le_refl _)⟩
    · have : (if k = 0 then some (Own.lives w.heap.size l.length true) else none) = some (.lives b n mu) := e1
      rw [if_neg hq] at this; cases this
  · have := Rel.osl (β := ⟨fun k => if k = 0 then some (.lives w.heap.size l.length true) else none, β.F⟩) (w := w.alloc (.cells (l.map Value.string).toArray t)) (id := 0) (es := 1) (i := 0) (len := l.length) (cap := l.length) (sz := l.length) (el := t) (b := w.heap.size) (n := l.length) (mu := true)
      (show (if (0 : Nat) = 0 then some (Own.lives w.heap.size l.length true) else none) = _ from if_pos rfl) (by omega) (Nat.le_refl _) (by unfold World.shape?; rw [hblk]; simp) (by omega)
    simpa using this

theorem glob_cell {β : Book} {w : World} {g m : Nat} {f : Nat → AV} (h : GlobAt β w g m f) {j : Nat} (hj : j < m) {k : IntKind} {n : Int} (e : f j = .int k n) : w.cell? ⟨g, j, none⟩ = some (.int k n) := by
  obtain ⟨b, off, vals, hu, _, _, hc, hr, _⟩ := rel_ipt_inv h.rel
  cases hu
  have := hr j hj
  rw [e] at this
  rw [← rel_int_inv this, ← hc j hj, Nat.zero_add]
theorem glob_ifc {β : Book} {w : World} {g m : Nat} {f : Nat → AV} (h : GlobAt β w g m f) (hj : 0 < m) {t : TypeId} {a : AV} (e : f 0 = .ifc t a) : ∃ v, w.cell? ⟨g, 0, none⟩ = some (.iface t v) := by
  obtain ⟨b, off, vals, hu, _, _, hc, hr, _⟩ := rel_ipt_inv h.rel
  cases hu
  have := hr 0 hj
  rw [e] at this
  have hv := hc 0 hj
  generalize vals 0 = x at this hv
  cases this
  exact ⟨_, hv⟩
theorem glob_tab {P : Program} {β : Book} {w : World} {name : String} {g : Nat} {k : IntKind} {zs : List Int} (hg : P.globalNamed name = some g) (h : GlobAt β w g zs.length fun j => .int k (zs.getD j 0)) : Lib.TabIs P w name k zs := by
  obtain ⟨el, e⟩ := h.size
  unfold World.shape? at e
  split at e
  · rename_i cs el' z hb
    simp only [Option.some.injEq, Prod.mk.injEq] at e
    unfold Lib.TabIs World.var?
    rw [hg, Option.bind_some, hb]
    show some cs = some _
    congr 1
    apply Array.ext
    · simp [e.2]
    · intro j h1 h2
      have hj : j < zs.length := by simpa using h2
      have := glob_cell h hj (k := k) (n := zs.getD j 0) rfl
      simp only [World.cell?, hb] at this
      rw [Array.getElem?_eq_getElem h1] at this
      simp [List.getD_eq_getElem?_getD, hj] at this
      simpa using this
  · cases e
end Go.Am
namespace Go.Am
open Go Go.RowKit
def ifcOk (P : Program) (g : Nat) : Bool :=
  match (P.globals[g]?).map (·.type) with
  | some t =>
    match P.underlying t with
    | some (.interface _) => true
    | _ => false
  | none => false
theorem ifcOk_inv {P : Program} {g : Nat} (h : ifcOk P g = true) : ∃ t ms, (P.globals[g]?).map (·.type) = some t ∧ P.underlying t = some (.interface ms) := by
  unfold ifcOk at h
  split at h
  · rename_i t ht
    split at h
    · rename_i ms hu; exact ⟨t, ms, ht, hu⟩
    · cases h
  · cases h
theorem shape_of_var {P : Program} {w : World} {name : String} {g n : Nat} {cs : Array Value} (hg : P.globalNamed name = some g) (h3 : w.var? P name = some cs) (hsz : cs.size = n) : ∃ el, w.shape? g = some (el, n) := by
  unfold World.var? at h3
  rw [hg] at h3
  unfold World.shape?
  simp only [Option.bind_some] at h3
  split at h3
  · rename_i cs' el z hb'
    cases h3
    exact ⟨el, by rw [hb', ← hsz]⟩
  · cases h3
theorem glob_iface {P : Program} {w : World} {β : Book} {laid : List (String × DataW Unit)} (h : laidMetH P laid w) (hp : (laid.all fun x => x.2.handleName?.isNone) = true) (i : Nat) (name : String) {g : Nat} {nm : String} {d : DataW Unit}
    (hl : laid[i]? = some (name, .iface nm d)) (hg : P.globalNamed name = some g) (ho : ifcOk P g = true) (hb : β.free g) : ∃ u, GlobAt β w g 1 fun _ => .ifc u .junk := by
  obtain ⟨t, ms, ht, hu⟩ := ifcOk_inv ho
  rw [MakeChecks.laidMetH_plain _ _ _ hp] at h
  obtain ⟨ps, hv, _, _⟩ := h
  obtain ⟨g', t', cs, fuel, p, h1, h2, h3, h4⟩ := laid_at hv hl
  obtain rfl := Option.some.inj (hg.symm.trans h1)
  obtain rfl := Option.some.inj (ht.symm.trans h2)
  have key : ∃ u v, cs.toList = [.iface u v] := by
    cases fuel with
    | zero => simp [DataW.trod] at h4
    | succ n =>
      generalize cs.toList = l at h4
      simp only [DataW.trod, hu] at h4
      match l, h4 with
      | [.iface u v], _ => exact ⟨u, v, rfl⟩
      | [], h4 => simp at h4
      | [.nilIface], h4 => simp at h4
      | a :: b :: r, h4 => exfalso; revert h4; cases a <;> simp
      | [.int _ _], h4 => simp at h4
      | [.bool _], h4 => simp at h4
  obtain ⟨u, v, e⟩ := key
  have hc : cs[0]? = some (.iface u v) := by
    have : cs.toList[0]? = some (.iface u v) := by rw [e]; rfl
    simpa using this
  refine ⟨u, .ipt (fun _ => .iface u v) (by decide) hb (fun j hj => ?_) (fun _ _ => rfl) (fun _ _ => .ifc .junk) (fun _ _ => .ifc .junk), shape_of_var hg h3 (by rw [← Array.length_toList, e]; rfl)⟩
  obtain rfl : j = 0 := Nat.lt_one_iff.1 hj
  rw [World.var?_cell hg h3]
  exact hc
end Go.Am

namespace Go.Sp
open Go.Lib

theorem pu_snoc : ∀ (l : List UInt8) (acc v : Nat) (c : UInt8), parseUint10 acc l = .ok v → 48 ≤ c.toNat ∧ c.toNat ≤ 57 → v < 1844674407370955161 → parseUint10 acc (l ++ [c]) = .ok (v * 10 + (c.toNat - 48))
  | [], acc, v, c, h, hc, hv => by
    simp only [parseUint10, NumEnd.ok.injEq] at h
    subst h
    simp only [List.nil_append, parseUint10]
    rw [if_pos hc, if_neg (by omega), if_neg (by omega)]
  | b :: r, acc, v, c, h, hc, hv => by
    simp only [parseUint10] at h
    rw [List.cons_append, parseUint10]
    split at h
    · rename_i h1
      rw [if_pos h1]
      split at h
      · cases h
      · rename_i h2
        rw [if_neg h2]
        split at h
        · cases h
        · rename_i h3
          rw [if_neg h3]
          exact pu_snoc r _ v c h hc hv
    · cases h
theorem ofNat_dig {d : Nat} (h : d < 10) : (UInt8.ofNat (48 + d)).toNat = 48 + d := by
  rw [UInt8.toNat_ofNat']; omega
theorem pu_dec : ∀ (u : Nat), u < 9223372036854775808 → parseUint10 0 (decDigits u) = .ok u := by
  intro u
  induction u using Nat.strongRecOn with
  | ind u ih =>
    intro hu
    rw [decDigits]
    split
    · rename_i h
      simp only [parseUint10]
      rw [ofNat_dig h, if_pos (by omega), if_neg (by omega), if_neg (by omega)]
      congr 1; omega
    · rename_i h
      have k := pu_snoc _ _ _ (UInt8.ofNat (48 + u % 10)) (ih (u / 10) (by omega) (by omega)) (by rw [ofNat_dig (by omega)]; omega) (by omega)
      rw [k, ofNat_dig (by omega)]
      congr 1; omega
theorem dec_digit {u : Nat} : ∀ c ∈ decDigits u, 48 ≤ c.toNat ∧ c.toNat ≤ 57 := by
  induction u using Nat.strongRecOn with
  | ind u ih =>
    intro c hc
    rw [decDigits] at hc
    split at hc
    · rename_i h
      obtain rfl := List.mem_singleton.1 hc
      rw [ofNat_dig h]; omega
    · rename_i h
      rcases List.mem_append.1 hc with hc | hc
      · exact ih (u / 10) (by omega) c hc
      · obtain rfl := List.mem_singleton.1 hc
        rw [ofNat_dig (by omega)]; omega
theorem dec_ne (u : Nat) : decDigits u ≠ [] := by
  rw [decDigits]; split <;> simp
theorem atoi_dec {u : Nat} (h : u < 9223372036854775808) : atoiAll (decDigits u) = .ok (u : Int) := by
  cases hd : decDigits u with
  | nil => exact absurd hd (dec_ne u)
  | cons c r =>
    have hc := dec_digit (u := u) c (by rw [hd]; exact List.mem_cons_self ..)
    rw [atoiAll_plain c r (by omega) (by omega), ← hd]
    have : parseMag (decDigits u) = .ok u := by
      unfold parseMag; rw [if_neg (dec_ne u)]; exact pu_dec u h
    rw [this]
    unfold signless
    simp only
    rw [if_neg (by omega)]
abbrev Str := List UInt8
def numC (s : Str) : Option Int := match atoiAll s with
  | .ok n => if 0 ≤ n ∧ n ≤ 1099511627776 ∧ itoa n = s then some n else none
  | _ => none
theorem numC_iff {s : Str} {n : Int} : numC s = some n ↔ s = itoa n ∧ 0 ≤ n ∧ n ≤ 1099511627776 := by
  constructor
  · intro h
    unfold numC at h
    split at h
    · split at h
      · rename_i h1 h2
        cases h
        exact ⟨h2.2.2.symm, h2.1, h2.2.1⟩
      · cases h
    · cases h
  · rintro ⟨rfl, h1, h2⟩
    obtain ⟨u, rfl⟩ := Int.eq_ofNat_of_zero_le h1
    unfold numC
    rw [itoa_nonneg, atoi_dec (by omega)]
    simp only
    rw [if_pos ⟨by omega, by omega, itoa_nonneg u⟩]
theorem itoa_ne (n : Int) : itoa n ≠ [] := by
  unfold itoa; split
  · simp
  · exact dec_ne _
theorem itoa_byte {n : Int} (h : 0 ≤ n) : ∀ c ∈ itoa n, 48 ≤ c.toNat ∧ c.toNat ≤ 57 := by
  obtain ⟨u, rfl⟩ := Int.eq_ofNat_of_zero_le h
  rw [itoa_nonneg]; exact dec_digit
theorem itoa_inj {n m : Int} (hn : 0 ≤ n ∧ n ≤ 1099511627776) (hm : 0 ≤ m ∧ m ≤ 1099511627776) (h : itoa n = itoa m) : n = m := by
  have h1 := numC_iff.2 ⟨rfl, hn⟩
  have h2 := numC_iff.2 ⟨rfl, hm⟩
  rw [h] at h1
  exact Option.some.inj (h1.symm.trans h2)

structure Cmd where
  kind : Int
  who : Int
  whom : Int
  amount : Int
  honest : Bool
def Cmd.zero : Cmd := ⟨0, 0, 0, 0, false⟩
def Cmd.get (a : Cmd) : Nat → Int
  | 1 => a.who
  | 2 => a.whom
  | _ => a.amount
def Cmd.set (a : Cmd) : Nat → Int → Cmd
  | 1, n => { a with who := n }
  | 2, n => { a with whom := n }
  | _, n => { a with amount := n }
def wWho : Str := [87, 72, 79]
def wWhom : Str := [87, 72, 79, 77]
def wAmount : Str := [65, 77, 79, 85, 78, 84]
def fieldN (w : Str) : Nat := if w = wWho then 1 else if w = wWhom then 2 else if w = wAmount then 3 else 0
structure Form where
  kind : Int
  ws : List Str
  whom : Int
def wWithdraw : Str := [119, 105, 116, 104, 100, 114, 97, 119]
def wPay : Str := [112, 97, 121]
def wTransfer : Str := [116, 114, 97, 110, 115, 102, 101, 114]
def wDeposit : Str := [100, 101, 112, 111, 115, 105, 116]
def wMerchant : Str := [109, 101, 114, 99, 104, 97, 110, 116]
def wHolder : Str := [104, 111, 108, 100, 101, 114]
def wDouble : Str := [100, 111, 117, 98, 108, 101]
def wTrace : Str := [116, 114, 97, 99, 101]
def wClear : Str := [99, 108, 101, 97, 114]
def wTick : Str := [116, 105, 99, 107]
def formL : List Form := [⟨1, [wWithdraw, wWho, wAmount], 0⟩, ⟨2, [wPay, wWho, wWhom, wAmount], 0⟩, ⟨3, [wTransfer, wWho, wWhom, wAmount], 0⟩, ⟨4, [wDeposit, wMerchant, wWho], 0⟩, ⟨4, [wDeposit, wHolder, wWho], 1⟩,
  ⟨5, [wDouble, wWho, wWhom, wAmount], 0⟩, ⟨6, [wTrace, wWho], 0⟩, ⟨7, [wClear], 0⟩, ⟨8, [wTick, wAmount], 0⟩]
def stepM (a : Cmd) (p w : Str) : Option Cmd := if fieldN p = 0 then (if w = p then some a else none) else (numC w).map fun n => a.set (fieldN p) n
def goM : Cmd → List Str → List Str → Option Cmd
  | a, [], [] => some a
  | a, p :: ps, w :: ws => (stepM a p w).bind fun b => goM b ps ws
  | _, _, _ => none
def Form.act (f : Form) : Cmd := ⟨f.kind, 0, f.whom, 0, f.kind != 5⟩
def matchF (f : Form) (ws : List Str) : Option Cmd := goM f.act f.ws ws
def lineF (f : Form) (a : Cmd) : List Str := f.ws.map fun w => if fieldN w = 0 then w else itoa (a.get (fieldN w))
def readF (ws : List Str) : Option Cmd := formL.findSome? fun f => matchF f ws

theorem goM_cons {a b : Cmd} {p : Str} {ps ws : List Str} : goM a (p :: ps) ws = some b ↔ ∃ w r c, ws = w :: r ∧ stepM a p w = some c ∧ goM c ps r = some b := by
  cases ws with
  | nil => simp [goM]
  | cons w r =>
    rw [goM, Option.bind_eq_some_iff]
    constructor
    · rintro ⟨c, h1, h2⟩; exact ⟨w, r, c, rfl, h1, h2⟩
    · rintro ⟨w', r', c, h, h1, h2⟩; cases h; exact ⟨c, h1, h2⟩
theorem goM_nil {a b : Cmd} {ws : List Str} : goM a [] ws = some b ↔ ws = [] ∧ a = b := by
  cases ws with
  | nil => simp [goM]
  | cons w r => simp [goM]
def okN (n : Int) : Prop := 0 ≤ n ∧ n ≤ 1099511627776
theorem stepM_w {a c : Cmd} {p w : Str} (h : fieldN p = 0) : stepM a p w = some c ↔ w = p ∧ a = c := by
  unfold stepM; rw [if_pos h]
  constructor
  · intro k
    split at k
    · rename_i e; cases k; exact ⟨e, rfl⟩
    · cases k
  · rintro ⟨rfl, rfl⟩; rw [if_pos rfl]
theorem stepM_n {a c : Cmd} {p w : Str} {k : Nat} (h : fieldN p = k + 1) : stepM a p w = some c ↔ ∃ n, w = itoa n ∧ okN n ∧ a.set (k + 1) n = c := by
  unfold stepM; rw [h, if_neg (by omega), Option.map_eq_some_iff]
  constructor
  · rintro ⟨n, h1, rfl⟩; exact ⟨n, (numC_iff.1 h1).1, (numC_iff.1 h1).2, rfl⟩
  · rintro ⟨n, rfl, h1, rfl⟩; exact ⟨n, numC_iff.2 ⟨rfl, h1⟩, rfl⟩
inductive Lin : Cmd → List Str → Prop
  | withdraw {x y : Int} (hx : okN x) (hy : okN y) : Lin ⟨1, x, 0, y, true⟩ [wWithdraw, itoa x, itoa y]
  | pay {x y z : Int} (hx : okN x) (hy : okN y) (hz : okN z) : Lin ⟨2, x, y, z, true⟩ [wPay, itoa x, itoa y, itoa z]
  | transfer {x y z : Int} (hx : okN x) (hy : okN y) (hz : okN z) : Lin ⟨3, x, y, z, true⟩ [wTransfer, itoa x, itoa y, itoa z]
  | merchant {x : Int} (hx : okN x) : Lin ⟨4, x, 0, 0, true⟩ [wDeposit, wMerchant, itoa x]
  | holder {x : Int} (hx : okN x) : Lin ⟨4, x, 1, 0, true⟩ [wDeposit, wHolder, itoa x]
  | double {x y z : Int} (hx : okN x) (hy : okN y) (hz : okN z) : Lin ⟨5, x, y, z, false⟩ [wDouble, itoa x, itoa y, itoa z]
  | trace {x : Int} (hx : okN x) : Lin ⟨6, x, 0, 0, true⟩ [wTrace, itoa x]
  | clear : Lin ⟨7, 0, 0, 0, true⟩ [wClear]
  | tick {x : Int} (hx : okN x) : Lin ⟨8, 0, 0, x, true⟩ [wTick, itoa x]
theorem f_who : fieldN wWho = 0 + 1 := by decide
theorem f_whom : fieldN wWhom = 1 + 1 := by decide
theorem f_am : fieldN wAmount = 2 + 1 := by decide
theorem m1 {k : Int} {b : Bool} {W : Str} (h : fieldN W = 0) {ws : List Str} {a : Cmd} : goM ⟨k, 0, 0, 0, b⟩ [W, wWho, wAmount] ws = some a ↔ ∃ x y, okN x ∧ okN y ∧ ws = [W, itoa x, itoa y] ∧ a = ⟨k, x, 0, y, b⟩ := by
  simp only [goM_cons, goM_nil, stepM_w h, stepM_n f_who, stepM_n f_am]
  constructor
  · rintro ⟨w, r, c, rfl, ⟨rfl, rfl⟩, w1, r1, c1, rfl, ⟨x, rfl, hx, rfl⟩, w2, r2, c2, rfl, ⟨y, rfl, hy, rfl⟩, rfl, rfl⟩
    exact ⟨x, y, hx, hy, rfl, rfl⟩
  · rintro ⟨x, y, hx, hy, rfl, rfl⟩
    exact ⟨_, _, _, rfl, ⟨rfl, rfl⟩, _, _, _, rfl, ⟨x, rfl, hx, rfl⟩, _, _, _, rfl, ⟨y, rfl, hy, rfl⟩, rfl, rfl⟩
theorem m2 {k : Int} {b : Bool} {W : Str} (h : fieldN W = 0) {ws : List Str} {a : Cmd} : goM ⟨k, 0, 0, 0, b⟩ [W, wWho, wWhom, wAmount] ws = some a ↔ ∃ x y z, okN x ∧ okN y ∧ okN z ∧ ws = [W, itoa x, itoa y, itoa z] ∧ a = ⟨k, x, y, z, b⟩ := by
  simp only [goM_cons, goM_nil, stepM_w h, stepM_n f_who, stepM_n f_whom, stepM_n f_am]
  constructor
  · rintro ⟨w, r, c, rfl, ⟨rfl, rfl⟩, w1, r1, c1, rfl, ⟨x, rfl, hx, rfl⟩, w2, r2, c2, rfl, ⟨y, rfl, hy, rfl⟩, w3, r3, c3, rfl, ⟨z, rfl, hz, rfl⟩, rfl, rfl⟩
    exact ⟨x, y, z, hx, hy, hz, rfl, rfl⟩
  · rintro ⟨x, y, z, hx, hy, hz, rfl, rfl⟩
    exact ⟨_, _, _, rfl, ⟨rfl, rfl⟩, _, _, _, rfl, ⟨x, rfl, hx, rfl⟩, _, _, _, rfl, ⟨y, rfl, hy, rfl⟩, _, _, _, rfl, ⟨z, rfl, hz, rfl⟩, rfl, rfl⟩
theorem m3 {k m : Int} {b : Bool} {W V : Str} (h : fieldN W = 0) (h' : fieldN V = 0) {ws : List Str} {a : Cmd} : goM ⟨k, 0, m, 0, b⟩ [W, V, wWho] ws = some a ↔ ∃ x, okN x ∧ ws = [W, V, itoa x] ∧ a = ⟨k, x, m, 0, b⟩ := by
  simp only [goM_cons, goM_nil, stepM_w h, stepM_w h', stepM_n f_who]
  constructor
  · rintro ⟨w, r, c, rfl, ⟨rfl, rfl⟩, w1, r1, c1, rfl, ⟨rfl, rfl⟩, w2, r2, c2, rfl, ⟨x, rfl, hx, rfl⟩, rfl, rfl⟩
    exact ⟨x, hx, rfl, rfl⟩
  · rintro ⟨x, hx, rfl, rfl⟩
    exact ⟨_, _, _, rfl, ⟨rfl, rfl⟩, _, _, _, rfl, ⟨rfl, rfl⟩, _, _, _, rfl, ⟨x, rfl, hx, rfl⟩, rfl, rfl⟩
theorem m4 {k : Int} {b : Bool} {W : Str} (h : fieldN W = 0) {ws : List Str} {a : Cmd} : goM ⟨k, 0, 0, 0, b⟩ [W, wWho] ws = some a ↔ ∃ x, okN x ∧ ws = [W, itoa x] ∧ a = ⟨k, x, 0, 0, b⟩ := by
  simp only [goM_cons, goM_nil, stepM_w h, stepM_n f_who]
  constructor
  · rintro ⟨w, r, c, rfl, ⟨rfl, rfl⟩, w2, r2, c2, rfl, ⟨x, rfl, hx, rfl⟩, rfl, rfl⟩
    exact ⟨x, hx, rfl, rfl⟩
  · rintro ⟨x, hx, rfl, rfl⟩
    exact ⟨_, _, _, rfl, ⟨rfl, rfl⟩, _, _, _, rfl, ⟨x, rfl, hx, rfl⟩, rfl, rfl⟩
theorem m5 {k : Int} {b : Bool} {W : Str} (h : fieldN W = 0) {ws : List Str} {a : Cmd} : goM ⟨k, 0, 0, 0, b⟩ [W] ws = some a ↔ ws = [W] ∧ a = ⟨k, 0, 0, 0, b⟩ := by
  simp only [goM_cons, goM_nil, stepM_w h]
  constructor
  · rintro ⟨w, r, c, rfl, ⟨rfl, rfl⟩, rfl, rfl⟩
    exact ⟨rfl, rfl⟩
  · rintro ⟨rfl, rfl⟩
    exact ⟨_, _, _, rfl, ⟨rfl, rfl⟩, rfl, rfl⟩
theorem m6 {k : Int} {b : Bool} {W : Str} (h : fieldN W = 0) {ws : List Str} {a : Cmd} : goM ⟨k, 0, 0, 0, b⟩ [W, wAmount] ws = some a ↔ ∃ x, okN x ∧ ws = [W, itoa x] ∧ a = ⟨k, 0, 0, x, b⟩ := by
  simp only [goM_cons, goM_nil, stepM_w h, stepM_n f_am]
  constructor
  · rintro ⟨w, r, c, rfl, ⟨rfl, rfl⟩, w2, r2, c2, rfl, ⟨x, rfl, hx, rfl⟩, rfl, rfl⟩
    exact ⟨x, hx, rfl, rfl⟩
  · rintro ⟨x, hx, rfl, rfl⟩
    exact ⟨_, _, _, rfl, ⟨rfl, rfl⟩, _, _, _, rfl, ⟨x, rfl, hx, rfl⟩, rfl, rfl⟩
theorem mf {f : Form} (hf : f ∈ formL) {ws : List Str} {a : Cmd} : matchF f ws = some a → Lin a ws := by
  intro h
  unfold matchF Form.act at h
  unfold formL at hf
  simp only [List.mem_cons, List.mem_nil_iff, or_false] at hf
  rcases hf with rfl | rfl | rfl | rfl | rfl | rfl | rfl | rfl | rfl
  · obtain ⟨x, y, hx, hy, rfl, rfl⟩ := (m1 (by decide)).1 h; exact .withdraw hx hy
  · obtain ⟨x, y, z, hx, hy, hz, rfl, rfl⟩ := (m2 (by decide)).1 h; exact .pay hx hy hz
  · obtain ⟨x, y, z, hx, hy, hz, rfl, rfl⟩ := (m2 (by decide)).1 h; exact .transfer hx hy hz
  · obtain ⟨x, hx, rfl, rfl⟩ := (m3 (by decide) (by decide)).1 h; exact .merchant hx
  · obtain ⟨x, hx, rfl, rfl⟩ := (m3 (by decide) (by decide)).1 h; exact .holder hx
  · obtain ⟨x, y, z, hx, hy, hz, rfl, rfl⟩ := (m2 (by decide)).1 h; exact .double hx hy hz
  · obtain ⟨x, hx, rfl, rfl⟩ := (m4 (by decide)).1 h; exact .trace hx
  · obtain ⟨rfl, rfl⟩ := (m5 (by decide)).1 h; exact .clear
  · obtain ⟨x, hx, rfl, rfl⟩ := (m6 (by decide)).1 h; exact .tick hx
theorem mf_lin {a : Cmd} {ws : List Str} (h : Lin a ws) : ∃ f ∈ formL, matchF f ws = some a := by
  cases h with
  | withdraw hx hy => exact ⟨_, .head _, (m1 (by decide)).2 ⟨_, _, hx, hy, rfl, rfl⟩⟩
  | pay hx hy hz => exact ⟨_, .tail _ (.head _), (m2 (by decide)).2 ⟨_, _, _, hx, hy, hz, rfl, rfl⟩⟩
  | transfer hx hy hz => exact ⟨_, .tail _ (.tail _ (.head _)), (m2 (by decide)).2 ⟨_, _, _, hx, hy, hz, rfl, rfl⟩⟩
  | merchant hx => exact ⟨_, .tail _ (.tail _ (.tail _ (.head _))), (m3 (by decide) (by decide)).2 ⟨_, hx, rfl, rfl⟩⟩
  | holder hx => exact ⟨_, .tail _ (.tail _ (.tail _ (.tail _ (.head _)))), (m3 (by decide) (by decide)).2 ⟨_, hx, rfl, rfl⟩⟩
  | double hx hy hz => exact ⟨_, .tail _ (.tail _ (.tail _ (.tail _ (.tail _ (.head _))))), (m2 (by decide)).2 ⟨_, _, _, hx, hy, hz, rfl, rfl⟩⟩
  | trace hx => exact ⟨_, .tail _ (.tail _ (.tail _ (.tail _ (.tail _ (.tail _ (.head _)))))), (m4 (by decide)).2 ⟨_, hx, rfl, rfl⟩⟩
  | clear => exact ⟨_, .tail _ (.tail _ (.tail _ (.tail _ (.tail _ (.tail _ (.tail _ (.head _))))))), (m5 (by decide)).2 ⟨rfl, rfl⟩⟩
  | tick hx => exact ⟨_, .tail _ (.tail _ (.tail _ (.tail _ (.tail _ (.tail _ (.tail _ (.tail _ (.head _)))))))), (m6 (by decide)).2 ⟨_, hx, rfl, rfl⟩⟩
theorem itoa_eq {n m : Int} (hn : okN n) (hm : okN m) (h : itoa n = itoa m) : n = m := itoa_inj hn hm h
theorem lin_inj {a b : Cmd} {ws : List Str} (h : Lin a ws) (k0 : Lin b ws) : a = b := by
  have key : ∀ us vs, Lin a us → Lin b vs → us = vs → a = b := by
    clear h k0
    intro us vs h k e
    cases h <;> cases k <;> first | (exact absurd (List.cons.inj e).1 (by decide)) | (exact absurd (List.cons.inj (List.cons.inj e).2).1 (by decide)) | skip
    all_goals simp only [List.cons.injEq, true_and, and_true] at e
    · rename_i hx hy _ _ hx' hy'; rw [itoa_eq hx hx' e.1, itoa_eq hy hy' e.2]
    · rename_i hx hy hz _ _ _ hx' hy' hz'; rw [itoa_eq hx hx' e.1, itoa_eq hy hy' e.2.1, itoa_eq hz hz' e.2.2]
    · rename_i hx hy hz _ _ _ hx' hy' hz'; rw [itoa_eq hx hx' e.1, itoa_eq hy hy' e.2.1, itoa_eq hz hz' e.2.2]
    · rename_i hx _ hx'; rw [itoa_eq hx hx' e]
    · rename_i hx _ hx'; rw [itoa_eq hx hx' e]
    · rename_i hx hy hz _ _ _ hx' hy' hz'; rw [itoa_eq hx hx' e.1, itoa_eq hy hy' e.2.1, itoa_eq hz hz' e.2.2]
    · rename_i hx _ hx'; rw [itoa_eq hx hx' e]
    · rfl
    · rename_i hx _ hx'; rw [itoa_eq hx hx' e]
  exact key ws ws h k0 rfl
theorem lin_fun {a : Cmd} {ws vs : List Str} (h : Lin a ws) (k : Lin a vs) : ws = vs := by
  cases h <;> cases k <;> rfl
theorem readF_iff {a : Cmd} {ws : List Str} : readF ws = some a ↔ Lin a ws := by
  constructor
  · intro h
    obtain ⟨f, hf, h⟩ := List.exists_of_findSome?_eq_some h
    exact mf hf h
  · intro h
    obtain ⟨f, hf, hm⟩ := mf_lin h
    cases hr : readF ws with
    | none => rw [readF, List.findSome?_eq_none_iff] at hr; rw [hr f hf] at hm; cases hm
    | some b =>
      obtain ⟨g, hg, hb⟩ := List.exists_of_findSome?_eq_some hr
      rw [lin_inj h (mf hg hb)]

theorem index_cons (c b : UInt8) (l : Str) : index (b :: l) [c] = if b = c then 0 else if index l [c] = -1 then -1 else index l [c] + 1 := by
  by_cases h : b = c
  · subst h
    rw [if_pos rfl]
    exact index_first (i := 0) (Nat.zero_le _) (by simp [occAt]) (fun j hj => absurd hj (Nat.not_lt_zero j))
  · rw [if_neg h]
    have e0 : occAt (b :: l) [c] 0 = false := by
      show (c == b && true) = false
      rw [Bool.and_true]; exact beq_false_of_ne (Ne.symm h)
    rcases index_spec l [c] with ⟨h1, h2⟩ | ⟨i, h1, h2, h3, h4⟩
    · rw [if_pos h1]
      refine index_none fun j hj => ?_
      cases j with
      | zero => exact e0
      | succ j => exact h2 j (by simpa using hj)
    · rw [if_neg (by omega), h1]
      have := index_first (s := b :: l) (sub := [c]) (i := i + 1) (by simpa using h2) h3 (fun j hj => by
        cases j with
        | zero => exact e0
        | succ j => exact h4 j (by omega))
      rw [this]; omega
theorem index_nil (c : UInt8) : index [] [c] = -1 := by
  refine index_none fun j hj => ?_
  obtain rfl : j = 0 := Nat.le_zero.1 hj
  rfl
def spl (c : UInt8) : Str → List Str
  | [] => [[]]
  | b :: l => if b = c then [] :: spl c l else match spl c l with
    | [] => [[b]]
    | p :: r => (b :: p) :: r
theorem spl_ne (c : UInt8) (l : Str) : spl c l ≠ [] := by
  cases l with
  | nil => simp [spl]
  | cons b l => rw [spl]; split; (· simp); split <;> simp
def consH (b : UInt8) : List Str → List Str
  | [] => [[b]]
  | p :: r => (b :: p) :: r
theorem spl_cons_ne {c b : UInt8} (l : Str) (h : b ≠ c) : spl c (b :: l) = consH b (spl c l) := by
  rw [spl, if_neg h]; cases spl c l <;> rfl
theorem spl_cons_eq (c : UInt8) (l : Str) : spl c (c :: l) = [] :: spl c l := by rw [spl, if_pos rfl]
theorem splitK_cons_ne (c b : UInt8) (h : b ≠ c) : ∀ (k : Nat) (l : Str), splitK [c] 0 k (b :: l) = consH b (splitK [c] 0 k l)
  | 0, l => rfl
  | k + 1, l => by
    unfold splitK
    rw [index_cons, if_neg h]
    by_cases hm : index l [c] = -1
    · rw [if_pos hm, if_pos (by rfl), if_pos (beq_iff_eq.2 hm)]; rfl
    · have := index_ge l [c]
      rw [if_neg hm, if_neg (by simp; omega), if_neg (by simpa using hm)]
      have e : (index l [c] + 1).toNat = (index l [c]).toNat + 1 := by omega
      rw [e]; rfl
theorem splitK_spl (c : UInt8) : ∀ (s : Str), splitK [c] 0 (count s [c]) s = spl c s
  | [] => by rw [show count [] [c] = 0 from count_miss (index_nil c)]; rfl
  | b :: l => by
    by_cases h : b = c
    · subst h
      rw [count_cons_eq, Nat.add_comm, spl_cons_eq]
      unfold splitK
      rw [index_cons, if_pos rfl, if_neg (by decide)]
      show [] :: splitK [b] 0 (count l [b]) l = _
      rw [splitK_spl b l]
    · rw [count_cons_ne b c l h, splitK_cons_ne c b h, splitK_spl c l, spl_cons_ne l h]
theorem splitB_spl (c : UInt8) (s : ByteArray) : (splitB ⟨#[c]⟩ 0 (countB s ⟨#[c]⟩) s).map (·.data.toList) = spl c s.data.toList := by
  rw [splitB_data]; exact splitK_spl c _
def joinS (ws : List Str) : Str := join ws [32]
theorem joinS_cons (w v : Str) (ws : List Str) : joinS (w :: v :: ws) = w ++ 32 :: joinS (v :: ws) := by
  unfold joinS; rw [join_cons, join_cons]; simp [joinTail]
theorem spl_word {w : Str} (h : ∀ b ∈ w, b ≠ 32) : spl 32 w = [w] := by
  induction w with
  | nil => rfl
  | cons b w ih => rw [spl_cons_ne _ (h b (List.mem_cons_self ..)), ih fun x hx => h x (List.mem_cons_of_mem _ hx)]; rfl
theorem spl_app {w l : Str} (h : ∀ b ∈ w, b ≠ 32) : spl 32 (w ++ 32 :: l) = w :: spl 32 l := by
  induction w with
  | nil => exact spl_cons_eq 32 l
  | cons b w ih => rw [List.cons_append, spl_cons_ne _ (h b (List.mem_cons_self ..)), ih fun x hx => h x (List.mem_cons_of_mem _ hx)]; rfl
theorem spl_joinS : ∀ {ws : List Str}, ws ≠ [] → (∀ w ∈ ws, ∀ b ∈ w, b ≠ 32) → spl 32 (joinS ws) = ws
  | [], h, _ => absurd rfl h
  | [w], _, h => by rw [show joinS [w] = w from join_one w [32]]; exact spl_word (h w (List.mem_cons_self ..))
  | w :: v :: ws, _, h => by rw [joinS_cons, spl_app (h w (List.mem_cons_self ..)), spl_joinS (List.cons_ne_nil _ _) fun x hx => h x (List.mem_cons_of_mem _ hx)]
def okB (b : UInt8) : Prop := b ≠ 32 ∧ b ≠ 9 ∧ b ≠ 35 ∧ b ≠ 10
theorem itoa_ok {n : Int} (h : okN n) : ∀ b ∈ itoa n, okB b := fun b hb => by
  have := itoa_byte h.1 b hb
  refine ⟨?_, ?_, ?_, ?_⟩ <;> rintro rfl <;> revert this <;> decide
theorem lin_ok {a : Cmd} {ws : List Str} (h : Lin a ws) : ws ≠ [] ∧ ∀ w ∈ ws, w ≠ [] ∧ ∀ b ∈ w, okB b := by
  have key : ∀ w : Str, (w != [] && w.all fun b => b != 32 && b != 9 && b != 35 && b != 10) = true → w ≠ [] ∧ ∀ b ∈ w, okB b := fun w hw => by
    rw [Bool.and_eq_true] at hw
    refine ⟨by simpa using hw.1, fun b hb => ?_⟩
    have := List.all_eq_true.1 hw.2 b hb
    simp only [Bool.and_eq_true, bne_iff_ne, ne_eq] at this
    exact ⟨this.1.1.1, this.1.1.2, this.1.2, this.2⟩
  have num : ∀ {n : Int}, okN n → itoa n ≠ [] ∧ ∀ b ∈ itoa n, okB b := fun h => ⟨itoa_ne _, itoa_ok h⟩
  cases h <;> refine ⟨List.cons_ne_nil _ _, fun w hw => ?_⟩ <;> simp only [List.mem_cons, List.mem_nil_iff, or_false] at hw
  · rcases hw with rfl | rfl | rfl; (· exact key _ (by decide)); (· exact num ‹_›); (· exact num ‹_›)
  · rcases hw with rfl | rfl | rfl | rfl; (· exact key _ (by decide)); (· exact num ‹_›); (· exact num ‹_›); (· exact num ‹_›)
  · rcases hw with rfl | rfl | rfl | rfl; (· exact key _ (by decide)); (· exact num ‹_›); (· exact num ‹_›); (· exact num ‹_›)
  · rcases hw with rfl | rfl | rfl; (· exact key _ (by decide)); (· exact key _ (by decide)); (· exact num ‹_›)
  · rcases hw with rfl | rfl | rfl; (· exact key _ (by decide)); (· exact key _ (by decide)); (· exact num ‹_›)
  · rcases hw with rfl | rfl | rfl | rfl; (· exact key _ (by decide)); (· exact num ‹_›); (· exact num ‹_›); (· exact num ‹_›)
  · rcases hw with rfl | rfl; (· exact key _ (by decide)); (· exact num ‹_›)
  · subst hw; exact key _ (by decide)
  · rcases hw with rfl | rfl; (· exact key _ (by decide)); (· exact num ‹_›)

theorem nd_le {u : Nat} (h : u ≤ 1099511627776) : nDigits u ≤ 13 := by
  by_cases k : nDigits u ≤ 13
  · exact k
  · exfalso
    have e : ∀ (j v : Nat), j < nDigits v → v ≥ 10 ^ j ∨ j = 0 := by
      intro j
      induction j with
      | zero => intro v _; exact .inr rfl
      | succ j ih =>
        intro v hv
        by_cases h10 : v < 10
        · rw [nDigits_small h10] at hv; omega
        · rw [nDigits_big h10] at hv
          refine .inl ?_
          rw [Nat.pow_succ]
          rcases ih (v / 10) (by omega) with h | rfl
          · omega
          · omega
    rcases e 13 u (by omega) with h' | h'
    · have : (10 : Nat) ^ 13 = 10000000000000 := by decide
      omega
    · omega
theorem len1 {α : Type} {l : List α} (h : l.length = 1) : ∃ a, l = [a] := List.length_eq_one_iff.1 h
theorem len2 {α : Type} {l : List α} (h : l.length = 2) : ∃ a b, l = [a, b] := by
  match l, h with | [a, b], _ => exact ⟨a, b, rfl⟩
theorem len3 {α : Type} {l : List α} (h : l.length = 3) : ∃ a b c, l = [a, b, c] := by
  match l, h with | [a, b, c], _ => exact ⟨a, b, c, rfl⟩

def wDepM : Str := wDeposit ++ 32 :: wMerchant
def wDepH : Str := wDeposit ++ 32 :: wHolder
def wordK (a : Cmd) : Str := if a.kind = 1 then wWithdraw else if a.kind = 2 then wPay else if a.kind = 3 then wTransfer else if a.kind = 4 then (if a.whom = 0 then wDepM else if a.whom = 1 then wDepH else []) else if a.kind = 5 then wDouble
  else if a.kind = 6 then wTrace else if a.kind = 7 then wClear else if a.kind = 8 then wTick else []
def numsK (a : Cmd) : List Int := if a.kind = 1 then [a.who, a.amount] else if a.kind = 2 ∨ a.kind = 3 ∨ a.kind = 5 then [a.who, a.whom, a.amount] else if a.kind = 4 ∨ a.kind = 6 then [a.who] else if a.kind = 8 then [a.amount] else []
def restB (a : Cmd) : Bool := if a.kind = 1 then a.whom == 0 else if a.kind = 4 then a.amount == 0 else if a.kind = 6 then a.whom == 0 && a.amount == 0 else if a.kind = 7 then a.who == 0 && (a.whom == 0 && a.amount == 0) else if a.kind = 8 then a.who == 0 && a.whom == 0 else true
def wrB (a : Cmd) : Bool := (wordK a != [] && a.honest == (a.kind != 5)) && ((numsK a).all (fun n => decide (0 ≤ n) && decide (n ≤ 1099511627776)) && restB a)
def textR (a : Cmd) : Str := wordK a ++ (numsK a).flatMap fun n => 32 :: itoa n
theorem joinS_one (w : Str) : joinS [w] = w := join_one w [32]
theorem lin_wr {a : Cmd} {ws : List Str} (h : Lin a ws) : wrB a = true ∧ textR a = joinS ws := by
  cases h with
  | withdraw hx hy => exact ⟨by simp [wrB, wordK, numsK, restB, wWithdraw, hx.1, hx.2, hy.1, hy.2], by simp [textR, wordK, numsK, joinS_cons, joinS_one]⟩
  | pay hx hy hz => exact ⟨by simp [wrB, wordK, numsK, restB, wPay, hx.1, hx.2, hy.1, hy.2, hz.1, hz.2], by simp [textR, wordK, numsK, joinS_cons, joinS_one]⟩
  | transfer hx hy hz => exact ⟨by simp [wrB, wordK, numsK, restB, wTransfer, hx.1, hx.2, hy.1, hy.2, hz.1, hz.2], by simp [textR, wordK, numsK, joinS_cons, joinS_one]⟩
  | merchant hx => exact ⟨by simp [wrB, wordK, numsK, restB, wDepM, wDeposit, hx.1, hx.2], by simp [textR, wordK, numsK, joinS_cons, joinS_one, wDepM]⟩
  | holder hx => exact ⟨by simp [wrB, wordK, numsK, restB, wDepH, wDeposit, hx.1, hx.2], by simp [textR, wordK, numsK, joinS_cons, joinS_one, wDepH]⟩
  | double hx hy hz => exact ⟨by simp [wrB, wordK, numsK, restB, wDouble, hx.1, hx.2, hy.1, hy.2, hz.1, hz.2], by simp [textR, wordK, numsK, joinS_cons, joinS_one]⟩
  | trace hx => exact ⟨by simp [wrB, wordK, numsK, restB, wTrace, hx.1, hx.2], by simp [textR, wordK, numsK, joinS_cons, joinS_one]⟩
  | clear => exact ⟨rfl, rfl⟩
  | tick hx => exact ⟨by simp [wrB, wordK, numsK, restB, wTick, hx.1, hx.2], by simp [textR, wordK, numsK, joinS_cons, joinS_one]⟩
theorem wr_lin {a : Cmd} (h : wrB a = true) : ∃ ws, Lin a ws := by
  unfold wrB at h
  rw [Bool.and_eq_true, Bool.and_eq_true, Bool.and_eq_true] at h
  obtain ⟨⟨h1, h2⟩, h3, h4⟩ := h
  have t : ∀ {n : Int}, (decide (0 ≤ n) && decide (n ≤ 1099511627776)) = true → okN n := fun h => by simpa [okN] using h
  obtain ⟨k, x, y, z, b⟩ := a
  unfold wordK at h1
  simp only at h1 h2
  by_cases e1 : k = 1
  · subst e1
    simp [numsK, restB] at h2 h3 h4
    subst h2; subst h4
    exact ⟨_, .withdraw h3.1 h3.2⟩
  by_cases e2 : k = 2
  · subst e2
    simp [numsK] at h2 h3
    subst h2
    exact ⟨_, .pay h3.1 h3.2.1 h3.2.2⟩
  by_cases e3 : k = 3
  · subst e3
    simp [numsK] at h2 h3
    subst h2
    exact ⟨_, .transfer h3.1 h3.2.1 h3.2.2⟩
  by_cases e4 : k = 4
  · subst e4
    simp [numsK, restB] at h2 h3 h4
    subst h2; subst h4
    by_cases y0 : y = 0
    · subst y0; exact ⟨_, .merchant h3⟩
    · by_cases y1 : y = 1
      · subst y1; exact ⟨_, .holder h3⟩
      · simp [y0, y1] at h1
  by_cases e5 : k = 5
  · subst e5
    simp [numsK] at h2 h3
    subst h2
    exact ⟨_, .double h3.1 h3.2.1 h3.2.2⟩
  by_cases e6 : k = 6
  · subst e6
    simp [numsK, restB] at h2 h3 h4
    obtain ⟨rfl, rfl⟩ := h4
    subst h2
    exact ⟨_, .trace h3⟩
  by_cases e7 : k = 7
  · subst e7
    simp [restB] at h2 h4
    obtain ⟨rfl, rfl, rfl⟩ := h4
    subst h2
    exact ⟨_, .clear⟩
  by_cases e8 : k = 8
  · subst e8
    simp [numsK, restB] at h2 h3 h4
    obtain ⟨rfl, rfl⟩ := h4
    subst h2
    exact ⟨_, .tick h3⟩
  simp [e1, e2, e3, e4, e5, e6, e7, e8] at h1
def eqA (a b : Cmd) : Bool := a.kind == b.kind && (a.who == b.who && (a.whom == b.whom && (a.amount == b.amount && a.honest == b.honest)))
theorem eqA_iff {a b : Cmd} : eqA a b = true ↔ a = b := by
  obtain ⟨a1, a2, a3, a4, a5⟩ := a
  obtain ⟨b1, b2, b3, b4, b5⟩ := b
  simp [eqA]
def textF1 (f : Form) (a : Cmd) : Option Str := match matchF f (lineF f a) with
  | some b => if eqA b a then some (joinS (lineF f a)) else none
  | none => none
def textF (a : Cmd) : Option Str := formL.findSome? fun f => textF1 f a
theorem mf_line {a : Cmd} {ws : List Str} (h : Lin a ws) : ∃ f ∈ formL, matchF f ws = some a ∧ lineF f a = ws := by
  cases h with
  | withdraw hx hy => exact ⟨_, .head _, (m1 (by decide)).2 ⟨_, _, hx, hy, rfl, rfl⟩, rfl⟩
  | pay hx hy hz => exact ⟨_, .tail _ (.head _), (m2 (by decide)).2 ⟨_, _, _, hx, hy, hz, rfl, rfl⟩, rfl⟩
  | transfer hx hy hz => exact ⟨_, .tail _ (.tail _ (.head _)), (m2 (by decide)).2 ⟨_, _, _, hx, hy, hz, rfl, rfl⟩, rfl⟩
  | merchant hx => exact ⟨_, .tail _ (.tail _ (.tail _ (.head _))), (m3 (by decide) (by decide)).2 ⟨_, hx, rfl, rfl⟩, rfl⟩
  | holder hx => exact ⟨_, .tail _ (.tail _ (.tail _ (.tail _ (.head _)))), (m3 (by decide) (by decide)).2 ⟨_, hx, rfl, rfl⟩, rfl⟩
  | double hx hy hz => exact ⟨_, .tail _ (.tail _ (.tail _ (.tail _ (.tail _ (.head _))))), (m2 (by decide)).2 ⟨_, _, _, hx, hy, hz, rfl, rfl⟩, rfl⟩
  | trace hx => exact ⟨_, .tail _ (.tail _ (.tail _ (.tail _ (.tail _ (.tail _ (.head _)))))), (m4 (by decide)).2 ⟨_, hx, rfl, rfl⟩, rfl⟩
  | clear => exact ⟨_, .tail _ (.tail _ (.tail _ (.tail _ (.tail _ (.tail _ (.tail _ (.head _))))))), (m5 (by decide)).2 ⟨rfl, rfl⟩, rfl⟩
  | tick hx => exact ⟨_, .tail _ (.tail _ (.tail _ (.tail _ (.tail _ (.tail _ (.tail _ (.tail _ (.head _)))))))), (m6 (by decide)).2 ⟨_, hx, rfl, rfl⟩, rfl⟩
theorem textF1_some {f : Form} (hf : f ∈ formL) {a : Cmd} {s : Str} (h : textF1 f a = some s) : ∃ ws, Lin a ws ∧ s = joinS ws := by
  unfold textF1 at h
  split at h
  · rename_i b hb
    split at h
    · rename_i he
      rw [eqA_iff.1 he] at hb
      exact ⟨_, mf hf hb, (Option.some.inj h).symm⟩
    · cases h
  · cases h
theorem textF_eq (a : Cmd) : textF a = if wrB a = true then some (textR a) else none := by
  by_cases h : wrB a = true
  · rw [if_pos h]
    obtain ⟨ws, hl⟩ := wr_lin h
    obtain ⟨f, hf, h1, h2⟩ := mf_line hl
    have e1 : textF1 f a = some (joinS ws) := by
      unfold textF1; rw [h2, h1]; simp only; rw [if_pos (eqA_iff.2 rfl)]
    cases hr : textF a with
    | none => rw [textF, List.findSome?_eq_none_iff] at hr; rw [hr f hf] at e1; cases e1
    | some t =>
      obtain ⟨g, hg, ht⟩ := List.exists_of_findSome?_eq_some hr
      obtain ⟨vs, k1, rfl⟩ := textF1_some hg ht
      rw [lin_fun k1 hl, (lin_wr hl).2]
  · rw [if_neg h]
    cases hr : textF a with
    | none => rfl
    | some t =>
      obtain ⟨g, hg, ht⟩ := List.exists_of_findSome?_eq_some hr
      obtain ⟨vs, k1, rfl⟩ := textF1_some hg ht
      exact absurd (lin_wr k1).1 h
theorem lin_len {a : Cmd} {ws : List Str} (h : Lin a ws) : (joinS ws).length ≤ 100 := by
  have n : ∀ {x : Int}, okN x → (itoa x).length ≤ 13 := fun {x} h => by
    obtain ⟨u, rfl⟩ := Int.eq_ofNat_of_zero_le h.1
    rw [itoa_nonneg, decDigits_length]
    have := h.2
    exact nd_le (by omega)
  cases h with
  | withdraw hx hy => have := n hx; have := n hy; simp [joinS_cons, joinS_one, wWithdraw]; omega
  | pay hx hy hz => have := n hx; have := n hy; have := n hz; simp [joinS_cons, joinS_one, wPay]; omega
  | transfer hx hy hz => have := n hx; have := n hy; have := n hz; simp [joinS_cons, joinS_one, wTransfer]; omega
  | merchant hx => have := n hx; simp [joinS_cons, joinS_one, wDeposit, wMerchant]; omega
  | holder hx => have := n hx; simp [joinS_cons, joinS_one, wDeposit, wHolder]; omega
  | double hx hy hz => have := n hx; have := n hy; have := n hz; simp [joinS_cons, joinS_one, wDouble]; omega
  | trace hx => have := n hx; simp [joinS_cons, joinS_one, wTrace]; omega
  | clear => simp [joinS_one, wClear]
  | tick hx => have := n hx; simp [joinS_cons, joinS_one, wTick]; omega
end Go.Sp

namespace Go.Sp
open Go Go.Am Go.Lib
abbrev bs (l : Str) : ByteArray := ⟨l.toArray⟩
theorem bs_data (l : Str) : (bs l).data.toList = l := rfl
theorem bs_size (l : Str) : (bs l).size = l.length := rfl
theorem bs_app (a b : Str) : bs a ++ bs b = bs (a ++ b) := by
  apply ByteArray.ext
  rw [ByteArray.data_append]
  simp
theorem bs_ext (l : Str) (a n : Nat) : (bs l).extract a (a + n) = bs ((l.drop a).take n) := by
  apply ByteArray.ext
  apply Array.toList_inj.1
  simp [ByteArray.data_extract]
theorem bs_toList (l : Str) : (bs l).toList = l := ByteArray.toList_mk l
def Cmd.cells (a : Cmd) : List AV := [.int .i64 a.kind, .int .i64 a.who, .int .i64 a.whom, .int .i64 a.amount, .bool a.honest]
end Go.Sp

namespace Go.Sp
open Go Go.Am

theorem wI {n : Int} (h : -9223372036854775808 ≤ n) (h' : n ≤ 9223372036854775807) : IntKind.wrap .i64 n = n := by
  simp only [IntKind.wrap, IntKind.bits, IntKind.signed]
  simp only [Bool.true_and, decide_eq_true_eq, ge_iff_le]
  split <;> omega

def nodeB (d l i : Int) : Bool := decide (0 ≤ d ∧ d ≤ 5 ∧ 0 ≤ l ∧ l ≤ d ∧ 0 ≤ i ∧ i < 2 ^ l.toNat)
def spanA (d l i : Int) : Int := if nodeB d l i then i * 2 ^ (d - l).toNat else 0
def spanZ (d l i : Int) : Int := if nodeB d l i then (i + 1) * 2 ^ (d - l).toNat else 0
def spanE (d l i : Int) : Int := if d < 0 ∨ 5 < d then 1 else if nodeB d l i then 0 else 2
theorem p2 {k : Int} (h0 : 0 ≤ k) (h1 : k ≤ 5) : IntKind.wrap IntKind.i64 (1 * 2 ^ min (Int.toNat k) 64) = 2 ^ k.toNat ∧ min (Int.toNat k) 64 = k.toNat ∧ 1 ≤ (2 : Int) ^ k.toNat ∧ (2 : Int) ^ k.toNat ≤ 32 := by
  rcases (by omega : k = 0 ∨ k = 1 ∨ k = 2 ∨ k = 3 ∨ k = 4 ∨ k = 5) with rfl | rfl | rfl | rfl | rfl | rfl <;> decide

structure Spend where
  bank : Int
  epoch : Int
  denom : Int
  depth : Int
  a : Int
  root : Nat → Int
  z : Int
  sa : Int
  sb : Int
  r : Int
  level : Int
  index : Int
  payee : Nat → Int
  time : Int
  number : Int
  nl : Nat
  lf : Nat → Nat → Int
  pidx : Int
  np : Nat
  pf : Nat → Nat → Int

abbrev lvs (n : Nat) (f : Nat → Nat → Int) : AV := .isl 3 n (fun i j => .int .i64 (f i j))
abbrev hss (n : Nat) (f : Nat → Nat → Int) : AV := .isl 32 n (fun i j => .int .u8 (f i j))

def Spend.cw (s : Spend) (x y : AV) : List AV := [.int .i64 s.bank, .int .i64 s.epoch, .int .i64 s.denom, .int .i64 s.depth, .int .i64 s.a, .int .u8 (s.root 0), .int .u8 (s.root 1), .int .u8 (s.root 2), .int .u8 (s.root 3), .int .u8 (s.root 4), .int .u8 (s.root 5), .int .u8 (s.root 6), .int .u8 (s.root 7), .int .u8 (s.root 8), .int .u8 (s.root 9), .int .u8 (s.root 10), .int .u8 (s.root 11), .int .u8 (s.root 12), .int .u8 (s.root 13), .int .u8 (s.root 14), .int .u8 (s.root 15), .int .u8 (s.root 16), .int .u8 (s.root 17), .int .u8 (s.root 18), .int .u8 (s.root 19), .int .u8 (s.root 20), .int .u8 (s.root 21), .int .u8 (s.root 22), .int .u8 (s.root 23), .int .u8 (s.root 24), .int .u8 (s.root 25), .int .u8 (s.root 26), .int .u8 (s.root 27), .int .u8 (s.root 28), .int .u8 (s.root 29), .int .u8 (s.root 30), .int .u8 (s.root 31), .int .i64 s.z, .int .i64 s.sa, .int .i64 s.sb, .int .i64 s.r, .int .i64 s.level, .int .i64 s.index, .int .u8 (s.payee 0), .int .u8 (s.payee 1), .int .u8 (s.payee 2), .int .u8 (s.payee 3), .int .u8 (s.payee 4), .int .u8 (s.payee 5), .int .u8 (s.payee 6), .int .u8 (s.payee 7), .int .u8 (s.payee 8), .int .u8 (s.payee 9), .int .u8 (s.payee 10), .int .u8 (s.payee 11), .int .u8 (s.payee 12), .int .u8 (s.payee 13), .int .u8 (s.payee 14), .int .u8 (s.payee 15), .int .u8 (s.payee 16), .int .u8 (s.payee 17), .int .u8 (s.payee 18), .int .u8 (s.payee 19), .int .u8 (s.payee 20), .int .u8 (s.payee 21), .int .u8 (s.payee 22), .int .u8 (s.payee 23), .int .u8 (s.payee 24), .int .u8 (s.payee 25), .int .u8 (s.payee 26), .int .u8 (s.payee 27), .int .u8 (s.payee 28), .int .u8 (s.payee 29), .int .u8 (s.payee 30), .int .u8 (s.payee 31), .int .i64 s.time, .int .i64 s.number, x, .int .i64 s.pidx, y]
def Spend.cells (s : Spend) : List AV := s.cw (lvs s.nl s.lf) (hss s.np s.pf)
def Spend.av (s : Spend) : AV := .agg s.cells

def okS (s : Spend) : Bool := !(spanE s.depth s.level s.index != 0 || (s.nl : Int) != IntKind.wrap .i64 (spanZ s.depth s.level s.index - spanA s.depth s.level s.index) || decide (s.time < 0) || decide (s.time > 1099511627776) || decide (s.number < 0) || decide (s.number > 1073741824))

def firstI (p : Nat → Bool) : Nat → Nat → Int
  | 0, _ => -1
  | k + 1, i => if p i then i else firstI p k (i + 1)

theorem firstI_step {p : Nat → Bool} {n i : Nat} (h : i < n) : firstI p (n - i) i = if p i then (i : Int) else firstI p (n - (i + 1)) (i + 1) := by
  rw [show n - i = (n - (i + 1)) + 1 by omega]; rfl
theorem firstI_end {p : Nat → Bool} {n i : Nat} (h : n ≤ i) : firstI p (n - i) i = -1 := by
  rw [show n - i = 0 by omega]; rfl
theorem firstI_neg {p : Nat → Bool} : ∀ k i, (decide (firstI p k i ≥ 0)) = (List.range k).any (fun q => p (i + q))
  | 0, i => rfl
  | k + 1, i => by
    have ih := firstI_neg (p := p) k (i + 1)
    have e : (List.range (k + 1)).any (fun q => p (i + q)) = (p i || (List.range k).any (fun q => p (i + 1 + q))) := by
      rw [List.range_succ_eq_map, List.any_cons, List.any_map]
      show (p i || (List.range k).any (fun q => p (i + (q + 1)))) = _
      have : (fun q => p (i + (q + 1))) = (fun q => p (i + 1 + q)) := funext fun q => congrArg p (by omega)
      rw [this]
    rw [e, ← ih]
    by_cases h : p i = true
    · rw [firstI, if_pos h, h]; simp
    · have hf : p i = false := by simpa using h
      rw [firstI, if_neg h, hf]; simp

theorem first_hit {p : Nat → Bool} {A : Int} {n i : Nat} (hx : A = firstI p (n - i) i) (h : i < n) (hp : p i = true) : (i : Int) = A := by rw [hx, firstI_step h, if_pos hp]
theorem first_next {p : Nat → Bool} {A : Int} {n i : Nat} (hx : A = firstI p (n - i) i) (h : i < n) (hp : p i = false) : A = firstI p (n - (i + 1)) (i + 1) := by rw [hx, firstI_step h, if_neg (by simp [hp])]
theorem first_miss {p : Nat → Bool} {A : Int} {n i : Nat} (hx : A = firstI p (n - i) i) (h : n ≤ i) : -1 = A := by rw [hx, firstI_end h]

theorem inc_ent {os : List (Option Ob)} {i : Nat} (h : i < 9223372036854775807) : Ent os (.int .i64 (IntKind.wrap .i64 (Nat.cast i + 1))) (.int .i64 (Nat.cast (i + 1))) := Ent.of_eq (by rw [wI (by omega) (by omega)]; simp)

theorem both {a b : Bool} (h : (!(a && b)) = false) : (a && b) = true := by simpa using congrArg not h

def Spend.zero : Spend := ⟨0, 0, 0, 0, 0, fun _ => 0, 0, 0, 0, 0, 0, 0, fun _ => 0, 0, 0, 0, fun _ _ => 0, 0, 0, fun _ _ => 0⟩

def altE (s : Spend) (k b : Int) : Int := if okS s then (if k < 0 ∨ 11 < k ∨ b < 1 ∨ 1000 < b then 2 else if (k = 10 ∧ s.nl = 1) ∨ (k = 11 ∧ s.np = 0) then 7 else 0) else 1
def x1 (n : Int) : Int := IntKind.wrap .u8 (BitVec.toNat (BitVec.ofInt 8 n ^^^ BitVec.ofInt 8 1))
structure AltOk (s : Spend) (k b : Int) : Prop where
  e : altE s k b = 0
  k0 : 0 ≤ k
  k1 : k ≤ 11
  b0 : 0 ≤ b
  nl : 0 < s.nl
  np : k = 11 → 0 < s.np

end Go.Sp

namespace Go.Sp
open Go Go.Am Go.Lib
def numVal (s : Str) : Int := match atoiAll s with | .ok n => n | NumEnd.syntax => 0 | .range => atoiSat s
theorem num_val {s : Str} {n : Int} (h : numC s = some n) : numVal s = n := by
  unfold numC at h
  unfold numVal
  split at h
  · split at h
    · rename_i e _; rw [e]; exact Option.some.inj h
    · cases h
  · cases h
theorem num_some {s : Str} (h : (numC s).isSome = true) : s = itoa (numVal s) ∧ okN (numVal s) := by
  obtain ⟨n, hn⟩ := Option.isSome_iff_exists.1 h
  rw [num_val hn]
  exact numC_iff.1 hn
theorem eqSt (a b : Str) : ((bs a).toList == (bs b).toList) = decide (a = b) := by
  rw [bs_toList, bs_toList]
  by_cases h : a = b
  · rw [h]; simp
  · rw [decide_eq_false h]; exact beq_false_of_ne h
theorem eqT {a b : Str} (h : ((bs a).toList == (bs b).toList) = true) : a = b := by rw [eqSt] at h; exact of_decide_eq_true h
theorem eqF {a b : Str} (h : ((bs a).toList == (bs b).toList) = false) : a ≠ b := by rw [eqSt] at h; exact of_decide_eq_false h
theorem goM_len : ∀ {ps ws : List Str} {a b : Cmd}, goM a ps ws = some b → ws.length = ps.length
  | [], ws, a, b, h => by rw [goM_nil] at h; rw [h.1]
  | p :: ps, ws, a, b, h => by
    obtain ⟨w, r, c, rfl, _, h2⟩ := goM_cons.1 h
    simp [goM_len h2]
theorem goM_at : ∀ {ps ws : List Str} {a b : Cmd}, goM a ps ws = some b → ∀ (j : Nat) (p : Str), ps[j]? = some p → if fieldN p = 0 then ws.getD j [] = p else (numC (ws.getD j [])).isSome = true
  | [], ws, a, b, h, j, p, hp => by simp at hp
  | q :: ps, ws, a, b, h, 0, p, hp => by
    obtain ⟨w, r, c, rfl, h1, _⟩ := goM_cons.1 h
    simp only [List.getElem?_cons_zero, Option.some.injEq] at hp
    subst hp
    show if fieldN q = 0 then w = q else (numC w).isSome = true
    unfold stepM at h1
    split at h1
    · rename_i e
      rw [if_pos e]
      split at h1
      · assumption
      · cases h1
    · rename_i e
      rw [if_neg e]
      obtain ⟨n, hn, _⟩ := Option.map_eq_some_iff.1 h1
      rw [hn]; rfl
  | q :: ps, ws, a, b, h, j + 1, p, hp => by
    obtain ⟨w, r, c, rfl, _, h2⟩ := goM_cons.1 h
    exact goM_at h2 j p (by simpa using hp)
theorem goM_none {a : Cmd} {ps ws : List Str} (h : ∀ b, goM a ps ws ≠ some b) : goM a ps ws = none := by
  cases e : goM a ps ws with
  | none => rfl
  | some b => exact absurd e (h b)
theorem nLen {f : Form} {ws : List Str} (n : Nat) (hn : f.ws.length = n) (h : ¬ (ws.length : Int) = (n : Int)) : matchF f ws = none := goM_none fun b e => h (by have := goM_len e; rw [hn] at this; rw [this])
theorem nWord {f : Form} {ws : List Str} (j : Nat) (p : Str) (hp : f.ws[j]? = some p) (h0 : fieldN p = 0) (h : ((bs (ws.getD j [])).toList == (bs p).toList) = false) : matchF f ws = none := goM_none fun b e => by
  have := goM_at e j p hp
  rw [if_pos h0] at this
  exact eqF h this
theorem nNum {f : Form} {ws : List Str} (j : Nat) (p : Str) (hp : f.ws[j]? = some p) (h0 : fieldN p ≠ 0) (h : (numC (ws.getD j [])).isSome = false) : matchF f ws = none := goM_none fun b e => by
  have := goM_at e j p hp
  rw [if_neg h0, h] at this
  cases this
theorem mO {f : Form} {ws : List Str} (h : matchF f ws = none) : AV.tup [.agg [.int .i64 0, .int .i64 0, .int .i64 0, .int .i64 0, .bool false], .bool false] = .tup [.agg (Cmd.cells ((matchF f ws).getD .zero)), .bool (matchF f ws).isSome] := by rw [h]; rfl
section
variable {k m : Int} {b : Bool} {W V : Str} {ws : List Str}
theorem s1 (h : fieldN W = 0) (hl : (ws.length : Int) = ((3 : Nat) : Int)) (h0 : ((bs (ws.getD 0 [])).toList == (bs W).toList) = true) (h1 : (numC (ws.getD 1 [])).isSome = true) (h2 : (numC (ws.getD 2 [])).isSome = true) :
    goM ⟨k, 0, 0, 0, b⟩ [W, wWho, wAmount] ws = some ⟨k, numVal (ws.getD 1 []), 0, numVal (ws.getD 2 []), b⟩ := by
  obtain ⟨x, y, z, rfl⟩ := len3 (show ws.length = 3 by omega)
  obtain rfl : x = W := eqT h0
  have g1 := num_some (s := y) h1
  have g2 := num_some (s := z) h2
  exact (m1 h).2 ⟨_, _, g1.2, g2.2, by rw [← g1.1, ← g2.1], rfl⟩
theorem s2 (h : fieldN W = 0) (hl : (ws.length : Int) = ((4 : Nat) : Int)) (h0 : ((bs (ws.getD 0 [])).toList == (bs W).toList) = true) (h1 : (numC (ws.getD 1 [])).isSome = true) (h2 : (numC (ws.getD 2 [])).isSome = true) (h3 : (numC (ws.getD 3 [])).isSome = true) :
    goM ⟨k, 0, 0, 0, b⟩ [W, wWho, wWhom, wAmount] ws = some ⟨k, numVal (ws.getD 1 []), numVal (ws.getD 2 []), numVal (ws.getD 3 []), b⟩ := by
  obtain ⟨x, y, z, v, rfl⟩ : ∃ x y z v, ws = [x, y, z, v] := by
    match ws, (show ws.length = 4 by omega) with
    | [x, y, z, v], _ => exact ⟨x, y, z, v, rfl⟩
  obtain rfl : x = W := eqT h0
  have g1 := num_some (s := y) h1
  have g2 := num_some (s := z) h2
  have g3 := num_some (s := v) h3
  exact (m2 h).2 ⟨_, _, _, g1.2, g2.2, g3.2, by rw [← g1.1, ← g2.1, ← g3.1], rfl⟩
theorem s3 (h : fieldN W = 0) (h' : fieldN V = 0) (hl : (ws.length : Int) = ((3 : Nat) : Int)) (h0 : ((bs (ws.getD 0 [])).toList == (bs W).toList) = true) (h1 : ((bs (ws.getD 1 [])).toList == (bs V).toList) = true) (h2 : (numC (ws.getD 2 [])).isSome = true) :
    goM ⟨k, 0, m, 0, b⟩ [W, V, wWho] ws = some ⟨k, numVal (ws.getD 2 []), m, 0, b⟩ := by
  obtain ⟨x, y, z, rfl⟩ := len3 (show ws.length = 3 by omega)
  obtain rfl : x = W := eqT h0
  obtain rfl : y = V := eqT h1
  have g2 := num_some (s := z) h2
  exact (m3 h h').2 ⟨_, g2.2, by rw [← g2.1], rfl⟩
theorem s4 (h : fieldN W = 0) (hl : (ws.length : Int) = ((2 : Nat) : Int)) (h0 : ((bs (ws.getD 0 [])).toList == (bs W).toList) = true) (h1 : (numC (ws.getD 1 [])).isSome = true) :
    goM ⟨k, 0, 0, 0, b⟩ [W, wWho] ws = some ⟨k, numVal (ws.getD 1 []), 0, 0, b⟩ := by
  obtain ⟨x, y, rfl⟩ := len2 (show ws.length = 2 by omega)
  obtain rfl : x = W := eqT h0
  have g1 := num_some (s := y) h1
  exact (m4 h).2 ⟨_, g1.2, by rw [← g1.1], rfl⟩
theorem s5 (h : fieldN W = 0) (hl : (ws.length : Int) = ((1 : Nat) : Int)) (h0 : ((bs (ws.getD 0 [])).toList == (bs W).toList) = true) : goM ⟨k, 0, 0, 0, b⟩ [W] ws = some ⟨k, 0, 0, 0, b⟩ := by
  obtain ⟨x, rfl⟩ := len1 (show ws.length = 1 by omega)
  obtain rfl : x = W := eqT h0
  exact (m5 h).2 ⟨rfl, rfl⟩
theorem s6 (h : fieldN W = 0) (hl : (ws.length : Int) = ((2 : Nat) : Int)) (h0 : ((bs (ws.getD 0 [])).toList == (bs W).toList) = true) (h1 : (numC (ws.getD 1 [])).isSome = true) :
    goM ⟨k, 0, 0, 0, b⟩ [W, wAmount] ws = some ⟨k, 0, 0, numVal (ws.getD 1 []), b⟩ := by
  obtain ⟨x, y, rfl⟩ := len2 (show ws.length = 2 by omega)
  obtain rfl : x = W := eqT h0
  have g1 := num_some (s := y) h1
  exact (m6 h).2 ⟨_, g1.2, by rw [← g1.1], rfl⟩
end
end Go.Sp
namespace Go.Sp
open Go Go.Am Go.Lib
theorem spl_len (c : UInt8) : ∀ (s : Str), (spl c s).length ≤ s.length + 1 ∧ ∀ w ∈ spl c s, w.length ≤ s.length
  | [] => ⟨Nat.le_refl _, fun w hw => by rw [List.mem_singleton.1 hw]; exact Nat.le_refl _⟩
  | b :: l => by
    have ih := spl_len c l
    by_cases h : b = c
    · subst h
      rw [spl_cons_eq]
      refine ⟨by simp; exact ih.1, fun w hw => ?_⟩
      rcases List.mem_cons.1 hw with rfl | hw
      · exact Nat.zero_le _
      · have := ih.2 w hw; simp; omega
    · rw [spl_cons_ne l h]
      cases hs : spl c l with
      | nil => exact absurd hs (spl_ne _ _)
      | cons p r =>
        rw [hs] at ih
        refine ⟨by have := ih.1; simp [consH] at this ⊢; omega, fun w hw => ?_⟩
        simp only [consH, List.mem_cons] at hw
        rcases hw with rfl | hw
        · have := ih.2 p (List.mem_cons_self ..); simp; omega
        · have := ih.2 w (List.mem_cons_of_mem _ hw); simp; omega
end Go.Sp
namespace Go.Sp
open Go Go.Am Go.Lib
end Go.Sp

namespace Go.Am
open Go.RowKit

def boolOfAV : AV → Bool
  | .bool b => b
  | _ => false
def strOfAV : AV → ByteArray
  | .str s => s
  | _ => .empty

def homCT : List CT → Option IntKind
  | [.int k] => some k
  | .int k :: cs => match homCT cs with
    | some k' => bif decide (k = k') then some k else none
    | none => none
  | _ => none

theorem homCT_at : ∀ {cs : List CT} {k : IntKind}, homCT cs = some k → ∀ c, c ∈ cs → c = .int k
  | [], _, h => by simp [homCT] at h
  | [c0], k, h => by
    intro c hc
    cases c0 <;> simp [homCT] at h
    subst h
    simpa using hc
  | c0 :: c1 :: cs, k, h => by
    cases c0 <;> simp only [homCT, reduceCtorEq] at h
    rename_i k0
    cases hr : homCT (c1 :: cs) with
    | none => rw [hr] at h; simp at h
    | some k' =>
      rw [hr] at h
      simp only at h
      obtain ⟨h1, h2⟩ := bif_some h
      cases h2
      have h1 := of_decide_eq_true h1
      subst h1
      intro c hc
      rcases List.mem_cons.1 hc with rfl | hc
      · rfl
      · exact homCT_at hr c hc

mutual
def canon : CT → AV → AV
  | .int k, a => .int k (intOfAV a)
  | .bool, a => .bool (boolOfAV a)
  | .str, a => .str (strOfAV a)
  | .sl cs, a => .isl cs.length (islN a) (match homCT cs with
    | some k => fun i j => .int k (intOfAV (islF a i (bif Nat.beq cs.length 1 then 0 else j)))
    | none => fun i j => atL (canonRow cs (fun q => islF a i q) 0) j)
def canonRow : List CT → (Nat → AV) → Nat → List AV
  | [], _, _ => []
  | c :: cs, g, n => canon c (g n) :: canonRow cs g (n + 1)
end

theorem canonRow_get : ∀ (cs : List CT) (g : Nat → AV) (n j : Nat) (c : CT), cs[j]? = some c → (canonRow cs g n)[j]? = some (canon c (g (n + j)))
  | [], _, _, _, _, h => by simp at h
  | c :: cs, g, n, 0, c', h => by simp at h; subst h; simp [canonRow]
  | c :: cs, g, n, j + 1, c', h => by
    simp at h
    simp only [canonRow, List.getElem?_cons_succ]
    rw [canonRow_get cs g (n + 1) j c' h, show n + 1 + j = n + (j + 1) by omega]
theorem canonRow_length : ∀ (cs : List CT) (g : Nat → AV) (n : Nat), (canonRow cs g n).length = cs.length
  | [], _, _ => rfl
  | c :: cs, g, n => by simp [canonRow, canonRow_length cs g (n + 1)]

theorem Ent.islE {os : List (Option Ob)} {es n : Nat} {f g : Nat → Nat → AV} (h : ∀ i j, i < n → j < es → Ent os (f i j) (g i j) ∧ Cl (g i j)) : Ent os (.isl es n f) (.isl es n g) := fun β w v hh hr => by
  cases hr with
  | isl vals he hcap hb hc ho hr hcl => exact .isl vals he hcap hb hc ho (fun i j hi hj => (h i j hi hj).1 β w _ hh (hr i j hi hj)) (fun i j hi hj => (h i j hi hj).2)
  | isl0 h' => exact .isl0 h'

theorem canon_ent {os : List (Option Ob)} {c : CT} {a : AV} (h : CellOk c a) : Ent os a (canon c a) ∧ Cl (canon c a) := by
  induction h with
  | int h => exact ⟨Ent.of_eq (by simp [canon, intOfAV]), by unfold canon; exact .int⟩
  | bool => exact ⟨Ent.of_eq (by simp [canon, boolOfAV]), by unfold canon; exact .bool⟩
  | str h => exact ⟨Ent.of_eq (by simp [canon, strOfAV]), by unfold canon; exact .str⟩
  | @sl cs n f hn h ih =>
    have key : ∀ i j, i < n → j < cs.length → ∃ c, cs[j]? = some c ∧ atL (canonRow cs (fun q => f i q) 0) j = canon c (f i j) := fun i j hi hj => by
      refine ⟨cs[j], by simp [hj], ?_⟩
      unfold atL
      rw [List.getD_eq_getElem?_getD, canonRow_get cs _ 0 j cs[j] (by simp [hj])]
      simp
    unfold canon
    cases hh : homCT cs with
    | none =>
      refine ⟨Ent.islE fun i j hi hj => ?_, .isl fun i j hi hj => ?_⟩
      · obtain ⟨c, h1, h2⟩ := key i j hi hj
        show Ent os (f i j) (atL (canonRow cs (fun q => f i q) 0) j) ∧ Cl (atL (canonRow cs (fun q => f i q) 0) j)
        rw [h2]
        exact ih i j c hi h1
      · obtain ⟨c, h1, h2⟩ := key i j hi hj
        show Cl (atL (canonRow cs (fun q => f i q) 0) j)
        rw [h2]
        exact (ih i j c hi h1).2
    | some k =>
      refine ⟨Ent.islE fun i j hi hj => ⟨Ent.of_eq ?_, .int⟩, .isl fun i j hi hj => .int⟩
      show f i j = .int k (intOfAV (f i (bif Nat.beq cs.length 1 then 0 else j)))
      have hj' : (bif Nat.beq cs.length 1 then 0 else j) = j := by
        cases hb : Nat.beq cs.length 1 with
        | true =>
          have := Nat.eq_of_beq_eq_true hb
          show 0 = j
          omega
        | false => rfl
      rw [hj']
      have hc : cs[j]? = some cs[j] := by simp [hj]
      have := h i j _ hi hc
      rw [homCT_at hh cs[j] (List.getElem_mem hj)] at this
      generalize f i j = q at this
      cases this
      rfl

theorem Fits.canon {w : World} {ts : List CT} {cs : List Value} (h : Fits w ts cs) : ∃ g : Nat → AV, (∀ (j : Nat) c, ts[j]? = some c → CellOk c (g j)) ∧ Rel noB w (.agg (canonRow ts g 0)) (.agg cs.toArray) := by
  obtain ⟨g, hg⟩ := h.pick
  refine ⟨g, fun j c hc => (hg j c hc).1, ?_⟩
  refine .agg (by simp [canonRow_length, h.len]) fun j u v hu hv => ?_
  have hj : j < ts.length := by rw [← canonRow_length ts g 0]; exact (List.getElem?_eq_some_iff.1 hu).1
  have hc : ts[j]? = some ts[j] := by simp [hj]
  rw [canonRow_get ts g 0 j _ hc] at hu
  obtain ⟨h1, v', h2, h3⟩ := hg j _ hc
  have hv : cs[j]? = some v := by simpa using hv
  rw [h2] at hv; cases hv
  cases hu
  rw [Nat.zero_add]
  exact (canon_ent (os := []) h1).1 _ _ _ (fun k o hk => by simp at hk) h3

theorem CellOk.sl_inv {cs : List CT} {a : AV} (h : CellOk (.sl cs) a) : islN a ≤ maxLen ∧ ∀ i j c, i < islN a → cs[j]? = some c → CellOk c (islF a i j) := by
  cases h with
  | sl hn h => exact ⟨hn, h⟩
theorem CellOk.int_inv {k : IntKind} {a : AV} (h : CellOk (.int k) a) : (Lit.int k (intOfAV a)).wf = true := canonI_wf h


theorem rel_agg_parts {β : Book} {w : World} {l : List AV} {vs : Array Value} (h : Rel β w (.agg l) (.agg vs)) : l.length = vs.size ∧ ∀ (j : Nat) u v, l[j]? = some u → vs[j]? = some v → Rel β w u v := by
  cases h with | agg hl hr => exact ⟨hl, hr⟩

section
open Go.ChangeShapes Go.WideShapes Go.ChangeAt
variable {H : Type} {enc : TypeId × Value → H} {P : Program} {W : World} {sp : Nat → Bool}

theorem open_any {r : Reach} {b0 : Nat} {t : TypeId} {v : Value} {d : DataW H} {ps : List MemPlace} {ts : List CT} {ag : Bool} (ht : isAggT P t = some ag)
    (hsh : shape P 9 t = some ts) (hv : Value.okWide P W r b0 t v) (h : DataW.Trod enc P W 0 sp true t v d ps) : ∃ cs : List Value, Fits W ts cs ∧ (ag = true → v = .agg cs.toArray) ∧ (ag = false → cs = [v]) := by
  cases ag with
  | true =>
    obtain ⟨cs, e, hf⟩ := open_agg ht hsh hv h
    exact ⟨cs, hf, fun _ => e, fun h => by cases h⟩
  | false =>
    obtain ⟨fuel, hf⟩ := h
    have hc : v.cells.toList = [v] := by
      simp only [shape] at hsh
      split at hsh
      · rename_i hu; obtain ⟨b, rfl⟩ := okWide_bool hu hv; rfl
      · rename_i k hu; obtain ⟨n, rfl⟩ := okWide_int hu hv; rfl
      · rename_i hu; obtain ⟨n, rfl⟩ := okWide_string hu hv; rfl
      · rename_i e hu; obtain ⟨a, l, c, rfl⟩ := okWide_slice hu hv; rfl
      · rename_i fs hu; simp [isAggT, hu] at ht
      · rename_i n e hu; simp [isAggT, hu] at ht
      · cases hsh
    rw [hc] at hf
    exact ⟨[v], open_fits 9 t fuel _ _ ts hf hsh, fun h => by (cases h), fun _ => rfl⟩

def shapesOf (P : Program) : List TypeId → Option (List (Bool × List CT))
  | [] => some []
  | t :: ts => match isAggT P t, shape P 9 t, shapesOf P ts with
    | some b, some l, some r => some ((b, l) :: r)
    | _, _, _ => none

def argsOf : List (Bool × List CT) → (Nat → Nat → AV) → Nat → List AV
  | [], _, _ => []
  | (true, ts) :: S, G, n => .agg (canonRow ts (G n) 0) :: argsOf S G (n + 1)
  | (false, ts) :: S, G, n => atL (canonRow ts (G n) 0) 0 :: argsOf S G (n + 1)

theorem open_all {r : Reach} {b0 : Nat} : ∀ {ts : List TypeId} {vs : List Value} {ds : List (DataW H)} {ps : List MemPlace} {S : List (Bool × List CT)} (n : Nat), shapesOf P ts = some S → DataW.TrodAll enc P W 0 sp true ts vs ds ps →
    (∀ (j : Nat) t v, ts[j]? = some t → vs[j]? = some v → Value.okWide P W r b0 t v) →
    ∃ G : Nat → Nat → AV, (∀ (k : Nat) s, S[k]? = some s → ∀ (j : Nat) c, s.2[j]? = some c → CellOk c (G (n + k) j)) ∧ Rels noB W (argsOf S G n) vs.toArray ∧ ∃ f : Nat → DataW H, ds = (List.range S.length).map f
  | [], [], [], _, S, n, hS, hA, _ => by
    simp [shapesOf] at hS; subst hS
    exact ⟨fun _ _ => .junk, fun k s h => by simp at h, Rels.nil, fun _ => .nil, rfl⟩
  | t :: ts, v :: vs, d :: ds, ps, S, n, hS, hA, hok => by
    obtain ⟨p, q, h1, h2, rfl⟩ := hA
    simp only [shapesOf] at hS
    split at hS
    rotate_left
    · cases hS
    rename_i b l r' e1 e2 e3
    cases hS
    obtain ⟨cs, hf, g1, g2⟩ := open_any e1 e2 (hok 0 t v rfl rfl) h1
    obtain ⟨g, hg, hr⟩ := hf.canon
    obtain ⟨G, hG, hR, f, hds⟩ := open_all (n + 1) e3 h2 (fun j t v ht hv => hok (j + 1) t v (by simpa using ht) (by simpa using hv))
    have hne : ∀ k, Nat.beq (n + 1 + k) n = false := fun k => by
      cases hb : Nat.beq (n + 1 + k) n with
      | false => rfl
      | true => have := Nat.eq_of_beq_eq_true hb; omega
    let G' : Nat → Nat → AV := fun m => bif Nat.beq m n then g else G m
    have hG' : ∀ k, G' (n + 1 + k) = G (n + 1 + k) := fun k => by show (bif _ then _ else _) = _; rw [hne]; rfl
    have hGn : G' n = g := by show (bif Nat.beq n n then _ else _) = _; rw [Nat.beq_refl]; rfl
    have hargs : ∀ (S' : List (Bool × List CT)) (k : Nat), argsOf S' G' (n + 1 + k) = argsOf S' G (n + 1 + k) := by
      intro S'
      induction S' with
      | nil => intro k; rfl
      | cons x S' ih =>
        intro k
        obtain ⟨xb, xl⟩ := x
        cases xb <;> simp only [argsOf, hG'] <;> rw [show n + 1 + k + 1 = n + 1 + (k + 1) by omega, ih]
    refine ⟨G', fun k s hs j c hc => ?_, ?_, fun m => bif Nat.beq m 0 then d else f (m - 1), ?_⟩
    · cases k with
      | zero => simp at hs; subst hs; rw [Nat.add_zero, hGn]; exact hg j c hc
      | succ k =>
        have := hG k s (by simpa using hs) j c hc
        rw [show n + (k + 1) = n + 1 + k by omega, hG']; exact this
    · have h0 := hargs r' 0
      rw [Nat.add_zero] at h0
      cases b with
      | true =>
        have := g1 rfl; subst this
        simp only [argsOf, hGn, h0]
        exact Rels.cons hr hR
      | false =>
        have := g2 rfl; subst this
        simp only [argsOf, hGn, h0]
        refine Rels.cons ?_ hR
        obtain ⟨hl, hrr⟩ := rel_agg_parts hr
        have hlen : l.length = 1 := by rw [← hf.len]; rfl
        have e0 : l[0]? = some l[0] := by simp
        refine hrr 0 _ v ?_ rfl
        unfold atL
        rw [List.getD_eq_getElem?_getD, canonRow_get l g 0 0 _ e0]; rfl
    · rw [hds]
      simp [List.range_succ_eq_map]
      exact fun a _ => rfl
  | [], _ :: _, _, _, _, _, _, h, _ => h.elim
  | [], [], _ :: _, _, _, _, _, h, _ => h.elim
  | _ :: _, [], _, _, _, _, _, h, _ => h.elim
  | _ :: _, _ :: _, [], _, _, _, _, h, _ => h.elim

end
end Go.Am

namespace Go.Sp
open Go Go.Am Go.Lib
def iR (n : Int) : Prop := -9223372036854775808 ≤ n ∧ n ≤ 9223372036854775807
structure CmdR (a : Cmd) : Prop where
  who : iR a.who
  whom : iR a.whom
  amount : iR a.amount
theorem okR {n : Int} (h : okN n) : iR n := ⟨by have := h.1; omega, by have := h.2; omega⟩
theorem zeroR : iR 0 := ⟨by decide, by decide⟩
theorem oneR : iR 1 := ⟨by decide, by decide⟩
theorem lin_R {a : Cmd} {ws : List Str} (h : Lin a ws) : CmdR a := by
  cases h with
  | withdraw hx hy => exact ⟨okR hx, zeroR, okR hy⟩
  | pay hx hy hz => exact ⟨okR hx, okR hy, okR hz⟩
  | transfer hx hy hz => exact ⟨okR hx, okR hy, okR hz⟩
  | merchant hx => exact ⟨okR hx, zeroR, zeroR⟩
  | holder hx => exact ⟨okR hx, oneR, zeroR⟩
  | double hx hy hz => exact ⟨okR hx, okR hy, okR hz⟩
  | trace hx => exact ⟨okR hx, zeroR, zeroR⟩
  | clear => exact ⟨zeroR, zeroR, zeroR⟩
  | tick hx => exact ⟨zeroR, zeroR, okR hx⟩
theorem lin_text {a : Cmd} {ws : List Str} (h : Lin a ws) : textF a = some (joinS ws) := by
  rw [textF_eq, if_pos (lin_wr h).1, (lin_wr h).2]
theorem lin_spl {a : Cmd} {ws : List Str} (h : Lin a ws) : spl 32 (joinS ws) = ws := spl_joinS (lin_ok h).1 fun w hw b hb => (((lin_ok h).2 w hw).2 b hb).1
theorem itoa_d1 {n : Nat} (h : n < 10) : itoa (n : Int) = [UInt8.ofNat (48 + n)] := by rw [itoa_nonneg, decDigits_one h]
theorem itoa_d2 {n : Nat} (h1 : ¬ n < 10) (h2 : n < 100) : itoa (n : Int) = [UInt8.ofNat (48 + n / 10), UInt8.ofNat (48 + n % 10)] := by rw [itoa_nonneg, decDigits_two h1 h2]
end Go.Sp
namespace Go.Sp
open Go Go.Am Go.Lib
def cmdOf (g : Nat → AV) : Cmd := ⟨intOfAV (g 0), intOfAV (g 1), intOfAV (g 2), intOfAV (g 3), boolOfAV (g 4)⟩
theorem cell_R {a : AV} (h : CellOk (.int .i64) a) : iR (intOfAV a) := by
  obtain ⟨h1, h2⟩ := (Lit.wf_int_iff _ _).1 h.int_inv
  exact ⟨Int.le_trans (by decide) h1, Int.le_trans h2 (by decide)⟩
end Go.Sp
