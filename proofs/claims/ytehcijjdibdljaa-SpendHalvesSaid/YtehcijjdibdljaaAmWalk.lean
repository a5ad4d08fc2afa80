/-
  The engine, part 15: 'run', its soundness, and how a contract is proved.
-/
import Derived.Test.YtehcijjdibdljaaAmBody
namespace Go.Am
open Go.RowKit

/-- Whatever the model's state is that the first describes, the second describes it too. -/
def Le (s t : ASt) : Prop := ∀ K β a w, Sim K β s a w → ∃ β', Sim K β' t a w

def run (C : Cfg) : Code → (AExit → ASt → Tree) → ASt → Tree
  | .skip, k, s => k .normal s
  | .label _, k, s => k .normal s
  | .region _ ops draw, k, s =>
    bif dstsOk ops && (!draw || drawOk ops) then rtree C ops s.c ops.toList 0 s.toR (fun r => k .normal (r.toA (s.c + ops.size))) else .bad "region"
  | .seq x y, k, s => run C x (fun e s' => match e with | .normal => run C y k s' | .leave id => k (.leave id) s' | .ret => k .ret s') s
  | .cond c x y, k, s => match ev C.gl s.fr c with
    | .bool b => .br b (run C x k s) (run C y k s)
    | _ => .bad "cond"
  | .block id x, k, s => run C x (fun e s' => match e with | .normal => k .normal s' | .leave j => bif Nat.beq j id then k .normal s' else k (.leave j) s' | .ret => k .ret s') s
  | .exit id, k, s => k (.leave id) s
  | .ret, k, s => k .ret s
  | .loop x, k, s => .fin (∃ (ι : Type) (S : ι → ASt) (m : ι → Nat) (i0 : ι), Le s (S i0) ∧
      ∀ i, (run C x (fun e s' => match e with | .normal => .fin (∃ i', Le s' (S i') ∧ m i' < m i) | .leave id => k (.leave id) s' | .ret => k .ret s') (S i)).wp C.P C.gl)
  | _, _, _ => .bad "code"

def exitOf : Exit → Option AExit
  | .normal => some .normal
  | .exit id => some (.leave id)
  | .ret => some .ret
  | _ => none

/-- What is known at an exit. -/
def After (K : Ctx) (C : Cfg) (k : AExit → ASt → Tree) : Exit → Act → World → Prop := fun e a w => ∃ β s ae, exitOf e = some ae ∧ Sim K β s a w ∧ (k ae s).wp C.P C.gl

theorem run_sound {K : Ctx} {C : Cfg} (hP : C.P = K.P) (hgl : C.gl = K.gl) (hnt : C.nt = K.nt) (hm : K.P.follows .mixedOrders = true) (x : Code) :
    ∀ (k : AExit → ASt → Tree) (s : ASt) (β : Book) (a : Act) (w : World), (run C x k s).wp C.P C.gl → Sim K β s a w → x.wp K.P (After K C k) a w := by
  induction x with
  | skip => intro k s β a w h hs; exact wp_skip ⟨β, s, .normal, rfl, hs, h⟩
  | label l => intro k s β a w h hs; exact wp_label ⟨β, s, .normal, rfl, hs, h⟩
  | exit id => intro k s β a w h hs; exact wp_exit ⟨β, s, .leave id, rfl, hs, h⟩
  | ret => intro k s β a w h hs; exact wp_ret ⟨β, s, .ret, rfl, hs, h⟩
  | goto l => intro k s β a w h hs; exact h.elim
  | scope b => intro k s β a w h hs; exact h.elim
  | refuse w => intro k s β a w h hs; exact h.elim
  | rangeFunc f p x y => intro k s β a w h hs; exact h.elim
  | region id ops draw =>
    intro k s β a w h hs
    simp only [run] at h
    cases hc : (dstsOk ops && (!draw || drawOk ops)) with
    | false => simp only [hc, cond_false] at h; exact h.elim
    | true =>
      simp only [hc, cond_true] at h
      rw [Bool.and_eq_true] at hc
      refine region_ok hP hgl hnt hm hc.1 (fun hd => by have := hc.2; simpa [hd] using this) (rtree_lex _ _ _ h) hs (fun β' r a' w' hr hX => ?_)
      exact ⟨β', _, .normal, rfl, hr.toA, hX⟩
  | seq x y ihx ihy =>
    intro k s β a w h hs
    refine wp_seq (wp_mono (ihx _ s β a w h hs) ?_)
    rintro e a' w' ⟨β', s', ae, he, hs', hk⟩
    cases e <;> simp only [exitOf, reduceCtorEq, Option.some.injEq] at he
    · subst he; exact ihy k s' β' a' w' hk hs'
    · subst he; exact ⟨β', s', _, rfl, hs', hk⟩
    · subst he; exact ⟨β', s', _, rfl, hs', hk⟩
  | cond c x y ihx ihy =>
    intro k s β a w h hs
    simp only [run] at h
    split at h
    · rename_i b hb
      have hrel : Rel β w (ev K.gl s.fr c) (a.eval c) := by
        have := rel_ev (hs.toR #[]) (x := c) (fun t _ => rfl)
        exact this
      rw [← hgl, hb] at hrel
      have hv := rel_bool_inv hrel
      refine wp_cond_split hv (fun ht => ihx k s β a w (h.1 ht) hs) (fun hf => ihy k s β a w (h.2 hf) hs)
    · exact h.elim
  | block id x ih =>
    intro k s β a w h hs
    refine wp_block (wp_mono (ih _ s β a w h hs) ?_)
    rintro e a' w' ⟨β', s', ae, he, hs', hk⟩
    cases e <;> simp only [exitOf, reduceCtorEq, Option.some.injEq] at he
    · subst he; exact ⟨β', s', _, rfl, hs', hk⟩
    · rename_i j
      subst he
      simp only [Exit.inBlock]
      by_cases e : j = id
      · subst e
        rw [if_pos rfl]
        simp only [Nat.beq_refl, cond_true] at hk
        exact ⟨β', s', .normal, rfl, hs', hk⟩
      · rw [if_neg e]
        have hb : Nat.beq j id = false := by
          cases hb : Nat.beq j id with
          | false => rfl
          | true => exact absurd (Nat.eq_of_beq_eq_true hb) e
        simp only [hb, cond_false] at hk
        exact ⟨β', s', .leave j, rfl, hs', hk⟩
    · subst he; exact ⟨β', s', _, rfl, hs', hk⟩
  | loop x ih =>
    intro k s β a w h hs
    obtain ⟨ι, S, m, i0, hle, hround⟩ := h
    refine wp_loop_ghost (fun n a w => ∃ i β, m i = n ∧ Sim K β (S i) a w) (m i0) ?_ ?_
    · obtain ⟨β', hs'⟩ := hle K β a w hs
      exact ⟨i0, β', rfl, hs'⟩
    · rintro n a' w' ⟨i, β', rfl, hs'⟩
      refine wp_mono (ih _ (S i) β' a' w' (hround i) hs') ?_
      rintro e a'' w'' ⟨β2, s2, ae, he, hs2, hk⟩
      cases e <;> simp only [exitOf, reduceCtorEq, Option.some.injEq] at he
      · subst he
        obtain ⟨i', hle', hlt⟩ := hk
        obtain ⟨β3, hs3⟩ := hle' K β2 a'' w'' hs2
        exact ⟨m i', hlt, i', β3, rfl, hs3⟩
      · subst he; exact ⟨β2, s2, _, rfl, hs2, hk⟩
      · subst he; exact ⟨β2, s2, _, rfl, hs2, hk⟩

/-- What a function hands back. -/
def resOne (P : Program) (s : ASt) : ResultVar → Option AV
  | .tmp t => some (s.fr t)
  | .cell a t => match s.fr a with
    | .own id es i j m => match s.H id with
      | some o => bif Nat.beq o.es es then readT P t m (fun k => o.f i (j + k)) else none
      | none => none
    | _ => none

def resAll (P : Program) (s : ASt) : List ResultVar → Option (List AV)
  | [] => some []
  | x :: xs => match resOne P s x, resAll P s xs with
    | some v, some vs => some (v :: vs)
    | _, _ => none

def resA (P : Program) (fn : Func) (s : ASt) : Option AV :=
  match resAll P s fn.results.toList with
  | some [v] => some v
  | some vs => some (.tup vs)
  | none => none

def resSem (tmps : Array Value) : ResultVar → Sem Value
  | .tmp t => pure (tmps.getD t undef)
  | .cell a t => do loadVar t (← asAddr (tmps.getD a undef))

theorem results_eq (fn : Func) (tmps : Array Value) : results fn tmps = (do let vs ← fn.results.mapM (resSem tmps); pure (if h : vs.size = 1 then vs[0] else .tuple vs)) := by
  rfl

theorem resOne_ok {K : Ctx} {β : Book} {s : ASt} {a : Act} {w : World} (hs : Sim K β s a w) {x : ResultVar} {v : AV} (h : resOne K.P s x = some v) :
    ∃ u, (resSem a.tmps x).run K.P w = .ok u w ∧ Rel β w v u := by
  have hH : HeapOk β w s.H := fun id ob hid _ => let ⟨b, h1, h2⟩ := hs.heap id ob hid; ⟨b, _, h1, fun h => h, h2⟩
  cases x with
  | tmp t => simp only [resOne, Option.some.injEq] at h; subst h; exact ⟨_, rfl, hs.slot t⟩
  | cell b t =>
    simp only [resOne] at h
    split at h
    · rename_i id es i j m hb
      split at h
      · rename_i o ho
        obtain ⟨hc, h⟩ := bif_some h
        have hsl := hs.slot b
        rw [hb] at hsl
        obtain ⟨bl, vals, hu, hcell, hr⟩ := own_cells hH hsl ho (Nat.eq_of_beq_eq_true hc)
        obtain ⟨u, hl, hur⟩ := read_ok vals hcell hr h
        exact ⟨u, by simp [resSem, hu, asAddr, hl], hur⟩
      · cases h
    · cases h

theorem resAll_ok {K : Ctx} {β : Book} {s : ASt} {a : Act} {w : World} (hs : Sim K β s a w) (xs : List ResultVar) : ∀ {vs : List AV}, resAll K.P s xs = some vs →
    ∃ us : List Value, (xs.mapM (resSem a.tmps) : Sem (List Value)).run K.P w = .ok us w ∧ Rels β w vs us.toArray := by
  induction xs with
  | nil => intro vs h; simp [resAll] at h; subst h; exact ⟨[], rfl, rfl, by simp⟩
  | cons x xs ih =>
    intro vs h
    simp only [resAll] at h
    split at h
    · rename_i v vs' h1 h2
      cases h
      obtain ⟨u, hu, hr⟩ := resOne_ok hs h1
      obtain ⟨us, hus, hrs⟩ := ih h2
      refine ⟨u :: us, ?_, ?_⟩
      · simp only [List.mapM_cons, Sem.run_bind, hu, Result.andThen_ok, hus, Sem.run_pure]
      · refine ⟨by have := hrs.len; simp at this ⊢; exact this, fun j p q hp hq => ?_⟩
        cases j with
        | zero => simp at hp hq; subst hp; subst hq; exact hr
        | succ j => exact hrs.rel j p q (by simpa using hp) (by simpa using hq)
    · cases h

theorem res_ok {K : Ctx} {β : Book} {s : ASt} {a : Act} {w : World} {fn : Func} (hs : Sim K β s a w) {v : AV} (h : resA K.P fn s = some v) : ∃ u, (results fn a.tmps).run K.P w = .ok u w ∧ Rel β w v u := by
  unfold resA at h
  have hmap : ∀ us : List Value, (fn.results.toList.mapM (resSem a.tmps) : Sem (List Value)).run K.P w = .ok us w →
      (results fn a.tmps).run K.P w = .ok (if h : us.toArray.size = 1 then us.toArray[0] else .tuple us.toArray) w := by
    intro us hus
    rw [results_eq, Array.mapM_eq_mapM_toList]
    simp only [Sem.run_bind, Sem.run_map, hus, Result.andThen_ok, Sem.run_pure]
  split at h
  · rename_i x hx
    cases h
    obtain ⟨us, hus, hr⟩ := resAll_ok hs _ hx
    have hl := hr.len
    match us, hus, hr, hl with
    | [u], hus, hr, _ => exact ⟨u, by rw [hmap _ hus]; rfl, hr.rel 0 _ _ rfl rfl⟩
  · rename_i vs hx hvs
    cases h
    obtain ⟨us, hus, hr⟩ := resAll_ok hs _ hvs
    refine ⟨.tuple us.toArray, ?_, .tup hr.len hr.rel⟩
    rw [hmap _ hus, dif_neg]
    intro h1
    have hl := hr.len
    rw [h1] at hl
    match vs, hl, hx with
    | [x], _, hx => exact hx x rfl
  · cases h

/-- What the walk must come to at the end. -/
def Back (P : Program) (fn : Func) (r : AV) : AExit → ASt → Tree
  | .normal, s => .out ((resA P fn s).map (frz false 9 s.H)) r
  | .ret, s => .out ((resA P fn s).map (frz false 9 s.H)) r
  | .leave _, _ => .bad "leave"

def entry (args : List AV) : ASt := ⟨fun n => args.getD n .junk, fun _ => none, 0⟩

/-- THE WAY TO A CONTRACT. -/
theorem pure_of {P : Program} {gl : Globs} {f : FuncId} {fn : Func} {code : Code} {args : List AV} {r : AV} (hf : P.funcs[f]? = some fn) (hb : fn.body = some code) (hname : (fn.name == "runtime.NumGoroutine") = false)
    (hm : P.follows .mixedOrders = true) (hn : Nat.ble args.length fn.ntmps = true) (hwp : (run ⟨P, gl, fn.ntmps⟩ code (Back P fn r) (entry args)).wp P gl) : Pure P gl f args r := by
  rw [Nat.ble_eq] at hn
  refine ⟨⟨fn, code, hf, hb, hname⟩, fun F w vs hF hgl hargs => ?_⟩
  refine calls_of_wp hf hb ?_
  let K : Ctx := ⟨P, gl, w.heap.size, w, fn.ntmps, F⟩
  have hl := hargs.len
  have hs : Sim K (Book.none F) (entry args) { tmps := vs ++ Array.replicate (fn.ntmps - vs.size) undef, defers := [] } w := by
    refine ⟨fun n => ?_, (by show (vs ++ Array.replicate (fn.ntmps - vs.size) undef).size = fn.ntmps; simp; omega), rfl, fun id o ho => by simp [entry] at ho, fun i j b n n' mu mu' h => by simp [Book.none] at h, fun _ _ => rfl, fun id b n mu h => by simp [Book.none] at h, rfl, hF, Below.refl _ _, Nat.le_refl _, hgl⟩
    show Rel _ _ (args.getD n .junk) _
    rw [Array.getD_eq_getD_getElem?, List.getD_eq_getElem?_getD]
    by_cases hlt : n < args.length
    · rw [Array.getElem?_append_left (by omega)]
      have h1 : args[n]? = some args[n] := by simp [hlt]
      obtain ⟨x, hx, hr⟩ := hargs.at h1
      rw [h1, hx]
      exact hr
    · rw [List.getElem?_eq_none (by omega)]
      exact .junk
  refine wp_mono (run_sound (K := K) (C := ⟨P, gl, fn.ntmps⟩) rfl rfl rfl hm code _ _ _ _ _ hwp hs) ?_
  have fin : ∀ (β : Book) (s : ASt) (a : Act) (w' : World), Sim K β s a w' → (∃ x, (resA P fn s).map (frz false 9 s.H) = some x ∧ Ent x r) →
      a.defers = [] ∧ ∃ v, (results fn a.tmps).run P w' = .ok v w' ∧ ∃ v', Ending.returned v = Ending.returned v' ∧ Below w.heap.size w w' ∧ Rel (Book.none F) w' r v' := by
    rintro β s a w' hs' ⟨x, hx, hent⟩
    obtain ⟨v, hv, rfl⟩ := Option.map_eq_some_iff.1 hx
    obtain ⟨u, hu, hr⟩ := res_ok hs' hv
    refine ⟨hs'.defers, u, hu, u, rfl, hs'.below, hent _ _ _ ?_⟩
    have hH : HeapOk β w' s.H := fun id ob hid _ => let ⟨b, h1, h2⟩ := hs'.heap id ob hid; ⟨b, _, h1, fun h => h, h2⟩
    refine frz_rel (d := false) hH (fun b hb => ?_) (fun id b n mu hm' _ hFb => ?_) 9 v u hr
    · have := hb.1
      rwa [hs'.bF] at this
    · have h1 := (hs'.live id b n mu hm').1
      have h2 := hs'.hF b hFb
      omega
  rintro e a w' ⟨β, s, ae, he, hs', hk⟩
  cases e <;> simp only [exitOf, reduceCtorEq, Option.some.injEq] at he
  · subst he; exact fin β s a w' hs' hk
  · subst he; exact hk.elim
  · subst he; exact fin β s a w' hs' hk

end Go.Am
