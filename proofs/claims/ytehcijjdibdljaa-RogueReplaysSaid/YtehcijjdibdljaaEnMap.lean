/-
  The engine, part 6: a value as somebody else sees it; contracts of functions ('Gives', 'Pure').
-/
import Derived.Test.YtehcijjdibdljaaEnSim
namespace Go.Am
open Go.RowKit

/-- A value as somebody else sees it: the objects that H holds are memory that nobody writes. -/
def frz : Nat → Heap → AV → AV
  | 0, _, _ => .junk
  | n + 1, H, .own id es i j m => match H id with
    | some o => bif !Nat.beq o.es es || Nat.beq m 0 then .junk else .ipt m (fun k => atL ((List.range m).map fun q => frz n H (o.f i (j + q))) k)
    | none => .junk
  | n + 1, H, .osl id es i len => match H id with
    | some o => bif !Nat.beq o.es es || Nat.beq es 0 then .junk else .isl es len (fun r k => (o.f.map (frz n H)) (r + i) k)
    | none => .junk
  | _ + 1, _, .oel .. => .junk
  | n + 1, H, .agg cs => .agg (cs.map (frz n H))
  | n + 1, H, .tup cs => .tup (cs.map (frz n H))
  | n + 1, H, .fn f fs cs => .fn f (fs.map (frz n H)) (cs.map (frz n H))
  | n + 1, H, .ifc t v => .ifc t (frz n H v)
  | n + 1, H, .nn v => frz n H v
  | _ + 1, _, v => v

/-- The ids that π names get new names; the other objects are as for 'frz'. -/
def mapA (π : Nat → Option Nat) : Nat → Heap → AV → AV
  | 0, _, _ => .junk
  | n + 1, H, .own id es i j m => match π id with
    | some k => .own k es i j m
    | none => frz (n + 1) H (.own id es i j m)
  | n + 1, H, .osl id es i len => match π id with
    | some k => .osl k es i len
    | none => frz (n + 1) H (.osl id es i len)
  | _ + 1, _, .oel id es i base len k => match π id with
    | some k' => .oel k' es i base len k
    | none => .junk
  | n + 1, H, .agg cs => .agg (cs.map (mapA π n H))
  | n + 1, H, .tup cs => .tup (cs.map (mapA π n H))
  | n + 1, H, .fn f fs cs => .fn f (fs.map (mapA π n H)) (cs.map (mapA π n H))
  | n + 1, H, .ifc t v => .ifc t (mapA π n H v)
  | n + 1, H, .nn v => mapA π n H v
  | _ + 1, _, v => v

def mapO (π : Nat → Option Nat) (H : Heap) (o : Ob) : Ob := ⟨o.es, o.n, o.mu, o.f.map (mapA π 9 H)⟩

theorem rels_map {β β' : Book} {w : World} {f : AV → AV} {cs : List AV} {vs : Array Value} (hl : cs.length = vs.size) (h : ∀ (j : Nat) u v, cs[j]? = some u → vs[j]? = some v → Rel β w u v)
    (hf : ∀ u v, Rel β w u v → Rel β' w (f u) v) : (cs.map f).length = vs.size ∧ ∀ (j : Nat) u v, (cs.map f)[j]? = some u → vs[j]? = some v → Rel β' w u v := by
  refine ⟨by simp [hl], fun j u v hu hv => ?_⟩
  rw [List.getElem?_map] at hu
  cases hc : cs[j]? with
  | none => simp [hc] at hu
  | some x => simp [hc] at hu; subst hu; exact hf x v (h j x v hc hv)

theorem frz_rel {β : Book} {w : World} {H : Heap} {F' : Nat → Prop} (hH : HeapOk β w H) (hF : ∀ b, β.free b → ¬ F' b)
    (hO : ∀ id ob b n mu, H id = some ob → β.m id = some (.lives b n mu) → ¬ F' b) : ∀ (n : Nat) (a : AV) (v : Value), Rel β w a v → Rel (Book.none F') w (frz n H a) v := by
  intro n
  induction n with
  | zero => intro a v _; exact .junk
  | succ n ih =>
    intro a v h
    have free : ∀ b, ¬ F' b → (Book.none F').free b := fun b hb => ⟨hb, fun id n h => by simp [Book.none] at h⟩
    cases h with
    | int => exact .int
    | bool => exact .bool
    | str => exact .str
    | nsl => exact .nsl
    | esl => exact .esl
    | raw h => exact .raw h
    | junk => exact .junk
    | @own id es i j m b nn mu h hi hj =>
      simp only [frz]
      cases ho : H id with
      | none => exact .junk
      | some o =>
        obtain ⟨rfl, hmu', cs, el, hheap, hsz, hcells⟩ := hH.lives ho h
        cases hc : (!Nat.beq o.es es || Nat.beq m 0) with
        | true => simp only [hc, cond_true]; exact .junk
        | false =>
          simp only [hc, cond_false]
          simp only [Bool.or_eq_false_iff] at hc
          obtain ⟨hc2, hc3⟩ := hc
          have hes : o.es = es := by
            cases hq : Nat.beq o.es es with
            | true => exact Nat.eq_of_beq_eq_true hq
            | false => simp [hq] at hc2
          have hm : 0 < m := by
            rcases Nat.eq_zero_or_pos m with hz | hz
            · subst hz; cases hc3
            · exact hz
          subst hes
          have hcell : ∀ k, k < m → w.cell? ⟨b, i * o.es + j + k, none⟩ = some (cs.getD (i * o.es + (j + k)) undef) := fun k hk => by
            obtain ⟨x, hx, _⟩ := hcells i (j + k) hi (by omega)
            rw [← Nat.add_assoc] at hx
            simp [World.cell?, hheap, hx, Array.getD_eq_getD_getElem?, ← Nat.add_assoc]
          have hrel : ∀ k, k < m → Rel (Book.none F') w (atL ((List.range m).map fun q => frz n H (o.f i (j + q))) k) (cs.getD (i * o.es + (j + k)) undef) := fun k hk => by
            refine atL_range (g := fun q => frz n H (o.f i (j + q))) ?_
            obtain ⟨x, hx, hr, _⟩ := hcells i (j + k) hi (by omega)
            simp [Array.getD_eq_getD_getElem?, hx]
            exact ih _ _ hr
          have hone : ∀ k, k < m → (cs.getD (i * o.es + (j + k)) undef).oneCell' = true := fun k hk => by
            obtain ⟨x, hx, _, hr⟩ := hcells i (j + k) hi (by omega)
            simp [Array.getD_eq_getD_getElem?, hx, hr]
          exact .ipt (fun k => cs.getD (i * o.es + (j + k)) undef) hm (free b (hO id o b _ _ ho h)) hcell hone hrel (fun k hk => (hrel k hk).closed)
    | ownD h =>
      simp only [frz]
      cases ho : H _ with
      | none => exact .junk
      | some o => exact (hH.dead ho h).elim
    | @osl id es i len b nn cap sz mu el h hn hc hs hz =>
      simp only [frz]
      cases ho : H id with
      | none => exact .junk
      | some o =>
        obtain ⟨rfl, hmu', cs, el', hheap, hsz, hcells⟩ := hH.lives ho h
        cases hcc : (!Nat.beq o.es es || Nat.beq es 0) with
        | true => simp only [hcc, cond_true]; exact .junk
        | false =>
          simp only [hcc, cond_false]
          simp only [Bool.or_eq_false_iff] at hcc
          obtain ⟨hc2, hc3⟩ := hcc
          have hes : o.es = es := by
            cases hq : Nat.beq o.es es with
            | true => exact Nat.eq_of_beq_eq_true hq
            | false => simp [hq] at hc2
          have hm : 0 < es := by
            rcases Nat.eq_zero_or_pos es with hz | hz
            · subst hz; cases hc3
            · exact hz
          subst hes
          have hcell : ∀ r k, r < len → k < o.es → w.cell? ⟨b, i * o.es + r * o.es + k, none⟩ = some (cs.getD ((r + i) * o.es + k) undef) := fun r k hr hk => by
            obtain ⟨x, hx, _⟩ := hcells (r + i) k (by omega) hk
            have e : i * o.es + r * o.es + k = (r + i) * o.es + k := by rw [Nat.add_mul]; omega
            rw [e]
            simp [World.cell?, hheap, hx, Array.getD_eq_getD_getElem?]
          have hrel : ∀ r k, r < len → k < o.es → Rel (Book.none F') w ((o.f.map (frz n H)) (r + i) k) (cs.getD ((r + i) * o.es + k) undef) := fun r k hr hk => by
            obtain ⟨x, hx, hr', _⟩ := hcells (r + i) k (by omega) hk
            simp [Array.getD_eq_getD_getElem?, hx]
            exact Rep.map_rel ih hr'
          have hone : ∀ r k, r < len → k < o.es → (cs.getD ((r + i) * o.es + k) undef).oneCell' = true := fun r k hr hk => by
            obtain ⟨x, hx, _, hr'⟩ := hcells (r + i) k (by omega) hk
            simp [Array.getD_eq_getD_getElem?, hx, hr']
          exact .isl (fun r k => cs.getD ((r + i) * o.es + k) undef) hm hc (free b (hO id o b _ _ ho h)) hcell hone hrel (fun r k hr hk => (hrel r k hr hk).closed)
    | @osl0 id es i a h =>
      simp only [frz]
      cases ho : H id with
      | none => exact .junk
      | some o =>
        cases hcc : (!Nat.beq o.es es || Nat.beq es 0) with
        | true => simp only [hcc, cond_true]; exact .junk
        | false => simp only [hcc, cond_false]; exact .isl0 (fun _ => rfl)
    | oslD h =>
      simp only [frz]
      cases ho : H _ with
      | none => exact .junk
      | some o => exact (hH.dead ho h).elim
    | oel => exact .junk
    | oelD => exact .junk
    | isl vals he hcap hb hc ho hr hcl => exact .isl vals he hcap (free _ (hF _ hb)) hc ho (fun i j hi hj => (hr i j hi hj).rebook (fun b hb => free b (hF b hb)) (hcl i j hi hj)) hcl
    | isl0 h => exact .isl0 h
    | ipt vals hm hb hc ho hr hcl => exact .ipt vals hm (free _ (hF _ hb)) hc ho (fun j hj => (hr j hj).rebook (fun b hb => free b (hF b hb)) (hcl j hj)) hcl
    | agg hl hr => obtain ⟨h1, h2⟩ := rels_map hl hr (ih); exact .agg h1 h2
    | tup hl hr => obtain ⟨h1, h2⟩ := rels_map hl hr (ih); exact .tup h1 h2
    | fn hl hr hl' hr' =>
      obtain ⟨h1, h2⟩ := rels_map hl hr (ih)
      obtain ⟨h3, h4⟩ := rels_map hl' hr' (ih)
      exact .fn h1 h2 h3 h4
    | ifc h => exact .ifc (ih _ _ h)
    | nn h => exact ih _ _ h

/-- The value under another book: the ids of π stand there for the same; what H holds is free there. -/
theorem mapA_rel {β β' : Book} {w : World} {π : Nat → Option Nat} {H : Heap} (hH : HeapOk β w H) (h1 : ∀ id k, π id = some k → β.m id ≠ none → β'.m k = β.m id) (h2 : ∀ b, β.free b → β'.free b)
    (h3 : ∀ id ob b n mu, H id = some ob → β.m id = some (.lives b n mu) → β'.free b) : ∀ (n : Nat) (a : AV) (v : Value), Rel β w a v → Rel β' w (mapA π n H a) v := by
  have toFrz : ∀ n a v, Rel β w a v → Rel β' w (frz n H a) v := by
    intro n a v h
    have hf := frz_rel (F' := fun b => ¬ β'.free b) hH (fun b hb hn => hn (h2 b hb)) (fun id ob b n mu ho hm hn => hn (h3 id ob b n mu ho hm)) n a v h
    exact hf.rebook (fun b hb => Classical.not_not.1 hb.1) hf.closed
  intro n
  induction n with
  | zero => intro a v _; exact .junk
  | succ n ih =>
    intro a v h
    have h0 := h
    cases h with
    | int => exact .int
    | bool => exact .bool
    | str => exact .str
    | nsl => exact .nsl
    | esl => exact .esl
    | raw h => exact .raw h
    | junk => exact .junk
    | @own id es i j m b nn mu h hi hj =>
      simp only [mapA]
      cases hp : π id with
      | none => exact toFrz (n + 1) _ _ h0
      | some k => exact .own (by rw [h1 id k hp (by first | exact h | (rw [h]; simp))]; exact h) hi hj
    | @ownD id es i j m p h =>
      simp only [mapA]
      cases hp : π id with
      | none => exact toFrz (n + 1) _ _ h0
      | some k => exact .ownD (by rw [h1 id k hp (by first | exact h | (rw [h]; simp))]; exact h)
    | @osl id es i len b nn cap sz mu el h hn hc hs hz =>
      simp only [mapA]
      cases hp : π id with
      | none => exact toFrz (n + 1) _ _ h0
      | some k => exact .osl (by rw [h1 id k hp (by first | exact h | (rw [h]; simp))]; exact h) hn hc hs hz
    | @osl0 id es i a h =>
      simp only [mapA]
      cases hp : π id with
      | none => exact toFrz (n + 1) _ _ h0
      | some k => exact .osl0 (by rw [h1 id k hp (by first | exact h | (rw [h]; simp))]; exact h)
    | @oslD id es i len nn cap a h =>
      simp only [mapA]
      cases hp : π id with
      | none => exact toFrz (n + 1) _ _ h0
      | some k => exact .oslD (by rw [h1 id k hp (by first | exact h | (rw [h]; simp))]; exact h)
    | @oel id es i base len k b nn mu h hi hk hl =>
      simp only [mapA]
      cases hp : π id with
      | none => exact .junk
      | some k => exact .oel (by rw [h1 id k hp (by first | exact h | (rw [h]; simp))]; exact h) hi hk hl
    | @oelD id es i base len k p h =>
      simp only [mapA]
      cases hp : π id with
      | none => exact .junk
      | some k => exact .oelD (by rw [h1 id k hp (by first | exact h | (rw [h]; simp))]; exact h)
    | isl vals he hcap hb hc ho hr hcl => exact h0.rebook h2 (.isl hcl)
    | isl0 h => exact .isl0 h
    | ipt vals hm hb hc ho hr hcl => exact h0.rebook h2 (.ipt hcl)
    | agg hl hr => obtain ⟨h1, h2⟩ := rels_map hl hr (ih); exact .agg h1 h2
    | tup hl hr => obtain ⟨h1, h2⟩ := rels_map hl hr (ih); exact .tup h1 h2
    | fn hl hr hl' hr' =>
      obtain ⟨h1, h2⟩ := rels_map hl hr (ih)
      obtain ⟨h3, h4⟩ := rels_map hl' hr' (ih)
      exact .fn h1 h2 h3 h4
    | ifc h => exact .ifc (ih _ _ h)
    | nn h => exact ih _ _ h

theorem mapO_holds {β β' : Book} {w : World} {π : Nat → Option Nat} {H : Heap} (hH : HeapOk β w H) (h1 : ∀ id k, π id = some k → β.m id ≠ none → β'.m k = β.m id) (h2 : ∀ b, β.free b → β'.free b)
    (h3 : ∀ id ob b n mu, H id = some ob → β.m id = some (.lives b n mu) → β'.free b) {o : Ob} {id k : Nat} (hk : β'.m k = β.m id) (h : Holds β w o id) : Holds β' w (mapO π H o) k := by
  rcases h with ⟨b, hb, cs, el, g1, g2, g3⟩ | ⟨hb, h0⟩
  · refine .inl ⟨b, by rw [hk]; exact hb, cs, el, g1, g2, fun i j hi hj => ?_⟩
    obtain ⟨v, hv, hr, ho⟩ := g3 i j hi hj
    exact ⟨v, hv, Rep.map_rel (mapA_rel hH h1 h2 h3 9) hr, ho⟩
  · exact .inr ⟨by rw [hk]; exact hb, h0⟩

/-- Nothing in it leads to memory. -/
def sc : Nat → AV → Bool
  | _, .int .. | _, .bool _ | _, .str _ | _, .junk => true
  | n + 1, .agg cs | n + 1, .tup cs => cs.all (sc n)
  | _, .raw v => match v with | .nilIface | .nilFunc | .pointer none | .map none => true | _ => false
  | _, _ => false

theorem Rel.scalar {β β' : Book} {w : World} : ∀ (n : Nat) {a : AV} {v : Value}, sc n a = true → Rel β w a v → Rel β' w a v := by
  intro n
  induction n with
  | zero =>
    intro a v hs h
    cases h <;> first | exact .int | exact .bool | exact .str | exact .junk | (simp [sc] at hs; done) | skip
    all_goals (rename_i hh; exact .raw hh)
  | succ n ih =>
    intro a v hs h
    cases h <;> first | exact .int | exact .bool | exact .str | exact .junk | (simp [sc] at hs; done) | skip
    case raw hh => exact .raw hh
    case agg cs vs hl hr =>
      simp only [sc, List.all_eq_true] at hs
      exact .agg hl fun j u v hu hv => ih (hs u (List.mem_of_getElem? hu)) (hr j u v hu hv)
    case tup cs vs hl hr =>
      simp only [sc, List.all_eq_true] at hs
      exact .tup hl fun j u v hu hv => ih (hs u (List.mem_of_getElem? hu)) (hr j u v hu hv)

def Enters (P : Program) (f : FuncId) : Prop := ∃ fn c, P.funcs[f]? = some fn ∧ fn.body = some c ∧ (fn.name == "runtime.NumGoroutine") = false

/-- The blocks that the ids of a book stand for. -/
def BlkOf (β : Book) (b : Nat) : Prop := ∃ k n mu, β.m k = some (.lives b n mu)

/-- The objects that a call is given to write: ids 0, 1, .. -/
structure Given (β : Book) (w : World) (obs : List Ob) : Prop where
  holds : ∀ k ob, obs[k]? = some ob → Holds β w ob k
  none : ∀ k, obs.length ≤ k → β.m k = none
  inj : InjB β
  lt : ∀ k b n mu, β.m k = some (.lives b n mu) → b < w.heap.size ∧ ¬ β.F b

/-- What they are behind it (none: not to be used any more), and those that the call has made. -/
structure After (β β' : Book) (w w' : World) (obs' : List (Option Ob)) : Prop where
  F : β'.F = β.F
  holds : ∀ k ob, obs'[k]? = some (some ob) → Holds β' w' ob k
  none : ∀ k, obs'.length ≤ k → β'.m k = none
  inj : InjB β'
  live : ∀ k b n mu, β'.m k = some (.lives b n mu) → b < w'.heap.size ∧ (w.heap.size ≤ b ∨ BlkOf β b)
  later : ∀ k o, β.m k = some o → ∃ o', β'.m k = some o' ∧ o.later o'

/-- THE CONTRACT: called with arguments that read so, the function returns what reads so; of what was there it turns the given objects alone. -/
def Gives (P : Program) (gl : Globs) (f : FuncId) (obs : List Ob) (args : List AV) (r : AV) (obs' : List (Option Ob)) : Prop :=
  Enters P f ∧ ∀ (β : Book) (w : World) (vs : Array Value), (∀ b, β.F b → b < w.heap.size) → Given β w obs → GlobB gl β w → Rels β w args vs →
    Calls P f vs w fun e w' => ∃ v β', e = .returned v ∧ Kept w.heap.size (BlkOf β) w w' ∧ After β β' w w' obs' ∧ Rel β' w' r v

/-- A function that only computes. -/
def Pure (P : Program) (gl : Globs) (f : FuncId) (args : List AV) (r : AV) : Prop := Gives P gl f [] args r []

theorem Pure.use {P : Program} {gl : Globs} {f : FuncId} {args : List AV} {r : AV} (h : Pure P gl f args r) {F : Nat → Prop} {w : World} {vs : Array Value} (hF : ∀ b, F b → b < w.heap.size)
    (hg : GlobB gl (Book.none F) w) (ha : Rels (Book.none F) w args vs) : Calls P f vs w fun e w' => ∃ v, e = .returned v ∧ Below w.heap.size w w' ∧ Rel (Book.none F) w' r v := by
  have h0 : Given (Book.none F) w [] := ⟨fun k ob hk => by simp at hk, fun _ _ => rfl, fun i j b n n' mu mu' h => by simp [Book.none] at h, fun k b n mu h => by simp [Book.none] at h⟩
  refine (h.2 (Book.none F) w vs hF h0 hg ha).mono fun e w' hh => ?_
  obtain ⟨v, β', he, hk, hA, hr⟩ := hh
  refine ⟨v, he, hk.below (fun k ⟨i, n, mu, hb⟩ => by simp [Book.none] at hb), ?_⟩
  have : β' = Book.none F := by
    obtain ⟨m, F'⟩ := β'
    have h1 : m = fun _ => Option.none := funext fun k => hA.none k (Nat.zero_le _)
    have h2 : F' = F := hA.F
    subst h1; subst h2; rfl
  rw [← this]; exact hr

end Go.Am
