/-
  The engine, part 6: calls of functions that only compute ('Pure'): what they are given, and what comes back.
-/
import Derived.Test.YtehcijjdibdljaaAmRegion2
namespace Go.Am
open Go.RowKit

/-- A value as somebody else sees it: the objects of one's own are memory that nobody writes. d: only what is frozen already. -/
def frz (d : Bool) : Nat → Heap → AV → AV
  | 0, _, _ => .junk
  | n + 1, H, .own id es i j m => match H id with
    | some o => bif (d && o.mu) || !Nat.beq o.es es || Nat.beq m 0 then .junk else .ipt m (fun k => frz d n H (o.f i (j + k)))
    | none => .junk
  | n + 1, H, .osl id es i len => match H id with
    | some o => bif (d && o.mu) || !Nat.beq o.es es || Nat.beq es 0 then .junk else .isl es len (fun r k => frz d n H (o.f (r + i) k))
    | none => .junk
  | n + 1, H, .agg cs => .agg (cs.map (frz d n H))
  | n + 1, H, .tup cs => .tup (cs.map (frz d n H))
  | n + 1, H, .fn f fs cs => .fn f (fs.map (frz d n H)) (cs.map (frz d n H))
  | n + 1, H, .ifc t v => .ifc t (frz d n H v)
  | _ + 1, _, v => v

theorem rels_map {β β' : Book} {w : World} {f : AV → AV} {cs : List AV} {vs : Array Value} (hl : cs.length = vs.size) (h : ∀ (j : Nat) u v, cs[j]? = some u → vs[j]? = some v → Rel β w u v)
    (hf : ∀ u v, Rel β w u v → Rel β' w (f u) v) : (cs.map f).length = vs.size ∧ ∀ (j : Nat) u v, (cs.map f)[j]? = some u → vs[j]? = some v → Rel β' w u v := by
  refine ⟨by simp [hl], fun j u v hu hv => ?_⟩
  rw [List.getElem?_map] at hu
  cases hc : cs[j]? with
  | none => simp [hc] at hu
  | some x => simp [hc] at hu; subst hu; exact hf x v (h j x v hc hv)

theorem frz_rel {d : Bool} {β : Book} {w : World} {H : Heap} {F' : Nat → Prop} (hH : HeapOk β w H) (hF : ∀ b, β.free b → ¬ F' b)
    (hO : ∀ id b n mu, β.m id = some (.lives b n mu) → (d = true → mu = false) → ¬ F' b) : ∀ (n : Nat) (a : AV) (v : Value), Rel β w a v → Rel (Book.none F') w (frz d n H a) v := by
  intro n
  induction n with
  | zero => intro a v _; exact .junk
  | succ n ih =>
    intro a v h
    have free : ∀ b, ¬ F' b → (Book.none F').free b := fun b hb => ⟨hb, fun id n h => by simp [Book.none] at h⟩
    cases h with
    | int => exact .int
    | bool => exact .bool
    | str => exact .str
    | nsl => exact .nsl
    | raw h => exact .raw h
    | junk => exact .junk
    | @own id es i j m b nn mu h hi hj =>
      simp only [frz]
      cases ho : H id with
      | none => exact .junk
      | some o =>
        obtain ⟨b', mu', hb', hmu', cs, el, hheap, hsz, hcells⟩ := hH id o ho (by simp [h])
        rw [h] at hb'
        cases hb'
        cases hc : ((d && o.mu) || !Nat.beq o.es es || Nat.beq m 0) with
        | true => simp only [hc, cond_true]; exact .junk
        | false =>
          simp only [hc, cond_false]
          simp only [Bool.or_eq_false_iff] at hc
          obtain ⟨⟨hc1, hc2⟩, hc3⟩ := hc
          have hes : o.es = es := by
            cases hq : Nat.beq o.es es with
            | true => exact Nat.eq_of_beq_eq_true hq
            | false => simp [hq] at hc2
          have hm : 0 < m := by
            rcases Nat.eq_zero_or_pos m with hz | hz
            · subst hz; cases hc3
            · exact hz
          subst hes
          have hcell : ∀ k, k < m → w.cell? ⟨b, i * o.es + j + k, none⟩ = some (cs.getD (i * o.es + (j + k)) undef) := fun k hk => by
            obtain ⟨x, hx, _⟩ := hcells i (j + k) hi (by omega)
            rw [← Nat.add_assoc] at hx
            simp [World.cell?, hheap, hx, Array.getD_eq_getD_getElem?, ← Nat.add_assoc]
          have hrel : ∀ k, k < m → Rel (Book.none F') w (frz d n H (o.f i (j + k))) (cs.getD (i * o.es + (j + k)) undef) := fun k hk => by
            obtain ⟨x, hx, hr⟩ := hcells i (j + k) hi (by omega)
            simp [Array.getD_eq_getD_getElem?, hx]
            exact ih _ _ hr
          refine .ipt (fun k => cs.getD (i * o.es + (j + k)) undef) hm (free b (hO id b _ _ h (fun hd => ?_))) hcell hrel (fun k hk => (hrel k hk).closed)
          cases hmm : mu with
          | false => rfl
          | true => have := hmu' hmm; simp [hd, this] at hc1
    | ownD h =>
      simp only [frz]
      cases ho : H _ with
      | none => exact .junk
      | some o => obtain ⟨b, _, hb, _⟩ := hH _ o ho (by simp [h]); rw [h] at hb; cases hb
    | @osl id es i len b nn cap sz mu el h hn hc hs hz =>
      simp only [frz]
      cases ho : H id with
      | none => exact .junk
      | some o =>
        obtain ⟨b', mu', hb', hmu', cs, el', hheap, hsz, hcells⟩ := hH id o ho (by simp [h])
        rw [h] at hb'
        cases hb'
        cases hcc : ((d && o.mu) || !Nat.beq o.es es || Nat.beq es 0) with
        | true => simp only [hcc, cond_true]; exact .junk
        | false =>
          simp only [hcc, cond_false]
          simp only [Bool.or_eq_false_iff] at hcc
          obtain ⟨⟨hc1, hc2⟩, hc3⟩ := hcc
          have hes : o.es = es := by
            cases hq : Nat.beq o.es es with
            | true => exact Nat.eq_of_beq_eq_true hq
            | false => simp [hq] at hc2
          have hm : 0 < es := by
            rcases Nat.eq_zero_or_pos es with hz | hz
            · subst hz; cases hc3
            · exact hz
          subst hes
          have hcell : ∀ r k, r < len → k < o.es → w.cell? ⟨b, i * o.es + r * o.es + k, none⟩ = some (cs.getD ((r + i) * o.es + k) undef) := fun r k hr hk => by
            obtain ⟨x, hx, _⟩ := hcells (r + i) k (by omega) hk
            have e : i * o.es + r * o.es + k = (r + i) * o.es + k := by rw [Nat.add_mul]; omega
            rw [e]
            simp [World.cell?, hheap, hx, Array.getD_eq_getD_getElem?]
          have hrel : ∀ r k, r < len → k < o.es → Rel (Book.none F') w (frz d n H (o.f (r + i) k)) (cs.getD ((r + i) * o.es + k) undef) := fun r k hr hk => by
            obtain ⟨x, hx, hr'⟩ := hcells (r + i) k (by omega) hk
            simp [Array.getD_eq_getD_getElem?, hx]
            exact ih _ _ hr'
          refine .isl (fun r k => cs.getD ((r + i) * o.es + k) undef) hm hc (free b (hO id b _ _ h (fun hd => ?_))) hcell hrel (fun r k hr hk => (hrel r k hr hk).closed)
          cases hmm : mu with
          | false => rfl
          | true => have := hmu' hmm; simp [hd, this] at hc1
    | @osl0 id es i a h =>
      simp only [frz]
      cases ho : H id with
      | none => exact .junk
      | some o =>
        cases hcc : ((d && o.mu) || !Nat.beq o.es es || Nat.beq es 0) with
        | true => simp only [hcc, cond_true]; exact .junk
        | false => simp only [hcc, cond_false]; exact .isl0
    | oslD h =>
      simp only [frz]
      cases ho : H _ with
      | none => exact .junk
      | some o => obtain ⟨b, _, hb, _⟩ := hH _ o ho (by simp [h]); rw [h] at hb; cases hb
    | isl vals he hcap hb hc hr hcl => exact .isl vals he hcap (free _ (hF _ hb)) hc (fun i j hi hj => (hr i j hi hj).rebook (fun b hb => free b (hF b hb)) (hcl i j hi hj)) hcl
    | isl0 => exact .isl0
    | ipt vals hm hb hc hr hcl => exact .ipt vals hm (free _ (hF _ hb)) hc (fun j hj => (hr j hj).rebook (fun b hb => free b (hF b hb)) (hcl j hj)) hcl
    | agg hl hr => obtain ⟨h1, h2⟩ := rels_map hl hr (ih); exact .agg h1 h2
    | tup hl hr => obtain ⟨h1, h2⟩ := rels_map hl hr (ih); exact .tup h1 h2
    | fn hl hr hl' hr' =>
      obtain ⟨h1, h2⟩ := rels_map hl hr (ih)
      obtain ⟨h3, h4⟩ := rels_map hl' hr' (ih)
      exact .fn h1 h2 h3 h4
    | ifc h => exact .ifc (ih _ _ h)

/-- Nothing in it leads to memory. -/
def sc : Nat → AV → Bool
  | _, .int .. | _, .bool _ | _, .str _ | _, .junk => true
  | n + 1, .agg cs | n + 1, .tup cs => cs.all (sc n)
  | _, .raw v => match v with | .nilIface | .nilFunc | .pointer none | .map none => true | _ => false
  | _, _ => false

theorem Rel.scalar {β β' : Book} {w : World} : ∀ (n : Nat) {a : AV} {v : Value}, sc n a = true → Rel β w a v → Rel β' w a v := by
  intro n
  induction n with
  | zero =>
    intro a v hs h
    cases h <;> first | exact .int | exact .bool | exact .str | exact .junk | (simp [sc] at hs; done) | skip
    all_goals (rename_i hh; exact .raw hh)
  | succ n ih =>
    intro a v hs h
    cases h <;> first | exact .int | exact .bool | exact .str | exact .junk | (simp [sc] at hs; done) | skip
    case raw hh => exact .raw hh
    case agg cs vs hl hr =>
      simp only [sc, List.all_eq_true] at hs
      exact .agg hl fun j u v hu hv => ih (hs u (List.mem_of_getElem? hu)) (hr j u v hu hv)
    case tup cs vs hl hr =>
      simp only [sc, List.all_eq_true] at hs
      exact .tup hl fun j u v hu hv => ih (hs u (List.mem_of_getElem? hu)) (hr j u v hu hv)

def Enters (P : Program) (f : FuncId) : Prop := ∃ fn c, P.funcs[f]? = some fn ∧ fn.body = some c ∧ (fn.name == "runtime.NumGoroutine") = false

def GlobOk (gl : Globs) (F : Nat → Prop) (w : World) : Prop := ∀ g m h, gl g = some (m, h) → Rel (Book.none F) w (.ipt m h) (.pointer (some ⟨g, 0, none⟩))

/-- THE CONTRACT: called with arguments that read so, the function returns what reads so; it turns nothing that was there. -/
def Pure (P : Program) (gl : Globs) (f : FuncId) (args : List AV) (r : AV) : Prop :=
  Enters P f ∧ ∀ (F : Nat → Prop) (w : World) (vs : Array Value), (∀ b, F b → b < w.heap.size) → GlobOk gl F w → Rels (Book.none F) w args vs →
    Calls P f vs w fun e w' => ∃ v, e = .returned v ∧ Below w.heap.size w w' ∧ Rel (Book.none F) w' r v

section
variable {K : Ctx} {ops : Array Oper} {c : Nat} {E : Nat → Prop} {β : Book} {s : RSt} {a : Act} {w : World} {i : Nat} {o : Oper}

theorem keeps_ext {w' : World} (hb : Below w.heap.size w w') : Keeps β w β w' :=
  ⟨fun _ o h => ⟨o, h, o.later_refl⟩, fun b hlt _ => hb.block b hlt, fun _ _ h => h, fun b el sz h => by rw [shape_of_block (hb.block b (lt_of_shape h))]; exact h⟩

theorem HSim.ext {n : Nat} {hg : Nat → Bool} {H : Heap} {w' : World} (h : HSim K c n E hg β H w) (hb : Below w.heap.size w w') : HSim K c n E hg β H w' :=
  ⟨fun id o ho hgi => let ⟨b, h1, h2⟩ := h.heap id o ho hgi; ⟨b, h1, h2.keep (keeps_ext hb) (hb.block b (h.live id b _ _ h1).2)⟩, h.hdead, h.inj, h.fresh, h.freshE,
   fun id b n mu hm => ⟨(h.live id b n mu hm).1, Nat.lt_of_lt_of_le (h.live id b n mu hm).2 hb.size⟩, h.bF, h.hF, h.below.trans (hb.mono h.hB), Nat.le_trans h.hB hb.size, fun g m hh hgl => (h.glob g m hh hgl).keep (keeps_ext hb)⟩

/-- A call that only computes has come back. -/
theorem RSim.called {u : Value} {v : AV} {w' : World} (hs : RSim K ops c E β s a w) (hp : Pre K ops s i o) (hE : E i) (hb : Below w.heap.size w w') (hg : s.G o.guard = true) (hv : Rel β w' v u) :
    RSim K ops c (less E i) β (s.put c i o v none) (a.put o.dst u) w' :=
  ⟨(hs.h.ext hb).less (fun id _ => put_hg hs hE v none id (.inr rfl)), hs.f.step hp.at_ hE hp.guard hp.dst hp.one (keeps_ext hb) (fun _ => hv) (fun h => by rw [hg] at h; cases h)⟩

end
end Go.Am
