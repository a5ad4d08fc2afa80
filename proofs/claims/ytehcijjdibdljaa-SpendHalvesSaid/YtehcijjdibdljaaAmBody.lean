/-
  The engine, part 14: the walk of a function's body, and the contract that follows from it.
-/
import Derived.Test.YtehcijjdibdljaaAmAny2
namespace Go.Am
open Go.RowKit

/-- The model's state between regions. -/
structure Sim (K : Ctx) (β : Book) (s : ASt) (a : Act) (w : World) : Prop where
  slot : ∀ n, Rel β w (s.fr n) (a.tmps.getD n undef)
  size : a.tmps.size = K.nt
  defers : a.defers = []
  heap : ∀ id o, s.H id = some o → ∃ b, β.m id = some (.lives b o.n o.mu) ∧ HRel β w o b
  inj : ∀ i j b n n' mu mu', β.m i = some (.lives b n mu) → β.m j = some (.lives b n' mu') → i = j
  fresh : ∀ id, s.c ≤ id → β.m id = none
  live : ∀ id b n mu, β.m id = some (.lives b n mu) → K.B ≤ b ∧ b < w.heap.size
  bF : β.F = K.F
  hF : ∀ b, K.F b → b < K.B
  below : Below K.B K.w0 w
  hB : K.B ≤ w.heap.size
  glob : ∀ g m h, K.gl g = some (m, h) → Rel β w (.ipt m h) (.pointer (some ⟨g, 0, none⟩))

def ASt.toR (s : ASt) : RSt := ⟨s.fr, fun _ => none, fun _ => none, s.H, fun _ => none⟩
def RSt.toA (r : RSt) (c : Nat) : ASt :=
  ⟨fun n => match r.tg n with | none => r.fr n | some _ => .junk, fun id => match r.ht id with | none => r.H id | some _ => none, c⟩

theorem Sim.toR {K : Ctx} {β : Book} {s : ASt} {a : Act} {w : World} (h : Sim K β s a w) (ops : Array Oper) : RSim K ops s.c (fun _ => True) β s.toR a w :=
  ⟨⟨fun id o ho _ => h.heap id o ho, fun id o ho hg => by simp [ASt.toR, RSt.G] at hg, h.inj, fun id hid => h.fresh id (by omega), fun i _ => h.fresh _ (by omega), h.live, h.bF, h.hF, h.below, h.hB, h.glob⟩,
   ⟨fun n => ⟨fun _ => h.slot n, fun hg => by simp [ASt.toR, RSt.G] at hg⟩, h.size, h.defers, fun j g b hj => by simp [ASt.toR] at hj, fun j o k b hj => absurd rfl hj, fun n j b hn => by simp [ASt.toR] at hn, fun n j b hn => by simp [ASt.toR] at hn, fun _ _ => rfl⟩⟩

theorem RSim.toA {K : Ctx} {ops : Array Oper} {c : Nat} {E : Nat → Prop} {β : Book} {r : RSt} {a : Act} {w : World} (h : RSim K ops c E β r a w) : Sim K β (r.toA (c + ops.size)) a w := by
  refine ⟨fun n => ?_, h.f.size, h.f.defers, fun id o ho => ?_, h.h.inj, h.h.fresh, h.h.live, h.h.bF, h.h.hF, h.h.below, h.h.hB, h.h.glob⟩
  · cases ht : r.tg n with
    | none => simp only [RSt.toA, ht]; exact (h.f.slot n).1 (by rw [ht]; rfl)
    | some x => simp only [RSt.toA, ht]; exact .junk
  · cases ht : r.ht id with
    | none => simp only [RSt.toA, ht] at ho; exact h.h.heap id o ho (by show r.G (r.ht id) = true; rw [ht]; rfl)
    | some x => simp only [RSt.toA, ht] at ho; cases ho

def dstsOk (ops : Array Oper) : Bool :=
  (List.range ops.size).all fun j => match ops[j]? with
    | some oj => match oj.dst with
      | some d => (List.range j).all fun i => match ops[i]? with
        | some oi => (match oi.dst with | some e => !Nat.beq d e | none => true)
        | none => true
      | none => true
    | none => true

theorem dstsOk_spec {ops : Array Oper} (h : dstsOk ops = true) : ∀ (i j : Nat) (oi oj : Oper) (d : Tmp), ops[i]? = some oi → ops[j]? = some oj → oi.dst = some d → oj.dst = some d → i = j := by
  have key : ∀ (i j : Nat) (oi oj : Oper) (d : Tmp), i < j → ops[i]? = some oi → ops[j]? = some oj → oi.dst = some d → oj.dst = some d → False := by
    intro i j oi oj d hij hi hj hdi hdj
    have hlt : j < ops.size := (Array.getElem?_eq_some_iff.1 hj).1
    have h1 := List.all_eq_true.1 h j (List.mem_range.2 hlt)
    simp only [hj, hdj] at h1
    have h2 := List.all_eq_true.1 h1 i (List.mem_range.2 hij)
    simp [hi, hdi] at h2
  intro i j oi oj d hi hj hdi hdj
  rcases Nat.lt_trichotomy i j with h' | h' | h'
  · exact (key i j oi oj d h' hi hj hdi hdj).elim
  · exact h'
  · exact (key j i oj oi d h' hj hi hdj hdi).elim

theorem opat_ok {K : Ctx} {C : Cfg} {ops : Array Oper} {c : Nat} {Q : Exit → Act → World → Prop} (hP : C.P = K.P) (hgl : C.gl = K.gl) (hnt : C.nt = K.nt) (hd : dstsOk ops = true) {X : RSt → Prop}
    (hQ : ∀ β r a w, RSim K ops c (fun j => ops.size ≤ j) β r a w → X r → Q .normal a w) (l : List Oper) : ∀ (i : Nat) (s : RSt) (β : Book) (a : Act) (w : World), (∀ j, l[j]? = ops[i + j]?) → i + l.length = ops.size →
    lex C ops c l i s X → RSim K ops c (fun j => i ≤ j) β s a w → wpOps K.P ops Q (List.range' i l.length) a w := by
  induction l with
  | nil =>
    intro i s β a w hl hn h hs
    simp at hn
    exact hQ β s a w (by rw [← hn]; exact hs) h
  | cons x l ih =>
    intro i s β a w hl hn h hs
    obtain ⟨hok, s', hop, hrest⟩ := h
    have hx : ops[i]? = some x := by simpa using (hl 0).symm
    simp only [List.length_cons, List.range'_succ]
    rw [wpOps_cons]
    refine op_sound hP hgl hnt hs hx (Nat.le_refl _) (fun k ok d hk hkd hdd => dstsOk_spec hd k i ok x d hk hx hkd hdd) hok hop (fun β' a' w' hs' => ?_)
    refine ih (i + 1) s' β' a' w' (fun j => by have := hl (j + 1); simpa [Nat.add_assoc, Nat.add_comm 1 j] using this) (by simp at hn; omega) hrest (hs'.fewer fun j hj => ?_)
    exact ⟨by omega, by omega⟩

theorem region_ok {K : Ctx} {C : Cfg} {ops : Array Oper} {id : Nat} {draw : Bool} {s : ASt} {β : Book} {a : Act} {w : World} {Q : Exit → Act → World → Prop} (hP : C.P = K.P) (hgl : C.gl = K.gl) (hnt : C.nt = K.nt)
    (hm : K.P.follows .mixedOrders = true) (hd : dstsOk ops = true) (hdr : draw = true → drawOk ops = true) {X : RSt → Prop} (h : lex C ops s.c ops.toList 0 s.toR X) (hs : Sim K β s a w)
    (hQ : ∀ β r a w, RSim K ops s.c (fun j => ops.size ≤ j) β r a w → X r → Q .normal a w) : (Code.region id ops draw).wp K.P Q a w := by
  cases draw with
  | false =>
    refine wp_region ?_
    have := opat_ok hP hgl hnt hd hQ ops.toList 0 s.toR β a w (by simp) (by simp) h ((hs.toR ops).fewer fun _ _ => trivial)
    simpa [List.range_eq_range'] using this
  | true =>
    refine wp_region_any hm ?_
    obtain ⟨sv, h0, h1, h2⟩ := lex_states ops.toList 0 s.toR (by simp) h
    have hH0 : ∀ i, (sv 0).H (s.c + i) = none := by
      intro i
      rw [h0]
      cases ho : s.H (s.c + i) with
      | none => exact ho
      | some o => obtain ⟨b, hb, _⟩ := hs.heap _ o ho; rw [hs.fresh _ (by omega)] at hb; cases hb
    have D : Drawn K C ops s.c sv Q := ⟨hP, hgl, hnt, hdr rfl, fun j o ho => h1 j o (Nat.zero_le _) ho, fun n => by rw [h0]; rfl, fun n => by rw [h0]; rfl, fun n => by rw [h0]; rfl, hH0, dstsOk_spec hd,
      fun β a w hr => hQ β _ a w hr (by simpa using h2)⟩
    have hex : ∀ j, ∃ x : AV × Option Ob × List Nat, j < firstE ops → ∀ o, ops[j]? = some o → OpV C s.c j o (sv j) x.1 x.2.1 x.2.2 ∧ sv (j + 1) = ({ sv j with H := frzH x.2.2 (sv j).H } : RSt).put s.c j o x.1 x.2.1 := by
      intro j
      by_cases hj : j < firstE ops ∧ j < ops.size
      · have ho : ops[j]? = some ops[j] := Array.getElem?_eq_getElem hj.2
        obtain ⟨_, hop⟩ := h1 j _ (Nat.zero_le _) ho
        generalize hsv : sv (j + 1) = s' at hop
        cases hop with
        | @v v ob ids hv => exact ⟨(v, ob, ids), fun _ o ho' => by rw [ho] at ho'; cases ho'; exact ⟨hv, rfl⟩⟩
        | e hg he hq => have := firstE_spec hj.1 ho; rw [estep_isE he] at this; cases this
      · exact ⟨(.junk, none, []), fun h1 o ho => absurd ⟨h1, (Array.getElem?_eq_some_iff.1 ho).1⟩ hj⟩
    obtain ⟨X', hX'⟩ := Classical.axiomOfChoice hex
    have M : Made C ops s.c (firstE ops) sv (fun j => (X' j).1) (fun j => (X' j).2.1) (fun j => (X' j).2.2) :=
      ⟨fun j o _ ho => (D.st j o ho).1, fun j o hj ho => (hX' j hj o ho).1, fun j o hj ho => (hX' j hj o ho).2, by unfold firstE; rw [← Array.length_toList]; exact List.findIdx_le_length, D.tg0, D.ht0, D.gt0, D.H0, D.one⟩
    have hs0 : Sim K β s a { w with drawn := w.drawn + 1 } := by
      have hk : Keeps β w β { w with drawn := w.drawn + 1 } := ⟨fun _ o h => ⟨o, h, o.later_refl⟩, fun _ _ _ => rfl, fun _ _ h => h, fun _ _ _ h => h⟩
      exact ⟨fun n => (hs.slot n).keep hk, hs.size, hs.defers, fun id o ho => let ⟨b, h1, h2⟩ := hs.heap id o ho; ⟨b, h1, h2.keep hk rfl⟩, hs.inj, hs.fresh, hs.live, hs.bF, hs.hF, hs.below.drew, hs.hB, fun g m h hgl => (hs.glob g m h hgl).keep hk⟩
    have hL0 : Li (Array.replicate ops.size false) = fun _ => False := by
      funext j
      simp only [Li, Array.getD_eq_getD_getElem?, eq_iff_iff, iff_false]
      by_cases hj : j < ops.size <;> simp [hj]
    have hr := ((hs0.toR ops).freeze (Fz (fun j => (X' j).2.2) (firstE ops)))
    rw [← h0] at hr
    have hI : Inv ops s.c (firstE ops) sv (fun j => (X' j).1) (fun j => (X' j).2.1) (fun j => (X' j).2.2) (fun j => Li (Array.replicate ops.size false) j ∧ j < firstE ops) { sv 0 with H := frzH (Fz (fun j => (X' j).2.2) (firstE ops)) (sv 0).H } := by
      have e : (fun j => Li (Array.replicate ops.size false) j ∧ j < firstE ops) = fun _ => False := by rw [hL0]; funext j; simp
      rw [e]
      exact Inv.start M
    refine phase1 D M ops.size _ (fun _ => False) 0 _ _ _ a _ (by simp) ?_ M.p_le (fun j hj => ?_) hI (Ov.start _) (hr.fewer fun _ _ => trivial) ?_
    · rw [hL0]; intro i j h; exact h.elim
    · rw [hL0]; exact ⟨fun h => h.elim, fun h => by omega⟩
    · have := List.countP_le_length (p := fun j => !(Array.replicate ops.size false).getD j false) (l := List.range ops.size)
      simpa using this

end Go.Am
