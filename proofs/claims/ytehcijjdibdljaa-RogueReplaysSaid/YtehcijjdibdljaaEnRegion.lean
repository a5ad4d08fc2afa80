/-
  The engine, part 13: regions: the walk through one as a tree, and what the model does, in the order of the text or in any order.
-/
import Derived.Test.YtehcijjdibdljaaEnOpD
namespace Go.Am
open Go.RowKit

/-! ### What must come before what -/

/-- What 'Region.before' holds at a place: the bits of what must come before. -/
def preOf (acc : Array Nat) (o : Oper) : Nat := o.after.foldl (fun s e => if Region.binds .any e then s ||| 2 ^ e.on ||| acc.getD e.on 0 else s) 0

theorem before_eq (ops : Array Oper) : Region.before ops = ops.foldl (init := #[]) fun acc o => acc.push (preOf acc o) := rfl

theorem foldl_push_spec (l : List Oper) : ∀ (acc : Array Nat), ∃ B : Array Nat, l.foldl (fun acc o => acc.push (preOf acc o)) acc = B ∧ B.size = acc.size + l.length ∧ (∀ k, k < acc.size → B[k]? = acc[k]?) ∧
    ∀ i o, l[i]? = some o → ∃ A : Array Nat, A.size = acc.size + i ∧ (∀ k, k < A.size → A[k]? = B[k]?) ∧ B[acc.size + i]? = some (preOf A o) := by
  induction l with
  | nil => intro acc; exact ⟨acc, rfl, by simp, fun _ _ => rfl, fun i o h => by simp at h⟩
  | cons x l ih =>
    intro acc
    obtain ⟨B, h1, h2, h3, h4⟩ := ih (acc.push (preOf acc x))
    refine ⟨B, h1, by simp at h2 ⊢; omega, fun k hk => ?_, fun i o ho => ?_⟩
    · rw [h3 k (by simp; omega), Array.getElem?_push, if_neg (by omega)]
    · cases i with
      | zero =>
        simp at ho
        subst ho
        refine ⟨acc, by simp, fun k hk => ?_, ?_⟩
        · rw [h3 k (by simp; omega), Array.getElem?_push, if_neg (by omega)]
        · rw [h3 (acc.size + 0) (by simp), Nat.add_zero]
          simp
      | succ i =>
        simp only [List.getElem?_cons_succ] at ho
        obtain ⟨A, g1, g2, g3⟩ := h4 i o ho
        refine ⟨A, by simp at g1; omega, g2, ?_⟩
        have e : (acc.push (preOf acc x)).size + i = acc.size + (i + 1) := by simp; omega
        rw [← e]; exact g3

theorem testBit_fold (acc : Array Nat) (b : Nat) (es : List Edge) : ∀ (s : Nat), (es.foldl (fun s e => if Region.binds .any e then s ||| 2 ^ e.on ||| acc.getD e.on 0 else s) s).testBit b = true →
    s.testBit b = true ∨ ∃ e, e ∈ es ∧ Region.binds .any e = true ∧ (b = e.on ∨ (acc.getD e.on 0).testBit b = true) := by
  induction es with
  | nil => intro s h; exact .inl h
  | cons x es ih =>
    intro s h
    simp only [List.foldl_cons] at h
    rcases ih _ h with h | ⟨e, he, hb, hx⟩
    · by_cases hbd : Region.binds .any x = true
      · rw [if_pos hbd] at h
        simp only [Nat.testBit_or, Bool.or_eq_true, Nat.testBit_two_pow] at h
        rcases h with (h | h) | h
        · exact .inl h
        · exact .inr ⟨x, List.mem_cons_self .., hbd, .inl (by simp at h; exact h.symm)⟩
        · exact .inr ⟨x, List.mem_cons_self .., hbd, .inr h⟩
      · rw [if_neg hbd] at h; exact .inl h
    · exact .inr ⟨e, List.mem_cons_of_mem _ he, hb, hx⟩

/-- j must come before i. -/
def pre (ops : Array Oper) (i j : Nat) : Bool := ((Region.before ops).getD i 0).testBit j

/-- A set of operations that holds, with each, all that must come before it. -/
def Closed (ops : Array Oper) (L : Nat → Prop) : Prop := ∀ i j, L i → pre ops i j = true → L j

theorem pre_of_ready {ops : Array Oper} {L : Nat → Prop} (hc : Closed ops L) {i : Nat} {o : Oper} (hi : ops[i]? = some o) (hr : ∀ e, e ∈ o.after → Region.binds .any e = true → L e.on) : ∀ j, pre ops i j = true → L j := by
  intro j hj
  obtain ⟨B, h1, h2, _, h4⟩ := foldl_push_spec ops.toList #[]
  obtain ⟨A, g1, g2, g3⟩ := h4 i o (by simpa using hi)
  have hB : Region.before ops = B := by rw [before_eq, ← Array.foldl_toList]; exact h1
  unfold pre at hj
  simp only [List.size_toArray, List.length_nil, Nat.zero_add] at g1 g3
  rw [hB, Array.getD_eq_getD_getElem?, g3] at hj
  simp only [Option.getD_some, preOf] at hj
  rw [← Array.foldl_toList] at hj
  rcases testBit_fold A j o.after.toList 0 hj with h | ⟨e, he, hb, hx⟩
  · simp at h
  · have hL := hr e (by simpa using he) hb
    rcases hx with rfl | hx
    · exact hL
    · refine hc e.on j hL ?_
      unfold pre
      rw [hB]
      rw [Array.getD_eq_getD_getElem?] at hx ⊢
      by_cases hlt : e.on < A.size
      · rw [← g2 e.on hlt]; exact hx
      · rw [Array.getElem?_eq_none (by omega)] at hx; simp at hx


section
variable {ops : Array Oper}

abbrev Li (listed : Array Bool) : Nat → Prop := fun j => listed.getD j false = true

theorem Li_set {listed : Array Bool} {i : Nat} (hi : i < listed.size) (j : Nat) : Li (listed.setIfInBounds i true) j ↔ Li listed j ∨ j = i := by
  unfold Li
  rw [Array.getD_eq_getD_getElem?, Array.getD_eq_getD_getElem?, Array.getElem?_setIfInBounds]
  by_cases e : i = j
  · subst e; simp [hi]
  · simp [e, Ne.symm e]

theorem not_Li {listed : Array Bool} {i : Nat} (h : listed.getD i true = false) : ¬ Li listed i ∧ i < listed.size := by
  have hlt : i < listed.size := by
    apply Classical.byContradiction
    intro hn
    rw [Array.getD_eq_getD_getElem?, Array.getElem?_eq_none (by omega)] at h
    cases h
  refine ⟨fun hl => ?_, hlt⟩
  unfold Li at hl
  rw [Array.getD_eq_getD_getElem?] at h hl
  simp only [hlt, Array.getElem?_eq_getElem, Option.getD_some] at h hl
  rw [h] at hl
  cases hl

theorem closed_set {listed : Array Bool} {i : Nat} {o : Oper} (hc : Closed ops (Li listed)) (hi : i < listed.size) (ho : ops[i]? = some o) (hr : ∀ e, e ∈ o.after → Region.binds .any e = true → Li listed e.on) :
    Closed ops (Li (listed.setIfInBounds i true)) := by
  intro x y hx hxy
  rw [Li_set hi] at hx ⊢
  rcases hx with hx | rfl
  · exact .inl (hc x y hx hxy)
  · exact .inl (pre_of_ready hc ho hr y hxy)

theorem ready_spec {listed : Array Bool} {i : Nat} (h : i ∈ Region.ready .any ops listed) : ¬ Li listed i ∧ i < listed.size ∧ ∃ o, ops[i]? = some o ∧ ∀ e, e ∈ o.after → Region.binds .any e = true → Li listed e.on := by
  obtain ⟨h1, o, h2, h3⟩ := mem_ready.1 h
  obtain ⟨h4, h5⟩ := not_Li h1
  exact ⟨h4, h5, o, h2, h3⟩

theorem least_not {L : Nat → Prop} {n : Nat} (h : ¬ ∀ j, j < n → L j) : ∃ i, i < n ∧ ¬ L i ∧ ∀ j, j < i → L j := by
  induction n with
  | zero => exact absurd (fun j hj => absurd hj (by omega)) h
  | succ n ih =>
    by_cases hn : ∀ j, j < n → L j
    · refine ⟨n, by omega, fun hl => h (fun j hj => ?_), hn⟩
      by_cases e : j = n
      · subst e; exact hl
      · exact hn j (by omega)
    · obtain ⟨i, h1, h2, h3⟩ := ih hn
      exact ⟨i, by omega, h2, h3⟩

end

/-- May the operations come in any order that the edges leave open? -/
def drawOk (ops : Array Oper) (l : List (Foot × Eff)) : Bool :=
  (List.range ops.size).all fun j => match ops[j]?, l[j]? with
    | some oj, some (fj, ej) => oj.after.toList.all (fun e => !Region.binds .any e || Nat.blt e.on j) &&
        (List.range j).all fun i => pre ops j i || (match ops[i]?, l[i]? with
          | some oi, some (fi, ei) => offOk ops oi fi oj ej && (offOk ops oj fj oi ei && commOk oi ei oj ej)
          | _, _ => false)
    | _, _ => false

theorem drawOk_spec {ops : Array Oper} {es : Nat → Eff} {fs : Nat → Foot} (h : drawOk ops ((List.range ops.size).map fun j => (fs j, es j)) = true) {j : Nat} {oj : Oper} (hj : ops[j]? = some oj) :
    (∀ e, e ∈ oj.after → Region.binds .any e = true → e.on < j) ∧
    ∀ i oi, i < j → ops[i]? = some oi → pre ops j i = true ∨ (offOk ops oi (fs i) oj (es j) = true ∧ offOk ops oj (fs j) oi (es i) = true ∧ commOk oi (es i) oj (es j) = true) := by
  have hlt : j < ops.size := (Array.getElem?_eq_some_iff.1 hj).1
  have hget : ∀ k, k < ops.size → ((List.range ops.size).map fun j => (fs j, es j))[k]? = some (fs k, es k) := fun k hk => by rw [List.getElem?_map, List.getElem?_range hk]; rfl
  have h1 := List.all_eq_true.1 h j (List.mem_range.2 hlt)
  simp only [hj, hget j hlt, Bool.and_eq_true] at h1
  refine ⟨fun e he hb => ?_, fun i oi hi hoi => ?_⟩
  · have := List.all_eq_true.1 h1.1 e (by simpa using he)
    simp only [hb, Bool.not_true, Bool.false_or, Nat.blt_eq] at this
    exact this
  · have := List.all_eq_true.1 h1.2 i (List.mem_range.2 hi)
    simp only [hoi, hget i (by omega), Bool.or_eq_true, Bool.and_eq_true] at this
    exact this

/-! ### A region in the order of the text -/

def lex (C : Cfg) (ops : Array Oper) (c : Nat) : List Oper → Nat → RSt → List (Foot × Eff) → (RSt → List (Foot × Eff) → Prop) → Prop
  | [], _, s, acc, X => X s acc
  | o :: rest, i, s, acc, X => okOp C.nt ops s o = true ∧ ∃ f e, OpD C c i o f s e ∧ lex C ops c rest (i + 1) (s.app i o e) ((f, e) :: acc) X

theorem stOf_congr {ops : Array Oper} {es es' : Nat → Eff} : ∀ (l : List Nat) (s : RSt), (∀ j, j ∈ l → es j = es' j) → stOf ops es s l = stOf ops es' s l := by
  intro l
  induction l with
  | nil => intro s _; rfl
  | cons j l ih =>
    intro s h
    rw [stOf_cons, stOf_cons, ih _ (fun k hk => h k (List.mem_cons_of_mem _ hk))]
    have : stp ops es s j = stp ops es' s j := by unfold stp; rw [h j (List.mem_cons_self ..)]
    rw [this]

theorem lex_states {C : Cfg} {ops : Array Oper} {c : Nat} {X : RSt → List (Foot × Eff) → Prop} : ∀ (l : List Oper) (i : Nat) (s : RSt) (acc : List (Foot × Eff)), (∀ j, l[j]? = ops[i + j]?) → lex C ops c l i s acc X →
    ∃ (es : Nat → Eff) (fs : Nat → Foot), (∀ j o, j < l.length → ops[i + j]? = some o → okOp C.nt ops (stOf ops es s (List.range' i j)) o = true ∧ OpD C c (i + j) o (fs (i + j)) (stOf ops es s (List.range' i j)) (es (i + j))) ∧
      X (stOf ops es s (List.range' i l.length)) (((List.range' i l.length).map fun j => (fs j, es j)).reverse ++ acc) := by
  intro l
  induction l with
  | nil => intro i s acc _ h; exact ⟨fun _ => ⟨.junk, true, [], [], []⟩, fun _ => ⟨[], [], []⟩, fun j o hj => absurd hj (by simp), h⟩
  | cons o rest ih =>
    intro i s acc hl h
    obtain ⟨hok, f, e, hop, hrest⟩ := h
    have h0 : ops[i]? = some o := by simpa using (hl 0).symm
    obtain ⟨es, fs, h1, h2⟩ := ih (i + 1) _ _ (fun j => by have := hl (j + 1); simpa [Nat.add_assoc, Nat.add_comm 1 j] using this) hrest
    let es' : Nat → Eff := fun j => if j = i then e else es j
    let fs' : Nat → Foot := fun j => if j = i then f else fs j
    have hst : ∀ n, stOf ops es' s (List.range' i (n + 1)) = stOf ops es (s.app i o e) (List.range' (i + 1) n) := by
      intro n
      rw [List.range'_succ, stOf_cons]
      have e1 : stp ops es' s i = s.app i o e := by unfold stp; rw [h0]; simp [es']
      rw [e1]
      refine stOf_congr _ _ (fun j hj => ?_)
      have : i + 1 ≤ j := (List.mem_range'_1.1 hj).1
      simp [es', show j ≠ i by omega]
    refine ⟨es', fs', fun j oj hj hoj => ?_, ?_⟩
    · cases j with
      | zero =>
        rw [Nat.add_zero, h0] at hoj
        cases hoj
        simp only [List.range'_zero, stOf, List.foldl_nil, Nat.add_zero, es', fs', if_pos rfl]
        exact ⟨hok, hop⟩
      | succ j =>
        rw [hst]
        have e2 : i + (j + 1) = i + 1 + j := by omega
        rw [e2] at hoj ⊢
        have := h1 j oj (by simpa using hj) hoj
        have hne : i + 1 + j ≠ i := by omega
        simp only [es', fs', if_neg hne]
        exact this
    · rw [List.length_cons, hst, List.range'_succ, List.map_cons, List.reverse_cons, List.append_assoc]
      have e3 : ((List.range' (i + 1) rest.length).map fun j => (fs' j, es' j)) = (List.range' (i + 1) rest.length).map fun j => (fs j, es j) := by
        refine List.map_congr_left (fun j hj => ?_)
        have : i + 1 ≤ j := (List.mem_range'_1.1 hj).1
        simp [es', fs', show j ≠ i by omega]
      rw [e3]
      simpa [es', fs'] using h2

section
variable {K : Ctx} {C : Cfg} {ops : Array Oper} {c : Nat} {E E' : Nat → Prop} {β : Book} {s : RSt} {a : Act} {w : World} {Q : Exit → Act → World → Prop}

theorem RSim.fewer (h : RSim K ops c E β s a w) (hE : ∀ j, E' j → E j) : RSim K ops c E' β s a w :=
  ⟨⟨h.h.heap, h.h.hdead, h.h.inj, h.h.fresh, fun i k hi => h.h.freshE i k (hE i hi), h.h.live, h.h.giv, h.h.bF, h.h.hF, h.h.kept, h.h.hB, h.h.glob⟩,
   ⟨h.f.slot, h.f.size, h.f.defers, h.f.gtag, h.f.gtok, h.f.tgok, h.f.htok, fun i hi => h.f.todo i (hE i hi)⟩⟩

theorem okOp_agree {nt : Nat} {f : Foot} {sv : RSt} {o : Oper} (h : Agree o f sv s) (hok : okOp nt ops sv o = true) : okOp nt ops s o = true := by
  unfold okOp at hok ⊢
  rw [opndOk_agree h]
  cases hg : o.guard with
  | none => rw [hg] at hok; exact hok
  | some jb => obtain ⟨j, b⟩ := jb; rw [hg] at hok; simp only [h.gt j b hg]; exact hok

/-- No slot is written twice. -/
def OneDst (ops : Array Oper) : Prop := ∀ (i j : Nat) (oi oj : Oper) (d : Tmp), ops[i]? = some oi → ops[j]? = some oj → oi.dst = some d → oj.dst = some d → i = j

/-- In the order of the text. -/
theorem lex_ok (hP : C.P = K.P) (hgl : C.gl = K.gl) (hnt : C.nt = K.nt) (hone : OneDst ops) {X : RSt → List (Foot × Eff) → Prop}
    (hQ : ∀ β s acc a w, RSim K ops c (fun j => ops.size ≤ j) β s a w → X s acc → Q .normal a w) : ∀ (l : List Oper) (i : Nat) (s : RSt) (acc : List (Foot × Eff)) (β : Book) (a : Act) (w : World), (∀ j, l[j]? = ops[i + j]?) → i + l.length = ops.size →
    lex C ops c l i s acc X → RSim K ops c (fun j => i ≤ j) β s a w → wpOps K.P ops Q (List.range' i l.length) a w := by
  intro l
  induction l with
  | nil =>
    intro i s acc β a w _ hn h hs
    have : ops.size = i := by simpa using hn.symm
    exact hQ β s acc a w (hs.fewer fun j hj => by omega) h
  | cons o rest ih =>
    intro i s acc β a w hl hn h hs
    obtain ⟨hok, f, e, hop, hrest⟩ := h
    have h0 : ops[i]? = some o := by simpa using (hl 0).symm
    rw [List.length_cons, List.range'_succ, wpOps_cons]
    obtain ⟨hp, hopn⟩ := okOp_pre (K := K) hnt.symm hok h0 (fun j oj d h1 h2 h3 => hone j i oj o d h1 h0 h2 h3)
    refine op_view hP hgl hs hp (Nat.le_refl _) hopn (Agree.refl o f s) hop (fun β' a' w' hs' => ?_)
    refine ih (i + 1) _ _ β' a' w' (fun j => by have := hl (j + 1); simpa [Nat.add_assoc, Nat.add_comm 1 j] using this) (by simp at hn; omega) hrest (hs'.fewer fun j hj => ?_)
    exact ⟨by omega, by omega⟩

/-! ### In any order -/

/-- What is needed of the walk. -/
structure Drawn (K : Ctx) (C : Cfg) (ops : Array Oper) (c : Nat) (es : Nat → Eff) (fs : Nat → Foot) (s0 : RSt) (Q : Exit → Act → World → Prop) : Prop where
  hP : C.P = K.P
  hgl : C.gl = K.gl
  hnt : C.nt = K.nt
  back : ∀ j oj, ops[j]? = some oj → ∀ e, e ∈ oj.after → Region.binds .any e = true → e.on < j
  pair : ∀ i j oi oj, i < j → ops[i]? = some oi → ops[j]? = some oj → pre ops j i = true ∨ (offOk ops oi (fs i) oj (es j) = true ∧ offOk ops oj (fs j) oi (es i) = true ∧ commOk oi (es i) oj (es j) = true)
  st : ∀ j o, ops[j]? = some o → okOp C.nt ops (stOf ops es s0 (List.range j)) o = true ∧ OpD C c j o (fs j) (stOf ops es s0 (List.range j)) (es j)
  one : OneDst ops
  fin : ∀ β a w, RSim K ops c (fun j => ops.size ≤ j) β (stOf ops es s0 (List.range ops.size)) a w → Q .normal a w

def lst (listed : Array Bool) : Nat → Bool := fun j => listed.getD j false

theorem filter_split {n i : Nat} (p p' : Nat → Bool) (hi : i < n) (hp : p i = false) (hp' : ∀ j, p' j = (p j || j == i)) :
    ∃ B, (List.range n).filter p = (List.range i).filter p ++ B ∧ (List.range n).filter p' = (List.range i).filter p ++ i :: B ∧ ∀ j, j ∈ B → i < j ∧ p j = true := by
  have hr : List.range n = List.range i ++ i :: List.range' (i + 1) (n - i - 1) := by
    rw [List.range_eq_range', List.range_eq_range']
    have e : n = i + (1 + (n - i - 1)) := by omega
    conv => lhs; rw [e]
    rw [← List.range'_append_1, Nat.zero_add]
    congr 1
    rw [Nat.add_comm 1, List.range'_succ]
  refine ⟨(List.range' (i + 1) (n - i - 1)).filter p, ?_, ?_, fun j hj => ?_⟩
  · rw [hr, List.filter_append, List.filter_cons, hp]
    simp
  · rw [hr, List.filter_append, List.filter_cons]
    have h1 : p' i = true := by rw [hp']; simp
    have h2 : (List.range i).filter p' = (List.range i).filter p := List.filter_congr (fun j hj => by
      have := List.mem_range.1 hj
      rw [hp']
      have : (j == i) = false := by simp; omega
      rw [this, Bool.or_false])
    have h3 : (List.range' (i + 1) (n - i - 1)).filter p' = (List.range' (i + 1) (n - i - 1)).filter p := List.filter_congr (fun j hj => by
      have := (List.mem_range'_1.1 hj).1
      rw [hp']
      have : (j == i) = false := by simp; omega
      rw [this, Bool.or_false])
    rw [h1, h2, h3]
    rfl
  · obtain ⟨h1, h2⟩ := List.mem_filter.1 hj
    exact ⟨(List.mem_range'_1.1 h1).1, h2⟩

theorem any_ok {es : Nat → Eff} {fs : Nat → Foot} {s0 : RSt} (D : Drawn K C ops c es fs s0 Q) : ∀ (fuel : Nat) (listed : Array Bool) (β : Book) (a : Act) (w : World), listed.size = ops.size → fuel + ((List.range ops.size).filter (lst listed)).length = ops.size →
    Closed ops (Li listed) → RSim K ops c (fun j => ¬ Li listed j) β (stOf ops es s0 ((List.range ops.size).filter (lst listed))) a w → wpAny K.P .any ops Q fuel listed a w := by
  have whole : ∀ (listed : Array Bool) (β : Book) (a : Act) (w : World), listed.size = ops.size → (∀ j, j < ops.size → Li listed j) → RSim K ops c (fun j => ¬ Li listed j) β (stOf ops es s0 ((List.range ops.size).filter (lst listed))) a w → Q .normal a w := by
    intro listed β a w hsz hall hs
    have e : (List.range ops.size).filter (lst listed) = List.range ops.size := List.filter_eq_self.2 (fun j hj => hall j (List.mem_range.1 hj))
    rw [e] at hs
    refine D.fin β a w (hs.fewer fun j hj hl => ?_)
    unfold Li at hl
    rw [Array.getD_eq_getD_getElem?, Array.getElem?_eq_none (by omega)] at hl
    cases hl
  have step : ∀ (fuel : Nat) (listed : Array Bool) (β : Book) (a : Act) (w : World), listed.size = ops.size → fuel + 1 + ((List.range ops.size).filter (lst listed)).length = ops.size → Closed ops (Li listed) →
      RSim K ops c (fun j => ¬ Li listed j) β (stOf ops es s0 ((List.range ops.size).filter (lst listed))) a w → ∀ i, i ∈ Region.ready .any ops listed → ∀ (Kc : Act → World → Prop),
      (∀ β' a' w', (listed.setIfInBounds i true).size = ops.size → fuel + ((List.range ops.size).filter (lst (listed.setIfInBounds i true))).length = ops.size → Closed ops (Li (listed.setIfInBounds i true)) →
        RSim K ops c (fun j => ¬ Li (listed.setIfInBounds i true) j) β' (stOf ops es s0 ((List.range ops.size).filter (lst (listed.setIfInBounds i true)))) a' w' → Kc a' w') → wpOp K.P ops Q i Kc a w := by
    intro fuel listed β a w hsz hlen hcl hs i hi Kc hKc
    obtain ⟨hnl, hilt, o, ho, hr⟩ := ready_spec hi
    have hin : i < ops.size := by omega
    have hpi : lst listed i = false := by
      cases h : lst listed i with
      | false => rfl
      | true => exact absurd h hnl
    have hpre := pre_of_ready hcl ho hr
    obtain ⟨B, e1, e2, hB⟩ := filter_split (lst listed) (lst (listed.setIfInBounds i true)) hin hpi (fun j => by
      have := Li_set hilt j
      rw [Bool.eq_iff_iff, Bool.or_eq_true]
      unfold lst
      rw [beq_iff_eq]
      exact this)
    obtain ⟨hok, hop⟩ := D.st i o ho
    have hag : Agree o (fs i) (stOf ops es s0 (List.range i)) (stOf ops es s0 ((List.range ops.size).filter (lst listed))) := by
      rw [e1, stOf_append]
      refine Agree.tail B _ _ (fun j oj hj hoj => ?_) (Agree.fold (lst listed) (List.range i) s0 s0 (fun j oj hj hpj hoj => ?_) (Agree.refl _ _ _))
      · obtain ⟨h1, h2⟩ := hB j hj
        rcases D.pair i j o oj h1 ho hoj with h | h
        · exact absurd (hcl j i h2 h) hnl
        · exact h.1
      · have h1 := List.mem_range.1 hj
        rcases D.pair j i oj o h1 hoj ho with h | h
        · have := hpre j h
          unfold Li at this
          unfold lst at hpj
          rw [this] at hpj
          cases hpj
        · exact h.2.1
    have hok' := okOp_agree hag hok
    obtain ⟨hp, hopn⟩ := okOp_pre (K := K) D.hnt.symm hok' ho (fun j oj d h1 h2 h3 => D.one j i oj o d h1 ho h2 h3)
    refine op_view D.hP D.hgl hs hp hnl hopn hag hop (fun β' a' w' hs' => ?_)
    have hstp : (stOf ops es s0 ((List.range ops.size).filter (lst listed))).app i o (es i) = stOf ops es s0 ((List.range ops.size).filter (lst (listed.setIfInBounds i true))) := by
      have h1 : (stOf ops es s0 ((List.range ops.size).filter (lst listed))).app i o (es i) = stp ops es (stOf ops es s0 ((List.range ops.size).filter (lst listed))) i := by unfold stp; rw [ho]
      rw [h1, e1, e2, stOf_append, stOf_append, stOf_cons]
      refine (stOf_last B _ (fun j hj => ?_)).symm
      obtain ⟨h2, h3⟩ := hB j hj
      refine ⟨by omega, fun oi oj hoi hoj => ?_⟩
      rcases D.pair i j oi oj h2 hoi hoj with h | h
      · exact absurd (hcl j i h3 h) hnl
      · exact h.2.2
    rw [hstp] at hs'
    refine hKc β' a' w' (by simpa using hsz) ?_ (closed_set hcl hilt ho hr) (hs'.fewer fun j hj => ?_)
    · rw [e2, List.length_append, List.length_cons]
      rw [e1, List.length_append] at hlen
      omega
    · refine ⟨fun hl => hj ((Li_set hilt j).2 (.inl hl)), fun e => hj ((Li_set hilt j).2 (.inr e))⟩
  intro fuel
  induction fuel with
  | zero =>
    intro listed β a w hsz hlen hcl hs
    have hall : ∀ j, j < ops.size → Li listed j := by
      have e : (List.range ops.size).filter (lst listed) = List.range ops.size := by
        have hs' : ((List.range ops.size).filter (lst listed)).Sublist (List.range ops.size) := List.filter_sublist
        exact hs'.eq_of_length (by simp at hlen ⊢; omega)
      intro j hj
      have := List.filter_eq_self.1 e j (List.mem_range.2 hj)
      exact this
    refine ⟨?_, whole listed β a w hsz hall hs⟩
    cases hr : Region.ready .any ops listed with
    | nil => rfl
    | cons i l =>
      obtain ⟨h1, h2, _⟩ := ready_spec (ops := ops) (listed := listed) (i := i) (by rw [hr]; exact List.mem_cons_self ..)
      exact absurd (hall i (by omega)) h1
  | succ fuel ih =>
    intro listed β a w hsz hlen hcl hs
    refine ⟨fun hr => ?_, fun i hi => step fuel listed β a w hsz hlen hcl hs i hi _ (fun β' a' w' h1 h2 h3 h4 => ih _ β' a' w' h1 h2 h3 h4)⟩
    -- nothing is ready: all is done
    refine whole listed β a w hsz (fun j hj => ?_) hs
    apply Classical.byContradiction
    intro hnot
    obtain ⟨i, h1, h2, h3⟩ := least_not (L := Li listed) (n := ops.size) (fun h => hnot (h j hj))
    have ho : ops[i]? = some ops[i] := by simp [h1]
    have : i ∈ Region.ready .any ops listed := by
      refine mem_ready.2 ⟨?_, ops[i], ho, fun e he hbd => h3 e.on (D.back i _ ho e he hbd)⟩
      unfold Li at h2
      rw [Array.getD_eq_getD_getElem?] at h2 ⊢
      have : i < listed.size := by omega
      simp only [this, Array.getElem?_eq_getElem, Option.getD_some] at h2 ⊢
      simpa using h2
    rw [hr] at this
    cases this

end
end Go.Am
