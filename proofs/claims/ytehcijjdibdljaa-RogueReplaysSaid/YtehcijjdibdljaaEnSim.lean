/-
  The engine, part 5: what the state inside a region means, and one operation of it.
-/
import Derived.Test.YtehcijjdibdljaaEnEff
namespace Go.Am
open Go.RowKit

/-- From w to w': below block B nothing has turned but what G names, and nothing has another shape. -/
structure Kept (B : Nat) (G : Nat → Prop) (w w' : World) : Prop where
  os : w'.os = w.os
  tape : w'.tape = w.tape
  output : w'.output = w.output
  size : w.heap.size ≤ w'.heap.size
  block : ∀ k, k < B → ¬ G k → w'.heap[k]? = w.heap[k]?
  shape : ∀ k, k < B → w'.shape? k = w.shape? k

theorem Kept.refl (B : Nat) (G : Nat → Prop) (w : World) : Kept B G w w := ⟨rfl, rfl, rfl, Nat.le_refl _, fun _ _ _ => rfl, fun _ _ => rfl⟩
theorem Kept.trans {B : Nat} {G : Nat → Prop} {a b c : World} (h : Kept B G a b) (k : Kept B G b c) : Kept B G a c :=
  ⟨k.os.trans h.os, k.tape.trans h.tape, k.output.trans h.output, Nat.le_trans h.size k.size, fun i hi hg => (k.block i hi hg).trans (h.block i hi hg), fun i hi => (k.shape i hi).trans (h.shape i hi)⟩
theorem Kept.mono {B B' : Nat} {G G' : Nat → Prop} {w w' : World} (h : Kept B' G' w w') (hB : B ≤ B') (hG : ∀ k, k < B → G' k → G k) : Kept B G w w' :=
  ⟨h.os, h.tape, h.output, h.size, fun k hk hg => h.block k (by omega) (fun g => hg (hG k hk g)), fun k hk => h.shape k (by omega)⟩

theorem shape_of_block {w w' : World} {b : Nat} (h : w'.heap[b]? = w.heap[b]?) : w'.shape? b = w.shape? b := by unfold World.shape?; rw [h]

theorem Kept.ofBelow {B : Nat} {w w' : World} (G : Nat → Prop) (h : Below B w w') : Kept B G w w' :=
  ⟨h.os, h.tape, h.output, h.size, fun k hk _ => h.block k hk, fun k hk => shape_of_block (h.block k hk)⟩
theorem Kept.below {B : Nat} {w w' : World} {G : Nat → Prop} (hG : ∀ k, ¬ G k) (h : Kept B G w w') : Below B w w' :=
  ⟨h.os, h.tape, h.output, h.size, fun k hk => h.block k hk (hG k)⟩

theorem lt_of_shape {w : World} {b : Nat} {p : TypeId × Nat} (h : w.shape? b = some p) : b < w.heap.size := by
  unfold World.shape? at h
  cases hb : w.heap[b]? with
  | none => simp [hb] at h
  | some o => exact (Array.getElem?_eq_some_iff.1 hb).1

def tagEq : Tag → Tag → Bool
  | none, none => true
  | some (a, b), some (c, d) => Nat.beq a c && (b == d)
  | _, _ => false

theorem tagEq_eq {a b : Tag} (h : tagEq a b = true) : a = b := by
  unfold tagEq at h
  split at h
  · rfl
  · rw [Bool.and_eq_true] at h
    have h1 := Nat.eq_of_beq_eq_true h.1
    have h2 := eq_of_beq h.2
    subst h1; subst h2; rfl
  · cases h

/-- Where the first guard holds, the second does. -/
def chainImp (ops : Array Oper) : Nat → Tag → Tag → Bool
  | _, _, none => true
  | 0, γ, some τ => tagEq γ (some τ)
  | n + 1, γ, some τ => tagEq γ (some τ) || (match γ with
    | some (j, _) => match ops[j]? with | some o => chainImp ops n o.guard (some τ) | none => false
    | none => false)

/-- P: the program; gl: what is known of its variables; B: the heap's size when the call began; w0: the world then; nt: how many slots; F: blocks that somebody else may write; G: blocks that were handed in to be written; b0: what the ids of these stood for. -/
structure Ctx where
  P : Program
  gl : Globs
  B : Nat
  w0 : World
  nt : Nat
  F : Nat → Prop
  G : Nat → Prop
  b0 : Nat → Option Own

/-- The id stands for the object. -/
def Holds (β : Book) (w : World) (o : Ob) (id : Nat) : Prop := (∃ b, β.m id = some (.lives b o.n o.mu) ∧ HRel β w o b) ∨ (β.m id = some .empty ∧ o.n = 0)

def InjB (β : Book) : Prop := ∀ i j b n n' mu mu', β.m i = some (.lives b n mu) → β.m j = some (.lives b n' mu') → i = j

def GlobB (gl : Globs) (β : Book) (w : World) : Prop := ∀ g m h, gl g = some (m, h) → Rel β w (.ipt m h) (.pointer (some ⟨g, 0, none⟩))

/-- The objects. hg: has the object been made at all? n: how many operations the region has; E: those still to come. -/
structure HSim (K : Ctx) (c n : Nat) (E : Nat → Prop) (hg : Nat → Bool) (β : Book) (H : Heap) (w : World) : Prop where
  heap : ∀ id o, H id = some o → hg id = true → Holds β w o id
  hdead : ∀ id o, H id = some o → hg id = false → β.m id = none
  inj : InjB β
  fresh : ∀ id, c + 8 * n ≤ id → β.m id = none
  freshE : ∀ i k, E i → k < 8 → β.m (c + 8 * i + k) = none
  live : ∀ id b n mu, β.m id = some (.lives b n mu) → (K.B ≤ b ∨ K.G b) ∧ b < w.heap.size
  giv : ∀ id o, K.b0 id = some o → ∃ o', β.m id = some o' ∧ o.later o'
  bF : β.F = K.F
  hF : ∀ b, K.F b → b < K.B ∧ ¬ K.G b
  kept : Kept K.B K.G K.w0 w
  hB : K.B ≤ w.heap.size
  glob : GlobB K.gl β w

/-- The slots. -/
structure FSim (K : Ctx) (ops : Array Oper) (E : Nat → Prop) (β : Book) (s : RSt) (a : Act) (w : World) : Prop where
  slot : ∀ n, (s.G (s.tg n) = true → Rel β w (s.fr n) (a.tmps.getD n undef)) ∧ (s.G (s.tg n) = false → a.tmps.getD n undef = undef)
  size : a.tmps.size = K.nt
  defers : a.defers = []
  gtag : ∀ j g b, s.gt j = some (g, b) → ∃ o d, ops[j]? = some o ∧ o.dst = some d ∧ g = s.G o.guard ∧ (g = true → a.tmps.getD d undef = .bool b) ∧ (g = false → a.tmps.getD d undef = undef)
  gtok : ∀ j o k b, s.gt j ≠ none → ops[j]? = some o → o.guard = some (k, b) → s.gt k ≠ none
  tgok : ∀ n j b, s.tg n = some (j, b) → s.gt j ≠ none
  htok : ∀ n j b, s.ht n = some (j, b) → s.gt j ≠ none
  todo : ∀ i, E i → s.gt i = none

structure RSim (K : Ctx) (ops : Array Oper) (c : Nat) (E : Nat → Prop) (β : Book) (s : RSt) (a : Act) (w : World) : Prop where
  h : HSim K c ops.size E (fun id => s.G (s.ht id)) β s.H w
  f : FSim K ops E β s a w

/-- Not i any more. -/
def less (E : Nat → Prop) (i : Nat) : Nat → Prop := fun j => E j ∧ j ≠ i

/-- What a step of the region's walk must be given beforehand. -/
structure Pre (K : Ctx) (ops : Array Oper) (s : RSt) (i : Nat) (o : Oper) : Prop where
  at_ : ops[i]? = some o
  guard : ∀ j b, o.guard = some (j, b) → s.gt j ≠ none
  dst : ∀ d, o.dst = some d → d < K.nt
  one : ∀ j oj d, ops[j]? = some oj → oj.dst = some d → o.dst = some d → j = i

section
variable {K : Ctx} {ops : Array Oper} {c : Nat} {E : Nat → Prop} {β : Book} {s : RSt} {a : Act} {w : World}

theorem RSim.ok (hs : RSim K ops c E β s a w) (f : Foot) : HeapOk β w (vH f s.H) := by
  intro id ob hid hne
  have hg : ∀ o, s.H id = some o → Holds β w o id := by
    intro o ho
    cases hgd : s.G (s.ht id) with
    | true => exact hs.h.heap id o ho hgd
    | false => exact absurd (hs.h.hdead id o ho hgd) hne
  unfold vH at hid
  cases hr : memN f.rd id with
  | true =>
    simp only [hr, cond_true, Option.map_eq_some_iff] at hid
    obtain ⟨o, ho, rfl⟩ := hid
    rcases hg o ho with ⟨b, h1, h2⟩ | ⟨h1, h2⟩
    · exact .inl ⟨b, _, h1, fun _ => rfl, h2⟩
    · exact .inr ⟨h1, h2⟩
  | false =>
    simp only [hr, cond_false] at hid
    cases ha : memN f.al id with
    | false => simp [ha] at hid
    | true =>
      simp only [ha, cond_true, Option.map_eq_some_iff] at hid
      obtain ⟨o, ho, rfl⟩ := hid
      rcases hg o ho with ⟨b, h1, cs, el, g1, g2, g3⟩ | ⟨h1, h2⟩
      · exact .inl ⟨b, _, h1, fun _ => rfl, cs, el, g1, g2, fun i j hi hj => let ⟨v, hv, _, ho⟩ := g3 i j hi hj; ⟨v, hv, .junk, ho⟩⟩
      · exact .inr ⟨h1, h2⟩

theorem chainImp_G (hs : FSim K ops E β s a w) : ∀ (n : Nat) (γ τ : Tag), (∀ j b, γ = some (j, b) → s.gt j ≠ none) → chainImp ops n γ τ = true → s.G γ = true → s.G τ = true := by
  intro n
  induction n with
  | zero =>
    intro γ τ _ h hg
    cases τ with
    | none => rfl
    | some t => rw [← tagEq_eq h]; exact hg
  | succ n ih =>
    intro γ τ hγ h hg
    cases τ with
    | none => rfl
    | some t =>
      simp only [chainImp, Bool.or_eq_true] at h
      rcases h with h | h
      · rw [← tagEq_eq h]; exact hg
      · cases γ with
        | none => simp at h
        | some jw =>
          obtain ⟨j, want⟩ := jw
          simp only at h
          cases ho : ops[j]? with
          | none => simp [ho] at h
          | some o =>
            simp only [ho] at h
            have hne := hγ j want rfl
            cases hgt : s.gt j with
            | none => exact absurd hgt hne
            | some gb =>
              obtain ⟨g0, b0⟩ := gb
              obtain ⟨o', d, ho', _, hgo, _⟩ := hs.gtag j g0 b0 hgt
              rw [ho] at ho'
              cases ho'
              simp only [RSt.G, hgt, Bool.and_eq_true] at hg
              refine ih o.guard (some t) (fun k b hk => hs.gtok j o k b hne ho hk) h ?_
              rw [← hgo]; exact hg.1

theorem app_G {i : Nat} (hi : s.gt i = none) (o : Oper) (e : Eff) (γ : Tag) (hγ : ∀ j b, γ = some (j, b) → s.gt j ≠ none) : (s.app i o e).G γ = s.G γ := by
  cases γ with
  | none => rfl
  | some jw =>
    obtain ⟨j, want⟩ := jw
    have hne : j ≠ i := fun e => hγ j want rfl (e ▸ hi)
    simp only [RSt.G, app_gt_ne s hne]

theorem getD_put_same {a : Act} {d : Nat} {u : Value} (h : d < a.tmps.size) : (a.put (some d) u).tmps.getD d undef = u := by
  simp [Act.put, Array.getD_eq_getD_getElem?, h]
theorem getD_put_ne {a : Act} {d n : Nat} {u : Value} (h : n ≠ d) : (a.put (some d) u).tmps.getD n undef = a.tmps.getD n undef := by
  simp [Act.put, Array.getD_eq_getD_getElem?, Array.getElem?_setIfInBounds_ne (Ne.symm h)]

theorem FSim.step {i : Nat} {o : Oper} {β' : Book} {w' : World} {u : Value} {e : Eff} (hs : FSim K ops E β s a w) (hp : Pre K ops s i o) (hE : E i) (hge : s.G o.guard = e.g)
    (hk : Keeps β w β' w') (hv : e.g = true → Rel β' w' e.v u) (hu : e.g = false → u = undef) :
    FSim K ops (less E i) β' (s.app i o e) (a.put o.dst u) w' := by
  obtain ⟨hi, hguard, hd, hdst⟩ := hp
  have hti := hs.todo i hE
  have hG : ∀ γ : Tag, (∀ j b, γ = some (j, b) → s.gt j ≠ none) → (s.app i o e).G γ = s.G γ := fun γ hγ => app_G hti o e γ hγ
  have hgt : ∀ j, s.gt j ≠ none → (s.app i o e).gt j = s.gt j := fun j hj => app_gt_ne s (fun e => by subst e; exact hj hti) o e
  have hgt' : ∀ j, s.gt j ≠ none → (s.app i o e).gt j ≠ none := fun j hj => by rw [hgt j hj]; exact hj
  refine ⟨fun n => ?_, ?_, ?_, fun j g b hj => ?_, fun j o' k b hj ho' hg' => ?_, fun n j b hn => ?_, fun n j b hn => ?_, fun j hj => ?_⟩
  · rw [app_tg, app_fr]
    by_cases hn : o.dst = some n
    · rw [if_pos hn, if_pos hn, hG _ hguard, hn, getD_put_same (by rw [hs.size]; exact hd n hn), hge]
      exact ⟨hv, hu⟩
    · rw [if_neg hn, if_neg hn, hG _ (fun j b h => hs.tgok n j b h)]
      have : (a.put o.dst u).tmps.getD n undef = a.tmps.getD n undef := by
        cases hdd : o.dst with
        | none => rfl
        | some d => exact getD_put_ne (fun e => hn (by rw [hdd, e]))
      rw [this]
      exact ⟨fun h => ((hs.slot n).1 h).keep hk, (hs.slot n).2⟩
  · cases hdd : o.dst <;> simp [Act.put, hs.size]
  · cases hdd : o.dst <;> simp [Act.put, hs.defers]
  · by_cases hji : j = i
    · subst hji
      rw [app_gt_same] at hj
      cases hgv : gval o.dst e.v with
      | none => simp only [hgv] at hj; rw [hti] at hj; cases hj
      | some b' =>
        simp only [hgv, Option.some.injEq, Prod.mk.injEq] at hj
        obtain ⟨rfl, rfl⟩ := hj
        obtain ⟨d, hdd, hev⟩ : ∃ d, o.dst = some d ∧ e.v = .bool b' := by
          cases hdd : o.dst with
          | none => rw [hdd] at hgv; cases hgv
          | some d =>
            rw [hdd] at hgv
            generalize e.v = x at hgv
            cases x <;> simp [gval] at hgv
            subst hgv; exact ⟨d, rfl, rfl⟩
        refine ⟨o, d, hi, hdd, by rw [hG _ hguard, hge], fun hg => ?_, fun hg => ?_⟩
        · have := hv hg
          rw [hev] at this
          have := rel_bool_inv this
          rw [hdd, this]
          exact getD_put_same (by rw [hs.size]; exact hd d hdd)
        · rw [hdd, getD_put_same (by rw [hs.size]; exact hd d hdd)]
          exact hu hg
    · have hj' : s.gt j = some (g, b) := by rwa [app_gt_ne s hji] at hj
      obtain ⟨o', d, ho', hd', hgo, h1, h2⟩ := hs.gtag j g b hj'
      refine ⟨o', d, ho', hd', ?_, ?_⟩
      · rw [hG _ (fun k b' hk => hs.gtok j o' k b' (by simp [hj']) ho' hk)]; exact hgo
      · have hne : o.dst ≠ some d := fun e => hji (hdst j o' d ho' hd' e)
        cases hdd : o.dst with
        | none => exact ⟨h1, h2⟩
        | some d' =>
          have : d ≠ d' := fun e => hne (by rw [hdd, e])
          rw [getD_put_ne this]
          exact ⟨h1, h2⟩
  · by_cases hji : j = i
    · subst hji
      rw [hi] at ho'
      cases ho'
      exact hgt' k (hguard k b hg')
    · have : s.gt j ≠ none := by rwa [app_gt_ne s hji] at hj
      exact hgt' k (hs.gtok j o' k b this ho' hg')
  · rw [app_tg] at hn
    by_cases hd' : o.dst = some n
    · rw [if_pos hd'] at hn; exact hgt' j (hguard j b hn)
    · rw [if_neg hd'] at hn; exact hgt' j (hs.tgok n j b hn)
  · rw [app_ht] at hn
    cases hl : look e.ds n with
    | some x => simp only [hl] at hn; exact hgt' j (hguard j b hn)
    | none => simp only [hl] at hn; exact hgt' j (hs.htok n j b hn)
  · rw [app_gt_ne s hj.2]; exact hs.todo j hj.1

/-- ONE OPERATION: what must be shown of the book and the world behind it. -/
theorem RSim.step {i : Nat} {o : Oper} {β' : Book} {w' : World} {u : Value} {e : Eff} (hs : RSim K ops c E β s a w) (hp : Pre K ops s i o) (hE : E i) (hge : s.G o.guard = e.g)
    (hk : Keeps β w β' w') (hkept : Kept K.B K.G w w') (hbF : β'.F = β.F)
    (hnew : ∀ id ob, look e.ds id = some (some ob) → (e.g = true → Holds β' w' ob id) ∧ (e.g = false → β'.m id = none))
    (hold : ∀ id o', look e.ds id = none → s.H id = some o' → s.G (s.ht id) = true → Holds β' w' (e.on id o') id)
    (hoff : ∀ id o', look e.ds id = none → s.H id = some o' → β.m id = none → β'.m id = none)
    (hinj : InjB β') (hfresh : ∀ id, β'.m id ≠ none → β.m id ≠ none ∨ ∃ k, k < 8 ∧ id = c + 8 * i + k)
    (hlive : ∀ id b n mu, β'.m id = some (.lives b n mu) → (K.B ≤ b ∨ K.G b) ∧ b < w'.heap.size)
    (hv : e.g = true → Rel β' w' e.v u) (hu : e.g = false → u = undef) : RSim K ops c (less E i) β' (s.app i o e) (a.put o.dst u) w' := by
  have hilt : i < ops.size := (Array.getElem?_eq_some_iff.1 hp.at_).1
  have hGht : ∀ id, look e.ds id = none → (s.app i o e).G ((s.app i o e).ht id) = s.G (s.ht id) := by
    intro id hl
    rw [app_ht, hl]
    exact app_G (hs.f.todo i hE) o e _ (fun j b h => hs.f.htok id j b h)
  have hGht' : ∀ id x, look e.ds id = some x → (s.app i o e).G ((s.app i o e).ht id) = e.g := by
    intro id x hl
    rw [app_ht, hl, ← hge]
    exact app_G (hs.f.todo i hE) o e _ hp.guard
  refine ⟨⟨fun id o' ho hg => ?_, fun id o' ho hg => ?_, hinj, fun id hid => ?_, fun j k hj hk8 => ?_, hlive, fun id o' ho => ?_, by rw [hbF]; exact hs.h.bF, hs.h.hF, hs.h.kept.trans hkept, Nat.le_trans hs.h.hB hkept.size, fun g m h hgl => (hs.h.glob g m h hgl).keep hk⟩,
    hs.f.step hp hE hge hk hv hu⟩
  · rw [app_H] at ho
    cases hl : look e.ds id with
    | some x =>
      simp only [hl] at ho
      subst ho
      rw [hGht' id _ hl] at hg
      exact (hnew id o' hl).1 hg
    | none =>
      simp only [hl, Option.map_eq_some_iff] at ho
      obtain ⟨o1, h1, rfl⟩ := ho
      rw [hGht id hl] at hg
      exact hold id o1 hl h1 hg
  · rw [app_H] at ho
    cases hl : look e.ds id with
    | some x =>
      simp only [hl] at ho
      subst ho
      rw [hGht' id _ hl] at hg
      exact (hnew id o' hl).2 hg
    | none =>
      simp only [hl, Option.map_eq_some_iff] at ho
      obtain ⟨o1, h1, rfl⟩ := ho
      rw [hGht id hl] at hg
      exact hoff id o1 hl h1 (hs.h.hdead id o1 h1 hg)
  · apply Classical.byContradiction
    intro hne
    rcases hfresh id hne with h | ⟨k, hk8, rfl⟩
    · exact h (hs.h.fresh id hid)
    · omega
  · apply Classical.byContradiction
    intro hne
    rcases hfresh _ hne with h | ⟨k', hk8', heq⟩
    · exact h (hs.h.freshE j k hj.1 hk8)
    · exact hj.2 (by omega)
  · obtain ⟨o1, h1, h2⟩ := hs.h.giv id o' ho
    obtain ⟨o2, h3, h4⟩ := hk.ids id o1 h1
    exact ⟨o2, h3, Own.later_trans h2 h4⟩

end
end Go.Am
