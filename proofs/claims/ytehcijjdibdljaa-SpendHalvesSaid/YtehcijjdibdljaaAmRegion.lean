/-
  The engine, part 4: the state inside a region, what it means, and one operation of it.
-/
import Derived.Test.YtehcijjdibdljaaAmOps5
namespace Go.Am
open Go.RowKit

abbrev Tag := Option (Nat × Bool)

/-- The state inside a region: the slots; under which guard each was written here; of each operation that yielded a Bool: its own guard's outcome and the Bool; the objects; under which guard each was made here. -/
structure RSt where
  fr : Nat → AV
  tg : Nat → Tag
  gt : Nat → Option (Bool × Bool)
  H : Heap
  ht : Nat → Tag

def RSt.G (s : RSt) : Tag → Bool
  | none => true
  | some (j, want) => match s.gt j with | some (g, b) => g && (b == want) | none => false

def tagEq : Tag → Tag → Bool
  | none, none => true
  | some (a, b), some (c, d) => Nat.beq a c && (b == d)
  | _, _ => false

theorem tagEq_eq {a b : Tag} (h : tagEq a b = true) : a = b := by
  unfold tagEq at h
  split at h
  · rfl
  · rw [Bool.and_eq_true] at h
    have h1 := Nat.eq_of_beq_eq_true h.1
    have h2 := eq_of_beq h.2
    subst h1; subst h2; rfl
  · cases h

/-- Where the first guard holds, the second does. -/
def chainImp (ops : Array Oper) : Nat → Tag → Tag → Bool
  | _, _, none => true
  | 0, γ, some τ => tagEq γ (some τ)
  | n + 1, γ, some τ => tagEq γ (some τ) || (match γ with
    | some (j, _) => match ops[j]? with | some o => chainImp ops n o.guard (some τ) | none => false
    | none => false)

def gval : Option Tmp → AV → Option Bool
  | some _, .bool b => some b
  | _, _ => none

def RSt.put (s : RSt) (c i : Nat) (o : Oper) (v : AV) (ob : Option Ob) : RSt :=
  { fr := match o.dst with | some d => upd s.fr d v | none => s.fr
    tg := match o.dst with | some d => upd s.tg d o.guard | none => s.tg
    gt := match gval o.dst v with | some b => upd s.gt i (some (s.G o.guard, b)) | none => s.gt
    H := match ob with | some x => upd s.H (c + i) (some x) | none => s.H
    ht := match ob with | some _ => upd s.ht (c + i) o.guard | none => s.ht }

structure Ctx where
  P : Program
  gl : Globs
  B : Nat
  w0 : World
  nt : Nat
  F : Nat → Prop

/-- The objects. hg: has the object been made at all? -/
structure HSim (K : Ctx) (c n : Nat) (E : Nat → Prop) (hg : Nat → Bool) (β : Book) (H : Heap) (w : World) : Prop where
  heap : ∀ id o, H id = some o → hg id = true → ∃ b, β.m id = some (.lives b o.n o.mu) ∧ HRel β w o b
  hdead : ∀ id o, H id = some o → hg id = false → β.m id = none
  inj : ∀ i j b n n' mu mu', β.m i = some (.lives b n mu) → β.m j = some (.lives b n' mu') → i = j
  fresh : ∀ id, c + n ≤ id → β.m id = none
  freshE : ∀ i, E i → β.m (c + i) = none
  live : ∀ id b n mu, β.m id = some (.lives b n mu) → K.B ≤ b ∧ b < w.heap.size
  bF : β.F = K.F
  hF : ∀ b, K.F b → b < K.B
  below : Below K.B K.w0 w
  hB : K.B ≤ w.heap.size
  glob : ∀ g m h, K.gl g = some (m, h) → Rel β w (.ipt m h) (.pointer (some ⟨g, 0, none⟩))

/-- The slots. -/
structure FSim (K : Ctx) (ops : Array Oper) (E : Nat → Prop) (β : Book) (s : RSt) (a : Act) (w : World) : Prop where
  slot : ∀ n, (s.G (s.tg n) = true → Rel β w (s.fr n) (a.tmps.getD n undef)) ∧ (s.G (s.tg n) = false → a.tmps.getD n undef = undef)
  size : a.tmps.size = K.nt
  defers : a.defers = []
  gtag : ∀ j g b, s.gt j = some (g, b) → ∃ o d, ops[j]? = some o ∧ o.dst = some d ∧ g = s.G o.guard ∧ (g = true → a.tmps.getD d undef = .bool b) ∧ (g = false → a.tmps.getD d undef = undef)
  gtok : ∀ j o k b, s.gt j ≠ none → ops[j]? = some o → o.guard = some (k, b) → s.gt k ≠ none
  tgok : ∀ n j b, s.tg n = some (j, b) → s.gt j ≠ none
  htok : ∀ n j b, s.ht n = some (j, b) → s.gt j ≠ none
  todo : ∀ i, E i → s.gt i = none

structure RSim (K : Ctx) (ops : Array Oper) (c : Nat) (E : Nat → Prop) (β : Book) (s : RSt) (a : Act) (w : World) : Prop where
  h : HSim K c ops.size E (fun id => s.G (s.ht id)) β s.H w
  f : FSim K ops E β s a w

theorem HSim.ok {K : Ctx} {c n : Nat} {E : Nat → Prop} {hg : Nat → Bool} {β : Book} {H : Heap} {w : World} (h : HSim K c n E hg β H w) : HeapOk β w H := by
  intro id ob hid hne
  cases hgd : hg id with
  | true => obtain ⟨b, h1, h2⟩ := h.heap id ob hid hgd; exact ⟨b, _, h1, fun h => h, h2⟩
  | false => exact absurd (h.hdead id ob hid hgd) hne

/-- Not i any more. -/
def less (E : Nat → Prop) (i : Nat) : Nat → Prop := fun j => E j ∧ j ≠ i

section
variable {K : Ctx} {ops : Array Oper} {c : Nat} {E : Nat → Prop} {β : Book} {s : RSt} {a : Act} {w : World}

theorem chainImp_G (hs : FSim K ops E β s a w) : ∀ (n : Nat) (γ τ : Tag), (∀ j b, γ = some (j, b) → s.gt j ≠ none) → chainImp ops n γ τ = true → s.G γ = true → s.G τ = true := by
  intro n
  induction n with
  | zero =>
    intro γ τ _ h hg
    cases τ with
    | none => rfl
    | some t => rw [← tagEq_eq h]; exact hg
  | succ n ih =>
    intro γ τ hγ h hg
    cases τ with
    | none => rfl
    | some t =>
      simp only [chainImp, Bool.or_eq_true] at h
      rcases h with h | h
      · rw [← tagEq_eq h]; exact hg
      · cases γ with
        | none => simp at h
        | some jw =>
          obtain ⟨j, want⟩ := jw
          simp only at h
          cases ho : ops[j]? with
          | none => simp [ho] at h
          | some o =>
            simp only [ho] at h
            have hne := hγ j want rfl
            cases hgt : s.gt j with
            | none => exact absurd hgt hne
            | some gb =>
              obtain ⟨g0, b0⟩ := gb
              obtain ⟨o', d, ho', _, hgo, _⟩ := hs.gtag j g0 b0 hgt
              rw [ho] at ho'
              cases ho'
              simp only [RSt.G, hgt, Bool.and_eq_true] at hg
              refine ih o.guard (some t) (fun k b hk => hs.gtok j o k b hne ho hk) h ?_
              rw [← hgo]; exact hg.1

/-- G does not look at i. -/
theorem put_gt {i j : Nat} (hne : j ≠ i) (o : Oper) (v : AV) (ob : Option Ob) : (s.put c i o v ob).gt j = s.gt j := by
  cases h : gval o.dst v with
  | none => simp only [RSt.put, h]
  | some b => simp only [RSt.put, h]; exact upd_ne _ _ hne

theorem put_G {i : Nat} (hi : s.gt i = none) (o : Oper) (v : AV) (ob : Option Ob) (γ : Tag) (hγ : ∀ j b, γ = some (j, b) → s.gt j ≠ none) : (s.put c i o v ob).G γ = s.G γ := by
  cases γ with
  | none => rfl
  | some jw =>
    obtain ⟨j, want⟩ := jw
    have hne : j ≠ i := fun e => hγ j want rfl (e ▸ hi)
    simp only [RSt.G, put_gt hne]

theorem getD_put_same {a : Act} {d : Nat} {u : Value} (h : d < a.tmps.size) : (a.put (some d) u).tmps.getD d undef = u := by
  simp [Act.put, Array.getD_eq_getD_getElem?, h]
theorem getD_put_ne {a : Act} {d n : Nat} {u : Value} (h : n ≠ d) : (a.put (some d) u).tmps.getD n undef = a.tmps.getD n undef := by
  simp [Act.put, Array.getD_eq_getD_getElem?, Array.getElem?_setIfInBounds_ne (Ne.symm h)]

theorem FSim.step {i : Nat} {o : Oper} {β' : Book} {w' : World} {u : Value} {v : AV} {ob : Option Ob} (hs : FSim K ops E β s a w) (hi : ops[i]? = some o) (hE : E i)
    (hguard : ∀ j b, o.guard = some (j, b) → s.gt j ≠ none) (hd : ∀ d, o.dst = some d → d < K.nt)
    (hdst : ∀ j oj d, ops[j]? = some oj → oj.dst = some d → o.dst = some d → j = i)
    (hk : Keeps β w β' w') (hv : s.G o.guard = true → Rel β' w' v u) (hu : s.G o.guard = false → u = undef) :
    FSim K ops (less E i) β' (s.put c i o v ob) (a.put o.dst u) w' := by
  have hti := hs.todo i hE
  have hG : ∀ γ : Tag, (∀ j b, γ = some (j, b) → s.gt j ≠ none) → (s.put c i o v ob).G γ = s.G γ := fun γ hγ => put_G hti o v ob γ hγ
  have hgt : ∀ j, s.gt j ≠ none → (s.put c i o v ob).gt j = s.gt j := by
    intro j hj
    exact put_gt (fun e => by subst e; exact hj hti) o v ob
  have hgt' : ∀ j, s.gt j ≠ none → (s.put c i o v ob).gt j ≠ none := fun j hj => by rw [hgt j hj]; exact hj
  refine ⟨fun n => ?_, ?_, ?_, fun j g b hj => ?_, fun j o' k b hj ho' hg' => ?_, fun n j b hn => ?_, fun n j b hn => ?_, fun j hj => ?_⟩
  · cases hdd : o.dst with
    | none =>
      have e1 : (s.put c i o v ob).tg n = s.tg n := by simp [RSt.put, hdd]
      have e2 : (s.put c i o v ob).fr n = s.fr n := by simp [RSt.put, hdd]
      rw [e1, e2, hG _ (fun j b h => hs.tgok n j b h)]
      exact ⟨fun h => ((hs.slot n).1 h).keep hk, (hs.slot n).2⟩
    | some d =>
      by_cases hn : n = d
      · subst hn
        have e1 : (s.put c i o v ob).tg n = o.guard := by simp [RSt.put, hdd, upd_same]
        have e2 : (s.put c i o v ob).fr n = v := by simp [RSt.put, hdd, upd_same]
        rw [e1, e2, hG _ hguard, getD_put_same (by rw [hs.size]; exact hd n hdd)]
        exact ⟨hv, hu⟩
      · have e1 : (s.put c i o v ob).tg n = s.tg n := by simp [RSt.put, hdd, upd_ne _ _ hn]
        have e2 : (s.put c i o v ob).fr n = s.fr n := by simp [RSt.put, hdd, upd_ne _ _ hn]
        rw [e1, e2, hG _ (fun j b h => hs.tgok n j b h), getD_put_ne hn]
        exact ⟨fun h => ((hs.slot n).1 h).keep hk, (hs.slot n).2⟩
  · cases hdd : o.dst <;> simp [Act.put, hs.size]
  · cases hdd : o.dst <;> simp [Act.put, hs.defers]
  · by_cases hji : j = i
    · subst hji
      cases hgv : gval o.dst v with
      | none => simp only [RSt.put, hgv] at hj; rw [hti] at hj; cases hj
      | some b' =>
        simp only [RSt.put, hgv] at hj
        rw [upd_same] at hj
        simp only [Option.some.injEq, Prod.mk.injEq] at hj
        obtain ⟨rfl, rfl⟩ := hj
        obtain ⟨d, hdd, rfl⟩ : ∃ d, o.dst = some d ∧ v = .bool b' := by
          cases hdd : o.dst with
          | none => rw [hdd] at hgv; cases hgv
          | some d => rw [hdd] at hgv; cases v <;> simp [gval] at hgv; subst hgv; exact ⟨d, rfl, rfl⟩
        refine ⟨o, d, hi, hdd, (hG _ hguard).symm, fun hg => ?_, fun hg => ?_⟩
        · have := rel_bool_inv (hv hg)
          rw [hdd, this]
          exact getD_put_same (by rw [hs.size]; exact hd d hdd)
        · rw [hdd, getD_put_same (by rw [hs.size]; exact hd d hdd)]
          exact hu hg
    · have hj' : s.gt j = some (g, b) := by rwa [put_gt hji] at hj
      obtain ⟨o', d, ho', hd', hgo, h1, h2⟩ := hs.gtag j g b hj'
      refine ⟨o', d, ho', hd', ?_, ?_⟩
      · rw [hG _ (fun k b' hk => hs.gtok j o' k b' (by simp [hj']) ho' hk)]; exact hgo
      · have hne : o.dst ≠ some d := fun e => hji (hdst j o' d ho' hd' e)
        cases hdd : o.dst with
        | none => exact ⟨h1, h2⟩
        | some d' =>
          have : d ≠ d' := fun e => hne (by rw [hdd, e])
          rw [getD_put_ne this]
          exact ⟨h1, h2⟩
  · by_cases hji : j = i
    · subst hji
      rw [hi] at ho'
      cases ho'
      exact hgt' k (hguard k b hg')
    · have : s.gt j ≠ none := by rwa [put_gt hji] at hj
      exact hgt' k (hs.gtok j o' k b this ho' hg')
  · have : s.tg n = some (j, b) ∨ o.guard = some (j, b) := by
      cases hdd : o.dst with
      | none => simp only [RSt.put, hdd] at hn; exact .inl hn
      | some d =>
        simp only [RSt.put, hdd] at hn
        by_cases e : n = d
        · subst e; rw [upd_same] at hn; exact .inr hn
        · rw [upd_ne _ _ e] at hn; exact .inl hn
    rcases this with h | h
    · exact hgt' j (hs.tgok n j b h)
    · exact hgt' j (hguard j b h)
  · have : s.ht n = some (j, b) ∨ o.guard = some (j, b) := by
      cases ob with
      | none => simp only [RSt.put] at hn; exact .inl hn
      | some x =>
        simp only [RSt.put] at hn
        by_cases e : n = c + i
        · subst e; rw [upd_same] at hn; exact .inr hn
        · rw [upd_ne _ _ e] at hn; exact .inl hn
    rcases this with h | h
    · exact hgt' j (hs.htok n j b h)
    · exact hgt' j (hguard j b h)
  · rw [put_gt hj.2]; exact hs.todo j hj.1

end
end Go.Am
