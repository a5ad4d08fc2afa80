/-
  The engine, part 12: a region that draws its order comes to what the walk in the order of the text comes to.
-/
import Derived.Test.YtehcijjdibdljaaAmDraw
namespace Go.Am
open Go.RowKit

theorem RSim.fewer {K : Ctx} {ops : Array Oper} {c : Nat} {E E' : Nat → Prop} {β : Book} {s : RSt} {a : Act} {w : World} (h : RSim K ops c E β s a w) (he : ∀ j, E' j → E j) : RSim K ops c E' β s a w :=
  ⟨⟨h.h.heap, h.h.hdead, h.h.inj, h.h.fresh, fun j hj => h.h.freshE j (he j hj), h.h.live, h.h.bF, h.h.hF, h.h.below, h.h.hB, h.h.glob⟩,
   ⟨h.f.slot, h.f.size, h.f.defers, h.f.gtag, h.f.gtok, h.f.tgok, h.f.htok, fun j hj => h.f.todo j (he j hj)⟩⟩

/-- The states of the walk, one by one. -/
theorem lex_states {C : Cfg} {ops : Array Oper} {c : Nat} {X : RSt → Prop} (l : List Oper) : ∀ (i : Nat) (s : RSt), (∀ j, l[j]? = ops[i + j]?) → lex C ops c l i s X →
    ∃ sv : Nat → RSt, sv i = s ∧ (∀ j o, i ≤ j → ops[j]? = some o → okOp C.nt ops (sv j) o = true ∧ OpAt C c j o (sv j) (sv (j + 1))) ∧ X (sv (i + l.length)) := by
  induction l with
  | nil =>
    intro i s hl h
    refine ⟨fun _ => s, rfl, fun j o hj ho => ?_, h⟩
    have := hl (j - i)
    rw [show i + (j - i) = j by omega, ho] at this
    simp at this
  | cons x l ih =>
    intro i s hl h
    obtain ⟨hok, s', hop, hrest⟩ := h
    obtain ⟨sv, h1, h2, h3⟩ := ih (i + 1) s' (fun j => by have := hl (j + 1); simpa [Nat.add_assoc, Nat.add_comm 1 j] using this) hrest
    have hx : ops[i]? = some x := by simpa using (hl 0).symm
    refine ⟨fun j => if j = i then s else sv j, by simp, fun j o hj ho => ?_, ?_⟩
    · by_cases e : j = i
      · subst e
        rw [hx] at ho
        cases ho
        simp only [if_true, if_neg (show ¬ j + 1 = j by omega)]
        rw [h1]
        exact ⟨hok, hop⟩
      · simp only [if_neg e, if_neg (show ¬ j + 1 = i by omega)]
        exact h2 j o (by omega) ho
    · have e : i + (x :: l).length = i + 1 + l.length := by simp; omega
      rw [e]
      show X (if i + 1 + l.length = i then s else sv (i + 1 + l.length))
      rw [if_neg (by omega)]
      exact h3

theorem frzH_at (ids : List Nat) (H : Heap) (id : Nat) : frzH ids H id = (H id).map fun o => { o with mu := o.mu && !memN ids id } := by
  unfold frzH
  cases H id with
  | none => rfl
  | some o => cases h : memN ids id <;> simp

theorem firstE_spec {ops : Array Oper} {j : Nat} {o : Oper} (hj : j < firstE ops) (ho : ops[j]? = some o) : isE o.op = false := by
  unfold firstE at hj
  have hlt : j < ops.toList.length := Nat.lt_of_lt_of_le hj List.findIdx_le_length
  have := List.not_of_lt_findIdx hj
  have e : ops.toList[j] = o := by
    have : ops.toList[j]? = some o := by simpa using ho
    rw [List.getElem?_eq_getElem hlt] at this
    exact Option.some.inj this
  rw [e] at this
  simpa using this

section
variable {K : Ctx} {C : Cfg} {ops : Array Oper} {c : Nat}

/-- What the first part of the walk (no operation writes) makes, operation by operation. -/
structure Made (C : Cfg) (ops : Array Oper) (c p : Nat) (sv : Nat → RSt) (V : Nat → AV) (O : Nat → Option Ob) (I : Nat → List Nat) : Prop where
  ok : ∀ j o, j < p → ops[j]? = some o → okOp C.nt ops (sv j) o = true
  op : ∀ j o, j < p → ops[j]? = some o → OpV C c j o (sv j) (V j) (O j) (I j)
  next : ∀ j o, j < p → ops[j]? = some o → sv (j + 1) = ({ sv j with H := frzH (I j) (sv j).H } : RSt).put c j o (V j) (O j)
  p_le : p ≤ ops.size
  tg0 : ∀ n, (sv 0).tg n = none
  ht0 : ∀ n, (sv 0).ht n = none
  gt0 : ∀ n, (sv 0).gt n = none
  H0 : ∀ i, (sv 0).H (c + i) = none
  one : ∀ (i j : Nat) (oi oj : Oper) (d : Tmp), ops[i]? = some oi → ops[j]? = some oj → oi.dst = some d → oj.dst = some d → i = j

variable {p : Nat} {sv : Nat → RSt} {V : Nat → AV} {O : Nat → Option Ob} {I : Nat → List Nat}

theorem Made.fr (M : Made C ops c p sv V O I) : ∀ i, i ≤ p → (∀ j o d, j < i → ops[j]? = some o → o.dst = some d → (sv i).fr d = V j ∧ (sv i).tg d = o.guard) ∧
    (∀ n, (∀ j o, j < i → ops[j]? = some o → o.dst ≠ some n) → (sv i).fr n = (sv 0).fr n ∧ (sv i).tg n = none) := by
  intro i
  induction i with
  | zero => intro _; exact ⟨fun j o d h => by omega, fun n _ => ⟨rfl, M.tg0 n⟩⟩
  | succ i ih =>
    intro hi
    obtain ⟨h1, h2⟩ := ih (by omega)
    have hlt : i < ops.size := by have := M.p_le; omega
    have ho : ops[i]? = some ops[i] := by simp [hlt]
    have hn := M.next i _ (by omega) ho
    refine ⟨fun j o d hj hoj hd => ?_, fun n hnn => ?_⟩
    · rw [hn]
      by_cases e : j = i
      · subst e
        rw [ho] at hoj
        cases hoj
        simp only [RSt.put, hd, upd_same]
        exact ⟨trivial, trivial⟩
      · have hne : ops[i].dst ≠ some d := fun h => e (M.one j i o ops[i] d hoj ho hd h)
        have := h1 j o d (by omega) hoj hd
        cases hdi : ops[i].dst with
        | none => simp only [RSt.put, hdi]; exact this
        | some d' =>
          have : d ≠ d' := fun e => hne (by rw [hdi, e])
          simp only [RSt.put, hdi, upd_ne _ _ this]
          exact h1 j o d (by omega) hoj hd
    · rw [hn]
      have h3 := h2 n (fun j o hj => hnn j o (by omega))
      have hne := hnn i _ (by omega) ho
      cases hdi : ops[i].dst with
      | none => simp only [RSt.put, hdi]; exact h3
      | some d' =>
        have : n ≠ d' := fun e => hne (by rw [hdi, e])
        simp only [RSt.put, hdi, upd_ne _ _ this]
        exact h3

theorem Made.gt (M : Made C ops c p sv V O I) : ∀ i, i ≤ p → ∀ j, (j < i → (sv i).gt j = (sv (j + 1)).gt j) ∧ (i ≤ j → (sv i).gt j = none) := by
  intro i
  induction i with
  | zero => intro _ j; exact ⟨fun h => by omega, fun _ => M.gt0 j⟩
  | succ i ih =>
    intro hi j
    have hlt : i < ops.size := by have := M.p_le; omega
    have ho : ops[i]? = some ops[i] := by simp [hlt]
    have hn := M.next i _ (by omega) ho
    refine ⟨fun hj => ?_, fun hj => ?_⟩
    · by_cases e : j = i
      · subst e; rfl
      · rw [hn, put_gt e]
        exact (ih (by omega) j).1 (by omega)
    · rw [hn, put_gt (by omega)]
      exact (ih (by omega) j).2 (by omega)

/-- The objects, unfrozen. -/
def Uo (c : Nat) (H0 : Heap) (O : Nat → Option Ob) : Nat → Heap
  | 0 => H0
  | i + 1 => match O i with | some x => upd (Uo c H0 O i) (c + i) (some x) | none => Uo c H0 O i

theorem Uo_made {H0 : Heap} {j : Nat} {x : Ob} (h : O j = some x) : ∀ i, j < i → Uo c H0 O i (c + j) = some x := by
  intro i
  induction i with
  | zero => intro h; omega
  | succ i ih =>
    intro hj
    by_cases e : j = i
    · subst e; simp only [Uo, h]; exact upd_same _ _ _
    · have := ih (by omega)
      cases hO : O i with
      | none => simp only [Uo, hO]; exact this
      | some y => simp only [Uo, hO]; rw [upd_ne _ _ (by omega)]; exact this

theorem Uo_old {H0 : Heap} {id : Nat} : ∀ i, (∀ j x, j < i → O j = some x → id ≠ c + j) → Uo c H0 O i id = H0 id := by
  intro i
  induction i with
  | zero => intro _; rfl
  | succ i ih =>
    intro h
    have := ih (fun j x hj => h j x (by omega))
    cases hO : O i with
    | none => simp only [Uo, hO]; exact this
    | some y => simp only [Uo, hO]; rw [upd_ne _ _ (h i y (by omega) hO)]; exact this

def Fz (I : Nat → List Nat) (i : Nat) : List Nat := (List.range i).flatMap I

theorem memN_iff {l : List Nat} {id : Nat} : memN l id = true ↔ id ∈ l := by
  unfold memN
  rw [List.any_eq_true]
  constructor
  · rintro ⟨x, hx, h⟩
    have := Nat.eq_of_beq_eq_true h
    subst this; exact hx
  · intro h; exact ⟨id, h, Nat.beq_refl id⟩

theorem memN_Fz {i id : Nat} : memN (Fz I i) id = true ↔ ∃ k, k < i ∧ memN (I k) id = true := by
  rw [memN_iff]
  unfold Fz
  simp only [List.mem_flatMap, List.mem_range]
  constructor
  · rintro ⟨k, hk, h⟩; exact ⟨k, hk, memN_iff.2 h⟩
  · rintro ⟨k, hk, h⟩; exact ⟨k, hk, memN_iff.1 h⟩

theorem OpV.ids {i : Nat} {o : Oper} {s : RSt} {v : AV} {ob : Option Ob} {ids : List Nat} (h : OpV C c i o s v ob ids) : ∀ id, memN ids id = true → s.H id ≠ none := by
  cases h with
  | m _ _ => intro id hid; simp [memN] at hid
  | sc _ _ _ => intro id hid; simp [memN] at hid
  | dc ids hids _ _ => exact hids

theorem Made.H (M : Made C ops c p sv V O I) : ∀ i, i ≤ p → (sv i).H = frzH (Fz I i) (Uo c (sv 0).H O i) ∧ ∀ k j, k < i → k ≤ j → memN (I k) (c + j) = false := by
  intro i
  induction i with
  | zero => intro _; exact ⟨by rw [show Fz I 0 = [] from rfl, frzH_nil]; rfl, fun k j h => by omega⟩
  | succ i ih =>
    intro hi
    obtain ⟨h1, h2⟩ := ih (by omega)
    have hlt : i < ops.size := by have := M.p_le; omega
    have ho : ops[i]? = some ops[i] := by simp [hlt]
    have hn := M.next i _ (by omega) ho
    have hI : ∀ j, i ≤ j → memN (I i) (c + j) = false := by
      intro j hj
      cases hm : memN (I i) (c + j) with
      | false => rfl
      | true =>
        have := (M.op i _ (by omega) ho).ids _ hm
        rw [h1, frzH_at, Uo_old i (fun j' x hj' _ => by omega), M.H0] at this
        exact absurd rfl this
    have hF : memN (Fz I (i + 1)) (c + i) = false := by
      cases hm : memN (Fz I (i + 1)) (c + i) with
      | false => rfl
      | true =>
        obtain ⟨k, hk, hkm⟩ := memN_Fz.1 hm
        by_cases e : k = i
        · subst e; rw [hI k (Nat.le_refl _)] at hkm; cases hkm
        · rw [h2 k i (by omega) (by omega)] at hkm; cases hkm
    refine ⟨?_, fun k j hk hkj => ?_⟩
    · rw [hn]
      funext id
      have hold : frzH (I i) (sv i).H id = frzH (Fz I (i + 1)) (Uo c (sv 0).H O i) id := by
        rw [frzH_at, h1, frzH_at, frzH_at]
        cases Uo c (sv 0).H O i id with
        | none => rfl
        | some o =>
          simp only [Option.map_some, Option.some.injEq, Ob.mk.injEq, true_and]
          refine ⟨?_, trivial⟩
          have : memN (Fz I (i + 1)) id = (memN (Fz I i) id || memN (I i) id) := by
            rw [Bool.eq_iff_iff, memN_Fz, Bool.or_eq_true, memN_Fz]
            constructor
            · rintro ⟨k, hk, h⟩
              by_cases e : k = i
              · subst e; exact .inr h
              · exact .inl ⟨k, by omega, h⟩
            · rintro (⟨k, hk, h⟩ | h)
              · exact ⟨k, by omega, h⟩
              · exact ⟨i, by omega, h⟩
          rw [this]
          cases o.mu <;> cases memN (Fz I i) id <;> cases memN (I i) id <;> rfl
      cases hO : O i with
      | none => simp only [RSt.put, Uo, hO]; exact hold
      | some x =>
        simp only [RSt.put, Uo, hO]
        by_cases e : id = c + i
        · subst e
          rw [upd_same, frzH_at, upd_same]
          simp [hF]
        · rw [upd_ne _ _ e, hold, frzH_at, frzH_at, upd_ne _ _ e]
    · by_cases e : k = i
      · subst e; exact hI j hkj
      · exact h2 k j (by omega) hkj

theorem Made.ht (M : Made C ops c p sv V O I) : ∀ i, i ≤ p → (∀ j o x, j < i → ops[j]? = some o → O j = some x → (sv i).ht (c + j) = o.guard) ∧ (∀ id, (∀ j x, j < i → O j = some x → id ≠ c + j) → (sv i).ht id = none) := by
  intro i
  induction i with
  | zero => intro _; exact ⟨fun j o x h => by omega, fun id _ => M.ht0 id⟩
  | succ i ih =>
    intro hi
    obtain ⟨h1, h2⟩ := ih (by omega)
    have hlt : i < ops.size := by have := M.p_le; omega
    have ho : ops[i]? = some ops[i] := by simp [hlt]
    have hn := M.next i _ (by omega) ho
    refine ⟨fun j o x hj hoj hO => ?_, fun id hid => ?_⟩
    · rw [hn]
      by_cases e : j = i
      · subst e
        rw [ho] at hoj
        cases hoj
        simp only [RSt.put, hO]
        exact upd_same _ _ _
      · cases hOi : O i with
        | none => simp only [RSt.put]; exact h1 j o x (by omega) hoj hO
        | some y => simp only [RSt.put]; rw [upd_ne _ _ (by omega)]; exact h1 j o x (by omega) hoj hO
    · rw [hn]
      cases hOi : O i with
      | none => simp only [RSt.put]; exact h2 id (fun j x hj => hid j x (by omega))
      | some y => simp only [RSt.put]; rw [upd_ne _ _ (hid i y (by omega) hOi)]; exact h2 id (fun j x hj => hid j x (by omega))

/-- The model's state while the first part is on its way, some operations L carried out. -/
structure Inv (ops : Array Oper) (c p : Nat) (sv : Nat → RSt) (V : Nat → AV) (O : Nat → Option Ob) (I : Nat → List Nat) (L : Nat → Prop) (s : RSt) : Prop where
  w1 : ∀ j o d, L j → ops[j]? = some o → o.dst = some d → s.fr d = V j ∧ s.tg d = o.guard
  w2 : ∀ n, (∀ j o, L j → ops[j]? = some o → o.dst ≠ some n) → s.fr n = (sv 0).fr n ∧ s.tg n = none
  g1 : ∀ j, L j → s.gt j = (sv (j + 1)).gt j
  g2 : ∀ j, ¬ L j → s.gt j = none
  h1 : ∀ j x, L j → O j = some x → s.H (c + j) = some { x with mu := x.mu && !memN (Fz I p) (c + j) }
  h2 : ∀ id, (∀ j x, L j → O j = some x → id ≠ c + j) → s.H id = frzH (Fz I p) (sv 0).H id
  t1 : ∀ j o x, L j → ops[j]? = some o → O j = some x → s.ht (c + j) = o.guard
  t2 : ∀ id, (∀ j x, L j → O j = some x → id ≠ c + j) → s.ht id = none

theorem Inv.start (M : Made C ops c p sv V O I) : Inv ops c p sv V O I (fun _ => False) { sv 0 with H := frzH (Fz I p) (sv 0).H } :=
  ⟨fun _ _ _ h => h.elim, fun n _ => ⟨rfl, M.tg0 n⟩, fun _ h => h.elim, fun j _ => M.gt0 j, fun _ _ h => h.elim, fun _ _ => rfl, fun _ _ _ h => h.elim, fun id _ => M.ht0 id⟩

/-- All of the first part is carried out: the state is the walk's. -/
theorem Inv.whole (M : Made C ops c p sv V O I) {L : Nat → Prop} {s : RSt} (h : Inv ops c p sv V O I L s) (hL : ∀ j, L j ↔ j < p) : s = sv p := by
  obtain ⟨f1, f2⟩ := M.fr p (Nat.le_refl _)
  obtain ⟨t1, t2⟩ := M.ht p (Nat.le_refl _)
  have hH := (M.H p (Nat.le_refl _)).1
  have hfr : ∀ n, s.fr n = (sv p).fr n ∧ s.tg n = (sv p).tg n := by
    intro n
    by_cases hw : ∃ j o, j < p ∧ ops[j]? = some o ∧ o.dst = some n
    · obtain ⟨j, o, hj, ho, hd⟩ := hw
      have a1 := h.w1 j o n ((hL j).2 hj) ho hd
      have a2 := f1 j o n hj ho hd
      exact ⟨a1.1.trans a2.1.symm, a1.2.trans a2.2.symm⟩
    · have a1 := h.w2 n (fun j o hj ho hd => hw ⟨j, o, (hL j).1 hj, ho, hd⟩)
      have a2 := f2 n (fun j o hj ho hd => hw ⟨j, o, hj, ho, hd⟩)
      exact ⟨a1.1.trans a2.1.symm, a1.2.trans a2.2.symm⟩
  have hgt : ∀ j, s.gt j = (sv p).gt j := by
    intro j
    by_cases hj : j < p
    · rw [h.g1 j ((hL j).2 hj), (M.gt p (Nat.le_refl _) j).1 hj]
    · rw [h.g2 j (fun hl => hj ((hL j).1 hl)), (M.gt p (Nat.le_refl _) j).2 (by omega)]
  have hHH : ∀ id, s.H id = (sv p).H id ∧ s.ht id = (sv p).ht id := by
    intro id
    by_cases hw : ∃ j x, j < p ∧ O j = some x ∧ id = c + j
    · obtain ⟨j, x, hj, hO, rfl⟩ := hw
      have hlt : j < ops.size := by have := M.p_le; omega
      have ho : ops[j]? = some ops[j] := by simp [hlt]
      refine ⟨?_, ?_⟩
      · rw [h.h1 j x ((hL j).2 hj) hO, hH, frzH_at, Uo_made hO p hj]
        rfl
      · rw [h.t1 j _ x ((hL j).2 hj) ho hO, t1 j _ x hj ho hO]
    · refine ⟨?_, ?_⟩
      · rw [h.h2 id (fun j x hj hO e => hw ⟨j, x, (hL j).1 hj, hO, e⟩), hH, frzH_at, frzH_at, Uo_old p (fun j x hj hO e => hw ⟨j, x, hj, hO, e⟩)]
      · rw [h.t2 id (fun j x hj hO e => hw ⟨j, x, (hL j).1 hj, hO, e⟩), t2 id (fun j x hj hO e => hw ⟨j, x, hj, hO, e⟩)]
  have e1 : s.fr = (sv p).fr := funext fun n => (hfr n).1
  have e2 : s.tg = (sv p).tg := funext fun n => (hfr n).2
  have e3 : s.gt = (sv p).gt := funext hgt
  have e4 : s.H = (sv p).H := funext fun n => (hHH n).1
  have e5 : s.ht = (sv p).ht := funext fun n => (hHH n).2
  cases s
  generalize sv p = t at e1 e2 e3 e4 e5
  cases t
  simp only at e1 e2 e3 e4 e5
  subst e1; subst e2; subst e3; subst e4; subst e5
  rfl

/-- One more operation. -/
theorem Inv.step (M : Made C ops c p sv V O I) {L : Nat → Prop} {s : RSt} (h : Inv ops c p sv V O I L s) {i : Nat} {o : Oper} (hi : i < p) (ho : ops[i]? = some o) (hn : ¬ L i)
    (hgt : (({ s with H := frzH (I i) s.H } : RSt).put c i o (V i) (O i)).gt i = (sv (i + 1)).gt i) :
    Inv ops c p sv V O I (fun j => L j ∨ j = i) { ({ s with H := frzH (I i) s.H } : RSt).put c i o (V i) (O i) with H := frzH (Fz I p) (({ s with H := frzH (I i) s.H } : RSt).put c i o (V i) (O i)).H } := by
  have hsub : ∀ id, memN (I i) id = true → memN (Fz I p) id = true := fun id hid => memN_Fz.2 ⟨i, hi, hid⟩
  refine ⟨fun j o' d hj hoj hd => ?_, fun n hnn => ?_, fun j hj => ?_, fun j hj => ?_, fun j x hj hO => ?_, fun id hid => ?_, fun j o' x hj hoj hO => ?_, fun id hid => ?_⟩
  · rcases hj with hj | rfl
    · have hne : o.dst ≠ some d := fun e => hn (by rw [← M.one j i o' o d hoj ho hd e]; exact hj)
      have := h.w1 j o' d hj hoj hd
      cases hdi : o.dst with
      | none => simp only [RSt.put, hdi]; exact this
      | some d' =>
        have hdd : d ≠ d' := fun e => hne (by rw [hdi, e])
        simp only [RSt.put, hdi, upd_ne _ _ hdd]; exact this
    · rw [ho] at hoj
      cases hoj
      simp only [RSt.put, hd, upd_same]
      exact ⟨trivial, trivial⟩
  · have := h.w2 n (fun j o' hj => hnn j o' (.inl hj))
    have hne := hnn i o (.inr rfl) ho
    cases hdi : o.dst with
    | none => simp only [RSt.put, hdi]; exact this
    | some d' =>
      have hdd : n ≠ d' := fun e => hne (by rw [hdi, e])
      simp only [RSt.put, hdi, upd_ne _ _ hdd]; exact this
  · rcases hj with hj | rfl
    · have hne : j ≠ i := fun e => hn (e ▸ hj)
      show (({ s with H := frzH (I i) s.H } : RSt).put c i o (V i) (O i)).gt j = _
      rw [put_gt hne]
      exact h.g1 j hj
    · exact hgt
  · have hne : j ≠ i := fun e => hj (.inr e)
    show (({ s with H := frzH (I i) s.H } : RSt).put c i o (V i) (O i)).gt j = _
    rw [put_gt hne]
    exact h.g2 j (fun hl => hj (.inl hl))
  · show frzH (Fz I p) (({ s with H := frzH (I i) s.H } : RSt).put c i o (V i) (O i)).H (c + j) = _
    rw [frzH_at]
    rcases hj with hj | rfl
    · have hne : c + j ≠ c + i := fun e => hn (by have e2 : j = i := (by omega); exact e2 ▸ hj)
      have hsame : (({ s with H := frzH (I i) s.H } : RSt).put c i o (V i) (O i)).H (c + j) = frzH (I i) s.H (c + j) := by
        cases hOi : O i with
        | none => simp only [RSt.put]
        | some y => simp only [RSt.put]; exact upd_ne _ _ hne
      rw [hsame, frzH_at, h.h1 j x hj hO]
      simp only [Option.map_some, Option.some.injEq, Ob.mk.injEq, true_and, and_true]
      cases hm : memN (I i) (c + j) with
      | false => cases x.mu <;> cases memN (Fz I p) (c + j) <;> rfl
      | true => rw [hsub _ hm]; cases x.mu <;> rfl
    · have hsame : (({ s with H := frzH (I j) s.H } : RSt).put c j o (V j) (O j)).H (c + j) = some x := by
        simp only [RSt.put, hO]; exact upd_same _ _ _
      rw [hsame]
      rfl
  · show frzH (Fz I p) (({ s with H := frzH (I i) s.H } : RSt).put c i o (V i) (O i)).H id = _
    have hsame : (({ s with H := frzH (I i) s.H } : RSt).put c i o (V i) (O i)).H id = frzH (I i) s.H id := by
      cases hOi : O i with
      | none => simp only [RSt.put]
      | some y => simp only [RSt.put]; exact upd_ne _ _ (hid i y (.inr rfl) hOi)
    rw [frzH_at, hsame, frzH_at, h.h2 id (fun j x hj => hid j x (.inl hj)), frzH_at]
    cases (sv 0).H id with
    | none => rfl
    | some y =>
      simp only [Option.map_some, Option.some.injEq, Ob.mk.injEq, true_and, and_true]
      cases hm : memN (I i) id with
      | false => cases y.mu <;> cases memN (Fz I p) id <;> rfl
      | true => rw [hsub _ hm]; cases y.mu <;> rfl
  · show (({ s with H := frzH (I i) s.H } : RSt).put c i o (V i) (O i)).ht (c + j) = _
    rcases hj with hj | rfl
    · have hne : c + j ≠ c + i := fun e => hn (by have e2 : j = i := (by omega); exact e2 ▸ hj)
      cases hOi : O i with
      | none => simp only [RSt.put]; exact h.t1 j o' x hj hoj hO
      | some y => simp only [RSt.put]; rw [upd_ne _ _ hne]; exact h.t1 j o' x hj hoj hO
    · rw [ho] at hoj
      cases hoj
      simp only [RSt.put, hO]; exact upd_same _ _ _
  · show (({ s with H := frzH (I i) s.H } : RSt).put c i o (V i) (O i)).ht id = _
    cases hOi : O i with
    | none => simp only [RSt.put]; exact h.t2 id (fun j x hj => hid j x (.inl hj))
    | some y => simp only [RSt.put]; rw [upd_ne _ _ (hid i y (.inr rfl) hOi)]; exact h.t2 id (fun j x hj => hid j x (.inl hj))

end
end Go.Am
