/-
  The engine, part 5: one operation inside a region, as the model runs it.
-/
import Derived.Test.YtehcijjdibdljaaAmRegion
namespace Go.Am
open Go.RowKit

section
variable {K : Ctx} {ops : Array Oper} {c : Nat} {E : Nat → Prop} {β : Book} {s : RSt} {a : Act} {w : World} {i : Nat} {o : Oper}

theorem HSim.less {n : Nat} {hg hg' : Nat → Bool} {H : Heap} (h : HSim K c n E hg β H w) (hh : ∀ id, H id ≠ none → hg' id = hg id) : HSim K c n (less E i) hg' β H w :=
  ⟨fun id o ho hgi => h.heap id o ho (by rw [← hh id (by simp [ho])]; exact hgi), fun id o ho hgi => h.hdead id o ho (by rw [← hh id (by simp [ho])]; exact hgi),
   h.inj, h.fresh, fun j hj => h.freshE j hj.1, h.live, h.bF, h.hF, h.below, h.hB, h.glob⟩

/-- What a step of the region's walk must be given beforehand. -/
structure Pre (K : Ctx) (ops : Array Oper) (s : RSt) (i : Nat) (o : Oper) : Prop where
  at_ : ops[i]? = some o
  guard : ∀ j b, o.guard = some (j, b) → s.gt j ≠ none
  dst : ∀ d, o.dst = some d → d < K.nt
  one : ∀ j oj d, ops[j]? = some oj → oj.dst = some d → o.dst = some d → j = i

theorem put_hg (hs : RSim K ops c E β s a w) (hE : E i) (v : AV) (ob : Option Ob) (id : Nat) (hid : id ≠ c + i ∨ ob = none) :
    (s.put c i o v ob).G ((s.put c i o v ob).ht id) = s.G (s.ht id) := by
  have e : (s.put c i o v ob).ht id = s.ht id := by
    cases ob with
    | none => rfl
    | some x =>
      rcases hid with h | h
      · simp only [RSt.put]; exact upd_ne _ _ h
      · cases h
  rw [e]
  exact put_G (hs.f.todo i hE) o v ob _ (fun j b h => hs.f.htok id j b h)

/-- An operation that yields a value and leaves the world alone. -/
theorem RSim.value {u : Value} {v : AV} (hs : RSim K ops c E β s a w) (hp : Pre K ops s i o) (hE : E i) (hv : s.G o.guard = true → Rel β w v u) (hu : s.G o.guard = false → u = undef) :
    RSim K ops c (less E i) β (s.put c i o v none) (a.put o.dst u) w :=
  ⟨hs.h.less (fun id _ => put_hg hs hE v none id (.inr rfl)), hs.f.step hp.at_ hE hp.guard hp.dst hp.one (Keeps.refl β w) hv hu⟩

/-- An operation whose guard says no. -/
theorem RSim.skip {v : AV} {ob : Option Ob} (hs : RSim K ops c E β s a w) (hp : Pre K ops s i o) (hE : E i) (hg : s.G o.guard = false) :
    RSim K ops c (less E i) β (s.put c i o v ob) (a.put o.dst undef) w := by
  refine ⟨?_, hs.f.step hp.at_ hE hp.guard hp.dst hp.one (Keeps.refl β w) (fun h => by rw [hg] at h; cases h) (fun _ => rfl)⟩
  cases ob with
  | none => exact hs.h.less (fun id _ => put_hg hs hE v none id (.inr rfl))
  | some x =>
    have hnew : (s.put c i o v (some x)).G ((s.put c i o v (some x)).ht (c + i)) = false := by
      have e : (s.put c i o v (some x)).ht (c + i) = o.guard := by simp only [RSt.put]; exact upd_same _ _ _
      rw [e, put_G (hs.f.todo i hE) o v (some x) _ hp.guard, hg]
    have hold : ∀ id, id ≠ c + i → (s.put c i o v (some x)).H id = s.H id := fun id h => by simp only [RSt.put]; exact upd_ne _ _ h
    refine ⟨fun id o' ho hgi => ?_, fun id o' ho hgi => ?_, hs.h.inj, hs.h.fresh, fun j hj => hs.h.freshE j hj.1, hs.h.live, hs.h.bF, hs.h.hF, hs.h.below, hs.h.hB, hs.h.glob⟩
    · by_cases e : id = c + i
      · subst e; rw [hnew] at hgi; cases hgi
      · rw [hold id e] at ho
        rw [put_hg hs hE v (some x) id (.inl e)] at hgi
        exact hs.h.heap id o' ho hgi
    · by_cases e : id = c + i
      · subst e; exact hs.h.freshE i hE
      · rw [hold id e] at ho
        rw [put_hg hs hE v (some x) id (.inl e)] at hgi
        exact hs.h.hdead id o' ho hgi

theorem HRel.keep {β' : Book} {w' : World} {o : Ob} {b : Nat} (k : Keeps β w β' w') (hb : w'.heap[b]? = w.heap[b]?) (h : HRel β w o b) : HRel β' w' o b := by
  obtain ⟨cs, el, h1, h2, h3⟩ := h
  exact ⟨cs, el, by rw [hb]; exact h1, h2, fun i j hi hj => let ⟨v, hv, hr⟩ := h3 i j hi hj; ⟨v, hv, hr.keep k⟩⟩

theorem heap_alloc_lt {w : World} {x : Obj} {b : Nat} (h : b < w.heap.size) : (w.alloc x).heap[b]? = w.heap[b]? := Below.heap_alloc w x b h
theorem heap_alloc_new' (w : World) (x : Obj) : (w.alloc x).heap[w.heap.size]? = some x := by
  show (w.heap.push x)[w.heap.size]? = some x
  simp

theorem shape_of_block {w w' : World} {b : Nat} (h : w'.heap[b]? = w.heap[b]?) : w'.shape? b = w.shape? b := by unfold World.shape?; rw [h]

theorem lt_of_shape {w : World} {b : Nat} {p : TypeId × Nat} (h : w.shape? b = some p) : b < w.heap.size := by
  unfold World.shape? at h
  cases hb : w.heap[b]? with
  | none => simp [hb] at h
  | some o => exact (Array.getElem?_eq_some_iff.1 hb).1

/-- A new object. -/
theorem RSim.made {u : Value} {v : AV} {x : Ob} {cs : Array Value} {el : TypeId} (hs : RSim K ops c E β s a w) (hi : i < ops.size) (hp : Pre K ops s i o) (hE : E i) (hmu : x.mu = true) (hg : s.G o.guard = true)
    (hsz : x.n * x.es ≤ cs.size) (hcells : ∀ i j, i < x.n → j < x.es → ∃ u, cs[i * x.es + j]? = some u ∧ Rel β w (x.f i j) u)
    (hv : ∀ β' : Book, β'.m (c + i) = some (.lives w.heap.size x.n true) → Rel β' (w.alloc (.cells cs el)) v u) :
    ∃ β', RSim K ops c (less E i) β' (s.put c i o v (some x)) (a.put o.dst u) (w.alloc (.cells cs el)) := by
  have hfr := hs.h.freshE i hE
  let β' : Book := ⟨fun id => if id = c + i then some (.lives w.heap.size x.n true) else β.m id, β.F⟩
  have hm0 : β'.m (c + i) = some (.lives w.heap.size x.n true) := by simp [β']
  have hm1 : ∀ id, id ≠ c + i → β'.m id = β.m id := fun id h => by simp [β', h]
  have hk : Keeps β w β' (w.alloc (.cells cs el)) := by
    refine ⟨fun id o ho => ⟨o, ?_, o.later_refl⟩, fun b hb _ => heap_alloc_lt hb, fun b hb hf => ⟨hf.1, fun id n => ?_⟩, fun b e z hbs => ?_⟩
    · rw [hm1 id (fun e => by subst e; rw [hfr] at ho; cases ho)]; exact ho
    · by_cases e : id = c + i
      · subst e; rw [hm0]; intro h; cases h; omega
      · rw [hm1 id e]; exact hf.2 id n
    · rw [shape_of_block (heap_alloc_lt (lt_of_shape hbs))]; exact hbs
  refine ⟨β', ⟨?_, hs.f.step hp.at_ hE hp.guard hp.dst hp.one hk (fun _ => hv β' hm0) (fun h => by rw [hg] at h; cases h)⟩⟩
  have hold : ∀ id, id ≠ c + i → (s.put c i o v (some x)).H id = s.H id := fun id h => by simp only [RSt.put]; exact upd_ne _ _ h
  have hnew : (s.put c i o v (some x)).G ((s.put c i o v (some x)).ht (c + i)) = true := by
    have e : (s.put c i o v (some x)).ht (c + i) = o.guard := by simp only [RSt.put]; exact upd_same _ _ _
    rw [e, put_G (hs.f.todo i hE) o v (some x) _ hp.guard, hg]
  refine ⟨fun id o' ho hgi => ?_, fun id o' ho hgi => ?_, fun p q b n n' mu mu' h1 h2 => ?_, fun id hid => ?_, fun j hj => ?_, fun id b n mu h => ?_, hs.h.bF, hs.h.hF, hs.h.below.alloc hs.h.hB _, ?_, fun g m h hgl => (hs.h.glob g m h hgl).keep hk⟩
  · by_cases e : id = c + i
    · subst e
      have : (s.put c i o v (some x)).H (c + i) = some x := by simp only [RSt.put]; exact upd_same _ _ _
      rw [this] at ho
      cases ho
      refine ⟨w.heap.size, by rw [hm0, hmu], cs, el, heap_alloc_new' w _, hsz, fun p q hp' hq => ?_⟩
      obtain ⟨y, hy, hr⟩ := hcells p q hp' hq
      exact ⟨y, hy, hr.keep hk⟩
    · rw [hold id e] at ho
      rw [put_hg hs hE v (some x) id (.inl e)] at hgi
      obtain ⟨b, hb, hr⟩ := hs.h.heap id o' ho hgi
      exact ⟨b, by rw [hm1 id e]; exact hb, hr.keep hk (heap_alloc_lt (hs.h.live id b _ _ hb).2)⟩
  · by_cases e : id = c + i
    · subst e; rw [hnew] at hgi; cases hgi
    · rw [hold id e] at ho
      rw [put_hg hs hE v (some x) id (.inl e)] at hgi
      rw [hm1 id e]
      exact hs.h.hdead id o' ho hgi
  · by_cases e1 : p = c + i <;> by_cases e2 : q = c + i
    · rw [e1, e2]
    · subst e1; rw [hm0] at h1; rw [hm1 q e2] at h2; cases h1; have := (hs.h.live q _ _ _ h2).2; omega
    · subst e2; rw [hm0] at h2; rw [hm1 p e1] at h1; cases h2; have := (hs.h.live p _ _ _ h1).2; omega
    · rw [hm1 p e1] at h1; rw [hm1 q e2] at h2; exact hs.h.inj p q b n n' mu mu' h1 h2
  · rw [hm1 id (by omega)]; exact hs.h.fresh id hid
  · rw [hm1 _ (by have := hj.2; omega)]; exact hs.h.freshE j hj.1
  · by_cases e : id = c + i
    · subst e; rw [hm0] at h; cases h; exact ⟨hs.h.hB, by simp⟩
    · rw [hm1 id e] at h
      have := hs.h.live id b n mu h
      exact ⟨this.1, by simp; omega⟩
  · have := hs.h.hB; simp; omega

end
end Go.Am
