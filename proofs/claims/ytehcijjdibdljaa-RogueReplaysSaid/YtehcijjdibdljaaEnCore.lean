/-
  The engine, part 1: abstract values over plain data ('AV'), the relation of an abstract value to a value of the model ('Rel'), and how the relation is carried along.
-/
import Derived.WalkKit
import Derived.WalkSpells
import Derived.WalkLawsBesides
namespace Go.Am
open Go.RowKit

/-- An abstract value. 'own': a pointer to m cells (from cell j of row i on) of an object of the call's own; 'osl': len rows from row i on; 'oel': a pointer to cell base + k of row i, one of the len cells of an array; 'isl', 'ipt': memory that nobody writes; 'nn': a slice that is not nil; 'junk': whatever. -/
inductive AV where
  | int (k : IntKind) (n : Int)
  | bool (b : Bool)
  | str (s : ByteArray)
  | nsl
  | esl
  | raw (v : Value)
  | own (id es i j m : Nat)
  | osl (id es i len : Nat)
  | oel (id es i base len k : Nat)
  | isl (es n : Nat) (f : Nat → Nat → AV)
  | ipt (m : Nat) (g : Nat → AV)
  | agg (cs : List AV)
  | tup (cs : List AV)
  | fn (f : Fn) (first captured : List AV)
  | ifc (t : TypeId) (v : AV)
  | nn (v : AV)
  | junk

/-- No reference to an object of one's own. -/
inductive Cl : AV → Prop where
  | int {k : IntKind} {n : Int} : Cl (.int k n)
  | bool {b : Bool} : Cl (.bool b)
  | str {s : ByteArray} : Cl (.str s)
  | nsl : Cl .nsl
  | esl : Cl .esl
  | raw {v : Value} : Cl (.raw v)
  | isl {es n : Nat} {f : Nat → Nat → AV} (h : ∀ i j, i < n → j < es → Cl (f i j)) : Cl (.isl es n f)
  | ipt {m : Nat} {g : Nat → AV} (h : ∀ j, j < m → Cl (g j)) : Cl (.ipt m g)
  | agg {cs : List AV} (h : ∀ u, u ∈ cs → Cl u) : Cl (.agg cs)
  | tup {cs : List AV} (h : ∀ u, u ∈ cs → Cl u) : Cl (.tup cs)
  | fn {f : Fn} {fs cs : List AV} (h : ∀ u, u ∈ fs → Cl u) (h' : ∀ u, u ∈ cs → Cl u) : Cl (.fn f fs cs)
  | ifc {t : TypeId} {v : AV} (h : Cl v) : Cl (.ifc t v)
  | nn {v : AV} (h : Cl v) : Cl (.nn v)
  | junk : Cl .junk

/-- What is known of an id of an own object: it is dead; it is without a block (no rows); or its block, its number of rows, and whether it may still be written. -/
inductive Own where
  | dead
  | empty
  | lives (b n : Nat) (mu : Bool)

/-- m: what the ids of own objects stand for (none: not given yet); F: further blocks that somebody may write. -/
structure Book where
  m : Nat → Option Own
  F : Nat → Prop

def Book.free (β : Book) (b : Nat) : Prop := ¬ β.F b ∧ ∀ id n, β.m id ≠ some (.lives b n true)
/-- No object of one's own. -/
def Book.none (F : Nat → Prop) : Book := ⟨fun _ => Option.none, F⟩

/-- The value v, in the world w, is what the abstract value says. -/
inductive Rel (β : Book) (w : World) : AV → Value → Prop where
  | int {k : IntKind} {n : Int} : Rel β w (.int k n) (.int k n)
  | bool {b : Bool} : Rel β w (.bool b) (.bool b)
  | str {s : ByteArray} : Rel β w (.str s) (.string s)
  | nsl : Rel β w .nsl (.slice none 0 0)
  | esl {a : Option Addr} : Rel β w .esl (.slice a 0 0)
  | raw {v : Value} (h : ∀ cs, v ≠ .agg cs) : Rel β w (.raw v) v
  | own {id es i j m b n : Nat} {mu : Bool} (h : β.m id = some (.lives b n mu)) (hi : i < n) (hj : j + m ≤ es) : Rel β w (.own id es i j m) (.pointer (some ⟨b, i * es + j, none⟩))
  | ownD {id es i j m : Nat} {p : Option Addr} (h : β.m id = some .dead) : Rel β w (.own id es i j m) (.pointer p)
  | oel {id es i base len k b n : Nat} {mu : Bool} (h : β.m id = some (.lives b n mu)) (hi : i < n) (hk : k < len) (hl : base + len ≤ es) : Rel β w (.oel id es i base len k) (.pointer (some ⟨b, i * es + (base + k), none⟩))
  | oelD {id es i base len k : Nat} {p : Option Addr} (h : β.m id = some .dead) : Rel β w (.oel id es i base len k) (.pointer p)
  | osl {id es i len b n cap sz : Nat} {mu : Bool} {el : TypeId} (h : β.m id = some (.lives b n mu)) (hn : i + len ≤ n) (hc : len ≤ cap) (hs : w.shape? b = some (el, sz)) (hz : (i + cap) * es ≤ sz) :
      Rel β w (.osl id es i len) (.slice (some ⟨b, i * es, none⟩) len cap)
  | osl0 {id es i : Nat} {a : Option Addr} (h : β.m id ≠ none) : Rel β w (.osl id es i 0) (.slice a 0 0)
  | oslD {id es i len n cap : Nat} {a : Option Addr} (h : β.m id = some .dead) : Rel β w (.osl id es i len) (.slice a n cap)
  | isl {es n cap : Nat} {f : Nat → Nat → AV} {b off : Nat} (vals : Nat → Nat → Value) (he : 0 < es) (hcap : n ≤ cap) (hb : β.free b)
      (hc : ∀ i j, i < n → j < es → w.cell? ⟨b, off + i * es + j, none⟩ = some (vals i j)) (ho : ∀ i j, i < n → j < es → (vals i j).oneCell' = true) (hr : ∀ i j, i < n → j < es → Rel β w (f i j) (vals i j)) (hcl : ∀ i j, i < n → j < es → Cl (f i j)) :
      Rel β w (.isl es n f) (.slice (some ⟨b, off, none⟩) n cap)
  | isl0 {es cap : Nat} {f : Nat → Nat → AV} {a : Option Addr} (h : a = none → cap = 0) : Rel β w (.isl es 0 f) (.slice a 0 cap)
  | ipt {m : Nat} {g : Nat → AV} {b off : Nat} (vals : Nat → Value) (hm : 0 < m) (hb : β.free b)
      (hc : ∀ j, j < m → w.cell? ⟨b, off + j, none⟩ = some (vals j)) (ho : ∀ j, j < m → (vals j).oneCell' = true) (hr : ∀ j, j < m → Rel β w (g j) (vals j)) (hcl : ∀ j, j < m → Cl (g j)) :
      Rel β w (.ipt m g) (.pointer (some ⟨b, off, none⟩))
  | agg {cs : List AV} {vs : Array Value} (hl : cs.length = vs.size) (hr : ∀ (j : Nat) u v, cs[j]? = some u → vs[j]? = some v → Rel β w u v) : Rel β w (.agg cs) (.agg vs)
  | tup {cs : List AV} {vs : Array Value} (hl : cs.length = vs.size) (hr : ∀ (j : Nat) u v, cs[j]? = some u → vs[j]? = some v → Rel β w u v) : Rel β w (.tup cs) (.tuple vs)
  | fn {f : Fn} {fs cs : List AV} {vf vs : Array Value} (hl : fs.length = vf.size) (hr : ∀ (j : Nat) u v, fs[j]? = some u → vf[j]? = some v → Rel β w u v)
      (hl' : cs.length = vs.size) (hr' : ∀ (j : Nat) u v, cs[j]? = some u → vs[j]? = some v → Rel β w u v) : Rel β w (.fn f fs cs) (.func f vf vs)
  | ifc {t : TypeId} {u : AV} {v : Value} (h : Rel β w u v) : Rel β w (.ifc t u) (.iface t v)
  | nn {u : AV} {a : Addr} {n c : Nat} (h : Rel β w u (.slice (some a) n c)) : Rel β w (.nn u) (.slice (some a) n c)
  | junk {v : Value} : Rel β w .junk v

/-- A later entry of an id: it may have been frozen or have died. -/
def Own.later : Own → Own → Prop
  | .lives b n mu, .lives b' n' mu' => b' = b ∧ n' = n ∧ (mu' = true → mu = true)
  | _, .dead => True
  | .empty, .empty => True
  | _, _ => False

/-- From (β, w) to (β', w'): what was related stays so. -/
structure Keeps (β : Book) (w : World) (β' : Book) (w' : World) : Prop where
  ids : ∀ id o, β.m id = some o → ∃ o', β'.m id = some o' ∧ o.later o'
  block : ∀ b, b < w.heap.size → β.free b → w'.heap[b]? = w.heap[b]?
  free : ∀ b, b < w.heap.size → β.free b → β'.free b
  shape : ∀ b el sz, w.shape? b = some (el, sz) → w'.shape? b = some (el, sz)

theorem Own.later_refl (o : Own) : o.later o := by cases o <;> simp [Own.later]
theorem Own.later_trans {a b c : Own} (h : a.later b) (k : b.later c) : a.later c := by
  cases a <;> cases b <;> cases c <;> simp_all [Own.later]

theorem Keeps.refl (β : Book) (w : World) : Keeps β w β w := ⟨fun _ o h => ⟨o, h, o.later_refl⟩, fun _ _ _ => rfl, fun _ _ h => h, fun _ _ _ h => h⟩

theorem lt_of_cell? {w : World} {a : Addr} {v : Value} (h : w.cell? a = some v) : a.block < w.heap.size := by
  unfold World.cell? at h
  cases hb : w.heap[a.block]? with
  | none => simp [hb] at h
  | some o => exact (Array.getElem?_eq_some_iff.1 hb).1

theorem Keeps.trans {β β' β'' : Book} {w w' w'' : World} (h : Keeps β w β' w') (k : Keeps β' w' β'' w'') (hs : w.heap.size ≤ w'.heap.size) : Keeps β w β'' w'' := by
  refine ⟨fun id o ho => ?_, fun b hb hf => ?_, fun b hb hf => ?_, fun b el sz hb => k.shape _ _ _ (h.shape _ _ _ hb)⟩
  · obtain ⟨o', h1, h2⟩ := h.ids id o ho
    obtain ⟨o'', h3, h4⟩ := k.ids id o' h1
    exact ⟨o'', h3, Own.later_trans h2 h4⟩
  · rw [k.block b (by omega) (h.free b hb hf), h.block b hb hf]
  · exact k.free b (by omega) (h.free b hb hf)

theorem Keeps.some {β : Book} {w : World} {β' : Book} {w' : World} (k : Keeps β w β' w') {id : Nat} (h : β.m id ≠ none) : β'.m id ≠ none := by
  cases hb : β.m id with
  | none => exact absurd hb h
  | some x => obtain ⟨o', h1, _⟩ := k.ids id x hb; rw [h1]; simp

theorem Rel.keep {β : Book} {w : World} {β' : Book} {w' : World} (k : Keeps β w β' w') {a : AV} {v : Value} (h : Rel β w a v) : Rel β' w' a v := by
  induction h with
  | int => exact .int
  | bool => exact .bool
  | str => exact .str
  | nsl => exact .nsl
  | esl => exact .esl
  | raw h => exact .raw h
  | own h hi hj =>
    obtain ⟨o', h1, h2⟩ := k.ids _ _ h
    cases o' with
    | dead => exact .ownD h1
    | empty => exact h2.elim
    | lives b n mu => obtain ⟨rfl, rfl, _⟩ := h2; exact .own h1 hi hj
  | ownD h =>
    obtain ⟨o', h1, h2⟩ := k.ids _ _ h
    cases o' with
    | dead => exact .ownD h1
    | empty => exact h2.elim
    | lives b n mu => exact h2.elim
  | oel h hi hk hl =>
    obtain ⟨o', h1, h2⟩ := k.ids _ _ h
    cases o' with
    | dead => exact .oelD h1
    | empty => exact h2.elim
    | lives b n mu => obtain ⟨rfl, rfl, _⟩ := h2; exact .oel h1 hi hk hl
  | oelD h =>
    obtain ⟨o', h1, h2⟩ := k.ids _ _ h
    cases o' with
    | dead => exact .oelD h1
    | empty => exact h2.elim
    | lives b n mu => exact h2.elim
  | osl h hn hc hs hz =>
    obtain ⟨o', h1, h2⟩ := k.ids _ _ h
    cases o' with
    | dead => exact .oslD h1
    | empty => exact h2.elim
    | lives b n mu => obtain ⟨rfl, rfl, _⟩ := h2; exact .osl h1 hn hc (k.shape _ _ _ hs) hz
  | osl0 h => exact .osl0 (k.some h)
  | oslD h =>
    obtain ⟨o', h1, h2⟩ := k.ids _ _ h
    cases o' with
    | dead => exact .oslD h1
    | empty => exact h2.elim
    | lives b n mu => exact h2.elim
  | @isl es n cap f b off vals he hcap hb hc ho hr hcl ih =>
    by_cases hz : n = 0
    · subst hz; exact .isl0 (fun h => by cases h)
    · have hlt := lt_of_cell? (hc 0 0 (by omega) he)
      refine .isl vals he hcap (k.free _ hlt hb) (fun i j hi hj => ?_) ho ih hcl
      rw [← hc i j hi hj]
      exact World.cell?_of_block (k.block _ hlt hb)
  | isl0 h => exact .isl0 h
  | @ipt m g b off vals hm hb hc ho hr hcl ih =>
    have hlt := lt_of_cell? (hc 0 hm)
    refine .ipt vals hm (k.free _ hlt hb) (fun j hj => ?_) ho ih hcl
    rw [← hc j hj]
    exact World.cell?_of_block (k.block _ hlt hb)
  | agg hl _ ih => exact .agg hl ih
  | tup hl _ ih => exact .tup hl ih
  | fn hl _ hl' _ ih ih' => exact .fn hl ih hl' ih'
  | ifc _ ih => exact .ifc ih
  | nn _ ih => exact .nn ih
  | junk => exact .junk

/-- What has no book's ids in it is closed. -/
theorem Rel.closed {F : Nat → Prop} {w : World} {a : AV} {v : Value} (h : Rel (Book.none F) w a v) : Cl a := by
  induction h with
  | int => exact .int
  | bool => exact .bool
  | str => exact .str
  | nsl => exact .nsl
  | esl => exact .esl
  | raw => exact .raw
  | own h => simp [Book.none] at h
  | ownD h => simp [Book.none] at h
  | oel h => simp [Book.none] at h
  | oelD h => simp [Book.none] at h
  | osl h => simp [Book.none] at h
  | osl0 h => simp [Book.none] at h
  | oslD h => simp [Book.none] at h
  | isl vals he hcap hb hc ho hr hcl ih => exact .isl hcl
  | isl0 => exact .isl (fun i j hi => absurd hi (by omega))
  | ipt vals hm hb hc ho hr hcl ih => exact .ipt hcl
  | agg hl hr ih =>
    refine .agg fun u hu => ?_
    obtain ⟨j, hj, rfl⟩ := List.getElem_of_mem hu
    exact ih j _ _ (by simp [hj]) (Array.getElem?_eq_getElem (by omega))
  | tup hl hr ih =>
    refine .tup fun u hu => ?_
    obtain ⟨j, hj, rfl⟩ := List.getElem_of_mem hu
    exact ih j _ _ (by simp [hj]) (Array.getElem?_eq_getElem (by omega))
  | fn hl hr hl' hr' ih ih' =>
    refine .fn (fun u hu => ?_) (fun u hu => ?_)
    · obtain ⟨j, hj, rfl⟩ := List.getElem_of_mem hu
      exact ih j _ _ (by simp [hj]) (Array.getElem?_eq_getElem (by omega))
    · obtain ⟨j, hj, rfl⟩ := List.getElem_of_mem hu
      exact ih' j _ _ (by simp [hj]) (Array.getElem?_eq_getElem (by omega))
  | ifc _ ih => exact .ifc ih
  | nn _ ih => exact .nn ih
  | junk => exact .junk

/-- A closed value is related under every book under which the blocks that it may read are free. -/
theorem Rel.rebook {β β' : Book} {w : World} {a : AV} {v : Value} (hf : ∀ b, β.free b → β'.free b) (h : Rel β w a v) (hc : Cl a) : Rel β' w a v := by
  induction h with
  | int => exact .int
  | bool => exact .bool
  | str => exact .str
  | nsl => exact .nsl
  | esl => exact .esl
  | raw h => exact .raw h
  | own => cases hc
  | ownD => cases hc
  | oel => cases hc
  | oelD => cases hc
  | osl => cases hc
  | osl0 => cases hc
  | oslD => cases hc
  | isl vals he hcap hb hcc ho hr hcl ih => exact .isl vals he hcap (hf _ hb) hcc ho (fun i j hi hj => ih i j hi hj (hcl i j hi hj)) hcl
  | isl0 h => exact .isl0 h
  | ipt vals hm hb hcc ho hr hcl ih => exact .ipt vals hm (hf _ hb) hcc ho (fun j hj => ih j hj (hcl j hj)) hcl
  | agg hl hr ih => cases hc with | agg h => exact .agg hl (fun j u v hu hv => ih j u v hu hv (h u (List.mem_of_getElem? hu)))
  | tup hl hr ih => cases hc with | tup h => exact .tup hl (fun j u v hu hv => ih j u v hu hv (h u (List.mem_of_getElem? hu)))
  | fn hl hr hl' hr' ih ih' => cases hc with | fn h h' => exact .fn hl (fun j u v hu hv => ih j u v hu hv (h u (List.mem_of_getElem? hu))) hl' (fun j u v hu hv => ih' j u v hu hv (h' u (List.mem_of_getElem? hu)))
  | ifc _ ih => cases hc with | ifc h => exact .ifc (ih h)
  | nn _ ih => cases hc with | nn h => exact .nn (ih h)
  | junk => exact .junk

end Go.Am
