/-
  The engine, part 11: calls that are given objects to write.
-/
import Derived.Test.YtehcijjdibdljaaEnAppend2
namespace Go.Am
open Go.RowKit

def posIn : List Nat → Nat → Nat → Option Nat
  | [], _, _ => none
  | g :: l, k, id => bif Nat.beq g id then some k else posIn l (k + 1) id

theorem posIn_some {l : List Nat} {k id p : Nat} (h : posIn l k id = some p) : k ≤ p ∧ l[p - k]? = some id := by
  induction l generalizing k with
  | nil => cases h
  | cons g l ih =>
    simp only [posIn] at h
    cases hb : Nat.beq g id with
    | true =>
      simp only [hb, cond_true, Option.some.injEq] at h
      subst h
      have := Nat.eq_of_beq_eq_true hb
      subst this
      simp
    | false =>
      simp only [hb, cond_false] at h
      obtain ⟨h1, h2⟩ := ih h
      refine ⟨by omega, ?_⟩
      have e : p - k = (p - (k + 1)) + 1 := by omega
      rw [e]
      exact h2

theorem posIn_none {l : List Nat} {k id : Nat} (h : posIn l k id = none) : id ∉ l := by
  induction l generalizing k with
  | nil => simp
  | cons g l ih =>
    simp only [posIn] at h
    cases hb : Nat.beq g id with
    | true => simp [hb] at h
    | false =>
      simp only [hb, cond_false] at h
      intro hm
      rcases List.mem_cons.1 hm with e | e
      · subst e; simp at hb
      · exact ih h e

/-- No id twice. -/
def nodupB : List Nat → Bool
  | [] => true
  | g :: l => !memN l g && nodupB l

theorem nodupB_spec {l : List Nat} (h : nodupB l = true) : ∀ (p q : Nat) x, l[p]? = some x → l[q]? = some x → p = q := by
  induction l with
  | nil => intro p q x hp; simp at hp
  | cons g l ih =>
    rw [nodupB, Bool.and_eq_true] at h
    have h1 := not_true h.1
    have hn : g ∉ l := fun hm => by rw [memN_iff.2 hm] at h1; cases h1
    intro p q x hp hq
    cases p with
    | zero =>
      cases q with
      | zero => rfl
      | succ q =>
        simp at hp hq
        subst hp
        exact absurd (List.mem_of_getElem? hq) hn
    | succ p =>
      cases q with
      | zero =>
        simp at hp hq
        subst hq
        exact absurd (List.mem_of_getElem? hp) hn
      | succ q =>
        simp at hp hq
        rw [ih h.2 p q x hp hq]

/-- The objects but the given ones. -/
def restH (gids : List Nat) (H : Heap) : Heap := fun id => bif memN gids id then none else H id
/-- The given objects, as the callee sees them. -/
def givenObs (gids : List Nat) (H : Heap) : List Ob := gids.map fun id => match H id with
  | some o => mapO (posIn gids 0) (restH gids H) o
  | none => ⟨0, 0, true, .lst []⟩
/-- The caller's names of the callee's ids. -/
def backId (gids : List Nat) (nid k : Nat) : Nat := match gids[k]? with
  | some id => id
  | none => nid + (k - gids.length)
def backIds (gids : List Nat) (nid : Nat) : Nat → Option Nat := fun k => bif Nat.blt k (gids.length + 8) then some (backId gids nid k) else none
def noH : Heap := fun _ => none
/-- What has become of the given objects, and the new ones. -/
def givenDs (gids : List Nat) (nid : Nat) (obs' : List (Option Ob)) : List (Nat × Option Ob) :=
  (List.range obs'.length).map fun k => (backId gids nid k, (obs'.getD k none).map (mapO (backIds gids nid) noH))

theorem look_range {α : Type} (id : Nat → Nat) (x : Nat → α) (n : Nat) : ∀ j, (look ((List.range n).map fun k => (id k, x k)) j = none ∧ ∀ k, k < n → id k ≠ j) ∨ (∃ k, k < n ∧ id k = j ∧ look ((List.range n).map fun k => (id k, x k)) j = some (x k)) := by
  have key : ∀ (l : List Nat) j, (look (l.map fun k => (id k, x k)) j = none ∧ ∀ k, k ∈ l → id k ≠ j) ∨ (∃ k, k ∈ l ∧ id k = j ∧ look (l.map fun k => (id k, x k)) j = some (x k)) := by
    intro l j
    induction l with
    | nil => exact .inl ⟨rfl, fun k h => by cases h⟩
    | cons y l ih =>
      rw [List.map_cons, look_cons]
      by_cases e : id y = j
      · exact .inr ⟨y, List.mem_cons_self .., e, by rw [if_pos e]⟩
      · rw [if_neg e]
        rcases ih with ⟨h1, h2⟩ | ⟨k, h1, h2, h3⟩
        · exact .inl ⟨h1, fun k hk => by rcases List.mem_cons.1 hk with h | h; (· subst h; exact e); (· exact h2 k h)⟩
        · exact .inr ⟨k, List.mem_cons_of_mem _ h1, h2, h3⟩
  intro j
  rcases key (List.range n) j with ⟨h1, h2⟩ | ⟨k, h1, h2, h3⟩
  · exact .inl ⟨h1, fun k hk => h2 k (List.mem_range.2 hk)⟩
  · exact .inr ⟨k, List.mem_range.1 h1, h2, h3⟩

section
variable {K : Ctx} {ops : Array Oper} {c : Nat} {E : Nat → Prop} {β : Book} {s : RSt} {a : Act} {w : World} {i : Nat} {o : Oper}

theorem RSim.given {f : Foot} {fn : FuncId} {as : List AV} {vs : Array Value} {gids zids : List Nat} {r : AV} {obs' : List (Option Ob)} {Q : World → Value → Prop} (hs : RSim K ops c E β s a w) (hp : Pre K ops s i o) (hE : E i) (hg : o.guard = none)
    (hrel : Rels β w as vs) (hnd : nodupB gids = true) (hgm : ∀ id, id ∈ gids → memN f.rd id = true ∧ (s.H id).map Ob.mu = some true ∧ s.ht id = none)
    (hz : ∀ id, vH f s.H id ≠ none → memN gids id = false → memN zids id = true) (hl : gids.length ≤ obs'.length ∧ obs'.length ≤ gids.length + 8)
    (hG : Gives K.P K.gl fn (givenObs gids (vH f s.H)) (as.map (mapA (posIn gids 0) 9 (restH gids (vH f s.H)))) r obs')
    (hQ : ∀ u w' β', RSim K ops c (less E i) β' (s.app i o ⟨mapA (backIds gids (c + 8 * i)) 9 noH r, true, [], givenDs gids (c + 8 * i) obs', zids⟩) (a.put o.dst u) w' → Q w' u) :
    Calls K.P fn vs w fun e w' => ∃ u, e = .returned u ∧ Q w' u := by
  have hH := hs.ok f
  have hgt : s.G o.guard = true := by rw [hg]; rfl
  -- the given objects
  have hgiv : ∀ id, id ∈ gids → ∃ ob, vH f s.H id = some ob ∧ Holds β w ob id ∧ ob.mu = true := by
    intro id hid
    obtain ⟨h1, h2, h3⟩ := hgm id hid
    cases ho : s.H id with
    | none => simp [ho] at h2
    | some ob =>
      simp only [ho, Option.map_some, Option.some.injEq] at h2
      have e : ob.seen = ob := by cases ob; simp only [Ob.seen] at *; rw [h2]
      exact ⟨ob, by simp [vH, h1, ho, e], hs.h.heap id ob ho (by rw [h3]; rfl), h2⟩
  have hgl : ∀ id, id ∈ gids → β.m id ≠ none ∧ ∀ b n mu, β.m id = some (.lives b n mu) → mu = true := by
    intro id hid
    obtain ⟨ob, _, h1, h2⟩ := hgiv id hid
    rcases h1 with ⟨b, g1, _⟩ | ⟨g1, _⟩
    · refine ⟨by rw [g1]; simp, fun b' n' mu' h => ?_⟩
      rw [g1, h2] at h
      cases h; rfl
    · exact ⟨by rw [g1]; simp, fun b' n' mu' h => by rw [g1] at h; cases h⟩
  have hnew : ∀ q, q < 8 → β.m (c + 8 * i + q) = none := fun q hq => hs.h.freshE i q hE hq
  have hnd' := nodupB_spec hnd
  -- the callee's book
  let βz := frzB zids β
  let bm : Nat → Option Own := fun k => match gids[k]? with | some id => β.m id | none => none
  let F' : Nat → Prop := fun b => ¬ βz.free b ∧ ¬ ∃ k n mu, bm k = some (.lives b n mu)
  let βc : Book := ⟨bm, F'⟩
  have bm_some : ∀ {k o}, bm k = some o → ∃ id, gids[k]? = some id ∧ β.m id = some o := by
    intro k o h
    show ∃ id, gids[k]? = some id ∧ β.m id = some o
    cases hk : gids[k]? with
    | none => simp only [bm, hk] at h; cases h
    | some id => simp only [bm, hk] at h; exact ⟨id, rfl, h⟩
  have bm_at : ∀ {k id}, gids[k]? = some id → bm k = β.m id := fun {k id} h => by simp only [bm, h]
  have zfree : ∀ b, β.free b → βz.free b := by
    intro b hf
    refine ⟨hf.1, fun id n h => ?_⟩
    obtain ⟨mu', h1, h2⟩ := frzB_inv h
    have : mu' = true := by cases mu' with | true => rfl | false => simp at h2
    subst this
    exact hf.2 id n h1
  have ownF : ∀ id b n mu, β.m id = some (.lives b n mu) → ¬ β.F b := by
    intro id b n mu hm hF
    rw [hs.h.bF] at hF
    obtain ⟨h1, h2⟩ := hs.h.hF b hF
    rcases (hs.h.live id b n mu hm).1 with h | h
    · omega
    · exact h2 h
  have h1 : ∀ id k, posIn gids 0 id = some k → βc.m k = β.m id := fun id k h => by
    obtain ⟨_, h2⟩ := posIn_some h
    exact bm_at (by simpa using h2)
  have h2 : ∀ b, β.free b → βc.free b := by
    intro b hf
    refine ⟨fun hF => hF.1 (zfree b hf), fun k n h => ?_⟩
    obtain ⟨id, _, hm⟩ := bm_some h
    exact hf.2 id n hm
  have h3 : ∀ id ob b n mu, restH gids (vH f s.H) id = some ob → β.m id = some (.lives b n mu) → βc.free b := by
    intro id ob b n mu ho hm
    unfold restH at ho
    cases hmem : memN gids id with
    | true => simp [hmem] at ho
    | false =>
      simp only [hmem, cond_false] at ho
      have hzi := hz id (by rw [ho]; simp) hmem
      have hngid : id ∉ gids := fun h => by rw [memN_iff.2 h] at hmem; cases hmem
      have hzf : βz.free b := by
        refine ⟨ownF id b n mu hm, fun id' n' h' => ?_⟩
        obtain ⟨mu', g1, g2⟩ := frzB_inv h'
        have := hs.h.inj id' id b n' n mu' mu g1 hm
        subst this
        rw [hzi] at g2
        simp at g2
      refine ⟨fun hF => hF.1 hzf, fun k n' h => ?_⟩
      obtain ⟨id', hk, hm'⟩ := bm_some h
      have := hs.h.inj id' id b n' n _ mu hm' hm
      subst this
      exact hngid (List.mem_of_getElem? hk)
  have hHr : HeapOk β w (restH gids (vH f s.H)) := by
    intro id ob hid hne
    unfold restH at hid
    cases hmem : memN gids id with
    | true => simp [hmem] at hid
    | false => simp only [hmem, cond_false] at hid; exact hH id ob hid hne
  have hGiven : Given βc w (givenObs gids (vH f s.H)) := by
    refine ⟨fun k ob hk => ?_, fun k hk => ?_, fun p q b n n' mu mu' e1 e2 => ?_, fun k b n mu h => ?_⟩
    · unfold givenObs at hk
      rw [List.getElem?_map] at hk
      cases hgk : gids[k]? with
      | none => simp [hgk] at hk
      | some id =>
        simp only [hgk, Option.map_some, Option.some.injEq] at hk
        obtain ⟨o1, e1, e2, _⟩ := hgiv id (List.mem_of_getElem? hgk)
        rw [e1] at hk
        subst hk
        exact mapO_holds hHr (fun id k h _ => h1 id k h) h2 h3 (bm_at hgk) e2
    · have : gids[k]? = none := List.getElem?_eq_none (by simpa [givenObs] using hk)
      show bm k = none
      simp only [bm, this]
    · obtain ⟨x, g1, g2⟩ := bm_some e1
      obtain ⟨y, g3, g4⟩ := bm_some e2
      have := hs.h.inj x y b n n' mu mu' g2 g4
      subst this
      exact hnd' p q x g1 g3
    · obtain ⟨id, g1, g2⟩ := bm_some h
      exact ⟨(hs.h.live id b n mu g2).2, fun hF => hF.2 ⟨k, n, mu, h⟩⟩
  have hF'lt : ∀ b, βc.F b → b < w.heap.size := by
    intro b hb
    apply Classical.byContradiction
    intro hge
    apply hb.1
    refine ⟨fun hF => ?_, fun id n h => ?_⟩
    · have hF' : β.F b := hF
      rw [hs.h.bF] at hF'
      have := (hs.h.hF b hF').1
      have := hs.h.hB
      omega
    · obtain ⟨mu', g1, _⟩ := frzB_inv h
      have := (hs.h.live id b n _ g1).2
      omega
  have hglob : GlobB K.gl βc w := fun g m h hgl' => (hs.h.glob g m h hgl').rebook h2 (by
    obtain ⟨_, _, _, _, _, _, _, _, hcl, _⟩ := rel_ipt_inv (hs.h.glob g m h hgl')
    exact .ipt hcl)
  have hargs : Rels βc w (as.map (mapA (posIn gids 0) 9 (restH gids (vH f s.H)))) vs := by
    obtain ⟨e1, e2⟩ := rels_map hrel.len hrel.rel (fun u v hr => mapA_rel hHr (fun id k h _ => h1 id k h) h2 h3 9 u v hr)
    exact ⟨e1, e2⟩
  refine (hG.2 βc w vs hF'lt hGiven hglob hargs).mono fun e w' hh => ?_
  obtain ⟨u, β', he, hkept, hA, hr⟩ := hh
  refine ⟨u, he, ?_⟩
  -- the caller's book behind the call
  let σ := backId gids (c + 8 * i)
  have σ_lt : ∀ {k id}, gids[k]? = some id → σ k = id := fun {k id} h => by simp only [σ, backId, h]
  have σ_ge : ∀ {k}, gids.length ≤ k → σ k = c + 8 * i + (k - gids.length) := fun {k} h => by simp only [σ, backId, List.getElem?_eq_none h]
  have σ_cases : ∀ k, (∃ id, gids[k]? = some id ∧ σ k = id) ∨ (gids.length ≤ k ∧ σ k = c + 8 * i + (k - gids.length)) := by
    intro k
    cases hk : gids[k]? with
    | some id => exact .inl ⟨id, rfl, σ_lt hk⟩
    | none => exact .inr ⟨List.getElem?_eq_none_iff.1 hk, σ_ge (List.getElem?_eq_none_iff.1 hk)⟩
  have σ_inj : ∀ p q, p < gids.length + 8 → q < gids.length + 8 → σ p = σ q → p = q := by
    intro p q hp' hq' e
    rcases σ_cases p with ⟨x, hx, ex⟩ | ⟨hx, ex⟩ <;> rcases σ_cases q with ⟨y, hy, ey⟩ | ⟨hy, ey⟩
    · rw [ex, ey] at e; subst e; exact hnd' p q x hx hy
    · rw [ex, ey] at e
      exact absurd (hnew (q - gids.length) (by omega)) (by rw [← e]; exact (hgl x (List.mem_of_getElem? hx)).1)
    · rw [ex, ey] at e
      exact absurd (hnew (p - gids.length) (by omega)) (by rw [e]; exact (hgl y (List.mem_of_getElem? hy)).1)
    · omega
  let β3 : Book := ⟨fun id => if h : ∃ k, k < gids.length + 8 ∧ σ k = id then β'.m h.choose else βz.m id, β.F⟩
  have m3 : ∀ k, k < gids.length + 8 → β3.m (σ k) = β'.m k := by
    intro k hk
    have hex : ∃ q, q < gids.length + 8 ∧ σ q = σ k := ⟨k, hk, rfl⟩
    show (if h : ∃ q, q < gids.length + 8 ∧ σ q = σ k then β'.m h.choose else βz.m (σ k)) = β'.m k
    rw [dif_pos hex]
    have := hex.choose_spec
    rw [σ_inj _ k this.1 hk this.2]
  have m3' : ∀ id, (¬ ∃ k, k < gids.length + 8 ∧ σ k = id) → β3.m id = βz.m id := fun id h => by
    show (if h : ∃ q, q < gids.length + 8 ∧ σ q = id then β'.m h.choose else βz.m id) = βz.m id
    rw [dif_neg h]
  have split3 : ∀ id, (∃ k, k < gids.length + 8 ∧ id = σ k ∧ β3.m id = β'.m k) ∨ ((∀ k, k < gids.length + 8 → σ k ≠ id) ∧ β3.m id = βz.m id) := by
    intro id
    by_cases h : ∃ k, k < gids.length + 8 ∧ σ k = id
    · obtain ⟨k, hk, e⟩ := h
      exact .inl ⟨k, hk, e.symm, by rw [← e]; exact m3 k hk⟩
    · exact .inr ⟨fun k hk e => h ⟨k, hk, e⟩, m3' id h⟩
  have notGid : ∀ id, (∀ k, k < gids.length + 8 → σ k ≠ id) → id ∉ gids := by
    intro id h hm
    obtain ⟨k, hk, e⟩ := List.getElem_of_mem hm
    exact h k (by omega) (σ_lt (by rw [← e]; simp [hk]))
  have blk : ∀ b, BlkOf βc b → ∃ id n, id ∈ gids ∧ β.m id = some (.lives b n true) := by
    rintro b ⟨k, n, mu, hm⟩
    obtain ⟨id, g1, g2⟩ := bm_some hm
    have hid := List.mem_of_getElem? g1
    have := (hgl id hid).2 b n mu g2
    subst this
    exact ⟨id, n, hid, g2⟩
  have hk : Keeps β w β3 w' := by
    refine ⟨fun id o' ho => ?_, fun b hlt hf => hkept.block b hlt (fun hb => ?_), fun b hlt hf => ⟨hf.1, fun id n h => ?_⟩, fun b e z hbs => ?_⟩
    · rcases split3 id with ⟨k, hk8, e, em⟩ | ⟨hno, em⟩
      · rcases σ_cases k with ⟨x, hx, ex⟩ | ⟨hx, ex⟩
        · have : id = x := by rw [e, ex]
          subst this
          obtain ⟨o2, g1, g2⟩ := hA.later k o' (by show bm k = some o'; rw [bm_at hx]; exact ho)
          exact ⟨o2, by rw [em]; exact g1, g2⟩
        · rw [e, ex, hnew _ (by omega)] at ho; cases ho
      · rw [em]
        exact (frzB_keeps (w := w) zids).ids id o' ho
    · obtain ⟨id, n, _, hm⟩ := blk b hb
      exact hf.2 id n hm
    · rcases split3 id with ⟨k, hk8, e, em⟩ | ⟨hno, em⟩
      · rw [em] at h
        obtain ⟨_, g | g⟩ := hA.live k b n true h
        · omega
        · obtain ⟨id', n', _, hm⟩ := blk b g
          exact hf.2 id' n' hm
      · rw [em] at h
        exact (zfree b hf).2 id n h
    · rw [hkept.shape b (lt_of_shape hbs)]; exact hbs
  have f3 : ∀ b, β'.free b → β3.free b := by
    intro b hf
    have hcase : βz.free b ∨ BlkOf βc b := by
      have hnF : ¬ F' b := by have := hf.1; rw [hA.F] at this; exact this
      by_cases hz1 : βz.free b
      · exact .inl hz1
      · by_cases hz2 : ∃ k n mu, bm k = some (.lives b n mu)
        · exact .inr hz2
        · exact absurd ⟨hz1, hz2⟩ hnF
    refine ⟨?_, fun id n h => ?_⟩
    · rcases hcase with h | h
      · exact h.1
      · obtain ⟨id, n, _, hm⟩ := blk b h
        exact ownF id b n true hm
    · rcases split3 id with ⟨k, hk8, e, em⟩ | ⟨hno, em⟩
      · rw [em] at h; exact hf.2 k n h
      · rw [em] at h
        rcases hcase with h' | h'
        · exact h'.2 id n h
        · obtain ⟨id', n', hid', hm⟩ := blk b h'
          obtain ⟨mu', g1, _⟩ := frzB_inv h
          have := hs.h.inj id id' b _ _ _ _ g1 hm
          subst this
          exact notGid id hno hid'
  have hHn : HeapOk β' w' noH := fun id ob h => by cases h
  have h1' : ∀ k id, backIds gids (c + 8 * i) k = some id → β3.m id = β'.m k := by
    intro k id h
    unfold backIds at h
    cases hb : Nat.blt k (gids.length + 8) with
    | false => simp [hb] at h
    | true =>
      simp only [hb, cond_true, Option.some.injEq] at h
      rw [Nat.blt_eq] at hb
      rw [← h]
      exact m3 k hb
  have h3' : ∀ (id : Nat) (ob : Ob) b n mu, noH id = some ob → β'.m id = some (.lives b n mu) → β3.free b := fun id ob b n mu h => by cases h
  have hlook : ∀ j, (look (givenDs gids (c + 8 * i) obs') j = none ∧ ∀ k, k < obs'.length → σ k ≠ j) ∨ (∃ k, k < obs'.length ∧ σ k = j ∧ look (givenDs gids (c + 8 * i) obs') j = some ((obs'.getD k none).map (mapO (backIds gids (c + 8 * i)) noH))) :=
    look_range σ (fun k => (obs'.getD k none).map (mapO (backIds gids (c + 8 * i)) noH)) obs'.length
  have hkept' : Kept K.B K.G w w' := hkept.mono hs.h.hB (fun k hkB hb => by
    obtain ⟨id, n, _, hm⟩ := blk k hb
    rcases (hs.h.live id k n true hm).1 with h | h
    · omega
    · exact h)
  refine hQ u w' β3 (hs.step hp hE hgt hk hkept' rfl (fun id ob h => ⟨fun _ => ?_, fun h => by cases h⟩) (fun id o' hl' ho hgi => ?_) (fun id o' hl' ho h => ?_) ?_ (fun id h => ?_) (fun id b n mu h => ?_) (fun _ => ?_) (fun h => by cases h))
  · rcases hlook id with ⟨e, _⟩ | ⟨k, hk', ek, e⟩
    · rw [e] at h; cases h
    · rw [e] at h
      simp only [Option.some.injEq, Option.map_eq_some_iff] at h
      obtain ⟨ob0, g1, rfl⟩ := h
      have hok : obs'[k]? = some (some ob0) := by
        rw [List.getD_eq_getElem?_getD] at g1
        have hlt : obs'[k]? = some obs'[k] := by simp [hk']
        rw [hlt] at g1
        rw [hlt]
        simp at g1
        rw [g1]
      refine mapO_holds hHn (fun id k h _ => h1' id k h) f3 h3' ?_ (hA.holds k ob0 hok)
      rw [← ek]
      exact m3 k (by omega)
  · rcases hlook id with ⟨_, e⟩ | ⟨k, hk', ek, e⟩
    rotate_left
    · rw [e] at hl'; cases hl'
    have hHo := hs.h.heap id o' ho hgi
    have hne : β.m id ≠ none := by rcases hHo with ⟨b, g, _⟩ | ⟨g, _⟩ <;> (rw [g]; simp)
    have hno : ∀ k, k < gids.length + 8 → σ k ≠ id := by
      intro k hk8 ek
      rcases σ_cases k with ⟨x, hx, ex⟩ | ⟨hx, ex⟩
      · have hklt : k < gids.length := (List.getElem?_eq_some_iff.1 hx).1
        exact e k (by omega) ek
      · exact hne (by rw [← ek, ex]; exact hnew _ (by omega))
    have em : β3.m id = βz.m id := by
      rcases split3 id with ⟨k, hk8, e', _⟩ | ⟨_, em⟩
      · exact absurd e'.symm (hno k hk8)
      · exact em
    rcases hHo with ⟨b, g1, g2⟩ | ⟨g1, g2⟩
    · refine .inl ⟨b, by rw [em]; exact frzB_lives g1, ?_⟩
      have hb' : w'.heap[b]? = w.heap[b]? := hkept.block b (hs.h.live id b _ _ g1).2 (fun hb => by
        obtain ⟨id', n', hid', hm⟩ := blk b hb
        have := hs.h.inj id id' b _ _ _ _ g1 hm
        subst this
        exact notGid id hno hid')
      have := g2.keep hk hb'
      simp only [Eff.on, look]
      exact this
    · exact .inr ⟨by rw [em]; show (frzB zids β).m id = _; simp [frzB, g1], g2⟩
  · rcases hlook id with ⟨_, e⟩ | ⟨k, hk', ek, e⟩
    rotate_left
    · rw [e] at hl'; cases hl'
    rcases split3 id with ⟨k, hk8, e', em⟩ | ⟨hno, em⟩
    · rw [em]
      exact hA.none k (Nat.le_of_not_lt fun hlt => e k hlt e'.symm)
    · rw [em]; exact frzB_none h
  · intro p q b n n' mu mu' e1 e2
    have mix : ∀ k id m1 u1 m2 u2, β'.m k = some (.lives b m1 u1) → (∀ k, k < gids.length + 8 → σ k ≠ id) → βz.m id = some (.lives b m2 u2) → False := by
      intro k id m1 u1 m2 u2 g1 hno g2
      obtain ⟨_, g3, _⟩ := frzB_inv g2
      obtain ⟨_, g | g⟩ := hA.live k b m1 u1 g1
      · have := (hs.h.live id b _ _ g3).2; omega
      · obtain ⟨id', n', hid', hm⟩ := blk b g
        have := hs.h.inj id id' b _ _ _ _ g3 hm
        subst this
        exact notGid id hno hid'
    rcases split3 p with ⟨k, hk8, ep, emp⟩ | ⟨hnp, emp⟩ <;> rcases split3 q with ⟨k', hk8', eq, emq⟩ | ⟨hnq, emq⟩
    · rw [emp] at e1; rw [emq] at e2
      rw [ep, eq, hA.inj k k' b n n' mu mu' e1 e2]
    · rw [emp] at e1; rw [emq] at e2
      exact (mix k q _ _ _ _ e1 hnq e2).elim
    · rw [emp] at e1; rw [emq] at e2
      exact (mix k' p _ _ _ _ e2 hnp e1).elim
    · rw [emp] at e1; rw [emq] at e2
      exact frzB_inj hs.h.inj p q b n n' mu mu' e1 e2
  · rcases split3 id with ⟨k, hk8, e, em⟩ | ⟨hno, em⟩
    · rcases σ_cases k with ⟨x, hx, ex⟩ | ⟨hx, ex⟩
      · exact .inl (by rw [e, ex]; exact (hgl x (List.mem_of_getElem? hx)).1)
      · exact .inr ⟨k - gids.length, by omega, by rw [e, ex]⟩
    · rw [em] at h; exact .inl (frzB_ne h)
  · rcases split3 id with ⟨k, hk8, e, em⟩ | ⟨hno, em⟩
    · rw [em] at h
      obtain ⟨g0, g | g⟩ := hA.live k b n mu h
      · have := hs.h.hB
        exact ⟨.inl (by omega), g0⟩
      · obtain ⟨id', n', _, hm⟩ := blk b g
        exact ⟨(hs.h.live id' b _ _ hm).1, g0⟩
    · rw [em] at h
      obtain ⟨_, g3, _⟩ := frzB_inv h
      have := (hs.h.live id b _ _ g3).2
      have := hkept.size
      exact ⟨(hs.h.live id b _ _ g3).1, by omega⟩
  · exact mapA_rel hHn (fun id k h _ => h1' id k h) f3 h3' 9 _ _ hr

end
end Go.Am
