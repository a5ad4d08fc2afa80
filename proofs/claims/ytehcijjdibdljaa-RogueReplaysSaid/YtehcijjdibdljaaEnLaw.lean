/-
  The engine, part 17: contracts from contracts; from a contract to what a row asks for.
-/
import Derived.Test.YtehcijjdibdljaaEnUse
namespace Go.Am
open Go.RowKit

theorem Ent.junk {os : List (Option Ob)} (a : AV) : Ent os a .junk := fun _ _ _ _ _ => .junk

theorem Ent.nn {os : List (Option Ob)} {a b : AV} (h : Ent os a b) : Ent os (.nn a) b := fun _ _ _ hh hr => by
  cases hr with | nn h' => exact h _ _ _ hh h'

theorem Ent.isl {os : List (Option Ob)} {es n : Nat} {f g : Nat → Nat → AV} (h : ∀ i j, i < n → j < es → f i j = g i j) : Ent os (.isl es n f) (.isl es n g) := fun _ _ _ _ hr => by
  cases hr with
  | isl vals he hcap hb hc ho hr hcl => exact .isl vals he hcap hb hc ho (fun i j hi hj => by rw [← h i j hi hj]; exact hr i j hi hj) (fun i j hi hj => by rw [← h i j hi hj]; exact hcl i j hi hj)
  | isl0 h' => exact .isl0 h'

theorem Ent.islN {os : List (Option Ob)} {es n n' : Nat} {f g : Nat → Nat → AV} (hn : n = n') (h : ∀ i j, i < n → j < es → f i j = g i j) : Ent os (.isl es n f) (.isl es n' g) := by subst hn; exact Ent.isl h

theorem bif_t {α : Type} {c : Bool} {x y : α} (h : c = true) : (bif c then x else y) = x := by rw [h]; rfl
theorem bif_f {α : Type} {c : Bool} {x y : α} (h : c = false) : (bif c then x else y) = y := by rw [h]; rfl

theorem ObEnt.refl {os : List (Option Ob)} (o : Ob) : ObEnt os o o := ⟨rfl, rfl, rfl, fun _ _ _ _ => Ent.refl _⟩
theorem ObsEnt.refl {os : List (Option Ob)} : ∀ l : List (Option Ob), ObsEnt os l l
  | [] => trivial
  | none :: l => ObsEnt.refl l
  | some o :: l => ⟨.refl o, ObsEnt.refl l⟩

theorem EntL.refl {os : List (Option Ob)} : ∀ l : List AV, EntL os l l
  | [] => trivial
  | a :: l => ⟨Ent.refl a, EntL.refl l⟩

theorem Ent.atL {os : List (Option Ob)} {l l' : List AV} (h : EntL os l l') (j : Nat) : Ent os (atL l j) (atL l' j) := by
  obtain ⟨h1, h2⟩ := h.spec
  unfold Am.atL
  rw [List.getD_eq_getElem?_getD, List.getD_eq_getElem?_getD]
  by_cases hj : j < l.length
  · have e1 : l[j]? = some l[j] := by simp [hj]
    have e2 : l'[j]? = some (l'[j]'(by omega)) := by rw [List.getElem?_eq_getElem]
    rw [e1, e2]
    exact h2 j _ _ e1 e2
  · rw [List.getElem?_eq_none (by omega), List.getElem?_eq_none (by omega)]
    exact Ent.refl _

/-- Two objects of one row. -/
theorem ObEnt.row {os : List (Option Ob)} {es : Nat} {mu : Bool} {l l' : List AV} (h : EntL os l l') : ObEnt os ⟨es, 1, mu, .lst [l]⟩ ⟨es, 1, mu, .lst [l']⟩ := ⟨rfl, rfl, rfl, fun i j hi _ => by
  have hi : i < 1 := hi
  obtain rfl : i = 0 := by omega
  exact Ent.atL h j⟩
theorem ObEnt.junk {os : List (Option Ob)} {es n : Nat} {mu : Bool} {f : Rep} : ObEnt os ⟨es, n, mu, f⟩ ⟨es, n, mu, .fn fun _ _ => .junk⟩ := ⟨rfl, rfl, rfl, fun _ _ _ _ => Ent.junk _⟩

theorem ObEnt.zero {os : List (Option Ob)} {es : Nat} {mu : Bool} {f g : Rep} : ObEnt os ⟨es, 0, mu, f⟩ ⟨es, 0, mu, g⟩ := ⟨rfl, rfl, rfl, fun i _ hi _ => by have hi : i < 0 := hi; omega⟩

theorem atL_map_range {es j : Nat} {g : Nat → AV} (hj : j < es) : Am.atL ((List.range es).map g) j = g j := by
  unfold Am.atL
  rw [List.getD_eq_getElem?_getD, List.getElem?_map, List.getElem?_range hj]
  rfl

/-- The same rows, their number said otherwise. -/
theorem ObEnt.len {os : List (Option Ob)} {es n n' : Nat} {mu : Bool} {f : Rep} (h : n = n') : ObEnt os ⟨es, n, mu, f⟩ ⟨es, n', mu, f⟩ := by subst h; exact .refl _

/-- One more row of integers. -/
theorem ObEnt.push {os : List (Option Ob)} {es x x' : Nat} {mu : Bool} {k : IntKind} {f : Nat → Nat → Int} {l : List AV} (h : l = (List.range es).map (fun j => .int k (f x j))) (hx : x' = x + 1) :
    ObEnt os ⟨es, x + 1, mu, .fn fun i j => .int k (bif Nat.blt i x then f i j else intOfAV (Am.atL l j))⟩ ⟨es, x', mu, .fn fun i j => .int k (f i j)⟩ := by
  subst hx
  refine ⟨rfl, rfl, rfl, fun i j hi hj => Ent.of_eq ?_⟩
  have hi : i < x + 1 := hi
  have hj : j < es := hj
  show AV.int k _ = AV.int k _
  cases hb : Nat.blt i x with
  | true => rfl
  | false =>
    have : i = x := by
      have : ¬ i < x := fun hlt => by rw [← Nat.blt_eq, hb] at hlt; cases hlt
      omega
    subst this
    rw [h, atL_map_range hj]
    rfl

/-- Rows of one object, and rows of another behind them. -/
theorem ObEnt.cat {os : List (Option Ob)} {es n m n' : Nat} {mu : Bool} {f g h : Rep} (hn : n' = n + m) (h1 : ∀ i j, i < n → j < es → Ent os (f i j) (h i j)) (h2 : ∀ i j, i < m → j < es → Ent os (g i j) (h (n + i) j)) :
    ObEnt os ⟨es, n + m, mu, .cat n f g⟩ ⟨es, n', mu, h⟩ := by
  subst hn
  refine ⟨rfl, rfl, rfl, fun i j hi hj => ?_⟩
  have hi : i < n + m := hi
  show Ent os (mixA (Nat.blt i n) (f.at i j) (g.at (i - n) j)) (h i j)
  cases hb : Nat.blt i n with
  | true => rw [mixA_tt]; exact h1 i j (by simpa [Nat.blt_eq] using hb) hj
  | false =>
    rw [mixA_ff]
    have hge : n ≤ i := Nat.le_of_not_lt fun hlt => by rw [← Nat.blt_eq, hb] at hlt; cases hlt
    have := h2 (i - n) j (by omega) hj
    rwa [show n + (i - n) = i by omega] at this

/-- One row anew. -/
theorem ObEnt.put {os : List (Option Ob)} {es n k : Nat} {mu : Bool} {x : List AV} {f h : Rep} (h1 : ∀ j, k < n → j < es → Ent os (Am.atL x j) (h k j)) (h2 : ∀ i j, i < n → i ≠ k → j < es → Ent os (f i j) (h i j)) :
    ObEnt os ⟨es, n, mu, .put k x f⟩ ⟨es, n, mu, h⟩ := by
  refine ⟨rfl, rfl, rfl, fun i j hi hj => ?_⟩
  have hi : i < n := hi
  show Ent os (mixA (Nat.beq i k) (Am.atL x j) (f.at i j)) (h i j)
  cases hb : Nat.beq i k with
  | true =>
    rw [mixA_tt]
    have := Nat.eq_of_beq_eq_true hb
    subst this
    exact h1 j hi hj
  | false =>
    rw [mixA_ff]
    exact h2 i j hi (fun e => by subst e; rw [Nat.beq_refl] at hb; cases hb) hj

/-- One more row. -/
theorem ObEnt.catRow {os : List (Option Ob)} {es n n' : Nat} {mu : Bool} {c c' : Nat → List AV} {x : List AV} (hn : n' = n + 1) (hc : ∀ i, i < n → EntL os (c i) (c' i)) (hx : EntL os x (c' n)) :
    ObEnt os ⟨es, n + 1, mu, .cat n (.row c) (.lst [x])⟩ ⟨es, n', mu, .row c'⟩ :=
  ObEnt.cat hn (fun i j hi _ => Ent.atL (hc i hi) j) (fun i j hi _ => by
    obtain rfl : i = 0 := by omega
    exact Ent.atL hx j)
theorem ObEnt.pushRow {os : List (Option Ob)} {es n n' : Nat} {mu : Bool} {c : Nat → List AV} (hn : n' = n + 1) : ObEnt os ⟨es, n + 1, mu, .cat n (.row c) (.lst [c n])⟩ ⟨es, n', mu, .row c⟩ :=
  ObEnt.catRow hn (fun _ _ => EntL.refl _) (EntL.refl _)

/-- A list of integers, as rows of one cell. -/
def ilF (k : IntKind) (l : List Int) : Nat → Nat → AV := fun i _ => .int k (l.getD i 0)
abbrev il (k : IntKind) (l : List Int) : AV := .isl 1 l.length (ilF k l)
abbrev ilO (k : IntKind) (l : List Int) : Option Ob := some ⟨1, l.length, true, .fn (ilF k l)⟩

theorem ObEnt.pushL {os : List (Option Ob)} {mu : Bool} {k : IntKind} {l l' : List Int} {v : Int} (h : l' = l ++ [v]) :
    ObEnt os ⟨1, l.length + 1, mu, .fn fun i j => .int k (bif Nat.blt i l.length then l.getD i 0 else intOfAV (Am.atL [.int k v] j))⟩ ⟨1, l'.length, mu, .fn (ilF k l')⟩ := by
  subst h
  refine ⟨rfl, by simp, rfl, fun i j hi hj => Ent.of_eq ?_⟩
  have hi : i < l.length + 1 := hi
  have hj : j < 1 := hj
  obtain rfl : j = 0 := by omega
  show AV.int k _ = AV.int k _
  cases hb : Nat.blt i l.length with
  | true =>
    rw [Nat.blt_eq] at hb
    simp [List.getD_eq_getElem?_getD, List.getElem?_append_left hb]
  | false =>
    have : i = l.length := by
      have : ¬ i < l.length := fun hlt => by rw [← Nat.blt_eq, hb] at hlt; cases hlt
      omega
    subst this
    simp [List.getD_eq_getElem?_getD, atL, intOfAV]

theorem Ent.nsl {os : List (Option Ob)} {es : Nat} {f : Nat → Nat → AV} : Ent os .nsl (.isl es 0 f) := fun _ _ _ _ hr => by
  cases hr; exact .isl0 (fun _ => rfl)

theorem Ent.nilL {os : List (Option Ob)} {k : IntKind} {l : List Int} (h : l = []) : Ent os .nsl (il k l) := by subst h; exact Ent.nsl

theorem Ent.ilL {os : List (Option Ob)} {k : IntKind} {l l' : List Int} (h : l = l') : Ent os (.isl 1 l.length fun i _ => .int k (l.getD i 0)) (il k l') := by subst h; exact Ent.refl _

/-- Two rows. -/
theorem Ent.two {os : List (Option Ob)} {es : Nat} {x y : List AV} {g : Nat → List AV} (h0 : x = g 0) (h1 : y = g 1) : Ent os (.isl es 2 fun r k => Am.atL (List.getD [x, y] r []) k) (.isl es 2 fun i j => Am.atL (g i) j) := by
  refine Ent.isl fun i j hi _ => ?_
  match i, hi with
  | 0, _ => rw [← h0]; rfl
  | 1, _ => rw [← h1]; rfl

theorem Ent.agg {os : List (Option Ob)} {l l' : List AV} (h : EntL os l l') : Ent os (.agg l) (.agg l') := fun _ _ _ hh hr => by
  obtain ⟨h1, h2⟩ := h.spec
  obtain ⟨vs, rfl, hl, hr⟩ := rel_agg_inv hr
  refine .agg (by rw [← h1]; exact hl) fun j u x hu hx => ?_
  have hj : j < l.length := by rw [h1]; exact (List.getElem?_eq_some_iff.1 hu).1
  exact h2 j l[j] u (by simp [hj]) hu _ _ _ hh (hr j _ _ (by simp [hj]) hx)

theorem Ent.tup {os : List (Option Ob)} {l l' : List AV} (h : EntL os l l') : Ent os (.tup l) (.tup l') := fun _ _ _ hh hr => by
  obtain ⟨h1, h2⟩ := h.spec
  obtain ⟨vs, rfl, hl, hr⟩ := rel_tup_inv hr
  refine .tup (by rw [← h1]; exact hl) fun j u x hu hx => ?_
  have hj : j < l.length := by rw [h1]; exact (List.getElem?_eq_some_iff.1 hu).1
  exact h2 j l[j] u (by simp [hj]) hu _ _ _ hh (hr j _ _ (by simp [hj]) hx)

section
variable {P : Program} {gl : Globs} {f : FuncId}

/-- A slice is nil, or it is not. -/
theorem Gives.nilSplit {obs : List Ob} {r : AV} {obs' : List (Option Ob)} (pre post : List AV) (es n : Nat) (g : Nat → Nat → AV) (h1 : n = 0 → Gives P gl f obs (pre ++ .nsl :: post) r obs')
    (h2 : Gives P gl f obs (pre ++ .nn (.isl es n g) :: post) r obs') : Gives P gl f obs (pre ++ .isl es n g :: post) r obs' := by
  refine ⟨h2.1, fun β w vs hF hgiv hgl hargs => ?_⟩
  have hx : ∀ (a b : AV), (∀ v, vs[pre.length]? = some v → Rel β w b v) → Rels β w (pre ++ a :: post) vs → Rels β w (pre ++ b :: post) vs := fun a b hb hr => by
    refine ⟨by have := hr.len; simpa using this, fun j u x hu hxx => ?_⟩
    rcases Nat.lt_trichotomy j pre.length with h | h | h
    · refine hr.rel j u x ?_ hxx
      rw [List.getElem?_append_left h] at hu ⊢
      exact hu
    · subst h
      simp at hu
      subst hu
      exact hb x hxx
    · refine hr.rel j u x ?_ hxx
      rw [List.getElem?_append_right (by omega)] at hu ⊢
      obtain ⟨q, hq⟩ : ∃ q, j - pre.length = q + 1 := ⟨j - pre.length - 1, by omega⟩
      rw [hq] at hu ⊢
      simpa using hu
  obtain ⟨v, hv, hr⟩ := hargs.at (j := pre.length) (u := .isl es n g) (by simp)
  obtain ⟨a, cap, rfl, hcap, hnil, _⟩ := rel_isl_inv hr
  cases a with
  | none =>
    have hc := hnil rfl
    subst hc
    have hn : n = 0 := by omega
    subst hn
    exact (h1 rfl).2 β w vs hF hgiv hgl (hx _ _ (fun v' hv' => by rw [hv] at hv'; cases hv'; exact .nsl) hargs)
  | some ad => exact h2.2 β w vs hF hgiv hgl (hx _ _ (fun v' hv' => by rw [hv] at hv'; cases hv'; exact .nn hr) hargs)

/-- A contract whose result is nil: a slice without rows of a new object. -/
theorem Gives.nil {obs : List Ob} {args : List AV} {obs' : List (Option Ob)} (h : Gives P gl f obs args .nsl obs') (es : Nat) (g : Rep) :
    Gives P gl f obs args (.osl obs'.length es 0 0) (obs' ++ [some ⟨es, 0, true, g⟩]) := by
  refine ⟨h.1, fun β w vs hF hgiv hgl hargs => (h.2 β w vs hF hgiv hgl hargs).mono fun e w' hh => ?_⟩
  obtain ⟨v, β', he, hk, hA, hr⟩ := hh
  have hn := hA.none obs'.length (Nat.le_refl _)
  let β2 : Book := setB β' [(obs'.length, .empty)]
  have at0 : β2.m obs'.length = some .empty := setB_at (by rw [look_one, if_pos rfl])
  have old : ∀ k, k ≠ obs'.length → β2.m k = β'.m k := fun k hk => setB_old (by rw [look_one, if_neg (fun e => hk e.symm)])
  have lv : ∀ k b n mu, β2.m k = some (.lives b n mu) → β'.m k = some (.lives b n mu) := fun k b n mu hb => by
    by_cases e : k = obs'.length
    · subst e; rw [at0] at hb; cases hb
    · rw [old k e] at hb; exact hb
  have kk : Keeps β' w' β2 w' := ⟨fun id o ho => ⟨o, by
      rw [old id (fun e => by subst e; rw [hn] at ho; cases ho)]; exact ho, o.later_refl⟩, fun _ _ _ => rfl, fun b _ hf => ⟨hf.1, fun id n h => hf.2 id n (lv _ _ _ _ h)⟩, fun _ _ _ h => h⟩
  cases hr
  refine ⟨_, β2, he, hk, ⟨hA.F, fun k ob hkk => ?_, fun k hkk => ?_, fun i j b n n' mu mu' h1 h2 => hA.inj i j b n n' mu mu' (lv _ _ _ _ h1) (lv _ _ _ _ h2), fun k b n mu hb => hA.live k b n mu (lv _ _ _ _ hb), fun k o ho => ?_⟩, .osl0 (by rw [at0]; simp)⟩
  · by_cases e : k = obs'.length
    · subst e
      simp at hkk
      subst hkk
      exact .inr ⟨at0, rfl⟩
    · have hkk' : obs'[k]? = some (some ob) := by
        rcases Nat.lt_or_ge k obs'.length with h' | h'
        · rw [List.getElem?_append_left h'] at hkk; exact hkk
        · rw [List.getElem?_eq_none (by simp; omega)] at hkk; cases hkk
      rcases hA.holds k ob hkk' with ⟨b, g1, g2⟩ | ⟨g1, g2⟩
      · exact .inl ⟨b, by rw [old k e]; exact g1, g2.keep kk rfl⟩
      · exact .inr ⟨by rw [old k e]; exact g1, g2⟩
  · simp at hkk
    rw [old k (by omega)]
    exact hA.none k (by omega)
  · obtain ⟨o', g1, g2⟩ := hA.later k o ho
    exact ⟨o', by rw [old k (fun e => by subst e; rw [hn] at g1; cases g1)]; exact g1, g2⟩

/-- A result that says less. -/
theorem Gives.ent {obs : List Ob} {args : List AV} {r r' : AV} {obs' obs2 : List (Option Ob)} (h : Gives P gl f obs args r obs') (hr : Ent obs' r r') (ho : ObsEnt obs' obs' obs2) : Gives P gl f obs args r' obs2 := by
  refine ⟨h.1, fun β w vs hF hgiv hgl hargs => (h.2 β w vs hF hgiv hgl hargs).mono fun e w' hh => ?_⟩
  obtain ⟨v, β', he, hk, hA, hv⟩ := hh
  obtain ⟨hl, hs⟩ := ho.spec
  have hHas : Has obs' β' := fun k o hk => by rcases hA.holds k o hk with ⟨b, g, _⟩ | ⟨g, _⟩ <;> (rw [g]; simp)
  refine ⟨v, β', he, hk, ⟨hA.F, fun k ob hkk => ?_, fun k hkk => hA.none k (by omega), hA.inj, hA.live, hA.later⟩, hr _ _ _ hHas hv⟩
  obtain ⟨o1, g1, e1, e2, e3, e4⟩ := hs k ob hkk
  rcases hA.holds k o1 g1 with ⟨b, k1, cs, el, k2, k3, k4⟩ | ⟨k1, k2⟩
  · refine .inl ⟨b, by rw [← e2, ← e3]; exact k1, cs, el, k2, by rw [← e1, ← e2]; exact k3, fun i j hi hj => ?_⟩
    rw [← e2] at hi
    rw [← e1] at hj ⊢
    obtain ⟨vv, j1, j2, j3⟩ := k4 i j hi hj
    exact ⟨vv, j1, e4 i j hi hj _ _ _ hHas j2, j3⟩
  · exact .inr ⟨k1, by rw [← e2]; exact k2⟩

/-- Arguments that say more. -/
theorem Gives.via {obs : List Ob} {args args' : List AV} {r : AV} {obs' : List (Option Ob)} (h : Gives P gl f obs args' r obs') (he : EntL (obs.map some) args args') : Gives P gl f obs args r obs' := by
  refine ⟨h.1, fun β w vs hF hgiv hgl hargs => h.2 β w vs hF hgiv hgl ?_⟩
  obtain ⟨h1, h2⟩ := he.spec
  have hHas : Has (obs.map some) β := fun k o hk => by
    rw [List.getElem?_map] at hk
    cases ho : obs[k]? with
    | none => simp [ho] at hk
    | some ob => rcases hgiv.holds k ob ho with ⟨b, g, _⟩ | ⟨g, _⟩ <;> (rw [g]; simp)
  refine ⟨by rw [← h1]; exact hargs.len, fun j u x hu hx => ?_⟩
  have hj : j < args.length := by rw [h1]; exact (List.getElem?_eq_some_iff.1 hu).1
  exact h2 j args[j] u (by simp [hj]) hu _ _ _ hHas (hargs.rel j _ _ (by simp [hj]) hx)

theorem Pure.via {args args' : List AV} {r : AV} (h : Pure P gl f args' r) (he : EntL [] args args') : Pure P gl f args r := Gives.via h he

/-- Rows that are the same, cell by cell. -/
theorem Ent.rows {os : List (Option Ob)} {es n : Nat} {f g : Nat → Nat → AV} (h : ∀ i, i < n → (List.range es).map (f i) = (List.range es).map (g i)) : Ent os (.isl es n f) (.isl es n g) :=
  Ent.isl fun i j hi hj => by
    have := congrArg (fun l => l[j]?) (h i hi)
    simpa [hj] using this

theorem Pure.ent {args : List AV} {r r' : AV} (h : Pure P gl f args r) (hr : Ent [] r r') : Pure P gl f args r' := Gives.ent h hr trivial

end
end Go.Am
