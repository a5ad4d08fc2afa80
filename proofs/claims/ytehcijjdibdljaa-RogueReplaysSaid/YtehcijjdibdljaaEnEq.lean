/-
  The engine, part 3 (5): == on structs and arrays.
-/
import Derived.Test.YtehcijjdibdljaaEnOps4
import Derived.Laws.StructEq
namespace Go.Am
open Go.RowKit

section
variable {P : Program} {β : Book} {w : World}

theorem part_of {t : TypeId} {cs : List AV} {vs : Array Value} {off : Nat} {a : AV} (h : Rels β w cs vs) (ha : apart? P t cs off = some a) : ∃ u, (part t vs off).run P w = .ok u w ∧ Rel β w a u := part_ok h ha

def eqElems (P : Program) (d : Nat) (e : TypeId) (n : Nat) (xs ys : Array Value) : Nat → Nat → Sem Bool
  | 0, _ => pure true
  | k + 1, i => do
    let a ← part e xs (i * n)
    let b ← part e ys (i * n)
    let r ← Op.equalIn d e a b
    if (!r) = true then pure false else eqElems P d e n xs ys k (i + 1)

theorem run_equalIn_array (d : Nat) (t e : TypeId) (len n : Nat) (xs ys : Array Value) (ht : P.underlying t = some (.array len e)) (hn : szT P e = some n) :
    (Op.equalIn (d + 1) t (.agg xs) (.agg ys)).run P w = (eqElems P d e n xs ys len 0).run P w := by
  simp only [Op.equalIn, Sem.run_bind, run_underlying ht, Result.andThen_ok, szT_run w hn]
  rw [Std.Legacy.Range.forIn_eq_forIn_range']
  have hsz : Std.Legacy.Range.size [:len] = len := by simp [Std.Legacy.Range.size]
  rw [hsz]
  have key : ∀ (k i : Nat) (w : World), ((forIn (List.range' i k 1) (none, ()) fun i _ => do
        let a ← part e xs (i * n)
        let b ← part e ys (i * n)
        let r ← Op.equalIn d e a b
        if (!r) = true then pure (ForInStep.done (some false, ())) else pure (ForInStep.yield (none, ())) : Sem (Option Bool × Unit)).run P w).andThen (fun a w' => .ok (a.1.getD true) w') = (eqElems P d e n xs ys k i).run P w := by
    intro k
    induction k with
    | zero => intro i w; simp [eqElems]
    | succ k ih =>
      intro i w
      rw [List.range'_succ]
      simp only [List.forIn_cons, eqElems, Sem.run_bind, Sem.run_ite]
      generalize (part e xs (i * n)).run P w = r1
      cases r1 with
      | ok a w1 =>
        simp only [Result.andThen_ok]
        generalize (part e ys (i * n)).run P w1 = r2
        cases r2 with
        | ok b w2 =>
          simp only [Result.andThen_ok]
          generalize (Op.equalIn d e a b).run P w2 = r3
          cases r3 with
          | ok r w3 =>
            cases r
            · simp only [Result.andThen_ok, Bool.not_false, if_true, Sem.run_pure, Option.getD_some]
            · simp only [Result.andThen_ok, Bool.not_true, Bool.false_eq_true, if_false, Sem.run_pure]
              exact ih (i + 1) w3
          | halt x w3 => simp [Result.andThen]
        | halt x w2 => simp [Result.andThen]
      | halt x w1 => simp [Result.andThen]
  refine (congrArg (Result.andThen _) (funext fun a => funext fun w' => ?_)).trans (key len 0 w)
  obtain ⟨a1, _⟩ := a
  cases a1 <;> rfl

theorem eqAV_ok : ∀ (d : Nat) (t : TypeId) (x y : AV) (b : Bool) (vx vy : Value), eqAV P d t x y = some b → Rel β w x vx → Rel β w y vy → ∀ d', d ≤ d' → (Op.equalIn d' t vx vy).run P w = .ok b w := by
  intro d
  induction d with
  | zero => intro t x y b vx vy h; cases h
  | succ d ih =>
    intro t x y b vx vy h hx hy d' hd
    obtain ⟨e, rfl⟩ : ∃ e, d' = e + 1 := ⟨d' - 1, by omega⟩
    simp only [eqAV] at h
    split at h
    · rename_i hu
      cases h
      rw [rel_bool_inv hx, rel_bool_inv hy]
      exact run_equalIn_bool' w e t _ _ hu
    · rename_i k a k' b' hu
      replace h := bif_some h
      obtain ⟨hk, h⟩ := h
      have hk := of_decide_eq_true hk
      subst hk
      cases h
      rw [rel_int_inv hx, rel_int_inv hy]
      exact run_equalIn_int w e t _ _ _ _ hu
    · rename_i a b' hu
      cases h
      rw [rel_str_inv hx, rel_str_inv hy]
      exact run_equalIn_string w e t _ _ hu
    · rename_i fs xs ys hu
      cases hst : P.stoodInHeld t with
      | true => simp [hst] at h
      | false =>
        simp only [hst, cond_false] at h
        obtain ⟨us, rfl, hus⟩ := rel_agg_inv hx
        obtain ⟨vs, rfl, hvs⟩ := rel_agg_inv hy
        have hf : P.fieldsOf t = fs := by simp [Program.fieldsOf, hu]
        rw [run_equalIn_struct w e t us vs (by rw [hf]; exact hu) hst, hf]
        revert h
        generalize fs.toList = l
        intro h
        induction l generalizing b with
        | nil => simp only [eqFieldsA, Option.some.injEq] at h; subst h; simp [Op.eqFields]
        | cons f l ihl =>
          simp only [eqFieldsA] at h
          cases hn : (f.name == "_") with
          | true => simp [hn] at h
          | false =>
            simp only [hn, cond_false] at h
            have hne : f.name ≠ "_" := by simpa using hn
            split at h
            · rename_i a a' ha hb
              split at h
              · rename_i r q hr hq
                cases h
                obtain ⟨u, h1, h2⟩ := part_of hus ha
                obtain ⟨v, h3, h4⟩ := part_of hvs hb
                simp only [Op.eqFields, if_pos hne, Sem.run_bind, h1, h3, Result.andThen_ok, ih _ _ _ _ _ _ hr h2 h4 e (by omega)]
                cases r with
                | false => simp
                | true => simp only [Bool.not_true, Bool.false_eq_true, if_false, Bool.true_and]; exact ihl _ hq
              · cases h
            · cases h
    · rename_i len el xs ys hu
      split at h
      rotate_left
      · cases h
      rename_i n hn
      obtain ⟨us, rfl, hus⟩ := rel_agg_inv hx
      obtain ⟨vs, rfl, hvs⟩ := rel_agg_inv hy
      rw [run_equalIn_array e t el len n us vs hu hn]
      clear hu
      revert h
      generalize 0 = i
      intro h
      induction len generalizing b i with
      | zero => simp only [eqElemsA, Option.some.injEq] at h; subst h; simp [eqElems]
      | succ k ihk =>
        simp only [eqElemsA] at h
        split at h
        · rename_i a a' ha hb
          split at h
          · rename_i r q hr hq
            cases h
            obtain ⟨u, h1, h2⟩ := part_of hus ha
            obtain ⟨v, h3, h4⟩ := part_of hvs hb
            simp only [eqElems, Sem.run_bind, h1, h3, Result.andThen_ok, ih _ _ _ _ _ _ hr h2 h4 e (by omega)]
            cases r with
            | false => simp
            | true =>
              simp only [Bool.not_true, Bool.false_eq_true, if_false, Bool.true_and]
              exact ihk q (i + 1) hq
          · cases h
        · cases h
    · cases h

end
end Go.Am
