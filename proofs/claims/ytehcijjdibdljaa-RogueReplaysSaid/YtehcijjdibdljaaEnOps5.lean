/-
  The engine, part 3e: 'mstep' is right: slice literals, slice expressions, operators, and the theorem for all.
-/
import Derived.Test.YtehcijjdibdljaaEnEq
namespace Go.Am
open Go.RowKit

section
variable {P : Program} {β : Book} {w : World} {ρ : Operand → AV} {σ : Operand → Value} {H : Heap} {nid : Nat}
variable {v : AV} {q : Rq} {ob : Option Ob} {dst : Option Tmp} {ty : TypeId} {pos : String} {after : Array Edge} {g : Option (Nat × Bool)}

theorem buildSlice_ok {t : TypeId} {len : Nat} {parts : Array (Nat × Operand)} (hρ : ∀ p, p ∈ parts.toList → Rel β w (ρ p.2) (σ p.2)) (h : mstep P ρ H nid (.buildSlice t len parts) = some (q, v, ob)) :
    MOk β w nid ((execOp σ ⟨dst, .buildSlice t len parts, ty, pos, after, g⟩).run P w) v ob := by
  simp only [mstep] at h
  split at h
  · rename_i e hu
    split at h
    · rename_i s z hs hz
      obtain ⟨hc, h⟩ := bif_some h
      simp only [Bool.and_eq_true, Nat.ble_eq, Nat.blt_eq] at hc
      obtain ⟨⟨hc1, hc2⟩, hc3⟩ := hc
      have hzl : z.cells.size = s := by rw [← zcells_length]; exact Nat.eq_of_beq_eq_true hc3
      split at h
      rotate_left
      · cases h
      rename_i cs hcs
      obtain ⟨hone, h⟩ := bif_some h
      simp only [Option.some.injEq, Prod.mk.injEq] at h
      obtain ⟨-, rfl, rfl⟩ := h
      have base : Rels β w ((List.range (len * s)).map fun i => atL (zcells z) (i % s)) ((Array.range (len * s)).map (z.cells[· % z.cells.size]!)) := by
        refine ⟨by simp, fun j u x hu hx => ?_⟩
        rw [List.getElem?_map] at hu
        rw [Array.getElem?_map] at hx
        by_cases hj : j < len * s
        · rw [List.getElem?_range hj] at hu
          rw [Array.getElem?_range] at hx
          simp only [hj, if_true, Option.map_some, Option.some.injEq] at hu hx
          subst hu; subst hx
          have hm : j % s < z.cells.size := by rw [hzl]; exact Nat.mod_lt _ hc2
          have hm' : j % s < (zcells z).length := by rw [zcells_length]; exact hm
          rw [hzl]
          refine rel_zcells β w z (j % s) _ _ ?_ ?_
          · rw [atL, List.getD_eq_getElem?_getD]; simp [hm']
          · simp [hm, getElem!_pos]
        · rw [List.getElem?_eq_none (by simp; omega)] at hu
          cases hu
      obtain ⟨zs, hz1, hz2⟩ := fill_ok (place' := fun i => some (i * s, s)) (σ := σ) (fun _ => rfl) parts.toList _ _ cs base hρ hcs
      have hcl : cs.length = len * s := by
        have := afill_length hcs
        simpa using this
      refine ⟨rfl, zs, e, ?_, fun i j hi hj => ?_, .inr ⟨rfl, ?_, ?_⟩⟩
      · show len * s ≤ zs.size; rw [← hz2.len, hcl]; exact Nat.le_refl _
      · have hi' : i < len := hi
        have hj' : j < s := hj
        have hlt : i * s + j < cs.length := by
          rw [hcl]
          have := Nat.mul_le_mul_right s (show i + 1 ≤ len by omega)
          rw [Nat.add_mul] at this
          omega
        obtain ⟨x, hx, hr⟩ := hz2.at (j := i * s + j) (u := cs[i * s + j]) (by simp [hlt])
        refine ⟨x, hx, ?_, one_cell hr (List.all_eq_true.1 hone _ (List.getElem_mem hlt))⟩
        show Rel β w (atL (((List.range len).map fun i => (cs.drop (i * s)).take s).getD i []) j) x
        have e : atL (((List.range len).map fun i => (cs.drop (i * s)).take s).getD i []) j = atL cs (i * s + j) := by
          unfold atL
          rw [List.getD_eq_getElem?_getD, List.getD_eq_getElem?_getD, List.getElem?_map, List.getElem?_range hi', List.getD_eq_getElem?_getD]
          simp only [Option.map_some, Option.getD_some]
          rw [List.getElem?_take_of_lt hj', List.getElem?_drop]
        rw [e]
        rw [atL_of (u := cs[i * s + j]) (by simp [hlt])]
        exact hr
      · show zs.size = len * s; rw [← hz2.len, hcl]
      · have hfl : Instr.fill (fun i => some (i * s, s)) ((Array.range (len * s)).map ((if len * s = 0 then #[] else z.cells)[· % (if len * s = 0 then #[] else z.cells).size]!)) (parts.map fun p => (p.1, σ p.2)).toList = some zs := by
          rw [Array.toList_map, ← hz1]
          congr 1
          by_cases h : len * s = 0
          · simp [h]
          · simp only [h, if_false]
        simp only [execOp, Instr.buildSlice, Sem.run_bind, run_underlying hu, Result.andThen_ok, szT_run w hs, Sem.run_ite, if_neg (show ¬ len * s > 2 ^ 24 by omega), Sem.run_pure]
        by_cases h : len * s = 0
        · simp only [h, if_true] at hfl ⊢
          simp only [hfl, newRow, Sem.run_bind, run_newObj, Result.andThen_ok, Sem.run_pure, World.alloc_eq]
        · simp only [h, if_false] at hfl ⊢
          simp only [zero_run w hz, Result.andThen_ok, hfl, newRow, Sem.run_bind, run_newObj, Sem.run_pure, World.alloc_eq]
    · cases h
  · cases h

theorem osl_ne {id es i len : Nat} {u : Value} (h : Rel β w (.osl id es i len) u) : β.m id ≠ none := by cases h <;> simp_all

theorem bound_run {k : IntKind} {n : Int} {y : Nat} {c : BoundsCode} (h0 : 0 ≤ n) (h1 : n ≤ y) : (Instr.sliceBound (.int k n) y c).run P w = .ok n.toNat w := by
  simp [Instr.sliceBound, asIntOf_run, h0, h1]

/-- The bounds of a slice expression: what 'aBounds' says, where the capacity is at least the length. -/
theorem bounds_ok {isS : Bool} {n cap : Nat} {lo hi : Option AV} {vlo vhi : Option Value} {l m : Nat} (hn : n ≤ cap) (hlo : ∀ a, lo = some a → ∃ x, vlo = some x ∧ Rel β w a x) (hlo' : lo = none → vlo = none)
    (hhi : ∀ a, hi = some a → ∃ x, vhi = some x ∧ Rel β w a x) (hhi' : hi = none → vhi = none) (h : aBounds n lo hi = some (q, l, m)) (hq : q.holds) :
    (Instr.sliceBounds isS n cap vlo vhi none).run P w = .ok (l, l + m, cap) w ∧ l + m ≤ n := by
  unfold aBounds at h
  split at h
  · cases h
    rw [hlo' rfl, hhi' rfl]
    exact ⟨by simp [Instr.sliceBounds], by omega⟩
  · rename_i a
    simp only [Option.map_eq_some_iff, Prod.mk.injEq] at h
    obtain ⟨z, hz, rfl, rfl, rfl⟩ := h
    obtain ⟨kk, rfl⟩ := asIdx_eq hz
    obtain ⟨x, hx, hr⟩ := hlo _ rfl
    have := rel_int_inv hr
    subst this
    rw [hx, hhi' rfl]
    obtain ⟨h0, h1⟩ : 0 ≤ z ∧ z ≤ n := hq
    have e : z.toNat + (n - z.toNat) = n := by omega
    refine ⟨?_, by omega⟩
    simp only [Instr.sliceBounds, Sem.run_bind, Sem.run_pure, Result.andThen_ok, bound_run h0 h1, e]
  · rename_i a
    simp only [Option.map_eq_some_iff, Prod.mk.injEq] at h
    obtain ⟨z, hz, rfl, rfl, rfl⟩ := h
    obtain ⟨kk, rfl⟩ := asIdx_eq hz
    obtain ⟨x, hx, hr⟩ := hhi _ rfl
    have := rel_int_inv hr
    subst this
    rw [hx, hlo' rfl]
    obtain ⟨h0, h1⟩ : 0 ≤ z ∧ z ≤ n := hq
    refine ⟨?_, by omega⟩
    simp only [Instr.sliceBounds, Sem.run_bind, Sem.run_pure, Result.andThen_ok, bound_run h0 (show z ≤ (cap : Int) by omega), Nat.zero_add]
  · rename_i a b
    split at h
    · rename_i y z hy hz
      cases h
      obtain ⟨k1, rfl⟩ := asIdx_eq hy
      obtain ⟨k2, rfl⟩ := asIdx_eq hz
      obtain ⟨x1, hx1, hr1⟩ := hlo _ rfl
      obtain ⟨x2, hx2, hr2⟩ := hhi _ rfl
      have h1 := rel_int_inv hr1
      have h2 := rel_int_inv hr2
      subst h1; subst h2
      rw [hx1, hx2]
      obtain ⟨g0, g1, g2⟩ : 0 ≤ y ∧ y ≤ z ∧ z ≤ n := hq
      have e : y.toNat + (z.toNat - y.toNat) = z.toNat := by omega
      refine ⟨?_, by omega⟩
      simp only [Instr.sliceBounds, Sem.run_bind, Sem.run_pure, Result.andThen_ok, bound_run (show 0 ≤ z by omega) (show z ≤ (cap : Int) by omega), bound_run g0 (show y ≤ ((z.toNat : Nat) : Int) by omega), e]
    · cases h

theorem slice_ok {t : TypeId} {x : Operand} {lo hi : Option Operand} (hH : HeapOk β w H) (hρ : Rel β w (ρ x) (σ x)) (hlo : ∀ y, lo = some y → Rel β w (ρ y) (σ y)) (hhi : ∀ y, hi = some y → Rel β w (ρ y) (σ y))
    (h : mstep P ρ H nid (.slice t x lo hi none) = some (q, v, ob)) (hq : q.holds) : MOk β w nid ((execOp σ ⟨dst, .slice t x lo hi none, ty, pos, after, g⟩).run P w) v ob := by
  have b1 : ∀ (o : Option Operand), (∀ y, o = some y → Rel β w (ρ y) (σ y)) → ∀ a, o.map ρ = some a → ∃ x, o.map σ = some x ∧ Rel β w a x := by
    intro o ho a ha
    cases o with
    | none => cases ha
    | some y => simp at ha; subst ha; exact ⟨_, rfl, ho y rfl⟩
  have b2 : ∀ (o : Option Operand), o.map ρ = none → o.map σ = none := by
    intro o ho
    cases o with
    | none => rfl
    | some y => cases ho
  simp only [mstep] at h
  split at h
  · rename_i e es n f hu hx
    split at h
    · rename_i z qq l m hz hb
      obtain ⟨hc, h⟩ := bif_some h
      cases h
      rw [Bool.and_eq_true, Nat.blt_eq] at hc
      have hes := Nat.eq_of_beq_eq_true hc.1
      subst hes
      rw [hx] at hρ
      obtain ⟨a, cap, hsx, hcap, hnil, hrest⟩ := rel_isl_inv hρ
      · obtain ⟨h1, h2⟩ := bounds_ok (P := P) (isS := true) hcap (b1 lo hlo) (b2 lo) (b1 hi hhi) (b2 hi) hb hq
        refine ⟨.slice (if cap = l then a else a.map (·.add (l * z))) (l + m - l) (cap - l), ?_, ?_⟩
        · simp only [execOp, Instr.sliceAt, Instr.slice, hsx, Sem.run_bind, run_underlying hu, Result.andThen_ok, Option.map_none, h1, szT_run w hz, Sem.run_pure]
        · have em : l + m - l = m := by omega
          rw [em]
          by_cases hm : m = 0
          · subst hm
            refine .isl0 (fun h => ?_)
            cases a with
            | none => have := hnil rfl; omega
            | some x => split at h <;> simp at h
          · obtain ⟨b, off, vals, rfl, he, hfree, hcell, hrel, hcl, hoc⟩ := hrest (by omega)
            rw [if_neg (by omega)]
            simp only [Option.map_some, add_mk]
            refine .isl (fun i j => vals (i + l) j) he (by omega) hfree (fun i j hi hj => ?_) (fun i j hi hj => hoc _ _ (by omega) hj) (fun i j hi hj => hrel _ _ (by omega) hj) (fun i j hi hj => hcl _ _ (by omega) hj)
            rw [← hcell (i + l) j (by omega) hj]
            congr 2
            rw [Nat.add_mul]; omega
    · cases h
  · rename_i e id es i len hu hx
    split at h
    · rename_i o ho
      split at h
      · rename_i z qq l m hz hb
        obtain ⟨hc, h⟩ := bif_some h
        cases h
        rw [Bool.and_eq_true, Nat.blt_eq] at hc
        have hes := Nat.eq_of_beq_eq_true hc.1
        subst hes
        rw [hx] at hρ
        have hb0 := osl_ne hρ
        rcases osl_inv hH hρ ho with ⟨b, n, cap, sz, mu, el, hsx, hbk, hn, hcap, hsh, hsz⟩ | ⟨rfl, a, hsx⟩
        · obtain ⟨h1, h2⟩ := bounds_ok (P := P) (isS := true) hcap (b1 lo hlo) (b2 lo) (b1 hi hhi) (b2 hi) hb hq
          have em : l + m - l = m := by omega
          refine ⟨.slice (if cap = l then some ⟨b, i * z, none⟩ else some ⟨b, (l + i) * z, none⟩) m (cap - l), ?_, ?_⟩
          · have e2 : i * z + l * z = (l + i) * z := by rw [Nat.add_mul, Nat.add_comm]
            simp only [execOp, Instr.sliceAt, Instr.slice, hsx, Sem.run_bind, run_underlying hu, Result.andThen_ok, Option.map_none, Option.map_some, h1, szT_run w hz, Sem.run_pure, add_mk, e2, em]
          · by_cases hcl : cap = l
            · rw [if_pos hcl]
              obtain rfl : m = 0 := by omega
              rw [show cap - l = 0 by omega]
              exact .osl0 (by rw [hbk]; simp)
            · rw [if_neg hcl]
              exact .osl hbk (by omega) (by omega) hsh (by rw [show l + i + (cap - l) = i + cap by omega]; exact hsz)
        · obtain ⟨h1, h2⟩ := bounds_ok (P := P) (isS := true) (Nat.le_refl 0) (b1 lo hlo) (b2 lo) (b1 hi hhi) (b2 hi) hb hq
          obtain rfl : l = 0 := by omega
          obtain rfl : m = 0 := by omega
          refine ⟨.slice a 0 0, ?_, .osl0 hb0⟩
          simp only [execOp, Instr.sliceAt, Instr.slice, hsx, Sem.run_bind, run_underlying hu, Result.andThen_ok, Option.map_none, h1, szT_run w hz, Sem.run_pure, if_true, Nat.sub_self]
      · cases h
    · cases h
  · rename_i s hu hx
    split at h
    · rename_i qq l m hb
      cases h
      rw [hx] at hρ
      obtain ⟨h1, h2⟩ := bounds_ok (P := P) (isS := false) (Nat.le_refl _) (b1 lo hlo) (b2 lo) (b1 hi hhi) (b2 hi) hb hq
      refine ⟨.string (s.extract l (l + m)), ?_, .str⟩
      simp only [execOp, Instr.sliceAt, Instr.slice, rel_str_inv hρ, Sem.run_bind, run_underlying hu, Result.andThen_ok, Option.map_none, Option.isSome_none, Bool.false_eq_true, if_false, h1, Sem.run_pure]
    · cases h
  · cases h

theorem equalIn_bool (d : Nat) {t : TypeId} (a b : Bool) (hu : P.underlying t = some .bool) : (Op.equalIn (d + 1) t (.bool a) (.bool b)).run P w = .ok (a == b) w := by
  simp only [Op.equalIn, Sem.run_bind, run_underlying hu, Result.andThen_ok, Sem.run_pure]

theorem equal_bool {t : TypeId} (a b : Bool) (hu : P.underlying t = some .bool) : (Op.equal t (.bool a) (.bool b)).run P w = .ok (a == b) w := equalIn_bool 9999 a b hu

theorem rel_nsl_inv {v : Value} (h : Rel β w .nsl v) : v = .slice none 0 0 := by cases h; rfl
theorem equalIn_nil (d : Nat) {t e : TypeId} (hu : P.underlying t = some (.slice e)) : (Op.equalIn (d + 1) t (.slice none 0 0) (.slice none 0 0)).run P w = .ok true w := by
  simp only [Op.equalIn, Sem.run_bind, run_underlying hu, Result.andThen_ok, Sem.run_pure]
  rfl
theorem equalIn_notnil (d : Nat) {t e : TypeId} (hu : P.underlying t = some (.slice e)) (ad : Addr) (n c : Nat) : (Op.equalIn (d + 1) t (.slice (some ad) n c) (.slice none 0 0)).run P w = .ok false w := by
  simp only [Op.equalIn, Sem.run_bind, run_underlying hu, Result.andThen_ok, Sem.run_pure]

theorem eqRes_ok {op : BinOp} {t ty2 : TypeId} {x y : Operand} {a b : Value} {r : Bool} {v : AV} (h : eqRes op r = some v) (hx : σ x = a) (hy : σ y = b) (hg : ∀ cs, a = .agg cs → P.eqGuardType P.depth t = false)
    (hk : (match a with | .slice .. | .agg _ => true | _ => false) = true) (he : (Op.equal t a b).run P w = .ok r w) :
    MOk β w nid ((execOp σ ⟨dst, .binOp op t x y ty2, ty, pos, after, g⟩).run P w) v none := by
  have hgd : (eqGuard op t x y a b).run P w = .ok () w := by
    unfold eqGuard
    cases op <;> simp [eqRes] at h <;> (cases a <;> simp at hk <;> cases b <;> simp [run_program])
    all_goals (rename_i xs ys; rw [hg xs rfl]; simp)
  have hbin : ∃ u, (binOp op t a b).run P w = .ok u w ∧ Rel β w v u := by
    cases op <;> simp only [eqRes, reduceCtorEq, Option.some.injEq] at h
    · subst h
      refine ⟨.bool r, ?_, .bool⟩
      cases a <;> simp at hk <;> cases b <;> simp [binOp, he]
    · subst h
      refine ⟨.bool (!r), ?_, .bool⟩
      cases a <;> simp at hk <;> cases b <;> simp [binOp, he]
  obtain ⟨u, hu, hr⟩ := hbin
  refine ⟨u, ?_, hr⟩
  simp only [execOp, hx, hy, Sem.run_bind, hgd, Result.andThen_ok, hu, Sem.run_pure]

theorem binOp_ok {op : BinOp} {t ty2 : TypeId} {x y : Operand} (hσ : ∀ v, σ (.const v) = v) (hx : Rel β w (ρ x) (σ x)) (hy : Rel β w (ρ y) (σ y)) (h : mstep P ρ H nid (.binOp op t x y ty2) = some (q, v, ob)) (hq : q.holds) :
    MOk β w nid ((execOp σ ⟨dst, .binOp op t x y ty2, ty, pos, after, g⟩).run P w) v ob := by
  simp only [mstep] at h
  split at h
  · rename_i k a k' b hx' hy'
    rw [hx'] at hx
    rw [hy'] at hy
    simp only [Option.map_eq_some_iff, Prod.mk.injEq] at h
    obtain ⟨⟨q', v'⟩, hb, rfl, rfl, rfl⟩ := h
    obtain ⟨u, hu, hr⟩ := intBin_ok (P := P) (t := t) hσ hy hb hq
    refine ⟨u, ?_, hr⟩
    have e1 := rel_int_inv hx
    have e2 := rel_int_inv hy
    simp only [execOp, e1, e2, Sem.run_bind, eqGuard_int, Result.andThen_ok, hu, Sem.run_pure]
  · rename_i a b hx' hy'
    rw [hx'] at hx
    rw [hy'] at hy
    have e1 := rel_bool_inv hx
    have e2 := rel_bool_inv hy
    split at h
    · rename_i hu
      cases h
      refine ⟨.bool (a == b), ?_, .bool⟩
      simp only [execOp, e1, e2, eqGuard, binOp, Sem.run_bind, equal_bool a b hu, Result.andThen_ok, Sem.run_pure]
      rfl
    · rename_i hu
      cases h
      refine ⟨.bool (!(a == b)), ?_, .bool⟩
      simp only [execOp, e1, e2, eqGuard, binOp, Sem.run_bind, equal_bool a b hu, Result.andThen_ok, Sem.run_pure]
      rfl
    · cases h
  · rename_i a b hx' hy'
    rw [hx'] at hx
    rw [hy'] at hy
    have e1 := rel_str_inv hx
    have e2 := rel_str_inv hy
    split at h
    · cases h
      have hl : a.size + b.size ≤ maxLen := hq
      unfold maxLen at hl
      refine ⟨.string (a ++ b), ?_, .str⟩
      have hm : ¬ (((a.size + b.size : Nat) : Int) > IntKind.i64.max) := by
        have : IntKind.i64.max = 9223372036854775807 := rfl
        rw [this]; omega
      simp only [execOp, e1, e2, eqGuard, binOp, Op.stringOp, Sem.run_bind, Sem.run_pure, Sem.run_ite, if_neg hm]
      rfl
    · cases h
      refine ⟨.bool (a.toList == b.toList), ?_, .bool⟩
      simp only [execOp, e1, e2, eqGuard, binOp, Op.stringOp, Sem.run_bind, Sem.run_pure]
      rfl
    · cases h
      refine ⟨.bool (!(a.toList == b.toList)), ?_, .bool⟩
      simp only [execOp, e1, e2, eqGuard, binOp, Op.stringOp, Sem.run_bind, Sem.run_pure]
      rfl
    · cases h
      refine ⟨.bool (Op.bytesLess a.toList b.toList), ?_, .bool⟩
      simp only [execOp, e1, e2, eqGuard, binOp, Op.stringOp, Sem.run_bind, Sem.run_pure]
      rfl
    · cases h
  · rename_i hx' hy'
    rw [hx'] at hx
    rw [hy'] at hy
    split at h
    · rename_i el hu
      simp only [Option.map_eq_some_iff, Prod.mk.injEq] at h
      obtain ⟨v', hv, -, rfl, rfl⟩ := h
      have e1 := rel_nsl_inv hx
      have e2 := rel_nsl_inv hy
      have heq : (Op.equal t (.slice none 0 0) (.slice none 0 0)).run P w = .ok true w := equalIn_nil 9999 hu
      exact eqRes_ok hv e1 e2 (fun cs h => by cases h) rfl heq
    · cases h
  · rename_i u hx' hy'
    rw [hx'] at hx
    rw [hy'] at hy
    split at h
    · rename_i el hu
      simp only [Option.map_eq_some_iff, Prod.mk.injEq] at h
      obtain ⟨v', hv, -, rfl, rfl⟩ := h
      have e2 := rel_nsl_inv hy
      generalize hsx : σ x = vx at hx
      cases hx with
      | @nn _ ad n c _ =>
        have heq : (Op.equal t (.slice (some ad) n c) (.slice none 0 0)).run P w = .ok false w := equalIn_notnil 9999 hu ad n c
        exact eqRes_ok hv hsx e2 (fun cs h => by cases h) rfl heq
    · cases h
  · rename_i xs ys hx' hy'
    rw [hx'] at hx
    rw [hy'] at hy
    cases hgt : P.eqGuardType P.depth t with
    | true => simp [hgt] at h
    | false =>
      simp only [hgt, cond_false] at h
      split at h
      · rename_i b hb
        simp only [Option.map_eq_some_iff, Prod.mk.injEq] at h
        obtain ⟨v', hv, -, rfl, rfl⟩ := h
        obtain ⟨us, e1, hus⟩ := rel_agg_inv hx
        obtain ⟨vs, e2, hvs⟩ := rel_agg_inv hy
        rw [e1] at hx
        rw [e2] at hy
        have heq := eqAV_ok 9 t (.agg xs) (.agg ys) b _ _ hb hx hy Op.maxDepth (by decide)
        exact eqRes_ok hv e1 e2 (fun _ _ => hgt) rfl heq
      · cases h
  · cases h

theorem mstep_ok {o : Oper} (hσ : ∀ v, σ (.const v) = v) (hH : HeapOk β w H) (hρ : ∀ x, x ∈ o.op.operands → Rel β w (ρ x) (σ x)) (h : mstep P ρ H nid o.op = some (q, v, ob)) (hq : q.holds) :
    MOk β w nid ((execOp σ o).run P w) v ob := by
  obtain ⟨dst, op, ty, pos, after, g⟩ := o
  have h' := h
  cases op <;> try (simp [mstep] at h; done)
  case move x => simp [mstep] at h; obtain ⟨-, rfl, rfl⟩ := h; exact ⟨_, by simp [execOp], hρ x (by simp [Op.operands])⟩
  case assign x => simp [mstep] at h; obtain ⟨-, rfl, rfl⟩ := h; exact ⟨_, by simp [execOp], hρ x (by simp [Op.operands])⟩
  case pick c a b =>
    have hc := hρ c (by simp [Op.operands])
    have ha := hρ a (by simp [Op.operands])
    have hb := hρ b (by simp [Op.operands])
    simp only [mstep] at h
    split at h
    · rename_i c' a' b' h1 h2 h3
      cases h
      rw [h1] at hc; rw [h2] at ha; rw [h3] at hb
      have e1 := rel_bool_inv hc
      have e2 := rel_bool_inv ha
      have e3 := rel_bool_inv hb
      refine ⟨.bool (bif c' then a' else b'), ?_, .bool⟩
      cases c' <;> simp [execOp, e1, e2, e3, asBool]
    · cases h
  case alloc t => exact alloc_ok h
  case box t x => exact box_ok (hρ x (by simp [Op.operands])) h
  case build t ps => exact build_ok (fun p hp => hρ p.2 (by simp only [Op.operands, List.mem_toArray, List.mem_map]; exact ⟨p, hp, rfl⟩)) h
  case buildSlice t n ps => exact buildSlice_ok (fun p hp => hρ p.2 (by simp only [Op.operands, List.mem_toArray, List.mem_map]; exact ⟨p, hp, rfl⟩)) h
  case load t a => exact load_ok hH (hρ a (by simp [Op.operands])) h
  case nilCheck x => exact nilCheck_ok hH (hρ x (by simp [Op.operands])) h
  case binOp op t x y t2 => exact binOp_ok hσ (hρ x (by simp [Op.operands])) (hρ y (by simp [Op.operands])) h hq
  case unOp op t x => exact unOp_ok (hρ x (by simp [Op.operands])) h
  case convert s d x => exact convert_ok (hρ x (by simp [Op.operands])) h
  case makeInterface t x => exact makeInterface_ok (hρ x (by simp [Op.operands])) h
  case makeFunc f fs cs => exact makeFunc_ok (fun x hx => hρ x (by simp [Op.operands, hx])) (fun x hx => hρ x (by simp [Op.operands, hx])) h
  case slice t x lo hi mx =>
    cases mx with
    | some m => simp [mstep] at h
    | none => exact slice_ok hH (hρ x (by simp [Op.operands])) (fun y hy => hρ y (by subst hy; simp [Op.operands])) (fun y hy => hρ y (by subst hy; simp [Op.operands])) h hq
  case fieldAddr s x k => exact fieldAddr_ok hH (hρ x (by simp [Op.operands])) h
  case field t x k => exact field_ok (hρ x (by simp [Op.operands])) h
  case indexAddr t x ix => exact indexAddr_ok hH (hρ x (by simp [Op.operands])) (hρ ix (by simp [Op.operands])) h hq
  case index t x ix => exact index_ok (hρ x (by simp [Op.operands])) (hρ ix (by simp [Op.operands])) h hq
  case extract x k => exact extract_ok (hρ x (by simp [Op.operands])) h
  case call c =>
    obtain ⟨callee, args, ts⟩ := c
    cases callee with
    | builtin b =>
      cases b <;> try (simp [mstep] at h; done)
      exact len_ok hH (fun x hx => hρ x (by simp [Op.operands, Call.operands, hx])) h
    | value f => simp [mstep] at h
    | invoke r m => simp [mstep] at h

end
end Go.Am
