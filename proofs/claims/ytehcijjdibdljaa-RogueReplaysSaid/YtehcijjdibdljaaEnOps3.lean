/-
  The engine, part 3c: 'mstep' is right, the other operations.
-/
import Derived.Test.YtehcijjdibdljaaEnOps2
namespace Go.Am
open Go.RowKit

section
variable {P : Program} {β : Book} {w : World} {ρ : Operand → AV} {σ : Operand → Value} {H : Heap} {nid : Nat}
variable {v : AV} {q : Rq} {ob : Option Ob} {dst : Option Tmp} {ty : TypeId} {pos : String} {after : Array Edge} {g : Option (Nat × Bool)}

theorem alloc_ok {t : TypeId} (h : mstep P ρ H nid (.alloc t) = some (q, v, ob)) : MOk β w nid ((execOp σ ⟨dst, .alloc t, ty, pos, after, g⟩).run P w) v ob := by
  simp only [mstep] at h
  split at h
  · rename_i z hz
    obtain ⟨hone, h⟩ := bif_some h
    simp only [Option.some.injEq, Prod.mk.injEq] at h
    obtain ⟨-, rfl, rfl⟩ := h
    refine boxed_ok (vs := z.cells) (el := t) hone (zcells_length z) (rel_zcells β w z) ?_
    simp [execOp, Instr.alloc, zero_run w hz, newVar, newRow]
  · cases h

theorem box_ok {t : TypeId} {x : Operand} (hρ : Rel β w (ρ x) (σ x)) (h : mstep P ρ H nid (.box t x) = some (q, v, ob)) : MOk β w nid ((execOp σ ⟨dst, .box t x, ty, pos, after, g⟩).run P w) v ob := by
  simp only [mstep] at h
  split at h
  · rename_i cs hc
    obtain ⟨hone, h⟩ := bif_some h
    simp only [Option.some.injEq, Prod.mk.injEq] at h
    obtain ⟨-, rfl, rfl⟩ := h
    obtain ⟨h1, h2⟩ := rel_cells hρ hc
    refine boxed_ok (vs := (σ x).cells) (el := t) hone h1 h2 ?_
    simp [execOp, Instr.box, newVar, newRow]
  · cases h

theorem places_run (fields : List Field) (h : fields.all (fun f => (P.info? f.type).isSome) = true) :
    (fields.mapM fun f => do pure (f.offset, ← sizeOf f.type) : Sem (List (Nat × Nat))).run P w = .ok (fields.map fun f => (f.offset, P.cellsOf f.type)) w := by
  induction fields with
  | nil => simp
  | cons f fs ih =>
    simp only [List.all_cons, Bool.and_eq_true] at h
    obtain ⟨i, hi⟩ := Option.isSome_iff_exists.1 h.1
    have hs : (sizeOf f.type).run P w = .ok i.size w := szT_run w (by simp [szT, hi])
    simp only [List.mapM_cons, Sem.run_bind, hs, Result.andThen_ok, Sem.run_pure, ih h.2, List.map_cons, Program.cellsOf, hi, Option.map_some, Option.getD_some]

theorem build_ok {t : TypeId} {parts : Array (Nat × Operand)} (hρ : ∀ p, p ∈ parts.toList → Rel β w (ρ p.2) (σ p.2)) (h : mstep P ρ H nid (.build t parts) = some (q, v, ob)) :
    MOk β w nid ((execOp σ ⟨dst, .build t parts, ty, pos, after, g⟩).run P w) v ob := by
  simp only [mstep] at h
  split at h
  · rename_i z fields hz hu
    cases hall : fields.all (fun f => (P.info? f.type).isSome) with
    | false => simp [hall] at h
    | true =>
      simp only [hall, cond_true, Option.map_eq_some_iff, Prod.mk.injEq] at h
      obtain ⟨cs, hcs, -, rfl, rfl⟩ := h
      have hp := places_run (P := P) (w := w) fields.toList (by simpa using hall)
      obtain ⟨zs, hz1, hz2⟩ := fill_ok (place' := fun i => ((fields.toList.map fun f => (f.offset, P.cellsOf f.type)).toArray)[i]?) (σ := σ) (by intro i; simp) parts.toList _ z.cells cs ⟨zcells_length z, rel_zcells β w z⟩ hρ hcs
      have hpa : (fields.mapM fun f => do pure (f.offset, ← sizeOf f.type) : Sem (Array (Nat × Nat))).run P w = .ok (fields.toList.map fun f => (f.offset, P.cellsOf f.type)).toArray w := by
        rw [Array.mapM_eq_mapM_toList]
        simp only [Sem.run_map, hp, Result.andThen_ok]
      refine ⟨.agg zs, ?_, .agg hz2.len hz2.rel⟩
      simp only [execOp, Instr.build, Sem.run_bind, zero_run w hz, run_underlying hu, Result.andThen_ok, hpa]
      rw [Array.toList_map]
      simp only [hz1, Sem.run_pure, Result.andThen_ok]
  · rename_i z len e hz hu
    split at h
    · rename_i s hs
      simp only [Option.map_eq_some_iff, Prod.mk.injEq] at h
      obtain ⟨cs, hcs, -, rfl, rfl⟩ := h
      obtain ⟨zs, hz1, hz2⟩ := fill_ok (place' := fun i => some (i * s, s)) (σ := σ) (fun _ => rfl) parts.toList _ z.cells cs ⟨zcells_length z, rel_zcells β w z⟩ hρ hcs
      refine ⟨.agg zs, ?_, .agg hz2.len hz2.rel⟩
      simp only [execOp, Instr.build, Sem.run_bind, zero_run w hz, run_underlying hu, Result.andThen_ok, szT_run w hs]
      rw [Array.toList_map]
      simp only [hz1, Sem.run_pure, Result.andThen_ok]
    · cases h
  · cases h

theorem field_ok {t : TypeId} {x : Operand} {k : Nat} (hρ : Rel β w (ρ x) (σ x)) (h : mstep P ρ H nid (.field t x k) = some (q, v, ob)) :
    MOk β w nid ((execOp σ ⟨dst, .field t x k, ty, pos, after, g⟩).run P w) v ob := by
  simp only [mstep] at h
  split at h
  · rename_i fields cs hu hx
    split at h
    · rename_i f hf
      simp only [Option.map_eq_some_iff, Prod.mk.injEq] at h
      obtain ⟨v', hv, -, rfl, rfl⟩ := h
      rw [hx] at hρ
      obtain ⟨vs, hvs, hr⟩ := rel_agg_inv hρ
      obtain ⟨u, hu1, hu2⟩ := part_ok hr hv
      exact ⟨u, by simp [execOp, Instr.field, run_underlying hu, hf, hvs, asAgg, hu1], hu2⟩
    · cases h
  · cases h

theorem extract_ok {x : Operand} {k : Nat} (hρ : Rel β w (ρ x) (σ x)) (h : mstep P ρ H nid (.extract x k) = some (q, v, ob)) :
    MOk β w nid ((execOp σ ⟨dst, .extract x k, ty, pos, after, g⟩).run P w) v ob := by
  simp only [mstep] at h
  split at h
  · rename_i cs hx
    simp only [Option.map_eq_some_iff, Prod.mk.injEq] at h
    obtain ⟨v', hv, -, rfl, rfl⟩ := h
    rw [hx] at hρ
    obtain ⟨vs, hvs, hr⟩ := rel_tup_inv hρ
    obtain ⟨u, hu1, hu2⟩ := hr.at hv
    exact ⟨u, by simp [execOp, Instr.extract, hvs, hu1], hu2⟩
  · cases h

theorem unOp_ok {op : UnOp} {t : TypeId} {x : Operand} (hρ : Rel β w (ρ x) (σ x)) (h : mstep P ρ H nid (.unOp op t x) = some (q, v, ob)) :
    MOk β w nid ((execOp σ ⟨dst, .unOp op t x, ty, pos, after, g⟩).run P w) v ob := by
  simp only [mstep] at h
  split at h
  · rename_i b hx
    cases h
    rw [hx] at hρ
    exact ⟨_, by simp [execOp, rel_bool_inv hρ, Op.unary], .bool⟩
  · rename_i k n hx
    cases h
    rw [hx] at hρ
    exact ⟨_, by simp [execOp, rel_int_inv hρ, Op.unary, Op.intArith], .int⟩
  · rename_i k n hx
    rw [hx] at hρ
    simp only [bitsOf, Option.map_some, Option.some.injEq, Prod.mk.injEq] at h
    obtain ⟨-, rfl, rfl⟩ := h
    exact ⟨_, by simp [execOp, rel_int_inv hρ, Op.unary, Op.intBits], .int⟩
  · cases h

theorem convert_ok {s d : TypeId} {x : Operand} (hρ : Rel β w (ρ x) (σ x)) (h : mstep P ρ H nid (.convert s d x) = some (q, v, ob)) :
    MOk β w nid ((execOp σ ⟨dst, .convert s d x, ty, pos, after, g⟩).run P w) v ob := by
  simp only [mstep] at h
  split at h
  · rename_i ds k k' n h1 h2 hx
    cases h
    rw [hx] at hρ
    exact ⟨_, by simp [execOp, rel_int_inv hρ, convert, run_underlying h1, run_underlying h2, Conv.intToInt], .int⟩
  · rename_i ds sx h1 h2 hx
    cases h
    rw [hx] at hρ
    exact ⟨_, by simp [execOp, rel_str_inv hρ, convert, run_underlying h1, run_underlying h2], .str⟩
  · cases h

theorem makeInterface_ok {t : TypeId} {x : Operand} (hρ : Rel β w (ρ x) (σ x)) (h : mstep P ρ H nid (.makeInterface t x) = some (q, v, ob)) :
    MOk β w nid ((execOp σ ⟨dst, .makeInterface t x, ty, pos, after, g⟩).run P w) v ob := by
  simp only [mstep] at h
  split at h
  · cases h
  · rename_i d h1 hu
    cases h
    refine ⟨.iface t (σ x), ?_, .ifc hρ⟩
    simp only [execOp, Instr.makeInterface, Sem.run_bind, run_underlying hu, Result.andThen_ok]
    cases d <;> first | rfl | exact absurd rfl (h1 _)
  · cases h

theorem makeFunc_ok {f : Fn} {fs cs : Array Operand} (hf : ∀ x, x ∈ fs → Rel β w (ρ x) (σ x)) (hc : ∀ x, x ∈ cs → Rel β w (ρ x) (σ x)) (h : mstep P ρ H nid (.makeFunc f fs cs) = some (q, v, ob)) :
    MOk β w nid ((execOp σ ⟨dst, .makeFunc f fs cs, ty, pos, after, g⟩).run P w) v ob := by
  simp only [mstep] at h
  cases h
  have aux : ∀ (xs : Array Operand), (∀ x, x ∈ xs → Rel β w (ρ x) (σ x)) → ∀ (j : Nat) u x, (xs.toList.map ρ)[j]? = some u → (xs.map σ)[j]? = some x → Rel β w u x := by
    intro xs hxs j u x hu hx
    rw [List.getElem?_map] at hu
    rw [Array.getElem?_map] at hx
    cases he : xs[j]? with
    | none => simp [he] at hx
    | some y =>
      simp [he] at hu hx
      subst hu; subst hx
      exact hxs y (Array.mem_of_getElem? he)
  exact ⟨.func f (fs.map σ) (cs.map σ), by simp [execOp, Instr.makeFunc], .fn (by simp) (aux fs hf) (by simp) (aux cs hc)⟩

theorem nilCheck_ok {x : Operand} (hH : HeapOk β w H) (hρ : Rel β w (ρ x) (σ x)) (h : mstep P ρ H nid (.nilCheck x) = some (q, v, ob)) :
    MOk β w nid ((execOp σ ⟨dst, .nilCheck x, ty, pos, after, g⟩).run P w) v ob := by
  simp only [mstep] at h
  split at h
  · rename_i id es i j m hx
    split at h
    · rename_i o ho
      cases h
      rw [hx] at hρ
      cases hu : σ x <;> rw [hu] at hρ <;> cases hρ
      · exact ⟨_, by simp only [execOp, hu]; rfl, .own ‹_› ‹_› ‹_›⟩
      · rename_i hd
        exact (hH.dead ho hd).elim
    · cases h
  · rename_i m gg hx
    cases h
    rw [hx] at hρ
    obtain ⟨b, off, vals, hu, _⟩ := rel_ipt_inv hρ
    exact ⟨_, by simp only [execOp, hu]; rfl, hu ▸ hρ⟩
  · rename_i f a b hx
    cases h
    rw [hx] at hρ
    cases hu : σ x <;> rw [hu] at hρ <;> cases hρ
    exact ⟨_, by simp only [execOp, hu]; rfl, .fn ‹_› ‹_› ‹_› ‹_›⟩
  · cases h

end
end Go.Am
