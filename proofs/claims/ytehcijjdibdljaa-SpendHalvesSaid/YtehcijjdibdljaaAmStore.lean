/-
  The engine, part 9: a store into an object of one's own.
-/
import Derived.Test.YtehcijjdibdljaaAmSound
namespace Go.Am
open Go.RowKit

/-- w' is w, but block b holds the cells cs. -/
structure Wrote (w w' : World) (b : Nat) (cs : Array Value) (el : TypeId) : Prop where
  at_ : w'.heap[b]? = some (.cells cs el (0, 0))
  other : ∀ k, k ≠ b → w'.heap[k]? = w.heap[k]?
  size : w'.heap.size = w.heap.size
  os : w'.os = w.os
  tape : w'.tape = w.tape
  output : w'.output = w.output

theorem store_one {P : Program} {w : World} {b off : Nat} {cs : Array Value} {el : TypeId} {v : Value} (hb : w.heap[b]? = some (.cells cs el (0, 0))) (ho : off < cs.size) (hv : v.oneCell' = true) :
    ∃ w', (store ⟨b, off, none⟩ v).run P w = .ok () w' ∧ Wrote w w' b (cs.setIfInBounds off v) el := by
  refine ⟨w.setCell ⟨b, off, none⟩ v, ?_, ?_⟩
  · rw [run_store _ _ _ _ _ hv]
    simp [World.cell?, World.frozen?, hb, ho]
  · refine ⟨?_, fun k hk => Below.heap_setCell w _ v k hk, World.size_setCell .., rfl, rfl, rfl⟩
    simp [World.setCell, Array.getElem?_modify, hb]

theorem storeCells_ok {P : Program} {b off : Nat} {el : TypeId} (vs : List Value) : ∀ (n : Nat) (w : World) (cs : Array Value), w.heap[b]? = some (.cells cs el (0, 0)) → off + n + vs.length ≤ cs.size → (∀ v, v ∈ vs → v.oneCell' = true) →
    ∃ w', (storeCells ⟨b, off, none⟩ vs n).run P w = .ok () w' ∧ Wrote w w' b ((vs.zipIdx n).foldl (fun cs (c, j) => cs.setIfInBounds (off + j) c) cs) el := by
  induction vs with
  | nil => intro n w cs hb _ _; exact ⟨w, by simp [storeCells], hb, fun _ _ => rfl, rfl, rfl, rfl, rfl⟩
  | cons v vs ih =>
    intro n w cs hb hl hv
    simp only [List.length_cons] at hl
    obtain ⟨w1, h1, hw1⟩ := store_one (P := P) (off := off + n) hb (by omega) (hv v (List.mem_cons_self ..))
    obtain ⟨w2, h2, hw2⟩ := ih (n + 1) w1 _ hw1.at_ (by simp; omega) (fun x hx => hv x (List.mem_cons_of_mem _ hx))
    refine ⟨w2, ?_, ?_⟩
    · simp only [storeCells, Sem.run_bind, add_mk, h1, Result.andThen_ok, h2]
    · simp only [List.zipIdx_cons, List.foldl_cons]
      exact ⟨hw2.at_, fun k hk => (hw2.other k hk).trans (hw1.other k hk), hw2.size.trans hw1.size, hw2.os.trans hw1.os, hw2.tape.trans hw1.tape, hw2.output.trans hw1.output⟩

/-- What the cells are behind it. -/
theorem foldl_set (vs : List Value) : ∀ (n off : Nat) (cs : Array Value) (k : Nat), (((vs.zipIdx n).foldl (fun cs (c, j) => cs.setIfInBounds (off + j) c) cs)).size = cs.size ∧
    (((vs.zipIdx n).foldl (fun cs (c, j) => cs.setIfInBounds (off + j) c) cs))[k]? = if off + n ≤ k ∧ k < off + n + vs.length ∧ k < cs.size then vs[k - (off + n)]? else cs[k]? := by
  induction vs with
  | nil => intro n off cs k; simp; intro h1 h2; omega
  | cons v vs ih =>
    intro n off cs k
    simp only [List.zipIdx_cons, List.foldl_cons]
    obtain ⟨h1, h2⟩ := ih (n + 1) off (cs.setIfInBounds (off + n) v) k
    refine ⟨by rw [h1]; simp, ?_⟩
    rw [h2]
    simp only [Array.size_setIfInBounds, List.length_cons]
    by_cases hk : off + n = k
    · subst hk
      rw [if_neg (by omega)]
      by_cases hlt : off + n < cs.size
      · rw [if_pos ⟨Nat.le_refl _, by omega, hlt⟩]
        simp [hlt]
      · rw [if_neg (by omega)]
        simp [hlt]
    · by_cases hc : off + (n + 1) ≤ k ∧ k < off + (n + 1) + vs.length ∧ k < cs.size
      · rw [if_pos hc, if_pos (by omega)]
        have : k - (off + n) = (k - (off + (n + 1))) + 1 := by omega
        rw [this]
        rfl
      · rw [if_neg hc, if_neg (by omega)]
        rw [Array.getElem?_setIfInBounds_ne hk]

theorem one_cell {β : Book} {w : World} {u : AV} {v : Value} (h : Rel β w u v) (ho : u.one = true) : v.oneCell' = true := by
  cases h <;> first | rfl | (simp [AV.one] at ho; done) | skip
  case raw hh => cases v <;> first | rfl | (simp [AV.one] at ho)

section
variable {K : Ctx} {ops : Array Oper} {c : Nat} {E : Nat → Prop} {β : Book} {s : RSt} {a : Act} {w : World} {i : Nat} {o : Oper}

theorem Wrote.shape {w w' : World} {b : Nat} {cs cs' : Array Value} {el : TypeId} (h : Wrote w w' b cs' el) (hb : w.heap[b]? = some (.cells cs el (0, 0))) (hs : cs'.size = cs.size) (k : Nat) : w'.shape? k = w.shape? k := by
  by_cases e : k = b
  · subst e; simp [World.shape?, h.at_, hb, hs]
  · exact shape_of_block (h.other k e)

theorem Wrote.keeps {w w' : World} {b id n : Nat} {cs cs' : Array Value} {el : TypeId} (h : Wrote w w' b cs' el) (hb : w.heap[b]? = some (.cells cs el (0, 0))) (hs : cs'.size = cs.size) (hm : β.m id = some (.lives b n true)) : Keeps β w β w' :=
  ⟨fun _ o h => ⟨o, h, o.later_refl⟩, fun k _ hf => h.other k (fun e => by subst e; exact hf.2 id n hm), fun _ _ h => h, fun k el' sz hk => by rw [h.shape hb hs]; exact hk⟩

/-- A store, and the object behind it. -/
theorem RSim.stored {q : Rq} {v : AV} {H' : Heap} (hs : RSim K ops c E β s a w) (hp : Pre K ops s i o) (hE : E i) (hg : o.guard = none) (hρ : ∀ x, x ∈ o.op.operands → Rel β w (ev K.gl s.fr x) (a.eval x))
    (h : estep K.P (ev K.gl s.fr) s.H o.op = some (q, v, H')) :
    ∃ w', (execOp a.eval o).run K.P w = .ok .skip w' ∧ RSim K ops c (less E i) β ({ s with H := H' }.put c i o v none) (a.put o.dst undef) w' := by
  obtain ⟨dst, op, ty, pos, after, g⟩ := o
  cases op <;> simp only [estep, reduceCtorEq] at h
  rename_i t ax x
  have ha := hρ ax (by simp [Op.operands])
  have hx := hρ x (by simp [Op.operands])
  split at h
  · rename_i id es ii j m cs z hav hcs hz
    split at h
    · rename_i ob hob
      obtain ⟨hc, h⟩ := bif_some h
      simp only [Option.some.injEq, Prod.mk.injEq] at h
      obtain ⟨-, rfl, rfl⟩ := h
      simp only [Bool.and_eq_true, Nat.ble_eq] at hc
      obtain ⟨⟨⟨⟨hmu, hes⟩, hlen⟩, hzm⟩, hone⟩ := hc
      have hes := Nat.eq_of_beq_eq_true hes
      have hlen := Nat.eq_of_beq_eq_true hlen
      subst hes
      rw [hav] at ha
      obtain ⟨b, n, mu, hau, hbk, hi, hj⟩ := own_addr hs.h.ok ha hob
      have hgid : s.G (s.ht id) = true := by
        cases hgi : s.G (s.ht id) with
        | true => rfl
        | false => have := hs.h.hdead id ob hob hgi; rw [hbk] at this; cases this
      obtain ⟨b', hb', vs, el, hheap, hsz, hcells⟩ := hs.h.heap id ob hob hgid
      rw [hbk] at hb'
      cases hb'
      rw [hmu] at hbk
      obtain ⟨hcl, hcr⟩ := rel_cells hx hcs
      have hrow : ii * ob.es + ob.es ≤ vs.size := by
        have := Nat.mul_le_mul_right ob.es (show ii + 1 ≤ ob.n by omega)
        rw [Nat.add_mul] at this
        omega
      obtain ⟨w', hrun, hwr⟩ := storeCells_ok (P := K.P) (off := ii * ob.es + j) (a.eval x).cells.toList 0 w vs hheap (by simp; omega) (fun y hy => by
        obtain ⟨q', hq', rfl⟩ := List.getElem_of_mem hy
        have hq2 : q' < cs.length := by rw [hcl]; simpa using hq'
        have := hcr q' cs[q'] ((a.eval x).cells.toList[q']) (by simp [hq2]) (by simp at hq'; simp [hq'])
        exact one_cell this (List.all_eq_true.1 hone _ (List.getElem_mem hq2)))
      have hset := foldl_set (a.eval x).cells.toList 0 (ii * ob.es + j) vs
      have hk := hwr.keeps hheap (hset 0).1 hbk
      refine ⟨w', ?_, ?_, ?_⟩
      · simp only [execOp, Instr.storeAt, hau, Instr.sureAddr, Sem.run_bind, Sem.run_pure, Result.andThen_ok, storeVar, szT_run w hz, if_neg (show ¬ (a.eval x).cells.size ≠ z by omega), hrun]
      · have hs' := hs.h.less (i := i) (hg' := fun id => s.G (s.ht id)) (fun _ _ => rfl)
        have hGput : ∀ (H2 : Heap) id', (({ s with H := H2 } : RSt).put c i ⟨dst, .store t ax x, ty, pos, after, g⟩ .junk none).G ((({ s with H := H2 } : RSt).put c i ⟨dst, .store t ax x, ty, pos, after, g⟩ .junk none).ht id') = s.G (s.ht id') :=
          fun H2 id' => put_G (c := c) (s := { s with H := H2 }) (hs.f.todo i hE) _ .junk none (s.ht id') (fun j b h => hs.f.htok id' j b h)
        refine ⟨fun id' o' ho' hgi => ?_, fun id' o' ho' hgi => ?_, hs'.inj, hs'.fresh, hs'.freshE, fun id' b' n' mu' hm => ?_, hs'.bF, hs'.hF, ?_, by rw [hwr.size]; exact hs'.hB, fun g m h hgl => (hs'.glob g m h hgl).keep hk⟩
        · rw [hGput] at hgi
          have ho'' : upd s.H id (some { ob with f := fun i' j' => bif Nat.beq i' ii && (Nat.ble j j' && Nat.blt j' (j + z)) then atL cs (j' - j) else ob.f i' j' }) id' = some o' := ho'
          by_cases e : id' = id
          · subst e
            rw [upd_same] at ho''
            cases ho''
            refine ⟨b, by rw [hbk, hmu], _, el, hwr.at_, by rw [(hset 0).1]; exact hsz, fun p q hp' hq' => ?_⟩
            have hp'' : p < ob.n := hp'
            have hq'' : q < ob.es := hq'
            obtain ⟨y, hy, hyr⟩ := hcells p q hp'' hq''
            have hlt : p * ob.es + q < vs.size := (Array.getElem?_eq_some_iff.1 hy).1
            rw [(hset (p * ob.es + q)).2]
            show ∃ v, _ ∧ Rel β w' (bif Nat.beq p ii && (Nat.ble j q && Nat.blt q (j + z)) then atL cs (q - j) else ob.f p q) v
            cases hcond : (Nat.beq p ii && (Nat.ble j q && Nat.blt q (j + z))) with
            | true =>
              simp only [Bool.and_eq_true, Nat.ble_eq, Nat.blt_eq] at hcond
              obtain ⟨e1, e2, e3⟩ := hcond
              have e1 := Nat.eq_of_beq_eq_true e1
              subst e1
              rw [if_pos (by simp; omega)]
              have hq3 : q - j < cs.length := by omega
              have hq4 : q - j < (a.eval x).cells.size := by omega
              have e4 : p * ob.es + q - (p * ob.es + j + 0) = q - j := by omega
              rw [e4]
              refine ⟨(a.eval x).cells[q - j], by simp [hq4], ?_⟩
              simp only [cond_true]
              rw [atL_of (u := cs[q - j]) (by simp [hq3])]
              exact (hcr (q - j) _ _ (by simp [hq3]) (by simp [hq4])).keep hk
            | false =>
              have hout : ¬ (ii * ob.es + j + 0 ≤ p * ob.es + q ∧ p * ob.es + q < ii * ob.es + j + 0 + (a.eval x).cells.toList.length ∧ p * ob.es + q < vs.size) := by
                rintro ⟨g1, g2, _⟩
                simp only [Array.length_toList] at g2
                have hpi : p = ii := by
                  rcases Nat.lt_trichotomy p ii with hlt' | heq | hgt
                  · have := Nat.mul_le_mul_right ob.es (show p + 1 ≤ ii by omega)
                    rw [Nat.add_mul] at this; omega
                  · exact heq
                  · have := Nat.mul_le_mul_right ob.es (show ii + 1 ≤ p by omega)
                    rw [Nat.add_mul] at this; omega
                subst hpi
                have : (Nat.beq p p && (Nat.ble j q && Nat.blt q (j + z))) = true := by
                  simp only [Bool.and_eq_true, Nat.ble_eq, Nat.blt_eq]
                  exact ⟨Nat.beq_refl p, by omega, by omega⟩
                rw [this] at hcond
                cases hcond
              rw [if_neg hout]
              exact ⟨y, hy, by simp only [cond_false]; exact hyr.keep hk⟩
          · rw [upd_ne _ _ e] at ho''
            obtain ⟨b1, hb1, hr1⟩ := hs'.heap id' o' ho'' hgi
            refine ⟨b1, hb1, hr1.keep hk (hwr.other b1 (fun e' => e ?_))⟩
            subst e'
            exact hs.h.inj id' id _ _ _ _ _ hb1 hbk
        · rw [hGput] at hgi
          have ho'' : upd s.H id (some { ob with f := fun i' j' => bif Nat.beq i' ii && (Nat.ble j j' && Nat.blt j' (j + z)) then atL cs (j' - j) else ob.f i' j' }) id' = some o' := ho'
          by_cases e : id' = id
          · subst e; rw [hgid] at hgi; cases hgi
          · rw [upd_ne _ _ e] at ho''; exact hs'.hdead id' o' ho'' hgi
        · rw [hwr.size]; exact hs'.live id' b' n' mu' hm
        · have hBb := (hs.h.live id b _ _ hbk).1
          refine hs'.below.trans ⟨hwr.os, hwr.tape, hwr.output, by rw [hwr.size]; exact Nat.le_refl _, fun k hk' => hwr.other k (by omega)⟩
      · exact FSim.step (s := { s with H := upd s.H id (some { ob with f := fun i' j' => bif Nat.beq i' ii && (Nat.ble j j' && Nat.blt j' (j + z)) then atL cs (j' - j) else ob.f i' j' }) }) ⟨hs.f.slot, hs.f.size, hs.f.defers, hs.f.gtag, hs.f.gtok, hs.f.tgok, hs.f.htok, hs.f.todo⟩ hp.at_ hE hp.guard hp.dst hp.one hk (fun _ => .junk) (fun _ => rfl)
    · cases h
  · cases h

end
end Go.Am
