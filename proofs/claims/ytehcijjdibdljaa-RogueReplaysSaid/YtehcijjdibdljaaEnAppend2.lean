/-
  The engine, part 10: append, as the model runs it.
-/
import Derived.Test.YtehcijjdibdljaaEnAppend
namespace Go.Am
open Go.RowKit

section
variable {K : Ctx} {ops : Array Oper} {c : Nat} {E : Nat → Prop} {β : Book} {s : RSt} {a : Act} {w : World} {i : Nat} {o : Oper}

theorem append_room {P : Program} {t tx ty e : TypeId} {inf : TypeInfo} (ht : P.underlying t = some (.slice e)) (hi : P.info? e = some inf) {b sLen sCap : Nat} {x : Value} {n : Nat} {news : List Value} {w' : World} (hs : Src P inf.size tx x n news w)
    (hroom : sLen + n ≤ sCap) (hst : (storeCells ⟨b, sLen * inf.size, none⟩ news 0).run P w = .ok () w') :
    (Builtin.append_ #[t, tx] ty #[.slice (some ⟨b, 0, none⟩) sLen sCap, x]).run P w = .ok (.slice (some ⟨b, 0, none⟩) (sLen + n) sCap) w' := by
  rcases hs.kind with ⟨e', hk⟩ | hk <;> simp [Builtin.append_, run_underlying ht, run_underlying hk, sizeOf, typeInfo, hi, hs.len, hroom, hs.cells, add_mk, hst]

theorem look_map_dead {l : List Nat} {id : Nat} : look (l.map (fun id => (id, (none : Option Ob)))) id = if id ∈ l then some none else none := by
  induction l with
  | nil => rfl
  | cons y l ih =>
    rw [List.map_cons, look_cons, ih]
    by_cases e : y = id
    · subst e; simp
    · have : id ≠ y := fun h => e h.symm
      simp [e, this]

/-- append. -/
theorem RSim.appended {ρ : Operand → AV} {f : Foot} {q : Prop} {v : AV} {ids : List Nat} {x : Ob} (hs : RSim K ops c E β s a w) (hp : Pre K ops s i o) (hE : E i) (hg : o.guard = none) (hρ : ∀ x, x ∈ o.op.operands → Rel β w (ρ x) (a.eval x))
    (hmt : ∀ id, id ∈ ids → (s.H id).map Ob.mu = some true ∧ s.ht id = none) (h : astep K.P ρ (vH f s.H) (c + 8 * i) o.op = some (q, v, ids, x)) (hq : q) :
    ∃ u w', (execOp a.eval o).run K.P w = .ok (.value u) w' ∧ ∃ β', RSim K ops c (less E i) β' (s.app i o ⟨v, true, [], (c + 8 * i, some x) :: ids.map (fun id => (id, none)), []⟩) (a.put o.dst u) w' := by
  have hH := hs.ok f
  have hgt : s.G o.guard = true := by rw [hg]; rfl
  have hkills : ∀ id, id ∈ ids → β.m id ≠ none ∧ ∀ b n mu, β.m id = some (.lives b n mu) → mu = true := by
    intro id hid
    obtain ⟨h1, h2⟩ := hmt id hid
    cases ho : s.H id with
    | none => simp [ho] at h1
    | some ob =>
      simp only [ho, Option.map_some, Option.some.injEq] at h1
      rcases hs.h.heap id ob ho (by rw [h2]; rfl) with ⟨b, g1, _⟩ | ⟨g1, _⟩
      · refine ⟨by rw [g1]; simp, fun b' n' mu' h => ?_⟩
        rw [g1, h1] at h
        cases h; rfl
      · exact ⟨by rw [g1]; simp, fun b' n' mu' h => by rw [g1] at h; cases h⟩
  obtain ⟨dst, op, ty, pos, after, g⟩ := o
  cases op <;> simp only [astep, reduceCtorEq] at h
  rename_i cl
  obtain ⟨callee, args, ts⟩ := cl
  cases callee <;> first | (cases h; done) | skip
  rename_i bi
  cases bi <;> first | (cases h; done) | skip
  obtain ⟨args⟩ := args
  obtain ⟨ts⟩ := ts
  simp only at h
  split at h
  rotate_left
  · cases h
  rename_i xo yo t t2
  split at h
  rotate_left
  · cases h
  rename_i e hu
  split at h
  rotate_left
  · cases h
  rename_i inf isS hi hk
  split at h
  rotate_left
  · cases h
  rename_i z hz
  replace h := bif_some h
  obtain ⟨hc, h⟩ := h
  simp only [Bool.and_eq_true, Nat.blt_eq] at hc
  obtain ⟨hsz, hby, hzl⟩ := hc
  have hzl := Nat.eq_of_beq_eq_true hzl
  rw [zcells_length] at hzl
  split at h
  rotate_left
  · cases h
  rename_i ids' n ff m gg hdst hsrc
  simp only [Option.some.injEq, Prod.mk.injEq] at h
  obtain ⟨rfl, rfl, rfl, rfl⟩ := h
  have hx := hρ xo (by simp [Op.operands, Call.operands])
  have hy := hρ yo (by simp [Op.operands, Call.operands])
  obtain ⟨news, hSrc, hnews⟩ := src_ok hsz hH hk hy hsrc
  have hnl := hSrc.newsLen
  have hexec : ∀ (u : Value) (w' : World), (Builtin.append_ #[t, t2] ty #[a.eval xo, a.eval yo]).run K.P w = .ok u w' →
      (execOp a.eval ⟨dst, .call ⟨.builtin .append, ⟨[xo, yo]⟩, ⟨[t, t2]⟩⟩, ty, pos, after, g⟩).run K.P w = .ok (.value u) w' := by
    intro u w' hr
    simp [execOp, resolve, invoke, builtin, hr, Result.andThen]
  have hmax : n + m ≤ 140737488355328 := by
    have := Nat.mul_le_mul_left (n + m) (show 1 ≤ inf.bytes by omega)
    omega
  -- a new block
  have grown : ∀ (base : Option Addr) (cap : Nat) (olds : List Value), a.eval xo = .slice base n cap → cap < n + m → olds.length = n * inf.size → (Builtin.firstCells inf.size n (.slice base n cap)).run K.P w.drew = .ok olds.toArray w.drew →
      (∀ r j, r < n → j < inf.size → ∃ u, olds[r * inf.size + j]? = some u ∧ Rel β w (ff r j) u ∧ u.oneCell' = true) →
      ∃ u w', (execOp a.eval ⟨dst, .call ⟨.builtin .append, ⟨[xo, yo]⟩, ⟨[t, t2]⟩⟩, ty, pos, after, g⟩).run K.P w = .ok (.value u) w' ∧
        ∃ β', RSim K ops c (less E i) β' (s.app i ⟨dst, .call ⟨.builtin .append, ⟨[xo, yo]⟩, ⟨[t, t2]⟩⟩, ty, pos, after, g⟩ ⟨.osl (c + 8 * i) inf.size 0 (n + m), true, [], (c + 8 * i, some ⟨inf.size, n + m, true, Rep.app inf.size n m ff gg⟩) :: ids'.map (fun id => (id, none)), []⟩) (a.put dst u) w' := by
    intro base cap olds hxe hcap hol hfc hold
    have hr := run_append_grow_src (P := K.P) w t t2 ty e inf z hu hi hz base n cap olds hfc (a.eval yo) m news hSrc hcap (by omega) (growslice_fits hcap hq)
    rw [← hxe] at hr
    have hge := grownCap_ge w (n + m) cap e
    generalize hcs : (olds ++ news).toArray ++ Builtin.zeroCells z.cells (grownCap w (n + m) cap e - (n + m)) = cs at hr
    have hcsz : cs.size = grownCap w (n + m) cap e * inf.size := by
      rw [← hcs]
      simp only [Array.size_append, List.size_toArray, List.length_append, size_zeroCells, hol, hnl, hzl, ← Nat.add_mul]
      congr 1
      omega
    have hget : ∀ k, k < (n + m) * inf.size → cs[k]? = (olds ++ news)[k]? := by
      intro k hk'
      rw [← hcs, Array.getElem?_append_left (by simp only [List.size_toArray, List.length_append, hol, hnl, ← Nat.add_mul]; exact hk')]
      simp
    refine ⟨_, _, hexec _ _ hr, ?_⟩
    have hnewblk : (w.drew.alloc (.cells cs e)).heap[w.heap.size]? = some (.cells cs e (0, 0)) := heap_alloc_new w.drew _
    refine hs.moved (own := .lives w.heap.size (n + m) true) hp hE hgt hkills (fun b n' mu' hb => ?_) rfl rfl rfl ?_ (fun k hk' _ => Below.heap_alloc w.drew _ k hk') (fun k hk' => shape_of_block (Below.heap_alloc w.drew _ k hk')) (fun β' hm hk' => ⟨?_, ?_⟩)
    · cases hb
      refine ⟨?_, .inl (Nat.le_refl _)⟩
      show w.heap.size < (w.heap.push _).size
      simp
    · show w.heap.size ≤ (w.heap.push _).size
      simp
    · have := Rel.osl (β := β') (w := w.drew.alloc (.cells cs e)) (id := c + 8 * i) (es := inf.size) (i := 0) (len := n + m) (cap := grownCap w (n + m) cap e) (sz := cs.size) (el := e) hm (by omega) hge (by unfold World.shape?; rw [hnewblk]) (by rw [hcsz]; simp)
      simpa using this
    · refine .inl ⟨w.heap.size, hm, cs, e, hnewblk, ?_, fun r j hr' hj => ?_⟩
      · show (n + m) * inf.size ≤ cs.size
        rw [hcsz]; exact Nat.mul_le_mul_right _ hge
      · have hr'' : r < n + m := hr'
        have hj' : j < inf.size := hj
        have hlt : r * inf.size + j < (n + m) * inf.size := by
          have := Nat.mul_le_mul_right inf.size (show r + 1 ≤ n + m by omega)
          rw [Nat.add_mul] at this
          omega
        show ∃ v, cs[r * inf.size + j]? = some v ∧ Rel β' _ ((Rep.app inf.size n m ff gg) r j) v ∧ v.oneCell' = true
        rw [hget _ hlt]
        cases hb : Nat.blt r n with
        | true =>
          rw [Nat.blt_eq] at hb
          obtain ⟨u, hu1, hu2, hu3⟩ := hold r j hb hj'
          have hlt' : r * inf.size + j < olds.length := (List.getElem?_eq_some_iff.1 hu1).1
          exact ⟨u, by rw [List.getElem?_append_left hlt']; exact hu1, Rep.app_old hb (hu2.keep hk'), hu3⟩
        | false =>
          have hb' : n ≤ r := by
            rcases Nat.lt_or_ge r n with h | h
            · rw [← Nat.blt_eq, hb] at h; cases h
            · exact h
          obtain ⟨u, hu1, hu2, hu3⟩ := hnews (r - n) j (by omega) hj'
          have e1 : r * inf.size + j - olds.length = (r - n) * inf.size + j := by
            rw [hol, Nat.sub_mul]
            have := Nat.mul_le_mul_right inf.size hb'
            omega
          have hge' : olds.length ≤ r * inf.size + j := by
            rw [hol]
            have := Nat.mul_le_mul_right inf.size hb'
            omega
          exact ⟨u, by rw [List.getElem?_append_right hge', e1]; exact hu1, Rep.app_new hb' hr'' hj' (hu2.keep hk'), hu3⟩
  rcases dst_ok hH hx hdst with ⟨rfl, ⟨ad, hxe⟩, _⟩ | ⟨id, b, cap, cs, el, nn, mu, sz, rfl, hxe, hbk, hn, hcap, hheap, rfl, hcs, hold⟩
  · -- an empty slice without room
    rcases Nat.eq_zero_or_pos m with rfl | hm
    · have hnil : news = [] := List.eq_nil_of_length_eq_zero (by simpa using hnl)
      subst hnil
      have hr := run_append_nothing (P := K.P) w t t2 ty e inf hu hi ad 0 0 (Nat.le_refl _) (a.eval yo) hSrc
      rw [← hxe] at hr
      refine ⟨_, _, hexec _ _ hr, ?_⟩
      rw [hxe]
      exact hs.moved (own := .empty) hp hE hgt hkills (fun b n mu h => by cases h) rfl rfl rfl (Nat.le_refl _) (fun _ _ _ => rfl) (fun _ _ => rfl) (fun β' hm hk' => ⟨.osl0 (by rw [hm]; simp), .inr ⟨hm, rfl⟩⟩)
    · refine grown ad 0 [] hxe (by omega) (by simp) ?_ (fun r j h => absurd h (by omega))
      cases ad with
      | none => exact run_firstCells_none w.drew inf.size 0 0 0
      | some b => exact run_firstCells_some w.drew inf.size 0 b 0 0 [] (by simp) (by simp)
  · have holdl : ∀ r j, r < n → j < inf.size → cs.getD (r * inf.size + j) undef = (cs.getD (r * inf.size + j) undef) ∧ cs[r * inf.size + j]? = some (cs.getD (r * inf.size + j) undef) := fun r j hr' hj => by
      obtain ⟨u, hu1, _⟩ := hold r j hr' hj
      simp [Array.getD_eq_getD_getElem?, hu1]
    by_cases hroom : n + m ≤ cap
    · -- in place
      have hmu : mu = true := (hkills id (List.mem_singleton.2 rfl)).2 b nn mu hbk
      subst hmu
      have hfit : n * inf.size + 0 + news.length ≤ cs.size := by
        have := Nat.mul_le_mul_right inf.size hroom
        rw [Nat.add_mul] at this
        rw [hnl]; omega
      obtain ⟨w', hrun, hwr⟩ := storeCells_ok (P := K.P) (off := n * inf.size) news 0 w cs hheap hfit hSrc.one
      have hr := append_room (P := K.P) (t := t) (tx := t2) (ty := ty) hu hi (b := b) (sLen := n) (sCap := cap) hSrc hroom hrun
      rw [← hxe] at hr
      have hset := foldl_set news 0 (n * inf.size) cs
      have hshape := hwr.shape hheap (hset 0).1
      refine ⟨_, _, hexec _ _ hr, ?_⟩
      refine hs.moved (own := .lives b (n + m) true) hp hE hgt hkills (fun b' n' mu' hb => ?_) hwr.os hwr.tape hwr.output (by rw [hwr.size]; exact Nat.le_refl _) (fun k _ hk' => hwr.other k (fun e => ?_)) (fun k _ => hshape k) (fun β' hm hk' => ⟨?_, ?_⟩)
      · cases hb
        exact ⟨by rw [hwr.size]; exact (hs.h.live id b _ _ hbk).2, .inr ⟨id, List.mem_singleton.2 rfl, _, _, hbk⟩⟩
      · subst e; exact hk' id (List.mem_singleton.2 rfl) _ _ hbk
      · have := Rel.osl (β := β') (w := w') (id := c + 8 * i) (es := inf.size) (i := 0) (len := n + m) (cap := cap) (sz := cs.size) (el := el) hm (by omega) hroom (by rw [hshape]; unfold World.shape?; rw [hheap]) (by simpa using hcs)
        simpa using this
      · refine .inl ⟨b, hm, _, el, hwr.at_, ?_, fun r j hr' hj => ?_⟩
        · show (n + m) * inf.size ≤ _
          rw [(hset 0).1]
          have := Nat.mul_le_mul_right inf.size hroom
          omega
        · have hr'' : r < n + m := hr'
          have hj' : j < inf.size := hj
          have hlt : r * inf.size + j < (n + m) * inf.size := by
            have := Nat.mul_le_mul_right inf.size (show r + 1 ≤ n + m by omega)
            rw [Nat.add_mul] at this
            omega
          have hltc : r * inf.size + j < cs.size := by
            have := Nat.mul_le_mul_right inf.size hroom
            omega
          show ∃ v, _[r * inf.size + j]? = some v ∧ Rel β' _ ((Rep.app inf.size n m ff gg) r j) v ∧ v.oneCell' = true
          rw [(hset (r * inf.size + j)).2]
          cases hb : Nat.blt r n with
          | true =>
            rw [Nat.blt_eq] at hb
            have : r * inf.size + j < n * inf.size := by
              have := Nat.mul_le_mul_right inf.size (show r + 1 ≤ n by omega)
              rw [Nat.add_mul] at this
              omega
            rw [if_neg (by omega)]
            obtain ⟨u, hu1, hu2, hu3⟩ := hold r j hb hj'
            exact ⟨u, hu1, Rep.app_old hb (hu2.keep hk'), hu3⟩
          | false =>
            have hb' : n ≤ r := by
              rcases Nat.lt_or_ge r n with h | h
              · rw [← Nat.blt_eq, hb] at h; cases h
              · exact h
            have hnr := Nat.mul_le_mul_right inf.size hb'
            have e2 : (n + m) * inf.size = n * inf.size + m * inf.size := Nat.add_mul ..
            rw [if_pos ⟨by omega, by rw [hnl]; omega, hltc⟩]
            obtain ⟨u, hu1, hu2, hu3⟩ := hnews (r - n) j (by omega) hj'
            have e1 : r * inf.size + j - (n * inf.size + 0) = (r - n) * inf.size + j := by
              rw [Nat.sub_mul]; omega
            exact ⟨u, by rw [e1]; exact hu1, Rep.app_new hb' hr'' hj' (hu2.keep hk'), hu3⟩
    · -- a new block
      refine grown (some ⟨b, 0, none⟩) cap (rowsL n inf.size fun r j => cs.getD (r * inf.size + j) undef) hxe (by omega) (rowsL_length ..) ?_ (fun r j hr' hj => ?_)
      · refine run_firstCells_some w.drew inf.size n ⟨b, 0, none⟩ n cap _ (rowsL_length ..) (fun k u hu' => ?_)
        obtain ⟨r, j, hr', hj, rfl, rfl⟩ := rowsL_mem hu'
        have := (holdl r j hr' hj).2
        have hd : w.drew.heap[b]? = some (.cells cs el (0, 0)) := hheap
        rw [add_mk]
        unfold World.cell?
        simp only [hd, Nat.zero_add]
        exact this
      · obtain ⟨u, hu1, hu2, hu3⟩ := hold r j hr' hj
        refine ⟨u, ?_, hu2, hu3⟩
        rw [rowsL_get hr' hj]
        simp [Array.getD_eq_getD_getElem?, hu1]

end
end Go.Am
