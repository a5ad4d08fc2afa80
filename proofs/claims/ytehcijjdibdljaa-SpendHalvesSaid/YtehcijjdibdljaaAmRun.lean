/-
  The engine, part 10: a region in the order of the text; the walk of a function's body; loops.
-/
import Derived.Test.YtehcijjdibdljaaAmStore
import Derived.Deep.LoopGhost
namespace Go.Am
open Go.RowKit

section
variable {K : Ctx} {C : Cfg} {ops : Array Oper} {c : Nat} {E : Nat → Prop} {β : Book} {s s' : RSt} {a : Act} {w : World} {i : Nat} {o : Oper}

theorem arm_rel (hs : RSim K ops c E β s a w) (hγ : ∀ j b, o.guard = some (j, b) → s.gt j ≠ none) {cx x : Operand} {cb want : Bool} (hg : s.G o.guard = true) (hc : Rel β w (.bool cb) (a.eval cx)) (hcw : cb = want)
    (h : armOk ops s o.guard cx want x = true) : Rel β w (ev K.gl s.fr x) (a.eval x) := by
  unfold armOk at h
  rw [Bool.or_eq_true] at h
  rcases h with h | h
  · exact rel_ev hs (tagOk_G hs hγ h hg)
  · split at h
    · rename_i tc tx
      cases htg : s.tg tx with
      | none => simp [htg] at h
      | some jb =>
        obtain ⟨j, b⟩ := jb
        simp only [htg, Bool.and_eq_true] at h
        obtain ⟨hb, h⟩ := h
        have hb := eq_of_beq hb
        subst hb
        cases hoj : ops[j]? with
        | none => simp [hoj] at h
        | some oj =>
          simp only [hoj, Bool.and_eq_true] at h
          obtain ⟨hd, hch⟩ := h
          cases hdj : oj.dst with
          | none => simp [hdj] at hd
          | some d =>
            simp only [hdj] at hd
            have hd := Nat.eq_of_beq_eq_true hd
            subst hd
            have hgj : s.G oj.guard = true := chainImp_G hs.f 20 o.guard oj.guard hγ hch hg
            have hne := hs.f.tgok tx j b htg
            cases hgt : s.gt j with
            | none => exact absurd hgt hne
            | some gb =>
              obtain ⟨g0, b0⟩ := gb
              obtain ⟨o2, d2, ho2, hd2, hg2, h1, _⟩ := hs.f.gtag j g0 b0 hgt
              rw [hoj] at ho2
              cases ho2
              rw [hdj] at hd2
              cases hd2
              have hg0 : g0 = true := by rw [hg2]; exact hgj
              have hval := h1 hg0
              have hcv := rel_bool_inv hc
              simp only [Act.eval] at hcv
              rw [hval] at hcv
              cases hcv
              subst hcw
              refine rel_ev hs (fun t ht => ?_)
              cases ht
              rw [htg]
              simp [RSt.G, hgt, hg0]
    · cases h

theorem heapOk_freeze {H : Heap} (h : HeapOk β w H) (ids : List Nat) : HeapOk (frzB ids β) w (frzH ids H) := by
  intro id ob hid hne
  obtain ⟨o', h1, e1, e2, e3, e4⟩ := frzH_some hid
  have hne' : β.m id ≠ none := fun e => hne (frzB_none e)
  obtain ⟨b, mu, hb, hmu, cs, el, g1, g2, g3⟩ := h id o' h1 hne'
  refine ⟨b, _, by rw [frzB_lives hb, e2], fun hm => ?_, cs, el, g1, by rw [e1, e2]; exact g2, fun i j hi hj => ?_⟩
  · rw [Bool.and_eq_true] at hm
    rw [e4, hmu hm.1, hm.2]
    rfl
  · rw [e2] at hi
    rw [e1] at hj
    obtain ⟨v, hv, hr⟩ := g3 i j hi hj
    exact ⟨v, by rw [e1]; exact hv, by rw [e3]; exact hr.keep (frzB_keeps ids)⟩

/-- One operation that writes nothing, as the model runs it: the walk looks at the state 'sv', the model's state is that of 's'. -/
theorem op_view {sv : RSt} {v : AV} {ob : Option Ob} {ids : List Nat} {Q : Exit → Act → World → Prop} {Kc : Act → World → Prop} (hP : C.P = K.P) (hgl : C.gl = K.gl) (hs : RSim K ops c E β s a w) (hp : Pre K ops s i o) (hE : E i)
    (hop : opndOk ops s o = true) (hsame : ∀ x, x ∈ o.op.operands → ev K.gl sv.fr x = ev K.gl s.fr x) (hGv : sv.G o.guard = s.G o.guard) (hH : HeapOk β w sv.H) (h : OpV C c i o sv v ob ids)
    (hK : ∀ β' a' w', RSim K ops c (less E i) β' (({ s with H := frzH ids s.H } : RSt).put c i o v ob) a' w' → Kc a' w') : wpOp K.P ops Q i Kc a w := by
  have hi := hp.at_
  have hisz : i < ops.size := (Array.getElem?_eq_some_iff.1 hi).1
  have hw := wanted_eq hs hp.guard
  have hall : s.G o.guard = true → (∀ x y z, o.op ≠ .pick x y z) → ∀ x, x ∈ o.op.operands → Rel β w (ev K.gl sv.fr x) (a.eval x) := by
    intro hg hnp x hx
    have hall : o.op.operands.toList.all (tagOk ops s o.guard) = true := by
      unfold opndOk at hop
      split at hop
      · rename_i x y z he; exact absurd he (hnp x y z)
      · exact hop
    rw [hsame x hx]
    exact rel_ev hs (tagOk_G hs hp.guard (List.all_eq_true.1 hall x (by simpa using hx)) hg)
  cases h with
  | @m q _ _ hm hq =>
    rw [frzH_nil] at hK
    unfold wpOp
    simp only [hi]
    cases hg : s.G o.guard with
    | false => rw [hw, hg, if_neg (by simp)]; exact hK _ _ _ (hs.skip hp hE hg)
    | true =>
      rw [hw, hg, if_pos rfl]
      refine .inl ?_
      have hmok : MOk β w (c + i) ((execOp a.eval o).run K.P w) v ob := by
        by_cases hpick : ∃ x y z, o.op = .pick x y z
        · obtain ⟨x, y, z, hpk⟩ := hpick
          unfold opndOk at hop
          rw [hpk] at hop
          simp only [Bool.and_eq_true] at hop
          obtain ⟨⟨hx, hy⟩, hz⟩ := hop
          have hxr := rel_ev hs (tagOk_G hs hp.guard hx hg)
          have s1 := hsame x (by rw [hpk]; simp [Op.operands])
          have s2 := hsame y (by rw [hpk]; simp [Op.operands])
          have s3 := hsame z (by rw [hpk]; simp [Op.operands])
          rw [hpk] at hm
          simp only [mstep] at hm
          rw [hgl, s1, s2, s3] at hm
          split at hm
          · rename_i cb ab bb e1 e2 e3
            cases hm
            rw [e1] at hxr
            have r1 := rel_bool_inv hxr
            refine ⟨.bool (bif cb then ab else bb), ?_, .bool⟩
            cases cb with
            | true =>
              have := arm_rel hs hp.guard hg hxr rfl hy
              rw [e2] at this
              simp [execOp, hpk, r1, asBool, rel_bool_inv this]
            | false =>
              have := arm_rel hs hp.guard hg hxr rfl hz
              rw [e3] at this
              simp [execOp, hpk, r1, asBool, rel_bool_inv this]
          · cases hm
        · rw [hP, hgl] at hm
          exact mstep_ok (fun v => rfl) hH (hall hg (fun x y z e => hpick ⟨x, y, z, e⟩)) hm (hq (by rw [hGv]; exact hg))
      unfold Oper.wp
      cases ob with
      | none =>
        obtain ⟨u, hu, hr⟩ := hmok
        rw [hu]
        exact hK _ _ _ (hs.value hp hE (fun _ => hr) (fun h => by rw [hg] at h; cases h))
      | some x =>
        obtain ⟨hmu, cs, el, hsz, hcells, hform⟩ := hmok
        rcases hform with ⟨rfl, hn, hrun⟩ | ⟨rfl, hcs, hrun⟩
        · rw [hrun]
          obtain ⟨β', hsim⟩ := hs.made hisz hp hE hmu hg hsz hcells (el := el) (v := .own (c + i) x.es 0 0 x.es) (u := .pointer (some ⟨w.heap.size, 0, none⟩)) (fun β' hb => by
            have := Rel.own (β := β') (w := w.alloc (.cells cs el)) (id := c + i) (es := x.es) (i := 0) (j := 0) (m := x.es) hb (by omega) (by omega)
            simpa using this)
          exact hK _ _ _ hsim
        · rw [hrun]
          obtain ⟨β', hsim⟩ := hs.made hisz hp hE hmu hg hsz hcells (el := el) (v := .osl (c + i) x.es 0 x.n) (u := .slice (some ⟨w.heap.size, 0, none⟩) x.n x.n) (fun β' hb => by
            have := Rel.osl (β := β') (w := w.alloc (.cells cs el)) (id := c + i) (es := x.es) (i := 0) (len := x.n) (cap := x.n) (sz := cs.size) (el := el) hb (by omega) (Nat.le_refl _) (by unfold World.shape?; rw [heap_alloc_new']) (by rw [hcs]; simp)
            simpa using this)
          exact hK _ _ _ hsim
  | @sc f as _ hc hpu hsc =>
    rw [frzH_nil] at hK
    unfold wpOp
    simp only [hi]
    cases hg : s.G o.guard with
    | false => rw [hw, hg, if_neg (by simp)]; exact hK _ _ _ (hs.skip hp hE hg)
    | true =>
      rw [hw, hg, if_pos rfl]
      refine .inl ?_
      have hnp : ∀ x y z, o.op ≠ .pick x y z := fun x y z e => by rw [e] at hc; simp [calleeOf] at hc
      rw [hgl] at hc
      obtain ⟨hent, hcall⟩ := hpu (by rw [hGv]; exact hg)
      obtain ⟨vs, hrun, hrel⟩ := callee_run (P := K.P) (hall hg hnp) hc (hP ▸ hent)
      unfold Oper.wp
      rw [hrun]
      have hfz : Rels (Book.none fun _ => False) w (as.map (frz false 9 sv.H)) vs := by
        obtain ⟨h1, h2⟩ := rels_map hrel.len hrel.rel (fun u v hr => frz_rel (d := false) hH (F' := fun _ => False) (fun _ _ h => h) (fun _ _ _ _ _ _ h => h) 9 u v hr)
        exact ⟨h1, h2⟩
      have := hcall (fun _ => False) w vs (fun _ h => h.elim) (fun g m h hgl' => (hs.h.glob g m h (hgl ▸ hgl')).rebook (fun b hb => ⟨fun h => h, fun id n h => by simp [Book.none] at h⟩) (by
        have := hs.h.glob g m h (hgl ▸ hgl')
        obtain ⟨_, _, _, _, _, _, _, _, hcl⟩ := rel_ipt_inv this
        exact .ipt hcl)) hfz
      rw [hP] at this
      refine this.mono fun e w' hh => ?_
      obtain ⟨v, rfl, hb, hr⟩ := hh
      exact hK _ _ _ (hs.called hp hE hb hg (hr.scalar 9 hsc))
  | @dc f as r _ hids hc hpu =>
    have hs1 := hs.freeze ids
    unfold wpOp
    simp only [hi]
    cases hg : s.G o.guard with
    | false => rw [hw, hg, if_neg (by simp)]; exact hK _ _ _ (RSim.skip hs1 ⟨hp.at_, hp.guard, hp.dst, hp.one⟩ hE hg)
    | true =>
      rw [hw, hg, if_pos rfl]
      refine .inl ?_
      have hnp : ∀ x y z, o.op ≠ .pick x y z := fun x y z e => by rw [e] at hc; simp [calleeOf] at hc
      rw [hgl] at hc
      obtain ⟨hent, hcall⟩ := hpu (by rw [hGv]; exact hg)
      have hk1 := frzB_keeps (β := β) (w := w) ids
      obtain ⟨vs, hrun, hrel⟩ := callee_run (P := K.P) (hall hg hnp) hc (hP ▸ hent)
      unfold Oper.wp
      rw [hrun]
      have hfree : ∀ id b n mu, (frzB ids β).m id = some (.lives b n mu) → (true = true → mu = false) → ¬ ¬ (frzB ids β).free b := by
        intro id b n mu hm hmu hnf
        apply hnf
        have hBb := (hs1.h.live id b n mu hm).1
        refine ⟨fun hF => ?_, fun id' n' h' => ?_⟩
        · rw [hs1.h.bF] at hF
          have := hs1.h.hF b hF
          omega
        · have := hs1.h.inj id' id b n' n true mu h' hm
          subst this
          rw [hm] at h'
          cases h'
          simp at hmu
      have hfz : Rels (Book.none fun b => ¬ (frzB ids β).free b) w (as.map (frz true 9 (frzH ids sv.H))) vs := by
        obtain ⟨h1, h2⟩ := rels_map (β := frzB ids β) hrel.len (fun j u v hu hv => (hrel.rel j u v hu hv).keep hk1) (fun u v hr => frz_rel (d := true) (H := frzH ids sv.H) (heapOk_freeze hH ids) (F' := fun b => ¬ (frzB ids β).free b) (fun b hb h => h hb) hfree 9 u v hr)
        exact ⟨h1, h2⟩
      have hFlt : ∀ b, ¬ (frzB ids β).free b → b < w.heap.size := by
        intro b hb
        apply Classical.byContradiction
        intro hge
        apply hb
        refine ⟨fun hF => ?_, fun id n h => ?_⟩
        · rw [hs1.h.bF] at hF
          have := hs1.h.hF b hF
          have := hs1.h.hB
          omega
        · have := (hs1.h.live id b n true h).2
          omega
      have := hcall (fun b => ¬ (frzB ids β).free b) w vs hFlt (fun g m h hgl' => (hs1.h.glob g m h (hgl ▸ hgl')).rebook (fun b hb => ⟨fun h => h hb, fun id n h => by simp [Book.none] at h⟩) (by
        have := hs1.h.glob g m h (hgl ▸ hgl')
        obtain ⟨_, _, _, _, _, _, _, _, hcl⟩ := rel_ipt_inv this
        exact .ipt hcl)) hfz
      rw [hP] at this
      refine this.mono fun e w' hh => ?_
      obtain ⟨v, rfl, hb, hr⟩ := hh
      have hr' := hr.rebook (β' := frzB ids β) (fun b hb => Classical.not_not.1 hb.1) hr.closed
      exact hK _ _ _ (RSim.called hs1 ⟨hp.at_, hp.guard, hp.dst, hp.one⟩ hE hb hg hr')

/-- One operation of the walk, as the model runs it. -/
theorem op_sound {Q : Exit → Act → World → Prop} {Kc : Act → World → Prop} (hP : C.P = K.P) (hgl : C.gl = K.gl) (hnt : C.nt = K.nt) (hs : RSim K ops c E β s a w) (hi : ops[i]? = some o) (hE : E i)
    (hone : ∀ j oj d, ops[j]? = some oj → oj.dst = some d → o.dst = some d → j = i) (hok : okOp C.nt ops s o = true) (h : OpAt C c i o s s')
    (hK : ∀ β' a' w', RSim K ops c (less E i) β' s' a' w' → Kc a' w') : wpOp K.P ops Q i Kc a w := by
  obtain ⟨hp, hop⟩ := okOp_pre (K := K) (nt := C.nt) hnt.symm hok hi hone
  cases h with
  | v hv => exact op_view hP hgl hs hp hE hop (fun _ _ => rfl) rfl hs.h.ok hv hK
  | @e q v H' hgn he hq =>
      have hg : s.G o.guard = true := by rw [hgn]; rfl
      have hnp : ∀ x y z, o.op ≠ .pick x y z := fun x y z ee => by rw [ee] at he; simp [estep] at he
      have hall : ∀ x, x ∈ o.op.operands → Rel β w (ev K.gl s.fr x) (a.eval x) := by
        intro x hx
        have hall : o.op.operands.toList.all (tagOk ops s o.guard) = true := by
          unfold opndOk at hop
          split at hop
          · rename_i x y z he; exact absurd he (hnp x y z)
          · exact hop
        exact rel_ev hs (tagOk_G hs hp.guard (List.all_eq_true.1 hall x (by simpa using hx)) hg)
      rw [hP, hgl] at he
      obtain ⟨w', hrun, hsim⟩ := hs.stored hp hE hgn hall he
      unfold wpOp
      simp only [hi]
      rw [wanted_eq hs hp.guard, hg, if_pos rfl]
      refine .inl ?_
      unfold Oper.wp
      rw [hrun]
      exact hK _ _ _ hsim

end
end Go.Am
