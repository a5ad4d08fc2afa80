/-
  The engine, part 12: one operation of the walk ('OpD') is what the model does.
-/
import Derived.Test.YtehcijjdibdljaaEnGive
namespace Go.Am
open Go.RowKit

def obDs (nid : Nat) : Option Ob → List (Nat × Option Ob)
  | some x => [(nid, some x)]
  | none => []

/-- One operation of the walk and its effect. -/
inductive OpD (C : Cfg) (c i : Nat) (o : Oper) (f : Foot) (s : RSt) : Eff → Prop where
  | m {q : Rq} {v : AV} {ob : Option Ob} (h : mstep C.P (ev C.gl s.fr) (vH f s.H) (c + 8 * i) o.op = some (q, v, ob)) (hq : s.G o.guard = true → q.holds) : OpD C c i o f s ⟨v, s.G o.guard, [], obDs (c + 8 * i) ob, []⟩
  | sc {fn : FuncId} {as : List AV} {r : AV} (h : calleeOf (ev C.gl s.fr) o.op = some (fn, as)) (hp : s.G o.guard = true → Pure C.P C.gl fn (as.map (frz 9 (vH f s.H))) r) (hs : sc 9 r = true) : OpD C c i o f s ⟨r, s.G o.guard, [], [], []⟩
  | dc {fn : FuncId} {as : List AV} {r : AV} (ids : List Nat) (hids : ∀ id, vH f s.H id ≠ none → memN ids id = true) (h : calleeOf (ev C.gl s.fr) o.op = some (fn, as))
      (hp : s.G o.guard = true → Pure C.P C.gl fn (as.map (frz 9 (vH f s.H))) r) : OpD C c i o f s ⟨r, s.G o.guard, [], [], ids⟩
  | st {id : Nat} {f' : Rep} (hg : o.guard = none) (h : estep C.P (ev C.gl s.fr) (vH f s.H) o.op = some (id, f')) (hm : memN f.mt id = true) (hmu : (s.H id).map Ob.mu = some true) (hht : s.ht id = none) :
      OpD C c i o f s ⟨.junk, true, [(id, f')], [], []⟩
  | ap {q : Prop} {v : AV} {ids : List Nat} {x : Ob} (hg : o.guard = none) (h : astep C.P (ev C.gl s.fr) (vH f s.H) (c + 8 * i) o.op = some (q, v, ids, x)) (hq : q)
      (hm : ∀ id, id ∈ ids → memN f.mt id = true ∧ (s.H id).map Ob.mu = some true ∧ s.ht id = none) : OpD C c i o f s ⟨v, true, [], (c + 8 * i, some x) :: ids.map (fun id => (id, none)), []⟩
  | gv {fn : FuncId} {as : List AV} {gids zids : List Nat} {r : AV} {obs' : List (Option Ob)} (hg : o.guard = none) (h : calleeOf (ev C.gl s.fr) o.op = some (fn, as)) (hnd : nodupB gids = true)
      (hgm : ∀ id, id ∈ gids → memN f.rd id = true ∧ memN f.mt id = true ∧ (s.H id).map Ob.mu = some true ∧ s.ht id = none) (hz : ∀ id, vH f s.H id ≠ none → memN gids id = false → memN zids id = true)
      (hl : gids.length ≤ obs'.length ∧ obs'.length ≤ gids.length + 8)
      (hG : Gives C.P C.gl fn (givenObs gids (vH f s.H)) (as.map (mapA (posIn gids 0) 9 (restH gids (vH f s.H)))) r obs') :
      OpD C c i o f s ⟨mapA (backIds gids (c + 8 * i)) 9 noH r, true, [], givenDs gids (c + 8 * i) obs', zids⟩

section
variable {K : Ctx} {C : Cfg} {ops : Array Oper} {c : Nat} {E : Nat → Prop} {β : Book} {s sv : RSt} {a : Act} {w : World} {i : Nat} {o : Oper} {f : Foot} {e : Eff}

theorem Agree.G (h : Agree o f sv s) : s.G o.guard = sv.G o.guard := by
  cases hg : o.guard with
  | none => rfl
  | some jb => obtain ⟨j, b⟩ := jb; simp only [RSt.G, h.gt j b hg]

theorem Agree.ev {gl : Globs} (h : Agree o f sv s) {x : Operand} (hx : x ∈ o.op.operands) : ev gl sv.fr x = ev gl s.fr x := by
  cases x with
  | tmp t => exact (h.fr t hx).symm
  | _ => rfl

/-- One operation, as the model runs it: the walk looks at the state 'sv', the model's state is that of 's'. -/
theorem op_view {Q : Exit → Act → World → Prop} {Kc : Act → World → Prop} (hP : C.P = K.P) (hgl : C.gl = K.gl) (hs : RSim K ops c E β s a w) (hp : Pre K ops s i o) (hE : E i)
    (hop : opndOk ops s o = true) (hag : Agree o f sv s) (h : OpD C c i o f sv e)
    (hK : ∀ β' a' w', RSim K ops c (less E i) β' (s.app i o e) a' w' → Kc a' w') : wpOp K.P ops Q i Kc a w := by
  have hi := hp.at_
  have hw := wanted_eq hs hp.guard
  have hGv := hag.G
  have hvH := hag.vH
  have hH := hs.ok f
  rw [hvH] at hH
  have hall : s.G o.guard = true → (∀ x y z, o.op ≠ .pick x y z) → ∀ x, x ∈ o.op.operands → Rel β w (Am.ev K.gl sv.fr x) (a.eval x) := by
    intro hg hnp x hx
    have hall : o.op.operands.toList.all (tagOk ops s o.guard) = true := by
      unfold opndOk at hop
      split at hop
      · rename_i x y z he; exact absurd he (hnp x y z)
      · exact hop
    rw [hag.ev hx]
    exact rel_ev hs (tagOk_G hs hp.guard (List.all_eq_true.1 hall x (by simpa using hx)) hg)
  cases h with
  | @m q v ob hm hq =>
    unfold wpOp
    simp only [hi]
    cases hg : s.G o.guard with
    | false =>
      rw [hw, hg, if_neg (by simp)]
      refine hK _ _ _ (hs.skip hp hE hGv (by show sv.G o.guard = false; rw [← hGv]; exact hg) rfl (fun id x hx => ?_))
      cases ob with
      | none => cases hx
      | some ob =>
        simp only [obDs, look_one] at hx
        by_cases e : c + 8 * i = id
        · exact ⟨0, by omega, by omega⟩
        · rw [if_neg e] at hx; cases hx
    | true =>
      rw [hw, hg, if_pos rfl]
      refine .inl ?_
      have hgsv : sv.G o.guard = true := by rw [← hGv]; exact hg
      have hmok : MOk β w (c + 8 * i) ((execOp a.eval o).run K.P w) v ob := by
        by_cases hpick : ∃ x y z, o.op = .pick x y z
        · obtain ⟨x, y, z, hpk⟩ := hpick
          unfold opndOk at hop
          rw [hpk] at hop
          simp only [Bool.and_eq_true] at hop
          obtain ⟨⟨hx, hy⟩, hz⟩ := hop
          have hxr := rel_ev hs (tagOk_G hs hp.guard hx hg)
          have s1 := hag.ev (gl := K.gl) (x := x) (by rw [hpk]; simp [Op.operands])
          have s2 := hag.ev (gl := K.gl) (x := y) (by rw [hpk]; simp [Op.operands])
          have s3 := hag.ev (gl := K.gl) (x := z) (by rw [hpk]; simp [Op.operands])
          rw [hpk] at hm
          simp only [mstep] at hm
          rw [hgl, s1, s2, s3] at hm
          split at hm
          · rename_i cb ab bb e1 e2 e3
            cases hm
            rw [e1] at hxr
            have r1 := rel_bool_inv hxr
            refine ⟨.bool (bif cb then ab else bb), ?_, .bool⟩
            cases cb with
            | true =>
              have := arm_rel hs hp.guard hg hxr rfl hy
              rw [e2] at this
              simp [execOp, hpk, r1, asBool, rel_bool_inv this]
            | false =>
              have := arm_rel hs hp.guard hg hxr rfl hz
              rw [e3] at this
              simp [execOp, hpk, r1, asBool, rel_bool_inv this]
          · cases hm
        · rw [hP, hgl] at hm
          exact mstep_ok (fun v => rfl) hH (hall hg (fun x y z e => hpick ⟨x, y, z, e⟩)) hm (hq hgsv)
      unfold Oper.wp
      cases ob with
      | none =>
        obtain ⟨u, hu, hr⟩ := hmok
        rw [hu]
        refine hK _ _ _ (hs.plain hp hE hGv rfl rfl (Below.refl _ _) (fun _ => ?_) (fun h => by rw [hgsv] at h; cases h))
        rw [frzB_nil]; exact hr
      | some x =>
        obtain ⟨hmu, cs, el, hsz, hcells, hform⟩ := hmok
        have hb : Below w.heap.size w (w.alloc (.cells cs el)) := (Below.refl _ w).alloc (Nat.le_refl _) _
        have hnewblk : (w.alloc (.cells cs el)).heap[w.heap.size]? = some (.cells cs el (0, 0)) := by
          show (w.heap.push _)[w.heap.size]? = _
          simp
        have hsize : (w.alloc (.cells cs el)).heap.size = w.heap.size + 1 := by
          show (w.heap.push _).size = _
          simp
        rw [hgsv] at hK
        have hobj : ∀ β', Keeps β w β' (w.alloc (.cells cs el)) → HRel β' (w.alloc (.cells cs el)) x w.heap.size := fun β' hk => ⟨cs, el, hnewblk, hsz, fun p q hp' hq' => by
          obtain ⟨u, g1, g2, g3⟩ := hcells p q hp' hq'
          exact ⟨u, g1, g2.keep hk, g3⟩⟩
        rcases hform with ⟨rfl, hn, hrun⟩ | ⟨rfl, hcs, hrun⟩
        · rw [hrun]
          obtain ⟨β', hsim⟩ := hs.made hp hE hg hb hsize (x := x) (v := .own (c + 8 * i) x.es 0 0 x.es) (u := .pointer (some ⟨w.heap.size, 0, none⟩)) (fun β' hm' hk => ⟨by
            have := Rel.own (β := β') (w := w.alloc (.cells cs el)) (id := c + 8 * i) (es := x.es) (i := 0) (j := 0) (m := x.es) hm' (by omega) (by omega)
            simpa using this, hobj β' hk⟩)
          exact hK _ _ _ hsim
        · rw [hrun]
          obtain ⟨β', hsim⟩ := hs.made hp hE hg hb hsize (x := x) (v := .osl (c + 8 * i) x.es 0 x.n) (u := .slice (some ⟨w.heap.size, 0, none⟩) x.n x.n) (fun β' hm' hk => ⟨by
            have := Rel.osl (β := β') (w := w.alloc (.cells cs el)) (id := c + 8 * i) (es := x.es) (i := 0) (len := x.n) (cap := x.n) (sz := cs.size) (el := el) hm' (by omega) (Nat.le_refl _) (by unfold World.shape?; rw [hnewblk]) (by rw [hcs]; simp)
            simpa using this, hobj β' hk⟩)
          exact hK _ _ _ hsim
  | @sc fn as r hc hpu hsc =>
    unfold wpOp
    simp only [hi]
    cases hg : s.G o.guard with
    | false => rw [hw, hg, if_neg (by simp)]; exact hK _ _ _ (hs.skip hp hE hGv (by show sv.G o.guard = false; rw [← hGv]; exact hg) rfl (fun id x hx => by cases hx))
    | true =>
      rw [hw, hg, if_pos rfl]
      refine .inl ?_
      have hgsv : sv.G o.guard = true := by rw [← hGv]; exact hg
      have hnp : ∀ x y z, o.op ≠ .pick x y z := fun x y z e => by rw [e] at hc; simp [calleeOf] at hc
      rw [hgl] at hc
      have hpu' := hpu hgsv
      obtain ⟨vs, hrun, hrel⟩ := callee_run (P := K.P) (hall hg hnp) hc (hP ▸ hpu'.1)
      unfold Oper.wp
      rw [hrun]
      have hfz : Rels (Book.none fun _ => False) w (as.map (frz 9 (vH f sv.H))) vs := by
        obtain ⟨h1, h2⟩ := rels_map hrel.len hrel.rel (fun u v hr => frz_rel hH (F' := fun _ => False) (fun _ _ h => h) (fun _ _ _ _ _ _ _ h => h) 9 u v hr)
        exact ⟨h1, h2⟩
      have := hpu'.use (F := fun _ => False) (fun _ h => h.elim) (fun g m h hgl' => (hs.h.glob g m h (hgl ▸ hgl')).rebook (fun b hb => ⟨fun h => h, fun id n h => by simp [Book.none] at h⟩) (by
        obtain ⟨_, _, _, _, _, _, _, _, hcl, _⟩ := rel_ipt_inv (hs.h.glob g m h (hgl ▸ hgl'))
        exact .ipt hcl)) hfz
      rw [hP] at this
      refine this.mono fun e w' hh => ?_
      obtain ⟨v, rfl, hb, hr⟩ := hh
      refine hK _ _ _ (hs.plain hp hE hGv rfl rfl hb (fun _ => ?_) (fun h => by rw [hgsv] at h; cases h))
      exact hr.scalar 9 hsc
  | @dc fn as r ids hids hc hpu =>
    unfold wpOp
    simp only [hi]
    cases hg : s.G o.guard with
    | false => rw [hw, hg, if_neg (by simp)]; exact hK _ _ _ (hs.skip hp hE hGv (by show sv.G o.guard = false; rw [← hGv]; exact hg) rfl (fun id x hx => by cases hx))
    | true =>
      rw [hw, hg, if_pos rfl]
      refine .inl ?_
      have hgsv : sv.G o.guard = true := by rw [← hGv]; exact hg
      have hnp : ∀ x y z, o.op ≠ .pick x y z := fun x y z e => by rw [e] at hc; simp [calleeOf] at hc
      rw [hgl] at hc
      have hpu' := hpu hgsv
      obtain ⟨vs, hrun, hrel⟩ := callee_run (P := K.P) (hall hg hnp) hc (hP ▸ hpu'.1)
      unfold Oper.wp
      rw [hrun]
      have zfree : ∀ b, β.free b → (frzB ids β).free b := by
        intro b hf
        refine ⟨hf.1, fun id n h => ?_⟩
        obtain ⟨mu', h1, h2⟩ := frzB_inv h
        have : mu' = true := by cases mu' with | true => rfl | false => simp at h2
        subst this
        exact hf.2 id n h1
      have hfree : ∀ id ob b n mu, vH f sv.H id = some ob → β.m id = some (.lives b n mu) → ¬ ¬ (frzB ids β).free b := by
        intro id ob b n mu ho hm hnf
        apply hnf
        have hid := hids id (by rw [ho]; simp)
        refine ⟨fun hF => ?_, fun id' n' h' => ?_⟩
        · have hF' : β.F b := hF
          rw [hs.h.bF] at hF'
          obtain ⟨g1, g2⟩ := hs.h.hF b hF'
          rcases (hs.h.live id b n mu hm).1 with h | h
          · omega
          · exact g2 h
        · obtain ⟨mu', g1, g2⟩ := frzB_inv h'
          have := hs.h.inj id' id b n' n mu' mu g1 hm
          subst this
          rw [hid] at g2
          simp at g2
      have hfz : Rels (Book.none fun b => ¬ (frzB ids β).free b) w (as.map (frz 9 (vH f sv.H))) vs := by
        obtain ⟨h1, h2⟩ := rels_map hrel.len hrel.rel (fun u v hr => frz_rel hH (F' := fun b => ¬ (frzB ids β).free b) (fun b hb h => h (zfree b hb)) (fun id ob b n mu ho hm => hfree id ob b n mu ho hm) 9 u v hr)
        exact ⟨h1, h2⟩
      have hFlt : ∀ b, ¬ (frzB ids β).free b → b < w.heap.size := by
        intro b hb
        apply Classical.byContradiction
        intro hge
        apply hb
        refine ⟨fun hF => ?_, fun id n h => ?_⟩
        · have hF' : β.F b := hF
          rw [hs.h.bF] at hF'
          have := (hs.h.hF b hF').1
          have := hs.h.hB
          omega
        · obtain ⟨_, g1, _⟩ := frzB_inv h
          have := (hs.h.live id b n _ g1).2
          omega
      have := hpu'.use (F := fun b => ¬ (frzB ids β).free b) hFlt (fun g m h hgl' => (hs.h.glob g m h (hgl ▸ hgl')).rebook (fun b hb => ⟨fun h => h (zfree b hb), fun id n h => by simp [Book.none] at h⟩) (by
        obtain ⟨_, _, _, _, _, _, _, _, hcl, _⟩ := rel_ipt_inv (hs.h.glob g m h (hgl ▸ hgl'))
        exact .ipt hcl)) hfz
      rw [hP] at this
      refine this.mono fun e w' hh => ?_
      obtain ⟨v, rfl, hb, hr⟩ := hh
      refine hK _ _ _ (hs.plain hp hE hGv rfl rfl hb (fun _ => ?_) (fun h => by rw [hgsv] at h; cases h))
      exact hr.rebook (fun b hb => Classical.not_not.1 hb.1) hr.closed
  | @st id f' hgn he hm hmu hht =>
    have hg : s.G o.guard = true := by rw [hgn]; rfl
    have hnp : ∀ x y z, o.op ≠ .pick x y z := fun x y z ee => by rw [ee] at he; simp [estep] at he
    rw [hP, hgl, ← hvH] at he
    obtain ⟨w', hrun, hsim⟩ := hs.stored hp hE hgn (hall hg hnp) (by rw [hag.mt id hm]; exact hmu) (by rw [hag.ht id hm]; exact hht) he
    unfold wpOp
    simp only [hi]
    rw [hw, hg, if_pos rfl]
    refine .inl ?_
    unfold Oper.wp
    rw [hrun]
    exact hK _ _ _ hsim
  | @ap q v ids x hgn he hq hm =>
    have hg : s.G o.guard = true := by rw [hgn]; rfl
    have hnp : ∀ x y z, o.op ≠ .pick x y z := fun x y z ee => by rw [ee] at he; simp [astep] at he
    rw [hP, hgl, ← hvH] at he
    obtain ⟨u, w', hrun, β', hsim⟩ := hs.appended hp hE hgn (hall hg hnp) (fun id hid => ⟨by rw [hag.mt id (hm id hid).1]; exact (hm id hid).2.1, by rw [hag.ht id (hm id hid).1]; exact (hm id hid).2.2⟩) he hq
    unfold wpOp
    simp only [hi]
    rw [hw, hg, if_pos rfl]
    refine .inl ?_
    unfold Oper.wp
    rw [hrun]
    exact hK _ _ _ hsim
  | @gv fn as gids zids r obs' hgn hc hnd hgm hz hl hG =>
    have hg : s.G o.guard = true := by rw [hgn]; rfl
    have hnp : ∀ x y z, o.op ≠ .pick x y z := fun x y z e => by rw [e] at hc; simp [calleeOf] at hc
    rw [hgl] at hc
    obtain ⟨vs, hrun, hrel⟩ := callee_run (P := K.P) (hall hg hnp) hc (hP ▸ hG.1)
    unfold wpOp
    simp only [hi]
    rw [hw, hg, if_pos rfl]
    refine .inl ?_
    unfold Oper.wp
    rw [hrun]
    rw [hP, hgl, ← hvH] at hG
    have := hs.given (Q := fun w' u => Kc (a.put o.dst u) w') hp hE hgn hrel hnd (fun id hid => ⟨(hgm id hid).1, by rw [hag.mt id (hgm id hid).2.1]; exact (hgm id hid).2.2.1, by rw [hag.ht id (hgm id hid).2.1]; exact (hgm id hid).2.2.2⟩)
      (fun id hv hn => hz id (by rw [← hvH]; exact hv) hn) hl hG (fun u w' β' hsim => hK _ _ _ hsim)
    refine this.mono fun e w' hh => ?_
    obtain ⟨u, rfl, hk⟩ := hh
    exact hk

end
end Go.Am
