/-
  The engine, part 13: a region that draws its order: the theorem.
-/
import Derived.Test.YtehcijjdibdljaaAmAny
namespace Go.Am
open Go.RowKit

theorem countP_less {q q' : Nat → Bool} {i : Nat} (hq : q i = true) (hq' : q' i = false) (hs : ∀ j, j ≠ i → q' j = q j) : ∀ n, i < n → (List.range n).countP q' + 1 = (List.range n).countP q := by
  intro n
  induction n with
  | zero => intro h; omega
  | succ n ih =>
    intro hn
    rw [List.range_succ, List.countP_append, List.countP_append]
    by_cases e : i = n
    · subst e
      have : (List.range i).countP q' = (List.range i).countP q := by
        apply List.countP_congr
        intro x hx
        have := List.mem_range.1 hx
        rw [hs x (by omega)]
      rw [this]
      simp [hq, hq']
    · have := ih (by omega)
      have e2 : [n].countP q' = [n].countP q := by simp [List.countP_cons, hs n (by omega)]
      rw [e2]
      omega

section
variable {K : Ctx} {C : Cfg} {ops : Array Oper} {c : Nat} {sv : Nat → RSt} {Q : Exit → Act → World → Prop}

/-- What is needed of the walk. -/
structure Drawn (K : Ctx) (C : Cfg) (ops : Array Oper) (c : Nat) (sv : Nat → RSt) (Q : Exit → Act → World → Prop) : Prop where
  hP : C.P = K.P
  hgl : C.gl = K.gl
  hnt : C.nt = K.nt
  draw : drawOk ops = true
  st : ∀ j o, ops[j]? = some o → okOp C.nt ops (sv j) o = true ∧ OpAt C c j o (sv j) (sv (j + 1))
  tg0 : ∀ n, (sv 0).tg n = none
  ht0 : ∀ n, (sv 0).ht n = none
  gt0 : ∀ n, (sv 0).gt n = none
  H0 : ∀ i, (sv 0).H (c + i) = none
  one : ∀ (i j : Nat) (oi oj : Oper) (d : Tmp), ops[i]? = some oi → ops[j]? = some oj → oi.dst = some d → oj.dst = some d → i = j
  fin : ∀ β a w, RSim K ops c (fun j => ops.size ≤ j) β (sv ops.size) a w → Q .normal a w

abbrev Li (listed : Array Bool) : Nat → Prop := fun j => listed.getD j false = true

theorem Li_set {listed : Array Bool} {i : Nat} (hi : i < listed.size) (j : Nat) : Li (listed.setIfInBounds i true) j ↔ Li listed j ∨ j = i := by
  unfold Li
  rw [Array.getD_eq_getD_getElem?, Array.getD_eq_getD_getElem?, Array.getElem?_setIfInBounds]
  by_cases e : i = j
  · subst e; simp [hi]
  · simp [e, Ne.symm e]

theorem not_Li {listed : Array Bool} {i : Nat} (h : listed.getD i true = false) : ¬ Li listed i ∧ i < listed.size := by
  have hlt : i < listed.size := by
    apply Classical.byContradiction
    intro hn
    rw [Array.getD_eq_getD_getElem?, Array.getElem?_eq_none (by omega)] at h
    cases h
  refine ⟨fun hl => ?_, hlt⟩
  unfold Li at hl
  rw [Array.getD_eq_getD_getElem?] at h hl
  simp only [hlt, Array.getElem?_eq_getElem, Option.getD_some] at h hl
  rw [h] at hl
  cases hl

theorem closed_set {listed : Array Bool} {i : Nat} {o : Oper} (hc : Closed ops (Li listed)) (hi : i < listed.size) (ho : ops[i]? = some o) (hr : ∀ e, e ∈ o.after → Region.binds .any e = true → Li listed e.on) :
    Closed ops (Li (listed.setIfInBounds i true)) := by
  intro x y hx hxy
  rw [Li_set hi] at hx ⊢
  rcases hx with hx | rfl
  · exact .inl (hc x y hx hxy)
  · exact .inl (pre_of_ready hc ho hr y hxy)

theorem ready_spec {listed : Array Bool} {i : Nat} (h : i ∈ Region.ready .any ops listed) : ¬ Li listed i ∧ i < listed.size ∧ ∃ o, ops[i]? = some o ∧ ∀ e, e ∈ o.after → Region.binds .any e = true → Li listed e.on := by
  obtain ⟨h1, o, h2, h3⟩ := mem_ready.1 h
  obtain ⟨h4, h5⟩ := not_Li h1
  exact ⟨h4, h5, o, h2, h3⟩

/-- The first that is not carried out may come up. -/
theorem ready_least (D : Drawn K C ops c sv Q) {listed : Array Bool} (hsz : listed.size = ops.size) {i : Nat} (hi : i < ops.size) (hn : ¬ Li listed i) (hb : ∀ j, j < i → Li listed j) : i ∈ Region.ready .any ops listed := by
  have ho : ops[i]? = some ops[i] := by simp [hi]
  refine mem_ready.2 ⟨?_, ops[i], ho, fun e he hbd => hb e.on ((drawOk_spec D.draw ho).1 e he hbd)⟩
  unfold Li at hn
  rw [Array.getD_eq_getD_getElem?] at hn ⊢
  have : i < listed.size := by omega
  simp only [this, Array.getElem?_eq_getElem, Option.getD_some] at hn ⊢
  simpa using hn

theorem least_not {L : Nat → Prop} {n : Nat} (h : ¬ ∀ j, j < n → L j) : ∃ i, i < n ∧ ¬ L i ∧ ∀ j, j < i → L j := by
  induction n with
  | zero => exact absurd (fun j hj => absurd hj (by omega)) h
  | succ n ih =>
    by_cases hn : ∀ j, j < n → L j
    · refine ⟨n, by omega, fun hl => h (fun j hj => ?_), hn⟩
      by_cases e : j = n
      · subst e; exact hl
      · exact hn j (by omega)
    · obtain ⟨i, h1, h2, h3⟩ := ih hn
      exact ⟨i, by omega, h2, h3⟩

theorem phase2 (D : Drawn K C ops c sv Q) : ∀ (fuel j : Nat) (listed : Array Bool) (β : Book) (a : Act) (w : World), listed.size = ops.size → firstE ops ≤ j → j ≤ ops.size → (∀ k, Li listed k ↔ k < j) →
    RSim K ops c (fun k => ¬ Li listed k) β (sv j) a w → ops.size ≤ j + fuel → wpAny K.P .any ops Q fuel listed a w := by
  intro fuel
  induction fuel with
  | zero =>
    intro j listed β a w hsz hp hj hL hs hf
    obtain rfl : j = ops.size := by omega
    refine ⟨?_, D.fin β a w (hs.fewer fun k hk hl => by have := (hL k).1 hl; omega)⟩
    apply List.eq_nil_iff_forall_not_mem.2
    intro i hi
    obtain ⟨h1, h2, _⟩ := ready_spec hi
    exact h1 ((hL i).2 (by omega))
  | succ fuel ih =>
    intro j listed β a w hsz hp hj hL hs hf
    by_cases hjn : j = ops.size
    · subst hjn
      have hnil : Region.ready .any ops listed = [] := by
        apply List.eq_nil_iff_forall_not_mem.2
        intro i hi
        obtain ⟨h1, h2, _⟩ := ready_spec hi
        exact h1 ((hL i).2 (by omega))
      refine ⟨fun _ => D.fin β a w (hs.fewer fun k hk hl => by have := (hL k).1 hl; omega), fun i hi => ?_⟩
      rw [hnil] at hi
      cases hi
    · have hjlt : j < ops.size := by omega
      have hready := ready_least D hsz hjlt (fun hl => by have := (hL j).1 hl; omega) (fun k hk => (hL k).2 hk)
      refine ⟨(fun hn => by rw [hn] at hready; cases hready), fun i hi => ?_⟩
      obtain ⟨h1, h2, o, ho, hr⟩ := ready_spec hi
      have hij : i = j := by
        have hge : j ≤ i := by
          apply Classical.byContradiction
          intro hlt
          exact h1 ((hL i).2 (by omega))
        apply Classical.byContradiction
        intro hne
        have hoj : ops[j]? = some ops[j] := by simp [hjlt]
        have hcl : Closed ops (Li listed) := by
          intro x y hx hxy
          have hxlt := (hL x).1 hx
          apply Classical.byContradiction
          intro hny
          have hox : ops[x]? = some ops[x] := Array.getElem?_eq_getElem (by omega)
          exact hny ((hL y).2 (Nat.lt_trans (pre_lt D.draw hox hxy) hxlt))
        have hpre := pre_of_ready hcl ho hr
        rcases (drawOk_spec D.draw ho).2 j ops[j] (by omega) hoj with h | ⟨h, _⟩ | ⟨h, _⟩
        · have := (hL j).1 (hpre j h); omega
        · omega
        · omega
      subst hij
      obtain ⟨hok, hop⟩ := D.st i o ho
      refine op_sound D.hP D.hgl D.hnt hs ho h1 (fun k ok d hk hkd hd => D.one k i ok o d hk ho hkd hd) hok hop (fun β' a' w' hs' => ?_)
      refine ih (i + 1) _ β' a' w' (by simp [hsz]) (by omega) (by omega) (fun k => ?_) (hs'.fewer fun k hk => ?_) (by omega)
      · rw [Li_set h2, hL k]; omega
      · rw [Li_set h2] at hk
        exact ⟨fun hl => hk (.inl hl), fun e => hk (.inr e)⟩

theorem tmp_looksAt {o : Oper} {t : Tmp} (h : Operand.tmp t ∈ o.op.operands) : t ∈ o.looksAt ops := by
  unfold Oper.looksAt
  exact List.mem_append_left _ (List.mem_filterMap.2 ⟨.tmp t, by simpa using h, rfl⟩)

theorem guard_looksAt {o og : Oper} {g : Nat} {b : Bool} {d : Tmp} (h : o.guard = some (g, b)) (hg : ops[g]? = some og) (hd : og.dst = some d) : d ∈ o.looksAt ops := by
  unfold Oper.looksAt
  refine List.mem_append_right _ ?_
  simp [h, hg, hd]

theorem not_apart_w {x y : Oper} {d : Tmp} (hx : x.dst = some d) (hy : d ∈ y.looksAt ops) : x.apart ops y = false := by
  cases h : x.apart ops y with
  | false => rfl
  | true => exact absurd hy ((Oper.apart_spec h).1 d hx)
theorem not_apart_r {x y : Oper} {d : Tmp} (hy : y.dst = some d) (hx : d ∈ x.looksAt ops) : x.apart ops y = false := by
  cases h : x.apart ops y with
  | false => rfl
  | true => exact absurd hx ((Oper.apart_spec h).2.2 d hy)

theorem gval_gt {s : RSt} {i : Nat} {o : Oper} {v : AV} {ob : Option Ob} (h : (s.put c i o v ob).gt i ≠ none) (hn : s.gt i = none) : ∃ d, o.dst = some d := by
  cases hd : o.dst with
  | some d => exact ⟨d, rfl⟩
  | none => simp only [RSt.put, hd, gval] at h; exact absurd hn h

theorem draw_v (h : drawOk ops = true) {j : Nat} {oj : Oper} (hj : ops[j]? = some oj) (hlt : j < firstE ops) {i : Nat} {oi : Oper} (hi : i < j) (hoi : ops[i]? = some oi) : pre ops j i = true ∨ oi.apart ops oj = true := by
  rcases (drawOk_spec h hj).2 i oi hi hoi with h | ⟨_, h⟩ | ⟨_, h⟩
  · exact .inl h
  · exact .inr h
  · obtain ⟨t, d, x, hop, _⟩ := privSt_spec h
    have := firstE_spec hlt hj
    rw [hop] at this
    cases this

theorem draw_e (h : drawOk ops = true) {j : Nat} {oj : Oper} (hj : ops[j]? = some oj) (hge : firstE ops ≤ j) {i : Nat} {oi : Oper} (hi : i < j) (hoi : ops[i]? = some oi) : pre ops j i = true ∨ (i < firstE ops ∧ privSt ops j i oi oj = true) := by
  rcases (drawOk_spec h hj).2 i oi hi hoi with h | ⟨h, _⟩ | h
  · exact .inl h
  · omega
  · exact .inr h

/-- s is s0, but m of the stores (into the objects T) have been carried out. -/
structure Ov (ops : Array Oper) (c p : Nat) (sv : Nat → RSt) (I : Nat → List Nat) (L T : Nat → Prop) (m : Nat) (s0 s : RSt) : Prop where
  fr : s.fr = s0.fr
  tg : s.tg = s0.tg
  gt : s.gt = s0.gt
  ht : s.ht = s0.ht
  H : ∀ id, (∀ k, T k → id ≠ c + k) → s.H id = s0.H id
  HT : ∀ k, T k → s.H (c + k) = (sv (p + m)).H (c + k)
  e1 : sv (p + m) = { sv p with H := (sv (p + m)).H }
  e2 : ∀ id, (∀ k, T k → id ≠ c + k) → (sv (p + m)).H id = (sv p).H id
  e3 : ∀ k, T k → L k ∧ k < p ∧ memN (Fz I p) (c + k) = false ∧ ∀ i, i < p → ¬ L i → i < k

theorem Ov.start {p : Nat} {I : Nat → List Nat} {L : Nat → Prop} (s : RSt) : Ov ops c p sv I L (fun _ => False) 0 s s :=
  ⟨rfl, rfl, rfl, rfl, fun _ _ => rfl, fun _ h => h.elim, rfl, fun _ _ => rfl, fun _ h => h.elim⟩

theorem Ov.whole {p m : Nat} {I : Nat → List Nat} {L T : Nat → Prop} {s0 s : RSt} (h : Ov ops c p sv I L T m s0 s) (h0 : s0 = sv p) : s = sv (p + m) := by
  have hH : s.H = (sv (p + m)).H := by
    funext id
    by_cases ht : ∃ k, T k ∧ id = c + k
    · obtain ⟨k, hk, rfl⟩ := ht
      exact h.HT k hk
    · have hn : ∀ k, T k → id ≠ c + k := fun k hk e => ht ⟨k, hk, e⟩
      rw [h.H id hn, h.e2 id hn, h0]
  rw [h.e1, ← hH, ← h0]
  have e1 := h.fr
  have e2 := h.tg
  have e3 := h.gt
  have e4 := h.ht
  cases s
  simp only at e1 e2 e3 e4
  subst e1; subst e2; subst e3; subst e4
  rfl

theorem Ov.step {p m i : Nat} {I : Nat → List Nat} {L T : Nat → Prop} {s0 s : RSt} {o : Oper} {v : AV} {ob : Option Ob} (h : Ov ops c p sv I L T m s0 s) (hi : i < p) (hn : ¬ L i) :
    Ov ops c p sv I (fun j => L j ∨ j = i) T m { ({ s0 with H := frzH (I i) s0.H } : RSt).put c i o v ob with H := frzH (Fz I p) (({ s0 with H := frzH (I i) s0.H } : RSt).put c i o v ob).H }
      { ({ s with H := frzH (I i) s.H } : RSt).put c i o v ob with H := frzH (Fz I p) (({ s with H := frzH (I i) s.H } : RSt).put c i o v ob).H } := by
  refine ⟨?_, ?_, ?_, ?_, fun id hid => ?_, fun k hk => ?_, h.e1, h.e2, fun k hk => ?_⟩
  · simp only [RSt.put, h.fr]
  · simp only [RSt.put, h.tg]
  · simp only [RSt.put, RSt.G, h.gt]
  · simp only [RSt.put, h.ht]
  · show frzH (Fz I p) (({ s with H := frzH (I i) s.H } : RSt).put c i o v ob).H id = frzH (Fz I p) (({ s0 with H := frzH (I i) s0.H } : RSt).put c i o v ob).H id
    rw [frzH_at, frzH_at]
    have e : (({ s with H := frzH (I i) s.H } : RSt).put c i o v ob).H id = (({ s0 with H := frzH (I i) s0.H } : RSt).put c i o v ob).H id := by
      have e0 : frzH (I i) s.H id = frzH (I i) s0.H id := by rw [frzH_at, frzH_at, h.H id hid]
      cases ob with
      | none => exact e0
      | some y =>
        show upd (frzH (I i) s.H) (c + i) (some y) id = upd (frzH (I i) s0.H) (c + i) (some y) id
        by_cases e : id = c + i
        · rw [e, upd_same, upd_same]
        · rw [upd_ne _ _ e, upd_ne _ _ e, e0]
    rw [e]
  · obtain ⟨h1, h2, h3, h4⟩ := h.e3 k hk
    have hne : c + k ≠ c + i := fun e => hn ((show k = i by omega) ▸ h1)
    have hI : memN (I i) (c + k) = false := by
      cases hm : memN (I i) (c + k) with
      | false => rfl
      | true => rw [memN_Fz.2 ⟨i, hi, hm⟩] at h3; cases h3
    show frzH (Fz I p) (({ s with H := frzH (I i) s.H } : RSt).put c i o v ob).H (c + k) = _
    have e : (({ s with H := frzH (I i) s.H } : RSt).put c i o v ob).H (c + k) = frzH (I i) s.H (c + k) := by
      cases ob with
      | none => rfl
      | some y => exact upd_ne _ _ hne
    rw [frzH_at, e, frzH_at, h.HT k hk, hI, h3]
    cases (sv (p + m)).H (c + k) <;> simp
  · obtain ⟨h1, h2, h3, h4⟩ := h.e3 k hk
    exact ⟨.inl h1, h2, h3, fun i' hi' hn' => h4 i' hi' (fun hl => hn' (.inl hl))⟩

theorem Ov.more {p m : Nat} {I : Nat → List Nat} {L L' T : Nat → Prop} {s0 s : RSt} (h : Ov ops c p sv I L T m s0 s) (hl : ∀ k, L k ↔ L' k) : Ov ops c p sv I L' T m s0 s :=
  ⟨h.fr, h.tg, h.gt, h.ht, h.H, h.HT, h.e1, h.e2, fun k hk => let ⟨h1, h2, h3, h4⟩ := h.e3 k hk; ⟨(hl k).1 h1, h2, h3, fun i hi hn => h4 i hi (fun hx => hn ((hl i).1 hx))⟩⟩

theorem estep_same {P : Program} {ρ ρ1 : Operand → AV} {H H1 : Heap} {t : TypeId} {ax x : Operand} {q : Rq} {v : AV} {H' : Heap} {id es i j m : Nat} (h : estep P ρ H (.store t ax x) = some (q, v, H')) (ha : ρ ax = .own id es i j m)
    (ha1 : ρ1 ax = ρ ax) (hx1 : ρ1 x = ρ x) (hH : H1 id = H id) :
    ∃ ob ob', H id = some ob ∧ ob.mu = true ∧ v = .junk ∧ H' = upd H id (some ob') ∧ estep P ρ1 H1 (.store t ax x) = some (q, .junk, upd H1 id (some ob')) := by
  simp only [estep, ha1, hx1, ha] at h ⊢
  split at h
  · rename_i id' es' i' j' m' cs z e1 hcs hz
    cases e1
    split at h
    · rename_i ob hob
      obtain ⟨hc, h⟩ := bif_some h
      simp only [Option.some.injEq, Prod.mk.injEq] at h
      obtain ⟨rfl, rfl, rfl⟩ := h
      refine ⟨ob, _, hob, ?_, rfl, rfl, ?_⟩
      · simp only [Bool.and_eq_true] at hc
        exact hc.1.1.1.1
      · rw [hH, hob]
        simp only [hc, cond_true]
    · cases h
  · cases h

theorem count_tail {listed : Array Bool} {p : Nat} (hall : ∀ j, Li listed j ↔ j < p) : ∀ n, p ≤ n → (List.range n).countP (fun j => !listed.getD j false) = n - p := by
  intro n
  induction n with
  | zero => intro h; simp
  | succ n ihn =>
    intro h
    rw [List.range_succ, List.countP_append]
    by_cases e : p ≤ n
    · have hn : listed.getD n false = false := by
        cases hx : listed.getD n false with
        | false => rfl
        | true => have := (hall n).1 hx; omega
      rw [ihn e]
      simp only [List.countP_cons, List.countP_nil, hn]
      simp
      omega
    · have e2 : p = n + 1 := by omega
      have h0 : (List.range n).countP (fun j => !listed.getD j false) = 0 := by
        apply List.countP_eq_zero.2
        intro j hj
        have := List.mem_range.1 hj
        have hl : listed.getD j false = true := (hall j).2 (by omega)
        simp [hl]
      have hl : listed.getD n false = true := (hall n).2 (by omega)
      rw [h0]
      simp only [List.countP_cons, List.countP_nil, hl]
      simp
      omega

theorem count_set {listed : Array Bool} {i n : Nat} (h1 : ¬ Li listed i) (h2 : i < listed.size) (hn : i < n) :
    (List.range n).countP (fun j => !(listed.setIfInBounds i true).getD j false) + 1 = (List.range n).countP (fun j => !listed.getD j false) := by
  refine countP_less (i := i) ?_ ?_ (fun j hj => ?_) n hn
  · have : listed.getD i false = false := by
      cases hx : listed.getD i false with
      | false => rfl
      | true => exact absurd hx h1
    simp [this]
  · have : (listed.setIfInBounds i true).getD i false = true := (Li_set h2 i).2 (.inr rfl)
    simp [this]
  · have : (listed.setIfInBounds i true).getD j false = listed.getD j false := by
      rw [Array.getD_eq_getD_getElem?, Array.getD_eq_getD_getElem?, Array.getElem?_setIfInBounds_ne (Ne.symm hj)]
    simp [this]

theorem phase1 (D : Drawn K C ops c sv Q) {V : Nat → AV} {O : Nat → Option Ob} {I : Nat → List Nat} (M : Made C ops c (firstE ops) sv V O I) :
    ∀ (fuel : Nat) (listed : Array Bool) (T : Nat → Prop) (m : Nat) (s0 s : RSt) (β : Book) (a : Act) (w : World), listed.size = ops.size → Closed ops (Li listed) → firstE ops + m ≤ ops.size →
      (∀ j, firstE ops ≤ j → (Li listed j ↔ j < firstE ops + m)) → Inv ops c (firstE ops) sv V O I (fun j => Li listed j ∧ j < firstE ops) s0 → Ov ops c (firstE ops) sv I (Li listed) T m s0 s →
      RSim K ops c (fun k => ¬ Li listed k) β s a w → (List.range ops.size).countP (fun j => !listed.getD j false) ≤ fuel → wpAny K.P .any ops Q fuel listed a w := by
  intro fuel
  induction fuel with
  | zero =>
    intro listed T m s0 s β a w hsz hc hm hL hinv hov hs hf
    have hall : ∀ j, j < ops.size → Li listed j := by
      intro j hj
      have h0 : (List.range ops.size).countP (fun j => !listed.getD j false) = 0 := by omega
      have := List.countP_eq_zero.1 h0 j (List.mem_range.2 hj)
      simpa [Li] using this
    have hpl := M.p_le
    have hes := hov.whole (hinv.whole M (fun j => ⟨fun h => h.2, fun hj => ⟨hall j (by omega), hj⟩⟩))
    subst hes
    exact phase2 D 0 (firstE ops + m) listed β a w hsz (by omega) hm (fun k => by
      by_cases hk : k < firstE ops
      · exact ⟨fun _ => by omega, fun _ => hall k (by omega)⟩
      · exact hL k (by omega)) hs (by
        apply Classical.byContradiction
        intro hlt
        have := (hL (firstE ops + m) (by omega)).1 (hall _ (by omega))
        omega)
  | succ fuel ih =>
    intro listed T m s0 s β a w hsz hc hm hL hinv hov hs hf
    have hpl := M.p_le
    by_cases hall : ∀ j, j < firstE ops → Li listed j
    · have hes := hov.whole (hinv.whole M (fun j => ⟨fun h => h.2, fun hj => ⟨hall j hj, hj⟩⟩))
      subst hes
      have hL' : ∀ k, Li listed k ↔ k < firstE ops + m := fun k => by
        by_cases hk : k < firstE ops
        · exact ⟨fun _ => by omega, fun _ => hall k hk⟩
        · exact hL k (by omega)
      refine phase2 D (fuel + 1) (firstE ops + m) listed β a w hsz (by omega) hm hL' hs ?_
      have := count_tail hL' ops.size hm
      omega
    · obtain ⟨i0, hi0, hn0, hb0⟩ := least_not hall
      have hready := ready_least D hsz (by omega) hn0 hb0
      refine ⟨(fun hn => by rw [hn] at hready; cases hready), fun i hi => ?_⟩
      obtain ⟨h1, h2, o, ho, hr⟩ := ready_spec hi
      have hpre := pre_of_ready hc ho hr
      have w1 : ∀ j o d, Li listed j → j < firstE ops → ops[j]? = some o → o.dst = some d → s.fr d = V j ∧ s.tg d = o.guard := by
        rw [hov.fr, hov.tg]; exact fun j o d hj hjp => hinv.w1 j o d ⟨hj, hjp⟩
      have w2 : ∀ n, (∀ j o, Li listed j ∧ j < firstE ops → ops[j]? = some o → o.dst ≠ some n) → s.fr n = (sv 0).fr n ∧ s.tg n = none := by
        rw [hov.fr, hov.tg]; exact hinv.w2
      have g1 : ∀ j, Li listed j ∧ j < firstE ops → s.gt j = (sv (j + 1)).gt j := by rw [hov.gt]; exact hinv.g1
      have hLset : ∀ k, Li (listed.setIfInBounds i true) k ↔ Li listed k ∨ k = i := Li_set h2
      by_cases hip : i < firstE ops
      · have hok := M.ok i o hip ho
        -- an operand's slot
        have hslot : ∀ t, t ∈ o.looksAt ops → s.fr t = (sv i).fr t ∧ s.tg t = (sv i).tg t := by
          intro t ht
          obtain ⟨f1, f2⟩ := M.fr i (by omega)
          by_cases hw : ∃ j oj, j < i ∧ ops[j]? = some oj ∧ oj.dst = some t
          · obtain ⟨j, oj, hj, hoj, hd⟩ := hw
            have hLj : Li listed j := by
              rcases draw_v D.draw ho hip hj hoj with h | h
              · exact hpre j h
              · rw [not_apart_w hd ht] at h; cases h
            have a1 := w1 j oj t hLj (by omega) hoj hd
            have a2 := f1 j oj t hj hoj hd
            exact ⟨a1.1.trans a2.1.symm, a1.2.trans a2.2.symm⟩
          · have a2 := f2 t (fun j oj hj hoj hd => hw ⟨j, oj, hj, hoj, hd⟩)
            have a1 := w2 t (fun j oj hj hoj hd => by
              rcases Nat.lt_trichotomy j i with hlt | heq | hgt
              · exact hw ⟨j, oj, hlt, hoj, hd⟩
              · subst heq; exact h1 hj.1
              · rcases draw_v D.draw hoj hj.2 hgt ho with h | h
                · exact h1 (hc j i hj.1 h)
                · rw [not_apart_r hd ht] at h; cases h)
            exact ⟨a1.1.trans a2.1.symm, a1.2.trans a2.2.symm⟩
        -- the guard
        have hguard : ∀ g b, o.guard = some (g, b) → s.gt g = (sv i).gt g ∧ s.gt g ≠ none := by
          intro g b hg
          have hsome : ((sv i).gt g).isSome = true := by
            unfold okOp at hok
            rw [Bool.and_eq_true, Bool.and_eq_true] at hok
            have := hok.1.1
            rw [hg] at this
            exact this
          have hgi : g < i := by
            apply Classical.byContradiction
            intro hge
            rw [(M.gt i (by omega) g).2 (by omega)] at hsome
            cases hsome
          have e1 := (M.gt i (by omega) g).1 hgi
          have hog : ops[g]? = some ops[g] := Array.getElem?_eq_getElem (by have := M.p_le; omega)
          have hne : (sv (g + 1)).gt g ≠ none := by rw [← e1]; intro e; rw [e] at hsome; cases hsome
          obtain ⟨d, hd⟩ : ∃ d, ops[g].dst = some d := by
            rw [M.next g _ (by omega) hog] at hne
            exact gval_gt hne ((M.gt g (by omega) g).2 (Nat.le_refl _))
          have hLg : Li listed g := by
            rcases draw_v D.draw ho hip hgi hog with h | h
            · exact hpre g h
            · rw [not_apart_w hd (guard_looksAt hg hog hd)] at h; cases h
          have := g1 g ⟨hLg, by omega⟩
          exact ⟨this.trans e1.symm, by rw [this]; exact hne⟩
        have hG : (sv i).G o.guard = s.G o.guard := by
          cases hg : o.guard with
          | none => rfl
          | some gb => obtain ⟨g, b⟩ := gb; simp only [RSt.G, (hguard g b hg).1]
        have htag : ∀ x, x ∈ o.op.operands → tagOk ops s o.guard x = tagOk ops (sv i) o.guard x := by
          intro x hx
          cases x with
          | tmp t => simp only [tagOk, (hslot t (tmp_looksAt hx)).2]
          | _ => rfl
        have hopnd : opndOk ops s o = true := by
          have hv : opndOk ops (sv i) o = true := by
            unfold okOp at hok
            rw [Bool.and_eq_true] at hok
            exact hok.2
          unfold opndOk at hv ⊢
          split
          · rename_i x y z hpk
            rw [hpk] at hv
            have hx := htag x (by rw [hpk]; simp [Op.operands])
            have hy := htag y (by rw [hpk]; simp [Op.operands])
            have hz := htag z (by rw [hpk]; simp [Op.operands])
            have arm : ∀ want u, u ∈ o.op.operands → tagOk ops s o.guard u = tagOk ops (sv i) o.guard u → armOk ops s o.guard x want u = armOk ops (sv i) o.guard x want u := by
              intro want u hu hut
              unfold armOk
              rw [hut]
              cases x with
              | tmp tc =>
                cases u with
                | tmp tx => simp only [(hslot tx (tmp_looksAt hu)).2]
                | _ => rfl
              | _ => rfl
            rw [hx, arm true y (by rw [hpk]; simp [Op.operands]) hy, arm false z (by rw [hpk]; simp [Op.operands]) hz]
            exact hv
          · rename_i hnp
            have hv' : o.op.operands.toList.all (tagOk ops (sv i) o.guard) = true := by
              split at hv
              · rename_i x y z hpk; exact absurd hpk (hnp x y z)
              · exact hv
            rw [List.all_eq_true] at hv' ⊢
            intro x hx
            rw [htag x (by simpa using hx)]
            exact hv' x hx
        have hsame : ∀ x, x ∈ o.op.operands → ev K.gl (sv i).fr x = ev K.gl s.fr x := by
          intro x hx
          cases x with
          | tmp t => exact (hslot t (tmp_looksAt hx)).1.symm
          | _ => rfl
        have hH : HeapOk β w (sv i).H := by
          intro id ob hid hne
          rw [(M.H i (by omega)).1, frzH_at] at hid
          simp only [Option.map_eq_some_iff] at hid
          obtain ⟨ob', hU, rfl⟩ := hid
          have hsub : memN (Fz I (firstE ops)) id = false → memN (Fz I i) id = false := by
            intro h
            cases hm : memN (Fz I i) id with
            | false => rfl
            | true =>
              obtain ⟨k, hk, hkm⟩ := memN_Fz.1 hm
              rw [memN_Fz.2 ⟨k, by omega, hkm⟩] at h
              cases h
          have hact : ∃ ob2, s.H id = some ob2 ∧ ob2.es = ob'.es ∧ ob2.n = ob'.n ∧ ob2.f = ob'.f ∧ ob2.mu = (ob'.mu && !memN (Fz I (firstE ops)) id) := by
            by_cases hw : ∃ j x, j < i ∧ O j = some x ∧ id = c + j
            · obtain ⟨j, x, hj, hO, rfl⟩ := hw
              rw [Uo_made hO i hj] at hU
              cases hU
              have hLj : Li listed j := by
                apply Classical.byContradiction
                intro hnl
                exact hne (hs.h.freshE j hnl)
              have hnT : ∀ k, T k → c + j ≠ c + k := by
                intro k hk e
                have e2 : j = k := by omega
                subst e2
                have := (hov.e3 j hk).2.2.2 i hip h1
                omega
              exact ⟨_, (hov.H _ hnT).trans (hinv.h1 j _ ⟨hLj, by omega⟩ hO), rfl, rfl, rfl, rfl⟩
            · rw [Uo_old i (fun j x hj hO e => hw ⟨j, x, hj, hO, e⟩)] at hU
              have hnT : ∀ k, T k → id ≠ c + k := by
                intro k _ e
                subst e
                rw [D.H0] at hU
                cases hU
              have hnew : ∀ j x, (Li listed j ∧ j < firstE ops) → O j = some x → id ≠ c + j := by
                intro j x _ _ e
                subst e
                rw [D.H0] at hU
                cases hU
              refine ⟨{ ob' with mu := ob'.mu && !memN (Fz I (firstE ops)) id }, ?_, rfl, rfl, rfl, rfl⟩
              rw [hov.H id hnT, hinv.h2 id hnew, frzH_at, hU]
              rfl
          obtain ⟨ob2, h21, h22, h23, h24, h25⟩ := hact
          obtain ⟨b, mu, hb, hmu, cs, el, g1, g2, g3⟩ := hs.h.ok id ob2 h21 hne
          refine ⟨b, mu, by rw [hb, h23], fun hm => ?_, cs, el, g1, ?_, ?_⟩
          · have := hmu hm
            rw [h25, Bool.and_eq_true] at this
            show (ob'.mu && !memN (Fz I i) id) = true
            rw [this.1, hsub (by simpa using this.2)]
            rfl
          · show ob'.n * ob'.es ≤ cs.size
            rw [← h22, ← h23]; exact g2
          · intro p q hp hq
            have hp' : p < ob2.n := by rw [h23]; exact hp
            have hq' : q < ob2.es := by rw [h22]; exact hq
            obtain ⟨v, hv, hr'⟩ := g3 p q hp' hq'
            rw [h22] at hv
            rw [h24] at hr'
            exact ⟨v, hv, hr'⟩
        have hp : Pre K ops s i o := by
          refine ⟨ho, fun g b hg => (hguard g b hg).2, fun d hd => ?_, fun k ok d hk hkd hd => D.one k i ok o d hk ho hkd hd⟩
          unfold okOp at hok
          rw [Bool.and_eq_true, Bool.and_eq_true] at hok
          have := hok.1.2
          rw [hd] at this
          rw [← D.hnt]
          simpa using this
        refine op_view D.hP D.hgl hs hp h1 hopnd hsame hG hH (M.op i o hip ho) (fun β' a' w' hs' => ?_)
        have hs2 := hs'.freeze (Fz I (firstE ops))
        have hgt : (({ s with H := frzH (I i) s.H } : RSt).put c i o (V i) (O i)).gt i = (sv (i + 1)).gt i := by
          rw [M.next i o hip ho]
          have e1 : s.gt i = (sv i).gt i := by rw [hov.gt, hinv.g2 i (fun h => h1 h.1), (M.gt i (by omega) i).2 (Nat.le_refl _)]
          cases hgv : gval o.dst (V i) with
          | none => simp only [RSt.put, hgv]; exact e1
          | some b =>
            simp only [RSt.put, hgv, upd_same]
            have : (({ sv i with H := frzH (I i) (sv i).H } : RSt)).G o.guard = (sv i).G o.guard := rfl
            have e3 : (({ s with H := frzH (I i) s.H } : RSt)).G o.guard = s.G o.guard := rfl
            rw [this, e3, hG]
        have hgt0 : (({ s0 with H := frzH (I i) s0.H } : RSt).put c i o (V i) (O i)).gt i = (sv (i + 1)).gt i := by
          rw [← hgt]
          simp only [RSt.put, RSt.G, hov.gt]
        have hinv2 := hinv.step M hip ho (fun h => h1 h.1) hgt0
        have hLeq : (fun j => (Li listed j ∧ j < firstE ops) ∨ j = i) = (fun j => Li (listed.setIfInBounds i true) j ∧ j < firstE ops) := by
          funext k
          apply propext
          rw [hLset k]
          constructor
          · rintro (⟨h, h'⟩ | rfl)
            · exact ⟨.inl h, h'⟩
            · exact ⟨.inr rfl, hip⟩
          · rintro ⟨h | h, h'⟩
            · exact .inl ⟨h, h'⟩
            · exact .inr h
        rw [hLeq] at hinv2
        refine ih _ T m _ _ _ a' w' (by simp [hsz]) (closed_set hc h2 ho hr) hm (fun j hj => ?_) hinv2 ((hov.step hip h1).more (fun k => (hLset k).symm)) (hs2.fewer fun k hk => ?_) ?_
        · rw [hLset j, hL j hj]
          constructor
          · rintro (h | rfl)
            · exact h
            · omega
          · exact .inl
        · exact ⟨fun hl => hk ((hLset k).2 (.inl hl)), fun e => hk ((hLset k).2 (.inr e))⟩
        · have := count_set h1 h2 (n := ops.size) (by omega)
          omega
      · have him : i = firstE ops + m := by
          rcases Nat.lt_trichotomy i (firstE ops + m) with h | h | h
          · exact absurd ((hL i (by omega)).2 h) h1
          · exact h
          · have hlt : firstE ops + m < ops.size := by omega
            rcases draw_e D.draw ho (by omega) h (Array.getElem?_eq_getElem hlt) with h' | h'
            · have := (hL _ (by omega)).1 (hpre _ h'); omega
            · omega
        have hpriv : ∀ i' oi', i' < firstE ops → ¬ Li listed i' → ops[i']? = some oi' → privSt ops i i' oi' o = true := by
          intro i' oi' hi' hn' ho'
          rcases draw_e D.draw ho (by omega) (by omega : i' < i) ho' with h' | h'
          · exact absurd (hpre _ h') hn'
          · exact h'.2
        obtain ⟨t, d, x, hop, hdst, -, k, ok, tt, hk, -, hprek, hok, hkd, hkop⟩ := privSt_spec (hpriv i0 ops[i0] hi0 hn0 (Array.getElem?_eq_getElem (by omega)))
        have hLk : Li listed k := hpre k hprek
        have hafter : ∀ i', i' < firstE ops → ¬ Li listed i' → i' < k := by
          intro i' hi' hn'
          obtain ⟨t', d', x', hop', _, _, k', ok', tt', hk', hik', _, hok', hkd', _⟩ := privSt_spec (hpriv i' ops[i'] hi' hn' (Array.getElem?_eq_getElem (by omega)))
          rw [hop] at hop'
          cases hop'
          have := D.one k' k ok' ok d hok' hok hkd' hkd
          omega
        -- the object
        have hVk : ∃ n x0, V k = .own (c + k) n 0 0 n ∧ O k = some x0 := by
          have := M.op k ok hk hok
          generalize V k = vk at this
          generalize O k = ok' at this
          generalize I k = ik at this
          cases this with
          | m hmm hq =>
            rw [hkop] at hmm
            simp only [mstep] at hmm
            split at hmm
            · simp only [boxed, Option.some.injEq, Prod.mk.injEq] at hmm
              obtain ⟨_, rfl, rfl⟩ := hmm
              exact ⟨_, _, rfl, rfl⟩
            · cases hmm
          | sc hcc _ _ => rw [hkop] at hcc; simp [calleeOf] at hcc
          | dc _ _ hcc _ => rw [hkop] at hcc; simp [calleeOf] at hcc
        obtain ⟨n, x0, hVk, hOk⟩ := hVk
        obtain ⟨f1, f2⟩ := M.fr (firstE ops) (Nat.le_refl _)
        have hsvi : sv i = { sv (firstE ops) with H := (sv i).H } := by rw [him]; exact hov.e1
        have hfri : (sv i).fr = (sv (firstE ops)).fr := by rw [hsvi]
        have htgi : (sv i).tg = (sv (firstE ops)).tg := by rw [hsvi]
        have hslot : ∀ u, (u = d ∨ x = .tmp u) → s.fr u = (sv i).fr u ∧ s.tg u = (sv i).tg u := by
          intro u hu
          rw [hfri, htgi]
          by_cases hw : ∃ j oj, j < firstE ops ∧ ops[j]? = some oj ∧ oj.dst = some u
          · obtain ⟨j, oj, hj, hoj, hd⟩ := hw
            have hLj : Li listed j := by
              apply Classical.byContradiction
              intro hnl
              rcases hu with rfl | hu
              · have := D.one j k oj ok u hoj hok hd hkd
                subst this
                exact hnl hLk
              · obtain ⟨t', d', x', hop', _, hx', _⟩ := privSt_spec (hpriv j oj hj hnl hoj)
                rw [hop] at hop'
                cases hop'
                exact hx' u hu hd
            have a1 := w1 j oj u hLj hj hoj hd
            have a2 := f1 j oj u hj hoj hd
            exact ⟨a1.1.trans a2.1.symm, a1.2.trans a2.2.symm⟩
          · have a2 := f2 u (fun j oj hj hoj hd => hw ⟨j, oj, hj, hoj, hd⟩)
            have a1 := w2 u (fun j oj hj hoj hd => hw ⟨j, oj, hj.2, hoj, hd⟩)
            exact ⟨a1.1.trans a2.1.symm, a1.2.trans a2.2.symm⟩
        have hHk : s.H (c + k) = (sv i).H (c + k) := by
          rw [him]
          by_cases hT : T k
          · exact hov.HT k hT
          · have hnT : ∀ k', T k' → c + k ≠ c + k' := fun k' hk' e => hT ((show k' = k by omega) ▸ hk')
            rw [hov.H _ hnT, hov.e2 _ hnT, hinv.h1 k x0 ⟨hLk, hk⟩ hOk, (M.H _ (Nat.le_refl _)).1, frzH_at, Uo_made hOk _ hk]
            rfl
        obtain ⟨hoki, hat⟩ := D.st i o ho
        have hst : ∃ q v H', o.guard = none ∧ estep C.P (ev C.gl (sv i).fr) (sv i).H o.op = some (q, v, H') ∧ q.holds ∧ sv (i + 1) = ({ sv i with H := H' } : RSt).put c i o v none := by
          generalize sv (i + 1) = s1 at hat
          cases hat with
          | v hv =>
            cases hv with
            | m hmm _ => rw [hop] at hmm; simp [mstep] at hmm
            | sc hcc _ _ => rw [hop] at hcc; simp [calleeOf] at hcc
            | dc _ _ hcc _ => rw [hop] at hcc; simp [calleeOf] at hcc
          | e hgn he hq => exact ⟨_, _, _, hgn, he, hq, rfl⟩
        obtain ⟨q, v, H', hgn, he, hq, hnext⟩ := hst
        rw [hop] at he
        have hda : ev C.gl (sv i).fr (.tmp d) = .own (c + k) n 0 0 n := by
          show (sv i).fr d = _
          rw [hfri, (f1 k ok d hk hok hkd).1, hVk]
        have hxa : ev C.gl s.fr x = ev C.gl (sv i).fr x := by
          cases x with
          | tmp u => exact (hslot u (.inr rfl)).1
          | _ => rfl
        obtain ⟨ob, ob', hob, hmu, rfl, rfl, he1⟩ := estep_same he hda (show ev C.gl s.fr (.tmp d) = _ from (hslot d (.inl rfl)).1) hxa hHk
        have hok1 : okOp C.nt ops s o = true := by
          unfold okOp at hoki ⊢
          rw [Bool.and_eq_true] at hoki ⊢
          refine ⟨by rw [hgn, hdst]; rfl, ?_⟩
          have h3 := hoki.2
          unfold opndOk at h3 ⊢
          rw [hop] at h3 ⊢
          simp only [hgn] at h3 ⊢
          rw [List.all_eq_true] at h3 ⊢
          intro y hy
          have := h3 y hy
          cases y with
          | tmp u =>
            have hu : u = d ∨ x = .tmp u := by
              simp [Op.operands] at hy
              rcases hy with h | h
              · exact .inl h
              · exact .inr h.symm
            simp only [tagOk] at this ⊢
            rw [(hslot u hu).2]
            exact this
          | _ => rfl
        refine op_sound D.hP D.hgl D.hnt hs ho h1 (fun k' ok' d' hk' hkd' hd' => by rw [hdst] at hd'; cases hd') hok1 (.e hgn (by rw [hop]; exact he1) hq) (fun β' a' w' hs' => ?_)
        have hput : ∀ s1 : RSt, s1.put c i o .junk none = s1 := by
          intro s1
          simp only [RSt.put, hdst, gval]
        rw [hput] at hs' hnext
        have hLeq : (fun j => Li listed j ∧ j < firstE ops) = (fun j => Li (listed.setIfInBounds i true) j ∧ j < firstE ops) := by
          funext k'
          apply propext
          rw [hLset k']
          constructor
          · rintro ⟨h, h'⟩; exact ⟨.inl h, h'⟩
          · rintro ⟨h | h, h'⟩
            · exact ⟨h, h'⟩
            · omega
        have hinv2 := hinv
        rw [hLeq] at hinv2
        have hm1 : firstE ops + (m + 1) = i + 1 := by omega
        refine ih _ (fun k' => T k' ∨ k' = k) (m + 1) s0 _ _ a' w' (by simp [hsz]) (closed_set hc h2 ho hr) (by omega) (fun j hj => ?_) hinv2 ?_ (hs'.fewer fun k' hk' => ?_) ?_
        · rw [hLset j, hL j hj]; omega
        · refine ⟨hov.fr, hov.tg, hov.gt, hov.ht, fun id hid => ?_, fun k' hk' => ?_, ?_, fun id hid => ?_, fun k' hk' => ?_⟩
          · show upd s.H (c + k) (some ob') id = _
            rw [upd_ne _ _ (hid k (.inr rfl))]
            exact hov.H id (fun k' hk' => hid k' (.inl hk'))
          · rw [hm1, hnext]
            show upd s.H (c + k) (some ob') (c + k') = upd (sv i).H (c + k) (some ob') (c + k')
            by_cases e : c + k' = c + k
            · rw [e, upd_same, upd_same]
            · rw [upd_ne _ _ e, upd_ne _ _ e, him]
              rcases hk' with hk' | hk'
              · exact hov.HT k' hk'
              · exact absurd (by rw [hk']) e
          · rw [hm1, hnext]
            show ({ sv i with H := _ } : RSt) = _
            rw [hsvi]
          · rw [hm1, hnext]
            show upd (sv i).H (c + k) (some ob') id = _
            rw [upd_ne _ _ (hid k (.inr rfl)), him]
            exact hov.e2 id (fun k' hk' => hid k' (.inl hk'))
          · rcases hk' with hk' | rfl
            · obtain ⟨g1', g2', g3', g4'⟩ := hov.e3 k' hk'
              exact ⟨(hLset _).2 (.inl g1'), g2', g3', fun i' hi' hn' => g4' i' hi' (fun h => hn' ((hLset _).2 (.inl h)))⟩
            · refine ⟨(hLset _).2 (.inl hLk), hk, ?_, fun i' hi' hn' => hafter i' hi' (fun h => hn' ((hLset _).2 (.inl h)))⟩
              by_cases hT : T k'
              · exact (hov.e3 k' hT).2.2.1
              · have hnT : ∀ k2, T k2 → c + k' ≠ c + k2 := fun k2 hk2 e => hT ((show k2 = k' by omega) ▸ hk2)
                rw [him, hov.e2 _ hnT, (M.H _ (Nat.le_refl _)).1, frzH_at, Uo_made hOk _ hk] at hob
                simp only [Option.map_some, Option.some.injEq] at hob
                rw [← hob] at hmu
                simp only [Bool.and_eq_true] at hmu
                simpa using hmu.2
        · exact ⟨fun hl => hk' ((hLset k').2 (.inl hl)), fun e => hk' ((hLset k').2 (.inr e))⟩
        · have := count_set h1 h2 (n := ops.size) (by omega)
          omega

end
end Go.Am
