/-
  The engine, part 19: from a contract to a row: nothing that was there is changed, so the input reads as it did.
-/
import Derived.Test.YtehcijjdibdljaaEnOpen
namespace Go.Am
open Go.RowKit Go.ChangeShapes Go.WideShapes Go.ChangeAt

section
variable {H : Type} {enc : TypeId × Value → H} {P : Program}

theorem trodAll_stays {W W' : World} {sp' : Nat → Bool} (hl : laidOutB P = true) : ∀ {ts : List TypeId} {vs : List Value} {ds : List (DataW H)} {ps : List MemPlace},
    (∀ t, t ∈ ts → P.readableRec t = true ∧ t < P.types.size) → DataW.TrodAll enc P W 0 (fun _ => true) true ts vs ds ps → (∀ p ∈ ps, W.sameAt W' p) → (∀ p ∈ ps, sp' p.block = true) →
    DataW.TrodAll enc P W' 0 sp' true ts vs ds ps
  | [], [], [], _, _, h, _, _ => h
  | t :: ts, v :: vs, d :: ds, ps, hr, h, hs, hp => by
    obtain ⟨p, q, h1, h2, rfl⟩ := h
    refine ⟨p, q, WideElems.Trod_stays hl (hr t (by simp)).1 (hr t (by simp)).2 h1 (fun x hx => hs x (by simp [hx])) (fun x hx => hp x (by simp [hx])), ?_, rfl⟩
    exact trodAll_stays hl (fun t ht => hr t (by simp [ht])) h2 (fun x hx => hs x (by simp [hx])) (fun x hx => hp x (by simp [hx]))
  | [], _ :: _, _, _, _, h, _, _ => h.elim
  | [], [], _ :: _, _, _, h, _, _ => h.elim
  | _ :: _, [], _, _, _, h, _, _ => h.elim
  | _ :: _, _ :: _, [], _, _, h, _, _ => h.elim

theorem keptBut_of_below {W W' : World} (hb : Below W.heap.size W W') (may : MemPlace → Prop) : W.keptBut W' may := by
  refine ⟨hb.os, hb.output, fun i hi => ?_⟩
  rw [hb.block i hi]
  split
  · rename_i h1 h2
    rw [h1] at h2
    cases h2
    exact ⟨rfl, rfl, rfl, fun _ _ => rfl⟩
  · rename_i h1 h2
    rw [h1] at h2
    cases h2
    exact Or.inr ⟨rfl, rfl⟩
  · rfl

def readB (P : Program) (ts : List TypeId) : Bool := ts.all fun t => P.readableRec t && Nat.blt t P.types.size

theorem readB_ok {ts : List TypeId} (h : readB P ts = true) : ∀ t, t ∈ ts → P.readableRec t = true ∧ t < P.types.size := by
  intro t ht
  have := List.all_eq_true.1 h t ht
  rw [Bool.and_eq_true] at this
  exact ⟨this.1, by have := this.2; simpa [Nat.blt_eq] using this⟩

/-- The law's end: true, and the input as it was. -/
theorem post_law {f : Func} {s : ChangeSpec} {apart fresh handsOn again : Bool} {W W' : World} {args : Array Value} {ds gs : List (DataW H)} {before : List MemPlace} {tb : TypeId}
    (hl : laidOutB P = true) (hvars : s.vars = []) (hrt : f.resultTypes = #[tb]) (htb : P.underlying tb = some .bool) (hrd : readB P f.params.toList = true)
    (hW : DataW.Whole enc P f.params.toList s.vars apart W args.toList ds gs before) (hb : Below W.heap.size W W')
    (hs : s.fn H ds = { results := [.lit (.bool true)], args := ds }) :
    s.post enc P f apart fresh handsOn again W args (.bool true) W' := by
  have hW0 := hW
  obtain ⟨p, q, hA, hV, rfl, hz, hn⟩ := hW
  rw [hvars] at hV
  obtain ⟨rfl, rfl⟩ := trodVars_none hV
  have hlt : ∀ x ∈ p, x.block < W.heap.size := fun x hx => hA.lt x hx
  have hst : ∀ sp : Nat → Bool, (∀ x ∈ p, sp x.block = true) → DataW.TrodAll enc P W' 0 sp true f.params.toList args.toList ds p :=
    fun sp hsp => trodAll_stays hl (readB_ok hrd) hA (fun x hx => hb.same (hlt x hx)) hsp
  have hres : ∀ (b : Nat) (sp : Nat → Bool) (hd : Bool), DataW.TrodAll enc P W' b sp hd f.resultTypes.toList ((Value.bool true).resultList f.resultTypes.size) [.lit (.bool true)] [] := by
    intro b sp hd
    rw [hrt]
    exact ⟨[], [], shut_bool htb true, rfl, rfl⟩
  refine ⟨ds, [], p ++ [], [], p, [], hW0, ?_, ?_, ?_, keptBut_of_below hb _, fun _ => ?_⟩
  · rw [List.append_nil, hs]; exact hres _ _ _
  · rw [List.append_nil, hs]; exact hst _ (fun x hx => by simpa using hlt x hx)
  · rw [List.append_nil, hs, hvars]; rfl
  · refine ⟨ok_one hrt rfl (okWide_bool_mk htb true), _, [], ([] ++ p) ++ [], ⟨[] ++ p, [], trodAll_append (hst _ (fun _ _ => rfl)) (hres _ _ _), by rw [hvars]; rfl, rfl, ?_, ?_⟩, ?_⟩
    · intro b off hp
      simp only [List.nil_append, List.append_nil] at hp
      have := hlt _ hp
      rw [hb.frozen this]
      exact hz b off (by simpa using hp)
    · intro ha
      simpa using hn ha
    · intro x hx _
      simpa using hx

end

/-- A contract's call in the row's form. -/
theorem Pure.calls {P : Program} {gl : Globs} {f : FuncId} {args : List AV} (h : Pure P gl f args (.bool true)) {W : World} {vs : Array Value} (hg : GlobB gl noB W)
    (hr : Rels noB W args vs) {Q : Ending → World → Prop} (hQ : ∀ W', Below W.heap.size W W' → Q (.returned (.bool true)) W') : Calls P f vs W Q := by
  refine (h.use (fun _ hf => hf.elim) hg hr).mono ?_
  rintro e W' ⟨v, rfl, hb, hv⟩
  cases hv
  exact hQ W' hb

theorem Rels.nil {w : World} : Rels noB w [] #[] := ⟨rfl, fun j u x h => by simp at h⟩
theorem Rels.cons {w : World} {a : AV} {v : Value} {as : List AV} {vs : List Value} (h : Rel noB w a v) (hr : Rels noB w as vs.toArray) : Rels noB w (a :: as) (v :: vs).toArray := by
  refine ⟨by have := hr.len; simpa using this, fun j u x hu hx => ?_⟩
  cases j with
  | zero => simp at hu hx; subst hu; subst hx; exact h
  | succ j => exact hr.rel j u x (by simpa using hu) (by simpa using hx)

/-! ### Arguments -/

theorem Fits.pick {w : World} {ts : List CT} {cs : List Value} (h : Fits w ts cs) : ∃ g : Nat → AV, ∀ (j : Nat) c, ts[j]? = some c → CellOk c (g j) ∧ ∃ v, cs[j]? = some v ∧ Rel noB w (g j) v := by
  have : Inhabited AV := ⟨.junk⟩
  obtain ⟨g, hg⟩ := Go.Deep.choose_lt (n := ts.length) (p := fun j a => ∀ c, ts[j]? = some c → CellOk c a ∧ ∃ v, cs[j]? = some v ∧ Rel noB w a v) (fun j hj => by
    obtain ⟨v, a, h1, h2, h3, _⟩ := h.cell j ts[j] (by simp [hj])
    refine ⟨a, fun c hc => ?_⟩
    have : c = ts[j] := by simpa [hj] using hc.symm
    subst this
    exact ⟨h2, v, h1, h3⟩)
  exact ⟨g, fun j c hc => hg j (List.getElem?_eq_some_iff.1 hc).1 c hc⟩

theorem Fits.agg {w : World} {ts : List CT} {cs : List Value} (h : Fits w ts cs) {g : Nat → AV} (hg : ∀ (j : Nat) c, ts[j]? = some c → CellOk c (g j) ∧ ∃ v, cs[j]? = some v ∧ Rel noB w (g j) v) {l : List AV}
    (he : EntL [] ((List.range ts.length).map g) l) : Rel noB w (.agg l) (.agg cs.toArray) := by
  obtain ⟨h1, h2⟩ := he.spec
  simp at h1
  refine .agg (by rw [← h1]; simp [h.len]) fun j u v hu hv => ?_
  have hj : j < l.length := (List.getElem?_eq_some_iff.1 hu).1
  have hjt : j < ts.length := by omega
  obtain ⟨_, v', hv', hr⟩ := hg j ts[j] (by simp [hjt])
  have : v' = v := by
    have hv : cs[j]? = some v := by simpa using hv
    rw [hv'] at hv; exact Option.some.inj hv
  subst this
  exact h2 j (g j) u (by simp [hjt]) hu _ _ _ (fun k o hk => by simp at hk) hr

def islN : AV → Nat
  | .isl _ n _ => n
  | _ => 0
def islF : AV → Nat → Nat → AV
  | .isl _ _ f => f
  | _ => fun _ _ => .junk

theorem canonI {os : List (Option Ob)} {k : IntKind} {a : AV} (h : CellOk (.int k) a) : Ent os a (.int k (intOfAV a)) := by cases h; exact Ent.refl _
theorem canonI_wf {k : IntKind} {a : AV} (h : CellOk (.int k) a) : (Lit.int k (intOfAV a)).wf = true := by cases h with | int h => exact h
theorem canonL {os : List (Option Ob)} {k : IntKind} {cs : List CT} {a : AV} (h : CellOk (.sl cs) a) (hk : cs = List.replicate cs.length (.int k)) : Ent os a (.isl cs.length (islN a) (fun i j => .int k (intOfAV (islF a i j)))) := by
  cases h with
  | @sl _ n f hn h =>
    refine Ent.isl fun i j hi hj => ?_
    have hc : cs[j]? = some (.int k) := by rw [hk]; simp [hj]
    have := h i j _ hi hc
    show f i j = .int k (intOfAV (f i j))
    generalize f i j = q at this
    cases this
    rfl
theorem canonL_wf {k : IntKind} {cs : List CT} {a : AV} (h : CellOk (.sl cs) a) (hk : cs = List.replicate cs.length (.int k)) : islN a ≤ maxLen ∧ ∀ i j, i < islN a → j < cs.length → (Lit.int k (intOfAV (islF a i j))).wf = true := by
  cases h with
  | @sl _ n f hn h =>
    refine ⟨hn, fun i j hi hj => ?_⟩
    have hc : cs[j]? = some (.int k) := by rw [hk]; simp [hj]
    exact canonI_wf (h i j _ hi hc)

/-- An argument of a struct's or an array's type. -/
theorem open_agg {H : Type} {enc : TypeId × Value → H} {P : Program} {W : World} {r : Reach} {b0 : Nat} {t : TypeId} {v : Value} {d : DataW H} {ps : List MemPlace} {sp : Nat → Bool} {ts : List CT} (ht : isAggT P t = some true)
    (hsh : shape P 9 t = some ts) (hv : Value.okWide P W r b0 t v) (h : DataW.Trod enc P W 0 sp true t v d ps) : ∃ cs : List Value, v = .agg cs.toArray ∧ Fits W ts cs := by
  obtain ⟨fuel, hf⟩ := h
  have : ∃ cs : Array Value, v = .agg cs := by
    unfold isAggT at ht
    split at ht
    · rename_i fs hu
      obtain ⟨cs, e, _⟩ := okWide_struct hu hv
      exact ⟨cs, e⟩
    · rename_i n e hu
      unfold Value.okWide at hv
      rw [hu] at hv
      obtain ⟨cs, e, _⟩ := hv
      exact ⟨cs, e⟩
    · simp at ht
    · simp at ht
  obtain ⟨cs, rfl⟩ := this
  exact ⟨cs.toList, by simp, open_fits 9 t fuel _ _ ts hf hsh⟩

end Go.Am
