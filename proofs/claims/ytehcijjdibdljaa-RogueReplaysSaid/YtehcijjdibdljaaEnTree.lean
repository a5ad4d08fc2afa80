/-
  The engine, part 14: the walk as a tree, and what is asked at each of its nodes ('Tree.wp').
-/
import Derived.Test.YtehcijjdibdljaaEnRegion
namespace Go.Am
open Go.RowKit

/-- The state between regions. -/
structure ASt where
  fr : Nat → AV
  H : Heap
  c : Nat

inductive AExit where
  | normal
  | leave (id : Nat)
  | ret

inductive Tree where
  | bad (why : String)
  | fin (p : Prop)
  | br (b : Bool) (t e : Tree)
  | req (p : Prop) (t : Tree)
  | scall (g : Bool) (f : FuncId) (args : List AV) (k : AV → Tree)
  | dcall (g : Bool) (f : FuncId) (args : List AV) (k : AV → Tree)
  | gcall (f : FuncId) (n : Nat) (obs : List Ob) (args : List AV) (k : AV → List (Option Ob) → Tree)
  | loop (x : Code) (s : ASt) (k : ASt → (ASt → Prop) → Tree)
  | again (s : ASt) (p : ASt → Prop)
  | out (v : Option (AV × List (Option Ob))) (r : AV) (obs : List (Option Ob))

/-- The book knows these objects. -/
def Has (os : List (Option Ob)) (β : Book) : Prop := ∀ (k : Nat) o, os[k]? = some (some o) → β.m k ≠ none

/-- Whatever the first describes, the second describes it too (where the objects os are known). -/
def Ent (os : List (Option Ob)) (a b : AV) : Prop := ∀ β w v, Has os β → Rel β w a v → Rel β w b v
theorem Ent.refl {os : List (Option Ob)} (a : AV) : Ent os a a := fun _ _ _ _ h => h
theorem Ent.of_eq {os : List (Option Ob)} {a b : AV} (h : a = b) : Ent os a b := h ▸ Ent.refl a
/-- nil is a slice without rows of any object. -/
theorem Ent.nil {os : List (Option Ob)} {k es i : Nat} {o : Ob} (h : os[k]? = some (some o)) : Ent os .nsl (.osl k es i 0) := fun _ _ _ hh hr => by
  cases hr
  exact .osl0 (hh k o h)

structure ObEnt (os : List (Option Ob)) (o o' : Ob) : Prop where
  es : o.es = o'.es
  n : o.n = o'.n
  mu : o.mu = o'.mu
  f : ∀ i j, i < o.n → j < o.es → Ent os (o.f i j) (o'.f i j)

def ObsEnt (os : List (Option Ob)) : List (Option Ob) → List (Option Ob) → Prop
  | [], [] => True
  | _ :: l, none :: l' => ObsEnt os l l'
  | some o :: l, some o' :: l' => ObEnt os o o' ∧ ObsEnt os l l'
  | _, _ => False

theorem ObsEnt.spec {os : List (Option Ob)} : ∀ {l l' : List (Option Ob)}, ObsEnt os l l' → l.length = l'.length ∧ ∀ (k : Nat) o', l'[k]? = some (some o') → ∃ o, l[k]? = some (some o) ∧ ObEnt os o o'
  | [], [], _ => ⟨rfl, fun k o' h => by simp at h⟩
  | x :: l, none :: l', h => by
    obtain ⟨h1, h2⟩ := ObsEnt.spec (l := l) (l' := l') (by cases x <;> exact h)
    refine ⟨by simp [h1], fun k o' hk => ?_⟩
    cases k with
    | zero => simp at hk
    | succ k => simp at hk ⊢; exact h2 k o' hk
  | some o :: l, some o' :: l', h => by
    obtain ⟨h1, h2⟩ := ObsEnt.spec h.2
    refine ⟨by simp [h1], fun k o2 hk => ?_⟩
    cases k with
    | zero => simp at hk; subst hk; exact ⟨o, by simp, h.1⟩
    | succ k => simp at hk ⊢; exact h2 k o2 hk
  | [], none :: l', h => h.elim
  | [], some o :: l', h => h.elim
  | none :: l, [], h => h.elim
  | some o :: l, [], h => h.elim
  | none :: l, some o :: l', h => h.elim

def Tree.wp (P : Program) (gl : Globs) (le : ASt → ASt → Prop) : Tree → Prop
  | .bad _ => False
  | .fin p => p
  | .br b t e => (b = true → t.wp P gl le) ∧ (b = false → e.wp P gl le)
  | .req p t => p ∧ t.wp P gl le
  | .scall g f args k => ∃ r, (g = true → Pure P gl f args r) ∧ sc 9 r = true ∧ (k r).wp P gl le
  | .dcall g f args k => ∃ r, (g = true → Pure P gl f args r) ∧ (k r).wp P gl le
  | .gcall f n obs args k => ∃ r obs', Gives P gl f obs args r obs' ∧ (Nat.ble n obs'.length && Nat.ble obs'.length (n + 8)) = true ∧ (k r obs').wp P gl le
  | .loop _ s k => ∃ (ι : Type) (S : ι → ASt) (m : ι → Nat) (i0 : ι), le s (S i0) ∧ ∀ i, (k (S i) (fun s' => ∃ i', le s' (S i') ∧ m i' < m i)).wp P gl le
  | .again s p => p s
  | .out v r obs => ∃ x os, v = some (x, os) ∧ Ent os x r ∧ ObsEnt os os obs

/-- Which objects a value leads to at once. -/
def rch : Nat → Heap → AV → List Nat
  | 0, _, _ => []
  | n + 1, H, .own id _ i j m => id :: (match H id with
    | some o => (List.range m).flatMap (fun q => rch n H (o.f i (j + q)))
    | none => [])
  | _ + 1, _, .oel id _ _ _ _ _ => [id]
  | _ + 1, _, .osl id _ _ _ => [id]
  | n + 1, H, .agg cs => cs.flatMap (rch n H)
  | n + 1, H, .tup cs => cs.flatMap (rch n H)
  | n + 1, H, .fn _ fs cs => fs.flatMap (rch n H) ++ cs.flatMap (rch n H)
  | n + 1, H, .ifc _ v => rch n H v
  | _ + 1, _, _ => []

def dedup : List Nat → List Nat
  | [] => []
  | x :: l => bif memN l x then dedup l else x :: dedup l

def alive (H : Heap) (l : List Nat) : List Nat := dedup (l.filter fun id => (H id).isSome)

def muOf (H : Heap) (id : Nat) : Bool := match H id with | some o => o.mu | none => false
def tagNone : Tag → Bool | none => true | some _ => false

/-- Is a value of this type free of whatever leads to memory? -/
def scT (P : Program) : Nat → TypeId → Bool
  | 0, _ => false
  | n + 1, t => match P.underlying t with
    | some .bool | some (.int _) | some .string => true
    | some (.struct fs) => fs.all (fun f => scT P n f.type)
    | some (.array _ e) => scT P n e
    | some (.tuple ts) => ts.all (scT P n)
    | _ => false

def idOf : AV → List Nat
  | .own id _ _ _ _ => [id]
  | .osl id _ _ _ => [id]
  | .oel id _ _ _ _ _ => [id]
  | _ => []

def footOf (ρ : Operand → AV) : Op → Foot
  | .load _ a => ⟨idOf (ρ a), [], []⟩
  | .store _ a _ => ⟨idOf (ρ a), [], idOf (ρ a)⟩
  | .nilCheck x => ⟨[], idOf (ρ x), []⟩
  | .fieldAddr _ x _ => ⟨[], idOf (ρ x), []⟩
  | .indexAddr _ x _ => ⟨[], idOf (ρ x), []⟩
  | .slice _ x _ _ _ => ⟨[], idOf (ρ x), []⟩
  | .call { callee := .builtin .append, args := args, .. } => ⟨args.toList.flatMap (fun x => idOf (ρ x)), [], match args.toList with | x :: _ => idOf (ρ x) | [] => []⟩
  | .call { callee := .builtin _, args := args, .. } => ⟨[], args.toList.flatMap (fun x => idOf (ρ x)), []⟩
  | _ => ⟨[], [], []⟩

def maskedIds (H : Heap) : List Bool → List AV → List Nat
  | true :: m, a :: as => rch 9 H a ++ maskedIds H m as
  | false :: m, _ :: as => maskedIds H m as
  | _, _ => []

def mkReq (γ : Tag) (g : Bool) (q : Rq) (t : Tree) : Tree :=
  match q with
  | .no => t
  | .yes p => match γ with
    | none => .req p t
    | some _ => .req (g = true → p) t

def rtree (C : Cfg) (ops : Array Oper) (draw : Bool) (c : Nat) : List Oper → Nat → RSt → List (Foot × Eff) → (RSt → Tree) → Tree
  | [], _, s, acc, k => bif !draw || drawOk ops acc.reverse then k s else .bad "draw"
  | o :: rest, i, s, acc, k =>
    bif okOp C.nt ops s o then
      match calleeOf (ev C.gl s.fr) o.op with
      | some (fn, as) => match C.own fn with
        | some mask =>
          bif tagNone o.guard && (nodupB ((alive s.H (maskedIds s.H mask as)).filter (muOf s.H)) && ((alive s.H (maskedIds s.H mask as)).filter (muOf s.H)).all (fun id => tagNone (s.ht id))) then
            .gcall fn ((alive s.H (maskedIds s.H mask as)).filter (muOf s.H)).length
              (givenObs ((alive s.H (maskedIds s.H mask as)).filter (muOf s.H)) (vH ⟨alive s.H (as.flatMap (rch 9 s.H)), [], (alive s.H (maskedIds s.H mask as)).filter (muOf s.H)⟩ s.H))
              (as.map (mapA (posIn ((alive s.H (maskedIds s.H mask as)).filter (muOf s.H)) 0) 9 (restH ((alive s.H (maskedIds s.H mask as)).filter (muOf s.H)) (vH ⟨alive s.H (as.flatMap (rch 9 s.H)), [], (alive s.H (maskedIds s.H mask as)).filter (muOf s.H)⟩ s.H))))
              (fun r obs' =>
                bif ((alive s.H (maskedIds s.H mask as)).filter (muOf s.H)).all (fun id => memN (alive s.H (as.flatMap (rch 9 s.H))) id) then
                  rtree C ops draw c rest (i + 1)
                    (s.app i o ⟨mapA (backIds ((alive s.H (maskedIds s.H mask as)).filter (muOf s.H)) (c + 8 * i)) 9 noH r, true, [], givenDs ((alive s.H (maskedIds s.H mask as)).filter (muOf s.H)) (c + 8 * i) obs', alive s.H (as.flatMap (rch 9 s.H))⟩)
                    ((⟨alive s.H (as.flatMap (rch 9 s.H)), [], (alive s.H (maskedIds s.H mask as)).filter (muOf s.H)⟩,
                      ⟨mapA (backIds ((alive s.H (maskedIds s.H mask as)).filter (muOf s.H)) (c + 8 * i)) 9 noH r, true, [], givenDs ((alive s.H (maskedIds s.H mask as)).filter (muOf s.H)) (c + 8 * i) obs', alive s.H (as.flatMap (rch 9 s.H))⟩) :: acc) k
                else .bad "given")
          else .bad "given"
        | none =>
          bif scT C.P 9 o.type then
            .scall (s.G o.guard) fn (as.map (frz 9 (vH ⟨alive s.H (as.flatMap (rch 9 s.H)), [], []⟩ s.H)))
              (fun r => rtree C ops draw c rest (i + 1) (s.app i o ⟨r, s.G o.guard, [], [], []⟩) ((⟨alive s.H (as.flatMap (rch 9 s.H)), [], []⟩, ⟨r, s.G o.guard, [], [], []⟩) :: acc) k)
          else
            .dcall (s.G o.guard) fn (as.map (frz 9 (vH ⟨alive s.H (as.flatMap (rch 9 s.H)), [], []⟩ s.H)))
              (fun r => rtree C ops draw c rest (i + 1) (s.app i o ⟨r, s.G o.guard, [], [], alive s.H (as.flatMap (rch 9 s.H))⟩) ((⟨alive s.H (as.flatMap (rch 9 s.H)), [], []⟩, ⟨r, s.G o.guard, [], [], alive s.H (as.flatMap (rch 9 s.H))⟩) :: acc) k)
      | none => match estep C.P (ev C.gl s.fr) (vH (footOf (ev C.gl s.fr) o.op) s.H) o.op with
        | some (id, f') =>
          bif tagNone o.guard && (memN (footOf (ev C.gl s.fr) o.op).mt id && (muOf s.H id && tagNone (s.ht id))) then
            rtree C ops draw c rest (i + 1) (s.app i o ⟨.junk, true, [(id, f')], [], []⟩) ((footOf (ev C.gl s.fr) o.op, ⟨.junk, true, [(id, f')], [], []⟩) :: acc) k
          else .bad "a store"
        | none => match astep C.P (ev C.gl s.fr) (vH (footOf (ev C.gl s.fr) o.op) s.H) (c + 8 * i) o.op with
          | some (q, v, ids, x) =>
            bif tagNone o.guard && ids.all (fun id => memN (footOf (ev C.gl s.fr) o.op).mt id && (muOf s.H id && tagNone (s.ht id))) then
              .req q (rtree C ops draw c rest (i + 1) (s.app i o ⟨v, true, [], (c + 8 * i, some x) :: ids.map (fun id => (id, none)), []⟩) ((footOf (ev C.gl s.fr) o.op, ⟨v, true, [], (c + 8 * i, some x) :: ids.map (fun id => (id, none)), []⟩) :: acc) k)
            else .bad "append"
          | none => match mstep C.P (ev C.gl s.fr) (vH (footOf (ev C.gl s.fr) o.op) s.H) (c + 8 * i) o.op with
            | some (q, v, ob) => mkReq o.guard (s.G o.guard) q (rtree C ops draw c rest (i + 1) (s.app i o ⟨v, s.G o.guard, [], obDs (c + 8 * i) ob, []⟩) ((footOf (ev C.gl s.fr) o.op, ⟨v, s.G o.guard, [], obDs (c + 8 * i) ob, []⟩) :: acc) k)
            | none => .bad o.pos
    else .bad o.pos

theorem mkReq_wp {P : Program} {gl : Globs} {le : ASt → ASt → Prop} {γ : Tag} {g : Bool} {q : Rq} {t : Tree} (h : (mkReq γ g q t).wp P gl le) : (g = true → q.holds) ∧ t.wp P gl le := by
  cases q with
  | no => exact ⟨fun _ => trivial, h⟩
  | yes p =>
    cases γ with
    | none => exact ⟨fun _ => h.1, h.2⟩
    | some x => exact ⟨h.1, h.2⟩

theorem tagNone_eq {γ : Tag} (h : tagNone γ = true) : γ = none := by cases γ with | none => rfl | some x => cases h
theorem muOf_eq {H : Heap} {id : Nat} (h : muOf H id = true) : (H id).map Ob.mu = some true := by
  unfold muOf at h
  cases ho : H id with
  | none => simp [ho] at h
  | some o => simp only [ho] at h; simp [h]

theorem vH_rd {ids mt : List Nat} {H : Heap} {id : Nat} (h : vH ⟨ids, [], mt⟩ H id ≠ none) : memN ids id = true := by
  cases hm : memN ids id with
  | true => rfl
  | false => exact absurd (by simp only [vH, hm, cond_false]; rfl) h

theorem rtree_lex {C : Cfg} {le : ASt → ASt → Prop} {ops : Array Oper} {draw : Bool} {c : Nat} {k : RSt → Tree} : ∀ (l : List Oper) (i : Nat) (s : RSt) (acc : List (Foot × Eff)), (rtree C ops draw c l i s acc k).wp C.P C.gl le →
    lex C ops c l i s acc (fun s' acc' => (draw = true → drawOk ops acc'.reverse = true) ∧ (k s').wp C.P C.gl le) := by
  intro l
  induction l with
  | nil =>
    intro i s acc h
    simp only [rtree] at h
    cases hd : (!draw || drawOk ops acc.reverse) with
    | false => simp only [hd, cond_false] at h; exact h.elim
    | true =>
      simp only [hd, cond_true] at h
      refine ⟨fun hdr => ?_, h⟩
      rw [hdr] at hd
      simpa using hd
  | cons o rest ih =>
    intro i s acc h
    simp only [rtree] at h
    cases hok : okOp C.nt ops s o with
    | false => simp only [hok, cond_false] at h; exact h.elim
    | true =>
      simp only [hok, cond_true] at h
      refine ⟨hok, ?_⟩
      cases hc : calleeOf (ev C.gl s.fr) o.op with
      | some fa =>
        obtain ⟨fn, as⟩ := fa
        simp only [hc] at h
        cases hown : C.own fn with
        | some mask =>
          simp only [hown] at h
          generalize hgids : (alive s.H (maskedIds s.H mask as)).filter (muOf s.H) = gids at h
          generalize hall : alive s.H (as.flatMap (rch 9 s.H)) = all at h
          cases hb : (tagNone o.guard && (nodupB gids && gids.all (fun id => tagNone (s.ht id)))) with
          | false => simp only [hb, cond_false] at h; exact h.elim
          | true =>
            simp only [hb, cond_true] at h
            simp only [Bool.and_eq_true] at hb
            obtain ⟨hb1, hb2, hb3⟩ := hb
            obtain ⟨r, obs', hG, hlen, h⟩ := h
            cases hb4 : gids.all (fun id => memN all id) with
            | false => simp only [hb4, cond_false] at h; exact h.elim
            | true =>
              simp only [hb4, cond_true] at h
              rw [Bool.and_eq_true, Nat.ble_eq, Nat.ble_eq] at hlen
              refine ⟨_, _, .gv (tagNone_eq hb1) hc hb2 (fun id hid => ⟨List.all_eq_true.1 hb4 id hid, memN_iff.2 hid, ?_, tagNone_eq (List.all_eq_true.1 hb3 id hid)⟩) (fun id hv _ => vH_rd hv) hlen hG, ih _ _ _ h⟩
              rw [← hgids] at hid
              exact muOf_eq (List.mem_filter.1 hid).2
        | none =>
          simp only [hown] at h
          cases hsc : scT C.P 9 o.type with
          | true =>
            simp only [hsc, cond_true] at h
            obtain ⟨r, h1, h2, h3⟩ := h
            exact ⟨_, _, .sc hc h1 h2, ih _ _ _ h3⟩
          | false =>
            simp only [hsc, cond_false] at h
            obtain ⟨r, h1, h3⟩ := h
            exact ⟨_, _, .dc _ (fun id hv => vH_rd hv) hc h1, ih _ _ _ h3⟩
      | none =>
        simp only [hc] at h
        cases he : estep C.P (ev C.gl s.fr) (vH (footOf (ev C.gl s.fr) o.op) s.H) o.op with
        | some x =>
          obtain ⟨id, f'⟩ := x
          simp only [he] at h
          cases hb : (tagNone o.guard && (memN (footOf (ev C.gl s.fr) o.op).mt id && (muOf s.H id && tagNone (s.ht id)))) with
          | false => simp only [hb, cond_false] at h; exact h.elim
          | true =>
            simp only [hb, cond_true] at h
            simp only [Bool.and_eq_true] at hb
            obtain ⟨hb1, hb2, hb3, hb4⟩ := hb
            exact ⟨_, _, .st (tagNone_eq hb1) he hb2 (muOf_eq hb3) (tagNone_eq hb4), ih _ _ _ h⟩
        | none =>
          simp only [he] at h
          cases ha : astep C.P (ev C.gl s.fr) (vH (footOf (ev C.gl s.fr) o.op) s.H) (c + 8 * i) o.op with
          | some x =>
            obtain ⟨q, v, ids, x⟩ := x
            simp only [ha] at h
            cases hb : (tagNone o.guard && ids.all (fun id => memN (footOf (ev C.gl s.fr) o.op).mt id && (muOf s.H id && tagNone (s.ht id)))) with
            | false => simp only [hb, cond_false] at h; exact h.elim
            | true =>
              simp only [hb, cond_true] at h
              rw [Bool.and_eq_true] at hb
              obtain ⟨hq, h⟩ := h
              refine ⟨_, _, .ap (tagNone_eq hb.1) ha hq (fun id hid => ?_), ih _ _ _ h⟩
              have := List.all_eq_true.1 hb.2 id hid
              simp only [Bool.and_eq_true] at this
              exact ⟨this.1, muOf_eq this.2.1, tagNone_eq this.2.2⟩
          | none =>
            simp only [ha] at h
            cases hm : mstep C.P (ev C.gl s.fr) (vH (footOf (ev C.gl s.fr) o.op) s.H) (c + 8 * i) o.op with
            | some x =>
              obtain ⟨q, v, ob⟩ := x
              simp only [hm] at h
              obtain ⟨h1, h2⟩ := mkReq_wp h
              exact ⟨_, _, .m hm h1, ih _ _ _ h2⟩
            | none => simp only [hm] at h; exact h.elim

end Go.Am
