/-
  The engine, part 16: how a walk is gone through: its outline ('Sk'), one comparison by the kernel, and what is to be shown at each node of the outline.
-/
import Derived.Test.YtehcijjdibdljaaEnWalk
import Derived.KernelRfl
namespace Go.Am

section
variable {x y : Bool} {p q : Prop}
theorem cnd_id_t : x = true → x = true := id
theorem cnd_id_f : x = false → x = false := id
theorem cnd_and_t (f : x = true → p) (g : y = true → q) (h : (x && y) = true) : p ∧ q := by
  cases x <;> cases y <;> first | exact ⟨f rfl, g rfl⟩ | cases h
theorem cnd_and_f (f : x = false → p) (g : y = false → q) (h : (x && y) = false) : p ∨ q := by
  cases x with
  | false => exact .inl (f rfl)
  | true => exact .inr (g h)
theorem cnd_or_t (f : x = true → p) (g : y = true → q) (h : (x || y) = true) : p ∨ q := by
  cases x with
  | true => exact .inl (f rfl)
  | false => exact .inr (g h)
theorem cnd_or_f (f : x = false → p) (g : y = false → q) (h : (x || y) = false) : p ∧ q := by
  cases x <;> cases y <;> first | exact ⟨f rfl, g rfl⟩ | cases h
theorem cnd_not_t (f : x = false → p) (h : (!x) = true) : p := by
  cases x with
  | false => exact f rfl
  | true => cases h
theorem cnd_not_f (f : x = true → p) (h : (!x) = false) : p := by
  cases x with
  | true => exact f rfl
  | false => cases h
theorem cnd_eqt_t (f : x = true → p) (h : (x == true) = true) : p := by
  cases x with
  | true => exact f rfl
  | false => cases h
theorem cnd_eqt_f (f : x = false → p) (h : (x == true) = false) : p := by
  cases x with
  | false => exact f rfl
  | true => cases h
theorem cnd_eqf_t (f : x = false → p) (h : (x == false) = true) : p := by
  cases x with
  | false => exact f rfl
  | true => cases h
theorem cnd_eqf_f (f : x = true → p) (h : (x == false) = false) : p := by
  cases x with
  | true => exact f rfl
  | false => cases h
theorem cnd_dec_t {i : Decidable p} (h : @decide p i = true) : p := of_decide_eq_true h
theorem cnd_dec_f {i : Decidable p} (h : @decide p i = false) : ¬ p := of_decide_eq_false h
theorem cnd_beq_t {a b : Int} (h : (a == b) = true) : a = b := by simpa using h
theorem cnd_beq_f {a b : Int} (h : (a == b) = false) : ¬ a = b := by simpa using h
theorem cnd_bne_t {a b : Int} (h : (a != b) = true) : ¬ a = b := by simpa using h
theorem cnd_bne_f {a b : Int} (h : (a != b) = false) : a = b := by simpa using h
theorem cnd_nbeq_t {a b : Nat} (h : Nat.beq a b = true) : a = b := Nat.eq_of_beq_eq_true h
theorem cnd_nbeq_f {a b : Nat} (h : Nat.beq a b = false) : ¬ a = b := Nat.ne_of_beq_eq_false h
theorem cnd_nblt_t {a b : Nat} (h : Nat.blt a b = true) : a < b := by simpa [Nat.blt_eq] using h
theorem cnd_nblt_f {a b : Nat} (h : Nat.blt a b = false) : ¬ a < b := fun k => by rw [← Nat.blt_eq, h] at k; cases k
theorem cnd_nble_t {a b : Nat} (h : Nat.ble a b = true) : a ≤ b := by simpa [Nat.ble_eq] using h
theorem cnd_nble_f {a b : Nat} (h : Nat.ble a b = false) : ¬ a ≤ b := fun k => by rw [← Nat.ble_eq, h] at k; cases k
end

def EntL (os : List (Option Ob)) : List AV → List AV → Prop
  | [], [] => True
  | a :: l, b :: l' => Ent os a b ∧ EntL os l l'
  | _, _ => False

theorem EntL.spec {os : List (Option Ob)} : ∀ {l l' : List AV}, EntL os l l' → l.length = l'.length ∧ ∀ (k : Nat) a b, l[k]? = some a → l'[k]? = some b → Ent os a b
  | [], [], _ => ⟨rfl, fun k a b h => by simp at h⟩
  | x :: l, y :: l', h => by
    obtain ⟨h1, h2⟩ := EntL.spec h.2
    refine ⟨by simp [h1], fun k a b ha hb => ?_⟩
    cases k with
    | zero => simp at ha hb; subst ha; subst hb; exact h.1
    | succ k => simp at ha hb; exact h2 k a b ha hb
  | [], _ :: _, h => h.elim
  | _ :: _, [], h => h.elim

def lookZ : List Nat → List AV → Nat → AV
  | n :: ns, v :: vs, k => bif Nat.beq n k then v else lookZ ns vs k
  | _, _, _ => .junk

/-- A state in which only these slots and objects are known. -/
def mkSt (ns : List Nat) (vs : List AV) (obs : List (Option Ob)) : ASt := ⟨lookZ ns vs, fun id => obs.getD id none, obs.length⟩

/-- The slots and objects of a state, with the objects π under new names. -/
def valsOf (s : ASt) (ns π : List Nat) : List AV := ns.map fun n => mapA (posIn π 0) 9 (restH π s.H) (s.fr n)
/-- An id that the state does not use stands for a new object without rows. -/
def osOf (s : ASt) (π : List Nat) : List (Option Ob) := π.map fun id => match s.H id with
  | some o => some (mapO (posIn π 0) (restH π s.H) o)
  | none => bif Nat.ble s.c id then some ⟨(id - s.c) / 256, 0, true, .lst []⟩ else none

def descOk (ng : Nat) (π : List Nat) : Bool := nodupB π && (List.range ng).all fun k => match π[k]? with | some id => Nat.beq id k | none => false

structure Desc (ng : Nat) (s : ASt) (ns π : List Nat) (vals : List AV) (os : List (Option Ob)) : Prop where
  ok : descOk ng π = true
  vals : valsOf s ns π = vals
  os : osOf s π = os

theorem lookZ_cases (β : Book) (w : World) (s : ASt) (g : AV → AV) (val : Nat → Value) (os : List (Option Ob)) (hh : Has os β) : ∀ (ns : List Nat) (vs : List AV), (∀ (k n : Nat) v, ns[k]? = some n → vs[k]? = some v → Ent os (g (s.fr n)) v) → (∀ n, Rel β w (g (s.fr n)) (val n)) → ∀ n, Rel β w (lookZ ns vs n) (val n)
  | [], _, _, _, _ => .junk
  | _ :: _, [], _, _, _ => .junk
  | m :: ns, v :: vs, h, hr, n => by
    simp only [lookZ]
    cases hb : Nat.beq m n with
    | true =>
      have := Nat.eq_of_beq_eq_true hb
      subst this
      exact h 0 m v rfl rfl _ _ _ hh (hr m)
    | false => exact lookZ_cases β w s g val os hh ns vs (fun k n v hn hv => h (k + 1) n v (by simpa using hn) (by simpa using hv)) hr n

theorem Desc.le0 {ng : Nat} {s : ASt} {ns π : List Nat} {vals vs : List AV} {os obs : List (Option Ob)} (h : Desc ng s ns π vals os) (hv : EntL os vals vs) (ho : ObsEnt os os obs) : Le ng s (mkSt ns vs obs) := by
  intro K β a w hng hs
  obtain ⟨hok, hvals, hos⟩ := h
  unfold descOk at hok
  rw [Bool.and_eq_true] at hok
  obtain ⟨hnd, hpre⟩ := hok
  have hnd' := nodupB_spec hnd
  have hpre' : ∀ k, k < ng → π[k]? = some k := fun k hk => by
    have := List.all_eq_true.1 hpre k (List.mem_range.2 hk)
    cases hp : π[k]? with
    | none => simp [hp] at this
    | some id => simp only [hp] at this; rw [Nat.eq_of_beq_eq_true this]
  obtain ⟨hl1, hv'⟩ := hv.spec
  obtain ⟨hl2, ho'⟩ := ho.spec
  have hlo : os.length = π.length := by rw [← hos]; simp [osOf]
  let bm : Nat → Option Own := fun k => match π[k]? with | some id => bif Nat.ble s.c id then some .empty else β.m id | none => none
  let β' : Book := ⟨bm, β.F⟩
  have bm_lives : ∀ {k b n mu}, bm k = some (.lives b n mu) → ∃ id, π[k]? = some id ∧ β.m id = some (.lives b n mu) := by
    intro k b n mu h
    cases hk : π[k]? with
    | none => simp only [bm, hk] at h; cases h
    | some id =>
      simp only [bm, hk] at h
      cases hc : Nat.ble s.c id with
      | true => simp [hc] at h
      | false => simp only [hc, cond_false] at h; exact ⟨id, rfl, h⟩
  have old : ∀ {id}, β.m id ≠ none → Nat.ble s.c id = false := fun {id} hn => by
    cases hc : Nat.ble s.c id with
    | false => rfl
    | true => rw [Nat.ble_eq] at hc; exact absurd (hs.fresh id hc) hn
  have bm_at : ∀ {k id}, π[k]? = some id → β.m id ≠ none → bm k = β.m id := fun {k id} h hn => by simp only [bm, h, old hn, cond_false]
  have hHr : HeapOk β w (restH π s.H) := by
    intro id ob hid hne
    unfold restH at hid
    cases hmem : memN π id with
    | true => simp [hmem] at hid
    | false => simp only [hmem, cond_false] at hid; exact hs.ok id ob hid hne
  have h1 : ∀ id k, posIn π 0 id = some k → β.m id ≠ none → β'.m k = β.m id := fun id k h hn => by
    obtain ⟨_, h2⟩ := posIn_some h
    exact bm_at (by simpa using h2) hn
  have h2 : ∀ b, β.free b → β'.free b := fun b hf => ⟨hf.1, fun k n h => by
    obtain ⟨id, _, hm'⟩ := bm_lives h
    exact hf.2 id n hm'⟩
  have h3 : ∀ id ob b n mu, restH π s.H id = some ob → β.m id = some (.lives b n mu) → β'.free b := by
    intro id ob b n mu ho hm'
    unfold restH at ho
    cases hmem : memN π id with
    | true => simp [hmem] at ho
    | false =>
      refine ⟨fun hF' => ?_, fun k n' h => ?_⟩
      · have hF2 : β.F b := hF'
        rw [hs.bF] at hF2
        obtain ⟨g1, g2⟩ := hs.hF b hF2
        rcases (hs.live id b n mu hm').1 with h | h
        · omega
        · exact g2 h
      · obtain ⟨id', hk, hm2⟩ := bm_lives h
        have := hs.inj id' id b n' n _ mu hm2 hm'
        subst this
        rw [memN_iff.2 (List.mem_of_getElem? hk)] at hmem
        cases hmem
  have hHld : ∀ (k : Nat) o, os[k]? = some (some o) → Holds β' w o k := fun k o hk => by
    rw [← hos, osOf, List.getElem?_map] at hk
    cases hik : π[k]? with
    | none => simp [hik] at hk
    | some id =>
      simp only [hik, Option.map_some, Option.some.injEq] at hk
      cases hH : s.H id with
      | some o0 =>
        simp only [hH, Option.some.injEq] at hk
        subst hk
        have hne : β.m id ≠ none := by rcases hs.heap id o0 hH with ⟨b, g, _⟩ | ⟨g, _⟩ <;> (rw [g]; simp)
        exact mapO_holds (β' := β') hHr h1 h2 h3 (bm_at hik hne) (hs.heap id o0 hH)
      | none =>
        simp only [hH] at hk
        cases hc : Nat.ble s.c id with
        | false => simp [hc] at hk
        | true =>
          simp only [hc, cond_true, Option.some.injEq] at hk
          subst hk
          exact .inr ⟨by show bm k = _; simp only [bm, hik, hc, cond_true], rfl⟩
  have hHas : Has os β' := fun k o hk => by
    rcases hHld k o hk with ⟨b, g, _⟩ | ⟨g, _⟩ <;> (rw [g]; simp)
  refine ⟨β', fun n => ?_, hs.size, hs.defers, fun id o hid => ?_, fun p q b n n' mu mu' e1 e2 => ?_, fun id hid => ?_, fun id b n mu h => ?_, fun id o hid => ?_, hs.bF, hs.hF, hs.kept, hs.hB, fun g m h hgl => (hs.glob g m h hgl).rebook h2 (by
    obtain ⟨_, _, _, _, _, _, _, _, hcl, _⟩ := rel_ipt_inv (hs.glob g m h hgl)
    exact .ipt hcl)⟩
  · refine lookZ_cases β' w s (mapA (posIn π 0) 9 (restH π s.H)) (fun n => a.tmps.getD n undef) os hHas ns vs (fun k m v hm hv1 => ?_) (fun m => mapA_rel hHr h1 h2 h3 9 _ _ (hs.slot m)) n
    have : vals[k]? = some (mapA (posIn π 0) 9 (restH π s.H) (s.fr m)) := by rw [← hvals, valsOf, List.getElem?_map, hm]; rfl
    exact hv' k _ v this hv1
  · have hid' : obs[id]? = some (some o) := by
      have : obs.getD id none = some o := hid
      rw [List.getD_eq_getElem?_getD] at this
      cases hx : obs[id]? with
      | none => simp [hx] at this
      | some x => simp [hx] at this; rw [this]
    obtain ⟨o1, g1, e1, e2, e3, e4⟩ := ho' id o hid'
    rcases hHld id o1 g1 with ⟨b, k1, cs, el, k2, k3, k4⟩ | ⟨k1, k2⟩
    · refine .inl ⟨b, by rw [← e2, ← e3]; exact k1, cs, el, k2, by rw [← e1, ← e2]; exact k3, fun i j hi hj => ?_⟩
      rw [← e2] at hi
      rw [← e1] at hj ⊢
      obtain ⟨vv, j1, j2, j3⟩ := k4 i j hi hj
      exact ⟨vv, j1, e4 i j hi hj _ _ _ hHas j2, j3⟩
    · exact .inr ⟨k1, by rw [← e2]; exact k2⟩
  · obtain ⟨x1, g1, g2⟩ := bm_lives e1
    obtain ⟨y1, g3, g4⟩ := bm_lives e2
    have := hs.inj x1 y1 b n n' mu mu' g2 g4
    subst this
    exact hnd' p q x1 g1 g3
  · have hlen : obs.length ≤ id := hid
    have : π[id]? = none := List.getElem?_eq_none (by omega)
    show bm id = none
    simp only [bm, this]
  · obtain ⟨id1, g1, g2⟩ := bm_lives h
    exact hs.live id1 b n mu g2
  · have hk : id < ng := Nat.lt_of_not_le fun h => by rw [hng id h] at hid; cases hid
    obtain ⟨o', g1, g2⟩ := hs.giv id o hid
    exact ⟨o', by show bm id = some o'; rw [bm_at (hpre' id hk) (by rw [g1]; simp)]; exact g1, g2⟩

/-- The objects of a loop's state: one that may be written may count as one that nobody writes any more. -/
def ObsLow (os : List (Option Ob)) : List (Option Ob) → List (Option Ob) → Prop
  | [], [] => True
  | _ :: l, none :: l' => ObsLow os l l'
  | some ⟨es, n, mu, f⟩ :: l, some o' :: l' => ObEnt os ⟨es, n, mu && o'.mu, f⟩ o' ∧ ObsLow os l l'
  | _, _ => False

theorem ObsLow.spec {os : List (Option Ob)} : ∀ {l l' : List (Option Ob)}, ObsLow os l l' → ∃ l1, ObsEnt os l l1 ∧ l1.length = l'.length ∧
    ∀ id o', l'.getD id none = some o' → ∃ o1, l1.getD id none = some o1 ∧ o1.es = o'.es ∧ o1.n = o'.n ∧ o1.f = o'.f ∧ (o'.mu = true → o1.mu = true)
  | [], [], _ => ⟨[], trivial, rfl, fun id o' h => by simp at h⟩
  | x :: l, none :: l', h => by
    obtain ⟨l1, h1, h2, h3⟩ := ObsLow.spec (l := l) (l' := l') (by cases x <;> exact h)
    refine ⟨none :: l1, by cases x <;> exact h1, by simp [h2], fun id o' hk => ?_⟩
    cases id with
    | zero => simp at hk
    | succ k => simpa using h3 k o' (by simpa using hk)
  | some ⟨es, n, mu, f⟩ :: l, some o' :: l', h => by
    obtain ⟨l1, h1, h2, h3⟩ := ObsLow.spec h.2
    refine ⟨some ⟨o'.es, o'.n, mu, o'.f⟩ :: l1, ⟨⟨h.1.es, h.1.n, rfl, h.1.f⟩, h1⟩, by simp [h2], fun id o2 hk => ?_⟩
    cases id with
    | zero =>
      simp at hk
      subst hk
      refine ⟨_, rfl, rfl, rfl, rfl, fun hm => ?_⟩
      have := h.1.mu
      rw [hm] at this
      cases ho : mu with
      | true => rfl
      | false => rw [ho] at this; cases this
    | succ k => simpa using h3 k o2 (by simpa using hk)
  | [], some o :: l', h => h.elim
  | [], none :: l', h => h.elim
  | none :: l, some o :: l', h => h.elim
  | some o :: l, [], h => h.elim
  | none :: l, [], h => h.elim

theorem Sim.lower {K : Ctx} {β : Book} {a : Act} {w : World} {ns : List Nat} {vs : List AV} {obs1 obs : List (Option Ob)} (hl : obs1.length = obs.length)
    (h : ∀ id o, obs.getD id none = some o → ∃ o1, obs1.getD id none = some o1 ∧ o1.es = o.es ∧ o1.n = o.n ∧ o1.f = o.f ∧ (o.mu = true → o1.mu = true)) (hs : Sim K β (mkSt ns vs obs1) a w) : ∃ β', Sim K β' (mkSt ns vs obs) a w := by
  let ids := (List.range obs.length).filter fun k => match obs.getD k none with | some o => !o.mu | none => false
  have hk : Keeps β w (frzB ids β) w := frzB_keeps ids
  refine ⟨frzB ids β, fun n => (hs.slot n).keep hk, hs.size, hs.defers, fun id o ho => ?_, frzB_inj hs.inj, fun id hid => frzB_none (hs.fresh id (by have hid : obs.length ≤ id := hid; show obs1.length ≤ id; omega)), fun id b n mu hb => ?_, fun id o hid => ?_, hs.bF, hs.hF, hs.kept, hs.hB, fun g m f hgl => (hs.glob g m f hgl).keep hk⟩
  · have ho' : obs.getD id none = some o := ho
    obtain ⟨o1, h1, e1, e2, e3, e4⟩ := h id o ho'
    have hmem : memN ids id = !o.mu := by
      have hlt : id < obs.length := by
        rw [List.getD_eq_getElem?_getD] at ho'
        cases hx : obs[id]? with
        | none => simp [hx] at ho'
        | some x => exact (List.getElem?_eq_some_iff.1 hx).1
      rw [Bool.eq_iff_iff, memN_iff]
      show id ∈ List.filter _ _ ↔ _
      rw [List.mem_filter, List.mem_range, ho']
      simp [hlt]
    rcases hs.heap id o1 h1 with ⟨b, g1, cs, el, k2, k3, k4⟩ | ⟨g1, g2⟩
    · refine .inl ⟨b, ?_, cs, el, k2, by rw [← e1, ← e2]; exact k3, fun i j hi hj => ?_⟩
      · rw [frzB_lives g1, hmem, ← e2]
        congr 2
        cases hm : o.mu with
        | true => rw [e4 hm]; rfl
        | false => simp
      · rw [← e2] at hi
        rw [← e1] at hj ⊢
        obtain ⟨vv, j1, j2, j3⟩ := k4 i j hi hj
        exact ⟨vv, j1, by rw [← e3]; exact j2.keep hk, j3⟩
    · exact .inr ⟨by simp [frzB, g1], by rw [← e2]; exact g2⟩
  · obtain ⟨mu', g1, _⟩ := frzB_inv hb
    exact hs.live id b n mu' g1
  · obtain ⟨o', g1, g2⟩ := hs.giv id o hid
    obtain ⟨o2, g3, g4⟩ := hk.ids id o' g1
    exact ⟨o2, g3, Own.later_trans g2 g4⟩

theorem Desc.le {ng : Nat} {s : ASt} {ns π : List Nat} {vals vs : List AV} {os obs : List (Option Ob)} (h : Desc ng s ns π vals os) (hv : EntL os vals vs) (ho : ObsLow os os obs) : Le ng s (mkSt ns vs obs) := by
  obtain ⟨obs1, h1, h2, h3⟩ := ho.spec
  intro K β a w hng hs
  obtain ⟨β1, hs1⟩ := h.le0 hv h1 K β a w hng hs
  exact hs1.lower h2 h3

/-- The outline of a walk. -/
inductive Sk : Type 1 where
  | no
  | tt (t : Sk)
  | ff (t : Sk)
  | br (b : Bool) (t e : Sk)
  | req (p : Prop) (t : Sk)
  | sc (g : Bool) (f : FuncId) (args : List AV) (r : AV) (t : Sk)
  | dc (g : Bool) (f : FuncId) (args : List AV) (r : AV) (t : Sk)
  | gc (f : FuncId) (obs : List Ob) (args : List AV) (r : AV) (obs' : List (Option Ob)) (t : Sk)
  | loop (ι : Type) (S : ι → ASt) (m : ι → Nat) (i0 : ι) (ns π : List Nat) (vals : List AV) (os : List (Option Ob)) (t : ι → Sk)
  | again (p : ASt → Prop) (ns π : List Nat) (vals : List AV) (os : List (Option Ob))
  | out (x : AV) (os : List (Option Ob)) (r : AV) (obs : List (Option Ob))

/-- What is said of a loop: the ghost's type, the slots that are known, their values, the objects, the measure, the first ghost. -/
structure LoopD : Type 1 where
  ι : Type
  ns : List Nat
  vs : ι → List AV
  obs : ι → List (Option Ob)
  m : ι → Nat
  i0 : ι

def Again (ng : Nat) {ι : Type} (S : ι → ASt) (m : ι → Nat) (i : ι) : ASt → Prop := fun s' => ∃ i', Le ng s' (S i') ∧ m i' < m i

def unroll (ng : Nat) : Tree → Sk → Sk
  | _, .no => .no
  | .br b t _, .tt k => match b with | true => .tt (unroll ng t k) | false => .no
  | .br b _ e, .ff k => match b with | true => .no | false => .ff (unroll ng e k)
  | .br b t e, .br _ k k' => .br b (unroll ng t k) (unroll ng e k')
  | .req p t, .req _ k => .req p (unroll ng t k)
  | .scall g f args kk, .sc _ _ _ r k => bif sc 9 r then .sc g f args r (unroll ng (kk r) k) else .no
  | .dcall g f args kk, .dc _ _ _ r k => .dc g f args r (unroll ng (kk r) k)
  | .gcall f n obs args kk, .gc _ _ _ r obs' k => bif Nat.ble n obs'.length && Nat.ble obs'.length (n + 8) then .gc f obs args r obs' (unroll ng (kk r obs') k) else .no
  | .loop _ s kk, .loop ι S m i0 ns π _ _ t => bif descOk ng π then .loop ι S m i0 ns π (valsOf s ns π) (osOf s π) (fun i => unroll ng (kk (S i) (Again ng S m i)) (t i)) else .no
  | .again s p, .again _ ns π _ _ => bif descOk ng π then .again p ns π (valsOf s ns π) (osOf s π) else .no
  | .out v r obs, .out .. => match v with | some (x, os) => .out x os r obs | none => .no
  | _, _ => .no

def Sk.ok (P : Program) (gl : Globs) (ng : Nat) : Sk → Prop
  | .no => False
  | .tt t => t.ok P gl ng
  | .ff t => t.ok P gl ng
  | .br b t e => (b = true → t.ok P gl ng) ∧ (b = false → e.ok P gl ng)
  | .req p t => p ∧ t.ok P gl ng
  | .sc g f args r t => (g = true → Pure P gl f args r) ∧ t.ok P gl ng
  | .dc g f args r t => (g = true → Pure P gl f args r) ∧ t.ok P gl ng
  | .gc f obs args r obs' t => Gives P gl f obs args r obs' ∧ t.ok P gl ng
  | .loop ι S _ i0 ns π vals os t => (∀ s, Desc ng s ns π vals os → Le ng s (S i0)) ∧ ∀ i : ι, (t i).ok P gl ng
  | .again p ns π vals os => ∀ s, Desc ng s ns π vals os → p s
  | .out x os r obs => Ent os x r ∧ ObsEnt os os obs

theorem bif_no {c : Bool} {x y : Sk} (h : (bif c then x else .no) = y) (hy : y ≠ .no) : c = true ∧ x = y := by
  cases c with
  | true => exact ⟨rfl, h⟩
  | false => exact absurd h.symm hy

theorem unroll_ok {P : Program} {gl : Globs} {ng : Nat} (k : Sk) : ∀ T, unroll ng T k = k → k.ok P gl ng → T.wp P gl (Le ng) := by
  induction k with
  | no => intro T _ h; exact h.elim
  | tt t ih =>
    intro T hu h
    cases T <;> simp only [unroll, reduceCtorEq] at hu
    rename_i b t1 e1
    cases b <;> simp only [reduceCtorEq, Sk.tt.injEq] at hu
    exact ⟨fun _ => ih _ hu h, fun h => by cases h⟩
  | ff t ih =>
    intro T hu h
    cases T <;> simp only [unroll, reduceCtorEq] at hu
    rename_i b t1 e1
    cases b <;> simp only [reduceCtorEq, Sk.ff.injEq] at hu
    exact ⟨fun h => (by cases h), fun _ => ih _ hu h⟩
  | br b t e iht ihe =>
    intro T hu h
    cases T <;> simp only [unroll, reduceCtorEq, Sk.br.injEq] at hu
    obtain ⟨rfl, h1, h2⟩ := hu
    exact ⟨fun hb => iht _ h1 (h.1 hb), fun hb => ihe _ h2 (h.2 hb)⟩
  | req p t ih =>
    intro T hu h
    cases T <;> simp only [unroll, reduceCtorEq, Sk.req.injEq] at hu
    obtain ⟨rfl, h1⟩ := hu
    exact ⟨h.1, ih _ h1 h.2⟩
  | sc g f args r t ih =>
    intro T hu h
    cases T <;> simp only [unroll, reduceCtorEq] at hu
    obtain ⟨hs, hu⟩ := bif_no hu (by simp)
    simp only [Sk.sc.injEq, true_and] at hu
    obtain ⟨rfl, rfl, rfl, h1⟩ := hu
    exact ⟨r, h.1, hs, ih _ h1 h.2⟩
  | dc g f args r t ih =>
    intro T hu h
    cases T <;> simp only [unroll, reduceCtorEq, Sk.dc.injEq, true_and] at hu
    obtain ⟨rfl, rfl, rfl, h1⟩ := hu
    exact ⟨r, h.1, ih _ h1 h.2⟩
  | gc f obs args r obs' t ih =>
    intro T hu h
    cases T <;> simp only [unroll, reduceCtorEq] at hu
    obtain ⟨hs, hu⟩ := bif_no hu (by simp)
    simp only [Sk.gc.injEq, true_and] at hu
    obtain ⟨rfl, rfl, rfl, h1⟩ := hu
    exact ⟨r, obs', h.1, hs, ih _ h1 h.2⟩
  | loop ι S m i0 ns π vals os t ih =>
    intro T hu h
    cases T <;> simp only [unroll, reduceCtorEq] at hu
    obtain ⟨hs, hu⟩ := bif_no hu (by simp)
    simp only [Sk.loop.injEq, true_and, heq_eq_eq] at hu
    obtain ⟨rfl, rfl, h1⟩ := hu
    exact ⟨ι, S, m, i0, h.1 _ ⟨hs, rfl, rfl⟩, fun i => ih i _ (congrFun h1 i) (h.2 i)⟩
  | again p ns π vals os =>
    intro T hu h
    cases T <;> simp only [unroll, reduceCtorEq] at hu
    obtain ⟨hs, hu⟩ := bif_no hu (by simp)
    simp only [Sk.again.injEq, true_and] at hu
    obtain ⟨rfl, rfl, rfl⟩ := hu
    exact h _ ⟨hs, rfl, rfl⟩
  | out x os r obs =>
    intro T hu h
    cases T <;> simp only [unroll, reduceCtorEq] at hu
    rename_i v r1 obs1
    cases v with
    | none => simp at hu
    | some xo =>
      obtain ⟨x1, os1⟩ := xo
      simp only [Sk.out.injEq] at hu
      obtain ⟨rfl, rfl, rfl, rfl⟩ := hu
      exact ⟨x1, os1, rfl, h.1, h.2⟩

/-- The walk of a function's body. -/
def walk (P : Program) (gl : Globs) (own : FuncId → Option (List Bool)) (hand : Bool) (fn : Func) (obs : List Ob) (args : List AV) (r : AV) (obs' : List (Option Ob)) : Tree := match fn.body with
  | some code => run ⟨P, gl, fn.ntmps, own, obs.length⟩ code (Back P fn obs.length hand args r obs') (entry args obs)
  | none => .bad "no body"

section
variable {P : Program} {gl : Globs} {own : FuncId → Option (List Bool)}

theorem gives_sk {hand : Bool} {f : FuncId} {fn : Func} {obs : List Ob} {args : List AV} {r : AV} {obs' : List (Option Ob)} (hf : P.funcs[f]? = some fn) (hname : (fn.name == "runtime.NumGoroutine") = false) (hm : P.follows .mixedOrders = true)
    (hn : Nat.ble args.length fn.ntmps = true) (sk : Sk) (hu : unroll obs.length (walk P gl own hand fn obs args r obs') sk = sk) (h : sk.ok P gl obs.length) : Gives P gl f obs args r obs' := by
  have hwp := unroll_ok sk _ hu h
  unfold walk at hwp
  cases hb : fn.body with
  | none => rw [hb] at hwp; exact hwp.elim
  | some code => rw [hb] at hwp; exact gives_of hf hb hname hm hn hwp

theorem pure_sk {f : FuncId} {fn : Func} {args : List AV} {r : AV} (hf : P.funcs[f]? = some fn) (hname : (fn.name == "runtime.NumGoroutine") = false) (hm : P.follows .mixedOrders = true)
    (hn : Nat.ble args.length fn.ntmps = true) (sk : Sk) (hu : unroll 0 (walk P gl own false fn [] args r []) sk = sk) (h : sk.ok P gl 0) : Pure P gl f args r :=
  gives_sk hf hname hm hn sk hu h

variable {ng : Nat}

theorem k_tt {t : Sk} (h : t.ok P gl ng) : (Sk.tt t).ok P gl ng := h
theorem k_ff {t : Sk} (h : t.ok P gl ng) : (Sk.ff t).ok P gl ng := h
theorem k_br {b : Bool} {t e : Sk} (h1 : b = true → t.ok P gl ng) (h2 : b = false → e.ok P gl ng) : (Sk.br b t e).ok P gl ng := ⟨h1, h2⟩
theorem k_req {p : Prop} {t : Sk} (h1 : p) (h2 : t.ok P gl ng) : (Sk.req p t).ok P gl ng := ⟨h1, h2⟩
theorem k_sc {f : FuncId} {args : List AV} {r : AV} {t : Sk} (h1 : Pure P gl f args r) (h2 : t.ok P gl ng) : (Sk.sc true f args r t).ok P gl ng := ⟨fun _ => h1, h2⟩
theorem k_scg {g : Bool} {f : FuncId} {args : List AV} {r : AV} {t : Sk} (h1 : g = true → Pure P gl f args r) (h2 : t.ok P gl ng) : (Sk.sc g f args r t).ok P gl ng := ⟨h1, h2⟩
theorem k_dc {f : FuncId} {args : List AV} {r : AV} {t : Sk} (h1 : Pure P gl f args r) (h2 : t.ok P gl ng) : (Sk.dc true f args r t).ok P gl ng := ⟨fun _ => h1, h2⟩
theorem k_dcg {g : Bool} {f : FuncId} {args : List AV} {r : AV} {t : Sk} (h1 : g = true → Pure P gl f args r) (h2 : t.ok P gl ng) : (Sk.dc g f args r t).ok P gl ng := ⟨h1, h2⟩
theorem k_gc {f : FuncId} {obs : List Ob} {args : List AV} {r : AV} {obs' : List (Option Ob)} {t : Sk} (h1 : Gives P gl f obs args r obs') (h2 : t.ok P gl ng) : (Sk.gc f obs args r obs' t).ok P gl ng := ⟨h1, h2⟩
theorem k_loop {ι : Type} {S : ι → ASt} {m : ι → Nat} {i0 : ι} {ns π : List Nat} {vals : List AV} {os : List (Option Ob)} {t : ι → Sk} (h1 : ∀ s, Desc ng s ns π vals os → Le ng s (S i0)) (h2 : ∀ i, (t i).ok P gl ng) :
    (Sk.loop ι S m i0 ns π vals os t).ok P gl ng := ⟨h1, h2⟩
theorem k_again {ι : Type} {S : ι → ASt} {m : ι → Nat} {i : ι} {ns π : List Nat} {vals : List AV} {os : List (Option Ob)} (i' : ι) (h1 : ∀ s, Desc ng s ns π vals os → Le ng s (S i')) (h2 : m i' < m i) :
    (Sk.again (Again ng S m i) ns π vals os).ok P gl ng := fun s hs => ⟨i', h1 s hs, h2⟩
theorem k_out {x r : AV} (h : Ent [] x r) : (Sk.out x [] r []).ok P gl ng := ⟨h, trivial⟩
theorem k_outg {x r : AV} {os obs : List (Option Ob)} (h : Ent os x r) (h2 : ObsEnt os os obs) : (Sk.out x os r obs).ok P gl ng := ⟨h, h2⟩

end
end Go.Am
