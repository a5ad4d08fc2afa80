/- Part of the proof: EnUse, EnLaw, SpMath, Ari, Ari2, Tabs, Prime, HS1, HS2, HS3, HS4. -/
import Derived.Test.YtolcfdcoidpieaaGreatDoorM2
import Derived.KernelRfl
import Derived.Test.YtolcfdcoidpieaaGreatDoorProg
namespace Go.Am

section
variable {x y : Bool} {p q : Prop}
theorem cnd_id_t : x = true → x = true := id
theorem cnd_id_f : x = false → x = false := id
theorem cnd_and_t (f : x = true → p) (g : y = true → q) (h : (x && y) = true) : p ∧ q := by
  cases x <;> cases y <;> first | exact ⟨f rfl, g rfl⟩ | cases h
theorem cnd_and_f (f : x = false → p) (g : y = false → q) (h : (x && y) = false) : p ∨ q := by
  cases x with
  | false => exact .inl (f rfl)
  | true => exact .inr (g h)
theorem cnd_or_t (f : x = true → p) (g : y = true → q) (h : (x || y) = true) : p ∨ q := by
  cases x with
  | true => exact .inl (f rfl)
  | false => exact .inr (g h)
theorem cnd_or_f (f : x = false → p) (g : y = false → q) (h : (x || y) = false) : p ∧ q := by
  cases x <;> cases y <;> first | exact ⟨f rfl, g rfl⟩ | cases h
theorem cnd_not_t (f : x = false → p) (h : (!x) = true) : p := by
  cases x with
  | false => exact f rfl
  | true => cases h
theorem cnd_not_f (f : x = true → p) (h : (!x) = false) : p := by
  cases x with
  | true => exact f rfl
  | false => cases h
theorem cnd_eqt_t (f : x = true → p) (h : (x == true) = true) : p := by
  cases x with
  | true => exact f rfl
  | false => cases h
theorem cnd_eqf_t (f : x = false → p) (h : (x == false) = true) : p := by
  cases x with
  | false => exact f rfl
  | true => cases h
theorem cnd_dec_t {i : Decidable p} (h : @decide p i = true) : p := of_decide_eq_true h
theorem cnd_dec_f {i : Decidable p} (h : @decide p i = false) : ¬ p := of_decide_eq_false h
theorem cnd_beq_t {a b : Int} (h : (a == b) = true) : a = b := by simpa using h
theorem cnd_beq_f {a b : Int} (h : (a == b) = false) : ¬ a = b := by simpa using h
theorem cnd_bne_t {a b : Int} (h : (a != b) = true) : ¬ a = b := by simpa using h
theorem cnd_bne_f {a b : Int} (h : (a != b) = false) : a = b := by simpa using h
end

def EntL (os : List (Option Ob)) : List AV → List AV → Prop
  | [], [] => True
  | a :: l, b :: l' => Ent os a b ∧ EntL os l l'
  | _, _ => False

theorem EntL.spec {os : List (Option Ob)} : ∀ {l l' : List AV}, EntL os l l' → l.length = l'.length ∧ ∀ (k : Nat) a b, l[k]? = some a → l'[k]? = some b → Ent os a b
  | [], [], _ => ⟨rfl, fun k a b h => by simp at h⟩
  | x :: l, y :: l', h => by
    obtain ⟨h1, h2⟩ := EntL.spec h.2
    refine ⟨by simp [h1], fun k a b ha hb => ?_⟩
    cases k with
    | zero => simp at ha hb; subst ha; subst hb; exact h.1
    | succ k => simp at ha hb; exact h2 k a b ha hb
  | [], _ :: _, h => h.elim
  | _ :: _, [], h => h.elim

def lookZ : List Nat → List AV → Nat → AV
  | n :: ns, v :: vs, k => bif Nat.beq n k then v else lookZ ns vs k
  | _, _, _ => .junk

def mkSt (ns : List Nat) (vs : List AV) (obs : List (Option Ob)) : ASt := ⟨lookZ ns vs, fun id => obs.getD id none, obs.length⟩

def valsOf (s : ASt) (ns π : List Nat) : List AV := ns.map fun n => mapA (posIn π 0) 9 (restH π s.H) (s.fr n)
def osOf (s : ASt) (π : List Nat) : List (Option Ob) := π.map fun id => match s.H id with
  | some o => some (mapO (posIn π 0) (restH π s.H) o)
  | none => bif Nat.ble s.c id && !Nat.blt (id - s.c) 256 then some ⟨(id - s.c) / 256, 0, true, .lst []⟩ else none

def descOk (ng c : Nat) (π : List Nat) : Bool := nodupB π && (List.range ng).all fun k => match π[k]? with | some id => Nat.beq id k || (Nat.ble c id && Nat.blt (id - c) 256) | none => false

structure Desc (ng : Nat) (s : ASt) (ns π : List Nat) (vals : List AV) (os : List (Option Ob)) : Prop where
  ok : descOk ng s.c π = true
  vals : valsOf s ns π = vals
  os : osOf s π = os

theorem lookZ_cases (β : Book) (w : World) (s : ASt) (g : AV → AV) (val : Nat → Value) (os : List (Option Ob)) (hh : Has os β) : ∀ (ns : List Nat) (vs : List AV), (∀ (k n : Nat) v, ns[k]? = some n → vs[k]? = some v → Ent os (g (s.fr n)) v) → (∀ n, Rel β w (g (s.fr n)) (val n)) → ∀ n, Rel β w (lookZ ns vs n) (val n)
  | [], _, _, _, _ => .junk
  | _ :: _, [], _, _, _ => .junk
  | m :: ns, v :: vs, h, hr, n => by
    simp only [lookZ]
    cases hb : Nat.beq m n with
    | true =>
      have := Nat.eq_of_beq_eq_true hb
      subst this
      exact h 0 m v rfl rfl _ _ _ hh (hr m)
    | false => exact lookZ_cases β w s g val os hh ns vs (fun k n v hn hv => h (k + 1) n v (by simpa using hn) (by simpa using hv)) hr n

theorem Desc.le0 {ng : Nat} {s : ASt} {ns π : List Nat} {vals vs : List AV} {os obs : List (Option Ob)} (h : Desc ng s ns π vals os) (hv : EntL os vals vs) (ho : ObsEnt os os obs) : Le ng s (mkSt ns vs obs) := by
  intro K β a w hng hs
  obtain ⟨hok, hvals, hos⟩ := h
  unfold descOk at hok
  rw [Bool.and_eq_true] at hok
  obtain ⟨hnd, hpre⟩ := hok
  have hnd' := nodupB_spec hnd
  have hpre' : ∀ k, k < ng → π[k]? = some k ∨ ∃ id, π[k]? = some id ∧ (Nat.ble s.c id && Nat.blt (id - s.c) 256) = true := fun k hk => by
    have := List.all_eq_true.1 hpre k (List.mem_range.2 hk)
    cases hp : π[k]? with
    | none => simp [hp] at this
    | some id =>
      simp only [hp] at this
      rw [Bool.or_eq_true] at this
      rcases this with h | h
      · exact .inl (by rw [Nat.eq_of_beq_eq_true h])
      · exact .inr ⟨id, rfl, h⟩
  obtain ⟨hl1, hv'⟩ := hv.spec
  obtain ⟨hl2, ho'⟩ := ho.spec
  have hlo : os.length = π.length := by rw [← hos]; simp [osOf]
  let bm : Nat → Option Own := fun k => match π[k]? with | some id => bif Nat.ble s.c id then (bif Nat.blt (id - s.c) 256 then some .dead else some .empty) else β.m id | none => none
  let β' : Book := ⟨bm, β.F⟩
  have bm_lives : ∀ {k b n mu}, bm k = some (.lives b n mu) → ∃ id, π[k]? = some id ∧ β.m id = some (.lives b n mu) := by
    intro k b n mu h
    cases hk : π[k]? with
    | none => simp only [bm, hk] at h; cases h
    | some id =>
      simp only [bm, hk] at h
      cases hc : Nat.ble s.c id with
      | true => cases hg : Nat.blt (id - s.c) 256 <;> simp [hc, hg] at h
      | false => simp only [hc, cond_false] at h; exact ⟨id, rfl, h⟩
  have old : ∀ {id}, β.m id ≠ none → Nat.ble s.c id = false := fun {id} hn => by
    cases hc : Nat.ble s.c id with
    | false => rfl
    | true => rw [Nat.ble_eq] at hc; exact absurd (hs.fresh id hc) hn
  have bm_at : ∀ {k id}, π[k]? = some id → β.m id ≠ none → bm k = β.m id := fun {k id} h hn => by simp only [bm, h, old hn, cond_false]
  have hHr : HeapOk β w (restH π s.H) := by
    intro id ob hid hne
    unfold restH at hid
    cases hmem : memN π id with
    | true => simp [hmem] at hid
    | false => simp only [hmem, cond_false] at hid; exact hs.ok id ob hid hne
  have h1 : ∀ id k, posIn π 0 id = some k → β.m id ≠ none → β'.m k = β.m id := fun id k h hn => by
    obtain ⟨_, h2⟩ := posIn_some h
    exact bm_at (by simpa using h2) hn
  have h2 : ∀ b, β.free b → β'.free b := fun b hf => ⟨hf.1, fun k n h => by
    obtain ⟨id, _, hm'⟩ := bm_lives h
    exact hf.2 id n hm'⟩
  have h3 : ∀ id ob b n mu, restH π s.H id = some ob → β.m id = some (.lives b n mu) → β'.free b := by
    intro id ob b n mu ho hm'
    unfold restH at ho
    cases hmem : memN π id with
    | true => simp [hmem] at ho
    | false =>
      refine ⟨fun hF' => ?_, fun k n' h => ?_⟩
      · have hF2 : β.F b := hF'
        rw [hs.bF] at hF2
        obtain ⟨g1, g2⟩ := hs.hF b hF2
        rcases (hs.live id b n mu hm').1 with h | h
        · omega
        · exact g2 h
      · obtain ⟨id', hk, hm2⟩ := bm_lives h
        have := hs.inj id' id b n' n _ mu hm2 hm'
        subst this
        rw [memN_iff.2 (List.mem_of_getElem? hk)] at hmem
        cases hmem
  have hHld : ∀ (k : Nat) o, os[k]? = some (some o) → Holds β' w o k := fun k o hk => by
    rw [← hos, osOf, List.getElem?_map] at hk
    cases hik : π[k]? with
    | none => simp [hik] at hk
    | some id =>
      simp only [hik, Option.map_some, Option.some.injEq] at hk
      cases hH : s.H id with
      | some o0 =>
        simp only [hH, Option.some.injEq] at hk
        subst hk
        have hne : β.m id ≠ none := by rcases hs.heap id o0 hH with ⟨b, g, _⟩ | ⟨g, _⟩ <;> (rw [g]; simp)
        exact mapO_holds (β' := β') hHr h1 h2 h3 (bm_at hik hne) (hs.heap id o0 hH)
      | none =>
        simp only [hH] at hk
        cases hc : Nat.ble s.c id with
        | false => simp [hc] at hk
        | true =>
          cases hg : Nat.blt (id - s.c) 256 with
          | true => simp [hc, hg] at hk
          | false =>
            simp only [hc, hg, Bool.not_false, Bool.and_self, cond_true, Option.some.injEq] at hk
            subst hk
            exact .inr ⟨by show bm k = _; simp only [bm, hik, hc, hg, cond_true, cond_false], rfl⟩
  have hHas : Has os β' := fun k o hk => by
    rcases hHld k o hk with ⟨b, g, _⟩ | ⟨g, _⟩ <;> (rw [g]; simp)
  refine ⟨β', fun n => ?_, hs.size, hs.defers, fun id o hid => ?_, fun p q b n n' mu mu' e1 e2 => ?_, fun id hid => ?_, fun id b n mu h => ?_, fun id o hid => ?_, hs.bF, hs.hF, hs.kept, hs.hB, fun g m h hgl => (hs.glob g m h hgl).rebook h2 (by
    obtain ⟨_, _, _, _, _, _, _, _, hcl, _⟩ := rel_ipt_inv (hs.glob g m h hgl)
    exact .ipt hcl)⟩
  · refine lookZ_cases β' w s (mapA (posIn π 0) 9 (restH π s.H)) (fun n => a.tmps.getD n undef) os hHas ns vs (fun k m v hm hv1 => ?_) (fun m => mapA_rel hHr h1 h2 h3 9 _ _ (hs.slot m)) n
    have : vals[k]? = some (mapA (posIn π 0) 9 (restH π s.H) (s.fr m)) := by rw [← hvals, valsOf, List.getElem?_map, hm]; rfl
    exact hv' k _ v this hv1
  · have hid' : obs[id]? = some (some o) := by
      have : obs.getD id none = some o := hid
      rw [List.getD_eq_getElem?_getD] at this
      cases hx : obs[id]? with
      | none => simp [hx] at this
      | some x => simp [hx] at this; rw [this]
    obtain ⟨o1, g1, e1, e2, e3, e4⟩ := ho' id o hid'
    rcases hHld id o1 g1 with ⟨b, k1, cs, el, k2, k3, k4⟩ | ⟨k1, k2⟩
    · refine .inl ⟨b, by rw [← e2, ← e3]; exact k1, cs, el, k2, by rw [← e1, ← e2]; exact k3, fun i j hi hj => ?_⟩
      rw [← e2] at hi
      rw [← e1] at hj ⊢
      obtain ⟨vv, j1, j2, j3⟩ := k4 i j hi hj
      exact ⟨vv, j1, e4 i j hi hj _ _ _ hHas j2, j3⟩
    · exact .inr ⟨k1, by rw [← e2]; exact k2⟩
  · obtain ⟨x1, g1, g2⟩ := bm_lives e1
    obtain ⟨y1, g3, g4⟩ := bm_lives e2
    have := hs.inj x1 y1 b n n' mu mu' g2 g4
    subst this
    exact hnd' p q x1 g1 g3
  · have hlen : obs.length ≤ id := hid
    have : π[id]? = none := List.getElem?_eq_none (by omega)
    show bm id = none
    simp only [bm, this]
  · obtain ⟨id1, g1, g2⟩ := bm_lives h
    exact hs.live id1 b n mu g2
  · have hk : id < ng := Nat.lt_of_not_le fun h => by rw [hng id h] at hid; cases hid
    obtain ⟨o', g1, g2⟩ := hs.giv id o hid
    rcases hpre' id hk with hp | ⟨id', hp, hg⟩
    · exact ⟨o', by show bm id = some o'; rw [bm_at hp (by rw [g1]; simp)]; exact g1, g2⟩
    · rw [Bool.and_eq_true] at hg
      exact ⟨.dead, by show bm id = some .dead; simp only [bm, hp, hg.1, hg.2, cond_true], by cases o <;> trivial⟩

def ObsLow (os : List (Option Ob)) : List (Option Ob) → List (Option Ob) → Prop
  | [], [] => True
  | _ :: l, none :: l' => ObsLow os l l'
  | some ⟨es, n, mu, f⟩ :: l, some o' :: l' => ObEnt os ⟨es, n, mu && o'.mu, f⟩ o' ∧ ObsLow os l l'
  | _, _ => False

theorem ObsLow.spec {os : List (Option Ob)} : ∀ {l l' : List (Option Ob)}, ObsLow os l l' → ∃ l1, ObsEnt os l l1 ∧ l1.length = l'.length ∧
    ∀ id o', l'.getD id none = some o' → ∃ o1, l1.getD id none = some o1 ∧ o1.es = o'.es ∧ o1.n = o'.n ∧ o1.f = o'.f ∧ (o'.mu = true → o1.mu = true)
  | [], [], _ => ⟨[], trivial, rfl, fun id o' h => by simp at h⟩
  | x :: l, none :: l', h => by
    obtain ⟨l1, h1, h2, h3⟩ := ObsLow.spec (l := l) (l' := l') (by cases x <;> exact h)
    refine ⟨none :: l1, by cases x <;> exact h1, by simp [h2], fun id o' hk => ?_⟩
    cases id with
    | zero => simp at hk
    | succ k => simpa using h3 k o' (by simpa using hk)
  | some ⟨es, n, mu, f⟩ :: l, some o' :: l', h => by
    obtain ⟨l1, h1, h2, h3⟩ := ObsLow.spec h.2
    refine ⟨some ⟨o'.es, o'.n, mu, o'.f⟩ :: l1, ⟨⟨h.1.es, h.1.n, rfl, h.1.f⟩, h1⟩, by simp [h2], fun id o2 hk => ?_⟩
    cases id with
    | zero =>
      simp at hk
      subst hk
      refine ⟨_, rfl, rfl, rfl, rfl, fun hm => ?_⟩
      have := h.1.mu
      rw [hm] at this
      cases ho : mu with
      | true => rfl
      | false => rw [ho] at this; cases this
    | succ k => simpa using h3 k o2 (by simpa using hk)
  | [], some o :: l', h => h.elim
  | [], none :: l', h => h.elim
  | none :: l, some o :: l', h => h.elim
  | some o :: l, [], h => h.elim
  | none :: l, [], h => h.elim

theorem Sim.lower {K : Ctx} {β : Book} {a : Act} {w : World} {ns : List Nat} {vs : List AV} {obs1 obs : List (Option Ob)} (hl : obs1.length = obs.length)
    (h : ∀ id o, obs.getD id none = some o → ∃ o1, obs1.getD id none = some o1 ∧ o1.es = o.es ∧ o1.n = o.n ∧ o1.f = o.f ∧ (o.mu = true → o1.mu = true)) (hs : Sim K β (mkSt ns vs obs1) a w) : ∃ β', Sim K β' (mkSt ns vs obs) a w := by
  let ids := (List.range obs.length).filter fun k => match obs.getD k none with | some o => !o.mu | none => false
  have hk : Keeps β w (frzB ids β) w := frzB_keeps ids
  refine ⟨frzB ids β, fun n => (hs.slot n).keep hk, hs.size, hs.defers, fun id o ho => ?_, frzB_inj hs.inj, fun id hid => frzB_none (hs.fresh id (by have hid : obs.length ≤ id := hid; show obs1.length ≤ id; omega)), fun id b n mu hb => ?_, fun id o hid => ?_, hs.bF, hs.hF, hs.kept, hs.hB, fun g m f hgl => (hs.glob g m f hgl).keep hk⟩
  · have ho' : obs.getD id none = some o := ho
    obtain ⟨o1, h1, e1, e2, e3, e4⟩ := h id o ho'
    have hmem : memN ids id = !o.mu := by
      have hlt : id < obs.length := by
        rw [List.getD_eq_getElem?_getD] at ho'
        cases hx : obs[id]? with
        | none => simp [hx] at ho'
        | some x => exact (List.getElem?_eq_some_iff.1 hx).1
      rw [Bool.eq_iff_iff, memN_iff]
      show id ∈ List.filter _ _ ↔ _
      rw [List.mem_filter, List.mem_range, ho']
      simp [hlt]
    rcases hs.heap id o1 h1 with ⟨b, g1, cs, el, k2, k3, k4⟩ | ⟨g1, g2⟩
    · refine .inl ⟨b, ?_, cs, el, k2, by rw [← e1, ← e2]; exact k3, fun i j hi hj => ?_⟩
      · rw [frzB_lives g1, hmem, ← e2]
        congr 2
        cases hm : o.mu with
        | true => rw [e4 hm]; rfl
        | false => simp
      · rw [← e2] at hi
        rw [← e1] at hj ⊢
        obtain ⟨vv, j1, j2, j3⟩ := k4 i j hi hj
        exact ⟨vv, j1, by rw [← e3]; exact j2.keep hk, j3⟩
    · exact .inr ⟨by simp [frzB, g1], by rw [← e2]; exact g2⟩
  · obtain ⟨mu', g1, _⟩ := frzB_inv hb
    exact hs.live id b n mu' g1
  · obtain ⟨o', g1, g2⟩ := hs.giv id o hid
    obtain ⟨o2, g3, g4⟩ := hk.ids id o' g1
    exact ⟨o2, g3, Own.later_trans g2 g4⟩

theorem Desc.le {ng : Nat} {s : ASt} {ns π : List Nat} {vals vs : List AV} {os obs : List (Option Ob)} (h : Desc ng s ns π vals os) (hv : EntL os vals vs) (ho : ObsLow os os obs) : Le ng s (mkSt ns vs obs) := by
  obtain ⟨obs1, h1, h2, h3⟩ := ho.spec
  intro K β a w hng hs
  obtain ⟨β1, hs1⟩ := h.le0 hv h1 K β a w hng hs
  exact hs1.lower h2 h3

inductive Sk : Type 1 where
  | no
  | tt (t : Sk)
  | ff (t : Sk)
  | br (b : Bool) (t e : Sk)
  | req (p : Prop) (t : Sk)
  | sc (g : Bool) (f : FuncId) (args : List AV) (r : AV) (t : Sk)
  | dc (g : Bool) (f : FuncId) (args : List AV) (r : AV) (t : Sk)
  | gc (f : FuncId) (obs : List Ob) (args : List AV) (r : AV) (obs' : List (Option Ob)) (t : Sk)
  | loop (ι : Type) (S : ι → ASt) (m : ι → Nat) (i0 : ι) (ns π : List Nat) (vals : List AV) (os : List (Option Ob)) (t : ι → Sk)
  | again (p : ASt → Prop) (ns π : List Nat) (vals : List AV) (os : List (Option Ob))
  | out (x : AV) (os : List (Option Ob)) (r : AV) (obs : List (Option Ob))
  | opq (nt : Nat) (c : Code) (ns π : List Nat) (vals : List AV) (os : List (Option Ob)) (s' : ASt) (t : Sk)

structure LoopD : Type 1 where
  ι : Type
  ns : List Nat
  vs : ι → List AV
  obs : ι → List (Option Ob)
  m : ι → Nat
  i0 : ι

def Again (ng : Nat) {ι : Type} (S : ι → ASt) (m : ι → Nat) (i : ι) : ASt → Prop := fun s' => ∃ i', Le ng s' (S i') ∧ m i' < m i

def unroll (ng : Nat) : Tree → Sk → Sk
  | _, .no => .no
  | .br b t _, .tt k => match b with | true => .tt (unroll ng t k) | false => .no
  | .br b _ e, .ff k => match b with | true => .no | false => .ff (unroll ng e k)
  | .br b t e, .br _ k k' => .br b (unroll ng t k) (unroll ng e k')
  | .req p t, .req _ k => .req p (unroll ng t k)
  | .scall g f args kk, .sc _ _ _ r k => bif sc 9 r then .sc g f args r (unroll ng (kk r) k) else .no
  | .dcall g f args kk, .dc _ _ _ r k => .dc g f args r (unroll ng (kk r) k)
  | .gcall f n obs args kk, .gc _ _ _ r obs' k => bif Nat.ble n obs'.length && Nat.ble obs'.length (n + 8) then .gc f obs args r obs' (unroll ng (kk r obs') k) else .no
  | .loop _ s kk, .loop ι S m i0 ns π _ _ t => bif descOk ng s.c π then .loop ι S m i0 ns π (valsOf s ns π) (osOf s π) (fun i => unroll ng (kk (S i) (Again ng S m i)) (t i)) else .no
  | .again s p, .again _ ns π _ _ => bif descOk ng s.c π then .again p ns π (valsOf s ns π) (osOf s π) else .no
  | .opq n nt c s kk, .opq _ _ ns π _ _ s' t => bif Nat.beq n ng && descOk ng s.c π then .opq nt c ns π (valsOf s ns π) (osOf s π) s' (unroll ng (kk s') t) else .no
  | .out v r obs, .out .. => match v with | some (x, os) => .out x os r obs | none => .no
  | _, _ => .no

def Sk.ok (P : Program) (gl : Globs) (ng : Nat) : Sk → Prop
  | .no => False
  | .tt t => t.ok P gl ng
  | .ff t => t.ok P gl ng
  | .br b t e => (b = true → t.ok P gl ng) ∧ (b = false → e.ok P gl ng)
  | .req p t => p ∧ t.ok P gl ng
  | .sc g f args r t => (g = true → Pure P gl f args r) ∧ t.ok P gl ng
  | .dc g f args r t => (g = true → Pure P gl f args r) ∧ t.ok P gl ng
  | .gc f obs args r obs' t => Gives P gl f obs args r obs' ∧ t.ok P gl ng
  | .loop ι S _ i0 ns π vals os t => (∀ s, Desc ng s ns π vals os → Le ng s (S i0)) ∧ ∀ i : ι, (t i).ok P gl ng
  | .again p ns π vals os => ∀ s, Desc ng s ns π vals os → p s
  | .out x os r obs => Ent os x r ∧ ObsEnt os os obs
  | .opq nt c ns π vals os s' t => (∀ s, Desc ng s ns π vals os → Opq P gl ng nt c s s') ∧ t.ok P gl ng

theorem bif_no {c : Bool} {x y : Sk} (h : (bif c then x else .no) = y) (hy : y ≠ .no) : c = true ∧ x = y := by
  cases c with
  | true => exact ⟨rfl, h⟩
  | false => exact absurd h.symm hy

theorem unroll_ok {P : Program} {gl : Globs} {ng : Nat} (k : Sk) : ∀ T, unroll ng T k = k → k.ok P gl ng → T.wp P gl (Le ng) := by
  induction k with
  | no => intro T _ h; exact h.elim
  | tt t ih =>
    intro T hu h
    cases T <;> simp only [unroll, reduceCtorEq] at hu
    rename_i b t1 e1
    cases b <;> simp only [reduceCtorEq, Sk.tt.injEq] at hu
    exact ⟨fun _ => ih _ hu h, fun h => by cases h⟩
  | ff t ih =>
    intro T hu h
    cases T <;> simp only [unroll, reduceCtorEq] at hu
    rename_i b t1 e1
    cases b <;> simp only [reduceCtorEq, Sk.ff.injEq] at hu
    exact ⟨fun h => (by cases h), fun _ => ih _ hu h⟩
  | br b t e iht ihe =>
    intro T hu h
    cases T <;> simp only [unroll, reduceCtorEq, Sk.br.injEq] at hu
    obtain ⟨rfl, h1, h2⟩ := hu
    exact ⟨fun hb => iht _ h1 (h.1 hb), fun hb => ihe _ h2 (h.2 hb)⟩
  | req p t ih =>
    intro T hu h
    cases T <;> simp only [unroll, reduceCtorEq, Sk.req.injEq] at hu
    obtain ⟨rfl, h1⟩ := hu
    exact ⟨h.1, ih _ h1 h.2⟩
  | sc g f args r t ih =>
    intro T hu h
    cases T <;> simp only [unroll, reduceCtorEq] at hu
    obtain ⟨hs, hu⟩ := bif_no hu (by simp)
    simp only [Sk.sc.injEq, true_and] at hu
    obtain ⟨rfl, rfl, rfl, h1⟩ := hu
    exact ⟨r, h.1, hs, ih _ h1 h.2⟩
  | dc g f args r t ih =>
    intro T hu h
    cases T <;> simp only [unroll, reduceCtorEq, Sk.dc.injEq, true_and] at hu
    obtain ⟨rfl, rfl, rfl, h1⟩ := hu
    exact ⟨r, h.1, ih _ h1 h.2⟩
  | gc f obs args r obs' t ih =>
    intro T hu h
    cases T <;> simp only [unroll, reduceCtorEq] at hu
    obtain ⟨hs, hu⟩ := bif_no hu (by simp)
    simp only [Sk.gc.injEq, true_and] at hu
    obtain ⟨rfl, rfl, rfl, h1⟩ := hu
    exact ⟨r, obs', h.1, hs, ih _ h1 h.2⟩
  | loop ι S m i0 ns π vals os t ih =>
    intro T hu h
    cases T <;> simp only [unroll, reduceCtorEq] at hu
    obtain ⟨hs, hu⟩ := bif_no hu (by simp)
    simp only [Sk.loop.injEq, true_and, heq_eq_eq] at hu
    obtain ⟨rfl, rfl, h1⟩ := hu
    exact ⟨ι, S, m, i0, h.1 _ ⟨hs, rfl, rfl⟩, fun i => ih i _ (congrFun h1 i) (h.2 i)⟩
  | again p ns π vals os =>
    intro T hu h
    cases T <;> simp only [unroll, reduceCtorEq] at hu
    obtain ⟨hs, hu⟩ := bif_no hu (by simp)
    simp only [Sk.again.injEq, true_and] at hu
    obtain ⟨rfl, rfl, rfl⟩ := hu
    exact h _ ⟨hs, rfl, rfl⟩
  | opq nt c ns π vals os s' t ih =>
    intro T hu h
    cases T <;> simp only [unroll, reduceCtorEq] at hu
    obtain ⟨hs, hu⟩ := bif_no hu (by simp)
    rw [Bool.and_eq_true] at hs
    have hn := Nat.eq_of_beq_eq_true hs.1
    simp only [Sk.opq.injEq, true_and] at hu
    obtain ⟨rfl, rfl, rfl, rfl, h1⟩ := hu
    subst hn
    exact ⟨s', h.1 _ ⟨hs.2, rfl, rfl⟩, ih _ h1 h.2⟩
  | out x os r obs =>
    intro T hu h
    cases T <;> simp only [unroll, reduceCtorEq] at hu
    rename_i v r1 obs1
    cases v with
    | none => simp at hu
    | some xo =>
      obtain ⟨x1, os1⟩ := xo
      simp only [Sk.out.injEq] at hu
      obtain ⟨rfl, rfl, rfl, rfl⟩ := hu
      exact ⟨x1, os1, rfl, h.1, h.2⟩

def walk (P : Program) (gl : Globs) (own : FuncId → Option (List Bool)) (hand : Bool) (fn : Func) (obs : List Ob) (args : List AV) (r : AV) (obs' : List (Option Ob)) : Tree := match fn.body with
  | some code => run ⟨P, gl, fn.ntmps, own, obs.length⟩ code (Back P fn obs.length hand args r obs') (entry args obs)
  | none => .bad "no body"

section
variable {P : Program} {gl : Globs} {own : FuncId → Option (List Bool)}

theorem gives_sk {hand : Bool} {f : FuncId} {fn : Func} {obs : List Ob} {args : List AV} {r : AV} {obs' : List (Option Ob)} (hf : P.funcs[f]? = some fn) (hname : (fn.name == "runtime.NumGoroutine") = false) (hm : P.follows .mixedOrders = true)
    (hn : Nat.ble args.length fn.ntmps = true) (sk : Sk) (hu : unroll obs.length (walk P gl own hand fn obs args r obs') sk = sk) (h : sk.ok P gl obs.length) : Gives P gl f obs args r obs' := by
  have hwp := unroll_ok sk _ hu h
  unfold walk at hwp
  cases hb : fn.body with
  | none => rw [hb] at hwp; exact hwp.elim
  | some code => rw [hb] at hwp; exact gives_of hf hb hname hm hn hwp

theorem pure_sk {f : FuncId} {fn : Func} {args : List AV} {r : AV} (hf : P.funcs[f]? = some fn) (hname : (fn.name == "runtime.NumGoroutine") = false) (hm : P.follows .mixedOrders = true)
    (hn : Nat.ble args.length fn.ntmps = true) (sk : Sk) (hu : unroll 0 (walk P gl own false fn [] args r []) sk = sk) (h : sk.ok P gl 0) : Pure P gl f args r :=
  gives_sk hf hname hm hn sk hu h

variable {ng : Nat}

theorem k_tt {t : Sk} (h : t.ok P gl ng) : (Sk.tt t).ok P gl ng := h
theorem k_ff {t : Sk} (h : t.ok P gl ng) : (Sk.ff t).ok P gl ng := h
theorem k_br {b : Bool} {t e : Sk} (h1 : b = true → t.ok P gl ng) (h2 : b = false → e.ok P gl ng) : (Sk.br b t e).ok P gl ng := ⟨h1, h2⟩
theorem k_req {p : Prop} {t : Sk} (h1 : p) (h2 : t.ok P gl ng) : (Sk.req p t).ok P gl ng := ⟨h1, h2⟩
theorem k_sc {f : FuncId} {args : List AV} {r : AV} {t : Sk} (h1 : Pure P gl f args r) (h2 : t.ok P gl ng) : (Sk.sc true f args r t).ok P gl ng := ⟨fun _ => h1, h2⟩
theorem k_scg {g : Bool} {f : FuncId} {args : List AV} {r : AV} {t : Sk} (h1 : g = true → Pure P gl f args r) (h2 : t.ok P gl ng) : (Sk.sc g f args r t).ok P gl ng := ⟨h1, h2⟩
theorem k_dc {f : FuncId} {args : List AV} {r : AV} {t : Sk} (h1 : Pure P gl f args r) (h2 : t.ok P gl ng) : (Sk.dc true f args r t).ok P gl ng := ⟨fun _ => h1, h2⟩
theorem k_gc {f : FuncId} {obs : List Ob} {args : List AV} {r : AV} {obs' : List (Option Ob)} {t : Sk} (h1 : Gives P gl f obs args r obs') (h2 : t.ok P gl ng) : (Sk.gc f obs args r obs' t).ok P gl ng := ⟨h1, h2⟩
theorem k_loop {ι : Type} {S : ι → ASt} {m : ι → Nat} {i0 : ι} {ns π : List Nat} {vals : List AV} {os : List (Option Ob)} {t : ι → Sk} (h1 : ∀ s, Desc ng s ns π vals os → Le ng s (S i0)) (h2 : ∀ i, (t i).ok P gl ng) :
    (Sk.loop ι S m i0 ns π vals os t).ok P gl ng := ⟨h1, h2⟩
theorem k_again {ι : Type} {S : ι → ASt} {m : ι → Nat} {i : ι} {ns π : List Nat} {vals : List AV} {os : List (Option Ob)} (i' : ι) (h1 : ∀ s, Desc ng s ns π vals os → Le ng s (S i')) (h2 : m i' < m i) :
    (Sk.again (Again ng S m i) ns π vals os).ok P gl ng := fun s hs => ⟨i', h1 s hs, h2⟩
theorem k_opq {nt : Nat} {c : Code} {ns π : List Nat} {vals : List AV} {os : List (Option Ob)} {s1 s' : ASt} {t : Sk} (h0 : ∀ s, Desc ng s ns π vals os → Le ng s s1) (h1 : Opq P gl ng nt c s1 s') (h2 : t.ok P gl ng) :
    (Sk.opq nt c ns π vals os s' t).ok P gl ng := ⟨fun s hs K β a w hP hgl hnt hng hq hm h => let ⟨_, h'⟩ := h0 s hs K β a w hng h; h1 K _ a w hP hgl hnt hng hq hm h', h2⟩
theorem k_out {x r : AV} (h : Ent [] x r) : (Sk.out x [] r []).ok P gl ng := ⟨h, trivial⟩
theorem k_outg {x r : AV} {os obs : List (Option Ob)} (h : Ent os x r) (h2 : ObsEnt os os obs) : (Sk.out x os r obs).ok P gl ng := ⟨h, h2⟩

end
end Go.Am

namespace Go.Am
open Go.RowKit

theorem Ent.junk {os : List (Option Ob)} (a : AV) : Ent os a .junk := fun _ _ _ _ _ => .junk

theorem Ent.nn {os : List (Option Ob)} {a b : AV} (h : Ent os a b) : Ent os (.nn a) b := fun _ _ _ hh hr => by
  cases hr with | nn h' => exact h _ _ _ hh h'

theorem Ent.isl {os : List (Option Ob)} {es n : Nat} {f g : Nat → Nat → AV} (h : ∀ i j, i < n → j < es → f i j = g i j) : Ent os (.isl es n f) (.isl es n g) := fun _ _ _ _ hr => by
  cases hr with
  | isl vals he hcap hb hc ho hr hcl => exact .isl vals he hcap hb hc ho (fun i j hi hj => by rw [← h i j hi hj]; exact hr i j hi hj) (fun i j hi hj => by rw [← h i j hi hj]; exact hcl i j hi hj)
  | isl0 h' => exact .isl0 h'

theorem Ent.islN {os : List (Option Ob)} {es n n' : Nat} {f g : Nat → Nat → AV} (hn : n = n') (h : ∀ i j, i < n → j < es → f i j = g i j) : Ent os (.isl es n f) (.isl es n' g) := by subst hn; exact Ent.isl h

theorem ObEnt.refl {os : List (Option Ob)} (o : Ob) : ObEnt os o o := ⟨rfl, rfl, rfl, fun _ _ _ _ => Ent.refl _⟩
theorem ObsEnt.refl {os : List (Option Ob)} : ∀ l : List (Option Ob), ObsEnt os l l
  | [] => trivial
  | none :: l => ObsEnt.refl l
  | some o :: l => ⟨.refl o, ObsEnt.refl l⟩

theorem EntL.refl {os : List (Option Ob)} : ∀ l : List AV, EntL os l l
  | [] => trivial
  | a :: l => ⟨Ent.refl a, EntL.refl l⟩

theorem Ent.atL {os : List (Option Ob)} {l l' : List AV} (h : EntL os l l') (j : Nat) : Ent os (atL l j) (atL l' j) := by
  obtain ⟨h1, h2⟩ := h.spec
  unfold Am.atL
  rw [List.getD_eq_getElem?_getD, List.getD_eq_getElem?_getD]
  by_cases hj : j < l.length
  · have e1 : l[j]? = some l[j] := by simp [hj]
    have e2 : l'[j]? = some (l'[j]'(by omega)) := by rw [List.getElem?_eq_getElem]
    rw [e1, e2]
    exact h2 j _ _ e1 e2
  · rw [List.getElem?_eq_none (by omega), List.getElem?_eq_none (by omega)]
    exact Ent.refl _

theorem ObEnt.row {os : List (Option Ob)} {es : Nat} {mu : Bool} {l l' : List AV} (h : EntL os l l') : ObEnt os ⟨es, 1, mu, .lst [l]⟩ ⟨es, 1, mu, .lst [l']⟩ := ⟨rfl, rfl, rfl, fun i j hi _ => by
  have hi : i < 1 := hi
  obtain rfl : i = 0 := by omega
  exact Ent.atL h j⟩
theorem ObEnt.junk {os : List (Option Ob)} {es n : Nat} {mu : Bool} {f : Rep} : ObEnt os ⟨es, n, mu, f⟩ ⟨es, n, mu, .fn fun _ _ => .junk⟩ := ⟨rfl, rfl, rfl, fun _ _ _ _ => Ent.junk _⟩

theorem ObEnt.zero {os : List (Option Ob)} {es : Nat} {mu : Bool} {f g : Rep} : ObEnt os ⟨es, 0, mu, f⟩ ⟨es, 0, mu, g⟩ := ⟨rfl, rfl, rfl, fun i _ hi _ => by have hi : i < 0 := hi; omega⟩

theorem atL_map_range {es j : Nat} {g : Nat → AV} (hj : j < es) : Am.atL ((List.range es).map g) j = g j := by
  unfold Am.atL
  rw [List.getD_eq_getElem?_getD, List.getElem?_map, List.getElem?_range hj]
  rfl

theorem ObEnt.len {os : List (Option Ob)} {es n n' : Nat} {mu : Bool} {f : Rep} (h : n = n') : ObEnt os ⟨es, n, mu, f⟩ ⟨es, n', mu, f⟩ := by subst h; exact .refl _

theorem ObEnt.push {os : List (Option Ob)} {es x x' : Nat} {mu : Bool} {k : IntKind} {f : Nat → Nat → Int} {l : List AV} (h : l = (List.range es).map (fun j => .int k (f x j))) (hx : x' = x + 1) :
    ObEnt os ⟨es, x + 1, mu, .fn fun i j => .int k (bif Nat.blt i x then f i j else intOfAV (Am.atL l j))⟩ ⟨es, x', mu, .fn fun i j => .int k (f i j)⟩ := by
  subst hx
  refine ⟨rfl, rfl, rfl, fun i j hi hj => Ent.of_eq ?_⟩
  have hi : i < x + 1 := hi
  have hj : j < es := hj
  show AV.int k _ = AV.int k _
  cases hb : Nat.blt i x with
  | true => rfl
  | false =>
    have : i = x := by
      have : ¬ i < x := fun hlt => by rw [← Nat.blt_eq, hb] at hlt; cases hlt
      omega
    subst this
    rw [h, atL_map_range hj]
    rfl

theorem ObEnt.cat {os : List (Option Ob)} {es n m n' : Nat} {mu : Bool} {f g h : Rep} (hn : n' = n + m) (h1 : ∀ i j, i < n → j < es → Ent os (f i j) (h i j)) (h2 : ∀ i j, i < m → j < es → Ent os (g i j) (h (n + i) j)) :
    ObEnt os ⟨es, n + m, mu, .cat n f g⟩ ⟨es, n', mu, h⟩ := by
  subst hn
  refine ⟨rfl, rfl, rfl, fun i j hi hj => ?_⟩
  have hi : i < n + m := hi
  show Ent os (mixA (Nat.blt i n) (f.at i j) (g.at (i - n) j)) (h i j)
  cases hb : Nat.blt i n with
  | true => rw [mixA_tt]; exact h1 i j (by simpa [Nat.blt_eq] using hb) hj
  | false =>
    rw [mixA_ff]
    have hge : n ≤ i := Nat.le_of_not_lt fun hlt => by rw [← Nat.blt_eq, hb] at hlt; cases hlt
    have := h2 (i - n) j (by omega) hj
    rwa [show n + (i - n) = i by omega] at this

theorem ObEnt.put {os : List (Option Ob)} {es n k : Nat} {mu : Bool} {x : List AV} {f h : Rep} (h1 : ∀ j, k < n → j < es → Ent os (Am.atL x j) (h k j)) (h2 : ∀ i j, i < n → i ≠ k → j < es → Ent os (f i j) (h i j)) :
    ObEnt os ⟨es, n, mu, .put k x f⟩ ⟨es, n, mu, h⟩ := by
  refine ⟨rfl, rfl, rfl, fun i j hi hj => ?_⟩
  have hi : i < n := hi
  show Ent os (mixA (Nat.beq i k) (Am.atL x j) (f.at i j)) (h i j)
  cases hb : Nat.beq i k with
  | true =>
    rw [mixA_tt]
    have := Nat.eq_of_beq_eq_true hb
    subst this
    exact h1 j hi hj
  | false =>
    rw [mixA_ff]
    exact h2 i j hi (fun e => by subst e; rw [Nat.beq_refl] at hb; cases hb) hj

theorem ObEnt.catRow {os : List (Option Ob)} {es n n' : Nat} {mu : Bool} {c c' : Nat → List AV} {x : List AV} (hn : n' = n + 1) (hc : ∀ i, i < n → EntL os (c i) (c' i)) (hx : EntL os x (c' n)) :
    ObEnt os ⟨es, n + 1, mu, .cat n (.row c) (.lst [x])⟩ ⟨es, n', mu, .row c'⟩ :=
  ObEnt.cat hn (fun i j hi _ => Ent.atL (hc i hi) j) (fun i j hi _ => by
    obtain rfl : i = 0 := by omega
    exact Ent.atL hx j)
theorem ObEnt.pushRow {os : List (Option Ob)} {es n n' : Nat} {mu : Bool} {c : Nat → List AV} (hn : n' = n + 1) : ObEnt os ⟨es, n + 1, mu, .cat n (.row c) (.lst [c n])⟩ ⟨es, n', mu, .row c⟩ :=
  ObEnt.catRow hn (fun _ _ => EntL.refl _) (EntL.refl _)

def ilF (k : IntKind) (l : List Int) : Nat → Nat → AV := fun i _ => .int k (l.getD i 0)
abbrev il (k : IntKind) (l : List Int) : AV := .isl 1 l.length (ilF k l)
abbrev ilO (k : IntKind) (l : List Int) : Option Ob := some ⟨1, l.length, true, .fn (ilF k l)⟩

theorem Ent.nsl {os : List (Option Ob)} {es : Nat} {f : Nat → Nat → AV} : Ent os .nsl (.isl es 0 f) := fun _ _ _ _ hr => by
  cases hr; exact .isl0 (fun _ => rfl)

theorem Ent.two {os : List (Option Ob)} {es : Nat} {x y : List AV} {g : Nat → List AV} (h0 : x = g 0) (h1 : y = g 1) : Ent os (.isl es 2 fun r k => Am.atL (List.getD [x, y] r []) k) (.isl es 2 fun i j => Am.atL (g i) j) := by
  refine Ent.isl fun i j hi _ => ?_
  match i, hi with
  | 0, _ => rw [← h0]; rfl
  | 1, _ => rw [← h1]; rfl

theorem Ent.agg {os : List (Option Ob)} {l l' : List AV} (h : EntL os l l') : Ent os (.agg l) (.agg l') := fun _ _ _ hh hr => by
  obtain ⟨h1, h2⟩ := h.spec
  obtain ⟨vs, rfl, hl, hr⟩ := rel_agg_inv hr
  refine .agg (by rw [← h1]; exact hl) fun j u x hu hx => ?_
  have hj : j < l.length := by rw [h1]; exact (List.getElem?_eq_some_iff.1 hu).1
  exact h2 j l[j] u (by simp [hj]) hu _ _ _ hh (hr j _ _ (by simp [hj]) hx)

theorem Ent.tup {os : List (Option Ob)} {l l' : List AV} (h : EntL os l l') : Ent os (.tup l) (.tup l') := fun _ _ _ hh hr => by
  obtain ⟨h1, h2⟩ := h.spec
  obtain ⟨vs, rfl, hl, hr⟩ := rel_tup_inv hr
  refine .tup (by rw [← h1]; exact hl) fun j u x hu hx => ?_
  have hj : j < l.length := by rw [h1]; exact (List.getElem?_eq_some_iff.1 hu).1
  exact h2 j l[j] u (by simp [hj]) hu _ _ _ hh (hr j _ _ (by simp [hj]) hx)

section
variable {P : Program} {gl : Globs} {f : FuncId}

theorem Gives.nilSplit {obs : List Ob} {r : AV} {obs' : List (Option Ob)} (pre post : List AV) (es n : Nat) (g : Nat → Nat → AV) (h1 : n = 0 → Gives P gl f obs (pre ++ .nsl :: post) r obs')
    (h2 : Gives P gl f obs (pre ++ .nn (.isl es n g) :: post) r obs') : Gives P gl f obs (pre ++ .isl es n g :: post) r obs' := by
  refine ⟨h2.1, fun β w vs hF hgiv hgl hargs => ?_⟩
  have hx : ∀ (a b : AV), (∀ v, vs[pre.length]? = some v → Rel β w b v) → Rels β w (pre ++ a :: post) vs → Rels β w (pre ++ b :: post) vs := fun a b hb hr => by
    refine ⟨by have := hr.len; simpa using this, fun j u x hu hxx => ?_⟩
    rcases Nat.lt_trichotomy j pre.length with h | h | h
    · refine hr.rel j u x ?_ hxx
      rw [List.getElem?_append_left h] at hu ⊢
      exact hu
    · subst h
      simp at hu
      subst hu
      exact hb x hxx
    · refine hr.rel j u x ?_ hxx
      rw [List.getElem?_append_right (by omega)] at hu ⊢
      obtain ⟨q, hq⟩ : ∃ q, j - pre.length = q + 1 := ⟨j - pre.length - 1, by omega⟩
      rw [hq] at hu ⊢
      simpa using hu
  obtain ⟨v, hv, hr⟩ := hargs.at (j := pre.length) (u := .isl es n g) (by simp)
  obtain ⟨a, cap, rfl, hcap, hnil, _⟩ := rel_isl_inv hr
  cases a with
  | none =>
    have hc := hnil rfl
    subst hc
    have hn : n = 0 := by omega
    subst hn
    exact (h1 rfl).2 β w vs hF hgiv hgl (hx _ _ (fun v' hv' => by rw [hv] at hv'; cases hv'; exact .nsl) hargs)
  | some ad => exact h2.2 β w vs hF hgiv hgl (hx _ _ (fun v' hv' => by rw [hv] at hv'; cases hv'; exact .nn hr) hargs)

theorem Gives.nil {obs : List Ob} {args : List AV} {obs' : List (Option Ob)} (h : Gives P gl f obs args .nsl obs') (es : Nat) (g : Rep) :
    Gives P gl f obs args (.osl obs'.length es 0 0) (obs' ++ [some ⟨es, 0, true, g⟩]) := by
  refine ⟨h.1, fun β w vs hF hgiv hgl hargs => (h.2 β w vs hF hgiv hgl hargs).mono fun e w' hh => ?_⟩
  obtain ⟨v, β', he, hk, hA, hr⟩ := hh
  have hn := hA.none obs'.length (Nat.le_refl _)
  let β2 : Book := setB β' [(obs'.length, .empty)]
  have at0 : β2.m obs'.length = some .empty := setB_at (by rw [look_one, if_pos rfl])
  have old : ∀ k, k ≠ obs'.length → β2.m k = β'.m k := fun k hk => setB_old (by rw [look_one, if_neg (fun e => hk e.symm)])
  have lv : ∀ k b n mu, β2.m k = some (.lives b n mu) → β'.m k = some (.lives b n mu) := fun k b n mu hb => by
    by_cases e : k = obs'.length
    · subst e; rw [at0] at hb; cases hb
    · rw [old k e] at hb; exact hb
  have kk : Keeps β' w' β2 w' := ⟨fun id o ho => ⟨o, by
      rw [old id (fun e => by subst e; rw [hn] at ho; cases ho)]; exact ho, o.later_refl⟩, fun _ _ _ => rfl, fun b _ hf => ⟨hf.1, fun id n h => hf.2 id n (lv _ _ _ _ h)⟩, fun _ _ _ h => h⟩
  cases hr
  refine ⟨_, β2, he, hk, ⟨hA.F, fun k ob hkk => ?_, fun k hkk => ?_, fun i j b n n' mu mu' h1 h2 => hA.inj i j b n n' mu mu' (lv _ _ _ _ h1) (lv _ _ _ _ h2), fun k b n mu hb => hA.live k b n mu (lv _ _ _ _ hb), fun k o ho => ?_⟩, .osl0 (by rw [at0]; simp)⟩
  · by_cases e : k = obs'.length
    · subst e
      simp at hkk
      subst hkk
      exact .inr ⟨at0, rfl⟩
    · have hkk' : obs'[k]? = some (some ob) := by
        rcases Nat.lt_or_ge k obs'.length with h' | h'
        · rw [List.getElem?_append_left h'] at hkk; exact hkk
        · rw [List.getElem?_eq_none (by simp; omega)] at hkk; cases hkk
      rcases hA.holds k ob hkk' with ⟨b, g1, g2⟩ | ⟨g1, g2⟩
      · exact .inl ⟨b, by rw [old k e]; exact g1, g2.keep kk rfl⟩
      · exact .inr ⟨by rw [old k e]; exact g1, g2⟩
  · simp at hkk
    rw [old k (by omega)]
    exact hA.none k (by omega)
  · obtain ⟨o', g1, g2⟩ := hA.later k o ho
    exact ⟨o', by rw [old k (fun e => by subst e; rw [hn] at g1; cases g1)]; exact g1, g2⟩

theorem Gives.ent {obs : List Ob} {args : List AV} {r r' : AV} {obs' obs2 : List (Option Ob)} (h : Gives P gl f obs args r obs') (hr : Ent obs' r r') (ho : ObsEnt obs' obs' obs2) : Gives P gl f obs args r' obs2 := by
  refine ⟨h.1, fun β w vs hF hgiv hgl hargs => (h.2 β w vs hF hgiv hgl hargs).mono fun e w' hh => ?_⟩
  obtain ⟨v, β', he, hk, hA, hv⟩ := hh
  obtain ⟨hl, hs⟩ := ho.spec
  have hHas : Has obs' β' := fun k o hk => by rcases hA.holds k o hk with ⟨b, g, _⟩ | ⟨g, _⟩ <;> (rw [g]; simp)
  refine ⟨v, β', he, hk, ⟨hA.F, fun k ob hkk => ?_, fun k hkk => hA.none k (by omega), hA.inj, hA.live, hA.later⟩, hr _ _ _ hHas hv⟩
  obtain ⟨o1, g1, e1, e2, e3, e4⟩ := hs k ob hkk
  rcases hA.holds k o1 g1 with ⟨b, k1, cs, el, k2, k3, k4⟩ | ⟨k1, k2⟩
  · refine .inl ⟨b, by rw [← e2, ← e3]; exact k1, cs, el, k2, by rw [← e1, ← e2]; exact k3, fun i j hi hj => ?_⟩
    rw [← e2] at hi
    rw [← e1] at hj ⊢
    obtain ⟨vv, j1, j2, j3⟩ := k4 i j hi hj
    exact ⟨vv, j1, e4 i j hi hj _ _ _ hHas j2, j3⟩
  · exact .inr ⟨k1, by rw [← e2]; exact k2⟩

theorem Gives.via {obs : List Ob} {args args' : List AV} {r : AV} {obs' : List (Option Ob)} (h : Gives P gl f obs args' r obs') (he : EntL (obs.map some) args args') : Gives P gl f obs args r obs' := by
  refine ⟨h.1, fun β w vs hF hgiv hgl hargs => h.2 β w vs hF hgiv hgl ?_⟩
  obtain ⟨h1, h2⟩ := he.spec
  have hHas : Has (obs.map some) β := fun k o hk => by
    rw [List.getElem?_map] at hk
    cases ho : obs[k]? with
    | none => simp [ho] at hk
    | some ob => rcases hgiv.holds k ob ho with ⟨b, g, _⟩ | ⟨g, _⟩ <;> (rw [g]; simp)
  refine ⟨by rw [← h1]; exact hargs.len, fun j u x hu hx => ?_⟩
  have hj : j < args.length := by rw [h1]; exact (List.getElem?_eq_some_iff.1 hu).1
  exact h2 j args[j] u (by simp [hj]) hu _ _ _ hHas (hargs.rel j _ _ (by simp [hj]) hx)

theorem Pure.via {args args' : List AV} {r : AV} (h : Pure P gl f args' r) (he : EntL [] args args') : Pure P gl f args r := Gives.via h he

theorem Ent.rows {os : List (Option Ob)} {es n : Nat} {f g : Nat → Nat → AV} (h : ∀ i, i < n → (List.range es).map (f i) = (List.range es).map (g i)) : Ent os (.isl es n f) (.isl es n g) :=
  Ent.isl fun i j hi hj => by
    have := congrArg (fun l => l[j]?) (h i hi)
    simpa [hj] using this

theorem Pure.ent {args : List AV} {r r' : AV} (h : Pure P gl f args r) (hr : Ent [] r r') : Pure P gl f args r' := Gives.ent h hr trivial

end
end Go.Am

namespace Go.Sp
open Go Go.Am

theorem wI {n : Int} (h : -9223372036854775808 ≤ n) (h' : n ≤ 9223372036854775807) : IntKind.wrap .i64 n = n := by
  simp only [IntKind.wrap, IntKind.bits, IntKind.signed]
  simp only [Bool.true_and, decide_eq_true_eq, ge_iff_le]
  split <;> omega

def nodeB (d l i : Int) : Bool := decide (0 ≤ d ∧ d ≤ 5 ∧ 0 ≤ l ∧ l ≤ d ∧ 0 ≤ i ∧ i < 2 ^ l.toNat)
def spanA (d l i : Int) : Int := if nodeB d l i then i * 2 ^ (d - l).toNat else 0
def spanZ (d l i : Int) : Int := if nodeB d l i then (i + 1) * 2 ^ (d - l).toNat else 0
def spanE (d l i : Int) : Int := if d < 0 ∨ 5 < d then 1 else if nodeB d l i then 0 else 2
theorem node_m (d l i : Int) : (decide (d ≥ 0) && decide (d ≤ 5) && decide (l ≥ 0) && decide (l ≤ d) && decide (i ≥ 0) && decide (i < IntKind.wrap IntKind.i64 (1 * 2 ^ min (Int.toNat l) 64))) = nodeB d l i := by
  by_cases hl : 0 ≤ l ∧ l ≤ 5
  · have : IntKind.wrap IntKind.i64 (1 * 2 ^ min (Int.toNat l) 64) = 2 ^ l.toNat := by
      rcases (by omega : l = 0 ∨ l = 1 ∨ l = 2 ∨ l = 3 ∨ l = 4 ∨ l = 5) with rfl | rfl | rfl | rfl | rfl | rfl <;> decide
    rw [this]
    simp [nodeB, Bool.and_assoc]
  · rw [Bool.eq_iff_iff]
    simp [nodeB]
    constructor
    · intro h; omega
    · intro h; omega

theorem node_t {d l i : Int} (h : nodeB d l i = true) : 0 ≤ d ∧ d ≤ 5 ∧ 0 ≤ l ∧ l ≤ d ∧ 0 ≤ i ∧ i < 2 ^ l.toNat := by simpa [nodeB] using h

theorem p2 {k : Int} (h0 : 0 ≤ k) (h1 : k ≤ 5) : IntKind.wrap IntKind.i64 (1 * 2 ^ min (Int.toNat k) 64) = 2 ^ k.toNat ∧ min (Int.toNat k) 64 = k.toNat ∧ 1 ≤ (2 : Int) ^ k.toNat ∧ (2 : Int) ^ k.toNat ≤ 32 := by
  rcases (by omega : k = 0 ∨ k = 1 ∨ k = 2 ∨ k = 3 ∨ k = 4 ∨ k = 5) with rfl | rfl | rfl | rfl | rfl | rfl <;> decide

theorem bnd {i a b : Int} (h0 : 0 ≤ i) (h1 : i < a) (h2 : a ≤ 32) (h3 : 1 ≤ b) (h4 : b ≤ 32) : 0 ≤ i * b ∧ i * b ≤ 1024 ∧ 0 ≤ (i + 1) * b ∧ (i + 1) * b ≤ 1056 := by
  have e1 : i * b ≤ 32 * 32 := Int.mul_le_mul (by omega) h4 (by omega) (by omega)
  have e2 := Int.mul_nonneg h0 (show 0 ≤ b by omega)
  have e3 : (i + 1) * b = i * b + b := by rw [Int.add_mul, Int.one_mul]
  omega

theorem span_3 {d l i : Int} (hn : (!nodeB d l i) = false) : IntKind.wrap .i64 (i * IntKind.wrap .i64 (1 * 2 ^ min (Int.toNat (IntKind.wrap .i64 (d - l))) 64)) = spanA d l i ∧
    IntKind.wrap .i64 (IntKind.wrap .i64 (i + 1) * IntKind.wrap .i64 (1 * 2 ^ min (Int.toNat (IntKind.wrap .i64 (d - l))) 64)) = spanZ d l i ∧ spanE d l i = 0 ∧ 0 ≤ IntKind.wrap .i64 (d - l) := by
  have hn : nodeB d l i = true := by simpa using hn
  obtain ⟨h1, h2, h3, h4, h5, h6⟩ := node_t hn
  have e : IntKind.wrap .i64 (d - l) = d - l := wI (by omega) (by omega)
  obtain ⟨q1, _, q2, q3⟩ := p2 (k := d - l) (by omega) (by omega)
  obtain ⟨_, _, r2, r3⟩ := p2 (k := l) (by omega) (by omega)
  obtain ⟨b1, b2, b3, b4⟩ := bnd h5 h6 r3 q2 q3
  rw [e, q1]
  rw [wI (n := i + 1) (by omega) (by omega), wI (by omega) (by omega), wI (by omega) (by omega)]
  simp [spanA, spanZ, spanE, hn]
  omega


structure Spend where
  bank : Int
  epoch : Int
  denom : Int
  depth : Int
  a : Int
  root : Nat → Int
  z : Int
  sa : Int
  sb : Int
  r : Int
  level : Int
  index : Int
  payee : Nat → Int
  time : Int
  number : Int
  nl : Nat
  lf : Nat → Nat → Int
  pidx : Int
  np : Nat
  pf : Nat → Nat → Int

abbrev lvs (n : Nat) (f : Nat → Nat → Int) : AV := .isl 3 n (fun i j => .int .i64 (f i j))
abbrev hss (n : Nat) (f : Nat → Nat → Int) : AV := .isl 32 n (fun i j => .int .u8 (f i j))

def Spend.cw (s : Spend) (x y : AV) : List AV := [.int .i64 s.bank, .int .i64 s.epoch, .int .i64 s.denom, .int .i64 s.depth, .int .i64 s.a, .int .u8 (s.root 0), .int .u8 (s.root 1), .int .u8 (s.root 2), .int .u8 (s.root 3), .int .u8 (s.root 4), .int .u8 (s.root 5), .int .u8 (s.root 6), .int .u8 (s.root 7), .int .u8 (s.root 8), .int .u8 (s.root 9), .int .u8 (s.root 10), .int .u8 (s.root 11), .int .u8 (s.root 12), .int .u8 (s.root 13), .int .u8 (s.root 14), .int .u8 (s.root 15), .int .u8 (s.root 16), .int .u8 (s.root 17), .int .u8 (s.root 18), .int .u8 (s.root 19), .int .u8 (s.root 20), .int .u8 (s.root 21), .int .u8 (s.root 22), .int .u8 (s.root 23), .int .u8 (s.root 24), .int .u8 (s.root 25), .int .u8 (s.root 26), .int .u8 (s.root 27), .int .u8 (s.root 28), .int .u8 (s.root 29), .int .u8 (s.root 30), .int .u8 (s.root 31), .int .i64 s.z, .int .i64 s.sa, .int .i64 s.sb, .int .i64 s.r, .int .i64 s.level, .int .i64 s.index, .int .u8 (s.payee 0), .int .u8 (s.payee 1), .int .u8 (s.payee 2), .int .u8 (s.payee 3), .int .u8 (s.payee 4), .int .u8 (s.payee 5), .int .u8 (s.payee 6), .int .u8 (s.payee 7), .int .u8 (s.payee 8), .int .u8 (s.payee 9), .int .u8 (s.payee 10), .int .u8 (s.payee 11), .int .u8 (s.payee 12), .int .u8 (s.payee 13), .int .u8 (s.payee 14), .int .u8 (s.payee 15), .int .u8 (s.payee 16), .int .u8 (s.payee 17), .int .u8 (s.payee 18), .int .u8 (s.payee 19), .int .u8 (s.payee 20), .int .u8 (s.payee 21), .int .u8 (s.payee 22), .int .u8 (s.payee 23), .int .u8 (s.payee 24), .int .u8 (s.payee 25), .int .u8 (s.payee 26), .int .u8 (s.payee 27), .int .u8 (s.payee 28), .int .u8 (s.payee 29), .int .u8 (s.payee 30), .int .u8 (s.payee 31), .int .i64 s.time, .int .i64 s.number, x, .int .i64 s.pidx, y]
def Spend.cells (s : Spend) : List AV := s.cw (lvs s.nl s.lf) (hss s.np s.pf)
def Spend.av (s : Spend) : AV := .agg s.cells

def okS (s : Spend) : Bool := !(spanE s.depth s.level s.index != 0 || (s.nl : Int) != IntKind.wrap .i64 (spanZ s.depth s.level s.index - spanA s.depth s.level s.index) || decide (s.time < 0) || decide (s.time > 1099511627776) || decide (s.number < 0) || decide (s.number > 1073741824))

def firstI (p : Nat → Bool) : Nat → Nat → Int
  | 0, _ => -1
  | k + 1, i => if p i then i else firstI p k (i + 1)

theorem firstI_step {p : Nat → Bool} {n i : Nat} (h : i < n) : firstI p (n - i) i = if p i then (i : Int) else firstI p (n - (i + 1)) (i + 1) := by
  rw [show n - i = (n - (i + 1)) + 1 by omega]; rfl
theorem firstI_end {p : Nat → Bool} {n i : Nat} (h : n ≤ i) : firstI p (n - i) i = -1 := by
  rw [show n - i = 0 by omega]; rfl
theorem firstI_neg {p : Nat → Bool} : ∀ k i, (decide (firstI p k i ≥ 0)) = (List.range k).any (fun q => p (i + q))
  | 0, i => rfl
  | k + 1, i => by
    have ih := firstI_neg (p := p) k (i + 1)
    have e : (List.range (k + 1)).any (fun q => p (i + q)) = (p i || (List.range k).any (fun q => p (i + 1 + q))) := by
      rw [List.range_succ_eq_map, List.any_cons, List.any_map]
      show (p i || (List.range k).any (fun q => p (i + (q + 1)))) = _
      have : (fun q => p (i + (q + 1))) = (fun q => p (i + 1 + q)) := funext fun q => congrArg p (by omega)
      rw [this]
    rw [e, ← ih]
    by_cases h : p i = true
    · rw [firstI, if_pos h, h]; simp
    · have hf : p i = false := by simpa using h
      rw [firstI, if_neg h, hf]; simp

theorem first_hit {p : Nat → Bool} {A : Int} {n i : Nat} (hx : A = firstI p (n - i) i) (h : i < n) (hp : p i = true) : (i : Int) = A := by rw [hx, firstI_step h, if_pos hp]
theorem first_next {p : Nat → Bool} {A : Int} {n i : Nat} (hx : A = firstI p (n - i) i) (h : i < n) (hp : p i = false) : A = firstI p (n - (i + 1)) (i + 1) := by rw [hx, firstI_step h, if_neg (by simp [hp])]
theorem first_miss {p : Nat → Bool} {A : Int} {n i : Nat} (hx : A = firstI p (n - i) i) (h : n ≤ i) : -1 = A := by rw [hx, firstI_end h]

theorem inc_ent {os : List (Option Ob)} {i : Nat} (h : i < 9223372036854775807) : Ent os (.int .i64 (IntKind.wrap .i64 (Nat.cast i + 1))) (.int .i64 (Nat.cast (i + 1))) := Ent.of_eq (by rw [wI (by omega) (by omega)]; simp)

theorem wU_nonneg (x : Int) : 0 ≤ IntKind.wrap .u64 x := by
  simp only [IntKind.wrap, IntKind.bits, IntKind.signed]
  simp only [Bool.false_and]
  simp
  omega

def placeB (d l i : Int) : Bool := decide (l ≥ 0) && decide (l ≤ d) && decide (i ≥ 0) && decide (i < IntKind.wrap IntKind.i64 (1 * 2 ^ min (Int.toNat l) 64))
theorem place_node (d l i : Int) : (decide (d ≥ 0) && decide (d ≤ 5) && placeB d l i) = nodeB d l i := by
  rw [← node_m]; simp only [placeB, Bool.and_assoc]
def ctxB (t n : Int) : Bool := decide (t ≥ 0) && decide (t ≤ 1099511627776) && decide (n ≥ 0) && decide (n ≤ 1073741824)

theorem rspan_m {d l i : Int} (hn : nodeB d l i = true) : IntKind.wrap .i64 (i * IntKind.wrap .i64 (1 * 2 ^ min (Int.toNat (IntKind.wrap .u64 (IntKind.wrap .i64 (d - l)))) 64)) = spanA d l i ∧
    IntKind.wrap .i64 (IntKind.wrap .i64 (i + 1) * IntKind.wrap .i64 (1 * 2 ^ min (Int.toNat (IntKind.wrap .u64 (IntKind.wrap .i64 (d - l)))) 64)) = spanZ d l i := by
  obtain ⟨h1, h2, h3, h4, h5, h6⟩ := node_t hn
  have e : IntKind.wrap .i64 (d - l) = d - l := wI (by omega) (by omega)
  have e2 : IntKind.wrap .u64 (d - l) = d - l := by
    simp only [IntKind.wrap, IntKind.bits, IntKind.signed]
    simp only [Bool.false_and]
    simp
    omega
  have := span_3 (d := d) (l := l) (i := i) (by simp [hn])
  rw [e] at this
  rw [e, e2]
  exact ⟨this.1, this.2.1⟩

theorem cw_ent {os : List (Option Ob)} (s : Spend) {x x' y y' : AV} (hx : Ent os x x') (hy : Ent os y y') : EntL os (s.cw x y) (s.cw x' y') := by
  unfold Spend.cw
  repeat' (first | exact ⟨hx, ⟨Ent.refl _, ⟨hy, trivial⟩⟩⟩ | refine ⟨Ent.refl _, ?_⟩)

theorem both {a b : Bool} (h : (!(a && b)) = false) : (a && b) = true := by simpa using congrArg not h

def Spend.zero : Spend := ⟨0, 0, 0, 0, 0, fun _ => 0, 0, 0, 0, 0, 0, 0, fun _ => 0, 0, 0, 0, fun _ _ => 0, 0, 0, fun _ _ => 0⟩

def altE (s : Spend) (k b : Int) : Int := if okS s then (if k < 0 ∨ 11 < k ∨ b < 1 ∨ 1000 < b then 2 else if (k = 10 ∧ s.nl = 1) ∨ (k = 11 ∧ s.np = 0) then 7 else 0) else 1
def x1 (n : Int) : Int := IntKind.wrap .u8 (BitVec.toNat (BitVec.ofInt 8 n ^^^ BitVec.ofInt 8 1))
theorem zero_ent {os : List (Option Ob)} : EntL os (Spend.zero.cw .nsl .nsl) Spend.zero.cells := cw_ent _ Ent.nsl Ent.nsl

theorem atL_app {l l' : List AV} {n t : Nat} (h : l.length = n) : atL (l ++ l') (n + t) = atL l' t := by
  subst h
  unfold atL
  rw [List.getD_eq_getElem?_getD, List.getD_eq_getElem?_getD, List.getElem?_append_right (by omega), Nat.add_sub_cancel_left]
theorem atL_left {l l' : List AV} {t : Nat} (h : t < l.length) : atL (l ++ l') t = atL l t := by
  unfold atL
  rw [List.getD_eq_getElem?_getD, List.getD_eq_getElem?_getD, List.getElem?_append_left h]

theorem root_at (s : Spend) (x y : AV) {t : Nat} (ht : t < 32) : intOfAV (atL (s.cw x y) (5 + t)) = s.root t := by
  have e : s.cw x y = [.int .i64 s.bank, .int .i64 s.epoch, .int .i64 s.denom, .int .i64 s.depth, .int .i64 s.a] ++ ((List.range 32).map (fun j => .int .u8 (s.root j)) ++ (s.cw x y).drop 37) := rfl
  rw [e, atL_app (n := 5) rfl, atL_left (by simpa using ht), atL_map_range ht]
  rfl
structure AltOk (s : Spend) (k b : Int) : Prop where
  e : altE s k b = 0
  k0 : 0 ≤ k
  k1 : k ≤ 11
  b0 : 0 ≤ b
  nl : 0 < s.nl
  np : k = 11 → 0 < s.np

end Go.Sp

namespace Go.Sp
open Go Go.Am

theorem wu64m (n : Int) : IntKind.wrap .u64 n = n % 18446744073709551616 := by
  simp only [IntKind.wrap, IntKind.bits, IntKind.signed, Bool.false_and]
  simp
theorem wu32m (n : Int) : IntKind.wrap .u32 n = n % 4294967296 := by
  simp only [IntKind.wrap, IntKind.bits, IntKind.signed, Bool.false_and]
  simp
theorem wu8m (n : Int) : IntKind.wrap .u8 n = n % 256 := by
  simp only [IntKind.wrap, IntKind.bits, IntKind.signed, Bool.false_and]
  simp
theorem wu64 {n : Int} (h : 0 ≤ n) (h' : n < 18446744073709551616) : IntKind.wrap .u64 n = n := by rw [wu64m]; omega
theorem wu32 {n : Int} (h : 0 ≤ n) (h' : n < 4294967296) : IntKind.wrap .u32 n = n := by rw [wu32m]; omega
theorem wu8 {n : Int} (h : 0 ≤ n) (h' : n < 256) : IntKind.wrap .u8 n = n := by rw [wu8m]; omega

theorem bvN {w n : Nat} (h : n < 2 ^ w) : (BitVec.ofInt w (n : Int)).toNat = n := by
  simp only [BitVec.ofInt_natCast, BitVec.toNat_ofNat]
  exact Nat.mod_eq_of_lt h
theorem andN {w n m : Nat} (hn : n < 2 ^ w) (hm : m < 2 ^ w) : (BitVec.ofInt w (n : Int) &&& BitVec.ofInt w (m : Int)).toNat = n &&& m := by
  rw [BitVec.toNat_and, bvN hn, bvN hm]
theorem orN {w n m : Nat} (hn : n < 2 ^ w) (hm : m < 2 ^ w) : (BitVec.ofInt w (n : Int) ||| BitVec.ofInt w (m : Int)).toNat = n ||| m := by
  rw [BitVec.toNat_or, bvN hn, bvN hm]
theorem mask32 {x : Int} (h : 0 ≤ x) (h' : x < 18446744073709551616) : IntKind.wrap .u64 ((BitVec.ofInt 64 x &&& BitVec.ofInt 64 4294967295).toNat : Nat) = x % 4294967296 := by
  obtain ⟨n, rfl⟩ := Int.eq_ofNat_of_zero_le h
  have e : (BitVec.ofInt 64 (n : Int) &&& BitVec.ofInt 64 4294967295).toNat = n % 2 ^ 32 := by
    have := andN (w := 64) (n := n) (m := 4294967295) (by omega) (by decide)
    rw [show (4294967295 : Int) = ((4294967295 : Nat) : Int) from rfl, this, ← Nat.and_two_pow_sub_one_eq_mod]
  rw [e, wu64 (by omega) (by omega)]
  omega
theorem shr_eq {x : Int} {k : Nat} : Int.fdiv x (2 ^ k) = x / 2 ^ k := Int.fdiv_eq_ediv_of_nonneg _ (Int.le_of_lt (Int.pow_pos (by decide)))
theorem bit0 {x : Int} (h : 0 ≤ x) (h' : x < 18446744073709551616) : IntKind.wrap .u64 ((BitVec.ofInt 64 x &&& BitVec.ofInt 64 1).toNat : Nat) = x % 2 := by
  obtain ⟨n, rfl⟩ := Int.eq_ofNat_of_zero_le h
  have e : (BitVec.ofInt 64 (n : Int) &&& BitVec.ofInt 64 1).toNat = n % 2 ^ 1 := by
    have := andN (w := 64) (n := n) (m := 1) (by omega) (by decide)
    rw [show (1 : Int) = ((1 : Nat) : Int) from rfl, this, ← Nat.and_two_pow_sub_one_eq_mod]
  rw [e, wu64 (by omega) (by omega)]
  omega
theorem bit0i {x : Int} (h : 0 ≤ x) (h' : x < 9223372036854775808) : IntKind.wrap .i64 ((BitVec.ofInt 64 x &&& BitVec.ofInt 64 1).toNat : Nat) = x % 2 := by
  obtain ⟨n, rfl⟩ := Int.eq_ofNat_of_zero_le h
  have e : (BitVec.ofInt 64 (n : Int) &&& BitVec.ofInt 64 1).toNat = n % 2 ^ 1 := by
    have := andN (w := 64) (n := n) (m := 1) (by omega) (by decide)
    rw [show (1 : Int) = ((1 : Nat) : Int) from rfl, this, ← Nat.and_two_pow_sub_one_eq_mod]
  rw [e, wI (by omega) (by omega)]
  omega
theorem tmod_nn {a b : Int} (h : 0 ≤ a) : Int.tmod a b = a % b := Int.tmod_eq_emod_of_nonneg h
theorem tdiv_nn {a b : Int} (h : 0 ≤ a) : Int.tdiv a b = a / b := Int.tdiv_eq_ediv_of_nonneg h

theorem mul_bnd {a b : Int} (ha : 0 ≤ a) (hb : 0 ≤ b) (ha' : a < 4294967296) (hb' : b < 4294967296) : 0 ≤ a * b ∧ a * b ≤ 18446744065119617025 := by
  refine ⟨Int.mul_nonneg ha hb, ?_⟩
  have := Int.mul_le_mul (show a ≤ 4294967295 by omega) (show b ≤ 4294967295 by omega) hb (by omega)
  omega

theorem mul64_m {x y : Int} (hx : 0 ≤ x) (hx' : x < 18446744073709551616) (hy : 0 ≤ y) (hy' : y < 18446744073709551616) :
    x / 4294967296 * (y / 4294967296) + (x / 4294967296 * (y % 4294967296) + x % 4294967296 * (y % 4294967296) / 4294967296) / 4294967296 +
      ((x / 4294967296 * (y % 4294967296) + x % 4294967296 * (y % 4294967296) / 4294967296) % 4294967296 + x % 4294967296 * (y / 4294967296)) / 4294967296 = x * y / 18446744073709551616 := by
  have e : x * y = x / 4294967296 * (y / 4294967296) * 18446744073709551616 + (x / 4294967296 * (y % 4294967296) + x % 4294967296 * (y / 4294967296)) * 4294967296 + x % 4294967296 * (y % 4294967296) := by
    have h1 : x = x / 4294967296 * 4294967296 + x % 4294967296 := by omega
    have h2 : y = y / 4294967296 * 4294967296 + y % 4294967296 := by omega
    generalize x / 4294967296 = x1 at *
    generalize x % 4294967296 = x0 at *
    generalize y / 4294967296 = y1 at *
    generalize y % 4294967296 = y0 at *
    subst h1; subst h2
    grind
  rw [e]
  have b1 := mul_bnd (a := x / 4294967296) (b := y / 4294967296) (by omega) (by omega) (by omega) (by omega)
  have b2 := mul_bnd (a := x / 4294967296) (b := y % 4294967296) (by omega) (by omega) (by omega) (by omega)
  have b3 := mul_bnd (a := x % 4294967296) (b := y / 4294967296) (by omega) (by omega) (by omega) (by omega)
  have b4 := mul_bnd (a := x % 4294967296) (b := y % 4294967296) (by omega) (by omega) (by omega) (by omega)
  generalize x / 4294967296 * (y / 4294967296) = d at *
  generalize x / 4294967296 * (y % 4294967296) = b at *
  generalize x % 4294967296 * (y / 4294967296) = c at *
  generalize x % 4294967296 * (y % 4294967296) = a at *
  omega

theorem fdiv32 (x : Int) : Int.fdiv x (2 ^ 32) = x / 4294967296 := shr_eq
def lenI (x : Int) : Int := if x ≤ 0 then 0 else Nat.log2 x.toNat + 1

theorem lenI_char {x : Int} {n : Nat} (h1 : 2 ^ n ≤ x) (h2 : x < 2 ^ (n + 1)) : lenI x = n + 1 := by
  have hp : (0 : Int) < 2 ^ n := Int.pow_pos (by decide)
  obtain ⟨m, rfl⟩ := Int.eq_ofNat_of_zero_le (a := x) (by omega)
  unfold lenI
  rw [if_neg (by omega)]
  have hm : m ≠ 0 := by omega
  have : Nat.log2 m = n := by
    rw [Nat.log2_eq_iff hm]
    exact ⟨by exact_mod_cast h1, by exact_mod_cast h2⟩
  simp [this]
theorem lenI_pos {x : Int} (h : 0 < x) : ∃ n : Nat, lenI x = n + 1 ∧ 2 ^ n ≤ x ∧ x < 2 ^ (n + 1) := by
  obtain ⟨m, rfl⟩ := Int.eq_ofNat_of_zero_le (a := x) (by omega)
  have hm : m ≠ 0 := by omega
  refine ⟨Nat.log2 m, ?_, ?_, ?_⟩
  · unfold lenI; rw [if_neg (by omega)]; simp
  · exact_mod_cast Nat.log2_self_le hm
  · exact_mod_cast Nat.lt_log2_self
theorem len_step {x : Int} (k : Nat) (h : 2 ^ k ≤ x) : lenI x = k + lenI (x / 2 ^ k) := by
  have hp : (0 : Int) < 2 ^ k := Int.pow_pos (by decide)
  have h0 : 0 < x / 2 ^ k := (by have := (Int.le_ediv_iff_mul_le (a := 1) (b := x) hp).2 (by omega); omega)
  obtain ⟨n, h1, h2, h3⟩ := lenI_pos h0
  rw [h1, lenI_char (n := n + k)]
  · push_cast; omega
  · rw [Int.pow_add]
    exact (Int.le_ediv_iff_mul_le hp).1 h2
  · rw [show n + k + 1 = (n + 1) + k by omega, Int.pow_add]
    exact (Int.ediv_lt_iff_lt_mul hp).1 h3
def len8 : List UInt8 := [0, 1, 2, 2, 3, 3, 3, 3, 4, 4, 4, 4, 4, 4, 4, 4, 5, 5, 5, 5, 5, 5, 5, 5, 5, 5, 5, 5, 5, 5, 5, 5, 6, 6, 6, 6, 6, 6, 6, 6, 6, 6, 6, 6, 6, 6, 6, 6, 6, 6, 6, 6, 6, 6, 6, 6, 6, 6, 6, 6, 6, 6, 6, 6, 7, 7, 7, 7, 7, 7, 7, 7, 7, 7, 7, 7, 7, 7, 7, 7, 7, 7, 7, 7, 7, 7, 7, 7, 7, 7, 7, 7, 7, 7, 7, 7, 7, 7, 7, 7, 7, 7, 7, 7, 7, 7, 7, 7, 7, 7, 7, 7, 7, 7, 7, 7, 7, 7, 7, 7, 7, 7, 7, 7, 7, 7, 7, 7, 8, 8, 8, 8, 8, 8, 8, 8, 8, 8, 8, 8, 8, 8, 8, 8, 8, 8, 8, 8, 8, 8, 8, 8, 8, 8, 8, 8, 8, 8, 8, 8, 8, 8, 8, 8, 8, 8, 8, 8, 8, 8, 8, 8, 8, 8, 8, 8, 8, 8, 8, 8, 8, 8, 8, 8, 8, 8, 8, 8, 8, 8, 8, 8, 8, 8, 8, 8, 8, 8, 8, 8, 8, 8, 8, 8, 8, 8, 8, 8, 8, 8, 8, 8, 8, 8, 8, 8, 8, 8, 8, 8, 8, 8, 8, 8, 8, 8, 8, 8, 8, 8, 8, 8, 8, 8, 8, 8, 8, 8, 8, 8, 8, 8, 8, 8, 8, 8, 8, 8, 8, 8, 8, 8, 8, 8, 8, 8]
set_option maxRecDepth 100000 in
theorem len8_at : ∀ n : Fin 256, (((List.getD len8 n.val default).toNat : Nat) : Int) = lenI (n.val : Int) := by decide +kernel
theorem len_fin {c X : Int} (h : 0 ≤ X) (h' : X < 256) (hc : 0 ≤ c) (hc' : c ≤ 64) : IntKind.wrap .i64 (c + IntKind.wrap .i64 (((List.getD len8 (Int.toNat (IntKind.wrap .u8 X)) default).toNat : Nat) : Int)) = c + lenI X := by
  rw [wu8 h h']
  have e := len8_at ⟨X.toNat, by omega⟩
  simp only at e
  rw [e, Int.toNat_of_nonneg h]
  have : 0 ≤ lenI X ∧ lenI X ≤ 8 := by
    by_cases h0 : 0 < X
    · obtain ⟨n, h1, h2, h3⟩ := lenI_pos h0
      rw [h1]
      have : n < 8 := by
        have h4 : (2 : Int) ^ n < 2 ^ 8 := by omega
        have h5 : (2 : Nat) ^ n < 2 ^ 8 := by exact_mod_cast h4
        exact (Nat.pow_lt_pow_iff_right (by decide)).1 h5
      omega
    · have : X = 0 := by omega
      subst this
      exact ⟨by decide, by decide⟩
  rw [wI (n := lenI X) (by omega) (by omega), wI (by omega) (by omega)]
theorem shr32 (x : Int) : Int.fdiv x (2 ^ 32) = x / 2 ^ 32 := shr_eq
theorem shr16 (x : Int) : Int.fdiv x (2 ^ 16) = x / 2 ^ 16 := shr_eq
theorem shr8 (x : Int) : Int.fdiv x (2 ^ 8) = x / 2 ^ 8 := shr_eq

section
structure Est (y1 y0 un d q r : Int) : Prop where
  e : q * y1 + r = un
  le : (un * 4294967296 + d) / (y1 * 4294967296 + y0) ≤ q
  hi : q ≤ 4294967297
  r0 : 0 ≤ r

structure Dig (y1 y0 un d : Int) : Prop where
  a : 2147483648 ≤ y1
  b : y1 < 4294967296
  c : 0 ≤ y0
  c' : y0 < 4294967296
  u : 0 ≤ un
  u' : un < y1 * 4294967296 + y0
  d0 : 0 ≤ d
  d1 : d < 4294967296

variable {y1 y0 un d q r : Int}
theorem Dig.pos (h : Dig y1 y0 un d) : 0 < y1 * 4294967296 + y0 := by have := h.a; have := h.c; omega
theorem Dig.Q0 (h : Dig y1 y0 un d) : 0 ≤ (un * 4294967296 + d) / (y1 * 4294967296 + y0) := by
  have := h.u; have := h.d0
  exact Int.ediv_nonneg (by omega) (Int.le_of_lt h.pos)
theorem Dig.Q1 (h : Dig y1 y0 un d) : (un * 4294967296 + d) / (y1 * 4294967296 + y0) < 4294967296 := by
  have h1 := h.u'; have h2 := h.d1
  refine (Int.ediv_lt_iff_lt_mul h.pos).2 ?_
  omega
theorem Dig.init (h : Dig y1 y0 un d) : Est y1 y0 un d (un / y1) (un - un / y1 * y1) ∧ un - un / y1 * y1 < 4294967296 := by
  have hp : 0 < y1 := by have := h.a; omega
  have hb := h.b
  have e1 := Int.emod_add_mul_ediv un y1
  have e2 := Int.emod_nonneg un (show y1 ≠ 0 by omega)
  have e3 := Int.emod_lt_of_pos un hp
  have e4 : un / y1 * y1 = y1 * (un / y1) := Int.mul_comm _ _
  have hu := h.u; have hu' := h.u'; have hc := h.c'; have ha := h.a; have hd := h.d1; have hc0 := h.c
  have q0 : 0 ≤ un / y1 := Int.ediv_nonneg hu (by omega)
  refine ⟨⟨by omega, ?_, ?_, by omega⟩, by omega⟩
  · refine Int.lt_add_one_iff.1 ((Int.ediv_lt_iff_lt_mul h.pos).2 ?_)
    have k1 : (un / y1 + 1) * (y1 * 4294967296 + y0) = y1 * (un / y1) * 4294967296 + y1 * 4294967296 + (un / y1 + 1) * y0 := by grind
    have k2 : 0 ≤ (un / y1 + 1) * y0 := Int.mul_nonneg (by omega) hc0
    omega
  · refine Int.lt_add_one_iff.1 ((Int.ediv_lt_iff_lt_mul hp).2 ?_)
    omega
theorem Est.stop (h : Dig y1 y0 un d) (k : Est y1 y0 un d q r) (h2 : q * y0 ≤ 4294967296 * r + d) : q = (un * 4294967296 + d) / (y1 * 4294967296 + y0) := by
  have k1 := k.e
  have k2 := k.le
  have : q ≤ (un * 4294967296 + d) / (y1 * 4294967296 + y0) := by
    refine (Int.le_ediv_iff_mul_le h.pos).2 ?_
    have : q * (y1 * 4294967296 + y0) = q * y1 * 4294967296 + q * y0 := by grind
    omega
  omega
theorem Est.more (h : Dig y1 y0 un d) (k : Est y1 y0 un d q r) (h2 : 4294967296 ≤ q ∨ 4294967296 * r + d < q * y0) : (un * 4294967296 + d) / (y1 * 4294967296 + y0) ≤ q - 1 ∧ 1 ≤ q := by
  have q0 := h.Q0
  rcases h2 with h2 | h2
  · have := h.Q1; omega
  · have k1 := k.e
    have : (un * 4294967296 + d) / (y1 * 4294967296 + y0) < q := by
      refine (Int.ediv_lt_iff_lt_mul h.pos).2 ?_
      have : q * (y1 * 4294967296 + y0) = q * y1 * 4294967296 + q * y0 := by grind
      omega
    omega
theorem Est.next (h : Dig y1 y0 un d) (k : Est y1 y0 un d q r) (h2 : 4294967296 ≤ q ∨ 4294967296 * r + d < q * y0) : Est y1 y0 un d (q - 1) (r + y1) := by
  have k1 := k.e; have k2 := k.hi; have k3 := k.r0; have := h.a
  refine ⟨?_, (k.more h h2).1, by omega, by omega⟩
  have : (q - 1) * y1 = q * y1 - y1 := by grind
  omega
theorem Est.brk (h : Dig y1 y0 un d) (k : Est y1 y0 un d q r) (hr : 4294967296 ≤ r) (hq : q ≤ 4294967296) : q = (un * 4294967296 + d) / (y1 * 4294967296 + y0) := by
  refine k.stop h ?_
  have hd := h.d0; have hc := h.c'; have hc0 := h.c
  have q0 : 0 ≤ q := Int.le_trans h.Q0 k.le
  have := Int.mul_le_mul hq (show y0 ≤ 4294967295 by omega) hc0 (by omega)
  omega
theorem Dig.rem (h : Dig y1 y0 un d) (hq : q = (un * 4294967296 + d) / (y1 * 4294967296 + y0)) : (((un * 4294967296) % 18446744073709551616 + d) % 18446744073709551616 - (q * (y1 * 4294967296 + y0)) % 18446744073709551616) % 18446744073709551616 = (un * 4294967296 + d) % (y1 * 4294967296 + y0) := by
  have e1 := Int.emod_add_mul_ediv (un * 4294967296 + d) (y1 * 4294967296 + y0)
  have e2 := Int.emod_nonneg (un * 4294967296 + d) (show y1 * 4294967296 + y0 ≠ 0 by have := h.pos; omega)
  have e3 := Int.emod_lt_of_pos (un * 4294967296 + d) h.pos
  rw [← hq] at e1
  have e4 : (y1 * 4294967296 + y0) * q = q * (y1 * 4294967296 + y0) := Int.mul_comm _ _
  have hb := h.b; have hc := h.c'
  omega
end

def shI (y : Int) : Nat := (64 - lenI y).toNat
theorem shI_spec {y : Int} (h : 0 < y) (h' : y < 18446744073709551616) : shI y < 64 ∧ lenI y = 64 - shI y ∧ 9223372036854775808 ≤ y * 2 ^ shI y ∧ y * 2 ^ shI y < 18446744073709551616 := by
  obtain ⟨n, h1, h2, h3⟩ := lenI_pos h
  have hn : n < 64 := by
    have h4 : (2 : Int) ^ n = ((2 ^ n : Nat) : Int) := by push_cast; rfl
    exact (Nat.pow_lt_pow_iff_right (a := 2) (m := 64) (by decide)).1 (by omega)
  have hs : shI y = 63 - n := by unfold shI; rw [h1]; omega
  rw [hs, h1]
  have e : (2 : Int) ^ n * 2 ^ (63 - n) = 9223372036854775808 := by rw [← Int.pow_add, show n + (63 - n) = 63 by omega]; rfl
  have e2 : (2 : Int) ^ (n + 1) * 2 ^ (63 - n) = 18446744073709551616 := by rw [← Int.pow_add, show n + 1 + (63 - n) = 64 by omega]; rfl
  have hp : (0 : Int) < 2 ^ (63 - n) := Int.pow_pos (by decide)
  refine ⟨by omega, by omega, ?_, ?_⟩
  · rw [← e]; exact Int.mul_le_mul_of_nonneg_right h2 (Int.le_of_lt hp)
  · rw [← e2]; exact Int.mul_lt_mul_of_pos_right h3 hp

theorem lenI_bnd {y : Int} (h : 0 ≤ y) (h' : y < 18446744073709551616) : 0 ≤ lenI y ∧ lenI y ≤ 64 := by
  by_cases h0 : 0 < y
  · have := shI_spec h0 h'
    omega
  · have : y = 0 := by omega
    subst this
    exact ⟨by decide, by decide⟩
theorem or_add {a b : Int} {s : Nat} (ha : 0 ≤ a) (hb : 0 ≤ b) (hb' : b < 2 ^ s) (hs : a * 2 ^ s + b < 18446744073709551616) : IntKind.wrap .u64 ((BitVec.ofInt 64 (a * 2 ^ s) ||| BitVec.ofInt 64 b).toNat : Nat) = a * 2 ^ s + b := by
  obtain ⟨n, rfl⟩ := Int.eq_ofNat_of_zero_le ha
  obtain ⟨m, rfl⟩ := Int.eq_ofNat_of_zero_le hb
  have hm : m < 2 ^ s := by exact_mod_cast hb'
  have e : ((n : Int) * 2 ^ s) = ((n * 2 ^ s : Nat) : Int) := by push_cast; rfl
  rw [e] at hs
  have hlt : n * 2 ^ s + m < 2 ^ 64 := by omega
  rw [e, orN (by omega) (by omega), ← Nat.shiftLeft_eq, ← Nat.shiftLeft_add_eq_or_of_lt hm, Nat.shiftLeft_eq, wu64 (by omega) (by omega)]
  push_cast; rfl

section
structure Div (x y z : Int) : Prop where
  x0 : 0 ≤ x
  xz : x < z
  z1 : z < 18446744073709551616
  y0 : 0 ≤ y
  y1 : y < 18446744073709551616

def dY (z : Int) : Int := z * 2 ^ shI z
def dU (x y z : Int) : Int := (x * 18446744073709551616 + y) * 2 ^ shI z
def dU1 (x y z : Int) : Int := dU x y z / 18446744073709551616
def dU0 (x y z : Int) : Int := dU x y z % 18446744073709551616
def dN (x y z : Int) : Int := dU1 x y z * 4294967296 + dU0 x y z / 4294967296
def dQ (x y z : Int) : Int := dN x y z / dY z
def dR (x y z : Int) : Int := dN x y z % dY z

variable {x y z : Int}
theorem Div.sh (h : Div x y z) : shI z < 64 ∧ lenI z = 64 - shI z ∧ 9223372036854775808 ≤ dY z ∧ dY z < 18446744073709551616 := shI_spec (by have := h.x0; have := h.xz; omega) h.z1
theorem Div.u1 (h : Div x y z) : dU1 x y z = x * 2 ^ shI z + y / 2 ^ (64 - shI z) := by
  have hs := h.sh
  have e : (18446744073709551616 : Int) = 2 ^ (64 - shI z) * 2 ^ shI z := by rw [← Int.pow_add, show 64 - shI z + shI z = 64 by omega]; rfl
  have e2 : dU x y z = y * 2 ^ shI z + x * 2 ^ shI z * 18446744073709551616 := by unfold dU; grind
  unfold dU1
  rw [e2, Int.add_mul_ediv_right _ _ (by decide)]
  have : y * 2 ^ shI z / 18446744073709551616 = y / 2 ^ (64 - shI z) := by
    rw [e, Int.mul_ediv_mul_of_pos_left _ _ (Int.pow_pos (by decide))]
  omega
theorem Div.u0 (_ : Div x y z) : dU0 x y z = y * 2 ^ shI z % 18446744073709551616 := by
  have e2 : dU x y z = y * 2 ^ shI z + x * 2 ^ shI z * 18446744073709551616 := by unfold dU; grind
  unfold dU0
  rw [e2]
  omega
theorem dY_split (z : Int) : dY z / 4294967296 * 4294967296 + dY z % 4294967296 = dY z := by omega
theorem Div.ult (h : Div x y z) : 0 ≤ dU1 x y z ∧ dU1 x y z < dY z := by
  have hp : (0 : Int) < 2 ^ shI z := Int.pow_pos (by decide)
  have h0 : 0 ≤ dU x y z := Int.mul_nonneg (by have := h.x0; have := h.y0; omega) (Int.le_of_lt hp)
  refine ⟨Int.ediv_nonneg h0 (by decide), (Int.ediv_lt_iff_lt_mul (by decide)).2 ?_⟩
  have : dU x y z < (z * 18446744073709551616) * 2 ^ shI z := Int.mul_lt_mul_of_pos_right (by have := h.xz; have := h.y1; omega) hp
  have e : dY z * 18446744073709551616 = (z * 18446744073709551616) * 2 ^ shI z := by unfold dY; grind
  omega
theorem Div.dig1 (h : Div x y z) : Dig (dY z / 4294967296) (dY z % 4294967296) (dU1 x y z) (dU0 x y z / 4294967296) := by
  have hs := h.sh
  have hu := h.ult
  have h0 : 0 ≤ dU0 x y z ∧ dU0 x y z < 18446744073709551616 := by unfold dU0; omega
  exact ⟨by omega, by omega, by omega, by omega, hu.1, by rw [dY_split]; exact hu.2, by omega, by omega⟩
theorem Div.dig2 (h : Div x y z) : Dig (dY z / 4294967296) (dY z % 4294967296) (dR x y z) (dU0 x y z % 4294967296) := by
  have hs := h.sh
  have hp : 0 < dY z := by omega
  have r0 : 0 ≤ dR x y z := Int.emod_nonneg _ (by omega)
  have r1 : dR x y z < dY z := Int.emod_lt_of_pos _ hp
  exact ⟨by omega, by omega, by omega, by omega, r0, by rw [dY_split]; exact r1, by omega, by omega⟩
theorem Div.fin (h : Div x y z) : dQ x y z * 4294967296 + (dR x y z * 4294967296 + dU0 x y z % 4294967296) / dY z = (x * 18446744073709551616 + y) / z ∧
    (dR x y z * 4294967296 + dU0 x y z % 4294967296) % dY z / 2 ^ shI z = (x * 18446744073709551616 + y) % z := by
  have hs := h.sh
  have hp : 0 < dY z := by omega
  have h2 : (0 : Int) < 2 ^ shI z := Int.pow_pos (by decide)
  have e1 : dY z * dQ x y z + dR x y z = dN x y z := Int.mul_ediv_add_emod _ _
  have e2 := Int.mul_ediv_add_emod (dR x y z * 4294967296 + dU0 x y z % 4294967296) (dY z)
  have r0 := Int.emod_nonneg (dR x y z * 4294967296 + dU0 x y z % 4294967296) (show dY z ≠ 0 by omega)
  have r1 := Int.emod_lt_of_pos (dR x y z * 4294967296 + dU0 x y z % 4294967296) hp
  have e3 : dU x y z = dU1 x y z * 18446744073709551616 + dU0 x y z := by unfold dU1 dU0; omega
  generalize (dR x y z * 4294967296 + dU0 x y z % 4294967296) % dY z = r at *
  generalize (dR x y z * 4294967296 + dU0 x y z % 4294967296) / dY z = q at *
  have e4 : dU x y z = r + dY z * (dQ x y z * 4294967296 + q) := by
    have : dY z * (dQ x y z * 4294967296 + q) = dY z * dQ x y z * 4294967296 + dY z * q := by grind
    unfold dN at e1
    omega
  have u := (Int.ediv_emod_unique hp).2 ⟨e4.symm, r0, r1⟩
  have a1 : dU x y z / dY z = (x * 18446744073709551616 + y) / z := Int.mul_ediv_mul_of_pos_left _ _ h2
  have a2 : dU x y z % dY z = (x * 18446744073709551616 + y) % z * 2 ^ shI z := by
    unfold dU dY
    rw [Int.mul_comm, Int.mul_comm z, Int.mul_emod_mul_of_pos _ _ h2, Int.mul_comm]
  refine ⟨by omega, ?_⟩
  rw [← u.2, a2]
  exact Int.mul_ediv_cancel _ (by omega)
theorem Div.s (h : Div x y z) : IntKind.wrap .u64 (64 - lenI z) = shI z := by have := h.sh; rw [wu64 (by omega) (by omega)]; omega
theorem Div.sm (h : Div x y z) : min (Int.toNat (IntKind.wrap .u64 (64 - lenI z))) 64 = shI z := by have := h.sh; rw [h.s]; omega
theorem Div.v2 (h : Div x y z) : IntKind.wrap .u64 (z * 2 ^ min (Int.toNat (IntKind.wrap .u64 (64 - lenI z))) 64) = dY z := by
  have := h.sh
  rw [h.sm]; exact wu64 (by show 0 ≤ dY z; omega) (by show dY z < _; omega)
theorem Div.v10 (h : Div x y z) : IntKind.wrap .u64 (y * 2 ^ min (Int.toNat (IntKind.wrap .u64 (64 - lenI z))) 64) = dU0 x y z := by
  rw [h.sm, wu64m, h.u0]
theorem Div.v11 (h : Div x y z) : IntKind.wrap .u64 ((BitVec.ofInt 64 (IntKind.wrap .u64 (x * 2 ^ min (Int.toNat (IntKind.wrap .u64 (64 - lenI z))) 64)) ||| BitVec.ofInt 64 (Int.fdiv y (2 ^ min (Int.toNat (IntKind.wrap .u64 (64 - IntKind.wrap .u64 (64 - lenI z)))) 64))).toNat : Nat) = dU1 x y z := by
  have hs := h.sh
  have hu := h.ult
  have h2 : (0 : Int) < 2 ^ shI z := Int.pow_pos (by decide)
  have hx : 0 ≤ x * 2 ^ shI z := Int.mul_nonneg h.x0 (Int.le_of_lt h2)
  have e : min (Int.toNat (IntKind.wrap .u64 (64 - IntKind.wrap .u64 (64 - lenI z)))) 64 = 64 - shI z := by
    rw [h.s, wu64 (by omega) (by omega)]; omega
  rw [h.sm, e, shr_eq, h.u1]
  have hy : 0 ≤ y / 2 ^ (64 - shI z) := Int.ediv_nonneg h.y0 (Int.le_of_lt (Int.pow_pos (by decide)))
  have hy' : y / 2 ^ (64 - shI z) < 2 ^ shI z := by
    refine (Int.ediv_lt_iff_lt_mul (Int.pow_pos (by decide))).2 ?_
    rw [← Int.pow_add, show shI z + (64 - shI z) = 64 by omega]
    exact h.y1
  have hlt : x * 2 ^ shI z + y / 2 ^ (64 - shI z) < 18446744073709551616 := by rw [← h.u1]; omega
  rw [wu64 hx (by omega)]
  exact or_add h.x0 hy hy' hlt

theorem Est.cond_t {y1 y0 un d q r : Int} (h : Dig y1 y0 un d) (k : Est y1 y0 un d q r) (hr : r < 4294967296) (g : q ≥ 4294967296 ∨ IntKind.wrap .u64 (q * y0) > IntKind.wrap .u64 (IntKind.wrap .u64 (4294967296 * r) + d)) : 4294967296 ≤ q ∨ 4294967296 * r + d < q * y0 := by
  by_cases hq : 4294967296 ≤ q
  · exact .inl hq
  · right
    have q0 : 0 ≤ q := Int.le_trans h.Q0 k.le
    have hc := h.c; have hc' := h.c'; have := k.r0; have := h.d0; have := h.d1
    have b := mul_bnd q0 hc (by omega) hc'
    rw [wu64 b.1 (by omega), wu64 (n := 4294967296 * r) (by omega) (by omega), wu64 (by omega) (by omega)] at g
    omega
theorem Est.cond_f {y1 y0 un d q r : Int} (h : Dig y1 y0 un d) (k : Est y1 y0 un d q r) (hr : r < 4294967296) (g : ¬ q ≥ 4294967296 ∧ ¬ IntKind.wrap .u64 (q * y0) > IntKind.wrap .u64 (IntKind.wrap .u64 (4294967296 * r) + d)) : q * y0 ≤ 4294967296 * r + d := by
  have q0 : 0 ≤ q := Int.le_trans h.Q0 k.le
  have hc := h.c; have hc' := h.c'; have := k.r0; have := h.d0; have := h.d1
  have b := mul_bnd q0 hc (by omega) hc'
  rw [wu64 b.1 (by omega), wu64 (n := 4294967296 * r) (by omega) (by omega), wu64 (by omega) (by omega)] at g
  omega
theorem Est.q_ok {y1 y0 un d q r : Int} (h : Dig y1 y0 un d) (k : Est y1 y0 un d q r) : 0 ≤ q ∧ q ≤ 4294967297 := ⟨Int.le_trans h.Q0 k.le, k.hi⟩
theorem Div.rem1 (h : Div x y z) {q : Int} (hq : q = dQ x y z) : IntKind.wrap .u64 (IntKind.wrap .u64 (IntKind.wrap .u64 (dU1 x y z * 4294967296) + dU0 x y z / 4294967296) - IntKind.wrap .u64 (q * dY z)) = dR x y z := by
  have e := h.dig1.rem (q := q) (by rw [dY_split]; exact hq)
  rw [dY_split] at e
  rw [wu64m, wu64m, wu64m, wu64m]
  exact e
theorem Div.rem2 (h : Div x y z) {q : Int} (hq : q = (dR x y z * 4294967296 + dU0 x y z % 4294967296) / dY z) : IntKind.wrap .u64 (IntKind.wrap .u64 (IntKind.wrap .u64 (dR x y z * 4294967296) + dU0 x y z % 4294967296) - IntKind.wrap .u64 (q * dY z)) = (dR x y z * 4294967296 + dU0 x y z % 4294967296) % dY z := by
  have e := h.dig2.rem (q := q) (by rw [dY_split]; exact hq)
  rw [dY_split] at e
  rw [wu64m, wu64m, wu64m, wu64m]
  exact e
end

section
variable {y1 y0 un d q r : Int}
theorem Dig.q_w (h : Dig y1 y0 un d) : IntKind.wrap .u64 (Int.tdiv un y1) = un / y1 := by
  have k := h.init.1.q_ok h
  rw [tdiv_nn h.u, wu64 (by omega) (by omega)]
theorem Dig.r_w (h : Dig y1 y0 un d) : IntKind.wrap .u64 (un - IntKind.wrap .u64 (IntKind.wrap .u64 (Int.tdiv un y1) * y1)) = un - un / y1 * y1 := by
  have k := h.init.1.q_ok h
  have k0 := h.init.1.r0
  have k1 := h.init.2
  have k2 := h.a
  have k3 : 0 ≤ un / y1 * y1 := Int.mul_nonneg (by omega) (by omega)
  have k4 := h.u'; have k5 := h.b; have k6 := h.c'; have k7 := h.u
  rw [h.q_w, wu64 (n := un / y1 * y1) (by omega) (by omega), wu64 (by omega) (by omega)]
end

section
variable {x y z y1 y0 un d q r : Int}
theorem Est.stepW (h : Dig y1 y0 un d) (k : Est y1 y0 un d q r) (hr : r < 4294967296) (g : q ≥ 4294967296 ∨ IntKind.wrap .u64 (q * y0) > IntKind.wrap .u64 (IntKind.wrap .u64 (4294967296 * r) + d)) : IntKind.wrap .u64 (q - 1) = q - 1 ∧ IntKind.wrap .u64 (r + y1) = r + y1 := by
  have m := k.more h (k.cond_t h hr g)
  have := k.hi; have := k.r0; have := h.a; have := h.b
  exact ⟨wu64 (by omega) (by omega), wu64 (by omega) (by omega)⟩
theorem Est.brkW (h : Dig y1 y0 un d) (k : Est y1 y0 un d q r) (hr : r < 4294967296) (g : q ≥ 4294967296 ∨ IntKind.wrap .u64 (q * y0) > IntKind.wrap .u64 (IntKind.wrap .u64 (4294967296 * r) + d)) (g2 : IntKind.wrap .u64 (r + y1) ≥ 4294967296) : IntKind.wrap .u64 (q - 1) = (un * 4294967296 + d) / (y1 * 4294967296 + y0) := by
  have w := k.stepW h hr g
  rw [w.2] at g2
  rw [w.1]
  exact (k.next h (k.cond_t h hr g)).brk h g2 (by have := k.hi; omega)
theorem Est.nextW (h : Dig y1 y0 un d) (k : Est y1 y0 un d q r) (hr : r < 4294967296) (g : q ≥ 4294967296 ∨ IntKind.wrap .u64 (q * y0) > IntKind.wrap .u64 (IntKind.wrap .u64 (4294967296 * r) + d)) (g2 : ¬ IntKind.wrap .u64 (r + y1) ≥ 4294967296) : Est y1 y0 un d (q - 1) (r + y1) ∧ r + y1 < 4294967296 := by
  have w := k.stepW h hr g
  rw [w.2] at g2
  exact ⟨k.next h (k.cond_t h hr g), by omega⟩
theorem Div.dQ_eq (z : Int) : (dU1 x y z * 4294967296 + dU0 x y z / 4294967296) / (dY z / 4294967296 * 4294967296 + dY z % 4294967296) = dQ x y z := by rw [dY_split]; rfl
theorem Div.out (h : Div x y z) (hq : q = (dR x y z * 4294967296 + dU0 x y z % 4294967296) / (dY z / 4294967296 * 4294967296 + dY z % 4294967296)) : IntKind.wrap .u64 (IntKind.wrap .u64 (dQ x y z * 4294967296) + q) = (x * 18446744073709551616 + y) / z ∧
    Int.fdiv (IntKind.wrap .u64 (IntKind.wrap .u64 (IntKind.wrap .u64 (dR x y z * 4294967296) + dU0 x y z % 4294967296) - IntKind.wrap .u64 (q * dY z))) (2 ^ min (Int.toNat ((shI z : Nat) : Int)) 64) = (x * 18446744073709551616 + y) % z := by
  have e := h.fin
  have a1 := h.dig1.Q0; have a2 := h.dig1.Q1
  rw [Div.dQ_eq] at a1 a2
  have b1 := h.dig2.Q0; have b2 := h.dig2.Q1
  rw [← hq] at b1 b2
  rw [dY_split] at hq
  have hs := h.sh
  rw [h.rem2 hq, wu64 (n := dQ x y z * 4294967296) (by omega) (by omega), wu64 (by omega) (by omega), shr_eq, hq, e.1]
  refine ⟨rfl, ?_⟩
  rw [show min (Int.toNat ((shI z : Nat) : Int)) 64 = shI z by omega, e.2]
end

end Go.Sp

namespace Go.Sp
open Go Go.Am

def chkI (a b m : Int) : Int := if m < 1 ∨ 2305843009213693952 ≤ m then 1 else if 0 ≤ a ∧ a < m ∧ 0 ≤ b ∧ b < m then 0 else 2
theorem chk_ok {a b m : Int} (hm : 0 < m) (hm' : m < 2305843009213693952) (ha : 0 ≤ a) (ha' : a < m) (hb : 0 ≤ b) (hb' : b < m) : chkI a b m = 0 := by
  unfold chkI; rw [if_neg (by omega), if_pos ⟨ha, ha', hb, hb'⟩]
theorem chk_inv {a b m : Int} (h : chkI a b m = 0) : 0 < m ∧ m < 2305843009213693952 ∧ 0 ≤ a ∧ a < m ∧ 0 ≤ b ∧ b < m := by
  unfold chkI at h
  split at h
  · cases h
  · split at h
    · omega
    · cases h

theorem pow_mod (a : Int) (m : Int) : ∀ k : Nat, (a % m) ^ k % m = a ^ k % m
  | 0 => by simp
  | k + 1 => by rw [Int.pow_succ, Int.pow_succ, Int.mul_emod, pow_mod a m k, ← Int.mul_emod, Int.mul_emod, Int.emod_emod_of_dvd _ (Int.dvd_refl m), ← Int.mul_emod]
theorem mulmod (a b m : Int) : a % m * b % m = a * b % m := by rw [Int.mul_emod, Int.emod_emod_of_dvd _ (Int.dvd_refl m), ← Int.mul_emod]
theorem mulmod2 (a b m : Int) : a * (b % m) % m = a * b % m := by rw [Int.mul_emod, Int.emod_emod_of_dvd _ (Int.dvd_refl m), ← Int.mul_emod]
theorem sq_pow {a m : Int} {e : Nat} (c : Int) : c * (a * a % m) ^ e % m = c * a ^ (2 * e) % m := by
  rw [← mulmod2, pow_mod, mulmod2, Int.pow_mul, show a ^ 2 = a * a by rw [Int.pow_succ, Int.pow_succ]; simp]
theorem pow_even {x a m e : Int} (h0 : 0 ≤ e) (h : e % 2 = 0) : x * (a * a % m) ^ (e / 2).toNat % m = x * a ^ e.toNat % m := by
  rw [sq_pow, show 2 * (e / 2).toNat = e.toNat by omega]
theorem pow_odd {x a m e : Int} (h0 : 0 ≤ e) (h : e % 2 = 1) : x * a % m * (a * a % m) ^ (e / 2).toNat % m = x * a ^ e.toNat % m := by
  rw [sq_pow, mulmod, show e.toNat = 2 * (e / 2).toNat + 1 by omega, Int.pow_succ, Int.mul_assoc, Int.mul_comm a]

structure PwI (a0 : Int) (e0 : Nat) (m : Int) (s : Int × Int × Int) : Prop where
  p : s.1 * s.2.1 ^ s.2.2.toNat % m = a0 ^ e0 % m
  x0 : 0 ≤ s.1
  x1 : s.1 < m
  a0 : 0 ≤ s.2.1
  a1 : s.2.1 < m
  e0 : 0 ≤ s.2.2
theorem PwI.even {a0 : Int} {e0 : Nat} {m x a e : Int} (h : PwI a0 e0 m (x, a, e)) (hm : 0 < m) (he : e % 2 = 0) : PwI a0 e0 m (x, a * a % m, e / 2) := by
  have := h.e0
  exact ⟨by rw [← h.p]; exact pow_even h.e0 he, h.x0, h.x1, Int.emod_nonneg _ (by omega), Int.emod_lt_of_pos _ hm, by dsimp only at *; omega⟩
theorem PwI.odd {a0 : Int} {e0 : Nat} {m x a e : Int} (h : PwI a0 e0 m (x, a, e)) (hm : 0 < m) (he : e % 2 = 1) : PwI a0 e0 m (x * a % m, a * a % m, e / 2) := by
  have := h.e0
  exact ⟨by rw [← h.p]; exact pow_odd h.e0 he, Int.emod_nonneg _ (by omega), Int.emod_lt_of_pos _ hm, Int.emod_nonneg _ (by omega), Int.emod_lt_of_pos _ hm, by dsimp only at *; omega⟩
theorem PwI.stop {a0 : Int} {e0 : Nat} {m x a e : Int} (h : PwI a0 e0 m (x, a, e)) (he : ¬ e > 0) : x = a0 ^ e0 % m := by
  have e1 := h.e0
  have : e = 0 := by dsimp only at e1; omega
  subst this
  have := h.p
  simp only [Int.toNat_zero, Int.pow_zero, Int.mul_one] at this
  rw [← this, Int.emod_eq_of_lt h.x0 h.x1]
theorem PwI.start {a e m : Int} (h0 : 0 ≤ a) (h1 : a < m) (he : 0 ≤ e) : PwI a e.toNat m (1 % m, a, e) :=
  ⟨by show 1 % m * a ^ e.toNat % m = _; rw [mulmod]; simp, Int.emod_nonneg _ (by omega), Int.emod_lt_of_pos _ (by omega), h0, h1, he⟩

structure MlI (p0 : Int) (m : Int) (s : Int × Int × Int) : Prop where
  p : (s.1 + s.2.1 * s.2.2) % m = p0 % m
  x0 : 0 ≤ s.1
  x1 : s.1 < m
  a0 : 0 ≤ s.2.1
  a1 : s.2.1 < m
  e0 : 0 ≤ s.2.2
theorem dbl {x a e m : Int} (h : e % 2 = 0) : (x + (a + a) % m * (e / 2)) % m = (x + a * e) % m := by
  rw [Int.add_emod, mulmod, ← Int.add_emod]
  have h2 : e = 2 * (e / 2) := by omega
  generalize e / 2 = k at *
  subst h2
  congr 1; grind
theorem dbl1 {x a e m : Int} (h : e % 2 = 1) : ((x + a) % m + (a + a) % m * (e / 2)) % m = (x + a * e) % m := by
  rw [Int.add_emod, mulmod, Int.emod_emod_of_dvd _ (Int.dvd_refl m), ← Int.add_emod]
  have h2 : e = 2 * (e / 2) + 1 := by omega
  generalize e / 2 = k at *
  subst h2
  congr 1; grind
theorem MlI.even {p0 m x a e : Int} (h : MlI p0 m (x, a, e)) (hm : 0 < m) (he : e % 2 = 0) : MlI p0 m (x, (a + a) % m, e / 2) := by
  have := h.e0
  exact ⟨by rw [← h.p]; exact dbl he, h.x0, h.x1, Int.emod_nonneg _ (by omega), Int.emod_lt_of_pos _ hm, by dsimp only at *; omega⟩
theorem MlI.odd {p0 m x a e : Int} (h : MlI p0 m (x, a, e)) (hm : 0 < m) (he : e % 2 = 1) : MlI p0 m ((x + a) % m, (a + a) % m, e / 2) := by
  have := h.e0
  exact ⟨by rw [← h.p]; exact dbl1 he, Int.emod_nonneg _ (by omega), Int.emod_lt_of_pos _ hm, Int.emod_nonneg _ (by omega), Int.emod_lt_of_pos _ hm, by dsimp only at *; omega⟩
theorem MlI.stop {p0 m x a e : Int} (h : MlI p0 m (x, a, e)) (he : ¬ e > 0) : x = p0 % m := by
  have e1 := h.e0
  have : e = 0 := by dsimp only at e1; omega
  subst this
  have := h.p
  simp only [Int.mul_zero, Int.add_zero] at this
  rw [← this, Int.emod_eq_of_lt h.x0 h.x1]
theorem MlI.start {a b m : Int} (h0 : 0 ≤ a) (h1 : a < m) (he : 0 ≤ b) : MlI (a * b) m (0, a, b) :=
  ⟨by show (0 + a * b) % m = _; rw [Int.zero_add], by simp, by dsimp only; omega, h0, h1, he⟩

theorem fdiv2 (x : Int) : Int.fdiv x (2 ^ 1) = x / 2 := shr_eq
theorem mul61 {a b m : Int} (ha : 0 ≤ a) (ha' : a < m) (hb : 0 ≤ b) (hb' : b < m) (hm : m < 2305843009213693952) : 0 ≤ a * b ∧ a * b < m * 18446744073709551616 := by
  refine ⟨Int.mul_nonneg ha hb, ?_⟩
  have := Int.mul_le_mul (show a ≤ m by omega) (show b ≤ 18446744073709551615 by omega) hb (by omega)
  omega

theorem pmul_bnd {a b n : Int} (h0 : 0 ≤ a) (h1 : a < n) (h2 : 0 ≤ b) (h3 : b < 18446744073709551616) : a * b < n * 18446744073709551616 := by
  have := Int.mul_le_mul (show a ≤ n - 1 by omega) (show b ≤ 18446744073709551615 by omega) h2 (by omega)
  omega
theorem chk_1 {a b m : Int} (h : m < 1 ∨ m ≥ 2305843009213693952) : chkI a b m = 1 := by unfold chkI; rw [if_pos (by omega)]
theorem chk_2 {a b m : Int} (h : ¬ m < 1 ∧ ¬ m ≥ 2305843009213693952) (h2 : (¬ a ≥ 0 ∨ ¬ a < m) ∨ (¬ b ≥ 0 ∨ ¬ b < m)) : chkI a b m = 2 := by unfold chkI; rw [if_neg (by omega), if_neg (by omega)]
theorem chk_3 {a b m : Int} (h : ¬ m < 1 ∧ ¬ m ≥ 2305843009213693952) (h2 : (a ≥ 0 ∧ a < m) ∧ (b ≥ 0 ∧ b < m)) : chkI a b m = 0 := by unfold chkI; rw [if_neg (by omega), if_pos (by omega)]
def okv (e v : Int) : Int := if e = 0 then v else 0
theorem okv0 (v : Int) : okv 0 v = v := rfl
theorem okvn {e v : Int} (h : e ≠ 0) : okv e v = 0 := if_neg h

def powE (a e m : Int) : Int := if chkI a a m = 0 then (if e < 0 then 2 else 0) else chkI a a m

theorem powE_1 {a e m : Int} (h : ¬ chkI a a m = 0) : powE a e m = chkI a a m := if_neg h
theorem powE_2 {a e m : Int} (h : chkI a a m = 0) (h2 : e < 0) : powE a e m = 2 := by unfold powE; rw [if_pos h, if_pos h2]
theorem powE_0 {a e m : Int} (h : chkI a a m = 0) (h2 : ¬ e < 0) : powE a e m = 0 := by unfold powE; rw [if_pos h, if_neg h2]
theorem tmod_cases {a m : Int} (hm : 0 < m) : (0 ≤ Int.tmod a m ∧ Int.tmod a m = a % m) ∨ (Int.tmod a m < 0 ∧ Int.tmod a m + m = a % m) := by
  by_cases ha : 0 ≤ a
  · left; rw [tmod_nn ha]; exact ⟨Int.emod_nonneg _ (by omega), rfl⟩
  · have e : Int.tmod a m = -((-a) % m) := by
      have := Int.neg_tmod (-a) m
      rw [Int.neg_neg] at this
      rw [this, tmod_nn (by omega)]
    have h0 := Int.emod_nonneg a (show m ≠ 0 by omega)
    have h1 := Int.emod_lt_of_pos a hm
    have h2 := Int.mul_ediv_add_emod a m
    by_cases hr : a % m = 0
    · left
      have : (-a) % m = 0 := by
        refine ((Int.ediv_emod_unique (a := -a) (r := 0) (q := -(a / m)) hm).2 ⟨?_, by omega, hm⟩).2
        rw [Int.mul_neg]; omega
      omega
    · right
      have : (-a) % m = m - a % m := by
        refine ((Int.ediv_emod_unique (a := -a) (r := m - a % m) (q := -(a / m) - 1) hm).2 ⟨?_, by omega, by omega⟩).2
        have : m * (-(a / m) - 1) = -(m * (a / m)) - m := by grind
        omega
      omega
theorem reduce_n {a m : Int} (hm : 0 < m) (hm' : m ≤ 9223372036854775807) (h : Int.tmod a m < 0) : IntKind.wrap .i64 (Int.tmod a m + m) = a % m := by
  have h0 := Int.emod_nonneg a (show m ≠ 0 by omega)
  have h1 := Int.emod_lt_of_pos a hm
  rcases tmod_cases (a := a) hm with h2 | h2
  · omega
  · rw [h2.2]; exact wI (by omega) (by omega)
theorem reduce_p {a m : Int} (hm : 0 < m) (h : ¬ Int.tmod a m < 0) : Int.tmod a m = a % m := by
  rcases tmod_cases (a := a) hm with h2 | h2 <;> omega
theorem small_mul {a b : Int} (ha : 0 ≤ a) (hb : 0 ≤ b) (h : a < 2147483648 ∧ b < 2147483648) : IntKind.wrap .i64 (a * b) = a * b := by
  have := Int.mul_le_mul (show a ≤ 2147483647 by omega) (show b ≤ 2147483647 by omega) hb (by omega)
  have := Int.mul_nonneg ha hb
  exact wI (by omega) (by omega)
theorem addW {a b m : Int} (h0 : 0 ≤ a) (h1 : a < m) (h2 : 0 ≤ b) (h3 : b < m) (hm : m < 2305843009213693952) : Int.tmod (IntKind.wrap .i64 (a + b)) m = (a + b) % m := by
  rw [wI (by omega) (by omega), tmod_nn (by omega)]
theorem halfW {e : Int} (h : 0 ≤ e) (h' : e ≤ 9223372036854775807) : IntKind.wrap .i64 (Int.tdiv e 2) = e / 2 := by
  rw [tdiv_nn h, wI (by omega) (by omega)]

theorem PwI.even' {a0 : Int} {e0 : Nat} {m : Int} {s : Int × Int × Int} (h : PwI a0 e0 m s) (hm : 0 < m) (he : s.2.2 % 2 = 0) : PwI a0 e0 m (s.1, s.2.1 * s.2.1 % m, s.2.2 / 2) := PwI.even (x := s.1) (a := s.2.1) (e := s.2.2) h hm he
theorem PwI.odd' {a0 : Int} {e0 : Nat} {m : Int} {s : Int × Int × Int} (h : PwI a0 e0 m s) (hm : 0 < m) (he : s.2.2 % 2 = 1) : PwI a0 e0 m (s.1 * s.2.1 % m, s.2.1 * s.2.1 % m, s.2.2 / 2) := PwI.odd (x := s.1) (a := s.2.1) (e := s.2.2) h hm he
theorem PwI.stop' {a0 : Int} {e0 : Nat} {m : Int} {s : Int × Int × Int} (h : PwI a0 e0 m s) (he : ¬ s.2.2 > 0) : s.1 = a0 ^ e0 % m := PwI.stop (x := s.1) (a := s.2.1) (e := s.2.2) h he
theorem MlI.even' {p0 m : Int} {s : Int × Int × Int} (h : MlI p0 m s) (hm : 0 < m) (he : s.2.2 % 2 = 0) : MlI p0 m (s.1, (s.2.1 + s.2.1) % m, s.2.2 / 2) := MlI.even (x := s.1) (a := s.2.1) (e := s.2.2) h hm he
theorem MlI.odd' {p0 m : Int} {s : Int × Int × Int} (h : MlI p0 m s) (hm : 0 < m) (he : s.2.2 % 2 = 1) : MlI p0 m ((s.1 + s.2.1) % m, (s.2.1 + s.2.1) % m, s.2.2 / 2) := MlI.odd (x := s.1) (a := s.2.1) (e := s.2.2) h hm he
theorem MlI.stop' {p0 m : Int} {s : Int × Int × Int} (h : MlI p0 m s) (he : ¬ s.2.2 > 0) : s.1 = p0 % m := MlI.stop (x := s.1) (a := s.2.1) (e := s.2.2) h he

theorem PwI.start' {a e m : Int} (he : e ≤ 9223372036854775807) : (chkI a a m = 0 → 0 ≤ e → PwI a e.toNat m (1 % m, a, e)) ∧ e ≤ 9223372036854775807 :=
  ⟨fun h1 h2 => by have := chk_inv h1; exact PwI.start (by omega) (by omega) h2, he⟩

end Go.Sp

namespace Go.Sp
open Go Go.Am

def bsL : List Int := [2, 3, 5, 7, 11, 13, 17, 19, 23, 29, 31, 37]
def dbL : List Int := [0, 1, 56, 2, 57, 49, 28, 3, 61, 58, 42, 50, 38, 29, 17, 4, 62, 47, 59, 36, 45, 43, 51, 22, 53, 39, 33, 30, 24, 18, 12, 5, 63, 55, 48, 27, 60, 41, 37, 16, 46, 35, 44, 21, 52, 32, 23, 11, 54, 26, 40, 15, 34, 20, 31, 10, 25, 14, 19, 9, 13, 8, 7, 6]
def kL : List Int := [1116352408, 1899447441, 3049323471, 3921009573, 961987163, 1508970993, 2453635748, 2870763221, 3624381080, 310598401, 607225278, 1426881987, 1925078388, 2162078206, 2614888103, 3248222580, 3835390401, 4022224774, 264347078, 604807628, 770255983, 1249150122, 1555081692, 1996064986, 2554220882, 2821834349, 2952996808, 3210313671, 3336571891, 3584528711, 113926993, 338241895, 666307205, 773529912, 1294757372, 1396182291, 1695183700, 1986661051, 2177026350, 2456956037, 2730485921, 2820302411, 3259730800, 3345764771, 3516065817, 3600352804, 4094571909, 275423344, 430227734, 506948616, 659060556, 883997877, 958139571, 1322822218, 1537002063, 1747873779, 1955562222, 2024104815, 2227730452, 2361852424, 2428436474, 2756734187, 3204031479, 3329325298]
def stL : List Int := [1779033703, 3144134277, 1013904242, 2773480762, 1359893119, 2600822924, 528734635, 1541459225]
def bsF (j : Nat) : Int := bsL.getD j 0
def dbF (j : Nat) : Int := dbL.getD j 0
def kF (j : Nat) : Int := kL.getD j 0
def stF (j : Nat) : Int := stL.getD j 0

def tzf : Nat → Int → Nat
  | 0, _ => 0
  | k + 1, x => if x % 2 = 0 then tzf k (x / 2) + 1 else 0
def tzI (x : Int) : Nat := tzf 64 x

theorem tzf_spec : ∀ (k : Nat) (x : Int), 0 < x → x < 2 ^ k → tzf k x < k ∧ x = 2 ^ tzf k x * (x / 2 ^ tzf k x) ∧ x / 2 ^ tzf k x % 2 = 1
  | 0, x, h, h' => by simp at h'; omega
  | k + 1, x, h, h' => by
    unfold tzf
    by_cases he : x % 2 = 0
    · rw [if_pos he]
      have hk : x / 2 < 2 ^ k := by rw [Int.pow_succ] at h'; omega
      obtain ⟨h1, h2, h3⟩ := tzf_spec k (x / 2) (by omega) hk
      generalize tzf k (x / 2) = t at *
      have e : x / 2 ^ (t + 1) = x / 2 / 2 ^ t := by
        rw [Int.pow_succ, Int.mul_comm, Int.ediv_ediv, if_neg (by omega)]; simp
      rw [e]
      refine ⟨by omega, ?_, h3⟩
      rw [Int.pow_succ, Int.mul_comm (2 ^ t), Int.mul_assoc, ← h2]
      omega
    · rw [if_neg he]
      refine ⟨by omega, by simp, by simp; omega⟩
theorem tzI_spec {x : Int} (h : 0 < x) (h' : x < 18446744073709551616) : tzI x < 64 ∧ x = 2 ^ tzI x * (x / 2 ^ tzI x) ∧ x / 2 ^ tzI x % 2 = 1 := tzf_spec 64 x h h'
theorem tzf_uniq : ∀ (k t : Nat) (o : Int), t < k → o % 2 = 1 → tzf k (2 ^ t * o) = t
  | 0, t, o, h, _ => by omega
  | k + 1, 0, o, h, ho => by
    unfold tzf
    rw [Int.pow_zero, Int.one_mul, if_neg (by omega)]
  | k + 1, t + 1, o, h, ho => by
    unfold tzf
    have e : (2 : Int) ^ (t + 1) * o = 2 * (2 ^ t * o) := by rw [Int.pow_succ]; grind
    rw [e, if_pos (by omega), show 2 * (2 ^ t * o) / 2 = 2 ^ t * o by omega, tzf_uniq k t o (by omega) ho]
theorem tzI_uniq {t : Nat} {o : Int} (h : t < 64) (ho : o % 2 = 1) : tzI (2 ^ t * o) = t := tzf_uniq 64 t o h ho

theorem odd_and {o m : Nat} (ho : o % 2 = 1) (h : o < 2 ^ m) : o &&& (2 ^ m - o) = 1 := by
  apply Nat.eq_of_testBit_eq
  intro i
  have e : 2 ^ m - o = 2 ^ m - ((o - 1) + 1) := by omega
  rw [Nat.testBit_and, e, Nat.testBit_two_pow_sub_succ (by omega)]
  cases i with
  | zero =>
    have hm : 0 < m := by
      rcases Nat.eq_zero_or_pos m with h0 | h0
      · subst h0; simp at h; omega
      · exact h0
    simp [Nat.testBit_zero, hm]
    omega
  | succ i =>
    have e2 : (o - 1).testBit (i + 1) = o.testBit (i + 1) := by
      rw [Nat.testBit_succ, Nat.testBit_succ, show (o - 1) / 2 = o / 2 by omega]
    have e3 : Nat.testBit 1 (i + 1) = false := by rw [Nat.testBit_succ]; simp
    rw [e2, e3]
    cases o.testBit (i + 1) <;> simp

theorem low_bit {x : Int} (h : 0 < x) (h' : x < 18446744073709551616) : IntKind.wrap .u64 ((BitVec.ofInt 64 x &&& BitVec.ofInt 64 (IntKind.wrap .u64 (0 - x))).toNat : Nat) = 2 ^ tzI x := by
  obtain ⟨h1, h2, h3⟩ := tzI_spec h h'
  generalize tzI x = t at *
  obtain ⟨n, rfl⟩ := Int.eq_ofNat_of_zero_le (a := x) (by omega)
  have hp : (0 : Int) < 2 ^ t := Int.pow_pos (by decide)
  obtain ⟨o, ho⟩ := Int.eq_ofNat_of_zero_le (a := (n : Int) / 2 ^ t) (Int.ediv_nonneg (by omega) (by omega))
  rw [ho] at h2 h3
  have hn : n = 2 ^ t * o := by exact_mod_cast h2
  have e1 : IntKind.wrap .u64 (0 - (n : Int)) = ((2 ^ 64 - n : Nat) : Int) := by rw [wu64m]; omega
  have hpos : 0 < n := by omega
  rw [e1, andN (by omega) (by omega)]
  have hpow : (2 : Nat) ^ 64 = 2 ^ t * 2 ^ (64 - t) := by rw [← Nat.pow_add]; congr 1; omega
  have hpt : 0 < 2 ^ t := Nat.pos_of_ne_zero (by simp)
  have hlt : o < 2 ^ (64 - t) := by
    have : 2 ^ t * o < 2 ^ t * 2 ^ (64 - t) := by rw [← hpow, ← hn]; omega
    exact Nat.lt_of_mul_lt_mul_left this
  have e2 : 2 ^ 64 - n = 2 ^ t * (2 ^ (64 - t) - o) := by rw [Nat.mul_sub, ← hpow, ← hn]
  have e3 : n &&& (2 ^ 64 - n) = 2 ^ t := by
    rw [e2, hn, Nat.mul_comm, Nat.mul_comm (2 ^ t), ← Nat.shiftLeft_eq, ← Nat.shiftLeft_eq, ← Nat.shiftLeft_and_distrib, odd_and (by omega) hlt, Nat.shiftLeft_eq, Nat.one_mul]
  rw [e3]
  have : 2 ^ t < 2 ^ 64 := Nat.pow_lt_pow_right (by decide) h1
  rw [wu64 (by omega) (by omega)]
  push_cast; rfl
theorem db_at : ∀ t : Fin 64, dbF (Int.toNat ((2 ^ t.val * 285870213051353865 : Int) % 18446744073709551616 / 288230376151711744)) = t.val := by decide +kernel
theorem tz_w {t : Nat} (h : t < 64) : dbF (Int.toNat (Int.fdiv (IntKind.wrap .u64 (2 ^ t * 285870213051353865)) (2 ^ 58))) = t := by
  rw [shr_eq, wu64m]
  exact db_at ⟨t, h⟩
theorem tz_b {t : Nat} : 0 ≤ Int.fdiv (IntKind.wrap .u64 (2 ^ t * 285870213051353865)) (2 ^ 58) ∧ Int.fdiv (IntKind.wrap .u64 (2 ^ t * 285870213051353865)) (2 ^ 58) < 64 := by
  rw [shr_eq, wu64m]
  omega

end Go.Sp

namespace Go.Sp
open Go Go.Am

def msq (a d n : Int) (i : Nat) : Int := a ^ (d.toNat * 2 ^ i) % n
theorem msq_0 (a d n : Int) : msq a d n 0 = a ^ d.toNat % n := by simp [msq]
theorem msq_s (a d n : Int) (i : Nat) : msq a d n (i + 1) = msq a d n i * msq a d n i % n := by
  unfold msq
  rw [mulmod, mulmod2, ← Int.pow_add, Nat.pow_succ]
  congr 2
  rw [← Nat.mul_assoc]; omega
def hasI (p : Nat → Bool) (n : Nat) : Bool := (List.range n).any p
theorem hasI_t {p : Nat → Bool} {n i : Nat} (h : i < n) (hp : p i = true) : hasI p n = true := List.any_eq_true.2 ⟨i, List.mem_range.2 h, hp⟩
theorem hasI_f {p : Nat → Bool} {n : Nat} (h : ∀ i, i < n → p i = false) : hasI p n = false := List.any_eq_false.2 fun i hi => by simp [h i (List.mem_range.1 hi)]
def allI (p : Nat → Bool) (n : Nat) : Bool := (List.range n).all p
theorem allI_f {p : Nat → Bool} {n i : Nat} (h : i < n) (hp : p i = false) : allI p n = false := List.all_eq_false.2 ⟨i, List.mem_range.2 h, by simp [hp]⟩
theorem allI_t {p : Nat → Bool} {n : Nat} (h : ∀ i, i < n → p i = true) : allI p n = true := List.all_eq_true.2 fun i hi => h i (List.mem_range.1 hi)

def strongB (n a : Int) : Bool := msq a ((n - 1) / 2 ^ tzI (n - 1)) n 0 == 1 || hasI (fun i => msq a ((n - 1) / 2 ^ tzI (n - 1)) n i == n - 1) (tzI (n - 1))
def isP (n : Int) : Bool := if n < 2 then false else if 0 ≤ firstI (fun i => n % bsF i == 0) 12 0 then n == bsF (firstI (fun i => n % bsF i == 0) 12 0).toNat else allI (fun i => strongB n (bsF i)) 12

theorem bsF_pos : ∀ i : Fin 12, 2 ≤ bsF i.val ∧ bsF i.val ≤ 37 := by decide +kernel
theorem bsF_bnd {i : Nat} (h : i < 12) : 2 ≤ bsF i ∧ bsF i ≤ 37 := bsF_pos ⟨i, h⟩
theorem bs_small : ∀ n : Fin 38, 2 ≤ (n.val : Int) → ∃ i : Fin 12, (n.val : Int) % bsF i.val = 0 := by decide +kernel
theorem bs_great {n : Int} (h : 2 ≤ n) (h2 : ∀ i, i < 12 → n % bsF i ≠ 0) : 37 < n := by
  refine Int.not_le.1 fun hle => ?_
  obtain ⟨i, hi⟩ := bs_small ⟨n.toNat, by omega⟩ (by simp only; omega)
  have e : ((n.toNat : Nat) : Int) = n := by omega
  simp only [e] at hi
  exact h2 i.val i.isLt hi
theorem firstI_m {p : Nat → Bool} : ∀ k i, firstI p k i < 0 → ∀ j, j < k → p (i + j) = false
  | 0, _, _, j, hj => by omega
  | k + 1, i, h, j, hj => by
    unfold firstI at h
    by_cases hp : p i = true
    · rw [if_pos hp] at h; omega
    · rw [if_neg hp] at h
      cases j with
      | zero => simpa using hp
      | succ j =>
        have := firstI_m k (i + 1) h j (by omega)
        rw [show i + (j + 1) = i + 1 + j by omega]; exact this
theorem firstI_lt {p : Nat → Bool} : ∀ k i, firstI p k i < (i + k : Nat)
  | 0, i => by unfold firstI; omega
  | k + 1, i => by
    unfold firstI
    split
    · omega
    · have := firstI_lt (p := p) k (i + 1); omega
theorem isP_1 {n : Int} (h : n < 2) : isP n = false := if_pos h
theorem isP_2 {n : Int} {i : Nat} (h : ¬ n < 2) (he : firstI (fun i => n % bsF i == 0) 12 0 = firstI (fun i => n % bsF i == 0) (12 - i) i) (hi : i < 12) (h0 : n % bsF i = 0) : isP n = (n == bsF i) := by
  have e := first_hit he hi (by simpa using h0)
  unfold isP
  rw [if_neg h, ← e, if_pos (by omega)]
  simp
theorem isP_3 {n : Int} {i : Nat} (h : ¬ n < 2) (he : firstI (fun i => n % bsF i == 0) 12 0 = firstI (fun i => n % bsF i == 0) (12 - i) i) (hi : 12 ≤ i) : isP n = allI (fun i => strongB n (bsF i)) 12 ∧ 37 < n ∧ ∀ i, i < 12 → n % bsF i ≠ 0 := by
  have e := first_miss he hi
  have hn : ∀ i, i < 12 → n % bsF i ≠ 0 := fun j hj => by
    have := firstI_m (p := fun i => n % bsF i == 0) 12 0 (by omega) j hj
    rw [Nat.zero_add] at this
    simpa using this
  refine ⟨?_, bs_great (by omega) hn, hn⟩
  unfold isP
  rw [if_neg h, ← e, if_neg (by omega)]

theorem odd_of {n : Int} (h2 : ∀ i, i < 12 → n % bsF i ≠ 0) : n % 2 = 1 := by
  have := h2 0 (by decide)
  have e : bsF 0 = 2 := rfl
  rw [e] at this
  omega

theorem bs_at {i : Nat} (h : i < 12) : intOfAV (atL [.int .u64 (bsF 0), .int .u64 (bsF 1), .int .u64 (bsF 2), .int .u64 (bsF 3), .int .u64 (bsF 4), .int .u64 (bsF 5), .int .u64 (bsF 6), .int .u64 (bsF 7), .int .u64 (bsF 8), .int .u64 (bsF 9), .int .u64 (bsF 10), .int .u64 (bsF 11)] i) = bsF i := congrArg intOfAV (atL_map_range (es := 12) (g := fun j => AV.int .u64 (bsF j)) h)
def noHit (a d n : Int) (i : Nat) : Prop := msq a d n 0 ≠ n - 1 → ∀ r, r ≤ i → msq a d n r ≠ n - 1
theorem noHit_0 (a d n : Int) : noHit a d n 0 := fun h r hr => by
  have : r = 0 := by omega
  subst this; exact h
theorem noHit_s {a d n : Int} {i : Nat} (h : noHit a d n i) (h2 : msq a d n (i + 1) ≠ n - 1) : noHit a d n (i + 1) := fun h0 r hr => by
  by_cases e : r = i + 1
  · subst e; exact h2
  · exact h h0 r (by omega)
theorem comp_t1 {a d n : Int} {s : Nat} (hs : 0 < s) (hn : 2 ≤ n) (hn' : n < 18446744073709551616) (g : a ^ d.toNat % n = 1 ∨ a ^ d.toNat % n = IntKind.wrap .u64 (n - 1)) : (msq a d n 0 == 1 || hasI (fun i => msq a d n i == n - 1) s) = true := by
  rw [wu64 (by omega) (by omega)] at g
  rcases g with g | g
  · rw [msq_0, g]; rfl
  · rw [hasI_t (i := 0) hs (by rw [msq_0, g]; simp)]; simp
theorem comp_t2 {a d n : Int} {s i : Nat} (hi : i + 1 < s) (g : msq a d n (i + 1) = n - 1) : (msq a d n 0 == 1 || hasI (fun i => msq a d n i == n - 1) s) = true := by
  rw [hasI_t (i := i + 1) hi (by rw [g]; simp)]; simp
theorem comp_f {a d n : Int} {s i : Nat} (h1 : ¬ msq a d n 0 = 1) (h2 : msq a d n 0 ≠ n - 1) (h : noHit a d n i) (hi : s ≤ i + 1) : (msq a d n 0 == 1 || hasI (fun i => msq a d n i == n - 1) s) = false := by
  rw [hasI_f fun r hr => by simpa using h h2 r (by omega)]
  simpa using h1
theorem comp_eq {n : Int} {i : Nat} (hi : i < 12) (hn : 2 ≤ n) (hn' : n < 18446744073709551616) :
    (msq (intOfAV (atL [.int .u64 (bsF 0), .int .u64 (bsF 1), .int .u64 (bsF 2), .int .u64 (bsF 3), .int .u64 (bsF 4), .int .u64 (bsF 5), .int .u64 (bsF 6), .int .u64 (bsF 7), .int .u64 (bsF 8), .int .u64 (bsF 9), .int .u64 (bsF 10), .int .u64 (bsF 11)] i)) (Int.fdiv (IntKind.wrap .u64 (n - 1)) (2 ^ min (Int.toNat ((tzI (n - 1) : Nat) : Int)) 64)) n 0 == 1 || hasI (fun q => msq (intOfAV (atL [.int .u64 (bsF 0), .int .u64 (bsF 1), .int .u64 (bsF 2), .int .u64 (bsF 3), .int .u64 (bsF 4), .int .u64 (bsF 5), .int .u64 (bsF 6), .int .u64 (bsF 7), .int .u64 (bsF 8), .int .u64 (bsF 9), .int .u64 (bsF 10), .int .u64 (bsF 11)] i)) (Int.fdiv (IntKind.wrap .u64 (n - 1)) (2 ^ min (Int.toNat ((tzI (n - 1) : Nat) : Int)) 64)) n q == n - 1) (tzI (n - 1))) = strongB n (bsF i) := by
  have ht := (tzI_spec (x := n - 1) (by omega) (by omega)).1
  rw [bs_at hi, wu64 (by omega) (by omega), Int.toNat_natCast, Nat.min_eq_left (by omega), shr_eq]
  rfl
theorem odd_part {n d : Int} {s : Nat} (hn : 2 ≤ n) (hn' : n < 18446744073709551616) (h : n - 1 = 2 ^ s * d) (hd : 0 < d) : s < 64 := by
  have h1 : (2 : Int) ^ s ≤ 2 ^ s * d := by
    have := Int.mul_le_mul_of_nonneg_left (show 1 ≤ d by omega) (Int.le_of_lt (Int.pow_pos (by decide) : (0 : Int) < 2 ^ s))
    omega
  have h4 : (2 : Int) ^ s = ((2 ^ s : Nat) : Int) := by push_cast; rfl
  exact (Nat.pow_lt_pow_iff_right (a := 2) (m := 64) (by decide)).1 (by omega)
theorem odd_part2 {n d : Int} {s : Nat} (hn : 2 ≤ n) (hn' : n < 18446744073709551616) (h : n - 1 = 2 ^ s * d) (hd : 0 < d) (ho : ¬ Int.tmod d 2 = 0) : tzI (n - 1) = s ∧ (n - 1) / 2 ^ tzI (n - 1) = d := by
  have hs := odd_part hn hn' h hd
  rw [tmod_nn (by omega)] at ho
  have e : tzI (n - 1) = s := by rw [h]; exact tzI_uniq hs (by omega)
  refine ⟨e, ?_⟩
  rw [e, h]
  exact Int.mul_ediv_cancel_left _ (Int.ne_of_gt (Int.pow_pos (by decide)))
theorem odd_step {n d : Int} {s : Nat} (h : n - 1 = 2 ^ s * d) (hd : 0 < d) (he : Int.tmod d 2 = 0) : n - 1 = 2 ^ (s + 1) * (d / 2) ∧ 0 < d / 2 := by
  rw [tmod_nn (by omega)] at he
  refine ⟨?_, by omega⟩
  have h2 : d = 2 * (d / 2) := by omega
  rw [Int.pow_succ, Int.mul_assoc, ← h2]; exact h

theorem odd_le {n d : Int} {s : Nat} (h : n - 1 = 2 ^ s * d) (hd : 0 < d) : d ≤ n - 1 := by
  have : 1 * d ≤ 2 ^ s * d := Int.mul_le_mul_of_nonneg_right (by have := (Int.pow_pos (by decide) : (0 : Int) < 2 ^ s); omega) (by omega)
  omega
theorem comp_side {n : Int} (hn : 2 ≤ n) (hn' : n < 18446744073709551616) (ho : n % 2 = 1) :
    0 ≤ Int.fdiv (IntKind.wrap .u64 (n - 1)) (2 ^ min (Int.toNat ((tzI (n - 1) : Nat) : Int)) 64) ∧ Int.fdiv (IntKind.wrap .u64 (n - 1)) (2 ^ min (Int.toNat ((tzI (n - 1) : Nat) : Int)) 64) < 18446744073709551616 ∧ tzI (n - 1) < 64 ∧ 0 < tzI (n - 1) := by
  have ht := tzI_spec (x := n - 1) (by omega) (by omega)
  rw [wu64 (by omega) (by omega), shr_eq]
  have h1 := Int.ediv_nonneg (a := n - 1) (b := 2 ^ min (Int.toNat ((tzI (n - 1) : Nat) : Int)) 64) (by omega) (Int.le_of_lt (Int.pow_pos (by decide)))
  have h2 := Int.ediv_le_self (a := n - 1) (2 ^ min (Int.toNat ((tzI (n - 1) : Nat) : Int)) 64) (by omega)
  refine ⟨h1, by omega, ht.1, ?_⟩
  refine Nat.pos_of_ne_zero fun h0 => ?_
  rw [h0] at ht
  have := ht.2.2
  simp at this
  omega

theorem odd_start (n : Int) : 2 ≤ n → n - 1 = 2 ^ 0 * (n - 1) ∧ 0 < n - 1 := fun h => ⟨by simp, by omega⟩

theorem lst_fn {os : List (Option Ob)} {es n : Nat} {mu : Bool} {l : List (List AV)} {f : Nat → Nat → AV} (h : ∀ i j, i < n → j < es → atL (l.getD i []) j = f i j) : ObEnt os ⟨es, n, mu, .lst l⟩ ⟨es, n, mu, .fn f⟩ := ⟨rfl, rfl, rfl, fun i j hi hj => Ent.of_eq (h i j hi hj)⟩
theorem bs_ob {os : List (Option Ob)} {mu : Bool} : ObEnt os ⟨1, 12, mu, .lst [[.int .i64 2], [.int .i64 3], [.int .i64 5], [.int .i64 7], [.int .i64 11], [.int .i64 13], [.int .i64 17], [.int .i64 19], [.int .i64 23], [.int .i64 29], [.int .i64 31], [.int .i64 37]]⟩ ⟨1, 12, mu, .fn fun i _ => .int .i64 (bsF i)⟩ := lst_fn fun i j hi hj => by
  obtain rfl : j = 0 := by omega
  match i, hi with
  | 0, _ | 1, _ | 2, _ | 3, _ | 4, _ | 5, _ | 6, _ | 7, _ | 8, _ | 9, _ | 10, _ | 11, _ => rfl
theorem strong_t1 {n a : Int} (ho : 0 < tzI (n - 1)) (g : msq a ((n - 1) / 2 ^ tzI (n - 1)) n 0 = 1 ∨ msq a ((n - 1) / 2 ^ tzI (n - 1)) n 0 = n - 1) : strongB n a = true := by
  unfold strongB
  rcases g with g | g
  · rw [g]; rfl
  · rw [hasI_t (i := 0) ho (by rw [g]; simp)]; simp
theorem strong_t2 {n a : Int} {i : Nat} (hi : i + 1 < tzI (n - 1)) (g : msq a ((n - 1) / 2 ^ tzI (n - 1)) n (i + 1) = n - 1) : strongB n a = true := by
  unfold strongB
  rw [hasI_t (i := i + 1) hi (by rw [g]; simp)]; simp
theorem strong_f {n a : Int} {i : Nat} (h1 : ¬ msq a ((n - 1) / 2 ^ tzI (n - 1)) n 0 = 1) (h2 : msq a ((n - 1) / 2 ^ tzI (n - 1)) n 0 ≠ n - 1) (h : noHit a ((n - 1) / 2 ^ tzI (n - 1)) n i) (hi : tzI (n - 1) ≤ i + 1) : strongB n a = false := comp_f h1 h2 h hi

end Go.Sp

namespace Go.Proofs.YtolcfdcoidpieaaGreatDoor
open Go Go.Am Go.Sp
set_option maxRecDepth 100000

def gl0 : Globs := fun g => bif Nat.beq g 0 then some (12, fun j => .int .u64 (bsF j)) else bif Nat.beq g 1 then some (64, fun j => .int .u8 (dbF j)) else bif Nat.beq g 2 then some (8, fun j => .int .u32 (stF j)) else bif Nat.beq g 5 then some (64, fun j => .int .u32 (kF j)) else none
def ow0 : FuncId → Option (List Bool) := fun _ => none
theorem mixed : Tryz.prog.follows .mixedOrders = true := by kernel_rfl

theorem mul64_c (x y : Int) (hx : 0 ≤ x) (hx' : x < 18446744073709551616) (hy : 0 ≤ y) (hy' : y < 18446744073709551616) : Pure Tryz.prog gl0 248 [.int .u64 x, .int .u64 y] (.tup [.int .u64 (x * y / 18446744073709551616), .int .u64 (x * y % 18446744073709551616)]) := by
  refine pure_sk (own := ow0) Tryz.func248 (by kernel_rfl) mixed (by kernel_rfl)
    (.out (AV.tup [Zu (IntKind.wrap IntKind.u64 (IntKind.wrap IntKind.u64 (IntKind.wrap IntKind.u64 (Int.fdiv x ((2 : Int) ^ 32) * Int.fdiv y ((2 : Int) ^ 32)) + Int.fdiv (IntKind.wrap IntKind.u64 (IntKind.wrap IntKind.u64 (Int.fdiv x ((2 : Int) ^ 32) * IntKind.wrap IntKind.u64 (↑(BitVec.toNat (BitVec.ofInt 64 y &&& BitVec.ofInt 64 (4294967295 : Int))) : Int)) + Int.fdiv (IntKind.wrap IntKind.u64 (IntKind.wrap IntKind.u64 (↑(BitVec.toNat (BitVec.ofInt 64 x &&& BitVec.ofInt 64 (4294967295 : Int))) : Int) * IntKind.wrap IntKind.u64 (↑(BitVec.toNat (BitVec.ofInt 64 y &&& BitVec.ofInt 64 (4294967295 : Int))) : Int))) ((2 : Int) ^ 32))) ((2 : Int) ^ 32)) + Int.fdiv (IntKind.wrap IntKind.u64 (IntKind.wrap IntKind.u64 (↑(BitVec.toNat (BitVec.ofInt 64 (IntKind.wrap IntKind.u64 (IntKind.wrap IntKind.u64 (Int.fdiv x ((2 : Int) ^ 32) * IntKind.wrap IntKind.u64 (↑(BitVec.toNat (BitVec.ofInt 64 y &&& BitVec.ofInt 64 (4294967295 : Int))) : Int)) + Int.fdiv (IntKind.wrap IntKind.u64 (IntKind.wrap IntKind.u64 (↑(BitVec.toNat (BitVec.ofInt 64 x &&& BitVec.ofInt 64 (4294967295 : Int))) : Int) * IntKind.wrap IntKind.u64 (↑(BitVec.toNat (BitVec.ofInt 64 y &&& BitVec.ofInt 64 (4294967295 : Int))) : Int))) ((2 : Int) ^ 32))) &&& BitVec.ofInt 64 (4294967295 : Int))) : Int) + IntKind.wrap IntKind.u64 (IntKind.wrap IntKind.u64 (↑(BitVec.toNat (BitVec.ofInt 64 x &&& BitVec.ofInt 64 (4294967295 : Int))) : Int) * Int.fdiv y ((2 : Int) ^ 32)))) ((2 : Int) ^ 32))), Zu (IntKind.wrap IntKind.u64 (x * y))]) [] (AV.tup [Zu (x * y / 18446744073709551616), Zu (x * y % 18446744073709551616)]) [])
    (by kernel_rfl) ?_
  exact k_out (Ent.tup ⟨Ent.of_eq (congrArg _ (by
                                                                                                     rw [← mul64_m hx hx' hy hy']
                                                                                                     have e1 : IntKind.wrap .u64 (x * y) = x * y % 18446744073709551616 := wu64m _
                                                                                                     have b1 := mul_bnd (a := x / 4294967296) (b := y / 4294967296) (by omega) (by omega) (by omega) (by omega)
                                                                                                     have b2 := mul_bnd (a := x / 4294967296) (b := y % 4294967296) (by omega) (by omega) (by omega) (by omega)
                                                                                                     have b3 := mul_bnd (a := x % 4294967296) (b := y / 4294967296) (by omega) (by omega) (by omega) (by omega)
                                                                                                     have b4 := mul_bnd (a := x % 4294967296) (b := y % 4294967296) (by omega) (by omega) (by omega) (by omega)
                                                                                                     have b5 : ∀ z : Int, IntKind.wrap .u64 ((BitVec.ofInt 64 (z % 18446744073709551616) &&& BitVec.ofInt 64 4294967295).toNat : Nat) = z % 4294967296 := fun z => by rw [mask32 (by omega) (by omega)]; omega
                                                                                                     simp only [fdiv32, mask32 hx hx', mask32 hy hy', wu64m] at b5 ⊢
                                                                                                     rw [b5]
                                                                                                     generalize x / 4294967296 * (y / 4294967296) = d at *
                                                                                                     generalize x / 4294967296 * (y % 4294967296) = b at *
                                                                                                     generalize x % 4294967296 * (y / 4294967296) = c at *
                                                                                                     generalize x % 4294967296 * (y % 4294967296) = a at *
                                                                                                     omega)), Ent.of_eq (congrArg _ (wu64m _)), trivial⟩)

end Go.Proofs.YtolcfdcoidpieaaGreatDoor

namespace Go.Proofs.YtolcfdcoidpieaaGreatDoor
open Go Go.Am Go.Sp
set_option maxRecDepth 100000

abbrev kHS20 : List UInt8 := [(0 : UInt8), (1 : UInt8), (2 : UInt8), (2 : UInt8), (3 : UInt8), (3 : UInt8), (3 : UInt8), (3 : UInt8), (4 : UInt8), (4 : UInt8), (4 : UInt8), (4 : UInt8), (4 : UInt8), (4 : UInt8), (4 : UInt8), (4 : UInt8), (5 : UInt8), (5 : UInt8), (5 : UInt8), (5 : UInt8), (5 : UInt8), (5 : UInt8), (5 : UInt8), (5 : UInt8), (5 : UInt8), (5 : UInt8), (5 : UInt8), (5 : UInt8), (5 : UInt8), (5 : UInt8), (5 : UInt8), (5 : UInt8), (6 : UInt8), (6 : UInt8), (6 : UInt8), (6 : UInt8), (6 : UInt8), (6 : UInt8), (6 : UInt8), (6 : UInt8), (6 : UInt8), (6 : UInt8), (6 : UInt8), (6 : UInt8), (6 : UInt8), (6 : UInt8), (6 : UInt8), (6 : UInt8), (6 : UInt8), (6 : UInt8), (6 : UInt8), (6 : UInt8), (6 : UInt8), (6 : UInt8), (6 : UInt8), (6 : UInt8), (6 : UInt8), (6 : UInt8), (6 : UInt8), (6 : UInt8), (6 : UInt8), (6 : UInt8), (6 : UInt8), (6 : UInt8), (7 : UInt8), (7 : UInt8), (7 : UInt8), (7 : UInt8), (7 : UInt8), (7 : UInt8), (7 : UInt8), (7 : UInt8), (7 : UInt8), (7 : UInt8), (7 : UInt8), (7 : UInt8), (7 : UInt8), (7 : UInt8), (7 : UInt8), (7 : UInt8), (7 : UInt8), (7 : UInt8), (7 : UInt8), (7 : UInt8), (7 : UInt8), (7 : UInt8), (7 : UInt8), (7 : UInt8), (7 : UInt8), (7 : UInt8), (7 : UInt8), (7 : UInt8), (7 : UInt8), (7 : UInt8), (7 : UInt8), (7 : UInt8), (7 : UInt8), (7 : UInt8), (7 : UInt8), (7 : UInt8), (7 : UInt8), (7 : UInt8), (7 : UInt8), (7 : UInt8), (7 : UInt8), (7 : UInt8), (7 : UInt8), (7 : UInt8), (7 : UInt8), (7 : UInt8), (7 : UInt8), (7 : UInt8), (7 : UInt8), (7 : UInt8), (7 : UInt8), (7 : UInt8), (7 : UInt8), (7 : UInt8), (7 : UInt8), (7 : UInt8), (7 : UInt8), (7 : UInt8), (7 : UInt8), (7 : UInt8), (7 : UInt8), (7 : UInt8), (7 : UInt8), (7 : UInt8), (8 : UInt8), (8 : UInt8), (8 : UInt8), (8 : UInt8), (8 : UInt8), (8 : UInt8), (8 : UInt8), (8 : UInt8), (8 : UInt8), (8 : UInt8), (8 : UInt8), (8 : UInt8), (8 : UInt8), (8 : UInt8), (8 : UInt8), (8 : UInt8), (8 : UInt8), (8 : UInt8), (8 : UInt8), (8 : UInt8), (8 : UInt8), (8 : UInt8), (8 : UInt8), (8 : UInt8), (8 : UInt8), (8 : UInt8), (8 : UInt8), (8 : UInt8), (8 : UInt8), (8 : UInt8), (8 : UInt8), (8 : UInt8), (8 : UInt8), (8 : UInt8), (8 : UInt8), (8 : UInt8), (8 : UInt8), (8 : UInt8), (8 : UInt8), (8 : UInt8), (8 : UInt8), (8 : UInt8), (8 : UInt8), (8 : UInt8), (8 : UInt8), (8 : UInt8), (8 : UInt8), (8 : UInt8), (8 : UInt8), (8 : UInt8), (8 : UInt8), (8 : UInt8), (8 : UInt8), (8 : UInt8), (8 : UInt8), (8 : UInt8), (8 : UInt8), (8 : UInt8), (8 : UInt8), (8 : UInt8), (8 : UInt8), (8 : UInt8), (8 : UInt8), (8 : UInt8), (8 : UInt8), (8 : UInt8), (8 : UInt8), (8 : UInt8), (8 : UInt8), (8 : UInt8), (8 : UInt8), (8 : UInt8), (8 : UInt8), (8 : UInt8), (8 : UInt8), (8 : UInt8), (8 : UInt8), (8 : UInt8), (8 : UInt8), (8 : UInt8), (8 : UInt8), (8 : UInt8), (8 : UInt8), (8 : UInt8), (8 : UInt8), (8 : UInt8), (8 : UInt8), (8 : UInt8), (8 : UInt8), (8 : UInt8), (8 : UInt8), (8 : UInt8), (8 : UInt8), (8 : UInt8), (8 : UInt8), (8 : UInt8), (8 : UInt8), (8 : UInt8), (8 : UInt8), (8 : UInt8), (8 : UInt8), (8 : UInt8), (8 : UInt8), (8 : UInt8), (8 : UInt8), (8 : UInt8), (8 : UInt8), (8 : UInt8), (8 : UInt8), (8 : UInt8), (8 : UInt8), (8 : UInt8), (8 : UInt8), (8 : UInt8), (8 : UInt8), (8 : UInt8), (8 : UInt8), (8 : UInt8), (8 : UInt8), (8 : UInt8), (8 : UInt8), (8 : UInt8), (8 : UInt8), (8 : UInt8), (8 : UInt8), (8 : UInt8), (8 : UInt8), (8 : UInt8)]
theorem len64_c (x : Int) (h : 0 ≤ x) (h' : x < 18446744073709551616) : Pure Tryz.prog gl0 290 [.int .u64 x] (.int .i64 (lenI x)) := by
  refine pure_sk (own := ow0) Tryz.func290 (by kernel_rfl) mixed (by kernel_rfl)
    (.br (decide (x ≥ 4294967296)) (.br (decide (Int.fdiv x ((2 : Int) ^ 32) ≥ 65536)) (.br (decide (Int.fdiv (Int.fdiv x ((2 : Int) ^ 32)) ((2 : Int) ^ 16) ≥ 256)) (.req ((0 : Int) ≤ IntKind.wrap IntKind.u8 (Int.fdiv (Int.fdiv (Int.fdiv x ((2 : Int) ^ 32)) ((2 : Int) ^ 16)) ((2 : Int) ^ 8)) ∧ IntKind.wrap IntKind.u8 (Int.fdiv (Int.fdiv (Int.fdiv x ((2 : Int) ^ 32)) ((2 : Int) ^ 16)) ((2 : Int) ^ 8)) < (↑(256) : Int)) (.out (Zi (IntKind.wrap IntKind.i64 (IntKind.wrap IntKind.i64 (IntKind.wrap IntKind.i64 ((32 : Int) + 16) + 8) + IntKind.wrap IntKind.i64 (↑(UInt8.toNat (List.getD kHS20 (Int.toNat (IntKind.wrap IntKind.u8 (Int.fdiv (Int.fdiv (Int.fdiv x ((2 : Int) ^ 32)) ((2 : Int) ^ 16)) ((2 : Int) ^ 8)))) (0 : UInt8))) : Int)))) [] (Zi (lenI x)) [])) (.req ((0 : Int) ≤ IntKind.wrap IntKind.u8 (Int.fdiv (Int.fdiv x ((2 : Int) ^ 32)) ((2 : Int) ^ 16)) ∧ IntKind.wrap IntKind.u8 (Int.fdiv (Int.fdiv x ((2 : Int) ^ 32)) ((2 : Int) ^ 16)) < (↑(256) : Int)) (.out (Zi (IntKind.wrap IntKind.i64 (IntKind.wrap IntKind.i64 ((32 : Int) + 16) + IntKind.wrap IntKind.i64 (↑(UInt8.toNat (List.getD kHS20 (Int.toNat (IntKind.wrap IntKind.u8 (Int.fdiv (Int.fdiv x ((2 : Int) ^ 32)) ((2 : Int) ^ 16)))) (0 : UInt8))) : Int)))) [] (Zi (lenI x)) []))) (.br (decide (Int.fdiv x ((2 : Int) ^ 32) ≥ 256)) (.req ((0 : Int) ≤ IntKind.wrap IntKind.u8 (Int.fdiv (Int.fdiv x ((2 : Int) ^ 32)) ((2 : Int) ^ 8)) ∧ IntKind.wrap IntKind.u8 (Int.fdiv (Int.fdiv x ((2 : Int) ^ 32)) ((2 : Int) ^ 8)) < (↑(256) : Int)) (.out (Zi (IntKind.wrap IntKind.i64 (IntKind.wrap IntKind.i64 ((32 : Int) + 8) + IntKind.wrap IntKind.i64 (↑(UInt8.toNat (List.getD kHS20 (Int.toNat (IntKind.wrap IntKind.u8 (Int.fdiv (Int.fdiv x ((2 : Int) ^ 32)) ((2 : Int) ^ 8)))) (0 : UInt8))) : Int)))) [] (Zi (lenI x)) [])) (.req ((0 : Int) ≤ IntKind.wrap IntKind.u8 (Int.fdiv x ((2 : Int) ^ 32)) ∧ IntKind.wrap IntKind.u8 (Int.fdiv x ((2 : Int) ^ 32)) < (↑(256) : Int)) (.out (Zi (IntKind.wrap IntKind.i64 ((32 : Int) + IntKind.wrap IntKind.i64 (↑(UInt8.toNat (List.getD kHS20 (Int.toNat (IntKind.wrap IntKind.u8 (Int.fdiv x ((2 : Int) ^ 32)))) (0 : UInt8))) : Int)))) [] (Zi (lenI x)) [])))) (.br (decide (x ≥ 65536)) (.br (decide (Int.fdiv x ((2 : Int) ^ 16) ≥ 256)) (.req ((0 : Int) ≤ IntKind.wrap IntKind.u8 (Int.fdiv (Int.fdiv x ((2 : Int) ^ 16)) ((2 : Int) ^ 8)) ∧ IntKind.wrap IntKind.u8 (Int.fdiv (Int.fdiv x ((2 : Int) ^ 16)) ((2 : Int) ^ 8)) < (↑(256) : Int)) (.out (Zi (IntKind.wrap IntKind.i64 (IntKind.wrap IntKind.i64 (IntKind.wrap IntKind.i64 ((0 : Int) + 16) + 8) + IntKind.wrap IntKind.i64 (↑(UInt8.toNat (List.getD kHS20 (Int.toNat (IntKind.wrap IntKind.u8 (Int.fdiv (Int.fdiv x ((2 : Int) ^ 16)) ((2 : Int) ^ 8)))) (0 : UInt8))) : Int)))) [] (Zi (lenI x)) [])) (.req ((0 : Int) ≤ IntKind.wrap IntKind.u8 (Int.fdiv x ((2 : Int) ^ 16)) ∧ IntKind.wrap IntKind.u8 (Int.fdiv x ((2 : Int) ^ 16)) < (↑(256) : Int)) (.out (Zi (IntKind.wrap IntKind.i64 (IntKind.wrap IntKind.i64 ((0 : Int) + 16) + IntKind.wrap IntKind.i64 (↑(UInt8.toNat (List.getD kHS20 (Int.toNat (IntKind.wrap IntKind.u8 (Int.fdiv x ((2 : Int) ^ 16)))) (0 : UInt8))) : Int)))) [] (Zi (lenI x)) []))) (.br (decide (x ≥ 256)) (.req ((0 : Int) ≤ IntKind.wrap IntKind.u8 (Int.fdiv x ((2 : Int) ^ 8)) ∧ IntKind.wrap IntKind.u8 (Int.fdiv x ((2 : Int) ^ 8)) < (↑(256) : Int)) (.out (Zi (IntKind.wrap IntKind.i64 (IntKind.wrap IntKind.i64 ((0 : Int) + 8) + IntKind.wrap IntKind.i64 (↑(UInt8.toNat (List.getD kHS20 (Int.toNat (IntKind.wrap IntKind.u8 (Int.fdiv x ((2 : Int) ^ 8)))) (0 : UInt8))) : Int)))) [] (Zi (lenI x)) [])) (.req ((0 : Int) ≤ IntKind.wrap IntKind.u8 x ∧ IntKind.wrap IntKind.u8 x < (↑(256) : Int)) (.out (Zi (IntKind.wrap IntKind.i64 ((0 : Int) + IntKind.wrap IntKind.i64 (↑(UInt8.toNat (List.getD kHS20 (Int.toNat (IntKind.wrap IntKind.u8 x)) (0 : UInt8))) : Int)))) [] (Zi (lenI x)) [])))))
    (by kernel_rfl) ?_
  refine k_br (fun h0 => ?_) (fun h0 => ?_)
  · have g0 := cnd_dec_t h0
    refine k_br (fun h1 => ?_) (fun h1 => ?_)
    · have g1 := cnd_dec_t h1
      refine k_br (fun h2 => ?_) (fun h2 => ?_)
      · have g2 := cnd_dec_t h2
        refine k_req (by (try simp only [shr32, shr16, shr8] at *); rw [wu8 (by omega) (by omega)]; exact ⟨by omega, by omega⟩) ?_
        exact k_out (Ent.of_eq (congrArg _ (by
                                                                                                     try simp only [shr32, shr16, shr8] at *
                                                                                                     refine Eq.trans (len_fin (by omega) (by omega) (by decide) (by decide)) ?_
                                                                                                     rw [len_step (x := x) 32 (by omega), len_step (x := (x / 2 ^ 32)) 16 (by omega), len_step (x := ((x / 2 ^ 32) / 2 ^ 16)) 8 (by omega)]; (try rw [show IntKind.wrap .i64 ((32 : Int) + 16) = 48 from by decide]); (try rw [show IntKind.wrap .i64 ((48 : Int) + 8) = 56 from by decide]); (try rw [show IntKind.wrap .i64 ((32 : Int) + 8) = 40 from by decide]); (try rw [show IntKind.wrap .i64 ((0 : Int) + 16) = 16 from by decide]); (try rw [show IntKind.wrap .i64 ((16 : Int) + 8) = 24 from by decide]); (try rw [show IntKind.wrap .i64 ((0 : Int) + 8) = 8 from by decide]); omega)))
      · have g2 := cnd_dec_f h2
        refine k_req (by (try simp only [shr32, shr16, shr8] at *); rw [wu8 (by omega) (by omega)]; exact ⟨by omega, by omega⟩) ?_
        exact k_out (Ent.of_eq (congrArg _ (by
                                                                                                     try simp only [shr32, shr16, shr8] at *
                                                                                                     refine Eq.trans (len_fin (by omega) (by omega) (by decide) (by decide)) ?_
                                                                                                     rw [len_step (x := x) 32 (by omega), len_step (x := (x / 2 ^ 32)) 16 (by omega)]; (try rw [show IntKind.wrap .i64 ((32 : Int) + 16) = 48 from by decide]); (try rw [show IntKind.wrap .i64 ((48 : Int) + 8) = 56 from by decide]); (try rw [show IntKind.wrap .i64 ((32 : Int) + 8) = 40 from by decide]); (try rw [show IntKind.wrap .i64 ((0 : Int) + 16) = 16 from by decide]); (try rw [show IntKind.wrap .i64 ((16 : Int) + 8) = 24 from by decide]); (try rw [show IntKind.wrap .i64 ((0 : Int) + 8) = 8 from by decide]); omega)))
    · have g1 := cnd_dec_f h1
      refine k_br (fun h7 => ?_) (fun h7 => ?_)
      · have g7 := cnd_dec_t h7
        refine k_req (by (try simp only [shr32, shr16, shr8] at *); rw [wu8 (by omega) (by omega)]; exact ⟨by omega, by omega⟩) ?_
        exact k_out (Ent.of_eq (congrArg _ (by
                                                                                                     try simp only [shr32, shr16, shr8] at *
                                                                                                     refine Eq.trans (len_fin (by omega) (by omega) (by decide) (by decide)) ?_
                                                                                                     rw [len_step (x := x) 32 (by omega), len_step (x := (x / 2 ^ 32)) 8 (by omega)]; (try rw [show IntKind.wrap .i64 ((32 : Int) + 16) = 48 from by decide]); (try rw [show IntKind.wrap .i64 ((48 : Int) + 8) = 56 from by decide]); (try rw [show IntKind.wrap .i64 ((32 : Int) + 8) = 40 from by decide]); (try rw [show IntKind.wrap .i64 ((0 : Int) + 16) = 16 from by decide]); (try rw [show IntKind.wrap .i64 ((16 : Int) + 8) = 24 from by decide]); (try rw [show IntKind.wrap .i64 ((0 : Int) + 8) = 8 from by decide]); omega)))
      · have g7 := cnd_dec_f h7
        refine k_req (by (try simp only [shr32, shr16, shr8] at *); rw [wu8 (by omega) (by omega)]; exact ⟨by omega, by omega⟩) ?_
        exact k_out (Ent.of_eq (congrArg _ (by
                                                                                                     try simp only [shr32, shr16, shr8] at *
                                                                                                     refine Eq.trans (len_fin (by omega) (by omega) (by decide) (by decide)) ?_
                                                                                                     rw [len_step (x := x) 32 (by omega)]; (try rw [show IntKind.wrap .i64 ((32 : Int) + 16) = 48 from by decide]); (try rw [show IntKind.wrap .i64 ((48 : Int) + 8) = 56 from by decide]); (try rw [show IntKind.wrap .i64 ((32 : Int) + 8) = 40 from by decide]); (try rw [show IntKind.wrap .i64 ((0 : Int) + 16) = 16 from by decide]); (try rw [show IntKind.wrap .i64 ((16 : Int) + 8) = 24 from by decide]); (try rw [show IntKind.wrap .i64 ((0 : Int) + 8) = 8 from by decide]); omega)))
  · have g0 := cnd_dec_f h0
    refine k_br (fun h12 => ?_) (fun h12 => ?_)
    · have g12 := cnd_dec_t h12
      refine k_br (fun h13 => ?_) (fun h13 => ?_)
      · have g13 := cnd_dec_t h13
        refine k_req (by (try simp only [shr32, shr16, shr8] at *); rw [wu8 (by omega) (by omega)]; exact ⟨by omega, by omega⟩) ?_
        exact k_out (Ent.of_eq (congrArg _ (by
                                                                                                     try simp only [shr32, shr16, shr8] at *
                                                                                                     refine Eq.trans (len_fin (by omega) (by omega) (by decide) (by decide)) ?_
                                                                                                     rw [len_step (x := x) 16 (by omega), len_step (x := (x / 2 ^ 16)) 8 (by omega)]; (try rw [show IntKind.wrap .i64 ((32 : Int) + 16) = 48 from by decide]); (try rw [show IntKind.wrap .i64 ((48 : Int) + 8) = 56 from by decide]); (try rw [show IntKind.wrap .i64 ((32 : Int) + 8) = 40 from by decide]); (try rw [show IntKind.wrap .i64 ((0 : Int) + 16) = 16 from by decide]); (try rw [show IntKind.wrap .i64 ((16 : Int) + 8) = 24 from by decide]); (try rw [show IntKind.wrap .i64 ((0 : Int) + 8) = 8 from by decide]); omega)))
      · have g13 := cnd_dec_f h13
        refine k_req (by (try simp only [shr32, shr16, shr8] at *); rw [wu8 (by omega) (by omega)]; exact ⟨by omega, by omega⟩) ?_
        exact k_out (Ent.of_eq (congrArg _ (by
                                                                                                     try simp only [shr32, shr16, shr8] at *
                                                                                                     refine Eq.trans (len_fin (by omega) (by omega) (by decide) (by decide)) ?_
                                                                                                     rw [len_step (x := x) 16 (by omega)]; (try rw [show IntKind.wrap .i64 ((32 : Int) + 16) = 48 from by decide]); (try rw [show IntKind.wrap .i64 ((48 : Int) + 8) = 56 from by decide]); (try rw [show IntKind.wrap .i64 ((32 : Int) + 8) = 40 from by decide]); (try rw [show IntKind.wrap .i64 ((0 : Int) + 16) = 16 from by decide]); (try rw [show IntKind.wrap .i64 ((16 : Int) + 8) = 24 from by decide]); (try rw [show IntKind.wrap .i64 ((0 : Int) + 8) = 8 from by decide]); omega)))
    · have g12 := cnd_dec_f h12
      refine k_br (fun h18 => ?_) (fun h18 => ?_)
      · have g18 := cnd_dec_t h18
        refine k_req (by (try simp only [shr32, shr16, shr8] at *); rw [wu8 (by omega) (by omega)]; exact ⟨by omega, by omega⟩) ?_
        exact k_out (Ent.of_eq (congrArg _ (by
                                                                                                     try simp only [shr32, shr16, shr8] at *
                                                                                                     refine Eq.trans (len_fin (by omega) (by omega) (by decide) (by decide)) ?_
                                                                                                     rw [len_step (x := x) 8 (by omega)]; (try rw [show IntKind.wrap .i64 ((32 : Int) + 16) = 48 from by decide]); (try rw [show IntKind.wrap .i64 ((48 : Int) + 8) = 56 from by decide]); (try rw [show IntKind.wrap .i64 ((32 : Int) + 8) = 40 from by decide]); (try rw [show IntKind.wrap .i64 ((0 : Int) + 16) = 16 from by decide]); (try rw [show IntKind.wrap .i64 ((16 : Int) + 8) = 24 from by decide]); (try rw [show IntKind.wrap .i64 ((0 : Int) + 8) = 8 from by decide]); omega)))
      · have g18 := cnd_dec_f h18
        refine k_req (by (try simp only [shr32, shr16, shr8] at *); rw [wu8 (by omega) (by omega)]; exact ⟨by omega, by omega⟩) ?_
        exact k_out (Ent.of_eq (congrArg _ (by
                                                                                                     try simp only [shr32, shr16, shr8] at *
                                                                                                     refine Eq.trans (len_fin (by omega) (by omega) (by decide) (by decide)) ?_
                                                                                                     omega)))

end Go.Proofs.YtolcfdcoidpieaaGreatDoor

namespace Go.Proofs.YtolcfdcoidpieaaGreatDoor
open Go Go.Am Go.Sp
set_option maxRecDepth 100000

theorem lz64_c (x : Int) (h : 0 ≤ x) (h' : x < 18446744073709551616) : Pure Tryz.prog gl0 276 [.int .u64 x] (.int .i64 (64 - lenI x)) := by
  refine pure_sk (own := ow0) Tryz.func276 (by kernel_rfl) mixed (by kernel_rfl)
    (.sc (true) 290 ([Zu x]) (Zi (lenI x)) (.out (Zi (IntKind.wrap IntKind.i64 ((64 : Int) - lenI x))) [] (Zi ((64 : Int) - lenI x)) []))
    (by kernel_rfl) ?_
  refine k_sc (len64_c (x) (by assumption) (by assumption)) ?_
  exact k_out (Ent.of_eq (congrArg _ (wI (by have := lenI_bnd h h'; omega) (by have := lenI_bnd h h'; omega))))

theorem div64_c (x y z : Int) (hv : Div x y z) : Pure Tryz.prog gl0 249 [.int .u64 x, .int .u64 y, .int .u64 z] (.tup [.int .u64 ((x * 18446744073709551616 + y) / z), .int .u64 ((x * 18446744073709551616 + y) % z)]) := by
  have hx0 := hv.x0
  have hxz := hv.xz
  have hz1 := hv.z1
  have hy0 := hv.y0
  have hy1 := hv.y1
  have hs := hv.sh
  have d1 := hv.dig1
  have d2 := hv.dig2
  have a1 := d1.a
  have hd0 := d1.d0
  have hd1 := d1.d1
  have he0 := d2.d0
  have he1 := d2.d1
  refine pure_sk (own := ow0) Tryz.func249 (by kernel_rfl) mixed (by kernel_rfl)
    (let y0 : Nat := (Int.toNat (IntKind.wrap IntKind.u64 ((64 : Int) - lenI z))); let y1 : AV := (AV.tup [Zu ((x * 18446744073709551616 + y) / z), Zu ((x * 18446744073709551616 + y) % z)]); let y2 : Nat := (Int.toNat (IntKind.wrap IntKind.u64 ((64 : Int) - IntKind.wrap IntKind.u64 ((64 : Int) - lenI z)))); let y3 : Nat := (Int.toNat (↑(shI z) : Int)); (.br (z == 0) .no (.br (decide (z ≤ x)) .no (.br (x == 0) (.req (z ≠ (0 : Int)) (.req (z ≠ (0 : Int)) (.out (AV.tup [Zu (IntKind.wrap IntKind.u64 (Int.tdiv y z)), Zu (Int.tmod y z)]) [] y1 []))) (.sc (true) 276 ([Zu z]) (Zi ((64 : Int) - lenI z)) (.req ((0 : Int) ≤ IntKind.wrap IntKind.u64 ((64 : Int) - lenI z)) (.req ((0 : Int) ≤ IntKind.wrap IntKind.u64 ((64 : Int) - lenI z)) (.req ((0 : Int) ≤ IntKind.wrap IntKind.u64 ((64 : Int) - IntKind.wrap IntKind.u64 ((64 : Int) - lenI z))) (.req ((0 : Int) ≤ IntKind.wrap IntKind.u64 ((64 : Int) - lenI z)) (.req (Int.fdiv (IntKind.wrap IntKind.u64 (z * 2 ^ min y0 64)) ((2 : Int) ^ 32) ≠ (0 : Int)) (.loop ({ x_1 : Int × Int // (fun (s : Int × Int) => Est (dY z / 4294967296) (dY z % 4294967296) (dU1 x y z) (dU0 x y z / 4294967296) (Prod.fst s) (Prod.snd s) ∧ Prod.snd s < 4294967296) x_1 }) (fun (x_1 : { x_1 : Int × Int // (fun (s : Int × Int) => Est (dY z / 4294967296) (dY z % 4294967296) (dU1 x y z) (dU0 x y z / 4294967296) (Prod.fst s) (Prod.snd s) ∧ Prod.snd s < 4294967296) x_1 }) => mkSt [2, 8, 9, 10, 14, 11, 13, 15, 16] [Zu (dY z), Zu (↑(shI z) : Int), Zu (dY z / 4294967296), Zu (dY z % 4294967296), Zu (dU0 x y z % 4294967296), Zu (dU1 x y z), Zu (dU0 x y z / 4294967296), Zu (Prod.fst (Subtype.val x_1)), Zu (Prod.snd (Subtype.val x_1))] []) (fun (x_1 : { x_1 : Int × Int // (fun (s : Int × Int) => Est (dY z / 4294967296) (dY z % 4294967296) (dU1 x y z) (dU0 x y z / 4294967296) (Prod.fst s) (Prod.snd s) ∧ Prod.snd s < 4294967296) x_1 }) => (fun (s : Int × Int) => Int.toNat (Prod.fst s)) (Subtype.val x_1)) (⟨(dU1 x y z / (dY z / 4294967296), dU1 x y z - dU1 x y z / (dY z / 4294967296) * (dY z / 4294967296)), Dig.init (Div.dig1 hv)⟩) ([2, 8, 9, 10, 14, 11, 13, 15, 16]) ([]) ([Zu (IntKind.wrap IntKind.u64 (z * 2 ^ min y0 64)), Zu (IntKind.wrap IntKind.u64 ((64 : Int) - lenI z)), Zu (Int.fdiv (IntKind.wrap IntKind.u64 (z * 2 ^ min y0 64)) ((2 : Int) ^ 32)), Zu (IntKind.wrap IntKind.u64 (↑(BitVec.toNat (BitVec.ofInt 64 (IntKind.wrap IntKind.u64 (z * 2 ^ min y0 64)) &&& BitVec.ofInt 64 (4294967295 : Int))) : Int)), Zu (IntKind.wrap IntKind.u64 (↑(BitVec.toNat (BitVec.ofInt 64 (IntKind.wrap IntKind.u64 (y * 2 ^ min y0 64)) &&& BitVec.ofInt 64 (4294967295 : Int))) : Int)), Zu (IntKind.wrap IntKind.u64 (↑(BitVec.toNat (BitVec.ofInt 64 (IntKind.wrap IntKind.u64 (x * 2 ^ min y0 64)) ||| BitVec.ofInt 64 (Int.fdiv y ((2 : Int) ^ min y2 64)))) : Int)), Zu (Int.fdiv (IntKind.wrap IntKind.u64 (y * 2 ^ min y0 64)) ((2 : Int) ^ 32)), Zu (IntKind.wrap IntKind.u64 (Int.tdiv (IntKind.wrap IntKind.u64 (↑(BitVec.toNat (BitVec.ofInt 64 (IntKind.wrap IntKind.u64 (x * 2 ^ min y0 64)) ||| BitVec.ofInt 64 (Int.fdiv y ((2 : Int) ^ min y2 64)))) : Int)) (Int.fdiv (IntKind.wrap IntKind.u64 (z * 2 ^ min y0 64)) ((2 : Int) ^ 32)))), Zu (IntKind.wrap IntKind.u64 (IntKind.wrap IntKind.u64 (↑(BitVec.toNat (BitVec.ofInt 64 (IntKind.wrap IntKind.u64 (x * 2 ^ min y0 64)) ||| BitVec.ofInt 64 (Int.fdiv y ((2 : Int) ^ min y2 64)))) : Int) - IntKind.wrap IntKind.u64 (IntKind.wrap IntKind.u64 (Int.tdiv (IntKind.wrap IntKind.u64 (↑(BitVec.toNat (BitVec.ofInt 64 (IntKind.wrap IntKind.u64 (x * 2 ^ min y0 64)) ||| BitVec.ofInt 64 (Int.fdiv y ((2 : Int) ^ min y2 64)))) : Int)) (Int.fdiv (IntKind.wrap IntKind.u64 (z * 2 ^ min y0 64)) ((2 : Int) ^ 32))) * Int.fdiv (IntKind.wrap IntKind.u64 (z * 2 ^ min y0 64)) ((2 : Int) ^ 32))))]) ([]) (fun x14 => (.br (decide ((x14.1).1 ≥ 4294967296) || decide (IntKind.wrap IntKind.u64 ((x14.1).1 * (dY z % 4294967296)) > IntKind.wrap IntKind.u64 (IntKind.wrap IntKind.u64 ((4294967296 : Int) * (x14.1).2) + dU0 x y z / 4294967296))) (.br (decide (IntKind.wrap IntKind.u64 ((x14.1).2 + dY z / 4294967296) ≥ 4294967296)) (.req (dY z / 4294967296 ≠ (0 : Int)) (.loop ({ x_1 : Int × Int // (fun (s : Int × Int) => Est (dY z / 4294967296) (dY z % 4294967296) (dR x y z) (dU0 x y z % 4294967296) (Prod.fst s) (Prod.snd s) ∧ Prod.snd s < 4294967296) x_1 }) (fun (x_1 : { x_1 : Int × Int // (fun (s : Int × Int) => Est (dY z / 4294967296) (dY z % 4294967296) (dR x y z) (dU0 x y z % 4294967296) (Prod.fst s) (Prod.snd s) ∧ Prod.snd s < 4294967296) x_1 }) => mkSt [2, 8, 9, 10, 14, 15, 17, 18, 16] [Zu (dY z), Zu (↑(shI z) : Int), Zu (dY z / 4294967296), Zu (dY z % 4294967296), Zu (dU0 x y z % 4294967296), Zu (dQ x y z), Zu (dR x y z), Zu (Prod.fst (Subtype.val x_1)), Zu (Prod.snd (Subtype.val x_1))] []) (fun (x_1 : { x_1 : Int × Int // (fun (s : Int × Int) => Est (dY z / 4294967296) (dY z % 4294967296) (dR x y z) (dU0 x y z % 4294967296) (Prod.fst s) (Prod.snd s) ∧ Prod.snd s < 4294967296) x_1 }) => (fun (s : Int × Int) => Int.toNat (Prod.fst s)) (Subtype.val x_1)) (⟨(dR x y z / (dY z / 4294967296), dR x y z - dR x y z / (dY z / 4294967296) * (dY z / 4294967296)), Dig.init (Div.dig2 hv)⟩) ([2, 8, 9, 10, 14, 15, 17, 18, 16]) ([]) ([Zu (dY z), Zu (↑(shI z) : Int), Zu (dY z / 4294967296), Zu (dY z % 4294967296), Zu (dU0 x y z % 4294967296), Zu (IntKind.wrap IntKind.u64 ((x14.1).1 - 1)), Zu (IntKind.wrap IntKind.u64 (IntKind.wrap IntKind.u64 (IntKind.wrap IntKind.u64 (dU1 x y z * 4294967296) + dU0 x y z / 4294967296) - IntKind.wrap IntKind.u64 (IntKind.wrap IntKind.u64 ((x14.1).1 - 1) * dY z))), Zu (IntKind.wrap IntKind.u64 (Int.tdiv (IntKind.wrap IntKind.u64 (IntKind.wrap IntKind.u64 (IntKind.wrap IntKind.u64 (dU1 x y z * 4294967296) + dU0 x y z / 4294967296) - IntKind.wrap IntKind.u64 (IntKind.wrap IntKind.u64 ((x14.1).1 - 1) * dY z))) (dY z / 4294967296))), Zu (IntKind.wrap IntKind.u64 (IntKind.wrap IntKind.u64 (IntKind.wrap IntKind.u64 (IntKind.wrap IntKind.u64 (dU1 x y z * 4294967296) + dU0 x y z / 4294967296) - IntKind.wrap IntKind.u64 (IntKind.wrap IntKind.u64 ((x14.1).1 - 1) * dY z)) - IntKind.wrap IntKind.u64 (IntKind.wrap IntKind.u64 (Int.tdiv (IntKind.wrap IntKind.u64 (IntKind.wrap IntKind.u64 (IntKind.wrap IntKind.u64 (dU1 x y z * 4294967296) + dU0 x y z / 4294967296) - IntKind.wrap IntKind.u64 (IntKind.wrap IntKind.u64 ((x14.1).1 - 1) * dY z))) (dY z / 4294967296)) * (dY z / 4294967296))))]) ([]) (fun x18 => (.br (decide ((x18.1).1 ≥ 4294967296) || decide (IntKind.wrap IntKind.u64 ((x18.1).1 * (dY z % 4294967296)) > IntKind.wrap IntKind.u64 (IntKind.wrap IntKind.u64 ((4294967296 : Int) * (x18.1).2) + dU0 x y z % 4294967296))) (.br (decide (IntKind.wrap IntKind.u64 ((x18.1).2 + dY z / 4294967296) ≥ 4294967296)) (.req ((0 : Int) ≤ (↑(shI z) : Int)) (.out (AV.tup [Zu (IntKind.wrap IntKind.u64 (IntKind.wrap IntKind.u64 (dQ x y z * 4294967296) + IntKind.wrap IntKind.u64 ((x18.1).1 - 1))), Zu (Int.fdiv (IntKind.wrap IntKind.u64 (IntKind.wrap IntKind.u64 (IntKind.wrap IntKind.u64 (dR x y z * 4294967296) + dU0 x y z % 4294967296) - IntKind.wrap IntKind.u64 (IntKind.wrap IntKind.u64 ((x18.1).1 - 1) * dY z))) ((2 : Int) ^ min y3 64))]) [] y1 [])) (.again (Again 0 (fun (x_1 : { x_1 : Int × Int // (fun (s : Int × Int) => Est (dY z / 4294967296) (dY z % 4294967296) (dR x y z) (dU0 x y z % 4294967296) (Prod.fst s) (Prod.snd s) ∧ Prod.snd s < 4294967296) x_1 }) => mkSt [2, 8, 9, 10, 14, 15, 17, 18, 16] [Zu (dY z), Zu (↑(shI z) : Int), Zu (dY z / 4294967296), Zu (dY z % 4294967296), Zu (dU0 x y z % 4294967296), Zu (dQ x y z), Zu (dR x y z), Zu (Prod.fst (Subtype.val x_1)), Zu (Prod.snd (Subtype.val x_1))] []) (fun (x_1 : { x_1 : Int × Int // (fun (s : Int × Int) => Est (dY z / 4294967296) (dY z % 4294967296) (dR x y z) (dU0 x y z % 4294967296) (Prod.fst s) (Prod.snd s) ∧ Prod.snd s < 4294967296) x_1 }) => (fun (s : Int × Int) => Int.toNat (Prod.fst s)) (Subtype.val x_1)) x18) ([2, 8, 9, 10, 14, 15, 17, 18, 16]) ([]) ([Zu (dY z), Zu (↑(shI z) : Int), Zu (dY z / 4294967296), Zu (dY z % 4294967296), Zu (dU0 x y z % 4294967296), Zu (dQ x y z), Zu (dR x y z), Zu (IntKind.wrap IntKind.u64 ((x18.1).1 - 1)), Zu (IntKind.wrap IntKind.u64 ((x18.1).2 + dY z / 4294967296))]) ([]))) (.req ((0 : Int) ≤ (↑(shI z) : Int)) (.out (AV.tup [Zu (IntKind.wrap IntKind.u64 (IntKind.wrap IntKind.u64 (dQ x y z * 4294967296) + (x18.1).1)), Zu (Int.fdiv (IntKind.wrap IntKind.u64 (IntKind.wrap IntKind.u64 (IntKind.wrap IntKind.u64 (dR x y z * 4294967296) + dU0 x y z % 4294967296) - IntKind.wrap IntKind.u64 ((x18.1).1 * dY z))) ((2 : Int) ^ min y3 64))]) [] y1 [])))))) (.again (Again 0 (fun (x_1 : { x_1 : Int × Int // (fun (s : Int × Int) => Est (dY z / 4294967296) (dY z % 4294967296) (dU1 x y z) (dU0 x y z / 4294967296) (Prod.fst s) (Prod.snd s) ∧ Prod.snd s < 4294967296) x_1 }) => mkSt [2, 8, 9, 10, 14, 11, 13, 15, 16] [Zu (dY z), Zu (↑(shI z) : Int), Zu (dY z / 4294967296), Zu (dY z % 4294967296), Zu (dU0 x y z % 4294967296), Zu (dU1 x y z), Zu (dU0 x y z / 4294967296), Zu (Prod.fst (Subtype.val x_1)), Zu (Prod.snd (Subtype.val x_1))] []) (fun (x_1 : { x_1 : Int × Int // (fun (s : Int × Int) => Est (dY z / 4294967296) (dY z % 4294967296) (dU1 x y z) (dU0 x y z / 4294967296) (Prod.fst s) (Prod.snd s) ∧ Prod.snd s < 4294967296) x_1 }) => (fun (s : Int × Int) => Int.toNat (Prod.fst s)) (Subtype.val x_1)) x14) ([2, 8, 9, 10, 14, 11, 13, 15, 16]) ([]) ([Zu (dY z), Zu (↑(shI z) : Int), Zu (dY z / 4294967296), Zu (dY z % 4294967296), Zu (dU0 x y z % 4294967296), Zu (dU1 x y z), Zu (dU0 x y z / 4294967296), Zu (IntKind.wrap IntKind.u64 ((x14.1).1 - 1)), Zu (IntKind.wrap IntKind.u64 ((x14.1).2 + dY z / 4294967296))]) ([]))) (.req (dY z / 4294967296 ≠ (0 : Int)) (.loop ({ x_1 : Int × Int // (fun (s : Int × Int) => Est (dY z / 4294967296) (dY z % 4294967296) (dR x y z) (dU0 x y z % 4294967296) (Prod.fst s) (Prod.snd s) ∧ Prod.snd s < 4294967296) x_1 }) (fun (x_1 : { x_1 : Int × Int // (fun (s : Int × Int) => Est (dY z / 4294967296) (dY z % 4294967296) (dR x y z) (dU0 x y z % 4294967296) (Prod.fst s) (Prod.snd s) ∧ Prod.snd s < 4294967296) x_1 }) => mkSt [2, 8, 9, 10, 14, 15, 17, 18, 16] [Zu (dY z), Zu (↑(shI z) : Int), Zu (dY z / 4294967296), Zu (dY z % 4294967296), Zu (dU0 x y z % 4294967296), Zu (dQ x y z), Zu (dR x y z), Zu (Prod.fst (Subtype.val x_1)), Zu (Prod.snd (Subtype.val x_1))] []) (fun (x_1 : { x_1 : Int × Int // (fun (s : Int × Int) => Est (dY z / 4294967296) (dY z % 4294967296) (dR x y z) (dU0 x y z % 4294967296) (Prod.fst s) (Prod.snd s) ∧ Prod.snd s < 4294967296) x_1 }) => (fun (s : Int × Int) => Int.toNat (Prod.fst s)) (Subtype.val x_1)) (⟨(dR x y z / (dY z / 4294967296), dR x y z - dR x y z / (dY z / 4294967296) * (dY z / 4294967296)), Dig.init (Div.dig2 hv)⟩) ([2, 8, 9, 10, 14, 15, 17, 18, 16]) ([]) ([Zu (dY z), Zu (↑(shI z) : Int), Zu (dY z / 4294967296), Zu (dY z % 4294967296), Zu (dU0 x y z % 4294967296), Zu (x14.1).1, Zu (IntKind.wrap IntKind.u64 (IntKind.wrap IntKind.u64 (IntKind.wrap IntKind.u64 (dU1 x y z * 4294967296) + dU0 x y z / 4294967296) - IntKind.wrap IntKind.u64 ((x14.1).1 * dY z))), Zu (IntKind.wrap IntKind.u64 (Int.tdiv (IntKind.wrap IntKind.u64 (IntKind.wrap IntKind.u64 (IntKind.wrap IntKind.u64 (dU1 x y z * 4294967296) + dU0 x y z / 4294967296) - IntKind.wrap IntKind.u64 ((x14.1).1 * dY z))) (dY z / 4294967296))), Zu (IntKind.wrap IntKind.u64 (IntKind.wrap IntKind.u64 (IntKind.wrap IntKind.u64 (IntKind.wrap IntKind.u64 (dU1 x y z * 4294967296) + dU0 x y z / 4294967296) - IntKind.wrap IntKind.u64 ((x14.1).1 * dY z)) - IntKind.wrap IntKind.u64 (IntKind.wrap IntKind.u64 (Int.tdiv (IntKind.wrap IntKind.u64 (IntKind.wrap IntKind.u64 (IntKind.wrap IntKind.u64 (dU1 x y z * 4294967296) + dU0 x y z / 4294967296) - IntKind.wrap IntKind.u64 ((x14.1).1 * dY z))) (dY z / 4294967296)) * (dY z / 4294967296))))]) ([]) (fun x28 => (.br (decide ((x28.1).1 ≥ 4294967296) || decide (IntKind.wrap IntKind.u64 ((x28.1).1 * (dY z % 4294967296)) > IntKind.wrap IntKind.u64 (IntKind.wrap IntKind.u64 ((4294967296 : Int) * (x28.1).2) + dU0 x y z % 4294967296))) (.br (decide (IntKind.wrap IntKind.u64 ((x28.1).2 + dY z / 4294967296) ≥ 4294967296)) (.req ((0 : Int) ≤ (↑(shI z) : Int)) (.out (AV.tup [Zu (IntKind.wrap IntKind.u64 (IntKind.wrap IntKind.u64 (dQ x y z * 4294967296) + IntKind.wrap IntKind.u64 ((x28.1).1 - 1))), Zu (Int.fdiv (IntKind.wrap IntKind.u64 (IntKind.wrap IntKind.u64 (IntKind.wrap IntKind.u64 (dR x y z * 4294967296) + dU0 x y z % 4294967296) - IntKind.wrap IntKind.u64 (IntKind.wrap IntKind.u64 ((x28.1).1 - 1) * dY z))) ((2 : Int) ^ min y3 64))]) [] y1 [])) (.again (Again 0 (fun (x_1 : { x_1 : Int × Int // (fun (s : Int × Int) => Est (dY z / 4294967296) (dY z % 4294967296) (dR x y z) (dU0 x y z % 4294967296) (Prod.fst s) (Prod.snd s) ∧ Prod.snd s < 4294967296) x_1 }) => mkSt [2, 8, 9, 10, 14, 15, 17, 18, 16] [Zu (dY z), Zu (↑(shI z) : Int), Zu (dY z / 4294967296), Zu (dY z % 4294967296), Zu (dU0 x y z % 4294967296), Zu (dQ x y z), Zu (dR x y z), Zu (Prod.fst (Subtype.val x_1)), Zu (Prod.snd (Subtype.val x_1))] []) (fun (x_1 : { x_1 : Int × Int // (fun (s : Int × Int) => Est (dY z / 4294967296) (dY z % 4294967296) (dR x y z) (dU0 x y z % 4294967296) (Prod.fst s) (Prod.snd s) ∧ Prod.snd s < 4294967296) x_1 }) => (fun (s : Int × Int) => Int.toNat (Prod.fst s)) (Subtype.val x_1)) x28) ([2, 8, 9, 10, 14, 15, 17, 18, 16]) ([]) ([Zu (dY z), Zu (↑(shI z) : Int), Zu (dY z / 4294967296), Zu (dY z % 4294967296), Zu (dU0 x y z % 4294967296), Zu (dQ x y z), Zu (dR x y z), Zu (IntKind.wrap IntKind.u64 ((x28.1).1 - 1)), Zu (IntKind.wrap IntKind.u64 ((x28.1).2 + dY z / 4294967296))]) ([]))) (.req ((0 : Int) ≤ (↑(shI z) : Int)) (.out (AV.tup [Zu (IntKind.wrap IntKind.u64 (IntKind.wrap IntKind.u64 (dQ x y z * 4294967296) + (x28.1).1)), Zu (Int.fdiv (IntKind.wrap IntKind.u64 (IntKind.wrap IntKind.u64 (IntKind.wrap IntKind.u64 (dR x y z * 4294967296) + dU0 x y z % 4294967296) - IntKind.wrap IntKind.u64 ((x28.1).1 * dY z))) ((2 : Int) ^ min y3 64))]) [] y1 [])))))))))))))))))))
    (by kernel_rfl) ?_
  refine k_br (fun h0 => ?_) (fun h0 => ?_)
  · have g0 := cnd_beq_t h0
    exact (show False from (by exfalso; omega))
  · have g0 := cnd_beq_f h0
    refine k_br (fun h2 => ?_) (fun h2 => ?_)
    · have g2 := cnd_dec_t h2
      exact (show False from (by exfalso; omega))
    · have g2 := cnd_dec_f h2
      refine k_br (fun h4 => ?_) (fun h4 => ?_)
      · have g4 := cnd_beq_t h4
        refine k_req (by omega) ?_
        refine k_req (by omega) ?_
        exact k_out (Ent.tup ⟨Ent.of_eq (congrArg _ (by subst g4; rw [tdiv_nn hy0, wu64 (Int.ediv_nonneg hy0 (by omega)) (Int.lt_of_le_of_lt (Int.ediv_le_self _ hy0) hy1)]; simp)), Ent.of_eq (congrArg _ (by subst g4; rw [tmod_nn hy0]; simp)), trivial⟩)
      · have g4 := cnd_beq_f h4
        refine k_sc (lz64_c (z) (by omega) (by assumption)) ?_
        refine k_req (by rw [hv.s]; omega) ?_
        refine k_req (by rw [hv.s]; omega) ?_
        refine k_req (by rw [hv.s, wu64 (by omega) (by omega)]; omega) ?_
        refine k_req (by rw [hv.s]; omega) ?_
        refine k_req (by rw [hv.v2, shr_eq]; omega) ?_
        refine k_loop (fun _ hs => hs.le (⟨Ent.of_eq (congrArg _ hv.v2), Ent.of_eq (congrArg _ hv.s), Ent.of_eq (congrArg _ (by rw [hv.v2, shr_eq]; rfl)), Ent.of_eq (congrArg _ (by rw [hv.v2, mask32 (by omega) (by omega)])), Ent.of_eq (congrArg _ (by rw [hv.v10, mask32 (by unfold dU0; omega) (by unfold dU0; omega)])), Ent.of_eq (congrArg _ hv.v11), Ent.of_eq (congrArg _ (by rw [hv.v10, shr_eq]; rfl)), Ent.of_eq (congrArg _ (by rw [hv.v11, hv.v2, shr_eq]; exact d1.q_w)), Ent.of_eq (congrArg _ (by rw [hv.v11, hv.v2, shr_eq]; exact d1.r_w)), trivial⟩) (trivial)) (fun x14 => ?_)
        try (have q14 := x14.2; dsimp only at q14)
        refine k_br (fun h15 => ?_) (fun h15 => ?_)
        · have g15 := (cnd_or_t cnd_dec_t cnd_dec_t) h15
          refine k_br (fun h16 => ?_) (fun h16 => ?_)
          · have g16 := cnd_dec_t h16
            refine k_req (by omega) ?_
            refine k_loop (fun _ hs => hs.le (⟨.refl _, .refl _, .refl _, .refl _, .refl _, Ent.of_eq (congrArg _ ((x14.2.1.brkW d1 x14.2.2 g15 g16).trans (Sp.Div.dQ_eq z))), Ent.of_eq (congrArg _ (hv.rem1 ((x14.2.1.brkW d1 x14.2.2 g15 g16).trans (Sp.Div.dQ_eq z)))), Ent.of_eq (congrArg _ (by rw [hv.rem1 ((x14.2.1.brkW d1 x14.2.2 g15 g16).trans (Sp.Div.dQ_eq z))]; exact d2.q_w)), Ent.of_eq (congrArg _ (by rw [hv.rem1 ((x14.2.1.brkW d1 x14.2.2 g15 g16).trans (Sp.Div.dQ_eq z))]; exact d2.r_w)), trivial⟩) (trivial)) (fun x18 => ?_)
            try (have q18 := x18.2; dsimp only at q18)
            refine k_br (fun h19 => ?_) (fun h19 => ?_)
            · have g19 := (cnd_or_t cnd_dec_t cnd_dec_t) h19
              refine k_br (fun h20 => ?_) (fun h20 => ?_)
              · have g20 := cnd_dec_t h20
                refine k_req (by omega) ?_
                exact k_out (Ent.tup ⟨Ent.of_eq (congrArg _ (hv.out (x18.2.1.brkW d2 x18.2.2 g19 g20)).1), Ent.of_eq (congrArg _ (hv.out (x18.2.1.brkW d2 x18.2.2 g19 g20)).2), trivial⟩)
              · have g20 := cnd_dec_f h20
                exact k_again (⟨(x18.1.1 - 1, x18.1.2 + dY z / 4294967296), x18.2.1.nextW d2 x18.2.2 g19 g20⟩) (fun _ hs => hs.le (⟨.refl _, .refl _, .refl _, .refl _, .refl _, .refl _, .refl _, Ent.of_eq (congrArg _ (x18.2.1.stepW d2 x18.2.2 g19).1), Ent.of_eq (congrArg _ (x18.2.1.stepW d2 x18.2.2 g19).2), trivial⟩) (trivial)) (by have := x18.2.1.more d2 (x18.2.1.cond_t d2 x18.2.2 g19); show Int.toNat (x18.1.1 - 1) < Int.toNat x18.1.1; omega)
            · have g19 := (cnd_or_f cnd_dec_f cnd_dec_f) h19
              refine k_req (by omega) ?_
              exact k_out (Ent.tup ⟨Ent.of_eq (congrArg _ (hv.out (x18.2.1.stop d2 (x18.2.1.cond_f d2 x18.2.2 g19))).1), Ent.of_eq (congrArg _ (hv.out (x18.2.1.stop d2 (x18.2.1.cond_f d2 x18.2.2 g19))).2), trivial⟩)
          · have g16 := cnd_dec_f h16
            exact k_again (⟨(x14.1.1 - 1, x14.1.2 + dY z / 4294967296), x14.2.1.nextW d1 x14.2.2 g15 g16⟩) (fun _ hs => hs.le (⟨.refl _, .refl _, .refl _, .refl _, .refl _, .refl _, .refl _, Ent.of_eq (congrArg _ (x14.2.1.stepW d1 x14.2.2 g15).1), Ent.of_eq (congrArg _ (x14.2.1.stepW d1 x14.2.2 g15).2), trivial⟩) (trivial)) (by have := x14.2.1.more d1 (x14.2.1.cond_t d1 x14.2.2 g15); show Int.toNat (x14.1.1 - 1) < Int.toNat x14.1.1; omega)
        · have g15 := (cnd_or_f cnd_dec_f cnd_dec_f) h15
          refine k_req (by omega) ?_
          refine k_loop (fun _ hs => hs.le (⟨.refl _, .refl _, .refl _, .refl _, .refl _, Ent.of_eq (congrArg _ ((x14.2.1.stop d1 (x14.2.1.cond_f d1 x14.2.2 g15)).trans (Sp.Div.dQ_eq z))), Ent.of_eq (congrArg _ (hv.rem1 ((x14.2.1.stop d1 (x14.2.1.cond_f d1 x14.2.2 g15)).trans (Sp.Div.dQ_eq z)))), Ent.of_eq (congrArg _ (by rw [hv.rem1 ((x14.2.1.stop d1 (x14.2.1.cond_f d1 x14.2.2 g15)).trans (Sp.Div.dQ_eq z))]; exact d2.q_w)), Ent.of_eq (congrArg _ (by rw [hv.rem1 ((x14.2.1.stop d1 (x14.2.1.cond_f d1 x14.2.2 g15)).trans (Sp.Div.dQ_eq z))]; exact d2.r_w)), trivial⟩) (trivial)) (fun x28 => ?_)
          try (have q28 := x28.2; dsimp only at q28)
          refine k_br (fun h29 => ?_) (fun h29 => ?_)
          · have g29 := (cnd_or_t cnd_dec_t cnd_dec_t) h29
            refine k_br (fun h30 => ?_) (fun h30 => ?_)
            · have g30 := cnd_dec_t h30
              refine k_req (by omega) ?_
              exact k_out (Ent.tup ⟨Ent.of_eq (congrArg _ (hv.out (x28.2.1.brkW d2 x28.2.2 g29 g30)).1), Ent.of_eq (congrArg _ (hv.out (x28.2.1.brkW d2 x28.2.2 g29 g30)).2), trivial⟩)
            · have g30 := cnd_dec_f h30
              exact k_again (⟨(x28.1.1 - 1, x28.1.2 + dY z / 4294967296), x28.2.1.nextW d2 x28.2.2 g29 g30⟩) (fun _ hs => hs.le (⟨.refl _, .refl _, .refl _, .refl _, .refl _, .refl _, .refl _, Ent.of_eq (congrArg _ (x28.2.1.stepW d2 x28.2.2 g29).1), Ent.of_eq (congrArg _ (x28.2.1.stepW d2 x28.2.2 g29).2), trivial⟩) (trivial)) (by have := x28.2.1.more d2 (x28.2.1.cond_t d2 x28.2.2 g29); show Int.toNat (x28.1.1 - 1) < Int.toNat x28.1.1; omega)
          · have g29 := (cnd_or_f cnd_dec_f cnd_dec_f) h29
            refine k_req (by omega) ?_
            exact k_out (Ent.tup ⟨Ent.of_eq (congrArg _ (hv.out (x28.2.1.stop d2 (x28.2.1.cond_f d2 x28.2.2 g29))).1), Ent.of_eq (congrArg _ (hv.out (x28.2.1.stop d2 (x28.2.1.cond_f d2 x28.2.2 g29))).2), trivial⟩)

end Go.Proofs.YtolcfdcoidpieaaGreatDoor

namespace Go.Proofs.YtolcfdcoidpieaaGreatDoor
open Go Go.Am Go.Sp
set_option maxRecDepth 100000

theorem pmul_c (a b n : Int) (ha : 0 ≤ a) (ha' : a < 18446744073709551616) (hb : 0 ≤ b) (hb' : b < 18446744073709551616) (hn : n < 18446744073709551616) (hab : a * b < n * 18446744073709551616) : Pure Tryz.prog gl0 246 [.int .u64 a, .int .u64 b, .int .u64 n] (.int .u64 (a * b % n)) := by
  have h0 := Int.mul_nonneg ha hb
  refine pure_sk (own := ow0) Tryz.func246 (by kernel_rfl) mixed (by kernel_rfl)
    (.sc (true) 248 ([Zu a, Zu b]) (AV.tup [Zu (a * b / 18446744073709551616), Zu (a * b % 18446744073709551616)]) (.sc (true) 249 ([Zu (a * b / 18446744073709551616), Zu (a * b % 18446744073709551616), Zu n]) (AV.tup [Zu ((a * b / 18446744073709551616 * 18446744073709551616 + a * b % 18446744073709551616) / n), Zu ((a * b / 18446744073709551616 * 18446744073709551616 + a * b % 18446744073709551616) % n)]) (.out (Zu ((a * b / 18446744073709551616 * 18446744073709551616 + a * b % 18446744073709551616) % n)) [] (Zu (a * b % n)) [])))
    (by kernel_rfl) ?_
  refine k_sc (mul64_c (a) (b) (by assumption) (by assumption) (by assumption) (by assumption)) ?_
  refine k_sc (div64_c (a * b / (18446744073709551616 : Int)) (a * b % (18446744073709551616 : Int)) (n) (⟨by omega, by omega, by omega, by omega, by omega⟩)) ?_
  exact k_out (Ent.of_eq (congrArg _ (by rw [show a * b / 18446744073709551616 * 18446744073709551616 + a * b % 18446744073709551616 = a * b by omega])))

theorem ppow_c (a e n : Int) (ha : 0 ≤ a) (ha' : a < n) (he : 0 ≤ e) (he' : e < 18446744073709551616) (hn : 2 ≤ n) (hn' : n < 18446744073709551616) : Pure Tryz.prog gl0 245 [.int .u64 a, .int .u64 e, .int .u64 n] (.int .u64 (a ^ e.toNat % n)) := by
  refine pure_sk (own := ow0) Tryz.func245 (by kernel_rfl) mixed (by kernel_rfl)
    (.loop ({ x : Int × Int × Int // (fun (s : Int × Int × Int) => PwI a (Int.toNat e) n s ∧ Prod.snd (Prod.snd s) < 18446744073709551616) x }) (fun (x : { x : Int × Int × Int // (fun (s : Int × Int × Int) => PwI a (Int.toNat e) n s ∧ Prod.snd (Prod.snd s) < 18446744073709551616) x }) => mkSt [2, 7, 0, 1] [Zu n, Zu (Prod.fst (x.1)), Zu (Prod.fst (Prod.snd (x.1))), Zu (Prod.snd (Prod.snd (x.1)))] []) (fun (x : { x : Int × Int × Int // (fun (s : Int × Int × Int) => PwI a (Int.toNat e) n s ∧ Prod.snd (Prod.snd s) < 18446744073709551616) x }) => (fun (s : Int × Int × Int) => Int.toNat (Prod.snd (Prod.snd s))) (x.1)) (⟨((1 : Int) % n, a, e), ⟨PwI.start ha ha' he, he'⟩⟩) ([2, 7, 0, 1]) ([]) ([Zu n, Zu 1, Zu a, Zu e]) ([]) (fun x0 => (.br (decide ((Prod.snd (x0.1)).2 > 0)) (.br (IntKind.wrap IntKind.u64 (↑(BitVec.toNat (BitVec.ofInt 64 (Prod.snd (x0.1)).2 &&& BitVec.ofInt 64 (1 : Int))) : Int) == 1) (.sc (true) 246 ([Zu (x0.1).1, Zu (Prod.snd (x0.1)).1, Zu n]) (Zu ((x0.1).1 * (Prod.snd (x0.1)).1 % n)) (.sc (true) 246 ([Zu (Prod.snd (x0.1)).1, Zu (Prod.snd (x0.1)).1, Zu n]) (Zu ((Prod.snd (x0.1)).1 * (Prod.snd (x0.1)).1 % n)) (.again (Again 0 (fun (x : { x : Int × Int × Int // (fun (s : Int × Int × Int) => PwI a (Int.toNat e) n s ∧ Prod.snd (Prod.snd s) < 18446744073709551616) x }) => mkSt [2, 7, 0, 1] [Zu n, Zu (Prod.fst (x.1)), Zu (Prod.fst (Prod.snd (x.1))), Zu (Prod.snd (Prod.snd (x.1)))] []) (fun (x : { x : Int × Int × Int // (fun (s : Int × Int × Int) => PwI a (Int.toNat e) n s ∧ Prod.snd (Prod.snd s) < 18446744073709551616) x }) => (fun (s : Int × Int × Int) => Int.toNat (Prod.snd (Prod.snd s))) (x.1)) x0) ([2, 7, 0, 1]) ([]) ([Zu n, Zu ((x0.1).1 * (Prod.snd (x0.1)).1 % n), Zu ((Prod.snd (x0.1)).1 * (Prod.snd (x0.1)).1 % n), Zu (Int.fdiv (Prod.snd (x0.1)).2 ((2 : Int) ^ 1))]) ([])))) (.sc (true) 246 ([Zu (Prod.snd (x0.1)).1, Zu (Prod.snd (x0.1)).1, Zu n]) (Zu ((Prod.snd (x0.1)).1 * (Prod.snd (x0.1)).1 % n)) (.again (Again 0 (fun (x : { x : Int × Int × Int // (fun (s : Int × Int × Int) => PwI a (Int.toNat e) n s ∧ Prod.snd (Prod.snd s) < 18446744073709551616) x }) => mkSt [2, 7, 0, 1] [Zu n, Zu (Prod.fst (x.1)), Zu (Prod.fst (Prod.snd (x.1))), Zu (Prod.snd (Prod.snd (x.1)))] []) (fun (x : { x : Int × Int × Int // (fun (s : Int × Int × Int) => PwI a (Int.toNat e) n s ∧ Prod.snd (Prod.snd s) < 18446744073709551616) x }) => (fun (s : Int × Int × Int) => Int.toNat (Prod.snd (Prod.snd s))) (x.1)) x0) ([2, 7, 0, 1]) ([]) ([Zu n, Zu (x0.1).1, Zu ((Prod.snd (x0.1)).1 * (Prod.snd (x0.1)).1 % n), Zu (Int.fdiv (Prod.snd (x0.1)).2 ((2 : Int) ^ 1))]) ([])))) (.out (Zu (x0.1).1) [] (Zu (a ^ Int.toNat e % n)) []))))
    (by kernel_rfl) ?_
  refine k_loop (fun _ hs => hs.le (⟨.refl _, Ent.of_eq (congrArg _ (Int.emod_eq_of_lt (by omega) (by omega)).symm), .refl _, .refl _, trivial⟩) (trivial)) (fun x0 => ?_)
  try (have q0 := x0.2; dsimp only at q0)
  have i0 := x0.2.1.x0; have i1 := x0.2.1.x1; have i2 := x0.2.1.a0; have i3 := x0.2.1.a1; have i4 := x0.2.1.e0; have i5 := x0.2.2; dsimp only at i0 i1 i2 i3 i4 i5; have b0 := bit0 i4 i5
  refine k_br (fun h1 => ?_) (fun h1 => ?_)
  · have g1 := cnd_dec_t h1
    refine k_br (fun h2 => ?_) (fun h2 => ?_)
    · have g2 := cnd_beq_t h2
      refine k_sc (pmul_c ((x0.1).1) ((Prod.snd (x0.1)).1) (n) (by assumption) (by omega) (by assumption) (by omega) (by assumption) (by exact pmul_bnd (by omega) (by omega) (by omega) (by omega))) ?_
      refine k_sc (pmul_c ((Prod.snd (x0.1)).1) ((Prod.snd (x0.1)).1) (n) (by assumption) (by omega) (by assumption) (by omega) (by assumption) (by exact pmul_bnd (by omega) (by omega) (by omega) (by omega))) ?_
      exact k_again (⟨(x0.1.1 * x0.1.2.1 % n, x0.1.2.1 * x0.1.2.1 % n, x0.1.2.2 / 2), x0.2.1.odd' (by omega) (b0.symm.trans g2), by dsimp only; omega⟩) (fun _ hs => hs.le (⟨.refl _, .refl _, .refl _, Ent.of_eq (congrArg _ (fdiv2 _)), trivial⟩) (trivial)) (by show Int.toNat (x0.1.2.2 / 2) < Int.toNat x0.1.2.2; omega)
    · have g2 := cnd_beq_f h2
      refine k_sc (pmul_c ((Prod.snd (x0.1)).1) ((Prod.snd (x0.1)).1) (n) (by assumption) (by omega) (by assumption) (by omega) (by assumption) (by exact pmul_bnd (by omega) (by omega) (by omega) (by omega))) ?_
      exact k_again (⟨(x0.1.1, x0.1.2.1 * x0.1.2.1 % n, x0.1.2.2 / 2), x0.2.1.even' (by omega) (by rw [b0] at g2; omega), by dsimp only; omega⟩) (fun _ hs => hs.le (⟨.refl _, .refl _, .refl _, Ent.of_eq (congrArg _ (fdiv2 _)), trivial⟩) (trivial)) (by show Int.toNat (x0.1.2.2 / 2) < Int.toNat x0.1.2.2; omega)
  · have g1 := cnd_dec_f h1
    exact k_out (Ent.of_eq (congrArg _ (x0.2.1.stop' g1)))

theorem residue_c (a m : Int) : Pure Tryz.prog gl0 247 [.int .i64 a, .int .i64 m] (.bool (decide (a ≥ 0) && decide (a < m))) := by
  refine pure_sk (own := ow0) Tryz.func247 (by kernel_rfl) mixed (by kernel_rfl)
    (let y0 : AV := (AV.bool (decide (a ≥ 0) && decide (a < m))); (.out y0 [] y0 []))
    (by kernel_rfl) ?_
  exact k_out (Ent.of_eq rfl)

theorem check_c (a b m : Int) : Pure Tryz.prog gl0 201 [.int .i64 a, .int .i64 b, .int .i64 m] (.int .i64 (chkI a b m)) := by
  refine pure_sk (own := ow0) Tryz.func201 (by kernel_rfl) mixed (by kernel_rfl)
    (.br (decide (m < 1) || decide (m ≥ 2305843009213693952)) (.out (Zi 1) [] (Zi (chkI a b m)) []) (.sc (true) 247 ([Zi a, Zi m]) (AV.bool (decide (a ≥ 0) && decide (a < m))) (.sc ((!(decide (a ≥ 0) && decide (a < m))) == false) 247 ([Zi b, Zi m]) (AV.bool (decide (b ≥ 0) && decide (b < m))) (.br (!(decide (a ≥ 0) && decide (a < m)) || !(decide (b ≥ 0) && decide (b < m))) (.out (Zi 2) [] (Zi (chkI a b m)) []) (.out (Zi 0) [] (Zi (chkI a b m)) [])))))
    (by kernel_rfl) ?_
  refine k_br (fun h0 => ?_) (fun h0 => ?_)
  · have g0 := (cnd_or_t cnd_dec_t cnd_dec_t) h0
    exact k_out (Ent.of_eq (congrArg _ (chk_1 g0).symm))
  · have g0 := (cnd_or_f cnd_dec_f cnd_dec_f) h0
    refine k_sc (residue_c (a) (m)) ?_
    refine k_scg (fun h3 => residue_c (b) (m)) ?_
    refine k_br (fun h4 => ?_) (fun h4 => ?_)
    · have g4 := (cnd_or_t (cnd_not_t (cnd_and_f cnd_dec_f cnd_dec_f)) (cnd_not_t (cnd_and_f cnd_dec_f cnd_dec_f))) h4
      exact k_out (Ent.of_eq (congrArg _ (chk_2 g0 g4).symm))
    · have g4 := (cnd_or_f (cnd_not_f (cnd_and_t cnd_dec_t cnd_dec_t)) (cnd_not_f (cnd_and_t cnd_dec_t cnd_dec_t))) h4
      exact k_out (Ent.of_eq (congrArg _ (chk_3 g0 g4).symm))

theorem wmul0_c (a b m : Int) (ha : 0 ≤ a) (ha' : a < m) (hb : 0 ≤ b) (hb' : b < m) (hm : m < 2305843009213693952) : Pure Tryz.prog gl0 202 [.int .i64 a, .int .i64 b, .int .i64 m] (.int .i64 (a * b % m)) := by
  have e1 := wu64 (n := a) (by omega) (by omega)
  have e2 := wu64 (n := b) (by omega) (by omega)
  have e3 := wu64 (n := m) (by omega) (by omega)
  have k := mul61 ha ha' hb hb' hm
  refine pure_sk (own := ow0) Tryz.func202 (by kernel_rfl) mixed (by kernel_rfl)
    (.sc (true) 248 ([Zu (IntKind.wrap IntKind.u64 a), Zu (IntKind.wrap IntKind.u64 b)]) (AV.tup [Zu (IntKind.wrap IntKind.u64 a * IntKind.wrap IntKind.u64 b / 18446744073709551616), Zu (IntKind.wrap IntKind.u64 a * IntKind.wrap IntKind.u64 b % 18446744073709551616)]) (.sc (true) 249 ([Zu (IntKind.wrap IntKind.u64 a * IntKind.wrap IntKind.u64 b / 18446744073709551616), Zu (IntKind.wrap IntKind.u64 a * IntKind.wrap IntKind.u64 b % 18446744073709551616), Zu (IntKind.wrap IntKind.u64 m)]) (AV.tup [Zu ((IntKind.wrap IntKind.u64 a * IntKind.wrap IntKind.u64 b / 18446744073709551616 * 18446744073709551616 + IntKind.wrap IntKind.u64 a * IntKind.wrap IntKind.u64 b % 18446744073709551616) / IntKind.wrap IntKind.u64 m), Zu ((IntKind.wrap IntKind.u64 a * IntKind.wrap IntKind.u64 b / 18446744073709551616 * 18446744073709551616 + IntKind.wrap IntKind.u64 a * IntKind.wrap IntKind.u64 b % 18446744073709551616) % IntKind.wrap IntKind.u64 m)]) (.out (Zi (IntKind.wrap IntKind.i64 ((IntKind.wrap IntKind.u64 a * IntKind.wrap IntKind.u64 b / 18446744073709551616 * 18446744073709551616 + IntKind.wrap IntKind.u64 a * IntKind.wrap IntKind.u64 b % 18446744073709551616) % IntKind.wrap IntKind.u64 m))) [] (Zi (a * b % m)) [])))
    (by kernel_rfl) ?_
  refine k_sc (mul64_c (IntKind.wrap IntKind.u64 a) (IntKind.wrap IntKind.u64 b) (by rw [e1]; omega) (by rw [e1]; omega) (by rw [e2]; omega) (by rw [e2]; omega)) ?_
  refine k_sc (div64_c (IntKind.wrap IntKind.u64 a * IntKind.wrap IntKind.u64 b / (18446744073709551616 : Int)) (IntKind.wrap IntKind.u64 a * IntKind.wrap IntKind.u64 b % (18446744073709551616 : Int)) (IntKind.wrap IntKind.u64 m) (⟨by rw [e1, e2]; omega, by rw [e1, e2, e3]; omega, by rw [e3]; omega, by omega, by omega⟩)) ?_
  exact k_out (Ent.of_eq (congrArg _ (by rw [e1, e2, e3, show a * b / 18446744073709551616 * 18446744073709551616 + a * b % 18446744073709551616 = a * b by omega]; have := Int.emod_nonneg (a * b) (show m ≠ 0 by omega); have := Int.emod_lt_of_pos (a * b) (show 0 < m by omega); exact wI (by omega) (by omega))))

theorem wadd_c (a b m : Int) : Pure Tryz.prog gl0 216 [.int .i64 a, .int .i64 b, .int .i64 m] (.tup [.int .i64 (okv (chkI a b m) ((a + b) % m)), .int .i64 (chkI a b m)]) := by
  refine pure_sk (own := ow0) Tryz.func216 (by kernel_rfl) mixed (by kernel_rfl)
    (let y0 : AV := (AV.tup [Zi (okv (chkI a b m) ((a + b) % m)), Zi (chkI a b m)]); (.sc (true) 201 ([Zi a, Zi b, Zi m]) (Zi (chkI a b m)) (.br (chkI a b m != 0) (.out (AV.tup [Zi 0, Zi (chkI a b m)]) [] y0 []) (.req (m ≠ (0 : Int)) (.out (AV.tup [Zi (Int.tmod (IntKind.wrap IntKind.i64 (a + b)) m), Zi 0]) [] y0 [])))))
    (by kernel_rfl) ?_
  refine k_sc (check_c (a) (b) (m)) ?_
  refine k_br (fun h1 => ?_) (fun h1 => ?_)
  · have g1 := cnd_bne_t h1
    exact k_out (Ent.tup ⟨Ent.of_eq (congrArg _ (okvn g1).symm), Ent.refl _, trivial⟩)
  · have g1 := cnd_bne_f h1
    refine k_req (by have := chk_inv g1; omega) ?_
    exact k_out (Ent.tup ⟨Ent.of_eq (congrArg _ (by have c := chk_inv g1; rw [g1, addW (by omega) (by omega) (by omega) (by omega) (by omega)]; rfl)), Ent.of_eq (congrArg _ g1.symm), trivial⟩)

theorem wmul_c (a b m : Int) : Pure Tryz.prog gl0 219 [.int .i64 a, .int .i64 b, .int .i64 m] (.tup [.int .i64 (okv (chkI a b m) (a * b % m)), .int .i64 (chkI a b m)]) := by
  refine pure_sk (own := ow0) Tryz.func219 (by kernel_rfl) mixed (by kernel_rfl)
    (let y0 : AV := (AV.tup [Zi (okv (chkI a b m) (a * b % m)), Zi (chkI a b m)]); (.sc (true) 201 ([Zi a, Zi b, Zi m]) (Zi (chkI a b m)) (.br (chkI a b m != 0) (.out (AV.tup [Zi 0, Zi (chkI a b m)]) [] y0 []) (.sc (true) 202 ([Zi a, Zi b, Zi m]) (Zi (a * b % m)) (.out (AV.tup [Zi (a * b % m), Zi 0]) [] y0 [])))))
    (by kernel_rfl) ?_
  refine k_sc (check_c (a) (b) (m)) ?_
  refine k_br (fun h1 => ?_) (fun h1 => ?_)
  · have g1 := cnd_bne_t h1
    exact k_out (Ent.tup ⟨Ent.of_eq (congrArg _ (okvn g1).symm), Ent.refl _, trivial⟩)
  · have g1 := cnd_bne_f h1
    refine k_sc (wmul0_c (a) (b) (m) (by have := chk_inv g1; omega) (by have := chk_inv g1; omega) (by have := chk_inv g1; omega) (by have := chk_inv g1; omega) (by have := chk_inv g1; omega)) ?_
    exact k_out (Ent.of_eq (by rw [g1]; rfl))

theorem wpow_c (a e m : Int) (he : e ≤ 9223372036854775807) : Pure Tryz.prog gl0 134 [.int .i64 a, .int .i64 e, .int .i64 m] (.tup [.int .i64 (okv (powE a e m) (a ^ e.toNat % m)), .int .i64 (powE a e m)]) := by
  refine pure_sk (own := ow0) Tryz.func134 (by kernel_rfl) mixed (by kernel_rfl)
    (let y0 : AV := (AV.tup [Zi (okv (powE a e m) (a ^ Int.toNat e % m)), Zi (powE a e m)]); (.sc (true) 201 ([Zi a, Zi a, Zi m]) (Zi (chkI a a m)) (.br (chkI a a m != 0) (.out (AV.tup [Zi 0, Zi (chkI a a m)]) [] y0 []) (.br (decide (e < 0)) (.out (AV.tup [Zi 0, Zi 2]) [] y0 []) (.req (m ≠ (0 : Int)) (.loop ({ x : Int × Int × Int // (fun (s : Int × Int × Int) => (chkI a a m = (0 : Int) → (0 : Int) ≤ e → PwI a (Int.toNat e) m s) ∧ Prod.snd (Prod.snd s) ≤ 9223372036854775807) x }) (fun (x : { x : Int × Int × Int // (fun (s : Int × Int × Int) => (chkI a a m = (0 : Int) → (0 : Int) ≤ e → PwI a (Int.toNat e) m s) ∧ Prod.snd (Prod.snd s) ≤ 9223372036854775807) x }) => mkSt [2, 9, 0, 1] [Zi m, Zi (Prod.fst (x.1)), Zi (Prod.fst (Prod.snd (x.1))), Zi (Prod.snd (Prod.snd (x.1)))] []) (fun (x : { x : Int × Int × Int // (fun (s : Int × Int × Int) => (chkI a a m = (0 : Int) → (0 : Int) ≤ e → PwI a (Int.toNat e) m s) ∧ Prod.snd (Prod.snd s) ≤ 9223372036854775807) x }) => (fun (s : Int × Int × Int) => Int.toNat (Prod.snd (Prod.snd s))) (x.1)) (⟨((1 : Int) % m, a, e), PwI.start' he⟩) ([2, 9, 0, 1]) ([]) ([Zi m, Zi (Int.tmod (1 : Int) m), Zi a, Zi e]) ([]) (fun x6 => (.br (decide ((Prod.snd (x6.1)).2 > 0)) (.br (IntKind.wrap IntKind.i64 (↑(BitVec.toNat (BitVec.ofInt 64 (Prod.snd (x6.1)).2 &&& BitVec.ofInt 64 (1 : Int))) : Int) == 1) (.sc (true) 202 ([Zi (x6.1).1, Zi (Prod.snd (x6.1)).1, Zi m]) (Zi ((x6.1).1 * (Prod.snd (x6.1)).1 % m)) (.sc (true) 202 ([Zi (Prod.snd (x6.1)).1, Zi (Prod.snd (x6.1)).1, Zi m]) (Zi ((Prod.snd (x6.1)).1 * (Prod.snd (x6.1)).1 % m)) (.again (Again 0 (fun (x : { x : Int × Int × Int // (fun (s : Int × Int × Int) => (chkI a a m = (0 : Int) → (0 : Int) ≤ e → PwI a (Int.toNat e) m s) ∧ Prod.snd (Prod.snd s) ≤ 9223372036854775807) x }) => mkSt [2, 9, 0, 1] [Zi m, Zi (Prod.fst (x.1)), Zi (Prod.fst (Prod.snd (x.1))), Zi (Prod.snd (Prod.snd (x.1)))] []) (fun (x : { x : Int × Int × Int // (fun (s : Int × Int × Int) => (chkI a a m = (0 : Int) → (0 : Int) ≤ e → PwI a (Int.toNat e) m s) ∧ Prod.snd (Prod.snd s) ≤ 9223372036854775807) x }) => (fun (s : Int × Int × Int) => Int.toNat (Prod.snd (Prod.snd s))) (x.1)) x6) ([2, 9, 0, 1]) ([]) ([Zi m, Zi ((x6.1).1 * (Prod.snd (x6.1)).1 % m), Zi ((Prod.snd (x6.1)).1 * (Prod.snd (x6.1)).1 % m), Zi (Int.fdiv (Prod.snd (x6.1)).2 ((2 : Int) ^ 1))]) ([])))) (.sc (true) 202 ([Zi (Prod.snd (x6.1)).1, Zi (Prod.snd (x6.1)).1, Zi m]) (Zi ((Prod.snd (x6.1)).1 * (Prod.snd (x6.1)).1 % m)) (.again (Again 0 (fun (x : { x : Int × Int × Int // (fun (s : Int × Int × Int) => (chkI a a m = (0 : Int) → (0 : Int) ≤ e → PwI a (Int.toNat e) m s) ∧ Prod.snd (Prod.snd s) ≤ 9223372036854775807) x }) => mkSt [2, 9, 0, 1] [Zi m, Zi (Prod.fst (x.1)), Zi (Prod.fst (Prod.snd (x.1))), Zi (Prod.snd (Prod.snd (x.1)))] []) (fun (x : { x : Int × Int × Int // (fun (s : Int × Int × Int) => (chkI a a m = (0 : Int) → (0 : Int) ≤ e → PwI a (Int.toNat e) m s) ∧ Prod.snd (Prod.snd s) ≤ 9223372036854775807) x }) => (fun (s : Int × Int × Int) => Int.toNat (Prod.snd (Prod.snd s))) (x.1)) x6) ([2, 9, 0, 1]) ([]) ([Zi m, Zi (x6.1).1, Zi ((Prod.snd (x6.1)).1 * (Prod.snd (x6.1)).1 % m), Zi (Int.fdiv (Prod.snd (x6.1)).2 ((2 : Int) ^ 1))]) ([])))) (.out (AV.tup [Zi (x6.1).1, Zi 0]) [] y0 [])))))))))
    (by kernel_rfl) ?_
  refine k_sc (check_c (a) (a) (m)) ?_
  refine k_br (fun h1 => ?_) (fun h1 => ?_)
  · have g1 := cnd_bne_t h1
    exact k_out (Ent.tup ⟨Ent.of_eq (congrArg _ (by rw [powE_1 g1, okvn g1])), Ent.of_eq (congrArg _ (powE_1 g1).symm), trivial⟩)
  · have g1 := cnd_bne_f h1
    refine k_br (fun h3 => ?_) (fun h3 => ?_)
    · have g3 := cnd_dec_t h3
      exact k_out (Ent.of_eq (by rw [powE_2 g1 g3]; rfl))
    · have g3 := cnd_dec_f h3
      refine k_req (by have := chk_inv g1; omega) ?_
      refine k_loop (fun _ hs => hs.le (⟨.refl _, Ent.of_eq (congrArg _ (tmod_nn (by decide))), .refl _, .refl _, trivial⟩) (trivial)) (fun x6 => ?_)
      try (have q6 := x6.2; dsimp only at q6)
      have pw := x6.2.1 g1 (by omega); have i0 := pw.x0; have i1 := pw.x1; have i2 := pw.a0; have i3 := pw.a1; have i4 := pw.e0; have i5 := x6.2.2; have c := chk_inv g1; have b0 := bit0i i4 (by omega)
      refine k_br (fun h7 => ?_) (fun h7 => ?_)
      · have g7 := cnd_dec_t h7
        refine k_br (fun h8 => ?_) (fun h8 => ?_)
        · have g8 := cnd_beq_t h8
          refine k_sc (wmul0_c ((x6.1).1) ((Prod.snd (x6.1)).1) (m) (by assumption) (by assumption) (by assumption) (by assumption) (by omega)) ?_
          refine k_sc (wmul0_c ((Prod.snd (x6.1)).1) ((Prod.snd (x6.1)).1) (m) (by assumption) (by assumption) (by assumption) (by assumption) (by omega)) ?_
          exact k_again (⟨(x6.1.1 * x6.1.2.1 % m, x6.1.2.1 * x6.1.2.1 % m, x6.1.2.2 / 2), fun _ _ => pw.odd' (by omega) (b0.symm.trans g8), by dsimp only; omega⟩) (fun _ hs => hs.le (⟨.refl _, .refl _, .refl _, Ent.of_eq (congrArg _ (fdiv2 _)), trivial⟩) (trivial)) (by show Int.toNat (x6.1.2.2 / 2) < Int.toNat x6.1.2.2; omega)
        · have g8 := cnd_beq_f h8
          refine k_sc (wmul0_c ((Prod.snd (x6.1)).1) ((Prod.snd (x6.1)).1) (m) (by assumption) (by assumption) (by assumption) (by assumption) (by omega)) ?_
          exact k_again (⟨(x6.1.1, x6.1.2.1 * x6.1.2.1 % m, x6.1.2.2 / 2), fun _ _ => pw.even' (by omega) (by rw [b0] at g8; omega), by dsimp only; omega⟩) (fun _ hs => hs.le (⟨.refl _, .refl _, .refl _, Ent.of_eq (congrArg _ (fdiv2 _)), trivial⟩) (trivial)) (by show Int.toNat (x6.1.2.2 / 2) < Int.toNat x6.1.2.2; omega)
      · have g7 := cnd_dec_f h7
        exact k_out (Ent.of_eq (by rw [powE_0 g1 g3, ← pw.stop' g7]; rfl))

theorem wreduce_c (a m : Int) : Pure Tryz.prog gl0 218 [.int .i64 a, .int .i64 m] (.tup [.int .i64 (okv (chkI 0 0 m) (a % m)), .int .i64 (chkI 0 0 m)]) := by
  refine pure_sk (own := ow0) Tryz.func218 (by kernel_rfl) mixed (by kernel_rfl)
    (let y0 : AV := (AV.tup [Zi (okv (chkI (0 : Int) (0 : Int) m) (a % m)), Zi (chkI (0 : Int) (0 : Int) m)]); (.sc (true) 201 ([Zi 0, Zi 0, Zi m]) (Zi (chkI (0 : Int) (0 : Int) m)) (.br (chkI (0 : Int) (0 : Int) m != 0) (.out (AV.tup [Zi 0, Zi (chkI (0 : Int) (0 : Int) m)]) [] y0 []) (.req (m ≠ (0 : Int)) (.br (decide (Int.tmod a m < 0)) (.out (AV.tup [Zi (IntKind.wrap IntKind.i64 (Int.tmod a m + m)), Zi 0]) [] y0 []) (.out (AV.tup [Zi (Int.tmod a m), Zi 0]) [] y0 []))))))
    (by kernel_rfl) ?_
  refine k_sc (check_c ((0 : Int)) ((0 : Int)) (m)) ?_
  refine k_br (fun h1 => ?_) (fun h1 => ?_)
  · have g1 := cnd_bne_t h1
    exact k_out (Ent.tup ⟨Ent.of_eq (congrArg _ (okvn g1).symm), Ent.refl _, trivial⟩)
  · have g1 := cnd_bne_f h1
    refine k_req (by have := chk_inv g1; omega) ?_
    refine k_br (fun h4 => ?_) (fun h4 => ?_)
    · have g4 := cnd_dec_t h4
      exact k_out (Ent.of_eq (by have := chk_inv g1; rw [reduce_n (by omega) (by omega) g4, g1]; rfl))
    · have g4 := cnd_dec_f h4
      exact k_out (Ent.of_eq (by have := chk_inv g1; rw [reduce_p (by omega) g4, g1]; rfl))

theorem rreduce_c (a m : Int) (hm : 0 < m) (hm' : m ≤ 9223372036854775807) : Pure Tryz.prog gl0 111 [.int .i64 a, .int .i64 m] (.int .i64 (a % m)) := by
  refine pure_sk (own := ow0) Tryz.func111 (by kernel_rfl) mixed (by kernel_rfl)
    (.req (m ≠ (0 : Int)) (.br (decide (Int.tmod a m < 0)) (.out (Zi (IntKind.wrap IntKind.i64 (Int.tmod a m + m))) [] (Zi (a % m)) []) (.out (Zi (Int.tmod a m)) [] (Zi (a % m)) [])))
    (by kernel_rfl) ?_
  refine k_req (by omega) ?_
  refine k_br (fun h1 => ?_) (fun h1 => ?_)
  · have g1 := cnd_dec_t h1
    exact k_out (Ent.of_eq (congrArg _ (reduce_n hm hm' g1)))
  · have g1 := cnd_dec_f h1
    exact k_out (Ent.of_eq (congrArg _ (reduce_p hm g1)))

theorem rmul_c (a b m : Int) (ha : 0 ≤ a) (ha' : a < m) (hb : 0 ≤ b) (hb' : b < m) (hm : m < 2305843009213693952) : Pure Tryz.prog gl0 110 [.int .i64 a, .int .i64 b, .int .i64 m] (.int .i64 (a * b % m)) := by
  refine pure_sk (own := ow0) Tryz.func110 (by kernel_rfl) mixed (by kernel_rfl)
    (.br (decide (a < 2147483648) && decide (b < 2147483648)) (.req (m ≠ (0 : Int)) (.out (Zi (Int.tmod (IntKind.wrap IntKind.i64 (a * b)) m)) [] (Zi (a * b % m)) [])) (.loop ({ x : Int × Int × Int // (fun (s : Int × Int × Int) => MlI (a * b) m s ∧ Prod.snd (Prod.snd s) < m) x }) (fun (x : { x : Int × Int × Int // (fun (s : Int × Int × Int) => MlI (a * b) m s ∧ Prod.snd (Prod.snd s) < m) x }) => mkSt [2, 7, 0, 1] [Zi m, Zi (Prod.fst (x.1)), Zi (Prod.fst (Prod.snd (x.1))), Zi (Prod.snd (Prod.snd (x.1)))] []) (fun (x : { x : Int × Int × Int // (fun (s : Int × Int × Int) => MlI (a * b) m s ∧ Prod.snd (Prod.snd s) < m) x }) => (fun (s : Int × Int × Int) => Int.toNat (Prod.snd (Prod.snd s))) (x.1)) (⟨((0 : Int), a, b), ⟨MlI.start ha ha' hb, hb'⟩⟩) ([2, 7, 0, 1]) ([]) ([Zi m, Zi 0, Zi a, Zi b]) ([]) (fun x3 => (.br (decide ((Prod.snd (x3.1)).2 > 0)) (.br (Int.tmod (Prod.snd (x3.1)).2 (2 : Int) == 1) (.req (m ≠ (0 : Int)) (.req (m ≠ (0 : Int)) (.again (Again 0 (fun (x : { x : Int × Int × Int // (fun (s : Int × Int × Int) => MlI (a * b) m s ∧ Prod.snd (Prod.snd s) < m) x }) => mkSt [2, 7, 0, 1] [Zi m, Zi (Prod.fst (x.1)), Zi (Prod.fst (Prod.snd (x.1))), Zi (Prod.snd (Prod.snd (x.1)))] []) (fun (x : { x : Int × Int × Int // (fun (s : Int × Int × Int) => MlI (a * b) m s ∧ Prod.snd (Prod.snd s) < m) x }) => (fun (s : Int × Int × Int) => Int.toNat (Prod.snd (Prod.snd s))) (x.1)) x3) ([2, 7, 0, 1]) ([]) ([Zi m, Zi (Int.tmod (IntKind.wrap IntKind.i64 ((x3.1).1 + (Prod.snd (x3.1)).1)) m), Zi (Int.tmod (IntKind.wrap IntKind.i64 ((Prod.snd (x3.1)).1 + (Prod.snd (x3.1)).1)) m), Zi (IntKind.wrap IntKind.i64 (Int.tdiv (Prod.snd (x3.1)).2 (2 : Int)))]) ([])))) (.req (m ≠ (0 : Int)) (.again (Again 0 (fun (x : { x : Int × Int × Int // (fun (s : Int × Int × Int) => MlI (a * b) m s ∧ Prod.snd (Prod.snd s) < m) x }) => mkSt [2, 7, 0, 1] [Zi m, Zi (Prod.fst (x.1)), Zi (Prod.fst (Prod.snd (x.1))), Zi (Prod.snd (Prod.snd (x.1)))] []) (fun (x : { x : Int × Int × Int // (fun (s : Int × Int × Int) => MlI (a * b) m s ∧ Prod.snd (Prod.snd s) < m) x }) => (fun (s : Int × Int × Int) => Int.toNat (Prod.snd (Prod.snd s))) (x.1)) x3) ([2, 7, 0, 1]) ([]) ([Zi m, Zi (x3.1).1, Zi (Int.tmod (IntKind.wrap IntKind.i64 ((Prod.snd (x3.1)).1 + (Prod.snd (x3.1)).1)) m), Zi (IntKind.wrap IntKind.i64 (Int.tdiv (Prod.snd (x3.1)).2 (2 : Int)))]) ([])))) (.out (Zi (x3.1).1) [] (Zi (a * b % m)) [])))))
    (by kernel_rfl) ?_
  refine k_br (fun h0 => ?_) (fun h0 => ?_)
  · have g0 := (cnd_and_t cnd_dec_t cnd_dec_t) h0
    refine k_req (by omega) ?_
    exact k_out (Ent.of_eq (congrArg _ (by rw [small_mul ha hb g0, tmod_nn (Int.mul_nonneg ha hb)])))
  · have g0 := (cnd_and_f cnd_dec_f cnd_dec_f) h0
    refine k_loop (fun _ hs => hs.le (⟨.refl _, .refl _, .refl _, .refl _, trivial⟩) (trivial)) (fun x3 => ?_)
    try (have q3 := x3.2; dsimp only at q3)
    have i0 := x3.2.1.x0; have i1 := x3.2.1.x1; have i2 := x3.2.1.a0; have i3 := x3.2.1.a1; have i4 := x3.2.1.e0; have i5 := x3.2.2; dsimp only at i0 i1 i2 i3 i4 i5
    refine k_br (fun h4 => ?_) (fun h4 => ?_)
    · have g4 := cnd_dec_t h4
      refine k_br (fun h5 => ?_) (fun h5 => ?_)
      · have g5 := cnd_beq_t h5
        refine k_req (by omega) ?_
        refine k_req (by omega) ?_
        exact k_again (⟨((x3.1.1 + x3.1.2.1) % m, (x3.1.2.1 + x3.1.2.1) % m, x3.1.2.2 / 2), x3.2.1.odd' (by omega) (by rw [← tmod_nn i4]; exact g5), by dsimp only; omega⟩) (fun _ hs => hs.le (⟨.refl _, Ent.of_eq (congrArg _ (addW i0 i1 i2 i3 hm)), Ent.of_eq (congrArg _ (addW i2 i3 i2 i3 hm)), Ent.of_eq (congrArg _ (halfW i4 (by omega))), trivial⟩) (trivial)) (by show Int.toNat (x3.1.2.2 / 2) < Int.toNat x3.1.2.2; omega)
      · have g5 := cnd_beq_f h5
        refine k_req (by omega) ?_
        exact k_again (⟨(x3.1.1, (x3.1.2.1 + x3.1.2.1) % m, x3.1.2.2 / 2), x3.2.1.even' (by omega) (by rw [tmod_nn i4] at g5; omega), by dsimp only; omega⟩) (fun _ hs => hs.le (⟨.refl _, .refl _, Ent.of_eq (congrArg _ (addW i2 i3 i2 i3 hm)), Ent.of_eq (congrArg _ (halfW i4 (by omega))), trivial⟩) (trivial)) (by show Int.toNat (x3.1.2.2 / 2) < Int.toNat x3.1.2.2; omega)
    · have g4 := cnd_dec_f h4
      exact k_out (Ent.of_eq (congrArg _ (x3.2.1.stop' g4)))

theorem rpow_c (a e m : Int) (ha : 0 ≤ a) (ha' : a < m) (he : 0 ≤ e) (he' : e ≤ 9223372036854775807) (hm : m < 2305843009213693952) : Pure Tryz.prog gl0 116 [.int .i64 a, .int .i64 e, .int .i64 m] (.int .i64 (a ^ e.toNat % m)) := by
  refine pure_sk (own := ow0) Tryz.func116 (by kernel_rfl) mixed (by kernel_rfl)
    (.req (m ≠ (0 : Int)) (.loop ({ x : Int × Int × Int // (fun (s : Int × Int × Int) => PwI a (Int.toNat e) m s ∧ Prod.snd (Prod.snd s) ≤ 9223372036854775807) x }) (fun (x : { x : Int × Int × Int // (fun (s : Int × Int × Int) => PwI a (Int.toNat e) m s ∧ Prod.snd (Prod.snd s) ≤ 9223372036854775807) x }) => mkSt [2, 7, 0, 1] [Zi m, Zi (Prod.fst (x.1)), Zi (Prod.fst (Prod.snd (x.1))), Zi (Prod.snd (Prod.snd (x.1)))] []) (fun (x : { x : Int × Int × Int // (fun (s : Int × Int × Int) => PwI a (Int.toNat e) m s ∧ Prod.snd (Prod.snd s) ≤ 9223372036854775807) x }) => (fun (s : Int × Int × Int) => Int.toNat (Prod.snd (Prod.snd s))) (x.1)) (⟨((1 : Int) % m, a, e), ⟨PwI.start ha ha' he, he'⟩⟩) ([2, 7, 0, 1]) ([]) ([Zi m, Zi (Int.tmod (1 : Int) m), Zi a, Zi e]) ([]) (fun x1 => (.br (decide ((Prod.snd (x1.1)).2 > 0)) (.br (Int.tmod (Prod.snd (x1.1)).2 (2 : Int) == 1) (.sc (true) 110 ([Zi (x1.1).1, Zi (Prod.snd (x1.1)).1, Zi m]) (Zi ((x1.1).1 * (Prod.snd (x1.1)).1 % m)) (.sc (true) 110 ([Zi (Prod.snd (x1.1)).1, Zi (Prod.snd (x1.1)).1, Zi m]) (Zi ((Prod.snd (x1.1)).1 * (Prod.snd (x1.1)).1 % m)) (.again (Again 0 (fun (x : { x : Int × Int × Int // (fun (s : Int × Int × Int) => PwI a (Int.toNat e) m s ∧ Prod.snd (Prod.snd s) ≤ 9223372036854775807) x }) => mkSt [2, 7, 0, 1] [Zi m, Zi (Prod.fst (x.1)), Zi (Prod.fst (Prod.snd (x.1))), Zi (Prod.snd (Prod.snd (x.1)))] []) (fun (x : { x : Int × Int × Int // (fun (s : Int × Int × Int) => PwI a (Int.toNat e) m s ∧ Prod.snd (Prod.snd s) ≤ 9223372036854775807) x }) => (fun (s : Int × Int × Int) => Int.toNat (Prod.snd (Prod.snd s))) (x.1)) x1) ([2, 7, 0, 1]) ([]) ([Zi m, Zi ((x1.1).1 * (Prod.snd (x1.1)).1 % m), Zi ((Prod.snd (x1.1)).1 * (Prod.snd (x1.1)).1 % m), Zi (IntKind.wrap IntKind.i64 (Int.tdiv (Prod.snd (x1.1)).2 (2 : Int)))]) ([])))) (.sc (true) 110 ([Zi (Prod.snd (x1.1)).1, Zi (Prod.snd (x1.1)).1, Zi m]) (Zi ((Prod.snd (x1.1)).1 * (Prod.snd (x1.1)).1 % m)) (.again (Again 0 (fun (x : { x : Int × Int × Int // (fun (s : Int × Int × Int) => PwI a (Int.toNat e) m s ∧ Prod.snd (Prod.snd s) ≤ 9223372036854775807) x }) => mkSt [2, 7, 0, 1] [Zi m, Zi (Prod.fst (x.1)), Zi (Prod.fst (Prod.snd (x.1))), Zi (Prod.snd (Prod.snd (x.1)))] []) (fun (x : { x : Int × Int × Int // (fun (s : Int × Int × Int) => PwI a (Int.toNat e) m s ∧ Prod.snd (Prod.snd s) ≤ 9223372036854775807) x }) => (fun (s : Int × Int × Int) => Int.toNat (Prod.snd (Prod.snd s))) (x.1)) x1) ([2, 7, 0, 1]) ([]) ([Zi m, Zi (x1.1).1, Zi ((Prod.snd (x1.1)).1 * (Prod.snd (x1.1)).1 % m), Zi (IntKind.wrap IntKind.i64 (Int.tdiv (Prod.snd (x1.1)).2 (2 : Int)))]) ([])))) (.out (Zi (x1.1).1) [] (Zi (a ^ Int.toNat e % m)) [])))))
    (by kernel_rfl) ?_
  refine k_req (by omega) ?_
  refine k_loop (fun _ hs => hs.le (⟨.refl _, Ent.of_eq (congrArg _ (tmod_nn (by decide))), .refl _, .refl _, trivial⟩) (trivial)) (fun x1 => ?_)
  try (have q1 := x1.2; dsimp only at q1)
  have i0 := x1.2.1.x0; have i1 := x1.2.1.x1; have i2 := x1.2.1.a0; have i3 := x1.2.1.a1; have i4 := x1.2.1.e0; have i5 := x1.2.2; dsimp only at i0 i1 i2 i3 i4 i5
  refine k_br (fun h2 => ?_) (fun h2 => ?_)
  · have g2 := cnd_dec_t h2
    refine k_br (fun h3 => ?_) (fun h3 => ?_)
    · have g3 := cnd_beq_t h3
      refine k_sc (rmul_c ((x1.1).1) ((Prod.snd (x1.1)).1) (m) (by assumption) (by assumption) (by assumption) (by assumption) (by assumption)) ?_
      refine k_sc (rmul_c ((Prod.snd (x1.1)).1) ((Prod.snd (x1.1)).1) (m) (by assumption) (by assumption) (by assumption) (by assumption) (by assumption)) ?_
      exact k_again (⟨(x1.1.1 * x1.1.2.1 % m, x1.1.2.1 * x1.1.2.1 % m, x1.1.2.2 / 2), x1.2.1.odd' (by omega) (by rw [← tmod_nn i4]; exact g3), by dsimp only; omega⟩) (fun _ hs => hs.le (⟨.refl _, .refl _, .refl _, Ent.of_eq (congrArg _ (halfW i4 (by omega))), trivial⟩) (trivial)) (by show Int.toNat (x1.1.2.2 / 2) < Int.toNat x1.1.2.2; omega)
    · have g3 := cnd_beq_f h3
      refine k_sc (rmul_c ((Prod.snd (x1.1)).1) ((Prod.snd (x1.1)).1) (m) (by assumption) (by assumption) (by assumption) (by assumption) (by assumption)) ?_
      exact k_again (⟨(x1.1.1, x1.1.2.1 * x1.1.2.1 % m, x1.1.2.2 / 2), x1.2.1.even' (by omega) (by rw [tmod_nn i4] at g3; omega), by dsimp only; omega⟩) (fun _ hs => hs.le (⟨.refl _, .refl _, .refl _, Ent.of_eq (congrArg _ (halfW i4 (by omega))), trivial⟩) (trivial)) (by show Int.toNat (x1.1.2.2 / 2) < Int.toNat x1.1.2.2; omega)
  · have g2 := cnd_dec_f h2
    exact k_out (Ent.of_eq (congrArg _ (x1.2.1.stop' g2)))

end Go.Proofs.YtolcfdcoidpieaaGreatDoor
