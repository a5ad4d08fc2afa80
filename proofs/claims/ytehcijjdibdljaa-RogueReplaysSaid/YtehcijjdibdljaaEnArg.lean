/-
  The engine, part 20: arguments in a form that depends on their type alone ('canon').
-/
import Derived.Test.YtehcijjdibdljaaEnRow
namespace Go.Am
open Go.RowKit

def boolOfAV : AV → Bool
  | .bool b => b
  | _ => false
def strOfAV : AV → ByteArray
  | .str s => s
  | _ => .empty

/-- Integers of one kind. -/
def homCT : List CT → Option IntKind
  | [.int k] => some k
  | .int k :: cs => match homCT cs with
    | some k' => bif decide (k = k') then some k else none
    | none => none
  | _ => none

theorem homCT_at : ∀ {cs : List CT} {k : IntKind}, homCT cs = some k → ∀ c, c ∈ cs → c = .int k
  | [], _, h => by simp [homCT] at h
  | [c0], k, h => by
    intro c hc
    cases c0 <;> simp [homCT] at h
    subst h
    simpa using hc
  | c0 :: c1 :: cs, k, h => by
    cases c0 <;> simp only [homCT, reduceCtorEq] at h
    rename_i k0
    cases hr : homCT (c1 :: cs) with
    | none => rw [hr] at h; simp at h
    | some k' =>
      rw [hr] at h
      simp only at h
      obtain ⟨h1, h2⟩ := bif_some h
      cases h2
      have h1 := of_decide_eq_true h1
      subst h1
      intro c hc
      rcases List.mem_cons.1 hc with rfl | hc
      · rfl
      · exact homCT_at hr c hc

mutual
/-- The value, by its type. -/
def canon : CT → AV → AV
  | .int k, a => .int k (intOfAV a)
  | .bool, a => .bool (boolOfAV a)
  | .str, a => .str (strOfAV a)
  | .sl cs, a => .isl cs.length (islN a) (match homCT cs with
    | some k => fun i j => .int k (intOfAV (islF a i (bif Nat.beq cs.length 1 then 0 else j)))
    | none => fun i j => atL (canonRow cs (fun q => islF a i q) 0) j)
def canonRow : List CT → (Nat → AV) → Nat → List AV
  | [], _, _ => []
  | c :: cs, g, n => canon c (g n) :: canonRow cs g (n + 1)
end

theorem canonRow_get : ∀ (cs : List CT) (g : Nat → AV) (n j : Nat) (c : CT), cs[j]? = some c → (canonRow cs g n)[j]? = some (canon c (g (n + j)))
  | [], _, _, _, _, h => by simp at h
  | c :: cs, g, n, 0, c', h => by simp at h; subst h; simp [canonRow]
  | c :: cs, g, n, j + 1, c', h => by
    simp at h
    simp only [canonRow, List.getElem?_cons_succ]
    rw [canonRow_get cs g (n + 1) j c' h, show n + 1 + j = n + (j + 1) by omega]
theorem canonRow_length : ∀ (cs : List CT) (g : Nat → AV) (n : Nat), (canonRow cs g n).length = cs.length
  | [], _, _ => rfl
  | c :: cs, g, n => by simp [canonRow, canonRow_length cs g (n + 1)]

theorem Ent.islE {os : List (Option Ob)} {es n : Nat} {f g : Nat → Nat → AV} (h : ∀ i j, i < n → j < es → Ent os (f i j) (g i j) ∧ Cl (g i j)) : Ent os (.isl es n f) (.isl es n g) := fun β w v hh hr => by
  cases hr with
  | isl vals he hcap hb hc ho hr hcl => exact .isl vals he hcap hb hc ho (fun i j hi hj => (h i j hi hj).1 β w _ hh (hr i j hi hj)) (fun i j hi hj => (h i j hi hj).2)
  | isl0 h' => exact .isl0 h'

theorem canon_ent {os : List (Option Ob)} {c : CT} {a : AV} (h : CellOk c a) : Ent os a (canon c a) ∧ Cl (canon c a) := by
  induction h with
  | int h => exact ⟨Ent.of_eq (by simp [canon, intOfAV]), by unfold canon; exact .int⟩
  | bool => exact ⟨Ent.of_eq (by simp [canon, boolOfAV]), by unfold canon; exact .bool⟩
  | str h => exact ⟨Ent.of_eq (by simp [canon, strOfAV]), by unfold canon; exact .str⟩
  | @sl cs n f hn h ih =>
    have key : ∀ i j, i < n → j < cs.length → ∃ c, cs[j]? = some c ∧ atL (canonRow cs (fun q => f i q) 0) j = canon c (f i j) := fun i j hi hj => by
      refine ⟨cs[j], by simp [hj], ?_⟩
      unfold atL
      rw [List.getD_eq_getElem?_getD, canonRow_get cs _ 0 j cs[j] (by simp [hj])]
      simp
    unfold canon
    cases hh : homCT cs with
    | none =>
      refine ⟨Ent.islE fun i j hi hj => ?_, .isl fun i j hi hj => ?_⟩
      · obtain ⟨c, h1, h2⟩ := key i j hi hj
        show Ent os (f i j) (atL (canonRow cs (fun q => f i q) 0) j) ∧ Cl (atL (canonRow cs (fun q => f i q) 0) j)
        rw [h2]
        exact ih i j c hi h1
      · obtain ⟨c, h1, h2⟩ := key i j hi hj
        show Cl (atL (canonRow cs (fun q => f i q) 0) j)
        rw [h2]
        exact (ih i j c hi h1).2
    | some k =>
      refine ⟨Ent.islE fun i j hi hj => ⟨Ent.of_eq ?_, .int⟩, .isl fun i j hi hj => .int⟩
      show f i j = .int k (intOfAV (f i (bif Nat.beq cs.length 1 then 0 else j)))
      have hj' : (bif Nat.beq cs.length 1 then 0 else j) = j := by
        cases hb : Nat.beq cs.length 1 with
        | true =>
          have := Nat.eq_of_beq_eq_true hb
          show 0 = j
          omega
        | false => rfl
      rw [hj']
      have hc : cs[j]? = some cs[j] := by simp [hj]
      have := h i j _ hi hc
      rw [homCT_at hh cs[j] (List.getElem_mem hj)] at this
      generalize f i j = q at this
      cases this
      rfl

/-- The cells of an argument. -/
theorem Fits.canon {w : World} {ts : List CT} {cs : List Value} (h : Fits w ts cs) : ∃ g : Nat → AV, (∀ (j : Nat) c, ts[j]? = some c → CellOk c (g j)) ∧ Rel noB w (.agg (canonRow ts g 0)) (.agg cs.toArray) := by
  obtain ⟨g, hg⟩ := h.pick
  refine ⟨g, fun j c hc => (hg j c hc).1, ?_⟩
  refine .agg (by simp [canonRow_length, h.len]) fun j u v hu hv => ?_
  have hj : j < ts.length := by rw [← canonRow_length ts g 0]; exact (List.getElem?_eq_some_iff.1 hu).1
  have hc : ts[j]? = some ts[j] := by simp [hj]
  rw [canonRow_get ts g 0 j _ hc] at hu
  obtain ⟨h1, v', h2, h3⟩ := hg j _ hc
  have hv : cs[j]? = some v := by simpa using hv
  rw [h2] at hv; cases hv
  cases hu
  rw [Nat.zero_add]
  exact (canon_ent (os := []) h1).1 _ _ _ (fun k o hk => by simp at hk) h3

/-- What is known of a slice's length and elements. -/
theorem CellOk.sl_inv {cs : List CT} {a : AV} (h : CellOk (.sl cs) a) : islN a ≤ maxLen ∧ ∀ i j c, i < islN a → cs[j]? = some c → CellOk c (islF a i j) := by
  cases h with
  | sl hn h => exact ⟨hn, h⟩
theorem CellOk.int_inv {k : IntKind} {a : AV} (h : CellOk (.int k) a) : (Lit.int k (intOfAV a)).wf = true := canonI_wf h


theorem rel_agg_parts {β : Book} {w : World} {l : List AV} {vs : Array Value} (h : Rel β w (.agg l) (.agg vs)) : l.length = vs.size ∧ ∀ (j : Nat) u v, l[j]? = some u → vs[j]? = some v → Rel β w u v := by
  cases h with | agg hl hr => exact ⟨hl, hr⟩

section
open Go.ChangeShapes Go.WideShapes Go.ChangeAt
variable {H : Type} {enc : TypeId × Value → H} {P : Program} {W : World} {sp : Nat → Bool}

/-- An argument of any of the types that have a shape. -/
theorem open_any {r : Reach} {b0 : Nat} {t : TypeId} {v : Value} {d : DataW H} {ps : List MemPlace} {ts : List CT} {ag : Bool} (ht : isAggT P t = some ag)
    (hsh : shape P 9 t = some ts) (hv : Value.okWide P W r b0 t v) (h : DataW.Trod enc P W 0 sp true t v d ps) : ∃ cs : List Value, Fits W ts cs ∧ (ag = true → v = .agg cs.toArray) ∧ (ag = false → cs = [v]) := by
  cases ag with
  | true =>
    obtain ⟨cs, e, hf⟩ := open_agg ht hsh hv h
    exact ⟨cs, hf, fun _ => e, fun h => by cases h⟩
  | false =>
    obtain ⟨fuel, hf⟩ := h
    have hc : v.cells.toList = [v] := by
      simp only [shape] at hsh
      split at hsh
      · rename_i hu; obtain ⟨b, rfl⟩ := okWide_bool hu hv; rfl
      · rename_i k hu; obtain ⟨n, rfl⟩ := okWide_int hu hv; rfl
      · rename_i hu; obtain ⟨n, rfl⟩ := okWide_string hu hv; rfl
      · rename_i e hu; obtain ⟨a, l, c, rfl⟩ := okWide_slice hu hv; rfl
      · rename_i fs hu; simp [isAggT, hu] at ht
      · rename_i n e hu; simp [isAggT, hu] at ht
      · cases hsh
    rw [hc] at hf
    exact ⟨[v], open_fits 9 t fuel _ _ ts hf hsh, fun h => by (cases h), fun _ => rfl⟩

def shapesOf (P : Program) : List TypeId → Option (List (Bool × List CT))
  | [] => some []
  | t :: ts => match isAggT P t, shape P 9 t, shapesOf P ts with
    | some b, some l, some r => some ((b, l) :: r)
    | _, _, _ => none

def argsOf : List (Bool × List CT) → (Nat → Nat → AV) → Nat → List AV
  | [], _, _ => []
  | (true, ts) :: S, G, n => .agg (canonRow ts (G n) 0) :: argsOf S G (n + 1)
  | (false, ts) :: S, G, n => atL (canonRow ts (G n) 0) 0 :: argsOf S G (n + 1)

theorem open_all {r : Reach} {b0 : Nat} : ∀ {ts : List TypeId} {vs : List Value} {ds : List (DataW H)} {ps : List MemPlace} {S : List (Bool × List CT)} (n : Nat), shapesOf P ts = some S → DataW.TrodAll enc P W 0 sp true ts vs ds ps →
    (∀ (j : Nat) t v, ts[j]? = some t → vs[j]? = some v → Value.okWide P W r b0 t v) →
    ∃ G : Nat → Nat → AV, (∀ (k : Nat) s, S[k]? = some s → ∀ (j : Nat) c, s.2[j]? = some c → CellOk c (G (n + k) j)) ∧ Rels noB W (argsOf S G n) vs.toArray ∧ ∃ f : Nat → DataW H, ds = (List.range S.length).map f
  | [], [], [], _, S, n, hS, hA, _ => by
    simp [shapesOf] at hS; subst hS
    exact ⟨fun _ _ => .junk, fun k s h => by simp at h, Rels.nil, fun _ => .nil, rfl⟩
  | t :: ts, v :: vs, d :: ds, ps, S, n, hS, hA, hok => by
    obtain ⟨p, q, h1, h2, rfl⟩ := hA
    simp only [shapesOf] at hS
    split at hS
    rotate_left
    · cases hS
    rename_i b l r' e1 e2 e3
    cases hS
    obtain ⟨cs, hf, g1, g2⟩ := open_any e1 e2 (hok 0 t v rfl rfl) h1
    obtain ⟨g, hg, hr⟩ := hf.canon
    obtain ⟨G, hG, hR, f, hds⟩ := open_all (n + 1) e3 h2 (fun j t v ht hv => hok (j + 1) t v (by simpa using ht) (by simpa using hv))
    have hne : ∀ k, Nat.beq (n + 1 + k) n = false := fun k => by
      cases hb : Nat.beq (n + 1 + k) n with
      | false => rfl
      | true => have := Nat.eq_of_beq_eq_true hb; omega
    let G' : Nat → Nat → AV := fun m => bif Nat.beq m n then g else G m
    have hG' : ∀ k, G' (n + 1 + k) = G (n + 1 + k) := fun k => by show (bif _ then _ else _) = _; rw [hne]; rfl
    have hGn : G' n = g := by show (bif Nat.beq n n then _ else _) = _; rw [Nat.beq_refl]; rfl
    have hargs : ∀ (S' : List (Bool × List CT)) (k : Nat), argsOf S' G' (n + 1 + k) = argsOf S' G (n + 1 + k) := by
      intro S'
      induction S' with
      | nil => intro k; rfl
      | cons x S' ih =>
        intro k
        obtain ⟨xb, xl⟩ := x
        cases xb <;> simp only [argsOf, hG'] <;> rw [show n + 1 + k + 1 = n + 1 + (k + 1) by omega, ih]
    refine ⟨G', fun k s hs j c hc => ?_, ?_, fun m => bif Nat.beq m 0 then d else f (m - 1), ?_⟩
    · cases k with
      | zero => simp at hs; subst hs; rw [Nat.add_zero, hGn]; exact hg j c hc
      | succ k =>
        have := hG k s (by simpa using hs) j c hc
        rw [show n + (k + 1) = n + 1 + k by omega, hG']; exact this
    · have h0 := hargs r' 0
      rw [Nat.add_zero] at h0
      cases b with
      | true =>
        have := g1 rfl; subst this
        simp only [argsOf, hGn, h0]
        exact Rels.cons hr hR
      | false =>
        have := g2 rfl; subst this
        simp only [argsOf, hGn, h0]
        refine Rels.cons ?_ hR
        obtain ⟨hl, hrr⟩ := rel_agg_parts hr
        have hlen : l.length = 1 := by rw [← hf.len]; rfl
        have e0 : l[0]? = some l[0] := by simp
        refine hrr 0 _ v ?_ rfl
        unfold atL
        rw [List.getD_eq_getElem?_getD, canonRow_get l g 0 0 _ e0]; rfl
    · rw [hds]
      simp [List.range_succ_eq_map]
      exact fun a _ => rfl
  | [], _ :: _, _, _, _, _, _, h, _ => h.elim
  | [], [], _ :: _, _, _, _, _, h, _ => h.elim
  | _ :: _, [], _, _, _, _, _, h, _ => h.elim
  | _ :: _, _ :: _, [], _, _, _, _, h, _ => h.elim

end
end Go.Am
