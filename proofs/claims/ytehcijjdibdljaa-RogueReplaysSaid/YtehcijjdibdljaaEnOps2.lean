/-
  The engine, part 3b: 'mstep' is right, operation by operation.
-/
import Derived.Test.YtehcijjdibdljaaEnOps
namespace Go.Am
open Go.RowKit

section
variable {P : Program} {β : Book} {w : World} {ρ : Operand → AV} {σ : Operand → Value} {H : Heap} {nid : Nat}

def HeapOk (β : Book) (w : World) (H : Heap) : Prop := ∀ id ob, H id = some ob → β.m id ≠ none → (∃ b mu, β.m id = some (.lives b ob.n mu) ∧ (mu = true → ob.mu = true) ∧ HRel β w ob b) ∨ (β.m id = some .empty ∧ ob.n = 0)

theorem HeapOk.lives {id : Nat} {ob : Ob} {b n : Nat} {mu : Bool} (hH : HeapOk β w H) (hid : H id = some ob) (h : β.m id = some (.lives b n mu)) : n = ob.n ∧ (mu = true → ob.mu = true) ∧ HRel β w ob b := by
  rcases hH id ob hid (by simp [h]) with ⟨b', mu', hb, h2, h3⟩ | ⟨hb, _⟩
  · rw [h] at hb; cases hb; exact ⟨rfl, h2, h3⟩
  · rw [h] at hb; cases hb

theorem HeapOk.dead {id : Nat} {ob : Ob} (hH : HeapOk β w H) (hid : H id = some ob) (h : β.m id = some .dead) : False := by
  rcases hH id ob hid (by simp [h]) with ⟨b', mu', hb, _⟩ | ⟨hb, _⟩ <;> (rw [h] at hb; cases hb)

theorem rel_int_inv {k : IntKind} {n : Int} {v : Value} (h : Rel β w (.int k n) v) : v = .int k n := by cases h; rfl
theorem rel_bool_inv {b : Bool} {v : Value} (h : Rel β w (.bool b) v) : v = .bool b := by cases h; rfl
theorem rel_str_inv {s : ByteArray} {v : Value} (h : Rel β w (.str s) v) : v = .string s := by cases h; rfl
theorem rel_agg_inv {cs : List AV} {v : Value} (h : Rel β w (.agg cs) v) : ∃ vs, v = .agg vs ∧ Rels β w cs vs := by cases h with | agg hl hr => exact ⟨_, rfl, hl, hr⟩
theorem rel_tup_inv {cs : List AV} {v : Value} (h : Rel β w (.tup cs) v) : ∃ vs, v = .tuple vs ∧ Rels β w cs vs := by cases h with | tup hl hr => exact ⟨_, rfl, hl, hr⟩

theorem constInt_eq {y : Operand} {n : Int} (h : constInt y = some n) : ∃ k, y = .const (.int k n) := by
  unfold constInt at h
  split at h
  · rename_i k m; cases h; exact ⟨k, rfl⟩
  · cases h

/-- The condition of a quotient or a shift. -/
theorem cond_of {y : Operand} {b : Int} {k' : IntKind} {T : Int → Prop} [DecidablePred T] (hy : Rel β w (.int k' b) (σ y)) (hσ : ∀ v, σ (.const v) = v)
    (h : Rq.holds (match constInt y with | some n => bif decide (T n) then .no else .yes (T b) | none => .yes (T b))) : T b := by
  cases hc : constInt y with
  | none => simpa [hc, Rq.holds] using h
  | some n =>
    obtain ⟨k, rfl⟩ := constInt_eq hc
    rw [hσ] at hy
    have := rel_int_inv hy
    simp only [Value.int.injEq] at this
    obtain ⟨_, rfl⟩ := this
    by_cases ht : T n
    · exact ht
    · simp [hc, ht, Rq.holds] at h

theorem eqGuard_int (op : BinOp) (t : TypeId) (x y : Operand) (k k' : IntKind) (a b : Int) : (eqGuard op t x y (.int k a) (.int k' b)).run P w = .ok () w := by
  unfold eqGuard
  cases op <;> simp

theorem intBin_ok {op : BinOp} {t : TypeId} {y : Operand} {k k' : IntKind} {a b : Int} {q : Rq} {v : AV} (hσ : ∀ v, σ (.const v) = v) (hy : Rel β w (.int k' b) (σ y))
    (h : intBin op y k a k' b = some (q, v)) (hq : q.holds) : ∃ u, (binOp op t (.int k a) (.int k' b)).run P w = .ok u w ∧ Rel β w v u := by
  unfold intBin at h
  split at h
  · cases h
    have hb : 0 ≤ b := cond_of (T := fun n => 0 ≤ n) hy hσ hq
    exact ⟨_, by simp [binOp, Op.shift, show ¬ b < 0 by omega], .int⟩
  · cases h
    have hb : 0 ≤ b := cond_of (T := fun n => 0 ≤ n) hy hσ hq
    exact ⟨_, by simp [binOp, Op.shift, show ¬ b < 0 by omega], .int⟩
  · rename_i h1 h2
    by_cases hk : k = k'
    · subst hk
      simp only [decide_true, cond_true] at h
      split at h
      · cases h; exact ⟨_, by simp [binOp, Op.intArith], .int⟩
      · cases h; exact ⟨_, by simp [binOp, Op.intArith], .int⟩
      · cases h; exact ⟨_, by simp [binOp, Op.intArith], .int⟩
      · cases h
        have hb : b ≠ 0 := cond_of (T := fun n => n ≠ 0) hy hσ hq
        exact ⟨_, by simp [binOp, Op.intDiv, hb], .int⟩
      · cases h
        have hb : b ≠ 0 := cond_of (T := fun n => n ≠ 0) hy hσ hq
        exact ⟨_, by simp [binOp, Op.intDiv, hb], .int⟩
      · simp only [bitsOf, Option.map_some, Option.some.injEq, Prod.mk.injEq] at h
        obtain ⟨-, rfl⟩ := h
        exact ⟨_, by simp [binOp, Op.intBits], .int⟩
      · simp only [bitsOf, Option.map_some, Option.some.injEq, Prod.mk.injEq] at h
        obtain ⟨-, rfl⟩ := h
        exact ⟨_, by simp [binOp, Op.intBits], .int⟩
      · simp only [bitsOf, Option.map_some, Option.some.injEq, Prod.mk.injEq] at h
        obtain ⟨-, rfl⟩ := h
        exact ⟨_, by simp [binOp, Op.intBits], .int⟩
      · simp only [bitsOf, Option.map_some, Option.some.injEq, Prod.mk.injEq] at h
        obtain ⟨-, rfl⟩ := h
        exact ⟨_, by simp [binOp, Op.intBits], .int⟩
      · cases op <;> simp [intCmpB] at h <;> (try (obtain ⟨-, rfl⟩ := h)) <;> first
          | exact ⟨_, by simp [binOp, Op.intCmp], .bool⟩
          | simp_all
    · simp [hk] at h

theorem rel_ipt_inv {m : Nat} {g : Nat → AV} {v : Value} (h : Rel β w (.ipt m g) v) : ∃ (b off : Nat) (vals : Nat → Value), v = .pointer (some ⟨b, off, none⟩) ∧ 0 < m ∧ β.free b ∧
    (∀ j, j < m → w.cell? ⟨b, off + j, none⟩ = some (vals j)) ∧ (∀ j, j < m → Rel β w (g j) (vals j)) ∧ (∀ j, j < m → Cl (g j)) ∧ ∀ j, j < m → (vals j).oneCell' = true := by
  cases h with | ipt vals hm hb hc ho hr hcl => exact ⟨_, _, vals, rfl, hm, hb, hc, hr, hcl, ho⟩
theorem rel_isl_inv {es n : Nat} {f : Nat → Nat → AV} {v : Value} (h : Rel β w (.isl es n f) v) : ∃ (a : Option Addr) (cap : Nat), v = .slice a n cap ∧ n ≤ cap ∧ (a = none → cap = 0) ∧ (0 < n → ∃ (b off : Nat) (vals : Nat → Nat → Value), a = some ⟨b, off, none⟩ ∧ 0 < es ∧ β.free b ∧
    (∀ i j, i < n → j < es → w.cell? ⟨b, off + i * es + j, none⟩ = some (vals i j)) ∧ (∀ i j, i < n → j < es → Rel β w (f i j) (vals i j)) ∧ (∀ i j, i < n → j < es → Cl (f i j)) ∧ ∀ i j, i < n → j < es → (vals i j).oneCell' = true) := by
  cases h with
  | isl vals he hcap hb hc ho hr hcl => exact ⟨_, _, rfl, hcap, fun h => (by cases h), fun _ => ⟨_, _, vals, rfl, he, hb, hc, hr, hcl, ho⟩⟩
  | isl0 h => exact ⟨_, _, rfl, Nat.zero_le _, h, fun h => absurd h (by omega)⟩

theorem own_cells {id es i j m : Nat} {u : Value} {ob : Ob} (hH : HeapOk β w H) (hr : Rel β w (.own id es i j m) u) (hid : H id = some ob) (he : ob.es = es) :
    ∃ (b : Nat) (vals : Nat → Value), u = .pointer (some ⟨b, i * es + j, none⟩) ∧ (∀ k, k < m → w.cell? ⟨b, i * es + j + k, none⟩ = some (vals k)) ∧ (∀ k, k < m → Rel β w (ob.f i (j + k)) (vals k)) ∧ ∀ k, k < m → (vals k).oneCell' = true := by
  cases hr with
  | ownD h => exact (hH.dead hid h).elim
  | @own _ _ _ _ _ b n mu h hi hj =>
    obtain ⟨rfl, _, cs, el, hheap, hsz, hcells⟩ := hH.lives hid h
    subst he
    refine ⟨b, fun k => cs.getD (i * ob.es + (j + k)) undef, rfl, fun k hk => ?_, fun k hk => ?_, fun k hk => ?_⟩
    · obtain ⟨x, hx, _⟩ := hcells i (j + k) hi (by omega)
      rw [← Nat.add_assoc] at hx
      simp [World.cell?, hheap, hx, Array.getD_eq_getD_getElem?, ← Nat.add_assoc]
    · obtain ⟨x, hx, hr, _⟩ := hcells i (j + k) hi (by omega)
      simp [Array.getD_eq_getD_getElem?, hx, hr]
    · obtain ⟨x, hx, _, hr⟩ := hcells i (j + k) hi (by omega)
      simp [Array.getD_eq_getD_getElem?, hx, hr]

theorem mval {r : Result Value} {r' : Result Next} {u : Value} (hr : r = .ok u w) (h : r' = r.andThen fun a w' => .ok (.value a) w') : r' = .ok (.value u) w := by rw [h, hr]; rfl

theorem add_mk (b off n : Nat) : (⟨b, off, none⟩ : Addr).add n = ⟨b, off + n, none⟩ := by
  unfold Addr.add
  split
  · rename_i h; subst h; rfl
  · rfl

theorem asIdx_eq {a : AV} {k : Int} (h : asIdx a = some k) : ∃ kk, a = .int kk k := by
  cases a <;> simp [asIdx] at h
  subst h
  exact ⟨_, rfl⟩

theorem szT_run {t : TypeId} {n : Nat} (w : World) (h : szT P t = some n) : (sizeOf t).run P w = .ok n w := by
  unfold szT at h
  cases hi : P.info? t with
  | none => simp [hi] at h
  | some i => simp [hi] at h; subst h; simp [sizeOf, typeInfo, hi]

theorem zero_run {t : TypeId} {z : Value} (w : World) (h : (P.info? t).bind (·.zero) = some z) : (zeroValue t).run P w = .ok z w := by
  cases hi : P.info? t with
  | none => simp [hi] at h
  | some i => simp [hi] at h; simp [zeroValue, typeInfo, hi, h]

theorem mixA_true {β : Book} {w : World} {a b : AV} {v : Value} (h : Rel β w a v) : Rel β w (mixA true a b) v := by
  unfold mixA
  split
  · rename_i k x k' y
    by_cases hk : k = k'
    · subst hk; simpa using h
    · simpa [hk] using h
  · simpa using h
  · simpa using h

theorem mixA_false {β : Book} {w : World} {a b : AV} {v : Value} (h : Rel β w b v) : Rel β w (mixA false a b) v := by
  unfold mixA
  split
  · rename_i k x k' y
    by_cases hk : k = k'
    · subst hk; simpa using h
    · simpa [hk] using h
  · simpa using h
  · simpa using h

theorem kindAll_spec {g : Nat → AV} {len : Nat} {kk : IntKind} (h : kindAll g len = some kk) (q : Nat) (hq : q < len) : ∃ x, g q = .int kk x := by
  unfold kindAll at h
  split at h
  · rename_i k0 x0 h0
    cases hb : (Nat.blt 0 len && (List.range len).all (fun q => isIntK k0 (g q))) with
    | false => simp [hb] at h
    | true =>
      simp only [hb, cond_true, Option.some.injEq] at h
      subst h
      rw [Bool.and_eq_true, List.all_eq_true] at hb
      have := hb.2 q (List.mem_range.2 hq)
      unfold isIntK at this
      split at this
      · rename_i k x hx
        have := of_decide_eq_true this
        subst this
        exact ⟨x, hx⟩
      · cases this
  · cases h

theorem oel_cells {id es i base len k : Nat} {u : Value} {ob : Ob} (hH : HeapOk β w H) (hr : Rel β w (.oel id es i base len k) u) (hid : H id = some ob) (he : ob.es = es) :
    ∃ (b : Nat) (x : Value), u = .pointer (some ⟨b, i * es + (base + k), none⟩) ∧ w.cell? ⟨b, i * es + (base + k), none⟩ = some x ∧ Rel β w (ob.f i (base + k)) x ∧ k < len := by
  cases hr with
  | oelD h => exact (hH.dead hid h).elim
  | @oel _ _ _ _ _ _ b n mu h hi hk hl =>
    obtain ⟨rfl, _, cs, el, hheap, hsz, hcells⟩ := hH.lives hid h
    subst he
    obtain ⟨x, hx, hr, _⟩ := hcells i (base + k) hi (by omega)
    exact ⟨b, x, rfl, by simp [World.cell?, hheap, hx], hr, hk⟩

/-- 'fieldAddr', 'indexAddr', 'load'. -/
theorem load_ok {t : TypeId} {a : Operand} {v : AV} {q : Rq} {ob : Option Ob} {dst : Option Tmp} {ty : TypeId} {pos : String} {after : Array Edge} {g : Option (Nat × Bool)} (hH : HeapOk β w H)
    (hρ : Rel β w (ρ a) (σ a)) (h : mstep P ρ H nid (.load t a) = some (q, v, ob)) : MOk β w nid ((execOp σ ⟨dst, .load t a, ty, pos, after, g⟩).run P w) v ob := by
  simp only [mstep] at h
  split at h
  · rename_i id es i j m ha
    rw [ha] at hρ
    split at h
    · rename_i o ho
      cases hb : Nat.beq o.es es with
      | false => simp [hb] at h
      | true =>
        simp only [hb, cond_true, Option.map_eq_some_iff, Prod.mk.injEq] at h
        obtain ⟨v', hv, -, rfl, rfl⟩ := h
        obtain ⟨b, vals, hu, hc, hr, _⟩ := own_cells hH hρ ho (Nat.eq_of_beq_eq_true hb)
        obtain ⟨x, hx, hxr⟩ := read_ok vals hc hr hv
        exact ⟨x, by simp [execOp, hu, Instr.loadAt, Instr.sureAddr, hx], hxr⟩
    · cases h
  · rename_i m gg ha
    rw [ha] at hρ
    obtain ⟨b, off, vals, hu, hm, hb, hc, hr, _⟩ := rel_ipt_inv hρ
    simp only [Option.map_eq_some_iff, Prod.mk.injEq] at h
    obtain ⟨v', hv, -, rfl, rfl⟩ := h
    obtain ⟨x, hx, hxr⟩ := read_ok vals hc hr hv
    exact ⟨x, by simp [execOp, hu, Instr.loadAt, Instr.sureAddr, hx], hxr⟩
  · rename_i id es i base len k ha
    rw [ha] at hρ
    split at h
    · rename_i o ho hagg
      obtain ⟨hb, h⟩ := bif_some h
      split at h
      · rename_i kk hkk
        simp only [Option.some.injEq, Prod.mk.injEq] at h
        obtain ⟨-, rfl, rfl⟩ := h
        obtain ⟨b, x, hu, hc, hr, hk⟩ := oel_cells hH hρ ho (Nat.eq_of_beq_eq_true hb)
        obtain ⟨z, hz⟩ := kindAll_spec hkk k hk
        obtain ⟨x', hx', hxr'⟩ := read_ok (P := P) (t := t) (m := 1) (g := fun _ => o.f i (base + k)) (v := o.f i (base + k)) (fun _ => x) (b := b) (off := i * es + (base + k)) (fun j hj => by
          have : j = 0 := by omega
          subst this
          exact hc) (fun _ _ => hr) (by unfold readT; simp [hagg]; rfl)
        refine ⟨x', by simp [execOp, hu, Instr.loadAt, Instr.sureAddr, hx'], ?_⟩
        rw [hz] at hxr' ⊢
        exact hxr'
      · cases h
    · cases h
  · cases h

end
end Go.Am
