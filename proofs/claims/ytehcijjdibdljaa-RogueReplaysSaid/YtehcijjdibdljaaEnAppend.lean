/-
  The engine, part 9: append.
-/
import Derived.Test.YtehcijjdibdljaaEnMade
import Derived.Deep.Upon
namespace Go.Am
open Go.RowKit

/-- Rows of integers of one kind stay a function, others go row by row. -/
def islRep (hom : Bool) (s : Nat) (f : Nat → Nat → AV) : Rep := match hom with
  | true => .fn f
  | false => .row (fun r => (List.range s).map (f r))

theorem islRep_rel {β : Book} {w : World} {hom : Bool} {s : Nat} {f : Nat → Nat → AV} {r j : Nat} {v : Value} (h : Rel β w (f r j) v) : Rel β w ((islRep hom s f) r j) v := by
  cases hom with
  | true => exact h
  | false => exact atL_range h

/-- The elements that are appended. -/
def srcOf (H : Heap) (hom isS : Bool) (s : Nat) : AV → Option (Nat × Rep)
  | .isl es m f => bif isS && Nat.beq es s then some (m, islRep hom s f) else none
  | .nsl => bif isS then some (0, .lst []) else none
  | .esl => bif isS then some (0, .lst []) else none
  | .osl id es i m => match H id with
    | some o => bif isS && (Nat.beq es s && Nat.beq o.es s) then some (m, o.f.shift i) else none
    | none => none
  | .nn v => srcOf H hom isS s v
  | .str b => bif !isS && Nat.beq s 1 then some (b.size, .fn fun r _ => .int .u8 (b.data.toList.getD r 0).toNat) else none
  | _ => none

/-- The slice that is appended to: the object that dies, the number of its rows, its cells. -/
def dstOf (H : Heap) (s : Nat) : AV → Option (List Nat × Nat × Rep)
  | .nsl => some ([], 0, .lst [])
  | .esl => some ([], 0, .lst [])
  | .osl id es 0 len => match H id with
    | some o => bif Nat.beq es s && Nat.beq o.es s then some ([id], len, o.f) else none
    | none => none
  | _ => none

def srcKind (P : Program) (t : TypeId) : Option Bool := match P.underlying t with
  | some (.slice _) => some true
  | some .string => some false
  | _ => none

/-- The kind of m rows of s cells, if they are integers of one kind. -/
def rowsInt (s m : Nat) (l : List (List AV)) : Option IntKind := bif Nat.ble m l.length && l.all (fun x => Nat.beq x.length s) then kindAll (atL l.flatten) l.flatten.length else none

def srcAt (m n : Nat) (l : List (List AV)) (r j : Nat) : AV := match l with
  | [x] => bif Nat.ble m 1 then atL x j else atL (l.getD (r - n) []) j
  | l => atL (l.getD (r - n) []) j

/-- n rows, and m more. -/
def Rep.app (s n m : Nat) (f g : Rep) : Rep := match f, g with
  | .lst l, .lst l' => bif Nat.beq n l.length then .lst (l ++ l') else .cat n (.lst l) (.lst l')
  | .lst l, .fn g => bif Nat.beq n 0 then .fn g else .fn (fun r j => mixA (Nat.blt r n) (atL (l.getD r []) j) (g (r - n) j))
  | .lst l, g => bif Nat.beq n 0 then g else .cat n (.lst l) g
  | .fn f, .fn g => .fn (fun r j => mixA (Nat.blt r n) (f r j) (g (r - n) j))
  | .fn f, .lst l => match rowsInt s m l with
    | some kk => .fn (fun r j => mixA (Nat.blt r n) (f r j) (.int kk (intOfAV (srcAt m n l r j))))
    | none => .cat n (.fn f) (.lst l)
  | f, g => .cat n f g

theorem rowsInt_spec {s m : Nat} {l : List (List AV)} {kk : IntKind} (h : rowsInt s m l = some kk) {r j : Nat} (hr : r < m) (hj : j < s) : ∃ x, atL (l.getD r []) j = .int kk x := by
  unfold rowsInt at h
  obtain ⟨hc, h⟩ := bif_some h
  rw [Bool.and_eq_true, Nat.ble_eq, List.all_eq_true] at hc
  have hrl : r < l.length := by omega
  have hx := Nat.eq_of_beq_eq_true (hc.2 l[r] (List.getElem_mem hrl))
  have hj' : j < l[r].length := by omega
  have e : atL (l.getD r []) j = l[r][j] := by
    unfold atL
    rw [List.getD_eq_getElem?_getD, List.getD_eq_getElem?_getD, List.getElem?_eq_getElem hrl]
    simp [hj']
  have hm : l[r][j] ∈ l.flatten := List.mem_flatten.2 ⟨l[r], List.getElem_mem hrl, List.getElem_mem hj'⟩
  obtain ⟨q, hq, hqe⟩ := List.getElem_of_mem hm
  obtain ⟨x, hx⟩ := kindAll_spec h q hq
  refine ⟨x, ?_⟩
  rw [e, ← hqe, ← hx]
  unfold atL
  rw [List.getD_eq_getElem?_getD, List.getElem?_eq_getElem hq]
  rfl

theorem srcAt_eq {m n : Nat} {l : List (List AV)} {r j : Nat} (h1 : n ≤ r) (h2 : r < n + m) : srcAt m n l r j = atL (l.getD (r - n) []) j := by
  unfold srcAt
  split
  · rename_i x
    cases hb : Nat.ble m 1 with
    | false => rfl
    | true =>
      rw [Nat.ble_eq] at hb
      have : r - n = 0 := by omega
      rw [this]
      rfl
  · rfl

theorem Rep.app_old {β : Book} {w : World} {s n m : Nat} {f g : Rep} {r j : Nat} {v : Value} (hr : r < n) (h : Rel β w (f r j) v) : Rel β w ((Rep.app s n m f g) r j) v := by
  have hb : Nat.blt r n = true := by rw [Nat.blt_eq]; exact hr
  have hcat : ∀ f g : Rep, Rel β w (f r j) v → Rel β w ((Rep.cat n f g) r j) v := fun f g h => by
    show Rel β w (mixA _ _ _) v; rw [hb]; exact mixA_true h
  unfold Rep.app
  split
  · rename_i l l'
    cases hq : Nat.beq n l.length with
    | true =>
      have := Nat.eq_of_beq_eq_true hq
      show Rel β w (atL ((l ++ l').getD r []) j) v
      rw [List.getD_eq_getElem?_getD, List.getElem?_append_left (by omega), ← List.getD_eq_getElem?_getD]
      exact h
    | false => exact hcat _ _ h
  · rename_i l g
    cases hq : Nat.beq n 0 with
    | true => have := Nat.eq_of_beq_eq_true hq; omega
    | false => show Rel β w (mixA _ _ _) v; rw [hb]; exact mixA_true h
  · rename_i l g _ _
    cases hq : Nat.beq n 0 with
    | true => have := Nat.eq_of_beq_eq_true hq; omega
    | false => exact hcat _ _ h
  · show Rel β w (mixA _ _ _) v; rw [hb]; exact mixA_true h
  · split
    · show Rel β w (mixA _ _ _) v; rw [hb]; exact mixA_true h
    · exact hcat _ _ h
  · exact hcat _ _ h

theorem Rep.app_new {β : Book} {w : World} {s n m : Nat} {f g : Rep} {r j : Nat} {v : Value} (h1 : n ≤ r) (h2 : r < n + m) (hj : j < s) (h : Rel β w (g (r - n) j) v) : Rel β w ((Rep.app s n m f g) r j) v := by
  have hb : Nat.blt r n = false := by
    cases hb : Nat.blt r n with
    | false => rfl
    | true => rw [Nat.blt_eq] at hb; omega
  have hcat : ∀ f g : Rep, Rel β w (g (r - n) j) v → Rel β w ((Rep.cat n f g) r j) v := fun f g h => by
    show Rel β w (mixA _ _ _) v; rw [hb]; exact mixA_false h
  unfold Rep.app
  split
  · rename_i l l'
    have h : Rel β w (atL (l'.getD (r - n) []) j) v := h
    cases hq : Nat.beq n l.length with
    | true =>
      have := Nat.eq_of_beq_eq_true hq
      show Rel β w (atL ((l ++ l').getD r []) j) v
      rw [List.getD_eq_getElem?_getD, List.getElem?_append_right (by omega), ← List.getD_eq_getElem?_getD, ← this]
      exact h
    | false => exact hcat _ _ h
  · rename_i l g
    cases hq : Nat.beq n 0 with
    | true =>
      have := Nat.eq_of_beq_eq_true hq
      subst this
      exact h
    | false => show Rel β w (mixA _ _ _) v; rw [hb]; exact mixA_false h
  · rename_i l g _ _
    cases hq : Nat.beq n 0 with
    | true =>
      have := Nat.eq_of_beq_eq_true hq
      subst this
      exact h
    | false => exact hcat _ _ h
  · show Rel β w (mixA _ _ _) v; rw [hb]; exact mixA_false h
  · rename_i l
    have h : Rel β w (atL (l.getD (r - n) []) j) v := h
    split
    · rename_i kk hk
      show Rel β w (mixA _ _ _) v
      rw [hb, srcAt_eq h1 h2]
      obtain ⟨x, hx⟩ := rowsInt_spec hk (r := r - n) (by omega) hj
      rw [hx] at h ⊢
      exact mixA_false h
    · exact hcat _ _ h
  · exact hcat _ _ h

/-- append: what must hold, the value, the object that dies, the new object. -/
def astep (P : Program) (ρ : Operand → AV) (H : Heap) (nid : Nat) : Op → Option (Prop × AV × List Nat × Ob)
  | .call { callee := .builtin .append, args := args, argTypes := ts } => match args.toList, ts.toList with
    | [x, y], [t, t2] => match P.underlying t with
      | some (.slice e) => match P.info? e, srcKind P t2 with
        | some inf, some isS => match inf.zero with
          | some z => bif Nat.blt 0 inf.size && (Nat.blt 0 inf.bytes && Nat.beq (zcells z).length inf.size) then
              match dstOf H inf.size (ρ x), srcOf H (kindAll (atL (zcells z)) inf.size).isSome isS inf.size (ρ y) with
              | some (ids, n, f), some (m, g) => some ((n + m) * inf.bytes ≤ 140737488355328, .osl nid inf.size 0 (n + m), ids, ⟨inf.size, n + m, true, Rep.app inf.size n m f g⟩)
              | _, _ => none
            else none
          | none => none
        | _, _ => none
      | _ => none
    | _, _ => none
  | _ => none

def rowsL (m s : Nat) (vals : Nat → Nat → Value) : List Value := (List.range (m * s)).map fun k => vals (k / s) (k % s)

theorem rowsL_length (m s : Nat) (vals : Nat → Nat → Value) : (rowsL m s vals).length = m * s := by simp [rowsL]

theorem rowsL_get {m s : Nat} {vals : Nat → Nat → Value} {r j : Nat} (hr : r < m) (hj : j < s) : (rowsL m s vals)[r * s + j]? = some (vals r j) := by
  have hlt : r * s + j < m * s := by
    have := Nat.mul_le_mul_right s (show r + 1 ≤ m by omega)
    rw [Nat.add_mul] at this
    omega
  unfold rowsL
  rw [List.getElem?_map, List.getElem?_range hlt]
  simp only [Option.map_some, Option.some.injEq]
  have h1 : (r * s + j) / s = r := by
    rw [Nat.add_comm, Nat.add_mul_div_right _ _ (by omega), Nat.div_eq_of_lt hj, Nat.zero_add]
  have h2 : (r * s + j) % s = j := by
    rw [Nat.add_comm, Nat.add_mul_mod_self_right, Nat.mod_eq_of_lt hj]
  rw [h1, h2]

theorem rowsL_mem {m s k : Nat} {vals : Nat → Nat → Value} {u : Value} (h : (rowsL m s vals)[k]? = some u) : ∃ r j, r < m ∧ j < s ∧ k = r * s + j ∧ u = vals r j := by
  have hk : k < m * s := by
    have := (List.getElem?_eq_some_iff.1 h).1
    rwa [rowsL_length] at this
  have hs : 0 < s := by
    rcases Nat.eq_zero_or_pos s with e | e
    · subst e; simp at hk
    · exact e
  refine ⟨k / s, k % s, (Nat.div_lt_iff_lt_mul hs).2 hk, Nat.mod_lt _ hs, ?_, ?_⟩
  · have := Nat.div_add_mod k s
    rw [Nat.mul_comm] at this
    exact this.symm
  · unfold rowsL at h
    rw [List.getElem?_map, List.getElem?_range hk] at h
    simp at h
    exact h.symm

section
variable {P : Program} {β : Book} {w : World} {H : Heap}

/-- What the second argument yields. -/
theorem src_ok {hom isS : Bool} {s m : Nat} {g : Rep} {y : AV} {vy : Value} {tx : TypeId} (hs : 0 < s) (hH : HeapOk β w H) (hk : srcKind P tx = some isS) (hr : Rel β w y vy) (h : srcOf H hom isS s y = some (m, g)) :
    ∃ news, Src P s tx vy m news w ∧ ∀ r j, r < m → j < s → ∃ u, news[r * s + j]? = some u ∧ Rel β w (g r j) u ∧ u.oneCell' = true := by
  have hkind : isS = true → ∃ e', P.underlying tx = some (.slice e') := by
    rintro rfl
    unfold srcKind at hk
    split at hk
    · exact ⟨_, ‹_›⟩
    · cases hk
    · cases hk
  have zero : ∀ (a : Option Addr) (cap : Nat), isS = true → ∃ news, Src P s tx (.slice a 0 cap) 0 news w ∧ ∀ r j, r < 0 → j < s → ∃ u, news[r * s + j]? = some u ∧ Rel β w (g r j) u ∧ u.oneCell' = true := by
    intro a cap hS
    obtain ⟨e', he⟩ := hkind hS
    cases a with
    | none => exact ⟨[], Src.ofNil w he cap, fun r j h => absurd h (by omega)⟩
    | some a => exact ⟨[], Src.ofSlice w he a 0 cap [] (by simp) (by simp) (by simp), fun r j h => absurd h (by omega)⟩
  have rows : ∀ (b off cap : Nat) (vals : Nat → Nat → Value), isS = true → (∀ r j, r < m → j < s → w.cell? ⟨b, off + r * s + j, none⟩ = some (vals r j)) → (∀ r j, r < m → j < s → (vals r j).oneCell' = true) →
      (∀ r j, r < m → j < s → Rel β w (g r j) (vals r j)) → ∃ news, Src P s tx (.slice (some ⟨b, off, none⟩) m cap) m news w ∧ ∀ r j, r < m → j < s → ∃ u, news[r * s + j]? = some u ∧ Rel β w (g r j) u ∧ u.oneCell' = true := by
    intro b off cap vals hS hc ho hrel
    obtain ⟨e', he⟩ := hkind hS
    refine ⟨rowsL m s vals, Src.ofSlice w he ⟨b, off, none⟩ m cap _ (rowsL_length ..) (fun k u hu => ?_) (fun u hu => ?_), fun r j hr' hj => ⟨vals r j, rowsL_get hr' hj, hrel r j hr' hj, ho r j hr' hj⟩⟩
    · obtain ⟨r, j, hr', hj, rfl, rfl⟩ := rowsL_mem hu
      rw [add_mk, ← Nat.add_assoc]
      exact hc r j hr' hj
    · obtain ⟨k, hk', rfl⟩ := List.getElem_of_mem hu
      obtain ⟨r, j, hr', hj, _, e⟩ := rowsL_mem (List.getElem?_eq_getElem hk')
      rw [e]; exact ho r j hr' hj
  cases hr with
  | nsl => obtain ⟨hc, h⟩ := bif_some h; cases h; exact zero none 0 hc
  | @esl a => obtain ⟨hc, h⟩ := bif_some h; cases h; exact zero a 0 hc
  | @isl es n cap f b off vals he hcap hb hc ho hrr hcl =>
    replace h := bif_some h; obtain ⟨hc', h⟩ := h
    rw [Bool.and_eq_true] at hc'
    have e := Nat.eq_of_beq_eq_true hc'.2
    subst e
    cases h
    exact rows b off cap vals hc'.1 hc ho (fun r j hr hj => islRep_rel (hrr r j hr hj))
  | @isl0 es cap f a _ =>
    replace h := bif_some h; obtain ⟨hc', h⟩ := h
    rw [Bool.and_eq_true] at hc'
    cases h
    exact zero a cap hc'.1
  | @osl id es i len b n cap sz mu el h1 hn hcap hsh hz =>
    simp only [srcOf] at h
    cases ho : H id with
    | none => simp [ho] at h
    | some o =>
      simp only [ho] at h
      replace h := bif_some h; obtain ⟨hc', h⟩ := h
      simp only [Bool.and_eq_true] at hc'
      have e1 := Nat.eq_of_beq_eq_true hc'.2.1
      have e2 := Nat.eq_of_beq_eq_true hc'.2.2
      subst e1
      cases h
      obtain ⟨rfl, _, cs, el', hheap, hsz, hcells⟩ := hH.lives ho h1
      rw [e2] at hcells
      have key : ∀ r j, r < m → j < es → ∃ v, cs[(r + i) * es + j]? = some v ∧ Rel β w (o.f (r + i) j) v ∧ v.oneCell' = true := fun r j hr' hj => hcells (r + i) j (by omega) hj
      refine rows b (i * es) cap (fun r j => cs.getD ((r + i) * es + j) undef) hc'.1 (fun r j hr' hj => ?_) (fun r j hr' hj => ?_) (fun r j hr' hj => ?_)
      · obtain ⟨v, hv, _⟩ := key r j hr' hj
        have e : i * es + r * es + j = (r + i) * es + j := by rw [Nat.add_mul]; omega
        rw [e]
        simp [World.cell?, hheap, hv, Array.getD_eq_getD_getElem?]
      · obtain ⟨v, hv, _, ho'⟩ := key r j hr' hj
        simp [Array.getD_eq_getD_getElem?, hv, ho']
      · obtain ⟨v, hv, hr'', _⟩ := key r j hr' hj
        simp only [Array.getD_eq_getD_getElem?, hv, Option.getD_some]
        rw [Rep.shift_at]
        exact hr''
  | @osl0 id es i a h1 =>
    simp only [srcOf] at h
    cases ho : H id with
    | none => simp [ho] at h
    | some o =>
      simp only [ho] at h
      replace h := bif_some h; obtain ⟨hc', h⟩ := h
      simp only [Bool.and_eq_true] at hc'
      cases h
      exact zero a 0 hc'.1
  | @oslD id es i len n cap a h1 =>
    simp only [srcOf] at h
    cases ho : H id with
    | none => simp [ho] at h
    | some o => exact (hH.dead ho h1).elim
  | @str b =>
    replace h := bif_some h; obtain ⟨hc', h⟩ := h
    rw [Bool.and_eq_true] at hc'
    have e := Nat.eq_of_beq_eq_true hc'.2
    subst e
    have hF := not_true hc'.1
    subst hF
    have hu : P.underlying tx = some .string := by
      unfold srcKind at hk
      split at hk
      · cases hk
      · assumption
      · cases hk
    cases h
    refine ⟨byteCells b, Src.ofString w hu b, fun r j hr' hj => ?_⟩
    obtain rfl : j = 0 := by omega
    have hlt : r < b.data.toList.length := by rw [Array.length_toList]; exact hr'
    refine ⟨.int .u8 (b.data.toList[r]).toNat, ?_, ?_, rfl⟩
    · simp [byteCells, hr']
    · show Rel β w (.int .u8 ((b.data.toList.getD r 0).toNat : Int)) _
      have : b.data.toList.getD r 0 = b.data.toList[r] := by rw [List.getD_eq_getElem?_getD, List.getElem?_eq_getElem hlt]; rfl
      rw [this]
      exact .int
  | int => cases h
  | bool => cases h
  | raw => cases h
  | own => cases h
  | ownD => cases h
  | oel => cases h
  | oelD => cases h
  | ipt => cases h
  | agg => cases h
  | tup => cases h
  | fn => cases h
  | ifc => cases h
  | nn h' => exact src_ok hs hH hk h' h
  | junk => cases h

/-- What the first argument is: an empty slice without room; or rows of an object. -/
theorem dst_ok {s n : Nat} {ids : List Nat} {f : Rep} {x : AV} {vx : Value} (hH : HeapOk β w H) (hr : Rel β w x vx) (h : dstOf H s x = some (ids, n, f)) :
    (n = 0 ∧ (∃ a, vx = .slice a 0 0) ∧ (ids = [] ∨ ∃ id, ids = [id] ∧ β.m id ≠ none)) ∨
    (∃ id b cap cs el nn mu sz, ids = [id] ∧ vx = .slice (some ⟨b, 0, none⟩) n cap ∧ β.m id = some (.lives b nn mu) ∧ n ≤ nn ∧ n ≤ cap ∧ w.heap[b]? = some (.cells cs el (0, 0)) ∧ sz = cs.size ∧ cap * s ≤ sz ∧
      ∀ r j, r < n → j < s → ∃ u, cs[r * s + j]? = some u ∧ Rel β w (f r j) u ∧ u.oneCell' = true) := by
  cases hr with
  | nsl => cases h; exact .inl ⟨rfl, ⟨_, rfl⟩, .inl rfl⟩
  | esl => cases h; exact .inl ⟨rfl, ⟨_, rfl⟩, .inl rfl⟩
  | @osl id es i len b nn cap sz mu el h1 hn hcap hsh hz =>
    cases i with
    | succ i => simp [dstOf] at h
    | zero =>
      simp only [dstOf] at h
      cases ho : H id with
      | none => simp [ho] at h
      | some o =>
        simp only [ho] at h
        replace h := bif_some h; obtain ⟨hc', h⟩ := h
        rw [Bool.and_eq_true] at hc'
        have e1 := Nat.eq_of_beq_eq_true hc'.1
        have e2 := Nat.eq_of_beq_eq_true hc'.2
        subst e1
        cases h
        obtain ⟨rfl, _, cs, el', hheap, hsz, hcells⟩ := hH.lives ho h1
        rw [e2] at hcells
        have hsz' : sz = cs.size := by
          unfold World.shape? at hsh
          rw [hheap] at hsh
          simp at hsh
          exact hsh.2.symm
        exact .inr ⟨id, b, cap, cs, el', _, mu, sz, rfl, by simp, h1, by omega, hcap, hheap, hsz', by simpa using hz, fun r j hr' hj => hcells r j (by omega) hj⟩
  | @osl0 id es i a h1 =>
    cases i with
    | succ i => simp [dstOf] at h
    | zero =>
      simp only [dstOf] at h
      cases ho : H id with
      | none => simp [ho] at h
      | some o =>
        simp only [ho] at h
        replace h := bif_some h; obtain ⟨hc', h⟩ := h
        cases h
        exact .inl ⟨rfl, ⟨a, rfl⟩, .inr ⟨id, rfl, h1⟩⟩
  | @oslD id es i len nn cap a h1 =>
    cases i with
    | succ i => simp [dstOf] at h
    | zero =>
      simp only [dstOf] at h
      cases ho : H id with
      | none => simp [ho] at h
      | some o => exact (hH.dead ho h1).elim
  | int => cases h
  | bool => cases h
  | str => cases h
  | raw => cases h
  | own => cases h
  | ownD => cases h
  | oel => cases h
  | oelD => cases h
  | isl => cases h
  | isl0 => cases h
  | ipt => cases h
  | agg => cases h
  | tup => cases h
  | fn => cases h
  | ifc => cases h
  | nn _ => cases h
  | junk => cases h

end

section
variable {K : Ctx} {ops : Array Oper} {c : Nat} {E : Nat → Prop} {β : Book} {s : RSt} {a : Act} {w : World} {i : Nat} {o : Oper}

/-- An object has taken the place of others (or of none). -/
theorem RSim.moved {u : Value} {v : AV} {x : Ob} {w' : World} {own : Own} {kills : List Nat} (hs : RSim K ops c E β s a w) (hp : Pre K ops s i o) (hE : E i) (hg : s.G o.guard = true)
    (hkills : ∀ id, id ∈ kills → β.m id ≠ none ∧ ∀ b n mu, β.m id = some (.lives b n mu) → mu = true)
    (hown : ∀ b n mu, own = .lives b n mu → b < w'.heap.size ∧ (w.heap.size ≤ b ∨ ∃ id, id ∈ kills ∧ ∃ n mu, β.m id = some (.lives b n mu)))
    (hos : w'.os = w.os) (htape : w'.tape = w.tape) (hout : w'.output = w.output) (hsize : w.heap.size ≤ w'.heap.size)
    (hblock : ∀ k, k < w.heap.size → (∀ id, id ∈ kills → ∀ n mu, β.m id ≠ some (.lives k n mu)) → w'.heap[k]? = w.heap[k]?) (hshape : ∀ k, k < w.heap.size → w'.shape? k = w.shape? k)
    (hN : ∀ β' : Book, β'.m (c + 8 * i) = some own → Keeps β w β' w' → Rel β' w' v u ∧ Holds β' w' x (c + 8 * i)) :
    ∃ β', RSim K ops c (less E i) β' (s.app i o ⟨v, true, [], (c + 8 * i, some x) :: kills.map (fun id => (id, none)), []⟩) (a.put o.dst u) w' := by
  have hfr : β.m (c + 8 * i) = none := hs.h.freshE i 0 hE (by omega)
  have hnk : ∀ id, id ∈ kills → c + 8 * i ≠ id := fun id hid e => (hkills id hid).1 (e ▸ hfr)
  let β' : Book := setB β ((c + 8 * i, own) :: kills.map (fun id => (id, Own.dead)))
  have lkD : ∀ (l : List Nat) id, look (l.map (fun id => (id, Own.dead))) id = if id ∈ l then some .dead else none := by
    intro l id
    induction l with
    | nil => rfl
    | cons y l ih =>
      rw [List.map_cons, look_cons, ih]
      by_cases e : y = id
      · subst e; simp
      · have : id ≠ y := fun h => e h.symm
        simp [e, this]
  have lkN : ∀ (l : List Nat) id, look (l.map (fun id => (id, (none : Option Ob)))) id = if id ∈ l then some none else none := by
    intro l id
    induction l with
    | nil => rfl
    | cons y l ih =>
      rw [List.map_cons, look_cons, ih]
      by_cases e : y = id
      · subst e; simp
      · have : id ≠ y := fun h => e h.symm
        simp [e, this]
  have m0 : β'.m (c + 8 * i) = some own := setB_at (by rw [look_cons, if_pos rfl])
  have m1 : ∀ id, id ∈ kills → β'.m id = some .dead := fun id hid => setB_at (by rw [look_cons, if_neg (hnk id hid), lkD, if_pos hid])
  have m2 : ∀ id, id ≠ c + 8 * i → id ∉ kills → β'.m id = β.m id := fun id h1 h2 => setB_old (by rw [look_cons, if_neg (fun e => h1 e.symm), lkD, if_neg h2])
  have hk : Keeps β w β' w' := by
    refine ⟨fun id o ho => ?_, fun b hlt hf => hblock b hlt (fun id hid n mu hm => ?_), fun b hlt hf => ⟨hf.1, fun id n => ?_⟩, fun b e z hbs => ?_⟩
    · by_cases h1 : id ∈ kills
      · exact ⟨.dead, m1 id h1, by cases o <;> trivial⟩
      · refine ⟨o, ?_, o.later_refl⟩
        rw [m2 id (fun e => by rw [e, hfr] at ho; cases ho) h1]; exact ho
    · have := (hkills id hid).2 b n mu hm
      subst this
      exact hf.2 id n hm
    · by_cases h0 : id = c + 8 * i
      · subst h0
        rw [m0]
        intro h
        injection h with h
        obtain ⟨_, h1 | ⟨id', hid', n', mu', hm'⟩⟩ := hown b n true h
        · omega
        · have := (hkills id' hid').2 b n' mu' hm'
          subst this
          exact hf.2 id' n' hm'
      · by_cases h1 : id ∈ kills
        · rw [m1 id h1]; intro h; cases h
        · rw [m2 id h0 h1]; exact hf.2 id n
    · rw [hshape b (lt_of_shape hbs)]; exact hbs
  obtain ⟨hv, hob⟩ := hN β' m0 hk
  have hkept : Kept K.B K.G w w' := by
    refine ⟨hos, htape, hout, hsize, fun k hkB hG => hblock k (by have := hs.h.hB; omega) (fun id hid n mu hm => ?_), fun k hkB => hshape k (by have := hs.h.hB; omega)⟩
    rcases (hs.h.live id k n mu hm).1 with h | h
    · omega
    · exact hG h
  refine ⟨β', hs.step hp hE hg hk hkept rfl (fun id ob h => ⟨fun _ => ?_, fun h => by cases h⟩) (fun id o' hl ho hgi => ?_) (fun id o' hl ho h => ?_) ?_ (fun id h => ?_) (fun id b n mu h => ?_) (fun _ => hv) (fun h => by cases h)⟩
  · simp only [look_cons] at h
    by_cases e : c + 8 * i = id
    · rw [if_pos e] at h
      cases h
      subst e
      exact hob
    · rw [if_neg e, lkN] at h
      by_cases h1 : id ∈ kills
      · rw [if_pos h1] at h; cases h
      · rw [if_neg h1] at h; cases h
  · simp only [look_cons] at hl
    by_cases e : c + 8 * i = id
    · rw [if_pos e] at hl; cases hl
    · rw [if_neg e, lkN] at hl
      by_cases h1 : id ∈ kills
      · rw [if_pos h1] at hl; cases hl
      · have hon : ∀ l, Eff.on ⟨v, true, [], l, []⟩ id o' = o' := fun l => by simp [Eff.on, look, memN]
        rw [hon]
        rcases hs.h.heap id o' ho hgi with ⟨b, g1, g2⟩ | ⟨g1, g2⟩
        · refine .inl ⟨b, by rw [m2 id (fun h => e h.symm) h1]; exact g1, g2.keep hk (hblock b (hs.h.live id b _ _ g1).2 (fun id' hid' n mu hm => h1 ?_))⟩
          rw [hs.h.inj id id' b _ _ _ _ g1 hm]; exact hid'
        · exact .inr ⟨by rw [m2 id (fun h => e h.symm) h1]; exact g1, g2⟩
  · simp only [look_cons] at hl
    by_cases e : c + 8 * i = id
    · rw [if_pos e] at hl; cases hl
    · rw [if_neg e, lkN] at hl
      by_cases h1 : id ∈ kills
      · rw [if_pos h1] at hl; cases hl
      · rw [m2 id (fun h => e h.symm) h1]; exact h
  · have key : ∀ q b n n' mu mu', β'.m (c + 8 * i) = some (.lives b n mu) → q ≠ c + 8 * i → β'.m q = some (.lives b n' mu') → False := by
      intro q b n n' mu mu' h1 hq h2
      rw [m0] at h1
      injection h1 with h1
      by_cases hqk : q ∈ kills
      · rw [m1 q hqk] at h2; cases h2
      · rw [m2 q hq hqk] at h2
        obtain ⟨_, h3 | ⟨id', hid', n2, mu2, hm'⟩⟩ := hown b n mu h1
        · have := (hs.h.live q b n' mu' h2).2; omega
        · exact hqk (by rw [hs.h.inj q id' b _ _ _ _ h2 hm']; exact hid')
    intro p q b n n' mu mu' h1 h2
    by_cases e1 : p = c + 8 * i <;> by_cases e2 : q = c + 8 * i
    · rw [e1, e2]
    · subst e1; exact (key q b n n' mu mu' h1 e2 h2).elim
    · subst e2; exact (key p b n' n mu' mu h2 e1 h1).elim
    · by_cases k1 : p ∈ kills
      · rw [m1 p k1] at h1; cases h1
      · by_cases k2 : q ∈ kills
        · rw [m1 q k2] at h2; cases h2
        · rw [m2 p e1 k1] at h1
          rw [m2 q e2 k2] at h2
          exact hs.h.inj p q b n n' mu mu' h1 h2
  · by_cases e : id = c + 8 * i
    · exact .inr ⟨0, by omega, by omega⟩
    · by_cases h1 : id ∈ kills
      · exact .inl (hkills id h1).1
      · rw [m2 id e h1] at h; exact .inl h
  · by_cases e : id = c + 8 * i
    · subst e
      rw [m0] at h
      injection h with h
      obtain ⟨h2, h3 | ⟨id', hid', n2, mu2, hm'⟩⟩ := hown b n mu h
      · have := hs.h.hB
        exact ⟨.inl (by omega), h2⟩
      · exact ⟨(hs.h.live id' b n2 mu2 hm').1, h2⟩
    · by_cases h1 : id ∈ kills
      · rw [m1 id h1] at h; cases h
      · rw [m2 id e h1] at h
        have := (hs.h.live id b n mu h).2
        exact ⟨(hs.h.live id b n mu h).1, by omega⟩

end
end Go.Am
