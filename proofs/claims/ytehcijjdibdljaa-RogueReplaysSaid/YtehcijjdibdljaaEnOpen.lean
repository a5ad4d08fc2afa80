/-
  The engine, part 18: what an argument is, by its type; from a contract to a row.
-/
import Derived.Test.YtehcijjdibdljaaEnLaw
import Derived.ProofKit
import Derived.Deep.Slices
namespace Go.Am
open Go.RowKit Go.ChangeShapes Go.WideShapes Go.ChangeAt

/-- What a cell holds. -/
inductive CT where
  | int (k : IntKind)
  | bool
  | str
  | sl (cs : List CT)

inductive CellOk : CT → AV → Prop where
  | int {k : IntKind} {n : Int} (h : (Lit.int k n).wf = true) : CellOk (.int k) (.int k n)
  | bool {b : Bool} : CellOk .bool (.bool b)
  | str {s : ByteArray} (h : s.size ≤ maxLen) : CellOk .str (.str s)
  | sl {cs : List CT} {n : Nat} {f : Nat → Nat → AV} (hn : n ≤ maxLen) (h : ∀ (i j : Nat) c, i < n → cs[j]? = some c → CellOk c (f i j)) : CellOk (.sl cs) (.isl cs.length n f)

def shapeFs (P : Program) (sh : TypeId → Option (List CT)) : Nat → List Field → Option (List CT)
  | _, [] => some []
  | off, f :: fs => match sh f.type with
    | some l => bif Nat.beq f.offset off && Nat.beq l.length (P.cellsOf f.type) then (match shapeFs P sh (off + l.length) fs with | some r => some (l ++ r) | none => none) else none
    | none => none

/-- The cells of a type. -/
def shape (P : Program) : Nat → TypeId → Option (List CT)
  | 0, _ => none
  | n + 1, t => match P.underlying t with
    | some .bool => some [.bool]
    | some (.int k) => some [.int k]
    | some .string => some [.str]
    | some (.slice e) => match shape P n e with
      | some l => bif Nat.beq l.length (P.cellsOf e) && Nat.blt 0 l.length then some [.sl l] else none
      | none => none
    | some (.struct fs) => match shapeFs P (shape P n) 0 fs.toList with
      | some l => bif Nat.beq l.length (P.cellsOf t) then some l else none
      | none => none
    | some (.array m e) => match shape P n e with
      | some l => bif Nat.beq l.length (P.cellsOf e) && Nat.beq (m * l.length) (P.cellsOf t) then some (List.replicate m l).flatten else none
      | none => none
    | _ => none

abbrev noB : Book := Book.none fun _ => False
theorem noB_free (b : Nat) : noB.free b := ⟨fun h => h, fun _ _ h => by cases h⟩

/-- Cells of some types. -/
structure Fits (w : World) (ts : List CT) (cs : List Value) : Prop where
  len : cs.length = ts.length
  cell : ∀ (j : Nat) c, ts[j]? = some c → ∃ v a, cs[j]? = some v ∧ CellOk c a ∧ Rel noB w a v ∧ v.oneCell' = true

theorem Fits.nil {w : World} : Fits w [] [] := ⟨rfl, fun j c h => by simp at h⟩
theorem Fits.one {w : World} {c : CT} {v : Value} {a : AV} (h : CellOk c a) (hr : Rel noB w a v) (ho : v.oneCell' = true) : Fits w [c] [v] := by
  refine ⟨rfl, fun j c' hj => ?_⟩
  cases j with
  | zero => simp at hj; subst hj; exact ⟨v, a, rfl, h, hr, ho⟩
  | succ j => simp at hj
theorem Fits.append {w : World} {ts ts' : List CT} {cs cs' : List Value} (h : Fits w ts cs) (h' : Fits w ts' cs') : Fits w (ts ++ ts') (cs ++ cs') := by
  refine ⟨by simp [h.len, h'.len], fun j c hj => ?_⟩
  by_cases hl : j < ts.length
  · rw [List.getElem?_append_left hl] at hj
    rw [List.getElem?_append_left (by rw [h.len]; exact hl)]
    exact h.cell j c hj
  · rw [List.getElem?_append_right (by omega)] at hj
    rw [List.getElem?_append_right (by rw [h.len]; omega), h.len]
    exact h'.cell _ c hj

theorem mapM_each {α β : Type} {f : α → Option β} {l : List α} {r : List β} (h : l.mapM f = some r) {x : α} (hx : x ∈ l) : ∃ y, f x = some y := by
  obtain ⟨i, hi, rfl⟩ := List.getElem_of_mem hx
  have h1 := mapM_some_length h
  have h2 := mapM_some_get h i _ (List.getElem?_eq_getElem hi)
  rw [h2, List.getElem?_eq_getElem (by omega)]
  exact ⟨_, rfl⟩

theorem drop_take_split {cs : List Value} {off a b : Nat} : (cs.drop off).take (a + b) = (cs.drop off).take a ++ (cs.drop (off + a)).take b := by
  rw [List.take_add, List.drop_drop]

section
variable {H : Type} {enc : TypeId × Value → H} {P : Program} {w : World} {sp : Nat → Bool}

theorem fits_fields {sh : TypeId → Option (List CT)} {cs : List Value} : ∀ (fs : List Field) (off : Nat) (ts : List CT), shapeFs P sh off fs = some ts → (∀ f ∈ fs, ∀ l, sh f.type = some l → Fits w l ((cs.drop f.offset).take (P.cellsOf f.type))) →
    Fits w ts ((cs.drop off).take ts.length) := by
  intro fs
  induction fs with
  | nil => intro off ts h _; simp [shapeFs] at h; subst h; simpa using Fits.nil
  | cons f fs ih =>
    intro off ts h hf
    simp only [shapeFs] at h
    cases hl : sh f.type with
    | none => simp [hl] at h
    | some l =>
      simp only [hl] at h
      obtain ⟨hc, h2⟩ := bif_some h
      rw [Bool.and_eq_true] at hc
      have e1 := Nat.eq_of_beq_eq_true hc.1
      have e2 := Nat.eq_of_beq_eq_true hc.2
      cases hr : shapeFs P sh (off + l.length) fs with
      | none => simp [hr] at h2
      | some r =>
        simp only [hr, Option.some.injEq] at h2
        subst h2
        have g1 := hf f (List.mem_cons_self ..) l hl
        have g2 := ih (off + l.length) r hr (fun f' hf' => hf f' (List.mem_cons_of_mem _ hf'))
        rw [e1, ← e2] at g1
        rw [List.length_append, drop_take_split]
        exact g1.append g2

theorem fits_elems {cs : List Value} {l : List CT} : ∀ n : Nat, (∀ i, i < n → Fits w l ((cs.drop (i * l.length)).take l.length)) → Fits w (List.replicate n l).flatten (cs.take (n * l.length)) := by
  intro n
  induction n with
  | zero => intro _; simpa using Fits.nil
  | succ n ih =>
    intro h
    have g1 := ih (fun i hi => h i (by omega))
    have g2 := h n (by omega)
    have e : cs.take ((n + 1) * l.length) = cs.take (n * l.length) ++ (cs.drop (n * l.length)).take l.length := by
      rw [Nat.add_mul, Nat.one_mul, List.take_add]
    have e2 : (List.replicate (n + 1) l).flatten = (List.replicate n l).flatten ++ l := by
      rw [List.replicate_succ', List.flatten_append]; simp
    rw [e, e2]
    exact g1.append g2

theorem open_fits : ∀ (m : Nat) (t : TypeId) (fuel : Nat) (cs : List Value) (x : DataW H × List MemPlace) (ts : List CT), DataW.trod enc P w 0 sp true fuel t cs = some x → shape P m t = some ts → Fits w ts cs := by
  intro m
  induction m with
  | zero => intro t fuel cs x ts _ h; simp [shape] at h
  | succ m ih =>
    intro t fuel cs x ts htr hsh
    simp only [shape] at hsh
    cases fuel with
    | zero => simp [DataW.trod] at htr
    | succ fuel =>
      split at hsh
      · rename_i hu
        simp only [Option.some.injEq] at hsh; subst hsh
        simp only [DataW.trod, hu] at htr
        split at htr <;> simp_all
        exact .one .bool .bool rfl
      · rename_i k hu
        simp only [Option.some.injEq] at hsh; subst hsh
        simp only [DataW.trod, hu] at htr
        split at htr <;> simp_all
        obtain ⟨⟨rfl, hw⟩, _⟩ := htr
        exact .one (.int hw) .int rfl
      · rename_i hu
        simp only [Option.some.injEq] at hsh; subst hsh
        simp only [DataW.trod, hu] at htr
        split at htr <;> simp_all
        exact .one (.str htr.1) .str rfl
      · rename_i e hu
        split at hsh
        · rename_i l hl
          obtain ⟨hc, h2⟩ := bif_some hsh
          clear hsh
          rw [Bool.and_eq_true, Nat.blt_eq] at hc
          have e1 := Nat.eq_of_beq_eq_true hc.1
          cases h2
          rcases Go.Deep.open_slice hu htr with ⟨rfl, _⟩ | ⟨a, len, cap, m', n, D, Pl, rfl, hb, hlc, hm, hmm, _, hx⟩
          · exact .one (a := .isl l.length 0 fun _ _ => .junk) (.sl (Nat.zero_le _) (fun i j c hi => absurd hi (by omega))) (.isl0 fun _ => rfl) rfl
          · have hlm : len ≤ m' := by rw [hmm]; split <;> omega
            have hrow : ∀ i, i < len → ∃ cs', w.cells? 0 (a.add (i * l.length)) l.length = some cs' ∧ Fits w l cs' := fun i hi => by
              obtain ⟨cs', h1, h2⟩ := hx i (by omega)
              rw [← e1] at h1
              exact ⟨cs', h1, ih e n cs' _ l h2 hl⟩
            obtain ⟨C, hC⟩ := Go.Deep.choose_lt hrow
            have hcell : ∀ i j c, i < len → l[j]? = some c → ∃ p : Value × AV, w.cell? (a.add (i * l.length + j)) = some p.1 ∧ CellOk c p.2 ∧ Rel noB w p.2 p.1 ∧ p.1.oneCell' = true := fun i j c hi hj => by
              obtain ⟨h1, h2⟩ := hC i hi
              obtain ⟨v, av, g1, g2, g3, g4⟩ := h2.cell j c hj
              obtain ⟨_, k1, k2⟩ := World.cells?_some h1
              refine ⟨(v, av), ?_, g2, g3, g4⟩
              have hjl : j < l.length := (List.getElem?_eq_some_iff.1 hj).1
              have := k2 j hjl
              rw [Go.Deep.add_add, g1] at this
              exact this
            have hex : ∀ i, i < len → ∃ g : Nat → Value × AV, ∀ j, j < l.length → ∃ c, l[j]? = some c ∧ w.cell? (a.add (i * l.length + j)) = some (g j).1 ∧ CellOk c (g j).2 ∧ Rel noB w (g j).2 (g j).1 ∧ (g j).1.oneCell' = true := fun i hi => by
              have : Inhabited (Value × AV) := ⟨(.bool true, .junk)⟩
              exact Go.Deep.choose_lt (p := fun j (g : Value × AV) => ∃ c, l[j]? = some c ∧ w.cell? (a.add (i * l.length + j)) = some g.1 ∧ CellOk c g.2 ∧ Rel noB w g.2 g.1 ∧ g.1.oneCell' = true) (fun j hj => by
                obtain ⟨p, h1, h2, h3, h4⟩ := hcell i j l[j] hi (by simp [hj])
                exact ⟨p, l[j], by simp [hj], h1, h2, h3, h4⟩)
            have : Inhabited (Nat → Value × AV) := ⟨fun _ => (.bool true, .junk)⟩
            obtain ⟨G, hG⟩ := Go.Deep.choose_lt hex
            refine .one (a := .isl l.length len fun i j => (G i j).2) (.sl (by omega) (fun i j c hi hj => ?_)) ?_ rfl
            · have hjl : j < l.length := (List.getElem?_eq_some_iff.1 hj).1
              obtain ⟨c', g1, _, g3, _⟩ := hG i hi j hjl
              rw [hj] at g1; cases g1
              exact g3
            · rcases Nat.eq_zero_or_pos len with rfl | hpos
              · exact .isl0 (fun h => by cases h)
              · obtain ⟨b, off, spot⟩ := a
                have hspot : spot = none := by
                  obtain ⟨c', _, g2, _⟩ := hG 0 hpos 0 hc.2
                  have := World.cell?_spot g2
                  simpa [Addr.add] using this
                subst hspot
                refine .isl (fun i j => (G i j).1) hc.2 hlc (noB_free b) (fun i j hi hj => ?_) (fun i j hi hj => ?_) (fun i j hi hj => ?_) (fun i j hi hj => ?_)
                · obtain ⟨c', _, g2, _⟩ := hG i hi j hj
                  rw [← g2]
                  congr 1
                  unfold Addr.add
                  split
                  · rename_i h0
                    have : i * l.length = 0 := by omega
                    have : j = 0 := by omega
                    simp [*]
                  · simp; omega
                · obtain ⟨c', _, _, _, _, g5⟩ := hG i hi j hj; exact g5
                · obtain ⟨c', _, _, _, g4, _⟩ := hG i hi j hj; exact g4
                · obtain ⟨c', _, _, _, g4, _⟩ := hG i hi j hj; exact g4.closed
        · cases hsh
      · rename_i fs hu
        split at hsh
        · rename_i l hl
          obtain ⟨hc, h2⟩ := bif_some hsh
          clear hsh
          have h3 : l = ts := Option.some.inj h2
          subst h3
          have e1 := Nat.eq_of_beq_eq_true hc
          simp only [DataW.trod, hu] at htr
          split at htr
          · rename_i hlen
            obtain ⟨xs, hxs, _⟩ := Option.map_eq_some_iff.1 htr
            have := fits_fields (w := w) (P := P) (cs := cs) fs.toList 0 l hl (fun f hf lf hlf => by
              obtain ⟨y, hy⟩ := mapM_each hxs hf
              exact ih f.type fuel _ y lf hy hlf)
            rw [e1, ← hlen] at this
            simpa using this
          · cases htr
        · cases hsh
      · rename_i n e hu
        split at hsh
        · rename_i l hl
          obtain ⟨hc, h2⟩ := bif_some hsh
          clear hsh
          cases h2
          rw [Bool.and_eq_true] at hc
          have e1 := Nat.eq_of_beq_eq_true hc.1
          have e2 := Nat.eq_of_beq_eq_true hc.2
          simp only [DataW.trod, hu] at htr
          split at htr
          · rename_i hlen
            obtain ⟨xs, hxs, _⟩ := Option.map_eq_some_iff.1 htr
            have := fits_elems (w := w) (cs := cs) (l := l) n (fun i hi => by
              obtain ⟨y, hy⟩ := mapM_each hxs (List.mem_range.2 hi)
              rw [← e1] at hy
              exact ih e fuel _ y l hy hl)
            rw [e2, ← hlen] at this
            simpa using this
          · cases htr
        · cases hsh
      · cases hsh

end
end Go.Am
