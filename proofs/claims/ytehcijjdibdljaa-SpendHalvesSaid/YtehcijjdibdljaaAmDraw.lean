/-
  The engine, part 11: a region that draws its order: what must come before what.
-/
import Derived.Test.YtehcijjdibdljaaAmRun
namespace Go.Am
open Go.RowKit

/-- What 'Region.before' holds at a place: the bits of what must come before. -/
def preOf (acc : Array Nat) (o : Oper) : Nat := o.after.foldl (fun s e => if Region.binds .any e then s ||| 2 ^ e.on ||| acc.getD e.on 0 else s) 0

theorem before_eq (ops : Array Oper) : Region.before ops = ops.foldl (init := #[]) fun acc o => acc.push (preOf acc o) := rfl

theorem foldl_push_spec (l : List Oper) : ∀ (acc : Array Nat), ∃ B : Array Nat, l.foldl (fun acc o => acc.push (preOf acc o)) acc = B ∧ B.size = acc.size + l.length ∧ (∀ k, k < acc.size → B[k]? = acc[k]?) ∧
    ∀ i o, l[i]? = some o → ∃ A : Array Nat, A.size = acc.size + i ∧ (∀ k, k < A.size → A[k]? = B[k]?) ∧ B[acc.size + i]? = some (preOf A o) := by
  induction l with
  | nil => intro acc; exact ⟨acc, rfl, by simp, fun _ _ => rfl, fun i o h => by simp at h⟩
  | cons x l ih =>
    intro acc
    obtain ⟨B, h1, h2, h3, h4⟩ := ih (acc.push (preOf acc x))
    refine ⟨B, h1, by simp at h2 ⊢; omega, fun k hk => ?_, fun i o ho => ?_⟩
    · rw [h3 k (by simp; omega), Array.getElem?_push, if_neg (by omega)]
    · cases i with
      | zero =>
        simp at ho
        subst ho
        refine ⟨acc, by simp, fun k hk => ?_, ?_⟩
        · rw [h3 k (by simp; omega), Array.getElem?_push, if_neg (by omega)]
        · rw [h3 (acc.size + 0) (by simp), Nat.add_zero]
          simp
      | succ i =>
        simp only [List.getElem?_cons_succ] at ho
        obtain ⟨A, g1, g2, g3⟩ := h4 i o ho
        refine ⟨A, by simp at g1; omega, g2, ?_⟩
        have e : (acc.push (preOf acc x)).size + i = acc.size + (i + 1) := by simp; omega
        rw [← e]; exact g3

theorem testBit_fold (acc : Array Nat) (b : Nat) (es : List Edge) : ∀ (s : Nat), (es.foldl (fun s e => if Region.binds .any e then s ||| 2 ^ e.on ||| acc.getD e.on 0 else s) s).testBit b = true →
    s.testBit b = true ∨ ∃ e, e ∈ es ∧ Region.binds .any e = true ∧ (b = e.on ∨ (acc.getD e.on 0).testBit b = true) := by
  induction es with
  | nil => intro s h; exact .inl h
  | cons x es ih =>
    intro s h
    simp only [List.foldl_cons] at h
    rcases ih _ h with h | ⟨e, he, hb, hx⟩
    · by_cases hbd : Region.binds .any x = true
      · rw [if_pos hbd] at h
        simp only [Nat.testBit_or, Bool.or_eq_true, Nat.testBit_two_pow] at h
        rcases h with (h | h) | h
        · exact .inl h
        · exact .inr ⟨x, List.mem_cons_self .., hbd, .inl (by simp at h; exact h.symm)⟩
        · exact .inr ⟨x, List.mem_cons_self .., hbd, .inr h⟩
      · rw [if_neg hbd] at h; exact .inl h
    · exact .inr ⟨e, List.mem_cons_of_mem _ he, hb, hx⟩

/-- j must come before i. -/
def pre (ops : Array Oper) (i j : Nat) : Bool := ((Region.before ops).getD i 0).testBit j

/-- A set of operations that holds, with each, all that must come before it. -/
def Closed (ops : Array Oper) (L : Nat → Prop) : Prop := ∀ i j, L i → pre ops i j = true → L j

theorem pre_of_ready {ops : Array Oper} {L : Nat → Prop} (hc : Closed ops L) {i : Nat} {o : Oper} (hi : ops[i]? = some o) (hr : ∀ e, e ∈ o.after → Region.binds .any e = true → L e.on) : ∀ j, pre ops i j = true → L j := by
  intro j hj
  obtain ⟨B, h1, h2, _, h4⟩ := foldl_push_spec ops.toList #[]
  obtain ⟨A, g1, g2, g3⟩ := h4 i o (by simpa using hi)
  have hB : Region.before ops = B := by rw [before_eq, ← Array.foldl_toList]; exact h1
  unfold pre at hj
  simp only [List.size_toArray, List.length_nil, Nat.zero_add] at g1 g3
  rw [hB, Array.getD_eq_getD_getElem?, g3] at hj
  simp only [Option.getD_some, preOf] at hj
  rw [← Array.foldl_toList] at hj
  rcases testBit_fold A j o.after.toList 0 hj with h | ⟨e, he, hb, hx⟩
  · simp at h
  · have hL := hr e (by simpa using he) hb
    rcases hx with rfl | hx
    · exact hL
    · refine hc e.on j hL ?_
      unfold pre
      rw [hB]
      rw [Array.getD_eq_getD_getElem?] at hx ⊢
      by_cases hlt : e.on < A.size
      · rw [← g2 e.on hlt]; exact hx
      · rw [Array.getElem?_eq_none (by omega)] at hx; simp at hx

/-- Where the operations that write begin. -/
def firstE (ops : Array Oper) : Nat := (ops.toList.findIdx fun o => isE o.op)

/-- A store into an object that was made in this region, behind operation i. -/
def privSt (ops : Array Oper) (j i : Nat) (oi oj : Oper) : Bool :=
  match oj.op with
  | .store _ (.tmp d) x => oj.dst.isNone && (match x with | .tmp t => (match oi.dst with | some e => !Nat.beq e t | none => true) | _ => true) &&
    (List.range (firstE ops)).any fun k => Nat.blt i k && pre ops j k && (match ops[k]? with
      | some ok => (match ok.dst with | some e => Nat.beq e d | none => false) && (match ok.op with | .alloc _ => true | _ => false)
      | none => false)
  | _ => false

theorem privSt_spec {ops : Array Oper} {j i : Nat} {oi oj : Oper} (h : privSt ops j i oi oj = true) : ∃ t d x, oj.op = .store t (.tmp d) x ∧ oj.dst = none ∧ (∀ u, x = .tmp u → oi.dst ≠ some u) ∧
    ∃ k ok tt, k < firstE ops ∧ i < k ∧ pre ops j k = true ∧ ops[k]? = some ok ∧ ok.dst = some d ∧ ok.op = .alloc tt := by
  unfold privSt at h
  split at h
  · rename_i t d x hop
    rw [Bool.and_eq_true, Bool.and_eq_true] at h
    obtain ⟨⟨h1, h2⟩, h3⟩ := h
    refine ⟨t, d, x, hop, by simpa using h1, fun u hu hd => ?_, ?_⟩
    · subst hu
      simp [hd] at h2
    · obtain ⟨k, hk, h4⟩ := List.any_eq_true.1 h3
      rw [Bool.and_eq_true, Bool.and_eq_true] at h4
      obtain ⟨⟨h5, h6⟩, h7⟩ := h4
      cases hok : ops[k]? with
      | none => simp [hok] at h7
      | some ok =>
        simp only [hok, Bool.and_eq_true] at h7
        obtain ⟨h8, h9⟩ := h7
        cases hd : ok.dst with
        | none => simp [hd] at h8
        | some e =>
          simp only [hd] at h8
          have e1 := Nat.eq_of_beq_eq_true h8
          subst e1
          cases hop2 : ok.op <;> simp [hop2] at h9
          exact ⟨k, ok, _, List.mem_range.1 hk, by simpa using h5, h6, hok, hd, hop2⟩
  · cases h

def drawOk (ops : Array Oper) : Bool :=
  let n := ops.size
  (List.range n).all fun j => match ops[j]? with
    | some oj => oj.after.toList.all (fun e => !Region.binds .any e || Nat.blt e.on j) &&
        (List.range j).all fun i => match ops[i]? with
          | some oi => pre ops j i || (Nat.blt j (firstE ops) && oi.apart ops oj) || (Nat.blt i (firstE ops) && privSt ops j i oi oj)
          | none => false
    | none => false

theorem drawOk_spec {ops : Array Oper} (h : drawOk ops = true) {j : Nat} {oj : Oper} (hj : ops[j]? = some oj) : (∀ e, e ∈ oj.after → Region.binds .any e = true → e.on < j) ∧
    ∀ i oi, i < j → ops[i]? = some oi → pre ops j i = true ∨ (j < firstE ops ∧ oi.apart ops oj = true) ∨ (i < firstE ops ∧ privSt ops j i oi oj = true) := by
  have hlt : j < ops.size := (Array.getElem?_eq_some_iff.1 hj).1
  have h1 := List.all_eq_true.1 h j (List.mem_range.2 hlt)
  simp only [hj, Bool.and_eq_true] at h1
  refine ⟨fun e he hb => ?_, fun i oi hi hoi => ?_⟩
  · have := List.all_eq_true.1 h1.1 e (by simpa using he)
    simp only [hb, Bool.not_true, Bool.false_or, Nat.blt_eq] at this
    exact this
  · have := List.all_eq_true.1 h1.2 i (List.mem_range.2 hi)
    simp only [hoi, Bool.or_eq_true, Bool.and_eq_true, Nat.blt_eq] at this
    rw [or_assoc] at this
    exact this

/-- What must come before comes before in the text. -/
theorem pre_lt {ops : Array Oper} (hd : drawOk ops = true) : ∀ {x : Nat} {o : Oper}, ops[x]? = some o → ∀ {z : Nat}, pre ops x z = true → z < x := by
  intro x
  induction x using Nat.strongRecOn with
  | _ x ih =>
    intro o ho z hz
    have hxs : x < ops.size := (Array.getElem?_eq_some_iff.1 ho).1
    exact pre_of_ready (L := fun z => z < x) (fun a b ha hab => by
      have hlt : a < x := ha
      have hoa : ops[a]? = some ops[a] := Array.getElem?_eq_getElem (by omega)
      exact Nat.lt_trans (ih a hlt hoa hab) hlt) ho (fun e he hb => (drawOk_spec hd ho).1 e he hb) z hz

end Go.Am
