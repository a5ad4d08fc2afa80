/- Part of the proof: SupL, ItH, EnRound2, Itv, HU4, HU5. -/
import Derived.Test.YtbmdmoknnlhdoaaGreatDoorM5
import Derived.Test.YtbmdmoknnlhdoaaGreatDoorM4
import Derived.Shelf.SlSortCmp.WholeK
import Derived.RangeFuncNested
import Derived.Test.YtbmdmoknnlhdoaaGreatDoorM6
import Derived.Test.YtbmdmoknnlhdoaaGreatDoorProg
namespace Go.Sp
open Go Go.Am Go.Sort Go.Proofs

def arrS (n : Nat) (f : Nat → Sup) : Array Sup := Array.ofFn (n := n) fun i => f i.1
theorem arrS_size (n : Nat) (f : Nat → Sup) : (arrS n f).size = n := by simp [arrS]
theorem arrS_at {n : Nat} {f : Nat → Sup} {i : Nat} (h : i < n) : (arrS n f)[i]! = f i := by simp [arrS, h]
theorem cmpI_neg {a b : Int} : cmpI a b < 0 ↔ a < b := by unfold cmpI; split <;> (try split) <;> omega
theorem cmpI_zero {a b : Int} : cmpI a b = 0 ↔ a = b := by unfold cmpI; split <;> (try split) <;> omega
theorem cmpS_neg {a b : Sup} : cmpS a b < 0 ↔ a.bank < b.bank ∨ (a.bank = b.bank ∧ (a.epoch < b.epoch ∨ (a.epoch = b.epoch ∧ a.denom < b.denom))) := by
  unfold cmpS
  by_cases h1 : cmpI a.bank b.bank ≠ 0
  · rw [if_pos h1, cmpI_neg]; rw [ne_eq, cmpI_zero] at h1; omega
  · rw [if_neg h1]; rw [ne_eq, Classical.not_not, cmpI_zero] at h1
    by_cases h2 : cmpI a.epoch b.epoch ≠ 0
    · rw [if_pos h2, cmpI_neg]; rw [ne_eq, cmpI_zero] at h2; omega
    · rw [if_neg h2, cmpI_neg]; rw [ne_eq, Classical.not_not, cmpI_zero] at h2; omega
theorem swoS : SWO (ltOf cmpS) where
  irrefl x := by unfold ltOf; rw [decide_eq_false_iff_not, cmpS_neg]; omega
  trans x y z h1 h2 := by unfold ltOf at *; rw [decide_eq_true_iff, cmpS_neg] at *; omega
  ntrans x y z h1 h2 := by unfold ltOf at *; rw [decide_eq_false_iff_not, cmpS_neg] at *; omega
def srtA (n : Nat) (f : Nat → Sup) : Array Sup := pdq (ltOf cmpS) (arrS n f) 0 n (Lib.bitLen n) true true
def srtF (n : Nat) (f : Nat → Sup) (i : Nat) : Sup := (srtA n f)[i]!
theorem srt_ok (n : Nat) (f : Nat → Sup) : PermIn 0 n (arrS n f) (srtA n f) ∧ SortedIn (ltOf cmpS) 0 n (srtA n f) := pdq_sorts (ltOf cmpS) swoS (arrS n f) 0 n (Lib.bitLen n) true true (Nat.zero_le _) (by rw [arrS_size]; exact Nat.le_refl _) (Or.inl rfl)
theorem srtA_size (n : Nat) (f : Nat → Sup) : (srtA n f).size = n := (srt_ok n f).1.1.trans (arrS_size n f)

theorem keyB_iff {a b : Sup} : keyB a b = true ↔ cmpS a b = 0 := by
  unfold keyB cmpS
  rw [Bool.and_eq_true, Bool.and_eq_true, decide_eq_true_iff, decide_eq_true_iff, decide_eq_true_iff]
  by_cases h1 : a.bank = b.bank
  · have e1 := cmpI_zero.2 h1
    rw [if_neg (by simp [e1])]
    by_cases h2 : a.epoch = b.epoch
    · have e2 := cmpI_zero.2 h2
      rw [if_neg (by simp [e2]), cmpI_zero]; simp [h1, h2]
    · rw [if_pos (by rw [ne_eq, cmpI_zero]; exact h2), cmpI_zero]; simp [h2]
  · rw [if_pos (by rw [ne_eq, cmpI_zero]; exact h1), cmpI_zero]; simp [h1]
theorem cmpS_symm {a b : Sup} : cmpS a b = 0 ↔ cmpS b a = 0 := by
  rw [← keyB_iff, ← keyB_iff]; unfold keyB; simp only [Bool.and_eq_true, decide_eq_true_iff]; omega
theorem perm_list {n : Nat} {d d' : Array Sup} (hd : d.size = n) (h : PermIn 0 n d d') : ((List.range n).map fun i => d'[i]!).Perm ((List.range n).map fun i => d[i]!) := by
  have h1 := h.2.2
  rw [extract_toList _ _ _ (by rw [h.1, hd]; exact Nat.le_refl _), extract_toList _ _ _ (by rw [hd]; exact Nat.le_refl _), Nat.sub_zero, ← List.range_eq_range'] at h1
  exact h1
theorem pw_range {R : Sup → Sup → Prop} {n : Nat} {f : Nat → Sup} : ((List.range n).map f).Pairwise R ↔ ∀ i j, i < j → j < n → R (f i) (f j) := by
  rw [List.pairwise_iff_getElem]
  constructor
  · intro h i j hij hj
    have := h i j (by simp; omega) (by simpa using hj) hij
    simpa using this
  · intro h i j hi hj hij
    have hj' : j < n := by simpa using hj
    simpa using h i j hij hj'
theorem srt_perm (n : Nat) (f : Nat → Sup) : ((List.range n).map (srtF n f)).Perm ((List.range n).map f) := by
  have h := perm_list (arrS_size n f) (srt_ok n f).1
  have e : ((List.range n).map fun i => (arrS n f)[i]!) = (List.range n).map f := List.map_congr_left fun i hi => arrS_at (List.mem_range.1 hi)
  rw [e] at h
  exact h
theorem srt_lt_of_adj {n : Nat} {g : Nat → Sup} (hs : ∀ i j, i < j → j < n → ltOf cmpS (g j) (g i) = false) (ha : ∀ i, i + 1 < n → cmpS (g i) (g (i + 1)) ≠ 0) : ∀ i j, i < j → j < n → cmpS (g i) (g j) < 0 := by
  have step : ∀ i, i + 1 < n → cmpS (g i) (g (i + 1)) < 0 := fun i hi => by
    have h1 := hs i (i + 1) (Nat.lt_succ_self i) hi
    unfold ltOf at h1
    rw [decide_eq_false_iff_not, cmpS_neg] at h1
    have h2 := ha i hi
    rw [ne_eq, ← keyB_iff] at h2
    unfold keyB at h2
    simp only [Bool.and_eq_true, decide_eq_true_iff] at h2
    rw [cmpS_neg]; omega
  intro i j hij
  induction j with
  | zero => omega
  | succ j ih =>
    intro hj
    rcases Nat.lt_succ_iff_lt_or_eq.1 hij with h | h
    · have h1 := ih h (by omega)
      have h2 := step j hj
      rw [cmpS_neg] at *; omega
    · subst h; exact step i hj
theorem cmpS_ne {a b : Sup} (h : cmpS a b < 0) : cmpS a b ≠ 0 := by omega
theorem srt_dist {n : Nat} {f : Nat → Sup} : (∀ i, i + 1 < n → cmpS (srtF n f i) (srtF n f (i + 1)) ≠ 0) ↔ ∀ i j, i < j → j < n → cmpS (f i) (f j) ≠ 0 := by
  have hs : ∀ i j, i < j → j < n → ltOf cmpS (srtF n f j) (srtF n f i) = false := fun i j hij hj => (srt_ok n f).2 i j (Nat.zero_le _) hij hj
  have hp := (srt_perm n f).pairwise_iff (R := fun a b => cmpS a b ≠ 0) (fun {a b} h => fun e => h (cmpS_symm.1 e))
  exact ⟨fun h => pw_range.1 (hp.1 (pw_range.2 fun i j hij hj => cmpS_ne (srt_lt_of_adj hs h i j hij hj))), fun h i hi => pw_range.1 (hp.2 (pw_range.2 h)) i (i + 1) (Nat.lt_succ_self i) hi⟩
theorem list_srt {n : Nat} {f : Nat → Sup} (hn : n ≤ 1000) (hv : ∀ i, i < n → validS (f i) = true) (h : ∀ i, i + 1 < n → cmpS (srtF n f i) (srtF n f (i + 1)) ≠ 0) : listB n f = true :=
  list_ok (by omega) fun i hi => ⟨hv i hi, fun k hk => by
    cases e : keyB (f i) (f k) with
    | false => rfl
    | true => exact absurd (cmpS_symm.1 (keyB_iff.1 e)) (srt_dist.1 h k i hk hi)⟩
theorem list_srt_no {n : Nat} {f : Nat → Sup} {i : Nat} (hi : i + 1 < n) (h : cmpS (srtF n f i) (srtF n f (i + 1)) = 0) : listB n f = false := by
  cases e : listB n f with
  | false => rfl
  | true =>
    refine absurd h (srt_dist.2 (fun k j hk hj he => ?_) i hi)
    have := (list_spec e).2 j hj |>.2 k hk
    rw [keyB_iff.2 (cmpS_symm.1 he)] at this
    cases this
theorem arrS_congr {n : Nat} {f g : Nat → Sup} (h : ∀ i, i < n → f i = g i) : arrS n f = arrS n g := by
  unfold arrS; congr 1; funext i; exact h i.1 i.2
theorem srtF_congr {n : Nat} {f g : Nat → Sup} (h : ∀ i, i < n → f i = g i) : srtF n f = srtF n g := by
  funext i; unfold srtF srtA; rw [arrS_congr h]
end Go.Sp
namespace Go.Sp
theorem anyI_t {p : Nat → Bool} {n : Nat} (h : anyI p n = true) : ∃ i, i < n ∧ p i = true := by
  unfold anyI at h
  rw [firstI_neg, List.any_eq_true] at h
  obtain ⟨i, hi, hp⟩ := h
  exact ⟨i, List.mem_range.1 hi, by rwa [Nat.zero_add] at hp⟩
theorem list_bad {n : Nat} {f : Nat → Sup} (h : (n : Int) > 1000 ∨ anyI (fun i => !validS (f i)) n = true) : listB n f = false := by
  rcases h with h | h
  · exact list_long h
  · obtain ⟨i, hi, hp⟩ := anyI_t h
    exact list_inv hi (by simpa using hp)
end Go.Sp
namespace Go.Sp
open Go Go.Am
structure Gu where
  first : Spend
  second : Spend
  leaf : Int
def Gu.cells (g : Gu) : List AV := g.first.cells ++ g.second.cells ++ [.int .i64 g.leaf]
def outV (s : Sup) : Int := if validS s = false then 0 else if leftS s < 0 then 0 else leftS s
def outE (s : Sup) : Int := if validS s = false then 1 else if leftS s < 0 then 17 else 0
theorem outV_1 {s : Sup} (h : validS s = false) : outV s = 0 := if_pos h
theorem outE_1 {s : Sup} (h : validS s = false) : outE s = 1 := if_pos h
theorem outV_2 {s : Sup} (h : validS s = true) (k : leftS s < 0) : outV s = 0 := by unfold outV; rw [if_neg (by simp [h]), if_pos k]
theorem outE_2 {s : Sup} (h : validS s = true) (k : leftS s < 0) : outE s = 17 := by unfold outE; rw [if_neg (by simp [h]), if_pos k]
theorem outV_3 {s : Sup} (h : validS s = true) (k : ¬ leftS s < 0) : outV s = leftS s := by unfold outV; rw [if_neg (by simp [h]), if_neg k]
theorem outE_3 {s : Sup} (h : validS s = true) (k : ¬ leftS s < 0) : outE s = 0 := by unfold outE; rw [if_neg (by simp [h]), if_neg k]
def sumN (f : Nat → Sup) : Nat → Int
  | 0 => 0
  | k + 1 => IntKind.wrap .i64 (sumN f k + leftS (f k))
def negB (f : Nat → Sup) (i : Nat) : Bool := decide (leftS (f i) < 0)
def smV (n : Nat) (f : Nat → Sup) : Int := if listB n f = false ∨ anyI (negB f) n = true then 0 else sumN f n
def smE (n : Nat) (f : Nat → Sup) : Int := if listB n f = false then 1 else if anyI (negB f) n = true then 17 else 0
theorem sm_1 {n : Nat} {f : Nat → Sup} (h : listB n f = false) : smV n f = 0 ∧ smE n f = 1 := ⟨if_pos (.inl h), if_pos h⟩
theorem anyI_at {p : Nat → Bool} {n i : Nat} (hi : i < n) (h : p i = true) : anyI p n = true := by
  cases e : anyI p n with
  | true => rfl
  | false => rw [anyI_f e i hi] at h; cases h
theorem anyI_no {p : Nat → Bool} {n : Nat} (h : ∀ i, i < n → p i = false) : anyI p n = false := by
  cases e : anyI p n with
  | false => rfl
  | true => obtain ⟨i, hi, hp⟩ := anyI_t e; rw [h i hi] at hp; cases hp
theorem sm_2 {n : Nat} {f : Nat → Sup} {i : Nat} (h : listB n f = true) (hi : i < n) (k : leftS (f i) < 0) : smV n f = 0 ∧ smE n f = 17 := by
  have e := anyI_at (p := negB f) hi (decide_eq_true k)
  exact ⟨if_pos (.inr e), by unfold smE; rw [if_neg (by simp [h]), if_pos e]⟩
theorem sm_3 {n : Nat} {f : Nat → Sup} (h : listB n f = true) (k : ∀ i, i < n → ¬ leftS (f i) < 0) : smV n f = sumN f n ∧ smE n f = 0 := by
  have e := anyI_no (p := negB f) fun i hi => decide_eq_false (k i hi)
  exact ⟨if_neg (by simp [h, e]), by unfold smE; rw [if_neg (by simp [h]), if_neg (by simp [e])]⟩
end Go.Sp
namespace Go.Sp
theorem list_val {n : Nat} {f : Nat → Sup} (h : listB n f = true) {i : Nat} (hi : i < n) : validS (f i) = true := ((list_spec h).2 i hi).1
theorem outE_ne {s : Sup} (h : validS s = true) (k : ¬ outE s = 0) : leftS s < 0 ∧ outE s = 17 := by
  by_cases c : leftS s < 0
  · exact ⟨c, outE_2 h c⟩
  · exact absurd (outE_3 h c) k
theorem outE_eq {s : Sup} (h : validS s = true) (k : outE s = 0) : ¬ leftS s < 0 ∧ outV s = leftS s := by
  by_cases c : leftS s < 0
  · rw [outE_2 h c] at k; cases k
  · exact ⟨c, outV_3 h c⟩
theorem snoc_all {p : Nat → Prop} {x : Nat} (h : ∀ i, i < x → p i) (k : p x) : ∀ i, i < x + 1 → p i := fun i hi => by
  rcases Nat.lt_succ_iff_lt_or_eq.1 hi with e | e
  · exact h i e
  · rw [e]; exact k
end Go.Sp
namespace Go.Sp
end Go.Sp
namespace Go.Sp
theorem sm_eq {n : Nat} {f : Nat → Sup} (h : smE n f = 0) : listB n f = true ∧ ∀ i, i < n → ¬ leftS (f i) < 0 := by
  cases e : listB n f with
  | false => rw [(sm_1 e).2] at h; cases h
  | true =>
    refine ⟨rfl, fun i hi k => ?_⟩
    rw [(sm_2 e hi k).2] at h; cases h
end Go.Sp
namespace Go.Sp
end Go.Sp
namespace Go.Sp
open Go Go.Am
end Go.Sp
namespace Go.Sp
open Go Go.Am
def supI (s : Sup) : Nat → Int
  | 0 => s.bank | 1 => s.epoch | 2 => s.denom | 3 => s.issued | 4 => s.ret | 5 => s.dbl | _ => s.exp
end Go.Sp

namespace Go.Sp
open Go Go.Am Go.RowKit

theorem kept_calm {β : Book} {w W W1 : World} (h : CalmIn β w W) (k : Kept W.heap.size (fun _ => False) W W1) : CalmIn β w W1 :=
  ⟨Nat.le_trans h.1 k.size, fun b hb hf => (k.block b (Nat.lt_of_lt_of_le hb h.1) (fun h => h)).trans (h.2.1 b hb hf), fun b hb => (k.shape b (Nat.lt_of_lt_of_le hb h.1)).trans (h.2.2 b hb)⟩
theorem kept_grown {W W1 : World} (k : Kept W.heap.size (fun _ => False) W W1) : W.grownBy W1 none := ⟨k.os, k.tape, k.output, k.size, fun b hb _ => k.block b hb (fun h => h)⟩

theorem op_at {ops : Array Oper} {i : Nat} {d : Option Tmp} {op : Op} {g : Option (Nat × Bool)} (h : (ops[i]?).map (fun o => (o.dst, o.op, o.guard)) = some (d, op, g)) : ∃ o, ops[i]? = some o ∧ o.dst = d ∧ o.op = op ∧ o.guard = g := by
  cases ho : ops[i]? with
  | none => rw [ho] at h; cases h
  | some o => rw [ho] at h; simp only [Option.map_some, Option.some.injEq, Prod.mk.injEq] at h; exact ⟨o, rfl, h.1, h.2.1, h.2.2⟩
theorem put_same {a : Act} {d : Nat} {v : Value} (h : d < a.tmps.size) : (a.put (some d) v).tmps.getD d undef = v := getD_put_same h
theorem put_ne {a : Act} {d n : Nat} {v : Value} (h : n ≠ d) : (a.put (some d) v).tmps.getD n undef = a.tmps.getD n undef := getD_put_ne h
theorem put_size {a : Act} {d : Nat} {v : Value} : (a.put (some d) v).tmps.size = a.tmps.size := by simp [Act.put]
theorem ipt1_ent {os : List (Option Ob)} {a : AV} : Ent os (.ipt 1 fun k => atL [a] k) (.ipt 1 fun _ => a) := fun β w v _ h => by
  obtain ⟨b, off, vals, rfl, hm, hb, hc, hr, hcl, ho⟩ := rel_ipt_inv h
  have e : ∀ j, j < 1 → atL [a] j = a := fun j hj => by
    have : j = 0 := by omega
    subst this; rfl
  exact .ipt vals hm hb hc ho (fun j hj => by have := hr j hj; rwa [e j hj] at this) (fun j hj => by have := hcl j hj; rwa [e j hj] at this)
theorem fn1_ent {os : List (Option Ob)} {f : Fn} {a a' : AV} (h1 : Ent os a a') : Ent os (.fn f [] [a]) (.fn f [] [a']) := fun β w v hh h => by
  cases h with
  | fn hl hr hl' hr' =>
    refine .fn hl hr hl' fun j u x hu hx => ?_
    rcases j with _ | j
    · cases hu; exact h1 β w x hh (hr' 0 _ x rfl hx)
    · simp at hu
end Go.Sp

namespace Go.Am
open Go.RowKit

theorem sim_own {K0 : Ctx} {w : World} {s : ASt} {a : Act} (hB : K0.B = w.heap.size) (hw : K0.w0 = w) (hd : a.defers = []) (hnm : NMS s) (hng : NMG K0.gl) : OwnFrom w.heap.size (fun (_ : Unit) W => ∃ β, Sim K0 β s a W) := by
  rintro _ A B row ⟨β, hs⟩ hg hr
  have hne : ∀ b, b < A.heap.size → (∀ o, A.heap[b]? = some o → o.isCells = false → b < w.heap.size) → B.heap[b]? = A.heap[b]? := fun b hb h => hg.block b hb (fun e => by grind)
  have hk := hs.kept
  rw [hB, hw] at hk
  refine ⟨β, hs.same (fun b cs el z hb => ?_) hg.size (.inr ⟨hnm, hng⟩) ?_ rfl (by grind [Marks.nil])⟩
  · exact (hne b (Array.getElem?_eq_some_iff.1 hb).1 (fun o h1 h2 => by rw [hb] at h1; cases h1; cases h2)).trans hb
  · have hsz := hk.size
    have low : ∀ k, k < w.heap.size → B.heap[k]? = A.heap[k]? := fun k hk => hne k (by omega) (fun _ _ _ => hk)
    rw [hB, hw]
    exact ⟨hg.os.trans hk.os, hg.tape.trans hk.tape, hg.output.trans hk.output, Nat.le_trans hsz hg.size, fun k hk' hG => (low k hk').trans (hk.block k hk' hG), fun k hk' => (shape_of_block (low k hk')).trans (hk.shape k hk'),
      fun k o hk' ho => (low k (Array.getElem?_eq_some_iff.1 hk').1).trans (hk.othr k o hk' ho)⟩

theorem opq_rangeB {P : Program} {gl : Globs} {own : FuncId → Option (List Bool)} {ng nt : Nat} {g : Operand} {p d : Nat} {assign body : Code} {gf : Nat} {lb : List AV} {n : Nat} {xs : Fin n → AV} {ns : List Nat} {vs : List AV} {bv : AV}
    {obs : List (Fin n) → List (Option Ob)} {bx : Fin n → Ob} {obs1 : List (Option Ob)} (hev : ev gl (lookZ ns vs) g = .fn (.func gf) [] lb) (hit : Iter P gl gf lb n xs) (hcl : ∀ x, Cl (xs x))
    (hmu : ∀ pre, allMu (obs pre) = true) (hnm : ∀ pre, NMS (mkSt ns vs (obs pre))) (hnmB : ∀ pre x, NMS (mkSt (d :: p :: ns) (bv :: xs x :: vs) (obs pre ++ [some (bx x)]))) (hng0 : NMG gl) (hpins : (keepsC ns body && (keepsC ns assign && (!memN ns p && !memN ns d && Nat.blt p nt && Nat.blt d nt))) = true)
    (hA : ∀ pre x, Round P gl own ng nt assign (mkSt (p :: ns) (xs x :: vs) (obs pre)) (mkSt (d :: p :: ns) (bv :: xs x :: vs) (obs pre ++ [some (bx x)])))
    (hdrop : ∀ pre x, Round P gl own ng nt .skip (mkSt (d :: p :: ns) (bv :: xs x :: vs) (obs pre ++ [some (bx x)])) (mkSt ns vs (obs pre)))
    (hround : ∀ pre x, pre.length < n → Round P gl own ng nt body (mkSt (d :: p :: ns) (bv :: xs x :: vs) (obs pre ++ [some (bx x)])) (mkSt ns vs (obs (pre ++ [x]))))
    (hdet : ∀ pre pre0 (K : Ctx) β β0 a a' W, Sim K β (mkSt ns vs (obs pre)) a W → Sim K β0 (mkSt ns vs (obs pre0)) a' W → (∀ m, m ∈ ns → a'.tmps.getD m undef = a.tmps.getD m undef) → pre0.length = pre.length ∧ ∀ x, obs (pre0 ++ [x]) = obs (pre ++ [x]))
    (h1 : obs (List.finRange n) = obs1) : Opq P gl ng nt (.rangeFunc g #[p] assign body) (mkSt ns vs (obs [])) (mkSt ns vs obs1) := by
  subst h1
  intro K β0 a w hKP hKgl hKnt hng hqt hm hs0
  subst hKP hKgl hKnt
  refine wpIn_wide (n := 9).1 ?_
  simp only [Bool.and_eq_true, Bool.not_eq_true', Nat.blt_eq] at hpins
  obtain ⟨hpb, hpa, ⟨⟨hpn, hdn⟩, hpt⟩, hdt⟩ := hpins
  have hpn' : p ∉ ns := fun h => by grind [memN_iff]
  have hdn' : d ∉ ns := fun h => by grind [memN_iff]
  have hG0 : ∀ id b m mu, β0.m id = some (.lives b m mu) → mu = true := fun id b m mu h => by
    have hid : id < (obs []).length := Nat.lt_of_not_le fun hle => by rw [hs0.fresh id hle] at h; cases h
    obtain ⟨o, ho, hmu'⟩ := allMu_spec (hmu []) hid
    rcases hs0.heap id o ho with ⟨b', h1, _⟩ | ⟨h1, _⟩
    · grind
    grind
  let K0 : Ctx := ⟨K.P, K.gl, w.heap.size, w, K.nt, K.F, fun b => ∃ id m, β0.m id = some (.lives b m true), K.b0, true⟩
  have hlive0 : ∀ b, K0.G b → K.B ≤ b ∨ K.G b := fun b ⟨id, m, h⟩ => (hs0.live id b m true h).1
  have hF0 : ∀ b, K.F b → b < w.heap.size ∧ ¬ K0.G b := fun b hb => ⟨Nat.lt_of_lt_of_le (hs0.hF b hb).1 hs0.hB, fun hG => by
    rcases hlive0 b hG with h | h
    · have := (hs0.hF b hb).1; omega
    · exact (hs0.hF b hb).2 h⟩
  have hS0 : Sim K0 β0 (mkSt ns vs (obs [])) { a with defers := [] } w :=
    ⟨hs0.slot, hs0.size, Marks.nil _ _, hs0.heap, hs0.inj, hs0.fresh, fun id b m mu h => ⟨.inr ⟨id, m, by grind⟩, (hs0.live id b m mu h).2⟩, hs0.giv, hs0.bF, hF0, Kept.refl _ _ _, Nat.le_refl _, hs0.glob⟩
  have hfr : Rel β0 w (.fn (.func gf) [] lb) (a.eval g) := by
    have := rel_ev (hs0.toR #[]) (x := g) (fun t _ => rfl)
    grind [ev,ASt.toR,mkSt]
  obtain ⟨vf, vb, hav, hvf, hlb⟩ : ∃ vf vb, a.eval g = .func (.func gf) vf vb ∧ vf.size = 0 ∧ Rels β0 w lb vb := by
    generalize a.eval g = u at hfr
    cases hfr with
    | fn h1 h2 h3 h4 => exact ⟨_, _, rfl, by grind, h3, h4⟩
  have hvf' : vf = #[] := Array.eq_empty_of_size_eq_zero hvf
  subst hvf'
  obtain ⟨⟨fn, code, hfn, hfb, hname⟩, hitr⟩ := hit
  obtain ⟨ys, hyr, hseq⟩ := hitr β0 w vb (fun b hb => by rw [hs0.bF] at hb; grind) (fun id b k mu h => (hs0.live id b k mu h).2) hs0.glob hlb
  have calm : ∀ {β : Book} {s : ASt} {a' : Act} {W : World}, Sim K0 β s a' W → CalmIn β0 w W := fun hs => ⟨hs.kept.size, fun b hb hf => hs.kept.block b hb (fun ⟨id, m, h⟩ => hf.2 id m h), hs.kept.shape⟩
  have hfree : ∀ {β : Book} {s : ASt} {a' : Act} {W : World}, (∀ id b m mu, β.m id = some (.lives b m mu) → mu = true) → Sim K0 β s a' W → ∀ b, b < w.heap.size → β0.free b → β.free b := fun hmt hs b hb hf =>
    ⟨by rw [hs.bF]; have := hf.1; rw [hs0.bF] at this; omega, fun id m h => by
      rcases (hs.live id b m true h).1 with h' | ⟨id', m', h'⟩
      · grind
      · exact hf.2 id' m' h'⟩
  have item : ∀ {β : Book} {s : ASt} {a' : Act} {W : World} (x : Fin n), Sim K0 β s a' W → (∀ b, b < w.heap.size → β0.free b → β.free b) → Rel β W (xs x) (ys x) := fun {β s a' W} x hs hf => by
    let B1 : Book := ⟨fun _ => none, fun b => ¬ β0.free b⟩
    let B2 : Book := ⟨fun _ => none, fun b => ¬ β.free b⟩
    have f1 : ∀ b, β0.free b → B1.free b := fun b h => ⟨fun h' => h' h, fun id m h => by cases h⟩
    have f2 : ∀ b, B2.free b → β.free b := fun b h => Classical.byContradiction fun h' => h.1 h'
    have hk : Keeps B1 w B2 W := by
      refine ⟨fun id o h => (by cases h), fun b hb hfb => (calm hs).2.1 b hb (Classical.byContradiction fun h => hfb.1 h), fun b hb hfb => ⟨fun h => h (hf b hb (Classical.byContradiction fun h => hfb.1 h)), fun id m h => by cases h⟩, fun b el sz h => ?_⟩
      have := hs.kept.shape b (lt_of_shape h)
      grind
    exact ((((hyr x).rebook f1 (hcl x)).keep hk).rebook f2 (hcl x))
  let I : List (Fin n) → World → Prop := fun pre W => ∃ β, Sim K0 β (mkSt ns vs (obs pre)) { a with defers := [] } W
  have hmt : ∀ {pre : List (Fin n)} {β : Book} {a' : Act} {W : World}, Sim K0 β (mkSt ns vs (obs pre)) a' W → ∀ id b m mu, β.m id = some (.lives b m mu) → mu = true := fun {pre β a' W} hs id b m mu h => by
    have hid : id < (obs pre).length := Nat.lt_of_not_le fun hle => by rw [hs.fresh id hle] at h; cases h
    obtain ⟨o, ho, hmu'⟩ := allMu_spec (hmu pre) hid
    rcases hs.heap id o ho with ⟨b', h1, _⟩ | ⟨h1, _⟩
    · grind
    grind
  have hI : OwnFrom w.heap.size I := fun pre A B row h hg hr => sim_own (K0 := K0) rfl rfl rfl (hnm pre) hng0 () A B row h hg hr
  let Ax : Fin n → Act → World → Prop := fun x a' W => a'.defers = [] ∧ PinIn ns a a' ∧ ∃ pre0 β, Sim K0 β (mkSt (d :: p :: ns) (bv :: xs x :: vs) (obs pre0 ++ [some (bx x)])) a' W
  have hAx : ∀ x a', OwnFrom w.heap.size (fun (_ : Unit) W => Ax x a' W) := fun x a' _ A B row h hg hr => by
    obtain ⟨h1, h2, pre0, β, h3⟩ := h
    obtain ⟨β', h4⟩ := sim_own (K0 := K0) rfl rfl h1 (hnmB pre0 x) hng0 () A B row ⟨β, h3⟩ hg hr
    grind
  have hsize : a.tmps.size = K.nt := hs0.size
  have back : ∀ {W W' : World} {β2 : Book} {ns' : List Nat} {vs' : List AV} {o' : List (Option Ob)} {a' : Act} {β : Book} {s : ASt} {a0 : Act}, Sim K0 β s a0 W → Sim ⟨K.P, K.gl, W.heap.size, W, K.nt, K.F, fun b => w.heap.size ≤ b ∨ K0.G b, K.b0, true⟩ β2 (mkSt ns' vs' o') a' W' → a'.defers = [] → Sim K0 β2 (mkSt ns' vs' o') a' W' := fun {W W' β2 ns' vs' o' a' β s a0} hs hs2 hd => by
    have hwW : w.heap.size ≤ W.heap.size := hs.kept.size
    have hWW : W.heap.size ≤ W'.heap.size := hs2.kept.size
    refine ⟨hs2.slot, hs2.size, by grind [Marks.nil], hs2.heap, hs2.inj, hs2.fresh, fun id b m mu h => ⟨?_, (hs2.live id b m mu h).2⟩, hs2.giv, hs2.bF, hF0, hs.kept.trans (hs2.kept.mono hwW (fun k hk hG => ?_)), Nat.le_trans hwW hWW, hs2.glob⟩
    · rcases (hs2.live id b m mu h).1 with h' | h'
      · grind
      omega
    grind
  have outer : ∀ {W : World} {β : Book} {o' : List (Option Ob)} {a' : Act}, Sim K0 β (mkSt ns vs o') a' W → PinIn ns a a' → Sim K0 β (mkSt ns vs o') { a with defers := [] } W := fun {W β o' a'} hs hp => by
    refine ⟨fun m => ?_, hsize, Marks.nil _ _, hs.heap, hs.inj, hs.fresh, hs.live, hs.giv, hs.bF, hs.hF, hs.kept, hs.hB, hs.glob⟩
    by_cases hm' : m ∈ ns
    · have := hs.slot m
      rw [hp m hm'] at this
      omega
    · have e : (mkSt ns vs o').fr m = .junk := lookZ_none hm'
      rw [e]; exact .junk
  refine wpIn_rangeFunc_ownH (F := Fence.wide) rfl (by decide) (gf := gf) (lb := vb) hav trivial (fun args w => ?_) hseq (fun h k h0 => k (h h0)) (fun W l o o' hl ho hc hw h => ?_) (Below.refl _ _) (fun _ => rfl) I (fun _ _ _ => False) hI (fun _ _ _ _ _ h _ _ => h) ⟨β0, hS0⟩ Ax hAx
    (fun l pre x W Kc hi hK => ?_) (fun l pre x a' W _ _ hi hax hlen => ?_) (fun D pre W hD hpre hi hW => ?_) (fun D c pre W hD _ h => h.elim)
  · simp only [callFunc, run_program, Sem.run_bind, Result.andThen_ok, hfn, hfb, hname, Bool.false_eq_true, if_false]
    rfl
  · refine ⟨Nat.le_trans h.1 (by simp), fun b hb hf => ?_, fun b hb => ?_⟩
    · exact (World.putObj_heap_other (by omega)).trans (h.2.1 b hb hf)
    · exact (shape_of_block (World.putObj_heap_other (by omega))).trans (h.2.2 b hb)
  · -- the variable is boxed
    obtain ⟨β, hs⟩ := hi
    have hit' := item x hs (hfree (hmt hs) hs)
    have e0 : (#[p].zip #[ys x]).foldl (fun t (q : Tmp × Value) => t.setIfInBounds q.1 q.2) a.tmps = a.tmps.setIfInBounds p (ys x) := by simp
    show assign.wpIn _ _ _ _ { tmps := (#[p].zip #[ys x]).foldl (fun t (q : Tmp × Value) => t.setIfInBounds q.1 q.2) a.tmps, defers := [] } W
    rw [e0]
    have hpv : (a.tmps.setIfInBounds p (ys x)).getD p undef = ys x := by simp [Array.getD_eq_getD_getElem?, hsize, hpt]
    have hpo : ∀ m, m ≠ p → (a.tmps.setIfInBounds p (ys x)).getD m undef = a.tmps.getD m undef := fun m h => by simp [Array.getD_eq_getD_getElem?, Array.getElem?_setIfInBounds_ne (Ne.symm h)]
    have hz : (a.tmps.setIfInBounds p (ys x)).size = K.nt := by grind
    generalize a.tmps.setIfInBounds p (ys x) = T at hpv hpo hz
    let K1 : Ctx := ⟨K.P, K.gl, W.heap.size, W, K.nt, K.F, fun b => w.heap.size ≤ b ∨ K0.G b, K.b0, true⟩
    have hs1' : Sim K1 β (mkSt (p :: ns) (xs x :: vs) (obs pre)) { tmps := T, defers := [] } W := by
      have hslot : ∀ m, Rel β W ((mkSt (p :: ns) (xs x :: vs) (obs pre)).fr m) (T.getD m undef) := fun m => by
        show Rel β W (lookZ (p :: ns) (xs x :: vs) m) _
        by_cases hmp : p = m
        · subst hmp
          simp only [lookZ, Nat.beq_refl, cond_true]
          grind
        · have hb : Nat.beq p m = false := by grind [Nat.beq,absurd,Nat.eq_of_beq_eq_true]
          simp only [lookZ, hb, cond_false]
          rw [hpo m (Ne.symm hmp)]
          exact hs.slot m
      exact ⟨hslot, hz, Marks.nil _ _, hs.heap, hs.inj, hs.fresh, fun id b m mu h => ⟨.inr (hs.live id b m mu h).1, (hs.live id b m mu h).2⟩, hs.giv, hs.bF,
        fun b hb => ⟨Nat.lt_of_lt_of_le (hF0 b hb).1 hs.kept.size, fun h => h.elim (fun h => by grind) (hF0 b hb).2⟩, Kept.refl _ _ _, Nat.le_refl _, hs.glob⟩
    refine wpIn_mono (Round.in (F := Fence.wide.inRound l) (K := K1) (pins := ns) (hA pre x) (.inr ⟨l, rfl⟩) hpa hng hm hs1') ?_
    rintro e a2 W2 ⟨rfl, ⟨β2, hs2⟩, hp2⟩
    have hd2 : a2.defers = [] := hs2.defers.quiet rfl
    have hs3 := back hs hs2 hd2
    have hp3 : PinIn ns a a2 := fun m hm' => (hp2 m hm').trans (hpo m (fun e => hpn' (e ▸ hm')))
    have hle : Le ng _ _ := hdrop pre x
    obtain ⟨β4, hs4⟩ := hle K0 β2 a2 W2 hng hs3
    exact hK a2 W2 ⟨hs2.kept.size, fun k o _ hk ho => hs2.kept.othr k o hk ho⟩ (fun _ => calm hs3) ⟨β4, outer hs4 hp3⟩ ⟨hd2, hp3, pre, β2, hs3⟩
  · obtain ⟨β1, hs1⟩ := hi
    obtain ⟨hd', hp', pre0, β, hs⟩ := hax
    let K1 : Ctx := ⟨K.P, K.gl, W.heap.size, W, K.nt, K.F, fun b => w.heap.size ≤ b ∨ K0.G b, K.b0, true⟩
    have hs1' : Sim K1 β (mkSt (d :: p :: ns) (bv :: xs x :: vs) (obs pre0 ++ [some (bx x)])) a' W :=
      ⟨hs.slot, hs.size, by grind [Marks.nil], hs.heap, hs.inj, hs.fresh, fun id b m mu h => ⟨.inr (hs.live id b m mu h).1, (hs.live id b m mu h).2⟩, hs.giv, hs.bF,
        fun b hb => ⟨Nat.lt_of_lt_of_le (hF0 b hb).1 hs.kept.size, fun h => h.elim (fun h => by grind) (hF0 b hb).2⟩, Kept.refl _ _ _, Nat.le_refl _, hs.glob⟩
    have hle : Le ng _ _ := hdrop pre0 x
    obtain ⟨β4, hs4⟩ := hle K0 β a' W hng hs
    obtain ⟨hll, he⟩ := hdet pre pre0 K0 β1 β4 _ _ W hs1 hs4 (fun m hm' => hp' m hm')
    have he := he x
    refine wpIn_mono (Round.in (F := Fence.wide.inRound l) (K := K1) (pins := ns) (hround pre0 x (hll ▸ hlen)) (.inr ⟨l, rfl⟩) hpb hng hm hs1') ?_
    rintro e a2 W2 ⟨rfl, ⟨β2, hs2⟩, hp2⟩
    have hs3 := back hs hs2 (hs2.defers.quiet rfl)
    rw [he] at hs3
    exact ⟨⟨hs2.kept.size, fun k o _ hk ho => hs2.kept.othr k o hk ho⟩, fun _ => calm hs3, β2, outer hs3 (fun m hm' => (hp2 m hm').trans (hp' m hm'))⟩
  · obtain ⟨β, hs⟩ := hi
    have hpre' : pre = List.finRange n := hpre
    subst hpre'
    refine ⟨rfl, β, hs.slot, hsize, ?_, hs.heap, hs.inj, hs.fresh, fun id b m mu h => ⟨?_, (hs.live id b m mu h).2⟩, hs.giv, hs.bF, hs0.hF, hs0.kept.trans (hs.kept.mono hs0.hB (fun k hk hG => ?_)), Nat.le_trans hs0.hB hs.kept.size, hs.glob⟩
    · obtain ⟨Ds, e1, e2, _, e3⟩ := hs0.defers
      refine ⟨D :: Ds, by grind, List.nodup_cons.2 ⟨fun h => ?_, e2⟩, fun h => (by grind), fun D' h => ?_⟩
      · grind
      · rcases List.mem_cons.1 h with rfl | h
        · exact ⟨Nat.le_trans hs0.hB hD, Nat.le_trans hs0.kept.size hD, hW⟩
        · exact ⟨(e3 D' h).1, (e3 D' h).2.1, hs.kept.othr D' _ (e3 D' h).2.2 rfl⟩
    · rcases (hs.live id b m mu h).1 with h' | h'
      · exact .inl (Nat.le_trans hs0.hB h')
      grind
    grind
end Go.Am

namespace Go.Sp
open Go Go.Am Go.RowKit

structure VlFr (y v1 u : Value) (n k : Nat) (a : Act) : Prop where
  size : a.tmps.size = 16
  defers : a.defers = []
  t0 : a.tmps.getD 0 undef = y
  t1 : a.tmps.getD 1 undef = v1
  t5 : a.tmps.getD 5 undef = u
  t6 : a.tmps.getD 6 undef = .int .i64 n
  t7 : a.tmps.getD 7 undef = .int .i64 k

def rowI (V : Nat → Int) : List AV := [.int .i64 (V 0), .int .i64 (V 1), .int .i64 (V 2), .int .i64 (V 3), .int .i64 (V 4), .int .i64 (V 5), .int .i64 (V 6)]
def rowV (V : Nat → Int) : Value := .agg #[.int .i64 (V 0), .int .i64 (V 1), .int .i64 (V 2), .int .i64 (V 3), .int .i64 (V 4), .int .i64 (V 5), .int .i64 (V 6)]
theorem raw_inv {β : Book} {w : World} {v a : Value} (h : Rel β w (.raw a) v) : v = a := by cases h; rfl
theorem rowI_inv {β : Book} {w : World} {v : Value} {V : Nat → Int} (h : Rel β w (.agg (rowI V)) v) : v = rowV V := by
  obtain ⟨vs, rfl, hr⟩ := rel_agg_inv h
  have hl : 7 = vs.size := hr.len
  obtain ⟨vs⟩ := vs
  match vs, hl with
  | [a, b, c, d, e, f, g], _ =>
    obtain rfl := rel_int_inv (hr.rel 0 (.int .i64 (V 0)) a rfl rfl)
    obtain rfl := rel_int_inv (hr.rel 1 (.int .i64 (V 1)) b rfl rfl)
    obtain rfl := rel_int_inv (hr.rel 2 (.int .i64 (V 2)) c rfl rfl)
    obtain rfl := rel_int_inv (hr.rel 3 (.int .i64 (V 3)) d rfl rfl)
    obtain rfl := rel_int_inv (hr.rel 4 (.int .i64 (V 4)) e rfl rfl)
    obtain rfl := rel_int_inv (hr.rel 5 (.int .i64 (V 5)) f rfl rfl)
    obtain rfl := rel_int_inv (hr.rel 6 (.int .i64 (V 6)) g rfl rfl)
    rfl
theorem rowI_rel {β : Book} {w : World} (V : Nat → Int) : Rel β w (.agg (rowI V)) (rowV V) := .agg rfl fun j a v ha hv => by
  have hj : j < 7 := (List.getElem?_eq_some_iff.1 ha).1
  have : j = 0 ∨ j = 1 ∨ j = 2 ∨ j = 3 ∨ j = 4 ∨ j = 5 ∨ j = 6 := by omega
  rcases this with rfl | rfl | rfl | rfl | rfl | rfl | rfl <;> (cases ha; cases hv; exact .int)

set_option maxHeartbeats 1000000 in
theorem values_of {P : Program} {gl : Globs} {own : FuncId → Option (List Bool)} {g : Nat} {fn : Func} {c R1 R2 R4 : Code} {r0 r3 : Array Oper} {j0 j3 n tS tE : Nat} {V : Nat → Nat → Int} (hf : P.funcs[g]? = some fn) (hbody : fn.body = some c) (hname : (fn.name == "runtime.NumGoroutine") = false) (hrs : fn.results = #[]) (hnt : fn.ntmps = 16)
    (hm : P.follows .mixedOrders = true) (hshape : c = .seq (.region j0 r0 false) (.block 0 (.loop (.seq R1 (.seq (.cond (.tmp 8) .skip (.exit 0)) (.seq (.block 1 (.seq R2 (.seq (.region j3 r3 false) (.cond (.tmp 14) .ret .skip)))) R4))))))
    (hz0 : r0.size = 3) (hz3 : r3.size = 4) (hg0 : (r0.toList.all fun o => o.guard.isNone) = true) (hg3 : (r3.toList.all fun o => o.guard.isNone) = true) (huS : P.underlying tS = some (.slice tE))
    (h01 : (r0[1]?).map (fun o => (o.dst, o.op, o.guard)) = some (some 6, .call ⟨.builtin .len, #[.tmp 5], #[tS]⟩, none))
    (h02 : (r0[2]?).map (fun o => (o.dst, o.op, o.guard)) = some (some 7, .move (.const (.int .i64 0)), none))
    (h32 : (r3[2]?).map (fun o => (o.dst, o.op, o.guard)) = some (some 13, .call ⟨.value (.tmp 11), #[.tmp 12], #[tE]⟩, none))
    (h33 : (r3[3]?).map (fun o => (o.dst, o.op, o.guard)) = some (some 14, .unOp .not 4 (.tmp 13), none))
    (k0 : keepsOps [0, 1] (r0.extract 0 1) = true) (k1 : keepsC [0, 1, 5, 6, 7] R1 = true) (k2 : keepsC [0, 1, 5, 6, 7] R2 = true) (k3 : keepsOps [0, 1, 5, 6, 7] (r3.extract 0 2) = true) (k4 : keepsC [0, 1, 5, 6] R4 = true)
    (i0 : ∀ u : Value, Round P gl own 0 16 (.region j0 (r0.extract 0 1) false) (mkSt [1] [.ipt 1 fun _ => .raw u] []) (mkSt [5] [.raw u] []))
    (i1 : ∀ k : Nat, k ≤ n → Round P gl own 0 16 R1 (mkSt [6, 7] [.int .i64 n, .int .i64 k] []) (mkSt [8] [.bool (decide ((k : Int) < n))] []))
    (i2 : ∀ k : Nat, k < n → Round P gl own 0 16 R2 (mkSt [5, 7] [.isl 7 n fun i j => atL (rowI (V i)) j, .int .i64 k] []) (mkSt [4] [.own 0 7 0 0 7] [some ⟨7, 1, true, .lst [rowI (V k)]⟩]))
    (i3 : ∀ (y : Value) (V : Nat → Int), Round P gl own 0 16 (.region j3 (r3.extract 0 2) false) (mkSt [0, 4] [.raw y, .own 0 7 0 0 7] [some ⟨7, 1, true, .lst [rowI V]⟩]) (mkSt [11, 12] [.raw y, .agg (rowI V)] []))
    (i4 : ∀ k : Nat, k < n → Round P gl own 0 16 R4 (mkSt [7] [.int .i64 k] []) (mkSt [7] [.int .i64 (k + 1 : Nat)] [])) :
    Iter P gl g [.ipt 1 fun _ => .isl 7 n fun i j => atL (rowI (V i)) j] n (fun k => .agg (rowI (V k.1))) := by
  refine ⟨⟨_, _, hf, hbody, hname⟩, fun β w vs hF hlt hg hv => ?_⟩
  obtain ⟨v1, rfl, h1⟩ : ∃ v1, vs = #[v1] ∧ Rel β w (.ipt 1 fun _ => .isl 7 n fun i j => atL (rowI (V i)) j) v1 := by
    have hl : 1 = vs.size := hv.len
    obtain ⟨vs⟩ := vs
    match vs, hl with
    | [v1], _ => exact ⟨v1, rfl, hv.rel 0 _ _ rfl rfl⟩
  obtain ⟨b1, o1, vals1, hv1, _, hf1, hc1, hr1, hcl1, hone1⟩ := rel_ipt_inv h1
  have hu := hr1 0 (by decide)
  generalize hu0 : vals1 0 = u at hu
  obtain ⟨a0, cap, hue, hcap, _, hrest⟩ := rel_isl_inv hu
  have hV2 := hu
  have hcl2 : Cl (.isl 7 n fun i j => atL (rowI (V i)) j) := hcl1 0 (by decide)
  refine ⟨fun k => rowV (V k.1), fun k => rowI_rel _, ?_⟩
  intro l J Jx W hbW hJ hJx hY hJ0
  have hcW : CalmIn β w W := ⟨hbW.size, fun b hb _ => hbW.block b hb, fun b hb => shape_of_block (hbW.block b hb)⟩
  refine callsIn_of_wp hf hbody trivial ?_
  have hJk : ∀ pre A B, J pre A → Kept A.heap.size (fun _ => False) A B → J pre B := fun pre A B hj k => hJ pre A B none hj (kept_grown k) (fun r h => by cases h)
  have hclu : Cl (.ipt 1 fun _ => .raw u) := .ipt fun _ _ => .raw
  have huv : ∀ cs, u ≠ .agg cs := fun cs e => by rw [hue] at e; cases e
  have hur : Rel β w (.ipt 1 fun _ => .raw u) v1 := by
    rw [hv1]
    refine .ipt vals1 (by decide) hf1 hc1 hone1 (fun j hj => ?_) (fun _ _ => .raw)
    have : j = 0 := by omega
    subst this
    rw [hu0]; exact .raw huv
  generalize hy : (Value.func (.yield l) #[] #[]) = y
  have hyv : ∀ cs, y ≠ .agg cs := fun cs e => by rw [← hy] at e; cases e
  have pin : ∀ {k : Nat} {a a' : Act} {s : ASt} {β' : Book} {W W' : World}, VlFr y v1 u n k a → PinIn [0, 1, 5, 6, 7] a a' → Sim (calmK P gl 16 β w W) β' s a' W' → VlFr y v1 u n k a' := fun {k a a' s β' W W'} f hp hs =>
    ⟨hs.size, hs.defers.quiet rfl, (hp 0 (by simp)).trans f.t0, (hp 1 (by simp)).trans f.t1, (hp 5 (by simp)).trans f.t5, (hp 6 (by simp)).trans f.t6, (hp 7 (by simp)).trans f.t7⟩
  have hres : ∀ (a : Act) (W' : World), (results fn a.tmps).run P W' = .ok (.tuple #[]) W' := fun a W' => by
    rw [results_eq, hrs]
    simp
  have fin : ∀ k : Nat, (hk : k < n) → (List.finRange n).take k ++ [⟨k, hk⟩] = (List.finRange n).take (k + 1) := fun k hk => by
    rw [List.take_add_one]
    simp [hk]
  have wnt : ∀ (o : Oper) ys, o.guard = none → Region.wanted o ys = true := fun o ys hg => by simp [Region.wanted, hg]
  have hgn : ∀ {r : Array Oper}, (r.toList.all fun o => o.guard.isNone) = true → ∀ (i : Nat) (o : Oper), r[i]? = some o → o.guard = none := fun {r} hr i o ho => by
    have hmem : o ∈ r.toList := by
      obtain ⟨h1, h2⟩ := Array.getElem?_eq_some_iff.1 ho
      rw [← h2]; simp
    have := List.all_eq_true.1 hr o hmem
    cases hg' : o.guard with
    | none => rfl
    | some x => rw [hg'] at this; cases this
  obtain ⟨q1, hq1, hd1, hop1, hgd1⟩ := op_at h01
  obtain ⟨q2, hq2, hd2, hop2, hgd2⟩ := op_at h02
  obtain ⟨p2, hp2, hdp2, hopp2, hgp2⟩ := op_at h32
  obtain ⟨p3, hp3, hdp3, hopp3, hgp3⟩ := op_at h33
  subst hshape
  refine wpIn_seq (wpIn_region ?_)
  have hr0 : List.range r0.size = List.range 1 ++ [1, 2] := by rw [hz0]; rfl
  rw [hr0]
  generalize hA0 : ({ tmps := #[y] ++ #[v1] ++ Array.replicate (fn.ntmps - (#[y] ++ #[v1]).size) undef, defers := [] } : Act) = A0
  have A00 : A0.tmps.getD 0 undef = y := by rw [← hA0]; simp [Array.getD_eq_getD_getElem?, Array.getElem?_append]
  have A01 : A0.tmps.getD 1 undef = v1 := by rw [← hA0]; simp [Array.getD_eq_getD_getElem?, Array.getElem?_append]
  have A0s : A0.tmps.size = 16 := by rw [← hA0]; simp [hnt]
  have A0d : A0.defers = [] := by rw [← hA0]
  have hpre0 : wpOpsIn Fence.wide 8 P (r0.extract 0 1) (fun e a' W' => e = .normal ∧ (∃ β', Sim (calmK P gl 16 β w W) β' (mkSt [5] [.raw u] []) a' W') ∧ PinIn [0, 1] A0 a') (List.range 1) A0 W := by
    have := Round.ops (F := Fence.wide) (n := 8) (K := calmK P gl 16 β w W) (pins := [0, 1]) (i0 u) (.inl rfl) k0 (fun _ _ => rfl) (Sim.calm (ns := [1]) (a := A0) hg hcW A0s A0d (fun k' m v hm' hv => by
      rcases k' with _ | k'
      · cases hm'; cases hv
        rw [A01]; exact hur.calm hclu hcW
      · simp at hm'))
    rw [show (r0.extract 0 1).size = 1 by simp [hz0]] at this
    exact this
  refine opsIn_pre (ops' := r0.extract 0 1) (m := 1) (fun i hi => by rw [Array.getElem?_extract]; simp [hz0]; omega) (fun i o _ ho => hgn hg0 i o ho) ?_ (List.range 1) (fun i hi => List.mem_range.1 hi) A0 W hpre0
  rintro a1 W1 ⟨⟨β1, hs1⟩, hp1⟩
  have c1 := kept_calm hcW hs1.kept
  have j1 := hJk _ _ _ hJ0 hs1.kept
  have t5 : a1.tmps.getD 5 undef = u := raw_inv (hs1.slot 5)
  have t0 : a1.tmps.getD 0 undef = y := (hp1 0 (by simp)).trans A00
  have t1 : a1.tmps.getD 1 undef = v1 := (hp1 1 (by simp)).trans A01
  have sz1 : a1.tmps.size = 16 := hs1.size
  have d1 : a1.defers = [] := hs1.defers.quiet rfl
  have e1 : (execOp a1.eval q1).run P W1 = .ok (.value (.int .i64 n)) W1 := by
    have v5 : a1.eval (.tmp 5) = .slice a0 n cap := t5.trans hue
    simp [execOp, hop1, resolve, v5, invoke, builtin, Builtin.len_, run_underlying huS, goInt]
  have e2 : ∀ (A : Act) (W' : World), (execOp A.eval q2).run P W' = .ok (.value (.int .i64 0)) W' := fun A W' => by
    simp only [execOp, hop2, Sem.run_pure]
    rfl
  simp only [wpOpsIn, hq1, hq2, wnt q1 _ hgd1, wnt q2 _ hgd2, if_true]
  refine ⟨fun _ _ => trivial, ?_⟩
  show q1.uponIn _ _ _ _ _ _ ((execOp a1.eval q1).run P W1)
  rw [e1, Oper.uponIn_value, hd1]
  refine ⟨fun _ _ => trivial, ?_⟩
  show q2.uponIn _ _ _ _ _ _ ((execOp _ q2).run P W1)
  rw [e2, Oper.uponIn_value, hd2]
  have f1 : VlFr y v1 u n 0 ((a1.put (some 6) (.int .i64 n)).put (some 7) (.int .i64 0)) :=
    ⟨by rw [put_size, put_size]; exact sz1, d1, by rw [put_ne (by decide), put_ne (by decide)]; exact t0, by rw [put_ne (by decide), put_ne (by decide)]; exact t1, by rw [put_ne (by decide), put_ne (by decide)]; exact t5,
      by rw [put_ne (by decide), put_same (by rw [sz1]; decide)], by rw [put_same (by rw [put_size, sz1]; decide)]; rfl⟩
  generalize (a1.put (some 6) (.int .i64 n)).put (some 7) (.int .i64 0) = A1 at f1
  show (Code.block 0 _).wpIn _ _ _ _ A1 W1
  refine wpIn_block (wpIn_loop (fun a W => ∃ k, k ≤ n ∧ VlFr y v1 u n k a ∧ CalmIn β w W ∧ J ((List.finRange n).take k) W) (fun a _ => match a.tmps.getD 7 undef with | .int _ i => (n - i).toNat | _ => 0) ⟨0, Nat.zero_le _, f1, c1, j1⟩ ?_)
  rintro a2 W2 ⟨k, hk, f2, c2, j2⟩
  refine wpIn_seq (wpIn_mono (Round.in (pins := [0, 1, 5, 6, 7]) (K := calmK P gl 16 β w W2) (i1 k hk) (.inl rfl) k1 (fun _ _ => rfl) hm (Sim.calm (ns := [6, 7]) hg c2 f2.size f2.defers (fun k' m v hm' hv => by
    rcases k' with _ | _ | k'
    · cases hm'; cases hv; rw [f2.t6]; exact .int
    · cases hm'; cases hv; rw [f2.t7]; exact .int
    · simp at hm'))) ?_)
  rintro e a3 W3 ⟨rfl, ⟨β3, hs3⟩, hp3'⟩
  have f3 := pin f2 hp3' hs3
  have c3 := kept_calm c2 hs3.kept
  have j3 := hJk _ _ _ j2 hs3.kept
  have t8 : a3.eval (.tmp 8) = .bool (decide ((k : Int) < n)) := rel_bool_inv (hs3.slot 8)
  by_cases hkN : k < n
  rotate_left
  · -- the end
    refine wpIn_seq (wpIn_cond_false (by rw [t8]; congr 1; simp; omega) (wpIn_exit ?_))
    obtain rfl : k = n := by omega
    refine ⟨f3.defers, _, hres a3 W3, ⟨_, rfl⟩, .inl ⟨_, ?_, j3⟩⟩
    exact List.take_of_length_le (by simp)
  refine wpIn_seq (wpIn_cond_true (by rw [t8]; congr 1; simp; omega) (wpIn_skip ?_))
  refine wpIn_seq (wpIn_block (wpIn_seq (wpIn_mono (Round.in (pins := [0, 1, 5, 6, 7]) (K := calmK P gl 16 β w W3) (i2 k hkN) (.inl rfl) k2 (fun _ _ => rfl) hm (Sim.calm (ns := [5, 7]) hg c3 f3.size f3.defers (fun k' m v hm' hv => by
    rcases k' with _ | _ | k'
    · cases hm'; cases hv; rw [f3.t5]; exact hV2.calm hcl2 c3
    · cases hm'; cases hv; rw [f3.t7]; exact .int
    · simp at hm'))) ?_)))
  rintro e a4 W4 ⟨rfl, ⟨β4, hs4⟩, hp4⟩
  have f4 := pin f3 hp4 hs4
  refine wpIn_seq (wpIn_region ?_)
  have hr3 : List.range r3.size = List.range 2 ++ [2, 3] := by rw [hz3]; rfl
  rw [hr3]
  have hs4' : Sim (calmK P gl 16 β w W3) β4 (mkSt [0, 4] [.raw y, .own 0 7 0 0 7] [some ⟨7, 1, true, .lst [rowI (V k)]⟩]) a4 W4 :=
    ⟨fun m => by
      show Rel β4 W4 (lookZ [0, 4] [AV.raw y, AV.own 0 7 0 0 7] m) _
      by_cases h0 : 0 = m
      · subst h0
        rw [f4.t0]; exact .raw hyv
      · by_cases h4 : 4 = m
        · subst h4; exact hs4.slot 4
        · rw [lookZ_none (by simp; omega)]; exact .junk, hs4.size, hs4.defers, hs4.heap, hs4.inj, hs4.fresh, hs4.live, hs4.giv, hs4.bF, hs4.hF, hs4.kept, hs4.hB, hs4.glob⟩
  have hpre3 : wpOpsIn Fence.wide 8 P (r3.extract 0 2) (fun e a' W' => e = .normal ∧ (∃ β', Sim (calmK P gl 16 β w W3) β' (mkSt [11, 12] [.raw y, .agg (rowI (V k))] []) a' W') ∧ PinIn [0, 1, 5, 6, 7] a4 a') (List.range 2) a4 W4 := by
    have := Round.ops (F := Fence.wide) (n := 8) (K := calmK P gl 16 β w W3) (pins := [0, 1, 5, 6, 7]) (i3 y (V k)) (.inl rfl) k3 (fun _ _ => rfl) hs4'
    rw [show (r3.extract 0 2).size = 2 by simp [hz3]] at this
    exact this
  refine opsIn_pre (ops' := r3.extract 0 2) (m := 2) (fun i hi => by rw [Array.getElem?_extract]; simp [hz3]; omega) (fun i o _ ho => hgn hg3 i o ho) ?_ (List.range 2) (fun i hi => List.mem_range.1 hi) a4 W4 hpre3
  rintro a5 W5 ⟨⟨β5, hs5⟩, hp5⟩
  have f5 := pin f4 hp5 hs5
  have c5 := kept_calm c3 hs5.kept
  have j5 := hJk _ _ _ j3 hs5.kept
  have t11 : a5.eval (.tmp 11) = y := raw_inv (hs5.slot 11)
  have t12 : a5.eval (.tmp 12) = rowV (V k) := rowI_inv (hs5.slot 12)
  simp only [wpOpsIn, hp2, hp3, wnt p2 _ hgp2, wnt p3 _ hgp3, if_true]
  refine ⟨fun _ _ => trivial, ?_⟩
  have hlen : ((List.finRange n).take k).length < n := by simp; omega
  obtain ⟨fn', tmps', asg, bd, hy10, hR⟩ := hY ((List.finRange n).take k) ⟨k, hkN⟩ W5 j5 hlen
  have e10 : (execOp a5.eval p2).run P W5 = .ok (.round l fn' tmps' asg bd) W5 := by
    have v11 : a5.eval (.tmp 11) = .func (.yield l) #[] #[] := t11.trans hy.symm
    simp [execOp, hopp2, resolve, v11, t12, Deferred.ofValue, invoke]
    exact hy10
  show p2.uponIn _ _ _ _ _ _ ((execOp _ p2).run P W5)
  rw [e10, Oper.uponIn_round, hdp2]
  refine ⟨fun h => (by cases h), hR.mono ?_⟩
  have e11 : ∀ (v : Bool) (W6 : World), (execOp (a5.put (some 13) (.bool v)).eval p3).run P W6 = .ok (.value (.bool (!v))) W6 := fun v W6 => by
    have v13 : (a5.put (some 13) (.bool v)).eval (.tmp 13) = .bool v := put_same (by rw [f5.size]; decide)
    have hun : (Op.unary UnOp.not (.bool v)).run P W6 = .ok (.bool (!v)) W6 := rfl
    simp [execOp, hopp3, v13, Result.andThen, hun]
  rintro e W6 (⟨rfl, j6, s6⟩ | ⟨rfl, jx6⟩)
  · refine ⟨fun _ _ => trivial, ?_⟩
    show p3.uponIn _ _ _ _ _ _ ((execOp _ p3).run P W6)
    rw [e11, Oper.uponIn_value, hdp3]
    have v14 : ((a5.put (some 13) (.bool true)).put (some 14) (.bool (!true))).eval (.tmp 14) = .bool false := put_same (by rw [put_size, f5.size]; decide)
    refine wpIn_cond_false v14 (wpIn_skip ?_)
    have g8 : ∀ m, m ≠ 13 → m ≠ 14 → ((a5.put (some 13) (.bool true)).put (some 14) (.bool (!true))).tmps.getD m undef = a5.tmps.getD m undef := fun m h2 h3 => by
      rw [put_ne h3, put_ne h2]
    have f8 : VlFr y v1 u n k ((a5.put (some 13) (.bool true)).put (some 14) (.bool (!true))) := ⟨by rw [put_size, put_size]; exact f5.size, f5.defers, (g8 0 (by decide) (by decide)).trans f5.t0, (g8 1 (by decide) (by decide)).trans f5.t1, (g8 5 (by decide) (by decide)).trans f5.t5, (g8 6 (by decide) (by decide)).trans f5.t6, (g8 7 (by decide) (by decide)).trans f5.t7⟩
    generalize (a5.put (some 13) (.bool true)).put (some 14) (.bool (!true)) = a8 at f8
    have c6 : CalmIn β w W6 := s6 c5
    refine wpIn_mono (Round.in (F := Fence.wide) (pins := [0, 1, 5, 6]) (K := calmK P gl 16 β w W6) (i4 k hkN) (.inl rfl) k4 (fun _ _ => rfl) hm (Sim.calm (ns := [7]) hg c6 f8.size f8.defers (fun k' m v hm' hv => by
      rcases k' with _ | k'
      · cases hm'; cases hv; rw [f8.t7]; exact .int
      · simp at hm'))) ?_
    rintro e a9 W9 ⟨rfl, ⟨β9, hs9⟩, hp9⟩
    have t7 : a9.tmps.getD 7 undef = .int .i64 (k + 1 : Nat) := rel_int_inv (hs9.slot 7)
    have f9 : VlFr y v1 u n (k + 1) a9 := ⟨hs9.size, hs9.defers.quiet rfl, (hp9 0 (by simp)).trans f8.t0, (hp9 1 (by simp)).trans f8.t1, (hp9 5 (by simp)).trans f8.t5, (hp9 6 (by simp)).trans f8.t6, t7⟩
    have c9 := kept_calm c6 hs9.kept
    rw [fin k hkN] at j6
    have j9 := hJk _ _ _ j6 hs9.kept
    refine ⟨⟨k + 1, hkN, f9, c9, j9⟩, ?_⟩
    show (match a9.tmps.getD 7 undef with | .int _ i => (n - i).toNat | _ => 0) < (match a2.tmps.getD 7 undef with | .int _ i => (n - i).toNat | _ => 0)
    rw [f9.t7, f2.t7]
    show ((n : Int) - ((k + 1 : Nat) : Int)).toNat < ((n : Int) - ((k : Nat) : Int)).toNat
    omega
  · refine ⟨fun _ _ => trivial, ?_⟩
    show p3.uponIn _ _ _ _ _ _ ((execOp _ p3).run P W6)
    rw [e11, Oper.uponIn_value, hdp3]
    have v14 : ((a5.put (some 13) (.bool false)).put (some 14) (.bool (!false))).eval (.tmp 14) = .bool true := put_same (by rw [put_size, f5.size]; decide)
    refine wpIn_cond_true v14 (wpIn_ret ?_)
    refine ⟨f5.defers, _, hres _ W6, ⟨_, rfl⟩, .inr ⟨_, trivial, jx6⟩⟩
end Go.Sp
namespace Go.Sp
open Go Go.Am Go.RowKit
theorem own0_blk {β : Book} {W : World} {v : Value} {o : Ob} {id : Nat} (hr : Rel β W (.own id 1 0 0 1) v) (hh : Holds β W o id) (hn : o.n ≠ 0) : ∃ b, v = .pointer (some ⟨b, 0, none⟩) ∧ HRel β W o b := by
  rcases hh with ⟨b, h1, h2⟩ | ⟨_, h2⟩
  · cases hr with
    | own h hi hj => rw [h1] at h; cases h; exact ⟨b, by rw [Nat.zero_mul, Nat.zero_add], h2⟩
    | ownD h => rw [h1] at h; cases h
  · exact absurd h2 hn
theorem osl_blk {β : Book} {W : World} {v : Value} {o : Ob} {id es l : Nat} (hr : Rel β W (.osl id es 0 l) v) (hh : Holds β W o id) (hn : o.n = l) : ∃ a cap, v = .slice a l cap ∧ (0 < l → ∃ b, a = some ⟨b, 0, none⟩ ∧ HRel β W o b) := by
  rcases hh with ⟨b, h1, h2⟩ | ⟨h1, h2⟩
  · cases hr with
    | osl h _ hc _ _ => rw [h1] at h; cases h; exact ⟨_, _, rfl, fun _ => ⟨b, by rw [Nat.zero_mul], h2⟩⟩
    | osl0 h => exact ⟨_, _, rfl, fun h => absurd h (Nat.lt_irrefl 0)⟩
    | oslD h => rw [h1] at h; cases h
  · have : l = 0 := by omega
    subst this
    cases hr with
    | osl h _ _ _ _ => rw [h1] at h; cases h
    | osl0 h => exact ⟨_, _, rfl, fun h => absurd h (Nat.lt_irrefl 0)⟩
    | oslD h => rw [h1] at h; cases h
theorem lst_det {β β0 : Book} {W : World} {v : Value} {l l0 : Nat} {F F0 : Nat → Nat → Int} (hv : Rel β W (.own 0 1 0 0 1) v) (hv0 : Rel β0 W (.own 0 1 0 0 1) v)
    (a0 : Holds β W ⟨1, 1, true, .lst [[.osl 1 7 0 l]]⟩ 0) (a1 : Holds β W ⟨7, l, true, .row fun i => rowI (F i)⟩ 1)
    (b0 : Holds β0 W ⟨1, 1, true, .lst [[.osl 1 7 0 l0]]⟩ 0) (b1 : Holds β0 W ⟨7, l0, true, .row fun i => rowI (F0 i)⟩ 1) : l0 = l ∧ ∀ i, i < l → rowI (F0 i) = rowI (F i) := by
  obtain ⟨b, rfl, cs, el, h1, h2, h3⟩ := own0_blk hv a0 Nat.one_ne_zero
  obtain ⟨b', e, cs', el', k1, k2, k3⟩ := own0_blk hv0 b0 Nat.one_ne_zero
  cases e
  rw [h1] at k1
  cases k1
  obtain ⟨x, x1, x2, _⟩ := h3 0 0 (Nat.zero_lt_one) (Nat.zero_lt_one)
  obtain ⟨y, y1, y2, _⟩ := k3 0 0 (Nat.zero_lt_one) (Nat.zero_lt_one)
  rw [x1] at y1
  cases y1
  obtain ⟨s, cap, rfl, g1⟩ := osl_blk x2 a1 rfl
  obtain ⟨s', cap', e, g2⟩ := osl_blk y2 b1 rfl
  cases e
  refine ⟨rfl, fun i hi => ?_⟩
  obtain ⟨c, hc, ds, _, m1, m2, m3⟩ := g1 (by omega)
  obtain ⟨c', hc', ds', _, n1, n2, n3⟩ := g2 (by omega)
  rw [hc] at hc'
  cases hc'
  rw [m1] at n1
  cases n1
  have key : ∀ j, j < 7 → ∀ p q : Int, atL (rowI (F i)) j = .int .i64 p → atL (rowI (F0 i)) j = .int .i64 q → q = p := fun j hj p q hp hq => by
    obtain ⟨x, x1, x2, _⟩ := m3 i j hi hj
    obtain ⟨y, y1, y2, _⟩ := n3 i j hi hj
    rw [x1] at y1
    cases y1
    have x2 : Rel β W (atL (rowI (F i)) j) x := x2
    have y2 : Rel β0 W (atL (rowI (F0 i)) j) x := y2
    rw [hp] at x2
    rw [hq] at y2
    have := (rel_int_inv y2).symm.trans (rel_int_inv x2)
    cases this; rfl
  unfold rowI
  rw [key 0 (by decide) _ _ rfl rfl, key 1 (by decide) _ _ rfl rfl, key 2 (by decide) _ _ rfl rfl, key 3 (by decide) _ _ rfl rfl, key 4 (by decide) _ _ rfl rfl, key 5 (by decide) _ _ rfl rfl, key 6 (by decide) _ _ rfl rfl]
end Go.Sp

namespace Go.Proofs.YtbmdmoknnlhdoaaGreatDoor.U
open Go Go.Am Go.Sp
set_option maxRecDepth 100000

def cL : Code → Code | .seq a _ => a | c => c
def cR : Code → Code | .seq _ b => b | c => c
def cI : Code → Code | .block _ a => a | .loop a => a | c => c
def cO : Code → Array Oper | .region _ o _ => o | _ => #[]
def cJ : Code → Nat | .region j _ _ => j | _ => 0
noncomputable def vlC : Code := Tryz.f151.body.getD .skip
noncomputable def vlB : Code := cI (cI (cR vlC))
noncomputable def vlR1 : Code := cL vlB
noncomputable def vlR4 : Code := cR (cR (cR vlB))
noncomputable def vlK : Code := cI (cL (cR (cR vlB)))
noncomputable def vlR2 : Code := cL vlK
noncomputable def vlR3 : Code := cL (cR vlK)
theorem vl_shape : vlC = .seq (.region (cJ (cL vlC)) (cO (cL vlC)) false) (.block 0 (.loop (.seq vlR1 (.seq (.cond (.tmp 8) .skip (.exit 0)) (.seq (.block 1 (.seq vlR2 (.seq (.region (cJ vlR3) (cO vlR3) false) (.cond (.tmp 14) .ret .skip)))) vlR4))))) := by kernel_rfl

theorem vl0 (u : Value) : Round Tryz.prog gl0 ow0 0 16 (.region (cJ (cL vlC)) ((cO (cL vlC)).extract 0 1) false) (mkSt [1] [.ipt 1 fun _ => .raw u] []) (mkSt [5] [.raw u] []) := by
  refine round_sk (own := ow0)
    (.again (fun (u_1 : ASt) => Le (0 : Nat) u_1 (mkSt [(5 : Nat)] [AV.raw u] [])) ([5]) ([]) ([AV.raw u]) ([]))
    (by kernel_rfl) ?_
  exact k_againR (fun _ hs => hs.le (by repeat' (first | exact trivial | (first | exact Ent.refl _ | exact inc_ent (by omega) | exact Ent.nil rfl | exact Ent.of_eq (congrArg (AV.osl _ _ _) (by first | omega | (dsimp only; omega))) | exact Ent.of_eq (congrArg (AV.int _) (by first | omega | (dsimp only; omega)))) | refine And.intro ?_ ?_)) (trivial))
theorem vl1 (n k : Nat) (hk : k ≤ n) (hn : n ≤ 100000) : Round Tryz.prog gl0 ow0 0 16 vlR1 (mkSt [6, 7] [.int .i64 n, .int .i64 k] []) (mkSt [8] [.bool (decide ((k : Int) < n))] []) := by
  refine round_sk (own := ow0)
    (.again (fun (u : ASt) => Le (0 : Nat) u (mkSt [(8 : Nat)] [AV.bool (decide ((↑k : Int) < (↑n : Int)))] [])) ([8]) ([]) ([AV.bool (decide ((↑k : Int) < (↑n : Int)))]) ([]))
    (by kernel_rfl) ?_
  exact k_againR (fun _ hs => hs.le (by repeat' (first | exact trivial | (first | exact Ent.refl _ | exact inc_ent (by omega) | exact Ent.nil rfl | exact Ent.of_eq (congrArg (AV.osl _ _ _) (by first | omega | (dsimp only; omega))) | exact Ent.of_eq (congrArg (AV.int _) (by first | omega | (dsimp only; omega)))) | refine And.intro ?_ ?_)) (trivial))
theorem vl2 (n : Nat) (V : Nat → Nat → Int) (k : Nat) (hk : k < n) (hn : n ≤ 100000) : Round Tryz.prog gl0 ow0 0 16 vlR2 (mkSt [5, 7] [.isl 7 n fun i j => atL (rowI (V i)) j, .int .i64 k] []) (mkSt [4] [.own 0 7 0 0 7] [some ⟨7, 1, true, .lst [rowI (V k)]⟩]) := by
  refine round_sk (own := ow0)
    (.req ((0 : Int) ≤ (↑k : Int) ∧ (↑k : Int) < (↑n : Int)) (.again (fun (u : ASt) => Le (0 : Nat) u (mkSt [(4 : Nat)] [AV.own (0 : Nat) (7 : Nat) (0 : Nat) (0 : Nat) (7 : Nat)] [some { es := (7 : Nat), n := (1 : Nat), mu := true, f := Rep.lst [rowI (V k)] }])) ([4]) ([16]) ([AV.own (0) (7) (0) (0) (7)]) ([some { es := 7, n := 1, mu := true, f := Rep.lst [[Zi (V (Int.toNat (↑k : Int)) (0 : Nat)), Zi (V (Int.toNat (↑k : Int)) (1 : Nat)), Zi (V (Int.toNat (↑k : Int)) (2 : Nat)), Zi (V (Int.toNat (↑k : Int)) (3 : Nat)), Zi (V (Int.toNat (↑k : Int)) (4 : Nat)), Zi (V (Int.toNat (↑k : Int)) (5 : Nat)), Zi (V (Int.toNat (↑k : Int)) (6 : Nat))]] }])))
    (by kernel_rfl) ?_
  refine k_req (by first | omega | (simp only [Int.toNat_natCast]; omega)) ?_
  exact k_againR (fun _ hs => hs.le (by repeat' (first | exact trivial | (first | exact Ent.refl _ | exact inc_ent (by omega) | exact Ent.nil rfl | exact Ent.of_eq (congrArg (AV.osl _ _ _) (by first | omega | (dsimp only; omega))) | exact Ent.of_eq (congrArg (AV.int _) (by first | omega | (dsimp only; omega)))) | refine And.intro ?_ ?_)) (by repeat' (first | exact trivial | (first | exact ObEnt.refl _ | exact ObEnt.junk | exact ObEnt.zero | exact ObEnt.push rfl rfl | exact ObEnt.pushRow rfl | exact ObEnt.len (by omega) | exact ObEnt.row (by repeat' (first | exact trivial | (first | exact Ent.refl _ | exact inc_ent (by omega) | exact Ent.nil rfl | exact Ent.of_eq (congrArg (AV.osl _ _ _) (by first | omega | (dsimp only; omega))) | exact Ent.of_eq (congrArg (AV.int _) (by first | omega | (dsimp only; omega)))) | refine And.intro ?_ ?_))) | refine And.intro ?_ ?_)))
theorem vl3 (y : Value) (V : Nat → Int) : Round Tryz.prog gl0 ow0 0 16 (.region (cJ vlR3) ((cO vlR3).extract 0 2) false) (mkSt [0, 4] [.raw y, .own 0 7 0 0 7] [some ⟨7, 1, true, .lst [rowI V]⟩]) (mkSt [11, 12] [.raw y, .agg (rowI V)] []) := by
  refine round_sk (own := ow0)
    (.again (fun (u : ASt) => Le (0 : Nat) u (mkSt [(11 : Nat), (12 : Nat)] [AV.raw y, AV.agg (rowI V)] [])) ([11, 12]) ([]) ([AV.raw y, AV.agg [Zi (V (0)), Zi (V (1)), Zi (V (2)), Zi (V (3)), Zi (V (4)), Zi (V (5)), Zi (V (6))]]) ([]))
    (by kernel_rfl) ?_
  exact k_againR (fun _ hs => hs.le (by repeat' (first | exact trivial | (first | exact Ent.refl _ | exact inc_ent (by omega) | exact Ent.nil rfl | exact Ent.of_eq (congrArg (AV.osl _ _ _) (by first | omega | (dsimp only; omega))) | exact Ent.of_eq (congrArg (AV.int _) (by first | omega | (dsimp only; omega)))) | refine And.intro ?_ ?_)) (trivial))
theorem vl4 (n k : Nat) (hk : k < n) (hn : n ≤ 100000) : Round Tryz.prog gl0 ow0 0 16 vlR4 (mkSt [7] [.int .i64 k] []) (mkSt [7] [.int .i64 (k + 1 : Nat)] []) := by
  refine round_sk (own := ow0)
    (.again (fun (u : ASt) => Le (0 : Nat) u (mkSt [(7 : Nat)] [Zi (↑(k + (1 : Nat)) : Int)] [])) ([7]) ([]) ([Zi (IntKind.wrap IntKind.i64 ((↑k : Int) + (1 : Int)))]) ([]))
    (by kernel_rfl) ?_
  exact k_againR (fun _ hs => hs.le (by repeat' (first | exact trivial | (first | exact Ent.refl _ | exact inc_ent (by omega) | exact Ent.nil rfl | exact Ent.of_eq (congrArg (AV.osl _ _ _) (by first | omega | (dsimp only; omega))) | exact Ent.of_eq (congrArg (AV.int _) (by first | omega | (dsimp only; omega)))) | refine And.intro ?_ ?_)) (trivial))

theorem values_iter (n : Nat) (f : Nat → Sup) (hn : n ≤ 100000) : Iter Tryz.prog gl0 151 [.ipt 1 fun _ => supA n f] n (fun k => .agg (f k.1).cells) :=
  values_of (own := ow0) (V := fun i => supI (f i)) (j0 := cJ (cL vlC)) (j3 := cJ vlR3) (tS := 22) (tE := 85) Tryz.func151 (by kernel_rfl : _ = some vlC) (by kernel_rfl) (by kernel_rfl) (by kernel_rfl) mixed vl_shape (by kernel_rfl) (by kernel_rfl) (by kernel_rfl) (by kernel_rfl) (by kernel_rfl) (by kernel_rfl) (by kernel_rfl) (by kernel_rfl) (by kernel_rfl) (by kernel_rfl) (by kernel_rfl) (by kernel_rfl) (by kernel_rfl) (by kernel_rfl)
    vl0 (fun k hk => vl1 n k hk hn) (fun k hk => vl2 n (fun i => supI (f i)) k hk hn) vl3 (fun k hk => vl4 n k hk hn)
theorem values_c (n : Nat) (f : Nat → Sup) : Pure Tryz.prog gl0 102 [supA n f] (.fn (.func 151) [] [.ipt 1 fun _ => supA n f]) := by
  refine pure_sk (own := ow0) Tryz.func102 (by kernel_rfl) mixed (by kernel_rfl)
    (.out (AV.fn (Fn.func (151 : Nat)) [] [AV.ipt (1) fun (k : Nat) => atL [AV.isl (7) n fun (i j : Nat) => atL (Sup.cells (f i)) j] k]) [] (AV.fn (Fn.func (151 : FuncId)) [] [AV.ipt (1 : Nat) fun (x : Nat) => supA n f]) [])
    (by kernel_rfl) ?_
  exact k_out (fn1_ent ipt1_ent)


def rA : Code → Code | .rangeFunc _ _ a _ => a | c => c
def rB : Code → Code | .rangeFunc _ _ _ b => b | c => c
noncomputable def apX : Code := Tryz.f192.body.getD .skip
noncomputable def apF : Code := cI (cR (cL (cR apX)))
theorem ap_shape : apF = .rangeFunc (.tmp 6) #[7] (rA apF) (rB apF) := by kernel_rfl
def preS {n : Nat} (f : Nat → Sup) (pre : List (Fin n)) (i : Nat) : Sup := match pre[i]? with
  | some x => f x.1
  | none => default

theorem preS_len {n : Nat} {pre : List (Fin n)} {x : Fin n} : (pre ++ [x]).length = pre.length + 1 := by simp
theorem preS_lt {n : Nat} {f : Nat → Sup} {pre : List (Fin n)} {x : Fin n} {i : Nat} (h : i < pre.length) : preS f (pre ++ [x]) i = preS f pre i := by
  unfold preS; rw [List.getElem?_append_left h]
theorem preS_at {n : Nat} {f : Nat → Sup} {pre : List (Fin n)} {x : Fin n} : preS f (pre ++ [x]) pre.length = f x.1 := by
  unfold preS; simp
theorem preS_fin {n : Nat} {f : Nat → Sup} {i : Nat} (h : i < n) : preS f (List.finRange n) i = f i := by
  unfold preS; simp [h]
theorem entL_eq {os : List (Option Ob)} {l l' : List AV} (h : l = l') : EntL os l l' := h ▸ EntL.refl l
theorem ap_a (n : Nat) (f : Nat → Sup) (pre : List (Fin n)) (x : Fin n) : Round Tryz.prog gl0 ow0 0 13 (rA apF) (mkSt [7, 2, 6] [.agg (f x.1).cells, .own 0 1 0 0 1, .fn (.func 151) [] [.ipt 1 fun _ => supA n f]] [some ⟨1, 1, true, .lst [[.osl 1 7 0 pre.length]]⟩, some ⟨7, pre.length, true, .row fun i => (preS f pre i).cells⟩]) (mkSt [5, 7, 2, 6] [.own 2 7 0 0 7, .agg (f x.1).cells, .own 0 1 0 0 1, .fn (.func 151) [] [.ipt 1 fun _ => supA n f]] [some ⟨1, 1, true, .lst [[.osl 1 7 0 pre.length]]⟩, some ⟨7, pre.length, true, .row fun i => (preS f pre i).cells⟩, some ⟨7, 1, true, .lst [(f x.1).cells]⟩]) := by
  refine round_sk (own := ow0)
    (.again (fun (u : ASt) => Le (0 : Nat) u (mkSt [(5 : Nat), (7 : Nat), (2 : Nat), (6 : Nat)] [AV.own (2 : Nat) (7 : Nat) (0 : Nat) (0 : Nat) (7 : Nat), AV.agg (Sup.cells (f (↑x : Nat))), AV.own (0 : Nat) (1 : Nat) (0 : Nat) (0 : Nat) (1 : Nat), AV.fn (Fn.func (151 : FuncId)) [] [AV.ipt (1 : Nat) fun (x : Nat) => supA n f]] [some { es := (1 : Nat), n := (1 : Nat), mu := true, f := Rep.lst [[AV.osl (1 : Nat) (7 : Nat) (0 : Nat) (List.length pre)]] }, some { es := (7 : Nat), n := List.length pre, mu := true, f := Rep.row fun (i : Nat) => Sup.cells (preS f pre i) }, some { es := (7 : Nat), n := (1 : Nat), mu := true, f := Rep.lst [Sup.cells (f (↑x : Nat))] }])) ([5, 7, 2, 6]) ([0, 1, 2]) ([AV.own (2) (7) (0) (0) (7), AV.agg (Sup.cells (f (↑x : Nat))), AV.own (0) (1) (0) (0) (1), AV.fn (Fn.func (151 : FuncId)) [] [AV.ipt (1) fun (x : Nat) => AV.isl (7) n fun (i j : Nat) => atL (Sup.cells (f i)) j]]) ([some { es := 1, n := 1, mu := true, f := Rep.lst [[AV.osl (1) (7) (0) (List.length pre)]] }, some { es := 7, n := List.length pre, mu := true, f := Rep.row fun (i : Nat) => Sup.cells (preS f pre i) }, some { es := 7, n := 1, mu := true, f := Rep.lst [Sup.cells (f (↑x : Nat))] }]))
    (by kernel_rfl) ?_
  exact k_againR (fun _ hs => hs.le (by repeat' (first | exact trivial | (first | exact Ent.refl _ | exact inc_ent (by omega) | exact Ent.nil rfl | exact Ent.of_eq (congrArg (AV.osl _ _ _) (by first | omega | (dsimp only; omega))) | exact Ent.of_eq (congrArg (AV.int _) (by first | omega | (dsimp only; omega)))) | refine And.intro ?_ ?_)) (by repeat' (first | exact trivial | (first | exact ObEnt.refl _ | exact ObEnt.junk | exact ObEnt.zero | exact ObEnt.push rfl rfl | exact ObEnt.pushRow rfl | exact ObEnt.len (by omega) | exact ObEnt.row (by repeat' (first | exact trivial | (first | exact Ent.refl _ | exact inc_ent (by omega) | exact Ent.nil rfl | exact Ent.of_eq (congrArg (AV.osl _ _ _) (by first | omega | (dsimp only; omega))) | exact Ent.of_eq (congrArg (AV.int _) (by first | omega | (dsimp only; omega)))) | refine And.intro ?_ ?_))) | refine And.intro ?_ ?_)))
theorem ap_d (n : Nat) (f : Nat → Sup) (pre : List (Fin n)) (x : Fin n) : Round Tryz.prog gl0 ow0 0 13 .skip (mkSt [5, 7, 2, 6] [.own 2 7 0 0 7, .agg (f x.1).cells, .own 0 1 0 0 1, .fn (.func 151) [] [.ipt 1 fun _ => supA n f]] [some ⟨1, 1, true, .lst [[.osl 1 7 0 pre.length]]⟩, some ⟨7, pre.length, true, .row fun i => (preS f pre i).cells⟩, some ⟨7, 1, true, .lst [(f x.1).cells]⟩]) (mkSt [2, 6] [.own 0 1 0 0 1, .fn (.func 151) [] [.ipt 1 fun _ => supA n f]] [some ⟨1, 1, true, .lst [[.osl 1 7 0 pre.length]]⟩, some ⟨7, pre.length, true, .row fun i => (preS f pre i).cells⟩]) := by
  refine round_sk (own := ow0)
    (.again (fun (u : ASt) => Le (0 : Nat) u (mkSt [(2 : Nat), (6 : Nat)] [AV.own (0 : Nat) (1 : Nat) (0 : Nat) (0 : Nat) (1 : Nat), AV.fn (Fn.func (151 : FuncId)) [] [AV.ipt (1 : Nat) fun (x : Nat) => supA n f]] [some { es := (1 : Nat), n := (1 : Nat), mu := true, f := Rep.lst [[AV.osl (1 : Nat) (7 : Nat) (0 : Nat) (List.length pre)]] }, some { es := (7 : Nat), n := List.length pre, mu := true, f := Rep.row fun (i : Nat) => Sup.cells (preS f pre i) }])) ([2, 6]) ([0, 1]) ([AV.own (0) (1) (0) (0) (1), AV.fn (Fn.func (151 : FuncId)) [] [AV.ipt (1) fun (x : Nat) => AV.isl (7) n fun (i j : Nat) => atL (Sup.cells (f i)) j]]) ([some { es := 1, n := 1, mu := true, f := Rep.lst [[AV.osl (1) (7) (0) (List.length pre)]] }, some { es := 7, n := List.length pre, mu := true, f := Rep.row fun (i : Nat) => Sup.cells (preS f pre i) }]))
    (by kernel_rfl) ?_
  exact k_againR (fun _ hs => hs.le (by repeat' (first | exact trivial | (first | exact Ent.refl _ | exact inc_ent (by omega) | exact Ent.nil rfl | exact Ent.of_eq (congrArg (AV.osl _ _ _) (by first | omega | (dsimp only; omega))) | exact Ent.of_eq (congrArg (AV.int _) (by first | omega | (dsimp only; omega)))) | refine And.intro ?_ ?_)) (by repeat' (first | exact trivial | (first | exact ObEnt.refl _ | exact ObEnt.junk | exact ObEnt.zero | exact ObEnt.push rfl rfl | exact ObEnt.pushRow rfl | exact ObEnt.len (by omega) | exact ObEnt.row (by repeat' (first | exact trivial | (first | exact Ent.refl _ | exact inc_ent (by omega) | exact Ent.nil rfl | exact Ent.of_eq (congrArg (AV.osl _ _ _) (by first | omega | (dsimp only; omega))) | exact Ent.of_eq (congrArg (AV.int _) (by first | omega | (dsimp only; omega)))) | refine And.intro ?_ ?_))) | refine And.intro ?_ ?_)))
theorem ap_b (n : Nat) (f : Nat → Sup) (pre : List (Fin n)) (x : Fin n) (hl : pre.length ≤ 100000) : Round Tryz.prog gl0 ow0 0 13 (rB apF) (mkSt [5, 7, 2, 6] [.own 2 7 0 0 7, .agg (f x.1).cells, .own 0 1 0 0 1, .fn (.func 151) [] [.ipt 1 fun _ => supA n f]] [some ⟨1, 1, true, .lst [[.osl 1 7 0 pre.length]]⟩, some ⟨7, pre.length, true, .row fun i => (preS f pre i).cells⟩, some ⟨7, 1, true, .lst [(f x.1).cells]⟩]) (mkSt [2, 6] [.own 0 1 0 0 1, .fn (.func 151) [] [.ipt 1 fun _ => supA n f]] [some ⟨1, 1, true, .lst [[.osl 1 7 0 (pre ++ [x]).length]]⟩, some ⟨7, (pre ++ [x]).length, true, .row fun i => (preS f (pre ++ [x]) i).cells⟩]) := by
  refine round_sk (own := ow0)
    (.req ((List.length pre + 1) * 56 ≤ 140737488355328) (.again (fun (u : ASt) => Le (0 : Nat) u (mkSt [(2 : Nat), (6 : Nat)] [AV.own (0 : Nat) (1 : Nat) (0 : Nat) (0 : Nat) (1 : Nat), AV.fn (Fn.func (151 : FuncId)) [] [AV.ipt (1 : Nat) fun (x : Nat) => supA n f]] [some { es := (1 : Nat), n := (1 : Nat), mu := true, f := Rep.lst [[AV.osl (1 : Nat) (7 : Nat) (0 : Nat) (List.length (pre ++ [x]))]] }, some { es := (7 : Nat), n := List.length (pre ++ [x]), mu := true, f := Rep.row fun (i : Nat) => Sup.cells (preS f (pre ++ [x]) i) }])) ([2, 6]) ([0, 27]) ([AV.own (0) (1) (0) (0) (1), AV.fn (Fn.func (151 : FuncId)) [] [AV.ipt (1) fun (x : Nat) => AV.isl (7) n fun (i j : Nat) => atL (Sup.cells (f i)) j]]) ([some { es := 1, n := 1, mu := true, f := Rep.lst [[AV.osl (1) (7) (0) (List.length pre + 1)]] }, some { es := 7, n := List.length pre + 1, mu := true, f := Rep.cat (List.length pre) (Rep.row fun (i : Nat) => Sup.cells (preS f pre i)) (Rep.lst [Sup.cells (f (↑x : Nat))]) }])))
    (by kernel_rfl) ?_
  refine k_req (by first | omega | (simp only [Int.toNat_natCast]; omega)) ?_
  exact k_againR (fun _ hs => hs.le (⟨Ent.refl _, Ent.refl _, trivial⟩) (⟨ObEnt.row ⟨Ent.of_eq (by rw [preS_len]), trivial⟩, ObEnt.catRow preS_len (fun i hi => entL_eq (by rw [preS_lt hi])) (entL_eq (by rw [preS_at])), trivial⟩))

theorem sup_ext {a b : Sup} (h : rowI (supI a) = rowI (supI b)) : a = b := by
  cases a; cases b
  simp only [rowI, supI, List.cons.injEq, AV.int.injEq, true_and, and_true] at h
  obtain ⟨rfl, rfl, rfl, rfl, rfl, rfl, rfl⟩ := h
  rfl
theorem ap_det (n : Nat) (f : Nat → Sup) (pre pre0 : List (Fin n)) (K : Ctx) (β β0 : Book) (a a' : Go.Act) (W : World) (hs : Sim K β (mkSt [2, 6] [.own 0 1 0 0 1, .fn (.func 151) [] [.ipt 1 fun _ => supA n f]] [some ⟨1, 1, true, .lst [[.osl 1 7 0 pre.length]]⟩, some ⟨7, pre.length, true, .row fun i => (preS f pre i).cells⟩]) a W) (hs0 : Sim K β0 (mkSt [2, 6] [.own 0 1 0 0 1, .fn (.func 151) [] [.ipt 1 fun _ => supA n f]] [some ⟨1, 1, true, .lst [[.osl 1 7 0 (pre0).length]]⟩, some ⟨7, (pre0).length, true, .row fun i => (preS f (pre0) i).cells⟩]) a' W)
    (ha : ∀ m, m ∈ [2, 6] → a'.tmps.getD m undef = a.tmps.getD m undef) : pre0.length = pre.length ∧ preS f pre0 = preS f pre := by
  have v1 := hs.slot 2
  have v2 := hs0.slot 2
  rw [ha 2 (by simp)] at v2
  obtain ⟨h1, h2⟩ := lst_det (F := fun i => supI (preS f pre i)) (F0 := fun i => supI (preS f pre0 i)) v1 v2 (hs.heap 0 _ rfl) (hs.heap 1 _ rfl) (hs0.heap 0 _ rfl) (hs0.heap 1 _ rfl)
  refine ⟨h1, funext fun i => ?_⟩
  by_cases hi : i < pre.length
  · exact sup_ext (h2 i hi)
  · unfold preS
    rw [List.getElem?_eq_none (by omega), List.getElem?_eq_none (by omega)]
theorem preS_snoc {n : Nat} {f : Nat → Sup} {pre : List (Fin n)} {x : Fin n} : preS f (pre ++ [x]) = fun i => if i < pre.length then preS f pre i else if i = pre.length then f x.1 else default := by
  funext i
  by_cases h : i < pre.length
  · rw [if_pos h, preS_lt h]
  · rw [if_neg h]
    by_cases e : i = pre.length
    · rw [if_pos e, e, preS_at]
    · rw [if_neg e]; unfold preS; rw [List.getElem?_eq_none (by simp; omega)]
theorem cells_nml (s : Sup) : NML s.cells := ⟨.int, .int, .int, .int, .int, .int, .int, trivial⟩
theorem cells_nm (s : Sup) (j : Nat) : NM (atL s.cells j) := (cells_nml s).atL j
theorem supA_nm (n : Nat) (f : Nat → Sup) : NM (supA n f) := .isl fun _ j _ _ => cells_nm _ j
theorem vv_nm (n : Nat) (f : Nat → Sup) : NML [.own 0 1 0 0 1, .fn (.func 151) [] [.ipt 1 fun _ => supA n f]] := ⟨.own, .fn (fun u h => by cases h) (NML.spec (l := [_]) ⟨.ipt fun _ _ => supA_nm n f, trivial⟩), trivial⟩
theorem osl1_nm {l : Nat} : NMB ⟨1, 1, true, .lst [[.osl 1 7 0 l]]⟩ := fun i j hi _ => by
  obtain rfl : i = 0 := Nat.lt_one_iff.1 hi
  exact NML.atL (l := [_]) ⟨.osl, trivial⟩ j
theorem ap_opq (n : Nat) (f : Nat → Sup) (hn : n ≤ 100000) : Opq Tryz.prog gl0 0 13 apF (mkSt [2, 6] [.own 0 1 0 0 1, .fn (.func 151) [] [.ipt 1 fun _ => supA n f]] [some ⟨1, 1, true, .lst [[.osl 1 7 0 0]]⟩, some ⟨7, 0, true, .row fun i => (preS (n := n) f [] i).cells⟩]) (mkSt [2, 6] [.own 0 1 0 0 1, .fn (.func 151) [] [.ipt 1 fun _ => supA n f]] [some ⟨1, 1, true, .lst [[.osl 1 7 0 n]]⟩, some ⟨7, n, true, .row fun i => (preS f (List.finRange n) i).cells⟩]) := by
  have hq := opq_rangeB (P := Tryz.prog) (gl := gl0) (own := ow0) (ng := 0) (nt := 13) (g := .tmp 6) (p := 7) (d := 5) (assign := rA apF) (body := rB apF) (xs := fun k : Fin n => .agg (f k.1).cells) (ns := [2, 6]) (vs := [.own 0 1 0 0 1, .fn (.func 151) [] [.ipt 1 fun _ => supA n f]]) (bv := .own 2 7 0 0 7) (bx := fun x => ⟨7, 1, true, .lst [(f x.1).cells]⟩) (obs := fun pre => [some ⟨1, 1, true, .lst [[.osl 1 7 0 pre.length]]⟩, some ⟨7, pre.length, true, .row fun i => (preS f pre i).cells⟩]) (obs1 := [some ⟨1, 1, true, .lst [[.osl 1 7 0 n]]⟩, some ⟨7, n, true, .row fun i => (preS f (List.finRange n) i).cells⟩])
    rfl (values_iter n f hn) (fun x => .agg fun u hu => by
      simp only [Sup.cells, List.mem_cons, List.not_mem_nil, or_false] at hu
      rcases hu with rfl | rfl | rfl | rfl | rfl | rfl | rfl <;> exact .int) (fun pre => rfl)
    (fun pre => .of (vv_nm n f) ⟨osl1_nm, fun i j _ _ => cells_nm _ j, trivial⟩) (fun pre x => .of ⟨.own, .agg (cells_nml _).spec, vv_nm n f⟩ ⟨osl1_nm, fun i j _ _ => cells_nm _ j, fun i j hi _ => (by obtain rfl : i = 0 := Nat.lt_one_iff.1 hi; exact cells_nm _ j), trivial⟩) (fun g m f h => by cases h) (by kernel_rfl) (fun pre x => ap_a n f pre x) (fun pre x => ap_d n f pre x) (fun pre x hl => ap_b n f pre x (by omega))
    (fun pre pre0 K β β0 a a' W h h0 ha => by
      obtain ⟨e1, e2⟩ := ap_det n f pre pre0 K β β0 a a' W h h0 ha
      refine ⟨e1, fun x => ?_⟩
      show ([some ⟨1, 1, true, .lst [[.osl 1 7 0 (pre0 ++ [x]).length]]⟩, some ⟨7, (pre0 ++ [x]).length, true, .row fun i => (preS f (pre0 ++ [x]) i).cells⟩] : List (Option Ob)) = [some ⟨1, 1, true, .lst [[.osl 1 7 0 (pre ++ [x]).length]]⟩, some ⟨7, (pre ++ [x]).length, true, .row fun i => (preS f (pre ++ [x]) i).cells⟩]
      rw [preS_snoc, preS_snoc, preS_len, preS_len, e1, e2]) (by rw [List.length_finRange])
  rw [← ap_shape] at hq
  exact hq

theorem appendSeq_c (n : Nat) (f : Nat → Sup) (hn : n ≤ 100000) : Gives Tryz.prog gl0 192 [] [.nsl, .fn (.func 151) [] [.ipt 1 fun _ => supA n f]] (.osl 0 7 0 n) [some ⟨7, n, true, .row fun i => (preS f (List.finRange n) i).cells⟩] := by
  refine gives_sk (own := ow0) (hand := true) Tryz.func192 (by kernel_rfl) mixed (by kernel_rfl)
    (.opq 13 (apF) ([2, 6]) ([0, 1817]) ([AV.own (0) (1) (0) (0) (1), AV.fn (Fn.func (151 : FuncId)) [] [AV.ipt (1) fun (x : Nat) => AV.isl (7) n fun (i j : Nat) => atL (Sup.cells (f i)) j]]) ([some { es := 1, n := 1, mu := true, f := Rep.lst [[AV.nsl]] }, some { es := 7, n := 0, mu := true, f := Rep.ty (999999999 : TypeId) (Rep.lst []) }]) (mkSt [(2 : Nat), (6 : Nat)] [AV.own (0 : Nat) (1 : Nat) (0 : Nat) (0 : Nat) (1 : Nat), AV.fn (Fn.func (151 : FuncId)) [] [AV.ipt (1 : Nat) fun (x : Nat) => supA n f]] [some { es := (1 : Nat), n := (1 : Nat), mu := true, f := Rep.lst [[AV.osl (1 : Nat) (7 : Nat) (0 : Nat) n]] }, some { es := (7 : Nat), n := n, mu := true, f := Rep.row fun (i : Nat) => Sup.cells (preS f (List.finRange n) i) }]) (.out (AV.osl (0) (7) (0) n) ([some { es := 7, n := n, mu := true, f := Rep.row fun (i : Nat) => Sup.cells (preS f (List.finRange n) i) }]) (AV.osl (0 : Nat) (7 : Nat) (0 : Nat) n) ([some { es := (7 : Nat), n := n, mu := true, f := Rep.row fun (i : Nat) => Sup.cells (preS f (List.finRange n) i) }])))
    (by kernel_rfl) ?_
  refine k_opq (fun _ hs => hs.le (by repeat' (first | exact trivial | (first | exact Ent.refl _ | exact inc_ent (by omega) | exact Ent.nil rfl | exact Ent.of_eq (congrArg (AV.osl _ _ _) (by first | omega | (dsimp only; omega))) | exact Ent.of_eq (congrArg (AV.int _) (by first | omega | (dsimp only; omega)))) | refine And.intro ?_ ?_)) (by repeat' (first | exact trivial | (first | exact ObEnt.refl _ | exact ObEnt.junk | exact ObEnt.zero | exact ObEnt.push rfl rfl | exact ObEnt.pushRow rfl | exact ObEnt.len (by omega) | exact ObEnt.row (by repeat' (first | exact trivial | (first | exact Ent.refl _ | exact inc_ent (by omega) | exact Ent.nil rfl | exact Ent.of_eq (congrArg (AV.osl _ _ _) (by first | omega | (dsimp only; omega))) | exact Ent.of_eq (congrArg (AV.int _) (by first | omega | (dsimp only; omega)))) | refine And.intro ?_ ?_))) | refine And.intro ?_ ?_))) (ap_opq n f hn) ?_
  exact k_outg (Ent.of_eq (by first | rfl | simp_all)) (by repeat' (first | exact trivial | (first | exact ObEnt.refl _ | exact ObEnt.junk | exact ObEnt.zero | exact ObEnt.push rfl rfl | exact ObEnt.pushRow rfl | exact ObEnt.len (by omega) | exact ObEnt.row (by repeat' (first | exact trivial | (first | exact Ent.refl _ | exact inc_ent (by omega) | exact Ent.nil rfl | exact Ent.of_eq (congrArg (AV.osl _ _ _) (by first | omega | (dsimp only; omega))) | exact Ent.of_eq (congrArg (AV.int _) (by first | omega | (dsimp only; omega)))) | refine And.intro ?_ ?_))) | refine And.intro ?_ ?_))

end Go.Proofs.YtbmdmoknnlhdoaaGreatDoor.U
