/- Part of the proof: Exp, GE3, GE4, GE5, Exp2, GE8, GE9, GE10, SpOpen, SpOpenP, Args, EnGlob. -/
import Derived.Test.YtmhipmiacghgeaaGreatDoorM7
import Derived.Test.YtmhipmiacghgeaaGreatDoorM4
import Derived.Test.YtmhipmiacghgeaaGreatDoorProg
import Derived.Test.YtmhipmiacghgeaaGreatDoorM3
import Derived.Test.YtmhipmiacghgeaaGreatDoorM6
import Derived.DataShut
import Derived.OpenShut
import Derived.FnData
import Derived.MakeChecks
namespace Go.Sp
open Go Go.Am
def Spend.coin (s : Spend) : Coin := ⟨s.bank, s.epoch, s.denom, s.depth, s.a, s.root, s.z, s.sa, s.sb, s.r⟩
def Spend.cxt (s : Spend) : Cxt := ⟨s.payee, s.time, s.number⟩
/-- Its bytes are bytes. -/
structure Spend.By (s : Spend) : Prop where
  root : byB s.root 32
  payee : byB s.payee 32
def chS (b : Bas) (s : Spend) : Int := chalN b.gr.q s.coin s.level s.index s.cxt
def scB (b : Bas) (x : Int) : Bool := decide (x ≥ 0) && decide (x < b.gr.q)
theorem okS_all {s : Spend} (h : okS s = true) : nodeB s.depth s.level s.index = true ∧ ctxB s.time s.number = true ∧ fromS s = spanA s.depth s.level s.index ∧ toS s = spanZ s.depth s.level s.index ∧ (s.nl : Int) = toS s - fromS s := by
  have hf : fromS s = spanA s.depth s.level s.index := by unfold fromS; rw [h]; rfl
  have ht : toS s = spanZ s.depth s.level s.index := by unfold toS; rw [h]; rfl
  have hn : nodeB s.depth s.level s.index = true := by
    cases hb : nodeB s.depth s.level s.index with
    | true => rfl
    | false =>
      exfalso
      unfold okS at h
      simp [spanE, hb] at h
      omega
  have hb := fromS_bnd s
  have hz : 0 ≤ toS s ∧ toS s ≤ 2000 := by
    rw [ht]
    unfold spanZ
    rw [if_pos hn]
    obtain ⟨h1, h2, h3, h4, h5, h6⟩ := node_t hn
    obtain ⟨q1, _, q2, q3⟩ := p2 (k := s.depth - s.level) (by omega) (by omega)
    obtain ⟨_, _, r2, r3⟩ := p2 (k := s.level) (by omega) (by omega)
    obtain ⟨b1, b2, b3, b4⟩ := bnd h5 h6 r3 q2 q3
    omega
  refine ⟨hn, ?_, hf, ht, ?_⟩
  · unfold okS at h
    unfold ctxB
    simp at h ⊢
    omega
  · unfold okS at h
    rw [← hf, ← ht, wI (by omega) (by omega)] at h
    simp at h
    omega
theorem okS_nl {s : Spend} (h : okS s = true) : toS s ≤ 2000 := by
  obtain ⟨hn, _, _, ht, _⟩ := okS_all h
  rw [ht]
  unfold spanZ
  rw [if_pos hn]
  obtain ⟨h1, h2, h3, h4, h5, h6⟩ := node_t hn
  obtain ⟨q1, _, q2, q3⟩ := p2 (k := s.depth - s.level) (by omega) (by omega)
  obtain ⟨_, _, r2, r3⟩ := p2 (k := s.level) (by omega) (by omega)
  obtain ⟨b1, b2, b3, b4⟩ := bnd h5 h6 r3 q2 q3
  omega
/-- The index of the leaf that is the same. -/
def mateS (s t : Spend) (i : Nat) : Nat := (firstI (fun k => t.lf k 0 == s.lf i 0) t.nl 0).toNat
def leafN (s : Spend) (leaf : Int) : Nat := (leaf - fromS s).toNat
/-- The secret of two spends and a leaf, and the error. -/
noncomputable def secR (b : Bas) (s t : Spend) (leaf : Int) : Int × Int :=
  if validB b = false ∨ (okS s && okS t) = false then (0, 1)
  else if leaf < fromS s ∨ toS s ≤ leaf then (0, 2)
  else if ¬ (s.a = t.a ∧ found t (s.lf (leafN s leaf) 0) = true) then (0, 7)
  else if scB b (s.lf (leafN s leaf) 1) = false ∨ scB b (s.lf (leafN s leaf) 2) = false ∨ scB b (t.lf (mateS s t (leafN s leaf)) 1) = false ∨ scB b (t.lf (mateS s t (leafN s leaf)) 2) = false then (0, 2)
  else if chS b s = chS b t then (0, 20)
  else if s.lf (leafN s leaf) 2 = t.lf (mateS s t (leafN s leaf)) 2 then (0, 10)
  else ((s.lf (leafN s leaf) 1 - t.lf (mateS s t (leafN s leaf)) 1) % b.gr.q * invF ((s.lf (leafN s leaf) 2 - t.lf (mateS s t (leafN s leaf)) 2) % b.gr.q) b.gr.q % b.gr.q, 0)
theorem shared_has {s t : Spend} {leaf : Int} (h : okS s = true) (h1 : ¬ (leaf < fromS s ∨ toS s ≤ leaf)) : leaf ∈ sharedL s t ↔ (s.a = t.a ∧ found t (s.lf (leafN s leaf) 0) = true) := by
  obtain ⟨_, _, _, _, hn⟩ := okS_all h
  unfold sharedL
  by_cases ha : s.a = t.a
  · rw [if_neg (by simp [ha])]
    unfold sharedN leafN
    simp only [List.mem_map, List.mem_filter, List.mem_range]
    constructor
    · rintro ⟨i, ⟨hi, hf⟩, rfl⟩
      refine ⟨ha, ?_⟩
      rw [show (fromS s + (i : Int) - fromS s).toNat = i by omega]
      exact hf
    · rintro ⟨_, hf⟩
      exact ⟨(leaf - fromS s).toNat, ⟨by omega, hf⟩, by omega⟩
  · rw [if_pos ha]
    simp [ha]
theorem mate_lt {s t : Spend} {i : Nat} (h : found t (s.lf i 0) = true) : mateS s t i < t.nl ∧ firstI (fun k => t.lf k 0 == s.lf i 0) t.nl 0 = (mateS s t i : Nat) := by
  have h0 : firstI (fun k => t.lf k 0 == s.lf i 0) t.nl 0 ≥ 0 := of_decide_eq_true h
  have h1 := firstI_lt (p := fun k => t.lf k 0 == s.lf i 0) t.nl 0
  unfold mateS
  constructor <;> omega
theorem first_mem {l : List Int} {v : Int} : (decide (firstI (fun i => l.getD i 0 == v) l.length 0 ≥ 0)) = decide (v ∈ l) := by
  rw [firstI_neg]
  rw [Bool.eq_iff_iff]
  simp only [Nat.zero_add, List.any_eq_true, List.mem_range, beq_iff_eq, decide_eq_true_eq]
  constructor
  · rintro ⟨i, hi, rfl⟩
    rw [List.getD_eq_getElem?_getD, List.getElem?_eq_getElem hi]
    exact List.getElem_mem hi
  · intro h
    obtain ⟨i, hi, rfl⟩ := List.mem_iff_getElem.1 h
    exact ⟨i, hi, by rw [List.getD_eq_getElem?_getD, List.getElem?_eq_getElem hi]; rfl⟩
theorem leaf_w {s : Spend} {leaf : Int} (h : okS s = true) (h1 : ¬ (leaf < fromS s ∨ toS s ≤ leaf)) : 0 ≤ IntKind.wrap .i64 (leaf - fromS s) ∧ IntKind.wrap .i64 (leaf - fromS s) < s.nl ∧ Int.toNat (IntKind.wrap .i64 (leaf - fromS s)) = leafN s leaf := by
  obtain ⟨_, _, _, _, hn⟩ := okS_all h
  have hb := fromS_bnd s
  have hz : toS s ≤ 2000 := by
    have := okS_nl h
    omega
  rw [wI (by omega) (by omega)]
  exact ⟨by omega, by omega, rfl⟩
theorem sec_1 {b : Bas} {s t : Spend} {leaf : Int} (h : validB b = false ∨ okS s = false ∨ okS t = false) : secR b s t leaf = (0, 1) := by
  unfold secR; grind
theorem sec_2 {b : Bas} {s t : Spend} {leaf : Int} (h : validB b = true ∧ okS s = true ∧ okS t = true) (h1 : leaf < fromS s ∨ toS s ≤ leaf) : secR b s t leaf = (0, 2) := by
  unfold secR; grind
theorem sec_3 {b : Bas} {s t : Spend} {leaf : Int} (h : validB b = true ∧ okS s = true ∧ okS t = true) (h1 : ¬ (leaf < fromS s ∨ toS s ≤ leaf)) (h2 : ¬ leaf ∈ sharedL s t) : secR b s t leaf = (0, 7) := by
  rw [shared_has h.2.1 h1] at h2
  unfold secR; grind
theorem sec_4 {b : Bas} {s t : Spend} {leaf : Int} (h : validB b = true ∧ okS s = true ∧ okS t = true) (h1 : ¬ (leaf < fromS s ∨ toS s ≤ leaf)) (h2 : leaf ∈ sharedL s t)
    (h3 : scB b (s.lf (leafN s leaf) 1) = false ∨ scB b (s.lf (leafN s leaf) 2) = false ∨ scB b (t.lf (mateS s t (leafN s leaf)) 1) = false ∨ scB b (t.lf (mateS s t (leafN s leaf)) 2) = false) : secR b s t leaf = (0, 2) := by
  rw [shared_has h.2.1 h1] at h2
  unfold secR; grind
theorem sec_5 {b : Bas} {s t : Spend} {leaf : Int} (h : validB b = true ∧ okS s = true ∧ okS t = true) (h1 : ¬ (leaf < fromS s ∨ toS s ≤ leaf)) (h2 : leaf ∈ sharedL s t)
    (h3 : scB b (s.lf (leafN s leaf) 1) = true ∧ scB b (s.lf (leafN s leaf) 2) = true ∧ scB b (t.lf (mateS s t (leafN s leaf)) 1) = true ∧ scB b (t.lf (mateS s t (leafN s leaf)) 2) = true) (h4 : chS b s = chS b t) : secR b s t leaf = (0, 20) := by
  rw [shared_has h.2.1 h1] at h2
  unfold secR; grind
theorem sec_6 {b : Bas} {s t : Spend} {leaf : Int} (h : validB b = true ∧ okS s = true ∧ okS t = true) (h1 : ¬ (leaf < fromS s ∨ toS s ≤ leaf)) (h2 : leaf ∈ sharedL s t)
    (h3 : scB b (s.lf (leafN s leaf) 1) = true ∧ scB b (s.lf (leafN s leaf) 2) = true ∧ scB b (t.lf (mateS s t (leafN s leaf)) 1) = true ∧ scB b (t.lf (mateS s t (leafN s leaf)) 2) = true) (h4 : ¬ chS b s = chS b t)
    (h5 : s.lf (leafN s leaf) 2 = t.lf (mateS s t (leafN s leaf)) 2) : secR b s t leaf = (0, 10) := by
  rw [shared_has h.2.1 h1] at h2
  unfold secR; grind
theorem sec_7 {b : Bas} {s t : Spend} {leaf : Int} (h : validB b = true ∧ okS s = true ∧ okS t = true) (h1 : ¬ (leaf < fromS s ∨ toS s ≤ leaf)) (h2 : leaf ∈ sharedL s t)
    (h3 : scB b (s.lf (leafN s leaf) 1) = true ∧ scB b (s.lf (leafN s leaf) 2) = true ∧ scB b (t.lf (mateS s t (leafN s leaf)) 1) = true ∧ scB b (t.lf (mateS s t (leafN s leaf)) 2) = true) (h4 : ¬ chS b s = chS b t)
    (h5 : ¬ s.lf (leafN s leaf) 2 = t.lf (mateS s t (leafN s leaf)) 2) : secR b s t leaf = ((s.lf (leafN s leaf) 1 - t.lf (mateS s t (leafN s leaf)) 1) % b.gr.q * invF ((s.lf (leafN s leaf) 2 - t.lf (mateS s t (leafN s leaf)) 2) % b.gr.q) b.gr.q % b.gr.q, 0) := by
  rw [shared_has h.2.1 h1] at h2
  unfold secR
  rw [if_neg (by simp [h]), if_neg h1, if_neg (by simp [h2]), if_neg (by simp [h3]), if_neg h4, if_neg h5]
theorem scB_t {b : Bas} {x : Int} (h : scB b x = true) : 0 ≤ x ∧ x < b.gr.q := by
  unfold scB at h
  simpa using h
theorem sub_q {x y q : Int} (hx : 0 ≤ x ∧ x < q) (hy : 0 ≤ y ∧ y < q) (hq : q < 2305843009213693952) : Int.tmod (IntKind.wrap .i64 (IntKind.wrap .i64 (x - y) + q)) q = (x - y) % q ∧ 0 ≤ (x - y) % q ∧ (x - y) % q < q := by
  rw [wI (n := x - y) (by omega) (by omega), wI (by omega) (by omega), tmod_nn (by omega), Int.add_emod_right]
  exact ⟨rfl, Int.emod_nonneg _ (by omega), Int.emod_lt_of_pos _ (by omega)⟩
theorem chS_of {b : Bas} {s : Spend} (h : validB b = true) (h' : okS s = true) : chalE b s.coin s.level s.index s.cxt = 0 ∧ chalK b s.coin s.level s.index s.cxt = chS b s :=
  have h2 := okS_all h'
  chal_3 h ⟨h2.1, h2.2.1⟩
theorem sharedL_len (s t : Spend) : (sharedL s t).length ≤ s.nl := by
  unfold sharedL
  split
  · exact Nat.zero_le _
  · exact sharedN_len _ _ _
theorem or4 {A B C D : Prop} (h : ((A ∨ B) ∨ C) ∨ D) : A ∨ B ∨ C ∨ D := by rcases h with ((h | h) | h) | h <;> simp [h]
theorem and4 {A B C D : Prop} (h : ((A ∧ B) ∧ C) ∧ D) : A ∧ B ∧ C ∧ D := ⟨h.1.1.1, h.1.1.2, h.1.2, h.2⟩
theorem sub_r {x y q : Int} (hx : 0 ≤ x ∧ x < q) (hy : 0 ≤ y ∧ y < q) (hq : q < 2305843009213693952) : Int.tmod (IntKind.wrap .i64 (IntKind.wrap .i64 (x + q) - y)) q = (x - y) % q ∧ 0 ≤ (x - y) % q ∧ (x - y) % q < q := by
  rw [wI (n := x + q) (by omega) (by omega), wI (by omega) (by omega), tmod_nn (by omega), show x + q - y = (x - y) + q by omega, Int.add_emod_right]
  exact ⟨rfl, Int.emod_nonneg _ (by omega), Int.emod_lt_of_pos _ (by omega)⟩
/-- The index of a leaf's partner. -/
def partI (s t : Spend) (i : Nat) : Int := if s.a = t.a then firstI (fun k => t.lf k 0 == s.lf i 0) t.nl 0 else -1
theorem part_has {s t : Spend} {leaf : Int} (h : okS s = true) (h1 : ¬ (leaf < fromS s ∨ toS s ≤ leaf)) : ¬ partI s t (leafN s leaf) < 0 ↔ leaf ∈ sharedL s t := by
  rw [shared_has h h1]
  unfold partI found
  by_cases ha : s.a = t.a
  · rw [if_pos ha]; simp [ha]
  · rw [if_neg ha]; simp [ha]
theorem part_mate {s t : Spend} {i : Nat} (h : ¬ partI s t i < 0) : partI s t i = mateS s t i ∧ mateS s t i < t.nl := by
  unfold partI at h ⊢
  by_cases ha : s.a = t.a
  · rw [if_pos ha] at h ⊢
    have := mate_lt (s := s) (t := t) (i := i) (decide_eq_true (by omega))
    exact ⟨this.2, this.1⟩
  · rw [if_neg ha] at h
    omega
theorem leaf_r {s : Spend} {leaf : Int} (h : okS s = true) (hl : leaf ≤ 9223372036854775807) : ((leaf < 0 ∨ IntKind.wrap .i64 (leaf - fromS s) < 0) ∨ IntKind.wrap .i64 (leaf - fromS s) ≥ s.nl) ↔ (leaf < fromS s ∨ toS s ≤ leaf) := by
  obtain ⟨_, _, _, _, hn⟩ := okS_all h
  have hb := fromS_bnd s
  by_cases h0 : leaf < 0
  · constructor
    · intro _; left; omega
    · intro _; left; left; exact h0
  · rw [wI (by omega) (by omega)]
    omega
theorem sec_k {s t : Spend} {leaf : Int} (h : okS s = true) (hl : leaf ≤ 9223372036854775807) (h6 : (¬ leaf < 0 ∧ ¬ IntKind.wrap .i64 (leaf - fromS s) < 0) ∧ ¬ IntKind.wrap .i64 (leaf - fromS s) ≥ s.nl)
    (h9 : ¬ partI s t (Int.toNat (IntKind.wrap .i64 (leaf - fromS s))) < 0) : ¬ (leaf < fromS s ∨ toS s ≤ leaf) ∧ leaf ∈ sharedL s t ∧ Int.toNat (IntKind.wrap .i64 (leaf - fromS s)) = leafN s leaf ∧
    Int.toNat (partI s t (leafN s leaf)) = mateS s t (leafN s leaf) ∧ 0 ≤ partI s t (leafN s leaf) ∧ partI s t (leafN s leaf) < t.nl := by
  have nl : ¬ (leaf < fromS s ∨ toS s ≤ leaf) := fun hh => by
    have := (leaf_r h hl).2 hh
    omega
  have e := (leaf_w h nl).2.2
  rw [e] at h9
  have pm := part_mate h9
  exact ⟨nl, (part_has h nl).1 h9, e, by rw [pm.1, Int.toNat_natCast], by omega, by omega⟩
/-- The chapter's example. -/
def exX : Spend := { Spend.zero with a := 8, nl := 1, lf := fun _ k => [4, 4, 9].getD k 0 }
def exY (n : Int) : Spend := { Spend.zero with a := 8, number := n, nl := 1, lf := fun _ k => [4, 6, 1].getD k 0 }
def exB : Bas := ⟨⟨23, 11, 4⟩, 2, 3, 6⟩
theorem exB_ok : validB exB = true := by decide +kernel
theorem exX_ok : okS exX = true := by decide +kernel
theorem exY_ok {n : Int} (h0 : 0 ≤ n) (h1 : n ≤ 1000) : okS (exY n) = true := by
  have e : okS (exY n) = (!(decide (n < 0) || decide (n > 1073741824))) := by
    unfold okS
    have a : spanE (exY n).depth (exY n).level (exY n).index = 0 := by show spanE 0 0 0 = 0; decide
    have c : spanZ (exY n).depth (exY n).level (exY n).index = 1 := by show spanZ 0 0 0 = 1; decide
    have d : spanA (exY n).depth (exY n).level (exY n).index = 0 := by show spanA 0 0 0 = 0; decide
    rw [a, c, d]
    rfl
  rw [e]
  simp; omega
theorem ex_by : exX.By := ⟨fun _ _ => by show (0 : Int) ≤ 0 ∧ (0 : Int) < 256; decide, fun _ _ => by show (0 : Int) ≤ 0 ∧ (0 : Int) < 256; decide⟩
theorem ey_by (n : Int) : (exY n).By := ⟨fun _ _ => by show (0 : Int) ≤ 0 ∧ (0 : Int) < 256; decide, fun _ _ => by show (0 : Int) ≤ 0 ∧ (0 : Int) < 256; decide⟩
theorem ex_shared (n : Int) : sharedL exX (exY n) = [0] := rfl
theorem ex_w : exB.gr.W := ⟨by decide, by decide⟩
theorem ex_secR {n : Int} (h0 : 0 ≤ n) (h1 : n ≤ 1000) (h : ¬ chS exB exX = chS exB (exY n)) : secR exB exX (exY n) 0 = (8, 0) := by
  have hf : fromS exX = 0 := by decide +kernel
  have ht : toS exX = 1 := by decide +kernel
  have hm : (0 : Int) ∈ sharedL exX (exY n) := by rw [ex_shared]; simp
  have hl : leafN exX 0 = 0 := by unfold leafN; rw [hf]; rfl
  have hk : mateS exX (exY n) 0 = 0 := rfl
  rw [sec_7 ⟨exB_ok, exX_ok, exY_ok h0 h1⟩ (by omega) hm (by rw [hl, hk]; exact ⟨rfl, rfl, rfl, rfl⟩) h (by rw [hl, hk]; show ¬ (9 : Int) = 1; decide), hl, hk]
  have hi : invF 8 11 = 7 := invF_eq (by decide) (by decide)
  show ((4 - 6 : Int) % 11 * invF ((9 - 1) % 11) 11 % 11, (0 : Int)) = (8, 0)
  rw [show ((9 - 1 : Int) % 11) = 8 by decide, hi]
  rfl
theorem exX_ent {os : List (Option Ob)} : EntL os (Spend.cw exX (.isl 3 1 fun r k => atL (List.getD [[.int .i64 4, .int .i64 4, .int .i64 9]] r []) k) .nsl) exX.cells :=
  cw_ent exX (Ent.rows fun i hi => by
    obtain rfl : i = 0 := Nat.lt_one_iff.1 hi
    rfl) Ent.nsl
theorem exY_ent {os : List (Option Ob)} (n : Int) : EntL os (Spend.cw (exY n) (.isl 3 1 fun r k => atL (List.getD [[.int .i64 4, .int .i64 6, .int .i64 1]] r []) k) .nsl) (exY n).cells :=
  cw_ent (exY n) (Ent.rows fun i hi => by
    obtain rfl : i = 0 := Nat.lt_one_iff.1 hi
    rfl) Ent.nsl
theorem few_nl {s t : Spend} (h : fewB s = true ∧ fewB t = true) : s.nl ≤ 1000 ∧ t.nl ≤ 1000 := by
  simp [fewB] at h
  omega
def sharedM (a b : Spend) (x : Nat) : List Int := ((List.range x).filter fun i => decide (partI a b i ≥ 0)).map fun (i : Nat) => fromS a + (i : Int)
theorem sharedM_t {a b : Spend} {x : Nat} (hx : x ≤ 1000) (h : partI a b x ≥ 0) : sharedM a b (x + 1) = sharedM a b x ++ [IntKind.wrap .i64 (fromS a + x)] := by
  have := fromS_bnd a
  rw [wI (by omega) (by omega)]
  simp [sharedM, List.range_succ, List.filter_append, h]
theorem sharedM_f {a b : Spend} {x : Nat} (h : ¬ partI a b x ≥ 0) : sharedM a b (x + 1) = sharedM a b x := by
  simp [sharedM, List.range_succ, List.filter_append, h]
theorem sharedM_lt {a b : Spend} {x : Nat} (hx : x ≤ 1000) (h : partI a b x ≥ 0) : (sharedM a b x).length + 1 = (sharedM a b (x + 1)).length := by rw [sharedM_t hx h]; simp
theorem sharedM_lf {a b : Spend} {x : Nat} (h : ¬ partI a b x ≥ 0) : (sharedM a b x).length = (sharedM a b (x + 1)).length := by rw [sharedM_f h]
theorem sharedM_len (a b : Spend) (x : Nat) : (sharedM a b x).length ≤ x := by
  unfold sharedM
  rw [List.length_map]
  have := List.length_filter_le (fun i => decide (partI a b i ≥ 0)) (List.range x)
  simpa using this
theorem sharedM_end {a b : Spend} {x : Nat} (h : okS a = true ∧ okS b = true) (hx : x = a.nl) : sharedM a b x = bif okS a && okS b then sharedL a b else [] := by
  subst hx
  rw [h.1, h.2]
  show sharedM a b a.nl = sharedL a b
  unfold sharedM sharedL sharedN
  by_cases e : a.a = b.a
  · rw [if_neg (by simp [e])]
    congr 1
    refine List.filter_congr fun i _ => ?_
    unfold partI found
    rw [if_pos e]
  · rw [if_pos e]
    have : (List.range a.nl).filter (fun i => decide (partI a b i ≥ 0)) = [] := List.filter_eq_nil_iff.2 fun i _ => by
      unfold partI
      rw [if_neg e]
      decide
    rw [this]
    rfl
theorem sharedM_same {os : List (Option Ob)} {a b : Spend} {x : Nat} (h : ¬ partI a b x ≥ 0) : ObEnt os ⟨1, (sharedM a b x).length, true, .fn (ilF .i64 (sharedM a b x))⟩ ⟨1, (sharedM a b (x + 1)).length, true, .fn (ilF .i64 (sharedM a b (x + 1)))⟩ := by
  rw [sharedM_f h]; exact .refl _
theorem not_ok2 {a b : Spend} (h : okS a = false ∨ okS b = false) : (okS a && okS b) = false := by rcases h with h | h <;> simp [h]
theorem yes_ok2 {a b : Spend} (h : okS a = true ∧ okS b = true) : (okS a && okS b) = true := by simp [h]
theorem shl_lt {a b : Spend} (h : a.nl ≤ 1000) : (bif okS a && okS b then sharedL a b else []).length < 9223372036854775808 := by
  have := sharedL_len a b
  cases okS a && okS b with
  | true => simp only [cond_true]; omega
  | false => simp
end Go.Sp

namespace Go.Proofs.YtmhipmiacghgeaaGreatDoor
open Go Go.Am Go.Sp
set_option maxRecDepth 100000

theorem chall_c (b : Bas) (c : Coin) (l i : Int) (x : Cxt) (hw : b.gr.W) (hr : byB c.root 32) (hp : byB x.payee 32) : Pure Tryz.prog gl0 59 [b.av, c.av, .agg [.int .i64 l, .int .i64 i], x.av] (.tup [.int .i64 (chalK b c l i x), .int .i64 (chalE b c l i x)]) := by
  have hc := fun h h' => chal_c b c l i x hr hp h h'
  have hx := context_c x
  have hv := bvalid_c b hw
  refine pure_sk (own := ow0) Tryz.func59 (by kernel_rfl) mixed (by kernel_rfl)
    (.sc (true) 35 ([AV.agg (Bas.cells b)]) (AV.bool (validB b)) (.br (!validB b) (.out (AV.tup [AV.int IntKind.i64 (0 : Int), AV.int IntKind.i64 (1 : Int)]) [] (AV.tup [AV.int IntKind.i64 (chalK b c l i x), AV.int IntKind.i64 (chalE b c l i x)]) []) (.sc (true) 44 ([AV.int IntKind.i64 c.4, AV.agg [AV.int IntKind.i64 l, AV.int IntKind.i64 i]]) (AV.bool (nodeB c.4 l i)) (.sc ((!nodeB c.4 l i) == false) 107 ([AV.agg (u8c x.1 ++ [AV.int IntKind.i64 x.2, AV.int IntKind.i64 x.3])]) (AV.bool (ctxB (Cxt.time x) (Cxt.number x))) (.br (!nodeB c.4 l i || !ctxB x.2 x.3) (.out (AV.tup [AV.int IntKind.i64 (0 : Int), AV.int IntKind.i64 (2 : Int)]) [] (AV.tup [AV.int IntKind.i64 (chalK b c l i x), AV.int IntKind.i64 (chalE b c l i x)]) []) (.sc (true) 108 ([AV.agg (Bas.cells b), AV.agg (Coin.cells c), AV.agg [AV.int IntKind.i64 l, AV.int IntKind.i64 i], AV.agg (u8c x.1 ++ [AV.int IntKind.i64 x.2, AV.int IntKind.i64 x.3])]) (AV.int IntKind.i64 (chalN (Grp.q (Bas.gr b)) c l i x)) (.out (AV.tup [AV.int IntKind.i64 (chalN (Bas.gr b).2 c l i x), AV.int IntKind.i64 (0 : Int)]) [] (AV.tup [AV.int IntKind.i64 (chalK b c l i x), AV.int IntKind.i64 (chalE b c l i x)]) [])))))))
    (by kernel_rfl) ?_
  refine k_sc (hv) ?_
  refine k_br (fun h1 => ?_) (fun h1 => ?_)
  · have g1 := (cnd_not_t cnd_id_f) h1
    exact k_out (Ent.of_eq (by rw [(chal_1 g1).1, (chal_1 g1).2]))
  · have g1 := (cnd_not_f cnd_id_t) h1
    refine k_sc (node_c (c.4) (l) (i)) ?_
    refine k_scg (fun h4 => hx) ?_
    refine k_br (fun h5 => ?_) (fun h5 => ?_)
    · have g5 := (cnd_or_t (cnd_not_t cnd_id_f) (cnd_not_t cnd_id_f)) h5
      exact k_out (Ent.of_eq (by rw [(chal_2 g1 g5).1, (chal_2 g1 g5).2]))
    · have g5 := (cnd_or_f (cnd_not_f cnd_id_t) (cnd_not_f cnd_id_t)) h5
      refine k_sc (hc ((validB_q g1).1) ((validB_q g1).2)) ?_
      exact k_out (Ent.of_eq (by rw [(chal_3 g1 g5).1, (chal_3 g1 g5).2]))

theorem indexN_c (l : List Int) (v : Int) (hn : l.length < 9223372036854775808) : Pure Tryz.prog gl0 104 [il .i64 l, .int .i64 v] (.int .i64 (firstI (fun i => l.getD i 0 == v) l.length 0)) := by
  refine pure_sk (own := ow0) Tryz.func104 (by kernel_rfl) mixed (by kernel_rfl)
    (.loop ({ x : Nat // x ≤ List.length l ∧ (fun (i : Nat) => firstI (fun (i : Nat) => List.getD l i (0 : Int) == v) (List.length l) (0 : Nat) = firstI (fun (i : Nat) => List.getD l i (0 : Int) == v) (List.length l - i) i) x }) (fun (x : { x : Nat // x ≤ List.length l ∧ (fun (i : Nat) => firstI (fun (i : Nat) => List.getD l i (0 : Int) == v) (List.length l) (0 : Nat) = firstI (fun (i : Nat) => List.getD l i (0 : Int) == v) (List.length l - i) i) x }) => mkSt [0, 1, 7, 8] [AV.isl (1) (List.length l) fun (i x : Nat) => AV.int IntKind.i64 (List.getD l i (0 : Int)), AV.int IntKind.i64 v, AV.int IntKind.i64 (↑(List.length l) : Int), AV.int IntKind.i64 (↑(Subtype.val x) : Int)] []) (fun (x : { x : Nat // x ≤ List.length l ∧ (fun (i : Nat) => firstI (fun (i : Nat) => List.getD l i (0 : Int) == v) (List.length l) (0 : Nat) = firstI (fun (i : Nat) => List.getD l i (0 : Int) == v) (List.length l - i) i) x }) => List.length l - Subtype.val x) (⟨(0 : Nat), ⟨Nat.zero_le (List.length l), rfl⟩⟩) ([0, 1, 7, 8]) ([]) ([AV.isl (1) (List.length l) fun (i x : Nat) => AV.int IntKind.i64 (List.getD l i (0 : Int)), AV.int IntKind.i64 v, AV.int IntKind.i64 (↑(List.length l) : Int), AV.int IntKind.i64 (0 : Int)]) ([]) (fun x0 => (.br (decide ((↑x0.1 : Int) < (↑(List.length l) : Int))) (.req ((0 : Int) ≤ (↑x0.1 : Int) ∧ (↑x0.1 : Int) < (↑(List.length l) : Int)) (.br (v == List.getD l (Int.toNat (↑x0.1 : Int)) (0 : Int)) (.out (AV.int IntKind.i64 (↑x0.1 : Int)) [] (AV.int IntKind.i64 (firstI (fun (i : Nat) => List.getD l i (0 : Int) == v) (List.length l) (0 : Nat))) []) (.again (Again (0) (fun (x : { x : Nat // x ≤ List.length l ∧ (fun (i : Nat) => firstI (fun (i : Nat) => List.getD l i (0 : Int) == v) (List.length l) (0 : Nat) = firstI (fun (i : Nat) => List.getD l i (0 : Int) == v) (List.length l - i) i) x }) => mkSt [0, 1, 7, 8] [AV.isl (1) (List.length l) fun (i x : Nat) => AV.int IntKind.i64 (List.getD l i (0 : Int)), AV.int IntKind.i64 v, AV.int IntKind.i64 (↑(List.length l) : Int), AV.int IntKind.i64 (↑(Subtype.val x) : Int)] []) (fun (x : { x : Nat // x ≤ List.length l ∧ (fun (i : Nat) => firstI (fun (i : Nat) => List.getD l i (0 : Int) == v) (List.length l) (0 : Nat) = firstI (fun (i : Nat) => List.getD l i (0 : Int) == v) (List.length l - i) i) x }) => List.length l - Subtype.val x) x0) ([0, 1, 7, 8]) ([]) ([AV.isl (1) (List.length l) fun (i x : Nat) => AV.int IntKind.i64 (List.getD l i (0 : Int)), AV.int IntKind.i64 v, AV.int IntKind.i64 (↑(List.length l) : Int), AV.int IntKind.i64 (IntKind.wrap IntKind.i64 ((↑x0.1 : Int) + (1 : Int)))]) ([])))) (.out (AV.int IntKind.i64 (-1 : Int)) [] (AV.int IntKind.i64 (firstI (fun (i : Nat) => List.getD l i (0 : Int) == v) (List.length l) (0 : Nat))) []))))
    (by kernel_rfl) ?_
  --LOOPINFO kept [0, 1, 7] changed [8] objects []
  refine k_loop (fun _ hs => hs.le (by repeat' (first | exact trivial | (first | exact Ent.refl _ | exact inc_ent (by omega) | exact Ent.nil rfl | exact Ent.of_eq (congrArg (AV.osl _ _ _) (by first | omega | (dsimp only; omega))) | exact Ent.of_eq (congrArg (AV.int _) (by first | omega | (dsimp only; omega)))) | refine And.intro ?_ ?_)) (trivial)) (fun x0 => ?_)
  try (have q0 := x0.2; dsimp only at q0)
  refine k_br (fun h1 => ?_) (fun h1 => ?_)
  · have g1 := cnd_dec_t h1
    refine k_req (by first | omega | (simp only [Int.toNat_natCast]; omega)) ?_
    refine k_br (fun h3 => ?_) (fun h3 => ?_)
    · have g3 := cnd_beq_t h3
      try simp only [Int.toNat_natCast] at g3
      exact k_out (Ent.of_eq (congrArg _ (first_hit x0.2.2 (by omega) (by simp only [beq_iff_eq]; exact g3.symm))))
    · have g3 := cnd_beq_f h3
      try simp only [Int.toNat_natCast] at g3
      exact k_again (⟨x0.1 + 1, by omega, first_next x0.2.2 (by omega) (by simp only [beq_eq_false_iff_ne]; exact fun e => g3 e.symm)⟩) (fun _ hs => hs.le (by repeat' (first | exact trivial | (first | exact Ent.refl _ | exact inc_ent (by omega) | exact Ent.nil rfl | exact Ent.of_eq (congrArg (AV.osl _ _ _) (by first | omega | (dsimp only; omega))) | exact Ent.of_eq (congrArg (AV.int _) (by first | omega | (dsimp only; omega)))) | refine And.intro ?_ ?_)) (trivial)) (by first | omega | (dsimp only; omega) | (simp; omega))
  · have g1 := cnd_dec_f h1
    exact k_out (Ent.of_eq (congrArg _ (first_miss x0.2.2 (by omega))))

theorem containsN_c (l : List Int) (v : Int) (hn : l.length < 9223372036854775808) : Pure Tryz.prog gl0 55 [il .i64 l, .int .i64 v] (.bool (decide (v ∈ l))) := by
  refine pure_sk (own := ow0) Tryz.func55 (by kernel_rfl) mixed (by kernel_rfl)
    (.sc (true) 104 ([AV.isl (1) (List.length l) fun (i x : Nat) => AV.int IntKind.i64 (List.getD l i (0 : Int)), AV.int IntKind.i64 v]) (AV.int IntKind.i64 (firstI (fun (i : Nat) => List.getD l i (0 : Int) == v) (List.length l) (0 : Nat))) (.out (AV.bool (decide (firstI (fun (i : Nat) => List.getD l i (0 : Int) == v) (List.length l) (0) ≥ (0 : Int)))) [] (AV.bool (decide (v ∈ l))) []))
    (by kernel_rfl) ?_
  refine k_sc (indexN_c (l) (v) (by first | assumption | omega)) ?_
  exact k_out (Ent.of_eq (congrArg _ first_mem))

theorem equalN_c (l : List Int) (hn : l.length < 9223372036854775808) : Pure Tryz.prog gl0 51 [il .i64 l, il .i64 l] (.bool true) := by
  refine pure_sk (own := ow0) Tryz.func51 (by kernel_rfl) mixed (by kernel_rfl)
    (.br ((↑(List.length l) : Int) != (↑(List.length l) : Int)) (.out (AV.bool false) [] (AV.bool true) []) (.loop ({ x : Nat // x ≤ List.length l }) (fun (x : { x : Nat // x ≤ List.length l }) => mkSt [0, 1, 12, 13] [AV.isl (1) (List.length l) fun (i x : Nat) => AV.int IntKind.i64 (List.getD l i (0 : Int)), AV.isl (1) (List.length l) fun (i x : Nat) => AV.int IntKind.i64 (List.getD l i (0 : Int)), AV.int IntKind.i64 (↑(List.length l) : Int), AV.int IntKind.i64 (↑(Subtype.val x) : Int)] []) (fun (x : { x : Nat // x ≤ List.length l }) => List.length l - Subtype.val x) (⟨(0 : Nat), Nat.zero_le (List.length l)⟩) ([0, 1, 12, 13]) ([]) ([AV.isl (1) (List.length l) fun (i x : Nat) => AV.int IntKind.i64 (List.getD l i (0 : Int)), AV.isl (1) (List.length l) fun (i x : Nat) => AV.int IntKind.i64 (List.getD l i (0 : Int)), AV.int IntKind.i64 (↑(List.length l) : Int), AV.int IntKind.i64 (0 : Int)]) ([]) (fun x2 => (.br (decide ((↑x2.1 : Int) < (↑(List.length l) : Int))) (.req ((0 : Int) ≤ (↑x2.1 : Int) ∧ (↑x2.1 : Int) < (↑(List.length l) : Int)) (.req ((0 : Int) ≤ (↑x2.1 : Int) ∧ (↑x2.1 : Int) < (↑(List.length l) : Int)) (.br (List.getD l (Int.toNat (↑x2.1 : Int)) (0 : Int) != List.getD l (Int.toNat (↑x2.1 : Int)) (0 : Int)) (.out (AV.bool false) [] (AV.bool true) []) (.again (Again (0) (fun (x : { x : Nat // x ≤ List.length l }) => mkSt [0, 1, 12, 13] [AV.isl (1) (List.length l) fun (i x : Nat) => AV.int IntKind.i64 (List.getD l i (0 : Int)), AV.isl (1) (List.length l) fun (i x : Nat) => AV.int IntKind.i64 (List.getD l i (0 : Int)), AV.int IntKind.i64 (↑(List.length l) : Int), AV.int IntKind.i64 (↑(Subtype.val x) : Int)] []) (fun (x : { x : Nat // x ≤ List.length l }) => List.length l - Subtype.val x) x2) ([0, 1, 12, 13]) ([]) ([AV.isl (1) (List.length l) fun (i x : Nat) => AV.int IntKind.i64 (List.getD l i (0 : Int)), AV.isl (1) (List.length l) fun (i x : Nat) => AV.int IntKind.i64 (List.getD l i (0 : Int)), AV.int IntKind.i64 (↑(List.length l) : Int), AV.int IntKind.i64 (IntKind.wrap IntKind.i64 ((↑x2.1 : Int) + (1 : Int)))]) ([]))))) (.out (AV.bool true) [] (AV.bool true) [])))))
    (by kernel_rfl) ?_
  refine k_br (fun h0 => ?_) (fun h0 => ?_)
  · have g0 := cnd_bne_t h0
    exact k_out (Ent.of_eq (by first | rfl | simp_all))
  · have g0 := cnd_bne_f h0
    --LOOPINFO kept [0, 1, 12] changed [13] objects []
    refine k_loop (fun _ hs => hs.le (by repeat' (first | exact trivial | (first | exact Ent.refl _ | exact inc_ent (by omega) | exact Ent.nil rfl | exact Ent.of_eq (congrArg (AV.osl _ _ _) (by first | omega | (dsimp only; omega))) | exact Ent.of_eq (congrArg (AV.int _) (by first | omega | (dsimp only; omega)))) | refine And.intro ?_ ?_)) (trivial)) (fun x2 => ?_)
    try (have q2 := x2.2; dsimp only at q2)
    refine k_br (fun h3 => ?_) (fun h3 => ?_)
    · have g3 := cnd_dec_t h3
      refine k_req (by first | omega | (simp only [Int.toNat_natCast]; omega)) ?_
      refine k_req (by first | omega | (simp only [Int.toNat_natCast]; omega)) ?_
      refine k_br (fun h6 => ?_) (fun h6 => ?_)
      · have g6 := cnd_bne_t h6
        try simp only [Int.toNat_natCast] at g6
        exact k_out (Ent.of_eq (by first | rfl | simp_all))
      · have g6 := cnd_bne_f h6
        try simp only [Int.toNat_natCast] at g6
        exact k_again (⟨x2.1 + 1, by omega⟩) (fun _ hs => hs.le (by repeat' (first | exact trivial | (first | exact Ent.refl _ | exact inc_ent (by omega) | exact Ent.nil rfl | exact Ent.of_eq (congrArg (AV.osl _ _ _) (by first | omega | (dsimp only; omega))) | exact Ent.of_eq (congrArg (AV.int _) (by first | omega | (dsimp only; omega)))) | refine And.intro ?_ ?_)) (trivial)) (by first | omega | (dsimp only; omega) | (simp; omega))
    · have g3 := cnd_dec_f h3
      exact k_out (Ent.of_eq (by first | rfl | simp_all))

theorem xscalar_c (b : Bas) (x : Int) : Pure Tryz.prog gl0 58 [b.av, .int .i64 x] (.bool (scB b x)) := by
  refine pure_sk (own := ow0) Tryz.func58 (by kernel_rfl) mixed (by kernel_rfl)
    (.out (AV.bool (decide (x ≥ (0 : Int)) && decide (x < (Bas.gr b).2))) [] (AV.bool (scB b x)) [])
    (by kernel_rfl) ?_
  exact k_out (Ent.refl _)

theorem r33scalar_c (b : Bas) (x : Int) : Pure Tryz.prog gl0 65 [b.gr.av, .int .i64 x] (.bool (scB b x)) := by
  refine pure_sk (own := ow0) Tryz.func65 (by kernel_rfl) mixed (by kernel_rfl)
    (.out (AV.bool (decide (x ≥ (0 : Int)) && decide (x < (Bas.gr b).2))) [] (AV.bool (scB b x)) [])
    (by kernel_rfl) ?_
  exact k_out (Ent.refl _)

theorem xspan_f (s : Spend) : Pure Tryz.prog gl0 54 [s.av] (.tup [.int .i64 (fromS s), .int .i64 (toS s), .bool (okS s)]) := xspan_c s

theorem secret_c (b : Bas) (s t : Spend) (leaf : Int) (hw : b.gr.W) (hs : s.nl ≤ 1000) (ht : t.nl ≤ 1000) (bs : s.By) (bt : t.By) : Pure Tryz.prog gl0 19 [b.av, s.av, t.av, .int .i64 leaf] (.tup [.int .i64 (secR b s t leaf).1, .int .i64 (secR b s t leaf).2]) := by
  have c1 := bvalid_c b hw
  have c2 := formed2_c s t
  have c3 := chall_c b s.coin s.level s.index s.cxt hw bs.root bs.payee
  have c4 := chall_c b t.coin t.level t.index t.cxt hw bt.root bt.payee
  have c5 := xspan_f s
  have c6 := shared_c s t hs ht
  have c7 := fun v h => containsN_c (sharedL s t) v h
  have c8 := find_c t
  have c9 := xscalar_c b
  have sl := sharedL_len s t
  have L := fun h h' => leaf_w (s := s) (leaf := leaf) h h'
  have hq := fun h => validB_q (b := b) h
  have k1 := fun h h' => chS_of (b := b) (s := s) h h'
  have k2 := fun h h' => chS_of (b := b) (s := t) h h'
  refine pure_sk (own := ow0) Tryz.func19 (by kernel_rfl) mixed (by kernel_rfl)
    (.sc (true) 35 ([AV.agg (Bas.cells b)]) (AV.bool (validB b)) (.sc ((!validB b) == false) 53 ([AV.isl (80) (2) fun (r k : Nat) => atL (List.getD [Spend.cells s, Spend.cells t] (r + 0) []) k]) (AV.bool (okS s && okS t)) (.br (!validB b || !(okS s && okS t)) (.out (AV.tup [AV.int IntKind.i64 (0 : Int), AV.int IntKind.i64 (1 : Int)]) [] (AV.tup [AV.int IntKind.i64 (Prod.fst (secR b s t leaf)), AV.int IntKind.i64 (Prod.snd (secR b s t leaf))]) []) (.sc (true) 54 ([AV.agg (Spend.cells s)]) (AV.tup [AV.int IntKind.i64 (fromS s), AV.int IntKind.i64 (toS s), AV.bool (okS s)]) (.br (decide (leaf < fromS s) || decide (leaf ≥ toS s)) (.out (AV.tup [AV.int IntKind.i64 (0 : Int), AV.int IntKind.i64 (2 : Int)]) [] (AV.tup [AV.int IntKind.i64 (Prod.fst (secR b s t leaf)), AV.int IntKind.i64 (Prod.snd (secR b s t leaf))]) []) (.dc (true) 56 ([AV.agg (Spend.cells s), AV.agg (Spend.cells t)]) (il IntKind.i64 (sharedL s t)) (.sc (true) 55 ([AV.isl (1) (List.length (sharedL s t)) fun (i x : Nat) => AV.int IntKind.i64 (List.getD (sharedL s t) i (0 : Int)), AV.int IntKind.i64 leaf]) (AV.bool (decide (leaf ∈ sharedL s t))) (.br (!decide (leaf ∈ sharedL s t)) (.out (AV.tup [AV.int IntKind.i64 (0 : Int), AV.int IntKind.i64 (7 : Int)]) [] (AV.tup [AV.int IntKind.i64 (Prod.fst (secR b s t leaf)), AV.int IntKind.i64 (Prod.snd (secR b s t leaf))]) []) (.req ((0 : Int) ≤ IntKind.wrap IntKind.i64 (leaf - fromS s) ∧ IntKind.wrap IntKind.i64 (leaf - fromS s) < (↑s.16 : Int)) (.sc (true) 57 ([AV.agg (Spend.cells t), AV.int IntKind.i64 (s.17 (Int.toNat (IntKind.wrap IntKind.i64 (leaf - fromS s))) (0))]) (AV.int IntKind.i64 (firstI (fun (i : Nat) => Spend.lf t i (0 : Nat) == s.17 (Int.toNat (IntKind.wrap IntKind.i64 (leaf - fromS s))) (0)) (Spend.nl t) (0 : Nat))) (.req ((0 : Int) ≤ firstI (fun (i : Nat) => t.17 i (0) == s.17 (Int.toNat (IntKind.wrap IntKind.i64 (leaf - fromS s))) (0)) t.16 (0) ∧ firstI (fun (i : Nat) => t.17 i (0) == s.17 (Int.toNat (IntKind.wrap IntKind.i64 (leaf - fromS s))) (0)) t.16 (0) < (↑t.16 : Int)) (.sc (true) 58 ([AV.agg (Bas.cells b), AV.int IntKind.i64 (s.17 (Int.toNat (IntKind.wrap IntKind.i64 (leaf - fromS s))) (1))]) (AV.bool (scB b (s.17 (Int.toNat (IntKind.wrap IntKind.i64 (leaf - fromS s))) (1)))) (.sc ((!scB b (s.17 (Int.toNat (IntKind.wrap IntKind.i64 (leaf - fromS s))) (1))) == false) 58 ([AV.agg (Bas.cells b), AV.int IntKind.i64 (s.17 (Int.toNat (IntKind.wrap IntKind.i64 (leaf - fromS s))) (2))]) (AV.bool (scB b (s.17 (Int.toNat (IntKind.wrap IntKind.i64 (leaf - fromS s))) (2)))) (.sc ((!scB b (s.17 (Int.toNat (IntKind.wrap IntKind.i64 (leaf - fromS s))) (1)) || !scB b (s.17 (Int.toNat (IntKind.wrap IntKind.i64 (leaf - fromS s))) (2))) == false) 58 ([AV.agg (Bas.cells b), AV.int IntKind.i64 (t.17 (Int.toNat (firstI (fun (i : Nat) => t.17 i (0) == s.17 (Int.toNat (IntKind.wrap IntKind.i64 (leaf - fromS s))) (0)) t.16 (0))) (1))]) (AV.bool (scB b (t.17 (Int.toNat (firstI (fun (i : Nat) => t.17 i (0) == s.17 (Int.toNat (IntKind.wrap IntKind.i64 (leaf - fromS s))) (0)) t.16 (0))) (1)))) (.sc ((!scB b (s.17 (Int.toNat (IntKind.wrap IntKind.i64 (leaf - fromS s))) (1)) || !scB b (s.17 (Int.toNat (IntKind.wrap IntKind.i64 (leaf - fromS s))) (2)) || !scB b (t.17 (Int.toNat (firstI (fun (i : Nat) => t.17 i (0) == s.17 (Int.toNat (IntKind.wrap IntKind.i64 (leaf - fromS s))) (0)) t.16 (0))) (1))) == false) 58 ([AV.agg (Bas.cells b), AV.int IntKind.i64 (t.17 (Int.toNat (firstI (fun (i : Nat) => t.17 i (0) == s.17 (Int.toNat (IntKind.wrap IntKind.i64 (leaf - fromS s))) (0)) t.16 (0))) (2))]) (AV.bool (scB b (t.17 (Int.toNat (firstI (fun (i : Nat) => t.17 i (0) == s.17 (Int.toNat (IntKind.wrap IntKind.i64 (leaf - fromS s))) (0)) t.16 (0))) (2)))) (.br (!scB b (s.17 (Int.toNat (IntKind.wrap IntKind.i64 (leaf - fromS s))) (1)) || !scB b (s.17 (Int.toNat (IntKind.wrap IntKind.i64 (leaf - fromS s))) (2)) || !scB b (t.17 (Int.toNat (firstI (fun (i : Nat) => t.17 i (0) == s.17 (Int.toNat (IntKind.wrap IntKind.i64 (leaf - fromS s))) (0)) t.16 (0))) (1)) || !scB b (t.17 (Int.toNat (firstI (fun (i : Nat) => t.17 i (0) == s.17 (Int.toNat (IntKind.wrap IntKind.i64 (leaf - fromS s))) (0)) t.16 (0))) (2))) (.out (AV.tup [AV.int IntKind.i64 (0 : Int), AV.int IntKind.i64 (2 : Int)]) [] (AV.tup [AV.int IntKind.i64 (Prod.fst (secR b s t leaf)), AV.int IntKind.i64 (Prod.snd (secR b s t leaf))]) []) (.sc (true) 59 ([AV.agg (Bas.cells b), AV.agg (AV.int IntKind.i64 s.1 :: AV.int IntKind.i64 s.2 :: AV.int IntKind.i64 s.3 :: AV.int IntKind.i64 s.4 :: AV.int IntKind.i64 s.5 :: (u8c s.6 ++ [AV.int IntKind.i64 s.7, AV.int IntKind.i64 s.8, AV.int IntKind.i64 s.9, AV.int IntKind.i64 s.10])), AV.agg [AV.int IntKind.i64 s.11, AV.int IntKind.i64 s.12], AV.agg (u8c s.13 ++ [AV.int IntKind.i64 s.14, AV.int IntKind.i64 s.15])]) (AV.tup [AV.int IntKind.i64 (chalK b (Spend.coin s) (Spend.level s) (Spend.index s) (Spend.cxt s)), AV.int IntKind.i64 (chalE b (Spend.coin s) (Spend.level s) (Spend.index s) (Spend.cxt s))]) (.sc (true) 59 ([AV.agg (Bas.cells b), AV.agg (AV.int IntKind.i64 t.1 :: AV.int IntKind.i64 t.2 :: AV.int IntKind.i64 t.3 :: AV.int IntKind.i64 t.4 :: AV.int IntKind.i64 t.5 :: (u8c t.6 ++ [AV.int IntKind.i64 t.7, AV.int IntKind.i64 t.8, AV.int IntKind.i64 t.9, AV.int IntKind.i64 t.10])), AV.agg [AV.int IntKind.i64 t.11, AV.int IntKind.i64 t.12], AV.agg (u8c t.13 ++ [AV.int IntKind.i64 t.14, AV.int IntKind.i64 t.15])]) (AV.tup [AV.int IntKind.i64 (chalK b (Spend.coin t) (Spend.level t) (Spend.index t) (Spend.cxt t)), AV.int IntKind.i64 (chalE b (Spend.coin t) (Spend.level t) (Spend.index t) (Spend.cxt t))]) (.br (chalE b (Spend.coin s) s.11 s.12 (Spend.cxt s) != (0 : Int)) (.out (AV.tup [AV.int IntKind.i64 (0 : Int), AV.int IntKind.i64 (chalE b (Spend.coin s) s.11 s.12 (Spend.cxt s))]) [] (AV.tup [AV.int IntKind.i64 (Prod.fst (secR b s t leaf)), AV.int IntKind.i64 (Prod.snd (secR b s t leaf))]) []) (.br (chalE b (Spend.coin t) t.11 t.12 (Spend.cxt t) != (0 : Int)) (.out (AV.tup [AV.int IntKind.i64 (0 : Int), AV.int IntKind.i64 (chalE b (Spend.coin t) t.11 t.12 (Spend.cxt t))]) [] (AV.tup [AV.int IntKind.i64 (Prod.fst (secR b s t leaf)), AV.int IntKind.i64 (Prod.snd (secR b s t leaf))]) []) (.br (chalK b (Spend.coin s) s.11 s.12 (Spend.cxt s) == chalK b (Spend.coin t) t.11 t.12 (Spend.cxt t)) (.out (AV.tup [AV.int IntKind.i64 (0 : Int), AV.int IntKind.i64 (20 : Int)]) [] (AV.tup [AV.int IntKind.i64 (Prod.fst (secR b s t leaf)), AV.int IntKind.i64 (Prod.snd (secR b s t leaf))]) []) (.br (s.17 (Int.toNat (IntKind.wrap IntKind.i64 (leaf - fromS s))) (2) == t.17 (Int.toNat (firstI (fun (i : Nat) => t.17 i (0) == s.17 (Int.toNat (IntKind.wrap IntKind.i64 (leaf - fromS s))) (0)) t.16 (0))) (2)) (.out (AV.tup [AV.int IntKind.i64 (0 : Int), AV.int IntKind.i64 (10 : Int)]) [] (AV.tup [AV.int IntKind.i64 (Prod.fst (secR b s t leaf)), AV.int IntKind.i64 (Prod.snd (secR b s t leaf))]) []) (.req ((Bas.gr b).2 ≠ (0 : Int)) (.sc (true) 60 ([AV.int IntKind.i64 (Int.tmod (IntKind.wrap IntKind.i64 (IntKind.wrap IntKind.i64 (s.17 (Int.toNat (IntKind.wrap IntKind.i64 (leaf - fromS s))) (2) - t.17 (Int.toNat (firstI (fun (i : Nat) => t.17 i (0) == s.17 (Int.toNat (IntKind.wrap IntKind.i64 (leaf - fromS s))) (0)) t.16 (0))) (2)) + (Bas.gr b).2)) (Bas.gr b).2), AV.int IntKind.i64 (Bas.gr b).2]) (AV.tup [AV.int IntKind.i64 (invF (Int.tmod (IntKind.wrap IntKind.i64 (IntKind.wrap IntKind.i64 (s.17 (Int.toNat (IntKind.wrap IntKind.i64 (leaf - fromS s))) (2) - t.17 (Int.toNat (firstI (fun (i : Nat) => t.17 i (0) == s.17 (Int.toNat (IntKind.wrap IntKind.i64 (leaf - fromS s))) (0)) t.16 (0))) (2)) + (Bas.gr b).2)) (Bas.gr b).2) (Bas.gr b).2), AV.int IntKind.i64 (if Int.gcd (Int.tmod (IntKind.wrap IntKind.i64 (IntKind.wrap IntKind.i64 (s.17 (Int.toNat (IntKind.wrap IntKind.i64 (leaf - fromS s))) (2) - t.17 (Int.toNat (firstI (fun (i : Nat) => t.17 i (0) == s.17 (Int.toNat (IntKind.wrap IntKind.i64 (leaf - fromS s))) (0)) t.16 (0))) (2)) + (Bas.gr b).2)) (Bas.gr b).2) (Bas.gr b).2 = (1 : Nat) then (0 : Int) else (10 : Int))]) (.req ((Bas.gr b).2 ≠ (0 : Int)) (.sc (true) 61 ([AV.int IntKind.i64 (Int.tmod (IntKind.wrap IntKind.i64 (IntKind.wrap IntKind.i64 (s.17 (Int.toNat (IntKind.wrap IntKind.i64 (leaf - fromS s))) (1) - t.17 (Int.toNat (firstI (fun (i : Nat) => t.17 i (0) == s.17 (Int.toNat (IntKind.wrap IntKind.i64 (leaf - fromS s))) (0)) t.16 (0))) (1)) + (Bas.gr b).2)) (Bas.gr b).2), AV.int IntKind.i64 (invF (Int.tmod (IntKind.wrap IntKind.i64 (IntKind.wrap IntKind.i64 (s.17 (Int.toNat (IntKind.wrap IntKind.i64 (leaf - fromS s))) (2) - t.17 (Int.toNat (firstI (fun (i : Nat) => t.17 i (0) == s.17 (Int.toNat (IntKind.wrap IntKind.i64 (leaf - fromS s))) (0)) t.16 (0))) (2)) + (Bas.gr b).2)) (Bas.gr b).2) (Bas.gr b).2), AV.int IntKind.i64 (Bas.gr b).2]) (AV.tup [AV.int IntKind.i64 (okv (chkI (Int.tmod (IntKind.wrap IntKind.i64 (IntKind.wrap IntKind.i64 (s.17 (Int.toNat (IntKind.wrap IntKind.i64 (leaf - fromS s))) (1) - t.17 (Int.toNat (firstI (fun (i : Nat) => t.17 i (0) == s.17 (Int.toNat (IntKind.wrap IntKind.i64 (leaf - fromS s))) (0)) t.16 (0))) (1)) + (Bas.gr b).2)) (Bas.gr b).2) (invF (Int.tmod (IntKind.wrap IntKind.i64 (IntKind.wrap IntKind.i64 (s.17 (Int.toNat (IntKind.wrap IntKind.i64 (leaf - fromS s))) (2) - t.17 (Int.toNat (firstI (fun (i : Nat) => t.17 i (0) == s.17 (Int.toNat (IntKind.wrap IntKind.i64 (leaf - fromS s))) (0)) t.16 (0))) (2)) + (Bas.gr b).2)) (Bas.gr b).2) (Bas.gr b).2) (Bas.gr b).2) (Int.tmod (IntKind.wrap IntKind.i64 (IntKind.wrap IntKind.i64 (s.17 (Int.toNat (IntKind.wrap IntKind.i64 (leaf - fromS s))) (1) - t.17 (Int.toNat (firstI (fun (i : Nat) => t.17 i (0) == s.17 (Int.toNat (IntKind.wrap IntKind.i64 (leaf - fromS s))) (0)) t.16 (0))) (1)) + (Bas.gr b).2)) (Bas.gr b).2 * invF (Int.tmod (IntKind.wrap IntKind.i64 (IntKind.wrap IntKind.i64 (s.17 (Int.toNat (IntKind.wrap IntKind.i64 (leaf - fromS s))) (2) - t.17 (Int.toNat (firstI (fun (i : Nat) => t.17 i (0) == s.17 (Int.toNat (IntKind.wrap IntKind.i64 (leaf - fromS s))) (0)) t.16 (0))) (2)) + (Bas.gr b).2)) (Bas.gr b).2) (Bas.gr b).2 % (Bas.gr b).2)), AV.int IntKind.i64 (chkI (Int.tmod (IntKind.wrap IntKind.i64 (IntKind.wrap IntKind.i64 (s.17 (Int.toNat (IntKind.wrap IntKind.i64 (leaf - fromS s))) (1) - t.17 (Int.toNat (firstI (fun (i : Nat) => t.17 i (0) == s.17 (Int.toNat (IntKind.wrap IntKind.i64 (leaf - fromS s))) (0)) t.16 (0))) (1)) + (Bas.gr b).2)) (Bas.gr b).2) (invF (Int.tmod (IntKind.wrap IntKind.i64 (IntKind.wrap IntKind.i64 (s.17 (Int.toNat (IntKind.wrap IntKind.i64 (leaf - fromS s))) (2) - t.17 (Int.toNat (firstI (fun (i : Nat) => t.17 i (0) == s.17 (Int.toNat (IntKind.wrap IntKind.i64 (leaf - fromS s))) (0)) t.16 (0))) (2)) + (Bas.gr b).2)) (Bas.gr b).2) (Bas.gr b).2) (Bas.gr b).2)]) (.out (AV.tup [AV.int IntKind.i64 (okv (chkI (Int.tmod (IntKind.wrap IntKind.i64 (IntKind.wrap IntKind.i64 (s.17 (Int.toNat (IntKind.wrap IntKind.i64 (leaf - fromS s))) (1) - t.17 (Int.toNat (firstI (fun (i : Nat) => t.17 i (0) == s.17 (Int.toNat (IntKind.wrap IntKind.i64 (leaf - fromS s))) (0)) t.16 (0))) (1)) + (Bas.gr b).2)) (Bas.gr b).2) (invF (Int.tmod (IntKind.wrap IntKind.i64 (IntKind.wrap IntKind.i64 (s.17 (Int.toNat (IntKind.wrap IntKind.i64 (leaf - fromS s))) (2) - t.17 (Int.toNat (firstI (fun (i : Nat) => t.17 i (0) == s.17 (Int.toNat (IntKind.wrap IntKind.i64 (leaf - fromS s))) (0)) t.16 (0))) (2)) + (Bas.gr b).2)) (Bas.gr b).2) (Bas.gr b).2) (Bas.gr b).2) (Int.tmod (IntKind.wrap IntKind.i64 (IntKind.wrap IntKind.i64 (s.17 (Int.toNat (IntKind.wrap IntKind.i64 (leaf - fromS s))) (1) - t.17 (Int.toNat (firstI (fun (i : Nat) => t.17 i (0) == s.17 (Int.toNat (IntKind.wrap IntKind.i64 (leaf - fromS s))) (0)) t.16 (0))) (1)) + (Bas.gr b).2)) (Bas.gr b).2 * invF (Int.tmod (IntKind.wrap IntKind.i64 (IntKind.wrap IntKind.i64 (s.17 (Int.toNat (IntKind.wrap IntKind.i64 (leaf - fromS s))) (2) - t.17 (Int.toNat (firstI (fun (i : Nat) => t.17 i (0) == s.17 (Int.toNat (IntKind.wrap IntKind.i64 (leaf - fromS s))) (0)) t.16 (0))) (2)) + (Bas.gr b).2)) (Bas.gr b).2) (Bas.gr b).2 % (Bas.gr b).2)), AV.int IntKind.i64 (0 : Int)]) [] (AV.tup [AV.int IntKind.i64 (Prod.fst (secR b s t leaf)), AV.int IntKind.i64 (Prod.snd (secR b s t leaf))]) [])))))))))))))))))))))))))))
    (by kernel_rfl) ?_
  refine k_sc (c1) ?_
  refine k_scg (fun h1 => c2) ?_
  refine k_br (fun h2 => ?_) (fun h2 => ?_)
  · have g2 := (cnd_or_t (cnd_not_t cnd_id_f) (cnd_not_t (cnd_and_f cnd_id_f cnd_id_f))) h2
    exact k_out (Ent.of_eq (by rw [sec_1 g2]))
  · have g2 := (cnd_or_f (cnd_not_f cnd_id_t) (cnd_not_f (cnd_and_t cnd_id_t cnd_id_t))) h2
    refine k_sc (c5) ?_
    refine k_br (fun h5 => ?_) (fun h5 => ?_)
    · have g5 := (cnd_or_t cnd_dec_t cnd_dec_t) h5
      exact k_out (Ent.of_eq (by rw [sec_2 g2 g5]))
    · have g5 := (cnd_or_f cnd_dec_f cnd_dec_f) h5
      refine k_dc (c6) ?_
      refine k_sc (c7 (leaf) (by first | assumption | omega)) ?_
      refine k_br (fun h9 => ?_) (fun h9 => ?_)
      · have g9 := (cnd_not_t cnd_dec_f) h9
        exact k_out (Ent.of_eq (by rw [sec_3 g2 (by omega) g9]))
      · have g9 := (cnd_not_f cnd_dec_t) h9
        refine k_req (⟨(L g2.2.1 (by omega)).1, (L g2.2.1 (by omega)).2.1⟩) ?_
        refine k_sc (c8 (s.17 (Int.toNat (IntKind.wrap IntKind.i64 (leaf - fromS s))) (0)) (by first | assumption | omega)) ?_
        refine k_req (by have m := mate_lt ((shared_has g2.2.1 (by omega)).1 g9).2; rw [(L g2.2.1 (by omega)).2.2, m.2]; omega) ?_
        refine k_sc (c9 (s.17 (Int.toNat (IntKind.wrap IntKind.i64 (leaf - fromS s))) (1))) ?_
        refine k_scg (fun h15 => c9 (s.17 (Int.toNat (IntKind.wrap IntKind.i64 (leaf - fromS s))) (2))) ?_
        refine k_scg (fun h16 => c9 (t.17 (Int.toNat (firstI (fun (i : Nat) => t.17 i (0) == s.17 (Int.toNat (IntKind.wrap IntKind.i64 (leaf - fromS s))) (0)) t.16 (0))) (1))) ?_
        refine k_scg (fun h17 => c9 (t.17 (Int.toNat (firstI (fun (i : Nat) => t.17 i (0) == s.17 (Int.toNat (IntKind.wrap IntKind.i64 (leaf - fromS s))) (0)) t.16 (0))) (2))) ?_
        refine k_br (fun h18 => ?_) (fun h18 => ?_)
        · have g18 := (cnd_or_t (cnd_or_t (cnd_or_t (cnd_not_t cnd_id_f) (cnd_not_t cnd_id_f)) (cnd_not_t cnd_id_f)) (cnd_not_t cnd_id_f)) h18
          exact k_out (by rw [(L g2.2.1 (by omega)).2.2] at g18; exact Ent.of_eq (by rw [sec_4 g2 (by omega) g9 (or4 g18)]))
        · have g18 := (cnd_or_f (cnd_or_f (cnd_or_f (cnd_not_f cnd_id_t) (cnd_not_f cnd_id_t)) (cnd_not_f cnd_id_t)) (cnd_not_f cnd_id_t)) h18
          refine k_sc (c3) ?_
          refine k_sc (c4) ?_
          refine k_br (fun h22 => ?_) (fun h22 => ?_)
          · have g22 := cnd_bne_t h22
            exact k_out ((by exfalso; exact g22 (k1 g2.1 g2.2.1).1))
          · have g22 := cnd_bne_f h22
            refine k_br (fun h24 => ?_) (fun h24 => ?_)
            · have g24 := cnd_bne_t h24
              exact k_out ((by exfalso; exact g24 (k2 g2.1 g2.2.2).1))
            · have g24 := cnd_bne_f h24
              refine k_br (fun h26 => ?_) (fun h26 => ?_)
              · have g26 := cnd_beq_t h26
                exact k_out (by rw [(L g2.2.1 (by omega)).2.2] at g18; rw [(k1 g2.1 g2.2.1).2, (k2 g2.1 g2.2.2).2] at g26; exact Ent.of_eq (by rw [sec_5 g2 (by omega) g9 (and4 g18) g26]))
              · have g26 := cnd_beq_f h26
                refine k_br (fun h28 => ?_) (fun h28 => ?_)
                · have g28 := cnd_beq_t h28
                  exact k_out (by rw [(L g2.2.1 (by omega)).2.2] at g18 g28; rw [(k1 g2.1 g2.2.1).2, (k2 g2.1 g2.2.2).2] at g26; exact Ent.of_eq (by rw [sec_6 g2 (by omega) g9 (and4 g18) g26 g28]))
                · have g28 := cnd_beq_f h28
                  refine k_req (by have := hq g2.1; omega) ?_
                  refine k_sc (winv_c (Int.tmod (IntKind.wrap IntKind.i64 (IntKind.wrap IntKind.i64 (s.17 (Int.toNat (IntKind.wrap IntKind.i64 (leaf - fromS s))) (2) - t.17 (Int.toNat (firstI (fun (i : Nat) => t.17 i (0) == s.17 (Int.toNat (IntKind.wrap IntKind.i64 (leaf - fromS s))) (0)) t.16 (0))) (2)) + (Bas.gr b).2)) (Bas.gr b).2) ((Bas.gr b).2) (by have u := sub_q (scB_t g18.1.1.2) (scB_t g18.2) (hq g2.1).2; rw [u.1]; exact u.2.1) (by have u := sub_q (scB_t g18.1.1.2) (scB_t g18.2) (hq g2.1).2; rw [u.1]; exact u.2.2) ((hq g2.1).2)) ?_
                  refine k_req (by have := hq g2.1; omega) ?_
                  refine k_sc (wmul_c (Int.tmod (IntKind.wrap IntKind.i64 (IntKind.wrap IntKind.i64 (s.17 (Int.toNat (IntKind.wrap IntKind.i64 (leaf - fromS s))) (1) - t.17 (Int.toNat (firstI (fun (i : Nat) => t.17 i (0) == s.17 (Int.toNat (IntKind.wrap IntKind.i64 (leaf - fromS s))) (0)) t.16 (0))) (1)) + (Bas.gr b).2)) (Bas.gr b).2) (invF (Int.tmod (IntKind.wrap IntKind.i64 (IntKind.wrap IntKind.i64 (s.17 (Int.toNat (IntKind.wrap IntKind.i64 (leaf - fromS s))) (2) - t.17 (Int.toNat (firstI (fun (i : Nat) => t.17 i (0) == s.17 (Int.toNat (IntKind.wrap IntKind.i64 (leaf - fromS s))) (0)) t.16 (0))) (2)) + (Bas.gr b).2)) (Bas.gr b).2) (Bas.gr b).2) ((Bas.gr b).2)) ?_
                  exact k_out (by have u := sub_q (scB_t g18.1.1.2) (scB_t g18.2) (hq g2.1).2; have v := sub_q (scB_t g18.1.1.1) (scB_t g18.1.2) (hq g2.1).2; rw [u.1, v.1, chk_ok (hq g2.1).1 (hq g2.1).2 v.2.1 v.2.2 (invF_bound (hq g2.1).1).1 (invF_bound (hq g2.1).1).2]; rw [(L g2.2.1 (by omega)).2.2] at g18 g28 ⊢; rw [(k1 g2.1 g2.2.1).2, (k2 g2.1 g2.2.2).2] at g26; exact Ent.of_eq (by rw [sec_7 g2 (by omega) g9 (and4 g18) g26 g28]; rfl))

end Go.Proofs.YtmhipmiacghgeaaGreatDoor

namespace Go.Proofs.YtmhipmiacghgeaaGreatDoor
open Go Go.Am Go.Sp
set_option maxRecDepth 100000

theorem r33first_c (s : Spend) (h : okS s = true) : Pure Tryz.prog gl0 63 [s.av] (.int .i64 (fromS s)) := by
  have o := okS_all h
  have c1 := rspan_c s.depth s.level s.index o.1
  refine pure_sk (own := ow0) Tryz.func63 (by kernel_rfl) mixed (by kernel_rfl)
    (.sc (true) 79 ([AV.int IntKind.i64 s.4, AV.agg [AV.int IntKind.i64 s.11, AV.int IntKind.i64 s.12]]) (AV.tup [AV.int IntKind.i64 (spanA (Spend.depth s) (Spend.level s) (Spend.index s)), AV.int IntKind.i64 (spanZ (Spend.depth s) (Spend.level s) (Spend.index s))]) (.out (AV.int IntKind.i64 (spanA s.4 s.11 s.12)) [] (AV.int IntKind.i64 (fromS s)) []))
    (by kernel_rfl) ?_
  refine k_sc (c1) ?_
  exact k_out (Ent.of_eq (congrArg _ o.2.2.1.symm))

theorem r33place_c (s : Spend) (v : Int) (hn : s.nl < 9223372036854775808) : Pure Tryz.prog gl0 114 [s.av, .int .i64 v] (.int .i64 (firstI (fun i => s.lf i 0 == v) s.nl 0)) := by
  refine pure_sk (own := ow0) Tryz.func114 (by kernel_rfl) mixed (by kernel_rfl)
    (.loop ({ x : Nat // x ≤ Spend.nl s ∧ (fun (i : Nat) => firstI (fun (i : Nat) => Spend.lf s i (0 : Nat) == v) (Spend.nl s) (0 : Nat) = firstI (fun (i : Nat) => Spend.lf s i (0 : Nat) == v) (Spend.nl s - i) i) x }) (fun (x : { x : Nat // x ≤ Spend.nl s ∧ (fun (i : Nat) => firstI (fun (i : Nat) => Spend.lf s i (0 : Nat) == v) (Spend.nl s) (0 : Nat) = firstI (fun (i : Nat) => Spend.lf s i (0 : Nat) == v) (Spend.nl s - i) i) x }) => mkSt [1, 2, 5] [AV.int IntKind.i64 v, AV.own (0) (80) (0) (0) (80), AV.int IntKind.i64 (↑(Subtype.val x) : Int)] [some { es := 80, n := 1, mu := true, f := Rep.lst [Spend.cells s] }]) (fun (x : { x : Nat // x ≤ Spend.nl s ∧ (fun (i : Nat) => firstI (fun (i : Nat) => Spend.lf s i (0 : Nat) == v) (Spend.nl s) (0 : Nat) = firstI (fun (i : Nat) => Spend.lf s i (0 : Nat) == v) (Spend.nl s - i) i) x }) => Spend.nl s - Subtype.val x) (⟨(0 : Nat), ⟨Nat.zero_le (Spend.nl s), rfl⟩⟩) ([1, 2, 5]) ([0]) ([AV.int IntKind.i64 v, AV.own (0) (80) (0) (0) (80), AV.int IntKind.i64 (0 : Int)]) ([some { es := 80, n := 1, mu := true, f := Rep.lst [Spend.cells s] }]) (fun x0 => (.br (decide ((↑x0.1 : Int) < (↑s.16 : Int))) (.req ((0 : Int) ≤ (↑x0.1 : Int) ∧ (↑x0.1 : Int) < (↑s.16 : Int)) (.br (s.17 (Int.toNat (↑x0.1 : Int)) (0) == v) (.out (AV.int IntKind.i64 (↑x0.1 : Int)) [] (AV.int IntKind.i64 (firstI (fun (i : Nat) => Spend.lf s i (0 : Nat) == v) (Spend.nl s) (0 : Nat))) []) (.again (Again (0) (fun (x : { x : Nat // x ≤ Spend.nl s ∧ (fun (i : Nat) => firstI (fun (i : Nat) => Spend.lf s i (0 : Nat) == v) (Spend.nl s) (0 : Nat) = firstI (fun (i : Nat) => Spend.lf s i (0 : Nat) == v) (Spend.nl s - i) i) x }) => mkSt [1, 2, 5] [AV.int IntKind.i64 v, AV.own (0) (80) (0) (0) (80), AV.int IntKind.i64 (↑(Subtype.val x) : Int)] [some { es := 80, n := 1, mu := true, f := Rep.lst [Spend.cells s] }]) (fun (x : { x : Nat // x ≤ Spend.nl s ∧ (fun (i : Nat) => firstI (fun (i : Nat) => Spend.lf s i (0 : Nat) == v) (Spend.nl s) (0 : Nat) = firstI (fun (i : Nat) => Spend.lf s i (0 : Nat) == v) (Spend.nl s - i) i) x }) => Spend.nl s - Subtype.val x) x0) ([1, 2, 5]) ([0]) ([AV.int IntKind.i64 v, AV.own (0) (80) (0) (0) (80), AV.int IntKind.i64 (IntKind.wrap IntKind.i64 ((↑x0.1 : Int) + (1 : Int)))]) ([some { es := 80, n := 1, mu := true, f := Rep.lst [Spend.cells s] }])))) (.out (AV.int IntKind.i64 (-1 : Int)) [] (AV.int IntKind.i64 (firstI (fun (i : Nat) => Spend.lf s i (0 : Nat) == v) (Spend.nl s) (0 : Nat))) []))))
    (by kernel_rfl) ?_
  --LOOPINFO kept [1, 2] changed [5] objects [0]
  --LOOPINFO   obj 0: some { es := 80, n := 1, mu := true, f := Rep.lst [Spend.cells s] }
  refine k_loop (fun _ hs => hs.le (by repeat' (first | exact trivial | (first | exact Ent.refl _ | exact inc_ent (by omega) | exact Ent.nil rfl | exact Ent.of_eq (congrArg (AV.osl _ _ _) (by first | omega | (dsimp only; omega))) | exact Ent.of_eq (congrArg (AV.int _) (by first | omega | (dsimp only; omega)))) | refine And.intro ?_ ?_)) (by repeat' (first | exact trivial | (first | exact ObEnt.refl _ | exact ObEnt.junk | exact ObEnt.zero | exact ObEnt.push rfl rfl | exact ObEnt.pushRow rfl | exact ObEnt.len (by omega) | exact ObEnt.row (by repeat' (first | exact trivial | (first | exact Ent.refl _ | exact inc_ent (by omega) | exact Ent.nil rfl | exact Ent.of_eq (congrArg (AV.osl _ _ _) (by first | omega | (dsimp only; omega))) | exact Ent.of_eq (congrArg (AV.int _) (by first | omega | (dsimp only; omega)))) | refine And.intro ?_ ?_))) | refine And.intro ?_ ?_))) (fun x0 => ?_)
  try (have q0 := x0.2; dsimp only at q0)
  refine k_br (fun h1 => ?_) (fun h1 => ?_)
  · have g1 := cnd_dec_t h1
    refine k_req (by first | omega | (simp only [Int.toNat_natCast]; omega)) ?_
    refine k_br (fun h3 => ?_) (fun h3 => ?_)
    · have g3 := cnd_beq_t h3
      try simp only [Int.toNat_natCast] at g3
      exact k_out (Ent.of_eq (congrArg _ (first_hit x0.2.2 (by omega) (by simp only [beq_iff_eq]; exact g3))))
    · have g3 := cnd_beq_f h3
      try simp only [Int.toNat_natCast] at g3
      exact k_again (⟨x0.1 + 1, by omega, first_next x0.2.2 (by omega) (by simp only [beq_eq_false_iff_ne]; exact g3)⟩) (fun _ hs => hs.le (by repeat' (first | exact trivial | (first | exact Ent.refl _ | exact inc_ent (by omega) | exact Ent.nil rfl | exact Ent.of_eq (congrArg (AV.osl _ _ _) (by first | omega | (dsimp only; omega))) | exact Ent.of_eq (congrArg (AV.int _) (by first | omega | (dsimp only; omega)))) | refine And.intro ?_ ?_)) (by repeat' (first | exact trivial | (first | exact ObEnt.refl _ | exact ObEnt.junk | exact ObEnt.zero | exact ObEnt.push rfl rfl | exact ObEnt.pushRow rfl | exact ObEnt.len (by omega) | exact ObEnt.row (by repeat' (first | exact trivial | (first | exact Ent.refl _ | exact inc_ent (by omega) | exact Ent.nil rfl | exact Ent.of_eq (congrArg (AV.osl _ _ _) (by first | omega | (dsimp only; omega))) | exact Ent.of_eq (congrArg (AV.int _) (by first | omega | (dsimp only; omega)))) | refine And.intro ?_ ?_))) | refine And.intro ?_ ?_))) (by first | omega | (dsimp only; omega) | (simp; omega))
  · have g1 := cnd_dec_f h1
    exact k_out (Ent.of_eq (congrArg _ (first_miss x0.2.2 (by omega))))

theorem r33partner_c (s t : Spend) (j : Int) (k0 : 0 ≤ j) (k1 : j < s.nl) (hn : t.nl < 9223372036854775808) : Pure Tryz.prog gl0 64 [s.av, t.av, .int .i64 j] (.int .i64 (partI s t j.toNat)) := by
  have c1 := r33place_c t
  refine pure_sk (own := ow0) Tryz.func64 (by kernel_rfl) mixed (by kernel_rfl)
    (.br (s.5 != t.5) (.out (AV.int IntKind.i64 (-1 : Int)) [] (AV.int IntKind.i64 (partI s t (Int.toNat j))) []) (.req ((0 : Int) ≤ j ∧ j < (↑s.16 : Int)) (.sc (true) 114 ([AV.agg (Spend.cells t), AV.int IntKind.i64 (s.17 (Int.toNat j) (0))]) (AV.int IntKind.i64 (firstI (fun (i : Nat) => Spend.lf t i (0 : Nat) == s.17 (Int.toNat j) (0)) (Spend.nl t) (0 : Nat))) (.out (AV.int IntKind.i64 (firstI (fun (i : Nat) => t.17 i (0) == s.17 (Int.toNat j) (0)) t.16 (0))) [] (AV.int IntKind.i64 (partI s t (Int.toNat j))) []))))
    (by kernel_rfl) ?_
  refine k_br (fun h0 => ?_) (fun h0 => ?_)
  · have g0 := cnd_bne_t h0
    exact k_out (Ent.of_eq (congrArg _ (if_neg g0).symm))
  · have g0 := cnd_bne_f h0
    refine k_req (⟨k0, k1⟩) ?_
    refine k_sc (c1 (s.17 (Int.toNat j) (0)) (by first | assumption | omega)) ?_
    exact k_out (Ent.of_eq (congrArg _ (if_pos g0).symm))

theorem r33chal_c (b : Bas) (s : Spend) (bs : s.By) (hq : 0 < b.gr.q) (hq' : b.gr.q < 2305843009213693952) : Pure Tryz.prog gl0 66 [b.av, s.av] (.int .i64 (chS b s)) := by
  have c1 := rchal_c b s.coin s.level s.index s.cxt bs.root bs.payee hq hq'
  refine pure_sk (own := ow0) Tryz.func66 (by kernel_rfl) mixed (by kernel_rfl)
    (.sc (true) 49 ([AV.agg (Bas.cells b), AV.agg (AV.int IntKind.i64 s.1 :: AV.int IntKind.i64 s.2 :: AV.int IntKind.i64 s.3 :: AV.int IntKind.i64 s.4 :: AV.int IntKind.i64 s.5 :: (u8c s.6 ++ [AV.int IntKind.i64 s.7, AV.int IntKind.i64 s.8, AV.int IntKind.i64 s.9, AV.int IntKind.i64 s.10])), AV.agg [AV.int IntKind.i64 s.11, AV.int IntKind.i64 s.12], AV.agg (u8c s.13 ++ [AV.int IntKind.i64 s.14, AV.int IntKind.i64 s.15])]) (AV.int IntKind.i64 (chalN (Grp.q (Bas.gr b)) (Spend.coin s) (Spend.level s) (Spend.index s) (Spend.cxt s))) (.out (AV.int IntKind.i64 (chalN (Bas.gr b).2 (Spend.coin s) s.11 s.12 (Spend.cxt s))) [] (AV.int IntKind.i64 (chS b s)) []))
    (by kernel_rfl) ?_
  refine k_sc (c1) ?_
  exact k_out (Ent.refl _)

theorem rsecret_c (b : Bas) (s t : Spend) (leaf : Int) (hl : leaf ≤ 9223372036854775807) (hw : b.gr.W) (hs : s.nl ≤ 1000) (ht : t.nl ≤ 1000) (bs : s.By) (bt : t.By) : Pure Tryz.prog gl0 20 [b.av, s.av, t.av, .int .i64 leaf] (.tup [.int .i64 (secR b s t leaf).1, .int .i64 (secR b s t leaf).2]) := by
  have c1 := r11valid_c b hw
  have c2 := rformed_c s
  have c3 := rformed_c t
  have c4 := fun h => r33first_c s h
  have c5 := fun j h h' => r33partner_c s t j h h' (by omega)
  have c6 := r33scalar_c b
  have c7 := fun h h' => r33chal_c b s bs h h'
  have c8 := fun h h' => r33chal_c b t bt h h'
  have hq := fun h => validB_q (b := b) h
  have lr := fun h => leaf_r (s := s) (leaf := leaf) h hl
  have L := fun h h' => leaf_w (s := s) (leaf := leaf) h h'
  refine pure_sk (own := ow0) Tryz.func20 (by kernel_rfl) mixed (by kernel_rfl)
    (.sc (true) 15 ([AV.agg (Bas.cells b)]) (AV.bool (validB b)) (.sc ((!validB b) == false) 62 ([AV.agg (Spend.cells s)]) (AV.bool (okS s)) (.sc ((!validB b || !okS s) == false) 62 ([AV.agg (Spend.cells t)]) (AV.bool (okS t)) (.br (!validB b || !okS s || !okS t) (.out (AV.tup [AV.int IntKind.i64 (0 : Int), AV.int IntKind.i64 (1 : Int)]) [] (AV.tup [AV.int IntKind.i64 (Prod.fst (secR b s t leaf)), AV.int IntKind.i64 (Prod.snd (secR b s t leaf))]) []) (.sc (true) 63 ([AV.agg (Spend.cells s)]) (AV.int IntKind.i64 (fromS s)) (.br (decide (leaf < (0 : Int)) || decide (IntKind.wrap IntKind.i64 (leaf - fromS s) < (0 : Int)) || decide (IntKind.wrap IntKind.i64 (leaf - fromS s) ≥ (↑s.16 : Int))) (.out (AV.tup [AV.int IntKind.i64 (0 : Int), AV.int IntKind.i64 (2 : Int)]) [] (AV.tup [AV.int IntKind.i64 (Prod.fst (secR b s t leaf)), AV.int IntKind.i64 (Prod.snd (secR b s t leaf))]) []) (.sc (true) 64 ([AV.agg (Spend.cells s), AV.agg (Spend.cells t), AV.int IntKind.i64 (IntKind.wrap IntKind.i64 (leaf - fromS s))]) (AV.int IntKind.i64 (partI s t (Int.toNat (IntKind.wrap IntKind.i64 (leaf - fromS s))))) (.br (decide (partI s t (Int.toNat (IntKind.wrap IntKind.i64 (leaf - fromS s))) < (0 : Int))) (.out (AV.tup [AV.int IntKind.i64 (0 : Int), AV.int IntKind.i64 (7 : Int)]) [] (AV.tup [AV.int IntKind.i64 (Prod.fst (secR b s t leaf)), AV.int IntKind.i64 (Prod.snd (secR b s t leaf))]) []) (.req ((0 : Int) ≤ IntKind.wrap IntKind.i64 (leaf - fromS s) ∧ IntKind.wrap IntKind.i64 (leaf - fromS s) < (↑s.16 : Int)) (.req ((0 : Int) ≤ partI s t (Int.toNat (IntKind.wrap IntKind.i64 (leaf - fromS s))) ∧ partI s t (Int.toNat (IntKind.wrap IntKind.i64 (leaf - fromS s))) < (↑t.16 : Int)) (.sc (true) 65 ([AV.agg [AV.int IntKind.i64 (Bas.gr b).1, AV.int IntKind.i64 (Bas.gr b).2, AV.int IntKind.i64 (Bas.gr b).3], AV.int IntKind.i64 (s.17 (Int.toNat (IntKind.wrap IntKind.i64 (leaf - fromS s))) (1))]) (AV.bool (scB b (s.17 (Int.toNat (IntKind.wrap IntKind.i64 (leaf - fromS s))) (1)))) (.sc ((!scB b (s.17 (Int.toNat (IntKind.wrap IntKind.i64 (leaf - fromS s))) (1))) == false) 65 ([AV.agg [AV.int IntKind.i64 (Bas.gr b).1, AV.int IntKind.i64 (Bas.gr b).2, AV.int IntKind.i64 (Bas.gr b).3], AV.int IntKind.i64 (s.17 (Int.toNat (IntKind.wrap IntKind.i64 (leaf - fromS s))) (2))]) (AV.bool (scB b (s.17 (Int.toNat (IntKind.wrap IntKind.i64 (leaf - fromS s))) (2)))) (.sc ((!scB b (s.17 (Int.toNat (IntKind.wrap IntKind.i64 (leaf - fromS s))) (1)) || !scB b (s.17 (Int.toNat (IntKind.wrap IntKind.i64 (leaf - fromS s))) (2))) == false) 65 ([AV.agg [AV.int IntKind.i64 (Bas.gr b).1, AV.int IntKind.i64 (Bas.gr b).2, AV.int IntKind.i64 (Bas.gr b).3], AV.int IntKind.i64 (t.17 (Int.toNat (partI s t (Int.toNat (IntKind.wrap IntKind.i64 (leaf - fromS s))))) (1))]) (AV.bool (scB b (t.17 (Int.toNat (partI s t (Int.toNat (IntKind.wrap IntKind.i64 (leaf - fromS s))))) (1)))) (.sc ((!scB b (s.17 (Int.toNat (IntKind.wrap IntKind.i64 (leaf - fromS s))) (1)) || !scB b (s.17 (Int.toNat (IntKind.wrap IntKind.i64 (leaf - fromS s))) (2)) || !scB b (t.17 (Int.toNat (partI s t (Int.toNat (IntKind.wrap IntKind.i64 (leaf - fromS s))))) (1))) == false) 65 ([AV.agg [AV.int IntKind.i64 (Bas.gr b).1, AV.int IntKind.i64 (Bas.gr b).2, AV.int IntKind.i64 (Bas.gr b).3], AV.int IntKind.i64 (t.17 (Int.toNat (partI s t (Int.toNat (IntKind.wrap IntKind.i64 (leaf - fromS s))))) (2))]) (AV.bool (scB b (t.17 (Int.toNat (partI s t (Int.toNat (IntKind.wrap IntKind.i64 (leaf - fromS s))))) (2)))) (.br (!scB b (s.17 (Int.toNat (IntKind.wrap IntKind.i64 (leaf - fromS s))) (1)) || !scB b (s.17 (Int.toNat (IntKind.wrap IntKind.i64 (leaf - fromS s))) (2)) || !scB b (t.17 (Int.toNat (partI s t (Int.toNat (IntKind.wrap IntKind.i64 (leaf - fromS s))))) (1)) || !scB b (t.17 (Int.toNat (partI s t (Int.toNat (IntKind.wrap IntKind.i64 (leaf - fromS s))))) (2))) (.out (AV.tup [AV.int IntKind.i64 (0 : Int), AV.int IntKind.i64 (2 : Int)]) [] (AV.tup [AV.int IntKind.i64 (Prod.fst (secR b s t leaf)), AV.int IntKind.i64 (Prod.snd (secR b s t leaf))]) []) (.sc (true) 66 ([AV.agg (Bas.cells b), AV.agg (Spend.cells s)]) (AV.int IntKind.i64 (chS b s)) (.sc (true) 66 ([AV.agg (Bas.cells b), AV.agg (Spend.cells t)]) (AV.int IntKind.i64 (chS b t)) (.br (chS b s == chS b t) (.out (AV.tup [AV.int IntKind.i64 (0 : Int), AV.int IntKind.i64 (20 : Int)]) [] (AV.tup [AV.int IntKind.i64 (Prod.fst (secR b s t leaf)), AV.int IntKind.i64 (Prod.snd (secR b s t leaf))]) []) (.br (s.17 (Int.toNat (IntKind.wrap IntKind.i64 (leaf - fromS s))) (2) == t.17 (Int.toNat (partI s t (Int.toNat (IntKind.wrap IntKind.i64 (leaf - fromS s))))) (2)) (.out (AV.tup [AV.int IntKind.i64 (0 : Int), AV.int IntKind.i64 (10 : Int)]) [] (AV.tup [AV.int IntKind.i64 (Prod.fst (secR b s t leaf)), AV.int IntKind.i64 (Prod.snd (secR b s t leaf))]) []) (.req ((Bas.gr b).2 ≠ (0 : Int)) (.sc (true) 67 ([AV.int IntKind.i64 (Int.tmod (IntKind.wrap IntKind.i64 (IntKind.wrap IntKind.i64 (s.17 (Int.toNat (IntKind.wrap IntKind.i64 (leaf - fromS s))) (2) + (Bas.gr b).2) - t.17 (Int.toNat (partI s t (Int.toNat (IntKind.wrap IntKind.i64 (leaf - fromS s))))) (2))) (Bas.gr b).2), AV.int IntKind.i64 (Bas.gr b).2]) (AV.tup [AV.int IntKind.i64 (invF (Int.tmod (IntKind.wrap IntKind.i64 (IntKind.wrap IntKind.i64 (s.17 (Int.toNat (IntKind.wrap IntKind.i64 (leaf - fromS s))) (2) + (Bas.gr b).2) - t.17 (Int.toNat (partI s t (Int.toNat (IntKind.wrap IntKind.i64 (leaf - fromS s))))) (2))) (Bas.gr b).2) (Bas.gr b).2), AV.bool (decide (Int.gcd (Int.tmod (IntKind.wrap IntKind.i64 (IntKind.wrap IntKind.i64 (s.17 (Int.toNat (IntKind.wrap IntKind.i64 (leaf - fromS s))) (2) + (Bas.gr b).2) - t.17 (Int.toNat (partI s t (Int.toNat (IntKind.wrap IntKind.i64 (leaf - fromS s))))) (2))) (Bas.gr b).2) (Bas.gr b).2 = (1 : Nat)))]) (.req ((Bas.gr b).2 ≠ (0 : Int)) (.sc (true) 68 ([AV.int IntKind.i64 (Int.tmod (IntKind.wrap IntKind.i64 (IntKind.wrap IntKind.i64 (s.17 (Int.toNat (IntKind.wrap IntKind.i64 (leaf - fromS s))) (1) + (Bas.gr b).2) - t.17 (Int.toNat (partI s t (Int.toNat (IntKind.wrap IntKind.i64 (leaf - fromS s))))) (1))) (Bas.gr b).2), AV.int IntKind.i64 (invF (Int.tmod (IntKind.wrap IntKind.i64 (IntKind.wrap IntKind.i64 (s.17 (Int.toNat (IntKind.wrap IntKind.i64 (leaf - fromS s))) (2) + (Bas.gr b).2) - t.17 (Int.toNat (partI s t (Int.toNat (IntKind.wrap IntKind.i64 (leaf - fromS s))))) (2))) (Bas.gr b).2) (Bas.gr b).2), AV.int IntKind.i64 (Bas.gr b).2]) (AV.int IntKind.i64 (Int.tmod (IntKind.wrap IntKind.i64 (IntKind.wrap IntKind.i64 (s.17 (Int.toNat (IntKind.wrap IntKind.i64 (leaf - fromS s))) (1) + (Bas.gr b).2) - t.17 (Int.toNat (partI s t (Int.toNat (IntKind.wrap IntKind.i64 (leaf - fromS s))))) (1))) (Bas.gr b).2 * invF (Int.tmod (IntKind.wrap IntKind.i64 (IntKind.wrap IntKind.i64 (s.17 (Int.toNat (IntKind.wrap IntKind.i64 (leaf - fromS s))) (2) + (Bas.gr b).2) - t.17 (Int.toNat (partI s t (Int.toNat (IntKind.wrap IntKind.i64 (leaf - fromS s))))) (2))) (Bas.gr b).2) (Bas.gr b).2 % (Bas.gr b).2)) (.out (AV.tup [AV.int IntKind.i64 (Int.tmod (IntKind.wrap IntKind.i64 (IntKind.wrap IntKind.i64 (s.17 (Int.toNat (IntKind.wrap IntKind.i64 (leaf - fromS s))) (1) + (Bas.gr b).2) - t.17 (Int.toNat (partI s t (Int.toNat (IntKind.wrap IntKind.i64 (leaf - fromS s))))) (1))) (Bas.gr b).2 * invF (Int.tmod (IntKind.wrap IntKind.i64 (IntKind.wrap IntKind.i64 (s.17 (Int.toNat (IntKind.wrap IntKind.i64 (leaf - fromS s))) (2) + (Bas.gr b).2) - t.17 (Int.toNat (partI s t (Int.toNat (IntKind.wrap IntKind.i64 (leaf - fromS s))))) (2))) (Bas.gr b).2) (Bas.gr b).2 % (Bas.gr b).2), AV.int IntKind.i64 (0 : Int)]) [] (AV.tup [AV.int IntKind.i64 (Prod.fst (secR b s t leaf)), AV.int IntKind.i64 (Prod.snd (secR b s t leaf))]) []))))))))))))))))))))))))
    (by kernel_rfl) ?_
  refine k_sc (c1) ?_
  refine k_scg (fun h1 => c2) ?_
  refine k_scg (fun h2 => c3) ?_
  refine k_br (fun h3 => ?_) (fun h3 => ?_)
  · have g3 := (cnd_or_t (cnd_or_t (cnd_not_t cnd_id_f) (cnd_not_t cnd_id_f)) (cnd_not_t cnd_id_f)) h3
    exact k_out (Ent.of_eq (by rw [sec_1 (or_assoc.1 g3)]))
  · have g3 := (cnd_or_f (cnd_or_f (cnd_not_f cnd_id_t) (cnd_not_f cnd_id_t)) (cnd_not_f cnd_id_t)) h3
    refine k_sc (c4 (g3.1.2)) ?_
    refine k_br (fun h6 => ?_) (fun h6 => ?_)
    · have g6 := (cnd_or_t (cnd_or_t cnd_dec_t cnd_dec_t) cnd_dec_t) h6
      exact k_out (Ent.of_eq (by rw [sec_2 (and_assoc.1 g3) ((lr g3.1.2).1 g6)]))
    · have g6 := (cnd_or_f (cnd_or_f cnd_dec_f cnd_dec_f) cnd_dec_f) h6
      refine k_sc (c5 (IntKind.wrap IntKind.i64 (leaf - fromS s)) (by omega) (by omega)) ?_
      refine k_br (fun h9 => ?_) (fun h9 => ?_)
      · have g9 := cnd_dec_t h9
        exact k_out (by have nl : ¬ (leaf < fromS s ∨ toS s ≤ leaf) := (fun hh => by have := (lr g3.1.2).2 hh; omega); rw [(L g3.1.2 nl).2.2] at g9; exact Ent.of_eq (by rw [sec_3 (and_assoc.1 g3) nl (fun hm => (part_has g3.1.2 nl).2 hm g9)]))
      · have g9 := cnd_dec_f h9
        refine k_req (by omega) ?_
        refine k_req (by have k := sec_k g3.1.2 hl g6 g9; rw [k.2.2.1]; exact k.2.2.2.2) ?_
        refine k_sc (c6 (s.17 (Int.toNat (IntKind.wrap IntKind.i64 (leaf - fromS s))) (1))) ?_
        refine k_scg (fun h14 => c6 (s.17 (Int.toNat (IntKind.wrap IntKind.i64 (leaf - fromS s))) (2))) ?_
        refine k_scg (fun h15 => c6 (t.17 (Int.toNat (partI s t (Int.toNat (IntKind.wrap IntKind.i64 (leaf - fromS s))))) (1))) ?_
        refine k_scg (fun h16 => c6 (t.17 (Int.toNat (partI s t (Int.toNat (IntKind.wrap IntKind.i64 (leaf - fromS s))))) (2))) ?_
        refine k_br (fun h17 => ?_) (fun h17 => ?_)
        · have g17 := (cnd_or_t (cnd_or_t (cnd_or_t (cnd_not_t cnd_id_f) (cnd_not_t cnd_id_f)) (cnd_not_t cnd_id_f)) (cnd_not_t cnd_id_f)) h17
          exact k_out (by have k := sec_k g3.1.2 hl g6 g9; rw [k.2.2.1, k.2.2.2.1] at g17; exact Ent.of_eq (by rw [sec_4 (and_assoc.1 g3) k.1 k.2.1 (or4 g17)]))
        · have g17 := (cnd_or_f (cnd_or_f (cnd_or_f (cnd_not_f cnd_id_t) (cnd_not_f cnd_id_t)) (cnd_not_f cnd_id_t)) (cnd_not_f cnd_id_t)) h17
          refine k_sc (c7 ((hq g3.1.1).1) ((hq g3.1.1).2)) ?_
          refine k_sc (c8 ((hq g3.1.1).1) ((hq g3.1.1).2)) ?_
          refine k_br (fun h21 => ?_) (fun h21 => ?_)
          · have g21 := cnd_beq_t h21
            exact k_out (by have k := sec_k g3.1.2 hl g6 g9; rw [k.2.2.1, k.2.2.2.1] at g17; exact Ent.of_eq (by rw [sec_5 (and_assoc.1 g3) k.1 k.2.1 (and4 g17) g21]))
          · have g21 := cnd_beq_f h21
            refine k_br (fun h23 => ?_) (fun h23 => ?_)
            · have g23 := cnd_beq_t h23
              exact k_out (by have k := sec_k g3.1.2 hl g6 g9; rw [k.2.2.1, k.2.2.2.1] at g17 g23; exact Ent.of_eq (by rw [sec_6 (and_assoc.1 g3) k.1 k.2.1 (and4 g17) g21 g23]))
            · have g23 := cnd_beq_f h23
              refine k_req (by have := hq g3.1.1; omega) ?_
              refine k_sc (rinv_c (Int.tmod (IntKind.wrap IntKind.i64 (IntKind.wrap IntKind.i64 (s.17 (Int.toNat (IntKind.wrap IntKind.i64 (leaf - fromS s))) (2) + (Bas.gr b).2) - t.17 (Int.toNat (partI s t (Int.toNat (IntKind.wrap IntKind.i64 (leaf - fromS s))))) (2))) (Bas.gr b).2) ((Bas.gr b).2) (by have u := sub_r (scB_t g17.1.1.2) (scB_t g17.2) (hq g3.1.1).2; rw [u.1]; exact u.2.1) (by have u := sub_r (scB_t g17.1.1.2) (scB_t g17.2) (hq g3.1.1).2; rw [u.1]; exact u.2.2) ((hq g3.1.1).2)) ?_
              refine k_req (by have := hq g3.1.1; omega) ?_
              refine k_sc (rmul_c (Int.tmod (IntKind.wrap IntKind.i64 (IntKind.wrap IntKind.i64 (s.17 (Int.toNat (IntKind.wrap IntKind.i64 (leaf - fromS s))) (1) + (Bas.gr b).2) - t.17 (Int.toNat (partI s t (Int.toNat (IntKind.wrap IntKind.i64 (leaf - fromS s))))) (1))) (Bas.gr b).2) (invF (Int.tmod (IntKind.wrap IntKind.i64 (IntKind.wrap IntKind.i64 (s.17 (Int.toNat (IntKind.wrap IntKind.i64 (leaf - fromS s))) (2) + (Bas.gr b).2) - t.17 (Int.toNat (partI s t (Int.toNat (IntKind.wrap IntKind.i64 (leaf - fromS s))))) (2))) (Bas.gr b).2) (Bas.gr b).2) ((Bas.gr b).2) (by have u := sub_r (scB_t g17.1.1.1) (scB_t g17.1.2) (hq g3.1.1).2; rw [u.1]; exact u.2.1) (by have u := sub_r (scB_t g17.1.1.1) (scB_t g17.1.2) (hq g3.1.1).2; rw [u.1]; exact u.2.2) ((invF_bound (hq g3.1.1).1).1) ((invF_bound (hq g3.1.1).1).2) ((hq g3.1.1).2)) ?_
              exact k_out (by have u := sub_r (scB_t g17.1.1.2) (scB_t g17.2) (hq g3.1.1).2; have v := sub_r (scB_t g17.1.1.1) (scB_t g17.1.2) (hq g3.1.1).2; rw [u.1, v.1]; have k := sec_k g3.1.2 hl g6 g9; rw [k.2.2.1, k.2.2.2.1] at g17 g23 ⊢; exact Ent.of_eq (by rw [sec_7 (and_assoc.1 g3) k.1 k.2.1 (and4 g17) g21 g23]))

end Go.Proofs.YtmhipmiacghgeaaGreatDoor

namespace Go.Proofs.YtmhipmiacghgeaaGreatDoor
open Go Go.Am Go.Sp
set_option maxRecDepth 100000

theorem few33x_c (s : Spend) : Pure Tryz.prog gl0 52 [s.av] (.bool (!fewB s)) := by
  refine pure_sk (own := ow0) Tryz.func52 (by kernel_rfl) mixed (by kernel_rfl)
    (.out (AV.bool (decide ((↑s.16 : Int) > (40 : Int)) || decide ((↑s.19 : Int) > (20 : Int)))) [] (AV.bool !fewB s) [])
    (by kernel_rfl) ?_
  exact k_out (Ent.of_eq (congrArg _ (by rw [fewB, Bool.not_and, ← decide_not, ← decide_not]; congr 1 <;> exact decide_eq_decide.2 (by omega))))

theorem indexS_w (F : FuncId) (S : Nat → Spend) (n : Nat) (p : Nat → Bool) (hn : n < 9223372036854775808) (hc : ∀ i, i < n → Pure Tryz.prog gl0 F [(S i).av] (.bool (p i))) : Pure Tryz.prog gl0 86 [.isl 80 n (fun i j => atL (S i).cells j), .fn (.func F) [] []] (.int .i64 (firstI p n 0)) := by
  refine pure_sk (own := ow0) Tryz.func86 (by kernel_rfl) mixed (by kernel_rfl)
    (.loop ({ x : Nat // x ≤ n ∧ (fun (i : Nat) => firstI p n (0 : Nat) = firstI p (n - i) i) x }) (fun (x : { x : Nat // x ≤ n ∧ (fun (i : Nat) => firstI p n (0 : Nat) = firstI p (n - i) i) x }) => mkSt [0, 1, 7, 8] [AV.isl (80) n fun (i j : Nat) => atL (Spend.cells (S i)) j, AV.fn (Fn.func F) [] [], AV.int IntKind.i64 (↑n : Int), AV.int IntKind.i64 (↑(Subtype.val x) : Int)] []) (fun (x : { x : Nat // x ≤ n ∧ (fun (i : Nat) => firstI p n (0 : Nat) = firstI p (n - i) i) x }) => n - Subtype.val x) (⟨(0 : Nat), ⟨Nat.zero_le n, rfl⟩⟩) ([0, 1, 7, 8]) ([]) ([AV.isl (80) n fun (i j : Nat) => atL (Spend.cells (S i)) j, AV.fn (Fn.func F) [] [], AV.int IntKind.i64 (↑n : Int), AV.int IntKind.i64 (0 : Int)]) ([]) (fun x0 => (.br (decide ((↑x0.1 : Int) < (↑n : Int))) (.req ((0 : Int) ≤ (↑x0.1 : Int) ∧ (↑x0.1 : Int) < (↑n : Int)) (.sc (true) F ([AV.agg (Spend.cells (S (Int.toNat (↑(Subtype.val x0) : Int))))]) (AV.bool (p (Int.toNat (↑(Subtype.val x0) : Int)))) (.br (p (Int.toNat (↑x0.1 : Int))) (.out (AV.int IntKind.i64 (↑x0.1 : Int)) [] (AV.int IntKind.i64 (firstI p n (0 : Nat))) []) (.again (Again (0) (fun (x : { x : Nat // x ≤ n ∧ (fun (i : Nat) => firstI p n (0 : Nat) = firstI p (n - i) i) x }) => mkSt [0, 1, 7, 8] [AV.isl (80) n fun (i j : Nat) => atL (Spend.cells (S i)) j, AV.fn (Fn.func F) [] [], AV.int IntKind.i64 (↑n : Int), AV.int IntKind.i64 (↑(Subtype.val x) : Int)] []) (fun (x : { x : Nat // x ≤ n ∧ (fun (i : Nat) => firstI p n (0 : Nat) = firstI p (n - i) i) x }) => n - Subtype.val x) x0) ([0, 1, 7, 8]) ([]) ([AV.isl (80) n fun (i j : Nat) => atL (Spend.cells (S i)) j, AV.fn (Fn.func F) [] [], AV.int IntKind.i64 (↑n : Int), AV.int IntKind.i64 (IntKind.wrap IntKind.i64 ((↑x0.1 : Int) + (1 : Int)))]) ([]))))) (.out (AV.int IntKind.i64 (-1 : Int)) [] (AV.int IntKind.i64 (firstI p n (0 : Nat))) []))))
    (by kernel_rfl) ?_
  --LOOPINFO kept [0, 1, 7] changed [8] objects []
  refine k_loop (fun _ hs => hs.le (by repeat' (first | exact trivial | (first | exact Ent.refl _ | exact inc_ent (by omega) | exact Ent.nil rfl | exact Ent.of_eq (congrArg (AV.osl _ _ _) (by first | omega | (dsimp only; omega))) | exact Ent.of_eq (congrArg (AV.int _) (by first | omega | (dsimp only; omega)))) | refine And.intro ?_ ?_)) (trivial)) (fun x0 => ?_)
  try (have q0 := x0.2; dsimp only at q0)
  refine k_br (fun h1 => ?_) (fun h1 => ?_)
  · have g1 := cnd_dec_t h1
    refine k_req (by first | omega | (simp only [Int.toNat_natCast]; omega)) ?_
    refine k_sc (hc (Int.toNat (↑(Subtype.val x0) : Int)) (by first | assumption | omega)) ?_
    refine k_br (fun h4 => ?_) (fun h4 => ?_)
    · have g4 := cnd_id_t h4
      try simp only [Int.toNat_natCast] at g4
      exact k_out (Ent.of_eq (congrArg _ (first_hit x0.2.2 (by omega) g4)))
    · have g4 := cnd_id_f h4
      try simp only [Int.toNat_natCast] at g4
      exact k_again (⟨x0.1 + 1, by omega, first_next x0.2.2 (by omega) g4⟩) (fun _ hs => hs.le (by repeat' (first | exact trivial | (first | exact Ent.refl _ | exact inc_ent (by omega) | exact Ent.nil rfl | exact Ent.of_eq (congrArg (AV.osl _ _ _) (by first | omega | (dsimp only; omega))) | exact Ent.of_eq (congrArg (AV.int _) (by first | omega | (dsimp only; omega)))) | refine And.intro ?_ ?_)) (trivial)) (by first | omega | (dsimp only; omega) | (simp; omega))
  · have g1 := cnd_dec_f h1
    exact k_out (Ent.of_eq (congrArg _ (first_miss x0.2.2 (by omega))))

theorem containsS_w (F : FuncId) (S : Nat → Spend) (n : Nat) (p : Nat → Bool) (hn : n < 9223372036854775808) (hc : ∀ i, i < n → Pure Tryz.prog gl0 F [(S i).av] (.bool (p i))) : Pure Tryz.prog gl0 33 [.isl 80 n (fun i j => atL (S i).cells j), .fn (.func F) [] []] (.bool (decide (firstI p n 0 ≥ 0))) := by
  have c1 := indexS_w F S n p hn hc
  refine pure_sk (own := ow0) Tryz.func33 (by kernel_rfl) mixed (by kernel_rfl)
    (.sc (true) 86 ([AV.isl (80) n fun (i j : Nat) => atL (Spend.cells (S i)) j, AV.fn (Fn.func F) [] []]) (AV.int IntKind.i64 (firstI p n (0 : Nat))) (.out (AV.bool (decide (firstI p n (0) ≥ (0 : Int)))) [] (AV.bool (decide (firstI p n (0 : Nat) ≥ (0 : Int)))) []))
    (by kernel_rfl) ?_
  refine k_sc (c1) ?_
  exact k_out (Ent.refl _)

theorem few33_c (S : Nat → Spend) (n : Nat) (hn : n < 9223372036854775808) : Pure Tryz.prog gl0 18 [.isl 80 n (fun i j => atL (S i).cells j)] (.bool (!decide (firstI (fun i => !fewB (S i)) n 0 ≥ 0))) := by
  have c1 := containsS_w 52 S n (fun i => !fewB (S i)) hn (fun i _ => few33x_c (S i))
  refine pure_sk (own := ow0) Tryz.func18 (by kernel_rfl) mixed (by kernel_rfl)
    (.sc (true) 33 ([AV.isl (80) n fun (i j : Nat) => atL (Spend.cells (S i)) j, AV.fn (Fn.func (52 : Nat)) [] []]) (AV.bool (decide (firstI (fun (i : Nat) => !fewB (S i)) n (0 : Nat) ≥ (0 : Int)))) (.out (AV.bool !decide (firstI (fun (i : Nat) => !fewB (S i)) n (0) ≥ (0 : Int))) [] (AV.bool !decide (firstI (fun (i : Nat) => !fewB (S i)) n (0 : Nat) ≥ (0 : Int))) []))
    (by kernel_rfl) ?_
  refine k_sc (c1) ?_
  exact k_out (Ent.refl _)

theorem few33_1 (a : Spend) : Pure Tryz.prog gl0 18 [.isl 80 1 fun r k => atL (List.getD [a.cells] r []) k] (.bool (fewB a)) := by
  refine Pure.ent (Pure.via (few33_c (fun _ => a) 1 (by omega)) ?_) (Ent.of_eq (congrArg _ (by rw [firstI_neg]; simp [List.range, List.range.loop])))
  exact ⟨Ent.rows fun i hi => (by obtain rfl : i = 0 := Nat.lt_one_iff.1 hi
                                  rfl), trivial⟩

theorem few33_2 (a b : Spend) : Pure Tryz.prog gl0 18 [.isl 80 2 fun r k => atL (List.getD [a.cells, b.cells] r []) k] (.bool (fewB a && fewB b)) := by
  refine Pure.ent (Pure.via (few33_c (fun i => bif Nat.beq i 0 then a else b) 2 (by omega)) ?_) (Ent.of_eq (congrArg _ (by rw [firstI_neg]; simp [List.range, List.range.loop]; rfl)))
  exact ⟨Ent.two (g := fun i => Spend.cells (bif Nat.beq i 0 then a else b)) rfl rfl, trivial⟩

theorem ex_secret_c (n : Int) (h0 : 0 ≤ n) (h1 : n ≤ 1000) (h : ¬ chS exB exX = chS exB (exY n)) : Pure Tryz.prog gl0 19 [exB.av, .agg (Spend.cw exX (.isl 3 1 fun r k => atL (List.getD [[.int .i64 4, .int .i64 4, .int .i64 9]] r []) k) .nsl), .agg (Spend.cw (exY n) (.isl 3 1 fun r k => atL (List.getD [[.int .i64 4, .int .i64 6, .int .i64 1]] r []) k) .nsl), .int .i64 0] (.tup [.int .i64 8, .int .i64 0]) := by
  refine Pure.ent (Pure.via (secret_c exB exX (exY n) 0 ex_w (by decide) (by show 1 ≤ 1000; decide) ex_by (ey_by n)) ?_) (Ent.of_eq (by rw [ex_secR h0 h1 h]))
  exact ⟨Ent.refl _, Ent.agg exX_ent, Ent.agg (exY_ent n), Ent.refl _, trivial⟩

theorem ex_shared_c (n : Int) (h0 : 0 ≤ n) (h1 : n ≤ 1000) : Pure Tryz.prog gl0 50 [.agg (Spend.cw exX (.isl 3 1 fun r k => atL (List.getD [[.int .i64 4, .int .i64 4, .int .i64 9]] r []) k) .nsl), .agg (Spend.cw (exY n) (.isl 3 1 fun r k => atL (List.getD [[.int .i64 4, .int .i64 6, .int .i64 1]] r []) k) .nsl)] (.tup [il .i64 [0], .int .i64 0]) := by
  refine Pure.ent (Pure.via (xshared_c exX (exY n) (by decide) (by show 1 ≤ 1000; decide)) ?_) (Ent.of_eq (by rw [exX_ok, exY_ok h0 h1]; rfl))
  exact ⟨Ent.agg exX_ent, Ent.agg (exY_ent n), trivial⟩

theorem eq0_c : Pure Tryz.prog gl0 51 [il .i64 [0], .isl 1 1 fun r k => atL (List.getD [[.int .i64 0]] r []) k] (.bool true) :=
  (equalN_c [0] (by decide)).via ⟨Ent.refl _, il_rows rfl rfl, trivial⟩

theorem awake33_c : Pure Tryz.prog gl0 17 [] (.bool true) := by
  have c1 := rchal_c exB exX.coin exX.level exX.index exX.cxt ex_by.root ex_by.payee (by decide) (by decide)
  have c2 := fun n => rchal_c exB (exY n).coin (exY n).level (exY n).index (exY n).cxt (ey_by n).root (ey_by n).payee (by decide) (by decide)
  refine pure_sk (own := ow0) Tryz.func17 (by kernel_rfl) mixed (by kernel_rfl)
    (.loop ({ x : Nat // x ≤ (40 : Nat) }) (fun (x : { x : Nat // x ≤ (40 : Nat) }) => mkSt [1, 2, 11, 15] [AV.own (0) (6) (0) (0) (6), AV.own (1) (80) (0) (0) (80), AV.agg [AV.int IntKind.i64 (0 : Int), AV.int IntKind.i64 (0 : Int), AV.int IntKind.i64 (0 : Int), AV.int IntKind.i64 (0 : Int), AV.int IntKind.i64 (8 : Int), AV.int IntKind.u8 (0 : Int), AV.int IntKind.u8 (0 : Int), AV.int IntKind.u8 (0 : Int), AV.int IntKind.u8 (0 : Int), AV.int IntKind.u8 (0 : Int), AV.int IntKind.u8 (0 : Int), AV.int IntKind.u8 (0 : Int), AV.int IntKind.u8 (0 : Int), AV.int IntKind.u8 (0 : Int), AV.int IntKind.u8 (0 : Int), AV.int IntKind.u8 (0 : Int), AV.int IntKind.u8 (0 : Int), AV.int IntKind.u8 (0 : Int), AV.int IntKind.u8 (0 : Int), AV.int IntKind.u8 (0 : Int), AV.int IntKind.u8 (0 : Int), AV.int IntKind.u8 (0 : Int), AV.int IntKind.u8 (0 : Int), AV.int IntKind.u8 (0 : Int), AV.int IntKind.u8 (0 : Int), AV.int IntKind.u8 (0 : Int), AV.int IntKind.u8 (0 : Int), AV.int IntKind.u8 (0 : Int), AV.int IntKind.u8 (0 : Int), AV.int IntKind.u8 (0 : Int), AV.int IntKind.u8 (0 : Int), AV.int IntKind.u8 (0 : Int), AV.int IntKind.u8 (0 : Int), AV.int IntKind.u8 (0 : Int), AV.int IntKind.u8 (0 : Int), AV.int IntKind.u8 (0 : Int), AV.int IntKind.u8 (0 : Int), AV.int IntKind.i64 (0 : Int), AV.int IntKind.i64 (0 : Int), AV.int IntKind.i64 (0 : Int), AV.int IntKind.i64 (0 : Int)], AV.int IntKind.i64 (↑(Subtype.val x) : Int)] [some { es := 6, n := 1, mu := true, f := Rep.lst [[AV.int IntKind.i64 (23 : Int), AV.int IntKind.i64 (11 : Int), AV.int IntKind.i64 (4 : Int), AV.int IntKind.i64 (2 : Int), AV.int IntKind.i64 (3 : Int), AV.int IntKind.i64 (6 : Int)]] }, some { es := 80, n := 1, mu := true, f := Rep.lst [[AV.int IntKind.i64 (0 : Int), AV.int IntKind.i64 (0 : Int), AV.int IntKind.i64 (0 : Int), AV.int IntKind.i64 (0 : Int), AV.int IntKind.i64 (8 : Int), AV.int IntKind.u8 (0 : Int), AV.int IntKind.u8 (0 : Int), AV.int IntKind.u8 (0 : Int), AV.int IntKind.u8 (0 : Int), AV.int IntKind.u8 (0 : Int), AV.int IntKind.u8 (0 : Int), AV.int IntKind.u8 (0 : Int), AV.int IntKind.u8 (0 : Int), AV.int IntKind.u8 (0 : Int), AV.int IntKind.u8 (0 : Int), AV.int IntKind.u8 (0 : Int), AV.int IntKind.u8 (0 : Int), AV.int IntKind.u8 (0 : Int), AV.int IntKind.u8 (0 : Int), AV.int IntKind.u8 (0 : Int), AV.int IntKind.u8 (0 : Int), AV.int IntKind.u8 (0 : Int), AV.int IntKind.u8 (0 : Int), AV.int IntKind.u8 (0 : Int), AV.int IntKind.u8 (0 : Int), AV.int IntKind.u8 (0 : Int), AV.int IntKind.u8 (0 : Int), AV.int IntKind.u8 (0 : Int), AV.int IntKind.u8 (0 : Int), AV.int IntKind.u8 (0 : Int), AV.int IntKind.u8 (0 : Int), AV.int IntKind.u8 (0 : Int), AV.int IntKind.u8 (0 : Int), AV.int IntKind.u8 (0 : Int), AV.int IntKind.u8 (0 : Int), AV.int IntKind.u8 (0 : Int), AV.int IntKind.u8 (0 : Int), AV.int IntKind.i64 (0 : Int), AV.int IntKind.i64 (0 : Int), AV.int IntKind.i64 (0 : Int), AV.int IntKind.i64 (0 : Int), AV.int IntKind.i64 (0 : Int), AV.int IntKind.i64 (0 : Int), AV.int IntKind.u8 (0 : Int), AV.int IntKind.u8 (0 : Int), AV.int IntKind.u8 (0 : Int), AV.int IntKind.u8 (0 : Int), AV.int IntKind.u8 (0 : Int), AV.int IntKind.u8 (0 : Int), AV.int IntKind.u8 (0 : Int), AV.int IntKind.u8 (0 : Int), AV.int IntKind.u8 (0 : Int), AV.int IntKind.u8 (0 : Int), AV.int IntKind.u8 (0 : Int), AV.int IntKind.u8 (0 : Int), AV.int IntKind.u8 (0 : Int), AV.int IntKind.u8 (0 : Int), AV.int IntKind.u8 (0 : Int), AV.int IntKind.u8 (0 : Int), AV.int IntKind.u8 (0 : Int), AV.int IntKind.u8 (0 : Int), AV.int IntKind.u8 (0 : Int), AV.int IntKind.u8 (0 : Int), AV.int IntKind.u8 (0 : Int), AV.int IntKind.u8 (0 : Int), AV.int IntKind.u8 (0 : Int), AV.int IntKind.u8 (0 : Int), AV.int IntKind.u8 (0 : Int), AV.int IntKind.u8 (0 : Int), AV.int IntKind.u8 (0 : Int), AV.int IntKind.u8 (0 : Int), AV.int IntKind.u8 (0 : Int), AV.int IntKind.u8 (0 : Int), AV.int IntKind.u8 (0 : Int), AV.int IntKind.u8 (0 : Int), AV.int IntKind.i64 (0 : Int), AV.int IntKind.i64 (0 : Int), AV.osl (2) (3) (0) (1), AV.int IntKind.i64 (0 : Int), AV.nsl]] }, some { es := 3, n := 1, mu := true, f := Rep.lst [[AV.int IntKind.i64 (4 : Int), AV.int IntKind.i64 (4 : Int), AV.int IntKind.i64 (9 : Int)]] }]) (fun (x : { x : Nat // x ≤ (40 : Nat) }) => (40 : Nat) - Subtype.val x) (⟨(0 : Nat), Nat.zero_le (40 : Nat)⟩) ([1, 2, 11, 15]) ([24, 72, 56]) ([AV.own (0) (6) (0) (0) (6), AV.own (1) (80) (0) (0) (80), AV.agg [AV.int IntKind.i64 (0 : Int), AV.int IntKind.i64 (0 : Int), AV.int IntKind.i64 (0 : Int), AV.int IntKind.i64 (0 : Int), AV.int IntKind.i64 (8 : Int), AV.int IntKind.u8 (0 : Int), AV.int IntKind.u8 (0 : Int), AV.int IntKind.u8 (0 : Int), AV.int IntKind.u8 (0 : Int), AV.int IntKind.u8 (0 : Int), AV.int IntKind.u8 (0 : Int), AV.int IntKind.u8 (0 : Int), AV.int IntKind.u8 (0 : Int), AV.int IntKind.u8 (0 : Int), AV.int IntKind.u8 (0 : Int), AV.int IntKind.u8 (0 : Int), AV.int IntKind.u8 (0 : Int), AV.int IntKind.u8 (0 : Int), AV.int IntKind.u8 (0 : Int), AV.int IntKind.u8 (0 : Int), AV.int IntKind.u8 (0 : Int), AV.int IntKind.u8 (0 : Int), AV.int IntKind.u8 (0 : Int), AV.int IntKind.u8 (0 : Int), AV.int IntKind.u8 (0 : Int), AV.int IntKind.u8 (0 : Int), AV.int IntKind.u8 (0 : Int), AV.int IntKind.u8 (0 : Int), AV.int IntKind.u8 (0 : Int), AV.int IntKind.u8 (0 : Int), AV.int IntKind.u8 (0 : Int), AV.int IntKind.u8 (0 : Int), AV.int IntKind.u8 (0 : Int), AV.int IntKind.u8 (0 : Int), AV.int IntKind.u8 (0 : Int), AV.int IntKind.u8 (0 : Int), AV.int IntKind.u8 (0 : Int), AV.int IntKind.i64 (0 : Int), AV.int IntKind.i64 (0 : Int), AV.int IntKind.i64 (0 : Int), AV.int IntKind.i64 (0 : Int)], AV.int IntKind.i64 (0 : Int)]) ([some { es := 6, n := 1, mu := true, f := Rep.lst [[AV.int IntKind.i64 (23 : Int), AV.int IntKind.i64 (11 : Int), AV.int IntKind.i64 (4 : Int), AV.int IntKind.i64 (2 : Int), AV.int IntKind.i64 (3 : Int), AV.int IntKind.i64 (6 : Int)]] }, some { es := 80, n := 1, mu := true, f := Rep.lst [[AV.int IntKind.i64 (0 : Int), AV.int IntKind.i64 (0 : Int), AV.int IntKind.i64 (0 : Int), AV.int IntKind.i64 (0 : Int), AV.int IntKind.i64 (8 : Int), AV.int IntKind.u8 (0 : Int), AV.int IntKind.u8 (0 : Int), AV.int IntKind.u8 (0 : Int), AV.int IntKind.u8 (0 : Int), AV.int IntKind.u8 (0 : Int), AV.int IntKind.u8 (0 : Int), AV.int IntKind.u8 (0 : Int), AV.int IntKind.u8 (0 : Int), AV.int IntKind.u8 (0 : Int), AV.int IntKind.u8 (0 : Int), AV.int IntKind.u8 (0 : Int), AV.int IntKind.u8 (0 : Int), AV.int IntKind.u8 (0 : Int), AV.int IntKind.u8 (0 : Int), AV.int IntKind.u8 (0 : Int), AV.int IntKind.u8 (0 : Int), AV.int IntKind.u8 (0 : Int), AV.int IntKind.u8 (0 : Int), AV.int IntKind.u8 (0 : Int), AV.int IntKind.u8 (0 : Int), AV.int IntKind.u8 (0 : Int), AV.int IntKind.u8 (0 : Int), AV.int IntKind.u8 (0 : Int), AV.int IntKind.u8 (0 : Int), AV.int IntKind.u8 (0 : Int), AV.int IntKind.u8 (0 : Int), AV.int IntKind.u8 (0 : Int), AV.int IntKind.u8 (0 : Int), AV.int IntKind.u8 (0 : Int), AV.int IntKind.u8 (0 : Int), AV.int IntKind.u8 (0 : Int), AV.int IntKind.u8 (0 : Int), AV.int IntKind.i64 (0 : Int), AV.int IntKind.i64 (0 : Int), AV.int IntKind.i64 (0 : Int), AV.int IntKind.i64 (0 : Int), AV.int IntKind.i64 (0 : Int), AV.int IntKind.i64 (0 : Int), AV.int IntKind.u8 (0 : Int), AV.int IntKind.u8 (0 : Int), AV.int IntKind.u8 (0 : Int), AV.int IntKind.u8 (0 : Int), AV.int IntKind.u8 (0 : Int), AV.int IntKind.u8 (0 : Int), AV.int IntKind.u8 (0 : Int), AV.int IntKind.u8 (0 : Int), AV.int IntKind.u8 (0 : Int), AV.int IntKind.u8 (0 : Int), AV.int IntKind.u8 (0 : Int), AV.int IntKind.u8 (0 : Int), AV.int IntKind.u8 (0 : Int), AV.int IntKind.u8 (0 : Int), AV.int IntKind.u8 (0 : Int), AV.int IntKind.u8 (0 : Int), AV.int IntKind.u8 (0 : Int), AV.int IntKind.u8 (0 : Int), AV.int IntKind.u8 (0 : Int), AV.int IntKind.u8 (0 : Int), AV.int IntKind.u8 (0 : Int), AV.int IntKind.u8 (0 : Int), AV.int IntKind.u8 (0 : Int), AV.int IntKind.u8 (0 : Int), AV.int IntKind.u8 (0 : Int), AV.int IntKind.u8 (0 : Int), AV.int IntKind.u8 (0 : Int), AV.int IntKind.u8 (0 : Int), AV.int IntKind.u8 (0 : Int), AV.int IntKind.u8 (0 : Int), AV.int IntKind.u8 (0 : Int), AV.int IntKind.u8 (0 : Int), AV.int IntKind.i64 (0 : Int), AV.int IntKind.i64 (0 : Int), AV.osl (2) (3) (0) (1), AV.int IntKind.i64 (0 : Int), AV.nsl]] }, some { es := 3, n := 1, mu := true, f := Rep.lst [[AV.int IntKind.i64 (4 : Int), AV.int IntKind.i64 (4 : Int), AV.int IntKind.i64 (9 : Int)]] }]) (fun x0 => (.br (decide ((↑x0.1 : Int) < (40 : Int))) (.sc (true) 49 ([AV.agg [AV.int IntKind.i64 (23 : Int), AV.int IntKind.i64 (11 : Int), AV.int IntKind.i64 (4 : Int), AV.int IntKind.i64 (2 : Int), AV.int IntKind.i64 (3 : Int), AV.int IntKind.i64 (6 : Int)], AV.agg [AV.int IntKind.i64 (0 : Int), AV.int IntKind.i64 (0 : Int), AV.int IntKind.i64 (0 : Int), AV.int IntKind.i64 (0 : Int), AV.int IntKind.i64 (8 : Int), AV.int IntKind.u8 (0 : Int), AV.int IntKind.u8 (0 : Int), AV.int IntKind.u8 (0 : Int), AV.int IntKind.u8 (0 : Int), AV.int IntKind.u8 (0 : Int), AV.int IntKind.u8 (0 : Int), AV.int IntKind.u8 (0 : Int), AV.int IntKind.u8 (0 : Int), AV.int IntKind.u8 (0 : Int), AV.int IntKind.u8 (0 : Int), AV.int IntKind.u8 (0 : Int), AV.int IntKind.u8 (0 : Int), AV.int IntKind.u8 (0 : Int), AV.int IntKind.u8 (0 : Int), AV.int IntKind.u8 (0 : Int), AV.int IntKind.u8 (0 : Int), AV.int IntKind.u8 (0 : Int), AV.int IntKind.u8 (0 : Int), AV.int IntKind.u8 (0 : Int), AV.int IntKind.u8 (0 : Int), AV.int IntKind.u8 (0 : Int), AV.int IntKind.u8 (0 : Int), AV.int IntKind.u8 (0 : Int), AV.int IntKind.u8 (0 : Int), AV.int IntKind.u8 (0 : Int), AV.int IntKind.u8 (0 : Int), AV.int IntKind.u8 (0 : Int), AV.int IntKind.u8 (0 : Int), AV.int IntKind.u8 (0 : Int), AV.int IntKind.u8 (0 : Int), AV.int IntKind.u8 (0 : Int), AV.int IntKind.u8 (0 : Int), AV.int IntKind.i64 (0 : Int), AV.int IntKind.i64 (0 : Int), AV.int IntKind.i64 (0 : Int), AV.int IntKind.i64 (0 : Int)], AV.agg [AV.int IntKind.i64 (0 : Int), AV.int IntKind.i64 (0 : Int)], AV.agg [AV.int IntKind.u8 (0 : Int), AV.int IntKind.u8 (0 : Int), AV.int IntKind.u8 (0 : Int), AV.int IntKind.u8 (0 : Int), AV.int IntKind.u8 (0 : Int), AV.int IntKind.u8 (0 : Int), AV.int IntKind.u8 (0 : Int), AV.int IntKind.u8 (0 : Int), AV.int IntKind.u8 (0 : Int), AV.int IntKind.u8 (0 : Int), AV.int IntKind.u8 (0 : Int), AV.int IntKind.u8 (0 : Int), AV.int IntKind.u8 (0 : Int), AV.int IntKind.u8 (0 : Int), AV.int IntKind.u8 (0 : Int), AV.int IntKind.u8 (0 : Int), AV.int IntKind.u8 (0 : Int), AV.int IntKind.u8 (0 : Int), AV.int IntKind.u8 (0 : Int), AV.int IntKind.u8 (0 : Int), AV.int IntKind.u8 (0 : Int), AV.int IntKind.u8 (0 : Int), AV.int IntKind.u8 (0 : Int), AV.int IntKind.u8 (0 : Int), AV.int IntKind.u8 (0 : Int), AV.int IntKind.u8 (0 : Int), AV.int IntKind.u8 (0 : Int), AV.int IntKind.u8 (0 : Int), AV.int IntKind.u8 (0 : Int), AV.int IntKind.u8 (0 : Int), AV.int IntKind.u8 (0 : Int), AV.int IntKind.u8 (0 : Int), AV.int IntKind.i64 (0 : Int), AV.int IntKind.i64 (0 : Int)]]) (AV.int IntKind.i64 (chalN (Grp.q (Bas.gr exB)) (Spend.coin exX) (Spend.level exX) (Spend.index exX) (Spend.cxt exX))) (.sc (true) 49 ([AV.agg [AV.int IntKind.i64 (23 : Int), AV.int IntKind.i64 (11 : Int), AV.int IntKind.i64 (4 : Int), AV.int IntKind.i64 (2 : Int), AV.int IntKind.i64 (3 : Int), AV.int IntKind.i64 (6 : Int)], AV.agg [AV.int IntKind.i64 (0 : Int), AV.int IntKind.i64 (0 : Int), AV.int IntKind.i64 (0 : Int), AV.int IntKind.i64 (0 : Int), AV.int IntKind.i64 (8 : Int), AV.int IntKind.u8 (0 : Int), AV.int IntKind.u8 (0 : Int), AV.int IntKind.u8 (0 : Int), AV.int IntKind.u8 (0 : Int), AV.int IntKind.u8 (0 : Int), AV.int IntKind.u8 (0 : Int), AV.int IntKind.u8 (0 : Int), AV.int IntKind.u8 (0 : Int), AV.int IntKind.u8 (0 : Int), AV.int IntKind.u8 (0 : Int), AV.int IntKind.u8 (0 : Int), AV.int IntKind.u8 (0 : Int), AV.int IntKind.u8 (0 : Int), AV.int IntKind.u8 (0 : Int), AV.int IntKind.u8 (0 : Int), AV.int IntKind.u8 (0 : Int), AV.int IntKind.u8 (0 : Int), AV.int IntKind.u8 (0 : Int), AV.int IntKind.u8 (0 : Int), AV.int IntKind.u8 (0 : Int), AV.int IntKind.u8 (0 : Int), AV.int IntKind.u8 (0 : Int), AV.int IntKind.u8 (0 : Int), AV.int IntKind.u8 (0 : Int), AV.int IntKind.u8 (0 : Int), AV.int IntKind.u8 (0 : Int), AV.int IntKind.u8 (0 : Int), AV.int IntKind.u8 (0 : Int), AV.int IntKind.u8 (0 : Int), AV.int IntKind.u8 (0 : Int), AV.int IntKind.u8 (0 : Int), AV.int IntKind.u8 (0 : Int), AV.int IntKind.i64 (0 : Int), AV.int IntKind.i64 (0 : Int), AV.int IntKind.i64 (0 : Int), AV.int IntKind.i64 (0 : Int)], AV.agg [AV.int IntKind.i64 (0 : Int), AV.int IntKind.i64 (0 : Int)], AV.agg [AV.int IntKind.u8 (0 : Int), AV.int IntKind.u8 (0 : Int), AV.int IntKind.u8 (0 : Int), AV.int IntKind.u8 (0 : Int), AV.int IntKind.u8 (0 : Int), AV.int IntKind.u8 (0 : Int), AV.int IntKind.u8 (0 : Int), AV.int IntKind.u8 (0 : Int), AV.int IntKind.u8 (0 : Int), AV.int IntKind.u8 (0 : Int), AV.int IntKind.u8 (0 : Int), AV.int IntKind.u8 (0 : Int), AV.int IntKind.u8 (0 : Int), AV.int IntKind.u8 (0 : Int), AV.int IntKind.u8 (0 : Int), AV.int IntKind.u8 (0 : Int), AV.int IntKind.u8 (0 : Int), AV.int IntKind.u8 (0 : Int), AV.int IntKind.u8 (0 : Int), AV.int IntKind.u8 (0 : Int), AV.int IntKind.u8 (0 : Int), AV.int IntKind.u8 (0 : Int), AV.int IntKind.u8 (0 : Int), AV.int IntKind.u8 (0 : Int), AV.int IntKind.u8 (0 : Int), AV.int IntKind.u8 (0 : Int), AV.int IntKind.u8 (0 : Int), AV.int IntKind.u8 (0 : Int), AV.int IntKind.u8 (0 : Int), AV.int IntKind.u8 (0 : Int), AV.int IntKind.u8 (0 : Int), AV.int IntKind.u8 (0 : Int), AV.int IntKind.i64 (0 : Int), AV.int IntKind.i64 (↑x0.1 : Int)]]) (AV.int IntKind.i64 (chalN (Grp.q (Bas.gr exB)) (Spend.coin (exY ↑x0.1)) (Spend.level (exY ↑x0.1)) (Spend.index (exY ↑x0.1)) (Spend.cxt (exY ↑x0.1)))) (.br (chalN (11 : Int) (Spend.coin exX) (0 : Int) (0 : Int) (Spend.cxt exX) == chalN (11 : Int) (Spend.coin (exY ↑x0.1)) (0 : Int) (0 : Int) (Spend.cxt (exY ↑x0.1))) (.again (Again (0) (fun (x : { x : Nat // x ≤ (40 : Nat) }) => mkSt [1, 2, 11, 15] [AV.own (0) (6) (0) (0) (6), AV.own (1) (80) (0) (0) (80), AV.agg [AV.int IntKind.i64 (0 : Int), AV.int IntKind.i64 (0 : Int), AV.int IntKind.i64 (0 : Int), AV.int IntKind.i64 (0 : Int), AV.int IntKind.i64 (8 : Int), AV.int IntKind.u8 (0 : Int), AV.int IntKind.u8 (0 : Int), AV.int IntKind.u8 (0 : Int), AV.int IntKind.u8 (0 : Int), AV.int IntKind.u8 (0 : Int), AV.int IntKind.u8 (0 : Int), AV.int IntKind.u8 (0 : Int), AV.int IntKind.u8 (0 : Int), AV.int IntKind.u8 (0 : Int), AV.int IntKind.u8 (0 : Int), AV.int IntKind.u8 (0 : Int), AV.int IntKind.u8 (0 : Int), AV.int IntKind.u8 (0 : Int), AV.int IntKind.u8 (0 : Int), AV.int IntKind.u8 (0 : Int), AV.int IntKind.u8 (0 : Int), AV.int IntKind.u8 (0 : Int), AV.int IntKind.u8 (0 : Int), AV.int IntKind.u8 (0 : Int), AV.int IntKind.u8 (0 : Int), AV.int IntKind.u8 (0 : Int), AV.int IntKind.u8 (0 : Int), AV.int IntKind.u8 (0 : Int), AV.int IntKind.u8 (0 : Int), AV.int IntKind.u8 (0 : Int), AV.int IntKind.u8 (0 : Int), AV.int IntKind.u8 (0 : Int), AV.int IntKind.u8 (0 : Int), AV.int IntKind.u8 (0 : Int), AV.int IntKind.u8 (0 : Int), AV.int IntKind.u8 (0 : Int), AV.int IntKind.u8 (0 : Int), AV.int IntKind.i64 (0 : Int), AV.int IntKind.i64 (0 : Int), AV.int IntKind.i64 (0 : Int), AV.int IntKind.i64 (0 : Int)], AV.int IntKind.i64 (↑(Subtype.val x) : Int)] [some { es := 6, n := 1, mu := true, f := Rep.lst [[AV.int IntKind.i64 (23 : Int), AV.int IntKind.i64 (11 : Int), AV.int IntKind.i64 (4 : Int), AV.int IntKind.i64 (2 : Int), AV.int IntKind.i64 (3 : Int), AV.int IntKind.i64 (6 : Int)]] }, some { es := 80, n := 1, mu := true, f := Rep.lst [[AV.int IntKind.i64 (0 : Int), AV.int IntKind.i64 (0 : Int), AV.int IntKind.i64 (0 : Int), AV.int IntKind.i64 (0 : Int), AV.int IntKind.i64 (8 : Int), AV.int IntKind.u8 (0 : Int), AV.int IntKind.u8 (0 : Int), AV.int IntKind.u8 (0 : Int), AV.int IntKind.u8 (0 : Int), AV.int IntKind.u8 (0 : Int), AV.int IntKind.u8 (0 : Int), AV.int IntKind.u8 (0 : Int), AV.int IntKind.u8 (0 : Int), AV.int IntKind.u8 (0 : Int), AV.int IntKind.u8 (0 : Int), AV.int IntKind.u8 (0 : Int), AV.int IntKind.u8 (0 : Int), AV.int IntKind.u8 (0 : Int), AV.int IntKind.u8 (0 : Int), AV.int IntKind.u8 (0 : Int), AV.int IntKind.u8 (0 : Int), AV.int IntKind.u8 (0 : Int), AV.int IntKind.u8 (0 : Int), AV.int IntKind.u8 (0 : Int), AV.int IntKind.u8 (0 : Int), AV.int IntKind.u8 (0 : Int), AV.int IntKind.u8 (0 : Int), AV.int IntKind.u8 (0 : Int), AV.int IntKind.u8 (0 : Int), AV.int IntKind.u8 (0 : Int), AV.int IntKind.u8 (0 : Int), AV.int IntKind.u8 (0 : Int), AV.int IntKind.u8 (0 : Int), AV.int IntKind.u8 (0 : Int), AV.int IntKind.u8 (0 : Int), AV.int IntKind.u8 (0 : Int), AV.int IntKind.u8 (0 : Int), AV.int IntKind.i64 (0 : Int), AV.int IntKind.i64 (0 : Int), AV.int IntKind.i64 (0 : Int), AV.int IntKind.i64 (0 : Int), AV.int IntKind.i64 (0 : Int), AV.int IntKind.i64 (0 : Int), AV.int IntKind.u8 (0 : Int), AV.int IntKind.u8 (0 : Int), AV.int IntKind.u8 (0 : Int), AV.int IntKind.u8 (0 : Int), AV.int IntKind.u8 (0 : Int), AV.int IntKind.u8 (0 : Int), AV.int IntKind.u8 (0 : Int), AV.int IntKind.u8 (0 : Int), AV.int IntKind.u8 (0 : Int), AV.int IntKind.u8 (0 : Int), AV.int IntKind.u8 (0 : Int), AV.int IntKind.u8 (0 : Int), AV.int IntKind.u8 (0 : Int), AV.int IntKind.u8 (0 : Int), AV.int IntKind.u8 (0 : Int), AV.int IntKind.u8 (0 : Int), AV.int IntKind.u8 (0 : Int), AV.int IntKind.u8 (0 : Int), AV.int IntKind.u8 (0 : Int), AV.int IntKind.u8 (0 : Int), AV.int IntKind.u8 (0 : Int), AV.int IntKind.u8 (0 : Int), AV.int IntKind.u8 (0 : Int), AV.int IntKind.u8 (0 : Int), AV.int IntKind.u8 (0 : Int), AV.int IntKind.u8 (0 : Int), AV.int IntKind.u8 (0 : Int), AV.int IntKind.u8 (0 : Int), AV.int IntKind.u8 (0 : Int), AV.int IntKind.u8 (0 : Int), AV.int IntKind.u8 (0 : Int), AV.int IntKind.u8 (0 : Int), AV.int IntKind.i64 (0 : Int), AV.int IntKind.i64 (0 : Int), AV.osl (2) (3) (0) (1), AV.int IntKind.i64 (0 : Int), AV.nsl]] }, some { es := 3, n := 1, mu := true, f := Rep.lst [[AV.int IntKind.i64 (4 : Int), AV.int IntKind.i64 (4 : Int), AV.int IntKind.i64 (9 : Int)]] }]) (fun (x : { x : Nat // x ≤ (40 : Nat) }) => (40 : Nat) - Subtype.val x) x0) ([1, 2, 11, 15]) ([0, 1, 2]) ([AV.own (0) (6) (0) (0) (6), AV.own (1) (80) (0) (0) (80), AV.agg [AV.int IntKind.i64 (0 : Int), AV.int IntKind.i64 (0 : Int), AV.int IntKind.i64 (0 : Int), AV.int IntKind.i64 (0 : Int), AV.int IntKind.i64 (8 : Int), AV.int IntKind.u8 (0 : Int), AV.int IntKind.u8 (0 : Int), AV.int IntKind.u8 (0 : Int), AV.int IntKind.u8 (0 : Int), AV.int IntKind.u8 (0 : Int), AV.int IntKind.u8 (0 : Int), AV.int IntKind.u8 (0 : Int), AV.int IntKind.u8 (0 : Int), AV.int IntKind.u8 (0 : Int), AV.int IntKind.u8 (0 : Int), AV.int IntKind.u8 (0 : Int), AV.int IntKind.u8 (0 : Int), AV.int IntKind.u8 (0 : Int), AV.int IntKind.u8 (0 : Int), AV.int IntKind.u8 (0 : Int), AV.int IntKind.u8 (0 : Int), AV.int IntKind.u8 (0 : Int), AV.int IntKind.u8 (0 : Int), AV.int IntKind.u8 (0 : Int), AV.int IntKind.u8 (0 : Int), AV.int IntKind.u8 (0 : Int), AV.int IntKind.u8 (0 : Int), AV.int IntKind.u8 (0 : Int), AV.int IntKind.u8 (0 : Int), AV.int IntKind.u8 (0 : Int), AV.int IntKind.u8 (0 : Int), AV.int IntKind.u8 (0 : Int), AV.int IntKind.u8 (0 : Int), AV.int IntKind.u8 (0 : Int), AV.int IntKind.u8 (0 : Int), AV.int IntKind.u8 (0 : Int), AV.int IntKind.u8 (0 : Int), AV.int IntKind.i64 (0 : Int), AV.int IntKind.i64 (0 : Int), AV.int IntKind.i64 (0 : Int), AV.int IntKind.i64 (0 : Int)], AV.int IntKind.i64 (IntKind.wrap IntKind.i64 ((↑x0.1 : Int) + (1 : Int)))]) ([some { es := 6, n := 1, mu := true, f := Rep.lst [[AV.int IntKind.i64 (23 : Int), AV.int IntKind.i64 (11 : Int), AV.int IntKind.i64 (4 : Int), AV.int IntKind.i64 (2 : Int), AV.int IntKind.i64 (3 : Int), AV.int IntKind.i64 (6 : Int)]] }, some { es := 80, n := 1, mu := true, f := Rep.lst [[AV.int IntKind.i64 (0 : Int), AV.int IntKind.i64 (0 : Int), AV.int IntKind.i64 (0 : Int), AV.int IntKind.i64 (0 : Int), AV.int IntKind.i64 (8 : Int), AV.int IntKind.u8 (0 : Int), AV.int IntKind.u8 (0 : Int), AV.int IntKind.u8 (0 : Int), AV.int IntKind.u8 (0 : Int), AV.int IntKind.u8 (0 : Int), AV.int IntKind.u8 (0 : Int), AV.int IntKind.u8 (0 : Int), AV.int IntKind.u8 (0 : Int), AV.int IntKind.u8 (0 : Int), AV.int IntKind.u8 (0 : Int), AV.int IntKind.u8 (0 : Int), AV.int IntKind.u8 (0 : Int), AV.int IntKind.u8 (0 : Int), AV.int IntKind.u8 (0 : Int), AV.int IntKind.u8 (0 : Int), AV.int IntKind.u8 (0 : Int), AV.int IntKind.u8 (0 : Int), AV.int IntKind.u8 (0 : Int), AV.int IntKind.u8 (0 : Int), AV.int IntKind.u8 (0 : Int), AV.int IntKind.u8 (0 : Int), AV.int IntKind.u8 (0 : Int), AV.int IntKind.u8 (0 : Int), AV.int IntKind.u8 (0 : Int), AV.int IntKind.u8 (0 : Int), AV.int IntKind.u8 (0 : Int), AV.int IntKind.u8 (0 : Int), AV.int IntKind.u8 (0 : Int), AV.int IntKind.u8 (0 : Int), AV.int IntKind.u8 (0 : Int), AV.int IntKind.u8 (0 : Int), AV.int IntKind.u8 (0 : Int), AV.int IntKind.i64 (0 : Int), AV.int IntKind.i64 (0 : Int), AV.int IntKind.i64 (0 : Int), AV.int IntKind.i64 (0 : Int), AV.int IntKind.i64 (0 : Int), AV.int IntKind.i64 (0 : Int), AV.int IntKind.u8 (0 : Int), AV.int IntKind.u8 (0 : Int), AV.int IntKind.u8 (0 : Int), AV.int IntKind.u8 (0 : Int), AV.int IntKind.u8 (0 : Int), AV.int IntKind.u8 (0 : Int), AV.int IntKind.u8 (0 : Int), AV.int IntKind.u8 (0 : Int), AV.int IntKind.u8 (0 : Int), AV.int IntKind.u8 (0 : Int), AV.int IntKind.u8 (0 : Int), AV.int IntKind.u8 (0 : Int), AV.int IntKind.u8 (0 : Int), AV.int IntKind.u8 (0 : Int), AV.int IntKind.u8 (0 : Int), AV.int IntKind.u8 (0 : Int), AV.int IntKind.u8 (0 : Int), AV.int IntKind.u8 (0 : Int), AV.int IntKind.u8 (0 : Int), AV.int IntKind.u8 (0 : Int), AV.int IntKind.u8 (0 : Int), AV.int IntKind.u8 (0 : Int), AV.int IntKind.u8 (0 : Int), AV.int IntKind.u8 (0 : Int), AV.int IntKind.u8 (0 : Int), AV.int IntKind.u8 (0 : Int), AV.int IntKind.u8 (0 : Int), AV.int IntKind.u8 (0 : Int), AV.int IntKind.u8 (0 : Int), AV.int IntKind.u8 (0 : Int), AV.int IntKind.u8 (0 : Int), AV.int IntKind.u8 (0 : Int), AV.int IntKind.i64 (0 : Int), AV.int IntKind.i64 (0 : Int), AV.osl (2) (3) (0) (1), AV.int IntKind.i64 (0 : Int), AV.nsl]] }, some { es := 3, n := 1, mu := true, f := Rep.lst [[AV.int IntKind.i64 (4 : Int), AV.int IntKind.i64 (4 : Int), AV.int IntKind.i64 (9 : Int)]] }])) (.sc (true) 19 ([AV.agg [AV.int IntKind.i64 (23 : Int), AV.int IntKind.i64 (11 : Int), AV.int IntKind.i64 (4 : Int), AV.int IntKind.i64 (2 : Int), AV.int IntKind.i64 (3 : Int), AV.int IntKind.i64 (6 : Int)], AV.agg [AV.int IntKind.i64 (0 : Int), AV.int IntKind.i64 (0 : Int), AV.int IntKind.i64 (0 : Int), AV.int IntKind.i64 (0 : Int), AV.int IntKind.i64 (8 : Int), AV.int IntKind.u8 (0 : Int), AV.int IntKind.u8 (0 : Int), AV.int IntKind.u8 (0 : Int), AV.int IntKind.u8 (0 : Int), AV.int IntKind.u8 (0 : Int), AV.int IntKind.u8 (0 : Int), AV.int IntKind.u8 (0 : Int), AV.int IntKind.u8 (0 : Int), AV.int IntKind.u8 (0 : Int), AV.int IntKind.u8 (0 : Int), AV.int IntKind.u8 (0 : Int), AV.int IntKind.u8 (0 : Int), AV.int IntKind.u8 (0 : Int), AV.int IntKind.u8 (0 : Int), AV.int IntKind.u8 (0 : Int), AV.int IntKind.u8 (0 : Int), AV.int IntKind.u8 (0 : Int), AV.int IntKind.u8 (0 : Int), AV.int IntKind.u8 (0 : Int), AV.int IntKind.u8 (0 : Int), AV.int IntKind.u8 (0 : Int), AV.int IntKind.u8 (0 : Int), AV.int IntKind.u8 (0 : Int), AV.int IntKind.u8 (0 : Int), AV.int IntKind.u8 (0 : Int), AV.int IntKind.u8 (0 : Int), AV.int IntKind.u8 (0 : Int), AV.int IntKind.u8 (0 : Int), AV.int IntKind.u8 (0 : Int), AV.int IntKind.u8 (0 : Int), AV.int IntKind.u8 (0 : Int), AV.int IntKind.u8 (0 : Int), AV.int IntKind.i64 (0 : Int), AV.int IntKind.i64 (0 : Int), AV.int IntKind.i64 (0 : Int), AV.int IntKind.i64 (0 : Int), AV.int IntKind.i64 (0 : Int), AV.int IntKind.i64 (0 : Int), AV.int IntKind.u8 (0 : Int), AV.int IntKind.u8 (0 : Int), AV.int IntKind.u8 (0 : Int), AV.int IntKind.u8 (0 : Int), AV.int IntKind.u8 (0 : Int), AV.int IntKind.u8 (0 : Int), AV.int IntKind.u8 (0 : Int), AV.int IntKind.u8 (0 : Int), AV.int IntKind.u8 (0 : Int), AV.int IntKind.u8 (0 : Int), AV.int IntKind.u8 (0 : Int), AV.int IntKind.u8 (0 : Int), AV.int IntKind.u8 (0 : Int), AV.int IntKind.u8 (0 : Int), AV.int IntKind.u8 (0 : Int), AV.int IntKind.u8 (0 : Int), AV.int IntKind.u8 (0 : Int), AV.int IntKind.u8 (0 : Int), AV.int IntKind.u8 (0 : Int), AV.int IntKind.u8 (0 : Int), AV.int IntKind.u8 (0 : Int), AV.int IntKind.u8 (0 : Int), AV.int IntKind.u8 (0 : Int), AV.int IntKind.u8 (0 : Int), AV.int IntKind.u8 (0 : Int), AV.int IntKind.u8 (0 : Int), AV.int IntKind.u8 (0 : Int), AV.int IntKind.u8 (0 : Int), AV.int IntKind.u8 (0 : Int), AV.int IntKind.u8 (0 : Int), AV.int IntKind.u8 (0 : Int), AV.int IntKind.u8 (0 : Int), AV.int IntKind.i64 (0 : Int), AV.int IntKind.i64 (0 : Int), AV.isl (3) (1) fun (r k : Nat) => atL (List.getD [[AV.int IntKind.i64 (4 : Int), AV.int IntKind.i64 (4 : Int), AV.int IntKind.i64 (9 : Int)]] (r + 0) []) k, AV.int IntKind.i64 (0 : Int), AV.nsl], AV.agg [AV.int IntKind.i64 (0 : Int), AV.int IntKind.i64 (0 : Int), AV.int IntKind.i64 (0 : Int), AV.int IntKind.i64 (0 : Int), AV.int IntKind.i64 (8 : Int), AV.int IntKind.u8 (0 : Int), AV.int IntKind.u8 (0 : Int), AV.int IntKind.u8 (0 : Int), AV.int IntKind.u8 (0 : Int), AV.int IntKind.u8 (0 : Int), AV.int IntKind.u8 (0 : Int), AV.int IntKind.u8 (0 : Int), AV.int IntKind.u8 (0 : Int), AV.int IntKind.u8 (0 : Int), AV.int IntKind.u8 (0 : Int), AV.int IntKind.u8 (0 : Int), AV.int IntKind.u8 (0 : Int), AV.int IntKind.u8 (0 : Int), AV.int IntKind.u8 (0 : Int), AV.int IntKind.u8 (0 : Int), AV.int IntKind.u8 (0 : Int), AV.int IntKind.u8 (0 : Int), AV.int IntKind.u8 (0 : Int), AV.int IntKind.u8 (0 : Int), AV.int IntKind.u8 (0 : Int), AV.int IntKind.u8 (0 : Int), AV.int IntKind.u8 (0 : Int), AV.int IntKind.u8 (0 : Int), AV.int IntKind.u8 (0 : Int), AV.int IntKind.u8 (0 : Int), AV.int IntKind.u8 (0 : Int), AV.int IntKind.u8 (0 : Int), AV.int IntKind.u8 (0 : Int), AV.int IntKind.u8 (0 : Int), AV.int IntKind.u8 (0 : Int), AV.int IntKind.u8 (0 : Int), AV.int IntKind.u8 (0 : Int), AV.int IntKind.i64 (0 : Int), AV.int IntKind.i64 (0 : Int), AV.int IntKind.i64 (0 : Int), AV.int IntKind.i64 (0 : Int), AV.int IntKind.i64 (0 : Int), AV.int IntKind.i64 (0 : Int), AV.int IntKind.u8 (0 : Int), AV.int IntKind.u8 (0 : Int), AV.int IntKind.u8 (0 : Int), AV.int IntKind.u8 (0 : Int), AV.int IntKind.u8 (0 : Int), AV.int IntKind.u8 (0 : Int), AV.int IntKind.u8 (0 : Int), AV.int IntKind.u8 (0 : Int), AV.int IntKind.u8 (0 : Int), AV.int IntKind.u8 (0 : Int), AV.int IntKind.u8 (0 : Int), AV.int IntKind.u8 (0 : Int), AV.int IntKind.u8 (0 : Int), AV.int IntKind.u8 (0 : Int), AV.int IntKind.u8 (0 : Int), AV.int IntKind.u8 (0 : Int), AV.int IntKind.u8 (0 : Int), AV.int IntKind.u8 (0 : Int), AV.int IntKind.u8 (0 : Int), AV.int IntKind.u8 (0 : Int), AV.int IntKind.u8 (0 : Int), AV.int IntKind.u8 (0 : Int), AV.int IntKind.u8 (0 : Int), AV.int IntKind.u8 (0 : Int), AV.int IntKind.u8 (0 : Int), AV.int IntKind.u8 (0 : Int), AV.int IntKind.u8 (0 : Int), AV.int IntKind.u8 (0 : Int), AV.int IntKind.u8 (0 : Int), AV.int IntKind.u8 (0 : Int), AV.int IntKind.u8 (0 : Int), AV.int IntKind.u8 (0 : Int), AV.int IntKind.i64 (0 : Int), AV.int IntKind.i64 (↑x0.1 : Int), AV.isl (3) (1) fun (r k : Nat) => atL (List.getD [[AV.int IntKind.i64 (4 : Int), AV.int IntKind.i64 (6 : Int), AV.int IntKind.i64 (1 : Int)]] (r + 0) []) k, AV.int IntKind.i64 (0 : Int), AV.nsl], AV.int IntKind.i64 (0 : Int)]) (AV.tup [AV.int IntKind.i64 (8 : Int), AV.int IntKind.i64 (0 : Int)]) (.dc (true) 50 ([AV.agg [AV.int IntKind.i64 (0 : Int), AV.int IntKind.i64 (0 : Int), AV.int IntKind.i64 (0 : Int), AV.int IntKind.i64 (0 : Int), AV.int IntKind.i64 (8 : Int), AV.int IntKind.u8 (0 : Int), AV.int IntKind.u8 (0 : Int), AV.int IntKind.u8 (0 : Int), AV.int IntKind.u8 (0 : Int), AV.int IntKind.u8 (0 : Int), AV.int IntKind.u8 (0 : Int), AV.int IntKind.u8 (0 : Int), AV.int IntKind.u8 (0 : Int), AV.int IntKind.u8 (0 : Int), AV.int IntKind.u8 (0 : Int), AV.int IntKind.u8 (0 : Int), AV.int IntKind.u8 (0 : Int), AV.int IntKind.u8 (0 : Int), AV.int IntKind.u8 (0 : Int), AV.int IntKind.u8 (0 : Int), AV.int IntKind.u8 (0 : Int), AV.int IntKind.u8 (0 : Int), AV.int IntKind.u8 (0 : Int), AV.int IntKind.u8 (0 : Int), AV.int IntKind.u8 (0 : Int), AV.int IntKind.u8 (0 : Int), AV.int IntKind.u8 (0 : Int), AV.int IntKind.u8 (0 : Int), AV.int IntKind.u8 (0 : Int), AV.int IntKind.u8 (0 : Int), AV.int IntKind.u8 (0 : Int), AV.int IntKind.u8 (0 : Int), AV.int IntKind.u8 (0 : Int), AV.int IntKind.u8 (0 : Int), AV.int IntKind.u8 (0 : Int), AV.int IntKind.u8 (0 : Int), AV.int IntKind.u8 (0 : Int), AV.int IntKind.i64 (0 : Int), AV.int IntKind.i64 (0 : Int), AV.int IntKind.i64 (0 : Int), AV.int IntKind.i64 (0 : Int), AV.int IntKind.i64 (0 : Int), AV.int IntKind.i64 (0 : Int), AV.int IntKind.u8 (0 : Int), AV.int IntKind.u8 (0 : Int), AV.int IntKind.u8 (0 : Int), AV.int IntKind.u8 (0 : Int), AV.int IntKind.u8 (0 : Int), AV.int IntKind.u8 (0 : Int), AV.int IntKind.u8 (0 : Int), AV.int IntKind.u8 (0 : Int), AV.int IntKind.u8 (0 : Int), AV.int IntKind.u8 (0 : Int), AV.int IntKind.u8 (0 : Int), AV.int IntKind.u8 (0 : Int), AV.int IntKind.u8 (0 : Int), AV.int IntKind.u8 (0 : Int), AV.int IntKind.u8 (0 : Int), AV.int IntKind.u8 (0 : Int), AV.int IntKind.u8 (0 : Int), AV.int IntKind.u8 (0 : Int), AV.int IntKind.u8 (0 : Int), AV.int IntKind.u8 (0 : Int), AV.int IntKind.u8 (0 : Int), AV.int IntKind.u8 (0 : Int), AV.int IntKind.u8 (0 : Int), AV.int IntKind.u8 (0 : Int), AV.int IntKind.u8 (0 : Int), AV.int IntKind.u8 (0 : Int), AV.int IntKind.u8 (0 : Int), AV.int IntKind.u8 (0 : Int), AV.int IntKind.u8 (0 : Int), AV.int IntKind.u8 (0 : Int), AV.int IntKind.u8 (0 : Int), AV.int IntKind.u8 (0 : Int), AV.int IntKind.i64 (0 : Int), AV.int IntKind.i64 (0 : Int), AV.isl (3) (1) fun (r k : Nat) => atL (List.getD [[AV.int IntKind.i64 (4 : Int), AV.int IntKind.i64 (4 : Int), AV.int IntKind.i64 (9 : Int)]] (r + 0) []) k, AV.int IntKind.i64 (0 : Int), AV.nsl], AV.agg [AV.int IntKind.i64 (0 : Int), AV.int IntKind.i64 (0 : Int), AV.int IntKind.i64 (0 : Int), AV.int IntKind.i64 (0 : Int), AV.int IntKind.i64 (8 : Int), AV.int IntKind.u8 (0 : Int), AV.int IntKind.u8 (0 : Int), AV.int IntKind.u8 (0 : Int), AV.int IntKind.u8 (0 : Int), AV.int IntKind.u8 (0 : Int), AV.int IntKind.u8 (0 : Int), AV.int IntKind.u8 (0 : Int), AV.int IntKind.u8 (0 : Int), AV.int IntKind.u8 (0 : Int), AV.int IntKind.u8 (0 : Int), AV.int IntKind.u8 (0 : Int), AV.int IntKind.u8 (0 : Int), AV.int IntKind.u8 (0 : Int), AV.int IntKind.u8 (0 : Int), AV.int IntKind.u8 (0 : Int), AV.int IntKind.u8 (0 : Int), AV.int IntKind.u8 (0 : Int), AV.int IntKind.u8 (0 : Int), AV.int IntKind.u8 (0 : Int), AV.int IntKind.u8 (0 : Int), AV.int IntKind.u8 (0 : Int), AV.int IntKind.u8 (0 : Int), AV.int IntKind.u8 (0 : Int), AV.int IntKind.u8 (0 : Int), AV.int IntKind.u8 (0 : Int), AV.int IntKind.u8 (0 : Int), AV.int IntKind.u8 (0 : Int), AV.int IntKind.u8 (0 : Int), AV.int IntKind.u8 (0 : Int), AV.int IntKind.u8 (0 : Int), AV.int IntKind.u8 (0 : Int), AV.int IntKind.u8 (0 : Int), AV.int IntKind.i64 (0 : Int), AV.int IntKind.i64 (0 : Int), AV.int IntKind.i64 (0 : Int), AV.int IntKind.i64 (0 : Int), AV.int IntKind.i64 (0 : Int), AV.int IntKind.i64 (0 : Int), AV.int IntKind.u8 (0 : Int), AV.int IntKind.u8 (0 : Int), AV.int IntKind.u8 (0 : Int), AV.int IntKind.u8 (0 : Int), AV.int IntKind.u8 (0 : Int), AV.int IntKind.u8 (0 : Int), AV.int IntKind.u8 (0 : Int), AV.int IntKind.u8 (0 : Int), AV.int IntKind.u8 (0 : Int), AV.int IntKind.u8 (0 : Int), AV.int IntKind.u8 (0 : Int), AV.int IntKind.u8 (0 : Int), AV.int IntKind.u8 (0 : Int), AV.int IntKind.u8 (0 : Int), AV.int IntKind.u8 (0 : Int), AV.int IntKind.u8 (0 : Int), AV.int IntKind.u8 (0 : Int), AV.int IntKind.u8 (0 : Int), AV.int IntKind.u8 (0 : Int), AV.int IntKind.u8 (0 : Int), AV.int IntKind.u8 (0 : Int), AV.int IntKind.u8 (0 : Int), AV.int IntKind.u8 (0 : Int), AV.int IntKind.u8 (0 : Int), AV.int IntKind.u8 (0 : Int), AV.int IntKind.u8 (0 : Int), AV.int IntKind.u8 (0 : Int), AV.int IntKind.u8 (0 : Int), AV.int IntKind.u8 (0 : Int), AV.int IntKind.u8 (0 : Int), AV.int IntKind.u8 (0 : Int), AV.int IntKind.u8 (0 : Int), AV.int IntKind.i64 (0 : Int), AV.int IntKind.i64 (↑x0.1 : Int), AV.isl (3) (1) fun (r k : Nat) => atL (List.getD [[AV.int IntKind.i64 (4 : Int), AV.int IntKind.i64 (6 : Int), AV.int IntKind.i64 (1 : Int)]] (r + 0) []) k, AV.int IntKind.i64 (0 : Int), AV.nsl]]) (AV.tup [il IntKind.i64 [(0 : Int)], AV.int IntKind.i64 (0 : Int)]) (.sc (true) 51 ([AV.isl (1) (1) fun (i x : Nat) => AV.int IntKind.i64 (List.getD [(0 : Int)] i (0 : Int)), AV.isl (1) (1) fun (r k : Nat) => atL (List.getD [[AV.int IntKind.i64 (0 : Int)]] (r + 0) []) k]) (AV.bool true) (.out (AV.bool true) [] (AV.bool true) []))))))) (.out (AV.bool true) [] (AV.bool true) []))))
    (by kernel_rfl) ?_
  --LOOPINFO kept [1, 2, 11] changed [15] objects [24, 72, 56]
  --LOOPINFO   obj 0: some { es := 6, n := 1, mu := true, f := Rep.lst [[AV.int IntKind.i64 (23 : Int), AV.int IntKind.i64 (11 : Int), AV.int IntKind.i64 (4 : Int), AV.int IntKind.i64 (2 : Int), AV.int IntKind.i64 (3 : Int), AV.int IntKind.i64 (6 : Int)]] }
  --LOOPINFO   obj 1: some { es := 80, n := 1, mu := true, f := Rep.lst [[AV.int IntKind.i64 (0 : Int), AV.int IntKind.i64 (0 : Int), AV.int IntKind.i64 (0 : Int), AV.int IntKind.i64 (0 : Int), AV.int IntKind.i64 (8 : Int), AV.int IntKind.u8 (0 : Int), AV.int IntKind.u8 (0 : Int), AV.int IntKind.u8 (0 : Int), AV.int IntKind.u8 (0 : Int), AV.int IntKind.u8 (0 : Int), AV.int IntKind.u8 (0 : Int), AV.int IntKind.u8 (0 : Int), AV.int IntKind.u8 (0 : Int), AV.int IntKind.u8 (0 : Int), AV.int IntKind.u8 (0 : Int), AV.int IntKind.u8 (0 : Int), AV.int IntKind.u8 (0 : Int), AV.int IntKind.u8 (0 : Int), AV.int IntKind.u8 (0 : Int), AV.int IntKind.u8 (0 : Int), AV.int IntKind.u8 (0 : Int), AV.int IntKind.u8 (0 : Int), AV.int IntKind.u8 (0 : Int), AV.int IntKind.u8 (0 : Int), AV.int IntKind.u8 (0 : Int), AV.int IntKind.u8 (0 : Int), AV.int IntKind.u8 (0 : Int), AV.int IntKind.u8 (0 : Int), AV.int IntKind.u8 (0 : Int), AV.int IntKind.u8 (0 : Int), AV.int IntKind.u8 (0 : Int), AV.int IntKind.u8 (0 : Int), AV.int IntKind.u8 (0 : Int), AV.int IntKind.u8 (0 : Int), AV.int IntKind.u8 (0 : Int), AV.int IntKind.u8 (0 : Int), AV.int IntKind.u8 (0 : Int), AV.int IntKind.i64 (0 : Int), AV.int IntKind.i64 (0 : Int), AV.int IntKind.i64 (0 : Int), AV.int IntKind.i64 (0 : Int), AV.int IntKind.i64 (0 : Int), AV.int IntKind.i64 (0 : Int), AV.int IntKind.u8 (0 : Int), AV.int IntKind.u8 (0 : Int), AV.int IntKind.u8 (0 : Int), AV.int IntKind.u8 (0 : Int), AV.int IntKind.u8 (0 : Int), AV.int IntKind.u8 (0 : Int), AV.int IntKind.u8 (0 : Int), AV.int IntKind.u8 (0 : Int), AV.int IntKind.u8 (0 : Int), AV.int IntKind.u8 (0 : Int), AV.int IntKind.u8 (0 : Int), AV.int IntKind.u8 (0 : Int), AV.int IntKind.u8 (0 : Int), AV.int IntKind.u8 (0 : Int), AV.int IntKind.u8 (0 : Int), AV.int IntKind.u8 (0 : Int), AV.int IntKind.u8 (0 : Int), AV.int IntKind.u8 (0 : Int), AV.int IntKind.u8 (0 : Int), AV.int IntKind.u8 (0 : Int), AV.int IntKind.u8 (0 : Int), AV.int IntKind.u8 (0 : Int), AV.int IntKind.u8 (0 : Int), AV.int IntKind.u8 (0 : Int), AV.int IntKind.u8 (0 : Int), AV.int IntKind.u8 (0 : Int), AV.int IntKind.u8 (0 : Int), AV.int IntKind.u8 (0 : Int), AV.int IntKind.u8 (0 : Int), AV.int IntKind.u8 (0 : Int), AV.int IntKind.u8 (0 : Int), AV.int IntKind.u8 (0 : Int), AV.int IntKind.i64 (0 : Int), AV.int IntKind.i64 (0 : Int), AV.osl (2) (3) (0) (1), AV.int IntKind.i64 (0 : Int), AV.nsl]] }
  --LOOPINFO   obj 2: some { es := 3, n := 1, mu := true, f := Rep.lst [[AV.int IntKind.i64 (4 : Int), AV.int IntKind.i64 (4 : Int), AV.int IntKind.i64 (9 : Int)]] }
  refine k_loop (fun _ hs => hs.le (by repeat' (first | exact trivial | (first | exact Ent.refl _ | exact inc_ent (by omega) | exact Ent.nil rfl | exact Ent.of_eq (congrArg (AV.osl _ _ _) (by first | omega | (dsimp only; omega))) | exact Ent.of_eq (congrArg (AV.int _) (by first | omega | (dsimp only; omega)))) | refine And.intro ?_ ?_)) (by repeat' (first | exact trivial | (first | exact ObEnt.refl _ | exact ObEnt.junk | exact ObEnt.zero | exact ObEnt.push rfl rfl | exact ObEnt.pushRow rfl | exact ObEnt.len (by omega) | exact ObEnt.row (by repeat' (first | exact trivial | (first | exact Ent.refl _ | exact inc_ent (by omega) | exact Ent.nil rfl | exact Ent.of_eq (congrArg (AV.osl _ _ _) (by first | omega | (dsimp only; omega))) | exact Ent.of_eq (congrArg (AV.int _) (by first | omega | (dsimp only; omega)))) | refine And.intro ?_ ?_))) | refine And.intro ?_ ?_))) (fun x0 => ?_)
  try (have q0 := x0.2; dsimp only at q0)
  refine k_br (fun h1 => ?_) (fun h1 => ?_)
  · have g1 := cnd_dec_t h1
    refine k_sc (c1) ?_
    refine k_sc (c2 (↑x0.1)) ?_
    refine k_br (fun h4 => ?_) (fun h4 => ?_)
    · have g4 := cnd_beq_t h4
      exact k_again (⟨x0.1 + 1, by omega⟩) (fun _ hs => hs.le (by repeat' (first | exact trivial | (first | exact Ent.refl _ | exact inc_ent (by omega) | exact Ent.nil rfl | exact Ent.of_eq (congrArg (AV.osl _ _ _) (by first | omega | (dsimp only; omega))) | exact Ent.of_eq (congrArg (AV.int _) (by first | omega | (dsimp only; omega)))) | refine And.intro ?_ ?_)) (by repeat' (first | exact trivial | (first | exact ObEnt.refl _ | exact ObEnt.junk | exact ObEnt.zero | exact ObEnt.push rfl rfl | exact ObEnt.pushRow rfl | exact ObEnt.len (by omega) | exact ObEnt.row (by repeat' (first | exact trivial | (first | exact Ent.refl _ | exact inc_ent (by omega) | exact Ent.nil rfl | exact Ent.of_eq (congrArg (AV.osl _ _ _) (by first | omega | (dsimp only; omega))) | exact Ent.of_eq (congrArg (AV.int _) (by first | omega | (dsimp only; omega)))) | refine And.intro ?_ ?_))) | refine And.intro ?_ ?_))) (by first | omega | (dsimp only; omega) | (simp; omega))
    · have g4 := cnd_beq_f h4
      refine k_sc (ex_secret_c (↑x0.1) (by first | assumption | omega) (by first | assumption | omega) (by first | assumption | omega)) ?_
      refine k_dc (ex_shared_c (↑x0.1) (by first | assumption | omega) (by first | assumption | omega)) ?_
      refine k_sc (eq0_c) ?_
      exact k_out (Ent.of_eq (by first | rfl | simp_all))
  · have g1 := cnd_dec_f h1
    exact k_out (Ent.of_eq (by first | rfl | simp_all))

end Go.Proofs.YtmhipmiacghgeaaGreatDoor

namespace Go.Sp
open Go Go.Am
theorem elem_iff {G : Grp} (h : G.Ok) {x : Int} : elemB G x = true ↔ 1 ≤ x ∧ x < G.p ∧ x ^ G.q.toNat % G.p = 1 := by
  rw [← mem_eq h]
  simp [and_assoc]
theorem pow_ne {a p : Int} {q : Nat} (hq : 0 < q) (h : a ^ q % p = 1) : a % p ≠ 0 := fun e => by
  have h2 : (a % p) ^ q % p = 1 := by rw [pow_mod]; exact h
  rw [e, Int.zero_pow (by omega)] at h2
  simp at h2
theorem elem_of {G : Grp} (h : G.Ok) {x : Int} (hx : x ^ G.q.toNat % G.p = 1) : elemB G (x % G.p) = true := by
  have h3 := h.p3; have h4 := h.q3
  have h1 := Int.emod_nonneg x (show G.p ≠ 0 by omega)
  have h2 := Int.emod_lt_of_pos x (show 0 < G.p by omega)
  have h5 := pow_ne (by omega) hx
  refine (elem_iff h).2 ⟨by omega, h2, ?_⟩
  rw [pow_mod]
  exact hx
theorem elem_pow {G : Grp} (h : G.Ok) {a : Int} (ha : elemB G a = true) (k : Nat) : elemB G (a ^ k % G.p) = true := by
  refine elem_of h ?_
  have h3 := h.p3
  rw [← Int.pow_mul, Nat.mul_comm, Int.pow_mul, ← pow_mod, ((elem_iff h).1 ha).2.2, Int.one_pow, Int.emod_eq_of_lt (by decide) (by omega)]
theorem elem_mul {G : Grp} (h : G.Ok) {a b : Int} (ha : elemB G a = true) (hb : elemB G b = true) : elemB G (a * b % G.p) = true := by
  refine elem_of h ?_
  have h3 := h.p3
  rw [Int.mul_pow, Int.mul_emod, ((elem_iff h).1 ha).2.2, ((elem_iff h).1 hb).2.2]
  exact Int.emod_eq_of_lt (by decide) (by omega)
theorem elem_bnd {G : Grp} (h : G.Ok) {a : Int} (ha : elemB G a = true) : 1 ≤ a ∧ a < G.p := ⟨((elem_iff h).1 ha).1, ((elem_iff h).1 ha).2.1⟩
/-- The message of a number. -/
def msgI (b : Bas) (u : Int) : Int := b.g1 ^ u.toNat % b.gr.p * b.g2 % b.gr.p
/-- Is a leaf right? -/
def rightB (b : Bas) (s : Spend) (i : Nat) : Bool :=
  decide (s.a ≠ 1) && elemB b.gr s.a && elemB b.gr (s.lf i 0) && scB b (s.lf i 1) && scB b (s.lf i 2) &&
    decide (b.g1 ^ (s.lf i 1).toNat % b.gr.p * (b.g2 ^ (s.lf i 2).toNat % b.gr.p) % b.gr.p = s.a ^ (chS b s).toNat % b.gr.p * s.lf i 0 % b.gr.p)
def openE (b : Bas) (s : Spend) (leaf : Int) : Int :=
  if validB b = false ∨ okS s = false then 1 else if leaf < fromS s ∨ toS s ≤ leaf then 2 else if rightB b s (leafN s leaf) = true then 0 else 11
def fitB (b : Bas) (s : Spend) (leaf u : Int) : Bool := openE b s leaf == 0 && scB b u && msgI b u != 1
theorem red_q {q x : Int} (h : 0 ≤ x ∧ x < q) : x % q = x := Int.emod_eq_of_lt h.1 h.2
theorem chS_q {b : Bas} {s : Spend} (h : 0 < b.gr.q) : 0 ≤ chS b s ∧ chS b s < b.gr.q := num_by h 16
theorem open_1 {b : Bas} {s : Spend} {leaf : Int} (h : validB b = false ∨ okS s = false) : openE b s leaf = 1 := if_pos h
theorem open_2 {b : Bas} {s : Spend} {leaf : Int} (h : validB b = true) (h' : okS s = true) (h1 : leaf < fromS s ∨ toS s ≤ leaf) : openE b s leaf = 2 := by
  unfold openE; rw [if_neg (by simp [h, h']), if_pos h1]
theorem open_3 {b : Bas} {s : Spend} {leaf : Int} (h : validB b = true) (h' : okS s = true) (h1 : ¬ (leaf < fromS s ∨ toS s ≤ leaf)) : openE b s leaf = if rightB b s (leafN s leaf) = true then 0 else 11 := by
  unfold openE; rw [if_neg (by simp [h, h']), if_neg h1]
theorem open_no {b : Bas} {s : Spend} {leaf : Int} (h : validB b = true) (h' : okS s = true) (h1 : ¬ (leaf < fromS s ∨ toS s ≤ leaf)) (h2 : rightB b s (leafN s leaf) = false) : openE b s leaf = 11 := by
  rw [open_3 h h' h1, h2]; rfl
theorem open_yes {b : Bas} {s : Spend} {leaf : Int} (h : validB b = true) (h' : okS s = true) (h1 : ¬ (leaf < fromS s ∨ toS s ≤ leaf)) (h2 : rightB b s (leafN s leaf) = true) : openE b s leaf = 0 := by
  rw [open_3 h h' h1, h2]; rfl
theorem right_no {b : Bas} {s : Spend} {i : Nat} (h : s.a = 1 ∨ elemB b.gr s.a = false ∨ elemB b.gr (s.lf i 0) = false ∨ scB b (s.lf i 1) = false ∨ scB b (s.lf i 2) = false) : rightB b s i = false := by
  unfold rightB
  rcases h with h | h | h | h | h <;> simp [h]
theorem right_eq {b : Bas} {s : Spend} {i : Nat} (h : ¬ s.a = 1 ∧ elemB b.gr s.a = true ∧ elemB b.gr (s.lf i 0) = true ∧ scB b (s.lf i 1) = true ∧ scB b (s.lf i 2) = true) :
    rightB b s i = decide (b.g1 ^ (s.lf i 1).toNat % b.gr.p * (b.g2 ^ (s.lf i 2).toNat % b.gr.p) % b.gr.p = s.a ^ (chS b s).toNat % b.gr.p * s.lf i 0 % b.gr.p) := by
  unfold rightB
  obtain ⟨h1, h2, h3, h4, h5⟩ := h
  simp [h1, h2, h3, h4, h5]
theorem fit_no {A D E : Prop} {V B C : Bool} (hv : V = true) (h : ((((A ∨ (V = false ∨ B = false)) ∨ (V = false ∨ C = false)) ∨ D) ∨ E)) : A ∨ B = false ∨ C = false ∨ D ∨ E := by
  subst hv
  rcases h with (((h | h | h) | h | h) | h) | h <;> simp_all
theorem fit_yes {A D E : Prop} {V B C : Bool} (h : (((A ∧ (V = true ∧ B = true)) ∧ (V = true ∧ C = true)) ∧ D) ∧ E) : A ∧ B = true ∧ C = true ∧ D ∧ E :=
  ⟨h.1.1.1.1, h.1.1.1.2.2, h.1.1.2.2, h.1.2, h.2⟩
theorem fit_no2 {A B C D E : Prop} (h : (((A ∨ B) ∨ C) ∨ D) ∨ E) : A ∨ B ∨ C ∨ D ∨ E := by
  rcases h with (((h | h) | h) | h) | h <;> simp_all
theorem fit_yes2 {A B C D E : Prop} (h : (((A ∧ B) ∧ C) ∧ D) ∧ E) : A ∧ B ∧ C ∧ D ∧ E := ⟨h.1.1.1.1, h.1.1.1.2, h.1.1.2, h.1.2, h.2⟩
theorem one_q {G : Grp} (h : G.Ok) {x : Int} (hx : elemB G x = true) : x ^ 1 % G.p = x := by
  have := elem_bnd h hx
  rw [Int.pow_succ, Int.pow_zero, Int.one_mul, Int.emod_eq_of_lt (by omega) (by omega)]
theorem open_0 {b : Bas} {s : Spend} {leaf : Int} (h : openE b s leaf = 0) : validB b = true ∧ okS s = true ∧ ¬ (leaf < fromS s ∨ toS s ≤ leaf) ∧ rightB b s (leafN s leaf) = true := by
  unfold openE at h
  split at h
  · cases h
  · rename_i h1
    split at h
    · cases h
    · rename_i h2
      split at h
      · rename_i h3
        refine ⟨?_, ?_, h2, h3⟩
        · cases hb : validB b with
          | true => rfl
          | false => exact absurd (Or.inl hb) h1
        · cases hb : okS s with
          | true => rfl
          | false => exact absurd (Or.inr hb) h1
      · cases h
theorem bas_g {b : Bas} (h : b.Ok) : (1 ≤ b.g1 ∧ b.g1 < b.gr.p) ∧ (1 ≤ b.g2 ∧ b.g2 < b.gr.p) := ⟨elem_bnd h.G h.e1, elem_bnd h.G h.e2⟩
theorem leaf_t {s : Spend} {leaf : Int} (h : okS s = true) : IntKind.wrap .i64 (fromS s + s.nl) = toS s ∧ 0 ≤ fromS s ∧ (¬ (leaf < fromS s ∨ toS s ≤ leaf) → IntKind.wrap .i64 (leaf - fromS s) = leaf - fromS s ∧ 0 ≤ leaf - fromS s ∧ leaf - fromS s < s.nl) := by
  obtain ⟨_, _, _, _, hn⟩ := okS_all h
  have hb := fromS_bnd s
  have hz := okS_nl h
  refine ⟨by rw [wI (by omega) (by omega)]; omega, hb.1, fun h1 => ⟨wI (by omega) (by omega), by omega, by omega⟩⟩
theorem fit_f {b : Bas} {s : Spend} {leaf u : Int} (h : openE b s leaf ≠ 0) : fitB b s leaf u = false := by
  unfold fitB
  rw [show (openE b s leaf == 0) = false by simpa using h]
  rfl
theorem fit_eq {b : Bas} {s : Spend} {leaf u : Int} (h : validB b = true) (h' : okS s = true) (h1 : ¬ (leaf < fromS s ∨ toS s ≤ leaf)) : fitB b s leaf u = (rightB b s (leafN s leaf) && scB b u && msgI b u != 1) := by
  unfold fitB
  rw [open_3 h h' h1]
  cases rightB b s (leafN s leaf) <;> rfl
end Go.Sp

namespace Go.Proofs.YtmhipmiacghgeaaGreatDoor
open Go Go.Am Go.Sp
set_option maxRecDepth 100000

theorem gcheck_c (G : Grp) (l : List Int) (h : G.Ok) (hw : G.W) (hl : ∀ i, i < l.length → elemB G (l.getD i 0) = true) (hn : l.length < 1000) : Pure Tryz.prog gl0 149 [G.av, il .i64 l] (.int .i64 0) := by
  have c1 := gvalid_c G hw
  rw [validG_iff.2 h] at c1
  have c2 := fun x => element_c G x hw
  refine pure_sk (own := ow0) Tryz.func149 (by kernel_rfl) mixed (by kernel_rfl)
    (.sc (true) 87 ([AV.agg [AV.int IntKind.i64 G.1, AV.int IntKind.i64 G.2, AV.int IntKind.i64 G.3]]) (AV.bool true) (.ff (.loop ({ x : Nat // x ≤ List.length l }) (fun (x : { x : Nat // x ≤ List.length l }) => mkSt [2, 10, 11, 12] [AV.own (0) (3) (0) (0) (3), AV.isl (1) (List.length l) fun (i x : Nat) => AV.int IntKind.i64 (List.getD l i (0 : Int)), AV.int IntKind.i64 (↑(List.length l) : Int), AV.int IntKind.i64 (↑(Subtype.val x) : Int)] [some { es := 3, n := 1, mu := true, f := Rep.lst [[AV.int IntKind.i64 (Grp.p G), AV.int IntKind.i64 (Grp.q G), AV.int IntKind.i64 (Grp.g G)]] }]) (fun (x : { x : Nat // x ≤ List.length l }) => List.length l - Subtype.val x) (⟨(0 : Nat), Nat.zero_le (List.length l)⟩) ([2, 10, 11, 12]) ([0]) ([AV.own (0) (3) (0) (0) (3), AV.isl (1) (List.length l) fun (i x : Nat) => AV.int IntKind.i64 (List.getD l i (0 : Int)), AV.int IntKind.i64 (↑(List.length l) : Int), AV.int IntKind.i64 (0 : Int)]) ([some { es := 3, n := 1, mu := true, f := Rep.lst [[AV.int IntKind.i64 (Grp.p G), AV.int IntKind.i64 (Grp.q G), AV.int IntKind.i64 (Grp.g G)]] }]) (fun x2 => (.br (decide ((↑x2.1 : Int) < (↑(List.length l) : Int))) (.req ((0 : Int) ≤ (↑x2.1 : Int) ∧ (↑x2.1 : Int) < (↑(List.length l) : Int)) (.sc (true) 125 ([AV.agg [AV.int IntKind.i64 G.1, AV.int IntKind.i64 G.2, AV.int IntKind.i64 G.3], AV.int IntKind.i64 (List.getD l (Int.toNat (↑x2.1 : Int)) (0 : Int))]) (AV.bool (elemB G (List.getD l (Int.toNat (↑x2.1 : Int)) (0 : Int)))) (.br (!elemB G (List.getD l (Int.toNat (↑x2.1 : Int)) (0 : Int))) (.out (AV.int IntKind.i64 (2 : Int)) [] (AV.int IntKind.i64 (0 : Int)) []) (.again (Again (0) (fun (x : { x : Nat // x ≤ List.length l }) => mkSt [2, 10, 11, 12] [AV.own (0) (3) (0) (0) (3), AV.isl (1) (List.length l) fun (i x : Nat) => AV.int IntKind.i64 (List.getD l i (0 : Int)), AV.int IntKind.i64 (↑(List.length l) : Int), AV.int IntKind.i64 (↑(Subtype.val x) : Int)] [some { es := 3, n := 1, mu := true, f := Rep.lst [[AV.int IntKind.i64 (Grp.p G), AV.int IntKind.i64 (Grp.q G), AV.int IntKind.i64 (Grp.g G)]] }]) (fun (x : { x : Nat // x ≤ List.length l }) => List.length l - Subtype.val x) x2) ([2, 10, 11, 12]) ([0]) ([AV.own (0) (3) (0) (0) (3), AV.isl (1) (List.length l) fun (i x : Nat) => AV.int IntKind.i64 (List.getD l i (0 : Int)), AV.int IntKind.i64 (↑(List.length l) : Int), AV.int IntKind.i64 (IntKind.wrap IntKind.i64 ((↑x2.1 : Int) + (1 : Int)))]) ([some { es := 3, n := 1, mu := true, f := Rep.lst [[AV.int IntKind.i64 (Grp.p G), AV.int IntKind.i64 (Grp.q G), AV.int IntKind.i64 (Grp.g G)]] }]))))) (.out (AV.int IntKind.i64 (0 : Int)) [] (AV.int IntKind.i64 (0 : Int)) []))))))
    (by kernel_rfl) ?_
  refine k_sc (c1) ?_
  refine k_ff ?_
  --LOOPINFO kept [2, 10, 11] changed [12] objects [0]
  --LOOPINFO   obj 0: some { es := 3, n := 1, mu := true, f := Rep.lst [[AV.int IntKind.i64 (Grp.p G), AV.int IntKind.i64 (Grp.q G), AV.int IntKind.i64 (Grp.g G)]] }
  refine k_loop (fun _ hs => hs.le (by repeat' (first | exact trivial | (first | exact Ent.refl _ | exact inc_ent (by omega) | exact Ent.nil rfl | exact Ent.of_eq (congrArg (AV.osl _ _ _) (by first | omega | (dsimp only; omega))) | exact Ent.of_eq (congrArg (AV.int _) (by first | omega | (dsimp only; omega)))) | refine And.intro ?_ ?_)) (by repeat' (first | exact trivial | (first | exact ObEnt.refl _ | exact ObEnt.junk | exact ObEnt.zero | exact ObEnt.push rfl rfl | exact ObEnt.pushRow rfl | exact ObEnt.len (by omega) | exact ObEnt.row (by repeat' (first | exact trivial | (first | exact Ent.refl _ | exact inc_ent (by omega) | exact Ent.nil rfl | exact Ent.of_eq (congrArg (AV.osl _ _ _) (by first | omega | (dsimp only; omega))) | exact Ent.of_eq (congrArg (AV.int _) (by first | omega | (dsimp only; omega)))) | refine And.intro ?_ ?_))) | refine And.intro ?_ ?_))) (fun x2 => ?_)
  try (have q2 := x2.2; dsimp only at q2)
  refine k_br (fun h3 => ?_) (fun h3 => ?_)
  · have g3 := cnd_dec_t h3
    refine k_req (by first | omega | (simp only [Int.toNat_natCast]; omega)) ?_
    refine k_sc (c2 (List.getD l (Int.toNat (↑x2.1 : Int)) (0 : Int))) ?_
    refine k_br (fun h6 => ?_) (fun h6 => ?_)
    · have g6 := (cnd_not_t cnd_id_f) h6
      try simp only [Int.toNat_natCast] at g6
      exact k_out ((by exfalso; rw [hl x2.1 (by omega)] at g6; cases g6))
    · have g6 := (cnd_not_f cnd_id_t) h6
      try simp only [Int.toNat_natCast] at g6
      exact k_again (⟨x2.1 + 1, by omega⟩) (fun _ hs => hs.le (by repeat' (first | exact trivial | (first | exact Ent.refl _ | exact inc_ent (by omega) | exact Ent.nil rfl | exact Ent.of_eq (congrArg (AV.osl _ _ _) (by first | omega | (dsimp only; omega))) | exact Ent.of_eq (congrArg (AV.int _) (by first | omega | (dsimp only; omega)))) | refine And.intro ?_ ?_)) (by repeat' (first | exact trivial | (first | exact ObEnt.refl _ | exact ObEnt.junk | exact ObEnt.zero | exact ObEnt.push rfl rfl | exact ObEnt.pushRow rfl | exact ObEnt.len (by omega) | exact ObEnt.row (by repeat' (first | exact trivial | (first | exact Ent.refl _ | exact inc_ent (by omega) | exact Ent.nil rfl | exact Ent.of_eq (congrArg (AV.osl _ _ _) (by first | omega | (dsimp only; omega))) | exact Ent.of_eq (congrArg (AV.int _) (by first | omega | (dsimp only; omega)))) | refine And.intro ?_ ?_))) | refine And.intro ?_ ?_))) (by first | omega | (dsimp only; omega) | (simp; omega))
  · have g3 := cnd_dec_f h3
    exact k_out (Ent.of_eq (by first | rfl | simp_all))

theorem gcheck1 (G : Grp) (a : Int) (h : G.Ok) (hw : G.W) (ha : elemB G a = true) : Pure Tryz.prog gl0 149 [G.av, .isl 1 1 fun r k => atL (List.getD [[.int .i64 a]] r []) k] (.int .i64 0) :=
  (gcheck_c G [a] h hw (fun i hi => by obtain rfl : i = 0 := Nat.lt_one_iff.1 hi
                                       exact ha) (by simp)).via ⟨Ent.refl _, il_rows rfl rfl, trivial⟩

theorem gcheck2 (G : Grp) (a c : Int) (h : G.Ok) (hw : G.W) (ha : elemB G a = true) (hc : elemB G c = true) : Pure Tryz.prog gl0 149 [G.av, .isl 1 2 fun r k => atL (List.getD [[.int .i64 a], [.int .i64 c]] r []) k] (.int .i64 0) :=
  (gcheck_c G [a, c] h hw (fun i hi => match i, hi with
    | 0, _ => ha
    | 1, _ => hc) (by simp)).via ⟨Ent.refl _, il_rows rfl rfl, trivial⟩

theorem gmul_c (G : Grp) (a c : Int) (h : G.Ok) (hw : G.W) (ha : elemB G a = true) (hc : elemB G c = true) : Pure Tryz.prog gl0 122 [G.av, .int .i64 a, .int .i64 c] (.tup [.int .i64 (a * c % G.p), .int .i64 0]) := by
  have c1 := gcheck2 G a c h hw ha hc
  have x := elem_bnd h ha
  have y := elem_bnd h hc
  have k1 := h.p1
  have k2 := chk_ok (a := a) (b := c) (m := G.p) (by omega) (by omega) (by omega) (by omega) (by omega) (by omega)
  refine pure_sk (own := ow0) Tryz.func122 (by kernel_rfl) mixed (by kernel_rfl)
    (.sc (true) 149 ([AV.agg [AV.int IntKind.i64 G.1, AV.int IntKind.i64 G.2, AV.int IntKind.i64 G.3], AV.isl (1) (2) fun (r k : Nat) => atL (List.getD [[AV.int IntKind.i64 a], [AV.int IntKind.i64 c]] (r + 0) []) k]) (AV.int IntKind.i64 (0 : Int)) (.ff (.sc (true) 61 ([AV.int IntKind.i64 a, AV.int IntKind.i64 c, AV.int IntKind.i64 G.1]) (AV.tup [AV.int IntKind.i64 (okv (chkI a c G.1) (a * c % G.1)), AV.int IntKind.i64 (chkI a c G.1)]) (.out (AV.tup [AV.int IntKind.i64 (okv (chkI a c G.1) (a * c % G.1)), AV.int IntKind.i64 (chkI a c G.1)]) [] (AV.tup [AV.int IntKind.i64 (a * c % Grp.p G), AV.int IntKind.i64 (0 : Int)]) []))))
    (by kernel_rfl) ?_
  refine k_sc (c1) ?_
  refine k_ff ?_
  refine k_sc (wmul_c (a) (c) (G.1)) ?_
  exact k_out (Ent.of_eq (by rw [k2]; rfl))

theorem gpow_c (G : Grp) (a e : Int) (h : G.Ok) (hw : G.W) (ha : elemB G a = true) (he : 0 ≤ e ∧ e < G.q) : Pure Tryz.prog gl0 121 [G.av, .int .i64 a, .int .i64 e] (.tup [.int .i64 (a ^ e.toNat % G.p), .int .i64 0]) := by
  have c1 := gcheck1 G a h hw ha
  have x := elem_bnd h ha
  have k1 := h.p1; have k2 := h.qp; have k3 := h.q3
  have k4 : okv (chkI 0 0 G.q) (e % G.q) = e := by
    rw [chk_ok (by omega) (by omega) (by omega) (by omega) (by omega) (by omega)]
    exact red_q he
  have k5 := powE_0 (chk_ok (a := a) (b := a) (m := G.p) (by omega) (by omega) (by omega) (by omega) (by omega) (by omega)) (by omega : ¬ e < 0)
  refine pure_sk (own := ow0) Tryz.func121 (by kernel_rfl) mixed (by kernel_rfl)
    (.sc (true) 149 ([AV.agg [AV.int IntKind.i64 G.1, AV.int IntKind.i64 G.2, AV.int IntKind.i64 G.3], AV.isl (1) (1) fun (r k : Nat) => atL (List.getD [[AV.int IntKind.i64 a]] (r + 0) []) k]) (AV.int IntKind.i64 (0 : Int)) (.ff (.sc (true) 150 ([AV.int IntKind.i64 e, AV.int IntKind.i64 G.2]) (AV.tup [AV.int IntKind.i64 (okv (chkI (0 : Int) (0 : Int) G.2) (e % G.2)), AV.int IntKind.i64 (chkI (0 : Int) (0 : Int) G.2)]) (.sc (true) 124 ([AV.int IntKind.i64 a, AV.int IntKind.i64 (okv (chkI (0 : Int) (0 : Int) G.2) (e % G.2)), AV.int IntKind.i64 G.1]) (AV.tup [AV.int IntKind.i64 (okv (powE a (okv (chkI (0 : Int) (0 : Int) G.2) (e % G.2)) G.1) (a ^ Int.toNat (okv (chkI (0 : Int) (0 : Int) G.2) (e % G.2)) % G.1)), AV.int IntKind.i64 (powE a (okv (chkI (0 : Int) (0 : Int) G.2) (e % G.2)) G.1)]) (.out (AV.tup [AV.int IntKind.i64 (okv (powE a (okv (chkI (0 : Int) (0 : Int) G.2) (e % G.2)) G.1) (a ^ Int.toNat (okv (chkI (0 : Int) (0 : Int) G.2) (e % G.2)) % G.1)), AV.int IntKind.i64 (powE a (okv (chkI (0 : Int) (0 : Int) G.2) (e % G.2)) G.1)]) [] (AV.tup [AV.int IntKind.i64 (a ^ Int.toNat e % Grp.p G), AV.int IntKind.i64 (0 : Int)]) [])))))
    (by kernel_rfl) ?_
  refine k_sc (c1) ?_
  refine k_ff ?_
  refine k_sc (wreduce_c (e) (G.2)) ?_
  refine k_sc (wpow_c (a) (okv (chkI (0 : Int) (0 : Int) G.2) (e % G.2)) (G.1) (by rw [k4]; omega)) ?_
  exact k_out (Ent.of_eq (by rw [k4, k5]; rfl))

theorem message_c (b : Bas) (u : Int) (h : b.Ok) (hw : b.gr.W) (hu : 0 ≤ u ∧ u < b.gr.q) : Pure Tryz.prog gl0 83 [b.av, .int .i64 u] (.int .i64 (msgI b u)) := by
  have c1 := gpow_c b.gr b.g1 u h.G hw h.e1 hu
  have c2 := gmul_c b.gr (b.g1 ^ u.toNat % b.gr.p) b.g2 h.G hw (elem_pow h.G h.e1 _) h.e2
  refine pure_sk (own := ow0) Tryz.func83 (by kernel_rfl) mixed (by kernel_rfl)
    (.sc (true) 121 ([AV.agg [AV.int IntKind.i64 (Bas.gr b).1, AV.int IntKind.i64 (Bas.gr b).2, AV.int IntKind.i64 (Bas.gr b).3], AV.int IntKind.i64 b.2, AV.int IntKind.i64 u]) (AV.tup [AV.int IntKind.i64 (Bas.g1 b ^ Int.toNat u % Grp.p (Bas.gr b)), AV.int IntKind.i64 (0 : Int)]) (.sc (true) 122 ([AV.agg [AV.int IntKind.i64 (Bas.gr b).1, AV.int IntKind.i64 (Bas.gr b).2, AV.int IntKind.i64 (Bas.gr b).3], AV.int IntKind.i64 (b.2 ^ Int.toNat u % (Bas.gr b).1), AV.int IntKind.i64 b.3]) (AV.tup [AV.int IntKind.i64 (Bas.g1 b ^ Int.toNat u % Grp.p (Bas.gr b) * Bas.g2 b % Grp.p (Bas.gr b)), AV.int IntKind.i64 (0 : Int)]) (.out (AV.int IntKind.i64 (b.2 ^ Int.toNat u % (Bas.gr b).1 * b.3 % (Bas.gr b).1)) [] (AV.int IntKind.i64 (msgI b u)) [])))
    (by kernel_rfl) ?_
  refine k_sc (c1) ?_
  refine k_sc (c2) ?_
  exact k_out (Ent.refl _)

theorem rmessage_c (b : Bas) (u : Int) (h : b.Ok) (hu : 0 ≤ u ∧ u < b.gr.q) : Pure Tryz.prog gl0 84 [b.av, .int .i64 u] (.int .i64 (msgI b u)) := by
  have k1 := elem_bnd h.G h.e1
  have k2 := elem_bnd h.G h.e2
  have k3 := h.G.p1; have k4 := h.G.qp
  have k5 := elem_bnd h.G (elem_pow h.G h.e1 u.toNat)
  refine pure_sk (own := ow0) Tryz.func84 (by kernel_rfl) mixed (by kernel_rfl)
    (.sc (true) 95 ([AV.int IntKind.i64 b.2, AV.int IntKind.i64 u, AV.int IntKind.i64 (Bas.gr b).1]) (AV.int IntKind.i64 (b.2 ^ Int.toNat u % (Bas.gr b).1)) (.sc (true) 68 ([AV.int IntKind.i64 (b.2 ^ Int.toNat u % (Bas.gr b).1), AV.int IntKind.i64 b.3, AV.int IntKind.i64 (Bas.gr b).1]) (AV.int IntKind.i64 (b.2 ^ Int.toNat u % (Bas.gr b).1 * b.3 % (Bas.gr b).1)) (.out (AV.int IntKind.i64 (b.2 ^ Int.toNat u % (Bas.gr b).1 * b.3 % (Bas.gr b).1)) [] (AV.int IntKind.i64 (msgI b u)) [])))
    (by kernel_rfl) ?_
  refine k_sc (rpow_c (b.2) (u) ((Bas.gr b).1) (by first | assumption | omega) (by first | assumption | omega) (by first | assumption | omega) (by first | assumption | omega) (by first | assumption | omega)) ?_
  refine k_sc (rmul_c (b.2 ^ Int.toNat u % (Bas.gr b).1) (b.3) ((Bas.gr b).1) (by first | assumption | omega) (by first | assumption | omega) (by first | assumption | omega) (by first | assumption | omega) (by first | assumption | omega)) ?_
  exact k_out (Ent.refl _)

theorem product_c (b : Bas) (x i y k : Int) (h : b.gr.Ok) (hw : b.gr.W) (hx : elemB b.gr x = true) (hi : 0 ≤ i ∧ i < b.gr.q) (hy : elemB b.gr y = true) (hk : 0 ≤ k ∧ k < b.gr.q) :
    Pure Tryz.prog gl0 120 [.int .i64 x, .int .i64 i, .int .i64 y, .int .i64 k, .ipt 3 (atL b.gr.cells)] (.int .i64 (x ^ i.toNat % b.gr.p * (y ^ k.toNat % b.gr.p) % b.gr.p)) := by
  have c1 := gpow_c b.gr x i h hw hx hi
  have c2 := gpow_c b.gr y k h hw hy hk
  have c3 := gmul_c b.gr (x ^ i.toNat % b.gr.p) (y ^ k.toNat % b.gr.p) h hw (elem_pow h hx _) (elem_pow h hy _)
  refine pure_sk (own := ow0) Tryz.func120 (by kernel_rfl) mixed (by kernel_rfl)
    (.sc (true) 121 ([AV.agg [AV.int IntKind.i64 (Bas.gr b).1, AV.int IntKind.i64 (Bas.gr b).2, AV.int IntKind.i64 (Bas.gr b).3], AV.int IntKind.i64 x, AV.int IntKind.i64 i]) (AV.tup [AV.int IntKind.i64 (x ^ Int.toNat i % Grp.p (Bas.gr b)), AV.int IntKind.i64 (0 : Int)]) (.sc (true) 121 ([AV.agg [AV.int IntKind.i64 (Bas.gr b).1, AV.int IntKind.i64 (Bas.gr b).2, AV.int IntKind.i64 (Bas.gr b).3], AV.int IntKind.i64 y, AV.int IntKind.i64 k]) (AV.tup [AV.int IntKind.i64 (y ^ Int.toNat k % Grp.p (Bas.gr b)), AV.int IntKind.i64 (0 : Int)]) (.sc (true) 122 ([AV.agg [AV.int IntKind.i64 (Bas.gr b).1, AV.int IntKind.i64 (Bas.gr b).2, AV.int IntKind.i64 (Bas.gr b).3], AV.int IntKind.i64 (x ^ Int.toNat i % (Bas.gr b).1), AV.int IntKind.i64 (y ^ Int.toNat k % (Bas.gr b).1)]) (AV.tup [AV.int IntKind.i64 (x ^ Int.toNat i % Grp.p (Bas.gr b) * (y ^ Int.toNat k % Grp.p (Bas.gr b)) % Grp.p (Bas.gr b)), AV.int IntKind.i64 (0 : Int)]) (.out (AV.int IntKind.i64 (x ^ Int.toNat i % (Bas.gr b).1 * (y ^ Int.toNat k % (Bas.gr b).1) % (Bas.gr b).1)) [] (AV.int IntKind.i64 (x ^ Int.toNat i % Grp.p (Bas.gr b) * (y ^ Int.toNat k % Grp.p (Bas.gr b)) % Grp.p (Bas.gr b))) []))))
    (by kernel_rfl) ?_
  refine k_sc (c1) ?_
  refine k_sc (c2) ?_
  refine k_sc (c3) ?_
  exact k_out (Ent.refl _)

end Go.Proofs.YtmhipmiacghgeaaGreatDoor

namespace Go.Proofs.YtmhipmiacghgeaaGreatDoor
open Go Go.Am Go.Sp
set_option maxRecDepth 100000

theorem open_c (b : Bas) (s : Spend) (leaf : Int) (hw : b.gr.W) (bs : s.By) : Pure Tryz.prog gl0 81 [b.av, s.av, .int .i64 leaf] (.int .i64 (openE b s leaf)) := by
  have c1 := bvalid_c b hw
  have c2 := xspan_f s
  have c3 := fun x => contains_c b.gr x hw
  have c4 := xscalar_c b
  have c5 := chall_c b s.coin s.level s.index s.cxt hw bs.root bs.payee
  have c6 := fun x i y k h => product_c b x i y k h hw
  have L := fun h h' => leaf_w (s := s) (leaf := leaf) h h'
  have k1 := fun h h' => chS_of (b := b) (s := s) h h'
  have kb := fun h => (validB_iff (b := b)).1 h
  refine pure_sk (own := ow0) Tryz.func81 (by kernel_rfl) mixed (by kernel_rfl)
    (.sc (true) 35 ([AV.agg (Bas.cells b)]) (AV.bool (validB b)) (.br (!validB b) (.out (AV.int IntKind.i64 (1 : Int)) [] (AV.int IntKind.i64 (openE b s leaf)) []) (.sc (true) 54 ([AV.agg (Spend.cells s)]) (AV.tup [AV.int IntKind.i64 (fromS s), AV.int IntKind.i64 (toS s), AV.bool (okS s)]) (.br (!okS s) (.out (AV.int IntKind.i64 (1 : Int)) [] (AV.int IntKind.i64 (openE b s leaf)) []) (.br (decide (leaf < fromS s) || decide (leaf ≥ toS s)) (.out (AV.int IntKind.i64 (2 : Int)) [] (AV.int IntKind.i64 (openE b s leaf)) []) (.req ((0 : Int) ≤ IntKind.wrap IntKind.i64 (leaf - fromS s) ∧ IntKind.wrap IntKind.i64 (leaf - fromS s) < (↑s.16 : Int)) (.sc ((s.5 == (1 : Int)) == false) 88 ([AV.agg [AV.int IntKind.i64 (Bas.gr b).1, AV.int IntKind.i64 (Bas.gr b).2, AV.int IntKind.i64 (Bas.gr b).3], AV.int IntKind.i64 s.5]) (AV.bool (validG (Bas.gr b) && elemB (Bas.gr b) s.5)) (.sc ((s.5 == (1 : Int) || !(validG b.1 && elemB b.1 s.5)) == false) 88 ([AV.agg [AV.int IntKind.i64 (Bas.gr b).1, AV.int IntKind.i64 (Bas.gr b).2, AV.int IntKind.i64 (Bas.gr b).3], AV.int IntKind.i64 (s.17 (Int.toNat (IntKind.wrap IntKind.i64 (leaf - fromS s))) (0))]) (AV.bool (validG (Bas.gr b) && elemB (Bas.gr b) (s.17 (Int.toNat (IntKind.wrap IntKind.i64 (leaf - fromS s))) (0)))) (.sc ((s.5 == (1 : Int) || !(validG b.1 && elemB b.1 s.5) || !(validG b.1 && elemB b.1 (s.17 (Int.toNat (IntKind.wrap IntKind.i64 (leaf - fromS s))) (0)))) == false) 58 ([AV.agg (Bas.cells b), AV.int IntKind.i64 (s.17 (Int.toNat (IntKind.wrap IntKind.i64 (leaf - fromS s))) (1))]) (AV.bool (scB b (s.17 (Int.toNat (IntKind.wrap IntKind.i64 (leaf - fromS s))) (1)))) (.sc ((s.5 == (1 : Int) || !(validG b.1 && elemB b.1 s.5) || !(validG b.1 && elemB b.1 (s.17 (Int.toNat (IntKind.wrap IntKind.i64 (leaf - fromS s))) (0))) || !scB b (s.17 (Int.toNat (IntKind.wrap IntKind.i64 (leaf - fromS s))) (1))) == false) 58 ([AV.agg (Bas.cells b), AV.int IntKind.i64 (s.17 (Int.toNat (IntKind.wrap IntKind.i64 (leaf - fromS s))) (2))]) (AV.bool (scB b (s.17 (Int.toNat (IntKind.wrap IntKind.i64 (leaf - fromS s))) (2)))) (.br (s.5 == (1 : Int) || !(validG b.1 && elemB b.1 s.5) || !(validG b.1 && elemB b.1 (s.17 (Int.toNat (IntKind.wrap IntKind.i64 (leaf - fromS s))) (0))) || !scB b (s.17 (Int.toNat (IntKind.wrap IntKind.i64 (leaf - fromS s))) (1)) || !scB b (s.17 (Int.toNat (IntKind.wrap IntKind.i64 (leaf - fromS s))) (2))) (.out (AV.int IntKind.i64 (11 : Int)) [] (AV.int IntKind.i64 (openE b s leaf)) []) (.sc (true) 59 ([AV.agg (Bas.cells b), AV.agg (AV.int IntKind.i64 s.1 :: AV.int IntKind.i64 s.2 :: AV.int IntKind.i64 s.3 :: AV.int IntKind.i64 s.4 :: AV.int IntKind.i64 s.5 :: (u8c s.6 ++ [AV.int IntKind.i64 s.7, AV.int IntKind.i64 s.8, AV.int IntKind.i64 s.9, AV.int IntKind.i64 s.10])), AV.agg [AV.int IntKind.i64 s.11, AV.int IntKind.i64 s.12], AV.agg (u8c s.13 ++ [AV.int IntKind.i64 s.14, AV.int IntKind.i64 s.15])]) (AV.tup [AV.int IntKind.i64 (chalK b (Spend.coin s) (Spend.level s) (Spend.index s) (Spend.cxt s)), AV.int IntKind.i64 (chalE b (Spend.coin s) (Spend.level s) (Spend.index s) (Spend.cxt s))]) (.br (chalE b (Spend.coin s) s.11 s.12 (Spend.cxt s) != (0 : Int)) (.out (AV.int IntKind.i64 (11 : Int)) [] (AV.int IntKind.i64 (openE b s leaf)) []) (.sc (true) 120 ([AV.int IntKind.i64 b.2, AV.int IntKind.i64 (s.17 (Int.toNat (IntKind.wrap IntKind.i64 (leaf - fromS s))) (1)), AV.int IntKind.i64 b.3, AV.int IntKind.i64 (s.17 (Int.toNat (IntKind.wrap IntKind.i64 (leaf - fromS s))) (2)), AV.ipt (3) fun (k : Nat) => atL [AV.int IntKind.i64 (Bas.gr b).1, AV.int IntKind.i64 (Bas.gr b).2, AV.int IntKind.i64 (Bas.gr b).3] k]) (AV.int IntKind.i64 (b.2 ^ Int.toNat (s.17 (Int.toNat (IntKind.wrap IntKind.i64 (leaf - fromS s))) (1)) % Grp.p (Bas.gr b) * (b.3 ^ Int.toNat (s.17 (Int.toNat (IntKind.wrap IntKind.i64 (leaf - fromS s))) (2)) % Grp.p (Bas.gr b)) % Grp.p (Bas.gr b))) (.sc (true) 120 ([AV.int IntKind.i64 s.5, AV.int IntKind.i64 (chalK b (Spend.coin s) s.11 s.12 (Spend.cxt s)), AV.int IntKind.i64 (s.17 (Int.toNat (IntKind.wrap IntKind.i64 (leaf - fromS s))) (0)), AV.int IntKind.i64 (1 : Int), AV.ipt (3) fun (k : Nat) => atL [AV.int IntKind.i64 (Bas.gr b).1, AV.int IntKind.i64 (Bas.gr b).2, AV.int IntKind.i64 (Bas.gr b).3] k]) (AV.int IntKind.i64 (s.5 ^ Int.toNat (chalK b (Spend.coin s) s.11 s.12 (Spend.cxt s)) % Grp.p (Bas.gr b) * (s.17 (Int.toNat (IntKind.wrap IntKind.i64 (leaf - fromS s))) (0) ^ Int.toNat (1 : Int) % Grp.p (Bas.gr b)) % Grp.p (Bas.gr b))) (.br (b.2 ^ Int.toNat (s.17 (Int.toNat (IntKind.wrap IntKind.i64 (leaf - fromS s))) (1)) % (Bas.gr b).1 * (b.3 ^ Int.toNat (s.17 (Int.toNat (IntKind.wrap IntKind.i64 (leaf - fromS s))) (2)) % (Bas.gr b).1) % (Bas.gr b).1 != s.5 ^ Int.toNat (chalK b (Spend.coin s) s.11 s.12 (Spend.cxt s)) % (Bas.gr b).1 * (s.17 (Int.toNat (IntKind.wrap IntKind.i64 (leaf - fromS s))) (0) ^ 1 % (Bas.gr b).1) % (Bas.gr b).1) (.out (AV.int IntKind.i64 (11 : Int)) [] (AV.int IntKind.i64 (openE b s leaf)) []) (.out (AV.int IntKind.i64 (0 : Int)) [] (AV.int IntKind.i64 (openE b s leaf)) [])))))))))))))))))
    (by kernel_rfl) ?_
  refine k_sc (c1) ?_
  refine k_br (fun h1 => ?_) (fun h1 => ?_)
  · have g1 := (cnd_not_t cnd_id_f) h1
    exact k_out (Ent.of_eq (congrArg _ (open_1 (Or.inl g1)).symm))
  · have g1 := (cnd_not_f cnd_id_t) h1
    refine k_sc (c2) ?_
    refine k_br (fun h4 => ?_) (fun h4 => ?_)
    · have g4 := (cnd_not_t cnd_id_f) h4
      exact k_out (Ent.of_eq (congrArg _ (open_1 (Or.inr g4)).symm))
    · have g4 := (cnd_not_f cnd_id_t) h4
      refine k_br (fun h6 => ?_) (fun h6 => ?_)
      · have g6 := (cnd_or_t cnd_dec_t cnd_dec_t) h6
        exact k_out (Ent.of_eq (congrArg _ (open_2 g1 g4 g6).symm))
      · have g6 := (cnd_or_f cnd_dec_f cnd_dec_f) h6
        refine k_req (⟨(L g4 (by omega)).1, (L g4 (by omega)).2.1⟩) ?_
        refine k_scg (fun h9 => c3 (s.5)) ?_
        refine k_scg (fun h10 => c3 (s.17 (Int.toNat (IntKind.wrap IntKind.i64 (leaf - fromS s))) (0))) ?_
        refine k_scg (fun h11 => c4 (s.17 (Int.toNat (IntKind.wrap IntKind.i64 (leaf - fromS s))) (1))) ?_
        refine k_scg (fun h12 => c4 (s.17 (Int.toNat (IntKind.wrap IntKind.i64 (leaf - fromS s))) (2))) ?_
        refine k_br (fun h13 => ?_) (fun h13 => ?_)
        · have g13 := (cnd_or_t (cnd_or_t (cnd_or_t (cnd_or_t cnd_beq_t (cnd_not_t (cnd_and_f cnd_id_f cnd_id_f))) (cnd_not_t (cnd_and_f cnd_id_f cnd_id_f))) (cnd_not_t cnd_id_f)) (cnd_not_t cnd_id_f)) h13
          exact k_out (by rw [(L g4 (by omega)).2.2] at g13; exact Ent.of_eq (congrArg _ (open_no g1 g4 (by omega) (right_no (fit_no (validG_iff.2 (kb g1).G) g13))).symm))
        · have g13 := (cnd_or_f (cnd_or_f (cnd_or_f (cnd_or_f cnd_beq_f (cnd_not_f (cnd_and_t cnd_id_t cnd_id_t))) (cnd_not_f (cnd_and_t cnd_id_t cnd_id_t))) (cnd_not_f cnd_id_t)) (cnd_not_f cnd_id_t)) h13
          refine k_sc (c5) ?_
          refine k_br (fun h16 => ?_) (fun h16 => ?_)
          · have g16 := cnd_bne_t h16
            exact k_out ((by exfalso; exact g16 (k1 g1 g4).1))
          · have g16 := cnd_bne_f h16
            refine k_sc (c6 (b.2) (s.17 (Int.toNat (IntKind.wrap IntKind.i64 (leaf - fromS s))) (1)) (b.3) (s.17 (Int.toNat (IntKind.wrap IntKind.i64 (leaf - fromS s))) (2)) ((kb g1).G) ((kb g1).e1) (scB_t g13.1.2) ((kb g1).e2) (scB_t g13.2)) ?_
            refine k_sc (c6 (s.5) (chalK b (Spend.coin s) s.11 s.12 (Spend.cxt s)) (s.17 (Int.toNat (IntKind.wrap IntKind.i64 (leaf - fromS s))) (0)) ((1 : Int)) ((kb g1).G) (g13.1.1.1.2.2) (by rw [(k1 g1 g4).2]; exact chS_q (validB_q g1).1) (g13.1.1.2.2) (by have := (kb g1).G.q3; omega)) ?_
            refine k_br (fun h20 => ?_) (fun h20 => ?_)
            · have g20 := cnd_bne_t h20
              exact k_out (by rw [(k1 g1 g4).2, one_q (kb g1).G g13.1.1.2.2] at g20; rw [(L g4 (by omega)).2.2] at g13 g20; exact Ent.of_eq (congrArg _ (open_no g1 g4 (by omega) ((right_eq (fit_yes g13)).trans (decide_eq_false g20))).symm))
            · have g20 := cnd_bne_f h20
              exact k_out (by rw [(k1 g1 g4).2, one_q (kb g1).G g13.1.1.2.2] at g20; rw [(L g4 (by omega)).2.2] at g13 g20; exact Ent.of_eq (congrArg _ (open_yes g1 g4 (by omega) ((right_eq (fit_yes g13)).trans (decide_eq_true g20))).symm))

theorem r33right_c (b : Bas) (s : Spend) (j : Int) (k0 : 0 ≤ j) (k1 : j < s.nl) (hb : b.Ok) (bs : s.By) : Pure Tryz.prog gl0 82 [b.av, s.av, .int .i64 j] (.bool (rightB b s j.toNat)) := by
  have c1 := fun x => member_c b.gr x hb.G
  have c2 := r33scalar_c b
  have c3 := fun h h' => r33chal_c b s bs h h'
  have B1 := bas_g hb; have p1 := hb.G.p1; have qp := hb.G.qp; have q3 := hb.G.q3
  have ch := chS_q (b := b) (s := s) (by omega)
  refine pure_sk (own := ow0) Tryz.func82 (by kernel_rfl) mixed (by kernel_rfl)
    (.req ((0 : Int) ≤ j ∧ j < (↑s.16 : Int)) (.sc ((s.5 == (1 : Int)) == false) 46 ([AV.agg [AV.int IntKind.i64 (Bas.gr b).1, AV.int IntKind.i64 (Bas.gr b).2, AV.int IntKind.i64 (Bas.gr b).3], AV.int IntKind.i64 s.5]) (AV.bool (elemB (Bas.gr b) s.5)) (.sc ((s.5 == (1 : Int) || !elemB b.1 s.5) == false) 46 ([AV.agg [AV.int IntKind.i64 (Bas.gr b).1, AV.int IntKind.i64 (Bas.gr b).2, AV.int IntKind.i64 (Bas.gr b).3], AV.int IntKind.i64 (s.17 (Int.toNat j) (0))]) (AV.bool (elemB (Bas.gr b) (s.17 (Int.toNat j) (0)))) (.sc ((s.5 == (1 : Int) || !elemB b.1 s.5 || !elemB b.1 (s.17 (Int.toNat j) (0))) == false) 65 ([AV.agg [AV.int IntKind.i64 (Bas.gr b).1, AV.int IntKind.i64 (Bas.gr b).2, AV.int IntKind.i64 (Bas.gr b).3], AV.int IntKind.i64 (s.17 (Int.toNat j) (1))]) (AV.bool (scB b (s.17 (Int.toNat j) (1)))) (.sc ((s.5 == (1 : Int) || !elemB b.1 s.5 || !elemB b.1 (s.17 (Int.toNat j) (0)) || !scB b (s.17 (Int.toNat j) (1))) == false) 65 ([AV.agg [AV.int IntKind.i64 (Bas.gr b).1, AV.int IntKind.i64 (Bas.gr b).2, AV.int IntKind.i64 (Bas.gr b).3], AV.int IntKind.i64 (s.17 (Int.toNat j) (2))]) (AV.bool (scB b (s.17 (Int.toNat j) (2)))) (.br (s.5 == (1 : Int) || !elemB b.1 s.5 || !elemB b.1 (s.17 (Int.toNat j) (0)) || !scB b (s.17 (Int.toNat j) (1)) || !scB b (s.17 (Int.toNat j) (2))) (.out (AV.bool false) [] (AV.bool (rightB b s (Int.toNat j))) []) (.sc (true) 95 ([AV.int IntKind.i64 b.2, AV.int IntKind.i64 (s.17 (Int.toNat j) (1)), AV.int IntKind.i64 (Bas.gr b).1]) (AV.int IntKind.i64 (b.2 ^ Int.toNat (s.17 (Int.toNat j) (1)) % (Bas.gr b).1)) (.sc (true) 95 ([AV.int IntKind.i64 b.3, AV.int IntKind.i64 (s.17 (Int.toNat j) (2)), AV.int IntKind.i64 (Bas.gr b).1]) (AV.int IntKind.i64 (b.3 ^ Int.toNat (s.17 (Int.toNat j) (2)) % (Bas.gr b).1)) (.sc (true) 68 ([AV.int IntKind.i64 (b.2 ^ Int.toNat (s.17 (Int.toNat j) (1)) % (Bas.gr b).1), AV.int IntKind.i64 (b.3 ^ Int.toNat (s.17 (Int.toNat j) (2)) % (Bas.gr b).1), AV.int IntKind.i64 (Bas.gr b).1]) (AV.int IntKind.i64 (b.2 ^ Int.toNat (s.17 (Int.toNat j) (1)) % (Bas.gr b).1 * (b.3 ^ Int.toNat (s.17 (Int.toNat j) (2)) % (Bas.gr b).1) % (Bas.gr b).1)) (.sc (true) 66 ([AV.agg (Bas.cells b), AV.agg (Spend.cells s)]) (AV.int IntKind.i64 (chS b s)) (.sc (true) 95 ([AV.int IntKind.i64 s.5, AV.int IntKind.i64 (chS b s), AV.int IntKind.i64 (Bas.gr b).1]) (AV.int IntKind.i64 (s.5 ^ Int.toNat (chS b s) % (Bas.gr b).1)) (.sc (true) 68 ([AV.int IntKind.i64 (s.5 ^ Int.toNat (chS b s) % (Bas.gr b).1), AV.int IntKind.i64 (s.17 (Int.toNat j) (0)), AV.int IntKind.i64 (Bas.gr b).1]) (AV.int IntKind.i64 (s.5 ^ Int.toNat (chS b s) % (Bas.gr b).1 * s.17 (Int.toNat j) (0) % (Bas.gr b).1)) (.out (AV.bool (b.2 ^ Int.toNat (s.17 (Int.toNat j) (1)) % (Bas.gr b).1 * (b.3 ^ Int.toNat (s.17 (Int.toNat j) (2)) % (Bas.gr b).1) % (Bas.gr b).1 == s.5 ^ Int.toNat (chS b s) % (Bas.gr b).1 * s.17 (Int.toNat j) (0) % (Bas.gr b).1)) [] (AV.bool (rightB b s (Int.toNat j))) [])))))))))))))
    (by kernel_rfl) ?_
  refine k_req (⟨k0, k1⟩) ?_
  refine k_scg (fun h1 => c1 (s.5)) ?_
  refine k_scg (fun h2 => c1 (s.17 (Int.toNat j) (0))) ?_
  refine k_scg (fun h3 => c2 (s.17 (Int.toNat j) (1))) ?_
  refine k_scg (fun h4 => c2 (s.17 (Int.toNat j) (2))) ?_
  refine k_br (fun h5 => ?_) (fun h5 => ?_)
  · have g5 := (cnd_or_t (cnd_or_t (cnd_or_t (cnd_or_t cnd_beq_t (cnd_not_t cnd_id_f)) (cnd_not_t cnd_id_f)) (cnd_not_t cnd_id_f)) (cnd_not_t cnd_id_f)) h5
    exact k_out (Ent.of_eq (congrArg _ (right_no (fit_no2 g5)).symm))
  · have g5 := (cnd_or_f (cnd_or_f (cnd_or_f (cnd_or_f cnd_beq_f (cnd_not_f cnd_id_t)) (cnd_not_f cnd_id_t)) (cnd_not_f cnd_id_t)) (cnd_not_f cnd_id_t)) h5
    refine k_sc (rpow_c (b.2) (s.17 (Int.toNat j) (1)) ((Bas.gr b).1) (by have u := scB_t g5.1.2; have v := scB_t g5.2; have w := elem_bnd hb.G g5.1.1.2; have w' := elem_bnd hb.G g5.1.1.1.2; first | omega | exact Int.emod_nonneg _ (by omega) | exact Int.emod_lt_of_pos _ (by omega)) (by have u := scB_t g5.1.2; have v := scB_t g5.2; have w := elem_bnd hb.G g5.1.1.2; have w' := elem_bnd hb.G g5.1.1.1.2; first | omega | exact Int.emod_nonneg _ (by omega) | exact Int.emod_lt_of_pos _ (by omega)) (by have u := scB_t g5.1.2; have v := scB_t g5.2; have w := elem_bnd hb.G g5.1.1.2; have w' := elem_bnd hb.G g5.1.1.1.2; first | omega | exact Int.emod_nonneg _ (by omega) | exact Int.emod_lt_of_pos _ (by omega)) (by have u := scB_t g5.1.2; have v := scB_t g5.2; have w := elem_bnd hb.G g5.1.1.2; have w' := elem_bnd hb.G g5.1.1.1.2; first | omega | exact Int.emod_nonneg _ (by omega) | exact Int.emod_lt_of_pos _ (by omega)) (by have u := scB_t g5.1.2; have v := scB_t g5.2; have w := elem_bnd hb.G g5.1.1.2; have w' := elem_bnd hb.G g5.1.1.1.2; first | omega | exact Int.emod_nonneg _ (by omega) | exact Int.emod_lt_of_pos _ (by omega))) ?_
    refine k_sc (rpow_c (b.3) (s.17 (Int.toNat j) (2)) ((Bas.gr b).1) (by have u := scB_t g5.1.2; have v := scB_t g5.2; have w := elem_bnd hb.G g5.1.1.2; have w' := elem_bnd hb.G g5.1.1.1.2; first | omega | exact Int.emod_nonneg _ (by omega) | exact Int.emod_lt_of_pos _ (by omega)) (by have u := scB_t g5.1.2; have v := scB_t g5.2; have w := elem_bnd hb.G g5.1.1.2; have w' := elem_bnd hb.G g5.1.1.1.2; first | omega | exact Int.emod_nonneg _ (by omega) | exact Int.emod_lt_of_pos _ (by omega)) (by have u := scB_t g5.1.2; have v := scB_t g5.2; have w := elem_bnd hb.G g5.1.1.2; have w' := elem_bnd hb.G g5.1.1.1.2; first | omega | exact Int.emod_nonneg _ (by omega) | exact Int.emod_lt_of_pos _ (by omega)) (by have u := scB_t g5.1.2; have v := scB_t g5.2; have w := elem_bnd hb.G g5.1.1.2; have w' := elem_bnd hb.G g5.1.1.1.2; first | omega | exact Int.emod_nonneg _ (by omega) | exact Int.emod_lt_of_pos _ (by omega)) (by have u := scB_t g5.1.2; have v := scB_t g5.2; have w := elem_bnd hb.G g5.1.1.2; have w' := elem_bnd hb.G g5.1.1.1.2; first | omega | exact Int.emod_nonneg _ (by omega) | exact Int.emod_lt_of_pos _ (by omega))) ?_
    refine k_sc (rmul_c (b.2 ^ Int.toNat (s.17 (Int.toNat j) (1)) % (Bas.gr b).1) (b.3 ^ Int.toNat (s.17 (Int.toNat j) (2)) % (Bas.gr b).1) ((Bas.gr b).1) (by have u := scB_t g5.1.2; have v := scB_t g5.2; have w := elem_bnd hb.G g5.1.1.2; have w' := elem_bnd hb.G g5.1.1.1.2; first | omega | exact Int.emod_nonneg _ (by omega) | exact Int.emod_lt_of_pos _ (by omega)) (by have u := scB_t g5.1.2; have v := scB_t g5.2; have w := elem_bnd hb.G g5.1.1.2; have w' := elem_bnd hb.G g5.1.1.1.2; first | omega | exact Int.emod_nonneg _ (by omega) | exact Int.emod_lt_of_pos _ (by omega)) (by have u := scB_t g5.1.2; have v := scB_t g5.2; have w := elem_bnd hb.G g5.1.1.2; have w' := elem_bnd hb.G g5.1.1.1.2; first | omega | exact Int.emod_nonneg _ (by omega) | exact Int.emod_lt_of_pos _ (by omega)) (by have u := scB_t g5.1.2; have v := scB_t g5.2; have w := elem_bnd hb.G g5.1.1.2; have w' := elem_bnd hb.G g5.1.1.1.2; first | omega | exact Int.emod_nonneg _ (by omega) | exact Int.emod_lt_of_pos _ (by omega)) (by have u := scB_t g5.1.2; have v := scB_t g5.2; have w := elem_bnd hb.G g5.1.1.2; have w' := elem_bnd hb.G g5.1.1.1.2; first | omega | exact Int.emod_nonneg _ (by omega) | exact Int.emod_lt_of_pos _ (by omega))) ?_
    refine k_sc (c3 (by have u := scB_t g5.1.2; have v := scB_t g5.2; have w := elem_bnd hb.G g5.1.1.2; have w' := elem_bnd hb.G g5.1.1.1.2; first | omega | exact Int.emod_nonneg _ (by omega) | exact Int.emod_lt_of_pos _ (by omega)) (by have u := scB_t g5.1.2; have v := scB_t g5.2; have w := elem_bnd hb.G g5.1.1.2; have w' := elem_bnd hb.G g5.1.1.1.2; first | omega | exact Int.emod_nonneg _ (by omega) | exact Int.emod_lt_of_pos _ (by omega))) ?_
    refine k_sc (rpow_c (s.5) (chS b s) ((Bas.gr b).1) (by have u := scB_t g5.1.2; have v := scB_t g5.2; have w := elem_bnd hb.G g5.1.1.2; have w' := elem_bnd hb.G g5.1.1.1.2; first | omega | exact Int.emod_nonneg _ (by omega) | exact Int.emod_lt_of_pos _ (by omega)) (by have u := scB_t g5.1.2; have v := scB_t g5.2; have w := elem_bnd hb.G g5.1.1.2; have w' := elem_bnd hb.G g5.1.1.1.2; first | omega | exact Int.emod_nonneg _ (by omega) | exact Int.emod_lt_of_pos _ (by omega)) (by have u := scB_t g5.1.2; have v := scB_t g5.2; have w := elem_bnd hb.G g5.1.1.2; have w' := elem_bnd hb.G g5.1.1.1.2; first | omega | exact Int.emod_nonneg _ (by omega) | exact Int.emod_lt_of_pos _ (by omega)) (by have u := scB_t g5.1.2; have v := scB_t g5.2; have w := elem_bnd hb.G g5.1.1.2; have w' := elem_bnd hb.G g5.1.1.1.2; first | omega | exact Int.emod_nonneg _ (by omega) | exact Int.emod_lt_of_pos _ (by omega)) (by have u := scB_t g5.1.2; have v := scB_t g5.2; have w := elem_bnd hb.G g5.1.1.2; have w' := elem_bnd hb.G g5.1.1.1.2; first | omega | exact Int.emod_nonneg _ (by omega) | exact Int.emod_lt_of_pos _ (by omega))) ?_
    refine k_sc (rmul_c (s.5 ^ Int.toNat (chS b s) % (Bas.gr b).1) (s.17 (Int.toNat j) (0)) ((Bas.gr b).1) (by have u := scB_t g5.1.2; have v := scB_t g5.2; have w := elem_bnd hb.G g5.1.1.2; have w' := elem_bnd hb.G g5.1.1.1.2; first | omega | exact Int.emod_nonneg _ (by omega) | exact Int.emod_lt_of_pos _ (by omega)) (by have u := scB_t g5.1.2; have v := scB_t g5.2; have w := elem_bnd hb.G g5.1.1.2; have w' := elem_bnd hb.G g5.1.1.1.2; first | omega | exact Int.emod_nonneg _ (by omega) | exact Int.emod_lt_of_pos _ (by omega)) (by have u := scB_t g5.1.2; have v := scB_t g5.2; have w := elem_bnd hb.G g5.1.1.2; have w' := elem_bnd hb.G g5.1.1.1.2; first | omega | exact Int.emod_nonneg _ (by omega) | exact Int.emod_lt_of_pos _ (by omega)) (by have u := scB_t g5.1.2; have v := scB_t g5.2; have w := elem_bnd hb.G g5.1.1.2; have w' := elem_bnd hb.G g5.1.1.1.2; first | omega | exact Int.emod_nonneg _ (by omega) | exact Int.emod_lt_of_pos _ (by omega)) (by have u := scB_t g5.1.2; have v := scB_t g5.2; have w := elem_bnd hb.G g5.1.1.2; have w' := elem_bnd hb.G g5.1.1.1.2; first | omega | exact Int.emod_nonneg _ (by omega) | exact Int.emod_lt_of_pos _ (by omega))) ?_
    exact k_out (Ent.of_eq (congrArg _ (right_eq (fit_yes2 g5)).symm))

theorem suspects_c (b : Bas) (s : Spend) (leaf : Int) (hw : b.gr.W) (bs : s.By) : Pure Tryz.prog gl0 26 [b.av, s.av, .int .i64 leaf] (.tup [.int .i64 (if openE b s leaf = 0 then b.gr.q - 1 else 0), .int .i64 (openE b s leaf)]) := by
  have c1 := open_c b s leaf hw bs
  refine pure_sk (own := ow0) Tryz.func26 (by kernel_rfl) mixed (by kernel_rfl)
    (.sc (true) 81 ([AV.agg (Bas.cells b), AV.agg (Spend.cells s), AV.int IntKind.i64 leaf]) (AV.int IntKind.i64 (openE b s leaf)) (.br (openE b s leaf != (0 : Int)) (.out (AV.tup [AV.int IntKind.i64 (0 : Int), AV.int IntKind.i64 (openE b s leaf)]) [] (AV.tup [AV.int IntKind.i64 (if openE b s leaf = (0 : Int) then Grp.q (Bas.gr b) - (1 : Int) else (0 : Int)), AV.int IntKind.i64 (openE b s leaf)]) []) (.out (AV.tup [AV.int IntKind.i64 (IntKind.wrap IntKind.i64 ((Bas.gr b).2 - (1 : Int))), AV.int IntKind.i64 (0 : Int)]) [] (AV.tup [AV.int IntKind.i64 (if openE b s leaf = (0 : Int) then Grp.q (Bas.gr b) - (1 : Int) else (0 : Int)), AV.int IntKind.i64 (openE b s leaf)]) [])))
    (by kernel_rfl) ?_
  refine k_sc (c1) ?_
  refine k_br (fun h1 => ?_) (fun h1 => ?_)
  · have g1 := cnd_bne_t h1
    exact k_out (Ent.of_eq (by rw [if_neg g1]))
  · have g1 := cnd_bne_f h1
    exact k_out (by have k := validB_q (open_0 g1).1; exact Ent.of_eq (by rw [if_pos g1, g1, wI (by omega) (by omega)]))

theorem fits_c (b : Bas) (s : Spend) (leaf u : Int) (hw : b.gr.W) (bs : s.By) : Pure Tryz.prog gl0 28 [b.av, s.av, .int .i64 leaf, .int .i64 u] (.bool (fitB b s leaf u)) := by
  have c1 := open_c b s leaf hw bs
  have c2 := xscalar_c b
  have c3 := fun h h' => message_c b u h hw h'
  refine pure_sk (own := ow0) Tryz.func28 (by kernel_rfl) mixed (by kernel_rfl)
    (.sc (true) 81 ([AV.agg (Bas.cells b), AV.agg (Spend.cells s), AV.int IntKind.i64 leaf]) (AV.int IntKind.i64 (openE b s leaf)) (.sc ((openE b s leaf == (0 : Int)) == true) 58 ([AV.agg (Bas.cells b), AV.int IntKind.i64 u]) (AV.bool (scB b u)) (.sc ((openE b s leaf == (0 : Int) && scB b u) == true) 83 ([AV.agg (Bas.cells b), AV.int IntKind.i64 u]) (AV.int IntKind.i64 (msgI b u)) (.out (AV.bool (openE b s leaf == (0 : Int) && scB b u && msgI b u != (1 : Int))) [] (AV.bool (fitB b s leaf u)) []))))
    (by kernel_rfl) ?_
  refine k_sc (c1) ?_
  refine k_scg (fun h1 => c2 (u)) ?_
  refine k_scg (fun h2 => c3 (by simp at h2; exact validB_iff.1 (open_0 h2.1).1) (by simp at h2; exact scB_t h2.2)) ?_
  exact k_out (Ent.refl _)

end Go.Proofs.YtmhipmiacghgeaaGreatDoor

namespace Go.Proofs.YtmhipmiacghgeaaGreatDoor
open Go Go.Am Go.Sp
set_option maxRecDepth 100000

theorem rsuspects_c (b : Bas) (s : Spend) (leaf : Int) (hw : b.gr.W) (bs : s.By) : Pure Tryz.prog gl0 27 [b.av, s.av, .int .i64 leaf] (.tup [.int .i64 (if openE b s leaf = 0 then b.gr.q - 1 else 0), .int .i64 (openE b s leaf)]) := by
  have c1 := r11valid_c b hw
  have c2 := rformed_c s
  have c3 := fun h => r33first_c s h
  have c4 := fun j h h' hb => r33right_c b s j h h' hb bs
  have kb := fun h => (validB_iff (b := b)).1 h
  have R := fun h => leaf_t (s := s) (leaf := leaf) h
  refine pure_sk (own := ow0) Tryz.func27 (by kernel_rfl) mixed (by kernel_rfl)
    (.sc (true) 15 ([AV.agg (Bas.cells b)]) (AV.bool (validB b)) (.sc ((!validB b) == false) 62 ([AV.agg (Spend.cells s)]) (AV.bool (okS s)) (.br (!validB b || !okS s) (.out (AV.tup [AV.int IntKind.i64 (0 : Int), AV.int IntKind.i64 (1 : Int)]) [] (AV.tup [AV.int IntKind.i64 (if openE b s leaf = (0 : Int) then Grp.q (Bas.gr b) - (1 : Int) else (0 : Int)), AV.int IntKind.i64 (openE b s leaf)]) []) (.sc (decide (leaf < (0 : Int)) == false) 63 ([AV.agg (Spend.cells s)]) (AV.int IntKind.i64 (fromS s)) (.sc ((decide (leaf < (0 : Int)) || decide (leaf < fromS s)) == false) 63 ([AV.agg (Spend.cells s)]) (AV.int IntKind.i64 (fromS s)) (.br (decide (leaf < (0 : Int)) || decide (leaf < fromS s) || decide (leaf ≥ IntKind.wrap IntKind.i64 (fromS s + (↑s.16 : Int)))) (.out (AV.tup [AV.int IntKind.i64 (0 : Int), AV.int IntKind.i64 (2 : Int)]) [] (AV.tup [AV.int IntKind.i64 (if openE b s leaf = (0 : Int) then Grp.q (Bas.gr b) - (1 : Int) else (0 : Int)), AV.int IntKind.i64 (openE b s leaf)]) []) (.sc (true) 63 ([AV.agg (Spend.cells s)]) (AV.int IntKind.i64 (fromS s)) (.sc (true) 82 ([AV.agg (Bas.cells b), AV.agg (Spend.cells s), AV.int IntKind.i64 (IntKind.wrap IntKind.i64 (leaf - fromS s))]) (AV.bool (rightB b s (Int.toNat (IntKind.wrap IntKind.i64 (leaf - fromS s))))) (.br (!rightB b s (Int.toNat (IntKind.wrap IntKind.i64 (leaf - fromS s)))) (.out (AV.tup [AV.int IntKind.i64 (0 : Int), AV.int IntKind.i64 (11 : Int)]) [] (AV.tup [AV.int IntKind.i64 (if openE b s leaf = (0 : Int) then Grp.q (Bas.gr b) - (1 : Int) else (0 : Int)), AV.int IntKind.i64 (openE b s leaf)]) []) (.out (AV.tup [AV.int IntKind.i64 (IntKind.wrap IntKind.i64 ((Bas.gr b).2 - (1 : Int))), AV.int IntKind.i64 (0 : Int)]) [] (AV.tup [AV.int IntKind.i64 (if openE b s leaf = (0 : Int) then Grp.q (Bas.gr b) - (1 : Int) else (0 : Int)), AV.int IntKind.i64 (openE b s leaf)]) []))))))))))
    (by kernel_rfl) ?_
  refine k_sc (c1) ?_
  refine k_scg (fun h1 => c2) ?_
  refine k_br (fun h2 => ?_) (fun h2 => ?_)
  · have g2 := (cnd_or_t (cnd_not_t cnd_id_f) (cnd_not_t cnd_id_f)) h2
    exact k_out (Ent.of_eq (by rw [open_1 g2]; rfl))
  · have g2 := (cnd_or_f (cnd_not_f cnd_id_t) (cnd_not_f cnd_id_t)) h2
    refine k_scg (fun h4 => c3 (g2.2)) ?_
    refine k_scg (fun h5 => c3 (g2.2)) ?_
    refine k_br (fun h6 => ?_) (fun h6 => ?_)
    · have g6 := (cnd_or_t (cnd_or_t cnd_dec_t cnd_dec_t) cnd_dec_t) h6
      exact k_out (by have r := R g2.2; rw [r.1] at g6; exact Ent.of_eq (by rw [open_2 g2.1 g2.2 (by omega)]; rfl))
    · have g6 := (cnd_or_f (cnd_or_f cnd_dec_f cnd_dec_f) cnd_dec_f) h6
      refine k_sc (c3 (g2.2)) ?_
      refine k_sc (c4 (IntKind.wrap IntKind.i64 (leaf - fromS s)) (by have r := R g2.2; rw [r.1] at g6; have k := r.2.2 (by omega); omega) (by have r := R g2.2; rw [r.1] at g6; have k := r.2.2 (by omega); omega) (kb g2.1)) ?_
      refine k_br (fun h10 => ?_) (fun h10 => ?_)
      · have g10 := (cnd_not_t cnd_id_f) h10
        exact k_out (by have r := R g2.2; rw [r.1] at g6; have k := r.2.2 (by omega); rw [k.1] at g10; exact Ent.of_eq (by rw [open_no g2.1 g2.2 (by omega) g10]; rfl))
      · have g10 := (cnd_not_f cnd_id_t) h10
        exact k_out (by have r := R g2.2; rw [r.1] at g6; have k := r.2.2 (by omega); rw [k.1] at g10; have q := validB_q g2.1; exact Ent.of_eq (by rw [open_yes g2.1 g2.2 (by omega) g10, if_pos rfl, wI (by omega) (by omega)]))

theorem rfits_c (b : Bas) (s : Spend) (leaf u : Int) (hw : b.gr.W) (bs : s.By) : Pure Tryz.prog gl0 29 [b.av, s.av, .int .i64 leaf, .int .i64 u] (.bool (fitB b s leaf u)) := by
  have c1 := r11valid_c b hw
  have c2 := rformed_c s
  have c3 := fun h => r33first_c s h
  have c4 := fun j h h' hb => r33right_c b s j h h' hb bs
  have c5 := r33scalar_c b
  have c6 := fun h h' => rmessage_c b u h h'
  have kb := fun h => (validB_iff (b := b)).1 h
  have R := fun h => leaf_t (s := s) (leaf := leaf) h
  refine pure_sk (own := ow0) Tryz.func29 (by kernel_rfl) mixed (by kernel_rfl)
    (.sc (true) 15 ([AV.agg (Bas.cells b)]) (AV.bool (validB b)) (.sc ((!validB b) == false) 62 ([AV.agg (Spend.cells s)]) (AV.bool (okS s)) (.sc ((!validB b || !okS s || decide (leaf < (0 : Int))) == false) 63 ([AV.agg (Spend.cells s)]) (AV.int IntKind.i64 (fromS s)) (.sc ((!validB b || !okS s || decide (leaf < (0 : Int)) || decide (leaf < fromS s)) == false) 63 ([AV.agg (Spend.cells s)]) (AV.int IntKind.i64 (fromS s)) (.br (!validB b || !okS s || decide (leaf < (0 : Int)) || decide (leaf < fromS s) || decide (leaf ≥ IntKind.wrap IntKind.i64 (fromS s + (↑s.16 : Int)))) (.out (AV.bool false) [] (AV.bool (fitB b s leaf u)) []) (.sc (true) 63 ([AV.agg (Spend.cells s)]) (AV.int IntKind.i64 (fromS s)) (.sc (true) 82 ([AV.agg (Bas.cells b), AV.agg (Spend.cells s), AV.int IntKind.i64 (IntKind.wrap IntKind.i64 (leaf - fromS s))]) (AV.bool (rightB b s (Int.toNat (IntKind.wrap IntKind.i64 (leaf - fromS s))))) (.sc (rightB b s (Int.toNat (IntKind.wrap IntKind.i64 (leaf - fromS s))) == true) 65 ([AV.agg [AV.int IntKind.i64 (Bas.gr b).1, AV.int IntKind.i64 (Bas.gr b).2, AV.int IntKind.i64 (Bas.gr b).3], AV.int IntKind.i64 u]) (AV.bool (scB b u)) (.sc ((rightB b s (Int.toNat (IntKind.wrap IntKind.i64 (leaf - fromS s))) && scB b u) == true) 84 ([AV.agg (Bas.cells b), AV.int IntKind.i64 u]) (AV.int IntKind.i64 (msgI b u)) (.out (AV.bool (rightB b s (Int.toNat (IntKind.wrap IntKind.i64 (leaf - fromS s))) && scB b u && msgI b u != (1 : Int))) [] (AV.bool (fitB b s leaf u)) []))))))))))
    (by kernel_rfl) ?_
  refine k_sc (c1) ?_
  refine k_scg (fun h1 => c2) ?_
  refine k_scg (fun h2 => c3 (by clear c1 c2 c3 c4 c5 c6; simp at h2; grind)) ?_
  refine k_scg (fun h3 => c3 (by clear c1 c2 c3 c4 c5 c6; simp at h3; grind)) ?_
  refine k_br (fun h4 => ?_) (fun h4 => ?_)
  · have g4 := (cnd_or_t (cnd_or_t (cnd_or_t (cnd_or_t (cnd_not_t cnd_id_f) (cnd_not_t cnd_id_f)) cnd_dec_t) cnd_dec_t) cnd_dec_t) h4
    exact k_out (Ent.of_eq (congrArg _ (fit_f (fun h0 => by (have o := open_0 h0; have r := R o.2.1; rw [r.1] at g4; simp [o.1, o.2.1] at g4; omega))).symm))
  · have g4 := (cnd_or_f (cnd_or_f (cnd_or_f (cnd_or_f (cnd_not_f cnd_id_t) (cnd_not_f cnd_id_t)) cnd_dec_f) cnd_dec_f) cnd_dec_f) h4
    refine k_sc (c3 (g4.1.1.1.2)) ?_
    refine k_sc (c4 (IntKind.wrap IntKind.i64 (leaf - fromS s)) (by have r := R g4.1.1.1.2; rw [r.1] at g4; have k := r.2.2 (by omega); omega) (by have r := R g4.1.1.1.2; rw [r.1] at g4; have k := r.2.2 (by omega); omega) (kb g4.1.1.1.1)) ?_
    refine k_scg (fun h8 => c5 (u)) ?_
    refine k_scg (fun h9 => c6 (kb g4.1.1.1.1) (by simp at h9; exact scB_t h9.2)) ?_
    exact k_out (by have r := R g4.1.1.1.2; rw [r.1] at g4; have k := r.2.2 (by omega); rw [k.1]; exact Ent.of_eq (congrArg _ (fit_eq g4.1.1.1.1 g4.1.1.1.2 (by omega)).symm))

theorem exposeFits_c (b : Bas) (s : Spend) (leaf u : Int) (hw : b.gr.W) (bs : s.By) : Pure Tryz.prog gl0 6 [b.av, s.av, .int .i64 leaf, .int .i64 u] (.bool true) := by
  have c1 := few33_1 s
  have c2 := suspects_c b s leaf hw bs
  have c3 := rsuspects_c b s leaf hw bs
  have c4 := fits_c b s leaf u hw bs
  have c5 := rfits_c b s leaf u hw bs
  refine pure_sk (own := ow0) Tryz.func6 (by kernel_rfl) mixed (by kernel_rfl)
    (.sc (true) 17 ([]) (AV.bool true) (.ff (.sc (true) 18 ([AV.isl (80) (1) fun (r k : Nat) => atL (List.getD [Spend.cells s] (r + 0) []) k]) (AV.bool (fewB s)) (.br (!fewB s) (.out (AV.bool true) [] (AV.bool true) []) (.sc (true) 26 ([AV.agg (Bas.cells b), AV.agg (Spend.cells s), AV.int IntKind.i64 leaf]) (AV.tup [AV.int IntKind.i64 (if openE b s leaf = (0 : Int) then Grp.q (Bas.gr b) - (1 : Int) else (0 : Int)), AV.int IntKind.i64 (openE b s leaf)]) (.sc (true) 27 ([AV.agg (Bas.cells b), AV.agg (Spend.cells s), AV.int IntKind.i64 leaf]) (AV.tup [AV.int IntKind.i64 (if openE b s leaf = (0 : Int) then Grp.q (Bas.gr b) - (1 : Int) else (0 : Int)), AV.int IntKind.i64 (openE b s leaf)]) (.sc (true) 28 ([AV.agg (Bas.cells b), AV.agg (Spend.cells s), AV.int IntKind.i64 leaf, AV.int IntKind.i64 u]) (AV.bool (fitB b s leaf u)) (.sc (true) 29 ([AV.agg (Bas.cells b), AV.agg (Spend.cells s), AV.int IntKind.i64 leaf, AV.int IntKind.i64 u]) (AV.bool (fitB b s leaf u)) (.out (AV.bool ((fitB b s leaf u == fitB b s leaf u && (if openE b s leaf = (0 : Int) then (Bas.gr b).2 - (1 : Int) else (0 : Int)) == if openE b s leaf = (0 : Int) then (Bas.gr b).2 - (1 : Int) else (0 : Int)) && openE b s leaf == openE b s leaf)) [] (AV.bool true) [])))))))))
    (by kernel_rfl) ?_
  refine k_sc (awake33_c) ?_
  refine k_ff ?_
  refine k_sc (c1) ?_
  refine k_br (fun h3 => ?_) (fun h3 => ?_)
  · have g3 := (cnd_not_t cnd_id_f) h3
    exact k_out (Ent.of_eq (by first | rfl | simp_all))
  · have g3 := (cnd_not_f cnd_id_t) h3
    refine k_sc (c2) ?_
    refine k_sc (c3) ?_
    refine k_sc (c4) ?_
    refine k_sc (c5) ?_
    exact k_out (Ent.of_eq (by simp))

end Go.Proofs.YtmhipmiacghgeaaGreatDoor

namespace Go.Sp
open Go Go.Am

def u8s (n : Nat) : List CT := List.replicate n (.int .u8)
def spendT : List CT := [.int .i64, .int .i64, .int .i64, .int .i64, .int .i64] ++ u8s 32 ++ [.int .i64, .int .i64, .int .i64, .int .i64, .int .i64, .int .i64] ++ u8s 32 ++ [.int .i64, .int .i64, .sl [.int .i64, .int .i64, .int .i64], .int .i64, .sl (u8s 32)]

/-- The spend with these cells. -/
def spendOf (g : Nat → AV) : Spend :=
  { bank := intOfAV (g 0), epoch := intOfAV (g 1), denom := intOfAV (g 2), depth := intOfAV (g 3), a := intOfAV (g 4), root := fun j => intOfAV (g (5 + j)),
    z := intOfAV (g 37), sa := intOfAV (g 38), sb := intOfAV (g 39), r := intOfAV (g 40), level := intOfAV (g 41), index := intOfAV (g 42), payee := fun j => intOfAV (g (43 + j)),
    time := intOfAV (g 75), number := intOfAV (g 76), nl := islN (g 77), lf := fun i j => intOfAV (islF (g 77) i j), pidx := intOfAV (g 78), np := islN (g 79), pf := fun i j => intOfAV (islF (g 79) i j) }

set_option maxRecDepth 100000 in
theorem spend_of {w : World} {cs : List Value} (h : Fits w spendT cs) : ∃ s : Spend, Rel noB w s.av (.agg cs.toArray) := by
  obtain ⟨g, hg⟩ := h.pick
  refine ⟨spendOf g, h.agg hg ?_⟩
  show EntL [] _ (Spend.cw (spendOf g) (.isl 3 (islN (g 77)) fun i j => .int .i64 (intOfAV (islF (g 77) i j))) (.isl 32 (islN (g 79)) fun i j => .int .u8 (intOfAV (islF (g 79) i j))))
  have hl : ∀ os, Ent os (g 77) (.isl 3 (islN (g 77)) fun i j => .int .i64 (intOfAV (islF (g 77) i j))) := fun os => canonL (cs := [.int .i64, .int .i64, .int .i64]) (hg 77 _ rfl).1 rfl
  have hp : ∀ os, Ent os (g 79) (.isl 32 (islN (g 79)) fun i j => .int .u8 (intOfAV (islF (g 79) i j))) := fun os => canonL (cs := u8s 32) (hg 79 _ rfl).1 rfl
  have hi : ∀ os j k, spendT[j]? = some (.int k) → Ent os (g j) (.int k (intOfAV (g j))) := fun os j k hj => canonI (hg j _ hj).1
  unfold Spend.cw
  exact ⟨hi _ 0 _ rfl, hi _ 1 _ rfl, hi _ 2 _ rfl, hi _ 3 _ rfl, hi _ 4 _ rfl, hi _ 5 _ rfl, hi _ 6 _ rfl, hi _ 7 _ rfl, hi _ 8 _ rfl, hi _ 9 _ rfl, hi _ 10 _ rfl, hi _ 11 _ rfl, hi _ 12 _ rfl, hi _ 13 _ rfl, hi _ 14 _ rfl, hi _ 15 _ rfl, hi _ 16 _ rfl, hi _ 17 _ rfl, hi _ 18 _ rfl, hi _ 19 _ rfl, hi _ 20 _ rfl, hi _ 21 _ rfl, hi _ 22 _ rfl, hi _ 23 _ rfl, hi _ 24 _ rfl, hi _ 25 _ rfl, hi _ 26 _ rfl, hi _ 27 _ rfl, hi _ 28 _ rfl, hi _ 29 _ rfl, hi _ 30 _ rfl, hi _ 31 _ rfl, hi _ 32 _ rfl, hi _ 33 _ rfl, hi _ 34 _ rfl, hi _ 35 _ rfl, hi _ 36 _ rfl, hi _ 37 _ rfl, hi _ 38 _ rfl, hi _ 39 _ rfl, hi _ 40 _ rfl, hi _ 41 _ rfl, hi _ 42 _ rfl, hi _ 43 _ rfl, hi _ 44 _ rfl, hi _ 45 _ rfl, hi _ 46 _ rfl, hi _ 47 _ rfl, hi _ 48 _ rfl, hi _ 49 _ rfl, hi _ 50 _ rfl, hi _ 51 _ rfl, hi _ 52 _ rfl, hi _ 53 _ rfl, hi _ 54 _ rfl, hi _ 55 _ rfl, hi _ 56 _ rfl, hi _ 57 _ rfl, hi _ 58 _ rfl, hi _ 59 _ rfl, hi _ 60 _ rfl, hi _ 61 _ rfl, hi _ 62 _ rfl, hi _ 63 _ rfl, hi _ 64 _ rfl, hi _ 65 _ rfl, hi _ 66 _ rfl, hi _ 67 _ rfl, hi _ 68 _ rfl, hi _ 69 _ rfl, hi _ 70 _ rfl, hi _ 71 _ rfl, hi _ 72 _ rfl, hi _ 73 _ rfl, hi _ 74 _ rfl, hi _ 75 _ rfl, hi _ 76 _ rfl, hl _, hi _ 78 _ rfl, hp _, trivial⟩

end Go.Sp

namespace Go.Sp
open Go Go.Am

def i64s (n : Nat) : List CT := List.replicate n (.int .i64)
def chnT : List CT := spendT ++ [.sl spendT]
def escT : List CT := [.int .i64, .int .i64, .sl [.int .i64], .int .i64, .sl [.int .i64]]
def payT : List CT := [.int .i64, .sl spendT, .sl chnT, .sl escT]
def invT : List CT := u8s 32 ++ i64s 3

def chnOf (g : Nat → AV) : Chn := ⟨spendOf g, islN (g 80), fun i => spendOf (islF (g 80) i)⟩
def escOf (g : Nat → AV) : Esc := ⟨intOfAV (g 0), intOfAV (g 1), islN (g 2), fun i => intOfAV (islF (g 2) i 0), intOfAV (g 3), islN (g 4), fun i => intOfAV (islF (g 4) i 0)⟩
def payOf (g : Nat → AV) : Pay := ⟨intOfAV (g 0), islN (g 1), fun i => spendOf (islF (g 1) i), islN (g 2), fun i => chnOf (islF (g 2) i), islN (g 3), fun i => escOf (islF (g 3) i)⟩
def invOf (g : Nat → AV) : Inv := ⟨fun j => intOfAV (g j), intOfAV (g 32), intOfAV (g 33), intOfAV (g 34)⟩

set_option maxRecDepth 100000 in
theorem pay_of {w : World} {cs : List Value} (h : Fits w payT cs) : ∃ p : Pay, Rel noB w p.av (.agg cs.toArray) ∧ p.nc ≤ maxLen ∧ ∀ i, i < p.nc → (p.ch i).n ≤ maxLen := by
  obtain ⟨g, hg, hr⟩ := h.canon
  have h2 := (hg 2 (.sl chnT) rfl).sl_inv
  refine ⟨payOf g, ?_, h2.1, fun i hi => ((h2.2 i 80 (.sl spendT) hi rfl).sl_inv).1⟩
  exact hr

set_option maxRecDepth 100000 in
theorem inv_of {w : World} {cs : List Value} (h : Fits w invT cs) : ∃ p : Inv, Rel noB w p.av (.agg cs.toArray) := by
  obtain ⟨g, hg, hr⟩ := h.canon
  exact ⟨invOf g, hr⟩

end Go.Sp

namespace Go.Sp
open Go Go.Am
def coinT : List CT := i64s 5 ++ u8s 32 ++ i64s 4
def ctxT : List CT := u8s 32 ++ i64s 2
def basOf (g : Nat → AV) : Bas := ⟨⟨intOfAV (g 0), intOfAV (g 1), intOfAV (g 2)⟩, intOfAV (g 3), intOfAV (g 4), intOfAV (g 5)⟩
def coinOf (g : Nat → AV) : Coin := ⟨intOfAV (g 0), intOfAV (g 1), intOfAV (g 2), intOfAV (g 3), intOfAV (g 4), fun j => intOfAV (g (5 + j)), intOfAV (g 37), intOfAV (g 38), intOfAV (g 39), intOfAV (g 40)⟩
def cxtOf (g : Nat → AV) : Cxt := ⟨fun j => intOfAV (g j), intOfAV (g 32), intOfAV (g 33)⟩
theorem cell_i64 {a : AV} (h : CellOk (.int .i64) a) : -9223372036854775808 ≤ intOfAV a ∧ intOfAV a ≤ 9223372036854775807 := by
  obtain ⟨h1, h2⟩ := (Lit.wf_int_iff _ _).1 h.int_inv
  exact ⟨Int.le_trans (by decide) h1, Int.le_trans h2 (by decide)⟩
theorem cell_u8 {a : AV} (h : CellOk (.int .u8) a) : 0 ≤ intOfAV a ∧ intOfAV a < 256 := by
  obtain ⟨h1, h2⟩ := (Lit.wf_int_iff _ _).1 h.int_inv
  exact ⟨Int.le_trans (by decide) h1, Int.lt_of_le_of_lt h2 (by decide)⟩
theorem u8_by {ts : List CT} {g : Nat → AV} {k n : Nat} (h : ∀ (j : Nat) c, ts[j]? = some c → CellOk c (g j)) (ht : ∀ j, j < n → ts[k + j]? = some (.int .u8)) : byB (fun j => intOfAV (g (k + j))) n := fun i hi => cell_u8 (h (k + i) _ (ht i hi))
theorem coinT_u8 : ∀ j, j < 32 → coinT[5 + j]? = some (.int .u8) := fun j hj => by
  show ((i64s 5 ++ u8s 32) ++ i64s 4)[5 + j]? = _
  rw [List.getElem?_append_left (by simp only [i64s, u8s, List.length_append, List.length_replicate]; omega), List.getElem?_append_right (by simp only [i64s, List.length_replicate]; omega)]
  unfold u8s
  rw [List.getElem?_replicate, if_pos (by simp only [i64s, List.length_replicate]; omega)]
theorem ctxT_u8 : ∀ j, j < 32 → ctxT[j]? = some (.int .u8) := fun j hj => by
  show (u8s 32 ++ i64s 2)[j]? = _
  rw [List.getElem?_append_left (by simp only [u8s, List.length_replicate]; omega)]
  unfold u8s
  rw [List.getElem?_replicate, if_pos hj]
theorem coin_by {g : Nat → AV} (h : ∀ (j : Nat) c, coinT[j]? = some c → CellOk c (g j)) : byB (coinOf g).root 32 := u8_by (k := 5) h coinT_u8
theorem cxt_by {g : Nat → AV} (h : ∀ (j : Nat) c, ctxT[j]? = some c → CellOk c (g j)) : byB (cxtOf g).payee 32 := fun i hi => cell_u8 (h i _ (ctxT_u8 i hi))
theorem basOf_w {g : Nat → AV} (h : ∀ (j : Nat) c, (i64s 6)[j]? = some c → CellOk c (g j)) : (basOf g).gr.W :=
  ⟨(cell_i64 (h 0 _ rfl)).2, (cell_i64 (h 1 _ rfl)).2⟩
def spA : List CT := [.int .i64, .int .i64, .int .i64, .int .i64, .int .i64]
def spB : List CT := [.int .i64, .int .i64, .int .i64, .int .i64, .int .i64, .int .i64]
def spC : List CT := [.int .i64, .int .i64, .sl [.int .i64, .int .i64, .int .i64], .int .i64, .sl (u8s 32)]
theorem spendT_root : ∀ j, j < 32 → spendT[5 + j]? = some (.int .u8) := fun j hj => by
  show (((spA ++ u8s 32) ++ spB) ++ u8s 32 ++ spC)[5 + j]? = _
  rw [List.append_assoc, List.append_assoc, List.getElem?_append_left (by simp only [spA, u8s, List.length_append, List.length_replicate, List.length_cons, List.length_nil]; omega),
    List.getElem?_append_right (by show 5 ≤ _; omega)]
  unfold u8s
  rw [List.getElem?_replicate, if_pos (by show 5 + j - 5 < 32; omega)]
theorem spendT_payee : ∀ j, j < 32 → spendT[43 + j]? = some (.int .u8) := fun j hj => by
  show (((spA ++ u8s 32) ++ spB) ++ u8s 32 ++ spC)[43 + j]? = _
  have e : ((spA ++ u8s 32) ++ spB).length = 43 := by simp [spA, spB, u8s]
  rw [List.append_assoc, List.getElem?_append_right (by omega), e, List.getElem?_append_left (by simp only [u8s, List.length_replicate]; omega)]
  unfold u8s
  rw [List.getElem?_replicate, if_pos (by omega)]
theorem spend_by {g : Nat → AV} (h : ∀ (j : Nat) c, spendT[j]? = some c → CellOk c (g j)) : (spendOf g).By := ⟨u8_by (k := 5) h spendT_root, u8_by (k := 43) h spendT_payee⟩
end Go.Sp

namespace Go.Am
open Go

theorem laid_at {P : Program} {w : World} : ∀ {laid : List (String × DataW Unit)} {ps : List MemPlace}, DataW.LaidVars P w laid ps → ∀ {i : Nat} {n : String} {d : DataW Unit}, laid[i]? = some (n, d) →
    ∃ g t cs fuel p, P.globalNamed n = some g ∧ (P.globals[g]?).map (·.type) = some t ∧ w.var? P n = some cs ∧ DataW.trod (fun _ => ()) P w 0 (fun _ => true) false fuel t cs.toList = some (d, p)
  | [], _, _, i, n, d, h => by simp at h
  | (n', d') :: r, ps, ⟨g, t, cs, fuel, p, q, h1, h2, h3, h4, _, _⟩, 0, n, d, h => by
    simp only [List.getElem?_cons_zero, Option.some.injEq, Prod.mk.injEq] at h
    obtain ⟨rfl, rfl⟩ := h
    exact ⟨g, t, cs, fuel, p, h1, h2, h3, h4⟩
  | (n', d') :: r, ps, ⟨g, t, cs, fuel, p, q, h1, h2, h3, h4, h5, _⟩, i + 1, n, d, h => laid_at h5 (by simpa using h)

/-- Is the variable an array of so many integers? -/
def arrOk (P : Program) (g n : Nat) (k : IntKind) : Bool :=
  match (P.globals[g]?).map (·.type) with
  | some t =>
    match P.underlying t with
    | some (.array m e) =>
      match P.underlying e with
      | some (.int k') => Nat.beq m n && Nat.beq (P.cellsOf e) 1 && decide (k' = k)
      | _ => false
    | _ => false
  | none => false
theorem arrOk_inv {P : Program} {g n : Nat} {k : IntKind} (h : arrOk P g n k = true) : ∃ t e, (P.globals[g]?).map (·.type) = some t ∧ P.underlying t = some (.array n e) ∧ P.underlying e = some (.int k) ∧ P.cellsOf e = 1 := by
  unfold arrOk at h
  split at h
  · rename_i t ht
    split at h
    · rename_i m e hu
      split at h
      · rename_i k' he
        simp only [Bool.and_eq_true, decide_eq_true_eq, Nat.beq_eq] at h
        obtain ⟨⟨rfl, h2⟩, rfl⟩ := h
        exact ⟨t, e, ht, hu, he, h2⟩
      · cases h
    · cases h
  · cases h

theorem glob_ints {P : Program} {w : World} {β : Book} {laid : List (String × DataW Unit)} (h : laidMetH P laid w) (hp : (laid.all fun x => x.2.handleName?.isNone) = true) (i : Nat) (name : String) {g n : Nat}
    {k : IntKind} {F : Nat → Int} (hl : laid[i]? = some (name, .agg ((List.range n).map fun j => .lit (.int k (F j))))) (hg : P.globalNamed name = some g) (ho : arrOk P g n k = true) (hn : 0 < n) (hb : β.free g) : Rel β w (.ipt n fun j => .int k (F j)) (.pointer (some ⟨g, 0, none⟩)) := by
  obtain ⟨t, e, ht, hu, he, hc⟩ := arrOk_inv ho
  rw [MakeChecks.laidMetH_plain _ _ _ hp] at h
  obtain ⟨ps, hv, _, _⟩ := h
  obtain ⟨g', t', cs, fuel, p, h1, h2, h3, h4⟩ := laid_at hv hl
  obtain rfl := Option.some.inj (hg.symm.trans h1)
  obtain rfl := Option.some.inj (ht.symm.trans h2)
  obtain ⟨xs, m, rfl, hx, hlen, hxl, hel⟩ := DataW.trod_array hu h4
  simp only [Prod.mk.injEq, DataW.agg.injEq] at hx
  obtain ⟨hx, _⟩ := hx
  have cell : ∀ j, j < n → cs[j]? = some (.int k (F j)) := fun j hj => by
    have hj' := hel j hj
    rw [hc, Nat.mul_one, List.getElem?_eq_getElem (by omega : j < xs.length)] at hj'
    obtain ⟨v, e1, e2, _⟩ := DataW.trod_int he hj'
    have e3 : (xs.map (·.1))[j]? = some (.lit (.int k v)) := by rw [List.getElem?_map, List.getElem?_eq_getElem (by omega : j < xs.length), e2]; rfl
    rw [← hx] at e3
    simp only [List.getElem?_map, List.getElem?_range hj, Option.map_some, Option.some.injEq, DataW.lit.injEq, Lit.int.injEq, true_and] at e3
    subst e3
    have e4 : (List.take 1 (List.drop j cs.toList))[0]? = some (.int k (F j)) := by rw [e1]; rfl
    rw [List.getElem?_take_of_lt (by decide), List.getElem?_drop, Nat.add_zero] at e4
    simpa using e4
  refine .ipt (fun j => .int k (F j)) hn hb (fun j hj => ?_) (fun _ _ => rfl) (fun _ _ => .int) (fun _ _ => .int)
  rw [World.var?_cell hg h3]
  simpa using cell j hj
end Go.Am
