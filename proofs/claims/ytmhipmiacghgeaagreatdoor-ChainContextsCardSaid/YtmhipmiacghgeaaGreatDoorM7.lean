/- Part of the proof: Chn2, GS22, GS23, GS24, GS25, GS26, GS27, Sha3, GS28, GS29, SpOpen, SpOpenP, Args, Args2, EnGlob. -/
import Derived.Test.YtmhipmiacghgeaaGreatDoorM6
import Derived.Test.YtmhipmiacghgeaaGreatDoorProg
import Derived.Test.YtmhipmiacghgeaaGreatDoorM3
import Derived.Test.YtmhipmiacghgeaaGreatDoorM5
import Derived.Test.YtmhipmiacghgeaaGreatDoorM4
import Derived.DataShut
import Derived.OpenShut
import Derived.FnData
import Derived.MakeChecks
namespace Go.Sp
open Go Go.Am
def leafP (s : Spend) (k : Nat) : List Int := (List.range k).flatMap fun i => [s.lf i 0, s.lf i 1, s.lf i 2]
def pathC (s : Spend) (i : Nat) : It := match i with | 0 => .int s.pidx | j + 1 => .byt 32 (s.pf j)
def Spend.pathI (s : Spend) : It := .li (s.np + 1) (pathC s)
def Spend.it (s : Spend) : It := lsI [s.coin.it, intsI [s.level, s.index], .byt 32 s.payee, intsI [s.time, s.number], intsI (leafP s s.nl), s.pathI]
def Spend.dig (s : Spend) : Nat → Int := tagI "specie/spend-item".toUTF8 s.it
theorem leafP_succ (s : Spend) (k : Nat) : leafP s (k + 1) = leafP s k ++ [s.lf k 0, s.lf k 1, s.lf k 2] := by simp [leafP, List.range_succ]
theorem leafP_len (s : Spend) : ∀ k, (leafP s k).length = 3 * k
  | 0 => rfl
  | k + 1 => by rw [leafP_succ, List.length_append, leafP_len s k]; simp; omega
/-- Digests as a list of items. -/
def hashI (n : Nat) (F : Nat → Nat → Int) : It := .li n fun i => .byt 32 (F i)
def two (f g : Nat → Int) (i : Nat) : Nat → Int := match i with | 0 => f | _ => g
def nameF (c : Coin) (h : Nat → Int) : Nat → Int := tagI "specie/chain-next".toUTF8 (hashI 2 (two c.dig h))
def chainF (S : Nat → Spend) (n : Nat) : Nat → Int := if n = 0 then fun _ => 0 else tagI "specie/chain".toUTF8 (hashI n fun i => (S i).dig)
theorem rvalid_d {n : Nat} {c : Nat → It} {d : Int} (h : (It.li n c).okD d = true) : 0 < d ∧ n ≤ 1000 ∧ ∀ i, i < n → (c i).okD (d - 1) = true := It.okD_li h
theorem leaf3_ob {os : List (Option Ob)} {s : Spend} {k : Nat} {mu : Bool} {X : List (List AV)} (hX : X = [[.int .i64 (s.lf k 0)], [.int .i64 (s.lf k 1)], [.int .i64 (s.lf k 2)]]) :
    ObEnt os ⟨1, (leafP s k).length + 3, mu, .fn fun i j => .int .i64 (bif Nat.blt i (leafP s k).length then (leafP s k).getD i 0 else intOfAV (atL (X.getD (i - (leafP s k).length) []) j))⟩ ⟨1, (leafP s (k + 1)).length, mu, .fn (ilF .i64 (leafP s (k + 1)))⟩ := by
  subst hX
  refine ⟨rfl, (by show (leafP s k).length + 3 = (leafP s (k + 1)).length; rw [leafP_len, leafP_len]; omega), rfl, fun i j hi hj => Ent.of_eq ?_⟩
  obtain rfl : j = 0 := Nat.lt_one_iff.1 hj
  have hi : i < (leafP s k).length + 3 := hi
  show AV.int .i64 (bif Nat.blt i (leafP s k).length then (leafP s k).getD i 0 else intOfAV (atL (List.getD _ (i - (leafP s k).length) []) 0)) = .int .i64 ((leafP s (k + 1)).getD i 0)
  rw [leafP_succ, getD_app]
  by_cases h : i < (leafP s k).length
  · rw [blt_t h]; rfl
  · rw [blt_f (by omega)]
    obtain ⟨q, hq⟩ : ∃ q, i - (leafP s k).length = q := ⟨_, rfl⟩
    have hq3 : q < 3 := by omega
    rw [hq]
    match q, hq3 with
    | 0, _ => rfl
    | 1, _ => rfl
    | 2, _ => rfl
theorem path_push {os : List (Option Ob)} {s : Spend} {k n : Nat} {mu : Bool} {x : List AV} (hn : n = k + 1 + 1) (h : EntL os x (It.byt 32 (s.pf k)).cells) :
    ObEnt os ⟨4, k + 1 + 1, mu, .cat (k + 1) (.row fun i => (pathC s i).cells) (.lst [x])⟩ ⟨4, n, mu, .row fun i => (pathC s i).cells⟩ :=
  ObEnt.catRow (c := fun i => (pathC s i).cells) (c' := fun i => (pathC s i).cells) hn (fun _ _ => EntL.refl _) h
theorem path_start {os : List (Option Ob)} {s : Spend} {mu : Bool} : ObEnt os ⟨4, 1, mu, .lst [[.int .i64 1, .int .i64 s.pidx, .nsl, .nsl]]⟩ ⟨4, 0 + 1, mu, .row fun i => (pathC s i).cells⟩ :=
  ⟨rfl, rfl, rfl, fun i j hi _ => by
    obtain rfl : i = 0 := Nat.lt_one_iff.1 hi
    exact Ent.atL (int_row rfl) j⟩
theorem liD_ok {n : Nat} {c : Nat → It} {d : Int} (hd : 0 < d) (hn : n ≤ 1000) (h : ∀ i, i < n → (c i).okD (d - 1) = true) : (It.li n c).okD d = true := by
  simp only [It.okD, Bool.and_eq_true, decide_eq_true_eq, List.all_eq_true, List.mem_range, Nat.ble_eq]
  exact ⟨⟨hd, hn⟩, h⟩
theorem lsI_ok {L : List It} {d : Int} (hd : 0 < d) (hn : L.length ≤ 1000) (h : ∀ x, x ∈ L → x.okD (d - 1) = true) : (lsI L).okD d = true := liD_ok hd hn fun i hi => by
  rw [show L.getD i (.int 0) = L[i] by simp [List.getD_eq_getElem?_getD, hi]]
  exact h _ (List.getElem_mem hi)
theorem intsI_ok {l : List Int} {d : Int} (hd : 0 < d) (hn : l.length ≤ 1000) : (intsI l).okD d = true := liD_ok hd hn fun _ _ => rfl
/-- Its bytes, and those of its path, are bytes; and it is small. -/
structure Spend.Sm (s : Spend) : Prop where
  by_ : s.By
  path : ∀ j, j < s.np → byB (s.pf j) 32
  nl : s.nl ≤ 40
  np : s.np ≤ 20
theorem coin_ok7 (c : Coin) : c.it.okD 7 = true := lsI_ok (by decide) (by simp) fun x hx => by
  simp only [List.mem_cons, List.not_mem_nil, or_false] at hx
  rcases hx with e | e | e
  · exact e ▸ intsI_ok (by decide) (by simp)
  · exact e ▸ rfl
  · exact e ▸ intsI_ok (by decide) (by simp)
theorem Spend.it_ok {s : Spend} (h : s.Sm) : s.it.okD 8 = true := lsI_ok (by decide) (by simp) fun x hx => by
  have h1 := h.nl; have h2 := h.np
  simp only [List.mem_cons, List.not_mem_nil, or_false] at hx
  rcases hx with e | e | e | e | e | e
  · exact e ▸ coin_ok7 _
  · exact e ▸ intsI_ok (by decide) (by simp)
  · exact e ▸ rfl
  · exact e ▸ intsI_ok (by decide) (by simp)
  · exact e ▸ intsI_ok (by decide) (by rw [leafP_len]; omega)
  · exact e ▸ liD_ok (by decide) (by omega) fun i _ => by cases i <;> rfl
theorem path_lenP (s : Spend) : ∀ k, (It.encP (s.np + 1) (pathC s) (k + 1)).length = 14 + 37 * k
  | 0 => by rw [It.encP_succ, It.encP_zero, List.length_append]; show _ + (It.int s.pidx).enc.length = _; rw [int_len]; simp [nbL_len]
  | k + 1 => by rw [It.encP_succ, List.length_append, path_lenP s k]; show _ + (It.byt 32 (s.pf k)).enc.length = _; rw [byt_len]; omega
theorem li6_len {a b c d e f : It} : (lsI [a, b, c, d, e, f]).enc.length = 5 + a.enc.length + b.enc.length + c.enc.length + d.enc.length + e.enc.length + f.enc.length := by
  show (It.encP 6 _ (0 + 1 + 1 + 1 + 1 + 1 + 1)).length = _
  rw [It.encP_succ, It.encP_succ, It.encP_succ, It.encP_succ, It.encP_succ, It.encP_succ, It.encP_zero]
  simp [nbL_len]; omega
theorem Spend.it_len {s : Spend} (h : s.Sm) : s.it.enc.length ≤ 16384 := by
  have h1 := h.nl; have h2 := h.np
  have hp : s.pathI.enc.length = 14 + 37 * s.np := path_lenP s s.np
  unfold Spend.it
  rw [li6_len, intsI_len, intsI_len, intsI_len, byt_len, hp, leafP_len, Coin.it_len]
  simp
  omega
theorem Spend.it_okB {s : Spend} (h : s.Sm) : s.it.okB := lsI_okB fun x hx => by
  simp only [List.mem_cons, List.not_mem_nil, or_false] at hx
  rcases hx with e | e | e | e | e | e
  · exact e ▸ Coin.it_okB h.by_.root
  · exact e ▸ intsI_okB _
  · exact e ▸ h.by_.payee
  · exact e ▸ intsI_okB _
  · exact e ▸ intsI_okB _
  · refine e ▸ ?_
    intro i hi
    cases i with
    | zero => trivial
    | succ j => exact h.path j (by omega)
theorem hash_ok {n : Nat} {F : Nat → Nat → Int} (h : n ≤ 1000) : (hashI n F).okD 8 = true := liD_ok (by decide) h fun _ _ => rfl
theorem hash_lenP (F : Nat → Nat → Int) (m : Nat) : ∀ k, (It.encP m (fun i => It.byt 32 (F i)) k).length = 5 + 37 * k
  | 0 => by rw [It.encP_zero]; simp [nbL_len]
  | k + 1 => by rw [It.encP_succ, List.length_append, hash_lenP F m k, byt_len]; omega
theorem hash_len (n : Nat) (F : Nat → Nat → Int) : (hashI n F).enc.length = 5 + 37 * n := hash_lenP F _ _
theorem hash_okB {n : Nat} {F : Nat → Nat → Int} (h : ∀ i, i < n → byB (F i) 32) : (hashI n F).okB := h
def hsN (n : Nat) (F : Nat → Nat → Int) : AV := .isl 32 n fun i j => .int .u8 (F i j)
def hI (F : Nat → Nat → Int) (i : Nat) : It := .byt 32 (F i)
theorem hash_push {os : List (Option Ob)} {F : Nat → Nat → Int} {k n : Nat} {mu : Bool} {g : Nat → Nat → Int} (hn : n = k + 1) (h : ∀ i, i < 32 → g i 0 = F k i) :
    ObEnt os ⟨4, k + 1, mu, .cat k (.row fun i => (hI F i).cells) (.lst [[.int .i64 2, .int .i64 0, .isl 1 32 fun i j => .int .u8 (g i j), .nsl]])⟩ ⟨4, n, mu, .row fun i => (hI F i).cells⟩ :=
  ObEnt.catRow (c := fun i => (hI F i).cells) (c' := fun i => (hI F i).cells) hn (fun _ _ => EntL.refl _) ⟨Ent.refl _, Ent.refl _, bys_eq (g := fun i _ => F k i) rfl h, Ent.nsl, trivial⟩
theorem hash_push2 {os : List (Option Ob)} {F : Nat → Nat → Int} {k n : Nat} {mu : Bool} {x : List AV} (hn : n = k + 1) (h : EntL os x (hI F k).cells) :
    ObEnt os ⟨4, k + 1, mu, .cat k (.row fun i => (hI F i).cells) (.lst [x])⟩ ⟨4, n, mu, .row fun i => (hI F i).cells⟩ :=
  ObEnt.catRow (c := fun i => (hI F i).cells) (c' := fun i => (hI F i).cells) hn (fun _ _ => EntL.refl _) h
theorem hash_arg {os : List (Option Ob)} {F : Nat → Nat → Int} {m n : Nat} (hn : m = n) : EntL os [.agg [.int .i64 3, .int .i64 0, .nsl, .isl 4 m fun r k => atL (hI F r).cells k]] [(hashI n F).av] := by
  subst hn
  exact ⟨Ent.agg ⟨Ent.refl _, Ent.refl _, Ent.nsl, Ent.refl _, trivial⟩, trivial⟩
end Go.Sp
namespace Go.Sp
open Go Go.Am
def chnS (h : Chn) (i : Nat) : Spend := match i with | 0 => h.first | j + 1 => h.l j
theorem u8_rows {os : List (Option Ob)} {n m : Nat} {F : Nat → Nat → Int} (hn : m = n) : Ent os (.isl 32 m fun r k => atL (u8c (F r)) k) (hsN n F) := by
  subst hn
  exact Ent.rows fun i _ => rfl
theorem two_rows {os : List (Option Ob)} {f g : Nat → Int} : Ent os (.isl 32 2 fun r k => atL (List.getD [u8c f, u8c g] r []) k) (hsN 2 (two f g)) := Ent.rows fun i hi => match i, hi with
  | 0, _ => rfl
  | 1, _ => rfl
theorem two_by {f g : Nat → Int} (hf : byB f 32) (hg : byB g 32) : ∀ i, i < 2 → byB (two f g i) 32 := fun i hi => match i, hi with
  | 0, _ => hf
  | 1, _ => hg
theorem dig_push {os : List (Option Ob)} {S : Nat → Spend} {k n : Nat} {mu : Bool} {x : List AV} (hn : n = k + 1) (h : EntL os x (u8c (S k).dig)) :
    ObEnt os ⟨32, k + 1, mu, .cat k (.row fun i => u8c (S i).dig) (.lst [x])⟩ ⟨32, n, mu, .row fun i => u8c (S i).dig⟩ :=
  ObEnt.catRow (c := fun i => u8c (S i).dig) (c' := fun i => u8c (S i).dig) hn (fun _ _ => EntL.refl _) h
theorem Spend.dig_by (s : Spend) : byB s.dig 32 := fun i _ => sha_by _ _ i
end Go.Sp
namespace Go.Sp
open Go Go.Am
theorem chainF_0 {S : Nat → Spend} {n : Nat} (h : n = 0) : chainF S n = fun _ => 0 := if_pos h
theorem chainF_1 {S : Nat → Spend} {n : Nat} (h : ¬ n = 0) : chainF S n = tagI "specie/chain".toUTF8 (hashI n fun i => (S i).dig) := if_neg h
theorem spends_e {h : Chn} (i j : Nat) : mixA (Nat.blt (i + 0) 1) (atL (List.getD [Spend.cells h.first] (i + 0) []) j) (atL (Spend.cells (h.l (i + 0 - 1))) j) = atL (chnS h i).cells j := by
  cases i with
  | zero =>
    show mixA true _ _ = _
    rw [mixA_tt]
    rfl
  | succ i =>
    show mixA false _ _ = _
    rw [mixA_ff]
    rfl
end Go.Sp
namespace Go.Sp
open Go Go.Am
def chnD (h : Chn) : Nat → Int := if h.n > 8 then fun _ => 0 else chainF (chnS h) (h.n + 1)
def ccOk (b : Bas) (t n : Int) : Bool := validB b && ctxB t n
def ccE (b : Bas) (t n : Int) : Int := bif validB b then (bif ctxB t n then 0 else 2) else 1
def ccX (b : Bas) (c : Coin) (f : Nat → Int) (t n : Int) : Cxt := if ccOk b t n = true then ⟨nameF c f, t, n⟩ else ⟨fun _ => 0, 0, 0⟩
theorem cc_1 {b : Bas} {c : Coin} {f : Nat → Int} {t n : Int} (h : validB b = false) : ccX b c f t n = ⟨fun _ => 0, 0, 0⟩ ∧ ccE b t n = 1 := by
  unfold ccX ccE ccOk; rw [h]; exact ⟨rfl, rfl⟩
theorem cc_2 {b : Bas} {c : Coin} {f : Nat → Int} {t n : Int} (h : validB b = true) (h' : ctxB t n = false) : ccX b c f t n = ⟨fun _ => 0, 0, 0⟩ ∧ ccE b t n = 2 := by
  unfold ccX ccE ccOk; rw [h, h']; exact ⟨rfl, rfl⟩
theorem cc_0 {b : Bas} {c : Coin} {f : Nat → Int} {t n : Int} (h : validB b = true) (h' : ctxB t n = true) : ccX b c f t n = ⟨nameF c f, t, n⟩ ∧ ccE b t n = 0 := by
  unfold ccX ccE ccOk; rw [h, h']; exact ⟨rfl, rfl⟩
theorem ctx_no {t n : Int} (h : ((decide (t ≥ 0) && decide (t ≤ 1099511627776)) = false ∨ n < 0) ∨ n > 1073741824) : ctxB t n = false := by
  unfold ctxB
  rcases h with (h | h) | h
  · simp at h; simp; omega
  · simp; omega
  · simp; omega
theorem ctx_yes {t n : Int} (h : ((decide (t ≥ 0) && decide (t ≤ 1099511627776)) = true ∧ ¬ n < 0) ∧ ¬ n > 1073741824) : ctxB t n = true := by
  unfold ctxB
  obtain ⟨⟨h, h1⟩, h2⟩ := h
  simp at h; simp; omega
/-- Does a record have these numbers? -/
def recB (R : Nat → Nat → Int) (k e d : Int) (i : Nat) : Bool := R i 0 == k && R i 1 == e && R i 2 == d
def recF (R : Nat → Nat → Int) (n : Nat) (c : Coin) : Int := firstI (recB R c.bank c.epoch c.denom) n 0
def recs (n : Nat) (R : Nat → Nat → Int) : AV := .isl 11 n fun i j => .int .i64 (R i j)
end Go.Sp
namespace Go.Sp
open Go Go.Am
theorem chnD_1 {h : Chn} (hn : h.n > 8) : chnD h = fun _ => 0 := if_pos hn
theorem chnD_0 {h : Chn} (hn : ¬ h.n > 8) : chnD h = chainF (chnS h) (h.n + 1) := if_neg hn
theorem ctx_no2 {t n : Int} (h : ¬ (0 ≤ t ∧ t ≤ 1099511627776 ∧ 0 ≤ n ∧ n ≤ 1073741824)) : ctxB t n = false := by
  unfold ctxB
  simp; omega
theorem ctx_yes2 {t n : Int} (h : 0 ≤ t ∧ t ≤ 1099511627776 ∧ 0 ≤ n ∧ n ≤ 1073741824) : ctxB t n = true := by
  unfold ctxB
  simp; omega
end Go.Sp
namespace Go.Sp
open Go Go.Am
def recC (R : Nat → Nat → Int) (n : Nat) (c : Coin) (j : Nat) : Int := if recF R n c ≥ 0 then R (recF R n c).toNat j else 0
def recA (R : Nat → Nat → Int) (n : Nat) (c : Coin) : AV := .agg [.int .i64 (recC R n c 0), .int .i64 (recC R n c 1), .int .i64 (recC R n c 2), .int .i64 (recC R n c 3), .int .i64 (recC R n c 4), .int .i64 (recC R n c 5), .int .i64 (recC R n c 6), .int .i64 (recC R n c 7), .int .i64 (recC R n c 8), .int .i64 (recC R n c 9), .int .i64 (recC R n c 10)]
theorem recC_no {R : Nat → Nat → Int} {n : Nat} {c : Coin} (h : recF R n c < 0) (j : Nat) : recC R n c j = 0 := if_neg (by omega)
theorem recC_yes {R : Nat → Nat → Int} {n : Nat} {c : Coin} (h : ¬ recF R n c < 0) (j : Nat) : recC R n c j = R (recF R n c).toNat j := if_pos (by omega)
theorem recF_lt (R : Nat → Nat → Int) (n : Nat) (c : Coin) : recF R n c < n := by
  have := firstI_lt (p := recB R c.bank c.epoch c.denom) n 0
  unfold recF
  omega
def caV (R : Nat → Nat → Int) (n : Nat) (s : Spend) : Int := if recF R n s.coin ≥ 0 then amV (recC R n s.coin 3) (recC R n s.coin 4) s.level s.index else 0
def caE (R : Nat → Nat → Int) (n : Nat) (s : Spend) : Int := if recF R n s.coin ≥ 0 then amE (recC R n s.coin 3) (recC R n s.coin 4) s.level s.index else 18
def longK (h : Chn) : Bool := decide ((h.n : Int) > 12) || !fewB h.first || anyI (fun i => !fewB (h.l i)) h.n
end Go.Sp
namespace Go.Sp
open Go Go.Am
theorem recA_no {R : Nat → Nat → Int} {n : Nat} {c : Coin} (h : recF R n c < 0) : recA R n c = .agg [.int .i64 0, .int .i64 0, .int .i64 0, .int .i64 0, .int .i64 0, .int .i64 0, .int .i64 0, .int .i64 0, .int .i64 0, .int .i64 0, .int .i64 0] := by
  unfold recA
  simp only [recC_no h]
theorem recA_yes {R : Nat → Nat → Int} {n : Nat} {c : Coin} (h : ¬ recF R n c < 0) : recA R n c = .agg [.int .i64 (R (recF R n c).toNat 0), .int .i64 (R (recF R n c).toNat 1), .int .i64 (R (recF R n c).toNat 2), .int .i64 (R (recF R n c).toNat 3), .int .i64 (R (recF R n c).toNat 4), .int .i64 (R (recF R n c).toNat 5), .int .i64 (R (recF R n c).toNat 6), .int .i64 (R (recF R n c).toNat 7), .int .i64 (R (recF R n c).toNat 8), .int .i64 (R (recF R n c).toNat 9), .int .i64 (R (recF R n c).toNat 10)] := by
  unfold recA
  simp only [recC_yes h]
end Go.Sp
namespace Go.Sp
open Go Go.Am
def exB35 : Bas := ⟨⟨23, 11, 4⟩, 2, 3, 9⟩
theorem exB35_ok : validB exB35 = true := by decide +kernel
theorem exB35_w : exB35.gr.W := ⟨by decide, by decide⟩
def cA (a : Int) : Coin := ⟨0, 0, 0, 0, a, fun _ => 0, 0, 0, 0, 0⟩
end Go.Sp

namespace Go.Proofs.YtmhipmiacghgeaaGreatDoor
open Go Go.Am Go.Sp
set_option maxRecDepth 100000

theorem rvalid_int (n w : Int) : Pure Tryz.prog gl0 159 [.agg [.int .i64 1, .int .i64 n, bys 0 (fun _ => 0), .isl 4 0 (fun _ _ => .junk)], .int .i64 w] (.bool true) := by
  refine pure_sk (own := ow0) Tryz.func159 (by kernel_rfl) mixed (by kernel_rfl)
    (.tt (.out (AV.bool true) [] (AV.bool true) []))
    (by kernel_rfl) ?_
  refine k_tt ?_
  exact k_out (Ent.of_eq (by first | rfl | simp_all))

theorem rvalid_byt (n : Nat) (f : Nat → Int) (w : Int) : Pure Tryz.prog gl0 159 [.agg [.int .i64 2, .int .i64 0, bys n f, .isl 4 0 (fun _ _ => .junk)], .int .i64 w] (.bool true) := by
  refine pure_sk (own := ow0) Tryz.func159 (by kernel_rfl) mixed (by kernel_rfl)
    (.ff (.tt (.out (AV.bool true) [] (AV.bool true) [])))
    (by kernel_rfl) ?_
  refine k_ff ?_
  refine k_tt ?_
  exact k_out (Ent.of_eq (by first | rfl | simp_all))

theorem rvalid_lw (n : Nat) (c : Nat → It) (w : Int) (hw : 0 ≤ w ∧ w < 8) (hn : n ≤ 1000) (hc : ∀ i, i < n → Pure Tryz.prog gl0 159 [(c i).av, .int .i64 (w + 1)] (.bool true)) :
    Pure Tryz.prog gl0 159 [.agg [.int .i64 3, .int .i64 0, bys 0 (fun _ => 0), It.sl n c], .int .i64 w] (.bool true) := by
  have e : IntKind.wrap .i64 (w + 1) = w + 1 := wI (by omega) (by omega)
  rw [← e] at hc
  refine pure_sk (own := ow0) Tryz.func159 (by kernel_rfl) mixed (by kernel_rfl)
    (.ff (.ff (.tt (.br (decide ((↑n : Int) > (1000 : Int)) || w == (8 : Int)) (.out (AV.bool false) [] (AV.bool true) []) (.loop ({ x : Nat // x ≤ n }) (fun (x : { x : Nat // x ≤ n }) => mkSt [1, 2, 5] [Zi w, AV.own (0) (4) (0) (0) (4), Zi (↑(Subtype.val x) : Int)] [some { es := 4, n := 1, mu := true, f := Rep.lst [[Zi 3, Zi 0, AV.isl (1) (0) fun (i x : Nat) => Zb 0, AV.isl (4) n fun (i j : Nat) => atL (It.cells (c i)) j]] }]) (fun (x : { x : Nat // x ≤ n }) => n - Subtype.val x) (⟨(0 : Nat), Nat.zero_le n⟩) ([1, 2, 5]) ([0]) ([Zi w, AV.own (0) (4) (0) (0) (4), Zi 0]) ([some { es := 4, n := 1, mu := true, f := Rep.lst [[Zi 3, Zi 0, AV.isl (1) (0) fun (i x : Nat) => Zb 0, AV.isl (4) n fun (i j : Nat) => atL (It.cells (c i)) j]] }]) (fun x5 => (.br (decide ((↑x5.1 : Int) < (↑n : Int))) (.req ((0 : Int) ≤ (↑x5.1 : Int) ∧ (↑x5.1 : Int) < (↑n : Int)) (.sc (true) 159 ([AV.agg [Zi (It.kind (c (Int.toNat (↑x5.1 : Int)))), Zi (It.num (c (Int.toNat (↑x5.1 : Int)))), AV.isl (1) (It.nb (c (Int.toNat (↑x5.1 : Int)))) fun (i x : Nat) => Zb (It.fb (c (Int.toNat (↑x5.1 : Int))) i), AV.isl (4) (It.nl (c (Int.toNat (↑x5.1 : Int)))) (It.row (c (Int.toNat (↑x5.1 : Int))))], Zi (IntKind.wrap IntKind.i64 (w + (1 : Int)))]) (AV.bool true) (.ff (.again (Again (0) (fun (x : { x : Nat // x ≤ n }) => mkSt [1, 2, 5] [Zi w, AV.own (0) (4) (0) (0) (4), Zi (↑(Subtype.val x) : Int)] [some { es := 4, n := 1, mu := true, f := Rep.lst [[Zi 3, Zi 0, AV.isl (1) (0) fun (i x : Nat) => Zb 0, AV.isl (4) n fun (i j : Nat) => atL (It.cells (c i)) j]] }]) (fun (x : { x : Nat // x ≤ n }) => n - Subtype.val x) x5) ([1, 2, 5]) ([0]) ([Zi w, AV.own (0) (4) (0) (0) (4), Zi (IntKind.wrap IntKind.i64 ((↑x5.1 : Int) + (1 : Int)))]) ([some { es := 4, n := 1, mu := true, f := Rep.lst [[Zi 3, Zi 0, AV.isl (1) (0) fun (i x : Nat) => Zb 0, AV.isl (4) n fun (i j : Nat) => atL (It.cells (c i)) j]] }]))))) (.out (AV.bool true) [] (AV.bool true) []))))))))
    (by kernel_rfl) ?_
  refine k_ff ?_
  refine k_ff ?_
  refine k_tt ?_
  refine k_br (fun h3 => ?_) (fun h3 => ?_)
  · have g3 := (cnd_or_t cnd_dec_t cnd_beq_t) h3
    exact k_out ((by exfalso; omega))
  · have g3 := (cnd_or_f cnd_dec_f cnd_beq_f) h3
    --LOOPINFO kept [1, 2] changed [5] objects [0]
    --LOOPINFO   obj 0: some { es := 4, n := 1, mu := true, f := Rep.lst [[Zi 3, Zi 0, AV.isl (1) (0) fun (i x : Nat) => Zb 0, AV.isl (4) n fun (i j : Nat) => atL (It.cells (c i)) j]] }
    refine k_loop (fun _ hs => hs.le (by repeat' (first | exact trivial | (first | exact Ent.refl _ | exact inc_ent (by omega) | exact Ent.nil rfl | exact Ent.of_eq (congrArg (AV.osl _ _ _) (by first | omega | (dsimp only; omega))) | exact Ent.of_eq (congrArg (AV.int _) (by first | omega | (dsimp only; omega)))) | refine And.intro ?_ ?_)) (by repeat' (first | exact trivial | (first | exact ObEnt.refl _ | exact ObEnt.junk | exact ObEnt.zero | exact ObEnt.push rfl rfl | exact ObEnt.pushRow rfl | exact ObEnt.len (by omega) | exact ObEnt.row (by repeat' (first | exact trivial | (first | exact Ent.refl _ | exact inc_ent (by omega) | exact Ent.nil rfl | exact Ent.of_eq (congrArg (AV.osl _ _ _) (by first | omega | (dsimp only; omega))) | exact Ent.of_eq (congrArg (AV.int _) (by first | omega | (dsimp only; omega)))) | refine And.intro ?_ ?_))) | refine And.intro ?_ ?_))) (fun x5 => ?_)
    try (have q5 := x5.2; dsimp only at q5)
    refine k_br (fun h6 => ?_) (fun h6 => ?_)
    · have g6 := cnd_dec_t h6
      refine k_req (by first | omega | (simp only [Int.toNat_natCast]; omega)) ?_
      refine k_sc (hc (Int.toNat (↑x5.1 : Int)) (by first | assumption | omega)) ?_
      refine k_ff ?_
      exact k_again (⟨x5.1 + 1, by omega⟩) (fun _ hs => hs.le (by repeat' (first | exact trivial | (first | exact Ent.refl _ | exact inc_ent (by omega) | exact Ent.nil rfl | exact Ent.of_eq (congrArg (AV.osl _ _ _) (by first | omega | (dsimp only; omega))) | exact Ent.of_eq (congrArg (AV.int _) (by first | omega | (dsimp only; omega)))) | refine And.intro ?_ ?_)) (by repeat' (first | exact trivial | (first | exact ObEnt.refl _ | exact ObEnt.junk | exact ObEnt.zero | exact ObEnt.push rfl rfl | exact ObEnt.pushRow rfl | exact ObEnt.len (by omega) | exact ObEnt.row (by repeat' (first | exact trivial | (first | exact Ent.refl _ | exact inc_ent (by omega) | exact Ent.nil rfl | exact Ent.of_eq (congrArg (AV.osl _ _ _) (by first | omega | (dsimp only; omega))) | exact Ent.of_eq (congrArg (AV.int _) (by first | omega | (dsimp only; omega)))) | refine And.intro ?_ ?_))) | refine And.intro ?_ ?_))) (by first | omega | (dsimp only; omega) | (simp; omega))
    · have g6 := cnd_dec_f h6
      exact k_out (Ent.of_eq (by first | rfl | simp_all))

theorem rvalid_all : ∀ (x : It) (d : Int), 0 ≤ d ∧ d ≤ 8 → x.okD d = true → Pure Tryz.prog gl0 159 [x.av, .int .i64 (8 - d)] (.bool true)
  | .int n, d, _, _ => rvalid_int n (8 - d)
  | .byt n f, d, _, _ => rvalid_byt n f (8 - d)
  | .li n c, d, hd, h => by
    obtain ⟨h1, h2, h3⟩ := rvalid_d h
    refine rvalid_lw n c (8 - d) (by omega) h2 (fun i hi => ?_)
    have := rvalid_all (c i) (d - 1) (by omega) (h3 i hi)
    rw [show 8 - (d - 1) = 8 - d + 1 by omega] at this
    exact this

theorem rvalid_c (x : It) (h : x.okD 8 = true) : Pure Tryz.prog gl0 132 [x.av] (.bool true) := by
  have c1 := rvalid_all x 8 (by decide) h
  refine pure_sk (own := ow0) Tryz.func132 (by kernel_rfl) mixed (by kernel_rfl)
    (.sc (true) 159 ([AV.agg [Zi (It.kind x), Zi (It.num x), AV.isl (1) (It.nb x) fun (i x_1 : Nat) => Zb (It.fb x i), AV.isl (4) (It.nl x) (It.row x)], Zi 0]) (AV.bool true) (.out (AV.bool true) [] (AV.bool true) []))
    (by kernel_rfl) ?_
  refine k_sc (c1) ?_
  exact k_out (Ent.of_eq (by first | rfl | simp_all))

theorem list6 (a b c d e f : It) : Pure Tryz.prog gl0 140 [.isl 4 6 fun r k => atL (List.getD [a.cells, b.cells, c.cells, d.cells, e.cells, f.cells] r []) k] (lsI [a, b, c, d, e, f]).av :=
  (list_c 6 _).ent (li_out (L := [a, b, c, d, e, f]) rfl fun i hi => match i, hi with
    | 0, _ | 1, _ | 2, _ | 3, _ | 4, _ | 5, _ => EntL.refl _)

theorem list_p (n : Nat) (c : Nat → It) : Pure Tryz.prog gl0 140 [It.sl n c] (It.li n c).av := (list_c n _).ent (Ent.agg ⟨Ent.refl _, Ent.refl _, Ent.nsl, Ent.refl _, trivial⟩)

theorem sitem_w (s : Spend) (hs : s.nl ≤ 1000) (hp : s.np ≤ 1000) : Pure Tryz.prog gl0 130 [s.av] s.it.av := by
  have c1 := citem_w s.coin
  have c2 := ints_2
  have c3 := bytes_c
  have c4 := fun k h => ints_c (leafP s k) h
  have c5 := fun n => list_p n (pathC s)
  have c6 := fun k n => list6 s.coin.it (intsI [s.level, s.index]) (.byt 32 s.payee) (intsI [s.time, s.number]) (intsI (leafP s k)) (.li n (pathC s))
  refine pure_sk (own := ow0) Tryz.func130 (by kernel_rfl) mixed (by kernel_rfl)
    (.loop ({ x : Nat // x ≤ Spend.nl s }) (fun (x : { x : Nat // x ≤ Spend.nl s }) => mkSt [1, 2, 10, 11, 12, 3] [AV.own (0) (80) (0) (0) (80), AV.own (1) (4) (0) (0) (4), AV.isl (3) s.16 fun (i j : Nat) => Zi (s.17 i j), Zi (↑s.16 : Int), Zi (↑(Subtype.val x) : Int), AV.osl (2 : Nat) (1 : Nat) (0 : Nat) (List.length (leafP s (Subtype.val x)))] [some { es := 80, n := 1, mu := true, f := Rep.lst [Spend.cells s] }, some { es := 4, n := 1, mu := true, f := Rep.lst [[Zi 0, Zi 0, AV.nsl, AV.nsl]] }, ilO IntKind.i64 (leafP s (Subtype.val x))]) (fun (x : { x : Nat // x ≤ Spend.nl s }) => Spend.nl s - Subtype.val x) (⟨(0 : Nat), Nat.zero_le (Spend.nl s)⟩) ([1, 2, 10, 11, 12, 3]) ([0, 8, 314]) ([AV.own (0) (80) (0) (0) (80), AV.own (1) (4) (0) (0) (4), AV.isl (3) s.16 fun (i j : Nat) => Zi (s.17 i j), Zi (↑s.16 : Int), Zi 0, AV.nsl]) ([some { es := 80, n := 1, mu := true, f := Rep.lst [Spend.cells s] }, some { es := 4, n := 1, mu := true, f := Rep.lst [[Zi 0, Zi 0, AV.nsl, AV.nsl]] }, some { es := 1, n := 0, mu := true, f := Rep.lst [] }]) (fun x0 => (.br (decide ((↑x0.1 : Int) < (↑s.16 : Int))) (.req ((0 : Int) ≤ (↑x0.1 : Int) ∧ (↑x0.1 : Int) < (↑s.16 : Int)) (.req ((List.length (leafP s (Subtype.val x0)) + 3) * 8 ≤ 140737488355328) (.again (Again (0) (fun (x : { x : Nat // x ≤ Spend.nl s }) => mkSt [1, 2, 10, 11, 12, 3] [AV.own (0) (80) (0) (0) (80), AV.own (1) (4) (0) (0) (4), AV.isl (3) s.16 fun (i j : Nat) => Zi (s.17 i j), Zi (↑s.16 : Int), Zi (↑(Subtype.val x) : Int), AV.osl (2 : Nat) (1 : Nat) (0 : Nat) (List.length (leafP s (Subtype.val x)))] [some { es := 80, n := 1, mu := true, f := Rep.lst [Spend.cells s] }, some { es := 4, n := 1, mu := true, f := Rep.lst [[Zi 0, Zi 0, AV.nsl, AV.nsl]] }, ilO IntKind.i64 (leafP s (Subtype.val x))]) (fun (x : { x : Nat // x ≤ Spend.nl s }) => Spend.nl s - Subtype.val x) x0) ([1, 2, 10, 11, 12, 3]) ([0, 1, 107]) ([AV.own (0) (80) (0) (0) (80), AV.own (1) (4) (0) (0) (4), AV.isl (3) s.16 fun (i j : Nat) => Zi (s.17 i j), Zi (↑s.16 : Int), Zi (IntKind.wrap IntKind.i64 ((↑x0.1 : Int) + (1 : Int))), AV.osl (2) (1) (0) (List.length (leafP s (Subtype.val x0)) + 3)]) ([some { es := 80, n := 1, mu := true, f := Rep.lst [Spend.cells s] }, some { es := 4, n := 1, mu := true, f := Rep.lst [[Zi 0, Zi 0, AV.nsl, AV.nsl]] }, some { es := 1, n := List.length (leafP s (Subtype.val x0)) + 3, mu := true, f := Rep.fn fun (i j : Nat) => Zi (bif Nat.blt i (List.length (leafP s (Subtype.val x0))) then List.getD (leafP s (Subtype.val x0)) i (0 : Int) else intOfAV (atL (List.getD [[Zi (s.17 (Int.toNat (↑(Subtype.val x0) : Int)) (0))], [Zi (s.17 (Int.toNat (↑(Subtype.val x0) : Int)) (1))], [Zi (s.17 (Int.toNat (↑(Subtype.val x0) : Int)) (2))]] (i - List.length (leafP s (Subtype.val x0))) []) j)) }])))) (.loop ({ x : Nat // x ≤ Spend.np s }) (fun (x : { x : Nat // x ≤ Spend.np s }) => mkSt [1, 2, 3, 33, 34, 35, 6] [AV.own (0) (80) (0) (0) (80), AV.own (1) (4) (0) (0) (4), AV.osl (2) (1) (0) (List.length (leafP s (Subtype.val x0))), AV.isl (32) s.19 fun (i j : Nat) => Zb (s.20 i j), Zi (↑s.19 : Int), Zi (↑(Subtype.val x) : Int), AV.osl (3 : Nat) (4 : Nat) (0 : Nat) (Subtype.val x + (1 : Nat))] [some { es := 80, n := 1, mu := true, f := Rep.lst [Spend.cells s] }, some { es := 4, n := 1, mu := true, f := Rep.lst [[Zi 0, Zi 0, AV.nsl, AV.nsl]] }, some { es := 1, n := List.length (leafP s (Subtype.val x0)), mu := true, f := Rep.fn fun (i j : Nat) => Zi (List.getD (leafP s (Subtype.val x0)) i (0 : Int)) }, some { es := (4 : Nat), n := Subtype.val x + (1 : Nat), mu := true, f := Rep.row fun (i : Nat) => It.cells (pathC s i) }]) (fun (x : { x : Nat // x ≤ Spend.np s }) => Spend.np s - Subtype.val x) (⟨(0 : Nat), Nat.zero_le (Spend.np s)⟩) ([1, 2, 3, 33, 34, 35, 6]) ([0, 1, 2, 43]) ([AV.own (0) (80) (0) (0) (80), AV.own (1) (4) (0) (0) (4), AV.osl (2) (1) (0) (List.length (leafP s (Subtype.val x0))), AV.isl (32) s.19 fun (i j : Nat) => Zb (s.20 i j), Zi (↑s.19 : Int), Zi 0, AV.osl (3) (4) (0) (1)]) ([some { es := 80, n := 1, mu := true, f := Rep.lst [Spend.cells s] }, some { es := 4, n := 1, mu := true, f := Rep.lst [[Zi 0, Zi 0, AV.nsl, AV.nsl]] }, some { es := 1, n := List.length (leafP s (Subtype.val x0)), mu := true, f := Rep.fn fun (i j : Nat) => Zi (List.getD (leafP s (Subtype.val x0)) i (0 : Int)) }, some { es := 4, n := 1, mu := true, f := Rep.lst [[Zi 1, Zi (Spend.pidx s), AV.nsl, AV.nsl]] }]) (fun x5 => (.br (decide ((↑x5.1 : Int) < (↑s.19 : Int))) (.req ((0 : Int) ≤ (↑x5.1 : Int) ∧ (↑x5.1 : Int) < (↑s.19 : Int)) (.dc (true) 141 ([AV.agg (u8c (s.20 (Int.toNat (↑x5.1 : Int))))]) (It.av (It.byt (32 : Nat) (s.20 (Int.toNat (↑x5.1 : Int))))) (.req ((x5.1 + 1 + 1) * 64 ≤ 140737488355328) (.again (Again (0) (fun (x : { x : Nat // x ≤ Spend.np s }) => mkSt [1, 2, 3, 33, 34, 35, 6] [AV.own (0) (80) (0) (0) (80), AV.own (1) (4) (0) (0) (4), AV.osl (2) (1) (0) (List.length (leafP s (Subtype.val x0))), AV.isl (32) s.19 fun (i j : Nat) => Zb (s.20 i j), Zi (↑s.19 : Int), Zi (↑(Subtype.val x) : Int), AV.osl (3 : Nat) (4 : Nat) (0 : Nat) (Subtype.val x + (1 : Nat))] [some { es := 80, n := 1, mu := true, f := Rep.lst [Spend.cells s] }, some { es := 4, n := 1, mu := true, f := Rep.lst [[Zi 0, Zi 0, AV.nsl, AV.nsl]] }, some { es := 1, n := List.length (leafP s (Subtype.val x0)), mu := true, f := Rep.fn fun (i j : Nat) => Zi (List.getD (leafP s (Subtype.val x0)) i (0 : Int)) }, some { es := (4 : Nat), n := Subtype.val x + (1 : Nat), mu := true, f := Rep.row fun (i : Nat) => It.cells (pathC s i) }]) (fun (x : { x : Nat // x ≤ Spend.np s }) => Spend.np s - Subtype.val x) x5) ([1, 2, 3, 33, 34, 35, 6]) ([0, 1, 2, 76]) ([AV.own (0) (80) (0) (0) (80), AV.own (1) (4) (0) (0) (4), AV.osl (2) (1) (0) (List.length (leafP s (Subtype.val x0))), AV.isl (32) s.19 fun (i j : Nat) => Zb (s.20 i j), Zi (↑s.19 : Int), Zi (IntKind.wrap IntKind.i64 ((↑x5.1 : Int) + (1 : Int))), AV.osl (3) (4) (0) (x5.1 + 1 + 1)]) ([some { es := 80, n := 1, mu := true, f := Rep.lst [Spend.cells s] }, some { es := 4, n := 1, mu := true, f := Rep.lst [[Zi 0, Zi 0, AV.nsl, AV.nsl]] }, some { es := 1, n := List.length (leafP s (Subtype.val x0)), mu := true, f := Rep.fn fun (i j : Nat) => Zi (List.getD (leafP s (Subtype.val x0)) i (0 : Int)) }, some { es := 4, n := x5.1 + 1 + 1, mu := true, f := Rep.cat (x5.1 + 1) (Rep.row fun (i : Nat) => [Zi (It.kind (pathC s i)), Zi (It.num (pathC s i)), AV.isl (1) (It.nb (pathC s i)) fun (i_1 x : Nat) => Zb (It.fb (pathC s i) i_1), AV.isl (4) (It.nl (pathC s i)) (It.row (pathC s i))]) (Rep.lst [[Zi (It.kind (It.byt (32 : Nat) (s.20 (Int.toNat (↑x5.1 : Int))))), Zi (It.num (It.byt (32 : Nat) (s.20 (Int.toNat (↑x5.1 : Int))))), AV.isl (1) (32) fun (i x : Nat) => Zb (It.fb (It.byt (32) (s.20 (Int.toNat (↑x5.1 : Int)))) i), AV.isl (4) (0) (It.row (It.byt (32) (s.20 (Int.toNat (↑x5.1 : Int)))))]]) }]))))) (.dc (true) 129 ([AV.agg (Zi s.1 :: Zi s.2 :: Zi s.3 :: Zi s.4 :: Zi s.5 :: (u8c s.6 ++ [Zi s.7, Zi s.8, Zi s.9, Zi s.10]))]) (It.av (Coin.it (Spend.coin s))) (.dc (true) 142 ([AV.isl (1) (2) fun (r k : Nat) => atL (List.getD [[Zi s.11], [Zi s.12]] (r + 0) []) k]) (It.av (intsI [s.11, s.12])) (.dc (true) 141 ([AV.agg (u8c s.13)]) (It.av (It.byt (32 : Nat) s.13)) (.dc (true) 142 ([AV.isl (1) (2) fun (r k : Nat) => atL (List.getD [[Zi s.14], [Zi s.15]] (r + 0) []) k]) (It.av (intsI [s.14, s.15])) (.dc (true) 142 ([AV.isl (1) (List.length (leafP s (Subtype.val x0))) fun (r k : Nat) => Zi (List.getD (leafP s (Subtype.val x0)) (r + 0) (0 : Int))]) (It.av (intsI (leafP s (Subtype.val x0)))) (.dc (true) 140 ([AV.isl (4) (x5.1 + 1) fun (r k : Nat) => atL [Zi (It.kind (pathC s (r + 0))), Zi (It.num (pathC s (r + 0))), AV.isl (1) (It.nb (pathC s (r + 0))) fun (i x : Nat) => Zb (It.fb (pathC s (r + 0)) i), AV.isl (4) (It.nl (pathC s (r + 0))) (It.row (pathC s (r + 0)))] k]) (It.av (It.li (x5.1 + 1) (pathC s))) (.dc (true) 140 ([AV.isl (4) (6) fun (r k : Nat) => atL (List.getD [[Zi (It.kind (Coin.it (Spend.coin s))), Zi (It.num (Coin.it (Spend.coin s))), AV.isl (1) (0) fun (i x : Nat) => Zb (It.fb (Coin.it (Spend.coin s)) i), AV.isl (4) (3) (It.row (Coin.it (Spend.coin s)))], [Zi (It.kind (intsI [s.11, s.12])), Zi (It.num (intsI [s.11, s.12])), AV.isl (1) (0) fun (i x : Nat) => Zb (It.fb (intsI [s.11, s.12]) i), AV.isl (4) (2) (It.row (intsI [s.11, s.12]))], [Zi (It.kind (It.byt (32) s.13)), Zi (It.num (It.byt (32) s.13)), AV.isl (1) (32) fun (i x : Nat) => Zb (It.fb (It.byt (32) s.13) i), AV.isl (4) (0) (It.row (It.byt (32) s.13))], [Zi (It.kind (intsI [s.14, s.15])), Zi (It.num (intsI [s.14, s.15])), AV.isl (1) (0) fun (i x : Nat) => Zb (It.fb (intsI [s.14, s.15]) i), AV.isl (4) (2) (It.row (intsI [s.14, s.15]))], [Zi (It.kind (intsI (leafP s x0.1))), Zi (It.num (intsI (leafP s x0.1))), AV.isl (1) (0) fun (i x : Nat) => Zb (It.fb (intsI (leafP s x0.1)) i), AV.isl (4) (It.nl (intsI (leafP s x0.1))) (It.row (intsI (leafP s x0.1)))], [Zi (It.kind (It.li (x5.1 + 1) (pathC s))), Zi (It.num (It.li (x5.1 + 1) (pathC s))), AV.isl (1) (0) fun (i x : Nat) => Zb (It.fb (It.li (x5.1 + 1) (pathC s)) i), AV.isl (4) (It.nl (It.li (x5.1 + 1) (pathC s))) (It.row (It.li (x5.1 + 1) (pathC s)))]] (r + 0) []) k]) (It.av (lsI [Coin.it (Spend.coin s), intsI [Spend.level s, Spend.index s], It.byt (32 : Nat) (Spend.payee s), intsI [Spend.time s, Spend.number s], intsI (leafP s x0.1), It.li (x5.1 + 1) (pathC s)])) (.out (AV.agg [Zi (It.kind (lsI [Coin.it (Spend.coin s), intsI [s.11, s.12], It.byt (32) s.13, intsI [s.14, s.15], intsI (leafP s x0.1), It.li (x5.1 + 1) (pathC s)])), Zi (It.num (lsI [Coin.it (Spend.coin s), intsI [s.11, s.12], It.byt (32) s.13, intsI [s.14, s.15], intsI (leafP s x0.1), It.li (x5.1 + 1) (pathC s)])), AV.isl (1) (0) fun (i x : Nat) => Zb (It.fb (lsI [Coin.it (Spend.coin s), intsI [s.11, s.12], It.byt (32) s.13, intsI [s.14, s.15], intsI (leafP s x0.1), It.li (x5.1 + 1) (pathC s)]) i), AV.isl (4) (6) (It.row (lsI [Coin.it (Spend.coin s), intsI [s.11, s.12], It.byt (32) s.13, intsI [s.14, s.15], intsI (leafP s x0.1), It.li (x5.1 + 1) (pathC s)]))]) [] (It.av (Spend.it s)) []))))))))))))))
    (by kernel_rfl) ?_
  --LOOPINFO kept [1, 2, 10, 11] changed [12, 3] objects [0, 8, 314]
  --LOOPINFO   obj 0: some { es := 80, n := 1, mu := true, f := Rep.lst [Spend.cells s] }
  --LOOPINFO   obj 1: some { es := 4, n := 1, mu := true, f := Rep.lst [[Zi 0, Zi 0, AV.nsl, AV.nsl]] }
  refine k_loop (fun _ hs => hs.le (by repeat' (first | exact trivial | (first | exact Ent.refl _ | exact inc_ent (by omega) | exact Ent.nil rfl | exact Ent.of_eq (congrArg (AV.osl _ _ _) (by first | omega | (dsimp only; omega))) | exact Ent.of_eq (congrArg (AV.int _) (by first | omega | (dsimp only; omega)))) | refine And.intro ?_ ?_)) (by repeat' (first | exact trivial | (first | exact ObEnt.refl _ | exact ObEnt.junk | exact ObEnt.zero | exact ObEnt.push rfl rfl | exact ObEnt.pushRow rfl | exact ObEnt.len (by omega) | exact ObEnt.row (by repeat' (first | exact trivial | (first | exact Ent.refl _ | exact inc_ent (by omega) | exact Ent.nil rfl | exact Ent.of_eq (congrArg (AV.osl _ _ _) (by first | omega | (dsimp only; omega))) | exact Ent.of_eq (congrArg (AV.int _) (by first | omega | (dsimp only; omega)))) | refine And.intro ?_ ?_))) | refine And.intro ?_ ?_))) (fun x0 => ?_)
  try (have q0 := x0.2; dsimp only at q0)
  refine k_br (fun h1 => ?_) (fun h1 => ?_)
  · have g1 := cnd_dec_t h1
    refine k_req (by first | omega | (simp only [Int.toNat_natCast]; omega)) ?_
    refine k_req (by have := leafP_len s x0.1; omega) ?_
    exact k_again (⟨x0.1 + 1, by omega⟩) (fun _ hs => hs.le (⟨by first | exact Ent.refl _ | exact inc_ent (by omega) | exact Ent.nil rfl | exact Ent.of_eq (congrArg (AV.osl _ _ _) (by first | omega | (dsimp only; omega))) | exact Ent.of_eq (congrArg (AV.int _) (by first | omega | (dsimp only; omega))), by first | exact Ent.refl _ | exact inc_ent (by omega) | exact Ent.nil rfl | exact Ent.of_eq (congrArg (AV.osl _ _ _) (by first | omega | (dsimp only; omega))) | exact Ent.of_eq (congrArg (AV.int _) (by first | omega | (dsimp only; omega))), by first | exact Ent.refl _ | exact inc_ent (by omega) | exact Ent.nil rfl | exact Ent.of_eq (congrArg (AV.osl _ _ _) (by first | omega | (dsimp only; omega))) | exact Ent.of_eq (congrArg (AV.int _) (by first | omega | (dsimp only; omega))), by first | exact Ent.refl _ | exact inc_ent (by omega) | exact Ent.nil rfl | exact Ent.of_eq (congrArg (AV.osl _ _ _) (by first | omega | (dsimp only; omega))) | exact Ent.of_eq (congrArg (AV.int _) (by first | omega | (dsimp only; omega))), by first | exact Ent.refl _ | exact inc_ent (by omega) | exact Ent.nil rfl | exact Ent.of_eq (congrArg (AV.osl _ _ _) (by first | omega | (dsimp only; omega))) | exact Ent.of_eq (congrArg (AV.int _) (by first | omega | (dsimp only; omega))), Ent.of_eq (congrArg (AV.osl 2 1 0) (by rw [leafP_len, leafP_len]; dsimp only; omega)), trivial⟩) (⟨by first | exact ObEnt.refl _ | exact ObEnt.junk | exact ObEnt.zero | exact ObEnt.push rfl rfl | exact ObEnt.pushRow rfl | exact ObEnt.len (by omega) | exact ObEnt.row (by repeat' (first | exact trivial | (first | exact Ent.refl _ | exact inc_ent (by omega) | exact Ent.nil rfl | exact Ent.of_eq (congrArg (AV.osl _ _ _) (by first | omega | (dsimp only; omega))) | exact Ent.of_eq (congrArg (AV.int _) (by first | omega | (dsimp only; omega)))) | refine And.intro ?_ ?_)), by first | exact ObEnt.refl _ | exact ObEnt.junk | exact ObEnt.zero | exact ObEnt.push rfl rfl | exact ObEnt.pushRow rfl | exact ObEnt.len (by omega) | exact ObEnt.row (by repeat' (first | exact trivial | (first | exact Ent.refl _ | exact inc_ent (by omega) | exact Ent.nil rfl | exact Ent.of_eq (congrArg (AV.osl _ _ _) (by first | omega | (dsimp only; omega))) | exact Ent.of_eq (congrArg (AV.int _) (by first | omega | (dsimp only; omega)))) | refine And.intro ?_ ?_)), leaf3_ob (k := x0.1) (by kernel_rfl), trivial⟩)) (by first | omega | (dsimp only; omega) | (simp; omega))
  · have g1 := cnd_dec_f h1
    --LOOPINFO kept [1, 2, 3, 33, 34] changed [35, 6] objects [0, 1, 2, 43]
    --LOOPINFO   obj 0: some { es := 80, n := 1, mu := true, f := Rep.lst [Spend.cells s] }
    --LOOPINFO   obj 1: some { es := 4, n := 1, mu := true, f := Rep.lst [[Zi 0, Zi 0, AV.nsl, AV.nsl]] }
    --LOOPINFO   obj 2: some { es := 1, n := List.length (leafP s (Subtype.val x0)), mu := true, f := Rep.fn fun (i j : Nat) => Zi (List.getD (leafP s (Subtype.val x0)) i (0 : Int)) }
    refine k_loop (fun _ hs => hs.le (by repeat' (first | exact trivial | (first | exact Ent.refl _ | exact inc_ent (by omega) | exact Ent.nil rfl | exact Ent.of_eq (congrArg (AV.osl _ _ _) (by first | omega | (dsimp only; omega))) | exact Ent.of_eq (congrArg (AV.int _) (by first | omega | (dsimp only; omega)))) | refine And.intro ?_ ?_)) (⟨by first | exact ObEnt.refl _ | exact ObEnt.junk | exact ObEnt.zero | exact ObEnt.push rfl rfl | exact ObEnt.pushRow rfl | exact ObEnt.len (by omega) | exact ObEnt.row (by repeat' (first | exact trivial | (first | exact Ent.refl _ | exact inc_ent (by omega) | exact Ent.nil rfl | exact Ent.of_eq (congrArg (AV.osl _ _ _) (by first | omega | (dsimp only; omega))) | exact Ent.of_eq (congrArg (AV.int _) (by first | omega | (dsimp only; omega)))) | refine And.intro ?_ ?_)), by first | exact ObEnt.refl _ | exact ObEnt.junk | exact ObEnt.zero | exact ObEnt.push rfl rfl | exact ObEnt.pushRow rfl | exact ObEnt.len (by omega) | exact ObEnt.row (by repeat' (first | exact trivial | (first | exact Ent.refl _ | exact inc_ent (by omega) | exact Ent.nil rfl | exact Ent.of_eq (congrArg (AV.osl _ _ _) (by first | omega | (dsimp only; omega))) | exact Ent.of_eq (congrArg (AV.int _) (by first | omega | (dsimp only; omega)))) | refine And.intro ?_ ?_)), by first | exact ObEnt.refl _ | exact ObEnt.junk | exact ObEnt.zero | exact ObEnt.push rfl rfl | exact ObEnt.pushRow rfl | exact ObEnt.len (by omega) | exact ObEnt.row (by repeat' (first | exact trivial | (first | exact Ent.refl _ | exact inc_ent (by omega) | exact Ent.nil rfl | exact Ent.of_eq (congrArg (AV.osl _ _ _) (by first | omega | (dsimp only; omega))) | exact Ent.of_eq (congrArg (AV.int _) (by first | omega | (dsimp only; omega)))) | refine And.intro ?_ ?_)), path_start, trivial⟩)) (fun x5 => ?_)
    try (have q5 := x5.2; dsimp only at q5)
    refine k_br (fun h6 => ?_) (fun h6 => ?_)
    · have g6 := cnd_dec_t h6
      refine k_req (by first | omega | (simp only [Int.toNat_natCast]; omega)) ?_
      refine k_dc (c3 (s.20 (Int.toNat (↑x5.1 : Int)))) ?_
      refine k_req (by first | omega | (simp only [Int.toNat_natCast]; omega)) ?_
      exact k_again (⟨x5.1 + 1, by omega⟩) (fun _ hs => hs.le (by repeat' (first | exact trivial | (first | exact Ent.refl _ | exact inc_ent (by omega) | exact Ent.nil rfl | exact Ent.of_eq (congrArg (AV.osl _ _ _) (by first | omega | (dsimp only; omega))) | exact Ent.of_eq (congrArg (AV.int _) (by first | omega | (dsimp only; omega)))) | refine And.intro ?_ ?_)) (⟨by first | exact ObEnt.refl _ | exact ObEnt.junk | exact ObEnt.zero | exact ObEnt.push rfl rfl | exact ObEnt.pushRow rfl | exact ObEnt.len (by omega) | exact ObEnt.row (by repeat' (first | exact trivial | (first | exact Ent.refl _ | exact inc_ent (by omega) | exact Ent.nil rfl | exact Ent.of_eq (congrArg (AV.osl _ _ _) (by first | omega | (dsimp only; omega))) | exact Ent.of_eq (congrArg (AV.int _) (by first | omega | (dsimp only; omega)))) | refine And.intro ?_ ?_)), by first | exact ObEnt.refl _ | exact ObEnt.junk | exact ObEnt.zero | exact ObEnt.push rfl rfl | exact ObEnt.pushRow rfl | exact ObEnt.len (by omega) | exact ObEnt.row (by repeat' (first | exact trivial | (first | exact Ent.refl _ | exact inc_ent (by omega) | exact Ent.nil rfl | exact Ent.of_eq (congrArg (AV.osl _ _ _) (by first | omega | (dsimp only; omega))) | exact Ent.of_eq (congrArg (AV.int _) (by first | omega | (dsimp only; omega)))) | refine And.intro ?_ ?_)), by first | exact ObEnt.refl _ | exact ObEnt.junk | exact ObEnt.zero | exact ObEnt.push rfl rfl | exact ObEnt.pushRow rfl | exact ObEnt.len (by omega) | exact ObEnt.row (by repeat' (first | exact trivial | (first | exact Ent.refl _ | exact inc_ent (by omega) | exact Ent.nil rfl | exact Ent.of_eq (congrArg (AV.osl _ _ _) (by first | omega | (dsimp only; omega))) | exact Ent.of_eq (congrArg (AV.int _) (by first | omega | (dsimp only; omega)))) | refine And.intro ?_ ?_)), path_push rfl (EntL.refl _), trivial⟩)) (by first | omega | (dsimp only; omega) | (simp; omega))
    · have g6 := cnd_dec_f h6
      refine k_dc (c1) ?_
      refine k_dc (c2 (s.11) (s.12)) ?_
      refine k_dc (c3 (s.13)) ?_
      refine k_dc (c2 (s.14) (s.15)) ?_
      refine k_dc (c4 (Subtype.val x0) (by have := leafP_len s x0.1; omega)) ?_
      refine k_dc (c5 (x5.1 + 1)) ?_
      refine k_dc (c6 (x0.1) (x5.1 + 1)) ?_
      exact k_out (Ent.of_eq (by rw [show x0.1 = s.nl by omega, show x5.1 = s.np by omega]; rfl))

end Go.Proofs.YtmhipmiacghgeaaGreatDoor

namespace Go.Proofs.YtmhipmiacghgeaaGreatDoor
open Go Go.Am Go.Sp
set_option maxRecDepth 100000

theorem rlist6 (a b c d e f : It) : Pure Tryz.prog gl0 102 [.isl 4 6 fun r k => atL (List.getD [a.cells, b.cells, c.cells, d.cells, e.cells, f.cells] r []) k] (lsI [a, b, c, d, e, f]).av :=
  (rlist_c 6 _).ent (li_out (L := [a, b, c, d, e, f]) rfl fun i hi => match i, hi with
    | 0, _ | 1, _ | 2, _ | 3, _ | 4, _ | 5, _ => EntL.refl _)

theorem rlist_p (n : Nat) (c : Nat → It) : Pure Tryz.prog gl0 102 [It.sl n c] (It.li n c).av := (rlist_c n _).ent (Ent.agg ⟨Ent.refl _, Ent.refl _, Ent.nsl, Ent.refl _, trivial⟩)

theorem rsitem_w (s : Spend) (hs : s.nl ≤ 1000) (hp : s.np ≤ 1000) : Pure Tryz.prog gl0 131 [s.av] s.it.av := by
  have c1 := ritem_w s.coin
  have c2 := rints_2
  have c3 := rbytes31_c
  have c4 := fun k h => rints_c (leafP s k) h
  have c5 := fun n => rlist_p n (pathC s)
  have c6 := fun k n => rlist6 s.coin.it (intsI [s.level, s.index]) (.byt 32 s.payee) (intsI [s.time, s.number]) (intsI (leafP s k)) (.li n (pathC s))
  refine pure_sk (own := ow0) Tryz.func131 (by kernel_rfl) mixed (by kernel_rfl)
    (.loop ({ x : Nat // x ≤ Spend.nl s }) (fun (x : { x : Nat // x ≤ Spend.nl s }) => mkSt [1, 2, 4, 3] [AV.own (0) (80) (0) (0) (80), AV.own (1) (4) (0) (0) (4), Zi (↑(Subtype.val x) : Int), AV.osl (2 : Nat) (1 : Nat) (0 : Nat) (List.length (leafP s (Subtype.val x)))] [some { es := 80, n := 1, mu := true, f := Rep.lst [Spend.cells s] }, some { es := 4, n := 1, mu := true, f := Rep.lst [[Zi 0, Zi 0, AV.nsl, AV.nsl]] }, ilO IntKind.i64 (leafP s (Subtype.val x))]) (fun (x : { x : Nat // x ≤ Spend.nl s }) => Spend.nl s - Subtype.val x) (⟨(0 : Nat), Nat.zero_le (Spend.nl s)⟩) ([1, 2, 4, 3]) ([0, 8, 290]) ([AV.own (0) (80) (0) (0) (80), AV.own (1) (4) (0) (0) (4), Zi 0, AV.nsl]) ([some { es := 80, n := 1, mu := true, f := Rep.lst [Spend.cells s] }, some { es := 4, n := 1, mu := true, f := Rep.lst [[Zi 0, Zi 0, AV.nsl, AV.nsl]] }, some { es := 1, n := 0, mu := true, f := Rep.lst [] }]) (fun x0 => (.br (decide ((↑x0.1 : Int) < (↑s.16 : Int))) (.req ((0 : Int) ≤ (↑x0.1 : Int) ∧ (↑x0.1 : Int) < (↑s.16 : Int)) (.req ((0 : Int) ≤ (↑x0.1 : Int) ∧ (↑x0.1 : Int) < (↑s.16 : Int)) (.req ((0 : Int) ≤ (↑x0.1 : Int) ∧ (↑x0.1 : Int) < (↑s.16 : Int)) (.req ((List.length (leafP s (Subtype.val x0)) + 3) * 8 ≤ 140737488355328) (.again (Again (0) (fun (x : { x : Nat // x ≤ Spend.nl s }) => mkSt [1, 2, 4, 3] [AV.own (0) (80) (0) (0) (80), AV.own (1) (4) (0) (0) (4), Zi (↑(Subtype.val x) : Int), AV.osl (2 : Nat) (1 : Nat) (0 : Nat) (List.length (leafP s (Subtype.val x)))] [some { es := 80, n := 1, mu := true, f := Rep.lst [Spend.cells s] }, some { es := 4, n := 1, mu := true, f := Rep.lst [[Zi 0, Zi 0, AV.nsl, AV.nsl]] }, ilO IntKind.i64 (leafP s (Subtype.val x))]) (fun (x : { x : Nat // x ≤ Spend.nl s }) => Spend.nl s - Subtype.val x) x0) ([1, 2, 4, 3]) ([0, 1, 203]) ([AV.own (0) (80) (0) (0) (80), AV.own (1) (4) (0) (0) (4), Zi (IntKind.wrap IntKind.i64 ((↑x0.1 : Int) + (1 : Int))), AV.osl (2) (1) (0) (List.length (leafP s (Subtype.val x0)) + 3)]) ([some { es := 80, n := 1, mu := true, f := Rep.lst [Spend.cells s] }, some { es := 4, n := 1, mu := true, f := Rep.lst [[Zi 0, Zi 0, AV.nsl, AV.nsl]] }, some { es := 1, n := List.length (leafP s (Subtype.val x0)) + 3, mu := true, f := Rep.fn fun (i j : Nat) => Zi (bif Nat.blt i (List.length (leafP s (Subtype.val x0))) then List.getD (leafP s (Subtype.val x0)) i (0 : Int) else intOfAV (atL (List.getD [[Zi (s.17 (Int.toNat (↑x0.1 : Int)) (0))], [Zi (s.17 (Int.toNat (↑x0.1 : Int)) (1))], [Zi (s.17 (Int.toNat (↑x0.1 : Int)) (2))]] (i - List.length (leafP s (Subtype.val x0))) []) j)) }])))))) (.loop ({ x : Nat // x ≤ Spend.np s }) (fun (x : { x : Nat // x ≤ Spend.np s }) => mkSt [1, 2, 3, 6, 5] [AV.own (0) (80) (0) (0) (80), AV.own (1) (4) (0) (0) (4), AV.osl (2) (1) (0) (List.length (leafP s (Subtype.val x0))), Zi (↑(Subtype.val x) : Int), AV.osl (3 : Nat) (4 : Nat) (0 : Nat) (Subtype.val x + (1 : Nat))] [some { es := 80, n := 1, mu := true, f := Rep.lst [Spend.cells s] }, some { es := 4, n := 1, mu := true, f := Rep.lst [[Zi 0, Zi 0, AV.nsl, AV.nsl]] }, some { es := 1, n := List.length (leafP s (Subtype.val x0)), mu := true, f := Rep.fn fun (i j : Nat) => Zi (List.getD (leafP s (Subtype.val x0)) i (0 : Int)) }, some { es := (4 : Nat), n := Subtype.val x + (1 : Nat), mu := true, f := Rep.row fun (i : Nat) => It.cells (pathC s i) }]) (fun (x : { x : Nat // x ≤ Spend.np s }) => Spend.np s - Subtype.val x) (⟨(0 : Nat), Nat.zero_le (Spend.np s)⟩) ([1, 2, 3, 6, 5]) ([0, 1, 2, 75]) ([AV.own (0) (80) (0) (0) (80), AV.own (1) (4) (0) (0) (4), AV.osl (2) (1) (0) (List.length (leafP s (Subtype.val x0))), Zi 0, AV.osl (3) (4) (0) (1)]) ([some { es := 80, n := 1, mu := true, f := Rep.lst [Spend.cells s] }, some { es := 4, n := 1, mu := true, f := Rep.lst [[Zi 0, Zi 0, AV.nsl, AV.nsl]] }, some { es := 1, n := List.length (leafP s (Subtype.val x0)), mu := true, f := Rep.fn fun (i j : Nat) => Zi (List.getD (leafP s (Subtype.val x0)) i (0 : Int)) }, some { es := 4, n := 1, mu := true, f := Rep.lst [[Zi 1, Zi (Spend.pidx s), AV.nsl, AV.nsl]] }]) (fun x7 => (.br (decide ((↑x7.1 : Int) < (↑s.19 : Int))) (.req ((0 : Int) ≤ (↑x7.1 : Int) ∧ (↑x7.1 : Int) < (↑s.19 : Int)) (.dc (true) 96 ([AV.agg (u8c (s.20 (Int.toNat (↑x7.1 : Int))))]) (It.av (It.byt (32 : Nat) (s.20 (Int.toNat (↑x7.1 : Int))))) (.req ((x7.1 + 1 + 1) * 64 ≤ 140737488355328) (.again (Again (0) (fun (x : { x : Nat // x ≤ Spend.np s }) => mkSt [1, 2, 3, 6, 5] [AV.own (0) (80) (0) (0) (80), AV.own (1) (4) (0) (0) (4), AV.osl (2) (1) (0) (List.length (leafP s (Subtype.val x0))), Zi (↑(Subtype.val x) : Int), AV.osl (3 : Nat) (4 : Nat) (0 : Nat) (Subtype.val x + (1 : Nat))] [some { es := 80, n := 1, mu := true, f := Rep.lst [Spend.cells s] }, some { es := 4, n := 1, mu := true, f := Rep.lst [[Zi 0, Zi 0, AV.nsl, AV.nsl]] }, some { es := 1, n := List.length (leafP s (Subtype.val x0)), mu := true, f := Rep.fn fun (i j : Nat) => Zi (List.getD (leafP s (Subtype.val x0)) i (0 : Int)) }, some { es := (4 : Nat), n := Subtype.val x + (1 : Nat), mu := true, f := Rep.row fun (i : Nat) => It.cells (pathC s i) }]) (fun (x : { x : Nat // x ≤ Spend.np s }) => Spend.np s - Subtype.val x) x7) ([1, 2, 3, 6, 5]) ([0, 1, 2, 124]) ([AV.own (0) (80) (0) (0) (80), AV.own (1) (4) (0) (0) (4), AV.osl (2) (1) (0) (List.length (leafP s (Subtype.val x0))), Zi (IntKind.wrap IntKind.i64 ((↑x7.1 : Int) + (1 : Int))), AV.osl (3) (4) (0) (x7.1 + 1 + 1)]) ([some { es := 80, n := 1, mu := true, f := Rep.lst [Spend.cells s] }, some { es := 4, n := 1, mu := true, f := Rep.lst [[Zi 0, Zi 0, AV.nsl, AV.nsl]] }, some { es := 1, n := List.length (leafP s (Subtype.val x0)), mu := true, f := Rep.fn fun (i j : Nat) => Zi (List.getD (leafP s (Subtype.val x0)) i (0 : Int)) }, some { es := 4, n := x7.1 + 1 + 1, mu := true, f := Rep.cat (x7.1 + 1) (Rep.row fun (i : Nat) => [Zi (It.kind (pathC s i)), Zi (It.num (pathC s i)), AV.isl (1) (It.nb (pathC s i)) fun (i_1 x : Nat) => Zb (It.fb (pathC s i) i_1), AV.isl (4) (It.nl (pathC s i)) (It.row (pathC s i))]) (Rep.lst [[Zi (It.kind (It.byt (32 : Nat) (s.20 (Int.toNat (↑x7.1 : Int))))), Zi (It.num (It.byt (32 : Nat) (s.20 (Int.toNat (↑x7.1 : Int))))), AV.isl (1) (32) fun (i x : Nat) => Zb (It.fb (It.byt (32) (s.20 (Int.toNat (↑x7.1 : Int)))) i), AV.isl (4) (0) (It.row (It.byt (32) (s.20 (Int.toNat (↑x7.1 : Int)))))]]) }]))))) (.dc (true) 99 ([AV.agg (Zi s.1 :: Zi s.2 :: Zi s.3 :: Zi s.4 :: Zi s.5 :: (u8c s.6 ++ [Zi s.7, Zi s.8, Zi s.9, Zi s.10]))]) (It.av (Coin.it (Spend.coin s))) (.dc (true) 100 ([AV.isl (1) (2) fun (r k : Nat) => atL (List.getD [[Zi s.11], [Zi s.12]] (r + 0) []) k]) (It.av (intsI [s.11, s.12])) (.dc (true) 96 ([AV.agg (u8c s.13)]) (It.av (It.byt (32 : Nat) s.13)) (.dc (true) 100 ([AV.isl (1) (2) fun (r k : Nat) => atL (List.getD [[Zi s.14], [Zi s.15]] (r + 0) []) k]) (It.av (intsI [s.14, s.15])) (.dc (true) 100 ([AV.isl (1) (List.length (leafP s (Subtype.val x0))) fun (r k : Nat) => Zi (List.getD (leafP s (Subtype.val x0)) (r + 0) (0 : Int))]) (It.av (intsI (leafP s (Subtype.val x0)))) (.dc (true) 102 ([AV.isl (4) (x7.1 + 1) fun (r k : Nat) => atL [Zi (It.kind (pathC s (r + 0))), Zi (It.num (pathC s (r + 0))), AV.isl (1) (It.nb (pathC s (r + 0))) fun (i x : Nat) => Zb (It.fb (pathC s (r + 0)) i), AV.isl (4) (It.nl (pathC s (r + 0))) (It.row (pathC s (r + 0)))] k]) (It.av (It.li (x7.1 + 1) (pathC s))) (.dc (true) 102 ([AV.isl (4) (6) fun (r k : Nat) => atL (List.getD [[Zi (It.kind (Coin.it (Spend.coin s))), Zi (It.num (Coin.it (Spend.coin s))), AV.isl (1) (0) fun (i x : Nat) => Zb (It.fb (Coin.it (Spend.coin s)) i), AV.isl (4) (3) (It.row (Coin.it (Spend.coin s)))], [Zi (It.kind (intsI [s.11, s.12])), Zi (It.num (intsI [s.11, s.12])), AV.isl (1) (0) fun (i x : Nat) => Zb (It.fb (intsI [s.11, s.12]) i), AV.isl (4) (2) (It.row (intsI [s.11, s.12]))], [Zi (It.kind (It.byt (32) s.13)), Zi (It.num (It.byt (32) s.13)), AV.isl (1) (32) fun (i x : Nat) => Zb (It.fb (It.byt (32) s.13) i), AV.isl (4) (0) (It.row (It.byt (32) s.13))], [Zi (It.kind (intsI [s.14, s.15])), Zi (It.num (intsI [s.14, s.15])), AV.isl (1) (0) fun (i x : Nat) => Zb (It.fb (intsI [s.14, s.15]) i), AV.isl (4) (2) (It.row (intsI [s.14, s.15]))], [Zi (It.kind (intsI (leafP s x0.1))), Zi (It.num (intsI (leafP s x0.1))), AV.isl (1) (0) fun (i x : Nat) => Zb (It.fb (intsI (leafP s x0.1)) i), AV.isl (4) (It.nl (intsI (leafP s x0.1))) (It.row (intsI (leafP s x0.1)))], [Zi (It.kind (It.li (x7.1 + 1) (pathC s))), Zi (It.num (It.li (x7.1 + 1) (pathC s))), AV.isl (1) (0) fun (i x : Nat) => Zb (It.fb (It.li (x7.1 + 1) (pathC s)) i), AV.isl (4) (It.nl (It.li (x7.1 + 1) (pathC s))) (It.row (It.li (x7.1 + 1) (pathC s)))]] (r + 0) []) k]) (It.av (lsI [Coin.it (Spend.coin s), intsI [Spend.level s, Spend.index s], It.byt (32 : Nat) (Spend.payee s), intsI [Spend.time s, Spend.number s], intsI (leafP s x0.1), It.li (x7.1 + 1) (pathC s)])) (.out (AV.agg [Zi (It.kind (lsI [Coin.it (Spend.coin s), intsI [s.11, s.12], It.byt (32) s.13, intsI [s.14, s.15], intsI (leafP s x0.1), It.li (x7.1 + 1) (pathC s)])), Zi (It.num (lsI [Coin.it (Spend.coin s), intsI [s.11, s.12], It.byt (32) s.13, intsI [s.14, s.15], intsI (leafP s x0.1), It.li (x7.1 + 1) (pathC s)])), AV.isl (1) (0) fun (i x : Nat) => Zb (It.fb (lsI [Coin.it (Spend.coin s), intsI [s.11, s.12], It.byt (32) s.13, intsI [s.14, s.15], intsI (leafP s x0.1), It.li (x7.1 + 1) (pathC s)]) i), AV.isl (4) (6) (It.row (lsI [Coin.it (Spend.coin s), intsI [s.11, s.12], It.byt (32) s.13, intsI [s.14, s.15], intsI (leafP s x0.1), It.li (x7.1 + 1) (pathC s)]))]) [] (It.av (Spend.it s)) []))))))))))))))
    (by kernel_rfl) ?_
  --LOOPINFO kept [1, 2] changed [4, 3] objects [0, 8, 290]
  --LOOPINFO   obj 0: some { es := 80, n := 1, mu := true, f := Rep.lst [Spend.cells s] }
  --LOOPINFO   obj 1: some { es := 4, n := 1, mu := true, f := Rep.lst [[Zi 0, Zi 0, AV.nsl, AV.nsl]] }
  refine k_loop (fun _ hs => hs.le (by repeat' (first | exact trivial | (first | exact Ent.refl _ | exact inc_ent (by omega) | exact Ent.nil rfl | exact Ent.of_eq (congrArg (AV.osl _ _ _) (by first | omega | (dsimp only; omega))) | exact Ent.of_eq (congrArg (AV.int _) (by first | omega | (dsimp only; omega)))) | refine And.intro ?_ ?_)) (by repeat' (first | exact trivial | (first | exact ObEnt.refl _ | exact ObEnt.junk | exact ObEnt.zero | exact ObEnt.push rfl rfl | exact ObEnt.pushRow rfl | exact ObEnt.len (by omega) | exact ObEnt.row (by repeat' (first | exact trivial | (first | exact Ent.refl _ | exact inc_ent (by omega) | exact Ent.nil rfl | exact Ent.of_eq (congrArg (AV.osl _ _ _) (by first | omega | (dsimp only; omega))) | exact Ent.of_eq (congrArg (AV.int _) (by first | omega | (dsimp only; omega)))) | refine And.intro ?_ ?_))) | refine And.intro ?_ ?_))) (fun x0 => ?_)
  try (have q0 := x0.2; dsimp only at q0)
  refine k_br (fun h1 => ?_) (fun h1 => ?_)
  · have g1 := cnd_dec_t h1
    refine k_req (by first | omega | (simp only [Int.toNat_natCast]; omega)) ?_
    refine k_req (by first | omega | (simp only [Int.toNat_natCast]; omega)) ?_
    refine k_req (by first | omega | (simp only [Int.toNat_natCast]; omega)) ?_
    refine k_req (by have := leafP_len s x0.1; omega) ?_
    exact k_again (⟨x0.1 + 1, by omega⟩) (fun _ hs => hs.le (⟨by first | exact Ent.refl _ | exact inc_ent (by omega) | exact Ent.nil rfl | exact Ent.of_eq (congrArg (AV.osl _ _ _) (by first | omega | (dsimp only; omega))) | exact Ent.of_eq (congrArg (AV.int _) (by first | omega | (dsimp only; omega))), by first | exact Ent.refl _ | exact inc_ent (by omega) | exact Ent.nil rfl | exact Ent.of_eq (congrArg (AV.osl _ _ _) (by first | omega | (dsimp only; omega))) | exact Ent.of_eq (congrArg (AV.int _) (by first | omega | (dsimp only; omega))), by first | exact Ent.refl _ | exact inc_ent (by omega) | exact Ent.nil rfl | exact Ent.of_eq (congrArg (AV.osl _ _ _) (by first | omega | (dsimp only; omega))) | exact Ent.of_eq (congrArg (AV.int _) (by first | omega | (dsimp only; omega))), Ent.of_eq (congrArg (AV.osl 2 1 0) (by rw [leafP_len, leafP_len]; dsimp only; omega)), trivial⟩) (⟨by first | exact ObEnt.refl _ | exact ObEnt.junk | exact ObEnt.zero | exact ObEnt.push rfl rfl | exact ObEnt.pushRow rfl | exact ObEnt.len (by omega) | exact ObEnt.row (by repeat' (first | exact trivial | (first | exact Ent.refl _ | exact inc_ent (by omega) | exact Ent.nil rfl | exact Ent.of_eq (congrArg (AV.osl _ _ _) (by first | omega | (dsimp only; omega))) | exact Ent.of_eq (congrArg (AV.int _) (by first | omega | (dsimp only; omega)))) | refine And.intro ?_ ?_)), by first | exact ObEnt.refl _ | exact ObEnt.junk | exact ObEnt.zero | exact ObEnt.push rfl rfl | exact ObEnt.pushRow rfl | exact ObEnt.len (by omega) | exact ObEnt.row (by repeat' (first | exact trivial | (first | exact Ent.refl _ | exact inc_ent (by omega) | exact Ent.nil rfl | exact Ent.of_eq (congrArg (AV.osl _ _ _) (by first | omega | (dsimp only; omega))) | exact Ent.of_eq (congrArg (AV.int _) (by first | omega | (dsimp only; omega)))) | refine And.intro ?_ ?_)), leaf3_ob (k := x0.1) (by kernel_rfl), trivial⟩)) (by first | omega | (dsimp only; omega) | (simp; omega))
  · have g1 := cnd_dec_f h1
    --LOOPINFO kept [1, 2, 3] changed [6, 5] objects [0, 1, 2, 75]
    --LOOPINFO   obj 0: some { es := 80, n := 1, mu := true, f := Rep.lst [Spend.cells s] }
    --LOOPINFO   obj 1: some { es := 4, n := 1, mu := true, f := Rep.lst [[Zi 0, Zi 0, AV.nsl, AV.nsl]] }
    --LOOPINFO   obj 2: some { es := 1, n := List.length (leafP s (Subtype.val x0)), mu := true, f := Rep.fn fun (i j : Nat) => Zi (List.getD (leafP s (Subtype.val x0)) i (0 : Int)) }
    refine k_loop (fun _ hs => hs.le (by repeat' (first | exact trivial | (first | exact Ent.refl _ | exact inc_ent (by omega) | exact Ent.nil rfl | exact Ent.of_eq (congrArg (AV.osl _ _ _) (by first | omega | (dsimp only; omega))) | exact Ent.of_eq (congrArg (AV.int _) (by first | omega | (dsimp only; omega)))) | refine And.intro ?_ ?_)) (⟨by first | exact ObEnt.refl _ | exact ObEnt.junk | exact ObEnt.zero | exact ObEnt.push rfl rfl | exact ObEnt.pushRow rfl | exact ObEnt.len (by omega) | exact ObEnt.row (by repeat' (first | exact trivial | (first | exact Ent.refl _ | exact inc_ent (by omega) | exact Ent.nil rfl | exact Ent.of_eq (congrArg (AV.osl _ _ _) (by first | omega | (dsimp only; omega))) | exact Ent.of_eq (congrArg (AV.int _) (by first | omega | (dsimp only; omega)))) | refine And.intro ?_ ?_)), by first | exact ObEnt.refl _ | exact ObEnt.junk | exact ObEnt.zero | exact ObEnt.push rfl rfl | exact ObEnt.pushRow rfl | exact ObEnt.len (by omega) | exact ObEnt.row (by repeat' (first | exact trivial | (first | exact Ent.refl _ | exact inc_ent (by omega) | exact Ent.nil rfl | exact Ent.of_eq (congrArg (AV.osl _ _ _) (by first | omega | (dsimp only; omega))) | exact Ent.of_eq (congrArg (AV.int _) (by first | omega | (dsimp only; omega)))) | refine And.intro ?_ ?_)), by first | exact ObEnt.refl _ | exact ObEnt.junk | exact ObEnt.zero | exact ObEnt.push rfl rfl | exact ObEnt.pushRow rfl | exact ObEnt.len (by omega) | exact ObEnt.row (by repeat' (first | exact trivial | (first | exact Ent.refl _ | exact inc_ent (by omega) | exact Ent.nil rfl | exact Ent.of_eq (congrArg (AV.osl _ _ _) (by first | omega | (dsimp only; omega))) | exact Ent.of_eq (congrArg (AV.int _) (by first | omega | (dsimp only; omega)))) | refine And.intro ?_ ?_)), path_start, trivial⟩)) (fun x7 => ?_)
    try (have q7 := x7.2; dsimp only at q7)
    refine k_br (fun h8 => ?_) (fun h8 => ?_)
    · have g8 := cnd_dec_t h8
      refine k_req (by first | omega | (simp only [Int.toNat_natCast]; omega)) ?_
      refine k_dc (c3 (s.20 (Int.toNat (↑x7.1 : Int)))) ?_
      refine k_req (by first | omega | (simp only [Int.toNat_natCast]; omega)) ?_
      exact k_again (⟨x7.1 + 1, by omega⟩) (fun _ hs => hs.le (by repeat' (first | exact trivial | (first | exact Ent.refl _ | exact inc_ent (by omega) | exact Ent.nil rfl | exact Ent.of_eq (congrArg (AV.osl _ _ _) (by first | omega | (dsimp only; omega))) | exact Ent.of_eq (congrArg (AV.int _) (by first | omega | (dsimp only; omega)))) | refine And.intro ?_ ?_)) (⟨by first | exact ObEnt.refl _ | exact ObEnt.junk | exact ObEnt.zero | exact ObEnt.push rfl rfl | exact ObEnt.pushRow rfl | exact ObEnt.len (by omega) | exact ObEnt.row (by repeat' (first | exact trivial | (first | exact Ent.refl _ | exact inc_ent (by omega) | exact Ent.nil rfl | exact Ent.of_eq (congrArg (AV.osl _ _ _) (by first | omega | (dsimp only; omega))) | exact Ent.of_eq (congrArg (AV.int _) (by first | omega | (dsimp only; omega)))) | refine And.intro ?_ ?_)), by first | exact ObEnt.refl _ | exact ObEnt.junk | exact ObEnt.zero | exact ObEnt.push rfl rfl | exact ObEnt.pushRow rfl | exact ObEnt.len (by omega) | exact ObEnt.row (by repeat' (first | exact trivial | (first | exact Ent.refl _ | exact inc_ent (by omega) | exact Ent.nil rfl | exact Ent.of_eq (congrArg (AV.osl _ _ _) (by first | omega | (dsimp only; omega))) | exact Ent.of_eq (congrArg (AV.int _) (by first | omega | (dsimp only; omega)))) | refine And.intro ?_ ?_)), by first | exact ObEnt.refl _ | exact ObEnt.junk | exact ObEnt.zero | exact ObEnt.push rfl rfl | exact ObEnt.pushRow rfl | exact ObEnt.len (by omega) | exact ObEnt.row (by repeat' (first | exact trivial | (first | exact Ent.refl _ | exact inc_ent (by omega) | exact Ent.nil rfl | exact Ent.of_eq (congrArg (AV.osl _ _ _) (by first | omega | (dsimp only; omega))) | exact Ent.of_eq (congrArg (AV.int _) (by first | omega | (dsimp only; omega)))) | refine And.intro ?_ ?_)), path_push rfl (EntL.refl _), trivial⟩)) (by first | omega | (dsimp only; omega) | (simp; omega))
    · have g8 := cnd_dec_f h8
      refine k_dc (c1) ?_
      refine k_dc (c2 (s.11) (s.12)) ?_
      refine k_dc (c3 (s.13)) ?_
      refine k_dc (c2 (s.14) (s.15)) ?_
      refine k_dc (c4 (Subtype.val x0) (by have := leafP_len s x0.1; omega)) ?_
      refine k_dc (c5 (x7.1 + 1)) ?_
      refine k_dc (c6 (x0.1) (x7.1 + 1)) ?_
      exact k_out (Ent.of_eq (by rw [show x0.1 = s.nl by omega, show x7.1 = s.np by omega]; rfl))

theorem sdig_w (s : Spend) (x : It) (c1 : Pure Tryz.prog gl0 130 [s.av] x.av) (ho : x.okD 8 = true) (hl : x.enc.length ≤ 16384) (hb : x.okB) : Pure Tryz.prog gl0 91 [s.av] (.agg (u8c (tagI "specie/spend-item".toUTF8 x))) := by
  have c2 := encode_c x ho hl
  have c3 := tagged_c "specie/spend-item".toUTF8 (by decide) (by decide) (fun i => x.enc.getD i 0) x.enc.length (by omega) (It.enc_by hb)
  refine pure_sk (own := ow0) Tryz.func91 (by kernel_rfl) mixed (by kernel_rfl)
    (.dc (true) 130 ([AV.agg (Spend.cells s)]) (It.av x) (.dc (true) 127 ([AV.agg [Zi (It.kind x), Zi (It.num x), AV.isl (1) (It.nb x) fun (i x_1 : Nat) => Zb (It.fb x i), AV.isl (4) (It.nl x) (It.row x)]]) (AV.tup [il IntKind.u8 (It.enc x), Zi 0]) (.ff (.sc (true) 128 ([AV.str { data := #[(115 : UInt8), (112 : UInt8), (101 : UInt8), (99 : UInt8), (105 : UInt8), (101 : UInt8), (47 : UInt8), (115 : UInt8), (112 : UInt8), (101 : UInt8), (110 : UInt8), (100 : UInt8), (45 : UInt8), (105 : UInt8), (116 : UInt8), (101 : UInt8), (109 : UInt8)] }, AV.isl (1) (List.length (It.enc x)) fun (i x_1 : Nat) => Zb (List.getD (It.enc x) i (0 : Int))]) (AV.tup [AV.agg (u8c (tagF (String.toUTF8 "specie/spend-item") (List.length (It.enc x)) fun (i : Nat) => List.getD (It.enc x) i (0 : Int))), Zi 0]) (.out (AV.agg (u8c (tagF (String.toUTF8 "specie/spend-item") (List.length (It.enc x)) fun (i : Nat) => List.getD (It.enc x) i (0 : Int)))) [] (AV.agg (u8c (tagI (String.toUTF8 "specie/spend-item") x))) [])))))
    (by kernel_rfl) ?_
  refine k_dc (c1) ?_
  refine k_dc (c2) ?_
  refine k_ff ?_
  refine k_sc (c3) ?_
  exact k_out (Ent.refl _)

theorem rsdig_w (s : Spend) (x : It) (c1 : Pure Tryz.prog gl0 131 [s.av] x.av) (ho : x.okD 8 = true) (hl : x.enc.length ≤ 16384) (hb : x.okB) : Pure Tryz.prog gl0 92 [s.av] (.agg (u8c (tagI "specie/spend-item".toUTF8 x))) := by
  have c2 := rvalid_c x ho
  have c3 := renc_c x (by omega)
  have c4 := rtagged_c "specie/spend-item".toUTF8 (by decide) (fun i => x.enc.getD i 0) x.enc.length (by omega) (It.enc_by hb)
  refine pure_sk (own := ow0) Tryz.func92 (by kernel_rfl) mixed (by kernel_rfl)
    (.dc (true) 131 ([AV.agg (Spend.cells s)]) (It.av x) (.sc (true) 132 ([AV.agg [Zi (It.kind x), Zi (It.num x), AV.isl (1) (It.nb x) fun (i x_1 : Nat) => Zb (It.fb x i), AV.isl (4) (It.nl x) (It.row x)]]) (AV.bool true) (.ff (.dc (true) 98 ([AV.agg [Zi (It.kind x), Zi (It.num x), AV.isl (1) (It.nb x) fun (i x_1 : Nat) => Zb (It.fb x i), AV.isl (4) (It.nl x) (It.row x)]]) (il IntKind.u8 (It.enc x)) (.br (decide ((↑(List.length (It.enc x)) : Int) > (16384 : Int))) (.out (AV.agg [Zb 0, Zb 0, Zb 0, Zb 0, Zb 0, Zb 0, Zb 0, Zb 0, Zb 0, Zb 0, Zb 0, Zb 0, Zb 0, Zb 0, Zb 0, Zb 0, Zb 0, Zb 0, Zb 0, Zb 0, Zb 0, Zb 0, Zb 0, Zb 0, Zb 0, Zb 0, Zb 0, Zb 0, Zb 0, Zb 0, Zb 0, Zb 0]) [] (AV.agg (u8c (tagI (String.toUTF8 "specie/spend-item") x))) []) (.sc (true) 97 ([AV.str { data := #[(115 : UInt8), (112 : UInt8), (101 : UInt8), (99 : UInt8), (105 : UInt8), (101 : UInt8), (47 : UInt8), (115 : UInt8), (112 : UInt8), (101 : UInt8), (110 : UInt8), (100 : UInt8), (45 : UInt8), (105 : UInt8), (116 : UInt8), (101 : UInt8), (109 : UInt8)] }, AV.isl (1) (List.length (It.enc x)) fun (i x_1 : Nat) => Zb (List.getD (It.enc x) i (0 : Int))]) (AV.agg (u8c (tagF (String.toUTF8 "specie/spend-item") (List.length (It.enc x)) fun (i : Nat) => List.getD (It.enc x) i (0 : Int)))) (.out (AV.agg (u8c (tagF (String.toUTF8 "specie/spend-item") (List.length (It.enc x)) fun (i : Nat) => List.getD (It.enc x) i (0 : Int)))) [] (AV.agg (u8c (tagI (String.toUTF8 "specie/spend-item") x))) [])))))))
    (by kernel_rfl) ?_
  refine k_dc (c1) ?_
  refine k_sc (c2) ?_
  refine k_ff ?_
  refine k_dc (c3) ?_
  refine k_br (fun h4 => ?_) (fun h4 => ?_)
  · have g4 := cnd_dec_t h4
    exact k_out ((by exfalso; omega))
  · have g4 := cnd_dec_f h4
    refine k_sc (c4) ?_
    exact k_out (Ent.refl _)

theorem sdig_c (s : Spend) (h : s.Sm) : Pure Tryz.prog gl0 91 [s.av] (.agg (u8c s.dig)) :=
  sdig_w s s.it (sitem_w s (by have := h.nl; omega) (by have := h.np; omega)) (Spend.it_ok h) (Spend.it_len h) (Spend.it_okB h)

theorem rsdig_c (s : Spend) (h : s.Sm) : Pure Tryz.prog gl0 92 [s.av] (.agg (u8c s.dig)) :=
  rsdig_w s s.it (rsitem_w s (by have := h.nl; omega) (by have := h.np; omega)) (Spend.it_ok h) (Spend.it_len h) (Spend.it_okB h)

end Go.Proofs.YtmhipmiacghgeaaGreatDoor

namespace Go.Proofs.YtmhipmiacghgeaaGreatDoor
open Go Go.Am Go.Sp
set_option maxRecDepth 100000

theorem ctagged_w (s : ByteArray) (n : Nat) (F : Nat → Nat → Int) (E : List Int) (T : Nat → Int) (hn : n ≤ 400)
    (c2 : ∀ m, m = n → Pure Tryz.prog gl0 127 [.agg [.int .i64 3, .int .i64 0, .nsl, .isl 4 m fun r k => atL (hI F r).cells k]] (.tup [il .u8 E, .int .i64 0]))
    (c3 : Pure Tryz.prog gl0 128 [.str s, il .u8 E] (.tup [.agg (u8c T), .int .i64 0])) : Pure Tryz.prog gl0 89 [.str s, hsN n F] (.agg (u8c T)) := by
  have c1 := cloneU_c
  refine pure_sk (own := ow0) Tryz.func89 (by kernel_rfl) mixed (by kernel_rfl)
    (.loop ({ x : Nat // x ≤ n }) (fun (x : { x : Nat // x ≤ n }) => mkSt [0, 4, 5, 13, 14, 15] [AV.str s, AV.own (0) (32) (0) (0) (32), AV.own (1) (4) (0) (0) (4), AV.isl (32) n fun (i j : Nat) => Zb (F i j), Zi (↑n : Int), Zi (↑(Subtype.val x) : Int)] [some { es := 32, n := 1, mu := true, f := Rep.lst [[Zb 0, Zb 0, Zb 0, Zb 0, Zb 0, Zb 0, Zb 0, Zb 0, Zb 0, Zb 0, Zb 0, Zb 0, Zb 0, Zb 0, Zb 0, Zb 0, Zb 0, Zb 0, Zb 0, Zb 0, Zb 0, Zb 0, Zb 0, Zb 0, Zb 0, Zb 0, Zb 0, Zb 0, Zb 0, Zb 0, Zb 0, Zb 0]] }, some { es := (4 : Nat), n := (1 : Nat), mu := true, f := Rep.lst [[Zi 3, Zi 0, AV.nsl, AV.osl (2 : Nat) (4 : Nat) (0 : Nat) (Subtype.val x)]] }, some { es := (4 : Nat), n := Subtype.val x, mu := true, f := Rep.row fun (i : Nat) => It.cells (hI F i) }]) (fun (x : { x : Nat // x ≤ n }) => n - Subtype.val x) (⟨(0 : Nat), Nat.zero_le n⟩) ([0, 4, 5, 13, 14, 15]) ([0, 16, 1082]) ([AV.str s, AV.own (0) (32) (0) (0) (32), AV.own (1) (4) (0) (0) (4), AV.isl (32) n fun (i j : Nat) => Zb (F i j), Zi (↑n : Int), Zi 0]) ([some { es := 32, n := 1, mu := true, f := Rep.lst [[Zb 0, Zb 0, Zb 0, Zb 0, Zb 0, Zb 0, Zb 0, Zb 0, Zb 0, Zb 0, Zb 0, Zb 0, Zb 0, Zb 0, Zb 0, Zb 0, Zb 0, Zb 0, Zb 0, Zb 0, Zb 0, Zb 0, Zb 0, Zb 0, Zb 0, Zb 0, Zb 0, Zb 0, Zb 0, Zb 0, Zb 0, Zb 0]] }, some { es := 4, n := 1, mu := true, f := Rep.lst [[Zi 3, Zi 0, AV.nsl, AV.nsl]] }, some { es := 4, n := 0, mu := true, f := Rep.lst [] }]) (fun x0 => (.br (decide ((↑x0.1 : Int) < (↑n : Int))) (.req ((0 : Int) ≤ (↑x0.1 : Int) ∧ (↑x0.1 : Int) < (↑n : Int)) (.dc (true) 126 ([AV.isl (1) (32) fun (r x : Nat) => Zb (intOfAV (atL (u8c (F (Int.toNat (↑x0.1 : Int)))) (0 + (0 + r))))]) (bys (32) fun (i : Nat) => intOfAV (atL (u8c (F (Int.toNat (↑x0.1 : Int)))) (0 + (0 + i)))) (.req ((x0.1 + 1) * 64 ≤ 140737488355328) (.again (Again (0) (fun (x : { x : Nat // x ≤ n }) => mkSt [0, 4, 5, 13, 14, 15] [AV.str s, AV.own (0) (32) (0) (0) (32), AV.own (1) (4) (0) (0) (4), AV.isl (32) n fun (i j : Nat) => Zb (F i j), Zi (↑n : Int), Zi (↑(Subtype.val x) : Int)] [some { es := 32, n := 1, mu := true, f := Rep.lst [[Zb 0, Zb 0, Zb 0, Zb 0, Zb 0, Zb 0, Zb 0, Zb 0, Zb 0, Zb 0, Zb 0, Zb 0, Zb 0, Zb 0, Zb 0, Zb 0, Zb 0, Zb 0, Zb 0, Zb 0, Zb 0, Zb 0, Zb 0, Zb 0, Zb 0, Zb 0, Zb 0, Zb 0, Zb 0, Zb 0, Zb 0, Zb 0]] }, some { es := (4 : Nat), n := (1 : Nat), mu := true, f := Rep.lst [[Zi 3, Zi 0, AV.nsl, AV.osl (2 : Nat) (4 : Nat) (0 : Nat) (Subtype.val x)]] }, some { es := (4 : Nat), n := Subtype.val x, mu := true, f := Rep.row fun (i : Nat) => It.cells (hI F i) }]) (fun (x : { x : Nat // x ≤ n }) => n - Subtype.val x) x0) ([0, 4, 5, 13, 14, 15]) ([0, 1, 91]) ([AV.str s, AV.own (0) (32) (0) (0) (32), AV.own (1) (4) (0) (0) (4), AV.isl (32) n fun (i j : Nat) => Zb (F i j), Zi (↑n : Int), Zi (IntKind.wrap IntKind.i64 ((↑x0.1 : Int) + (1 : Int)))]) ([some { es := 32, n := 1, mu := true, f := Rep.lst [[Zb 0, Zb 0, Zb 0, Zb 0, Zb 0, Zb 0, Zb 0, Zb 0, Zb 0, Zb 0, Zb 0, Zb 0, Zb 0, Zb 0, Zb 0, Zb 0, Zb 0, Zb 0, Zb 0, Zb 0, Zb 0, Zb 0, Zb 0, Zb 0, Zb 0, Zb 0, Zb 0, Zb 0, Zb 0, Zb 0, Zb 0, Zb 0]] }, some { es := 4, n := 1, mu := true, f := Rep.lst [[Zi 3, Zi 0, AV.nsl, AV.osl (2) (4) (0) (x0.1 + 1)]] }, some { es := 4, n := x0.1 + 1, mu := true, f := Rep.cat x0.1 (Rep.row fun (i : Nat) => [Zi (It.kind (hI F i)), Zi (It.num (hI F i)), AV.isl (1) (32) fun (i_1 x : Nat) => Zb (It.fb (hI F i) i_1), AV.isl (4) (0) (It.row (hI F i))]) (Rep.lst [[Zi 2, Zi 0, AV.isl (1) (32) fun (i x : Nat) => Zb (intOfAV (atL (u8c (F (Int.toNat (↑x0.1 : Int)))) (0 + (0 + i)))), AV.nsl]]) }]))))) (.dc (true) 127 ([AV.agg [Zi 3, Zi 0, AV.nsl, AV.isl (4) x0.1 fun (r k : Nat) => atL [Zi (It.kind (hI F (r + 0))), Zi (It.num (hI F (r + 0))), AV.isl (1) (32) fun (i x : Nat) => Zb (It.fb (hI F (r + 0)) i), AV.isl (4) (0) (It.row (hI F (r + 0)))] k]]) (AV.tup [il IntKind.u8 E, Zi 0]) (.sc (true) 128 ([AV.str s, AV.isl (1) (List.length E) fun (i x : Nat) => Zb (List.getD E i (0 : Int))]) (AV.tup [AV.agg (u8c T), Zi 0]) (.out (AV.agg (u8c T)) [] (AV.agg (u8c T)) []))))))
    (by kernel_rfl) ?_
  --LOOPINFO kept [0, 4, 5, 13, 14] changed [15] objects [0, 16, 1082]
  --LOOPINFO   obj 0: some { es := 32, n := 1, mu := true, f := Rep.lst [[Zb 0, Zb 0, Zb 0, Zb 0, Zb 0, Zb 0, Zb 0, Zb 0, Zb 0, Zb 0, Zb 0, Zb 0, Zb 0, Zb 0, Zb 0, Zb 0, Zb 0, Zb 0, Zb 0, Zb 0, Zb 0, Zb 0, Zb 0, Zb 0, Zb 0, Zb 0, Zb 0, Zb 0, Zb 0, Zb 0, Zb 0, Zb 0]] }
  refine k_loop (fun _ hs => hs.le (by repeat' (first | exact trivial | (first | exact Ent.refl _ | exact inc_ent (by omega) | exact Ent.nil rfl | exact Ent.of_eq (congrArg (AV.osl _ _ _) (by first | omega | (dsimp only; omega))) | exact Ent.of_eq (congrArg (AV.int _) (by first | omega | (dsimp only; omega)))) | refine And.intro ?_ ?_)) (by repeat' (first | exact trivial | (first | exact ObEnt.refl _ | exact ObEnt.junk | exact ObEnt.zero | exact ObEnt.push rfl rfl | exact ObEnt.pushRow rfl | exact ObEnt.len (by omega) | exact ObEnt.row (by repeat' (first | exact trivial | (first | exact Ent.refl _ | exact inc_ent (by omega) | exact Ent.nil rfl | exact Ent.of_eq (congrArg (AV.osl _ _ _) (by first | omega | (dsimp only; omega))) | exact Ent.of_eq (congrArg (AV.int _) (by first | omega | (dsimp only; omega)))) | refine And.intro ?_ ?_))) | refine And.intro ?_ ?_))) (fun x0 => ?_)
  try (have q0 := x0.2; dsimp only at q0)
  refine k_br (fun h1 => ?_) (fun h1 => ?_)
  · have g1 := cnd_dec_t h1
    refine k_req (by first | omega | (simp only [Int.toNat_natCast]; omega)) ?_
    refine k_dc (c1 (fun (i : Nat) => intOfAV (atL (u8c (F (Int.toNat (↑x0.1 : Int)))) (0 + (0 + i)))) (32) (by first | assumption | omega)) ?_
    refine k_req (by first | omega | (simp only [Int.toNat_natCast]; omega)) ?_
    exact k_again (⟨x0.1 + 1, by omega⟩) (fun _ hs => hs.le (by repeat' (first | exact trivial | (first | exact Ent.refl _ | exact inc_ent (by omega) | exact Ent.nil rfl | exact Ent.of_eq (congrArg (AV.osl _ _ _) (by first | omega | (dsimp only; omega))) | exact Ent.of_eq (congrArg (AV.int _) (by first | omega | (dsimp only; omega)))) | refine And.intro ?_ ?_)) (⟨by first | exact ObEnt.refl _ | exact ObEnt.junk | exact ObEnt.zero | exact ObEnt.push rfl rfl | exact ObEnt.pushRow rfl | exact ObEnt.len (by omega) | exact ObEnt.row (by repeat' (first | exact trivial | (first | exact Ent.refl _ | exact inc_ent (by omega) | exact Ent.nil rfl | exact Ent.of_eq (congrArg (AV.osl _ _ _) (by first | omega | (dsimp only; omega))) | exact Ent.of_eq (congrArg (AV.int _) (by first | omega | (dsimp only; omega)))) | refine And.intro ?_ ?_)), by first | exact ObEnt.refl _ | exact ObEnt.junk | exact ObEnt.zero | exact ObEnt.push rfl rfl | exact ObEnt.pushRow rfl | exact ObEnt.len (by omega) | exact ObEnt.row (by repeat' (first | exact trivial | (first | exact Ent.refl _ | exact inc_ent (by omega) | exact Ent.nil rfl | exact Ent.of_eq (congrArg (AV.osl _ _ _) (by first | omega | (dsimp only; omega))) | exact Ent.of_eq (congrArg (AV.int _) (by first | omega | (dsimp only; omega)))) | refine And.intro ?_ ?_)), hash_push rfl (fun i hi => by
                                                                                                     show intOfAV (atL (u8c (F x0.1)) (0 + (0 + i))) = F x0.1 i
                                                                                                     rw [Nat.zero_add, Nat.zero_add]
                                                                                                     exact u8c_at hi), trivial⟩)) (by first | omega | (dsimp only; omega) | (simp; omega))
  · have g1 := cnd_dec_f h1
    refine k_dc (c2 (x0.1) (by first | assumption | omega)) ?_
    refine k_sc (c3) ?_
    exact k_out (Ent.of_eq (by first | rfl | simp_all))

theorem rctagged_w (s : ByteArray) (n : Nat) (F : Nat → Nat → Int) (E : List Int) (T : Nat → Int) (hn : n ≤ 400)
    (c2 : ∀ m, m = n → Pure Tryz.prog gl0 98 [.agg [.int .i64 3, .int .i64 0, .nsl, .isl 4 m fun r k => atL (hI F r).cells k]] (il .u8 E))
    (c3 : Pure Tryz.prog gl0 97 [.str s, il .u8 E] (.agg (u8c T))) : Pure Tryz.prog gl0 47 [.str s, hsN n F] (.agg (u8c T)) := by
  have c1 := rbytes31_c
  refine pure_sk (own := ow0) Tryz.func47 (by kernel_rfl) mixed (by kernel_rfl)
    (.loop ({ x : Nat // x ≤ n }) (fun (x : { x : Nat // x ≤ n }) => mkSt [0, 1, 4, 5, 6] [AV.str s, AV.isl (32) n fun (i j : Nat) => Zb (F i j), AV.own (0) (32) (0) (0) (32), AV.own (1) (4) (0) (0) (4), Zi (↑(Subtype.val x) : Int)] [some { es := 32, n := 1, mu := true, f := Rep.lst [[Zb 0, Zb 0, Zb 0, Zb 0, Zb 0, Zb 0, Zb 0, Zb 0, Zb 0, Zb 0, Zb 0, Zb 0, Zb 0, Zb 0, Zb 0, Zb 0, Zb 0, Zb 0, Zb 0, Zb 0, Zb 0, Zb 0, Zb 0, Zb 0, Zb 0, Zb 0, Zb 0, Zb 0, Zb 0, Zb 0, Zb 0, Zb 0]] }, some { es := (4 : Nat), n := (1 : Nat), mu := true, f := Rep.lst [[Zi 3, Zi 0, AV.nsl, AV.osl (2 : Nat) (4 : Nat) (0 : Nat) (Subtype.val x)]] }, some { es := (4 : Nat), n := Subtype.val x, mu := true, f := Rep.row fun (i : Nat) => It.cells (hI F i) }]) (fun (x : { x : Nat // x ≤ n }) => n - Subtype.val x) (⟨(0 : Nat), Nat.zero_le n⟩) ([0, 1, 4, 5, 6]) ([0, 16, 1066]) ([AV.str s, AV.isl (32) n fun (i j : Nat) => Zb (F i j), AV.own (0) (32) (0) (0) (32), AV.own (1) (4) (0) (0) (4), Zi 0]) ([some { es := 32, n := 1, mu := true, f := Rep.lst [[Zb 0, Zb 0, Zb 0, Zb 0, Zb 0, Zb 0, Zb 0, Zb 0, Zb 0, Zb 0, Zb 0, Zb 0, Zb 0, Zb 0, Zb 0, Zb 0, Zb 0, Zb 0, Zb 0, Zb 0, Zb 0, Zb 0, Zb 0, Zb 0, Zb 0, Zb 0, Zb 0, Zb 0, Zb 0, Zb 0, Zb 0, Zb 0]] }, some { es := 4, n := 1, mu := true, f := Rep.lst [[Zi 3, Zi 0, AV.nsl, AV.nsl]] }, some { es := 4, n := 0, mu := true, f := Rep.lst [] }]) (fun x0 => (.br (decide ((↑x0.1 : Int) < (↑n : Int))) (.req ((0 : Int) ≤ (↑x0.1 : Int) ∧ (↑x0.1 : Int) < (↑n : Int)) (.dc (true) 96 ([AV.agg (u8c (F (Int.toNat (↑x0.1 : Int))))]) (It.av (It.byt (32 : Nat) (F (Int.toNat (↑x0.1 : Int))))) (.req ((x0.1 + 1) * 64 ≤ 140737488355328) (.again (Again (0) (fun (x : { x : Nat // x ≤ n }) => mkSt [0, 1, 4, 5, 6] [AV.str s, AV.isl (32) n fun (i j : Nat) => Zb (F i j), AV.own (0) (32) (0) (0) (32), AV.own (1) (4) (0) (0) (4), Zi (↑(Subtype.val x) : Int)] [some { es := 32, n := 1, mu := true, f := Rep.lst [[Zb 0, Zb 0, Zb 0, Zb 0, Zb 0, Zb 0, Zb 0, Zb 0, Zb 0, Zb 0, Zb 0, Zb 0, Zb 0, Zb 0, Zb 0, Zb 0, Zb 0, Zb 0, Zb 0, Zb 0, Zb 0, Zb 0, Zb 0, Zb 0, Zb 0, Zb 0, Zb 0, Zb 0, Zb 0, Zb 0, Zb 0, Zb 0]] }, some { es := (4 : Nat), n := (1 : Nat), mu := true, f := Rep.lst [[Zi 3, Zi 0, AV.nsl, AV.osl (2 : Nat) (4 : Nat) (0 : Nat) (Subtype.val x)]] }, some { es := (4 : Nat), n := Subtype.val x, mu := true, f := Rep.row fun (i : Nat) => It.cells (hI F i) }]) (fun (x : { x : Nat // x ≤ n }) => n - Subtype.val x) x0) ([0, 1, 4, 5, 6]) ([0, 1, 99]) ([AV.str s, AV.isl (32) n fun (i j : Nat) => Zb (F i j), AV.own (0) (32) (0) (0) (32), AV.own (1) (4) (0) (0) (4), Zi (IntKind.wrap IntKind.i64 ((↑x0.1 : Int) + (1 : Int)))]) ([some { es := 32, n := 1, mu := true, f := Rep.lst [[Zb 0, Zb 0, Zb 0, Zb 0, Zb 0, Zb 0, Zb 0, Zb 0, Zb 0, Zb 0, Zb 0, Zb 0, Zb 0, Zb 0, Zb 0, Zb 0, Zb 0, Zb 0, Zb 0, Zb 0, Zb 0, Zb 0, Zb 0, Zb 0, Zb 0, Zb 0, Zb 0, Zb 0, Zb 0, Zb 0, Zb 0, Zb 0]] }, some { es := 4, n := 1, mu := true, f := Rep.lst [[Zi 3, Zi 0, AV.nsl, AV.osl (2) (4) (0) (x0.1 + 1)]] }, some { es := 4, n := x0.1 + 1, mu := true, f := Rep.cat x0.1 (Rep.row fun (i : Nat) => [Zi (It.kind (hI F i)), Zi (It.num (hI F i)), AV.isl (1) (32) fun (i_1 x : Nat) => Zb (It.fb (hI F i) i_1), AV.isl (4) (0) (It.row (hI F i))]) (Rep.lst [[Zi (It.kind (It.byt (32 : Nat) (F (Int.toNat (↑x0.1 : Int))))), Zi (It.num (It.byt (32 : Nat) (F (Int.toNat (↑x0.1 : Int))))), AV.isl (1) (32) fun (i x : Nat) => Zb (It.fb (It.byt (32) (F (Int.toNat (↑x0.1 : Int)))) i), AV.isl (4) (0) (It.row (It.byt (32) (F (Int.toNat (↑x0.1 : Int)))))]]) }]))))) (.dc (true) 98 ([AV.agg [Zi 3, Zi 0, AV.nsl, AV.isl (4) x0.1 fun (r k : Nat) => atL [Zi (It.kind (hI F (r + 0))), Zi (It.num (hI F (r + 0))), AV.isl (1) (32) fun (i x : Nat) => Zb (It.fb (hI F (r + 0)) i), AV.isl (4) (0) (It.row (hI F (r + 0)))] k]]) (il IntKind.u8 E) (.sc (true) 97 ([AV.str s, AV.isl (1) (List.length E) fun (i x : Nat) => Zb (List.getD E i (0 : Int))]) (AV.agg (u8c T)) (.out (AV.agg (u8c T)) [] (AV.agg (u8c T)) []))))))
    (by kernel_rfl) ?_
  --LOOPINFO kept [0, 1, 4, 5] changed [6] objects [0, 16, 1066]
  --LOOPINFO   obj 0: some { es := 32, n := 1, mu := true, f := Rep.lst [[Zb 0, Zb 0, Zb 0, Zb 0, Zb 0, Zb 0, Zb 0, Zb 0, Zb 0, Zb 0, Zb 0, Zb 0, Zb 0, Zb 0, Zb 0, Zb 0, Zb 0, Zb 0, Zb 0, Zb 0, Zb 0, Zb 0, Zb 0, Zb 0, Zb 0, Zb 0, Zb 0, Zb 0, Zb 0, Zb 0, Zb 0, Zb 0]] }
  refine k_loop (fun _ hs => hs.le (by repeat' (first | exact trivial | (first | exact Ent.refl _ | exact inc_ent (by omega) | exact Ent.nil rfl | exact Ent.of_eq (congrArg (AV.osl _ _ _) (by first | omega | (dsimp only; omega))) | exact Ent.of_eq (congrArg (AV.int _) (by first | omega | (dsimp only; omega)))) | refine And.intro ?_ ?_)) (by repeat' (first | exact trivial | (first | exact ObEnt.refl _ | exact ObEnt.junk | exact ObEnt.zero | exact ObEnt.push rfl rfl | exact ObEnt.pushRow rfl | exact ObEnt.len (by omega) | exact ObEnt.row (by repeat' (first | exact trivial | (first | exact Ent.refl _ | exact inc_ent (by omega) | exact Ent.nil rfl | exact Ent.of_eq (congrArg (AV.osl _ _ _) (by first | omega | (dsimp only; omega))) | exact Ent.of_eq (congrArg (AV.int _) (by first | omega | (dsimp only; omega)))) | refine And.intro ?_ ?_))) | refine And.intro ?_ ?_))) (fun x0 => ?_)
  try (have q0 := x0.2; dsimp only at q0)
  refine k_br (fun h1 => ?_) (fun h1 => ?_)
  · have g1 := cnd_dec_t h1
    refine k_req (by first | omega | (simp only [Int.toNat_natCast]; omega)) ?_
    refine k_dc (c1 (F (Int.toNat (↑x0.1 : Int)))) ?_
    refine k_req (by first | omega | (simp only [Int.toNat_natCast]; omega)) ?_
    exact k_again (⟨x0.1 + 1, by omega⟩) (fun _ hs => hs.le (by repeat' (first | exact trivial | (first | exact Ent.refl _ | exact inc_ent (by omega) | exact Ent.nil rfl | exact Ent.of_eq (congrArg (AV.osl _ _ _) (by first | omega | (dsimp only; omega))) | exact Ent.of_eq (congrArg (AV.int _) (by first | omega | (dsimp only; omega)))) | refine And.intro ?_ ?_)) (⟨by first | exact ObEnt.refl _ | exact ObEnt.junk | exact ObEnt.zero | exact ObEnt.push rfl rfl | exact ObEnt.pushRow rfl | exact ObEnt.len (by omega) | exact ObEnt.row (by repeat' (first | exact trivial | (first | exact Ent.refl _ | exact inc_ent (by omega) | exact Ent.nil rfl | exact Ent.of_eq (congrArg (AV.osl _ _ _) (by first | omega | (dsimp only; omega))) | exact Ent.of_eq (congrArg (AV.int _) (by first | omega | (dsimp only; omega)))) | refine And.intro ?_ ?_)), by first | exact ObEnt.refl _ | exact ObEnt.junk | exact ObEnt.zero | exact ObEnt.push rfl rfl | exact ObEnt.pushRow rfl | exact ObEnt.len (by omega) | exact ObEnt.row (by repeat' (first | exact trivial | (first | exact Ent.refl _ | exact inc_ent (by omega) | exact Ent.nil rfl | exact Ent.of_eq (congrArg (AV.osl _ _ _) (by first | omega | (dsimp only; omega))) | exact Ent.of_eq (congrArg (AV.int _) (by first | omega | (dsimp only; omega)))) | refine And.intro ?_ ?_)), hash_push2 rfl (EntL.refl _), trivial⟩)) (by first | omega | (dsimp only; omega) | (simp; omega))
  · have g1 := cnd_dec_f h1
    refine k_dc (c2 (x0.1) (by first | assumption | omega)) ?_
    refine k_sc (c3) ?_
    exact k_out (Ent.of_eq (by first | rfl | simp_all))

theorem ctagged_c (s : ByteArray) (h1 : 1 ≤ s.size) (h2 : s.size ≤ 100) (n : Nat) (F : Nat → Nat → Int) (hn : n ≤ 400) (hb : ∀ i, i < n → byB (F i) 32) : Pure Tryz.prog gl0 89 [.str s, hsN n F] (.agg (u8c (tagI s (hashI n F)))) :=
  ctagged_w s n F (hashI n F).enc _ hn (fun m hm => (encode_c (hashI n F) (hash_ok (by omega)) (by rw [hash_len]; omega)).via (hash_arg hm))
    (tagged_c s h2 h1 (fun i => (hashI n F).enc.getD i 0) (hashI n F).enc.length (by rw [hash_len]; omega) (It.enc_by (hash_okB hb)))

theorem rctagged_c (s : ByteArray) (h2 : s.size ≤ 100) (n : Nat) (F : Nat → Nat → Int) (hn : n ≤ 400) (hb : ∀ i, i < n → byB (F i) 32) : Pure Tryz.prog gl0 47 [.str s, hsN n F] (.agg (u8c (tagI s (hashI n F)))) :=
  rctagged_w s n F (hashI n F).enc _ hn (fun m hm => (renc_c (hashI n F) (by rw [hash_len]; omega)).via (hash_arg hm))
    (rtagged_c s h2 (fun i => (hashI n F).enc.getD i 0) (hashI n F).enc.length (by rw [hash_len]; omega) (It.enc_by (hash_okB hb)))

end Go.Proofs.YtmhipmiacghgeaaGreatDoor

namespace Go.Proofs.YtmhipmiacghgeaaGreatDoor
open Go Go.Am Go.Sp
set_option maxRecDepth 100000

theorem ctag2 (c : Coin) (h : Nat → Int) (hh : byB h 32) : Pure Tryz.prog gl0 89 [.str "specie/chain-next".toUTF8, .isl 32 2 fun r k => atL (List.getD [u8c c.dig, u8c h] r []) k] (.agg (u8c (nameF c h))) :=
  (ctagged_c "specie/chain-next".toUTF8 (by decide) (by decide) 2 (two c.dig h) (by decide) (two_by c.dig_by hh)).via ⟨Ent.refl _, two_rows, trivial⟩

theorem rctag2 (c : Coin) (h : Nat → Int) (hh : byB h 32) : Pure Tryz.prog gl0 47 [.str "specie/chain-next".toUTF8, .isl 32 2 fun r k => atL (List.getD [u8c c.dig, u8c h] r []) k] (.agg (u8c (nameF c h))) :=
  (rctagged_c "specie/chain-next".toUTF8 (by decide) 2 (two c.dig h) (by decide) (two_by c.dig_by hh)).via ⟨Ent.refl _, two_rows, trivial⟩

theorem ctagS (S : Nat → Spend) (n : Nat) (hn : n ≤ 400) (m : Nat) (hm : m = n) : Pure Tryz.prog gl0 89 [.str "specie/chain".toUTF8, .isl 32 m fun r k => atL (u8c (S r).dig) k] (.agg (u8c (tagI "specie/chain".toUTF8 (hashI n fun i => (S i).dig)))) :=
  (ctagged_c "specie/chain".toUTF8 (by decide) (by decide) n (fun i => (S i).dig) hn (fun i _ => Spend.dig_by _)).via ⟨Ent.refl _, u8_rows hm, trivial⟩

theorem rctagS (S : Nat → Spend) (n : Nat) (hn : n ≤ 400) (m : Nat) (hm : m = n) : Pure Tryz.prog gl0 47 [.str "specie/chain".toUTF8, .isl 32 m fun r k => atL (u8c (S r).dig) k] (.agg (u8c (tagI "specie/chain".toUTF8 (hashI n fun i => (S i).dig)))) :=
  (rctagged_c "specie/chain".toUTF8 (by decide) n (fun i => (S i).dig) hn (fun i _ => Spend.dig_by _)).via ⟨Ent.refl _, u8_rows hm, trivial⟩

theorem name_c (c : Coin) (h : Nat → Int) (hr : byB c.root 32) (hh : byB h 32) : Pure Tryz.prog gl0 37 [c.av, .agg (u8c h)] (.agg (u8c (nameF c h))) := by
  have c1 := cdig_c c hr
  have c2 := ctag2 c h hh
  refine pure_sk (own := ow0) Tryz.func37 (by kernel_rfl) mixed (by kernel_rfl)
    (.sc (true) 90 ([AV.agg (Coin.cells c)]) (AV.agg (u8c (Coin.dig c))) (.sc (true) 89 ([AV.str { data := #[(115 : UInt8), (112 : UInt8), (101 : UInt8), (99 : UInt8), (105 : UInt8), (101 : UInt8), (47 : UInt8), (99 : UInt8), (104 : UInt8), (97 : UInt8), (105 : UInt8), (110 : UInt8), (45 : UInt8), (110 : UInt8), (101 : UInt8), (120 : UInt8), (116 : UInt8)] }, AV.isl (32) (2) fun (r k : Nat) => atL (List.getD [u8c (Coin.dig c), u8c h] (r + 0) []) k]) (AV.agg (u8c (nameF c h))) (.out (AV.agg (u8c (nameF c h))) [] (AV.agg (u8c (nameF c h))) [])))
    (by kernel_rfl) ?_
  refine k_sc (c1) ?_
  refine k_sc (c2) ?_
  exact k_out (Ent.refl _)

theorem rname_c (c : Coin) (h : Nat → Int) (hr : byB c.root 32) (hh : byB h 32) : Pure Tryz.prog gl0 16 [c.av, .agg (u8c h)] (.agg (u8c (nameF c h))) := by
  have c1 := rcdig_c c hr
  have c2 := rctag2 c h hh
  refine pure_sk (own := ow0) Tryz.func16 (by kernel_rfl) mixed (by kernel_rfl)
    (.sc (true) 48 ([AV.agg (Coin.cells c)]) (AV.agg (u8c (Coin.dig c))) (.sc (true) 47 ([AV.str { data := #[(115 : UInt8), (112 : UInt8), (101 : UInt8), (99 : UInt8), (105 : UInt8), (101 : UInt8), (47 : UInt8), (99 : UInt8), (104 : UInt8), (97 : UInt8), (105 : UInt8), (110 : UInt8), (45 : UInt8), (110 : UInt8), (101 : UInt8), (120 : UInt8), (116 : UInt8)] }, AV.isl (32) (2) fun (r k : Nat) => atL (List.getD [u8c (Coin.dig c), u8c h] (r + 0) []) k]) (AV.agg (u8c (nameF c h))) (.out (AV.agg (u8c (nameF c h))) [] (AV.agg (u8c (nameF c h))) [])))
    (by kernel_rfl) ?_
  refine k_sc (c1) ?_
  refine k_sc (c2) ?_
  exact k_out (Ent.refl _)

theorem digestOf_c (S : Nat → Spend) (n : Nat) (hn : n ≤ 400) (hs : ∀ i, i < n → (S i).Sm) : Pure Tryz.prog gl0 38 [.isl 80 n fun i j => atL (S i).cells j] (.agg (u8c (chainF S n))) := by
  have c1 := fun i h => sdig_c (S i) (hs i h)
  have c2 := ctagS S n hn
  refine pure_sk (own := ow0) Tryz.func38 (by kernel_rfl) mixed (by kernel_rfl)
    (.br ((↑n : Int) == (0 : Int)) (.out (AV.agg [Zb 0, Zb 0, Zb 0, Zb 0, Zb 0, Zb 0, Zb 0, Zb 0, Zb 0, Zb 0, Zb 0, Zb 0, Zb 0, Zb 0, Zb 0, Zb 0, Zb 0, Zb 0, Zb 0, Zb 0, Zb 0, Zb 0, Zb 0, Zb 0, Zb 0, Zb 0, Zb 0, Zb 0, Zb 0, Zb 0, Zb 0, Zb 0]) [] (AV.agg (u8c (chainF S n))) []) (.loop ({ x : Nat // x ≤ n }) (fun (x : { x : Nat // x ≤ n }) => mkSt [2, 10, 11, 12, 3] [AV.own (0) (32) (0) (0) (32), AV.isl (80) n fun (i j : Nat) => atL (Spend.cells (S i)) j, Zi (↑n : Int), Zi (↑(Subtype.val x) : Int), AV.osl (2 : Nat) (32 : Nat) (0 : Nat) (Subtype.val x)] [some { es := 32, n := 1, mu := true, f := Rep.lst [[Zb 0, Zb 0, Zb 0, Zb 0, Zb 0, Zb 0, Zb 0, Zb 0, Zb 0, Zb 0, Zb 0, Zb 0, Zb 0, Zb 0, Zb 0, Zb 0, Zb 0, Zb 0, Zb 0, Zb 0, Zb 0, Zb 0, Zb 0, Zb 0, Zb 0, Zb 0, Zb 0, Zb 0, Zb 0, Zb 0, Zb 0, Zb 0]] }, none, some { es := (32 : Nat), n := Subtype.val x, mu := true, f := Rep.row fun (i : Nat) => u8c (Spend.dig (S i)) }]) (fun (x : { x : Nat // x ≤ n }) => n - Subtype.val x) (⟨(0 : Nat), Nat.zero_le n⟩) ([2, 10, 11, 12, 3]) ([0, 65, 8258]) ([AV.own (0) (32) (0) (0) (32), AV.isl (80) n fun (i j : Nat) => atL (Spend.cells (S i)) j, Zi (↑n : Int), Zi 0, AV.nsl]) ([some { es := 32, n := 1, mu := true, f := Rep.lst [[Zb 0, Zb 0, Zb 0, Zb 0, Zb 0, Zb 0, Zb 0, Zb 0, Zb 0, Zb 0, Zb 0, Zb 0, Zb 0, Zb 0, Zb 0, Zb 0, Zb 0, Zb 0, Zb 0, Zb 0, Zb 0, Zb 0, Zb 0, Zb 0, Zb 0, Zb 0, Zb 0, Zb 0, Zb 0, Zb 0, Zb 0, Zb 0]] }, none, some { es := 32, n := 0, mu := true, f := Rep.lst [] }]) (fun x2 => (.br (decide ((↑x2.1 : Int) < (↑n : Int))) (.req ((0 : Int) ≤ (↑x2.1 : Int) ∧ (↑x2.1 : Int) < (↑n : Int)) (.sc (true) 91 ([AV.agg (Spend.cells (S (Int.toNat (↑(Subtype.val x2) : Int))))]) (AV.agg (u8c (Spend.dig (S (Int.toNat (↑(Subtype.val x2) : Int)))))) (.req ((x2.1 + 1) * 32 ≤ 140737488355328) (.again (Again (0) (fun (x : { x : Nat // x ≤ n }) => mkSt [2, 10, 11, 12, 3] [AV.own (0) (32) (0) (0) (32), AV.isl (80) n fun (i j : Nat) => atL (Spend.cells (S i)) j, Zi (↑n : Int), Zi (↑(Subtype.val x) : Int), AV.osl (2 : Nat) (32 : Nat) (0 : Nat) (Subtype.val x)] [some { es := 32, n := 1, mu := true, f := Rep.lst [[Zb 0, Zb 0, Zb 0, Zb 0, Zb 0, Zb 0, Zb 0, Zb 0, Zb 0, Zb 0, Zb 0, Zb 0, Zb 0, Zb 0, Zb 0, Zb 0, Zb 0, Zb 0, Zb 0, Zb 0, Zb 0, Zb 0, Zb 0, Zb 0, Zb 0, Zb 0, Zb 0, Zb 0, Zb 0, Zb 0, Zb 0, Zb 0]] }, none, some { es := (32 : Nat), n := Subtype.val x, mu := true, f := Rep.row fun (i : Nat) => u8c (Spend.dig (S i)) }]) (fun (x : { x : Nat // x ≤ n }) => n - Subtype.val x) x2) ([2, 10, 11, 12, 3]) ([0, 108, 75]) ([AV.own (0) (32) (0) (0) (32), AV.isl (80) n fun (i j : Nat) => atL (Spend.cells (S i)) j, Zi (↑n : Int), Zi (IntKind.wrap IntKind.i64 ((↑x2.1 : Int) + (1 : Int))), AV.osl (2) (32) (0) (x2.1 + 1)]) ([some { es := 32, n := 1, mu := true, f := Rep.lst [[Zb 0, Zb 0, Zb 0, Zb 0, Zb 0, Zb 0, Zb 0, Zb 0, Zb 0, Zb 0, Zb 0, Zb 0, Zb 0, Zb 0, Zb 0, Zb 0, Zb 0, Zb 0, Zb 0, Zb 0, Zb 0, Zb 0, Zb 0, Zb 0, Zb 0, Zb 0, Zb 0, Zb 0, Zb 0, Zb 0, Zb 0, Zb 0]] }, none, some { es := 32, n := x2.1 + 1, mu := true, f := Rep.cat x2.1 (Rep.row fun (i : Nat) => u8c (Spend.dig (S i))) (Rep.lst [u8c (Spend.dig (S (Int.toNat (↑(Subtype.val x2) : Int))))]) }]))))) (.sc (true) 89 ([AV.str { data := #[(115 : UInt8), (112 : UInt8), (101 : UInt8), (99 : UInt8), (105 : UInt8), (101 : UInt8), (47 : UInt8), (99 : UInt8), (104 : UInt8), (97 : UInt8), (105 : UInt8), (110 : UInt8)] }, AV.isl (32) x2.1 fun (r k : Nat) => atL (u8c (Spend.dig (S (r + 0)))) k]) (AV.agg (u8c (tagI (String.toUTF8 "specie/chain") (hashI n fun (i : Nat) => Spend.dig (S i))))) (.out (AV.agg (u8c (tagI (String.toUTF8 "specie/chain") (hashI n fun (i : Nat) => Spend.dig (S i))))) [] (AV.agg (u8c (chainF S n))) []))))))
    (by kernel_rfl) ?_
  refine k_br (fun h0 => ?_) (fun h0 => ?_)
  · have g0 := cnd_beq_t h0
    exact k_out (Ent.of_eq (congrArg AV.agg (by rw [chainF_0 (by omega)]; rfl)))
  · have g0 := cnd_beq_f h0
    --LOOPINFO kept [2, 10, 11] changed [12, 3] objects [0, 65, 8258]
    --LOOPINFO   obj 0: some { es := 32, n := 1, mu := true, f := Rep.lst [[Zb 0, Zb 0, Zb 0, Zb 0, Zb 0, Zb 0, Zb 0, Zb 0, Zb 0, Zb 0, Zb 0, Zb 0, Zb 0, Zb 0, Zb 0, Zb 0, Zb 0, Zb 0, Zb 0, Zb 0, Zb 0, Zb 0, Zb 0, Zb 0, Zb 0, Zb 0, Zb 0, Zb 0, Zb 0, Zb 0, Zb 0, Zb 0]] }
    refine k_loop (fun _ hs => hs.le (by repeat' (first | exact trivial | (first | exact Ent.refl _ | exact inc_ent (by omega) | exact Ent.nil rfl | exact Ent.of_eq (congrArg (AV.osl _ _ _) (by first | omega | (dsimp only; omega))) | exact Ent.of_eq (congrArg (AV.int _) (by first | omega | (dsimp only; omega)))) | refine And.intro ?_ ?_)) (by repeat' (first | exact trivial | (first | exact ObEnt.refl _ | exact ObEnt.junk | exact ObEnt.zero | exact ObEnt.push rfl rfl | exact ObEnt.pushRow rfl | exact ObEnt.len (by omega) | exact ObEnt.row (by repeat' (first | exact trivial | (first | exact Ent.refl _ | exact inc_ent (by omega) | exact Ent.nil rfl | exact Ent.of_eq (congrArg (AV.osl _ _ _) (by first | omega | (dsimp only; omega))) | exact Ent.of_eq (congrArg (AV.int _) (by first | omega | (dsimp only; omega)))) | refine And.intro ?_ ?_))) | refine And.intro ?_ ?_))) (fun x2 => ?_)
    try (have q2 := x2.2; dsimp only at q2)
    refine k_br (fun h3 => ?_) (fun h3 => ?_)
    · have g3 := cnd_dec_t h3
      refine k_req (by first | omega | (simp only [Int.toNat_natCast]; omega)) ?_
      refine k_sc (c1 (Int.toNat (↑(Subtype.val x2) : Int)) (by first | assumption | omega)) ?_
      refine k_req (by first | omega | (simp only [Int.toNat_natCast]; omega)) ?_
      exact k_again (⟨x2.1 + 1, by omega⟩) (fun _ hs => hs.le (by repeat' (first | exact trivial | (first | exact Ent.refl _ | exact inc_ent (by omega) | exact Ent.nil rfl | exact Ent.of_eq (congrArg (AV.osl _ _ _) (by first | omega | (dsimp only; omega))) | exact Ent.of_eq (congrArg (AV.int _) (by first | omega | (dsimp only; omega)))) | refine And.intro ?_ ?_)) (by repeat' (first | exact trivial | (first | exact ObEnt.refl _ | exact ObEnt.junk | exact ObEnt.zero | exact ObEnt.push rfl rfl | exact ObEnt.pushRow rfl | exact ObEnt.len (by omega) | exact ObEnt.row (by repeat' (first | exact trivial | (first | exact Ent.refl _ | exact inc_ent (by omega) | exact Ent.nil rfl | exact Ent.of_eq (congrArg (AV.osl _ _ _) (by first | omega | (dsimp only; omega))) | exact Ent.of_eq (congrArg (AV.int _) (by first | omega | (dsimp only; omega)))) | refine And.intro ?_ ?_))) | refine And.intro ?_ ?_))) (by first | omega | (dsimp only; omega) | (simp; omega))
    · have g3 := cnd_dec_f h3
      refine k_sc (c2 (x2.1) (by first | assumption | omega)) ?_
      exact k_out (Ent.of_eq (congrArg AV.agg (by rw [chainF_1 (by omega)])))

theorem rdigests_c (S : Nat → Spend) (n : Nat) (hn : n ≤ 400) (hs : ∀ i, i < n → (S i).Sm) : Pure Tryz.prog gl0 40 [.isl 80 n fun i j => atL (S i).cells j] (.agg (u8c (chainF S n))) := by
  have c1 := fun i h => rsdig_c (S i) (hs i h)
  have c2 := rctagS S n hn
  refine pure_sk (own := ow0) Tryz.func40 (by kernel_rfl) mixed (by kernel_rfl)
    (.br ((↑n : Int) == (0 : Int)) (.out (AV.agg [Zb 0, Zb 0, Zb 0, Zb 0, Zb 0, Zb 0, Zb 0, Zb 0, Zb 0, Zb 0, Zb 0, Zb 0, Zb 0, Zb 0, Zb 0, Zb 0, Zb 0, Zb 0, Zb 0, Zb 0, Zb 0, Zb 0, Zb 0, Zb 0, Zb 0, Zb 0, Zb 0, Zb 0, Zb 0, Zb 0, Zb 0, Zb 0]) [] (AV.agg (u8c (chainF S n))) []) (.loop ({ x : Nat // x ≤ n }) (fun (x : { x : Nat // x ≤ n }) => mkSt [0, 2, 4, 3] [AV.isl (80) n fun (i j : Nat) => atL (Spend.cells (S i)) j, AV.own (0) (32) (0) (0) (32), Zi (↑(Subtype.val x) : Int), AV.osl (2 : Nat) (32 : Nat) (0 : Nat) (Subtype.val x)] [some { es := 32, n := 1, mu := true, f := Rep.lst [[Zb 0, Zb 0, Zb 0, Zb 0, Zb 0, Zb 0, Zb 0, Zb 0, Zb 0, Zb 0, Zb 0, Zb 0, Zb 0, Zb 0, Zb 0, Zb 0, Zb 0, Zb 0, Zb 0, Zb 0, Zb 0, Zb 0, Zb 0, Zb 0, Zb 0, Zb 0, Zb 0, Zb 0, Zb 0, Zb 0, Zb 0, Zb 0]] }, none, some { es := (32 : Nat), n := Subtype.val x, mu := true, f := Rep.row fun (i : Nat) => u8c (Spend.dig (S i)) }]) (fun (x : { x : Nat // x ≤ n }) => n - Subtype.val x) (⟨(0 : Nat), Nat.zero_le n⟩) ([0, 2, 4, 3]) ([0, 49, 8242]) ([AV.isl (80) n fun (i j : Nat) => atL (Spend.cells (S i)) j, AV.own (0) (32) (0) (0) (32), Zi 0, AV.nsl]) ([some { es := 32, n := 1, mu := true, f := Rep.lst [[Zb 0, Zb 0, Zb 0, Zb 0, Zb 0, Zb 0, Zb 0, Zb 0, Zb 0, Zb 0, Zb 0, Zb 0, Zb 0, Zb 0, Zb 0, Zb 0, Zb 0, Zb 0, Zb 0, Zb 0, Zb 0, Zb 0, Zb 0, Zb 0, Zb 0, Zb 0, Zb 0, Zb 0, Zb 0, Zb 0, Zb 0, Zb 0]] }, none, some { es := 32, n := 0, mu := true, f := Rep.lst [] }]) (fun x2 => (.br (decide ((↑x2.1 : Int) < (↑n : Int))) (.req ((0 : Int) ≤ (↑x2.1 : Int) ∧ (↑x2.1 : Int) < (↑n : Int)) (.sc (true) 92 ([AV.agg (Spend.cells (S (Int.toNat (↑(Subtype.val x2) : Int))))]) (AV.agg (u8c (Spend.dig (S (Int.toNat (↑(Subtype.val x2) : Int)))))) (.req ((x2.1 + 1) * 32 ≤ 140737488355328) (.again (Again (0) (fun (x : { x : Nat // x ≤ n }) => mkSt [0, 2, 4, 3] [AV.isl (80) n fun (i j : Nat) => atL (Spend.cells (S i)) j, AV.own (0) (32) (0) (0) (32), Zi (↑(Subtype.val x) : Int), AV.osl (2 : Nat) (32 : Nat) (0 : Nat) (Subtype.val x)] [some { es := 32, n := 1, mu := true, f := Rep.lst [[Zb 0, Zb 0, Zb 0, Zb 0, Zb 0, Zb 0, Zb 0, Zb 0, Zb 0, Zb 0, Zb 0, Zb 0, Zb 0, Zb 0, Zb 0, Zb 0, Zb 0, Zb 0, Zb 0, Zb 0, Zb 0, Zb 0, Zb 0, Zb 0, Zb 0, Zb 0, Zb 0, Zb 0, Zb 0, Zb 0, Zb 0, Zb 0]] }, none, some { es := (32 : Nat), n := Subtype.val x, mu := true, f := Rep.row fun (i : Nat) => u8c (Spend.dig (S i)) }]) (fun (x : { x : Nat // x ≤ n }) => n - Subtype.val x) x2) ([0, 2, 4, 3]) ([0, 132, 91]) ([AV.isl (80) n fun (i j : Nat) => atL (Spend.cells (S i)) j, AV.own (0) (32) (0) (0) (32), Zi (IntKind.wrap IntKind.i64 ((↑x2.1 : Int) + (1 : Int))), AV.osl (2) (32) (0) (x2.1 + 1)]) ([some { es := 32, n := 1, mu := true, f := Rep.lst [[Zb 0, Zb 0, Zb 0, Zb 0, Zb 0, Zb 0, Zb 0, Zb 0, Zb 0, Zb 0, Zb 0, Zb 0, Zb 0, Zb 0, Zb 0, Zb 0, Zb 0, Zb 0, Zb 0, Zb 0, Zb 0, Zb 0, Zb 0, Zb 0, Zb 0, Zb 0, Zb 0, Zb 0, Zb 0, Zb 0, Zb 0, Zb 0]] }, none, some { es := 32, n := x2.1 + 1, mu := true, f := Rep.cat x2.1 (Rep.row fun (i : Nat) => u8c (Spend.dig (S i))) (Rep.lst [u8c (Spend.dig (S (Int.toNat (↑(Subtype.val x2) : Int))))]) }]))))) (.sc (true) 47 ([AV.str { data := #[(115 : UInt8), (112 : UInt8), (101 : UInt8), (99 : UInt8), (105 : UInt8), (101 : UInt8), (47 : UInt8), (99 : UInt8), (104 : UInt8), (97 : UInt8), (105 : UInt8), (110 : UInt8)] }, AV.isl (32) x2.1 fun (r k : Nat) => atL (u8c (Spend.dig (S (r + 0)))) k]) (AV.agg (u8c (tagI (String.toUTF8 "specie/chain") (hashI n fun (i : Nat) => Spend.dig (S i))))) (.out (AV.agg (u8c (tagI (String.toUTF8 "specie/chain") (hashI n fun (i : Nat) => Spend.dig (S i))))) [] (AV.agg (u8c (chainF S n))) []))))))
    (by kernel_rfl) ?_
  refine k_br (fun h0 => ?_) (fun h0 => ?_)
  · have g0 := cnd_beq_t h0
    exact k_out (Ent.of_eq (congrArg AV.agg (by rw [chainF_0 (by omega)]; rfl)))
  · have g0 := cnd_beq_f h0
    --LOOPINFO kept [0, 2] changed [4, 3] objects [0, 49, 8242]
    --LOOPINFO   obj 0: some { es := 32, n := 1, mu := true, f := Rep.lst [[Zb 0, Zb 0, Zb 0, Zb 0, Zb 0, Zb 0, Zb 0, Zb 0, Zb 0, Zb 0, Zb 0, Zb 0, Zb 0, Zb 0, Zb 0, Zb 0, Zb 0, Zb 0, Zb 0, Zb 0, Zb 0, Zb 0, Zb 0, Zb 0, Zb 0, Zb 0, Zb 0, Zb 0, Zb 0, Zb 0, Zb 0, Zb 0]] }
    refine k_loop (fun _ hs => hs.le (by repeat' (first | exact trivial | (first | exact Ent.refl _ | exact inc_ent (by omega) | exact Ent.nil rfl | exact Ent.of_eq (congrArg (AV.osl _ _ _) (by first | omega | (dsimp only; omega))) | exact Ent.of_eq (congrArg (AV.int _) (by first | omega | (dsimp only; omega)))) | refine And.intro ?_ ?_)) (by repeat' (first | exact trivial | (first | exact ObEnt.refl _ | exact ObEnt.junk | exact ObEnt.zero | exact ObEnt.push rfl rfl | exact ObEnt.pushRow rfl | exact ObEnt.len (by omega) | exact ObEnt.row (by repeat' (first | exact trivial | (first | exact Ent.refl _ | exact inc_ent (by omega) | exact Ent.nil rfl | exact Ent.of_eq (congrArg (AV.osl _ _ _) (by first | omega | (dsimp only; omega))) | exact Ent.of_eq (congrArg (AV.int _) (by first | omega | (dsimp only; omega)))) | refine And.intro ?_ ?_))) | refine And.intro ?_ ?_))) (fun x2 => ?_)
    try (have q2 := x2.2; dsimp only at q2)
    refine k_br (fun h3 => ?_) (fun h3 => ?_)
    · have g3 := cnd_dec_t h3
      refine k_req (by first | omega | (simp only [Int.toNat_natCast]; omega)) ?_
      refine k_sc (c1 (Int.toNat (↑(Subtype.val x2) : Int)) (by first | assumption | omega)) ?_
      refine k_req (by first | omega | (simp only [Int.toNat_natCast]; omega)) ?_
      exact k_again (⟨x2.1 + 1, by omega⟩) (fun _ hs => hs.le (by repeat' (first | exact trivial | (first | exact Ent.refl _ | exact inc_ent (by omega) | exact Ent.nil rfl | exact Ent.of_eq (congrArg (AV.osl _ _ _) (by first | omega | (dsimp only; omega))) | exact Ent.of_eq (congrArg (AV.int _) (by first | omega | (dsimp only; omega)))) | refine And.intro ?_ ?_)) (by repeat' (first | exact trivial | (first | exact ObEnt.refl _ | exact ObEnt.junk | exact ObEnt.zero | exact ObEnt.push rfl rfl | exact ObEnt.pushRow rfl | exact ObEnt.len (by omega) | exact ObEnt.row (by repeat' (first | exact trivial | (first | exact Ent.refl _ | exact inc_ent (by omega) | exact Ent.nil rfl | exact Ent.of_eq (congrArg (AV.osl _ _ _) (by first | omega | (dsimp only; omega))) | exact Ent.of_eq (congrArg (AV.int _) (by first | omega | (dsimp only; omega)))) | refine And.intro ?_ ?_))) | refine And.intro ?_ ?_))) (by first | omega | (dsimp only; omega) | (simp; omega))
    · have g3 := cnd_dec_f h3
      refine k_sc (c2 (x2.1) (by first | assumption | omega)) ?_
      exact k_out (Ent.of_eq (congrArg AV.agg (by rw [chainF_1 (by omega)])))

theorem spends_c (h : Chn) (hn : h.n ≤ 1000) : Pure Tryz.prog gl0 39 [h.av] (.isl 80 (h.n + 1) fun i j => atL (chnS h i).cells j) := by
  refine pure_sk (own := ow0) Tryz.func39 (by kernel_rfl) mixed (by kernel_rfl)
    (.req ((1 + h.2) * 224 ≤ 140737488355328) (.out (AV.isl (80) (1 + h.2) fun (r k : Nat) => mixA (Nat.blt (r + 0) (1)) (atL (List.getD [Spend.cells (Chn.first h)] (r + 0) []) k) (atL (Spend.cells (Chn.l h (r + (0 : Nat) - (1 : Nat)))) k)) [] (AV.isl (80 : Nat) (Chn.n h + (1 : Nat)) fun (i j : Nat) => atL (Spend.cells (chnS h i)) j) []))
    (by kernel_rfl) ?_
  refine k_req (by first | omega | (simp only [Int.toNat_natCast]; omega)) ?_
  exact k_out (Ent.islN (by omega) (fun i j _ _ => spends_e i j))

theorem rspends_c (h : Chn) (hn : h.n ≤ 1000) : Pure Tryz.prog gl0 41 [h.av] (.isl 80 (h.n + 1) fun i j => atL (chnS h i).cells j) := by
  refine pure_sk (own := ow0) Tryz.func41 (by kernel_rfl) mixed (by kernel_rfl)
    (.req ((1 + h.2) * 224 ≤ 140737488355328) (.out (AV.isl (80) (1 + h.2) fun (r k : Nat) => mixA (Nat.blt (r + 0) (1)) (atL (List.getD [Spend.cells (Chn.first h)] (r + 0) []) k) (atL (Spend.cells (Chn.l h (r + (0 : Nat) - (1 : Nat)))) k)) [] (AV.isl (80 : Nat) (Chn.n h + (1 : Nat)) fun (i j : Nat) => atL (Spend.cells (chnS h i)) j) []))
    (by kernel_rfl) ?_
  refine k_req (by first | omega | (simp only [Int.toNat_natCast]; omega)) ?_
  exact k_out (Ent.islN (by omega) (fun i j _ _ => spends_e i j))

end Go.Proofs.YtmhipmiacghgeaaGreatDoor

namespace Go.Proofs.YtmhipmiacghgeaaGreatDoor
open Go Go.Am Go.Sp
set_option maxRecDepth 100000

theorem cdigest_c (h : Chn) (hn : h.n ≤ 300) (hs : ∀ i, i < h.n + 1 → (chnS h i).Sm) : Pure Tryz.prog gl0 10 [h.av] (.agg (u8c (chnD h))) := by
  have c1 := spends_c h (by omega)
  have c2 := digestOf_c (chnS h) (h.n + 1) (by omega) hs
  refine pure_sk (own := ow0) Tryz.func10 (by kernel_rfl) mixed (by kernel_rfl)
    (.br (decide ((↑h.2 : Int) > (8 : Int))) (.out (AV.agg [Zb 0, Zb 0, Zb 0, Zb 0, Zb 0, Zb 0, Zb 0, Zb 0, Zb 0, Zb 0, Zb 0, Zb 0, Zb 0, Zb 0, Zb 0, Zb 0, Zb 0, Zb 0, Zb 0, Zb 0, Zb 0, Zb 0, Zb 0, Zb 0, Zb 0, Zb 0, Zb 0, Zb 0, Zb 0, Zb 0, Zb 0, Zb 0]) [] (AV.agg (u8c (chnD h))) []) (.dc (true) 39 ([AV.agg (Chn.cells h)]) (AV.isl (80 : Nat) (Chn.n h + (1 : Nat)) fun (i j : Nat) => atL (Spend.cells (chnS h i)) j) (.sc (true) 38 ([AV.isl (80) (h.2 + 1) fun (i j : Nat) => atL (Spend.cells (chnS h i)) j]) (AV.agg (u8c (chainF (chnS h) (Chn.n h + (1 : Nat))))) (.out (AV.agg (u8c (chainF (chnS h) (h.2 + 1)))) [] (AV.agg (u8c (chnD h))) []))))
    (by kernel_rfl) ?_
  refine k_br (fun h0 => ?_) (fun h0 => ?_)
  · have g0 := cnd_dec_t h0
    exact k_out (Ent.of_eq (congrArg AV.agg (by rw [chnD_1 (by omega)]; rfl)))
  · have g0 := cnd_dec_f h0
    refine k_dc (c1) ?_
    refine k_sc (c2) ?_
    exact k_out (Ent.of_eq (congrArg AV.agg (by rw [chnD_0 (by omega)])))

theorem rcdigest_c (h : Chn) (hn : h.n ≤ 300) (hs : ∀ i, i < h.n + 1 → (chnS h i).Sm) : Pure Tryz.prog gl0 11 [h.av] (.agg (u8c (chnD h))) := by
  have c1 := rspends_c h (by omega)
  have c2 := rdigests_c (chnS h) (h.n + 1) (by omega) hs
  refine pure_sk (own := ow0) Tryz.func11 (by kernel_rfl) mixed (by kernel_rfl)
    (.br (decide ((↑h.2 : Int) > (8 : Int))) (.out (AV.agg [Zb 0, Zb 0, Zb 0, Zb 0, Zb 0, Zb 0, Zb 0, Zb 0, Zb 0, Zb 0, Zb 0, Zb 0, Zb 0, Zb 0, Zb 0, Zb 0, Zb 0, Zb 0, Zb 0, Zb 0, Zb 0, Zb 0, Zb 0, Zb 0, Zb 0, Zb 0, Zb 0, Zb 0, Zb 0, Zb 0, Zb 0, Zb 0]) [] (AV.agg (u8c (chnD h))) []) (.dc (true) 41 ([AV.agg (Chn.cells h)]) (AV.isl (80 : Nat) (Chn.n h + (1 : Nat)) fun (i j : Nat) => atL (Spend.cells (chnS h i)) j) (.sc (true) 40 ([AV.isl (80) (h.2 + 1) fun (i j : Nat) => atL (Spend.cells (chnS h i)) j]) (AV.agg (u8c (chainF (chnS h) (Chn.n h + (1 : Nat))))) (.out (AV.agg (u8c (chainF (chnS h) (h.2 + 1)))) [] (AV.agg (u8c (chnD h))) []))))
    (by kernel_rfl) ?_
  refine k_br (fun h0 => ?_) (fun h0 => ?_)
  · have g0 := cnd_dec_t h0
    exact k_out (Ent.of_eq (congrArg AV.agg (by rw [chnD_1 (by omega)]; rfl)))
  · have g0 := cnd_dec_f h0
    refine k_dc (c1) ?_
    refine k_sc (c2) ?_
    exact k_out (Ent.of_eq (congrArg AV.agg (by rw [chnD_0 (by omega)])))

theorem instant_c (t : Int) : Pure Tryz.prog gl0 36 [.int .i64 t] (.bool (decide (t ≥ 0) && decide (t ≤ 1099511627776))) := by
  refine pure_sk (own := ow0) Tryz.func36 (by kernel_rfl) mixed (by kernel_rfl)
    (.out (AV.bool (decide (t ≥ (0 : Int)) && decide (t ≤ (1099511627776 : Int)))) [] (AV.bool (decide (t ≥ (0 : Int)) && decide (t ≤ (1099511627776 : Int)))) [])
    (by kernel_rfl) ?_
  exact k_out (Ent.refl _)

theorem ccontext_c (b : Bas) (c : Coin) (f : Nat → Int) (t n : Int) (hw : b.gr.W) (hr : byB c.root 32) (hf : byB f 32) : Pure Tryz.prog gl0 9 [b.av, c.av, .agg (u8c f), .int .i64 t, .int .i64 n] (.tup [(ccX b c f t n).av, .int .i64 (ccE b t n)]) := by
  have c1 := bvalid_c b hw
  have c2 := name_c c f hr hf
  refine pure_sk (own := ow0) Tryz.func9 (by kernel_rfl) mixed (by kernel_rfl)
    (.sc (true) 35 ([AV.agg (Bas.cells b)]) (AV.bool (validB b)) (.br (!validB b) (.out (AV.tup [AV.agg [Zb 0, Zb 0, Zb 0, Zb 0, Zb 0, Zb 0, Zb 0, Zb 0, Zb 0, Zb 0, Zb 0, Zb 0, Zb 0, Zb 0, Zb 0, Zb 0, Zb 0, Zb 0, Zb 0, Zb 0, Zb 0, Zb 0, Zb 0, Zb 0, Zb 0, Zb 0, Zb 0, Zb 0, Zb 0, Zb 0, Zb 0, Zb 0, Zi 0, Zi 0], Zi 1]) [] (AV.tup [Cxt.av (ccX b c f t n), Zi (ccE b t n)]) []) (.sc (true) 36 ([Zi t]) (AV.bool (decide (t ≥ (0 : Int)) && decide (t ≤ (1099511627776 : Int)))) (.br (!(decide (t ≥ (0 : Int)) && decide (t ≤ (1099511627776 : Int))) || decide (n < (0 : Int)) || decide (n > (1073741824 : Int))) (.out (AV.tup [AV.agg [Zb 0, Zb 0, Zb 0, Zb 0, Zb 0, Zb 0, Zb 0, Zb 0, Zb 0, Zb 0, Zb 0, Zb 0, Zb 0, Zb 0, Zb 0, Zb 0, Zb 0, Zb 0, Zb 0, Zb 0, Zb 0, Zb 0, Zb 0, Zb 0, Zb 0, Zb 0, Zb 0, Zb 0, Zb 0, Zb 0, Zb 0, Zb 0, Zi 0, Zi 0], Zi 2]) [] (AV.tup [Cxt.av (ccX b c f t n), Zi (ccE b t n)]) []) (.sc (true) 37 ([AV.agg (Coin.cells c), AV.agg (u8c f)]) (AV.agg (u8c (nameF c f))) (.out (AV.tup [AV.agg (u8c (nameF c f) ++ [Zi t, Zi n]), Zi 0]) [] (AV.tup [Cxt.av (ccX b c f t n), Zi (ccE b t n)]) []))))))
    (by kernel_rfl) ?_
  refine k_sc (c1) ?_
  refine k_br (fun h1 => ?_) (fun h1 => ?_)
  · have g1 := (cnd_not_t cnd_id_f) h1
    exact k_out (Ent.of_eq (by rw [(cc_1 g1).1, (cc_1 (c := c) (f := f) g1).2]; rfl))
  · have g1 := (cnd_not_f cnd_id_t) h1
    refine k_sc (instant_c (t)) ?_
    refine k_br (fun h4 => ?_) (fun h4 => ?_)
    · have g4 := (cnd_or_t (cnd_or_t (cnd_not_t (cnd_and_f cnd_dec_f cnd_dec_f)) cnd_dec_t) cnd_dec_t) h4
      exact k_out (Ent.of_eq (by rw [(cc_2 g1 (ctx_no2 (by omega))).1, (cc_2 (c := c) (f := f) g1 (ctx_no2 (by omega))).2]; rfl))
    · have g4 := (cnd_or_f (cnd_or_f (cnd_not_f (cnd_and_t cnd_dec_t cnd_dec_t)) cnd_dec_f) cnd_dec_f) h4
      refine k_sc (c2) ?_
      exact k_out (Ent.of_eq (by rw [(cc_0 g1 (ctx_yes2 (by omega))).1, (cc_0 (c := c) (f := f) g1 (ctx_yes2 (by omega))).2]; rfl))

theorem find1_r (r0 r1 r2 r3 r4 r5 r6 r7 r8 r9 r10 k e d : Int) : Pure Tryz.prog gl0 134 [.agg [.int .i64 r0, .int .i64 r1, .int .i64 r2, .int .i64 r3, .int .i64 r4, .int .i64 r5, .int .i64 r6, .int .i64 r7, .int .i64 r8, .int .i64 r9, .int .i64 r10], .ipt 1 (atL [.int .i64 k]), .ipt 1 (atL [.int .i64 e]), .ipt 1 (atL [.int .i64 d])] (.bool (r0 == k && r1 == e && r2 == d)) := by
  refine pure_sk (own := ow0) Tryz.func134 (by kernel_rfl) mixed (by kernel_rfl)
    (.out (AV.bool (r0 == k && r1 == e && r2 == d)) [] (AV.bool (r0 == k && r1 == e && r2 == d)) [])
    (by kernel_rfl) ?_
  exact k_out (Ent.refl _)

theorem indexR_c (R : Nat → Nat → Int) (n : Nat) (k e d : Int) (hn : n ≤ 1000) : Pure Tryz.prog gl0 133 [recs n R, .fn (.func 134) [] [.ipt 1 (atL [.int .i64 k]), .ipt 1 (atL [.int .i64 e]), .ipt 1 (atL [.int .i64 d])]] (.int .i64 (firstI (recB R k e d) n 0)) := by
  refine pure_sk (own := ow0) Tryz.func133 (by kernel_rfl) mixed (by kernel_rfl)
    (.loop ({ x : Nat // x ≤ n ∧ (fun (i : Nat) => firstI (recB R k e d) n (0 : Nat) = firstI (recB R k e d) (n - i) i) x }) (fun (x : { x : Nat // x ≤ n ∧ (fun (i : Nat) => firstI (recB R k e d) n (0 : Nat) = firstI (recB R k e d) (n - i) i) x }) => mkSt [0, 1, 7, 8] [AV.isl (11) n fun (i j : Nat) => Zi (R i j), AV.fn (Fn.func (134 : FuncId)) [] [AV.ipt (1) (atL [Zi k]), AV.ipt (1) (atL [Zi e]), AV.ipt (1) (atL [Zi d])], Zi (↑n : Int), Zi (↑(Subtype.val x) : Int)] []) (fun (x : { x : Nat // x ≤ n ∧ (fun (i : Nat) => firstI (recB R k e d) n (0 : Nat) = firstI (recB R k e d) (n - i) i) x }) => n - Subtype.val x) (⟨(0 : Nat), ⟨Nat.zero_le n, rfl⟩⟩) ([0, 1, 7, 8]) ([]) ([AV.isl (11) n fun (i j : Nat) => Zi (R i j), AV.fn (Fn.func (134 : FuncId)) [] [AV.ipt (1) (atL [Zi k]), AV.ipt (1) (atL [Zi e]), AV.ipt (1) (atL [Zi d])], Zi (↑n : Int), Zi 0]) ([]) (fun x0 => (.br (decide ((↑x0.1 : Int) < (↑n : Int))) (.req ((0 : Int) ≤ (↑x0.1 : Int) ∧ (↑x0.1 : Int) < (↑n : Int)) (.sc (true) 134 ([AV.agg [Zi (R (Int.toNat (↑x0.1 : Int)) (0)), Zi (R (Int.toNat (↑x0.1 : Int)) (1)), Zi (R (Int.toNat (↑x0.1 : Int)) (2)), Zi (R (Int.toNat (↑x0.1 : Int)) (3)), Zi (R (Int.toNat (↑x0.1 : Int)) (4)), Zi (R (Int.toNat (↑x0.1 : Int)) (5)), Zi (R (Int.toNat (↑x0.1 : Int)) (6)), Zi (R (Int.toNat (↑x0.1 : Int)) (7)), Zi (R (Int.toNat (↑x0.1 : Int)) (8)), Zi (R (Int.toNat (↑x0.1 : Int)) (9)), Zi (R (Int.toNat (↑x0.1 : Int)) (10))], AV.ipt (1) (atL [Zi k]), AV.ipt (1) (atL [Zi e]), AV.ipt (1) (atL [Zi d])]) (AV.bool (R (Int.toNat (↑x0.1 : Int)) (0) == k && R (Int.toNat (↑x0.1 : Int)) (1) == e && R (Int.toNat (↑x0.1 : Int)) (2) == d)) (.br (R (Int.toNat (↑x0.1 : Int)) (0) == k && R (Int.toNat (↑x0.1 : Int)) (1) == e && R (Int.toNat (↑x0.1 : Int)) (2) == d) (.out (Zi (↑x0.1 : Int)) [] (Zi (firstI (recB R k e d) n (0 : Nat))) []) (.again (Again (0) (fun (x : { x : Nat // x ≤ n ∧ (fun (i : Nat) => firstI (recB R k e d) n (0 : Nat) = firstI (recB R k e d) (n - i) i) x }) => mkSt [0, 1, 7, 8] [AV.isl (11) n fun (i j : Nat) => Zi (R i j), AV.fn (Fn.func (134 : FuncId)) [] [AV.ipt (1) (atL [Zi k]), AV.ipt (1) (atL [Zi e]), AV.ipt (1) (atL [Zi d])], Zi (↑n : Int), Zi (↑(Subtype.val x) : Int)] []) (fun (x : { x : Nat // x ≤ n ∧ (fun (i : Nat) => firstI (recB R k e d) n (0 : Nat) = firstI (recB R k e d) (n - i) i) x }) => n - Subtype.val x) x0) ([0, 1, 7, 8]) ([]) ([AV.isl (11) n fun (i j : Nat) => Zi (R i j), AV.fn (Fn.func (134 : FuncId)) [] [AV.ipt (1) (atL [Zi k]), AV.ipt (1) (atL [Zi e]), AV.ipt (1) (atL [Zi d])], Zi (↑n : Int), Zi (IntKind.wrap IntKind.i64 ((↑x0.1 : Int) + (1 : Int)))]) ([]))))) (.out (Zi (-1)) [] (Zi (firstI (recB R k e d) n (0 : Nat))) []))))
    (by kernel_rfl) ?_
  --LOOPINFO kept [0, 1, 7] changed [8] objects []
  refine k_loop (fun _ hs => hs.le (by repeat' (first | exact trivial | (first | exact Ent.refl _ | exact inc_ent (by omega) | exact Ent.nil rfl | exact Ent.of_eq (congrArg (AV.osl _ _ _) (by first | omega | (dsimp only; omega))) | exact Ent.of_eq (congrArg (AV.int _) (by first | omega | (dsimp only; omega)))) | refine And.intro ?_ ?_)) (trivial)) (fun x0 => ?_)
  try (have q0 := x0.2; dsimp only at q0)
  refine k_br (fun h1 => ?_) (fun h1 => ?_)
  · have g1 := cnd_dec_t h1
    refine k_req (by first | omega | (simp only [Int.toNat_natCast]; omega)) ?_
    refine k_sc (find1_r (R (Int.toNat (↑x0.1 : Int)) (0)) (R (Int.toNat (↑x0.1 : Int)) (1)) (R (Int.toNat (↑x0.1 : Int)) (2)) (R (Int.toNat (↑x0.1 : Int)) (3)) (R (Int.toNat (↑x0.1 : Int)) (4)) (R (Int.toNat (↑x0.1 : Int)) (5)) (R (Int.toNat (↑x0.1 : Int)) (6)) (R (Int.toNat (↑x0.1 : Int)) (7)) (R (Int.toNat (↑x0.1 : Int)) (8)) (R (Int.toNat (↑x0.1 : Int)) (9)) (R (Int.toNat (↑x0.1 : Int)) (10)) (k) (e) (d)) ?_
    refine k_br (fun h4 => ?_) (fun h4 => ?_)
    · have g4 := (cnd_and_t (cnd_and_t cnd_beq_t cnd_beq_t) cnd_beq_t) h4
      try simp only [Int.toNat_natCast] at g4
      exact k_out (Ent.of_eq (congrArg _ (first_hit x0.2.2 (by omega) h4)))
    · have g4 := (cnd_and_f (cnd_and_f cnd_beq_f cnd_beq_f) cnd_beq_f) h4
      try simp only [Int.toNat_natCast] at g4
      exact k_again (⟨x0.1 + 1, by omega, first_next x0.2.2 (by omega) h4⟩) (fun _ hs => hs.le (by repeat' (first | exact trivial | (first | exact Ent.refl _ | exact inc_ent (by omega) | exact Ent.nil rfl | exact Ent.of_eq (congrArg (AV.osl _ _ _) (by first | omega | (dsimp only; omega))) | exact Ent.of_eq (congrArg (AV.int _) (by first | omega | (dsimp only; omega)))) | refine And.intro ?_ ?_)) (trivial)) (by first | omega | (dsimp only; omega) | (simp; omega))
  · have g1 := cnd_dec_f h1
    exact k_out (Ent.of_eq (congrArg _ (first_miss x0.2.2 (by omega))))

theorem efind_c (R : Nat → Nat → Int) (n : Nat) (k e d : Int) (hn : n ≤ 1000) : Pure Tryz.prog gl0 93 [recs n R, .int .i64 k, .int .i64 e, .int .i64 d] (.int .i64 (firstI (recB R k e d) n 0)) := by
  have c1 := indexR_c R n k e d hn
  refine pure_sk (own := ow0) Tryz.func93 (by kernel_rfl) mixed (by kernel_rfl)
    (.sc (true) 133 ([AV.isl (11) n fun (i j : Nat) => Zi (R i j), AV.fn (Fn.func (134 : Nat)) [] [AV.ipt (1) fun (k_1 : Nat) => atL [Zi k] k_1, AV.ipt (1) fun (k : Nat) => atL [Zi e] k, AV.ipt (1) fun (k : Nat) => atL [Zi d] k]]) (Zi (firstI (recB R k e d) n (0 : Nat))) (.out (Zi (firstI (recB R k e d) n (0))) [] (Zi (firstI (recB R k e d) n (0 : Nat))) []))
    (by kernel_rfl) ?_
  refine k_sc (c1) ?_
  exact k_out (Ent.refl _)

theorem rfind_c (R : Nat → Nat → Int) (n : Nat) (k e d : Int) (hn : n ≤ 1000) : Pure Tryz.prog gl0 43 [recs n R, .int .i64 k, .int .i64 e, .int .i64 d] (.int .i64 (firstI (recB R k e d) n 0)) := by
  refine pure_sk (own := ow0) Tryz.func43 (by kernel_rfl) mixed (by kernel_rfl)
    (.loop ({ x : Nat // x ≤ n ∧ (fun (i : Nat) => firstI (recB R k e d) n (0 : Nat) = firstI (recB R k e d) (n - i) i) x }) (fun (x : { x : Nat // x ≤ n ∧ (fun (i : Nat) => firstI (recB R k e d) n (0 : Nat) = firstI (recB R k e d) (n - i) i) x }) => mkSt [0, 1, 2, 3, 9] [AV.isl (11) n fun (i j : Nat) => Zi (R i j), Zi k, Zi e, Zi d, Zi (↑(Subtype.val x) : Int)] []) (fun (x : { x : Nat // x ≤ n ∧ (fun (i : Nat) => firstI (recB R k e d) n (0 : Nat) = firstI (recB R k e d) (n - i) i) x }) => n - Subtype.val x) (⟨(0 : Nat), ⟨Nat.zero_le n, rfl⟩⟩) ([0, 1, 2, 3, 9]) ([]) ([AV.isl (11) n fun (i j : Nat) => Zi (R i j), Zi k, Zi e, Zi d, Zi 0]) ([]) (fun x0 => (.br (decide ((↑x0.1 : Int) < (↑n : Int))) (.req ((0 : Int) ≤ (↑x0.1 : Int) ∧ (↑x0.1 : Int) < (↑n : Int)) (.req (((R (Int.toNat (↑x0.1 : Int)) (0) == k) == true) = true → (0 : Int) ≤ (↑x0.1 : Int) ∧ (↑x0.1 : Int) < (↑n : Int)) (.req (((R (Int.toNat (↑x0.1 : Int)) (0) == k && R (Int.toNat (↑x0.1 : Int)) (1) == e) == true) = true → (0 : Int) ≤ (↑x0.1 : Int) ∧ (↑x0.1 : Int) < (↑n : Int)) (.br (R (Int.toNat (↑x0.1 : Int)) (0) == k && R (Int.toNat (↑x0.1 : Int)) (1) == e && R (Int.toNat (↑x0.1 : Int)) (2) == d) (.out (Zi (↑x0.1 : Int)) [] (Zi (firstI (recB R k e d) n (0 : Nat))) []) (.again (Again (0) (fun (x : { x : Nat // x ≤ n ∧ (fun (i : Nat) => firstI (recB R k e d) n (0 : Nat) = firstI (recB R k e d) (n - i) i) x }) => mkSt [0, 1, 2, 3, 9] [AV.isl (11) n fun (i j : Nat) => Zi (R i j), Zi k, Zi e, Zi d, Zi (↑(Subtype.val x) : Int)] []) (fun (x : { x : Nat // x ≤ n ∧ (fun (i : Nat) => firstI (recB R k e d) n (0 : Nat) = firstI (recB R k e d) (n - i) i) x }) => n - Subtype.val x) x0) ([0, 1, 2, 3, 9]) ([]) ([AV.isl (11) n fun (i j : Nat) => Zi (R i j), Zi k, Zi e, Zi d, Zi (IntKind.wrap IntKind.i64 ((↑x0.1 : Int) + (1 : Int)))]) ([])))))) (.out (Zi (-1)) [] (Zi (firstI (recB R k e d) n (0 : Nat))) []))))
    (by kernel_rfl) ?_
  --LOOPINFO kept [0, 1, 2, 3] changed [9] objects []
  refine k_loop (fun _ hs => hs.le (by repeat' (first | exact trivial | (first | exact Ent.refl _ | exact inc_ent (by omega) | exact Ent.nil rfl | exact Ent.of_eq (congrArg (AV.osl _ _ _) (by first | omega | (dsimp only; omega))) | exact Ent.of_eq (congrArg (AV.int _) (by first | omega | (dsimp only; omega)))) | refine And.intro ?_ ?_)) (trivial)) (fun x0 => ?_)
  try (have q0 := x0.2; dsimp only at q0)
  refine k_br (fun h1 => ?_) (fun h1 => ?_)
  · have g1 := cnd_dec_t h1
    refine k_req (by first | omega | (simp only [Int.toNat_natCast]; omega)) ?_
    refine k_req (fun _ => (by omega)) ?_
    refine k_req (fun _ => (by omega)) ?_
    refine k_br (fun h5 => ?_) (fun h5 => ?_)
    · have g5 := (cnd_and_t (cnd_and_t cnd_beq_t cnd_beq_t) cnd_beq_t) h5
      try simp only [Int.toNat_natCast] at g5
      exact k_out (Ent.of_eq (congrArg _ (first_hit x0.2.2 (by omega) (by have q := h5; simpa [recB] using q))))
    · have g5 := (cnd_and_f (cnd_and_f cnd_beq_f cnd_beq_f) cnd_beq_f) h5
      try simp only [Int.toNat_natCast] at g5
      exact k_again (⟨x0.1 + 1, by omega, first_next x0.2.2 (by omega) (by have q := h5; unfold recB; simpa using q)⟩) (fun _ hs => hs.le (by repeat' (first | exact trivial | (first | exact Ent.refl _ | exact inc_ent (by omega) | exact Ent.nil rfl | exact Ent.of_eq (congrArg (AV.osl _ _ _) (by first | omega | (dsimp only; omega))) | exact Ent.of_eq (congrArg (AV.int _) (by first | omega | (dsimp only; omega)))) | refine And.intro ?_ ?_)) (trivial)) (by first | omega | (dsimp only; omega) | (simp; omega))
  · have g1 := cnd_dec_f h1
    exact k_out (Ent.of_eq (congrArg _ (first_miss x0.2.2 (by omega))))

theorem amount_g (k0 k1 k2 v d k5 k6 k7 k8 k9 k10 : Int) (s : Spend) : Pure Tryz.prog gl0 14 [.agg [.int .i64 k0, .int .i64 k1, .int .i64 k2, .int .i64 v, .int .i64 d, .int .i64 k5, .int .i64 k6, .int .i64 k7, .int .i64 k8, .int .i64 k9, .int .i64 k10], s.av] (.tup [.int .i64 (amV v d s.level s.index), .int .i64 (amE v d s.level s.index)]) := by
  refine pure_sk (own := ow0) Tryz.func14 (by kernel_rfl) mixed (by kernel_rfl)
    (.br (decide (v < (0 : Int)) || decide (v > (1099511627776 : Int)) || decide (d < (0 : Int)) || decide (d > (5 : Int))) (.out (AV.tup [Zi 0, Zi 1]) [] (AV.tup [Zi (amV v d (Spend.level s) (Spend.index s)), Zi (amE v d (Spend.level s) (Spend.index s))]) []) (.sc (true) 44 ([Zi d, AV.agg [Zi s.11, Zi s.12]]) (AV.bool (nodeB d s.11 s.12)) (.br (!nodeB d s.11 s.12) (.out (AV.tup [Zi 0, Zi 2]) [] (AV.tup [Zi (amV v d (Spend.level s) (Spend.index s)), Zi (amE v d (Spend.level s) (Spend.index s))]) []) (.req ((0 : Int) ≤ s.11) (.out (AV.tup [Zi (Int.fdiv v ((2 : Int) ^ min (Int.toNat s.11) (64))), Zi 0]) [] (AV.tup [Zi (amV v d (Spend.level s) (Spend.index s)), Zi (amE v d (Spend.level s) (Spend.index s))]) [])))))
    (by kernel_rfl) ?_
  refine k_br (fun h0 => ?_) (fun h0 => ?_)
  · have g0 := (cnd_or_t (cnd_or_t (cnd_or_t cnd_dec_t cnd_dec_t) cnd_dec_t) cnd_dec_t) h0
    exact k_out (Ent.of_eq (by rw [(am_1 (by omega)).1, (am_1 (by omega)).2]))
  · have g0 := (cnd_or_f (cnd_or_f (cnd_or_f cnd_dec_f cnd_dec_f) cnd_dec_f) cnd_dec_f) h0
    refine k_sc (node_c (d) (s.11) (s.12)) ?_
    refine k_br (fun h3 => ?_) (fun h3 => ?_)
    · have g3 := (cnd_not_t cnd_id_f) h3
      exact k_out (Ent.of_eq (by rw [(am_2 (by omega) g3).1, (am_2 (by omega) g3).2]))
    · have g3 := (cnd_not_f cnd_id_t) h3
      refine k_req ((span_d g3).2.1) ?_
      exact k_out (Ent.of_eq (by rw [(am_3 (by omega) g3).1, (am_3 (by omega) g3).2]))

end Go.Proofs.YtmhipmiacghgeaaGreatDoor

namespace Go.Proofs.YtmhipmiacghgeaaGreatDoor
open Go Go.Am Go.Sp
set_option maxRecDepth 100000

theorem efind_f (R : Nat → Nat → Int) (n : Nat) (c : Coin) (hn : n ≤ 1000) : Pure Tryz.prog gl0 93 [recs n R, .int .i64 c.bank, .int .i64 c.epoch, .int .i64 c.denom] (.int .i64 (recF R n c)) := efind_c R n c.bank c.epoch c.denom hn

theorem rfind_f (R : Nat → Nat → Int) (n : Nat) (c : Coin) (hn : n ≤ 1000) : Pure Tryz.prog gl0 43 [recs n R, .int .i64 c.bank, .int .i64 c.epoch, .int .i64 c.denom] (.int .i64 (recF R n c)) := rfind_c R n c.bank c.epoch c.denom hn

theorem record_c (R : Nat → Nat → Int) (n : Nat) (c : Coin) (hn : n ≤ 1000) : Pure Tryz.prog gl0 42 [recs n R, c.av] (.tup [recA R n c, .bool (decide (recF R n c ≥ 0))]) := by
  have c1 := efind_f R n c hn
  have l := recF_lt R n c
  refine pure_sk (own := ow0) Tryz.func42 (by kernel_rfl) mixed (by kernel_rfl)
    (.sc (true) 93 ([AV.isl (11) n fun (i j : Nat) => Zi (R i j), Zi c.1, Zi c.2, Zi c.3]) (Zi (recF R n c)) (.br (decide (recF R n c < (0 : Int))) (.out (AV.tup [AV.agg [Zi 0, Zi 0, Zi 0, Zi 0, Zi 0, Zi 0, Zi 0, Zi 0, Zi 0, Zi 0, Zi 0], AV.bool false]) [] (AV.tup [recA R n c, AV.bool (decide (recF R n c ≥ (0 : Int)))]) []) (.req ((0 : Int) ≤ recF R n c ∧ recF R n c < (↑n : Int)) (.out (AV.tup [AV.agg [Zi (R (Int.toNat (recF R n c)) (0)), Zi (R (Int.toNat (recF R n c)) (1)), Zi (R (Int.toNat (recF R n c)) (2)), Zi (R (Int.toNat (recF R n c)) (3)), Zi (R (Int.toNat (recF R n c)) (4)), Zi (R (Int.toNat (recF R n c)) (5)), Zi (R (Int.toNat (recF R n c)) (6)), Zi (R (Int.toNat (recF R n c)) (7)), Zi (R (Int.toNat (recF R n c)) (8)), Zi (R (Int.toNat (recF R n c)) (9)), Zi (R (Int.toNat (recF R n c)) (10))], AV.bool true]) [] (AV.tup [recA R n c, AV.bool (decide (recF R n c ≥ (0 : Int)))]) []))))
    (by kernel_rfl) ?_
  refine k_sc (c1) ?_
  refine k_br (fun h1 => ?_) (fun h1 => ?_)
  · have g1 := cnd_dec_t h1
    exact k_out (Ent.of_eq (by rw [recA_no g1, decide_eq_false (by omega)]))
  · have g1 := cnd_dec_f h1
    refine k_req (by omega) ?_
    exact k_out (Ent.of_eq (by rw [recA_yes g1, decide_eq_true (by omega)]))

theorem rrecord_c (R : Nat → Nat → Int) (n : Nat) (c : Coin) (hn : n ≤ 1000) : Pure Tryz.prog gl0 13 [recs n R, c.av] (.tup [recA R n c, .bool (decide (recF R n c ≥ 0))]) := by
  have c1 := rfind_f R n c hn
  have l := recF_lt R n c
  refine pure_sk (own := ow0) Tryz.func13 (by kernel_rfl) mixed (by kernel_rfl)
    (.sc (true) 43 ([AV.isl (11) n fun (i j : Nat) => Zi (R i j), Zi c.1, Zi c.2, Zi c.3]) (Zi (recF R n c)) (.br (decide (recF R n c < (0 : Int))) (.out (AV.tup [AV.agg [Zi 0, Zi 0, Zi 0, Zi 0, Zi 0, Zi 0, Zi 0, Zi 0, Zi 0, Zi 0, Zi 0], AV.bool false]) [] (AV.tup [recA R n c, AV.bool (decide (recF R n c ≥ (0 : Int)))]) []) (.req ((0 : Int) ≤ recF R n c ∧ recF R n c < (↑n : Int)) (.out (AV.tup [AV.agg [Zi (R (Int.toNat (recF R n c)) (0)), Zi (R (Int.toNat (recF R n c)) (1)), Zi (R (Int.toNat (recF R n c)) (2)), Zi (R (Int.toNat (recF R n c)) (3)), Zi (R (Int.toNat (recF R n c)) (4)), Zi (R (Int.toNat (recF R n c)) (5)), Zi (R (Int.toNat (recF R n c)) (6)), Zi (R (Int.toNat (recF R n c)) (7)), Zi (R (Int.toNat (recF R n c)) (8)), Zi (R (Int.toNat (recF R n c)) (9)), Zi (R (Int.toNat (recF R n c)) (10))], AV.bool true]) [] (AV.tup [recA R n c, AV.bool (decide (recF R n c ≥ (0 : Int)))]) []))))
    (by kernel_rfl) ?_
  refine k_sc (c1) ?_
  refine k_br (fun h1 => ?_) (fun h1 => ?_)
  · have g1 := cnd_dec_t h1
    exact k_out (Ent.of_eq (by rw [recA_no g1, decide_eq_false (by omega)]))
  · have g1 := cnd_dec_f h1
    refine k_req (by omega) ?_
    exact k_out (Ent.of_eq (by rw [recA_yes g1, decide_eq_true (by omega)]))

theorem camount_c (R : Nat → Nat → Int) (n : Nat) (h : Chn) (hn : n ≤ 1000) : Pure Tryz.prog gl0 12 [recs n R, h.av] (.tup [.int .i64 (caV R n h.first), .int .i64 (caE R n h.first)]) := by
  have c1 := record_c R n h.first.coin hn
  have c2 := fun k0 k1 k2 v d k5 k6 k7 k8 k9 k10 => amount_g k0 k1 k2 v d k5 k6 k7 k8 k9 k10 h.first
  refine pure_sk (own := ow0) Tryz.func12 (by kernel_rfl) mixed (by kernel_rfl)
    (.sc (true) 42 ([AV.isl (11) n fun (i j : Nat) => Zi (R i j), AV.agg (Zi (Chn.first h).1 :: Zi (Chn.first h).2 :: Zi (Chn.first h).3 :: Zi (Chn.first h).4 :: Zi (Chn.first h).5 :: (u8c (Chn.first h).6 ++ [Zi (Chn.first h).7, Zi (Chn.first h).8, Zi (Chn.first h).9, Zi (Chn.first h).10]))]) (AV.tup [recA R n (Spend.coin (Chn.first h)), AV.bool (decide (recF R n (Spend.coin (Chn.first h)) ≥ (0 : Int)))]) (.br (!decide (recF R n (Spend.coin h.1) ≥ (0 : Int))) (.out (AV.tup [Zi 0, Zi 18]) [] (AV.tup [Zi (caV R n (Chn.first h)), Zi (caE R n (Chn.first h))]) []) (.sc (true) 14 ([AV.agg [Zi (recC R n (Spend.coin h.1) (0)), Zi (recC R n (Spend.coin h.1) (1)), Zi (recC R n (Spend.coin h.1) (2)), Zi (recC R n (Spend.coin h.1) (3)), Zi (recC R n (Spend.coin h.1) (4)), Zi (recC R n (Spend.coin h.1) (5)), Zi (recC R n (Spend.coin h.1) (6)), Zi (recC R n (Spend.coin h.1) (7)), Zi (recC R n (Spend.coin h.1) (8)), Zi (recC R n (Spend.coin h.1) (9)), Zi (recC R n (Spend.coin h.1) (10))], AV.agg (Spend.cells (Chn.first h))]) (AV.tup [Zi (amV (recC R n (Spend.coin h.1) (3)) (recC R n (Spend.coin h.1) (4)) (Spend.level (Chn.first h)) (Spend.index (Chn.first h))), Zi (amE (recC R n (Spend.coin h.1) (3)) (recC R n (Spend.coin h.1) (4)) (Spend.level (Chn.first h)) (Spend.index (Chn.first h)))]) (.out (AV.tup [Zi (amV (recC R n (Spend.coin h.1) (3)) (recC R n (Spend.coin h.1) (4)) (Chn.first h).11 (Chn.first h).12), Zi (amE (recC R n (Spend.coin h.1) (3)) (recC R n (Spend.coin h.1) (4)) (Chn.first h).11 (Chn.first h).12)]) [] (AV.tup [Zi (caV R n (Chn.first h)), Zi (caE R n (Chn.first h))]) []))))
    (by kernel_rfl) ?_
  refine k_sc (c1) ?_
  refine k_br (fun h1 => ?_) (fun h1 => ?_)
  · have g1 := (cnd_not_t cnd_dec_f) h1
    exact k_out (Ent.of_eq (by rw [caV, caE, if_neg g1, if_neg g1]))
  · have g1 := (cnd_not_f cnd_dec_t) h1
    refine k_sc (c2 (recC R n (Spend.coin h.1) (0)) (recC R n (Spend.coin h.1) (1)) (recC R n (Spend.coin h.1) (2)) (recC R n (Spend.coin h.1) (3)) (recC R n (Spend.coin h.1) (4)) (recC R n (Spend.coin h.1) (5)) (recC R n (Spend.coin h.1) (6)) (recC R n (Spend.coin h.1) (7)) (recC R n (Spend.coin h.1) (8)) (recC R n (Spend.coin h.1) (9)) (recC R n (Spend.coin h.1) (10))) ?_
    exact k_out (Ent.of_eq (by rw [caV, caE, if_pos g1, if_pos g1]))

theorem light35_c (s : Spend) : Pure Tryz.prog gl0 32 [s.av] (.bool (fewB s)) := by
  refine pure_sk (own := ow0) Tryz.func32 (by kernel_rfl) mixed (by kernel_rfl)
    (.out (AV.bool (decide ((↑s.16 : Int) ≤ (40 : Int)) && decide ((↑s.19 : Int) ≤ (20 : Int)))) [] (AV.bool (fewB s)) [])
    (by kernel_rfl) ?_
  exact k_out (Ent.refl _)

theorem long35_c (s : Spend) : Pure Tryz.prog gl0 34 [s.av] (.bool (!fewB s)) := by
  have c1 := light35_c s
  refine pure_sk (own := ow0) Tryz.func34 (by kernel_rfl) mixed (by kernel_rfl)
    (.sc (true) 32 ([AV.agg (Spend.cells s)]) (AV.bool (fewB s)) (.out (AV.bool !fewB s) [] (AV.bool !fewB s) []))
    (by kernel_rfl) ?_
  refine k_sc (c1) ?_
  exact k_out (Ent.refl _)

theorem longK_c (h : Chn) (hn : h.n < 9223372036854775808) : Pure Tryz.prog gl0 31 [h.av] (.bool (longK h)) := by
  have c1 := light35_c h.first
  have c2 := containsS_w 34 h.l h.n (fun i => !fewB (h.l i)) hn (fun i _ => long35_c (h.l i))
  refine pure_sk (own := ow0) Tryz.func31 (by kernel_rfl) mixed (by kernel_rfl)
    (.sc (decide ((↑h.2 : Int) > (12 : Int)) == false) 32 ([AV.agg (Spend.cells (Chn.first h))]) (AV.bool (fewB (Chn.first h))) (.sc ((decide ((↑h.2 : Int) > (12 : Int)) || !fewB h.1) == false) 33 ([AV.isl (80) h.2 fun (i j : Nat) => atL (Spend.cells (Chn.l h i)) j, AV.fn (Fn.func (34 : Nat)) [] []]) (AV.bool (decide (firstI (fun (i : Nat) => !fewB (Chn.l h i)) (Chn.n h) (0 : Nat) ≥ (0 : Int)))) (.out (AV.bool (decide ((↑h.2 : Int) > (12 : Int)) || !fewB h.1 || decide (firstI (fun (i : Nat) => !fewB (h.3 i)) h.2 (0) ≥ (0 : Int)))) [] (AV.bool (longK h)) [])))
    (by kernel_rfl) ?_
  refine k_scg (fun h0 => c1) ?_
  refine k_scg (fun h1 => c2) ?_
  exact k_out (Ent.refl _)

end Go.Proofs.YtmhipmiacghgeaaGreatDoor

namespace Go.Sp
open Go Go.Am
def bN (s : ByteArray) : List Nat := s.data.toList.map UInt8.toNat
def tagN (s : ByteArray) (E : List Nat) : List Nat := shaN (shaN (bN s) ++ (shaN (bN s) ++ E))
theorem shaN_len (l : List Nat) : (shaN l).length = 32 := by unfold shaN outN; rw [List.length_map, List.length_range]
theorem bN_len (s : ByteArray) : (bN s).length = s.size := by unfold bN; rw [List.length_map]; rfl
theorem str_n (s : ByteArray) (i : Nat) (hi : i < (bN s).length) : strF s i = ((bN s).getD i 0 : Nat) := by
  unfold strF bN
  unfold bN at hi
  rw [List.length_map] at hi
  simp [List.getD_eq_getElem?_getD, List.getElem?_eq_getElem hi]
theorem tag_n (s : ByteArray) {E : List Nat} {f : Nat → Int} (hf : ∀ i, i < E.length → f i = (E.getD i 0 : Nat)) (i : Nat) (hi : i < 32) : tagF s E.length f i = ((tagN s E).getD i 0 : Nat) := by
  have hl : (shaN (bN s) ++ (shaN (bN s) ++ E)).length = 64 + E.length := by simp [shaN_len]; omega
  have h := sha_n (l := shaN (bN s) ++ (shaN (bN s) ++ E)) (f := tagC (shaF s.size (strF s)) f) (fun j hj => by
    have ht : ∀ k, k < 32 → shaF s.size (strF s) k = ((shaN (bN s)).getD k 0 : Nat) := fun k hk => by
      rw [← bN_len s]
      exact sha_n (str_n s) k hk
    have l32 := shaN_len (bN s)
    unfold tagC
    by_cases h1 : j < 32
    · rw [blt_t (show j < 64 by omega), blt_t h1, List.getD_eq_getElem?_getD, List.getElem?_append_left (by omega), ← List.getD_eq_getElem?_getD]
      exact ht j h1
    · by_cases h2 : j < 64
      · rw [blt_t h2, blt_f (by omega), List.getD_eq_getElem?_getD, List.getElem?_append_right (by omega), l32, List.getElem?_append_left (by omega), ← List.getD_eq_getElem?_getD]
        exact ht (j - 32) (by omega)
      · rw [blt_f (by omega), List.getD_eq_getElem?_getD, List.getElem?_append_right (by omega), l32, List.getElem?_append_right (by omega), l32, ← List.getD_eq_getElem?_getD, show j - 32 - 32 = j - 64 by omega]
        exact hf (j - 64) (by omega)) i hi
  rw [hl] at h
  exact h
theorem tagI_n (s : ByteArray) {x : It} (hx : x.okB) (i : Nat) (hi : i < 32) : tagI s x i = ((tagN s (x.enc.map Int.toNat)).getD i 0 : Nat) := by
  have hl : (x.enc.map Int.toNat).length = x.enc.length := List.length_map _
  have h := tag_n s (E := x.enc.map Int.toNat) (f := fun i => x.enc.getD i 0) (fun i hi => by
    have hi' : i < x.enc.length := by omega
    have b := It.enc_by hx i hi'
    show x.enc.getD i 0 = _
    have e : (x.enc.map Int.toNat).getD i 0 = (x.enc.getD i 0).toNat := by simp [List.getD_eq_getElem?_getD, List.getElem?_eq_getElem hi']
    rw [e]
    have : 0 ≤ x.enc.getD i 0 := b.1
    omega) i hi
  rw [hl] at h
  exact h
theorem hash_congr {n : Nat} {F G : Nat → Nat → Int} (h : ∀ i, i < n → ∀ j, j < 32 → F i j = G i j) : (hashI n F).enc = (hashI n G).enc := by
  show It.encP n (fun i => It.byt 32 (F i)) n = It.encP n (fun i => It.byt 32 (G i)) n
  have : ∀ k, k ≤ n → It.encP n (fun i => It.byt 32 (F i)) k = It.encP n (fun i => It.byt 32 (G i)) k := fun k hk => by
    induction k with
    | zero => rw [It.encP_zero, It.encP_zero]
    | succ k ih =>
      rw [It.encP_succ, It.encP_succ, ih (by omega)]
      congr 1
      show 2 :: (nbL _ 4 ++ (List.range 32).map (F k)) = 2 :: (nbL _ 4 ++ (List.range 32).map (G k))
      congr 2
      exact List.map_congr_left fun j hj => h k (by omega) j (List.mem_range.1 hj)
  exact this n (Nat.le_refl _)
theorem tagI_congr {s : ByteArray} {x y : It} (h : x.enc = y.enc) : tagI s x = tagI s y := by unfold tagI; rw [h]
/-- A list of numbers as a digest. -/
def asF (l : List Nat) (i : Nat) : Int := (l.getD i 0 : Nat)
theorem zero_by : byB (fun _ => 0) 32 := fun _ _ => by show (0 : Int) ≤ 0 ∧ (0 : Int) < 256; decide
def coinN (c : Coin) : List Nat := tagN "specie/coin-item".toUTF8 (c.it.enc.map Int.toNat)
def nameN (c : Coin) : List Nat := tagN "specie/chain-next".toUTF8 ((hashI 2 (two (asF (coinN c)) fun _ => 0)).enc.map Int.toNat)
theorem coin_n {c : Coin} (hr : byB c.root 32) (i : Nat) (hi : i < 32) : c.dig i = asF (coinN c) i := tagI_n _ (Coin.it_okB hr) i hi
theorem name_n {c : Coin} (hr : byB c.root 32) (i : Nat) (hi : i < 32) : nameF c (fun _ => 0) i = asF (nameN c) i := by
  have hb : byB (asF (coinN c)) 32 := fun j hj => by rw [← coin_n hr j hj]; exact c.dig_by j hj
  have e : (hashI 2 (two c.dig fun _ => 0)).enc = (hashI 2 (two (asF (coinN c)) fun _ => 0)).enc := hash_congr fun k hk j hj => match k, hk with
    | 0, _ => coin_n hr j hj
    | 1, _ => rfl
  unfold nameF
  rw [tagI_congr e]
  exact tagI_n _ (hash_okB (two_by hb zero_by)) i hi
theorem names_ne : nameF (cA 2) (fun _ => 0) 0 ≠ nameF (cA 3) (fun _ => 0) 0 := by
  rw [name_n zero_by 0 (by decide), name_n zero_by 0 (by decide)]
  decide +kernel
def spendN (s : Spend) : List Nat := tagN "specie/spend-item".toUTF8 (s.it.enc.map Int.toNat)
def chainN (S : Nat → Spend) (n : Nat) : List Nat := tagN "specie/chain".toUTF8 ((hashI n fun i => asF (spendN (S i))).enc.map Int.toNat)
theorem spend_n {s : Spend} (h : s.Sm) (i : Nat) (hi : i < 32) : s.dig i = asF (spendN s) i := tagI_n _ (Spend.it_okB h) i hi
theorem chain_n {S : Nat → Spend} {n : Nat} (hn : n ≠ 0) (hs : ∀ i, i < n → (S i).Sm) (i : Nat) (hi : i < 32) : chainF S n i = asF (chainN S n) i := by
  have hb : ∀ k, k < n → byB (asF (spendN (S k))) 32 := fun k hk j hj => by rw [← spend_n (hs k hk) j hj]; exact Spend.dig_by _ j hj
  have e : (hashI n fun i => (S i).dig).enc = (hashI n fun i => asF (spendN (S i))).enc := hash_congr fun k hk j hj => spend_n (hs k hk) j hj
  rw [chainF_1 hn, tagI_congr e]
  exact tagI_n _ (hash_okB hb) i hi
theorem zero_sm : Spend.zero.Sm := ⟨⟨zero_by, zero_by⟩, fun j hj => absurd hj (Nat.not_lt_zero _), by decide, by decide⟩
def chn0 : Chn := ⟨.zero, 0, fun _ => .zero⟩
def chn1 : Chn := ⟨.zero, 1, fun _ => .zero⟩
theorem sm01 (h : Chn) (h1 : h.first = .zero) (h2 : ∀ i, h.l i = .zero) (i : Nat) : (chnS h i).Sm := by
  cases i with
  | zero => show h.first.Sm; rw [h1]; exact zero_sm
  | succ i => show (h.l i).Sm; rw [h2]; exact zero_sm
theorem chains_ne : chnD chn0 0 ≠ chnD chn1 0 := by
  rw [chnD_0 (by decide), chnD_0 (by decide), chain_n (by decide) (fun i _ => sm01 chn0 rfl (fun _ => rfl) i) 0 (by decide), chain_n (by decide) (fun i _ => sm01 chn1 rfl (fun _ => rfl) i) 0 (by decide)]
  decide +kernel
theorem entL_app35 {os : List (Option Ob)} {a a' b b' : List AV} (h : EntL os a a') (h' : EntL os b b') : EntL os (a ++ b) (a' ++ b') := EntL.app h h'
def AllCl : List AV → Prop | [] => True | a :: l => Cl a ∧ AllCl l
theorem allCl_at : ∀ {l : List AV} {j : Nat}, AllCl l → j < l.length → Cl (atL l j)
  | _ :: _, 0, h, _ => h.1
  | a :: l, j + 1, h, hj => allCl_at (l := l) (j := j) h.2 (by simpa using hj)
theorem zero_all : AllCl Spend.zero.cells := by
  show AllCl (Spend.zero.cw (lvs 0 _) (hss 0 _))
  unfold Spend.cw
  repeat' (first | exact .int | exact .isl (fun _ _ h _ => absurd h (Nat.not_lt_zero _)) | exact trivial | refine ⟨?_, ?_⟩)
theorem zero_cl (j : Nat) (hj : j < 80) : Cl (atL Spend.zero.cells j) := allCl_at zero_all hj
end Go.Sp
namespace Go.Sp
open Go Go.Am
/-- Its bytes are bytes. -/
structure Spend.SB (s : Spend) : Prop where
  by_ : s.By
  path : ∀ j, j < s.np → byB (s.pf j) 32
theorem few_sm {s : Spend} (h : s.SB) (hf : fewB s = true) : s.Sm := by
  simp [fewB] at hf
  exact ⟨h.by_, h.path, by omega, by omega⟩
theorem longK_sm {h : Chn} (hl : longK h = false) (hb : ∀ i, i < h.n + 1 → (chnS h i).SB) : h.n ≤ 300 ∧ ∀ i, i < h.n + 1 → (chnS h i).Sm := by
  unfold longK at hl
  simp only [Bool.or_eq_false_iff, decide_eq_false_iff_not] at hl
  obtain ⟨⟨h1, h2⟩, h3⟩ := hl
  refine ⟨by omega, fun i hi => few_sm (hb i hi) ?_⟩
  cases i with
  | zero =>
    show fewB h.first = true
    simpa using h2
  | succ i =>
    have := anyI_f h3 i (by omega)
    show fewB (h.l i) = true
    simpa using this
end Go.Sp

namespace Go.Proofs.YtmhipmiacghgeaaGreatDoor
open Go Go.Am Go.Sp
set_option maxRecDepth 100000

theorem indexK_c (S : Nat → Chn) (n : Nat) (hn : n ≤ 1000) (hS : ∀ i, i < n → (S i).n < 9223372036854775808) : Pure Tryz.prog gl0 85 [chs n S, .fn (.func 31) [] []] (.int .i64 (firstI (fun i => longK (S i)) n 0)) := by
  refine pure_sk (own := ow0) Tryz.func85 (by kernel_rfl) mixed (by kernel_rfl)
    (.loop ({ x : Nat // x ≤ n ∧ (fun (i : Nat) => firstI (fun (i : Nat) => longK (S i)) n (0 : Nat) = firstI (fun (i : Nat) => longK (S i)) (n - i) i) x }) (fun (x : { x : Nat // x ≤ n ∧ (fun (i : Nat) => firstI (fun (i : Nat) => longK (S i)) n (0 : Nat) = firstI (fun (i : Nat) => longK (S i)) (n - i) i) x }) => mkSt [0, 1, 7, 8] [AV.isl (81) n fun (i j : Nat) => atL (Chn.cells (S i)) j, AV.fn (Fn.func (31 : FuncId)) [] [], Zi (↑n : Int), Zi (↑(Subtype.val x) : Int)] []) (fun (x : { x : Nat // x ≤ n ∧ (fun (i : Nat) => firstI (fun (i : Nat) => longK (S i)) n (0 : Nat) = firstI (fun (i : Nat) => longK (S i)) (n - i) i) x }) => n - Subtype.val x) (⟨(0 : Nat), ⟨Nat.zero_le n, rfl⟩⟩) ([0, 1, 7, 8]) ([]) ([AV.isl (81) n fun (i j : Nat) => atL (Chn.cells (S i)) j, AV.fn (Fn.func (31 : FuncId)) [] [], Zi (↑n : Int), Zi 0]) ([]) (fun x0 => (.br (decide ((↑x0.1 : Int) < (↑n : Int))) (.req ((0 : Int) ≤ (↑x0.1 : Int) ∧ (↑x0.1 : Int) < (↑n : Int)) (.sc (true) 31 ([AV.agg (Chn.cells (S (Int.toNat (↑(Subtype.val x0) : Int))))]) (AV.bool (longK (S (Int.toNat (↑(Subtype.val x0) : Int))))) (.br (longK (S (Int.toNat (↑x0.1 : Int)))) (.out (Zi (↑x0.1 : Int)) [] (Zi (firstI (fun (i : Nat) => longK (S i)) n (0 : Nat))) []) (.again (Again (0) (fun (x : { x : Nat // x ≤ n ∧ (fun (i : Nat) => firstI (fun (i : Nat) => longK (S i)) n (0 : Nat) = firstI (fun (i : Nat) => longK (S i)) (n - i) i) x }) => mkSt [0, 1, 7, 8] [AV.isl (81) n fun (i j : Nat) => atL (Chn.cells (S i)) j, AV.fn (Fn.func (31 : FuncId)) [] [], Zi (↑n : Int), Zi (↑(Subtype.val x) : Int)] []) (fun (x : { x : Nat // x ≤ n ∧ (fun (i : Nat) => firstI (fun (i : Nat) => longK (S i)) n (0 : Nat) = firstI (fun (i : Nat) => longK (S i)) (n - i) i) x }) => n - Subtype.val x) x0) ([0, 1, 7, 8]) ([]) ([AV.isl (81) n fun (i j : Nat) => atL (Chn.cells (S i)) j, AV.fn (Fn.func (31 : FuncId)) [] [], Zi (↑n : Int), Zi (IntKind.wrap IntKind.i64 ((↑x0.1 : Int) + (1 : Int)))]) ([]))))) (.out (Zi (-1)) [] (Zi (firstI (fun (i : Nat) => longK (S i)) n (0 : Nat))) []))))
    (by kernel_rfl) ?_
  --LOOPINFO kept [0, 1, 7] changed [8] objects []
  refine k_loop (fun _ hs => hs.le (by repeat' (first | exact trivial | (first | exact Ent.refl _ | exact inc_ent (by omega) | exact Ent.nil rfl | exact Ent.of_eq (congrArg (AV.osl _ _ _) (by first | omega | (dsimp only; omega))) | exact Ent.of_eq (congrArg (AV.int _) (by first | omega | (dsimp only; omega)))) | refine And.intro ?_ ?_)) (trivial)) (fun x0 => ?_)
  try (have q0 := x0.2; dsimp only at q0)
  refine k_br (fun h1 => ?_) (fun h1 => ?_)
  · have g1 := cnd_dec_t h1
    refine k_req (by first | omega | (simp only [Int.toNat_natCast]; omega)) ?_
    refine k_sc ((longK_c (S (Int.toNat (↑(Subtype.val x0) : Int)))) (hS _ (by omega))) ?_
    refine k_br (fun h4 => ?_) (fun h4 => ?_)
    · have g4 := cnd_id_t h4
      try simp only [Int.toNat_natCast] at g4
      exact k_out (Ent.of_eq (congrArg _ (first_hit x0.2.2 (by omega) h4)))
    · have g4 := cnd_id_f h4
      try simp only [Int.toNat_natCast] at g4
      exact k_again (⟨x0.1 + 1, by omega, first_next x0.2.2 (by omega) h4⟩) (fun _ hs => hs.le (by repeat' (first | exact trivial | (first | exact Ent.refl _ | exact inc_ent (by omega) | exact Ent.nil rfl | exact Ent.of_eq (congrArg (AV.osl _ _ _) (by first | omega | (dsimp only; omega))) | exact Ent.of_eq (congrArg (AV.int _) (by first | omega | (dsimp only; omega)))) | refine And.intro ?_ ?_)) (trivial)) (by first | omega | (dsimp only; omega) | (simp; omega))
  · have g1 := cnd_dec_f h1
    exact k_out (Ent.of_eq (congrArg _ (first_miss x0.2.2 (by omega))))

theorem containsK_c (S : Nat → Chn) (n : Nat) (hn : n ≤ 1000) (hS : ∀ i, i < n → (S i).n < 9223372036854775808) : Pure Tryz.prog gl0 30 [chs n S, .fn (.func 31) [] []] (.bool (decide (firstI (fun i => longK (S i)) n 0 ≥ 0))) := by
  have c1 := indexK_c S n hn hS
  refine pure_sk (own := ow0) Tryz.func30 (by kernel_rfl) mixed (by kernel_rfl)
    (.sc (true) 85 ([AV.isl (81) n fun (i j : Nat) => atL (Chn.cells (S i)) j, AV.fn (Fn.func (31 : FuncId)) [] []]) (Zi (firstI (fun (i : Nat) => longK (S i)) n (0 : Nat))) (.out (AV.bool (decide (firstI (fun (i : Nat) => longK (S i)) n (0) ≥ (0 : Int)))) [] (AV.bool (decide (firstI (fun (i : Nat) => longK (S i)) n (0 : Nat) ≥ (0 : Int)))) []))
    (by kernel_rfl) ?_
  refine k_sc (c1) ?_
  exact k_out (Ent.refl _)

theorem few35_c (S : Nat → Chn) (n : Nat) (hn : n ≤ 1000) (hS : ∀ i, i < n → (S i).n < 9223372036854775808) : Pure Tryz.prog gl0 8 [chs n S] (.bool (!decide (firstI (fun i => longK (S i)) n 0 ≥ 0))) := by
  have c1 := containsK_c S n hn hS
  refine pure_sk (own := ow0) Tryz.func8 (by kernel_rfl) mixed (by kernel_rfl)
    (.sc (true) 30 ([AV.isl (81) n fun (i j : Nat) => atL (Chn.cells (S i)) j, AV.fn (Fn.func (31 : Nat)) [] []]) (AV.bool (decide (firstI (fun (i : Nat) => longK (S i)) n (0 : Nat) ≥ (0 : Int)))) (.out (AV.bool !decide (firstI (fun (i : Nat) => longK (S i)) n (0) ≥ (0 : Int))) [] (AV.bool !decide (firstI (fun (i : Nat) => longK (S i)) n (0 : Nat) ≥ (0 : Int))) []))
    (by kernel_rfl) ?_
  refine k_sc (c1) ?_
  exact k_out (Ent.refl _)

theorem few35_1 (h : Chn) (hh : h.n < 9223372036854775808) : Pure Tryz.prog gl0 8 [.isl 81 1 fun r k => atL (List.getD [h.cells] r []) k] (.bool (!longK h)) := by
  refine Pure.ent (Pure.via (few35_c (fun _ => h) 1 (by omega) (fun _ _ => hh)) ?_) (Ent.of_eq (congrArg _ (by rw [firstI_neg]; simp [List.range, List.range.loop])))
  exact ⟨Ent.rows fun i hi => (by obtain rfl : i = 0 := Nat.lt_one_iff.1 hi
                                  rfl), trivial⟩

theorem ex_ctx (a : Int) : Pure Tryz.prog gl0 9 [exB35.av, (cA a).av, .agg (u8c fun _ => 0), .int .i64 5, .int .i64 3] (.tup [(⟨nameF (cA a) (fun _ => 0), 5, 3⟩ : Cxt).av, .int .i64 0]) := by
  have c1 := ccontext_c exB35 (cA a) (fun _ => 0) 5 3 exB35_w (fun _ _ => by show (0 : Int) ≤ 0 ∧ (0 : Int) < 256; decide) (fun _ _ => by show (0 : Int) ≤ 0 ∧ (0 : Int) < 256; decide)
  have e := cc_0 (b := exB35) (c := cA a) (f := fun _ => 0) (t := 5) (n := 3) exB35_ok (ctx_yes2 (by decide))
  rw [e.1, e.2] at c1
  exact c1

theorem awake35_w (N2 N3 D0 D1 : Nat → Int) (c1 : Pure Tryz.prog gl0 9 [exB35.av, (cA 2).av, .agg (u8c fun _ => 0), .int .i64 5, .int .i64 3] (.tup [(⟨N2, 5, 3⟩ : Cxt).av, .int .i64 0]))
    (c2 : Pure Tryz.prog gl0 9 [exB35.av, (cA 3).av, .agg (u8c fun _ => 0), .int .i64 5, .int .i64 3] (.tup [(⟨N3, 5, 3⟩ : Cxt).av, .int .i64 0]))
    (c3 : Pure Tryz.prog gl0 10 [.agg (Spend.zero.cw .nsl .nsl ++ [.nsl])] (.agg (u8c D0))) (c4 : Pure Tryz.prog gl0 10 [.agg (Spend.zero.cw .nsl .nsl ++ [.isl 80 1 fun _ k => atL (Spend.zero.cw .nsl .nsl) k])] (.agg (u8c D1))) (hN : (N2 0 == N3 0) = false) (hD : (D0 0 == D1 0) = false) : Pure Tryz.prog gl0 7 [] (.bool true) := by
  refine pure_sk (own := ow0) Tryz.func7 (by kernel_rfl) mixed (by kernel_rfl)
    (.sc (true) 9 ([AV.agg [Zi 23, Zi 11, Zi 4, Zi 2, Zi 3, Zi 9], AV.agg [Zi 0, Zi 0, Zi 0, Zi 0, Zi 2, Zb 0, Zb 0, Zb 0, Zb 0, Zb 0, Zb 0, Zb 0, Zb 0, Zb 0, Zb 0, Zb 0, Zb 0, Zb 0, Zb 0, Zb 0, Zb 0, Zb 0, Zb 0, Zb 0, Zb 0, Zb 0, Zb 0, Zb 0, Zb 0, Zb 0, Zb 0, Zb 0, Zb 0, Zb 0, Zb 0, Zb 0, Zb 0, Zi 0, Zi 0, Zi 0, Zi 0], AV.agg [Zb 0, Zb 0, Zb 0, Zb 0, Zb 0, Zb 0, Zb 0, Zb 0, Zb 0, Zb 0, Zb 0, Zb 0, Zb 0, Zb 0, Zb 0, Zb 0, Zb 0, Zb 0, Zb 0, Zb 0, Zb 0, Zb 0, Zb 0, Zb 0, Zb 0, Zb 0, Zb 0, Zb 0, Zb 0, Zb 0, Zb 0, Zb 0], Zi 5, Zi 3]) (AV.tup [Cxt.av { payee := N2, time := (5 : Int), number := (3 : Int) }, Zi 0]) (.sc (true) 9 ([AV.agg [Zi 23, Zi 11, Zi 4, Zi 2, Zi 3, Zi 9], AV.agg [Zi 0, Zi 0, Zi 0, Zi 0, Zi 3, Zb 0, Zb 0, Zb 0, Zb 0, Zb 0, Zb 0, Zb 0, Zb 0, Zb 0, Zb 0, Zb 0, Zb 0, Zb 0, Zb 0, Zb 0, Zb 0, Zb 0, Zb 0, Zb 0, Zb 0, Zb 0, Zb 0, Zb 0, Zb 0, Zb 0, Zb 0, Zb 0, Zb 0, Zb 0, Zb 0, Zb 0, Zb 0, Zi 0, Zi 0, Zi 0, Zi 0], AV.agg [Zb 0, Zb 0, Zb 0, Zb 0, Zb 0, Zb 0, Zb 0, Zb 0, Zb 0, Zb 0, Zb 0, Zb 0, Zb 0, Zb 0, Zb 0, Zb 0, Zb 0, Zb 0, Zb 0, Zb 0, Zb 0, Zb 0, Zb 0, Zb 0, Zb 0, Zb 0, Zb 0, Zb 0, Zb 0, Zb 0, Zb 0, Zb 0], Zi 5, Zi 3]) (AV.tup [Cxt.av { payee := N3, time := (5 : Int), number := (3 : Int) }, Zi 0]) (.sc (((5 : Int) == (5 : Int) && (3 : Int) == (3 : Int) && !(N2 (0) == N3 (0) && (N2 (1) == N3 (1) && (N2 (2) == N3 (2) && (N2 (3) == N3 (3) && (N2 (4) == N3 (4) && (N2 (5) == N3 (5) && (N2 (6) == N3 (6) && (N2 (7) == N3 (7) && (N2 (8) == N3 (8) && (N2 (9) == N3 (9) && (N2 (10) == N3 (10) && (N2 (11) == N3 (11) && (N2 (12) == N3 (12) && (N2 (13) == N3 (13) && (N2 (14) == N3 (14) && (N2 (15) == N3 (15) && (N2 (16) == N3 (16) && (N2 (17) == N3 (17) && (N2 (18) == N3 (18) && (N2 (19) == N3 (19) && (N2 (20) == N3 (20) && (N2 (21) == N3 (21) && (N2 (22) == N3 (22) && (N2 (23) == N3 (23) && (N2 (24) == N3 (24) && (N2 (25) == N3 (25) && (N2 (26) == N3 (26) && (N2 (27) == N3 (27) && (N2 (28) == N3 (28) && (N2 (29) == N3 (29) && (N2 (30) == N3 (30) && (N2 (31) == N3 (31) && true))))))))))))))))))))))))))))))))) == true) 10 ([AV.agg [Zi 0, Zi 0, Zi 0, Zi 0, Zi 0, Zb 0, Zb 0, Zb 0, Zb 0, Zb 0, Zb 0, Zb 0, Zb 0, Zb 0, Zb 0, Zb 0, Zb 0, Zb 0, Zb 0, Zb 0, Zb 0, Zb 0, Zb 0, Zb 0, Zb 0, Zb 0, Zb 0, Zb 0, Zb 0, Zb 0, Zb 0, Zb 0, Zb 0, Zb 0, Zb 0, Zb 0, Zb 0, Zi 0, Zi 0, Zi 0, Zi 0, Zi 0, Zi 0, Zb 0, Zb 0, Zb 0, Zb 0, Zb 0, Zb 0, Zb 0, Zb 0, Zb 0, Zb 0, Zb 0, Zb 0, Zb 0, Zb 0, Zb 0, Zb 0, Zb 0, Zb 0, Zb 0, Zb 0, Zb 0, Zb 0, Zb 0, Zb 0, Zb 0, Zb 0, Zb 0, Zb 0, Zb 0, Zb 0, Zb 0, Zb 0, Zi 0, Zi 0, AV.nsl, Zi 0, AV.nsl, AV.nsl]]) (AV.agg (u8c D0)) (.req ((((5 : Int) == (5 : Int) && (3 : Int) == (3 : Int) && !(N2 (0) == N3 (0) && (N2 (1) == N3 (1) && (N2 (2) == N3 (2) && (N2 (3) == N3 (3) && (N2 (4) == N3 (4) && (N2 (5) == N3 (5) && (N2 (6) == N3 (6) && (N2 (7) == N3 (7) && (N2 (8) == N3 (8) && (N2 (9) == N3 (9) && (N2 (10) == N3 (10) && (N2 (11) == N3 (11) && (N2 (12) == N3 (12) && (N2 (13) == N3 (13) && (N2 (14) == N3 (14) && (N2 (15) == N3 (15) && (N2 (16) == N3 (16) && (N2 (17) == N3 (17) && (N2 (18) == N3 (18) && (N2 (19) == N3 (19) && (N2 (20) == N3 (20) && (N2 (21) == N3 (21) && (N2 (22) == N3 (22) && (N2 (23) == N3 (23) && (N2 (24) == N3 (24) && (N2 (25) == N3 (25) && (N2 (26) == N3 (26) && (N2 (27) == N3 (27) && (N2 (28) == N3 (28) && (N2 (29) == N3 (29) && (N2 (30) == N3 (30) && (N2 (31) == N3 (31) && true))))))))))))))))))))))))))))))))) == true) = true → (0 : Int) ≤ (1 : Int) ∧ (1 : Int) = (1 : Int) ∧ (↑(224) : Int) * (1 : Int) ≤ (140737488355328 : Int) ∧ (1 : Int) ≤ (9223372036854775807 : Int)) (.sc (((5 : Int) == (5 : Int) && (3 : Int) == (3 : Int) && !(N2 (0) == N3 (0) && (N2 (1) == N3 (1) && (N2 (2) == N3 (2) && (N2 (3) == N3 (3) && (N2 (4) == N3 (4) && (N2 (5) == N3 (5) && (N2 (6) == N3 (6) && (N2 (7) == N3 (7) && (N2 (8) == N3 (8) && (N2 (9) == N3 (9) && (N2 (10) == N3 (10) && (N2 (11) == N3 (11) && (N2 (12) == N3 (12) && (N2 (13) == N3 (13) && (N2 (14) == N3 (14) && (N2 (15) == N3 (15) && (N2 (16) == N3 (16) && (N2 (17) == N3 (17) && (N2 (18) == N3 (18) && (N2 (19) == N3 (19) && (N2 (20) == N3 (20) && (N2 (21) == N3 (21) && (N2 (22) == N3 (22) && (N2 (23) == N3 (23) && (N2 (24) == N3 (24) && (N2 (25) == N3 (25) && (N2 (26) == N3 (26) && (N2 (27) == N3 (27) && (N2 (28) == N3 (28) && (N2 (29) == N3 (29) && (N2 (30) == N3 (30) && (N2 (31) == N3 (31) && true))))))))))))))))))))))))))))))))) == true) 10 ([AV.agg [Zi 0, Zi 0, Zi 0, Zi 0, Zi 0, Zb 0, Zb 0, Zb 0, Zb 0, Zb 0, Zb 0, Zb 0, Zb 0, Zb 0, Zb 0, Zb 0, Zb 0, Zb 0, Zb 0, Zb 0, Zb 0, Zb 0, Zb 0, Zb 0, Zb 0, Zb 0, Zb 0, Zb 0, Zb 0, Zb 0, Zb 0, Zb 0, Zb 0, Zb 0, Zb 0, Zb 0, Zb 0, Zi 0, Zi 0, Zi 0, Zi 0, Zi 0, Zi 0, Zb 0, Zb 0, Zb 0, Zb 0, Zb 0, Zb 0, Zb 0, Zb 0, Zb 0, Zb 0, Zb 0, Zb 0, Zb 0, Zb 0, Zb 0, Zb 0, Zb 0, Zb 0, Zb 0, Zb 0, Zb 0, Zb 0, Zb 0, Zb 0, Zb 0, Zb 0, Zb 0, Zb 0, Zb 0, Zb 0, Zb 0, Zb 0, Zi 0, Zi 0, AV.nsl, Zi 0, AV.nsl, AV.isl (80) (1) fun (r k : Nat) => atL [Zi 0, Zi 0, Zi 0, Zi 0, Zi 0, Zb 0, Zb 0, Zb 0, Zb 0, Zb 0, Zb 0, Zb 0, Zb 0, Zb 0, Zb 0, Zb 0, Zb 0, Zb 0, Zb 0, Zb 0, Zb 0, Zb 0, Zb 0, Zb 0, Zb 0, Zb 0, Zb 0, Zb 0, Zb 0, Zb 0, Zb 0, Zb 0, Zb 0, Zb 0, Zb 0, Zb 0, Zb 0, Zi 0, Zi 0, Zi 0, Zi 0, Zi 0, Zi 0, Zb 0, Zb 0, Zb 0, Zb 0, Zb 0, Zb 0, Zb 0, Zb 0, Zb 0, Zb 0, Zb 0, Zb 0, Zb 0, Zb 0, Zb 0, Zb 0, Zb 0, Zb 0, Zb 0, Zb 0, Zb 0, Zb 0, Zb 0, Zb 0, Zb 0, Zb 0, Zb 0, Zb 0, Zb 0, Zb 0, Zb 0, Zb 0, Zi 0, Zi 0, AV.nsl, Zi 0, AV.nsl] k]]) (AV.agg (u8c D1)) (.out (AV.bool ((5 : Int) == (5 : Int) && (3 : Int) == (3 : Int) && !(N2 (0) == N3 (0) && (N2 (1) == N3 (1) && (N2 (2) == N3 (2) && (N2 (3) == N3 (3) && (N2 (4) == N3 (4) && (N2 (5) == N3 (5) && (N2 (6) == N3 (6) && (N2 (7) == N3 (7) && (N2 (8) == N3 (8) && (N2 (9) == N3 (9) && (N2 (10) == N3 (10) && (N2 (11) == N3 (11) && (N2 (12) == N3 (12) && (N2 (13) == N3 (13) && (N2 (14) == N3 (14) && (N2 (15) == N3 (15) && (N2 (16) == N3 (16) && (N2 (17) == N3 (17) && (N2 (18) == N3 (18) && (N2 (19) == N3 (19) && (N2 (20) == N3 (20) && (N2 (21) == N3 (21) && (N2 (22) == N3 (22) && (N2 (23) == N3 (23) && (N2 (24) == N3 (24) && (N2 (25) == N3 (25) && (N2 (26) == N3 (26) && (N2 (27) == N3 (27) && (N2 (28) == N3 (28) && (N2 (29) == N3 (29) && (N2 (30) == N3 (30) && (N2 (31) == N3 (31) && true)))))))))))))))))))))))))))))))) && !(D0 (0) == D1 (0) && (D0 (1) == D1 (1) && (D0 (2) == D1 (2) && (D0 (3) == D1 (3) && (D0 (4) == D1 (4) && (D0 (5) == D1 (5) && (D0 (6) == D1 (6) && (D0 (7) == D1 (7) && (D0 (8) == D1 (8) && (D0 (9) == D1 (9) && (D0 (10) == D1 (10) && (D0 (11) == D1 (11) && (D0 (12) == D1 (12) && (D0 (13) == D1 (13) && (D0 (14) == D1 (14) && (D0 (15) == D1 (15) && (D0 (16) == D1 (16) && (D0 (17) == D1 (17) && (D0 (18) == D1 (18) && (D0 (19) == D1 (19) && (D0 (20) == D1 (20) && (D0 (21) == D1 (21) && (D0 (22) == D1 (22) && (D0 (23) == D1 (23) && (D0 (24) == D1 (24) && (D0 (25) == D1 (25) && (D0 (26) == D1 (26) && (D0 (27) == D1 (27) && (D0 (28) == D1 (28) && (D0 (29) == D1 (29) && (D0 (30) == D1 (30) && (D0 (31) == D1 (31) && true)))))))))))))))))))))))))))))))))) [] (AV.bool true) []))))))
    (by kernel_rfl) ?_
  refine k_sc (c1) ?_
  refine k_sc (c2) ?_
  refine k_scg (fun h2 => c3) ?_
  refine k_req (fun hr => by have hr := (cnd_eqt_t (cnd_and_t (cnd_and_t cnd_beq_t cnd_beq_t) (cnd_not_t (cnd_and_f cnd_beq_f (cnd_and_f cnd_beq_f (cnd_and_f cnd_beq_f (cnd_and_f cnd_beq_f (cnd_and_f cnd_beq_f (cnd_and_f cnd_beq_f (cnd_and_f cnd_beq_f (cnd_and_f cnd_beq_f (cnd_and_f cnd_beq_f (cnd_and_f cnd_beq_f (cnd_and_f cnd_beq_f (cnd_and_f cnd_beq_f (cnd_and_f cnd_beq_f (cnd_and_f cnd_beq_f (cnd_and_f cnd_beq_f (cnd_and_f cnd_beq_f (cnd_and_f cnd_beq_f (cnd_and_f cnd_beq_f (cnd_and_f cnd_beq_f (cnd_and_f cnd_beq_f (cnd_and_f cnd_beq_f (cnd_and_f cnd_beq_f (cnd_and_f cnd_beq_f (cnd_and_f cnd_beq_f (cnd_and_f cnd_beq_f (cnd_and_f cnd_beq_f (cnd_and_f cnd_beq_f (cnd_and_f cnd_beq_f (cnd_and_f cnd_beq_f (cnd_and_f cnd_beq_f (cnd_and_f cnd_beq_f (cnd_and_f cnd_beq_f cnd_id_f))))))))))))))))))))))))))))))))))) hr; first | omega | (simp only [Int.toNat_natCast] at *; omega)) ?_
  refine k_scg (fun h4 => c4) ?_
  exact k_out (Ent.of_eq (congrArg AV.bool (by simp [hN, hD])))

theorem awake35_c : Pure Tryz.prog gl0 7 [] (.bool true) := by
  refine awake35_w _ _ _ _ (ex_ctx 2) (ex_ctx 3) ?_ ?_ (beq_eq_false_iff_ne.2 names_ne) (beq_eq_false_iff_ne.2 chains_ne)
  · exact (cdigest_c chn0 (by decide) (fun i _ => sm01 chn0 rfl (fun _ => rfl) i)).via ⟨Ent.agg (entL_app35 zero_ent ⟨Ent.nsl, trivial⟩), trivial⟩
  · exact (cdigest_c chn1 (by decide) (fun i _ => sm01 chn1 rfl (fun _ => rfl) i)).via ⟨Ent.agg (entL_app35 zero_ent ⟨Ent.islE (fun i j _ hj => ⟨Ent.atL zero_ent j, zero_cl j hj⟩), trivial⟩), trivial⟩

end Go.Proofs.YtmhipmiacghgeaaGreatDoor

namespace Go.Proofs.YtmhipmiacghgeaaGreatDoor
open Go Go.Am Go.Sp
set_option maxRecDepth 100000

theorem law_w (b : Bas) (c : Coin) (f : Nat → Int) (t n : Int) (R : Nat → Nat → Int) (m : Nat) (h : Chn) (hw : b.gr.W) (X : Cxt) (e : Int) (N D : Nat → Int) (hh : h.n < 9223372036854775808)
    (c2 : Pure Tryz.prog gl0 9 [b.av, c.av, .agg (u8c f), .int .i64 t, .int .i64 n] (.tup [X.av, .int .i64 e]))
    (c3 : longK h = false → Pure Tryz.prog gl0 10 [h.av] (.agg (u8c D))) (c4 : longK h = false → Pure Tryz.prog gl0 11 [h.av] (.agg (u8c D)))
    (c8 : Pure Tryz.prog gl0 16 [c.av, .agg (u8c f)] (.agg (u8c N)))
    (f1 : validB b = false → X = ⟨fun _ => 0, 0, 0⟩ ∧ e = 1) (f2 : validB b = true → ctxB t n = false → X = ⟨fun _ => 0, 0, 0⟩ ∧ e = 2) (f3 : validB b = true → ctxB t n = true → X = ⟨N, t, n⟩ ∧ e = 0) :
    Pure Tryz.prog gl0 3 [b.av, c.av, .agg (u8c f), .int .i64 t, .int .i64 n, recs m R, h.av] (.bool true) := by
  have c1 := few35_1 h hh
  have c5 := fun hm => camount_c R m h hm
  have c6 := fun hm => rrecord_c R m h.first.coin hm
  have c7 := fun k0 k1 k2 v d k5 k6 k7 k8 k9 k10 => amount_g k0 k1 k2 v d k5 k6 k7 k8 k9 k10 h.first
  have c9 := r11valid_c b hw
  refine pure_sk (own := ow0) Tryz.func3 (by kernel_rfl) mixed (by kernel_rfl)
    (.sc (true) 7 ([]) (AV.bool true) (.sc (true) 8 ([AV.isl (81) (1) fun (r k : Nat) => atL (List.getD [Chn.cells h] (r + 0) []) k]) (AV.bool !longK h) (.br (!!longK h || decide ((↑m : Int) > (60 : Int))) (.sc (true) 7 ([]) (AV.bool true) (.out (AV.bool true) [] (AV.bool true) [])) (.sc (true) 9 ([AV.agg (Bas.cells b), AV.agg (Coin.cells c), AV.agg (u8c f), Zi t, Zi n]) (AV.tup [Cxt.av X, Zi e]) (.sc (true) 10 ([AV.agg (Chn.cells h)]) (AV.agg (u8c D)) (.sc (true) 11 ([AV.agg (Chn.cells h)]) (AV.agg (u8c D)) (.br (!(D (0) == D (0) && (D (1) == D (1) && (D (2) == D (2) && (D (3) == D (3) && (D (4) == D (4) && (D (5) == D (5) && (D (6) == D (6) && (D (7) == D (7) && (D (8) == D (8) && (D (9) == D (9) && (D (10) == D (10) && (D (11) == D (11) && (D (12) == D (12) && (D (13) == D (13) && (D (14) == D (14) && (D (15) == D (15) && (D (16) == D (16) && (D (17) == D (17) && (D (18) == D (18) && (D (19) == D (19) && (D (20) == D (20) && (D (21) == D (21) && (D (22) == D (22) && (D (23) == D (23) && (D (24) == D (24) && (D (25) == D (25) && (D (26) == D (26) && (D (27) == D (27) && (D (28) == D (28) && (D (29) == D (29) && (D (30) == D (30) && (D (31) == D (31) && true))))))))))))))))))))))))))))))))) (.out (AV.bool false) [] (AV.bool true) []) (.sc (true) 12 ([AV.isl (11) m fun (i j : Nat) => Zi (R i j), AV.agg (Chn.cells h)]) (AV.tup [Zi (caV R m (Chn.first h)), Zi (caE R m (Chn.first h))]) (.sc (true) 13 ([AV.isl (11) m fun (i j : Nat) => Zi (R i j), AV.agg (Zi (Chn.first h).1 :: Zi (Chn.first h).2 :: Zi (Chn.first h).3 :: Zi (Chn.first h).4 :: Zi (Chn.first h).5 :: (u8c (Chn.first h).6 ++ [Zi (Chn.first h).7, Zi (Chn.first h).8, Zi (Chn.first h).9, Zi (Chn.first h).10]))]) (AV.tup [recA R m (Spend.coin (Chn.first h)), AV.bool (decide (recF R m (Spend.coin (Chn.first h)) ≥ (0 : Int)))]) (.br (!decide (recF R m (Spend.coin h.1) ≥ (0 : Int))) (.br (caV R m h.1 != (0 : Int) || caE R m h.1 != (18 : Int)) (.out (AV.bool false) [] (AV.bool true) []) (.sc (true) 15 ([AV.agg (Bas.cells b)]) (AV.bool (validB b)) (.br (!validB b) (.out (AV.bool (X.1 (0) == (0 : Int) && (X.1 (1) == (0 : Int) && (X.1 (2) == (0 : Int) && (X.1 (3) == (0 : Int) && (X.1 (4) == (0 : Int) && (X.1 (5) == (0 : Int) && (X.1 (6) == (0 : Int) && (X.1 (7) == (0 : Int) && (X.1 (8) == (0 : Int) && (X.1 (9) == (0 : Int) && (X.1 (10) == (0 : Int) && (X.1 (11) == (0 : Int) && (X.1 (12) == (0 : Int) && (X.1 (13) == (0 : Int) && (X.1 (14) == (0 : Int) && (X.1 (15) == (0 : Int) && (X.1 (16) == (0 : Int) && (X.1 (17) == (0 : Int) && (X.1 (18) == (0 : Int) && (X.1 (19) == (0 : Int) && (X.1 (20) == (0 : Int) && (X.1 (21) == (0 : Int) && (X.1 (22) == (0 : Int) && (X.1 (23) == (0 : Int) && (X.1 (24) == (0 : Int) && (X.1 (25) == (0 : Int) && (X.1 (26) == (0 : Int) && (X.1 (27) == (0 : Int) && (X.1 (28) == (0 : Int) && (X.1 (29) == (0 : Int) && (X.1 (30) == (0 : Int) && (X.1 (31) == (0 : Int) && true))))))))))))))))))))))))))))))) && (X.2 == (0 : Int) && (X.3 == (0 : Int) && true)) && e == (1 : Int))) [] (AV.bool true) []) (.br (decide (t < (0 : Int)) || decide (t > (1099511627776 : Int)) || decide (n < (0 : Int)) || decide (n > (1073741824 : Int))) (.out (AV.bool (X.1 (0) == (0 : Int) && (X.1 (1) == (0 : Int) && (X.1 (2) == (0 : Int) && (X.1 (3) == (0 : Int) && (X.1 (4) == (0 : Int) && (X.1 (5) == (0 : Int) && (X.1 (6) == (0 : Int) && (X.1 (7) == (0 : Int) && (X.1 (8) == (0 : Int) && (X.1 (9) == (0 : Int) && (X.1 (10) == (0 : Int) && (X.1 (11) == (0 : Int) && (X.1 (12) == (0 : Int) && (X.1 (13) == (0 : Int) && (X.1 (14) == (0 : Int) && (X.1 (15) == (0 : Int) && (X.1 (16) == (0 : Int) && (X.1 (17) == (0 : Int) && (X.1 (18) == (0 : Int) && (X.1 (19) == (0 : Int) && (X.1 (20) == (0 : Int) && (X.1 (21) == (0 : Int) && (X.1 (22) == (0 : Int) && (X.1 (23) == (0 : Int) && (X.1 (24) == (0 : Int) && (X.1 (25) == (0 : Int) && (X.1 (26) == (0 : Int) && (X.1 (27) == (0 : Int) && (X.1 (28) == (0 : Int) && (X.1 (29) == (0 : Int) && (X.1 (30) == (0 : Int) && (X.1 (31) == (0 : Int) && true))))))))))))))))))))))))))))))) && (X.2 == (0 : Int) && (X.3 == (0 : Int) && true)) && e == (2 : Int))) [] (AV.bool true) []) (.sc (true) 16 ([AV.agg (Coin.cells c), AV.agg (u8c f)]) (AV.agg (u8c N)) (.out (AV.bool (X.1 (0) == N (0) && (X.1 (1) == N (1) && (X.1 (2) == N (2) && (X.1 (3) == N (3) && (X.1 (4) == N (4) && (X.1 (5) == N (5) && (X.1 (6) == N (6) && (X.1 (7) == N (7) && (X.1 (8) == N (8) && (X.1 (9) == N (9) && (X.1 (10) == N (10) && (X.1 (11) == N (11) && (X.1 (12) == N (12) && (X.1 (13) == N (13) && (X.1 (14) == N (14) && (X.1 (15) == N (15) && (X.1 (16) == N (16) && (X.1 (17) == N (17) && (X.1 (18) == N (18) && (X.1 (19) == N (19) && (X.1 (20) == N (20) && (X.1 (21) == N (21) && (X.1 (22) == N (22) && (X.1 (23) == N (23) && (X.1 (24) == N (24) && (X.1 (25) == N (25) && (X.1 (26) == N (26) && (X.1 (27) == N (27) && (X.1 (28) == N (28) && (X.1 (29) == N (29) && (X.1 (30) == N (30) && (X.1 (31) == N (31) && true))))))))))))))))))))))))))))))) && (X.2 == t && (X.3 == n && true)) && e == (0 : Int))) [] (AV.bool true) [])))))) (.sc (true) 14 ([AV.agg [Zi (recC R m (Spend.coin h.1) (0)), Zi (recC R m (Spend.coin h.1) (1)), Zi (recC R m (Spend.coin h.1) (2)), Zi (recC R m (Spend.coin h.1) (3)), Zi (recC R m (Spend.coin h.1) (4)), Zi (recC R m (Spend.coin h.1) (5)), Zi (recC R m (Spend.coin h.1) (6)), Zi (recC R m (Spend.coin h.1) (7)), Zi (recC R m (Spend.coin h.1) (8)), Zi (recC R m (Spend.coin h.1) (9)), Zi (recC R m (Spend.coin h.1) (10))], AV.agg (Spend.cells (Chn.first h))]) (AV.tup [Zi (amV (recC R m (Spend.coin h.1) (3)) (recC R m (Spend.coin h.1) (4)) (Spend.level (Chn.first h)) (Spend.index (Chn.first h))), Zi (amE (recC R m (Spend.coin h.1) (3)) (recC R m (Spend.coin h.1) (4)) (Spend.level (Chn.first h)) (Spend.index (Chn.first h)))]) (.br (caV R m h.1 != amV (recC R m (Spend.coin h.1) (3)) (recC R m (Spend.coin h.1) (4)) (Chn.first h).11 (Chn.first h).12 || caE R m h.1 != amE (recC R m (Spend.coin h.1) (3)) (recC R m (Spend.coin h.1) (4)) (Chn.first h).11 (Chn.first h).12) (.out (AV.bool false) [] (AV.bool true) []) (.sc (true) 15 ([AV.agg (Bas.cells b)]) (AV.bool (validB b)) (.br (!validB b) (.out (AV.bool (X.1 (0) == (0 : Int) && (X.1 (1) == (0 : Int) && (X.1 (2) == (0 : Int) && (X.1 (3) == (0 : Int) && (X.1 (4) == (0 : Int) && (X.1 (5) == (0 : Int) && (X.1 (6) == (0 : Int) && (X.1 (7) == (0 : Int) && (X.1 (8) == (0 : Int) && (X.1 (9) == (0 : Int) && (X.1 (10) == (0 : Int) && (X.1 (11) == (0 : Int) && (X.1 (12) == (0 : Int) && (X.1 (13) == (0 : Int) && (X.1 (14) == (0 : Int) && (X.1 (15) == (0 : Int) && (X.1 (16) == (0 : Int) && (X.1 (17) == (0 : Int) && (X.1 (18) == (0 : Int) && (X.1 (19) == (0 : Int) && (X.1 (20) == (0 : Int) && (X.1 (21) == (0 : Int) && (X.1 (22) == (0 : Int) && (X.1 (23) == (0 : Int) && (X.1 (24) == (0 : Int) && (X.1 (25) == (0 : Int) && (X.1 (26) == (0 : Int) && (X.1 (27) == (0 : Int) && (X.1 (28) == (0 : Int) && (X.1 (29) == (0 : Int) && (X.1 (30) == (0 : Int) && (X.1 (31) == (0 : Int) && true))))))))))))))))))))))))))))))) && (X.2 == (0 : Int) && (X.3 == (0 : Int) && true)) && e == (1 : Int))) [] (AV.bool true) []) (.br (decide (t < (0 : Int)) || decide (t > (1099511627776 : Int)) || decide (n < (0 : Int)) || decide (n > (1073741824 : Int))) (.out (AV.bool (X.1 (0) == (0 : Int) && (X.1 (1) == (0 : Int) && (X.1 (2) == (0 : Int) && (X.1 (3) == (0 : Int) && (X.1 (4) == (0 : Int) && (X.1 (5) == (0 : Int) && (X.1 (6) == (0 : Int) && (X.1 (7) == (0 : Int) && (X.1 (8) == (0 : Int) && (X.1 (9) == (0 : Int) && (X.1 (10) == (0 : Int) && (X.1 (11) == (0 : Int) && (X.1 (12) == (0 : Int) && (X.1 (13) == (0 : Int) && (X.1 (14) == (0 : Int) && (X.1 (15) == (0 : Int) && (X.1 (16) == (0 : Int) && (X.1 (17) == (0 : Int) && (X.1 (18) == (0 : Int) && (X.1 (19) == (0 : Int) && (X.1 (20) == (0 : Int) && (X.1 (21) == (0 : Int) && (X.1 (22) == (0 : Int) && (X.1 (23) == (0 : Int) && (X.1 (24) == (0 : Int) && (X.1 (25) == (0 : Int) && (X.1 (26) == (0 : Int) && (X.1 (27) == (0 : Int) && (X.1 (28) == (0 : Int) && (X.1 (29) == (0 : Int) && (X.1 (30) == (0 : Int) && (X.1 (31) == (0 : Int) && true))))))))))))))))))))))))))))))) && (X.2 == (0 : Int) && (X.3 == (0 : Int) && true)) && e == (2 : Int))) [] (AV.bool true) []) (.sc (true) 16 ([AV.agg (Coin.cells c), AV.agg (u8c f)]) (AV.agg (u8c N)) (.out (AV.bool (X.1 (0) == N (0) && (X.1 (1) == N (1) && (X.1 (2) == N (2) && (X.1 (3) == N (3) && (X.1 (4) == N (4) && (X.1 (5) == N (5) && (X.1 (6) == N (6) && (X.1 (7) == N (7) && (X.1 (8) == N (8) && (X.1 (9) == N (9) && (X.1 (10) == N (10) && (X.1 (11) == N (11) && (X.1 (12) == N (12) && (X.1 (13) == N (13) && (X.1 (14) == N (14) && (X.1 (15) == N (15) && (X.1 (16) == N (16) && (X.1 (17) == N (17) && (X.1 (18) == N (18) && (X.1 (19) == N (19) && (X.1 (20) == N (20) && (X.1 (21) == N (21) && (X.1 (22) == N (22) && (X.1 (23) == N (23) && (X.1 (24) == N (24) && (X.1 (25) == N (25) && (X.1 (26) == N (26) && (X.1 (27) == N (27) && (X.1 (28) == N (28) && (X.1 (29) == N (29) && (X.1 (30) == N (30) && (X.1 (31) == N (31) && true))))))))))))))))))))))))))))))) && (X.2 == t && (X.3 == n && true)) && e == (0 : Int))) [] (AV.bool true) [])))))))))))))))))
    (by kernel_rfl) ?_
  refine k_sc (awake35_c) ?_
  refine k_sc (c1) ?_
  refine k_br (fun h2 => ?_) (fun h2 => ?_)
  · have g2 := (cnd_or_t (cnd_not_t (cnd_not_f cnd_id_t)) cnd_dec_t) h2
    refine k_sc (awake35_c) ?_
    exact k_out (Ent.of_eq (by first | rfl | simp_all))
  · have g2 := (cnd_or_f (cnd_not_f (cnd_not_t cnd_id_f)) cnd_dec_f) h2
    refine k_sc (c2) ?_
    refine k_sc (c3 (by first | exact g2.1 | omega)) ?_
    refine k_sc (c4 (by first | exact g2.1 | omega)) ?_
    refine k_br (fun h8 => ?_) (fun h8 => ?_)
    · have g8 := (cnd_not_t (cnd_and_f cnd_beq_f (cnd_and_f cnd_beq_f (cnd_and_f cnd_beq_f (cnd_and_f cnd_beq_f (cnd_and_f cnd_beq_f (cnd_and_f cnd_beq_f (cnd_and_f cnd_beq_f (cnd_and_f cnd_beq_f (cnd_and_f cnd_beq_f (cnd_and_f cnd_beq_f (cnd_and_f cnd_beq_f (cnd_and_f cnd_beq_f (cnd_and_f cnd_beq_f (cnd_and_f cnd_beq_f (cnd_and_f cnd_beq_f (cnd_and_f cnd_beq_f (cnd_and_f cnd_beq_f (cnd_and_f cnd_beq_f (cnd_and_f cnd_beq_f (cnd_and_f cnd_beq_f (cnd_and_f cnd_beq_f (cnd_and_f cnd_beq_f (cnd_and_f cnd_beq_f (cnd_and_f cnd_beq_f (cnd_and_f cnd_beq_f (cnd_and_f cnd_beq_f (cnd_and_f cnd_beq_f (cnd_and_f cnd_beq_f (cnd_and_f cnd_beq_f (cnd_and_f cnd_beq_f (cnd_and_f cnd_beq_f (cnd_and_f cnd_beq_f cnd_id_f))))))))))))))))))))))))))))))))) h8
      exact k_out (Ent.of_eq (congrArg AV.bool (by exfalso; simp at h8)))
    · have g8 := (cnd_not_f (cnd_and_t cnd_beq_t (cnd_and_t cnd_beq_t (cnd_and_t cnd_beq_t (cnd_and_t cnd_beq_t (cnd_and_t cnd_beq_t (cnd_and_t cnd_beq_t (cnd_and_t cnd_beq_t (cnd_and_t cnd_beq_t (cnd_and_t cnd_beq_t (cnd_and_t cnd_beq_t (cnd_and_t cnd_beq_t (cnd_and_t cnd_beq_t (cnd_and_t cnd_beq_t (cnd_and_t cnd_beq_t (cnd_and_t cnd_beq_t (cnd_and_t cnd_beq_t (cnd_and_t cnd_beq_t (cnd_and_t cnd_beq_t (cnd_and_t cnd_beq_t (cnd_and_t cnd_beq_t (cnd_and_t cnd_beq_t (cnd_and_t cnd_beq_t (cnd_and_t cnd_beq_t (cnd_and_t cnd_beq_t (cnd_and_t cnd_beq_t (cnd_and_t cnd_beq_t (cnd_and_t cnd_beq_t (cnd_and_t cnd_beq_t (cnd_and_t cnd_beq_t (cnd_and_t cnd_beq_t (cnd_and_t cnd_beq_t (cnd_and_t cnd_beq_t cnd_id_t))))))))))))))))))))))))))))))))) h8
      refine k_sc (c5 (by first | exact g2.1 | omega)) ?_
      refine k_sc (c6 (by first | exact g2.1 | omega)) ?_
      refine k_br (fun h12 => ?_) (fun h12 => ?_)
      · have g12 := (cnd_not_t cnd_dec_f) h12
        refine k_br (fun h13 => ?_) (fun h13 => ?_)
        · have g13 := (cnd_or_t cnd_bne_t cnd_bne_t) h13
          exact k_out (Ent.of_eq (congrArg AV.bool (by exfalso; rw [caV, caE, if_neg g12, if_neg g12] at g13; simp at g13)))
        · have g13 := (cnd_or_f cnd_bne_f cnd_bne_f) h13
          refine k_sc (c9) ?_
          refine k_br (fun h16 => ?_) (fun h16 => ?_)
          · have g16 := (cnd_not_t cnd_id_f) h16
            exact k_out (Ent.of_eq (congrArg AV.bool (by obtain ⟨rfl, rfl⟩ := f1 g16; rfl)))
          · have g16 := (cnd_not_f cnd_id_t) h16
            refine k_br (fun h18 => ?_) (fun h18 => ?_)
            · have g18 := (cnd_or_t (cnd_or_t (cnd_or_t cnd_dec_t cnd_dec_t) cnd_dec_t) cnd_dec_t) h18
              exact k_out (Ent.of_eq (congrArg AV.bool (by obtain ⟨rfl, rfl⟩ := f2 g16 (ctx_no2 (by omega)); rfl)))
            · have g18 := (cnd_or_f (cnd_or_f (cnd_or_f cnd_dec_f cnd_dec_f) cnd_dec_f) cnd_dec_f) h18
              refine k_sc (c8) ?_
              exact k_out (Ent.of_eq (congrArg AV.bool (by obtain ⟨rfl, rfl⟩ := f3 g16 (ctx_yes2 (by omega)); simp)))
      · have g12 := (cnd_not_f cnd_dec_t) h12
        refine k_sc (c7 (recC R m (Spend.coin h.1) (0)) (recC R m (Spend.coin h.1) (1)) (recC R m (Spend.coin h.1) (2)) (recC R m (Spend.coin h.1) (3)) (recC R m (Spend.coin h.1) (4)) (recC R m (Spend.coin h.1) (5)) (recC R m (Spend.coin h.1) (6)) (recC R m (Spend.coin h.1) (7)) (recC R m (Spend.coin h.1) (8)) (recC R m (Spend.coin h.1) (9)) (recC R m (Spend.coin h.1) (10))) ?_
        refine k_br (fun h23 => ?_) (fun h23 => ?_)
        · have g23 := (cnd_or_t cnd_bne_t cnd_bne_t) h23
          exact k_out (Ent.of_eq (congrArg AV.bool (by exfalso; rw [caV, caE, if_pos g12, if_pos g12] at g23; simp at g23)))
        · have g23 := (cnd_or_f cnd_bne_f cnd_bne_f) h23
          refine k_sc (c9) ?_
          refine k_br (fun h26 => ?_) (fun h26 => ?_)
          · have g26 := (cnd_not_t cnd_id_f) h26
            exact k_out (Ent.of_eq (congrArg AV.bool (by obtain ⟨rfl, rfl⟩ := f1 g26; rfl)))
          · have g26 := (cnd_not_f cnd_id_t) h26
            refine k_br (fun h28 => ?_) (fun h28 => ?_)
            · have g28 := (cnd_or_t (cnd_or_t (cnd_or_t cnd_dec_t cnd_dec_t) cnd_dec_t) cnd_dec_t) h28
              exact k_out (Ent.of_eq (congrArg AV.bool (by obtain ⟨rfl, rfl⟩ := f2 g26 (ctx_no2 (by omega)); rfl)))
            · have g28 := (cnd_or_f (cnd_or_f (cnd_or_f cnd_dec_f cnd_dec_f) cnd_dec_f) cnd_dec_f) h28
              refine k_sc (c8) ?_
              exact k_out (Ent.of_eq (congrArg AV.bool (by obtain ⟨rfl, rfl⟩ := f3 g26 (ctx_yes2 (by omega)); simp)))

theorem chainContexts_c (b : Bas) (c : Coin) (f : Nat → Int) (t n : Int) (R : Nat → Nat → Int) (m : Nat) (h : Chn) (hw : b.gr.W) (hh : h.n < 9223372036854775808) (hr : byB c.root 32) (hf : byB f 32) (hb : ∀ i, i < h.n + 1 → (chnS h i).SB) :
    Pure Tryz.prog gl0 3 [b.av, c.av, .agg (u8c f), .int .i64 t, .int .i64 n, recs m R, h.av] (.bool true) :=
  law_w b c f t n R m h hw (ccX b c f t n) (ccE b t n) (nameF c f) (chnD h) hh (ccontext_c b c f t n hw hr hf) (fun hl => cdigest_c h (longK_sm hl hb).1 (longK_sm hl hb).2) (fun hl => rcdigest_c h (longK_sm hl hb).1 (longK_sm hl hb).2) (rname_c c f hr hf)
    (fun h1 => cc_1 h1) (fun h1 h2 => cc_2 h1 h2) (fun h1 h2 => cc_0 h1 h2)

end Go.Proofs.YtmhipmiacghgeaaGreatDoor

namespace Go.Sp
open Go Go.Am

def u8s (n : Nat) : List CT := List.replicate n (.int .u8)
def spendT : List CT := [.int .i64, .int .i64, .int .i64, .int .i64, .int .i64] ++ u8s 32 ++ [.int .i64, .int .i64, .int .i64, .int .i64, .int .i64, .int .i64] ++ u8s 32 ++ [.int .i64, .int .i64, .sl [.int .i64, .int .i64, .int .i64], .int .i64, .sl (u8s 32)]

/-- The spend with these cells. -/
def spendOf (g : Nat → AV) : Spend :=
  { bank := intOfAV (g 0), epoch := intOfAV (g 1), denom := intOfAV (g 2), depth := intOfAV (g 3), a := intOfAV (g 4), root := fun j => intOfAV (g (5 + j)),
    z := intOfAV (g 37), sa := intOfAV (g 38), sb := intOfAV (g 39), r := intOfAV (g 40), level := intOfAV (g 41), index := intOfAV (g 42), payee := fun j => intOfAV (g (43 + j)),
    time := intOfAV (g 75), number := intOfAV (g 76), nl := islN (g 77), lf := fun i j => intOfAV (islF (g 77) i j), pidx := intOfAV (g 78), np := islN (g 79), pf := fun i j => intOfAV (islF (g 79) i j) }

set_option maxRecDepth 100000 in
theorem spend_of {w : World} {cs : List Value} (h : Fits w spendT cs) : ∃ s : Spend, Rel noB w s.av (.agg cs.toArray) := by
  obtain ⟨g, hg⟩ := h.pick
  refine ⟨spendOf g, h.agg hg ?_⟩
  show EntL [] _ (Spend.cw (spendOf g) (.isl 3 (islN (g 77)) fun i j => .int .i64 (intOfAV (islF (g 77) i j))) (.isl 32 (islN (g 79)) fun i j => .int .u8 (intOfAV (islF (g 79) i j))))
  have hl : ∀ os, Ent os (g 77) (.isl 3 (islN (g 77)) fun i j => .int .i64 (intOfAV (islF (g 77) i j))) := fun os => canonL (cs := [.int .i64, .int .i64, .int .i64]) (hg 77 _ rfl).1 rfl
  have hp : ∀ os, Ent os (g 79) (.isl 32 (islN (g 79)) fun i j => .int .u8 (intOfAV (islF (g 79) i j))) := fun os => canonL (cs := u8s 32) (hg 79 _ rfl).1 rfl
  have hi : ∀ os j k, spendT[j]? = some (.int k) → Ent os (g j) (.int k (intOfAV (g j))) := fun os j k hj => canonI (hg j _ hj).1
  unfold Spend.cw
  exact ⟨hi _ 0 _ rfl, hi _ 1 _ rfl, hi _ 2 _ rfl, hi _ 3 _ rfl, hi _ 4 _ rfl, hi _ 5 _ rfl, hi _ 6 _ rfl, hi _ 7 _ rfl, hi _ 8 _ rfl, hi _ 9 _ rfl, hi _ 10 _ rfl, hi _ 11 _ rfl, hi _ 12 _ rfl, hi _ 13 _ rfl, hi _ 14 _ rfl, hi _ 15 _ rfl, hi _ 16 _ rfl, hi _ 17 _ rfl, hi _ 18 _ rfl, hi _ 19 _ rfl, hi _ 20 _ rfl, hi _ 21 _ rfl, hi _ 22 _ rfl, hi _ 23 _ rfl, hi _ 24 _ rfl, hi _ 25 _ rfl, hi _ 26 _ rfl, hi _ 27 _ rfl, hi _ 28 _ rfl, hi _ 29 _ rfl, hi _ 30 _ rfl, hi _ 31 _ rfl, hi _ 32 _ rfl, hi _ 33 _ rfl, hi _ 34 _ rfl, hi _ 35 _ rfl, hi _ 36 _ rfl, hi _ 37 _ rfl, hi _ 38 _ rfl, hi _ 39 _ rfl, hi _ 40 _ rfl, hi _ 41 _ rfl, hi _ 42 _ rfl, hi _ 43 _ rfl, hi _ 44 _ rfl, hi _ 45 _ rfl, hi _ 46 _ rfl, hi _ 47 _ rfl, hi _ 48 _ rfl, hi _ 49 _ rfl, hi _ 50 _ rfl, hi _ 51 _ rfl, hi _ 52 _ rfl, hi _ 53 _ rfl, hi _ 54 _ rfl, hi _ 55 _ rfl, hi _ 56 _ rfl, hi _ 57 _ rfl, hi _ 58 _ rfl, hi _ 59 _ rfl, hi _ 60 _ rfl, hi _ 61 _ rfl, hi _ 62 _ rfl, hi _ 63 _ rfl, hi _ 64 _ rfl, hi _ 65 _ rfl, hi _ 66 _ rfl, hi _ 67 _ rfl, hi _ 68 _ rfl, hi _ 69 _ rfl, hi _ 70 _ rfl, hi _ 71 _ rfl, hi _ 72 _ rfl, hi _ 73 _ rfl, hi _ 74 _ rfl, hi _ 75 _ rfl, hi _ 76 _ rfl, hl _, hi _ 78 _ rfl, hp _, trivial⟩

end Go.Sp

namespace Go.Sp
open Go Go.Am

def i64s (n : Nat) : List CT := List.replicate n (.int .i64)
def chnT : List CT := spendT ++ [.sl spendT]
def escT : List CT := [.int .i64, .int .i64, .sl [.int .i64], .int .i64, .sl [.int .i64]]
def payT : List CT := [.int .i64, .sl spendT, .sl chnT, .sl escT]
def invT : List CT := u8s 32 ++ i64s 3

def chnOf (g : Nat → AV) : Chn := ⟨spendOf g, islN (g 80), fun i => spendOf (islF (g 80) i)⟩
def escOf (g : Nat → AV) : Esc := ⟨intOfAV (g 0), intOfAV (g 1), islN (g 2), fun i => intOfAV (islF (g 2) i 0), intOfAV (g 3), islN (g 4), fun i => intOfAV (islF (g 4) i 0)⟩
def payOf (g : Nat → AV) : Pay := ⟨intOfAV (g 0), islN (g 1), fun i => spendOf (islF (g 1) i), islN (g 2), fun i => chnOf (islF (g 2) i), islN (g 3), fun i => escOf (islF (g 3) i)⟩
def invOf (g : Nat → AV) : Inv := ⟨fun j => intOfAV (g j), intOfAV (g 32), intOfAV (g 33), intOfAV (g 34)⟩

set_option maxRecDepth 100000 in
theorem pay_of {w : World} {cs : List Value} (h : Fits w payT cs) : ∃ p : Pay, Rel noB w p.av (.agg cs.toArray) ∧ p.nc ≤ maxLen ∧ ∀ i, i < p.nc → (p.ch i).n ≤ maxLen := by
  obtain ⟨g, hg, hr⟩ := h.canon
  have h2 := (hg 2 (.sl chnT) rfl).sl_inv
  refine ⟨payOf g, ?_, h2.1, fun i hi => ((h2.2 i 80 (.sl spendT) hi rfl).sl_inv).1⟩
  exact hr

set_option maxRecDepth 100000 in
theorem inv_of {w : World} {cs : List Value} (h : Fits w invT cs) : ∃ p : Inv, Rel noB w p.av (.agg cs.toArray) := by
  obtain ⟨g, hg, hr⟩ := h.canon
  exact ⟨invOf g, hr⟩

end Go.Sp

namespace Go.Sp
open Go Go.Am
def coinT : List CT := i64s 5 ++ u8s 32 ++ i64s 4
def ctxT : List CT := u8s 32 ++ i64s 2
def basOf (g : Nat → AV) : Bas := ⟨⟨intOfAV (g 0), intOfAV (g 1), intOfAV (g 2)⟩, intOfAV (g 3), intOfAV (g 4), intOfAV (g 5)⟩
def coinOf (g : Nat → AV) : Coin := ⟨intOfAV (g 0), intOfAV (g 1), intOfAV (g 2), intOfAV (g 3), intOfAV (g 4), fun j => intOfAV (g (5 + j)), intOfAV (g 37), intOfAV (g 38), intOfAV (g 39), intOfAV (g 40)⟩
def cxtOf (g : Nat → AV) : Cxt := ⟨fun j => intOfAV (g j), intOfAV (g 32), intOfAV (g 33)⟩
theorem cell_i64 {a : AV} (h : CellOk (.int .i64) a) : -9223372036854775808 ≤ intOfAV a ∧ intOfAV a ≤ 9223372036854775807 := by
  obtain ⟨h1, h2⟩ := (Lit.wf_int_iff _ _).1 h.int_inv
  exact ⟨Int.le_trans (by decide) h1, Int.le_trans h2 (by decide)⟩
theorem cell_u8 {a : AV} (h : CellOk (.int .u8) a) : 0 ≤ intOfAV a ∧ intOfAV a < 256 := by
  obtain ⟨h1, h2⟩ := (Lit.wf_int_iff _ _).1 h.int_inv
  exact ⟨Int.le_trans (by decide) h1, Int.lt_of_le_of_lt h2 (by decide)⟩
theorem u8_by {ts : List CT} {g : Nat → AV} {k n : Nat} (h : ∀ (j : Nat) c, ts[j]? = some c → CellOk c (g j)) (ht : ∀ j, j < n → ts[k + j]? = some (.int .u8)) : byB (fun j => intOfAV (g (k + j))) n := fun i hi => cell_u8 (h (k + i) _ (ht i hi))
theorem coinT_u8 : ∀ j, j < 32 → coinT[5 + j]? = some (.int .u8) := fun j hj => by
  show ((i64s 5 ++ u8s 32) ++ i64s 4)[5 + j]? = _
  rw [List.getElem?_append_left (by simp only [i64s, u8s, List.length_append, List.length_replicate]; omega), List.getElem?_append_right (by simp only [i64s, List.length_replicate]; omega)]
  unfold u8s
  rw [List.getElem?_replicate, if_pos (by simp only [i64s, List.length_replicate]; omega)]
theorem ctxT_u8 : ∀ j, j < 32 → ctxT[j]? = some (.int .u8) := fun j hj => by
  show (u8s 32 ++ i64s 2)[j]? = _
  rw [List.getElem?_append_left (by simp only [u8s, List.length_replicate]; omega)]
  unfold u8s
  rw [List.getElem?_replicate, if_pos hj]
theorem coin_by {g : Nat → AV} (h : ∀ (j : Nat) c, coinT[j]? = some c → CellOk c (g j)) : byB (coinOf g).root 32 := u8_by (k := 5) h coinT_u8
theorem cxt_by {g : Nat → AV} (h : ∀ (j : Nat) c, ctxT[j]? = some c → CellOk c (g j)) : byB (cxtOf g).payee 32 := fun i hi => cell_u8 (h i _ (ctxT_u8 i hi))
theorem basOf_w {g : Nat → AV} (h : ∀ (j : Nat) c, (i64s 6)[j]? = some c → CellOk c (g j)) : (basOf g).gr.W :=
  ⟨(cell_i64 (h 0 _ rfl)).2, (cell_i64 (h 1 _ rfl)).2⟩
def spA : List CT := [.int .i64, .int .i64, .int .i64, .int .i64, .int .i64]
def spB : List CT := [.int .i64, .int .i64, .int .i64, .int .i64, .int .i64, .int .i64]
def spC : List CT := [.int .i64, .int .i64, .sl [.int .i64, .int .i64, .int .i64], .int .i64, .sl (u8s 32)]
theorem spendT_root : ∀ j, j < 32 → spendT[5 + j]? = some (.int .u8) := fun j hj => by
  show (((spA ++ u8s 32) ++ spB) ++ u8s 32 ++ spC)[5 + j]? = _
  rw [List.append_assoc, List.append_assoc, List.getElem?_append_left (by simp only [spA, u8s, List.length_append, List.length_replicate, List.length_cons, List.length_nil]; omega),
    List.getElem?_append_right (by show 5 ≤ _; omega)]
  unfold u8s
  rw [List.getElem?_replicate, if_pos (by show 5 + j - 5 < 32; omega)]
theorem spendT_payee : ∀ j, j < 32 → spendT[43 + j]? = some (.int .u8) := fun j hj => by
  show (((spA ++ u8s 32) ++ spB) ++ u8s 32 ++ spC)[43 + j]? = _
  have e : ((spA ++ u8s 32) ++ spB).length = 43 := by simp [spA, spB, u8s]
  rw [List.append_assoc, List.getElem?_append_right (by omega), e, List.getElem?_append_left (by simp only [u8s, List.length_replicate]; omega)]
  unfold u8s
  rw [List.getElem?_replicate, if_pos (by omega)]
theorem spend_by {g : Nat → AV} (h : ∀ (j : Nat) c, spendT[j]? = some c → CellOk c (g j)) : (spendOf g).By := ⟨u8_by (k := 5) h spendT_root, u8_by (k := 43) h spendT_payee⟩
end Go.Sp

namespace Go.Sp
open Go Go.Am
theorem u8s_at {k : Nat} (h : k < 32) : (u8s 32)[k]? = some (.int .u8) := by
  unfold u8s
  rw [List.getElem?_replicate, if_pos h]
theorem spend_sb {g : Nat → AV} (h : ∀ (j : Nat) c, spendT[j]? = some c → CellOk c (g j)) : (spendOf g).SB :=
  ⟨spend_by h, fun j hj k hk => cell_u8 ((h 79 (.sl (u8s 32)) rfl).sl_inv.2 j k (.int .u8) hj (u8s_at hk))⟩
theorem chn_sb {g : Nat → AV} (h : ∀ (j : Nat) c, chnT[j]? = some c → CellOk c (g j)) : ∀ i, i < (chnOf g).n + 1 → (chnS (chnOf g) i).SB := fun i hi => by
  cases i with
  | zero => exact spend_sb fun j c hj => h j c (by
      show (spendT ++ [.sl spendT])[j]? = _
      rw [List.getElem?_append_left (List.getElem?_eq_some_iff.1 hj).1]
      exact hj)
  | succ i => exact spend_sb fun j c hj => (h 80 (.sl spendT) rfl).sl_inv.2 i j c (Nat.lt_of_succ_lt_succ hi) hj
theorem chn_len {g : Nat → AV} (h : ∀ (j : Nat) c, chnT[j]? = some c → CellOk c (g j)) : (chnOf g).n < 9223372036854775808 :=
  Nat.lt_of_le_of_lt ((h 80 (.sl spendT) rfl).sl_inv).1 (by decide)
theorem hash_by {g : Nat → AV} (h : ∀ (j : Nat) c, (u8s 32)[j]? = some c → CellOk c (g j)) : byB (fun j => intOfAV (g j)) 32 := fun i hi => cell_u8 (h i _ (u8s_at hi))
end Go.Sp

namespace Go.Am
open Go

theorem laid_at {P : Program} {w : World} : ∀ {laid : List (String × DataW Unit)} {ps : List MemPlace}, DataW.LaidVars P w laid ps → ∀ {i : Nat} {n : String} {d : DataW Unit}, laid[i]? = some (n, d) →
    ∃ g t cs fuel p, P.globalNamed n = some g ∧ (P.globals[g]?).map (·.type) = some t ∧ w.var? P n = some cs ∧ DataW.trod (fun _ => ()) P w 0 (fun _ => true) false fuel t cs.toList = some (d, p)
  | [], _, _, i, n, d, h => by simp at h
  | (n', d') :: r, ps, ⟨g, t, cs, fuel, p, q, h1, h2, h3, h4, _, _⟩, 0, n, d, h => by
    simp only [List.getElem?_cons_zero, Option.some.injEq, Prod.mk.injEq] at h
    obtain ⟨rfl, rfl⟩ := h
    exact ⟨g, t, cs, fuel, p, h1, h2, h3, h4⟩
  | (n', d') :: r, ps, ⟨g, t, cs, fuel, p, q, h1, h2, h3, h4, h5, _⟩, i + 1, n, d, h => laid_at h5 (by simpa using h)

/-- Is the variable an array of so many integers? -/
def arrOk (P : Program) (g n : Nat) (k : IntKind) : Bool :=
  match (P.globals[g]?).map (·.type) with
  | some t =>
    match P.underlying t with
    | some (.array m e) =>
      match P.underlying e with
      | some (.int k') => Nat.beq m n && Nat.beq (P.cellsOf e) 1 && decide (k' = k)
      | _ => false
    | _ => false
  | none => false
theorem arrOk_inv {P : Program} {g n : Nat} {k : IntKind} (h : arrOk P g n k = true) : ∃ t e, (P.globals[g]?).map (·.type) = some t ∧ P.underlying t = some (.array n e) ∧ P.underlying e = some (.int k) ∧ P.cellsOf e = 1 := by
  unfold arrOk at h
  split at h
  · rename_i t ht
    split at h
    · rename_i m e hu
      split at h
      · rename_i k' he
        simp only [Bool.and_eq_true, decide_eq_true_eq, Nat.beq_eq] at h
        obtain ⟨⟨rfl, h2⟩, rfl⟩ := h
        exact ⟨t, e, ht, hu, he, h2⟩
      · cases h
    · cases h
  · cases h

theorem glob_ints {P : Program} {w : World} {β : Book} {laid : List (String × DataW Unit)} (h : laidMetH P laid w) (hp : (laid.all fun x => x.2.handleName?.isNone) = true) (i : Nat) (name : String) {g n : Nat}
    {k : IntKind} {F : Nat → Int} (hl : laid[i]? = some (name, .agg ((List.range n).map fun j => .lit (.int k (F j))))) (hg : P.globalNamed name = some g) (ho : arrOk P g n k = true) (hn : 0 < n) (hb : β.free g) : Rel β w (.ipt n fun j => .int k (F j)) (.pointer (some ⟨g, 0, none⟩)) := by
  obtain ⟨t, e, ht, hu, he, hc⟩ := arrOk_inv ho
  rw [MakeChecks.laidMetH_plain _ _ _ hp] at h
  obtain ⟨ps, hv, _, _⟩ := h
  obtain ⟨g', t', cs, fuel, p, h1, h2, h3, h4⟩ := laid_at hv hl
  obtain rfl := Option.some.inj (hg.symm.trans h1)
  obtain rfl := Option.some.inj (ht.symm.trans h2)
  obtain ⟨xs, m, rfl, hx, hlen, hxl, hel⟩ := DataW.trod_array hu h4
  simp only [Prod.mk.injEq, DataW.agg.injEq] at hx
  obtain ⟨hx, _⟩ := hx
  have cell : ∀ j, j < n → cs[j]? = some (.int k (F j)) := fun j hj => by
    have hj' := hel j hj
    rw [hc, Nat.mul_one, List.getElem?_eq_getElem (by omega : j < xs.length)] at hj'
    obtain ⟨v, e1, e2, _⟩ := DataW.trod_int he hj'
    have e3 : (xs.map (·.1))[j]? = some (.lit (.int k v)) := by rw [List.getElem?_map, List.getElem?_eq_getElem (by omega : j < xs.length), e2]; rfl
    rw [← hx] at e3
    simp only [List.getElem?_map, List.getElem?_range hj, Option.map_some, Option.some.injEq, DataW.lit.injEq, Lit.int.injEq, true_and] at e3
    subst e3
    have e4 : (List.take 1 (List.drop j cs.toList))[0]? = some (.int k (F j)) := by rw [e1]; rfl
    rw [List.getElem?_take_of_lt (by decide), List.getElem?_drop, Nat.add_zero] at e4
    simpa using e4
  refine .ipt (fun j => .int k (F j)) hn hb (fun j hj => ?_) (fun _ _ => rfl) (fun _ _ => .int) (fun _ _ => .int)
  rw [World.var?_cell hg h3]
  simpa using cell j hj
end Go.Am
