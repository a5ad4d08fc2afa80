/- Part of the proof: Chn2, HS22, HS23, HS24, HS25, HS26, HS27, Sha3, HS28, HS29, Tre, HV1, EnRound, Itr, HV2. -/
import Derived.Test.YtolcfdcoidpieaaGreatDoorM5
import Derived.Test.YtolcfdcoidpieaaGreatDoorProg
import Derived.Test.YtolcfdcoidpieaaGreatDoorM3
import Derived.OrdersIn
namespace Go.Sp
open Go Go.Am
def leafP (s : Spend) (k : Nat) : List Int := (List.range k).flatMap fun i => [s.lf i 0, s.lf i 1, s.lf i 2]
def pathC (s : Spend) (i : Nat) : It := match i with | 0 => .int s.pidx | j + 1 => .byt 32 (s.pf j)
def Spend.pathI (s : Spend) : It := .li (s.np + 1) (pathC s)
def Spend.it (s : Spend) : It := lsI [s.coin.it, intsI [s.level, s.index], .byt 32 s.payee, intsI [s.time, s.number], intsI (leafP s s.nl), s.pathI]
def Spend.dig (s : Spend) : Nat → Int := tagI "specie/spend-item".toUTF8 s.it
theorem leafP_succ (s : Spend) (k : Nat) : leafP s (k + 1) = leafP s k ++ [s.lf k 0, s.lf k 1, s.lf k 2] := by simp [leafP, List.range_succ]
theorem leafP_len (s : Spend) : ∀ k, (leafP s k).length = 3 * k
  | 0 => rfl
  | k + 1 => by rw [leafP_succ, List.length_append, leafP_len s k]; simp; omega
def hashI (n : Nat) (F : Nat → Nat → Int) : It := .li n fun i => .byt 32 (F i)
def two (f g : Nat → Int) (i : Nat) : Nat → Int := match i with | 0 => f | _ => g
def nameF (c : Coin) (h : Nat → Int) : Nat → Int := tagI "specie/chain-next".toUTF8 (hashI 2 (two c.dig h))
def chainF (S : Nat → Spend) (n : Nat) : Nat → Int := if n = 0 then fun _ => 0 else tagI "specie/chain".toUTF8 (hashI n fun i => (S i).dig)
theorem rvalid_d {n : Nat} {c : Nat → It} {d : Int} (h : (It.li n c).okD d = true) : 0 < d ∧ n ≤ 1000 ∧ ∀ i, i < n → (c i).okD (d - 1) = true := It.okD_li h
theorem leaf3_ob {os : List (Option Ob)} {s : Spend} {k : Nat} {mu : Bool} {X : List (List AV)} (hX : X = [[.int .i64 (s.lf k 0)], [.int .i64 (s.lf k 1)], [.int .i64 (s.lf k 2)]]) :
    ObEnt os ⟨1, (leafP s k).length + 3, mu, .fn fun i j => .int .i64 (bif Nat.blt i (leafP s k).length then (leafP s k).getD i 0 else intOfAV (atL (X.getD (i - (leafP s k).length) []) j))⟩ ⟨1, (leafP s (k + 1)).length, mu, .fn (ilF .i64 (leafP s (k + 1)))⟩ := by
  subst hX
  refine ⟨rfl, (by show (leafP s k).length + 3 = (leafP s (k + 1)).length; rw [leafP_len, leafP_len]; omega), rfl, fun i j hi hj => Ent.of_eq ?_⟩
  obtain rfl : j = 0 := Nat.lt_one_iff.1 hj
  have hi : i < (leafP s k).length + 3 := hi
  show AV.int .i64 (bif Nat.blt i (leafP s k).length then (leafP s k).getD i 0 else intOfAV (atL (List.getD _ (i - (leafP s k).length) []) 0)) = .int .i64 ((leafP s (k + 1)).getD i 0)
  rw [leafP_succ, getD_app]
  by_cases h : i < (leafP s k).length
  · rw [blt_t h]; rfl
  · rw [blt_f (by omega)]
    obtain ⟨q, hq⟩ : ∃ q, i - (leafP s k).length = q := ⟨_, rfl⟩
    have hq3 : q < 3 := by omega
    rw [hq]
    match q, hq3 with
    | 0, _ => rfl
    | 1, _ => rfl
    | 2, _ => rfl
theorem path_push {os : List (Option Ob)} {s : Spend} {k n : Nat} {mu : Bool} {x : List AV} (hn : n = k + 1 + 1) (h : EntL os x (It.byt 32 (s.pf k)).cells) :
    ObEnt os ⟨4, k + 1 + 1, mu, .cat (k + 1) (.row fun i => (pathC s i).cells) (.lst [x])⟩ ⟨4, n, mu, .row fun i => (pathC s i).cells⟩ :=
  ObEnt.catRow (c := fun i => (pathC s i).cells) (c' := fun i => (pathC s i).cells) hn (fun _ _ => EntL.refl _) h
theorem path_start {os : List (Option Ob)} {s : Spend} {mu : Bool} : ObEnt os ⟨4, 1, mu, .lst [[.int .i64 1, .int .i64 s.pidx, .nsl, .nsl]]⟩ ⟨4, 0 + 1, mu, .row fun i => (pathC s i).cells⟩ :=
  ⟨rfl, rfl, rfl, fun i j hi _ => by
    obtain rfl : i = 0 := Nat.lt_one_iff.1 hi
    exact Ent.atL (int_row rfl) j⟩
theorem liD_ok {n : Nat} {c : Nat → It} {d : Int} (hd : 0 < d) (hn : n ≤ 1000) (h : ∀ i, i < n → (c i).okD (d - 1) = true) : (It.li n c).okD d = true := by
  simp only [It.okD, Bool.and_eq_true, decide_eq_true_eq, List.all_eq_true, List.mem_range, Nat.ble_eq]
  exact ⟨⟨hd, hn⟩, h⟩
theorem lsI_ok {L : List It} {d : Int} (hd : 0 < d) (hn : L.length ≤ 1000) (h : ∀ x, x ∈ L → x.okD (d - 1) = true) : (lsI L).okD d = true := liD_ok hd hn fun i hi => by
  rw [show L.getD i (.int 0) = L[i] by simp [List.getD_eq_getElem?_getD, hi]]
  exact h _ (List.getElem_mem hi)
theorem intsI_ok {l : List Int} {d : Int} (hd : 0 < d) (hn : l.length ≤ 1000) : (intsI l).okD d = true := liD_ok hd hn fun _ _ => rfl
structure Spend.Sm (s : Spend) : Prop where
  by_ : s.By
  path : ∀ j, j < s.np → byB (s.pf j) 32
  nl : s.nl ≤ 40
  np : s.np ≤ 20
theorem coin_ok7 (c : Coin) : c.it.okD 7 = true := lsI_ok (by decide) (by simp) fun x hx => by
  simp only [List.mem_cons, List.not_mem_nil, or_false] at hx
  rcases hx with e | e | e
  · exact e ▸ intsI_ok (by decide) (by simp)
  · exact e ▸ rfl
  · exact e ▸ intsI_ok (by decide) (by simp)
theorem Spend.it_ok {s : Spend} (h : s.Sm) : s.it.okD 8 = true := lsI_ok (by decide) (by simp) fun x hx => by
  have h1 := h.nl; have h2 := h.np
  simp only [List.mem_cons, List.not_mem_nil, or_false] at hx
  rcases hx with e | e | e | e | e | e
  · exact e ▸ coin_ok7 _
  · exact e ▸ intsI_ok (by decide) (by simp)
  · exact e ▸ rfl
  · exact e ▸ intsI_ok (by decide) (by simp)
  · exact e ▸ intsI_ok (by decide) (by rw [leafP_len]; omega)
  · exact e ▸ liD_ok (by decide) (by omega) fun i _ => by cases i <;> rfl
theorem path_lenP (s : Spend) : ∀ k, (It.encP (s.np + 1) (pathC s) (k + 1)).length = 14 + 37 * k
  | 0 => by rw [It.encP_succ, It.encP_zero, List.length_append]; show _ + (It.int s.pidx).enc.length = _; rw [int_len]; simp [nbL_len]
  | k + 1 => by rw [It.encP_succ, List.length_append, path_lenP s k]; show _ + (It.byt 32 (s.pf k)).enc.length = _; rw [byt_len]; omega
theorem li6_len {a b c d e f : It} : (lsI [a, b, c, d, e, f]).enc.length = 5 + a.enc.length + b.enc.length + c.enc.length + d.enc.length + e.enc.length + f.enc.length := by
  show (It.encP 6 _ (0 + 1 + 1 + 1 + 1 + 1 + 1)).length = _
  rw [It.encP_succ, It.encP_succ, It.encP_succ, It.encP_succ, It.encP_succ, It.encP_succ, It.encP_zero]
  simp [nbL_len]; omega
theorem Spend.it_len {s : Spend} (h : s.Sm) : s.it.enc.length ≤ 16384 := by
  have h1 := h.nl; have h2 := h.np
  have hp : s.pathI.enc.length = 14 + 37 * s.np := path_lenP s s.np
  unfold Spend.it
  rw [li6_len, intsI_len, intsI_len, intsI_len, byt_len, hp, leafP_len, Coin.it_len]
  simp
  omega
theorem Spend.it_okB {s : Spend} (h : s.Sm) : s.it.okB := lsI_okB fun x hx => by
  simp only [List.mem_cons, List.not_mem_nil, or_false] at hx
  rcases hx with e | e | e | e | e | e
  · exact e ▸ Coin.it_okB h.by_.root
  · exact e ▸ intsI_okB _
  · exact e ▸ h.by_.payee
  · exact e ▸ intsI_okB _
  · exact e ▸ intsI_okB _
  · refine e ▸ ?_
    intro i hi
    cases i with
    | zero => trivial
    | succ j => exact h.path j (by omega)
theorem hash_ok {n : Nat} {F : Nat → Nat → Int} (h : n ≤ 1000) : (hashI n F).okD 8 = true := liD_ok (by decide) h fun _ _ => rfl
theorem hash_lenP (F : Nat → Nat → Int) (m : Nat) : ∀ k, (It.encP m (fun i => It.byt 32 (F i)) k).length = 5 + 37 * k
  | 0 => by rw [It.encP_zero]; simp [nbL_len]
  | k + 1 => by rw [It.encP_succ, List.length_append, hash_lenP F m k, byt_len]; omega
theorem hash_len (n : Nat) (F : Nat → Nat → Int) : (hashI n F).enc.length = 5 + 37 * n := hash_lenP F _ _
theorem hash_okB {n : Nat} {F : Nat → Nat → Int} (h : ∀ i, i < n → byB (F i) 32) : (hashI n F).okB := h
def hsN (n : Nat) (F : Nat → Nat → Int) : AV := .isl 32 n fun i j => .int .u8 (F i j)
def hI (F : Nat → Nat → Int) (i : Nat) : It := .byt 32 (F i)
theorem hash_push {os : List (Option Ob)} {F : Nat → Nat → Int} {k n : Nat} {mu : Bool} {g : Nat → Nat → Int} (hn : n = k + 1) (h : ∀ i, i < 32 → g i 0 = F k i) :
    ObEnt os ⟨4, k + 1, mu, .cat k (.row fun i => (hI F i).cells) (.lst [[.int .i64 2, .int .i64 0, .isl 1 32 fun i j => .int .u8 (g i j), .nsl]])⟩ ⟨4, n, mu, .row fun i => (hI F i).cells⟩ :=
  ObEnt.catRow (c := fun i => (hI F i).cells) (c' := fun i => (hI F i).cells) hn (fun _ _ => EntL.refl _) ⟨Ent.refl _, Ent.refl _, bys_eq (g := fun i _ => F k i) rfl h, Ent.nsl, trivial⟩
theorem hash_push2 {os : List (Option Ob)} {F : Nat → Nat → Int} {k n : Nat} {mu : Bool} {x : List AV} (hn : n = k + 1) (h : EntL os x (hI F k).cells) :
    ObEnt os ⟨4, k + 1, mu, .cat k (.row fun i => (hI F i).cells) (.lst [x])⟩ ⟨4, n, mu, .row fun i => (hI F i).cells⟩ :=
  ObEnt.catRow (c := fun i => (hI F i).cells) (c' := fun i => (hI F i).cells) hn (fun _ _ => EntL.refl _) h
theorem hash_arg {os : List (Option Ob)} {F : Nat → Nat → Int} {m n : Nat} (hn : m = n) : EntL os [.agg [.int .i64 3, .int .i64 0, .nsl, .isl 4 m fun r k => atL (hI F r).cells k]] [(hashI n F).av] := by
  subst hn
  exact ⟨Ent.agg ⟨Ent.refl _, Ent.refl _, Ent.nsl, Ent.refl _, trivial⟩, trivial⟩
end Go.Sp
namespace Go.Sp
open Go Go.Am
def chnS (h : Chn) (i : Nat) : Spend := match i with | 0 => h.first | j + 1 => h.l j
theorem u8_rows {os : List (Option Ob)} {n m : Nat} {F : Nat → Nat → Int} (hn : m = n) : Ent os (.isl 32 m fun r k => atL (u8c (F r)) k) (hsN n F) := by
  subst hn
  exact Ent.rows fun i _ => rfl
theorem two_rows {os : List (Option Ob)} {f g : Nat → Int} : Ent os (.isl 32 2 fun r k => atL (List.getD [u8c f, u8c g] r []) k) (hsN 2 (two f g)) := Ent.rows fun i hi => match i, hi with
  | 0, _ => rfl
  | 1, _ => rfl
theorem two_by {f g : Nat → Int} (hf : byB f 32) (hg : byB g 32) : ∀ i, i < 2 → byB (two f g i) 32 := fun i hi => match i, hi with
  | 0, _ => hf
  | 1, _ => hg
theorem Spend.dig_by (s : Spend) : byB s.dig 32 := fun i _ => sha_by _ _ i
end Go.Sp
namespace Go.Sp
open Go Go.Am
theorem chainF_0 {S : Nat → Spend} {n : Nat} (h : n = 0) : chainF S n = fun _ => 0 := if_pos h
theorem chainF_1 {S : Nat → Spend} {n : Nat} (h : ¬ n = 0) : chainF S n = tagI "specie/chain".toUTF8 (hashI n fun i => (S i).dig) := if_neg h
theorem spends_e {h : Chn} (i j : Nat) : mixA (Nat.blt (i + 0) 1) (atL (List.getD [Spend.cells h.first] (i + 0) []) j) (atL (Spend.cells (h.l (i + 0 - 1))) j) = atL (chnS h i).cells j := by
  cases i with
  | zero =>
    show mixA true _ _ = _
    rw [mixA_tt]
    rfl
  | succ i =>
    show mixA false _ _ = _
    rw [mixA_ff]
    rfl
end Go.Sp
namespace Go.Sp
open Go Go.Am
def chnD (h : Chn) : Nat → Int := if h.n > 8 then fun _ => 0 else chainF (chnS h) (h.n + 1)
def ccOk (b : Bas) (t n : Int) : Bool := validB b && ctxB t n
def ccE (b : Bas) (t n : Int) : Int := bif validB b then (bif ctxB t n then 0 else 2) else 1
def ccX (b : Bas) (c : Coin) (f : Nat → Int) (t n : Int) : Cxt := if ccOk b t n = true then ⟨nameF c f, t, n⟩ else ⟨fun _ => 0, 0, 0⟩
theorem cc_1 {b : Bas} {c : Coin} {f : Nat → Int} {t n : Int} (h : validB b = false) : ccX b c f t n = ⟨fun _ => 0, 0, 0⟩ ∧ ccE b t n = 1 := by
  unfold ccX ccE ccOk; rw [h]; exact ⟨rfl, rfl⟩
theorem cc_2 {b : Bas} {c : Coin} {f : Nat → Int} {t n : Int} (h : validB b = true) (h' : ctxB t n = false) : ccX b c f t n = ⟨fun _ => 0, 0, 0⟩ ∧ ccE b t n = 2 := by
  unfold ccX ccE ccOk; rw [h, h']; exact ⟨rfl, rfl⟩
theorem cc_0 {b : Bas} {c : Coin} {f : Nat → Int} {t n : Int} (h : validB b = true) (h' : ctxB t n = true) : ccX b c f t n = ⟨nameF c f, t, n⟩ ∧ ccE b t n = 0 := by
  unfold ccX ccE ccOk; rw [h, h']; exact ⟨rfl, rfl⟩
end Go.Sp
namespace Go.Sp
open Go Go.Am
theorem chnD_1 {h : Chn} (hn : h.n > 8) : chnD h = fun _ => 0 := if_pos hn
theorem chnD_0 {h : Chn} (hn : ¬ h.n > 8) : chnD h = chainF (chnS h) (h.n + 1) := if_neg hn
theorem ctx_no2 {t n : Int} (h : ¬ (0 ≤ t ∧ t ≤ 1099511627776 ∧ 0 ≤ n ∧ n ≤ 1073741824)) : ctxB t n = false := by
  unfold ctxB
  simp; omega
theorem ctx_yes2 {t n : Int} (h : 0 ≤ t ∧ t ≤ 1099511627776 ∧ 0 ≤ n ∧ n ≤ 1073741824) : ctxB t n = true := by
  unfold ctxB
  simp; omega
end Go.Sp
namespace Go.Sp
open Go Go.Am
def longK (h : Chn) : Bool := decide ((h.n : Int) > 12) || !fewB h.first || anyI (fun i => !fewB (h.l i)) h.n
end Go.Sp
namespace Go.Sp
open Go Go.Am
end Go.Sp
namespace Go.Sp
open Go Go.Am
def exB35 : Bas := ⟨⟨23, 11, 4⟩, 2, 3, 9⟩
theorem exB35_ok : validB exB35 = true := by decide +kernel
theorem exB35_w : exB35.gr.W := ⟨by decide, by decide⟩
def cA (a : Int) : Coin := ⟨0, 0, 0, 0, a, fun _ => 0, 0, 0, 0, 0⟩
end Go.Sp

namespace Go.Proofs.YtolcfdcoidpieaaGreatDoor
open Go Go.Am Go.Sp
set_option maxRecDepth 100000

theorem rvalid_int (n w : Int) : Pure Tryz.prog gl0 232 [.agg [.int .i64 1, .int .i64 n, bys 0 (fun _ => 0), .isl 4 0 (fun _ _ => .junk)], .int .i64 w] (.bool true) := by
  refine pure_sk (own := ow0) Tryz.func232 (by kernel_rfl) mixed (by kernel_rfl)
    (.tt (.out (AV.bool true) [] (AV.bool true) []))
    (by kernel_rfl) ?_
  refine k_tt ?_
  exact k_out (Ent.of_eq (by rfl))

theorem rvalid_byt (n : Nat) (f : Nat → Int) (w : Int) : Pure Tryz.prog gl0 232 [.agg [.int .i64 2, .int .i64 0, bys n f, .isl 4 0 (fun _ _ => .junk)], .int .i64 w] (.bool true) := by
  refine pure_sk (own := ow0) Tryz.func232 (by kernel_rfl) mixed (by kernel_rfl)
    (.ff (.tt (.out (AV.bool true) [] (AV.bool true) [])))
    (by kernel_rfl) ?_
  refine k_ff ?_
  refine k_tt ?_
  exact k_out (Ent.of_eq (by rfl))

theorem rvalid_lw (n : Nat) (c : Nat → It) (w : Int) (hw : 0 ≤ w ∧ w < 8) (hn : n ≤ 1000) (hc : ∀ i, i < n → Pure Tryz.prog gl0 232 [(c i).av, .int .i64 (w + 1)] (.bool true)) :
    Pure Tryz.prog gl0 232 [.agg [.int .i64 3, .int .i64 0, bys 0 (fun _ => 0), It.sl n c], .int .i64 w] (.bool true) := by
  have e : IntKind.wrap .i64 (w + 1) = w + 1 := wI (by omega) (by omega)
  rw [← e] at hc
  refine pure_sk (own := ow0) Tryz.func232 (by kernel_rfl) mixed (by kernel_rfl)
    (let y0 : List (Option Ob) := [some ⟨4, 1, true, Rep.lst [[Zi 3, Zi 0, AV.isl 1 0 fun (i x : Nat) => Zb 0, AV.isl 4 n fun (i j : Nat) => atL (It.cells (c i)) j]]⟩]; (.ff (.ff (.tt (.br (decide ((↑n : Int) > 1000) || w == 8) (.out (AV.bool false) [] (AV.bool true) []) (.loop ({ x : Nat // x ≤ n }) (fun (x : { x : Nat // x ≤ n }) => mkSt [1, 2, 5] [Zi w, AV.own 0 4 0 0 4, Zi (↑(x.1) : Int)] y0) (fun (x : { x : Nat // x ≤ n }) => n - x.1) (⟨0, Nat.zero_le n⟩) ([1, 2, 5]) ([0]) ([Zi w, AV.own 0 4 0 0 4, Zi 0]) (y0) (fun x5 => (.br (decide ((↑x5.1 : Int) < (↑n : Int))) (.req ((0 : Int) ≤ (↑x5.1 : Int) ∧ (↑x5.1 : Int) < (↑n : Int)) (.sc (true) 232 ([AV.agg [Zi (It.kind (c (Int.toNat (↑x5.1 : Int)))), Zi (It.num (c (Int.toNat (↑x5.1 : Int)))), AV.isl 1 (It.nb (c (Int.toNat (↑x5.1 : Int)))) fun (i x : Nat) => Zb (It.fb (c (Int.toNat (↑x5.1 : Int))) i), AV.isl 4 (It.nl (c (Int.toNat (↑x5.1 : Int)))) (It.row (c (Int.toNat (↑x5.1 : Int))))], Zi (IntKind.wrap IntKind.i64 (w + 1))]) (AV.bool true) (.ff (.again (Again 0 (fun (x : { x : Nat // x ≤ n }) => mkSt [1, 2, 5] [Zi w, AV.own 0 4 0 0 4, Zi (↑(x.1) : Int)] y0) (fun (x : { x : Nat // x ≤ n }) => n - x.1) x5) ([1, 2, 5]) ([0]) ([Zi w, AV.own 0 4 0 0 4, Zi (IntKind.wrap IntKind.i64 ((↑x5.1 : Int) + 1))]) (y0))))) (.out (AV.bool true) [] (AV.bool true) [])))))))))
    (by kernel_rfl) ?_
  refine k_ff ?_
  refine k_ff ?_
  refine k_tt ?_
  refine k_br (fun h3 => ?_) (fun h3 => ?_)
  · have g3 := (cnd_or_t cnd_dec_t cnd_beq_t) h3
    exact k_out ((by exfalso; omega))
  · have g3 := (cnd_or_f cnd_dec_f cnd_beq_f) h3
    refine k_loop (fun _ hs => hs.le (by repeat' (first | exact trivial | (first | exact Ent.refl _ | exact inc_ent (by omega) | exact Ent.nil rfl | exact Ent.of_eq (congrArg (AV.osl _ _ _) (by first | omega | (dsimp only; omega))) | exact Ent.of_eq (congrArg (AV.int _) (by omega))) | refine And.intro ?_ ?_)) (by repeat' (first | exact trivial | (first | exact ObEnt.refl _ | exact ObEnt.junk | exact ObEnt.zero | exact ObEnt.push rfl rfl | exact ObEnt.pushRow rfl | exact ObEnt.len (by omega) | exact ObEnt.row (by repeat' (first | exact trivial | (first | exact Ent.refl _ | exact inc_ent (by omega) | exact Ent.nil rfl | exact Ent.of_eq (congrArg (AV.osl _ _ _) (by first | omega | (dsimp only; omega))) | exact Ent.of_eq (congrArg (AV.int _) (by omega))) | refine And.intro ?_ ?_))) | refine And.intro ?_ ?_))) (fun x5 => ?_)
    try (have q5 := x5.2; dsimp only at q5)
    refine k_br (fun h6 => ?_) (fun h6 => ?_)
    · have g6 := cnd_dec_t h6
      refine k_req (by omega) ?_
      refine k_sc (hc (Int.toNat (↑x5.1 : Int)) (by omega)) ?_
      refine k_ff ?_
      exact k_again (⟨x5.1 + 1, by omega⟩) (fun _ hs => hs.le (by repeat' (first | exact trivial | (first | exact Ent.refl _ | exact inc_ent (by omega) | exact Ent.nil rfl | exact Ent.of_eq (congrArg (AV.osl _ _ _) (by first | omega | (dsimp only; omega))) | exact Ent.of_eq (congrArg (AV.int _) (by omega))) | refine And.intro ?_ ?_)) (by repeat' (first | exact trivial | (first | exact ObEnt.refl _ | exact ObEnt.junk | exact ObEnt.zero | exact ObEnt.push rfl rfl | exact ObEnt.pushRow rfl | exact ObEnt.len (by omega) | exact ObEnt.row (by repeat' (first | exact trivial | (first | exact Ent.refl _ | exact inc_ent (by omega) | exact Ent.nil rfl | exact Ent.of_eq (congrArg (AV.osl _ _ _) (by first | omega | (dsimp only; omega))) | exact Ent.of_eq (congrArg (AV.int _) (by omega))) | refine And.intro ?_ ?_))) | refine And.intro ?_ ?_))) (by (dsimp only; omega))
    · have g6 := cnd_dec_f h6
      exact k_out (Ent.of_eq (by rfl))

theorem rvalid_all : ∀ (x : It) (d : Int), 0 ≤ d ∧ d ≤ 8 → x.okD d = true → Pure Tryz.prog gl0 232 [x.av, .int .i64 (8 - d)] (.bool true)
  | .int n, d, _, _ => rvalid_int n (8 - d)
  | .byt n f, d, _, _ => rvalid_byt n f (8 - d)
  | .li n c, d, hd, h => by
    obtain ⟨h1, h2, h3⟩ := rvalid_d h
    refine rvalid_lw n c (8 - d) (by omega) h2 (fun i hi => ?_)
    have := rvalid_all (c i) (d - 1) (by omega) (h3 i hi)
    rw [show 8 - (d - 1) = 8 - d + 1 by omega] at this
    exact this

theorem rvalid_c (x : It) (h : x.okD 8 = true) : Pure Tryz.prog gl0 180 [x.av] (.bool true) := by
  have c1 := rvalid_all x 8 (by decide) h
  refine pure_sk (own := ow0) Tryz.func180 (by kernel_rfl) mixed (by kernel_rfl)
    (.sc (true) 232 ([AV.agg [Zi (It.kind x), Zi (It.num x), AV.isl 1 (It.nb x) fun (i x_1 : Nat) => Zb (It.fb x i), AV.isl 4 (It.nl x) (It.row x)], Zi 0]) (AV.bool true) (.out (AV.bool true) [] (AV.bool true) []))
    (by kernel_rfl) ?_
  refine k_sc (c1) ?_
  exact k_out (Ent.of_eq (by rfl))

theorem list6 (a b c d e f : It) : Pure Tryz.prog gl0 141 [.isl 4 6 fun r k => atL (List.getD [a.cells, b.cells, c.cells, d.cells, e.cells, f.cells] r []) k] (lsI [a, b, c, d, e, f]).av :=
  (list_c 6 _).ent (li_out (L := [a, b, c, d, e, f]) rfl fun i hi => match i, hi with
    | 0, _ | 1, _ | 2, _ | 3, _ | 4, _ | 5, _ => EntL.refl _)

theorem list_p (n : Nat) (c : Nat → It) : Pure Tryz.prog gl0 141 [It.sl n c] (It.li n c).av := (list_c n _).ent (Ent.agg ⟨Ent.refl _, Ent.refl _, Ent.nsl, Ent.refl _, trivial⟩)

theorem sitem_w (s : Spend) (hs : s.nl ≤ 1000) (hp : s.np ≤ 1000) : Pure Tryz.prog gl0 198 [s.av] s.it.av := by
  have c1 := citem_w s.coin
  have c2 := ints_2
  have c3 := bytes_c
  have c4 := fun k h => ints_c (leafP s k) h
  have c5 := fun n => list_p n (pathC s)
  have c6 := fun k n => list6 s.coin.it (intsI [s.level, s.index]) (.byt 32 s.payee) (intsI [s.time, s.number]) (intsI (leafP s k)) (.li n (pathC s))
  refine pure_sk (own := ow0) Tryz.func198 (by kernel_rfl) mixed (by kernel_rfl)
    (let y0 : List AV := [Zi 0, Zi 0, AV.nsl, AV.nsl]; (.loop ({ x : Nat // x ≤ Spend.nl s }) (fun (x : { x : Nat // x ≤ Spend.nl s }) => mkSt [1, 2, 10, 11, 12, 3] [AV.own 0 80 0 0 80, AV.own 1 4 0 0 4, AV.isl 3 s.16 fun (i j : Nat) => Zi (s.17 i j), Zi (↑s.16 : Int), Zi (↑(x.1) : Int), AV.osl 2 1 0 (List.length (leafP s (x.1)))] [some ⟨80, 1, true, Rep.lst [Spend.cells s]⟩, some ⟨4, 1, true, Rep.lst [y0]⟩, ilO IntKind.i64 (leafP s (x.1))]) (fun (x : { x : Nat // x ≤ Spend.nl s }) => Spend.nl s - x.1) (⟨0, Nat.zero_le (Spend.nl s)⟩) ([1, 2, 10, 11, 12, 3]) ([0, 8, 314]) ([AV.own 0 80 0 0 80, AV.own 1 4 0 0 4, AV.isl 3 s.16 fun (i j : Nat) => Zi (s.17 i j), Zi (↑s.16 : Int), Zi 0, AV.nsl]) ([some ⟨80, 1, true, Rep.lst [Spend.cells s]⟩, some ⟨4, 1, true, Rep.lst [y0]⟩, some ⟨1, 0, true, Rep.lst []⟩]) (fun x0 => (.br (decide ((↑x0.1 : Int) < (↑s.16 : Int))) (.req ((0 : Int) ≤ (↑x0.1 : Int) ∧ (↑x0.1 : Int) < (↑s.16 : Int)) (.req ((List.length (leafP s (x0.1)) + 3) * 8 ≤ 140737488355328) (.again (Again 0 (fun (x : { x : Nat // x ≤ Spend.nl s }) => mkSt [1, 2, 10, 11, 12, 3] [AV.own 0 80 0 0 80, AV.own 1 4 0 0 4, AV.isl 3 s.16 fun (i j : Nat) => Zi (s.17 i j), Zi (↑s.16 : Int), Zi (↑(x.1) : Int), AV.osl 2 1 0 (List.length (leafP s (x.1)))] [some ⟨80, 1, true, Rep.lst [Spend.cells s]⟩, some ⟨4, 1, true, Rep.lst [y0]⟩, ilO IntKind.i64 (leafP s (x.1))]) (fun (x : { x : Nat // x ≤ Spend.nl s }) => Spend.nl s - x.1) x0) ([1, 2, 10, 11, 12, 3]) ([0, 1, 107]) ([AV.own 0 80 0 0 80, AV.own 1 4 0 0 4, AV.isl 3 s.16 fun (i j : Nat) => Zi (s.17 i j), Zi (↑s.16 : Int), Zi (IntKind.wrap IntKind.i64 ((↑x0.1 : Int) + 1)), AV.osl 2 1 0 (List.length (leafP s (x0.1)) + 3)]) ([some ⟨80, 1, true, Rep.lst [Spend.cells s]⟩, some ⟨4, 1, true, Rep.lst [y0]⟩, some ⟨1, List.length (leafP s (x0.1)) + 3, true, Rep.fn fun (i j : Nat) => Zi (bif Nat.blt i (List.length (leafP s (x0.1))) then List.getD (leafP s (x0.1)) i (0 : Int) else intOfAV (atL (List.getD [[Zi (s.17 (Int.toNat (↑(x0.1) : Int)) 0)], [Zi (s.17 (Int.toNat (↑(x0.1) : Int)) 1)], [Zi (s.17 (Int.toNat (↑(x0.1) : Int)) 2)]] (i - List.length (leafP s (x0.1))) []) j))⟩])))) (.loop ({ x : Nat // x ≤ Spend.np s }) (fun (x : { x : Nat // x ≤ Spend.np s }) => mkSt [1, 2, 3, 33, 34, 35, 6] [AV.own 0 80 0 0 80, AV.own 1 4 0 0 4, AV.osl 2 1 0 (List.length (leafP s (x0.1))), AV.isl 32 s.19 fun (i j : Nat) => Zb (s.20 i j), Zi (↑s.19 : Int), Zi (↑(x.1) : Int), AV.osl 3 4 0 (x.1 + 1)] [some ⟨80, 1, true, Rep.lst [Spend.cells s]⟩, some ⟨4, 1, true, Rep.lst [y0]⟩, some ⟨1, List.length (leafP s (x0.1)), true, Rep.fn fun (i j : Nat) => Zi (List.getD (leafP s (x0.1)) i (0 : Int))⟩, some ⟨4, x.1 + 1, true, Rep.row fun (i : Nat) => It.cells (pathC s i)⟩]) (fun (x : { x : Nat // x ≤ Spend.np s }) => Spend.np s - x.1) (⟨0, Nat.zero_le (Spend.np s)⟩) ([1, 2, 3, 33, 34, 35, 6]) ([0, 1, 2, 43]) ([AV.own 0 80 0 0 80, AV.own 1 4 0 0 4, AV.osl 2 1 0 (List.length (leafP s (x0.1))), AV.isl 32 s.19 fun (i j : Nat) => Zb (s.20 i j), Zi (↑s.19 : Int), Zi 0, AV.osl 3 4 0 1]) ([some ⟨80, 1, true, Rep.lst [Spend.cells s]⟩, some ⟨4, 1, true, Rep.lst [y0]⟩, some ⟨1, List.length (leafP s (x0.1)), true, Rep.fn fun (i j : Nat) => Zi (List.getD (leafP s (x0.1)) i (0 : Int))⟩, some ⟨4, 1, true, Rep.lst [[Zi 1, Zi (Spend.pidx s), AV.nsl, AV.nsl]]⟩]) (fun x5 => (.br (decide ((↑x5.1 : Int) < (↑s.19 : Int))) (.req ((0 : Int) ≤ (↑x5.1 : Int) ∧ (↑x5.1 : Int) < (↑s.19 : Int)) (.dc (true) 142 ([AV.agg (u8c (s.20 (Int.toNat (↑x5.1 : Int))))]) (It.av (It.byt 32 (s.20 (Int.toNat (↑x5.1 : Int))))) (.req ((x5.1 + 1 + 1) * 64 ≤ 140737488355328) (.again (Again 0 (fun (x : { x : Nat // x ≤ Spend.np s }) => mkSt [1, 2, 3, 33, 34, 35, 6] [AV.own 0 80 0 0 80, AV.own 1 4 0 0 4, AV.osl 2 1 0 (List.length (leafP s (x0.1))), AV.isl 32 s.19 fun (i j : Nat) => Zb (s.20 i j), Zi (↑s.19 : Int), Zi (↑(x.1) : Int), AV.osl 3 4 0 (x.1 + 1)] [some ⟨80, 1, true, Rep.lst [Spend.cells s]⟩, some ⟨4, 1, true, Rep.lst [y0]⟩, some ⟨1, List.length (leafP s (x0.1)), true, Rep.fn fun (i j : Nat) => Zi (List.getD (leafP s (x0.1)) i (0 : Int))⟩, some ⟨4, x.1 + 1, true, Rep.row fun (i : Nat) => It.cells (pathC s i)⟩]) (fun (x : { x : Nat // x ≤ Spend.np s }) => Spend.np s - x.1) x5) ([1, 2, 3, 33, 34, 35, 6]) ([0, 1, 2, 76]) ([AV.own 0 80 0 0 80, AV.own 1 4 0 0 4, AV.osl 2 1 0 (List.length (leafP s (x0.1))), AV.isl 32 s.19 fun (i j : Nat) => Zb (s.20 i j), Zi (↑s.19 : Int), Zi (IntKind.wrap IntKind.i64 ((↑x5.1 : Int) + 1)), AV.osl 3 4 0 (x5.1 + 1 + 1)]) ([some ⟨80, 1, true, Rep.lst [Spend.cells s]⟩, some ⟨4, 1, true, Rep.lst [y0]⟩, some ⟨1, List.length (leafP s (x0.1)), true, Rep.fn fun (i j : Nat) => Zi (List.getD (leafP s (x0.1)) i (0 : Int))⟩, some ⟨4, x5.1 + 1 + 1, true, Rep.cat (x5.1 + 1) (Rep.row fun (i : Nat) => [Zi (It.kind (pathC s i)), Zi (It.num (pathC s i)), AV.isl 1 (It.nb (pathC s i)) fun (i_1 x : Nat) => Zb (It.fb (pathC s i) i_1), AV.isl 4 (It.nl (pathC s i)) (It.row (pathC s i))]) (Rep.lst [[Zi (It.kind (It.byt 32 (s.20 (Int.toNat (↑x5.1 : Int))))), Zi (It.num (It.byt 32 (s.20 (Int.toNat (↑x5.1 : Int))))), AV.isl 1 32 fun (i x : Nat) => Zb (It.fb (It.byt 32 (s.20 (Int.toNat (↑x5.1 : Int)))) i), AV.isl 4 0 (It.row (It.byt 32 (s.20 (Int.toNat (↑x5.1 : Int)))))]])⟩]))))) (.dc (true) 172 ([AV.agg (Zi s.1 :: Zi s.2 :: Zi s.3 :: Zi s.4 :: Zi s.5 :: (u8c s.6 ++ [Zi s.7, Zi s.8, Zi s.9, Zi s.10]))]) (It.av (Coin.it (Spend.coin s))) (.dc (true) 143 ([AV.isl 1 2 fun (r k : Nat) => atL (List.getD [[Zi s.11], [Zi s.12]] (r + 0) []) k]) (It.av (intsI [s.11, s.12])) (.dc (true) 142 ([AV.agg (u8c s.13)]) (It.av (It.byt 32 s.13)) (.dc (true) 143 ([AV.isl 1 2 fun (r k : Nat) => atL (List.getD [[Zi s.14], [Zi s.15]] (r + 0) []) k]) (It.av (intsI [s.14, s.15])) (.dc (true) 143 ([AV.isl 1 (List.length (leafP s (x0.1))) fun (r k : Nat) => Zi (List.getD (leafP s (x0.1)) (r + 0) (0 : Int))]) (It.av (intsI (leafP s (x0.1)))) (.dc (true) 141 ([AV.isl 4 (x5.1 + 1) fun (r k : Nat) => atL [Zi (It.kind (pathC s (r + 0))), Zi (It.num (pathC s (r + 0))), AV.isl 1 (It.nb (pathC s (r + 0))) fun (i x : Nat) => Zb (It.fb (pathC s (r + 0)) i), AV.isl 4 (It.nl (pathC s (r + 0))) (It.row (pathC s (r + 0)))] k]) (It.av (It.li (x5.1 + 1) (pathC s))) (.dc (true) 141 ([AV.isl 4 6 fun (r k : Nat) => atL (List.getD [[Zi (It.kind (Coin.it (Spend.coin s))), Zi (It.num (Coin.it (Spend.coin s))), AV.isl 1 0 fun (i x : Nat) => Zb (It.fb (Coin.it (Spend.coin s)) i), AV.isl 4 3 (It.row (Coin.it (Spend.coin s)))], [Zi (It.kind (intsI [s.11, s.12])), Zi (It.num (intsI [s.11, s.12])), AV.isl 1 0 fun (i x : Nat) => Zb (It.fb (intsI [s.11, s.12]) i), AV.isl 4 2 (It.row (intsI [s.11, s.12]))], [Zi (It.kind (It.byt 32 s.13)), Zi (It.num (It.byt 32 s.13)), AV.isl 1 32 fun (i x : Nat) => Zb (It.fb (It.byt 32 s.13) i), AV.isl 4 0 (It.row (It.byt 32 s.13))], [Zi (It.kind (intsI [s.14, s.15])), Zi (It.num (intsI [s.14, s.15])), AV.isl 1 0 fun (i x : Nat) => Zb (It.fb (intsI [s.14, s.15]) i), AV.isl 4 2 (It.row (intsI [s.14, s.15]))], [Zi (It.kind (intsI (leafP s x0.1))), Zi (It.num (intsI (leafP s x0.1))), AV.isl 1 0 fun (i x : Nat) => Zb (It.fb (intsI (leafP s x0.1)) i), AV.isl 4 (It.nl (intsI (leafP s x0.1))) (It.row (intsI (leafP s x0.1)))], [Zi (It.kind (It.li (x5.1 + 1) (pathC s))), Zi (It.num (It.li (x5.1 + 1) (pathC s))), AV.isl 1 0 fun (i x : Nat) => Zb (It.fb (It.li (x5.1 + 1) (pathC s)) i), AV.isl 4 (It.nl (It.li (x5.1 + 1) (pathC s))) (It.row (It.li (x5.1 + 1) (pathC s)))]] (r + 0) []) k]) (It.av (lsI [Coin.it (Spend.coin s), intsI [Spend.level s, Spend.index s], It.byt 32 (Spend.payee s), intsI [Spend.time s, Spend.number s], intsI (leafP s x0.1), It.li (x5.1 + 1) (pathC s)])) (.out (AV.agg [Zi (It.kind (lsI [Coin.it (Spend.coin s), intsI [s.11, s.12], It.byt 32 s.13, intsI [s.14, s.15], intsI (leafP s x0.1), It.li (x5.1 + 1) (pathC s)])), Zi (It.num (lsI [Coin.it (Spend.coin s), intsI [s.11, s.12], It.byt 32 s.13, intsI [s.14, s.15], intsI (leafP s x0.1), It.li (x5.1 + 1) (pathC s)])), AV.isl 1 0 fun (i x : Nat) => Zb (It.fb (lsI [Coin.it (Spend.coin s), intsI [s.11, s.12], It.byt 32 s.13, intsI [s.14, s.15], intsI (leafP s x0.1), It.li (x5.1 + 1) (pathC s)]) i), AV.isl 4 6 (It.row (lsI [Coin.it (Spend.coin s), intsI [s.11, s.12], It.byt 32 s.13, intsI [s.14, s.15], intsI (leafP s x0.1), It.li (x5.1 + 1) (pathC s)]))]) [] (It.av (Spend.it s)) [])))))))))))))))
    (by kernel_rfl) ?_
  refine k_loop (fun _ hs => hs.le (by repeat' (first | exact trivial | (first | exact Ent.refl _ | exact inc_ent (by omega) | exact Ent.nil rfl | exact Ent.of_eq (congrArg (AV.osl _ _ _) (by first | omega | (dsimp only; omega))) | exact Ent.of_eq (congrArg (AV.int _) (by first | omega | (dsimp only; omega)))) | refine And.intro ?_ ?_)) (by repeat' (first | exact trivial | (first | exact ObEnt.refl _ | exact ObEnt.junk | exact ObEnt.zero | exact ObEnt.push rfl rfl | exact ObEnt.pushRow rfl | exact ObEnt.len (by omega) | exact ObEnt.row (by repeat' (first | exact trivial | (first | exact Ent.refl _ | exact inc_ent (by omega) | exact Ent.nil rfl | exact Ent.of_eq (congrArg (AV.osl _ _ _) (by first | omega | (dsimp only; omega))) | exact Ent.of_eq (congrArg (AV.int _) (by first | omega | (dsimp only; omega)))) | refine And.intro ?_ ?_))) | refine And.intro ?_ ?_))) (fun x0 => ?_)
  try (have q0 := x0.2; dsimp only at q0)
  refine k_br (fun h1 => ?_) (fun h1 => ?_)
  · have g1 := cnd_dec_t h1
    refine k_req (by omega) ?_
    refine k_req (by have := leafP_len s x0.1; omega) ?_
    exact k_again (⟨x0.1 + 1, by omega⟩) (fun _ hs => hs.le (⟨by exact Ent.refl _, by exact Ent.refl _, by exact Ent.refl _, by exact Ent.refl _, by exact inc_ent (by omega), Ent.of_eq (congrArg (AV.osl 2 1 0) (by rw [leafP_len, leafP_len]; dsimp only; omega)), trivial⟩) (⟨by exact ObEnt.refl _, by exact ObEnt.refl _, leaf3_ob (k := x0.1) (by kernel_rfl), trivial⟩)) (by (dsimp only; omega))
  · have g1 := cnd_dec_f h1
    refine k_loop (fun _ hs => hs.le (by repeat' (first | exact trivial | (first | exact Ent.refl _ | exact inc_ent (by omega) | exact Ent.nil rfl | exact Ent.of_eq (congrArg (AV.osl _ _ _) (by first | omega | (dsimp only; omega))) | exact Ent.of_eq (congrArg (AV.int _) (by first | omega | (dsimp only; omega)))) | refine And.intro ?_ ?_)) (⟨by exact ObEnt.refl _, by exact ObEnt.refl _, by exact ObEnt.refl _, path_start, trivial⟩)) (fun x5 => ?_)
    try (have q5 := x5.2; dsimp only at q5)
    refine k_br (fun h6 => ?_) (fun h6 => ?_)
    · have g6 := cnd_dec_t h6
      refine k_req (by omega) ?_
      refine k_dc (c3 (s.20 (Int.toNat (↑x5.1 : Int)))) ?_
      refine k_req (by omega) ?_
      exact k_again (⟨x5.1 + 1, by omega⟩) (fun _ hs => hs.le (by repeat' (first | exact trivial | (first | exact Ent.refl _ | exact inc_ent (by omega) | exact Ent.nil rfl | exact Ent.of_eq (congrArg (AV.osl _ _ _) (by first | omega | (dsimp only; omega))) | exact Ent.of_eq (congrArg (AV.int _) (by first | omega | (dsimp only; omega)))) | refine And.intro ?_ ?_)) (⟨by exact ObEnt.refl _, by exact ObEnt.refl _, by exact ObEnt.refl _, path_push rfl (EntL.refl _), trivial⟩)) (by (dsimp only; omega))
    · have g6 := cnd_dec_f h6
      refine k_dc (c1) ?_
      refine k_dc (c2 (s.11) (s.12)) ?_
      refine k_dc (c3 (s.13)) ?_
      refine k_dc (c2 (s.14) (s.15)) ?_
      refine k_dc (c4 (x0.1) (by have := leafP_len s x0.1; omega)) ?_
      refine k_dc (c5 (x5.1 + 1)) ?_
      refine k_dc (c6 (x0.1) (x5.1 + 1)) ?_
      exact k_out (Ent.of_eq (by rw [show x0.1 = s.nl by omega, show x5.1 = s.np by omega]; rfl))

end Go.Proofs.YtolcfdcoidpieaaGreatDoor

namespace Go.Proofs.YtolcfdcoidpieaaGreatDoor
open Go Go.Am Go.Sp
set_option maxRecDepth 100000

theorem rlist6 (a b c d e f : It) : Pure Tryz.prog gl0 158 [.isl 4 6 fun r k => atL (List.getD [a.cells, b.cells, c.cells, d.cells, e.cells, f.cells] r []) k] (lsI [a, b, c, d, e, f]).av :=
  (rlist_c 6 _).ent (li_out (L := [a, b, c, d, e, f]) rfl fun i hi => match i, hi with
    | 0, _ | 1, _ | 2, _ | 3, _ | 4, _ | 5, _ => EntL.refl _)

theorem rlist_p (n : Nat) (c : Nat → It) : Pure Tryz.prog gl0 158 [It.sl n c] (It.li n c).av := (rlist_c n _).ent (Ent.agg ⟨Ent.refl _, Ent.refl _, Ent.nsl, Ent.refl _, trivial⟩)

theorem rsitem_w (s : Spend) (hs : s.nl ≤ 1000) (hp : s.np ≤ 1000) : Pure Tryz.prog gl0 179 [s.av] s.it.av := by
  have c1 := ritem_w s.coin
  have c2 := rints_2
  have c3 := rbytes31_c
  have c4 := fun k h => rints_c (leafP s k) h
  have c5 := fun n => rlist_p n (pathC s)
  have c6 := fun k n => rlist6 s.coin.it (intsI [s.level, s.index]) (.byt 32 s.payee) (intsI [s.time, s.number]) (intsI (leafP s k)) (.li n (pathC s))
  refine pure_sk (own := ow0) Tryz.func179 (by kernel_rfl) mixed (by kernel_rfl)
    (let y0 : List AV := [Zi 0, Zi 0, AV.nsl, AV.nsl]; (.loop ({ x : Nat // x ≤ Spend.nl s }) (fun (x : { x : Nat // x ≤ Spend.nl s }) => mkSt [1, 2, 4, 3] [AV.own 0 80 0 0 80, AV.own 1 4 0 0 4, Zi (↑(x.1) : Int), AV.osl 2 1 0 (List.length (leafP s (x.1)))] [some ⟨80, 1, true, Rep.lst [Spend.cells s]⟩, some ⟨4, 1, true, Rep.lst [y0]⟩, ilO IntKind.i64 (leafP s (x.1))]) (fun (x : { x : Nat // x ≤ Spend.nl s }) => Spend.nl s - x.1) (⟨0, Nat.zero_le (Spend.nl s)⟩) ([1, 2, 4, 3]) ([0, 8, 290]) ([AV.own 0 80 0 0 80, AV.own 1 4 0 0 4, Zi 0, AV.nsl]) ([some ⟨80, 1, true, Rep.lst [Spend.cells s]⟩, some ⟨4, 1, true, Rep.lst [y0]⟩, some ⟨1, 0, true, Rep.lst []⟩]) (fun x0 => (.br (decide ((↑x0.1 : Int) < (↑s.16 : Int))) (.req ((0 : Int) ≤ (↑x0.1 : Int) ∧ (↑x0.1 : Int) < (↑s.16 : Int)) (.req ((0 : Int) ≤ (↑x0.1 : Int) ∧ (↑x0.1 : Int) < (↑s.16 : Int)) (.req ((0 : Int) ≤ (↑x0.1 : Int) ∧ (↑x0.1 : Int) < (↑s.16 : Int)) (.req ((List.length (leafP s (x0.1)) + 3) * 8 ≤ 140737488355328) (.again (Again 0 (fun (x : { x : Nat // x ≤ Spend.nl s }) => mkSt [1, 2, 4, 3] [AV.own 0 80 0 0 80, AV.own 1 4 0 0 4, Zi (↑(x.1) : Int), AV.osl 2 1 0 (List.length (leafP s (x.1)))] [some ⟨80, 1, true, Rep.lst [Spend.cells s]⟩, some ⟨4, 1, true, Rep.lst [y0]⟩, ilO IntKind.i64 (leafP s (x.1))]) (fun (x : { x : Nat // x ≤ Spend.nl s }) => Spend.nl s - x.1) x0) ([1, 2, 4, 3]) ([0, 1, 203]) ([AV.own 0 80 0 0 80, AV.own 1 4 0 0 4, Zi (IntKind.wrap IntKind.i64 ((↑x0.1 : Int) + 1)), AV.osl 2 1 0 (List.length (leafP s (x0.1)) + 3)]) ([some ⟨80, 1, true, Rep.lst [Spend.cells s]⟩, some ⟨4, 1, true, Rep.lst [y0]⟩, some ⟨1, List.length (leafP s (x0.1)) + 3, true, Rep.fn fun (i j : Nat) => Zi (bif Nat.blt i (List.length (leafP s (x0.1))) then List.getD (leafP s (x0.1)) i (0 : Int) else intOfAV (atL (List.getD [[Zi (s.17 (Int.toNat (↑x0.1 : Int)) 0)], [Zi (s.17 (Int.toNat (↑x0.1 : Int)) 1)], [Zi (s.17 (Int.toNat (↑x0.1 : Int)) 2)]] (i - List.length (leafP s (x0.1))) []) j))⟩])))))) (.loop ({ x : Nat // x ≤ Spend.np s }) (fun (x : { x : Nat // x ≤ Spend.np s }) => mkSt [1, 2, 3, 6, 5] [AV.own 0 80 0 0 80, AV.own 1 4 0 0 4, AV.osl 2 1 0 (List.length (leafP s (x0.1))), Zi (↑(x.1) : Int), AV.osl 3 4 0 (x.1 + 1)] [some ⟨80, 1, true, Rep.lst [Spend.cells s]⟩, some ⟨4, 1, true, Rep.lst [y0]⟩, some ⟨1, List.length (leafP s (x0.1)), true, Rep.fn fun (i j : Nat) => Zi (List.getD (leafP s (x0.1)) i (0 : Int))⟩, some ⟨4, x.1 + 1, true, Rep.row fun (i : Nat) => It.cells (pathC s i)⟩]) (fun (x : { x : Nat // x ≤ Spend.np s }) => Spend.np s - x.1) (⟨0, Nat.zero_le (Spend.np s)⟩) ([1, 2, 3, 6, 5]) ([0, 1, 2, 75]) ([AV.own 0 80 0 0 80, AV.own 1 4 0 0 4, AV.osl 2 1 0 (List.length (leafP s (x0.1))), Zi 0, AV.osl 3 4 0 1]) ([some ⟨80, 1, true, Rep.lst [Spend.cells s]⟩, some ⟨4, 1, true, Rep.lst [y0]⟩, some ⟨1, List.length (leafP s (x0.1)), true, Rep.fn fun (i j : Nat) => Zi (List.getD (leafP s (x0.1)) i (0 : Int))⟩, some ⟨4, 1, true, Rep.lst [[Zi 1, Zi (Spend.pidx s), AV.nsl, AV.nsl]]⟩]) (fun x7 => (.br (decide ((↑x7.1 : Int) < (↑s.19 : Int))) (.req ((0 : Int) ≤ (↑x7.1 : Int) ∧ (↑x7.1 : Int) < (↑s.19 : Int)) (.dc (true) 153 ([AV.agg (u8c (s.20 (Int.toNat (↑x7.1 : Int))))]) (It.av (It.byt 32 (s.20 (Int.toNat (↑x7.1 : Int))))) (.req ((x7.1 + 1 + 1) * 64 ≤ 140737488355328) (.again (Again 0 (fun (x : { x : Nat // x ≤ Spend.np s }) => mkSt [1, 2, 3, 6, 5] [AV.own 0 80 0 0 80, AV.own 1 4 0 0 4, AV.osl 2 1 0 (List.length (leafP s (x0.1))), Zi (↑(x.1) : Int), AV.osl 3 4 0 (x.1 + 1)] [some ⟨80, 1, true, Rep.lst [Spend.cells s]⟩, some ⟨4, 1, true, Rep.lst [y0]⟩, some ⟨1, List.length (leafP s (x0.1)), true, Rep.fn fun (i j : Nat) => Zi (List.getD (leafP s (x0.1)) i (0 : Int))⟩, some ⟨4, x.1 + 1, true, Rep.row fun (i : Nat) => It.cells (pathC s i)⟩]) (fun (x : { x : Nat // x ≤ Spend.np s }) => Spend.np s - x.1) x7) ([1, 2, 3, 6, 5]) ([0, 1, 2, 124]) ([AV.own 0 80 0 0 80, AV.own 1 4 0 0 4, AV.osl 2 1 0 (List.length (leafP s (x0.1))), Zi (IntKind.wrap IntKind.i64 ((↑x7.1 : Int) + 1)), AV.osl 3 4 0 (x7.1 + 1 + 1)]) ([some ⟨80, 1, true, Rep.lst [Spend.cells s]⟩, some ⟨4, 1, true, Rep.lst [y0]⟩, some ⟨1, List.length (leafP s (x0.1)), true, Rep.fn fun (i j : Nat) => Zi (List.getD (leafP s (x0.1)) i (0 : Int))⟩, some ⟨4, x7.1 + 1 + 1, true, Rep.cat (x7.1 + 1) (Rep.row fun (i : Nat) => [Zi (It.kind (pathC s i)), Zi (It.num (pathC s i)), AV.isl 1 (It.nb (pathC s i)) fun (i_1 x : Nat) => Zb (It.fb (pathC s i) i_1), AV.isl 4 (It.nl (pathC s i)) (It.row (pathC s i))]) (Rep.lst [[Zi (It.kind (It.byt 32 (s.20 (Int.toNat (↑x7.1 : Int))))), Zi (It.num (It.byt 32 (s.20 (Int.toNat (↑x7.1 : Int))))), AV.isl 1 32 fun (i x : Nat) => Zb (It.fb (It.byt 32 (s.20 (Int.toNat (↑x7.1 : Int)))) i), AV.isl 4 0 (It.row (It.byt 32 (s.20 (Int.toNat (↑x7.1 : Int)))))]])⟩]))))) (.dc (true) 178 ([AV.agg (Zi s.1 :: Zi s.2 :: Zi s.3 :: Zi s.4 :: Zi s.5 :: (u8c s.6 ++ [Zi s.7, Zi s.8, Zi s.9, Zi s.10]))]) (It.av (Coin.it (Spend.coin s))) (.dc (true) 154 ([AV.isl 1 2 fun (r k : Nat) => atL (List.getD [[Zi s.11], [Zi s.12]] (r + 0) []) k]) (It.av (intsI [s.11, s.12])) (.dc (true) 153 ([AV.agg (u8c s.13)]) (It.av (It.byt 32 s.13)) (.dc (true) 154 ([AV.isl 1 2 fun (r k : Nat) => atL (List.getD [[Zi s.14], [Zi s.15]] (r + 0) []) k]) (It.av (intsI [s.14, s.15])) (.dc (true) 154 ([AV.isl 1 (List.length (leafP s (x0.1))) fun (r k : Nat) => Zi (List.getD (leafP s (x0.1)) (r + 0) (0 : Int))]) (It.av (intsI (leafP s (x0.1)))) (.dc (true) 158 ([AV.isl 4 (x7.1 + 1) fun (r k : Nat) => atL [Zi (It.kind (pathC s (r + 0))), Zi (It.num (pathC s (r + 0))), AV.isl 1 (It.nb (pathC s (r + 0))) fun (i x : Nat) => Zb (It.fb (pathC s (r + 0)) i), AV.isl 4 (It.nl (pathC s (r + 0))) (It.row (pathC s (r + 0)))] k]) (It.av (It.li (x7.1 + 1) (pathC s))) (.dc (true) 158 ([AV.isl 4 6 fun (r k : Nat) => atL (List.getD [[Zi (It.kind (Coin.it (Spend.coin s))), Zi (It.num (Coin.it (Spend.coin s))), AV.isl 1 0 fun (i x : Nat) => Zb (It.fb (Coin.it (Spend.coin s)) i), AV.isl 4 3 (It.row (Coin.it (Spend.coin s)))], [Zi (It.kind (intsI [s.11, s.12])), Zi (It.num (intsI [s.11, s.12])), AV.isl 1 0 fun (i x : Nat) => Zb (It.fb (intsI [s.11, s.12]) i), AV.isl 4 2 (It.row (intsI [s.11, s.12]))], [Zi (It.kind (It.byt 32 s.13)), Zi (It.num (It.byt 32 s.13)), AV.isl 1 32 fun (i x : Nat) => Zb (It.fb (It.byt 32 s.13) i), AV.isl 4 0 (It.row (It.byt 32 s.13))], [Zi (It.kind (intsI [s.14, s.15])), Zi (It.num (intsI [s.14, s.15])), AV.isl 1 0 fun (i x : Nat) => Zb (It.fb (intsI [s.14, s.15]) i), AV.isl 4 2 (It.row (intsI [s.14, s.15]))], [Zi (It.kind (intsI (leafP s x0.1))), Zi (It.num (intsI (leafP s x0.1))), AV.isl 1 0 fun (i x : Nat) => Zb (It.fb (intsI (leafP s x0.1)) i), AV.isl 4 (It.nl (intsI (leafP s x0.1))) (It.row (intsI (leafP s x0.1)))], [Zi (It.kind (It.li (x7.1 + 1) (pathC s))), Zi (It.num (It.li (x7.1 + 1) (pathC s))), AV.isl 1 0 fun (i x : Nat) => Zb (It.fb (It.li (x7.1 + 1) (pathC s)) i), AV.isl 4 (It.nl (It.li (x7.1 + 1) (pathC s))) (It.row (It.li (x7.1 + 1) (pathC s)))]] (r + 0) []) k]) (It.av (lsI [Coin.it (Spend.coin s), intsI [Spend.level s, Spend.index s], It.byt 32 (Spend.payee s), intsI [Spend.time s, Spend.number s], intsI (leafP s x0.1), It.li (x7.1 + 1) (pathC s)])) (.out (AV.agg [Zi (It.kind (lsI [Coin.it (Spend.coin s), intsI [s.11, s.12], It.byt 32 s.13, intsI [s.14, s.15], intsI (leafP s x0.1), It.li (x7.1 + 1) (pathC s)])), Zi (It.num (lsI [Coin.it (Spend.coin s), intsI [s.11, s.12], It.byt 32 s.13, intsI [s.14, s.15], intsI (leafP s x0.1), It.li (x7.1 + 1) (pathC s)])), AV.isl 1 0 fun (i x : Nat) => Zb (It.fb (lsI [Coin.it (Spend.coin s), intsI [s.11, s.12], It.byt 32 s.13, intsI [s.14, s.15], intsI (leafP s x0.1), It.li (x7.1 + 1) (pathC s)]) i), AV.isl 4 6 (It.row (lsI [Coin.it (Spend.coin s), intsI [s.11, s.12], It.byt 32 s.13, intsI [s.14, s.15], intsI (leafP s x0.1), It.li (x7.1 + 1) (pathC s)]))]) [] (It.av (Spend.it s)) [])))))))))))))))
    (by kernel_rfl) ?_
  refine k_loop (fun _ hs => hs.le (by repeat' (first | exact trivial | (first | exact Ent.refl _ | exact inc_ent (by omega) | exact Ent.nil rfl | exact Ent.of_eq (congrArg (AV.osl _ _ _) (by first | omega | (dsimp only; omega))) | exact Ent.of_eq (congrArg (AV.int _) (by first | omega | (dsimp only; omega)))) | refine And.intro ?_ ?_)) (by repeat' (first | exact trivial | (first | exact ObEnt.refl _ | exact ObEnt.junk | exact ObEnt.zero | exact ObEnt.push rfl rfl | exact ObEnt.pushRow rfl | exact ObEnt.len (by omega) | exact ObEnt.row (by repeat' (first | exact trivial | (first | exact Ent.refl _ | exact inc_ent (by omega) | exact Ent.nil rfl | exact Ent.of_eq (congrArg (AV.osl _ _ _) (by first | omega | (dsimp only; omega))) | exact Ent.of_eq (congrArg (AV.int _) (by first | omega | (dsimp only; omega)))) | refine And.intro ?_ ?_))) | refine And.intro ?_ ?_))) (fun x0 => ?_)
  try (have q0 := x0.2; dsimp only at q0)
  refine k_br (fun h1 => ?_) (fun h1 => ?_)
  · have g1 := cnd_dec_t h1
    refine k_req (by omega) ?_
    refine k_req (by omega) ?_
    refine k_req (by omega) ?_
    refine k_req (by have := leafP_len s x0.1; omega) ?_
    exact k_again (⟨x0.1 + 1, by omega⟩) (fun _ hs => hs.le (⟨by exact Ent.refl _, by exact Ent.refl _, by exact inc_ent (by omega), Ent.of_eq (congrArg (AV.osl 2 1 0) (by rw [leafP_len, leafP_len]; dsimp only; omega)), trivial⟩) (⟨by exact ObEnt.refl _, by exact ObEnt.refl _, leaf3_ob (k := x0.1) (by kernel_rfl), trivial⟩)) (by (dsimp only; omega))
  · have g1 := cnd_dec_f h1
    refine k_loop (fun _ hs => hs.le (by repeat' (first | exact trivial | (first | exact Ent.refl _ | exact inc_ent (by omega) | exact Ent.nil rfl | exact Ent.of_eq (congrArg (AV.osl _ _ _) (by first | omega | (dsimp only; omega))) | exact Ent.of_eq (congrArg (AV.int _) (by first | omega | (dsimp only; omega)))) | refine And.intro ?_ ?_)) (⟨by exact ObEnt.refl _, by exact ObEnt.refl _, by exact ObEnt.refl _, path_start, trivial⟩)) (fun x7 => ?_)
    try (have q7 := x7.2; dsimp only at q7)
    refine k_br (fun h8 => ?_) (fun h8 => ?_)
    · have g8 := cnd_dec_t h8
      refine k_req (by omega) ?_
      refine k_dc (c3 (s.20 (Int.toNat (↑x7.1 : Int)))) ?_
      refine k_req (by omega) ?_
      exact k_again (⟨x7.1 + 1, by omega⟩) (fun _ hs => hs.le (by repeat' (first | exact trivial | (first | exact Ent.refl _ | exact inc_ent (by omega) | exact Ent.nil rfl | exact Ent.of_eq (congrArg (AV.osl _ _ _) (by first | omega | (dsimp only; omega))) | exact Ent.of_eq (congrArg (AV.int _) (by first | omega | (dsimp only; omega)))) | refine And.intro ?_ ?_)) (⟨by exact ObEnt.refl _, by exact ObEnt.refl _, by exact ObEnt.refl _, path_push rfl (EntL.refl _), trivial⟩)) (by (dsimp only; omega))
    · have g8 := cnd_dec_f h8
      refine k_dc (c1) ?_
      refine k_dc (c2 (s.11) (s.12)) ?_
      refine k_dc (c3 (s.13)) ?_
      refine k_dc (c2 (s.14) (s.15)) ?_
      refine k_dc (c4 (x0.1) (by have := leafP_len s x0.1; omega)) ?_
      refine k_dc (c5 (x7.1 + 1)) ?_
      refine k_dc (c6 (x0.1) (x7.1 + 1)) ?_
      exact k_out (Ent.of_eq (by rw [show x0.1 = s.nl by omega, show x7.1 = s.np by omega]; rfl))

theorem sdig_w (s : Spend) (x : It) (c1 : Pure Tryz.prog gl0 198 [s.av] x.av) (ho : x.okD 8 = true) (hl : x.enc.length ≤ 16384) (hb : x.okB) : Pure Tryz.prog gl0 132 [s.av] (.agg (u8c (tagI "specie/spend-item".toUTF8 x))) := by
  have c2 := encode_c x ho hl
  have c3 := tagged_c "specie/spend-item".toUTF8 (by decide) (by decide) (fun i => x.enc.getD i 0) x.enc.length (by omega) (It.enc_by hb)
  refine pure_sk (own := ow0) Tryz.func132 (by kernel_rfl) mixed (by kernel_rfl)
    (.dc (true) 198 ([AV.agg (Spend.cells s)]) (It.av x) (.dc (true) 140 ([AV.agg [Zi (It.kind x), Zi (It.num x), AV.isl 1 (It.nb x) fun (i x_1 : Nat) => Zb (It.fb x i), AV.isl 4 (It.nl x) (It.row x)]]) (AV.tup [il IntKind.u8 (It.enc x), Zi 0]) (.ff (.sc (true) 144 ([AV.str { data := #[(115 : UInt8), (112 : UInt8), (101 : UInt8), (99 : UInt8), (105 : UInt8), (101 : UInt8), (47 : UInt8), (115 : UInt8), (112 : UInt8), (101 : UInt8), (110 : UInt8), (100 : UInt8), (45 : UInt8), (105 : UInt8), (116 : UInt8), (101 : UInt8), (109 : UInt8)] }, AV.isl 1 (List.length (It.enc x)) fun (i x_1 : Nat) => Zb (List.getD (It.enc x) i (0 : Int))]) (AV.tup [AV.agg (u8c (tagF (String.toUTF8 "specie/spend-item") (List.length (It.enc x)) fun (i : Nat) => List.getD (It.enc x) i (0 : Int))), Zi 0]) (.out (AV.agg (u8c (tagF (String.toUTF8 "specie/spend-item") (List.length (It.enc x)) fun (i : Nat) => List.getD (It.enc x) i (0 : Int)))) [] (AV.agg (u8c (tagI (String.toUTF8 "specie/spend-item") x))) [])))))
    (by kernel_rfl) ?_
  refine k_dc (c1) ?_
  refine k_dc (c2) ?_
  refine k_ff ?_
  refine k_sc (c3) ?_
  exact k_out (Ent.refl _)

theorem rsdig_w (s : Spend) (x : It) (c1 : Pure Tryz.prog gl0 179 [s.av] x.av) (ho : x.okD 8 = true) (hl : x.enc.length ≤ 16384) (hb : x.okB) : Pure Tryz.prog gl0 114 [s.av] (.agg (u8c (tagI "specie/spend-item".toUTF8 x))) := by
  have c2 := rvalid_c x ho
  have c3 := renc_c x (by omega)
  have c4 := rtagged_c "specie/spend-item".toUTF8 (by decide) (fun i => x.enc.getD i 0) x.enc.length (by omega) (It.enc_by hb)
  refine pure_sk (own := ow0) Tryz.func114 (by kernel_rfl) mixed (by kernel_rfl)
    (let y0 : AV := (AV.agg (u8c (tagF (String.toUTF8 "specie/spend-item") (List.length (It.enc x)) fun (i : Nat) => List.getD (It.enc x) i (0 : Int)))); let y1 : List AV := [AV.agg [Zi (It.kind x), Zi (It.num x), AV.isl 1 (It.nb x) fun (i x_1 : Nat) => Zb (It.fb x i), AV.isl 4 (It.nl x) (It.row x)]]; let y2 : AV := (AV.agg (u8c (tagI (String.toUTF8 "specie/spend-item") x))); (.dc (true) 179 ([AV.agg (Spend.cells s)]) (It.av x) (.sc (true) 180 (y1) (AV.bool true) (.ff (.dc (true) 157 (y1) (il IntKind.u8 (It.enc x)) (.br (decide ((↑(List.length (It.enc x)) : Int) > 16384)) (.out (AV.agg [Zb 0, Zb 0, Zb 0, Zb 0, Zb 0, Zb 0, Zb 0, Zb 0, Zb 0, Zb 0, Zb 0, Zb 0, Zb 0, Zb 0, Zb 0, Zb 0, Zb 0, Zb 0, Zb 0, Zb 0, Zb 0, Zb 0, Zb 0, Zb 0, Zb 0, Zb 0, Zb 0, Zb 0, Zb 0, Zb 0, Zb 0, Zb 0]) [] y2 []) (.sc (true) 156 ([AV.str { data := #[(115 : UInt8), (112 : UInt8), (101 : UInt8), (99 : UInt8), (105 : UInt8), (101 : UInt8), (47 : UInt8), (115 : UInt8), (112 : UInt8), (101 : UInt8), (110 : UInt8), (100 : UInt8), (45 : UInt8), (105 : UInt8), (116 : UInt8), (101 : UInt8), (109 : UInt8)] }, AV.isl 1 (List.length (It.enc x)) fun (i x_1 : Nat) => Zb (List.getD (It.enc x) i (0 : Int))]) y0 (.out y0 [] y2 []))))))))
    (by kernel_rfl) ?_
  refine k_dc (c1) ?_
  refine k_sc (c2) ?_
  refine k_ff ?_
  refine k_dc (c3) ?_
  refine k_br (fun h4 => ?_) (fun h4 => ?_)
  · have g4 := cnd_dec_t h4
    exact k_out ((by exfalso; omega))
  · have g4 := cnd_dec_f h4
    refine k_sc (c4) ?_
    exact k_out (Ent.refl _)

theorem sdig_c (s : Spend) (h : s.Sm) : Pure Tryz.prog gl0 132 [s.av] (.agg (u8c s.dig)) :=
  sdig_w s s.it (sitem_w s (by have := h.nl; omega) (by have := h.np; omega)) (Spend.it_ok h) (Spend.it_len h) (Spend.it_okB h)

theorem rsdig_c (s : Spend) (h : s.Sm) : Pure Tryz.prog gl0 114 [s.av] (.agg (u8c s.dig)) :=
  rsdig_w s s.it (rsitem_w s (by have := h.nl; omega) (by have := h.np; omega)) (Spend.it_ok h) (Spend.it_len h) (Spend.it_okB h)

end Go.Proofs.YtolcfdcoidpieaaGreatDoor

namespace Go.Proofs.YtolcfdcoidpieaaGreatDoor
open Go Go.Am Go.Sp
set_option maxRecDepth 100000

theorem ctagged_w (s : ByteArray) (n : Nat) (F : Nat → Nat → Int) (E : List Int) (T : Nat → Int) (hn : n ≤ 400)
    (c2 : ∀ m, m = n → Pure Tryz.prog gl0 140 [.agg [.int .i64 3, .int .i64 0, .nsl, .isl 4 m fun r k => atL (hI F r).cells k]] (.tup [il .u8 E, .int .i64 0]))
    (c3 : Pure Tryz.prog gl0 144 [.str s, il .u8 E] (.tup [.agg (u8c T), .int .i64 0])) : Pure Tryz.prog gl0 100 [.str s, hsN n F] (.agg (u8c T)) := by
  have c1 := cloneU_c
  refine pure_sk (own := ow0) Tryz.func100 (by kernel_rfl) mixed (by kernel_rfl)
    (let y0 : List AV := [Zb 0, Zb 0, Zb 0, Zb 0, Zb 0, Zb 0, Zb 0, Zb 0, Zb 0, Zb 0, Zb 0, Zb 0, Zb 0, Zb 0, Zb 0, Zb 0, Zb 0, Zb 0, Zb 0, Zb 0, Zb 0, Zb 0, Zb 0, Zb 0, Zb 0, Zb 0, Zb 0, Zb 0, Zb 0, Zb 0, Zb 0, Zb 0]; (.loop ({ x : Nat // x ≤ n }) (fun (x : { x : Nat // x ≤ n }) => mkSt [0, 4, 5, 13, 14, 15] [AV.str s, AV.own 0 32 0 0 32, AV.own 1 4 0 0 4, AV.isl 32 n fun (i j : Nat) => Zb (F i j), Zi (↑n : Int), Zi (↑(x.1) : Int)] [some ⟨32, 1, true, Rep.lst [y0]⟩, some ⟨4, 1, true, Rep.lst [[Zi 3, Zi 0, AV.nsl, AV.osl 2 4 0 (x.1)]]⟩, some ⟨4, x.1, true, Rep.row fun (i : Nat) => It.cells (hI F i)⟩]) (fun (x : { x : Nat // x ≤ n }) => n - x.1) (⟨0, Nat.zero_le n⟩) ([0, 4, 5, 13, 14, 15]) ([0, 16, 1082]) ([AV.str s, AV.own 0 32 0 0 32, AV.own 1 4 0 0 4, AV.isl 32 n fun (i j : Nat) => Zb (F i j), Zi (↑n : Int), Zi 0]) ([some ⟨32, 1, true, Rep.lst [y0]⟩, some ⟨4, 1, true, Rep.lst [[Zi 3, Zi 0, AV.nsl, AV.nsl]]⟩, some ⟨4, 0, true, Rep.lst []⟩]) (fun x0 => (.br (decide ((↑x0.1 : Int) < (↑n : Int))) (.req ((0 : Int) ≤ (↑x0.1 : Int) ∧ (↑x0.1 : Int) < (↑n : Int)) (.dc (true) 171 ([AV.isl 1 32 fun (r x : Nat) => Zb (intOfAV (atL (u8c (F (Int.toNat (↑x0.1 : Int)))) (0 + (0 + r))))]) (bys 32 fun (i : Nat) => intOfAV (atL (u8c (F (Int.toNat (↑x0.1 : Int)))) (0 + (0 + i)))) (.req ((x0.1 + 1) * 64 ≤ 140737488355328) (.again (Again 0 (fun (x : { x : Nat // x ≤ n }) => mkSt [0, 4, 5, 13, 14, 15] [AV.str s, AV.own 0 32 0 0 32, AV.own 1 4 0 0 4, AV.isl 32 n fun (i j : Nat) => Zb (F i j), Zi (↑n : Int), Zi (↑(x.1) : Int)] [some ⟨32, 1, true, Rep.lst [y0]⟩, some ⟨4, 1, true, Rep.lst [[Zi 3, Zi 0, AV.nsl, AV.osl 2 4 0 (x.1)]]⟩, some ⟨4, x.1, true, Rep.row fun (i : Nat) => It.cells (hI F i)⟩]) (fun (x : { x : Nat // x ≤ n }) => n - x.1) x0) ([0, 4, 5, 13, 14, 15]) ([0, 1, 91]) ([AV.str s, AV.own 0 32 0 0 32, AV.own 1 4 0 0 4, AV.isl 32 n fun (i j : Nat) => Zb (F i j), Zi (↑n : Int), Zi (IntKind.wrap IntKind.i64 ((↑x0.1 : Int) + 1))]) ([some ⟨32, 1, true, Rep.lst [y0]⟩, some ⟨4, 1, true, Rep.lst [[Zi 3, Zi 0, AV.nsl, AV.osl 2 4 0 (x0.1 + 1)]]⟩, some ⟨4, x0.1 + 1, true, Rep.cat x0.1 (Rep.row fun (i : Nat) => [Zi (It.kind (hI F i)), Zi (It.num (hI F i)), AV.isl 1 32 fun (i_1 x : Nat) => Zb (It.fb (hI F i) i_1), AV.isl 4 0 (It.row (hI F i))]) (Rep.lst [[Zi 2, Zi 0, AV.isl 1 32 fun (i x : Nat) => Zb (intOfAV (atL (u8c (F (Int.toNat (↑x0.1 : Int)))) (0 + (0 + i)))), AV.nsl]])⟩]))))) (.dc (true) 140 ([AV.agg [Zi 3, Zi 0, AV.nsl, AV.isl 4 x0.1 fun (r k : Nat) => atL [Zi (It.kind (hI F (r + 0))), Zi (It.num (hI F (r + 0))), AV.isl 1 32 fun (i x : Nat) => Zb (It.fb (hI F (r + 0)) i), AV.isl 4 0 (It.row (hI F (r + 0)))] k]]) (AV.tup [il IntKind.u8 E, Zi 0]) (.sc (true) 144 ([AV.str s, AV.isl 1 (List.length E) fun (i x : Nat) => Zb (List.getD E i (0 : Int))]) (AV.tup [AV.agg (u8c T), Zi 0]) (.out (AV.agg (u8c T)) [] (AV.agg (u8c T)) [])))))))
    (by kernel_rfl) ?_
  refine k_loop (fun _ hs => hs.le (⟨.refl _, .refl _, .refl _, .refl _, .refl _, .refl _, trivial⟩) (by repeat' (first | exact trivial | (first | exact ObEnt.refl _ | exact ObEnt.junk | exact ObEnt.zero | exact ObEnt.push rfl rfl | exact ObEnt.pushRow rfl | exact ObEnt.len (by omega) | exact ObEnt.row (by repeat' (first | exact trivial | (first | exact Ent.refl _ | exact inc_ent (by omega) | exact Ent.nil rfl | exact Ent.of_eq (congrArg (AV.osl _ _ _) (by first | omega | (dsimp only; omega))) | exact Ent.of_eq (congrArg (AV.int _) (by first | omega | (dsimp only; omega)))) | refine And.intro ?_ ?_))) | refine And.intro ?_ ?_))) (fun x0 => ?_)
  try (have q0 := x0.2; dsimp only at q0)
  refine k_br (fun h1 => ?_) (fun h1 => ?_)
  · have g1 := cnd_dec_t h1
    refine k_req (by omega) ?_
    refine k_dc (c1 (fun (i : Nat) => intOfAV (atL (u8c (F (Int.toNat (↑x0.1 : Int)))) (0 + (0 + i)))) (32) (by omega)) ?_
    refine k_req (by omega) ?_
    exact k_again (⟨x0.1 + 1, by omega⟩) (fun _ hs => hs.le (⟨.refl _, .refl _, .refl _, .refl _, .refl _, inc_ent (by omega), trivial⟩) (⟨.refl _, .refl _, hash_push rfl (fun i hi => by
                                                                                                     show intOfAV (atL (u8c (F x0.1)) (0 + (0 + i))) = F x0.1 i
                                                                                                     rw [Nat.zero_add, Nat.zero_add]
                                                                                                     exact u8c_at hi), trivial⟩)) (by dsimp only; omega)
  · have g1 := cnd_dec_f h1
    refine k_dc (c2 (x0.1) (by omega)) ?_
    refine k_sc (c3) ?_
    exact k_out (Ent.of_eq rfl)

theorem rctagged_w (s : ByteArray) (n : Nat) (F : Nat → Nat → Int) (E : List Int) (T : Nat → Int) (hn : n ≤ 400)
    (c2 : ∀ m, m = n → Pure Tryz.prog gl0 157 [.agg [.int .i64 3, .int .i64 0, .nsl, .isl 4 m fun r k => atL (hI F r).cells k]] (il .u8 E))
    (c3 : Pure Tryz.prog gl0 156 [.str s, il .u8 E] (.agg (u8c T))) : Pure Tryz.prog gl0 112 [.str s, hsN n F] (.agg (u8c T)) := by
  have c1 := rbytes31_c
  refine pure_sk (own := ow0) Tryz.func112 (by kernel_rfl) mixed (by kernel_rfl)
    (let y0 : List AV := [Zb 0, Zb 0, Zb 0, Zb 0, Zb 0, Zb 0, Zb 0, Zb 0, Zb 0, Zb 0, Zb 0, Zb 0, Zb 0, Zb 0, Zb 0, Zb 0, Zb 0, Zb 0, Zb 0, Zb 0, Zb 0, Zb 0, Zb 0, Zb 0, Zb 0, Zb 0, Zb 0, Zb 0, Zb 0, Zb 0, Zb 0, Zb 0]; (.loop ({ x : Nat // x ≤ n }) (fun (x : { x : Nat // x ≤ n }) => mkSt [0, 1, 4, 5, 6] [AV.str s, AV.isl 32 n fun (i j : Nat) => Zb (F i j), AV.own 0 32 0 0 32, AV.own 1 4 0 0 4, Zi (↑(x.1) : Int)] [some ⟨32, 1, true, Rep.lst [y0]⟩, some ⟨4, 1, true, Rep.lst [[Zi 3, Zi 0, AV.nsl, AV.osl 2 4 0 (x.1)]]⟩, some ⟨4, x.1, true, Rep.row fun (i : Nat) => It.cells (hI F i)⟩]) (fun (x : { x : Nat // x ≤ n }) => n - x.1) (⟨0, Nat.zero_le n⟩) ([0, 1, 4, 5, 6]) ([0, 16, 1066]) ([AV.str s, AV.isl 32 n fun (i j : Nat) => Zb (F i j), AV.own 0 32 0 0 32, AV.own 1 4 0 0 4, Zi 0]) ([some ⟨32, 1, true, Rep.lst [y0]⟩, some ⟨4, 1, true, Rep.lst [[Zi 3, Zi 0, AV.nsl, AV.nsl]]⟩, some ⟨4, 0, true, Rep.lst []⟩]) (fun x0 => (.br (decide ((↑x0.1 : Int) < (↑n : Int))) (.req ((0 : Int) ≤ (↑x0.1 : Int) ∧ (↑x0.1 : Int) < (↑n : Int)) (.dc (true) 153 ([AV.agg (u8c (F (Int.toNat (↑x0.1 : Int))))]) (It.av (It.byt 32 (F (Int.toNat (↑x0.1 : Int))))) (.req ((x0.1 + 1) * 64 ≤ 140737488355328) (.again (Again 0 (fun (x : { x : Nat // x ≤ n }) => mkSt [0, 1, 4, 5, 6] [AV.str s, AV.isl 32 n fun (i j : Nat) => Zb (F i j), AV.own 0 32 0 0 32, AV.own 1 4 0 0 4, Zi (↑(x.1) : Int)] [some ⟨32, 1, true, Rep.lst [y0]⟩, some ⟨4, 1, true, Rep.lst [[Zi 3, Zi 0, AV.nsl, AV.osl 2 4 0 (x.1)]]⟩, some ⟨4, x.1, true, Rep.row fun (i : Nat) => It.cells (hI F i)⟩]) (fun (x : { x : Nat // x ≤ n }) => n - x.1) x0) ([0, 1, 4, 5, 6]) ([0, 1, 99]) ([AV.str s, AV.isl 32 n fun (i j : Nat) => Zb (F i j), AV.own 0 32 0 0 32, AV.own 1 4 0 0 4, Zi (IntKind.wrap IntKind.i64 ((↑x0.1 : Int) + 1))]) ([some ⟨32, 1, true, Rep.lst [y0]⟩, some ⟨4, 1, true, Rep.lst [[Zi 3, Zi 0, AV.nsl, AV.osl 2 4 0 (x0.1 + 1)]]⟩, some ⟨4, x0.1 + 1, true, Rep.cat x0.1 (Rep.row fun (i : Nat) => [Zi (It.kind (hI F i)), Zi (It.num (hI F i)), AV.isl 1 32 fun (i_1 x : Nat) => Zb (It.fb (hI F i) i_1), AV.isl 4 0 (It.row (hI F i))]) (Rep.lst [[Zi (It.kind (It.byt 32 (F (Int.toNat (↑x0.1 : Int))))), Zi (It.num (It.byt 32 (F (Int.toNat (↑x0.1 : Int))))), AV.isl 1 32 fun (i x : Nat) => Zb (It.fb (It.byt 32 (F (Int.toNat (↑x0.1 : Int)))) i), AV.isl 4 0 (It.row (It.byt 32 (F (Int.toNat (↑x0.1 : Int)))))]])⟩]))))) (.dc (true) 157 ([AV.agg [Zi 3, Zi 0, AV.nsl, AV.isl 4 x0.1 fun (r k : Nat) => atL [Zi (It.kind (hI F (r + 0))), Zi (It.num (hI F (r + 0))), AV.isl 1 32 fun (i x : Nat) => Zb (It.fb (hI F (r + 0)) i), AV.isl 4 0 (It.row (hI F (r + 0)))] k]]) (il IntKind.u8 E) (.sc (true) 156 ([AV.str s, AV.isl 1 (List.length E) fun (i x : Nat) => Zb (List.getD E i (0 : Int))]) (AV.agg (u8c T)) (.out (AV.agg (u8c T)) [] (AV.agg (u8c T)) [])))))))
    (by kernel_rfl) ?_
  refine k_loop (fun _ hs => hs.le (⟨.refl _, .refl _, .refl _, .refl _, .refl _, trivial⟩) (by repeat' (first | exact trivial | (first | exact ObEnt.refl _ | exact ObEnt.junk | exact ObEnt.zero | exact ObEnt.push rfl rfl | exact ObEnt.pushRow rfl | exact ObEnt.len (by omega) | exact ObEnt.row (by repeat' (first | exact trivial | (first | exact Ent.refl _ | exact inc_ent (by omega) | exact Ent.nil rfl | exact Ent.of_eq (congrArg (AV.osl _ _ _) (by first | omega | (dsimp only; omega))) | exact Ent.of_eq (congrArg (AV.int _) (by first | omega | (dsimp only; omega)))) | refine And.intro ?_ ?_))) | refine And.intro ?_ ?_))) (fun x0 => ?_)
  try (have q0 := x0.2; dsimp only at q0)
  refine k_br (fun h1 => ?_) (fun h1 => ?_)
  · have g1 := cnd_dec_t h1
    refine k_req (by omega) ?_
    refine k_dc (c1 (F (Int.toNat (↑x0.1 : Int)))) ?_
    refine k_req (by omega) ?_
    exact k_again (⟨x0.1 + 1, by omega⟩) (fun _ hs => hs.le (⟨.refl _, .refl _, .refl _, .refl _, inc_ent (by omega), trivial⟩) (⟨.refl _, .refl _, hash_push2 rfl (EntL.refl _), trivial⟩)) (by dsimp only; omega)
  · have g1 := cnd_dec_f h1
    refine k_dc (c2 (x0.1) (by omega)) ?_
    refine k_sc (c3) ?_
    exact k_out (Ent.of_eq rfl)

theorem ctagged_c (s : ByteArray) (h1 : 1 ≤ s.size) (h2 : s.size ≤ 100) (n : Nat) (F : Nat → Nat → Int) (hn : n ≤ 400) (hb : ∀ i, i < n → byB (F i) 32) : Pure Tryz.prog gl0 100 [.str s, hsN n F] (.agg (u8c (tagI s (hashI n F)))) :=
  ctagged_w s n F (hashI n F).enc _ hn (fun m hm => (encode_c (hashI n F) (hash_ok (by omega)) (by rw [hash_len]; omega)).via (hash_arg hm))
    (tagged_c s h2 h1 (fun i => (hashI n F).enc.getD i 0) (hashI n F).enc.length (by rw [hash_len]; omega) (It.enc_by (hash_okB hb)))

theorem rctagged_c (s : ByteArray) (h2 : s.size ≤ 100) (n : Nat) (F : Nat → Nat → Int) (hn : n ≤ 400) (hb : ∀ i, i < n → byB (F i) 32) : Pure Tryz.prog gl0 112 [.str s, hsN n F] (.agg (u8c (tagI s (hashI n F)))) :=
  rctagged_w s n F (hashI n F).enc _ hn (fun m hm => (renc_c (hashI n F) (by rw [hash_len]; omega)).via (hash_arg hm))
    (rtagged_c s h2 (fun i => (hashI n F).enc.getD i 0) (hashI n F).enc.length (by rw [hash_len]; omega) (It.enc_by (hash_okB hb)))

end Go.Proofs.YtolcfdcoidpieaaGreatDoor

namespace Go.Proofs.YtolcfdcoidpieaaGreatDoor
open Go Go.Am Go.Sp
set_option maxRecDepth 100000

abbrev kHS250 : List AV := [Zb 0, Zb 0, Zb 0, Zb 0, Zb 0, Zb 0, Zb 0, Zb 0, Zb 0, Zb 0, Zb 0, Zb 0, Zb 0, Zb 0, Zb 0, Zb 0, Zb 0, Zb 0, Zb 0, Zb 0, Zb 0, Zb 0, Zb 0, Zb 0, Zb 0, Zb 0, Zb 0, Zb 0, Zb 0, Zb 0, Zb 0, Zb 0]
theorem ctag2 (c : Coin) (h : Nat → Int) (hh : byB h 32) : Pure Tryz.prog gl0 100 [.str "specie/chain-next".toUTF8, .isl 32 2 fun r k => atL (List.getD [u8c c.dig, u8c h] r []) k] (.agg (u8c (nameF c h))) :=
  (ctagged_c "specie/chain-next".toUTF8 (by decide) (by decide) 2 (two c.dig h) (by decide) (two_by c.dig_by hh)).via ⟨Ent.refl _, two_rows, trivial⟩

theorem rctag2 (c : Coin) (h : Nat → Int) (hh : byB h 32) : Pure Tryz.prog gl0 112 [.str "specie/chain-next".toUTF8, .isl 32 2 fun r k => atL (List.getD [u8c c.dig, u8c h] r []) k] (.agg (u8c (nameF c h))) :=
  (rctagged_c "specie/chain-next".toUTF8 (by decide) 2 (two c.dig h) (by decide) (two_by c.dig_by hh)).via ⟨Ent.refl _, two_rows, trivial⟩

theorem ctagS (S : Nat → Spend) (n : Nat) (hn : n ≤ 400) (m : Nat) (hm : m = n) : Pure Tryz.prog gl0 100 [.str "specie/chain".toUTF8, .isl 32 m fun r k => atL (u8c (S r).dig) k] (.agg (u8c (tagI "specie/chain".toUTF8 (hashI n fun i => (S i).dig)))) :=
  (ctagged_c "specie/chain".toUTF8 (by decide) (by decide) n (fun i => (S i).dig) hn (fun i _ => Spend.dig_by _)).via ⟨Ent.refl _, u8_rows hm, trivial⟩

theorem rctagS (S : Nat → Spend) (n : Nat) (hn : n ≤ 400) (m : Nat) (hm : m = n) : Pure Tryz.prog gl0 112 [.str "specie/chain".toUTF8, .isl 32 m fun r k => atL (u8c (S r).dig) k] (.agg (u8c (tagI "specie/chain".toUTF8 (hashI n fun i => (S i).dig)))) :=
  (rctagged_c "specie/chain".toUTF8 (by decide) n (fun i => (S i).dig) hn (fun i _ => Spend.dig_by _)).via ⟨Ent.refl _, u8_rows hm, trivial⟩

theorem name_c (c : Coin) (h : Nat → Int) (hr : byB c.root 32) (hh : byB h 32) : Pure Tryz.prog gl0 49 [c.av, .agg (u8c h)] (.agg (u8c (nameF c h))) := by
  have c1 := cdig_c c hr
  have c2 := ctag2 c h hh
  refine pure_sk (own := ow0) Tryz.func49 (by kernel_rfl) mixed (by kernel_rfl)
    (let y0 : AV := (AV.agg (u8c (nameF c h))); (.sc (true) 101 ([AV.agg (Coin.cells c)]) (AV.agg (u8c (Coin.dig c))) (.sc (true) 100 ([AV.str { data := #[(115 : UInt8), (112 : UInt8), (101 : UInt8), (99 : UInt8), (105 : UInt8), (101 : UInt8), (47 : UInt8), (99 : UInt8), (104 : UInt8), (97 : UInt8), (105 : UInt8), (110 : UInt8), (45 : UInt8), (110 : UInt8), (101 : UInt8), (120 : UInt8), (116 : UInt8)] }, AV.isl 32 2 fun (r k : Nat) => atL (List.getD [u8c (Coin.dig c), u8c h] (r + 0) []) k]) y0 (.out y0 [] y0 []))))
    (by kernel_rfl) ?_
  refine k_sc (c1) ?_
  refine k_sc (c2) ?_
  exact k_out (Ent.refl _)

theorem rname_c (c : Coin) (h : Nat → Int) (hr : byB c.root 32) (hh : byB h 32) : Pure Tryz.prog gl0 54 [c.av, .agg (u8c h)] (.agg (u8c (nameF c h))) := by
  have c1 := rcdig_c c hr
  have c2 := rctag2 c h hh
  refine pure_sk (own := ow0) Tryz.func54 (by kernel_rfl) mixed (by kernel_rfl)
    (let y0 : AV := (AV.agg (u8c (nameF c h))); (.sc (true) 113 ([AV.agg (Coin.cells c)]) (AV.agg (u8c (Coin.dig c))) (.sc (true) 112 ([AV.str { data := #[(115 : UInt8), (112 : UInt8), (101 : UInt8), (99 : UInt8), (105 : UInt8), (101 : UInt8), (47 : UInt8), (99 : UInt8), (104 : UInt8), (97 : UInt8), (105 : UInt8), (110 : UInt8), (45 : UInt8), (110 : UInt8), (101 : UInt8), (120 : UInt8), (116 : UInt8)] }, AV.isl 32 2 fun (r k : Nat) => atL (List.getD [u8c (Coin.dig c), u8c h] (r + 0) []) k]) y0 (.out y0 [] y0 []))))
    (by kernel_rfl) ?_
  refine k_sc (c1) ?_
  refine k_sc (c2) ?_
  exact k_out (Ent.refl _)

theorem digestOf_c (S : Nat → Spend) (n : Nat) (hn : n ≤ 400) (hs : ∀ i, i < n → (S i).Sm) : Pure Tryz.prog gl0 64 [.isl 80 n fun i j => atL (S i).cells j] (.agg (u8c (chainF S n))) := by
  have c1 := fun i h => sdig_c (S i) (hs i h)
  have c2 := ctagS S n hn
  refine pure_sk (own := ow0) Tryz.func64 (by kernel_rfl) mixed (by kernel_rfl)
    (let y0 : List AV := [Zb 0, Zb 0, Zb 0, Zb 0, Zb 0, Zb 0, Zb 0, Zb 0, Zb 0, Zb 0, Zb 0, Zb 0, Zb 0, Zb 0, Zb 0, Zb 0, Zb 0, Zb 0, Zb 0, Zb 0, Zb 0, Zb 0, Zb 0, Zb 0, Zb 0, Zb 0, Zb 0, Zb 0, Zb 0, Zb 0, Zb 0, Zb 0]; let y1 : AV := (AV.agg (u8c (tagI (String.toUTF8 "specie/chain") (hashI n fun (i : Nat) => Spend.dig (S i))))); (.br ((↑n : Int) == 0) (.out (AV.agg kHS250) [] (AV.agg (u8c (chainF S n))) []) (.loop ({ x : Nat // x ≤ n }) (fun (x : { x : Nat // x ≤ n }) => mkSt [2, 10, 11, 12, 3] [AV.own 0 32 0 0 32, AV.isl 80 n fun (i j : Nat) => atL (Spend.cells (S i)) j, Zi (↑n : Int), Zi (↑(x.1) : Int), AV.osl 2 32 0 (x.1)] [some ⟨32, 1, true, Rep.lst [y0]⟩, none, some ⟨32, x.1, true, Rep.row fun (i : Nat) => u8c (Spend.dig (S i))⟩]) (fun (x : { x : Nat // x ≤ n }) => n - x.1) (⟨0, Nat.zero_le n⟩) ([2, 10, 11, 12, 3]) ([0, 65, 8258]) ([AV.own 0 32 0 0 32, AV.isl 80 n fun (i j : Nat) => atL (Spend.cells (S i)) j, Zi (↑n : Int), Zi 0, AV.nsl]) ([some ⟨32, 1, true, Rep.lst [y0]⟩, none, some ⟨32, 0, true, Rep.lst []⟩]) (fun x2 => (.br (decide ((↑x2.1 : Int) < (↑n : Int))) (.req ((0 : Int) ≤ (↑x2.1 : Int) ∧ (↑x2.1 : Int) < (↑n : Int)) (.sc (true) 132 ([AV.agg (Spend.cells (S (Int.toNat (↑(x2.1) : Int))))]) (AV.agg (u8c (Spend.dig (S (Int.toNat (↑(x2.1) : Int)))))) (.req ((x2.1 + 1) * 32 ≤ 140737488355328) (.again (Again 0 (fun (x : { x : Nat // x ≤ n }) => mkSt [2, 10, 11, 12, 3] [AV.own 0 32 0 0 32, AV.isl 80 n fun (i j : Nat) => atL (Spend.cells (S i)) j, Zi (↑n : Int), Zi (↑(x.1) : Int), AV.osl 2 32 0 (x.1)] [some ⟨32, 1, true, Rep.lst [y0]⟩, none, some ⟨32, x.1, true, Rep.row fun (i : Nat) => u8c (Spend.dig (S i))⟩]) (fun (x : { x : Nat // x ≤ n }) => n - x.1) x2) ([2, 10, 11, 12, 3]) ([0, 108, 75]) ([AV.own 0 32 0 0 32, AV.isl 80 n fun (i j : Nat) => atL (Spend.cells (S i)) j, Zi (↑n : Int), Zi (IntKind.wrap IntKind.i64 ((↑x2.1 : Int) + 1)), AV.osl 2 32 0 (x2.1 + 1)]) ([some ⟨32, 1, true, Rep.lst [y0]⟩, none, some ⟨32, x2.1 + 1, true, Rep.cat x2.1 (Rep.row fun (i : Nat) => u8c (Spend.dig (S i))) (Rep.lst [u8c (Spend.dig (S (Int.toNat (↑(x2.1) : Int))))])⟩]))))) (.sc (true) 100 ([AV.str { data := #[(115 : UInt8), (112 : UInt8), (101 : UInt8), (99 : UInt8), (105 : UInt8), (101 : UInt8), (47 : UInt8), (99 : UInt8), (104 : UInt8), (97 : UInt8), (105 : UInt8), (110 : UInt8)] }, AV.isl 32 x2.1 fun (r k : Nat) => atL (u8c (Spend.dig (S (r + 0)))) k]) y1 (.out y1 [] (AV.agg (u8c (chainF S n))) [])))))))
    (by kernel_rfl) ?_
  refine k_br (fun h0 => ?_) (fun h0 => ?_)
  · have g0 := cnd_beq_t h0
    exact k_out (Ent.of_eq (congrArg AV.agg (by rw [chainF_0 (by omega)]; rfl)))
  · have g0 := cnd_beq_f h0
    refine k_loop (fun _ hs => hs.le (by repeat' (first | exact trivial | (first | exact Ent.refl _ | exact inc_ent (by omega) | exact Ent.nil rfl | exact Ent.of_eq (congrArg (AV.osl _ _ _) (by first | omega | (dsimp only; omega))) | exact Ent.of_eq (congrArg (AV.int _) (by first | omega | (dsimp only; omega)))) | refine And.intro ?_ ?_)) (by repeat' (first | exact trivial | (first | exact ObEnt.refl _ | exact ObEnt.junk | exact ObEnt.zero | exact ObEnt.push rfl rfl | exact ObEnt.pushRow rfl | exact ObEnt.len (by omega) | exact ObEnt.row (by repeat' (first | exact trivial | (first | exact Ent.refl _ | exact inc_ent (by omega) | exact Ent.nil rfl | exact Ent.of_eq (congrArg (AV.osl _ _ _) (by first | omega | (dsimp only; omega))) | exact Ent.of_eq (congrArg (AV.int _) (by first | omega | (dsimp only; omega)))) | refine And.intro ?_ ?_))) | refine And.intro ?_ ?_))) (fun x2 => ?_)
    try (have q2 := x2.2; dsimp only at q2)
    refine k_br (fun h3 => ?_) (fun h3 => ?_)
    · have g3 := cnd_dec_t h3
      refine k_req (by omega) ?_
      refine k_sc (c1 (Int.toNat (↑(x2.1) : Int)) (by omega)) ?_
      refine k_req (by omega) ?_
      exact k_again (⟨x2.1 + 1, by omega⟩) (fun _ hs => hs.le (by repeat' (first | exact trivial | (first | exact Ent.refl _ | exact inc_ent (by omega) | exact Ent.nil rfl | exact Ent.of_eq (congrArg (AV.osl _ _ _) (by first | omega | (dsimp only; omega))) | exact Ent.of_eq (congrArg (AV.int _) (by first | omega | (dsimp only; omega)))) | refine And.intro ?_ ?_)) (by repeat' (first | exact trivial | (first | exact ObEnt.refl _ | exact ObEnt.junk | exact ObEnt.zero | exact ObEnt.push rfl rfl | exact ObEnt.pushRow rfl | exact ObEnt.len (by omega) | exact ObEnt.row (by repeat' (first | exact trivial | (first | exact Ent.refl _ | exact inc_ent (by omega) | exact Ent.nil rfl | exact Ent.of_eq (congrArg (AV.osl _ _ _) (by first | omega | (dsimp only; omega))) | exact Ent.of_eq (congrArg (AV.int _) (by first | omega | (dsimp only; omega)))) | refine And.intro ?_ ?_))) | refine And.intro ?_ ?_))) (by (dsimp only; omega))
    · have g3 := cnd_dec_f h3
      refine k_sc (c2 (x2.1) (by omega)) ?_
      exact k_out (Ent.of_eq (congrArg AV.agg (by rw [chainF_1 (by omega)])))

theorem rdigests_c (S : Nat → Spend) (n : Nat) (hn : n ≤ 400) (hs : ∀ i, i < n → (S i).Sm) : Pure Tryz.prog gl0 55 [.isl 80 n fun i j => atL (S i).cells j] (.agg (u8c (chainF S n))) := by
  have c1 := fun i h => rsdig_c (S i) (hs i h)
  have c2 := rctagS S n hn
  refine pure_sk (own := ow0) Tryz.func55 (by kernel_rfl) mixed (by kernel_rfl)
    (let y0 : List AV := [Zb 0, Zb 0, Zb 0, Zb 0, Zb 0, Zb 0, Zb 0, Zb 0, Zb 0, Zb 0, Zb 0, Zb 0, Zb 0, Zb 0, Zb 0, Zb 0, Zb 0, Zb 0, Zb 0, Zb 0, Zb 0, Zb 0, Zb 0, Zb 0, Zb 0, Zb 0, Zb 0, Zb 0, Zb 0, Zb 0, Zb 0, Zb 0]; let y1 : AV := (AV.agg (u8c (tagI (String.toUTF8 "specie/chain") (hashI n fun (i : Nat) => Spend.dig (S i))))); (.br ((↑n : Int) == 0) (.out (AV.agg kHS250) [] (AV.agg (u8c (chainF S n))) []) (.loop ({ x : Nat // x ≤ n }) (fun (x : { x : Nat // x ≤ n }) => mkSt [0, 2, 4, 3] [AV.isl 80 n fun (i j : Nat) => atL (Spend.cells (S i)) j, AV.own 0 32 0 0 32, Zi (↑(x.1) : Int), AV.osl 2 32 0 (x.1)] [some ⟨32, 1, true, Rep.lst [y0]⟩, none, some ⟨32, x.1, true, Rep.row fun (i : Nat) => u8c (Spend.dig (S i))⟩]) (fun (x : { x : Nat // x ≤ n }) => n - x.1) (⟨0, Nat.zero_le n⟩) ([0, 2, 4, 3]) ([0, 49, 8242]) ([AV.isl 80 n fun (i j : Nat) => atL (Spend.cells (S i)) j, AV.own 0 32 0 0 32, Zi 0, AV.nsl]) ([some ⟨32, 1, true, Rep.lst [y0]⟩, none, some ⟨32, 0, true, Rep.lst []⟩]) (fun x2 => (.br (decide ((↑x2.1 : Int) < (↑n : Int))) (.req ((0 : Int) ≤ (↑x2.1 : Int) ∧ (↑x2.1 : Int) < (↑n : Int)) (.sc (true) 114 ([AV.agg (Spend.cells (S (Int.toNat (↑(x2.1) : Int))))]) (AV.agg (u8c (Spend.dig (S (Int.toNat (↑(x2.1) : Int)))))) (.req ((x2.1 + 1) * 32 ≤ 140737488355328) (.again (Again 0 (fun (x : { x : Nat // x ≤ n }) => mkSt [0, 2, 4, 3] [AV.isl 80 n fun (i j : Nat) => atL (Spend.cells (S i)) j, AV.own 0 32 0 0 32, Zi (↑(x.1) : Int), AV.osl 2 32 0 (x.1)] [some ⟨32, 1, true, Rep.lst [y0]⟩, none, some ⟨32, x.1, true, Rep.row fun (i : Nat) => u8c (Spend.dig (S i))⟩]) (fun (x : { x : Nat // x ≤ n }) => n - x.1) x2) ([0, 2, 4, 3]) ([0, 132, 91]) ([AV.isl 80 n fun (i j : Nat) => atL (Spend.cells (S i)) j, AV.own 0 32 0 0 32, Zi (IntKind.wrap IntKind.i64 ((↑x2.1 : Int) + 1)), AV.osl 2 32 0 (x2.1 + 1)]) ([some ⟨32, 1, true, Rep.lst [y0]⟩, none, some ⟨32, x2.1 + 1, true, Rep.cat x2.1 (Rep.row fun (i : Nat) => u8c (Spend.dig (S i))) (Rep.lst [u8c (Spend.dig (S (Int.toNat (↑(x2.1) : Int))))])⟩]))))) (.sc (true) 112 ([AV.str { data := #[(115 : UInt8), (112 : UInt8), (101 : UInt8), (99 : UInt8), (105 : UInt8), (101 : UInt8), (47 : UInt8), (99 : UInt8), (104 : UInt8), (97 : UInt8), (105 : UInt8), (110 : UInt8)] }, AV.isl 32 x2.1 fun (r k : Nat) => atL (u8c (Spend.dig (S (r + 0)))) k]) y1 (.out y1 [] (AV.agg (u8c (chainF S n))) [])))))))
    (by kernel_rfl) ?_
  refine k_br (fun h0 => ?_) (fun h0 => ?_)
  · have g0 := cnd_beq_t h0
    exact k_out (Ent.of_eq (congrArg AV.agg (by rw [chainF_0 (by omega)]; rfl)))
  · have g0 := cnd_beq_f h0
    refine k_loop (fun _ hs => hs.le (by repeat' (first | exact trivial | (first | exact Ent.refl _ | exact inc_ent (by omega) | exact Ent.nil rfl | exact Ent.of_eq (congrArg (AV.osl _ _ _) (by first | omega | (dsimp only; omega))) | exact Ent.of_eq (congrArg (AV.int _) (by first | omega | (dsimp only; omega)))) | refine And.intro ?_ ?_)) (by repeat' (first | exact trivial | (first | exact ObEnt.refl _ | exact ObEnt.junk | exact ObEnt.zero | exact ObEnt.push rfl rfl | exact ObEnt.pushRow rfl | exact ObEnt.len (by omega) | exact ObEnt.row (by repeat' (first | exact trivial | (first | exact Ent.refl _ | exact inc_ent (by omega) | exact Ent.nil rfl | exact Ent.of_eq (congrArg (AV.osl _ _ _) (by first | omega | (dsimp only; omega))) | exact Ent.of_eq (congrArg (AV.int _) (by first | omega | (dsimp only; omega)))) | refine And.intro ?_ ?_))) | refine And.intro ?_ ?_))) (fun x2 => ?_)
    try (have q2 := x2.2; dsimp only at q2)
    refine k_br (fun h3 => ?_) (fun h3 => ?_)
    · have g3 := cnd_dec_t h3
      refine k_req (by omega) ?_
      refine k_sc (c1 (Int.toNat (↑(x2.1) : Int)) (by omega)) ?_
      refine k_req (by omega) ?_
      exact k_again (⟨x2.1 + 1, by omega⟩) (fun _ hs => hs.le (by repeat' (first | exact trivial | (first | exact Ent.refl _ | exact inc_ent (by omega) | exact Ent.nil rfl | exact Ent.of_eq (congrArg (AV.osl _ _ _) (by first | omega | (dsimp only; omega))) | exact Ent.of_eq (congrArg (AV.int _) (by first | omega | (dsimp only; omega)))) | refine And.intro ?_ ?_)) (by repeat' (first | exact trivial | (first | exact ObEnt.refl _ | exact ObEnt.junk | exact ObEnt.zero | exact ObEnt.push rfl rfl | exact ObEnt.pushRow rfl | exact ObEnt.len (by omega) | exact ObEnt.row (by repeat' (first | exact trivial | (first | exact Ent.refl _ | exact inc_ent (by omega) | exact Ent.nil rfl | exact Ent.of_eq (congrArg (AV.osl _ _ _) (by first | omega | (dsimp only; omega))) | exact Ent.of_eq (congrArg (AV.int _) (by first | omega | (dsimp only; omega)))) | refine And.intro ?_ ?_))) | refine And.intro ?_ ?_))) (by (dsimp only; omega))
    · have g3 := cnd_dec_f h3
      refine k_sc (c2 (x2.1) (by omega)) ?_
      exact k_out (Ent.of_eq (congrArg AV.agg (by rw [chainF_1 (by omega)])))

theorem spends_c (h : Chn) (hn : h.n ≤ 1000) : Pure Tryz.prog gl0 35 [h.av] (.isl 80 (h.n + 1) fun i j => atL (chnS h i).cells j) := by
  refine pure_sk (own := ow0) Tryz.func35 (by kernel_rfl) mixed (by kernel_rfl)
    (.req ((1 + h.2) * 224 ≤ 140737488355328) (.out (AV.isl 80 (1 + h.2) fun (r k : Nat) => mixA (Nat.blt (r + 0) 1) (atL (List.getD [Spend.cells (Chn.first h)] (r + 0) []) k) (atL (Spend.cells (Chn.l h (r + 0 - 1))) k)) [] (AV.isl 80 (Chn.n h + 1) fun (i j : Nat) => atL (Spend.cells (chnS h i)) j) []))
    (by kernel_rfl) ?_
  refine k_req (by omega) ?_
  exact k_out (Ent.islN (by omega) (fun i j _ _ => spends_e i j))

theorem rspends_c (h : Chn) (hn : h.n ≤ 1000) : Pure Tryz.prog gl0 39 [h.av] (.isl 80 (h.n + 1) fun i j => atL (chnS h i).cells j) := by
  refine pure_sk (own := ow0) Tryz.func39 (by kernel_rfl) mixed (by kernel_rfl)
    (.req ((1 + h.2) * 224 ≤ 140737488355328) (.out (AV.isl 80 (1 + h.2) fun (r k : Nat) => mixA (Nat.blt (r + 0) 1) (atL (List.getD [Spend.cells (Chn.first h)] (r + 0) []) k) (atL (Spend.cells (Chn.l h (r + 0 - 1))) k)) [] (AV.isl 80 (Chn.n h + 1) fun (i j : Nat) => atL (Spend.cells (chnS h i)) j) []))
    (by kernel_rfl) ?_
  refine k_req (by omega) ?_
  exact k_out (Ent.islN (by omega) (fun i j _ _ => spends_e i j))

end Go.Proofs.YtolcfdcoidpieaaGreatDoor

namespace Go.Proofs.YtolcfdcoidpieaaGreatDoor
open Go Go.Am Go.Sp
set_option maxRecDepth 100000

theorem cdigest_c (h : Chn) (hn : h.n ≤ 300) (hs : ∀ i, i < h.n + 1 → (chnS h i).Sm) : Pure Tryz.prog gl0 28 [h.av] (.agg (u8c (chnD h))) := by
  have c1 := spends_c h (by omega)
  have c2 := digestOf_c (chnS h) (h.n + 1) (by omega) hs
  refine pure_sk (own := ow0) Tryz.func28 (by kernel_rfl) mixed (by kernel_rfl)
    (.br (decide ((↑h.2 : Int) > 8)) (.out (AV.agg [Zb 0, Zb 0, Zb 0, Zb 0, Zb 0, Zb 0, Zb 0, Zb 0, Zb 0, Zb 0, Zb 0, Zb 0, Zb 0, Zb 0, Zb 0, Zb 0, Zb 0, Zb 0, Zb 0, Zb 0, Zb 0, Zb 0, Zb 0, Zb 0, Zb 0, Zb 0, Zb 0, Zb 0, Zb 0, Zb 0, Zb 0, Zb 0]) [] (AV.agg (u8c (chnD h))) []) (.dc (true) 35 ([AV.agg (Chn.cells h)]) (AV.isl 80 (Chn.n h + 1) fun (i j : Nat) => atL (Spend.cells (chnS h i)) j) (.sc (true) 64 ([AV.isl 80 (h.2 + 1) fun (i j : Nat) => atL (Spend.cells (chnS h i)) j]) (AV.agg (u8c (chainF (chnS h) (Chn.n h + 1)))) (.out (AV.agg (u8c (chainF (chnS h) (h.2 + 1)))) [] (AV.agg (u8c (chnD h))) []))))
    (by kernel_rfl) ?_
  refine k_br (fun h0 => ?_) (fun h0 => ?_)
  · have g0 := cnd_dec_t h0
    exact k_out (Ent.of_eq (congrArg AV.agg (by rw [chnD_1 (by omega)]; rfl)))
  · have g0 := cnd_dec_f h0
    refine k_dc (c1) ?_
    refine k_sc (c2) ?_
    exact k_out (Ent.of_eq (congrArg AV.agg (by rw [chnD_0 (by omega)])))



theorem instant_c (t : Int) : Pure Tryz.prog gl0 51 [.int .i64 t] (.bool (decide (t ≥ 0) && decide (t ≤ 1099511627776))) := by
  refine pure_sk (own := ow0) Tryz.func51 (by kernel_rfl) mixed (by kernel_rfl)
    (let y0 : AV := (AV.bool (decide (t ≥ 0) && decide (t ≤ 1099511627776))); (.out y0 [] y0 []))
    (by kernel_rfl) ?_
  exact k_out (Ent.refl _)

theorem ccontext_c (b : Bas) (c : Coin) (f : Nat → Int) (t n : Int) (hw : b.gr.W) (hr : byB c.root 32) (hf : byB f 32) : Pure Tryz.prog gl0 27 [b.av, c.av, .agg (u8c f), .int .i64 t, .int .i64 n] (.tup [(ccX b c f t n).av, .int .i64 (ccE b t n)]) := by
  have c1 := bvalid_c b hw
  have c2 := name_c c f hr hf
  refine pure_sk (own := ow0) Tryz.func27 (by kernel_rfl) mixed (by kernel_rfl)
    (let y0 : List AV := [Zb 0, Zb 0, Zb 0, Zb 0, Zb 0, Zb 0, Zb 0, Zb 0, Zb 0, Zb 0, Zb 0, Zb 0, Zb 0, Zb 0, Zb 0, Zb 0, Zb 0, Zb 0, Zb 0, Zb 0, Zb 0, Zb 0, Zb 0, Zb 0, Zb 0, Zb 0, Zb 0, Zb 0, Zb 0, Zb 0, Zb 0, Zb 0, Zi 0, Zi 0]; let y1 : AV := (AV.tup [Cxt.av (ccX b c f t n), Zi (ccE b t n)]); (.sc (true) 34 ([AV.agg (Bas.cells b)]) (AV.bool (validB b)) (.br (!validB b) (.out (AV.tup [AV.agg y0, Zi 1]) [] y1 []) (.sc (true) 51 ([Zi t]) (AV.bool (decide (t ≥ 0) && decide (t ≤ 1099511627776))) (.br (!(decide (t ≥ 0) && decide (t ≤ 1099511627776)) || decide (n < 0) || decide (n > 1073741824)) (.out (AV.tup [AV.agg y0, Zi 2]) [] y1 []) (.sc (true) 49 ([AV.agg (Coin.cells c), AV.agg (u8c f)]) (AV.agg (u8c (nameF c f))) (.out (AV.tup [AV.agg (u8c (nameF c f) ++ [Zi t, Zi n]), Zi 0]) [] y1 [])))))))
    (by kernel_rfl) ?_
  refine k_sc (c1) ?_
  refine k_br (fun h1 => ?_) (fun h1 => ?_)
  · have g1 := (cnd_not_t cnd_id_f) h1
    exact k_out (Ent.of_eq (by rw [(cc_1 g1).1, (cc_1 (c := c) (f := f) g1).2]; rfl))
  · have g1 := (cnd_not_f cnd_id_t) h1
    refine k_sc (instant_c (t)) ?_
    refine k_br (fun h4 => ?_) (fun h4 => ?_)
    · have g4 := (cnd_or_t (cnd_or_t (cnd_not_t (cnd_and_f cnd_dec_f cnd_dec_f)) cnd_dec_t) cnd_dec_t) h4
      exact k_out (Ent.of_eq (by rw [(cc_2 g1 (ctx_no2 (by omega))).1, (cc_2 (c := c) (f := f) g1 (ctx_no2 (by omega))).2]; rfl))
    · have g4 := (cnd_or_f (cnd_or_f (cnd_not_f (cnd_and_t cnd_dec_t cnd_dec_t)) cnd_dec_f) cnd_dec_f) h4
      refine k_sc (c2) ?_
      exact k_out (Ent.of_eq (by rw [(cc_0 g1 (ctx_yes2 (by omega))).1, (cc_0 (c := c) (f := f) g1 (ctx_yes2 (by omega))).2]; rfl))

end Go.Proofs.YtolcfdcoidpieaaGreatDoor

namespace Go.Proofs.YtolcfdcoidpieaaGreatDoor
open Go Go.Am Go.Sp
set_option maxRecDepth 100000

theorem light35_c (s : Spend) : Pure Tryz.prog gl0 31 [s.av] (.bool (fewB s)) := by
  refine pure_sk (own := ow0) Tryz.func31 (by kernel_rfl) mixed (by kernel_rfl)
    (.out (AV.bool (decide ((↑s.16 : Int) ≤ 40) && decide ((↑s.19 : Int) ≤ 20))) [] (AV.bool (fewB s)) [])
    (by kernel_rfl) ?_
  exact k_out (Ent.refl _)

theorem long35_c (s : Spend) : Pure Tryz.prog gl0 33 [s.av] (.bool (!fewB s)) := by
  have c1 := light35_c s
  refine pure_sk (own := ow0) Tryz.func33 (by kernel_rfl) mixed (by kernel_rfl)
    (.sc (true) 31 ([AV.agg (Spend.cells s)]) (AV.bool (fewB s)) (.out (AV.bool !fewB s) [] (AV.bool !fewB s) []))
    (by kernel_rfl) ?_
  refine k_sc (c1) ?_
  exact k_out (Ent.refl _)

theorem longK_c (h : Chn) (hn : h.n < 9223372036854775808) : Pure Tryz.prog gl0 30 [h.av] (.bool (longK h)) := by
  have c1 := light35_c h.first
  have c2 := containsS_w 33 h.l h.n (fun i => !fewB (h.l i)) hn (fun i _ => long35_c (h.l i))
  refine pure_sk (own := ow0) Tryz.func30 (by kernel_rfl) mixed (by kernel_rfl)
    (.sc (decide ((↑h.2 : Int) > 12) == false) 31 ([AV.agg (Spend.cells (Chn.first h))]) (AV.bool (fewB (Chn.first h))) (.sc ((decide ((↑h.2 : Int) > 12) || !fewB h.1) == false) 32 ([AV.isl 80 h.2 fun (i j : Nat) => atL (Spend.cells (Chn.l h i)) j, AV.fn (Fn.func 33) [] []]) (AV.bool (decide (firstI (fun (i : Nat) => !fewB (Chn.l h i)) (Chn.n h) 0 ≥ 0))) (.out (AV.bool (decide ((↑h.2 : Int) > 12) || !fewB h.1 || decide (firstI (fun (i : Nat) => !fewB (h.3 i)) h.2 0 ≥ 0))) [] (AV.bool (longK h)) [])))
    (by kernel_rfl) ?_
  refine k_scg (fun h0 => c1) ?_
  refine k_scg (fun h1 => c2) ?_
  exact k_out (Ent.refl _)

end Go.Proofs.YtolcfdcoidpieaaGreatDoor

namespace Go.Sp
open Go Go.Am
def bN (s : ByteArray) : List Nat := s.data.toList.map UInt8.toNat
def tagN (s : ByteArray) (E : List Nat) : List Nat := shaN (shaN (bN s) ++ (shaN (bN s) ++ E))
theorem shaN_len (l : List Nat) : (shaN l).length = 32 := by unfold shaN outN; rw [List.length_map, List.length_range]
theorem bN_len (s : ByteArray) : (bN s).length = s.size := by unfold bN; rw [List.length_map]; rfl
theorem str_n (s : ByteArray) (i : Nat) (hi : i < (bN s).length) : strF s i = ((bN s).getD i 0 : Nat) := by
  unfold strF bN
  unfold bN at hi
  rw [List.length_map] at hi
  simp [List.getD_eq_getElem?_getD, List.getElem?_eq_getElem hi]
theorem tag_n (s : ByteArray) {E : List Nat} {f : Nat → Int} (hf : ∀ i, i < E.length → f i = (E.getD i 0 : Nat)) (i : Nat) (hi : i < 32) : tagF s E.length f i = ((tagN s E).getD i 0 : Nat) := by
  have hl : (shaN (bN s) ++ (shaN (bN s) ++ E)).length = 64 + E.length := by simp [shaN_len]; omega
  have h := sha_n (l := shaN (bN s) ++ (shaN (bN s) ++ E)) (f := tagC (shaF s.size (strF s)) f) (fun j hj => by
    have ht : ∀ k, k < 32 → shaF s.size (strF s) k = ((shaN (bN s)).getD k 0 : Nat) := fun k hk => by
      rw [← bN_len s]
      exact sha_n (str_n s) k hk
    have l32 := shaN_len (bN s)
    unfold tagC
    by_cases h1 : j < 32
    · rw [blt_t (show j < 64 by omega), blt_t h1, List.getD_eq_getElem?_getD, List.getElem?_append_left (by omega), ← List.getD_eq_getElem?_getD]
      exact ht j h1
    · by_cases h2 : j < 64
      · rw [blt_t h2, blt_f (by omega), List.getD_eq_getElem?_getD, List.getElem?_append_right (by omega), l32, List.getElem?_append_left (by omega), ← List.getD_eq_getElem?_getD]
        exact ht (j - 32) (by omega)
      · rw [blt_f (by omega), List.getD_eq_getElem?_getD, List.getElem?_append_right (by omega), l32, List.getElem?_append_right (by omega), l32, ← List.getD_eq_getElem?_getD, show j - 32 - 32 = j - 64 by omega]
        exact hf (j - 64) (by omega)) i hi
  rw [hl] at h
  exact h
theorem tagI_n (s : ByteArray) {x : It} (hx : x.okB) (i : Nat) (hi : i < 32) : tagI s x i = ((tagN s (x.enc.map Int.toNat)).getD i 0 : Nat) := by
  have hl : (x.enc.map Int.toNat).length = x.enc.length := List.length_map _
  have h := tag_n s (E := x.enc.map Int.toNat) (f := fun i => x.enc.getD i 0) (fun i hi => by
    have hi' : i < x.enc.length := by omega
    have b := It.enc_by hx i hi'
    show x.enc.getD i 0 = _
    have e : (x.enc.map Int.toNat).getD i 0 = (x.enc.getD i 0).toNat := by simp [List.getD_eq_getElem?_getD, List.getElem?_eq_getElem hi']
    rw [e]
    have : 0 ≤ x.enc.getD i 0 := b.1
    omega) i hi
  rw [hl] at h
  exact h
theorem hash_congr {n : Nat} {F G : Nat → Nat → Int} (h : ∀ i, i < n → ∀ j, j < 32 → F i j = G i j) : (hashI n F).enc = (hashI n G).enc := by
  show It.encP n (fun i => It.byt 32 (F i)) n = It.encP n (fun i => It.byt 32 (G i)) n
  have : ∀ k, k ≤ n → It.encP n (fun i => It.byt 32 (F i)) k = It.encP n (fun i => It.byt 32 (G i)) k := fun k hk => by
    induction k with
    | zero => rw [It.encP_zero, It.encP_zero]
    | succ k ih =>
      rw [It.encP_succ, It.encP_succ, ih (by omega)]
      congr 1
      show 2 :: (nbL _ 4 ++ (List.range 32).map (F k)) = 2 :: (nbL _ 4 ++ (List.range 32).map (G k))
      congr 2
      exact List.map_congr_left fun j hj => h k (by omega) j (List.mem_range.1 hj)
  exact this n (Nat.le_refl _)
theorem tagI_congr {s : ByteArray} {x y : It} (h : x.enc = y.enc) : tagI s x = tagI s y := by unfold tagI; rw [h]
def asF (l : List Nat) (i : Nat) : Int := (l.getD i 0 : Nat)
theorem zero_by : byB (fun _ => 0) 32 := fun _ _ => by show (0 : Int) ≤ 0 ∧ (0 : Int) < 256; decide
def coinN (c : Coin) : List Nat := tagN "specie/coin-item".toUTF8 (c.it.enc.map Int.toNat)
def nameN (c : Coin) : List Nat := tagN "specie/chain-next".toUTF8 ((hashI 2 (two (asF (coinN c)) fun _ => 0)).enc.map Int.toNat)
theorem coin_n {c : Coin} (hr : byB c.root 32) (i : Nat) (hi : i < 32) : c.dig i = asF (coinN c) i := tagI_n _ (Coin.it_okB hr) i hi
theorem name_n {c : Coin} (hr : byB c.root 32) (i : Nat) (hi : i < 32) : nameF c (fun _ => 0) i = asF (nameN c) i := by
  have hb : byB (asF (coinN c)) 32 := fun j hj => by rw [← coin_n hr j hj]; exact c.dig_by j hj
  have e : (hashI 2 (two c.dig fun _ => 0)).enc = (hashI 2 (two (asF (coinN c)) fun _ => 0)).enc := hash_congr fun k hk j hj => match k, hk with
    | 0, _ => coin_n hr j hj
    | 1, _ => rfl
  unfold nameF
  rw [tagI_congr e]
  exact tagI_n _ (hash_okB (two_by hb zero_by)) i hi
theorem names_ne : nameF (cA 2) (fun _ => 0) 0 ≠ nameF (cA 3) (fun _ => 0) 0 := by
  rw [name_n zero_by 0 (by decide), name_n zero_by 0 (by decide)]
  decide +kernel
def spendN (s : Spend) : List Nat := tagN "specie/spend-item".toUTF8 (s.it.enc.map Int.toNat)
def chainN (S : Nat → Spend) (n : Nat) : List Nat := tagN "specie/chain".toUTF8 ((hashI n fun i => asF (spendN (S i))).enc.map Int.toNat)
theorem spend_n {s : Spend} (h : s.Sm) (i : Nat) (hi : i < 32) : s.dig i = asF (spendN s) i := tagI_n _ (Spend.it_okB h) i hi
theorem chain_n {S : Nat → Spend} {n : Nat} (hn : n ≠ 0) (hs : ∀ i, i < n → (S i).Sm) (i : Nat) (hi : i < 32) : chainF S n i = asF (chainN S n) i := by
  have hb : ∀ k, k < n → byB (asF (spendN (S k))) 32 := fun k hk j hj => by rw [← spend_n (hs k hk) j hj]; exact Spend.dig_by _ j hj
  have e : (hashI n fun i => (S i).dig).enc = (hashI n fun i => asF (spendN (S i))).enc := hash_congr fun k hk j hj => spend_n (hs k hk) j hj
  rw [chainF_1 hn, tagI_congr e]
  exact tagI_n _ (hash_okB hb) i hi
theorem zero_sm : Spend.zero.Sm := ⟨⟨zero_by, zero_by⟩, fun j hj => absurd hj (Nat.not_lt_zero _), by decide, by decide⟩
def chn0 : Chn := ⟨.zero, 0, fun _ => .zero⟩
def chn1 : Chn := ⟨.zero, 1, fun _ => .zero⟩
theorem sm01 (h : Chn) (h1 : h.first = .zero) (h2 : ∀ i, h.l i = .zero) (i : Nat) : (chnS h i).Sm := by
  cases i with
  | zero => show h.first.Sm; rw [h1]; exact zero_sm
  | succ i => show (h.l i).Sm; rw [h2]; exact zero_sm
theorem chains_ne : chnD chn0 0 ≠ chnD chn1 0 := by
  rw [chnD_0 (by decide), chnD_0 (by decide), chain_n (by decide) (fun i _ => sm01 chn0 rfl (fun _ => rfl) i) 0 (by decide), chain_n (by decide) (fun i _ => sm01 chn1 rfl (fun _ => rfl) i) 0 (by decide)]
  decide +kernel
theorem entL_app35 {os : List (Option Ob)} {a a' b b' : List AV} (h : EntL os a a') (h' : EntL os b b') : EntL os (a ++ b) (a' ++ b') := EntL.app h h'
def AllCl : List AV → Prop | [] => True | a :: l => Cl a ∧ AllCl l
theorem allCl_at : ∀ {l : List AV} {j : Nat}, AllCl l → j < l.length → Cl (atL l j)
  | _ :: _, 0, h, _ => h.1
  | a :: l, j + 1, h, hj => allCl_at (l := l) (j := j) h.2 (by simpa using hj)
theorem zero_all : AllCl Spend.zero.cells := by
  show AllCl (Spend.zero.cw (lvs 0 _) (hss 0 _))
  unfold Spend.cw
  repeat' (first | exact .int | exact .isl (fun _ _ h _ => absurd h (Nat.not_lt_zero _)) | exact trivial | refine ⟨?_, ?_⟩)
theorem zero_cl (j : Nat) (hj : j < 80) : Cl (atL Spend.zero.cells j) := allCl_at zero_all hj
end Go.Sp
namespace Go.Sp
open Go Go.Am
structure Spend.SB (s : Spend) : Prop where
  by_ : s.By
  path : ∀ j, j < s.np → byB (s.pf j) 32
theorem few_sm {s : Spend} (h : s.SB) (hf : fewB s = true) : s.Sm := by
  simp [fewB] at hf
  exact ⟨h.by_, h.path, by omega, by omega⟩
theorem longK_sm {h : Chn} (hl : longK h = false) (hb : ∀ i, i < h.n + 1 → (chnS h i).SB) : h.n ≤ 300 ∧ ∀ i, i < h.n + 1 → (chnS h i).Sm := by
  unfold longK at hl
  simp only [Bool.or_eq_false_iff, decide_eq_false_iff_not] at hl
  obtain ⟨⟨h1, h2⟩, h3⟩ := hl
  refine ⟨by omega, fun i hi => few_sm (hb i hi) ?_⟩
  cases i with
  | zero =>
    show fewB h.first = true
    simpa using h2
  | succ i =>
    have := anyI_f h3 i (by omega)
    show fewB (h.l i) = true
    simpa using this
end Go.Sp

namespace Go.Proofs.YtolcfdcoidpieaaGreatDoor
open Go Go.Am Go.Sp
set_option maxRecDepth 100000

theorem indexK_c (S : Nat → Chn) (n : Nat) (hn : n ≤ 1000) (hS : ∀ i, i < n → (S i).n < 9223372036854775808) : Pure Tryz.prog gl0 65 [chs n S, .fn (.func 30) [] []] (.int .i64 (firstI (fun i => longK (S i)) n 0)) := by
  refine pure_sk (own := ow0) Tryz.func65 (by kernel_rfl) mixed (by kernel_rfl)
    (let y0 : AV := (Zi (firstI (fun (i : Nat) => longK (S i)) n 0)); (.loop ({ x : Nat // x ≤ n ∧ (fun (i : Nat) => firstI (fun (i : Nat) => longK (S i)) n 0 = firstI (fun (i : Nat) => longK (S i)) (n - i) i) x }) (fun (x : { x : Nat // x ≤ n ∧ (fun (i : Nat) => firstI (fun (i : Nat) => longK (S i)) n 0 = firstI (fun (i : Nat) => longK (S i)) (n - i) i) x }) => mkSt [0, 1, 7, 8] [AV.isl 81 n fun (i j : Nat) => atL (Chn.cells (S i)) j, AV.fn (Fn.func (30 : FuncId)) [] [], Zi (↑n : Int), Zi (↑(x.1) : Int)] []) (fun (x : { x : Nat // x ≤ n ∧ (fun (i : Nat) => firstI (fun (i : Nat) => longK (S i)) n 0 = firstI (fun (i : Nat) => longK (S i)) (n - i) i) x }) => n - x.1) (⟨0, ⟨Nat.zero_le n, rfl⟩⟩) ([0, 1, 7, 8]) ([]) ([AV.isl 81 n fun (i j : Nat) => atL (Chn.cells (S i)) j, AV.fn (Fn.func (30 : FuncId)) [] [], Zi (↑n : Int), Zi 0]) ([]) (fun x0 => (.br (decide ((↑x0.1 : Int) < (↑n : Int))) (.req ((0 : Int) ≤ (↑x0.1 : Int) ∧ (↑x0.1 : Int) < (↑n : Int)) (.sc (true) 30 ([AV.agg (Chn.cells (S (Int.toNat (↑(x0.1) : Int))))]) (AV.bool (longK (S (Int.toNat (↑(x0.1) : Int))))) (.br (longK (S (Int.toNat (↑x0.1 : Int)))) (.out (Zi (↑x0.1 : Int)) [] y0 []) (.again (Again 0 (fun (x : { x : Nat // x ≤ n ∧ (fun (i : Nat) => firstI (fun (i : Nat) => longK (S i)) n 0 = firstI (fun (i : Nat) => longK (S i)) (n - i) i) x }) => mkSt [0, 1, 7, 8] [AV.isl 81 n fun (i j : Nat) => atL (Chn.cells (S i)) j, AV.fn (Fn.func (30 : FuncId)) [] [], Zi (↑n : Int), Zi (↑(x.1) : Int)] []) (fun (x : { x : Nat // x ≤ n ∧ (fun (i : Nat) => firstI (fun (i : Nat) => longK (S i)) n 0 = firstI (fun (i : Nat) => longK (S i)) (n - i) i) x }) => n - x.1) x0) ([0, 1, 7, 8]) ([]) ([AV.isl 81 n fun (i j : Nat) => atL (Chn.cells (S i)) j, AV.fn (Fn.func (30 : FuncId)) [] [], Zi (↑n : Int), Zi (IntKind.wrap IntKind.i64 ((↑x0.1 : Int) + 1))]) ([]))))) (.out (Zi (-1)) [] y0 [])))))
    (by kernel_rfl) ?_
  refine k_loop (fun _ hs => hs.le (⟨.refl _, .refl _, .refl _, .refl _, trivial⟩) (trivial)) (fun x0 => ?_)
  try (have q0 := x0.2; dsimp only at q0)
  refine k_br (fun h1 => ?_) (fun h1 => ?_)
  · have g1 := cnd_dec_t h1
    refine k_req (by omega) ?_
    refine k_sc ((longK_c (S (Int.toNat (↑(x0.1) : Int)))) (hS _ (by omega))) ?_
    refine k_br (fun h4 => ?_) (fun h4 => ?_)
    · have g4 := cnd_id_t h4
      try simp only [Int.toNat_natCast] at g4
      exact k_out (Ent.of_eq (congrArg _ (first_hit x0.2.2 (by omega) h4)))
    · have g4 := cnd_id_f h4
      try simp only [Int.toNat_natCast] at g4
      exact k_again (⟨x0.1 + 1, by omega, first_next x0.2.2 (by omega) h4⟩) (fun _ hs => hs.le (⟨.refl _, .refl _, .refl _, inc_ent (by omega), trivial⟩) (trivial)) (by dsimp only; omega)
  · have g1 := cnd_dec_f h1
    exact k_out (Ent.of_eq (congrArg _ (first_miss x0.2.2 (by omega))))

theorem containsK_c (S : Nat → Chn) (n : Nat) (hn : n ≤ 1000) (hS : ∀ i, i < n → (S i).n < 9223372036854775808) : Pure Tryz.prog gl0 29 [chs n S, .fn (.func 30) [] []] (.bool (decide (firstI (fun i => longK (S i)) n 0 ≥ 0))) := by
  have c1 := indexK_c S n hn hS
  refine pure_sk (own := ow0) Tryz.func29 (by kernel_rfl) mixed (by kernel_rfl)
    (let y0 : AV := (AV.bool (decide (firstI (fun (i : Nat) => longK (S i)) n 0 ≥ 0))); (.sc (true) 65 ([AV.isl 81 n fun (i j : Nat) => atL (Chn.cells (S i)) j, AV.fn (Fn.func (30 : FuncId)) [] []]) (Zi (firstI (fun (i : Nat) => longK (S i)) n 0)) (.out y0 [] y0 [])))
    (by kernel_rfl) ?_
  refine k_sc (c1) ?_
  exact k_out (Ent.refl _)

theorem few35_c (S : Nat → Chn) (n : Nat) (hn : n ≤ 1000) (hS : ∀ i, i < n → (S i).n < 9223372036854775808) : Pure Tryz.prog gl0 8 [chs n S] (.bool (!decide (firstI (fun i => longK (S i)) n 0 ≥ 0))) := by
  have c1 := containsK_c S n hn hS
  refine pure_sk (own := ow0) Tryz.func8 (by kernel_rfl) mixed (by kernel_rfl)
    (let y0 : AV := (AV.bool !decide (firstI (fun (i : Nat) => longK (S i)) n 0 ≥ 0)); (.sc (true) 29 ([AV.isl 81 n fun (i j : Nat) => atL (Chn.cells (S i)) j, AV.fn (Fn.func 30) [] []]) (AV.bool (decide (firstI (fun (i : Nat) => longK (S i)) n 0 ≥ 0))) (.out y0 [] y0 [])))
    (by kernel_rfl) ?_
  refine k_sc (c1) ?_
  exact k_out (Ent.refl _)

theorem few35_1 (h : Chn) (hh : h.n < 9223372036854775808) : Pure Tryz.prog gl0 8 [.isl 81 1 fun r k => atL (List.getD [h.cells] r []) k] (.bool (!longK h)) := by
  refine Pure.ent (Pure.via (few35_c (fun _ => h) 1 (by omega) (fun _ _ => hh)) ?_) (Ent.of_eq (congrArg _ (by rw [firstI_neg]; simp [List.range, List.range.loop])))
  exact ⟨Ent.rows fun i hi => (by obtain rfl : i = 0 := Nat.lt_one_iff.1 hi
                                  rfl), trivial⟩

theorem ex_ctx (a : Int) : Pure Tryz.prog gl0 27 [exB35.av, (cA a).av, .agg (u8c fun _ => 0), .int .i64 5, .int .i64 3] (.tup [(⟨nameF (cA a) (fun _ => 0), 5, 3⟩ : Cxt).av, .int .i64 0]) := by
  have c1 := ccontext_c exB35 (cA a) (fun _ => 0) 5 3 exB35_w (fun _ _ => by show (0 : Int) ≤ 0 ∧ (0 : Int) < 256; decide) (fun _ _ => by show (0 : Int) ≤ 0 ∧ (0 : Int) < 256; decide)
  have e := cc_0 (b := exB35) (c := cA a) (f := fun _ => 0) (t := 5) (n := 3) exB35_ok (ctx_yes2 (by decide))
  rw [e.1, e.2] at c1
  exact c1

theorem awake35_w (N2 N3 D0 D1 : Nat → Int) (c1 : Pure Tryz.prog gl0 27 [exB35.av, (cA 2).av, .agg (u8c fun _ => 0), .int .i64 5, .int .i64 3] (.tup [(⟨N2, 5, 3⟩ : Cxt).av, .int .i64 0]))
    (c2 : Pure Tryz.prog gl0 27 [exB35.av, (cA 3).av, .agg (u8c fun _ => 0), .int .i64 5, .int .i64 3] (.tup [(⟨N3, 5, 3⟩ : Cxt).av, .int .i64 0]))
    (c3 : Pure Tryz.prog gl0 28 [.agg (Spend.zero.cw .nsl .nsl ++ [.nsl])] (.agg (u8c D0))) (c4 : Pure Tryz.prog gl0 28 [.agg (Spend.zero.cw .nsl .nsl ++ [.isl 80 1 fun _ k => atL (Spend.zero.cw .nsl .nsl) k])] (.agg (u8c D1))) (hN : (N2 0 == N3 0) = false) (hD : (D0 0 == D1 0) = false) : Pure Tryz.prog gl0 7 [] (.bool true) := by
  refine pure_sk (own := ow0) Tryz.func7 (by kernel_rfl) mixed (by kernel_rfl)
    (let y0 : List AV := [Zb 0, Zb 0, Zb 0, Zb 0, Zb 0, Zb 0, Zb 0, Zb 0, Zb 0, Zb 0, Zb 0, Zb 0, Zb 0, Zb 0, Zb 0, Zb 0, Zb 0, Zb 0, Zb 0, Zb 0, Zb 0, Zb 0, Zb 0, Zb 0, Zb 0, Zb 0, Zb 0, Zb 0, Zb 0, Zb 0, Zb 0, Zb 0]; (.sc (true) 27 ([AV.agg [Zi 23, Zi 11, Zi 4, Zi 2, Zi 3, Zi 9], AV.agg [Zi 0, Zi 0, Zi 0, Zi 0, Zi 2, Zb 0, Zb 0, Zb 0, Zb 0, Zb 0, Zb 0, Zb 0, Zb 0, Zb 0, Zb 0, Zb 0, Zb 0, Zb 0, Zb 0, Zb 0, Zb 0, Zb 0, Zb 0, Zb 0, Zb 0, Zb 0, Zb 0, Zb 0, Zb 0, Zb 0, Zb 0, Zb 0, Zb 0, Zb 0, Zb 0, Zb 0, Zb 0, Zi 0, Zi 0, Zi 0, Zi 0], AV.agg y0, Zi 5, Zi 3]) (AV.tup [Cxt.av { payee := N2, time := (5 : Int), number := (3 : Int) }, Zi 0]) (.sc (true) 27 ([AV.agg [Zi 23, Zi 11, Zi 4, Zi 2, Zi 3, Zi 9], AV.agg [Zi 0, Zi 0, Zi 0, Zi 0, Zi 3, Zb 0, Zb 0, Zb 0, Zb 0, Zb 0, Zb 0, Zb 0, Zb 0, Zb 0, Zb 0, Zb 0, Zb 0, Zb 0, Zb 0, Zb 0, Zb 0, Zb 0, Zb 0, Zb 0, Zb 0, Zb 0, Zb 0, Zb 0, Zb 0, Zb 0, Zb 0, Zb 0, Zb 0, Zb 0, Zb 0, Zb 0, Zb 0, Zi 0, Zi 0, Zi 0, Zi 0], AV.agg y0, Zi 5, Zi 3]) (AV.tup [Cxt.av { payee := N3, time := (5 : Int), number := (3 : Int) }, Zi 0]) (.sc (((5 : Int) == 5 && (3 : Int) == 3 && !(N2 0 == N3 0 && (N2 1 == N3 1 && (N2 2 == N3 2 && (N2 3 == N3 3 && (N2 4 == N3 4 && (N2 5 == N3 5 && (N2 6 == N3 6 && (N2 7 == N3 7 && (N2 8 == N3 8 && (N2 9 == N3 9 && (N2 10 == N3 10 && (N2 11 == N3 11 && (N2 12 == N3 12 && (N2 13 == N3 13 && (N2 14 == N3 14 && (N2 15 == N3 15 && (N2 16 == N3 16 && (N2 17 == N3 17 && (N2 18 == N3 18 && (N2 19 == N3 19 && (N2 20 == N3 20 && (N2 21 == N3 21 && (N2 22 == N3 22 && (N2 23 == N3 23 && (N2 24 == N3 24 && (N2 25 == N3 25 && (N2 26 == N3 26 && (N2 27 == N3 27 && (N2 28 == N3 28 && (N2 29 == N3 29 && (N2 30 == N3 30 && (N2 31 == N3 31 && true))))))))))))))))))))))))))))))))) == true) 28 ([AV.agg [Zi 0, Zi 0, Zi 0, Zi 0, Zi 0, Zb 0, Zb 0, Zb 0, Zb 0, Zb 0, Zb 0, Zb 0, Zb 0, Zb 0, Zb 0, Zb 0, Zb 0, Zb 0, Zb 0, Zb 0, Zb 0, Zb 0, Zb 0, Zb 0, Zb 0, Zb 0, Zb 0, Zb 0, Zb 0, Zb 0, Zb 0, Zb 0, Zb 0, Zb 0, Zb 0, Zb 0, Zb 0, Zi 0, Zi 0, Zi 0, Zi 0, Zi 0, Zi 0, Zb 0, Zb 0, Zb 0, Zb 0, Zb 0, Zb 0, Zb 0, Zb 0, Zb 0, Zb 0, Zb 0, Zb 0, Zb 0, Zb 0, Zb 0, Zb 0, Zb 0, Zb 0, Zb 0, Zb 0, Zb 0, Zb 0, Zb 0, Zb 0, Zb 0, Zb 0, Zb 0, Zb 0, Zb 0, Zb 0, Zb 0, Zb 0, Zi 0, Zi 0, AV.nsl, Zi 0, AV.nsl, AV.nsl]]) (AV.agg (u8c D0)) (.req ((((5 : Int) == 5 && (3 : Int) == 3 && !(N2 0 == N3 0 && (N2 1 == N3 1 && (N2 2 == N3 2 && (N2 3 == N3 3 && (N2 4 == N3 4 && (N2 5 == N3 5 && (N2 6 == N3 6 && (N2 7 == N3 7 && (N2 8 == N3 8 && (N2 9 == N3 9 && (N2 10 == N3 10 && (N2 11 == N3 11 && (N2 12 == N3 12 && (N2 13 == N3 13 && (N2 14 == N3 14 && (N2 15 == N3 15 && (N2 16 == N3 16 && (N2 17 == N3 17 && (N2 18 == N3 18 && (N2 19 == N3 19 && (N2 20 == N3 20 && (N2 21 == N3 21 && (N2 22 == N3 22 && (N2 23 == N3 23 && (N2 24 == N3 24 && (N2 25 == N3 25 && (N2 26 == N3 26 && (N2 27 == N3 27 && (N2 28 == N3 28 && (N2 29 == N3 29 && (N2 30 == N3 30 && (N2 31 == N3 31 && true))))))))))))))))))))))))))))))))) == true) = true → (0 : Int) ≤ 1 ∧ (1 : Int) = (1 : Int) ∧ (↑(224) : Int) * 1 ≤ 140737488355328 ∧ (1 : Int) ≤ 9223372036854775807) (.sc (((5 : Int) == 5 && (3 : Int) == 3 && !(N2 0 == N3 0 && (N2 1 == N3 1 && (N2 2 == N3 2 && (N2 3 == N3 3 && (N2 4 == N3 4 && (N2 5 == N3 5 && (N2 6 == N3 6 && (N2 7 == N3 7 && (N2 8 == N3 8 && (N2 9 == N3 9 && (N2 10 == N3 10 && (N2 11 == N3 11 && (N2 12 == N3 12 && (N2 13 == N3 13 && (N2 14 == N3 14 && (N2 15 == N3 15 && (N2 16 == N3 16 && (N2 17 == N3 17 && (N2 18 == N3 18 && (N2 19 == N3 19 && (N2 20 == N3 20 && (N2 21 == N3 21 && (N2 22 == N3 22 && (N2 23 == N3 23 && (N2 24 == N3 24 && (N2 25 == N3 25 && (N2 26 == N3 26 && (N2 27 == N3 27 && (N2 28 == N3 28 && (N2 29 == N3 29 && (N2 30 == N3 30 && (N2 31 == N3 31 && true))))))))))))))))))))))))))))))))) == true) 28 ([AV.agg [Zi 0, Zi 0, Zi 0, Zi 0, Zi 0, Zb 0, Zb 0, Zb 0, Zb 0, Zb 0, Zb 0, Zb 0, Zb 0, Zb 0, Zb 0, Zb 0, Zb 0, Zb 0, Zb 0, Zb 0, Zb 0, Zb 0, Zb 0, Zb 0, Zb 0, Zb 0, Zb 0, Zb 0, Zb 0, Zb 0, Zb 0, Zb 0, Zb 0, Zb 0, Zb 0, Zb 0, Zb 0, Zi 0, Zi 0, Zi 0, Zi 0, Zi 0, Zi 0, Zb 0, Zb 0, Zb 0, Zb 0, Zb 0, Zb 0, Zb 0, Zb 0, Zb 0, Zb 0, Zb 0, Zb 0, Zb 0, Zb 0, Zb 0, Zb 0, Zb 0, Zb 0, Zb 0, Zb 0, Zb 0, Zb 0, Zb 0, Zb 0, Zb 0, Zb 0, Zb 0, Zb 0, Zb 0, Zb 0, Zb 0, Zb 0, Zi 0, Zi 0, AV.nsl, Zi 0, AV.nsl, AV.isl 80 1 fun (r k : Nat) => atL [Zi 0, Zi 0, Zi 0, Zi 0, Zi 0, Zb 0, Zb 0, Zb 0, Zb 0, Zb 0, Zb 0, Zb 0, Zb 0, Zb 0, Zb 0, Zb 0, Zb 0, Zb 0, Zb 0, Zb 0, Zb 0, Zb 0, Zb 0, Zb 0, Zb 0, Zb 0, Zb 0, Zb 0, Zb 0, Zb 0, Zb 0, Zb 0, Zb 0, Zb 0, Zb 0, Zb 0, Zb 0, Zi 0, Zi 0, Zi 0, Zi 0, Zi 0, Zi 0, Zb 0, Zb 0, Zb 0, Zb 0, Zb 0, Zb 0, Zb 0, Zb 0, Zb 0, Zb 0, Zb 0, Zb 0, Zb 0, Zb 0, Zb 0, Zb 0, Zb 0, Zb 0, Zb 0, Zb 0, Zb 0, Zb 0, Zb 0, Zb 0, Zb 0, Zb 0, Zb 0, Zb 0, Zb 0, Zb 0, Zb 0, Zb 0, Zi 0, Zi 0, AV.nsl, Zi 0, AV.nsl] k]]) (AV.agg (u8c D1)) (.out (AV.bool ((5 : Int) == 5 && (3 : Int) == 3 && !(N2 0 == N3 0 && (N2 1 == N3 1 && (N2 2 == N3 2 && (N2 3 == N3 3 && (N2 4 == N3 4 && (N2 5 == N3 5 && (N2 6 == N3 6 && (N2 7 == N3 7 && (N2 8 == N3 8 && (N2 9 == N3 9 && (N2 10 == N3 10 && (N2 11 == N3 11 && (N2 12 == N3 12 && (N2 13 == N3 13 && (N2 14 == N3 14 && (N2 15 == N3 15 && (N2 16 == N3 16 && (N2 17 == N3 17 && (N2 18 == N3 18 && (N2 19 == N3 19 && (N2 20 == N3 20 && (N2 21 == N3 21 && (N2 22 == N3 22 && (N2 23 == N3 23 && (N2 24 == N3 24 && (N2 25 == N3 25 && (N2 26 == N3 26 && (N2 27 == N3 27 && (N2 28 == N3 28 && (N2 29 == N3 29 && (N2 30 == N3 30 && (N2 31 == N3 31 && true)))))))))))))))))))))))))))))))) && !(D0 0 == D1 0 && (D0 1 == D1 1 && (D0 2 == D1 2 && (D0 3 == D1 3 && (D0 4 == D1 4 && (D0 5 == D1 5 && (D0 6 == D1 6 && (D0 7 == D1 7 && (D0 8 == D1 8 && (D0 9 == D1 9 && (D0 10 == D1 10 && (D0 11 == D1 11 && (D0 12 == D1 12 && (D0 13 == D1 13 && (D0 14 == D1 14 && (D0 15 == D1 15 && (D0 16 == D1 16 && (D0 17 == D1 17 && (D0 18 == D1 18 && (D0 19 == D1 19 && (D0 20 == D1 20 && (D0 21 == D1 21 && (D0 22 == D1 22 && (D0 23 == D1 23 && (D0 24 == D1 24 && (D0 25 == D1 25 && (D0 26 == D1 26 && (D0 27 == D1 27 && (D0 28 == D1 28 && (D0 29 == D1 29 && (D0 30 == D1 30 && (D0 31 == D1 31 && true)))))))))))))))))))))))))))))))))) [] (AV.bool true) [])))))))
    (by kernel_rfl) ?_
  refine k_sc (c1) ?_
  refine k_sc (c2) ?_
  refine k_scg (fun h2 => c3) ?_
  refine k_req (fun hr => by have hr := (cnd_eqt_t (cnd_and_t (cnd_and_t cnd_beq_t cnd_beq_t) (cnd_not_t (cnd_and_f cnd_beq_f (cnd_and_f cnd_beq_f (cnd_and_f cnd_beq_f (cnd_and_f cnd_beq_f (cnd_and_f cnd_beq_f (cnd_and_f cnd_beq_f (cnd_and_f cnd_beq_f (cnd_and_f cnd_beq_f (cnd_and_f cnd_beq_f (cnd_and_f cnd_beq_f (cnd_and_f cnd_beq_f (cnd_and_f cnd_beq_f (cnd_and_f cnd_beq_f (cnd_and_f cnd_beq_f (cnd_and_f cnd_beq_f (cnd_and_f cnd_beq_f (cnd_and_f cnd_beq_f (cnd_and_f cnd_beq_f (cnd_and_f cnd_beq_f (cnd_and_f cnd_beq_f (cnd_and_f cnd_beq_f (cnd_and_f cnd_beq_f (cnd_and_f cnd_beq_f (cnd_and_f cnd_beq_f (cnd_and_f cnd_beq_f (cnd_and_f cnd_beq_f (cnd_and_f cnd_beq_f (cnd_and_f cnd_beq_f (cnd_and_f cnd_beq_f (cnd_and_f cnd_beq_f (cnd_and_f cnd_beq_f (cnd_and_f cnd_beq_f cnd_id_f))))))))))))))))))))))))))))))))))) hr; omega) ?_
  refine k_scg (fun h4 => c4) ?_
  exact k_out (Ent.of_eq (congrArg AV.bool (by simp [hN, hD])))

theorem awake35_c : Pure Tryz.prog gl0 7 [] (.bool true) := by
  refine awake35_w _ _ _ _ (ex_ctx 2) (ex_ctx 3) ?_ ?_ (beq_eq_false_iff_ne.2 names_ne) (beq_eq_false_iff_ne.2 chains_ne)
  · exact (cdigest_c chn0 (by decide) (fun i _ => sm01 chn0 rfl (fun _ => rfl) i)).via ⟨Ent.agg (entL_app35 zero_ent ⟨Ent.nsl, trivial⟩), trivial⟩
  · exact (cdigest_c chn1 (by decide) (fun i _ => sm01 chn1 rfl (fun _ => rfl) i)).via ⟨Ent.agg (entL_app35 zero_ent ⟨Ent.islE (fun i j _ hj => ⟨Ent.atL zero_ent j, zero_cl j hj⟩), trivial⟩), trivial⟩

end Go.Proofs.YtolcfdcoidpieaaGreatDoor

namespace Go.Proofs.YtolcfdcoidpieaaGreatDoor
open Go Go.Am Go.Sp
set_option maxRecDepth 100000





end Go.Proofs.YtolcfdcoidpieaaGreatDoor

namespace Go.Sp
open Go Go.Am

def catF (l r : Nat → Int) (i : Nat) : Int := bif Nat.blt i 32 then l i else r (i - 32)
def nodeF (l r : Nat → Int) : Nat → Int := tagF "specie/node".toUTF8 64 (catF l r)
theorem cat_by {l r : Nat → Int} (hl : byB l 32) (hr : byB r 32) : byB (catF l r) 64 := fun i hi => by
  unfold catF
  by_cases h : i < 32
  · rw [blt_t h]; exact hl i h
  · rw [blt_f (Nat.le_of_not_lt h)]; exact hr _ (by omega)
theorem node_by (l r : Nat → Int) (n : Nat) : byB (nodeF l r) n := fun i _ => sha_by _ _ i
def leafF (x : Int) : Nat → Int := tagI "specie/leaf".toUTF8 (.int x)
def treF (h : Nat → Nat → Int) : Nat → Nat → Nat → Int
  | 0, i => h i
  | k + 1, i => nodeF (treF h k (2 * i)) (treF h k (2 * i + 1))
theorem tre_by {h : Nat → Nat → Int} {n : Nat} (hh : ∀ i, i < n → byB (h i) 32) : ∀ (k i : Nat), i * 2 ^ k + 2 ^ k ≤ n → byB (treF h k i) 32
  | 0, i, hi => hh i (by omega)
  | k + 1, i, _ => node_by _ _ 32
abbrev hsl (n : Nat) (h : Nat → Nat → Int) : AV := .isl 32 n fun i j => .int .u8 (h i j)
def twoF (l r : Nat → Int) (i : Nat) : Nat → Int := bif Nat.beq i 0 then l else r
def joinF (l r : Nat → Int) (x i : Nat) : Int := bif Nat.beq x 0 then 0 else catF l r i
theorem two_ent {os : List (Option Ob)} {f g : Nat → Nat → AV} {l r : Nat → Int} (hf : ∀ i, i < 32 → f i 0 = .int .u8 (l i)) (hg : ∀ i, i < 32 → g i 0 = .int .u8 (r i)) :
    Ent os (.isl 1 2 fun i k => atL (List.getD [[.isl 1 32 f], [.isl 1 32 g]] i []) k) (.isl 1 2 fun i _ => .isl 1 32 fun k _ => .int .u8 (twoF l r i k)) := by
  refine Ent.islE fun i j hi hj => ?_
  have : j = 0 := by omega
  subst this
  refine ⟨?_, .isl fun _ _ _ _ => .int⟩
  rcases i with _ | _ | i
  · exact Ent.isl fun a b ha hb => by
      have : b = 0 := by omega
      subst this; exact hf a ha
  · exact Ent.isl fun a b ha hb => by
      have : b = 0 := by omega
      subst this; exact hg a ha
  · omega
theorem join_step {l r : Nat → Int} {x i : Nat} (hx : x < 2) (hi : i < 32 * x + 32) : (bif Nat.blt i (32 * x) then joinF l r x i else twoF l r x (i - 32 * x)) = joinF l r (x + 1) i := by
  have : x = 0 ∨ x = 1 := by omega
  rcases this with rfl | rfl
  · rw [blt_f (by omega)]
    show l (i - 0) = catF l r i
    unfold catF
    rw [blt_t (by omega)]; rfl
  · by_cases h : i < 32
    · rw [blt_t (by omega)]; rfl
    · rw [blt_f (by omega)]
      show r (i - 32) = catF l r i
      unfold catF
      rw [blt_f (by omega)]; rfl

theorem join_all {l r : Nat → Int} {x i : Nat} (hx : x = 2) : joinF l r x i = catF l r i := by subst hx; rfl
theorem cat_lo {l r : Nat → Int} {i : Nat} (h : i < 32) : catF l r i = l i := by unfold catF; rw [blt_t h]; rfl
theorem cat_hi {l r : Nat → Int} {i : Nat} : catF l r (32 + i) = r i := by unfold catF; rw [blt_f (by omega), show 32 + i - 32 = i by omega]; rfl
theorem node_n {l r : Nat → Int} {n : Nat} (h : n = 64) : tagF "specie/node".toUTF8 n (catF l r) = nodeF l r := by subst h; rfl
def revI (m x i : Nat) : Nat := bif Nat.blt i x || Nat.ble (m - x) i then m - 1 - i else i
theorem rev_eq {os : List (Option Ob)} {m : Nat} {mu : Bool} (C : Nat → Nat) (F : Nat → Nat → Nat → Int) (σ τ : Nat → Nat) (h : ∀ i, i < m → σ i = τ i) : ObEnt os ⟨1, m, mu, .row fun i => [hsl (C (σ i)) (F (σ i))]⟩ ⟨1, m, mu, .row fun i => [hsl (C (τ i)) (F (τ i))]⟩ :=
  ⟨rfl, rfl, rfl, fun i j hi hj => Ent.of_eq (by
    have hi : i < m := hi
    show Am.atL [hsl (C (σ i)) (F (σ i))] j = Am.atL [hsl (C (τ i)) (F (τ i))] j
    rw [h i hi])⟩
theorem rev_0 {m i : Nat} (hi : i < m) : i = revI m 0 i := by
  unfold revI
  have h1 : Nat.ble (m - 0) i = false := by
    cases h : Nat.ble (m - 0) i with
    | false => rfl
    | true => rw [Nat.ble_eq] at h; omega
  rw [blt_f (Nat.zero_le i), h1]; rfl
theorem rev_all {m x i : Nat} (hx : ¬ x < m - 1 - x) (hx2 : x ≤ m / 2) (hi : i < m) : revI m x i = m - 1 - i := by
  unfold revI
  by_cases h : i < x
  · rw [blt_t h]; rfl
  · by_cases h' : m - x ≤ i
    · rw [show Nat.ble (m - x) i = true from by rw [Nat.ble_eq]; exact h', Bool.or_true]; rfl
    · have h2 : Nat.ble (m - x) i = false := by
        cases hb : Nat.ble (m - x) i with
        | false => rfl
        | true => rw [Nat.ble_eq] at hb; omega
      rw [blt_f (by omega), h2]
      show i = m - 1 - i
      omega
theorem rev_mid {m x i : Nat} (h1 : ¬ i < x) (h2 : ¬ m - x ≤ i) : revI m x i = i := by
  unfold revI
  have h2' : Nat.ble (m - x) i = false := by
    cases hb : Nat.ble (m - x) i with
    | false => rfl
    | true => rw [Nat.ble_eq] at hb; omega
  rw [blt_f (by omega), h2']; rfl
theorem rev_step {os : List (Option Ob)} {m x a b : Nat} (C : Nat → Nat) (F : Nat → Nat → Nat → Int) (ha : a = x) (hb : b = m - 1 - x) (hx : x < m - 1 - x) :
    ObEnt os ⟨1, m, true, .put b [hsl (C (revI m x a)) (F (revI m x a))] (.put a [hsl (C (revI m x b)) (F (revI m x b))] (.row fun i => [hsl (C (revI m x i)) (F (revI m x i))]))⟩ ⟨1, m, true, .row fun i => [hsl (C (revI m (x + 1) i)) (F (revI m (x + 1) i))]⟩ := by
  refine ⟨rfl, rfl, rfl, fun i j hi hj => Ent.of_eq ?_⟩
  have hi : i < m := hi
  show mixA (Nat.beq i b) (Am.atL [hsl (C (revI m x a)) (F (revI m x a))] j) (mixA (Nat.beq i a) (Am.atL [hsl (C (revI m x b)) (F (revI m x b))] j) (Am.atL [hsl (C (revI m x i)) (F (revI m x i))] j)) = Am.atL [hsl (C (revI m (x + 1) i)) (F (revI m (x + 1) i))] j
  have key : ∀ p q : Nat, p = q → Am.atL [hsl (C p) (F p)] j = Am.atL [hsl (C q) (F q)] j := fun p q e => by rw [e]
  by_cases h1 : i = b
  · rw [show Nat.beq i b = true by rw [h1]; exact Nat.beq_refl b, mixA_tt]
    refine key _ _ ?_
    rw [ha, rev_mid (by omega) (by omega)]
    unfold revI
    rw [show Nat.ble (m - (x + 1)) i = true from by rw [Nat.ble_eq]; omega, Bool.or_true]
    show x = m - 1 - i
    omega
  · rw [beq_f h1, mixA_ff]
    by_cases h2 : i = a
    · rw [show Nat.beq i a = true by rw [h2]; exact Nat.beq_refl a, mixA_tt]
      refine key _ _ ?_
      rw [hb, rev_mid (by omega) (by omega)]
      unfold revI
      rw [blt_t (show i < x + 1 by omega)]
      show m - 1 - x = m - 1 - i
      omega
    · rw [beq_f h2, mixA_ff]
      refine key _ _ ?_
      unfold revI
      have e1 : Nat.blt i x = Nat.blt i (x + 1) := by
        by_cases h : i < x
        · rw [blt_t h, blt_t (by omega)]
        · rw [blt_f (by omega), blt_f (by omega)]
      have e2 : Nat.ble (m - x) i = Nat.ble (m - (x + 1)) i := by
        rw [Bool.eq_iff_iff, Nat.ble_eq, Nat.ble_eq]
        omega
      rw [e1, e2]
theorem pow5 {d k : Nat} (hd : d ≤ 5) : 2 ^ (d - k) ≤ 32 := Nat.le_trans (Nat.pow_le_pow_right (by decide) (show d - k ≤ 5 by omega)) (by decide)
theorem pow_lt {d k : Nat} (h : ((2 ^ (d - k) : Nat) : Int) > 1) : k < d := by
  apply Classical.byContradiction
  intro hn
  rw [show d - k = 0 by omega] at h
  revert h; decide
theorem pow_eq {d k : Nat} (hk : k ≤ d) (h : ¬ ((2 ^ (d - k) : Nat) : Int) > 1) : k = d := by
  apply Classical.byContradiction
  intro hn
  apply h
  have : 2 ^ 1 ≤ 2 ^ (d - k) := Nat.pow_le_pow_right (by decide) (by omega)
  have h2 : (2 : Nat) ^ 1 = 2 := rfl
  rw [h2] at this
  generalize 2 ^ (d - k) = n at this
  omega
theorem pow_dbl {d k : Nat} (h : k < d) : 2 * 2 ^ (d - k - 1) = 2 ^ (d - k) := by
  rw [show d - k = (d - k - 1) + 1 by omega, Nat.pow_succ, Nat.mul_comm]
  congr 1
theorem pow_pos2 {k : Nat} : 1 ≤ 2 ^ k := Nat.pos_of_ne_zero (by simp)
def folF (h : Nat → Int) (i : Int) (P : Nat → Nat → Int) : Nat → Nat → Int
  | 0 => h
  | x + 1 => bif decide (i / 2 ^ x % 2 = 0) then nodeF (folF h i P x) (P x) else nodeF (P x) (folF h i P x)
theorem fol_by {h : Nat → Int} {i : Int} {P : Nat → Nat → Int} (hh : byB h 32) : ∀ x, byB (folF h i P x) 32
  | 0 => hh
  | x + 1 => by
    show byB (bif _ then _ else _) 32
    cases decide (i / 2 ^ x % 2 = 0) with
    | true => exact node_by _ _ 32
    | false => exact node_by _ _ 32
theorem shw_f : ∀ x : Fin 11, IntKind.wrap .i64 (1 * 2 ^ min x.1 64) = ((2 ^ x.1 : Nat) : Int) := by decide +kernel
theorem shw {x : Nat} (h : x ≤ 10) : IntKind.wrap .i64 (1 * 2 ^ min x 64) = ((2 ^ x : Nat) : Int) := shw_f ⟨x, by omega⟩
theorem pow_inj_f : ∀ d x : Fin 11, 2 ^ d.1 = 2 ^ x.1 → d.1 = x.1 := by decide +kernel
theorem pow_inj {d x : Nat} (hd : d ≤ 10) (hx : x ≤ 10) (h : 2 ^ d = 2 ^ x) : d = x := pow_inj_f ⟨d, by omega⟩ ⟨x, by omega⟩ h
theorem dep_t {d x : Nat} (hd : d ≤ 10) (hx : x ≤ 10) (g : ((2 ^ d : Nat) : Int) = IntKind.wrap .i64 (1 * 2 ^ min x 64)) : d = x := by
  rw [shw hx] at g
  exact pow_inj hd hx (Int.ofNat_inj.1 g)
theorem dep_f {d x : Nat} (hx : x ≤ 10) (g : ¬ ((2 ^ d : Nat) : Int) = IntKind.wrap .i64 (1 * 2 ^ min x 64)) : d ≠ x := fun e => g (by rw [shw hx, e])
theorem half_q {i : Int} {x : Nat} (hi : 0 ≤ i) : Int.tdiv (i / 2 ^ x) 2 = i / 2 ^ (x + 1) := by
  rw [Int.tdiv_eq_ediv_of_nonneg (Int.ediv_nonneg hi (Int.pow_nonneg (by decide))), Int.ediv_ediv_of_nonneg (Int.pow_nonneg (by decide)), Int.pow_succ]
theorem half_r {i : Int} {x : Nat} (hi : 0 ≤ i) : Int.tmod (i / 2 ^ x) 2 = i / 2 ^ x % 2 := by
  rw [Int.tmod_eq_emod_of_nonneg (Int.ediv_nonneg hi (Int.pow_nonneg (by decide)))]
theorem half_w {i : Int} {x : Nat} (hi : 0 ≤ i) (hi' : i < 9223372036854775807) : IntKind.wrap .i64 (Int.tdiv (i / 2 ^ x) 2) = i / 2 ^ (x + 1) := by
  rw [half_q hi]
  have h1 : 0 ≤ i / 2 ^ (x + 1) := Int.ediv_nonneg hi (Int.pow_nonneg (by decide))
  have h2 : i / 2 ^ (x + 1) ≤ i := Int.ediv_le_self _ hi
  exact wI (by omega) (by omega)
theorem fol_t {h : Nat → Int} {i : Int} {P : Nat → Nat → Int} {x : Nat} (hi : 0 ≤ i) (g : Int.tmod (i / 2 ^ x) 2 = 0) : nodeF (folF h i P x) (P x) = folF h i P (x + 1) := by
  rw [half_r hi] at g
  show _ = bif _ then _ else _
  rw [decide_eq_true g]; rfl
theorem fol_f {h : Nat → Int} {i : Int} {P : Nat → Nat → Int} {x : Nat} (hi : 0 ≤ i) (g : ¬ Int.tmod (i / 2 ^ x) 2 = 0) : nodeF (P x) (folF h i P x) = folF h i P (x + 1) := by
  rw [half_r hi] at g
  show _ = bif _ then _ else _
  rw [decide_eq_false g]; rfl
theorem fol_ob {os : List (Option Ob)} {u v G : Nat → Int} (e : v = G) :
    ObEnt os ⟨32, 1, true, .fn fun i j => .int .u8 (bif Nat.beq i 0 && (Nat.ble 0 j && Nat.blt j 32) then intOfAV (atL (u8c v) (j - 0)) else u j)⟩ ⟨32, 1, true, .fn fun _ j => .int .u8 (G j)⟩ := by
  subst e
  refine ⟨rfl, rfl, rfl, fun i j hi hj => Ent.of_eq (congrArg (AV.int .u8) ?_)⟩
  have : i = 0 := Nat.lt_one_iff.1 hi
  subst this
  rw [Nat.sub_zero, show (Nat.beq 0 0 && (Nat.ble 0 j && Nat.blt j 32)) = true by rw [blt_t hj, show Nat.ble 0 j = true from by rw [Nat.ble_eq]; exact Nat.zero_le j]; rfl, u8c_at hj]
  rfl
def eqF (f g : Nat → Int) : Nat → Nat → Bool
  | 0, _ => true
  | k + 1, s => (f s == g s) && eqF f g k (s + 1)
def hEq (f g : Nat → Int) : Bool := eqF f g 32 0
theorem grow_w {n : Nat} (hn : n ≤ 1000) : IntKind.wrap .i64 ((n : Int) - IntKind.wrap .i64 (0 - 0)) = n := by
  rw [show (0 - 0 : Int) = 0 by omega, wI (n := 0) (by omega) (by omega), wI (by omega) (by omega)]; omega
theorem zero_u8 {j : Nat} (hj : j < 1) : AV.int .u8 (intOfAV (atL (zcells (.int .u8 0)) j)) = .int .u8 0 := by
  have : j = 0 := by omega
  subst this; rfl

end Go.Sp

namespace Go.Proofs.YtolcfdcoidpieaaGreatDoor
open Go Go.Am Go.Sp
set_option maxRecDepth 100000

theorem grow_c (n : Nat) (h0 : 0 < n) (hn : n ≤ 1000) : Gives Tryz.prog gl0 281 [] [.nsl, .int .i64 n] (.osl 0 1 0 0) [some ⟨1, n, true, .fn fun _ _ => .int .u8 0⟩] := by
  have hw := grow_w hn
  refine gives_sk (own := ow0) (hand := true) Tryz.func281 (by kernel_rfl) mixed (by kernel_rfl)
    (let y0 : List (Option Ob) := [some ⟨1, n, true, Rep.fn fun (x x_1 : Nat) => Zb 0⟩]; (.br (decide ((↑n : Int) < 0)) .no (.br (decide (IntKind.wrap IntKind.i64 ((↑n : Int) - IntKind.wrap IntKind.i64 ((0 : Int) - 0)) > 0)) (.req ((0 : Int) ≤ 0 ∧ (0 : Int) ≤ (↑(0) : Int)) (.req ((0 : Int) < IntKind.wrap IntKind.i64 ((↑n : Int) - IntKind.wrap IntKind.i64 ((0 : Int) - 0)) ∧ IntKind.wrap IntKind.i64 ((↑n : Int) - IntKind.wrap IntKind.i64 ((0 : Int) - 0)) * (↑(1) : Int) ≤ 140737488355328) (.req ((0 : Int) ≤ 0 ∧ (0 : Int) ≤ (↑(Int.toNat (IntKind.wrap IntKind.i64 ((↑n : Int) - IntKind.wrap IntKind.i64 ((0 : Int) - 0)))) : Int)) (.out (AV.osl 0 1 0 0) ([some ⟨1, Int.toNat (IntKind.wrap IntKind.i64 ((↑n : Int) - IntKind.wrap IntKind.i64 ((0 : Int) - 0))), true, Rep.fn fun (i j : Nat) => Zb (intOfAV (atL (zcells (Value.int IntKind.u8 (0 : Int))) j))⟩]) (AV.osl 0 1 0 0) (y0))))) (.out (AV.nsl) ([]) (AV.osl 0 1 0 0) (y0)))))
    (by kernel_rfl) ?_
  refine k_br (fun h0 => ?_) (fun h0 => ?_)
  · have g0 := cnd_dec_t h0
    exact (show False from (by exfalso; omega))
  · have g0 := cnd_dec_f h0
    refine k_br (fun h2 => ?_) (fun h2 => ?_)
    · have g2 := cnd_dec_t h2
      refine k_req (by omega) ?_
      refine k_req (by omega) ?_
      refine k_req (by omega) ?_
      exact k_outg (by exact Ent.refl _) (by exact ⟨⟨rfl, by show Int.toNat _ = n; rw [hw]; rfl, rfl, fun i j _ hj => Ent.of_eq (zero_u8 hj)⟩, trivial⟩)
    · have g2 := cnd_dec_f h2
      exact k_outg (by (exfalso; rw [hw] at g2; omega)) (by (exfalso; rw [hw] at g2; omega))

def ow6 : FuncId → Option (List Bool) := fun f => bif Nat.beq f 281 then some [false, false] else none

theorem concat_c (l r : Nat → Int) : Pure Tryz.prog gl0 259 [.isl 1 2 fun i _ => .isl 1 32 fun k _ => .int .u8 (twoF l r i k)] (bys 64 (catF l r)) := by
  refine pure_sk (own := ow6) Tryz.func259 (by kernel_rfl) mixed (by kernel_rfl)
    (.loop ({ x : Nat // x ≤ 2 }) (fun (x : { x : Nat // x ≤ 2 }) => mkSt [0, 9, 10, 3, 11] [AV.isl 1 2 fun (i x : Nat) => AV.isl 1 32 fun (k x : Nat) => Zb (twoF l r i k), AV.isl 1 2 fun (i x : Nat) => AV.isl 1 32 fun (k x : Nat) => Zb (twoF l r i k), Zi (↑(2) : Int), Zi (↑(32 * x.1) : Int), Zi (↑(x.1) : Int)] []) (fun (x : { x : Nat // x ≤ 2 }) => 2 - x.1) (⟨0, Nat.zero_le 2⟩) ([0, 9, 10, 3, 11]) ([]) ([AV.isl 1 2 fun (i x : Nat) => AV.isl 1 32 fun (k x : Nat) => Zb (twoF l r i k), AV.isl 1 2 fun (i x : Nat) => AV.isl 1 32 fun (k x : Nat) => Zb (twoF l r i k), Zi (↑(2) : Int), Zi 0, Zi 0]) ([]) (fun x0 => (.br (decide ((↑x0.1 : Int) < (↑(2) : Int))) (.req ((0 : Int) ≤ (↑x0.1 : Int) ∧ (↑x0.1 : Int) < (↑(2) : Int)) (.br (decide (IntKind.wrap IntKind.i64 ((↑(32 * x0.1) : Int) + (↑(32) : Int)) < 0)) .no (.again (Again 0 (fun (x : { x : Nat // x ≤ 2 }) => mkSt [0, 9, 10, 3, 11] [AV.isl 1 2 fun (i x : Nat) => AV.isl 1 32 fun (k x : Nat) => Zb (twoF l r i k), AV.isl 1 2 fun (i x : Nat) => AV.isl 1 32 fun (k x : Nat) => Zb (twoF l r i k), Zi (↑(2) : Int), Zi (↑(32 * x.1) : Int), Zi (↑(x.1) : Int)] []) (fun (x : { x : Nat // x ≤ 2 }) => 2 - x.1) x0) ([0, 9, 10, 3, 11]) ([]) ([AV.isl 1 2 fun (i x : Nat) => AV.isl 1 32 fun (k x : Nat) => Zb (twoF l r i k), AV.isl 1 2 fun (i x : Nat) => AV.isl 1 32 fun (k x : Nat) => Zb (twoF l r i k), Zi (↑(2) : Int), Zi (IntKind.wrap IntKind.i64 ((↑(32 * x0.1) : Int) + (↑(32) : Int))), Zi (IntKind.wrap IntKind.i64 ((↑x0.1 : Int) + 1))]) ([])))) (.gc 281 ([]) ([AV.nsl, Zi (↑(32 * x0.1) : Int)]) (AV.osl 0 1 0 0) ([some ⟨1, 32 * x0.1, true, Rep.fn fun (x x_1 : Nat) => Zb 0⟩]) (.loop ({ x : Nat // x ≤ 2 }) (fun (x : { x : Nat // x ≤ 2 }) => mkSt [25, 26, 6, 27] [AV.isl 1 2 fun (i x : Nat) => AV.isl 1 32 fun (k x : Nat) => Zb (twoF l r i k), Zi (↑(2) : Int), AV.osl 0 1 0 (32 * x.1), Zi (↑(x.1) : Int)] [some ⟨1, bif Nat.beq (x.1) 0 then 64 else 32 * x.1, true, Rep.fn fun (i x_1 : Nat) => Zb (joinF l r (x.1) i)⟩]) (fun (x : { x : Nat // x ≤ 2 }) => 2 - x.1) (⟨0, Nat.zero_le 2⟩) ([25, 26, 6, 27]) ([16]) ([AV.isl 1 2 fun (i x : Nat) => AV.isl 1 32 fun (k x : Nat) => Zb (twoF l r i k), Zi (↑(2) : Int), AV.osl 0 1 0 0, Zi 0]) ([some ⟨1, 32 * x0.1, true, Rep.fn fun (i j : Nat) => Zb 0⟩]) (fun x7 => (.br (decide ((↑x7.1 : Int) < (↑(2) : Int))) (.req ((0 : Int) ≤ (↑x7.1 : Int) ∧ (↑x7.1 : Int) < (↑(2) : Int)) (.req ((32 * x7.1 + 32) * 1 ≤ 140737488355328) (.again (Again 0 (fun (x : { x : Nat // x ≤ 2 }) => mkSt [25, 26, 6, 27] [AV.isl 1 2 fun (i x : Nat) => AV.isl 1 32 fun (k x : Nat) => Zb (twoF l r i k), Zi (↑(2) : Int), AV.osl 0 1 0 (32 * x.1), Zi (↑(x.1) : Int)] [some ⟨1, bif Nat.beq (x.1) 0 then 64 else 32 * x.1, true, Rep.fn fun (i x_1 : Nat) => Zb (joinF l r (x.1) i)⟩]) (fun (x : { x : Nat // x ≤ 2 }) => 2 - x.1) x7) ([25, 26, 6, 27]) ([49]) ([AV.isl 1 2 fun (i x : Nat) => AV.isl 1 32 fun (k x : Nat) => Zb (twoF l r i k), Zi (↑(2) : Int), AV.osl 0 1 0 (32 * x7.1 + 32), Zi (IntKind.wrap IntKind.i64 ((↑x7.1 : Int) + 1))]) ([some ⟨1, 32 * x7.1 + 32, true, Rep.fn fun (i j : Nat) => Zb (bif Nat.blt i (32 * x7.1) then joinF l r x7.1 i else twoF l r (Int.toNat (↑x7.1 : Int)) (i - 32 * x7.1))⟩])))) (.out (AV.isl 1 (32 * x7.1) fun (r_1 k : Nat) => Zb (joinF l r x7.1 (r_1 + 0))) [] (bys 64 (catF l r)) []))))))))
    (by kernel_rfl) ?_
  refine k_loop (fun _ hs => hs.le (by repeat' (first | exact trivial | (first | exact Ent.refl _ | exact inc_ent (by omega) | exact Ent.nil rfl | exact Ent.of_eq (congrArg (AV.osl _ _ _) (by first | omega | (dsimp only; omega))) | exact Ent.of_eq (congrArg (AV.int _) (by first | omega | (dsimp only; omega)))) | refine And.intro ?_ ?_)) (trivial)) (fun x0 => ?_)
  try (have q0 := x0.2; dsimp only at q0)
  refine k_br (fun h1 => ?_) (fun h1 => ?_)
  · have g1 := cnd_dec_t h1
    refine k_req (by omega) ?_
    refine k_br (fun h3 => ?_) (fun h3 => ?_)
    · have g3 := cnd_dec_t h3
      exact (show False from (by exfalso; rw [wI (by omega) (by omega)] at g3; omega))
    · have g3 := cnd_dec_f h3
      exact k_again (⟨x0.1 + 1, by omega⟩) (fun _ hs => hs.le (by repeat' (first | exact trivial | (first | exact Ent.refl _ | exact inc_ent (by omega) | exact Ent.nil rfl | exact Ent.of_eq (congrArg (AV.osl _ _ _) (by first | omega | (dsimp only; omega))) | exact Ent.of_eq (congrArg (AV.int _) (by first | omega | (dsimp only; omega)))) | refine And.intro ?_ ?_)) (trivial)) (by (dsimp only; omega))
  · have g1 := cnd_dec_f h1
    refine k_gc (grow_c (32 * x0.1) (by omega) (by omega)) ?_
    refine k_loop (fun _ hs => hs.le (by repeat' (first | exact trivial | (first | exact Ent.refl _ | exact inc_ent (by omega) | exact Ent.nil rfl | exact Ent.of_eq (congrArg (AV.osl _ _ _) (by first | omega | (dsimp only; omega))) | exact Ent.of_eq (congrArg (AV.int _) (by first | omega | (dsimp only; omega)))) | refine And.intro ?_ ?_)) (by exact ⟨⟨rfl, by show 32 * x0.1 = 64; omega, rfl, fun i j _ _ => Ent.refl _⟩, trivial⟩)) (fun x7 => ?_)
    try (have q7 := x7.2; dsimp only at q7)
    refine k_br (fun h8 => ?_) (fun h8 => ?_)
    · have g8 := cnd_dec_t h8
      refine k_req (by omega) ?_
      refine k_req (by omega) ?_
      exact k_again (⟨x7.1 + 1, by omega⟩) (fun _ hs => hs.le (by repeat' (first | exact trivial | (first | exact Ent.refl _ | exact inc_ent (by omega) | exact Ent.nil rfl | exact Ent.of_eq (congrArg (AV.osl _ _ _) (by first | omega | (dsimp only; omega))) | exact Ent.of_eq (congrArg (AV.int _) (by first | omega | (dsimp only; omega)))) | refine And.intro ?_ ?_)) (by exact ⟨⟨rfl, rfl, rfl, fun i j hi hj => Ent.of_eq (congrArg _ (join_step (by omega) hi))⟩, trivial⟩)) (by (dsimp only; omega))
    · have g8 := cnd_dec_f h8
      exact k_out (Ent.islN (by omega) (fun i j hi hj => congrArg _ (join_all (by omega))))

theorem inner_c (l r : Nat → Int) (hl : byB l 32) (hr : byB r 32) : Pure Tryz.prog gl0 220 [.agg (u8c l), .agg (u8c r)] (.agg (u8c (nodeF l r))) := by
  have hc := (concat_c l r).via (args := [_]) ⟨two_ent (f := fun i x => .int .u8 (intOfAV (atL (u8c l) (0 + (0 + i))))) (g := fun i x => .int .u8 (intOfAV (atL (u8c r) (0 + (0 + i))))) (fun i hi => by rw [Nat.zero_add, Nat.zero_add, u8c_at hi]) (fun i hi => by rw [Nat.zero_add, Nat.zero_add, u8c_at hi]), trivial⟩
  have ht := tagged_c "specie/node".toUTF8 (by decide) (by decide) (catF l r) 64 (by decide) (cat_by hl hr)
  refine pure_sk (own := ow0) Tryz.func220 (by kernel_rfl) mixed (by kernel_rfl)
    (.dc (true) 259 ([AV.isl 1 2 fun (r_1 k : Nat) => atL (List.getD [[AV.isl 1 32 fun (r x : Nat) => Zb (intOfAV (atL (u8c l) (0 + (0 + r))))], [AV.isl 1 32 fun (r_2 x : Nat) => Zb (intOfAV (atL (u8c r) (0 + (0 + r_2))))]] (r_1 + 0) []) k]) (bys 64 (catF l r)) (.sc (true) 144 ([AV.str { data := #[(115 : UInt8), (112 : UInt8), (101 : UInt8), (99 : UInt8), (105 : UInt8), (101 : UInt8), (47 : UInt8), (110 : UInt8), (111 : UInt8), (100 : UInt8), (101 : UInt8)] }, AV.isl 1 64 fun (i x : Nat) => Zb (catF l r i)]) (AV.tup [AV.agg (u8c (tagF (String.toUTF8 "specie/node") 64 (catF l r))), Zi 0]) (.out (AV.agg (u8c (tagF (String.toUTF8 "specie/node") 64 (catF l r)))) [] (AV.agg (u8c (nodeF l r))) [])))
    (by kernel_rfl) ?_
  refine k_dc (hc) ?_
  refine k_sc (ht) ?_
  exact k_out (Ent.refl _)

theorem rinner_c (l r : Nat → Int) (hl : byB l 32) (hr : byB r 32) : Pure Tryz.prog gl0 161 [.agg (u8c l), .agg (u8c r)] (.agg (u8c (nodeF l r))) := by
  refine pure_sk (own := ow0) Tryz.func161 (by kernel_rfl) mixed (by kernel_rfl)
    (let y0 : List AV := [Zb 0, Zb 0, Zb 0, Zb 0, Zb 0, Zb 0, Zb 0, Zb 0, Zb 0, Zb 0, Zb 0, Zb 0, Zb 0, Zb 0, Zb 0, Zb 0, Zb 0, Zb 0, Zb 0, Zb 0, Zb 0, Zb 0, Zb 0, Zb 0, Zb 0, Zb 0, Zb 0, Zb 0, Zb 0, Zb 0, Zb 0, Zb 0]; (.loop ({ x : Nat // x ≤ 32 }) (fun (x : { x : Nat // x ≤ 32 }) => mkSt [2, 3, 4, 5, 6] [AV.own 0 32 0 0 32, AV.own 1 32 0 0 32, AV.own 2 32 0 0 32, AV.osl 3 1 0 (x.1), Zi (↑(x.1) : Int)] [some ⟨32, 1, true, Rep.lst [u8c l]⟩, some ⟨32, 1, true, Rep.lst [u8c r]⟩, some ⟨32, 1, true, Rep.lst [y0]⟩, some ⟨1, x.1, true, Rep.fn fun (i x : Nat) => Zb (catF l r i)⟩]) (fun (x : { x : Nat // x ≤ 32 }) => 32 - x.1) (⟨0, Nat.zero_le 32⟩) ([2, 3, 4, 5, 6]) ([0, 8, 16, 299]) ([AV.own 0 32 0 0 32, AV.own 1 32 0 0 32, AV.own 2 32 0 0 32, AV.nsl, Zi 0]) ([some ⟨32, 1, true, Rep.lst [u8c l]⟩, some ⟨32, 1, true, Rep.lst [u8c r]⟩, some ⟨32, 1, true, Rep.lst [y0]⟩, some ⟨1, 0, true, Rep.lst []⟩]) (fun x0 => (.br (decide ((↑x0.1 : Int) < 32)) (.req ((0 : Int) ≤ (↑x0.1 : Int) ∧ (↑x0.1 : Int) < (↑(32) : Int)) (.req ((x0.1 + 1) * 1 ≤ 140737488355328) (.again (Again 0 (fun (x : { x : Nat // x ≤ 32 }) => mkSt [2, 3, 4, 5, 6] [AV.own 0 32 0 0 32, AV.own 1 32 0 0 32, AV.own 2 32 0 0 32, AV.osl 3 1 0 (x.1), Zi (↑(x.1) : Int)] [some ⟨32, 1, true, Rep.lst [u8c l]⟩, some ⟨32, 1, true, Rep.lst [u8c r]⟩, some ⟨32, 1, true, Rep.lst [y0]⟩, some ⟨1, x.1, true, Rep.fn fun (i x : Nat) => Zb (catF l r i)⟩]) (fun (x : { x : Nat // x ≤ 32 }) => 32 - x.1) x0) ([2, 3, 4, 5, 6]) ([0, 1, 2, 60]) ([AV.own 0 32 0 0 32, AV.own 1 32 0 0 32, AV.own 2 32 0 0 32, AV.osl 3 1 0 (x0.1 + 1), Zi (IntKind.wrap IntKind.i64 ((↑x0.1 : Int) + 1))]) ([some ⟨32, 1, true, Rep.lst [u8c l]⟩, some ⟨32, 1, true, Rep.lst [u8c r]⟩, some ⟨32, 1, true, Rep.lst [y0]⟩, some ⟨1, x0.1 + 1, true, Rep.fn fun (i j : Nat) => Zb (bif Nat.blt i x0.1 then catF l r i else intOfAV (atL [Zb (intOfAV (Rep.at (Ob.f (Ob.seen ⟨32, 1, true, Rep.lst [u8c l]⟩)) 0 (0 + Int.toNat (↑(x0.1) : Int))))] j))⟩])))) (.loop ({ x : Nat // x ≤ 32 }) (fun (x : { x : Nat // x ≤ 32 }) => mkSt [3, 4, 5, 7] [AV.own 0 32 0 0 32, AV.own 1 32 0 0 32, AV.osl 2 1 0 (32 + x.1), Zi (↑(x.1) : Int)] [some ⟨32, 1, true, Rep.lst [u8c r]⟩, some ⟨32, 1, true, Rep.lst [y0]⟩, some ⟨1, 32 + x.1, true, Rep.fn fun (i x : Nat) => Zb (catF l r i)⟩]) (fun (x : { x : Nat // x ≤ 32 }) => 32 - x.1) (⟨0, Nat.zero_le 32⟩) ([3, 4, 5, 7]) ([1, 2, 3]) ([AV.own 0 32 0 0 32, AV.own 1 32 0 0 32, AV.osl 2 1 0 x0.1, Zi 0]) ([some ⟨32, 1, true, Rep.lst [u8c r]⟩, some ⟨32, 1, true, Rep.lst [y0]⟩, some ⟨1, x0.1, true, Rep.fn fun (i j : Nat) => Zb (catF l r i)⟩]) (fun x5 => (.br (decide ((↑x5.1 : Int) < 32)) (.req ((0 : Int) ≤ (↑x5.1 : Int) ∧ (↑x5.1 : Int) < (↑(32) : Int)) (.req ((32 + x5.1 + 1) * 1 ≤ 140737488355328) (.again (Again 0 (fun (x : { x : Nat // x ≤ 32 }) => mkSt [3, 4, 5, 7] [AV.own 0 32 0 0 32, AV.own 1 32 0 0 32, AV.osl 2 1 0 (32 + x.1), Zi (↑(x.1) : Int)] [some ⟨32, 1, true, Rep.lst [u8c r]⟩, some ⟨32, 1, true, Rep.lst [y0]⟩, some ⟨1, 32 + x.1, true, Rep.fn fun (i x : Nat) => Zb (catF l r i)⟩]) (fun (x : { x : Nat // x ≤ 32 }) => 32 - x.1) x5) ([3, 4, 5, 7]) ([0, 1, 59]) ([AV.own 0 32 0 0 32, AV.own 1 32 0 0 32, AV.osl 2 1 0 (32 + x5.1 + 1), Zi (IntKind.wrap IntKind.i64 ((↑x5.1 : Int) + 1))]) ([some ⟨32, 1, true, Rep.lst [u8c r]⟩, some ⟨32, 1, true, Rep.lst [y0]⟩, some ⟨1, 32 + x5.1 + 1, true, Rep.fn fun (i j : Nat) => Zb (bif Nat.blt i (32 + x5.1) then catF l r i else intOfAV (atL [Zb (intOfAV (Rep.at (Ob.f (Ob.seen ⟨32, 1, true, Rep.lst [u8c r]⟩)) 0 (0 + Int.toNat (↑(x5.1) : Int))))] j))⟩])))) (.sc (true) 156 ([AV.str { data := #[(115 : UInt8), (112 : UInt8), (101 : UInt8), (99 : UInt8), (105 : UInt8), (101 : UInt8), (47 : UInt8), (110 : UInt8), (111 : UInt8), (100 : UInt8), (101 : UInt8)] }, AV.isl 1 (32 + x5.1) fun (r_1 k : Nat) => Zb (catF l r (r_1 + 0))]) (AV.agg (u8c (tagF (String.toUTF8 "specie/node") (32 + x5.1) (catF l r)))) (.out (AV.agg (u8c (tagF (String.toUTF8 "specie/node") (32 + x5.1) (catF l r)))) [] (AV.agg (u8c (nodeF l r))) [])))))))))
    (by kernel_rfl) ?_
  refine k_loop (fun _ hs => hs.le (by repeat' (first | exact trivial | (first | exact Ent.refl _ | exact inc_ent (by omega) | exact Ent.nil rfl | exact Ent.of_eq (congrArg (AV.osl _ _ _) (by first | omega | (dsimp only; omega))) | exact Ent.of_eq (congrArg (AV.int _) (by first | omega | (dsimp only; omega)))) | refine And.intro ?_ ?_)) (by repeat' (first | exact trivial | (first | exact ObEnt.refl _ | exact ObEnt.junk | exact ObEnt.zero | exact ObEnt.push rfl rfl | exact ObEnt.pushRow rfl | exact ObEnt.len (by omega) | exact ObEnt.row (by repeat' (first | exact trivial | (first | exact Ent.refl _ | exact inc_ent (by omega) | exact Ent.nil rfl | exact Ent.of_eq (congrArg (AV.osl _ _ _) (by first | omega | (dsimp only; omega))) | exact Ent.of_eq (congrArg (AV.int _) (by first | omega | (dsimp only; omega)))) | refine And.intro ?_ ?_))) | refine And.intro ?_ ?_))) (fun x0 => ?_)
  try (have q0 := x0.2; dsimp only at q0)
  refine k_br (fun h1 => ?_) (fun h1 => ?_)
  · have g1 := cnd_dec_t h1
    refine k_req (by omega) ?_
    refine k_req (by omega) ?_
    exact k_again (⟨x0.1 + 1, by omega⟩) (fun _ hs => hs.le (by repeat' (first | exact trivial | (first | exact Ent.refl _ | exact inc_ent (by omega) | exact Ent.nil rfl | exact Ent.of_eq (congrArg (AV.osl _ _ _) (by first | omega | (dsimp only; omega))) | exact Ent.of_eq (congrArg (AV.int _) (by first | omega | (dsimp only; omega)))) | refine And.intro ?_ ?_)) (⟨by exact ObEnt.refl _, by exact ObEnt.refl _, by exact ObEnt.refl _, ObEnt.pushF (F := catF l r) (by dsimp only) (by show intOfAV (atL (u8c l) (0 + x0.1)) = catF l r x0.1; rw [Nat.zero_add, u8c_at (by omega), cat_lo (by omega)]), trivial⟩)) (by (dsimp only; omega))
  · have g1 := cnd_dec_f h1
    refine k_loop (fun _ hs => hs.le (by repeat' (first | exact trivial | (first | exact Ent.refl _ | exact inc_ent (by omega) | exact Ent.nil rfl | exact Ent.of_eq (congrArg (AV.osl _ _ _) (by (dsimp only; omega))) | exact Ent.of_eq (congrArg (AV.int _) (by first | omega | (dsimp only; omega)))) | refine And.intro ?_ ?_)) (⟨by exact ObEnt.refl _, by exact ObEnt.refl _, ⟨rfl, by show x0.1 = 32 + 0; omega, rfl, fun _ _ _ _ => Ent.refl _⟩, trivial⟩)) (fun x5 => ?_)
    try (have q5 := x5.2; dsimp only at q5)
    refine k_br (fun h6 => ?_) (fun h6 => ?_)
    · have g6 := cnd_dec_t h6
      refine k_req (by omega) ?_
      refine k_req (by omega) ?_
      exact k_again (⟨x5.1 + 1, by omega⟩) (fun _ hs => hs.le (by repeat' (first | exact trivial | (first | exact Ent.refl _ | exact inc_ent (by omega) | exact Ent.nil rfl | exact Ent.of_eq (congrArg (AV.osl _ _ _) (by first | omega | (dsimp only; omega))) | exact Ent.of_eq (congrArg (AV.int _) (by first | omega | (dsimp only; omega)))) | refine And.intro ?_ ?_)) (⟨by exact ObEnt.refl _, by exact ObEnt.refl _, ObEnt.pushF (F := catF l r) (by dsimp only; omega) (by show intOfAV (atL (u8c r) (0 + x5.1)) = catF l r (32 + x5.1); rw [Nat.zero_add, u8c_at (by omega), cat_hi]), trivial⟩)) (by (dsimp only; omega))
    · have g6 := cnd_dec_f h6
      refine k_sc ((rtagged_c (String.toUTF8 "specie/node") (of_decide_eq_true (id (Eq.refl true))) (catF l r)) (32 + x5.1) (by omega) (by exact by_congr (fun i => rfl) (by rw [show 32 + x5.1 = 64 by omega]; exact cat_by hl hr))) ?_
      exact k_out (Ent.of_eq (congrArg (fun t => AV.agg (u8c t)) (node_n (by omega))))

end Go.Proofs.YtolcfdcoidpieaaGreatDoor

namespace Go.Am
open Go.RowKit

def keepsOps (pins : List Nat) (ops : Array Oper) : Bool :=
  ops.toList.all fun o => (match o.op with | .defer _ => false | .mapUpdate .. => false | _ => true) && (match o.dst with | some d => !memN pins d | none => true)
def keepsC (pins : List Nat) : Code → Bool
  | .skip => true
  | .region _ ops _ => keepsOps pins ops
  | .seq x y => keepsC pins x && keepsC pins y
  | .cond _ x y => keepsC pins x && keepsC pins y
  | .block _ x => keepsC pins x
  | _ => false

def PinIn (pins : List Nat) (a0 a : Act) : Prop := ∀ n, n ∈ pins → a.tmps.getD n undef = a0.tmps.getD n undef

section
def Open (F : Fence) : Prop := F = Fence.wide ∨ ∃ l, F = Fence.wide.inRound l
theorem Open.calls {F : Fence} (h : Open F) {n : Nat} {P : Program} {f : FuncId} {args : Array Value} {w : World} {R : Ending → World → Prop} (hc : Calls P f args w R) : CallsIn F n P f args w R := by
  rcases h with rfl | ⟨l, rfl⟩
  · exact callsIn_wide.2 hc
  · exact CallsIn.inRound l (callsIn_wide.2 hc)
theorem Open.fn {F : Fence} (h : Open F) (f : FuncId) : F.fn f := by rcases h with rfl | ⟨l, rfl⟩ <;> trivial
theorem Open.deep {F : Fence} (h : Open F) : ¬ F.depth.isSome = true := by rcases h with rfl | ⟨l, rfl⟩ <;> (intro h; cases h)
theorem Open.steps {F : Fence} (h : Open F) {P : Program} {m m' : Machine} (hs : Steps P m m') : StepsIn (Machine.fenced P F) P m m' := by rcases h with rfl | ⟨l, rfl⟩ <;> exact stepsIn_wide.2 hs

variable {P : Program} {ops : Array Oper} {Q Q' : Exit → Act → World → Prop} {F : Fence} {n : Nat} {pins : List Nat} {a0 : Act}

theorem upon_in (hF : Open F) {o : Oper} {a : Act} {K K' : Act → World → Prop} (hp : ∀ ch a w, ¬ Q (.panic ch) a w) (hO : ¬ LetsOut Q) (hK : ∀ a' w', (∃ v, a'.tmps = (a.put o.dst v).tmps) → K a' w' → K' a' w') : ∀ (r : Result Next), o.upon P a K Q r → o.uponIn F n P a K' Q' r := by
  intro r h
  cases r with
  | ok x w' =>
    cases x <;> simp only [Oper.upon] at h <;> simp only [Oper.uponIn]
    case value v => exact hK _ _ ⟨v, rfl⟩ h
    case skip => exact hK _ _ ⟨undef, rfl⟩ h
    case defer d => exact hK _ _ ⟨undef, by cases o.dst <;> rfl⟩ h
    case enter f args =>
      refine ⟨fun h => (hF.deep h).elim, hF.calls (h.mono fun e w'' he => ?_)⟩
      cases e with
      | returned v => exact hK _ _ ⟨v, rfl⟩ he
      | panicked ch => exact (hp _ _ _ he).elim
      | outgrown => exact (hO he).elim
    case row row args =>
      refine ⟨fun h => (hF.deep h).elim, fun c cs _ => ?_⟩
      obtain ⟨v, w'', hr, hs⟩ := h c cs
      exact ⟨v, w'', hK _ _ ⟨v, rfl⟩ hr, hF.steps hs⟩
  | halt x w' =>
    cases x <;> simp only [Oper.upon] at h
    exact (hp _ _ _ h).elim

theorem op_in (hF : Open F) {o : Oper} {a : Act} {w : World} {K K' : Act → World → Prop} (hd : ∀ c, o.op ≠ .defer c) (hp : ∀ ch a w, ¬ Q (.panic ch) a w) (hO : ¬ LetsOut Q) (hK : ∀ a' w', (∃ v, a'.tmps = (a.put o.dst v).tmps) → K a' w' → K' a' w')
    (h : o.wp P a w K Q) : o.wpIn F n P a w K' Q' := by
  refine ⟨fun f _ => hF.fn f, ?_⟩
  rw [Oper.semAt_eq _ _ _ hd]
  exact upon_in hF hp hO hK _ h

theorem keeps_upd {pins : List Nat} {ops : Array Oper} (hk : keepsOps pins ops = true) : hasUpd ops = false := by
  unfold hasUpd
  rw [List.any_eq_false]
  intro o ho
  have := List.all_eq_true.1 hk o ho
  rw [Bool.and_eq_true] at this
  have h1 := this.1
  cases hop : o.op <;> simp [hop] at h1 ⊢

theorem keeps_at {i : Nat} {o : Oper} (hk : keepsOps pins ops = true) (ho : ops[i]? = some o) : (∀ c, o.op ≠ .defer c) ∧ ∀ n, n ∈ pins → o.dst ≠ some n := by
  have hm : o ∈ ops.toList := by
    obtain ⟨h1, h2⟩ := Array.getElem?_eq_some_iff.1 ho
    rw [← h2]; simp
  have := List.all_eq_true.1 hk o hm
  rw [Bool.and_eq_true] at this
  obtain ⟨h1, h2⟩ := this
  refine ⟨fun c e => (by rw [e] at h1; cases h1), fun n hn e => ?_⟩
  rw [e] at h2
  simp only [Bool.not_eq_true'] at h2
  rw [memN_iff.2 hn] at h2
  cases h2

theorem pinned_put {o : Oper} {a a' : Act} {v : Value} (hd : ∀ n, n ∈ pins → o.dst ≠ some n) (h : PinIn pins a0 a) (e : a'.tmps = (a.put o.dst v).tmps) : PinIn pins a0 a' := fun n hn => by
  rw [e, ← h n hn]
  cases hdd : o.dst with
  | none => rfl
  | some d => exact getD_put_ne (fun e => hd n hn (by rw [hdd, e]))

theorem ops_in (hF : Open F) (hk : keepsOps pins ops = true) (hp : ∀ ch a w, ¬ Q (.panic ch) a w) (hO : ¬ LetsOut Q) : ∀ (is : List Nat) (a : Act) (w : World), wpOps P ops Q is a w → PinIn pins a0 a →
    wpOpsIn F n P ops (fun e a w => Q e a w ∧ PinIn pins a0 a) is a w := by
  intro is
  induction is with
  | nil => intro a w h hpin; exact ⟨h, hpin⟩
  | cons i rest ih =>
    intro a w h hpin
    simp only [wpOps] at h
    simp only [wpOpsIn]
    cases ho : ops[i]? with
    | none => simp only [ho] at h ⊢; exact ih a w h hpin
    | some o =>
      simp only [ho] at h ⊢
      obtain ⟨h1, h2⟩ := keeps_at hk ho
      by_cases hw : Region.wanted o (yielded ops a.tmps) = true
      · simp only [hw, if_true] at h ⊢
        rcases h with h | h
        · exact op_in hF h1 hp hO (fun a' w' hv hh => let ⟨v, e⟩ := hv; ih a' w' hh (pinned_put h2 hpin e)) h
        · exact (hO h.2).elim
      · simp only [hw, if_false, Bool.false_eq_true] at h ⊢
        exact ⟨fun f _ => hF.fn f, ih _ _ h (pinned_put h2 hpin rfl)⟩

theorem any_in (hF : Open F) (hk : keepsOps pins ops = true) (hp : ∀ ch a w, ¬ Q (.panic ch) a w) (hO : ¬ LetsOut Q) {md : Region.Mode} : ∀ (fuel : Nat) (listed : Array Bool) (a : Act) (w : World), wpAny P md ops Q fuel listed a w → PinIn pins a0 a →
    wpAnyIn F n P md ops (fun e a w => Q e a w ∧ PinIn pins a0 a) fuel listed a w := by
  intro fuel
  induction fuel with
  | zero => intro listed a w h hpin; exact ⟨h.1, h.2, hpin⟩
  | succ fuel ih =>
    intro listed a w h hpin
    refine ⟨fun hr => ⟨h.1 hr, hpin⟩, fun i hi => ?_⟩
    have := h.2 i hi
    unfold wpOp at this
    unfold wpOpIn
    cases ho : ops[i]? with
    | none => simp only [ho] at this ⊢; exact ih _ a w this hpin
    | some o =>
      simp only [ho] at this ⊢
      obtain ⟨h1, h2⟩ := keeps_at hk ho
      by_cases hw : Region.wanted o (yielded ops a.tmps) = true
      · simp only [hw, if_true] at this ⊢
        rcases this with h | h
        · exact op_in hF h1 hp hO (fun a' w' hv hh => let ⟨v, e⟩ := hv; ih _ a' w' hh (pinned_put h2 hpin e)) h
        · exact (hO h.2).elim
      · simp only [hw, if_false, Bool.false_eq_true] at this ⊢
        exact ⟨fun f _ => hF.fn f, ih _ _ _ this (pinned_put h2 hpin rfl)⟩
end

theorem uponIn_in {P : Program} {F : Fence} {n : Nat} {Q Q' : Exit → Act → World → Prop} {o : Oper} {a : Act} {K K' : Act → World → Prop} (hp : ∀ ch a w, ¬ Q (.panic ch) a w) (hO : ¬ LetsOut Q) (hK : ∀ a' w', K a' w' → K' a' w') : ∀ (r : Result Next), o.uponIn F n P a K Q r → o.uponIn F n P a K' Q' r := by
  intro r h
  cases r with
  | ok x w' =>
    cases x <;> simp only [Oper.uponIn] at h ⊢
    case value v => exact hK _ _ h
    case skip => exact hK _ _ h
    case defer d => exact hK _ _ h
    case enter f args => exact ⟨h.1, h.2.mono fun e w'' he => by
      cases e with
      | returned v => exact hK _ _ he
      | panicked ch => exact (hp _ _ _ he).elim
      | outgrown => exact (hO he).elim⟩
    case row row args => exact ⟨h.1, h.2.mono fun v w'' he => hK _ _ he⟩
    case round l f tmps x y => exact ⟨h.1, h.2.mono fun e w'' he => by
      cases e with
      | returned v => exact hK _ _ he
      | panicked ch => exact (hp _ _ _ he).elim
      | outgrown => exact (hO he).elim⟩
  | halt x w' =>
    cases x <;> simp only [Oper.uponIn] at h
    exact (hp _ _ _ h).elim

theorem opsIn_pre {P : Program} {F : Fence} {n : Nat} {ops ops' : Array Oper} {m : Nat} {X : Act → World → Prop} {Q : Exit → Act → World → Prop} {rest : List Nat} (hops : ∀ i, i < m → ops'[i]? = ops[i]?) (hg : ∀ i o, i < m → ops[i]? = some o → o.guard = none)
    (hX : ∀ a w, X a w → wpOpsIn F n P ops Q rest a w) : ∀ (l : List Nat), (∀ i, i ∈ l → i < m) → ∀ (a : Act) (w : World), wpOpsIn F n P ops' (fun e a w => (e = .normal ∧ X a w)) l a w → wpOpsIn F n P ops Q (l ++ rest) a w := by
  intro l
  induction l with
  | nil => intro _ a w h; exact hX a w h.2
  | cons i l ih =>
    intro hl a w h
    have hi := hl i (List.mem_cons_self ..)
    rw [List.cons_append]
    simp only [wpOpsIn] at h ⊢
    rw [hops i hi] at h
    cases ho : ops[i]? with
    | none => simp only [ho] at h ⊢; exact ih (fun k hk => hl k (List.mem_cons_of_mem _ hk)) a w h
    | some o =>
      simp only [ho] at h ⊢
      have hw : ∀ ys, Region.wanted o ys = true := fun ys => by simp [Region.wanted, hg i o hi ho]
      simp only [hw, if_true] at h ⊢
      exact ⟨h.1, uponIn_in (fun _ _ _ h => by cases h.1) (fun ⟨_, _, h⟩ => by cases h.1) (fun a' w' h' => ih (fun k hk => hl k (List.mem_cons_of_mem _ hk)) a' w' h') _ h.2⟩

theorem final_no_panic {K : Ctx} {C : Cfg} {k : AExit → ASt → Tree} : ∀ ch a w, ¬ Final K C k (.panic ch) a w := fun ch a w ⟨_, _, _, h, _⟩ => by cases h
theorem final_no_out {K : Ctx} {C : Cfg} {k : AExit → ASt → Tree} : ¬ LetsOut (Final K C k) := fun ⟨_, _, _, _, _, h, _⟩ => by cases h

theorem runsIn {K : Ctx} {C : Cfg} {pins : List Nat} {a0 : Act} {F : Fence} {n : Nat} (hF : Open F) (hP : C.P = K.P) (hgl : C.gl = K.gl) (hnt : C.nt = K.nt) (hm : K.P.follows .mixedOrders = true) (x : Code) :
    ∀ (k : AExit → ASt → Tree) (s : ASt) (β : Book) (a : Act) (w : World), keepsC pins x = true → (run C x k s).wp C.P C.gl (Le C.ng) → Sim K β s a w → PinIn pins a0 a →
      x.wpIn F n K.P (fun e a w => Final K C k e a w ∧ PinIn pins a0 a) a w := by
  induction x with
  | skip => intro k s β a w _ h hs hp; exact wpIn_skip ⟨⟨β, s, .normal, rfl, hs, h⟩, hp⟩
  | region id ops draw =>
    intro k s β a w hk h hs hp
    simp only [run, keeps_upd hk, cond_false] at h
    cases hd : dstsOk ops with
    | false => simp only [hd, cond_false] at h; exact h.elim
    | true =>
      simp only [hd, cond_true] at h
      obtain ⟨h1, h2⟩ := region_core hP hgl hnt hd h hs (Q := Final K C k) (fun β' r a' w' hr hX => ⟨β', _, .normal, rfl, hr.toA, hX⟩)
      cases draw with
      | false => exact wpIn_region (ops_in hF hk final_no_panic final_no_out _ a w (h1 rfl) hp)
      | true => exact wpIn_region_any hm (any_in hF hk final_no_panic final_no_out _ _ a _ (h2 rfl) hp)
  | seq x y ihx ihy =>
    intro k s β a w hk h hs hp
    simp only [keepsC, Bool.and_eq_true] at hk
    refine wpIn_seq (wpIn_mono (ihx _ s β a w hk.1 h hs hp) ?_)
    rintro e a' w' ⟨⟨β', s', ae, he, hs', hk'⟩, hp'⟩
    cases e <;> simp only [exitOf, reduceCtorEq, Option.some.injEq] at he
    · subst he; exact ihy k s' β' a' w' hk.2 hk' hs' hp'
    · subst he; exact ⟨⟨β', s', _, rfl, hs', hk'⟩, hp'⟩
    · subst he; exact ⟨⟨β', s', _, rfl, hs', hk'⟩, hp'⟩
  | cond c x y ihx ihy =>
    intro k s β a w hk h hs hp
    simp only [keepsC, Bool.and_eq_true] at hk
    simp only [run] at h
    split at h
    · rename_i b hb
      have hrel : Rel β w (ev K.gl s.fr c) (a.eval c) := by
        have := rel_ev (hs.toR #[]) (x := c) (fun t _ => rfl)
        exact this
      rw [← hgl, hb] at hrel
      have hv := rel_bool_inv hrel
      exact wpIn_cond_split hv (fun ht => ihx k s β a w hk.1 (h.1 ht) hs hp) (fun hf => ihy k s β a w hk.2 (h.2 hf) hs hp)
    · exact h.elim
  | block id x ih =>
    intro k s β a w hk h hs hp
    refine wpIn_block (wpIn_mono (ih _ s β a w hk h hs hp) ?_)
    rintro e a' w' ⟨⟨β', s', ae, he, hs', hk'⟩, hp'⟩
    cases e <;> simp only [exitOf, reduceCtorEq, Option.some.injEq] at he
    · subst he; exact ⟨⟨β', s', _, rfl, hs', hk'⟩, hp'⟩
    · rename_i j
      subst he
      simp only [Exit.inBlock]
      by_cases e : j = id
      · subst e
        rw [if_pos rfl]
        simp only [Nat.beq_refl, cond_true] at hk'
        exact ⟨⟨β', s', .normal, rfl, hs', hk'⟩, hp'⟩
      · rw [if_neg e]
        have hb : Nat.beq j id = false := by
          cases hb : Nat.beq j id with
          | false => rfl
          | true => exact absurd (Nat.eq_of_beq_eq_true hb) e
        simp only [hb, cond_false] at hk'
        exact ⟨⟨β', s', .leave j, rfl, hs', hk'⟩, hp'⟩
    · subst he; exact ⟨⟨β', s', _, rfl, hs', hk'⟩, hp'⟩
  | _ => intro k s β a w hk; cases hk


def CalmIn (β : Book) (w W : World) : Prop := w.heap.size ≤ W.heap.size ∧ (∀ b, b < w.heap.size → β.free b → W.heap[b]? = w.heap[b]?) ∧ ∀ b, b < w.heap.size → W.shape? b = w.shape? b
def Stays (β : Book) (w W W' : World) : Prop := CalmIn β w W → CalmIn β w W'

def Iter (P : Program) (gl : Globs) (gf : FuncId) (lb : List AV) (n : Nat) (xs : Fin n → AV) : Prop :=
  Enters P gf ∧ ∀ (β : Book) (w : World) (vs : Array Value), (∀ b, β.F b → b < w.heap.size) → (∀ id b k mu, β.m id = some (.lives b k mu) → b < w.heap.size) → GlobB gl β w → Rels β w lb vs →
    ∃ ys : Fin n → Value, (∀ i, Rel β w (xs i) (ys i)) ∧ SeqStopsK Fence.wide 8 P gf vs (fun i => #[ys i]) (Stays β w) (fun l => l = List.finRange n) (fun _ => True) n w

def roundT (P : Program) (gl : Globs) (own : FuncId → Option (List Bool)) (ng nt : Nat) (c : Code) (s s' : ASt) : Tree :=
  run ⟨P, gl, nt, own, ng⟩ c (fun e t => match e with | .normal => .again t (fun u => Le ng u s') | _ => .bad "round") s
def Round (P : Program) (gl : Globs) (own : FuncId → Option (List Bool)) (ng nt : Nat) (c : Code) (s s' : ASt) : Prop := (roundT P gl own ng nt c s s').wp P gl (Le ng)

theorem round_sk {P : Program} {gl : Globs} {own : FuncId → Option (List Bool)} {ng nt : Nat} {c : Code} {s s' : ASt} (sk : Sk) (hu : unroll ng (roundT P gl own ng nt c s s') sk = sk) (h : sk.ok P gl ng) : Round P gl own ng nt c s s' :=
  unroll_ok sk _ hu h
theorem k_againR {P : Program} {gl : Globs} {ng : Nat} {s' : ASt} {ns π : List Nat} {vals : List AV} {os : List (Option Ob)} (h : ∀ s, Desc ng s ns π vals os → Le ng s s') : (Sk.again (fun u => Le ng u s') ns π vals os).ok P gl ng := h

theorem lookZ_none {ns : List Nat} {vs : List AV} {n : Nat} (h : n ∉ ns) : lookZ ns vs n = .junk := by
  induction ns generalizing vs with
  | nil => rfl
  | cons m ns ih =>
    cases vs with
    | nil => rfl
    | cons v vs =>
      rw [List.mem_cons, not_or] at h
      have hb : Nat.beq m n = false := by
        cases hb : Nat.beq m n with
        | false => rfl
        | true => exact absurd (Nat.eq_of_beq_eq_true hb).symm h.1
      simp only [lookZ, hb, cond_false]
      exact ih h.2

def calmB (β : Book) (w : World) : Book := ⟨fun _ => none, fun b => b < w.heap.size ∧ ¬ β.free b⟩
theorem Rel.calm {β : Book} {w W : World} {a : AV} {v : Value} (h : Rel β w a v) (hc : Cl a) (hW : CalmIn β w W) : Rel (calmB β w) W a v := by
  let B1 : Book := ⟨fun _ => none, fun b => ¬ β.free b⟩
  have f1 : ∀ b, β.free b → B1.free b := fun b h => ⟨fun h' => h' h, fun id m h => by cases h⟩
  have hk : Keeps B1 w (calmB β w) W := by
    refine ⟨fun id o h => (by cases h), fun b hb hfb => hW.2.1 b hb (Classical.byContradiction fun h => hfb.1 h), fun b hb hfb => ⟨fun h => hfb.1 h.2, fun id m h => by cases h⟩, fun b el sz h => ?_⟩
    rw [hW.2.2 b (lt_of_shape h)]; exact h
  exact (h.rebook f1 hc).keep hk

def calmK (P : Program) (gl : Globs) (nt : Nat) (β : Book) (w W : World) : Ctx := ⟨P, gl, W.heap.size, W, nt, (calmB β w).F, fun _ => False, fun _ => none, true⟩

theorem Sim.calm {P : Program} {gl : Globs} {nt : Nat} {β : Book} {w W : World} {ns : List Nat} {vs : List AV} {a : Act} (hg : GlobB gl β w) (hW : CalmIn β w W) (hsz : a.tmps.size = nt) (hd : a.defers = [])
    (hv : ∀ (k n : Nat) v, ns[k]? = some n → vs[k]? = some v → Rel (calmB β w) W v (a.tmps.getD n undef)) : Sim (calmK P gl nt β w W) (calmB β w) (mkSt ns vs []) a W := by
  refine ⟨fun n => ?_, hsz, by rw [hd]; exact Marks.nil _ _, fun id o h => (by simp [mkSt] at h), fun _ _ _ _ _ _ _ h => (by cases h), fun _ _ => rfl, fun _ _ _ _ h => (by cases h), fun _ _ h => (by cases h), rfl, fun b hb => ⟨Nat.lt_of_lt_of_le hb.1 hW.1, fun h => h⟩,
    Kept.refl _ _ _, Nat.le_refl _, fun g m h hgl => ((hg g m h hgl).calm ?_ hW)⟩
  · show Rel _ _ (lookZ ns vs n) _
    clear hg hW hsz hd
    induction ns generalizing vs with
    | nil => exact .junk
    | cons m ns ih =>
      cases vs with
      | nil => exact .junk
      | cons v vs =>
        simp only [lookZ]
        cases hb : Nat.beq m n with
        | true =>
          have := Nat.eq_of_beq_eq_true hb
          subst this
          exact hv 0 m v rfl rfl
        | false => exact ih (fun k n v hn hv' => hv (k + 1) n v (by simpa using hn) (by simpa using hv'))
  · obtain ⟨_, _, _, _, _, _, _, _, hcl, _⟩ := rel_ipt_inv (hg g m h hgl)
    exact .ipt hcl

theorem Round.in {F : Fence} {n : Nat} {K : Ctx} {own : FuncId → Option (List Bool)} {ng : Nat} {c : Code} {s s' : ASt} {β : Book} {a : Act} {w : World} {pins : List Nat} (hr : Round K.P K.gl own ng K.nt c s s') (hF : Open F) (hk : keepsC pins c = true)
    (hng : ∀ id, ng ≤ id → K.b0 id = none) (hm : K.P.follows .mixedOrders = true) (hs : Sim K β s a w) : c.wpIn F n K.P (fun e a' w' => e = .normal ∧ (∃ β', Sim K β' s' a' w') ∧ PinIn pins a a') a w := by
  refine wpIn_mono (runsIn (C := ⟨K.P, K.gl, K.nt, own, ng⟩) (pins := pins) (a0 := a) hF rfl rfl rfl hm c _ s β a w hk hr hs (fun _ _ => rfl)) ?_
  rintro e a' w' ⟨⟨β', t, ae, he, hs', hk'⟩, hp⟩
  cases e <;> simp only [exitOf, reduceCtorEq, Option.some.injEq] at he
  · subst he; exact ⟨rfl, hk' K β' a' w' hng hs', hp⟩
  · subst he; exact hk'.elim
  · subst he; exact hk'.elim

theorem Round.ops {F : Fence} {n : Nat} {K : Ctx} {own : FuncId → Option (List Bool)} {ng id : Nat} {ops : Array Oper} {s s' : ASt} {β : Book} {a : Act} {w : World} {pins : List Nat} (hr : Round K.P K.gl own ng K.nt (.region id ops false) s s') (hF : Open F) (hk : keepsOps pins ops = true)
    (hng : ∀ id, ng ≤ id → K.b0 id = none) (hs : Sim K β s a w) : wpOpsIn F n K.P ops (fun e a' w' => e = .normal ∧ (∃ β', Sim K β' s' a' w') ∧ PinIn pins a a') (List.range ops.size) a w := by
  have h : (run ⟨K.P, K.gl, K.nt, own, ng⟩ (.region id ops false) (fun e t => match e with | .normal => .again t (fun u => Le ng u s') | _ => .bad "round") s).wp K.P K.gl (Le ng) := hr
  simp only [run, keeps_upd hk, cond_false] at h
  cases hd : dstsOk ops with
  | false => simp only [hd, cond_false] at h; exact h.elim
  | true =>
    simp only [hd, cond_true] at h
    have := (region_core (K := K) (C := ⟨K.P, K.gl, K.nt, own, ng⟩) rfl rfl rfl hd h hs (Q := fun e a w => e = .normal ∧ ∃ β', Sim K β' s' a w) (fun β' r a' w' hr hX => ⟨rfl, hX K β' a' w' hng hr.toA⟩)).1 rfl
    have h2 := ops_in (a0 := a) (pins := pins) (n := n) hF hk (fun _ _ _ h => by cases h.1) (fun ⟨_, _, h⟩ => by cases h.1) _ a w this (fun _ _ => rfl)
    have e : (fun e a' w' => (e = Exit.normal ∧ ∃ β', Sim K β' s' a' w') ∧ PinIn pins a a') = (fun e a' w' => e = .normal ∧ (∃ β', Sim K β' s' a' w') ∧ PinIn pins a a') := funext fun _ => funext fun _ => funext fun _ => propext and_assoc
    rw [e] at h2
    exact h2

def allMu (obs : List (Option Ob)) : Bool := obs.all fun o => match o with | some o => o.mu | none => false

theorem allMu_spec {obs : List (Option Ob)} (h : allMu obs = true) {k : Nat} (hk : k < obs.length) : ∃ o, obs.getD k none = some o ∧ o.mu = true := by
  have := List.all_eq_true.1 h obs[k] (List.getElem_mem hk)
  rw [List.getD_eq_getElem?_getD, List.getElem?_eq_getElem hk]
  cases ho : obs[k] with
  | none => rw [ho] at this; cases this
  | some o => rw [ho] at this; exact ⟨o, by simp, this⟩

theorem opq_range {P : Program} {gl : Globs} {own : FuncId → Option (List Bool)} {ng nt : Nat} {g : Operand} {p d : Nat} {assign body : Code} {gf : Nat} {lb : List AV} {n : Nat} {xs : Fin n → AV} {ns : List Nat} {vs : List AV}
    {obs : List (Fin n) → List (Option Ob)} {obs1 : List (Option Ob)} (hev : ev gl (lookZ ns vs) g = .fn (.func gf) [] lb) (hit : Iter P gl gf lb n xs) (hcl : ∀ x, Cl (xs x))
    (hasg : ∀ (l : Nat) (a : Act) (W : World) (K : Act → World → Prop), K (a.put (some d) (a.tmps.getD p undef)) W → assign.wpIn (Fence.wide.inRound l) 7 P (Exit.then K (fun _ _ _ => False)) a W)
    (hmu : ∀ pre, allMu (obs pre) = true) (hnm : ∀ pre, NMS (mkSt ns vs (obs pre))) (hng0 : NMG gl) (hpins : (keepsC ns body && (!memN ns p && !memN ns d && Nat.blt p nt && Nat.blt d nt)) = true)
    (hround : ∀ pre x, pre.length < n → Round P gl own ng nt body (mkSt (d :: p :: ns) (xs x :: xs x :: vs) (obs pre)) (mkSt ns vs (obs (pre ++ [x]))))
    (h1 : obs (List.finRange n) = obs1) : Opq P gl ng nt (.rangeFunc g #[p] assign body) (mkSt ns vs (obs [])) (mkSt ns vs obs1) := by
  subst h1
  intro K β0 a w hKP hKgl hKnt hng hqt hm hs0
  subst hKP hKgl hKnt
  refine wpIn_wide (n := 9).1 ?_
  simp only [Bool.and_eq_true, Bool.not_eq_true', Nat.blt_eq] at hpins
  obtain ⟨hpb, ⟨⟨hpn, hdn⟩, hpt⟩, hdt⟩ := hpins
  have hpn' : p ∉ ns := fun h => by rw [memN_iff.2 h] at hpn; cases hpn
  have hdn' : d ∉ ns := fun h => by rw [memN_iff.2 h] at hdn; cases hdn
  have hG0 : ∀ id b m mu, β0.m id = some (.lives b m mu) → mu = true := fun id b m mu h => by
    have hid : id < (obs []).length := Nat.lt_of_not_le fun hle => by rw [hs0.fresh id hle] at h; cases h
    obtain ⟨o, ho, hmu'⟩ := allMu_spec (hmu []) hid
    rcases hs0.heap id o ho with ⟨b', h1, _⟩ | ⟨h1, _⟩
    · rw [h1] at h; cases h; exact hmu'
    · rw [h1] at h; cases h
  let K0 : Ctx := ⟨K.P, K.gl, w.heap.size, w, K.nt, K.F, fun b => ∃ id m, β0.m id = some (.lives b m true), K.b0, true⟩
  have hlive0 : ∀ b, K0.G b → K.B ≤ b ∨ K.G b := fun b ⟨id, m, h⟩ => (hs0.live id b m true h).1
  have hF0 : ∀ b, K.F b → b < w.heap.size ∧ ¬ K0.G b := fun b hb => ⟨Nat.lt_of_lt_of_le (hs0.hF b hb).1 hs0.hB, fun hG => by
    rcases hlive0 b hG with h | h
    · have := (hs0.hF b hb).1; omega
    · exact (hs0.hF b hb).2 h⟩
  have hS0 : Sim K0 β0 (mkSt ns vs (obs [])) { a with defers := [] } w :=
    ⟨hs0.slot, hs0.size, Marks.nil _ _, hs0.heap, hs0.inj, hs0.fresh, fun id b m mu h => ⟨.inr ⟨id, m, by rw [h, hG0 id b m mu h]⟩, (hs0.live id b m mu h).2⟩, hs0.giv, hs0.bF, hF0, Kept.refl _ _ _, Nat.le_refl _, hs0.glob⟩
  have hfr : Rel β0 w (.fn (.func gf) [] lb) (a.eval g) := by
    have := rel_ev (hs0.toR #[]) (x := g) (fun t _ => rfl)
    have e : ev K.gl (ASt.toR (mkSt ns vs (obs []))).fr g = .fn (.func gf) [] lb := hev
    rw [e] at this
    exact this
  obtain ⟨vf, vb, hav, hvf, hlb⟩ : ∃ vf vb, a.eval g = .func (.func gf) vf vb ∧ vf.size = 0 ∧ Rels β0 w lb vb := by
    generalize a.eval g = u at hfr
    cases hfr with
    | fn h1 h2 h3 h4 => exact ⟨_, _, rfl, by simpa using h1.symm, h3, h4⟩
  have hvf' : vf = #[] := Array.eq_empty_of_size_eq_zero hvf
  subst hvf'
  obtain ⟨⟨fn, code, hfn, hfb, hname⟩, hitr⟩ := hit
  obtain ⟨ys, hyr, hseq⟩ := hitr β0 w vb (fun b hb => by rw [hs0.bF] at hb; exact Nat.lt_of_lt_of_le (hs0.hF b hb).1 hs0.hB) (fun id b k mu h => (hs0.live id b k mu h).2) hs0.glob hlb
  have calm : ∀ {β : Book} {s : ASt} {a' : Act} {W : World}, Sim K0 β s a' W → CalmIn β0 w W := fun hs => ⟨hs.kept.size, fun b hb hf => hs.kept.block b hb (fun ⟨id, m, h⟩ => hf.2 id m h), hs.kept.shape⟩
  have hfree : ∀ {β : Book} {s : ASt} {a' : Act} {W : World}, (∀ id b m mu, β.m id = some (.lives b m mu) → mu = true) → Sim K0 β s a' W → ∀ b, b < w.heap.size → β0.free b → β.free b := fun hmt hs b hb hf =>
    ⟨by rw [hs.bF]; have := hf.1; rw [hs0.bF] at this; exact this, fun id m h => by
      rcases (hs.live id b m true h).1 with h' | ⟨id', m', h'⟩
      · exact absurd hb (Nat.not_lt.2 h')
      · exact hf.2 id' m' h'⟩
  have item : ∀ {β : Book} {s : ASt} {a' : Act} {W : World} (x : Fin n), Sim K0 β s a' W → (∀ b, b < w.heap.size → β0.free b → β.free b) → Rel β W (xs x) (ys x) := fun {β s a' W} x hs hf => by
    let B1 : Book := ⟨fun _ => none, fun b => ¬ β0.free b⟩
    let B2 : Book := ⟨fun _ => none, fun b => ¬ β.free b⟩
    have f1 : ∀ b, β0.free b → B1.free b := fun b h => ⟨fun h' => h' h, fun id m h => by cases h⟩
    have f2 : ∀ b, B2.free b → β.free b := fun b h => Classical.byContradiction fun h' => h.1 h'
    have hk : Keeps B1 w B2 W := by
      refine ⟨fun id o h => (by cases h), fun b hb hfb => (calm hs).2.1 b hb (Classical.byContradiction fun h => hfb.1 h), fun b hb hfb => ⟨fun h => h (hf b hb (Classical.byContradiction fun h => hfb.1 h)), fun id m h => by cases h⟩, fun b el sz h => ?_⟩
      have := hs.kept.shape b (lt_of_shape h)
      rw [this]; exact h
    exact ((((hyr x).rebook f1 (hcl x)).keep hk).rebook f2 (hcl x))
  let I : List (Fin n) → World → Prop := fun pre W => ∃ β, Sim K0 β (mkSt ns vs (obs pre)) { a with defers := [] } W
  have hmt : ∀ {pre : List (Fin n)} {β : Book} {a' : Act} {W : World}, Sim K0 β (mkSt ns vs (obs pre)) a' W → ∀ id b m mu, β.m id = some (.lives b m mu) → mu = true := fun {pre β a' W} hs id b m mu h => by
    have hid : id < (obs pre).length := Nat.lt_of_not_le fun hle => by rw [hs.fresh id hle] at h; cases h
    obtain ⟨o, ho, hmu'⟩ := allMu_spec (hmu pre) hid
    rcases hs.heap id o ho with ⟨b', h1, _⟩ | ⟨h1, _⟩
    · rw [h1] at h; cases h; exact hmu'
    · rw [h1] at h; cases h
  have hI : OwnFrom w.heap.size I := by
    rintro pre A B row ⟨β, hs⟩ hg hr
    have hne : ∀ b, b < A.heap.size → (∀ o, A.heap[b]? = some o → o.isCells = false → b < w.heap.size) → B.heap[b]? = A.heap[b]? := fun b hb h => hg.block b hb (fun e => by
      obtain ⟨h1, o, h2, h3⟩ := hr b e.symm
      have := h o h2 h3
      omega)
    refine ⟨β, hs.same (fun b cs el z hb => ?_) hg.size (.inr ⟨hnm pre, hng0⟩) ?_ rfl (Marks.nil _ _)⟩
    · exact (hne b (Array.getElem?_eq_some_iff.1 hb).1 (fun o h1 h2 => by rw [hb] at h1; cases h1; cases h2)).trans hb
    · have hsz := hs.kept.size
      have low : ∀ k, k < w.heap.size → B.heap[k]? = A.heap[k]? := fun k hk => hne k (by have : w.heap.size ≤ A.heap.size := hsz; omega) (fun _ _ _ => hk)
      exact ⟨hg.os.trans hs.kept.os, hg.tape.trans hs.kept.tape, hg.output.trans hs.kept.output, Nat.le_trans hsz hg.size, fun k hk hG => (low k hk).trans (hs.kept.block k hk hG), fun k hk => (shape_of_block (low k hk)).trans (hs.kept.shape k hk),
        fun k o hk ho => (low k (Array.getElem?_eq_some_iff.1 hk).1).trans (hs.kept.othr k o hk ho)⟩
  let a1 : Fin n → Act := fun x => Act.put { tmps := a.tmps.setIfInBounds p (ys x), defers := [] } (some d) (ys x)
  have a1s : ∀ x m, m ≠ d → m ≠ p → (a1 x).tmps.getD m undef = a.tmps.getD m undef := fun x m h1 h2 => by
    simp [a1, Act.put, Array.getD_eq_getD_getElem?, Array.getElem?_setIfInBounds_ne (Ne.symm h1), Array.getElem?_setIfInBounds_ne (Ne.symm h2)]
  have hsize : a.tmps.size = K.nt := hs0.size
  refine wpIn_rangeFunc_ownG (F := Fence.wide) rfl (by decide) (gf := gf) (lb := vb) hav trivial (fun args w => ?_) hseq (fun h k h0 => k (h h0)) (fun W l o o' hl ho hc hw h => ?_) (Below.refl _ _) (fun _ => rfl) I (fun _ _ _ => False) hI (fun _ _ _ _ _ h _ _ => h) ⟨β0, hS0⟩ a1
    (fun l x W Kc hK => ?_) (fun l pre x W hi hlen => ?_) (fun D pre W hD hpre hi hW => ?_) (fun D c pre W hD _ h => h.elim)
  · simp only [callFunc, run_program, Sem.run_bind, Result.andThen_ok, hfn, hfb, hname, Bool.false_eq_true, if_false]
    rfl
  · refine ⟨Nat.le_trans h.1 (by simp), fun b hb hf => ?_, fun b hb => ?_⟩
    · exact (World.putObj_heap_other (by omega)).trans (h.2.1 b hb hf)
    · exact (shape_of_block (World.putObj_heap_other (by omega))).trans (h.2.2 b hb)
  · refine hasg l _ W Kc ?_
    have e0 : (#[p].zip #[ys x]).foldl (fun t (q : Tmp × Value) => t.setIfInBounds q.1 q.2) a.tmps = a.tmps.setIfInBounds p (ys x) := by simp
    show Kc (Act.put { tmps := (#[p].zip #[ys x]).foldl (fun t (q : Tmp × Value) => t.setIfInBounds q.1 q.2) a.tmps, defers := [] } (some d) (((#[p].zip #[ys x]).foldl (fun t (q : Tmp × Value) => t.setIfInBounds q.1 q.2) a.tmps).getD p undef)) W
    rw [e0]
    have e : (a.tmps.setIfInBounds p (ys x)).getD p undef = ys x := by simp [Array.getD_eq_getD_getElem?, hsize, hpt]
    rw [e]
    exact hK
  · obtain ⟨β, hs⟩ := hi
    have hit' := item x hs (hfree (hmt hs) hs)
    let K1 : Ctx := ⟨K.P, K.gl, W.heap.size, W, K.nt, K.F, fun b => w.heap.size ≤ b ∨ K0.G b, K.b0, true⟩
    have hwW : w.heap.size ≤ W.heap.size := hs.kept.size
    have hs1 : Sim K1 β (mkSt (d :: p :: ns) (xs x :: xs x :: vs) (obs pre)) (a1 x) W := by
      refine ⟨fun m => ?_, by simp [a1, Act.put, hsize]; rfl, Marks.nil _ _, hs.heap, hs.inj, hs.fresh, fun id b m mu h => ⟨.inr (hs.live id b m mu h).1, (hs.live id b m mu h).2⟩, hs.giv, hs.bF,
        fun b hb => ⟨Nat.lt_of_lt_of_le (hF0 b hb).1 hwW, fun h => h.elim (fun h => by have := (hF0 b hb).1; omega) (hF0 b hb).2⟩, Kept.refl _ _ _, Nat.le_refl _, hs.glob⟩
      show Rel β W (lookZ (d :: p :: ns) (xs x :: xs x :: vs) m) ((a1 x).tmps.getD m undef)
      by_cases hmd : d = m
      · subst hmd
        have e : (a1 x).tmps.getD d undef = ys x := by simp [a1, Act.put, Array.getD_eq_getD_getElem?, hsize, hdt]
        simp only [lookZ, Nat.beq_refl, cond_true]
        rw [e]; exact hit'
      · have hb : Nat.beq d m = false := by
          cases hb : Nat.beq d m with
          | false => rfl
          | true => exact absurd (Nat.eq_of_beq_eq_true hb) hmd
        simp only [lookZ, hb, cond_false]
        by_cases hmp : p = m
        · subst hmp
          have e : (a1 x).tmps.getD p undef = ys x := by
            have h1 : (a1 x).tmps[p]? = some (ys x) := by
              show ((a.tmps.setIfInBounds p (ys x)).setIfInBounds d (ys x))[p]? = _
              rw [Array.getElem?_setIfInBounds_ne hmd]
              simp [hsize, hpt]
            rw [Array.getD_eq_getD_getElem?, h1]; rfl
          simp only [Nat.beq_refl, cond_true]
          rw [e]; exact hit'
        · have hb : Nat.beq p m = false := by
            cases hb : Nat.beq p m with
            | false => rfl
            | true => exact absurd (Nat.eq_of_beq_eq_true hb) hmp
          simp only [hb, cond_false]
          rw [a1s x m (Ne.symm hmd) (Ne.symm hmp)]
          exact hs.slot m
    refine wpIn_mono (runsIn (K := K1) (C := ⟨K.P, K.gl, K.nt, own, ng⟩) (pins := ns) (a0 := a1 x) (.inr ⟨l, rfl⟩) rfl rfl rfl hm body _ _ β (a1 x) W hpb (hround pre x hlen) hs1 (fun _ _ => rfl)) ?_
    rintro e a' W' ⟨⟨β', s', ae, he, hs', hk⟩, hpin⟩
    cases e <;> simp only [exitOf, reduceCtorEq, Option.some.injEq] at he
    · subst he
      obtain ⟨β2, hs2⟩ := hk K1 β' a' W' hng hs'
      have hWW : W.heap.size ≤ W'.heap.size := hs2.kept.size
      have hs3 : Sim K0 β2 (mkSt ns vs (obs (pre ++ [x]))) { a with defers := [] } W' := by
        refine ⟨fun m => ?_, hsize, Marks.nil _ _, hs2.heap, hs2.inj, hs2.fresh, fun id b m mu h => ⟨?_, (hs2.live id b m mu h).2⟩, hs2.giv, hs2.bF, hF0, hs.kept.trans (hs2.kept.mono hwW (fun k hk hG => ?_)), Nat.le_trans hwW hWW, hs2.glob⟩
        · by_cases hm' : m ∈ ns
          · have := hs2.slot m
            rw [hpin m hm', a1s x m (fun e => hdn' (e ▸ hm')) (fun e => hpn' (e ▸ hm'))] at this
            exact this
          · have e : (mkSt ns vs (obs (pre ++ [x]))).fr m = .junk := lookZ_none hm'
            rw [e]; exact .junk
        · rcases (hs2.live id b m mu h).1 with h' | h'
          · exact .inl (Nat.le_trans hwW h')
          · exact h'
        · rcases hG with h | h
          · have hk' : k < w.heap.size := hk
            omega
          · exact h
      exact ⟨⟨hWW, fun k o _ hk ho => hs2.kept.othr k o hk ho⟩, fun _ => calm hs3, β2, hs3⟩
    · subst he; exact hk.elim
    · subst he; exact hk.elim
  · obtain ⟨β, hs⟩ := hi
    have hpre' : pre = List.finRange n := hpre
    subst hpre'
    refine ⟨rfl, β, hs.slot, hsize, ?_, hs.heap, hs.inj, hs.fresh, fun id b m mu h => ⟨?_, (hs.live id b m mu h).2⟩, hs.giv, hs.bF, hs0.hF, hs0.kept.trans (hs.kept.mono hs0.hB (fun k hk hG => ?_)), Nat.le_trans hs0.hB hs.kept.size, hs.glob⟩
    · obtain ⟨Ds, e1, e2, _, e3⟩ := hs0.defers
      refine ⟨D :: Ds, by show _ :: a.defers = _; rw [e1]; rfl, List.nodup_cons.2 ⟨fun h => ?_, e2⟩, fun h => (by rw [hqt] at h; cases h), fun D' h => ?_⟩
      · have := (Array.getElem?_eq_some_iff.1 (e3 D h).2.2).1
        omega
      · rcases List.mem_cons.1 h with rfl | h
        · exact ⟨Nat.le_trans hs0.hB hD, Nat.le_trans hs0.kept.size hD, hW⟩
        · exact ⟨(e3 D' h).1, (e3 D' h).2.1, hs.kept.othr D' _ (e3 D' h).2.2 rfl⟩
    · rcases (hs.live id b m mu h).1 with h' | h'
      · exact .inl (Nat.le_trans hs0.hB h')
      · exact hlive0 b h'
    · rcases hlive0 k hG with h | h
      · omega
      · exact h

theorem NM.atL {l : List AV} (h : ∀ v, v ∈ l → NM v) (j : Nat) : NM (atL l j) := by
  unfold Am.atL
  rw [List.getD_eq_getElem?_getD]
  cases hj : l[j]? with
  | none => exact .junk
  | some x => exact h x (List.mem_of_getElem? hj)
def NML : List AV → Prop
  | [] => True
  | v :: l => NM v ∧ NML l
theorem NML.spec {l : List AV} (h : NML l) : ∀ v, v ∈ l → NM v := by
  induction l with
  | nil => intro v hv; cases hv
  | cons x l ih => intro v hv; rcases List.mem_cons.1 hv with rfl | hv; (· exact h.1); (· exact ih h.2 v hv)
theorem NML.atL {l : List AV} (h : NML l) (j : Nat) : NM (Am.atL l j) := NM.atL h.spec j
def NMB (o : Ob) : Prop := ∀ i j, i < o.n → j < o.es → NM (o.f i j)
def NMO : List (Option Ob) → Prop
  | [] => True
  | none :: l => NMO l
  | some o :: l => NMB o ∧ NMO l
theorem NMO.spec {l : List (Option Ob)} (h : NMO l) : ∀ (k : Nat) o, l[k]? = some (some o) → NMB o := by
  induction l with
  | nil => intro k o hk; simp at hk
  | cons x l ih =>
    intro k o hk
    cases x with
    | none =>
      cases k with
      | zero => simp at hk
      | succ k => exact ih h k o (by simpa using hk)
    | some y =>
      cases k with
      | zero => simp at hk; subst hk; exact h.1
      | succ k => exact ih h.2 k o (by simpa using hk)
theorem NMS.of {ns : List Nat} {vs : List AV} {obs : List (Option Ob)} (h1 : NML vs) (h2 : NMO obs) : NMS (mkSt ns vs obs) := by
  refine ⟨fun n => ?_, fun id o ho => ?_⟩
  · show NM (lookZ ns vs n)
    induction ns generalizing vs with
    | nil => exact .junk
    | cons m ns ih =>
      cases vs with
      | nil => exact .junk
      | cons v vs =>
        simp only [lookZ]
        cases Nat.beq m n with
        | true => exact h1.1
        | false => exact ih h1.2
  · have ho : (obs[id]?).getD none = some o := by simpa [mkSt, List.getD_eq_getElem?_getD] using ho
    cases hk : obs[id]? with
    | none => rw [hk] at ho; cases ho
    | some x => rw [hk] at ho; exact h2.spec id o (by rw [hk]; exact congrArg some ho)

end Go.Am

namespace Go.Sp
open Go Go.Am Go.RowKit

theorem kept_calm {β : Book} {w W W1 : World} (h : CalmIn β w W) (k : Kept W.heap.size (fun _ => False) W W1) : CalmIn β w W1 :=
  ⟨Nat.le_trans h.1 k.size, fun b hb hf => (k.block b (Nat.lt_of_lt_of_le hb h.1) (fun h => h)).trans (h.2.1 b hb hf), fun b hb => (k.shape b (Nat.lt_of_lt_of_le hb h.1)).trans (h.2.2 b hb)⟩
theorem kept_grown {W W1 : World} (k : Kept W.heap.size (fun _ => False) W W1) : W.grownBy W1 none := ⟨k.os, k.tape, k.output, k.size, fun b hb _ => k.block b hb (fun h => h)⟩

theorem op_at {ops : Array Oper} {i : Nat} {d : Option Tmp} {op : Op} {g : Option (Nat × Bool)} (h : (ops[i]?).map (fun o => (o.dst, o.op, o.guard)) = some (d, op, g)) : ∃ o, ops[i]? = some o ∧ o.dst = d ∧ o.op = op ∧ o.guard = g := by
  cases ho : ops[i]? with
  | none => rw [ho] at h; cases h
  | some o => rw [ho] at h; simp only [Option.map_some, Option.some.injEq, Prod.mk.injEq] at h; exact ⟨o, rfl, h.1, h.2.1, h.2.2⟩
theorem put_same {a : Act} {d : Nat} {v : Value} (h : d < a.tmps.size) : (a.put (some d) v).tmps.getD d undef = v := getD_put_same h
theorem put_ne {a : Act} {d n : Nat} {v : Value} (h : n ≠ d) : (a.put (some d) v).tmps.getD n undef = a.tmps.getD n undef := getD_put_ne h
theorem put_size {a : Act} {d : Nat} {v : Value} : (a.put (some d) v).tmps.size = a.tmps.size := by simp [Act.put]

structure ItFr (y v1 v2 : Value) (i : Nat) (a : Act) : Prop where
  size : a.tmps.size = 31
  defers : a.defers = []
  t0 : a.tmps.getD 0 undef = y
  t1 : a.tmps.getD 1 undef = v1
  t2 : a.tmps.getD 2 undef = v2
  t4 : a.tmps.getD 4 undef = .int .i64 i

theorem chunk_of {P : Program} {gl : Globs} {own : FuncId → Option (List Bool)} {g : Nat} {fn : Func} {c R0 R1 R2 R3 R4 : Code} {r4 : Array Oper} {N tS tE : Nat} {h : Nat → Nat → Int} (hN : 1 ≤ N) (hf : P.funcs[g]? = some fn) (hbody : fn.body = some c) (hname : (fn.name == "runtime.NumGoroutine") = false) (hrs : fn.results = #[]) (hnt : fn.ntmps = 31)
    (hm : P.follows .mixedOrders = true) (hshape : c = .seq R0 (.block 0 (.loop (.seq (.seq R1 (.cond (.tmp 9) .skip (.exit 0))) (.seq (.block 1 (.seq R3 (.seq R4 (.cond (.tmp 30) .ret .skip)))) R2))))) (hr4 : R4 = .region 4 r4 false)
    (hsz : r4.size = 12) (hgd : (r4.toList.all fun o => o.guard.isNone) = true) (hu44 : P.underlying tS = some (.slice tE)) (hsh : szT P tE = some 32)
    (h9 : (r4[9]?).map (fun o => (o.dst, o.op, o.guard)) = some (some 28, .slice tS (.tmp 20) (some (.tmp 21)) (some (.tmp 24)) (some (.tmp 27)), none))
    (h10 : (r4[10]?).map (fun o => (o.dst, o.op, o.guard)) = some (some 29, .call ⟨.value (.tmp 19), #[.tmp 28], #[tS]⟩, none))
    (h11 : (r4[11]?).map (fun o => (o.dst, o.op, o.guard)) = some (some 30, .unOp .not 4 (.tmp 29), none))
    (k0 : keepsC [0, 1, 2] R0 = true) (k1 : keepsC [0, 1, 2, 4] R1 = true) (k2 : keepsC [0, 1, 2] R2 = true) (k3 : keepsC [0, 1, 2, 4] R3 = true) (k4 : keepsOps [0, 1, 2, 4] (r4.extract 0 9) = true)
    (i0 : Round P gl own 0 31 R0 (mkSt [] [] []) (mkSt [4] [.int .i64 0] []))
    (i1 : ∀ k : Nat, k ≤ 2 * N → Round P gl own 0 31 R1 (mkSt [1, 2, 4] [.ipt 1 fun _ => hsl (2 * N) h, .ipt 1 fun _ => .int .i64 2, .int .i64 k] []) (mkSt [9] [.bool (decide ((k : Int) < (2 * N : Nat)))] []))
    (i3 : ∀ k : Nat, k + 2 ≤ 2 * N → Round P gl own 0 31 R3 (mkSt [1, 2, 4] [.ipt 1 fun _ => hsl (2 * N) h, .ipt 1 fun _ => .int .i64 2, .int .i64 k] []) (mkSt [5] [.int .i64 2] []))
    (i4 : ∀ (y u : Value) (k : Nat), k + 2 ≤ 2 * N → Round P gl own 0 31 (.region 4 (r4.extract 0 9) false) (mkSt [0, 1, 4, 5] [.raw y, .ipt 1 fun _ => .raw u, .int .i64 k, .int .i64 2] []) (mkSt [19, 20, 21, 24, 27] [.raw y, .raw u, .int .i64 k, .int .i64 (k + 2), .int .i64 (k + 2)] []))
    (i2 : ∀ k : Nat, k + 2 ≤ 2 * N → Round P gl own 0 31 R2 (mkSt [2, 4] [.ipt 1 fun _ => .int .i64 2, .int .i64 k] []) (mkSt [4] [.int .i64 (k + 2)] [])) :
    Iter P gl g [.ipt 1 fun _ => hsl (2 * N) h, .ipt 1 fun _ => .int .i64 2] N (fun k => hsl 2 fun r => h (2 * k.1 + r)) := by
  refine ⟨⟨_, _, hf, hbody, hname⟩, fun β w vs hF hlt hg hv => ?_⟩
  obtain ⟨v1, v2, rfl, h1, h2⟩ : ∃ v1 v2, vs = #[v1, v2] ∧ Rel β w (.ipt 1 fun _ => hsl (2 * N) h) v1 ∧ Rel β w (.ipt 1 fun _ => .int .i64 2) v2 := by
    have hl : 2 = vs.size := hv.len
    obtain ⟨vs⟩ := vs
    match vs, hl with
    | [v1, v2], _ => exact ⟨v1, v2, rfl, hv.rel 0 _ _ rfl rfl, hv.rel 1 _ _ rfl rfl⟩
  obtain ⟨b1, o1, vals1, hv1, _, hf1, hc1, hr1, hcl1, hone1⟩ := rel_ipt_inv h1
  have hu := hr1 0 (by decide)
  generalize hu0 : vals1 0 = u at hu
  obtain ⟨a0, cap, hue, hcap, _, hrest⟩ := rel_isl_inv hu
  obtain ⟨b, off, vals, ha0, he, hfree, hcell, hrel, hcl, hone⟩ := hrest (by omega)
  subst ha0
  have hx : ∀ k : Nat, k < N → Rel β w (hsl 2 fun r => h (2 * k + r)) (.slice (some ⟨b, off + 2 * k * 32, none⟩) 2 2) := fun k hk =>
    .isl (fun i j => vals (2 * k + i) j) (by decide) (Nat.le_refl _) hfree (fun i j hi hj => by
      rw [← hcell (2 * k + i) j (by omega) hj]; congr 2; omega) (fun i j hi hj => hone _ _ (by omega) hj) (fun i j hi hj => hrel _ _ (by omega) hj) (fun i j hi hj => hcl _ _ (by omega) hj)
  refine ⟨fun k => .slice (some ⟨b, off + 2 * k.1 * 32, none⟩) 2 2, fun k => hx k.1 k.2, ?_⟩
  intro l J Jx W hbW hJ hJx hY hJ0
  have hcW : CalmIn β w W := ⟨hbW.size, fun b hb _ => hbW.block b hb, fun b hb => shape_of_block (hbW.block b hb)⟩
  refine callsIn_of_wp hf hbody trivial ?_
  have hJg : ∀ pre A B, J pre A → Kept A.heap.size (fun _ => False) A B → J pre B := fun pre A B hj k => hJ pre A B none hj (kept_grown k) (fun r h => by cases h)
  have hcl1' : Cl (.ipt 1 fun _ => hsl (2 * N) h) := .ipt hcl1
  have hcl2' : Cl (.ipt 1 fun _ => .int .i64 2) := .ipt fun _ _ => .int
  have hclu : Cl (.ipt 1 fun _ => .raw u) := .ipt fun _ _ => .raw
  have hraw : Rel β w (.raw u) (vals1 0) := by
    rw [hu0]
    exact .raw (fun cs e => by rw [hue] at e; cases e)
  have hur : Rel β w (.ipt 1 fun _ => .raw u) v1 := by
    rw [hv1]
    refine .ipt vals1 (by decide) hf1 hc1 hone1 (fun j hj => ?_) (fun _ _ => .raw)
    have : j = 0 := by omega
    subst this
    exact hraw
  generalize hy : (Value.func (.yield l) #[] #[]) = y
  have sim : ∀ {i : Nat} {a : Act} {W : World}, ItFr y v1 v2 i a → CalmIn β w W → Sim (calmK P gl 31 β w W) (calmB β w) (mkSt [1, 2, 4] [.ipt 1 fun _ => hsl (2 * N) h, .ipt 1 fun _ => .int .i64 2, .int .i64 i] []) a W := fun {i a W} ha hW =>
    Sim.calm hg hW ha.size ha.defers (fun k n v hn hv => by
      rcases k with _ | _ | _ | k
      · cases hn; cases hv; rw [ha.t1]; exact h1.calm hcl1' hW
      · cases hn; cases hv; rw [ha.t2]; exact h2.calm hcl2' hW
      · cases hn; cases hv; rw [ha.t4]; exact .int
      · simp at hn)
  have pin : ∀ {i : Nat} {a a' : Act} {s : ASt} {β' : Book} {W W' : World}, ItFr y v1 v2 i a → PinIn [0, 1, 2, 4] a a' → Sim (calmK P gl 31 β w W) β' s a' W' → ItFr y v1 v2 i a' := fun {i a a' s β' W W'} f hp hs =>
    ⟨hs.size, hs.defers.quiet rfl, (hp 0 (by simp)).trans f.t0, (hp 1 (by simp)).trans f.t1, (hp 2 (by simp)).trans f.t2, (hp 4 (by simp)).trans f.t4⟩
  have hres : ∀ (a : Act) (W' : World), (results fn a.tmps).run P W' = .ok (.tuple #[]) W' := fun a W' => by
    rw [results_eq, hrs]
    simp
  have fin : ∀ k : Nat, (hk : k < N) → (List.finRange N).take k ++ [⟨k, hk⟩] = (List.finRange N).take (k + 1) := fun k hk => by
    rw [List.take_add_one]
    simp [hk]
  subst hshape
  refine wpIn_seq (wpIn_mono (Round.in (pins := [0, 1, 2]) (K := calmK P gl 31 β w W) i0 (.inl rfl) k0 (fun _ _ => rfl) hm (Sim.calm (ns := []) (vs := []) hg hcW (by simp [hnt]) rfl (fun k n v hn => by simp at hn))) ?_)
  rintro e a1 W1 ⟨rfl, ⟨β1, hs1⟩, hp1⟩
  have f1 : ItFr y v1 v2 0 a1 := ⟨hs1.size, hs1.defers.quiet rfl, (hp1 0 (by simp)).trans (by simp [Array.getD_eq_getD_getElem?, Array.getElem?_append]), (hp1 1 (by simp)).trans (by simp [Array.getD_eq_getD_getElem?, Array.getElem?_append]), (hp1 2 (by simp)).trans (by simp [Array.getD_eq_getD_getElem?, Array.getElem?_append]), rel_int_inv (hs1.slot 4)⟩
  have c1 := kept_calm hcW hs1.kept
  have j1 := hJg _ _ _ hJ0 hs1.kept
  show (Code.block 0 _).wpIn _ _ _ _ a1 W1
  refine wpIn_block (wpIn_loop (fun a W => ∃ k, k ≤ N ∧ ItFr y v1 v2 (2 * k) a ∧ CalmIn β w W ∧ J ((List.finRange N).take k) W) (fun a _ => match a.tmps.getD 4 undef with | .int _ i => (2 * N - i).toNat | _ => 0) ⟨0, Nat.zero_le _, f1, c1, j1⟩ ?_)
  rintro a2 W2 ⟨k, hk, f2, c2, j2⟩
  have hJk : ∀ pre A B, J pre A → Kept A.heap.size (fun _ => False) A B → J pre B := fun pre A B hj kk => hJ pre A B none hj (kept_grown kk) (fun r h => by cases h)
  refine wpIn_seq (wpIn_seq (wpIn_mono (Round.in (pins := [0, 1, 2, 4]) (K := calmK P gl 31 β w W2) (i1 (2 * k) (by omega)) (.inl rfl) k1 (fun _ _ => rfl) hm (sim f2 c2)) ?_))
  rintro e a3 W3 ⟨rfl, ⟨β3, hs3⟩, hp3⟩
  have f3 := pin f2 hp3 hs3
  have c3 := kept_calm c2 hs3.kept
  have j3 := hJk _ _ _ j2 hs3.kept
  have t9 : a3.eval (.tmp 9) = .bool (decide (((2 * k : Nat) : Int) < (2 * N : Nat))) := rel_bool_inv (hs3.slot 9)
  by_cases hkN : k < N
  rotate_left
  · -- the end
    refine wpIn_cond_false (by rw [t9]; congr 1; simp; omega) (wpIn_exit ?_)
    obtain rfl : k = N := by omega
    refine ⟨f3.defers, _, hres a3 W3, ⟨_, rfl⟩, .inl ⟨_, ?_, j3⟩⟩
    exact List.take_of_length_le (by simp)
  refine wpIn_cond_true (by rw [t9]; congr 1; simp; omega) (wpIn_skip ?_)
  refine wpIn_seq (wpIn_block (wpIn_seq (wpIn_mono (Round.in (pins := [0, 1, 2, 4]) (K := calmK P gl 31 β w W3) (i3 (2 * k) (by omega)) (.inl rfl) k3 (fun _ _ => rfl) hm (sim f3 c3)) ?_)))
  rintro e a4 W4 ⟨rfl, ⟨β4, hs4⟩, hp4⟩
  have f4 := pin f3 hp4 hs4
  have c4 := kept_calm c3 hs4.kept
  have j4 := hJk _ _ _ j3 hs4.kept
  have t5 : a4.tmps.getD 5 undef = .int .i64 2 := rel_int_inv (hs4.slot 5)
  refine wpIn_seq ?_
  subst hr4
  refine wpIn_region ?_
  have hr : List.range r4.size = List.range 9 ++ [9, 10, 11] := by rw [hsz]; rfl
  rw [hr]
  have hgn : ∀ i o, i < 9 → r4[i]? = some o → o.guard = none := fun i o hi ho => by
    have hmem : o ∈ r4.toList := by
      obtain ⟨h1, h2⟩ := Array.getElem?_eq_some_iff.1 ho
      rw [← h2]; simp
    have := List.all_eq_true.1 hgd o hmem
    cases hg' : o.guard with
    | none => rfl
    | some x => rw [hg'] at this; cases this
  have hsz9 : (r4.extract 0 9).size = 9 := by simp [hsz]
  have hpre : wpOpsIn Fence.wide 8 P (r4.extract 0 9) (fun e a' W' => e = .normal ∧ (∃ β', Sim (calmK P gl 31 β w W4) β' (mkSt [19, 20, 21, 24, 27] [.raw y, .raw u, .int .i64 (2 * k : Nat), .int .i64 ((2 * k : Nat) + 2), .int .i64 ((2 * k : Nat) + 2)] []) a' W') ∧ PinIn [0, 1, 2, 4] a4 a') (List.range 9) a4 W4 := by
    have := Round.ops (F := Fence.wide) (n := 8) (K := calmK P gl 31 β w W4) (pins := [0, 1, 2, 4]) (i4 y u (2 * k) (by omega)) (.inl rfl) k4 (fun _ _ => rfl) (Sim.calm (ns := [0, 1, 4, 5]) (a := a4) hg c4 f4.size f4.defers (fun k' n v hn hv => by
      rcases k' with _ | _ | _ | _ | k'
      · cases hn; cases hv; rw [f4.t0]; exact .raw (fun cs e => by rw [← hy] at e; cases e)
      · cases hn; cases hv; rw [f4.t1]; exact hur.calm hclu c4
      · cases hn; cases hv; rw [f4.t4]; exact .int
      · cases hn; cases hv; rw [t5]; exact .int
      · simp at hn))
    rwa [hsz9] at this
  refine opsIn_pre (ops' := r4.extract 0 9) (m := 9) (fun i hi => by rw [Array.getElem?_extract]; simp [hsz]; omega) hgn ?_ (List.range 9) (fun i hi => List.mem_range.1 hi) a4 W4 hpre
  rintro a5 W5 ⟨⟨β5, hs5⟩, hp5⟩
  have f5 := pin f4 hp5 hs5
  have c5 := kept_calm c4 hs5.kept
  have j5 := hJk _ _ _ j4 hs5.kept
  have raw_inv : ∀ {v a : Value} {β' : Book} {W' : World}, Rel β' W' (.raw a) v → v = a := fun h => by cases h; rfl
  have t19 : a5.eval (.tmp 19) = y := raw_inv (hs5.slot 19)
  have t20 : a5.eval (.tmp 20) = .slice (some ⟨b, off, none⟩) (2 * N) cap := (raw_inv (hs5.slot 20)).trans hue
  have t21 : a5.eval (.tmp 21) = .int .i64 (2 * k : Nat) := rel_int_inv (hs5.slot 21)
  have t24 : a5.eval (.tmp 24) = .int .i64 ((2 * k : Nat) + 2) := rel_int_inv (hs5.slot 24)
  have t27 : a5.eval (.tmp 27) = .int .i64 ((2 * k : Nat) + 2) := rel_int_inv (hs5.slot 27)
  obtain ⟨o9, ho9, hd9, hop9, hg9⟩ := op_at h9
  obtain ⟨o10, ho10, hd10, hop10, hg10⟩ := op_at h10
  obtain ⟨o11, ho11, hd11, hop11, hg11⟩ := op_at h11
  have wnt : ∀ (o : Oper) ys, o.guard = none → Region.wanted o ys = true := fun o ys hg => by simp [Region.wanted, hg]
  have e9 : (execOp a5.eval o9).run P W5 = .ok (.value (.slice (some ⟨b, off + 2 * k * 32, none⟩) 2 2)) W5 := by
    have hb1 : (Instr.sliceBounds true (2 * N) cap (some (.int .i64 (2 * k : Nat))) (some (.int .i64 ((2 * k : Nat) + 2))) (some (.int .i64 ((2 * k : Nat) + 2)))).run P W5 = .ok (2 * k, 2 * k + 2, 2 * k + 2) W5 := by
      have g1 : (0 : Int) ≤ ((2 * k : Nat) : Int) + 2 ∧ ((2 * k : Nat) : Int) + 2 ≤ cap := by omega
      have g2 : (0 : Int) ≤ ((2 * k : Nat) : Int) + 2 ∧ ((2 * k : Nat) : Int) + 2 ≤ ((2 * k + 2 : Nat) : Int) := by omega
      have g3 : (0 : Int) ≤ ((2 * k : Nat) : Int) ∧ ((2 * k : Nat) : Int) ≤ ((2 * k + 2 : Nat) : Int) := by omega
      have e1 : (((2 * k : Nat) : Int) + 2).toNat = 2 * k + 2 := by omega
      simp only [Instr.sliceBounds, Instr.sliceBound, asIntOf_run, Sem.run_bind, Result.andThen_ok, Sem.run_ite, if_pos g1, Sem.run_pure, e1, if_pos g2, if_pos g3, Option.isSome_some, if_true, Int.toNat_natCast]
    have hne : ¬ (2 * k + 2 = 2 * k) := by omega
    have e2 : 2 * k + 2 - 2 * k = 2 := by omega
    simp only [execOp, hop9, Instr.sliceAt, Instr.slice, t20, t21, t24, t27, Option.map_some, Sem.run_bind, run_underlying hu44, Result.andThen_ok, hb1, szT_run W5 hsh, Sem.run_pure, if_neg hne, add_mk, e2]
  simp only [wpOpsIn, ho9, ho10, ho11, wnt o9 _ hg9, if_true]
  refine ⟨fun _ _ => trivial, ?_⟩
  show o9.uponIn _ _ _ _ _ _ ((execOp a5.eval o9).run P W5)
  rw [e9, Oper.uponIn_value, hd9, if_pos (wnt o10 _ hg10)]
  refine ⟨fun _ _ => trivial, ?_⟩
  have hlen : ((List.finRange N).take k).length < N := by simp; omega
  obtain ⟨fn', tmps', asg, bd, hy10, hR⟩ := hY ((List.finRange N).take k) ⟨k, hkN⟩ W5 j5 hlen
  have e10 : (execOp (a5.put (some 28) (.slice (some ⟨b, off + 2 * k * 32, none⟩) 2 2)).eval o10).run P W5 = .ok (.round l fn' tmps' asg bd) W5 := by
    have v19 : (a5.put (some 28) (.slice (some ⟨b, off + 2 * k * 32, none⟩) 2 2)).eval (.tmp 19) = .func (.yield l) #[] #[] := by
      show (a5.put (some 28) _).tmps.getD 19 undef = _
      rw [put_ne (by decide), hy]
      exact t19
    have v28 : (a5.put (some 28) (.slice (some ⟨b, off + 2 * k * 32, none⟩) 2 2)).eval (.tmp 28) = .slice (some ⟨b, off + 2 * k * 32, none⟩) 2 2 := put_same (by rw [f5.size]; decide)
    simp [execOp, hop10, resolve, v19, v28, Deferred.ofValue, invoke]
    exact hy10
  show o10.uponIn _ _ _ _ _ _ ((execOp _ o10).run P W5)
  rw [e10, Oper.uponIn_round, hd10]
  generalize ha6 : a5.put (some 28) (.slice (some ⟨b, off + 2 * k * 32, none⟩) 2 2) = a6
  have sz6 : a6.tmps.size = 31 := by rw [← ha6, put_size]; exact f5.size
  have g6 : ∀ m, m ≠ 28 → a6.tmps.getD m undef = a5.tmps.getD m undef := fun m hm' => by rw [← ha6]; exact put_ne hm'
  have d6 : a6.defers = [] := by rw [← ha6]; exact f5.defers
  refine ⟨fun h => (by cases h), hR.mono ?_⟩
  have e11 : ∀ (v : Bool) (W6 : World), (execOp (a6.put (some 29) (.bool v)).eval o11).run P W6 = .ok (.value (.bool (!v))) W6 := fun v W6 => by
    have v29 : (a6.put (some 29) (.bool v)).eval (.tmp 29) = .bool v := put_same (by rw [sz6]; decide)
    have hun : (Op.unary UnOp.not (.bool v)).run P W6 = .ok (.bool (!v)) W6 := rfl
    simp [execOp, hop11, v29, Result.andThen, hun]
  rintro e W6 (⟨rfl, j6, s6⟩ | ⟨rfl, jx6⟩)
  · show (if Region.wanted o11 _ = true then _ else _)
    rw [if_pos (wnt o11 _ hg11)]
    refine ⟨fun _ _ => trivial, ?_⟩
    show o11.uponIn _ _ _ _ _ _ ((execOp _ o11).run P W6)
    rw [e11, Oper.uponIn_value, hd11]
    generalize ha7 : a6.put (some 29) (.bool true) = a7
    have sz7 : a7.tmps.size = 31 := by rw [← ha7, put_size]; exact sz6
    have v30 : (a7.put (some 30) (.bool (!true))).eval (.tmp 30) = .bool false := put_same (by rw [sz7]; decide)
    refine wpIn_cond_false v30 (wpIn_skip ?_)
    have g8 : ∀ m, m ≠ 28 → m ≠ 29 → m ≠ 30 → (a7.put (some 30) (.bool (!true))).tmps.getD m undef = a5.tmps.getD m undef := fun m h1 h2 h3 => by
      rw [put_ne h3, ← ha7, put_ne h2]; exact g6 m h1
    have f8 : ItFr y v1 v2 (2 * k) (a7.put (some 30) (.bool (!true))) := ⟨by rw [put_size]; exact sz7, by rw [← ha7]; exact d6, (g8 0 (by decide) (by decide) (by decide)).trans f5.t0, (g8 1 (by decide) (by decide) (by decide)).trans f5.t1, (g8 2 (by decide) (by decide) (by decide)).trans f5.t2, (g8 4 (by decide) (by decide) (by decide)).trans f5.t4⟩
    generalize a7.put (some 30) (.bool (!true)) = a8 at f8
    have c6 : CalmIn β w W6 := s6 c5
    refine wpIn_mono (Round.in (F := Fence.wide) (pins := [0, 1, 2]) (K := calmK P gl 31 β w W6) (i2 (2 * k) (by omega)) (.inl rfl) k2 (fun _ _ => rfl) hm (Sim.calm (ns := [2, 4]) hg c6 f8.size f8.defers (fun k' n v hn hv => by
      rcases k' with _ | _ | k'
      · cases hn; cases hv; rw [f8.t2]; exact h2.calm hcl2' c6
      · cases hn; cases hv; rw [f8.t4]; exact .int
      · simp at hn))) ?_
    rintro e a9 W9 ⟨rfl, ⟨β9, hs9⟩, hp9⟩
    have t4 : a9.tmps.getD 4 undef = .int .i64 ((2 * k : Nat) + 2) := rel_int_inv (hs9.slot 4)
    have f9 : ItFr y v1 v2 (2 * (k + 1)) a9 := ⟨hs9.size, hs9.defers.quiet rfl, (hp9 0 (by simp)).trans f8.t0, (hp9 1 (by simp)).trans f8.t1, (hp9 2 (by simp)).trans f8.t2, t4.trans (by congr 1)⟩
    have c9 := kept_calm c6 hs9.kept
    rw [fin k hkN] at j6
    have j9 := hJk _ _ _ j6 hs9.kept
    refine ⟨⟨k + 1, hkN, f9, c9, j9⟩, ?_⟩
    show (match a9.tmps.getD 4 undef with | .int _ i => (2 * N - i).toNat | _ => 0) < (match a2.tmps.getD 4 undef with | .int _ i => (2 * N - i).toNat | _ => 0)
    rw [f9.t4, f2.t4]
    show (2 * (N : Int) - ((2 * (k + 1) : Nat) : Int)).toNat < (2 * (N : Int) - ((2 * k : Nat) : Int)).toNat
    omega
  · show (if Region.wanted o11 _ = true then _ else _)
    rw [if_pos (wnt o11 _ hg11)]
    refine ⟨fun _ _ => trivial, ?_⟩
    show o11.uponIn _ _ _ _ _ _ ((execOp _ o11).run P W6)
    rw [e11, Oper.uponIn_value, hd11]
    generalize ha7 : a6.put (some 29) (.bool false) = a7
    have sz7 : a7.tmps.size = 31 := by rw [← ha7, put_size]; exact sz6
    have v30 : (a7.put (some 30) (.bool (!false))).eval (.tmp 30) = .bool true := put_same (by rw [sz7]; decide)
    refine wpIn_cond_true v30 (wpIn_ret ?_)
    refine ⟨by rw [← ha7]; exact d6, _, hres _ W6, ⟨_, rfl⟩, .inr ⟨_, trivial, jx6⟩⟩

theorem assign_in {P : Program} {id d p : Nat} {r : Array Oper} (hsz : r.size = 1) (h0 : (r[0]?).map (fun o => (o.dst, o.op, o.guard)) = some (some d, .assign (.tmp p), none)) (l : Nat) (a : Act) (W : World) (K : Act → World → Prop) (hK : K (a.put (some d) (a.tmps.getD p undef)) W) :
    (Code.region id r false).wpIn (Fence.wide.inRound l) 7 P (Exit.then K (fun _ _ _ => False)) a W := by
  refine wpIn_region ?_
  obtain ⟨o, ho, hd, hop, hg⟩ := op_at h0
  rw [hsz]
  show wpOpsIn _ _ _ _ _ [0] a W
  simp only [wpOpsIn, ho]
  rw [if_pos (by simp [Region.wanted, hg])]
  refine ⟨fun _ _ => trivial, ?_⟩
  rw [Oper.semAt_eq _ _ _ (fun c e => by rw [hop] at e; cases e)]
  have e : (execOp a.eval o).run P W = .ok (.value (a.tmps.getD p undef)) W := by
    simp only [execOp, hop, Sem.run_pure]
    rfl
  rw [e, Oper.uponIn_value, hd]
  exact hK

def rowP {N : Nat} (h : Nat → Nat → Int) (pre : List (Fin N)) (r : Nat) : Nat → Int := match pre[r]? with
  | some x => nodeF (h (2 * x.1)) (h (2 * x.1 + 1))
  | none => fun _ => 0

theorem rowP_ob {os : List (Option Ob)} {N : Nat} {h : Nat → Nat → Int} {pre : List (Fin N)} {x : Fin N} :
    ObEnt os ⟨32, pre.length + 1, true, .fn fun i j => .int .u8 (bif Nat.blt i pre.length then rowP h pre i j else intOfAV (atL (u8c (nodeF (h (2 * x.1 + 0)) (h (2 * x.1 + 1)))) j))⟩ ⟨32, (pre ++ [x]).length, true, .fn fun r j => .int .u8 (rowP h (pre ++ [x]) r j)⟩ := by
  refine ⟨rfl, by simp, rfl, fun i j hi hj => Ent.of_eq (congrArg (AV.int .u8) ?_)⟩
  have hi' : i < pre.length + 1 := hi
  unfold rowP
  by_cases hlt : i < pre.length
  · rw [blt_t hlt, List.getElem?_append_left hlt]; rfl
  · have : i = pre.length := by omega
    subst this
    rw [blt_f (Nat.le_refl _), List.getElem?_append_right (Nat.le_refl _), Nat.sub_self]
    show intOfAV (atL (u8c _) j) = _
    rw [u8c_at hj]; rfl
theorem rowP_fin {N : Nat} {h : Nat → Nat → Int} {r : Nat} (hr : r < N) : rowP h (List.finRange N) r = nodeF (h (2 * r)) (h (2 * r + 1)) := by
  unfold rowP
  simp [hr]

theorem lvl_ent {os : List (Option Ob)} {d x : Nat} {h : Nat → Nat → Int} : Ent os (.isl 32 (2 ^ (d - x - 1)) fun r k => .int .u8 (rowP (treF h x) (List.finRange (2 ^ (d - x - 1))) (r + 0) k)) (hsl (2 ^ (d - (x + 1))) (treF h (x + 1))) :=
  Ent.islN rfl fun i j hi hj => congrArg (AV.int .u8) (by
    show rowP (treF h x) (List.finRange (2 ^ (d - x - 1))) i j = treF h (x + 1) i j
    rw [rowP_fin hi]; rfl)

theorem ipt1_ent {os : List (Option Ob)} {a : AV} : Ent os (.ipt 1 fun k => atL [a] k) (.ipt 1 fun _ => a) := fun β w v _ h => by
  obtain ⟨b, off, vals, rfl, hm, hb, hc, hr, hcl, ho⟩ := rel_ipt_inv h
  have e : ∀ j, j < 1 → atL [a] j = a := fun j hj => by
    have : j = 0 := by omega
    subst this; rfl
  exact .ipt vals hm hb hc ho (fun j hj => by have := hr j hj; rwa [e j hj] at this) (fun j hj => by have := hcl j hj; rwa [e j hj] at this)
theorem fn2_ent {os : List (Option Ob)} {f : Fn} {a b a' b' : AV} (h1 : Ent os a a') (h2 : Ent os b b') : Ent os (.fn f [] [a, b]) (.fn f [] [a', b']) := fun β w v hh h => by
  cases h with
  | fn hl hr hl' hr' =>
    refine .fn hl hr hl' fun j u x hu hx => ?_
    rcases j with _ | _ | j
    · cases hu; exact h1 β w x hh (hr' 0 _ x rfl hx)
    · cases hu; exact h2 β w x hh (hr' 1 _ x rfl hx)
    · simp at hu

end Go.Sp

namespace Go.Proofs.YtolcfdcoidpieaaGreatDoor
open Go Go.Am Go.Sp
set_option maxRecDepth 100000

def cL : Code → Code | .seq a _ => a | c => c
def cR : Code → Code | .seq _ b => b | c => c
def cI : Code → Code | .block _ a => a | .loop a => a | c => c
def cO : Code → Array Oper | .region _ o _ => o | _ => #[]
noncomputable def itC : Code := Tryz.f289.body.getD .skip
noncomputable def itB : Code := cI (cI (cR itC))
noncomputable def itR1 : Code := cL (cL itB)
noncomputable def itR2 : Code := cR (cR itB)
noncomputable def itK : Code := cI (cL (cR itB))
noncomputable def itR3 : Code := cL itK
noncomputable def itR4 : Code := cL (cR itK)
theorem it_shape : itC = .seq (cL itC) (.block 0 (.loop (.seq (.seq itR1 (.cond (.tmp 9) .skip (.exit 0))) (.seq (.block 1 (.seq itR3 (.seq itR4 (.cond (.tmp 30) .ret .skip)))) itR2)))) := by kernel_rfl
def slT : Option Op → TypeId | some (.slice t ..) => t | _ => 0
def elT : Option TypeDesc → TypeId | some (.slice t) => t | _ => 0
noncomputable def itS : TypeId := slT ((cO itR4)[9]?.map (·.op))
noncomputable def itE : TypeId := elT (Tryz.prog.underlying itS)
theorem it_r4 : itR4 = .region 4 (cO itR4) false := by kernel_rfl

theorem it1 (N k : Nat) (hN : N ≤ 4000) (h : Nat → Nat → Int) : Round Tryz.prog gl0 ow0 0 31 itR1 (mkSt [1, 2, 4] [.ipt 1 fun _ => hsl N h, .ipt 1 fun _ => .int .i64 2, .int .i64 k] []) (mkSt [9] [.bool (decide ((k : Int) < N))] []) := by
  refine round_sk (own := ow0)
    (let y0 : List AV := [AV.bool (decide ((↑k : Int) < (↑N : Int)))]; (.again (fun (u : ASt) => Le 0 u (mkSt [9] y0 [])) ([9]) ([]) (y0) ([])))
    (by kernel_rfl) ?_
  exact k_againR (fun _ hs => hs.le (⟨.refl _, trivial⟩) (trivial))

theorem it3 (N k : Nat) (hN : N ≤ 4000) (h : Nat → Nat → Int) (hk : k + 2 ≤ N) : Round Tryz.prog gl0 ow0 0 31 itR3 (mkSt [1, 2, 4] [.ipt 1 fun _ => hsl N h, .ipt 1 fun _ => .int .i64 2, .int .i64 k] []) (mkSt [5] [.int .i64 2] []) := by
  refine round_sk (own := ow0)
    (.req ((0 : Int) ≤ (↑k : Int) ∧ (↑k : Int) ≤ (↑N : Int)) (.again (fun (u : ASt) => Le 0 u (mkSt [5] [Zi 2] [])) ([5]) ([]) ([Zi (if (↑(N - Int.toNat (↑k : Int)) : Int) < 2 then (↑(N - Int.toNat (↑k : Int)) : Int) else (2 : Int))]) ([])))
    (by kernel_rfl) ?_
  refine k_req (by omega) ?_
  exact k_againR (fun _ hs => hs.le (⟨.of_eq (congrArg _ (by omega)), trivial⟩) (trivial))

theorem it4 (y u : Value) (k : Nat) (hk : k ≤ 4000) : Round Tryz.prog gl0 ow0 0 31 (.region 4 ((cO itR4).extract 0 9) false) (mkSt [0, 1, 4, 5] [.raw y, .ipt 1 fun _ => .raw u, .int .i64 k, .int .i64 2] []) (mkSt [19, 20, 21, 24, 27] [.raw y, .raw u, .int .i64 k, .int .i64 (k + 2), .int .i64 (k + 2)] []) := by
  refine round_sk (own := ow0)
    (.again (fun (u_1 : ASt) => Le 0 u_1 (mkSt [19, 20, 21, 24, 27] [AV.raw y, AV.raw u, Zi (↑k : Int), Zi ((↑k : Int) + 2), Zi ((↑k : Int) + 2)] [])) ([19, 20, 21, 24, 27]) ([]) ([AV.raw y, AV.raw u, Zi (↑k : Int), Zi (IntKind.wrap IntKind.i64 ((↑k : Int) + 2)), Zi (IntKind.wrap IntKind.i64 ((↑k : Int) + 2))]) ([]))
    (by kernel_rfl) ?_
  exact k_againR (fun _ hs => hs.le (⟨.refl _, .refl _, .refl _, inc_ent (by omega), inc_ent (by omega), trivial⟩) (trivial))

theorem it2 (k : Nat) (hk : k ≤ 4000) : Round Tryz.prog gl0 ow0 0 31 itR2 (mkSt [2, 4] [.ipt 1 fun _ => .int .i64 2, .int .i64 k] []) (mkSt [4] [.int .i64 (k + 2)] []) := by
  refine round_sk (own := ow0)
    (.again (fun (u : ASt) => Le 0 u (mkSt [4] [Zi ((↑k : Int) + 2)] [])) ([4]) ([]) ([Zi (IntKind.wrap IntKind.i64 ((↑k : Int) + 2))]) ([]))
    (by kernel_rfl) ?_
  exact k_againR (fun _ hs => hs.le (⟨inc_ent (by omega), trivial⟩) (trivial))

theorem it0 : Round Tryz.prog gl0 ow0 0 31 (cL itC) (mkSt [] [] []) (mkSt [4] [.int .i64 0] []) := by
  refine round_sk (own := ow0)
    (.again (fun (u : ASt) => Le 0 u (mkSt [4] [Zi 0] [])) ([4]) ([]) ([Zi 0]) ([]))
    (by kernel_rfl) ?_
  exact k_againR (fun _ hs => hs.le (⟨.refl _, trivial⟩) (trivial))

theorem chunk_iter (N : Nat) (hN : 1 ≤ N) (hN' : N ≤ 1000) (h : Nat → Nat → Int) : Iter Tryz.prog gl0 289 [.ipt 1 fun _ => hsl (2 * N) h, .ipt 1 fun _ => .int .i64 2] N (fun k => hsl 2 fun r => h (2 * k.1 + r)) :=
  chunk_of (own := ow0) (tS := itS) (tE := itE) hN Tryz.func289 (by kernel_rfl : _ = some itC) (by kernel_rfl) (by kernel_rfl) (by kernel_rfl) mixed it_shape it_r4 (by kernel_rfl) (by kernel_rfl) (by kernel_rfl) (by kernel_rfl) (by kernel_rfl) (by kernel_rfl) (by kernel_rfl)
    (by kernel_rfl) (by kernel_rfl) (by kernel_rfl) (by kernel_rfl) (by kernel_rfl) it0 (fun k hk => it1 (2 * N) k (by omega) h) (fun k hk => it3 (2 * N) k (by omega) h hk) (fun y u k hk => it4 y u k (by omega)) (fun k hk => it2 k (by omega))

theorem chunk_c (N : Nat) (hN' : N ≤ 1000) (h : Nat → Nat → Int) : Pure Tryz.prog gl0 274 [hsl N h, .int .i64 2] (.fn (.func 289) [] [.ipt 1 fun _ => hsl N h, .ipt 1 fun _ => .int .i64 2]) := by
  refine pure_sk (own := ow0) Tryz.func274 (by kernel_rfl) mixed (by kernel_rfl)
    (.ff (.out (AV.fn (Fn.func 289) [] [AV.ipt 1 fun (k : Nat) => atL [AV.isl 32 N fun (i j : Nat) => Zb (h i j)] k, AV.ipt 1 fun (k : Nat) => atL [Zi 2] k]) [] (AV.fn (Fn.func (289 : FuncId)) [] [AV.ipt 1 fun (x : Nat) => hsl N h, AV.ipt 1 fun (x : Nat) => Zi 2]) []))
    (by kernel_rfl) ?_
  refine k_ff ?_
  exact k_out (fn2_ent ipt1_ent ipt1_ent)

end Go.Proofs.YtolcfdcoidpieaaGreatDoor
