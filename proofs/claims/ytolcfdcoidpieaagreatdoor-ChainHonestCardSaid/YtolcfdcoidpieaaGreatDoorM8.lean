/- Part of the proof: Cmp, App, HN14, HK2, Prv3, HW2, HK3, HN15, HN16, Hon, HN17, HN18, HN19, HN20, HN21, SpOpen, SpOpenP, Args, Args2, Args4, EnGlob. -/
import Derived.Test.YtolcfdcoidpieaaGreatDoorM7
import Derived.Test.YtolcfdcoidpieaaGreatDoorProg
import Derived.Test.YtolcfdcoidpieaaGreatDoorM2
import Derived.Test.YtolcfdcoidpieaaGreatDoorM4
import Derived.Test.YtolcfdcoidpieaaGreatDoorM3
import Derived.Test.YtolcfdcoidpieaaGreatDoorM5
import Derived.DataShut
import Derived.OpenShut
import Derived.FnData
import Derived.MakeChecks
namespace Go.Sp
open Go Go.Am
theorem eqF_same (f : Nat → Int) : ∀ k s, eqF f f k s = true
  | 0, _ => rfl
  | k + 1, s => by unfold eqF; rw [eqF_same f k (s + 1)]; simp
theorem eqF_sym (f g : Nat → Int) : ∀ k s, eqF f g k s = eqF g f k s
  | 0, _ => rfl
  | k + 1, s => by unfold eqF; rw [eqF_sym f g k (s + 1), Bool.beq_comm]
theorem hEq_sym (f g : Nat → Int) : hEq f g = hEq g f := eqF_sym f g 32 0
theorem pth_tree {h : Nat → Nat → Int} {d L i : Nat} (hL : L ≤ d) : ∀ x, x ≤ L → folF (treF h (d - L) i) (i : Int) (pthF h d L i) x = treF h (d - L + x) (i / 2 ^ x)
  | 0, _ => by rw [Nat.pow_zero, Nat.div_one]; rfl
  | x + 1, hx => by
    have ih := pth_tree (h := h) (i := i) hL x (by omega)
    show (bif decide ((i : Int) / 2 ^ x % 2 = 0) then nodeF (folF (treF h (d - L) i) (i : Int) (pthF h d L i) x) (pthF h d L i x) else nodeF (pthF h d L i x) (folF (treF h (d - L) i) (i : Int) (pthF h d L i) x)) = nodeF (treF h (d - L + x) (2 * (i / 2 ^ (x + 1)))) (treF h (d - L + x) (2 * (i / 2 ^ (x + 1)) + 1))
    rw [ih, ← idx_half]
    have ep : pthF h d L i x = treF h (d - L + x) (sibN (i / 2 ^ x)) := by unfold pthF; rw [show d - (L - x) = d - L + x by omega]
    have ec : ((i : Int) / 2 ^ x % 2 = 0) = (i / 2 ^ x % 2 = 0) := by
      have e1 : (2 ^ x : Int) = ((2 ^ x : Nat) : Int) := by simp
      rw [e1, ← Int.natCast_ediv]
      generalize i / 2 ^ x = m
      exact propext ⟨fun h => by omega, fun h => by omega⟩
    rw [ep]
    simp only [ec]
    generalize i / 2 ^ x = m
    unfold sibN
    by_cases hm : m % 2 = 0
    · rw [decide_eq_true hm, if_pos hm, show 2 * (m / 2) = m by omega]; rfl
    · rw [decide_eq_false hm, if_neg hm, show 2 * (m / 2) = m - 1 by omega, show m - 1 + 1 = m by omega]; rfl
theorem tre_shift (h : Nat → Nat → Int) (a K : Nat) : ∀ k m, k ≤ K → treF (fun j => h (a * 2 ^ K + j)) k m = treF h k (a * 2 ^ (K - k) + m)
  | 0, m, _ => rfl
  | k + 1, m, hk => by
    have e : a * 2 ^ (K - k) = 2 * (a * 2 ^ (K - (k + 1))) := by
      rw [show K - k = (K - (k + 1)) + 1 by omega, Nat.pow_succ, ← Nat.mul_assoc, Nat.mul_comm 2]
    show nodeF (treF _ k (2 * m)) (treF _ k (2 * m + 1)) = nodeF (treF h k (2 * (a * 2 ^ (K - (k + 1)) + m))) (treF h k (2 * (a * 2 ^ (K - (k + 1)) + m) + 1))
    rw [tre_shift h a K k _ (by omega), tre_shift h a K k _ (by omega), e, Nat.mul_add, Nat.add_assoc]
theorem mulc {a b c d p : Int} (h : a % p = b % p) (k : c % p = d % p) : a * c % p = b * d % p := by rw [Int.mul_emod, h, k, ← Int.mul_emod]
theorem powc {a b p : Int} (h : a % p = b % p) (k : Nat) : a ^ k % p = b ^ k % p := by rw [← pow_mod, h, pow_mod]
theorem mmod (a p : Int) : a % p % p = a % p := Int.emod_emod_of_dvd _ (Int.dvd_refl _)
theorem cong_q {a b q : Int} (hq : 0 < q) (ha : 0 ≤ a) (hb : 0 ≤ b) (h : a % q = b % q) : a.toNat % q.toNat = b.toNat % q.toNat := by
  obtain ⟨a, rfl⟩ := Int.eq_ofNat_of_zero_le ha
  obtain ⟨b, rfl⟩ := Int.eq_ofNat_of_zero_le hb
  obtain ⟨q, rfl⟩ := Int.eq_ofNat_of_zero_le (Int.le_of_lt hq)
  exact_mod_cast h
theorem mk_leaf {b : Bas} {k u s : Int} {X : Nat → Nat → Int} {i : Nat} (hv : validB b = true) (hk : 0 ≤ k) (hu : 0 ≤ u ∧ u < b.gr.q) (hs : 0 ≤ s) (hp : pairB b X i = true) (hu2 : scaB b.gr u = true) :
    leafB b (psJ b u s) k (lfJ b X i) (r1J b k u s (X i 0)) (r2J b k s (X i 1)) = true := by
  have h := validB_iff.1 hv
  have q3 := h.G.q3
  obtain ⟨⟨x1, x2⟩, ⟨y1, y2⟩⟩ := pair_b hp
  have w1 : scaB b.gr (r1J b k u s (X i 0)) = true := sca_iff.2 ⟨Int.emod_nonneg _ (by omega), Int.emod_lt_of_pos _ (by omega)⟩
  have w2 : scaB b.gr (r2J b k s (X i 1)) = true := sca_iff.2 ⟨Int.emod_nonneg _ (by omega), Int.emod_lt_of_pos _ (by omega)⟩
  have z1 : 0 ≤ r1J b k u s (X i 0) := (sca_iff.1 w1).1
  have z2 : 0 ≤ r2J b k s (X i 1) := (sca_iff.1 w2).1
  have m1 : 0 ≤ k * (u * s) := Int.mul_nonneg hk (Int.mul_nonneg hu.1 hs)
  have m2 : 0 ≤ k * s := Int.mul_nonneg hk hs
  have c1 : (r1J b k u s (X i 0)).toNat % b.gr.q.toNat = (k * (u * s) + X i 0).toNat % b.gr.q.toNat := by
    refine cong_q (by omega) z1 (by omega) ?_
    unfold r1J
    rw [mmod, Int.add_emod, mmod, Int.mul_emod k (u * s % b.gr.q), mmod, ← Int.mul_emod, ← Int.add_emod]
  have c2 : (r2J b k s (X i 1)).toNat % b.gr.q.toNat = (k * s + X i 1).toNat % b.gr.q.toNat := by
    refine cong_q (by omega) z2 (by omega) ?_
    unfold r2J
    rw [mmod, Int.add_emod, mmod, ← Int.add_emod]
  have e1 := el_q h.G h.e1 _ _ c1
  have e2 := el_q h.G h.e2 _ _ c2
  have t1 : (k * (u * s) + X i 0).toNat = k.toNat * (u.toNat * s.toNat) + (X i 0).toNat := by
    rw [Int.toNat_add m1 x1, Int.toNat_mul hk (Int.mul_nonneg hu.1 hs), Int.toNat_mul hu.1 hs]
  have t2 : (k * s + X i 1).toNat = k.toNat * s.toNat + (X i 1).toNat := by
    rw [Int.toNat_add m2 y1, Int.toNat_mul hk hs]
  unfold leafB chk2
  rw [lf_el hv hp, w1, w2]
  simp only [Bool.true_and, beq_iff_eq]
  unfold pr2
  rw [e1, e2, t1, t2, mulmod, Int.mul_emod (b.g1 ^ _), mmod, ← Int.mul_emod]
  have hM : msgJ b u % b.gr.p = (b.g1 ^ u.toNat * b.g2) % b.gr.p := by
    unfold msgJ
    rw [(pr2_ok ⟨hu2, sca_one h⟩).1]
    unfold pr2
    rw [mmod, ← Int.mul_emod, show (1 : Int).toNat = 1 from rfl, Int.pow_succ, Int.pow_zero, Int.one_mul]
  have hA : psJ b u s % b.gr.p = (b.g1 ^ u.toNat * b.g2) ^ s.toNat % b.gr.p := by
    unfold psJ
    rw [mmod]; exact powc hM _
  have hB : lfJ b X i % b.gr.p = (b.g1 ^ (X i 0).toNat * b.g2 ^ (X i 1).toNat) % b.gr.p := by
    unfold lfJ
    rw [(pr2_ok (pair_all hp)).1]
    unfold pr2
    rw [mmod, ← Int.mul_emod]
  rw [mulc ((mmod _ _).trans (powc hA k.toNat)) hB]
  congr 1
  rw [← Int.pow_mul, Int.mul_pow, ← Int.pow_mul, Int.pow_add, Int.pow_add, Nat.mul_comm k.toNat (u.toNat * s.toNat), Nat.mul_assoc, Nat.mul_comm k.toNat s.toNat]
  simp only [Int.mul_assoc, Int.mul_left_comm]
theorem mk_vfy {b : Bas} {r : Rcd} {c : Coin} {u s : Int} {X : Nat → Nat → Int} {d : Nat} {l i : Int} {x : Cxt} (hc : coinV b r c = true) (hs : secB b u s X (2 ^ d) = true) (hn : nodeB c.depth l i = true) (hx : ctxB x.time x.number = true) (hB : belB b c u s X d = true) :
    vfy b r (mkS b c u s X d l i x) = true := by
  have H := sec_all hs
  have h := validB_iff.1 H.v
  obtain ⟨h1, h2, h3, h4, h5, h6⟩ := node_t hn
  have hd := bel_dep hB
  have hL : l.toNat ≤ d := by omega
  have hi := idxZ (l := l) ⟨h5, h6⟩
  have dp : dpN (mkS b c u s X d l i x) = d - l.toNat := by
    show (c.depth - l).toNat = _
    omega
  have sp := span_le hn hd
  unfold belB at hB
  simp only [Bool.and_eq_true, decide_eq_true_eq, beq_iff_eq] at hB
  have hd2 : hdB b r (mkS b c u s X d l i x) = true := by
    unfold hdB
    rw [dp]
    show (coinV b r c && nodeB c.depth l i && ctxB x.time x.number && Nat.beq (2 ^ (d - l.toNat)) (2 ^ (d - l.toNat)) && i == i) = true
    rw [hc, hn, hx]; simp
  have kq := mkc_q (b := b) (c := c) (l := l) (i := i) (x := x) h.G
  rw [vfy_r hd2 (by show ((l.toNat : Nat) : Int) = l; omega) fun j hj => ?_]
  · show hEq (folF (treF (fun j => leafF (lfJ b X (i.toNat * 2 ^ (d - l.toNat) + j))) (dpN (mkS b c u s X d l i x)) 0) i (pthF (mkH b X) d l.toNat i.toNat) l.toNat) c.root = true
    rw [dp]
    have e1 := tre_shift (mkH b X) i.toNat (d - l.toNat) (d - l.toNat) 0 (Nat.le_refl _)
    rw [Nat.sub_self, Nat.pow_zero, Nat.mul_one, Nat.add_zero] at e1
    have e2 := pth_tree (h := mkH b X) (i := i.toNat) hL l.toNat (Nat.le_refl _)
    rw [show (i.toNat : Int) = i by omega, Nat.div_eq_of_lt hi, show d - l.toNat + l.toNat = d by omega] at e2
    rw [show (treF (fun j => leafF (lfJ b X (i.toNat * 2 ^ (d - l.toNat) + j))) (d - l.toNat) 0) = treF (mkH b X) (d - l.toNat) i.toNat from e1, e2, hEq_sym]
    exact hB.2.2
  · have hj : j < 2 ^ (d - l.toNat) := hj
    refine okL_n ?_ fun j' hj' => ?_
    · show leafB b c.a (chalN b.gr.q c l i x) (lfJ b X (i.toNat * 2 ^ (d - l.toNat) + j)) (r1J b (chalN b.gr.q c l i x) u s (X (i.toNat * 2 ^ (d - l.toNat) + j) 0)) (r2J b (chalN b.gr.q c l i x) s (X (i.toNat * 2 ^ (d - l.toNat) + j) 1)) = true
      rw [hB.2.1]
      exact mk_leaf H.v kq.1 (nz_rng H.hu) (nz_rng H.hs).1 (H.p _ (by omega)) (nz_sca H.hu)
    · have k := H.d (i.toNat * 2 ^ (d - l.toNat) + j) (by omega)
      unfold seenB at k
      have k2 := List.any_eq_false.1 k (i.toNat * 2 ^ (d - l.toNat) + j') (List.mem_range.2 (by omega))
      intro e
      exact k2 (decide_eq_true e.symm)
def stH (S : Spend) : Chn := ⟨S, 0, fun _ => .zero⟩
def apE (SB g : Bool) (kd : Int) (n : Nat) (PB : Bool) (t t0 E : Int) : Int :=
  if SB = false then 1 else if g = false ∨ ¬ kd = 0 then 2 else if 8 ≤ n then 5 else if PB = false then 6 else if t < t0 then 15 else E
def apH (h : Chn) (S : Spend) (e : Int) : Chn := if e = 0 then ⟨h.first, h.n + 1, fun i => if i < h.n then h.l i else S⟩ else stH .zero
abbrev apV (h : Chn) (S : Spend) (e : Int) : AV := .tup [(apH h S e).av, .int .i64 e]
theorem ap_no {os : List (Option Ob)} {h : Chn} {S : Spend} {e e' : Int} (h1 : e = e') (h2 : ¬ e' = 0) : Ent os (.tup [.agg (Spend.zero.cw .nsl .nsl ++ [.nsl]), .int .i64 e']) (apV h S e) := by
  subst h1
  unfold apV apH
  rw [if_neg h2]
  exact Ent.tup ⟨Ent.agg (entL_app zero_ent ⟨Ent.nsl, trivial⟩), Ent.refl _, trivial⟩
theorem ap_ok {os : List (Option Ob)} {h : Chn} {S : Spend} {e : Int} {A : AV} (h1 : e = 0) (hA : Ent os A (sps (h.n + 1) fun i => if i < h.n then h.l i else S)) : Ent os (.tup [.agg (h.first.cells ++ [A]), .int .i64 0]) (apV h S e) := by
  subst h1
  exact Ent.tup ⟨Ent.agg (entL_app (EntL.refl _) ⟨hA, trivial⟩), Ent.refl _, trivial⟩
theorem ap_mix {os : List (Option Ob)} {h : Chn} {S : Spend} {m : Nat} (hm : m = h.n) : Ent os (.isl 80 (m + 1) fun r k => mixA (Nat.blt (r + 0) m) (atL (h.l (r + 0)).cells k) (atL (List.getD [S.cells] (r + 0 - m) []) k)) (sps (h.n + 1) fun i => if i < h.n then h.l i else S) := by
  subst hm
  refine Ent.isl fun i j hi _ => ?_
  show mixA (Nat.blt i h.n) (atL (h.l i).cells j) (atL (List.getD [S.cells] (i - h.n) []) j) = atL (if i < h.n then h.l i else S).cells j
  by_cases hc : i < h.n
  · rw [blt_t hc, mixA_tt, if_pos hc]
  · rw [blt_f (by omega), mixA_ff, if_neg hc, show i - h.n = 0 by omega]; rfl
theorem apE_1 {SB g PB : Bool} {kd t t0 E : Int} {n : Nat} (h : SB = false) : apE SB g kd n PB t t0 E = 1 := if_pos h
theorem apE_2 {SB g PB : Bool} {kd t t0 E : Int} {n : Nat} (h : SB = true) (h2 : g = false ∨ ¬ kd = 0) : apE SB g kd n PB t t0 E = 2 := by
  unfold apE; rw [if_neg (by simp [h]), if_pos h2]
theorem apE_3 {SB g PB : Bool} {kd t t0 E : Int} {n : Nat} (h : SB = true) (h2 : g = true ∧ kd = 0) (h3 : 8 ≤ n) : apE SB g kd n PB t t0 E = 5 := by
  unfold apE; rw [if_neg (by simp [h]), if_neg (by simp [h2]), if_pos h3]
theorem apE_4 {SB g PB : Bool} {kd t t0 E : Int} {n : Nat} (h : SB = true) (h2 : g = true ∧ kd = 0) (h3 : n < 8) (h4 : PB = false) : apE SB g kd n PB t t0 E = 6 := by
  unfold apE; rw [if_neg (by simp [h]), if_neg (by simp [h2]), if_neg (by omega), if_pos h4]
theorem apE_5 {SB g PB : Bool} {kd t t0 E : Int} {n : Nat} (h : SB = true) (h2 : g = true ∧ kd = 0) (h3 : n < 8) (h4 : PB = true) (h5 : t < t0) : apE SB g kd n PB t t0 E = 15 := by
  unfold apE; rw [if_neg (by simp [h]), if_neg (by simp [h2]), if_neg (by omega), if_neg (by simp [h4]), if_pos h5]
theorem apE_0 {SB g PB : Bool} {kd t t0 E : Int} {n : Nat} (h : SB = true) (h2 : g = true ∧ kd = 0) (h3 : n < 8) (h4 : PB = true) (h5 : ¬ t < t0) : apE SB g kd n PB t t0 E = E := by
  unfold apE; rw [if_neg (by simp [h]), if_neg (by simp [h2]), if_neg (by omega), if_neg (by simp [h4]), if_neg h5]
end Go.Sp

namespace Go.Proofs.YtolcfdcoidpieaaGreatDoor
open Go Go.Am Go.Sp
set_option maxRecDepth 100000
theorem cloneL_p0:Pure Tryz.prog gl0 173 [.nsl] .nsl:=by
 refine pure_sk (own:=ow0) Tryz.func173 (by kernel_rfl) mixed (by kernel_rfl)
  (.tt (.out (AV.nsl) [] (AV.nsl) []))
  (by kernel_rfl) ?_
 refine k_tt ?_
 exact k_out (Ent.refl _)
theorem cloneL_p1 (f:Nat→Nat→Int) (n:Nat) (hn:n≤1000):Pure Tryz.prog gl0 173 [.nn (lvs n f)] (lvs n f):=by
 refine pure_sk (own:=ow0) Tryz.func173 (by kernel_rfl) mixed (by kernel_rfl)
  (.ff (.req ((0+n)*24≤140737488355328) (.out (AV.isl 3 (0+n) fun (r k:Nat)=>Zi (f (r+0) k)) [] (lvs n f) [])))
  (by kernel_rfl) ?_
 refine k_ff ?_
 refine k_req (by omega) ?_
 exact k_out (Ent.of_eq (by simp))
theorem cloneL_p (f:Nat→Nat→Int) (n:Nat) (hn:n≤1000):Pure Tryz.prog gl0 173 [lvs n f] (lvs n f) :=
 Gives.nilSplit [] [] 3 n _ (fun h=>by subst h;exact cloneL_p0.ent Ent.nsl) (cloneL_p1 f n hn)
theorem cloneH_p0:Pure Tryz.prog gl0 174 [.nsl] .nsl:=by
 refine pure_sk (own:=ow0) Tryz.func174 (by kernel_rfl) mixed (by kernel_rfl)
  (.tt (.out (AV.nsl) [] (AV.nsl) []))
  (by kernel_rfl) ?_
 refine k_tt ?_
 exact k_out (Ent.refl _)
theorem cloneH_p1 (f:Nat→Nat→Int) (n:Nat) (hn:n≤1000):Pure Tryz.prog gl0 174 [.nn (hss n f)] (hss n f):=by
 refine pure_sk (own:=ow0) Tryz.func174 (by kernel_rfl) mixed (by kernel_rfl)
  (.ff (.req ((0+n)*32≤140737488355328) (.out (AV.isl 32 (0+n) fun (r k:Nat)=>Zb (f (r+0) k)) [] (hss n f) [])))
  (by kernel_rfl) ?_
 refine k_ff ?_
 refine k_req (by omega) ?_
 exact k_out (Ent.of_eq (by simp))
theorem cloneH_p (f:Nat→Nat→Int) (n:Nat) (hn:n≤1000):Pure Tryz.prog gl0 174 [hss n f] (hss n f) :=
 Gives.nilSplit [] [] 32 n _ (fun h=>by subst h;exact cloneH_p0.ent Ent.nsl) (cloneH_p1 f n hn)
theorem ccopied_p (s:Spend) (hl:s.nl≤1000) (hp:s.np≤1000):Pure Tryz.prog gl0 102 [s.av] s.av:=by
 refine pure_sk (own:=ow0) Tryz.func102 (by kernel_rfl) mixed (by kernel_rfl)
  (.dc (true) 173 ([AV.isl 3 s.16 fun (i j:Nat)=>Zi (s.17 i j)]) (lvs s.16 s.17) (.dc (true) 174 ([AV.isl 32 s.19 fun (i j:Nat)=>Zb (s.20 i j)]) (hss s.19 s.20) (.out (AV.agg (Spend.cells s)) [] (Spend.av s) [])))
  (by kernel_rfl) ?_
 refine k_dc (cloneL_p (s.17) (s.16) (by assumption)) ?_
 refine k_dc (cloneH_p (s.20) (s.19) (by assumption)) ?_
 exact k_out (Ent.refl _)
theorem append1_w (b:Bas) (h:Chn) (k:Coin) (u s:Int) (X:Nat→Nat→Int) (n:Nat) (x:Cxt) (g:Bool) (SB PB:Bool) (S:Spend) (E:Int) (hn:h.n≤12) (hs:∀ i,i<h.n+1→(chnS h i).nl≤1000∧(chnS h i).np≤1000)
  (c1:Pure Tryz.prog gl0 61 [b.av,secA u s X n] (.bool SB))
  (c3:Pure Tryz.prog gl0 38 [.isl 80 (h.n+1) fun i j=>atL (chnS h i).cells j,k.av] (.bool PB))
  (c4:Pure Tryz.prog gl0 62 [b.av,k.av,secA u s X n,.agg [.int .i64 0,.int .i64 0],x.av] (mkV S E)) :
  Pure Tryz.prog gl0 50 [b.av,h.av,k.av,secA u s X n,x.av,.bool g] (apV h S (apE SB g k.depth h.n PB x.time (chnS h h.n).time E)):=by
 have c2:=spends_c h (by omega)
 have c5:=ccopied_p h.first (hs 0 (by omega)).1 (hs 0 (by omega)).2
 have c6:=fun i (hi:i<h.n)=>ccopied_p (h.l i) (hs (i+1) (by omega)).1 (hs (i+1) (by omega)).2
 have e:Int.toNat (IntKind.wrap .i64 (((h.n+1:Nat):Int) - 1))=h.n:=by rw [wI (by omega) (by omega)];omega
 have e2:Int.toNat (IntKind.wrap .i64 (h.n:Int))=h.n:=by rw [wI (by omega) (by omega)];omega
 refine pure_sk (own:=ow0) Tryz.func50 (by kernel_rfl) mixed (by kernel_rfl)
  (let y0:List AV:=[Zi 0,Zi 0,Zi 0,Zi 0,Zi 0,Zb 0,Zb 0,Zb 0,Zb 0,Zb 0,Zb 0,Zb 0,Zb 0,Zb 0,Zb 0,Zb 0,Zb 0,Zb 0,Zb 0,Zb 0,Zb 0,Zb 0,Zb 0,Zb 0,Zb 0,Zb 0,Zb 0,Zb 0,Zb 0,Zb 0,Zb 0,Zb 0,Zb 0,Zb 0,Zb 0,Zb 0,Zb 0,Zi 0,Zi 0,Zi 0,Zi 0,Zi 0,Zi 0,Zb 0,Zb 0,Zb 0,Zb 0,Zb 0,Zb 0,Zb 0,Zb 0,Zb 0,Zb 0,Zb 0,Zb 0,Zb 0,Zb 0,Zb 0,Zb 0,Zb 0,Zb 0,Zb 0,Zb 0,Zb 0,Zb 0,Zb 0,Zb 0,Zb 0,Zb 0,Zb 0,Zb 0,Zb 0,Zb 0,Zb 0,Zb 0,Zi 0,Zi 0,AV.nsl,Zi 0,AV.nsl,AV.nsl];let y1:List AV:=[Zi u,Zi s,AV.isl 2 n fun (i j:Nat)=>Zi (X i j)];(.dc (true) 35 ([AV.agg (Chn.cells h)]) (AV.isl 80 (Chn.n h+1) fun (i j:Nat)=>atL (Spend.cells (chnS h i)) j) (.sc (true) 61 ([AV.agg (Bas.cells b),AV.agg y1]) (AV.bool SB) (.br (!SB) (.out (AV.tup [AV.agg y0,Zi 1]) [] (apV h S (apE SB g (Coin.depth k) (Chn.n h) PB (Cxt.time x) (Spend.time (chnS h (Chn.n h))) E)) []) (.br (!g||k.4 != 0) (.out (AV.tup [AV.agg y0,Zi 2]) [] (apV h S (apE SB g (Coin.depth k) (Chn.n h) PB (Cxt.time x) (Spend.time (chnS h (Chn.n h))) E)) []) (.br (decide ((↑h.2:Int)≥8)) (.out (AV.tup [AV.agg y0,Zi 5]) [] (apV h S (apE SB g (Coin.depth k) (Chn.n h) PB (Cxt.time x) (Spend.time (chnS h (Chn.n h))) E)) []) (.sc (true) 38 ([AV.isl 80 (h.2+1) fun (i j:Nat)=>atL (Spend.cells (chnS h i)) j,AV.agg (Coin.cells k)]) (AV.bool PB) (.br (!PB) (.out (AV.tup [AV.agg y0,Zi 6]) [] (apV h S (apE SB g (Coin.depth k) (Chn.n h) PB (Cxt.time x) (Spend.time (chnS h (Chn.n h))) E)) []) (.req ((0:Int)≤IntKind.wrap IntKind.i64 ((↑(h.2+1):Int) - 1)∧IntKind.wrap IntKind.i64 ((↑(h.2+1):Int) - 1)<(↑(h.2+1):Int)) (.br (decide (x.2<(chnS h (Int.toNat (IntKind.wrap IntKind.i64 ((↑(Chn.n h+1):Int) - 1)))).14)) (.out (AV.tup [AV.agg y0,Zi 15]) [] (apV h S (apE SB g (Coin.depth k) (Chn.n h) PB (Cxt.time x) (Spend.time (chnS h (Chn.n h))) E)) []) (.dc (true) 62 ([AV.agg (Bas.cells b),AV.agg (Coin.cells k),AV.agg y1,AV.agg [Zi 0,Zi 0],AV.agg (u8c x.1++[Zi x.2,Zi x.3])]) (mkV S E) (.br (E != 0) (.out (AV.tup [AV.agg y0,Zi E]) [] (apV h S (apE SB g (Coin.depth k) (Chn.n h) PB (Cxt.time x) (Spend.time (chnS h (Chn.n h))) E)) []) (.dc (true) 102 ([AV.agg (Spend.cells (Chn.first h))]) (Spend.av (Chn.first h)) (.loop ({ x:Nat // x≤Chn.n h }) (fun (x:{ x:Nat // x≤Chn.n h })=>mkSt [12,15,17,80,81,82] [AV.own 0 81 0 0 81,AV.own 1 80 0 0 80,AV.own 2 81 0 0 81,AV.isl 80 h.2 fun (i j:Nat)=>atL (Spend.cells (Chn.l h i)) j,Zi (↑h.2:Int),Zi (↑(x.1):Int)] [some ⟨81,1,true,Rep.lst [y0]⟩,some ⟨80,1,true,Rep.lst [Spend.cells S]⟩,some ⟨81,1,true,Rep.lst [Spend.cells (Chn.first h)++[AV.osl 3 80 0 (x.1)]]⟩,some ⟨80,x.1,true,Rep.row fun (i:Nat)=>Spend.cells (Chn.l h i)⟩]) (fun (x:{ x:Nat // x≤Chn.n h })=>Chn.n h - x.1) (⟨0,Nat.zero_le (Chn.n h)⟩) ([12,15,17,80,81,82]) ([40,432,504,21035]) ([AV.own 0 81 0 0 81,AV.own 1 80 0 0 80,AV.own 2 81 0 0 81,AV.isl 80 h.2 fun (i j:Nat)=>atL (Spend.cells (Chn.l h i)) j,Zi (↑h.2:Int),Zi 0]) ([some ⟨81,1,true,Rep.lst [y0]⟩,some ⟨80,1,true,Rep.lst [Spend.cells S]⟩,some ⟨81,1,true,Rep.lst [Spend.cells (Chn.first h)++[AV.nsl]]⟩,some ⟨80,0,true,Rep.lst []⟩]) (fun x18=>(.br (decide ((↑x18.1:Int)<(↑h.2:Int))) (.req ((0:Int)≤(↑x18.1:Int)∧(↑x18.1:Int)<(↑h.2:Int)) (.dc (true) 102 ([AV.agg (Spend.cells (Chn.l h (Int.toNat (↑(x18.1):Int))))]) (Spend.av (Chn.l h (Int.toNat (↑(x18.1):Int)))) (.req ((x18.1+1)*224≤140737488355328) (.again (Again 0 (fun (x:{ x:Nat // x≤Chn.n h })=>mkSt [12,15,17,80,81,82] [AV.own 0 81 0 0 81,AV.own 1 80 0 0 80,AV.own 2 81 0 0 81,AV.isl 80 h.2 fun (i j:Nat)=>atL (Spend.cells (Chn.l h i)) j,Zi (↑h.2:Int),Zi (↑(x.1):Int)] [some ⟨81,1,true,Rep.lst [y0]⟩,some ⟨80,1,true,Rep.lst [Spend.cells S]⟩,some ⟨81,1,true,Rep.lst [Spend.cells (Chn.first h)++[AV.osl 3 80 0 (x.1)]]⟩,some ⟨80,x.1,true,Rep.row fun (i:Nat)=>Spend.cells (Chn.l h i)⟩]) (fun (x:{ x:Nat // x≤Chn.n h })=>Chn.n h - x.1) x18) ([12,15,17,80,81,82]) ([0,1,2,84]) ([AV.own 0 81 0 0 81,AV.own 1 80 0 0 80,AV.own 2 81 0 0 81,AV.isl 80 h.2 fun (i j:Nat)=>atL (Spend.cells (Chn.l h i)) j,Zi (↑h.2:Int),Zi (IntKind.wrap IntKind.i64 ((↑x18.1:Int)+1))]) ([some ⟨81,1,true,Rep.lst [y0]⟩,some ⟨80,1,true,Rep.lst [Spend.cells S]⟩,some ⟨81,1,true,Rep.lst [Spend.cells (Chn.first h)++[AV.osl 3 80 0 (x18.1+1)]]⟩,some ⟨80,x18.1+1,true,Rep.cat x18.1 (Rep.row fun (i:Nat)=>Spend.cells (Chn.l h i)) (Rep.lst [Spend.cells (Chn.l h (Int.toNat (↑(x18.1):Int)))])⟩]))))) (.req ((x18.1+1)*224≤140737488355328) (.out (AV.tup [AV.agg (Spend.cells (Chn.first h)++[AV.isl 80 (x18.1+1) fun (r k:Nat)=>mixA (Nat.blt (r+0) x18.1) (atL (Spend.cells (Chn.l h (r+0))) k) (atL (List.getD [Spend.cells S] (r+0 - x18.1) []) k)]),Zi 0]) [] (apV h S (apE SB g (Coin.depth k) (Chn.n h) PB (Cxt.time x) (Spend.time (chnS h (Chn.n h))) E)) []))))))))))))))))))
  (by kernel_rfl) ?_
 refine k_dc (c2) ?_
 refine k_sc (c1) ?_
 refine k_br (fun h2=>?_) (fun h2=>?_)
 ·have g2:=(cnd_not_t cnd_id_f) h2
  exact k_out (ap_no (apE_1 g2) (by decide))
 ·have g2:=(cnd_not_f cnd_id_t) h2
  refine k_br (fun h4=>?_) (fun h4=>?_)
  ·have g4:=(cnd_or_t (cnd_not_t cnd_id_f) cnd_bne_t) h4
   exact k_out (ap_no (apE_2 g2 g4) (by decide))
  ·have g4:=(cnd_or_f (cnd_not_f cnd_id_t) cnd_bne_f) h4
   refine k_br (fun h6=>?_) (fun h6=>?_)
   ·have g6:=cnd_dec_t h6
    exact k_out (ap_no (apE_3 g2 g4 (by omega)) (by decide))
   ·have g6:=cnd_dec_f h6
    refine k_sc (c3) ?_
    refine k_br (fun h9=>?_) (fun h9=>?_)
    ·have g9:=(cnd_not_t cnd_id_f) h9
     exact k_out (ap_no (apE_4 g2 g4 (by omega) g9) (by decide))
    ·have g9:=(cnd_not_f cnd_id_t) h9
     refine k_req (by rw [wI (by omega) (by omega)];omega) ?_
     refine k_br (fun h12=>?_) (fun h12=>?_)
     ·have g12:=cnd_dec_t h12
      exact k_out (ap_no (apE_5 g2 g4 (by omega) g9 (by (rw [e] at g12;exact g12))) (by decide))
     ·have g12:=cnd_dec_f h12
      refine k_dc (c4) ?_
      refine k_br (fun h15=>?_) (fun h15=>?_)
      ·have g15:=cnd_bne_t h15
       exact k_out (ap_no (apE_0 g2 g4 (by omega) g9 (by (rw [e] at g12;omega))) g15)
      ·have g15:=cnd_bne_f h15
       refine k_dc (c5) ?_
       refine k_loop (fun _ hs=>hs.le (⟨.refl _,.refl _,.refl _,.refl _,.refl _,.refl _,trivial⟩) (⟨ObEnt.refl _,ObEnt.refl _,ObEnt.row (entL_app (EntL.refl _) ⟨Ent.nil rfl,trivial⟩),ObEnt.zero,trivial⟩)) (fun x18=>?_)
       try (have q18:=x18.2;dsimp only at q18)
       refine k_br (fun h19=>?_) (fun h19=>?_)
       ·have g19:=cnd_dec_t h19
        refine k_req (by omega) ?_
        refine k_dc (c6 (Int.toNat (↑(x18.1):Int)) (by omega)) ?_
        refine k_req (by omega) ?_
        exact k_again (⟨x18.1+1,by omega⟩) (fun _ hs=>hs.le (⟨.refl _,.refl _,.refl _,.refl _,.refl _,inc_ent (by omega),trivial⟩) (⟨.refl _,.refl _,.refl _,.pushRow rfl,trivial⟩)) (by dsimp only;omega)
       ·have g19:=cnd_dec_f h19
        refine k_req (by omega) ?_
        exact k_out (ap_ok ((apE_0 g2 g4 (by omega) g9 (by (rw [e] at g12;omega))).trans g15) (ap_mix (by omega)))
theorem wm1 {x:Nat} (h:0<x) (h2:x≤400):Int.toNat (IntKind.wrap .i64 ((x:Int) - 1))=x - 1:=by
 rw [wI (by omega) (by omega)];omega
theorem cverify_c (b:Bas) (R:Nat→Nat→Int) (n:Nat) (h:Chn) (hn:n≤1000) (hm:h.n≤300) (hw:b.gr.W) (hs:∀ i,i<h.n+1→(chnS h i).Sm):Pure Tryz.prog gl0 9 [b.av,rcl n R,h.av] (.bool (chvB b R n h)):=by
 have c0:=bvalid_c b hw
 have c1:=spends_c h (by omega)
 have c2:=fun i=>vrecord_c R n (chnS h i) hn
 have c3:=fun i hi=>vfy_c b (rcX R n (chnS h i)) (chnS h i) hw (hs i hi).by_.root (hs i hi).by_.payee (hs i hi).path (by have:=(hs i hi).np;omega) (by have:=(hs i hi).nl;omega)
 have c4:=fun m i (hm:1≤m∧m≤h.n+1) (hi:i<h.n+1)=>passesM_c (chnS h) m (chnS h i).coin (by omega) (fun j hj=>hs j (by omega)) (hs i hi).by_.root
 refine pure_sk (own:=ow0) Tryz.func9 (by kernel_rfl) mixed (by kernel_rfl)
  (let y0:List (Option Ob):=[some ⟨6,1,true,Rep.lst [Bas.cells b]⟩];let y1:AV:=(AV.bool (chvB b R n h));(.sc (true) 34 ([AV.agg (Bas.cells b)]) (AV.bool (validB b)) (.br (!validB b||decide ((↑h.2:Int)>8)) (.out (AV.bool false) [] y1 []) (.dc (true) 35 ([AV.agg (Chn.cells h)]) (AV.isl 80 (Chn.n h+1) fun (i j:Nat)=>atL (Spend.cells (chnS h i)) j) (.loop ({ x:Nat // x≤Chn.n h+1∧(fun (x:Nat)=>∀ (j:Nat),j<x→stepC b R n (chnS h) j=true) x }) (fun (x:{ x:Nat // x≤Chn.n h+1∧(fun (x:Nat)=>∀ (j:Nat),j<x→stepC b R n (chnS h) j=true) x })=>mkSt [1,2,3,7,14,23,24,25] [AV.isl 11 n fun (i j:Nat)=>Zi (R i j),AV.agg (Chn.cells h),AV.own 0 6 0 0 6,AV.isl 80 (h.2+1) fun (i j:Nat)=>atL (Spend.cells (chnS h i)) j,AV.bool !validB b,AV.isl 80 (h.2+1) fun (i j:Nat)=>atL (Spend.cells (chnS h i)) j,Zi (↑(h.2+1):Int),Zi (↑(x.1):Int)] y0) (fun (x:{ x:Nat // x≤Chn.n h+1∧(fun (x:Nat)=>∀ (j:Nat),j<x→stepC b R n (chnS h) j=true) x })=>Chn.n h+1 - x.1) (⟨0,⟨Nat.zero_le (Chn.n h+1),fun (j:Nat) (hj:j<0)=>absurd hj (Nat.not_lt_zero j)⟩⟩) ([1,2,3,7,14,23,24,25]) ([0]) ([AV.isl 11 n fun (i j:Nat)=>Zi (R i j),AV.agg (Chn.cells h),AV.own 0 6 0 0 6,AV.isl 80 (h.2+1) fun (i j:Nat)=>atL (Spend.cells (chnS h i)) j,AV.bool !validB b,AV.isl 80 (h.2+1) fun (i j:Nat)=>atL (Spend.cells (chnS h i)) j,Zi (↑(h.2+1):Int),Zi 0]) (y0) (fun x4=>(.br (decide ((↑x4.1:Int)<(↑(h.2+1):Int))) (.req ((0:Int)≤(↑x4.1:Int)∧(↑x4.1:Int)<(↑(h.2+1):Int)) (.sc (true) 36 ([AV.isl 11 n fun (i j:Nat)=>Zi (R i j),AV.agg (Zi (chnS h (Int.toNat (↑(x4.1):Int))).1::Zi (chnS h (Int.toNat (↑(x4.1):Int))).2::Zi (chnS h (Int.toNat (↑(x4.1):Int))).3::Zi (chnS h (Int.toNat (↑(x4.1):Int))).4::Zi (chnS h (Int.toNat (↑(x4.1):Int))).5::(u8c (chnS h (Int.toNat (↑(x4.1):Int))).6++[Zi (chnS h (Int.toNat (↑(x4.1):Int))).7,Zi (chnS h (Int.toNat (↑(x4.1):Int))).8,Zi (chnS h (Int.toNat (↑(x4.1):Int))).9,Zi (chnS h (Int.toNat (↑(x4.1):Int))).10]))]) (AV.tup [Rcd.av (rcX R n (chnS h (Int.toNat (↑(x4.1):Int)))),AV.bool (decide (fnS R n (chnS h (Int.toNat (↑(x4.1):Int)))≥0))]) (.sc ((!decide (fnS R n (chnS h (Int.toNat (↑x4.1:Int)))≥0))==false) 37 ([AV.agg (Bas.cells b),AV.agg (Rcd.cells (rcX R n (chnS h (Int.toNat (↑(x4.1):Int))))),AV.agg (Spend.cells (chnS h (Int.toNat (↑(x4.1):Int))))]) (AV.bool (vfy b (rcX R n (chnS h (Int.toNat (↑(x4.1):Int)))) (chnS h (Int.toNat (↑(x4.1):Int))))) (.br (!decide (fnS R n (chnS h (Int.toNat (↑x4.1:Int)))≥0) || !vfy b (rcX R n (chnS h (Int.toNat (↑x4.1:Int)))) (chnS h (Int.toNat (↑x4.1:Int)))) (.out (AV.bool false) [] y1 []) (.br ((↑x4.1:Int)==0&&decide ((rcX R n (chnS h (Int.toNat (↑(x4.1):Int)))).4≤0)||decide ((↑x4.1:Int)>0)&&((rcX R n (chnS h (Int.toNat (↑(x4.1):Int)))).4 != 0||(rcX R n (chnS h (Int.toNat (↑(x4.1):Int)))).5 != 0)) (.out (AV.bool false) [] y1 []) (.req ((decide ((↑x4.1:Int)>0)==true)=true→(0:Int)≤(↑x4.1:Int)∧(↑x4.1:Int)≤(↑(h.2+1):Int)) (.sc (decide ((↑x4.1:Int)>0)==true) 38 ([AV.isl 80 (Int.toNat (↑x4.1:Int)) fun (i j:Nat)=>atL (Spend.cells (chnS h (i+0))) j,AV.agg (Zi (chnS h (Int.toNat (↑(x4.1):Int))).1::Zi (chnS h (Int.toNat (↑(x4.1):Int))).2::Zi (chnS h (Int.toNat (↑(x4.1):Int))).3::Zi (chnS h (Int.toNat (↑(x4.1):Int))).4::Zi (chnS h (Int.toNat (↑(x4.1):Int))).5::(u8c (chnS h (Int.toNat (↑(x4.1):Int))).6++[Zi (chnS h (Int.toNat (↑(x4.1):Int))).7,Zi (chnS h (Int.toNat (↑(x4.1):Int))).8,Zi (chnS h (Int.toNat (↑(x4.1):Int))).9,Zi (chnS h (Int.toNat (↑(x4.1):Int))).10]))]) (AV.bool (passB (chnS h) (Int.toNat (↑x4.1:Int) - 1) (Spend.coin (chnS h (Int.toNat (↑(x4.1):Int)))))) (.req ((decide ((↑x4.1:Int)>0)==true&&(!passB (chnS h) (Int.toNat (↑x4.1:Int) - 1) (Spend.coin (chnS h (Int.toNat (↑x4.1:Int)))))==false)=true→(0:Int)≤IntKind.wrap IntKind.i64 ((↑x4.1:Int) - 1)∧IntKind.wrap IntKind.i64 ((↑x4.1:Int) - 1)<(↑(h.2+1):Int)) (.br (decide ((↑x4.1:Int)>0)&&(!passB (chnS h) (Int.toNat (↑x4.1:Int) - 1) (Spend.coin (chnS h (Int.toNat (↑x4.1:Int))))||decide ((chnS h (Int.toNat (↑(x4.1):Int))).14<(chnS h (Int.toNat (IntKind.wrap IntKind.i64 ((↑(x4.1):Int) - 1)))).14))) (.out (AV.bool false) [] y1 []) (.again (Again 0 (fun (x:{ x:Nat // x≤Chn.n h+1∧(fun (x:Nat)=>∀ (j:Nat),j<x→stepC b R n (chnS h) j=true) x })=>mkSt [1,2,3,7,14,23,24,25] [AV.isl 11 n fun (i j:Nat)=>Zi (R i j),AV.agg (Chn.cells h),AV.own 0 6 0 0 6,AV.isl 80 (h.2+1) fun (i j:Nat)=>atL (Spend.cells (chnS h i)) j,AV.bool !validB b,AV.isl 80 (h.2+1) fun (i j:Nat)=>atL (Spend.cells (chnS h i)) j,Zi (↑(h.2+1):Int),Zi (↑(x.1):Int)] y0) (fun (x:{ x:Nat // x≤Chn.n h+1∧(fun (x:Nat)=>∀ (j:Nat),j<x→stepC b R n (chnS h) j=true) x })=>Chn.n h+1 - x.1) x4) ([1,2,3,7,14,23,24,25]) ([0]) ([AV.isl 11 n fun (i j:Nat)=>Zi (R i j),AV.agg (Chn.cells h),AV.own 0 6 0 0 6,AV.isl 80 (h.2+1) fun (i j:Nat)=>atL (Spend.cells (chnS h i)) j,AV.bool !validB b,AV.isl 80 (h.2+1) fun (i j:Nat)=>atL (Spend.cells (chnS h i)) j,Zi (↑(h.2+1):Int),Zi (IntKind.wrap IntKind.i64 ((↑x4.1:Int)+1))]) (y0))))))))))) (.out (AV.bool true) [] y1 []))))))))
  (by kernel_rfl) ?_
 refine k_sc (c0) ?_
 refine k_br (fun h1=>?_) (fun h1=>?_)
 ·have g1:=(cnd_or_t (cnd_not_t cnd_id_f) cnd_dec_t) h1
  exact k_out (Ent.of_eq (congrArg _ (chv_1 g1).symm))
 ·have g1:=(cnd_or_f (cnd_not_f cnd_id_t) cnd_dec_f) h1
  refine k_dc (c1) ?_
  refine k_loop (fun _ hs=>hs.le (⟨.refl _,.refl _,.refl _,.refl _,.refl _,.refl _,.refl _,.refl _,trivial⟩) (⟨.refl _,trivial⟩)) (fun x4=>?_)
  try (have q4:=x4.2;dsimp only at q4)
  refine k_br (fun h5=>?_) (fun h5=>?_)
  ·have g5:=cnd_dec_t h5
   refine k_req (by omega) ?_
   refine k_sc (c2 (Int.toNat (↑(x4.1):Int))) ?_
   refine k_scg (fun h8=>c3 (Int.toNat (↑(x4.1):Int)) (by omega)) ?_
   refine k_br (fun h9=>?_) (fun h9=>?_)
   ·have g9:=(cnd_or_t (cnd_not_t cnd_dec_f) (cnd_not_t cnd_id_f)) h9
    try simp only [Int.toNat_natCast] at g9
    exact k_out (Ent.of_eq (congrArg _ (chv_2 (i:=x4.1) (by omega) (stepC_1 g9)).symm))
   ·have g9:=(cnd_or_f (cnd_not_f cnd_dec_t) (cnd_not_f cnd_id_t)) h9
    try simp only [Int.toNat_natCast] at g9
    refine k_br (fun h11=>?_) (fun h11=>?_)
    ·have g11:=(cnd_or_t (cnd_and_t cnd_beq_t cnd_dec_t) (cnd_and_t cnd_dec_t (cnd_or_t cnd_bne_t cnd_bne_t))) h11
     try simp only [Int.toNat_natCast] at g11
     exact k_out (Ent.of_eq (congrArg _ (chv_2 (i:=x4.1) (by omega) (stepC_2 (rule_f g11))).symm))
    ·have g11:=(cnd_or_f (cnd_and_f cnd_beq_f cnd_dec_f) (cnd_and_f cnd_dec_f (cnd_or_f cnd_bne_f cnd_bne_f))) h11
     try simp only [Int.toNat_natCast] at g11
     refine k_req (fun hr=>by have hr:=(cnd_eqt_t cnd_dec_t) hr;omega) ?_
     refine k_scg (fun h14=>c4 (Int.toNat (↑x4.1:Int)) (Int.toNat (↑(x4.1):Int)) ((by have h:=of_decide_eq_true (eq_of_beq h14);simp only [Int.toNat_natCast];first|omega|(rw [wI (by omega) (by omega)];omega))) (by omega)) ?_
     refine k_req ((fun hr=>by have hr:=(cnd_and_t (cnd_eqt_t cnd_dec_t) (cnd_eqf_t (cnd_not_f cnd_id_t))) hr;have h0:=hr.1;first|omega|(rw [wI (by omega) (by omega)];omega))) ?_
     refine k_br (fun h16=>?_) (fun h16=>?_)
     ·have g16:=(cnd_and_t cnd_dec_t (cnd_or_t (cnd_not_t cnd_id_f) cnd_dec_t)) h16
      try simp only [Int.toNat_natCast] at g16
      exact k_out (Ent.of_eq (congrArg _ (chv_2 (i:=x4.1) (by omega) (stepC_3 (link_f g16.1 (by have e:=wm1 (x:=x4.1) (by omega) (by omega);simp only [e] at g16;exact g16.2)))).symm))
     ·have g16:=(cnd_and_f cnd_dec_f (cnd_or_f (cnd_not_f cnd_id_t) cnd_dec_f)) h16
      try simp only [Int.toNat_natCast] at g16
      exact k_again (⟨x4.1+1,by omega,fun j hj=>by rcases Nat.lt_succ_iff_lt_or_eq.1 hj with hj|rfl;(· exact x4.2.2 j hj);(· exact stepC_t g9 (rule_t g11.1 g11.2) (link_t (by by_cases hx:0<x4.1;(· have e:=wm1 (x:=x4.1) hx (by omega);simp only [e] at g16;exact g16);(· exact .inl (by omega)))))⟩) (fun _ hs=>hs.le (⟨.refl _,.refl _,.refl _,.refl _,.refl _,.refl _,.refl _,inc_ent (by omega),trivial⟩) (⟨.refl _,trivial⟩)) (by dsimp only;omega)
  ·have g5:=cnd_dec_f h5
   exact k_out (Ent.of_eq (congrArg _ (chv_3 g1.1 (by omega) (fun i hi=>x4.2.2 i (by omega))).symm))
end Go.Proofs.YtolcfdcoidpieaaGreatDoor

namespace Go.Sp
open Go Go.Am
end Go.Sp

namespace Go.Proofs.YtolcfdcoidpieaaGreatDoor
open Go Go.Am Go.Sp
set_option maxRecDepth 100000
theorem pass_w (b:Bas) (h:Chn) (k c:Coin) (u s:Int) (X:Nat→Nat→Int) (n:Nat) (t:Int) (N D:Nat→Int) (R:Chn) (e:Int) (hn:h.n≤12)
  (c1:Pure Tryz.prog gl0 28 [h.av] (.agg (u8c D))) (c2:Pure Tryz.prog gl0 49 [c.av,.agg (u8c D)] (.agg (u8c N)))
  (c3:Pure Tryz.prog gl0 50 [b.av,h.av,k.av,secA u s X n,(⟨N,t,IntKind.wrap .i64 ((h.n:Int)+1)⟩:Cxt).av,.bool (decide (t≥0)&&decide (t≤1099511627776))] (.tup [R.av,.int .i64 e])) :
  Pure Tryz.prog gl0 14 [b.av,h.av,k.av,secA u s X n,c.av,.int .i64 t] (.tup [R.av,.int .i64 e]):=by
 refine pure_sk (own:=ow0) Tryz.func14 (by kernel_rfl) mixed (by kernel_rfl)
  (.sc (true) 28 ([AV.agg (Chn.cells h)]) (AV.agg (u8c D)) (.sc (true) 49 ([AV.agg (Coin.cells c),AV.agg (u8c D)]) (AV.agg (u8c N)) (.sc (true) 51 ([Zi t]) (AV.bool (decide (t≥0)&&decide (t≤1099511627776))) (.dc (true) 50 ([AV.agg (Bas.cells b),AV.agg (Chn.cells h),AV.agg (Coin.cells k),AV.agg [Zi u,Zi s,AV.isl 2 n fun (i j:Nat)=>Zi (X i j)],AV.agg (u8c N++[Zi t,Zi (IntKind.wrap IntKind.i64 ((↑h.2:Int)+1))]),AV.bool (decide (t≥0)&&decide (t≤1099511627776))]) (AV.tup [Chn.av R,Zi e]) (.out (AV.tup [AV.agg (Chn.cells R),Zi e]) [] (AV.tup [Chn.av R,Zi e]) [])))))
  (by kernel_rfl) ?_
 refine k_sc (c1) ?_
 refine k_sc (c2) ?_
 refine k_sc (instant_c (t)) ?_
 refine k_dc (c3) ?_
 exact k_out (Ent.refl _)
theorem finish_w (b:Bas) (h:Chn) (k:Coin) (u s:Int) (X:Nat→Nat→Int) (n:Nat) (x:Cxt) (R:Chn) (e:Int)
  (c3:Pure Tryz.prog gl0 50 [b.av,h.av,k.av,secA u s X n,x.av,.bool (ctxB x.time x.number)] (.tup [R.av,.int .i64 e])) :
  Pure Tryz.prog gl0 15 [b.av,h.av,k.av,secA u s X n,x.av] (.tup [R.av,.int .i64 e]):=by
 unfold ctxB at c3
 refine pure_sk (own:=ow0) Tryz.func15 (by kernel_rfl) mixed (by kernel_rfl)
  (.sc (true) 51 ([Zi x.2]) (AV.bool (decide (x.2≥0)&&decide (x.2≤1099511627776))) (.dc (true) 50 ([AV.agg (Bas.cells b),AV.agg (Chn.cells h),AV.agg (Coin.cells k),AV.agg [Zi u,Zi s,AV.isl 2 n fun (i j:Nat)=>Zi (X i j)],AV.agg (u8c x.1++[Zi x.2,Zi x.3]),AV.bool (decide (x.2≥0)&&decide (x.2≤1099511627776)&&decide (x.3≥0)&&decide (x.3≤1073741824))]) (AV.tup [Chn.av R,Zi e]) (.out (AV.tup [AV.agg (Chn.cells R),Zi e]) [] (AV.tup [Chn.av R,Zi e]) [])))
  (by kernel_rfl) ?_
 refine k_sc (instant_c (x.2)) ?_
 refine k_dc (c3) ?_
 exact k_out (Ent.refl _)
theorem chsame_c (h:Chn) (hn:h.n≤1000) (hs:∀ i,i<h.n+1→(chnS h i).nl≤1000∧(chnS h i).np≤1000):Pure Tryz.prog gl0 18 [h.av,h.av] (.bool true):=by
 have c1:=rspends_c h hn
 have c2:=fun i hi=>same32_c (chnS h i) (hs i hi).1 (hs i hi).2
 refine pure_sk (own:=ow0) Tryz.func18 (by kernel_rfl) mixed (by kernel_rfl)
  (let y0:AV:=(AV.isl 80 (Chn.n h+1) fun (i j:Nat)=>atL (Spend.cells (chnS h i)) j);(.dc (true) 39 ([AV.agg (Chn.cells h)]) y0 (.dc (true) 39 ([AV.agg (Chn.cells h)]) y0 (.br ((↑(h.2+1):Int) != (↑(h.2+1):Int)) (.out (AV.bool false) [] (AV.bool true) []) (.loop ({ x:Nat // x≤Chn.n h+1 }) (fun (x:{ x:Nat // x≤Chn.n h+1 })=>mkSt [5,6,7] [AV.isl 80 (h.2+1) fun (i j:Nat)=>atL (Spend.cells (chnS h i)) j,AV.isl 80 (h.2+1) fun (i j:Nat)=>atL (Spend.cells (chnS h i)) j,Zi (↑(x.1):Int)] []) (fun (x:{ x:Nat // x≤Chn.n h+1 })=>Chn.n h+1 - x.1) (⟨0,Nat.zero_le (Chn.n h+1)⟩) ([5,6,7]) ([]) ([AV.isl 80 (h.2+1) fun (i j:Nat)=>atL (Spend.cells (chnS h i)) j,AV.isl 80 (h.2+1) fun (i j:Nat)=>atL (Spend.cells (chnS h i)) j,Zi 0]) ([]) (fun x4=>(.br (decide ((↑x4.1:Int)<(↑(h.2+1):Int))) (.req ((0:Int)≤(↑x4.1:Int)∧(↑x4.1:Int)<(↑(h.2+1):Int)) (.req ((0:Int)≤(↑x4.1:Int)∧(↑x4.1:Int)<(↑(h.2+1):Int)) (.sc (true) 47 ([AV.agg (Spend.cells (chnS h (Int.toNat (↑(x4.1):Int)))),AV.agg (Spend.cells (chnS h (Int.toNat (↑(x4.1):Int))))]) (AV.bool true) (.ff (.again (Again 0 (fun (x:{ x:Nat // x≤Chn.n h+1 })=>mkSt [5,6,7] [AV.isl 80 (h.2+1) fun (i j:Nat)=>atL (Spend.cells (chnS h i)) j,AV.isl 80 (h.2+1) fun (i j:Nat)=>atL (Spend.cells (chnS h i)) j,Zi (↑(x.1):Int)] []) (fun (x:{ x:Nat // x≤Chn.n h+1 })=>Chn.n h+1 - x.1) x4) ([5,6,7]) ([]) ([AV.isl 80 (h.2+1) fun (i j:Nat)=>atL (Spend.cells (chnS h i)) j,AV.isl 80 (h.2+1) fun (i j:Nat)=>atL (Spend.cells (chnS h i)) j,Zi (IntKind.wrap IntKind.i64 ((↑x4.1:Int)+1))]) ([])))))) (.out (AV.bool true) [] (AV.bool true) []))))))))
  (by kernel_rfl) ?_
 refine k_dc (c1) ?_
 refine k_dc (c1) ?_
 refine k_br (fun h2=>?_) (fun h2=>?_)
 ·have g2:=cnd_bne_t h2
  exact k_out ((by exfalso;exact g2 rfl))
 ·have g2:=cnd_bne_f h2
  refine k_loop (fun _ hs=>hs.le (⟨.refl _,.refl _,.refl _,trivial⟩) (trivial)) (fun x4=>?_)
  try (have q4:=x4.2;dsimp only at q4)
  refine k_br (fun h5=>?_) (fun h5=>?_)
  ·have g5:=cnd_dec_t h5
   refine k_req (by omega) ?_
   refine k_req (by omega) ?_
   refine k_sc (c2 (Int.toNat (↑(x4.1):Int)) (by omega)) ?_
   refine k_ff ?_
   exact k_again (⟨x4.1+1,by omega⟩) (fun _ hs=>hs.le (⟨.refl _,.refl _,inc_ent (by omega),trivial⟩) (trivial)) (by dsimp only;omega)
  ·have g5:=cnd_dec_f h5
   exact k_out (Ent.of_eq rfl)
end Go.Proofs.YtolcfdcoidpieaaGreatDoor

namespace Go.Sp
open Go Go.Am
structure Hol where
  coin : Coin
  u : Int
  s : Int
  X : Nat → Nat → Int
  n : Nat
def Hol.cells (o : Hol) : List AV := o.coin.cells ++ [.int .i64 o.u, .int .i64 o.s, .isl 2 o.n fun i j => .int .i64 (o.X i j)]
def Hol.av (o : Hol) : AV := .agg o.cells
def csp (c : Coin) : Spend := ⟨c.bank, c.epoch, c.denom, c.depth, c.a, c.root, c.z, c.sa, c.sb, c.r, 0, 0, fun _ => 0, 0, 0, 0, fun _ _ => 0, 0, 0, fun _ _ => 0⟩
structure HolOk (b : Bas) (R : Nat → Nat → Int) (m : Nat) (o : Hol) : Prop where
  found : fnS R m (csp o.coin) ≥ 0
  val : (rcX R m (csp o.coin)).value = 0
  dep : (rcX R m (csp o.coin)).depth = 0
  cv : coinV b (rcX R m (csp o.coin)) o.coin = true
  sec : secB b o.u o.s o.X o.n = true
  bel : belB b o.coin o.u o.s o.X 0 = true
  n1 : o.n = 2 ^ 0
  root : byB o.coin.root 32
def hsp (b : Bas) (o : Hol) (x : Cxt) : Spend := mkS b o.coin o.u o.s o.X 0 0 0 x
theorem HolOk.depth {b : Bas} {R : Nat → Nat → Int} {m : Nat} {o : Hol} (h : HolOk b R m o) : o.coin.depth = 0 := bel_dep h.bel
theorem node0 {c : Coin} (h : c.depth = 0) : nodeB c.depth 0 0 = true := by rw [h]; decide
theorem hsp_e {b : Bas} {R : Nat → Nat → Int} {m : Nat} {o : Hol} {x : Cxt} (h : HolOk b R m o) (hx : ctxB x.time x.number = true) : mkO b o.coin o.u o.s o.X o.n 0 0 0 x = hsp b o x ∧ mkE b o.coin o.u o.s o.X o.n 0 0 0 x = 0 :=
  mk_0 h.sec ⟨node0 h.depth, hx⟩ h.bel
theorem hsp_v {b : Bas} {R : Nat → Nat → Int} {m : Nat} {o : Hol} {x : Cxt} (h : HolOk b R m o) (hx : ctxB x.time x.number = true) : verd b R m (hsp b o x) = true := by
  have hs := h.sec
  rw [h.n1] at hs
  have v := mk_vfy h.cv hs (node0 h.depth) hx h.bel
  unfold verd
  rw [show fnS R m (hsp b o x) = fnS R m (csp o.coin) from rfl, decide_eq_true h.found]
  exact v
theorem hsp_sm {b : Bas} {o : Hol} {x : Cxt} (hr : byB o.coin.root 32) (hx : byB x.payee 32) : (hsp b o x).Sm :=
  ⟨⟨hr, hx⟩, fun j hj => absurd hj (Nat.not_lt_zero j), by show 2 ^ (0 - 0) ≤ 40; decide, by show 0 ≤ 20; decide⟩
theorem chnS_old {h : Chn} {S : Spend} {j : Nat} (hj : j < h.n + 1) : chnS (apH h S 0) j = chnS h j := by
  match j, hj with
  | 0, _ => rfl
  | j + 1, hj => exact if_pos (by omega : j < h.n)
theorem chnS_new {h : Chn} {S : Spend} : chnS (apH h S 0) (h.n + 1) = S := if_neg (Nat.lt_irrefl h.n)
theorem apH_n {h : Chn} {S : Spend} : (apH h S 0).n = h.n + 1 := rfl
theorem chainF_eq {S T : Nat → Spend} {n : Nat} (h : ∀ i, i < n → S i = T i) : chainF S n = chainF T n := by
  unfold chainF
  split
  · rfl
  · refine tagI_congr ?_
    unfold hashI
    rw [It.enc_li, It.enc_li]
    have k : ∀ k, k ≤ n → It.encP n (fun i => It.byt 32 (S i).dig) k = It.encP n (fun i => It.byt 32 (T i).dig) k := fun k => by
      induction k with
      | zero => intro _; rw [It.encP_zero, It.encP_zero]
      | succ k ih => intro hk; rw [It.encP_succ, It.encP_succ, ih (by omega), h k (by omega)]
    exact k n (Nat.le_refl _)
theorem passB_eq {S T : Nat → Spend} {i : Nat} {c : Coin} (h : ∀ j, j < i + 1 → S j = T j) : passB S i c = passB T i c := by
  unfold passB
  rw [h i (by omega), chainF_eq (n := i) fun j hj => h j (by omega)]
theorem linkB_eq {S T : Nat → Spend} {i : Nat} (h : ∀ j, j < i + 1 → S j = T j) : linkB S i = linkB T i := by
  unfold linkB
  split
  · rfl
  · rw [h i (by omega), h (i - 1) (by omega), passB_eq (S := S) (T := T) (i := i - 1) fun j hj => h j (by omega)]
theorem stepC_eq {b : Bas} {R : Nat → Nat → Int} {m : Nat} {S T : Nat → Spend} {i : Nat} (h : ∀ j, j < i + 1 → S j = T j) : stepC b R m S i = stepC b R m T i := by
  unfold stepC ruleB
  rw [linkB_eq h, h i (by omega)]
structure ChI (b : Bas) (R : Nat → Nat → Int) (m : Nat) (h : Chn) (k : Coin) (i : Nat) (t : Int) : Prop where
  n : h.n = i
  v : chvB b R m h = true
  p : passB (chnS h) i k = true
  t : (chnS h i).time = t
  sm : ∀ j, j < i + 1 → (chnS h j).Sm
theorem chv_all {b : Bas} {R : Nat → Nat → Int} {m : Nat} {h : Chn} (v : chvB b R m h = true) : validB b = true ∧ h.n ≤ 8 ∧ ∀ i, i < h.n + 1 → stepC b R m (chnS h) i = true := by
  unfold chvB at v
  simp only [Bool.and_eq_true, decide_eq_true_eq] at v
  exact ⟨v.1, v.2.1, fun i hi => List.all_eq_true.1 v.2.2 i (List.mem_range.2 hi)⟩
theorem hon_v {b : Bas} {R : Nat → Nat → Int} {m : Nat} {h : Chn} {o : Hol} {i : Nat} {t : Int} {x : Cxt} (H : ChI b R m h o.coin i t) (O : HolOk b R m o) (hi : i < 8) (hx : ctxB x.time x.number = true) (ht : t ≤ x.time) :
    chvB b R m (apH h (hsp b o x) 0) = true := by
  obtain ⟨v1, v2, v3⟩ := chv_all H.v
  have hn := H.n
  subst hn
  unfold chvB
  rw [v1, apH_n, decide_eq_true (by omega : h.n + 1 ≤ 8)]
  refine allI_t fun j hj => ?_
  by_cases hc : j < h.n + 1
  · rw [stepC_eq (T := chnS h) fun k hk => chnS_old (by omega)]
    exact v3 j hc
  · obtain rfl : j = h.n + 1 := by omega
    have e := chnS_new (h := h) (S := hsp b o x)
    refine stepC_t ?_ (rule_t (.inl (by omega)) (.inr ?_)) (link_t (.inr ⟨?_, ?_⟩))
    · rw [e]
      have v := hsp_v O hx
      unfold verd at v
      simpa using v
    · rw [e]; exact ⟨O.val, O.dep⟩
    · rw [e, Nat.add_sub_cancel, passB_eq (T := chnS h) fun k hk => chnS_old (by omega)]
      exact H.p
    · rw [e, Nat.add_sub_cancel, chnS_old (by omega), H.t]
      show ¬ x.time < t
      omega
theorem chnD_byB (h : Chn) : byB (chnD h) 32 := by
  unfold chnD
  split
  · exact zero_by
  · exact chainF_by _ _
theorem hon_next {b : Bas} {R : Nat → Nat → Int} {m : Nat} {h : Chn} {o : Hol} {i : Nat} {t : Int} {k : Coin} {x : Cxt} (H : ChI b R m h o.coin i t) (O : HolOk b R m o) (hi : i < 8) (hx : ctxB x.time x.number = true) (ht : t ≤ x.time)
    (ex : x.payee = nameF k (chnD h)) (en : x.number = (i : Int) + 1) : ChI b R m (apH h (hsp b o x) 0) k (i + 1) x.time := by
  have v := hon_v H O hi hx ht
  have hn := H.n
  subst hn
  have e := chnS_new (h := h) (S := hsp b o x)
  have bx : byB x.payee 32 := by rw [ex]; exact tagI_by _ _ _
  refine ⟨rfl, v, ?_, by rw [e]; rfl, fun j hj => ?_⟩
  · unfold passB
    rw [e, chainF_eq (T := chnS h) fun j hj => chnS_old hj]
    have e1 : (hsp b o x).number = ((h.n + 1 : Nat) : Int) := by show x.number = _; rw [en]; omega
    have e2 : (hsp b o x).payee = nameF k (chainF (chnS h) (h.n + 1)) := by
      show x.payee = _
      rw [ex]; unfold chnD; rw [if_neg (by omega)]
    rw [e1, e2]
    simp [hEq, eqF_same]
  · by_cases hc : j < h.n + 1
    · rw [chnS_old hc]; exact H.sm j hc
    · obtain rfl : j = h.n + 1 := by omega
      rw [e]; exact hsp_sm O.root bx
structure FstOk (b : Bas) (R : Nat → Nat → Int) (m : Nat) (c : Coin) (u s : Int) (X : Nat → Nat → Int) (d : Nat) : Prop where
  found : fnS R m (csp c) ≥ 0
  val : (rcX R m (csp c)).value > 0
  cv : coinV b (rcX R m (csp c)) c = true
  sec : secB b u s X (2 ^ d) = true
  bel : belB b c u s X d = true
  d5 : d ≤ 5
  root : byB c.root 32
theorem hon_first {b : Bas} {R : Nat → Nat → Int} {m : Nat} {c : Coin} {u s : Int} {X : Nat → Nat → Int} {d : Nat} {l i t : Int} {k : Coin} (F : FstOk b R m c u s X d) (hn : nodeB c.depth l i = true) (hx : ctxB t 0 = true) :
    ChI b R m (stH (mkS b c u s X d l i ⟨nameF k fun _ => 0, t, 0⟩)) k 0 t := by
  obtain ⟨_, _, h3, h4, h5, h6⟩ := node_t hn
  have hd := bel_dep F.bel
  have v := mk_vfy (x := ⟨nameF k fun _ => 0, t, 0⟩) F.cv F.sec hn hx F.bel
  refine ⟨rfl, ?_, ?_, rfl, fun j hj => ?_⟩
  · unfold chvB
    rw [(cv_ok F.cv).1]
    refine allI_t fun j hj => ?_
    obtain rfl : j = 0 := Nat.lt_one_iff.1 hj
    refine stepC_t ⟨F.found, v⟩ (rule_t (.inr ?_) (.inl (by omega))) (link_t (.inl (by omega)))
    have := F.val
    show ¬ (rcX R m (csp c)).value ≤ 0
    omega
  · unfold passB
    show ((0 : Int) == ((0 : Nat) : Int) && hEq (nameF k fun _ => 0) (nameF k (chainF _ 0))) = true
    rw [show chainF (chnS (stH (mkS b c u s X d l i ⟨nameF k fun _ => 0, t, 0⟩))) 0 = fun _ => 0 from rfl]
    simp [hEq, eqF_same]
  · obtain rfl : j = 0 := Nat.lt_one_iff.1 hj
    refine ⟨⟨F.root, tagI_by _ _ _⟩, fun j hj => pth_by (fun q _ => leafF_by _) (by omega) hj (idxZ ⟨h5, h6⟩), ?_, ?_⟩
    · show 2 ^ (d - l.toNat) ≤ 40
      have := l5 (k := d - l.toNat) (by have := F.d5; omega)
      omega
    · show l.toNat ≤ 20
      have := F.d5
      omega
end Go.Sp
namespace Go.Sp
open Go Go.Am
def fstB (b : Bas) (R : Nat → Nat → Int) (m : Nat) (c : Coin) (u s : Int) (X : Nat → Nat → Int) (n : Nat) : Bool :=
  decide (fnS R m (csp c) ≥ 0) && (decide ((rcX R m (csp c)).value > 0) && (coinV b (rcX R m (csp c)) c && (secB b u s X n && belB b c u s X n.log2)))
def hldB (b : Bas) (R : Nat → Nat → Int) (m : Nat) (o : Hol) : Bool :=
  decide (o.n ≤ 40) && (decide (fnS R m (csp o.coin) ≥ 0) && ((rcX R m (csp o.coin)).value == 0 && ((rcX R m (csp o.coin)).depth == 0 && (coinV b (rcX R m (csp o.coin)) o.coin && (secB b o.u o.s o.X o.n && belB b o.coin o.u o.s o.X o.n.log2)))))
def holB (b : Bas) (R : Nat → Nat → Int) (m : Nat) (c : Coin) (u s : Int) (X : Nat → Nat → Int) (n : Nat) (hd : Nat → Hol) (M : Nat) : Bool :=
  decide (n ≤ 40) && (decide (m ≤ 60) && (fstB b R m c u s X n && allI (fun i => hldB b R m (hd i)) M))
theorem coin_dep {b : Bas} {r : Rcd} {c : Coin} (h : coinV b r c = true) : 0 ≤ c.depth ∧ c.depth ≤ 5 := by
  unfold coinV rcvB at h
  simp only [Bool.and_eq_true, beq_iff_eq] at h
  have h1 := h.1.1.1.1.1.2
  have h2 := h.1.2
  unfold oneB at h1
  rw [h2]
  by_cases hv : r.value = 0
  · rw [hv] at h1
    have : r.depth = 0 := by simpa using h1
    omega
  · rw [show (r.value == 0) = false by simpa using hv] at h1
    simp only [cond_false, Bool.and_eq_true, decide_eq_true_eq] at h1
    omega
theorem log2_pow (d : Nat) : (2 ^ d).log2 = d := Nat.log2_two_pow
end Go.Sp
namespace Go.Sp
open Go Go.Am
theorem fst_n {b : Bas} {R : Nat → Nat → Int} {m : Nat} {c : Coin} {u s : Int} {X : Nat → Nat → Int} {n : Nat} :
    (!decide (fnS R m (csp c) ≥ 0) || decide ((rcX R m (csp c)).value ≤ 0) || !coinV b (rcX R m (csp c)) c || !secB b u s X n || !belB b c u s X n.log2) = !fstB b R m c u s X n := by
  unfold fstB
  by_cases h : (rcX R m (csp c)).value ≤ 0
  · rw [decide_eq_true h, decide_eq_false (by omega : ¬ (rcX R m (csp c)).value > 0)]; simp
  · rw [decide_eq_false h, decide_eq_true (by omega : (rcX R m (csp c)).value > 0)]
    cases decide (fnS R m (csp c) ≥ 0) <;> cases coinV b (rcX R m (csp c)) c <;> cases secB b u s X n <;> cases belB b c u s X n.log2 <;> rfl
theorem hld_n {b : Bas} {R : Nat → Nat → Int} {m : Nat} {o : Hol} :
    (decide ((o.n : Int) > 40) || !decide (fnS R m (csp o.coin) ≥ 0) || (rcX R m (csp o.coin)).value != 0 || (rcX R m (csp o.coin)).depth != 0 || !coinV b (rcX R m (csp o.coin)) o.coin || !secB b o.u o.s o.X o.n || !belB b o.coin o.u o.s o.X o.n.log2) = !hldB b R m o := by
  unfold hldB
  by_cases h : o.n ≤ 40
  · rw [decide_eq_true h, decide_eq_false (by omega : ¬ (o.n : Int) > 40)]
    cases decide (fnS R m (csp o.coin) ≥ 0) <;> cases hv : (rcX R m (csp o.coin)).value == 0 <;> cases hd : (rcX R m (csp o.coin)).depth == 0 <;> cases coinV b (rcX R m (csp o.coin)) o.coin <;> cases secB b o.u o.s o.X o.n <;> cases belB b o.coin o.u o.s o.X o.n.log2 <;> simp_all
  · rw [decide_eq_false h, decide_eq_true (by omega : (o.n : Int) > 40)]; simp
theorem holB_1 {b : Bas} {R : Nat → Nat → Int} {m : Nat} {c : Coin} {u s : Int} {X : Nat → Nat → Int} {n : Nat} {hd : Nat → Hol} {M : Nat} (h : (n : Int) > 40 ∨ (m : Int) > 60) : holB b R m c u s X n hd M = false := by
  unfold holB
  rcases h with h | h
  · rw [decide_eq_false (by omega : ¬ n ≤ 40)]; rfl
  · rw [decide_eq_false (by omega : ¬ m ≤ 60)]; simp
theorem holB_2 {b : Bas} {R : Nat → Nat → Int} {m : Nat} {c : Coin} {u s : Int} {X : Nat → Nat → Int} {n : Nat} {hd : Nat → Hol} {M : Nat} (h : (!fstB b R m c u s X n) = true) : holB b R m c u s X n hd M = false := by
  unfold holB
  rw [bnotT h]; simp
theorem holB_3 {b : Bas} {R : Nat → Nat → Int} {m : Nat} {c : Coin} {u s : Int} {X : Nat → Nat → Int} {n : Nat} {hd : Nat → Hol} {M j : Nat} (hj : j < M) (h : (!hldB b R m (hd j)) = true) : holB b R m c u s X n hd M = false := by
  unfold holB
  rw [allI_f hj (bnotT h)]; simp
theorem holB_t {b : Bas} {R : Nat → Nat → Int} {m : Nat} {c : Coin} {u s : Int} {X : Nat → Nat → Int} {n : Nat} {hd : Nat → Hol} {M : Nat} (h1 : n ≤ 40) (h2 : m ≤ 60) (h3 : (!fstB b R m c u s X n) = false) (h4 : ∀ j, j < M → (!hldB b R m (hd j)) = false) : holB b R m c u s X n hd M = true := by
  unfold holB
  rw [decide_eq_true h1, decide_eq_true h2, bnotF h3, allI_t fun j hj => bnotF (h4 j hj)]; rfl
end Go.Sp
namespace Go.Sp
open Go Go.Am
def hch (b : Bas) (hd : Nat → Hol) (t : Int) (h : Chn) : Nat → Chn
  | 0 => h
  | i + 1 => apH (hch b hd t h i) (hsp b (hd i) ⟨nameF (hd (i + 1)).coin (chnD (hch b hd t h i)), t + i, (i : Int) + 1⟩) 0
def tmH (t : Int) : Nat → Int
  | 0 => t
  | i + 1 => t + i
theorem tmH_le {t : Int} : ∀ i : Nat, tmH t i ≤ t + i
  | 0 => by show t ≤ t + ((0 : Nat) : Int); omega
  | i + 1 => by show t + (i : Int) ≤ t + ((i + 1 : Nat) : Int); omega
theorem hch_i {b : Bas} {R : Nat → Nat → Int} {m : Nat} {hd : Nat → Hol} {t : Int} {h : Chn} {M : Nat} (H : ChI b R m h (hd 0).coin 0 t) (O : ∀ i, i < M → HolOk b R m (hd i)) (hM : M ≤ 8) (ht : 0 ≤ t ∧ t ≤ 4294967296) :
    ∀ i, i < M → ChI b R m (hch b hd t h i) (hd i).coin i (tmH t i)
  | 0, _ => H
  | i + 1, hi => by
    have k := hch_i H O hM ht i (by omega)
    have hx : ctxB (t + i) ((i : Int) + 1) = true := by
      unfold ctxB
      rw [decide_eq_true (by omega : t + (i : Int) ≥ 0), decide_eq_true (by omega : t + (i : Int) ≤ 1099511627776), decide_eq_true (by omega : (i : Int) + 1 ≥ 0), decide_eq_true (by omega : (i : Int) + 1 ≤ 1073741824)]; rfl
    exact hon_next (x := ⟨nameF (hd (i + 1)).coin (chnD (hch b hd t h i)), t + i, (i : Int) + 1⟩) k (O i (by omega)) (by omega) hx (tmH_le i) rfl rfl
theorem hch_first {b : Bas} {hd : Nat → Hol} {t : Int} {h : Chn} : ∀ i, (hch b hd t h i).first = h.first
  | 0 => rfl
  | i + 1 => hch_first i
end Go.Sp
namespace Go.Sp
open Go Go.Am
theorem holB_all {b : Bas} {R : Nat → Nat → Int} {m : Nat} {c : Coin} {u s : Int} {X : Nat → Nat → Int} {n : Nat} {hd : Nat → Hol} {M : Nat} (h : holB b R m c u s X n hd M = true) : n ≤ 40 ∧ m ≤ 60 ∧ fstB b R m c u s X n = true ∧ ∀ i, i < M → hldB b R m (hd i) = true := by
  unfold holB at h
  simp only [Bool.and_eq_true, decide_eq_true_eq] at h
  exact ⟨h.1, h.2.1, h.2.2.1, fun i hi => List.all_eq_true.1 h.2.2.2 i (List.mem_range.2 hi)⟩
theorem coin_rd {b : Bas} {r : Rcd} {c : Coin} (h : coinV b r c = true) : c.depth = r.depth ∧ 0 ≤ r.value ∧ r.value ≤ 1099511627776 ∧ 0 ≤ r.depth ∧ r.depth ≤ 5 := by
  have h0 := coin_dep h
  unfold coinV rcvB at h
  simp only [Bool.and_eq_true, beq_iff_eq] at h
  have h1 := h.1.1.1.1.1.2
  have h2 := h.1.2
  unfold oneB at h1
  refine ⟨h2, ?_⟩
  by_cases hv : r.value = 0
  · omega
  · rw [show (r.value == 0) = false by simpa using hv] at h1
    simp only [cond_false, Bool.and_eq_true, decide_eq_true_eq] at h1
    omega
theorem fst_ok {b : Bas} {R : Nat → Nat → Int} {m : Nat} {c : Coin} {u s : Int} {X : Nat → Nat → Int} {n : Nat} (h : fstB b R m c u s X n = true) (hr : byB c.root 32) : ∃ d, n = 2 ^ d ∧ FstOk b R m c u s X d := by
  unfold fstB at h
  simp only [Bool.and_eq_true, decide_eq_true_eq] at h
  obtain ⟨h1, h2, h3, h4, h5⟩ := h
  obtain ⟨d, d5, rfl⟩ := lv_ex (sec_all h4).l
  rw [log2_pow] at h5
  exact ⟨d, rfl, h1, h2, h3, h4, h5, d5, hr⟩
theorem hld_ok {b : Bas} {R : Nat → Nat → Int} {m : Nat} {o : Hol} (h : hldB b R m o = true) (hr : byB o.coin.root 32) : HolOk b R m o := by
  unfold hldB at h
  simp only [Bool.and_eq_true, decide_eq_true_eq, beq_iff_eq] at h
  obtain ⟨_, h1, h2, h3, h4, h5, h6⟩ := h
  obtain ⟨d, d5, hn⟩ := lv_ex (sec_all h5).l
  rw [hn, log2_pow] at h6
  have k1 := bel_dep h6
  have k2 := (coin_rd h4).1
  obtain rfl : d = 0 := by omega
  exact ⟨h1, h2, h3, h4, h5, h6, hn, hr⟩
theorem ca_ok {b : Bas} {R : Nat → Nat → Int} {m : Nat} {c : Coin} {s : Spend} (hs : s.coin = c) (hf : fnS R m (csp c) ≥ 0) (hc : coinV b (rcX R m (csp c)) c = true) (hn : nodeB c.depth s.level s.index = true) : caE R m s = 0 := by
  obtain ⟨k1, k2, k3, k4, k5⟩ := coin_rd hc
  have e : recF R m s.coin = fnS R m (csp c) := by rw [hs]; rfl
  have ev : recC R m s.coin 3 = (rcX R m (csp c)).value := by
    unfold recC rcX
    rw [e, if_pos hf, decide_eq_true hf]; rfl
  have ed : recC R m s.coin 4 = (rcX R m (csp c)).depth := by
    unfold recC rcX
    rw [e, if_pos hf, decide_eq_true hf]; rfl
  unfold caE
  rw [e, if_pos hf, ev, ed]
  unfold amE
  rw [if_neg (by omega), ← k1, if_pos hn]
end Go.Sp

namespace Go.Proofs.YtolcfdcoidpieaaGreatDoor
open Go Go.Am Go.Sp
set_option maxRecDepth 100000
theorem bel_n (b:Bas) (c:Coin) (u s:Int) (X:Nat→Nat→Int) (n:Nat) (h:secB b u s X n=true) (hd:0≤c.depth∧c.depth≤5):Pure Tryz.prog gl0 59 [b.av,c.av,secA u s X n] (.bool (belB b c u s X n.log2)):=by
 have H:=sec_all h
 obtain ⟨d,h5,rfl⟩:=lv_ex H.l
 rw [log2_pow]
 exact belongs_c b c u s X d h5 H hd
theorem hrec_c (R:Nat→Nat→Int) (m:Nat) (c:Coin) (hm:m≤1000):Pure Tryz.prog gl0 40 [rcl m R,c.av] (.tup [(rcX R m (csp c)).av,.bool (decide (fnS R m (csp c)≥0))]):=vrrecord_c R m (csp c) hm
theorem holders_c (b:Bas) (R:Nat→Nat→Int) (m:Nat) (c:Coin) (u s:Int) (X:Nat→Nat→Int) (n:Nat) (hd:Nat→Hol) (M:Nat) (hw:b.gr.W) (hM:M≤1000) (hr:byB c.root 32) (hh:∀ i,i<M→byB (hd i).coin.root 32) :
  Pure Tryz.prog gl0 20 [b.av,rcl m R,c.av,secA u s X n,.isl 44 M fun i j=>atL (hd i).cells j] (.bool (holB b R m c u s X n hd M)):=by
 have c1:=hrec_c R m c
 have c2:=rcval_c b (rcX R m (csp c)) c hw hr
 have c3:=fun h=>rsec31_c b u s X n hw h
 have c4:=fun h hd=>bel_n b c u s X n h hd
 have c5:=fun i=>hrec_c R m (hd i).coin
 have c6:=fun i hi=>rcval_c b (rcX R m (csp (hd i).coin)) (hd i).coin hw (hh i hi)
 have c7:=fun i h=>rsec31_c b (hd i).u (hd i).s (hd i).X (hd i).n hw h
 have c8:=fun i h h'=>bel_n b (hd i).coin (hd i).u (hd i).s (hd i).X (hd i).n h h'
 refine pure_sk (own:=ow0) Tryz.func20 (by kernel_rfl) mixed (by kernel_rfl)
  (let y0:List AV:=[AV.agg (Rcd.cells (rcX R m (csp c))),AV.bool (decide (fnS R m (csp c)≥0))];let y1:AV:=(AV.bool (holB b R m c u s X n hd M));let y2:List AV:=[Zi u,Zi s,AV.isl 2 n fun (i j:Nat)=>Zi (X i j)];(.br (decide ((↑n:Int)>40)||decide ((↑m:Int)>60)) (.out (AV.bool false) [] y1 []) (.sc (true) 40 ([AV.isl 11 m fun (i j:Nat)=>Zi (R i j),AV.agg (Coin.cells c)]) (AV.tup [Rcd.av (rcX R m (csp c)),AV.bool (decide (fnS R m (csp c)≥0))]) (.sc ((!decide (fnS R m (csp c)≥0)||decide ((rcX R m (csp c)).4≤0))==false) 58 ([AV.agg (Bas.cells b),AV.agg (Rcd.cells (rcX R m (csp c))),AV.agg (Coin.cells c)]) (AV.bool (coinV b (rcX R m (csp c)) c)) (.sc ((!decide (fnS R m (csp c)≥0)||decide ((rcX R m (csp c)).4≤0) || !coinV b (rcX R m (csp c)) c)==false) 52 ([AV.agg (Bas.cells b),AV.agg y2]) (AV.bool (secB b u s X n)) (.sc ((!decide (fnS R m (csp c)≥0)||decide ((rcX R m (csp c)).4≤0) || !coinV b (rcX R m (csp c)) c || !secB b u s X n)==false) 59 ([AV.agg (Bas.cells b),AV.agg (Coin.cells c),AV.agg y2]) (AV.bool (belB b c u s X (Nat.log2 n))) (.br (!decide (fnS R m (csp c)≥0)||decide ((rcX R m (csp c)).4≤0) || !coinV b (rcX R m (csp c)) c || !secB b u s X n || !belB b c u s X (Nat.log2 n)) (.out (AV.bool false) [] y1 []) (.loop ({ x:Nat×Rcd // (fun (x:Nat×Rcd)=>Prod.fst x≤M∧∀ (j:Nat),j<Prod.fst x→(!hldB b R m (hd j))=false) x }) (fun (x:{ x:Nat×Rcd // (fun (x:Nat×Rcd)=>Prod.fst x≤M∧∀ (j:Nat),j<Prod.fst x→(!hldB b R m (hd j))=false) x })=>mkSt [1,5,11,19,27,57,58,59] [AV.isl 11 m fun (i j:Nat)=>Zi (R i j),AV.own 0 6 0 0 6,AV.own 1 11 0 0 11,AV.bool (decide ((↑n:Int)>40)),AV.tup y0,AV.isl 44 M fun (i j:Nat)=>atL (Hol.cells (hd i)) j,Zi (↑M:Int),Zi (↑(Prod.fst (x.1)):Int)] [some ⟨6,1,true,Rep.lst [Bas.cells b]⟩,some ⟨11,1,true,Rep.lst [Rcd.cells (Prod.snd (x.1))]⟩]) (fun (x:{ x:Nat×Rcd // (fun (x:Nat×Rcd)=>Prod.fst x≤M∧∀ (j:Nat),j<Prod.fst x→(!hldB b R m (hd j))=false) x })=>(fun (x:Nat×Rcd)=>M - Prod.fst x) (x.1)) (⟨(0,rcX R m (csp c)),⟨Nat.zero_le M,fun (j:Nat) (hj:j<Prod.fst (0,rcX R m (csp c)))=>absurd hj (Nat.not_lt_zero j)⟩⟩) ([1,5,11,19,27,57,58,59]) ([0,152]) ([AV.isl 11 m fun (i j:Nat)=>Zi (R i j),AV.own 0 6 0 0 6,AV.own 1 11 0 0 11,AV.bool (decide ((↑n:Int)>40)),AV.tup y0,AV.isl 44 M fun (i j:Nat)=>atL (Hol.cells (hd i)) j,Zi (↑M:Int),Zi 0]) ([some ⟨6,1,true,Rep.lst [Bas.cells b]⟩,some ⟨11,1,true,Rep.lst [Rcd.cells (rcX R m (csp c))]⟩]) (fun x8=>(.br (decide ((↑(x8.1).1:Int)<(↑M:Int))) (.req ((0:Int)≤(↑(x8.1).1:Int)∧(↑(x8.1).1:Int)<(↑M:Int)) (.sc (true) 40 ([AV.isl 11 m fun (i j:Nat)=>Zi (R i j),AV.agg (Coin.cells (Hol.coin (hd (Int.toNat (↑(Prod.fst (x8.1)):Int)))))]) (AV.tup [Rcd.av (rcX R m (csp (Hol.coin (hd (Int.toNat (↑(Prod.fst (x8.1)):Int)))))),AV.bool (decide (fnS R m (csp (Hol.coin (hd (Int.toNat (↑(Prod.fst (x8.1)):Int)))))≥0))]) (.sc ((decide ((↑(hd (Int.toNat (↑(Prod.fst (x8.1)):Int))).5:Int)>40) || !decide (fnS R m (csp (hd (Int.toNat (↑(Prod.fst (x8.1)):Int))).1)≥0)||(rcX R m (csp (Hol.coin (hd (Int.toNat (↑(Prod.fst (x8.1)):Int)))))).4 != 0||(rcX R m (csp (Hol.coin (hd (Int.toNat (↑(Prod.fst (x8.1)):Int)))))).5 != 0)==false) 58 ([AV.agg (Bas.cells b),AV.agg (Rcd.cells (rcX R m (csp (Hol.coin (hd (Int.toNat (↑(Prod.fst (x8.1)):Int))))))),AV.agg (Coin.cells (Hol.coin (hd (Int.toNat (↑(Prod.fst (x8.1)):Int)))))]) (AV.bool (coinV b (rcX R m (csp (Hol.coin (hd (Int.toNat (↑(Prod.fst (x8.1)):Int)))))) (Hol.coin (hd (Int.toNat (↑(Prod.fst (x8.1)):Int)))))) (.sc ((decide ((↑(hd (Int.toNat (↑(Prod.fst (x8.1)):Int))).5:Int)>40) || !decide (fnS R m (csp (hd (Int.toNat (↑(Prod.fst (x8.1)):Int))).1)≥0)||(rcX R m (csp (Hol.coin (hd (Int.toNat (↑(Prod.fst (x8.1)):Int)))))).4 != 0||(rcX R m (csp (Hol.coin (hd (Int.toNat (↑(Prod.fst (x8.1)):Int)))))).5 != 0 || !coinV b (rcX R m (csp (hd (Int.toNat (↑(Prod.fst (x8.1)):Int))).1)) (hd (Int.toNat (↑(Prod.fst (x8.1)):Int))).1)==false) 52 ([AV.agg (Bas.cells b),AV.agg [Zi (hd (Int.toNat (↑(Prod.fst (x8.1)):Int))).2,Zi (hd (Int.toNat (↑(Prod.fst (x8.1)):Int))).3,AV.isl 2 (hd (Int.toNat (↑(Prod.fst (x8.1)):Int))).5 fun (i j:Nat)=>Zi ((hd (Int.toNat (↑(Prod.fst (x8.1)):Int))).4 i j)]]) (AV.bool (secB b (Hol.u (hd (Int.toNat (↑(Prod.fst (x8.1)):Int)))) (Hol.s (hd (Int.toNat (↑(Prod.fst (x8.1)):Int)))) (Hol.X (hd (Int.toNat (↑(Prod.fst (x8.1)):Int)))) (Hol.n (hd (Int.toNat (↑(Prod.fst (x8.1)):Int)))))) (.sc ((decide ((↑(hd (Int.toNat (↑(Prod.fst (x8.1)):Int))).5:Int)>40) || !decide (fnS R m (csp (hd (Int.toNat (↑(Prod.fst (x8.1)):Int))).1)≥0)||(rcX R m (csp (Hol.coin (hd (Int.toNat (↑(Prod.fst (x8.1)):Int)))))).4 != 0||(rcX R m (csp (Hol.coin (hd (Int.toNat (↑(Prod.fst (x8.1)):Int)))))).5 != 0 || !coinV b (rcX R m (csp (hd (Int.toNat (↑(Prod.fst (x8.1)):Int))).1)) (hd (Int.toNat (↑(Prod.fst (x8.1)):Int))).1 || !secB b (hd (Int.toNat (↑(Prod.fst (x8.1)):Int))).2 (hd (Int.toNat (↑(Prod.fst (x8.1)):Int))).3 (hd (Int.toNat (↑(Prod.fst (x8.1)):Int))).4 (hd (Int.toNat (↑(Prod.fst (x8.1)):Int))).5)==false) 59 ([AV.agg (Bas.cells b),AV.agg (Coin.cells (Hol.coin (hd (Int.toNat (↑(Prod.fst (x8.1)):Int))))),AV.agg [Zi (hd (Int.toNat (↑(Prod.fst (x8.1)):Int))).2,Zi (hd (Int.toNat (↑(Prod.fst (x8.1)):Int))).3,AV.isl 2 (hd (Int.toNat (↑(Prod.fst (x8.1)):Int))).5 fun (i j:Nat)=>Zi ((hd (Int.toNat (↑(Prod.fst (x8.1)):Int))).4 i j)]]) (AV.bool (belB b (Hol.coin (hd (Int.toNat (↑(Prod.fst (x8.1)):Int)))) (Hol.u (hd (Int.toNat (↑(Prod.fst (x8.1)):Int)))) (Hol.s (hd (Int.toNat (↑(Prod.fst (x8.1)):Int)))) (Hol.X (hd (Int.toNat (↑(Prod.fst (x8.1)):Int)))) (Nat.log2 (Hol.n (hd (Int.toNat (↑(Prod.fst (x8.1)):Int))))))) (.br (decide ((↑(hd (Int.toNat (↑(Prod.fst (x8.1)):Int))).5:Int)>40) || !decide (fnS R m (csp (hd (Int.toNat (↑(Prod.fst (x8.1)):Int))).1)≥0)||(rcX R m (csp (Hol.coin (hd (Int.toNat (↑(Prod.fst (x8.1)):Int)))))).4 != 0||(rcX R m (csp (Hol.coin (hd (Int.toNat (↑(Prod.fst (x8.1)):Int)))))).5 != 0 || !coinV b (rcX R m (csp (hd (Int.toNat (↑(Prod.fst (x8.1)):Int))).1)) (hd (Int.toNat (↑(Prod.fst (x8.1)):Int))).1 || !secB b (hd (Int.toNat (↑(Prod.fst (x8.1)):Int))).2 (hd (Int.toNat (↑(Prod.fst (x8.1)):Int))).3 (hd (Int.toNat (↑(Prod.fst (x8.1)):Int))).4 (hd (Int.toNat (↑(Prod.fst (x8.1)):Int))).5 || !belB b (hd (Int.toNat (↑(Prod.fst (x8.1)):Int))).1 (hd (Int.toNat (↑(Prod.fst (x8.1)):Int))).2 (hd (Int.toNat (↑(Prod.fst (x8.1)):Int))).3 (hd (Int.toNat (↑(Prod.fst (x8.1)):Int))).4 (Nat.log2 (hd (Int.toNat (↑(Prod.fst (x8.1)):Int))).5)) (.out (AV.bool false) [] y1 []) (.again (Again 0 (fun (x:{ x:Nat×Rcd // (fun (x:Nat×Rcd)=>Prod.fst x≤M∧∀ (j:Nat),j<Prod.fst x→(!hldB b R m (hd j))=false) x })=>mkSt [1,5,11,19,27,57,58,59] [AV.isl 11 m fun (i j:Nat)=>Zi (R i j),AV.own 0 6 0 0 6,AV.own 1 11 0 0 11,AV.bool (decide ((↑n:Int)>40)),AV.tup y0,AV.isl 44 M fun (i j:Nat)=>atL (Hol.cells (hd i)) j,Zi (↑M:Int),Zi (↑(Prod.fst (x.1)):Int)] [some ⟨6,1,true,Rep.lst [Bas.cells b]⟩,some ⟨11,1,true,Rep.lst [Rcd.cells (Prod.snd (x.1))]⟩]) (fun (x:{ x:Nat×Rcd // (fun (x:Nat×Rcd)=>Prod.fst x≤M∧∀ (j:Nat),j<Prod.fst x→(!hldB b R m (hd j))=false) x })=>(fun (x:Nat×Rcd)=>M - Prod.fst x) (x.1)) x8) ([1,5,11,19,27,57,58,59]) ([0,1]) ([AV.isl 11 m fun (i j:Nat)=>Zi (R i j),AV.own 0 6 0 0 6,AV.own 1 11 0 0 11,AV.bool (decide ((↑n:Int)>40)),AV.tup y0,AV.isl 44 M fun (i j:Nat)=>atL (Hol.cells (hd i)) j,Zi (↑M:Int),Zi (IntKind.wrap IntKind.i64 ((↑(x8.1).1:Int)+1))]) ([some ⟨6,1,true,Rep.lst [Bas.cells b]⟩,some ⟨11,1,true,Rep.lst [Rcd.cells (rcX R m (csp (Hol.coin (hd (Int.toNat (↑(Prod.fst (x8.1)):Int))))))]⟩])))))))) (.out (AV.bool true) [] y1 [])))))))))))
  (by kernel_rfl) ?_
 refine k_br (fun h0=>?_) (fun h0=>?_)
 ·have g0:=(cnd_or_t cnd_dec_t cnd_dec_t) h0
  exact k_out (Ent.of_eq (congrArg _ (holB_1 g0).symm))
 ·have g0:=(cnd_or_f cnd_dec_f cnd_dec_f) h0
  refine k_sc (c1 (by omega)) ?_
  refine k_scg (fun h3=>c2) ?_
  refine k_scg (fun h4=>c3 (by omega)) ?_
  refine k_scg (fun h5=>c4 ((by simp at h5;exact h5.2)) ((by simp at h5;exact coin_dep h5.1.2))) ?_
  refine k_br (fun h6=>?_) (fun h6=>?_)
  ·have g6:=(cnd_or_t (cnd_or_t (cnd_or_t (cnd_or_t (cnd_not_t cnd_dec_f) cnd_dec_t) (cnd_not_t cnd_id_f)) (cnd_not_t cnd_id_f)) (cnd_not_t cnd_id_f)) h6
   exact k_out (Ent.of_eq (congrArg _ (holB_2 (fst_n.symm.trans h6)).symm))
  ·have g6:=(cnd_or_f (cnd_or_f (cnd_or_f (cnd_or_f (cnd_not_f cnd_dec_t) cnd_dec_f) (cnd_not_f cnd_id_t)) (cnd_not_f cnd_id_t)) (cnd_not_f cnd_id_t)) h6
   refine k_loop (fun _ hs=>hs.le (⟨.refl _,.refl _,.refl _,.refl _,.refl _,.refl _,.refl _,.refl _,trivial⟩) (⟨.refl _,.refl _,trivial⟩)) (fun x8=>?_)
   try (have q8:=x8.2;dsimp only at q8)
   refine k_br (fun h9=>?_) (fun h9=>?_)
   ·have g9:=cnd_dec_t h9
    refine k_req (by omega) ?_
    refine k_sc (c5 (Int.toNat (↑(Prod.fst (x8.1)):Int)) (by omega)) ?_
    refine k_scg (fun h12=>c6 (Int.toNat (↑(Prod.fst (x8.1)):Int)) ((by simp only [Int.toNat_natCast];omega))) ?_
    refine k_scg (fun h13=>c7 (Int.toNat (↑(Prod.fst (x8.1)):Int)) ((by simp at h13 ⊢;omega))) ?_
    refine k_scg (fun h14=>c8 (Int.toNat (↑(Prod.fst (x8.1)):Int)) ((by simp at h14 ⊢;exact h14.2)) ((by simp at h14 ⊢;exact coin_dep h14.1.2))) ?_
    refine k_br (fun h15=>?_) (fun h15=>?_)
    ·have g15:=(cnd_or_t (cnd_or_t (cnd_or_t (cnd_or_t (cnd_or_t (cnd_or_t cnd_dec_t (cnd_not_t cnd_dec_f)) cnd_bne_t) cnd_bne_t) (cnd_not_t cnd_id_f)) (cnd_not_t cnd_id_f)) (cnd_not_t cnd_id_f)) h15
     try simp only [Int.toNat_natCast] at g15
     exact k_out (Ent.of_eq (congrArg _ (holB_3 (j:=x8.1.1) (by omega) (hld_n.symm.trans h15)).symm))
    ·have g15:=(cnd_or_f (cnd_or_f (cnd_or_f (cnd_or_f (cnd_or_f (cnd_or_f cnd_dec_f (cnd_not_f cnd_dec_t)) cnd_bne_f) cnd_bne_f) (cnd_not_f cnd_id_t)) (cnd_not_f cnd_id_t)) (cnd_not_f cnd_id_t)) h15
     try simp only [Int.toNat_natCast] at g15
     exact k_again (⟨(x8.1.1+1,rcX R m (csp (hd (Int.toNat ((x8.1.1:Nat):Int))).coin)),by show x8.1.1+1≤M;omega,fun j hj=>by rcases Nat.lt_succ_iff_lt_or_eq.1 hj with hj|hj;(· exact x8.2.2 j hj);(· rw [hj];exact hld_n.symm.trans h15)⟩) (fun _ hs=>hs.le (⟨.refl _,.refl _,.refl _,.refl _,.refl _,.refl _,.refl _,inc_ent (by omega),trivial⟩) (⟨.refl _,.refl _,trivial⟩)) (by dsimp only;omega)
   ·have g9:=cnd_dec_f h9
    exact k_out (Ent.of_eq (congrArg _ (holB_t (by omega) (by omega) (fst_n.symm.trans h6) (fun j hj=>x8.2.2 j (by have:=x8.2.1;omega))).symm))
theorem app_h (b:Bas) (R:Nat→Nat→Int) (m:Nat) (h:Chn) (o:Hol) (i:Nat) (t0:Int) (x:Cxt) (hw:b.gr.W) (H:ChI b R m h o.coin i t0) (O:HolOk b R m o) (hi:i<8) (hx:ctxB x.time x.number=true) (ht:t0≤x.time) (g:Bool) (hg:g=true) (bx:byB x.payee 32) :
  Pure Tryz.prog gl0 50 [b.av,h.av,o.coin.av,secA o.u o.s o.X o.n,x.av,.bool g] (.tup [(apH h (hsp b o x) 0).av,.int .i64 0]):=by
 have hn:=H.n
 subst hn
 have sz:∀ j,j<h.n+1→(chnS h j).nl≤1000∧(chnS h j).np≤1000:=fun j hj=>⟨by have:=(H.sm j hj).nl;omega,by have:=(H.sm j hj).np;omega⟩
 have n1:o.n≤1000:=by rw [O.n1];decide
 obtain ⟨e1,e2⟩:=hsp_e O hx
 have c:=append1_w b h o.coin o.u o.s o.X o.n x g (secB b o.u o.s o.X o.n) (passB (chnS h) h.n o.coin) _ _ (by omega) sz (vsecret_c b o.u o.s o.X o.n hw n1) (passes_c (chnS h) h.n o.coin (by omega) (fun j hj=>H.sm j (by omega)) O.root)
  (smake_c b o.coin o.u o.s o.X o.n 0 0 0 x hw n1 (fun _=>⟨by omega,O.n1⟩) O.root bx)
 rw [e1,e2,apE_0 O.sec ⟨hg,O.depth⟩ hi H.p (by rw [H.t];omega)] at c
 exact c
theorem cpass_h (b:Bas) (R:Nat→Nat→Int) (m:Nat) (h:Chn) (o:Hol) (i:Nat) (t0:Int) (k:Coin) (t:Int) (hw:b.gr.W) (H:ChI b R m h o.coin i t0) (O:HolOk b R m o) (hi:i<8) (ht:t0≤t) (h0:0≤t∧t≤1099511627776) (hk:byB k.root 32) :
  Pure Tryz.prog gl0 14 [b.av,h.av,o.coin.av,secA o.u o.s o.X o.n,k.av,.int .i64 t] (.tup [(apH h (hsp b o ⟨nameF k (chnD h),t,(i:Int)+1⟩) 0).av,.int .i64 0]):=by
 have hn:=H.n
 subst hn
 have hx:ctxB t ((h.n:Int)+1)=true:=by
  unfold ctxB
  rw [decide_eq_true (by omega:t≥0),decide_eq_true (by omega:t≤1099511627776),decide_eq_true (by omega:(h.n:Int)+1≥0),decide_eq_true (by omega:(h.n:Int)+1≤1073741824)];rfl
 have hg:(decide (t≥0)&&decide (t≤1099511627776))=true:=by rw [decide_eq_true (by omega:t≥0),decide_eq_true (by omega:t≤1099511627776)];rfl
 have a:=app_h b R m h o h.n t0 ⟨nameF k (chnD h),t,(h.n:Int)+1⟩ hw H O hi hx ht _ hg (tagI_by _ _ _)
 have e:IntKind.wrap .i64 ((h.n:Int)+1)=(h.n:Int)+1:=wI (by omega) (by omega)
 rw [← e] at a
 have c:=pass_w b h o.coin k o.u o.s o.X o.n t (nameF k (chnD h)) (chnD h) _ _ (by omega) (cdigest_c h (by omega) H.sm) (name_c k (chnD h) hk (chnD_byB h)) a
 rw [e] at c
 exact c
theorem cfin_h (b:Bas) (R:Nat→Nat→Int) (m:Nat) (h:Chn) (o:Hol) (i:Nat) (t0:Int) (x:Cxt) (hw:b.gr.W) (H:ChI b R m h o.coin i t0) (O:HolOk b R m o) (hi:i<8) (ht:t0≤x.time) (hx:ctxB x.time x.number=true) (bx:byB x.payee 32) :
  Pure Tryz.prog gl0 15 [b.av,h.av,o.coin.av,secA o.u o.s o.X o.n,x.av] (.tup [(apH h (hsp b o x) 0).av,.int .i64 0]) :=
 finish_w b h o.coin o.u o.s o.X o.n x _ _ (app_h b R m h o i t0 x hw H O hi hx ht _ hx bx)
theorem cver_h (b:Bas) (R:Nat→Nat→Int) (m:Nat) (h:Chn) (hw:b.gr.W) (hm:m≤1000) (hn:h.n≤300) (v:chvB b R m h=true) (sm:∀ j,j<h.n+1→(chnS h j).Sm):Pure Tryz.prog gl0 9 [b.av,rcl m R,h.av] (.bool true):=by
 have c:=cverify_c b R m h hm hn hw sm
 rw [v] at c
 exact c
theorem pass_h (b:Bas) (R:Nat→Nat→Int) (m:Nat) (hd:Nat→Hol) (t:Int) (M:Nat) (C:Nat→Chn) (hM:1≤M∧M≤8) (hC:∀ i,i<M→(C i).n=i)
  (c1:∀ (i j k:Nat) (z:Int),j=i→k=i+1→i+1<M→z=t+i→Pure Tryz.prog gl0 14 [b.av,(C i).av,(hd j).coin.av,secA (hd j).u (hd j).s (hd j).X (hd j).n,(hd k).coin.av,.int .i64 z] (.tup [(C (i+1)).av,.int .i64 0]))
  (c2:∀ i,i<M→Pure Tryz.prog gl0 9 [b.av,rcl m R,(C i).av] (.bool true)) (ht:0≤t∧t≤4294967296) :
  Pure Tryz.prog gl0 25 [b.av,rcl m R,(C 0).av,.isl 44 M fun i j=>atL (hd i).cells j,.int .i64 0,.int .i64 t] (.tup [(C (M - 1)).av,.bool true]):=by
 have w1:∀ x:Nat,x≤M - 1→IntKind.wrap .i64 ((x:Int)+1)=(x:Int)+1:=fun x hx=>wI (by omega) (by omega)
 have w2:∀ x:Nat,x≤M - 1→IntKind.wrap .i64 (t+(x:Int))=t+(x:Int):=fun x hx=>wI (by omega) (by omega)
 refine pure_sk (own:=ow0) Tryz.func25 (by kernel_rfl) mixed (by kernel_rfl)
  (let y0:List AV:=[Zi 0,Zi 0,Zi 0,Zi 0,Zi 0,Zb 0,Zb 0,Zb 0,Zb 0,Zb 0,Zb 0,Zb 0,Zb 0,Zb 0,Zb 0,Zb 0,Zb 0,Zb 0,Zb 0,Zb 0,Zb 0,Zb 0,Zb 0,Zb 0,Zb 0,Zb 0,Zb 0,Zb 0,Zb 0,Zb 0,Zb 0,Zb 0,Zb 0,Zb 0,Zb 0,Zb 0,Zb 0,Zi 0,Zi 0,Zi 0,Zi 0,Zi 0,Zi 0,Zb 0,Zb 0,Zb 0,Zb 0,Zb 0,Zb 0,Zb 0,Zb 0,Zb 0,Zb 0,Zb 0,Zb 0,Zb 0,Zb 0,Zb 0,Zb 0,Zb 0,Zb 0,Zb 0,Zb 0,Zb 0,Zb 0,Zb 0,Zb 0,Zb 0,Zb 0,Zb 0,Zb 0,Zb 0,Zb 0,Zb 0,Zb 0,Zi 0,Zi 0,AV.nsl,Zi 0,AV.nsl,AV.nsl];let y1:AV:=(AV.tup [Chn.av (C (M - 1)),AV.bool true]);(.loop ({ x:Nat // x≤M - 1 }) (fun (x:{ x:Nat // x≤M - 1 })=>mkSt [1,2,3,5,6,8,12,14] [AV.isl 11 m fun (i j:Nat)=>Zi (R i j),AV.agg (Chn.cells (C 0)),AV.isl 44 M fun (i j:Nat)=>atL (Hol.cells (hd i)) j,Zi t,AV.own 0 6 0 0 6,AV.own 1 81 0 0 81,AV.own 2 81 0 0 81,Zi (↑(x.1):Int)] [some ⟨6,1,true,Rep.lst [Bas.cells b]⟩,some ⟨81,1,true,Rep.lst [Chn.cells (C (x.1))]⟩,some ⟨81,1,true,Rep.lst [y0]⟩]) (fun (x:{ x:Nat // x≤M - 1 })=>M - 1 - x.1) (⟨0,Nat.zero_le (M - 1)⟩) ([1,2,3,5,6,8,12,14]) ([0,8,16]) ([AV.isl 11 m fun (i j:Nat)=>Zi (R i j),AV.agg (Chn.cells (C 0)),AV.isl 44 M fun (i j:Nat)=>atL (Hol.cells (hd i)) j,Zi t,AV.own 0 6 0 0 6,AV.own 1 81 0 0 81,AV.own 2 81 0 0 81,Zi 0]) ([some ⟨6,1,true,Rep.lst [Bas.cells b]⟩,some ⟨81,1,true,Rep.lst [Chn.cells (C 0)]⟩,some ⟨81,1,true,Rep.lst [y0]⟩]) (fun x0=>(.br (decide (IntKind.wrap IntKind.i64 ((↑x0.1:Int)+1)<(↑M:Int))) (.req ((0:Int)≤(↑x0.1:Int)∧(↑x0.1:Int)<(↑M:Int)) (.req ((0:Int)≤(↑x0.1:Int)∧(↑x0.1:Int)<(↑M:Int)) (.req ((0:Int)≤IntKind.wrap IntKind.i64 ((↑x0.1:Int)+1)∧IntKind.wrap IntKind.i64 ((↑x0.1:Int)+1)<(↑M:Int)) (.dc (true) 14 ([AV.agg (Bas.cells b),AV.agg (Chn.cells (C (x0.1))),AV.agg (Coin.cells (Hol.coin (hd (Int.toNat (↑(x0.1):Int))))),AV.agg [Zi (hd (Int.toNat (↑(x0.1):Int))).2,Zi (hd (Int.toNat (↑(x0.1):Int))).3,AV.isl 2 (hd (Int.toNat (↑(x0.1):Int))).5 fun (i j:Nat)=>Zi ((hd (Int.toNat (↑(x0.1):Int))).4 i j)],AV.agg (Coin.cells (Hol.coin (hd (Int.toNat (IntKind.wrap IntKind.i64 ((↑(x0.1):Int)+1)))))),Zi (IntKind.wrap IntKind.i64 (t+(↑x0.1:Int)))]) (AV.tup [Chn.av (C (x0.1+1)),Zi 0]) (.sc (((↑(C (x0.1+1)).2:Int) != IntKind.wrap IntKind.i64 ((↑(C (x0.1)).2:Int)+1))==false) 9 ([AV.agg (Bas.cells b),AV.isl 11 m fun (i j:Nat)=>Zi (R i j),AV.agg (Chn.cells (C (x0.1+1)))]) (AV.bool true) (.br ((↑(C (x0.1+1)).2:Int) != IntKind.wrap IntKind.i64 ((↑(C (x0.1)).2:Int)+1)||false) (.out (AV.tup [AV.agg y0,AV.bool false]) [] y1 []) (.again (Again 0 (fun (x:{ x:Nat // x≤M - 1 })=>mkSt [1,2,3,5,6,8,12,14] [AV.isl 11 m fun (i j:Nat)=>Zi (R i j),AV.agg (Chn.cells (C 0)),AV.isl 44 M fun (i j:Nat)=>atL (Hol.cells (hd i)) j,Zi t,AV.own 0 6 0 0 6,AV.own 1 81 0 0 81,AV.own 2 81 0 0 81,Zi (↑(x.1):Int)] [some ⟨6,1,true,Rep.lst [Bas.cells b]⟩,some ⟨81,1,true,Rep.lst [Chn.cells (C (x.1))]⟩,some ⟨81,1,true,Rep.lst [y0]⟩]) (fun (x:{ x:Nat // x≤M - 1 })=>M - 1 - x.1) x0) ([1,2,3,5,6,8,12,14]) ([0,1,2]) ([AV.isl 11 m fun (i j:Nat)=>Zi (R i j),AV.agg (Chn.cells (C 0)),AV.isl 44 M fun (i j:Nat)=>atL (Hol.cells (hd i)) j,Zi t,AV.own 0 6 0 0 6,AV.own 1 81 0 0 81,AV.own 2 81 0 0 81,Zi (IntKind.wrap IntKind.i64 ((↑x0.1:Int)+1))]) ([some ⟨6,1,true,Rep.lst [Bas.cells b]⟩,some ⟨81,1,true,Rep.lst [Chn.cells (C (x0.1+1))]⟩,some ⟨81,1,true,Rep.lst [y0]⟩])))))))) (.out (AV.tup [AV.agg (Chn.cells (C (x0.1))),AV.bool true]) [] y1 [])))))
  (by kernel_rfl) ?_
 refine k_loop (fun _ hs=>hs.le (⟨.refl _,.refl _,.refl _,.refl _,.refl _,.refl _,.refl _,.refl _,trivial⟩) (⟨.refl _,.refl _,.refl _,trivial⟩)) (fun x0=>?_)
 try (have q0:=x0.2;dsimp only at q0)
 (have e:=w1 x0.1 x0.2;have e2:=w2 x0.1 x0.2)
 refine k_br (fun h1=>?_) (fun h1=>?_)
 ·have g1:=cnd_dec_t h1
  refine k_req (by omega) ?_
  refine k_req (by omega) ?_
  refine k_req (by omega) ?_
  refine k_dc (c1 (x0.1) (Int.toNat (↑(x0.1):Int)) (Int.toNat (IntKind.wrap IntKind.i64 ((↑(x0.1):Int)+(1:Int)))) (IntKind.wrap IntKind.i64 (t+(↑x0.1:Int))) (by omega) (by omega) (by omega) (by omega)) ?_
  refine k_scg (fun h6=>c2 (x0.1+(1:Nat)) (by omega)) ?_
  refine k_br (fun h7=>?_) (fun h7=>?_)
  ·have g7:=(cnd_or_t cnd_bne_t cnd_id_t) h7
   exact k_out ((by exfalso;have a:=hC x0.1 (by omega);have d:=hC (x0.1+1) (by omega);rcases g7 with g|g;(· rw [a,d] at g;omega);(· cases g)))
  ·have g7:=(cnd_or_f cnd_bne_f cnd_id_f) h7
   exact k_again (⟨x0.1+1,by omega⟩) (fun _ hs=>hs.le (⟨.refl _,.refl _,.refl _,.refl _,.refl _,.refl _,.refl _,inc_ent (by omega),trivial⟩) (⟨.refl _,.refl _,.refl _,trivial⟩)) (by dsimp only;omega)
 ·have g1:=cnd_dec_f h1
  exact k_out (Ent.of_eq (by rw [show x0.1=M - 1 by omega];rfl))
theorem st_out {os:List (Option Ob)} {S:Spend} {E D:Int} (h2:D=E):Ent os (.tup [.agg (S.cells++[.nsl]),.int .i64 D]) (.tup [(stH S).av,.int .i64 E]):=by
 subst h2
 exact Ent.tup ⟨Ent.agg (entL_app (EntL.refl _) ⟨Ent.nsl,trivial⟩),Ent.refl _,trivial⟩
theorem start_h (b:Bas) (c k:Coin) (u s:Int) (X:Nat→Nat→Int) (n:Nat) (l i t:Int) (x:Cxt) (S:Spend)
  (c1:Pure Tryz.prog gl0 61 [b.av,secA u s X n] (.bool true))
  (c2:Pure Tryz.prog gl0 27 [b.av,k.av,.agg (u8c fun _=>0),.int .i64 t,.int .i64 0] (.tup [x.av,.int .i64 0]))
  (c3:Pure Tryz.prog gl0 62 [b.av,c.av,secA u s X n,.agg [.int .i64 l,.int .i64 i],x.av] (mkV S 0)) :
  Pure Tryz.prog gl0 23 [b.av,c.av,secA u s X n,.agg [.int .i64 l,.int .i64 i],k.av,.int .i64 t] (.tup [(stH S).av,.int .i64 0]):=by
 refine pure_sk (own:=ow0) Tryz.func23 (by kernel_rfl) mixed (by kernel_rfl)
  (let y0:List AV:=[Zi u,Zi s,AV.isl 2 n fun (i j:Nat)=>Zi (X i j)];(.sc (true) 61 ([AV.agg (Bas.cells b),AV.agg y0]) (AV.bool true) (.ff (.sc (true) 27 ([AV.agg (Bas.cells b),AV.agg (Coin.cells k),AV.agg [Zb 0,Zb 0,Zb 0,Zb 0,Zb 0,Zb 0,Zb 0,Zb 0,Zb 0,Zb 0,Zb 0,Zb 0,Zb 0,Zb 0,Zb 0,Zb 0,Zb 0,Zb 0,Zb 0,Zb 0,Zb 0,Zb 0,Zb 0,Zb 0,Zb 0,Zb 0,Zb 0,Zb 0,Zb 0,Zb 0,Zb 0,Zb 0],Zi t,Zi 0]) (AV.tup [Cxt.av x,Zi 0]) (.ff (.dc (true) 62 ([AV.agg (Bas.cells b),AV.agg (Coin.cells c),AV.agg y0,AV.agg [Zi l,Zi i],AV.agg (u8c x.1++[Zi x.2,Zi x.3])]) (mkV S (0:Int)) (.ff (.out (AV.tup [AV.agg (Spend.cells S++[AV.nsl]),Zi 0]) [] (AV.tup [Chn.av (stH S),Zi 0]) []))))))))
  (by kernel_rfl) ?_
 refine k_sc (c1) ?_
 refine k_ff ?_
 refine k_sc (c2) ?_
 refine k_ff ?_
 refine k_dc (c3) ?_
 refine k_ff ?_
 exact k_out (st_out rfl)
theorem cstart_h (b:Bas) (R:Nat→Nat→Int) (m:Nat) (c k:Coin) (u s:Int) (X:Nat→Nat→Int) (d:Nat) (l i t:Int) (hw:b.gr.W) (F:FstOk b R m c u s X d) (hn:nodeB c.depth l i=true) (hx:ctxB t 0=true) (hk:byB k.root 32) :
  Pure Tryz.prog gl0 23 [b.av,c.av,secA u s X (2^d),.agg [.int .i64 l,.int .i64 i],k.av,.int .i64 t] (.tup [(stH (mkS b c u s X d l i ⟨nameF k fun _=>0,t,0⟩)).av,.int .i64 0]):=by
 have n2:2^d≤1000:=by have:=l5 F.d5;omega
 have hv:=(cv_ok F.cv).1
 have c1:=vsecret_c b u s X (2^d) hw n2
 rw [F.sec] at c1
 have c2:=ccontext_c b k (fun _=>0) t 0 hw hk zero_by
 have e1:ccX b k (fun _=>0) t 0=⟨nameF k fun _=>0,t,0⟩:=by
  unfold ccX ccOk
  rw [hv,hx];rfl
 have e2:ccE b t 0=0:=by
  unfold ccE
  rw [hv,hx];rfl
 rw [e1,e2] at c2
 have c3:=smake_c b c u s X (2^d) d l i ⟨nameF k fun _=>0,t,0⟩ hw n2 (fun _=>⟨F.d5,rfl⟩) F.root (tagI_by _ _ _)
 rw [(mk_0 F.sec ⟨hn,hx⟩ F.bel).1,(mk_0 F.sec ⟨hn,hx⟩ F.bel).2] at c3
 exact start_h b c k u s X (2^d) l i t _ _ c1 c2 c3
theorem none_s:Pure Tryz.prog gl0 18 [(stH .zero).av,.agg (Spend.zero.cw .nsl .nsl++[.nsl])] (.bool true) :=
 (chsame_c (stH .zero) (Nat.zero_le _) (fun i hi=>by obtain rfl:i=0:=Nat.lt_one_iff.1 hi;exact ⟨Nat.zero_le _,Nat.zero_le _⟩)).via ⟨Ent.refl _,Ent.agg (entL_app zero_ent ⟨Ent.nsl,trivial⟩),trivial⟩
theorem none_h:Pure Tryz.prog gl0 26 [(stH .zero).av] (.bool true):=by
 refine pure_sk (own:=ow0) Tryz.func26 (by kernel_rfl) mixed (by kernel_rfl)
  (.sc (true) 18 ([AV.agg [Zi 0,Zi 0,Zi 0,Zi 0,Zi 0,Zb 0,Zb 0,Zb 0,Zb 0,Zb 0,Zb 0,Zb 0,Zb 0,Zb 0,Zb 0,Zb 0,Zb 0,Zb 0,Zb 0,Zb 0,Zb 0,Zb 0,Zb 0,Zb 0,Zb 0,Zb 0,Zb 0,Zb 0,Zb 0,Zb 0,Zb 0,Zb 0,Zb 0,Zb 0,Zb 0,Zb 0,Zb 0,Zi 0,Zi 0,Zi 0,Zi 0,Zi 0,Zi 0,Zb 0,Zb 0,Zb 0,Zb 0,Zb 0,Zb 0,Zb 0,Zb 0,Zb 0,Zb 0,Zb 0,Zb 0,Zb 0,Zb 0,Zb 0,Zb 0,Zb 0,Zb 0,Zb 0,Zb 0,Zb 0,Zb 0,Zb 0,Zb 0,Zb 0,Zb 0,Zb 0,Zb 0,Zb 0,Zb 0,Zb 0,Zb 0,Zi 0,Zi 0,AV.isl 3 0 fun (i j:Nat)=>Zi 0,Zi 0,AV.isl 32 0 fun (i j:Nat)=>Zb 0,AV.isl 80 0 fun (i j:Nat)=>atL (Spend.cells (Chn.l (stH Spend.zero) i)) j],AV.agg [Zi 0,Zi 0,Zi 0,Zi 0,Zi 0,Zb 0,Zb 0,Zb 0,Zb 0,Zb 0,Zb 0,Zb 0,Zb 0,Zb 0,Zb 0,Zb 0,Zb 0,Zb 0,Zb 0,Zb 0,Zb 0,Zb 0,Zb 0,Zb 0,Zb 0,Zb 0,Zb 0,Zb 0,Zb 0,Zb 0,Zb 0,Zb 0,Zb 0,Zb 0,Zb 0,Zb 0,Zb 0,Zi 0,Zi 0,Zi 0,Zi 0,Zi 0,Zi 0,Zb 0,Zb 0,Zb 0,Zb 0,Zb 0,Zb 0,Zb 0,Zb 0,Zb 0,Zb 0,Zb 0,Zb 0,Zb 0,Zb 0,Zb 0,Zb 0,Zb 0,Zb 0,Zb 0,Zb 0,Zb 0,Zb 0,Zb 0,Zb 0,Zb 0,Zb 0,Zb 0,Zb 0,Zb 0,Zb 0,Zb 0,Zb 0,Zi 0,Zi 0,AV.nsl,Zi 0,AV.nsl,AV.nsl]]) (AV.bool true) (.out (AV.bool true) [] (AV.bool true) []))
  (by kernel_rfl) ?_
 refine k_sc (none_s) ?_
 exact k_out (Ent.of_eq rfl)
theorem wmx {M:Nat} {t:Int} (ht:0≤t∧t<4294967296) (h:1≤(M:Int)∧(M:Int)≤8):IntKind.wrap .i64 (IntKind.wrap .i64 t+if IntKind.wrap .i64 ((M:Int) - 2)>0 then IntKind.wrap .i64 ((M:Int) - 2) else 0)=t+max 0 ((M:Int) - 2):=by
 rw [wI (n:=t) (by omega) (by omega),wI (n:=(M:Int) - 2) (by omega) (by omega)]
 split
 ·rw [wI (by omega) (by omega)];omega
 ·rw [wI (by omega) (by omega)];omega
theorem honest_w (b:Bas) (R:Nat→Nat→Int) (m:Nat) (c:Coin) (u s:Int) (X:Nat→Nat→Int) (n:Nat) (l i:Int) (hd:Nat→Hol) (M:Nat) (t:Int) (x:Cxt) (VB HB:Bool) (C:Nat→Chn) (A:Int) (E:Chn) (e:Int) (hM:M<9223372036854775808) (hC:(C 0).n=0) (ht:0≤t∧t<4294967296)
  (c0:Pure Tryz.prog gl0 19 [b.av] (.bool VB))
  (c1:M≤8→Pure Tryz.prog gl0 20 [b.av,rcl m R,c.av,secA u s X n,.isl 44 M fun i j=>atL (hd i).cells j] (.bool HB))
  (c3:HB=true∧nodeB c.depth l i=true∧(1≤M∧M≤8)→∀ z,z=t→Pure Tryz.prog gl0 23 [b.av,c.av,secA u s X n,.agg [.int .i64 l,.int .i64 i],(hd 0).coin.av,.int .i64 z] (.tup [(C 0).av,.int .i64 0]))
  (c4:HB=true∧nodeB c.depth l i=true∧(1≤M∧M≤8)→∀ i,i<M→Pure Tryz.prog gl0 9 [b.av,rcl m R,(C i).av] (.bool true))
  (c5:HB=true∧nodeB c.depth l i=true∧(1≤M∧M≤8)→Pure Tryz.prog gl0 24 [rcl m R,(C 0).av] (.tup [.int .i64 A,.int .i64 0]))
  (c6:HB=true∧nodeB c.depth l i=true∧(1≤M∧M≤8)→∀ z,z=t→Pure Tryz.prog gl0 25 [b.av,rcl m R,(C 0).av,.isl 44 M fun i j=>atL (hd i).cells j,.int .i64 0,.int .i64 z] (.tup [(C (M - 1)).av,.bool true]))
  (c7:HB=true∧nodeB c.depth l i=true∧(1≤M∧M≤8)→ctxB x.time x.number=true→∀ j,j=M - 1→Pure Tryz.prog gl0 15 [b.av,(C (M - 1)).av,(hd j).coin.av,secA (hd j).u (hd j).s (hd j).X (hd j).n,x.av] (.tup [E.av,.int .i64 e]))
  (c8:E=stH .zero→Pure Tryz.prog gl0 26 [E.av] (.bool true))
  (c9:HB=true∧nodeB c.depth l i=true∧(1≤M∧M≤8)→ctxB x.time x.number=true→e=0→Pure Tryz.prog gl0 9 [b.av,rcl m R,E.av] (.bool true))
  (c10:HB=true∧nodeB c.depth l i=true∧(1≤M∧M≤8)→ctxB x.time x.number=true→e=0→Pure Tryz.prog gl0 24 [rcl m R,E.av] (.tup [.int .i64 A,.int .i64 0]))
  (u1:HB=true∧nodeB c.depth l i=true∧(1≤M∧M≤8)→ctxB x.time x.number=true→x.time<t+max 0 ((M:Int) - 2)→e=15∧E=stH .zero)
  (u2:HB=true∧nodeB c.depth l i=true∧(1≤M∧M≤8)→ctxB x.time x.number=true→¬x.time<t+max 0 ((M:Int) - 2)→e=0∧E.n=M∧(E.l (M - 1)).cxt=x) :
  Pure Tryz.prog gl0 6 [b.av,rcl m R,c.av,secA u s X n,.agg [.int .i64 l,.int .i64 i],.isl 44 M fun i j=>atL (hd i).cells j,.int .u32 t,x.av] (.bool true):=by
 refine pure_sk (own:=ow0) Tryz.func6 (by kernel_rfl) mixed (by kernel_rfl)
  (let y0:Nat:=(Int.toNat (IntKind.wrap IntKind.i64 ((↑(Chn.n E):Int) - 1)));let y1:Nat:=(Int.toNat (IntKind.wrap IntKind.i64 ((↑M:Int) - 1)));let y2:List AV:=[Zi u,Zi s,AV.isl 2 n fun (i j:Nat)=>Zi (X i j)];(.sc (true) 7 ([]) (AV.bool true) (.sc ((decide ((↑M:Int)<1)||decide ((↑M:Int)>8))==false) 19 ([AV.agg (Bas.cells b)]) (AV.bool VB) (.sc ((decide ((↑M:Int)<1)||decide ((↑M:Int)>8) || !VB)==false) 20 ([AV.agg (Bas.cells b),AV.isl 11 m fun (i j:Nat)=>Zi (R i j),AV.agg (Coin.cells c),AV.agg y2,AV.isl 44 M fun (i j:Nat)=>atL (Hol.cells (hd i)) j]) (AV.bool HB) (.sc ((decide ((↑M:Int)<1)||decide ((↑M:Int)>8) || !VB || !HB)==false) 21 ([Zi c.4,AV.agg [Zi l,Zi i]]) (AV.bool (nodeB (Coin.depth c) l i)) (.sc ((decide ((↑M:Int)<1)||decide ((↑M:Int)>8) || !VB || !HB || !nodeB c.4 l i)==false) 22 ([AV.agg (u8c x.1++[Zi x.2,Zi x.3])]) (AV.bool (ctxB (Cxt.time x) (Cxt.number x))) (.br (decide ((↑M:Int)<1)||decide ((↑M:Int)>8) || !VB || !HB || !nodeB c.4 l i || !ctxB x.2 x.3) (.sc (true) 7 ([]) (AV.bool true) (.out (AV.bool true) [] (AV.bool true) [])) (.req ((0:Int)≤0∧(0:Int)<(↑M:Int)) (.dc (true) 23 ([AV.agg (Bas.cells b),AV.agg (Coin.cells c),AV.agg y2,AV.agg [Zi l,Zi i],AV.agg (Coin.cells (Hol.coin (hd (Int.toNat (0:Int))))),Zi (IntKind.wrap IntKind.i64 t)]) (AV.tup [Chn.av (C 0),Zi 0]) (.sc (((↑(C 0).2:Int) != 0)==false) 9 ([AV.agg (Bas.cells b),AV.isl 11 m fun (i j:Nat)=>Zi (R i j),AV.agg (Chn.cells (C 0))]) (AV.bool true) (.br ((↑(C 0).2:Int) != 0||false) (.out (AV.bool false) [] (AV.bool true) []) (.sc (true) 24 ([AV.isl 11 m fun (i j:Nat)=>Zi (R i j),AV.agg (Chn.cells (C 0))]) (AV.tup [Zi A,Zi 0]) (.ff (.dc (true) 25 ([AV.agg (Bas.cells b),AV.isl 11 m fun (i j:Nat)=>Zi (R i j),AV.agg (Chn.cells (C 0)),AV.isl 44 M fun (i j:Nat)=>atL (Hol.cells (hd i)) j,Zi 0,Zi (IntKind.wrap IntKind.i64 t)]) (AV.tup [Chn.av (C (M - 1)),AV.bool true]) (.ff (.req ((0:Int)≤IntKind.wrap IntKind.i64 ((↑M:Int) - 1)∧IntKind.wrap IntKind.i64 ((↑M:Int) - 1)<(↑M:Int)) (.dc (true) 15 ([AV.agg (Bas.cells b),AV.agg (Chn.cells (C (M - 1))),AV.agg (Coin.cells (Hol.coin (hd y1))),AV.agg [Zi (hd y1).2,Zi (hd y1).3,AV.isl 2 (hd y1).5 fun (i j:Nat)=>Zi ((hd y1).4 i j)],AV.agg (u8c x.1++[Zi x.2,Zi x.3])]) (AV.tup [Chn.av E,Zi e]) (.br (decide (x.2<IntKind.wrap IntKind.i64 (IntKind.wrap IntKind.i64 t+if IntKind.wrap IntKind.i64 ((↑M:Int) - 2)>0 then IntKind.wrap IntKind.i64 ((↑M:Int) - 2) else (0:Int)))) (.sc ((e==15)==true) 26 ([AV.agg (Chn.cells E)]) (AV.bool true) (.out (AV.bool (e==15||false)) [] (AV.bool true) [])) (.sc ((e != 0)==false) 9 ([AV.agg (Bas.cells b),AV.isl 11 m fun (i j:Nat)=>Zi (R i j),AV.agg (Chn.cells E)]) (AV.bool true) (.br (e != 0||false||(↑E.2:Int) != (↑M:Int)) (.out (AV.bool false) [] (AV.bool true) []) (.sc (true) 24 ([AV.isl 11 m fun (i j:Nat)=>Zi (R i j),AV.agg (Chn.cells E)]) (AV.tup [Zi A,Zi 0]) (.req (((A==A)==true)=true→(0:Int)≤IntKind.wrap IntKind.i64 ((↑E.2:Int) - 1)∧IntKind.wrap IntKind.i64 ((↑E.2:Int) - 1)<(↑E.2:Int)) (.out (AV.bool (A==A&&((Chn.l E y0).13 0==x.1 0&&((Chn.l E y0).13 1==x.1 1&&((Chn.l E y0).13 2==x.1 2&&((Chn.l E y0).13 3==x.1 3&&((Chn.l E y0).13 4==x.1 4&&((Chn.l E y0).13 5==x.1 5&&((Chn.l E y0).13 6==x.1 6&&((Chn.l E y0).13 7==x.1 7&&((Chn.l E y0).13 8==x.1 8&&((Chn.l E y0).13 9==x.1 9&&((Chn.l E y0).13 10==x.1 10&&((Chn.l E y0).13 11==x.1 11&&((Chn.l E y0).13 12==x.1 12&&((Chn.l E y0).13 13==x.1 13&&((Chn.l E y0).13 14==x.1 14&&((Chn.l E y0).13 15==x.1 15&&((Chn.l E y0).13 16==x.1 16&&((Chn.l E y0).13 17==x.1 17&&((Chn.l E y0).13 18==x.1 18&&((Chn.l E y0).13 19==x.1 19&&((Chn.l E y0).13 20==x.1 20&&((Chn.l E y0).13 21==x.1 21&&((Chn.l E y0).13 22==x.1 22&&((Chn.l E y0).13 23==x.1 23&&((Chn.l E y0).13 24==x.1 24&&((Chn.l E y0).13 25==x.1 25&&((Chn.l E y0).13 26==x.1 26&&((Chn.l E y0).13 27==x.1 27&&((Chn.l E y0).13 28==x.1 28&&((Chn.l E y0).13 29==x.1 29&&((Chn.l E y0).13 30==x.1 30&&((Chn.l E y0).13 31==x.1 31&&true)))))))))))))))))))))))))))))))&&((Chn.l E y0).14==x.2&&((Chn.l E y0).15==x.3&&true))))) [] (AV.bool true) [])))))))))))))))))))))))
  (by kernel_rfl) ?_
 refine k_sc (awake35_c) ?_
 refine k_scg (fun h1=>c0) ?_
 refine k_scg (fun h2=>c1 (by simp at h2;omega)) ?_
 refine k_scg (fun h3=>(rnode_c (Coin.depth c) l i)) ?_
 refine k_scg (fun h4=>(rctx_c x)) ?_
 refine k_br (fun h5=>?_) (fun h5=>?_)
 ·have g5:=(cnd_or_t (cnd_or_t (cnd_or_t (cnd_or_t (cnd_or_t cnd_dec_t cnd_dec_t) (cnd_not_t cnd_id_f)) (cnd_not_t cnd_id_f)) (cnd_not_t cnd_id_f)) (cnd_not_t cnd_id_f)) h5
  refine k_sc (awake35_c) ?_
  exact k_out (Ent.of_eq rfl)
 ·have g5:=(cnd_or_f (cnd_or_f (cnd_or_f (cnd_or_f (cnd_or_f cnd_dec_f cnd_dec_f) (cnd_not_f cnd_id_t)) (cnd_not_f cnd_id_t)) (cnd_not_f cnd_id_t)) (cnd_not_f cnd_id_t)) h5
  refine k_req (by omega) ?_
  refine k_dc (c3 ((by exact ⟨g5.1.1.2,g5.1.2,by have:=g5.1.1.1.1;omega⟩)) (IntKind.wrap IntKind.i64 t) ((by exact wI (by omega) (by omega)))) ?_
  refine k_scg (fun h10=>c4 ((by exact ⟨g5.1.1.2,g5.1.2,by have:=g5.1.1.1.1;omega⟩)) (0) ((by (have:=g5.1.1.1.1;omega)))) ?_
  refine k_br (fun h11=>?_) (fun h11=>?_)
  ·exact k_out (Ent.of_eq (by simp_all))
  ·refine k_sc (c5 ((by exact ⟨g5.1.1.2,g5.1.2,by have:=g5.1.1.1.1;omega⟩))) ?_
   refine k_ff ?_
   refine k_dc (c6 ((by exact ⟨g5.1.1.2,g5.1.2,by have:=g5.1.1.1.1;omega⟩)) (IntKind.wrap IntKind.i64 t) ((by exact wI (by omega) (by omega)))) ?_
   refine k_ff ?_
   refine k_req (by (rw [wI (by omega) (by omega)];have:=g5.1.1.1.1;omega)) ?_
   refine k_dc (c7 ((by exact ⟨g5.1.1.2,g5.1.2,by have:=g5.1.1.1.1;omega⟩)) ((by exact g5.2)) (Int.toNat (IntKind.wrap IntKind.i64 ((↑M:Int) - (1:Int)))) ((by (rw [wI (by omega) (by omega)];omega)))) ?_
   refine k_br (fun h19=>?_) (fun h19=>?_)
   ·have g19:=cnd_dec_t h19
    refine k_scg (fun h20=>c8 ((by rw [wmx ht ⟨by omega,by omega⟩] at g19;exact (u1 ⟨g5.1.1.2,g5.1.2,by omega⟩ g5.2 g19).2))) ?_
    exact k_out (Ent.of_eq (by rw [wmx ht ⟨by omega,by omega⟩] at g19;rw [(u1 ⟨g5.1.1.2,g5.1.2,by omega⟩ g5.2 g19).1];rfl))
   ·have g19:=cnd_dec_f h19
    refine k_scg (fun h22=>c9 ((by exact ⟨g5.1.1.2,g5.1.2,by have:=g5.1.1.1.1;omega⟩)) ((by exact g5.2)) ((by (rw [wmx ht ⟨by omega,by omega⟩] at g19;exact (u2 ⟨g5.1.1.2,g5.1.2,by omega⟩ g5.2 g19).1)))) ?_
    refine k_br (fun h23=>?_) (fun h23=>?_)
    ·have g23:=(cnd_or_t (cnd_or_t cnd_bne_t cnd_id_t) cnd_bne_t) h23
     exact k_out ((by exfalso;rw [wmx ht ⟨by omega,by omega⟩] at g19;have k:=u2 ⟨g5.1.1.2,g5.1.2,by omega⟩ g5.2 g19;rcases g23 with (g|g)|g;(· exact g k.1);(· cases g);(· exact g (by rw [k.2.1]))))
    ·have g23:=(cnd_or_f (cnd_or_f cnd_bne_f cnd_id_f) cnd_bne_f) h23
     refine k_sc (c10 ((by exact ⟨g5.1.1.2,g5.1.2,by have:=g5.1.1.1.1;omega⟩)) ((by exact g5.2)) ((by (rw [wmx ht ⟨by omega,by omega⟩] at g19;exact (u2 ⟨g5.1.1.2,g5.1.2,by omega⟩ g5.2 g19).1)))) ?_
     refine k_req ((fun _=>by rw [wmx ht ⟨by omega,by omega⟩] at g19;have k:=u2 ⟨g5.1.1.2,g5.1.2,by omega⟩ g5.2 g19;rw [k.2.1,wI (by omega) (by omega)];have:=g5.1.1.1.1;omega)) ?_
     exact k_out (Ent.of_eq (by rw [wmx ht ⟨by omega,by omega⟩] at g19;obtain ⟨k1,k2,k3⟩:=u2 ⟨g5.1.1.2,g5.1.2,by omega⟩ g5.2 g19;rw [k2,wI (by omega) (by omega),show ((M:Int) - 1).toNat=M - 1 by omega,← k3];simp [Spend.cxt]))
theorem tmH_e {t:Int} {M:Nat} (h:1≤M):tmH t (M - 1)=t+max 0 ((M:Int) - 2):=by
 match M,h with
 | 1,_=>show t=t+max 0 (((1:Nat):Int) - 2);omega
 | M+2,_=>show t+(M:Int)=t+max 0 (((M+2:Nat):Int) - 2);omega
theorem late_h (b:Bas) (R:Nat→Nat→Int) (m:Nat) (h:Chn) (o:Hol) (i:Nat) (t0:Int) (x:Cxt) (hw:b.gr.W) (H:ChI b R m h o.coin i t0) (O:HolOk b R m o) (hi:i<8) (ht:x.time<t0) (hx:ctxB x.time x.number=true) (bx:byB x.payee 32) :
  Pure Tryz.prog gl0 15 [b.av,h.av,o.coin.av,secA o.u o.s o.X o.n,x.av] (.tup [(stH .zero).av,.int .i64 15]):=by
 have hn:=H.n
 subst hn
 have sz:∀ j,j<h.n+1→(chnS h j).nl≤1000∧(chnS h j).np≤1000:=fun j hj=>⟨by have:=(H.sm j hj).nl;omega,by have:=(H.sm j hj).np;omega⟩
 have n1:o.n≤1000:=by rw [O.n1];decide
 have c:=append1_w b h o.coin o.u o.s o.X o.n x (ctxB x.time x.number) (secB b o.u o.s o.X o.n) (passB (chnS h) h.n o.coin) _ _ (by omega) sz (vsecret_c b o.u o.s o.X o.n hw n1) (passes_c (chnS h) h.n o.coin (by omega) (fun j hj=>H.sm j (by omega)) O.root)
  (smake_c b o.coin o.u o.s o.X o.n 0 0 0 x hw n1 (fun _=>⟨by omega,O.n1⟩) O.root bx)
 rw [apE_5 O.sec ⟨hx,O.depth⟩ hi H.p (by rw [H.t];omega)] at c
 exact finish_w b h o.coin o.u o.s o.X o.n x _ _ c
theorem chainHonest_c (b:Bas) (R:Nat→Nat→Int) (m:Nat) (c:Coin) (u s:Int) (X:Nat→Nat→Int) (n:Nat) (l i:Int) (hd:Nat→Hol) (M:Nat) (t:Int) (x:Cxt) (hw:b.gr.W) (hM:M<9223372036854775808) (ht:0≤t∧t<4294967296)
  (hr:byB c.root 32) (hh:∀ i,i<M→byB (hd i).coin.root 32) (bx:byB x.payee 32) :
  Pure Tryz.prog gl0 6 [b.av,rcl m R,c.av,secA u s X n,.agg [.int .i64 l,.int .i64 i],.isl 44 M fun i j=>atL (hd i).cells j,.int .u32 t,x.av] (.bool true):=by
 have c0:=r11valid_c b hw
 have c1:=fun h:M≤8=>holders_c b R m c u s X n hd M hw (by omega) hr hh
 by_cases hB:holB b R m c u s X n hd M=true∧nodeB c.depth l i=true∧(1≤M∧M≤8)
 ·obtain ⟨h1,h2,h3⟩:=hB
  obtain ⟨hn,hm,hf,hl⟩:=holB_all h1
  obtain ⟨d,rfl,F⟩:=fst_ok hf hr
  have O:∀ i,i<M→HolOk b R m (hd i):=fun i hi=>hld_ok (hl i hi) (hh i hi)
  have x0:ctxB t 0=true:=by unfold ctxB;rw [decide_eq_true (by omega:t≥0),decide_eq_true (by omega:t≤1099511627776)];rfl
  have H0:=hon_first (k:=(hd 0).coin) F h2 x0
  have H:=hch_i (hd:=hd) H0 O h3.2 ⟨by omega,by omega⟩
  generalize hC:hch b hd t (stH (mkS b c u s X d l i ⟨nameF (hd 0).coin fun _=>0,t,0⟩))=C at H
  have C0:C 0=stH (mkS b c u s X d l i ⟨nameF (hd 0).coin fun _=>0,t,0⟩):=by rw [← hC];rfl
  have Cf:∀ j,(C j).first=mkS b c u s X d l i ⟨nameF (hd 0).coin fun _=>0,t,0⟩:=fun j=>by rw [← hC,hch_first];rfl
  have am:∀ h:Chn,h.first=mkS b c u s X d l i ⟨nameF (hd 0).coin fun _=>0,t,0⟩→Pure Tryz.prog gl0 24 [rcl m R,h.av] (.tup [.int .i64 (caV R m (C 0).first),.int .i64 0]):=fun h e=>by
   have a:=camount_c R m h (by omega)
   rw [ca_ok (s:=h.first) (c:=c) (by rw [e];rfl) F.found F.cv (by rw [e];exact h2),e,← Cf 0] at a
   exact a
  have L:=H (M - 1) (by omega)
  have Lo:=O (M - 1) (by omega)
  have ver:∀ j,j<M→Pure Tryz.prog gl0 9 [b.av,rcl m R,(C j).av] (.bool true):=fun j hj =>
   cver_h b R m (C j) hw (by omega) (by rw [(H j hj).n];omega) (H j hj).v (fun q hq=>(H j hj).sm q (by rw [(H j hj).n] at hq;exact hq))
  have c3:∀ z,z=t→Pure Tryz.prog gl0 23 [b.av,c.av,secA u s X (2^d),.agg [.int .i64 l,.int .i64 i],(hd 0).coin.av,.int .i64 z] (.tup [(C 0).av,.int .i64 0]):=fun z hz=>by
   subst hz;rw [C0];exact cstart_h b R m c (hd 0).coin u s X d l i z hw F h2 x0 (hh 0 (by omega))
  have c6:∀ z,z=t→Pure Tryz.prog gl0 25 [b.av,rcl m R,(C 0).av,.isl 44 M fun i j=>atL (hd i).cells j,.int .i64 0,.int .i64 z] (.tup [(C (M - 1)).av,.bool true]):=fun z hz=>by
   subst hz
   refine pass_h b R m hd z M C h3 (fun i hi=>(H i hi).n) (fun i j k y hj hk hi hy=>?_) ver ⟨by omega,by omega⟩
   subst hj;subst hk;subst hy
   have a:=cpass_h b R m (C j) (hd j) j (tmH z j) (hd (j+1)).coin (z+j) hw (H j (by omega)) (O j (by omega)) (by omega) (tmH_le j) ⟨by omega,by omega⟩ (hh _ hi)
   have e:C (j+1)=apH (C j) (hsp b (hd j) ⟨nameF (hd (j+1)).coin (chnD (C j)),z+j,(j:Int)+1⟩) 0:=by rw [← hC];rfl
   rw [e];exact a
  by_cases hx:ctxB x.time x.number=true
  ·by_cases ht2:x.time<t+max 0 ((M:Int) - 2)
   ·refine honest_w b R m c u s X (2^d) l i hd M t x _ _ C (caV R m (C 0).first) (stH .zero) 15 hM (H 0 (by omega)).n ht c0 c1 (fun _=>c3) (fun _=>ver) (fun _=>am _ (Cf 0)) (fun _=>c6) (fun _ _ j hj=>?_) (fun _=>none_h) (fun _ _ e=>by cases e) (fun _ _ e=>by cases e) (fun _ _ _=>⟨rfl,rfl⟩) (fun _ _ e=>absurd ht2 e)
    subst hj
    exact late_h b R m (C (M - 1)) (hd (M - 1)) (M - 1) _ x hw L Lo (by omega) (by rw [tmH_e h3.1];exact ht2) hx bx
   ·have v:=hon_v L Lo (by omega) hx (by rw [tmH_e h3.1];omega)
    have hn:=L.n
    refine honest_w b R m c u s X (2^d) l i hd M t x _ _ C (caV R m (C 0).first) (apH (C (M - 1)) (hsp b (hd (M - 1)) x) 0) 0 hM (H 0 (by omega)).n ht c0 c1 (fun _=>c3) (fun _=>ver) (fun _=>am _ (Cf 0)) (fun _=>c6) (fun _ _ j hj=>?_) (fun e=>?_)
     (fun _ _ _=>cver_h b R m _ hw (by omega) (by rw [apH_n];omega) v (fun j hj=>?_)) (fun _ _ _=>am _ (Cf _)) (fun _ _ e=>absurd e ht2) (fun _ _ _=>⟨rfl,by rw [apH_n];omega,?_⟩)
    ·subst hj
     exact cfin_h b R m (C (M - 1)) (hd (M - 1)) (M - 1) _ x hw L Lo (by omega) (by rw [tmH_e h3.1];omega) hx bx
    ·have:=congrArg Chn.n e
     rw [apH_n] at this
     exact absurd this (Nat.succ_ne_zero _)
    ·rw [apH_n] at hj
     by_cases hc:j<(C (M - 1)).n+1
     ·rw [chnS_old hc];exact L.sm j (by omega)
     ·obtain rfl:j=(C (M - 1)).n+1:=by omega
      rw [chnS_new];exact hsp_sm Lo.root bx
    ·show (if M - 1<(C (M - 1)).n then (C (M - 1)).l (M - 1) else hsp b (hd (M - 1)) x).cxt=x
     rw [if_neg (by omega)];rfl
  ·exact honest_w b R m c u s X (2^d) l i hd M t x _ _ C (caV R m (C 0).first) (stH .zero) 0 hM (H 0 (by omega)).n ht c0 c1 (fun _=>c3) (fun _=>ver) (fun _=>am _ (Cf 0)) (fun _=>c6) (fun _ e=>absurd e hx) (fun _=>none_h) (fun _ e=>absurd e hx) (fun _ e=>absurd e hx) (fun _ e=>absurd e hx) (fun _ e=>absurd e hx)
 ·exact honest_w b R m c u s X n l i hd M t x _ _ (fun _=>stH .zero) 0 (stH .zero) 0 hM rfl ht c0 c1 (fun e=>absurd e hB) (fun e=>absurd e hB) (fun e=>absurd e hB) (fun e=>absurd e hB) (fun e=>absurd e hB) (fun _=>none_h) (fun e=>absurd e hB) (fun e=>absurd e hB) (fun e=>absurd e hB) (fun e=>absurd e hB)
end Go.Proofs.YtolcfdcoidpieaaGreatDoor

namespace Go.Sp
open Go Go.Am

def u8s (n : Nat) : List CT := List.replicate n (.int .u8)

def i64s (n : Nat) : List CT := List.replicate n (.int .i64)
def coinT : List CT := i64s 5 ++ u8s 32 ++ i64s 4
def ctxT : List CT := u8s 32 ++ i64s 2
def basOf (g : Nat → AV) : Bas := ⟨⟨intOfAV (g 0), intOfAV (g 1), intOfAV (g 2)⟩, intOfAV (g 3), intOfAV (g 4), intOfAV (g 5)⟩
def coinOf (g : Nat → AV) : Coin := ⟨intOfAV (g 0), intOfAV (g 1), intOfAV (g 2), intOfAV (g 3), intOfAV (g 4), fun j => intOfAV (g (5 + j)), intOfAV (g 37), intOfAV (g 38), intOfAV (g 39), intOfAV (g 40)⟩
def cxtOf (g : Nat → AV) : Cxt := ⟨fun j => intOfAV (g j), intOfAV (g 32), intOfAV (g 33)⟩
theorem cell_i64 {a : AV} (h : CellOk (.int .i64) a) : -9223372036854775808 ≤ intOfAV a ∧ intOfAV a ≤ 9223372036854775807 := by
  obtain ⟨h1, h2⟩ := (Lit.wf_int_iff _ _).1 h.int_inv
  exact ⟨Int.le_trans (by decide) h1, Int.le_trans h2 (by decide)⟩
theorem cell_u8 {a : AV} (h : CellOk (.int .u8) a) : 0 ≤ intOfAV a ∧ intOfAV a < 256 := by
  obtain ⟨h1, h2⟩ := (Lit.wf_int_iff _ _).1 h.int_inv
  exact ⟨Int.le_trans (by decide) h1, Int.lt_of_le_of_lt h2 (by decide)⟩
theorem u8_by {ts : List CT} {g : Nat → AV} {k n : Nat} (h : ∀ (j : Nat) c, ts[j]? = some c → CellOk c (g j)) (ht : ∀ j, j < n → ts[k + j]? = some (.int .u8)) : byB (fun j => intOfAV (g (k + j))) n := fun i hi => cell_u8 (h (k + i) _ (ht i hi))
theorem coinT_u8 : ∀ j, j < 32 → coinT[5 + j]? = some (.int .u8) := fun j hj => by
  show ((i64s 5 ++ u8s 32) ++ i64s 4)[5 + j]? = _
  rw [List.getElem?_append_left (by simp only [i64s, u8s, List.length_append, List.length_replicate]; omega), List.getElem?_append_right (by simp only [i64s, List.length_replicate]; omega)]
  unfold u8s
  rw [List.getElem?_replicate, if_pos (by simp only [i64s, List.length_replicate]; omega)]
theorem ctxT_u8 : ∀ j, j < 32 → ctxT[j]? = some (.int .u8) := fun j hj => by
  show (u8s 32 ++ i64s 2)[j]? = _
  rw [List.getElem?_append_left (by simp only [u8s, List.length_replicate]; omega)]
  unfold u8s
  rw [List.getElem?_replicate, if_pos hj]
theorem coin_by {g : Nat → AV} (h : ∀ (j : Nat) c, coinT[j]? = some c → CellOk c (g j)) : byB (coinOf g).root 32 := u8_by (k := 5) h coinT_u8
theorem cxt_by {g : Nat → AV} (h : ∀ (j : Nat) c, ctxT[j]? = some c → CellOk c (g j)) : byB (cxtOf g).payee 32 := fun i hi => cell_u8 (h i _ (ctxT_u8 i hi))
theorem basOf_w {g : Nat → AV} (h : ∀ (j : Nat) c, (i64s 6)[j]? = some c → CellOk c (g j)) : (basOf g).gr.W :=
  ⟨(cell_i64 (h 0 _ rfl)).2, (cell_i64 (h 1 _ rfl)).2⟩
def holdT : List CT := coinT ++ [.int .i64, .int .i64, .sl (i64s 2)]
def holOf (g : Nat → AV) : Hol := ⟨coinOf g, intOfAV (g 41), intOfAV (g 42), fun i j => intOfAV (islF (g 43) i j), islN (g 43)⟩
theorem hold_by {a : AV} (h : CellOk (.sl holdT) a) : ∀ i, i < islN a → byB (holOf (islF a i)).coin.root 32 := fun i hi =>
  coin_by fun j c hj => h.sl_inv.2 i j c hi (by
    show (coinT ++ [.int .i64, .int .i64, .sl (i64s 2)])[j]? = _
    rw [List.getElem?_append_left (List.getElem?_eq_some_iff.1 hj).1]
    exact hj)
theorem hold_len {a : AV} (h : CellOk (.sl holdT) a) : islN a < 9223372036854775808 := Nat.lt_of_le_of_lt h.sl_inv.1 (by decide)
theorem cell_u32 {a : AV} (h : CellOk (.int .u32) a) : 0 ≤ intOfAV a ∧ intOfAV a < 4294967296 := by
  obtain ⟨h1, h2⟩ := (Lit.wf_int_iff _ _).1 h.int_inv
  exact ⟨Int.le_trans (by decide) h1, Int.lt_of_le_of_lt h2 (by decide)⟩
end Go.Sp

namespace Go.Am
open Go

theorem laid_at {P : Program} {w : World} : ∀ {laid : List (String × DataW Unit)} {ps : List MemPlace}, DataW.LaidVars P w laid ps → ∀ {i : Nat} {n : String} {d : DataW Unit}, laid[i]? = some (n, d) →
    ∃ g t cs fuel p, P.globalNamed n = some g ∧ (P.globals[g]?).map (·.type) = some t ∧ w.var? P n = some cs ∧ DataW.trod (fun _ => ()) P w 0 (fun _ => true) false fuel t cs.toList = some (d, p)
  | [], _, _, i, n, d, h => by simp at h
  | (n', d') :: r, ps, ⟨g, t, cs, fuel, p, q, h1, h2, h3, h4, _, _⟩, 0, n, d, h => by
    simp only [List.getElem?_cons_zero, Option.some.injEq, Prod.mk.injEq] at h
    obtain ⟨rfl, rfl⟩ := h
    exact ⟨g, t, cs, fuel, p, h1, h2, h3, h4⟩
  | (n', d') :: r, ps, ⟨g, t, cs, fuel, p, q, h1, h2, h3, h4, h5, _⟩, i + 1, n, d, h => laid_at h5 (by simpa using h)

def arrOk (P : Program) (g n : Nat) (k : IntKind) : Bool :=
  match (P.globals[g]?).map (·.type) with
  | some t =>
    match P.underlying t with
    | some (.array m e) =>
      match P.underlying e with
      | some (.int k') => Nat.beq m n && Nat.beq (P.cellsOf e) 1 && (decide (k' = k) && Nat.beq (P.cellsOf t) n)
      | _ => false
    | _ => false
  | none => false
theorem arrOk_inv {P : Program} {g n : Nat} {k : IntKind} (h : arrOk P g n k = true) : ∃ t e, (P.globals[g]?).map (·.type) = some t ∧ P.underlying t = some (.array n e) ∧ P.underlying e = some (.int k) ∧ P.cellsOf e = 1 ∧ P.cellsOf t = n := by
  unfold arrOk at h
  split at h
  · rename_i t ht
    split at h
    · rename_i m e hu
      split at h
      · rename_i k' he
        simp only [Bool.and_eq_true, decide_eq_true_eq, Nat.beq_eq] at h
        obtain ⟨⟨rfl, h2⟩, rfl, h3⟩ := h
        exact ⟨t, e, ht, hu, he, h2, h3⟩
      · cases h
    · cases h
  · cases h

theorem glob_ints {P : Program} {w : World} {β : Book} {laid : List (String × DataW Unit)} (h : laidMetH P laid w) (hp : (laid.all fun x => x.2.handleName?.isNone) = true) (i : Nat) (name : String) {g n : Nat}
    {k : IntKind} {F : Nat → Int} (hl : laid[i]? = some (name, .agg ((List.range n).map fun j => .lit (.int k (F j))))) (hg : P.globalNamed name = some g) (ho : arrOk P g n k = true) (hn : 0 < n) (hb : β.free g) : GlobAt β w g n fun j => .int k (F j) := by
  obtain ⟨t, e, ht, hu, he, hc, hct⟩ := arrOk_inv ho
  rw [MakeChecks.laidMetH_plain _ _ _ hp] at h
  obtain ⟨ps, hv, _, _⟩ := h
  obtain ⟨g', t', cs, fuel, p, h1, h2, h3, h4⟩ := laid_at hv hl
  obtain rfl := Option.some.inj (hg.symm.trans h1)
  obtain rfl := Option.some.inj (ht.symm.trans h2)
  obtain ⟨xs, m, rfl, hx, hlen, hxl, hel⟩ := DataW.trod_array hu h4
  simp only [Prod.mk.injEq, DataW.agg.injEq] at hx
  obtain ⟨hx, _⟩ := hx
  have cell : ∀ j, j < n → cs[j]? = some (.int k (F j)) := fun j hj => by
    have hj' := hel j hj
    rw [hc, Nat.mul_one, List.getElem?_eq_getElem (by omega : j < xs.length)] at hj'
    obtain ⟨v, e1, e2, _⟩ := DataW.trod_int he hj'
    have e3 : (xs.map (·.1))[j]? = some (.lit (.int k v)) := by rw [List.getElem?_map, List.getElem?_eq_getElem (by omega : j < xs.length), e2]; rfl
    rw [← hx] at e3
    simp only [List.getElem?_map, List.getElem?_range hj, Option.map_some, Option.some.injEq, DataW.lit.injEq, Lit.int.injEq, true_and] at e3
    subst e3
    have e4 : (List.take 1 (List.drop j cs.toList))[0]? = some (.int k (F j)) := by rw [e1]; rfl
    rw [List.getElem?_take_of_lt (by decide), List.getElem?_drop, Nat.add_zero] at e4
    simpa using e4
  have hsh : ∃ el, w.shape? g = some (el, n) := by
    unfold World.var? at h3
    rw [hg] at h3
    have hsz : cs.size = n := hlen.trans hct
    unfold World.shape?
    simp only [Option.bind_some] at h3
    split at h3
    · rename_i cs' el z hb'
      cases h3
      exact ⟨el, by rw [hb', ← hsz]⟩
    · cases h3
  refine ⟨?_, hsh⟩
  refine .ipt (fun j => .int k (F j)) hn hb (fun j hj => ?_) (fun _ _ => rfl) (fun _ _ => .int) (fun _ _ => .int)
  rw [World.var?_cell hg h3]
  simpa using cell j hj
end Go.Am
