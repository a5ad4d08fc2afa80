/- Part of the proof: Exp2, HE8, Rec, HV5, HV6, Crt, HV7, HV8, Cval, HV9, HV10, HV11, Prd, HV12, Vfy, Sec, EnSet, EnSet2, HN1, HN2, HV13, HN3, Mul. -/
import Derived.Test.YtolcfdcoidpieaaGreatDoorM5
import Derived.Test.YtolcfdcoidpieaaGreatDoorM3
import Derived.Test.YtolcfdcoidpieaaGreatDoorProg
import Derived.Test.YtolcfdcoidpieaaGreatDoorM4
namespace Go.Sp
open Go Go.Am
theorem elem_iff {G : Grp} (h : G.Ok) {x : Int} : elemB G x = true ↔ 1 ≤ x ∧ x < G.p ∧ x ^ G.q.toNat % G.p = 1 := by
  rw [← mem_eq h]
  simp [and_assoc]
theorem pow_ne {a p : Int} {q : Nat} (hq : 0 < q) (h : a ^ q % p = 1) : a % p ≠ 0 := fun e => by
  have h2 : (a % p) ^ q % p = 1 := by rw [pow_mod]; exact h
  rw [e, Int.zero_pow (by omega)] at h2
  simp at h2
theorem elem_of {G : Grp} (h : G.Ok) {x : Int} (hx : x ^ G.q.toNat % G.p = 1) : elemB G (x % G.p) = true := by
  have h3 := h.p3; have h4 := h.q3
  have h1 := Int.emod_nonneg x (show G.p ≠ 0 by omega)
  have h2 := Int.emod_lt_of_pos x (show 0 < G.p by omega)
  have h5 := pow_ne (by omega) hx
  refine (elem_iff h).2 ⟨by omega, h2, ?_⟩
  rw [pow_mod]
  exact hx
theorem elem_pow {G : Grp} (h : G.Ok) {a : Int} (ha : elemB G a = true) (k : Nat) : elemB G (a ^ k % G.p) = true := by
  refine elem_of h ?_
  have h3 := h.p3
  rw [← Int.pow_mul, Nat.mul_comm, Int.pow_mul, ← pow_mod, ((elem_iff h).1 ha).2.2, Int.one_pow, Int.emod_eq_of_lt (by decide) (by omega)]
theorem elem_mul {G : Grp} (h : G.Ok) {a b : Int} (ha : elemB G a = true) (hb : elemB G b = true) : elemB G (a * b % G.p) = true := by
  refine elem_of h ?_
  have h3 := h.p3
  rw [Int.mul_pow, Int.mul_emod, ((elem_iff h).1 ha).2.2, ((elem_iff h).1 hb).2.2]
  exact Int.emod_eq_of_lt (by decide) (by omega)
theorem elem_bnd {G : Grp} (h : G.Ok) {a : Int} (ha : elemB G a = true) : 1 ≤ a ∧ a < G.p := ⟨((elem_iff h).1 ha).1, ((elem_iff h).1 ha).2.1⟩
theorem red_q {q x : Int} (h : 0 ≤ x ∧ x < q) : x % q = x := Int.emod_eq_of_lt h.1 h.2
theorem chS_q {b : Bas} {s : Spend} (h : 0 < b.gr.q) : 0 ≤ chS b s ∧ chS b s < b.gr.q := num_by h 16
end Go.Sp

namespace Go.Proofs.YtolcfdcoidpieaaGreatDoor
open Go Go.Am Go.Sp
set_option maxRecDepth 100000
theorem gcheck_c (G:Grp) (l:List Int) (h:G.Ok) (hw:G.W) (hl:∀ i,i<l.length→elemB G (l.getD i 0)=true) (hn:l.length<1000):Pure Tryz.prog gl0 217 [G.av,il .i64 l] (.int .i64 0):=by
 have c1:=gvalid_c G hw
 rw [validG_iff.2 h] at c1
 have c2:=fun x=>element_c G x hw
 refine pure_sk (own:=ow0) Tryz.func217 (by kernel_rfl) mixed (by kernel_rfl)
  (let y0:List (Option Ob):=[some ⟨3,1,true,Rep.lst [[Zi (Grp.p G),Zi (Grp.q G),Zi (Grp.g G)]]⟩];(.sc (true) 67 ([AV.agg [Zi G.1,Zi G.2,Zi G.3]]) (AV.bool true) (.ff (.loop ({ x:Nat // x≤List.length l }) (fun (x:{ x:Nat // x≤List.length l })=>mkSt [2,10,11,12] [AV.own 0 3 0 0 3,AV.isl 1 (List.length l) fun (i x:Nat)=>Zi (List.getD l i (0:Int)),Zi (↑(List.length l):Int),Zi (↑(x.1):Int)] y0) (fun (x:{ x:Nat // x≤List.length l })=>List.length l - x.1) (⟨0,Nat.zero_le (List.length l)⟩) ([2,10,11,12]) ([0]) ([AV.own 0 3 0 0 3,AV.isl 1 (List.length l) fun (i x:Nat)=>Zi (List.getD l i (0:Int)),Zi (↑(List.length l):Int),Zi 0]) (y0) (fun x2=>(.br (decide ((↑x2.1:Int)<(↑(List.length l):Int))) (.req ((0:Int)≤(↑x2.1:Int)∧(↑x2.1:Int)<(↑(List.length l):Int)) (.sc (true) 135 ([AV.agg [Zi G.1,Zi G.2,Zi G.3],Zi (List.getD l (Int.toNat (↑x2.1:Int)) (0:Int))]) (AV.bool (elemB G (List.getD l (Int.toNat (↑x2.1:Int)) (0:Int)))) (.br (!elemB G (List.getD l (Int.toNat (↑x2.1:Int)) (0:Int))) (.out (Zi 2) [] (Zi 0) []) (.again (Again 0 (fun (x:{ x:Nat // x≤List.length l })=>mkSt [2,10,11,12] [AV.own 0 3 0 0 3,AV.isl 1 (List.length l) fun (i x:Nat)=>Zi (List.getD l i (0:Int)),Zi (↑(List.length l):Int),Zi (↑(x.1):Int)] y0) (fun (x:{ x:Nat // x≤List.length l })=>List.length l - x.1) x2) ([2,10,11,12]) ([0]) ([AV.own 0 3 0 0 3,AV.isl 1 (List.length l) fun (i x:Nat)=>Zi (List.getD l i (0:Int)),Zi (↑(List.length l):Int),Zi (IntKind.wrap IntKind.i64 ((↑x2.1:Int)+1))]) (y0))))) (.out (Zi 0) [] (Zi 0) [])))))))
  (by kernel_rfl) ?_
 refine k_sc (c1) ?_
 refine k_ff ?_
 refine k_loop (fun _ hs=>hs.le (⟨.refl _,.refl _,.refl _,.refl _,trivial⟩) (⟨.refl _,trivial⟩)) (fun x2=>?_)
 try (have q2:=x2.2;dsimp only at q2)
 refine k_br (fun h3=>?_) (fun h3=>?_)
 ·have g3:=cnd_dec_t h3
  refine k_req (by omega) ?_
  refine k_sc (c2 (List.getD l (Int.toNat (↑x2.1:Int)) (0:Int))) ?_
  refine k_br (fun h6=>?_) (fun h6=>?_)
  ·have g6:=(cnd_not_t cnd_id_f) h6
   try simp only [Int.toNat_natCast] at g6
   exact k_out ((by exfalso;rw [hl x2.1 (by omega)] at g6;cases g6))
  ·have g6:=(cnd_not_f cnd_id_t) h6
   try simp only [Int.toNat_natCast] at g6
   exact k_again (⟨x2.1+1,by omega⟩) (fun _ hs=>hs.le (⟨.refl _,.refl _,.refl _,inc_ent (by omega),trivial⟩) (⟨.refl _,trivial⟩)) (by dsimp only;omega)
 ·have g3:=cnd_dec_f h3
  exact k_out (Ent.of_eq rfl)
theorem gcheck1 (G:Grp) (a:Int) (h:G.Ok) (hw:G.W) (ha:elemB G a=true):Pure Tryz.prog gl0 217 [G.av,.isl 1 1 fun r k=>atL (List.getD [[.int .i64 a]] r []) k] (.int .i64 0) :=
 (gcheck_c G [a] h hw (fun i hi=>by obtain rfl:i=0:=Nat.lt_one_iff.1 hi;exact ha) (by simp)).via ⟨Ent.refl _,il_rows rfl rfl,trivial⟩
theorem gcheck2 (G:Grp) (a c:Int) (h:G.Ok) (hw:G.W) (ha:elemB G a=true) (hc:elemB G c=true):Pure Tryz.prog gl0 217 [G.av,.isl 1 2 fun r k=>atL (List.getD [[.int .i64 a],[.int .i64 c]] r []) k] (.int .i64 0) :=
 (gcheck_c G [a,c] h hw (fun i hi=>match i,hi with
  | 0,_=>ha
  | 1,_=>hc) (by simp)).via ⟨Ent.refl _,il_rows rfl rfl,trivial⟩
theorem gmul_c (G:Grp) (a c:Int) (h:G.Ok) (hw:G.W) (ha:elemB G a=true) (hc:elemB G c=true):Pure Tryz.prog gl0 147 [G.av,.int .i64 a,.int .i64 c] (.tup [.int .i64 (a*c%G.p),.int .i64 0]):=by
 have c1:=gcheck2 G a c h hw ha hc
 have x:=elem_bnd h ha
 have y:=elem_bnd h hc
 have k1:=h.p1
 have k2:=chk_ok (a:=a) (b:=c) (m:=G.p) (by omega) (by omega) (by omega) (by omega) (by omega) (by omega)
 refine pure_sk (own:=ow0) Tryz.func147 (by kernel_rfl) mixed (by kernel_rfl)
  (let y0:AV:=(AV.tup [Zi (okv (chkI a c G.1) (a*c%G.1)),Zi (chkI a c G.1)]);(.sc (true) 217 ([AV.agg [Zi G.1,Zi G.2,Zi G.3],AV.isl 1 2 fun (r k:Nat)=>atL (List.getD [[Zi a],[Zi c]] (r+0) []) k]) (Zi 0) (.ff (.sc (true) 219 ([Zi a,Zi c,Zi G.1]) y0 (.out y0 [] (AV.tup [Zi (a*c%Grp.p G),Zi 0]) [])))))
  (by kernel_rfl) ?_
 refine k_sc (c1) ?_
 refine k_ff ?_
 refine k_sc (wmul_c (a) (c) (G.1)) ?_
 exact k_out (Ent.of_eq (by rw [k2];rfl))
theorem gpow_c (G:Grp) (a e:Int) (h:G.Ok) (hw:G.W) (ha:elemB G a=true) (he:0≤e∧e<G.q):Pure Tryz.prog gl0 146 [G.av,.int .i64 a,.int .i64 e] (.tup [.int .i64 (a^e.toNat%G.p),.int .i64 0]):=by
 have c1:=gcheck1 G a h hw ha
 have x:=elem_bnd h ha
 have k1:=h.p1;have k2:=h.qp;have k3:=h.q3
 have k4:okv (chkI 0 0 G.q) (e%G.q)=e:=by
  rw [chk_ok (by omega) (by omega) (by omega) (by omega) (by omega) (by omega)]
  exact red_q he
 have k5:=powE_0 (chk_ok (a:=a) (b:=a) (m:=G.p) (by omega) (by omega) (by omega) (by omega) (by omega) (by omega)) (by omega:¬e<0)
 refine pure_sk (own:=ow0) Tryz.func146 (by kernel_rfl) mixed (by kernel_rfl)
  (let y0:AV:=(AV.tup [Zi (okv (powE a (okv (chkI (0:Int) (0:Int) G.2) (e%G.2)) G.1) (a^Int.toNat (okv (chkI (0:Int) (0:Int) G.2) (e%G.2))%G.1)),Zi (powE a (okv (chkI (0:Int) (0:Int) G.2) (e%G.2)) G.1)]);(.sc (true) 217 ([AV.agg [Zi G.1,Zi G.2,Zi G.3],AV.isl 1 1 fun (r k:Nat)=>atL (List.getD [[Zi a]] (r+0) []) k]) (Zi 0) (.ff (.sc (true) 218 ([Zi e,Zi G.2]) (AV.tup [Zi (okv (chkI (0:Int) (0:Int) G.2) (e%G.2)),Zi (chkI (0:Int) (0:Int) G.2)]) (.sc (true) 134 ([Zi a,Zi (okv (chkI (0:Int) (0:Int) G.2) (e%G.2)),Zi G.1]) y0 (.out y0 [] (AV.tup [Zi (a^Int.toNat e%Grp.p G),Zi 0]) []))))))
  (by kernel_rfl) ?_
 refine k_sc (c1) ?_
 refine k_ff ?_
 refine k_sc (wreduce_c (e) (G.2)) ?_
 refine k_sc (wpow_c (a) (okv (chkI (0:Int) (0:Int) G.2) (e%G.2)) (G.1) (by rw [k4];omega)) ?_
 exact k_out (Ent.of_eq (by rw [k4,k5];rfl))
end Go.Proofs.YtolcfdcoidpieaaGreatDoor

namespace Go.Sp
open Go Go.Am

structure Rcd where
  bank : Int
  epoch : Int
  denom : Int
  value : Int
  depth : Int
  h : Int
  h1 : Int
  h2 : Int
  fr : Int
  til : Int
  fin : Int
def Rcd.key (r : Rcd) : List AV := [.int .i64 r.h, .int .i64 r.h1, .int .i64 r.h2]
def Rcd.cells (r : Rcd) : List AV := [.int .i64 r.bank, .int .i64 r.epoch, .int .i64 r.denom, .int .i64 r.value, .int .i64 r.depth] ++ (r.key ++ [.int .i64 r.fr, .int .i64 r.til, .int .i64 r.fin])
def Rcd.av (r : Rcd) : AV := .agg r.cells

def msgB (G : Grp) (x : Int) : Bool := x != 1 && elemB G x
def keyB (b : Bas) (h h1 h2 : Int) : Bool := validB b && msgB b.gr h && msgB b.gr h1 && msgB b.gr h2
def oneB (v d : Int) : Bool := bif v == 0 then d == 0 else decide (v ≥ 1) && decide (v ≤ 1099511627776) && decide (d ≥ 0) && decide (d ≤ 5) && (Int.tmod v (IntKind.wrap .i64 (1 * 2 ^ min d.toNat 64)) == 0)
def rngB (x l u : Int) : Bool := decide (x ≥ l) && decide (x ≤ u)
def numR (bank epoch fr til fin : Int) : Bool := rngB bank 0 7 && rngB epoch 0 1000000 && decide (fr ≥ 0) && decide (fr < til) && decide (til ≤ fin) && decide (fin ≤ 1099511627776)
def rcvB (b : Bas) (r : Rcd) : Bool := keyB b r.h r.h1 r.h2 && numR r.bank r.epoch r.fr r.til r.fin && rngB r.denom 0 16 && oneB r.value r.depth
theorem ok1 {e v : Int} : (e == 0 && okv e v == 1) = (okv e v == 1) := by
  by_cases h : e = 0
  · subst h; rfl
  · rw [okvn h, show (e == 0) = false by simpa using h]; rfl
theorem sh_ne {d : Int} (h0 : 0 ≤ d) (h5 : d ≤ 5) : IntKind.wrap .i64 (1 * 2 ^ min d.toNat 64) ≠ 0 := by
  rw [shw (x := d.toNat) (by omega)]
  have : 1 ≤ 2 ^ d.toNat := pow_pos2
  omega
theorem u64_s {d : Int} (h0 : 0 ≤ d) (h5 : d ≤ 5) : IntKind.wrap .u64 d = d := by
  have : d = 0 ∨ d = 1 ∨ d = 2 ∨ d = 3 ∨ d = 4 ∨ d = 5 := by omega
  rcases this with rfl | rfl | rfl | rfl | rfl | rfl <;> decide
theorem one_1 {v d : Int} (h : v = 0) (h' : d = 0) : oneB v d = true := by subst h; subst h'; rfl
theorem one_0 {v d : Int} (h : v = 0) : oneB v d = (d == 0) := by subst h; rfl
theorem one_n {v d : Int} (h : ¬ v = 0) : oneB v d = (decide (v ≥ 1) && decide (v ≤ 1099511627776) && decide (d ≥ 0) && decide (d ≤ 5) && (Int.tmod v (IntKind.wrap .i64 (1 * 2 ^ min d.toNat 64)) == 0)) := by
  unfold oneB
  rw [show (v == 0) = false by simpa using h]; rfl
theorem one_2 {v d : Int} (h : ¬ (v = 0 ∧ d = 0)) : (decide (v ≥ 1) && decide (v ≤ 1099511627776) && decide (d ≥ 0) && decide (d ≤ 5) && (Int.tmod v (IntKind.wrap .i64 (1 * 2 ^ min d.toNat 64)) == 0)) = oneB v d := by
  by_cases hv : v = 0
  · rw [one_0 hv, show decide (v ≥ 1) = false by simp; omega]
    have : ¬ d = 0 := fun e => h ⟨hv, e⟩
    simp [this]
  · exact (one_n hv).symm
theorem one_3 {v d : Int} (h : ¬ v = 0) : (decide (v ≥ 1) && decide (v ≤ 1099511627776) && decide (d ≥ 0) && decide (d ≤ 5) && (Int.tmod v (IntKind.wrap .i64 (1 * 2 ^ min (Int.toNat (IntKind.wrap .u64 d)) 64)) == 0)) = oneB v d := by
  rw [one_n h]
  by_cases hd : 0 ≤ d ∧ d ≤ 5
  · rw [u64_s hd.1 hd.2]
  · have : (decide (d ≥ 0) && decide (d ≤ 5)) = false := by
      by_cases h0 : d ≥ 0
      · rw [decide_eq_false (show ¬ d ≤ 5 by omega), Bool.and_false]
      · rw [decide_eq_false h0]; rfl
    rw [Bool.and_assoc (decide (v ≥ 1) && decide (v ≤ 1099511627776)), this]
    simp
theorem rec_1 {n g k : Bool} {v d : Int} : (n && g && (v == 0 && d == 0 || oneB v d) && k) = (k && n && g && oneB v d) := by
  by_cases h : v = 0 ∧ d = 0
  · obtain ⟨rfl, rfl⟩ := h
    cases n <;> cases g <;> cases k <;> rfl
  · have : (v == 0 && d == 0) = false := by simpa using h
    rw [this]
    cases n <;> cases g <;> cases k <;> simp
def crtL (b : Bas) (a : Int) (i : Nat) : Int := [b.gr.p, b.gr.q, b.gr.g, b.g1, b.g2, b.h, a].getD i 0
def crtI (b : Bas) (a : Int) (root : Nat → Int) (z sa sb : Int) : It := lsI [.int b.gr.p, .int b.gr.q, .int b.gr.g, .int b.g1, .int b.g2, .int b.h, .int a, .byt 32 root, .int z, .int sa, .int sb]
def crtN (b : Bas) (a : Int) (root : Nat → Int) (z sa sb : Int) : Int := numF (tagI "specie/coin".toUTF8 (crtI b a root z sa sb)) b.gr.q 16
theorem crtL_ob {os : List (Option Ob)} {b : Bas} {a : Int} {mu : Bool} : ObEnt os ⟨1, 7, mu, .lst [[.int .i64 b.gr.p], [.int .i64 b.gr.q], [.int .i64 b.gr.g], [.int .i64 b.g1], [.int .i64 b.g2], [.int .i64 b.h], [.int .i64 a]]⟩ ⟨1, 7, mu, .fn fun i _ => .int .i64 (crtL b a i)⟩ := lst_fn fun i j hi hj => by
  obtain rfl : j = 0 := by omega
  match i, hi with
  | 0, _ | 1, _ | 2, _ | 3, _ | 4, _ | 5, _ | 6, _ => rfl
def elF (x0 x1 x2 x3 : Int) (i : Nat) : Int := [x0, x1, x2, x3].getD i 0
theorem allE4 {p : Int → Bool} {x0 x1 x2 x3 : Int} : allI (fun i => p (elF x0 x1 x2 x3 i)) 4 = (p x0 && (p x1 && p x2 && p x3)) := by
  unfold allI
  show (p x0 && (p x1 && (p x2 && (p x3 && true)))) = _
  rw [Bool.and_true, Bool.and_assoc (p x1)]
def elsB (G : Grp) (z sa sb : Int) : Bool := elemB G z && elemB G sa && elemB G sb
def crtE (b : Bas) (a z sa sb : Int) : Int := bif validB b then (bif elemB b.gr a && elsB b.gr z sa sb then 0 else 2) else 1
end Go.Sp

namespace Go.Proofs.YtolcfdcoidpieaaGreatDoor
open Go Go.Am Go.Sp
set_option maxRecDepth 100000
theorem within_r (x l u:Int):Pure Tryz.prog gl0 204 [.int .i64 x,.int .i64 l,.int .i64 u] (.bool (rngB x l u)):=by
 refine pure_sk (own:=ow0) Tryz.func204 (by kernel_rfl) mixed (by kernel_rfl)
  (.out (AV.bool (decide (x≥l)&&decide (x≤u))) [] (AV.bool (rngB x l u)) [])
  (by kernel_rfl) ?_
 exact k_out (Ent.refl _)
theorem numbers_c (a b c d e:Int):Pure Tryz.prog gl0 203 [.int .i64 a,.int .i64 b,.int .i64 c,.int .i64 d,.int .i64 e] (.bool (numR a b c d e)):=by
 refine pure_sk (own:=ow0) Tryz.func203 (by kernel_rfl) mixed (by kernel_rfl)
  (.sc (true) 204 ([Zi a,Zi 0,Zi 7]) (AV.bool (rngB a (0:Int) (7:Int))) (.sc (rngB a (0:Int) (7:Int)==true) 204 ([Zi b,Zi 0,Zi 1000000]) (AV.bool (rngB b (0:Int) (1000000:Int))) (.out (AV.bool (rngB a (0:Int) (7:Int)&&rngB b (0:Int) (1000000:Int)&&decide (c≥0)&&decide (c<d)&&decide (d≤e)&&decide (e≤1099511627776))) [] (AV.bool (numR a b c d e)) [])))
  (by kernel_rfl) ?_
 refine k_sc (within_r (a) ((0:Int)) ((7:Int))) ?_
 refine k_scg (fun h1=>within_r (b) ((0:Int)) ((1000000:Int))) ?_
 exact k_out (Ent.refl _)
theorem rin_c (x l u:Int):Pure Tryz.prog gl0 185 [.int .i64 x,.int .i64 l,.int .i64 u] (.bool (rngB x l u)):=by
 refine pure_sk (own:=ow0) Tryz.func185 (by kernel_rfl) mixed (by kernel_rfl)
  (.out (AV.bool (decide (x≥l)&&decide (x≤u))) [] (AV.bool (rngB x l u)) [])
  (by kernel_rfl) ?_
 exact k_out (Ent.refl _)
theorem frame_c (a b c d e:Int):Pure Tryz.prog gl0 184 [.int .i64 a,.int .i64 b,.int .i64 c,.int .i64 d,.int .i64 e] (.bool (numR a b c d e)):=by
 refine pure_sk (own:=ow0) Tryz.func184 (by kernel_rfl) mixed (by kernel_rfl)
  (.sc (true) 185 ([Zi a,Zi 0,Zi 7]) (AV.bool (rngB a (0:Int) (7:Int))) (.sc (rngB a (0:Int) (7:Int)==true) 185 ([Zi b,Zi 0,Zi 1000000]) (AV.bool (rngB b (0:Int) (1000000:Int))) (.out (AV.bool (rngB a (0:Int) (7:Int)&&rngB b (0:Int) (1000000:Int)&&decide (c≥0)&&decide (c<d)&&decide (d≤e)&&decide (e≤1099511627776))) [] (AV.bool (numR a b c d e)) [])))
  (by kernel_rfl) ?_
 refine k_sc (rin_c (a) ((0:Int)) ((7:Int))) ?_
 refine k_scg (fun h1=>rin_c (b) ((0:Int)) ((1000000:Int))) ?_
 exact k_out (Ent.refl _)
theorem single_c (v d:Int):Pure Tryz.prog gl0 250 [.agg [.int .i64 v,.int .i64 d]] (.bool (oneB v d)):=by
 refine pure_sk (own:=ow0) Tryz.func250 (by kernel_rfl) mixed (by kernel_rfl)
  (.br (v==0&&(d==0&&true)) (.out (AV.bool true) [] (AV.bool (oneB v d)) []) (.req (((decide (v≥1)&&decide (v≤1099511627776)&&decide (d≥0)&&decide (d≤5))==true)=true→(0:Int)≤d) (.req (((decide (v≥1)&&decide (v≤1099511627776)&&decide (d≥0)&&decide (d≤5))==true)=true→IntKind.wrap IntKind.i64 ((1:Int)*2^min (Int.toNat d) 64)≠(0:Int)) (.out (AV.bool (decide (v≥1)&&decide (v≤1099511627776)&&decide (d≥0)&&decide (d≤5)&&Int.tmod v (IntKind.wrap IntKind.i64 ((1:Int)*2^min (Int.toNat d) 64))==0)) [] (AV.bool (oneB v d)) []))))
  (by kernel_rfl) ?_
 refine k_br (fun h0=>?_) (fun h0=>?_)
 ·have g0:=(cnd_and_t cnd_beq_t (cnd_and_t cnd_beq_t cnd_id_t)) h0
  exact k_out (Ent.of_eq (congrArg _ (one_1 g0.1 g0.2.1).symm))
 ·have g0:=(cnd_and_f cnd_beq_f (cnd_and_f cnd_beq_f cnd_id_f)) h0
  refine k_req (fun hr=>by simp at hr;omega) ?_
  refine k_req (fun hr=>by simp at hr;exact sh_ne (by omega) (by omega)) ?_
  exact k_out (Ent.of_eq (congrArg _ (one_2 (fun h=>by rcases g0 with g|g|g;(· exact g h.1);(· exact g h.2);cases g))))
theorem one_c (v d:Int):Pure Tryz.prog gl0 186 [.agg [.int .i64 v,.int .i64 d]] (.bool (oneB v d)):=by
 refine pure_sk (own:=ow0) Tryz.func186 (by kernel_rfl) mixed (by kernel_rfl)
  (let y0:Nat:=(Int.toNat (IntKind.wrap IntKind.u64 d));(.br (v==0) (.out (AV.bool (d==0)) [] (AV.bool (oneB v d)) []) (.req (((decide (v≥1)&&decide (v≤1099511627776)&&decide (d≥0)&&decide (d≤5))==true)=true→(0:Int)≤IntKind.wrap IntKind.u64 d) (.req (((decide (v≥1)&&decide (v≤1099511627776)&&decide (d≥0)&&decide (d≤5))==true)=true→IntKind.wrap IntKind.i64 ((1:Int)*2^min y0 64)≠(0:Int)) (.out (AV.bool (decide (v≥1)&&decide (v≤1099511627776)&&decide (d≥0)&&decide (d≤5)&&Int.tmod v (IntKind.wrap IntKind.i64 ((1:Int)*2^min y0 64))==0)) [] (AV.bool (oneB v d)) [])))))
  (by kernel_rfl) ?_
 refine k_br (fun h0=>?_) (fun h0=>?_)
 ·have g0:=cnd_beq_t h0
  exact k_out (Ent.of_eq (congrArg _ (one_0 g0).symm))
 ·have g0:=cnd_beq_f h0
  refine k_req (fun hr=>by simp at hr;rw [u64_s (by omega) (by omega)];omega) ?_
  refine k_req (fun hr=>by simp at hr;rw [u64_s (by omega) (by omega)];exact sh_ne (by omega) (by omega)) ?_
  exact k_out (Ent.of_eq (congrArg _ (one_3 g0)))
theorem elementR_c (b:Bas) (x:Int) (hw:b.gr.W):Pure Tryz.prog gl0 251 [b.av,.int .i64 x] (.bool (elemB b.gr x)):=by
 have hq:=hw.q
 refine pure_sk (own:=ow0) Tryz.func251 (by kernel_rfl) mixed (by kernel_rfl)
  (.br (decide (x<1)||decide (x≥(Bas.gr b).1)) (.out (AV.bool false) [] (AV.bool (elemB (Bas.gr b) x)) []) (.sc (true) 134 ([Zi x,Zi (Bas.gr b).2,Zi (Bas.gr b).1]) (AV.tup [Zi (okv (powE x (Bas.gr b).2 (Bas.gr b).1) (x^Int.toNat (Bas.gr b).2%(Bas.gr b).1)),Zi (powE x (Bas.gr b).2 (Bas.gr b).1)]) (.out (AV.bool (powE x (Bas.gr b).2 (Bas.gr b).1==0&&okv (powE x (Bas.gr b).2 (Bas.gr b).1) (x^Int.toNat (Bas.gr b).2%(Bas.gr b).1)==1)) [] (AV.bool (elemB (Bas.gr b) x)) [])))
  (by kernel_rfl) ?_
 refine k_br (fun h0=>?_) (fun h0=>?_)
 ·have g0:=(cnd_or_t cnd_dec_t cnd_dec_t) h0
  exact k_out (Ent.of_eq (congrArg _ (elem_f g0).symm))
 ·have g0:=(cnd_or_f cnd_dec_f cnd_dec_f) h0
  refine k_sc (wpow_c (x) ((Bas.gr b).2) ((Bas.gr b).1) (by assumption)) ?_
  exact k_out (Ent.of_eq (congrArg _ (ok1.trans (elem_t g0).symm)))
theorem messageR_c (b:Bas) (x:Int) (hw:b.gr.W):Pure Tryz.prog gl0 207 [b.av,.int .i64 x] (.bool (msgB b.gr x)):=by
 refine pure_sk (own:=ow0) Tryz.func207 (by kernel_rfl) mixed (by kernel_rfl)
  (.sc ((x != 1)==true) 251 ([AV.agg (Bas.cells b),Zi x]) (AV.bool (elemB (Bas.gr b) x)) (.out (AV.bool (x != 1&&elemB b.1 x)) [] (AV.bool (msgB (Bas.gr b) x)) []))
  (by kernel_rfl) ?_
 refine k_scg (fun h0=>(elementR_c b) (x) (by assumption)) ?_
 exact k_out (Ent.refl _)
theorem validR_c (b:Bas) (h h1 h2:Int) (hw:b.gr.W):Pure Tryz.prog gl0 206 [b.av,.agg [.int .i64 h,.int .i64 h1,.int .i64 h2]] (.bool (keyB b h h1 h2)):=by
 refine pure_sk (own:=ow0) Tryz.func206 (by kernel_rfl) mixed (by kernel_rfl)
  (.sc (true) 34 ([AV.agg (Bas.cells b)]) (AV.bool (validB b)) (.sc (validB b==true) 207 ([AV.agg (Bas.cells b),Zi h]) (AV.bool (msgB (Bas.gr b) h)) (.sc ((validB b&&msgB b.1 h)==true) 207 ([AV.agg (Bas.cells b),Zi h1]) (AV.bool (msgB (Bas.gr b) h1)) (.sc ((validB b&&msgB b.1 h&&msgB b.1 h1)==true) 207 ([AV.agg (Bas.cells b),Zi h2]) (AV.bool (msgB (Bas.gr b) h2)) (.out (AV.bool (validB b&&msgB b.1 h&&msgB b.1 h1&&msgB b.1 h2)) [] (AV.bool (keyB b h h1 h2)) [])))))
  (by kernel_rfl) ?_
 refine k_sc ((bvalid_c b) (by assumption)) ?_
 refine k_scg (fun h1=>(messageR_c b) (h) (by assumption)) ?_
 refine k_scg (fun h2=>(messageR_c b) (h1) (by assumption)) ?_
 refine k_scg (fun h3=>(messageR_c b) (h2) (by assumption)) ?_
 exact k_out (Ent.refl _)
theorem rmsg_c (G:Grp) (x:Int) (hw:G.Ok):Pure Tryz.prog gl0 187 [G.av,.int .i64 x] (.bool (msgB G x)):=by
 refine pure_sk (own:=ow0) Tryz.func187 (by kernel_rfl) mixed (by kernel_rfl)
  (.sc ((x != 1)==true) 57 ([AV.agg [Zi G.1,Zi G.2,Zi G.3],Zi x]) (AV.bool (elemB G x)) (.out (AV.bool (x != 1&&elemB G x)) [] (AV.bool (msgB G x)) []))
  (by kernel_rfl) ?_
 refine k_scg (fun h0=>(member_c G) (x) (by assumption)) ?_
 exact k_out (Ent.refl _)
theorem rkey_c (b:Bas) (h h1 h2:Int) (hw:b.gr.W):Pure Tryz.prog gl0 183 [b.av,.agg [.int .i64 h,.int .i64 h1,.int .i64 h2]] (.bool (keyB b h h1 h2)):=by
 refine pure_sk (own:=ow0) Tryz.func183 (by kernel_rfl) mixed (by kernel_rfl)
  (let y0:List AV:=[Zi (Bas.gr b).1,Zi (Bas.gr b).2,Zi (Bas.gr b).3];(.sc (true) 19 ([AV.agg (Bas.cells b)]) (AV.bool (validB b)) (.sc (validB b==true) 187 ([AV.agg y0,Zi h]) (AV.bool (msgB (Bas.gr b) h)) (.sc ((validB b&&msgB b.1 h)==true) 187 ([AV.agg y0,Zi h1]) (AV.bool (msgB (Bas.gr b) h1)) (.sc ((validB b&&msgB b.1 h&&msgB b.1 h1)==true) 187 ([AV.agg y0,Zi h2]) (AV.bool (msgB (Bas.gr b) h2)) (.out (AV.bool (validB b&&msgB b.1 h&&msgB b.1 h1&&msgB b.1 h2)) [] (AV.bool (keyB b h h1 h2)) []))))))
  (by kernel_rfl) ?_
 refine k_sc ((r11valid_c b) (hw)) ?_
 refine k_scg (fun h1=>(rmsg_c (Bas.gr b)) (h) ((validB_iff.1 (by simp at h1;simp [h1])).G)) ?_
 refine k_scg (fun h2=>(rmsg_c (Bas.gr b)) (h1) ((validB_iff.1 (by simp at h2;simp [h2])).G)) ?_
 refine k_scg (fun h3=>(rmsg_c (Bas.gr b)) (h2) ((validB_iff.1 (by simp at h3;simp [h3])).G)) ?_
 exact k_out (Ent.refl _)
theorem denomV_c0 (v d:Int):Pure Tryz.prog gl0 205 [.isl 2 1 fun _ k=>atL [.int .i64 v,.int .i64 d] k] (.bool (oneB v d)):=by
 have hs:=(single_c v d)
 refine pure_sk (own:=ow0) Tryz.func205 (by kernel_rfl) mixed (by kernel_rfl)
  (let y0:AV:=(AV.bool (oneB v d));(.ff (.loop ({ x:Nat // x≤1∧(fun (x:Nat)=>0<x→oneB v d=true) x }) (fun (x:{ x:Nat // x≤1∧(fun (x:Nat)=>0<x→oneB v d=true) x })=>mkSt [0,12,13,14,2,15] [AV.isl 2 1 fun (x k:Nat)=>atL [Zi v,Zi d] k,AV.bool false,AV.isl 2 1 fun (x k:Nat)=>atL [Zi v,Zi d] k,Zi (↑(1):Int),AV.bool false,Zi (↑(x.1):Int)] []) (fun (x:{ x:Nat // x≤1∧(fun (x:Nat)=>0<x→oneB v d=true) x })=>1 - x.1) (⟨0,⟨Nat.zero_le 1,fun (h:0<0)=>absurd h (Nat.lt_irrefl 0)⟩⟩) ([0,12,13,14,2,15]) ([]) ([AV.isl 2 1 fun (x k:Nat)=>atL [Zi v,Zi d] k,AV.bool false,AV.isl 2 1 fun (x k:Nat)=>atL [Zi v,Zi d] k,Zi (↑(1):Int),AV.bool false,Zi 0]) ([]) (fun x1=>(.br (decide ((↑x1.1:Int)<(↑(1):Int))) (.req ((0:Int)≤(↑x1.1:Int)∧(↑x1.1:Int)<(↑(1):Int)) (.sc (true) 250 ([AV.agg [Zi v,Zi d]]) y0 (.br (!oneB v d) (.out (AV.bool false) [] y0 []) (.req ((decide ((↑x1.1:Int)>0)==true)=true→(0:Int)≤IntKind.wrap IntKind.i64 ((↑x1.1:Int) - 1)∧IntKind.wrap IntKind.i64 ((↑x1.1:Int) - 1)<(↑(1):Int)) (.req ((decide ((↑x1.1:Int)>0)==true&&decide (v<v)==false)=true→(0:Int)≤IntKind.wrap IntKind.i64 ((↑x1.1:Int) - 1)∧IntKind.wrap IntKind.i64 ((↑x1.1:Int) - 1)<(↑(1):Int)) (.req ((decide ((↑x1.1:Int)>0)==true&&decide (v<v)==false&&(v==v)==true)=true→(0:Int)≤IntKind.wrap IntKind.i64 ((↑x1.1:Int) - 1)∧IntKind.wrap IntKind.i64 ((↑x1.1:Int) - 1)<(↑(1):Int)) (.br (decide ((↑x1.1:Int)>0)&&(decide (v<v)||v==v&&decide (d≤d))) (.out (AV.bool false) [] y0 []) (.again (Again 0 (fun (x:{ x:Nat // x≤1∧(fun (x:Nat)=>0<x→oneB v d=true) x })=>mkSt [0,12,13,14,2,15] [AV.isl 2 1 fun (x k:Nat)=>atL [Zi v,Zi d] k,AV.bool false,AV.isl 2 1 fun (x k:Nat)=>atL [Zi v,Zi d] k,Zi (↑(1):Int),AV.bool false,Zi (↑(x.1):Int)] []) (fun (x:{ x:Nat // x≤1∧(fun (x:Nat)=>0<x→oneB v d=true) x })=>1 - x.1) x1) ([0,12,13,14,2,15]) ([]) ([AV.isl 2 1 fun (x k:Nat)=>atL [Zi v,Zi d] k,AV.bool false,AV.isl 2 1 fun (x k:Nat)=>atL [Zi v,Zi d] k,Zi (↑(1):Int),AV.bool false,Zi (IntKind.wrap IntKind.i64 ((↑x1.1:Int)+1))]) ([]))))))))) (.out (AV.bool true) [] y0 []))))))
  (by kernel_rfl) ?_
 refine k_ff ?_
 refine k_loop (fun _ hs=>hs.le (⟨.refl _,.refl _,.refl _,.refl _,.refl _,.refl _,trivial⟩) (trivial)) (fun x1=>?_)
 try (have q1:=x1.2;dsimp only at q1)
 refine k_br (fun h2=>?_) (fun h2=>?_)
 ·have g2:=cnd_dec_t h2
  refine k_req (by omega) ?_
  refine k_sc (hs) ?_
  refine k_br (fun h5=>?_) (fun h5=>?_)
  ·have g5:=(cnd_not_t cnd_id_f) h5
   exact k_out (by exact Ent.of_eq (congrArg _ (by simp_all)))
  ·have g5:=(cnd_not_f cnd_id_t) h5
   refine k_req (fun hr=>by have hr:=(cnd_eqt_t cnd_dec_t) hr;omega) ?_
   refine k_req (fun hr=>by have hr:=(cnd_and_t (cnd_eqt_t cnd_dec_t) (cnd_eqf_t cnd_dec_f)) hr;omega) ?_
   refine k_req (fun hr=>by have hr:=(cnd_and_t (cnd_and_t (cnd_eqt_t cnd_dec_t) (cnd_eqf_t cnd_dec_f)) (cnd_eqt_t cnd_beq_t)) hr;omega) ?_
   refine k_br (fun h10=>?_) (fun h10=>?_)
   ·have g10:=(cnd_and_t cnd_dec_t (cnd_or_t cnd_dec_t (cnd_and_t cnd_beq_t cnd_dec_t))) h10
    exact k_out (by (exfalso;omega))
   ·have g10:=(cnd_and_f cnd_dec_f (cnd_or_f cnd_dec_f (cnd_and_f cnd_beq_f cnd_dec_f))) h10
    exact k_again (⟨x1.1+1,by omega,fun _=>g5⟩) (fun _ hs=>hs.le (⟨.refl _,.refl _,.refl _,.refl _,.refl _,inc_ent (by omega),trivial⟩) (trivial)) (by dsimp only;omega)
 ·have g2:=cnd_dec_f h2
  exact k_out (by exact Ent.of_eq (congrArg _ (q1.2 (by omega)).symm))
theorem denomV_c (v d:Int):Pure Tryz.prog gl0 205 [.isl 2 1 fun r k=>atL (List.getD [[.int .i64 v,.int .i64 d]] r []) k] (.bool (oneB v d)) :=
 (denomV_c0 v d).via ⟨Ent.isl fun i j hi _=>by obtain rfl:i=0:=Nat.lt_one_iff.1 hi;rfl,trivial⟩
theorem recV_c (b:Bas) (r:Rcd) (hw:b.gr.W):Pure Tryz.prog gl0 138 [b.av,r.av] (.bool (rcvB b r)):=by
 have h1:=denomV_c r.value r.depth
 have h2:=validR_c b r.h r.h1 r.h2 hw
 refine pure_sk (own:=ow0) Tryz.func138 (by kernel_rfl) mixed (by kernel_rfl)
  (.sc (true) 203 ([Zi r.1,Zi r.2,Zi r.9,Zi r.10,Zi r.11]) (AV.bool (numR r.1 r.2 r.9 r.10 r.11)) (.sc (numR r.1 r.2 r.9 r.10 r.11==true) 204 ([Zi r.3,Zi 0,Zi 16]) (AV.bool (rngB r.3 (0:Int) (16:Int))) (.sc ((numR r.1 r.2 r.9 r.10 r.11&&rngB r.3 (0:Int) (16:Int))==true&&(r.4==0&&r.5==0)==false) 205 ([AV.isl 2 1 fun (r_1 k:Nat)=>atL (List.getD [[Zi r.4,Zi r.5]] (r_1+0) []) k]) (AV.bool (oneB (Rcd.value r) (Rcd.depth r))) (.sc ((numR r.1 r.2 r.9 r.10 r.11&&rngB r.3 (0:Int) (16:Int)&&(r.4==0&&r.5==0||oneB r.4 r.5))==true) 206 ([AV.agg (Bas.cells b),AV.agg [Zi r.6,Zi r.7,Zi r.8]]) (AV.bool (keyB b (Rcd.h r) (Rcd.h1 r) (Rcd.h2 r))) (.out (AV.bool (numR r.1 r.2 r.9 r.10 r.11&&rngB r.3 (0:Int) (16:Int)&&(r.4==0&&r.5==0||oneB r.4 r.5)&&keyB b r.6 r.7 r.8)) [] (AV.bool (rcvB b r)) [])))))
  (by kernel_rfl) ?_
 refine k_sc (numbers_c (r.1) (r.2) (r.9) (r.10) (r.11)) ?_
 refine k_scg (fun h1=>within_r (r.3) ((0:Int)) ((16:Int))) ?_
 refine k_scg (fun h2=>h1) ?_
 refine k_scg (fun h3=>h2) ?_
 exact k_out (Ent.of_eq (congrArg _ rec_1))
theorem rrecV_c (b:Bas) (r:Rcd) (hw:b.gr.W):Pure Tryz.prog gl0 117 [b.av,r.av] (.bool (rcvB b r)):=by
 have h1:=one_c r.value r.depth
 have h2:=rkey_c b r.h r.h1 r.h2 hw
 refine pure_sk (own:=ow0) Tryz.func117 (by kernel_rfl) mixed (by kernel_rfl)
  (.sc (true) 183 ([AV.agg (Bas.cells b),AV.agg [Zi r.6,Zi r.7,Zi r.8]]) (AV.bool (keyB b (Rcd.h r) (Rcd.h1 r) (Rcd.h2 r))) (.sc (keyB b r.6 r.7 r.8==true) 184 ([Zi r.1,Zi r.2,Zi r.9,Zi r.10,Zi r.11]) (AV.bool (numR r.1 r.2 r.9 r.10 r.11)) (.sc ((keyB b r.6 r.7 r.8&&numR r.1 r.2 r.9 r.10 r.11)==true) 185 ([Zi r.3,Zi 0,Zi 16]) (AV.bool (rngB r.3 (0:Int) (16:Int))) (.sc ((keyB b r.6 r.7 r.8&&numR r.1 r.2 r.9 r.10 r.11&&rngB r.3 (0:Int) (16:Int))==true) 186 ([AV.agg [Zi r.4,Zi r.5]]) (AV.bool (oneB (Rcd.value r) (Rcd.depth r))) (.out (AV.bool (keyB b r.6 r.7 r.8&&numR r.1 r.2 r.9 r.10 r.11&&rngB r.3 (0:Int) (16:Int)&&oneB r.4 r.5)) [] (AV.bool (rcvB b r)) [])))))
  (by kernel_rfl) ?_
 refine k_sc (h2) ?_
 refine k_scg (fun h1=>frame_c (r.1) (r.2) (r.9) (r.10) (r.11)) ?_
 refine k_scg (fun h2=>rin_c (r.3) ((0:Int)) ((16:Int))) ?_
 refine k_scg (fun h3=>h1) ?_
 exact k_out (Ent.refl _)
theorem numI_c (n:Int):Pure Tryz.prog gl0 253 [.int .i64 n] (It.int n).av:=by
 refine pure_sk (own:=ow0) Tryz.func253 (by kernel_rfl) mixed (by kernel_rfl)
  (.out (AV.agg [Zi 1,Zi n,AV.nsl,AV.nsl]) [] (It.av (It.int n)) [])
  (by kernel_rfl) ?_
 exact k_out (Ent.agg ⟨Ent.refl _,Ent.refl _,Ent.nsl,Ent.nsl,trivial⟩)
theorem rnumI_c (n:Int):Pure Tryz.prog gl0 238 [.int .i64 n] (It.int n).av:=by
 refine pure_sk (own:=ow0) Tryz.func238 (by kernel_rfl) mixed (by kernel_rfl)
  (.out (AV.agg [Zi 1,Zi n,AV.nsl,AV.nsl]) [] (It.av (It.int n)) [])
  (by kernel_rfl) ?_
 exact k_out (Ent.agg ⟨Ent.refl _,Ent.refl _,Ent.nsl,Ent.nsl,trivial⟩)
theorem rNumbers_c (b:Bas):Pure Tryz.prog gl0 237 [b.av] (.isl 1 6 fun i _=>.int .i64 (crtL b 0 i)):=by
 refine pure_sk (own:=ow0) Tryz.func237 (by kernel_rfl) mixed (by kernel_rfl)
  (.out (AV.isl 1 6 fun (r k:Nat)=>atL (List.getD [[Zi (Bas.gr b).1],[Zi (Bas.gr b).2],[Zi (Bas.gr b).3],[Zi b.2],[Zi b.3],[Zi b.4]] (r+0) []) k) [] (AV.isl 1 6 fun (i x:Nat)=>Zi (crtL b (0:Int) i)) [])
  (by kernel_rfl) ?_
 exact k_out (Ent.isl fun i j hi hj=>by obtain rfl:j=0:=Nat.lt_one_iff.1 hj;match i,hi with|0,_|1,_|2,_|3,_|4,_|5,_=>rfl)
theorem relems_c (G:Grp) (z sa sb r:Int) (hw:G.Ok):Pure Tryz.prog gl0 188 [G.av,.agg [.int .i64 z,.int .i64 sa,.int .i64 sb,.int .i64 r]] (.bool (elsB G z sa sb)):=by
 refine pure_sk (own:=ow0) Tryz.func188 (by kernel_rfl) mixed (by kernel_rfl)
  (let y0:List AV:=[Zi G.1,Zi G.2,Zi G.3];(.sc (true) 57 ([AV.agg y0,Zi z]) (AV.bool (elemB G z)) (.sc (elemB G z==true) 57 ([AV.agg y0,Zi sa]) (AV.bool (elemB G sa)) (.sc ((elemB G z&&elemB G sa)==true) 57 ([AV.agg y0,Zi sb]) (AV.bool (elemB G sb)) (.out (AV.bool (elemB G z&&elemB G sa&&elemB G sb)) [] (AV.bool (elsB G z sa sb)) [])))))
  (by kernel_rfl) ?_
 refine k_sc ((member_c G) (z) (by assumption)) ?_
 refine k_scg (fun h1=>(member_c G) (sa) (by assumption)) ?_
 refine k_scg (fun h2=>(member_c G) (sb) (by assumption)) ?_
 exact k_out (Ent.refl _)
theorem scalR_c (b:Bas) (x:Int):Pure Tryz.prog gl0 208 [b.av,.int .i64 x] (.bool (decide (x≥0)&&decide (x<b.gr.q))):=by
 refine pure_sk (own:=ow0) Tryz.func208 (by kernel_rfl) mixed (by kernel_rfl)
  (.out (AV.bool (decide (x≥0)&&decide (x<(Bas.gr b).2))) [] (AV.bool (decide (x≥0)&&decide (x<Grp.q (Bas.gr b)))) [])
  (by kernel_rfl) ?_
 exact k_out (Ent.refl _)
theorem rscalR_c (G:Grp) (x:Int):Pure Tryz.prog gl0 189 [G.av,.int .i64 x] (.bool (decide (x≥0)&&decide (x<G.q))):=by
 refine pure_sk (own:=ow0) Tryz.func189 (by kernel_rfl) mixed (by kernel_rfl)
  (.out (AV.bool (decide (x≥0)&&decide (x<G.2))) [] (AV.bool (decide (x≥0)&&decide (x<Grp.q G))) [])
  (by kernel_rfl) ?_
 exact k_out (Ent.refl _)
theorem powR_c (b:Bas) (x e:Int) (h:b.gr.Ok) (hx:0≤x∧x<b.gr.p) (he:0≤e∧e<b.gr.q):Pure Tryz.prog gl0 210 [b.av,.int .i64 x,.int .i64 e] (.int .i64 (x^e.toNat%b.gr.p)):=by
 have k1:=h.p1;have k2:=h.qp;have k3:=h.p3
 have k5:=powE_0 (chk_ok (a:=x) (b:=x) (m:=b.gr.p) (by omega) (by omega) (by omega) (by omega) (by omega) (by omega)) (by omega:¬e<0)
 refine pure_sk (own:=ow0) Tryz.func210 (by kernel_rfl) mixed (by kernel_rfl)
  (.sc (true) 134 ([Zi x,Zi e,Zi (Bas.gr b).1]) (AV.tup [Zi (okv (powE x e (Bas.gr b).1) (x^Int.toNat e%(Bas.gr b).1)),Zi (powE x e (Bas.gr b).1)]) (.out (Zi (okv (powE x e (Bas.gr b).1) (x^Int.toNat e%(Bas.gr b).1))) [] (Zi (x^Int.toNat e%Grp.p (Bas.gr b))) []))
  (by kernel_rfl) ?_
 refine k_sc (wpow_c (x) (e) ((Bas.gr b).1) (by omega)) ?_
 exact k_out (Ent.of_eq (by rw [k5];rfl))
theorem rpowR_c (G:Grp) (x e:Int) (h:G.Ok) (hx:0≤x∧x<G.p) (he:0≤e∧e<G.q):Pure Tryz.prog gl0 191 [G.av,.int .i64 x,.int .i64 e] (.int .i64 (x^e.toNat%G.p)):=by
 have k1:=h.p1;have k2:=h.qp;have k3:=h.p3
 refine pure_sk (own:=ow0) Tryz.func191 (by kernel_rfl) mixed (by kernel_rfl)
  (.sc (true) 116 ([Zi x,Zi e,Zi G.1]) (Zi (x^Int.toNat e%G.1)) (.out (Zi (x^Int.toNat e%G.1)) [] (Zi (x^Int.toNat e%Grp.p G)) []))
  (by kernel_rfl) ?_
 refine k_sc (rpow_c (x) (e) (G.1) (by omega) (by omega) (by omega) (by omega) (by assumption)) ?_
 exact k_out (Ent.refl _)
theorem mulR_c (b:Bas) (x y:Int) (h:b.gr.Ok) (hx:0≤x∧x<b.gr.p) (hy:0≤y∧y<b.gr.p):Pure Tryz.prog gl0 254 [b.av,.int .i64 x,.int .i64 y] (.int .i64 (x*y%b.gr.p)):=by
 have k1:=h.p1;have k3:=h.p3
 have k2:=chk_ok (a:=x) (b:=y) (m:=b.gr.p) (by omega) (by omega) (by omega) (by omega) (by omega) (by omega)
 refine pure_sk (own:=ow0) Tryz.func254 (by kernel_rfl) mixed (by kernel_rfl)
  (.sc (true) 219 ([Zi x,Zi y,Zi (Bas.gr b).1]) (AV.tup [Zi (okv (chkI x y (Bas.gr b).1) (x*y%(Bas.gr b).1)),Zi (chkI x y (Bas.gr b).1)]) (.out (Zi (okv (chkI x y (Bas.gr b).1) (x*y%(Bas.gr b).1))) [] (Zi (x*y%Grp.p (Bas.gr b))) []))
  (by kernel_rfl) ?_
 refine k_sc (wmul_c (x) (y) ((Bas.gr b).1)) ?_
 exact k_out (Ent.of_eq (by rw [k2];rfl))
theorem rmulR_c (G:Grp) (x y:Int) (h:G.Ok) (hx:0≤x∧x<G.p) (hy:0≤y∧y<G.p):Pure Tryz.prog gl0 192 [G.av,.int .i64 x,.int .i64 y] (.int .i64 (x*y%G.p)):=by
 have k1:=h.p1;have k3:=h.p3
 refine pure_sk (own:=ow0) Tryz.func192 (by kernel_rfl) mixed (by kernel_rfl)
  (.sc (true) 110 ([Zi x,Zi y,Zi G.1]) (Zi (x*y%G.1)) (.out (Zi (x*y%G.1)) [] (Zi (x*y%Grp.p G)) []))
  (by kernel_rfl) ?_
 refine k_sc (rmul_c (x) (y) (G.1) (by omega) (by omega) (by omega) (by omega) (by assumption)) ?_
 exact k_out (Ent.refl _)
theorem prodR_c (b:Bas) (x e y:Int) (h:b.gr.Ok) (hx:0≤x∧x<b.gr.p) (he:0≤e∧e<b.gr.q) (hy:0≤y∧y<b.gr.p):Pure Tryz.prog gl0 211 [b.av,.int .i64 x,.int .i64 e,.int .i64 y,.int .i64 1] (.int .i64 (x^e.toNat%b.gr.p*y%b.gr.p)):=by
 have k1:=h.p1;have k3:=h.p3;have kq:=h.q3
 have c1:=powR_c b x e h hx he
 have c2:=powR_c b y 1 h hy (by omega)
 have m1:0≤x^e.toNat%b.gr.p∧x^e.toNat%b.gr.p<b.gr.p:=⟨Int.emod_nonneg _ (by omega),Int.emod_lt_of_pos _ (by omega)⟩
 have y1:y^(1:Int).toNat%b.gr.p=y:=by rw [show (1:Int).toNat=1 from rfl,Int.pow_succ,Int.pow_zero,Int.one_mul,Int.emod_eq_of_lt hy.1 hy.2]
 rw [y1] at c2
 have c3:=mulR_c b _ y h m1 hy
 refine pure_sk (own:=ow0) Tryz.func211 (by kernel_rfl) mixed (by kernel_rfl)
  (let y0:AV:=(Zi (x^Int.toNat e%Grp.p (Bas.gr b)*y%Grp.p (Bas.gr b)));(.sc (true) 210 ([AV.agg (Bas.cells b),Zi x,Zi e]) (Zi (x^Int.toNat e%Grp.p (Bas.gr b))) (.sc (true) 210 ([AV.agg (Bas.cells b),Zi y,Zi 1]) (Zi y) (.sc (true) 254 ([AV.agg (Bas.cells b),Zi (x^Int.toNat e%(Bas.gr b).1),Zi y]) y0 (.out (Zi (x^Int.toNat e%(Bas.gr b).1*y%(Bas.gr b).1)) [] y0 [])))))
  (by kernel_rfl) ?_
 refine k_sc (c1) ?_
 refine k_sc (c2) ?_
 refine k_sc (c3) ?_
 exact k_out (Ent.refl _)
theorem elemsR_c0 (b:Bas) (u0 u1 u2 u3:Int) (hw:b.gr.W):Pure Tryz.prog gl0 252 [b.av,.isl 1 4 fun i _=>.int .i64 (elF u0 u1 u2 u3 i)] (.bool (elemB b.gr u0&&elsB b.gr u1 u2 u3)):=by
 have e:allI (fun i=>elemB b.gr (elF u0 u1 u2 u3 i)) 4=(elemB b.gr u0&&elsB b.gr u1 u2 u3):=allE4
 rw [← e];clear e
 refine pure_sk (own:=ow0) Tryz.func252 (by kernel_rfl) mixed (by kernel_rfl)
  (let y0:List (Option Ob):=[some ⟨6,1,true,Rep.lst [Bas.cells b]⟩];let y1:AV:=(AV.bool (allI (fun (i:Nat)=>elemB (Bas.gr b) (elF u0 u1 u2 u3 i)) 4));(.loop ({ x:Nat // x≤4∧(fun (i:Nat)=>∀ (j:Nat),j<i→elemB (Bas.gr b) (elF u0 u1 u2 u3 j)=true) x }) (fun (x:{ x:Nat // x≤4∧(fun (i:Nat)=>∀ (j:Nat),j<i→elemB (Bas.gr b) (elF u0 u1 u2 u3 j)=true) x })=>mkSt [2,7,8,9] [AV.own 0 6 0 0 6,AV.isl 1 4 fun (i x:Nat)=>Zi (elF u0 u1 u2 u3 i),Zi (↑(4):Int),Zi (↑(x.1):Int)] y0) (fun (x:{ x:Nat // x≤4∧(fun (i:Nat)=>∀ (j:Nat),j<i→elemB (Bas.gr b) (elF u0 u1 u2 u3 j)=true) x })=>4 - x.1) (⟨0,⟨Nat.zero_le 4,fun (j:Nat) (hj:j<0)=>absurd hj (Nat.not_lt_zero j)⟩⟩) ([2,7,8,9]) ([0]) ([AV.own 0 6 0 0 6,AV.isl 1 4 fun (i x:Nat)=>Zi (elF u0 u1 u2 u3 i),Zi (↑(4):Int),Zi 0]) (y0) (fun x0=>(.br (decide ((↑x0.1:Int)<(↑(4):Int))) (.req ((0:Int)≤(↑x0.1:Int)∧(↑x0.1:Int)<(↑(4):Int)) (.sc (true) 251 ([AV.agg (Bas.cells b),Zi (elF u0 u1 u2 u3 (Int.toNat (↑x0.1:Int)))]) (AV.bool (elemB (Bas.gr b) (elF u0 u1 u2 u3 (Int.toNat (↑x0.1:Int))))) (.br (!elemB b.1 (elF u0 u1 u2 u3 (Int.toNat (↑x0.1:Int)))) (.out (AV.bool false) [] y1 []) (.again (Again 0 (fun (x:{ x:Nat // x≤4∧(fun (i:Nat)=>∀ (j:Nat),j<i→elemB (Bas.gr b) (elF u0 u1 u2 u3 j)=true) x })=>mkSt [2,7,8,9] [AV.own 0 6 0 0 6,AV.isl 1 4 fun (i x:Nat)=>Zi (elF u0 u1 u2 u3 i),Zi (↑(4):Int),Zi (↑(x.1):Int)] y0) (fun (x:{ x:Nat // x≤4∧(fun (i:Nat)=>∀ (j:Nat),j<i→elemB (Bas.gr b) (elF u0 u1 u2 u3 j)=true) x })=>4 - x.1) x0) ([2,7,8,9]) ([0]) ([AV.own 0 6 0 0 6,AV.isl 1 4 fun (i x:Nat)=>Zi (elF u0 u1 u2 u3 i),Zi (↑(4):Int),Zi (IntKind.wrap IntKind.i64 ((↑x0.1:Int)+1))]) (y0))))) (.out (AV.bool true) [] y1 [])))))
  (by kernel_rfl) ?_
 refine k_loop (fun _ hs=>hs.le (⟨.refl _,.refl _,.refl _,.refl _,trivial⟩) (⟨.refl _,trivial⟩)) (fun x0=>?_)
 try (have q0:=x0.2;dsimp only at q0)
 refine k_br (fun h1=>?_) (fun h1=>?_)
 ·have g1:=cnd_dec_t h1
  refine k_req (by omega) ?_
  refine k_sc ((elementR_c b) (elF u0 u1 u2 u3 (Int.toNat (↑x0.1:Int))) (by assumption)) ?_
  refine k_br (fun h4=>?_) (fun h4=>?_)
  ·have g4:=(cnd_not_t cnd_id_f) h4
   try simp only [Int.toNat_natCast] at g4
   exact k_out (by exact Ent.of_eq (congrArg _ (allI_f (i:=x0.1) (by omega) g4).symm))
  ·have g4:=(cnd_not_f cnd_id_t) h4
   try simp only [Int.toNat_natCast] at g4
   exact k_again (⟨x0.1+1,by omega,all_next q0.2 g4⟩) (fun _ hs=>hs.le (⟨.refl _,.refl _,.refl _,inc_ent (by omega),trivial⟩) (⟨.refl _,trivial⟩)) (by dsimp only;omega)
 ·have g1:=cnd_dec_f h1
  exact k_out (by exact Ent.of_eq (congrArg _ (allI_t fun i hi=>q0.2 i (by omega)).symm))
theorem elemsR_c (b:Bas) (x0 x1 x2 x3:Int) (hw:b.gr.W):Pure Tryz.prog gl0 252 [b.av,.isl 1 4 fun r k=>atL (List.getD [[.int .i64 x0],[.int .i64 x1],[.int .i64 x2],[.int .i64 x3]] r []) k] (.bool (elemB b.gr x0&&elsB b.gr x1 x2 x3)) :=
 (elemsR_c0 b x0 x1 x2 x3 hw).via ⟨Ent.refl _,Ent.isl fun i j hi hj=>by obtain rfl:j=0:=Nat.lt_one_iff.1 hj;match i,hi with|0,_|1,_|2,_|3,_=>rfl,trivial⟩
end Go.Proofs.YtolcfdcoidpieaaGreatDoor

namespace Go.Sp
open Go Go.Am

def crtJ (b : Bas) (a : Int) (root : Nat → Int) (z sa sb : Int) : List It := [.int b.gr.p, .int b.gr.q, .int b.gr.g, .int b.g1, .int b.g2, .int b.h, .int a, .byt 32 root, .int z, .int sa, .int sb]
theorem liU_out {os : List (Option Ob)} {L : List It} {n : Nat} {F : Nat → Nat → AV} (hn : n = L.length) (h : ∀ i k, i < n → k < 4 → Ent os (F i k) (atL (L.getD i (.int 0)).cells k)) :
    Ent os (.agg [.int .i64 3, .int .i64 0, .nsl, .isl 4 n F]) (lsI L).av := by
  subst hn
  exact Ent.agg ⟨Ent.refl _, Ent.refl _, Ent.nsl, Ent.islE (fun i j hi hj => ⟨h i j hi hj, It.cl_at _ j hj⟩), trivial⟩
theorem byt_root {os : List (Option Ob)} (n : Nat) {f g : Nat → Int} (h : ∀ i, i < n → f i = g i) : EntL os [.int .i64 2, .int .i64 0, .isl 1 n fun i _ => .int .u8 (f i), .nsl] (It.byt n g).cells :=
  ⟨Ent.refl _, Ent.refl _, Ent.isl fun i _ hi _ => congrArg (AV.int .u8) (h i hi), Ent.nsl, trivial⟩
theorem crtF_ok {os : List (Option Ob)} {b : Bas} {a z sa sb : Int} {root : Nat → Int} {x : Nat} (hx : x = 7) {i k : Nat} (hi : i < x + 4) :
    Ent os (mixA (Nat.blt (i + 0) x) (atL (It.int (crtL b a (i + 0))).cells k)
      (atL (List.getD [[AV.int IntKind.i64 (2 : Int), AV.int IntKind.i64 (0 : Int), AV.isl 1 32 fun (r _ : Nat) => AV.int IntKind.u8 (intOfAV (atL (u8c root) (0 + (0 + r)))), AV.nsl], (It.int z).cells, (It.int sa).cells, (It.int sb).cells] (i + 0 - x) []) k))
      (atL ((crtJ b a root z sa sb).getD i (.int 0)).cells k) := by
  subst hx
  match i, hi with
  | 0, _ | 1, _ | 2, _ | 3, _ | 4, _ | 5, _ | 6, _ => exact Ent.of_eq (mixA_tt _ _)
  | 7, _ =>
    show Ent os (mixA false _ _) _
    rw [mixA_ff]
    refine Ent.atL (byt_root 32 fun i hi => ?_) k
    rw [Nat.zero_add, Nat.zero_add]
    exact u8c_at hi
  | 8, _ | 9, _ | 10, _ => exact Ent.of_eq (mixA_ff _ _)
theorem rcrtF_ok {os : List (Option Ob)} {b : Bas} {a z sa sb : Int} {root : Nat → Int} {x y : Nat} (hx : x = 6) (hy : y = 32) {i k : Nat} (hi : i < x + 5) :
    Ent os (mixA (Nat.blt (i + 0) x) (atL (It.int (crtL b 0 (i + 0))).cells k)
      (atL (List.getD [(It.int a).cells, [AV.int IntKind.i64 (2 : Int), AV.int IntKind.i64 (0 : Int), AV.isl 1 y fun (r _ : Nat) => AV.int IntKind.u8 (root (r + 0)), AV.nsl], (It.int z).cells, (It.int sa).cells, (It.int sb).cells] (i + 0 - x) []) k))
      (atL ((crtJ b a root z sa sb).getD i (.int 0)).cells k) := by
  subst hx; subst hy
  match i, hi with
  | 0, _ | 1, _ | 2, _ | 3, _ | 4, _ | 5, _ => exact Ent.of_eq (mixA_tt _ _)
  | 7, _ =>
    show Ent os (mixA false _ _) _
    rw [mixA_ff]
    exact Ent.atL (byt_root 32 fun i hi => rfl) k
  | 6, _ | 8, _ | 9, _ | 10, _ => exact Ent.of_eq (mixA_ff _ _)
theorem root_push {os : List (Option Ob)} {y y' : Nat} {root c : Nat → Int} (hy : y' = y + 1) (h : c 0 = root y) :
    ObEnt os ⟨1, y + 1, true, .fn fun i j => .int .u8 (bif Nat.blt i y then root i else c j)⟩ ⟨1, y', true, .fn fun i _ => .int .u8 (root i)⟩ := by
  subst hy
  refine ⟨rfl, rfl, rfl, fun i j hi hj => Ent.of_eq ?_⟩
  have hi : i < y + 1 := hi
  obtain rfl : j = 0 := Nat.lt_one_iff.1 hj
  show AV.int .u8 (bif Nat.blt i y then root i else c 0) = .int .u8 (root i)
  by_cases e : i < y
  · rw [blt_t e]; rfl
  · obtain rfl : i = y := by omega
    rw [blt_f (Nat.le_refl _), h]; rfl
theorem rootc_at {root : Nat → Int} {y : Nat} (hy : y < 32) : intOfAV (atL [AV.int .u8 (intOfAV (atL (u8c root) (0 + Int.toNat (y : Int))))] 0) = root y := by
  show intOfAV (atL (u8c root) (0 + Int.toNat (y : Int))) = _
  rw [Nat.zero_add, Int.toNat_natCast]
  exact u8c_at hy
theorem crtI_ok (b : Bas) (a z sa sb : Int) (root : Nat → Int) : (crtI b a root z sa sb).okD 8 = true := by
  simp [crtI, lsI, It.okD, List.range, List.range.loop, List.getD]
theorem crtI_len (b : Bas) (a z sa sb : Int) (root : Nat → Int) : (crtI b a root z sa sb).enc.length = 132 := by
  show (It.encP 11 _ (0 + 1 + 1 + 1 + 1 + 1 + 1 + 1 + 1 + 1 + 1 + 1)).length = _
  repeat rw [It.encP_succ, List.length_append]
  rw [It.encP_zero]
  simp [nbL_len, int_len, byt_len]
theorem crtI_okB {b : Bas} {a z sa sb : Int} {root : Nat → Int} (h : byB root 32) : (crtI b a root z sa sb).okB := fun i hi => by
  have hi : i < 11 := hi
  match i, hi with
  | 0, _ | 1, _ | 2, _ | 3, _ | 4, _ | 5, _ | 6, _ | 8, _ | 9, _ | 10, _ => exact trivial
  | 7, _ => exact h
def crtC (b : Bas) (a : Int) (root : Nat → Int) (z sa sb : Int) : Int := bif crtE b a z sa sb == 0 then crtN b a root z sa sb else 0
def crtV (b : Bas) (a : Int) (root : Nat → Int) (z sa sb : Int) : AV := .tup [.int .i64 (crtC b a root z sa sb), .int .i64 (crtE b a z sa sb)]
theorem crtE_1 {b : Bas} {a z sa sb : Int} (h : validB b = false) : crtE b a z sa sb = 1 := by unfold crtE; rw [h]; rfl
theorem crtE_2 {b : Bas} {a z sa sb : Int} (h : validB b = true) (h' : elemB b.gr a = false ∨ elsB b.gr z sa sb = false) : crtE b a z sa sb = 2 := by
  have e1 : (elemB b.gr a && elsB b.gr z sa sb) = false := by rcases h' with e | e <;> simp [e]
  unfold crtE; rw [h, e1]; rfl
theorem crtE_3 {b : Bas} {a z sa sb : Int} (h : validB b = true) (h' : elemB b.gr a = true ∧ elsB b.gr z sa sb = true) : crtE b a z sa sb = 0 := by
  unfold crtE; rw [h, h'.1, h'.2]; rfl
theorem crtE_0 {b : Bas} {a z sa sb : Int} (h : crtE b a z sa sb = 0) : validB b = true ∧ elemB b.gr a = true ∧ elsB b.gr z sa sb = true := by
  cases hv : validB b with
  | false => rw [crtE_1 hv] at h; cases h
  | true =>
    cases ha : elemB b.gr a with
    | false => rw [crtE_2 hv (.inl ha)] at h; cases h
    | true =>
      cases hs : elsB b.gr z sa sb with
      | false => rw [crtE_2 hv (.inr hs)] at h; cases h
      | true => exact ⟨rfl, rfl, rfl⟩
theorem crtC_n {b : Bas} {a z sa sb : Int} {root : Nat → Int} (e : crtE b a z sa sb = 0) : crtC b a root z sa sb = crtN b a root z sa sb := by unfold crtC; rw [e]; rfl
theorem crt_1 {b : Bas} {a z sa sb : Int} {root : Nat → Int} (h : validB b = false) : AV.tup [.int .i64 0, .int .i64 1] = crtV b a root z sa sb := by
  unfold crtV crtC; rw [crtE_1 h]; rfl
theorem crt_2 {b : Bas} {a z sa sb : Int} {root : Nat → Int} (h : validB b = true) (h' : elemB b.gr a = false ∨ elsB b.gr z sa sb = false) : AV.tup [.int .i64 0, .int .i64 2] = crtV b a root z sa sb := by
  unfold crtV crtC; rw [crtE_2 h h']; rfl
theorem crt_3 {b : Bas} {a z sa sb : Int} {root : Nat → Int} (h : validB b = true) (h' : elemB b.gr a = true ∧ elsB b.gr z sa sb = true) : AV.tup [.int .i64 (crtN b a root z sa sb), .int .i64 0] = crtV b a root z sa sb := by
  unfold crtV crtC; rw [crtE_3 h h']; rfl
theorem crtN_q {b : Bas} {a z sa sb : Int} {root : Nat → Int} (h : b.gr.Ok) : 0 ≤ crtN b a root z sa sb ∧ crtN b a root z sa sb < b.gr.q := num_by (by have := h.q3; omega) 16
end Go.Sp
namespace Go.Sp
open Go Go.Am
def scaB (G : Grp) (x : Int) : Bool := decide (x ≥ 0) && decide (x < G.q)
def eqsB (b : Bas) (h a z sa sb r c : Int) : Bool :=
  (b.gr.g ^ r.toNat % b.gr.p == h ^ c.toNat % b.gr.p * sa % b.gr.p) && (a ^ r.toNat % b.gr.p == z ^ c.toNat % b.gr.p * sb % b.gr.p)
def verR (b : Bas) (h h1 h2 a : Int) (root : Nat → Int) (z sa sb r : Int) : Bool :=
  keyB b h h1 h2 && msgB b.gr a && elsB b.gr z sa sb && scaB b.gr r && (crtN b a root z sa sb != 0 && eqsB b h a z sa sb r (crtN b a root z sa sb))
theorem msg_el {G : Grp} {x : Int} (h : msgB G x = true) : elemB G x = true := by unfold msgB at h; simp only [Bool.and_eq_true] at h; exact h.2
theorem msg_bnd {G : Grp} (hG : G.Ok) {x : Int} (h : msgB G x = true) : 0 ≤ x ∧ x < G.p := by have := elem_bnd hG (msg_el h); omega
theorem el_bnd {G : Grp} (hG : G.Ok) {x : Int} (h : elemB G x = true) : 0 ≤ x ∧ x < G.p := by have := elem_bnd hG h; omega
theorem key_1 {b : Bas} {h0 k1 k2 : Int} (h : keyB b h0 k1 k2 = true) : validB b = true ∧ msgB b.gr h0 = true := by
  unfold keyB at h; simp only [Bool.and_eq_true] at h; exact ⟨h.1.1.1, h.1.1.2⟩
theorem els_1 {G : Grp} {z sa sb : Int} (h : elsB G z sa sb = true) : elemB G z = true ∧ elemB G sa = true ∧ elemB G sb = true := by
  unfold elsB at h; simp only [Bool.and_eq_true] at h; exact ⟨h.1.1, h.1.2, h.2⟩
structure SigOk (b : Bas) (h0 a z sa sb r c : Int) : Prop where
  ok : b.gr.Ok
  g : 0 ≤ b.gr.g ∧ b.gr.g < b.gr.p
  h : 0 ≤ h0 ∧ h0 < b.gr.p
  a : 0 ≤ a ∧ a < b.gr.p
  z : 0 ≤ z ∧ z < b.gr.p
  sa : 0 ≤ sa ∧ sa < b.gr.p
  sb : 0 ≤ sb ∧ sb < b.gr.p
  r : 0 ≤ r ∧ r < b.gr.q
  c : 0 ≤ c ∧ c < b.gr.q
theorem sig_ok {b : Bas} {h0 k1 k2 a z sa sb r : Int} (root : Nat → Int) (hk : keyB b h0 k1 k2 = true) (hm : msgB b.gr a = true) (he : elsB b.gr z sa sb = true) (hr : 0 ≤ r ∧ r < b.gr.q) : SigOk b h0 a z sa sb r (crtN b a root z sa sb) := by
  have G := validB_ok (key_1 hk).1
  have h1 := G.g2
  exact ⟨G, ⟨by omega, G.g1⟩, msg_bnd G (key_1 hk).2, msg_bnd G hm, el_bnd G (els_1 he).1, el_bnd G (els_1 he).2.1, el_bnd G (els_1 he).2.2, hr, crtN_q G⟩
theorem sig_okC {b : Bas} {h0 k1 k2 a z sa sb r : Int} (root : Nat → Int) (hk : keyB b h0 k1 k2 = true) (hm : msgB b.gr a = true) (he : crtE b a z sa sb = 0) (hr : 0 ≤ r ∧ r < b.gr.q) : SigOk b h0 a z sa sb r (crtC b a root z sa sb) := by
  rw [crtC_n he]
  exact sig_ok root hk hm (crtE_0 he).2.2 hr
theorem ver_0 {b : Bas} {h0 k1 k2 a z sa sb r : Int} {root : Nat → Int} (h : keyB b h0 k1 k2 = false ∨ msgB b.gr a = false ∨ elsB b.gr z sa sb = false ∨ scaB b.gr r = false) : verR b h0 k1 k2 a root z sa sb r = false := by
  unfold verR; rcases h with h | h | h | h <;> simp [h]
theorem ver_c {b : Bas} {h0 k1 k2 a z sa sb r : Int} {root : Nat → Int} (hk : keyB b h0 k1 k2 = true) (hm : msgB b.gr a = true) (hc : crtE b a z sa sb ≠ 0 ∨ crtC b a root z sa sb = 0) : verR b h0 k1 k2 a root z sa sb r = false := by
  cases he : elsB b.gr z sa sb with
  | false => exact ver_0 (.inr (.inr (.inl he)))
  | true =>
    have e := crtE_3 (key_1 hk).1 ⟨msg_el hm, he⟩
    rcases hc with h | h
    · exact absurd e h
    · rw [crtC_n e] at h
      unfold verR; simp [h]
theorem ver_e {b : Bas} {h0 k1 k2 a z sa sb r : Int} {root : Nat → Int} (hk : keyB b h0 k1 k2 = true) (hm : msgB b.gr a = true) (hr : 0 ≤ r ∧ r < b.gr.q) (he : crtE b a z sa sb = 0) (hc : crtC b a root z sa sb ≠ 0) :
    verR b h0 k1 k2 a root z sa sb r = eqsB b h0 a z sa sb r (crtC b a root z sa sb) := by
  rw [crtC_n he] at hc ⊢
  unfold verR scaB
  simp [hk, hm, (crtE_0 he).2.2, hr.1, hr.2, hc]
theorem ver_r {b : Bas} {h0 k1 k2 a z sa sb r : Int} {root : Nat → Int} (hk : keyB b h0 k1 k2 = true) (hm : msgB b.gr a = true) (he : elsB b.gr z sa sb = true) (hr : 0 ≤ r ∧ r < b.gr.q) :
    verR b h0 k1 k2 a root z sa sb r = (crtN b a root z sa sb != 0 && eqsB b h0 a z sa sb r (crtN b a root z sa sb)) := by
  unfold verR scaB
  simp [hk, hm, he, hr.1, hr.2]
theorem mod_bnd {G : Grp} (h : G.Ok) (x : Int) : 0 ≤ x % G.p ∧ x % G.p < G.p := by
  have h3 := h.p3
  exact ⟨Int.emod_nonneg _ (by omega), Int.emod_lt_of_pos _ (by omega)⟩
theorem sca_0 {G : Grp} {r : Int} (h : ¬ r ≥ 0 ∨ ¬ r < G.q) : scaB G r = false := by
  unfold scaB
  rcases h with h | h <;> simp <;> omega
end Go.Sp

namespace Go.Proofs.YtolcfdcoidpieaaGreatDoor
open Go Go.Am Go.Sp
set_option maxRecDepth 100000
theorem encU_c (L:List It) (n:Nat) (F:Nat→Nat→AV) (hn:n=L.length) (hF:∀ i k,i<n→k<4→Ent [] (F i k) (atL (L.getD i (.int 0)).cells k)) (h:(lsI L).okD 8=true) (hl:(lsI L).enc.length≤16384) :
  Pure Tryz.prog gl0 140 [.agg [.int .i64 3,.int .i64 0,.nsl,.isl 4 n F]] (.tup [il .u8 (lsI L).enc,.int .i64 0]):=(encode_c (lsI L) h hl).via ⟨liU_out hn hF,trivial⟩
theorem rencU_c (L:List It) (n:Nat) (F:Nat→Nat→AV) (hn:n=L.length) (hF:∀ i k,i<n→k<4→Ent [] (F i k) (atL (L.getD i (.int 0)).cells k)) (hl:(lsI L).enc.length≤16384) :
  Pure Tryz.prog gl0 157 [.agg [.int .i64 3,.int .i64 0,.nsl,.isl 4 n F]] (il .u8 (lsI L).enc):=(renc_c (lsI L) (by omega)).via ⟨liU_out hn hF,trivial⟩
theorem crt_c (b:Bas) (a:Int) (root:Nat→Int) (z sa sb r:Int) (hw:b.gr.W) (hr:byB root 32):Pure Tryz.prog gl0 209 [b.av,.int .i64 a,.agg (u8c root),.agg [.int .i64 z,.int .i64 sa,.int .i64 sb,.int .i64 r]] (crtV b a root z sa sb):=by
 have hE:=elemsR_c b a z sa sb hw
 have he:=fun n F hn hF=>encU_c (crtJ b a root z sa sb) n F hn hF (crtI_ok b a z sa sb root) (by rw [show (lsI (crtJ b a root z sa sb)).enc.length=132 from crtI_len b a z sa sb root];decide)
 have ht:=tagged_c "specie/coin".toUTF8 (by decide) (by decide) (fun k=>(crtI b a root z sa sb).enc.getD k 0) (crtI b a root z sa sb).enc.length (by rw [crtI_len];decide) (It.enc_by (crtI_okB hr))
 have hn:=fun h1 h2=>number_c (tagI "specie/coin".toUTF8 (crtI b a root z sa sb)) b.gr.q h1 h2 (tagI_by _ _ _)
 refine pure_sk (own:=ow0) Tryz.func209 (by kernel_rfl) mixed (by kernel_rfl)
  (.sc (true) 34 ([AV.agg (Bas.cells b)]) (AV.bool (validB b)) (.br (!validB b) (.out (AV.tup [Zi 0,Zi 1]) [] (crtV b a root z sa sb) []) (.sc (true) 252 ([AV.agg (Bas.cells b),AV.isl 1 4 fun (r k:Nat)=>atL (List.getD [[Zi a],[Zi z],[Zi sa],[Zi sb]] (r+0) []) k]) (AV.bool (elemB (Bas.gr b) a&&elsB (Bas.gr b) z sa sb)) (.br (!(elemB b.1 a&&elsB b.1 z sa sb)) (.out (AV.tup [Zi 0,Zi 2]) [] (crtV b a root z sa sb) []) (.loop ({ x:Nat // x≤7 }) (fun (x:{ x:Nat // x≤7 })=>mkSt [4,6,7,10,49,50,51] [AV.own 0 6 0 0 6,AV.own 1 32 0 0 32,AV.own 2 4 0 0 4,AV.own 3 4 0 0 4,AV.osl 4 1 0 7,Zi (↑(7):Int),Zi (↑(x.1):Int)] [some ⟨6,1,true,Rep.lst [Bas.cells b]⟩,some ⟨32,1,true,Rep.lst [u8c root]⟩,some ⟨4,1,true,Rep.lst [[Zi z,Zi sa,Zi sb,Zi r]]⟩,some ⟨4,1,true,Rep.lst [[Zi 3,Zi 0,AV.nsl,AV.osl 5 4 0 (x.1)]]⟩,some ⟨1,7,true,Rep.fn fun (i x:Nat)=>Zi (crtL b a i)⟩,some ⟨4,x.1,true,Rep.row fun (i:Nat)=>It.cells (It.int (crtL b a i))⟩]) (fun (x:{ x:Nat // x≤7 })=>7 - x.1) (⟨0,Nat.zero_le 7⟩) ([4,6,7,10,49,50,51]) ([0,8,16,176,320,1373]) ([AV.own 0 6 0 0 6,AV.own 1 32 0 0 32,AV.own 2 4 0 0 4,AV.own 3 4 0 0 4,AV.osl 4 1 0 7,Zi (↑(7):Int),Zi 0]) ([some ⟨6,1,true,Rep.lst [Bas.cells b]⟩,some ⟨32,1,true,Rep.lst [u8c root]⟩,some ⟨4,1,true,Rep.lst [[Zi z,Zi sa,Zi sb,Zi r]]⟩,some ⟨4,1,true,Rep.lst [[Zi 3,Zi 0,AV.nsl,AV.nsl]]⟩,some ⟨1,7,true,Rep.lst [[Zi (Grp.p (Bas.gr b))],[Zi (Grp.q (Bas.gr b))],[Zi (Grp.g (Bas.gr b))],[Zi (Bas.g1 b)],[Zi (Bas.g2 b)],[Zi (Bas.h b)],[Zi a]]⟩,some ⟨4,0,true,Rep.lst []⟩]) (fun x6=>(.br (decide ((↑x6.1:Int)<(↑(7):Int))) (.req ((0:Int)≤(↑x6.1:Int)∧(↑x6.1:Int)<(↑(7):Int)) (.dc (true) 253 ([Zi (crtL b a (Int.toNat (↑x6.1:Int)+0))]) (It.av (It.int (crtL b a (Int.toNat (↑x6.1:Int)+0)))) (.req ((x6.1+1)*64≤140737488355328) (.again (Again 0 (fun (x:{ x:Nat // x≤7 })=>mkSt [4,6,7,10,49,50,51] [AV.own 0 6 0 0 6,AV.own 1 32 0 0 32,AV.own 2 4 0 0 4,AV.own 3 4 0 0 4,AV.osl 4 1 0 7,Zi (↑(7):Int),Zi (↑(x.1):Int)] [some ⟨6,1,true,Rep.lst [Bas.cells b]⟩,some ⟨32,1,true,Rep.lst [u8c root]⟩,some ⟨4,1,true,Rep.lst [[Zi z,Zi sa,Zi sb,Zi r]]⟩,some ⟨4,1,true,Rep.lst [[Zi 3,Zi 0,AV.nsl,AV.osl 5 4 0 (x.1)]]⟩,some ⟨1,7,true,Rep.fn fun (i x:Nat)=>Zi (crtL b a i)⟩,some ⟨4,x.1,true,Rep.row fun (i:Nat)=>It.cells (It.int (crtL b a i))⟩]) (fun (x:{ x:Nat // x≤7 })=>7 - x.1) x6) ([4,6,7,10,49,50,51]) ([0,1,2,3,4,78]) ([AV.own 0 6 0 0 6,AV.own 1 32 0 0 32,AV.own 2 4 0 0 4,AV.own 3 4 0 0 4,AV.osl 4 1 0 7,Zi (↑(7):Int),Zi (IntKind.wrap IntKind.i64 ((↑x6.1:Int)+1))]) ([some ⟨6,1,true,Rep.lst [Bas.cells b]⟩,some ⟨32,1,true,Rep.lst [u8c root]⟩,some ⟨4,1,true,Rep.lst [[Zi z,Zi sa,Zi sb,Zi r]]⟩,some ⟨4,1,true,Rep.lst [[Zi 3,Zi 0,AV.nsl,AV.osl 5 4 0 (x6.1+1)]]⟩,some ⟨1,7,true,Rep.fn fun (i j:Nat)=>Zi (crtL b a i)⟩,some ⟨4,x6.1+1,true,Rep.cat x6.1 (Rep.row fun (i:Nat)=>[Zi (It.kind (It.int (crtL b a i))),Zi (It.num (It.int (crtL b a i))),AV.isl 1 0 fun (i_1 x:Nat)=>Zb (It.fb (It.int (crtL b a i)) i_1),AV.isl 4 0 (It.row (It.int (crtL b a i)))]) (Rep.lst [[Zi (It.kind (It.int (crtL b a (Int.toNat (↑x6.1:Int)+0)))),Zi (It.num (It.int (crtL b a (Int.toNat (↑x6.1:Int)+0)))),AV.isl 1 0 fun (i x:Nat)=>Zb (It.fb (It.int (crtL b a (Int.toNat (↑x6.1:Int)+0))) i),AV.isl 4 0 (It.row (It.int (crtL b a (Int.toNat (↑x6.1:Int)+0))))]])⟩]))))) (.dc (true) 253 ([Zi z]) (It.av (It.int z)) (.dc (true) 253 ([Zi sa]) (It.av (It.int sa)) (.dc (true) 253 ([Zi sb]) (It.av (It.int sb)) (.req ((x6.1+4)*64≤140737488355328) (.dc (true) 140 ([AV.agg [Zi 3,Zi 0,AV.nsl,AV.isl 4 (x6.1+4) fun (r k:Nat)=>mixA (Nat.blt (r+0) x6.1) (atL [Zi (It.kind (It.int (crtL b a (r+0)))),Zi (It.num (It.int (crtL b a (r+0)))),AV.isl 1 0 fun (i x:Nat)=>Zb (It.fb (It.int (crtL b a (r+0))) i),AV.isl 4 0 (It.row (It.int (crtL b a (r+0))))] k) (atL (List.getD [[Zi 2,Zi 0,AV.isl 1 32 fun (r x:Nat)=>Zb (intOfAV (atL (u8c root) (0+(0+r)))),AV.nsl],[Zi (It.kind (It.int z)),Zi (It.num (It.int z)),AV.isl 1 0 fun (i x:Nat)=>Zb (It.fb (It.int z) i),AV.isl 4 0 (It.row (It.int z))],[Zi (It.kind (It.int sa)),Zi (It.num (It.int sa)),AV.isl 1 0 fun (i x:Nat)=>Zb (It.fb (It.int sa) i),AV.isl 4 0 (It.row (It.int sa))],[Zi (It.kind (It.int sb)),Zi (It.num (It.int sb)),AV.isl 1 0 fun (i x:Nat)=>Zb (It.fb (It.int sb) i),AV.isl 4 0 (It.row (It.int sb))]] (r+0 - x6.1) []) k)]]) (AV.tup [il IntKind.u8 (It.enc (lsI (crtJ b a root z sa sb))),Zi 0]) (.ff (.sc (true) 144 ([AV.str { data := #[(115:UInt8),(112:UInt8),(101:UInt8),(99:UInt8),(105:UInt8),(101:UInt8),(47:UInt8),(99:UInt8),(111:UInt8),(105:UInt8),(110:UInt8)] },AV.isl 1 132 fun (i x:Nat)=>Zb (List.getD (It.enc (lsI (crtJ b a root z sa sb))) i (0:Int))]) (AV.tup [AV.agg (u8c (tagF (String.toUTF8 "specie/coin") (List.length (It.enc (crtI b a root z sa sb))) fun (k:Nat)=>List.getD (It.enc (crtI b a root z sa sb)) k (0:Int))),Zi 0]) (.ff (.sc (true) 145 ([AV.agg (u8c (tagF (String.toUTF8 "specie/coin") 132 fun (k:Nat)=>List.getD (It.enc (crtI b a root z sa sb)) k (0:Int))),Zi (Bas.gr b).2]) (AV.tup [Zi (numF (tagI (String.toUTF8 "specie/coin") (crtI b a root z sa sb)) (Grp.q (Bas.gr b)) 16),Zi 0]) (.out (AV.tup [Zi (numF (tagI (String.toUTF8 "specie/coin") (crtI b a root z sa sb)) (Bas.gr b).2 16),Zi 0]) [] (crtV b a root z sa sb) [])))))))))))))))))
  (by kernel_rfl) ?_
 refine k_sc ((bvalid_c b) (by assumption)) ?_
 refine k_br (fun h1=>?_) (fun h1=>?_)
 ·have g1:=(cnd_not_t cnd_id_f) h1
  exact k_out (by exact Ent.of_eq (crt_1 g1))
 ·have g1:=(cnd_not_f cnd_id_t) h1
  refine k_sc (hE) ?_
  refine k_br (fun h4=>?_) (fun h4=>?_)
  ·have g4:=(cnd_not_t (cnd_and_f cnd_id_f cnd_id_f)) h4
   exact k_out (by exact Ent.of_eq (crt_2 g1 g4))
  ·have g4:=(cnd_not_f (cnd_and_t cnd_id_t cnd_id_t)) h4
   refine k_loop (fun _ hs=>hs.le (⟨.refl _,.refl _,.refl _,.refl _,.refl _,.refl _,.refl _,trivial⟩) (⟨.refl _,.refl _,.refl _,by exact ObEnt.row (by repeat' (first|exact trivial|(first|exact Ent.refl _|exact inc_ent (by omega)|exact Ent.nil rfl|exact Ent.of_eq (congrArg (AV.osl _ _ _) (by first|omega|(dsimp only;omega)))|exact Ent.of_eq (congrArg (AV.int _) (by first|omega|(dsimp only;omega))))|refine And.intro ?_ ?_)),crtL_ob,.zero,trivial⟩)) (fun x6=>?_)
   try (have q6:=x6.2;dsimp only at q6)
   refine k_br (fun h7=>?_) (fun h7=>?_)
   ·have g7:=cnd_dec_t h7
    refine k_req (by omega) ?_
    refine k_dc (numI_c (crtL b a (Int.toNat (↑x6.1:Int)+0))) ?_
    refine k_req (by omega) ?_
    exact k_again (⟨x6.1+1,by omega⟩) (fun _ hs=>hs.le (⟨.refl _,.refl _,.refl _,.refl _,.refl _,.refl _,inc_ent (by omega),trivial⟩) (⟨.refl _,.refl _,.refl _,.refl _,.refl _,.pushRow rfl,trivial⟩)) (by dsimp only;omega)
   ·have g7:=cnd_dec_f h7
    refine k_dc (numI_c (z)) ?_
    refine k_dc (numI_c (sa)) ?_
    refine k_dc (numI_c (sb)) ?_
    refine k_req (by omega) ?_
    refine k_dc (he (x6.1+4) (fun (r k:Nat)=>mixA (Nat.blt (r+0) x6.1) (atL [Zi (It.kind (It.int (crtL b a (r+0)))),Zi (It.num (It.int (crtL b a (r+0)))),AV.isl (1) (0) fun (i x:Nat)=>Zb (It.fb (It.int (crtL b a (r+0))) i),AV.isl (4) (0) (It.row (It.int (crtL b a (r+0))))] k) (atL (List.getD [[Zi 2,Zi 0,AV.isl (1) (32) fun (r x:Nat)=>Zb (intOfAV (atL (u8c root) (0+(0+r)))),AV.nsl],[Zi (It.kind (It.int z)),Zi (It.num (It.int z)),AV.isl (1) (0) fun (i x:Nat)=>Zb (It.fb (It.int z) i),AV.isl (4) (0) (It.row (It.int z))],[Zi (It.kind (It.int sa)),Zi (It.num (It.int sa)),AV.isl (1) (0) fun (i x:Nat)=>Zb (It.fb (It.int sa) i),AV.isl (4) (0) (It.row (It.int sa))],[Zi (It.kind (It.int sb)),Zi (It.num (It.int sb)),AV.isl (1) (0) fun (i x:Nat)=>Zb (It.fb (It.int sb) i),AV.isl (4) (0) (It.row (It.int sb))]] (r+0 - x6.1) []) k)) (by (show _=11;omega)) (by exact fun i k hi _=>crtF_ok (by omega) hi)) ?_
    refine k_ff ?_
    refine k_sc (ht) ?_
    refine k_ff ?_
    refine k_sc (hn (by exact (validB_q g1).1) (by exact (validB_q g1).2)) ?_
    exact k_out (by exact Ent.of_eq (crt_3 g1 g4))
theorem rcrt_c (b:Bas) (a:Int) (root:Nat→Int) (z sa sb r:Int) (hr:byB root 32) (hq:0<b.gr.q) (hq':b.gr.q<2305843009213693952):Pure Tryz.prog gl0 190 [b.av,.int .i64 a,.agg (u8c root),.agg [.int .i64 z,.int .i64 sa,.int .i64 sb,.int .i64 r]] (.int .i64 (crtN b a root z sa sb)):=by
 have he:=fun n F hn hF=>rencU_c (crtJ b a root z sa sb) n F hn hF (by rw [show (lsI (crtJ b a root z sa sb)).enc.length=132 from crtI_len b a z sa sb root];decide)
 have ht:=rtagged_c "specie/coin".toUTF8 (by decide) (fun k=>(crtI b a root z sa sb).enc.getD k 0) (crtI b a root z sa sb).enc.length (by rw [crtI_len];decide) (It.enc_by (crtI_okB hr))
 have hn:=rnumber_c (tagI "specie/coin".toUTF8 (crtI b a root z sa sb)) b.gr.q hq hq' (tagI_by _ _ _)
 refine pure_sk (own:=ow0) Tryz.func190 (by kernel_rfl) mixed (by kernel_rfl)
  (.dc (true) 237 ([AV.agg (Bas.cells b)]) (AV.isl 1 6 fun (i x:Nat)=>Zi (crtL b (0:Int) i)) (.loop ({ x:Nat // x≤6 }) (fun (x:{ x:Nat // x≤6 })=>mkSt [1,4,6,7,9,10,11] [Zi a,AV.own 0 6 0 0 6,AV.own 1 32 0 0 32,AV.own 2 4 0 0 4,AV.isl 1 6 fun (i x:Nat)=>Zi (crtL b (0:Int) i),AV.own 3 4 0 0 4,Zi (↑(x.1):Int)] [some ⟨6,1,true,Rep.lst [Bas.cells b]⟩,some ⟨32,1,true,Rep.lst [u8c root]⟩,some ⟨4,1,true,Rep.lst [[Zi z,Zi sa,Zi sb,Zi r]]⟩,some ⟨4,1,true,Rep.lst [[Zi 3,Zi 0,AV.nsl,AV.osl 4 4 0 (x.1)]]⟩,some ⟨4,x.1,true,Rep.row fun (i:Nat)=>It.cells (It.int (crtL b (0:Int) i))⟩]) (fun (x:{ x:Nat // x≤6 })=>6 - x.1) (⟨0,Nat.zero_le 6⟩) ([1,4,6,7,9,10,11]) ([0,8,16,64,1116]) ([Zi a,AV.own 0 6 0 0 6,AV.own 1 32 0 0 32,AV.own 2 4 0 0 4,AV.isl 1 6 fun (i x:Nat)=>Zi (crtL b (0:Int) i),AV.own 3 4 0 0 4,Zi 0]) ([some ⟨6,1,true,Rep.lst [Bas.cells b]⟩,some ⟨32,1,true,Rep.lst [u8c root]⟩,some ⟨4,1,true,Rep.lst [[Zi z,Zi sa,Zi sb,Zi r]]⟩,some ⟨4,1,true,Rep.lst [[Zi 3,Zi 0,AV.nsl,AV.nsl]]⟩,some ⟨4,0,true,Rep.lst []⟩]) (fun x1=>(.br (decide ((↑x1.1:Int)<(↑(6):Int))) (.req ((0:Int)≤(↑x1.1:Int)∧(↑x1.1:Int)<(↑(6):Int)) (.dc (true) 238 ([Zi (crtL b (0:Int) (Int.toNat (↑x1.1:Int)))]) (It.av (It.int (crtL b (0:Int) (Int.toNat (↑x1.1:Int))))) (.req ((x1.1+1)*64≤140737488355328) (.again (Again 0 (fun (x:{ x:Nat // x≤6 })=>mkSt [1,4,6,7,9,10,11] [Zi a,AV.own 0 6 0 0 6,AV.own 1 32 0 0 32,AV.own 2 4 0 0 4,AV.isl 1 6 fun (i x:Nat)=>Zi (crtL b (0:Int) i),AV.own 3 4 0 0 4,Zi (↑(x.1):Int)] [some ⟨6,1,true,Rep.lst [Bas.cells b]⟩,some ⟨32,1,true,Rep.lst [u8c root]⟩,some ⟨4,1,true,Rep.lst [[Zi z,Zi sa,Zi sb,Zi r]]⟩,some ⟨4,1,true,Rep.lst [[Zi 3,Zi 0,AV.nsl,AV.osl 4 4 0 (x.1)]]⟩,some ⟨4,x.1,true,Rep.row fun (i:Nat)=>It.cells (It.int (crtL b (0:Int) i))⟩]) (fun (x:{ x:Nat // x≤6 })=>6 - x.1) x1) ([1,4,6,7,9,10,11]) ([0,1,2,3,101]) ([Zi a,AV.own 0 6 0 0 6,AV.own 1 32 0 0 32,AV.own 2 4 0 0 4,AV.isl 1 6 fun (i x:Nat)=>Zi (crtL b (0:Int) i),AV.own 3 4 0 0 4,Zi (IntKind.wrap IntKind.i64 ((↑x1.1:Int)+1))]) ([some ⟨6,1,true,Rep.lst [Bas.cells b]⟩,some ⟨32,1,true,Rep.lst [u8c root]⟩,some ⟨4,1,true,Rep.lst [[Zi z,Zi sa,Zi sb,Zi r]]⟩,some ⟨4,1,true,Rep.lst [[Zi 3,Zi 0,AV.nsl,AV.osl 4 4 0 (x1.1+1)]]⟩,some ⟨4,x1.1+1,true,Rep.cat x1.1 (Rep.row fun (i:Nat)=>[Zi (It.kind (It.int (crtL b (0:Int) i))),Zi (It.num (It.int (crtL b (0:Int) i))),AV.isl 1 0 fun (i_1 x:Nat)=>Zb (It.fb (It.int (crtL b (0:Int) i)) i_1),AV.isl 4 0 (It.row (It.int (crtL b (0:Int) i)))]) (Rep.lst [[Zi (It.kind (It.int (crtL b (0:Int) (Int.toNat (↑x1.1:Int))))),Zi (It.num (It.int (crtL b (0:Int) (Int.toNat (↑x1.1:Int))))),AV.isl 1 0 fun (i x:Nat)=>Zb (It.fb (It.int (crtL b (0:Int) (Int.toNat (↑x1.1:Int)))) i),AV.isl 4 0 (It.row (It.int (crtL b (0:Int) (Int.toNat (↑x1.1:Int)))))]])⟩]))))) (.loop ({ x:Nat // x≤32 }) (fun (x:{ x:Nat // x≤32 })=>mkSt [1,4,6,7,10,12,13] [Zi a,AV.own 0 6 0 0 6,AV.own 1 32 0 0 32,AV.own 2 4 0 0 4,AV.own 3 4 0 0 4,AV.own 4 4 0 0 4,Zi (↑(x.1):Int)] [some ⟨6,1,true,Rep.lst [Bas.cells b]⟩,some ⟨32,1,true,Rep.lst [u8c root]⟩,some ⟨4,1,true,Rep.lst [[Zi z,Zi sa,Zi sb,Zi r]]⟩,some ⟨4,1,true,Rep.lst [[Zi 3,Zi 0,AV.nsl,AV.osl 5 4 0 x1.1]]⟩,some ⟨4,1,true,Rep.lst [[Zi 2,Zi 0,AV.osl 6 1 0 (x.1),AV.nsl]]⟩,some ⟨4,x1.1,true,Rep.row fun (i:Nat)=>[Zi (It.kind (It.int (crtL b (0:Int) i))),Zi (It.num (It.int (crtL b (0:Int) i))),AV.isl 1 0 fun (i_1 x:Nat)=>Zb (It.fb (It.int (crtL b (0:Int) i)) i_1),AV.isl 4 0 (It.row (It.int (crtL b (0:Int) i)))]⟩,some ⟨1,x.1,true,Rep.fn fun (i x:Nat)=>Zb (root i)⟩]) (fun (x:{ x:Nat // x≤32 })=>32 - x.1) (⟨0,Nat.zero_le 32⟩) ([1,4,6,7,10,12,13]) ([0,1,2,3,45,4,331]) ([Zi a,AV.own 0 6 0 0 6,AV.own 1 32 0 0 32,AV.own 2 4 0 0 4,AV.own 3 4 0 0 4,AV.own 4 4 0 0 4,Zi 0]) ([some ⟨6,1,true,Rep.lst [Bas.cells b]⟩,some ⟨32,1,true,Rep.lst [u8c root]⟩,some ⟨4,1,true,Rep.lst [[Zi z,Zi sa,Zi sb,Zi r]]⟩,some ⟨4,1,true,Rep.lst [[Zi 3,Zi 0,AV.nsl,AV.osl 5 4 0 x1.1]]⟩,some ⟨4,1,true,Rep.lst [[Zi 2,Zi 0,AV.nsl,AV.nsl]]⟩,some ⟨4,x1.1,true,Rep.row fun (i:Nat)=>[Zi (It.kind (It.int (crtL b (0:Int) i))),Zi (It.num (It.int (crtL b (0:Int) i))),AV.isl 1 0 fun (i_1 x:Nat)=>Zb (It.fb (It.int (crtL b (0:Int) i)) i_1),AV.isl 4 0 (It.row (It.int (crtL b (0:Int) i)))]⟩,some ⟨1,0,true,Rep.lst []⟩]) (fun x7=>(.br (decide ((↑x7.1:Int)<32)) (.req ((0:Int)≤(↑x7.1:Int)∧(↑x7.1:Int)<(↑(32):Int)) (.req ((x7.1+1)*1≤140737488355328) (.again (Again 0 (fun (x:{ x:Nat // x≤32 })=>mkSt [1,4,6,7,10,12,13] [Zi a,AV.own 0 6 0 0 6,AV.own 1 32 0 0 32,AV.own 2 4 0 0 4,AV.own 3 4 0 0 4,AV.own 4 4 0 0 4,Zi (↑(x.1):Int)] [some ⟨6,1,true,Rep.lst [Bas.cells b]⟩,some ⟨32,1,true,Rep.lst [u8c root]⟩,some ⟨4,1,true,Rep.lst [[Zi z,Zi sa,Zi sb,Zi r]]⟩,some ⟨4,1,true,Rep.lst [[Zi 3,Zi 0,AV.nsl,AV.osl 5 4 0 x1.1]]⟩,some ⟨4,1,true,Rep.lst [[Zi 2,Zi 0,AV.osl 6 1 0 (x.1),AV.nsl]]⟩,some ⟨4,x1.1,true,Rep.row fun (i:Nat)=>[Zi (It.kind (It.int (crtL b (0:Int) i))),Zi (It.num (It.int (crtL b (0:Int) i))),AV.isl 1 0 fun (i_1 x:Nat)=>Zb (It.fb (It.int (crtL b (0:Int) i)) i_1),AV.isl 4 0 (It.row (It.int (crtL b (0:Int) i)))]⟩,some ⟨1,x.1,true,Rep.fn fun (i x:Nat)=>Zb (root i)⟩]) (fun (x:{ x:Nat // x≤32 })=>32 - x.1) x7) ([1,4,6,7,10,12,13]) ([0,1,2,3,4,5,71]) ([Zi a,AV.own 0 6 0 0 6,AV.own 1 32 0 0 32,AV.own 2 4 0 0 4,AV.own 3 4 0 0 4,AV.own 4 4 0 0 4,Zi (IntKind.wrap IntKind.i64 ((↑x7.1:Int)+1))]) ([some ⟨6,1,true,Rep.lst [Bas.cells b]⟩,some ⟨32,1,true,Rep.lst [u8c root]⟩,some ⟨4,1,true,Rep.lst [[Zi z,Zi sa,Zi sb,Zi r]]⟩,some ⟨4,1,true,Rep.lst [[Zi 3,Zi 0,AV.nsl,AV.osl 5 4 0 x1.1]]⟩,some ⟨4,1,true,Rep.lst [[Zi 2,Zi 0,AV.osl 6 1 0 (x7.1+1),AV.nsl]]⟩,some ⟨4,x1.1,true,Rep.row fun (i:Nat)=>[Zi (It.kind (It.int (crtL b (0:Int) i))),Zi (It.num (It.int (crtL b (0:Int) i))),AV.isl 1 0 fun (i_1 x:Nat)=>Zb (It.fb (It.int (crtL b (0:Int) i)) i_1),AV.isl 4 0 (It.row (It.int (crtL b (0:Int) i)))]⟩,some ⟨1,x7.1+1,true,Rep.fn fun (i j:Nat)=>Zb (bif Nat.blt i x7.1 then root i else intOfAV (atL [Zb (intOfAV (Rep.at (Ob.f (Ob.seen ⟨32,1,true,Rep.lst [u8c root]⟩)) 0 (0+Int.toNat (↑(x7.1):Int))))] j))⟩])))) (.dc (true) 238 ([Zi a]) (It.av (It.int a)) (.dc (true) 238 ([Zi z]) (It.av (It.int z)) (.dc (true) 238 ([Zi sa]) (It.av (It.int sa)) (.dc (true) 238 ([Zi sb]) (It.av (It.int sb)) (.req ((x1.1+5)*64≤140737488355328) (.dc (true) 157 ([AV.agg [Zi 3,Zi 0,AV.nsl,AV.isl 4 (x1.1+5) fun (r k:Nat)=>mixA (Nat.blt (r+0) x1.1) (atL [Zi (It.kind (It.int (crtL b (0:Int) (r+0)))),Zi (It.num (It.int (crtL b (0:Int) (r+0)))),AV.isl 1 0 fun (i x:Nat)=>Zb (It.fb (It.int (crtL b (0:Int) (r+0))) i),AV.isl 4 0 (It.row (It.int (crtL b (0:Int) (r+0))))] k) (atL (List.getD [[Zi (It.kind (It.int a)),Zi (It.num (It.int a)),AV.isl 1 0 fun (i x:Nat)=>Zb (It.fb (It.int a) i),AV.isl 4 0 (It.row (It.int a))],[Zi 2,Zi 0,AV.isl 1 x7.1 fun (r k:Nat)=>Zb (root (r+0)),AV.nsl],[Zi (It.kind (It.int z)),Zi (It.num (It.int z)),AV.isl 1 0 fun (i x:Nat)=>Zb (It.fb (It.int z) i),AV.isl 4 0 (It.row (It.int z))],[Zi (It.kind (It.int sa)),Zi (It.num (It.int sa)),AV.isl 1 0 fun (i x:Nat)=>Zb (It.fb (It.int sa) i),AV.isl 4 0 (It.row (It.int sa))],[Zi (It.kind (It.int sb)),Zi (It.num (It.int sb)),AV.isl 1 0 fun (i x:Nat)=>Zb (It.fb (It.int sb) i),AV.isl 4 0 (It.row (It.int sb))]] (r+0 - x1.1) []) k)]]) (il IntKind.u8 (It.enc (lsI (crtJ b a root z sa sb)))) (.sc (true) 156 ([AV.str { data := #[(115:UInt8),(112:UInt8),(101:UInt8),(99:UInt8),(105:UInt8),(101:UInt8),(47:UInt8),(99:UInt8),(111:UInt8),(105:UInt8),(110:UInt8)] },AV.isl 1 132 fun (i x:Nat)=>Zb (List.getD (It.enc (lsI (crtJ b a root z sa sb))) i (0:Int))]) (AV.agg (u8c (tagF (String.toUTF8 "specie/coin") (List.length (It.enc (crtI b a root z sa sb))) fun (k:Nat)=>List.getD (It.enc (crtI b a root z sa sb)) k (0:Int)))) (.sc (true) 155 ([AV.agg (u8c (tagF (String.toUTF8 "specie/coin") 132 fun (k:Nat)=>List.getD (It.enc (crtI b a root z sa sb)) k (0:Int))),Zi (Bas.gr b).2]) (Zi (numF (tagI (String.toUTF8 "specie/coin") (crtI b a root z sa sb)) (Grp.q (Bas.gr b)) 16)) (.out (Zi (numF (tagI (String.toUTF8 "specie/coin") (crtI b a root z sa sb)) (Bas.gr b).2 16)) [] (Zi (crtN b a root z sa sb)) []))))))))))))))))
  (by kernel_rfl) ?_
 refine k_dc ((rNumbers_c b)) ?_
 refine k_loop (fun _ hs=>hs.le (⟨.refl _,.refl _,.refl _,.refl _,.refl _,.refl _,.refl _,trivial⟩) (by repeat' (first|exact trivial|(first|exact ObEnt.refl _|exact ObEnt.junk|exact ObEnt.zero|exact ObEnt.push rfl rfl|exact ObEnt.pushRow rfl|exact ObEnt.len (by omega)|exact ObEnt.row (by repeat' (first|exact trivial|(first|exact Ent.refl _|exact inc_ent (by omega)|exact Ent.nil rfl|exact Ent.of_eq (congrArg (AV.osl _ _ _) (by first|omega|(dsimp only;omega)))|exact Ent.of_eq (congrArg (AV.int _) (by first|omega|(dsimp only;omega))))|refine And.intro ?_ ?_)))|refine And.intro ?_ ?_))) (fun x1=>?_)
 try (have q1:=x1.2;dsimp only at q1)
 refine k_br (fun h2=>?_) (fun h2=>?_)
 ·have g2:=cnd_dec_t h2
  refine k_req (by omega) ?_
  refine k_dc (rnumI_c (crtL b (0:Int) (Int.toNat (↑x1.1:Int)))) ?_
  refine k_req (by omega) ?_
  exact k_again (⟨x1.1+1,by omega⟩) (fun _ hs=>hs.le (⟨.refl _,.refl _,.refl _,.refl _,.refl _,.refl _,inc_ent (by omega),trivial⟩) (⟨.refl _,.refl _,.refl _,.refl _,.pushRow rfl,trivial⟩)) (by dsimp only;omega)
 ·have g2:=cnd_dec_f h2
  refine k_loop (fun _ hs=>hs.le (⟨.refl _,.refl _,.refl _,.refl _,.refl _,.refl _,.refl _,trivial⟩) (by repeat' (first|exact trivial|(first|exact ObEnt.refl _|exact ObEnt.junk|exact ObEnt.zero|exact ObEnt.push rfl rfl|exact ObEnt.pushRow rfl|exact ObEnt.len (by omega)|exact ObEnt.row (by repeat' (first|exact trivial|(first|exact Ent.refl _|exact inc_ent (by omega)|exact Ent.nil rfl|exact Ent.of_eq (congrArg (AV.osl _ _ _) (by first|omega|(dsimp only;omega)))|exact Ent.of_eq (congrArg (AV.int _) (by first|omega|(dsimp only;omega))))|refine And.intro ?_ ?_)))|refine And.intro ?_ ?_))) (fun x7=>?_)
  try (have q7:=x7.2;dsimp only at q7)
  refine k_br (fun h8=>?_) (fun h8=>?_)
  ·have g8:=cnd_dec_t h8
   refine k_req (by omega) ?_
   refine k_req (by omega) ?_
   exact k_again (⟨x7.1+1,by omega⟩) (fun _ hs=>hs.le (⟨.refl _,.refl _,.refl _,.refl _,.refl _,.refl _,inc_ent (by omega),trivial⟩) (⟨.refl _,.refl _,.refl _,.refl _,.refl _,.refl _,root_push rfl (rootc_at (by omega)),trivial⟩)) (by dsimp only;omega)
  ·have g8:=cnd_dec_f h8
   refine k_dc (rnumI_c (a)) ?_
   refine k_dc (rnumI_c (z)) ?_
   refine k_dc (rnumI_c (sa)) ?_
   refine k_dc (rnumI_c (sb)) ?_
   refine k_req (by omega) ?_
   refine k_dc (he (x1.1+5) (fun (r k:Nat)=>mixA (Nat.blt (r+0) x1.1) (atL [Zi (It.kind (It.int (crtL b (0:Int) (r+0)))),Zi (It.num (It.int (crtL b (0:Int) (r+0)))),AV.isl (1) (0) fun (i x:Nat)=>Zb (It.fb (It.int (crtL b (0:Int) (r+0))) i),AV.isl (4) (0) (It.row (It.int (crtL b (0:Int) (r+0))))] k) (atL (List.getD [[Zi (It.kind (It.int a)),Zi (It.num (It.int a)),AV.isl (1) (0) fun (i x:Nat)=>Zb (It.fb (It.int a) i),AV.isl (4) (0) (It.row (It.int a))],[Zi 2,Zi 0,AV.isl (1) x7.1 fun (r k:Nat)=>Zb (root (r+0)),AV.nsl],[Zi (It.kind (It.int z)),Zi (It.num (It.int z)),AV.isl (1) (0) fun (i x:Nat)=>Zb (It.fb (It.int z) i),AV.isl (4) (0) (It.row (It.int z))],[Zi (It.kind (It.int sa)),Zi (It.num (It.int sa)),AV.isl (1) (0) fun (i x:Nat)=>Zb (It.fb (It.int sa) i),AV.isl (4) (0) (It.row (It.int sa))],[Zi (It.kind (It.int sb)),Zi (It.num (It.int sb)),AV.isl (1) (0) fun (i x:Nat)=>Zb (It.fb (It.int sb) i),AV.isl (4) (0) (It.row (It.int sb))]] (r+0 - x1.1) []) k)) (by (show _=11;omega)) (by exact fun i k hi _=>rcrtF_ok (by omega) (by omega) hi)) ?_
   refine k_sc (ht) ?_
   refine k_sc (hn) ?_
   exact k_out (Ent.of_eq rfl)
theorem verR_c (b:Bas) (k0 k1 k2 a:Int) (root:Nat→Int) (z sa sb r:Int) (hw:b.gr.W) (hr:byB root 32) :
  Pure Tryz.prog gl0 139 [b.av,.agg [.int .i64 k0,.int .i64 k1,.int .i64 k2],.int .i64 a,.agg (u8c root),.agg [.int .i64 z,.int .i64 sa,.int .i64 sb,.int .i64 r]] (.bool (verR b k0 k1 k2 a root z sa sb r)):=by
 have hv:=validR_c b k0 k1 k2 hw
 have hm:=messageR_c b a hw
 have hs:=scalR_c b r
 have hc:=crt_c b a root z sa sb r hw hr
 have K:(keyB b k0 k1 k2=true∧msgB b.gr a=true)∧0≤r∧r<b.gr.q→crtE b a z sa sb=0∧¬crtC b a root z sa sb=0→SigOk b k0 a z sa sb r (crtC b a root z sa sb):=fun u v=>sig_okC root u.1.1 u.1.2 v.1 u.2
 refine pure_sk (own:=ow0) Tryz.func139 (by kernel_rfl) mixed (by kernel_rfl)
  (let y0:AV:=(AV.bool (verR b k0 k1 k2 a root z sa sb r));(.sc (true) 206 ([AV.agg (Bas.cells b),AV.agg [Zi k0,Zi k1,Zi k2]]) (AV.bool (keyB b k0 k1 k2)) (.sc ((!keyB b k0 k1 k2)==false) 207 ([AV.agg (Bas.cells b),Zi a]) (AV.bool (msgB (Bas.gr b) a)) (.sc ((!keyB b k0 k1 k2 || !msgB b.1 a)==false) 208 ([AV.agg (Bas.cells b),Zi r]) (AV.bool (decide (r≥0)&&decide (r<Grp.q (Bas.gr b)))) (.br (!keyB b k0 k1 k2 || !msgB b.1 a || !(decide (r≥0)&&decide (r<(Bas.gr b).2))) (.out (AV.bool false) [] y0 []) (.sc (true) 209 ([AV.agg (Bas.cells b),Zi a,AV.agg (u8c root),AV.agg [Zi z,Zi sa,Zi sb,Zi r]]) (crtV b a root z sa sb) (.br (crtE b a z sa sb != 0||crtC b a root z sa sb==0) (.out (AV.bool false) [] y0 []) (.sc (true) 210 ([AV.agg (Bas.cells b),Zi (Bas.gr b).3,Zi r]) (Zi ((Bas.gr b).3^Int.toNat r%Grp.p (Bas.gr b))) (.sc (true) 211 ([AV.agg (Bas.cells b),Zi k0,Zi (crtC b a root z sa sb),Zi sa,Zi 1]) (Zi (k0^Int.toNat (crtC b a root z sa sb)%Grp.p (Bas.gr b)*sa%Grp.p (Bas.gr b))) (.sc (((Bas.gr b).3^Int.toNat r%(Bas.gr b).1==k0^Int.toNat (crtC b a root z sa sb)%(Bas.gr b).1*sa%(Bas.gr b).1)==true) 210 ([AV.agg (Bas.cells b),Zi a,Zi r]) (Zi (a^Int.toNat r%Grp.p (Bas.gr b))) (.sc (((Bas.gr b).3^Int.toNat r%(Bas.gr b).1==k0^Int.toNat (crtC b a root z sa sb)%(Bas.gr b).1*sa%(Bas.gr b).1)==true) 211 ([AV.agg (Bas.cells b),Zi z,Zi (crtC b a root z sa sb),Zi sb,Zi 1]) (Zi (z^Int.toNat (crtC b a root z sa sb)%Grp.p (Bas.gr b)*sb%Grp.p (Bas.gr b))) (.out (AV.bool ((Bas.gr b).3^Int.toNat r%(Bas.gr b).1==k0^Int.toNat (crtC b a root z sa sb)%(Bas.gr b).1*sa%(Bas.gr b).1&&a^Int.toNat r%(Bas.gr b).1==z^Int.toNat (crtC b a root z sa sb)%(Bas.gr b).1*sb%(Bas.gr b).1)) [] y0 []))))))))))))
  (by kernel_rfl) ?_
 refine k_sc (hv) ?_
 refine k_scg (fun h1=>hm) ?_
 refine k_scg (fun h2=>hs) ?_
 refine k_br (fun h3=>?_) (fun h3=>?_)
 ·have g3:=(cnd_or_t (cnd_or_t (cnd_not_t cnd_id_f) (cnd_not_t cnd_id_f)) (cnd_not_t (cnd_and_f cnd_dec_f cnd_dec_f))) h3
  exact k_out (Ent.of_eq (congrArg _ (by rcases g3 with (h|h)|h;(· exact (ver_0 (.inl h)).symm);(· exact (ver_0 (.inr (.inl h))).symm);(· exact (ver_0 (.inr (.inr (.inr (sca_0 h))))).symm))))
 ·have g3:=(cnd_or_f (cnd_or_f (cnd_not_f cnd_id_t) (cnd_not_f cnd_id_t)) (cnd_not_f (cnd_and_t cnd_dec_t cnd_dec_t))) h3
  refine k_sc (hc) ?_
  refine k_br (fun h6=>?_) (fun h6=>?_)
  ·have g6:=(cnd_or_t cnd_bne_t cnd_beq_t) h6
   exact k_out (Ent.of_eq (congrArg _ (ver_c g3.1.1 g3.1.2 g6).symm))
  ·have g6:=(cnd_or_f cnd_bne_f cnd_beq_f) h6
   refine k_sc ((powR_c b) ((Bas.gr b).3) (r) (by cases K g3 g6;assumption) (by cases K g3 g6;assumption) (by cases K g3 g6;assumption)) ?_
   refine k_sc ((prodR_c b) (k0) (crtC b a root z sa sb) (sa) (by cases K g3 g6;assumption) (by cases K g3 g6;assumption) (by cases K g3 g6;assumption) (by cases K g3 g6;assumption)) ?_
   refine k_scg (fun h10=>(powR_c b) (a) (r) (by cases K g3 g6;assumption) (by cases K g3 g6;assumption) (by cases K g3 g6;assumption)) ?_
   refine k_scg (fun h11=>(prodR_c b) (z) (crtC b a root z sa sb) (sb) (by cases K g3 g6;assumption) (by cases K g3 g6;assumption) (by cases K g3 g6;assumption) (by cases K g3 g6;assumption)) ?_
   exact k_out (Ent.of_eq (congrArg _ (ver_e g3.1.1 g3.1.2 g3.2 g6.1 g6.2).symm))
theorem rverR_c (b:Bas) (k0 k1 k2 a:Int) (root:Nat→Int) (z sa sb r:Int) (hw:b.gr.W) (hr:byB root 32) :
  Pure Tryz.prog gl0 118 [b.av,.agg [.int .i64 k0,.int .i64 k1,.int .i64 k2],.int .i64 a,.agg (u8c root),.agg [.int .i64 z,.int .i64 sa,.int .i64 sb,.int .i64 r]] (.bool (verR b k0 k1 k2 a root z sa sb r)):=by
 have hv:=rkey_c b k0 k1 k2 hw
 have hm:=rmsg_c b.gr a
 have he:=relems_c b.gr z sa sb r
 have hs:=rscalR_c b.gr r
 have hc:=rcrt_c b a root z sa sb r hr
 have K:((keyB b k0 k1 k2=true∧msgB b.gr a=true)∧elsB b.gr z sa sb=true)∧0≤r∧r<b.gr.q→SigOk b k0 a z sa sb r (crtN b a root z sa sb):=fun u=>sig_ok root u.1.1.1 u.1.1.2 u.1.2 u.2
 refine pure_sk (own:=ow0) Tryz.func118 (by kernel_rfl) mixed (by kernel_rfl)
  (let y0:List AV:=[Zi (Bas.gr b).1,Zi (Bas.gr b).2,Zi (Bas.gr b).3];let y1:AV:=(AV.bool (verR b k0 k1 k2 a root z sa sb r));(.sc (true) 183 ([AV.agg (Bas.cells b),AV.agg [Zi k0,Zi k1,Zi k2]]) (AV.bool (keyB b k0 k1 k2)) (.sc ((!keyB b k0 k1 k2)==false) 187 ([AV.agg y0,Zi a]) (AV.bool (msgB (Bas.gr b) a)) (.sc ((!keyB b k0 k1 k2 || !msgB b.1 a)==false) 188 ([AV.agg y0,AV.agg [Zi z,Zi sa,Zi sb,Zi r]]) (AV.bool (elsB (Bas.gr b) z sa sb)) (.sc ((!keyB b k0 k1 k2 || !msgB b.1 a || !elsB b.1 z sa sb)==false) 189 ([AV.agg y0,Zi r]) (AV.bool (decide (r≥0)&&decide (r<Grp.q (Bas.gr b)))) (.br (!keyB b k0 k1 k2 || !msgB b.1 a || !elsB b.1 z sa sb || !(decide (r≥0)&&decide (r<(Bas.gr b).2))) (.out (AV.bool false) [] y1 []) (.sc (true) 190 ([AV.agg (Bas.cells b),Zi a,AV.agg (u8c root),AV.agg [Zi z,Zi sa,Zi sb,Zi r]]) (Zi (crtN b a root z sa sb)) (.sc ((crtN b a root z sa sb != 0)==true) 191 ([AV.agg y0,Zi (Bas.gr b).3,Zi r]) (Zi ((Bas.gr b).3^Int.toNat r%Grp.p (Bas.gr b))) (.sc ((crtN b a root z sa sb != 0)==true) 191 ([AV.agg y0,Zi k0,Zi (crtN b a root z sa sb)]) (Zi (k0^Int.toNat (crtN b a root z sa sb)%Grp.p (Bas.gr b))) (.sc ((crtN b a root z sa sb != 0)==true) 192 ([AV.agg y0,Zi (k0^Int.toNat (crtN b a root z sa sb)%(Bas.gr b).1),Zi sa]) (Zi (k0^Int.toNat (crtN b a root z sa sb)%(Bas.gr b).1*sa%Grp.p (Bas.gr b))) (.sc ((crtN b a root z sa sb != 0&&(Bas.gr b).3^Int.toNat r%(Bas.gr b).1==k0^Int.toNat (crtN b a root z sa sb)%(Bas.gr b).1*sa%(Bas.gr b).1)==true) 191 ([AV.agg y0,Zi a,Zi r]) (Zi (a^Int.toNat r%Grp.p (Bas.gr b))) (.sc ((crtN b a root z sa sb != 0&&(Bas.gr b).3^Int.toNat r%(Bas.gr b).1==k0^Int.toNat (crtN b a root z sa sb)%(Bas.gr b).1*sa%(Bas.gr b).1)==true) 191 ([AV.agg y0,Zi z,Zi (crtN b a root z sa sb)]) (Zi (z^Int.toNat (crtN b a root z sa sb)%Grp.p (Bas.gr b))) (.sc ((crtN b a root z sa sb != 0&&(Bas.gr b).3^Int.toNat r%(Bas.gr b).1==k0^Int.toNat (crtN b a root z sa sb)%(Bas.gr b).1*sa%(Bas.gr b).1)==true) 192 ([AV.agg y0,Zi (z^Int.toNat (crtN b a root z sa sb)%(Bas.gr b).1),Zi sb]) (Zi (z^Int.toNat (crtN b a root z sa sb)%(Bas.gr b).1*sb%Grp.p (Bas.gr b))) (.out (AV.bool (crtN b a root z sa sb != 0&&(Bas.gr b).3^Int.toNat r%(Bas.gr b).1==k0^Int.toNat (crtN b a root z sa sb)%(Bas.gr b).1*sa%(Bas.gr b).1&&a^Int.toNat r%(Bas.gr b).1==z^Int.toNat (crtN b a root z sa sb)%(Bas.gr b).1*sb%(Bas.gr b).1)) [] y1 []))))))))))))))
  (by kernel_rfl) ?_
 refine k_sc (hv) ?_
 refine k_scg (fun h1=>hm ((validB_ok (key_1 (by simpa using h1)).1))) ?_
 refine k_scg (fun h2=>he ((validB_ok (key_1 (by simp at h2;exact h2.1)).1))) ?_
 refine k_scg (fun h3=>hs) ?_
 refine k_br (fun h4=>?_) (fun h4=>?_)
 ·have g4:=(cnd_or_t (cnd_or_t (cnd_or_t (cnd_not_t cnd_id_f) (cnd_not_t cnd_id_f)) (cnd_not_t cnd_id_f)) (cnd_not_t (cnd_and_f cnd_dec_f cnd_dec_f))) h4
  exact k_out (Ent.of_eq (congrArg _ (by rcases g4 with ((h|h)|h)|h;(· exact (ver_0 (.inl h)).symm);(· exact (ver_0 (.inr (.inl h))).symm);(· exact (ver_0 (.inr (.inr (.inl h)))).symm);(· exact (ver_0 (.inr (.inr (.inr (sca_0 h))))).symm))))
 ·have g4:=(cnd_or_f (cnd_or_f (cnd_or_f (cnd_not_f cnd_id_t) (cnd_not_f cnd_id_t)) (cnd_not_f cnd_id_t)) (cnd_not_f (cnd_and_t cnd_dec_t cnd_dec_t))) h4
  refine k_sc (hc (by (have:=(K g4).ok;exact (validB_q (key_1 g4.1.1.1).1).1)) (by exact (validB_q (key_1 g4.1.1.1).1).2)) ?_
  refine k_scg (fun h7=>(rpowR_c (Bas.gr b)) ((Bas.gr b).3) (r) (by (cases K g4;assumption)) (by (cases K g4;assumption)) (by (cases K g4;assumption))) ?_
  refine k_scg (fun h8=>(rpowR_c (Bas.gr b)) (k0) (crtN b a root z sa sb) (by (cases K g4;assumption)) (by (cases K g4;assumption)) (by (cases K g4;assumption))) ?_
  refine k_scg (fun h9=>(rmulR_c (Bas.gr b)) (k0^Int.toNat (crtN b a root z sa sb)%(Bas.gr b).1) (sa) (by (cases K g4;assumption)) (by exact mod_bnd (K g4).ok _) (by (cases K g4;assumption))) ?_
  refine k_scg (fun h10=>(rpowR_c (Bas.gr b)) (a) (r) (by (cases K g4;assumption)) (by (cases K g4;assumption)) (by (cases K g4;assumption))) ?_
  refine k_scg (fun h11=>(rpowR_c (Bas.gr b)) (z) (crtN b a root z sa sb) (by (cases K g4;assumption)) (by (cases K g4;assumption)) (by (cases K g4;assumption))) ?_
  refine k_scg (fun h12=>(rmulR_c (Bas.gr b)) (z^Int.toNat (crtN b a root z sa sb)%(Bas.gr b).1) (sb) (by (cases K g4;assumption)) (by exact mod_bnd (K g4).ok _) (by (cases K g4;assumption))) ?_
  exact k_out (Ent.of_eq (congrArg _ ((Bool.and_assoc _ _ _).trans (ver_r g4.1.1.1 g4.1.1.2 g4.1.2 g4.2).symm)))
end Go.Proofs.YtolcfdcoidpieaaGreatDoor

namespace Go.Sp
open Go Go.Am
def coinV (b : Bas) (r : Rcd) (c : Coin) : Bool :=
  rcvB b r && c.bank == r.bank && c.epoch == r.epoch && c.denom == r.denom && c.depth == r.depth && verR b r.h r.h1 r.h2 c.a c.root c.z c.sa c.sb c.r
def lvB (n : Int) : Bool := decide (firstI (fun i => n == (2 ^ i : Nat)) 6 0 ≥ 0)
theorem lvB_f : ∀ d : Fin 6, lvB ((2 ^ d.1 : Nat) : Int) = true := by decide +kernel
theorem lvB_d {d : Nat} (h : d ≤ 5) : lvB ((2 ^ d : Nat) : Int) = true := lvB_f ⟨d, by omega⟩
theorem hsl_out {os : List (Option Ob)} {n m : Nat} {F : Nat → Nat → Int} (hn : m = n) : Ent os (.isl 32 m fun r k => atL (u8c (F r)) k) (hsl n F) := by
  subst hn
  exact Ent.isl fun i j _ hj => atL_map_range (es := 32) (g := fun j => AV.int .u8 (F i j)) hj
theorem tup2_out {os : List (Option Ob)} {a b : AV} {v : AV} (h : Ent os a b) : Ent os (.tup [a, v]) (.tup [b, v]) := Ent.tup ⟨h, Ent.refl _, trivial⟩
end Go.Sp

namespace Go.Proofs.YtolcfdcoidpieaaGreatDoor
open Go Go.Am Go.Sp
set_option maxRecDepth 100000
theorem cval_c (b:Bas) (r:Rcd) (c:Coin) (hw:b.gr.W) (hr:byB c.root 32):Pure Tryz.prog gl0 70 [b.av,r.av,c.av] (.bool (coinV b r c)):=by
 have hv:=recV_c b r hw
 have hs:=verR_c b r.h r.h1 r.h2 c.a c.root c.z c.sa c.sb c.r hw hr
 refine pure_sk (own:=ow0) Tryz.func70 (by kernel_rfl) mixed (by kernel_rfl)
  (.sc (true) 138 ([AV.agg (Bas.cells b),AV.agg (Rcd.cells r)]) (AV.bool (rcvB b r)) (.sc ((rcvB b r&&c.1==r.1&&c.2==r.2&&c.3==r.3&&c.4==r.5)==true) 139 ([AV.agg (Bas.cells b),AV.agg [Zi r.6,Zi r.7,Zi r.8],Zi c.5,AV.agg (u8c c.6),AV.agg [Zi c.7,Zi c.8,Zi c.9,Zi c.10]]) (AV.bool (verR b (Rcd.h r) (Rcd.h1 r) (Rcd.h2 r) (Coin.a c) (Coin.root c) (Coin.z c) (Coin.sa c) (Coin.sb c) (Coin.r c))) (.out (AV.bool (rcvB b r&&c.1==r.1&&c.2==r.2&&c.3==r.3&&c.4==r.5&&verR b r.6 r.7 r.8 c.5 c.6 c.7 c.8 c.9 c.10)) [] (AV.bool (coinV b r c)) [])))
  (by kernel_rfl) ?_
 refine k_sc (hv) ?_
 refine k_scg (fun h1=>hs) ?_
 exact k_out (Ent.refl _)
theorem rcval_c (b:Bas) (r:Rcd) (c:Coin) (hw:b.gr.W) (hr:byB c.root 32):Pure Tryz.prog gl0 58 [b.av,r.av,c.av] (.bool (coinV b r c)):=by
 have hv:=rrecV_c b r hw
 have hs:=rverR_c b r.h r.h1 r.h2 c.a c.root c.z c.sa c.sb c.r hw hr
 refine pure_sk (own:=ow0) Tryz.func58 (by kernel_rfl) mixed (by kernel_rfl)
  (.sc (true) 117 ([AV.agg (Bas.cells b),AV.agg (Rcd.cells r)]) (AV.bool (rcvB b r)) (.sc ((rcvB b r&&c.1==r.1&&c.2==r.2&&c.3==r.3&&c.4==r.5)==true) 118 ([AV.agg (Bas.cells b),AV.agg [Zi r.6,Zi r.7,Zi r.8],Zi c.5,AV.agg (u8c c.6),AV.agg [Zi c.7,Zi c.8,Zi c.9,Zi c.10]]) (AV.bool (verR b (Rcd.h r) (Rcd.h1 r) (Rcd.h2 r) (Coin.a c) (Coin.root c) (Coin.z c) (Coin.sa c) (Coin.sb c) (Coin.r c))) (.out (AV.bool (rcvB b r&&c.1==r.1&&c.2==r.2&&c.3==r.3&&c.4==r.5&&verR b r.6 r.7 r.8 c.5 c.6 c.7 c.8 c.9 c.10)) [] (AV.bool (coinV b r c)) [])))
  (by kernel_rfl) ?_
 refine k_sc (hv) ?_
 refine k_scg (fun h1=>hs) ?_
 exact k_out (Ent.refl _)
theorem idxI_w (F:FuncId) (m:Nat) (g:Nat→AV) (f:Nat→Int) (n:Nat) (p:Nat→Bool) (hn:n≤1000) (hc:∀ i,i<n→Pure Tryz.prog gl0 F [.int .i64 (f i),.ipt m g] (.bool (p i))):Pure Tryz.prog gl0 242 [.isl 1 n (fun i _=>.int .i64 (f i)),.fn (.func F) [] [.ipt m g]] (.int .i64 (firstI p n 0)):=by
 refine pure_sk (own:=ow0) Tryz.func242 (by kernel_rfl) mixed (by kernel_rfl)
  (.loop ({ x:Nat // x≤n∧(fun (i:Nat)=>firstI p n 0=firstI p (n - i) i) x }) (fun (x:{ x:Nat // x≤n∧(fun (i:Nat)=>firstI p n 0=firstI p (n - i) i) x })=>mkSt [0,1,7,8] [AV.isl 1 n fun (i x:Nat)=>Zi (f i),AV.fn (Fn.func F) [] [AV.ipt m g],Zi (↑n:Int),Zi (↑(x.1):Int)] []) (fun (x:{ x:Nat // x≤n∧(fun (i:Nat)=>firstI p n 0=firstI p (n - i) i) x })=>n - x.1) (⟨0,⟨Nat.zero_le n,rfl⟩⟩) ([0,1,7,8]) ([]) ([AV.isl 1 n fun (i x:Nat)=>Zi (f i),AV.fn (Fn.func F) [] [AV.ipt m g],Zi (↑n:Int),Zi 0]) ([]) (fun x0=>(.br (decide ((↑x0.1:Int)<(↑n:Int))) (.req ((0:Int)≤(↑x0.1:Int)∧(↑x0.1:Int)<(↑n:Int)) (.sc (true) F ([Zi (f (Int.toNat (↑x0.1:Int))),AV.ipt m g]) (AV.bool (p (Int.toNat (↑x0.1:Int)))) (.br (p (Int.toNat (↑x0.1:Int))) (.out (Zi (↑x0.1:Int)) [] (Zi (firstI p n 0)) []) (.again (Again 0 (fun (x:{ x:Nat // x≤n∧(fun (i:Nat)=>firstI p n 0=firstI p (n - i) i) x })=>mkSt [0,1,7,8] [AV.isl 1 n fun (i x:Nat)=>Zi (f i),AV.fn (Fn.func F) [] [AV.ipt m g],Zi (↑n:Int),Zi (↑(x.1):Int)] []) (fun (x:{ x:Nat // x≤n∧(fun (i:Nat)=>firstI p n 0=firstI p (n - i) i) x })=>n - x.1) x0) ([0,1,7,8]) ([]) ([AV.isl 1 n fun (i x:Nat)=>Zi (f i),AV.fn (Fn.func F) [] [AV.ipt m g],Zi (↑n:Int),Zi (IntKind.wrap IntKind.i64 ((↑x0.1:Int)+1))]) ([]))))) (.out (Zi (-1)) [] (Zi (firstI p n 0)) []))))
  (by kernel_rfl) ?_
 refine k_loop (fun _ hs=>hs.le (⟨.refl _,.refl _,.refl _,.refl _,trivial⟩) (trivial)) (fun x0=>?_)
 try (have q0:=x0.2;dsimp only at q0)
 refine k_br (fun h1=>?_) (fun h1=>?_)
 ·have g1:=cnd_dec_t h1
  refine k_req (by omega) ?_
  refine k_sc (hc (Int.toNat (↑x0.1:Int)) (by omega)) ?_
  refine k_br (fun h4=>?_) (fun h4=>?_)
  ·have g4:=cnd_id_t h4
   try simp only [Int.toNat_natCast] at g4
   exact k_out (Ent.of_eq (congrArg _ (first_hit x0.2.2 (by omega) h4)))
  ·have g4:=cnd_id_f h4
   try simp only [Int.toNat_natCast] at g4
   exact k_again (⟨x0.1+1,by omega,first_next x0.2.2 (by omega) h4⟩) (fun _ hs=>hs.le (⟨.refl _,.refl _,.refl _,inc_ent (by omega),trivial⟩) (trivial)) (by dsimp only;omega)
 ·have g1:=cnd_dec_f h1
  exact k_out (Ent.of_eq (congrArg _ (first_miss x0.2.2 (by omega))))
theorem conI_w (F:FuncId) (m:Nat) (g:Nat→AV) (f:Nat→Int) (n:Nat) (p:Nat→Bool) (hn:n≤1000) (hc:∀ i,i<n→Pure Tryz.prog gl0 F [.int .i64 (f i),.ipt m g] (.bool (p i))):Pure Tryz.prog gl0 194 [.isl 1 n (fun i _=>.int .i64 (f i)),.fn (.func F) [] [.ipt m g]] (.bool (decide (firstI p n 0≥0))):=by
 have c1:=idxI_w F m g f n p hn hc
 refine pure_sk (own:=ow0) Tryz.func194 (by kernel_rfl) mixed (by kernel_rfl)
  (let y0:AV:=(AV.bool (decide (firstI p n 0≥0)));(.sc (true) 242 ([AV.isl 1 n fun (i x:Nat)=>Zi (f i),AV.fn (Fn.func F) [] [AV.ipt m g]]) (Zi (firstI p n 0)) (.out y0 [] y0 [])))
  (by kernel_rfl) ?_
 refine k_sc (c1) ?_
 exact k_out (Ent.refl _)
theorem leaves1_c (n:Int) (i:Nat) (hi:i<6):Pure Tryz.prog gl0 195 [.int .i64 i,.ipt 1 (atL [.int .i64 n])] (.bool (n==(2^i:Nat))):=by
 have hs:=shw (x:=i) (by omega)
 refine pure_sk (own:=ow0) Tryz.func195 (by kernel_rfl) mixed (by kernel_rfl)
  (.req ((0:Int)≤(↑i:Int)) (.out (AV.bool (n==IntKind.wrap IntKind.i64 ((1:Int)*2^min (Int.toNat (↑i:Int)) 64))) [] (AV.bool (n==(↑(2^i):Int))) []))
  (by kernel_rfl) ?_
 refine k_req (by omega) ?_
 exact k_out (Ent.of_eq (by simp_all))
theorem leaves_c0 (n:Int):Pure Tryz.prog gl0 194 [.isl 1 6 (fun r k=>atL (List.getD [[.int .i64 0],[.int .i64 1],[.int .i64 2],[.int .i64 3],[.int .i64 4],[.int .i64 5]] r []) k),.fn (.func 195) [] [.ipt 1 (atL [.int .i64 n])]] (.bool (lvB n)) :=
 (conI_w 195 1 (atL [.int .i64 n]) (fun i=>(i:Int)) 6 (fun i=>n==(2^i:Nat)) (by decide) (fun i hi=>leaves1_c n i hi)).via
  ⟨Ent.isl fun i j hi hj=>by obtain rfl:j=0:=Nat.lt_one_iff.1 hj;match i,hi with|0,_|1,_|2,_|3,_|4,_|5,_=>rfl,Ent.refl _,trivial⟩
theorem leaves_c (n:Int):Pure Tryz.prog gl0 122 [.int .i64 n] (.bool (lvB n)):=by
 have h:=leaves_c0 n
 refine pure_sk (own:=ow0) Tryz.func122 (by kernel_rfl) mixed (by kernel_rfl)
  (.sc (true) 194 ([AV.isl 1 6 fun (r k:Nat)=>atL (List.getD [[Zi 0],[Zi 1],[Zi 2],[Zi 3],[Zi 4],[Zi 5]] (r+0) []) k,AV.fn (Fn.func 195) [] [AV.ipt 1 fun (k:Nat)=>atL [Zi n] k]]) (AV.bool (lvB n)) (.out (AV.bool (lvB n)) [] (AV.bool (lvB n)) []))
  (by kernel_rfl) ?_
 refine k_sc (h) ?_
 exact k_out (Ent.refl _)
theorem encN_c (x:Int):Pure Tryz.prog gl0 140 [.agg [.int .i64 1,.int .i64 x,.nsl,.nsl]] (.tup [il .u8 (It.int x).enc,.int .i64 0]) :=
 (encode_c (.int x) rfl (by rw [int_len];decide)).via ⟨Ent.agg ⟨Ent.refl _,Ent.refl _,Ent.nsl,Ent.nsl,trivial⟩,trivial⟩
theorem rencN_c (x:Int):Pure Tryz.prog gl0 157 [.agg [.int .i64 1,.int .i64 x,.nsl,.nsl]] (il .u8 (It.int x).enc) :=
 (renc_c (.int x) (by rw [int_len];decide)).via ⟨Ent.agg ⟨Ent.refl _,Ent.refl _,Ent.nsl,Ent.nsl,trivial⟩,trivial⟩
theorem chash_n (b:Bas) (N:Nat) (hN:N≤32) (hl:lvB N=true) (f:Nat→Int) (hw:b.gr.W) (hv:validB b=true) (hf:∀ i,i<N→elemB b.gr (f i)=true):Pure Tryz.prog gl0 76 [b.av,.isl 1 N fun i _=>.int .i64 (f i)] (.tup [hsl N fun i=>leafF (f i),.int .i64 0]):=by
 have ht:=fun x:Int=>tleaf_c (It.int x).enc.length (fun i=>(It.int x).enc.getD i 0) (by rw [int_len];decide) (It.enc_by (x:=.int x) trivial)
 refine pure_sk (own:=ow0) Tryz.func76 (by kernel_rfl) mixed (by kernel_rfl)
  (let y0:AV:=(AV.tup [hsl N fun (i:Nat)=>leafF (f i),Zi 0]);(.sc (true) 34 ([AV.agg (Bas.cells b)]) (AV.bool (validB b)) (.sc ((!validB b)==false) 122 ([Zi (↑N:Int)]) (AV.bool (lvB (↑N:Int))) (.br (!validB b || !lvB (↑N:Int)) (.out (AV.tup [AV.nsl,Zi 1]) [] y0 []) (.loop ({ x:Nat // x≤N }) (fun (x:{ x:Nat // x≤N })=>mkSt [2,22,23,6,24] [AV.own 0 6 0 0 6,AV.isl 1 N fun (i x:Nat)=>Zi (f i),Zi (↑N:Int),AV.osl 1 32 0 (x.1),Zi (↑(x.1):Int)] [some ⟨6,1,true,Rep.lst [Bas.cells b]⟩,some ⟨32,x.1,true,Rep.row fun (i:Nat)=>u8c (leafF (f i))⟩]) (fun (x:{ x:Nat // x≤N })=>N - x.1) (⟨0,Nat.zero_le N⟩) ([2,22,23,6,24]) ([0,8321]) ([AV.own 0 6 0 0 6,AV.isl 1 N fun (i x:Nat)=>Zi (f i),Zi (↑N:Int),AV.nsl,Zi 0]) ([some ⟨6,1,true,Rep.lst [Bas.cells b]⟩,some ⟨32,0,true,Rep.lst []⟩]) (fun x4=>(.br (decide ((↑x4.1:Int)<(↑N:Int))) (.req ((0:Int)≤(↑x4.1:Int)∧(↑x4.1:Int)<(↑N:Int)) (.sc (true) 68 ([AV.agg [Zi (Bas.gr b).1,Zi (Bas.gr b).2,Zi (Bas.gr b).3],Zi (f (Int.toNat (↑x4.1:Int)))]) (AV.bool (validG (Bas.gr b)&&elemB (Bas.gr b) (f (Int.toNat (↑x4.1:Int))))) (.br (!(validG b.1&&elemB b.1 (f (Int.toNat (↑x4.1:Int))))) (.out (AV.tup [AV.nsl,Zi 2]) [] y0 []) (.dc (true) 140 ([AV.agg [Zi 1,Zi (f (Int.toNat (↑x4.1:Int))),AV.nsl,AV.nsl]]) (AV.tup [il IntKind.u8 (It.enc (It.int (f (Int.toNat (↑x4.1:Int))))),Zi 0]) (.sc (true) 150 ([AV.isl 1 9 fun (i x:Nat)=>Zb (List.getD (It.enc (It.int (f (Int.toNat (↑x4.1:Int))))) i (0:Int))]) (AV.tup [AV.agg (u8c (tagF (String.toUTF8 "specie/leaf") (List.length (It.enc (It.int (f (Int.toNat (↑x4.1:Int)))))) fun (i:Nat)=>List.getD (It.enc (It.int (f (Int.toNat (↑x4.1:Int))))) i (0:Int))),Zi 0]) (.req ((x4.1+1)*32≤140737488355328) (.again (Again 0 (fun (x:{ x:Nat // x≤N })=>mkSt [2,22,23,6,24] [AV.own 0 6 0 0 6,AV.isl 1 N fun (i x:Nat)=>Zi (f i),Zi (↑N:Int),AV.osl 1 32 0 (x.1),Zi (↑(x.1):Int)] [some ⟨6,1,true,Rep.lst [Bas.cells b]⟩,some ⟨32,x.1,true,Rep.row fun (i:Nat)=>u8c (leafF (f i))⟩]) (fun (x:{ x:Nat // x≤N })=>N - x.1) x4) ([2,22,23,6,24]) ([0,226]) ([AV.own 0 6 0 0 6,AV.isl 1 N fun (i x:Nat)=>Zi (f i),Zi (↑N:Int),AV.osl 1 32 0 (x4.1+1),Zi (IntKind.wrap IntKind.i64 ((↑x4.1:Int)+1))]) ([some ⟨6,1,true,Rep.lst [Bas.cells b]⟩,some ⟨32,x4.1+1,true,Rep.cat x4.1 (Rep.row fun (i:Nat)=>u8c (leafF (f i))) (Rep.lst [u8c (tagF (String.toUTF8 "specie/leaf") (List.length (It.enc (It.int (f (Int.toNat (↑x4.1:Int)))))) fun (i:Nat)=>List.getD (It.enc (It.int (f (Int.toNat (↑x4.1:Int))))) i (0:Int))])⟩])))))))) (.out (AV.tup [AV.isl 32 x4.1 fun (r k:Nat)=>atL (u8c (leafF (f (r+0)))) k,Zi 0]) [] y0 []))))))))
  (by kernel_rfl) ?_
 refine k_sc ((bvalid_c b) (by assumption)) ?_
 refine k_scg (fun h1=>leaves_c ((↑N:Int))) ?_
 refine k_br (fun h2=>?_) (fun h2=>?_)
 ·have g2:=(cnd_or_t (cnd_not_t cnd_id_f) (cnd_not_t cnd_id_f)) h2
  exact k_out (by exfalso;rcases g2 with g|g;(· rw [hv] at g;cases g);(· rw [hl] at g;cases g))
 ·have g2:=(cnd_or_f (cnd_not_f cnd_id_t) (cnd_not_f cnd_id_t)) h2
  refine k_loop (fun _ hs=>hs.le (by repeat' (first|exact trivial|(first|exact Ent.refl _|exact inc_ent (by omega)|exact Ent.nil rfl|exact Ent.of_eq (congrArg (AV.osl _ _ _) (by first|omega|(dsimp only;omega)))|exact Ent.of_eq (congrArg (AV.int _) (by first|omega|(dsimp only;omega))))|refine And.intro ?_ ?_)) (by exact ⟨ObEnt.refl _,ObEnt.zero,trivial⟩)) (fun x4=>?_)
  try (have q4:=x4.2;dsimp only at q4)
  refine k_br (fun h5=>?_) (fun h5=>?_)
  ·have g5:=cnd_dec_t h5
   refine k_req (by omega) ?_
   refine k_sc ((contains_c (Bas.gr b)) (f (Int.toNat (↑x4.1:Int))) (by assumption)) ?_
   refine k_br (fun h8=>?_) (fun h8=>?_)
   ·have g8:=(cnd_not_t (cnd_and_f cnd_id_f cnd_id_f)) h8
    try simp only [Int.toNat_natCast] at g8
    exact k_out (by exfalso;rcases g8 with g|g;(· rw [validG_iff.2 (validB_ok hv)] at g;cases g);(· rw [hf _ (by omega)] at g;cases g))
   ·have g8:=(cnd_not_f (cnd_and_t cnd_id_t cnd_id_t)) h8
    try simp only [Int.toNat_natCast] at g8
    refine k_dc (encN_c (f (Int.toNat (↑x4.1:Int)))) ?_
    refine k_sc (ht (f (Int.toNat (↑x4.1:Int)))) ?_
    refine k_req (by omega) ?_
    exact k_again (⟨x4.1+1,by omega⟩) (fun _ hs=>hs.le (by repeat' (first|exact trivial|(first|exact Ent.refl _|exact inc_ent (by omega)|exact Ent.nil rfl|exact Ent.of_eq (congrArg (AV.osl _ _ _) (by first|omega|(dsimp only;omega)))|exact Ent.of_eq (congrArg (AV.int _) (by first|omega|(dsimp only;omega))))|refine And.intro ?_ ?_)) (by exact ⟨ObEnt.refl _,ObEnt.catRow rfl (fun _ _=>EntL.refl _) (EntL.refl _),trivial⟩)) (by (dsimp only;omega))
  ·have g5:=cnd_dec_f h5
   exact k_out (tup2_out (hsl_out (by omega)))
theorem rhash_c (n:Nat) (hn:n≤1000) (f:Nat→Int):Pure Tryz.prog gl0 85 [.isl 1 n fun i _=>.int .i64 (f i)] (hsl n fun i=>leafF (f i)):=by
 have ht:=fun x:Int=>rtleaf_c (It.int x).enc.length (fun i=>(It.int x).enc.getD i 0) (by rw [int_len];decide) (It.enc_by (x:=.int x) trivial)
 refine pure_sk (own:=ow0) Tryz.func85 (by kernel_rfl) mixed (by kernel_rfl)
  (.loop ({ x:Nat // x≤n }) (fun (x:{ x:Nat // x≤n })=>mkSt [0,3,4] [AV.isl 1 n fun (i x:Nat)=>Zi (f i),AV.osl 0 32 0 (x.1),Zi (↑(x.1):Int)] [some ⟨32,x.1,true,Rep.row fun (i:Nat)=>u8c (leafF (f i))⟩]) (fun (x:{ x:Nat // x≤n })=>n - x.1) (⟨0,Nat.zero_le n⟩) ([0,3,4]) ([8216]) ([AV.isl 1 n fun (i x:Nat)=>Zi (f i),AV.nsl,Zi 0]) ([some ⟨32,0,true,Rep.lst []⟩]) (fun x0=>(.br (decide ((↑x0.1:Int)<(↑n:Int))) (.req ((0:Int)≤(↑x0.1:Int)∧(↑x0.1:Int)<(↑n:Int)) (.dc (true) 157 ([AV.agg [Zi 1,Zi (f (Int.toNat (↑x0.1:Int))),AV.nsl,AV.nsl]]) (il IntKind.u8 (It.enc (It.int (f (Int.toNat (↑x0.1:Int)))))) (.sc (true) 162 ([AV.isl 1 9 fun (i x:Nat)=>Zb (List.getD (It.enc (It.int (f (Int.toNat (↑x0.1:Int))))) i (0:Int))]) (AV.agg (u8c (tagF (String.toUTF8 "specie/leaf") (List.length (It.enc (It.int (f (Int.toNat (↑x0.1:Int)))))) fun (i:Nat)=>List.getD (It.enc (It.int (f (Int.toNat (↑x0.1:Int))))) i (0:Int)))) (.req ((x0.1+1)*32≤140737488355328) (.again (Again 0 (fun (x:{ x:Nat // x≤n })=>mkSt [0,3,4] [AV.isl 1 n fun (i x:Nat)=>Zi (f i),AV.osl 0 32 0 (x.1),Zi (↑(x.1):Int)] [some ⟨32,x.1,true,Rep.row fun (i:Nat)=>u8c (leafF (f i))⟩]) (fun (x:{ x:Nat // x≤n })=>n - x.1) x0) ([0,3,4]) ([105]) ([AV.isl 1 n fun (i x:Nat)=>Zi (f i),AV.osl 0 32 0 (x0.1+1),Zi (IntKind.wrap IntKind.i64 ((↑x0.1:Int)+1))]) ([some ⟨32,x0.1+1,true,Rep.cat x0.1 (Rep.row fun (i:Nat)=>u8c (leafF (f i))) (Rep.lst [u8c (tagF (String.toUTF8 "specie/leaf") (List.length (It.enc (It.int (f (Int.toNat (↑x0.1:Int)))))) fun (i:Nat)=>List.getD (It.enc (It.int (f (Int.toNat (↑x0.1:Int))))) i (0:Int))])⟩])))))) (.out (AV.isl 32 x0.1 fun (r k:Nat)=>atL (u8c (leafF (f (r+0)))) k) [] (hsl n fun (i:Nat)=>leafF (f i)) []))))
  (by kernel_rfl) ?_
 refine k_loop (fun _ hs=>hs.le (by repeat' (first|exact trivial|(first|exact Ent.refl _|exact inc_ent (by omega)|exact Ent.nil rfl|exact Ent.of_eq (congrArg (AV.osl _ _ _) (by first|omega|(dsimp only;omega)))|exact Ent.of_eq (congrArg (AV.int _) (by first|omega|(dsimp only;omega))))|refine And.intro ?_ ?_)) (by exact ⟨ObEnt.zero,trivial⟩)) (fun x0=>?_)
 try (have q0:=x0.2;dsimp only at q0)
 refine k_br (fun h1=>?_) (fun h1=>?_)
 ·have g1:=cnd_dec_t h1
  refine k_req (by omega) ?_
  refine k_dc (rencN_c (f (Int.toNat (↑x0.1:Int)))) ?_
  refine k_sc (ht (f (Int.toNat (↑x0.1:Int)))) ?_
  refine k_req (by omega) ?_
  exact k_again (⟨x0.1+1,by omega⟩) (fun _ hs=>hs.le (by repeat' (first|exact trivial|(first|exact Ent.refl _|exact inc_ent (by omega)|exact Ent.nil rfl|exact Ent.of_eq (congrArg (AV.osl _ _ _) (by first|omega|(dsimp only;omega)))|exact Ent.of_eq (congrArg (AV.int _) (by first|omega|(dsimp only;omega))))|refine And.intro ?_ ?_)) (by exact ⟨ObEnt.catRow rfl (fun _ _=>EntL.refl _) (EntL.refl _),trivial⟩)) (by (dsimp only;omega))
 ·have g1:=cnd_dec_f h1
  exact k_out (hsl_out (by omega))
end Go.Proofs.YtolcfdcoidpieaaGreatDoor

namespace Go.Sp
open Go Go.Am
def prdF (G : Grp) (f e : Nat → Int) : Nat → Int
  | 0 => 1
  | x + 1 => prdF G f e x * (f x ^ (e x).toNat % G.p) % G.p
theorem elem_one {G : Grp} (h : G.Ok) : elemB G 1 = true := (elem_iff h).2 ⟨Int.le_refl _, by have := h.p3; omega, by rw [Int.one_pow]; exact Int.emod_eq_of_lt (by decide) (by have := h.p3; omega)⟩
theorem elem_prd {G : Grp} (h : G.Ok) {f e : Nat → Int} {n : Nat} (hf : ∀ i, i < n → elemB G (f i) = true) : ∀ x, x ≤ n → elemB G (prdF G f e x) = true
  | 0, _ => elem_one h
  | x + 1, hx => elem_mul h (elem_prd h hf x (by omega)) (elem_pow h (hf x (by omega)) _)
def pr2 (G : Grp) (a b x y : Int) : Int := a ^ x.toNat % G.p * (b ^ y.toNat % G.p) % G.p
def sel2 (a b : Int) (i : Nat) : Int := [a, b].getD i 0
theorem prd_2 {G : Grp} (h : G.Ok) {f e : Nat → Int} : prdF G f e 2 = pr2 G (f 0) (f 1) (e 0) (e 1) := by
  show (1 * (f 0 ^ (e 0).toNat % G.p) % G.p) * (f 1 ^ (e 1).toNat % G.p) % G.p = _
  rw [Int.one_mul, Int.emod_eq_of_lt (mod_bnd h _).1 (mod_bnd h _).2]
  rfl
theorem sel_isl {os : List (Option Ob)} {a b : Int} : Ent os (.isl 1 2 fun r k => atL (List.getD [[.int .i64 a], [.int .i64 b]] r []) k) (.isl 1 2 fun i _ => .int .i64 (sel2 a b i)) := Ent.isl fun i j hi hj => by
  obtain rfl : j = 0 := Nat.lt_one_iff.1 hj
  match i, hi with | 0, _ | 1, _ => rfl
def chk2 (b : Bas) (y r1 r2 : Int) : Bool := scaB b.gr r1 && scaB b.gr r2 && (pr2 b.gr b.g1 b.g2 r1 r2 == y)
theorem fst_no {p : Nat → Bool} {n : Nat} (h : ∀ i, i < n → p i = false) : decide (firstI p n 0 ≥ 0) = false := by
  rw [firstI_neg]
  apply List.any_eq_false.2
  intro i hi
  rw [Nat.zero_add, h i (List.mem_range.1 hi)]
  decide
theorem fst_2 {p : Nat → Bool} : decide (firstI p 2 0 ≥ 0) = (p 0 || p 1) := by
  rw [firstI_neg]
  show (p (0 + 0) || (p (0 + 1) || false)) = _
  rw [Bool.or_false, Nat.zero_add, Nat.zero_add]
theorem sca_iff {G : Grp} {r : Int} : scaB G r = true ↔ 0 ≤ r ∧ r < G.q := by unfold scaB; simp
theorem sca_sel {G : Grp} {a c : Int} (h : scaB G a = true ∧ scaB G c = true) : ∀ i, i < 2 → 0 ≤ sel2 a c i ∧ sel2 a c i < G.q := fun i hi => match i, hi with
  | 0, _ => sca_iff.1 h.1
  | 1, _ => sca_iff.1 h.2
def pr2V (b : Bas) (r1 r2 : Int) : Int := bif scaB b.gr r1 && scaB b.gr r2 then pr2 b.gr b.g1 b.g2 r1 r2 else 0
def pr2E (b : Bas) (r1 r2 : Int) : Int := bif scaB b.gr r1 && scaB b.gr r2 then 0 else 2
theorem pr2_no {b : Bas} {r1 r2 : Int} (h : scaB b.gr r1 = false ∨ scaB b.gr r2 = false) : pr2V b r1 r2 = 0 ∧ pr2E b r1 r2 = 2 := by
  have e : (scaB b.gr r1 && scaB b.gr r2) = false := by rcases h with h | h <;> simp [h]
  unfold pr2V pr2E; rw [e]; exact ⟨rfl, rfl⟩
theorem pr2_ok {b : Bas} {r1 r2 : Int} (h : scaB b.gr r1 = true ∧ scaB b.gr r2 = true) : pr2V b r1 r2 = pr2 b.gr b.g1 b.g2 r1 r2 ∧ pr2E b r1 r2 = 0 := by
  unfold pr2V pr2E; rw [h.1, h.2]; exact ⟨rfl, rfl⟩
theorem chk2_eq {b : Bas} {y r1 r2 : Int} : (pr2E b r1 r2 == 0 && pr2V b r1 r2 == y) = chk2 b y r1 r2 := by
  unfold chk2
  cases h1 : scaB b.gr r1 with
  | false => rw [(pr2_no (.inl h1)).2]; rfl
  | true =>
    cases h2 : scaB b.gr r2 with
    | false => rw [(pr2_no (.inr h2)).2]; rfl
    | true => rw [(pr2_ok ⟨h1, h2⟩).1, (pr2_ok ⟨h1, h2⟩).2]; rfl
theorem sca_n {G : Grp} {e : Int} : (decide (e < 0) || decide (e ≥ G.q)) = !scaB G e := by
  unfold scaB
  by_cases h : e < 0 <;> by_cases h' : e ≥ G.q <;> simp [h, h'] <;> omega
def leafB (b : Bas) (a k x r1 r2 : Int) : Bool := elemB b.gr x && chk2 b (a ^ k.toNat % b.gr.p * x % b.gr.p) r1 r2
end Go.Sp

namespace Go.Proofs.YtolcfdcoidpieaaGreatDoor
open Go Go.Am Go.Sp
set_option maxRecDepth 100000
theorem pel1_c (G:Grp) (x:Int) (h:G.Ok) (hw:G.W):Pure Tryz.prog gl0 272 [.int .i64 x,.ipt 3 (atL G.cells)] (.bool (!elemB G x)):=by
 have hg:=validG_iff.2 h
 refine pure_sk (own:=ow0) Tryz.func272 (by kernel_rfl) mixed (by kernel_rfl)
  (.sc (true) 68 ([AV.agg [Zi G.1,Zi G.2,Zi G.3],Zi x]) (AV.bool (validG G&&elemB G x)) (.out (AV.bool !(validG G&&elemB G x)) [] (AV.bool !elemB G x) []))
  (by kernel_rfl) ?_
 refine k_sc ((contains_c G) (x) (by assumption)) ?_
 exact k_out (Ent.of_eq (congrArg _ (by rw [hg,Bool.true_and])))
theorem pex1_c (G:Grp) (x:Int):Pure Tryz.prog gl0 273 [.int .i64 x,.ipt 3 (atL G.cells)] (.bool (decide (x<0)||decide (x≥G.q))):=by
 refine pure_sk (own:=ow0) Tryz.func273 (by kernel_rfl) mixed (by kernel_rfl)
  (.out (AV.bool (decide (x<0)||decide (x≥G.2))) [] (AV.bool (decide (x<0)||decide (x≥Grp.q G))) [])
  (by kernel_rfl) ?_
 exact k_out (Ent.refl _)
theorem pel_c (G:Grp) (n:Nat) (f:Nat→Int) (hn:n≤1000) (h:G.Ok) (hw:G.W) (hf:∀ i,i<n→elemB G (f i)=true):Pure Tryz.prog gl0 239 [G.av,.isl 1 n fun i _=>.int .i64 (f i)] (.bool true):=by
 have c1:=conI_w 272 3 (atL G.cells) f n (fun i => !elemB G (f i)) hn (fun i _=>pel1_c G (f i) h hw)
 have e:=fst_no (p:=fun i => !elemB G (f i)) (n:=n) (fun i hi=>by rw [hf i hi];rfl)
 refine pure_sk (own:=ow0) Tryz.func239 (by kernel_rfl) mixed (by kernel_rfl)
  (.sc (true) 194 ([AV.isl 1 n fun (i x:Nat)=>Zi (f i),AV.fn (Fn.func 272) [] [AV.ipt 3 fun (k:Nat)=>atL [Zi G.1,Zi G.2,Zi G.3] k]]) (AV.bool (decide (firstI (fun (i:Nat) => !elemB G (f i)) n 0≥0))) (.out (AV.bool !decide (firstI (fun (i:Nat) => !elemB G (f i)) n 0≥0)) [] (AV.bool true) []))
  (by kernel_rfl) ?_
 refine k_sc (c1) ?_
 exact k_out (Ent.of_eq (congrArg _ (by rw [e];rfl)))
theorem pex_c (G:Grp) (a c:Int):Pure Tryz.prog gl0 240 [G.av,.isl 1 2 fun i _=>.int .i64 (sel2 a c i)] (.bool (scaB G a&&scaB G c)):=by
 have c1:=conI_w 273 3 (atL G.cells) (sel2 a c) 2 (fun i=>decide (sel2 a c i<0)||decide (sel2 a c i≥G.q)) (by decide) (fun i _=>pex1_c G (sel2 a c i))
 have e:=fst_2 (p:=fun i=>decide (sel2 a c i<0)||decide (sel2 a c i≥G.q))
 refine pure_sk (own:=ow0) Tryz.func240 (by kernel_rfl) mixed (by kernel_rfl)
  (.sc (true) 194 ([AV.isl 1 2 fun (i x:Nat)=>Zi (sel2 a c i),AV.fn (Fn.func 273) [] [AV.ipt 3 fun (k:Nat)=>atL [Zi G.1,Zi G.2,Zi G.3] k]]) (AV.bool (decide (firstI (fun (i:Nat)=>decide (sel2 a c i<0)||decide (sel2 a c i≥Grp.q G)) 2 0≥0))) (.out (AV.bool !decide (firstI (fun (i:Nat)=>decide (sel2 a c i<0)||decide (sel2 a c i≥G.2)) 2 0≥0)) [] (AV.bool (scaB G a&&scaB G c)) []))
  (by kernel_rfl) ?_
 refine k_sc (c1) ?_
 exact k_out (Ent.of_eq (congrArg _ (by rw [e,sca_n,sca_n,← Bool.not_and,Bool.not_not];rfl)))
theorem powers_c (G:Grp) (f e:Nat→Int) (h:G.Ok) (hw:G.W) (hf:∀ i,i<2→elemB G (f i)=true) (he:∀ i,i<2→0≤e i∧e i<G.q):Pure Tryz.prog gl0 241 [G.av,.isl 1 2 fun i _=>.int .i64 (f i),.isl 1 2 fun i _=>.int .i64 (e i)] (.tup [.int .i64 (prdF G f e 2),.int .i64 0]):=by
 refine pure_sk (own:=ow0) Tryz.func241 (by kernel_rfl) mixed (by kernel_rfl)
  (let y0:List (Option Ob):=[some ⟨3,1,true,Rep.lst [[Zi (Grp.p G),Zi (Grp.q G),Zi (Grp.g G)]]⟩];(.loop ({ x:Nat // x≤2 }) (fun (x:{ x:Nat // x≤2 })=>mkSt [2,3,13,14,8,15] [AV.isl 1 2 fun (i x:Nat)=>Zi (e i),AV.own 0 3 0 0 3,AV.isl 1 2 fun (i x:Nat)=>Zi (f i),Zi (↑(2):Int),Zi (prdF G f e (x.1)),Zi (↑(x.1):Int)] y0) (fun (x:{ x:Nat // x≤2 })=>2 - x.1) (⟨0,Nat.zero_le 2⟩) ([2,3,13,14,8,15]) ([0]) ([AV.isl 1 2 fun (i x:Nat)=>Zi (e i),AV.own 0 3 0 0 3,AV.isl 1 2 fun (i x:Nat)=>Zi (f i),Zi (↑(2):Int),Zi 1,Zi 0]) (y0) (fun x0=>(.br (decide ((↑x0.1:Int)<(↑(2):Int))) (.req ((0:Int)≤(↑x0.1:Int)∧(↑x0.1:Int)<(↑(2):Int)) (.req ((0:Int)≤(↑x0.1:Int)∧(↑x0.1:Int)<(↑(2):Int)) (.sc (true) 146 ([AV.agg [Zi G.1,Zi G.2,Zi G.3],Zi (f (Int.toNat (↑x0.1:Int))),Zi (e (Int.toNat (↑x0.1:Int)))]) (AV.tup [Zi (f (Int.toNat (↑x0.1:Int))^Int.toNat (e (Int.toNat (↑x0.1:Int)))%Grp.p G),Zi 0]) (.ff (.sc (true) 147 ([AV.agg [Zi G.1,Zi G.2,Zi G.3],Zi (prdF G f e x0.1),Zi (f (Int.toNat (↑x0.1:Int))^Int.toNat (e (Int.toNat (↑x0.1:Int)))%G.1)]) (AV.tup [Zi (prdF G f e x0.1*(f (Int.toNat (↑x0.1:Int))^Int.toNat (e (Int.toNat (↑x0.1:Int)))%G.1)%Grp.p G),Zi 0]) (.ff (.again (Again 0 (fun (x:{ x:Nat // x≤2 })=>mkSt [2,3,13,14,8,15] [AV.isl 1 2 fun (i x:Nat)=>Zi (e i),AV.own 0 3 0 0 3,AV.isl 1 2 fun (i x:Nat)=>Zi (f i),Zi (↑(2):Int),Zi (prdF G f e (x.1)),Zi (↑(x.1):Int)] y0) (fun (x:{ x:Nat // x≤2 })=>2 - x.1) x0) ([2,3,13,14,8,15]) ([0]) ([AV.isl 1 2 fun (i x:Nat)=>Zi (e i),AV.own 0 3 0 0 3,AV.isl 1 2 fun (i x:Nat)=>Zi (f i),Zi (↑(2):Int),Zi (prdF G f e x0.1*(f (Int.toNat (↑x0.1:Int))^Int.toNat (e (Int.toNat (↑x0.1:Int)))%G.1)%G.1),Zi (IntKind.wrap IntKind.i64 ((↑x0.1:Int)+1))]) (y0)))))))) (.out (AV.tup [Zi (prdF G f e x0.1),Zi 0]) [] (AV.tup [Zi (prdF G f e 2),Zi 0]) [])))))
  (by kernel_rfl) ?_
 refine k_loop (fun _ hs=>hs.le (⟨.refl _,.refl _,.refl _,.refl _,.refl _,.refl _,trivial⟩) (⟨.refl _,trivial⟩)) (fun x0=>?_)
 try (have q0:=x0.2;dsimp only at q0)
 refine k_br (fun h1=>?_) (fun h1=>?_)
 ·have g1:=cnd_dec_t h1
  refine k_req (by omega) ?_
  refine k_req (by omega) ?_
  refine k_sc ((gpow_c G) (f (Int.toNat (↑x0.1:Int))) (e (Int.toNat (↑x0.1:Int))) (by assumption) (by assumption) (by exact hf _ (by omega)) (by exact he _ (by omega))) ?_
  refine k_ff ?_
  refine k_sc ((gmul_c G) (prdF G f e x0.1) (f (Int.toNat (↑x0.1:Int))^Int.toNat (e (Int.toNat (↑x0.1:Int)))%G.1) (by assumption) (by assumption) (by exact elem_prd h hf _ (by omega)) (by exact elem_pow h (hf _ (by omega)) _)) ?_
  refine k_ff ?_
  exact k_again (⟨x0.1+1,by omega⟩) (fun _ hs=>hs.le (⟨.refl _,.refl _,.refl _,.refl _,.refl _,inc_ent (by omega),trivial⟩) (⟨.refl _,trivial⟩)) (by dsimp only;omega)
 ·have g1:=cnd_dec_f h1
  exact k_out (by exact Ent.of_eq (by rw [show x0.1=2 by omega]))
theorem product2_c (b:Bas) (r1 r2:Int) (hw:b.gr.W) (hv:validB b=true):Pure Tryz.prog gl0 193 [b.gr.av,.isl 1 2 fun i _=>.int .i64 (sel2 b.g1 b.g2 i),.isl 1 2 fun i _=>.int .i64 (sel2 r1 r2 i)] (.tup [.int .i64 (pr2V b r1 r2),.int .i64 (pr2E b r1 r2)]):=by
 have h:=validB_iff.1 hv
 have hf:∀ i,i<2→elemB b.gr (sel2 b.g1 b.g2 i)=true:=fun i hi=>match i,hi with|0,_=>h.e1|1,_=>h.e2
 have hg:=validG_iff.2 h.G
 have c1:=pel_c b.gr 2 (sel2 b.g1 b.g2) (by decide) h.G hw hf
 have c2:=pex_c b.gr r1 r2
 have c3:=fun he=>powers_c b.gr (sel2 b.g1 b.g2) (sel2 r1 r2) h.G hw hf he
 refine pure_sk (own:=ow0) Tryz.func193 (by kernel_rfl) mixed (by kernel_rfl)
  (let y0:List AV:=[Zi (Bas.gr b).1,Zi (Bas.gr b).2,Zi (Bas.gr b).3];let y1:AV:=(AV.tup [Zi (pr2V b r1 r2),Zi (pr2E b r1 r2)]);(.sc (true) 67 ([AV.agg y0]) (AV.bool (validG (Bas.gr b))) (.br (!validG b.1||false) (.out (AV.tup [Zi 0,Zi 1]) [] y1 []) (.ff (.sc (true) 239 ([AV.agg y0,AV.isl 1 2 fun (i x:Nat)=>Zi (sel2 b.2 b.3 i)]) (AV.bool true) (.sc (true) 240 ([AV.agg y0,AV.isl 1 2 fun (i x:Nat)=>Zi (sel2 r1 r2 i)]) (AV.bool (scaB (Bas.gr b) r1&&scaB (Bas.gr b) r2)) (.br (!(scaB b.1 r1&&scaB b.1 r2)) (.out (AV.tup [Zi 0,Zi 2]) [] y1 []) (.sc (true) 241 ([AV.agg y0,AV.isl 1 2 fun (i x:Nat)=>Zi (sel2 b.2 b.3 i),AV.isl 1 2 fun (i x:Nat)=>Zi (sel2 r1 r2 i)]) (AV.tup [Zi (prdF (Bas.gr b) (sel2 (Bas.g1 b) (Bas.g2 b)) (sel2 r1 r2) 2),Zi 0]) (.out (AV.tup [Zi (prdF b.1 (sel2 b.2 b.3) (sel2 r1 r2) 2),Zi 0]) [] y1 [])))))))))
  (by kernel_rfl) ?_
 refine k_sc ((gvalid_c (Bas.gr b)) (by assumption)) ?_
 refine k_br (fun h1=>?_) (fun h1=>?_)
 ·have g1:=(cnd_or_t (cnd_not_t cnd_id_f) cnd_id_t) h1
  exact k_out (by exfalso;simp [hg] at g1)
 ·have g1:=(cnd_or_f (cnd_not_f cnd_id_t) cnd_id_f) h1
  refine k_ff ?_
  refine k_sc (c1) ?_
  refine k_sc (c2) ?_
  refine k_br (fun h6=>?_) (fun h6=>?_)
  ·have g6:=(cnd_not_t (cnd_and_f cnd_id_f cnd_id_f)) h6
   exact k_out (Ent.of_eq (by rw [(pr2_no g6).1,(pr2_no g6).2]))
  ·have g6:=(cnd_not_f (cnd_and_t cnd_id_t cnd_id_t)) h6
   refine k_sc (c3 (sca_sel g6)) ?_
   exact k_out (Ent.of_eq (by rw [(pr2_ok g6).1,(pr2_ok g6).2,prd_2 h.G];rfl))
theorem product2_l (b:Bas) (r1 r2:Int) (hw:b.gr.W) (hv:validB b=true):Pure Tryz.prog gl0 193 [b.gr.av,.isl 1 2 fun r k=>atL (List.getD [[.int .i64 b.g1],[.int .i64 b.g2]] r []) k,.isl 1 2 fun r k=>atL (List.getD [[.int .i64 r1],[.int .i64 r2]] r []) k] (.tup [.int .i64 (pr2V b r1 r2),.int .i64 (pr2E b r1 r2)]) :=
 (product2_c b r1 r2 hw hv).via ⟨Ent.refl _,sel_isl,sel_isl,trivial⟩
theorem check2_c (b:Bas) (y r1 r2:Int) (hw:b.gr.W) (hv:validB b=true):Pure Tryz.prog gl0 148 [b.gr.av,.int .i64 y,.isl 1 2 fun i _=>.int .i64 (sel2 b.g1 b.g2 i),.isl 1 2 fun i _=>.int .i64 (sel2 r1 r2 i)] (.bool (chk2 b y r1 r2)):=by
 have c1:=product2_c b r1 r2 hw hv
 refine pure_sk (own:=ow0) Tryz.func148 (by kernel_rfl) mixed (by kernel_rfl)
  (.sc (true) 193 ([AV.agg [Zi (Bas.gr b).1,Zi (Bas.gr b).2,Zi (Bas.gr b).3],AV.isl 1 2 fun (i x:Nat)=>Zi (sel2 b.2 b.3 i),AV.isl 1 2 fun (i x:Nat)=>Zi (sel2 r1 r2 i)]) (AV.tup [Zi (pr2V b r1 r2),Zi (pr2E b r1 r2)]) (.out (AV.bool (pr2E b r1 r2==0&&pr2V b r1 r2==y)) [] (AV.bool (chk2 b y r1 r2)) []))
  (by kernel_rfl) ?_
 refine k_sc (c1) ?_
 exact k_out (Ent.of_eq (congrArg _ chk2_eq))
theorem check2_l (b:Bas) (y r1 r2:Int) (hw:b.gr.W) (hv:validB b=true):Pure Tryz.prog gl0 148 [b.gr.av,.int .i64 y,.isl 1 2 fun r k=>atL (List.getD [[.int .i64 b.g1],[.int .i64 b.g2]] r []) k,.isl 1 2 fun r k=>atL (List.getD [[.int .i64 r1],[.int .i64 r2]] r []) k] (.bool (chk2 b y r1 r2)) :=
 (check2_c b y r1 r2 hw hv).via ⟨Ent.refl _,Ent.refl _,sel_isl,sel_isl,trivial⟩
end Go.Proofs.YtolcfdcoidpieaaGreatDoor

namespace Go.Sp
open Go Go.Am
def lbF (s : Spend) (i : Nat) : Int := s.lf i 0
def newB (s : Spend) (i : Nat) : Bool := !decide (lbF s i ∈ (List.range i).map (lbF s))
def okL (b : Bas) (s : Spend) (i : Nat) : Bool := leafB b s.a (chS b s) (s.lf i 0) (s.lf i 1) (s.lf i 2) && newB s i
def dpN (s : Spend) : Nat := (s.depth - s.level).toNat
def topF (s : Spend) : Nat → Int := treF (fun i => leafF (lbF s i)) (dpN s) 0
def hdB (b : Bas) (r : Rcd) (s : Spend) : Bool := coinV b r s.coin && nodeB s.depth s.level s.index && ctxB s.time s.number && Nat.beq s.nl (2 ^ dpN s) && s.pidx == s.index
def vfy (b : Bas) (r : Rcd) (s : Spend) : Bool := hdB b r s && allI (okL b s) s.nl && ((s.np : Int) == s.level && hEq (folF (topF s) s.pidx s.pf s.np) s.root)
theorem map_ent {os : List (Option Ob)} {n : Nat} {f : Nat → Int} : Ent os (.isl 1 n fun i _ => .int .i64 (f i)) (il .i64 ((List.range n).map f)) := by
  show Ent os _ (.isl 1 ((List.range n).map f).length _)
  rw [show ((List.range n).map f).length = n by simp]
  exact Ent.isl fun i j hi _ => congrArg (AV.int .i64) (getD_map hi).symm
theorem mem_map_r {f : Nat → Int} {n : Nat} {v : Int} : v ∈ (List.range n).map f ↔ ∃ j, j < n ∧ f j = v := by simp
theorem sz_w {s : Spend} (h : nodeB s.depth s.level s.index = true) : IntKind.wrap .i64 (1 * 2 ^ min (Int.toNat (IntKind.wrap .i64 (s.depth - s.level))) 64) = ((2 ^ dpN s : Nat) : Int) ∧ IntKind.wrap .i64 (s.depth - s.level) = s.depth - s.level ∧ dpN s ≤ 5 := by
  have k := node_t h
  have e : IntKind.wrap .i64 (s.depth - s.level) = s.depth - s.level := wI (by omega) (by omega)
  refine ⟨?_, e, by unfold dpN; omega⟩
  rw [e]
  exact shw (x := dpN s) (by unfold dpN; omega)
theorem cv_ok {b : Bas} {r : Rcd} {c : Coin} (h : coinV b r c = true) : validB b = true ∧ elemB b.gr c.a = true := by
  unfold coinV rcvB keyB verR at h
  simp only [Bool.and_eq_true] at h
  exact ⟨h.1.1.1.1.1.1.1.1.1.1.1, msg_el h.2.1.1.1.2⟩
structure HdOk (b : Bas) (r : Rcd) (s : Spend) : Prop where
  hd : hdB b r s = true
  v : validB b = true
  a : elemB b.gr s.a = true
  n : nodeB s.depth s.level s.index = true
  l : s.nl = 2 ^ dpN s
  d : dpN s ≤ 5
  lv : 0 ≤ s.level ∧ s.level ≤ 5
  ix : 0 ≤ s.pidx ∧ s.pidx < 2 ^ s.level.toNat
  n32 : s.nl ≤ 32
  lb : lvB s.nl = true
  q0 : 0 < b.gr.q
  q1 : b.gr.q < 2305843009213693952
  k : 0 ≤ chS b s ∧ chS b s < b.gr.q
  top : byB (topF s) 32
  p0 : 0 ≤ s.pidx
  p1 : s.pidx < 9223372036854775807
theorem leafF_by (x : Int) : byB (leafF x) 32 := tagI_by _ _ _
theorem hd_of {b : Bas} {r : Rcd} {s : Spend} (h : hdB b r s = true) : HdOk b r s := by
  have h0 := h
  unfold hdB at h
  simp only [Bool.and_eq_true, Nat.beq_eq, beq_iff_eq] at h
  obtain ⟨⟨⟨⟨h1, h2⟩, _⟩, h4⟩, h5⟩ := h
  have k := node_t h2
  have hd : dpN s ≤ 5 := (sz_w h2).2.2
  have hp : 2 ^ dpN s ≤ 32 := by have := pow5 (d := dpN s) (k := 0) hd; rwa [Nat.sub_zero] at this
  have hq := validB_q (cv_ok h1).1
  exact ⟨h0, (cv_ok h1).1, (cv_ok h1).2, h2, h4, hd, by omega, by rw [h5]; exact ⟨k.2.2.2.2.1, k.2.2.2.2.2⟩, by omega, by rw [h4]; exact lvB_d hd, hq.1, hq.2, chS_q hq.1,
    tre_by (n := 2 ^ dpN s) (fun i _ => leafF_by _) (dpN s) 0 (by omega), by omega, by have := (p2 (k := s.level) (by omega) (by omega)).2.2.2; omega⟩
abbrev szW (s : Spend) : Int := IntKind.wrap .i64 (1 * 2 ^ min (Int.toNat (IntKind.wrap .i64 (s.depth - s.level))) 64)
theorem hd_ok {b : Bas} {r : Rcd} {s : Spend} (h : (((coinV b r s.coin = true ∧ nodeB s.depth s.level s.index = true) ∧ ctxB s.time s.number = true) ∧ (s.nl : Int) = szW s) ∧ s.pidx = s.index) : HdOk b r s := by
  refine hd_of ?_
  obtain ⟨⟨⟨⟨h1, h2⟩, h3⟩, h4⟩, h5⟩ := h
  have h4 := h4.trans (sz_w h2).1
  have h4 : s.nl = 2 ^ dpN s := Int.ofNat.inj h4
  unfold hdB
  rw [h1, h2, h3, (Nat.beq_eq ▸ h4 : Nat.beq s.nl (2 ^ dpN s) = true), h5]
  simp
theorem vfy_h {b : Bas} {r : Rcd} {s : Spend} (h : hdB b r s = false) : vfy b r s = false := by unfold vfy; rw [h]; rfl
theorem hd_no {b : Bas} {r : Rcd} {s : Spend} (h : (((coinV b r s.coin = false ∨ nodeB s.depth s.level s.index = false) ∨ ctxB s.time s.number = false) ∨ ¬ (s.nl : Int) = szW s) ∨ ¬ s.pidx = s.index) : vfy b r s = false := by
  refine vfy_h ?_
  rcases h with (((h | h) | h) | h) | h
  · unfold hdB; simp [h]
  · unfold hdB; simp [h]
  · unfold hdB; simp [h]
  · cases hn : nodeB s.depth s.level s.index with
    | false => unfold hdB; simp [hn]
    | true =>
      have h : ¬ (s.nl : Int) = ((2 ^ dpN s : Nat) : Int) := fun e => h (e.trans (sz_w hn).1.symm)
      have : Nat.beq s.nl (2 ^ dpN s) = false := by
        rw [Bool.eq_false_iff, ne_eq, Nat.beq_eq]
        exact fun e => h (congrArg Int.ofNat e)
      unfold hdB; simp [this]
  · unfold hdB; simp [h]
theorem okL_el {b : Bas} {s : Spend} {i : Nat} (h : okL b s i = true) : elemB b.gr (lbF s i) = true := by
  unfold okL leafB at h; simp only [Bool.and_eq_true] at h; exact h.1.1
theorem okL_no {b : Bas} {s : Spend} {i : Nat} (h : leafB b s.a (chS b s) (s.lf i 0) (s.lf i 1) (s.lf i 2) = false ∨ s.lf i 0 ∈ (List.range i).map fun i => lbF s (i + 0)) : okL b s i = false := by
  unfold okL newB
  rcases h with h | h
  · rw [h]; rfl
  · have h : lbF s i ∈ (List.range i).map (lbF s) := h
    rw [decide_eq_true h]; simp
theorem okL_yes {b : Bas} {s : Spend} {i : Nat} (h : leafB b s.a (chS b s) (s.lf i 0) (s.lf i 1) (s.lf i 2) = true ∧ ¬ s.lf i 0 ∈ (List.range i).map fun i => lbF s (i + 0)) : okL b s i = true := by
  unfold okL newB
  have h' : ¬ lbF s i ∈ (List.range i).map (lbF s) := h.2
  rw [decide_eq_false h', h.1]; rfl
theorem vfy_l {b : Bas} {r : Rcd} {s : Spend} {i : Nat} (hi : i < s.nl) (h : okL b s i = false) : vfy b r s = false := by
  unfold vfy; rw [allI_f hi h]; simp
theorem vfy_t {b : Bas} {r : Rcd} {s : Spend} (hd : hdB b r s = true) (h : ∀ i, i < s.nl → okL b s i = true) : vfy b r s = ((s.np : Int) == s.level && hEq (folF (topF s) s.pidx s.pf s.np) s.root) := by
  unfold vfy; rw [hd, allI_t h]; rfl
theorem vfy_r {b : Bas} {r : Rcd} {s : Spend} (hd : hdB b r s = true) (hn : (s.np : Int) = s.level) (h : ∀ i, i < s.nl → okL b s i = true) : vfy b r s = hEq (folF (topF s) s.pidx s.pf s.np) s.root := by
  rw [vfy_t hd h, show ((s.np : Int) == s.level) = true by simpa using hn]; rfl
theorem okL_n {b : Bas} {s : Spend} {i : Nat} (h : leafB b s.a (chS b s) (s.lf i 0) (s.lf i 1) (s.lf i 2) = true) (hk : ∀ j, j < i → ¬ lbF s j = lbF s i) : okL b s i = true :=
  okL_yes ⟨h, fun e => by
    obtain ⟨j, hj, e⟩ := (mem_map_r (f := fun i => lbF s (i + 0))).1 e
    exact hk j hj e⟩
def nzB (b : Bas) (x : Int) : Bool := decide (x ≥ 1) && decide (x < b.gr.q)
def msgJ (b : Bas) (u : Int) : Int := pr2V b u 1
def lfJ (b : Bas) (X : Nat → Nat → Int) (i : Nat) : Int := pr2V b (X i 0) (X i 1)
def pairB (b : Bas) (X : Nat → Nat → Int) (i : Nat) : Bool := scaB b.gr (X i 0) && scaB b.gr (X i 1)
def seenB (b : Bas) (X : Nat → Nat → Int) (i : Nat) : Bool := (List.range i).any fun j => decide (lfJ b X i = lfJ b X j)
def secH (b : Bas) (u s : Int) (n : Nat) : Bool := validB b && (nzB b u && (nzB b s && ((msgJ b u != 1) && lvB n)))
def secB (b : Bas) (u s : Int) (X : Nat → Nat → Int) (n : Nat) : Bool := secH b u s n && allI (fun i => pairB b X i && !seenB b X i) n
def secA (u s : Int) (X : Nat → Nat → Int) (n : Nat) : AV := .agg [.int .i64 u, .int .i64 s, .isl 2 n fun i j => .int .i64 (X i j)]
theorem secH_n {b : Bas} {u s : Int} {n : Nat} : (!validB b || !nzB b u || !nzB b s || (msgJ b u == 1) || !lvB n) = !secH b u s n := by
  unfold secH
  cases validB b <;> cases nzB b u <;> cases nzB b s <;> cases hm : (msgJ b u == 1) <;> cases lvB n <;> simp_all
theorem seen_n {b : Bas} {X : Nat → Nat → Int} {i : Nat} : (!scaB b.gr (X i 0) || !scaB b.gr (X i 1) || (List.range i).any fun j => decide (pr2V b (X i 0) (X i 1) = lfJ b X j)) = !(pairB b X i && !seenB b X i) := by
  unfold pairB seenB
  show (_ || (List.range i).any fun j => decide (lfJ b X i = lfJ b X j)) = _
  cases scaB b.gr (X i 0) <;> cases scaB b.gr (X i 1) <;> simp
theorem nz_sca {b : Bas} {x : Int} (h : nzB b x = true) : scaB b.gr x = true := by
  unfold nzB at h
  simp at h
  exact sca_iff.2 ⟨by omega, h.2⟩
theorem pr2_bnd {b : Bas} {x y : Int} (hv : validB b = true) : 0 ≤ pr2V b x y ∧ pr2V b x y < b.gr.p := by
  have h := validB_iff.1 hv
  unfold pr2V
  cases hc : (scaB b.gr x && scaB b.gr y) with
  | false => have := h.G.p3; exact ⟨Int.le_refl _, by show (0 : Int) < _; omega⟩
  | true => exact mod_bnd h.G _
theorem secB_f {b : Bas} {u s : Int} {X : Nat → Nat → Int} {n i : Nat} (hi : i < n) (h : (pairB b X i && !seenB b X i) = false) : secB b u s X n = false := by
  unfold secB
  rw [allI_f hi h, Bool.and_false]
theorem secB_t {b : Bas} {u s : Int} {X : Nat → Nat → Int} {n : Nat} (h0 : secH b u s n = true) (h : ∀ i, i < n → (pairB b X i && !seenB b X i) = true) : secB b u s X n = true := by
  unfold secB
  rw [h0, allI_t h]; rfl
theorem secH_all {b : Bas} {u s : Int} {n : Nat} (h : secH b u s n = true) : validB b = true ∧ nzB b u = true ∧ nzB b s = true ∧ (msgJ b u != 1) = true ∧ lvB n = true := by
  unfold secH at h
  simp only [Bool.and_eq_true] at h
  exact h
structure SecOk (b : Bas) (u s : Int) (X : Nat → Nat → Int) (n : Nat) : Prop where
  v : validB b = true
  hu : nzB b u = true
  hs : nzB b s = true
  m : (msgJ b u != 1) = true
  l : lvB n = true
  p : ∀ i, i < n → pairB b X i = true
  d : ∀ i, i < n → seenB b X i = false
theorem sec_all {b : Bas} {u s : Int} {X : Nat → Nat → Int} {n : Nat} (h : secB b u s X n = true) : SecOk b u s X n := by
  unfold secB at h
  rw [Bool.and_eq_true] at h
  obtain ⟨h1, h2, h3, h4, h5⟩ := secH_all h.1
  have k : ∀ i, i < n → pairB b X i = true ∧ seenB b X i = false := fun i hi => by
    have := List.all_eq_true.1 h.2 i (List.mem_range.2 hi)
    simpa using this
  exact ⟨h1, h2, h3, h4, h5, fun i hi => (k i hi).1, fun i hi => (k i hi).2⟩
theorem sec_of {b : Bas} {u s : Int} {X : Nat → Nat → Int} {n : Nat} (h : SecOk b u s X n) : secB b u s X n = true := by
  unfold secB secH
  rw [h.v, h.hu, h.hs, h.m, h.l]
  exact allI_t fun i hi => by rw [h.p i hi, h.d i hi]; rfl
theorem sca_one {b : Bas} (h : b.Ok) : scaB b.gr 1 = true := sca_iff.2 ⟨by decide, by have := h.G.q3; omega⟩
theorem nz_rng {b : Bas} {x : Int} (h : nzB b x = true) : 0 ≤ x ∧ x < b.gr.q := sca_iff.1 (nz_sca h)
theorem msgJ_el {b : Bas} {u : Int} (hv : validB b = true) (hu : nzB b u = true) : elemB b.gr (msgJ b u) = true := by
  have h := validB_iff.1 hv
  unfold msgJ
  rw [(pr2_ok ⟨nz_sca hu, sca_one h⟩).1]
  exact elem_mul h.G (elem_pow h.G h.e1 _) (elem_pow h.G h.e2 _)
theorem dp_lv (p : Nat → Bool) : (decide (firstI p 11 0 ≥ 0) && decide (firstI p 11 0 ≤ 5)) = decide (firstI p 6 0 ≥ 0) := by
  by_cases h0 : p 0 = true
  · simp [firstI, h0]
  by_cases h1 : p 1 = true
  · simp [firstI, h0, h1]
  by_cases h2 : p 2 = true
  · simp [firstI, h0, h1, h2]
  by_cases h3 : p 3 = true
  · simp [firstI, h0, h1, h2, h3]
  by_cases h4 : p 4 = true
  · simp [firstI, h0, h1, h2, h3, h4]
  by_cases h5 : p 5 = true
  · simp [firstI, h0, h1, h2, h3, h4, h5]
  have e1 : firstI p 11 0 = firstI p 5 6 := by simp [firstI, h0, h1, h2, h3, h4, h5]
  have e2 : firstI p 6 0 = -1 := by simp [firstI, h0, h1, h2, h3, h4, h5]
  have e3 : firstI p 5 6 = -1 ∨ 6 ≤ firstI p 5 6 := by
    simp only [firstI]
    repeat' split
    all_goals omega
  rw [e1, e2]
  rcases e3 with e | e
  · rw [e]; decide
  · rw [decide_eq_false (by omega : ¬ firstI p 5 6 ≤ 5), Bool.and_false]; decide
def dpJ (n : Nat) : Int := firstI (fun d => (n : Int) == ((2 ^ d : Nat) : Int)) 11 0
theorem dpJ_lv (n : Nat) : (decide (dpJ n ≥ 0) && decide (dpJ n ≤ 5)) = lvB n := dp_lv _
theorem shl1_f : ∀ x : Fin 11, IntKind.wrap .i64 ((1 : Int) * 2 ^ min (Int.toNat ((x.1 : Nat) : Int)) 64) = ((2 ^ x.1 : Nat) : Int) := by decide +kernel
theorem shl1 {x : Nat} (h : x ≤ 10) : IntKind.wrap .i64 ((1 : Int) * 2 ^ min x 64) = ((2 ^ x : Nat) : Int) := shl1_f ⟨x, by omega⟩
theorem any_t {n i : Nat} {p : Nat → Bool} (hi : i < n) (h : p i = true) : (List.range n).any p = true := List.any_eq_true.2 ⟨i, List.mem_range.2 hi, h⟩
theorem any_f {n : Nat} {p : Nat → Bool} (h : ∀ i, i < n → p i = false) : (List.range n).any p = false := List.any_eq_false.2 fun i hi => by rw [h i (List.mem_range.1 hi)]; decide
theorem lf_out {os : List (Option Ob)} {n m : Nat} {f : Nat → Int} (h : m = n) : Ent os (.isl 1 m fun r k => atL [AV.int .i64 (f (r + 0))] k) (.isl 1 n fun i _ => .int .i64 (f i)) := by
  subst h
  exact Ent.isl fun i j _ hj => by obtain rfl : j = 0 := Nat.lt_one_iff.1 hj; rfl
theorem pair_all {b : Bas} {X : Nat → Nat → Int} {i : Nat} (h : pairB b X i = true) : scaB b.gr (X i 0) = true ∧ scaB b.gr (X i 1) = true := by
  unfold pairB at h
  simpa using h
def psJ (b : Bas) (u s : Int) : Int := msgJ b u ^ s.toNat % b.gr.p
end Go.Sp

namespace Go.Am
open Go.RowKit
theorem Sim.grow {K:Ctx} {β:Book} {s:ASt} {a:Act} {w w':World} (hs:Sim K β s a w) (hb:Below w.heap.size w w'):Sim K β s a w':=by
 have hk:Keeps β w β w':=keeps_ext hb
 have hkp:Kept K.B K.G w w':=(Kept.ofBelow K.G hb).mono hs.hB (fun _ _ h=>h)
 exact ⟨fun n=>(hs.slot n).keep hk,hs.size,hs.defers.kept hkp,fun id o ho=>(hs.heap id o ho).imp (fun ⟨b,h1,h2⟩=>⟨b,h1,h2.keep hk (hb.block b (hs.live id b _ _ h1).2)⟩) (fun h=>h),hs.inj,hs.fresh,
  fun id b n mu h=>⟨(hs.live id b n mu h).1,Nat.lt_of_lt_of_le (hs.live id b n mu h).2 hb.size⟩,hs.giv,hs.bF,hs.hF,hs.kept.trans hkp,Nat.le_trans hs.hB hb.size,fun g m h hgl=>(hs.glob g m h hgl).keep hk⟩
theorem Sim.slots {K:Ctx} {β:Book} {s s':ASt} {a a':Act} {w:World} (hs:Sim K β s a w) (hH:s'.H=s.H) (hc:s'.c=s.c) (hsz:a'.tmps.size=a.tmps.size) (hd:a'.defers=a.defers) (h:∀ n,Rel β w (s'.fr n) (a'.tmps.getD n undef)):Sim K β s' a' w :=
 ⟨h,hsz.trans hs.size,by rw [hd];exact hs.defers,fun id o ho=>hs.heap id o (hH▸ho),hs.inj,fun id h=>hs.fresh id (hc▸h),hs.live,hs.giv,hs.bF,hs.hF,hs.kept,hs.hB,hs.glob⟩
theorem lookZ_cons_ne {m n:Nat} {ns:List Nat} {v:AV} {vs:List AV} (h:m≠n):lookZ (m::ns) (v::vs) n=lookZ ns vs n:=by
 have hb:Nat.beq m n=false:=by
  cases hb:Nat.beq m n with
  | false=>rfl
  | true=>exact absurd (Nat.eq_of_beq_eq_true hb) h
 simp only [lookZ,hb,cond_false]
theorem lookZ_cons_eq {m:Nat} {ns:List Nat} {v:AV} {vs:List AV}:lookZ (m::ns) (v::vs) m=v:=by simp [lookZ]
theorem getD_put_eq {a:Act} {d:Nat} {v:Value} (h:d<a.tmps.size):(a.put (some d) v).tmps.getD d undef=v:=by simp [Act.put,Array.getD_eq_getD_getElem?,h]
theorem Sim.put {K:Ctx} {β:Book} {ns:List Nat} {vs:List AV} {obs:List (Option Ob)} {a:Act} {w:World} {d:Nat} {v:Value} {x:AV} (hs:Sim K β (mkSt ns vs obs) a w) (hdt:d<K.nt) (hr:Rel β w x v):Sim K β (mkSt (d::ns) (x::vs) obs) (a.put (some d) v) w:=by
 have hdt':d<a.tmps.size:=by rw [hs.size];exact hdt
 refine hs.slots rfl rfl (by simp [Act.put]) rfl (fun n=>?_)
 show Rel β w (lookZ (d::ns) (x::vs) n) _
 by_cases h:d=n
 ·subst h
  rw [lookZ_cons_eq]
  rw [getD_put_eq hdt'];exact hr
 ·rw [lookZ_cons_ne h,getD_put_ne (Ne.symm h)]
  exact hs.slot n
theorem Sim.drop {K:Ctx} {β:Book} {ns:List Nat} {vs:List AV} {obs:List (Option Ob)} {a:Act} {w:World} {d:Nat} {x:AV} (hd:d∉ns) (hs:Sim K β (mkSt (d::ns) (x::vs) obs) a w):Sim K β (mkSt ns vs obs) a w:=by
 refine hs.slots rfl rfl rfl rfl (fun n=>?_)
 show Rel β w (lookZ ns vs n) _
 by_cases h:d=n
 ·subst h;rw [lookZ_none hd];exact .junk
 ·have:=hs.slot n
  have e:(mkSt (d::ns) (x::vs) obs).fr n=lookZ ns vs n:=lookZ_cons_ne h
  rw [e] at this
  exact this
theorem make_wp {K:Ctx} {β:Book} {ns:List Nat} {vs:List AV} {obs:List (Option Ob)} {a:Act} {w:World} {id t d1 d2 k e ty1 ty2:Nat} {p1 p2:String} {af1 af2:Array Edge} {Q:Exit→Act→World→Prop} (hk:K.P.underlying k=some (.int .i64)) (he:K.P.underlying e=some .bool)
  (hd1:d1<K.nt) (hd2:d2<K.nt) (hn1:d1∉d2::ns) (hs:Sim K β (mkSt ns vs obs) a w)
  (hQ:∀ a' w',a'.tmps.getD d2 undef=.map (some w.heap.size)→Sim K β (mkSt (d2::ns) (.mpc 0 (fun _=>false)::vs) obs) a' w'→Q .normal a' w') :
  (Code.region id #[⟨some d1,.makeMap t none,ty1,p1,af1,none⟩,⟨some d2,.assign (.tmp d1),ty2,p2,af2,none⟩] false).wp K.P Q a w:=by
 refine wp_region ?_
 have hb:Below w.heap.size w (w.alloc (.map #[] 0)):=(Below.refl _ _).alloc (Nat.le_refl _) _
 have hrel:Rel β (w.alloc (.map #[] 0)) (.mpc 0 (fun _=>false)) (.map (some w.heap.size)):=.mpc ⟨fun h=>by rw [hs.bF] at h;have:=(hs.hF _ h).1;have:=hs.hB;omega,fun id n h=>by have:=(hs.live id _ n true h).2;omega⟩
  ⟨K.P,k,e,.map [],hk,he,w.ownsMap_made K.P k _,fun x _=>rfl⟩
 have h1:Sim K β (mkSt (d1::ns) (.mpc 0 (fun _=>false)::vs) obs) (a.put (some d1) (.map (some w.heap.size))) (w.alloc (.map #[] 0)):=(hs.grow hb).put hd1 hrel
 have e1:(a.put (some d1) (.map (some w.heap.size))).tmps.getD d1 undef=.map (some w.heap.size):=getD_put_eq (by rw [hs.size];exact hd1)
 rw [List.mem_cons,not_or] at hn1
 have h2:=h1.put (x:=.mpc 0 (fun _=>false)) hd2 hrel
 have h3:Sim K β (mkSt (d2::ns) (.mpc 0 (fun _=>false)::vs) obs) ((a.put (some d1) (.map (some w.heap.size))).put (some d2) (.map (some w.heap.size))) (w.alloc (.map #[] 0)):=by
  refine h2.slots rfl rfl rfl rfl (fun n=>?_)
  show Rel β _ (lookZ (d2::ns) _ n) _
  have g:=h2.slot n
  by_cases hn:d2=n
  ·subst hn
   have ee:(mkSt (d2::d1::ns) (AV.mpc 0 (fun _=>false)::AV.mpc 0 (fun _=>false)::vs) obs).fr d2=AV.mpc 0 (fun _=>false):=lookZ_cons_eq
   rw [ee] at g
   rw [lookZ_cons_eq];exact g
  ·rw [lookZ_cons_ne hn]
   by_cases hn':d1=n
   ·subst hn';rw [lookZ_none hn1.2];exact .junk
   ·have ee:(mkSt (d2::d1::ns) (AV.mpc 0 (fun _=>false)::AV.mpc 0 (fun _=>false)::vs) obs).fr n=lookZ ns vs n:=(lookZ_cons_ne hn).trans (lookZ_cons_ne hn')
    rw [ee] at g;exact g
 have hlast:((a.put (some d1) (.map (some w.heap.size))).put (some d2) (.map (some w.heap.size))).tmps.getD d2 undef=.map (some w.heap.size):=getD_put_eq (by rw [h1.size];exact hd2)
 show wpOps K.P _ Q [0,1] a w
 simp only [wpOps,List.getElem?_toArray,List.getElem?_cons_zero,List.getElem?_cons_succ,Region.wanted,if_true]
 refine .inl ?_
 unfold Oper.wp
 simp only [execOp,Sem.run_bind,Sem.run_pure,Oper.upon_value]
 refine .inl ?_
 simp only [Act.eval,e1]
 exact hQ _ _ hlast h3
theorem opsIn_shift {P:Program} {F:Fence} {n:Nat} {ops ops':Array Oper} {m:Nat} {X:Act→World→Prop} {Q:Exit→Act→World→Prop} {rest:List Nat} (hops:∀ i,i<m→ops'[i]? = ops[i+1]?) (hg:∀ i o,i<m→ops[i+1]? = some o→o.guard=none)
  (hX:∀ a w,X a w→wpOpsIn F n P ops Q rest a w):∀ (l:List Nat),(∀ i,i∈l→i<m)→∀ (a:Act) (w:World),wpOpsIn F n P ops' (fun e a w=>(e=.normal∧X a w)) l a w→wpOpsIn F n P ops Q (l.map (· + 1)++rest) a w:=by
 intro l
 induction l with
 | nil=>intro _ a w h;exact hX a w h.2
 | cons i l ih =>
  intro hl a w h
  have hi:=hl i (List.mem_cons_self ..)
  rw [List.map_cons,List.cons_append]
  simp only [wpOpsIn] at h ⊢
  rw [hops i hi] at h
  cases ho:ops[i+1]? with
  | none=>simp only [ho] at h ⊢;exact ih (fun k hk=>hl k (List.mem_cons_of_mem _ hk)) a w h
  | some o =>
   simp only [ho] at h ⊢
   have hw:∀ ys,Region.wanted o ys=true:=fun ys=>by simp [Region.wanted,hg i o hi ho]
   simp only [hw,if_true] at h ⊢
   exact ⟨h.1,uponIn_in (fun _ _ _ h=>by cases h.1) (fun ⟨_,_,h⟩=>by cases h.1) (fun a' w' h'=>ih (fun k hk=>hl k (List.mem_cons_of_mem _ hk)) a' w' h') _ h.2⟩
theorem Sim.turn {K:Ctx} {β:Book} {ns:List Nat} {vs:List AV} {obs:List (Option Ob)} {a:Act} {w w':World} {b:Nat} (hs:Sim K β (mkSt ns vs obs) a w) (hnm:NMS (mkSt ns vs obs)) (hgl:NMG K.gl) (hB:K.B≤b) (hw0:K.w0.heap.size≤b) (hg:w.grownBy w' (some b)) (hb:∃ es z,w.heap[b]? = some (.map es z)) :
  Sim K β (mkSt ns vs obs) a w':=by
 obtain ⟨es,z,hb⟩:=hb
 have low:∀ k,k<w.heap.size→k≠b→w'.heap[k]? = w.heap[k]? := fun k hk hne=>hg.block k hk (fun e=>hne (Option.some.inj e))
 have hsz:=hs.kept.size
 refine hs.same (fun k cs el y hk=>?_) hg.size (.inr ⟨hnm,hgl⟩) ?_ rfl ?_
 ·exact (low k (Array.getElem?_eq_some_iff.1 hk).1 (fun e=>by subst e;rw [hb] at hk;cases hk)).trans hk
 ·have hk2:∀ k,k<K.B→w'.heap[k]? = w.heap[k]? := fun k hk=>low k (Nat.lt_of_lt_of_le hk hs.hB) (by omega)
  exact ⟨hg.os.trans hs.kept.os,hg.tape.trans hs.kept.tape,hg.output.trans hs.kept.output,Nat.le_trans hsz hg.size,fun k hk hG=>(hk2 k hk).trans (hs.kept.block k hk hG),fun k hk=>(shape_of_block (hk2 k hk)).trans (hs.kept.shape k hk),
   fun k o hk ho=>by
    have hlt:=(Array.getElem?_eq_some_iff.1 hk).1
    exact (low k (by omega) (by omega)).trans (hs.kept.othr k o hk ho)⟩
 ·obtain ⟨Ds,h1,h2,h3,h4⟩:=hs.defers
  refine ⟨Ds,h1,h2,h3,fun D hD=>⟨(h4 D hD).1,(h4 D hD).2.1,?_⟩⟩
  have:=(h4 D hD).2.2
  exact (low D (Array.getElem?_eq_some_iff.1 this).1 (fun e=>by subst e;rw [hb] at this;cases this)).trans this
theorem SetIn.put {P:Program} {w:World} {b n:Nat} {M:Int→Bool} {t k e:TypeId} {A:Int} (h:SetIn w b n M) (ht:P.underlying t=some (.map k e)) (hk:P.underlying k=some (.int .i64)) (he:P.underlying e=some .bool) (hn:n<maxLen) (hA:(Lit.int .i64 A).wf=true) :
  ∃ w',(Instr.mapUpdate t (.map (some b)) (.int .i64 A) (.bool true)).run P w=.ok () w'∧SetIn w' b (n+1) (fun y=>M y||decide (y=A))∧w.grownBy w' (some b):=by
 obtain ⟨P',k',e',D,g1,g2,g3,g4⟩:=h
 have own:=plain_any g1 g2 hk he g3
 obtain ⟨w',r1,r2,r3⟩:=own.update (Maps.int_keyed hk) ht hn (Maps.keyOf_int_mk hk hA) (plainElem_bool he true)
 refine ⟨w',r1,⟨P,k,e,_,hk,he,r2,fun x hx=>?_⟩,r3⟩
 by_cases hxa:x=A
 ·subst hxa
  rw [Maps.atKey_put_same (own.isMap) ((Maps.int_keyed hk).key (Maps.keyOf_int_mk hk hA))]
  simp
 ·rw [Maps.atKey_put_other (fun e=>hxa (by injection e)),g4 x hx]
  simp [hxa]
theorem upd_wp {K:Ctx} {own:FuncId→Option (List Bool)} {ng id:Nat} {ops mid:Array Oper} {β:Book} {a:Act} {w:World} {ns ns':List Nat} {vs vs':List AV} {obs obs':List (Option Ob)} {d m0 x t k e ty ty' n b:Nat} {p p':String} {af af':Array Edge} {M:Int→Bool} {A:Int} {Q:Exit→Act→World→Prop}
  (hsz:ops.size=mid.size+2) (h0:ops[0]? = some ⟨some d,.move (.tmp m0),ty,p,af,none⟩) (hmid:∀ i,i<mid.size→mid[i]? = ops[i+1]?) (hgd:∀ i o,i<mid.size→ops[i+1]? = some o→o.guard=none)
  (hmu:ops[mid.size+1]? = some ⟨none,.mapUpdate t (.tmp d) (.tmp x) (.const (.bool true)),ty',p',af',none⟩)
  (ht:K.P.underlying t=some (.map k e)) (hk:K.P.underlying k=some (.int .i64)) (he:K.P.underlying e=some .bool) (hpins:keepsOps [d,m0] mid=true) (hdm:d≠m0) (hdt:d<K.nt)
  (hr:Round K.P K.gl own ng K.nt (.region id mid false) (mkSt (d::ns) (.mpc n M::vs) obs) (mkSt (d::x::ns') (.mpc n M::.int .i64 A::vs') obs'))
  (hm:lookZ ns vs m0=.mpc n M) (hA : -9223372036854775808≤A∧A≤9223372036854775807) (hn:n<maxLen) (hnm:NMS (mkSt ns' vs' obs')) (hgl:NMG K.gl) (hn1:d∉x::ns') (hn2:x∉ns') (hxd:x≠d)
  (hng:∀ id,ng≤id→K.b0 id=none) (hs:Sim K β (mkSt ns vs obs) a w) (hb:a.tmps.getD m0 undef=.map (some b)) (hB:K.B≤b) (hw0:K.w0.heap.size≤b)
  (hQ:∀ β' a' w',a'.tmps.getD m0 undef=.map (some b)→Sim K β' (mkSt (m0::ns') (.mpc (n+1) (fun y=>M y||decide (y=A))::vs') obs') a' w'→Q .normal a' w') :
  (Code.region id ops false).wp K.P Q a w:=by
 refine wpIn_wide (n:=9).1 (wpIn_region ?_)
 have hl:List.range ops.size=0::((List.range mid.size).map (· + 1)++[mid.size+1]):=by
  rw [hsz,List.range_succ_eq_map,List.range_succ,List.map_append]
  rfl
 rw [hl]
 have hrel0:Rel β w (.mpc n M) (a.tmps.getD m0 undef):=by
  have:=hs.slot m0
  have e:(mkSt ns vs obs).fr m0=.mpc n M:=hm
  rw [e] at this
  exact this
 have h1:=hs.put (x:=.mpc n M) hdt hrel0
 simp only [wpOpsIn,h0]
 have hw:∀ (o:Oper) ys,o.guard=none→Region.wanted o ys=true:=fun o ys h=>by simp [Region.wanted,h]
 rw [if_pos (hw _ _ rfl)]
 refine ⟨fun _ _=>trivial,?_⟩
 rw [Oper.semAt_eq _ _ _ (fun c h=>by cases h)]
 show wpOpsIn _ _ _ _ _ _ (a.put (some d) (a.tmps.getD m0 undef)) w
 refine opsIn_shift (X:=fun a' w'=>((∃ β',Sim K β' (mkSt (d::x::ns') (.mpc n M::.int .i64 A::vs') obs') a' w')∧PinIn [d,m0] (a.put (some d) (a.tmps.getD m0 undef)) a')) (ops':=mid) (m:=mid.size) hmid hgd ?_ _ (fun i hi=>List.mem_range.1 hi) _ _ (Round.ops hr (.inl rfl) hpins hng h1)
 rintro a' w' ⟨⟨β',hs'⟩,hp⟩
 have hd':a'.tmps.getD d undef=.map (some b):=by
  rw [hp d (List.mem_cons_self ..),getD_put_eq (by rw [hs.size];exact hdt)];exact hb
 have hm':a'.tmps.getD m0 undef=.map (some b):=by
  rw [hp m0 (List.mem_cons_of_mem _ (List.mem_cons_self ..)),getD_put_ne (Ne.symm hdm)];exact hb
 have hrd:Rel β' w' (.mpc n M) (.map (some b)):=by
  have:=hs'.slot d
  have e:(mkSt (d::x::ns') (.mpc n M::.int .i64 A::vs') obs').fr d=.mpc n M:=lookZ_cons_eq
  rw [e,hd'] at this
  exact this
 have hrx:a'.tmps.getD x undef=.int .i64 A:=by
  have:=hs'.slot x
  have e:(mkSt (d::x::ns') (.mpc n M::.int .i64 A::vs') obs').fr x=.int .i64 A:=(lookZ_cons_ne (Ne.symm hxd)).trans lookZ_cons_eq
  rw [e] at this
  exact rel_int_inv this
 cases hrd with
 | mpc hfree hset =>
  obtain ⟨w2,hrun,hset2,hg⟩:=hset.put ht hk he hn ((Lit.wf_int_iff _ _).2 ⟨Int.le_trans (by decide) hA.1,Int.le_trans hA.2 (by decide)⟩)
  simp only [wpOpsIn,hmu]
  rw [if_pos (hw _ _ rfl)]
  refine ⟨fun _ _=>trivial,?_⟩
  rw [Oper.semAt_eq _ _ _ (fun c h=>by cases h)]
  have hsem:(execOp a'.eval ⟨none,.mapUpdate t (.tmp d) (.tmp x) (.const (.bool true)),ty',p',af',none⟩).run K.P w'=.ok .skip w2:=by
   simp [execOp,Act.eval,hd',hrx,hrun]
  rw [hsem]
  have hs2:Sim K β' (mkSt ns' vs' obs') a' w2:=((hs'.drop hn1).drop hn2).turn hnm hgl hB hw0 hg hset.map
  have hs3:Sim K β' (mkSt (m0::ns') (.mpc (n+1) (fun y=>M y||decide (y=A))::vs') obs') a' w2:=by
   refine hs2.slots rfl rfl rfl rfl (fun q=>?_)
   show Rel β' w2 (lookZ (m0::ns') _ q) _
   by_cases hq:m0=q
   ·subst hq
    rw [lookZ_cons_eq,hm']
    exact .mpc hfree hset2
   ·rw [lookZ_cons_ne hq];exact hs2.slot q
  exact hQ β' a' w2 hm' hs3
theorem Round.wp {K:Ctx} {own:FuncId→Option (List Bool)} {ng:Nat} {c:Code} {s s':ASt} {β:Book} {a:Act} {w:World} {pins:List Nat} {Q:Exit→Act→World→Prop} (hr:Round K.P K.gl own ng K.nt c s s') (hk:keepsC pins c=true) (hng:∀ id,ng≤id→K.b0 id=none) (hm:K.P.follows .mixedOrders=true) (hs:Sim K β s a w)
  (hQ:∀ β' a' w',Sim K β' s' a' w'→PinIn pins a a'→Q .normal a' w'):c.wp K.P Q a w:=by
 refine wp_mono (wpIn_wide (n:=9).1 (Round.in (F:=Fence.wide) hr (.inl rfl) hk hng hm hs)) ?_
 rintro e a' w' ⟨rfl,⟨β',hs'⟩,hp⟩
 exact hQ β' a' w' hs' hp
theorem slot_bool {K:Ctx} {β:Book} {ns:List Nat} {vs:List AV} {obs:List (Option Ob)} {a:Act} {w:World} {t:Nat} {g:Bool} (hs:Sim K β (mkSt (t::ns) (.bool g::vs) obs) a w):a.eval (.tmp t)=.bool g:=by
 have:=hs.slot t
 have e:(mkSt (t::ns) (.bool g::vs) obs).fr t=.bool g:=lookZ_cons_eq
 rw [e] at this
 exact rel_bool_inv this
theorem ops_split {ops mid:Array Oper} {o0 mu:Oper} (h:ops.toList=o0::(mid.toList++[mu])):ops.size=mid.size+2∧ops[0]? = some o0∧(∀ i,i<mid.size→mid[i]? = ops[i+1]?)∧ops[mid.size+1]? = some mu:=by
 have hg:∀ i:Nat,ops[i]? = (o0::(mid.toList++[mu]))[i]? := fun i=>by rw [← h,Array.getElem?_toList]
 refine ⟨?_,by rw [hg];rfl,fun i hi=>?_,?_⟩
 ·have:=congrArg List.length h
  simpa using this
 ·rw [hg,List.getElem?_cons_succ,List.getElem?_append_left (by simpa using hi),Array.getElem?_toList]
 ·rw [hg,List.getElem?_cons_succ,List.getElem?_append_right (by simp)]
  simp
theorem ops_guard {ops mid:Array Oper} (h:∀ i,i<mid.size→mid[i]? = ops[i+1]?) (hg:mid.toList.all (fun o=>o.guard.isNone)=true):∀ i o,i<mid.size→ops[i+1]? = some o→o.guard=none:=fun i o hi ho=>by
 have hm:o∈mid.toList:=by
  rw [← h i hi,← Array.getElem?_toList] at ho
  exact List.mem_of_getElem? ho
 have:=List.all_eq_true.1 hg o hm
 simpa using this
theorem set_fn {P:Program} {gl:Globs} {own:FuncId→Option (List Bool)} {f:FuncId} {fn:Func} {args:List AV} {B g1:Bool} {R0 R1 R2 R4 R5 R6 R7 R8 R10 R11:Code} {ops9 mid:Array Oper}
  {t38 t44 t65 m0 d1 d x tm km em ty1 ty2 ty3 ty4 id3 id9 b0 b1 rs n:Nat} {p1 p2 p3 p4:String} {af1 af2 af3 af4:Array Edge} {ns nsL nsK:List Nat} {vs:List AV} {vsL vsK:Nat→List AV} {obs obsL:List (Option Ob)} {obsK:Nat→List (Option Ob)} {ok:Nat→Bool} {A:Nat→Int}
  (hf:P.funcs[f]? = some fn)
  (hb:fn.body=some (.seq R0 (.seq (.seq R1 (.cond (.tmp t38) (.seq R2 .ret) .skip)) (.seq (.region id3 #[⟨some d1,.makeMap tm none,ty1,p1,af1,none⟩,⟨some m0,.assign (.tmp d1),ty2,p2,af2,none⟩] false)
   (.seq (.seq R4 (.block b0 (.loop (.seq R5 (.seq (.cond (.tmp t44) .skip (.exit b0)) (.seq (.block b1 (.seq R6 (.seq (.seq R7 (.cond (.tmp t65) (.seq R8 .ret) .skip)) (.region id9 ops9 false)))) R10)))))) (.seq R11 .ret))))))
  (hname:(fn.name == "runtime.NumGoroutine")=false) (hm:P.follows .mixedOrders=true) (hn:Nat.ble args.length fn.ntmps=true)
  (htm:P.underlying tm=some (.map km em)) (hkm:P.underlying km=some (.int .i64)) (hem:P.underlying em=some .bool) (hgl:NMG gl)
  (hd1:d1<fn.ntmps) (hm0:m0<fn.ntmps) (hd1n:d1∉m0::ns) (hdt:d<fn.ntmps) (hdm:d≠m0)
  (hpins:(keepsC [m0] R4&&keepsC [m0] R5&&keepsC [m0] R6&&keepsC [m0] R7&&keepsC [m0] R10&&(keepsC [] R0&&keepsC [] R1&&keepsC [] R2&&keepsC [] R8&&keepsC [] R11))=true)
  (h9l:ops9.toList=⟨some d,.move (.tmp m0),ty3,p3,af3,none⟩::(mid.toList++[⟨none,.mapUpdate tm (.tmp d) (.tmp x) (.const (.bool true)),ty4,p4,af4,none⟩])) (h9n:mid.toList.all (fun o=>o.guard.isNone)=true)
  (h9k:keepsOps [d,m0] mid=true)
  (hout:∀ v,endOf P fn 0 false args (mkSt [rs] [.bool v] [])=some (.bool v,[]))
  (s0:ASt) (h0:Round P gl own 0 fn.ntmps R0 (entry args []) s0)
  (h1:Round P gl own 0 fn.ntmps R1 s0 (mkSt (t38::ns) (.bool g1::vs) obs)) (ht38:t38∉ns)
  (h2:g1=true→B=false∧Round P gl own 0 fn.ntmps R2 (mkSt (t38::ns) (.bool g1::vs) obs) (mkSt [rs] [.bool false] []))
  (h4:g1=false→Round P gl own 0 fn.ntmps R4 (mkSt (m0::ns) (.mpc 0 (fun _=>false)::vs) obs) (mkSt (m0::nsL) (.mpc 0 (fun _=>false)::vsL 0) obsL))
  (h5:∀ i M,g1=false→i≤n→Round P gl own 0 fn.ntmps R5 (mkSt (m0::nsL) (.mpc i M::vsL i) obsL) (mkSt (t44::m0::nsL) (.bool (decide (i<n))::.mpc i M::vsL i) obsL)) (ht44:t44∉m0::nsL)
  (s6:Nat→(Int→Bool)→ASt) (h6:∀ i M,g1=false→i<n→Round P gl own 0 fn.ntmps R6 (mkSt (m0::nsL) (.mpc i M::vsL i) obsL) (s6 i M))
  (h7:∀ i M,g1=false→i<n→M=(fun y=>(List.range i).any fun j=>decide (y=A j))→Round P gl own 0 fn.ntmps R7 (s6 i M) (mkSt (t65::m0::nsK) (.bool (!ok i)::.mpc i M::vsK i) (obsK i))) (ht65:t65∉m0::nsK)
  (h8:∀ i M,g1=false→i<n→ok i=false→B=false∧Round P gl own 0 fn.ntmps R8 (mkSt (t65::m0::nsK) (.bool (!ok i)::.mpc i M::vsK i) (obsK i)) (mkSt [rs] [.bool false] []))
  (h9:∀ i M,g1=false→i<n→ok i=true→Round P gl own 0 fn.ntmps (.region id9 mid false) (mkSt (d::m0::nsK) (.mpc i M::.mpc i M::vsK i) (obsK i)) (mkSt (d::x::nsL) (.mpc i M::.int .i64 (A i)::vsL i) obsL))
  (hA:∀ i,g1=false→i<n→ok i=true → -9223372036854775808≤A i∧A i≤9223372036854775807) (hn':n≤1000000) (hnm:∀ i,i<n→NMS (mkSt nsL (vsL i) obsL)) (hdx:d∉x::nsL) (hx:x∉nsL) (hxd:x≠d)
  (h10:∀ i M,g1=false→i<n→Round P gl own 0 fn.ntmps R10 (mkSt (m0::nsL) (.mpc (i+1) M::vsL i) obsL) (mkSt (m0::nsL) (.mpc (i+1) M::vsL (i+1)) obsL))
  (h11:∀ M,g1=false→(∀ i,i<n→ok i=true)→B=true∧Round P gl own 0 fn.ntmps R11 (mkSt (m0::nsL) (.mpc n M::vsL n) obsL) (mkSt [rs] [.bool true] [])):Pure P gl f args (.bool B):=by
 simp only [Bool.and_eq_true] at hpins
 obtain ⟨hsz,h90,h9m,h9u⟩:=ops_split h9l
 have h9g:=ops_guard h9m h9n
 obtain ⟨⟨⟨⟨⟨k4,k5⟩,k6⟩,k7⟩,k10⟩,⟨⟨⟨⟨k0,k1⟩,k2⟩,k8⟩,k11⟩⟩:=hpins
 refine gives_by (own:=own) (hand:=false) hf hb hname hn fun K β a w hP hgl' hnt hng hqt hKB hs=>?_
 subst hP;subst hgl'
 rw [← hnt] at hd1 hm0 hdt h0 h1 h2 h4 h5 h6 h7 h8 h9 h10 h11
 have fin:∀ v,B=v→∀ β a w,Sim K β (mkSt [rs] [.bool v] []) a w→Final K ⟨K.P,K.gl,fn.ntmps,own,([]:List Ob).length⟩ (Back K.P fn ([]:List Ob).length false args (.bool B) []) .ret a w:=fun v hv β a w hs =>
  ⟨β,_,.ret,rfl,hs,_,_,hout v,by rw [hv];exact Ent.refl _,trivial⟩
 refine wp_seq (Round.wp (pins:=[]) h0 k0 hng hm hs fun β a w hs _=>?_)
 refine wp_seq (wp_seq (Round.wp (pins:=[]) h1 k1 hng hm hs fun β a w hs _=>?_))
 refine wp_cond_split (slot_bool hs) (fun hg=>?_) (fun hg=>wp_skip ?_)
 ·obtain ⟨hB,hr⟩:=h2 hg
  exact wp_seq (Round.wp (pins:=[]) hr k2 hng hm hs fun β a w hs _=>wp_ret (fin false hB β a w hs))
 have hs:=hs.drop ht38
 have hbB:=hs.hB
 have hbw:=hs.kept.size
 generalize hbb:w.heap.size=b at hbB hbw
 refine wp_seq (make_wp hkm hem hd1 hm0 hd1n hs fun a2 w2 hmap2 hs2=>?_)
 rw [hbb] at hmap2
 cases g1 with
 | true=>cases hg
 | false =>
 refine wp_seq (wp_seq (Round.wp (pins:=[m0]) (h4 rfl) k4 hng hm hs2 fun β a w hs hp=>?_))
 have hmap:a.tmps.getD m0 undef=.map (some b):=(hp m0 (List.mem_cons_self ..)).trans hmap2
 refine wp_block (wp_loop_ghost (fun q a w=>∃ i β,q=n - i∧i≤n∧Sim K β (mkSt (m0::nsL) (.mpc i (fun y=>(List.range i).any fun j=>decide (y=A j))::vsL i) obsL) a w∧a.tmps.getD m0 undef=.map (some b)∧∀ j,j<i→ok j=true) n
  ⟨0,β,rfl,Nat.zero_le _,hs,hmap,fun j hj=>absurd hj (Nat.not_lt_zero j)⟩ ?_)
 rintro q a w ⟨i,β,rfl,hi,hs,hmap,hok⟩
 refine wp_seq (Round.wp (pins:=[m0]) (h5 i _ rfl hi) k5 hng hm hs fun β a w hs hp=>?_)
 have hmap:a.tmps.getD m0 undef=.map (some b):=(hp m0 (List.mem_cons_self ..)).trans hmap
 refine wp_seq (wp_cond_split (slot_bool hs) (fun hlt=>wp_skip ?_) (fun hge=>wp_exit ?_))
 ·have hlt:=of_decide_eq_true hlt
  have hs:=hs.drop ht44
  refine wp_seq (wp_block (wp_seq (Round.wp (pins:=[m0]) (h6 i _ rfl hlt) k6 hng hm hs fun β a w hs hp=>?_)))
  have hmap:a.tmps.getD m0 undef=.map (some b):=(hp m0 (List.mem_cons_self ..)).trans hmap
  refine wp_seq (wp_seq (Round.wp (pins:=[m0]) (h7 i _ rfl hlt rfl) k7 hng hm hs fun β a w hs hp=>?_))
  have hmap:a.tmps.getD m0 undef=.map (some b):=(hp m0 (List.mem_cons_self ..)).trans hmap
  refine wp_cond_split (slot_bool hs) (fun h=>?_) (fun h=>wp_skip ?_)
  ·obtain ⟨hB,hr⟩:=h8 i _ rfl hlt (by simpa using h)
   exact wp_seq (Round.wp (pins:=[]) hr k8 hng hm hs fun β a w hs _=>wp_ret (fin false hB β a w hs))
  ·have hoki:ok i=true:=by simpa using h
   refine upd_wp (Q:=_) hsz h90 h9m h9g h9u htm hkm hem h9k hdm hdt (h9 i _ rfl hlt hoki) lookZ_cons_eq (hA i rfl hlt hoki) (Nat.lt_of_le_of_lt (by omega:i≤1000000) (by decide)) (hnm i hlt) hgl hdx hx hxd hng (hs.drop ht65) hmap hbB (by omega) (fun β a w hmap hs=>?_)
   refine Round.wp (pins:=[m0]) (h10 i _ rfl hlt) k10 hng hm hs (fun β a w hs hp=>⟨n - (i+1),by omega,i+1,β,rfl,hlt,?_,(hp m0 (List.mem_cons_self ..)).trans hmap,fun j hj=>?_⟩)
   ·have e:(fun y=>(List.range (i+1)).any fun j=>decide (y=A j))=fun y=>((List.range i).any fun j=>decide (y=A j))||decide (y=A i):=funext fun y=>by simp [List.range_succ]
    rw [e];exact hs
   ·rcases Nat.lt_succ_iff_lt_or_eq.1 hj with hj|rfl
    ·exact hok j hj
    ·exact hoki
 ·have hge:=of_decide_eq_false hge
  obtain rfl:i=n:=by omega
  obtain ⟨hB,hr⟩:=h11 _ rfl hok
  show Exit.inBlock b0 _ (.exit b0) a w
  simp only [Exit.inBlock,if_true]
  exact wp_seq (Round.wp (pins:=[]) hr k11 hng hm (hs.drop ht44) fun β a w hs _=>wp_ret (fin true hB β a w hs))
end Go.Am

namespace Go.Proofs.YtolcfdcoidpieaaGreatDoor
open Go Go.Am Go.Sp
set_option maxRecDepth 100000
theorem cnonzero_c (b:Bas) (x:Int):Pure Tryz.prog gl0 120 [b.av,.int .i64 x] (.bool (nzB b x)):=by
 refine pure_sk (own:=ow0) Tryz.func120 (by kernel_rfl) mixed (by kernel_rfl)
  (.out (AV.bool (decide (x≥1)&&decide (x<(Bas.gr b).2))) [] (AV.bool (nzB b x)) [])
  (by kernel_rfl) ?_
 exact k_out (Ent.refl _)
theorem cscalar_c (b:Bas) (x:Int):Pure Tryz.prog gl0 123 [b.av,.int .i64 x] (.bool (scaB b.gr x)):=by
 refine pure_sk (own:=ow0) Tryz.func123 (by kernel_rfl) mixed (by kernel_rfl)
  (.out (AV.bool (decide (x≥0)&&decide (x<(Bas.gr b).2))) [] (AV.bool (scaB (Bas.gr b) x)) [])
  (by kernel_rfl) ?_
 exact k_out (Ent.refl _)
theorem cmessage_c (b:Bas) (u:Int) (hw:b.gr.W) (hv:validB b=true):Pure Tryz.prog gl0 121 [b.av,.int .i64 u] (.int .i64 (msgJ b u)):=by
 have c1:=product2_l b u 1 hw hv
 refine pure_sk (own:=ow0) Tryz.func121 (by kernel_rfl) mixed (by kernel_rfl)
  (.sc (true) 193 ([AV.agg [Zi (Bas.gr b).1,Zi (Bas.gr b).2,Zi (Bas.gr b).3],AV.isl 1 2 fun (r k:Nat)=>atL (List.getD [[Zi b.2],[Zi b.3]] (r+0) []) k,AV.isl 1 2 fun (r k:Nat)=>atL (List.getD [[Zi u],[Zi 1]] (r+0) []) k]) (AV.tup [Zi (pr2V b u (1:Int)),Zi (pr2E b u (1:Int))]) (.out (Zi (pr2V b u (1:Int))) [] (Zi (msgJ b u)) []))
  (by kernel_rfl) ?_
 refine k_sc (c1) ?_
 exact k_out (Ent.refl _)
theorem product2_a (b:Bas) (x y:Int) (hw:b.gr.W) (hv:validB b=true):Pure Tryz.prog gl0 193 [b.gr.av,.isl 1 2 fun r k=>atL (List.getD [[.int .i64 b.g1],[.int .i64 b.g2]] (r+0) []) k,.isl 1 2 fun r _=>.int .i64 (intOfAV (atL [.int .i64 x,.int .i64 y] (0+(0+r))))] (.tup [.int .i64 (pr2V b x y),.int .i64 (pr2E b x y)]) :=
 (product2_c b x y hw hv).via ⟨Ent.refl _,sel_isl,Ent.isl (fun i j hi hj=>by obtain rfl:j=0:=Nat.lt_one_iff.1 hj;match i,hi with|0,_|1,_=>rfl),trivial⟩
theorem cleaf_c (b:Bas) (x y:Int) (hw:b.gr.W) (hv:validB b=true):Pure Tryz.prog gl0 124 [b.av,.agg [.int .i64 x,.int .i64 y]] (.int .i64 (pr2V b x y)):=by
 have c1:=product2_a b x y hw hv
 refine pure_sk (own:=ow0) Tryz.func124 (by kernel_rfl) mixed (by kernel_rfl)
  (.sc (true) 193 ([AV.agg [Zi (Bas.gr b).1,Zi (Bas.gr b).2,Zi (Bas.gr b).3],AV.isl 1 2 fun (r k:Nat)=>atL (List.getD [[Zi b.2],[Zi b.3]] (r+0) []) k,AV.isl 1 2 fun (r x_1:Nat)=>Zi (intOfAV (atL [Zi x,Zi y] (0+(0+r))))]) (AV.tup [Zi (pr2V b x y),Zi (pr2E b x y)]) (.out (Zi (pr2V b x y)) [] (Zi (pr2V b x y)) []))
  (by kernel_rfl) ?_
 refine k_sc (c1) ?_
 exact k_out (Ent.refl _)
noncomputable def vsC:Code:=Tryz.f61.body.getD .skip
def cT:Code→Code|.cond _ a _=>a|c=>c
noncomputable def vs4:Code:=cR (cR (cR vsC))
noncomputable def vsL:Code:=cI (cI (cR (cL vs4)))
noncomputable def vsB:Code:=cR (cI (cL (cR (cR vsL))))
noncomputable def vsM:Array Oper:=((cO (cR vsB)).toList.drop 1).dropLast.toArray
theorem vs_0 (b:Bas) (u s:Int) (X:Nat→Nat→Int) (n:Nat):Round Tryz.prog gl0 ow0 0 71 (cL vsC) (entry [b.av,secA u s X n] []) (mkSt [2,3] [.own 0 6 0 0 6,.own 1 3 0 0 3] [some ⟨6,1,true,.lst [b.cells]⟩,some ⟨3,1,true,.lst [[.int .i64 u,.int .i64 s,.isl 2 n fun i j=>.int .i64 (X i j)]]⟩]):=by
 refine round_sk (own:=ow0)
  (let y0:List (Option Ob):=[some ⟨6,1,true,Rep.lst [Bas.cells b]⟩,some ⟨3,1,true,Rep.lst [[Zi u,Zi s,AV.isl 2 n fun (i j:Nat)=>Zi (X i j)]]⟩];(.again (fun (u_1:ASt)=>Le 0 u_1 (mkSt [2,3] [AV.own 0 6 0 0 6,AV.own 1 3 0 0 3] y0)) ([2,3]) ([0,8]) ([AV.own 0 6 0 0 6,AV.own 1 3 0 0 3]) (y0)))
  (by kernel_rfl) ?_
 exact k_againR (fun _ hs=>hs.le (⟨.refl _,.refl _,trivial⟩) (⟨.refl _,.refl _,trivial⟩))
theorem vs_1 (b:Bas) (u s:Int) (X:Nat→Nat→Int) (n:Nat) (hw:b.gr.W):Round Tryz.prog gl0 ow0 0 71 (cL (cL (cR vsC))) (mkSt [2,3] [.own 0 6 0 0 6,.own 1 3 0 0 3] [some ⟨6,1,true,.lst [b.cells]⟩,some ⟨3,1,true,.lst [[.int .i64 u,.int .i64 s,.isl 2 n fun i j=>.int .i64 (X i j)]]⟩]) (mkSt [38,2,3] [.bool (!secH b u s n),.own 0 6 0 0 6,.own 1 3 0 0 3] [some ⟨6,1,true,.lst [b.cells]⟩,some ⟨3,1,true,.lst [[.int .i64 u,.int .i64 s,.isl 2 n fun i j=>.int .i64 (X i j)]]⟩]):=by
 have c1:=bvalid_c b hw
 have c2:=cnonzero_c b
 have c3:=fun hv=>cmessage_c b u hw hv
 have c4:=leaves_c n
 refine round_sk (own:=ow0)
  (let y0:List (Option Ob):=[some ⟨6,1,true,Rep.lst [Bas.cells b]⟩,some ⟨3,1,true,Rep.lst [[Zi u,Zi s,AV.isl 2 n fun (i j:Nat)=>Zi (X i j)]]⟩];(.sc (true) 34 ([AV.agg (Bas.cells b)]) (AV.bool (validB b)) (.sc ((!validB b)==false) 120 ([AV.agg (Bas.cells b),Zi u]) (AV.bool (nzB b u)) (.sc ((!validB b || !nzB b u)==false) 120 ([AV.agg (Bas.cells b),Zi s]) (AV.bool (nzB b s)) (.sc ((!validB b || !nzB b u || !nzB b s)==false) 121 ([AV.agg (Bas.cells b),Zi u]) (Zi (msgJ b u)) (.sc ((!validB b || !nzB b u || !nzB b s||msgJ b u==1)==false) 122 ([Zi (↑n:Int)]) (AV.bool (lvB (↑n:Int))) (.again (fun (u_1:ASt)=>Le 0 u_1 (mkSt [38,2,3] [AV.bool !secH b u s n,AV.own 0 6 0 0 6,AV.own 1 3 0 0 3] y0)) ([38,2,3]) ([0,1]) ([AV.bool (!validB b || !nzB b u || !nzB b s||msgJ b u==1 || !lvB (↑n:Int)),AV.own 0 6 0 0 6,AV.own 1 3 0 0 3]) (y0))))))))
  (by kernel_rfl) ?_
 refine k_sc (c1) ?_
 refine k_scg (fun h1=>c2 (u)) ?_
 refine k_scg (fun h2=>c2 (s)) ?_
 refine k_scg (fun h3=>c3 (by (simp at h3;exact h3.1.1))) ?_
 refine k_scg (fun h4=>c4) ?_
 exact k_againR (fun _ hs=>hs.le (⟨Ent.of_eq (congrArg _ secH_n),Ent.refl _,Ent.refl _,trivial⟩) (⟨.refl _,.refl _,trivial⟩))
theorem vs_4 (b:Bas) (u s:Int) (X:Nat→Nat→Int) (n:Nat):Round Tryz.prog gl0 ow0 0 71 (cL (cL vs4)) (mkSt [5,2,3] [.mpc 0 (fun _=>false),.own 0 6 0 0 6,.own 1 3 0 0 3] [some ⟨6,1,true,.lst [b.cells]⟩,some ⟨3,1,true,.lst [[.int .i64 u,.int .i64 s,.isl 2 n fun i j=>.int .i64 (X i j)]]⟩]) (mkSt [5,2,41,42,43] [.mpc 0 (fun _=>false),.own 0 6 0 0 6,.isl 2 n fun i j=>.int .i64 (X i j),.int .i64 n,.int .i64 (0:Nat)] [some ⟨6,1,true,.lst [b.cells]⟩]):=by
 refine round_sk (own:=ow0)
  (.again (fun (u:ASt)=>Le 0 u (mkSt [5,2,41,42,43] [AV.mpc 0 fun (x:Int)=>false,AV.own 0 6 0 0 6,AV.isl 2 n fun (i j:Nat)=>Zi (X i j),Zi (↑n:Int),Zi (↑(0:Nat):Int)] [some ⟨6,1,true,Rep.lst [Bas.cells b]⟩])) ([5,2,41,42,43]) ([0]) ([AV.mpc 0 fun (x:Int)=>false,AV.own 0 6 0 0 6,AV.isl 2 n fun (i j:Nat)=>Zi (X i j),Zi (↑n:Int),Zi 0]) ([some ⟨6,1,true,Rep.lst [Bas.cells b]⟩]))
  (by kernel_rfl) ?_
 exact k_againR (fun _ hs=>hs.le (⟨.refl _,.refl _,.refl _,.refl _,.refl _,trivial⟩) (⟨.refl _,trivial⟩))
theorem vs_5 (b:Bas) (u s:Int) (X:Nat→Nat→Int) (n i:Nat) (M:Int→Bool):Round Tryz.prog gl0 ow0 0 71 (cL vsL) (mkSt [5,2,41,42,43] [.mpc i M,.own 0 6 0 0 6,.isl 2 n fun i j=>.int .i64 (X i j),.int .i64 n,.int .i64 i] [some ⟨6,1,true,.lst [b.cells]⟩]) (mkSt [44,5,2,41,42,43] [.bool (decide (i<n)),.mpc i M,.own 0 6 0 0 6,.isl 2 n fun i j=>.int .i64 (X i j),.int .i64 n,.int .i64 i] [some ⟨6,1,true,.lst [b.cells]⟩]):=by
 refine round_sk (own:=ow0)
  (.again (fun (u:ASt)=>Le 0 u (mkSt [44,5,2,41,42,43] [AV.bool (decide (i<n)),AV.mpc i M,AV.own 0 6 0 0 6,AV.isl 2 n fun (i j:Nat)=>Zi (X i j),Zi (↑n:Int),Zi (↑i:Int)] [some ⟨6,1,true,Rep.lst [Bas.cells b]⟩])) ([44,5,2,41,42,43]) ([0]) ([AV.bool (decide ((↑i:Int)<(↑n:Int))),AV.mpc i M,AV.own 0 6 0 0 6,AV.isl 2 n fun (i j:Nat)=>Zi (X i j),Zi (↑n:Int),Zi (↑i:Int)]) ([some ⟨6,1,true,Rep.lst [Bas.cells b]⟩]))
  (by kernel_rfl) ?_
 exact k_againR (fun _ hs=>hs.le (⟨Ent.of_eq (congrArg _ (decide_eq_decide.2 (by omega))),Ent.refl _,Ent.refl _,Ent.refl _,Ent.refl _,Ent.refl _,trivial⟩) (⟨.refl _,trivial⟩))
theorem vs_6 (b:Bas) (u s:Int) (X:Nat→Nat→Int) (n i:Nat) (M:Int→Bool) (hi:i<n):Round Tryz.prog gl0 ow0 0 71 (cL (cI (cL (cR (cR vsL))))) (mkSt [5,2,41,42,43] [.mpc i M,.own 0 6 0 0 6,.isl 2 n fun i j=>.int .i64 (X i j),.int .i64 n,.int .i64 i] [some ⟨6,1,true,.lst [b.cells]⟩]) (mkSt [5,2,41,42,43,7] [.mpc i M,.own 0 6 0 0 6,.isl 2 n fun i j=>.int .i64 (X i j),.int .i64 n,.int .i64 i,.own 1 2 0 0 2] [some ⟨6,1,true,.lst [b.cells]⟩,some ⟨2,1,true,.lst [[.int .i64 (X i 0),.int .i64 (X i 1)]]⟩]):=by
 refine round_sk (own:=ow0)
  (.req ((0:Int)≤(↑i:Int)∧(↑i:Int)<(↑n:Int)) (.again (fun (u:ASt)=>Le 0 u (mkSt [5,2,41,42,43,7] [AV.mpc i M,AV.own 0 6 0 0 6,AV.isl 2 n fun (i j:Nat)=>Zi (X i j),Zi (↑n:Int),Zi (↑i:Int),AV.own 1 2 0 0 2] [some ⟨6,1,true,Rep.lst [Bas.cells b]⟩,some ⟨2,1,true,Rep.lst [[Zi (X i 0),Zi (X i 1)]]⟩])) ([5,2,41,42,43,7]) ([0,17]) ([AV.mpc i M,AV.own 0 6 0 0 6,AV.isl 2 n fun (i j:Nat)=>Zi (X i j),Zi (↑n:Int),Zi (↑i:Int),AV.own 1 2 0 0 2]) ([some ⟨6,1,true,Rep.lst [Bas.cells b]⟩,some ⟨2,1,true,Rep.lst [[Zi (X (Int.toNat (↑i:Int)) 0),Zi (X (Int.toNat (↑i:Int)) 1)]]⟩])))
  (by kernel_rfl) ?_
 refine k_req (by omega) ?_
 exact k_againR (fun _ hs=>hs.le (⟨.refl _,.refl _,.refl _,.refl _,.refl _,.refl _,trivial⟩) (⟨.refl _,.refl _,trivial⟩))
theorem vs_7 (b:Bas) (u s:Int) (X:Nat→Nat→Int) (n i:Nat) (hw:b.gr.W) (hv:validB b=true):Round Tryz.prog gl0 ow0 0 71 (cL (cL vsB)) (mkSt [5,2,41,42,43,7] [.mpc i (fun y=>(List.range i).any fun j=>decide (y=lfJ b X j)),.own 0 6 0 0 6,.isl 2 n fun i j=>.int .i64 (X i j),.int .i64 n,.int .i64 i,.own 1 2 0 0 2] [some ⟨6,1,true,.lst [b.cells]⟩,some ⟨2,1,true,.lst [[.int .i64 (X i 0),.int .i64 (X i 1)]]⟩]) (mkSt [65,5,2,41,42,43,7] [.bool (!(pairB b X i && !seenB b X i)),.mpc i (fun y=>(List.range i).any fun j=>decide (y=lfJ b X j)),.own 0 6 0 0 6,.isl 2 n fun i j=>.int .i64 (X i j),.int .i64 n,.int .i64 i,.own 1 2 0 0 2] [some ⟨6,1,true,.lst [b.cells]⟩,some ⟨2,1,true,.lst [[.int .i64 (X i 0),.int .i64 (X i 1)]]⟩]):=by
 have c1:=cscalar_c b
 have c2:=cleaf_c b (X i 0) (X i 1) hw hv
 refine round_sk (own:=ow0)
  (.req ((0:Int)≤0∧(0:Int)<(↑(2):Int)) (.sc (true) 123 ([AV.agg (Bas.cells b),Zi (X i 0)]) (AV.bool (scaB (Bas.gr b) (X i 0))) (.req (((!scaB b.1 (X i 0))==false)=true→(0:Int)≤1∧(1:Int)<(↑(2):Int)) (.sc ((!scaB b.1 (X i 0))==false) 123 ([AV.agg (Bas.cells b),Zi (X i 1)]) (AV.bool (scaB (Bas.gr b) (X i 1))) (.sc ((!scaB b.1 (X i 0) || !scaB b.1 (X i 1))==false) 124 ([AV.agg (Bas.cells b),AV.agg [Zi (X i 0),Zi (X i 1)]]) (Zi (pr2V b (X i 0) (X i 1))) (.req (((!scaB b.1 (X i 0) || !scaB b.1 (X i 1))==false)=true→(-9223372036854775808:Int)≤pr2V b (X i 0) (X i 1)∧pr2V b (X i 0) (X i 1)≤9223372036854775807) (.again (fun (u:ASt)=>Le 0 u (mkSt [65,5,2,41,42,43,7] [AV.bool !(pairB b X i && !seenB b X i),AV.mpc i fun (y:Int)=>List.any (List.range i) fun (j:Nat)=>decide (y=lfJ b X j),AV.own 0 6 0 0 6,AV.isl 2 n fun (i j:Nat)=>Zi (X i j),Zi (↑n:Int),Zi (↑i:Int),AV.own 1 2 0 0 2] [some ⟨6,1,true,Rep.lst [Bas.cells b]⟩,some ⟨2,1,true,Rep.lst [[Zi (X i 0),Zi (X i 1)]]⟩])) ([65,5,2,41,42,43,7]) ([0,1]) ([AV.bool (!scaB b.1 (X i 0) || !scaB b.1 (X i 1)||List.any (List.range.loop i []) fun (j:Nat)=>decide (pr2V b (X i 0) (X i 1)=lfJ b X j)),AV.mpc i fun (y:Int)=>List.any (List.range.loop i []) fun (j:Nat)=>decide (y=lfJ b X j),AV.own 0 6 0 0 6,AV.isl 2 n fun (i j:Nat)=>Zi (X i j),Zi (↑n:Int),Zi (↑i:Int),AV.own 1 2 0 0 2]) ([some ⟨6,1,true,Rep.lst [Bas.cells b]⟩,some ⟨2,1,true,Rep.lst [[Zi (X i 0),Zi (X i 1)]]⟩]))))))))
  (by kernel_rfl) ?_
 refine k_req (by omega) ?_
 refine k_sc (c1 (X i (0))) ?_
 refine k_req (by omega) ?_
 refine k_scg (fun h3=>c1 (X i (1))) ?_
 refine k_scg (fun h4=>c2) ?_
 refine k_req (by (intro _;have:=pr2_bnd (b:=b) (x:=X i 0) (y:=X i 1) hv;have:=hw.p;omega)) ?_
 exact k_againR (fun _ hs=>hs.le (⟨Ent.of_eq (congrArg _ seen_n),Ent.refl _,Ent.refl _,Ent.refl _,Ent.refl _,Ent.refl _,Ent.refl _,trivial⟩) (⟨.refl _,.refl _,trivial⟩))
theorem vs_9 (b:Bas) (u s:Int) (X:Nat→Nat→Int) (n i:Nat) (M:Int→Bool) (hw:b.gr.W) (hv:validB b=true):Round Tryz.prog gl0 ow0 0 71 (.region 9 vsM false) (mkSt [66,5,2,41,42,43,7] [.mpc i M,.mpc i M,.own 0 6 0 0 6,.isl 2 n fun i j=>.int .i64 (X i j),.int .i64 n,.int .i64 i,.own 1 2 0 0 2] [some ⟨6,1,true,.lst [b.cells]⟩,some ⟨2,1,true,.lst [[.int .i64 (X i 0),.int .i64 (X i 1)]]⟩]) (mkSt [66,69,2,41,42,43] [.mpc i M,.int .i64 (lfJ b X i),.own 0 6 0 0 6,.isl 2 n fun i j=>.int .i64 (X i j),.int .i64 n,.int .i64 i] [some ⟨6,1,true,.lst [b.cells]⟩]):=by
 have c2:=cleaf_c b (X i 0) (X i 1) hw hv
 refine round_sk (own:=ow0)
  (.sc (true) 124 ([AV.agg (Bas.cells b),AV.agg [Zi (X i 0),Zi (X i 1)]]) (Zi (pr2V b (X i 0) (X i 1))) (.again (fun (u:ASt)=>Le 0 u (mkSt [66,69,2,41,42,43] [AV.mpc i M,Zi (lfJ b X i),AV.own 0 6 0 0 6,AV.isl 2 n fun (i j:Nat)=>Zi (X i j),Zi (↑n:Int),Zi (↑i:Int)] [some ⟨6,1,true,Rep.lst [Bas.cells b]⟩])) ([66,69,2,41,42,43]) ([0]) ([AV.mpc i M,Zi (pr2V b (X i 0) (X i 1)),AV.own 0 6 0 0 6,AV.isl 2 n fun (i j:Nat)=>Zi (X i j),Zi (↑n:Int),Zi (↑i:Int)]) ([some ⟨6,1,true,Rep.lst [Bas.cells b]⟩])))
  (by kernel_rfl) ?_
 refine k_sc (c2) ?_
 exact k_againR (fun _ hs=>hs.le (⟨.refl _,.refl _,.refl _,.refl _,.refl _,.refl _,trivial⟩) (⟨.refl _,trivial⟩))
theorem vs_10 (b:Bas) (u s:Int) (X:Nat→Nat→Int) (n i:Nat) (M:Int→Bool) (hi:i<n) (hn:n≤1000):Round Tryz.prog gl0 ow0 0 71 (cR (cR (cR vsL))) (mkSt [5,2,41,42,43] [.mpc (i+1) M,.own 0 6 0 0 6,.isl 2 n fun i j=>.int .i64 (X i j),.int .i64 n,.int .i64 i] [some ⟨6,1,true,.lst [b.cells]⟩]) (mkSt [5,2,41,42,43] [.mpc (i+1) M,.own 0 6 0 0 6,.isl 2 n fun i j=>.int .i64 (X i j),.int .i64 n,.int .i64 (i+1:Nat)] [some ⟨6,1,true,.lst [b.cells]⟩]):=by
 refine round_sk (own:=ow0)
  (.again (fun (u:ASt)=>Le 0 u (mkSt [5,2,41,42,43] [AV.mpc (i+1) M,AV.own 0 6 0 0 6,AV.isl 2 n fun (i j:Nat)=>Zi (X i j),Zi (↑n:Int),Zi (↑(i+1):Int)] [some ⟨6,1,true,Rep.lst [Bas.cells b]⟩])) ([5,2,41,42,43]) ([0]) ([AV.mpc (i+1) M,AV.own 0 6 0 0 6,AV.isl 2 n fun (i j:Nat)=>Zi (X i j),Zi (↑n:Int),Zi (IntKind.wrap IntKind.i64 ((↑i:Int)+1))]) ([some ⟨6,1,true,Rep.lst [Bas.cells b]⟩]))
  (by kernel_rfl) ?_
 exact k_againR (fun _ hs=>hs.le (⟨.refl _,.refl _,.refl _,.refl _,inc_ent (by omega),trivial⟩) (⟨.refl _,trivial⟩))
theorem vs_2 (s:ASt):Round Tryz.prog gl0 ow0 0 71 (cL (cT (cR (cL (cR vsC))))) s (mkSt [4] [.bool false] []):=by
 refine round_sk (own:=ow0)
  (.again (fun (u:ASt)=>Le 0 u (mkSt [4] [AV.bool false] [])) ([4]) ([]) ([AV.bool false]) ([]))
  (by kernel_rfl) ?_
 exact k_againR (fun _ hs=>hs.le (⟨.refl _,trivial⟩) (trivial))
theorem vs_8 (s:ASt):Round Tryz.prog gl0 ow0 0 71 (cL (cT (cR (cL vsB)))) s (mkSt [4] [.bool false] []):=by
 refine round_sk (own:=ow0)
  (.again (fun (u:ASt)=>Le 0 u (mkSt [4] [AV.bool false] [])) ([4]) ([]) ([AV.bool false]) ([]))
  (by kernel_rfl) ?_
 exact k_againR (fun _ hs=>hs.le (⟨.refl _,trivial⟩) (trivial))
theorem vs_11 (s:ASt):Round Tryz.prog gl0 ow0 0 71 (cL (cR vs4)) s (mkSt [4] [.bool true] []):=by
 refine round_sk (own:=ow0)
  (.again (fun (u:ASt)=>Le 0 u (mkSt [4] [AV.bool true] [])) ([4]) ([]) ([AV.bool true]) ([]))
  (by kernel_rfl) ?_
 exact k_againR (fun _ hs=>hs.le (⟨.refl _,trivial⟩) (trivial))
noncomputable def vs3:Array Oper:=cO (cL (cR (cR vsC)))
noncomputable def vs9:Array Oper:=cO (cR vsB)
def mkT:Option Oper→TypeId|some ⟨_,.makeMap t _,_,_,_,_⟩=>t|_=>0
def mpK:Option TypeDesc→TypeId|some (.map k _)=>k|_=>0
def mpE:Option TypeDesc→TypeId|some (.map _ e)=>e|_=>0
def opT:Option Oper→TypeId|some o=>o.type|_=>0
def opP:Option Oper→String|some o=>o.pos|_ => ""
def opA:Option Oper→Array Edge|some o=>o.after|_ => #[]
noncomputable def vsT:TypeId:=mkT vs3[0]?
theorem bas_nm (b:Bas):NML b.cells:=by
 unfold Bas.cells Grp.cells
 exact ⟨.int,.int,.int,.int,.int,.int,trivial⟩
theorem vsecret_c (b:Bas) (u s:Int) (X:Nat→Nat→Int) (n:Nat) (hw:b.gr.W) (hn:n≤1000):Pure Tryz.prog gl0 61 [b.av,secA u s X n] (.bool (secB b u s X n)):=by
 refine set_fn (own:=ow0) (R0:=cL vsC) (R1:=cL (cL (cR vsC))) (R2:=cL (cT (cR (cL (cR vsC))))) (R4:=cL (cL vs4)) (R5:=cL vsL) (R6:=cL (cI (cL (cR (cR vsL))))) (R7:=cL (cL vsB)) (R8:=cL (cT (cR (cL vsB)))) (R10:=cR (cR (cR vsL))) (R11:=cL (cR vs4)) (ops9:=vs9) (mid:=vsM)
  (t38:=38) (t44:=44) (t65:=65) (m0:=5) (d1:=39) (d:=66) (x:=69) (tm:=vsT) (km:=mpK (Tryz.prog.underlying vsT)) (em:=mpE (Tryz.prog.underlying vsT)) (ty1:=opT vs3[0]?) (ty2:=opT vs3[1]?) (ty3:=opT vs9[0]?) (ty4:=opT vs9[4]?) (id3:=3) (id9:=9) (b0:=0) (b1:=1) (rs:=4) (n:=n)
  (p1:=opP vs3[0]?) (p2:=opP vs3[1]?) (p3:=opP vs9[0]?) (p4:=opP vs9[4]?) (af1:=opA vs3[0]?) (af2:=opA vs3[1]?) (af3:=opA vs9[0]?) (af4:=opA vs9[4]?)
  (ns:=[2,3]) (nsL:=[2,41,42,43]) (nsK:=[2,41,42,43,7]) (vs:=[.own 0 6 0 0 6,.own 1 3 0 0 3]) (vsL:=fun i=>[.own 0 6 0 0 6,.isl 2 n fun i j=>.int .i64 (X i j),.int .i64 n,.int .i64 i]) (vsK:=fun i=>[.own 0 6 0 0 6,.isl 2 n fun i j=>.int .i64 (X i j),.int .i64 n,.int .i64 i,.own 1 2 0 0 2])
  (obs:=[some ⟨6,1,true,.lst [b.cells]⟩,some ⟨3,1,true,.lst [[.int .i64 u,.int .i64 s,.isl 2 n fun i j=>.int .i64 (X i j)]]⟩]) (obsL:=[some ⟨6,1,true,.lst [b.cells]⟩]) (obsK:=fun i=>[some ⟨6,1,true,.lst [b.cells]⟩,some ⟨2,1,true,.lst [[.int .i64 (X i 0),.int .i64 (X i 1)]]⟩])
  (ok:=fun i=>pairB b X i && !seenB b X i) (A:=lfJ b X) (g1 := !secH b u s n)
  Tryz.func61 (by kernel_rfl) (by kernel_rfl) mixed (by kernel_rfl) (by kernel_rfl) (by kernel_rfl) (by kernel_rfl) gl0_nm (by decide) (by decide) (by decide) (by decide) (by decide) (by kernel_rfl) (by kernel_rfl) (by kernel_rfl) (by kernel_rfl) (fun v=>by kernel_rfl)
  _ (vs_0 b u s X n) (vs_1 b u s X n hw) (by decide) (fun h=>⟨?_,vs_2 _⟩) (fun _=>vs_4 b u s X n) (fun i M _ _=>vs_5 b u s X n i M) (by decide) _ (fun i M _ hi=>vs_6 b u s X n i M hi) (fun i M h0 hi hM=>?_) (by decide) (fun i M _ hi h=>⟨secB_f hi h,vs_8 _⟩)
  (fun i M h0 hi _=>vs_9 b u s X n i M hw (secH_all (by simpa using h0)).1) (fun i h0 hi _=>?_) (by omega) (fun i hi=>.of ⟨.own,.isl fun _ _ _ _=>.int,.int,.int,trivial⟩ ⟨fun i j hi _=>?_,trivial⟩) (by decide) (by decide) (by decide) (fun i M _ hi=>vs_10 b u s X n i M hi hn) (fun M h0 h=>⟨secB_t (by simpa using h0) h,vs_11 _⟩)
 ·unfold secB
  rw [show secH b u s n=false by simpa using h];rfl
 ·subst hM
  exact vs_7 b u s X n i hw (secH_all (by simpa using h0)).1
 ·have h:=pr2_bnd (b:=b) (x:=X i 0) (y:=X i 1) (secH_all (by simpa using h0)).1
  have:=hw.p
  exact ⟨by show _≤pr2V b _ _;omega,by show pr2V b _ _≤_;omega⟩
 ·obtain rfl:i=0:=Nat.lt_one_iff.1 hi
  exact NML.atL (bas_nm b) j
theorem sright_c (b:Bas) (a k x r1 r2:Int) (hw:b.gr.W) (hv:validB b=true) (ha:elemB b.gr a=true) (hk:0≤k∧k<b.gr.q):Pure Tryz.prog gl0 74 [b.av,.int .i64 a,.int .i64 k,.agg [.int .i64 x,.int .i64 r1,.int .i64 r2]] (.bool (leafB b a k x r1 r2)):=by
 have h:=validB_iff.1 hv
 have hg:=validG_iff.2 h.G
 have c1:=contains_c b.gr x hw
 have c2:=gpow_c b.gr a k h.G hw ha hk
 have c3:=fun hx=>gmul_c b.gr (a^k.toNat%b.gr.p) x h.G hw (elem_pow h.G ha _) hx
 have c4:=check2_l b (a^k.toNat%b.gr.p*x%b.gr.p) r1 r2 hw hv
 rw [hg,Bool.true_and] at c1
 refine pure_sk (own:=ow0) Tryz.func74 (by kernel_rfl) mixed (by kernel_rfl)
  (let y0:List AV:=[Zi (Bas.gr b).1,Zi (Bas.gr b).2,Zi (Bas.gr b).3];(.sc (true) 68 ([AV.agg y0,Zi x]) (AV.bool (elemB (Bas.gr b) x)) (.br (!elemB b.1 x) (.out (AV.bool false) [] (AV.bool (leafB b a k x r1 r2)) []) (.sc (true) 146 ([AV.agg y0,Zi a,Zi k]) (AV.tup [Zi (a^Int.toNat k%Grp.p (Bas.gr b)),Zi 0]) (.ff (.sc (true) 147 ([AV.agg y0,Zi (a^Int.toNat k%(Bas.gr b).1),Zi x]) (AV.tup [Zi (a^Int.toNat k%Grp.p (Bas.gr b)*x%Grp.p (Bas.gr b)),Zi 0]) (.sc (true) 148 ([AV.agg y0,Zi (a^Int.toNat k%(Bas.gr b).1*x%(Bas.gr b).1),AV.isl 1 2 fun (r k:Nat)=>atL (List.getD [[Zi b.2],[Zi b.3]] (r+0) []) k,AV.isl 1 2 fun (r k:Nat)=>atL (List.getD [[Zi r1],[Zi r2]] (r+0) []) k]) (AV.bool (chk2 b (a^Int.toNat k%Grp.p (Bas.gr b)*x%Grp.p (Bas.gr b)) r1 r2)) (.out (AV.bool (chk2 b (a^Int.toNat k%(Bas.gr b).1*x%(Bas.gr b).1) r1 r2)) [] (AV.bool (leafB b a k x r1 r2)) []))))))))
  (by kernel_rfl) ?_
 refine k_sc (c1) ?_
 refine k_br (fun h1=>?_) (fun h1=>?_)
 ·have g1:=(cnd_not_t cnd_id_f) h1
  exact k_out (Ent.of_eq (congrArg _ (by unfold leafB;rw [g1];rfl)))
 ·have g1:=(cnd_not_f cnd_id_t) h1
  refine k_sc (c2) ?_
  refine k_ff ?_
  refine k_sc (c3 (g1)) ?_
  refine k_sc (c4) ?_
  exact k_out (Ent.of_eq (congrArg _ (by unfold leafB;rw [g1];rfl)))
theorem r10pow_c (G:Grp) (a e:Int) (h:G.Ok) (ha:0≤a∧a<G.p) (he:0≤e∧e<G.q):Pure Tryz.prog gl0 160 [G.av,.int .i64 a,.int .i64 e] (.int .i64 (a^e.toNat%G.p)):=by
 have k1:=h.p1;have k2:=h.qp;have k3:=h.p3
 have hr:=rreduce_c e G.q (by omega) (by omega)
 rw [red_q he] at hr
 refine pure_sk (own:=ow0) Tryz.func160 (by kernel_rfl) mixed (by kernel_rfl)
  (.sc (true) 111 ([Zi e,Zi G.2]) (Zi e) (.sc (true) 116 ([Zi a,Zi e,Zi G.1]) (Zi (a^Int.toNat e%G.1)) (.out (Zi (a^Int.toNat e%G.1)) [] (Zi (a^Int.toNat e%Grp.p G)) [])))
  (by kernel_rfl) ?_
 refine k_sc (hr) ?_
 refine k_sc (rpow_c (a) (e) (G.1) (by omega) (by omega) (by omega) (by omega) (by assumption)) ?_
 exact k_out (Ent.refl _)
theorem r10mul_c (G:Grp) (a c:Int) (h:G.Ok) (ha:0≤a∧a<G.p) (hc:0≤c∧c<G.p):Pure Tryz.prog gl0 159 [G.av,.int .i64 a,.int .i64 c] (.int .i64 (a*c%G.p)):=by
 have k1:=h.p1;have k3:=h.p3
 refine pure_sk (own:=ow0) Tryz.func159 (by kernel_rfl) mixed (by kernel_rfl)
  (.sc (true) 110 ([Zi a,Zi c,Zi G.1]) (Zi (a*c%G.1)) (.out (Zi (a*c%G.1)) [] (Zi (a*c%Grp.p G)) []))
  (by kernel_rfl) ?_
 refine k_sc (rmul_c (a) (c) (G.1) (by omega) (by omega) (by omega) (by omega) (by assumption)) ?_
 exact k_out (Ent.refl _)
theorem rscal31_c (G:Grp) (x:Int):Pure Tryz.prog gl0 106 [G.av,.int .i64 x] (.bool (scaB G x)):=by
 refine pure_sk (own:=ow0) Tryz.func106 (by kernel_rfl) mixed (by kernel_rfl)
  (.out (AV.bool (decide (x≥0)&&decide (x<G.2))) [] (AV.bool (scaB G x)) [])
  (by kernel_rfl) ?_
 exact k_out (Ent.refl _)
theorem cpseu_c (b:Bas) (u s:Int) (X:Nat→Nat→Int) (n:Nat) (hw:b.gr.W) (hn:n≤1000) (hs:secB b u s X n=true):Pure Tryz.prog gl0 127 [b.av,secA u s X n] (.tup [.int .i64 (psJ b u s),.int .i64 0]):=by
 have H:=sec_all hs
 have h:=validB_iff.1 H.v
 have c1:=vsecret_c b u s X n hw hn
 rw [hs] at c1
 have c2:=cmessage_c b u hw H.v
 have c3:=gpow_c b.gr (msgJ b u) s h.G hw (msgJ_el H.v H.hu) (nz_rng H.hs)
 refine pure_sk (own:=ow0) Tryz.func127 (by kernel_rfl) mixed (by kernel_rfl)
  (.sc (true) 61 ([AV.agg (Bas.cells b),AV.agg [Zi u,Zi s,AV.isl 2 n fun (i j:Nat)=>Zi (X i j)]]) (AV.bool true) (.ff (.sc (true) 121 ([AV.agg (Bas.cells b),Zi u]) (Zi (msgJ b u)) (.sc (true) 146 ([AV.agg [Zi (Bas.gr b).1,Zi (Bas.gr b).2,Zi (Bas.gr b).3],Zi (msgJ b u),Zi s]) (AV.tup [Zi (msgJ b u^Int.toNat s%Grp.p (Bas.gr b)),Zi 0]) (.out (AV.tup [Zi (msgJ b u^Int.toNat s%(Bas.gr b).1),Zi 0]) [] (AV.tup [Zi (psJ b u s),Zi 0]) [])))))
  (by kernel_rfl) ?_
 refine k_sc (c1) ?_
 refine k_ff ?_
 refine k_sc (c2) ?_
 refine k_sc (c3) ?_
 exact k_out (Ent.refl _)
theorem cleaves_c (b:Bas) (u s:Int) (X:Nat→Nat→Int) (n:Nat) (hw:b.gr.W) (hn:n≤1000) (hs:secB b u s X n=true):Pure Tryz.prog gl0 128 [b.av,secA u s X n] (.tup [.isl 1 n fun i _=>.int .i64 (lfJ b X i),.int .i64 0]):=by
 have H:=sec_all hs
 have c1:=vsecret_c b u s X n hw hn
 rw [hs] at c1
 have c2:=fun i=>cleaf_c b (X i 0) (X i 1) hw H.v
 refine pure_sk (own:=ow0) Tryz.func128 (by kernel_rfl) mixed (by kernel_rfl)
  (.sc (true) 61 ([AV.agg (Bas.cells b),AV.agg [Zi u,Zi s,AV.isl 2 n fun (i j:Nat)=>Zi (X i j)]]) (AV.bool true) (.ff (.loop ({ x:Nat // x≤n }) (fun (x:{ x:Nat // x≤n })=>mkSt [2,14,15,6,16] [AV.own 0 6 0 0 6,AV.isl 2 n fun (i j:Nat)=>Zi (X i j),Zi (↑n:Int),AV.osl 1 1 0 (x.1),Zi (↑(x.1):Int)] [some ⟨6,1,true,Rep.lst [Bas.cells b]⟩,some ⟨1,x.1,true,Rep.row fun (i:Nat)=>[Zi (lfJ b X i)]⟩]) (fun (x:{ x:Nat // x≤n })=>n - x.1) (⟨0,Nat.zero_le n⟩) ([2,14,15,6,16]) ([0,361]) ([AV.own 0 6 0 0 6,AV.isl 2 n fun (i j:Nat)=>Zi (X i j),Zi (↑n:Int),AV.nsl,Zi 0]) ([some ⟨6,1,true,Rep.lst [Bas.cells b]⟩,some ⟨1,0,true,Rep.lst []⟩]) (fun x2=>(.br (decide ((↑x2.1:Int)<(↑n:Int))) (.req ((0:Int)≤(↑x2.1:Int)∧(↑x2.1:Int)<(↑n:Int)) (.sc (true) 124 ([AV.agg (Bas.cells b),AV.agg [Zi (X (Int.toNat (↑x2.1:Int)) 0),Zi (X (Int.toNat (↑x2.1:Int)) 1)]]) (Zi (pr2V b (X (Int.toNat (↑x2.1:Int)) 0) (X (Int.toNat (↑x2.1:Int)) 1))) (.req ((x2.1+1)*8≤140737488355328) (.again (Again 0 (fun (x:{ x:Nat // x≤n })=>mkSt [2,14,15,6,16] [AV.own 0 6 0 0 6,AV.isl 2 n fun (i j:Nat)=>Zi (X i j),Zi (↑n:Int),AV.osl 1 1 0 (x.1),Zi (↑(x.1):Int)] [some ⟨6,1,true,Rep.lst [Bas.cells b]⟩,some ⟨1,x.1,true,Rep.row fun (i:Nat)=>[Zi (lfJ b X i)]⟩]) (fun (x:{ x:Nat // x≤n })=>n - x.1) x2) ([2,14,15,6,16]) ([0,82]) ([AV.own 0 6 0 0 6,AV.isl 2 n fun (i j:Nat)=>Zi (X i j),Zi (↑n:Int),AV.osl 1 1 0 (x2.1+1),Zi (IntKind.wrap IntKind.i64 ((↑x2.1:Int)+1))]) ([some ⟨6,1,true,Rep.lst [Bas.cells b]⟩,some ⟨1,x2.1+1,true,Rep.cat x2.1 (Rep.row fun (i:Nat)=>[Zi (lfJ b X i)]) (Rep.lst [[Zi (pr2V b (X (Int.toNat (↑x2.1:Int)) 0) (X (Int.toNat (↑x2.1:Int)) 1))]])⟩]))))) (.out (AV.tup [AV.isl 1 x2.1 fun (r k:Nat)=>atL [Zi (lfJ b X (r+0))] k,Zi 0]) [] (AV.tup [AV.isl 1 n fun (i x:Nat)=>Zi (lfJ b X i),Zi 0]) []))))))
  (by kernel_rfl) ?_
 refine k_sc (c1) ?_
 refine k_ff ?_
 refine k_loop (fun _ hs=>hs.le (by repeat' (first|exact trivial|(first|exact Ent.refl _|exact inc_ent (by omega)|exact Ent.nil rfl|exact Ent.of_eq (congrArg (AV.osl _ _ _) (by first|omega|(dsimp only;omega)))|exact Ent.of_eq (congrArg (AV.int _) (by first|omega|(dsimp only;omega))))|refine And.intro ?_ ?_)) (⟨ObEnt.refl _,ObEnt.zero,trivial⟩)) (fun x2=>?_)
 try (have q2:=x2.2;dsimp only at q2)
 refine k_br (fun h3=>?_) (fun h3=>?_)
 ·have g3:=cnd_dec_t h3
  refine k_req (by omega) ?_
  refine k_sc (c2 (Int.toNat (↑x2.1:Int))) ?_
  refine k_req (by omega) ?_
  exact k_again (⟨x2.1+1,by omega⟩) (fun _ hs=>hs.le (by repeat' (first|exact trivial|(first|exact Ent.refl _|exact inc_ent (by omega)|exact Ent.nil rfl|exact Ent.of_eq (congrArg (AV.osl _ _ _) (by first|omega|(dsimp only;omega)))|exact Ent.of_eq (congrArg (AV.int _) (by first|omega|(dsimp only;omega))))|refine And.intro ?_ ?_)) (⟨ObEnt.refl _,ObEnt.catRow rfl (fun _ _=>EntL.refl _) (EntL.refl _),trivial⟩)) (by (dsimp only;omega))
 ·have g3:=cnd_dec_f h3
  exact k_out (tup2_out (lf_out (by omega)))
theorem rpair_c (b:Bas) (x y:Int) (h:b.Ok) (hx:scaB b.gr x=true) (hy:scaB b.gr y=true):Pure Tryz.prog gl0 176 [b.av,.int .i64 x,.int .i64 y] (.int .i64 (pr2V b x y)):=by
 have e1:=el_bnd h.G h.e1
 have e2:=el_bnd h.G h.e2
 refine pure_sk (own:=ow0) Tryz.func176 (by kernel_rfl) mixed (by kernel_rfl)
  (let y0:List AV:=[Zi (Bas.gr b).1,Zi (Bas.gr b).2,Zi (Bas.gr b).3];(.sc (true) 160 ([AV.agg y0,Zi b.2,Zi x]) (Zi (b.2^Int.toNat x%Grp.p (Bas.gr b))) (.sc (true) 160 ([AV.agg y0,Zi b.3,Zi y]) (Zi (b.3^Int.toNat y%Grp.p (Bas.gr b))) (.sc (true) 159 ([AV.agg y0,Zi (b.2^Int.toNat x%(Bas.gr b).1),Zi (b.3^Int.toNat y%(Bas.gr b).1)]) (Zi (b.2^Int.toNat x%(Bas.gr b).1*(b.3^Int.toNat y%(Bas.gr b).1)%Grp.p (Bas.gr b))) (.out (Zi (b.2^Int.toNat x%(Bas.gr b).1*(b.3^Int.toNat y%(Bas.gr b).1)%(Bas.gr b).1)) [] (Zi (pr2V b x y)) [])))))
  (by kernel_rfl) ?_
 refine k_sc ((r10pow_c (Bas.gr b)) (b.2) (x) (by exact h.G) (by assumption) (by exact sca_iff.1 hx)) ?_
 refine k_sc ((r10pow_c (Bas.gr b)) (b.3) (y) (by exact h.G) (by assumption) (by exact sca_iff.1 hy)) ?_
 refine k_sc ((r10mul_c (Bas.gr b)) (b.2^Int.toNat x%(Bas.gr b).1) (b.3^Int.toNat y%(Bas.gr b).1) (by exact h.G) (by exact mod_bnd h.G _) (by exact mod_bnd h.G _)) ?_
 exact k_out (Ent.of_eq (congrArg _ (pr2_ok ⟨hx,hy⟩).1.symm))
theorem rmsg31_c (b:Bas) (u:Int) (h:b.Ok) (hu:scaB b.gr u=true):Pure Tryz.prog gl0 175 [b.av,.int .i64 u] (.int .i64 (msgJ b u)):=by
 have c1:=rpair_c b u 1 h hu (sca_one h)
 refine pure_sk (own:=ow0) Tryz.func175 (by kernel_rfl) mixed (by kernel_rfl)
  (.sc (true) 176 ([AV.agg (Bas.cells b),Zi u,Zi 1]) (Zi (pr2V b u (1:Int))) (.out (Zi (pr2V b u (1:Int))) [] (Zi (msgJ b u)) []))
  (by kernel_rfl) ?_
 refine k_sc (c1) ?_
 exact k_out (Ent.refl _)
theorem ruser_c (b:Bas) (u:Int) (h:b.Ok):Pure Tryz.prog gl0 104 [b.av,.int .i64 u] (.bool (nzB b u&&(msgJ b u != 1))):=by
 have c1:=fun hu=>rmsg31_c b u h hu
 refine pure_sk (own:=ow0) Tryz.func104 (by kernel_rfl) mixed (by kernel_rfl)
  (.sc ((decide (u≥1)&&decide (u<(Bas.gr b).2))==true) 175 ([AV.agg (Bas.cells b),Zi u]) (Zi (msgJ b u)) (.out (AV.bool (decide (u≥1)&&decide (u<(Bas.gr b).2)&&msgJ b u != 1)) [] (AV.bool (nzB b u&&msgJ b u != 1)) []))
  (by kernel_rfl) ?_
 refine k_scg (fun h0=>c1 (by simp at h0;exact sca_iff.2 ⟨by omega,h0.2⟩)) ?_
 exact k_out (Ent.refl _)
theorem rdep27_c (n:Nat) (hn:n≤1000000):Pure Tryz.prog gl0 103 [.int .i64 n] (.int .i64 (dpJ n)):=by
 refine pure_sk (own:=ow0) Tryz.func103 (by kernel_rfl) mixed (by kernel_rfl)
  (.loop ({ x:Nat // x≤11∧(fun (i:Nat)=>dpJ n=firstI (fun (d:Nat)=>(↑n:Int)==(↑(2^d):Int)) (11 - i) i) x }) (fun (x:{ x:Nat // x≤11∧(fun (i:Nat)=>dpJ n=firstI (fun (d:Nat)=>(↑n:Int)==(↑(2^d):Int)) (11 - i) i) x })=>mkSt [0,3] [Zi (↑n:Int),Zi (↑(x.1):Int)] []) (fun (x:{ x:Nat // x≤11∧(fun (i:Nat)=>dpJ n=firstI (fun (d:Nat)=>(↑n:Int)==(↑(2^d):Int)) (11 - i) i) x })=>11 - x.1) (⟨0,⟨Nat.zero_le 11,rfl⟩⟩) ([0,3]) ([]) ([Zi (↑n:Int),Zi 0]) ([]) (fun x0=>(.br (decide ((↑x0.1:Int)≤10)) (.req ((0:Int)≤(↑x0.1:Int)) (.br (IntKind.wrap IntKind.i64 ((1:Int)*2^min (Int.toNat (↑x0.1:Int)) 64)==(↑n:Int)) (.out (Zi (↑x0.1:Int)) [] (Zi (dpJ n)) []) (.again (Again 0 (fun (x:{ x:Nat // x≤11∧(fun (i:Nat)=>dpJ n=firstI (fun (d:Nat)=>(↑n:Int)==(↑(2^d):Int)) (11 - i) i) x })=>mkSt [0,3] [Zi (↑n:Int),Zi (↑(x.1):Int)] []) (fun (x:{ x:Nat // x≤11∧(fun (i:Nat)=>dpJ n=firstI (fun (d:Nat)=>(↑n:Int)==(↑(2^d):Int)) (11 - i) i) x })=>11 - x.1) x0) ([0,3]) ([]) ([Zi (↑n:Int),Zi (IntKind.wrap IntKind.i64 ((↑x0.1:Int)+1))]) ([])))) (.out (Zi (-1)) [] (Zi (dpJ n)) []))))
  (by kernel_rfl) ?_
 refine k_loop (fun _ hs=>hs.le (by repeat' (first|exact trivial|(first|exact Ent.refl _|exact inc_ent (by omega)|exact Ent.nil rfl|exact Ent.of_eq (congrArg (AV.osl _ _ _) (by first|omega|(dsimp only;omega)))|exact Ent.of_eq (congrArg (AV.int _) (by first|omega|(dsimp only;omega))))|refine And.intro ?_ ?_)) (trivial)) (fun x0=>?_)
 try (have q0:=x0.2;dsimp only at q0)
 refine k_br (fun h1=>?_) (fun h1=>?_)
 ·have g1:=cnd_dec_t h1
  refine k_req (by omega) ?_
  refine k_br (fun h3=>?_) (fun h3=>?_)
  ·have g3:=cnd_beq_t h3
   try simp only [Int.toNat_natCast] at g3
   exact k_out (Ent.of_eq (congrArg _ (first_hit x0.2.2 (by omega) (by rw [shl1 (by omega)] at g3;simpa using g3.symm))))
  ·have g3:=cnd_beq_f h3
   try simp only [Int.toNat_natCast] at g3
   exact k_again (⟨x0.1+1,by omega,first_next x0.2.2 (by omega) (by rw [shl1 (by omega)] at g3;simp only [beq_eq_false_iff_ne,ne_eq];exact fun e=>g3 e.symm)⟩) (fun _ hs=>hs.le (by repeat' (first|exact trivial|(first|exact Ent.refl _|exact inc_ent (by omega)|exact Ent.nil rfl|exact Ent.of_eq (congrArg (AV.osl _ _ _) (by first|omega|(dsimp only;omega)))|exact Ent.of_eq (congrArg (AV.int _) (by first|omega|(dsimp only;omega))))|refine And.intro ?_ ?_)) (trivial)) (by (dsimp only;omega))
 ·have g1:=cnd_dec_f h1
  exact k_out (Ent.of_eq (congrArg _ (first_miss x0.2.2 (by omega))))
theorem rd31_c (d:Int):Pure Tryz.prog gl0 105 [.int .i64 d] (.bool (decide (d≥0)&&decide (d≤5))):=by
 refine pure_sk (own:=ow0) Tryz.func105 (by kernel_rfl) mixed (by kernel_rfl)
  (let y0:AV:=(AV.bool (decide (d≥0)&&decide (d≤5)));(.out y0 [] y0 []))
  (by kernel_rfl) ?_
 exact k_out (Ent.refl _)
theorem rhas_c (n:Nat) (f:Nat→Int) (x:Int) (hn:n≤1000):Pure Tryz.prog gl0 108 [.isl 1 n fun i _=>.int .i64 (f i),.int .i64 x] (.bool ((List.range n).any fun j=>decide (x=f j))):=by
 refine pure_sk (own:=ow0) Tryz.func108 (by kernel_rfl) mixed (by kernel_rfl)
  (.loop ({ x_1:Nat // x_1≤n∧(fun (i:Nat)=>∀ (j:Nat),j<i→¬x=f j) x_1 }) (fun (x_1:{ x_1:Nat // x_1≤n∧(fun (i:Nat)=>∀ (j:Nat),j<i→¬x=f j) x_1 })=>mkSt [0,1,5] [AV.isl 1 n fun (i x:Nat)=>Zi (f i),Zi x,Zi (↑(Subtype.val x_1):Int)] []) (fun (x_1:{ x_1:Nat // x_1≤n∧(fun (i:Nat)=>∀ (j:Nat),j<i→¬x=f j) x_1 })=>n - Subtype.val x_1) (⟨0,⟨Nat.zero_le n,fun (j:Nat) (hj:j<0)=>absurd hj (Nat.not_lt_zero j)⟩⟩) ([0,1,5]) ([]) ([AV.isl 1 n fun (i x:Nat)=>Zi (f i),Zi x,Zi 0]) ([]) (fun x0=>(.br (decide ((↑x0.1:Int)<(↑n:Int))) (.req ((0:Int)≤(↑x0.1:Int)∧(↑x0.1:Int)<(↑n:Int)) (.br (f (Int.toNat (↑x0.1:Int))==x) (.out (AV.bool true) [] (AV.bool (List.any (List.range n) fun (j:Nat)=>decide (x=f j))) []) (.again (Again 0 (fun (x_1:{ x_1:Nat // x_1≤n∧(fun (i:Nat)=>∀ (j:Nat),j<i→¬x=f j) x_1 })=>mkSt [0,1,5] [AV.isl 1 n fun (i x:Nat)=>Zi (f i),Zi x,Zi (↑(Subtype.val x_1):Int)] []) (fun (x_1:{ x_1:Nat // x_1≤n∧(fun (i:Nat)=>∀ (j:Nat),j<i→¬x=f j) x_1 })=>n - Subtype.val x_1) x0) ([0,1,5]) ([]) ([AV.isl 1 n fun (i x:Nat)=>Zi (f i),Zi x,Zi (IntKind.wrap IntKind.i64 ((↑x0.1:Int)+1))]) ([])))) (.out (AV.bool false) [] (AV.bool (List.any (List.range n) fun (j:Nat)=>decide (x=f j))) []))))
  (by kernel_rfl) ?_
 refine k_loop (fun _ hs=>hs.le (by repeat' (first|exact trivial|(first|exact Ent.refl _|exact inc_ent (by omega)|exact Ent.nil rfl|exact Ent.of_eq (congrArg (AV.osl _ _ _) (by first|omega|(dsimp only;omega)))|exact Ent.of_eq (congrArg (AV.int _) (by first|omega|(dsimp only;omega))))|refine And.intro ?_ ?_)) (trivial)) (fun x0=>?_)
 try (have q0:=x0.2;dsimp only at q0)
 refine k_br (fun h1=>?_) (fun h1=>?_)
 ·have g1:=cnd_dec_t h1
  refine k_req (by omega) ?_
  refine k_br (fun h3=>?_) (fun h3=>?_)
  ·have g3:=cnd_beq_t h3
   try simp only [Int.toNat_natCast] at g3
   exact k_out (Ent.of_eq (congrArg _ (any_t (i:=x0.1) (by omega) (decide_eq_true (by simpa using g3.symm))).symm))
  ·have g3:=cnd_beq_f h3
   try simp only [Int.toNat_natCast] at g3
   exact k_again (⟨x0.1+1,by omega,fun j hj=>by rcases Nat.lt_succ_iff_lt_or_eq.1 hj with hj|rfl;(· exact x0.2.2 j hj);(· intro e;exact g3 (by simpa using e.symm))⟩) (fun _ hs=>hs.le (by repeat' (first|exact trivial|(first|exact Ent.refl _|exact inc_ent (by omega)|exact Ent.nil rfl|exact Ent.of_eq (congrArg (AV.osl _ _ _) (by first|omega|(dsimp only;omega)))|exact Ent.of_eq (congrArg (AV.int _) (by first|omega|(dsimp only;omega))))|refine And.intro ?_ ?_)) (trivial)) (by (dsimp only;omega))
 ·have g1:=cnd_dec_f h1
  exact k_out (Ent.of_eq (congrArg _ (any_f (fun i hi=>decide_eq_false (x0.2.2 i (by omega)))).symm))
theorem rlvs_c (b:Bas) (X:Nat→Nat→Int) (n:Nat) (h:b.Ok) (hn:n≤1000) (hX:∀ i,i<n→pairB b X i=true):Pure Tryz.prog gl0 107 [b.av,.isl 2 n fun i j=>.int .i64 (X i j)] (.isl 1 n fun i _=>.int .i64 (lfJ b X i)):=by
 have c1:=fun i hx hy=>rpair_c b (X i 0) (X i 1) h hx hy
 refine pure_sk (own:=ow0) Tryz.func107 (by kernel_rfl) mixed (by kernel_rfl)
  (.loop ({ x:Nat // x≤n }) (fun (x:{ x:Nat // x≤n })=>mkSt [1,2,5,6] [AV.isl 2 n fun (i j:Nat)=>Zi (X i j),AV.own 0 6 0 0 6,AV.osl 1 1 0 (x.1),Zi (↑(x.1):Int)] [some ⟨6,1,true,Rep.lst [Bas.cells b]⟩,some ⟨1,x.1,true,Rep.row fun (i:Nat)=>[Zi (lfJ b X i)]⟩]) (fun (x:{ x:Nat // x≤n })=>n - x.1) (⟨0,Nat.zero_le n⟩) ([1,2,5,6]) ([0,289]) ([AV.isl 2 n fun (i j:Nat)=>Zi (X i j),AV.own 0 6 0 0 6,AV.nsl,Zi 0]) ([some ⟨6,1,true,Rep.lst [Bas.cells b]⟩,some ⟨1,0,true,Rep.lst []⟩]) (fun x0=>(.br (decide ((↑x0.1:Int)<(↑n:Int))) (.req ((0:Int)≤(↑x0.1:Int)∧(↑x0.1:Int)<(↑n:Int)) (.req ((0:Int)≤0∧(0:Int)<(↑(2):Int)) (.req ((0:Int)≤(↑x0.1:Int)∧(↑x0.1:Int)<(↑n:Int)) (.req ((0:Int)≤1∧(1:Int)<(↑(2):Int)) (.sc (true) 176 ([AV.agg (Bas.cells b),Zi (X (Int.toNat (↑x0.1:Int)) 0),Zi (X (Int.toNat (↑x0.1:Int)) 1)]) (Zi (pr2V b (X (Int.toNat (↑x0.1:Int)) 0) (X (Int.toNat (↑x0.1:Int)) 1))) (.req ((x0.1+1)*8≤140737488355328) (.again (Again 0 (fun (x:{ x:Nat // x≤n })=>mkSt [1,2,5,6] [AV.isl 2 n fun (i j:Nat)=>Zi (X i j),AV.own 0 6 0 0 6,AV.osl 1 1 0 (x.1),Zi (↑(x.1):Int)] [some ⟨6,1,true,Rep.lst [Bas.cells b]⟩,some ⟨1,x.1,true,Rep.row fun (i:Nat)=>[Zi (lfJ b X i)]⟩]) (fun (x:{ x:Nat // x≤n })=>n - x.1) x0) ([1,2,5,6]) ([0,146]) ([AV.isl 2 n fun (i j:Nat)=>Zi (X i j),AV.own 0 6 0 0 6,AV.osl 1 1 0 (x0.1+1),Zi (IntKind.wrap IntKind.i64 ((↑x0.1:Int)+1))]) ([some ⟨6,1,true,Rep.lst [Bas.cells b]⟩,some ⟨1,x0.1+1,true,Rep.cat x0.1 (Rep.row fun (i:Nat)=>[Zi (lfJ b X i)]) (Rep.lst [[Zi (pr2V b (X (Int.toNat (↑x0.1:Int)) 0) (X (Int.toNat (↑x0.1:Int)) 1))]])⟩])))))))) (.out (AV.isl 1 x0.1 fun (r k:Nat)=>atL [Zi (lfJ b X (r+0))] k) [] (AV.isl 1 n fun (i x:Nat)=>Zi (lfJ b X i)) []))))
  (by kernel_rfl) ?_
 refine k_loop (fun _ hs=>hs.le (by repeat' (first|exact trivial|(first|exact Ent.refl _|exact inc_ent (by omega)|exact Ent.nil rfl|exact Ent.of_eq (congrArg (AV.osl _ _ _) (by first|omega|(dsimp only;omega)))|exact Ent.of_eq (congrArg (AV.int _) (by first|omega|(dsimp only;omega))))|refine And.intro ?_ ?_)) (⟨ObEnt.refl _,ObEnt.zero,trivial⟩)) (fun x0=>?_)
 try (have q0:=x0.2;dsimp only at q0)
 refine k_br (fun h1=>?_) (fun h1=>?_)
 ·have g1:=cnd_dec_t h1
  refine k_req (by omega) ?_
  refine k_req (by omega) ?_
  refine k_req (by omega) ?_
  refine k_req (by omega) ?_
  refine k_sc (c1 (Int.toNat (↑x0.1:Int)) (by (have k:=pair_all (hX x0.1 (by omega));simp only [Int.toNat_natCast];first|exact k.1|exact k.2)) (by (have k:=pair_all (hX x0.1 (by omega));simp only [Int.toNat_natCast];first|exact k.1|exact k.2))) ?_
  refine k_req (by omega) ?_
  exact k_again (⟨x0.1+1,by omega⟩) (fun _ hs=>hs.le (by repeat' (first|exact trivial|(first|exact Ent.refl _|exact inc_ent (by omega)|exact Ent.nil rfl|exact Ent.of_eq (congrArg (AV.osl _ _ _) (by first|omega|(dsimp only;omega)))|exact Ent.of_eq (congrArg (AV.int _) (by first|omega|(dsimp only;omega))))|refine And.intro ?_ ?_)) (⟨ObEnt.refl _,ObEnt.catRow rfl (fun _ _=>EntL.refl _) (EntL.refl _),trivial⟩)) (by (dsimp only;omega))
 ·have g1:=cnd_dec_f h1
  exact k_out (lf_out (by omega))
end Go.Proofs.YtolcfdcoidpieaaGreatDoor

namespace Go.Sp
open Go Go.Am
theorem addm {m u v : Int} (hm : 0 < m) (hm' : m < 2305843009213693952) : Int.tmod (IntKind.wrap .i64 (u % m + v % m)) m = (u + v) % m := by
  have a1 := Int.emod_nonneg u (by omega : m ≠ 0)
  have a2 := Int.emod_lt_of_pos u hm
  have b1 := Int.emod_nonneg v (by omega : m ≠ 0)
  have b2 := Int.emod_lt_of_pos v hm
  rw [wI (by omega) (by omega), Int.tmod_eq_emod_of_nonneg (by omega), ← Int.add_emod]
theorem p2p (x : Nat) : (0 : Int) < 2 ^ x := Int.pow_pos (by decide)
theorem dbl_a {a m : Int} {x : Nat} (hm : 0 < m) (hm' : m < 2305843009213693952) : Int.tmod (IntKind.wrap .i64 (a * 2 ^ x % m + a * 2 ^ x % m)) m = a * 2 ^ (x + 1) % m := by
  rw [addm hm hm', Int.pow_succ, ← Int.mul_assoc]
  congr 1
  omega
theorem shr_1 {k : Int} {x : Nat} : Int.fdiv (k / 2 ^ x) (2 ^ 1) = k / 2 ^ (x + 1) := by
  rw [Int.fdiv_eq_ediv_of_nonneg _ (by decide), Int.pow_succ, Int.ediv_ediv_of_nonneg (Int.le_of_lt (p2p x))]
  rfl
theorem low_1 {k : Int} {x : Nat} : k % 2 ^ (x + 1) = k % 2 ^ x + 2 ^ x * (k / 2 ^ x % 2) := by
  have hp := p2p x
  have e1 := Int.mul_ediv_add_emod k (2 ^ x)
  have e2 := Int.mul_ediv_add_emod (k / 2 ^ x) 2
  have r1 := Int.emod_nonneg k (by omega : (2 : Int) ^ x ≠ 0)
  have r2 := Int.emod_lt_of_pos k hp
  have e3 : k = (k % 2 ^ x + 2 ^ x * (k / 2 ^ x % 2)) + 2 ^ (x + 1) * (k / 2 ^ x / 2) := by
    have e4 : 2 ^ x * (k / 2 ^ x) = 2 ^ x * (k / 2 ^ x % 2) + 2 ^ (x + 1) * (k / 2 ^ x / 2) := by
      rw [Int.pow_succ, Int.mul_assoc, ← Int.mul_add]
      congr 1
      omega
    omega
  have hb : 0 ≤ k / 2 ^ x % 2 ∧ k / 2 ^ x % 2 ≤ 1 := by omega
  have hlt : 2 ^ x * (k / 2 ^ x % 2) ≤ 2 ^ x * 1 := Int.mul_le_mul_of_nonneg_left hb.2 (Int.le_of_lt hp)
  have hge : 0 ≤ 2 ^ x * (k / 2 ^ x % 2) := Int.mul_nonneg (Int.le_of_lt hp) hb.1
  have hp2 : (2 : Int) ^ (x + 1) = 2 ^ x * 2 := Int.pow_succ ..
  conv => lhs; rw [e3, Int.add_mul_emod_self_left]
  exact Int.emod_eq_of_lt (by omega) (by omega)
theorem out_1 {a k m : Int} {x : Nat} (hm : 0 < m) (hm' : m < 2305843009213693952) (h : k / 2 ^ x % 2 = 1) : Int.tmod (IntKind.wrap .i64 (a * (k % 2 ^ x) % m + a * 2 ^ x % m)) m = a * (k % 2 ^ (x + 1)) % m := by
  rw [addm hm hm', low_1, h, Int.mul_one, ← Int.mul_add]
theorem out_0 {a k m : Int} {x : Nat} (h : k / 2 ^ x % 2 = 0) : a * (k % 2 ^ x) % m = a * (k % 2 ^ (x + 1)) % m := by
  rw [low_1, h, Int.mul_zero, Int.add_zero]
theorem sh_lt {k : Int} {x : Nat} (hk : k < 2305843009213693952) (h : k / 2 ^ x > 0) : x < 61 := by
  apply Classical.byContradiction
  intro hx
  have hp := p2p x
  have h1 : (2 : Int) ^ 61 ≤ 2 ^ x := by
    have := Nat.pow_le_pow_right (n := 2) (by decide) (by omega : 61 ≤ x)
    exact_mod_cast this
  have h2 : k < 2 ^ x := Int.lt_of_lt_of_le hk (by simpa using h1)
  by_cases h0 : 0 ≤ k
  · rw [Int.ediv_eq_zero_of_lt h0 h2] at h; omega
  · have := Int.ediv_neg_of_neg_of_pos (by omega : k < 0) hp
    omega
theorem sh_end {a k m : Int} {x : Nat} (hk : 0 ≤ k) (h : ¬ k / 2 ^ x > 0) : a * (k % 2 ^ x) % m = a * k % m := by
  have hp := p2p x
  have : k < 2 ^ x := by
    apply Classical.byContradiction
    intro hx
    have h1 : 1 ≤ k / 2 ^ x := (Int.le_ediv_iff_mul_le hp).2 (by omega)
    omega
  rw [Int.emod_eq_of_lt hk this]
theorem sec_no {b : Bas} {u s : Int} {X : Nat → Nat → Int} {n : Nat} (h : (((validB b = false ∨ (nzB b u = false ∨ msgJ b u = 1)) ∨ s < 1) ∨ s ≥ b.gr.q) ∨ (¬ dpJ n ≥ 0 ∨ ¬ dpJ n ≤ 5)) : secB b u s X n = false := by
  unfold secB secH
  rw [← dpJ_lv]
  rcases h with (((h | h | h) | h) | h) | h | h
  · rw [h]; rfl
  · rw [h]; simp
  · rw [h]; simp
  · rw [show nzB b s = false by unfold nzB; rw [decide_eq_false (by omega)]; rfl]; simp
  · rw [show nzB b s = false by unfold nzB; rw [decide_eq_false (by omega : ¬ s < b.gr.q)]; simp]; simp
  · rw [decide_eq_false h]; simp
  · rw [decide_eq_false h]; simp
theorem sec_yes {b : Bas} {u s : Int} {n : Nat} (h : (((validB b = true ∧ (nzB b u = true ∧ ¬ msgJ b u = 1)) ∧ ¬ s < 1) ∧ ¬ s ≥ b.gr.q) ∧ (dpJ n ≥ 0 ∧ dpJ n ≤ 5)) : secH b u s n = true := by
  unfold secH
  rw [← dpJ_lv, h.1.1.1.1, h.1.1.1.2.1, decide_eq_true h.2.1, decide_eq_true h.2.2, show nzB b s = true by unfold nzB; rw [decide_eq_true (by omega : s ≥ 1), decide_eq_true (by omega : s < b.gr.q)]; rfl, bne_iff_ne.2 h.1.1.1.2.2]
  rfl
theorem sec_p {b : Bas} {u s : Int} {X : Nat → Nat → Int} {n i : Nat} (hi : i < n) (h : scaB b.gr (X i 0) = false ∨ scaB b.gr (X i 1) = false) : secB b u s X n = false := secB_f hi (by unfold pairB; rcases h with h | h <;> simp [h])
theorem sec_d {b : Bas} {u s : Int} {X : Nat → Nat → Int} {n i : Nat} (hi : i < n) (h : seenB b X i = true) : secB b u s X n = false := secB_f hi (by rw [h]; simp)
end Go.Sp
