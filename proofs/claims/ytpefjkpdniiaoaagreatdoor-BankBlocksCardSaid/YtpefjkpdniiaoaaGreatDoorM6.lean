/- Part of the proof: CV6, CV7, CX3, CX4, CX5, CRV, CX6, CX7, CX8, Knw, CX9, CX10, CV1, EnRound, ItH, Itr, CV2, CV3, CV4. -/
import Derived.Test.YtpefjkpdniiaoaaGreatDoorM5
import Derived.Test.YtpefjkpdniiaoaaGreatDoorProg
import Derived.Test.YtpefjkpdniiaoaaGreatDoorM3
import Derived.Test.YtpefjkpdniiaoaaGreatDoorM4
import Derived.Test.YtpefjkpdniiaoaaGreatDoorM2
import Derived.OrdersIn
namespace Go.Proofs.YtpefjkpdniiaoaaGreatDoor
open Go.IntKind (wrap)
open Int (toNat)
open Go Go.Am Go.Sp
set_option maxRecDepth 100000
theorem zR (v d:Int):Pure Tryz.prog aZ 150 [.aH 2 1 fun _ k=>aQ [.int .i64 v,.int .i64 d] k] (.bool (gJ v d)):=by
 have hs:=(Cf v d)
 refine ar (own:=bq) Tryz.func150 (by kernel_rfl) mixed (by kernel_rfl)
  (let y0:=(fun (x:{ x:Nat // x≤1∧(fun x=>0<x→gJ v d=true) x })=>aY [0,12,13,14,2,15] [.aH 2 1 fun x k=>aQ [Zi v,Zi d] k,.bool false,.aH 2 1 fun x k=>aQ [Zi v,Zi d] k,Zi 1,.bool false,Zi x.1] []);let y1:=(fun (x:{ x:Nat // x≤1∧(fun x=>0<x→gJ v d=true) x })=>1 - x.1);let y2:AV:=(.bool (gJ v d));(.ff (.loop ({ x:Nat // x≤1∧(fun x=>0<x→gJ v d=true) x }) y0 y1 (⟨0,⟨Nat.zero_le 1,fun (h:0<0)=>absurd h (Nat.lt_irrefl 0)⟩⟩) [0,12,13,14,2,15] [] [.aH 2 1 fun x k=>aQ [Zi v,Zi d] k,.bool false,.aH 2 1 fun x k=>aQ [Zi v,Zi d] k,Zi 1,.bool false,Zi 0] [] (fun x1=>(.br (decide ((x1.1:Int)<1)) (.bj (0≤(x1.1:Int)∧(x1.1:Int)<1) (.sc true 223 [.agg [Zi v,Zi d]] y2 (.br (!gJ v d) (.out (.bool false) [] y2 []) (.bj ((decide ((x1.1:Int)>0)==true)=true→(0:Int)≤wrap .i64 ((x1.1:Int) - 1)∧wrap .i64 ((x1.1:Int) - 1)<1) (.bj ((decide ((x1.1:Int)>0)==true&&decide (v<v)==false)=true→(0:Int)≤wrap .i64 ((x1.1:Int) - 1)∧wrap .i64 ((x1.1:Int) - 1)<1) (.bj ((decide ((x1.1:Int)>0)==true&&decide (v<v)==false&&(v==v)==true)=true→(0:Int)≤wrap .i64 ((x1.1:Int) - 1)∧wrap .i64 ((x1.1:Int) - 1)<1) (.br (decide ((x1.1:Int)>0)&&(decide (v<v)||v==v&&decide (d≤d))) (.out (.bool false) [] y2 []) (.again (bh 0 y0 y1 x1) [0,12,13,14,2,15] [] [.aH 2 1 fun x k=>aQ [Zi v,Zi d] k,.bool false,.aH 2 1 fun x k=>aQ [Zi v,Zi d] k,Zi 1,.bool false,Zi (wrap .i64 ((x1.1:Int)+1))] [])))))))) (.out (.bool true) [] y2 []))))))
  (by kernel_rfl) ?_
 refine cz ?_
 refine aV (fun _ hs=>hs.le (⟨.refl _,.refl _,.refl _,.refl _,.refl _,.refl _,trivial⟩) (trivial)) (fun x1=>?_)
 try (have q1:=x1.2;dsimp only at q1)
 refine aL (fun h2=>?_) (fun h2=>?_)
 ·have g2:=af h2
  refine aD (by omega) ?_
  refine aM (hs) ?_
  refine aL (fun h5=>?_) (fun h5=>?_)
  ·have g5:=(aC aF) h5
   exact aq (by exact ay.of_eq (congrArg _ (by simp_all)))
  ·have g5:=(az aB) h5
   refine aD (fun hr=>by have hr:=(cQ af) hr;omega) ?_
   refine aD (fun hr=>by have hr:=(ah (cQ af) (dd aa)) hr;omega) ?_
   refine aD (fun hr=>by have hr:=(ah (ah (cQ af) (dd aa)) (cQ ai)) hr;omega) ?_
   refine aL (fun h10=>?_) (fun h10=>?_)
   ·have g10:=(ah af (aA af (ah ai af))) h10
    exact aq (by (exfalso;omega))
   ·have g10:=(ao aa (aw aa (ao aj aa))) h10
    exact aN (⟨x1.1+1,by omega,fun _=>g5⟩) (fun _ hs=>hs.le (⟨.refl _,.refl _,.refl _,.refl _,.refl _,aK (by omega),trivial⟩) (trivial)) (by dsimp only;omega)
 ·have g2:=aa h2
  exact aq (by exact ay.of_eq (congrArg _ (q1.2 (by omega)).symm))
theorem B9 (v d:Int):Pure Tryz.prog aZ 150 [.aH 2 1 fun r k=>aQ (List.getD [[.int .i64 v,.int .i64 d]] r []) k] (.bool (gJ v d)) :=
 (zR v d).via ⟨ay.aH fun i j hi _=>by obtain rfl:i=0:=Nat.lt_one_iff.1 hi;rfl,trivial⟩
theorem wW (b:aI) (r:fZ) (hw:b.gr.W):Pure Tryz.prog aZ 84 [b.av,r.av] (.bool (dV b r)):=by
 have h1:=B9 r.value r.depth
 have h2:=pd b r.h r.h1 r.h2 hw
 refine ar (own:=bq) Tryz.func84 (by kernel_rfl) mixed (by kernel_rfl)
  (.sc true 148 [Zi r.1,Zi r.2,Zi r.9,Zi r.10,Zi r.11] (.bool (mP r.1 r.2 r.9 r.10 r.11)) (.sc (mP r.1 r.2 r.9 r.10 r.11==true) 149 [Zi r.3,Zi 0,Zi 16] (.bool (ik r.3 (0:Int) (16:Int))) (.sc ((mP r.1 r.2 r.9 r.10 r.11&&ik r.3 (0:Int) (16:Int))==true&&(r.4==0&&r.5==0)==false) 150 [.aH 2 1 fun r_1 k=>aQ (List.getD [[Zi r.4,Zi r.5]] (r_1+0) []) k] (.bool (gJ (fZ.value r) (fZ.depth r))) (.sc ((mP r.1 r.2 r.9 r.10 r.11&&ik r.3 (0:Int) (16:Int)&&(r.4==0&&r.5==0||gJ r.4 r.5))==true) 151 [.agg (aI.cells b),.agg [Zi r.6,Zi r.7,Zi r.8]] (.bool (df b (fZ.h r) (fZ.h1 r) (fZ.h2 r))) (.out (.bool (mP r.1 r.2 r.9 r.10 r.11&&ik r.3 (0:Int) (16:Int)&&(r.4==0&&r.5==0||gJ r.4 r.5)&&df b r.6 r.7 r.8)) [] (.bool (dV b r)) [])))))
  (by kernel_rfl) ?_
 refine aM (Aj (r.1) (r.2) (r.9) (r.10) (r.11)) ?_
 refine aW (fun h1=>pJ (r.3) ((0:Int)) ((16:Int))) ?_
 refine aW (fun h2=>h1) ?_
 refine aW (fun h3=>h2) ?_
 exact aq (ay.of_eq (congrArg _ rec_1))
theorem tI (b:aI) (r:fZ) (hw:b.gr.W):Pure Tryz.prog aZ 111 [b.av,r.av] (.bool (dV b r)):=by
 have h1:=MV r.value r.depth
 have h2:=xh b r.h r.h1 r.h2 hw
 refine ar (own:=bq) Tryz.func111 (by kernel_rfl) mixed (by kernel_rfl)
  (.sc true 187 [.agg (aI.cells b),.agg [Zi r.6,Zi r.7,Zi r.8]] (.bool (df b (fZ.h r) (fZ.h1 r) (fZ.h2 r))) (.sc (df b r.6 r.7 r.8==true) 188 [Zi r.1,Zi r.2,Zi r.9,Zi r.10,Zi r.11] (.bool (mP r.1 r.2 r.9 r.10 r.11)) (.sc ((df b r.6 r.7 r.8&&mP r.1 r.2 r.9 r.10 r.11)==true) 189 [Zi r.3,Zi 0,Zi 16] (.bool (ik r.3 (0:Int) (16:Int))) (.sc ((df b r.6 r.7 r.8&&mP r.1 r.2 r.9 r.10 r.11&&ik r.3 (0:Int) (16:Int))==true) 190 [.agg [Zi r.4,Zi r.5]] (.bool (gJ (fZ.value r) (fZ.depth r))) (.out (.bool (df b r.6 r.7 r.8&&mP r.1 r.2 r.9 r.10 r.11&&ik r.3 (0:Int) (16:Int)&&gJ r.4 r.5)) [] (.bool (dV b r)) [])))))
  (by kernel_rfl) ?_
 refine aM (h2) ?_
 refine aW (fun h1=>FQ (r.1) (r.2) (r.9) (r.10) (r.11)) ?_
 refine aW (fun h2=>Cw (r.3) ((0:Int)) ((16:Int))) ?_
 refine aW (fun h3=>h1) ?_
 exact aq (ay.refl _)
theorem tn (n:Int):Pure Tryz.prog aZ 308 [.int .i64 n] (It.int n).av:=by
 refine ar (own:=bq) Tryz.func308 (by kernel_rfl) mixed (by kernel_rfl)
  (.out (.agg [Zi 1,Zi n,.bn,.bn]) [] (It.av (It.int n)) [])
  (by kernel_rfl) ?_
 exact aq (ay.agg ⟨ay.refl _,ay.refl _,ay.bn,ay.bn,trivial⟩)
theorem mn (n:Int):Pure Tryz.prog aZ 296 [.int .i64 n] (It.int n).av:=by
 refine ar (own:=bq) Tryz.func296 (by kernel_rfl) mixed (by kernel_rfl)
  (.out (.agg [Zi 1,Zi n,.bn,.bn]) [] (It.av (It.int n)) [])
  (by kernel_rfl) ?_
 exact aq (ay.agg ⟨ay.refl _,ay.refl _,ay.bn,ay.bn,trivial⟩)
theorem xJ (b:aI):Pure Tryz.prog aZ 295 [b.av] (.aH 1 6 fun i _=>.int .i64 (cC b 0 i)):=by
 refine ar (own:=bq) Tryz.func295 (by kernel_rfl) mixed (by kernel_rfl)
  (.out (.aH 1 6 fun r k=>aQ (List.getD [[Zi (aI.gr b).1],[Zi (aI.gr b).2],[Zi (aI.gr b).3],[Zi b.2],[Zi b.3],[Zi b.4]] (r+0) []) k) [] (.aH 1 6 fun i x=>Zi (cC b (0:Int) i)) [])
  (by kernel_rfl) ?_
 exact aq (ay.aH fun i j hi hj=>by obtain rfl:j=0:=Nat.lt_one_iff.1 hj;match i,hi with|0,_|1,_|2,_|3,_|4,_|5,_=>rfl)
theorem Ee (G:bN) (z sa sb r:Int) (hw:G.Ok):Pure Tryz.prog aZ 254 [G.av,.agg [.int .i64 z,.int .i64 sa,.int .i64 sb,.int .i64 r]] (.bool (dS G z sa sb)):=by
 refine ar (own:=bq) Tryz.func254 (by kernel_rfl) mixed (by kernel_rfl)
  (let y0:List AV:=[Zi G.1,Zi G.2,Zi G.3];(.sc true 110 [.agg y0,Zi z] (.bool (aO G z)) (.sc (aO G z==true) 110 [.agg y0,Zi sa] (.bool (aO G sa)) (.sc ((aO G z&&aO G sa)==true) 110 [.agg y0,Zi sb] (.bool (aO G sb)) (.out (.bool (aO G z&&aO G sa&&aO G sb)) [] (.bool (dS G z sa sb)) [])))))
  (by kernel_rfl) ?_
 refine aM ((dL G) (z) (by assumption)) ?_
 refine aW (fun h1=>(dL G) (sa) (by assumption)) ?_
 refine aW (fun h2=>(dL G) (sb) (by assumption)) ?_
 exact aq (ay.refl _)
theorem yc (b:aI) (x:Int):Pure Tryz.prog aZ 230 [b.av,.int .i64 x] (.bool (decide (x≥0)&&decide (x<b.gr.q))):=by
 refine ar (own:=bq) Tryz.func230 (by kernel_rfl) mixed (by kernel_rfl)
  (.out (.bool (decide (x≥0)&&decide (x<(aI.gr b).2))) [] (.bool (decide (x≥0)&&decide (x<bN.q (aI.gr b)))) [])
  (by kernel_rfl) ?_
 exact aq (ay.refl _)
theorem vi (G:bN) (x:Int):Pure Tryz.prog aZ 195 [G.av,.int .i64 x] (.bool (decide (x≥0)&&decide (x<G.q))):=by
 refine ar (own:=bq) Tryz.func195 (by kernel_rfl) mixed (by kernel_rfl)
  (.out (.bool (decide (x≥0)&&decide (x<G.2))) [] (.bool (decide (x≥0)&&decide (x<bN.q G))) [])
  (by kernel_rfl) ?_
 exact aq (ay.refl _)
theorem lY (b:aI) (x e:Int) (h:b.gr.Ok) (hx:0≤x∧x<b.gr.p) (he:0≤e∧e<b.gr.q):Pure Tryz.prog aZ 147 [b.av,.int .i64 x,.int .i64 e] (.int .i64 (x^e.toNat%b.gr.p)):=by
 have k1:=h.p1;have k2:=h.qp;have k3:=h.p3
 have k5:=nN (jk (a:=x) (b:=x) (m:=b.gr.p) (by omega) (by omega) (by omega) (by omega) (by omega) (by omega)) (by omega:¬e<0)
 refine ar (own:=bq) Tryz.func147 (by kernel_rfl) mixed (by kernel_rfl)
  (.sc true 142 [Zi x,Zi e,Zi (aI.gr b).1] (.aX [Zi (kd (eT x e (aI.gr b).1) (x^toNat e%(aI.gr b).1)),Zi (eT x e (aI.gr b).1)]) (.out (Zi (kd (eT x e (aI.gr b).1) (x^toNat e%(aI.gr b).1))) [] (Zi (x^toNat e%bN.p (aI.gr b))) []))
  (by kernel_rfl) ?_
 refine aM (nH (x) (e) ((aI.gr b).1) (by omega)) ?_
 exact aq (ay.of_eq (by rw [k5];rfl))
theorem iz (G:bN) (x e:Int) (h:G.Ok) (hx:0≤x∧x<G.p) (he:0≤e∧e<G.q):Pure Tryz.prog aZ 191 [G.av,.int .i64 x,.int .i64 e] (.int .i64 (x^e.toNat%G.p)):=by
 have k1:=h.p1;have k2:=h.qp;have k3:=h.p3
 refine ar (own:=bq) Tryz.func191 (by kernel_rfl) mixed (by kernel_rfl)
  (.sc true 76 [Zi x,Zi e,Zi G.1] (Zi (x^toNat e%G.1)) (.out (Zi (x^toNat e%G.1)) [] (Zi (x^toNat e%bN.p G)) []))
  (by kernel_rfl) ?_
 refine aM (jS (x) (e) (G.1) (by omega) (by omega) (by omega) (by omega) (by assumption)) ?_
 exact aq (ay.refl _)
theorem Kq (b:aI) (x y:Int) (h:b.gr.Ok) (hx:0≤x∧x<b.gr.p) (hy:0≤y∧y<b.gr.p):Pure Tryz.prog aZ 274 [b.av,.int .i64 x,.int .i64 y] (.int .i64 (x*y%b.gr.p)):=by
 have k1:=h.p1;have k3:=h.p3
 have k2:=jk (a:=x) (b:=y) (m:=b.gr.p) (by omega) (by omega) (by omega) (by omega) (by omega) (by omega)
 refine ar (own:=bq) Tryz.func274 (by kernel_rfl) mixed (by kernel_rfl)
  (.sc true 184 [Zi x,Zi y,Zi (aI.gr b).1] (.aX [Zi (kd (cA x y (aI.gr b).1) (x*y%(aI.gr b).1)),Zi (cA x y (aI.gr b).1)]) (.out (Zi (kd (cA x y (aI.gr b).1) (x*y%(aI.gr b).1))) [] (Zi (x*y%bN.p (aI.gr b))) []))
  (by kernel_rfl) ?_
 refine aM (wm (x) (y) ((aI.gr b).1)) ?_
 exact aq (ay.of_eq (by rw [k2];rfl))
theorem oF (G:bN) (x y:Int) (h:G.Ok) (hx:0≤x∧x<G.p) (hy:0≤y∧y<G.p):Pure Tryz.prog aZ 253 [G.av,.int .i64 x,.int .i64 y] (.int .i64 (x*y%G.p)):=by
 have k1:=h.p1;have k3:=h.p3
 refine ar (own:=bq) Tryz.func253 (by kernel_rfl) mixed (by kernel_rfl)
  (.sc true 139 [Zi x,Zi y,Zi G.1] (Zi (x*y%G.1)) (.out (Zi (x*y%G.1)) [] (Zi (x*y%bN.p G)) []))
  (by kernel_rfl) ?_
 refine aM (iI (x) (y) (G.1) (by omega) (by omega) (by omega) (by omega) (by assumption)) ?_
 exact aq (ay.refl _)
theorem oE (b:aI) (x e y:Int) (h:b.gr.Ok) (hx:0≤x∧x<b.gr.p) (he:0≤e∧e<b.gr.q) (hy:0≤y∧y<b.gr.p):Pure Tryz.prog aZ 231 [b.av,.int .i64 x,.int .i64 e,.int .i64 y,.int .i64 1] (.int .i64 (x^e.toNat%b.gr.p*y%b.gr.p)):=by
 have k1:=h.p1;have k3:=h.p3;have kq:=h.q3
 have c1:=lY b x e h hx he
 have c2:=lY b y 1 h hy (by omega)
 have m1:0≤x^e.toNat%b.gr.p∧x^e.toNat%b.gr.p<b.gr.p:=⟨Int.emod_nonneg _ (by omega),Int.emod_lt_of_pos _ (by omega)⟩
 have y1:y^(1:Int).toNat%b.gr.p=y:=by rw [show (1:Int).toNat=1 from rfl,Int.pow_succ,Int.pow_zero,Int.one_mul,Int.emod_eq_of_lt hy.1 hy.2]
 rw [y1] at c2
 have c3:=Kq b _ y h m1 hy
 refine ar (own:=bq) Tryz.func231 (by kernel_rfl) mixed (by kernel_rfl)
  (let y0:AV:=(Zi (x^toNat e%bN.p (aI.gr b)*y%bN.p (aI.gr b)));(.sc true 147 [.agg (aI.cells b),Zi x,Zi e] (Zi (x^toNat e%bN.p (aI.gr b))) (.sc true 147 [.agg (aI.cells b),Zi y,Zi 1] (Zi y) (.sc true 274 [.agg (aI.cells b),Zi (x^toNat e%(aI.gr b).1),Zi y] y0 (.out (Zi (x^toNat e%(aI.gr b).1*y%(aI.gr b).1)) [] y0 [])))))
  (by kernel_rfl) ?_
 refine aM (c1) ?_
 refine aM (c2) ?_
 refine aM (c3) ?_
 exact aq (ay.refl _)
theorem AD (b:aI) (u0 u1 u2 u3:Int) (hw:b.gr.W):Pure Tryz.prog aZ 229 [b.av,.aH 1 4 fun i _=>.int .i64 (Af u0 u1 u2 u3 i)] (.bool (aO b.gr u0&&dS b.gr u1 u2 u3)):=by
 have e:allI (fun i=>aO b.gr (Af u0 u1 u2 u3 i)) 4=(aO b.gr u0&&dS b.gr u1 u2 u3):=MH
 rw [← e];clear e
 refine ar (own:=bq) Tryz.func229 (by kernel_rfl) mixed (by kernel_rfl)
  (let y0:List (Option Ob):=[some ⟨6,1,true,.bc [aI.cells b]⟩];let y1:AV:=(.bool (allI (fun i=>aO (aI.gr b) (Af u0 u1 u2 u3 i)) 4));(.loop ({ x:Nat // x≤4∧(fun (i:Nat)=>∀ (j:Nat),j<i→aO (aI.gr b) (Af u0 u1 u2 u3 j)=true) x }) (fun x=>aY [2,7,8,9] [.own 0 6 0 0 6,.aH 1 4 fun i x=>Zi (Af u0 u1 u2 u3 i),Zi 4,Zi x.1] y0) (fun x=>4 - x.1) (⟨0,⟨Nat.zero_le 4,fun (j:Nat) (hj:j<0)=>absurd hj (Nat.not_lt_zero j)⟩⟩) [2,7,8,9] [0] [.own 0 6 0 0 6,.aH 1 4 fun i x=>Zi (Af u0 u1 u2 u3 i),Zi 4,Zi 0] (y0) (fun x0=>(.br (decide ((x0.1:Int)<4)) (.bj (0≤(x0.1:Int)∧(x0.1:Int)<4) (.sc true 268 [.agg (aI.cells b),Zi (Af u0 u1 u2 u3 (toNat (x0.1:Int)))] (.bool (aO (aI.gr b) (Af u0 u1 u2 u3 (toNat (x0.1:Int))))) (.br (!aO b.1 (Af u0 u1 u2 u3 (toNat (x0.1:Int)))) (.out (.bool false) [] y1 []) (.again (bh 0 (fun x=>aY [2,7,8,9] [.own 0 6 0 0 6,.aH 1 4 fun i x=>Zi (Af u0 u1 u2 u3 i),Zi 4,Zi x.1] y0) (fun x=>4 - x.1) x0) [2,7,8,9] [0] [.own 0 6 0 0 6,.aH 1 4 fun i x=>Zi (Af u0 u1 u2 u3 i),Zi 4,Zi (wrap .i64 ((x0.1:Int)+1))] (y0))))) (.out (.bool true) [] y1 [])))))
  (by kernel_rfl) ?_
 refine aV (fun _ hs=>hs.le (⟨.refl _,.refl _,.refl _,.refl _,trivial⟩) (⟨.refl _,trivial⟩)) (fun x0=>?_)
 try (have q0:=x0.2;dsimp only at q0)
 refine aL (fun h1=>?_) (fun h1=>?_)
 ·have g1:=af h1
  refine aD (by omega) ?_
  refine aM ((ma b) (Af u0 u1 u2 u3 (toNat (↑x0.1:Int))) (by assumption)) ?_
  refine aL (fun h4=>?_) (fun h4=>?_)
  ·have g4:=(aC aF) h4
   try simp only [Int.toNat_natCast] at g4
   exact aq (by exact ay.of_eq (congrArg _ (nj (i:=x0.1) (by omega) g4).symm))
  ·have g4:=(az aB) h4
   try simp only [Int.toNat_natCast] at g4
   exact aN (⟨x0.1+1,by omega,cN q0.2 g4⟩) (fun _ hs=>hs.le (⟨.refl _,.refl _,.refl _,aK (by omega),trivial⟩) (⟨.refl _,trivial⟩)) (by dsimp only;omega)
 ·have g1:=aa h1
  exact aq (by exact ay.of_eq (congrArg _ (nE fun i hi=>q0.2 i (by omega)).symm))
theorem EZ (b:aI) (x0 x1 x2 x3:Int) (hw:b.gr.W):Pure Tryz.prog aZ 229 [b.av,.aH 1 4 fun r k=>aQ (List.getD [[.int .i64 x0],[.int .i64 x1],[.int .i64 x2],[.int .i64 x3]] r []) k] (.bool (aO b.gr x0&&dS b.gr x1 x2 x3)) :=
 (AD b x0 x1 x2 x3 hw).via ⟨ay.refl _,ay.aH fun i j hi hj=>by obtain rfl:j=0:=Nat.lt_one_iff.1 hj;match i,hi with|0,_|1,_|2,_|3,_=>rfl,trivial⟩
theorem w3 (L:List It) (n:Nat) (F:Nat→Nat→AV) (hn:n=L.length) (hF:∀ i k,i<n→k<4→ay [] (F i k) (aQ (L.getD i (.int 0)).cells k)) (h:(kQ L).pB 8=true) (hl:(kQ L).enc.length≤16384) :
  Pure Tryz.prog aZ 233 [.agg [.int .i64 3,.int .i64 0,.bn,.aH 4 n F]] (.aX [il .u8 (kQ L).enc,.int .i64 0]):=(mC (kQ L) h hl).via ⟨o7 hn hF,trivial⟩
theorem Gi (L:List It) (n:Nat) (F:Nat→Nat→AV) (hn:n=L.length) (hF:∀ i k,i<n→k<4→ay [] (F i k) (aQ (L.getD i (.int 0)).cells k)) (hl:(kQ L).enc.length≤16384) :
  Pure Tryz.prog aZ 206 [.agg [.int .i64 3,.int .i64 0,.bn,.aH 4 n F]] (il .u8 (kQ L).enc):=(l5 (kQ L) (by omega)).via ⟨o7 hn hF,trivial⟩
theorem L3 (b:aI) (a:Int) (root:Nat→Int) (z sa sb r:Int) (hw:b.gr.W) (hr:cS root 32):Pure Tryz.prog aZ 275 [b.av,.int .i64 a,.agg (bf root),.agg [.int .i64 z,.int .i64 sa,.int .i64 sb,.int .i64 r]] (ql b a root z sa sb):=by
 have hE:=EZ b a z sa sb hw
 have he:=fun n F hn hF=>w3 (qO b a root z sa sb) n F hn hF (F7 b a z sa sb root) (by rw [show (kQ (qO b a root z sa sb)).enc.length=132 from mo b a z sa sb root];decide)
 have ht:=gj "specie/coin".toUTF8 (by decide) (by decide) (fun k=>(jI b a root z sa sb).enc.getD k 0) (jI b a root z sa sb).enc.length (by rw [mo];decide) (It.ib (uF hr))
 have hn:=fun h1 h2=>py (jm "specie/coin".toUTF8 (jI b a root z sa sb)) b.gr.q h1 h2 (ja _ _ _)
 refine ar (own:=bq) Tryz.func275 (by kernel_rfl) mixed (by kernel_rfl)
  (let y0:=(fun (x:{ x:Nat // x≤7 })=>7 - x.1);(.sc true 31 [.agg (aI.cells b)] (.bool (aT b)) (.br (!aT b) (.out (.aX [Zi 0,Zi 1]) [] (ql b a root z sa sb) []) (.sc true 229 [.agg (aI.cells b),.aH 1 4 fun r k=>aQ (List.getD [[Zi a],[Zi z],[Zi sa],[Zi sb]] (r+0) []) k] (.bool (aO (aI.gr b) a&&dS (aI.gr b) z sa sb)) (.br (!(aO b.1 a&&dS b.1 z sa sb)) (.out (.aX [Zi 0,Zi 2]) [] (ql b a root z sa sb) []) (.loop ({ x:Nat // x≤7 }) (fun x=>aY [4,6,7,10,49,50,51] [.own 0 6 0 0 6,.own 1 32 0 0 32,.own 2 4 0 0 4,.own 3 4 0 0 4,.ba 4 1 0 7,Zi 7,Zi x.1] [some ⟨6,1,true,.bc [aI.cells b]⟩,some ⟨32,1,true,.bc [bf root]⟩,some ⟨4,1,true,.bc [[Zi z,Zi sa,Zi sb,Zi r]]⟩,some ⟨4,1,true,.bc [[Zi 3,Zi 0,.bn,.ba 5 4 0 (x.1)]]⟩,some ⟨1,7,true,.fn fun i x=>Zi (cC b a i)⟩,some ⟨4,x.1,true,bA.row fun i=>It.cells (It.int (cC b a i))⟩]) y0 (⟨0,Nat.zero_le 7⟩) [4,6,7,10,49,50,51] [0,8,16,176,320,1373] [.own 0 6 0 0 6,.own 1 32 0 0 32,.own 2 4 0 0 4,.own 3 4 0 0 4,.ba 4 1 0 7,Zi 7,Zi 0] [some ⟨6,1,true,.bc [aI.cells b]⟩,some ⟨32,1,true,.bc [bf root]⟩,some ⟨4,1,true,.bc [[Zi z,Zi sa,Zi sb,Zi r]]⟩,some ⟨4,1,true,.bc [[Zi 3,Zi 0,.bn,.bn]]⟩,some ⟨1,7,true,.bc [[Zi (bN.p (aI.gr b))],[Zi (bN.q (aI.gr b))],[Zi (bN.g (aI.gr b))],[Zi (aI.g1 b)],[Zi (aI.g2 b)],[Zi (aI.h b)],[Zi a]]⟩,some ⟨4,0,true,.ty (999999999:TypeId) (.bc [])⟩] (fun x6=>(.br (decide ((x6.1:Int)<7)) (.bj (0≤(x6.1:Int)∧(x6.1:Int)<7) (.dc true 308 [Zi (cC b a (Int.toNat (x6.1:Int)+0))] (It.av (It.int (cC b a (Int.toNat (x6.1:Int)+0)))) (.bj ((x6.1+1)*64≤140737488355328) (.again (bh 0 (fun x=>aY [4,6,7,10,49,50,51] [.own 0 6 0 0 6,.own 1 32 0 0 32,.own 2 4 0 0 4,.own 3 4 0 0 4,.ba 4 1 0 7,Zi 7,Zi x.1] [some ⟨6,1,true,.bc [aI.cells b]⟩,some ⟨32,1,true,.bc [bf root]⟩,some ⟨4,1,true,.bc [[Zi z,Zi sa,Zi sb,Zi r]]⟩,some ⟨4,1,true,.bc [[Zi 3,Zi 0,.bn,.ba 5 4 0 (x.1)]]⟩,some ⟨1,7,true,.fn fun i x=>Zi (cC b a i)⟩,some ⟨4,x.1,true,bA.row fun i=>It.cells (It.int (cC b a i))⟩]) y0 x6) [4,6,7,10,49,50,51] [0,1,2,3,4,78] [.own 0 6 0 0 6,.own 1 32 0 0 32,.own 2 4 0 0 4,.own 3 4 0 0 4,.ba 4 1 0 7,Zi 7,Zi (IntKind.wrap IntKind.i64 ((x6.1:Int)+1))] [some ⟨6,1,true,.bc [aI.cells b]⟩,some ⟨32,1,true,.bc [bf root]⟩,some ⟨4,1,true,.bc [[Zi z,Zi sa,Zi sb,Zi r]]⟩,some ⟨4,1,true,.bc [[Zi 3,Zi 0,.bn,.ba 5 4 0 (x6.1+1)]]⟩,some ⟨1,7,true,.fn fun i j=>Zi (cC b a i)⟩,some ⟨4,x6.1+1,true,bA.cat x6.1 (bA.row fun i=>[Zi (It.kind (It.int (cC b a i))),Zi (It.num (It.int (cC b a i))),.aH 1 0 fun i_1 x=>Zb (It.fb (It.int (cC b a i)) i_1),.aH 4 0 (It.row (It.int (cC b a i)))]) (.bc [[Zi (It.kind (It.int (cC b a (Int.toNat (x6.1:Int)+0)))),Zi (It.num (It.int (cC b a (Int.toNat (x6.1:Int)+0)))),.aH 1 0 fun i x=>Zb (It.fb (It.int (cC b a (Int.toNat (x6.1:Int)+0))) i),.aH 4 0 (It.row (It.int (cC b a (Int.toNat (x6.1:Int)+0))))]])⟩])))) (.dc true 308 [Zi z] (It.av (It.int z)) (.dc true 308 [Zi sa] (It.av (It.int sa)) (.dc true 308 [Zi sb] (It.av (It.int sb)) (.bj ((x6.1+4)*64≤140737488355328) (.dc true 233 [.agg [Zi 3,Zi 0,.bn,.aH 4 (x6.1+4) fun r k=>dh (Nat.blt (r+0) x6.1) (aQ [Zi (It.kind (It.int (cC b a (r+0)))),Zi (It.num (It.int (cC b a (r+0)))),.aH 1 0 fun i x=>Zb (It.fb (It.int (cC b a (r+0))) i),.aH 4 0 (It.row (It.int (cC b a (r+0))))] k) (aQ (List.getD [[Zi 2,Zi 0,.aH 1 32 fun r x=>Zb (aE (aQ (bf root) (0+(0+r)))),.bn],[Zi (It.kind (It.int z)),Zi (It.num (It.int z)),.aH 1 0 fun i x=>Zb (It.fb (It.int z) i),.aH 4 0 (It.row (It.int z))],[Zi (It.kind (It.int sa)),Zi (It.num (It.int sa)),.aH 1 0 fun i x=>Zb (It.fb (It.int sa) i),.aH 4 0 (It.row (It.int sa))],[Zi (It.kind (It.int sb)),Zi (It.num (It.int sb)),.aH 1 0 fun i x=>Zb (It.fb (It.int sb) i),.aH 4 0 (It.row (It.int sb))]] (r+0 - x6.1) []) k)]] (.aX [il IntKind.u8 (It.enc (kQ (qO b a root z sa sb))),Zi 0]) (.ff (.sc true 82 [AV.str { data := #[(115:UInt8),112,101,99,105,101,47,99,111,105,110] },.aH 1 132 fun i x=>Zb (List.getD (It.enc (kQ (qO b a root z sa sb))) i (0:Int))] (.aX [.agg (bf (et (String.toUTF8 "specie/coin") (List.length (It.enc (jI b a root z sa sb))) fun k=>List.getD (It.enc (jI b a root z sa sb)) k (0:Int))),Zi 0]) (.ff (.sc true 238 [.agg (bf (et (String.toUTF8 "specie/coin") 132 fun k=>List.getD (It.enc (jI b a root z sa sb)) k (0:Int))),Zi (aI.gr b).2] (.aX [Zi (cE (jm (String.toUTF8 "specie/coin") (jI b a root z sa sb)) (bN.q (aI.gr b)) 16),Zi 0]) (.out (.aX [Zi (cE (jm (String.toUTF8 "specie/coin") (jI b a root z sa sb)) (aI.gr b).2 16),Zi 0]) [] (ql b a root z sa sb) []))))))))))))))))))
  (by kernel_rfl) ?_
 refine aM ((eF b) (by assumption)) ?_
 refine aL (fun h1=>?_) (fun h1=>?_)
 ·have g1:=(aC aF) h1
  exact aq (by exact ay.of_eq (Np g1))
 ·have g1:=(az aB) h1
  refine aM (hE) ?_
  refine aL (fun h4=>?_) (fun h4=>?_)
  ·have g4:=(aC (ao aF aF)) h4
   exact aq (by exact ay.of_eq (L4 g1 g4))
  ·have g4:=(az (ah aB aB)) h4
   refine aV (fun _ hs=>hs.le (⟨.refl _,.refl _,.refl _,.refl _,.refl _,.refl _,.refl _,trivial⟩) (⟨.refl _,.refl _,.refl _,by exact aJ.row (by repeat' (first|exact trivial|(first|exact ay.refl _|exact aK (by omega)|exact ay.nil rfl|exact ay.of_eq (congrArg (AV.ba _ _ _) (by first|omega|(dsimp only;omega)))|exact ay.of_eq (congrArg (AV.int _) (by first|omega|(dsimp only;omega))))|refine And.intro ?_ ?_)),Ht,.zero,trivial⟩)) (fun x6=>?_)
   try (have q6:=x6.2;dsimp only at q6)
   refine aL (fun h7=>?_) (fun h7=>?_)
   ·have g7:=af h7
    refine aD (by omega) ?_
    refine b9 (tn (cC b a (toNat (↑x6.1:Int)+0))) ?_
    refine aD (by omega) ?_
    exact aN (⟨x6.1+1,by omega⟩) (fun _ hs=>hs.le (⟨.refl _,.refl _,.refl _,.refl _,.refl _,.refl _,aK (by omega),trivial⟩) (⟨.refl _,.refl _,.refl _,.refl _,.refl _,.ct rfl,trivial⟩)) (by dsimp only;omega)
   ·have g7:=aa h7
    refine b9 (tn (z)) ?_
    refine b9 (tn (sa)) ?_
    refine b9 (tn (sb)) ?_
    refine aD (by omega) ?_
    refine b9 (he (x6.1+4) (fun (r k:Nat)=>dh (Nat.blt (r+0) x6.1) (aQ [Zi (It.kind (It.int (cC b a (r+0)))),Zi (It.num (It.int (cC b a (r+0)))),AV.aH (1) (0) fun (i x:Nat)=>Zb (It.fb (It.int (cC b a (r+0))) i),AV.aH (4) (0) (It.row (It.int (cC b a (r+0))))] k) (aQ (List.getD [[Zi 2,Zi 0,AV.aH (1) (32) fun (r x:Nat)=>Zb (aE (aQ (bf root) (0+(0+r)))),AV.bn],[Zi (It.kind (It.int z)),Zi (It.num (It.int z)),AV.aH (1) (0) fun (i x:Nat)=>Zb (It.fb (It.int z) i),AV.aH (4) (0) (It.row (It.int z))],[Zi (It.kind (It.int sa)),Zi (It.num (It.int sa)),AV.aH (1) (0) fun (i x:Nat)=>Zb (It.fb (It.int sa) i),AV.aH (4) (0) (It.row (It.int sa))],[Zi (It.kind (It.int sb)),Zi (It.num (It.int sb)),AV.aH (1) (0) fun (i x:Nat)=>Zb (It.fb (It.int sb) i),AV.aH (4) (0) (It.row (It.int sb))]] (r+0 - x6.1) []) k)) (by (show _=11;omega)) (by exact fun i k hi _=>Hq (by omega) hi)) ?_
    refine cz ?_
    refine aM (ht) ?_
    refine cz ?_
    refine aM (hn (by exact (fN g1).1) (by exact (fN g1).2)) ?_
    exact aq (by exact ay.of_eq (Mu g1 g4))
theorem Dr (tag s:ByteArray) (h:Nat→Int) (bK:Int) (hs:s.size≤24) (E:List Int) (T:Nat→Int)
  (c1:∀ F,(∀ i k,i<2→k<4→ay [] (F i k) (aQ ((nM h s []).getD i (.int 0)).cells k))→Pure Tryz.prog aZ 233 [.agg [.int .i64 3,.int .i64 0,.bn,.aH 4 2 F]] (.aX [il .u8 E,.int .i64 0]))
  (c2:Pure Tryz.prog aZ 82 [.str tag,il .u8 E] (.aX [.agg (bf T),.int .i64 0])) :
  Pure Tryz.prog aZ 307 [.str tag,.agg (bf h++[.int .i64 bK]),.str s,.bn] (.aX [.agg (bf T),.int .i64 0]):=by
 refine ar (own:=bq) Tryz.func307 (by kernel_rfl) mixed (by kernel_rfl)
  (let y0:AV:=(.aX [.agg (bf T),Zi 0]);(.bj (128≤140737488355328) (.dc true 233 [.agg [Zi 3,Zi 0,.bn,.aH 4 2 fun r k=>aQ (List.getD [[Zi 2,Zi 0,.aH 1 32 fun r x=>Zb (aE (aQ (bf h++[Zi bK]) (0+(0+r)))),.bn],[Zi 2,Zi 0,.aH 1 (ByteArray.size s) fun i x=>Zb (↑(UInt8.toNat (List.getD (Array.toList (ByteArray.data s)) i (0:UInt8))):Int),.bn]] (r+0) []) k]] (.aX [il IntKind.u8 E,Zi 0]) (.ff (.sc true 82 [AV.str tag,.aH 1 (List.length E) fun i x=>Zb (List.getD E i (0:Int))] y0 (.out y0 [] y0 []))))))
  (by kernel_rfl) ?_
 refine aD (by omega) ?_
 refine b9 (c1 (fun (r k:Nat)=>aQ (List.getD [[Zi 2,Zi 0,AV.aH (1) (32) fun (r x:Nat)=>Zb (aE (aQ (bf h++[Zi bK]) (0+(0+r)))),AV.bn],[Zi 2,Zi 0,AV.aH (1) (ByteArray.size s) fun (i x:Nat)=>Zb (↑(UInt8.toNat (List.getD (Array.toList (ByteArray.data s)) i (0:UInt8))):Int),AV.bn]] (r+0) []) k) (fun i k hi _=>A9 hi)) ?_
 refine cz ?_
 refine aM (c2) ?_
 exact aq (ay.of_eq rfl)
theorem CE (tag s:ByteArray) (h:Nat→Int) (bK:Int) (hs:s.size≤24) (x:It) (a b:Int) (n m:Nat) (f:Nat→Int) (g:Nat→Nat→AV) (hx:∀ k,k<4→ay [] (aQ [.int .i64 a,.int .i64 b,dC n f,.aH 4 m g] k) (aQ x.cells k)) (E:List Int) (T:Nat→Int)
  (c1:∀ F,(∀ i k,i<3→k<4→ay [] (F i k) (aQ ((nM h s [x]).getD i (.int 0)).cells k))→Pure Tryz.prog aZ 233 [.agg [.int .i64 3,.int .i64 0,.bn,.aH 4 3 F]] (.aX [il .u8 E,.int .i64 0]))
  (c2:Pure Tryz.prog aZ 82 [.str tag,il .u8 E] (.aX [.agg (bf T),.int .i64 0])) :
  Pure Tryz.prog aZ 307 [.str tag,.agg (bf h++[.int .i64 bK]),.str s,.aH 4 1 fun _ k=>aQ [.int .i64 a,.int .i64 b,dC n f,.aH 4 m g] k] (.aX [.agg (bf T),.int .i64 0]):=by
 refine ar (own:=bq) Tryz.func307 (by kernel_rfl) mixed (by kernel_rfl)
  (let y0:AV:=(.aX [.agg (bf T),Zi 0]);(.bj (192≤140737488355328) (.dc true 233 [.agg [Zi 3,Zi 0,.bn,.aH 4 3 fun r k=>dh (Nat.blt (r+0) 2) (aQ (List.getD [[Zi 2,Zi 0,.aH 1 32 fun r x=>Zb (aE (aQ (bf h++[Zi bK]) (0+(0+r)))),.bn],[Zi 2,Zi 0,.aH 1 (ByteArray.size s) fun i x=>Zb (↑(UInt8.toNat (List.getD (Array.toList (ByteArray.data s)) i (0:UInt8))):Int),.bn]] (r+0) []) k) (aQ [Zi a,Zi b,.aH 1 n fun i x=>Zb (f i),.aH 4 m g] k)]] (.aX [il IntKind.u8 E,Zi 0]) (.ff (.sc true 82 [AV.str tag,.aH 1 (List.length E) fun i x=>Zb (List.getD E i (0:Int))] y0 (.out y0 [] y0 []))))))
  (by kernel_rfl) ?_
 refine aD (by omega) ?_
 refine b9 (c1 (fun (r k:Nat)=>dh (Nat.blt (r+0) (2)) (aQ (List.getD [[Zi 2,Zi 0,AV.aH (1) (32) fun (r x:Nat)=>Zb (aE (aQ (bf h++[Zi bK]) (0+(0+r)))),AV.bn],[Zi 2,Zi 0,AV.aH (1) (ByteArray.size s) fun (i x:Nat)=>Zb (↑(UInt8.toNat (List.getD (Array.toList (ByteArray.data s)) i (0:UInt8))):Int),AV.bn]] (r+0) []) k) (aQ [Zi a,Zi b,AV.aH (1) n fun (i x:Nat)=>Zb (f i),AV.aH (4) m g] k)) (fun i k hi hk=>DF hx hi hk)) ?_
 refine cz ?_
 refine aM (c2) ?_
 exact aq (ay.of_eq rfl)
theorem Dj (tag s:ByteArray) (h1:1≤tag.size) (h2:tag.size≤100) (h:Nat→Int) (bK:Int) (hs:s.size≤24) (hb:cS h 32):Pure Tryz.prog aZ 307 [.str tag,.agg (bf h++[.int .i64 bK]),.str s,.bn] (.aX [.agg (bf (jm tag (fm h s []))),.int .i64 0]) :=
 Dr tag s h bK hs (fm h s []).enc _ (fun F hF=>w3 (nM h s []) 2 F rfl hF (Hm h s) (by have:=mZ h s;unfold fm at this;omega))
  (gj tag h2 h1 (fun k=>(fm h s []).enc.getD k 0) (fm h s []).enc.length (by rw [mZ];omega) (It.ib (vK hb)))
structure BX (x : It) : Prop where
  ok : x.pB 7 = true
  len : x.enc.length ≤ 10000
  by' : x.okB
theorem A1 (tag s:ByteArray) (h1:1≤tag.size) (h2:tag.size≤100) (h:Nat→Int) (bK:Int) (hs:s.size≤24) (hb:cS h 32) (x:It) (a b:Int) (n m:Nat) (f:Nat→Int) (g:Nat→Nat→AV) (hx:∀ k,k<4→ay [] (aQ [.int .i64 a,.int .i64 b,dC n f,.aH 4 m g] k) (aQ x.cells k)) (H:BX x) :
  Pure Tryz.prog aZ 307 [.str tag,.agg (bf h++[.int .i64 bK]),.str s,.aH 4 1 fun r k=>aQ (List.getD [[.int .i64 a,.int .i64 b,dC n f,.aH 4 m g]] r []) k] (.aX [.agg (bf (jm tag (fm h s [x]))),.int .i64 0]) :=
 (CE tag s h bK hs x a b n m f g hx (fm h s [x]).enc _ (fun F hF=>w3 (nM h s [x]) 3 F rfl hF (yT h s H.ok) (by have:=kN h s x;have:=H.len;unfold fm at *;omega))
  (gj tag h2 h1 (fun k=>(fm h s [x]).enc.getD k 0) (fm h s [x]).enc.length (by rw [kN];have:=H.len;omega) (It.ib (uv hb H.by')))).via
  ⟨ay.refl _,ay.refl _,ay.refl _,ay.aH fun i k hi _=>by obtain rfl:i=0:=Nat.lt_one_iff.1 hi;rfl,trivial⟩
theorem E0 (h:Nat→Int) (bK:Int):Pure Tryz.prog aZ 306 [.agg (bf h++[.int .i64 bK])] (.bool (decide (bK≥0)&&decide (bK≤1000))):=by
 refine ar (own:=bq) Tryz.func306 (by kernel_rfl) mixed (by kernel_rfl)
  (let y0:AV:=(.bool (decide (bK≥0)&&decide (bK≤1000)));(.out y0 [] y0 []))
  (by kernel_rfl) ?_
 exact aq (ay.of_eq rfl)
theorem DB (s:ByteArray) (h:Nat→Int) (bK:Int) (hc:0≤bK∧bK<1000) (hl:eE s=true) (a b:Int) (n m:Nat) (f:Nat→Int) (g:Nat→Nat→AV) (T:Nat→Int)
  (c3:Pure Tryz.prog aZ 307 [.str "specie/absorb".toUTF8,.agg (bf h++[.int .i64 bK]),.str s,.aH 4 1 fun r k=>aQ (List.getD [[.int .i64 a,.int .i64 b,dC n f,.aH 4 m g]] r []) k] (.aX [.agg (bf T),.int .i64 0])) :
  Pure Tryz.prog aZ 305 [.agg (bf h++[.int .i64 bK]),.str s,.agg [.int .i64 a,.int .i64 b,dC n f,.aH 4 m g]] (.aX [.agg (bf T++[.int .i64 (bK+1)]),.int .i64 0]):=by
 have v1:=(gC hl).hi
 have c1:=wP s (by omega)
 rw [hl] at c1
 have c2:=E0 h bK
 refine ar (own:=bq) Tryz.func305 (by kernel_rfl) mixed (by kernel_rfl)
  (let y0:List AV:=[Zb 0,Zb 0,Zb 0,Zb 0,Zb 0,Zb 0,Zb 0,Zb 0,Zb 0,Zb 0,Zb 0,Zb 0,Zb 0,Zb 0,Zb 0,Zb 0,Zb 0,Zb 0,Zb 0,Zb 0,Zb 0,Zb 0,Zb 0,Zb 0,Zb 0,Zb 0,Zb 0,Zb 0,Zb 0,Zb 0,Zb 0,Zb 0,Zi 0];let y1:AV:=(.aX [.agg (bf T++[Zi (bK+1)]),Zi 0]);(.sc true 306 [.agg (bf h++[Zi bK])] (.bool (decide (bK≥0)&&decide (bK≤1000))) (.sc ((!(decide (bK≥0)&&decide (bK≤1000)))==false) 304 [AV.str s] (.bool true) (.br (!(decide (bK≥0)&&decide (bK≤1000))||false) (.out (.aX [.agg y0,Zi 1]) [] y1 []) (.sc true 307 [AV.str { data := #[(115:UInt8),112,101,99,105,101,47,97,98,115,111,114,98] },.agg (bf h++[Zi bK]),AV.str s,.aH 4 1 fun r k=>aQ (List.getD [[Zi a,Zi b,.aH 1 n fun i x=>Zb (f i),.aH 4 m g]] (r+0) []) k] (.aX [.agg (bf T),Zi 0]) (.ff (.br (bK==1000) (.out (.aX [.agg y0,Zi 5]) [] y1 []) (.out (.aX [.agg (bf T++[Zi (wrap .i64 (bK+1))]),Zi 0]) [] y1 []))))))))
  (by kernel_rfl) ?_
 refine aM (c2) ?_
 refine aW (fun h1=>c1) ?_
 refine aL (fun h2=>?_) (fun h2=>?_)
 ·have g2:=(aA (aC (ao aa aa)) aB) h2
  exact aq ((by exfalso;rcases g2 with g2|g2;(· omega);(· cases g2)))
 ·have g2:=(aw (az (ah af af)) aF) h2
  refine aM (c3) ?_
  refine cz ?_
  refine aL (fun h6=>?_) (fun h6=>?_)
  ·exact aq (ay.of_eq (by simp_all))
  ·exact aq (ay.of_eq (by rw [wI (by omega) (by omega)]))
theorem yM (l:List Int) (h:l.length≤100):BX (be l):=⟨by simp [be,It.pB];omega,by rw [z2];omega,fun _ _=>trivial⟩
theorem uW (s:ByteArray) (h:Nat→Int) (bK:Int) (hc:0≤bK∧bK<1000) (hl:eE s=true) (hb:cS h 32) (x:It) (H:BX x) (a b:Int) (n m:Nat) (f:Nat→Int) (g:Nat→Nat→AV) (hx:∀ k,k<4→ay [] (aQ [.int .i64 a,.int .i64 b,dC n f,.aH 4 m g] k) (aQ x.cells k)) :
  Pure Tryz.prog aZ 305 [.agg (bf h++[.int .i64 bK]),.str s,.agg [.int .i64 a,.int .i64 b,dC n f,.aH 4 m g]] (.aX [.agg (bf (jL h s x)++[.int .i64 (bK+1)]),.int .i64 0]) :=
 DB s h bK hc hl a b n m f g _ (A1 "specie/absorb".toUTF8 s (by decide) (by decide) h bK (gC hl).hi hb x a b n m f g hx H)
theorem sE (s:ByteArray) (h:Nat→Int) (bK:Int) (hc:0≤bK∧bK<1000) (hl:eE s=true) (hb:cS h 32) (l:List Int) (hn:l.length≤100) :
  Pure Tryz.prog aZ 272 [.agg (bf h++[.int .i64 bK]),.str s,il .i64 l] (.aX [.agg (bf (jL h s (be l))++[.int .i64 (bK+1)]),.int .i64 0]):=by
 have c1:=tw l (by omega)
 have c2:=uW s h bK hc hl hb (be l) (yM l hn) (be l).kind (be l).num (be l).nb (be l).nl (be l).fb (be l).row (fun k hk=>ay.refl _)
 refine ar (own:=bq) Tryz.func272 (by kernel_rfl) mixed (by kernel_rfl)
  (let y0:AV:=(.aX [.agg (bf (jL h s (be l))++[Zi (bK+1)]),Zi 0]);(.dc true 237 [.aH 1 (List.length l) fun i x=>Zi (List.getD l i (0:Int))] (It.av (be l)) (.sc true 305 [.agg (bf h++[Zi bK]),AV.str s,.agg [Zi (It.kind (be l)),Zi (It.num (be l)),.aH 1 0 fun i x=>Zb (It.fb (be l) i),.aH 4 (It.nl (be l)) (It.row (be l))]] y0 (.out y0 [] y0 []))))
  (by kernel_rfl) ?_
 refine b9 (c1) ?_
 refine aM (c2) ?_
 exact aq (ay.refl _)
theorem BG (c:Int):BX (.int c):=⟨rfl,by rw [iv];decide,trivial⟩
theorem Bq (s:ByteArray) (h:Nat→Int) (bK:Int) (hc:0≤bK∧bK<1000) (hl:eE s=true) (hb:cS h 32) (c:Int) :
  Pure Tryz.prog aZ 305 [.agg (bf h++[.int .i64 bK]),.str s,.agg [.int .i64 1,.int .i64 c,.bn,.bn]] (.aX [.agg (bf (jL h s (.int c))++[.int .i64 (bK+1)]),.int .i64 0]) :=
 (uW s h bK hc hl hb (.int c) (BG c) 1 c 0 0 (It.int c).fb (It.int c).row (fun k hk=>ay.refl _)).via ⟨ay.refl _,ay.refl _,ay.agg ⟨ay.refl _,ay.refl _,ay.bn,ay.bn,trivial⟩,trivial⟩
theorem FZ (s:ByteArray) (h:Nat→Int) (bK:Int) (hc:0≤bK∧bK<1000) (hl:eE s=true) (q:Int) (hq:2≤q∧q<2305843009213693952) (T:Nat→Int) (hT:cS T 32) (N:Nat→Int) (c3:Pure Tryz.prog aZ 307 [.str "specie/challenge".toUTF8,.agg (bf h++[.int .i64 bK]),.str s,.bn] (.aX [.agg (bf T),.int .i64 0]))
  (c5:Pure Tryz.prog aZ 305 [.agg (bf h++[.int .i64 bK]),.str s,.agg [.int .i64 1,.int .i64 (cE T q 16),.bn,.bn]] (.aX [.agg (bf N++[.int .i64 (bK+1)]),.int .i64 0])) :
  Pure Tryz.prog aZ 273 [.agg (bf h++[.int .i64 bK]),.str s,.int .i64 q] (.aX [.agg (bf N++[.int .i64 (bK+1)]),.int .i64 (cE T q 16),.int .i64 0]):=by
 have v1:=(gC hl).hi
 have c1:=wP s (by omega)
 rw [hl] at c1
 have c2:=E0 h bK
 have c4:=py T q (by omega) hq.2 hT
 refine ar (own:=bq) Tryz.func273 (by kernel_rfl) mixed (by kernel_rfl)
  (let y0:List AV:=[Zb 0,Zb 0,Zb 0,Zb 0,Zb 0,Zb 0,Zb 0,Zb 0,Zb 0,Zb 0,Zb 0,Zb 0,Zb 0,Zb 0,Zb 0,Zb 0,Zb 0,Zb 0,Zb 0,Zb 0,Zb 0,Zb 0,Zb 0,Zb 0,Zb 0,Zb 0,Zb 0,Zb 0,Zb 0,Zb 0,Zb 0,Zb 0,Zi 0];let y1:AV:=(.aX [.agg (bf N++[Zi (bK+1)]),Zi (cE T q 16),Zi 0]);(.sc true 306 [.agg (bf h++[Zi bK])] (.bool (decide (bK≥0)&&decide (bK≤1000))) (.sc ((!(decide (bK≥0)&&decide (bK≤1000)))==false) 304 [AV.str s] (.bool true) (.br (!(decide (bK≥0)&&decide (bK≤1000))||false) (.out (.aX [.agg y0,Zi 0,Zi 1]) [] y1 []) (.br (decide (q<2)||decide (q≥2305843009213693952)) (.out (.aX [.agg y0,Zi 0,Zi 2]) [] y1 []) (.br (bK==1000) (.out (.aX [.agg y0,Zi 0,Zi 5]) [] y1 []) (.sc true 307 [AV.str { data := #[(115:UInt8),112,101,99,105,101,47,99,104,97,108,108,101,110,103,101] },.agg (bf h++[Zi bK]),AV.str s,.bn] (.aX [.agg (bf T),Zi 0]) (.ff (.sc true 238 [.agg (bf T),Zi q] (.aX [Zi (cE T q 16),Zi 0]) (.ff (.sc true 305 [.agg (bf h++[Zi bK]),AV.str s,.agg [Zi 1,Zi (cE T q 16),.bn,.bn]] (.aX [.agg (bf N++[Zi (bK+1)]),Zi 0]) (.ff (.out y1 [] y1 [])))))))))))))
  (by kernel_rfl) ?_
 refine aM (c2) ?_
 refine aW (fun h1=>c1) ?_
 refine aL (fun h2=>?_) (fun h2=>?_)
 ·have g2:=(aA (aC (ao aa aa)) aB) h2
  exact aq ((by exfalso;rcases g2 with g2|g2;(· omega);(· cases g2)))
 ·have g2:=(aw (az (ah af af)) aF) h2
  refine aL (fun h4=>?_) (fun h4=>?_)
  ·have g4:=(aA af af) h4
   exact aq ((by exfalso;omega))
  ·have g4:=(aw aa aa) h4
   refine aL (fun h6=>?_) (fun h6=>?_)
   ·have g6:=ai h6
    exact aq (ay.of_eq (by simp_all))
   ·have g6:=aj h6
    refine aM (c3) ?_
    refine cz ?_
    refine aM (c4) ?_
    refine cz ?_
    refine aM (c5) ?_
    refine cz ?_
    exact aq (ay.of_eq rfl)
theorem Hd (s:ByteArray) (h:Nat→Int) (bK:Int) (hc:0≤bK∧bK<1000) (hl:eE s=true) (hb:cS h 32) (q:Int) (hq:2≤q∧q<2305843009213693952) :
  Pure Tryz.prog aZ 273 [.agg (bf h++[.int .i64 bK]),.str s,.int .i64 q] (.aX [.agg (bf (jL h s (.int (wX h s q)))++[.int .i64 (bK+1)]),.int .i64 (wX h s q),.int .i64 0]) :=
 FZ s h bK hc hl q hq _ (ja _ _ _) _ (Dj "specie/challenge".toUTF8 s (by decide) (by decide) h bK (gC hl).hi hb) (Bq s h bK hc hl hb (wX h s q))
theorem zm (s:ByteArray) (h:Nat→Int) (bK:Int) (hs:s.size≤24):Pure Tryz.prog aZ 331 [.agg (bf h++[.int .i64 bK]),.str s,.bn] (fm h s []).av:=by
 refine ar (own:=bq) Tryz.func331 (by kernel_rfl) mixed (by kernel_rfl)
  (.bj (32≤140737488355328) (.bj (128≤140737488355328) (.out (.agg [Zi 3,Zi 0,.bn,.aH 4 2 fun r k=>aQ (List.getD [[Zi 2,Zi 0,.aH 1 32 fun r k=>Zb (aE (aQ (bf h++[Zi bK]) (0+(0+(r+0))))),.bn],[Zi 2,Zi 0,.aH 1 (ByteArray.size s) fun i x=>Zb (↑(UInt8.toNat (List.getD (Array.toList (ByteArray.data s)) i (0:UInt8))):Int),.bn]] (r+0) []) k]) [] (It.av (fm h s [])) [])))
  (by kernel_rfl) ?_
 refine aD (by omega) ?_
 refine aD (by omega) ?_
 exact aq (o7 (L:=nM h s []) rfl (fun i k hi _=>A9 hi))
theorem zQ (s:ByteArray) (h:Nat→Int) (bK:Int) (hs:s.size≤24) (x:It) (a b:Int) (n m:Nat) (f:Nat→Int) (g:Nat→Nat→AV) (hx:∀ k,k<4→ay [] (aQ [.int .i64 a,.int .i64 b,dC n f,.aH 4 m g] k) (aQ x.cells k)):Pure Tryz.prog aZ 331 [.agg (bf h++[.int .i64 bK]),.str s,.aH 4 1 fun _ k=>aQ [.int .i64 a,.int .i64 b,dC n f,.aH 4 m g] k] (fm h s [x]).av:=by
 refine ar (own:=bq) Tryz.func331 (by kernel_rfl) mixed (by kernel_rfl)
  (.bj (32≤140737488355328) (.bj (192≤140737488355328) (.out (.agg [Zi 3,Zi 0,.bn,.aH 4 3 fun r k=>dh (Nat.blt (r+0) 2) (aQ (List.getD [[Zi 2,Zi 0,.aH 1 32 fun r k=>Zb (aE (aQ (bf h++[Zi bK]) (0+(0+(r+0))))),.bn],[Zi 2,Zi 0,.aH 1 (ByteArray.size s) fun i x=>Zb (↑(UInt8.toNat (List.getD (Array.toList (ByteArray.data s)) i (0:UInt8))):Int),.bn]] (r+0) []) k) (aQ [Zi a,Zi b,.aH 1 n fun i x=>Zb (f i),.aH 4 m g] k)]) [] (It.av (fm h s [x])) [])))
  (by kernel_rfl) ?_
 refine aD (by omega) ?_
 refine aD (by omega) ?_
 exact aq (o7 (L:=nM h s [x]) rfl (fun i k hi hk=>DF hx hi hk))
theorem Br {n:Nat} {c:Nat→It} {d:Int} (h:(It.li n c).pB d=true):0<d∧n≤1000∧∀ i,i<n→(c i).pB (d - 1)=true:=It.II h
theorem wc (n w:Int):Pure Tryz.prog aZ 353 [.agg [.int .i64 1,.int .i64 n,dC 0 (fun _=>0),.aH 4 0 (fun _ _=>.bx)],.int .i64 w] (.bool true):=by
 refine ar (own:=bq) Tryz.func353 (by kernel_rfl) mixed (by kernel_rfl)
  (.tt (.out (.bool true) [] (.bool true) []))
  (by kernel_rfl) ?_
 refine gp ?_
 exact aq (ay.of_eq rfl)
theorem xp (n:Nat) (f:Nat→Int) (w:Int):Pure Tryz.prog aZ 353 [.agg [.int .i64 2,.int .i64 0,dC n f,.aH 4 0 (fun _ _=>.bx)],.int .i64 w] (.bool true):=by
 refine ar (own:=bq) Tryz.func353 (by kernel_rfl) mixed (by kernel_rfl)
  (.ff (.tt (.out (.bool true) [] (.bool true) [])))
  (by kernel_rfl) ?_
 refine cz ?_
 refine gp ?_
 exact aq (ay.of_eq rfl)
theorem zw (n:Nat) (c:Nat→It) (w:Int) (hw:0≤w∧w<8) (hn:n≤1000) (hc:∀ i,i<n→Pure Tryz.prog aZ 353 [(c i).av,.int .i64 (w+1)] (.bool true)) :
  Pure Tryz.prog aZ 353 [.agg [.int .i64 3,.int .i64 0,dC 0 (fun _=>0),It.sl n c],.int .i64 w] (.bool true):=by
 have e:IntKind.wrap .i64 (w+1)=w+1:=wI (by omega) (by omega)
 rw [← e] at hc
 refine ar (own:=bq) Tryz.func353 (by kernel_rfl) mixed (by kernel_rfl)
  (let y0:List (Option Ob):=[some ⟨4,1,true,.bc [[Zi 3,Zi 0,.aH 1 0 fun i x=>Zb 0,.aH 4 n fun i j=>aQ (It.cells (c i)) j]]⟩];let y1:=(fun (x:{ x:Nat // x≤n })=>aY [1,2,5] [Zi w,.own 0 4 0 0 4,Zi x.1] y0);let y2:=(fun (x:{ x:Nat // x≤n })=>n - x.1);(.ff (.ff (.tt (.br (decide ((n:Int)>1000)||w==8) (.out (.bool false) [] (.bool true) []) (.loop ({ x:Nat // x≤n }) y1 y2 (⟨0,Nat.zero_le n⟩) [1,2,5] [0] [Zi w,.own 0 4 0 0 4,Zi 0] (y0) (fun x5=>(.br (decide ((x5.1:Int)<(n:Int))) (.bj (0≤(x5.1:Int)∧(x5.1:Int)<(n:Int)) (.sc true 353 [.agg [Zi (It.kind (c (toNat (x5.1:Int)))),Zi (It.num (c (toNat (x5.1:Int)))),.aH 1 (It.nb (c (toNat (x5.1:Int)))) fun i x=>Zb (It.fb (c (toNat (x5.1:Int))) i),.aH 4 (It.nl (c (toNat (x5.1:Int)))) (It.row (c (toNat (x5.1:Int))))],Zi (wrap .i64 (w+1))] (.bool true) (.ff (.again (bh 0 y1 y2 x5) [1,2,5] [0] [Zi w,.own 0 4 0 0 4,Zi (wrap .i64 ((x5.1:Int)+1))] (y0))))) (.out (.bool true) [] (.bool true) [])))))))))
  (by kernel_rfl) ?_
 refine cz ?_
 refine cz ?_
 refine gp ?_
 refine aL (fun h3=>?_) (fun h3=>?_)
 ·have g3:=(aA af ai) h3
  exact aq ((by exfalso;omega))
 ·have g3:=(aw aa aj) h3
  refine aV (fun _ hs=>hs.le (⟨.refl _,.refl _,.refl _,trivial⟩) (⟨.refl _,trivial⟩)) (fun x5=>?_)
  try (have q5:=x5.2;dsimp only at q5)
  refine aL (fun h6=>?_) (fun h6=>?_)
  ·have g6:=af h6
   refine aD (by omega) ?_
   refine aM (hc (toNat (↑x5.1:Int)) (by omega)) ?_
   refine cz ?_
   exact aN (⟨x5.1+1,by omega⟩) (fun _ hs=>hs.le (⟨.refl _,.refl _,aK (by omega),trivial⟩) (⟨.refl _,trivial⟩)) (by dsimp only;omega)
  ·have g6:=aa h6
   exact aq (ay.of_eq rfl)
theorem qA:∀ (x:It) (d:Int),0≤d∧d≤8→x.pB d=true→Pure Tryz.prog aZ 353 [x.av,.int .i64 (8 - d)] (.bool true)
 | .int n,d,_,_=>wc n (8 - d)
 | .dz n f,d,_,_=>xp n f (8 - d)
 | .li n c,d,hd,h=>by
  obtain ⟨h1,h2,h3⟩:=Br h
  refine zw n c (8 - d) (by omega) h2 (fun i hi=>?_)
  have:=qA (c i) (d - 1) (by omega) (h3 i hi)
  rw [show 8 - (d - 1)=8 - d+1 by omega] at this
  exact this
theorem El (x:It) (h:x.pB 8=true):Pure Tryz.prog aZ 348 [x.av] (.bool true):=by
 have c1:=qA x 8 (by decide) h
 refine ar (own:=bq) Tryz.func348 (by kernel_rfl) mixed (by kernel_rfl)
  (.sc true 353 [.agg [Zi (It.kind x),Zi (It.num x),.aH 1 (It.nb x) fun i x_1=>Zb (It.fb x i),.aH 4 (It.nl x) (It.row x)],Zi 0] (.bool true) (.out (.bool true) [] (.bool true) []))
  (by kernel_rfl) ?_
 refine aM (c1) ?_
 exact aq (ay.of_eq rfl)
theorem yR (h:Nat→Int) (bK:Int):Pure Tryz.prog aZ 330 [.agg (bf h++[.int .i64 bK])] (.bool (decide (bK≥0)&&decide (bK≤1000))):=by
 refine ar (own:=bq) Tryz.func330 (by kernel_rfl) mixed (by kernel_rfl)
  (let y0:AV:=(.bool (decide (bK≥0)&&decide (bK≤1000)));(.out y0 [] y0 []))
  (by kernel_rfl) ?_
 exact aq (ay.of_eq rfl)
theorem zE (s:ByteArray) (h:Nat→Int) (bK:Int) (hc:0≤bK∧bK<1000) (hl:eE s=true) (a b:Int) (n m:Nat) (f:Nat→Int) (g:Nat→Nat→AV) (F:Nat→Nat→AV) (E:List Int) (hE:E.length≤16384) (T:Nat→Int)
  (c3:Pure Tryz.prog aZ 331 [.agg (bf h++[.int .i64 bK]),.str s,.aH 4 1 fun r k=>aQ (List.getD [[.int .i64 a,.int .i64 b,dC n f,.aH 4 m g]] r []) k] (.agg [.int .i64 3,.int .i64 0,dC 0 (fun _=>0),.aH 4 3 F]))
  (c4:Pure Tryz.prog aZ 348 [.agg [.int .i64 3,.int .i64 0,dC 0 (fun _=>0),.aH 4 3 F]] (.bool true))
  (c5:Pure Tryz.prog aZ 206 [.agg [.int .i64 3,.int .i64 0,dC 0 (fun _=>0),.aH 4 3 F]] (il .u8 E))
  (c6:Pure Tryz.prog aZ 205 [.str "specie/absorb".toUTF8,il .u8 E] (.agg (bf T))) :
  Pure Tryz.prog aZ 328 [.agg (bf h++[.int .i64 bK]),.str s,.agg [.int .i64 a,.int .i64 b,dC n f,.aH 4 m g]] (.aX [.agg (bf T++[.int .i64 (bK+1)]),.int .i64 0]):=by
 have v1:=(gC hl).hi
 have c1:=vO s (by omega)
 rw [hl] at c1
 have c2:=yR h bK
 refine ar (own:=bq) Tryz.func328 (by kernel_rfl) mixed (by kernel_rfl)
  (let y0:List AV:=[Zb 0,Zb 0,Zb 0,Zb 0,Zb 0,Zb 0,Zb 0,Zb 0,Zb 0,Zb 0,Zb 0,Zb 0,Zb 0,Zb 0,Zb 0,Zb 0,Zb 0,Zb 0,Zb 0,Zb 0,Zb 0,Zb 0,Zb 0,Zb 0,Zb 0,Zb 0,Zb 0,Zb 0,Zb 0,Zb 0,Zb 0,Zb 0,Zi 0];let y1:AV:=(.aX [.agg (bf T++[Zi (bK+1)]),Zi 0]);let y2:List AV:=[.agg [Zi 3,Zi 0,.aH 1 0 fun i x=>Zb 0,.aH 4 3 F]];(.sc true 330 [.agg (bf h++[Zi bK])] (.bool (decide (bK≥0)&&decide (bK≤1000))) (.sc ((!(decide (bK≥0)&&decide (bK≤1000)))==false) 250 [AV.str s] (.bool true) (.br (!(decide (bK≥0)&&decide (bK≤1000))||false) (.out (.aX [.agg y0,Zi 1]) [] y1 []) (.dc true 331 [.agg (bf h++[Zi bK]),AV.str s,.aH 4 1 fun r k=>aQ (List.getD [[Zi a,Zi b,.aH 1 n fun i x=>Zb (f i),.aH 4 m g]] (r+0) []) k] (.agg [Zi 3,Zi 0,dC 0 fun x=>(0:Int),.aH 4 3 F]) (.sc true 348 (y2) (.bool true) (.ff (.dc true 206 (y2) (il IntKind.u8 E) (.br (bK==1000||decide ((↑(List.length E):Int)>16384)) (.out (.aX [.agg y0,Zi 5]) [] y1 []) (.sc true 205 [AV.str { data := #[(115:UInt8),112,101,99,105,101,47,97,98,115,111,114,98] },.aH 1 (List.length E) fun i x=>Zb (List.getD E i (0:Int))] (.agg (bf T)) (.out (.aX [.agg (bf T++[Zi (wrap .i64 (bK+1))]),Zi 0]) [] y1 [])))))))))))
  (by kernel_rfl) ?_
 refine aM (c2) ?_
 refine aW (fun h1=>c1) ?_
 refine aL (fun h2=>?_) (fun h2=>?_)
 ·have g2:=(aA (aC (ao aa aa)) aB) h2
  exact aq ((by exfalso;rcases g2 with g2|g2;(· omega);(· cases g2)))
 ·have g2:=(aw (az (ah af af)) aF) h2
  refine b9 (c3) ?_
  refine aM (c4) ?_
  refine cz ?_
  refine b9 (c5) ?_
  refine aL (fun h8=>?_) (fun h8=>?_)
  ·have g8:=(aA ai af) h8
   exact aq ((by exfalso;omega))
  ·have g8:=(aw aj aa) h8
   refine aM (c6) ?_
   exact aq (ay.of_eq (by rw [wI (by omega) (by omega)]))
theorem rr (s:ByteArray) (h:Nat→Int) (bK:Int) (hc:0≤bK∧bK<1000) (hl:eE s=true) (hb:cS h 32) (x:It) (H:BX x) (a b:Int) (n m:Nat) (f:Nat→Int) (g:Nat→Nat→AV) (hx:∀ k,k<4→ay [] (aQ [.int .i64 a,.int .i64 b,dC n f,.aH 4 m g] k) (aQ x.cells k)) :
  Pure Tryz.prog aZ 328 [.agg (bf h++[.int .i64 bK]),.str s,.agg [.int .i64 a,.int .i64 b,dC n f,.aH 4 m g]] (.aX [.agg (bf (jL h s x)++[.int .i64 (bK+1)]),.int .i64 0]) :=
 zE s h bK hc hl a b n m f g (fm h s [x]).row (fm h s [x]).enc (by rw [kN];have:=H.len;have:=(gC hl).hi;omega) _
  ((zQ s h bK (gC hl).hi x a b n m f g hx).via ⟨ay.refl _,ay.refl _,ay.aH fun i k hi _=>by obtain rfl:i=0:=Nat.lt_one_iff.1 hi;rfl,trivial⟩)
  (El (fm h s [x]) (yT h s H.ok)) (l5 (fm h s [x]) (by rw [kN];have:=H.len;have:=(gC hl).hi;omega))
  (fV "specie/absorb".toUTF8 (by decide) (fun k=>(fm h s [x]).enc.getD k 0) (fm h s [x]).enc.length (by rw [kN];have:=H.len;have:=(gC hl).hi;omega) (It.ib (uv hb H.by')))
theorem Gb (s:ByteArray) (h:Nat→Int) (bK:Int) (hc:0≤bK∧bK<1000) (hl:eE s=true) (q:Int) (hq:2≤q∧q<2305843009213693952) (F:Nat→Nat→AV) (E:List Int) (T:Nat→Int) (hT:cS T 32) (N:Nat→Int)
  (c3:Pure Tryz.prog aZ 331 [.agg (bf h++[.int .i64 bK]),.str s,.bn] (.agg [.int .i64 3,.int .i64 0,dC 0 (fun _=>0),.aH 4 2 F]))
  (c4:Pure Tryz.prog aZ 206 [.agg [.int .i64 3,.int .i64 0,dC 0 (fun _=>0),.aH 4 2 F]] (il .u8 E))
  (c5:Pure Tryz.prog aZ 205 [.str "specie/challenge".toUTF8,il .u8 E] (.agg (bf T)))
  (c7:Pure Tryz.prog aZ 328 [.agg (bf h++[.int .i64 bK]),.str s,.agg [.int .i64 1,.int .i64 (cE T q 16),.bn,.bn]] (.aX [.agg (bf N++[.int .i64 (bK+1)]),.int .i64 0])) :
  Pure Tryz.prog aZ 294 [.agg (bf h++[.int .i64 bK]),.str s,.int .i64 q] (.aX [.agg (bf N++[.int .i64 (bK+1)]),.int .i64 (cE T q 16),.int .i64 0]):=by
 have v1:=(gC hl).hi
 have c1:=vO s (by omega)
 rw [hl] at c1
 have c2:=yR h bK
 have c6:=nI T q (by omega) hq.2 hT
 refine ar (own:=bq) Tryz.func294 (by kernel_rfl) mixed (by kernel_rfl)
  (let y0:List AV:=[Zb 0,Zb 0,Zb 0,Zb 0,Zb 0,Zb 0,Zb 0,Zb 0,Zb 0,Zb 0,Zb 0,Zb 0,Zb 0,Zb 0,Zb 0,Zb 0,Zb 0,Zb 0,Zb 0,Zb 0,Zb 0,Zb 0,Zb 0,Zb 0,Zb 0,Zb 0,Zb 0,Zb 0,Zb 0,Zb 0,Zb 0,Zb 0,Zi 0];let y1:AV:=(.aX [.agg (bf N++[Zi (bK+1)]),Zi (cE T q 16),Zi 0]);(.sc true 330 [.agg (bf h++[Zi bK])] (.bool (decide (bK≥0)&&decide (bK≤1000))) (.sc ((!(decide (bK≥0)&&decide (bK≤1000)))==false) 250 [AV.str s] (.bool true) (.br (!(decide (bK≥0)&&decide (bK≤1000))||false) (.out (.aX [.agg y0,Zi 0,Zi 1]) [] y1 []) (.br (decide (q<2)||decide (q≥2305843009213693952)) (.out (.aX [.agg y0,Zi 0,Zi 2]) [] y1 []) (.br (bK==1000) (.out (.aX [.agg y0,Zi 0,Zi 5]) [] y1 []) (.dc true 331 [.agg (bf h++[Zi bK]),AV.str s,.bn] (.agg [Zi 3,Zi 0,dC 0 fun x=>(0:Int),.aH 4 2 F]) (.dc true 206 [.agg [Zi 3,Zi 0,.aH 1 0 fun i x=>Zb 0,.aH 4 2 F]] (il IntKind.u8 E) (.sc true 205 [AV.str { data := #[(115:UInt8),112,101,99,105,101,47,99,104,97,108,108,101,110,103,101] },.aH 1 (List.length E) fun i x=>Zb (List.getD E i (0:Int))] (.agg (bf T)) (.sc true 204 [.agg (bf T),Zi q] (Zi (cE T q 16)) (.sc true 328 [.agg (bf h++[Zi bK]),AV.str s,.agg [Zi 1,Zi (cE T q 16),.bn,.bn]] (.aX [.agg (bf N++[Zi (bK+1)]),Zi 0]) (.out y1 [] y1 []))))))))))))
  (by kernel_rfl) ?_
 refine aM (c2) ?_
 refine aW (fun h1=>c1) ?_
 refine aL (fun h2=>?_) (fun h2=>?_)
 ·have g2:=(aA (aC (ao aa aa)) aB) h2
  exact aq ((by exfalso;rcases g2 with g2|g2;(· omega);(· cases g2)))
 ·have g2:=(aw (az (ah af af)) aF) h2
  refine aL (fun h4=>?_) (fun h4=>?_)
  ·have g4:=(aA af af) h4
   exact aq ((by exfalso;omega))
  ·have g4:=(aw aa aa) h4
   refine aL (fun h6=>?_) (fun h6=>?_)
   ·have g6:=ai h6
    exact aq (ay.of_eq (by simp_all))
   ·have g6:=aj h6
    refine b9 (c3) ?_
    refine b9 (c4) ?_
    refine aM (c5) ?_
    refine aM (c6) ?_
    refine aM (c7) ?_
    exact aq (ay.of_eq rfl)
theorem Ac (s:ByteArray) (h:Nat→Int) (bK:Int) (hc:0≤bK∧bK<1000) (hl:eE s=true) (hb:cS h 32) (c:Int) :
  Pure Tryz.prog aZ 328 [.agg (bf h++[.int .i64 bK]),.str s,.agg [.int .i64 1,.int .i64 c,.bn,.bn]] (.aX [.agg (bf (jL h s (.int c))++[.int .i64 (bK+1)]),.int .i64 0]) :=
 (rr s h bK hc hl hb (.int c) (BG c) 1 c 0 0 (It.int c).fb (It.int c).row (fun k hk=>ay.refl _)).via ⟨ay.refl _,ay.refl _,ay.agg ⟨ay.refl _,ay.refl _,ay.bn,ay.bn,trivial⟩,trivial⟩
theorem DE (s:ByteArray) (h:Nat→Int) (bK:Int) (hc:0≤bK∧bK<1000) (hl:eE s=true) (hb:cS h 32) (q:Int) (hq:2≤q∧q<2305843009213693952) :
  Pure Tryz.prog aZ 294 [.agg (bf h++[.int .i64 bK]),.str s,.int .i64 q] (.aX [.agg (bf (jL h s (.int (wX h s q)))++[.int .i64 (bK+1)]),.int .i64 (wX h s q),.int .i64 0]) :=
 Gb s h bK hc hl q hq (fm h s []).row (fm h s []).enc _ (ja _ _ _) _ (zm s h bK (gC hl).hi) (l5 (fm h s []) (by rw [mZ];have:=(gC hl).hi;omega))
  (fV "specie/challenge".toUTF8 (by decide) (fun k=>(fm h s []).enc.getD k 0) (fm h s []).enc.length (by rw [mZ];have:=(gC hl).hi;omega) (It.ib (vK hb)))
  (Ac s h bK hc hl hb (wX h s q))
theorem zK (l:List Int) (hl:l.length≤1000000):Pure Tryz.prog aZ 329 [il .i64 l] (be l).av:=by
 refine ar (own:=bq) Tryz.func329 (by kernel_rfl) mixed (by kernel_rfl)
  (let y0:=(fun (x:{ x:Nat // x≤List.length l })=>aY [0,2,3,4] [.aH 1 (List.length l) fun i x=>Zi (List.getD l i (0:Int)),.own 0 4 0 0 4,.own 1 4 0 0 4,Zi x.1] [some ⟨4,1,true,.bc [[Zi 0,Zi 0,.bn,.bn]]⟩,some ⟨4,1,true,.bc [[Zi 3,Zi 0,.bn,.ba 2 4 0 (x.1)]]⟩,some ⟨4,x.1,true,bA.row fun i=>It.cells (It.int (List.getD l i (0:Int)))⟩]);let y1:=(fun (x:{ x:Nat // x≤List.length l })=>List.length l - x.1);(.loop ({ x:Nat // x≤List.length l }) y0 y1 (⟨0,Nat.zero_le (List.length l)⟩) [0,2,3,4] [0,16,1066] [.aH 1 (List.length l) fun i x=>Zi (List.getD l i (0:Int)),.own 0 4 0 0 4,.own 1 4 0 0 4,Zi 0] [some ⟨4,1,true,.bc [[Zi 0,Zi 0,.bn,.bn]]⟩,some ⟨4,1,true,.bc [[Zi 3,Zi 0,.bn,.bn]]⟩,some ⟨4,0,true,.ty (999999999:TypeId) (.bc [])⟩] (fun x0=>(.br (decide ((x0.1:Int)<(↑(List.length l):Int))) (.bj (0≤(x0.1:Int)∧(x0.1:Int)<(↑(List.length l):Int)) (.bj ((x0.1+1)*64≤140737488355328) (.again (bh 0 y0 y1 x0) [0,2,3,4] [0,1,99] [.aH 1 (List.length l) fun i x=>Zi (List.getD l i (0:Int)),.own 0 4 0 0 4,.own 1 4 0 0 4,Zi (wrap .i64 ((x0.1:Int)+1))] [some ⟨4,1,true,.bc [[Zi 0,Zi 0,.bn,.bn]]⟩,some ⟨4,1,true,.bc [[Zi 3,Zi 0,.bn,.ba 2 4 0 (x0.1+1)]]⟩,some ⟨4,x0.1+1,true,bA.cat x0.1 (bA.row fun i=>[Zi (It.kind (It.int (List.getD l i (0:Int)))),Zi (It.num (It.int (List.getD l i (0:Int)))),.aH 1 0 fun i_1 x=>Zb (It.fb (It.int (List.getD l i (0:Int))) i_1),.aH 4 0 (It.row (It.int (List.getD l i (0:Int))))]) (.bc [[Zi 1,Zi (List.getD l (toNat (↑(x0.1):Int)) (0:Int)),.bn,.bn]])⟩]))) (.out (.agg [Zi 3,Zi 0,.bn,.aH 4 x0.1 fun r k=>aQ [Zi (It.kind (It.int (List.getD l (r+0) (0:Int)))),Zi (It.num (It.int (List.getD l (r+0) (0:Int)))),.aH 1 0 fun i x=>Zb (It.fb (It.int (List.getD l (r+0) (0:Int))) i),.aH 4 0 (It.row (It.int (List.getD l (r+0) (0:Int))))] k]) [] (It.av (be l)) [])))))
  (by kernel_rfl) ?_
 refine aV (fun _ hs=>hs.le (⟨.refl _,.refl _,.refl _,.refl _,trivial⟩) (by repeat' (first|exact trivial|(first|exact aJ.refl _|exact aJ.bx|exact aJ.zero|exact aJ.push rfl rfl|exact aJ.ct rfl|exact aJ.len (by omega)|exact aJ.row (by repeat' (first|exact trivial|(first|exact ay.refl _|exact aK (by omega)|exact ay.nil rfl|exact ay.of_eq (congrArg (AV.ba _ _ _) (by first|omega|(dsimp only;omega)))|exact ay.of_eq (congrArg (AV.int _) (by first|omega|(dsimp only;omega))))|refine And.intro ?_ ?_)))|refine And.intro ?_ ?_))) (fun x0=>?_)
 try (have q0:=x0.2;dsimp only at q0)
 refine aL (fun h1=>?_) (fun h1=>?_)
 ·have g1:=af h1
  refine aD (by omega) ?_
  refine aD (by omega) ?_
  exact aN (⟨x0.1+1,by omega⟩) (fun _ hs=>hs.le (⟨.refl _,.refl _,.refl _,aK (by omega),trivial⟩) (⟨.refl _,.refl _,pQ rfl rfl,trivial⟩)) (by dsimp only;omega)
 ·have g1:=aa h1
  exact aq (pn (by omega))
theorem nB (s:ByteArray) (h:Nat→Int) (bK:Int) (hc:0≤bK∧bK<1000) (hl:eE s=true) (hb:cS h 32) (l:List Int) (hn:l.length≤100) :
  Pure Tryz.prog aZ 293 [.agg (bf h++[.int .i64 bK]),.str s,il .i64 l] (.aX [.agg (bf (jL h s (be l))++[.int .i64 (bK+1)]),.int .i64 0]):=by
 have c1:=zK l (by omega)
 have c2:=rr s h bK hc hl hb (be l) (yM l hn) (be l).kind (be l).num (be l).nb (be l).nl (be l).fb (be l).row (fun k hk=>ay.refl _)
 refine ar (own:=bq) Tryz.func293 (by kernel_rfl) mixed (by kernel_rfl)
  (let y0:AV:=(.aX [.agg (bf (jL h s (be l))++[Zi (bK+1)]),Zi 0]);(.dc true 329 [.aH 1 (List.length l) fun i x=>Zi (List.getD l i (0:Int))] (It.av (be l)) (.sc true 328 [.agg (bf h++[Zi bK]),AV.str s,.agg [Zi (It.kind (be l)),Zi (It.num (be l)),.aH 1 0 fun i x=>Zb (It.fb (be l) i),.aH 4 (It.nl (be l)) (It.row (be l))]] y0 (.out y0 [] y0 []))))
  (by kernel_rfl) ?_
 refine b9 (c1) ?_
 refine aM (c2) ?_
 exact aq (ay.refl _)
theorem K6 (G:bN) (c:Int):Pure Tryz.prog aZ 303 [G.av,.int .i64 c] (.bool (bL G c)):=by
 refine ar (own:=bq) Tryz.func303 (by kernel_rfl) mixed (by kernel_rfl)
  (.out (.bool (decide (c≥0)&&decide (c<G.2))) [] (.bool (bL G c)) [])
  (by kernel_rfl) ?_
 exact aq (ay.of_eq rfl)
theorem G4 (G:bN) (b:Int) (hw:G.W):Pure Tryz.prog aZ 269 [G.av,.int .i64 b] (.bool (b != 1&&(bo G&&aO G b))):=by
 have c1:=en G b hw
 refine ar (own:=bq) Tryz.func269 (by kernel_rfl) mixed (by kernel_rfl)
  (let y0:AV:=(.bool (b != 1&&(bo G&&aO G b)));(.sc ((b != 1)==true) 81 [.agg [Zi G.1,Zi G.2,Zi G.3],Zi b] (.bool (bo G&&aO G b)) (.out y0 [] y0 [])))
  (by kernel_rfl) ?_
 refine aW (fun h0=>c1) ?_
 exact aq (ay.of_eq rfl)
theorem Ax (G:bN) (p:Pf) (hw:G.W):Pure Tryz.prog aZ 270 [G.av,.agg p.cells] (.bool (decide ((p.na:Int)=1)&&(bo G&&aO G (p.a 0))&&bL G p.c&&decide ((p.nz:Int)=1)&&bL G (p.z 0))):=by
 have c1:=en G (p.a 0) hw
 have c2:=K6 G
 refine ar (own:=bq) Tryz.func270 (by kernel_rfl) mixed (by kernel_rfl)
  (let y0:List AV:=[Zi G.1,Zi G.2,Zi G.3];(.bj ((((p.1:Int)==1)==true)=true→(0:Int)≤0∧(0:Int)<(p.1:Int)) (.sc (((p.1:Int)==1)==true) 81 [.agg y0,Zi (p.2 0)] (.bool (bo G&&aO G (Pf.a p 0))) (.sc (((p.1:Int)==1&&(bo G&&aO G (p.2 0)))==true) 303 [.agg y0,Zi p.3] (.bool (bL G p.3)) (.bj ((((p.1:Int)==1&&(bo G&&aO G (p.2 0))&&bL G p.3&&(p.4:Int)==1)==true)=true→(0:Int)≤0∧(0:Int)<(p.4:Int)) (.sc (((p.1:Int)==1&&(bo G&&aO G (p.2 0))&&bL G p.3&&(p.4:Int)==1)==true) 303 [.agg y0,Zi (p.5 0)] (.bool (bL G (p.5 0))) (.out (.bool ((p.1:Int)==1&&(bo G&&aO G (p.2 0))&&bL G p.3&&(p.4:Int)==1&&bL G (p.5 0))) [] (.bool (decide ((↑(Pf.na p):Int)=(1:Int))&&(bo G&&aO G (Pf.a p 0))&&bL G (Pf.c p)&&decide ((↑(Pf.nz p):Int)=(1:Int))&&bL G (Pf.z p 0))) [])))))))
  (by kernel_rfl) ?_
 refine aD (fun hr=>by have hr:=(cQ ai) hr;omega) ?_
 refine aW (fun h1=>c1) ?_
 refine aW (fun h2=>c2 (p.3)) ?_
 refine aD (fun hr=>by have hr:=(cQ (ah (ah (ah ai (ah aB aB)) aB) ai)) hr;omega) ?_
 refine aW (fun h4=>c2 (p.5 (0))) ?_
 exact aq (ay.of_eq rfl)
end Go.Proofs.YtpefjkpdniiaoaaGreatDoor

namespace Go.Sp
open Go.IntKind (wrap)
open Int (toNat)
open Go Go.Am
theorem N0 {G:bN} (h:G.Ok):bo G=true:=bp.2 h
theorem bO {G:bN} {x:Int} (h:bL G x=true):0≤x∧x<G.q:=kh.1 h
structure OU (G : bN) (p : Pf) : Prop where
  na : p.na = 1
  nz : p.nz = 1
  a : aO G (p.a 0) = true
  c : 0 ≤ p.c ∧ p.c < G.q
  z : 0 ≤ p.z 0 ∧ p.z 0 < G.q
theorem eU {x:Bool} (h:x=true→False):x=false:=by cases e:x with|false=>rfl|true=>exact (h e).elim
structure Fq (G : bN) (b y : Int) (p : Pf) : Prop where
  vg : bo G = true
  b1 : b ≠ 1
  eb : aO G b = true
  ey : aO G y = true
  na : p.na = 1
  nz : p.nz = 1
  a : aO G (p.a 0) = true
  c : bL G p.c = true
  z : bL G (p.z 0) = true
theorem rp {G:bN} {b y:Int} {p:Pf} (h:ka G b y p=true):Fq G b y p:=by
 simp only [ka,oy,pT,bV,Bool.and_eq_true,bne_iff_ne] at h
 exact ⟨h.1.1.1.1,h.1.1.1.2.1,h.1.1.1.2.2,h.1.1.2,Nat.eq_of_beq_eq_true h.1.2.1.1.1.1,Nat.eq_of_beq_eq_true h.1.2.1.1.1.2,h.1.2.1.1.2,h.1.2.1.2,h.1.2.2⟩
theorem HW {G:bN} {b y:Int} {p:Pf} (h:Fq G b y p):ka G b y p=(b^(p.z 0).toNat%G.p==p.a 0*(y^p.c.toNat%G.p)%G.p):=by
 unfold ka oy pT bV
 rw [h.vg,h.eb,h.ey,h.na,h.nz,h.a,h.c,h.z,bne_iff_ne.2 h.b1];rfl
theorem lP {G:bN} {b y:Int} {p:Pf} (g:((bo G=true∧(¬b=1∧(bo G=true∧aO G b=true)))∧(bo G=true∧aO G y=true))∧(((((p.na:Int)=1∧(bo G=true∧aO G (p.a 0)=true))∧bL G p.c=true)∧(p.nz:Int)=1)∧bL G (p.z 0)=true)):Fq G b y p :=
 ⟨g.1.1.1,g.1.1.2.1,g.1.1.2.2.2,g.1.2.2,by have:=g.2.1.1.1.1;omega,by have:=g.2.1.2;omega,g.2.1.1.1.2.2,g.2.1.1.2,g.2.2⟩
theorem Ju {G:bN} {b y:Int} {p:Pf} (h:oy G b y=false∨pT G p=false):ka G b y p=false:=by
 unfold ka
 rcases h with h|h<;>rw [h]<;>simp
theorem th {G:bN} {b y:Int}:oy G b y=true↔bo G=true∧(b≠1∧aO G b=true)∧aO G y=true:=by
 simp [oy,bV,and_assoc]
def tV (G:bN) (b y:Int):Int:=if bo G=true then (if oy G b y=true then 0 else 2) else 1
theorem Nu {G:bN} {b y:Int} (h:bo G=false):tV G b y=1:=if_neg (by rw [h];decide)
theorem MI {G:bN} {b y:Int} (h:bo G=true) (k:oy G b y=false):tV G b y=2:=by unfold tV;rw [if_pos h,if_neg (by rw [k];decide)]
theorem HY {G:bN} {b y:Int} (k:oy G b y=true):tV G b y=0:=by unfold tV;rw [if_pos (th.1 k).1,if_pos k]
theorem Ia {G:bN} {b y:Int} (h:tV G b y=0):oy G b y=true:=by
 unfold tV at h
 split at h
 ·split at h
  ·assumption
  ·cases h
 ·cases h
theorem ig {G:bN} {b y:Int} {p:Pf} (h:tV G b y=0) (k:pT G p=true):Fq G b y p:=by
 have h:=th.1 (Ia h)
 simp only [pT,Bool.and_eq_true] at k
 exact ⟨h.1,h.2.1.1,h.2.1.2,h.2.2,Nat.eq_of_beq_eq_true k.1.1.1.1,Nat.eq_of_beq_eq_true k.1.1.1.2,k.1.1.2,k.1.2,k.2⟩
theorem Jf {G:bN} {b y:Int} {p:Pf} (g:¬tV G b y=0∨pT G p=false):ka G b y p=false:=by
 refine Ju (g.imp (fun g=>eU fun h=>g (HY h)) id)
theorem Ov {p:Pf} {x y z:Bool}:(decide ((p.na:Int)=1)&&decide ((p.nz:Int)=1)&&x&&y&&z)=(Nat.beq p.na 1&&Nat.beq p.nz 1&&x&&y&&z):=by
 have e1:decide ((p.na:Int)=1)=Nat.beq p.na 1:=by
  cases e:Nat.beq p.na 1 with
  | true=>have:=Nat.eq_of_beq_eq_true e;exact decide_eq_true (by omega)
  | false=>exact decide_eq_false fun h=>by rw [show p.na=1 by omega] at e;cases e
 have e2:decide ((p.nz:Int)=1)=Nat.beq p.nz 1:=by
  cases e:Nat.beq p.nz 1 with
  | true=>have:=Nat.eq_of_beq_eq_true e;exact decide_eq_true (by omega)
  | false=>exact decide_eq_false fun h=>by rw [show p.nz=1 by omega] at e;cases e
 rw [e1,e2]
theorem Of {G:bN} {b y:Int} (h:bo G=true) (g:bV G b=false∨aO G y=false):tV G b y=2:=MI h (by
 unfold oy;rcases g with g|g<;>rw [g]<;>simp)
theorem Mk {G:bN} {b y:Int} (h:bo G=true) (g:bV G b=true∧aO G y=true):tV G b y=0:=HY (by
 unfold oy;rw [h,g.1,g.2];rfl)
theorem oT {b:aI} (h:b.Ok):(0≤b.gr.g∧b.gr.g<b.gr.p)∧(0≤b.g1∧b.g1<b.gr.p)∧0≤b.g2∧b.g2<b.gr.p :=
 ⟨⟨by have:=h.G.g2;omega,h.G.g1⟩,cd h.G h.e1,cd h.G h.e2⟩
def me (b:aI) (y:Int):Int:=if aT b=true then (if bV b.gr y=true then (if fE b y b.g2=1 then 10 else 0) else 2) else 1
def mW (b:aI) (y:Int):Int:=if me b y=0 then fE b y b.g2 else 0
theorem M9 {b:aI} {y:Int} (h:aT b=false):me b y=1:=if_neg (by rw [h];decide)
theorem MW {b:aI} {y:Int} (h:aT b=true) (h':bV b.gr y=false):me b y=2:=by unfold me;rw [if_pos h,if_neg (by rw [h'];decide)]
theorem L1 {b:aI} {y:Int} (h:aT b=true) (h':bV b.gr y=true) (k:fE b y b.g2=1):me b y=10:=by unfold me;rw [if_pos h,if_pos h',if_pos k]
theorem HD {b:aI} {y:Int} (h:aT b=true) (h':bV b.gr y=true) (k:¬fE b y b.g2=1):me b y=0:=by unfold me;rw [if_pos h,if_pos h',if_neg k]
theorem ss {b:aI} {y:Int}:oJ b y=true↔aT b=true∧bV b.gr y=true∧fE b y b.g2≠1:=by
 simp [oJ,and_assoc]
theorem Ek {b:aI} {y:Int}:(me b y==0)=oJ b y:=by
 cases e:oJ b y with
 | true=>obtain ⟨h1,h2,h3⟩:=ss.1 e;rw [HD h1 h2 h3];rfl
 | false =>
  have hn:¬(aT b=true∧bV b.gr y=true∧fE b y b.g2≠1):=fun h=>by rw [ss.2 h] at e;cases e
  have:me b y≠0:=fun h=>by
   unfold me at h
   split at h
   ·split at h
    ·split at h
     ·cases h
     ·exact hn ⟨by assumption,by assumption,by assumption⟩
    ·cases h
   ·cases h
  exact beq_eq_false_iff_ne.2 this
theorem oL {G:bN} {x:Int}:bV G x=true↔x≠1∧aO G x=true:=by simp [bV]
theorem NZ {G:bN} {x:Int} (h:x=1∨aO G x=false):bV G x=false:=by
 unfold bV;rcases h with h|h<;>simp [h]
theorem Jc {G:bN} {x:Int} (hG:bo G=true) (h:x=1∨(bo G=false∨aO G x=false)):bV G x=false :=
 NZ (h.imp id fun h=>h.elim (fun h=>by rw [hG] at h;cases h) id)
theorem OE {b:aI} {y:Int} (h:aT b=false):AV.aX [.int .i64 0,.int .i64 1]=.aX [.int .i64 (mW b y),.int .i64 (me b y)]:=by
 rw [mW,M9 h];rfl
theorem OI {b:aI} {y:Int} (h:aT b=true) (g:y=1∨(bo b.gr=false∨aO b.gr y=false)):AV.aX [.int .i64 0,.int .i64 2]=.aX [.int .i64 (mW b y),.int .i64 (me b y)]:=by
 rw [mW,MW h (Jc (N0 (bH.1 h).G) g)];rfl
theorem Ox {b:aI} {y:Int} (h:aT b=true) (g:¬y=1∧(bo b.gr=true∧aO b.gr y=true)) (k:y*b.g2%b.gr.p=1):AV.aX [.int .i64 0,.int .i64 10]=.aX [.int .i64 (mW b y),.int .i64 (me b y)]:=by
 rw [mW,L1 h (oL.2 ⟨g.1,g.2.2⟩) k];rfl
theorem OP {b:aI} {y:Int} (h:aT b=true) (g:¬y=1∧(bo b.gr=true∧aO b.gr y=true)) (k:¬y*b.g2%b.gr.p=1):AV.aX [.int .i64 (y*b.g2%b.gr.p),.int .i64 0]=.aX [.int .i64 (mW b y),.int .i64 (me b y)]:=by
 rw [mW,HD h (oL.2 ⟨g.1,g.2.2⟩) k];rfl
end Go.Sp

namespace Go.Proofs.YtpefjkpdniiaoaaGreatDoor
open Go.IntKind (wrap)
open Int (toNat)
open Go Go.Am Go.Sp
set_option maxRecDepth 100000
theorem B6 (G:bN) (b y:Int) (p:Pf) (hw:G.W):Pure Tryz.prog aZ 225 [G.av,.int .i64 b,.int .i64 y,.agg p.cells] (.bool (ka G b y p)):=by
 have c1:=ks G hw
 have c2:=G4 G b hw
 have c3:=en G y hw
 have c4:=Ax G p hw
 have c5:=fun x e h hx he=>nO G x e h hw hx he
 have c6:=fun x z h hx hz=>px G x z h hw hx hz
 refine ar (own:=bq) Tryz.func225 (by kernel_rfl) mixed (by kernel_rfl)
  (let y0:List AV:=[Zi G.1,Zi G.2,Zi G.3];(.sc true 80 [.agg y0] (.bool (bo G)) (.sc ((!bo G)==false) 269 [.agg y0,Zi b] (.bool (b != 1&&(bo G&&aO G b))) (.sc ((!bo G || !(b != 1&&(bo G&&aO G b)))==false) 81 [.agg y0,Zi y] (.bool (bo G&&aO G y)) (.sc ((!bo G || !(b != 1&&(bo G&&aO G b)) || !(bo G&&aO G y))==false) 270 [.agg y0,.agg [.aH 1 p.1 fun i x=>Zi (p.2 i),Zi p.3,.aH 1 p.4 fun i x=>Zi (p.5 i)]] (.bool (decide ((↑(Pf.na p):Int)=(1:Int))&&(bo G&&aO G (Pf.a p 0))&&bL G (Pf.c p)&&decide ((↑(Pf.nz p):Int)=(1:Int))&&bL G (Pf.z p 0))) (.br (!bo G || !(b != 1&&(bo G&&aO G b)) || !(bo G&&aO G y) || !(decide ((p.1:Int)=(1:Int))&&(bo G&&aO G (p.2 0))&&bL G p.3&&decide ((p.4:Int)=(1:Int))&&bL G (p.5 0))) (.out (.bool false) [] (.bool (ka G b y p)) []) (.bj ((0:Int)≤0∧(0:Int)<(p.4:Int)) (.sc true 95 [.agg y0,Zi b,Zi (p.5 0)] (.aX [Zi (b^toNat (p.5 0)%bN.p G),Zi 0]) (.sc true 95 [.agg y0,Zi y,Zi p.3] (.aX [Zi (y^toNat p.3%bN.p G),Zi 0]) (.bj ((0:Int)≤0∧(0:Int)<(p.1:Int)) (.sc true 185 [.agg y0,Zi (p.2 0),Zi (y^toNat p.3%G.1)] (.aX [Zi (p.2 0*(y^toNat p.3%G.1)%bN.p G),Zi 0]) (.out (.bool (b^toNat (p.5 0)%G.1==p.2 0*(y^toNat p.3%G.1)%G.1)) [] (.bool (ka G b y p)) []))))))))))))
  (by kernel_rfl) ?_
 refine aM (c1) ?_
 refine aW (fun h1=>c2) ?_
 refine aW (fun h2=>c3) ?_
 refine aW (fun h3=>c4) ?_
 refine aL (fun h4=>?_) (fun h4=>?_)
 ·have g4:=(aA (aA (aA (aC aF) (aC (ao aR (ao aF aF)))) (aC (ao aF aF))) (aC (ao (ao (ao (ao aa (ao aF aF)) aF) aa) aF))) h4
  exact aq (ay.of_eq (congrArg AV.bool (eU fun h=>by have k:=rp h;have k1:=k.1;have k2:=k.2;have k3:=k.3;have k4:=k.4;have k5:=k.5;have k6:=k.6;have k7:=k.7;have k8:=k.8;have k9:=k.9;grind).symm))
 ·have g4:=(aw (aw (aw (az aB) (az (ah aU (ah aB aB)))) (az (ah aB aB))) (az (ah (ah (ah (ah af (ah aB aB)) aB) af) aB))) h4
  refine aD (by omega) ?_
  refine aM (c5 (b) (p.5 (0)) (by have k:=lP g4;first|exact bp.1 k.vg|exact k.eb|exact k.ey|exact k.a|exact bO k.z|exact bO k.c|exact dJ (bp.1 k.vg) k.ey _) (by have k:=lP g4;first|exact bp.1 k.vg|exact k.eb|exact k.ey|exact k.a|exact bO k.z|exact bO k.c|exact dJ (bp.1 k.vg) k.ey _) (by have k:=lP g4;first|exact bp.1 k.vg|exact k.eb|exact k.ey|exact k.a|exact bO k.z|exact bO k.c|exact dJ (bp.1 k.vg) k.ey _)) ?_
  refine aM (c5 (y) (p.3) (by have k:=lP g4;first|exact bp.1 k.vg|exact k.eb|exact k.ey|exact k.a|exact bO k.z|exact bO k.c|exact dJ (bp.1 k.vg) k.ey _) (by have k:=lP g4;first|exact bp.1 k.vg|exact k.eb|exact k.ey|exact k.a|exact bO k.z|exact bO k.c|exact dJ (bp.1 k.vg) k.ey _) (by have k:=lP g4;first|exact bp.1 k.vg|exact k.eb|exact k.ey|exact k.a|exact bO k.z|exact bO k.c|exact dJ (bp.1 k.vg) k.ey _)) ?_
  refine aD (by omega) ?_
  refine aM (c6 (p.2 (0)) (y^toNat p.3%G.1) (by have k:=lP g4;first|exact bp.1 k.vg|exact k.eb|exact k.ey|exact k.a|exact bO k.z|exact bO k.c|exact dJ (bp.1 k.vg) k.ey _) (by have k:=lP g4;first|exact bp.1 k.vg|exact k.eb|exact k.ey|exact k.a|exact bO k.z|exact bO k.c|exact dJ (bp.1 k.vg) k.ey _) (by have k:=lP g4;first|exact bp.1 k.vg|exact k.eb|exact k.ey|exact k.a|exact bO k.z|exact bO k.c|exact dJ (bp.1 k.vg) k.ey _)) ?_
  exact aq (ay.of_eq (congrArg AV.bool (HW (lP g4)).symm))
def owQ (n:Nat):FuncId→Option (List Bool):=fun f=>bif Nat.beq f 999999999 then some (List.replicate n true) else none
theorem NK (s:ByteArray) (h:Nat→Int) (bK:Int) (hc:0≤bK∧bK<1000) (hl:eE s=true) (hb:cS h 32) (x y z:Int) :
  Pure Tryz.prog aZ 272 [.agg (bf h++[.int .i64 bK]),.str s,.aH 1 3 fun r k=>aQ (List.getD [[.int .i64 x],[.int .i64 y],[.int .i64 z]] r []) k] (.aX [.agg (bf (jL h s (be [x,y,z]))++[.int .i64 (bK+1)]),.int .i64 0]) :=
 (sE s h bK hc hl hb [x,y,z] (Nat.le_of_ble_eq_true rfl)).via ⟨ay.refl _,ay.refl _,eN rfl rfl,trivial⟩
theorem Ng (s:ByteArray) (h:Nat→Int) (bK:Int) (hc:0≤bK∧bK<1000) (hl:eE s=true) (hb:cS h 32) (x y:Int) :
  Pure Tryz.prog aZ 272 [.agg (bf h++[.int .i64 bK]),.str s,.aH 1 2 fun r k=>aQ (List.getD [[.int .i64 x],[.int .i64 y]] r []) k] (.aX [.agg (bf (jL h s (be [x,y]))++[.int .i64 (bK+1)]),.int .i64 0]) :=
 (sE s h bK hc hl hb [x,y] (Nat.le_of_ble_eq_true rfl)).via ⟨ay.refl _,ay.refl _,eN rfl rfl,trivial⟩
theorem Om (s:ByteArray) (h:Nat→Int) (bK:Int) (hc:0≤bK∧bK<1000) (hl:eE s=true) (hb:cS h 32) (x:Int) :
  Pure Tryz.prog aZ 272 [.agg (bf h++[.int .i64 bK]),.str s,.aH 1 1 fun r k=>aQ (List.getD [[.int .i64 x]] r []) k] (.aX [.agg (bf (jL h s (be [x]))++[.int .i64 (bK+1)]),.int .i64 0]) :=
 (sE s h bK hc hl hb [x] (Nat.le_of_ble_eq_true rfl)).via ⟨ay.refl _,ay.refl _,eN rfl rfl,trivial⟩
theorem E5 (G:bN) (b y a:Int) (s:ByteArray) (N A B C:Nat→Int) (c:Int)
  (c1:Pure Tryz.prog aZ 271 [.str s] (.aX [.agg (bf N++[.int .i64 0]),.int .i64 0]))
  (c2:Pure Tryz.prog aZ 272 [.agg (bf N++[.int .i64 0]),.str "group".toUTF8,.aH 1 3 fun r k=>aQ (List.getD [[.int .i64 G.p],[.int .i64 G.q],[.int .i64 G.g]] r []) k] (.aX [.agg (bf A++[.int .i64 1]),.int .i64 0]))
  (c3:Pure Tryz.prog aZ 272 [.agg (bf A++[.int .i64 1]),.str "statement".toUTF8,.aH 1 2 fun r k=>aQ (List.getD [[.int .i64 b],[.int .i64 y]] r []) k] (.aX [.agg (bf B++[.int .i64 2]),.int .i64 0]))
  (c4:Pure Tryz.prog aZ 272 [.agg (bf B++[.int .i64 2]),.str "commitment".toUTF8,.aH 1 1 fun r k=>aQ (List.getD [[.int .i64 a]] r []) k] (.aX [.agg (bf C++[.int .i64 3]),.int .i64 0]))
  (D:Nat→Int) (c5:Pure Tryz.prog aZ 273 [.agg (bf C++[.int .i64 3]),.str "challenge".toUTF8,.int .i64 G.q] (.aX [.agg (bf D++[.int .i64 4]),.int .i64 c,.int .i64 0])) :
  Pure Tryz.prog aZ 226 [G.av,.int .i64 b,.int .i64 y,.int .i64 a,.str s] (.aX [.int .i64 c,.int .i64 0]):=by
 refine ar (own:=(owQ 4)) Tryz.func226 (by kernel_rfl) mixed (by kernel_rfl)
  (.sc true 271 [AV.str s] (.aX [.agg (bf N++[Zi 0]),Zi 0]) (.ff (.tt (.bj ((0:Int)≤0∧(0:Int)<3) (.sc true 272 [.agg (bf N++[Zi 0]),AV.str { data := #[(103:UInt8),114,111,117,112] },.aH 1 3 fun r k=>aQ (List.getD [[Zi G.1],[Zi G.2],[Zi G.3]] (r+0) []) k] (.aX [.agg (bf A++[Zi 1]),Zi 0]) (.ff (.tt (.bj ((0:Int)≤wrap .i64 ((0:Int)+1)∧wrap .i64 ((0:Int)+1)<3) (.sc true 272 [.agg (bf A++[Zi 1]),AV.str { data := #[(115:UInt8),116,97,116,101,109,101,110,116] },.aH 1 2 fun r k=>aQ (List.getD [[Zi b],[Zi y]] (r+0) []) k] (.aX [.agg (bf B++[Zi 2]),Zi 0]) (.ff (.tt (.bj ((0:Int)≤wrap .i64 (wrap .i64 ((0:Int)+1)+1)∧wrap .i64 (wrap .i64 ((0:Int)+1)+1)<3) (.sc true 272 [.agg (bf B++[Zi 2]),AV.str { data := #[(99:UInt8),111,109,109,105,116,109,101,110,116] },.aH 1 1 fun r k=>aQ (List.getD [[Zi a]] (r+0) []) k] (.aX [.agg (bf C++[Zi 3]),Zi 0]) (.ff (.ff (.sc true 273 [.agg (bf C++[Zi 3]),AV.str { data := #[(99:UInt8),104,97,108,108,101,110,103,101] },Zi G.2] (.aX [.agg (bf D++[Zi 4]),Zi c,Zi 0]) (.out (.aX [Zi c,Zi 0]) [] (.aX [Zi c,Zi 0]) [])))))))))))))))))
  (by kernel_rfl) ?_
 refine aM (c1) ?_
 refine cz ?_
 refine gp ?_
 refine aD (by omega) ?_
 refine aM (c2) ?_
 refine cz ?_
 refine gp ?_
 refine aD (by decide +kernel) ?_
 refine aM (c3) ?_
 refine cz ?_
 refine gp ?_
 refine aD (by decide +kernel) ?_
 refine aM (c4) ?_
 refine cz ?_
 refine cz ?_
 refine aM (c5) ?_
 exact aq (ay.of_eq rfl)
theorem FJ (G:bN) (b y a:Int) (s:ByteArray) (hl:eE s=true) (hG:G.Ok) :
  Pure Tryz.prog aZ 226 [G.av,.int .i64 b,.int .i64 y,.int .i64 a,.str s] (.aX [.int .i64 (xB G b y a s),.int .i64 0]) :=
 E5 G b y a s _ _ _ _ _ (Jt s hl) (NK "group".toUTF8 _ 0 (by decide) (by decide +kernel) (yf s) ..) (Ng "statement".toUTF8 _ 1 (by decide) (by decide +kernel) (lB _ _ _) ..)
  (Om "commitment".toUTF8 _ 2 (by decide) (by decide +kernel) (lB _ _ _) ..) _ (Hd "challenge".toUTF8 _ 3 (by decide) (by decide +kernel) (lB _ _ _) G.q ⟨by have:=hG.q3;omega,by have:=hG.qp;have:=hG.p1;omega⟩)
theorem IT (G:bN) (b y:Int) (s:ByteArray) (p:Pf) (hl:eE s=true) (hw:G.W):Pure Tryz.prog aZ 155 [G.av,.int .i64 b,.int .i64 y,.str s,.agg p.cells] (.bool (m5 G b y s p)):=by
 have c1:=B6 G b y p hw
 have c2:=fun hG=>FJ G b y (p.a 0) s hl hG
 refine ar (own:=bq) Tryz.func155 (by kernel_rfl) mixed (by kernel_rfl)
  (.sc true 225 [.agg [Zi G.1,Zi G.2,Zi G.3],Zi b,Zi y,.agg [.aH 1 p.1 fun i x=>Zi (p.2 i),Zi p.3,.aH 1 p.4 fun i x=>Zi (p.5 i)]] (.bool (ka G b y p)) (.br (!ka G b y p) (.out (.bool false) [] (.bool (m5 G b y s p)) []) (.bj ((0:Int)≤0∧(0:Int)<(p.1:Int)) (.sc true 226 [.agg [Zi G.1,Zi G.2,Zi G.3],Zi b,Zi y,Zi (p.2 0),AV.str s] (.aX [Zi (xB G b y (Pf.a p 0) s),Zi 0]) (.out (.bool (xB G b y (p.2 0) s==p.3)) [] (.bool (m5 G b y s p)) [])))))
  (by kernel_rfl) ?_
 refine aM (c1) ?_
 refine aL (fun h1=>?_) (fun h1=>?_)
 ·have g1:=(aC aF) h1
  exact aq (ay.of_eq (congrArg AV.bool (by unfold m5;rw [g1];rfl)))
 ·have g1:=(az aB) h1
  refine aD (by have:=(rp g1).na;omega) ?_
  refine aM (c2 (bp.1 (rp g1).vg)) ?_
  exact aq (ay.of_eq (congrArg AV.bool (by unfold m5;rw [g1];rfl)))
theorem KU (n:Nat) (h0:0<n) (hn:n≤1000):bI Tryz.prog aZ 342 [] [.bn,.int .i64 n] (.ba 0 1 0 0) [some ⟨1,n,true,.fn fun _ _=>.int .u8 0⟩]:=by
 have hw:=I7 hn
 refine cg (own:=bq) (hand:=true) Tryz.func342 (by kernel_rfl) mixed (by kernel_rfl)
  (let y0:List (Option Ob):=[some ⟨1,n,true,.fn fun x x_1=>Zb 0⟩];(.br (decide ((n:Int)<0)) .no (.br (decide (wrap .i64 ((n:Int) - wrap .i64 ((0:Int) - 0))>0)) (.bj ((0:Int)≤0∧(0:Int)≤0) (.bj ((0:Int)<wrap .i64 ((n:Int) - wrap .i64 ((0:Int) - 0))∧wrap .i64 ((n:Int) - wrap .i64 ((0:Int) - 0))*1≤140737488355328) (.bj ((0:Int)≤0∧0≤(↑(toNat (wrap .i64 ((n:Int) - wrap .i64 ((0:Int) - 0)))):Int)) (.out (.ba 0 1 0 0) [some ⟨1,toNat (wrap .i64 ((n:Int) - wrap .i64 ((0:Int) - 0))),true,.fn fun i j=>Zb (aE (aQ (cq (Value.int IntKind.u8 (0:Int))) j))⟩] (.ba 0 1 0 0) (y0))))) (.out (.bn) [] (.ba 0 1 0 0) (y0)))))
  (by kernel_rfl) ?_
 refine aL (fun h0=>?_) (fun h0=>?_)
 ·have g0:=af h0
  exact (show False from (by exfalso;omega))
 ·have g0:=aa h0
  refine aL (fun h2=>?_) (fun h2=>?_)
  ·have g2:=af h2
   refine aD (by omega) ?_
   refine aD (by omega) ?_
   refine aD (by omega) ?_
   exact da (by exact ay.refl _) (by exact ⟨⟨rfl,by show toNat _=n;rw [hw];rfl,rfl,fun i j _ hj=>ay.of_eq (Gr hj)⟩,trivial⟩)
  ·have g2:=aa h2
   exact da (by (exfalso;rw [hw] at g2;omega)) (by (exfalso;rw [hw] at g2;omega))
def ow6:FuncId→Option (List Bool):=fun f=>bif Nat.beq f 342 then some [false,false] else none
theorem Ec (l r:Nat→Int):Pure Tryz.prog aZ 319 [.aH 1 2 fun i _=>.aH 1 32 fun k _=>.int .u8 (nG l r i k)] (dC 64 (fC l r)):=by
 refine ar (own:=ow6) Tryz.func319 (by kernel_rfl) mixed (by kernel_rfl)
  (let y0:=(fun (x:{ x:Nat // x≤2 })=>aY [25,26,6,27] [.aH 1 2 fun i x=>.aH 1 32 fun k x=>Zb (nG l r i k),Zi 2,.ba 0 1 0 (32*x.1),Zi x.1] [some ⟨1,bif Nat.beq (x.1) 0 then 64 else 32*x.1,true,.fn fun i x_1=>Zb (qZ l r (x.1) i)⟩]);let y1:=(fun (x:{ x:Nat // x≤2 })=>aY [0,9,10,3,11] [.aH 1 2 fun i x=>.aH 1 32 fun k x=>Zb (nG l r i k),.aH 1 2 fun i x=>.aH 1 32 fun k x=>Zb (nG l r i k),Zi 2,Zi (↑(32*x.1):Int),Zi x.1] []);let y2:=(fun (x:{ x:Nat // x≤2 })=>2 - x.1);(.loop ({ x:Nat // x≤2 }) y1 y2 (⟨0,Nat.zero_le 2⟩) [0,9,10,3,11] [] [.aH 1 2 fun i x=>.aH 1 32 fun k x=>Zb (nG l r i k),.aH 1 2 fun i x=>.aH 1 32 fun k x=>Zb (nG l r i k),Zi 2,Zi 0,Zi 0] [] (fun x0=>(.br (decide ((x0.1:Int)<2)) (.bj (0≤(x0.1:Int)∧(x0.1:Int)<2) (.br (decide (wrap .i64 ((↑(32*x0.1):Int)+32)<0)) .no (.again (bh 0 y1 y2 x0) [0,9,10,3,11] [] [.aH 1 2 fun i x=>.aH 1 32 fun k x=>Zb (nG l r i k),.aH 1 2 fun i x=>.aH 1 32 fun k x=>Zb (nG l r i k),Zi 2,Zi (wrap .i64 ((↑(32*x0.1):Int)+32)),Zi (wrap .i64 ((x0.1:Int)+1))] []))) (.gc 342 [] [.bn,Zi (↑(32*x0.1):Int)] (.ba 0 1 0 0) [some ⟨1,32*x0.1,true,.fn fun x x_1=>Zb 0⟩] (.loop ({ x:Nat // x≤2 }) y0 y2 (⟨0,Nat.zero_le 2⟩) [25,26,6,27] [16] [.aH 1 2 fun i x=>.aH 1 32 fun k x=>Zb (nG l r i k),Zi 2,.ba 0 1 0 0,Zi 0] [some ⟨1,32*x0.1,true,.fn fun i j=>Zb 0⟩] (fun x7=>(.br (decide ((x7.1:Int)<2)) (.bj (0≤(x7.1:Int)∧(x7.1:Int)<2) (.bj ((32*x7.1+32)*1≤140737488355328) (.again (bh 0 y0 y2 x7) [25,26,6,27] [49] [.aH 1 2 fun i x=>.aH 1 32 fun k x=>Zb (nG l r i k),Zi 2,.ba 0 1 0 (32*x7.1+32),Zi (wrap .i64 ((x7.1:Int)+1))] [some ⟨1,32*x7.1+32,true,.fn fun i j=>Zb (bif Nat.blt i (32*x7.1) then qZ l r x7.1 i else nG l r (toNat (x7.1:Int)) (i - 32*x7.1))⟩]))) (.out (.aH 1 (32*x7.1) fun r_1 k=>Zb (qZ l r x7.1 (r_1+0))) [] (dC 64 (fC l r)) [])))))))))
  (by kernel_rfl) ?_
 refine aV (fun _ hs=>hs.le (by repeat' (first|exact trivial|(first|exact ay.refl _|exact aK (by omega)|exact ay.nil rfl|exact ay.of_eq (congrArg (AV.ba _ _ _) (by first|omega|(dsimp only;omega)))|exact ay.of_eq (congrArg (AV.int _) (by first|omega|(dsimp only;omega))))|refine And.intro ?_ ?_)) (trivial)) (fun x0=>?_)
 try (have q0:=x0.2;dsimp only at q0)
 refine aL (fun h1=>?_) (fun h1=>?_)
 ·have g1:=af h1
  refine aD (by omega) ?_
  refine aL (fun h3=>?_) (fun h3=>?_)
  ·have g3:=af h3
   exact (show False from (by exfalso;rw [wI (by omega) (by omega)] at g3;omega))
  ·have g3:=aa h3
   exact aN (⟨x0.1+1,by omega⟩) (fun _ hs=>hs.le (by repeat' (first|exact trivial|(first|exact ay.refl _|exact aK (by omega)|exact ay.nil rfl|exact ay.of_eq (congrArg (AV.ba _ _ _) (by first|omega|(dsimp only;omega)))|exact ay.of_eq (congrArg (AV.int _) (by first|omega|(dsimp only;omega))))|refine And.intro ?_ ?_)) (trivial)) (by (dsimp only;omega))
 ·have g1:=aa h1
  refine gZ (KU (32*x0.1) (by omega) (by omega)) ?_
  refine aV (fun _ hs=>hs.le (by repeat' (first|exact trivial|(first|exact ay.refl _|exact aK (by omega)|exact ay.nil rfl|exact ay.of_eq (congrArg (AV.ba _ _ _) (by first|omega|(dsimp only;omega)))|exact ay.of_eq (congrArg (AV.int _) (by first|omega|(dsimp only;omega))))|refine And.intro ?_ ?_)) (by exact ⟨⟨rfl,by show 32*x0.1=64;omega,rfl,fun i j _ _=>ay.refl _⟩,trivial⟩)) (fun x7=>?_)
  try (have q7:=x7.2;dsimp only at q7)
  refine aL (fun h8=>?_) (fun h8=>?_)
  ·have g8:=af h8
   refine aD (by omega) ?_
   refine aD (by omega) ?_
   exact aN (⟨x7.1+1,by omega⟩) (fun _ hs=>hs.le (by repeat' (first|exact trivial|(first|exact ay.refl _|exact aK (by omega)|exact ay.nil rfl|exact ay.of_eq (congrArg (AV.ba _ _ _) (by first|omega|(dsimp only;omega)))|exact ay.of_eq (congrArg (AV.int _) (by first|omega|(dsimp only;omega))))|refine And.intro ?_ ?_)) (by exact ⟨⟨rfl,rfl,rfl,fun i j hi hj=>ay.of_eq (congrArg _ (At (by omega) hi))⟩,trivial⟩)) (by (dsimp only;omega))
  ·have g8:=aa h8
   exact aq (ay.iP (by omega) (fun i j hi hj=>congrArg _ (A0 (by omega))))
theorem te (l r:Nat→Int) (hl:cS l 32) (hr:cS r 32):Pure Tryz.prog aZ 285 [.agg (bf l),.agg (bf r)] (.agg (bf (eJ l r))):=by
 have hc:=(Ec l r).via (args:=[_]) ⟨E6 (f:=fun i x=>.int .u8 (aE (aQ (bf l) (0+(0+i))))) (g:=fun i x=>.int .u8 (aE (aQ (bf r) (0+(0+i))))) (fun i hi=>by rw [Nat.zero_add,Nat.zero_add,eV hi]) (fun i hi=>by rw [Nat.zero_add,Nat.zero_add,eV hi]),trivial⟩
 have ht:=gj "specie/node".toUTF8 (by decide) (by decide) (fC l r) 64 (by decide) (D1 hl hr)
 refine ar (own:=bq) Tryz.func285 (by kernel_rfl) mixed (by kernel_rfl)
  (.dc true 319 [.aH 1 2 fun r_1 k=>aQ (List.getD [[.aH 1 32 fun r x=>Zb (aE (aQ (bf l) (0+(0+r))))],[.aH 1 32 fun r_2 x=>Zb (aE (aQ (bf r) (0+(0+r_2))))]] (r_1+0) []) k] (dC 64 (fC l r)) (.sc true 82 [AV.str { data := #[(115:UInt8),112,101,99,105,101,47,110,111,100,101] },.aH 1 64 fun i x=>Zb (fC l r i)] (.aX [.agg (bf (et (String.toUTF8 "specie/node") 64 (fC l r))),Zi 0]) (.out (.agg (bf (et (String.toUTF8 "specie/node") 64 (fC l r)))) [] (.agg (bf (eJ l r))) [])))
  (by kernel_rfl) ?_
 refine b9 (hc) ?_
 refine aM (ht) ?_
 exact aq (ay.refl _)
theorem pv (l r:Nat→Int) (hl:cS l 32) (hr:cS r 32):Pure Tryz.prog aZ 211 [.agg (bf l),.agg (bf r)] (.agg (bf (eJ l r))):=by
 refine ar (own:=bq) Tryz.func211 (by kernel_rfl) mixed (by kernel_rfl)
  (let y0:List AV:=z32;let y1:=(fun (x:{ x:Nat // x≤32 })=>aY [2,3,4,5,6] [.own 0 32 0 0 32,.own 1 32 0 0 32,.own 2 32 0 0 32,.ba 3 1 0 (x.1),Zi x.1] [some ⟨32,1,true,.bc [bf l]⟩,some ⟨32,1,true,.bc [bf r]⟩,some ⟨32,1,true,.bc [y0]⟩,some ⟨1,x.1,true,.fn fun i x=>Zb (fC l r i)⟩]);let y2:=(fun (x:{ x:Nat // x≤32 })=>aY [3,4,5,7] [.own 0 32 0 0 32,.own 1 32 0 0 32,.ba 2 1 0 (32+x.1),Zi x.1] [some ⟨32,1,true,.bc [bf r]⟩,some ⟨32,1,true,.bc [y0]⟩,some ⟨1,32+x.1,true,.fn fun i x=>Zb (fC l r i)⟩]);let y3:=(fun (x:{ x:Nat // x≤32 })=>32 - x.1);(.loop ({ x:Nat // x≤32 }) y1 y3 (⟨0,Nat.zero_le 32⟩) [2,3,4,5,6] [0,8,16,299] [.own 0 32 0 0 32,.own 1 32 0 0 32,.own 2 32 0 0 32,.bn,Zi 0] [some ⟨32,1,true,.bc [bf l]⟩,some ⟨32,1,true,.bc [bf r]⟩,some ⟨32,1,true,.bc [y0]⟩,some ⟨1,0,true,.ty (999999999:TypeId) (.bc [])⟩] (fun x0=>(.br (decide ((x0.1:Int)<32)) (.bj (0≤(x0.1:Int)∧(x0.1:Int)<32) (.bj ((x0.1+1)*1≤140737488355328) (.again (bh 0 y1 y3 x0) [2,3,4,5,6] [0,1,2,60] [.own 0 32 0 0 32,.own 1 32 0 0 32,.own 2 32 0 0 32,.ba 3 1 0 (x0.1+1),Zi (IntKind.wrap IntKind.i64 ((x0.1:Int)+1))] [some ⟨32,1,true,.bc [bf l]⟩,some ⟨32,1,true,.bc [bf r]⟩,some ⟨32,1,true,.bc [y0]⟩,some ⟨1,x0.1+1,true,.fn fun i j=>Zb (bif Nat.blt i x0.1 then fC l r i else aE (aQ [Zb (aE (bA.at (Ob.f (Ob.seen ⟨32,1,true,.bc [bf l]⟩)) 0 (0+Int.toNat (↑(x0.1):Int))))] j))⟩]))) (.loop ({ x:Nat // x≤32 }) y2 y3 (⟨0,Nat.zero_le 32⟩) [3,4,5,7] [1,2,3] [.own 0 32 0 0 32,.own 1 32 0 0 32,.ba 2 1 0 x0.1,Zi 0] [some ⟨32,1,true,.bc [bf r]⟩,some ⟨32,1,true,.bc [y0]⟩,some ⟨1,x0.1,true,.fn fun i j=>Zb (fC l r i)⟩] (fun x5=>(.br (decide ((x5.1:Int)<32)) (.bj (0≤(x5.1:Int)∧(x5.1:Int)<32) (.bj ((32+x5.1+1)*1≤140737488355328) (.again (bh 0 y2 y3 x5) [3,4,5,7] [0,1,59] [.own 0 32 0 0 32,.own 1 32 0 0 32,.ba 2 1 0 (32+x5.1+1),Zi (IntKind.wrap IntKind.i64 ((x5.1:Int)+1))] [some ⟨32,1,true,.bc [bf r]⟩,some ⟨32,1,true,.bc [y0]⟩,some ⟨1,32+x5.1+1,true,.fn fun i j=>Zb (bif Nat.blt i (32+x5.1) then fC l r i else aE (aQ [Zb (aE (bA.at (Ob.f (Ob.seen ⟨32,1,true,.bc [bf r]⟩)) 0 (0+Int.toNat (↑(x5.1):Int))))] j))⟩]))) (.sc true 205 [AV.str { data := #[(115:UInt8),112,101,99,105,101,47,110,111,100,101] },.aH 1 (32+x5.1) fun r_1 k=>Zb (fC l r (r_1+0))] (.agg (bf (et (String.toUTF8 "specie/node") (32+x5.1) (fC l r)))) (.out (.agg (bf (et (String.toUTF8 "specie/node") (32+x5.1) (fC l r)))) [] (.agg (bf (eJ l r))) [])))))))))
  (by kernel_rfl) ?_
 refine aV (fun _ hs=>hs.le (by repeat' (first|exact trivial|(first|exact ay.refl _|exact aK (by omega)|exact ay.nil rfl|exact ay.of_eq (congrArg (AV.ba _ _ _) (by first|omega|(dsimp only;omega)))|exact ay.of_eq (congrArg (AV.int _) (by first|omega|(dsimp only;omega))))|refine And.intro ?_ ?_)) (by repeat' (first|exact trivial|(first|exact aJ.refl _|exact aJ.bx|exact aJ.zero|exact aJ.push rfl rfl|exact aJ.ct rfl|exact aJ.len (by omega)|exact aJ.row (by repeat' (first|exact trivial|(first|exact ay.refl _|exact aK (by omega)|exact ay.nil rfl|exact ay.of_eq (congrArg (AV.ba _ _ _) (by first|omega|(dsimp only;omega)))|exact ay.of_eq (congrArg (AV.int _) (by first|omega|(dsimp only;omega))))|refine And.intro ?_ ?_)))|refine And.intro ?_ ?_))) (fun x0=>?_)
 try (have q0:=x0.2;dsimp only at q0)
 refine aL (fun h1=>?_) (fun h1=>?_)
 ·have g1:=af h1
  refine aD (by omega) ?_
  refine aD (by omega) ?_
  exact aN (⟨x0.1+1,by omega⟩) (fun _ hs=>hs.le (by repeat' (first|exact trivial|(first|exact ay.refl _|exact aK (by omega)|exact ay.nil rfl|exact ay.of_eq (congrArg (AV.ba _ _ _) (by first|omega|(dsimp only;omega)))|exact ay.of_eq (congrArg (AV.int _) (by first|omega|(dsimp only;omega))))|refine And.intro ?_ ?_)) (⟨by exact aJ.refl _,by exact aJ.refl _,by exact aJ.refl _,aJ.mM (F:=fC l r) (by dsimp only) (by show aE (aQ (bf l) (0+x0.1))=fC l r x0.1;rw [Nat.zero_add,eV (by omega),I3 (by omega)]),trivial⟩)) (by (dsimp only;omega))
 ·have g1:=aa h1
  refine aV (fun _ hs=>hs.le (by repeat' (first|exact trivial|(first|exact ay.refl _|exact aK (by omega)|exact ay.nil rfl|exact ay.of_eq (congrArg (AV.ba _ _ _) (by (dsimp only;omega)))|exact ay.of_eq (congrArg (AV.int _) (by first|omega|(dsimp only;omega))))|refine And.intro ?_ ?_)) (⟨by exact aJ.refl _,by exact aJ.refl _,⟨rfl,by show x0.1=32+0;omega,rfl,fun _ _ _ _=>ay.refl _⟩,trivial⟩)) (fun x5=>?_)
  try (have q5:=x5.2;dsimp only at q5)
  refine aL (fun h6=>?_) (fun h6=>?_)
  ·have g6:=af h6
   refine aD (by omega) ?_
   refine aD (by omega) ?_
   exact aN (⟨x5.1+1,by omega⟩) (fun _ hs=>hs.le (by repeat' (first|exact trivial|(first|exact ay.refl _|exact aK (by omega)|exact ay.nil rfl|exact ay.of_eq (congrArg (AV.ba _ _ _) (by first|omega|(dsimp only;omega)))|exact ay.of_eq (congrArg (AV.int _) (by first|omega|(dsimp only;omega))))|refine And.intro ?_ ?_)) (⟨by exact aJ.refl _,by exact aJ.refl _,aJ.mM (F:=fC l r) (by dsimp only;omega) (by show aE (aQ (bf r) (0+x5.1))=fC l r (32+x5.1);rw [Nat.zero_add,eV (by omega),Lg]),trivial⟩)) (by (dsimp only;omega))
  ·have g6:=aa h6
   refine aM ((fV (String.toUTF8 "specie/node") (of_decide_eq_true (id (Eq.refl true))) (fC l r)) (32+x5.1) (by omega) (by exact uZ (fun i=>rfl) (by rw [show 32+x5.1=64 by omega];exact D1 hl hr))) ?_
   exact aq (ay.of_eq (congrArg (fun t=>AV.agg (bf t)) (Kw (by omega))))
end Go.Proofs.YtpefjkpdniiaoaaGreatDoor

namespace Go.Am
open Go.IntKind (wrap)
open Int (toNat)
open Go.RowKit
def iT (pins:List Nat) (ops:Array Oper):Bool :=
 ops.toList.all fun o=>(match o.op with|.defer _=>false|.mapUpdate .. => false|_=>true)&&(match o.dst with|some d => !bZ pins d|none=>true)
def gm (pins:List Nat):Code→Bool
 | .skip=>true
 | .region _ ops _=>iT pins ops
 | .seq x y=>gm pins x&&gm pins y
 | .cond _ x y=>gm pins x&&gm pins y
 | .block _ x=>gm pins x
 | _=>false
def ki (pins:List Nat) (a0 a:Act):Prop:=∀ n,n∈pins→a.tmps.getD n undef=a0.tmps.getD n undef
section
def Open (F:Fence):Prop:=F=Fence.wide∨∃ l,F=Fence.wide.inRound l
theorem Open.calls {F:Fence} (h:Open F) {n:Nat} {P:Program} {f:FuncId} {args:Array Value} {w:World} {R:Ending→World→Prop} (hc:Calls P f args w R):CallsIn F n P f args w R:=by
 rcases h with rfl|⟨l,rfl⟩
 ·grind [callsIn_wide]
 grind [CallsIn.inRound,callsIn_wide]
theorem Open.fn {F:Fence} (h:Open F) (f:FuncId):F.fn f:=by rcases h with rfl|⟨l,rfl⟩<;>trivial
theorem Open.deep {F:Fence} (h:Open F):¬F.depth.isSome=true:=by rcases h with rfl|⟨l,rfl⟩<;>(intro h;cases h)
theorem Open.steps {F:Fence} (h:Open F) {P:Program} {m m':Machine} (hs:Steps P m m'):StepsIn (Machine.fenced P F) P m m':=by rcases h with rfl|⟨l,rfl⟩<;>exact stepsIn_wide.2 hs
variable {P : Program} {ops : Array Oper} {Q Q' : Exit → Act → World → Prop} {F : Fence} {n : Nat} {pins : List Nat} {a0 : Act}
theorem Hg (hF:Open F) {o:Oper} {a:Act} {K K':Act→World→Prop} (hp:∀ ch a w,¬Q (.panic ch) a w) (hO:¬LetsOut Q) (hK:∀ a' w',(∃ v,a'.tmps=(a.put o.dst v).tmps)→K a' w'→K' a' w'):∀ (r:Result Next),o.upon P a K Q r→o.uponIn F n P a K' Q' r:=by
 intro r h
 cases r with
 | ok x w' =>
  cases x<;>simp only [Oper.upon] at h<;>simp only [Oper.uponIn]
  case value v=>grind
  case skip=>grind
  case defer d=>exact hK _ _ ⟨undef,by cases o.dst<;>rfl⟩ h
  case enter f args =>
   refine ⟨fun h=>(hF.deep h).elim,hF.calls (h.mono fun e w'' he=>?_)⟩
   grind
  case row row args =>
   refine ⟨fun h=>(hF.deep h).elim,fun c cs _=>?_⟩
   obtain ⟨v,w'',hr,hs⟩:=h c cs
   exact ⟨v,w'',hK _ _ ⟨v,rfl⟩ hr,hF.steps hs⟩
 | halt x w' =>
  cases x<;>simp only [Oper.upon] at h
  grind
theorem H9 (hF:Open F) {o:Oper} {a:Act} {w:World} {K K':Act→World→Prop} (hd:∀ c,o.op≠.defer c) (hp:∀ ch a w,¬Q (.panic ch) a w) (hO:¬LetsOut Q) (hK:∀ a' w',(∃ v,a'.tmps=(a.put o.dst v).tmps)→K a' w'→K' a' w')
  (h:o.wp P a w K Q):o.wpIn F n P a w K' Q':=by
 refine ⟨fun f _=>hF.fn f,?_⟩
 rw [Oper.semAt_eq _ _ _ hd]
 exact Hg hF hp hO hK _ h
theorem qW {pins:List Nat} {ops:Array Oper} (hk:iT pins ops=true):sB ops=false:=by
 unfold sB
 rw [List.any_eq_false]
 intro o ho
 have:=List.all_eq_true.1 hk o ho
 grind
theorem uJ {i:Nat} {o:Oper} (hk:iT pins ops=true) (ho:ops[i]? = some o):(∀ c,o.op≠.defer c)∧∀ n,n∈pins→o.dst≠some n:=by
 have hm:o∈ops.toList:=by grind
 have:=List.all_eq_true.1 hk o hm
 rw [Bool.and_eq_true] at this
 grind [Bool.not_eq_true',eZ]
theorem jY {o:Oper} {a a':Act} {v:Value} (hd:∀ n,n∈pins→o.dst≠some n) (h:ki pins a0 a) (e:a'.tmps=(a.put o.dst v).tmps):ki pins a0 a':=fun n hn=>by
 rw [e,← h n hn]
 cases hdd:o.dst with
 | none=>rfl
 | some d=>grind [iX]
theorem Bh (hF:Open F) (hk:iT pins ops=true) (hp:∀ ch a w,¬Q (.panic ch) a w) (hO:¬LetsOut Q):∀ (is:List Nat) (a:Act) (w:World),wpOps P ops Q is a w→ki pins a0 a →
  wpOpsIn F n P ops (fun e a w=>Q e a w∧ki pins a0 a) is a w:=by
 intro is
 induction is with
 | nil=>intro a w h hpin;exact ⟨h,hpin⟩
 | cons i rest ih =>
  intro a w h hpin
  simp only [wpOps] at h
  simp only [wpOpsIn]
  cases ho:ops[i]? with
  | none=>grind
  | some o =>
   simp only [ho] at h ⊢
   obtain ⟨h1,h2⟩:=uJ hk ho
   by_cases hw:Region.wanted o (yielded ops a.tmps)=true
   ·simp only [hw,if_true] at h ⊢
    grind [H9,jY]
   ·simp only [hw,if_false,Bool.false_eq_true] at h ⊢
    exact ⟨fun f _=>hF.fn f,ih _ _ h (jY h2 hpin rfl)⟩
theorem Ko (hF:Open F) (hk:iT pins ops=true) (hp:∀ ch a w,¬Q (.panic ch) a w) (hO:¬LetsOut Q) {md:Region.Mode}:∀ (fuel:Nat) (listed:Array Bool) (a:Act) (w:World),wpAny P md ops Q fuel listed a w→ki pins a0 a →
  wpAnyIn F n P md ops (fun e a w=>Q e a w∧ki pins a0 a) fuel listed a w:=by
 intro fuel
 induction fuel with
 | zero=>intro listed a w h hpin;exact ⟨h.1,h.2,hpin⟩
 | succ fuel ih =>
  intro listed a w h hpin
  refine ⟨fun hr=>⟨h.1 hr,hpin⟩,fun i hi=>?_⟩
  have:=h.2 i hi
  unfold wpOp at this
  unfold wpOpIn
  cases ho:ops[i]? with
  | none=>grind
  | some o =>
   simp only [ho] at this ⊢
   obtain ⟨h1,h2⟩:=uJ hk ho
   by_cases hw:Region.wanted o (yielded ops a.tmps)=true
   ·simp only [hw,if_true] at this ⊢
    grind [H9,jY]
   ·simp only [hw,if_false,Bool.false_eq_true] at this ⊢
    exact ⟨fun f _=>hF.fn f,ih _ _ _ this (jY h2 hpin rfl)⟩
end
theorem AI {P:Program} {F:Fence} {n:Nat} {Q Q':Exit→Act→World→Prop} {o:Oper} {a:Act} {K K':Act→World→Prop} (hp:∀ ch a w,¬Q (.panic ch) a w) (hO:¬LetsOut Q) (hK:∀ a' w',K a' w'→K' a' w'):∀ (r:Result Next),o.uponIn F n P a K Q r→o.uponIn F n P a K' Q' r:=by
 intro r h
 cases r with
 | ok x w' =>
  cases x<;>simp only [Oper.uponIn] at h ⊢
  case value v=>grind
  case skip=>grind
  case defer d=>grind
  case enter f args=>exact ⟨h.1,h.2.mono fun e w'' he=>by grind⟩
  case row row args=>exact ⟨h.1,h.2.mono fun v w'' he=>hK _ _ he⟩
  case round l f tmps x y=>exact ⟨h.1,h.2.mono fun e w'' he=>by grind⟩
 | halt x w' =>
  cases x<;>simp only [Oper.uponIn] at h
  grind
theorem z7 {P:Program} {F:Fence} {n:Nat} {ops ops':Array Oper} {m:Nat} {X:Act→World→Prop} {Q:Exit→Act→World→Prop} {rest:List Nat} (hops:∀ i,i<m→ops'[i]? = ops[i]?) (hg:∀ i o,i<m→ops[i]? = some o→o.guard=none)
  (hX:∀ a w,X a w→wpOpsIn F n P ops Q rest a w):∀ (l:List Nat),(∀ i,i∈l→i<m)→∀ (a:Act) (w:World),wpOpsIn F n P ops' (fun e a w=>(e=.normal∧X a w)) l a w→wpOpsIn F n P ops Q (l++rest) a w:=by
 intro l
 induction l with
 | nil=>intro _ a w h;exact hX a w h.2
 | cons i l ih =>
  intro hl a w h
  have hi:=hl i (List.mem_cons_self ..)
  rw [List.cons_append]
  simp only [wpOpsIn] at h ⊢
  rw [hops i hi] at h
  cases ho:ops[i]? with
  | none=>grind
  | some o =>
   simp only [ho] at h ⊢
   have hw:∀ ys,Region.wanted o ys=true:=fun ys=>by grind [Region.wanted]
   simp only [hw,if_true] at h ⊢
   exact ⟨h.1,AI (fun _ _ _ h=>by grind) (fun ⟨_,_,h⟩=>by grind) (fun a' w' h'=>ih (fun k hk=>hl k (List.mem_cons_of_mem _ hk)) a' w' h') _ h.2⟩
theorem kW {K:Ctx} {C:tL} {k:n5→dH→Tree}:∀ ch a w,¬qV K C k (.panic ch) a w:=fun ch a w ⟨_,_,_,h,_⟩=>by cases h
theorem mS {K:Ctx} {C:tL} {k:n5→dH→Tree}:¬LetsOut (qV K C k):=fun ⟨_,_,_,_,_,h,_⟩=>by cases h
theorem Dd {K:Ctx} {C:tL} {pins:List Nat} {a0:Act} {F:Fence} {n:Nat} (hF:Open F) (hP:C.P=K.P) (fD:C.gl=K.gl) (ph:C.nt=K.nt) (hm:K.P.follows .mixedOrders=true) (x:Code) :
  ∀ (k:n5→dH→Tree) (s:dH) (β:bu) (a:Act) (w:World),gm pins x=true→(run C x k s).wp C.P C.gl (Le C.ng)→gS K β s a w→ki pins a0 a →
   x.wpIn F n K.P (fun e a w=>qV K C k e a w∧ki pins a0 a) a w:=by
 induction x with
 | skip=>intro k s β a w _ h hs hp;exact wpIn_skip ⟨⟨β,s,.normal,rfl,hs,h⟩,hp⟩
 | region id ops draw =>
  intro k s β a w hk h hs hp
  simp only [run,qW hk,cond_false] at h
  cases hd:lU ops with
  | false=>simp only [hd,cond_false] at h;exact h.elim
  | true =>
   simp only [hd,cond_true] at h
   obtain ⟨h1,h2⟩:=kT hP fD ph hd h hs (Q:=qV K C k) (fun β' r a' w' hr hX=>⟨β',_,.normal,rfl,hr.EN,hX⟩)
   cases draw with
   | false=>exact wpIn_region (Bh hF hk kW mS _ a w (h1 rfl) hp)
   | true=>exact wpIn_region_any hm (Ko hF hk kW mS _ _ a _ (h2 rfl) hp)
 | seq x y ihx ihy =>
  intro k s β a w hk h hs hp
  simp only [gm,Bool.and_eq_true] at hk
  refine wpIn_seq (wpIn_mono (ihx _ s β a w hk.1 h hs hp) ?_)
  rintro e a' w' ⟨⟨β',s',ae,he,hs',hk'⟩,hp'⟩
  cases e<;>simp only [jo,reduceCtorEq,Option.some.injEq] at he
  ·subst he;exact ihy k s' β' a' w' hk.2 hk' hs' hp'
  ·subst he;exact ⟨⟨β',s',_,rfl,hs',hk'⟩,hp'⟩
  ·subst he;exact ⟨⟨β',s',_,rfl,hs',hk'⟩,hp'⟩
 | cond c x y ihx ihy =>
  intro k s β a w hk h hs hp
  simp only [gm,Bool.and_eq_true] at hk
  simp only [run] at h
  split at h
  ·rename_i b hb
   have hrel:Rel β w (ev K.gl s.fr c) (a.eval c):=by
    have:=kt (hs.sR #[]) (x:=c) (fun t _=>rfl)
    exact this
   rw [← fD,hb] at hrel
   have hv:=ca hrel
   exact wpIn_cond_split hv (fun ht=>ihx k s β a w hk.1 (h.1 ht) hs hp) (fun hf=>ihy k s β a w hk.2 (h.2 hf) hs hp)
  ·exact h.elim
 | block id x ih =>
  intro k s β a w hk h hs hp
  refine wpIn_block (wpIn_mono (ih _ s β a w hk h hs hp) ?_)
  rintro e a' w' ⟨⟨β',s',ae,he,hs',hk'⟩,hp'⟩
  cases e<;>simp only [jo,reduceCtorEq,Option.some.injEq] at he
  ·subst he;exact ⟨⟨β',s',_,rfl,hs',hk'⟩,hp'⟩
  ·rename_i j
   subst he
   simp only [Exit.inBlock]
   by_cases e:j=id
   ·subst e
    rw [if_pos rfl]
    simp only [Nat.beq_refl,cond_true] at hk'
    exact ⟨⟨β',s',.normal,rfl,hs',hk'⟩,hp'⟩
   ·rw [if_neg e]
    have hb:Nat.beq j id=false:=by grind [Nat.beq,id,absurd,Nat.eq_of_beq_eq_true]
    simp only [hb,cond_false] at hk'
    exact ⟨⟨β',s',.leave j,rfl,hs',hk'⟩,hp'⟩
  ·subst he;exact ⟨⟨β',s',_,rfl,hs',hk'⟩,hp'⟩
 | _=>intro k s β a w hk;cases hk
def ia (β:bu) (w W:World):Prop:=w.heap.size≤W.heap.size∧(∀ b,b<w.heap.size→β.free b→W.heap[b]? = w.heap[b]?)∧∀ b,b<w.heap.size→W.shape? b=w.shape? b
def Nr (β:bu) (w W W':World):Prop:=ia β w W→ia β w W'
def Iter (P:Program) (gl:dG) (gf:FuncId) (lb:List AV) (n:Nat) (xs:Fin n→AV):Prop :=
 vS P gf∧∀ (β:bu) (w:World) (vs:Array Value),(∀ b,β.F b→b<w.heap.size)→(∀ id b k mu,β.m id=some (.bz b k mu)→b<w.heap.size)→mJ gl β w→eR β w lb vs →
  ∃ ys:Fin n→Value,(∀ i,Rel β w (xs i) (ys i))∧SeqStopsK Fence.wide 8 P gf vs (fun i => #[ys i]) (Nr β w) (fun l=>l=List.finRange n) (fun _=>True) n w
def D6 (P:Program) (gl:dG) (own:FuncId→Option (List Bool)) (ng nt:Nat) (c:Code) (s s':dH):Tree :=
 run ⟨P,gl,nt,own,ng⟩ c (fun e t=>match e with|.normal=>.again t (fun u=>Le ng u s')|_=>.bad "round") s
def fG (P:Program) (gl:dG) (own:FuncId→Option (List Bool)) (ng nt:Nat) (c:Code) (s s':dH):Prop:=(D6 P gl own ng nt c s s').wp P gl (Le ng)
theorem jH {P:Program} {gl:dG} {own:FuncId→Option (List Bool)} {ng nt:Nat} {c:Code} {s s':dH} (sk:Sk) (hu:dp ng (D6 P gl own ng nt c s s') sk=sk) (h:sk.ok P gl ng):fG P gl own ng nt c s s' :=
 rD sk _ hu h
theorem jA {P:Program} {gl:dG} {ng:Nat} {s':dH} {ns π:List Nat} {bC:List AV} {os:List (Option Ob)} (h:∀ s,oX ng s ns π bC os→Le ng s s'):(Sk.again (fun u=>Le ng u s') ns π bC os).ok P gl ng:=h
theorem vR {ns:List Nat} {vs:List AV} {n:Nat} (h:n∉ns):i6 ns vs n=.bx:=by
 induction ns generalizing vs with
 | nil=>rfl
 | cons m ns ih =>
  cases vs with
  | nil=>rfl
  | cons v vs =>
   rw [List.mem_cons,not_or] at h
   have hb:Nat.beq m n=false:=by grind [Nat.beq,absurd,Nat.eq_of_beq_eq_true]
   simp_all [i6,cond_false]
def pk (β:bu) (w:World):bu:=⟨fun _=>none,fun b=>b<w.heap.size∧¬β.free b⟩
theorem Rel.calm {β:bu} {w W:World} {a:AV} {v:Value} (h:Rel β w a v) (hc:Cl a) (hW:ia β w W):Rel (pk β w) W a v:=by
 let B1:bu:=⟨fun _=>none,fun b=>¬β.free b⟩
 have f1:∀ b,β.free b→B1.free b:=fun b h=>⟨fun h'=>h' h,fun id m h=>by cases h⟩
 have hk:dF B1 w (pk β w) W:=by
  refine ⟨fun id o h=>(by cases h),fun b hb hfb=>hW.2.1 b hb (Classical.byContradiction fun h=>hfb.1 h),fun b hb hfb=>⟨fun h=>hfb.1 h.2,fun id m h=>by cases h⟩,fun b el sz h=>?_⟩
  rw [hW.2.2 b (fg h)];exact h
 exact (h.fP f1 hc).fO hk
theorem gn.calm {β:bu} {w W:World} {g m:Nat} {f:Nat→AV} (h:gn β w g m f) (hc:Cl (.bJ m f)) (hW:ia β w W):gn (pk β w) W g m f :=
 ⟨h.rel.calm hc hW,let ⟨el,e⟩:=h.size;⟨el,by rw [hW.2.2 g (fg e)];exact e⟩⟩
def mR (P:Program) (gl:dG) (nt:Nat) (β:bu) (w W:World):Ctx:=⟨P,gl,W.heap.size,W,nt,(pk β w).F,fun _=>False,fun _=>none,true⟩
theorem gS.calm {P:Program} {gl:dG} {nt:Nat} {β:bu} {w W:World} {ns:List Nat} {vs:List AV} {a:Act} (hg:mJ gl β w) (hW:ia β w W) (hsz:a.tmps.size=nt) (hd:a.defers=[])
  (hv:∀ (k n:Nat) v,ns[k]? = some n→vs[k]? = some v→Rel (pk β w) W v (a.tmps.getD n undef)):gS (mR P gl nt β w W) (pk β w) (aY ns vs []) a W:=by
 refine ⟨fun n=>?_,hsz,by grind [Marks.nil],fun id o h=>(by grind [aY]),fun _ _ _ _ _ _ _ h=>(by cases h),fun _ _=>rfl,fun _ _ _ _ h=>(by cases h),fun _ _ h=>(by cases h),rfl,fun b hb=>⟨Nat.lt_of_lt_of_le hb.1 hW.1,fun h=>h⟩,
  Kept.refl _ _ _,Nat.le_refl _,fun g m h fD=>((hg g m h fD).calm ?_ hW)⟩
 ·show Rel _ _ (i6 ns vs n) _
  clear hg hW hsz hd
  induction ns generalizing vs with
  | nil=>exact .bx
  | cons m ns ih =>
   cases vs with
   | nil=>exact .bx
   | cons v vs =>
    simp only [i6]
    cases hb:Nat.beq m n with
    | true =>
     have:=Nat.eq_of_beq_eq_true hb
     subst this
     exact hv 0 m v rfl rfl
    | false=>exact ih (fun k n v hn hv'=>hv (k+1) n v (by grind) (by grind))
 ·obtain ⟨_,_,_,_,_,_,_,_,hcl,_⟩:=dj (hg g m h fD).rel
  exact .bJ hcl
theorem fG.in {F:Fence} {n:Nat} {K:Ctx} {own:FuncId→Option (List Bool)} {ng:Nat} {c:Code} {s s':dH} {β:bu} {a:Act} {w:World} {pins:List Nat} (hr:fG K.P K.gl own ng K.nt c s s') (hF:Open F) (hk:gm pins c=true)
  (hng:∀ id,ng≤id→K.b0 id=none) (hm:K.P.follows .mixedOrders=true) (hs:gS K β s a w):c.wpIn F n K.P (fun e a' w'=>e=.normal∧(∃ β',gS K β' s' a' w')∧ki pins a a') a w:=by
 refine wpIn_mono (Dd (C:=⟨K.P,K.gl,K.nt,own,ng⟩) (pins:=pins) (a0:=a) hF rfl rfl rfl hm c _ s β a w hk hr hs (fun _ _=>rfl)) ?_
 rintro e a' w' ⟨⟨β',t,ae,he,hs',hk'⟩,hp⟩
 cases e<;>simp only [jo,reduceCtorEq,Option.some.injEq] at he
 ·subst he;exact ⟨rfl,hk' K β' a' w' hng hs',hp⟩
 ·subst he;exact hk'.elim
 ·subst he;exact hk'.elim
theorem fG.ops {F:Fence} {n:Nat} {K:Ctx} {own:FuncId→Option (List Bool)} {ng id:Nat} {ops:Array Oper} {s s':dH} {β:bu} {a:Act} {w:World} {pins:List Nat} (hr:fG K.P K.gl own ng K.nt (.region id ops false) s s') (hF:Open F) (hk:iT pins ops=true)
  (hng:∀ id,ng≤id→K.b0 id=none) (hs:gS K β s a w):wpOpsIn F n K.P ops (fun e a' w'=>e=.normal∧(∃ β',gS K β' s' a' w')∧ki pins a a') (List.range ops.size) a w:=by
 have h:(run ⟨K.P,K.gl,K.nt,own,ng⟩ (.region id ops false) (fun e t=>match e with|.normal=>.again t (fun u=>Le ng u s')|_=>.bad "round") s).wp K.P K.gl (Le ng):=hr
 simp only [run,qW hk,cond_false] at h
 cases hd:lU ops with
 | false=>simp only [hd,cond_false] at h;exact h.elim
 | true =>
  simp only [hd,cond_true] at h
  have:=(kT (K:=K) (C:=⟨K.P,K.gl,K.nt,own,ng⟩) rfl rfl rfl hd h hs (Q:=fun e a w=>e=.normal∧∃ β',gS K β' s' a w) (fun β' r a' w' hr hX=>⟨rfl,hX K β' a' w' hng hr.EN⟩)).1 rfl
  have h2:=Bh (a0:=a) (pins:=pins) (n:=n) hF hk (fun _ _ _ h=>by grind) (fun ⟨_,_,h⟩=>by grind) _ a w this (fun _ _=>rfl)
  grind
def Hw (obs:List (Option Ob)):Bool:=obs.all fun o=>match o with|some o=>o.mu|none=>false
theorem pj {obs:List (Option Ob)} (h:Hw obs=true) {k:Nat} (hk:k<obs.length):∃ o,obs.getD k none=some o∧o.mu=true:=by
 have:=List.all_eq_true.1 h obs[k] (List.getElem_mem hk)
 grind
theorem Ar {P:Program} {gl:dG} {own:FuncId→Option (List Bool)} {ng nt:Nat} {g:Operand} {p d:Nat} {assign body:Code} {gf:Nat} {lb:List AV} {n:Nat} {xs:Fin n→AV} {ns:List Nat} {vs:List AV}
  {obs:List (Fin n)→List (Option Ob)} {obs1:List (Option Ob)} (hev:ev gl (i6 ns vs) g=.fn (.func gf) [] lb) (hit:Iter P gl gf lb n xs) (hcl:∀ x,Cl (xs x))
  (hasg:∀ (l:Nat) (a:Act) (W:World) (K:Act→World→Prop),K (a.put (some d) (a.tmps.getD p undef)) W→assign.wpIn (Fence.wide.inRound l) 7 P (Exit.then K (fun _ _ _=>False)) a W)
  (hmu:∀ pre,Hw (obs pre)=true) (hnm:∀ pre,NMS (aY ns vs (obs pre))) (hng0:NMG gl) (hpins:(gm ns body&&(!bZ ns p && !bZ ns d&&Nat.blt p nt&&Nat.blt d nt))=true)
  (hround:∀ pre x,pre.length<n→fG P gl own ng nt body (aY (d::p::ns) (xs x::xs x::vs) (obs pre)) (aY ns vs (obs (pre++[x]))))
  (h1:obs (List.finRange n)=obs1):Opq P gl ng nt (.rangeFunc g #[p] assign body) (aY ns vs (obs [])) (aY ns vs obs1):=by
 subst h1
 intro K β0 a w hKP hKgl hKnt hng hqt hm hs0
 subst hKP hKgl hKnt
 refine wpIn_wide (n:=9).1 ?_
 simp only [Bool.and_eq_true,Bool.not_eq_true',Nat.blt_eq] at hpins
 obtain ⟨hpb,⟨⟨hpn,hdn⟩,hpt⟩,hdt⟩:=hpins
 have hpn':p∉ns:=fun h=>by grind [eZ]
 have hdn':d∉ns:=fun h=>by grind [eZ]
 have hG0:∀ id b m mu,β0.m id=some (.bz b m mu)→mu=true:=fun id b m mu h=>by
  have hid:id<(obs []).length:=Nat.lt_of_not_le fun hle=>by rw [hs0.fresh id hle] at h;cases h
  obtain ⟨o,ho,hmu'⟩:=pj (hmu []) hid
  rcases hs0.heap id o ho with ⟨b',h1,_⟩|⟨h1,_⟩
  ·grind
  grind
 let K0:Ctx:=⟨K.P,K.gl,w.heap.size,w,K.nt,K.F,fun b=>∃ id m,β0.m id=some (.bz b m true),K.b0,true⟩
 have hlive0:∀ b,K0.G b→K.B≤b∨K.G b:=fun b ⟨id,m,h⟩=>(hs0.live id b m true h).1
 have hF0:∀ b,K.F b→b<w.heap.size∧¬K0.G b:=fun b hb=>⟨Nat.lt_of_lt_of_le (hs0.hF b hb).1 hs0.hB,fun hG=>by
  rcases hlive0 b hG with h|h
  ·have:=(hs0.hF b hb).1;omega
  ·exact (hs0.hF b hb).2 h⟩
 have hS0:gS K0 β0 (aY ns vs (obs [])) { a with defers:=[] } w :=
  ⟨hs0.slot,hs0.size,Marks.nil _ _,hs0.heap,hs0.inj,hs0.fresh,fun id b m mu h=>⟨.inr ⟨id,m,by grind⟩,(hs0.live id b m mu h).2⟩,hs0.yG,hs0.bF,hF0,Kept.refl _ _ _,Nat.le_refl _,hs0.iU⟩
 have hfr:Rel β0 w (.fn (.func gf) [] lb) (a.eval g):=by
  have:=kt (hs0.sR #[]) (x:=g) (fun t _=>rfl)
  grind [ev,dH.sR,aY]
 obtain ⟨vf,vb,hav,hvf,hlb⟩:∃ vf vb,a.eval g=.func (.func gf) vf vb∧vf.size=0∧eR β0 w lb vb:=by
  generalize a.eval g=u at hfr
  cases hfr with
  | fn h1 h2 h3 h4=>exact ⟨_,_,rfl,by grind,h3,h4⟩
 have hvf':vf = #[]:=Array.eq_empty_of_size_eq_zero hvf
 subst hvf'
 obtain ⟨⟨fn,code,hfn,hfb,hname⟩,hitr⟩:=hit
 obtain ⟨ys,hyr,hseq⟩:=hitr β0 w vb (fun b hb=>by rw [hs0.bF] at hb;grind) (fun id b k mu h=>(hs0.live id b k mu h).2) hs0.iU hlb
 have calm:∀ {β:bu} {s:dH} {a':Act} {W:World},gS K0 β s a' W→ia β0 w W:=fun hs=>⟨hs.kept.size,fun b hb hf=>hs.kept.block b hb (fun ⟨id,m,h⟩=>hf.2 id m h),hs.kept.shape⟩
 have hfree:∀ {β:bu} {s:dH} {a':Act} {W:World},(∀ id b m mu,β.m id=some (.bz b m mu)→mu=true)→gS K0 β s a' W→∀ b,b<w.heap.size→β0.free b→β.free b:=fun hmt hs b hb hf =>
  ⟨by rw [hs.bF];have:=hf.1;rw [hs0.bF] at this;omega,fun id m h=>by
   rcases (hs.live id b m true h).1 with h'|⟨id',m',h'⟩
   ·grind
   ·exact hf.2 id' m' h'⟩
 have item:∀ {β:bu} {s:dH} {a':Act} {W:World} (x:Fin n),gS K0 β s a' W→(∀ b,b<w.heap.size→β0.free b→β.free b)→Rel β W (xs x) (ys x):=fun {β s a' W} x hs hf=>by
  let B1:bu:=⟨fun _=>none,fun b=>¬β0.free b⟩
  let B2:bu:=⟨fun _=>none,fun b=>¬β.free b⟩
  have f1:∀ b,β0.free b→B1.free b:=fun b h=>⟨fun h'=>h' h,fun id m h=>by cases h⟩
  have f2:∀ b,B2.free b→β.free b:=fun b h=>Classical.byContradiction fun h'=>h.1 h'
  have hk:dF B1 w B2 W:=by
   refine ⟨fun id o h=>(by cases h),fun b hb hfb=>(calm hs).2.1 b hb (Classical.byContradiction fun h=>hfb.1 h),fun b hb hfb=>⟨fun h=>h (hf b hb (Classical.byContradiction fun h=>hfb.1 h)),fun id m h=>by cases h⟩,fun b el sz h=>?_⟩
   have:=hs.kept.shape b (fg h)
   grind
  exact ((((hyr x).fP f1 (hcl x)).fO hk).fP f2 (hcl x))
 let I:List (Fin n)→World→Prop:=fun pre W=>∃ β,gS K0 β (aY ns vs (obs pre)) { a with defers:=[] } W
 have hmt:∀ {pre:List (Fin n)} {β:bu} {a':Act} {W:World},gS K0 β (aY ns vs (obs pre)) a' W→∀ id b m mu,β.m id=some (.bz b m mu)→mu=true:=fun {pre β a' W} hs id b m mu h=>by
  have hid:id<(obs pre).length:=Nat.lt_of_not_le fun hle=>by rw [hs.fresh id hle] at h;cases h
  obtain ⟨o,ho,hmu'⟩:=pj (hmu pre) hid
  rcases hs.heap id o ho with ⟨b',h1,_⟩|⟨h1,_⟩
  ·grind
  grind
 have hI:OwnFrom w.heap.size I:=by
  rintro pre A B row ⟨β,hs⟩ hg hr
  have hne:∀ b,b<A.heap.size→(∀ o,A.heap[b]? = some o→o.isCells=false→b<w.heap.size)→B.heap[b]? = A.heap[b]? := fun b hb h=>hg.block b hb (fun e=>by grind)
  refine ⟨β,hs.same (fun b cs el z hb=>?_) hg.size (.inr ⟨hnm pre,hng0⟩) ?_ rfl (Marks.nil _ _)⟩
  ·exact (hne b (Array.getElem?_eq_some_iff.1 hb).1 (fun o h1 h2=>by rw [hb] at h1;cases h1;cases h2)).trans hb
  ·have hsz:=hs.kept.size
   have low:∀ k,k<w.heap.size→B.heap[k]? = A.heap[k]? := fun k hk=>hne k (by grind) (fun _ _ _=>hk)
   exact ⟨hg.os.trans hs.kept.os,hg.tape.trans hs.kept.tape,hg.output.trans hs.kept.output,Nat.le_trans hsz hg.size,fun k hk hG=>(low k hk).trans (hs.kept.block k hk hG),fun k hk=>(cK (low k hk)).trans (hs.kept.shape k hk),
    fun k o hk ho=>(low k (Array.getElem?_eq_some_iff.1 hk).1).trans (hs.kept.rZ k o hk ho)⟩
 let a1:Fin n→Act:=fun x=>Act.put { tmps:=a.tmps.setIfInBounds p (ys x),defers:=[] } (some d) (ys x)
 have a1s:∀ x m,m≠d→m≠p→(a1 x).tmps.getD m undef=a.tmps.getD m undef:=fun x m h1 h2=>by
  simp [a1,Act.put,Array.getD_eq_getD_getElem?,Array.getElem?_setIfInBounds_ne (Ne.symm h1),Array.getElem?_setIfInBounds_ne (Ne.symm h2)]
 have hsize:a.tmps.size=K.nt:=hs0.size
 refine wpIn_rangeFunc_ownG (F:=Fence.wide) rfl (by decide) (gf:=gf) (lb:=vb) hav trivial (fun args w=>?_) hseq (fun h k h0=>k (h h0)) (fun W l o o' hl ho hc hw h=>?_) (Below.refl _ _) (fun _=>rfl) I (fun _ _ _=>False) hI (fun _ _ _ _ _ h _ _=>h) ⟨β0,hS0⟩ a1
  (fun l x W Kc hK=>?_) (fun l pre x W hi hlen=>?_) (fun D pre W hD hpre hi hW=>?_) (fun D c pre W hD _ h=>h.elim)
 ·simp only [callFunc,run_program,Sem.run_bind,Result.andThen_ok,hfn,hfb,hname,Bool.false_eq_true,if_false]
  rfl
 ·refine ⟨Nat.le_trans h.1 (by simp),fun b hb hf=>?_,fun b hb=>?_⟩
  ·exact (World.putObj_heap_other (by omega)).trans (h.2.1 b hb hf)
  ·exact (cK (World.putObj_heap_other (by omega))).trans (h.2.2 b hb)
 ·refine hasg l _ W Kc ?_
  have e0:(#[p].zip #[ys x]).foldl (fun t (q:Tmp×Value)=>t.setIfInBounds q.1 q.2) a.tmps=a.tmps.setIfInBounds p (ys x):=by simp
  show Kc (Act.put { tmps:=(#[p].zip #[ys x]).foldl (fun t (q:Tmp×Value)=>t.setIfInBounds q.1 q.2) a.tmps,defers:=[] } (some d) (((#[p].zip #[ys x]).foldl (fun t (q:Tmp×Value)=>t.setIfInBounds q.1 q.2) a.tmps).getD p undef)) W
  rw [e0]
  have e:(a.tmps.setIfInBounds p (ys x)).getD p undef=ys x:=by simp [Array.getD_eq_getD_getElem?,hsize,hpt]
  grind
 ·obtain ⟨β,hs⟩:=hi
  have hit':=item x hs (hfree (hmt hs) hs)
  let K1:Ctx:=⟨K.P,K.gl,W.heap.size,W,K.nt,K.F,fun b=>w.heap.size≤b∨K0.G b,K.b0,true⟩
  have hwW:w.heap.size≤W.heap.size:=hs.kept.size
  have hs1:gS K1 β (aY (d::p::ns) (xs x::xs x::vs) (obs pre)) (a1 x) W:=by
   refine ⟨fun m=>?_,by grind [Act.put],Marks.nil _ _,hs.heap,hs.inj,hs.fresh,fun id b m mu h=>⟨.inr (hs.live id b m mu h).1,(hs.live id b m mu h).2⟩,hs.yG,hs.bF,
    fun b hb=>⟨Nat.lt_of_lt_of_le (hF0 b hb).1 hwW,fun h=>h.elim (fun h=>by grind) (hF0 b hb).2⟩,Kept.refl _ _ _,Nat.le_refl _,hs.iU⟩
   show Rel β W (i6 (d::p::ns) (xs x::xs x::vs) m) ((a1 x).tmps.getD m undef)
   by_cases hmd:d=m
   ·subst hmd
    have e:(a1 x).tmps.getD d undef=ys x:=by simp [a1,Act.put,Array.getD_eq_getD_getElem?,hsize,hdt]
    simp only [i6,Nat.beq_refl,cond_true]
    grind
   ·have hb:Nat.beq d m=false:=by grind [Nat.beq,absurd,Nat.eq_of_beq_eq_true]
    simp only [i6,hb,cond_false]
    by_cases hmp:p=m
    ·subst hmp
     have e:(a1 x).tmps.getD p undef=ys x:=by
      have h1:(a1 x).tmps[p]? = some (ys x):=by
       show ((a.tmps.setIfInBounds p (ys x)).setIfInBounds d (ys x))[p]? = _
       grind
      rw [Array.getD_eq_getD_getElem?,h1];rfl
     simp only [Nat.beq_refl,cond_true]
     grind
    ·have hb:Nat.beq p m=false:=by grind [Nat.beq,absurd,Nat.eq_of_beq_eq_true]
     simp only [hb,cond_false]
     rw [a1s x m (Ne.symm hmd) (Ne.symm hmp)]
     exact hs.slot m
  refine wpIn_mono (Dd (K:=K1) (C:=⟨K.P,K.gl,K.nt,own,ng⟩) (pins:=ns) (a0:=a1 x) (.inr ⟨l,rfl⟩) rfl rfl rfl hm body _ _ β (a1 x) W hpb (hround pre x hlen) hs1 (fun _ _=>rfl)) ?_
  rintro e a' W' ⟨⟨β',s',ae,he,hs',hk⟩,hpin⟩
  cases e<;>simp only [jo,reduceCtorEq,Option.some.injEq] at he
  ·subst he
   obtain ⟨β2,hs2⟩:=hk K1 β' a' W' hng hs'
   have hWW:W.heap.size≤W'.heap.size:=hs2.kept.size
   have hs3:gS K0 β2 (aY ns vs (obs (pre++[x]))) { a with defers:=[] } W':=by
    refine ⟨fun m=>?_,hsize,Marks.nil _ _,hs2.heap,hs2.inj,hs2.fresh,fun id b m mu h=>⟨?_,(hs2.live id b m mu h).2⟩,hs2.yG,hs2.bF,hF0,hs.kept.trans (hs2.kept.mono hwW (fun k hk hG=>?_)),Nat.le_trans hwW hWW,hs2.iU⟩
    ·by_cases hm':m∈ns
     ·have:=hs2.slot m
      rw [hpin m hm',a1s x m (fun e=>hdn' (e▸hm')) (fun e=>hpn' (e▸hm'))] at this
      omega
     ·have e:(aY ns vs (obs (pre++[x]))).fr m=.bx:=vR hm'
      rw [e];exact .bx
    ·rcases (hs2.live id b m mu h).1 with h'|h'
     ·grind
     omega
    grind
   exact ⟨⟨hWW,fun k o _ hk ho=>hs2.kept.rZ k o hk ho⟩,fun _=>calm hs3,β2,hs3⟩
  ·subst he;exact hk.elim
  ·subst he;exact hk.elim
 ·obtain ⟨β,hs⟩:=hi
  have hpre':pre=List.finRange n:=hpre
  subst hpre'
  refine ⟨rfl,β,hs.slot,hsize,?_,hs.heap,hs.inj,hs.fresh,fun id b m mu h=>⟨?_,(hs.live id b m mu h).2⟩,hs.yG,hs.bF,hs0.hF,hs0.kept.trans (hs.kept.mono hs0.hB (fun k hk hG=>?_)),Nat.le_trans hs0.hB hs.kept.size,hs.iU⟩
  ·obtain ⟨Ds,e1,e2,_,e3⟩:=hs0.defers
   refine ⟨D::Ds,by grind,List.nodup_cons.2 ⟨fun h=>?_,e2⟩,fun h=>(by grind),fun D' h=>?_⟩
   ·grind
   ·rcases List.mem_cons.1 h with rfl|h
    ·exact ⟨Nat.le_trans hs0.hB hD,Nat.le_trans hs0.kept.size hD,hW⟩
    ·exact ⟨(e3 D' h).1,(e3 D' h).2.1,hs.kept.rZ D' _ (e3 D' h).2.2 rfl⟩
  ·rcases (hs.live id b m mu h).1 with h'|h'
   ·exact .inl (Nat.le_trans hs0.hB h')
   grind
  grind
theorem NM.aQ {l:List AV} (h:∀ v,v∈l→NM v) (j:Nat):NM (aQ l j):=by
 unfold Am.aQ
 rw [List.getD_eq_getElem?_getD]
 cases hj:l[j]? with
 | none=>exact .bx
 | some x=>grind
def NML:List AV→Prop
 | []=>True
 | v::l=>NM v∧NML l
theorem NML.spec {l:List AV} (h:NML l):∀ v,v∈l→NM v:=by
 induction l with
 | nil=>simp
 | cons x l ih=>intro v hv;rcases List.mem_cons.1 hv with rfl|hv;(· exact h.1);(· exact ih h.2 v hv)
theorem NML.aQ {l:List AV} (h:NML l) (j:Nat):NM (Am.aQ l j):=NM.aQ h.spec j
def NMB (o:Ob):Prop:=∀ i j,i<o.n→j<o.es→NM (o.f i j)
def NMO:List (Option Ob)→Prop
 | []=>True
 | none::l=>NMO l
 | some o::l=>NMB o∧NMO l
theorem NMO.spec {l:List (Option Ob)} (h:NMO l):∀ (k:Nat) o,l[k]? = some (some o)→NMB o:=by
 induction l with
 | nil=>simp
 | cons x l ih =>
  intro k o hk
  cases x with
  | none =>
   cases k with
   | zero=>grind
   | succ k=>exact ih h k o (by grind)
  | some y =>
   cases k with
   | zero=>simp at hk;subst hk;exact h.1
   | succ k=>exact ih h.2 k o (by grind)
theorem NMS.of {ns:List Nat} {vs:List AV} {obs:List (Option Ob)} (h1:NML vs) (h2:NMO obs):NMS (aY ns vs obs):=by
 refine ⟨fun n=>?_,fun id o ho=>?_⟩
 ·show NM (i6 ns vs n)
  induction ns generalizing vs with
  | nil=>exact .bx
  | cons m ns ih =>
   cases vs with
   | nil=>exact .bx
   | cons v vs =>
    simp only [i6]
    cases Nat.beq m n with
    | true=>exact h1.1
    | false=>exact ih h1.2
 ·have ho:(obs[id]?).getD none=some o:=by grind [aY]
  cases hk:obs[id]? with
  | none=>grind
  | some x=>rw [hk] at ho;exact h2.spec id o (by grind)
end Go.Am

namespace Go.Sp
open Go.IntKind (wrap)
open Int (toNat)
open Go Go.Am Go.RowKit
theorem jJ {β:bu} {w W W1:World} (h:ia β w W) (k:Kept W.heap.size (fun _=>False) W W1):ia β w W1 :=
 ⟨Nat.le_trans h.1 k.size,fun b hb hf=>(k.block b (Nat.lt_of_lt_of_le hb h.1) (fun h=>h)).trans (h.2.1 b hb hf),fun b hb=>(k.shape b (Nat.lt_of_lt_of_le hb h.1)).trans (h.2.2 b hb)⟩
theorem pV {W W1:World} (k:Kept W.heap.size (fun _=>False) W W1):W.grownBy W1 none:=⟨k.os,k.tape,k.output,k.size,fun b hb _=>k.block b hb (fun h=>h)⟩
theorem za {ops:Array Oper} {i:Nat} {d:Option Tmp} {op:Op} {g:Option (Nat×Bool)} (h:(ops[i]?).map (fun o=>(o.dst,o.op,o.guard))=some (d,op,g)):∃ o,ops[i]? = some o∧o.dst=d∧o.op=op∧o.guard=g:=by
 cases ho:ops[i]? with
 | none=>rw [ho] at h;cases h
 | some o=>rw [ho] at h;simp only [Option.map_some,Option.some.injEq,Prod.mk.injEq] at h;exact ⟨o,rfl,h.1,h.2.1,h.2.2⟩
theorem mV {a:Act} {d:Nat} {v:Value} (h:d<a.tmps.size):(a.put (some d) v).tmps.getD d undef=v:=gR h
theorem sY {a:Act} {d n:Nat} {v:Value} (h:n≠d):(a.put (some d) v).tmps.getD n undef=a.tmps.getD n undef:=iX h
theorem m4 {a:Act} {d:Nat} {v:Value}:(a.put (some d) v).tmps.size=a.tmps.size:=by simp [Act.put]
theorem uz {os:List (Option Ob)} {a:AV}:ay os (.bJ 1 fun k=>aQ [a] k) (.bJ 1 fun _=>a):=fun β w v _ h=>by
 obtain ⟨b,off,bC,rfl,hm,hb,hc,hr,hcl,ho⟩:=dj h
 have e:∀ j,j<1→aQ [a] j=a:=fun j hj=>by
  have:j=0:=by omega
  subst this;rfl
 exact .bJ bC hm hb hc ho (fun j hj=>by have:=hr j hj;rwa [e j hj] at this) (fun j hj=>by have:=hcl j hj;rwa [e j hj] at this)
theorem Hp {os:List (Option Ob)} {f:Fn} {a b a' b':AV} (h1:ay os a a') (h2:ay os b b'):ay os (.fn f [] [a,b]) (.fn f [] [a',b']):=fun β w v hh h=>by
 cases h with
 | fn hl hr hl' hr' =>
  refine .fn hl hr hl' fun j u x hu hx=>?_
  rcases j with _|_|j
  ·cases hu;exact h1 β w x hh (hr' 0 _ x rfl hx)
  ·cases hu;exact h2 β w x hh (hr' 1 _ x rfl hx)
  ·simp at hu
structure wZ (y v1 v2 : Value) (i : Nat) (a : Act) : Prop where
  size : a.tmps.size = 31
  defers : a.defers = []
  t0 : a.tmps.getD 0 undef = y
  t1 : a.tmps.getD 1 undef = v1
  t2 : a.tmps.getD 2 undef = v2
  t4 : a.tmps.getD 4 undef = .int .i64 i
theorem EE {P:Program} {gl:dG} {own:FuncId→Option (List Bool)} {g:Nat} {fn:Func} {c R0 R1 R2 R3 R4:Code} {r4:Array Oper} {N tS tE:Nat} {h:Nat→Nat→Int} (hN:1≤N) (hf:P.funcs[g]? = some fn) (hbody:fn.body=some c) (hname:(fn.name == "runtime.NumGoroutine")=false) (hrs:fn.results = #[]) (ph:fn.ntmps=31)
  (hm:P.follows .mixedOrders=true) (hshape:c=.seq R0 (.block 0 (.loop (.seq (.seq R1 (.cond (.tmp 9) .skip (.exit 0))) (.seq (.block 1 (.seq R3 (.seq R4 (.cond (.tmp 30) .ret .skip)))) R2))))) (hr4:R4=.region 4 r4 false)
  (hsz:r4.size=12) (hgd:(r4.toList.all fun o=>o.guard.isNone)=true) (hu44:P.underlying tS=some (.slice tE)) (hsh:qo P tE=some 32)
  (h9:(r4[9]?).map (fun o=>(o.dst,o.op,o.guard))=some (some 28,.slice tS (.tmp 20) (some (.tmp 21)) (some (.tmp 24)) (some (.tmp 27)),none))
  (h10:(r4[10]?).map (fun o=>(o.dst,o.op,o.guard))=some (some 29,.call ⟨.value (.tmp 19),#[.tmp 28],#[tS]⟩,none))
  (h11:(r4[11]?).map (fun o=>(o.dst,o.op,o.guard))=some (some 30,.unOp .not 4 (.tmp 29),none))
  (k0:gm [0,1,2] R0=true) (k1:gm [0,1,2,4] R1=true) (k2:gm [0,1,2] R2=true) (k3:gm [0,1,2,4] R3=true) (k4:iT [0,1,2,4] (r4.extract 0 9)=true)
  (i0:fG P gl own 0 31 R0 (aY [] [] []) (aY [4] [.int .i64 0] []))
  (i1:∀ k:Nat,k≤2*N→fG P gl own 0 31 R1 (aY [1,2,4] [.bJ 1 fun _=>dD (2*N) h,.bJ 1 fun _=>.int .i64 2,.int .i64 k] []) (aY [9] [.bool (decide ((k:Int)<(2*N:Nat)))] []))
  (i3:∀ k:Nat,k+2≤2*N→fG P gl own 0 31 R3 (aY [1,2,4] [.bJ 1 fun _=>dD (2*N) h,.bJ 1 fun _=>.int .i64 2,.int .i64 k] []) (aY [5] [.int .i64 2] []))
  (i4:∀ (y u:Value) (k:Nat),k+2≤2*N→fG P gl own 0 31 (.region 4 (r4.extract 0 9) false) (aY [0,1,4,5] [.raw y,.bJ 1 fun _=>.raw u,.int .i64 k,.int .i64 2] []) (aY [19,20,21,24,27] [.raw y,.raw u,.int .i64 k,.int .i64 (k+2),.int .i64 (k+2)] []))
  (i2:∀ k:Nat,k+2≤2*N→fG P gl own 0 31 R2 (aY [2,4] [.bJ 1 fun _=>.int .i64 2,.int .i64 k] []) (aY [4] [.int .i64 (k+2)] [])) :
  Iter P gl g [.bJ 1 fun _=>dD (2*N) h,.bJ 1 fun _=>.int .i64 2] N (fun k=>dD 2 fun r=>h (2*k.1+r)):=by
 refine ⟨⟨_,_,hf,hbody,hname⟩,fun β w vs hF hlt hg hv=>?_⟩
 obtain ⟨v1,v2,rfl,h1,h2⟩:∃ v1 v2,vs = #[v1,v2]∧Rel β w (.bJ 1 fun _=>dD (2*N) h) v1∧Rel β w (.bJ 1 fun _=>.int .i64 2) v2:=by
  have hl:2=vs.size:=hv.len
  obtain ⟨vs⟩:=vs
  match vs,hl with
  | [v1,v2],_=>exact ⟨v1,v2,rfl,hv.rel 0 _ _ rfl rfl,hv.rel 1 _ _ rfl rfl⟩
 obtain ⟨b1,o1,vals1,hv1,_,hf1,hc1,hr1,hcl1,hone1⟩:=dj h1
 have hu:=hr1 0 (by decide)
 generalize hu0:vals1 0=u at hu
 obtain ⟨a0,cap,hue,hcap,_,hrest⟩:=gX hu
 obtain ⟨b,off,bC,ha0,he,hfree,hcell,hrel,hcl,hone⟩:=hrest (by omega)
 subst ha0
 have hx:∀ k:Nat,k<N→Rel β w (dD 2 fun r=>h (2*k+r)) (.slice (some ⟨b,off+2*k*32,none⟩) 2 2):=fun k hk =>
  .aH (fun i j=>bC (2*k+i) j) (by decide) (Nat.le_refl _) hfree (fun i j hi hj=>by
   rw [← hcell (2*k+i) j (by omega) hj];grind) (fun i j hi hj=>hone _ _ (by omega) hj) (fun i j hi hj=>hrel _ _ (by omega) hj) (fun i j hi hj=>hcl _ _ (by omega) hj)
 refine ⟨fun k=>.slice (some ⟨b,off+2*k.1*32,none⟩) 2 2,fun k=>hx k.1 k.2,?_⟩
 intro l J Jx W hbW hJ hJx hY hJ0
 have hcW:ia β w W:=⟨hbW.size,fun b hb _=>hbW.block b hb,fun b hb=>cK (hbW.block b hb)⟩
 refine callsIn_of_wp hf hbody trivial ?_
 have hJg:∀ pre A B,J pre A→Kept A.heap.size (fun _=>False) A B→J pre B:=fun pre A B hj k=>hJ pre A B none hj (pV k) (fun r h=>by cases h)
 have hcl1':Cl (.bJ 1 fun _=>dD (2*N) h):=.bJ hcl1
 have hcl2':Cl (.bJ 1 fun _=>.int .i64 2):=.bJ fun _ _=>.int
 have hclu:Cl (.bJ 1 fun _=>.raw u):=.bJ fun _ _=>.raw
 have hraw:Rel β w (.raw u) (vals1 0):=by
  rw [hu0]
  exact .raw (fun cs e=>by grind)
 have hur:Rel β w (.bJ 1 fun _=>.raw u) v1:=by
  rw [hv1]
  refine .bJ vals1 (by decide) hf1 hc1 hone1 (fun j hj=>?_) (fun _ _=>.raw)
  grind
 generalize hy:(Value.func (.yield l) #[] #[])=y
 have sim:∀ {i:Nat} {a:Act} {W:World},wZ y v1 v2 i a→ia β w W→gS (mR P gl 31 β w W) (pk β w) (aY [1,2,4] [.bJ 1 fun _=>dD (2*N) h,.bJ 1 fun _=>.int .i64 2,.int .i64 i] []) a W:=fun {i a W} ha hW =>
  gS.calm hg hW ha.size ha.defers (fun k n v hn hv=>by
   rcases k with _|_|_|k
   ·cases hn;cases hv;rw [ha.t1];exact h1.calm hcl1' hW
   ·cases hn;cases hv;rw [ha.t2];exact h2.calm hcl2' hW
   ·cases hn;cases hv;rw [ha.t4];exact .int
   simp_all)
 have pin:∀ {i:Nat} {a a':Act} {s:dH} {β':bu} {W W':World},wZ y v1 v2 i a→ki [0,1,2,4] a a'→gS (mR P gl 31 β w W) β' s a' W'→wZ y v1 v2 i a':=fun {i a a' s β' W W'} f hp hs =>
  ⟨hs.size,hs.defers.quiet rfl,(hp 0 (by simp)).trans f.t0,(hp 1 (by simp)).trans f.t1,(hp 2 (by simp)).trans f.t2,(hp 4 (by simp)).trans f.t4⟩
 have hres:∀ (a:Act) (W':World),(results fn a.tmps).run P W'=.ok (.tuple #[]) W':=fun a W'=>by
  rw [o3,hrs]
  simp
 have fin:∀ k:Nat,(hk:k<N)→(List.finRange N).take k++[⟨k,hk⟩]=(List.finRange N).take (k+1):=fun k hk=>by
  rw [List.take_add_one]
  simp [hk]
 subst hshape
 refine wpIn_seq (wpIn_mono (fG.in (pins:=[0,1,2]) (K:=mR P gl 31 β w W) i0 (.inl rfl) k0 (fun _ _=>rfl) hm (gS.calm (ns:=[]) (vs:=[]) hg hcW (by simp [ph]) rfl (fun k n v hn=>by simp))) ?_)
 rintro e a1 W1 ⟨rfl,⟨β1,hs1⟩,hp1⟩
 have f1:wZ y v1 v2 0 a1:=⟨hs1.size,hs1.defers.quiet rfl,(hp1 0 (by simp)).trans (by simp [Array.getD_eq_getD_getElem?,Array.getElem?_append]),(hp1 1 (by simp)).trans (by simp [Array.getD_eq_getD_getElem?,Array.getElem?_append]),(hp1 2 (by simp)).trans (by simp [Array.getD_eq_getD_getElem?,Array.getElem?_append]),bw (hs1.slot 4)⟩
 have c1:=jJ hcW hs1.kept
 have j1:=hJg _ _ _ hJ0 hs1.kept
 show (Code.block 0 _).wpIn _ _ _ _ a1 W1
 refine wpIn_block (wpIn_loop (fun a W=>∃ k,k≤N∧wZ y v1 v2 (2*k) a∧ia β w W∧J ((List.finRange N).take k) W) (fun a _=>match a.tmps.getD 4 undef with|.int _ i=>(2*N - i).toNat|_=>0) ⟨0,Nat.zero_le _,f1,c1,j1⟩ ?_)
 rintro a2 W2 ⟨k,hk,f2,c2,j2⟩
 have hJk:∀ pre A B,J pre A→Kept A.heap.size (fun _=>False) A B→J pre B:=fun pre A B hj kk=>hJ pre A B none hj (pV kk) (fun r h=>by cases h)
 refine wpIn_seq (wpIn_seq (wpIn_mono (fG.in (pins:=[0,1,2,4]) (K:=mR P gl 31 β w W2) (i1 (2*k) (by omega)) (.inl rfl) k1 (fun _ _=>rfl) hm (sim f2 c2)) ?_))
 rintro e a3 W3 ⟨rfl,⟨β3,hs3⟩,hp3⟩
 have f3:=pin f2 hp3 hs3
 have c3:=jJ c2 hs3.kept
 have j3:=hJk _ _ _ j2 hs3.kept
 have t9:a3.eval (.tmp 9)=.bool (decide (((2*k:Nat):Int)<(2*N:Nat))):=ca (hs3.slot 9)
 by_cases hkN:k<N
 rotate_left
 ·
  refine wpIn_cond_false (by grind) (wpIn_exit ?_)
  obtain rfl:k=N:=by omega
  refine ⟨f3.defers,_,hres a3 W3,⟨_,rfl⟩,.inl ⟨_,?_,j3⟩⟩
  simp [List.take_of_length_le]
 refine wpIn_cond_true (by grind) (wpIn_skip ?_)
 refine wpIn_seq (wpIn_block (wpIn_seq (wpIn_mono (fG.in (pins:=[0,1,2,4]) (K:=mR P gl 31 β w W3) (i3 (2*k) (by omega)) (.inl rfl) k3 (fun _ _=>rfl) hm (sim f3 c3)) ?_)))
 rintro e a4 W4 ⟨rfl,⟨β4,hs4⟩,hp4⟩
 have f4:=pin f3 hp4 hs4
 have c4:=jJ c3 hs4.kept
 have j4:=hJk _ _ _ j3 hs4.kept
 have t5:a4.tmps.getD 5 undef=.int .i64 2:=bw (hs4.slot 5)
 refine wpIn_seq ?_
 subst hr4
 refine wpIn_region ?_
 have hr:List.range r4.size=List.range 9++[9,10,11]:=by rw [hsz];rfl
 rw [hr]
 have hgn:∀ i o,i<9→r4[i]? = some o→o.guard=none:=fun i o hi ho=>by
  have hmem:o∈r4.toList:=by
   obtain ⟨h1,h2⟩:=Array.getElem?_eq_some_iff.1 ho
   rw [← h2];simp
  have:=List.all_eq_true.1 hgd o hmem
  cases hg':o.guard with
  | none=>rfl
  | some x=>rw [hg'] at this;cases this
 have hsz9:(r4.extract 0 9).size=9:=by simp [hsz]
 have hpre:wpOpsIn Fence.wide 8 P (r4.extract 0 9) (fun e a' W'=>e=.normal∧(∃ β',gS (mR P gl 31 β w W4) β' (aY [19,20,21,24,27] [.raw y,.raw u,.int .i64 (2*k:Nat),.int .i64 ((2*k:Nat)+2),.int .i64 ((2*k:Nat)+2)] []) a' W')∧ki [0,1,2,4] a4 a') (List.range 9) a4 W4:=by
  have:=fG.ops (F:=Fence.wide) (n:=8) (K:=mR P gl 31 β w W4) (pins:=[0,1,2,4]) (i4 y u (2*k) (by omega)) (.inl rfl) k4 (fun _ _=>rfl) (gS.calm (ns:=[0,1,4,5]) (a:=a4) hg c4 f4.size f4.defers (fun k' n v hn hv=>by
   rcases k' with _|_|_|_|k'
   ·cases hn;cases hv;rw [f4.t0];exact .raw (fun cs e=>by grind)
   ·cases hn;cases hv;rw [f4.t1];exact hur.calm hclu c4
   ·cases hn;cases hv;rw [f4.t4];exact .int
   ·cases hn;cases hv;rw [t5];exact .int
   ·simp at hn))
  rwa [hsz9] at this
 refine z7 (ops':=r4.extract 0 9) (m:=9) (fun i hi=>by rw [Array.getElem?_extract];grind) hgn ?_ (List.range 9) (fun i hi=>List.mem_range.1 hi) a4 W4 hpre
 rintro a5 W5 ⟨⟨β5,hs5⟩,hp5⟩
 have f5:=pin f4 hp5 hs5
 have c5:=jJ c4 hs5.kept
 have j5:=hJk _ _ _ j4 hs5.kept
 have raw_inv:∀ {v a:Value} {β':bu} {W':World},Rel β' W' (.raw a) v→v=a:=fun h=>by cases h;rfl
 have t19:a5.eval (.tmp 19)=y:=raw_inv (hs5.slot 19)
 have t20:a5.eval (.tmp 20)=.slice (some ⟨b,off,none⟩) (2*N) cap:=(raw_inv (hs5.slot 20)).trans hue
 have t21:a5.eval (.tmp 21)=.int .i64 (2*k:Nat):=bw (hs5.slot 21)
 have t24:a5.eval (.tmp 24)=.int .i64 ((2*k:Nat)+2):=bw (hs5.slot 24)
 have t27:a5.eval (.tmp 27)=.int .i64 ((2*k:Nat)+2):=bw (hs5.slot 27)
 obtain ⟨o9,ho9,hd9,hop9,hg9⟩:=za h9
 obtain ⟨o10,ho10,hd10,hop10,hg10⟩:=za h10
 obtain ⟨o11,ho11,hd11,hop11,hg11⟩:=za h11
 have wnt:∀ (o:Oper) ys,o.guard=none→Region.wanted o ys=true:=fun o ys hg=>by simp [Region.wanted,hg]
 have e9:(execOp a5.eval o9).run P W5=.ok (.value (.slice (some ⟨b,off+2*k*32,none⟩) 2 2)) W5:=by
  have hb1:(Instr.sliceBounds true (2*N) cap (some (.int .i64 (2*k:Nat))) (some (.int .i64 ((2*k:Nat)+2))) (some (.int .i64 ((2*k:Nat)+2)))).run P W5=.ok (2*k,2*k+2,2*k+2) W5:=by
   have g1:(0:Int)≤((2*k:Nat):Int)+2∧((2*k:Nat):Int)+2≤cap:=by omega
   have g2:(0:Int)≤((2*k:Nat):Int)+2∧((2*k:Nat):Int)+2≤((2*k+2:Nat):Int):=by omega
   have g3:(0:Int)≤((2*k:Nat):Int)∧((2*k:Nat):Int)≤((2*k+2:Nat):Int):=by omega
   have e1:(((2*k:Nat):Int)+2).toNat=2*k+2:=by omega
   simp only [Instr.sliceBounds,Instr.sliceBound,cW,Sem.run_bind,Result.andThen_ok,Sem.run_ite,if_pos g1,Sem.run_pure,e1,if_pos g2,if_pos g3,Option.isSome_some,if_true,Int.toNat_natCast]
  have hne:¬(2*k+2=2*k):=by omega
  have e2:2*k+2 - 2*k=2:=by omega
  simp only [execOp,hop9,Instr.sliceAt,Instr.slice,t20,t21,t24,t27,Option.map_some,Sem.run_bind,run_underlying hu44,Result.andThen_ok,hb1,cY W5 hsh,Sem.run_pure,if_neg hne,e7,e2]
 simp only [wpOpsIn,ho9,ho10,ho11,wnt o9 _ hg9,if_true]
 refine ⟨fun _ _=>trivial,?_⟩
 show o9.uponIn _ _ _ _ _ _ ((execOp a5.eval o9).run P W5)
 rw [e9,Oper.uponIn_value,hd9,if_pos (wnt o10 _ hg10)]
 refine ⟨fun _ _=>trivial,?_⟩
 have hlen:((List.finRange N).take k).length<N:=by simp;omega
 obtain ⟨fn',tmps',asg,bd,hy10,hR⟩:=hY ((List.finRange N).take k) ⟨k,hkN⟩ W5 j5 hlen
 have e10:(execOp (a5.put (some 28) (.slice (some ⟨b,off+2*k*32,none⟩) 2 2)).eval o10).run P W5=.ok (.round l fn' tmps' asg bd) W5:=by
  have v19:(a5.put (some 28) (.slice (some ⟨b,off+2*k*32,none⟩) 2 2)).eval (.tmp 19)=.func (.yield l) #[] #[]:=by
   show (a5.put (some 28) _).tmps.getD 19 undef=_
   rw [sY (by decide),hy]
   exact t19
  have v28:(a5.put (some 28) (.slice (some ⟨b,off+2*k*32,none⟩) 2 2)).eval (.tmp 28)=.slice (some ⟨b,off+2*k*32,none⟩) 2 2:=mV (by rw [f5.size];decide)
  simp [execOp,hop10,resolve,v19,v28,Deferred.ofValue,invoke]
  omega
 show o10.uponIn _ _ _ _ _ _ ((execOp _ o10).run P W5)
 rw [e10,Oper.uponIn_round,hd10]
 generalize ha6:a5.put (some 28) (.slice (some ⟨b,off+2*k*32,none⟩) 2 2)=a6
 have sz6:a6.tmps.size=31:=by rw [← ha6,m4];exact f5.size
 have g6:∀ m,m≠28→a6.tmps.getD m undef=a5.tmps.getD m undef:=fun m hm'=>by rw [← ha6];exact sY hm'
 have d6:a6.defers=[]:=by rw [← ha6];exact f5.defers
 refine ⟨fun h=>(by cases h),hR.mono ?_⟩
 have e11:∀ (v:Bool) (W6:World),(execOp (a6.put (some 29) (.bool v)).eval o11).run P W6=.ok (.value (.bool (!v))) W6:=fun v W6=>by
  have v29:(a6.put (some 29) (.bool v)).eval (.tmp 29)=.bool v:=mV (by omega)
  have hun:(Op.unary UnOp.not (.bool v)).run P W6=.ok (.bool (!v)) W6:=rfl
  simp [execOp,hop11,v29,Result.andThen,hun]
 rintro e W6 (⟨rfl,j6,s6⟩|⟨rfl,jx6⟩)
 ·show (if Region.wanted o11 _=true then _ else _)
  rw [if_pos (wnt o11 _ hg11)]
  refine ⟨fun _ _=>trivial,?_⟩
  show o11.uponIn _ _ _ _ _ _ ((execOp _ o11).run P W6)
  rw [e11,Oper.uponIn_value,hd11]
  generalize ha7:a6.put (some 29) (.bool true)=a7
  have sz7:a7.tmps.size=31:=by rw [← ha7,m4];omega
  have v30:(a7.put (some 30) (.bool (!true))).eval (.tmp 30)=.bool false:=mV (by omega)
  refine wpIn_cond_false v30 (wpIn_skip ?_)
  have g8:∀ m,m≠28→m≠29→m≠30→(a7.put (some 30) (.bool (!true))).tmps.getD m undef=a5.tmps.getD m undef:=fun m h1 h2 h3=>by
   rw [sY h3,← ha7,sY h2];exact g6 m h1
  have f8:wZ y v1 v2 (2*k) (a7.put (some 30) (.bool (!true))):=⟨by rw [m4];omega,by rw [← ha7];exact d6,(g8 0 (by decide) (by decide) (by decide)).trans f5.t0,(g8 1 (by decide) (by decide) (by decide)).trans f5.t1,(g8 2 (by decide) (by decide) (by decide)).trans f5.t2,(g8 4 (by decide) (by decide) (by decide)).trans f5.t4⟩
  generalize a7.put (some 30) (.bool (!true))=a8 at f8
  have c6:ia β w W6:=s6 c5
  refine wpIn_mono (fG.in (F:=Fence.wide) (pins:=[0,1,2]) (K:=mR P gl 31 β w W6) (i2 (2*k) (by omega)) (.inl rfl) k2 (fun _ _=>rfl) hm (gS.calm (ns:=[2,4]) hg c6 f8.size f8.defers (fun k' n v hn hv=>by
   rcases k' with _|_|k'
   ·cases hn;cases hv;rw [f8.t2];exact h2.calm hcl2' c6
   ·cases hn;cases hv;rw [f8.t4];exact .int
   ·simp at hn))) ?_
  rintro e a9 W9 ⟨rfl,⟨β9,hs9⟩,hp9⟩
  have t4:a9.tmps.getD 4 undef=.int .i64 ((2*k:Nat)+2):=bw (hs9.slot 4)
  have f9:wZ y v1 v2 (2*(k+1)) a9:=⟨hs9.size,hs9.defers.quiet rfl,(hp9 0 (by simp)).trans f8.t0,(hp9 1 (by simp)).trans f8.t1,(hp9 2 (by simp)).trans f8.t2,t4.trans (by congr 1)⟩
  have c9:=jJ c6 hs9.kept
  rw [fin k hkN] at j6
  have j9:=hJk _ _ _ j6 hs9.kept
  refine ⟨⟨k+1,hkN,f9,c9,j9⟩,?_⟩
  show (match a9.tmps.getD 4 undef with|.int _ i=>(2*N - i).toNat|_=>0)<(match a2.tmps.getD 4 undef with|.int _ i=>(2*N - i).toNat|_=>0)
  rw [f9.t4,f2.t4]
  show (2*(N:Int) - ((2*(k+1):Nat):Int)).toNat<(2*(N:Int) - ((2*k:Nat):Int)).toNat
  omega
 ·show (if Region.wanted o11 _=true then _ else _)
  rw [if_pos (wnt o11 _ hg11)]
  refine ⟨fun _ _=>trivial,?_⟩
  show o11.uponIn _ _ _ _ _ _ ((execOp _ o11).run P W6)
  rw [e11,Oper.uponIn_value,hd11]
  generalize ha7:a6.put (some 29) (.bool false)=a7
  have sz7:a7.tmps.size=31:=by rw [← ha7,m4];omega
  have v30:(a7.put (some 30) (.bool (!false))).eval (.tmp 30)=.bool true:=mV (by omega)
  refine wpIn_cond_true v30 (wpIn_ret ?_)
  refine ⟨by rw [← ha7];exact d6,_,hres _ W6,⟨_,rfl⟩,.inr ⟨_,trivial,jx6⟩⟩
theorem zj {P:Program} {id d p:Nat} {r:Array Oper} (hsz:r.size=1) (h0:(r[0]?).map (fun o=>(o.dst,o.op,o.guard))=some (some d,.assign (.tmp p),none)) (l:Nat) (a:Act) (W:World) (K:Act→World→Prop) (hK:K (a.put (some d) (a.tmps.getD p undef)) W) :
  (Code.region id r false).wpIn (Fence.wide.inRound l) 7 P (Exit.then K (fun _ _ _=>False)) a W:=by
 refine wpIn_region ?_
 obtain ⟨o,ho,hd,hop,hg⟩:=za h0
 rw [hsz]
 show wpOpsIn _ _ _ _ _ [0] a W
 simp only [wpOpsIn,ho]
 rw [if_pos (by grind [Region.wanted])]
 refine ⟨fun _ _=>trivial,?_⟩
 rw [Oper.semAt_eq _ _ _ (fun c e=>by grind)]
 have e:(execOp a.eval o).run P W=.ok (.value (a.tmps.getD p undef)) W:=by
  simp only [execOp,hop,Sem.run_pure]
  rfl
 rw [e,Oper.uponIn_value,hd]
 exact hK
def lH {N:Nat} (h:Nat→Nat→Int) (pre:List (Fin N)) (r:Nat):Nat→Int:=match pre[r]? with
 | some x=>eJ (h (2*x.1)) (h (2*x.1+1))
 | none=>fun _=>0
theorem FH {os:List (Option Ob)} {N:Nat} {h:Nat→Nat→Int} {pre:List (Fin N)} {x:Fin N} :
  aJ os ⟨32,pre.length+1,true,.fn fun i j=>.int .u8 (bif Nat.blt i pre.length then lH h pre i j else aE (aQ (bf (eJ (h (2*x.1+0)) (h (2*x.1+1)))) j))⟩ ⟨32,(pre++[x]).length,true,.fn fun r j=>.int .u8 (lH h (pre++[x]) r j)⟩:=by
 refine ⟨rfl,by simp,rfl,fun i j hi hj=>ay.of_eq (congrArg (AV.int .u8) ?_)⟩
 have hi':i<pre.length+1:=hi
 unfold lH
 by_cases hlt:i<pre.length
 ·grind [cD,List.getElem?_append_left]
 ·have:i=pre.length:=by omega
  subst this
  rw [dn (Nat.le_refl _),List.getElem?_append_right (Nat.le_refl _),Nat.sub_self]
  show aE (aQ (bf _) j)=_
  rw [eV hj];rfl
theorem yQ {os:List (Option Ob)} {d x:Nat} {h:Nat→Nat→Int}:ay os (.aH 32 (2^(d - x - 1)) fun r k=>.int .u8 (lH (dP h x) (List.finRange (2^(d - x - 1))) (r+0) k)) (dD (2^(d - (x+1))) (dP h (x+1))) :=
 ay.iP rfl fun i j hi hj=>congrArg (AV.int .u8) (by simp_all [lH,dP,List.finRange])
end Go.Sp

namespace Go.Proofs.YtpefjkpdniiaoaaGreatDoor
open Go.IntKind (wrap)
open Int (toNat)
open Go Go.Am Go.Sp
set_option maxRecDepth 100000
def cL:Code→Code|.seq a _=>a|c=>c
def cR:Code→Code|.seq _ b=>b|c=>c
def cI:Code→Code|.block _ a=>a|.loop a=>a|c=>c
def cO:Code→Array Oper|.region _ o _=>o|_ => #[]
noncomputable def itC:Code:=Tryz.f351.body.getD .skip
noncomputable def itB:Code:=cI (cI (cR itC))
noncomputable def Ms:Code:=cL (cL itB)
noncomputable def MQ:Code:=cR (cR itB)
noncomputable def itK:Code:=cI (cL (cR itB))
noncomputable def Mm:Code:=cL itK
noncomputable def Ew:Code:=cL (cR itK)
theorem Ej:itC=.seq (cL itC) (.block 0 (.loop (.seq (.seq Ms (.cond (.tmp 9) .skip (.exit 0))) (.seq (.block 1 (.seq Mm (.seq Ew (.cond (.tmp 30) .ret .skip)))) MQ)))):=by kernel_rfl
def slT:Option Op→TypeId|some (.slice t ..)=>t|_=>0
def elT:Option TypeDesc→TypeId|some (.slice t)=>t|_=>0
noncomputable def itS:TypeId:=slT ((cO Ew)[9]?.map (·.op))
noncomputable def itE:TypeId:=elT (Tryz.prog.underlying itS)
theorem N5:Ew=.region 4 (cO Ew) false:=by kernel_rfl
theorem it1 (N k:Nat) (hN:N≤4000) (h:Nat→Nat→Int):fG Tryz.prog aZ bq 0 31 Ms (aY [1,2,4] [.bJ 1 fun _=>dD N h,.bJ 1 fun _=>.int .i64 2,.int .i64 k] []) (aY [9] [.bool (decide ((k:Int)<N))] []):=by
 refine jH (own:=bq)
  (let y0:List AV:=[.bool (decide ((k:Int)<(N:Int)))];(.again (fun (u:dH)=>Le 0 u (aY [9] y0 [])) [9] [] (y0) []))
  (by kernel_rfl) ?_
 exact jA (fun _ hs=>hs.le (⟨.refl _,trivial⟩) (trivial))
theorem it3 (N k:Nat) (hN:N≤4000) (h:Nat→Nat→Int) (hk:k+2≤N):fG Tryz.prog aZ bq 0 31 Mm (aY [1,2,4] [.bJ 1 fun _=>dD N h,.bJ 1 fun _=>.int .i64 2,.int .i64 k] []) (aY [5] [.int .i64 2] []):=by
 refine jH (own:=bq)
  (.bj (0≤(k:Int)∧(k:Int)≤(N:Int)) (.again (fun (u:dH)=>Le 0 u (aY [5] [Zi 2] [])) [5] [] [Zi (if (↑(N - toNat (k:Int)):Int)<2 then (↑(N - toNat (k:Int)):Int) else (2:Int))] []))
  (by kernel_rfl) ?_
 refine aD (by omega) ?_
 exact jA (fun _ hs=>hs.le (⟨.of_eq (congrArg _ (by omega)),trivial⟩) (trivial))
theorem it4 (y u:Value) (k:Nat) (hk:k≤4000):fG Tryz.prog aZ bq 0 31 (.region 4 ((cO Ew).extract 0 9) false) (aY [0,1,4,5] [.raw y,.bJ 1 fun _=>.raw u,.int .i64 k,.int .i64 2] []) (aY [19,20,21,24,27] [.raw y,.raw u,.int .i64 k,.int .i64 (k+2),.int .i64 (k+2)] []):=by
 refine jH (own:=bq)
  (.again (fun (u_1:dH)=>Le 0 u_1 (aY [19,20,21,24,27] [AV.raw y,AV.raw u,Zi k,Zi ((k:Int)+2),Zi ((k:Int)+2)] [])) [19,20,21,24,27] [] [AV.raw y,AV.raw u,Zi k,Zi (wrap .i64 ((k:Int)+2)),Zi (wrap .i64 ((k:Int)+2))] [])
  (by kernel_rfl) ?_
 exact jA (fun _ hs=>hs.le (⟨.refl _,.refl _,.refl _,aK (by omega),aK (by omega),trivial⟩) (trivial))
theorem it2 (k:Nat) (hk:k≤4000):fG Tryz.prog aZ bq 0 31 MQ (aY [2,4] [.bJ 1 fun _=>.int .i64 2,.int .i64 k] []) (aY [4] [.int .i64 (k+2)] []):=by
 refine jH (own:=bq)
  (.again (fun (u:dH)=>Le 0 u (aY [4] [Zi ((k:Int)+2)] [])) [4] [] [Zi (wrap .i64 ((k:Int)+2))] [])
  (by kernel_rfl) ?_
 exact jA (fun _ hs=>hs.le (⟨aK (by omega),trivial⟩) (trivial))
theorem it0:fG Tryz.prog aZ bq 0 31 (cL itC) (aY [] [] []) (aY [4] [.int .i64 0] []):=by
 refine jH (own:=bq)
  (.again (fun (u:dH)=>Le 0 u (aY [4] [Zi 0] [])) [4] [] [Zi 0] [])
  (by kernel_rfl) ?_
 exact jA (fun _ hs=>hs.le (⟨.refl _,trivial⟩) (trivial))
theorem wu (N:Nat) (hN:1≤N) (hN':N≤1000) (h:Nat→Nat→Int):Iter Tryz.prog aZ 351 [.bJ 1 fun _=>dD (2*N) h,.bJ 1 fun _=>.int .i64 2] N (fun k=>dD 2 fun r=>h (2*k.1+r)) :=
 EE (own:=bq) (tS:=itS) (tE:=itE) hN Tryz.func351 (by kernel_rfl:_=some itC) (by kernel_rfl) (by kernel_rfl) (by kernel_rfl) mixed Ej N5 (by kernel_rfl) (by kernel_rfl) (by kernel_rfl) (by kernel_rfl) (by kernel_rfl) (by kernel_rfl) (by kernel_rfl)
  (by kernel_rfl) (by kernel_rfl) (by kernel_rfl) (by kernel_rfl) (by kernel_rfl) it0 (fun k hk=>it1 (2*N) k (by omega) h) (fun k hk=>it3 (2*N) k (by omega) h hk) (fun y u k hk=>it4 y u k (by omega)) (fun k hk=>it2 k (by omega))
theorem GV (N:Nat) (hN':N≤1000) (h:Nat→Nat→Int):Pure Tryz.prog aZ 340 [dD N h,.int .i64 2] (.fn (.func 351) [] [.bJ 1 fun _=>dD N h,.bJ 1 fun _=>.int .i64 2]):=by
 refine ar (own:=bq) Tryz.func340 (by kernel_rfl) mixed (by kernel_rfl)
  (.ff (.out (AV.fn (Fn.func 351) [] [AV.bJ 1 fun k=>aQ [.aH 32 N fun i j=>Zb (h i j)] k,AV.bJ 1 fun k=>aQ [Zi 2] k]) [] (AV.fn (Fn.func (351:FuncId)) [] [AV.bJ 1 fun x=>dD N h,AV.bJ 1 fun x=>Zi 2]) []))
  (by kernel_rfl) ?_
 refine cz ?_
 exact aq (Hp uz uz)
def rA:Code→Code|.rangeFunc _ _ a _=>a|c=>c
def rB:Code→Code|.rangeFunc _ _ _ b=>b|c=>c
noncomputable def lvX:Code:=cI (cR (cI (cI (cL (cR (cR (Tryz.f318.body.getD .skip)))))))
noncomputable def lvF:Code:=cI (cR (cL (cR lvX)))
theorem Ey:lvF=.rangeFunc (.tmp 12) #[13] (.region 5 (cO (rA lvF)) false) (rB lvF):=by kernel_rfl
theorem KX:NMG aZ:=by
 intro g m f hg
 unfold aZ at hg
 cases e0:Nat.beq g 0 with
 | true=>rw [e0] at hg;simp only [cond_true,Option.some.injEq,Prod.mk.injEq] at hg;obtain ⟨rfl,rfl⟩:=hg;exact .bJ fun _ _=>.int
 | false =>
 cases e1:Nat.beq g 2 with
 | true=>rw [e0,e1] at hg;simp only [cond_true,cond_false,Option.some.injEq,Prod.mk.injEq] at hg;obtain ⟨rfl,rfl⟩:=hg;exact .bJ fun _ _=>.int
 | false =>
 cases e2:Nat.beq g 1 with
 | true=>rw [e0,e1,e2] at hg;simp only [cond_true,cond_false,Option.some.injEq,Prod.mk.injEq] at hg;obtain ⟨rfl,rfl⟩:=hg;exact .bJ fun _ _=>.int
 | false =>
 cases e3:Nat.beq g 3 with
 | true=>rw [e0,e1,e2,e3] at hg;simp only [cond_true,cond_false,Option.some.injEq,Prod.mk.injEq] at hg;obtain ⟨rfl,rfl⟩:=hg;exact .bJ fun _ _=>.int
 | false=>rw [e0,e1,e2,e3] at hg;cases hg
theorem Bc (n:Nat) (h:Nat→Nat→Int):NM (dD n h):=.aH fun _ _ _ _=>.int
theorem Du (N m:Nat) (C:Nat→Nat) (F:Nat→Nat→Nat→Int) (h:Nat→Nat→Int) (hb:∀ i,i<2*N→cS (h i) 32) (pre:List (Fin N)) (x:Fin N) (hp:pre.length<N) (hN:N≤1000) :
  fG Tryz.prog aZ bq 0 32 (rB lvF) (aY [5,13,3,4,12] [dD 2 fun r=>h (2*x.1+r),dD 2 fun r=>h (2*x.1+r),.ba 0 1 0 m,.own 1 1 0 0 1,.fn (.func 351) [] [.bJ 1 fun _=>dD (2*N) h,.bJ 1 fun _=>.int .i64 2]] [some ⟨1,m,true,.row fun i=>[dD (C i) (F i)]⟩,some ⟨1,1,true,.bc [[.ba 2 32 0 pre.length]]⟩,some ⟨32,pre.length,true,.fn fun r j=>.int .u8 (lH h pre r j)⟩]) (aY [3,4,12] [.ba 0 1 0 m,.own 1 1 0 0 1,.fn (.func 351) [] [.bJ 1 fun _=>dD (2*N) h,.bJ 1 fun _=>.int .i64 2]] [some ⟨1,m,true,.row fun i=>[dD (C i) (F i)]⟩,some ⟨1,1,true,.bc [[.ba 2 32 0 (pre++[x]).length]]⟩,some ⟨32,(pre++[x]).length,true,.fn fun r j=>.int .u8 (lH h (pre++[x]) r j)⟩]):=by
 refine jH (own:=bq)
  (.bj ((0:Int)≤0∧(0:Int)<2) (.bj ((0:Int)≤1∧(1:Int)<2) (.sc true 285 [.agg (bf (h (2*x.1+0))),.agg (bf (h (2*x.1+1)))] (.agg (bf (eJ (h (2*(↑x:Nat)+0)) (h (2*(↑x:Nat)+1))))) (.bj ((List.length pre+1)*32≤140737488355328) (.again (fun (u:dH)=>Le 0 u (aY [3,4,12] [.ba 0 1 0 m,.own 1 1 0 0 1,AV.fn (Fn.func (351:FuncId)) [] [AV.bJ 1 fun x=>dD (2*N) h,AV.bJ 1 fun x=>Zi 2]] [some ⟨1,m,true,bA.row fun i=>[dD (C i) (F i)]⟩,some ⟨1,1,true,.bc [[.ba 2 32 0 (List.length (pre++[x]))]]⟩,some ⟨32,List.length (pre++[x]),true,.fn fun r j=>Zb (lH h (pre++[x]) r j)⟩])) [3,4,12] [0,1,75] [.ba 0 1 0 m,.own 1 1 0 0 1,AV.fn (Fn.func (351:FuncId)) [] [AV.bJ 1 fun x=>.aH 32 (2*N) fun i j=>Zb (h i j),AV.bJ 1 fun x=>Zi 2]] [some ⟨1,m,true,bA.row fun i=>[.aH 32 (C i) fun i_1 j=>Zb (F i i_1 j)]⟩,some ⟨1,1,true,.bc [[.ba 2 32 0 (List.length pre+1)]]⟩,some ⟨32,List.length pre+1,true,.fn fun i j=>Zb (bif Nat.blt i (List.length pre) then lH h pre i j else aE (aQ (bf (eJ (h (2*x.1+0)) (h (2*x.1+1)))) j))⟩])))))
  (by kernel_rfl) ?_
 refine aD (by omega) ?_
 refine aD (by omega) ?_
 refine aM ((te (h ((2:Nat)*(↑x:Nat)+(0:Nat))) (h ((2:Nat)*(↑x:Nat)+(1:Nat)))) (hb _ (by have:=x.2;omega)) (hb _ (by have:=x.2;omega))) ?_
 refine aD (by omega) ?_
 exact jA (fun _ hs=>hs.le (⟨ay.refl _,ay.refl _,ay.refl _,trivial⟩) (⟨⟨rfl,rfl,rfl,fun _ _ _ _=>ay.refl _⟩,aJ.row ⟨ay.of_eq (by rw [List.length_append];rfl),trivial⟩,FH,trivial⟩))
theorem zG (m:Nat) (h1:1≤m) (hm:m≤100) (C:Nat→Nat) (F:Nat→Nat→Nat→Int):bI Tryz.prog aZ 341 [⟨1,m,true,.row fun i=>[dD (C i) (F i)]⟩] [.ba 0 1 0 m] (.aX []) [some ⟨1,m,true,.row fun i=>[dD (C (m - 1 - i)) (F (m - 1 - i))]⟩]:=by
 refine cg (own:=bq) (hand:=true) Tryz.func341 (by kernel_rfl) mixed (by kernel_rfl)
  (let y0:=(fun (x:{ x:Nat // x≤m / 2 })=>aY [0,2,3] [.ba 0 1 0 m,Zi x.1,Zi ((m:Int) - 1 - (↑(x.1):Int))] [some ⟨1,m,true,bA.row fun i=>[dD (C (eO m (x.1) i)) (F (eO m (x.1) i))]⟩]);let y1:=(fun (x:{ x:Nat // x≤m / 2 })=>m / 2 - x.1);(.loop ({ x:Nat // x≤m / 2 }) y0 y1 (⟨0,Nat.zero_le (m / 2)⟩) [0,2,3] [0] [.ba 0 1 0 m,Zi 0,Zi (wrap .i64 ((m:Int) - 1))] [some ⟨1,m,true,bA.row fun i=>[.aH 32 (C i) fun i_1 j=>Zb (F i i_1 j)]⟩] (fun x0=>(.br (decide ((x0.1:Int)<(m:Int) - 1 - (x0.1:Int))) (.bj (0≤(m:Int) - 1 - (x0.1:Int)∧(m:Int) - 1 - (x0.1:Int)<(m:Int)) (.bj (0≤(x0.1:Int)∧(x0.1:Int)<(m:Int)) (.bj (0≤(x0.1:Int)∧(x0.1:Int)<(m:Int)) (.bj (0≤(m:Int) - 1 - (x0.1:Int)∧(m:Int) - 1 - (x0.1:Int)<(m:Int)) (.again (bh 1 y0 y1 x0) [0,2,3] [0] [.ba 0 1 0 m,Zi (wrap .i64 ((x0.1:Int)+1)),Zi (wrap .i64 ((m:Int) - 1 - (x0.1:Int) - 1))] [some ⟨1,m,true,bA.put (toNat ((m:Int) - 1 - (x0.1:Int))+0) [.aH 32 (C (eO m x0.1 (toNat (x0.1:Int)+0))) fun i j=>Zb (F (eO m x0.1 (toNat (x0.1:Int)+0)) i j)] (bA.put (toNat (x0.1:Int)+0) [.aH 32 (C (eO m x0.1 (toNat ((m:Int) - 1 - (x0.1:Int))+0))) fun i j=>Zb (F (eO m x0.1 (toNat ((m:Int) - 1 - (x0.1:Int))+0)) i j)] (bA.row fun i=>[.aH 32 (C (eO m x0.1 i)) fun i_1 j=>Zb (F (eO m x0.1 i) i_1 j)]))⟩]))))) (.out (.aX []) [some ⟨1,m,true,bA.row fun i=>[.aH 32 (C (eO m x0.1 i)) fun i_1 j=>Zb (F (eO m x0.1 i) i_1 j)]⟩] (.aX []) [some ⟨1,m,true,bA.row fun i=>[dD (C (m - 1 - i)) (F (m - 1 - i))]⟩])))))
  (by kernel_rfl) ?_
 refine aV (fun _ hs=>hs.le (⟨ay.refl _,by exact ay.refl _,ay.of_eq (congrArg (AV.int .i64) (by dsimp only;rw [wI (by omega) (by omega)];omega)),trivial⟩) (by exact ⟨rev_eq C F (fun i=>i) (eO m 0) (fun i hi=>Nh hi),trivial⟩)) (fun x0=>?_)
 try (have q0:=x0.2;dsimp only at q0)
 refine aL (fun h1=>?_) (fun h1=>?_)
 ·have g1:=af h1
  refine aD (by omega) ?_
  refine aD (by omega) ?_
  refine aD (by omega) ?_
  refine aD (by omega) ?_
  exact aN (⟨x0.1+1,by omega⟩) (fun _ hs=>hs.le (⟨ay.refl _,by exact aK (by omega),ay.of_eq (congrArg (AV.int .i64) (by dsimp only;rw [wI (by omega) (by omega)];omega)),trivial⟩) (by exact ⟨Bl C F (by omega) (by omega) (by omega),trivial⟩)) (by dsimp only;omega)
 ·have g1:=aa h1
  exact da (ay.refl _) (⟨rev_eq C F (eO m x0.1) (fun i=>m - 1 - i) (fun i hi=>G3 (by omega) x0.2 hi),trivial⟩)
theorem K8 (N m:Nat) (C:Nat→Nat) (F:Nat→Nat→Nat→Int) (h:Nat→Nat→Int) (hb:∀ i,i<2*N→cS (h i) 32) (h1:1≤N) (hN:N≤1000):Opq Tryz.prog aZ 0 32 lvF (aY [3,4,12] [.ba 0 1 0 m,.own 1 1 0 0 1,.fn (.func 351) [] [.bJ 1 fun _=>dD (2*N) h,.bJ 1 fun _=>.int .i64 2]] [some ⟨1,m,true,.row fun i=>[dD (C i) (F i)]⟩,some ⟨1,1,true,.bc [[.ba 2 32 0 0]]⟩,some ⟨32,0,true,.fn fun r j=>.int .u8 (lH (N:=N) h [] r j)⟩]) (aY [3,4,12] [.ba 0 1 0 m,.own 1 1 0 0 1,.fn (.func 351) [] [.bJ 1 fun _=>dD (2*N) h,.bJ 1 fun _=>.int .i64 2]] [some ⟨1,m,true,.row fun i=>[dD (C i) (F i)]⟩,some ⟨1,1,true,.bc [[.ba 2 32 0 N]]⟩,some ⟨32,N,true,.fn fun r j=>.int .u8 (lH h (List.finRange N) r j)⟩]):=by
 have hq:=Ar (P:=Tryz.prog) (gl:=aZ) (own:=bq) (ng:=0) (nt:=32) (g:=.tmp 12) (p:=13) (d:=5) (assign:=.region 5 (cO (rA lvF)) false) (body:=rB lvF) (xs:=fun k:Fin N=>dD 2 fun r=>h (2*k.1+r)) (ns:=[3,4,12]) (vs:=[.ba 0 1 0 m,.own 1 1 0 0 1,.fn (.func 351) [] [.bJ 1 fun _=>dD (2*N) h,.bJ 1 fun _=>.int .i64 2]]) (obs:=fun pre=>[some ⟨1,m,true,.row fun i=>[dD (C i) (F i)]⟩,some ⟨1,1,true,.bc [[.ba 2 32 0 pre.length]]⟩,some ⟨32,pre.length,true,.fn fun r j=>.int .u8 (lH h pre r j)⟩]) (obs1:=[some ⟨1,m,true,.row fun i=>[dD (C i) (F i)]⟩,some ⟨1,1,true,.bc [[.ba 2 32 0 N]]⟩,some ⟨32,N,true,.fn fun r j=>.int .u8 (lH h (List.finRange N) r j)⟩])
  rfl (wu N h1 hN h) (fun x=>.aH fun _ _ _ _=>.int) (fun l a W K hK=>zj (by kernel_rfl) (by kernel_rfl) l a W K hK) (fun pre=>rfl) (fun pre=>.of ⟨.ba,.own,.fn (fun u h=>by cases h) (NML.spec (l:=[_,_]) ⟨.bJ fun _ _=>Bc _ _,.bJ fun _ _=>.int,trivial⟩),trivial⟩ ⟨fun i j _ _=>NML.aQ (l:=[_]) ⟨Bc _ _,trivial⟩ j,fun i j hi _=>(by obtain rfl:i=0:=Nat.lt_one_iff.1 hi;exact NML.aQ (l:=[_]) ⟨.ba,trivial⟩ j),fun _ _ _ _=>.int,trivial⟩) KX (by kernel_rfl) (fun pre x hp=>Du N m C F h hb pre x hp hN) (by rw [List.length_finRange])
 rw [← Ey] at hq
 exact hq
def ow7:FuncId→Option (List Bool):=fun f=>bif Nat.beq f 341 then some [true] else none
theorem A4 (d:Nat) (hd:d≤5) (h:Nat→Nat→Int) (hb:∀ i,i<2^d→cS (h i) 32):Pure Tryz.prog aZ 318 [dD (2^d) h] (.aH 1 (d+1) fun i _=>dD (2^(d - (d - i))) (dP h (d - i))):=by
 refine ar (own:=ow7) Tryz.func318 (by kernel_rfl) mixed (by kernel_rfl)
  (let y0:=(fun (x:{ x:Nat // x≤d })=>aY [0,3] [dD (2^(d - x.1)) (dP h (x.1)),.ba 0 1 0 (x.1+1)] [some ⟨1,x.1+1,true,bA.row fun i=>[dD (2^(d - i)) (dP h i)]⟩]);let y1:=(fun (x:{ x:Nat // x≤d })=>d - x.1);(.loop ({ x:Nat // x≤d }) y0 y1 (⟨0,Nat.zero_le d⟩) [0,3] [16] [.aH 32 (2^d) fun i j=>Zb (h i j),.ba 0 1 0 1] [some ⟨1,1,true,.bc [[.aH 32 (2^d) fun i j=>Zb (h i j)]]⟩] (fun x0=>(.br (decide ((↑(2^(d - x0.1)):Int)>1)) (.dc true 340 [.aH 32 (2^(d - x0.1)) fun i j=>Zb (dP h x0.1 i j),Zi 2] (AV.fn (Fn.func (351:FuncId)) [] [AV.bJ 1 fun x=>dD (2^(d - x0.1)) (dP h x0.1),AV.bJ 1 fun x=>Zi 2]) (.AG 32 (lvF) [3,4,12] [0,25,8243] [.ba 0 1 0 (x0.1+1),.own 1 1 0 0 1,AV.fn (Fn.func (351:FuncId)) [] [AV.bJ 1 fun x=>.aH 32 (2^(d - x0.1)) fun i j=>Zb (dP h x0.1 i j),AV.bJ 1 fun x=>Zi 2]] [some ⟨1,x0.1+1,true,bA.row fun i=>[.aH 32 (2^(d - i)) fun i_1 j=>Zb (dP h i i_1 j)]⟩,some ⟨1,1,true,.bc [[.bn]]⟩,some ⟨32,0,true,.ty (999999999:TypeId) (.bc [])⟩] (aY [3,4,12] [.ba 0 1 0 (x0.1+1),.own 1 1 0 0 1,AV.fn (Fn.func (351:FuncId)) [] [AV.bJ 1 fun x=>dD (2*2^(d - x0.1 - 1)) (dP h (x0.1)),AV.bJ 1 fun x=>Zi 2]] [some ⟨1,x0.1+1,true,bA.row fun i=>[dD (2^(d - i)) (dP h i)]⟩,some ⟨1,1,true,.bc [[.ba 2 32 0 (2^(d - x0.1 - 1))]]⟩,some ⟨32,2^(d - x0.1 - 1),true,.fn fun r j=>Zb (lH (dP h (x0.1)) (List.finRange (2^(d - x0.1 - 1))) r j)⟩]) (.bj ((x0.1+1+1)*24≤140737488355328) (.again (bh 0 y0 y1 x0) [0,3] [27] [.aH 32 (2^(d - x0.1 - 1)) fun r k=>Zb (lH (dP h x0.1) (List.finRange (2^(d - x0.1 - 1))) (r+0) k),.ba 0 1 0 (x0.1+1+1)] [some ⟨1,x0.1+1+1,true,bA.cat (x0.1+1) (bA.row fun i=>[.aH 32 (2^(d - i)) fun i_1 j=>Zb (dP h i i_1 j)]) (.bc [[.aH 32 (2^(d - x0.1 - 1)) fun r k=>Zb (lH (dP h x0.1) (List.finRange (2^(d - x0.1 - 1))) (r+0) k)]])⟩])))) (.gc 341 [⟨1,x0.1+1,true,bA.row fun i=>[.aH 32 (2^(d - i)) fun i_1 j=>Zb (dP h i i_1 j)]⟩] [.ba 0 1 0 (x0.1+1)] (.aX []) [some ⟨1,x0.1+1,true,bA.row fun i=>[dD (2^(d - (x0.1+1 - 1 - i))) (dP h (x0.1+1 - 1 - i))]⟩] (.out (.aH 1 (x0.1+1) fun r k=>aQ [.aH 32 (2^(d - (x0.1+1 - 1 - (r+0)))) fun i j=>Zb (dP h (x0.1+1 - 1 - (r+0)) i j)] k) [] (.aH 1 (d+1) fun i x=>dD (2^(d - (d - i))) (dP h (d - i))) []))))))
  (by kernel_rfl) ?_
 refine aV (fun _ hs=>hs.le (⟨.refl _,.refl _,trivial⟩) (⟨⟨rfl,rfl,rfl,fun i j hi hj=>ay.of_eq (by have:i=0:=Nat.lt_one_iff.1 hi;subst this;rfl)⟩,trivial⟩)) (fun x0=>?_)
 try (have q0:=x0.2;dsimp only at q0)
 have hp:=Gq (k:=x0.1) hd
 refine aL (fun h1=>?_) (fun h1=>?_)
 ·have g1:=af h1
  refine b9 (GV (2^(d - x0.1)) (by omega) (dP h x0.1)) ?_
  refine MB (fun _ hs=>hs.le (by exact ⟨ay.refl _,ay.refl _,ay.of_eq (by rw [tm (tP g1)]),trivial⟩) (by repeat' (first|exact trivial|(first|exact aJ.refl _|exact aJ.bx|exact aJ.zero|exact aJ.push rfl rfl|exact aJ.ct rfl|exact aJ.len (by omega)|exact aJ.row (by repeat' (first|exact trivial|(first|exact ay.refl _|exact aK (by omega)|exact ay.nil rfl|exact ay.of_eq (congrArg (AV.ba _ _ _) (by first|omega|(dsimp only;omega)))|exact ay.of_eq (congrArg (AV.int _) (by first|omega|(dsimp only;omega))))|refine And.intro ?_ ?_)))|refine And.intro ?_ ?_))) (K8 (2^(d - x0.1 - 1)) (x0.1+1) (fun i=>2^(d - i)) (dP h) (dP h x0.1) (fun i hi=>wB hb _ _ (by rw [tm (tP g1)] at hi;have e:=Nat.mul_le_mul_right (2^x0.1) (show i+1≤2^(d - x0.1) from hi);rw [Nat.add_mul,Nat.one_mul,← Nat.pow_add,show d - x0.1+x0.1=d by omega] at e;exact e)) qa (by have:=Gq (k:=x0.1+1) hd;show 2^(d - (x0.1+1))≤1000;omega)) ?_
  refine aD (by omega) ?_
  exact aN (⟨x0.1+1,tP g1⟩) (fun _ hs=>hs.le (⟨yQ,ay.refl _,trivial⟩) (⟨aJ.pS rfl (fun _ _=>cV.refl _) ⟨yQ,trivial⟩,trivial⟩)) (by have:=tP g1;dsimp only;omega)
 ·have g1:=aa h1
  refine gZ (zG (x0.1+1) (by omega) (by omega) (fun (i:Nat)=>2^(d - i)) (dP h)) ?_
  exact aq (ay.iP (by rw [pow_eq x0.2 g1]) (fun i j hi hj=>by have hj0:j=0:=Nat.lt_one_iff.1 hj;subst hj0;rw [pow_eq x0.2 g1];rfl))
abbrev HB:List AV:=[AV.agg [Zb 0,Zb 0,Zb 0,Zb 0,Zb 0,Zb 0,Zb 0,Zb 0,Zb 0,Zb 0,Zb 0,Zb 0,Zb 0,Zb 0,Zb 0,Zb 0,Zb 0,Zb 0,Zb 0,Zb 0,Zb 0,Zb 0,Zb 0,Zb 0,Zb 0,Zb 0,Zb 0,Zb 0,Zb 0,Zb 0,Zb 0,Zb 0],Zi 2]
abbrev HE:List AV:=[AV.agg [Zb 0,Zb 0,Zb 0,Zb 0,Zb 0,Zb 0,Zb 0,Zb 0,Zb 0,Zb 0,Zb 0,Zb 0,Zb 0,Zb 0,Zb 0,Zb 0,Zb 0,Zb 0,Zb 0,Zb 0,Zb 0,Zb 0,Zb 0,Zb 0,Zb 0,Zb 0,Zb 0,Zb 0,Zb 0,Zb 0,Zb 0,Zb 0],Zi 3]
theorem G2 (d:Nat) (hd:d≤5):Pure Tryz.prog aZ 317 [.int .i64 (2^d:Nat)] (.aX [.int .i64 d,.int .i64 0]):=by
 refine ar (own:=bq) Tryz.func317 (by kernel_rfl) mixed (by kernel_rfl)
  (let y0:=(fun (x:{ x:Nat // x≤d })=>aY [0,5] [Zi (↑(2^d):Int),Zi x.1] []);let y1:=(fun (x:{ x:Nat // x≤d })=>d - x.1);(.loop ({ x:Nat // x≤d }) y0 y1 (⟨0,Nat.zero_le d⟩) [0,5] [] [Zi (↑(2^d):Int),Zi 0] [] (fun x0=>(.br (decide ((x0.1:Int)<11)) (.bj (0≤(x0.1:Int)) (.br ((↑(2^d):Int)==wrap .i64 ((1:Int)*2^min (toNat (x0.1:Int)) 64)) (.out (.aX [Zi x0.1,Zi 0]) [] (.aX [Zi d,Zi 0]) []) (.again (bh 0 y0 y1 x0) [0,5] [] [Zi (↑(2^d):Int),Zi (wrap .i64 ((x0.1:Int)+1))] []))) (.out (.aX [Zi 0,Zi 1]) [] (.aX [Zi d,Zi 0]) [])))))
  (by kernel_rfl) ?_
 refine aV (fun _ hs=>hs.le (⟨.refl _,.refl _,trivial⟩) (trivial)) (fun x0=>?_)
 try (have q0:=x0.2;dsimp only at q0)
 refine aL (fun h1=>?_) (fun h1=>?_)
 ·have g1:=af h1
  refine aD (by omega) ?_
  refine aL (fun h3=>?_) (fun h3=>?_)
  ·have g3:=ai h3
   try simp only [Int.toNat_natCast] at g3
   exact aq (by exact ay.of_eq (congrArg (fun k:Nat=>AV.aX [.int .i64 k,.int .i64 0]) (LR (d:=d) (by omega) (by omega) g3).symm))
  ·have g3:=aj h3
   try simp only [Int.toNat_natCast] at g3
   exact aN (⟨x0.1+1,by have:=Iw (d:=d) (by omega) g3;omega⟩) (fun _ hs=>hs.le (⟨.refl _,aK (by omega),trivial⟩) (trivial)) (by have:=Iw (d:=d) (by omega) g3;dsimp only;omega)
 ·have g1:=aa h1
  exact aq (by (exfalso;omega))
theorem Hv (d:Nat) (hd:d≤5) (h:Nat→Nat→Int) (hb:∀ i,i<2^d→cS (h i) 32):Pure Tryz.prog aZ 284 [dD (2^d) h,.int .i64 0,.int .i64 0] (.aX [.aH 1 (d+1) fun i _=>dD (2^(d - (d - i))) (dP h (d - i)),.int .i64 0]):=by
 refine ar (own:=bq) Tryz.func284 (by kernel_rfl) mixed (by kernel_rfl)
  (let y0:AV:=(.aX [.aH 1 (d+1) fun i x=>dD (2^(d - (d - i))) (dP h (d - i)),Zi 0]);(.sc true 317 [Zi (↑(2^d):Int)] (.aX [Zi d,Zi 0]) (.ff (.bj (((decide ((0:Int)>(d:Int))||false)==false)=true→(0:Int)≤0) (.br (decide ((0:Int)>(d:Int))||false||false) (.out (.aX [.bn,Zi 2]) [] y0 []) (.dc true 318 [.aH 32 (2^d) fun i j=>Zb (h i j)] (.aH 1 (d+1) fun i x=>dD (2^(d - (d - i))) (dP h (d - i))) (.out (.aX [.aH 1 (d+1) fun i x=>.aH 32 (2^(d - (d - i))) fun i_1 j=>Zb (dP h (d - i) i_1 j),Zi 0]) [] y0 [])))))))
  (by kernel_rfl) ?_
 refine aM ((G2 d) (by assumption)) ?_
 refine cz ?_
 refine aD (fun _=>Int.le_refl _) ?_
 refine aL (fun h3=>?_) (fun h3=>?_)
 ·have g3:=(aA (aA af aB) aB) h3
  exact aq (by (exfalso;simp at g3;omega))
 ·have g3:=(aw (aw aa aF) aF) h3
  refine b9 (A4 (d) (by assumption) (h) (by assumption)) ?_
  exact aq (by exact ay.refl _)
theorem Nj (d:Nat) (hd:d≤5) (h:Nat→Nat→Int) (hb:∀ i,i<2^d→cS (h i) 32):Pure Tryz.prog aZ 243 [dD (2^d) h,.int .i64 0,.int .i64 0] (.aX [.agg (bf (dP h d 0)),.int .i64 0]):=by
 refine ar (own:=bq) Tryz.func243 (by kernel_rfl) mixed (by kernel_rfl)
  (.dc true 284 [.aH 32 (2^d) fun i j=>Zb (h i j),Zi 0,Zi 0] (.aX [.aH 1 (d+1) fun i x=>dD (2^(d - (d - i))) (dP h (d - i)),Zi 0]) (.ff (.bj ((0:Int)≤0∧(0:Int)<(↑(d+1):Int)) (.bj ((0:Int)≤0∧(0:Int)<(↑(2^(d - (d - 0))):Int)) (.out (.aX [.agg (bf (dP h (d - 0) 0)),Zi 0]) [] (.aX [.agg (bf (dP h d 0)),Zi 0]) [])))))
  (by kernel_rfl) ?_
 refine b9 (Hv (d) (by assumption) (h) (by assumption)) ?_
 refine cz ?_
 refine aD (by omega) ?_
 refine aD (by exact ⟨by omega,Int.ofNat_lt.2 qa⟩) ?_
 exact aq (ay.refl _)
theorem FK (d:Nat) (hd:d≤5) (h:Nat→Nat→Int) (hb:∀ i,i<2^d→cS (h i) 32):Pure Tryz.prog aZ 177 [dD (2^d) h] (.aX [.agg (bf (dP h d 0)),.int .i64 0]):=by
 refine ar (own:=bq) Tryz.func177 (by kernel_rfl) mixed (by kernel_rfl)
  (let y0:AV:=(.aX [.agg (bf (dP h d 0)),Zi 0]);(.sc true 243 [.aH 32 (2^d) fun i j=>Zb (h i j),Zi 0,Zi 0] y0 (.out y0 [] y0 [])))
  (by kernel_rfl) ?_
 refine aM (Nj (d) (by assumption) (h) (by assumption)) ?_
 exact aq (ay.of_eq rfl)
theorem GL (n:Nat) (f:Nat→Int) (hn:n≤16384) (hf:cS f n):Pure Tryz.prog aZ 242 [dC n f] (.aX [.agg (bf (et "specie/leaf".toUTF8 n f)),.int .i64 0]):=by
 have ht:=gj "specie/leaf".toUTF8 (by decide) (by decide) f n (by omega) hf
 refine ar (own:=bq) Tryz.func242 (by kernel_rfl) mixed (by kernel_rfl)
  (let y0:AV:=(.aX [.agg (bf (et (String.toUTF8 "specie/leaf") n f)),Zi 0]);(.br (decide ((n:Int)>16384)) (.out (.aX [.agg z32,Zi 5]) [] y0 []) (.sc true 82 [AV.str { data := #[(115:UInt8),112,101,99,105,101,47,108,101,97,102] },.aH 1 n fun i x=>Zb (f i)] y0 (.out y0 [] y0 []))))
  (by kernel_rfl) ?_
 refine aL (fun h0=>?_) (fun h0=>?_)
 ·have g0:=af h0
  exact aq (by (exfalso;omega))
 ·have g0:=aa h0
  refine aM (ht) ?_
  exact aq (by exact ay.refl _)
theorem DT (n:Nat) (f:Nat→Int) (hn:n≤16384) (hf:cS f n):Pure Tryz.prog aZ 212 [dC n f] (.agg (bf (et "specie/leaf".toUTF8 n f))):=by
 have ht:=fV "specie/leaf".toUTF8 (by decide) f n (by omega) hf
 refine ar (own:=bq) Tryz.func212 (by kernel_rfl) mixed (by kernel_rfl)
  (let y0:AV:=(.agg (bf (et (String.toUTF8 "specie/leaf") n f)));(.sc true 205 [AV.str { data := #[(115:UInt8),112,101,99,105,101,47,108,101,97,102] },.aH 1 n fun i x=>Zb (f i)] y0 (.out y0 [] y0 [])))
  (by kernel_rfl) ?_
 refine aM (ht) ?_
 exact aq (by exact ay.refl _)
theorem Gd (d:Nat) (hd:d≤5) (h:Nat→Nat→Int) (i:Nat) (hi:i<2^d):Pure Tryz.prog aZ 131 [dD (2^d) h,.int .i64 d,.int .i64 i] (.agg (bf (h i))):=by
 have w:=shw (x:=d) (by omega)
 refine ar (own:=bq) Tryz.func131 (by kernel_rfl) mixed (by kernel_rfl)
  (.bj (0≤(d:Int)) (.br (wrap .i64 ((1:Int)*2^min (toNat (d:Int)) 64)==(↑(2^d):Int)) (.bj (0≤(i:Int)∧(i:Int)<(↑(2^d):Int)) (.out (.agg (bf (h (toNat (i:Int))))) [] (.agg (bf (h i))) [])) .no))
  (by kernel_rfl) ?_
 refine aD (by omega) ?_
 refine aL (fun h1=>?_) (fun h1=>?_)
 ·have g1:=ai h1
  try simp only [Int.toNat_natCast] at g1
  refine aD (by omega) ?_
  exact aq (ay.refl _)
 ·have g1:=aj h1
  try simp only [Int.toNat_natCast] at g1
  exact (show False from (g1 w))
theorem G6 (d:Nat) (hd:d≤5) (h:Nat→Nat→Int) (L i:Nat) (hL:L<d) (hi:i<2^L) (u v:Nat→Int) (hu:cS u 32) (hv:cS v 32) (a1:Pure Tryz.prog aZ 131 [dD (2^d) h,.int .i64 (L+1:Nat),.int .i64 (2*i:Nat)] (.agg (bf u)))
  (a2:Pure Tryz.prog aZ 131 [dD (2^d) h,.int .i64 (L+1:Nat),.int .i64 (2*i+1:Nat)] (.agg (bf v))):Pure Tryz.prog aZ 131 [dD (2^d) h,.int .i64 L,.int .i64 i] (.agg (bf (eJ u v))):=by
 have w:=shw (x:=L) (by omega)
 have hi5:i<32:=Nat.lt_of_lt_of_le hi (Nat.le_trans (Nat.pow_le_pow_right (by decide) (show L≤5 by omega)) (by decide))
 have e1:((L+1:Nat):Int)=IntKind.wrap .i64 ((L:Int)+1):=by rw [wI (by omega) (by omega)];rfl
 have e2:((2*i:Nat):Int)=IntKind.wrap .i64 (2*(i:Int)):=by rw [wI (by omega) (by omega)];rfl
 have e3:((2*i+1:Nat):Int)=IntKind.wrap .i64 (IntKind.wrap .i64 (2*(i:Int))+1):=by rw [← e2,wI (by omega) (by omega)];rfl
 rw [e1,e2] at a1
 rw [e1,e3] at a2
 have a3:=pv u v hu hv
 refine ar (own:=bq) Tryz.func131 (by kernel_rfl) mixed (by kernel_rfl)
  (let y0:AV:=(.agg (bf (eJ u v)));(.bj (0≤(L:Int)) (.br (wrap .i64 ((1:Int)*2^min (toNat (L:Int)) 64)==(↑(2^d):Int)) (.bj (0≤(i:Int)∧(i:Int)<(↑(2^d):Int)) (.out (.agg (bf (h (toNat (i:Int))))) [] y0 [])) (.sc true 131 [.aH 32 (2^d) fun i j=>Zb (h i j),Zi (wrap .i64 ((L:Int)+1)),Zi (wrap .i64 ((2:Int)*(i:Int)))] (.agg (bf u)) (.sc true 131 [.aH 32 (2^d) fun i j=>Zb (h i j),Zi (wrap .i64 ((L:Int)+1)),Zi (wrap .i64 (wrap .i64 ((2:Int)*(i:Int))+1))] (.agg (bf v)) (.sc true 211 [.agg (bf u),.agg (bf v)] y0 (.out y0 [] y0 [])))))))
  (by kernel_rfl) ?_
 refine aD (by omega) ?_
 refine aL (fun h1=>?_) (fun h1=>?_)
 ·have g1:=ai h1
  try simp only [Int.toNat_natCast] at g1
  refine aD (by omega) ?_
  exact aq (by (exfalso;rw [w] at g1;exact absurd (yh (by omega) (by omega) (Int.ofNat_inj.1 g1)) (by omega)))
 ·have g1:=aj h1
  try simp only [Int.toNat_natCast] at g1
  refine aM (a1) ?_
  refine aM (a2) ?_
  refine aM (a3) ?_
  exact aq (by exact ay.refl _)
theorem s9 (d:Nat) (hd:d≤5) (h:Nat→Nat→Int) (hb:∀ i,i<2^d→cS (h i) 32):∀ k i:Nat,k≤d→i<2^(d - k)→Pure Tryz.prog aZ 131 [dD (2^d) h,.int .i64 (d - k:Nat),.int .i64 i] (.agg (bf (dP h k i)))
 | 0,i,hk,hi=>Gd d hd h i hi
 | k+1,i,hk,hi=>by
  have hp:2*2^(d - (k+1))=2^(d - k):=tm (by omega)
  have e:d - (k+1)+1=d - k:=by omega
  have b1:=s9 d hd h hb k (2*i) (by omega) (by omega)
  have b2:=s9 d hd h hb k (2*i+1) (by omega) (by omega)
  rw [← e] at b1 b2
  have hby:∀ j,j<2^(d - k)→cS (dP h k j) 32:=fun j hj=>wB hb k j (by
   have e:=Nat.mul_le_mul_right (2^k) (show j+1≤2^(d - k) from hj)
   rw [Nat.add_mul,Nat.one_mul,← Nat.pow_add,show d - k+k=d by omega] at e
   exact e)
  exact G6 d hd h (d - (k+1)) i (by omega) hi _ _ (hby _ (by omega)) (hby _ (by omega)) b1 b2
theorem Lo (h:Nat→Int) (i:Int) (n:Nat) (P:Nat→Nat→Int) (hn:n≤5) (hi:0≤i) (hi':i<(2^n:Nat)) (hh:cS h 32) (hP:∀ k,k<n→cS (P k) 32) :
  Pure Tryz.prog aZ 244 [.agg (bf h),.int .i64 n,.agg [.int .i64 i,dD n P]] (.aX [.agg (bf (bE h i P n)),.int .i64 0]):=by
 have w:=shw (x:=n) (by omega)
 have hi5:i<32:=Int.lt_of_lt_of_le hi' (Int.ofNat_le.2 (Nat.le_trans (Nat.pow_le_pow_right (by decide) hn) (by decide)))
 rw [← w] at hi'
 refine ar (own:=bq) Tryz.func244 (by kernel_rfl) mixed (by kernel_rfl)
  (let y0:List AV:=z32;let y1:=(fun (x:{ x:Nat // x≤n })=>n - x.1);(.bj (((decide ((n:Int)<0)||decide ((n:Int)>10)||decide (i<0))==false)=true→0≤(n:Int)) (.br (decide ((n:Int)<0)||decide ((n:Int)>10)||decide (i<0)||decide (i≥wrap .i64 ((1:Int)*2^min (toNat (n:Int)) 64))) (.out (.aX HB) [] (.aX [.agg (bf (bE h i P n)),Zi 0]) []) (.br ((n:Int) != (n:Int)) (.out (.aX HE) [] (.aX [.agg (bf (bE h i P n)),Zi 0]) []) (.loop ({ x:Nat // x≤n }) (fun x=>aY [3,6,39,40,8,41] [.own 0 32 0 0 32,.own 1 32 0 0 32,.aH 32 n fun i j=>Zb (P i j),Zi n,Zi (i / 2^x.1),Zi x.1] [some ⟨32,1,true,.fn fun x_1 j=>Zb (bE h i P (x.1) j)⟩,some ⟨32,1,true,.bc [y0]⟩]) y1 (⟨0,Nat.zero_le n⟩) [3,6,39,40,8,41] [0,16] [.own 0 32 0 0 32,.own 1 32 0 0 32,.aH 32 n fun i j=>Zb (P i j),Zi n,Zi i,Zi 0] [some ⟨32,1,true,.bc [bf h]⟩,some ⟨32,1,true,.bc [y0]⟩] (fun x5=>(.br (decide ((x5.1:Int)<(n:Int))) (.bj (0≤(x5.1:Int)∧(x5.1:Int)<(n:Int)) (.br (Int.tmod (i / 2^x5.1) (2:Int)==0) (.sc true 285 [.agg (bf (bE h i P x5.1)),.agg (bf (P (toNat (x5.1:Int))))] (.agg (bf (eJ (bE h i P x5.1) (P (toNat (x5.1:Int)))))) (.again (bh 0 (fun x=>aY [3,6,39,40,8,41] [.own 0 32 0 0 32,.own 1 32 0 0 32,.aH 32 n fun i j=>Zb (P i j),Zi n,Zi (i / 2^x.1),Zi x.1] [some ⟨32,1,true,.fn fun x_1 j=>Zb (bE h i P (x.1) j)⟩,some ⟨32,1,true,.bc [y0]⟩]) y1 x5) [3,6,39,40,8,41] [0,1] [.own 0 32 0 0 32,.own 1 32 0 0 32,.aH 32 n fun i j=>Zb (P i j),Zi n,Zi (wrap .i64 (Int.tdiv (i / 2^x5.1) (2:Int))),Zi (wrap .i64 ((x5.1:Int)+1))] [some ⟨32,1,true,.fn fun i_1 j=>Zb (bif Nat.beq i_1 0&&(Nat.ble 0 j&&Nat.blt j 32) then aE (aQ (bf (eJ (bE h i P x5.1) (P (toNat (x5.1:Int))))) (j - 0)) else bE h i P x5.1 j)⟩,some ⟨32,1,true,.bc [y0]⟩])) (.sc true 285 [.agg (bf (P (toNat (x5.1:Int)))),.agg (bf (bE h i P x5.1))] (.agg (bf (eJ (P (toNat (x5.1:Int))) (bE h i P x5.1)))) (.again (bh 0 (fun x=>aY [3,6,39,40,8,41] [.own 0 32 0 0 32,.own 1 32 0 0 32,.aH 32 n fun i j=>Zb (P i j),Zi n,Zi (i / 2^x.1),Zi x.1] [some ⟨32,1,true,.fn fun x_1 j=>Zb (bE h i P (x.1) j)⟩,some ⟨32,1,true,.bc [y0]⟩]) y1 x5) [3,6,39,40,8,41] [0,1] [.own 0 32 0 0 32,.own 1 32 0 0 32,.aH 32 n fun i j=>Zb (P i j),Zi n,Zi (wrap .i64 (Int.tdiv (i / 2^x5.1) (2:Int))),Zi (wrap .i64 ((x5.1:Int)+1))] [some ⟨32,1,true,.fn fun i_1 j=>Zb (bif Nat.beq i_1 0&&(Nat.ble 0 j&&Nat.blt j 32) then aE (aQ (bf (eJ (P (toNat (x5.1:Int))) (bE h i P x5.1))) (j - 0)) else bE h i P x5.1 j)⟩,some ⟨32,1,true,.bc [y0]⟩])))) (.out (.aX [.agg (bf (bE h i P x5.1)),Zi 0]) [] (.aX [.agg (bf (bE h i P n)),Zi 0]) []))))))))
  (by kernel_rfl) ?_
 refine aD (fun hr=>by have hr:=(dd (aw (aw aa aa) aa)) hr;omega) ?_
 refine aL (fun h1=>?_) (fun h1=>?_)
 ·have g1:=(aA (aA (aA af af) af) af) h1
  try simp only [Int.toNat_natCast] at g1
  exact aq (by (exfalso;omega))
 ·have g1:=(aw (aw (aw aa aa) aa) aa) h1
  try simp only [Int.toNat_natCast] at g1
  refine aL (fun h3=>?_) (fun h3=>?_)
  ·have g3:=aU h3
   exact aq (by (exfalso;omega))
  ·have g3:=aR h3
   refine aV (fun _ hs=>hs.le (⟨.refl _,.refl _,.refl _,.refl _,ay.of_eq (congrArg _ (by rw [show i / 2^0=i by simp])),.refl _,trivial⟩) (⟨aJ.Ab rfl,aJ.refl _,trivial⟩)) (fun x5=>?_)
   try (have q5:=x5.2;dsimp only at q5)
   refine aL (fun h6=>?_) (fun h6=>?_)
   ·have g6:=af h6
    refine aD (by omega) ?_
    refine aL (fun h8=>?_) (fun h8=>?_)
    ·have g8:=ai h8
     refine aM (te (bE h i P x5.1) (P (toNat (↑x5.1:Int))) (by exact sy hh _) (by exact hP _ (by omega))) ?_
     exact aN (⟨x5.1+1,by omega⟩) (fun _ hs=>hs.le (⟨.refl _,.refl _,.refl _,.refl _,ay.of_eq (congrArg _ (tU hi (by omega))),aK (by omega),trivial⟩) (⟨sS (Ir hi g8),aJ.refl _,trivial⟩)) (by dsimp only;omega)
    ·have g8:=aj h8
     refine aM (te (P (toNat (↑x5.1:Int))) (bE h i P x5.1) (by exact hP _ (by omega)) (by exact sy hh _)) ?_
     exact aN (⟨x5.1+1,by omega⟩) (fun _ hs=>hs.le (⟨.refl _,.refl _,.refl _,.refl _,ay.of_eq (congrArg _ (tU hi (by omega))),aK (by omega),trivial⟩) (⟨sS (HU hi g8),aJ.refl _,trivial⟩)) (by dsimp only;omega)
   ·have g6:=aa h6
    exact aq (by exact ay.of_eq (congrArg (fun k:Nat=>AV.aX [.agg (bf (bE h i P k)),.int .i64 0]) (by omega)))
theorem I9 (h:Nat→Int) (i:Int) (l n:Nat) (P:Nat→Nat→Int) (hl:l≤5) (hne:n≠l) (hn:n≤1000000) (hi:0≤i) (hi':i<(2^l:Nat)) :
  Pure Tryz.prog aZ 244 [.agg (bf h),.int .i64 l,.agg [.int .i64 i,dD n P]] (.aX [.agg (bf fun _=>0),.int .i64 3]):=by
 have w:=shw (x:=l) (by omega)
 rw [← w] at hi'
 refine ar (own:=bq) Tryz.func244 (by kernel_rfl) mixed (by kernel_rfl)
  (let y0:AV:=(.aX [.agg (bf fun x=>(0:Int)),Zi 3]);(.bj (((decide ((l:Int)<0)||decide ((l:Int)>10)||decide (i<0))==false)=true→0≤(l:Int)) (.br (decide ((l:Int)<0)||decide ((l:Int)>10)||decide (i<0)||decide (i≥wrap .i64 ((1:Int)*2^min (toNat (l:Int)) 64))) (.out (.aX HB) [] y0 []) (.br ((n:Int) != (l:Int)) (.out (.aX HE) [] y0 []) .no))))
  (by kernel_rfl) ?_
 refine aD (fun hr=>by have hr:=(dd (aw (aw aa aa) aa)) hr;omega) ?_
 refine aL (fun h1=>?_) (fun h1=>?_)
 ·have g1:=(aA (aA (aA af af) af) af) h1
  try simp only [Int.toNat_natCast] at g1
  exact aq (by (exfalso;omega))
 ·have g1:=(aw (aw (aw aa aa) aa) aa) h1
  try simp only [Int.toNat_natCast] at g1
  refine aL (fun h3=>?_) (fun h3=>?_)
  ·have g3:=aU h3
   exact aq (by exact ay.refl _)
  ·have g3:=aR h3
   exact (show False from (hne (by omega)))
theorem Gf (r h:Nat→Int) (i:Int) (n:Nat) (P:Nat→Nat→Int) (hn:n≤5) (hi:0≤i) (hi':i<(2^n:Nat)) (hh:cS h 32) (hP:∀ k,k<n→cS (P k) 32) :
  Pure Tryz.prog aZ 178 [.agg (bf r),.agg (bf h),.int .i64 n,.agg [.int .i64 i,dD n P]] (.bool (hEq (bE h i P n) r)):=by
 have hf:=Lo h i n P hn hi hi' hh hP
 refine ar (own:=bq) Tryz.func178 (by kernel_rfl) mixed (by kernel_rfl)
  (.sc true 244 [.agg (bf h),Zi n,.agg [Zi i,.aH 32 n fun i j=>Zb (P i j)]] (.aX [.agg (bf (bE h i P n)),Zi 0]) (.out (.bool (bE h i P n 0==r 0&&(bE h i P n 1==r 1&&(bE h i P n 2==r 2&&(bE h i P n 3==r 3&&(bE h i P n 4==r 4&&(bE h i P n 5==r 5&&(bE h i P n 6==r 6&&(bE h i P n 7==r 7&&(bE h i P n 8==r 8&&(bE h i P n 9==r 9&&(bE h i P n 10==r 10&&(bE h i P n 11==r 11&&(bE h i P n 12==r 12&&(bE h i P n 13==r 13&&(bE h i P n 14==r 14&&(bE h i P n 15==r 15&&(bE h i P n 16==r 16&&(bE h i P n 17==r 17&&(bE h i P n 18==r 18&&(bE h i P n 19==r 19&&(bE h i P n 20==r 20&&(bE h i P n 21==r 21&&(bE h i P n 22==r 22&&(bE h i P n 23==r 23&&(bE h i P n 24==r 24&&(bE h i P n 25==r 25&&(bE h i P n 26==r 26&&(bE h i P n 27==r 27&&(bE h i P n 28==r 28&&(bE h i P n 29==r 29&&(bE h i P n 30==r 30&&(bE h i P n 31==r 31&&true))))))))))))))))))))))))))))))))) [] (.bool (hEq (bE h i P n) r)) []))
  (by kernel_rfl) ?_
 refine aM (hf) ?_
 exact aq (ay.refl _)
theorem Hn (r h:Nat→Int) (i:Int) (l n:Nat) (P:Nat→Nat→Int) (hl:l≤5) (hne:n≠l) (hn:n≤1000000) (hi:0≤i) (hi':i<(2^l:Nat)) :
  Pure Tryz.prog aZ 178 [.agg (bf r),.agg (bf h),.int .i64 l,.agg [.int .i64 i,dD n P]] (.bool false):=by
 have hf:=I9 h i l n P hl hne hn hi hi'
 refine ar (own:=bq) Tryz.func178 (by kernel_rfl) mixed (by kernel_rfl)
  (.sc true 244 [.agg (bf h),Zi l,.agg [Zi i,.aH 32 n fun i j=>Zb (P i j)]] (.aX [.agg (bf fun x=>(0:Int)),Zi 3]) (.out (.bool false) [] (.bool false) []))
  (by kernel_rfl) ?_
 refine aM (hf) ?_
 exact aq (ay.refl _)
theorem Jv (h:Nat→Int) (i:Int) (n:Nat) (P:Nat→Nat→Int) (hn:n≤1000000) (hi:0≤i) (hi':i<9223372036854775807) (hh:cS h 32) (hP:∀ k,k<n→cS (P k) 32) :
  Pure Tryz.prog aZ 130 [.agg (bf h),.agg [.int .i64 i,dD n P]] (.agg (bf (bE h i P n))):=by
 refine ar (own:=bq) Tryz.func130 (by kernel_rfl) mixed (by kernel_rfl)
  (let y0:List AV:=z32;let y1:=(fun (x:{ x:Nat // x≤n })=>n - x.1);(.loop ({ x:Nat // x≤n }) (fun x=>aY [2,3,4,5,6] [.own 0 32 0 0 32,.own 1 2 0 0 2,.own 2 32 0 0 32,Zi (i / 2^x.1),Zi x.1] [some ⟨32,1,true,.fn fun x_1 j=>Zb (bE h i P (x.1) j)⟩,some ⟨2,1,true,.bc [[Zi i,.aH 32 n fun i j=>Zb (P i j)]]⟩,some ⟨32,1,true,.bc [y0]⟩]) y1 (⟨0,Nat.zero_le n⟩) [2,3,4,5,6] [0,8,16] [.own 0 32 0 0 32,.own 1 2 0 0 2,.own 2 32 0 0 32,Zi i,Zi 0] [some ⟨32,1,true,.bc [bf h]⟩,some ⟨2,1,true,.bc [[Zi i,.aH 32 n fun i j=>Zb (P i j)]]⟩,some ⟨32,1,true,.bc [y0]⟩] (fun x0=>(.br (decide ((x0.1:Int)<(n:Int))) (.br (Int.tmod (i / 2^x0.1) (2:Int)==0) (.bj (0≤(x0.1:Int)∧(x0.1:Int)<(n:Int)) (.sc true 211 [.agg (bf (bE h i P x0.1)),.agg (bf (P (toNat (x0.1:Int))))] (.agg (bf (eJ (bE h i P x0.1) (P (toNat (x0.1:Int)))))) (.again (bh 0 (fun x=>aY [2,3,4,5,6] [.own 0 32 0 0 32,.own 1 2 0 0 2,.own 2 32 0 0 32,Zi (i / 2^x.1),Zi x.1] [some ⟨32,1,true,.fn fun x_1 j=>Zb (bE h i P (x.1) j)⟩,some ⟨2,1,true,.bc [[Zi i,.aH 32 n fun i j=>Zb (P i j)]]⟩,some ⟨32,1,true,.bc [y0]⟩]) y1 x0) [2,3,4,5,6] [0,1,2] [.own 0 32 0 0 32,.own 1 2 0 0 2,.own 2 32 0 0 32,Zi (wrap .i64 (Int.tdiv (i / 2^x0.1) (2:Int))),Zi (wrap .i64 ((x0.1:Int)+1))] [some ⟨32,1,true,.fn fun i_1 j=>Zb (bif Nat.beq i_1 0&&(Nat.ble 0 j&&Nat.blt j 32) then aE (aQ (bf (eJ (bE h i P x0.1) (P (toNat (x0.1:Int))))) (j - 0)) else bE h i P x0.1 j)⟩,some ⟨2,1,true,.bc [[Zi i,.aH 32 n fun i j=>Zb (P i j)]]⟩,some ⟨32,1,true,.bc [y0]⟩]))) (.bj (0≤(x0.1:Int)∧(x0.1:Int)<(n:Int)) (.sc true 211 [.agg (bf (P (toNat (x0.1:Int)))),.agg (bf (bE h i P x0.1))] (.agg (bf (eJ (P (toNat (x0.1:Int))) (bE h i P x0.1)))) (.again (bh 0 (fun x=>aY [2,3,4,5,6] [.own 0 32 0 0 32,.own 1 2 0 0 2,.own 2 32 0 0 32,Zi (i / 2^x.1),Zi x.1] [some ⟨32,1,true,.fn fun x_1 j=>Zb (bE h i P (x.1) j)⟩,some ⟨2,1,true,.bc [[Zi i,.aH 32 n fun i j=>Zb (P i j)]]⟩,some ⟨32,1,true,.bc [y0]⟩]) y1 x0) [2,3,4,5,6] [0,1,2] [.own 0 32 0 0 32,.own 1 2 0 0 2,.own 2 32 0 0 32,Zi (wrap .i64 (Int.tdiv (i / 2^x0.1) (2:Int))),Zi (wrap .i64 ((x0.1:Int)+1))] [some ⟨32,1,true,.fn fun i_1 j=>Zb (bif Nat.beq i_1 0&&(Nat.ble 0 j&&Nat.blt j 32) then aE (aQ (bf (eJ (P (toNat (x0.1:Int))) (bE h i P x0.1))) (j - 0)) else bE h i P x0.1 j)⟩,some ⟨2,1,true,.bc [[Zi i,.aH 32 n fun i j=>Zb (P i j)]]⟩,some ⟨32,1,true,.bc [y0]⟩])))) (.out (.agg (bf (bE h i P x0.1))) [] (.agg (bf (bE h i P n))) [])))))
  (by kernel_rfl) ?_
 refine aV (fun _ hs=>hs.le (⟨ay.refl _,ay.refl _,ay.refl _,by exact ay.of_eq (congrArg _ (by rw [show i / 2^0=i by simp])),by exact ay.refl _,trivial⟩) (⟨aJ.Ab rfl,aJ.refl _,aJ.refl _,trivial⟩)) (fun x0=>?_)
 try (have q0:=x0.2;dsimp only at q0)
 refine aL (fun h1=>?_) (fun h1=>?_)
 ·have g1:=af h1
  refine aL (fun h2=>?_) (fun h2=>?_)
  ·have g2:=ai h2
   refine aD (by omega) ?_
   refine aM (pv (bE h i P x0.1) (P (toNat (↑x0.1:Int))) (by exact sy hh _) (by exact hP _ (by omega))) ?_
   exact aN (⟨x0.1+1,by omega⟩) (fun _ hs=>hs.le (⟨ay.refl _,ay.refl _,ay.refl _,by exact ay.of_eq (congrArg _ (tU hi (by omega))),by exact aK (by omega),trivial⟩) (⟨sS (Ir hi g2),aJ.refl _,aJ.refl _,trivial⟩)) (by dsimp only;omega)
  ·have g2:=aj h2
   refine aD (by omega) ?_
   refine aM (pv (P (toNat (↑x0.1:Int))) (bE h i P x0.1) (by exact hP _ (by omega)) (by exact sy hh _)) ?_
   exact aN (⟨x0.1+1,by omega⟩) (fun _ hs=>hs.le (⟨ay.refl _,ay.refl _,ay.refl _,by exact ay.of_eq (congrArg _ (tU hi (by omega))),by exact aK (by omega),trivial⟩) (⟨sS (HU hi g2),aJ.refl _,aJ.refl _,trivial⟩)) (by dsimp only;omega)
 ·have g1:=aa h1
  exact aq (ay.of_eq (congrArg (fun k:Nat=>AV.agg (bf (bE h i P k))) (by omega)))
end Go.Proofs.YtpefjkpdniiaoaaGreatDoor
