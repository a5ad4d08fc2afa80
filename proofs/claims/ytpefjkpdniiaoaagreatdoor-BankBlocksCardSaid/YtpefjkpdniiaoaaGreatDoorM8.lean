/- Part of the proof: CX24, CX15, CX16, CX17, CX18, Led2, CX19, CV17, Bnk6, CX25, CX26, CX27, Bnk7, CX28, Bnk8, CX29, CX30, Bnk9, CX31, Bnk10, CX32, CXS. -/
import Derived.Test.YtpefjkpdniiaoaaGreatDoorM7
import Derived.Test.YtpefjkpdniiaoaaGreatDoorProg
import Derived.Test.YtpefjkpdniiaoaaGreatDoorM3
import Derived.Test.YtpefjkpdniiaoaaGreatDoorM5
namespace Go.Proofs.YtpefjkpdniiaoaaGreatDoor
open Go.IntKind (wrap)
open Int (toNat)
open Go Go.Am Go.Sp
set_option maxRecDepth 100000
theorem Gp (k:aS) (h:k.bT.Ok) (hw:k.bT.gr.W) (hr:k.nr<9223372036854775808) (hs:k.ns<9223372036854775808):Pure Tryz.prog aZ 67 [.agg k.cells] (.bool (eL k)):=by
 have c1:=fun i hx=>FC k.bT (k.X i) h hx
 have c2:=fun i=>tI k.bT (cG (k.R i)) hw
 have c3:=fun h=>DP k.nr k.R h
 have c4:=fun i=>Cr k.bT (k.X i)
 refine ar (own:=bq) Tryz.func67 (by kernel_rfl) mixed (by kernel_rfl)
  (let y0:List (Option Ob):=[some ⟨50,1,true,.bc [aS.cells k]⟩];(.br (decide ((k.4:Int)>100)||(k.6:Int) != (k.4:Int)) (.out (.bool false) [] (.bool (eL k)) []) (.loop ({ x:Nat // x≤aS.nr k∧(fun (i:Nat)=>∀ (j:Nat),j<i→xC k j=true) x }) (fun x=>aY [1,5,3] [.own 0 50 0 0 50,.own 0 50 0 8 1,Zi x.1] y0) (fun x=>aS.nr k - x.1) (⟨0,⟨Nat.zero_le (aS.nr k),fun (j:Nat) (hj:j<0)=>absurd hj (Nat.not_lt_zero j)⟩⟩) [1,5,3] [0] [.own 0 50 0 0 50,.own 0 50 0 8 1,Zi 0] (y0) (fun x2=>(.br (decide ((x2.1:Int)<(k.4:Int))) (.bj (0≤(x2.1:Int)∧(x2.1:Int)<(k.4:Int)) (.sc ((k.5 (toNat (x2.1:Int)) 0 != k.1)==false) 111 [.agg (aI.cells (aS.bT k)),.agg [Zi (k.5 (toNat (x2.1:Int)) 0),Zi (k.5 (toNat (x2.1:Int)) 1),Zi (k.5 (toNat (x2.1:Int)) 2),Zi (k.5 (toNat (x2.1:Int)) 3),Zi (k.5 (toNat (x2.1:Int)) 4),Zi (k.5 (toNat (x2.1:Int)) 5),Zi (k.5 (toNat (x2.1:Int)) 6),Zi (k.5 (toNat (x2.1:Int)) 7),Zi (k.5 (toNat (x2.1:Int)) 8),Zi (k.5 (toNat (x2.1:Int)) 9),Zi (k.5 (toNat (x2.1:Int)) 10)]] (.bool (dV (aS.bT k) (cG (aS.R k (toNat (x2.1:Int)))))) (.bj (((k.5 (toNat (x2.1:Int)) 0 != k.1 || !dV k.2 (cG (k.5 (toNat (x2.1:Int)))))==false)=true→0≤(x2.1:Int)∧(x2.1:Int)<(k.6:Int)) (.sc ((k.5 (toNat (x2.1:Int)) 0 != k.1 || !dV k.2 (cG (k.5 (toNat (x2.1:Int)))))==false) 66 [.agg [Zi (aI.gr (aS.bT k)).1,Zi (aI.gr (aS.bT k)).2,Zi (aI.gr (aS.bT k)).3],Zi (k.7 (toNat (x2.1:Int)))] (.bool (er (aS.bT k) (aS.X k (toNat (x2.1:Int))))) (.bj (((k.5 (toNat (x2.1:Int)) 0 != k.1 || !dV k.2 (cG (k.5 (toNat (x2.1:Int)))) || !er k.2 (k.7 (toNat (x2.1:Int))))==false)=true→0≤(x2.1:Int)∧(x2.1:Int)<(k.6:Int)) (.sc ((k.5 (toNat (x2.1:Int)) 0 != k.1 || !dV k.2 (cG (k.5 (toNat (x2.1:Int)))) || !er k.2 (k.7 (toNat (x2.1:Int))))==false) 112 [.agg (aI.cells (aS.bT k)),Zi (k.7 (toNat (x2.1:Int)))] (.agg [Zi (cu (aS.bT k) (bN.g (aI.gr (aS.bT k))) (aS.X k (toNat (x2.1:Int)))),Zi (cu (aS.bT k) (aI.g1 (aS.bT k)) (aS.X k (toNat (x2.1:Int)))),Zi (cu (aS.bT k) (aI.g2 (aS.bT k)) (aS.X k (toNat (x2.1:Int))))]) (.br (k.5 (toNat (x2.1:Int)) 0 != k.1 || !dV k.2 (cG (k.5 (toNat (x2.1:Int)))) || !er k.2 (k.7 (toNat (x2.1:Int))) || !(cu k.2 (aI.gr (aS.bT k)).3 (k.7 (toNat (x2.1:Int)))==k.5 (toNat (x2.1:Int)) 5&&(cu k.2 (aS.bT k).2 (k.7 (toNat (x2.1:Int)))==k.5 (toNat (x2.1:Int)) 6&&(cu k.2 (aS.bT k).3 (k.7 (toNat (x2.1:Int)))==k.5 (toNat (x2.1:Int)) 7&&true)))) (.out (.bool false) [] (.bool (eL k)) []) (.again (bh 0 (fun x=>aY [1,5,3] [.own 0 50 0 0 50,.own 0 50 0 8 1,Zi x.1] y0) (fun x=>aS.nr k - x.1) x2) [1,5,3] [0] [.own 0 50 0 0 50,.own 0 50 0 8 1,Zi (wrap .i64 ((x2.1:Int)+1))] (y0))))))))) (.sc true 113 [.aH 11 k.4 fun i j=>Zi (k.5 i j)] (.bool !List.all (List.range (aS.nr k)) fun i=>jR (aS.R k) (aS.nr k) (aS.R k i 0) (aS.R k i 1) (aS.R k i 2)==(i:Int)) (.out (.bool !!List.all (List.range.loop k.4 []) fun i=>jR k.5 k.4 (k.5 i 0) (k.5 i 1) (k.5 i 2)==(i:Int)) [] (.bool (eL k)) [])))))))
  (by kernel_rfl) ?_
 refine aL (fun h0=>?_) (fun h0=>?_)
 ·have g0:=(aA af aU) h0
  exact aq (ay.of_eq (congrArg AV.bool (yY g0).symm))
 ·have g0:=(aw aa aR) h0
  refine aV (fun _ hs=>hs.le (⟨.refl _,.refl _,.refl _,trivial⟩) (⟨.refl _,trivial⟩)) (fun x2=>?_)
  try (have q2:=x2.2;dsimp only at q2)
  refine aL (fun h3=>?_) (fun h3=>?_)
  ·have g3:=af h3
   refine aD (by omega) ?_
   refine aW (fun h5=>c2 (toNat (↑x2.1:Int))) ?_
   refine aD (fun hr=>by have hr:=(dd (aw aR (az aB))) hr;omega) ?_
   refine aW (fun h7=>c4 (toNat (↑x2.1:Int))) ?_
   refine aD (fun hr=>by have hr:=(dd (aw (aw aR (az aB)) (az aB))) hr;omega) ?_
   refine aW (fun h9=>c1 (toNat (↑x2.1:Int)) ((by simp at h9;exact h9.2))) ?_
   refine aL (fun h10=>?_) (fun h10=>?_)
   ·have g10:=(aA (aA (aA aU (aC aF)) (aC aF)) (aC (ao aj (ao aj (ao aj aF))))) h10
    try simp only [Int.toNat_natCast] at g10
    exact aq (ay.of_eq (congrArg AV.bool (K2 (i:=x2.1) (by omega) (eU fun e=>by have e:=uj.1 e;clear c1 c2 c3 c4;grind)).symm))
   ·have g10:=(aw (aw (aw aR (az aB)) (az aB)) (az (ah ai (ah ai (ah ai aB))))) h10
    try simp only [Int.toNat_natCast] at g10
    exact aN (⟨x2.1+1,by omega,cN x2.2.2 (uj.2 (by clear c1 c2 c3 c4;grind))⟩) (fun _ hs=>hs.le (⟨.refl _,.refl _,aK (by omega),trivial⟩) (⟨.refl _,trivial⟩)) (by dsimp only;omega)
  ·have g3:=aa h3
   refine aM (c3 (by omega)) ?_
   exact aq (ay.of_eq (congrArg AV.bool ((Nf (n:=x2.1) (by omega) g0 x2.2.2))))
theorem F8 (k:aS) (hw:k.bT.gr.W) (hn:k.nc<9223372036854775808):Pure Tryz.prog aZ 68 [.agg k.cells] (.bool (fX k)):=by
 have c1:=fun i=>GK k.bT (k.C i).key (k.C i).pf hw
 have c2:=fun y=>tR k y hn
 refine ar (own:=bq) Tryz.func68 (by kernel_rfl) mixed (by kernel_rfl)
  (let y0:List (Option Ob):=[some ⟨50,1,true,.bc [aS.cells k]⟩];(.br (decide ((k.8:Int)>100)) (.out (.bool false) [] (.bool (fX k)) []) (.loop ({ x:Nat // x≤aS.nc k∧(fun (i:Nat)=>∀ (j:Nat),j<i→okC k j=true) x }) (fun x=>aY [1,6,3] [.own 0 50 0 0 50,.aH 7 k.8 fun i j=>aQ (cU.cells (aS.C k i)) j,Zi x.1] y0) (fun x=>aS.nc k - x.1) (⟨0,⟨Nat.zero_le (aS.nc k),fun (j:Nat) (hj:j<0)=>absurd hj (Nat.not_lt_zero j)⟩⟩) [1,6,3] [0] [.own 0 50 0 0 50,.aH 7 k.8 fun i j=>aQ (cU.cells (aS.C k i)) j,Zi 0] (y0) (fun x2=>(.br (decide ((x2.1:Int)<(k.8:Int))) (.bj (0≤(x2.1:Int)∧(x2.1:Int)<(k.8:Int)) (.sc true 114 [.agg (aI.cells (aS.bT k)),.agg [Zi (aS.C k (toNat (↑(x2.1):Int))).1,.aH 1 (cU.pf (aS.C k (toNat (↑(x2.1):Int)))).1 fun i x=>Zi ((cU.pf (aS.C k (toNat (↑(x2.1):Int)))).2 i),Zi (cU.pf (aS.C k (toNat (↑(x2.1):Int)))).3,.aH 1 (cU.pf (aS.C k (toNat (↑(x2.1):Int)))).4 fun i x=>Zi ((cU.pf (aS.C k (toNat (↑(x2.1):Int)))).5 i)]] (.bool (kv (aS.bT k) (cU.key (aS.C k (toNat (↑(x2.1):Int)))) (cU.pf (aS.C k (toNat (↑(x2.1):Int)))))) (.sc ((!kv k.2 (aS.C k (toNat (↑(x2.1):Int))).1 (aS.C k (toNat (↑(x2.1):Int))).2)==false) 25 [.agg (aS.cells k),Zi (aS.C k (toNat (↑(x2.1):Int))).1] (Zi (gW k (aS.C k (toNat (↑(x2.1):Int))).1)) (.sc ((!kv k.2 (aS.C k (toNat (↑(x2.1):Int))).1 (aS.C k (toNat (↑(x2.1):Int))).2||gW k (aS.C k (toNat (↑(x2.1):Int))).1 != (x2.1:Int)||(aS.C k (toNat (↑(x2.1):Int))).3 != wrap .i64 ((5:Int)+(x2.1:Int)))==false) 63 [Zi (aS.C k (toNat (↑(x2.1):Int))).5,Zi 0,Zi 200] (.bool (decide ((aS.C k (toNat (↑(x2.1):Int))).5≥0)&&decide ((aS.C k (toNat (↑(x2.1):Int))).5≤200))) (.br (!kv k.2 (aS.C k (toNat (↑(x2.1):Int))).1 (aS.C k (toNat (↑(x2.1):Int))).2||gW k (aS.C k (toNat (↑(x2.1):Int))).1 != (x2.1:Int)||(aS.C k (toNat (↑(x2.1):Int))).3 != wrap .i64 ((5:Int)+(x2.1:Int)) || !(decide ((aS.C k (toNat (↑(x2.1):Int))).5≥0)&&decide ((aS.C k (toNat (↑(x2.1):Int))).5≤200))) (.out (.bool false) [] (.bool (fX k)) []) (.again (bh 0 (fun x=>aY [1,6,3] [.own 0 50 0 0 50,.aH 7 k.8 fun i j=>aQ (cU.cells (aS.C k i)) j,Zi x.1] y0) (fun x=>aS.nc k - x.1) x2) [1,6,3] [0] [.own 0 50 0 0 50,.aH 7 k.8 fun i j=>aQ (cU.cells (aS.C k i)) j,Zi (wrap .i64 ((x2.1:Int)+1))] (y0))))))) (.out (.bool true) [] (.bool (fX k)) []))))))
  (by kernel_rfl) ?_
 refine aL (fun h0=>?_) (fun h0=>?_)
 ·have g0:=af h0
  exact aq (ay.of_eq (congrArg AV.bool (yy g0).symm))
 ·have g0:=aa h0
  refine aV (fun _ hs=>hs.le (⟨.refl _,.refl _,.refl _,trivial⟩) (⟨.refl _,trivial⟩)) (fun x2=>?_)
  try (have q2:=x2.2;dsimp only at q2)
  have e5:x2.1<k.nc→IntKind.wrap .i64 (5+(x2.1:Int))=5+(x2.1:Int):=fun _=>wI (by omega) (by omega)
  refine aL (fun h3=>?_) (fun h3=>?_)
  ·have g3:=af h3
   refine aD (by omega) ?_
   refine aM (c1 (toNat (↑(x2.1):Int))) ?_
   refine aW (fun h6=>c2 ((aS.C k (toNat (↑(x2.1):Int))).1)) ?_
   refine aW (fun h7=>vN ((aS.C k (toNat (↑(x2.1):Int))).5) ((0:Int)) ((200:Int))) ?_
   refine aL (fun h8=>?_) (fun h8=>?_)
   ·have g8:=(aA (aA (aA (aC aF) aU) aU) (aC (ao aa aa))) h8
    try simp only [Int.toNat_natCast] at g8
    exact aq (ay.of_eq (congrArg AV.bool (xS (i:=x2.1) (by omega) (eU fun e=>by have e:=mQ.1 e;clear c1 c2;rw [e5 (by omega)] at g8;grind)).symm))
   ·have g8:=(aw (aw (aw (az aB) aR) aR) (az (ah af af))) h8
    try simp only [Int.toNat_natCast] at g8
    exact aN (⟨x2.1+1,by omega,cN x2.2.2 (mQ.2 (by clear c1 c2;rw [e5 (by omega)] at g8;grind))⟩) (fun _ hs=>hs.le (⟨.refl _,.refl _,aK (by omega),trivial⟩) (⟨.refl _,trivial⟩)) (by dsimp only;omega)
  ·have g3:=aa h3
   exact aq (ay.of_eq (congrArg AV.bool (Ep g0 fun i hi=>x2.2.2 i (by omega)).symm))
theorem FN (k:aS) (h:k.bT.Ok) (hw:k.bT.gr.W) (hV:GZ k) (hc:k.nc<9223372036854775808) (hn:k.ni<9223372036854775808):Pure Tryz.prog aZ 71 [.agg k.cells] (.bool (hZ k)):=by
 have m0:=hV.hi
 have m1:=hV.ns
 have c1:=fun i=>IV k (fun j=>k.I i (3+j)) (by omega)
 have c2:=fun i=>FT k.bT (k.I i) hw
 have c3:=fun y=>tR k y hc
 have c4:=fun y m=>J6 k y m hn
 have c5:=fun x e (P:(0≤x∧x<k.bT.gr.p)∧(0≤e∧e<k.bT.gr.q))=>jS x e k.bT.gr.p P.1.1 P.1.2 P.2.1 (by have:=h.G.qp;have:=h.G.p1;omega) h.G.p1
 have K:=fun i (g:(((¬ko k (fun j=>k.I i (3+j))<0∧¬gW k (k.I i 2)<0)∧qI k (k.I i 2) (k.I i 1)=(i:Int))∧gh k.bT (k.I i)=true))=>FF hV ⟨⟨⟨g.1.1.1,g.2⟩,g.1.1.2⟩,g.1.2⟩
 refine ar (own:=bq) Tryz.func71 (by kernel_rfl) mixed (by kernel_rfl)
  (let y0:List (Option Ob):=[some ⟨50,1,true,.bc [aS.cells k]⟩];(.br (decide ((k.16:Int)>200)) (.out (.bool false) [] (.bool (hZ k)) []) (.loop ({ x:Nat // x≤aS.ni k∧(fun (i:Nat)=>∀ (j:Nat),j<i→okI k j=true) x }) (fun x=>aY [1,9,3] [.own 0 50 0 0 50,.bool (decide ((k.16:Int)>200)),Zi x.1] y0) (fun x=>aS.ni k - x.1) (⟨0,⟨Nat.zero_le (aS.ni k),fun (j:Nat) (hj:j<0)=>absurd hj (Nat.not_lt_zero j)⟩⟩) [1,9,3] [0] [.own 0 50 0 0 50,.bool (decide ((k.16:Int)>200)),Zi 0] (y0) (fun x2=>(.br (decide ((x2.1:Int)<(k.16:Int))) (.bj (0≤(x2.1:Int)∧(x2.1:Int)<(k.16:Int)) (.sc true 120 [.agg (aS.cells k),.agg [Zi (k.17 (toNat (x2.1:Int)) 3),Zi (k.17 (toNat (x2.1:Int)) 4),Zi (k.17 (toNat (x2.1:Int)) 5),Zi (k.17 (toNat (x2.1:Int)) 6),Zi (k.17 (toNat (x2.1:Int)) 7),Zi (k.17 (toNat (x2.1:Int)) 8),Zi (k.17 (toNat (x2.1:Int)) 9),Zi (k.17 (toNat (x2.1:Int)) 10),Zi (k.17 (toNat (x2.1:Int)) 11),Zi (k.17 (toNat (x2.1:Int)) 12),Zi (k.17 (toNat (x2.1:Int)) 13)]] (Zi (ko k fun j=>aS.I k (toNat (x2.1:Int)) (3+j))) (.sc (decide ((ko k fun j=>k.17 (toNat (x2.1:Int)) (3+j))<0)==false) 25 [.agg (aS.cells k),Zi (k.17 (toNat (x2.1:Int)) 2)] (Zi (gW k (k.17 (toNat (x2.1:Int)) 2))) (.sc ((decide ((ko k fun j=>k.17 (toNat (x2.1:Int)) (3+j))<0)||decide (gW k (k.17 (toNat (x2.1:Int)) 2)<0))==false) 121 [.agg (aS.cells k),Zi (k.17 (toNat (x2.1:Int)) 2),Zi (k.17 (toNat (x2.1:Int)) 1)] (Zi (qI k (k.17 (toNat (x2.1:Int)) 2) (k.17 (toNat (x2.1:Int)) 1))) (.sc ((decide ((ko k fun j=>k.17 (toNat (x2.1:Int)) (3+j))<0)||decide (gW k (k.17 (toNat (x2.1:Int)) 2)<0)||qI k (k.17 (toNat (x2.1:Int)) 2) (k.17 (toNat (x2.1:Int)) 1) != (x2.1:Int))==false) 122 [.agg (aI.cells (aS.bT k)),.agg [Zi (k.17 (toNat (x2.1:Int)) 0),Zi (k.17 (toNat (x2.1:Int)) 1),Zi (k.17 (toNat (x2.1:Int)) 2),Zi (k.17 (toNat (x2.1:Int)) 3),Zi (k.17 (toNat (x2.1:Int)) 4),Zi (k.17 (toNat (x2.1:Int)) 5),Zi (k.17 (toNat (x2.1:Int)) 6),Zi (k.17 (toNat (x2.1:Int)) 7),Zi (k.17 (toNat (x2.1:Int)) 8),Zi (k.17 (toNat (x2.1:Int)) 9),Zi (k.17 (toNat (x2.1:Int)) 10),Zi (k.17 (toNat (x2.1:Int)) 11),Zi (k.17 (toNat (x2.1:Int)) 12),Zi (k.17 (toNat (x2.1:Int)) 13),Zi (k.17 (toNat (x2.1:Int)) 14),Zi (k.17 (toNat (x2.1:Int)) 15),Zi (k.17 (toNat (x2.1:Int)) 16),Zi (k.17 (toNat (x2.1:Int)) 17),Zi (k.17 (toNat (x2.1:Int)) 18),Zi (k.17 (toNat (x2.1:Int)) 19),Zi (k.17 (toNat (x2.1:Int)) 20)]] (.bool (gh (aS.bT k) (aS.I k (toNat (x2.1:Int))))) (.bj (((decide ((ko k fun j=>k.17 (toNat (x2.1:Int)) (3+j))<0)||decide (gW k (k.17 (toNat (x2.1:Int)) 2)<0)||qI k (k.17 (toNat (x2.1:Int)) 2) (k.17 (toNat (x2.1:Int)) 1) != (x2.1:Int) || !gh k.2 (k.17 (toNat (x2.1:Int))))==false)=true→((0:Int)≤ko k fun j=>k.17 (toNat (x2.1:Int)) (3+j))∧(ko k fun j=>k.17 (toNat (x2.1:Int)) (3+j))<(k.6:Int)) (.sc ((decide ((ko k fun j=>k.17 (toNat (x2.1:Int)) (3+j))<0)||decide (gW k (k.17 (toNat (x2.1:Int)) 2)<0)||qI k (k.17 (toNat (x2.1:Int)) 2) (k.17 (toNat (x2.1:Int)) 1) != (x2.1:Int) || !gh k.2 (k.17 (toNat (x2.1:Int))))==false) 76 [Zi (k.17 (toNat (x2.1:Int)) 15),Zi (k.7 (toNat (ko k fun j=>k.17 (toNat (x2.1:Int)) (3+j)))),Zi (aI.gr (aS.bT k)).1] (Zi (k.17 (toNat (x2.1:Int)) 15^toNat (k.7 (toNat (ko k fun j=>k.17 (toNat (x2.1:Int)) (3+j))))%bN.p (aI.gr (aS.bT k)))) (.br (decide ((ko k fun j=>k.17 (toNat (x2.1:Int)) (3+j))<0)||decide (gW k (k.17 (toNat (x2.1:Int)) 2)<0)||qI k (k.17 (toNat (x2.1:Int)) 2) (k.17 (toNat (x2.1:Int)) 1) != (x2.1:Int) || !gh k.2 (k.17 (toNat (x2.1:Int)))||k.17 (toNat (x2.1:Int)) 15^toNat (k.7 (toNat (ko k fun j=>k.17 (toNat (x2.1:Int)) (3+j))))%(aI.gr (aS.bT k)).1 != k.17 (toNat (x2.1:Int)) 16) (.out (.bool false) [] (.bool (hZ k)) []) (.again (bh 0 (fun x=>aY [1,9,3] [.own 0 50 0 0 50,.bool (decide ((k.16:Int)>200)),Zi x.1] y0) (fun x=>aS.ni k - x.1) x2) [1,9,3] [0] [.own 0 50 0 0 50,.bool (decide ((k.16:Int)>200)),Zi (wrap .i64 ((x2.1:Int)+1))] (y0)))))))))) (.out (.bool true) [] (.bool (hZ k)) []))))))
  (by kernel_rfl) ?_
 refine aL (fun h0=>?_) (fun h0=>?_)
 ·have g0:=af h0
  exact aq (ay.of_eq (congrArg AV.bool (yN g0).symm))
 ·have g0:=aa h0
  refine aV (fun _ hs=>hs.le (⟨.refl _,.refl _,.refl _,trivial⟩) (⟨.refl _,trivial⟩)) (fun x2=>?_)
  try (have q2:=x2.2;dsimp only at q2)
  refine aL (fun h3=>?_) (fun h3=>?_)
  ·have g3:=af h3
   refine aD (by omega) ?_
   refine aM (c1 (toNat (↑x2.1:Int))) ?_
   refine aW (fun h6=>c3 (k.17 (toNat (↑x2.1:Int)) (2))) ?_
   refine aW (fun h7=>c4 (k.17 (toNat (↑x2.1:Int)) (2)) (k.17 (toNat (↑x2.1:Int)) (1))) ?_
   refine aW (fun h8=>c2 (toNat (↑x2.1:Int))) ?_
   refine aD (fun hr=>by have hr:=(dd (aw (aw (aw aa aa) aR) (az aB))) hr;have:=(K x2.1 hr).rc;simp only [Int.toNat_natCast];omega) ?_
   refine aW (fun h10=>c5 (k.17 (toNat (↑x2.1:Int)) (15)) (k.7 (toNat (ko k fun (j:Nat)=>k.17 (toNat (↑x2.1:Int)) (3+j)))) ((by have hr:=(dd (aw (aw (aw aa aa) aR) (az aB))) h10;have P:=K x2.1 hr;exact ⟨cd h.G P.el,j0 P.nz⟩))) ?_
   refine aL (fun h11=>?_) (fun h11=>?_)
   ·have g11:=(aA (aA (aA (aA af af) aU) (aC aF)) aU) h11
    try simp only [Int.toNat_natCast] at g11
    exact aq (ay.of_eq (congrArg AV.bool (tK (i:=x2.1) (by omega) (eU fun e=>by have e:=mI.1 e;unfold cu at e;clear c1 c2 c3 c4 c5 K;grind)).symm))
   ·have g11:=(aw (aw (aw (aw aa aa) aR) (az aB)) aR) h11
    try simp only [Int.toNat_natCast] at g11
    exact aN (⟨x2.1+1,by omega,cN x2.2.2 (mI.2 (by unfold cu;clear c1 c2 c3 c4 c5 K;grind))⟩) (fun _ hs=>hs.le (⟨.refl _,.refl _,aK (by omega),trivial⟩) (⟨.refl _,trivial⟩)) (by dsimp only;omega)
  ·have g3:=aa h3
   exact aq (ay.of_eq (congrArg AV.bool (Eo g0 fun i hi=>x2.2.2 i (by omega)).symm))
theorem K3 (x0 x1 x2 l0 l1 l2:Int):Pure Tryz.prog aZ 157 [.agg [.int .i64 x0,.int .i64 x1,.int .i64 x2],.bJ 3 (aQ [.int .i64 l0,.int .i64 l1,.int .i64 l2])] (.bool (x0==l0)):=by
 refine ar (own:=bq) Tryz.func157 (by kernel_rfl) mixed (by kernel_rfl)
  (.out (.bool (x0==l0)) [] (.bool (x0==l0)) [])
  (by kernel_rfl) ?_
 exact aq (ay.of_eq rfl)
theorem Fh (f:Nat→Nat→Int) (n:Nat) (l0 l1 l2:Int) (hn:n<9223372036854775808):Pure Tryz.prog aZ 227 [uQ n f,.fn (.func 157) [] [.bJ 3 (aQ [.int .i64 l0,.int .i64 l1,.int .i64 l2])]] (.int .i64 (aG (fun i=>f i 0==l0) n 0)):=by
 refine ar (own:=bq) Tryz.func227 (by kernel_rfl) mixed (by kernel_rfl)
  (let y0:=(fun (x:{ x:Nat // x≤n∧(fun i=>aG (fun i=>f i 0==l0) n 0=aG (fun i=>f i 0==l0) (n - i) i) x })=>aY [0,1,7,8] [.aH 3 n fun i j=>Zi (f i j),AV.fn (Fn.func (157:FuncId)) [] [AV.bJ 3 (aQ [Zi l0,Zi l1,Zi l2])],Zi n,Zi x.1] []);let y1:=(fun (x:{ x:Nat // x≤n∧(fun i=>aG (fun i=>f i 0==l0) n 0=aG (fun i=>f i 0==l0) (n - i) i) x })=>n - x.1);let y2:AV:=(Zi (aG (fun i=>f i 0==l0) n 0));(.loop ({ x:Nat // x≤n∧(fun i=>aG (fun i=>f i 0==l0) n 0=aG (fun i=>f i 0==l0) (n - i) i) x }) y0 y1 (⟨0,⟨Nat.zero_le n,rfl⟩⟩) [0,1,7,8] [] [.aH 3 n fun i j=>Zi (f i j),AV.fn (Fn.func (157:FuncId)) [] [AV.bJ 3 (aQ [Zi l0,Zi l1,Zi l2])],Zi n,Zi 0] [] (fun x0=>(.br (decide ((x0.1:Int)<(n:Int))) (.bj (0≤(x0.1:Int)∧(x0.1:Int)<(n:Int)) (.sc true 157 [.agg [Zi (f (toNat (x0.1:Int)) 0),Zi (f (toNat (x0.1:Int)) 1),Zi (f (toNat (x0.1:Int)) 2)],AV.bJ 3 (aQ [Zi l0,Zi l1,Zi l2])] (.bool (f (toNat (x0.1:Int)) 0==l0)) (.br (f (toNat (x0.1:Int)) 0==l0) (.out (Zi x0.1) [] y2 []) (.again (bh 0 y0 y1 x0) [0,1,7,8] [] [.aH 3 n fun i j=>Zi (f i j),AV.fn (Fn.func (157:FuncId)) [] [AV.bJ 3 (aQ [Zi l0,Zi l1,Zi l2])],Zi n,Zi (wrap .i64 ((x0.1:Int)+1))] [])))) (.out (Zi (-1)) [] y2 [])))))
  (by kernel_rfl) ?_
 refine aV (fun _ hs=>hs.le (⟨.refl _,.refl _,.refl _,.refl _,trivial⟩) (trivial)) (fun x0=>?_)
 try (have q0:=x0.2;dsimp only at q0)
 refine aL (fun h1=>?_) (fun h1=>?_)
 ·have g1:=af h1
  refine aD (by omega) ?_
  refine aM (K3 (f (toNat (↑x0.1:Int)) (0)) (f (toNat (↑x0.1:Int)) (1)) (f (toNat (↑x0.1:Int)) (2)) (l0) (l1) (l2)) ?_
  refine aL (fun h4=>?_) (fun h4=>?_)
  ·have g4:=ai h4
   try simp only [Int.toNat_natCast] at g4
   exact aq (ay.of_eq (congrArg _ (cr x0.2.2 (by omega) (beq_iff_eq.2 g4))))
  ·have g4:=aj h4
   try simp only [Int.toNat_natCast] at g4
   exact aN (⟨x0.1+1,by omega,bS x0.2.2 (by omega) (beq_eq_false_iff_ne.2 g4)⟩) (fun _ hs=>hs.le (⟨.refl _,.refl _,.refl _,aK (by omega),trivial⟩) (trivial)) (by dsimp only;omega)
 ·have g1:=aa h1
  exact aq (ay.of_eq (congrArg _ (bW x0.2.2 (by omega))))
theorem JW (f:Nat→Nat→Int) (n:Nat) (l0 l1 l2:Int) (hn:n<9223372036854775808):Pure Tryz.prog aZ 156 [uQ n f,.fn (.func 157) [] [.bJ 3 (aQ [.int .i64 l0,.int .i64 l1,.int .i64 l2])]] (.bool (anyI (fun i=>f i 0==l0) n)):=by
 refine ar (own:=bq) Tryz.func156 (by kernel_rfl) mixed (by kernel_rfl)
  (.sc true 227 [.aH 3 n fun i j=>Zi (f i j),AV.fn (Fn.func (157:FuncId)) [] [AV.bJ 3 (aQ [Zi l0,Zi l1,Zi l2])]] (Zi (aG (fun i=>f i 0==l0) n 0)) (.out (.bool (decide (aG (fun i=>f i 0==l0) n 0≥0))) [] (.bool (anyI (fun i=>f i 0==l0) n)) []))
  (by kernel_rfl) ?_
 refine aM ((Fh f n l0 l1 l2 hn)) ?_
 exact aq (ay.refl _)
theorem KK (s:au) (hn:s.nl<9223372036854775808) (hp:s.np<9223372036854775808):Pure Tryz.prog aZ 90 [s.av] (.bool (gF s)):=by
 refine ar (own:=bq) Tryz.func90 (by kernel_rfl) mixed (by kernel_rfl)
  (let y0:List (Option Ob):=[some ⟨80,1,true,.bc [au.cells s]⟩];(.br (decide ((s.16:Int)<1)||decide ((s.16:Int)>32)||decide ((s.19:Int)>20)) (.out (.bool false) [] (.bool (gF s)) []) (.loop ({ x:Nat // x≤au.nl s∧(fun (i:Nat)=>∀ (j:Nat),j<i→oe s j=true) x }) (fun x=>aY [1,23,24,25] [.own 0 80 0 0 80,.aH 3 s.16 fun i j=>Zi (s.17 i j),Zi s.16,Zi x.1] y0) (fun x=>au.nl s - x.1) (⟨0,⟨Nat.zero_le (au.nl s),fun (j:Nat) (hj:j<0)=>absurd hj (Nat.not_lt_zero j)⟩⟩) [1,23,24,25] [0] [.own 0 80 0 0 80,.aH 3 s.16 fun i j=>Zi (s.17 i j),Zi s.16,Zi 0] (y0) (fun x2=>(.br (decide ((x2.1:Int)<(s.16:Int))) (.bj (0≤(x2.1:Int)∧(x2.1:Int)<(s.16:Int)) (.bj (0≤(x2.1:Int)∧(x2.1:Int)≤(s.16:Int)) (.sc true 156 [.aH 3 (toNat (x2.1:Int)) fun i j=>Zi (s.17 (i+0) j),AV.fn (Fn.func 157) [] [AV.bJ 3 fun k=>aQ [Zi (s.17 (toNat (x2.1:Int)) 0),Zi (s.17 (toNat (x2.1:Int)) 1),Zi (s.17 (toNat (x2.1:Int)) 2)] k]] (.bool (anyI (fun i=>s.17 (i+0) 0==s.17 (toNat (x2.1:Int)) 0) (toNat (x2.1:Int)))) (.br (anyI (fun i=>s.17 (i+0) 0==s.17 (toNat (x2.1:Int)) 0) (toNat (x2.1:Int))) (.out (.bool false) [] (.bool (gF s)) []) (.again (bh 0 (fun x=>aY [1,23,24,25] [.own 0 80 0 0 80,.aH 3 s.16 fun i j=>Zi (s.17 i j),Zi s.16,Zi x.1] y0) (fun x=>au.nl s - x.1) x2) [1,23,24,25] [0] [.own 0 80 0 0 80,.aH 3 s.16 fun i j=>Zi (s.17 i j),Zi s.16,Zi (wrap .i64 ((x2.1:Int)+1))] (y0)))))) (.out (.bool true) [] (.bool (gF s)) []))))))
  (by kernel_rfl) ?_
 refine aL (fun h0=>?_) (fun h0=>?_)
 ·have g0:=(aA (aA af af) af) h0
  exact aq (ay.of_eq (congrArg AV.bool (yq g0).symm))
 ·have g0:=(aw (aw aa aa) aa) h0
  refine aV (fun _ hs=>hs.le (⟨.refl _,.refl _,.refl _,.refl _,trivial⟩) (⟨.refl _,trivial⟩)) (fun x2=>?_)
  try (have q2:=x2.2;dsimp only at q2)
  refine aL (fun h3=>?_) (fun h3=>?_)
  ·have g3:=af h3
   refine aD (by omega) ?_
   refine aD (by omega) ?_
   refine aM (JW (fun (i:Nat)=>s.17 (i+0)) (toNat (↑x2.1:Int)) (s.17 (toNat (↑x2.1:Int)) (0)) (s.17 (toNat (↑x2.1:Int)) (1)) (s.17 (toNat (↑x2.1:Int)) (2)) (by omega)) ?_
   refine aL (fun h7=>?_) (fun h7=>?_)
   ·have g7:=aB h7
    try simp only [Int.toNat_natCast] at g7
    exact aq (ay.of_eq (congrArg AV.bool (xL (i:=x2.1) (by omega) (MR g7)).symm))
   ·have g7:=aF h7
    try simp only [Int.toNat_natCast] at g7
    exact aN (⟨x2.1+1,by omega,cN x2.2.2 (M3 g7)⟩) (fun _ hs=>hs.le (⟨.refl _,.refl _,.refl _,aK (by omega),trivial⟩) (⟨.refl _,trivial⟩)) (by dsimp only;omega)
  ·have g3:=aa h3
   exact aq (ay.of_eq (congrArg AV.bool (DI g0.1.1 g0.1.2 g0.2 fun i hi=>x2.2.2 i (by omega)).symm))
def owZ (n:Nat):FuncId→Option (List Bool):=fun f=>bif Nat.beq f 999999999 then some (List.replicate n true) else none
theorem Eg (n:Int):Pure Tryz.prog aZ 228 [.int .i64 n] (.bool false):=by
 refine ar (own:=bq) Tryz.func228 (by kernel_rfl) mixed (by kernel_rfl)
  (.out (.bool (n != n)) [] (.bool false) [])
  (by kernel_rfl) ?_
 exact aq (ay.of_eq (by simp_all))
theorem Dp (a b:Int):Pure Tryz.prog aZ 159 [.int .i64 a,.int .i64 b] (.int .i64 (jv a b)):=by
 refine ar (own:=bq) Tryz.func159 (by kernel_rfl) mixed (by kernel_rfl)
  (.sc true 228 [Zi a] (.bool false) (.sc true 228 [Zi b] (.bool false) (.ff (.ff (.br (decide (a<b)) (.out (Zi (-1)) [] (Zi (jv a b)) []) (.br (decide (a>b)) (.out (Zi 1) [] (Zi (jv a b)) []) (.out (Zi 0) [] (Zi (jv a b)) [])))))))
  (by kernel_rfl) ?_
 refine aM (Eg (a)) ?_
 refine aM (Eg (b)) ?_
 refine cz ?_
 refine cz ?_
 refine aL (fun h4=>?_) (fun h4=>?_)
 ·have g4:=af h4
  exact aq (ay.of_eq (congrArg (AV.int _) (by unfold jv;split<;>(try split)<;>omega)))
 ·have g4:=aa h4
  refine aL (fun h6=>?_) (fun h6=>?_)
  ·have g6:=af h6
   exact aq (ay.of_eq (congrArg (AV.int _) (by unfold jv;split<;>(try split)<;>omega)))
  ·have g6:=aa h6
   exact aq (ay.of_eq (congrArg (AV.int _) (by unfold jv;split<;>(try split)<;>omega)))
theorem LK (a b:Int):Pure Tryz.prog aZ 158 [.aH 1 2 fun i j=>aQ (List.getD [[AV.int .i64 a],[AV.int .i64 b]] i []) j] (.int .i64 (if a≠0 then a else b)):=by
 refine ar (own:=(owZ 3)) Tryz.func158 (by kernel_rfl) mixed (by kernel_rfl)
  (let y0:AV:=(Zi (if a≠(0:Int) then a else b));(.tt (.bj ((0:Int)≤0∧(0:Int)<2) (.br (a != 0) (.out (Zi a) [] y0 []) (.tt (.bj ((0:Int)≤wrap .i64 ((0:Int)+1)∧wrap .i64 ((0:Int)+1)<2) (.br (b != 0) (.out (Zi b) [] y0 []) (.ff (.out (Zi 0) [] y0 [])))))))))
  (by kernel_rfl) ?_
 refine gp ?_
 refine aD (by decide) ?_
 refine aL (fun h2=>?_) (fun h2=>?_)
 ·exact aq (ay.of_eq (congrArg (AV.int _) (by simp_all)))
 ·refine gp ?_
  refine aD (by decide) ?_
  refine aL (fun h6=>?_) (fun h6=>?_)
  ·exact aq (ay.of_eq (congrArg (AV.int _) (by simp_all)))
  ·refine cz ?_
   exact aq (ay.of_eq (congrArg (AV.int _) (by simp_all)))
theorem K4 (x y:db):Pure Tryz.prog aZ 91 [.agg x.cells,.agg y.cells] (.int .i64 (sr x y)):=by
 refine ar (own:=bq) Tryz.func91 (by kernel_rfl) mixed (by kernel_rfl)
  (let y0:AV:=(Zi (if jv x.1 y.1≠(0:Int) then jv x.1 y.1 else jv x.2 y.2));(.sc true 159 [Zi x.1,Zi y.1] (Zi (jv x.1 y.1)) (.sc true 159 [Zi x.2,Zi y.2] (Zi (jv x.2 y.2)) (.sc true 158 [.aH 1 2 fun r k=>aQ (List.getD [[Zi (jv x.1 y.1)],[Zi (jv x.2 y.2)]] (r+0) []) k] y0 (.out y0 [] (Zi (sr x y)) [])))))
  (by kernel_rfl) ?_
 refine aM (Dp (x.1) (y.1)) ?_
 refine aM (Dp (x.2) (y.2)) ?_
 refine aM (LK (jv x.1 y.1) (jv x.2 y.2)) ?_
 exact aq (ay.of_eq (congrArg (AV.int _) (by unfold sr;rfl)))
theorem KE (n:Nat) (U:Nat→db) (hn:n<9223372036854775808) (hU:yP n U):Pure Tryz.prog aZ 40 [.agg [mT n U]] (.bool (ir n U)):=by
 have c1:=fun i (hi:i<n)=>KK (U i).sp (hU.nl i hi) (hU.np i hi)
 have c2:=fun i j=>K4 (U i) (U j)
 refine ar (own:=bq) Tryz.func40 (by kernel_rfl) mixed (by kernel_rfl)
  (let y0:List (Option Ob):=[some ⟨1,1,true,.bc [[.aH 83 n fun i j=>aQ (db.cells (U i)) j]]⟩];let y1:AV:=(.bool (ir n U));(.br (decide ((n:Int)>2000)) (.out (.bool false) [] y1 []) (.loop ({ x:Nat // x≤n∧(fun (i:Nat)=>∀ (j:Nat),j<i→tv (U j)=true∧(j≠0→z3 (U (j - 1)) (U j)=true)) x }) (fun x=>aY [1,9,10,11,12] [.own 0 1 0 0 1,.own 0 1 0 0 1,.aH 83 n fun i j=>aQ (db.cells (U i)) j,Zi n,Zi x.1] y0) (fun x=>n - x.1) (⟨0,⟨Nat.zero_le n,fun (j:Nat) (hj:j<0)=>absurd hj (Nat.not_lt_zero j)⟩⟩) [1,9,10,11,12] [0] [.own 0 1 0 0 1,.own 0 1 0 0 1,.aH 83 n fun i j=>aQ (db.cells (U i)) j,Zi n,Zi 0] (y0) (fun x2=>(.br (decide ((x2.1:Int)<(n:Int))) (.bj (0≤(x2.1:Int)∧(x2.1:Int)<(n:Int)) (.sc true 90 [.agg (au.cells (db.sp (U (toNat (↑(x2.1):Int)))))] (.bool (gF (db.sp (U (toNat (↑(x2.1):Int)))))) (.bj (((!gF (U (toNat (↑(x2.1):Int))).3||decide ((U (toNat (↑(x2.1):Int))).4<0)||decide ((U (toNat (↑(x2.1):Int))).4≥(↑(db.sp (U (toNat (↑(x2.1):Int)))).16:Int))||(U (toNat (↑(x2.1):Int))).1 != (db.sp (U (toNat (↑(x2.1):Int)))).5)==false)=true→0≤(U (toNat (↑(x2.1):Int))).4∧(U (toNat (↑(x2.1):Int))).4<(↑(db.sp (U (toNat (↑(x2.1):Int)))).16:Int)) (.br (!gF (U (toNat (↑(x2.1):Int))).3||decide ((U (toNat (↑(x2.1):Int))).4<0)||decide ((U (toNat (↑(x2.1):Int))).4≥(↑(db.sp (U (toNat (↑(x2.1):Int)))).16:Int))||(U (toNat (↑(x2.1):Int))).1 != (db.sp (U (toNat (↑(x2.1):Int)))).5||(U (toNat (↑(x2.1):Int))).2 != (db.sp (U (toNat (↑(x2.1):Int)))).17 (toNat (U (toNat (↑(x2.1):Int))).4) 0) (.out (.bool false) [] y1 []) (.bj ((decide ((x2.1:Int)>0)==true)=true→(0:Int)≤wrap .i64 ((x2.1:Int) - 1)∧wrap .i64 ((x2.1:Int) - 1)<(n:Int)) (.sc (decide ((x2.1:Int)>0)==true) 91 [.agg (db.cells (U (toNat (wrap .i64 ((↑(x2.1):Int) - 1))))),.agg (db.cells (U (toNat (↑(x2.1):Int))))] (Zi (sr (U (toNat (wrap .i64 ((↑(x2.1):Int) - 1)))) (U (toNat (↑(x2.1):Int))))) (.br (decide ((x2.1:Int)>0)&&decide (sr (U (toNat (wrap .i64 ((x2.1:Int) - 1)))) (U (toNat (x2.1:Int)))≥0)) (.out (.bool false) [] y1 []) (.again (bh 0 (fun x=>aY [1,9,10,11,12] [.own 0 1 0 0 1,.own 0 1 0 0 1,.aH 83 n fun i j=>aQ (db.cells (U i)) j,Zi n,Zi x.1] y0) (fun x=>n - x.1) x2) [1,9,10,11,12] [0] [.own 0 1 0 0 1,.own 0 1 0 0 1,.aH 83 n fun i j=>aQ (db.cells (U i)) j,Zi n,Zi (wrap .i64 ((x2.1:Int)+1))] (y0))))))))) (.out (.bool true) [] y1 []))))))
  (by kernel_rfl) ?_
 refine aL (fun h0=>?_) (fun h0=>?_)
 ·have g0:=af h0
  exact aq (ay.of_eq (congrArg AV.bool (xM g0).symm))
 ·have g0:=aa h0
  refine aV (fun _ hs=>hs.le (⟨.refl _,.refl _,.refl _,.refl _,.refl _,trivial⟩) (⟨.refl _,trivial⟩)) (fun x2=>?_)
  try (have q2:=x2.2;dsimp only at q2)
  have e1:0<x2.1→IntKind.wrap .i64 ((x2.1:Int) - 1)=((x2.1 - 1:Nat):Int):=fun h=>by rw [wI (by omega) (by omega)];omega
  refine aL (fun h3=>?_) (fun h3=>?_)
  ·have g3:=af h3
   refine aD (by omega) ?_
   refine aM (c1 (toNat (↑(x2.1):Int)) (by omega)) ?_
   refine aD (fun hr=>by have hr:=(dd (aw (aw (aw (az aB) aa) aa) aR)) hr;omega) ?_
   refine aL (fun h7=>?_) (fun h7=>?_)
   ·have g7:=(aA (aA (aA (aA (aC aF) af) af) aU) aU) h7
    try simp only [Int.toNat_natCast] at g7
    exact aq (ay.of_eq (congrArg AV.bool (oS (i:=x2.1) (by omega) (.inl (HA g7))).symm))
   ·have g7:=(aw (aw (aw (aw (az aB) aa) aa) aR) aR) h7
    try simp only [Int.toNat_natCast] at g7
    refine aD (fun hr=>by have hr:=(cQ af) hr;rw [e1 (by omega)];omega) ?_
    refine aW (fun h10=>c2 (toNat (wrap .i64 ((↑(x2.1):Int) - (1:Int)))) (toNat (↑(x2.1):Int))) ?_
    refine aL (fun h11=>?_) (fun h11=>?_)
    ·have g11:=(ah af af) h11
     try simp only [Int.toNat_natCast] at g11
     exact aq (ay.of_eq (congrArg AV.bool (oS (i:=x2.1) (by omega) (.inr ⟨by omega,Oz (by obtain ⟨ga,gb⟩:=g11;rw [e1 (by omega),Int.toNat_natCast] at gb;exact gb)⟩)).symm))
    ·have g11:=(ao aa aa) h11
     try simp only [Int.toNat_natCast] at g11
     exact aN (⟨x2.1+1,by omega,fun j hj=>by rcases Nat.lt_succ_iff_lt_or_eq.1 hj with hj|rfl;(· exact x2.2.2 j hj);(· exact ⟨H3 g7,fun hne=>OR (by rcases g11 with g|g;(· omega);(· rw [e1 (by omega),Int.toNat_natCast] at g;exact g))⟩)⟩) (fun _ hs=>hs.le (⟨.refl _,.refl _,.refl _,.refl _,aK (by omega),trivial⟩) (⟨.refl _,trivial⟩)) (by dsimp only;omega)
  ·have g3:=aa h3
   exact aq (ay.of_eq (congrArg AV.bool (Et g0 fun i hi=>x2.2.2 i (by omega)).symm))
theorem Hu (a b c d:Int):Pure Tryz.prog aZ 119 [.int .i64 a,.int .i64 b,.int .i64 c,.int .i64 d] (.bool (decide (a<c)||(a==c&&decide (b<d)))):=by
 refine ar (own:=bq) Tryz.func119 (by kernel_rfl) mixed (by kernel_rfl)
  (let y0:AV:=(.bool (decide (a<c)||a==c&&decide (b<d)));(.out y0 [] y0 []))
  (by kernel_rfl) ?_
 exact aq (ay.of_eq rfl)
theorem Gk (s:au) (hn:s.nl<9223372036854775808) (hp:s.np<9223372036854775808):Pure Tryz.prog aZ 118 [s.av] (.bool (gF s)):=by
 refine ar (own:=bq) Tryz.func118 (by kernel_rfl) mixed (by kernel_rfl)
  (let y0:List (Option Ob):=[some ⟨80,1,true,.bc [au.cells s]⟩];(.br (decide ((s.16:Int)<1)||decide ((s.16:Int)>32)||decide ((s.19:Int)>20)) (.out (.bool false) [] (.bool (gF s)) []) (.loop ({ x:Nat // x≤au.nl s∧(fun (i:Nat)=>∀ (j:Nat),j<i→oe s j=true) x }) (fun x=>aY [1,3] [.own 0 80 0 0 80,Zi x.1] y0) (fun x=>au.nl s - x.1) (⟨0,⟨Nat.zero_le (au.nl s),fun (j:Nat) (hj:j<0)=>absurd hj (Nat.not_lt_zero j)⟩⟩) [1,3] [0] [.own 0 80 0 0 80,Zi 0] (y0) (fun x2=>(.br (decide ((x2.1:Int)<(s.16:Int))) (.loop ({ x:Nat // x≤x2.1∧(fun (k:Nat)=>∀ (j:Nat),j<k→au.lf s j 0≠au.lf s (x2.1) 0) x }) (fun x=>aY [1,3,4] [.own 0 80 0 0 80,Zi x2.1,Zi x.1] y0) (fun x=>x2.1 - x.1) (⟨0,⟨Nat.zero_le (x2.1),fun (j:Nat) (hj:j<0)=>absurd hj (Nat.not_lt_zero j)⟩⟩) [1,3,4] [0] [.own 0 80 0 0 80,Zi x2.1,Zi 0] (y0) (fun x4=>(.br (decide ((x4.1:Int)<(x2.1:Int))) (.bj (0≤(x2.1:Int)∧(x2.1:Int)<(s.16:Int)) (.bj (0≤(x4.1:Int)∧(x4.1:Int)<(s.16:Int)) (.br (s.17 (toNat (x2.1:Int)) 0==s.17 (toNat (x4.1:Int)) 0) (.out (.bool false) [] (.bool (gF s)) []) (.again (bh 0 (fun x=>aY [1,3,4] [.own 0 80 0 0 80,Zi x2.1,Zi x.1] y0) (fun x=>x2.1 - x.1) x4) [1,3,4] [0] [.own 0 80 0 0 80,Zi x2.1,Zi (wrap .i64 ((x4.1:Int)+1))] (y0))))) (.again (bh 0 (fun x=>aY [1,3] [.own 0 80 0 0 80,Zi x.1] y0) (fun x=>au.nl s - x.1) x2) [1,3] [0] [.own 0 80 0 0 80,Zi (wrap .i64 ((x2.1:Int)+1))] (y0))))) (.out (.bool true) [] (.bool (gF s)) []))))))
  (by kernel_rfl) ?_
 refine aL (fun h0=>?_) (fun h0=>?_)
 ·have g0:=(aA (aA af af) af) h0
  exact aq (ay.of_eq (congrArg AV.bool (yq g0).symm))
 ·have g0:=(aw (aw aa aa) aa) h0
  refine aV (fun _ hs=>hs.le (⟨.refl _,.refl _,trivial⟩) (⟨.refl _,trivial⟩)) (fun x2=>?_)
  try (have q2:=x2.2;dsimp only at q2)
  refine aL (fun h3=>?_) (fun h3=>?_)
  ·have g3:=af h3
   refine aV (fun _ hs=>hs.le (⟨.refl _,.refl _,.refl _,trivial⟩) (⟨.refl _,trivial⟩)) (fun x4=>?_)
   try (have q4:=x4.2;dsimp only at q4)
   refine aL (fun h5=>?_) (fun h5=>?_)
   ·have g5:=af h5
    refine aD (by omega) ?_
    refine aD (by omega) ?_
    refine aL (fun h8=>?_) (fun h8=>?_)
    ·have g8:=ai h8
     try simp only [Int.toNat_natCast] at g8
     exact aq (ay.of_eq (congrArg AV.bool (xL (i:=x2.1) (by omega) (Kt (k:=x4.1) (by omega) g8.symm)).symm))
    ·have g8:=aj h8
     try simp only [Int.toNat_natCast] at g8
     exact aN (⟨x4.1+1,by omega,fun j hj=>by rcases Nat.lt_succ_iff_lt_or_eq.1 hj with hj|rfl;(· exact x4.2.2 j hj);(· exact fun e=>g8 e.symm)⟩) (fun _ hs=>hs.le (⟨.refl _,.refl _,aK (by omega),trivial⟩) (⟨.refl _,trivial⟩)) (by dsimp only;omega)
   ·have g5:=aa h5
    exact aN (⟨x2.1+1,by omega,cN x2.2.2 (GJ fun k hk=>x4.2.2 k (by omega))⟩) (fun _ hs=>hs.le (⟨.refl _,aK (by omega),trivial⟩) (⟨.refl _,trivial⟩)) (by dsimp only;omega)
  ·have g3:=aa h3
   exact aq (ay.of_eq (congrArg AV.bool (DI g0.1.1 g0.1.2 g0.2 fun i hi=>x2.2.2 i (by omega)).symm))
theorem Hi (n:Nat) (U:Nat→db) (hn:n<9223372036854775808) (hU:yP n U):Pure Tryz.prog aZ 70 [.agg [mT n U]] (.bool (ir n U)):=by
 have c1:=fun i (hi:i<n)=>Gk (U i).sp (hU.nl i hi) (hU.np i hi)
 refine ar (own:=bq) Tryz.func70 (by kernel_rfl) mixed (by kernel_rfl)
  (let y0:List (Option Ob):=[some ⟨1,1,true,.bc [[.aH 83 n fun i j=>aQ (db.cells (U i)) j]]⟩];let y1:AV:=(.bool (ir n U));(.br (decide ((n:Int)>2000)) (.out (.bool false) [] y1 []) (.loop ({ x:Nat // x≤n∧(fun (i:Nat)=>∀ (j:Nat),j<i→tv (U j)=true∧(j≠0→z3 (U (j - 1)) (U j)=true)) x }) (fun x=>aY [1,3] [.own 0 1 0 0 1,Zi x.1] y0) (fun x=>n - x.1) (⟨0,⟨Nat.zero_le n,fun (j:Nat) (hj:j<0)=>absurd hj (Nat.not_lt_zero j)⟩⟩) [1,3] [0] [.own 0 1 0 0 1,Zi 0] (y0) (fun x2=>(.br (decide ((x2.1:Int)<(n:Int))) (.bj (0≤(x2.1:Int)∧(x2.1:Int)<(n:Int)) (.sc true 118 [.agg (au.cells (db.sp (U (toNat (↑(x2.1):Int)))))] (.bool (gF (db.sp (U (toNat (↑(x2.1):Int)))))) (.bj (((!gF (U (toNat (↑(x2.1):Int))).3||decide ((U (toNat (↑(x2.1):Int))).4<0)||decide ((U (toNat (↑(x2.1):Int))).4≥(↑(db.sp (U (toNat (↑(x2.1):Int)))).16:Int))||(U (toNat (↑(x2.1):Int))).1 != (db.sp (U (toNat (↑(x2.1):Int)))).5)==false)=true→0≤(U (toNat (↑(x2.1):Int))).4∧(U (toNat (↑(x2.1):Int))).4<(↑(db.sp (U (toNat (↑(x2.1):Int)))).16:Int)) (.br (!gF (U (toNat (↑(x2.1):Int))).3||decide ((U (toNat (↑(x2.1):Int))).4<0)||decide ((U (toNat (↑(x2.1):Int))).4≥(↑(db.sp (U (toNat (↑(x2.1):Int)))).16:Int))||(U (toNat (↑(x2.1):Int))).1 != (db.sp (U (toNat (↑(x2.1):Int)))).5||(U (toNat (↑(x2.1):Int))).2 != (db.sp (U (toNat (↑(x2.1):Int)))).17 (toNat (U (toNat (↑(x2.1):Int))).4) 0) (.out (.bool false) [] y1 []) (.bj ((decide ((x2.1:Int)>0)==true)=true→(0:Int)≤wrap .i64 ((x2.1:Int) - 1)∧wrap .i64 ((x2.1:Int) - 1)<(n:Int)) (.bj ((decide ((x2.1:Int)>0)==true)=true→(0:Int)≤wrap .i64 ((x2.1:Int) - 1)∧wrap .i64 ((x2.1:Int) - 1)<(n:Int)) (.sc (decide ((x2.1:Int)>0)==true) 119 [Zi (U (toNat (wrap .i64 ((↑(x2.1):Int) - 1)))).1,Zi (U (toNat (wrap .i64 ((↑(x2.1):Int) - 1)))).2,Zi (U (toNat (↑(x2.1):Int))).1,Zi (U (toNat (↑(x2.1):Int))).2] (.bool (decide ((U (toNat (wrap .i64 ((↑(x2.1):Int) - 1)))).1<(U (toNat (↑(x2.1):Int))).1)||(U (toNat (wrap .i64 ((↑(x2.1):Int) - 1)))).1==(U (toNat (↑(x2.1):Int))).1&&decide ((U (toNat (wrap .i64 ((↑(x2.1):Int) - 1)))).2<(U (toNat (↑(x2.1):Int))).2))) (.br (decide ((x2.1:Int)>0) && !(decide ((U (toNat (wrap .i64 ((↑(x2.1):Int) - 1)))).1<(U (toNat (↑(x2.1):Int))).1)||(U (toNat (wrap .i64 ((↑(x2.1):Int) - 1)))).1==(U (toNat (↑(x2.1):Int))).1&&decide ((U (toNat (wrap .i64 ((↑(x2.1):Int) - 1)))).2<(U (toNat (↑(x2.1):Int))).2))) (.out (.bool false) [] y1 []) (.again (bh 0 (fun x=>aY [1,3] [.own 0 1 0 0 1,Zi x.1] y0) (fun x=>n - x.1) x2) [1,3] [0] [.own 0 1 0 0 1,Zi (wrap .i64 ((x2.1:Int)+1))] (y0)))))))))) (.out (.bool true) [] y1 []))))))
  (by kernel_rfl) ?_
 refine aL (fun h0=>?_) (fun h0=>?_)
 ·have g0:=af h0
  exact aq (ay.of_eq (congrArg AV.bool (xM g0).symm))
 ·have g0:=aa h0
  refine aV (fun _ hs=>hs.le (⟨.refl _,.refl _,trivial⟩) (⟨.refl _,trivial⟩)) (fun x2=>?_)
  try (have q2:=x2.2;dsimp only at q2)
  have e1:0<x2.1→IntKind.wrap .i64 ((x2.1:Int) - 1)=((x2.1 - 1:Nat):Int):=fun h=>by rw [wI (by omega) (by omega)];omega
  refine aL (fun h3=>?_) (fun h3=>?_)
  ·have g3:=af h3
   refine aD (by omega) ?_
   refine aM (c1 (toNat (↑(x2.1):Int)) (by omega)) ?_
   refine aD (fun hr=>by have hr:=(dd (aw (aw (aw (az aB) aa) aa) aR)) hr;omega) ?_
   refine aL (fun h7=>?_) (fun h7=>?_)
   ·have g7:=(aA (aA (aA (aA (aC aF) af) af) aU) aU) h7
    try simp only [Int.toNat_natCast] at g7
    exact aq (ay.of_eq (congrArg AV.bool (oS (i:=x2.1) (by omega) (.inl (HA g7))).symm))
   ·have g7:=(aw (aw (aw (aw (az aB) aa) aa) aR) aR) h7
    try simp only [Int.toNat_natCast] at g7
    refine aD (fun hr=>by have hr:=(cQ af) hr;omega) ?_
    refine aD (fun hr=>by have hr:=(cQ af) hr;omega) ?_
    refine aW (fun h11=>Hu ((U (toNat (wrap .i64 ((↑(x2.1):Int) - (1:Int))))).1) ((U (toNat (wrap .i64 ((↑(x2.1):Int) - (1:Int))))).2) ((U (toNat (↑(x2.1):Int))).1) ((U (toNat (↑(x2.1):Int))).2)) ?_
    refine aL (fun h12=>?_) (fun h12=>?_)
    ·have g12:=(ah af (aC (aw aa (ao aj aa)))) h12
     try simp only [Int.toNat_natCast] at g12
     exact aq (ay.of_eq (congrArg AV.bool (oS (i:=x2.1) (by omega) (.inr ⟨by omega,qg fun hl=>by obtain ⟨ga,gb⟩:=g12;rw [e1 (by omega),Int.toNat_natCast] at gb;have:=yL.1 hl;omega⟩)).symm))
    ·have g12:=(ao aa (az (aA af (ah ai af)))) h12
     try simp only [Int.toNat_natCast] at g12
     exact aN (⟨x2.1+1,by omega,fun j hj=>by rcases Nat.lt_succ_iff_lt_or_eq.1 hj with hj|rfl;(· exact x2.2.2 j hj);(· exact ⟨H3 g7,fun hne=>yL.2 (by rcases g12 with g|g;(· omega);(· rw [e1 (by omega),Int.toNat_natCast] at g;exact g))⟩)⟩) (fun _ hs=>hs.le (⟨.refl _,aK (by omega),trivial⟩) (⟨.refl _,trivial⟩)) (by dsimp only;omega)
  ·have g3:=aa h3
   exact aq (ay.of_eq (congrArg AV.bool (Et g0 fun i hi=>x2.2.2 i (by omega)).symm))
theorem I5 (n:Nat) (f g:Nat→Int) (hn:n<9223372036854775808):Pure Tryz.prog aZ 89 [jt n f,jt n g] (.bool ((List.range n).all fun i=>f i==g i)):=by
 refine ar (own:=bq) Tryz.func89 (by kernel_rfl) mixed (by kernel_rfl)
  (let y0:AV:=(.bool (List.all (List.range n) fun i=>f i==g i));(.br ((n:Int) != (n:Int)) (.out (.bool false) [] y0 []) (.loop ({ x:Nat // x≤n∧(fun (x:Nat)=>∀ (j:Nat),j<x→(f j==g j)=true) x }) (fun x=>aY [0,1,12,13] [.aH 1 n fun i x=>Zi (f i),.aH 1 n fun i x=>Zi (g i),Zi n,Zi x.1] []) (fun x=>n - x.1) (⟨0,⟨Nat.zero_le n,fun (j:Nat) (hj:j<0)=>absurd hj (Nat.not_lt_zero j)⟩⟩) [0,1,12,13] [] [.aH 1 n fun i x=>Zi (f i),.aH 1 n fun i x=>Zi (g i),Zi n,Zi 0] [] (fun x2=>(.br (decide ((x2.1:Int)<(n:Int))) (.bj (0≤(x2.1:Int)∧(x2.1:Int)<(n:Int)) (.bj (0≤(x2.1:Int)∧(x2.1:Int)<(n:Int)) (.br (f (toNat (x2.1:Int)) != g (toNat (x2.1:Int))) (.out (.bool false) [] y0 []) (.again (bh 0 (fun x=>aY [0,1,12,13] [.aH 1 n fun i x=>Zi (f i),.aH 1 n fun i x=>Zi (g i),Zi n,Zi x.1] []) (fun x=>n - x.1) x2) [0,1,12,13] [] [.aH 1 n fun i x=>Zi (f i),.aH 1 n fun i x=>Zi (g i),Zi n,Zi (wrap .i64 ((x2.1:Int)+1))] [])))) (.out (.bool true) [] y0 []))))))
  (by kernel_rfl) ?_
 refine aL (fun h0=>?_) (fun h0=>?_)
 ·have g0:=aU h0
  exact aq (ay.of_eq (by simp_all))
 ·have g0:=aR h0
  refine aV (fun _ hs=>hs.le (⟨.refl _,.refl _,.refl _,.refl _,trivial⟩) (trivial)) (fun x2=>?_)
  try (have q2:=x2.2;dsimp only at q2)
  refine aL (fun h3=>?_) (fun h3=>?_)
  ·have g3:=af h3
   refine aD (by omega) ?_
   refine aD (by omega) ?_
   refine aL (fun h6=>?_) (fun h6=>?_)
   ·have g6:=aU h6
    try simp only [Int.toNat_natCast] at g6
    exact aq (ay.of_eq (congrArg AV.bool (nF (p:=fun i=>f i==g i) (i:=x2.1) (by omega) (beq_eq_false_iff_ne.2 g6)).symm))
   ·have g6:=aR h6
    try simp only [Int.toNat_natCast] at g6
    exact aN (⟨x2.1+1,by omega,cN x2.2.2 (beq_iff_eq.2 g6)⟩) (fun _ hs=>hs.le (⟨.refl _,.refl _,.refl _,aK (by omega),trivial⟩) (trivial)) (by dsimp only;omega)
  ·have g3:=aa h3
   exact aq (ay.of_eq (congrArg AV.bool (jX fun i hi=>x2.2.2 i (by omega)).symm))
theorem BB (nb:Nat) (B:Nat→Int) (ne:Nat) (E:Nat→Nat→Int) (hn:nb<9223372036854775808) (he:ne<9223372036854775808):Pure Tryz.prog aZ 39 [.agg [jt nb B,lV ne E]] (.bool (fH nb B ne E)):=by
 have c1:=fun k=>FX nb (E k)
 have c2:=fun F k h hn=>JO nb F (E k) h hn
 have c3:=fun F=>I5 nb F B hn
 refine ar (own:=owL) Tryz.func39 (by kernel_rfl) mixed (by kernel_rfl)
  (let y0:List AV:=[.aH 1 nb fun i x=>Zi (B i),.aH 4 ne fun i j=>Zi (E i j)];let y1:Nat:=(toNat (nb:Int));let y2:AV:=(.bool (fH nb B ne E));(.br (decide ((nb:Int)<5)||decide ((nb:Int)>105)||decide ((ne:Int)>1000)) (.out (.bool false) [] y2 []) (.bj (0≤(nb:Int)∧(nb:Int)=(nb:Int)∧8*(nb:Int)≤140737488355328∧(nb:Int)≤9223372036854775807) (.loop ({ x:Nat // x≤ne∧(fun (x:Nat)=>∀ (j:Nat),j<x→xg nb E j=true) x }) (fun x=>aY [1,3,4,25,26,27] [.own 0 2 0 0 2,Zi nb,.ba 1 1 0 y1,.aH 4 ne fun i j=>Zi (E i j),Zi ne,Zi x.1] [some ⟨2,1,true,.bc [y0]⟩,some ⟨1,nb,true,.fn fun i x_1=>Zi (ck E (x.1) i)⟩]) (fun x=>ne - x.1) (⟨0,⟨Nat.zero_le ne,fun (j:Nat) (hj:j<0)=>absurd hj (Nat.not_lt_zero j)⟩⟩) [1,3,4,25,26,27] [0,152] [.own 0 2 0 0 2,Zi nb,.ba 1 1 0 y1,.aH 4 ne fun i j=>Zi (E i j),Zi ne,Zi 0] [some ⟨2,1,true,.bc [y0]⟩,some ⟨1,toNat (nb:Int),true,.fn fun i j=>Zi (aE (aQ (cq (Value.int IntKind.i64 (0:Int))) j))⟩] (fun x3=>(.br (decide ((x3.1:Int)<(ne:Int))) (.bj (0≤(x3.1:Int)∧(x3.1:Int)<(ne:Int)) (.sc true 87 [.agg [Zi (E (toNat (x3.1:Int)) 0),Zi (E (toNat (x3.1:Int)) 1),Zi (E (toNat (x3.1:Int)) 2),Zi (E (toNat (x3.1:Int)) 3)],Zi nb] (.bool (fB nb (E (toNat (x3.1:Int))))) (.br ((!fB nb (E (toNat (x3.1:Int))))==false) (.gc 88 [⟨1,nb,true,.fn fun i j=>Zi (ck E x3.1 i)⟩] [.ba 0 1 0 y1,.agg [Zi (E (toNat (x3.1:Int)) 0),Zi (E (toNat (x3.1:Int)) 1),Zi (E (toNat (x3.1:Int)) 2),Zi (E (toNat (x3.1:Int)) 3)]] (.bool (fv (ck E x3.1) (E (toNat (x3.1:Int))))) [some ⟨1,nb,true,.fn fun i x=>Zi (so (ck E x3.1) (E (toNat (x3.1:Int))) i)⟩] (.br (!fB nb (E (toNat (x3.1:Int))) || !fv (ck E x3.1) (E (toNat (x3.1:Int)))) (.out (.bool false) [] y2 []) (.again (bh 0 (fun x=>aY [1,3,4,25,26,27] [.own 0 2 0 0 2,Zi nb,.ba 1 1 0 y1,.aH 4 ne fun i j=>Zi (E i j),Zi ne,Zi x.1] [some ⟨2,1,true,.bc [y0]⟩,some ⟨1,nb,true,.fn fun i x_1=>Zi (ck E (x.1) i)⟩]) (fun x=>ne - x.1) x3) [1,3,4,25,26,27] [0,1] [.own 0 2 0 0 2,Zi nb,.ba 1 1 0 y1,.aH 4 ne fun i j=>Zi (E i j),Zi ne,Zi (wrap .i64 ((x3.1:Int)+1))] [some ⟨2,1,true,.bc [y0]⟩,some ⟨1,nb,true,.fn fun i j=>Zi (so (ck E x3.1) (E (toNat (x3.1:Int))) i)⟩]))) (.br (!fB nb (E (toNat (x3.1:Int)))||true) (.out (.bool false) [] y2 []) (.again (bh 0 (fun x=>aY [1,3,4,25,26,27] [.own 0 2 0 0 2,Zi nb,.ba 1 1 0 y1,.aH 4 ne fun i j=>Zi (E i j),Zi ne,Zi x.1] [some ⟨2,1,true,.bc [y0]⟩,some ⟨1,nb,true,.fn fun i x_1=>Zi (ck E (x.1) i)⟩]) (fun x=>ne - x.1) x3) [1,3,4,25,26,27] [0,1] [.own 0 2 0 0 2,Zi nb,.ba 1 1 0 y1,.aH 4 ne fun i j=>Zi (E i j),Zi ne,Zi (wrap .i64 ((x3.1:Int)+1))] [some ⟨2,1,true,.bc [y0]⟩,some ⟨1,nb,true,.fn fun i j=>Zi (ck E (x3.1) i)⟩]))))) (.sc true 89 [.aH 1 y1 fun r k=>Zi (ck E x3.1 (r+0)),.aH 1 nb fun i x=>Zi (B i)] (.bool (List.all (List.range nb) fun i=>ck E x3.1 (i+0)==B i)) (.out (.bool (List.all (List.range.loop nb []) fun i=>ck E x3.1 (i+0)==B i)) [] y2 []))))))))
  (by kernel_rfl) ?_
 refine aL (fun h0=>?_) (fun h0=>?_)
 ·have g0:=(aA (aA af af) af) h0
  exact aq (ay.of_eq (congrArg AV.bool (yF g0).symm))
 ·have g0:=(aw (aw aa aa) aa) h0
  refine aD (by omega) ?_
  refine aV (fun _ hs=>hs.le (⟨.refl _,.refl _,.refl _,.refl _,.refl _,.refl _,trivial⟩) (⟨.refl _,⟨rfl,Int.toNat_natCast nb,rfl,fun i j _ hj=>by obtain rfl:j=0:=Nat.lt_one_iff.1 hj;exact ay.refl _⟩,trivial⟩)) (fun x3=>?_)
  try (have q3:=x3.2;dsimp only at q3)
  refine aL (fun h4=>?_) (fun h4=>?_)
  ·have g4:=af h4
   refine aD (by omega) ?_
   refine aM (c1 (toNat (↑x3.1:Int))) ?_
   refine aL (fun h7=>?_) (fun h7=>?_)
   ·have g7:=(dd (az aB)) h7
    try simp only [Int.toNat_natCast] at g7
    refine gZ (c2 (ck E x3.1) (toNat (↑x3.1:Int)) (by assumption) (by omega)) ?_
    refine aL (fun h9=>?_) (fun h9=>?_)
    ·have g9:=(aA (aC aF) (aC aF)) h9
     try simp only [Int.toNat_natCast] at g9
     exact aq (ay.of_eq (congrArg AV.bool (sF (k:=x3.1) (by omega) (Kl g7 g9)).symm))
    ·have g9:=(aw (az aB) (az aB)) h9
     try simp only [Int.toNat_natCast] at g9
     exact aN (⟨x3.1+1,by omega,cN x3.2.2 (C4 g7 g9.2)⟩) (fun _ hs=>hs.le (⟨.refl _,.refl _,.refl _,.refl _,.refl _,aK (by omega),trivial⟩) (⟨.refl _,⟨rfl,rfl,rfl,fun i j _ _=>ay.of_eq (congrArg (AV.int _) (KC (x:=x3.1) (by simpa using g9.2)))⟩,trivial⟩)) (by dsimp only;omega)
   ·have g7:=(z6 (aC aF)) h7
    try simp only [Int.toNat_natCast] at g7
    refine aL (fun h12=>?_) (fun h12=>?_)
    ·have g12:=(aA (aC aF) aB) h12
     try simp only [Int.toNat_natCast] at g12
     exact aq (ay.of_eq (congrArg AV.bool (sF (k:=x3.1) (by omega) (Ci g7)).symm))
    ·have g12:=(aw (az aB) aF) h12
     try simp only [Int.toNat_natCast] at g12
     exact aN (⟨x3.1+1,by omega,absurd g12.2 (by decide)⟩) (fun _ hs=>hs.le (⟨.refl _,.refl _,.refl _,.refl _,.refl _,aK (by omega),trivial⟩) (⟨.refl _,absurd g12.2 (by decide),trivial⟩)) (by dsimp only;omega)
  ·have g4:=aa h4
   refine aM (c3 (fun (i:Nat)=>ck E x3.1 (i+0))) ?_
   exact aq (ay.of_eq (congrArg AV.bool (G7 g0.1.1 g0.1.2 g0.2 (by omega) x3.2.2)))
end Go.Proofs.YtpefjkpdniiaoaaGreatDoor

namespace Go.Sp
open Go.IntKind (wrap)
open Int (toNat)
open Go Go.Am
def Ap (F x:Nat→Int) (i:Nat) (c d:Bool):Int :=
 bif Nat.beq i ((x 1).toNat+0)&&c then IntKind.wrap .i64 ((bif Nat.beq ((x 1).toNat+0) ((x 0).toNat+0)&&d then IntKind.wrap .i64 (F ((x 0).toNat+0) - x 2) else F ((x 1).toNat+0))+x 2) else
  bif Nat.beq i ((x 0).toNat+0)&&c then IntKind.wrap .i64 (F ((x 0).toNat+0) - x 2) else F i
theorem yp {n:Nat} {F x:Nat→Int} (h:fB n x=true) (i:Nat):Ap F x i true true=xf F x i:=by
 have hb:=iH.1 h
 have e:Nat.beq ((x 1).toNat+0) ((x 0).toNat+0)=false:=by
  cases c:Nat.beq ((x 1).toNat+0) ((x 0).toNat+0) with
  | false=>rfl
  | true=>have:=jK.1 c;omega
 rw [Ap,e,xf]
 show (bif Nat.beq i (x 1).toNat&&true then IntKind.wrap .i64 (F (x 1).toNat+x 2) else bif Nat.beq i (x 0).toNat&&true then IntKind.wrap .i64 (F (x 0).toNat - x 2) else F i)=_
 simp only [Bool.and_true]
 by_cases c1:i=(x 1).toNat
 ·subst c1;rw [if_pos rfl,Nat.beq_refl];rfl
 ·rw [if_neg c1,show Nat.beq i (x 1).toNat=false by cases c:Nat.beq i (x 1).toNat with|false=>rfl|true=>exact absurd (jK.1 c) c1]
  by_cases c2:i=(x 0).toNat
  ·subst c2;rw [if_pos rfl,Nat.beq_refl];rfl
  ·rw [if_neg c2,show Nat.beq i (x 0).toNat=false by cases c:Nat.beq i (x 0).toNat with|false=>rfl|true=>exact absurd (jK.1 c) c2];rfl
theorem MM {nb:Nat} {E:Nat→Nat→Int} {k:Nat} (hk:k<1000) (h:∀ j,j≤k→fB nb (E j)=true):Ap (ck E k) (E k) ((E k 0).toNat+0) true true=ck E k (E k 0).toNat - E k 2:=by
 have hb:=iH.1 (h k (Nat.le_refl _))
 rw [yp (h k (Nat.le_refl _)),xf,if_neg (by omega),if_pos (by omega)]
 exact (L2 hk h _).1
theorem KP {nb:Nat} {E:Nat→Nat→Int} {k:Nat} (hk:k<1000) (h:∀ j,j≤k→fB nb (E j)=true) (g:E k 0≥5∧Ap (ck E k) (E k) ((E k 0).toNat+0) true true<0):fv (ck E k) (E k)=false :=
 wN ⟨g.1,by have:=g.2;rw [MM hk h] at this;show ck E k (E k 0).toNat<_;omega⟩
theorem Km {nb:Nat} {E:Nat→Nat→Int} {k:Nat} (hk:k<1000) (h:∀ j,j≤k→fB nb (E j)=true) (g:¬E k 0≥5∨¬Ap (ck E k) (E k) ((E k 0).toNat+0) true true<0):fv (ck E k) (E k)=true :=
 wo (g.imp id fun g=>by rw [MM hk h] at g;show ¬ck E k (E k 0).toNat<_;omega)
theorem Ho {nb x i j:Nat} {E:Nat→Nat→Int} (h:fB nb (E x)=true) (hj:j<1):Ap (ck E x) (E (toNat (x:Int))) i (Nat.ble 0 j&&Nat.blt j 1) true=ck E (x+1) i:=by
 obtain rfl:j=0:=Nat.lt_one_iff.1 hj
 rw [Int.toNat_natCast]
 exact yp h i
theorem NF {nb:Nat} {B:Nat→Int} {ne:Nat} {E:Nat→Nat→Int} (h:∀ k,k<ne→fB nb (E k)=true) (g:((List.range ne).all fun k=>fv (ck E k) (E k))=false):fH nb B ne E=false:=qg fun e=>by
 have:=(Bk e).ok
 have:((List.range ne).all fun k=>fv (ck E k) (E k))=true:=jX fun i hi=>by have:=this i hi;unfold xg at this;rw [Bool.and_eq_true] at this;exact this.2
 rw [this] at g;cases g
theorem K9 {nb:Nat} {B:Nat→Int} {ne:Nat} {E:Nat→Nat→Int} (h:∀ k,k<ne→fB nb (E k)=true) (g:((List.range ne).all fun k=>fv (ck E k) (E k))=true):∀ k,k<ne→xg nb E k=true:=fun k hk =>
 C4 (h k hk) (List.all_eq_true.1 g k (List.mem_range.2 hk))
end Go.Sp

namespace Go.Proofs.YtpefjkpdniiaoaaGreatDoor
open Go.IntKind (wrap)
open Int (toNat)
open Go Go.Am Go.Sp
set_option maxRecDepth 100000
theorem Hh (n:Int):Pure Tryz.prog aZ 115 [.int .i64 n] (.bool (decide (n≥5)&&decide (n≤105))):=by
 refine ar (own:=bq) Tryz.func115 (by kernel_rfl) mixed (by kernel_rfl)
  (let y0:AV:=(.bool (decide (n≥5)&&decide (n≤105)));(.out y0 [] y0 []))
  (by kernel_rfl) ?_
 exact aq (ay.of_eq rfl)
theorem Ly (nb ne:Nat) (E:Nat→Nat→Int) (hn:nb≤1000) (he:ne≤1000) (h:∀ k,k<ne→fB nb (E k)=true):Pure Tryz.prog aZ 117 [.int .i64 nb,lV ne E]
  (.aX [.aH 1 (bif (List.range ne).all fun k=>fv (ck E k) (E k) then nb else 0) fun i _=>.int .i64 (ck E ne i),.bool ((List.range ne).all fun k=>fv (ck E k) (E k))]):=by
 refine ar (own:=bq) Tryz.func117 (by kernel_rfl) mixed (by kernel_rfl)
  (let y0:AV:=(.aX [.aH 1 (bif List.all (List.range ne) fun k=>fv (ck E k) (E k) then nb else 0) fun i x=>Zi (ck E ne i),.bool (List.all (List.range ne) fun k=>fv (ck E k) (E k))]);let y1:Nat:=(toNat (nb:Int));(.bj (0≤(nb:Int)∧(nb:Int)=(nb:Int)∧8*(nb:Int)≤140737488355328∧(nb:Int)≤9223372036854775807) (.loop ({ x:Nat // x≤ne∧(fun (x:Nat)=>∀ (j:Nat),j<x→fv (ck E j) (E j)=true) x }) (fun x=>aY [1,6,7] [.aH 4 ne fun i j=>Zi (E i j),.ba 0 1 0 y1,Zi x.1] [some ⟨1,nb,true,.fn fun i x_1=>Zi (ck E (x.1) i)⟩]) (fun x=>ne - x.1) (⟨0,⟨Nat.zero_le ne,fun (j:Nat) (hj:j<0)=>absurd hj (Nat.not_lt_zero j)⟩⟩) [1,6,7] [24] [.aH 4 ne fun i j=>Zi (E i j),.ba 0 1 0 y1,Zi 0] [some ⟨1,toNat (nb:Int),true,.fn fun i j=>Zi (aE (aQ (cq (Value.int IntKind.i64 (0:Int))) j))⟩] (fun x1=>(.br (decide ((x1.1:Int)<(ne:Int))) (.bj (0≤(x1.1:Int)∧(x1.1:Int)<(ne:Int)) (.bj ((0:Int)≤E (toNat (x1.1:Int)) 0∧E (toNat (x1.1:Int)) 0<(y1:Int)) (.bj ((0:Int)≤E (toNat (x1.1:Int)) 0∧E (toNat (x1.1:Int)) 0<(y1:Int)) (.bj ((0:Int)≤E (toNat (x1.1:Int)) 1∧E (toNat (x1.1:Int)) 1<(y1:Int)) (.bj ((0:Int)≤E (toNat (x1.1:Int)) 1∧E (toNat (x1.1:Int)) 1<(y1:Int)) (.bj ((decide (E (toNat (x1.1:Int)) 0≥5)==true)=true→(0:Int)≤E (toNat (x1.1:Int)) 0∧E (toNat (x1.1:Int)) 0<(y1:Int)) (.br (decide (E (toNat (x1.1:Int)) 0≥5)&&decide ((bif Nat.beq (toNat (E (toNat (x1.1:Int)) 0)+0) (toNat (E (toNat (x1.1:Int)) 1)+0)&&true then wrap .i64 ((bif Nat.beq (toNat (E (toNat (x1.1:Int)) 1)+0) (toNat (E (toNat (x1.1:Int)) 0)+0)&&true then wrap .i64 (ck E x1.1 (toNat (E (toNat (x1.1:Int)) 0)+0) - E (toNat (x1.1:Int)) 2) else ck E x1.1 (toNat (E (toNat (x1.1:Int)) 1)+0))+E (toNat (x1.1:Int)) 2) else bif Nat.beq (toNat (E (toNat (x1.1:Int)) 0)+0) (toNat (E (toNat (x1.1:Int)) 0)+0)&&true then wrap .i64 (ck E x1.1 (toNat (E (toNat (x1.1:Int)) 0)+0) - E (toNat (x1.1:Int)) 2) else ck E x1.1 (toNat (E (toNat (x1.1:Int)) 0)+0))<0)) (.out (.aX [.bn,.bool false]) [] y0 []) (.again (bh 0 (fun x=>aY [1,6,7] [.aH 4 ne fun i j=>Zi (E i j),.ba 0 1 0 y1,Zi x.1] [some ⟨1,nb,true,.fn fun i x_1=>Zi (ck E (x.1) i)⟩]) (fun x=>ne - x.1) x1) [1,6,7] [0] [.aH 4 ne fun i j=>Zi (E i j),.ba 0 1 0 y1,Zi (wrap .i64 ((x1.1:Int)+1))] [some ⟨1,nb,true,.fn fun i j=>Zi (bif Nat.beq i (toNat (E (toNat (x1.1:Int)) 1)+0)&&(Nat.ble 0 j&&Nat.blt j 1) then wrap .i64 ((bif Nat.beq (toNat (E (toNat (x1.1:Int)) 1)+0) (toNat (E (toNat (x1.1:Int)) 0)+0)&&true then wrap .i64 (ck E x1.1 (toNat (E (toNat (x1.1:Int)) 0)+0) - E (toNat (x1.1:Int)) 2) else ck E x1.1 (toNat (E (toNat (x1.1:Int)) 1)+0))+E (toNat (x1.1:Int)) 2) else bif Nat.beq i (toNat (E (toNat (x1.1:Int)) 0)+0)&&(Nat.ble 0 j&&Nat.blt j 1) then wrap .i64 (ck E x1.1 (toNat (E (toNat (x1.1:Int)) 0)+0) - E (toNat (x1.1:Int)) 2) else ck E x1.1 i)⟩])))))))) (.out (.aX [.aH 1 y1 fun r k=>Zi (ck E x1.1 (r+0)),.bool true]) [] y0 []))))))
  (by kernel_rfl) ?_
 refine aD (by omega) ?_
 refine aV (fun _ hs=>hs.le (⟨.refl _,.refl _,.refl _,trivial⟩) (⟨⟨rfl,Int.toNat_natCast nb,rfl,fun i j _ hj=>by obtain rfl:j=0:=Nat.lt_one_iff.1 hj;exact ay.refl _⟩,trivial⟩)) (fun x1=>?_)
 try (have q1:=x1.2;dsimp only at q1)
 have kE:x1.1<ne→_:=fun hx=>iH.1 (h x1.1 hx)
 refine aL (fun h2=>?_) (fun h2=>?_)
 ·have g2:=af h2
  refine aD (by omega) ?_
  refine aD (by have kk:=kE (by omega);simp only [Int.toNat_natCast];omega) ?_
  refine aD (by have kk:=kE (by omega);simp only [Int.toNat_natCast];omega) ?_
  refine aD (by have kk:=kE (by omega);simp only [Int.toNat_natCast];omega) ?_
  refine aD (by have kk:=kE (by omega);simp only [Int.toNat_natCast];omega) ?_
  refine aD (fun hr=>by have kk:=kE (by omega);simp only [Int.toNat_natCast];omega) ?_
  refine aL (fun h9=>?_) (fun h9=>?_)
  ·have g9:=(ah af af) h9
   try simp only [Int.toNat_natCast] at g9
   exact aq (by rw [nF (p:=fun k=>fv (ck E k) (E k)) (i:=x1.1) (by omega) (KP (by omega) (fun j hj=>h j (by omega)) g9)];exact ay.aX ⟨ay.bn,ay.refl _,trivial⟩)
  ·have g9:=(ao aa aa) h9
   try simp only [Int.toNat_natCast] at g9
   exact aN (⟨x1.1+1,by omega,cN x1.2.2 (Km (by omega) (fun j hj=>h j (by omega)) g9)⟩) (fun _ hs=>hs.le (⟨.refl _,.refl _,aK (by omega),trivial⟩) (⟨⟨rfl,rfl,rfl,fun i j _ hj=>ay.of_eq (congrArg (AV.int _) (Ho (h x1.1 (by omega)) hj))⟩,trivial⟩)) (by dsimp only;omega)
 ·have g2:=aa h2
  exact aq (by rw [show ((List.range ne).all fun k=>fv (ck E k) (E k))=true from jX fun i hi=>x1.2.2 i (by omega),show x1.1=ne by omega];exact ay.of_eq (by rw [Int.toNat_natCast];rfl))
theorem Fy (nb:Nat) (B:Nat→Int) (ne:Nat) (E:Nat→Nat→Int) (hn:nb<9223372036854775808) (he:ne<9223372036854775808):Pure Tryz.prog aZ 69 [.agg [jt nb B,lV ne E]] (.bool (fH nb B ne E)):=by
 have c1:=fun k=>Er nb (E k)
 have c2:=Hh nb
 have c3:=fun (h:(nb≤1000∧ne≤1000)∧∀ k,k<ne→fB nb (E k)=true)=>Ly nb ne E h.1.1 h.1.2 h.2
 refine ar (own:=bq) Tryz.func69 (by kernel_rfl) mixed (by kernel_rfl)
  (let y0:List (Option Ob):=[some ⟨2,1,true,.bc [[.aH 1 nb fun i x=>Zi (B i),.aH 4 ne fun i j=>Zi (E i j)]]⟩];let y1:AV:=(.bool (fH nb B ne E));(.sc true 115 [Zi nb] (.bool (decide ((nb:Int)≥5)&&decide ((nb:Int)≤105))) (.br (!(decide ((nb:Int)≥5)&&decide ((nb:Int)≤105))||decide ((ne:Int)>1000)) (.out (.bool false) [] y1 []) (.loop ({ x:Nat // x≤ne∧(fun (x:Nat)=>∀ (j:Nat),j<x→fB nb (E j)=true) x }) (fun x=>aY [1,3,4] [.own 0 2 0 0 2,Zi nb,Zi x.1] y0) (fun x=>ne - x.1) (⟨0,⟨Nat.zero_le ne,fun (j:Nat) (hj:j<0)=>absurd hj (Nat.not_lt_zero j)⟩⟩) [1,3,4] [0] [.own 0 2 0 0 2,Zi nb,Zi 0] (y0) (fun x3=>(.br (decide ((x3.1:Int)<(ne:Int))) (.bj (0≤(x3.1:Int)∧(x3.1:Int)<(ne:Int)) (.sc true 116 [Zi nb,.agg [Zi (E (toNat (x3.1:Int)) 0),Zi (E (toNat (x3.1:Int)) 1),Zi (E (toNat (x3.1:Int)) 2),Zi (E (toNat (x3.1:Int)) 3)]] (.bool (fB nb (E (toNat (x3.1:Int))))) (.br (!fB nb (E (toNat (x3.1:Int)))) (.out (.bool false) [] y1 []) (.again (bh 0 (fun x=>aY [1,3,4] [.own 0 2 0 0 2,Zi nb,Zi x.1] y0) (fun x=>ne - x.1) x3) [1,3,4] [0] [.own 0 2 0 0 2,Zi nb,Zi (wrap .i64 ((x3.1:Int)+1))] (y0))))) (.dc true 117 [Zi nb,.aH 4 ne fun i j=>Zi (E i j)] (.aX [.aH 1 (bif List.all (List.range ne) fun k=>fv (ck E k) (E k) then nb else 0) fun i x=>Zi (ck E ne i),.bool (List.all (List.range ne) fun k=>fv (ck E k) (E k))]) (.br (!List.all (List.range.loop ne []) fun k=>fv (ck E k) (E k)) (.out (.bool false) [] y1 []) (.loop ({ x:Nat // x≤nb∧(fun (x:Nat)=>∀ (j:Nat),j<x→(ck E ne j==B j)=true) x }) (fun x=>aY [1,3,5,7] [.own 0 2 0 0 2,Zi nb,.aH 1 (bif List.all (List.range.loop ne []) fun k=>fv (ck E k) (E k) then nb else 0) fun i x=>Zi (ck E ne i),Zi x.1] y0) (fun x=>nb - x.1) (⟨0,⟨Nat.zero_le nb,fun (j:Nat) (hj:j<0)=>absurd hj (Nat.not_lt_zero j)⟩⟩) [1,3,5,7] [0] [.own 0 2 0 0 2,Zi nb,.aH 1 (bif List.all (List.range.loop ne []) fun k=>fv (ck E k) (E k) then nb else 0) fun i x=>Zi (ck E ne i),Zi 0] (y0) (fun x13=>(.br (decide ((x13.1:Int)<(nb:Int))) (.bj (0≤(x13.1:Int)∧(x13.1:Int)<(↑(bif List.all (List.range.loop ne []) fun k=>fv (ck E k) (E k) then nb else 0):Int)) (.bj (0≤(x13.1:Int)∧(x13.1:Int)<(nb:Int)) (.br (ck E ne (toNat (x13.1:Int)) != B (toNat (x13.1:Int))) (.out (.bool false) [] y1 []) (.again (bh 0 (fun x=>aY [1,3,5,7] [.own 0 2 0 0 2,Zi nb,.aH 1 (bif List.all (List.range.loop ne []) fun k=>fv (ck E k) (E k) then nb else 0) fun i x=>Zi (ck E ne i),Zi x.1] y0) (fun x=>nb - x.1) x13) [1,3,5,7] [0] [.own 0 2 0 0 2,Zi nb,.aH 1 (bif List.all (List.range.loop ne []) fun k=>fv (ck E k) (E k) then nb else 0) fun i x=>Zi (ck E ne i),Zi (wrap .i64 ((x13.1:Int)+1))] (y0))))) (.out (.bool true) [] y1 []))))))))))))
  (by kernel_rfl) ?_
 refine aM (c2) ?_
 refine aL (fun h1=>?_) (fun h1=>?_)
 ·have g1:=(aA (aC (ao aa aa)) af) h1
  exact aq (ay.of_eq (congrArg AV.bool (yF (by omega)).symm))
 ·have g1:=(aw (az (ah af af)) aa) h1
  refine aV (fun _ hs=>hs.le (⟨.refl _,.refl _,.refl _,trivial⟩) (⟨.refl _,trivial⟩)) (fun x3=>?_)
  try (have q3:=x3.2;dsimp only at q3)
  refine aL (fun h4=>?_) (fun h4=>?_)
  ·have g4:=af h4
   refine aD (by omega) ?_
   refine aM (c1 (toNat (↑x3.1:Int))) ?_
   refine aL (fun h7=>?_) (fun h7=>?_)
   ·have g7:=(aC aF) h7
    try simp only [Int.toNat_natCast] at g7
    exact aq (ay.of_eq (congrArg AV.bool (sF (k:=x3.1) (by omega) (Ci g7)).symm))
   ·have g7:=(az aB) h7
    try simp only [Int.toNat_natCast] at g7
    exact aN (⟨x3.1+1,by omega,cN x3.2.2 g7⟩) (fun _ hs=>hs.le (⟨.refl _,.refl _,aK (by omega),trivial⟩) (⟨.refl _,trivial⟩)) (by dsimp only;omega)
  ·have g4:=aa h4
   refine b9 (c3 (⟨by omega,fun k hk=>x3.2.2 k (by omega)⟩)) ?_
   refine aL (fun h11=>?_) (fun h11=>?_)
   ·have g11:=(aC aF) h11
    exact aq (ay.of_eq (congrArg AV.bool (NF (fun k hk=>x3.2.2 k (by omega)) g11).symm))
   ·have g11:=(az aB) h11
    refine aV (fun _ hs=>hs.le (⟨.refl _,.refl _,.refl _,.refl _,trivial⟩) (⟨.refl _,trivial⟩)) (fun x13=>?_)
    try (have q13:=x13.2;dsimp only at q13)
    refine aL (fun h14=>?_) (fun h14=>?_)
    ·have g14:=af h14
     refine aD (by (simp only [g11,cond_true,Int.toNat_natCast];omega)) ?_
     refine aD (by omega) ?_
     refine aL (fun h17=>?_) (fun h17=>?_)
     ·have g17:=aU h17
      try simp only [Int.toNat_natCast] at g17
      exact aq (ay.of_eq (congrArg AV.bool (qg fun e=>g17 ((Bk e).bal _ (by omega))).symm))
     ·have g17:=aR h17
      try simp only [Int.toNat_natCast] at g17
      exact aN (⟨x13.1+1,by omega,cN x13.2.2 (beq_iff_eq.2 g17)⟩) (fun _ hs=>hs.le (⟨.refl _,.refl _,.refl _,aK (by omega),trivial⟩) (⟨.refl _,trivial⟩)) (by dsimp only;omega)
    ·have g14:=aa h14
     exact aq (ay.of_eq (congrArg AV.bool (by rw [Cp (by omega) (by omega) g1.2 (K9 (B:=B) (fun k hk=>x3.2.2 k (by omega)) g11)];exact (jX fun i hi=>x13.2.2 i (by omega)).symm)))
theorem Co (nb:Nat) (B:Nat→Int) (ne:Nat) (E:Nat→Nat→Int) (hn:nb<9223372036854775808) (he:ne<9223372036854775808):Pure Tryz.prog aZ 28 [.agg [jt nb B,lV ne E],.agg [jt nb B,lV ne E]] (.bool true):=by
 refine ar (own:=bq) Tryz.func28 (by kernel_rfl) mixed (by kernel_rfl)
  (let y0:List (Option Ob):=[some ⟨2,1,true,.bc [[.aH 1 nb fun i x=>Zi (B i),.aH 4 ne fun i j=>Zi (E i j)]]⟩,some ⟨2,1,true,.bc [[.aH 1 nb fun i x=>Zi (B i),.aH 4 ne fun i j=>Zi (E i j)]]⟩];let y1:=(fun (x:{ x:Nat // x≤nb })=>aY [2,3,5] [.own 0 2 0 0 2,.own 1 2 0 0 2,Zi x.1] y0);let y2:=(fun (x:{ x:Nat // x≤ne })=>aY [2,3,6] [.own 0 2 0 0 2,.own 1 2 0 0 2,Zi x.1] y0);let y3:=(fun (x:{ x:Nat // x≤nb })=>nb - x.1);let y4:=(fun (x:{ x:Nat // x≤ne })=>ne - x.1);let y5:List AV:=[.own 0 2 0 0 2,.own 1 2 0 0 2,Zi 0];(.br ((nb:Int) != (nb:Int)||(ne:Int) != (ne:Int)) (.out (.bool false) [] (.bool true) []) (.loop ({ x:Nat // x≤nb }) y1 y3 (⟨0,Nat.zero_le nb⟩) [2,3,5] [0,8] (y5) (y0) (fun x2=>(.br (decide ((x2.1:Int)<(nb:Int))) (.bj (0≤(x2.1:Int)∧(x2.1:Int)<(nb:Int)) (.bj (0≤(x2.1:Int)∧(x2.1:Int)<(nb:Int)) (.br (B (toNat (x2.1:Int)) != B (toNat (x2.1:Int))) (.out (.bool false) [] (.bool true) []) (.again (bh 0 y1 y3 x2) [2,3,5] [0,1] [.own 0 2 0 0 2,.own 1 2 0 0 2,Zi (wrap .i64 ((x2.1:Int)+1))] (y0))))) (.loop ({ x:Nat // x≤ne }) y2 y4 (⟨0,Nat.zero_le ne⟩) [2,3,6] [0,1] (y5) (y0) (fun x9=>(.br (decide ((x9.1:Int)<(ne:Int))) (.bj (0≤(x9.1:Int)∧(x9.1:Int)<(ne:Int)) (.bj (0≤(x9.1:Int)∧(x9.1:Int)<(ne:Int)) (.br (!(E (toNat (x9.1:Int)) 0==E (toNat (x9.1:Int)) 0&&(E (toNat (x9.1:Int)) 1==E (toNat (x9.1:Int)) 1&&(E (toNat (x9.1:Int)) 2==E (toNat (x9.1:Int)) 2&&(E (toNat (x9.1:Int)) 3==E (toNat (x9.1:Int)) 3&&true))))) (.out (.bool false) [] (.bool true) []) (.again (bh 0 y2 y4 x9) [2,3,6] [0,1] [.own 0 2 0 0 2,.own 1 2 0 0 2,Zi (wrap .i64 ((x9.1:Int)+1))] (y0))))) (.out (.bool true) [] (.bool true) [])))))))))
  (by kernel_rfl) ?_
 refine aL (fun h0=>?_) (fun h0=>?_)
 ·have g0:=(aA aU aU) h0
  exact aq (ay.of_eq (by simp_all))
 ·have g0:=(aw aR aR) h0
  refine aV (fun _ hs=>hs.le (⟨.refl _,.refl _,.refl _,trivial⟩) (⟨.refl _,.refl _,trivial⟩)) (fun x2=>?_)
  try (have q2:=x2.2;dsimp only at q2)
  refine aL (fun h3=>?_) (fun h3=>?_)
  ·have g3:=af h3
   refine aD (by omega) ?_
   refine aD (by omega) ?_
   refine aL (fun h6=>?_) (fun h6=>?_)
   ·have g6:=aU h6
    try simp only [Int.toNat_natCast] at g6
    exact aq (ay.of_eq (by simp_all))
   ·have g6:=aR h6
    try simp only [Int.toNat_natCast] at g6
    exact aN (⟨x2.1+1,by omega⟩) (fun _ hs=>hs.le (⟨.refl _,.refl _,aK (by omega),trivial⟩) (⟨.refl _,.refl _,trivial⟩)) (by dsimp only;omega)
  ·have g3:=aa h3
   refine aV (fun _ hs=>hs.le (⟨.refl _,.refl _,.refl _,trivial⟩) (⟨.refl _,.refl _,trivial⟩)) (fun x9=>?_)
   try (have q9:=x9.2;dsimp only at q9)
   refine aL (fun h10=>?_) (fun h10=>?_)
   ·have g10:=af h10
    refine aD (by omega) ?_
    refine aD (by omega) ?_
    refine aL (fun h13=>?_) (fun h13=>?_)
    ·have g13:=(aC (ao aj (ao aj (ao aj (ao aj aF))))) h13
     try simp only [Int.toNat_natCast] at g13
     exact aq (ay.of_eq (by simp_all))
    ·have g13:=(az (ah ai (ah ai (ah ai (ah ai aB))))) h13
     try simp only [Int.toNat_natCast] at g13
     exact aN (⟨x9.1+1,by omega⟩) (fun _ hs=>hs.le (⟨.refl _,.refl _,aK (by omega),trivial⟩) (⟨.refl _,.refl _,trivial⟩)) (by dsimp only;omega)
   ·have g10:=aa h10
    exact aq (ay.of_eq rfl)
theorem rn (b:aI) (R:Nat→Nat→Int) (n:Nat) (s t:au) (leaf:Int) (hn:n≤1000) (hw:b.gr.W) (hs:s.nl≤1000) (ht:t.nl≤1000) (bs:s.By) (bt:t.By) (ps:s.np≤1000000) (pt:t.np≤1000000) (fs:∀ k,k<s.np→cS (s.pf k) 32) (ft:∀ k,k<t.np→cS (t.pf k) 32) :
  Pure Tryz.prog aZ 20 [b.av,rcl n R,.agg (s.cells++(t.cells++[.int .i64 leaf]))] (.aX [.int .i64 (lC b R n s t leaf),.bool (p7 b R n s t leaf)]):=by
 have c0:=eF b hw
 have c1:=rP s t
 have c2:=Dw b R n s hn hw bs.root bs.bM fs ps hs
 have c3:=Dw b R n t hn hw bt.root bt.bM ft pt ht
 have c4:=EM b s t leaf hw hs ht bs bt
 refine ar (own:=bq) Tryz.func20 (by kernel_rfl) mixed (by kernel_rfl)
  (let y0:AV:=(.aX [Zi (lC b R n s t leaf),.bool (p7 b R n s t leaf)]);(.sc true 31 [.agg (aI.cells b)] (.bool (aT b)) (.sc ((!aT b)==false) 47 [.aH 80 2 fun r k=>aQ (List.getD [au.cells s,au.cells t] (r+0) []) k] (.bool (dk s&&dk t)) (.sc ((!aT b || !(dk s&&dk t))==false) 48 [.agg (aI.cells b),.aH 11 n fun i j=>Zi (R i j),.agg (au.cells s)] (.bool (gk b R n s)) (.sc ((!aT b || !(dk s&&dk t) || !gk b R n s)==false) 48 [.agg (aI.cells b),.aH 11 n fun i j=>Zi (R i j),.agg (au.cells t)] (.bool (gk b R n t)) (.br (!aT b || !(dk s&&dk t) || !gk b R n s || !gk b R n t) (.out (.aX [Zi 0,.bool false]) [] y0 []) (.sc true 49 [.agg (aI.cells b),.agg (au.cells s),.agg (au.cells t),Zi leaf] (.aX [Zi (Prod.fst (qL b s t leaf)),Zi (Prod.snd (qL b s t leaf))]) (.out (.aX [Zi (qL b s t leaf).1,.bool ((qL b s t leaf).2==0)]) [] y0 []))))))))
  (by kernel_rfl) ?_
 refine aM (c0) ?_
 refine aW (fun h1=>c1) ?_
 refine aW (fun h2=>c2) ?_
 refine aW (fun h3=>c3) ?_
 refine aL (fun h4=>?_) (fun h4=>?_)
 ·have g4:=(aA (aA (aA (aC aF) (aC (ao aF aF))) (aC aF)) (aC aF)) h4
  exact aq (ay.of_eq (JE g4))
 ·have g4:=(aw (aw (aw (az aB) (az (ah aB aB))) (az aB)) (az aB)) h4
  refine aM (c4) ?_
  exact aq (ay.of_eq (Bn ⟨g4.1.2,g4.2⟩))
theorem qC (b:aI) (R:Nat→Nat→Int) (n:Nat) (s t:au) (leaf:Int) (h0:leaf≤9223372036854775807) (hn:n≤1000) (hw:b.gr.W) (hs:s.nl≤1000) (ht:t.nl≤1000) (bs:s.By) (bt:t.By) (ps:s.np≤1000000) (pt:t.np≤1000000) (fs:∀ k,k<s.np→cS (s.pf k) 32) (ft:∀ k,k<t.np→cS (t.pf k) 32) :
  Pure Tryz.prog aZ 24 [b.av,rcl n R,.agg (s.cells++(t.cells++[.int .i64 leaf]))] (.aX [.int .i64 (lC b R n s t leaf),.bool (p7 b R n s t leaf)]):=by
 have c1:=yj R n s hn
 have c2:=yj R n t hn
 have c3:=ED b (l4 R n s) s hw bs.root bs.bM fs ps hs
 have c4:=ED b (l4 R n t) t hw bt.root bt.bM ft pt ht
 have c5:=Az b s t leaf h0 hw hs ht bs bt
 have c6:=fun h hu=>wz b (cj b s t leaf).1 h hu
 refine ar (own:=bq) Tryz.func24 (by kernel_rfl) mixed (by kernel_rfl)
  (let y0:AV:=(.aX [Zi (lC b R n s t leaf),.bool (p7 b R n s t leaf)]);(.sc true 72 [.aH 11 n fun i j=>Zi (R i j),.agg (au.cells s)] (.aX [fZ.av (l4 R n s),.bool (decide (ml R n s≥0))]) (.sc true 72 [.aH 11 n fun i j=>Zi (R i j),.agg (au.cells t)] (.aX [fZ.av (l4 R n t),.bool (decide (ml R n t≥0))]) (.sc ((!decide (ml R n s≥0) || !decide (ml R n t≥0))==false) 73 [.agg (aI.cells b),.agg (fZ.cells (l4 R n s)),.agg (au.cells s)] (.bool (kC b (l4 R n s) s)) (.sc ((!decide (ml R n s≥0) || !decide (ml R n t≥0) || !kC b (l4 R n s) s)==false) 73 [.agg (aI.cells b),.agg (fZ.cells (l4 R n t)),.agg (au.cells t)] (.bool (kC b (l4 R n t) t)) (.br (!decide (ml R n s≥0) || !decide (ml R n t≥0) || !kC b (l4 R n s) s || !kC b (l4 R n t) t) (.out (.aX [Zi 0,.bool false]) [] y0 []) (.sc true 74 [.agg (aI.cells b),.agg (au.cells s),.agg (au.cells t),Zi leaf] (.aX [Zi (Prod.fst (cj b s t leaf)),Zi (Prod.snd (cj b s t leaf))]) (.sc (((cj b s t leaf).2 != 0||(cj b s t leaf).1==0)==false) 75 [.agg (aI.cells b),Zi (cj b s t leaf).1] (Zi (nQ b (Prod.fst (cj b s t leaf)))) (.br ((cj b s t leaf).2 != 0||(cj b s t leaf).1==0||nQ b (cj b s t leaf).1==1) (.out (.aX [Zi 0,.bool false]) [] y0 []) (.sc true 76 [Zi b.2,Zi (cj b s t leaf).1,Zi (aI.gr b).1] (Zi (b.2^toNat (cj b s t leaf).1%(aI.gr b).1)) (.out (.aX [Zi (b.2^toNat (cj b s t leaf).1%(aI.gr b).1),.bool true]) [] y0 [])))))))))))
  (by kernel_rfl) ?_
 refine aM (c1) ?_
 refine aM (c2) ?_
 refine aW (fun h2=>c3) ?_
 refine aW (fun h3=>c4) ?_
 refine aL (fun h4=>?_) (fun h4=>?_)
 ·have g4:=(aA (aA (aA (aC aa) (aC aa)) (aC aF)) (aC aF)) h4
  exact aq (ay.of_eq (KT g4))
 ·have g4:=(aw (aw (aw (az af) (az af)) (az aB)) (az aB)) h4
  refine aM (c5) ?_
  refine aW (fun h7=>c6 ((by simp at h7;exact (js h7.1).1)) ((by simp at h7;exact (js h7.1).2))) ?_
  refine aL (fun h8=>?_) (fun h8=>?_)
  ·have g8:=(aA (aA aU ai) ai) h8
   exact aq (ay.of_eq (OQ (LD g4) g8))
  ·have g8:=(aw (aw aR aj) aj) h8
   refine aM (jS (b.2) ((cj b s t leaf).1) ((aI.gr b).1) (by have K:=mO g8.1.1;omega) (by have K:=mO g8.1.1;omega) (by have K:=mO g8.1.1;omega) (by have K:=mO g8.1.1;omega) (by have K:=mO g8.1.1;omega)) ?_
   exact aq (ay.of_eq (OA (LD g4) g8))
end Go.Proofs.YtpefjkpdniiaoaaGreatDoor

namespace Go.Sp
open Go.IntKind (wrap)
open Int (toNat)
open Go Go.Am
structure vE (g : cH) : Prop where
  sl : g.s.nl ≤ 1000
  tl : g.t.nl ≤ 1000
  sb : g.s.By
  tb : g.t.By
  sp : g.s.np ≤ 1000
  tp : g.t.np ≤ 1000
  sf : ∀ q, q < g.s.np → cS (g.s.pf q) 32
  tf : ∀ q, q < g.t.np → cS (g.t.pf q) 32
  lf : g.leaf ≤ 9223372036854775807
structure jz (k : aS) : Prop where
  w : k.bT.gr.W
  nr : k.nr < 9223372036854775808
  ns : k.ns < 9223372036854775808
  nc : k.nc < 9223372036854775808
  nb : k.nb < 9223372036854775808
  ne : k.ne < 9223372036854775808
  nu : k.nu < 9223372036854775808
  ni : k.ni < 9223372036854775808
  ng : k.ng < 9223372036854775808
  U : yP k.nu k.U
  G : ∀ i, i < k.ng → vE (k.G i)
variable {k : aS}
theorem eW:dK k=true↔hdK k=true∧eL k=true∧fX k=true∧fH k.nb k.B k.ne k.E=true∧k.nb=5+k.nc∧ir k.nu k.U=true∧hZ k=true∧k.ng≤200∧∀ i,i<k.ng→ox k i=true:=by
 simp [dK,Fv,and_assoc]
theorem oM:hdK k=true↔0≤k.num∧k.num≤7∧aT k.bT=true∧0≤k.bK∧k.bK≤1099511627776∧er k.bT k.sec=true∧0≤k.now∧k.now≤1099511627776:=by
 simp [hdK,and_assoc]
theorem DR (g:((((¬k.num≥0∨¬k.num≤7)∨aT k.bT=false)∨(¬k.bK≥0∨¬k.bK≤1099511627776))∨er k.bT k.sec=false)∨(¬k.now≥0∨¬k.now≤1099511627776)):dK k=false:=eU fun e=>by
 have e:=oM.1 (eW.1 e).1
 grind
theorem Oc (g:((((k.num≥0∧k.num≤7)∧aT k.bT=true)∧(k.bK≥0∧k.bK≤1099511627776))∧er k.bT k.sec=true)∧(k.now≥0∧k.now≤1099511627776)):hdK k=true:=oM.2 (by grind)
theorem xW (g:(((((eL k=false∨fX k=false)∨fH k.nb k.B k.ne k.E=false)∨¬(k.nb:Int)=IntKind.wrap .i64 (5+(k.nc:Int)))∨ir k.nu k.U=false)∨hZ k=false)∨(k.ng:Int)>200):dK k=false:=eU fun e=>by
 have e:=eW.1 e
 have e6:=(rq e.2.2.1).1
 rw [wI (by omega) (by omega)] at g
 grind
theorem Fj (hd:hdK k=true) (g:(((((eL k=true∧fX k=true)∧fH k.nb k.B k.ne k.E=true)∧(k.nb:Int)=IntKind.wrap .i64 (5+(k.nc:Int)))∧ir k.nu k.U=true)∧hZ k=true)∧¬(k.ng:Int)>200):(!anyI (fun i => !ox k i) k.ng)=dK k:=by
 have e6:=(rq g.1.1.1.1.1.2).1
 rw [wI (by omega) (by omega)] at g
 cases e:anyI (fun i => !ox k i) k.ng with
 | true =>
  obtain ⟨i,hi,h⟩:=Lq e
  exact (eU fun f=>by have:=(eW.1 f).2.2.2.2.2.2.2.2 i hi;rw [this] at h;cases h).symm
 | false =>
  refine (eW.2 ⟨hd,g.1.1.1.1.1.1,g.1.1.1.1.1.2,g.1.1.1.1.2,by have:=g.1.1.1.2;omega,g.1.1.2,g.1.2,by have:=g.2;omega,fun i hi=>?_⟩).symm
  have:=CR e i hi
  simpa using this
theorem EL (hd:hdK k=true) (g:(((((eL k=true∧fX k=true)∧fH k.nb k.B k.ne k.E=true)∧(k.nb:Int)=IntKind.wrap .i64 (5+(k.nc:Int)))∧ir k.nu k.U=true)∧hZ k=true)∧¬(k.ng:Int)>200) (h:∀ i,i<k.ng→ox k i=true):dK k=true:=by
 have e6:=(rq g.1.1.1.1.1.2).1
 rw [wI (by omega) (by omega)] at g
 exact eW.2 ⟨hd,g.1.1.1.1.1.1,g.1.1.1.1.1.2,g.1.1.1.1.2,by have:=g.1.1.1.2;omega,g.1.1.2,g.1.2,by have:=g.2;omega,h⟩
end Go.Sp

namespace Go.Proofs.YtpefjkpdniiaoaaGreatDoor
open Go.IntKind (wrap)
open Int (toNat)
open Go Go.Am Go.Sp
set_option maxRecDepth 100000
theorem J2 (s:Nat→Int) (c:Int):Pure Tryz.prog aZ 36 [.agg (bf s++[.int .i64 c])] (.bool (decide (c≥0)&&decide (c≤1099511627776))):=by
 refine ar (own:=bq) Tryz.func36 (by kernel_rfl) mixed (by kernel_rfl)
  (let y0:AV:=(.bool (decide (c≥0)&&decide (c≤1099511627776)));(.out y0 [] y0 []))
  (by kernel_rfl) ?_
 exact aq (ay.of_eq rfl)
theorem Hr (s:Nat→Int) (c:Int):Pure Tryz.prog aZ 65 [.agg (bf s++[.int .i64 c])] (.bool (decide (c≥0)&&decide (c≤1099511627776))):=by
 refine ar (own:=bq) Tryz.func65 (by kernel_rfl) mixed (by kernel_rfl)
  (let y0:AV:=(.bool (decide (c≥0)&&decide (c≤1099511627776)));(.out y0 [] y0 []))
  (by kernel_rfl) ?_
 exact aq (ay.of_eq rfl)
theorem Fz (k:aS) (i:Nat) (hw:k.bT.gr.W) (hn:k.nr≤1000) (hg:vE (k.G i)):Pure Tryz.prog aZ 42 [.agg (k.G i).cells,.bJ 50 (aQ k.cells)] (.bool (!ox k i)):=by
 have c1:=rn k.bT k.R k.nr (k.G i).s (k.G i).t (k.G i).leaf hn hw hg.sl hg.tl hg.sb hg.tb (by have:=hg.sp;omega) (by have:=hg.tp;omega) hg.sf hg.tf
 refine ar (own:=bq) Tryz.func42 (by kernel_rfl) mixed (by kernel_rfl)
  (.sc true 20 [.agg (aI.cells (aS.bT k)),.aH 11 k.4 fun i j=>Zi (k.5 i j),.agg (cH.cells (aS.G k i))] (.aX [Zi (lC (aS.bT k) (aS.R k) (aS.nr k) (cH.s (aS.G k i)) (cH.t (aS.G k i)) (cH.leaf (aS.G k i))),.bool (p7 (aS.bT k) (aS.R k) (aS.nr k) (cH.s (aS.G k i)) (cH.t (aS.G k i)) (cH.leaf (aS.G k i)))]) (.out (.bool !p7 k.2 k.5 k.4 (aS.G k i).1 (aS.G k i).2 (aS.G k i).3) [] (.bool !ox k i) []))
  (by kernel_rfl) ?_
 refine aM (c1) ?_
 exact aq (ay.of_eq rfl)
theorem KV (k:aS) (hk:jz k) (hn:k.nr≤1000):Pure Tryz.prog aZ 45 [nm k.ng k.G,.fn (.func 42) [] [.bJ 50 (aQ k.cells)]] (.int .i64 (aG (fun i => !ox k i) k.ng 0)):=by
 have c1:=fun i (h:i<k.ng)=>Fz k i hk.w hn (hk.G i h)
 have hng:=hk.ng
 refine ar (own:=bq) Tryz.func45 (by kernel_rfl) mixed (by kernel_rfl)
  (let y0:=(fun (x:{ x:Nat // x≤aS.ng k∧(fun i=>aG (fun i => !ox k i) (aS.ng k) 0=aG (fun i => !ox k i) (aS.ng k - i) i) x })=>aY [0,1,7,8] [.aH 161 k.18 fun i j=>aQ (cH.cells (aS.G k i)) j,AV.fn (Fn.func (42:FuncId)) [] [AV.bJ 50 (aQ (aS.cells k))],Zi k.18,Zi x.1] []);let y1:=(fun (x:{ x:Nat // x≤aS.ng k∧(fun i=>aG (fun i => !ox k i) (aS.ng k) 0=aG (fun i => !ox k i) (aS.ng k - i) i) x })=>aS.ng k - x.1);let y2:AV:=(Zi (aG (fun i => !ox k i) (aS.ng k) 0));(.loop ({ x:Nat // x≤aS.ng k∧(fun i=>aG (fun i => !ox k i) (aS.ng k) 0=aG (fun i => !ox k i) (aS.ng k - i) i) x }) y0 y1 (⟨0,⟨Nat.zero_le (aS.ng k),rfl⟩⟩) [0,1,7,8] [] [.aH 161 k.18 fun i j=>aQ (cH.cells (aS.G k i)) j,AV.fn (Fn.func (42:FuncId)) [] [AV.bJ 50 (aQ (aS.cells k))],Zi k.18,Zi 0] [] (fun x0=>(.br (decide ((x0.1:Int)<(k.18:Int))) (.bj (0≤(x0.1:Int)∧(x0.1:Int)<(k.18:Int)) (.sc true 42 [.agg (cH.cells (aS.G k (toNat (↑(x0.1):Int)))),AV.bJ 50 (aQ (aS.cells k))] (.bool !ox k (toNat (↑(x0.1):Int))) (.br (!ox k (toNat (x0.1:Int))) (.out (Zi x0.1) [] y2 []) (.again (bh 0 y0 y1 x0) [0,1,7,8] [] [.aH 161 k.18 fun i j=>aQ (cH.cells (aS.G k i)) j,AV.fn (Fn.func (42:FuncId)) [] [AV.bJ 50 (aQ (aS.cells k))],Zi k.18,Zi (wrap .i64 ((x0.1:Int)+1))] [])))) (.out (Zi (-1)) [] y2 [])))))
  (by kernel_rfl) ?_
 refine aV (fun _ hs=>hs.le (⟨.refl _,.refl _,.refl _,.refl _,trivial⟩) (trivial)) (fun x0=>?_)
 try (have q0:=x0.2;dsimp only at q0)
 refine aL (fun h1=>?_) (fun h1=>?_)
 ·have g1:=af h1
  refine aD (by omega) ?_
  refine aM (c1 (toNat (↑(x0.1):Int)) (by omega)) ?_
  refine aL (fun h4=>?_) (fun h4=>?_)
  ·have g4:=(aC aF) h4
   try simp only [Int.toNat_natCast] at g4
   exact aq (ay.of_eq (congrArg _ (cr x0.2.2 (by omega) (by rw [g4];rfl))))
  ·have g4:=(az aB) h4
   try simp only [Int.toNat_natCast] at g4
   exact aN (⟨x0.1+1,by omega,bS x0.2.2 (by omega) (by rw [g4];rfl)⟩) (fun _ hs=>hs.le (⟨.refl _,.refl _,.refl _,aK (by omega),trivial⟩) (trivial)) (by dsimp only;omega)
 ·have g1:=aa h1
  exact aq (ay.of_eq (congrArg _ (bW x0.2.2 (by omega))))
theorem Jg (k:aS) (hk:jz k) (hn:k.nr≤1000):Pure Tryz.prog aZ 16 [nm k.ng k.G,.fn (.func 42) [] [.bJ 50 (aQ k.cells)]] (.bool (anyI (fun i => !ox k i) k.ng)):=by
 refine ar (own:=bq) Tryz.func16 (by kernel_rfl) mixed (by kernel_rfl)
  (.sc true 45 [.aH 161 k.18 fun i j=>aQ (cH.cells (aS.G k i)) j,AV.fn (Fn.func (42:FuncId)) [] [AV.bJ 50 (aQ (aS.cells k))]] (Zi (aG (fun i => !ox k i) (aS.ng k) 0)) (.out (.bool (decide (aG (fun i => !ox k i) k.18 0≥0))) [] (.bool (anyI (fun i => !ox k i) (aS.ng k))) []))
  (by kernel_rfl) ?_
 refine aM ((KV k hk hn)) ?_
 exact aq (ay.refl _)
theorem p8 (k:aS) (hk:jz k):Pure Tryz.prog aZ 10 [.agg k.cells] (.bool (dK k)):=by
 have c0:=eF k.bT hk.w
 have c1:=J2 k.sC k.bK
 have c2:=xr k.bT k.sec
 have c3:=fun h=>Fs k h hk.w hk.nr hk.ns
 have c4:=FL k hk.w hk.nc
 have c5:=BB k.nb k.B k.ne k.E hk.nb hk.ne
 have c6:=KE k.nu k.U hk.nu hk.U
 have c7:=fun h hr=>E2 k h hk.w hr hk.nc hk.ni
 have c8:=fun h=>Jg k hk h
 have hnc:=hk.nc
 refine ar (own:=bq) Tryz.func10 (by kernel_rfl) mixed (by kernel_rfl)
  (let y0:List AV:=[.agg (aS.cells k)];(.sc true 32 [Zi k.1,Zi 0,Zi 7] (.bool (decide (k.1≥0)&&decide (k.1≤7))) (.sc ((!(decide (k.1≥0)&&decide (k.1≤7)))==false) 31 [.agg (aI.cells (aS.bT k))] (.bool (aT (aS.bT k))) (.sc ((!(decide (k.1≥0)&&decide (k.1≤7)) || !aT k.2)==false) 36 [.agg (bf k.20++[Zi k.21])] (.bool (decide (aS.bK k≥0)&&decide (aS.bK k≤1099511627776))) (.sc ((!(decide (k.1≥0)&&decide (k.1≤7)) || !aT k.2 || !(decide (k.21≥0)&&decide (k.21≤1099511627776)))==false) 33 [.agg (aI.cells (aS.bT k)),Zi k.3] (.bool (er (aS.bT k) (aS.sec k))) (.sc ((!(decide (k.1≥0)&&decide (k.1≤7)) || !aT k.2 || !(decide (k.21≥0)&&decide (k.21≤1099511627776)) || !er k.2 k.3)==false) 32 [Zi k.22,Zi 0,Zi 1099511627776] (.bool (decide (k.22≥0)&&decide (k.22≤1099511627776))) (.br (!(decide (k.1≥0)&&decide (k.1≤7)) || !aT k.2 || !(decide (k.21≥0)&&decide (k.21≤1099511627776)) || !er k.2 k.3 || !(decide (k.22≥0)&&decide (k.22≤1099511627776))) (.out (.bool false) [] (.bool (dK k)) []) (.sc true 37 (y0) (.bool (eL k)) (.sc ((!eL k)==false) 38 (y0) (.bool (fX k)) (.sc ((!eL k || !fX k)==false) 39 [.agg [.aH 1 k.10 fun i x=>Zi (k.11 i),.aH 4 k.12 fun i j=>Zi (k.13 i j)]] (.bool (fH (aS.nb k) (aS.B k) (aS.ne k) (aS.E k))) (.sc ((!eL k || !fX k || !fH k.10 k.11 k.12 k.13||(k.10:Int) != wrap .i64 ((5:Int)+(k.8:Int)))==false) 40 [.agg [.aH 83 k.14 fun i j=>aQ (db.cells (aS.U k i)) j]] (.bool (ir (aS.nu k) (aS.U k))) (.sc ((!eL k || !fX k || !fH k.10 k.11 k.12 k.13||(k.10:Int) != wrap .i64 ((5:Int)+(k.8:Int)) || !ir k.14 k.15)==false) 41 (y0) (.bool (hZ k)) (.br (!eL k || !fX k || !fH k.10 k.11 k.12 k.13||(k.10:Int) != wrap .i64 ((5:Int)+(k.8:Int)) || !ir k.14 k.15 || !hZ k||decide ((k.18:Int)>200)) (.out (.bool false) [] (.bool (dK k)) []) (.sc true 16 [.aH 161 k.18 fun i j=>aQ (cH.cells (aS.G k i)) j,AV.fn (Fn.func 42) [] [AV.bJ 50 fun k_1=>aQ (aS.cells k) k_1]] (.bool (anyI (fun i => !ox k i) (aS.ng k))) (.out (.bool !anyI (fun i => !ox k i) k.18) [] (.bool (dK k)) [])))))))))))))))
  (by kernel_rfl) ?_
 refine aM (rL (k.1) ((0:Int)) ((7:Int))) ?_
 refine aW (fun h1=>c0) ?_
 refine aW (fun h2=>c1) ?_
 refine aW (fun h3=>c2) ?_
 refine aW (fun h4=>rL (k.22) ((0:Int)) ((1099511627776:Int))) ?_
 refine aL (fun h5=>?_) (fun h5=>?_)
 ·have g5:=(aA (aA (aA (aA (aC (ao aa aa)) (aC aF)) (aC (ao aa aa))) (aC aF)) (aC (ao aa aa))) h5
  exact aq (ay.of_eq (congrArg AV.bool (DR g5).symm))
 ·have g5:=(aw (aw (aw (aw (az (ah af af)) (az aB)) (az (ah af af))) (az aB)) (az (ah af af))) h5
  refine aM (c3 (bH.1 g5.1.1.1.2)) ?_
  refine aW (fun h8=>c4) ?_
  refine aW (fun h9=>c5) ?_
  refine aW (fun h10=>c6) ?_
  refine aW (fun h11=>c7 (bH.1 g5.1.1.1.2) (rK (by cases e:eL k with|true=>rfl|false=>rw [e] at h11;simp at h11))) ?_
  refine aL (fun h12=>?_) (fun h12=>?_)
  ·have g12:=(aA (aA (aA (aA (aA (aA (aC aF) (aC aF)) (aC aF)) aU) (aC aF)) (aC aF)) af) h12
   exact aq (ay.of_eq (congrArg AV.bool (xW g12).symm))
  ·have g12:=(aw (aw (aw (aw (aw (aw (az aB) (az aB)) (az aB)) aR) (az aB)) (az aB)) aa) h12
   refine aM (c8 (by have:=(rK g12.1.1.1.1.1.1).hi;omega)) ?_
   exact aq (ay.of_eq (congrArg AV.bool (Fj (Oc g5) g12)))
theorem Gg (k:aS) (hk:jz k):Pure Tryz.prog aZ 23 [.agg k.cells] (.bool (dK k)):=by
 have c0:=gG k.bT hk.w
 have c1:=Hr k.sC k.bK
 have c2:=Cr k.bT k.sec
 have c3:=fun h=>Gp k h hk.w hk.nr hk.ns
 have c4:=F8 k hk.w hk.nc
 have c5:=Fy k.nb k.B k.ne k.E hk.nb hk.ne
 have c6:=Hi k.nu k.U hk.nu hk.U
 have c7:=fun h hr=>FN k h hk.w hr hk.nc hk.ni
 have c8:=fun i (h:i<k.ng) hn=>qC k.bT k.R k.nr (k.G i).s (k.G i).t (k.G i).leaf (hk.G i h).lf hn hk.w (hk.G i h).sl (hk.G i h).tl (hk.G i h).sb (hk.G i h).tb (by have:=(hk.G i h).sp;omega) (by have:=(hk.G i h).tp;omega) (hk.G i h).sf (hk.G i h).tf
 have hnc:=hk.nc
 refine ar (own:=bq) Tryz.func23 (by kernel_rfl) mixed (by kernel_rfl)
  (let y0:List (Option Ob):=[some ⟨50,1,true,.bc [aS.cells k]⟩];let y1:List AV:=[.agg (aS.cells k)];(.sc true 63 [Zi k.1,Zi 0,Zi 7] (.bool (decide (k.1≥0)&&decide (k.1≤7))) (.sc ((!(decide (k.1≥0)&&decide (k.1≤7)))==false) 64 [.agg (aI.cells (aS.bT k))] (.bool (aT (aS.bT k))) (.sc ((!(decide (k.1≥0)&&decide (k.1≤7)) || !aT k.2)==false) 65 [.agg (bf k.20++[Zi k.21])] (.bool (decide (aS.bK k≥0)&&decide (aS.bK k≤1099511627776))) (.sc ((!(decide (k.1≥0)&&decide (k.1≤7)) || !aT k.2 || !(decide (k.21≥0)&&decide (k.21≤1099511627776)))==false) 66 [.agg [Zi (aI.gr (aS.bT k)).1,Zi (aI.gr (aS.bT k)).2,Zi (aI.gr (aS.bT k)).3],Zi k.3] (.bool (er (aS.bT k) (aS.sec k))) (.sc ((!(decide (k.1≥0)&&decide (k.1≤7)) || !aT k.2 || !(decide (k.21≥0)&&decide (k.21≤1099511627776)) || !er k.2 k.3)==false) 63 [Zi k.22,Zi 0,Zi 1099511627776] (.bool (decide (k.22≥0)&&decide (k.22≤1099511627776))) (.br (!(decide (k.1≥0)&&decide (k.1≤7)) || !aT k.2 || !(decide (k.21≥0)&&decide (k.21≤1099511627776)) || !er k.2 k.3 || !(decide (k.22≥0)&&decide (k.22≤1099511627776))) (.out (.bool false) [] (.bool (dK k)) []) (.sc true 67 (y1) (.bool (eL k)) (.sc ((!eL k)==false) 68 (y1) (.bool (fX k)) (.sc ((!eL k || !fX k)==false) 69 [.agg [.aH 1 k.10 fun i x=>Zi (k.11 i),.aH 4 k.12 fun i j=>Zi (k.13 i j)]] (.bool (fH (aS.nb k) (aS.B k) (aS.ne k) (aS.E k))) (.sc ((!eL k || !fX k || !fH k.10 k.11 k.12 k.13||(k.10:Int) != wrap .i64 ((5:Int)+(k.8:Int)))==false) 70 [.agg [.aH 83 k.14 fun i j=>aQ (db.cells (aS.U k i)) j]] (.bool (ir (aS.nu k) (aS.U k))) (.sc ((!eL k || !fX k || !fH k.10 k.11 k.12 k.13||(k.10:Int) != wrap .i64 ((5:Int)+(k.8:Int)) || !ir k.14 k.15)==false) 71 (y1) (.bool (hZ k)) (.br (!eL k || !fX k || !fH k.10 k.11 k.12 k.13||(k.10:Int) != wrap .i64 ((5:Int)+(k.8:Int)) || !ir k.14 k.15 || !hZ k||decide ((k.18:Int)>200)) (.out (.bool false) [] (.bool (dK k)) []) (.loop ({ x:Nat // x≤aS.ng k∧(fun (i:Nat)=>∀ (j:Nat),j<i→ox k j=true) x }) (fun x=>aY [1,3] [.own 0 50 0 0 50,Zi x.1] y0) (fun x=>aS.ng k - x.1) (⟨0,⟨Nat.zero_le (aS.ng k),fun (j:Nat) (hj:j<0)=>absurd hj (Nat.not_lt_zero j)⟩⟩) [1,3] [0] [.own 0 50 0 0 50,Zi 0] (y0) (fun x14=>(.br (decide ((x14.1:Int)<(k.18:Int))) (.bj (0≤(x14.1:Int)∧(x14.1:Int)<(k.18:Int)) (.sc true 24 [.agg (aI.cells (aS.bT k)),.aH 11 k.4 fun i j=>Zi (k.5 i j),.agg (cH.cells (aS.G k (toNat (↑(x14.1):Int))))] (.aX [Zi (lC (aS.bT k) (aS.R k) (aS.nr k) (cH.s (aS.G k (toNat (↑(x14.1):Int)))) (cH.t (aS.G k (toNat (↑(x14.1):Int)))) (cH.leaf (aS.G k (toNat (↑(x14.1):Int))))),.bool (p7 (aS.bT k) (aS.R k) (aS.nr k) (cH.s (aS.G k (toNat (↑(x14.1):Int)))) (cH.t (aS.G k (toNat (↑(x14.1):Int)))) (cH.leaf (aS.G k (toNat (↑(x14.1):Int)))))]) (.br (!p7 k.2 k.5 k.4 (aS.G k (toNat (↑(x14.1):Int))).1 (aS.G k (toNat (↑(x14.1):Int))).2 (aS.G k (toNat (↑(x14.1):Int))).3) (.out (.bool false) [] (.bool (dK k)) []) (.again (bh 0 (fun x=>aY [1,3] [.own 0 50 0 0 50,Zi x.1] y0) (fun x=>aS.ng k - x.1) x14) [1,3] [0] [.own 0 50 0 0 50,Zi (wrap .i64 ((x14.1:Int)+1))] (y0))))) (.out (.bool true) [] (.bool (dK k)) [])))))))))))))))))
  (by kernel_rfl) ?_
 refine aM (vN (k.1) ((0:Int)) ((7:Int))) ?_
 refine aW (fun h1=>c0) ?_
 refine aW (fun h2=>c1) ?_
 refine aW (fun h3=>c2) ?_
 refine aW (fun h4=>vN (k.22) ((0:Int)) ((1099511627776:Int))) ?_
 refine aL (fun h5=>?_) (fun h5=>?_)
 ·have g5:=(aA (aA (aA (aA (aC (ao aa aa)) (aC aF)) (aC (ao aa aa))) (aC aF)) (aC (ao aa aa))) h5
  exact aq (ay.of_eq (congrArg AV.bool (DR g5).symm))
 ·have g5:=(aw (aw (aw (aw (az (ah af af)) (az aB)) (az (ah af af))) (az aB)) (az (ah af af))) h5
  refine aM (c3 (bH.1 g5.1.1.1.2)) ?_
  refine aW (fun h8=>c4) ?_
  refine aW (fun h9=>c5) ?_
  refine aW (fun h10=>c6) ?_
  refine aW (fun h11=>c7 (bH.1 g5.1.1.1.2) (rK (by cases e:eL k with|true=>rfl|false=>rw [e] at h11;simp at h11))) ?_
  refine aL (fun h12=>?_) (fun h12=>?_)
  ·have g12:=(aA (aA (aA (aA (aA (aA (aC aF) (aC aF)) (aC aF)) aU) (aC aF)) (aC aF)) af) h12
   exact aq (ay.of_eq (congrArg AV.bool (xW g12).symm))
  ·have g12:=(aw (aw (aw (aw (aw (aw (az aB) (az aB)) (az aB)) aR) (az aB)) (az aB)) aa) h12
   refine aV (fun _ hs=>hs.le (⟨.refl _,.refl _,trivial⟩) (⟨.refl _,trivial⟩)) (fun x14=>?_)
   try (have q14:=x14.2;dsimp only at q14)
   refine aL (fun h15=>?_) (fun h15=>?_)
   ·have g15:=af h15
    refine aD (by omega) ?_
    refine aM (c8 (toNat (↑(x14.1):Int)) (by omega) (by have:=(rK g12.1.1.1.1.1.1).hi;omega)) ?_
    refine aL (fun h18=>?_) (fun h18=>?_)
    ·have g18:=(aC aF) h18
     try simp only [Int.toNat_natCast] at g18
     exact aq (ay.of_eq (congrArg AV.bool (eU fun e=>by have:=(eW.1 e).2.2.2.2.2.2.2.2 x14.1 (by omega);unfold ox at this;rw [g18] at this;cases this).symm))
    ·have g18:=(az aB) h18
     try simp only [Int.toNat_natCast] at g18
     exact aN (⟨x14.1+1,by omega,cN x14.2.2 g18⟩) (fun _ hs=>hs.le (⟨.refl _,aK (by omega),trivial⟩) (⟨.refl _,trivial⟩)) (by dsimp only;omega)
   ·have g15:=aa h15
    exact aq (ay.of_eq (congrArg AV.bool (EL (Oc g5) g12 fun i hi=>x14.2.2 i (by omega)).symm))
theorem Mb:Pure Tryz.prog aZ 52 [.bn] .bn:=by
 refine ar (own:=bq) Tryz.func52 (by kernel_rfl) mixed (by kernel_rfl)
  (.tt (.out (.bn) [] (.bn) []))
  (by kernel_rfl) ?_
 refine gp ?_
 exact aq (ay.of_eq rfl)
theorem Nv (n:Nat) (f:Nat→Int) (hn:n≤100000):Pure Tryz.prog aZ 52 [.nn (jt n f)] (jt n f):=by
 refine ar (own:=bq) Tryz.func52 (by kernel_rfl) mixed (by kernel_rfl)
  (.ff (.bj ((0+n)*8≤140737488355328) (.out (.aH 1 (0+n) fun r k=>Zi (f (r+0))) [] (jt n f) [])))
  (by kernel_rfl) ?_
 refine cz ?_
 refine aD (by omega) ?_
 exact aq (ay.of_eq (by simp<;>rfl))
theorem yB (n:Nat) (f:Nat→Int) (hn:n≤100000):Pure Tryz.prog aZ 52 [jt n f] (jt n f) :=
 bI.eS [] [] 1 n _ (fun h=>by subst h;exact Mb.tM ay.bn) (Nv n _ hn)
theorem LU:Pure Tryz.prog aZ 54 [.bn] .bn:=by
 refine ar (own:=bq) Tryz.func54 (by kernel_rfl) mixed (by kernel_rfl)
  (.tt (.out (.bn) [] (.bn) []))
  (by kernel_rfl) ?_
 refine gp ?_
 exact aq (ay.of_eq rfl)
theorem NG (n:Nat) (f:Nat→Nat→Int) (hn:n≤100000):Pure Tryz.prog aZ 54 [.nn (lV n f)] (lV n f):=by
 refine ar (own:=bq) Tryz.func54 (by kernel_rfl) mixed (by kernel_rfl)
  (.ff (.bj ((0+n)*32≤140737488355328) (.out (.aH 4 (0+n) fun r k=>Zi (f (r+0) k)) [] (lV n f) [])))
  (by kernel_rfl) ?_
 refine cz ?_
 refine aD (by omega) ?_
 exact aq (ay.of_eq (by simp<;>rfl))
theorem MY (n:Nat) (f:Nat→Nat→Int) (hn:n≤100000):Pure Tryz.prog aZ 54 [lV n f] (lV n f) :=
 bI.eS [] [] 4 n _ (fun h=>by subst h;exact LU.tM ay.bn) (NG n _ hn)
theorem Nx:Pure Tryz.prog aZ 53 [.bn] .bn:=by
 refine ar (own:=bq) Tryz.func53 (by kernel_rfl) mixed (by kernel_rfl)
  (.tt (.out (.bn) [] (.bn) []))
  (by kernel_rfl) ?_
 refine gp ?_
 exact aq (ay.of_eq rfl)
theorem LB (n:Nat) (f:Nat→Nat→Int) (hn:n≤100000):Pure Tryz.prog aZ 53 [.nn (sD n f)] (sD n f):=by
 refine ar (own:=bq) Tryz.func53 (by kernel_rfl) mixed (by kernel_rfl)
  (.ff (.bj ((0+n)*168≤140737488355328) (.out (.aH 21 (0+n) fun r k=>Zi (f (r+0) k)) [] (sD n f) [])))
  (by kernel_rfl) ?_
 refine cz ?_
 refine aD (by omega) ?_
 exact aq (ay.of_eq (by simp<;>rfl))
theorem NH (n:Nat) (f:Nat→Nat→Int) (hn:n≤100000):Pure Tryz.prog aZ 53 [sD n f] (sD n f) :=
 bI.eS [] [] 21 n _ (fun h=>by subst h;exact Nx.tM ay.bn) (LB n _ hn)
theorem Nd:Pure Tryz.prog aZ 51 [.bn] .bn:=by
 refine ar (own:=bq) Tryz.func51 (by kernel_rfl) mixed (by kernel_rfl)
  (.tt (.out (.bn) [] (.bn) []))
  (by kernel_rfl) ?_
 refine gp ?_
 exact aq (ay.of_eq rfl)
theorem Nm (n:Nat) (f:Nat→Nat→Int) (hn:n≤100000):Pure Tryz.prog aZ 51 [.nn (.aH 11 n fun i j=>.int .i64 (f i j))] (.aH 11 n fun i j=>.int .i64 (f i j)):=by
 refine ar (own:=bq) Tryz.func51 (by kernel_rfl) mixed (by kernel_rfl)
  (.ff (.bj ((0+n)*88≤140737488355328) (.out (.aH 11 (0+n) fun r k=>Zi (f (r+0) k)) [] (.aH 11 n fun i j=>Zi (f i j)) [])))
  (by kernel_rfl) ?_
 refine cz ?_
 refine aD (by omega) ?_
 exact aq (ay.of_eq (by simp<;>rfl))
theorem Nn (n:Nat) (f:Nat→Nat→Int) (hn:n≤100000):Pure Tryz.prog aZ 51 [.aH 11 n fun i j=>.int .i64 (f i j)] (.aH 11 n fun i j=>.int .i64 (f i j)) :=
 bI.eS [] [] 11 n _ (fun h=>by subst h;exact Nd.tM ay.bn) (Nm n _ hn)
theorem Mq:Pure Tryz.prog aZ 106 [.bn] .bn:=by
 refine ar (own:=bq) Tryz.func106 (by kernel_rfl) mixed (by kernel_rfl)
  (.tt (.out (.bn) [] (.bn) []))
  (by kernel_rfl) ?_
 refine gp ?_
 exact aq (ay.of_eq rfl)
theorem Od (n:Nat) (f:Nat→Nat→Int) (hn:n≤100000):Pure Tryz.prog aZ 106 [.nn (uQ n f)] (uQ n f):=by
 refine ar (own:=bq) Tryz.func106 (by kernel_rfl) mixed (by kernel_rfl)
  (.ff (.bj ((0+n)*24≤140737488355328) (.out (.aH 3 (0+n) fun r k=>Zi (f (r+0) k)) [] (uQ n f) [])))
  (by kernel_rfl) ?_
 refine cz ?_
 refine aD (by omega) ?_
 exact aq (ay.of_eq (by simp<;>rfl))
theorem Mi (n:Nat) (f:Nat→Nat→Int) (hn:n≤100000):Pure Tryz.prog aZ 106 [uQ n f] (uQ n f) :=
 bI.eS [] [] 3 n _ (fun h=>by subst h;exact Mq.tM ay.bn) (Od n _ hn)
theorem Mg:Pure Tryz.prog aZ 107 [.bn] .bn:=by
 refine ar (own:=bq) Tryz.func107 (by kernel_rfl) mixed (by kernel_rfl)
  (.tt (.out (.bn) [] (.bn) []))
  (by kernel_rfl) ?_
 refine gp ?_
 exact aq (ay.of_eq rfl)
theorem NY (n:Nat) (f:Nat→Nat→Int) (hn:n≤100000):Pure Tryz.prog aZ 107 [.nn (zD n f)] (zD n f):=by
 refine ar (own:=bq) Tryz.func107 (by kernel_rfl) mixed (by kernel_rfl)
  (.ff (.bj ((0+n)*32≤140737488355328) (.out (.aH 32 (0+n) fun r k=>Zb (f (r+0) k)) [] (zD n f) [])))
  (by kernel_rfl) ?_
 refine cz ?_
 refine aD (by omega) ?_
 exact aq (ay.of_eq (by simp<;>rfl))
theorem L6 (n:Nat) (f:Nat→Nat→Int) (hn:n≤100000):Pure Tryz.prog aZ 107 [zD n f] (zD n f) :=
 bI.eS [] [] 32 n _ (fun h=>by subst h;exact Mg.tM ay.bn) (NY n _ hn)
theorem MC:bI Tryz.prog aZ 104 [] [.bn] .bn []:=by
 refine cg (own:=bq) (hand:=true) Tryz.func104 (by kernel_rfl) mixed (by kernel_rfl)
  (.tt (.out (.bn) [] (.bn) []))
  (by kernel_rfl) ?_
 refine gp ?_
 exact aq (ay.refl _)
theorem MK (n:Nat) (f:Nat→cU) (hn:n≤100000):bI Tryz.prog aZ 104 [] [.nn (wk n f)] (.ba 0 7 0 n) [some ⟨7,n,true,.row fun i=>(f i).cells⟩]:=by
 refine cg (own:=bq) (hand:=true) Tryz.func104 (by kernel_rfl) mixed (by kernel_rfl)
  (.ff (.bj ((0+n)*88≤140737488355328) (.out (.ba 0 7 0 (0+n)) [some ⟨7,0+n,true,bA.row fun i=>cU.cells (f i)⟩] (.ba 0 7 0 n) [some ⟨7,n,true,bA.row fun i=>cU.cells (f i)⟩])))
  (by kernel_rfl) ?_
 refine cz ?_
 refine aD (by omega) ?_
 exact da (ay.of_eq (by simp)) (⟨⟨rfl,by simp,rfl,fun i j _ _=>ay.of_eq (by simp<;>rfl)⟩,trivial⟩)
theorem NX (n:Nat) (f:Nat→cU) (hn:n≤100000):bI Tryz.prog aZ 104 [] [wk n f] (.ba 0 7 0 n) [some ⟨7,n,true,.row fun i=>(f i).cells⟩] :=
 bI.eS [] [] 7 n _ (fun h=>by subst h;exact MC.nil 7 _) (MK n _ hn)
theorem Mf:bI Tryz.prog aZ 105 [] [.bn] .bn []:=by
 refine cg (own:=bq) (hand:=true) Tryz.func105 (by kernel_rfl) mixed (by kernel_rfl)
  (.tt (.out (.bn) [] (.bn) []))
  (by kernel_rfl) ?_
 refine gp ?_
 exact aq (ay.refl _)
theorem MA (n:Nat) (f:Nat→db) (hn:n≤100000):bI Tryz.prog aZ 105 [] [.nn (mT n f)] (.ba 0 83 0 n) [some ⟨83,n,true,.row fun i=>(f i).cells⟩]:=by
 refine cg (own:=bq) (hand:=true) Tryz.func105 (by kernel_rfl) mixed (by kernel_rfl)
  (.ff (.bj ((0+n)*248≤140737488355328) (.out (.ba 0 83 0 (0+n)) [some ⟨83,0+n,true,bA.row fun i=>db.cells (f i)⟩] (.ba 0 83 0 n) [some ⟨83,n,true,bA.row fun i=>db.cells (f i)⟩])))
  (by kernel_rfl) ?_
 refine cz ?_
 refine aD (by omega) ?_
 exact da (ay.of_eq (by simp)) (⟨⟨rfl,by simp,rfl,fun i j _ _=>ay.of_eq (by simp<;>rfl)⟩,trivial⟩)
theorem NV (n:Nat) (f:Nat→db) (hn:n≤100000):bI Tryz.prog aZ 105 [] [mT n f] (.ba 0 83 0 n) [some ⟨83,n,true,.row fun i=>(f i).cells⟩] :=
 bI.eS [] [] 83 n _ (fun h=>by subst h;exact Mf.nil 83 _) (MA n _ hn)
theorem LI:bI Tryz.prog aZ 108 [] [.bn] .bn []:=by
 refine cg (own:=bq) (hand:=true) Tryz.func108 (by kernel_rfl) mixed (by kernel_rfl)
  (.tt (.out (.bn) [] (.bn) []))
  (by kernel_rfl) ?_
 refine gp ?_
 exact aq (ay.refl _)
theorem MZ (n:Nat) (f:Nat→cH) (hn:n≤100000):bI Tryz.prog aZ 108 [] [.nn (nm n f)] (.ba 0 161 0 n) [some ⟨161,n,true,.row fun i=>(f i).cells⟩]:=by
 refine cg (own:=bq) (hand:=true) Tryz.func108 (by kernel_rfl) mixed (by kernel_rfl)
  (.ff (.bj ((0+n)*456≤140737488355328) (.out (.ba 0 161 0 (0+n)) [some ⟨161,0+n,true,bA.row fun i=>cH.cells (f i)⟩] (.ba 0 161 0 n) [some ⟨161,n,true,bA.row fun i=>cH.cells (f i)⟩])))
  (by kernel_rfl) ?_
 refine cz ?_
 refine aD (by omega) ?_
 exact da (ay.of_eq (by simp)) (⟨⟨rfl,by simp,rfl,fun i j _ _=>ay.of_eq (by simp<;>rfl)⟩,trivial⟩)
theorem Nw (n:Nat) (f:Nat→cH) (hn:n≤100000):bI Tryz.prog aZ 108 [] [nm n f] (.ba 0 161 0 n) [some ⟨161,n,true,.row fun i=>(f i).cells⟩] :=
 bI.eS [] [] 161 n _ (fun h=>by subst h;exact LI.nil 161 _) (MZ n _ hn)
theorem A2 (s:au) (hl:s.nl≤1000) (hp:s.np≤1000):Pure Tryz.prog aZ 60 [s.av] s.av:=by
 have c1:=Mi s.nl s.lf (by omega)
 have c2:=L6 s.np s.pf (by omega)
 refine ar (own:=bq) Tryz.func60 (by kernel_rfl) mixed (by kernel_rfl)
  (.dc true 106 [.aH 3 s.16 fun i j=>Zi (s.17 i j)] (uQ (au.nl s) (au.lf s)) (.dc true 107 [.aH 32 s.19 fun i j=>Zb (s.20 i j)] (zD (au.np s) (au.pf s)) (.out (.agg (au.cells s)) [] (au.av s) [])))
  (by kernel_rfl) ?_
 refine b9 (c1) ?_
 refine b9 (c2) ?_
 exact aq (ay.refl _)
theorem MO (g:cH) (h1:g.s.nl≤1000) (h2:g.s.np≤1000) (h3:g.t.nl≤1000) (h4:g.t.np≤1000):Pure Tryz.prog aZ 62 [.agg g.cells] (.agg g.cells):=by
 have c1:=A2 g.s h1 h2
 have c2:=A2 g.t h3 h4
 refine ar (own:=bq) Tryz.func62 (by kernel_rfl) mixed (by kernel_rfl)
  (.dc true 60 [.agg (au.cells (cH.s g))] (au.av (cH.s g)) (.dc true 60 [.agg (au.cells (cH.t g))] (au.av (cH.t g)) (.out (.agg (cH.cells g)) [] (.agg (cH.cells g)) [])))
  (by kernel_rfl) ?_
 refine b9 (c1) ?_
 refine b9 (c2) ?_
 exact aq (ay.refl _)
theorem Ni (y:Int) (p:Pf) (h1:p.na≤1000) (h2:p.nz≤1000):Pure Tryz.prog aZ 57 [.agg (.int .i64 y::p.cells)] (.agg (.int .i64 y::p.cells)):=by
 have c1:=yB p.na p.a (by omega)
 have c2:=yB p.nz p.z (by omega)
 refine ar (own:=bq) Tryz.func57 (by kernel_rfl) mixed (by kernel_rfl)
  (.dc true 52 [.aH 1 p.1 fun i x=>Zi (p.2 i)] (jt (Pf.na p) (Pf.a p)) (.dc true 52 [.aH 1 p.4 fun i x=>Zi (p.5 i)] (jt (Pf.nz p) (Pf.z p)) (.out (.agg [Zi y,.aH 1 p.1 fun i x=>Zi (p.2 i),Zi p.3,.aH 1 p.4 fun i x=>Zi (p.5 i)]) [] (.agg (Zi y::Pf.cells p)) [])))
  (by kernel_rfl) ?_
 refine b9 (c1) ?_
 refine b9 (c2) ?_
 exact aq (ay.refl _)
theorem LF (c:cU) (h1:c.pf.na≤1000) (h2:c.pf.nz≤1000):Pure Tryz.prog aZ 56 [.agg c.cells] (.agg c.cells):=by
 have c1:=Ni c.key c.pf h1 h2
 refine ar (own:=bq) Tryz.func56 (by kernel_rfl) mixed (by kernel_rfl)
  (.dc true 57 [.agg [Zi c.1,.aH 1 (cU.pf c).1 fun i x=>Zi ((cU.pf c).2 i),Zi (cU.pf c).3,.aH 1 (cU.pf c).4 fun i x=>Zi ((cU.pf c).5 i)]] (.agg (Zi (cU.key c)::Pf.cells (cU.pf c))) (.out (.agg (cU.cells c)) [] (.agg (cU.cells c)) []))
  (by kernel_rfl) ?_
 refine b9 (c1) ?_
 exact aq (ay.refl _)
theorem NQ (u:db) (h1:u.sp.nl≤1000) (h2:u.sp.np≤1000):Pure Tryz.prog aZ 59 [.agg u.cells] (.agg u.cells):=by
 have c1:=A2 u.sp h1 h2
 refine ar (own:=bq) Tryz.func59 (by kernel_rfl) mixed (by kernel_rfl)
  (.dc true 60 [.agg (au.cells (db.sp u))] (au.av (db.sp u)) (.out (.agg (db.cells u)) [] (.agg (db.cells u)) []))
  (by kernel_rfl) ?_
 refine b9 (c1) ?_
 exact aq (ay.refl _)
def owC:FuncId→Option (List Bool):=fun f=>bif Nat.beq f 104||Nat.beq f 105||Nat.beq f 108||Nat.beq f 55 then some [false] else none
theorem Jh (n:Nat) (C:Nat→cU) (hn:n≤1000) (h:∀ i,i<n→(C i).pf.na≤1000∧(C i).pf.nz≤1000):bI Tryz.prog aZ 55 [] [wk n C,.fn (.func 56) [] []] (.ba 0 7 0 n) [some ⟨7,n,true,.row fun i=>(C i).cells⟩]:=by
 have c1:=NX n C (by omega)
 have c2:=fun i (hi:i<n)=>LF (C i) (h i hi).1 (h i hi).2
 refine cg (own:=owC) (hand:=true) Tryz.func55 (by kernel_rfl) mixed (by kernel_rfl)
  (let y0:List (Option Ob):=[some ⟨7,n,true,bA.row fun i=>cU.cells (C i)⟩];let y1:=(fun (x:{ x:Nat // x≤n })=>aY [1,5,10,11] [AV.fn (Fn.func (56:FuncId)) [] [],.ba 0 7 0 n,Zi n,Zi x.1] y0);let y2:=(fun (x:{ x:Nat // x≤n })=>n - x.1);(.gc 104 [] [.aH 7 n fun i j=>aQ (cU.cells (C i)) j] (.ba 0 7 0 n) (y0) (.loop ({ x:Nat // x≤n }) y1 y2 (⟨0,Nat.zero_le n⟩) [1,5,10,11] [16] [AV.fn (Fn.func (56:FuncId)) [] [],.ba 0 7 0 n,Zi n,Zi 0] (y0) (fun x1=>(.br (decide ((x1.1:Int)<(n:Int))) (.bj (0≤(x1.1:Int)∧(x1.1:Int)<(n:Int)) (.dc true 56 [.agg (cU.cells (C (toNat (↑(x1.1):Int)+0)))] (.agg (cU.cells (C (toNat (↑(x1.1):Int)+0)))) (.bj (0≤(x1.1:Int)∧(x1.1:Int)<(n:Int)) (.again (bh 0 y1 y2 x1) [1,5,10,11] [0] [AV.fn (Fn.func (56:FuncId)) [] [],.ba 0 7 0 n,Zi n,Zi (wrap .i64 ((x1.1:Int)+1))] [some ⟨7,n,true,bA.put (toNat (x1.1:Int)+0) (cU.cells (C (toNat (↑(x1.1):Int)+0))) (bA.row fun i=>cU.cells (C i))⟩])))) (.out (.ba 0 7 0 n) (y0) (.ba 0 7 0 n) (y0)))))))
  (by kernel_rfl) ?_
 refine gZ (c1) ?_
 refine aV (fun _ hs=>hs.le (⟨.refl _,.refl _,.refl _,.refl _,trivial⟩) (⟨.refl _,trivial⟩)) (fun x1=>?_)
 try (have q1:=x1.2;dsimp only at q1)
 refine aL (fun h2=>?_) (fun h2=>?_)
 ·have g2:=af h2
  refine aD (by omega) ?_
  refine b9 (c2 (toNat (↑(x1.1):Int)+0) (by omega)) ?_
  refine aD (by omega) ?_
  exact aN (⟨x1.1+1,by omega⟩) (fun _ hs=>hs.le (⟨.refl _,.refl _,.refl _,aK (by omega),trivial⟩) (⟨aJ.put (fun j _ _=>ay.refl _) (fun i j _ _ _=>ay.refl _),trivial⟩)) (by dsimp only;omega)
 ·have g2:=aa h2
  exact da (ay.of_eq rfl) (⟨.refl _,trivial⟩)
theorem Kh (n:Nat) (U:Nat→db) (hn:n≤100000) (h:∀ i,i<n→(U i).sp.nl≤1000∧(U i).sp.np≤1000):Pure Tryz.prog aZ 58 [mT n U,.fn (.func 59) [] []] (mT n U):=by
 have c1:=NV n U (by omega)
 have c2:=fun i (hi:i<n)=>NQ (U i) (h i hi).1 (h i hi).2
 refine ar (own:=owC) Tryz.func58 (by kernel_rfl) mixed (by kernel_rfl)
  (let y1:List (Option Ob):=[some ⟨83,n,true,bA.row fun (i:Nat)=>db.cells (U i)⟩];let y0:=(fun (x:{ x:Nat // x≤n })=>aY [1,5,10,11] [AV.fn (Fn.func (59:FuncId)) [] [],AV.ba 0 83 0 n,Zi (↑n:Int),Zi (↑(x.1):Int)] y1);let y2:=(fun (x:{ x:Nat // x≤n })=>n - x.1);(.gc 105 ([]) ([AV.aH 83 n fun (i j:Nat)=>aQ (db.cells (U i)) j]) (AV.ba 0 83 0 n) (y1) (.loop ({ x:Nat // x≤n }) y0 y2 (⟨0,Nat.zero_le n⟩) ([1,5,10,11]) ([16]) ([AV.fn (Fn.func (59:FuncId)) [] [],AV.ba 0 83 0 n,Zi (↑n:Int),Zi 0]) (y1) (fun x1=>(.br (decide ((↑x1.1:Int)<(↑n:Int))) (.bj ((0:Int)≤(↑x1.1:Int)∧(↑x1.1:Int)<(↑n:Int)) (.dc (true) 59 ([AV.agg (db.cells (U (toNat (↑(x1.1):Int)+0)))]) (AV.agg (db.cells (U (toNat (↑(x1.1):Int)+0)))) (.bj ((0:Int)≤(↑x1.1:Int)∧(↑x1.1:Int)<(↑n:Int)) (.again (bh 0 y0 y2 x1) ([1,5,10,11]) ([0]) ([AV.fn (Fn.func (59:FuncId)) [] [],AV.ba 0 83 0 n,Zi (↑n:Int),Zi (wrap .i64 ((↑x1.1:Int)+1))]) ([some ⟨83,n,true,bA.put (toNat (↑x1.1:Int)+0) (db.cells (U (toNat (↑(x1.1):Int)+0))) (bA.row fun (i:Nat)=>db.cells (U i))⟩]))))) (.out (AV.aH 83 n fun (r k:Nat)=>aQ (db.cells (U (r+0))) k) [] (mT n U) []))))))
  (by kernel_rfl) ?_
 refine gZ (c1) ?_
 refine aV (fun _ hs=>hs.le (⟨.refl _,.refl _,.refl _,.refl _,trivial⟩) (⟨.refl _,trivial⟩)) (fun x1=>?_)
 try (have q1:=x1.2;dsimp only at q1)
 refine aL (fun h2=>?_) (fun h2=>?_)
 ·have g2:=af h2
  refine aD (by omega) ?_
  refine b9 (c2 (toNat (↑(x1.1):Int)+0) (by omega)) ?_
  refine aD (by omega) ?_
  exact aN (⟨x1.1+1,by omega⟩) (fun _ hs=>hs.le (⟨.refl _,.refl _,.refl _,aK (by omega),trivial⟩) (⟨aJ.put (fun j _ _=>ay.refl _) (fun i j _ _ _=>ay.refl _),trivial⟩)) (by dsimp only;omega)
 ·have g2:=aa h2
  exact aq (ay.of_eq rfl)
theorem J8 (n:Nat) (G:Nat→cH) (hn:n≤100000) (h:∀ i,i<n→((G i).s.nl≤1000∧(G i).s.np≤1000)∧((G i).t.nl≤1000∧(G i).t.np≤1000)):Pure Tryz.prog aZ 61 [nm n G,.fn (.func 62) [] []] (nm n G):=by
 have c1:=Nw n G (by omega)
 have c2:=fun i (hi:i<n)=>MO (G i) (h i hi).1.1 (h i hi).1.2 (h i hi).2.1 (h i hi).2.2
 refine ar (own:=owC) Tryz.func61 (by kernel_rfl) mixed (by kernel_rfl)
  (let y1:List (Option Ob):=[some ⟨161,n,true,bA.row fun (i:Nat)=>cH.cells (G i)⟩];let y0:=(fun (x:{ x:Nat // x≤n })=>aY [1,5,10,11] [AV.fn (Fn.func (62:FuncId)) [] [],AV.ba 0 161 0 n,Zi (↑n:Int),Zi (↑(x.1):Int)] y1);let y2:=(fun (x:{ x:Nat // x≤n })=>n - x.1);(.gc 108 ([]) ([AV.aH 161 n fun (i j:Nat)=>aQ (cH.cells (G i)) j]) (AV.ba 0 161 0 n) (y1) (.loop ({ x:Nat // x≤n }) y0 y2 (⟨0,Nat.zero_le n⟩) ([1,5,10,11]) ([16]) ([AV.fn (Fn.func (62:FuncId)) [] [],AV.ba 0 161 0 n,Zi (↑n:Int),Zi 0]) (y1) (fun x1=>(.br (decide ((↑x1.1:Int)<(↑n:Int))) (.bj ((0:Int)≤(↑x1.1:Int)∧(↑x1.1:Int)<(↑n:Int)) (.dc (true) 62 ([AV.agg (cH.cells (G (toNat (↑(x1.1):Int)+0)))]) (AV.agg (cH.cells (G (toNat (↑(x1.1):Int)+0)))) (.bj ((0:Int)≤(↑x1.1:Int)∧(↑x1.1:Int)<(↑n:Int)) (.again (bh 0 y0 y2 x1) ([1,5,10,11]) ([0]) ([AV.fn (Fn.func (62:FuncId)) [] [],AV.ba 0 161 0 n,Zi (↑n:Int),Zi (wrap .i64 ((↑x1.1:Int)+1))]) ([some ⟨161,n,true,bA.put (toNat (↑x1.1:Int)+0) (cH.cells (G (toNat (↑(x1.1):Int)+0))) (bA.row fun (i:Nat)=>cH.cells (G i))⟩]))))) (.out (AV.aH 161 n fun (r k:Nat)=>aQ (cH.cells (G (r+0))) k) [] (nm n G) []))))))
  (by kernel_rfl) ?_
 refine gZ (c1) ?_
 refine aV (fun _ hs=>hs.le (⟨.refl _,.refl _,.refl _,.refl _,trivial⟩) (⟨.refl _,trivial⟩)) (fun x1=>?_)
 try (have q1:=x1.2;dsimp only at q1)
 refine aL (fun h2=>?_) (fun h2=>?_)
 ·have g2:=af h2
  refine aD (by omega) ?_
  refine b9 (c2 (toNat (↑(x1.1):Int)+0) (by omega)) ?_
  refine aD (by omega) ?_
  exact aN (⟨x1.1+1,by omega⟩) (fun _ hs=>hs.le (⟨.refl _,.refl _,.refl _,aK (by omega),trivial⟩) (⟨aJ.put (fun j _ _=>ay.refl _) (fun i j _ _ _=>ay.refl _),trivial⟩)) (by dsimp only;omega)
 ·have g2:=aa h2
  exact aq (ay.of_eq rfl)
end Go.Proofs.YtpefjkpdniiaoaaGreatDoor

namespace Go.Sp
open Go.IntKind (wrap)
open Int (toNat)
open Go Go.Am
variable {k : aS}
structure vP (k : aS) : Prop where
  nr : k.nr ≤ 1000
  ns : k.ns ≤ 1000
  nc : k.nc ≤ 1000
  nb : k.nb ≤ 1000
  ne : k.ne ≤ 1000
  nu : k.nu ≤ 100000
  ni : k.ni ≤ 1000
  ng : k.ng ≤ 1000
  C : ∀ i, i < k.nc → (k.C i).pf.na ≤ 1000 ∧ (k.C i).pf.nz ≤ 1000
  U : ∀ i, i < k.nu → (k.U i).sp.nl ≤ 1000 ∧ (k.U i).sp.np ≤ 1000
  G : ∀ i, i < k.ng → ((k.G i).s.nl ≤ 1000 ∧ (k.G i).s.np ≤ 1000) ∧ ((k.G i).t.nl ≤ 1000 ∧ (k.G i).t.np ≤ 1000)
theorem LY {b:aI} {y:Int} {p:Pf} (h:kv b y p=true):p.na=1∧p.nz=1:=by
 unfold kv m5 at h
 simp only [Bool.and_eq_true] at h
 have:=rp h.2.1
 exact ⟨this.na,this.nz⟩
theorem rO (hk:jz k) (h:dK k=true):vP k:=by
 obtain ⟨_,h2,h3,h4,h5,h6,h7,h8,_⟩:=eW.1 h
 have r:=rK h2
 have c:=rq h3
 have l:=Bk h4
 have s1:k.nu≤2000:=by
  simp only [ir,Bool.and_eq_true,decide_eq_true_eq] at h6;exact h6.1
 have i1:k.ni≤200:=by
  simp only [hZ,Bool.and_eq_true,decide_eq_true_eq] at h7;exact h7.1
 refine ⟨by have:=r.hi;omega,by have:=r.hi;have:=r.ns;omega,by omega,by have:=l.hi;omega,l.len,by omega,by omega,by omega,fun i hi=>?_,fun i hi=>?_,fun i hi=>?_⟩
 ·have:=LY (mQ.1 (c.2 i hi)).1;omega
 ·simp only [ir,Bool.and_eq_true,decide_eq_true_eq,List.all_eq_true,List.mem_range] at h6
  have:=LA (qs.1 (h6.2 i hi).1).1
  omega
 ·have g:=hk.G i hi
  exact ⟨⟨g.sl,g.sp⟩,g.tl,g.tp⟩
def aS.cw (k:aS) (c:AV):List AV:=Ln k.num k.bT k.sec (.aH 11 k.nr fun i j=>.int .i64 (k.R i j)) (jt k.ns k.X) c (jt k.nb k.B) (lV k.ne k.E) (mT k.nu k.U) (sD k.ni k.I) (nm k.ng k.G) k.sC k.bK k.now
def cU.bk (c:cU) (x:Bool):cU:={ c with EK:=x||c.EK }
def aS.bk (k:aS) (i:Nat):aS:={ k with C:=fun j=>(k.C j).bk (Nat.beq j i) }
end Go.Sp

namespace Go.Proofs.YtpefjkpdniiaoaaGreatDoor
open Go.IntKind (wrap)
open Int (toNat)
open Go Go.Am Go.Sp
set_option maxRecDepth 100000
theorem u5 (k:aS) (h:vP k):bI Tryz.prog aZ 22 [] [.agg k.cells] (.agg (k.cw (.ba 0 7 0 k.nc))) [some ⟨7,k.nc,true,.row fun i=>(k.C i).cells⟩]:=by
 have s1:=h.nr;have s2:=h.ns;have s3:=h.nc;have s4:=h.nb;have s5:=h.ne;have s6:=h.nu;have s7:=h.ni;have s8:=h.ng
 have c1:=Nn k.nr k.R (by omega)
 have c2:=yB k.ns k.X (by omega)
 have c3:=NH k.ni k.I (by omega)
 have c4:=yB k.nb k.B (by omega)
 have c5:=MY k.ne k.E (by omega)
 have c6:=Jh k.nc k.C (by omega) h.C
 have c7:=Kh k.nu k.U (by omega) h.U
 have c8:=J8 k.ng k.G (by omega) h.G
 refine cg (own:=owC) (hand:=true) Tryz.func22 (by kernel_rfl) mixed (by kernel_rfl)
  (let y0:List (Option Ob):=[some ⟨7,aS.nc k,true,bA.row fun i=>cU.cells (aS.C k i)⟩];(.dc true 51 [.aH 11 k.4 fun i j=>Zi (k.5 i j)] (.aH 11 (aS.nr k) fun i j=>Zi (aS.R k i j)) (.dc true 52 [.aH 1 k.6 fun i x=>Zi (k.7 i)] (jt (aS.ns k) (aS.X k)) (.dc true 53 [.aH 21 k.16 fun i j=>Zi (k.17 i j)] (sD (aS.ni k) (aS.I k)) (.dc true 52 [.aH 1 k.10 fun i x=>Zi (k.11 i)] (jt (aS.nb k) (aS.B k)) (.dc true 54 [.aH 4 k.12 fun i j=>Zi (k.13 i j)] (lV (aS.ne k) (aS.E k)) (.gc 55 [] [.aH 7 k.8 fun i j=>aQ (cU.cells (aS.C k i)) j,AV.fn (Fn.func 56) [] []] (.ba 0 7 0 (aS.nc k)) (y0) (.dc true 58 [.aH 83 k.14 fun i j=>aQ (db.cells (aS.U k i)) j,AV.fn (Fn.func 59) [] []] (mT (aS.nu k) (aS.U k)) (.dc true 61 [.aH 161 k.18 fun i j=>aQ (cH.cells (aS.G k i)) j,AV.fn (Fn.func 62) [] []] (nm (aS.ng k) (aS.G k)) (.out (.agg (Zi k.1::(aI.cells (aS.bT k)++Zi k.3::(.aH 11 k.4 fun i j=>Zi (k.5 i j))::(.aH 1 k.6 fun i x=>Zi (k.7 i))::.ba 0 7 0 k.8::(.aH 1 k.10 fun i x=>Zi (k.11 i))::(.aH 4 k.12 fun i j=>Zi (k.13 i j))::(.aH 83 k.14 fun i j=>aQ (db.cells (aS.U k i)) j)::(.aH 21 k.16 fun i j=>Zi (k.17 i j))::(.aH 161 k.18 fun i j=>aQ (cH.cells (aS.G k i)) j)::(bf k.20++[Zi k.21,Zi k.22])))) [some ⟨7,k.8,true,bA.row fun i=>cU.cells (aS.C k i)⟩] (.agg (aS.cw k (.ba 0 7 0 (aS.nc k)))) (y0)))))))))))
  (by kernel_rfl) ?_
 refine b9 (c1) ?_
 refine b9 (c2) ?_
 refine b9 (c3) ?_
 refine b9 (c4) ?_
 refine b9 (c5) ?_
 refine gZ (c6) ?_
 refine b9 (c7) ?_
 refine b9 (c8) ?_
 exact da (ay.of_eq rfl) (⟨.refl _,trivial⟩)
end Go.Proofs.YtpefjkpdniiaoaaGreatDoor

namespace Go.Sp
open Go.IntKind (wrap)
open Int (toNat)
open Go Go.Am
def z0:Nat→Int:=fun _=>0
def zsp:au:=⟨0,0,0,0,0,z0,0,0,0,0,0,0,z0,0,0,0,fun _=>z0,0,0,fun _=>z0⟩
def CQ:aS:=⟨0,⟨⟨0,0,0⟩,0,0,0⟩,0,0,fun _=>z0,0,z0,0,fun _=>⟨0,⟨0,z0,0,0,z0⟩,0,false,0⟩,0,z0,0,fun _=>z0,0,fun _=>⟨0,0,zsp,0⟩,0,fun _=>z0,0,fun _=>⟨zsp,zsp,0⟩,z0,0,0⟩
noncomputable def gK (k:aS) (g:cH):Int:=lC k.bT k.R k.nr g.s g.t g.leaf
noncomputable def gB (k:aS) (g:cH):Bool:=p7 k.bT k.R k.nr g.s g.t g.leaf
noncomputable def lK (k:aS) (g:cH):Int:=if dK k=true then (if gB k g=true then (if gW k (gK k g)<0 then 7 else 0) else 11) else 1
noncomputable def BV (k:aS) (g:cH):Int:=if lK k g=0 then gW k (gK k g) else 0
noncomputable def u6 (k:aS) (g:cH):aS:=if lK k g=0 then k.bk (gW k (gK k g)).toNat else CQ
noncomputable def lg (k:aS) (g:cH):AV:=.aX [.agg (u6 k g).cells,.int .i64 (BV k g),.int .i64 (lK k g)]
variable {k : aS} {g : cH}
theorem Cq (h:dK k=false):lK k g=1:=if_neg (by rw [h];decide)
theorem HR (h:dK k=true) (h2:gB k g=false):lK k g=11:=by unfold lK;rw [if_pos h,if_neg (by rw [h2];decide)]
theorem Ic (h:dK k=true) (h2:gB k g=true) (h3:gW k (gK k g)<0):lK k g=7:=by unfold lK;rw [if_pos h,if_pos h2,if_pos h3]
theorem HM (h:dK k=true) (h2:gB k g=true) (h3:¬gW k (gK k g)<0):lK k g=0:=by unfold lK;rw [if_pos h,if_pos h2,if_neg h3]
theorem K5 {e:Int} (h:lK k g=e) (he:e≠0):lg k g=.aX [.agg CQ.cells,.int .i64 0,.int .i64 e]:=by
 unfold lg u6 BV;rw [h,if_neg he,if_neg he]
theorem EW (h:lK k g=0):lg k g=.aX [.agg (k.bk (gW k (gK k g)).toNat).cells,.int .i64 (gW k (gK k g)),.int .i64 0]:=by
 unfold lg u6 BV;rw [h,if_pos rfl,if_pos rfl]
def zbV (e:Int):AV:=.aX [.agg [.int .i64 0,.int .i64 0,.int .i64 0,.int .i64 0,.int .i64 0,.int .i64 0,.int .i64 0,.int .i64 0,.bn,.bn,.bn,.bn,.bn,.bn,.bn,.bn,.int .u8 0,.int .u8 0,.int .u8 0,.int .u8 0,.int .u8 0,.int .u8 0,.int .u8 0,.int .u8 0,.int .u8 0,.int .u8 0,.int .u8 0,.int .u8 0,.int .u8 0,.int .u8 0,.int .u8 0,.int .u8 0,.int .u8 0,.int .u8 0,.int .u8 0,.int .u8 0,.int .u8 0,.int .u8 0,.int .u8 0,.int .u8 0,.int .u8 0,.int .u8 0,.int .u8 0,.int .u8 0,.int .u8 0,.int .u8 0,.int .u8 0,.int .u8 0,.int .i64 0,.int .i64 0],.int .i64 0,.int .i64 e]
theorem nU {os:List (Option Ob)} {e:Int} (h:lK k g=e) (he:e≠0):ay os (zbV e) (lg k g):=by
 rw [K5 h he]
 refine ay.aX ⟨ay.agg ?_,ay.refl _,ay.refl _,trivial⟩
 repeat' (first|exact trivial|exact ay.refl _|exact ay.bn|refine And.intro ?_ ?_)
theorem Es {y:Int} (h:¬gW k y<0):0≤gW k y∧gW k y<k.nc:=by
 have:=iE (p:=fun i=>(k.C i).key==y) k.nc 0
 unfold gW at h ⊢
 omega
end Go.Sp

namespace Go.Proofs.YtpefjkpdniiaoaaGreatDoor
open Go.IntKind (wrap)
open Int (toNat)
open Go Go.Am Go.Sp
set_option maxRecDepth 100000
def owB:FuncId→Option (List Bool):=fun f=>bif Nat.beq f 22 then some [false] else none
theorem Gz (k:aS) (hk:jz k) (g:cH) (hg:vE g):Pure Tryz.prog aZ 6 [.agg k.cells,.agg g.cells] (lg k g):=by
 have c1:=p8 k hk
 have c2:=fun hn=>rn k.bT k.R k.nr g.s g.t g.leaf hn hk.w hg.sl hg.tl hg.sb hg.tb (by have:=hg.sp;omega) (by have:=hg.tp;omega) hg.sf hg.tf
 have c3:=fun y=>tq k y hk.nc
 have c4:=fun h=>u5 k (rO hk h)
 refine ar (own:=owB) Tryz.func6 (by kernel_rfl) mixed (by kernel_rfl)
  (let y0:List AV:=[Zi 0,Zi 0,Zi 0,Zi 0,Zi 0,Zi 0,Zi 0,Zi 0,.bn,.bn,.bn,.bn,.bn,.bn,.bn,.bn,Zb 0,Zb 0,Zb 0,Zb 0,Zb 0,Zb 0,Zb 0,Zb 0,Zb 0,Zb 0,Zb 0,Zb 0,Zb 0,Zb 0,Zb 0,Zb 0,Zb 0,Zb 0,Zb 0,Zb 0,Zb 0,Zb 0,Zb 0,Zb 0,Zb 0,Zb 0,Zb 0,Zb 0,Zb 0,Zb 0,Zb 0,Zb 0,Zi 0,Zi 0];(.sc true 10 [.agg (aS.cells k)] (.bool (dK k)) (.br (!dK k) (.out (.aX [.agg y0,Zi 0,Zi 1]) [] (lg k g) []) (.sc true 20 [.agg (aI.cells (aS.bT k)),.aH 11 k.4 fun i j=>Zi (k.5 i j),.agg (cH.cells g)] (.aX [Zi (lC (aS.bT k) (aS.R k) (aS.nr k) (cH.s g) (cH.t g) (cH.leaf g)),.bool (p7 (aS.bT k) (aS.R k) (aS.nr k) (cH.s g) (cH.t g) (cH.leaf g))]) (.br (!p7 k.2 k.5 k.4 g.1 g.2 g.3) (.out (.aX [.agg y0,Zi 0,Zi 11]) [] (lg k g) []) (.sc true 21 [.agg (aS.cells k),Zi (lC k.2 k.5 k.4 g.1 g.2 g.3)] (Zi (gW k (lC k.2 k.5 k.4 g.1 g.2 g.3))) (.br (decide (gW k (lC k.2 k.5 k.4 g.1 g.2 g.3)<0)) (.out (.aX [.agg y0,Zi 0,Zi 7]) [] (lg k g) []) (.gc 22 [] [.agg (aS.cells k)] (.agg (aS.cw k (.ba 0 7 0 (aS.nc k)))) [some ⟨7,aS.nc k,true,bA.row fun i=>cU.cells (aS.C k i)⟩] (.bj ((0:Int)≤gW k (lC k.2 k.5 k.4 g.1 g.2 g.3)∧gW k (lC k.2 k.5 k.4 g.1 g.2 g.3)<(k.8:Int)) (.out (.aX [.agg (Zi k.1::(aI.cells (aS.bT k)++Zi k.3::(.aH 11 k.4 fun i j=>Zi (k.5 i j))::(.aH 1 k.6 fun i x=>Zi (k.7 i))::(.aH 7 k.8 fun r k_1=>aQ [Zi (aS.C k (r+0)).1,.aH 1 (cU.pf (aS.C k (r+0))).1 fun i x=>Zi ((cU.pf (aS.C k (r+0))).2 i),Zi (cU.pf (aS.C k (r+0))).3,.aH 1 (cU.pf (aS.C k (r+0))).4 fun i x=>Zi ((cU.pf (aS.C k (r+0))).5 i),Zi (aS.C k (r+0)).3,.bool (Nat.beq (r+0) (toNat (gW k (lC k.2 k.5 k.4 g.1 g.2 g.3))+0)||(aS.C k (r+0)).4),Zi (aS.C k (r+0)).5] k_1)::(.aH 1 k.10 fun i x=>Zi (k.11 i))::(.aH 4 k.12 fun i j=>Zi (k.13 i j))::(.aH 83 k.14 fun i j=>aQ (db.cells (aS.U k i)) j)::(.aH 21 k.16 fun i j=>Zi (k.17 i j))::(.aH 161 k.18 fun i j=>aQ (cH.cells (aS.G k i)) j)::(bf k.20++[Zi k.21,Zi k.22]))),Zi (gW k (lC k.2 k.5 k.4 g.1 g.2 g.3)),Zi 0]) [] (lg k g) []))))))))))
  (by kernel_rfl) ?_
 refine aM (c1) ?_
 refine aL (fun h1=>?_) (fun h1=>?_)
 ·have g1:=(aC aF) h1
  exact aq (nU (Cq g1) (by decide))
 ·have g1:=(az aB) h1
  refine aM (c2 ((rO hk g1).nr)) ?_
  refine aL (fun h4=>?_) (fun h4=>?_)
  ·have g4:=(aC aF) h4
   exact aq (nU (HR g1 g4) (by decide))
  ·have g4:=(az aB) h4
   refine aM (c3 (lC k.2 k.5 k.4 g.1 g.2 g.3)) ?_
   refine aL (fun h7=>?_) (fun h7=>?_)
   ·have g7:=af h7
    exact aq (nU (Ic g1 g4 g7) (by decide))
   ·have g7:=aa h7
    refine gZ (c4 (by assumption)) ?_
    refine aD (Es g7) ?_
    exact aq (ay.of_eq (by rw [EW (HM g1 g4 g7)];rfl))
theorem zq (k:aS) (hn:k.nc≤1000):bI Tryz.prog aZ 26 [] [.agg k.cells] (.ba 0 7 0 k.nc) [some ⟨7,k.nc,true,.row fun i=>(k.C i).cells⟩]:=by
 refine cg (own:=bq) (hand:=true) Tryz.func26 (by kernel_rfl) mixed (by kernel_rfl)
  (let y0:=(fun (x:{ x:Nat // x≤aS.nc k })=>aY [1,3,4] [.own 0 50 0 0 50,.ba 1 7 0 (x.1),Zi x.1] [some ⟨50,1,true,.bc [aS.cells k]⟩,some ⟨7,x.1,true,bA.row fun i=>cU.cells (aS.C k i)⟩]);let y1:=(fun (x:{ x:Nat // x≤aS.nc k })=>aS.nc k - x.1);(.loop ({ x:Nat // x≤aS.nc k }) y0 y1 (⟨0,Nat.zero_le (aS.nc k)⟩) [1,3,4] [0,1825] [.own 0 50 0 0 50,.bn,Zi 0] [some ⟨50,1,true,.bc [aS.cells k]⟩,some ⟨7,0,true,.ty (999999999:TypeId) (.bc [])⟩] (fun x0=>(.br (decide ((x0.1:Int)<(k.8:Int))) (.bj (0≤(x0.1:Int)∧(x0.1:Int)<(k.8:Int)) (.bj ((x0.1+1)*88≤140737488355328) (.again (bh 0 y0 y1 x0) [1,3,4] [0,98] [.own 0 50 0 0 50,.ba 1 7 0 (x0.1+1),Zi (wrap .i64 ((x0.1:Int)+1))] [some ⟨50,1,true,.bc [aS.cells k]⟩,some ⟨7,x0.1+1,true,bA.cat x0.1 (bA.row fun i=>cU.cells (aS.C k i)) (.bc [cU.cells (aS.C k (toNat (↑(x0.1):Int)))])⟩]))) (.out (.ba 0 7 0 x0.1) [some ⟨7,x0.1,true,bA.row fun i=>cU.cells (aS.C k i)⟩] (.ba 0 7 0 (aS.nc k)) [some ⟨7,aS.nc k,true,bA.row fun i=>cU.cells (aS.C k i)⟩])))))
  (by kernel_rfl) ?_
 refine aV (fun _ hs=>hs.le (by repeat' (first|exact trivial|(first|exact ay.refl _|exact aK (by omega)|exact ay.nil rfl|exact ay.of_eq (congrArg (AV.ba _ _ _) (by first|omega|(dsimp only;omega)))|exact ay.of_eq (congrArg (AV.int _) (by first|omega|(dsimp only;omega))))|refine And.intro ?_ ?_)) (by repeat' (first|exact trivial|(first|exact aJ.refl _|exact aJ.bx|exact aJ.zero|exact aJ.push rfl rfl|exact aJ.ct rfl|exact aJ.len (by omega)|exact aJ.row (by repeat' (first|exact trivial|(first|exact ay.refl _|exact aK (by omega)|exact ay.nil rfl|exact ay.of_eq (congrArg (AV.ba _ _ _) (by first|omega|(dsimp only;omega)))|exact ay.of_eq (congrArg (AV.int _) (by first|omega|(dsimp only;omega))))|refine And.intro ?_ ?_)))|refine And.intro ?_ ?_))) (fun x0=>?_)
 try (have q0:=x0.2;dsimp only at q0)
 refine aL (fun h1=>?_) (fun h1=>?_)
 ·have g1:=af h1
  refine aD (by omega) ?_
  refine aD (by omega) ?_
  exact aN (⟨x0.1+1,by omega⟩) (fun _ hs=>hs.le (by repeat' (first|exact trivial|(first|exact ay.refl _|exact aK (by omega)|exact ay.nil rfl|exact ay.of_eq (congrArg (AV.ba _ _ _) (by first|omega|(dsimp only;omega)))|exact ay.of_eq (congrArg (AV.int _) (by first|omega|(dsimp only;omega))))|refine And.intro ?_ ?_)) (by repeat' (first|exact trivial|(first|exact aJ.refl _|exact aJ.bx|exact aJ.zero|exact aJ.push rfl rfl|exact aJ.ct rfl|exact aJ.len (by omega)|exact aJ.row (by repeat' (first|exact trivial|(first|exact ay.refl _|exact aK (by omega)|exact ay.nil rfl|exact ay.of_eq (congrArg (AV.ba _ _ _) (by first|omega|(dsimp only;omega)))|exact ay.of_eq (congrArg (AV.int _) (by first|omega|(dsimp only;omega))))|refine And.intro ?_ ?_)))|refine And.intro ?_ ?_))) (by (dsimp only;omega))
 ·have g1:=aa h1
  exact da (ay.of_eq (congrArg (AV.ba 0 7 0) (by omega))) (⟨aJ.len (by omega),trivial⟩)
def owD:FuncId→Option (List Bool):=fun f=>bif Nat.beq f 26 then some [false] else none
theorem CV (k:aS) (hk:jz k) (g:cH) (hg:vE g):Pure Tryz.prog aZ 7 [.agg k.cells,.agg g.cells] (lg k g):=by
 have c1:=Gg k hk
 have c2:=fun hn=>qC k.bT k.R k.nr g.s g.t g.leaf hg.lf hn hk.w hg.sl hg.tl hg.sb hg.tb (by have:=hg.sp;omega) (by have:=hg.tp;omega) hg.sf hg.tf
 have c3:=fun y=>tR k y hk.nc
 have c4:=fun h=>zq k h
 refine ar (own:=owD) Tryz.func7 (by kernel_rfl) mixed (by kernel_rfl)
  (let y0:List AV:=[Zi 0,Zi 0,Zi 0,Zi 0,Zi 0,Zi 0,Zi 0,Zi 0,.bn,.bn,.bn,.bn,.bn,.bn,.bn,.bn,Zb 0,Zb 0,Zb 0,Zb 0,Zb 0,Zb 0,Zb 0,Zb 0,Zb 0,Zb 0,Zb 0,Zb 0,Zb 0,Zb 0,Zb 0,Zb 0,Zb 0,Zb 0,Zb 0,Zb 0,Zb 0,Zb 0,Zb 0,Zb 0,Zb 0,Zb 0,Zb 0,Zb 0,Zb 0,Zb 0,Zb 0,Zb 0,Zi 0,Zi 0];(.sc true 23 [.agg (aS.cells k)] (.bool (dK k)) (.br (!dK k) (.out (.aX [.agg y0,Zi 0,Zi 1]) [] (lg k g) []) (.sc true 24 [.agg (aI.cells (aS.bT k)),.aH 11 k.4 fun i j=>Zi (k.5 i j),.agg (cH.cells g)] (.aX [Zi (lC (aS.bT k) (aS.R k) (aS.nr k) (cH.s g) (cH.t g) (cH.leaf g)),.bool (p7 (aS.bT k) (aS.R k) (aS.nr k) (cH.s g) (cH.t g) (cH.leaf g))]) (.br (!p7 k.2 k.5 k.4 g.1 g.2 g.3) (.out (.aX [.agg y0,Zi 0,Zi 11]) [] (lg k g) []) (.sc true 25 [.agg (aS.cells k),Zi (lC k.2 k.5 k.4 g.1 g.2 g.3)] (Zi (gW k (lC k.2 k.5 k.4 g.1 g.2 g.3))) (.br (decide (gW k (lC k.2 k.5 k.4 g.1 g.2 g.3)<0)) (.out (.aX [.agg y0,Zi 0,Zi 7]) [] (lg k g) []) (.gc 26 [] [.agg (aS.cells k)] (.ba 0 7 0 (aS.nc k)) [some ⟨7,aS.nc k,true,bA.row fun i=>cU.cells (aS.C k i)⟩] (.bj ((0:Int)≤gW k (lC k.2 k.5 k.4 g.1 g.2 g.3)∧gW k (lC k.2 k.5 k.4 g.1 g.2 g.3)<(k.8:Int)) (.out (.aX [.agg (Zi k.1::(aI.cells (aS.bT k)++Zi k.3::(.aH 11 k.4 fun i j=>Zi (k.5 i j))::(.aH 1 k.6 fun i x=>Zi (k.7 i))::(.aH 7 k.8 fun r k_1=>aQ [Zi (aS.C k (r+0)).1,.aH 1 (cU.pf (aS.C k (r+0))).1 fun i x=>Zi ((cU.pf (aS.C k (r+0))).2 i),Zi (cU.pf (aS.C k (r+0))).3,.aH 1 (cU.pf (aS.C k (r+0))).4 fun i x=>Zi ((cU.pf (aS.C k (r+0))).5 i),Zi (aS.C k (r+0)).3,.bool (Nat.beq (r+0) (toNat (gW k (lC k.2 k.5 k.4 g.1 g.2 g.3))+0)||(aS.C k (r+0)).4),Zi (aS.C k (r+0)).5] k_1)::(.aH 1 k.10 fun i x=>Zi (k.11 i))::(.aH 4 k.12 fun i j=>Zi (k.13 i j))::(.aH 83 k.14 fun i j=>aQ (db.cells (aS.U k i)) j)::(.aH 21 k.16 fun i j=>Zi (k.17 i j))::(.aH 161 k.18 fun i j=>aQ (cH.cells (aS.G k i)) j)::(bf k.20++[Zi k.21,Zi k.22]))),Zi (gW k (lC k.2 k.5 k.4 g.1 g.2 g.3)),Zi 0]) [] (lg k g) []))))))))))
  (by kernel_rfl) ?_
 refine aM (c1) ?_
 refine aL (fun h1=>?_) (fun h1=>?_)
 ·have g1:=(aC aF) h1
  exact aq (nU (Cq g1) (by decide))
 ·have g1:=(az aB) h1
  refine aM (c2 ((rO hk g1).nr)) ?_
  refine aL (fun h4=>?_) (fun h4=>?_)
  ·have g4:=(aC aF) h4
   exact aq (nU (HR g1 g4) (by decide))
  ·have g4:=(az aB) h4
   refine aM (c3 (lC k.2 k.5 k.4 g.1 g.2 g.3)) ?_
   refine aL (fun h7=>?_) (fun h7=>?_)
   ·have g7:=af h7
    exact aq (nU (Ic g1 g4 g7) (by decide))
   ·have g7:=aa h7
    refine gZ (c4 ((rO hk g1).nc)) ?_
    refine aD (Es g7) ?_
    exact aq (ay.of_eq (by rw [EW (HM g1 g4 g7)];rfl))
end Go.Proofs.YtpefjkpdniiaoaaGreatDoor

namespace Go.Sp
open Go.IntKind (wrap)
open Int (toNat)
open Go Go.Am
noncomputable def oD (k:aS) (i:Int):Int:=if dK k=true then (if i<0∨i≥k.nc then 2 else 0) else 1
noncomputable def rV (k:aS) (i:Int):Int:=if oD k i=0 then k.B (5+i).toNat else 0
noncomputable def AQ (k:aS) (n:Int):Int:=if dK k=true then (if 0≤n∧n≤1099511627776 then (if n<k.now then 15 else 0) else 2) else 1
noncomputable def goK (k:aS) (n:Int):aS:=if AQ k n=0 then { k with now:=n } else CQ
noncomputable def Df (k:aS) (n:Int):AV:=.aX [.agg (goK k n).cells,.int .i64 (AQ k n)]
variable {k : aS} {i n : Int}
theorem HL (h:dK k=false):oD k i=1:=if_neg (by rw [h];decide)
theorem C5 (h:dK k=true) (g:i<0∨i≥k.nc):oD k i=2:=by unfold oD;rw [if_pos h,if_pos g]
theorem Hx (h:dK k=true) (g:¬i<0∧¬i≥k.nc):oD k i=0:=by unfold oD;rw [if_pos h,if_neg (by omega)]
theorem wg {e:Int} (h:oD k i=e) (he:e≠0):rV k i=0:=by unfold rV;rw [h,if_neg he]
theorem JI (h:dK k=true) (g:¬i<0∧¬i≥k.nc):rV k i=k.B (IntKind.wrap .i64 (5+i)).toNat:=by
 have:=(rq (eW.1 h).2.2.1).1
 unfold rV;rw [if_pos (Hx h g),wI (by omega) (by omega)]
theorem Ik (h:dK k=true) (g:¬i<0∧¬i≥k.nc):fH k.nb k.B k.ne k.E=true∧0≤IntKind.wrap .i64 (5+i)∧IntKind.wrap .i64 (5+i)<k.nb:=by
 have b:=eW.1 h
 have:=(rq b.2.2.1).1
 have:=b.2.2.2.2.1
 rw [wI (by omega) (by omega)]
 exact ⟨b.2.2.2.1,by omega,by omega⟩
theorem OH (h:dK k=false):AQ k n=1:=if_neg (by rw [h];decide)
theorem Oo (h:dK k=true) (g:¬n≥0∨¬n≤1099511627776):AQ k n=2:=by unfold AQ;rw [if_pos h,if_neg (by omega)]
theorem OL (h:dK k=true) (g:n≥0∧n≤1099511627776) (g':n<k.now):AQ k n=15:=by unfold AQ;rw [if_pos h,if_pos (by omega),if_pos g']
theorem Mv (h:dK k=true) (g:n≥0∧n≤1099511627776) (g':¬n<k.now):AQ k n=0:=by unfold AQ;rw [if_pos h,if_pos (by omega),if_neg g']
theorem LO {e:Int} (h:AQ k n=e) (he:e≠0):Df k n=.aX [.agg CQ.cells,.int .i64 e]:=by unfold Df goK;rw [h,if_neg he]
theorem H2 (h:AQ k n=0):Df k n=.aX [.agg { k with now:=n }.cells,.int .i64 0]:=by unfold Df goK;rw [h,if_pos rfl]
def zbA:AV:=.agg [.int .i64 0,.int .i64 0,.int .i64 0,.int .i64 0,.int .i64 0,.int .i64 0,.int .i64 0,.int .i64 0,.bn,.bn,.bn,.bn,.bn,.bn,.bn,.bn,.int .u8 0,.int .u8 0,.int .u8 0,.int .u8 0,.int .u8 0,.int .u8 0,.int .u8 0,.int .u8 0,.int .u8 0,.int .u8 0,.int .u8 0,.int .u8 0,.int .u8 0,.int .u8 0,.int .u8 0,.int .u8 0,.int .u8 0,.int .u8 0,.int .u8 0,.int .u8 0,.int .u8 0,.int .u8 0,.int .u8 0,.int .u8 0,.int .u8 0,.int .u8 0,.int .u8 0,.int .u8 0,.int .u8 0,.int .u8 0,.int .u8 0,.int .u8 0,.int .i64 0,.int .i64 0]
theorem rU {os:List (Option Ob)}:ay os zbA (.agg CQ.cells):=by
 refine ay.agg ?_
 repeat' (first|exact trivial|exact ay.refl _|exact ay.bn|refine And.intro ?_ ?_)
theorem wJ {os:List (Option Ob)} {e:Int} (h:AQ k n=e) (he:e≠0):ay os (.aX [zbA,.int .i64 e]) (Df k n):=by
 rw [LO h he]
 exact ay.aX ⟨rU,ay.refl _,trivial⟩
def hM (n:Nat) (f:Nat→Int):Nat→Int:=et "specie/draw".toUTF8 n f
def AO (b:aI) (num x:Int) (n:Nat):Int:=if aT b=true then (if (0≤num∧num≤7)∧er b x=true then (if n>16384 then 5 else 0) else 2) else 1
def nwB (b:aI) (num x:Int) (sd:Nat→Int):aS:={ CQ with num:=num,bT:=b,sec:=x,nb:=5,sC:=sd }
def nwK (b:aI) (num x:Int) (n:Nat) (f:Nat→Int):aS:=if AO b num x n=0 then nwB b num x (hM n f) else CQ
def w5 (b:aI) (num x:Int) (n:Nat) (f:Nat→Int):AV:=.aX [.agg (nwK b num x n f).cells,.int .i64 (AO b num x n)]
variable {b : aI} {num x : Int} {sn : Nat} {sf : Nat → Int}
theorem Ip (h:aT b=false):AO b num x sn=1:=if_neg (by rw [h];decide)
theorem Ih (h:aT b=true) (g:(¬num≥0∨¬num≤7)∨er b x=false):AO b num x sn=2:=by
 unfold AO;rw [if_pos h,if_neg (fun e=>by rcases g with g|g;(· omega);(· rw [e.2] at g;cases g))]
theorem Mp (h:aT b=true) (g:(num≥0∧num≤7)∧er b x=true) (g':(sn:Int)>16384):AO b num x sn=5:=by
 unfold AO;rw [if_pos h,if_pos g,if_pos (by omega)]
theorem Hz (h:aT b=true) (g:(num≥0∧num≤7)∧er b x=true) (g':¬(sn:Int)>16384):AO b num x sn=0:=by
 unfold AO;rw [if_pos h,if_pos g,if_neg (by omega)]
theorem pP {os:List (Option Ob)} {e:Int} (h:AO b num x sn=e) (he:e≠0):ay os (.aX [zbA,.int .i64 e]) (w5 b num x sn sf):=by
 unfold w5 nwK;rw [h,if_neg he]
 exact ay.aX ⟨rU,ay.refl _,trivial⟩
theorem HF (h:AO b num x sn=0):w5 b num x sn sf=.aX [.agg (nwB b num x (hM sn sf)).cells,.int .i64 0]:=by unfold w5 nwK;rw [h,if_pos rfl]
theorem KQ {os:List (Option Ob)} (h:AO b num x sn=0):ay os (.aX [.agg (Ln num b x .bn .bn .bn (.aH 1 5 fun _ _=>.int .i64 0) .bn .bn .bn .bn (hM sn sf) 0 0),.int .i64 0]) (w5 b num x sn sf):=by
 rw [HF h]
 refine ay.aX ⟨ay.agg ?_,ay.refl _,trivial⟩
 repeat' (first|exact trivial|exact ay.refl _|exact ay.bn|refine And.intro ?_ ?_)
end Go.Sp

namespace Go.Proofs.YtpefjkpdniiaoaaGreatDoor
open Go.IntKind (wrap)
open Int (toNat)
open Go Go.Am Go.Sp
set_option maxRecDepth 100000
abbrev w6:List AV:=[AV.agg [Zi 0,Zi 0,Zi 0,Zi 0,Zi 0,Zi 0,Zi 0,Zi 0,AV.bn,AV.bn,AV.bn,AV.bn,AV.bn,AV.bn,AV.bn,AV.bn,Zb 0,Zb 0,Zb 0,Zb 0,Zb 0,Zb 0,Zb 0,Zb 0,Zb 0,Zb 0,Zb 0,Zb 0,Zb 0,Zb 0,Zb 0,Zb 0,Zb 0,Zb 0,Zb 0,Zb 0,Zb 0,Zb 0,Zb 0,Zb 0,Zb 0,Zb 0,Zb 0,Zb 0,Zb 0,Zb 0,Zb 0,Zb 0,Zi 0,Zi 0],Zi 1]
abbrev v3:List AV:=[AV.agg [Zi 0,Zi 0,Zi 0,Zi 0,Zi 0,Zi 0,Zi 0,Zi 0,AV.bn,AV.bn,AV.bn,AV.bn,AV.bn,AV.bn,AV.bn,AV.bn,Zb 0,Zb 0,Zb 0,Zb 0,Zb 0,Zb 0,Zb 0,Zb 0,Zb 0,Zb 0,Zb 0,Zb 0,Zb 0,Zb 0,Zb 0,Zb 0,Zb 0,Zb 0,Zb 0,Zb 0,Zb 0,Zb 0,Zb 0,Zb 0,Zb 0,Zb 0,Zb 0,Zb 0,Zb 0,Zb 0,Zb 0,Zb 0,Zi 0,Zi 0],Zi 2]
abbrev BH:List AV:=[AV.agg [Zb 0,Zb 0,Zb 0,Zb 0,Zb 0,Zb 0,Zb 0,Zb 0,Zb 0,Zb 0,Zb 0,Zb 0,Zb 0,Zb 0,Zb 0,Zb 0,Zb 0,Zb 0,Zb 0,Zb 0,Zb 0,Zb 0,Zb 0,Zb 0,Zb 0,Zb 0,Zb 0,Zb 0,Zb 0,Zb 0,Zb 0,Zb 0,Zi 0],Zi 5]
theorem Cc (nb:Nat) (B:Nat→Int) (ne:Nat) (E:Nat→Nat→Int) (i:Int) (hn:nb<9223372036854775808) (he:ne<9223372036854775808) (h:fH nb B ne E=true) (hi:0≤i∧i<nb):Pure Tryz.prog aZ 96 [.agg [jt nb B,lV ne E],.int .i64 i] (.int .i64 0):=by
 have c1:=BB nb B ne E hn he
 rw [h] at c1
 refine ar (own:=bq) Tryz.func96 (by kernel_rfl) mixed (by kernel_rfl)
  (.sc true 39 [.agg [.aH 1 nb fun i x=>Zi (B i),.aH 4 ne fun i j=>Zi (E i j)]] (.bool true) (.ff (.br (decide (i<0)||decide (i≥(nb:Int))) (.out (Zi 2) [] (Zi 0) []) (.out (Zi 0) [] (Zi 0) []))))
  (by kernel_rfl) ?_
 refine aM (c1) ?_
 refine cz ?_
 refine aL (fun h2=>?_) (fun h2=>?_)
 ·have g2:=(aA af af) h2
  exact aq ((by exfalso;omega))
 ·have g2:=(aw aa aa) h2
  exact aq (ay.of_eq rfl)
theorem Kk (nb:Nat) (B:Nat→Int) (ne:Nat) (E:Nat→Nat→Int) (i:Int) (hn:nb<9223372036854775808) (he:ne<9223372036854775808) (h:fH nb B ne E=true) (hi:0≤i∧i<nb):Pure Tryz.prog aZ 43 [.agg [jt nb B,lV ne E],.int .i64 i] (.aX [.int .i64 (B i.toNat),.int .i64 0]):=by
 have c1:=Cc nb B ne E i hn he h hi
 refine ar (own:=bq) Tryz.func43 (by kernel_rfl) mixed (by kernel_rfl)
  (.sc true 96 [.agg [.aH 1 nb fun i x=>Zi (B i),.aH 4 ne fun i j=>Zi (E i j)],Zi i] (Zi 0) (.ff (.bj ((0:Int)≤i∧i<(nb:Int)) (.out (.aX [Zi (B (toNat i)),Zi 0]) [] (.aX [Zi (B (toNat i)),Zi 0]) []))))
  (by kernel_rfl) ?_
 refine aM (c1) ?_
 refine cz ?_
 refine aD (by omega) ?_
 exact aq (ay.of_eq rfl)
theorem Lu (k:aS) (hk:jz k) (i:Int):Pure Tryz.prog aZ 11 [.agg k.cells,.int .i64 i] (.aX [.int .i64 (rV k i),.int .i64 (oD k i)]):=by
 have c1:=p8 k hk
 have c2:=fun i h hi=>Kk k.nb k.B k.ne k.E i hk.nb hk.ne h hi
 refine ar (own:=bq) Tryz.func11 (by kernel_rfl) mixed (by kernel_rfl)
  (.sc true 10 [.agg (aS.cells k)] (.bool (dK k)) (.br (!dK k) (.out (.aX [Zi 0,Zi 1]) [] (.aX [Zi (rV k i),Zi (oD k i)]) []) (.br (decide (i<0)||decide (i≥(k.8:Int))) (.out (.aX [Zi 0,Zi 2]) [] (.aX [Zi (rV k i),Zi (oD k i)]) []) (.sc true 43 [.agg [.aH 1 k.10 fun i x=>Zi (k.11 i),.aH 4 k.12 fun i j=>Zi (k.13 i j)],Zi (wrap .i64 ((5:Int)+i))] (.aX [Zi (aS.B k (toNat (wrap .i64 ((5:Int)+i)))),Zi 0]) (.out (.aX [Zi (k.11 (toNat (wrap .i64 ((5:Int)+i)))),Zi 0]) [] (.aX [Zi (rV k i),Zi (oD k i)]) [])))))
  (by kernel_rfl) ?_
 refine aM (c1) ?_
 refine aL (fun h1=>?_) (fun h1=>?_)
 ·have g1:=(aC aF) h1
  exact aq (ay.of_eq (by rw [wg (HL g1) (by decide),HL g1]))
 ·have g1:=(az aB) h1
  refine aL (fun h3=>?_) (fun h3=>?_)
  ·have g3:=(aA af af) h3
   exact aq (ay.of_eq (by rw [wg (C5 g1 g3) (by decide),C5 g1 g3]))
  ·have g3:=(aw aa aa) h3
   refine aM (c2 (wrap .i64 ((5:Int)+i)) ((Ik g1 g3).1) ((Ik g1 g3).2)) ?_
   exact aq (ay.of_eq (by rw [JI g1 g3,Hx g1 g3]))
theorem M4 (k:aS) (hk:jz k) (n:Int):Pure Tryz.prog aZ 12 [.agg k.cells,.int .i64 n] (Df k n):=by
 have c1:=p8 k hk
 have c4:=fun h=>u5 k (rO hk h)
 refine ar (own:=owB) Tryz.func12 (by kernel_rfl) mixed (by kernel_rfl)
  (.sc true 10 [.agg (aS.cells k)] (.bool (dK k)) (.br (!dK k) (.out (.aX w6) [] (Df k n) []) (.sc true 32 [Zi n,Zi 0,Zi 1099511627776] (.bool (decide (n≥0)&&decide (n≤1099511627776))) (.br (!(decide (n≥0)&&decide (n≤1099511627776))) (.out (.aX v3) [] (Df k n) []) (.br (decide (n<k.22)) (.out (.aX [.agg [Zi 0,Zi 0,Zi 0,Zi 0,Zi 0,Zi 0,Zi 0,Zi 0,.bn,.bn,.bn,.bn,.bn,.bn,.bn,.bn,Zb 0,Zb 0,Zb 0,Zb 0,Zb 0,Zb 0,Zb 0,Zb 0,Zb 0,Zb 0,Zb 0,Zb 0,Zb 0,Zb 0,Zb 0,Zb 0,Zb 0,Zb 0,Zb 0,Zb 0,Zb 0,Zb 0,Zb 0,Zb 0,Zb 0,Zb 0,Zb 0,Zb 0,Zb 0,Zb 0,Zb 0,Zb 0,Zi 0,Zi 0],Zi 15]) [] (Df k n) []) (.gc 22 [] [.agg (aS.cells k)] (.agg (aS.cw k (.ba 0 7 0 (aS.nc k)))) [some ⟨7,aS.nc k,true,bA.row fun i=>cU.cells (aS.C k i)⟩] (.out (.aX [.agg (Zi k.1::(aI.cells (aS.bT k)++Zi k.3::(.aH 11 k.4 fun i j=>Zi (k.5 i j))::(.aH 1 k.6 fun i x=>Zi (k.7 i))::(.aH 7 k.8 fun r k_1=>aQ (cU.cells (aS.C k (r+0))) k_1)::(.aH 1 k.10 fun i x=>Zi (k.11 i))::(.aH 4 k.12 fun i j=>Zi (k.13 i j))::(.aH 83 k.14 fun i j=>aQ (db.cells (aS.U k i)) j)::(.aH 21 k.16 fun i j=>Zi (k.17 i j))::(.aH 161 k.18 fun i j=>aQ (cH.cells (aS.G k i)) j)::(bf k.20++[Zi k.21,Zi n]))),Zi 0]) [] (Df k n) [])))))))
  (by kernel_rfl) ?_
 refine aM (c1) ?_
 refine aL (fun h1=>?_) (fun h1=>?_)
 ·have g1:=(aC aF) h1
  exact aq (wJ (OH g1) (by decide))
 ·have g1:=(az aB) h1
  refine aM (rL (n) ((0:Int)) ((1099511627776:Int))) ?_
  refine aL (fun h4=>?_) (fun h4=>?_)
  ·have g4:=(aC (ao aa aa)) h4
   exact aq (wJ (Oo g1 g4) (by decide))
  ·have g4:=(az (ah af af)) h4
   refine aL (fun h6=>?_) (fun h6=>?_)
   ·have g6:=af h6
    exact aq (wJ (OL g1 g4 g6) (by decide))
   ·have g6:=aa h6
    refine gZ (c4 (by assumption)) ?_
    exact aq (ay.of_eq (by rw [H2 (Mv g1 g4 g6)];rfl))
theorem CX:Pure Tryz.prog aZ 35 [.int .i64 5] (.aX [.agg [.aH 1 5 fun _ _=>.int .i64 0,.bn],.int .i64 0]):=by
 refine ar (own:=bq) Tryz.func35 (by kernel_rfl) mixed (by kernel_rfl)
  (.ff (.bj ((0:Int)≤5∧(5:Int)=(5:Int)∧(↑(8):Int)*5≤140737488355328∧(5:Int)≤9223372036854775807) (.out (AV.aX [AV.agg [AV.aH 1 5 fun (r k:Nat)=>Zi (aE (aQ [Zi 0] k)),AV.bn],Zi 0]) [] (AV.aX [AV.agg [AV.aH 1 5 fun (x x_1:Nat)=>Zi 0,AV.bn],Zi 0]) [])))
  (by kernel_rfl) ?_
 refine cz ?_
 refine aD (by omega) ?_
 exact aq (ay.aX ⟨ay.agg ⟨ay.aH fun i j hi hj=>by obtain rfl:j=0:=Nat.lt_one_iff.1 hj;rfl,ay.refl _,trivial⟩,ay.refl _,trivial⟩)
theorem Lx (n:Nat) (f:Nat→Int) (hn:n≤16384) (hf:cS f n):Pure Tryz.prog aZ 34 [dC n f] (.aX [.agg (bf (hM n f)++[.int .i64 0]),.int .i64 0]):=by
 have c1:=gj "specie/draw".toUTF8 (by decide) (by decide) f n (by omega) hf
 refine ar (own:=bq) Tryz.func34 (by kernel_rfl) mixed (by kernel_rfl)
  (let y0:AV:=(.aX [.agg (bf (hM n f)++[Zi 0]),Zi 0]);(.br (decide ((n:Int)>16384)) (.out (.aX BH) [] y0 []) (.sc true 82 [AV.str { data := #[(115:UInt8),112,101,99,105,101,47,100,114,97,119] },.aH 1 n fun i x=>Zb (f i)] (.aX [.agg (bf (et (String.toUTF8 "specie/draw") n f)),Zi 0]) (.ff (.out (.aX [.agg (bf (et (String.toUTF8 "specie/draw") n f)++[Zi 0]),Zi 0]) [] y0 [])))))
  (by kernel_rfl) ?_
 refine aL (fun h0=>?_) (fun h0=>?_)
 ·have g0:=af h0
  exact aq ((by exfalso;omega))
 ·have g0:=aa h0
  refine aM (c1) ?_
  refine cz ?_
  exact aq (ay.of_eq rfl)
theorem Ka (n:Nat) (f:Nat→Int) (hn:(n:Int)>16384):Pure Tryz.prog aZ 34 [dC n f] (.aX [.agg (bf z0++[.int .i64 0]),.int .i64 5]):=by
 refine ar (own:=bq) Tryz.func34 (by kernel_rfl) mixed (by kernel_rfl)
  (.br (decide ((n:Int)>16384)) (.out (.aX BH) [] (.aX [.agg (bf z0++[Zi 0]),Zi 5]) []) .no)
  (by kernel_rfl) ?_
 refine aL (fun h0=>?_) (fun h0=>?_)
 ·have g0:=af h0
  exact aq (ay.of_eq rfl)
 ·have g0:=aa h0
  exact (show False from (by exfalso;omega))
theorem JM (b:aI) (num x:Int) (n:Nat) (f:Nat→Int) (hw:b.gr.W) (hn:(n:Int)>16384):Pure Tryz.prog aZ 9 [b.av,.int .i64 num,.int .i64 x,dC n f] (w5 b num x n f):=by
 have c0:=eF b hw
 have c1:=xr b x
 have c2:=CX
 have c3:=Ka n f hn
 refine ar (own:=bq) Tryz.func9 (by kernel_rfl) mixed (by kernel_rfl)
  (.sc true 31 [.agg (aI.cells b)] (.bool (aT b)) (.br (!aT b) (.out (.aX w6) [] (w5 b num x n f) []) (.sc true 32 [Zi num,Zi 0,Zi 7] (.bool (decide (num≥0)&&decide (num≤7))) (.sc ((!(decide (num≥0)&&decide (num≤7)))==false) 33 [.agg (aI.cells b),Zi x] (.bool (er b x)) (.br (!(decide (num≥0)&&decide (num≤7)) || !er b x) (.out (.aX v3) [] (w5 b num x n f) []) (.sc true 34 [.aH 1 n fun i x=>Zb (f i)] (.aX [.agg (bf z0++[Zi 0]),Zi 5]) (.tt (.out (.aX [.agg [Zi 0,Zi 0,Zi 0,Zi 0,Zi 0,Zi 0,Zi 0,Zi 0,.bn,.bn,.bn,.bn,.bn,.bn,.bn,.bn,Zb 0,Zb 0,Zb 0,Zb 0,Zb 0,Zb 0,Zb 0,Zb 0,Zb 0,Zb 0,Zb 0,Zb 0,Zb 0,Zb 0,Zb 0,Zb 0,Zb 0,Zb 0,Zb 0,Zb 0,Zb 0,Zb 0,Zb 0,Zb 0,Zb 0,Zb 0,Zb 0,Zb 0,Zb 0,Zb 0,Zb 0,Zb 0,Zi 0,Zi 0],Zi 5]) [] (w5 b num x n f) []))))))))
  (by kernel_rfl) ?_
 refine aM (c0) ?_
 refine aL (fun h1=>?_) (fun h1=>?_)
 ·have g1:=(aC aF) h1
  exact aq (pP (Ip g1) (by decide))
 ·have g1:=(az aB) h1
  refine aM (rL (num) ((0:Int)) ((7:Int))) ?_
  refine aW (fun h4=>c1) ?_
  refine aL (fun h5=>?_) (fun h5=>?_)
  ·have g5:=(aA (aC (ao aa aa)) (aC aF)) h5
   exact aq (pP (Ih g1 g5) (by decide))
  ·have g5:=(aw (az (ah af af)) (az aB)) h5
   refine aM (c3) ?_
   refine gp ?_
   exact aq (pP (Mp g1 g5 hn) (by decide))
theorem IH (b:aI) (num x:Int) (n:Nat) (f:Nat→Int) (hw:b.gr.W) (hf:cS f n) (hn:n≤16384):Pure Tryz.prog aZ 9 [b.av,.int .i64 num,.int .i64 x,dC n f] (w5 b num x n f):=by
 have c0:=eF b hw
 have c1:=xr b x
 have c2:=CX
 have c3:=Lx n f hn hf
 refine ar (own:=bq) Tryz.func9 (by kernel_rfl) mixed (by kernel_rfl)
  (.sc true 31 [.agg (aI.cells b)] (.bool (aT b)) (.br (!aT b) (.out (.aX w6) [] (w5 b num x n f) []) (.sc true 32 [Zi num,Zi 0,Zi 7] (.bool (decide (num≥0)&&decide (num≤7))) (.sc ((!(decide (num≥0)&&decide (num≤7)))==false) 33 [.agg (aI.cells b),Zi x] (.bool (er b x)) (.br (!(decide (num≥0)&&decide (num≤7)) || !er b x) (.out (.aX v3) [] (w5 b num x n f) []) (.sc true 34 [.aH 1 n fun i x=>Zb (f i)] (.aX [.agg (bf (hM n f)++[Zi 0]),Zi 0]) (.ff (.dc true 35 [Zi 5] (.aX [.agg [.aH 1 5 fun x x_1=>Zi 0,.bn],Zi 0]) (.ff (.out (.aX [.agg (Zi num::(aI.cells b++Zi x::.bn::.bn::.bn::(.aH 1 5 fun x x_1=>Zi 0)::.bn::.bn::.bn::.bn::(bf (hM n f)++[Zi 0,Zi 0]))),Zi 0]) [] (w5 b num x n f) []))))))))))
  (by kernel_rfl) ?_
 refine aM (c0) ?_
 refine aL (fun h1=>?_) (fun h1=>?_)
 ·have g1:=(aC aF) h1
  exact aq (pP (Ip g1) (by decide))
 ·have g1:=(az aB) h1
  refine aM (rL (num) ((0:Int)) ((7:Int))) ?_
  refine aW (fun h4=>c1) ?_
  refine aL (fun h5=>?_) (fun h5=>?_)
  ·have g5:=(aA (aC (ao aa aa)) (aC aF)) h5
   exact aq (pP (Ih g1 g5) (by decide))
  ·have g5:=(aw (az (ah af af)) (az aB)) h5
   refine aM (c3) ?_
   refine cz ?_
   refine b9 (c2) ?_
   refine cz ?_
   exact aq (KQ (Hz g1 g5 (by omega)))
theorem Lh (b:aI) (num x:Int) (n:Nat) (f:Nat→Int) (hw:b.gr.W) (hf:cS f n):Pure Tryz.prog aZ 9 [b.av,.int .i64 num,.int .i64 x,dC n f] (w5 b num x n f):=by
 by_cases hn:(n:Int)>16384
 ·exact JM b num x n f hw hn
 ·exact IH b num x n f hw hf (by omega)
end Go.Proofs.YtpefjkpdniiaoaaGreatDoor

namespace Go.Sp
open Go.IntKind (wrap)
open Int (toNat)
open Go Go.Am
def ew (s:au):Bool:=decide ((s.nl:Int)≤40)&&decide ((s.np:Int)≤30)
def rk (c:cU):Bool := !(decide ((c.pf.na:Int)>20)||decide ((c.pf.nz:Int)>20))
def fwH (k:aS):Bool:=decide (k.nr≤40)&&decide (k.ns≤40)&&decide (k.nc≤12)&&decide (k.ni≤12)&&decide (k.ng≤12)&&decide (k.ne≤200)&&decide (k.nb≤200)&&decide (k.nu≤100)
def wi (k:aS):Bool:=fwH k && !anyI (fun i => !ew (k.U i).sp) k.nu && !anyI (fun i => !(ew (k.G i).s&&ew (k.G i).t)) k.ng && !anyI (fun i => !rk (k.C i)) k.nc
variable {k : aS}
theorem xQ:fwH k=true↔k.nr≤40∧k.ns≤40∧k.nc≤12∧k.ni≤12∧k.ng≤12∧k.ne≤200∧k.nb≤200∧k.nu≤100:=by
 simp [fwH,and_assoc]
theorem Oy (g:(((((((k.nr:Int)>40∨(k.ns:Int)>40)∨(k.nc:Int)>12)∨(k.ni:Int)>12)∨(k.ng:Int)>12)∨(k.ne:Int)>200)∨(k.nb:Int)>200)∨(k.nu:Int)>100):wi k=false:=eU fun e=>by
 have e:fwH k=true:=by unfold wi at e;simp only [Bool.and_eq_true] at e;exact e.1.1.1
 have:=xQ.1 e
 omega
theorem On (g:anyI (fun i => !ew (k.U i).sp) k.nu=true∨anyI (fun i => !(ew (k.G i).s&&ew (k.G i).t)) k.ng=true):wi k=false:=by
 unfold wi;rcases g with g|g<;>rw [g]<;>simp
theorem OO (g:(((((((¬(k.nr:Int)>40∧¬(k.ns:Int)>40)∧¬(k.nc:Int)>12)∧¬(k.ni:Int)>12)∧¬(k.ng:Int)>12)∧¬(k.ne:Int)>200)∧¬(k.nb:Int)>200)∧¬(k.nu:Int)>100))
  (g':anyI (fun i => !ew (k.U i).sp) k.nu=false∧anyI (fun i => !(ew (k.G i).s&&ew (k.G i).t)) k.ng=false):(!anyI (fun i => !rk (k.C i)) k.nc)=wi k:=by
 have:fwH k=true:=xQ.2 (by omega)
 unfold wi;rw [this,g'.1,g'.2];rfl
end Go.Sp

namespace Go.Proofs.YtpefjkpdniiaoaaGreatDoor
open Go.IntKind (wrap)
open Int (toNat)
open Go Go.Am Go.Sp
set_option maxRecDepth 100000
theorem vW (s:au):Pure Tryz.prog aZ 13 [s.av] (.bool (ew s)):=by
 refine ar (own:=bq) Tryz.func13 (by kernel_rfl) mixed (by kernel_rfl)
  (.out (.bool (decide ((s.16:Int)≤40)&&decide ((s.19:Int)≤30))) [] (.bool (ew s)) [])
  (by kernel_rfl) ?_
 exact aq (ay.of_eq rfl)
theorem JV (u:db):Pure Tryz.prog aZ 15 [.agg u.cells,.bJ 1 (aQ [.fn (.func 13) [] []])] (.bool (!ew u.sp)):=by
 have c1:=vW u.sp
 refine ar (own:=bq) Tryz.func15 (by kernel_rfl) mixed (by kernel_rfl)
  (.sc true 13 [.agg (au.cells (db.sp u))] (.bool (ew (db.sp u))) (.out (.bool !ew u.3) [] (.bool !ew (db.sp u)) []))
  (by kernel_rfl) ?_
 refine aM (c1) ?_
 exact aq (ay.of_eq rfl)
theorem KO (g:cH):Pure Tryz.prog aZ 17 [.agg g.cells,.bJ 1 (aQ [.fn (.func 13) [] []])] (.bool (!(ew g.s&&ew g.t))):=by
 have c1:=vW g.s
 have c2:=vW g.t
 refine ar (own:=bq) Tryz.func17 (by kernel_rfl) mixed (by kernel_rfl)
  (.sc true 13 [.agg (au.cells (cH.s g))] (.bool (ew (cH.s g))) (.sc ((!ew g.1)==false) 13 [.agg (au.cells (cH.t g))] (.bool (ew (cH.t g))) (.out (.bool (!ew g.1 || !ew g.2)) [] (.bool !(ew (cH.s g)&&ew (cH.t g))) [])))
  (by kernel_rfl) ?_
 refine aM (c1) ?_
 refine aW (fun h1=>c2) ?_
 exact aq (ay.of_eq (by simp_all))
theorem JT (c:cU):Pure Tryz.prog aZ 19 [.agg c.cells] (.bool (!rk c)):=by
 refine ar (own:=bq) Tryz.func19 (by kernel_rfl) mixed (by kernel_rfl)
  (.out (.bool (decide ((↑(cU.pf c).1:Int)>20)||decide ((↑(cU.pf c).4:Int)>20))) [] (.bool !rk c) [])
  (by kernel_rfl) ?_
 exact aq (ay.of_eq (congrArg AV.bool (Bool.not_not _).symm))
theorem M8 (n:Nat) (F:Nat→db) (hn:n<9223372036854775808):Pure Tryz.prog aZ 44 [mT n F,.fn (.func 15) [] [.bJ 1 (aQ [.fn (.func 13) [] []])]] (.int .i64 (aG (fun i => !ew (F i).sp) n 0)):=by
 have c1:=fun i=>JV (F i)
 refine ar (own:=bq) Tryz.func44 (by kernel_rfl) mixed (by kernel_rfl)
  (let y1:=(fun (x:{ x:Nat // x≤n∧(fun (i:Nat)=>aG (fun (i:Nat) => !ew (db.sp (F i))) n 0=aG (fun (i:Nat) => !ew (db.sp (F i))) (n - i) i) x })=>n - x.1);let y2:List AV:=[AV.fn (Fn.func (13:FuncId)) [] []];let y0:=(fun (x:{ x:Nat // x≤n∧(fun (i:Nat)=>aG (fun (i:Nat) => !ew (db.sp (F i))) n 0=aG (fun (i:Nat) => !ew (db.sp (F i))) (n - i) i) x })=>aY [0,1,7,8] [AV.aH 83 n fun (i j:Nat)=>aQ (db.cells (F i)) j,AV.fn (Fn.func (15:FuncId)) [] [AV.bJ 1 (aQ y2)],Zi (↑n:Int),Zi (↑(x.1):Int)] []);let y3:AV:=(Zi (aG (fun (i:Nat) => !ew (db.sp (F i))) n 0));(.loop ({ x:Nat // x≤n∧(fun (i:Nat)=>aG (fun (i:Nat) => !ew (db.sp (F i))) n 0=aG (fun (i:Nat) => !ew (db.sp (F i))) (n - i) i) x }) y0 y1 (⟨0,⟨Nat.zero_le n,rfl⟩⟩) ([0,1,7,8]) ([]) ([AV.aH 83 n fun (i j:Nat)=>aQ (db.cells (F i)) j,AV.fn (Fn.func (15:FuncId)) [] [AV.bJ 1 (aQ y2)],Zi (↑n:Int),Zi 0]) ([]) (fun x0=>(.br (decide ((↑x0.1:Int)<(↑n:Int))) (.bj ((0:Int)≤(↑x0.1:Int)∧(↑x0.1:Int)<(↑n:Int)) (.sc (true) 15 ([AV.agg (db.cells (F (toNat (↑(x0.1):Int)))),AV.bJ 1 (aQ y2)]) (AV.bool !ew (db.sp (F (toNat (↑(x0.1):Int))))) (.br (!ew (F (toNat (↑(x0.1):Int))).3) (.out (Zi (↑x0.1:Int)) [] y3 []) (.again (bh 0 y0 y1 x0) ([0,1,7,8]) ([]) ([AV.aH 83 n fun (i j:Nat)=>aQ (db.cells (F i)) j,AV.fn (Fn.func (15:FuncId)) [] [AV.bJ 1 (aQ y2)],Zi (↑n:Int),Zi (wrap .i64 ((↑x0.1:Int)+1))]) ([]))))) (.out (Zi (-1)) [] y3 [])))))
  (by kernel_rfl) ?_
 refine aV (fun _ hs=>hs.le (⟨.refl _,.refl _,.refl _,.refl _,trivial⟩) (trivial)) (fun x0=>?_)
 try (have q0:=x0.2;dsimp only at q0)
 refine aL (fun h1=>?_) (fun h1=>?_)
 ·have g1:=af h1
  refine aD (by omega) ?_
  refine aM (c1 (toNat (↑(x0.1):Int))) ?_
  refine aL (fun h4=>?_) (fun h4=>?_)
  ·have g4:=(aC aF) h4
   try simp only [Int.toNat_natCast] at g4
   exact aq (ay.of_eq (congrArg _ (cr x0.2.2 (by omega) (by simpa using h4))))
  ·have g4:=(az aB) h4
   try simp only [Int.toNat_natCast] at g4
   exact aN (⟨x0.1+1,by omega,bS x0.2.2 (by omega) (by simpa using h4)⟩) (fun _ hs=>hs.le (⟨.refl _,.refl _,.refl _,aK (by omega),trivial⟩) (trivial)) (by dsimp only;omega)
 ·have g1:=aa h1
  exact aq (ay.of_eq (congrArg _ (bW x0.2.2 (by omega))))
theorem NA (n:Nat) (F:Nat→db) (hn:n<9223372036854775808):Pure Tryz.prog aZ 14 [mT n F,.fn (.func 15) [] [.bJ 1 (aQ [.fn (.func 13) [] []])]] (.bool (anyI (fun i => !ew (F i).sp) n)):=by
 refine ar (own:=bq) Tryz.func14 (by kernel_rfl) mixed (by kernel_rfl)
  (.sc true 44 [.aH 83 n fun i j=>aQ (db.cells (F i)) j,AV.fn (Fn.func (15:FuncId)) [] [AV.bJ 1 (aQ [AV.fn (Fn.func (13:FuncId)) [] []])]] (Zi (aG (fun i => !ew (db.sp (F i))) n 0)) (.out (.bool (decide (aG (fun i => !ew (F i).3) n 0≥0))) [] (.bool (anyI (fun i => !ew (db.sp (F i))) n)) []))
  (by kernel_rfl) ?_
 refine aM ((M8 n F hn)) ?_
 exact aq (ay.refl _)
theorem Na (n:Nat) (F:Nat→cH) (hn:n<9223372036854775808):Pure Tryz.prog aZ 45 [nm n F,.fn (.func 17) [] [.bJ 1 (aQ [.fn (.func 13) [] []])]] (.int .i64 (aG (fun i => !(ew (F i).s&&ew (F i).t)) n 0)):=by
 have c1:=fun i=>KO (F i)
 refine ar (own:=bq) Tryz.func45 (by kernel_rfl) mixed (by kernel_rfl)
  (let y1:=(fun (x:{ x:Nat // x≤n∧(fun (i:Nat)=>aG (fun (i:Nat) => !(ew (cH.s (F i))&&ew (cH.t (F i)))) n 0=aG (fun (i:Nat) => !(ew (cH.s (F i))&&ew (cH.t (F i)))) (n - i) i) x })=>n - x.1);let y2:AV:=(Zi (aG (fun (i:Nat) => !(ew (cH.s (F i))&&ew (cH.t (F i)))) n 0));let y3:List AV:=[AV.fn (Fn.func (13:FuncId)) [] []];let y0:=(fun (x:{ x:Nat // x≤n∧(fun (i:Nat)=>aG (fun (i:Nat) => !(ew (cH.s (F i))&&ew (cH.t (F i)))) n 0=aG (fun (i:Nat) => !(ew (cH.s (F i))&&ew (cH.t (F i)))) (n - i) i) x })=>aY [0,1,7,8] [AV.aH 161 n fun (i j:Nat)=>aQ (cH.cells (F i)) j,AV.fn (Fn.func (17:FuncId)) [] [AV.bJ 1 (aQ y3)],Zi (↑n:Int),Zi (↑(x.1):Int)] []);(.loop ({ x:Nat // x≤n∧(fun (i:Nat)=>aG (fun (i:Nat) => !(ew (cH.s (F i))&&ew (cH.t (F i)))) n 0=aG (fun (i:Nat) => !(ew (cH.s (F i))&&ew (cH.t (F i)))) (n - i) i) x }) y0 y1 (⟨0,⟨Nat.zero_le n,rfl⟩⟩) ([0,1,7,8]) ([]) ([AV.aH 161 n fun (i j:Nat)=>aQ (cH.cells (F i)) j,AV.fn (Fn.func (17:FuncId)) [] [AV.bJ 1 (aQ y3)],Zi (↑n:Int),Zi 0]) ([]) (fun x0=>(.br (decide ((↑x0.1:Int)<(↑n:Int))) (.bj ((0:Int)≤(↑x0.1:Int)∧(↑x0.1:Int)<(↑n:Int)) (.sc (true) 17 ([AV.agg (cH.cells (F (toNat (↑(x0.1):Int)))),AV.bJ 1 (aQ y3)]) (AV.bool !(ew (cH.s (F (toNat (↑(x0.1):Int))))&&ew (cH.t (F (toNat (↑(x0.1):Int)))))) (.br (!(ew (F (toNat (↑(x0.1):Int))).1&&ew (F (toNat (↑(x0.1):Int))).2)) (.out (Zi (↑x0.1:Int)) [] y2 []) (.again (bh 0 y0 y1 x0) ([0,1,7,8]) ([]) ([AV.aH 161 n fun (i j:Nat)=>aQ (cH.cells (F i)) j,AV.fn (Fn.func (17:FuncId)) [] [AV.bJ 1 (aQ y3)],Zi (↑n:Int),Zi (wrap .i64 ((↑x0.1:Int)+1))]) ([]))))) (.out (Zi (-1)) [] y2 [])))))
  (by kernel_rfl) ?_
 refine aV (fun _ hs=>hs.le (⟨.refl _,.refl _,.refl _,.refl _,trivial⟩) (trivial)) (fun x0=>?_)
 try (have q0:=x0.2;dsimp only at q0)
 refine aL (fun h1=>?_) (fun h1=>?_)
 ·have g1:=af h1
  refine aD (by omega) ?_
  refine aM (c1 (toNat (↑(x0.1):Int))) ?_
  refine aL (fun h4=>?_) (fun h4=>?_)
  ·have g4:=(aC (ao aF aF)) h4
   try simp only [Int.toNat_natCast] at g4
   exact aq (ay.of_eq (congrArg _ (cr x0.2.2 (by omega) (by simpa using h4))))
  ·have g4:=(az (ah aB aB)) h4
   try simp only [Int.toNat_natCast] at g4
   exact aN (⟨x0.1+1,by omega,bS x0.2.2 (by omega) (by simpa using h4)⟩) (fun _ hs=>hs.le (⟨.refl _,.refl _,.refl _,aK (by omega),trivial⟩) (trivial)) (by dsimp only;omega)
 ·have g1:=aa h1
  exact aq (ay.of_eq (congrArg _ (bW x0.2.2 (by omega))))
theorem Ns (n:Nat) (F:Nat→cH) (hn:n<9223372036854775808):Pure Tryz.prog aZ 16 [nm n F,.fn (.func 17) [] [.bJ 1 (aQ [.fn (.func 13) [] []])]] (.bool (anyI (fun i => !(ew (F i).s&&ew (F i).t)) n)):=by
 refine ar (own:=bq) Tryz.func16 (by kernel_rfl) mixed (by kernel_rfl)
  (.sc true 45 [.aH 161 n fun i j=>aQ (cH.cells (F i)) j,AV.fn (Fn.func (17:FuncId)) [] [AV.bJ 1 (aQ [AV.fn (Fn.func (13:FuncId)) [] []])]] (Zi (aG (fun i => !(ew (cH.s (F i))&&ew (cH.t (F i)))) n 0)) (.out (.bool (decide (aG (fun i => !(ew (F i).1&&ew (F i).2)) n 0≥0))) [] (.bool (anyI (fun i => !(ew (cH.s (F i))&&ew (cH.t (F i)))) n)) []))
  (by kernel_rfl) ?_
 refine aM ((Na n F hn)) ?_
 exact aq (ay.refl _)
theorem LH (n:Nat) (F:Nat→cU) (hn:n<9223372036854775808):Pure Tryz.prog aZ 46 [wk n F,.fn (.func 19) [] []] (.int .i64 (aG (fun i => !rk (F i)) n 0)):=by
 have c1:=fun i=>JT (F i)
 refine ar (own:=bq) Tryz.func46 (by kernel_rfl) mixed (by kernel_rfl)
  (let y0:=(fun (x:{ x:Nat // x≤n∧(fun i=>aG (fun i => !rk (F i)) n 0=aG (fun i => !rk (F i)) (n - i) i) x })=>aY [0,1,7,8] [.aH 7 n fun i j=>aQ (cU.cells (F i)) j,AV.fn (Fn.func (19:FuncId)) [] [],Zi n,Zi x.1] []);let y1:=(fun (x:{ x:Nat // x≤n∧(fun i=>aG (fun i => !rk (F i)) n 0=aG (fun i => !rk (F i)) (n - i) i) x })=>n - x.1);let y2:AV:=(Zi (aG (fun i => !rk (F i)) n 0));(.loop ({ x:Nat // x≤n∧(fun i=>aG (fun i => !rk (F i)) n 0=aG (fun i => !rk (F i)) (n - i) i) x }) y0 y1 (⟨0,⟨Nat.zero_le n,rfl⟩⟩) [0,1,7,8] [] [.aH 7 n fun i j=>aQ (cU.cells (F i)) j,AV.fn (Fn.func (19:FuncId)) [] [],Zi n,Zi 0] [] (fun x0=>(.br (decide ((x0.1:Int)<(n:Int))) (.bj (0≤(x0.1:Int)∧(x0.1:Int)<(n:Int)) (.sc true 19 [.agg (cU.cells (F (toNat (↑(x0.1):Int))))] (.bool !rk (F (toNat (↑(x0.1):Int)))) (.br (!rk (F (toNat (x0.1:Int)))) (.out (Zi x0.1) [] y2 []) (.again (bh 0 y0 y1 x0) [0,1,7,8] [] [.aH 7 n fun i j=>aQ (cU.cells (F i)) j,AV.fn (Fn.func (19:FuncId)) [] [],Zi n,Zi (wrap .i64 ((x0.1:Int)+1))] [])))) (.out (Zi (-1)) [] y2 [])))))
  (by kernel_rfl) ?_
 refine aV (fun _ hs=>hs.le (⟨.refl _,.refl _,.refl _,.refl _,trivial⟩) (trivial)) (fun x0=>?_)
 try (have q0:=x0.2;dsimp only at q0)
 refine aL (fun h1=>?_) (fun h1=>?_)
 ·have g1:=af h1
  refine aD (by omega) ?_
  refine aM (c1 (toNat (↑(x0.1):Int))) ?_
  refine aL (fun h4=>?_) (fun h4=>?_)
  ·have g4:=(aC aF) h4
   try simp only [Int.toNat_natCast] at g4
   exact aq (ay.of_eq (congrArg _ (cr x0.2.2 (by omega) (by simpa using h4))))
  ·have g4:=(az aB) h4
   try simp only [Int.toNat_natCast] at g4
   exact aN (⟨x0.1+1,by omega,bS x0.2.2 (by omega) (by simpa using h4)⟩) (fun _ hs=>hs.le (⟨.refl _,.refl _,.refl _,aK (by omega),trivial⟩) (trivial)) (by dsimp only;omega)
 ·have g1:=aa h1
  exact aq (ay.of_eq (congrArg _ (bW x0.2.2 (by omega))))
theorem Mr (n:Nat) (F:Nat→cU) (hn:n<9223372036854775808):Pure Tryz.prog aZ 18 [wk n F,.fn (.func 19) [] []] (.bool (anyI (fun i => !rk (F i)) n)):=by
 refine ar (own:=bq) Tryz.func18 (by kernel_rfl) mixed (by kernel_rfl)
  (.sc true 46 [.aH 7 n fun i j=>aQ (cU.cells (F i)) j,AV.fn (Fn.func (19:FuncId)) [] []] (Zi (aG (fun i => !rk (F i)) n 0)) (.out (.bool (decide (aG (fun i => !rk (F i)) n 0≥0))) [] (.bool (anyI (fun i => !rk (F i)) n)) []))
  (by kernel_rfl) ?_
 refine aM ((LH n F hn)) ?_
 exact aq (ay.refl _)
theorem Fg (k:aS) (hu:k.nu<9223372036854775808) (hg:k.ng<9223372036854775808) (hc:k.nc<9223372036854775808):Pure Tryz.prog aZ 5 [.agg k.cells] (.bool (wi k)):=by
 have c1:=NA k.nu k.U hu
 have c2:=Ns k.ng k.G hg
 have c3:=Mr k.nc k.C hc
 refine ar (own:=bq) Tryz.func5 (by kernel_rfl) mixed (by kernel_rfl)
  (let y0:List AV:=[AV.bJ 1 fun k=>aQ [AV.fn (Fn.func 13) [] []] k];(.br (decide ((k.4:Int)>40)||decide ((k.6:Int)>40)||decide ((k.8:Int)>12)||decide ((k.16:Int)>12)||decide ((k.18:Int)>12)||decide ((k.12:Int)>200)||decide ((k.10:Int)>200)||decide ((k.14:Int)>100)) (.out (.bool false) [] (.bool (wi k)) []) (.sc true 14 [.aH 83 k.14 fun i j=>aQ (db.cells (aS.U k i)) j,AV.fn (Fn.func 15) [] y0] (.bool (anyI (fun i => !ew (db.sp (aS.U k i))) (aS.nu k))) (.sc (anyI (fun i => !ew (aS.U k i).3) k.14==false) 16 [.aH 161 k.18 fun i j=>aQ (cH.cells (aS.G k i)) j,AV.fn (Fn.func 17) [] y0] (.bool (anyI (fun i => !(ew (cH.s (aS.G k i))&&ew (cH.t (aS.G k i)))) (aS.ng k))) (.br (anyI (fun i => !ew (aS.U k i).3) k.14||anyI (fun i => !(ew (aS.G k i).1&&ew (aS.G k i).2)) k.18) (.out (.bool false) [] (.bool (wi k)) []) (.sc true 18 [.aH 7 k.8 fun i j=>aQ (cU.cells (aS.C k i)) j,AV.fn (Fn.func 19) [] []] (.bool (anyI (fun i => !rk (aS.C k i)) (aS.nc k))) (.out (.bool !anyI (fun i => !rk (k.9 i)) k.8) [] (.bool (wi k)) [])))))))
  (by kernel_rfl) ?_
 refine aL (fun h0=>?_) (fun h0=>?_)
 ·have g0:=(aA (aA (aA (aA (aA (aA (aA af af) af) af) af) af) af) af) h0
  exact aq (ay.of_eq (congrArg AV.bool (Oy g0).symm))
 ·have g0:=(aw (aw (aw (aw (aw (aw (aw aa aa) aa) aa) aa) aa) aa) aa) h0
  refine aM (c1) ?_
  refine aW (fun h3=>c2) ?_
  refine aL (fun h4=>?_) (fun h4=>?_)
  ·have g4:=(aA aB aB) h4
   exact aq (ay.of_eq (congrArg AV.bool (On g4).symm))
  ·have g4:=(aw aF aF) h4
   refine aM (c3) ?_
   exact aq (ay.of_eq (congrArg AV.bool (OO g0 g4)))
theorem Cv (i:Int) (n:Nat) (f:Nat→Nat→Int) (hn:n≤100000):Pure Tryz.prog aZ 216 [.agg [.int .i64 i,zD n f],.agg [.int .i64 i,zD n f]] (.bool true):=by
 refine ar (own:=bq) Tryz.func216 (by kernel_rfl) mixed (by kernel_rfl)
  (.br (i != i||(n:Int) != (n:Int)) (.out (.bool false) [] (.bool true) []) (.loop (Sp.Sub fun x=>x≤n) (fun (x:Sp.Sub fun x=>x≤n)=>aY [2,3,5] [.own 0 2 0 0 2,.own 1 2 0 0 2,Zi x.1] [some ⟨2,1,true,.bc [[Zi i,zD n f]]⟩,some ⟨2,1,true,.bc [[Zi i,zD n f]]⟩]) (fun (x:Sp.Sub fun x=>x≤n)=>n - x.1) (⟨0,Nat.zero_le n⟩) [2,3,5] [0,8] [.own 0 2 0 0 2,.own 1 2 0 0 2,Zi 0] [some ⟨2,1,true,.bc [[Zi i,.aH 32 n fun i j=>Zb (f i j)]]⟩,some ⟨2,1,true,.bc [[Zi i,.aH 32 n fun i j=>Zb (f i j)]]⟩] (fun x2=>(.br (decide ((x2.1:Int)<(n:Int))) (.bj (0≤(x2.1:Int)∧(x2.1:Int)<(n:Int)) (.bj (0≤(x2.1:Int)∧(x2.1:Int)<(n:Int)) (.br (!(f (toNat (x2.1:Int)) 0==f (toNat (x2.1:Int)) 0&&(f (toNat (x2.1:Int)) 1==f (toNat (x2.1:Int)) 1&&(f (toNat (x2.1:Int)) 2==f (toNat (x2.1:Int)) 2&&(f (toNat (x2.1:Int)) 3==f (toNat (x2.1:Int)) 3&&(f (toNat (x2.1:Int)) 4==f (toNat (x2.1:Int)) 4&&(f (toNat (x2.1:Int)) 5==f (toNat (x2.1:Int)) 5&&(f (toNat (x2.1:Int)) 6==f (toNat (x2.1:Int)) 6&&(f (toNat (x2.1:Int)) 7==f (toNat (x2.1:Int)) 7&&(f (toNat (x2.1:Int)) 8==f (toNat (x2.1:Int)) 8&&(f (toNat (x2.1:Int)) 9==f (toNat (x2.1:Int)) 9&&(f (toNat (x2.1:Int)) 10==f (toNat (x2.1:Int)) 10&&(f (toNat (x2.1:Int)) 11==f (toNat (x2.1:Int)) 11&&(f (toNat (x2.1:Int)) 12==f (toNat (x2.1:Int)) 12&&(f (toNat (x2.1:Int)) 13==f (toNat (x2.1:Int)) 13&&(f (toNat (x2.1:Int)) 14==f (toNat (x2.1:Int)) 14&&(f (toNat (x2.1:Int)) 15==f (toNat (x2.1:Int)) 15&&(f (toNat (x2.1:Int)) 16==f (toNat (x2.1:Int)) 16&&(f (toNat (x2.1:Int)) 17==f (toNat (x2.1:Int)) 17&&(f (toNat (x2.1:Int)) 18==f (toNat (x2.1:Int)) 18&&(f (toNat (x2.1:Int)) 19==f (toNat (x2.1:Int)) 19&&(f (toNat (x2.1:Int)) 20==f (toNat (x2.1:Int)) 20&&(f (toNat (x2.1:Int)) 21==f (toNat (x2.1:Int)) 21&&(f (toNat (x2.1:Int)) 22==f (toNat (x2.1:Int)) 22&&(f (toNat (x2.1:Int)) 23==f (toNat (x2.1:Int)) 23&&(f (toNat (x2.1:Int)) 24==f (toNat (x2.1:Int)) 24&&(f (toNat (x2.1:Int)) 25==f (toNat (x2.1:Int)) 25&&(f (toNat (x2.1:Int)) 26==f (toNat (x2.1:Int)) 26&&(f (toNat (x2.1:Int)) 27==f (toNat (x2.1:Int)) 27&&(f (toNat (x2.1:Int)) 28==f (toNat (x2.1:Int)) 28&&(f (toNat (x2.1:Int)) 29==f (toNat (x2.1:Int)) 29&&(f (toNat (x2.1:Int)) 30==f (toNat (x2.1:Int)) 30&&(f (toNat (x2.1:Int)) 31==f (toNat (x2.1:Int)) 31&&true))))))))))))))))))))))))))))))))) (.out (.bool false) [] (.bool true) []) (.again (bh 0 (fun (x:Sp.Sub fun x=>x≤n)=>aY [2,3,5] [.own 0 2 0 0 2,.own 1 2 0 0 2,Zi x.1] [some ⟨2,1,true,.bc [[Zi i,zD n f]]⟩,some ⟨2,1,true,.bc [[Zi i,zD n f]]⟩]) (fun (x:Sp.Sub fun x=>x≤n)=>n - x.1) x2) [2,3,5] [0,1] [.own 0 2 0 0 2,.own 1 2 0 0 2,Zi (wrap .i64 ((x2.1:Int)+1))] [some ⟨2,1,true,.bc [[Zi i,.aH 32 n fun i j=>Zb (f i j)]]⟩,some ⟨2,1,true,.bc [[Zi i,.aH 32 n fun i j=>Zb (f i j)]]⟩])))) (.out (.bool true) [] (.bool true) [])))))
  (by kernel_rfl) ?_
 refine aL (fun h0=>?_) (fun h0=>?_)
 ·have g0:=(aA aU aU) h0
  exact aq (ay.of_eq (by simp_all))
 ·have g0:=(aw aR aR) h0
  refine aV (fun _ hs=>hs.le (⟨.refl _,.refl _,.refl _,trivial⟩) (⟨.refl _,.refl _,trivial⟩)) (fun x2=>?_)
  try (have q2:=x2.2;dsimp only at q2)
  refine aL (fun h3=>?_) (fun h3=>?_)
  ·have g3:=af h3
   refine aD (by omega) ?_
   refine aD (by omega) ?_
   refine aL (fun h6=>?_) (fun h6=>?_)
   ·have g6:=(aC (ao aj (ao aj (ao aj (ao aj (ao aj (ao aj (ao aj (ao aj (ao aj (ao aj (ao aj (ao aj (ao aj (ao aj (ao aj (ao aj (ao aj (ao aj (ao aj (ao aj (ao aj (ao aj (ao aj (ao aj (ao aj (ao aj (ao aj (ao aj (ao aj (ao aj (ao aj (ao aj aF))))))))))))))))))))))))))))))))) h6
    try simp only [Int.toNat_natCast] at g6
    exact aq (ay.of_eq (by simp_all))
   ·have g6:=(az (ah ai (ah ai (ah ai (ah ai (ah ai (ah ai (ah ai (ah ai (ah ai (ah ai (ah ai (ah ai (ah ai (ah ai (ah ai (ah ai (ah ai (ah ai (ah ai (ah ai (ah ai (ah ai (ah ai (ah ai (ah ai (ah ai (ah ai (ah ai (ah ai (ah ai (ah ai (ah ai aB))))))))))))))))))))))))))))))))) h6
    try simp only [Int.toNat_natCast] at g6
    exact aN (⟨x2.1+1,by omega⟩) (fun _ hs=>hs.le (⟨.refl _,.refl _,aK (by omega),trivial⟩) (⟨.refl _,.refl _,trivial⟩)) (by dsimp only;omega)
  ·have g3:=aa h3
   exact aq (ay.of_eq rfl)
theorem pe (s:au) (hl:s.nl≤1000) (hp:s.np≤1000):Pure Tryz.prog aZ 140 [s.av,s.av] (.bool true):=by
 refine ar (own:=bq) Tryz.func140 (by kernel_rfl) mixed (by kernel_rfl)
  (let y0:List (Option Ob):=[some ⟨80,1,true,.bc [au.cells s]⟩,some ⟨80,1,true,.bc [au.cells s]⟩];let y1:List AV:=[Zi s.18,.aH 32 s.19 fun i j=>Zb (s.20 i j)];(.sc ((!(s.1==s.1&&(s.2==s.2&&(s.3==s.3&&(s.4==s.4&&(s.5==s.5&&(s.6 0==s.6 0&&(s.6 1==s.6 1&&(s.6 2==s.6 2&&(s.6 3==s.6 3&&(s.6 4==s.6 4&&(s.6 5==s.6 5&&(s.6 6==s.6 6&&(s.6 7==s.6 7&&(s.6 8==s.6 8&&(s.6 9==s.6 9&&(s.6 10==s.6 10&&(s.6 11==s.6 11&&(s.6 12==s.6 12&&(s.6 13==s.6 13&&(s.6 14==s.6 14&&(s.6 15==s.6 15&&(s.6 16==s.6 16&&(s.6 17==s.6 17&&(s.6 18==s.6 18&&(s.6 19==s.6 19&&(s.6 20==s.6 20&&(s.6 21==s.6 21&&(s.6 22==s.6 22&&(s.6 23==s.6 23&&(s.6 24==s.6 24&&(s.6 25==s.6 25&&(s.6 26==s.6 26&&(s.6 27==s.6 27&&(s.6 28==s.6 28&&(s.6 29==s.6 29&&(s.6 30==s.6 30&&(s.6 31==s.6 31&&true)))))))))))))))))))))))))))))))&&(s.7==s.7&&(s.8==s.8&&(s.9==s.9&&(s.10==s.10&&true)))&&true))))))) || !(s.11==s.11&&(s.12==s.12&&true)) || !(s.13 0==s.13 0&&(s.13 1==s.13 1&&(s.13 2==s.13 2&&(s.13 3==s.13 3&&(s.13 4==s.13 4&&(s.13 5==s.13 5&&(s.13 6==s.13 6&&(s.13 7==s.13 7&&(s.13 8==s.13 8&&(s.13 9==s.13 9&&(s.13 10==s.13 10&&(s.13 11==s.13 11&&(s.13 12==s.13 12&&(s.13 13==s.13 13&&(s.13 14==s.13 14&&(s.13 15==s.13 15&&(s.13 16==s.13 16&&(s.13 17==s.13 17&&(s.13 18==s.13 18&&(s.13 19==s.13 19&&(s.13 20==s.13 20&&(s.13 21==s.13 21&&(s.13 22==s.13 22&&(s.13 23==s.13 23&&(s.13 24==s.13 24&&(s.13 25==s.13 25&&(s.13 26==s.13 26&&(s.13 27==s.13 27&&(s.13 28==s.13 28&&(s.13 29==s.13 29&&(s.13 30==s.13 30&&(s.13 31==s.13 31&&true)))))))))))))))))))))))))))))))&&(s.14==s.14&&(s.15==s.15&&true)))||(s.16:Int) != (s.16:Int))==false) 216 [.agg y1,.agg y1] (.bool true) (.br (!(s.1==s.1&&(s.2==s.2&&(s.3==s.3&&(s.4==s.4&&(s.5==s.5&&(s.6 0==s.6 0&&(s.6 1==s.6 1&&(s.6 2==s.6 2&&(s.6 3==s.6 3&&(s.6 4==s.6 4&&(s.6 5==s.6 5&&(s.6 6==s.6 6&&(s.6 7==s.6 7&&(s.6 8==s.6 8&&(s.6 9==s.6 9&&(s.6 10==s.6 10&&(s.6 11==s.6 11&&(s.6 12==s.6 12&&(s.6 13==s.6 13&&(s.6 14==s.6 14&&(s.6 15==s.6 15&&(s.6 16==s.6 16&&(s.6 17==s.6 17&&(s.6 18==s.6 18&&(s.6 19==s.6 19&&(s.6 20==s.6 20&&(s.6 21==s.6 21&&(s.6 22==s.6 22&&(s.6 23==s.6 23&&(s.6 24==s.6 24&&(s.6 25==s.6 25&&(s.6 26==s.6 26&&(s.6 27==s.6 27&&(s.6 28==s.6 28&&(s.6 29==s.6 29&&(s.6 30==s.6 30&&(s.6 31==s.6 31&&true)))))))))))))))))))))))))))))))&&(s.7==s.7&&(s.8==s.8&&(s.9==s.9&&(s.10==s.10&&true)))&&true))))))) || !(s.11==s.11&&(s.12==s.12&&true)) || !(s.13 0==s.13 0&&(s.13 1==s.13 1&&(s.13 2==s.13 2&&(s.13 3==s.13 3&&(s.13 4==s.13 4&&(s.13 5==s.13 5&&(s.13 6==s.13 6&&(s.13 7==s.13 7&&(s.13 8==s.13 8&&(s.13 9==s.13 9&&(s.13 10==s.13 10&&(s.13 11==s.13 11&&(s.13 12==s.13 12&&(s.13 13==s.13 13&&(s.13 14==s.13 14&&(s.13 15==s.13 15&&(s.13 16==s.13 16&&(s.13 17==s.13 17&&(s.13 18==s.13 18&&(s.13 19==s.13 19&&(s.13 20==s.13 20&&(s.13 21==s.13 21&&(s.13 22==s.13 22&&(s.13 23==s.13 23&&(s.13 24==s.13 24&&(s.13 25==s.13 25&&(s.13 26==s.13 26&&(s.13 27==s.13 27&&(s.13 28==s.13 28&&(s.13 29==s.13 29&&(s.13 30==s.13 30&&(s.13 31==s.13 31&&true)))))))))))))))))))))))))))))))&&(s.14==s.14&&(s.15==s.15&&true)))||(s.16:Int) != (s.16:Int)||false) (.out (.bool false) [] (.bool true) []) (.loop (Sp.Sub fun x=>x≤au.nl s) (fun (x:Sp.Sub fun x=>x≤au.nl s)=>aY [2,3,5] [.own 0 80 0 0 80,.own 1 80 0 0 80,Zi x.1] y0) (fun (x:Sp.Sub fun x=>x≤au.nl s)=>au.nl s - x.1) (⟨0,Nat.zero_le (au.nl s)⟩) [2,3,5] [0,8] [.own 0 80 0 0 80,.own 1 80 0 0 80,Zi 0] (y0) (fun x3=>(.br (decide ((x3.1:Int)<(s.16:Int))) (.bj (0≤(x3.1:Int)∧(x3.1:Int)<(s.16:Int)) (.bj (0≤(x3.1:Int)∧(x3.1:Int)<(s.16:Int)) (.br (!(s.17 (toNat (x3.1:Int)) 0==s.17 (toNat (x3.1:Int)) 0&&(s.17 (toNat (x3.1:Int)) 1==s.17 (toNat (x3.1:Int)) 1&&(s.17 (toNat (x3.1:Int)) 2==s.17 (toNat (x3.1:Int)) 2&&true)))) (.out (.bool false) [] (.bool true) []) (.again (bh 0 (fun (x:Sp.Sub fun x=>x≤au.nl s)=>aY [2,3,5] [.own 0 80 0 0 80,.own 1 80 0 0 80,Zi x.1] y0) (fun (x:Sp.Sub fun x=>x≤au.nl s)=>au.nl s - x.1) x3) [2,3,5] [0,1] [.own 0 80 0 0 80,.own 1 80 0 0 80,Zi (wrap .i64 ((x3.1:Int)+1))] (y0))))) (.out (.bool true) [] (.bool true) [])))))))
  (by kernel_rfl) ?_
 refine aW (fun h0=>Cv (s.18) (s.19) (s.20) (by omega)) ?_
 refine aL (fun h1=>?_) (fun h1=>?_)
 ·have g1:=(aA (aA (aA (aA (aC (ao aj (ao aj (ao aj (ao aj (ao aj (ao (ao aj (ao aj (ao aj (ao aj (ao aj (ao aj (ao aj (ao aj (ao aj (ao aj (ao aj (ao aj (ao aj (ao aj (ao aj (ao aj (ao aj (ao aj (ao aj (ao aj (ao aj (ao aj (ao aj (ao aj (ao aj (ao aj (ao aj (ao aj (ao aj (ao aj (ao aj (ao aj aF)))))))))))))))))))))))))))))))) (ao (ao aj (ao aj (ao aj (ao aj aF)))) aF)))))))) (aC (ao aj (ao aj aF)))) (aC (ao (ao aj (ao aj (ao aj (ao aj (ao aj (ao aj (ao aj (ao aj (ao aj (ao aj (ao aj (ao aj (ao aj (ao aj (ao aj (ao aj (ao aj (ao aj (ao aj (ao aj (ao aj (ao aj (ao aj (ao aj (ao aj (ao aj (ao aj (ao aj (ao aj (ao aj (ao aj (ao aj aF)))))))))))))))))))))))))))))))) (ao aj (ao aj aF))))) aU) aB) h1
  exact aq (ay.of_eq (by simp_all))
 ·have g1:=(aw (aw (aw (aw (az (ah ai (ah ai (ah ai (ah ai (ah ai (ah (ah ai (ah ai (ah ai (ah ai (ah ai (ah ai (ah ai (ah ai (ah ai (ah ai (ah ai (ah ai (ah ai (ah ai (ah ai (ah ai (ah ai (ah ai (ah ai (ah ai (ah ai (ah ai (ah ai (ah ai (ah ai (ah ai (ah ai (ah ai (ah ai (ah ai (ah ai (ah ai aB)))))))))))))))))))))))))))))))) (ah (ah ai (ah ai (ah ai (ah ai aB)))) aB)))))))) (az (ah ai (ah ai aB)))) (az (ah (ah ai (ah ai (ah ai (ah ai (ah ai (ah ai (ah ai (ah ai (ah ai (ah ai (ah ai (ah ai (ah ai (ah ai (ah ai (ah ai (ah ai (ah ai (ah ai (ah ai (ah ai (ah ai (ah ai (ah ai (ah ai (ah ai (ah ai (ah ai (ah ai (ah ai (ah ai (ah ai aB)))))))))))))))))))))))))))))))) (ah ai (ah ai aB))))) aR) aF) h1
  refine aV (fun _ hs=>hs.le (⟨.refl _,.refl _,.refl _,trivial⟩) (⟨.refl _,.refl _,trivial⟩)) (fun x3=>?_)
  try (have q3:=x3.2;dsimp only at q3)
  refine aL (fun h4=>?_) (fun h4=>?_)
  ·have g4:=af h4
   refine aD (by omega) ?_
   refine aD (by omega) ?_
   refine aL (fun h7=>?_) (fun h7=>?_)
   ·have g7:=(aC (ao aj (ao aj (ao aj aF)))) h7
    try simp only [Int.toNat_natCast] at g7
    exact aq (ay.of_eq (by simp_all))
   ·have g7:=(az (ah ai (ah ai (ah ai aB)))) h7
    try simp only [Int.toNat_natCast] at g7
    exact aN (⟨x3.1+1,by omega⟩) (fun _ hs=>hs.le (⟨.refl _,.refl _,aK (by omega),trivial⟩) (⟨.refl _,.refl _,trivial⟩)) (by dsimp only;omega)
  ·have g4:=aa h4
   exact aq (ay.of_eq rfl)
theorem Cj (s t:au) (l:Int) (h1:s.nl≤1000) (h2:s.np≤1000) (h3:t.nl≤1000) (h4:t.np≤1000):Pure Tryz.prog aZ 79 [.agg (s.cells++(t.cells++[.int .i64 l])),.agg (s.cells++(t.cells++[.int .i64 l]))] (.bool true):=by
 have c1:=pe s h1 h2
 have c2:=pe t h3 h4
 refine ar (own:=bq) Tryz.func79 (by kernel_rfl) mixed (by kernel_rfl)
  (.sc true 140 [.agg (au.cells s),.agg (au.cells s)] (.bool true) (.sc true 140 [.agg (au.cells t),.agg (au.cells t)] (.bool true) (.out (.bool (l==l)) [] (.bool true) [])))
  (by kernel_rfl) ?_
 refine aM (c1) ?_
 refine aM (c2) ?_
 exact aq (ay.of_eq (by simp_all))
end Go.Proofs.YtpefjkpdniiaoaaGreatDoor
