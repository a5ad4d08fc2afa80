/- Part of the proof: CX17, CX18, Led2, CX19, CV17, Bnk6, CX25, CX26, CX27, Bnk7, CX28, Bnk8, CX29, CX30, Bnk9, CX31, Bnk10, CX32, CXS, CX33, Bnk11, SpOpen, SpOpenP, Args, Args3, ArgsB, CX34, CX35, EnGlob. -/
import Derived.Test.YtpefjkpdniiaoaaGreatDoorM7
import Derived.Test.YtpefjkpdniiaoaaGreatDoorProg
import Derived.Test.YtpefjkpdniiaoaaGreatDoorM3
import Derived.Test.YtpefjkpdniiaoaaGreatDoorM5
import Derived.Test.YtpefjkpdniiaoaaGreatDoorM2
import Derived.Test.YtpefjkpdniiaoaaGreatDoorM4
import Derived.DataShut
import Derived.OpenShut
import Derived.FnData
import Derived.MakeChecks
namespace Go.Proofs.YtpefjkpdniiaoaaGreatDoor
open Go.IntKind (wrap)
open Int (toNat)
open Go Go.Am Go.Sp
set_option maxRecDepth 100000
theorem GJ (a b c d:Int):Pure Tryz.prog aZ 119 [.int .i64 a,.int .i64 b,.int .i64 c,.int .i64 d] (.bool (decide (a<c)||(a==c&&decide (b<d)))):=by
 refine ar (own:=bq) Tryz.func119 (by kernel_rfl) mixed (by kernel_rfl)
  (let y0:AV:=(.bool (decide (a<c)||a==c&&decide (b<d)));(.out y0 [] y0 []))
  (by kernel_rfl) ?_
 exact aq (ay.of_eq rfl)
theorem Hc (s:au) (hn:s.nl<9223372036854775808) (hp:s.np<9223372036854775808):Pure Tryz.prog aZ 118 [s.av] (.bool (gC s)):=by
 refine ar (own:=bq) Tryz.func118 (by kernel_rfl) mixed (by kernel_rfl)
  (let y0:List (Option Ob):=[some ⟨80,1,true,.bc [au.cells s]⟩];(.br (decide ((s.16:Int)<1)||decide ((s.16:Int)>32)||decide ((s.19:Int)>20)) (.out (.bool false) [] (.bool (gC s)) []) (.loop ({ x:Nat // x≤au.nl s∧(fun (i:Nat)=>∀ (j:Nat),j<i→nF s j=true) x }) (fun x=>aY [1,3] [.own 0 80 0 0 80,Zi x.1] y0) (fun x=>au.nl s - x.1) (⟨0,⟨Nat.zero_le (au.nl s),fun (j:Nat) (hj:j<0)=>absurd hj (Nat.not_lt_zero j)⟩⟩) [1,3] [0] [.own 0 80 0 0 80,Zi 0] (y0) (fun x2=>(.br (decide ((x2.1:Int)<(s.16:Int))) (.loop ({ x:Nat // x≤x2.1∧(fun (k:Nat)=>∀ (j:Nat),j<k→au.lf s j 0≠au.lf s (x2.1) 0) x }) (fun x=>aY [1,3,4] [.own 0 80 0 0 80,Zi x2.1,Zi x.1] y0) (fun x=>x2.1 - x.1) (⟨0,⟨Nat.zero_le (x2.1),fun (j:Nat) (hj:j<0)=>absurd hj (Nat.not_lt_zero j)⟩⟩) [1,3,4] [0] [.own 0 80 0 0 80,Zi x2.1,Zi 0] (y0) (fun x4=>(.br (decide ((x4.1:Int)<(x2.1:Int))) (.bj (0≤(x2.1:Int)∧(x2.1:Int)<(s.16:Int)) (.bj (0≤(x4.1:Int)∧(x4.1:Int)<(s.16:Int)) (.br (s.17 (toNat (x2.1:Int)) 0==s.17 (toNat (x4.1:Int)) 0) (.out (.bool false) [] (.bool (gC s)) []) (.again (bh 0 (fun x=>aY [1,3,4] [.own 0 80 0 0 80,Zi x2.1,Zi x.1] y0) (fun x=>x2.1 - x.1) x4) [1,3,4] [0] [.own 0 80 0 0 80,Zi x2.1,Zi (wrap .i64 ((x4.1:Int)+1))] (y0))))) (.again (bh 0 (fun x=>aY [1,3] [.own 0 80 0 0 80,Zi x.1] y0) (fun x=>au.nl s - x.1) x2) [1,3] [0] [.own 0 80 0 0 80,Zi (wrap .i64 ((x2.1:Int)+1))] (y0))))) (.out (.bool true) [] (.bool (gC s)) []))))))
  (by kernel_rfl) ?_
 refine aL (fun h0=>?_) (fun h0=>?_)
 ·have g0:=(aA (aA af af) af) h0
  exact aq (ay.of_eq (congrArg AV.bool (yA g0).symm))
 ·have g0:=(aw (aw aa aa) aa) h0
  refine aV (fun _ hs=>hs.le (⟨.refl _,.refl _,trivial⟩) (⟨.refl _,trivial⟩)) (fun x2=>?_)
  try (have q2:=x2.2;dsimp only at q2)
  refine aL (fun h3=>?_) (fun h3=>?_)
  ·have g3:=af h3
   refine aV (fun _ hs=>hs.le (⟨.refl _,.refl _,.refl _,trivial⟩) (⟨.refl _,trivial⟩)) (fun x4=>?_)
   try (have q4:=x4.2;dsimp only at q4)
   refine aL (fun h5=>?_) (fun h5=>?_)
   ·have g5:=af h5
    refine aD (by omega) ?_
    refine aD (by omega) ?_
    refine aL (fun h8=>?_) (fun h8=>?_)
    ·have g8:=ai h8
     try simp only [Int.toNat_natCast] at g8
     exact aq (ay.of_eq (congrArg AV.bool (xN (i:=x2.1) (by omega) (Ku (k:=x4.1) (by omega) g8.symm)).symm))
    ·have g8:=aj h8
     try simp only [Int.toNat_natCast] at g8
     exact aN (⟨x4.1+1,by omega,fun j hj=>by rcases Nat.lt_succ_iff_lt_or_eq.1 hj with hj|rfl;(· exact x4.2.2 j hj);(· exact fun e=>g8 e.symm)⟩) (fun _ hs=>hs.le (⟨.refl _,.refl _,aK (by omega),trivial⟩) (⟨.refl _,trivial⟩)) (by dsimp only;omega)
   ·have g5:=aa h5
    exact aN (⟨x2.1+1,by omega,cN x2.2.2 (ES fun k hk=>x4.2.2 k (by omega))⟩) (fun _ hs=>hs.le (⟨.refl _,aK (by omega),trivial⟩) (⟨.refl _,trivial⟩)) (by dsimp only;omega)
  ·have g3:=aa h3
   exact aq (ay.of_eq (congrArg AV.bool (Ex g0.1.1 g0.1.2 g0.2 fun i hi=>x2.2.2 i (by omega)).symm))
theorem Fu (n:Nat) (U:Nat→db) (hn:n<9223372036854775808) (hU:yu n U):Pure Tryz.prog aZ 70 [.agg [mV n U]] (.bool (ir n U)):=by
 have c1:=fun i (hi:i<n)=>Hc (U i).sp (hU.nl i hi) (hU.np i hi)
 refine ar (own:=bq) Tryz.func70 (by kernel_rfl) mixed (by kernel_rfl)
  (let y0:List (Option Ob):=[some ⟨1,1,true,.bc [[.aH 83 n fun i j=>aQ (db.cells (U i)) j]]⟩];let y1:AV:=(.bool (ir n U));(.br (decide ((n:Int)>2000)) (.out (.bool false) [] y1 []) (.loop ({ x:Nat // x≤n∧(fun (i:Nat)=>∀ (j:Nat),j<i→sS (U j)=true∧(j≠0→Aj (U (j - 1)) (U j)=true)) x }) (fun x=>aY [1,3] [.own 0 1 0 0 1,Zi x.1] y0) (fun x=>n - x.1) (⟨0,⟨Nat.zero_le n,fun (j:Nat) (hj:j<0)=>absurd hj (Nat.not_lt_zero j)⟩⟩) [1,3] [0] [.own 0 1 0 0 1,Zi 0] (y0) (fun x2=>(.br (decide ((x2.1:Int)<(n:Int))) (.bj (0≤(x2.1:Int)∧(x2.1:Int)<(n:Int)) (.sc true 118 [.agg (au.cells (db.sp (U (toNat (↑(x2.1):Int)))))] (.bool (gC (db.sp (U (toNat (↑(x2.1):Int)))))) (.bj (((!gC (U (toNat (↑(x2.1):Int))).3||decide ((U (toNat (↑(x2.1):Int))).4<0)||decide ((U (toNat (↑(x2.1):Int))).4≥(↑(db.sp (U (toNat (↑(x2.1):Int)))).16:Int))||(U (toNat (↑(x2.1):Int))).1 != (db.sp (U (toNat (↑(x2.1):Int)))).5)==false)=true→0≤(U (toNat (↑(x2.1):Int))).4∧(U (toNat (↑(x2.1):Int))).4<(↑(db.sp (U (toNat (↑(x2.1):Int)))).16:Int)) (.br (!gC (U (toNat (↑(x2.1):Int))).3||decide ((U (toNat (↑(x2.1):Int))).4<0)||decide ((U (toNat (↑(x2.1):Int))).4≥(↑(db.sp (U (toNat (↑(x2.1):Int)))).16:Int))||(U (toNat (↑(x2.1):Int))).1 != (db.sp (U (toNat (↑(x2.1):Int)))).5||(U (toNat (↑(x2.1):Int))).2 != (db.sp (U (toNat (↑(x2.1):Int)))).17 (toNat (U (toNat (↑(x2.1):Int))).4) 0) (.out (.bool false) [] y1 []) (.bj ((decide ((x2.1:Int)>0)==true)=true→(0:Int)≤wrap .i64 ((x2.1:Int) - 1)∧wrap .i64 ((x2.1:Int) - 1)<(n:Int)) (.bj ((decide ((x2.1:Int)>0)==true)=true→(0:Int)≤wrap .i64 ((x2.1:Int) - 1)∧wrap .i64 ((x2.1:Int) - 1)<(n:Int)) (.sc (decide ((x2.1:Int)>0)==true) 119 [Zi (U (toNat (wrap .i64 ((↑(x2.1):Int) - 1)))).1,Zi (U (toNat (wrap .i64 ((↑(x2.1):Int) - 1)))).2,Zi (U (toNat (↑(x2.1):Int))).1,Zi (U (toNat (↑(x2.1):Int))).2] (.bool (decide ((U (toNat (wrap .i64 ((↑(x2.1):Int) - 1)))).1<(U (toNat (↑(x2.1):Int))).1)||(U (toNat (wrap .i64 ((↑(x2.1):Int) - 1)))).1==(U (toNat (↑(x2.1):Int))).1&&decide ((U (toNat (wrap .i64 ((↑(x2.1):Int) - 1)))).2<(U (toNat (↑(x2.1):Int))).2))) (.br (decide ((x2.1:Int)>0) && !(decide ((U (toNat (wrap .i64 ((↑(x2.1):Int) - 1)))).1<(U (toNat (↑(x2.1):Int))).1)||(U (toNat (wrap .i64 ((↑(x2.1):Int) - 1)))).1==(U (toNat (↑(x2.1):Int))).1&&decide ((U (toNat (wrap .i64 ((↑(x2.1):Int) - 1)))).2<(U (toNat (↑(x2.1):Int))).2))) (.out (.bool false) [] y1 []) (.again (bh 0 (fun x=>aY [1,3] [.own 0 1 0 0 1,Zi x.1] y0) (fun x=>n - x.1) x2) [1,3] [0] [.own 0 1 0 0 1,Zi (wrap .i64 ((x2.1:Int)+1))] (y0)))))))))) (.out (.bool true) [] y1 []))))))
  (by kernel_rfl) ?_
 refine aL (fun h0=>?_) (fun h0=>?_)
 ·have g0:=af h0
  exact aq (ay.of_eq (congrArg AV.bool (xU g0).symm))
 ·have g0:=aa h0
  refine aV (fun _ hs=>hs.le (⟨.refl _,.refl _,trivial⟩) (⟨.refl _,trivial⟩)) (fun x2=>?_)
  try (have q2:=x2.2;dsimp only at q2)
  have e1:0<x2.1→IntKind.wrap .i64 ((x2.1:Int) - 1)=((x2.1 - 1:Nat):Int):=fun h=>by rw [wI (by omega) (by omega)];omega
  refine aL (fun h3=>?_) (fun h3=>?_)
  ·have g3:=af h3
   refine aD (by omega) ?_
   refine aM (c1 (toNat (↑(x2.1):Int)) (by omega)) ?_
   refine aD (fun hr=>by have hr:=(dd (aw (aw (aw (az aB) aa) aa) aR)) hr;omega) ?_
   refine aL (fun h7=>?_) (fun h7=>?_)
   ·have g7:=(aA (aA (aA (aA (aC aF) af) af) aU) aU) h7
    try simp only [Int.toNat_natCast] at g7
    exact aq (ay.of_eq (congrArg AV.bool (ox (i:=x2.1) (by omega) (.inl (Ik g7))).symm))
   ·have g7:=(aw (aw (aw (aw (az aB) aa) aa) aR) aR) h7
    try simp only [Int.toNat_natCast] at g7
    refine aD (fun hr=>by have hr:=(cQ af) hr;omega) ?_
    refine aD (fun hr=>by have hr:=(cQ af) hr;omega) ?_
    refine aW (fun h11=>GJ ((U (toNat (wrap .i64 ((↑(x2.1):Int) - (1:Int))))).1) ((U (toNat (wrap .i64 ((↑(x2.1):Int) - (1:Int))))).2) ((U (toNat (↑(x2.1):Int))).1) ((U (toNat (↑(x2.1):Int))).2)) ?_
    refine aL (fun h12=>?_) (fun h12=>?_)
    ·have g12:=(ah af (aC (aw aa (ao aj aa)))) h12
     try simp only [Int.toNat_natCast] at g12
     exact aq (ay.of_eq (congrArg AV.bool (ox (i:=x2.1) (by omega) (.inr ⟨by omega,p8 fun hl=>by obtain ⟨ga,gb⟩:=g12;rw [e1 (by omega),Int.toNat_natCast] at gb;have:=xC.1 hl;omega⟩)).symm))
    ·have g12:=(ao aa (az (aA af (ah ai af)))) h12
     try simp only [Int.toNat_natCast] at g12
     exact aN (⟨x2.1+1,by omega,fun j hj=>by rcases Nat.lt_succ_iff_lt_or_eq.1 hj with hj|rfl;(· exact x2.2.2 j hj);(· exact ⟨HD g7,fun hne=>xC.2 (by rcases g12 with g|g;(· omega);(· rw [e1 (by omega),Int.toNat_natCast] at g;exact g))⟩)⟩) (fun _ hs=>hs.le (⟨.refl _,aK (by omega),trivial⟩) (⟨.refl _,trivial⟩)) (by dsimp only;omega)
  ·have g3:=aa h3
   exact aq (ay.of_eq (congrArg AV.bool (AT g0 fun i hi=>x2.2.2 i (by omega)).symm))
theorem I6 (n:Nat) (f g:Nat→Int) (hn:n<9223372036854775808):Pure Tryz.prog aZ 89 [js n f,js n g] (.bool ((List.range n).all fun i=>f i==g i)):=by
 refine ar (own:=bq) Tryz.func89 (by kernel_rfl) mixed (by kernel_rfl)
  (let y0:AV:=(.bool (List.all (List.range n) fun i=>f i==g i));(.br ((n:Int) != (n:Int)) (.out (.bool false) [] y0 []) (.loop ({ x:Nat // x≤n∧(fun (x:Nat)=>∀ (j:Nat),j<x→(f j==g j)=true) x }) (fun x=>aY [0,1,12,13] [.aH 1 n fun i x=>Zi (f i),.aH 1 n fun i x=>Zi (g i),Zi n,Zi x.1] []) (fun x=>n - x.1) (⟨0,⟨Nat.zero_le n,fun (j:Nat) (hj:j<0)=>absurd hj (Nat.not_lt_zero j)⟩⟩) [0,1,12,13] [] [.aH 1 n fun i x=>Zi (f i),.aH 1 n fun i x=>Zi (g i),Zi n,Zi 0] [] (fun x2=>(.br (decide ((x2.1:Int)<(n:Int))) (.bj (0≤(x2.1:Int)∧(x2.1:Int)<(n:Int)) (.bj (0≤(x2.1:Int)∧(x2.1:Int)<(n:Int)) (.br (f (toNat (x2.1:Int)) != g (toNat (x2.1:Int))) (.out (.bool false) [] y0 []) (.again (bh 0 (fun x=>aY [0,1,12,13] [.aH 1 n fun i x=>Zi (f i),.aH 1 n fun i x=>Zi (g i),Zi n,Zi x.1] []) (fun x=>n - x.1) x2) [0,1,12,13] [] [.aH 1 n fun i x=>Zi (f i),.aH 1 n fun i x=>Zi (g i),Zi n,Zi (wrap .i64 ((x2.1:Int)+1))] [])))) (.out (.bool true) [] y0 []))))))
  (by kernel_rfl) ?_
 refine aL (fun h0=>?_) (fun h0=>?_)
 ·have g0:=aU h0
  exact aq (ay.of_eq (by simp_all))
 ·have g0:=aR h0
  refine aV (fun _ hs=>hs.le (⟨.refl _,.refl _,.refl _,.refl _,trivial⟩) (trivial)) (fun x2=>?_)
  try (have q2:=x2.2;dsimp only at q2)
  refine aL (fun h3=>?_) (fun h3=>?_)
  ·have g3:=af h3
   refine aD (by omega) ?_
   refine aD (by omega) ?_
   refine aL (fun h6=>?_) (fun h6=>?_)
   ·have g6:=aU h6
    try simp only [Int.toNat_natCast] at g6
    exact aq (ay.of_eq (congrArg AV.bool (nA (p:=fun i=>f i==g i) (i:=x2.1) (by omega) (beq_eq_false_iff_ne.2 g6)).symm))
   ·have g6:=aR h6
    try simp only [Int.toNat_natCast] at g6
    exact aN (⟨x2.1+1,by omega,cN x2.2.2 (beq_iff_eq.2 g6)⟩) (fun _ hs=>hs.le (⟨.refl _,.refl _,.refl _,aK (by omega),trivial⟩) (trivial)) (by dsimp only;omega)
  ·have g3:=aa h3
   exact aq (ay.of_eq (congrArg AV.bool (j0 fun i hi=>x2.2.2 i (by omega)).symm))
theorem Ej (nb:Nat) (B:Nat→Int) (ne:Nat) (E:Nat→Nat→Int) (hn:nb<9223372036854775808) (he:ne<9223372036854775808):Pure Tryz.prog aZ 39 [.agg [js nb B,lV ne E]] (.bool (fG nb B ne E)):=by
 have c1:=fun k=>Gk nb (E k)
 have c2:=fun F k h hn=>KJ nb F (E k) h hn
 have c3:=fun F=>I6 nb F B hn
 refine ar (own:=owL) Tryz.func39 (by kernel_rfl) mixed (by kernel_rfl)
  (let y0:List AV:=[.aH 1 nb fun i x=>Zi (B i),.aH 4 ne fun i j=>Zi (E i j)];let y1:Nat:=(toNat (nb:Int));let y2:AV:=(.bool (fG nb B ne E));(.br (decide ((nb:Int)<5)||decide ((nb:Int)>105)||decide ((ne:Int)>1000)) (.out (.bool false) [] y2 []) (.bj (0≤(nb:Int)∧(nb:Int)=(nb:Int)∧8*(nb:Int)≤140737488355328∧(nb:Int)≤9223372036854775807) (.loop ({ x:Nat // x≤ne∧(fun (x:Nat)=>∀ (j:Nat),j<x→wi nb E j=true) x }) (fun x=>aY [1,3,4,25,26,27] [.own 0 2 0 0 2,Zi nb,.ba 1 1 0 y1,.aH 4 ne fun i j=>Zi (E i j),Zi ne,Zi x.1] [some ⟨2,1,true,.bc [y0]⟩,some ⟨1,nb,true,.fn fun i x_1=>Zi (ck E (x.1) i)⟩]) (fun x=>ne - x.1) (⟨0,⟨Nat.zero_le ne,fun (j:Nat) (hj:j<0)=>absurd hj (Nat.not_lt_zero j)⟩⟩) [1,3,4,25,26,27] [0,152] [.own 0 2 0 0 2,Zi nb,.ba 1 1 0 y1,.aH 4 ne fun i j=>Zi (E i j),Zi ne,Zi 0] [some ⟨2,1,true,.bc [y0]⟩,some ⟨1,toNat (nb:Int),true,.fn fun i j=>Zi (aE (aQ (cq (Value.int IntKind.i64 (0:Int))) j))⟩] (fun x3=>(.br (decide ((x3.1:Int)<(ne:Int))) (.bj (0≤(x3.1:Int)∧(x3.1:Int)<(ne:Int)) (.sc true 87 [.agg [Zi (E (toNat (x3.1:Int)) 0),Zi (E (toNat (x3.1:Int)) 1),Zi (E (toNat (x3.1:Int)) 2),Zi (E (toNat (x3.1:Int)) 3)],Zi nb] (.bool (gd nb (E (toNat (x3.1:Int))))) (.br ((!gd nb (E (toNat (x3.1:Int))))==false) (.gc 88 [⟨1,nb,true,.fn fun i j=>Zi (ck E x3.1 i)⟩] [.ba 0 1 0 y1,.agg [Zi (E (toNat (x3.1:Int)) 0),Zi (E (toNat (x3.1:Int)) 1),Zi (E (toNat (x3.1:Int)) 2),Zi (E (toNat (x3.1:Int)) 3)]] (.bool (gq (ck E x3.1) (E (toNat (x3.1:Int))))) [some ⟨1,nb,true,.fn fun i x=>Zi (pstG (ck E x3.1) (E (toNat (x3.1:Int))) i)⟩] (.br (!gd nb (E (toNat (x3.1:Int))) || !gq (ck E x3.1) (E (toNat (x3.1:Int)))) (.out (.bool false) [] y2 []) (.again (bh 0 (fun x=>aY [1,3,4,25,26,27] [.own 0 2 0 0 2,Zi nb,.ba 1 1 0 y1,.aH 4 ne fun i j=>Zi (E i j),Zi ne,Zi x.1] [some ⟨2,1,true,.bc [y0]⟩,some ⟨1,nb,true,.fn fun i x_1=>Zi (ck E (x.1) i)⟩]) (fun x=>ne - x.1) x3) [1,3,4,25,26,27] [0,1] [.own 0 2 0 0 2,Zi nb,.ba 1 1 0 y1,.aH 4 ne fun i j=>Zi (E i j),Zi ne,Zi (wrap .i64 ((x3.1:Int)+1))] [some ⟨2,1,true,.bc [y0]⟩,some ⟨1,nb,true,.fn fun i j=>Zi (pstG (ck E x3.1) (E (toNat (x3.1:Int))) i)⟩]))) (.br (!gd nb (E (toNat (x3.1:Int)))||true) (.out (.bool false) [] y2 []) (.again (bh 0 (fun x=>aY [1,3,4,25,26,27] [.own 0 2 0 0 2,Zi nb,.ba 1 1 0 y1,.aH 4 ne fun i j=>Zi (E i j),Zi ne,Zi x.1] [some ⟨2,1,true,.bc [y0]⟩,some ⟨1,nb,true,.fn fun i x_1=>Zi (ck E (x.1) i)⟩]) (fun x=>ne - x.1) x3) [1,3,4,25,26,27] [0,1] [.own 0 2 0 0 2,Zi nb,.ba 1 1 0 y1,.aH 4 ne fun i j=>Zi (E i j),Zi ne,Zi (wrap .i64 ((x3.1:Int)+1))] [some ⟨2,1,true,.bc [y0]⟩,some ⟨1,nb,true,.fn fun i j=>Zi (ck E (x3.1) i)⟩]))))) (.sc true 89 [.aH 1 y1 fun r k=>Zi (ck E x3.1 (r+0)),.aH 1 nb fun i x=>Zi (B i)] (.bool (List.all (List.range nb) fun i=>ck E x3.1 (i+0)==B i)) (.out (.bool (List.all (List.range.loop nb []) fun i=>ck E x3.1 (i+0)==B i)) [] y2 []))))))))
  (by kernel_rfl) ?_
 refine aL (fun h0=>?_) (fun h0=>?_)
 ·have g0:=(aA (aA af af) af) h0
  exact aq (ay.of_eq (congrArg AV.bool (xL g0).symm))
 ·have g0:=(aw (aw aa aa) aa) h0
  refine aD (by omega) ?_
  refine aV (fun _ hs=>hs.le (⟨.refl _,.refl _,.refl _,.refl _,.refl _,.refl _,trivial⟩) (⟨.refl _,⟨rfl,Int.toNat_natCast nb,rfl,fun i j _ hj=>by obtain rfl:j=0:=Nat.lt_one_iff.1 hj;exact ay.refl _⟩,trivial⟩)) (fun x3=>?_)
  try (have q3:=x3.2;dsimp only at q3)
  refine aL (fun h4=>?_) (fun h4=>?_)
  ·have g4:=af h4
   refine aD (by omega) ?_
   refine aM (c1 (toNat (↑x3.1:Int))) ?_
   refine aL (fun h7=>?_) (fun h7=>?_)
   ·have g7:=(dd (az aB)) h7
    try simp only [Int.toNat_natCast] at g7
    refine gZ (c2 (ck E x3.1) (toNat (↑x3.1:Int)) (by assumption) (by omega)) ?_
    refine aL (fun h9=>?_) (fun h9=>?_)
    ·have g9:=(aA (aC aF) (aC aF)) h9
     try simp only [Int.toNat_natCast] at g9
     exact aq (ay.of_eq (congrArg AV.bool (tv (k:=x3.1) (by omega) (JU g7 g9)).symm))
    ·have g9:=(aw (az aB) (az aB)) h9
     try simp only [Int.toNat_natCast] at g9
     exact aN (⟨x3.1+1,by omega,cN x3.2.2 (DT g7 g9.2)⟩) (fun _ hs=>hs.le (⟨.refl _,.refl _,.refl _,.refl _,.refl _,aK (by omega),trivial⟩) (⟨.refl _,⟨rfl,rfl,rfl,fun i j _ _=>ay.of_eq (congrArg (AV.int _) (JF (x:=x3.1) (by simpa using g9.2)))⟩,trivial⟩)) (by dsimp only;omega)
   ·have g7:=(z6 (aC aF)) h7
    try simp only [Int.toNat_natCast] at g7
    refine aL (fun h12=>?_) (fun h12=>?_)
    ·have g12:=(aA (aC aF) aB) h12
     try simp only [Int.toNat_natCast] at g12
     exact aq (ay.of_eq (congrArg AV.bool (tv (k:=x3.1) (by omega) (Bc g7)).symm))
    ·have g12:=(aw (az aB) aF) h12
     try simp only [Int.toNat_natCast] at g12
     exact aN (⟨x3.1+1,by omega,absurd g12.2 (by decide)⟩) (fun _ hs=>hs.le (⟨.refl _,.refl _,.refl _,.refl _,.refl _,aK (by omega),trivial⟩) (⟨.refl _,absurd g12.2 (by decide),trivial⟩)) (by dsimp only;omega)
  ·have g4:=aa h4
   refine aM (c3 (fun (i:Nat)=>ck E x3.1 (i+0))) ?_
   exact aq (ay.of_eq (congrArg AV.bool (Fx g0.1.1 g0.1.2 g0.2 (by omega) x3.2.2)))
end Go.Proofs.YtpefjkpdniiaoaaGreatDoor

namespace Go.Sp
open Go.IntKind (wrap)
open Int (toNat)
open Go Go.Am
def Ak (F x:Nat→Int) (i:Nat) (c d:Bool):Int :=
 bif Nat.beq i ((x 1).toNat+0)&&c then IntKind.wrap .i64 ((bif Nat.beq ((x 1).toNat+0) ((x 0).toNat+0)&&d then IntKind.wrap .i64 (F ((x 0).toNat+0) - x 2) else F ((x 1).toNat+0))+x 2) else
  bif Nat.beq i ((x 0).toNat+0)&&c then IntKind.wrap .i64 (F ((x 0).toNat+0) - x 2) else F i
theorem xS {n:Nat} {F x:Nat→Int} (h:gd n x=true) (i:Nat):Ak F x i true true=Et F x i:=by
 have hb:=jx.1 h
 have e:Nat.beq ((x 1).toNat+0) ((x 0).toNat+0)=false:=by
  cases c:Nat.beq ((x 1).toNat+0) ((x 0).toNat+0) with
  | false=>rfl
  | true=>have:=beq_iff'.1 c;omega
 rw [Ak,e,Et]
 show (bif Nat.beq i (x 1).toNat&&true then IntKind.wrap .i64 (F (x 1).toNat+x 2) else bif Nat.beq i (x 0).toNat&&true then IntKind.wrap .i64 (F (x 0).toNat - x 2) else F i)=_
 simp only [Bool.and_true]
 by_cases c1:i=(x 1).toNat
 ·subst c1;rw [if_pos rfl,Nat.beq_refl];rfl
 ·rw [if_neg c1,show Nat.beq i (x 1).toNat=false by cases c:Nat.beq i (x 1).toNat with|false=>rfl|true=>exact absurd (beq_iff'.1 c) c1]
  by_cases c2:i=(x 0).toNat
  ·subst c2;rw [if_pos rfl,Nat.beq_refl];rfl
  ·rw [if_neg c2,show Nat.beq i (x 0).toNat=false by cases c:Nat.beq i (x 0).toNat with|false=>rfl|true=>exact absurd (beq_iff'.1 c) c2];rfl
theorem Ni {nb:Nat} {E:Nat→Nat→Int} {k:Nat} (hk:k<1000) (h:∀ j,j≤k→gd nb (E j)=true):Ak (ck E k) (E k) ((E k 0).toNat+0) true true=ck E k (E k 0).toNat - E k 2:=by
 have hb:=jx.1 (h k (Nat.le_refl _))
 rw [xS (h k (Nat.le_refl _)),Et,if_neg (by omega),if_pos (by omega)]
 exact (L3 hk h _).1
theorem IQ {nb:Nat} {E:Nat→Nat→Int} {k:Nat} (hk:k<1000) (h:∀ j,j≤k→gd nb (E j)=true) (g:E k 0≥5∧Ak (ck E k) (E k) ((E k 0).toNat+0) true true<0):gq (ck E k) (E k)=false :=
 pstB_f ⟨g.1,by have:=g.2;rw [Ni hk h] at this;show ck E k (E k 0).toNat<_;omega⟩
theorem Kw {nb:Nat} {E:Nat→Nat→Int} {k:Nat} (hk:k<1000) (h:∀ j,j≤k→gd nb (E j)=true) (g:¬E k 0≥5∨¬Ak (ck E k) (E k) ((E k 0).toNat+0) true true<0):gq (ck E k) (E k)=true :=
 pstB_t (g.imp id fun g=>by rw [Ni hk h] at g;show ¬ck E k (E k 0).toNat<_;omega)
theorem E5 {nb x i j:Nat} {E:Nat→Nat→Int} (h:gd nb (E x)=true) (hj:j<1):Ak (ck E x) (E (toNat (x:Int))) i (Nat.ble 0 j&&Nat.blt j 1) true=ck E (x+1) i:=by
 obtain rfl:j=0:=Nat.lt_one_iff.1 hj
 rw [Int.toNat_natCast]
 exact xS h i
theorem Ma {nb:Nat} {B:Nat→Int} {ne:Nat} {E:Nat→Nat→Int} (h:∀ k,k<ne→gd nb (E k)=true) (g:((List.range ne).all fun k=>gq (ck E k) (E k))=false):fG nb B ne E=false:=p8 fun e=>by
 have:=(Bq e).ok
 have:((List.range ne).all fun k=>gq (ck E k) (E k))=true:=j0 fun i hi=>by have:=this i hi;unfold wi at this;rw [Bool.and_eq_true] at this;exact this.2
 rw [this] at g;cases g
theorem Ka {nb:Nat} {B:Nat→Int} {ne:Nat} {E:Nat→Nat→Int} (h:∀ k,k<ne→gd nb (E k)=true) (g:((List.range ne).all fun k=>gq (ck E k) (E k))=true):∀ k,k<ne→wi nb E k=true:=fun k hk =>
 DT (h k hk) (List.all_eq_true.1 g k (List.mem_range.2 hk))
end Go.Sp

namespace Go.Proofs.YtpefjkpdniiaoaaGreatDoor
open Go.IntKind (wrap)
open Int (toNat)
open Go Go.Am Go.Sp
set_option maxRecDepth 100000
theorem Hg (n:Int):Pure Tryz.prog aZ 115 [.int .i64 n] (.bool (decide (n≥5)&&decide (n≤105))):=by
 refine ar (own:=bq) Tryz.func115 (by kernel_rfl) mixed (by kernel_rfl)
  (let y0:AV:=(.bool (decide (n≥5)&&decide (n≤105)));(.out y0 [] y0 []))
  (by kernel_rfl) ?_
 exact aq (ay.of_eq rfl)
theorem JW (nb ne:Nat) (E:Nat→Nat→Int) (hn:nb≤1000) (he:ne≤1000) (h:∀ k,k<ne→gd nb (E k)=true):Pure Tryz.prog aZ 117 [.int .i64 nb,lV ne E]
  (.aX [.aH 1 (bif (List.range ne).all fun k=>gq (ck E k) (E k) then nb else 0) fun i _=>.int .i64 (ck E ne i),.bool ((List.range ne).all fun k=>gq (ck E k) (E k))]):=by
 refine ar (own:=bq) Tryz.func117 (by kernel_rfl) mixed (by kernel_rfl)
  (let y0:AV:=(.aX [.aH 1 (bif List.all (List.range ne) fun k=>gq (ck E k) (E k) then nb else 0) fun i x=>Zi (ck E ne i),.bool (List.all (List.range ne) fun k=>gq (ck E k) (E k))]);let y1:Nat:=(toNat (nb:Int));(.bj (0≤(nb:Int)∧(nb:Int)=(nb:Int)∧8*(nb:Int)≤140737488355328∧(nb:Int)≤9223372036854775807) (.loop ({ x:Nat // x≤ne∧(fun (x:Nat)=>∀ (j:Nat),j<x→gq (ck E j) (E j)=true) x }) (fun x=>aY [1,6,7] [.aH 4 ne fun i j=>Zi (E i j),.ba 0 1 0 y1,Zi x.1] [some ⟨1,nb,true,.fn fun i x_1=>Zi (ck E (x.1) i)⟩]) (fun x=>ne - x.1) (⟨0,⟨Nat.zero_le ne,fun (j:Nat) (hj:j<0)=>absurd hj (Nat.not_lt_zero j)⟩⟩) [1,6,7] [24] [.aH 4 ne fun i j=>Zi (E i j),.ba 0 1 0 y1,Zi 0] [some ⟨1,toNat (nb:Int),true,.fn fun i j=>Zi (aE (aQ (cq (Value.int IntKind.i64 (0:Int))) j))⟩] (fun x1=>(.br (decide ((x1.1:Int)<(ne:Int))) (.bj (0≤(x1.1:Int)∧(x1.1:Int)<(ne:Int)) (.bj ((0:Int)≤E (toNat (x1.1:Int)) 0∧E (toNat (x1.1:Int)) 0<(y1:Int)) (.bj ((0:Int)≤E (toNat (x1.1:Int)) 0∧E (toNat (x1.1:Int)) 0<(y1:Int)) (.bj ((0:Int)≤E (toNat (x1.1:Int)) 1∧E (toNat (x1.1:Int)) 1<(y1:Int)) (.bj ((0:Int)≤E (toNat (x1.1:Int)) 1∧E (toNat (x1.1:Int)) 1<(y1:Int)) (.bj ((decide (E (toNat (x1.1:Int)) 0≥5)==true)=true→(0:Int)≤E (toNat (x1.1:Int)) 0∧E (toNat (x1.1:Int)) 0<(y1:Int)) (.br (decide (E (toNat (x1.1:Int)) 0≥5)&&decide ((bif Nat.beq (toNat (E (toNat (x1.1:Int)) 0)+0) (toNat (E (toNat (x1.1:Int)) 1)+0)&&true then wrap .i64 ((bif Nat.beq (toNat (E (toNat (x1.1:Int)) 1)+0) (toNat (E (toNat (x1.1:Int)) 0)+0)&&true then wrap .i64 (ck E x1.1 (toNat (E (toNat (x1.1:Int)) 0)+0) - E (toNat (x1.1:Int)) 2) else ck E x1.1 (toNat (E (toNat (x1.1:Int)) 1)+0))+E (toNat (x1.1:Int)) 2) else bif Nat.beq (toNat (E (toNat (x1.1:Int)) 0)+0) (toNat (E (toNat (x1.1:Int)) 0)+0)&&true then wrap .i64 (ck E x1.1 (toNat (E (toNat (x1.1:Int)) 0)+0) - E (toNat (x1.1:Int)) 2) else ck E x1.1 (toNat (E (toNat (x1.1:Int)) 0)+0))<0)) (.out (.aX [.bn,.bool false]) [] y0 []) (.again (bh 0 (fun x=>aY [1,6,7] [.aH 4 ne fun i j=>Zi (E i j),.ba 0 1 0 y1,Zi x.1] [some ⟨1,nb,true,.fn fun i x_1=>Zi (ck E (x.1) i)⟩]) (fun x=>ne - x.1) x1) [1,6,7] [0] [.aH 4 ne fun i j=>Zi (E i j),.ba 0 1 0 y1,Zi (wrap .i64 ((x1.1:Int)+1))] [some ⟨1,nb,true,.fn fun i j=>Zi (bif Nat.beq i (toNat (E (toNat (x1.1:Int)) 1)+0)&&(Nat.ble 0 j&&Nat.blt j 1) then wrap .i64 ((bif Nat.beq (toNat (E (toNat (x1.1:Int)) 1)+0) (toNat (E (toNat (x1.1:Int)) 0)+0)&&true then wrap .i64 (ck E x1.1 (toNat (E (toNat (x1.1:Int)) 0)+0) - E (toNat (x1.1:Int)) 2) else ck E x1.1 (toNat (E (toNat (x1.1:Int)) 1)+0))+E (toNat (x1.1:Int)) 2) else bif Nat.beq i (toNat (E (toNat (x1.1:Int)) 0)+0)&&(Nat.ble 0 j&&Nat.blt j 1) then wrap .i64 (ck E x1.1 (toNat (E (toNat (x1.1:Int)) 0)+0) - E (toNat (x1.1:Int)) 2) else ck E x1.1 i)⟩])))))))) (.out (.aX [.aH 1 y1 fun r k=>Zi (ck E x1.1 (r+0)),.bool true]) [] y0 []))))))
  (by kernel_rfl) ?_
 refine aD (by omega) ?_
 refine aV (fun _ hs=>hs.le (⟨.refl _,.refl _,.refl _,trivial⟩) (⟨⟨rfl,Int.toNat_natCast nb,rfl,fun i j _ hj=>by obtain rfl:j=0:=Nat.lt_one_iff.1 hj;exact ay.refl _⟩,trivial⟩)) (fun x1=>?_)
 try (have q1:=x1.2;dsimp only at q1)
 have kE:x1.1<ne→_:=fun hx=>jx.1 (h x1.1 hx)
 refine aL (fun h2=>?_) (fun h2=>?_)
 ·have g2:=af h2
  refine aD (by omega) ?_
  refine aD (by have kk:=kE (by omega);simp only [Int.toNat_natCast];omega) ?_
  refine aD (by have kk:=kE (by omega);simp only [Int.toNat_natCast];omega) ?_
  refine aD (by have kk:=kE (by omega);simp only [Int.toNat_natCast];omega) ?_
  refine aD (by have kk:=kE (by omega);simp only [Int.toNat_natCast];omega) ?_
  refine aD (fun hr=>by have kk:=kE (by omega);simp only [Int.toNat_natCast];omega) ?_
  refine aL (fun h9=>?_) (fun h9=>?_)
  ·have g9:=(ah af af) h9
   try simp only [Int.toNat_natCast] at g9
   exact aq (by rw [nA (p:=fun k=>gq (ck E k) (E k)) (i:=x1.1) (by omega) (IQ (by omega) (fun j hj=>h j (by omega)) g9)];exact ay.aX ⟨ay.bn,ay.refl _,trivial⟩)
  ·have g9:=(ao aa aa) h9
   try simp only [Int.toNat_natCast] at g9
   exact aN (⟨x1.1+1,by omega,cN x1.2.2 (Kw (by omega) (fun j hj=>h j (by omega)) g9)⟩) (fun _ hs=>hs.le (⟨.refl _,.refl _,aK (by omega),trivial⟩) (⟨⟨rfl,rfl,rfl,fun i j _ hj=>ay.of_eq (congrArg (AV.int _) (E5 (h x1.1 (by omega)) hj))⟩,trivial⟩)) (by dsimp only;omega)
 ·have g2:=aa h2
  exact aq (by rw [show ((List.range ne).all fun k=>gq (ck E k) (E k))=true from j0 fun i hi=>x1.2.2 i (by omega),show x1.1=ne by omega];exact ay.of_eq (by rw [Int.toNat_natCast];rfl))
theorem F7 (nb:Nat) (B:Nat→Int) (ne:Nat) (E:Nat→Nat→Int) (hn:nb<9223372036854775808) (he:ne<9223372036854775808):Pure Tryz.prog aZ 69 [.agg [js nb B,lV ne E]] (.bool (fG nb B ne E)):=by
 have c1:=fun k=>Dm nb (E k)
 have c2:=Hg nb
 have c3:=fun (h:(nb≤1000∧ne≤1000)∧∀ k,k<ne→gd nb (E k)=true)=>JW nb ne E h.1.1 h.1.2 h.2
 refine ar (own:=bq) Tryz.func69 (by kernel_rfl) mixed (by kernel_rfl)
  (let y0:List (Option Ob):=[some ⟨2,1,true,.bc [[.aH 1 nb fun i x=>Zi (B i),.aH 4 ne fun i j=>Zi (E i j)]]⟩];let y1:AV:=(.bool (fG nb B ne E));(.sc true 115 [Zi nb] (.bool (decide ((nb:Int)≥5)&&decide ((nb:Int)≤105))) (.br (!(decide ((nb:Int)≥5)&&decide ((nb:Int)≤105))||decide ((ne:Int)>1000)) (.out (.bool false) [] y1 []) (.loop ({ x:Nat // x≤ne∧(fun (x:Nat)=>∀ (j:Nat),j<x→gd nb (E j)=true) x }) (fun x=>aY [1,3,4] [.own 0 2 0 0 2,Zi nb,Zi x.1] y0) (fun x=>ne - x.1) (⟨0,⟨Nat.zero_le ne,fun (j:Nat) (hj:j<0)=>absurd hj (Nat.not_lt_zero j)⟩⟩) [1,3,4] [0] [.own 0 2 0 0 2,Zi nb,Zi 0] (y0) (fun x3=>(.br (decide ((x3.1:Int)<(ne:Int))) (.bj (0≤(x3.1:Int)∧(x3.1:Int)<(ne:Int)) (.sc true 116 [Zi nb,.agg [Zi (E (toNat (x3.1:Int)) 0),Zi (E (toNat (x3.1:Int)) 1),Zi (E (toNat (x3.1:Int)) 2),Zi (E (toNat (x3.1:Int)) 3)]] (.bool (gd nb (E (toNat (x3.1:Int))))) (.br (!gd nb (E (toNat (x3.1:Int)))) (.out (.bool false) [] y1 []) (.again (bh 0 (fun x=>aY [1,3,4] [.own 0 2 0 0 2,Zi nb,Zi x.1] y0) (fun x=>ne - x.1) x3) [1,3,4] [0] [.own 0 2 0 0 2,Zi nb,Zi (wrap .i64 ((x3.1:Int)+1))] (y0))))) (.dc true 117 [Zi nb,.aH 4 ne fun i j=>Zi (E i j)] (.aX [.aH 1 (bif List.all (List.range ne) fun k=>gq (ck E k) (E k) then nb else 0) fun i x=>Zi (ck E ne i),.bool (List.all (List.range ne) fun k=>gq (ck E k) (E k))]) (.br (!List.all (List.range.loop ne []) fun k=>gq (ck E k) (E k)) (.out (.bool false) [] y1 []) (.loop ({ x:Nat // x≤nb∧(fun (x:Nat)=>∀ (j:Nat),j<x→(ck E ne j==B j)=true) x }) (fun x=>aY [1,3,5,7] [.own 0 2 0 0 2,Zi nb,.aH 1 (bif List.all (List.range.loop ne []) fun k=>gq (ck E k) (E k) then nb else 0) fun i x=>Zi (ck E ne i),Zi x.1] y0) (fun x=>nb - x.1) (⟨0,⟨Nat.zero_le nb,fun (j:Nat) (hj:j<0)=>absurd hj (Nat.not_lt_zero j)⟩⟩) [1,3,5,7] [0] [.own 0 2 0 0 2,Zi nb,.aH 1 (bif List.all (List.range.loop ne []) fun k=>gq (ck E k) (E k) then nb else 0) fun i x=>Zi (ck E ne i),Zi 0] (y0) (fun x13=>(.br (decide ((x13.1:Int)<(nb:Int))) (.bj (0≤(x13.1:Int)∧(x13.1:Int)<(↑(bif List.all (List.range.loop ne []) fun k=>gq (ck E k) (E k) then nb else 0):Int)) (.bj (0≤(x13.1:Int)∧(x13.1:Int)<(nb:Int)) (.br (ck E ne (toNat (x13.1:Int)) != B (toNat (x13.1:Int))) (.out (.bool false) [] y1 []) (.again (bh 0 (fun x=>aY [1,3,5,7] [.own 0 2 0 0 2,Zi nb,.aH 1 (bif List.all (List.range.loop ne []) fun k=>gq (ck E k) (E k) then nb else 0) fun i x=>Zi (ck E ne i),Zi x.1] y0) (fun x=>nb - x.1) x13) [1,3,5,7] [0] [.own 0 2 0 0 2,Zi nb,.aH 1 (bif List.all (List.range.loop ne []) fun k=>gq (ck E k) (E k) then nb else 0) fun i x=>Zi (ck E ne i),Zi (wrap .i64 ((x13.1:Int)+1))] (y0))))) (.out (.bool true) [] y1 []))))))))))))
  (by kernel_rfl) ?_
 refine aM (c2) ?_
 refine aL (fun h1=>?_) (fun h1=>?_)
 ·have g1:=(aA (aC (ao aa aa)) af) h1
  exact aq (ay.of_eq (congrArg AV.bool (xL (by omega)).symm))
 ·have g1:=(aw (az (ah af af)) aa) h1
  refine aV (fun _ hs=>hs.le (⟨.refl _,.refl _,.refl _,trivial⟩) (⟨.refl _,trivial⟩)) (fun x3=>?_)
  try (have q3:=x3.2;dsimp only at q3)
  refine aL (fun h4=>?_) (fun h4=>?_)
  ·have g4:=af h4
   refine aD (by omega) ?_
   refine aM (c1 (toNat (↑x3.1:Int))) ?_
   refine aL (fun h7=>?_) (fun h7=>?_)
   ·have g7:=(aC aF) h7
    try simp only [Int.toNat_natCast] at g7
    exact aq (ay.of_eq (congrArg AV.bool (tv (k:=x3.1) (by omega) (Bc g7)).symm))
   ·have g7:=(az aB) h7
    try simp only [Int.toNat_natCast] at g7
    exact aN (⟨x3.1+1,by omega,cN x3.2.2 g7⟩) (fun _ hs=>hs.le (⟨.refl _,.refl _,aK (by omega),trivial⟩) (⟨.refl _,trivial⟩)) (by dsimp only;omega)
  ·have g4:=aa h4
   refine b9 (c3 (⟨by omega,fun k hk=>x3.2.2 k (by omega)⟩)) ?_
   refine aL (fun h11=>?_) (fun h11=>?_)
   ·have g11:=(aC aF) h11
    exact aq (ay.of_eq (congrArg AV.bool (Ma (fun k hk=>x3.2.2 k (by omega)) g11).symm))
   ·have g11:=(az aB) h11
    refine aV (fun _ hs=>hs.le (⟨.refl _,.refl _,.refl _,.refl _,trivial⟩) (⟨.refl _,trivial⟩)) (fun x13=>?_)
    try (have q13:=x13.2;dsimp only at q13)
    refine aL (fun h14=>?_) (fun h14=>?_)
    ·have g14:=af h14
     refine aD (by (simp only [g11,cond_true,Int.toNat_natCast];omega)) ?_
     refine aD (by omega) ?_
     refine aL (fun h17=>?_) (fun h17=>?_)
     ·have g17:=aU h17
      try simp only [Int.toNat_natCast] at g17
      exact aq (ay.of_eq (congrArg AV.bool (p8 fun e=>g17 ((Bq e).bal _ (by omega))).symm))
     ·have g17:=aR h17
      try simp only [Int.toNat_natCast] at g17
      exact aN (⟨x13.1+1,by omega,cN x13.2.2 (beq_iff_eq.2 g17)⟩) (fun _ hs=>hs.le (⟨.refl _,.refl _,.refl _,aK (by omega),trivial⟩) (⟨.refl _,trivial⟩)) (by dsimp only;omega)
    ·have g14:=aa h14
     exact aq (ay.of_eq (congrArg AV.bool (by rw [Dw (by omega) (by omega) g1.2 (Ka (B:=B) (fun k hk=>x3.2.2 k (by omega)) g11)];exact (j0 fun i hi=>x13.2.2 i (by omega)).symm)))
theorem EA (nb:Nat) (B:Nat→Int) (ne:Nat) (E:Nat→Nat→Int) (hn:nb<9223372036854775808) (he:ne<9223372036854775808):Pure Tryz.prog aZ 28 [.agg [js nb B,lV ne E],.agg [js nb B,lV ne E]] (.bool true):=by
 refine ar (own:=bq) Tryz.func28 (by kernel_rfl) mixed (by kernel_rfl)
  (let y0:List (Option Ob):=[some ⟨2,1,true,.bc [[.aH 1 nb fun i x=>Zi (B i),.aH 4 ne fun i j=>Zi (E i j)]]⟩,some ⟨2,1,true,.bc [[.aH 1 nb fun i x=>Zi (B i),.aH 4 ne fun i j=>Zi (E i j)]]⟩];let y1:=(fun (x:{ x:Nat // x≤nb })=>aY [2,3,5] [.own 0 2 0 0 2,.own 1 2 0 0 2,Zi x.1] y0);let y2:=(fun (x:{ x:Nat // x≤ne })=>aY [2,3,6] [.own 0 2 0 0 2,.own 1 2 0 0 2,Zi x.1] y0);let y3:=(fun (x:{ x:Nat // x≤nb })=>nb - x.1);let y4:=(fun (x:{ x:Nat // x≤ne })=>ne - x.1);let y5:List AV:=[.own 0 2 0 0 2,.own 1 2 0 0 2,Zi 0];(.br ((nb:Int) != (nb:Int)||(ne:Int) != (ne:Int)) (.out (.bool false) [] (.bool true) []) (.loop ({ x:Nat // x≤nb }) y1 y3 (⟨0,Nat.zero_le nb⟩) [2,3,5] [0,8] (y5) (y0) (fun x2=>(.br (decide ((x2.1:Int)<(nb:Int))) (.bj (0≤(x2.1:Int)∧(x2.1:Int)<(nb:Int)) (.bj (0≤(x2.1:Int)∧(x2.1:Int)<(nb:Int)) (.br (B (toNat (x2.1:Int)) != B (toNat (x2.1:Int))) (.out (.bool false) [] (.bool true) []) (.again (bh 0 y1 y3 x2) [2,3,5] [0,1] [.own 0 2 0 0 2,.own 1 2 0 0 2,Zi (wrap .i64 ((x2.1:Int)+1))] (y0))))) (.loop ({ x:Nat // x≤ne }) y2 y4 (⟨0,Nat.zero_le ne⟩) [2,3,6] [0,1] (y5) (y0) (fun x9=>(.br (decide ((x9.1:Int)<(ne:Int))) (.bj (0≤(x9.1:Int)∧(x9.1:Int)<(ne:Int)) (.bj (0≤(x9.1:Int)∧(x9.1:Int)<(ne:Int)) (.br (!(E (toNat (x9.1:Int)) 0==E (toNat (x9.1:Int)) 0&&(E (toNat (x9.1:Int)) 1==E (toNat (x9.1:Int)) 1&&(E (toNat (x9.1:Int)) 2==E (toNat (x9.1:Int)) 2&&(E (toNat (x9.1:Int)) 3==E (toNat (x9.1:Int)) 3&&true))))) (.out (.bool false) [] (.bool true) []) (.again (bh 0 y2 y4 x9) [2,3,6] [0,1] [.own 0 2 0 0 2,.own 1 2 0 0 2,Zi (wrap .i64 ((x9.1:Int)+1))] (y0))))) (.out (.bool true) [] (.bool true) [])))))))))
  (by kernel_rfl) ?_
 refine aL (fun h0=>?_) (fun h0=>?_)
 ·have g0:=(aA aU aU) h0
  exact aq (ay.of_eq (by simp_all))
 ·have g0:=(aw aR aR) h0
  refine aV (fun _ hs=>hs.le (⟨.refl _,.refl _,.refl _,trivial⟩) (⟨.refl _,.refl _,trivial⟩)) (fun x2=>?_)
  try (have q2:=x2.2;dsimp only at q2)
  refine aL (fun h3=>?_) (fun h3=>?_)
  ·have g3:=af h3
   refine aD (by omega) ?_
   refine aD (by omega) ?_
   refine aL (fun h6=>?_) (fun h6=>?_)
   ·have g6:=aU h6
    try simp only [Int.toNat_natCast] at g6
    exact aq (ay.of_eq (by simp_all))
   ·have g6:=aR h6
    try simp only [Int.toNat_natCast] at g6
    exact aN (⟨x2.1+1,by omega⟩) (fun _ hs=>hs.le (⟨.refl _,.refl _,aK (by omega),trivial⟩) (⟨.refl _,.refl _,trivial⟩)) (by dsimp only;omega)
  ·have g3:=aa h3
   refine aV (fun _ hs=>hs.le (⟨.refl _,.refl _,.refl _,trivial⟩) (⟨.refl _,.refl _,trivial⟩)) (fun x9=>?_)
   try (have q9:=x9.2;dsimp only at q9)
   refine aL (fun h10=>?_) (fun h10=>?_)
   ·have g10:=af h10
    refine aD (by omega) ?_
    refine aD (by omega) ?_
    refine aL (fun h13=>?_) (fun h13=>?_)
    ·have g13:=(aC (ao aj (ao aj (ao aj (ao aj aF))))) h13
     try simp only [Int.toNat_natCast] at g13
     exact aq (ay.of_eq (by simp_all))
    ·have g13:=(az (ah ai (ah ai (ah ai (ah ai aB))))) h13
     try simp only [Int.toNat_natCast] at g13
     exact aN (⟨x9.1+1,by omega⟩) (fun _ hs=>hs.le (⟨.refl _,.refl _,aK (by omega),trivial⟩) (⟨.refl _,.refl _,trivial⟩)) (by dsimp only;omega)
   ·have g10:=aa h10
    exact aq (ay.of_eq rfl)
theorem ri (b:aI) (R:Nat→Nat→Int) (n:Nat) (s t:au) (leaf:Int) (hn:n≤1000) (hw:b.gr.W) (hs:s.nl≤1000) (ht:t.nl≤1000) (bs:s.By) (bt:t.By) (ps:s.np≤1000000) (pt:t.np≤1000000) (fs:∀ k,k<s.np→cS (s.pf k) 32) (ft:∀ k,k<t.np→cS (t.pf k) 32) :
  Pure Tryz.prog aZ 20 [b.av,rcl n R,.agg (s.cells++(t.cells++[.int .i64 leaf]))] (.aX [.int .i64 (lz b R n s t leaf),.bool (ql b R n s t leaf)]):=by
 have c0:=eF b hw
 have c1:=qQ s t
 have c2:=Es b R n s hn hw bs.root bs.bM fs ps hs
 have c3:=Es b R n t hn hw bt.root bt.bM ft pt ht
 have c4:=ED b s t leaf hw hs ht bs bt
 refine ar (own:=bq) Tryz.func20 (by kernel_rfl) mixed (by kernel_rfl)
  (let y0:AV:=(.aX [Zi (lz b R n s t leaf),.bool (ql b R n s t leaf)]);(.sc true 31 [.agg (aI.cells b)] (.bool (aT b)) (.sc ((!aT b)==false) 47 [.aH 80 2 fun r k=>aQ (List.getD [au.cells s,au.cells t] (r+0) []) k] (.bool (dk s&&dk t)) (.sc ((!aT b || !(dk s&&dk t))==false) 48 [.agg (aI.cells b),.aH 11 n fun i j=>Zi (R i j),.agg (au.cells s)] (.bool (gh b R n s)) (.sc ((!aT b || !(dk s&&dk t) || !gh b R n s)==false) 48 [.agg (aI.cells b),.aH 11 n fun i j=>Zi (R i j),.agg (au.cells t)] (.bool (gh b R n t)) (.br (!aT b || !(dk s&&dk t) || !gh b R n s || !gh b R n t) (.out (.aX [Zi 0,.bool false]) [] y0 []) (.sc true 49 [.agg (aI.cells b),.agg (au.cells s),.agg (au.cells t),Zi leaf] (.aX [Zi (Prod.fst (qB b s t leaf)),Zi (Prod.snd (qB b s t leaf))]) (.out (.aX [Zi (qB b s t leaf).1,.bool ((qB b s t leaf).2==0)]) [] y0 []))))))))
  (by kernel_rfl) ?_
 refine aM (c0) ?_
 refine aW (fun h1=>c1) ?_
 refine aW (fun h2=>c2) ?_
 refine aW (fun h3=>c3) ?_
 refine aL (fun h4=>?_) (fun h4=>?_)
 ·have g4:=(aA (aA (aA (aC aF) (aC (ao aF aF))) (aC aF)) (aC aF)) h4
  exact aq (ay.of_eq (J5 g4))
 ·have g4:=(aw (aw (aw (az aB) (az (ah aB aB))) (az aB)) (az aB)) h4
  refine aM (c4) ?_
  exact aq (ay.of_eq (Bk ⟨g4.1.2,g4.2⟩))
theorem qa (b:aI) (R:Nat→Nat→Int) (n:Nat) (s t:au) (leaf:Int) (h0:leaf≤9223372036854775807) (hn:n≤1000) (hw:b.gr.W) (hs:s.nl≤1000) (ht:t.nl≤1000) (bs:s.By) (bt:t.By) (ps:s.np≤1000000) (pt:t.np≤1000000) (fs:∀ k,k<s.np→cS (s.pf k) 32) (ft:∀ k,k<t.np→cS (t.pf k) 32) :
  Pure Tryz.prog aZ 24 [b.av,rcl n R,.agg (s.cells++(t.cells++[.int .i64 leaf]))] (.aX [.int .i64 (lz b R n s t leaf),.bool (ql b R n s t leaf)]):=by
 have c1:=yc R n s hn
 have c2:=yc R n t hn
 have c3:=CV b (l4 R n s) s hw bs.root bs.bM fs ps hs
 have c4:=CV b (l4 R n t) t hw bt.root bt.bM ft pt ht
 have c5:=zG b s t leaf h0 hw hs ht bs bt
 have c6:=fun h hu=>wX b (cj b s t leaf).1 h hu
 refine ar (own:=bq) Tryz.func24 (by kernel_rfl) mixed (by kernel_rfl)
  (let y0:AV:=(.aX [Zi (lz b R n s t leaf),.bool (ql b R n s t leaf)]);(.sc true 72 [.aH 11 n fun i j=>Zi (R i j),.agg (au.cells s)] (.aX [fT.av (l4 R n s),.bool (decide (l7 R n s≥0))]) (.sc true 72 [.aH 11 n fun i j=>Zi (R i j),.agg (au.cells t)] (.aX [fT.av (l4 R n t),.bool (decide (l7 R n t≥0))]) (.sc ((!decide (l7 R n s≥0) || !decide (l7 R n t≥0))==false) 73 [.agg (aI.cells b),.agg (fT.cells (l4 R n s)),.agg (au.cells s)] (.bool (kS b (l4 R n s) s)) (.sc ((!decide (l7 R n s≥0) || !decide (l7 R n t≥0) || !kS b (l4 R n s) s)==false) 73 [.agg (aI.cells b),.agg (fT.cells (l4 R n t)),.agg (au.cells t)] (.bool (kS b (l4 R n t) t)) (.br (!decide (l7 R n s≥0) || !decide (l7 R n t≥0) || !kS b (l4 R n s) s || !kS b (l4 R n t) t) (.out (.aX [Zi 0,.bool false]) [] y0 []) (.sc true 74 [.agg (aI.cells b),.agg (au.cells s),.agg (au.cells t),Zi leaf] (.aX [Zi (Prod.fst (cj b s t leaf)),Zi (Prod.snd (cj b s t leaf))]) (.sc (((cj b s t leaf).2 != 0||(cj b s t leaf).1==0)==false) 75 [.agg (aI.cells b),Zi (cj b s t leaf).1] (Zi (nm b (Prod.fst (cj b s t leaf)))) (.br ((cj b s t leaf).2 != 0||(cj b s t leaf).1==0||nm b (cj b s t leaf).1==1) (.out (.aX [Zi 0,.bool false]) [] y0 []) (.sc true 76 [Zi b.2,Zi (cj b s t leaf).1,Zi (aI.gr b).1] (Zi (b.2^toNat (cj b s t leaf).1%(aI.gr b).1)) (.out (.aX [Zi (b.2^toNat (cj b s t leaf).1%(aI.gr b).1),.bool true]) [] y0 [])))))))))))
  (by kernel_rfl) ?_
 refine aM (c1) ?_
 refine aM (c2) ?_
 refine aW (fun h2=>c3) ?_
 refine aW (fun h3=>c4) ?_
 refine aL (fun h4=>?_) (fun h4=>?_)
 ·have g4:=(aA (aA (aA (aC aa) (aC aa)) (aC aF)) (aC aF)) h4
  exact aq (ay.of_eq (J6 g4))
 ·have g4:=(aw (aw (aw (az af) (az af)) (az aB)) (az aB)) h4
  refine aM (c5) ?_
  refine aW (fun h7=>c6 ((by simp at h7;exact (iY h7.1).1)) ((by simp at h7;exact (iY h7.1).2))) ?_
  refine aL (fun h8=>?_) (fun h8=>?_)
  ·have g8:=(aA (aA aU ai) ai) h8
   exact aq (ay.of_eq (Oy (Mp g4) g8))
  ·have g8:=(aw (aw aR aj) aj) h8
   refine aM (jS (b.2) ((cj b s t leaf).1) ((aI.gr b).1) (by have K:=mW g8.1.1;omega) (by have K:=mW g8.1.1;omega) (by have K:=mW g8.1.1;omega) (by have K:=mW g8.1.1;omega) (by have K:=mW g8.1.1;omega)) ?_
   exact aq (ay.of_eq (Ou (Mp g4) g8))
end Go.Proofs.YtpefjkpdniiaoaaGreatDoor

namespace Go.Sp
open Go.IntKind (wrap)
open Int (toNat)
open Go Go.Am
structure va (g : cH) : Prop where
  sl : g.s.nl ≤ 1000
  tl : g.t.nl ≤ 1000
  sb : g.s.By
  tb : g.t.By
  sp : g.s.np ≤ 1000
  tp : g.t.np ≤ 1000
  sf : ∀ q, q < g.s.np → cS (g.s.pf q) 32
  tf : ∀ q, q < g.t.np → cS (g.t.pf q) 32
  lf : g.leaf ≤ 9223372036854775807
structure jz (k : aS) : Prop where
  w : k.bT.gr.W
  nr : k.nr < 9223372036854775808
  ns : k.ns < 9223372036854775808
  nc : k.nc < 9223372036854775808
  nb : k.nb < 9223372036854775808
  ne : k.ne < 9223372036854775808
  nu : k.nu < 9223372036854775808
  ni : k.ni < 9223372036854775808
  ng : k.ng < 9223372036854775808
  U : yu k.nu k.U
  G : ∀ i, i < k.ng → va (k.G i)
variable {k : aS}
theorem eU:dI k=true↔hdK k=true∧eL k=true∧fN k=true∧fG k.nb k.B k.ne k.E=true∧k.nb=5+k.nc∧ir k.nu k.U=true∧hZ k=true∧k.ng≤200∧∀ i,i<k.ng→oo k i=true:=by
 simp [dI,FT,and_assoc]
theorem oF:hdK k=true↔0≤k.num∧k.num≤7∧aT k.bT=true∧0≤k.bO∧k.bO≤1099511627776∧er k.bT k.sec=true∧0≤k.now∧k.now≤1099511627776:=by
 simp [hdK,and_assoc]
theorem Eg (g:((((¬k.num≥0∨¬k.num≤7)∨aT k.bT=false)∨(¬k.bO≥0∨¬k.bO≤1099511627776))∨er k.bT k.sec=false)∨(¬k.now≥0∨¬k.now≤1099511627776)):dI k=false:=eO fun e=>by
 have e:=oF.1 (eU.1 e).1
 grind
theorem MI (g:((((k.num≥0∧k.num≤7)∧aT k.bT=true)∧(k.bO≥0∧k.bO≤1099511627776))∧er k.bT k.sec=true)∧(k.now≥0∧k.now≤1099511627776)):hdK k=true:=oF.2 (by grind)
theorem yR (g:(((((eL k=false∨fN k=false)∨fG k.nb k.B k.ne k.E=false)∨¬(k.nb:Int)=IntKind.wrap .i64 (5+(k.nc:Int)))∨ir k.nu k.U=false)∨hZ k=false)∨(k.ng:Int)>200):dI k=false:=eO fun e=>by
 have e:=eU.1 e
 have e6:=(ry e.2.2.1).1
 rw [wI (by omega) (by omega)] at g
 grind
theorem FD (hd:hdK k=true) (g:(((((eL k=true∧fN k=true)∧fG k.nb k.B k.ne k.E=true)∧(k.nb:Int)=IntKind.wrap .i64 (5+(k.nc:Int)))∧ir k.nu k.U=true)∧hZ k=true)∧¬(k.ng:Int)>200):(!anyI (fun i => !oo k i) k.ng)=dI k:=by
 have e6:=(ry g.1.1.1.1.1.2).1
 rw [wI (by omega) (by omega)] at g
 cases e:anyI (fun i => !oo k i) k.ng with
 | true =>
  obtain ⟨i,hi,h⟩:=IN e
  exact (eO fun f=>by have:=(eU.1 f).2.2.2.2.2.2.2.2 i hi;rw [this] at h;cases h).symm
 | false =>
  refine (eU.2 ⟨hd,g.1.1.1.1.1.1,g.1.1.1.1.1.2,g.1.1.1.1.2,by have:=g.1.1.1.2;omega,g.1.1.2,g.1.2,by have:=g.2;omega,fun i hi=>?_⟩).symm
  have:=CG e i hi
  simpa using this
theorem Ey (hd:hdK k=true) (g:(((((eL k=true∧fN k=true)∧fG k.nb k.B k.ne k.E=true)∧(k.nb:Int)=IntKind.wrap .i64 (5+(k.nc:Int)))∧ir k.nu k.U=true)∧hZ k=true)∧¬(k.ng:Int)>200) (h:∀ i,i<k.ng→oo k i=true):dI k=true:=by
 have e6:=(ry g.1.1.1.1.1.2).1
 rw [wI (by omega) (by omega)] at g
 exact eU.2 ⟨hd,g.1.1.1.1.1.1,g.1.1.1.1.1.2,g.1.1.1.1.2,by have:=g.1.1.1.2;omega,g.1.1.2,g.1.2,by have:=g.2;omega,h⟩
end Go.Sp

namespace Go.Proofs.YtpefjkpdniiaoaaGreatDoor
open Go.IntKind (wrap)
open Int (toNat)
open Go Go.Am Go.Sp
set_option maxRecDepth 100000
theorem KM (s:Nat→Int) (c:Int):Pure Tryz.prog aZ 36 [.agg (bf s++[.int .i64 c])] (.bool (decide (c≥0)&&decide (c≤1099511627776))):=by
 refine ar (own:=bq) Tryz.func36 (by kernel_rfl) mixed (by kernel_rfl)
  (let y0:AV:=(.bool (decide (c≥0)&&decide (c≤1099511627776)));(.out y0 [] y0 []))
  (by kernel_rfl) ?_
 exact aq (ay.of_eq rfl)
theorem FB (s:Nat→Int) (c:Int):Pure Tryz.prog aZ 65 [.agg (bf s++[.int .i64 c])] (.bool (decide (c≥0)&&decide (c≤1099511627776))):=by
 refine ar (own:=bq) Tryz.func65 (by kernel_rfl) mixed (by kernel_rfl)
  (let y0:AV:=(.bool (decide (c≥0)&&decide (c≤1099511627776)));(.out y0 [] y0 []))
  (by kernel_rfl) ?_
 exact aq (ay.of_eq rfl)
theorem Fz (k:aS) (i:Nat) (hw:k.bT.gr.W) (hn:k.nr≤1000) (hg:va (k.G i)):Pure Tryz.prog aZ 42 [.agg (k.G i).cells,.bJ 50 (aQ k.cells)] (.bool (!oo k i)):=by
 have c1:=ri k.bT k.R k.nr (k.G i).s (k.G i).t (k.G i).leaf hn hw hg.sl hg.tl hg.sb hg.tb (by have:=hg.sp;omega) (by have:=hg.tp;omega) hg.sf hg.tf
 refine ar (own:=bq) Tryz.func42 (by kernel_rfl) mixed (by kernel_rfl)
  (.sc true 20 [.agg (aI.cells (aS.bT k)),.aH 11 k.4 fun i j=>Zi (k.5 i j),.agg (cH.cells (aS.G k i))] (.aX [Zi (lz (aS.bT k) (aS.R k) (aS.nr k) (cH.s (aS.G k i)) (cH.t (aS.G k i)) (cH.leaf (aS.G k i))),.bool (ql (aS.bT k) (aS.R k) (aS.nr k) (cH.s (aS.G k i)) (cH.t (aS.G k i)) (cH.leaf (aS.G k i)))]) (.out (.bool !ql k.2 k.5 k.4 (aS.G k i).1 (aS.G k i).2 (aS.G k i).3) [] (.bool !oo k i) []))
  (by kernel_rfl) ?_
 refine aM (c1) ?_
 exact aq (ay.of_eq rfl)
theorem JZ (k:aS) (hk:jz k) (hn:k.nr≤1000):Pure Tryz.prog aZ 45 [mS k.ng k.G,.fn (.func 42) [] [.bJ 50 (aQ k.cells)]] (.int .i64 (aG (fun i => !oo k i) k.ng 0)):=by
 have c1:=fun i (h:i<k.ng)=>Fz k i hk.w hn (hk.G i h)
 have hng:=hk.ng
 refine ar (own:=bq) Tryz.func45 (by kernel_rfl) mixed (by kernel_rfl)
  (let y0:=(fun (x:{ x:Nat // x≤aS.ng k∧(fun i=>aG (fun i => !oo k i) (aS.ng k) 0=aG (fun i => !oo k i) (aS.ng k - i) i) x })=>aY [0,1,7,8] [.aH 161 k.18 fun i j=>aQ (cH.cells (aS.G k i)) j,AV.fn (Fn.func (42:FuncId)) [] [AV.bJ 50 (aQ (aS.cells k))],Zi k.18,Zi x.1] []);let y1:=(fun (x:{ x:Nat // x≤aS.ng k∧(fun i=>aG (fun i => !oo k i) (aS.ng k) 0=aG (fun i => !oo k i) (aS.ng k - i) i) x })=>aS.ng k - x.1);let y2:AV:=(Zi (aG (fun i => !oo k i) (aS.ng k) 0));(.loop ({ x:Nat // x≤aS.ng k∧(fun i=>aG (fun i => !oo k i) (aS.ng k) 0=aG (fun i => !oo k i) (aS.ng k - i) i) x }) y0 y1 (⟨0,⟨Nat.zero_le (aS.ng k),rfl⟩⟩) [0,1,7,8] [] [.aH 161 k.18 fun i j=>aQ (cH.cells (aS.G k i)) j,AV.fn (Fn.func (42:FuncId)) [] [AV.bJ 50 (aQ (aS.cells k))],Zi k.18,Zi 0] [] (fun x0=>(.br (decide ((x0.1:Int)<(k.18:Int))) (.bj (0≤(x0.1:Int)∧(x0.1:Int)<(k.18:Int)) (.sc true 42 [.agg (cH.cells (aS.G k (toNat (↑(x0.1):Int)))),AV.bJ 50 (aQ (aS.cells k))] (.bool !oo k (toNat (↑(x0.1):Int))) (.br (!oo k (toNat (x0.1:Int))) (.out (Zi x0.1) [] y2 []) (.again (bh 0 y0 y1 x0) [0,1,7,8] [] [.aH 161 k.18 fun i j=>aQ (cH.cells (aS.G k i)) j,AV.fn (Fn.func (42:FuncId)) [] [AV.bJ 50 (aQ (aS.cells k))],Zi k.18,Zi (wrap .i64 ((x0.1:Int)+1))] [])))) (.out (Zi (-1)) [] y2 [])))))
  (by kernel_rfl) ?_
 refine aV (fun _ hs=>hs.le (⟨.refl _,.refl _,.refl _,.refl _,trivial⟩) (trivial)) (fun x0=>?_)
 try (have q0:=x0.2;dsimp only at q0)
 refine aL (fun h1=>?_) (fun h1=>?_)
 ·have g1:=af h1
  refine aD (by omega) ?_
  refine aM (c1 (toNat (↑(x0.1):Int)) (by omega)) ?_
  refine aL (fun h4=>?_) (fun h4=>?_)
  ·have g4:=(aC aF) h4
   try simp only [Int.toNat_natCast] at g4
   exact aq (ay.of_eq (congrArg _ (cr x0.2.2 (by omega) (by rw [g4];rfl))))
  ·have g4:=(az aB) h4
   try simp only [Int.toNat_natCast] at g4
   exact aN (⟨x0.1+1,by omega,bS x0.2.2 (by omega) (by rw [g4];rfl)⟩) (fun _ hs=>hs.le (⟨.refl _,.refl _,.refl _,aK (by omega),trivial⟩) (trivial)) (by dsimp only;omega)
 ·have g1:=aa h1
  exact aq (ay.of_eq (congrArg _ (bW x0.2.2 (by omega))))
theorem KB (k:aS) (hk:jz k) (hn:k.nr≤1000):Pure Tryz.prog aZ 16 [mS k.ng k.G,.fn (.func 42) [] [.bJ 50 (aQ k.cells)]] (.bool (anyI (fun i => !oo k i) k.ng)):=by
 refine ar (own:=bq) Tryz.func16 (by kernel_rfl) mixed (by kernel_rfl)
  (.sc true 45 [.aH 161 k.18 fun i j=>aQ (cH.cells (aS.G k i)) j,AV.fn (Fn.func (42:FuncId)) [] [AV.bJ 50 (aQ (aS.cells k))]] (Zi (aG (fun i => !oo k i) (aS.ng k) 0)) (.out (.bool (decide (aG (fun i => !oo k i) k.18 0≥0))) [] (.bool (anyI (fun i => !oo k i) (aS.ng k))) []))
  (by kernel_rfl) ?_
 refine aM ((JZ k hk hn)) ?_
 exact aq (ay.refl _)
theorem p7 (k:aS) (hk:jz k):Pure Tryz.prog aZ 10 [.agg k.cells] (.bool (dI k)):=by
 have c0:=eF k.bT hk.w
 have c1:=KM k.tA k.bO
 have c2:=w3 k.bT k.sec
 have c3:=fun h=>Gl k h hk.w hk.nr hk.ns
 have c4:=E1 k hk.w hk.nc
 have c5:=Ej k.nb k.B k.ne k.E hk.nb hk.ne
 have c6:=Jb k.nu k.U hk.nu hk.U
 have c7:=fun h hr=>ER k h hk.w hr hk.nc hk.ni
 have c8:=fun h=>KB k hk h
 have hnc:=hk.nc
 refine ar (own:=bq) Tryz.func10 (by kernel_rfl) mixed (by kernel_rfl)
  (let y0:List AV:=[.agg (aS.cells k)];(.sc true 32 [Zi k.1,Zi 0,Zi 7] (.bool (decide (k.1≥0)&&decide (k.1≤7))) (.sc ((!(decide (k.1≥0)&&decide (k.1≤7)))==false) 31 [.agg (aI.cells (aS.bT k))] (.bool (aT (aS.bT k))) (.sc ((!(decide (k.1≥0)&&decide (k.1≤7)) || !aT k.2)==false) 36 [.agg (bf k.20++[Zi k.21])] (.bool (decide (aS.bO k≥0)&&decide (aS.bO k≤1099511627776))) (.sc ((!(decide (k.1≥0)&&decide (k.1≤7)) || !aT k.2 || !(decide (k.21≥0)&&decide (k.21≤1099511627776)))==false) 33 [.agg (aI.cells (aS.bT k)),Zi k.3] (.bool (er (aS.bT k) (aS.sec k))) (.sc ((!(decide (k.1≥0)&&decide (k.1≤7)) || !aT k.2 || !(decide (k.21≥0)&&decide (k.21≤1099511627776)) || !er k.2 k.3)==false) 32 [Zi k.22,Zi 0,Zi 1099511627776] (.bool (decide (k.22≥0)&&decide (k.22≤1099511627776))) (.br (!(decide (k.1≥0)&&decide (k.1≤7)) || !aT k.2 || !(decide (k.21≥0)&&decide (k.21≤1099511627776)) || !er k.2 k.3 || !(decide (k.22≥0)&&decide (k.22≤1099511627776))) (.out (.bool false) [] (.bool (dI k)) []) (.sc true 37 (y0) (.bool (eL k)) (.sc ((!eL k)==false) 38 (y0) (.bool (fN k)) (.sc ((!eL k || !fN k)==false) 39 [.agg [.aH 1 k.10 fun i x=>Zi (k.11 i),.aH 4 k.12 fun i j=>Zi (k.13 i j)]] (.bool (fG (aS.nb k) (aS.B k) (aS.ne k) (aS.E k))) (.sc ((!eL k || !fN k || !fG k.10 k.11 k.12 k.13||(k.10:Int) != wrap .i64 ((5:Int)+(k.8:Int)))==false) 40 [.agg [.aH 83 k.14 fun i j=>aQ (db.cells (aS.U k i)) j]] (.bool (ir (aS.nu k) (aS.U k))) (.sc ((!eL k || !fN k || !fG k.10 k.11 k.12 k.13||(k.10:Int) != wrap .i64 ((5:Int)+(k.8:Int)) || !ir k.14 k.15)==false) 41 (y0) (.bool (hZ k)) (.br (!eL k || !fN k || !fG k.10 k.11 k.12 k.13||(k.10:Int) != wrap .i64 ((5:Int)+(k.8:Int)) || !ir k.14 k.15 || !hZ k||decide ((k.18:Int)>200)) (.out (.bool false) [] (.bool (dI k)) []) (.sc true 16 [.aH 161 k.18 fun i j=>aQ (cH.cells (aS.G k i)) j,AV.fn (Fn.func 42) [] [AV.bJ 50 fun k_1=>aQ (aS.cells k) k_1]] (.bool (anyI (fun i => !oo k i) (aS.ng k))) (.out (.bool !anyI (fun i => !oo k i) k.18) [] (.bool (dI k)) [])))))))))))))))
  (by kernel_rfl) ?_
 refine aM (qO (k.1) ((0:Int)) ((7:Int))) ?_
 refine aW (fun h1=>c0) ?_
 refine aW (fun h2=>c1) ?_
 refine aW (fun h3=>c2) ?_
 refine aW (fun h4=>qO (k.22) ((0:Int)) ((1099511627776:Int))) ?_
 refine aL (fun h5=>?_) (fun h5=>?_)
 ·have g5:=(aA (aA (aA (aA (aC (ao aa aa)) (aC aF)) (aC (ao aa aa))) (aC aF)) (aC (ao aa aa))) h5
  exact aq (ay.of_eq (congrArg AV.bool (Eg g5).symm))
 ·have g5:=(aw (aw (aw (aw (az (ah af af)) (az aB)) (az (ah af af))) (az aB)) (az (ah af af))) h5
  refine aM (c3 (bH.1 g5.1.1.1.2)) ?_
  refine aW (fun h8=>c4) ?_
  refine aW (fun h9=>c5) ?_
  refine aW (fun h10=>c6) ?_
  refine aW (fun h11=>c7 (bH.1 g5.1.1.1.2) (rk (by cases e:eL k with|true=>rfl|false=>rw [e] at h11;simp at h11))) ?_
  refine aL (fun h12=>?_) (fun h12=>?_)
  ·have g12:=(aA (aA (aA (aA (aA (aA (aC aF) (aC aF)) (aC aF)) aU) (aC aF)) (aC aF)) af) h12
   exact aq (ay.of_eq (congrArg AV.bool (yR g12).symm))
  ·have g12:=(aw (aw (aw (aw (aw (aw (az aB) (az aB)) (az aB)) aR) (az aB)) (az aB)) aa) h12
   refine aM (c8 (by have:=(rk g12.1.1.1.1.1.1).hi;omega)) ?_
   exact aq (ay.of_eq (congrArg AV.bool (FD (MI g5) g12)))
theorem G8 (k:aS) (hk:jz k):Pure Tryz.prog aZ 23 [.agg k.cells] (.bool (dI k)):=by
 have c0:=gG k.bT hk.w
 have c1:=FB k.tA k.bO
 have c2:=Bh k.bT k.sec
 have c3:=fun h=>G5 k h hk.w hk.nr hk.ns
 have c4:=Hd k hk.w hk.nc
 have c5:=F7 k.nb k.B k.ne k.E hk.nb hk.ne
 have c6:=Fu k.nu k.U hk.nu hk.U
 have c7:=fun h hr=>GO k h hk.w hr hk.nc hk.ni
 have c8:=fun i (h:i<k.ng) hn=>qa k.bT k.R k.nr (k.G i).s (k.G i).t (k.G i).leaf (hk.G i h).lf hn hk.w (hk.G i h).sl (hk.G i h).tl (hk.G i h).sb (hk.G i h).tb (by have:=(hk.G i h).sp;omega) (by have:=(hk.G i h).tp;omega) (hk.G i h).sf (hk.G i h).tf
 have hnc:=hk.nc
 refine ar (own:=bq) Tryz.func23 (by kernel_rfl) mixed (by kernel_rfl)
  (let y0:List (Option Ob):=[some ⟨50,1,true,.bc [aS.cells k]⟩];let y1:List AV:=[.agg (aS.cells k)];(.sc true 63 [Zi k.1,Zi 0,Zi 7] (.bool (decide (k.1≥0)&&decide (k.1≤7))) (.sc ((!(decide (k.1≥0)&&decide (k.1≤7)))==false) 64 [.agg (aI.cells (aS.bT k))] (.bool (aT (aS.bT k))) (.sc ((!(decide (k.1≥0)&&decide (k.1≤7)) || !aT k.2)==false) 65 [.agg (bf k.20++[Zi k.21])] (.bool (decide (aS.bO k≥0)&&decide (aS.bO k≤1099511627776))) (.sc ((!(decide (k.1≥0)&&decide (k.1≤7)) || !aT k.2 || !(decide (k.21≥0)&&decide (k.21≤1099511627776)))==false) 66 [.agg [Zi (aI.gr (aS.bT k)).1,Zi (aI.gr (aS.bT k)).2,Zi (aI.gr (aS.bT k)).3],Zi k.3] (.bool (er (aS.bT k) (aS.sec k))) (.sc ((!(decide (k.1≥0)&&decide (k.1≤7)) || !aT k.2 || !(decide (k.21≥0)&&decide (k.21≤1099511627776)) || !er k.2 k.3)==false) 63 [Zi k.22,Zi 0,Zi 1099511627776] (.bool (decide (k.22≥0)&&decide (k.22≤1099511627776))) (.br (!(decide (k.1≥0)&&decide (k.1≤7)) || !aT k.2 || !(decide (k.21≥0)&&decide (k.21≤1099511627776)) || !er k.2 k.3 || !(decide (k.22≥0)&&decide (k.22≤1099511627776))) (.out (.bool false) [] (.bool (dI k)) []) (.sc true 67 (y1) (.bool (eL k)) (.sc ((!eL k)==false) 68 (y1) (.bool (fN k)) (.sc ((!eL k || !fN k)==false) 69 [.agg [.aH 1 k.10 fun i x=>Zi (k.11 i),.aH 4 k.12 fun i j=>Zi (k.13 i j)]] (.bool (fG (aS.nb k) (aS.B k) (aS.ne k) (aS.E k))) (.sc ((!eL k || !fN k || !fG k.10 k.11 k.12 k.13||(k.10:Int) != wrap .i64 ((5:Int)+(k.8:Int)))==false) 70 [.agg [.aH 83 k.14 fun i j=>aQ (db.cells (aS.U k i)) j]] (.bool (ir (aS.nu k) (aS.U k))) (.sc ((!eL k || !fN k || !fG k.10 k.11 k.12 k.13||(k.10:Int) != wrap .i64 ((5:Int)+(k.8:Int)) || !ir k.14 k.15)==false) 71 (y1) (.bool (hZ k)) (.br (!eL k || !fN k || !fG k.10 k.11 k.12 k.13||(k.10:Int) != wrap .i64 ((5:Int)+(k.8:Int)) || !ir k.14 k.15 || !hZ k||decide ((k.18:Int)>200)) (.out (.bool false) [] (.bool (dI k)) []) (.loop ({ x:Nat // x≤aS.ng k∧(fun (i:Nat)=>∀ (j:Nat),j<i→oo k j=true) x }) (fun x=>aY [1,3] [.own 0 50 0 0 50,Zi x.1] y0) (fun x=>aS.ng k - x.1) (⟨0,⟨Nat.zero_le (aS.ng k),fun (j:Nat) (hj:j<0)=>absurd hj (Nat.not_lt_zero j)⟩⟩) [1,3] [0] [.own 0 50 0 0 50,Zi 0] (y0) (fun x14=>(.br (decide ((x14.1:Int)<(k.18:Int))) (.bj (0≤(x14.1:Int)∧(x14.1:Int)<(k.18:Int)) (.sc true 24 [.agg (aI.cells (aS.bT k)),.aH 11 k.4 fun i j=>Zi (k.5 i j),.agg (cH.cells (aS.G k (toNat (↑(x14.1):Int))))] (.aX [Zi (lz (aS.bT k) (aS.R k) (aS.nr k) (cH.s (aS.G k (toNat (↑(x14.1):Int)))) (cH.t (aS.G k (toNat (↑(x14.1):Int)))) (cH.leaf (aS.G k (toNat (↑(x14.1):Int))))),.bool (ql (aS.bT k) (aS.R k) (aS.nr k) (cH.s (aS.G k (toNat (↑(x14.1):Int)))) (cH.t (aS.G k (toNat (↑(x14.1):Int)))) (cH.leaf (aS.G k (toNat (↑(x14.1):Int)))))]) (.br (!ql k.2 k.5 k.4 (aS.G k (toNat (↑(x14.1):Int))).1 (aS.G k (toNat (↑(x14.1):Int))).2 (aS.G k (toNat (↑(x14.1):Int))).3) (.out (.bool false) [] (.bool (dI k)) []) (.again (bh 0 (fun x=>aY [1,3] [.own 0 50 0 0 50,Zi x.1] y0) (fun x=>aS.ng k - x.1) x14) [1,3] [0] [.own 0 50 0 0 50,Zi (wrap .i64 ((x14.1:Int)+1))] (y0))))) (.out (.bool true) [] (.bool (dI k)) [])))))))))))))))))
  (by kernel_rfl) ?_
 refine aM (wJ (k.1) ((0:Int)) ((7:Int))) ?_
 refine aW (fun h1=>c0) ?_
 refine aW (fun h2=>c1) ?_
 refine aW (fun h3=>c2) ?_
 refine aW (fun h4=>wJ (k.22) ((0:Int)) ((1099511627776:Int))) ?_
 refine aL (fun h5=>?_) (fun h5=>?_)
 ·have g5:=(aA (aA (aA (aA (aC (ao aa aa)) (aC aF)) (aC (ao aa aa))) (aC aF)) (aC (ao aa aa))) h5
  exact aq (ay.of_eq (congrArg AV.bool (Eg g5).symm))
 ·have g5:=(aw (aw (aw (aw (az (ah af af)) (az aB)) (az (ah af af))) (az aB)) (az (ah af af))) h5
  refine aM (c3 (bH.1 g5.1.1.1.2)) ?_
  refine aW (fun h8=>c4) ?_
  refine aW (fun h9=>c5) ?_
  refine aW (fun h10=>c6) ?_
  refine aW (fun h11=>c7 (bH.1 g5.1.1.1.2) (rk (by cases e:eL k with|true=>rfl|false=>rw [e] at h11;simp at h11))) ?_
  refine aL (fun h12=>?_) (fun h12=>?_)
  ·have g12:=(aA (aA (aA (aA (aA (aA (aC aF) (aC aF)) (aC aF)) aU) (aC aF)) (aC aF)) af) h12
   exact aq (ay.of_eq (congrArg AV.bool (yR g12).symm))
  ·have g12:=(aw (aw (aw (aw (aw (aw (az aB) (az aB)) (az aB)) aR) (az aB)) (az aB)) aa) h12
   refine aV (fun _ hs=>hs.le (⟨.refl _,.refl _,trivial⟩) (⟨.refl _,trivial⟩)) (fun x14=>?_)
   try (have q14:=x14.2;dsimp only at q14)
   refine aL (fun h15=>?_) (fun h15=>?_)
   ·have g15:=af h15
    refine aD (by omega) ?_
    refine aM (c8 (toNat (↑(x14.1):Int)) (by omega) (by have:=(rk g12.1.1.1.1.1.1).hi;omega)) ?_
    refine aL (fun h18=>?_) (fun h18=>?_)
    ·have g18:=(aC aF) h18
     try simp only [Int.toNat_natCast] at g18
     exact aq (ay.of_eq (congrArg AV.bool (eO fun e=>by have:=(eU.1 e).2.2.2.2.2.2.2.2 x14.1 (by omega);unfold oo at this;rw [g18] at this;cases this).symm))
    ·have g18:=(az aB) h18
     try simp only [Int.toNat_natCast] at g18
     exact aN (⟨x14.1+1,by omega,cN x14.2.2 g18⟩) (fun _ hs=>hs.le (⟨.refl _,aK (by omega),trivial⟩) (⟨.refl _,trivial⟩)) (by dsimp only;omega)
   ·have g15:=aa h15
    exact aq (ay.of_eq (congrArg AV.bool (Ey (MI g5) g12 fun i hi=>x14.2.2 i (by omega)).symm))
theorem NF:Pure Tryz.prog aZ 52 [.bn] .bn:=by
 refine ar (own:=bq) Tryz.func52 (by kernel_rfl) mixed (by kernel_rfl)
  (.tt (.out (.bn) [] (.bn) []))
  (by kernel_rfl) ?_
 refine gp ?_
 exact aq (ay.of_eq rfl)
theorem Lo (n:Nat) (f:Nat→Int) (hn:n≤100000):Pure Tryz.prog aZ 52 [.nn (js n f)] (js n f):=by
 refine ar (own:=bq) Tryz.func52 (by kernel_rfl) mixed (by kernel_rfl)
  (.ff (.bj ((0+n)*8≤140737488355328) (.out (.aH 1 (0+n) fun r k=>Zi (f (r+0))) [] (js n f) [])))
  (by kernel_rfl) ?_
 refine cz ?_
 refine aD (by omega) ?_
 exact aq (ay.of_eq (by simp<;>rfl))
theorem yx (n:Nat) (f:Nat→Int) (hn:n≤100000):Pure Tryz.prog aZ 52 [js n f] (js n f) :=
 bI.eS [] [] 1 n _ (fun h=>by subst h;exact NF.tM ay.bn) (Lo n _ hn)
theorem NN:Pure Tryz.prog aZ 54 [.bn] .bn:=by
 refine ar (own:=bq) Tryz.func54 (by kernel_rfl) mixed (by kernel_rfl)
  (.tt (.out (.bn) [] (.bn) []))
  (by kernel_rfl) ?_
 refine gp ?_
 exact aq (ay.of_eq rfl)
theorem Mk (n:Nat) (f:Nat→Nat→Int) (hn:n≤100000):Pure Tryz.prog aZ 54 [.nn (lV n f)] (lV n f):=by
 refine ar (own:=bq) Tryz.func54 (by kernel_rfl) mixed (by kernel_rfl)
  (.ff (.bj ((0+n)*32≤140737488355328) (.out (.aH 4 (0+n) fun r k=>Zi (f (r+0) k)) [] (lV n f) [])))
  (by kernel_rfl) ?_
 refine cz ?_
 refine aD (by omega) ?_
 exact aq (ay.of_eq (by simp<;>rfl))
theorem LF (n:Nat) (f:Nat→Nat→Int) (hn:n≤100000):Pure Tryz.prog aZ 54 [lV n f] (lV n f) :=
 bI.eS [] [] 4 n _ (fun h=>by subst h;exact NN.tM ay.bn) (Mk n _ hn)
theorem NQ:Pure Tryz.prog aZ 53 [.bn] .bn:=by
 refine ar (own:=bq) Tryz.func53 (by kernel_rfl) mixed (by kernel_rfl)
  (.tt (.out (.bn) [] (.bn) []))
  (by kernel_rfl) ?_
 refine gp ?_
 exact aq (ay.of_eq rfl)
theorem NI (n:Nat) (f:Nat→Nat→Int) (hn:n≤100000):Pure Tryz.prog aZ 53 [.nn (tr n f)] (tr n f):=by
 refine ar (own:=bq) Tryz.func53 (by kernel_rfl) mixed (by kernel_rfl)
  (.ff (.bj ((0+n)*168≤140737488355328) (.out (.aH 21 (0+n) fun r k=>Zi (f (r+0) k)) [] (tr n f) [])))
  (by kernel_rfl) ?_
 refine cz ?_
 refine aD (by omega) ?_
 exact aq (ay.of_eq (by simp<;>rfl))
theorem LX (n:Nat) (f:Nat→Nat→Int) (hn:n≤100000):Pure Tryz.prog aZ 53 [tr n f] (tr n f) :=
 bI.eS [] [] 21 n _ (fun h=>by subst h;exact NQ.tM ay.bn) (NI n _ hn)
theorem M1:Pure Tryz.prog aZ 51 [.bn] .bn:=by
 refine ar (own:=bq) Tryz.func51 (by kernel_rfl) mixed (by kernel_rfl)
  (.tt (.out (.bn) [] (.bn) []))
  (by kernel_rfl) ?_
 refine gp ?_
 exact aq (ay.of_eq rfl)
theorem Nk (n:Nat) (f:Nat→Nat→Int) (hn:n≤100000):Pure Tryz.prog aZ 51 [.nn (.aH 11 n fun i j=>.int .i64 (f i j))] (.aH 11 n fun i j=>.int .i64 (f i j)):=by
 refine ar (own:=bq) Tryz.func51 (by kernel_rfl) mixed (by kernel_rfl)
  (.ff (.bj ((0+n)*88≤140737488355328) (.out (.aH 11 (0+n) fun r k=>Zi (f (r+0) k)) [] (.aH 11 n fun i j=>Zi (f i j)) [])))
  (by kernel_rfl) ?_
 refine cz ?_
 refine aD (by omega) ?_
 exact aq (ay.of_eq (by simp<;>rfl))
theorem Mn (n:Nat) (f:Nat→Nat→Int) (hn:n≤100000):Pure Tryz.prog aZ 51 [.aH 11 n fun i j=>.int .i64 (f i j)] (.aH 11 n fun i j=>.int .i64 (f i j)) :=
 bI.eS [] [] 11 n _ (fun h=>by subst h;exact M1.tM ay.bn) (Nk n _ hn)
theorem LD:Pure Tryz.prog aZ 106 [.bn] .bn:=by
 refine ar (own:=bq) Tryz.func106 (by kernel_rfl) mixed (by kernel_rfl)
  (.tt (.out (.bn) [] (.bn) []))
  (by kernel_rfl) ?_
 refine gp ?_
 exact aq (ay.of_eq rfl)
theorem Ml (n:Nat) (f:Nat→Nat→Int) (hn:n≤100000):Pure Tryz.prog aZ 106 [.nn (uQ n f)] (uQ n f):=by
 refine ar (own:=bq) Tryz.func106 (by kernel_rfl) mixed (by kernel_rfl)
  (.ff (.bj ((0+n)*24≤140737488355328) (.out (.aH 3 (0+n) fun r k=>Zi (f (r+0) k)) [] (uQ n f) [])))
  (by kernel_rfl) ?_
 refine cz ?_
 refine aD (by omega) ?_
 exact aq (ay.of_eq (by simp<;>rfl))
theorem MW (n:Nat) (f:Nat→Nat→Int) (hn:n≤100000):Pure Tryz.prog aZ 106 [uQ n f] (uQ n f) :=
 bI.eS [] [] 3 n _ (fun h=>by subst h;exact LD.tM ay.bn) (Ml n _ hn)
theorem Ln:Pure Tryz.prog aZ 107 [.bn] .bn:=by
 refine ar (own:=bq) Tryz.func107 (by kernel_rfl) mixed (by kernel_rfl)
  (.tt (.out (.bn) [] (.bn) []))
  (by kernel_rfl) ?_
 refine gp ?_
 exact aq (ay.of_eq rfl)
theorem M7 (n:Nat) (f:Nat→Nat→Int) (hn:n≤100000):Pure Tryz.prog aZ 107 [.nn (zD n f)] (zD n f):=by
 refine ar (own:=bq) Tryz.func107 (by kernel_rfl) mixed (by kernel_rfl)
  (.ff (.bj ((0+n)*32≤140737488355328) (.out (.aH 32 (0+n) fun r k=>Zb (f (r+0) k)) [] (zD n f) [])))
  (by kernel_rfl) ?_
 refine cz ?_
 refine aD (by omega) ?_
 exact aq (ay.of_eq (by simp<;>rfl))
theorem MY (n:Nat) (f:Nat→Nat→Int) (hn:n≤100000):Pure Tryz.prog aZ 107 [zD n f] (zD n f) :=
 bI.eS [] [] 32 n _ (fun h=>by subst h;exact Ln.tM ay.bn) (M7 n _ hn)
theorem NK:bI Tryz.prog aZ 104 [] [.bn] .bn []:=by
 refine cg (own:=bq) (hand:=true) Tryz.func104 (by kernel_rfl) mixed (by kernel_rfl)
  (.tt (.out (.bn) [] (.bn) []))
  (by kernel_rfl) ?_
 refine gp ?_
 exact aq (ay.refl _)
theorem M0 (n:Nat) (f:Nat→cU) (hn:n≤100000):bI Tryz.prog aZ 104 [] [.nn (wg n f)] (.ba 0 7 0 n) [some ⟨7,n,true,.row fun i=>(f i).cells⟩]:=by
 refine cg (own:=bq) (hand:=true) Tryz.func104 (by kernel_rfl) mixed (by kernel_rfl)
  (.ff (.bj ((0+n)*88≤140737488355328) (.out (.ba 0 7 0 (0+n)) [some ⟨7,0+n,true,bA.row fun i=>cU.cells (f i)⟩] (.ba 0 7 0 n) [some ⟨7,n,true,bA.row fun i=>cU.cells (f i)⟩])))
  (by kernel_rfl) ?_
 refine cz ?_
 refine aD (by omega) ?_
 exact da (ay.of_eq (by simp)) (⟨⟨rfl,by simp,rfl,fun i j _ _=>ay.of_eq (by simp<;>rfl)⟩,trivial⟩)
theorem L0 (n:Nat) (f:Nat→cU) (hn:n≤100000):bI Tryz.prog aZ 104 [] [wg n f] (.ba 0 7 0 n) [some ⟨7,n,true,.row fun i=>(f i).cells⟩] :=
 bI.eS [] [] 7 n _ (fun h=>by subst h;exact NK.nil 7 _) (M0 n _ hn)
theorem NO:bI Tryz.prog aZ 105 [] [.bn] .bn []:=by
 refine cg (own:=bq) (hand:=true) Tryz.func105 (by kernel_rfl) mixed (by kernel_rfl)
  (.tt (.out (.bn) [] (.bn) []))
  (by kernel_rfl) ?_
 refine gp ?_
 exact aq (ay.refl _)
theorem Mr (n:Nat) (f:Nat→db) (hn:n≤100000):bI Tryz.prog aZ 105 [] [.nn (mV n f)] (.ba 0 83 0 n) [some ⟨83,n,true,.row fun i=>(f i).cells⟩]:=by
 refine cg (own:=bq) (hand:=true) Tryz.func105 (by kernel_rfl) mixed (by kernel_rfl)
  (.ff (.bj ((0+n)*248≤140737488355328) (.out (.ba 0 83 0 (0+n)) [some ⟨83,0+n,true,bA.row fun i=>db.cells (f i)⟩] (.ba 0 83 0 n) [some ⟨83,n,true,bA.row fun i=>db.cells (f i)⟩])))
  (by kernel_rfl) ?_
 refine cz ?_
 refine aD (by omega) ?_
 exact da (ay.of_eq (by simp)) (⟨⟨rfl,by simp,rfl,fun i j _ _=>ay.of_eq (by simp<;>rfl)⟩,trivial⟩)
theorem LK (n:Nat) (f:Nat→db) (hn:n≤100000):bI Tryz.prog aZ 105 [] [mV n f] (.ba 0 83 0 n) [some ⟨83,n,true,.row fun i=>(f i).cells⟩] :=
 bI.eS [] [] 83 n _ (fun h=>by subst h;exact NO.nil 83 _) (Mr n _ hn)
theorem L6:bI Tryz.prog aZ 108 [] [.bn] .bn []:=by
 refine cg (own:=bq) (hand:=true) Tryz.func108 (by kernel_rfl) mixed (by kernel_rfl)
  (.tt (.out (.bn) [] (.bn) []))
  (by kernel_rfl) ?_
 refine gp ?_
 exact aq (ay.refl _)
theorem LP (n:Nat) (f:Nat→cH) (hn:n≤100000):bI Tryz.prog aZ 108 [] [.nn (mS n f)] (.ba 0 161 0 n) [some ⟨161,n,true,.row fun i=>(f i).cells⟩]:=by
 refine cg (own:=bq) (hand:=true) Tryz.func108 (by kernel_rfl) mixed (by kernel_rfl)
  (.ff (.bj ((0+n)*456≤140737488355328) (.out (.ba 0 161 0 (0+n)) [some ⟨161,0+n,true,bA.row fun i=>cH.cells (f i)⟩] (.ba 0 161 0 n) [some ⟨161,n,true,bA.row fun i=>cH.cells (f i)⟩])))
  (by kernel_rfl) ?_
 refine cz ?_
 refine aD (by omega) ?_
 exact da (ay.of_eq (by simp)) (⟨⟨rfl,by simp,rfl,fun i j _ _=>ay.of_eq (by simp<;>rfl)⟩,trivial⟩)
theorem MM (n:Nat) (f:Nat→cH) (hn:n≤100000):bI Tryz.prog aZ 108 [] [mS n f] (.ba 0 161 0 n) [some ⟨161,n,true,.row fun i=>(f i).cells⟩] :=
 bI.eS [] [] 161 n _ (fun h=>by subst h;exact L6.nil 161 _) (LP n _ hn)
theorem BV (s:au) (hl:s.nl≤1000) (hp:s.np≤1000):Pure Tryz.prog aZ 60 [s.av] s.av:=by
 have c1:=MW s.nl s.lf (by omega)
 have c2:=MY s.np s.pf (by omega)
 refine ar (own:=bq) Tryz.func60 (by kernel_rfl) mixed (by kernel_rfl)
  (.dc true 106 [.aH 3 s.16 fun i j=>Zi (s.17 i j)] (uQ (au.nl s) (au.lf s)) (.dc true 107 [.aH 32 s.19 fun i j=>Zb (s.20 i j)] (zD (au.np s) (au.pf s)) (.out (.agg (au.cells s)) [] (au.av s) [])))
  (by kernel_rfl) ?_
 refine b9 (c1) ?_
 refine b9 (c2) ?_
 exact aq (ay.refl _)
theorem Nl (g:cH) (h1:g.s.nl≤1000) (h2:g.s.np≤1000) (h3:g.t.nl≤1000) (h4:g.t.np≤1000):Pure Tryz.prog aZ 62 [.agg g.cells] (.agg g.cells):=by
 have c1:=BV g.s h1 h2
 have c2:=BV g.t h3 h4
 refine ar (own:=bq) Tryz.func62 (by kernel_rfl) mixed (by kernel_rfl)
  (.dc true 60 [.agg (au.cells (cH.s g))] (au.av (cH.s g)) (.dc true 60 [.agg (au.cells (cH.t g))] (au.av (cH.t g)) (.out (.agg (cH.cells g)) [] (.agg (cH.cells g)) [])))
  (by kernel_rfl) ?_
 refine b9 (c1) ?_
 refine b9 (c2) ?_
 exact aq (ay.refl _)
theorem LL (y:Int) (p:Pf) (h1:p.na≤1000) (h2:p.nz≤1000):Pure Tryz.prog aZ 57 [.agg (.int .i64 y::p.cells)] (.agg (.int .i64 y::p.cells)):=by
 have c1:=yx p.na p.a (by omega)
 have c2:=yx p.nz p.z (by omega)
 refine ar (own:=bq) Tryz.func57 (by kernel_rfl) mixed (by kernel_rfl)
  (.dc true 52 [.aH 1 p.1 fun i x=>Zi (p.2 i)] (js (Pf.na p) (Pf.a p)) (.dc true 52 [.aH 1 p.4 fun i x=>Zi (p.5 i)] (js (Pf.nz p) (Pf.z p)) (.out (.agg [Zi y,.aH 1 p.1 fun i x=>Zi (p.2 i),Zi p.3,.aH 1 p.4 fun i x=>Zi (p.5 i)]) [] (.agg (Zi y::Pf.cells p)) [])))
  (by kernel_rfl) ?_
 refine b9 (c1) ?_
 refine b9 (c2) ?_
 exact aq (ay.refl _)
theorem Nx (c:cU) (h1:c.pf.na≤1000) (h2:c.pf.nz≤1000):Pure Tryz.prog aZ 56 [.agg c.cells] (.agg c.cells):=by
 have c1:=LL c.key c.pf h1 h2
 refine ar (own:=bq) Tryz.func56 (by kernel_rfl) mixed (by kernel_rfl)
  (.dc true 57 [.agg [Zi c.1,.aH 1 (cU.pf c).1 fun i x=>Zi ((cU.pf c).2 i),Zi (cU.pf c).3,.aH 1 (cU.pf c).4 fun i x=>Zi ((cU.pf c).5 i)]] (.agg (Zi (cU.key c)::Pf.cells (cU.pf c))) (.out (.agg (cU.cells c)) [] (.agg (cU.cells c)) []))
  (by kernel_rfl) ?_
 refine b9 (c1) ?_
 exact aq (ay.refl _)
theorem Ng (u:db) (h1:u.sp.nl≤1000) (h2:u.sp.np≤1000):Pure Tryz.prog aZ 59 [.agg u.cells] (.agg u.cells):=by
 have c1:=BV u.sp h1 h2
 refine ar (own:=bq) Tryz.func59 (by kernel_rfl) mixed (by kernel_rfl)
  (.dc true 60 [.agg (au.cells (db.sp u))] (au.av (db.sp u)) (.out (.agg (db.cells u)) [] (.agg (db.cells u)) []))
  (by kernel_rfl) ?_
 refine b9 (c1) ?_
 exact aq (ay.refl _)
def owC:FuncId→Option (List Bool):=fun f=>bif Nat.beq f 104||Nat.beq f 105||Nat.beq f 108||Nat.beq f 55 then some [false] else none
theorem Kx (n:Nat) (C:Nat→cU) (hn:n≤1000) (h:∀ i,i<n→(C i).pf.na≤1000∧(C i).pf.nz≤1000):bI Tryz.prog aZ 55 [] [wg n C,.fn (.func 56) [] []] (.ba 0 7 0 n) [some ⟨7,n,true,.row fun i=>(C i).cells⟩]:=by
 have c1:=L0 n C (by omega)
 have c2:=fun i (hi:i<n)=>Nx (C i) (h i hi).1 (h i hi).2
 refine cg (own:=owC) (hand:=true) Tryz.func55 (by kernel_rfl) mixed (by kernel_rfl)
  (let y0:List (Option Ob):=[some ⟨7,n,true,bA.row fun i=>cU.cells (C i)⟩];let y1:=(fun (x:{ x:Nat // x≤n })=>aY [1,5,10,11] [AV.fn (Fn.func (56:FuncId)) [] [],.ba 0 7 0 n,Zi n,Zi x.1] y0);let y2:=(fun (x:{ x:Nat // x≤n })=>n - x.1);(.gc 104 [] [.aH 7 n fun i j=>aQ (cU.cells (C i)) j] (.ba 0 7 0 n) (y0) (.loop ({ x:Nat // x≤n }) y1 y2 (⟨0,Nat.zero_le n⟩) [1,5,10,11] [16] [AV.fn (Fn.func (56:FuncId)) [] [],.ba 0 7 0 n,Zi n,Zi 0] (y0) (fun x1=>(.br (decide ((x1.1:Int)<(n:Int))) (.bj (0≤(x1.1:Int)∧(x1.1:Int)<(n:Int)) (.dc true 56 [.agg (cU.cells (C (toNat (↑(x1.1):Int)+0)))] (.agg (cU.cells (C (toNat (↑(x1.1):Int)+0)))) (.bj (0≤(x1.1:Int)∧(x1.1:Int)<(n:Int)) (.again (bh 0 y1 y2 x1) [1,5,10,11] [0] [AV.fn (Fn.func (56:FuncId)) [] [],.ba 0 7 0 n,Zi n,Zi (wrap .i64 ((x1.1:Int)+1))] [some ⟨7,n,true,bA.put (toNat (x1.1:Int)+0) (cU.cells (C (toNat (↑(x1.1):Int)+0))) (bA.row fun i=>cU.cells (C i))⟩])))) (.out (.ba 0 7 0 n) (y0) (.ba 0 7 0 n) (y0)))))))
  (by kernel_rfl) ?_
 refine gZ (c1) ?_
 refine aV (fun _ hs=>hs.le (⟨.refl _,.refl _,.refl _,.refl _,trivial⟩) (⟨.refl _,trivial⟩)) (fun x1=>?_)
 try (have q1:=x1.2;dsimp only at q1)
 refine aL (fun h2=>?_) (fun h2=>?_)
 ·have g2:=af h2
  refine aD (by omega) ?_
  refine b9 (c2 (toNat (↑(x1.1):Int)+0) (by omega)) ?_
  refine aD (by omega) ?_
  exact aN (⟨x1.1+1,by omega⟩) (fun _ hs=>hs.le (⟨.refl _,.refl _,.refl _,aK (by omega),trivial⟩) (⟨aJ.put (fun j _ _=>ay.refl _) (fun i j _ _ _=>ay.refl _),trivial⟩)) (by dsimp only;omega)
 ·have g2:=aa h2
  exact da (ay.of_eq rfl) (⟨.refl _,trivial⟩)
theorem JK (n:Nat) (U:Nat→db) (hn:n≤100000) (h:∀ i,i<n→(U i).sp.nl≤1000∧(U i).sp.np≤1000):Pure Tryz.prog aZ 58 [mV n U,.fn (.func 59) [] []] (mV n U):=by
 have c1:=LK n U (by omega)
 have c2:=fun i (hi:i<n)=>Ng (U i) (h i hi).1 (h i hi).2
 refine ar (own:=owC) Tryz.func58 (by kernel_rfl) mixed (by kernel_rfl)
  (let y1:List (Option Ob):=[some ⟨83,n,true,bA.row fun (i:Nat)=>db.cells (U i)⟩];let y0:=(fun (x:{ x:Nat // x≤n })=>aY [1,5,10,11] [AV.fn (Fn.func (59:FuncId)) [] [],AV.ba 0 83 0 n,Zi (↑n:Int),Zi (↑(x.1):Int)] y1);let y2:=(fun (x:{ x:Nat // x≤n })=>n - x.1);(.gc 105 ([]) ([AV.aH 83 n fun (i j:Nat)=>aQ (db.cells (U i)) j]) (AV.ba 0 83 0 n) (y1) (.loop ({ x:Nat // x≤n }) y0 y2 (⟨0,Nat.zero_le n⟩) ([1,5,10,11]) ([16]) ([AV.fn (Fn.func (59:FuncId)) [] [],AV.ba 0 83 0 n,Zi (↑n:Int),Zi 0]) (y1) (fun x1=>(.br (decide ((↑x1.1:Int)<(↑n:Int))) (.bj ((0:Int)≤(↑x1.1:Int)∧(↑x1.1:Int)<(↑n:Int)) (.dc (true) 59 ([AV.agg (db.cells (U (toNat (↑(x1.1):Int)+0)))]) (AV.agg (db.cells (U (toNat (↑(x1.1):Int)+0)))) (.bj ((0:Int)≤(↑x1.1:Int)∧(↑x1.1:Int)<(↑n:Int)) (.again (bh 0 y0 y2 x1) ([1,5,10,11]) ([0]) ([AV.fn (Fn.func (59:FuncId)) [] [],AV.ba 0 83 0 n,Zi (↑n:Int),Zi (wrap .i64 ((↑x1.1:Int)+1))]) ([some ⟨83,n,true,bA.put (toNat (↑x1.1:Int)+0) (db.cells (U (toNat (↑(x1.1):Int)+0))) (bA.row fun (i:Nat)=>db.cells (U i))⟩]))))) (.out (AV.aH 83 n fun (r k:Nat)=>aQ (db.cells (U (r+0))) k) [] (mV n U) []))))))
  (by kernel_rfl) ?_
 refine gZ (c1) ?_
 refine aV (fun _ hs=>hs.le (⟨.refl _,.refl _,.refl _,.refl _,trivial⟩) (⟨.refl _,trivial⟩)) (fun x1=>?_)
 try (have q1:=x1.2;dsimp only at q1)
 refine aL (fun h2=>?_) (fun h2=>?_)
 ·have g2:=af h2
  refine aD (by omega) ?_
  refine b9 (c2 (toNat (↑(x1.1):Int)+0) (by omega)) ?_
  refine aD (by omega) ?_
  exact aN (⟨x1.1+1,by omega⟩) (fun _ hs=>hs.le (⟨.refl _,.refl _,.refl _,aK (by omega),trivial⟩) (⟨aJ.put (fun j _ _=>ay.refl _) (fun i j _ _ _=>ay.refl _),trivial⟩)) (by dsimp only;omega)
 ·have g2:=aa h2
  exact aq (ay.of_eq rfl)
theorem KN (n:Nat) (G:Nat→cH) (hn:n≤100000) (h:∀ i,i<n→((G i).s.nl≤1000∧(G i).s.np≤1000)∧((G i).t.nl≤1000∧(G i).t.np≤1000)):Pure Tryz.prog aZ 61 [mS n G,.fn (.func 62) [] []] (mS n G):=by
 have c1:=MM n G (by omega)
 have c2:=fun i (hi:i<n)=>Nl (G i) (h i hi).1.1 (h i hi).1.2 (h i hi).2.1 (h i hi).2.2
 refine ar (own:=owC) Tryz.func61 (by kernel_rfl) mixed (by kernel_rfl)
  (let y1:List (Option Ob):=[some ⟨161,n,true,bA.row fun (i:Nat)=>cH.cells (G i)⟩];let y0:=(fun (x:{ x:Nat // x≤n })=>aY [1,5,10,11] [AV.fn (Fn.func (62:FuncId)) [] [],AV.ba 0 161 0 n,Zi (↑n:Int),Zi (↑(x.1):Int)] y1);let y2:=(fun (x:{ x:Nat // x≤n })=>n - x.1);(.gc 108 ([]) ([AV.aH 161 n fun (i j:Nat)=>aQ (cH.cells (G i)) j]) (AV.ba 0 161 0 n) (y1) (.loop ({ x:Nat // x≤n }) y0 y2 (⟨0,Nat.zero_le n⟩) ([1,5,10,11]) ([16]) ([AV.fn (Fn.func (62:FuncId)) [] [],AV.ba 0 161 0 n,Zi (↑n:Int),Zi 0]) (y1) (fun x1=>(.br (decide ((↑x1.1:Int)<(↑n:Int))) (.bj ((0:Int)≤(↑x1.1:Int)∧(↑x1.1:Int)<(↑n:Int)) (.dc (true) 62 ([AV.agg (cH.cells (G (toNat (↑(x1.1):Int)+0)))]) (AV.agg (cH.cells (G (toNat (↑(x1.1):Int)+0)))) (.bj ((0:Int)≤(↑x1.1:Int)∧(↑x1.1:Int)<(↑n:Int)) (.again (bh 0 y0 y2 x1) ([1,5,10,11]) ([0]) ([AV.fn (Fn.func (62:FuncId)) [] [],AV.ba 0 161 0 n,Zi (↑n:Int),Zi (wrap .i64 ((↑x1.1:Int)+1))]) ([some ⟨161,n,true,bA.put (toNat (↑x1.1:Int)+0) (cH.cells (G (toNat (↑(x1.1):Int)+0))) (bA.row fun (i:Nat)=>cH.cells (G i))⟩]))))) (.out (AV.aH 161 n fun (r k:Nat)=>aQ (cH.cells (G (r+0))) k) [] (mS n G) []))))))
  (by kernel_rfl) ?_
 refine gZ (c1) ?_
 refine aV (fun _ hs=>hs.le (⟨.refl _,.refl _,.refl _,.refl _,trivial⟩) (⟨.refl _,trivial⟩)) (fun x1=>?_)
 try (have q1:=x1.2;dsimp only at q1)
 refine aL (fun h2=>?_) (fun h2=>?_)
 ·have g2:=af h2
  refine aD (by omega) ?_
  refine b9 (c2 (toNat (↑(x1.1):Int)+0) (by omega)) ?_
  refine aD (by omega) ?_
  exact aN (⟨x1.1+1,by omega⟩) (fun _ hs=>hs.le (⟨.refl _,.refl _,.refl _,aK (by omega),trivial⟩) (⟨aJ.put (fun j _ _=>ay.refl _) (fun i j _ _ _=>ay.refl _),trivial⟩)) (by dsimp only;omega)
 ·have g2:=aa h2
  exact aq (ay.of_eq rfl)
end Go.Proofs.YtpefjkpdniiaoaaGreatDoor

namespace Go.Sp
open Go.IntKind (wrap)
open Int (toNat)
open Go Go.Am
variable {k : aS}
structure xf (k : aS) : Prop where
  nr : k.nr ≤ 1000
  ns : k.ns ≤ 1000
  nc : k.nc ≤ 1000
  nb : k.nb ≤ 1000
  ne : k.ne ≤ 1000
  nu : k.nu ≤ 100000
  ni : k.ni ≤ 1000
  ng : k.ng ≤ 1000
  C : ∀ i, i < k.nc → (k.C i).pf.na ≤ 1000 ∧ (k.C i).pf.nz ≤ 1000
  U : ∀ i, i < k.nu → (k.U i).sp.nl ≤ 1000 ∧ (k.U i).sp.np ≤ 1000
  G : ∀ i, i < k.ng → ((k.G i).s.nl ≤ 1000 ∧ (k.G i).s.np ≤ 1000) ∧ ((k.G i).t.nl ≤ 1000 ∧ (k.G i).t.np ≤ 1000)
theorem Nu {b:aI} {y:Int} {p:Pf} (h:ki b y p=true):p.na=1∧p.nz=1:=by
 unfold ki mT at h
 simp only [Bool.and_eq_true] at h
 have:=qL h.2.1
 exact ⟨this.na,this.nz⟩
theorem rn (hk:jz k) (h:dI k=true):xf k:=by
 obtain ⟨_,h2,h3,h4,h5,h6,h7,h8,_⟩:=eU.1 h
 have r:=rk h2
 have c:=ry h3
 have l:=Bq h4
 have s1:k.nu≤2000:=by
  simp only [ir,Bool.and_eq_true,decide_eq_true_eq] at h6;exact h6.1
 have i1:k.ni≤200:=by
  simp only [hZ,Bool.and_eq_true,decide_eq_true_eq] at h7;exact h7.1
 refine ⟨by have:=r.hi;omega,by have:=r.hi;have:=r.ns;omega,by omega,by have:=l.hi;omega,l.len,by omega,by omega,by omega,fun i hi=>?_,fun i hi=>?_,fun i hi=>?_⟩
 ·have:=Nu (mQ.1 (c.2 i hi)).1;omega
 ·simp only [ir,Bool.and_eq_true,decide_eq_true_eq,List.all_eq_true,List.mem_range] at h6
  have:=MP (oS.1 (h6.2 i hi).1).1
  omega
 ·have g:=hk.G i hi
  exact ⟨⟨g.sl,g.sp⟩,g.tl,g.tp⟩
def aS.cw (k:aS) (c:AV):List AV:=Jw k.num k.bT k.sec (.aH 11 k.nr fun i j=>.int .i64 (k.R i j)) (js k.ns k.X) c (js k.nb k.B) (lV k.ne k.E) (mV k.nu k.U) (tr k.ni k.I) (mS k.ng k.G) k.tA k.bO k.now
def cU.bk (c:cU) (x:Bool):cU:={ c with EK:=x||c.EK }
def aS.bk (k:aS) (i:Nat):aS:={ k with C:=fun j=>(k.C j).bk (Nat.beq j i) }
end Go.Sp

namespace Go.Proofs.YtpefjkpdniiaoaaGreatDoor
open Go.IntKind (wrap)
open Int (toNat)
open Go Go.Am Go.Sp
set_option maxRecDepth 100000
theorem ug (k:aS) (h:xf k):bI Tryz.prog aZ 22 [] [.agg k.cells] (.agg (k.cw (.ba 0 7 0 k.nc))) [some ⟨7,k.nc,true,.row fun i=>(k.C i).cells⟩]:=by
 have s1:=h.nr;have s2:=h.ns;have s3:=h.nc;have s4:=h.nb;have s5:=h.ne;have s6:=h.nu;have s7:=h.ni;have s8:=h.ng
 have c1:=Mn k.nr k.R (by omega)
 have c2:=yx k.ns k.X (by omega)
 have c3:=LX k.ni k.I (by omega)
 have c4:=yx k.nb k.B (by omega)
 have c5:=LF k.ne k.E (by omega)
 have c6:=Kx k.nc k.C (by omega) h.C
 have c7:=JK k.nu k.U (by omega) h.U
 have c8:=KN k.ng k.G (by omega) h.G
 refine cg (own:=owC) (hand:=true) Tryz.func22 (by kernel_rfl) mixed (by kernel_rfl)
  (let y0:List (Option Ob):=[some ⟨7,aS.nc k,true,bA.row fun i=>cU.cells (aS.C k i)⟩];(.dc true 51 [.aH 11 k.4 fun i j=>Zi (k.5 i j)] (.aH 11 (aS.nr k) fun i j=>Zi (aS.R k i j)) (.dc true 52 [.aH 1 k.6 fun i x=>Zi (k.7 i)] (js (aS.ns k) (aS.X k)) (.dc true 53 [.aH 21 k.16 fun i j=>Zi (k.17 i j)] (tr (aS.ni k) (aS.I k)) (.dc true 52 [.aH 1 k.10 fun i x=>Zi (k.11 i)] (js (aS.nb k) (aS.B k)) (.dc true 54 [.aH 4 k.12 fun i j=>Zi (k.13 i j)] (lV (aS.ne k) (aS.E k)) (.gc 55 [] [.aH 7 k.8 fun i j=>aQ (cU.cells (aS.C k i)) j,AV.fn (Fn.func 56) [] []] (.ba 0 7 0 (aS.nc k)) (y0) (.dc true 58 [.aH 83 k.14 fun i j=>aQ (db.cells (aS.U k i)) j,AV.fn (Fn.func 59) [] []] (mV (aS.nu k) (aS.U k)) (.dc true 61 [.aH 161 k.18 fun i j=>aQ (cH.cells (aS.G k i)) j,AV.fn (Fn.func 62) [] []] (mS (aS.ng k) (aS.G k)) (.out (.agg (Zi k.1::(aI.cells (aS.bT k)++Zi k.3::(.aH 11 k.4 fun i j=>Zi (k.5 i j))::(.aH 1 k.6 fun i x=>Zi (k.7 i))::.ba 0 7 0 k.8::(.aH 1 k.10 fun i x=>Zi (k.11 i))::(.aH 4 k.12 fun i j=>Zi (k.13 i j))::(.aH 83 k.14 fun i j=>aQ (db.cells (aS.U k i)) j)::(.aH 21 k.16 fun i j=>Zi (k.17 i j))::(.aH 161 k.18 fun i j=>aQ (cH.cells (aS.G k i)) j)::(bf k.20++[Zi k.21,Zi k.22])))) [some ⟨7,k.8,true,bA.row fun i=>cU.cells (aS.C k i)⟩] (.agg (aS.cw k (.ba 0 7 0 (aS.nc k)))) (y0)))))))))))
  (by kernel_rfl) ?_
 refine b9 (c1) ?_
 refine b9 (c2) ?_
 refine b9 (c3) ?_
 refine b9 (c4) ?_
 refine b9 (c5) ?_
 refine gZ (c6) ?_
 refine b9 (c7) ?_
 refine b9 (c8) ?_
 exact da (ay.of_eq rfl) (⟨.refl _,trivial⟩)
end Go.Proofs.YtpefjkpdniiaoaaGreatDoor

namespace Go.Sp
open Go.IntKind (wrap)
open Int (toNat)
open Go Go.Am
def z0:Nat→Int:=fun _=>0
def zsp:au:=⟨0,0,0,0,0,z0,0,0,0,0,0,0,z0,0,0,0,fun _=>z0,0,0,fun _=>z0⟩
def B7:aS:=⟨0,⟨⟨0,0,0⟩,0,0,0⟩,0,0,fun _=>z0,0,z0,0,fun _=>⟨0,⟨0,z0,0,0,z0⟩,0,false,0⟩,0,z0,0,fun _=>z0,0,fun _=>⟨0,0,zsp,0⟩,0,fun _=>z0,0,fun _=>⟨zsp,zsp,0⟩,z0,0,0⟩
noncomputable def gK (k:aS) (g:cH):Int:=lz k.bT k.R k.nr g.s g.t g.leaf
noncomputable def gB (k:aS) (g:cH):Bool:=ql k.bT k.R k.nr g.s g.t g.leaf
noncomputable def lC (k:aS) (g:cH):Int:=if dI k=true then (if gB k g=true then (if gJ k (gK k g)<0 then 7 else 0) else 11) else 1
noncomputable def Dq (k:aS) (g:cH):Int:=if lC k g=0 then gJ k (gK k g) else 0
noncomputable def uj (k:aS) (g:cH):aS:=if lC k g=0 then k.bk (gJ k (gK k g)).toNat else B7
noncomputable def kC (k:aS) (g:cH):AV:=.aX [.agg (uj k g).cells,.int .i64 (Dq k g),.int .i64 (lC k g)]
variable {k : aS} {g : cH}
theorem CR (h:dI k=false):lC k g=1:=if_neg (by rw [h];decide)
theorem HR (h:dI k=true) (h2:gB k g=false):lC k g=11:=by unfold lC;rw [if_pos h,if_neg (by rw [h2];decide)]
theorem Hz (h:dI k=true) (h2:gB k g=true) (h3:gJ k (gK k g)<0):lC k g=7:=by unfold lC;rw [if_pos h,if_pos h2,if_pos h3]
theorem H0 (h:dI k=true) (h2:gB k g=true) (h3:¬gJ k (gK k g)<0):lC k g=0:=by unfold lC;rw [if_pos h,if_pos h2,if_neg h3]
theorem Ky {e:Int} (h:lC k g=e) (he:e≠0):kC k g=.aX [.agg B7.cells,.int .i64 0,.int .i64 e]:=by
 unfold kC uj Dq;rw [h,if_neg he,if_neg he]
theorem DP (h:lC k g=0):kC k g=.aX [.agg (k.bk (gJ k (gK k g)).toNat).cells,.int .i64 (gJ k (gK k g)),.int .i64 0]:=by
 unfold kC uj Dq;rw [h,if_pos rfl,if_pos rfl]
def zbV (e:Int):AV:=.aX [.agg [.int .i64 0,.int .i64 0,.int .i64 0,.int .i64 0,.int .i64 0,.int .i64 0,.int .i64 0,.int .i64 0,.bn,.bn,.bn,.bn,.bn,.bn,.bn,.bn,.int .u8 0,.int .u8 0,.int .u8 0,.int .u8 0,.int .u8 0,.int .u8 0,.int .u8 0,.int .u8 0,.int .u8 0,.int .u8 0,.int .u8 0,.int .u8 0,.int .u8 0,.int .u8 0,.int .u8 0,.int .u8 0,.int .u8 0,.int .u8 0,.int .u8 0,.int .u8 0,.int .u8 0,.int .u8 0,.int .u8 0,.int .u8 0,.int .u8 0,.int .u8 0,.int .u8 0,.int .u8 0,.int .u8 0,.int .u8 0,.int .u8 0,.int .u8 0,.int .i64 0,.int .i64 0],.int .i64 0,.int .i64 e]
theorem nQ {os:List (Option Ob)} {e:Int} (h:lC k g=e) (he:e≠0):ay os (zbV e) (kC k g):=by
 rw [Ky h he]
 refine ay.aX ⟨ay.agg ?_,ay.refl _,ay.refl _,trivial⟩
 repeat' (first|exact trivial|exact ay.refl _|exact ay.bn|refine And.intro ?_ ?_)
theorem Df {y:Int} (h:¬gJ k y<0):0≤gJ k y∧gJ k y<k.nc:=by
 have:=iE (p:=fun i=>(k.C i).key==y) k.nc 0
 unfold gJ at h ⊢
 omega
end Go.Sp

namespace Go.Proofs.YtpefjkpdniiaoaaGreatDoor
open Go.IntKind (wrap)
open Int (toNat)
open Go Go.Am Go.Sp
set_option maxRecDepth 100000
def owB:FuncId→Option (List Bool):=fun f=>bif Nat.beq f 22 then some [false] else none
theorem FH (k:aS) (hk:jz k) (g:cH) (hg:va g):Pure Tryz.prog aZ 6 [.agg k.cells,.agg g.cells] (kC k g):=by
 have c1:=p7 k hk
 have c2:=fun hn=>ri k.bT k.R k.nr g.s g.t g.leaf hn hk.w hg.sl hg.tl hg.sb hg.tb (by have:=hg.sp;omega) (by have:=hg.tp;omega) hg.sf hg.tf
 have c3:=fun y=>sD k y hk.nc
 have c4:=fun h=>ug k (rn hk h)
 refine ar (own:=owB) Tryz.func6 (by kernel_rfl) mixed (by kernel_rfl)
  (let y0:List AV:=[Zi 0,Zi 0,Zi 0,Zi 0,Zi 0,Zi 0,Zi 0,Zi 0,.bn,.bn,.bn,.bn,.bn,.bn,.bn,.bn,Zb 0,Zb 0,Zb 0,Zb 0,Zb 0,Zb 0,Zb 0,Zb 0,Zb 0,Zb 0,Zb 0,Zb 0,Zb 0,Zb 0,Zb 0,Zb 0,Zb 0,Zb 0,Zb 0,Zb 0,Zb 0,Zb 0,Zb 0,Zb 0,Zb 0,Zb 0,Zb 0,Zb 0,Zb 0,Zb 0,Zb 0,Zb 0,Zi 0,Zi 0];(.sc true 10 [.agg (aS.cells k)] (.bool (dI k)) (.br (!dI k) (.out (.aX [.agg y0,Zi 0,Zi 1]) [] (kC k g) []) (.sc true 20 [.agg (aI.cells (aS.bT k)),.aH 11 k.4 fun i j=>Zi (k.5 i j),.agg (cH.cells g)] (.aX [Zi (lz (aS.bT k) (aS.R k) (aS.nr k) (cH.s g) (cH.t g) (cH.leaf g)),.bool (ql (aS.bT k) (aS.R k) (aS.nr k) (cH.s g) (cH.t g) (cH.leaf g))]) (.br (!ql k.2 k.5 k.4 g.1 g.2 g.3) (.out (.aX [.agg y0,Zi 0,Zi 11]) [] (kC k g) []) (.sc true 21 [.agg (aS.cells k),Zi (lz k.2 k.5 k.4 g.1 g.2 g.3)] (Zi (gJ k (lz k.2 k.5 k.4 g.1 g.2 g.3))) (.br (decide (gJ k (lz k.2 k.5 k.4 g.1 g.2 g.3)<0)) (.out (.aX [.agg y0,Zi 0,Zi 7]) [] (kC k g) []) (.gc 22 [] [.agg (aS.cells k)] (.agg (aS.cw k (.ba 0 7 0 (aS.nc k)))) [some ⟨7,aS.nc k,true,bA.row fun i=>cU.cells (aS.C k i)⟩] (.bj ((0:Int)≤gJ k (lz k.2 k.5 k.4 g.1 g.2 g.3)∧gJ k (lz k.2 k.5 k.4 g.1 g.2 g.3)<(k.8:Int)) (.out (.aX [.agg (Zi k.1::(aI.cells (aS.bT k)++Zi k.3::(.aH 11 k.4 fun i j=>Zi (k.5 i j))::(.aH 1 k.6 fun i x=>Zi (k.7 i))::(.aH 7 k.8 fun r k_1=>aQ [Zi (aS.C k (r+0)).1,.aH 1 (cU.pf (aS.C k (r+0))).1 fun i x=>Zi ((cU.pf (aS.C k (r+0))).2 i),Zi (cU.pf (aS.C k (r+0))).3,.aH 1 (cU.pf (aS.C k (r+0))).4 fun i x=>Zi ((cU.pf (aS.C k (r+0))).5 i),Zi (aS.C k (r+0)).3,.bool (Nat.beq (r+0) (toNat (gJ k (lz k.2 k.5 k.4 g.1 g.2 g.3))+0)||(aS.C k (r+0)).4),Zi (aS.C k (r+0)).5] k_1)::(.aH 1 k.10 fun i x=>Zi (k.11 i))::(.aH 4 k.12 fun i j=>Zi (k.13 i j))::(.aH 83 k.14 fun i j=>aQ (db.cells (aS.U k i)) j)::(.aH 21 k.16 fun i j=>Zi (k.17 i j))::(.aH 161 k.18 fun i j=>aQ (cH.cells (aS.G k i)) j)::(bf k.20++[Zi k.21,Zi k.22]))),Zi (gJ k (lz k.2 k.5 k.4 g.1 g.2 g.3)),Zi 0]) [] (kC k g) []))))))))))
  (by kernel_rfl) ?_
 refine aM (c1) ?_
 refine aL (fun h1=>?_) (fun h1=>?_)
 ·have g1:=(aC aF) h1
  exact aq (nQ (CR g1) (by decide))
 ·have g1:=(az aB) h1
  refine aM (c2 ((rn hk g1).nr)) ?_
  refine aL (fun h4=>?_) (fun h4=>?_)
  ·have g4:=(aC aF) h4
   exact aq (nQ (HR g1 g4) (by decide))
  ·have g4:=(az aB) h4
   refine aM (c3 (lz k.2 k.5 k.4 g.1 g.2 g.3)) ?_
   refine aL (fun h7=>?_) (fun h7=>?_)
   ·have g7:=af h7
    exact aq (nQ (Hz g1 g4 g7) (by decide))
   ·have g7:=aa h7
    refine gZ (c4 (by assumption)) ?_
    refine aD (Df g7) ?_
    exact aq (ay.of_eq (by rw [DP (H0 g1 g4 g7)];rfl))
theorem Ap (k:aS) (hn:k.nc≤1000):bI Tryz.prog aZ 26 [] [.agg k.cells] (.ba 0 7 0 k.nc) [some ⟨7,k.nc,true,.row fun i=>(k.C i).cells⟩]:=by
 refine cg (own:=bq) (hand:=true) Tryz.func26 (by kernel_rfl) mixed (by kernel_rfl)
  (let y0:=(fun (x:{ x:Nat // x≤aS.nc k })=>aY [1,3,4] [.own 0 50 0 0 50,.ba 1 7 0 (x.1),Zi x.1] [some ⟨50,1,true,.bc [aS.cells k]⟩,some ⟨7,x.1,true,bA.row fun i=>cU.cells (aS.C k i)⟩]);let y1:=(fun (x:{ x:Nat // x≤aS.nc k })=>aS.nc k - x.1);(.loop ({ x:Nat // x≤aS.nc k }) y0 y1 (⟨0,Nat.zero_le (aS.nc k)⟩) [1,3,4] [0,1825] [.own 0 50 0 0 50,.bn,Zi 0] [some ⟨50,1,true,.bc [aS.cells k]⟩,some ⟨7,0,true,.ty (999999999:TypeId) (.bc [])⟩] (fun x0=>(.br (decide ((x0.1:Int)<(k.8:Int))) (.bj (0≤(x0.1:Int)∧(x0.1:Int)<(k.8:Int)) (.bj ((x0.1+1)*88≤140737488355328) (.again (bh 0 y0 y1 x0) [1,3,4] [0,98] [.own 0 50 0 0 50,.ba 1 7 0 (x0.1+1),Zi (wrap .i64 ((x0.1:Int)+1))] [some ⟨50,1,true,.bc [aS.cells k]⟩,some ⟨7,x0.1+1,true,bA.cat x0.1 (bA.row fun i=>cU.cells (aS.C k i)) (.bc [cU.cells (aS.C k (toNat (↑(x0.1):Int)))])⟩]))) (.out (.ba 0 7 0 x0.1) [some ⟨7,x0.1,true,bA.row fun i=>cU.cells (aS.C k i)⟩] (.ba 0 7 0 (aS.nc k)) [some ⟨7,aS.nc k,true,bA.row fun i=>cU.cells (aS.C k i)⟩])))))
  (by kernel_rfl) ?_
 refine aV (fun _ hs=>hs.le (by repeat' (first|exact trivial|(first|exact ay.refl _|exact aK (by omega)|exact ay.nil rfl|exact ay.of_eq (congrArg (AV.ba _ _ _) (by first|omega|(dsimp only;omega)))|exact ay.of_eq (congrArg (AV.int _) (by first|omega|(dsimp only;omega))))|refine And.intro ?_ ?_)) (by repeat' (first|exact trivial|(first|exact aJ.refl _|exact aJ.bx|exact aJ.zero|exact aJ.push rfl rfl|exact aJ.ct rfl|exact aJ.len (by omega)|exact aJ.row (by repeat' (first|exact trivial|(first|exact ay.refl _|exact aK (by omega)|exact ay.nil rfl|exact ay.of_eq (congrArg (AV.ba _ _ _) (by first|omega|(dsimp only;omega)))|exact ay.of_eq (congrArg (AV.int _) (by first|omega|(dsimp only;omega))))|refine And.intro ?_ ?_)))|refine And.intro ?_ ?_))) (fun x0=>?_)
 try (have q0:=x0.2;dsimp only at q0)
 refine aL (fun h1=>?_) (fun h1=>?_)
 ·have g1:=af h1
  refine aD (by omega) ?_
  refine aD (by omega) ?_
  exact aN (⟨x0.1+1,by omega⟩) (fun _ hs=>hs.le (by repeat' (first|exact trivial|(first|exact ay.refl _|exact aK (by omega)|exact ay.nil rfl|exact ay.of_eq (congrArg (AV.ba _ _ _) (by first|omega|(dsimp only;omega)))|exact ay.of_eq (congrArg (AV.int _) (by first|omega|(dsimp only;omega))))|refine And.intro ?_ ?_)) (by repeat' (first|exact trivial|(first|exact aJ.refl _|exact aJ.bx|exact aJ.zero|exact aJ.push rfl rfl|exact aJ.ct rfl|exact aJ.len (by omega)|exact aJ.row (by repeat' (first|exact trivial|(first|exact ay.refl _|exact aK (by omega)|exact ay.nil rfl|exact ay.of_eq (congrArg (AV.ba _ _ _) (by first|omega|(dsimp only;omega)))|exact ay.of_eq (congrArg (AV.int _) (by first|omega|(dsimp only;omega))))|refine And.intro ?_ ?_)))|refine And.intro ?_ ?_))) (by (dsimp only;omega))
 ·have g1:=aa h1
  exact da (ay.of_eq (congrArg (AV.ba 0 7 0) (by omega))) (⟨aJ.len (by omega),trivial⟩)
def owD:FuncId→Option (List Bool):=fun f=>bif Nat.beq f 26 then some [false] else none
theorem BR (k:aS) (hk:jz k) (g:cH) (hg:va g):Pure Tryz.prog aZ 7 [.agg k.cells,.agg g.cells] (kC k g):=by
 have c1:=G8 k hk
 have c2:=fun hn=>qa k.bT k.R k.nr g.s g.t g.leaf hg.lf hn hk.w hg.sl hg.tl hg.sb hg.tb (by have:=hg.sp;omega) (by have:=hg.tp;omega) hg.sf hg.tf
 have c3:=fun y=>sX k y hk.nc
 have c4:=fun h=>Ap k h
 refine ar (own:=owD) Tryz.func7 (by kernel_rfl) mixed (by kernel_rfl)
  (let y0:List AV:=[Zi 0,Zi 0,Zi 0,Zi 0,Zi 0,Zi 0,Zi 0,Zi 0,.bn,.bn,.bn,.bn,.bn,.bn,.bn,.bn,Zb 0,Zb 0,Zb 0,Zb 0,Zb 0,Zb 0,Zb 0,Zb 0,Zb 0,Zb 0,Zb 0,Zb 0,Zb 0,Zb 0,Zb 0,Zb 0,Zb 0,Zb 0,Zb 0,Zb 0,Zb 0,Zb 0,Zb 0,Zb 0,Zb 0,Zb 0,Zb 0,Zb 0,Zb 0,Zb 0,Zb 0,Zb 0,Zi 0,Zi 0];(.sc true 23 [.agg (aS.cells k)] (.bool (dI k)) (.br (!dI k) (.out (.aX [.agg y0,Zi 0,Zi 1]) [] (kC k g) []) (.sc true 24 [.agg (aI.cells (aS.bT k)),.aH 11 k.4 fun i j=>Zi (k.5 i j),.agg (cH.cells g)] (.aX [Zi (lz (aS.bT k) (aS.R k) (aS.nr k) (cH.s g) (cH.t g) (cH.leaf g)),.bool (ql (aS.bT k) (aS.R k) (aS.nr k) (cH.s g) (cH.t g) (cH.leaf g))]) (.br (!ql k.2 k.5 k.4 g.1 g.2 g.3) (.out (.aX [.agg y0,Zi 0,Zi 11]) [] (kC k g) []) (.sc true 25 [.agg (aS.cells k),Zi (lz k.2 k.5 k.4 g.1 g.2 g.3)] (Zi (gJ k (lz k.2 k.5 k.4 g.1 g.2 g.3))) (.br (decide (gJ k (lz k.2 k.5 k.4 g.1 g.2 g.3)<0)) (.out (.aX [.agg y0,Zi 0,Zi 7]) [] (kC k g) []) (.gc 26 [] [.agg (aS.cells k)] (.ba 0 7 0 (aS.nc k)) [some ⟨7,aS.nc k,true,bA.row fun i=>cU.cells (aS.C k i)⟩] (.bj ((0:Int)≤gJ k (lz k.2 k.5 k.4 g.1 g.2 g.3)∧gJ k (lz k.2 k.5 k.4 g.1 g.2 g.3)<(k.8:Int)) (.out (.aX [.agg (Zi k.1::(aI.cells (aS.bT k)++Zi k.3::(.aH 11 k.4 fun i j=>Zi (k.5 i j))::(.aH 1 k.6 fun i x=>Zi (k.7 i))::(.aH 7 k.8 fun r k_1=>aQ [Zi (aS.C k (r+0)).1,.aH 1 (cU.pf (aS.C k (r+0))).1 fun i x=>Zi ((cU.pf (aS.C k (r+0))).2 i),Zi (cU.pf (aS.C k (r+0))).3,.aH 1 (cU.pf (aS.C k (r+0))).4 fun i x=>Zi ((cU.pf (aS.C k (r+0))).5 i),Zi (aS.C k (r+0)).3,.bool (Nat.beq (r+0) (toNat (gJ k (lz k.2 k.5 k.4 g.1 g.2 g.3))+0)||(aS.C k (r+0)).4),Zi (aS.C k (r+0)).5] k_1)::(.aH 1 k.10 fun i x=>Zi (k.11 i))::(.aH 4 k.12 fun i j=>Zi (k.13 i j))::(.aH 83 k.14 fun i j=>aQ (db.cells (aS.U k i)) j)::(.aH 21 k.16 fun i j=>Zi (k.17 i j))::(.aH 161 k.18 fun i j=>aQ (cH.cells (aS.G k i)) j)::(bf k.20++[Zi k.21,Zi k.22]))),Zi (gJ k (lz k.2 k.5 k.4 g.1 g.2 g.3)),Zi 0]) [] (kC k g) []))))))))))
  (by kernel_rfl) ?_
 refine aM (c1) ?_
 refine aL (fun h1=>?_) (fun h1=>?_)
 ·have g1:=(aC aF) h1
  exact aq (nQ (CR g1) (by decide))
 ·have g1:=(az aB) h1
  refine aM (c2 ((rn hk g1).nr)) ?_
  refine aL (fun h4=>?_) (fun h4=>?_)
  ·have g4:=(aC aF) h4
   exact aq (nQ (HR g1 g4) (by decide))
  ·have g4:=(az aB) h4
   refine aM (c3 (lz k.2 k.5 k.4 g.1 g.2 g.3)) ?_
   refine aL (fun h7=>?_) (fun h7=>?_)
   ·have g7:=af h7
    exact aq (nQ (Hz g1 g4 g7) (by decide))
   ·have g7:=aa h7
    refine gZ (c4 ((rn hk g1).nc)) ?_
    refine aD (Df g7) ?_
    exact aq (ay.of_eq (by rw [DP (H0 g1 g4 g7)];rfl))
end Go.Proofs.YtpefjkpdniiaoaaGreatDoor

namespace Go.Sp
open Go.IntKind (wrap)
open Int (toNat)
open Go Go.Am
noncomputable def ow (k:aS) (i:Int):Int:=if dI k=true then (if i<0∨i≥k.nc then 2 else 0) else 1
noncomputable def sF (k:aS) (i:Int):Int:=if ow k i=0 then k.B (5+i).toNat else 0
noncomputable def AD (k:aS) (n:Int):Int:=if dI k=true then (if 0≤n∧n≤1099511627776 then (if n<k.now then 15 else 0) else 2) else 1
noncomputable def goK (k:aS) (n:Int):aS:=if AD k n=0 then { k with now:=n } else B7
noncomputable def C5 (k:aS) (n:Int):AV:=.aX [.agg (goK k n).cells,.int .i64 (AD k n)]
variable {k : aS} {i n : Int}
theorem Hs (h:dI k=false):ow k i=1:=if_neg (by rw [h];decide)
theorem DR (h:dI k=true) (g:i<0∨i≥k.nc):ow k i=2:=by unfold ow;rw [if_pos h,if_pos g]
theorem Hv (h:dI k=true) (g:¬i<0∧¬i≥k.nc):ow k i=0:=by unfold ow;rw [if_pos h,if_neg (by omega)]
theorem xk {e:Int} (h:ow k i=e) (he:e≠0):sF k i=0:=by unfold sF;rw [h,if_neg he]
theorem KX (h:dI k=true) (g:¬i<0∧¬i≥k.nc):sF k i=k.B (IntKind.wrap .i64 (5+i)).toNat:=by
 have:=(ry (eU.1 h).2.2.1).1
 unfold sF;rw [if_pos (Hv h g),wI (by omega) (by omega)]
theorem Hq (h:dI k=true) (g:¬i<0∧¬i≥k.nc):fG k.nb k.B k.ne k.E=true∧0≤IntKind.wrap .i64 (5+i)∧IntKind.wrap .i64 (5+i)<k.nb:=by
 have b:=eU.1 h
 have:=(ry b.2.2.1).1
 have:=b.2.2.2.2.1
 rw [wI (by omega) (by omega)]
 exact ⟨b.2.2.2.1,by omega,by omega⟩
theorem N2 (h:dI k=false):AD k n=1:=if_neg (by rw [h];decide)
theorem On (h:dI k=true) (g:¬n≥0∨¬n≤1099511627776):AD k n=2:=by unfold AD;rw [if_pos h,if_neg (by omega)]
theorem N0 (h:dI k=true) (g:n≥0∧n≤1099511627776) (g':n<k.now):AD k n=15:=by unfold AD;rw [if_pos h,if_pos (by omega),if_pos g']
theorem MV (h:dI k=true) (g:n≥0∧n≤1099511627776) (g':¬n<k.now):AD k n=0:=by unfold AD;rw [if_pos h,if_pos (by omega),if_neg g']
theorem Nj {e:Int} (h:AD k n=e) (he:e≠0):C5 k n=.aX [.agg B7.cells,.int .i64 e]:=by unfold C5 goK;rw [h,if_neg he]
theorem H3 (h:AD k n=0):C5 k n=.aX [.agg { k with now:=n }.cells,.int .i64 0]:=by unfold C5 goK;rw [h,if_pos rfl]
def zbA:AV:=.agg [.int .i64 0,.int .i64 0,.int .i64 0,.int .i64 0,.int .i64 0,.int .i64 0,.int .i64 0,.int .i64 0,.bn,.bn,.bn,.bn,.bn,.bn,.bn,.bn,.int .u8 0,.int .u8 0,.int .u8 0,.int .u8 0,.int .u8 0,.int .u8 0,.int .u8 0,.int .u8 0,.int .u8 0,.int .u8 0,.int .u8 0,.int .u8 0,.int .u8 0,.int .u8 0,.int .u8 0,.int .u8 0,.int .u8 0,.int .u8 0,.int .u8 0,.int .u8 0,.int .u8 0,.int .u8 0,.int .u8 0,.int .u8 0,.int .u8 0,.int .u8 0,.int .u8 0,.int .u8 0,.int .u8 0,.int .u8 0,.int .u8 0,.int .u8 0,.int .i64 0,.int .i64 0]
theorem tq {os:List (Option Ob)}:ay os zbA (.agg B7.cells):=by
 refine ay.agg ?_
 repeat' (first|exact trivial|exact ay.refl _|exact ay.bn|refine And.intro ?_ ?_)
theorem vM {os:List (Option Ob)} {e:Int} (h:AD k n=e) (he:e≠0):ay os (.aX [zbA,.int .i64 e]) (C5 k n):=by
 rw [Nj h he]
 exact ay.aX ⟨tq,ay.refl _,trivial⟩
def gW (n:Nat) (f:Nat→Int):Nat→Int:=et "specie/draw".toUTF8 n f
def AE (b:aI) (num x:Int) (n:Nat):Int:=if aT b=true then (if (0≤num∧num≤7)∧er b x=true then (if n>16384 then 5 else 0) else 2) else 1
def nwB (b:aI) (num x:Int) (sd:Nat→Int):aS:={ B7 with num:=num,bT:=b,sec:=x,nb:=5,tA:=sd }
def nwK (b:aI) (num x:Int) (n:Nat) (f:Nat→Int):aS:=if AE b num x n=0 then nwB b num x (gW n f) else B7
def vR (b:aI) (num x:Int) (n:Nat) (f:Nat→Int):AV:=.aX [.agg (nwK b num x n f).cells,.int .i64 (AE b num x n)]
variable {b : aI} {num x : Int} {sn : Nat} {sf : Nat → Int}
theorem H6 (h:aT b=false):AE b num x sn=1:=if_neg (by rw [h];decide)
theorem HI (h:aT b=true) (g:(¬num≥0∨¬num≤7)∨er b x=false):AE b num x sn=2:=by
 unfold AE;rw [if_pos h,if_neg (fun e=>by rcases g with g|g;(· omega);(· rw [e.2] at g;cases g))]
theorem Mu (h:aT b=true) (g:(num≥0∧num≤7)∧er b x=true) (g':(sn:Int)>16384):AE b num x sn=5:=by
 unfold AE;rw [if_pos h,if_pos g,if_pos (by omega)]
theorem HT (h:aT b=true) (g:(num≥0∧num≤7)∧er b x=true) (g':¬(sn:Int)>16384):AE b num x sn=0:=by
 unfold AE;rw [if_pos h,if_pos g,if_neg (by omega)]
theorem pP {os:List (Option Ob)} {e:Int} (h:AE b num x sn=e) (he:e≠0):ay os (.aX [zbA,.int .i64 e]) (vR b num x sn sf):=by
 unfold vR nwK;rw [h,if_neg he]
 exact ay.aX ⟨tq,ay.refl _,trivial⟩
theorem HZ (h:AE b num x sn=0):vR b num x sn sf=.aX [.agg (nwB b num x (gW sn sf)).cells,.int .i64 0]:=by unfold vR nwK;rw [h,if_pos rfl]
theorem I9 {os:List (Option Ob)} (h:AE b num x sn=0):ay os (.aX [.agg (Jw num b x .bn .bn .bn (.aH 1 5 fun _ _=>.int .i64 0) .bn .bn .bn .bn (gW sn sf) 0 0),.int .i64 0]) (vR b num x sn sf):=by
 rw [HZ h]
 refine ay.aX ⟨ay.agg ?_,ay.refl _,trivial⟩
 repeat' (first|exact trivial|exact ay.refl _|exact ay.bn|refine And.intro ?_ ?_)
end Go.Sp

namespace Go.Proofs.YtpefjkpdniiaoaaGreatDoor
open Go.IntKind (wrap)
open Int (toNat)
open Go Go.Am Go.Sp
set_option maxRecDepth 100000
abbrev w7:List AV:=[AV.agg [Zi 0,Zi 0,Zi 0,Zi 0,Zi 0,Zi 0,Zi 0,Zi 0,AV.bn,AV.bn,AV.bn,AV.bn,AV.bn,AV.bn,AV.bn,AV.bn,Zb 0,Zb 0,Zb 0,Zb 0,Zb 0,Zb 0,Zb 0,Zb 0,Zb 0,Zb 0,Zb 0,Zb 0,Zb 0,Zb 0,Zb 0,Zb 0,Zb 0,Zb 0,Zb 0,Zb 0,Zb 0,Zb 0,Zb 0,Zb 0,Zb 0,Zb 0,Zb 0,Zb 0,Zb 0,Zb 0,Zb 0,Zb 0,Zi 0,Zi 0],Zi 1]
abbrev wB:List AV:=[AV.agg [Zi 0,Zi 0,Zi 0,Zi 0,Zi 0,Zi 0,Zi 0,Zi 0,AV.bn,AV.bn,AV.bn,AV.bn,AV.bn,AV.bn,AV.bn,AV.bn,Zb 0,Zb 0,Zb 0,Zb 0,Zb 0,Zb 0,Zb 0,Zb 0,Zb 0,Zb 0,Zb 0,Zb 0,Zb 0,Zb 0,Zb 0,Zb 0,Zb 0,Zb 0,Zb 0,Zb 0,Zb 0,Zb 0,Zb 0,Zb 0,Zb 0,Zb 0,Zb 0,Zb 0,Zb 0,Zb 0,Zb 0,Zb 0,Zi 0,Zi 0],Zi 2]
abbrev Da:List AV:=[AV.agg [Zb 0,Zb 0,Zb 0,Zb 0,Zb 0,Zb 0,Zb 0,Zb 0,Zb 0,Zb 0,Zb 0,Zb 0,Zb 0,Zb 0,Zb 0,Zb 0,Zb 0,Zb 0,Zb 0,Zb 0,Zb 0,Zb 0,Zb 0,Zb 0,Zb 0,Zb 0,Zb 0,Zb 0,Zb 0,Zb 0,Zb 0,Zb 0,Zi 0],Zi 5]
theorem C2 (nb:Nat) (B:Nat→Int) (ne:Nat) (E:Nat→Nat→Int) (i:Int) (hn:nb<9223372036854775808) (he:ne<9223372036854775808) (h:fG nb B ne E=true) (hi:0≤i∧i<nb):Pure Tryz.prog aZ 96 [.agg [js nb B,lV ne E],.int .i64 i] (.int .i64 0):=by
 have c1:=Ej nb B ne E hn he
 rw [h] at c1
 refine ar (own:=bq) Tryz.func96 (by kernel_rfl) mixed (by kernel_rfl)
  (.sc true 39 [.agg [.aH 1 nb fun i x=>Zi (B i),.aH 4 ne fun i j=>Zi (E i j)]] (.bool true) (.ff (.br (decide (i<0)||decide (i≥(nb:Int))) (.out (Zi 2) [] (Zi 0) []) (.out (Zi 0) [] (Zi 0) []))))
  (by kernel_rfl) ?_
 refine aM (c1) ?_
 refine cz ?_
 refine aL (fun h2=>?_) (fun h2=>?_)
 ·have g2:=(aA af af) h2
  exact aq ((by exfalso;omega))
 ·have g2:=(aw aa aa) h2
  exact aq (ay.of_eq rfl)
theorem Kh (nb:Nat) (B:Nat→Int) (ne:Nat) (E:Nat→Nat→Int) (i:Int) (hn:nb<9223372036854775808) (he:ne<9223372036854775808) (h:fG nb B ne E=true) (hi:0≤i∧i<nb):Pure Tryz.prog aZ 43 [.agg [js nb B,lV ne E],.int .i64 i] (.aX [.int .i64 (B i.toNat),.int .i64 0]):=by
 have c1:=C2 nb B ne E i hn he h hi
 refine ar (own:=bq) Tryz.func43 (by kernel_rfl) mixed (by kernel_rfl)
  (.sc true 96 [.agg [.aH 1 nb fun i x=>Zi (B i),.aH 4 ne fun i j=>Zi (E i j)],Zi i] (Zi 0) (.ff (.bj ((0:Int)≤i∧i<(nb:Int)) (.out (.aX [Zi (B (toNat i)),Zi 0]) [] (.aX [Zi (B (toNat i)),Zi 0]) []))))
  (by kernel_rfl) ?_
 refine aM (c1) ?_
 refine cz ?_
 refine aD (by omega) ?_
 exact aq (ay.of_eq rfl)
theorem Jm (k:aS) (hk:jz k) (i:Int):Pure Tryz.prog aZ 11 [.agg k.cells,.int .i64 i] (.aX [.int .i64 (sF k i),.int .i64 (ow k i)]):=by
 have c1:=p7 k hk
 have c2:=fun i h hi=>Kh k.nb k.B k.ne k.E i hk.nb hk.ne h hi
 refine ar (own:=bq) Tryz.func11 (by kernel_rfl) mixed (by kernel_rfl)
  (.sc true 10 [.agg (aS.cells k)] (.bool (dI k)) (.br (!dI k) (.out (.aX [Zi 0,Zi 1]) [] (.aX [Zi (sF k i),Zi (ow k i)]) []) (.br (decide (i<0)||decide (i≥(k.8:Int))) (.out (.aX [Zi 0,Zi 2]) [] (.aX [Zi (sF k i),Zi (ow k i)]) []) (.sc true 43 [.agg [.aH 1 k.10 fun i x=>Zi (k.11 i),.aH 4 k.12 fun i j=>Zi (k.13 i j)],Zi (wrap .i64 ((5:Int)+i))] (.aX [Zi (aS.B k (toNat (wrap .i64 ((5:Int)+i)))),Zi 0]) (.out (.aX [Zi (k.11 (toNat (wrap .i64 ((5:Int)+i)))),Zi 0]) [] (.aX [Zi (sF k i),Zi (ow k i)]) [])))))
  (by kernel_rfl) ?_
 refine aM (c1) ?_
 refine aL (fun h1=>?_) (fun h1=>?_)
 ·have g1:=(aC aF) h1
  exact aq (ay.of_eq (by rw [xk (Hs g1) (by decide),Hs g1]))
 ·have g1:=(az aB) h1
  refine aL (fun h3=>?_) (fun h3=>?_)
  ·have g3:=(aA af af) h3
   exact aq (ay.of_eq (by rw [xk (DR g1 g3) (by decide),DR g1 g3]))
  ·have g3:=(aw aa aa) h3
   refine aM (c2 (wrap .i64 ((5:Int)+i)) ((Hq g1 g3).1) ((Hq g1 g3).2)) ?_
   exact aq (ay.of_eq (by rw [KX g1 g3,Hv g1 g3]))
theorem Nd (k:aS) (hk:jz k) (n:Int):Pure Tryz.prog aZ 12 [.agg k.cells,.int .i64 n] (C5 k n):=by
 have c1:=p7 k hk
 have c4:=fun h=>ug k (rn hk h)
 refine ar (own:=owB) Tryz.func12 (by kernel_rfl) mixed (by kernel_rfl)
  (.sc true 10 [.agg (aS.cells k)] (.bool (dI k)) (.br (!dI k) (.out (.aX w7) [] (C5 k n) []) (.sc true 32 [Zi n,Zi 0,Zi 1099511627776] (.bool (decide (n≥0)&&decide (n≤1099511627776))) (.br (!(decide (n≥0)&&decide (n≤1099511627776))) (.out (.aX wB) [] (C5 k n) []) (.br (decide (n<k.22)) (.out (.aX [.agg [Zi 0,Zi 0,Zi 0,Zi 0,Zi 0,Zi 0,Zi 0,Zi 0,.bn,.bn,.bn,.bn,.bn,.bn,.bn,.bn,Zb 0,Zb 0,Zb 0,Zb 0,Zb 0,Zb 0,Zb 0,Zb 0,Zb 0,Zb 0,Zb 0,Zb 0,Zb 0,Zb 0,Zb 0,Zb 0,Zb 0,Zb 0,Zb 0,Zb 0,Zb 0,Zb 0,Zb 0,Zb 0,Zb 0,Zb 0,Zb 0,Zb 0,Zb 0,Zb 0,Zb 0,Zb 0,Zi 0,Zi 0],Zi 15]) [] (C5 k n) []) (.gc 22 [] [.agg (aS.cells k)] (.agg (aS.cw k (.ba 0 7 0 (aS.nc k)))) [some ⟨7,aS.nc k,true,bA.row fun i=>cU.cells (aS.C k i)⟩] (.out (.aX [.agg (Zi k.1::(aI.cells (aS.bT k)++Zi k.3::(.aH 11 k.4 fun i j=>Zi (k.5 i j))::(.aH 1 k.6 fun i x=>Zi (k.7 i))::(.aH 7 k.8 fun r k_1=>aQ (cU.cells (aS.C k (r+0))) k_1)::(.aH 1 k.10 fun i x=>Zi (k.11 i))::(.aH 4 k.12 fun i j=>Zi (k.13 i j))::(.aH 83 k.14 fun i j=>aQ (db.cells (aS.U k i)) j)::(.aH 21 k.16 fun i j=>Zi (k.17 i j))::(.aH 161 k.18 fun i j=>aQ (cH.cells (aS.G k i)) j)::(bf k.20++[Zi k.21,Zi n]))),Zi 0]) [] (C5 k n) [])))))))
  (by kernel_rfl) ?_
 refine aM (c1) ?_
 refine aL (fun h1=>?_) (fun h1=>?_)
 ·have g1:=(aC aF) h1
  exact aq (vM (N2 g1) (by decide))
 ·have g1:=(az aB) h1
  refine aM (qO (n) ((0:Int)) ((1099511627776:Int))) ?_
  refine aL (fun h4=>?_) (fun h4=>?_)
  ·have g4:=(aC (ao aa aa)) h4
   exact aq (vM (On g1 g4) (by decide))
  ·have g4:=(az (ah af af)) h4
   refine aL (fun h6=>?_) (fun h6=>?_)
   ·have g6:=af h6
    exact aq (vM (N0 g1 g4 g6) (by decide))
   ·have g6:=aa h6
    refine gZ (c4 (by assumption)) ?_
    exact aq (ay.of_eq (by rw [H3 (MV g1 g4 g6)];rfl))
theorem Cc:Pure Tryz.prog aZ 35 [.int .i64 5] (.aX [.agg [.aH 1 5 fun _ _=>.int .i64 0,.bn],.int .i64 0]):=by
 refine ar (own:=bq) Tryz.func35 (by kernel_rfl) mixed (by kernel_rfl)
  (.ff (.bj ((0:Int)≤5∧(5:Int)=(5:Int)∧(↑(8):Int)*5≤140737488355328∧(5:Int)≤9223372036854775807) (.out (AV.aX [AV.agg [AV.aH 1 5 fun (r k:Nat)=>Zi (aE (aQ [Zi 0] k)),AV.bn],Zi 0]) [] (AV.aX [AV.agg [AV.aH 1 5 fun (x x_1:Nat)=>Zi 0,AV.bn],Zi 0]) [])))
  (by kernel_rfl) ?_
 refine cz ?_
 refine aD (by omega) ?_
 exact aq (ay.aX ⟨ay.agg ⟨ay.aH fun i j hi hj=>by obtain rfl:j=0:=Nat.lt_one_iff.1 hj;rfl,ay.refl _,trivial⟩,ay.refl _,trivial⟩)
theorem Is (n:Nat) (f:Nat→Int) (hn:n≤16384) (hf:cS f n):Pure Tryz.prog aZ 34 [dC n f] (.aX [.agg (bf (gW n f)++[.int .i64 0]),.int .i64 0]):=by
 have c1:=gj "specie/draw".toUTF8 (by decide) (by decide) f n (by omega) hf
 refine ar (own:=bq) Tryz.func34 (by kernel_rfl) mixed (by kernel_rfl)
  (let y0:AV:=(.aX [.agg (bf (gW n f)++[Zi 0]),Zi 0]);(.br (decide ((n:Int)>16384)) (.out (.aX Da) [] y0 []) (.sc true 82 [AV.str { data := #[(115:UInt8),112,101,99,105,101,47,100,114,97,119] },.aH 1 n fun i x=>Zb (f i)] (.aX [.agg (bf (et (String.toUTF8 "specie/draw") n f)),Zi 0]) (.ff (.out (.aX [.agg (bf (et (String.toUTF8 "specie/draw") n f)++[Zi 0]),Zi 0]) [] y0 [])))))
  (by kernel_rfl) ?_
 refine aL (fun h0=>?_) (fun h0=>?_)
 ·have g0:=af h0
  exact aq ((by exfalso;omega))
 ·have g0:=aa h0
  refine aM (c1) ?_
  refine cz ?_
  exact aq (ay.of_eq rfl)
theorem JA (n:Nat) (f:Nat→Int) (hn:(n:Int)>16384):Pure Tryz.prog aZ 34 [dC n f] (.aX [.agg (bf z0++[.int .i64 0]),.int .i64 5]):=by
 refine ar (own:=bq) Tryz.func34 (by kernel_rfl) mixed (by kernel_rfl)
  (.br (decide ((n:Int)>16384)) (.out (.aX Da) [] (.aX [.agg (bf z0++[Zi 0]),Zi 5]) []) .no)
  (by kernel_rfl) ?_
 refine aL (fun h0=>?_) (fun h0=>?_)
 ·have g0:=af h0
  exact aq (ay.of_eq rfl)
 ·have g0:=aa h0
  exact (show False from (by exfalso;omega))
theorem IE (b:aI) (num x:Int) (n:Nat) (f:Nat→Int) (hw:b.gr.W) (hn:(n:Int)>16384):Pure Tryz.prog aZ 9 [b.av,.int .i64 num,.int .i64 x,dC n f] (vR b num x n f):=by
 have c0:=eF b hw
 have c1:=w3 b x
 have c2:=Cc
 have c3:=JA n f hn
 refine ar (own:=bq) Tryz.func9 (by kernel_rfl) mixed (by kernel_rfl)
  (.sc true 31 [.agg (aI.cells b)] (.bool (aT b)) (.br (!aT b) (.out (.aX w7) [] (vR b num x n f) []) (.sc true 32 [Zi num,Zi 0,Zi 7] (.bool (decide (num≥0)&&decide (num≤7))) (.sc ((!(decide (num≥0)&&decide (num≤7)))==false) 33 [.agg (aI.cells b),Zi x] (.bool (er b x)) (.br (!(decide (num≥0)&&decide (num≤7)) || !er b x) (.out (.aX wB) [] (vR b num x n f) []) (.sc true 34 [.aH 1 n fun i x=>Zb (f i)] (.aX [.agg (bf z0++[Zi 0]),Zi 5]) (.tt (.out (.aX [.agg [Zi 0,Zi 0,Zi 0,Zi 0,Zi 0,Zi 0,Zi 0,Zi 0,.bn,.bn,.bn,.bn,.bn,.bn,.bn,.bn,Zb 0,Zb 0,Zb 0,Zb 0,Zb 0,Zb 0,Zb 0,Zb 0,Zb 0,Zb 0,Zb 0,Zb 0,Zb 0,Zb 0,Zb 0,Zb 0,Zb 0,Zb 0,Zb 0,Zb 0,Zb 0,Zb 0,Zb 0,Zb 0,Zb 0,Zb 0,Zb 0,Zb 0,Zb 0,Zb 0,Zb 0,Zb 0,Zi 0,Zi 0],Zi 5]) [] (vR b num x n f) []))))))))
  (by kernel_rfl) ?_
 refine aM (c0) ?_
 refine aL (fun h1=>?_) (fun h1=>?_)
 ·have g1:=(aC aF) h1
  exact aq (pP (H6 g1) (by decide))
 ·have g1:=(az aB) h1
  refine aM (qO (num) ((0:Int)) ((7:Int))) ?_
  refine aW (fun h4=>c1) ?_
  refine aL (fun h5=>?_) (fun h5=>?_)
  ·have g5:=(aA (aC (ao aa aa)) (aC aF)) h5
   exact aq (pP (HI g1 g5) (by decide))
  ·have g5:=(aw (az (ah af af)) (az aB)) h5
   refine aM (c3) ?_
   refine gp ?_
   exact aq (pP (Mu g1 g5 hn) (by decide))
theorem IT (b:aI) (num x:Int) (n:Nat) (f:Nat→Int) (hw:b.gr.W) (hf:cS f n) (hn:n≤16384):Pure Tryz.prog aZ 9 [b.av,.int .i64 num,.int .i64 x,dC n f] (vR b num x n f):=by
 have c0:=eF b hw
 have c1:=w3 b x
 have c2:=Cc
 have c3:=Is n f hn hf
 refine ar (own:=bq) Tryz.func9 (by kernel_rfl) mixed (by kernel_rfl)
  (.sc true 31 [.agg (aI.cells b)] (.bool (aT b)) (.br (!aT b) (.out (.aX w7) [] (vR b num x n f) []) (.sc true 32 [Zi num,Zi 0,Zi 7] (.bool (decide (num≥0)&&decide (num≤7))) (.sc ((!(decide (num≥0)&&decide (num≤7)))==false) 33 [.agg (aI.cells b),Zi x] (.bool (er b x)) (.br (!(decide (num≥0)&&decide (num≤7)) || !er b x) (.out (.aX wB) [] (vR b num x n f) []) (.sc true 34 [.aH 1 n fun i x=>Zb (f i)] (.aX [.agg (bf (gW n f)++[Zi 0]),Zi 0]) (.ff (.dc true 35 [Zi 5] (.aX [.agg [.aH 1 5 fun x x_1=>Zi 0,.bn],Zi 0]) (.ff (.out (.aX [.agg (Zi num::(aI.cells b++Zi x::.bn::.bn::.bn::(.aH 1 5 fun x x_1=>Zi 0)::.bn::.bn::.bn::.bn::(bf (gW n f)++[Zi 0,Zi 0]))),Zi 0]) [] (vR b num x n f) []))))))))))
  (by kernel_rfl) ?_
 refine aM (c0) ?_
 refine aL (fun h1=>?_) (fun h1=>?_)
 ·have g1:=(aC aF) h1
  exact aq (pP (H6 g1) (by decide))
 ·have g1:=(az aB) h1
  refine aM (qO (num) ((0:Int)) ((7:Int))) ?_
  refine aW (fun h4=>c1) ?_
  refine aL (fun h5=>?_) (fun h5=>?_)
  ·have g5:=(aA (aC (ao aa aa)) (aC aF)) h5
   exact aq (pP (HI g1 g5) (by decide))
  ·have g5:=(aw (az (ah af af)) (az aB)) h5
   refine aM (c3) ?_
   refine cz ?_
   refine b9 (c2) ?_
   refine cz ?_
   exact aq (I9 (HT g1 g5 (by omega)))
theorem JM (b:aI) (num x:Int) (n:Nat) (f:Nat→Int) (hw:b.gr.W) (hf:cS f n):Pure Tryz.prog aZ 9 [b.av,.int .i64 num,.int .i64 x,dC n f] (vR b num x n f):=by
 by_cases hn:(n:Int)>16384
 ·exact IE b num x n f hw hn
 ·exact IT b num x n f hw hf (by omega)
end Go.Proofs.YtpefjkpdniiaoaaGreatDoor

namespace Go.Sp
open Go.IntKind (wrap)
open Int (toNat)
open Go Go.Am
def ew (s:au):Bool:=decide ((s.nl:Int)≤40)&&decide ((s.np:Int)≤30)
def rr (c:cU):Bool := !(decide ((c.pf.na:Int)>20)||decide ((c.pf.nz:Int)>20))
def fwH (k:aS):Bool:=decide (k.nr≤40)&&decide (k.ns≤40)&&decide (k.nc≤12)&&decide (k.ni≤12)&&decide (k.ng≤12)&&decide (k.ne≤200)&&decide (k.nb≤200)&&decide (k.nu≤100)
def wN (k:aS):Bool:=fwH k && !anyI (fun i => !ew (k.U i).sp) k.nu && !anyI (fun i => !(ew (k.G i).s&&ew (k.G i).t)) k.ng && !anyI (fun i => !rr (k.C i)) k.nc
variable {k : aS}
theorem yw:fwH k=true↔k.nr≤40∧k.ns≤40∧k.nc≤12∧k.ni≤12∧k.ng≤12∧k.ne≤200∧k.nb≤200∧k.nu≤100:=by
 simp [fwH,and_assoc]
theorem NX (g:(((((((k.nr:Int)>40∨(k.ns:Int)>40)∨(k.nc:Int)>12)∨(k.ni:Int)>12)∨(k.ng:Int)>12)∨(k.ne:Int)>200)∨(k.nb:Int)>200)∨(k.nu:Int)>100):wN k=false:=eO fun e=>by
 have e:fwH k=true:=by unfold wN at e;simp only [Bool.and_eq_true] at e;exact e.1.1.1
 have:=yw.1 e
 omega
theorem OA (g:anyI (fun i => !ew (k.U i).sp) k.nu=true∨anyI (fun i => !(ew (k.G i).s&&ew (k.G i).t)) k.ng=true):wN k=false:=by
 unfold wN;rcases g with g|g<;>rw [g]<;>simp
theorem Oc (g:(((((((¬(k.nr:Int)>40∧¬(k.ns:Int)>40)∧¬(k.nc:Int)>12)∧¬(k.ni:Int)>12)∧¬(k.ng:Int)>12)∧¬(k.ne:Int)>200)∧¬(k.nb:Int)>200)∧¬(k.nu:Int)>100))
  (g':anyI (fun i => !ew (k.U i).sp) k.nu=false∧anyI (fun i => !(ew (k.G i).s&&ew (k.G i).t)) k.ng=false):(!anyI (fun i => !rr (k.C i)) k.nc)=wN k:=by
 have:fwH k=true:=yw.2 (by omega)
 unfold wN;rw [this,g'.1,g'.2];rfl
end Go.Sp

namespace Go.Proofs.YtpefjkpdniiaoaaGreatDoor
open Go.IntKind (wrap)
open Int (toNat)
open Go Go.Am Go.Sp
set_option maxRecDepth 100000
theorem xe (s:au):Pure Tryz.prog aZ 13 [s.av] (.bool (ew s)):=by
 refine ar (own:=bq) Tryz.func13 (by kernel_rfl) mixed (by kernel_rfl)
  (.out (.bool (decide ((s.16:Int)≤40)&&decide ((s.19:Int)≤30))) [] (.bool (ew s)) [])
  (by kernel_rfl) ?_
 exact aq (ay.of_eq rfl)
theorem Jv (u:db):Pure Tryz.prog aZ 15 [.agg u.cells,.bJ 1 (aQ [.fn (.func 13) [] []])] (.bool (!ew u.sp)):=by
 have c1:=xe u.sp
 refine ar (own:=bq) Tryz.func15 (by kernel_rfl) mixed (by kernel_rfl)
  (.sc true 13 [.agg (au.cells (db.sp u))] (.bool (ew (db.sp u))) (.out (.bool !ew u.3) [] (.bool !ew (db.sp u)) []))
  (by kernel_rfl) ?_
 refine aM (c1) ?_
 exact aq (ay.of_eq rfl)
theorem J4 (g:cH):Pure Tryz.prog aZ 17 [.agg g.cells,.bJ 1 (aQ [.fn (.func 13) [] []])] (.bool (!(ew g.s&&ew g.t))):=by
 have c1:=xe g.s
 have c2:=xe g.t
 refine ar (own:=bq) Tryz.func17 (by kernel_rfl) mixed (by kernel_rfl)
  (.sc true 13 [.agg (au.cells (cH.s g))] (.bool (ew (cH.s g))) (.sc ((!ew g.1)==false) 13 [.agg (au.cells (cH.t g))] (.bool (ew (cH.t g))) (.out (.bool (!ew g.1 || !ew g.2)) [] (.bool !(ew (cH.s g)&&ew (cH.t g))) [])))
  (by kernel_rfl) ?_
 refine aM (c1) ?_
 refine aW (fun h1=>c2) ?_
 exact aq (ay.of_eq (by simp_all))
theorem JG (c:cU):Pure Tryz.prog aZ 19 [.agg c.cells] (.bool (!rr c)):=by
 refine ar (own:=bq) Tryz.func19 (by kernel_rfl) mixed (by kernel_rfl)
  (.out (.bool (decide ((↑(cU.pf c).1:Int)>20)||decide ((↑(cU.pf c).4:Int)>20))) [] (.bool !rr c) [])
  (by kernel_rfl) ?_
 exact aq (ay.of_eq (congrArg AV.bool (Bool.not_not _).symm))
theorem M8 (n:Nat) (F:Nat→db) (hn:n<9223372036854775808):Pure Tryz.prog aZ 44 [mV n F,.fn (.func 15) [] [.bJ 1 (aQ [.fn (.func 13) [] []])]] (.int .i64 (aG (fun i => !ew (F i).sp) n 0)):=by
 have c1:=fun i=>Jv (F i)
 refine ar (own:=bq) Tryz.func44 (by kernel_rfl) mixed (by kernel_rfl)
  (let y1:=(fun (x:{ x:Nat // x≤n∧(fun (i:Nat)=>aG (fun (i:Nat) => !ew (db.sp (F i))) n 0=aG (fun (i:Nat) => !ew (db.sp (F i))) (n - i) i) x })=>n - x.1);let y2:List AV:=[AV.fn (Fn.func (13:FuncId)) [] []];let y0:=(fun (x:{ x:Nat // x≤n∧(fun (i:Nat)=>aG (fun (i:Nat) => !ew (db.sp (F i))) n 0=aG (fun (i:Nat) => !ew (db.sp (F i))) (n - i) i) x })=>aY [0,1,7,8] [AV.aH 83 n fun (i j:Nat)=>aQ (db.cells (F i)) j,AV.fn (Fn.func (15:FuncId)) [] [AV.bJ 1 (aQ y2)],Zi (↑n:Int),Zi (↑(x.1):Int)] []);let y3:AV:=(Zi (aG (fun (i:Nat) => !ew (db.sp (F i))) n 0));(.loop ({ x:Nat // x≤n∧(fun (i:Nat)=>aG (fun (i:Nat) => !ew (db.sp (F i))) n 0=aG (fun (i:Nat) => !ew (db.sp (F i))) (n - i) i) x }) y0 y1 (⟨0,⟨Nat.zero_le n,rfl⟩⟩) ([0,1,7,8]) ([]) ([AV.aH 83 n fun (i j:Nat)=>aQ (db.cells (F i)) j,AV.fn (Fn.func (15:FuncId)) [] [AV.bJ 1 (aQ y2)],Zi (↑n:Int),Zi 0]) ([]) (fun x0=>(.br (decide ((↑x0.1:Int)<(↑n:Int))) (.bj ((0:Int)≤(↑x0.1:Int)∧(↑x0.1:Int)<(↑n:Int)) (.sc (true) 15 ([AV.agg (db.cells (F (toNat (↑(x0.1):Int)))),AV.bJ 1 (aQ y2)]) (AV.bool !ew (db.sp (F (toNat (↑(x0.1):Int))))) (.br (!ew (F (toNat (↑(x0.1):Int))).3) (.out (Zi (↑x0.1:Int)) [] y3 []) (.again (bh 0 y0 y1 x0) ([0,1,7,8]) ([]) ([AV.aH 83 n fun (i j:Nat)=>aQ (db.cells (F i)) j,AV.fn (Fn.func (15:FuncId)) [] [AV.bJ 1 (aQ y2)],Zi (↑n:Int),Zi (wrap .i64 ((↑x0.1:Int)+1))]) ([]))))) (.out (Zi (-1)) [] y3 [])))))
  (by kernel_rfl) ?_
 refine aV (fun _ hs=>hs.le (⟨.refl _,.refl _,.refl _,.refl _,trivial⟩) (trivial)) (fun x0=>?_)
 try (have q0:=x0.2;dsimp only at q0)
 refine aL (fun h1=>?_) (fun h1=>?_)
 ·have g1:=af h1
  refine aD (by omega) ?_
  refine aM (c1 (toNat (↑(x0.1):Int))) ?_
  refine aL (fun h4=>?_) (fun h4=>?_)
  ·have g4:=(aC aF) h4
   try simp only [Int.toNat_natCast] at g4
   exact aq (ay.of_eq (congrArg _ (cr x0.2.2 (by omega) (by simpa using h4))))
  ·have g4:=(az aB) h4
   try simp only [Int.toNat_natCast] at g4
   exact aN (⟨x0.1+1,by omega,bS x0.2.2 (by omega) (by simpa using h4)⟩) (fun _ hs=>hs.le (⟨.refl _,.refl _,.refl _,aK (by omega),trivial⟩) (trivial)) (by dsimp only;omega)
 ·have g1:=aa h1
  exact aq (ay.of_eq (congrArg _ (bW x0.2.2 (by omega))))
theorem NG (n:Nat) (F:Nat→db) (hn:n<9223372036854775808):Pure Tryz.prog aZ 14 [mV n F,.fn (.func 15) [] [.bJ 1 (aQ [.fn (.func 13) [] []])]] (.bool (anyI (fun i => !ew (F i).sp) n)):=by
 refine ar (own:=bq) Tryz.func14 (by kernel_rfl) mixed (by kernel_rfl)
  (.sc true 44 [.aH 83 n fun i j=>aQ (db.cells (F i)) j,AV.fn (Fn.func (15:FuncId)) [] [AV.bJ 1 (aQ [AV.fn (Fn.func (13:FuncId)) [] []])]] (Zi (aG (fun i => !ew (db.sp (F i))) n 0)) (.out (.bool (decide (aG (fun i => !ew (F i).3) n 0≥0))) [] (.bool (anyI (fun i => !ew (db.sp (F i))) n)) []))
  (by kernel_rfl) ?_
 refine aM ((M8 n F hn)) ?_
 exact aq (ay.refl _)
theorem Lq (n:Nat) (F:Nat→cH) (hn:n<9223372036854775808):Pure Tryz.prog aZ 45 [mS n F,.fn (.func 17) [] [.bJ 1 (aQ [.fn (.func 13) [] []])]] (.int .i64 (aG (fun i => !(ew (F i).s&&ew (F i).t)) n 0)):=by
 have c1:=fun i=>J4 (F i)
 refine ar (own:=bq) Tryz.func45 (by kernel_rfl) mixed (by kernel_rfl)
  (let y1:=(fun (x:{ x:Nat // x≤n∧(fun (i:Nat)=>aG (fun (i:Nat) => !(ew (cH.s (F i))&&ew (cH.t (F i)))) n 0=aG (fun (i:Nat) => !(ew (cH.s (F i))&&ew (cH.t (F i)))) (n - i) i) x })=>n - x.1);let y2:AV:=(Zi (aG (fun (i:Nat) => !(ew (cH.s (F i))&&ew (cH.t (F i)))) n 0));let y3:List AV:=[AV.fn (Fn.func (13:FuncId)) [] []];let y0:=(fun (x:{ x:Nat // x≤n∧(fun (i:Nat)=>aG (fun (i:Nat) => !(ew (cH.s (F i))&&ew (cH.t (F i)))) n 0=aG (fun (i:Nat) => !(ew (cH.s (F i))&&ew (cH.t (F i)))) (n - i) i) x })=>aY [0,1,7,8] [AV.aH 161 n fun (i j:Nat)=>aQ (cH.cells (F i)) j,AV.fn (Fn.func (17:FuncId)) [] [AV.bJ 1 (aQ y3)],Zi (↑n:Int),Zi (↑(x.1):Int)] []);(.loop ({ x:Nat // x≤n∧(fun (i:Nat)=>aG (fun (i:Nat) => !(ew (cH.s (F i))&&ew (cH.t (F i)))) n 0=aG (fun (i:Nat) => !(ew (cH.s (F i))&&ew (cH.t (F i)))) (n - i) i) x }) y0 y1 (⟨0,⟨Nat.zero_le n,rfl⟩⟩) ([0,1,7,8]) ([]) ([AV.aH 161 n fun (i j:Nat)=>aQ (cH.cells (F i)) j,AV.fn (Fn.func (17:FuncId)) [] [AV.bJ 1 (aQ y3)],Zi (↑n:Int),Zi 0]) ([]) (fun x0=>(.br (decide ((↑x0.1:Int)<(↑n:Int))) (.bj ((0:Int)≤(↑x0.1:Int)∧(↑x0.1:Int)<(↑n:Int)) (.sc (true) 17 ([AV.agg (cH.cells (F (toNat (↑(x0.1):Int)))),AV.bJ 1 (aQ y3)]) (AV.bool !(ew (cH.s (F (toNat (↑(x0.1):Int))))&&ew (cH.t (F (toNat (↑(x0.1):Int)))))) (.br (!(ew (F (toNat (↑(x0.1):Int))).1&&ew (F (toNat (↑(x0.1):Int))).2)) (.out (Zi (↑x0.1:Int)) [] y2 []) (.again (bh 0 y0 y1 x0) ([0,1,7,8]) ([]) ([AV.aH 161 n fun (i j:Nat)=>aQ (cH.cells (F i)) j,AV.fn (Fn.func (17:FuncId)) [] [AV.bJ 1 (aQ y3)],Zi (↑n:Int),Zi (wrap .i64 ((↑x0.1:Int)+1))]) ([]))))) (.out (Zi (-1)) [] y2 [])))))
  (by kernel_rfl) ?_
 refine aV (fun _ hs=>hs.le (⟨.refl _,.refl _,.refl _,.refl _,trivial⟩) (trivial)) (fun x0=>?_)
 try (have q0:=x0.2;dsimp only at q0)
 refine aL (fun h1=>?_) (fun h1=>?_)
 ·have g1:=af h1
  refine aD (by omega) ?_
  refine aM (c1 (toNat (↑(x0.1):Int))) ?_
  refine aL (fun h4=>?_) (fun h4=>?_)
  ·have g4:=(aC (ao aF aF)) h4
   try simp only [Int.toNat_natCast] at g4
   exact aq (ay.of_eq (congrArg _ (cr x0.2.2 (by omega) (by simpa using h4))))
  ·have g4:=(az (ah aB aB)) h4
   try simp only [Int.toNat_natCast] at g4
   exact aN (⟨x0.1+1,by omega,bS x0.2.2 (by omega) (by simpa using h4)⟩) (fun _ hs=>hs.le (⟨.refl _,.refl _,.refl _,aK (by omega),trivial⟩) (trivial)) (by dsimp only;omega)
 ·have g1:=aa h1
  exact aq (ay.of_eq (congrArg _ (bW x0.2.2 (by omega))))
theorem Nv (n:Nat) (F:Nat→cH) (hn:n<9223372036854775808):Pure Tryz.prog aZ 16 [mS n F,.fn (.func 17) [] [.bJ 1 (aQ [.fn (.func 13) [] []])]] (.bool (anyI (fun i => !(ew (F i).s&&ew (F i).t)) n)):=by
 refine ar (own:=bq) Tryz.func16 (by kernel_rfl) mixed (by kernel_rfl)
  (.sc true 45 [.aH 161 n fun i j=>aQ (cH.cells (F i)) j,AV.fn (Fn.func (17:FuncId)) [] [AV.bJ 1 (aQ [AV.fn (Fn.func (13:FuncId)) [] []])]] (Zi (aG (fun i => !(ew (cH.s (F i))&&ew (cH.t (F i)))) n 0)) (.out (.bool (decide (aG (fun i => !(ew (F i).1&&ew (F i).2)) n 0≥0))) [] (.bool (anyI (fun i => !(ew (cH.s (F i))&&ew (cH.t (F i)))) n)) []))
  (by kernel_rfl) ?_
 refine aM ((Lq n F hn)) ?_
 exact aq (ay.refl _)
theorem LU (n:Nat) (F:Nat→cU) (hn:n<9223372036854775808):Pure Tryz.prog aZ 46 [wg n F,.fn (.func 19) [] []] (.int .i64 (aG (fun i => !rr (F i)) n 0)):=by
 have c1:=fun i=>JG (F i)
 refine ar (own:=bq) Tryz.func46 (by kernel_rfl) mixed (by kernel_rfl)
  (let y0:=(fun (x:{ x:Nat // x≤n∧(fun i=>aG (fun i => !rr (F i)) n 0=aG (fun i => !rr (F i)) (n - i) i) x })=>aY [0,1,7,8] [.aH 7 n fun i j=>aQ (cU.cells (F i)) j,AV.fn (Fn.func (19:FuncId)) [] [],Zi n,Zi x.1] []);let y1:=(fun (x:{ x:Nat // x≤n∧(fun i=>aG (fun i => !rr (F i)) n 0=aG (fun i => !rr (F i)) (n - i) i) x })=>n - x.1);let y2:AV:=(Zi (aG (fun i => !rr (F i)) n 0));(.loop ({ x:Nat // x≤n∧(fun i=>aG (fun i => !rr (F i)) n 0=aG (fun i => !rr (F i)) (n - i) i) x }) y0 y1 (⟨0,⟨Nat.zero_le n,rfl⟩⟩) [0,1,7,8] [] [.aH 7 n fun i j=>aQ (cU.cells (F i)) j,AV.fn (Fn.func (19:FuncId)) [] [],Zi n,Zi 0] [] (fun x0=>(.br (decide ((x0.1:Int)<(n:Int))) (.bj (0≤(x0.1:Int)∧(x0.1:Int)<(n:Int)) (.sc true 19 [.agg (cU.cells (F (toNat (↑(x0.1):Int))))] (.bool !rr (F (toNat (↑(x0.1):Int)))) (.br (!rr (F (toNat (x0.1:Int)))) (.out (Zi x0.1) [] y2 []) (.again (bh 0 y0 y1 x0) [0,1,7,8] [] [.aH 7 n fun i j=>aQ (cU.cells (F i)) j,AV.fn (Fn.func (19:FuncId)) [] [],Zi n,Zi (wrap .i64 ((x0.1:Int)+1))] [])))) (.out (Zi (-1)) [] y2 [])))))
  (by kernel_rfl) ?_
 refine aV (fun _ hs=>hs.le (⟨.refl _,.refl _,.refl _,.refl _,trivial⟩) (trivial)) (fun x0=>?_)
 try (have q0:=x0.2;dsimp only at q0)
 refine aL (fun h1=>?_) (fun h1=>?_)
 ·have g1:=af h1
  refine aD (by omega) ?_
  refine aM (c1 (toNat (↑(x0.1):Int))) ?_
  refine aL (fun h4=>?_) (fun h4=>?_)
  ·have g4:=(aC aF) h4
   try simp only [Int.toNat_natCast] at g4
   exact aq (ay.of_eq (congrArg _ (cr x0.2.2 (by omega) (by simpa using h4))))
  ·have g4:=(az aB) h4
   try simp only [Int.toNat_natCast] at g4
   exact aN (⟨x0.1+1,by omega,bS x0.2.2 (by omega) (by simpa using h4)⟩) (fun _ hs=>hs.le (⟨.refl _,.refl _,.refl _,aK (by omega),trivial⟩) (trivial)) (by dsimp only;omega)
 ·have g1:=aa h1
  exact aq (ay.of_eq (congrArg _ (bW x0.2.2 (by omega))))
theorem Mo (n:Nat) (F:Nat→cU) (hn:n<9223372036854775808):Pure Tryz.prog aZ 18 [wg n F,.fn (.func 19) [] []] (.bool (anyI (fun i => !rr (F i)) n)):=by
 refine ar (own:=bq) Tryz.func18 (by kernel_rfl) mixed (by kernel_rfl)
  (.sc true 46 [.aH 7 n fun i j=>aQ (cU.cells (F i)) j,AV.fn (Fn.func (19:FuncId)) [] []] (Zi (aG (fun i => !rr (F i)) n 0)) (.out (.bool (decide (aG (fun i => !rr (F i)) n 0≥0))) [] (.bool (anyI (fun i => !rr (F i)) n)) []))
  (by kernel_rfl) ?_
 refine aM ((LU n F hn)) ?_
 exact aq (ay.refl _)
theorem Fy (k:aS) (hu:k.nu<9223372036854775808) (hg:k.ng<9223372036854775808) (hc:k.nc<9223372036854775808):Pure Tryz.prog aZ 5 [.agg k.cells] (.bool (wN k)):=by
 have c1:=NG k.nu k.U hu
 have c2:=Nv k.ng k.G hg
 have c3:=Mo k.nc k.C hc
 refine ar (own:=bq) Tryz.func5 (by kernel_rfl) mixed (by kernel_rfl)
  (let y0:List AV:=[AV.bJ 1 fun k=>aQ [AV.fn (Fn.func 13) [] []] k];(.br (decide ((k.4:Int)>40)||decide ((k.6:Int)>40)||decide ((k.8:Int)>12)||decide ((k.16:Int)>12)||decide ((k.18:Int)>12)||decide ((k.12:Int)>200)||decide ((k.10:Int)>200)||decide ((k.14:Int)>100)) (.out (.bool false) [] (.bool (wN k)) []) (.sc true 14 [.aH 83 k.14 fun i j=>aQ (db.cells (aS.U k i)) j,AV.fn (Fn.func 15) [] y0] (.bool (anyI (fun i => !ew (db.sp (aS.U k i))) (aS.nu k))) (.sc (anyI (fun i => !ew (aS.U k i).3) k.14==false) 16 [.aH 161 k.18 fun i j=>aQ (cH.cells (aS.G k i)) j,AV.fn (Fn.func 17) [] y0] (.bool (anyI (fun i => !(ew (cH.s (aS.G k i))&&ew (cH.t (aS.G k i)))) (aS.ng k))) (.br (anyI (fun i => !ew (aS.U k i).3) k.14||anyI (fun i => !(ew (aS.G k i).1&&ew (aS.G k i).2)) k.18) (.out (.bool false) [] (.bool (wN k)) []) (.sc true 18 [.aH 7 k.8 fun i j=>aQ (cU.cells (aS.C k i)) j,AV.fn (Fn.func 19) [] []] (.bool (anyI (fun i => !rr (aS.C k i)) (aS.nc k))) (.out (.bool !anyI (fun i => !rr (k.9 i)) k.8) [] (.bool (wN k)) [])))))))
  (by kernel_rfl) ?_
 refine aL (fun h0=>?_) (fun h0=>?_)
 ·have g0:=(aA (aA (aA (aA (aA (aA (aA af af) af) af) af) af) af) af) h0
  exact aq (ay.of_eq (congrArg AV.bool (NX g0).symm))
 ·have g0:=(aw (aw (aw (aw (aw (aw (aw aa aa) aa) aa) aa) aa) aa) aa) h0
  refine aM (c1) ?_
  refine aW (fun h3=>c2) ?_
  refine aL (fun h4=>?_) (fun h4=>?_)
  ·have g4:=(aA aB aB) h4
   exact aq (ay.of_eq (congrArg AV.bool (OA g4).symm))
  ·have g4:=(aw aF aF) h4
   refine aM (c3) ?_
   exact aq (ay.of_eq (congrArg AV.bool (Oc g0 g4)))
theorem EH (i:Int) (n:Nat) (f:Nat→Nat→Int) (hn:n≤100000):Pure Tryz.prog aZ 216 [.agg [.int .i64 i,zD n f],.agg [.int .i64 i,zD n f]] (.bool true):=by
 refine ar (own:=bq) Tryz.func216 (by kernel_rfl) mixed (by kernel_rfl)
  (.br (i != i||(n:Int) != (n:Int)) (.out (.bool false) [] (.bool true) []) (.loop (Sp.Sub fun x=>x≤n) (fun (x:Sp.Sub fun x=>x≤n)=>aY [2,3,5] [.own 0 2 0 0 2,.own 1 2 0 0 2,Zi x.1] [some ⟨2,1,true,.bc [[Zi i,zD n f]]⟩,some ⟨2,1,true,.bc [[Zi i,zD n f]]⟩]) (fun (x:Sp.Sub fun x=>x≤n)=>n - x.1) (⟨0,Nat.zero_le n⟩) [2,3,5] [0,8] [.own 0 2 0 0 2,.own 1 2 0 0 2,Zi 0] [some ⟨2,1,true,.bc [[Zi i,.aH 32 n fun i j=>Zb (f i j)]]⟩,some ⟨2,1,true,.bc [[Zi i,.aH 32 n fun i j=>Zb (f i j)]]⟩] (fun x2=>(.br (decide ((x2.1:Int)<(n:Int))) (.bj (0≤(x2.1:Int)∧(x2.1:Int)<(n:Int)) (.bj (0≤(x2.1:Int)∧(x2.1:Int)<(n:Int)) (.br (!(f (toNat (x2.1:Int)) 0==f (toNat (x2.1:Int)) 0&&(f (toNat (x2.1:Int)) 1==f (toNat (x2.1:Int)) 1&&(f (toNat (x2.1:Int)) 2==f (toNat (x2.1:Int)) 2&&(f (toNat (x2.1:Int)) 3==f (toNat (x2.1:Int)) 3&&(f (toNat (x2.1:Int)) 4==f (toNat (x2.1:Int)) 4&&(f (toNat (x2.1:Int)) 5==f (toNat (x2.1:Int)) 5&&(f (toNat (x2.1:Int)) 6==f (toNat (x2.1:Int)) 6&&(f (toNat (x2.1:Int)) 7==f (toNat (x2.1:Int)) 7&&(f (toNat (x2.1:Int)) 8==f (toNat (x2.1:Int)) 8&&(f (toNat (x2.1:Int)) 9==f (toNat (x2.1:Int)) 9&&(f (toNat (x2.1:Int)) 10==f (toNat (x2.1:Int)) 10&&(f (toNat (x2.1:Int)) 11==f (toNat (x2.1:Int)) 11&&(f (toNat (x2.1:Int)) 12==f (toNat (x2.1:Int)) 12&&(f (toNat (x2.1:Int)) 13==f (toNat (x2.1:Int)) 13&&(f (toNat (x2.1:Int)) 14==f (toNat (x2.1:Int)) 14&&(f (toNat (x2.1:Int)) 15==f (toNat (x2.1:Int)) 15&&(f (toNat (x2.1:Int)) 16==f (toNat (x2.1:Int)) 16&&(f (toNat (x2.1:Int)) 17==f (toNat (x2.1:Int)) 17&&(f (toNat (x2.1:Int)) 18==f (toNat (x2.1:Int)) 18&&(f (toNat (x2.1:Int)) 19==f (toNat (x2.1:Int)) 19&&(f (toNat (x2.1:Int)) 20==f (toNat (x2.1:Int)) 20&&(f (toNat (x2.1:Int)) 21==f (toNat (x2.1:Int)) 21&&(f (toNat (x2.1:Int)) 22==f (toNat (x2.1:Int)) 22&&(f (toNat (x2.1:Int)) 23==f (toNat (x2.1:Int)) 23&&(f (toNat (x2.1:Int)) 24==f (toNat (x2.1:Int)) 24&&(f (toNat (x2.1:Int)) 25==f (toNat (x2.1:Int)) 25&&(f (toNat (x2.1:Int)) 26==f (toNat (x2.1:Int)) 26&&(f (toNat (x2.1:Int)) 27==f (toNat (x2.1:Int)) 27&&(f (toNat (x2.1:Int)) 28==f (toNat (x2.1:Int)) 28&&(f (toNat (x2.1:Int)) 29==f (toNat (x2.1:Int)) 29&&(f (toNat (x2.1:Int)) 30==f (toNat (x2.1:Int)) 30&&(f (toNat (x2.1:Int)) 31==f (toNat (x2.1:Int)) 31&&true))))))))))))))))))))))))))))))))) (.out (.bool false) [] (.bool true) []) (.again (bh 0 (fun (x:Sp.Sub fun x=>x≤n)=>aY [2,3,5] [.own 0 2 0 0 2,.own 1 2 0 0 2,Zi x.1] [some ⟨2,1,true,.bc [[Zi i,zD n f]]⟩,some ⟨2,1,true,.bc [[Zi i,zD n f]]⟩]) (fun (x:Sp.Sub fun x=>x≤n)=>n - x.1) x2) [2,3,5] [0,1] [.own 0 2 0 0 2,.own 1 2 0 0 2,Zi (wrap .i64 ((x2.1:Int)+1))] [some ⟨2,1,true,.bc [[Zi i,.aH 32 n fun i j=>Zb (f i j)]]⟩,some ⟨2,1,true,.bc [[Zi i,.aH 32 n fun i j=>Zb (f i j)]]⟩])))) (.out (.bool true) [] (.bool true) [])))))
  (by kernel_rfl) ?_
 refine aL (fun h0=>?_) (fun h0=>?_)
 ·have g0:=(aA aU aU) h0
  exact aq (ay.of_eq (by simp_all))
 ·have g0:=(aw aR aR) h0
  refine aV (fun _ hs=>hs.le (⟨.refl _,.refl _,.refl _,trivial⟩) (⟨.refl _,.refl _,trivial⟩)) (fun x2=>?_)
  try (have q2:=x2.2;dsimp only at q2)
  refine aL (fun h3=>?_) (fun h3=>?_)
  ·have g3:=af h3
   refine aD (by omega) ?_
   refine aD (by omega) ?_
   refine aL (fun h6=>?_) (fun h6=>?_)
   ·have g6:=(aC (ao aj (ao aj (ao aj (ao aj (ao aj (ao aj (ao aj (ao aj (ao aj (ao aj (ao aj (ao aj (ao aj (ao aj (ao aj (ao aj (ao aj (ao aj (ao aj (ao aj (ao aj (ao aj (ao aj (ao aj (ao aj (ao aj (ao aj (ao aj (ao aj (ao aj (ao aj (ao aj aF))))))))))))))))))))))))))))))))) h6
    try simp only [Int.toNat_natCast] at g6
    exact aq (ay.of_eq (by simp_all))
   ·have g6:=(az (ah ai (ah ai (ah ai (ah ai (ah ai (ah ai (ah ai (ah ai (ah ai (ah ai (ah ai (ah ai (ah ai (ah ai (ah ai (ah ai (ah ai (ah ai (ah ai (ah ai (ah ai (ah ai (ah ai (ah ai (ah ai (ah ai (ah ai (ah ai (ah ai (ah ai (ah ai (ah ai aB))))))))))))))))))))))))))))))))) h6
    try simp only [Int.toNat_natCast] at g6
    exact aN (⟨x2.1+1,by omega⟩) (fun _ hs=>hs.le (⟨.refl _,.refl _,aK (by omega),trivial⟩) (⟨.refl _,.refl _,trivial⟩)) (by dsimp only;omega)
  ·have g3:=aa h3
   exact aq (ay.of_eq rfl)
theorem pj (s:au) (hl:s.nl≤1000) (hp:s.np≤1000):Pure Tryz.prog aZ 140 [s.av,s.av] (.bool true):=by
 refine ar (own:=bq) Tryz.func140 (by kernel_rfl) mixed (by kernel_rfl)
  (let y0:List (Option Ob):=[some ⟨80,1,true,.bc [au.cells s]⟩,some ⟨80,1,true,.bc [au.cells s]⟩];let y1:List AV:=[Zi s.18,.aH 32 s.19 fun i j=>Zb (s.20 i j)];(.sc ((!(s.1==s.1&&(s.2==s.2&&(s.3==s.3&&(s.4==s.4&&(s.5==s.5&&(s.6 0==s.6 0&&(s.6 1==s.6 1&&(s.6 2==s.6 2&&(s.6 3==s.6 3&&(s.6 4==s.6 4&&(s.6 5==s.6 5&&(s.6 6==s.6 6&&(s.6 7==s.6 7&&(s.6 8==s.6 8&&(s.6 9==s.6 9&&(s.6 10==s.6 10&&(s.6 11==s.6 11&&(s.6 12==s.6 12&&(s.6 13==s.6 13&&(s.6 14==s.6 14&&(s.6 15==s.6 15&&(s.6 16==s.6 16&&(s.6 17==s.6 17&&(s.6 18==s.6 18&&(s.6 19==s.6 19&&(s.6 20==s.6 20&&(s.6 21==s.6 21&&(s.6 22==s.6 22&&(s.6 23==s.6 23&&(s.6 24==s.6 24&&(s.6 25==s.6 25&&(s.6 26==s.6 26&&(s.6 27==s.6 27&&(s.6 28==s.6 28&&(s.6 29==s.6 29&&(s.6 30==s.6 30&&(s.6 31==s.6 31&&true)))))))))))))))))))))))))))))))&&(s.7==s.7&&(s.8==s.8&&(s.9==s.9&&(s.10==s.10&&true)))&&true))))))) || !(s.11==s.11&&(s.12==s.12&&true)) || !(s.13 0==s.13 0&&(s.13 1==s.13 1&&(s.13 2==s.13 2&&(s.13 3==s.13 3&&(s.13 4==s.13 4&&(s.13 5==s.13 5&&(s.13 6==s.13 6&&(s.13 7==s.13 7&&(s.13 8==s.13 8&&(s.13 9==s.13 9&&(s.13 10==s.13 10&&(s.13 11==s.13 11&&(s.13 12==s.13 12&&(s.13 13==s.13 13&&(s.13 14==s.13 14&&(s.13 15==s.13 15&&(s.13 16==s.13 16&&(s.13 17==s.13 17&&(s.13 18==s.13 18&&(s.13 19==s.13 19&&(s.13 20==s.13 20&&(s.13 21==s.13 21&&(s.13 22==s.13 22&&(s.13 23==s.13 23&&(s.13 24==s.13 24&&(s.13 25==s.13 25&&(s.13 26==s.13 26&&(s.13 27==s.13 27&&(s.13 28==s.13 28&&(s.13 29==s.13 29&&(s.13 30==s.13 30&&(s.13 31==s.13 31&&true)))))))))))))))))))))))))))))))&&(s.14==s.14&&(s.15==s.15&&true)))||(s.16:Int) != (s.16:Int))==false) 216 [.agg y1,.agg y1] (.bool true) (.br (!(s.1==s.1&&(s.2==s.2&&(s.3==s.3&&(s.4==s.4&&(s.5==s.5&&(s.6 0==s.6 0&&(s.6 1==s.6 1&&(s.6 2==s.6 2&&(s.6 3==s.6 3&&(s.6 4==s.6 4&&(s.6 5==s.6 5&&(s.6 6==s.6 6&&(s.6 7==s.6 7&&(s.6 8==s.6 8&&(s.6 9==s.6 9&&(s.6 10==s.6 10&&(s.6 11==s.6 11&&(s.6 12==s.6 12&&(s.6 13==s.6 13&&(s.6 14==s.6 14&&(s.6 15==s.6 15&&(s.6 16==s.6 16&&(s.6 17==s.6 17&&(s.6 18==s.6 18&&(s.6 19==s.6 19&&(s.6 20==s.6 20&&(s.6 21==s.6 21&&(s.6 22==s.6 22&&(s.6 23==s.6 23&&(s.6 24==s.6 24&&(s.6 25==s.6 25&&(s.6 26==s.6 26&&(s.6 27==s.6 27&&(s.6 28==s.6 28&&(s.6 29==s.6 29&&(s.6 30==s.6 30&&(s.6 31==s.6 31&&true)))))))))))))))))))))))))))))))&&(s.7==s.7&&(s.8==s.8&&(s.9==s.9&&(s.10==s.10&&true)))&&true))))))) || !(s.11==s.11&&(s.12==s.12&&true)) || !(s.13 0==s.13 0&&(s.13 1==s.13 1&&(s.13 2==s.13 2&&(s.13 3==s.13 3&&(s.13 4==s.13 4&&(s.13 5==s.13 5&&(s.13 6==s.13 6&&(s.13 7==s.13 7&&(s.13 8==s.13 8&&(s.13 9==s.13 9&&(s.13 10==s.13 10&&(s.13 11==s.13 11&&(s.13 12==s.13 12&&(s.13 13==s.13 13&&(s.13 14==s.13 14&&(s.13 15==s.13 15&&(s.13 16==s.13 16&&(s.13 17==s.13 17&&(s.13 18==s.13 18&&(s.13 19==s.13 19&&(s.13 20==s.13 20&&(s.13 21==s.13 21&&(s.13 22==s.13 22&&(s.13 23==s.13 23&&(s.13 24==s.13 24&&(s.13 25==s.13 25&&(s.13 26==s.13 26&&(s.13 27==s.13 27&&(s.13 28==s.13 28&&(s.13 29==s.13 29&&(s.13 30==s.13 30&&(s.13 31==s.13 31&&true)))))))))))))))))))))))))))))))&&(s.14==s.14&&(s.15==s.15&&true)))||(s.16:Int) != (s.16:Int)||false) (.out (.bool false) [] (.bool true) []) (.loop (Sp.Sub fun x=>x≤au.nl s) (fun (x:Sp.Sub fun x=>x≤au.nl s)=>aY [2,3,5] [.own 0 80 0 0 80,.own 1 80 0 0 80,Zi x.1] y0) (fun (x:Sp.Sub fun x=>x≤au.nl s)=>au.nl s - x.1) (⟨0,Nat.zero_le (au.nl s)⟩) [2,3,5] [0,8] [.own 0 80 0 0 80,.own 1 80 0 0 80,Zi 0] (y0) (fun x3=>(.br (decide ((x3.1:Int)<(s.16:Int))) (.bj (0≤(x3.1:Int)∧(x3.1:Int)<(s.16:Int)) (.bj (0≤(x3.1:Int)∧(x3.1:Int)<(s.16:Int)) (.br (!(s.17 (toNat (x3.1:Int)) 0==s.17 (toNat (x3.1:Int)) 0&&(s.17 (toNat (x3.1:Int)) 1==s.17 (toNat (x3.1:Int)) 1&&(s.17 (toNat (x3.1:Int)) 2==s.17 (toNat (x3.1:Int)) 2&&true)))) (.out (.bool false) [] (.bool true) []) (.again (bh 0 (fun (x:Sp.Sub fun x=>x≤au.nl s)=>aY [2,3,5] [.own 0 80 0 0 80,.own 1 80 0 0 80,Zi x.1] y0) (fun (x:Sp.Sub fun x=>x≤au.nl s)=>au.nl s - x.1) x3) [2,3,5] [0,1] [.own 0 80 0 0 80,.own 1 80 0 0 80,Zi (wrap .i64 ((x3.1:Int)+1))] (y0))))) (.out (.bool true) [] (.bool true) [])))))))
  (by kernel_rfl) ?_
 refine aW (fun h0=>EH (s.18) (s.19) (s.20) (by omega)) ?_
 refine aL (fun h1=>?_) (fun h1=>?_)
 ·have g1:=(aA (aA (aA (aA (aC (ao aj (ao aj (ao aj (ao aj (ao aj (ao (ao aj (ao aj (ao aj (ao aj (ao aj (ao aj (ao aj (ao aj (ao aj (ao aj (ao aj (ao aj (ao aj (ao aj (ao aj (ao aj (ao aj (ao aj (ao aj (ao aj (ao aj (ao aj (ao aj (ao aj (ao aj (ao aj (ao aj (ao aj (ao aj (ao aj (ao aj (ao aj aF)))))))))))))))))))))))))))))))) (ao (ao aj (ao aj (ao aj (ao aj aF)))) aF)))))))) (aC (ao aj (ao aj aF)))) (aC (ao (ao aj (ao aj (ao aj (ao aj (ao aj (ao aj (ao aj (ao aj (ao aj (ao aj (ao aj (ao aj (ao aj (ao aj (ao aj (ao aj (ao aj (ao aj (ao aj (ao aj (ao aj (ao aj (ao aj (ao aj (ao aj (ao aj (ao aj (ao aj (ao aj (ao aj (ao aj (ao aj aF)))))))))))))))))))))))))))))))) (ao aj (ao aj aF))))) aU) aB) h1
  exact aq (ay.of_eq (by simp_all))
 ·have g1:=(aw (aw (aw (aw (az (ah ai (ah ai (ah ai (ah ai (ah ai (ah (ah ai (ah ai (ah ai (ah ai (ah ai (ah ai (ah ai (ah ai (ah ai (ah ai (ah ai (ah ai (ah ai (ah ai (ah ai (ah ai (ah ai (ah ai (ah ai (ah ai (ah ai (ah ai (ah ai (ah ai (ah ai (ah ai (ah ai (ah ai (ah ai (ah ai (ah ai (ah ai aB)))))))))))))))))))))))))))))))) (ah (ah ai (ah ai (ah ai (ah ai aB)))) aB)))))))) (az (ah ai (ah ai aB)))) (az (ah (ah ai (ah ai (ah ai (ah ai (ah ai (ah ai (ah ai (ah ai (ah ai (ah ai (ah ai (ah ai (ah ai (ah ai (ah ai (ah ai (ah ai (ah ai (ah ai (ah ai (ah ai (ah ai (ah ai (ah ai (ah ai (ah ai (ah ai (ah ai (ah ai (ah ai (ah ai (ah ai aB)))))))))))))))))))))))))))))))) (ah ai (ah ai aB))))) aR) aF) h1
  refine aV (fun _ hs=>hs.le (⟨.refl _,.refl _,.refl _,trivial⟩) (⟨.refl _,.refl _,trivial⟩)) (fun x3=>?_)
  try (have q3:=x3.2;dsimp only at q3)
  refine aL (fun h4=>?_) (fun h4=>?_)
  ·have g4:=af h4
   refine aD (by omega) ?_
   refine aD (by omega) ?_
   refine aL (fun h7=>?_) (fun h7=>?_)
   ·have g7:=(aC (ao aj (ao aj (ao aj aF)))) h7
    try simp only [Int.toNat_natCast] at g7
    exact aq (ay.of_eq (by simp_all))
   ·have g7:=(az (ah ai (ah ai (ah ai aB)))) h7
    try simp only [Int.toNat_natCast] at g7
    exact aN (⟨x3.1+1,by omega⟩) (fun _ hs=>hs.le (⟨.refl _,.refl _,aK (by omega),trivial⟩) (⟨.refl _,.refl _,trivial⟩)) (by dsimp only;omega)
  ·have g4:=aa h4
   exact aq (ay.of_eq rfl)
theorem Ep (s t:au) (l:Int) (h1:s.nl≤1000) (h2:s.np≤1000) (h3:t.nl≤1000) (h4:t.np≤1000):Pure Tryz.prog aZ 79 [.agg (s.cells++(t.cells++[.int .i64 l])),.agg (s.cells++(t.cells++[.int .i64 l]))] (.bool true):=by
 have c1:=pj s h1 h2
 have c2:=pj t h3 h4
 refine ar (own:=bq) Tryz.func79 (by kernel_rfl) mixed (by kernel_rfl)
  (.sc true 140 [.agg (au.cells s),.agg (au.cells s)] (.bool true) (.sc true 140 [.agg (au.cells t),.agg (au.cells t)] (.bool true) (.out (.bool (l==l)) [] (.bool true) [])))
  (by kernel_rfl) ?_
 refine aM (c1) ?_
 refine aM (c2) ?_
 exact aq (ay.of_eq (by simp_all))
theorem Di (p:Pf) (h1:p.na≤1000) (h2:p.nz≤1000):Pure Tryz.prog aZ 77 [.agg p.cells,.agg p.cells] (.bool true):=by
 refine ar (own:=bq) Tryz.func77 (by kernel_rfl) mixed (by kernel_rfl)
  (let y0:List (Option Ob):=[some ⟨3,1,true,.bc [[.aH 1 p.1 fun i x=>Zi (p.2 i),Zi (Pf.c p),.aH 1 p.4 fun i x=>Zi (p.5 i)]]⟩,some ⟨3,1,true,.bc [[.aH 1 p.1 fun i x=>Zi (p.2 i),Zi (Pf.c p),.aH 1 p.4 fun i x=>Zi (p.5 i)]]⟩];let y1:=(fun (x:{ x:Nat // x≤Pf.na p })=>aY [2,3,5] [.own 0 3 0 0 3,.own 1 3 0 0 3,Zi x.1] y0);let y2:=(fun (x:{ x:Nat // x≤Pf.nz p })=>aY [2,3,6] [.own 0 3 0 0 3,.own 1 3 0 0 3,Zi x.1] y0);let y3:=(fun (x:{ x:Nat // x≤Pf.na p })=>Pf.na p - x.1);let y4:=(fun (x:{ x:Nat // x≤Pf.nz p })=>Pf.nz p - x.1);let y5:List AV:=[.own 0 3 0 0 3,.own 1 3 0 0 3,Zi 0];(.br (p.3 != p.3||(p.1:Int) != (p.1:Int)||(p.4:Int) != (p.4:Int)) (.out (.bool false) [] (.bool true) []) (.loop ({ x:Nat // x≤Pf.na p }) y1 y3 (⟨0,Nat.zero_le (Pf.na p)⟩) [2,3,5] [0,8] (y5) (y0) (fun x2=>(.br (decide ((x2.1:Int)<(p.1:Int))) (.bj (0≤(x2.1:Int)∧(x2.1:Int)<(p.1:Int)) (.bj (0≤(x2.1:Int)∧(x2.1:Int)<(p.1:Int)) (.br (p.2 (toNat (x2.1:Int)) != p.2 (toNat (x2.1:Int))) (.out (.bool false) [] (.bool true) []) (.again (bh 0 y1 y3 x2) [2,3,5] [0,1] [.own 0 3 0 0 3,.own 1 3 0 0 3,Zi (wrap .i64 ((x2.1:Int)+1))] (y0))))) (.loop ({ x:Nat // x≤Pf.nz p }) y2 y4 (⟨0,Nat.zero_le (Pf.nz p)⟩) [2,3,6] [0,1] (y5) (y0) (fun x9=>(.br (decide ((x9.1:Int)<(p.4:Int))) (.bj (0≤(x9.1:Int)∧(x9.1:Int)<(p.4:Int)) (.bj (0≤(x9.1:Int)∧(x9.1:Int)<(p.4:Int)) (.br (p.5 (toNat (x9.1:Int)) != p.5 (toNat (x9.1:Int))) (.out (.bool false) [] (.bool true) []) (.again (bh 0 y2 y4 x9) [2,3,6] [0,1] [.own 0 3 0 0 3,.own 1 3 0 0 3,Zi (wrap .i64 ((x9.1:Int)+1))] (y0))))) (.out (.bool true) [] (.bool true) [])))))))))
  (by kernel_rfl) ?_
 refine aL (fun h0=>?_) (fun h0=>?_)
 ·have g0:=(aA (aA aU aU) aU) h0
  exact aq (ay.of_eq (by simp_all))
 ·have g0:=(aw (aw aR aR) aR) h0
  refine aV (fun _ hs=>hs.le (⟨.refl _,.refl _,.refl _,trivial⟩) (⟨.refl _,.refl _,trivial⟩)) (fun x2=>?_)
  try (have q2:=x2.2;dsimp only at q2)
  refine aL (fun h3=>?_) (fun h3=>?_)
  ·have g3:=af h3
   refine aD (by omega) ?_
   refine aD (by omega) ?_
   refine aL (fun h6=>?_) (fun h6=>?_)
   ·have g6:=aU h6
    try simp only [Int.toNat_natCast] at g6
    exact aq (ay.of_eq (by simp_all))
   ·have g6:=aR h6
    try simp only [Int.toNat_natCast] at g6
    exact aN (⟨x2.1+1,by omega⟩) (fun _ hs=>hs.le (⟨.refl _,.refl _,aK (by omega),trivial⟩) (⟨.refl _,.refl _,trivial⟩)) (by dsimp only;omega)
  ·have g3:=aa h3
   refine aV (fun _ hs=>hs.le (⟨.refl _,.refl _,.refl _,trivial⟩) (⟨.refl _,.refl _,trivial⟩)) (fun x9=>?_)
   try (have q9:=x9.2;dsimp only at q9)
   refine aL (fun h10=>?_) (fun h10=>?_)
   ·have g10:=af h10
    refine aD (by omega) ?_
    refine aD (by omega) ?_
    refine aL (fun h13=>?_) (fun h13=>?_)
    ·have g13:=aU h13
     try simp only [Int.toNat_natCast] at g13
     exact aq (ay.of_eq (by simp_all))
    ·have g13:=aR h13
     try simp only [Int.toNat_natCast] at g13
     exact aN (⟨x9.1+1,by omega⟩) (fun _ hs=>hs.le (⟨.refl _,.refl _,aK (by omega),trivial⟩) (⟨.refl _,.refl _,trivial⟩)) (by dsimp only;omega)
   ·have g10:=aa h10
    exact aq (ay.of_eq rfl)
theorem Cd (y:Int) (p:Pf) (h1:p.na≤1000) (h2:p.nz≤1000):Pure Tryz.prog aZ 27 [.agg (.int .i64 y::p.cells),.agg (.int .i64 y::p.cells)] (.bool true):=by
 have c1:=Di p h1 h2
 refine ar (own:=bq) Tryz.func27 (by kernel_rfl) mixed (by kernel_rfl)
  (let y0:List AV:=[.aH 1 p.1 fun i x=>Zi (p.2 i),Zi p.3,.aH 1 p.4 fun i x=>Zi (p.5 i)];(.sc ((y==y)==true) 77 [.agg y0,.agg y0] (.bool true) (.out (.bool (y==y||false)) [] (.bool true) [])))
  (by kernel_rfl) ?_
 refine aW (fun h0=>c1) ?_
 exact aq (ay.of_eq (by simp_all))
theorem Gi (u:db) (h1:u.sp.nl≤1000) (h2:u.sp.np≤1000):Pure Tryz.prog aZ 78 [.agg u.cells,.agg u.cells] (.bool true):=by
 have c1:=pj u.sp h1 h2
 refine ar (own:=bq) Tryz.func78 (by kernel_rfl) mixed (by kernel_rfl)
  (.sc ((u.1==u.1&&u.2==u.2&&u.4==u.4)==true) 140 [.agg (au.cells (db.sp u)),.agg (au.cells (db.sp u))] (.bool true) (.out (.bool (u.1==u.1&&u.2==u.2&&u.4==u.4||false)) [] (.bool true) []))
  (by kernel_rfl) ?_
 refine aW (fun h0=>c1) ?_
 exact aq (ay.of_eq (by simp_all))
theorem A2 (n:Nat) (U:Nat→db) (hn:n≤100000) (h:∀ i,i<n→(U i).sp.nl≤1000∧(U i).sp.np≤1000):Pure Tryz.prog aZ 29 [mV n U,mV n U] (.bool true):=by
 have c1:=fun i (hi:i<n)=>Gi (U i) (h i hi).1 (h i hi).2
 refine ar (own:=bq) Tryz.func29 (by kernel_rfl) mixed (by kernel_rfl)
  (let y0:=(fun (x:{ x:Nat // x≤n })=>aY [0,1,5] [.aH 83 n fun i j=>aQ (db.cells (U i)) j,.aH 83 n fun i j=>aQ (db.cells (U i)) j,Zi x.1] []);let y1:=(fun (x:{ x:Nat // x≤n })=>n - x.1);(.br ((n:Int) != (n:Int)) (.out (.bool false) [] (.bool true) []) (.loop ({ x:Nat // x≤n }) y0 y1 (⟨0,Nat.zero_le n⟩) [0,1,5] [] [.aH 83 n fun i j=>aQ (db.cells (U i)) j,.aH 83 n fun i j=>aQ (db.cells (U i)) j,Zi 0] [] (fun x2=>(.br (decide ((x2.1:Int)<(n:Int))) (.bj (0≤(x2.1:Int)∧(x2.1:Int)<(n:Int)) (.bj (0≤(x2.1:Int)∧(x2.1:Int)<(n:Int)) (.sc true 78 [.agg (db.cells (U (toNat (↑(x2.1):Int)))),.agg (db.cells (U (toNat (↑(x2.1):Int))))] (.bool true) (.ff (.again (bh 0 y0 y1 x2) [0,1,5] [] [.aH 83 n fun i j=>aQ (db.cells (U i)) j,.aH 83 n fun i j=>aQ (db.cells (U i)) j,Zi (wrap .i64 ((x2.1:Int)+1))] []))))) (.out (.bool true) [] (.bool true) []))))))
  (by kernel_rfl) ?_
 refine aL (fun h0=>?_) (fun h0=>?_)
 ·have g0:=aU h0
  exact aq (ay.of_eq (by simp_all))
 ·have g0:=aR h0
  refine aV (fun _ hs=>hs.le (⟨.refl _,.refl _,.refl _,trivial⟩) (trivial)) (fun x2=>?_)
  try (have q2:=x2.2;dsimp only at q2)
  refine aL (fun h3=>?_) (fun h3=>?_)
  ·have g3:=af h3
   refine aD (by omega) ?_
   refine aD (by omega) ?_
   refine aM (c1 (toNat (↑(x2.1):Int)) (by omega)) ?_
   refine cz ?_
   exact aN (⟨x2.1+1,by omega⟩) (fun _ hs=>hs.le (⟨.refl _,.refl _,aK (by omega),trivial⟩) (trivial)) (by dsimp only;omega)
  ·have g3:=aa h3
   exact aq (ay.of_eq rfl)
theorem DH (n:Nat) (G:Nat→cH) (hn:n≤100000) (h:∀ i,i<n→((G i).s.nl≤1000∧(G i).s.np≤1000)∧((G i).t.nl≤1000∧(G i).t.np≤1000)):Pure Tryz.prog aZ 30 [mS n G,mS n G] (.bool true):=by
 have c1:=fun i (hi:i<n)=>Ep (G i).s (G i).t (G i).leaf (h i hi).1.1 (h i hi).1.2 (h i hi).2.1 (h i hi).2.2
 refine ar (own:=bq) Tryz.func30 (by kernel_rfl) mixed (by kernel_rfl)
  (let y0:=(fun (x:{ x:Nat // x≤n })=>aY [0,1,5] [.aH 161 n fun i j=>aQ (cH.cells (G i)) j,.aH 161 n fun i j=>aQ (cH.cells (G i)) j,Zi x.1] []);let y1:=(fun (x:{ x:Nat // x≤n })=>n - x.1);(.br ((n:Int) != (n:Int)) (.out (.bool false) [] (.bool true) []) (.loop ({ x:Nat // x≤n }) y0 y1 (⟨0,Nat.zero_le n⟩) [0,1,5] [] [.aH 161 n fun i j=>aQ (cH.cells (G i)) j,.aH 161 n fun i j=>aQ (cH.cells (G i)) j,Zi 0] [] (fun x2=>(.br (decide ((x2.1:Int)<(n:Int))) (.bj (0≤(x2.1:Int)∧(x2.1:Int)<(n:Int)) (.bj (0≤(x2.1:Int)∧(x2.1:Int)<(n:Int)) (.sc true 79 [.agg (cH.cells (G (toNat (↑(x2.1):Int)))),.agg (cH.cells (G (toNat (↑(x2.1):Int))))] (.bool true) (.ff (.again (bh 0 y0 y1 x2) [0,1,5] [] [.aH 161 n fun i j=>aQ (cH.cells (G i)) j,.aH 161 n fun i j=>aQ (cH.cells (G i)) j,Zi (wrap .i64 ((x2.1:Int)+1))] []))))) (.out (.bool true) [] (.bool true) []))))))
  (by kernel_rfl) ?_
 refine aL (fun h0=>?_) (fun h0=>?_)
 ·have g0:=aU h0
  exact aq (ay.of_eq (by simp_all))
 ·have g0:=aR h0
  refine aV (fun _ hs=>hs.le (⟨.refl _,.refl _,.refl _,trivial⟩) (trivial)) (fun x2=>?_)
  try (have q2:=x2.2;dsimp only at q2)
  refine aL (fun h3=>?_) (fun h3=>?_)
  ·have g3:=af h3
   refine aD (by omega) ?_
   refine aD (by omega) ?_
   refine aM (c1 (toNat (↑(x2.1):Int)) (by omega)) ?_
   refine cz ?_
   exact aN (⟨x2.1+1,by omega⟩) (fun _ hs=>hs.le (⟨.refl _,.refl _,aK (by omega),trivial⟩) (trivial)) (by dsimp only;omega)
  ·have g3:=aa h3
   exact aq (ay.of_eq rfl)
theorem Bj (k:aS) (h:xf k):Pure Tryz.prog aZ 8 [.agg k.cells,.agg k.cells] (.bool true):=by
 have s1:=h.nr;have s2:=h.ns;have s3:=h.nc;have s4:=h.nb;have s5:=h.ne;have s6:=h.nu;have s7:=h.ni;have s8:=h.ng
 have c1:=fun i (hi:i<k.nc)=>Cd (k.C i).key (k.C i).pf (h.C i hi).1 (h.C i hi).2
 have c2:=EA k.nb k.B k.ne k.E (by omega) (by omega)
 have c3:=A2 k.nu k.U (by omega) h.U
 have c4:=DH k.ng k.G (by omega) h.G
 refine ar (own:=bq) Tryz.func8 (by kernel_rfl) mixed (by kernel_rfl)
  (let y0:List (Option Ob):=[some ⟨50,1,true,.bc [aS.cells k]⟩,some ⟨50,1,true,.bc [aS.cells k]⟩];let y1:=(fun (x:{ x:Nat // x≤aS.nr k })=>aY [2,3,13,14,5] [.own 0 50 0 0 50,.own 1 50 0 0 50,.own 1 50 0 0 1,Zi k.1,Zi x.1] y0);let y2:List AV:=[.aH 1 k.10 fun i x=>Zi (k.11 i),.aH 4 k.12 fun i j=>Zi (k.13 i j)];let y3:=(fun (x:{ x:Nat // x≤aS.nr k })=>aS.nr k - x.1);let y4:=(fun (x:{ x:Nat // x≤aS.ns k })=>aS.ns k - x.1);let y5:=(fun (x:{ x:Nat // x≤aS.nc k })=>aS.nc k - x.1);let y6:=(fun (x:{ x:Nat // x≤aS.ni k })=>aS.ni k - x.1);(.br (k.1 != k.1 || !((aI.gr (aS.bT k)).1==(aI.gr (aS.bT k)).1&&((aI.gr (aS.bT k)).2==(aI.gr (aS.bT k)).2&&((aI.gr (aS.bT k)).3==(aI.gr (aS.bT k)).3&&true))&&((aS.bT k).2==(aS.bT k).2&&((aS.bT k).3==(aS.bT k).3&&((aS.bT k).4==(aS.bT k).4&&true))))||k.3 != k.3 || !(k.20 0==k.20 0&&(k.20 1==k.20 1&&(k.20 2==k.20 2&&(k.20 3==k.20 3&&(k.20 4==k.20 4&&(k.20 5==k.20 5&&(k.20 6==k.20 6&&(k.20 7==k.20 7&&(k.20 8==k.20 8&&(k.20 9==k.20 9&&(k.20 10==k.20 10&&(k.20 11==k.20 11&&(k.20 12==k.20 12&&(k.20 13==k.20 13&&(k.20 14==k.20 14&&(k.20 15==k.20 15&&(k.20 16==k.20 16&&(k.20 17==k.20 17&&(k.20 18==k.20 18&&(k.20 19==k.20 19&&(k.20 20==k.20 20&&(k.20 21==k.20 21&&(k.20 22==k.20 22&&(k.20 23==k.20 23&&(k.20 24==k.20 24&&(k.20 25==k.20 25&&(k.20 26==k.20 26&&(k.20 27==k.20 27&&(k.20 28==k.20 28&&(k.20 29==k.20 29&&(k.20 30==k.20 30&&(k.20 31==k.20 31&&true)))))))))))))))))))))))))))))))&&(k.21==k.21&&true))||k.22 != k.22||(k.4:Int) != (k.4:Int)||(k.6:Int) != (k.6:Int)||(k.8:Int) != (k.8:Int)||(k.16:Int) != (k.16:Int)) (.out (.bool false) [] (.bool true) []) (.loop ({ x:Nat // x≤aS.nr k }) y1 y3 (⟨0,Nat.zero_le (aS.nr k)⟩) [2,3,13,14,5] [0,8] [.own 0 50 0 0 50,.own 1 50 0 0 50,.own 1 50 0 0 1,Zi k.1,Zi 0] (y0) (fun x2=>(.br (decide ((x2.1:Int)<(k.4:Int))) (.bj (0≤(x2.1:Int)∧(x2.1:Int)<(k.4:Int)) (.bj (0≤(x2.1:Int)∧(x2.1:Int)<(k.4:Int)) (.br (!(k.5 (toNat (x2.1:Int)) 0==k.5 (toNat (x2.1:Int)) 0&&(k.5 (toNat (x2.1:Int)) 1==k.5 (toNat (x2.1:Int)) 1&&(k.5 (toNat (x2.1:Int)) 2==k.5 (toNat (x2.1:Int)) 2&&(k.5 (toNat (x2.1:Int)) 3==k.5 (toNat (x2.1:Int)) 3&&(k.5 (toNat (x2.1:Int)) 4==k.5 (toNat (x2.1:Int)) 4&&(k.5 (toNat (x2.1:Int)) 5==k.5 (toNat (x2.1:Int)) 5&&(k.5 (toNat (x2.1:Int)) 6==k.5 (toNat (x2.1:Int)) 6&&(k.5 (toNat (x2.1:Int)) 7==k.5 (toNat (x2.1:Int)) 7&&true))&&(k.5 (toNat (x2.1:Int)) 8==k.5 (toNat (x2.1:Int)) 8&&(k.5 (toNat (x2.1:Int)) 9==k.5 (toNat (x2.1:Int)) 9&&(k.5 (toNat (x2.1:Int)) 10==k.5 (toNat (x2.1:Int)) 10&&true)))))))))) (.out (.bool false) [] (.bool true) []) (.again (bh 0 y1 y3 x2) [2,3,13,14,5] [0,1] [.own 0 50 0 0 50,.own 1 50 0 0 50,.own 1 50 0 0 1,Zi k.1,Zi (wrap .i64 ((x2.1:Int)+1))] (y0))))) (.loop ({ x:Nat // x≤aS.ns k }) (fun x=>aY [2,3,5,13,14,6] [.own 0 50 0 0 50,.own 1 50 0 0 50,Zi x2.1,.own 1 50 0 0 1,Zi k.1,Zi x.1] y0) y4 (⟨0,Nat.zero_le (aS.ns k)⟩) [2,3,5,13,14,6] [0,1] [.own 0 50 0 0 50,.own 1 50 0 0 50,Zi x2.1,.own 1 50 0 0 1,Zi k.1,Zi 0] (y0) (fun x9=>(.br (decide ((x9.1:Int)<(k.6:Int))) (.bj (0≤(x9.1:Int)∧(x9.1:Int)<(k.6:Int)) (.bj (0≤(x9.1:Int)∧(x9.1:Int)<(k.6:Int)) (.br (k.7 (toNat (x9.1:Int)) != k.7 (toNat (x9.1:Int))) (.out (.bool false) [] (.bool true) []) (.again (bh 0 (fun x=>aY [2,3,5,13,14,6] [.own 0 50 0 0 50,.own 1 50 0 0 50,Zi x2.1,.own 1 50 0 0 1,Zi k.1,Zi x.1] y0) y4 x9) [2,3,5,13,14,6] [0,1] [.own 0 50 0 0 50,.own 1 50 0 0 50,Zi x2.1,.own 1 50 0 0 1,Zi k.1,Zi (wrap .i64 ((x9.1:Int)+1))] (y0))))) (.loop ({ x:Nat // x≤aS.nc k }) (fun x=>aY [2,3,5,6,13,14,7] [.own 0 50 0 0 50,.own 1 50 0 0 50,Zi x2.1,Zi x9.1,.own 1 50 0 0 1,Zi k.1,Zi x.1] y0) y5 (⟨0,Nat.zero_le (aS.nc k)⟩) [2,3,5,6,13,14,7] [0,1] [.own 0 50 0 0 50,.own 1 50 0 0 50,Zi x2.1,Zi x9.1,.own 1 50 0 0 1,Zi k.1,Zi 0] (y0) (fun x16=>(.br (decide ((x16.1:Int)<(k.8:Int))) (.bj (0≤(x16.1:Int)∧(x16.1:Int)<(k.8:Int)) (.bj (0≤(x16.1:Int)∧(x16.1:Int)<(k.8:Int)) (.sc true 27 [.agg [Zi (aS.C k (toNat (↑(x16.1):Int))).1,.aH 1 (cU.pf (aS.C k (toNat (↑(x16.1):Int)))).1 fun i x=>Zi ((cU.pf (aS.C k (toNat (↑(x16.1):Int)))).2 i),Zi (cU.pf (aS.C k (toNat (↑(x16.1):Int)))).3,.aH 1 (cU.pf (aS.C k (toNat (↑(x16.1):Int)))).4 fun i x=>Zi ((cU.pf (aS.C k (toNat (↑(x16.1):Int)))).5 i)],.agg [Zi (aS.C k (toNat (↑(x16.1):Int))).1,.aH 1 (cU.pf (aS.C k (toNat (↑(x16.1):Int)))).1 fun i x=>Zi ((cU.pf (aS.C k (toNat (↑(x16.1):Int)))).2 i),Zi (cU.pf (aS.C k (toNat (↑(x16.1):Int)))).3,.aH 1 (cU.pf (aS.C k (toNat (↑(x16.1):Int)))).4 fun i x=>Zi ((cU.pf (aS.C k (toNat (↑(x16.1):Int)))).5 i)]] (.bool true) (.br ((aS.C k (toNat (↑(x16.1):Int))).3 != (aS.C k (toNat (↑(x16.1):Int))).3 || !(aS.C k (toNat (↑(x16.1):Int))).4==(aS.C k (toNat (↑(x16.1):Int))).4||(aS.C k (toNat (↑(x16.1):Int))).5 != (aS.C k (toNat (↑(x16.1):Int))).5) (.out (.bool false) [] (.bool true) []) (.again (bh 0 (fun x=>aY [2,3,5,6,13,14,7] [.own 0 50 0 0 50,.own 1 50 0 0 50,Zi x2.1,Zi x9.1,.own 1 50 0 0 1,Zi k.1,Zi x.1] y0) y5 x16) [2,3,5,6,13,14,7] [0,1] [.own 0 50 0 0 50,.own 1 50 0 0 50,Zi x2.1,Zi x9.1,.own 1 50 0 0 1,Zi k.1,Zi (wrap .i64 ((x16.1:Int)+1))] (y0)))))) (.loop ({ x:Nat // x≤aS.ni k }) (fun x=>aY [2,3,5,14,10] [.own 0 50 0 0 50,.own 1 50 0 0 50,Zi x2.1,Zi k.1,Zi x.1] y0) y6 (⟨0,Nat.zero_le (aS.ni k)⟩) [2,3,5,14,10] [0,1] [.own 0 50 0 0 50,.own 1 50 0 0 50,Zi x2.1,Zi k.1,Zi 0] (y0) (fun x24=>(.br (decide ((x24.1:Int)<(k.16:Int))) (.bj (0≤(x24.1:Int)∧(x24.1:Int)<(k.16:Int)) (.bj (0≤(x24.1:Int)∧(x24.1:Int)<(k.16:Int)) (.br (!(k.17 (toNat (x24.1:Int)) 0==k.17 (toNat (x24.1:Int)) 0&&(k.17 (toNat (x24.1:Int)) 1==k.17 (toNat (x24.1:Int)) 1&&(k.17 (toNat (x24.1:Int)) 2==k.17 (toNat (x24.1:Int)) 2&&(k.17 (toNat (x24.1:Int)) 3==k.17 (toNat (x24.1:Int)) 3&&(k.17 (toNat (x24.1:Int)) 4==k.17 (toNat (x24.1:Int)) 4&&(k.17 (toNat (x24.1:Int)) 5==k.17 (toNat (x24.1:Int)) 5&&(k.17 (toNat (x24.1:Int)) 6==k.17 (toNat (x24.1:Int)) 6&&(k.17 (toNat (x24.1:Int)) 7==k.17 (toNat (x24.1:Int)) 7&&(k.17 (toNat (x24.1:Int)) 8==k.17 (toNat (x24.1:Int)) 8&&(k.17 (toNat (x24.1:Int)) 9==k.17 (toNat (x24.1:Int)) 9&&(k.17 (toNat (x24.1:Int)) 10==k.17 (toNat (x24.1:Int)) 10&&true))&&(k.17 (toNat (x24.1:Int)) 11==k.17 (toNat (x24.1:Int)) 11&&(k.17 (toNat (x24.1:Int)) 12==k.17 (toNat (x24.1:Int)) 12&&(k.17 (toNat (x24.1:Int)) 13==k.17 (toNat (x24.1:Int)) 13&&true))))))))&&(k.17 (toNat (x24.1:Int)) 14==k.17 (toNat (x24.1:Int)) 14&&(k.17 (toNat (x24.1:Int)) 15==k.17 (toNat (x24.1:Int)) 15&&(k.17 (toNat (x24.1:Int)) 16==k.17 (toNat (x24.1:Int)) 16&&(k.17 (toNat (x24.1:Int)) 17==k.17 (toNat (x24.1:Int)) 17&&(k.17 (toNat (x24.1:Int)) 18==k.17 (toNat (x24.1:Int)) 18&&(k.17 (toNat (x24.1:Int)) 19==k.17 (toNat (x24.1:Int)) 19&&(k.17 (toNat (x24.1:Int)) 20==k.17 (toNat (x24.1:Int)) 20&&true)))))&&true))))))) (.out (.bool false) [] (.bool true) []) (.again (bh 0 (fun x=>aY [2,3,5,14,10] [.own 0 50 0 0 50,.own 1 50 0 0 50,Zi x2.1,Zi k.1,Zi x.1] y0) y6 x24) [2,3,5,14,10] [0,1] [.own 0 50 0 0 50,.own 1 50 0 0 50,Zi x2.1,Zi k.1,Zi (wrap .i64 ((x24.1:Int)+1))] (y0))))) (.sc true 28 [.agg y2,.agg y2] (.bool true) (.sc true 29 [.aH 83 k.14 fun i j=>aQ (db.cells (aS.U k i)) j,.aH 83 k.14 fun i j=>aQ (db.cells (aS.U k i)) j] (.bool true) (.sc true 30 [.aH 161 k.18 fun i j=>aQ (cH.cells (aS.G k i)) j,.aH 161 k.18 fun i j=>aQ (cH.cells (aS.G k i)) j] (.bool true) (.out (.bool true) [] (.bool true) []))))))))))))))))))
  (by kernel_rfl) ?_
 refine aL (fun h0=>?_) (fun h0=>?_)
 ·have g0:=(aA (aA (aA (aA (aA (aA (aA (aA aU (aC (ao (ao aj (ao aj (ao aj aF))) (ao aj (ao aj (ao aj aF)))))) aU) (aC (ao (ao aj (ao aj (ao aj (ao aj (ao aj (ao aj (ao aj (ao aj (ao aj (ao aj (ao aj (ao aj (ao aj (ao aj (ao aj (ao aj (ao aj (ao aj (ao aj (ao aj (ao aj (ao aj (ao aj (ao aj (ao aj (ao aj (ao aj (ao aj (ao aj (ao aj (ao aj (ao aj aF)))))))))))))))))))))))))))))))) (ao aj aF)))) aU) aU) aU) aU) aU) h0
  exact aq (ay.of_eq (by simp_all))
 ·have g0:=(aw (aw (aw (aw (aw (aw (aw (aw aR (az (ah (ah ai (ah ai (ah ai aB))) (ah ai (ah ai (ah ai aB)))))) aR) (az (ah (ah ai (ah ai (ah ai (ah ai (ah ai (ah ai (ah ai (ah ai (ah ai (ah ai (ah ai (ah ai (ah ai (ah ai (ah ai (ah ai (ah ai (ah ai (ah ai (ah ai (ah ai (ah ai (ah ai (ah ai (ah ai (ah ai (ah ai (ah ai (ah ai (ah ai (ah ai (ah ai aB)))))))))))))))))))))))))))))))) (ah ai aB)))) aR) aR) aR) aR) aR) h0
  refine aV (fun _ hs=>hs.le (⟨.refl _,.refl _,.refl _,.refl _,.refl _,trivial⟩) (⟨.refl _,.refl _,trivial⟩)) (fun x2=>?_)
  try (have q2:=x2.2;dsimp only at q2)
  refine aL (fun h3=>?_) (fun h3=>?_)
  ·have g3:=af h3
   refine aD (by omega) ?_
   refine aD (by omega) ?_
   refine aL (fun h6=>?_) (fun h6=>?_)
   ·have g6:=(aC (ao aj (ao aj (ao aj (ao aj (ao aj (ao (ao aj (ao aj (ao aj aF))) (ao aj (ao aj (ao aj aF)))))))))) h6
    try simp only [Int.toNat_natCast] at g6
    exact aq (ay.of_eq (by simp_all))
   ·have g6:=(az (ah ai (ah ai (ah ai (ah ai (ah ai (ah (ah ai (ah ai (ah ai aB))) (ah ai (ah ai (ah ai aB)))))))))) h6
    try simp only [Int.toNat_natCast] at g6
    exact aN (⟨x2.1+1,by omega⟩) (fun _ hs=>hs.le (⟨.refl _,.refl _,.refl _,.refl _,aK (by omega),trivial⟩) (⟨.refl _,.refl _,trivial⟩)) (by dsimp only;omega)
  ·have g3:=aa h3
   refine aV (fun _ hs=>hs.le (⟨.refl _,.refl _,.refl _,.refl _,.refl _,.refl _,trivial⟩) (⟨.refl _,.refl _,trivial⟩)) (fun x9=>?_)
   try (have q9:=x9.2;dsimp only at q9)
   refine aL (fun h10=>?_) (fun h10=>?_)
   ·have g10:=af h10
    refine aD (by omega) ?_
    refine aD (by omega) ?_
    refine aL (fun h13=>?_) (fun h13=>?_)
    ·have g13:=aU h13
     try simp only [Int.toNat_natCast] at g13
     exact aq (ay.of_eq (by simp_all))
    ·have g13:=aR h13
     try simp only [Int.toNat_natCast] at g13
     exact aN (⟨x9.1+1,by omega⟩) (fun _ hs=>hs.le (⟨.refl _,.refl _,.refl _,.refl _,.refl _,aK (by omega),trivial⟩) (⟨.refl _,.refl _,trivial⟩)) (by dsimp only;omega)
   ·have g10:=aa h10
    refine aV (fun _ hs=>hs.le (⟨.refl _,.refl _,.refl _,.refl _,.refl _,.refl _,.refl _,trivial⟩) (⟨.refl _,.refl _,trivial⟩)) (fun x16=>?_)
    try (have q16:=x16.2;dsimp only at q16)
    refine aL (fun h17=>?_) (fun h17=>?_)
    ·have g17:=af h17
     refine aD (by omega) ?_
     refine aD (by omega) ?_
     refine aM (c1 (toNat (↑(x16.1):Int)) (by omega)) ?_
     refine aL (fun h21=>?_) (fun h21=>?_)
     ·have g21:=(aA (aA aU (aC aF)) aU) h21
      try simp only [Int.toNat_natCast] at g21
      exact aq (ay.of_eq (by simp_all))
     ·have g21:=(aw (aw aR (az aB)) aR) h21
      try simp only [Int.toNat_natCast] at g21
      exact aN (⟨x16.1+1,by omega⟩) (fun _ hs=>hs.le (⟨.refl _,.refl _,.refl _,.refl _,.refl _,.refl _,aK (by omega),trivial⟩) (⟨.refl _,.refl _,trivial⟩)) (by dsimp only;omega)
    ·have g17:=aa h17
     refine aV (fun _ hs=>hs.le (⟨.refl _,.refl _,.refl _,.refl _,.refl _,trivial⟩) (⟨.refl _,.refl _,trivial⟩)) (fun x24=>?_)
     try (have q24:=x24.2;dsimp only at q24)
     refine aL (fun h25=>?_) (fun h25=>?_)
     ·have g25:=af h25
      refine aD (by omega) ?_
      refine aD (by omega) ?_
      refine aL (fun h28=>?_) (fun h28=>?_)
      ·have g28:=(aC (ao aj (ao aj (ao aj (ao (ao aj (ao aj (ao aj (ao aj (ao aj (ao (ao aj (ao aj (ao aj aF))) (ao aj (ao aj (ao aj aF))))))))) (ao aj (ao (ao aj (ao aj (ao aj (ao aj (ao aj (ao aj aF)))))) aF))))))) h28
       try simp only [Int.toNat_natCast] at g28
       exact aq (ay.of_eq (by simp_all))
      ·have g28:=(az (ah ai (ah ai (ah ai (ah (ah ai (ah ai (ah ai (ah ai (ah ai (ah (ah ai (ah ai (ah ai aB))) (ah ai (ah ai (ah ai aB))))))))) (ah ai (ah (ah ai (ah ai (ah ai (ah ai (ah ai (ah ai aB)))))) aB))))))) h28
       try simp only [Int.toNat_natCast] at g28
       exact aN (⟨x24.1+1,by omega⟩) (fun _ hs=>hs.le (⟨.refl _,.refl _,.refl _,.refl _,aK (by omega),trivial⟩) (⟨.refl _,.refl _,trivial⟩)) (by dsimp only;omega)
     ·have g25:=aa h25
      refine aM (c2) ?_
      refine aM (c3) ?_
      refine aM (c4) ?_
      exact aq (ay.of_eq rfl)
end Go.Proofs.YtpefjkpdniiaoaaGreatDoor

namespace Go.Sp
open Go.IntKind (wrap)
open Int (toNat)
open Go Go.Am
def eB:aI:=⟨⟨2027,1013,4⟩,16,64,256⟩
theorem HJ:aT eB=true:=by decide +kernel
theorem Np:eB.gr.W:=⟨by decide,by decide⟩
def eK (sd:Nat→Int):aS:=nwB eB 3 7 sd
theorem lt0:0<9223372036854775808:=by decide
theorem Er (sd:Nat→Int):jz (eK sd):=⟨Np,lt0,lt0,lt0,by show 5<_;decide,lt0,lt0,lt0,lt0,⟨fun i h=>absurd h (Nat.not_lt_zero i),fun i h=>absurd h (Nat.not_lt_zero i)⟩,fun i h=>absurd h (Nat.not_lt_zero i)⟩
theorem D6 (sd:Nat→Int):dI (eK sd)=true:=eU.2 ⟨oF.2 ⟨by show (0:Int)≤3;decide,by show (3:Int)≤7;decide,HJ,by show (0:Int)≤0;decide,by show (0:Int)≤_;decide,by show er eB 7=true;decide,by show (0:Int)≤0;decide,by show (0:Int)≤_;decide⟩,rfl,rfl,by show fG 5 z0 0 (fun _=>z0)=true;decide,rfl,rfl,rfl,by show 0≤200;decide,fun i h=>absurd h (Nat.not_lt_zero i)⟩
theorem IW:jz B7:=⟨⟨by decide,by decide⟩,by decide,by decide,by decide,by decide,by decide,by decide,by decide,by decide,⟨fun i h=>absurd h (Nat.not_lt_zero i),fun i h=>absurd h (Nat.not_lt_zero i)⟩,fun i h=>absurd h (Nat.not_lt_zero i)⟩
theorem K5:dI B7=false:=eO fun e=>by
 have:=(oF.1 (eU.1 e).1).2.2.1
 revert this
 decide
theorem Ck (sd:Nat→Int):ow (eK sd) 0=2∧sF (eK sd) 0=0:=by
 have e:=DR (D6 sd) (i:=0) (.inr (by show (0:Int)≥0;decide))
 exact ⟨e,xk e (by decide)⟩
theorem NA (sd:Nat→Int):C5 (eK sd) 5=.aX [.agg { eK sd with now:=5 }.cells,.int .i64 0] :=
 H3 (MV (D6 sd) (by decide) (by show ¬(5:Int)<0;decide))
theorem K3 (sf:Nat→Int):vR eB 3 7 1 sf=.aX [.agg (eK (gW 1 sf)).cells,.int .i64 0] :=
 HZ (HT HJ (by decide) (by decide))
theorem Ls:xf B7:=⟨by decide,by decide,by decide,by decide,by decide,by decide,by decide,by decide,fun i h=>absurd h (Nat.not_lt_zero i),fun i h=>absurd h (Nat.not_lt_zero i),fun i h=>absurd h (Nat.not_lt_zero i)⟩
theorem Ov {k:aS} {i:Nat} (h:xf k):xf (k.bk i):=⟨h.nr,h.ns,h.nc,h.nb,h.ne,h.nu,h.ni,h.ng,h.C,h.U,h.G⟩
theorem MH {k:aS} {g:cH} (hk:jz k):xf (uj k g):=by
 unfold uj
 by_cases h:lC k g=0
 ·rw [if_pos h]
  have hb:dI k=true:=by
   cases e:dI k with
   | true=>rfl
   | false=>rw [CR e] at h;cases h
  exact Ov (rn hk hb)
 ·rw [if_neg h];exact Ls
def vj (n:Nat):List CT:=List.replicate n (.int .u8)
def gm:List CT:=[.int .i64,.int .i64,.int .i64,.int .i64,.int .i64]++vj 32++[.int .i64,.int .i64,.int .i64,.int .i64,.int .i64,.int .i64]++vj 32++[.int .i64,.int .i64,.sl [.int .i64,.int .i64,.int .i64],.int .i64,.sl (vj 32)]
def lh (g : Nat → AV) : au :=
  { jl := aE (g 0), fK := aE (g 1), gx := aE (g 2), depth := aE (g 3), a := aE (g 4), root := fun j => aE (g (5 + j)),
    z := aE (g 37), sa := aE (g 38), sb := aE (g 39), r := aE (g 40), level := aE (g 41), index := aE (g 42), bM := fun j => aE (g (43 + j)),
    time := aE (g 75), number := aE (g 76), nl := iP (g 77), lf := fun i j => aE (l3 (g 77) i j), kg := aE (g 78), np := iP (g 79), pf := fun i j => aE (l3 (g 79) i j) }
def mK (n:Nat):List CT:=List.replicate n (.int .i64)
def NR (g:Nat→AV):aI:=⟨⟨aE (g 0),aE (g 1),aE (g 2)⟩,aE (g 3),aE (g 4),aE (g 5)⟩
theorem o5 {a:AV} (h:cB (.int .i64) a) : -9223372036854775808≤aE a∧aE a≤9223372036854775807:=by
 obtain ⟨h1,h2⟩:=(Lit.wf_int_iff _ _).1 h.yU
 exact ⟨Int.le_trans (by decide) h1,Int.le_trans h2 (by decide)⟩
theorem yV {a:AV} (h:cB (.int .u8) a):0≤aE a∧aE a<256:=by
 obtain ⟨h1,h2⟩:=(Lit.wf_int_iff _ _).1 h.yU
 exact ⟨Int.le_trans (by decide) h1,Int.lt_of_le_of_lt h2 (by decide)⟩
theorem HQ {ts:List CT} {g:Nat→AV} {k n:Nat} (h:∀ (j:Nat) c,ts[j]? = some c→cB c (g j)) (ht:∀ j,j<n→ts[k+j]? = some (.int .u8)):cS (fun j=>aE (g (k+j))) n:=fun i hi=>yV (h (k+i) _ (ht i hi))
def spA:List CT:=[.int .i64,.int .i64,.int .i64,.int .i64,.int .i64]
def spB:List CT:=[.int .i64,.int .i64,.int .i64,.int .i64,.int .i64,.int .i64]
def spC:List CT:=[.int .i64,.int .i64,.sl [.int .i64,.int .i64,.int .i64],.int .i64,.sl (vj 32)]
theorem vt:∀ j,j<32→gm[5+j]? = some (.int .u8):=fun j hj=>by
 show (((spA++vj 32)++spB)++vj 32++spC)[5+j]? = _
 rw [List.append_assoc,List.append_assoc,List.getElem?_append_left (by grind [spA,vj,List.length_append,List.length_replicate,List.length_cons,List.length_nil]),
  List.getElem?_append_right (by show 5≤_;omega)]
 unfold vj
 rw [List.getElem?_replicate,if_pos (by show 5+j - 5<32;omega)]
theorem sE:∀ j,j<32→gm[43+j]? = some (.int .u8):=fun j hj=>by
 show (((spA++vj 32)++spB)++vj 32++spC)[43+j]? = _
 have e:((spA++vj 32)++spB).length=43:=by rfl
 rw [List.append_assoc,List.getElem?_append_right (by omega),e,List.getElem?_append_left (by grind [vj,List.length_replicate])]
 unfold vj
 grind
theorem vD {g:Nat→AV} (h:∀ (j:Nat) c,gm[j]? = some c→cB c (g j)):(lh g).By:=⟨HQ (k:=5) h vt,HQ (k:=43) h sE⟩
theorem Mx {k:Nat} (h:k<32):(vj 32)[k]? = some (.int .u8):=by
 unfold vj
 rw [List.getElem?_replicate,if_pos h]
theorem uz {g:Nat→AV} (h:∀ (j:Nat) c,gm[j]? = some c→cB c (g j)):∀ k,k<(lh g).np→cS ((lh g).pf k) 32 :=
 fun j hj k hk=>yV ((h 79 (.sl (vj 32)) rfl).pC.2 j k (.int .u8) hj (Mx hk))
def uU:List CT:=gm++(gm++mK 1)
theorem D0 {g:Nat→AV} (h:∀ (j:Nat) c,uU[j]? = some c→cB c (g j)):∀ (j:Nat) c,gm[j]? = some c→cB c (g j):=fun j c hj=>h j c (by
 show (gm++(gm++mK 1))[j]? = _
 rw [List.getElem?_append_left (List.getElem?_eq_some_iff.1 hj).1]
 exact hj)
theorem B5 {g:Nat→AV} (h:∀ (j:Nat) c,uU[j]? = some c→cB c (g j)):∀ (j:Nat) c,gm[j]? = some c→cB c (g (80+j)):=fun j c hj=>h (80+j) c (by
 show (gm++(gm++mK 1))[80+j]? = _
 have e:gm.length=80:=by decide
 rw [List.getElem?_append_right (by omega),e,Nat.add_sub_cancel_left,List.getElem?_append_left (List.getElem?_eq_some_iff.1 hj).1]
 exact hj)
def Of:List CT:=[.int .i64,.sl (mK 1),.int .i64,.sl (mK 1),.int .i64,.bool,.int .i64]
def Oi:List CT:=mK 2++(gm++mK 1)
def vh:List CT:=.int .i64::(mK 6++([.int .i64,.sl (mK 11),.sl (mK 1),.sl Of,.sl (mK 1),.sl (mK 4),.sl Oi,.sl (mK 21),.sl uU]++(vj 32++mK 2)))
def NZ (a c z:AV):Pf:=⟨iP a,fun i=>aE (l3 a i 0),aE c,iP z,fun i=>aE (l3 z i 0)⟩
def MA (g:Nat→AV):cU:=⟨aE (g 0),NZ (g 1) (g 2) (g 3),aE (g 4),vk (g 5),aE (g 6)⟩
def Lp (g:Nat→AV):db:=⟨aE (g 0),aE (g 1),lh fun j=>g (2+j),aE (g 82)⟩
def yp (g:Nat→AV):cH:=⟨lh g,lh fun j=>g (80+j),aE (g 160)⟩
def Cj (g:Nat→AV):aS:=⟨aE (g 0),NR fun j=>g (1+j),aE (g 7),iP (g 8),fun i j=>aE (l3 (g 8) i j),iP (g 9),fun i=>aE (l3 (g 9) i 0),iP (g 10),fun i=>MA (l3 (g 10) i),iP (g 11),fun i=>aE (l3 (g 11) i 0),
 iP (g 12),fun i j=>aE (l3 (g 12) i j),iP (g 13),fun i=>Lp (l3 (g 13) i),iP (g 14),fun i j=>aE (l3 (g 14) i j),iP (g 15),fun i=>yp (l3 (g 15) i),fun j=>aE (g (16+j)),aE (g 48),aE (g 49)⟩
set_option maxRecDepth 100000
theorem z8 (g:Nat→AV):cZ uU g 0=(yp g).cells:=by kernel_rfl
theorem wo (g:Nat→AV):cZ vh g 0=(Cj g).cells:=by kernel_rfl
structure uf (g : cH) : Prop where
  sb : g.s.By
  tb : g.t.By
  sf : ∀ q, q < g.s.np → cS (g.s.pf q) 32
  tf : ∀ q, q < g.t.np → cS (g.t.pf q) 32
  lf : g.leaf ≤ 9223372036854775807
theorem uf.ok {g:cH} (h:uf g) (h1:ew g.s=true) (h2:ew g.t=true):va g:=by
 simp only [ew,Bool.and_eq_true,decide_eq_true_eq] at h1 h2
 exact ⟨by omega,by omega,h.sb,h.tb,by omega,by omega,h.sf,h.tf,h.lf⟩
structure yE (k : aS) : Prop where
  w : k.bT.gr.W
  nr : k.nr < 9223372036854775808
  ns : k.ns < 9223372036854775808
  nc : k.nc < 9223372036854775808
  nb : k.nb < 9223372036854775808
  ne : k.ne < 9223372036854775808
  nu : k.nu < 9223372036854775808
  ni : k.ni < 9223372036854775808
  ng : k.ng < 9223372036854775808
  U : yu k.nu k.U
  G : ∀ i, i < k.ng → uf (k.G i)
theorem yE.ok {k:aS} (h:yE k) (hf:wN k=true):jz k:=by
 simp only [wN,Bool.and_eq_true,Bool.not_eq_true'] at hf
 refine ⟨h.w,h.nr,h.ns,h.nc,h.nb,h.ne,h.nu,h.ni,h.ng,h.U,fun i hi=>?_⟩
 have:=CG hf.1.2 i hi
 simp only [Bool.not_eq_false',Bool.and_eq_true] at this
 exact (h.G i hi).ok this.1 this.2
theorem lK {cs:List CT} {a:AV} (h:cB (.sl cs) a):iP a<9223372036854775808:=Nat.lt_of_le_of_lt h.pC.1 (by decide)
theorem Cs {g:Nat→AV} (h:∀ (j:Nat) c,uU[j]? = some c→cB c (g j)):uf (yp g) :=
 ⟨vD (D0 h),vD (B5 h),uz (D0 h),uz (B5 h),(o5 (h 160 _ rfl)).2⟩
theorem FF {g:Nat→AV} (h:∀ (j:Nat) c,vh[j]? = some c→cB c (g j)):yE (Cj g) :=
 ⟨⟨(o5 (h 1 _ rfl)).2,(o5 (h 2 _ rfl)).2⟩,lK (h 8 _ rfl),lK (h 9 _ rfl),lK (h 10 _ rfl),lK (h 11 _ rfl),lK (h 12 _ rfl),lK (h 13 _ rfl),lK (h 14 _ rfl),lK (h 15 _ rfl),
  ⟨fun i hi=>lK ((h 13 _ rfl).pC.2 i 79 _ hi rfl),fun i hi=>lK ((h 13 _ rfl).pC.2 i 81 _ hi rfl)⟩,fun i hi=>Cs fun j c hj=>(h 15 _ rfl).pC.2 i j c hi hj⟩
end Go.Sp

namespace Go.Proofs.YtpefjkpdniiaoaaGreatDoor
open Go.IntKind (wrap)
open Int (toNat)
open Go Go.Am Go.Sp
set_option maxRecDepth 100000
theorem zw (c1:∀ sf,cS sf 1→Pure Tryz.prog aZ 9 [eB.av,.int .i64 3,.int .i64 7,dC 1 sf] (.aX [.agg (eK (gW 1 sf)).cells,.int .i64 0]))
  (c2:∀ sd,Pure Tryz.prog aZ 10 [.agg (eK sd).cells] (.bool true)) (c3:Pure Tryz.prog aZ 10 [zbA] (.bool false))
  (c4:∀ sd,Pure Tryz.prog aZ 11 [.agg (eK sd).cells,.int .i64 0] (.aX [.int .i64 0,.int .i64 2]))
  (c5:∀ sd,Pure Tryz.prog aZ 12 [.agg (eK sd).cells,.int .i64 5] (.aX [.agg { eK sd with now:=5 }.cells,.int .i64 0])):Pure Tryz.prog aZ 4 [] (.bool true):=by
 refine ar (own:=bq) Tryz.func4 (by kernel_rfl) mixed (by kernel_rfl)
  (.bj (0≤(0:Int)) (.dc true 9 [.agg [Zi 2027,Zi 1013,Zi 4,Zi 16,Zi 64,Zi 256],Zi 3,Zi 7,.aH 1 1 fun r x=>Zb (aE (aQ (List.getD [[Zb 120]] (0+r) []) 0))] (.aX [.agg (aS.cells (eK (gW 1 fun i=>aE (aQ (List.getD [[Zb 120]] (0+i) []) 0)))),Zi 0]) (.sc true 10 [.agg (Zi 3::Zi 2027::Zi 1013::Zi 4::Zi 16::Zi 64::Zi 256::Zi 7::(.aH 11 0 fun i j=>Zi (z0 j))::(.aH 1 0 fun i x=>Zi (z0 i))::(.aH 7 0 fun i j=>aQ (cU.cells (aS.C (eK (gW 1 fun i=>aE (aQ (List.getD [[Zb 120]] (0+i) []) 0))) i)) j)::(.aH 1 5 fun i x=>Zi (z0 i))::(.aH 4 0 fun i j=>Zi (z0 j))::(.aH 83 0 fun i j=>aQ (db.cells (aS.U (eK (gW 1 fun i=>aE (aQ (List.getD [[Zb 120]] (0+i) []) 0))) i)) j)::(.aH 21 0 fun i j=>Zi (z0 j))::(.aH 161 0 fun i j=>aQ (cH.cells (aS.G (eK (gW 1 fun i=>aE (aQ (List.getD [[Zb 120]] (0+i) []) 0))) i)) j)::(bf (gW 1 fun i=>aE (aQ (List.getD [[Zb 120]] (0+i) []) 0))++[Zi 0,Zi 0]))] (.bool true) (.sc true 10 [.agg [Zi 0,Zi 0,Zi 0,Zi 0,Zi 0,Zi 0,Zi 0,Zi 0,.bn,.bn,.bn,.bn,.bn,.bn,.bn,.bn,Zb 0,Zb 0,Zb 0,Zb 0,Zb 0,Zb 0,Zb 0,Zb 0,Zb 0,Zb 0,Zb 0,Zb 0,Zb 0,Zb 0,Zb 0,Zb 0,Zb 0,Zb 0,Zb 0,Zb 0,Zb 0,Zb 0,Zb 0,Zb 0,Zb 0,Zb 0,Zb 0,Zb 0,Zb 0,Zb 0,Zb 0,Zb 0,Zi 0,Zi 0]] (.bool false) (.ff (.sc true 11 [.agg (Zi 3::Zi 2027::Zi 1013::Zi 4::Zi 16::Zi 64::Zi 256::Zi 7::(.aH 11 0 fun i j=>Zi (z0 j))::(.aH 1 0 fun i x=>Zi (z0 i))::(.aH 7 0 fun i j=>aQ (cU.cells (aS.C (eK (gW 1 fun i=>aE (aQ (List.getD [[Zb 120]] (0+i) []) 0))) i)) j)::(.aH 1 5 fun i x=>Zi (z0 i))::(.aH 4 0 fun i j=>Zi (z0 j))::(.aH 83 0 fun i j=>aQ (db.cells (aS.U (eK (gW 1 fun i=>aE (aQ (List.getD [[Zb 120]] (0+i) []) 0))) i)) j)::(.aH 21 0 fun i j=>Zi (z0 j))::(.aH 161 0 fun i j=>aQ (cH.cells (aS.G (eK (gW 1 fun i=>aE (aQ (List.getD [[Zb 120]] (0+i) []) 0))) i)) j)::(bf (gW 1 fun i=>aE (aQ (List.getD [[Zb 120]] (0+i) []) 0))++[Zi 0,Zi 0])),Zi 0] (.aX [Zi 0,Zi 2]) (.dc true 12 [.agg (Zi 3::Zi 2027::Zi 1013::Zi 4::Zi 16::Zi 64::Zi 256::Zi 7::(.aH 11 0 fun i j=>Zi (z0 j))::(.aH 1 0 fun i x=>Zi (z0 i))::(.aH 7 0 fun i j=>aQ (cU.cells (aS.C (eK (gW 1 fun i=>aE (aQ (List.getD [[Zb 120]] (0+i) []) 0))) i)) j)::(.aH 1 5 fun i x=>Zi (z0 i))::(.aH 4 0 fun i j=>Zi (z0 j))::(.aH 83 0 fun i j=>aQ (db.cells (aS.U (eK (gW 1 fun i=>aE (aQ (List.getD [[Zb 120]] (0+i) []) 0))) i)) j)::(.aH 21 0 fun i j=>Zi (z0 j))::(.aH 161 0 fun i j=>aQ (cH.cells (aS.G (eK (gW 1 fun i=>aE (aQ (List.getD [[Zb 120]] (0+i) []) 0))) i)) j)::(bf (gW 1 fun i=>aE (aQ (List.getD [[Zb 120]] (0+i) []) 0))++[Zi 0,Zi 0])),Zi 5] (.aX   [.agg       (aS.cells         (let __src:=eK (gW 1 fun i=>aE (aQ (List.getD [[Zb 120]] (0+i) []) 0));         { num:=aS.num __src,bT:=aS.bT __src,sec:=aS.sec __src,nr:=aS.nr __src,R:=aS.R __src,ns:=aS.ns __src,X:=aS.X __src,nc:=aS.nc __src,C:=aS.C __src,nb:=aS.nb __src,B:=aS.B __src,ne:=aS.ne __src,E:=aS.E __src,nu:=aS.nu __src,U:=aS.U __src,ni:=aS.ni __src,I:=aS.I __src,ng:=aS.ng __src,G:=aS.G __src,tA:=aS.tA __src,bO:=aS.bO __src,now:=(5:Int) })),     Zi 0]) (.out (.bool true) [] (.bool true) []))))))))
  (by kernel_rfl) ?_
 refine aD (by omega) ?_
 refine b9 (c1 (fun (i:Nat)=>aE (aQ (List.getD [[Zb 120]] (0+i) []) (0))) (fun i hi=>by obtain rfl:i=0:=Nat.lt_one_iff.1 hi;decide)) ?_
 refine aM (c2 (gW (1:Nat) fun (i:Nat)=>aE (aQ (List.getD [[Zb 120]] (0+i) []) (0)))) ?_
 refine aM (c3) ?_
 refine cz ?_
 refine aM (c4 (gW (1:Nat) fun (i:Nat)=>aE (aQ (List.getD [[Zb 120]] (0+i) []) (0)))) ?_
 refine b9 (c5 (gW (1:Nat) fun (i:Nat)=>aE (aQ (List.getD [[Zb 120]] (0+i) []) (0)))) ?_
 exact aq (ay.of_eq rfl)
theorem zj:Pure Tryz.prog aZ 4 [] (.bool true):=by
 refine zw (fun sf hf=>(JM eB 3 7 1 sf Np hf).tM (ay.of_eq (K3 sf))) (fun sd=>?_) ?_ (fun sd=>?_) (fun sd=>(Nd (eK sd) (Er sd) 5).tM (ay.of_eq (NA sd)))
 ·have:=p7 (eK sd) (Er sd)
  rwa [D6] at this
 ·have:=p7 B7 IW
  rw [K5] at this
  exact this.via ⟨tq,trivial⟩
 ·have:=Jm (eK sd) (Er sd) 0
  rwa [(Ck sd).1,(Ck sd).2] at this
theorem so (k:aS) (g:cH) (hI:yE k) (hG:uf g):Pure Tryz.prog aZ 3 [.agg k.cells,.agg g.cells] (.bool true):=by
 have c1:=zj
 have c2:=Fy k hI.nu hI.ng hI.nc
 have K:=fun (q:(((wN k=true∧¬(g.s.nl:Int)>40)∧¬(g.t.nl:Int)>40)∧¬(g.s.np:Int)>30)∧¬(g.t.np:Int)>30)=>hG.ok (by simp only [ew,Bool.and_eq_true,decide_eq_true_eq];omega) (by simp only [ew,Bool.and_eq_true,decide_eq_true_eq];omega)
 have c3:=fun h hg=>FH k (hI.ok h) g hg
 have c4:=fun h hg=>BR k (hI.ok h) g hg
 have c5:=fun h=>Bj (uj k g) (MH (hI.ok h))
 refine ar (own:=bq) Tryz.func3 (by kernel_rfl) mixed (by kernel_rfl)
  (.sc true 4 [] (.bool true) (.ff (.sc true 5 [.agg (aS.cells k)] (.bool (wN k)) (.br (!wN k||decide ((↑(cH.s g).16:Int)>(40:Int))||decide ((↑(cH.t g).16:Int)>(40:Int))||decide ((↑(cH.s g).19:Int)>(30:Int))||decide ((↑(cH.t g).19:Int)>(30:Int))) (.out (.bool true) [] (.bool true) []) (.dc true 6 [.agg (aS.cells k),.agg (cH.cells g)] (kC k g) (.dc true 7 [.agg (aS.cells k),.agg (cH.cells g)] (kC k g) (.sc true 8 [.agg (aS.cells (uj k g)),.agg (aS.cells (uj k g))] (.bool true) (.out (.bool (Dq k g==Dq k g&&lC k g==lC k g)) [] (.bool true) []))))))))
  (by kernel_rfl) ?_
 refine aM (c1) ?_
 refine cz ?_
 refine aM (c2) ?_
 refine aL (fun h3=>?_) (fun h3=>?_)
 ·have g3:=(aA (aA (aA (aA (aC aF) af) af) af) af) h3
  exact aq (ay.of_eq rfl)
 ·have g3:=(aw (aw (aw (aw (az aB) aa) aa) aa) aa) h3
  refine b9 (c3 (by exact g3.1.1.1.1) (by exact K g3)) ?_
  refine b9 (c4 (by exact g3.1.1.1.1) (by exact K g3)) ?_
  refine aM (c5 (by exact g3.1.1.1.1)) ?_
  exact aq (ay.of_eq (by simp_all))
theorem rU (a b:Nat→AV) (ha:∀ (j:Nat) c,vh[j]? = some c→cB c (a j)) (hb:∀ (j:Nat) c,uU[j]? = some c→cB c (b j)):Pure Tryz.prog aZ 3 [.agg (cZ vh a 0),.agg (cZ uU b 0)] (.bool true):=by
 rw [wo,z8]
 exact so (Cj a) (yp b) (FF ha) (Cs hb)
end Go.Proofs.YtpefjkpdniiaoaaGreatDoor

namespace Go.Am
open Go.IntKind (wrap)
open Int (toNat)
open Go
theorem xM {P:Program} {w:World}:∀ {laid:List (String×DataW Unit)} {ps:List MemPlace},DataW.LaidVars P w laid ps→∀ {i:Nat} {n:String} {d:DataW Unit},laid[i]? = some (n,d) →
  ∃ g t cs fuel p,P.globalNamed n=some g∧(P.globals[g]?).map (·.type)=some t∧w.var? P n=some cs∧DataW.trod (fun _=>()) P w 0 (fun _=>true) false fuel t cs.toList=some (d,p)
 | [],_,_,i,n,d,h=>by grind
 | (n',d')::r,ps,⟨g,t,cs,fuel,p,q,h1,h2,h3,h4,_,_⟩,0,n,d,h=>by grind
 | (n',d')::r,ps,⟨g,t,cs,fuel,p,q,h1,h2,h3,h4,h5,_⟩,i+1,n,d,h=>xM h5 (by simpa using h)
def AQ (P:Program) (g n:Nat) (k:IntKind):Bool :=
 match (P.globals[g]?).map (·.type) with
 | some t =>
  match P.underlying t with
  | some (.array m e) =>
   match P.underlying e with
   | some (.int k')=>Nat.beq m n&&Nat.beq (P.cellsOf e) 1&&(decide (k'=k)&&Nat.beq (P.cellsOf t) n)
   | _=>false
  | _=>false
 | none=>false
theorem Ar {P:Program} {g n:Nat} {k:IntKind} (h:AQ P g n k=true):∃ t e,(P.globals[g]?).map (·.type)=some t∧P.underlying t=some (.array n e)∧P.underlying e=some (.int k)∧P.cellsOf e=1∧P.cellsOf t=n:=by
 unfold AQ at h
 split at h
 ·rename_i t ht
  split at h
  ·rename_i m e hu
   split at h
   ·rename_i k' he
    simp only [Bool.and_eq_true,decide_eq_true_eq,Nat.beq_eq] at h
    grind
   grind
  grind
 grind
theorem ll {P:Program} {w:World} {β:bu} {laid:List (String×DataW Unit)} (h:laidMetH P laid w) (hp:(laid.all fun x=>x.2.handleName?.isNone)=true) (i:Nat) (name:String) {g n:Nat}
  {k:IntKind} {F:Nat→Int} (hl:laid[i]? = some (name,.agg ((List.range n).map fun j=>.lit (.int k (F j))))) (hg:P.globalNamed name=some g) (ho:AQ P g n k=true) (hn:0<n) (hb:β.free g):gn β w g n fun j=>.int k (F j):=by
 obtain ⟨t,e,ht,hu,he,hc,hct⟩:=Ar ho
 rw [MakeChecks.laidMetH_plain _ _ _ hp] at h
 obtain ⟨ps,hv,_,_⟩:=h
 obtain ⟨g',t',cs,fuel,p,h1,h2,h3,h4⟩:=xM hv hl
 obtain rfl:=Option.some.inj (hg.symm.trans h1)
 obtain rfl:=Option.some.inj (ht.symm.trans h2)
 obtain ⟨xs,m,rfl,hx,hlen,hxl,hel⟩:=DataW.trod_array hu h4
 simp only [Prod.mk.injEq,DataW.agg.injEq] at hx
 obtain ⟨hx,_⟩:=hx
 have cell:∀ j,j<n→cs[j]? = some (.int k (F j)):=fun j hj=>by
  have hj':=hel j hj
  rw [hc,Nat.mul_one,List.getElem?_eq_getElem (by omega:j<xs.length)] at hj'
  obtain ⟨v,e1,e2,_⟩:=DataW.trod_int he hj'
  have e3:(xs.map (·.1))[j]? = some (.lit (.int k v)):=by grind
  rw [← hx] at e3
  simp only [List.getElem?_map,List.getElem?_range hj,Option.map_some,Option.some.injEq,DataW.lit.injEq,Lit.int.injEq,true_and] at e3
  subst e3
  have e4:(List.take 1 (List.drop j cs.toList))[0]? = some (.int k (F j)):=by grind
  grind
 have hsh:∃ el,w.shape? g=some (el,n):=by
  unfold World.var? at h3
  rw [hg] at h3
  have hsz:cs.size=n:=hlen.trans hct
  unfold World.shape?
  simp only [Option.bind_some] at h3
  split<;>simp_all
 refine ⟨?_,hsh⟩
 refine .bJ (fun j=>.int k (F j)) hn hb (fun j hj=>?_) (fun _ _=>rfl) (fun _ _=>.int) (fun _ _=>.int)
 grind [World.var?_cell]
end Go.Am
