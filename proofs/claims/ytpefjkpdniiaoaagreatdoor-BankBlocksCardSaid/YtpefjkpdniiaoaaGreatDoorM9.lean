/- Part of the proof: CX33, Bnk11, SpOpen, SpOpenP, Args, Args3, ArgsB, CX34, CX35, EnGlob. -/
import Derived.Test.YtpefjkpdniiaoaaGreatDoorM8
import Derived.Test.YtpefjkpdniiaoaaGreatDoorProg
import Derived.Test.YtpefjkpdniiaoaaGreatDoorM3
import Derived.Test.YtpefjkpdniiaoaaGreatDoorM2
import Derived.Test.YtpefjkpdniiaoaaGreatDoorM4
import Derived.Test.YtpefjkpdniiaoaaGreatDoorM5
import Derived.DataShut
import Derived.OpenShut
import Derived.FnData
import Derived.MakeChecks
namespace Go.Proofs.YtpefjkpdniiaoaaGreatDoor
open Go.IntKind (wrap)
open Int (toNat)
open Go Go.Am Go.Sp
set_option maxRecDepth 100000
theorem CH (p:Pf) (h1:p.na≤1000) (h2:p.nz≤1000):Pure Tryz.prog aZ 77 [.agg p.cells,.agg p.cells] (.bool true):=by
 refine ar (own:=bq) Tryz.func77 (by kernel_rfl) mixed (by kernel_rfl)
  (let y0:List (Option Ob):=[some ⟨3,1,true,.bc [[.aH 1 p.1 fun i x=>Zi (p.2 i),Zi (Pf.c p),.aH 1 p.4 fun i x=>Zi (p.5 i)]]⟩,some ⟨3,1,true,.bc [[.aH 1 p.1 fun i x=>Zi (p.2 i),Zi (Pf.c p),.aH 1 p.4 fun i x=>Zi (p.5 i)]]⟩];let y1:=(fun (x:{ x:Nat // x≤Pf.na p })=>aY [2,3,5] [.own 0 3 0 0 3,.own 1 3 0 0 3,Zi x.1] y0);let y2:=(fun (x:{ x:Nat // x≤Pf.nz p })=>aY [2,3,6] [.own 0 3 0 0 3,.own 1 3 0 0 3,Zi x.1] y0);let y3:=(fun (x:{ x:Nat // x≤Pf.na p })=>Pf.na p - x.1);let y4:=(fun (x:{ x:Nat // x≤Pf.nz p })=>Pf.nz p - x.1);let y5:List AV:=[.own 0 3 0 0 3,.own 1 3 0 0 3,Zi 0];(.br (p.3 != p.3||(p.1:Int) != (p.1:Int)||(p.4:Int) != (p.4:Int)) (.out (.bool false) [] (.bool true) []) (.loop ({ x:Nat // x≤Pf.na p }) y1 y3 (⟨0,Nat.zero_le (Pf.na p)⟩) [2,3,5] [0,8] (y5) (y0) (fun x2=>(.br (decide ((x2.1:Int)<(p.1:Int))) (.bj (0≤(x2.1:Int)∧(x2.1:Int)<(p.1:Int)) (.bj (0≤(x2.1:Int)∧(x2.1:Int)<(p.1:Int)) (.br (p.2 (toNat (x2.1:Int)) != p.2 (toNat (x2.1:Int))) (.out (.bool false) [] (.bool true) []) (.again (bh 0 y1 y3 x2) [2,3,5] [0,1] [.own 0 3 0 0 3,.own 1 3 0 0 3,Zi (wrap .i64 ((x2.1:Int)+1))] (y0))))) (.loop ({ x:Nat // x≤Pf.nz p }) y2 y4 (⟨0,Nat.zero_le (Pf.nz p)⟩) [2,3,6] [0,1] (y5) (y0) (fun x9=>(.br (decide ((x9.1:Int)<(p.4:Int))) (.bj (0≤(x9.1:Int)∧(x9.1:Int)<(p.4:Int)) (.bj (0≤(x9.1:Int)∧(x9.1:Int)<(p.4:Int)) (.br (p.5 (toNat (x9.1:Int)) != p.5 (toNat (x9.1:Int))) (.out (.bool false) [] (.bool true) []) (.again (bh 0 y2 y4 x9) [2,3,6] [0,1] [.own 0 3 0 0 3,.own 1 3 0 0 3,Zi (wrap .i64 ((x9.1:Int)+1))] (y0))))) (.out (.bool true) [] (.bool true) [])))))))))
  (by kernel_rfl) ?_
 refine aL (fun h0=>?_) (fun h0=>?_)
 ·have g0:=(aA (aA aU aU) aU) h0
  exact aq (ay.of_eq (by simp_all))
 ·have g0:=(aw (aw aR aR) aR) h0
  refine aV (fun _ hs=>hs.le (⟨.refl _,.refl _,.refl _,trivial⟩) (⟨.refl _,.refl _,trivial⟩)) (fun x2=>?_)
  try (have q2:=x2.2;dsimp only at q2)
  refine aL (fun h3=>?_) (fun h3=>?_)
  ·have g3:=af h3
   refine aD (by omega) ?_
   refine aD (by omega) ?_
   refine aL (fun h6=>?_) (fun h6=>?_)
   ·have g6:=aU h6
    try simp only [Int.toNat_natCast] at g6
    exact aq (ay.of_eq (by simp_all))
   ·have g6:=aR h6
    try simp only [Int.toNat_natCast] at g6
    exact aN (⟨x2.1+1,by omega⟩) (fun _ hs=>hs.le (⟨.refl _,.refl _,aK (by omega),trivial⟩) (⟨.refl _,.refl _,trivial⟩)) (by dsimp only;omega)
  ·have g3:=aa h3
   refine aV (fun _ hs=>hs.le (⟨.refl _,.refl _,.refl _,trivial⟩) (⟨.refl _,.refl _,trivial⟩)) (fun x9=>?_)
   try (have q9:=x9.2;dsimp only at q9)
   refine aL (fun h10=>?_) (fun h10=>?_)
   ·have g10:=af h10
    refine aD (by omega) ?_
    refine aD (by omega) ?_
    refine aL (fun h13=>?_) (fun h13=>?_)
    ·have g13:=aU h13
     try simp only [Int.toNat_natCast] at g13
     exact aq (ay.of_eq (by simp_all))
    ·have g13:=aR h13
     try simp only [Int.toNat_natCast] at g13
     exact aN (⟨x9.1+1,by omega⟩) (fun _ hs=>hs.le (⟨.refl _,.refl _,aK (by omega),trivial⟩) (⟨.refl _,.refl _,trivial⟩)) (by dsimp only;omega)
   ·have g10:=aa h10
    exact aq (ay.of_eq rfl)
theorem Cd (y:Int) (p:Pf) (h1:p.na≤1000) (h2:p.nz≤1000):Pure Tryz.prog aZ 27 [.agg (.int .i64 y::p.cells),.agg (.int .i64 y::p.cells)] (.bool true):=by
 have c1:=CH p h1 h2
 refine ar (own:=bq) Tryz.func27 (by kernel_rfl) mixed (by kernel_rfl)
  (let y0:List AV:=[.aH 1 p.1 fun i x=>Zi (p.2 i),Zi p.3,.aH 1 p.4 fun i x=>Zi (p.5 i)];(.sc ((y==y)==true) 77 [.agg y0,.agg y0] (.bool true) (.out (.bool (y==y||false)) [] (.bool true) [])))
  (by kernel_rfl) ?_
 refine aW (fun h0=>c1) ?_
 exact aq (ay.of_eq (by simp_all))
theorem Fp (u:db) (h1:u.sp.nl≤1000) (h2:u.sp.np≤1000):Pure Tryz.prog aZ 78 [.agg u.cells,.agg u.cells] (.bool true):=by
 have c1:=pe u.sp h1 h2
 refine ar (own:=bq) Tryz.func78 (by kernel_rfl) mixed (by kernel_rfl)
  (.sc ((u.1==u.1&&u.2==u.2&&u.4==u.4)==true) 140 [.agg (au.cells (db.sp u)),.agg (au.cells (db.sp u))] (.bool true) (.out (.bool (u.1==u.1&&u.2==u.2&&u.4==u.4||false)) [] (.bool true) []))
  (by kernel_rfl) ?_
 refine aW (fun h0=>c1) ?_
 exact aq (ay.of_eq (by simp_all))
theorem E1 (n:Nat) (U:Nat→db) (hn:n≤100000) (h:∀ i,i<n→(U i).sp.nl≤1000∧(U i).sp.np≤1000):Pure Tryz.prog aZ 29 [mT n U,mT n U] (.bool true):=by
 have c1:=fun i (hi:i<n)=>Fp (U i) (h i hi).1 (h i hi).2
 refine ar (own:=bq) Tryz.func29 (by kernel_rfl) mixed (by kernel_rfl)
  (let y0:=(fun (x:{ x:Nat // x≤n })=>aY [0,1,5] [.aH 83 n fun i j=>aQ (db.cells (U i)) j,.aH 83 n fun i j=>aQ (db.cells (U i)) j,Zi x.1] []);let y1:=(fun (x:{ x:Nat // x≤n })=>n - x.1);(.br ((n:Int) != (n:Int)) (.out (.bool false) [] (.bool true) []) (.loop ({ x:Nat // x≤n }) y0 y1 (⟨0,Nat.zero_le n⟩) [0,1,5] [] [.aH 83 n fun i j=>aQ (db.cells (U i)) j,.aH 83 n fun i j=>aQ (db.cells (U i)) j,Zi 0] [] (fun x2=>(.br (decide ((x2.1:Int)<(n:Int))) (.bj (0≤(x2.1:Int)∧(x2.1:Int)<(n:Int)) (.bj (0≤(x2.1:Int)∧(x2.1:Int)<(n:Int)) (.sc true 78 [.agg (db.cells (U (toNat (↑(x2.1):Int)))),.agg (db.cells (U (toNat (↑(x2.1):Int))))] (.bool true) (.ff (.again (bh 0 y0 y1 x2) [0,1,5] [] [.aH 83 n fun i j=>aQ (db.cells (U i)) j,.aH 83 n fun i j=>aQ (db.cells (U i)) j,Zi (wrap .i64 ((x2.1:Int)+1))] []))))) (.out (.bool true) [] (.bool true) []))))))
  (by kernel_rfl) ?_
 refine aL (fun h0=>?_) (fun h0=>?_)
 ·have g0:=aU h0
  exact aq (ay.of_eq (by simp_all))
 ·have g0:=aR h0
  refine aV (fun _ hs=>hs.le (⟨.refl _,.refl _,.refl _,trivial⟩) (trivial)) (fun x2=>?_)
  try (have q2:=x2.2;dsimp only at q2)
  refine aL (fun h3=>?_) (fun h3=>?_)
  ·have g3:=af h3
   refine aD (by omega) ?_
   refine aD (by omega) ?_
   refine aM (c1 (toNat (↑(x2.1):Int)) (by omega)) ?_
   refine cz ?_
   exact aN (⟨x2.1+1,by omega⟩) (fun _ hs=>hs.le (⟨.refl _,.refl _,aK (by omega),trivial⟩) (trivial)) (by dsimp only;omega)
  ·have g3:=aa h3
   exact aq (ay.of_eq rfl)
theorem BR (n:Nat) (G:Nat→cH) (hn:n≤100000) (h:∀ i,i<n→((G i).s.nl≤1000∧(G i).s.np≤1000)∧((G i).t.nl≤1000∧(G i).t.np≤1000)):Pure Tryz.prog aZ 30 [nm n G,nm n G] (.bool true):=by
 have c1:=fun i (hi:i<n)=>Cj (G i).s (G i).t (G i).leaf (h i hi).1.1 (h i hi).1.2 (h i hi).2.1 (h i hi).2.2
 refine ar (own:=bq) Tryz.func30 (by kernel_rfl) mixed (by kernel_rfl)
  (let y0:=(fun (x:{ x:Nat // x≤n })=>aY [0,1,5] [.aH 161 n fun i j=>aQ (cH.cells (G i)) j,.aH 161 n fun i j=>aQ (cH.cells (G i)) j,Zi x.1] []);let y1:=(fun (x:{ x:Nat // x≤n })=>n - x.1);(.br ((n:Int) != (n:Int)) (.out (.bool false) [] (.bool true) []) (.loop ({ x:Nat // x≤n }) y0 y1 (⟨0,Nat.zero_le n⟩) [0,1,5] [] [.aH 161 n fun i j=>aQ (cH.cells (G i)) j,.aH 161 n fun i j=>aQ (cH.cells (G i)) j,Zi 0] [] (fun x2=>(.br (decide ((x2.1:Int)<(n:Int))) (.bj (0≤(x2.1:Int)∧(x2.1:Int)<(n:Int)) (.bj (0≤(x2.1:Int)∧(x2.1:Int)<(n:Int)) (.sc true 79 [.agg (cH.cells (G (toNat (↑(x2.1):Int)))),.agg (cH.cells (G (toNat (↑(x2.1):Int))))] (.bool true) (.ff (.again (bh 0 y0 y1 x2) [0,1,5] [] [.aH 161 n fun i j=>aQ (cH.cells (G i)) j,.aH 161 n fun i j=>aQ (cH.cells (G i)) j,Zi (wrap .i64 ((x2.1:Int)+1))] []))))) (.out (.bool true) [] (.bool true) []))))))
  (by kernel_rfl) ?_
 refine aL (fun h0=>?_) (fun h0=>?_)
 ·have g0:=aU h0
  exact aq (ay.of_eq (by simp_all))
 ·have g0:=aR h0
  refine aV (fun _ hs=>hs.le (⟨.refl _,.refl _,.refl _,trivial⟩) (trivial)) (fun x2=>?_)
  try (have q2:=x2.2;dsimp only at q2)
  refine aL (fun h3=>?_) (fun h3=>?_)
  ·have g3:=af h3
   refine aD (by omega) ?_
   refine aD (by omega) ?_
   refine aM (c1 (toNat (↑(x2.1):Int)) (by omega)) ?_
   refine cz ?_
   exact aN (⟨x2.1+1,by omega⟩) (fun _ hs=>hs.le (⟨.refl _,.refl _,aK (by omega),trivial⟩) (trivial)) (by dsimp only;omega)
  ·have g3:=aa h3
   exact aq (ay.of_eq rfl)
theorem D8 (k:aS) (h:vP k):Pure Tryz.prog aZ 8 [.agg k.cells,.agg k.cells] (.bool true):=by
 have s1:=h.nr;have s2:=h.ns;have s3:=h.nc;have s4:=h.nb;have s5:=h.ne;have s6:=h.nu;have s7:=h.ni;have s8:=h.ng
 have c1:=fun i (hi:i<k.nc)=>Cd (k.C i).key (k.C i).pf (h.C i hi).1 (h.C i hi).2
 have c2:=Co k.nb k.B k.ne k.E (by omega) (by omega)
 have c3:=E1 k.nu k.U (by omega) h.U
 have c4:=BR k.ng k.G (by omega) h.G
 refine ar (own:=bq) Tryz.func8 (by kernel_rfl) mixed (by kernel_rfl)
  (let y0:List (Option Ob):=[some ⟨50,1,true,.bc [aS.cells k]⟩,some ⟨50,1,true,.bc [aS.cells k]⟩];let y1:=(fun (x:{ x:Nat // x≤aS.nr k })=>aY [2,3,13,14,5] [.own 0 50 0 0 50,.own 1 50 0 0 50,.own 1 50 0 0 1,Zi k.1,Zi x.1] y0);let y2:List AV:=[.aH 1 k.10 fun i x=>Zi (k.11 i),.aH 4 k.12 fun i j=>Zi (k.13 i j)];let y3:=(fun (x:{ x:Nat // x≤aS.nr k })=>aS.nr k - x.1);let y4:=(fun (x:{ x:Nat // x≤aS.ns k })=>aS.ns k - x.1);let y5:=(fun (x:{ x:Nat // x≤aS.nc k })=>aS.nc k - x.1);let y6:=(fun (x:{ x:Nat // x≤aS.ni k })=>aS.ni k - x.1);(.br (k.1 != k.1 || !((aI.gr (aS.bT k)).1==(aI.gr (aS.bT k)).1&&((aI.gr (aS.bT k)).2==(aI.gr (aS.bT k)).2&&((aI.gr (aS.bT k)).3==(aI.gr (aS.bT k)).3&&true))&&((aS.bT k).2==(aS.bT k).2&&((aS.bT k).3==(aS.bT k).3&&((aS.bT k).4==(aS.bT k).4&&true))))||k.3 != k.3 || !(k.20 0==k.20 0&&(k.20 1==k.20 1&&(k.20 2==k.20 2&&(k.20 3==k.20 3&&(k.20 4==k.20 4&&(k.20 5==k.20 5&&(k.20 6==k.20 6&&(k.20 7==k.20 7&&(k.20 8==k.20 8&&(k.20 9==k.20 9&&(k.20 10==k.20 10&&(k.20 11==k.20 11&&(k.20 12==k.20 12&&(k.20 13==k.20 13&&(k.20 14==k.20 14&&(k.20 15==k.20 15&&(k.20 16==k.20 16&&(k.20 17==k.20 17&&(k.20 18==k.20 18&&(k.20 19==k.20 19&&(k.20 20==k.20 20&&(k.20 21==k.20 21&&(k.20 22==k.20 22&&(k.20 23==k.20 23&&(k.20 24==k.20 24&&(k.20 25==k.20 25&&(k.20 26==k.20 26&&(k.20 27==k.20 27&&(k.20 28==k.20 28&&(k.20 29==k.20 29&&(k.20 30==k.20 30&&(k.20 31==k.20 31&&true)))))))))))))))))))))))))))))))&&(k.21==k.21&&true))||k.22 != k.22||(k.4:Int) != (k.4:Int)||(k.6:Int) != (k.6:Int)||(k.8:Int) != (k.8:Int)||(k.16:Int) != (k.16:Int)) (.out (.bool false) [] (.bool true) []) (.loop ({ x:Nat // x≤aS.nr k }) y1 y3 (⟨0,Nat.zero_le (aS.nr k)⟩) [2,3,13,14,5] [0,8] [.own 0 50 0 0 50,.own 1 50 0 0 50,.own 1 50 0 0 1,Zi k.1,Zi 0] (y0) (fun x2=>(.br (decide ((x2.1:Int)<(k.4:Int))) (.bj (0≤(x2.1:Int)∧(x2.1:Int)<(k.4:Int)) (.bj (0≤(x2.1:Int)∧(x2.1:Int)<(k.4:Int)) (.br (!(k.5 (toNat (x2.1:Int)) 0==k.5 (toNat (x2.1:Int)) 0&&(k.5 (toNat (x2.1:Int)) 1==k.5 (toNat (x2.1:Int)) 1&&(k.5 (toNat (x2.1:Int)) 2==k.5 (toNat (x2.1:Int)) 2&&(k.5 (toNat (x2.1:Int)) 3==k.5 (toNat (x2.1:Int)) 3&&(k.5 (toNat (x2.1:Int)) 4==k.5 (toNat (x2.1:Int)) 4&&(k.5 (toNat (x2.1:Int)) 5==k.5 (toNat (x2.1:Int)) 5&&(k.5 (toNat (x2.1:Int)) 6==k.5 (toNat (x2.1:Int)) 6&&(k.5 (toNat (x2.1:Int)) 7==k.5 (toNat (x2.1:Int)) 7&&true))&&(k.5 (toNat (x2.1:Int)) 8==k.5 (toNat (x2.1:Int)) 8&&(k.5 (toNat (x2.1:Int)) 9==k.5 (toNat (x2.1:Int)) 9&&(k.5 (toNat (x2.1:Int)) 10==k.5 (toNat (x2.1:Int)) 10&&true)))))))))) (.out (.bool false) [] (.bool true) []) (.again (bh 0 y1 y3 x2) [2,3,13,14,5] [0,1] [.own 0 50 0 0 50,.own 1 50 0 0 50,.own 1 50 0 0 1,Zi k.1,Zi (wrap .i64 ((x2.1:Int)+1))] (y0))))) (.loop ({ x:Nat // x≤aS.ns k }) (fun x=>aY [2,3,5,13,14,6] [.own 0 50 0 0 50,.own 1 50 0 0 50,Zi x2.1,.own 1 50 0 0 1,Zi k.1,Zi x.1] y0) y4 (⟨0,Nat.zero_le (aS.ns k)⟩) [2,3,5,13,14,6] [0,1] [.own 0 50 0 0 50,.own 1 50 0 0 50,Zi x2.1,.own 1 50 0 0 1,Zi k.1,Zi 0] (y0) (fun x9=>(.br (decide ((x9.1:Int)<(k.6:Int))) (.bj (0≤(x9.1:Int)∧(x9.1:Int)<(k.6:Int)) (.bj (0≤(x9.1:Int)∧(x9.1:Int)<(k.6:Int)) (.br (k.7 (toNat (x9.1:Int)) != k.7 (toNat (x9.1:Int))) (.out (.bool false) [] (.bool true) []) (.again (bh 0 (fun x=>aY [2,3,5,13,14,6] [.own 0 50 0 0 50,.own 1 50 0 0 50,Zi x2.1,.own 1 50 0 0 1,Zi k.1,Zi x.1] y0) y4 x9) [2,3,5,13,14,6] [0,1] [.own 0 50 0 0 50,.own 1 50 0 0 50,Zi x2.1,.own 1 50 0 0 1,Zi k.1,Zi (wrap .i64 ((x9.1:Int)+1))] (y0))))) (.loop ({ x:Nat // x≤aS.nc k }) (fun x=>aY [2,3,5,6,13,14,7] [.own 0 50 0 0 50,.own 1 50 0 0 50,Zi x2.1,Zi x9.1,.own 1 50 0 0 1,Zi k.1,Zi x.1] y0) y5 (⟨0,Nat.zero_le (aS.nc k)⟩) [2,3,5,6,13,14,7] [0,1] [.own 0 50 0 0 50,.own 1 50 0 0 50,Zi x2.1,Zi x9.1,.own 1 50 0 0 1,Zi k.1,Zi 0] (y0) (fun x16=>(.br (decide ((x16.1:Int)<(k.8:Int))) (.bj (0≤(x16.1:Int)∧(x16.1:Int)<(k.8:Int)) (.bj (0≤(x16.1:Int)∧(x16.1:Int)<(k.8:Int)) (.sc true 27 [.agg [Zi (aS.C k (toNat (↑(x16.1):Int))).1,.aH 1 (cU.pf (aS.C k (toNat (↑(x16.1):Int)))).1 fun i x=>Zi ((cU.pf (aS.C k (toNat (↑(x16.1):Int)))).2 i),Zi (cU.pf (aS.C k (toNat (↑(x16.1):Int)))).3,.aH 1 (cU.pf (aS.C k (toNat (↑(x16.1):Int)))).4 fun i x=>Zi ((cU.pf (aS.C k (toNat (↑(x16.1):Int)))).5 i)],.agg [Zi (aS.C k (toNat (↑(x16.1):Int))).1,.aH 1 (cU.pf (aS.C k (toNat (↑(x16.1):Int)))).1 fun i x=>Zi ((cU.pf (aS.C k (toNat (↑(x16.1):Int)))).2 i),Zi (cU.pf (aS.C k (toNat (↑(x16.1):Int)))).3,.aH 1 (cU.pf (aS.C k (toNat (↑(x16.1):Int)))).4 fun i x=>Zi ((cU.pf (aS.C k (toNat (↑(x16.1):Int)))).5 i)]] (.bool true) (.br ((aS.C k (toNat (↑(x16.1):Int))).3 != (aS.C k (toNat (↑(x16.1):Int))).3 || !(aS.C k (toNat (↑(x16.1):Int))).4==(aS.C k (toNat (↑(x16.1):Int))).4||(aS.C k (toNat (↑(x16.1):Int))).5 != (aS.C k (toNat (↑(x16.1):Int))).5) (.out (.bool false) [] (.bool true) []) (.again (bh 0 (fun x=>aY [2,3,5,6,13,14,7] [.own 0 50 0 0 50,.own 1 50 0 0 50,Zi x2.1,Zi x9.1,.own 1 50 0 0 1,Zi k.1,Zi x.1] y0) y5 x16) [2,3,5,6,13,14,7] [0,1] [.own 0 50 0 0 50,.own 1 50 0 0 50,Zi x2.1,Zi x9.1,.own 1 50 0 0 1,Zi k.1,Zi (wrap .i64 ((x16.1:Int)+1))] (y0)))))) (.loop ({ x:Nat // x≤aS.ni k }) (fun x=>aY [2,3,5,14,10] [.own 0 50 0 0 50,.own 1 50 0 0 50,Zi x2.1,Zi k.1,Zi x.1] y0) y6 (⟨0,Nat.zero_le (aS.ni k)⟩) [2,3,5,14,10] [0,1] [.own 0 50 0 0 50,.own 1 50 0 0 50,Zi x2.1,Zi k.1,Zi 0] (y0) (fun x24=>(.br (decide ((x24.1:Int)<(k.16:Int))) (.bj (0≤(x24.1:Int)∧(x24.1:Int)<(k.16:Int)) (.bj (0≤(x24.1:Int)∧(x24.1:Int)<(k.16:Int)) (.br (!(k.17 (toNat (x24.1:Int)) 0==k.17 (toNat (x24.1:Int)) 0&&(k.17 (toNat (x24.1:Int)) 1==k.17 (toNat (x24.1:Int)) 1&&(k.17 (toNat (x24.1:Int)) 2==k.17 (toNat (x24.1:Int)) 2&&(k.17 (toNat (x24.1:Int)) 3==k.17 (toNat (x24.1:Int)) 3&&(k.17 (toNat (x24.1:Int)) 4==k.17 (toNat (x24.1:Int)) 4&&(k.17 (toNat (x24.1:Int)) 5==k.17 (toNat (x24.1:Int)) 5&&(k.17 (toNat (x24.1:Int)) 6==k.17 (toNat (x24.1:Int)) 6&&(k.17 (toNat (x24.1:Int)) 7==k.17 (toNat (x24.1:Int)) 7&&(k.17 (toNat (x24.1:Int)) 8==k.17 (toNat (x24.1:Int)) 8&&(k.17 (toNat (x24.1:Int)) 9==k.17 (toNat (x24.1:Int)) 9&&(k.17 (toNat (x24.1:Int)) 10==k.17 (toNat (x24.1:Int)) 10&&true))&&(k.17 (toNat (x24.1:Int)) 11==k.17 (toNat (x24.1:Int)) 11&&(k.17 (toNat (x24.1:Int)) 12==k.17 (toNat (x24.1:Int)) 12&&(k.17 (toNat (x24.1:Int)) 13==k.17 (toNat (x24.1:Int)) 13&&true))))))))&&(k.17 (toNat (x24.1:Int)) 14==k.17 (toNat (x24.1:Int)) 14&&(k.17 (toNat (x24.1:Int)) 15==k.17 (toNat (x24.1:Int)) 15&&(k.17 (toNat (x24.1:Int)) 16==k.17 (toNat (x24.1:Int)) 16&&(k.17 (toNat (x24.1:Int)) 17==k.17 (toNat (x24.1:Int)) 17&&(k.17 (toNat (x24.1:Int)) 18==k.17 (toNat (x24.1:Int)) 18&&(k.17 (toNat (x24.1:Int)) 19==k.17 (toNat (x24.1:Int)) 19&&(k.17 (toNat (x24.1:Int)) 20==k.17 (toNat (x24.1:Int)) 20&&true)))))&&true))))))) (.out (.bool false) [] (.bool true) []) (.again (bh 0 (fun x=>aY [2,3,5,14,10] [.own 0 50 0 0 50,.own 1 50 0 0 50,Zi x2.1,Zi k.1,Zi x.1] y0) y6 x24) [2,3,5,14,10] [0,1] [.own 0 50 0 0 50,.own 1 50 0 0 50,Zi x2.1,Zi k.1,Zi (wrap .i64 ((x24.1:Int)+1))] (y0))))) (.sc true 28 [.agg y2,.agg y2] (.bool true) (.sc true 29 [.aH 83 k.14 fun i j=>aQ (db.cells (aS.U k i)) j,.aH 83 k.14 fun i j=>aQ (db.cells (aS.U k i)) j] (.bool true) (.sc true 30 [.aH 161 k.18 fun i j=>aQ (cH.cells (aS.G k i)) j,.aH 161 k.18 fun i j=>aQ (cH.cells (aS.G k i)) j] (.bool true) (.out (.bool true) [] (.bool true) []))))))))))))))))))
  (by kernel_rfl) ?_
 refine aL (fun h0=>?_) (fun h0=>?_)
 ·have g0:=(aA (aA (aA (aA (aA (aA (aA (aA aU (aC (ao (ao aj (ao aj (ao aj aF))) (ao aj (ao aj (ao aj aF)))))) aU) (aC (ao (ao aj (ao aj (ao aj (ao aj (ao aj (ao aj (ao aj (ao aj (ao aj (ao aj (ao aj (ao aj (ao aj (ao aj (ao aj (ao aj (ao aj (ao aj (ao aj (ao aj (ao aj (ao aj (ao aj (ao aj (ao aj (ao aj (ao aj (ao aj (ao aj (ao aj (ao aj (ao aj aF)))))))))))))))))))))))))))))))) (ao aj aF)))) aU) aU) aU) aU) aU) h0
  exact aq (ay.of_eq (by simp_all))
 ·have g0:=(aw (aw (aw (aw (aw (aw (aw (aw aR (az (ah (ah ai (ah ai (ah ai aB))) (ah ai (ah ai (ah ai aB)))))) aR) (az (ah (ah ai (ah ai (ah ai (ah ai (ah ai (ah ai (ah ai (ah ai (ah ai (ah ai (ah ai (ah ai (ah ai (ah ai (ah ai (ah ai (ah ai (ah ai (ah ai (ah ai (ah ai (ah ai (ah ai (ah ai (ah ai (ah ai (ah ai (ah ai (ah ai (ah ai (ah ai (ah ai aB)))))))))))))))))))))))))))))))) (ah ai aB)))) aR) aR) aR) aR) aR) h0
  refine aV (fun _ hs=>hs.le (⟨.refl _,.refl _,.refl _,.refl _,.refl _,trivial⟩) (⟨.refl _,.refl _,trivial⟩)) (fun x2=>?_)
  try (have q2:=x2.2;dsimp only at q2)
  refine aL (fun h3=>?_) (fun h3=>?_)
  ·have g3:=af h3
   refine aD (by omega) ?_
   refine aD (by omega) ?_
   refine aL (fun h6=>?_) (fun h6=>?_)
   ·have g6:=(aC (ao aj (ao aj (ao aj (ao aj (ao aj (ao (ao aj (ao aj (ao aj aF))) (ao aj (ao aj (ao aj aF)))))))))) h6
    try simp only [Int.toNat_natCast] at g6
    exact aq (ay.of_eq (by simp_all))
   ·have g6:=(az (ah ai (ah ai (ah ai (ah ai (ah ai (ah (ah ai (ah ai (ah ai aB))) (ah ai (ah ai (ah ai aB)))))))))) h6
    try simp only [Int.toNat_natCast] at g6
    exact aN (⟨x2.1+1,by omega⟩) (fun _ hs=>hs.le (⟨.refl _,.refl _,.refl _,.refl _,aK (by omega),trivial⟩) (⟨.refl _,.refl _,trivial⟩)) (by dsimp only;omega)
  ·have g3:=aa h3
   refine aV (fun _ hs=>hs.le (⟨.refl _,.refl _,.refl _,.refl _,.refl _,.refl _,trivial⟩) (⟨.refl _,.refl _,trivial⟩)) (fun x9=>?_)
   try (have q9:=x9.2;dsimp only at q9)
   refine aL (fun h10=>?_) (fun h10=>?_)
   ·have g10:=af h10
    refine aD (by omega) ?_
    refine aD (by omega) ?_
    refine aL (fun h13=>?_) (fun h13=>?_)
    ·have g13:=aU h13
     try simp only [Int.toNat_natCast] at g13
     exact aq (ay.of_eq (by simp_all))
    ·have g13:=aR h13
     try simp only [Int.toNat_natCast] at g13
     exact aN (⟨x9.1+1,by omega⟩) (fun _ hs=>hs.le (⟨.refl _,.refl _,.refl _,.refl _,.refl _,aK (by omega),trivial⟩) (⟨.refl _,.refl _,trivial⟩)) (by dsimp only;omega)
   ·have g10:=aa h10
    refine aV (fun _ hs=>hs.le (⟨.refl _,.refl _,.refl _,.refl _,.refl _,.refl _,.refl _,trivial⟩) (⟨.refl _,.refl _,trivial⟩)) (fun x16=>?_)
    try (have q16:=x16.2;dsimp only at q16)
    refine aL (fun h17=>?_) (fun h17=>?_)
    ·have g17:=af h17
     refine aD (by omega) ?_
     refine aD (by omega) ?_
     refine aM (c1 (toNat (↑(x16.1):Int)) (by omega)) ?_
     refine aL (fun h21=>?_) (fun h21=>?_)
     ·have g21:=(aA (aA aU (aC aF)) aU) h21
      try simp only [Int.toNat_natCast] at g21
      exact aq (ay.of_eq (by simp_all))
     ·have g21:=(aw (aw aR (az aB)) aR) h21
      try simp only [Int.toNat_natCast] at g21
      exact aN (⟨x16.1+1,by omega⟩) (fun _ hs=>hs.le (⟨.refl _,.refl _,.refl _,.refl _,.refl _,.refl _,aK (by omega),trivial⟩) (⟨.refl _,.refl _,trivial⟩)) (by dsimp only;omega)
    ·have g17:=aa h17
     refine aV (fun _ hs=>hs.le (⟨.refl _,.refl _,.refl _,.refl _,.refl _,trivial⟩) (⟨.refl _,.refl _,trivial⟩)) (fun x24=>?_)
     try (have q24:=x24.2;dsimp only at q24)
     refine aL (fun h25=>?_) (fun h25=>?_)
     ·have g25:=af h25
      refine aD (by omega) ?_
      refine aD (by omega) ?_
      refine aL (fun h28=>?_) (fun h28=>?_)
      ·have g28:=(aC (ao aj (ao aj (ao aj (ao (ao aj (ao aj (ao aj (ao aj (ao aj (ao (ao aj (ao aj (ao aj aF))) (ao aj (ao aj (ao aj aF))))))))) (ao aj (ao (ao aj (ao aj (ao aj (ao aj (ao aj (ao aj aF)))))) aF))))))) h28
       try simp only [Int.toNat_natCast] at g28
       exact aq (ay.of_eq (by simp_all))
      ·have g28:=(az (ah ai (ah ai (ah ai (ah (ah ai (ah ai (ah ai (ah ai (ah ai (ah (ah ai (ah ai (ah ai aB))) (ah ai (ah ai (ah ai aB))))))))) (ah ai (ah (ah ai (ah ai (ah ai (ah ai (ah ai (ah ai aB)))))) aB))))))) h28
       try simp only [Int.toNat_natCast] at g28
       exact aN (⟨x24.1+1,by omega⟩) (fun _ hs=>hs.le (⟨.refl _,.refl _,.refl _,.refl _,aK (by omega),trivial⟩) (⟨.refl _,.refl _,trivial⟩)) (by dsimp only;omega)
     ·have g25:=aa h25
      refine aM (c2) ?_
      refine aM (c3) ?_
      refine aM (c4) ?_
      exact aq (ay.of_eq rfl)
end Go.Proofs.YtpefjkpdniiaoaaGreatDoor

namespace Go.Sp
open Go.IntKind (wrap)
open Int (toNat)
open Go Go.Am
def eB:aI:=⟨⟨2027,1013,4⟩,16,64,256⟩
theorem HT:aT eB=true:=by decide +kernel
theorem MD:eB.gr.W:=⟨by decide,by decide⟩
def eK (sd:Nat→Int):aS:=nwB eB 3 7 sd
theorem lt0:0<9223372036854775808:=by decide
theorem CG (sd:Nat→Int):jz (eK sd):=⟨MD,lt0,lt0,lt0,by show 5<_;decide,lt0,lt0,lt0,lt0,⟨fun i h=>absurd h (Nat.not_lt_zero i),fun i h=>absurd h (Nat.not_lt_zero i)⟩,fun i h=>absurd h (Nat.not_lt_zero i)⟩
theorem Bg (sd:Nat→Int):dK (eK sd)=true:=eW.2 ⟨oM.2 ⟨by show (0:Int)≤3;decide,by show (3:Int)≤7;decide,HT,by show (0:Int)≤0;decide,by show (0:Int)≤_;decide,by show er eB 7=true;decide,by show (0:Int)≤0;decide,by show (0:Int)≤_;decide⟩,rfl,rfl,by show fH 5 z0 0 (fun _=>z0)=true;decide,rfl,rfl,rfl,by show 0≤200;decide,fun i h=>absurd h (Nat.not_lt_zero i)⟩
theorem JU:jz CQ:=⟨⟨by decide,by decide⟩,by decide,by decide,by decide,by decide,by decide,by decide,by decide,by decide,⟨fun i h=>absurd h (Nat.not_lt_zero i),fun i h=>absurd h (Nat.not_lt_zero i)⟩,fun i h=>absurd h (Nat.not_lt_zero i)⟩
theorem JF:dK CQ=false:=eU fun e=>by
 have:=(oM.1 (eW.1 e).1).2.2.1
 revert this
 decide
theorem C8 (sd:Nat→Int):oD (eK sd) 0=2∧rV (eK sd) 0=0:=by
 have e:=C5 (Bg sd) (i:=0) (.inr (by show (0:Int)≥0;decide))
 exact ⟨e,wg e (by decide)⟩
theorem M0 (sd:Nat→Int):Df (eK sd) 5=.aX [.agg { eK sd with now:=5 }.cells,.int .i64 0] :=
 H2 (Mv (Bg sd) (by decide) (by show ¬(5:Int)<0;decide))
theorem IW (sf:Nat→Int):w5 eB 3 7 1 sf=.aX [.agg (eK (hM 1 sf)).cells,.int .i64 0] :=
 HF (Hz HT (by decide) (by decide))
theorem M5:vP CQ:=⟨by decide,by decide,by decide,by decide,by decide,by decide,by decide,by decide,fun i h=>absurd h (Nat.not_lt_zero i),fun i h=>absurd h (Nat.not_lt_zero i),fun i h=>absurd h (Nat.not_lt_zero i)⟩
theorem OD {k:aS} {i:Nat} (h:vP k):vP (k.bk i):=⟨h.nr,h.ns,h.nc,h.nb,h.ne,h.nu,h.ni,h.ng,h.C,h.U,h.G⟩
theorem L5 {k:aS} {g:cH} (hk:jz k):vP (u6 k g):=by
 unfold u6
 by_cases h:lK k g=0
 ·rw [if_pos h]
  have hb:dK k=true:=by
   cases e:dK k with
   | true=>rfl
   | false=>rw [Cq e] at h;cases h
  exact OD (rO hk hb)
 ·rw [if_neg h];exact M5
def ur (n:Nat):List CT:=List.replicate n (.int .u8)
def gu:List CT:=[.int .i64,.int .i64,.int .i64,.int .i64,.int .i64]++ur 32++[.int .i64,.int .i64,.int .i64,.int .i64,.int .i64,.int .i64]++ur 32++[.int .i64,.int .i64,.sl [.int .i64,.int .i64,.int .i64],.int .i64,.sl (ur 32)]
def lh (g : Nat → AV) : au :=
  { jl := aE (g 0), fK := aE (g 1), gx := aE (g 2), depth := aE (g 3), a := aE (g 4), root := fun j => aE (g (5 + j)),
    z := aE (g 37), sa := aE (g 38), sb := aE (g 39), r := aE (g 40), level := aE (g 41), index := aE (g 42), bM := fun j => aE (g (43 + j)),
    time := aE (g 75), number := aE (g 76), nl := iP (g 77), lf := fun i j => aE (l3 (g 77) i j), kg := aE (g 78), np := iP (g 79), pf := fun i j => aE (l3 (g 79) i j) }
def mE (n:Nat):List CT:=List.replicate n (.int .i64)
def MP (g:Nat→AV):aI:=⟨⟨aE (g 0),aE (g 1),aE (g 2)⟩,aE (g 3),aE (g 4),aE (g 5)⟩
theorem pX {a:AV} (h:cB (.int .i64) a) : -9223372036854775808≤aE a∧aE a≤9223372036854775807:=by
 obtain ⟨h1,h2⟩:=(Lit.wf_int_iff _ _).1 h.yU
 exact ⟨Int.le_trans (by decide) h1,Int.le_trans h2 (by decide)⟩
theorem yW {a:AV} (h:cB (.int .u8) a):0≤aE a∧aE a<256:=by
 obtain ⟨h1,h2⟩:=(Lit.wf_int_iff _ _).1 h.yU
 exact ⟨Int.le_trans (by decide) h1,Int.lt_of_le_of_lt h2 (by decide)⟩
theorem HK {ts:List CT} {g:Nat→AV} {k n:Nat} (h:∀ (j:Nat) c,ts[j]? = some c→cB c (g j)) (ht:∀ j,j<n→ts[k+j]? = some (.int .u8)):cS (fun j=>aE (g (k+j))) n:=fun i hi=>yW (h (k+i) _ (ht i hi))
def spA:List CT:=[.int .i64,.int .i64,.int .i64,.int .i64,.int .i64]
def spB:List CT:=[.int .i64,.int .i64,.int .i64,.int .i64,.int .i64,.int .i64]
def spC:List CT:=[.int .i64,.int .i64,.sl [.int .i64,.int .i64,.int .i64],.int .i64,.sl (ur 32)]
theorem uU:∀ j,j<32→gu[5+j]? = some (.int .u8):=fun j hj=>by
 show (((spA++ur 32)++spB)++ur 32++spC)[5+j]? = _
 rw [List.append_assoc,List.append_assoc,List.getElem?_append_left (by grind [spA,ur,List.length_append,List.length_replicate,List.length_cons,List.length_nil]),
  List.getElem?_append_right (by show 5≤_;omega)]
 unfold ur
 rw [List.getElem?_replicate,if_pos (by show 5+j - 5<32;omega)]
theorem sX:∀ j,j<32→gu[43+j]? = some (.int .u8):=fun j hj=>by
 show (((spA++ur 32)++spB)++ur 32++spC)[43+j]? = _
 have e:((spA++ur 32)++spB).length=43:=by rfl
 rw [List.append_assoc,List.getElem?_append_right (by omega),e,List.getElem?_append_left (by grind [ur,List.length_replicate])]
 unfold ur
 grind
theorem ug {g:Nat→AV} (h:∀ (j:Nat) c,gu[j]? = some c→cB c (g j)):(lh g).By:=⟨HK (k:=5) h uU,HK (k:=43) h sX⟩
theorem NI {k:Nat} (h:k<32):(ur 32)[k]? = some (.int .u8):=by
 unfold ur
 rw [List.getElem?_replicate,if_pos h]
theorem vh {g:Nat→AV} (h:∀ (j:Nat) c,gu[j]? = some c→cB c (g j)):∀ k,k<(lh g).np→cS ((lh g).pf k) 32 :=
 fun j hj k hk=>yW ((h 79 (.sl (ur 32)) rfl).pC.2 j k (.int .u8) hj (NI hk))
def vM:List CT:=gu++(gu++mE 1)
theorem Bb {g:Nat→AV} (h:∀ (j:Nat) c,vM[j]? = some c→cB c (g j)):∀ (j:Nat) c,gu[j]? = some c→cB c (g j):=fun j c hj=>h j c (by
 show (gu++(gu++mE 1))[j]? = _
 rw [List.getElem?_append_left (List.getElem?_eq_some_iff.1 hj).1]
 exact hj)
theorem BP {g:Nat→AV} (h:∀ (j:Nat) c,vM[j]? = some c→cB c (g j)):∀ (j:Nat) c,gu[j]? = some c→cB c (g (80+j)):=fun j c hj=>h (80+j) c (by
 show (gu++(gu++mE 1))[80+j]? = _
 have e:gu.length=80:=by decide
 rw [List.getElem?_append_right (by omega),e,Nat.add_sub_cancel_left,List.getElem?_append_left (List.getElem?_eq_some_iff.1 hj).1]
 exact hj)
def OK:List CT:=[.int .i64,.sl (mE 1),.int .i64,.sl (mE 1),.int .i64,.bool,.int .i64]
def OG:List CT:=mE 2++(gu++mE 1)
def uS:List CT:=.int .i64::(mE 6++([.int .i64,.sl (mE 11),.sl (mE 1),.sl OK,.sl (mE 1),.sl (mE 4),.sl OG,.sl (mE 21),.sl vM]++(ur 32++mE 2)))
def Ow (a c z:AV):Pf:=⟨iP a,fun i=>aE (l3 a i 0),aE c,iP z,fun i=>aE (l3 z i 0)⟩
def N9 (g:Nat→AV):cU:=⟨aE (g 0),Ow (g 1) (g 2) (g 3),aE (g 4),vk (g 5),aE (g 6)⟩
def Mx (g:Nat→AV):db:=⟨aE (g 0),aE (g 1),lh fun j=>g (2+j),aE (g 82)⟩
def yu (g:Nat→AV):cH:=⟨lh g,lh fun j=>g (80+j),aE (g 160)⟩
def Ei (g:Nat→AV):aS:=⟨aE (g 0),MP fun j=>g (1+j),aE (g 7),iP (g 8),fun i j=>aE (l3 (g 8) i j),iP (g 9),fun i=>aE (l3 (g 9) i 0),iP (g 10),fun i=>N9 (l3 (g 10) i),iP (g 11),fun i=>aE (l3 (g 11) i 0),
 iP (g 12),fun i j=>aE (l3 (g 12) i j),iP (g 13),fun i=>Mx (l3 (g 13) i),iP (g 14),fun i j=>aE (l3 (g 14) i j),iP (g 15),fun i=>yu (l3 (g 15) i),fun j=>aE (g (16+j)),aE (g 48),aE (g 49)⟩
set_option maxRecDepth 100000
theorem zl (g:Nat→AV):cZ vM g 0=(yu g).cells:=by kernel_rfl
theorem wy (g:Nat→AV):cZ uS g 0=(Ei g).cells:=by kernel_rfl
structure uG (g : cH) : Prop where
  sb : g.s.By
  tb : g.t.By
  sf : ∀ q, q < g.s.np → cS (g.s.pf q) 32
  tf : ∀ q, q < g.t.np → cS (g.t.pf q) 32
  lf : g.leaf ≤ 9223372036854775807
theorem uG.ok {g:cH} (h:uG g) (h1:ew g.s=true) (h2:ew g.t=true):vE g:=by
 simp only [ew,Bool.and_eq_true,decide_eq_true_eq] at h1 h2
 exact ⟨by omega,by omega,h.sb,h.tb,by omega,by omega,h.sf,h.tf,h.lf⟩
structure xK (k : aS) : Prop where
  w : k.bT.gr.W
  nr : k.nr < 9223372036854775808
  ns : k.ns < 9223372036854775808
  nc : k.nc < 9223372036854775808
  nb : k.nb < 9223372036854775808
  ne : k.ne < 9223372036854775808
  nu : k.nu < 9223372036854775808
  ni : k.ni < 9223372036854775808
  ng : k.ng < 9223372036854775808
  U : yP k.nu k.U
  G : ∀ i, i < k.ng → uG (k.G i)
theorem xK.ok {k:aS} (h:xK k) (hf:wi k=true):jz k:=by
 simp only [wi,Bool.and_eq_true,Bool.not_eq_true'] at hf
 refine ⟨h.w,h.nr,h.ns,h.nc,h.nb,h.ne,h.nu,h.ni,h.ng,h.U,fun i hi=>?_⟩
 have:=CR hf.1.2 i hi
 simp only [Bool.not_eq_false',Bool.and_eq_true] at this
 exact (h.G i hi).ok this.1 this.2
theorem lN {cs:List CT} {a:AV} (h:cB (.sl cs) a):iP a<9223372036854775808:=Nat.lt_of_le_of_lt h.pC.1 (by decide)
theorem Dt {g:Nat→AV} (h:∀ (j:Nat) c,vM[j]? = some c→cB c (g j)):uG (yu g) :=
 ⟨ug (Bb h),ug (BP h),vh (Bb h),vh (BP h),(pX (h 160 _ rfl)).2⟩
theorem GP {g:Nat→AV} (h:∀ (j:Nat) c,uS[j]? = some c→cB c (g j)):xK (Ei g) :=
 ⟨⟨(pX (h 1 _ rfl)).2,(pX (h 2 _ rfl)).2⟩,lN (h 8 _ rfl),lN (h 9 _ rfl),lN (h 10 _ rfl),lN (h 11 _ rfl),lN (h 12 _ rfl),lN (h 13 _ rfl),lN (h 14 _ rfl),lN (h 15 _ rfl),
  ⟨fun i hi=>lN ((h 13 _ rfl).pC.2 i 79 _ hi rfl),fun i hi=>lN ((h 13 _ rfl).pC.2 i 81 _ hi rfl)⟩,fun i hi=>Dt fun j c hj=>(h 15 _ rfl).pC.2 i j c hi hj⟩
end Go.Sp

namespace Go.Proofs.YtpefjkpdniiaoaaGreatDoor
open Go.IntKind (wrap)
open Int (toNat)
open Go Go.Am Go.Sp
set_option maxRecDepth 100000
theorem zM (c1:∀ sf,cS sf 1→Pure Tryz.prog aZ 9 [eB.av,.int .i64 3,.int .i64 7,dC 1 sf] (.aX [.agg (eK (hM 1 sf)).cells,.int .i64 0]))
  (c2:∀ sd,Pure Tryz.prog aZ 10 [.agg (eK sd).cells] (.bool true)) (c3:Pure Tryz.prog aZ 10 [zbA] (.bool false))
  (c4:∀ sd,Pure Tryz.prog aZ 11 [.agg (eK sd).cells,.int .i64 0] (.aX [.int .i64 0,.int .i64 2]))
  (c5:∀ sd,Pure Tryz.prog aZ 12 [.agg (eK sd).cells,.int .i64 5] (.aX [.agg { eK sd with now:=5 }.cells,.int .i64 0])):Pure Tryz.prog aZ 4 [] (.bool true):=by
 refine ar (own:=bq) Tryz.func4 (by kernel_rfl) mixed (by kernel_rfl)
  (.bj (0≤(0:Int)) (.dc true 9 [.agg [Zi 2027,Zi 1013,Zi 4,Zi 16,Zi 64,Zi 256],Zi 3,Zi 7,.aH 1 1 fun r x=>Zb (aE (aQ (List.getD [[Zb 120]] (0+r) []) 0))] (.aX [.agg (aS.cells (eK (hM 1 fun i=>aE (aQ (List.getD [[Zb 120]] (0+i) []) 0)))),Zi 0]) (.sc true 10 [.agg (Zi 3::Zi 2027::Zi 1013::Zi 4::Zi 16::Zi 64::Zi 256::Zi 7::(.aH 11 0 fun i j=>Zi (z0 j))::(.aH 1 0 fun i x=>Zi (z0 i))::(.aH 7 0 fun i j=>aQ (cU.cells (aS.C (eK (hM 1 fun i=>aE (aQ (List.getD [[Zb 120]] (0+i) []) 0))) i)) j)::(.aH 1 5 fun i x=>Zi (z0 i))::(.aH 4 0 fun i j=>Zi (z0 j))::(.aH 83 0 fun i j=>aQ (db.cells (aS.U (eK (hM 1 fun i=>aE (aQ (List.getD [[Zb 120]] (0+i) []) 0))) i)) j)::(.aH 21 0 fun i j=>Zi (z0 j))::(.aH 161 0 fun i j=>aQ (cH.cells (aS.G (eK (hM 1 fun i=>aE (aQ (List.getD [[Zb 120]] (0+i) []) 0))) i)) j)::(bf (hM 1 fun i=>aE (aQ (List.getD [[Zb 120]] (0+i) []) 0))++[Zi 0,Zi 0]))] (.bool true) (.sc true 10 [.agg [Zi 0,Zi 0,Zi 0,Zi 0,Zi 0,Zi 0,Zi 0,Zi 0,.bn,.bn,.bn,.bn,.bn,.bn,.bn,.bn,Zb 0,Zb 0,Zb 0,Zb 0,Zb 0,Zb 0,Zb 0,Zb 0,Zb 0,Zb 0,Zb 0,Zb 0,Zb 0,Zb 0,Zb 0,Zb 0,Zb 0,Zb 0,Zb 0,Zb 0,Zb 0,Zb 0,Zb 0,Zb 0,Zb 0,Zb 0,Zb 0,Zb 0,Zb 0,Zb 0,Zb 0,Zb 0,Zi 0,Zi 0]] (.bool false) (.ff (.sc true 11 [.agg (Zi 3::Zi 2027::Zi 1013::Zi 4::Zi 16::Zi 64::Zi 256::Zi 7::(.aH 11 0 fun i j=>Zi (z0 j))::(.aH 1 0 fun i x=>Zi (z0 i))::(.aH 7 0 fun i j=>aQ (cU.cells (aS.C (eK (hM 1 fun i=>aE (aQ (List.getD [[Zb 120]] (0+i) []) 0))) i)) j)::(.aH 1 5 fun i x=>Zi (z0 i))::(.aH 4 0 fun i j=>Zi (z0 j))::(.aH 83 0 fun i j=>aQ (db.cells (aS.U (eK (hM 1 fun i=>aE (aQ (List.getD [[Zb 120]] (0+i) []) 0))) i)) j)::(.aH 21 0 fun i j=>Zi (z0 j))::(.aH 161 0 fun i j=>aQ (cH.cells (aS.G (eK (hM 1 fun i=>aE (aQ (List.getD [[Zb 120]] (0+i) []) 0))) i)) j)::(bf (hM 1 fun i=>aE (aQ (List.getD [[Zb 120]] (0+i) []) 0))++[Zi 0,Zi 0])),Zi 0] (.aX [Zi 0,Zi 2]) (.dc true 12 [.agg (Zi 3::Zi 2027::Zi 1013::Zi 4::Zi 16::Zi 64::Zi 256::Zi 7::(.aH 11 0 fun i j=>Zi (z0 j))::(.aH 1 0 fun i x=>Zi (z0 i))::(.aH 7 0 fun i j=>aQ (cU.cells (aS.C (eK (hM 1 fun i=>aE (aQ (List.getD [[Zb 120]] (0+i) []) 0))) i)) j)::(.aH 1 5 fun i x=>Zi (z0 i))::(.aH 4 0 fun i j=>Zi (z0 j))::(.aH 83 0 fun i j=>aQ (db.cells (aS.U (eK (hM 1 fun i=>aE (aQ (List.getD [[Zb 120]] (0+i) []) 0))) i)) j)::(.aH 21 0 fun i j=>Zi (z0 j))::(.aH 161 0 fun i j=>aQ (cH.cells (aS.G (eK (hM 1 fun i=>aE (aQ (List.getD [[Zb 120]] (0+i) []) 0))) i)) j)::(bf (hM 1 fun i=>aE (aQ (List.getD [[Zb 120]] (0+i) []) 0))++[Zi 0,Zi 0])),Zi 5] (.aX   [.agg       (aS.cells         (let __src:=eK (hM 1 fun i=>aE (aQ (List.getD [[Zb 120]] (0+i) []) 0));         { num:=aS.num __src,bT:=aS.bT __src,sec:=aS.sec __src,nr:=aS.nr __src,R:=aS.R __src,ns:=aS.ns __src,X:=aS.X __src,nc:=aS.nc __src,C:=aS.C __src,nb:=aS.nb __src,B:=aS.B __src,ne:=aS.ne __src,E:=aS.E __src,nu:=aS.nu __src,U:=aS.U __src,ni:=aS.ni __src,I:=aS.I __src,ng:=aS.ng __src,G:=aS.G __src,sC:=aS.sC __src,bK:=aS.bK __src,now:=(5:Int) })),     Zi 0]) (.out (.bool true) [] (.bool true) []))))))))
  (by kernel_rfl) ?_
 refine aD (by omega) ?_
 refine b9 (c1 (fun (i:Nat)=>aE (aQ (List.getD [[Zb 120]] (0+i) []) (0))) (fun i hi=>by obtain rfl:i=0:=Nat.lt_one_iff.1 hi;decide)) ?_
 refine aM (c2 (hM (1:Nat) fun (i:Nat)=>aE (aQ (List.getD [[Zb 120]] (0+i) []) (0)))) ?_
 refine aM (c3) ?_
 refine cz ?_
 refine aM (c4 (hM (1:Nat) fun (i:Nat)=>aE (aQ (List.getD [[Zb 120]] (0+i) []) (0)))) ?_
 refine b9 (c5 (hM (1:Nat) fun (i:Nat)=>aE (aQ (List.getD [[Zb 120]] (0+i) []) (0)))) ?_
 exact aq (ay.of_eq rfl)
theorem zp:Pure Tryz.prog aZ 4 [] (.bool true):=by
 refine zM (fun sf hf=>(Lh eB 3 7 1 sf MD hf).tM (ay.of_eq (IW sf))) (fun sd=>?_) ?_ (fun sd=>?_) (fun sd=>(M4 (eK sd) (CG sd) 5).tM (ay.of_eq (M0 sd)))
 ·have:=p8 (eK sd) (CG sd)
  rwa [Bg] at this
 ·have:=p8 CQ JU
  rw [JF] at this
  exact this.via ⟨rU,trivial⟩
 ·have:=Lu (eK sd) (CG sd) 0
  rwa [(C8 sd).1,(C8 sd).2] at this
theorem sL (k:aS) (g:cH) (hI:xK k) (hG:uG g):Pure Tryz.prog aZ 3 [.agg k.cells,.agg g.cells] (.bool true):=by
 have c1:=zp
 have c2:=Fg k hI.nu hI.ng hI.nc
 have K:=fun (q:(((wi k=true∧¬(g.s.nl:Int)>40)∧¬(g.t.nl:Int)>40)∧¬(g.s.np:Int)>30)∧¬(g.t.np:Int)>30)=>hG.ok (by simp only [ew,Bool.and_eq_true,decide_eq_true_eq];omega) (by simp only [ew,Bool.and_eq_true,decide_eq_true_eq];omega)
 have c3:=fun h hg=>Gz k (hI.ok h) g hg
 have c4:=fun h hg=>CV k (hI.ok h) g hg
 have c5:=fun h=>D8 (u6 k g) (L5 (hI.ok h))
 refine ar (own:=bq) Tryz.func3 (by kernel_rfl) mixed (by kernel_rfl)
  (.sc true 4 [] (.bool true) (.ff (.sc true 5 [.agg (aS.cells k)] (.bool (wi k)) (.br (!wi k||decide ((↑(cH.s g).16:Int)>(40:Int))||decide ((↑(cH.t g).16:Int)>(40:Int))||decide ((↑(cH.s g).19:Int)>(30:Int))||decide ((↑(cH.t g).19:Int)>(30:Int))) (.out (.bool true) [] (.bool true) []) (.dc true 6 [.agg (aS.cells k),.agg (cH.cells g)] (lg k g) (.dc true 7 [.agg (aS.cells k),.agg (cH.cells g)] (lg k g) (.sc true 8 [.agg (aS.cells (u6 k g)),.agg (aS.cells (u6 k g))] (.bool true) (.out (.bool (BV k g==BV k g&&lK k g==lK k g)) [] (.bool true) []))))))))
  (by kernel_rfl) ?_
 refine aM (c1) ?_
 refine cz ?_
 refine aM (c2) ?_
 refine aL (fun h3=>?_) (fun h3=>?_)
 ·have g3:=(aA (aA (aA (aA (aC aF) af) af) af) af) h3
  exact aq (ay.of_eq rfl)
 ·have g3:=(aw (aw (aw (aw (az aB) aa) aa) aa) aa) h3
  refine b9 (c3 (by exact g3.1.1.1.1) (by exact K g3)) ?_
  refine b9 (c4 (by exact g3.1.1.1.1) (by exact K g3)) ?_
  refine aM (c5 (by exact g3.1.1.1.1)) ?_
  exact aq (ay.of_eq (by simp_all))
theorem sO (a b:Nat→AV) (ha:∀ (j:Nat) c,uS[j]? = some c→cB c (a j)) (hb:∀ (j:Nat) c,vM[j]? = some c→cB c (b j)):Pure Tryz.prog aZ 3 [.agg (cZ uS a 0),.agg (cZ vM b 0)] (.bool true):=by
 rw [wy,zl]
 exact sL (Ei a) (yu b) (GP ha) (Dt hb)
end Go.Proofs.YtpefjkpdniiaoaaGreatDoor

namespace Go.Am
open Go.IntKind (wrap)
open Int (toNat)
open Go
theorem yx {P:Program} {w:World}:∀ {laid:List (String×DataW Unit)} {ps:List MemPlace},DataW.LaidVars P w laid ps→∀ {i:Nat} {n:String} {d:DataW Unit},laid[i]? = some (n,d) →
  ∃ g t cs fuel p,P.globalNamed n=some g∧(P.globals[g]?).map (·.type)=some t∧w.var? P n=some cs∧DataW.trod (fun _=>()) P w 0 (fun _=>true) false fuel t cs.toList=some (d,p)
 | [],_,_,i,n,d,h=>by grind
 | (n',d')::r,ps,⟨g,t,cs,fuel,p,q,h1,h2,h3,h4,_,_⟩,0,n,d,h=>by grind
 | (n',d')::r,ps,⟨g,t,cs,fuel,p,q,h1,h2,h3,h4,h5,_⟩,i+1,n,d,h=>yx h5 (by simpa using h)
def C2 (P:Program) (g n:Nat) (k:IntKind):Bool :=
 match (P.globals[g]?).map (·.type) with
 | some t =>
  match P.underlying t with
  | some (.array m e) =>
   match P.underlying e with
   | some (.int k')=>Nat.beq m n&&Nat.beq (P.cellsOf e) 1&&(decide (k'=k)&&Nat.beq (P.cellsOf t) n)
   | _=>false
  | _=>false
 | none=>false
theorem zv {P:Program} {g n:Nat} {k:IntKind} (h:C2 P g n k=true):∃ t e,(P.globals[g]?).map (·.type)=some t∧P.underlying t=some (.array n e)∧P.underlying e=some (.int k)∧P.cellsOf e=1∧P.cellsOf t=n:=by
 unfold C2 at h
 split at h
 ·rename_i t ht
  split at h
  ·rename_i m e hu
   split at h
   ·rename_i k' he
    simp only [Bool.and_eq_true,decide_eq_true_eq,Nat.beq_eq] at h
    grind
   grind
  grind
 grind
theorem ll {P:Program} {w:World} {β:bu} {laid:List (String×DataW Unit)} (h:laidMetH P laid w) (hp:(laid.all fun x=>x.2.handleName?.isNone)=true) (i:Nat) (name:String) {g n:Nat}
  {k:IntKind} {F:Nat→Int} (hl:laid[i]? = some (name,.agg ((List.range n).map fun j=>.lit (.int k (F j))))) (hg:P.globalNamed name=some g) (ho:C2 P g n k=true) (hn:0<n) (hb:β.free g):gn β w g n fun j=>.int k (F j):=by
 obtain ⟨t,e,ht,hu,he,hc,hct⟩:=zv ho
 rw [MakeChecks.laidMetH_plain _ _ _ hp] at h
 obtain ⟨ps,hv,_,_⟩:=h
 obtain ⟨g',t',cs,fuel,p,h1,h2,h3,h4⟩:=yx hv hl
 obtain rfl:=Option.some.inj (hg.symm.trans h1)
 obtain rfl:=Option.some.inj (ht.symm.trans h2)
 obtain ⟨xs,m,rfl,hx,hlen,hxl,hel⟩:=DataW.trod_array hu h4
 simp only [Prod.mk.injEq,DataW.agg.injEq] at hx
 obtain ⟨hx,_⟩:=hx
 have cell:∀ j,j<n→cs[j]? = some (.int k (F j)):=fun j hj=>by
  have hj':=hel j hj
  rw [hc,Nat.mul_one,List.getElem?_eq_getElem (by omega:j<xs.length)] at hj'
  obtain ⟨v,e1,e2,_⟩:=DataW.trod_int he hj'
  have e3:(xs.map (·.1))[j]? = some (.lit (.int k v)):=by grind
  rw [← hx] at e3
  simp only [List.getElem?_map,List.getElem?_range hj,Option.map_some,Option.some.injEq,DataW.lit.injEq,Lit.int.injEq,true_and] at e3
  subst e3
  have e4:(List.take 1 (List.drop j cs.toList))[0]? = some (.int k (F j)):=by grind
  grind
 have hsh:∃ el,w.shape? g=some (el,n):=by
  unfold World.var? at h3
  rw [hg] at h3
  have hsz:cs.size=n:=hlen.trans hct
  unfold World.shape?
  simp only [Option.bind_some] at h3
  split<;>simp_all
 refine ⟨?_,hsh⟩
 refine .bJ (fun j=>.int k (F j)) hn hb (fun j hj=>?_) (fun _ _=>rfl) (fun _ _=>.int) (fun _ _=>.int)
 grind [World.var?_cell]
end Go.Am
