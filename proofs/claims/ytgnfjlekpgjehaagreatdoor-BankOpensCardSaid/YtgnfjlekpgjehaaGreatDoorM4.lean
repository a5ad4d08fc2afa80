/- Part of the proof: CS10, CS11, Tag, CS12, CS13, CS14, CS15, Enc, CS16, EnOpen, EnRow, EnArg, Item, CS17, CS18, CS19, CS20, Led, CX1, Nod. -/
import Derived.Test.YtgnfjlekpgjehaaGreatDoorM3
import Derived.Test.YtgnfjlekpgjehaaGreatDoorProg
import Derived.Test.YtgnfjlekpgjehaaGreatDoorM2
import Derived.ProofKit
import Derived.Deep.Slices
namespace Go.Proofs.YtgnfjlekpgjehaaGreatDoor
open Go.IntKind (wrap)
open Int (toNat)
open Go Go.Am Go.Sp
set_option maxRecDepth 100000
def ow1:FuncId→Option (List Bool):=fun f=>bif Nat.beq f 116 then some [false] else none
theorem Ap:bC Tryz.prog aW 116 [] [.bc] .bc []:=by
 refine bO (own:=bk) (hand:=true) Tryz.func116 (by kernel_rfl) mixed (by kernel_rfl)
  (.tt (.out (.bc) [] (.bc) []))
  (by kernel_rfl) ?_
 refine eT ?_
 exact aq (aw.refl _)
theorem AH (f:Nat→Int) (n:Nat) (hn:n≤1099511627776):bC Tryz.prog aW 116 [] [.nn (dn n f)] (.aZ 0 1 0 n) [some ⟨1,n,true,.fn fun i _=>.int .u8 (f i)⟩]:=by
 refine bO (own:=bk) (hand:=true) Tryz.func116 (by kernel_rfl) mixed (by kernel_rfl)
  (.ff (.bf ((0+n)*1≤140737488355328) (.out (.aZ 0 1 0 (0+n)) [some ⟨1,0+n,true,.fn fun i j=>Zb (f i)⟩] (.aZ 0 1 0 n) [some ⟨1,n,true,.fn fun i x=>Zb (f i)⟩])))
  (by kernel_rfl) ?_
 refine b9 ?_
 refine aD (by omega) ?_
 exact cP (aw.of_eq (by simp)) (⟨⟨rfl,by simp,rfl,fun i j _ _=>aw.of_eq (by simp)⟩,trivial⟩)
theorem qR (f:Nat→Int) (n:Nat) (hn:n≤1099511627776):bC Tryz.prog aW 116 [] [dn n f] (.aZ 0 1 0 n) [some ⟨1,n,true,.fn fun i _=>.int .u8 (f i)⟩] :=
 bC.dW [] [] 1 n _ (fun h=>by subst h;exact Ap.nil 1 _) (AH f n hn)
theorem MU (f:Nat→Int) (n:Nat) (hn:n≤1099511627776) (p:Nat→Int) (ST:Nat→Nat→Int) (hp:p=ed n f) (h0:ST 0=yS)
  (hmix:∀ (k:Nat) (q:Nat→Int),(∀ i,i<64→q i=p (64*k+i))→Pure Tryz.prog aW 178 [.agg ((List.range 8).map fun j=>.int .u32 (ST k j)),dn 64 q] (.agg ((List.range 8).map fun j=>.int .u32 (ST (k+1) j)))) :
  Pure Tryz.prog aW 115 [dn n f] (.agg (bh (bX (ST (bj n / 64))))):=by
 have pl:=jf n
 refine ar (own:=ow1) Tryz.func115 (by kernel_rfl) mixed (by kernel_rfl)
  (let z3:Int:=(wrap .u64 ((8:Int)*wrap .u64 (n:Int)));let z0:=(ST (bj n / 64));let y0:List AV:=z32;let y1:List AV:=[Zw (ST (bj n / 64) 0),Zw (ST (bj n / 64) 1),Zw (ST (bj n / 64) 2),Zw (ST (bj n / 64) 3),Zw (ST (bj n / 64) 4),Zw (ST (bj n / 64) 5),Zw (ST (bj n / 64) 6),Zw (ST (bj n / 64) 7)];let y2:=(fun (x:{ x:Nat // x≤8 })=>aY [2,5,37,38] [.own 0 32 0 0 32,.own 1 32 0 0 32,.agg (List.map (fun j=>Zw (ST (bj n / 64) j)) (List.range 8)),Zi x.1] [some ⟨32,1,true,.ba [y0]⟩,some ⟨32,1,true,.fn fun x_1 j=>Zb (bif Nat.blt j (4*x.1) then bX z0 j else (0:Int))⟩]);let y3:=(fun (x:{ x:Nat // x≤bj n / 64 })=>aY [2,4,3] [.own 0 32 0 0 32,.own 1 8 0 0 8,.aZ 2 1 (64*x.1) (bj n - 64*x.1)] [some ⟨32,1,true,.ba [y0]⟩,some ⟨8,1,true,.ba [List.map (fun j=>Zw (ST (x.1) j)) (List.range 8)]⟩,some ⟨1,bj n,true,.fn fun i x=>Zb (p i)⟩]);let y4:=(fun (x:{ x:Nat // x≤bj n - n - 9 })=>aY [0,2,3] [.aG 1 n fun i x=>Zb (f i),.own 0 32 0 0 32,.aZ 1 1 0 (n+1+x.1)] [some ⟨32,1,true,.ba [y0]⟩,some ⟨1,n+1+x.1,true,.fn fun i x=>Zb (iM n f i)⟩]);let y5:=(fun (x:{ x:Nat // x≤bj n - n - 9 })=>bj n - n - 9 - x.1);let y6:=(fun (x:{ x:Nat // x≤bj n / 64 })=>bj n / 64 - x.1);let y7:=(fun (x:{ x:Nat // x≤8 })=>8 - x.1);let y8:=(fun (x:{ x:Nat // x≤4 })=>4 - x.1);(.gc 116 [] [.aG 1 n fun i x=>Zb (f i)] (.aZ 0 1 0 n) [some ⟨1,n,true,.fn fun i x=>Zb (f i)⟩] (.bf ((n+1)*1≤140737488355328) (.loop ({ x:Nat // x≤bj n - n - 9 }) y4 y5 (⟨0,Nat.zero_le (bj n - n - 9)⟩) [0,2,3] [0,32] [.aG 1 n fun i x=>Zb (f i),.own 0 32 0 0 32,.aZ 1 1 0 (n+1)] [some ⟨32,1,true,.ba [y0]⟩,some ⟨1,n+1,true,.fn fun i j=>Zb (bif Nat.blt i n then f i else aE (aO [Zb 128] j))⟩] (fun x2=>(.br (Int.tmod (↑(n+1+x2.1):Int) (64:Int) != 56) (.bf ((n+1+x2.1+1)*1≤140737488355328) (.again (be 0 y4 y5 x2) [0,2,3] [0,50] [.aG 1 n fun i x=>Zb (f i),.own 0 32 0 0 32,.aZ 1 1 0 (n+1+x2.1+1)] [some ⟨32,1,true,.ba [y0]⟩,some ⟨1,n+1+x2.1+1,true,.fn fun i j=>Zb (bif Nat.blt i (n+1+x2.1) then iM n f i else aE (aO [Zb 0] j))⟩])) (.dc true 177 [Zu z3] (dn 8 (rE z3)) (.bf ((n+1+x2.1+8)*1≤140737488355328) (.loop ({ x:Nat // x≤bj n / 64 }) y3 y6 (⟨0,Nat.zero_le (bj n / 64)⟩) [2,4,3] [0,106,82] [.own 0 32 0 0 32,.own 1 8 0 0 8,.aZ 2 1 0 (n+1+x2.1+8)] [some ⟨32,1,true,.ba [y0]⟩,some ⟨8,1,true,.ba [[Zw (yS 0),Zw (yS 1),Zw (yS 2),Zw (yS 3),Zw (yS 4),Zw (yS 5),Zw (yS 6),Zw (yS 7)]]⟩,some ⟨1,n+1+x2.1+8,true,.fn fun i j=>Zb (bif Nat.blt i (n+1+x2.1) then iM n f i else rE z3 (i - (n+1+x2.1)))⟩] (fun x8=>let z1:List AV:=[Zw (ST x8.1 0),Zw (ST x8.1 1),Zw (ST x8.1 2),Zw (ST x8.1 3),Zw (ST x8.1 4),Zw (ST x8.1 5),Zw (ST x8.1 6),Zw (ST x8.1 7)];(.br (decide ((↑(bj n - 64*x8.1):Int)>0)) (.bf ((0:Int)≤64∧(64:Int)≤(↑(bj n - 64*x8.1):Int)) (.sc true 178 [.agg z1,.aG 1 64 fun r k=>Zb (p (r+(0+64*x8.1)))] (.agg (List.map (fun j=>Zw (ST (x8.1+1) j)) (List.range 8))) (.bf ((0:Int)≤64∧(64:Int)≤(↑(bj n - 64*x8.1):Int)) (.again (be 0 y3 y6 x8) [2,4,3] [0,1,2] [.own 0 32 0 0 32,.own 1 8 0 0 8,.aZ 2 1 (64+64*x8.1) (bj n - 64*x8.1 - 64)] [some ⟨32,1,true,.ba [y0]⟩,some ⟨8,1,true,.ba [[Zw (ST (x8.1+1) 0),Zw (ST (x8.1+1) 1),Zw (ST (x8.1+1) 2),Zw (ST (x8.1+1) 3),Zw (ST (x8.1+1) 4),Zw (ST (x8.1+1) 5),Zw (ST (x8.1+1) 6),Zw (ST (x8.1+1) 7)]]⟩,some ⟨1,bj n,true,.fn fun i j=>Zb (p i)⟩])))) (.loop ({ x:Nat // x≤8 }) y2 y7 (⟨0,Nat.zero_le 8⟩) [2,5,37,38] [0,27] [.own 0 32 0 0 32,.own 1 32 0 0 32,.agg z1,Zi 0] [some ⟨32,1,true,.ba [y0]⟩,some ⟨32,1,true,.ba [y0]⟩] (fun x14=>let z4:=(ST (bj n / 64) (x14.1));(.br (decide ((x14.1:Int)<8)) (.bf (0≤(x14.1:Int)∧(x14.1:Int)<8) (.loop ({ x:Nat // x≤4 }) (fun x=>aY [2,5,6,37,38,7,42] [.own 0 32 0 0 32,.own 1 32 0 0 32,Zi x14.1,.agg y1,Zi x14.1,Zw z4,Zi x.1] [some ⟨32,1,true,.ba [y0]⟩,some ⟨32,1,true,.fn fun x_1 j=>Zb (bif Nat.blt j (4*x14.1+x.1) then bX z0 j else (0:Int))⟩]) y8 (⟨0,Nat.zero_le 4⟩) [2,5,6,37,38,7,42] [0,1] [.own 0 32 0 0 32,.own 1 32 0 0 32,Zi x14.1,.agg y1,Zi x14.1,Zw (aE (aO y1 (toNat (x14.1:Int)))),Zi 0] [some ⟨32,1,true,.ba [y0]⟩,some ⟨32,1,true,.fn fun i j=>Zb (bif Nat.blt j (4*x14.1) then bX z0 j else (0:Int))⟩] (fun x17=>let z2:Int:=(wrap .i64 ((4:Int)*(x14.1:Int))+(x17.1:Int));(.br (decide ((x17.1:Int)<4)) (.bf ((0:Int)≤wrap .i64 ((24:Int) - wrap .i64 ((8:Int)*(x17.1:Int)))) (.bf ((0:Int)≤wrap .i64 z2∧wrap .i64 z2<32) (.again (be 0 (fun x=>aY [2,5,6,37,38,7,42] [.own 0 32 0 0 32,.own 1 32 0 0 32,Zi x14.1,.agg y1,Zi x14.1,Zw z4,Zi x.1] [some ⟨32,1,true,.ba [y0]⟩,some ⟨32,1,true,.fn fun x_1 j=>Zb (bif Nat.blt j (4*x14.1+x.1) then bX z0 j else (0:Int))⟩]) y8 x17) [2,5,6,37,38,7,42] [0,1] [.own 0 32 0 0 32,.own 1 32 0 0 32,Zi x14.1,.agg y1,Zi x14.1,Zw (ST (bj n / 64) x14.1),Zi (wrap .i64 ((x17.1:Int)+1))] [some ⟨32,1,true,.ba [y0]⟩,some ⟨32,1,true,.fn fun i j=>Zb (bif Nat.beq i 0&&Nat.beq j (0+toNat (wrap .i64 z2)) then wrap .u8 (Int.fdiv (ST (bj n / 64) x14.1) ((2:Int)^min (toNat (wrap .i64 ((24:Int) - wrap .i64 ((8:Int)*(x17.1:Int))))) 32)) else bif Nat.blt j (4*x14.1+x17.1) then bX z0 j else (0:Int))⟩]))) (.again (be 0 y2 y7 x14) [2,5,37,38] [0,1] [.own 0 32 0 0 32,.own 1 32 0 0 32,.agg y1,Zi (wrap .i64 ((x14.1:Int)+1))] [some ⟨32,1,true,.ba [y0]⟩,some ⟨32,1,true,.fn fun i j=>Zb (bif Nat.blt j (4*x14.1+x17.1) then bX z0 j else (0:Int))⟩]))))) (.out (.agg [Zb (bif Nat.blt 0 (4*x14.1) then bX z0 0 else (0:Int)),Zb (bif Nat.blt 1 (4*x14.1) then bX z0 1 else (0:Int)),Zb (bif Nat.blt 2 (4*x14.1) then bX z0 2 else (0:Int)),Zb (bif Nat.blt 3 (4*x14.1) then bX z0 3 else (0:Int)),Zb (bif Nat.blt 4 (4*x14.1) then bX z0 4 else (0:Int)),Zb (bif Nat.blt 5 (4*x14.1) then bX z0 5 else (0:Int)),Zb (bif Nat.blt 6 (4*x14.1) then bX z0 6 else (0:Int)),Zb (bif Nat.blt 7 (4*x14.1) then bX z0 7 else (0:Int)),Zb (bif Nat.blt 8 (4*x14.1) then bX z0 8 else (0:Int)),Zb (bif Nat.blt 9 (4*x14.1) then bX z0 9 else (0:Int)),Zb (bif Nat.blt 10 (4*x14.1) then bX z0 10 else (0:Int)),Zb (bif Nat.blt 11 (4*x14.1) then bX z0 11 else (0:Int)),Zb (bif Nat.blt 12 (4*x14.1) then bX z0 12 else (0:Int)),Zb (bif Nat.blt 13 (4*x14.1) then bX z0 13 else (0:Int)),Zb (bif Nat.blt 14 (4*x14.1) then bX z0 14 else (0:Int)),Zb (bif Nat.blt 15 (4*x14.1) then bX z0 15 else (0:Int)),Zb (bif Nat.blt 16 (4*x14.1) then bX z0 16 else (0:Int)),Zb (bif Nat.blt 17 (4*x14.1) then bX z0 17 else (0:Int)),Zb (bif Nat.blt 18 (4*x14.1) then bX z0 18 else (0:Int)),Zb (bif Nat.blt 19 (4*x14.1) then bX z0 19 else (0:Int)),Zb (bif Nat.blt 20 (4*x14.1) then bX z0 20 else (0:Int)),Zb (bif Nat.blt 21 (4*x14.1) then bX z0 21 else (0:Int)),Zb (bif Nat.blt 22 (4*x14.1) then bX z0 22 else (0:Int)),Zb (bif Nat.blt 23 (4*x14.1) then bX z0 23 else (0:Int)),Zb (bif Nat.blt 24 (4*x14.1) then bX z0 24 else (0:Int)),Zb (bif Nat.blt 25 (4*x14.1) then bX z0 25 else (0:Int)),Zb (bif Nat.blt 26 (4*x14.1) then bX z0 26 else (0:Int)),Zb (bif Nat.blt 27 (4*x14.1) then bX z0 27 else (0:Int)),Zb (bif Nat.blt 28 (4*x14.1) then bX z0 28 else (0:Int)),Zb (bif Nat.blt 29 (4*x14.1) then bX z0 29 else (0:Int)),Zb (bif Nat.blt 30 (4*x14.1) then bX z0 30 else (0:Int)),Zb (bif Nat.blt 31 (4*x14.1) then bX z0 31 else (0:Int))]) [] (.agg (bh (bX z0))) [])))))))))))))))
  (by kernel_rfl) ?_
 refine fU (qR (f) (n) (by omega)) ?_
 refine aD (by omega) ?_
 refine aU (fun _ hs=>hs.le (⟨.refl _,.refl _,.refl _,trivial⟩) (⟨.refl _,Cj,trivial⟩)) (fun x2=>?_)
 try (have q2:=x2.2;dsimp only at q2)
 refine aL (fun h3=>?_) (fun h3=>?_)
 ·have g3:=aS h3
  refine aD (by omega) ?_
  exact aN (⟨x2.1+1,su x2.2 g3⟩) (fun _ hs=>hs.le (⟨.refl _,.refl _,.refl _,trivial⟩) (⟨.refl _,aH.mP (F:=iM n f) rfl (BY (by omega)).symm,trivial⟩)) (by have:=su x2.2 g3;first|omega|(dsimp only;omega))
 ·have g3:=aP h3
  refine bM (GM (wrap .u64 ((8:Int)*wrap .u64 (↑n:Int))) (by (rw [dx (n:=(n:Int)) (by omega) (by omega),dx (by omega) (by omega)];omega)) (by (rw [dx (n:=(n:Int)) (by omega) (by omega),dx (by omega) (by omega)];omega))) ?_
  refine aD (by omega) ?_
  refine aU (fun _ hs=>hs.le (⟨.refl _,.refl _,aw.of_eq (congrArg (AV.aZ 2 1 0) (oR x2.2 g3)),trivial⟩) (⟨.refl _,aH.row (by show cM _ _ ((List.range 8).map fun j=>.int .u32 (ST 0 j));rw [h0];exact cM.refl _),by rw [hp];exact GV hn (oR x2.2 g3),trivial⟩)) (fun x8=>?_)
  try (have q8:=x8.2;dsimp only at q8)
  refine aL (fun h9=>?_) (fun h9=>?_)
  ·have g9:=af h9
   refine aD (by omega) ?_
   refine aM (hmix (x8.1) (fun (i:Nat)=>p (i+(0+64*x8.1))) (by (intro i hi;exact congrArg p (by omega)))) ?_
   refine aD (by omega) ?_
   exact aN (⟨x8.1+1,by omega⟩) (fun _ hs=>hs.le (⟨.refl _,.refl _,aw.of_eq (by show AV.aZ 2 1 (64+64*x8.1) (bj n - 64*x8.1 - 64)=AV.aZ 2 1 (64*(x8.1+1)) (bj n - 64*(x8.1+1));congr 1<;>omega),trivial⟩) (⟨.refl _,.refl _,.refl _,trivial⟩)) (by dsimp only;omega)
  ·have g9:=aa h9
   refine aU (fun _ hs=>hs.le (⟨.refl _,.refl _,aw.of_eq (by
                                                                                                     have e:x8.1=bj n / 64:=by omega
                                                                                                     rw [e]
                                                                                                     rfl),.refl _,trivial⟩) (⟨.refl _,qW (fun j=>rfl),trivial⟩)) (fun x14=>?_)
   refine aL (fun h15=>?_) (fun h15=>?_)
   ·have g15:=af h15
    refine aD (by omega) ?_
    refine aU (fun _ hs=>hs.le (⟨.refl _,.refl _,.refl _,.refl _,.refl _,aw.of_eq (congrArg _ (congrArg aE (dw (es:=8) (g:=fun j=>AV.int .u32 (ST (bj n / 64) j)) (by omega)))),.refl _,trivial⟩) (⟨.refl _,.refl _,trivial⟩)) (fun x17=>?_)
    try (have q17:=x17.2;dsimp only at q17)
    refine aL (fun h18=>?_) (fun h18=>?_)
    ·have g18:=af h18
     refine aD (by rw [wI (n:=8*(x17.1:Int)) (by omega) (by omega),wI (by omega) (by omega)];omega) ?_
     refine aD (by rw [w4k (by omega) (by omega)];omega) ?_
     exact aN (⟨x17.1+1,by omega⟩) (fun _ hs=>hs.le (⟨.refl _,.refl _,.refl _,.refl _,.refl _,.refl _,aJ (by omega),trivial⟩) (⟨.refl _,aH.CG (P:=fun i j=>Nat.beq i 0&&Nat.beq j (0+toNat (IntKind.wrap .i64 (IntKind.wrap .i64 (4*(x14.1:Int))+(x17.1:Int))))) (c0:=4*x14.1+x17.1) (G:=fun j=>bif Nat.blt j (4*x14.1+x17.1+1) then bX (ST (bj n / 64)) j else 0) (fun j _=>by show (true&&Nat.beq j (0+toNat _))=_;rw [w4k (by omega) (by omega),Nat.zero_add,show toNat (4*(x14.1:Int)+x17.1)=4*x14.1+x17.1 by omega];rfl) (by rw [cy (Nat.lt_succ_self _)];exact M9 (by omega) (by omega)) (fun j _ he=>jx he),trivial⟩)) (by dsimp only;omega)
    ·have g18:=aa h18
     exact aN (⟨x14.1+1,by omega⟩) (fun _ hs=>hs.le (⟨.refl _,.refl _,.refl _,aJ (by omega),trivial⟩) (⟨.refl _,aH.fnR (fun j hj=>by
                                                                                                     have e:x17.1=4:=by omega
                                                                                                     rw [e]
                                                                                                     rfl),trivial⟩)) (by dsimp only;omega)
   ·have g15:=aa h15
    exact aq (aw.of_eq (by
                                                                                                     show AV.agg ((List.range 32).map fun j=>.int .u8 (bif Nat.blt j (4*x14.1) then bX (ST (bj n / 64)) j else 0))=AV.agg ((List.range 32).map fun j=>.int .u8 (bX (ST (bj n / 64)) j))
                                                                                                     exact congrArg AV.agg (List.map_congr_left fun j hj=>by rw [cy (by have:=List.mem_range.1 hj;omega)];rfl)))
theorem Jl (f:Nat→Int) (n:Nat) (hn:n≤1099511627776) (hf:cC f n):Pure Tryz.prog aW 115 [dn n f] (.agg (bh (eU n f))) :=
 MU f n hn (ed n f) (nF (ed n f)) rfl rfl (fun k q hq=>Pure.via (O7 (nF (ed n f) k) (fun i=>ed n f (64*k+i)) (fun i _=>DY hf _)) ⟨aw.refl _,jt rfl hq,trivial⟩)
theorem ux:Pure Tryz.prog aW 188 [] (.aG 1 64 fun i _=>.int .u32 (kF i)):=by
 refine ar (own:=bk) Tryz.func188 (by kernel_rfl) mixed (by kernel_rfl)
  (.out (.aG 1 64 fun r k=>aO (List.getD [[Zw 1116352408],[Zw 1899447441],[Zw 3049323471],[Zw 3921009573],[Zw 961987163],[Zw 1508970993],[Zw 2453635748],[Zw 2870763221],[Zw 3624381080],[Zw 310598401],[Zw 607225278],[Zw 1426881987],[Zw 1925078388],[Zw 2162078206],[Zw 2614888103],[Zw 3248222580],[Zw 3835390401],[Zw 4022224774],[Zw 264347078],[Zw 604807628],[Zw 770255983],[Zw 1249150122],[Zw 1555081692],[Zw 1996064986],[Zw 2554220882],[Zw 2821834349],[Zw 2952996808],[Zw 3210313671],[Zw 3336571891],[Zw 3584528711],[Zw 113926993],[Zw 338241895],[Zw 666307205],[Zw 773529912],[Zw 1294757372],[Zw 1396182291],[Zw 1695183700],[Zw 1986661051],[Zw 2177026350],[Zw 2456956037],[Zw 2730485921],[Zw 2820302411],[Zw 3259730800],[Zw 3345764771],[Zw 3516065817],[Zw 3600352804],[Zw 4094571909],[Zw 275423344],[Zw 430227734],[Zw 506948616],[Zw 659060556],[Zw 883997877],[Zw 958139571],[Zw 1322822218],[Zw 1537002063],[Zw 1747873779],[Zw 1955562222],[Zw 2024104815],[Zw 2227730452],[Zw 2361852424],[Zw 2428436474],[Zw 2756734187],[Zw 3204031479],[Zw 3329325298]] (r+0) []) k) [] (.aG 1 64 fun i x=>Zw (kF i)) [])
  (by kernel_rfl) ?_
 exact aq (aw.aG (fun r j hr hj=>by (obtain rfl:j=0:=Nat.lt_one_iff.1 hj);exact ri (l:=kL) (k:=.u32) hr))
theorem Cg (f:Nat→Int) (n:Nat) (hn:n≤1099511627776):Pure Tryz.prog aW 189 [dn n f] (dn (bj n) (ed n f)):=by
 have pl:=jf n
 refine ar (own:=bk) Tryz.func189 (by kernel_rfl) mixed (by kernel_rfl)
  (let z0:Int:=(wrap .i64 ((8:Int)*(n:Int)));let y0:=(fun (x:{ x:Nat // x≤bj n - n - 9 })=>aY [0,3] [.aG 1 n fun i x=>Zb (f i),.aZ 0 1 0 (n+1+x.1)] [some ⟨1,n+1+x.1,true,.fn fun i x=>Zb (iM n f i)⟩]);let y1:=(fun (x:{ x:Nat // x≤bj n - n - 9 })=>bj n - n - 9 - x.1);(.bf ((0+n)*1≤140737488355328) (.bf ((0+n+1)*1≤140737488355328) (.loop ({ x:Nat // x≤bj n - n - 9 }) y0 y1 (⟨0,Nat.zero_le (bj n - n - 9)⟩) [0,3] [40] [.aG 1 n fun i x=>Zb (f i),.aZ 0 1 0 (0+n+1)] [some ⟨1,0+n+1,true,.fn fun i j=>Zb (bif Nat.blt i (0+n) then f i else aE (aO [Zb 128] j))⟩] (fun x2=>(.br (Int.tmod (↑(n+1+x2.1):Int) (64:Int) != 56) (.bf ((n+1+x2.1+1)*1≤140737488355328) (.again (be 0 y0 y1 x2) [0,3] [49] [.aG 1 n fun i x=>Zb (f i),.aZ 0 1 0 (n+1+x2.1+1)] [some ⟨1,n+1+x2.1+1,true,.fn fun i j=>Zb (bif Nat.blt i (n+1+x2.1) then iM n f i else aE (aO [Zb 0] j))⟩])) (.dc true 266 [Zi z0] (dn 8 (rE z0)) (.bf ((n+1+x2.1+8)*1≤140737488355328) (.out (.aG 1 (n+1+x2.1+8) fun r k=>Zb (bif Nat.blt (r+0) (n+1+x2.1) then iM n f (r+0) else rE z0 (r+0 - (n+1+x2.1)))) [] (dn (bj n) (ed n f)) [])))))))))
  (by kernel_rfl) ?_
 refine aD (by omega) ?_
 refine aD (by omega) ?_
 refine aU (fun _ hs=>hs.le (⟨by exact aw.refl _,aw.of_eq (congrArg (AV.aZ 0 1 0) (by dsimp only;omega)),trivial⟩) (⟨by rw [show 0+n=n from Nat.zero_add n];exact Cj,trivial⟩)) (fun x2=>?_)
 try (have q2:=x2.2;dsimp only at q2)
 refine aL (fun h3=>?_) (fun h3=>?_)
 ·have g3:=aS h3
  refine aD (by omega) ?_
  exact aN (⟨x2.1+1,su x2.2 g3⟩) (fun _ hs=>hs.le (by repeat' (first|exact trivial|(first|exact aw.refl _|exact aJ (by omega)|exact aw.nil rfl|exact aw.of_eq (congrArg (AV.aZ _ _ _) (by first|omega|(dsimp only;omega)))|exact aw.of_eq (congrArg (AV.int _) (by first|omega|(dsimp only;omega))))|refine And.intro ?_ ?_)) (⟨aH.mP (F:=iM n f) rfl (BY (by omega)).symm,trivial⟩)) (by have:=su x2.2 g3;first|omega|(dsimp only;omega))
 ·have g3:=aP h3
  refine bM (CK (wrap .i64 ((8:Int)*(↑n:Int))) (by rw [wI (by omega) (by omega)];omega) (by rw [wI (by omega) (by omega)];omega)) ?_
  refine aD (by omega) ?_
  exact aq (jt (oR x2.2 g3) (fun i hi=>by rw [wI (by omega) (by omega)];exact Lc (oR x2.2 g3) i))
theorem BK (b:Nat→Int) (hb:cC b 64):Pure Tryz.prog aW 190 [dn 64 b] (.aG 1 64 fun i _=>.int .u32 (bg b i)):=by
 refine ar (own:=bk) Tryz.func190 (by kernel_rfl) mixed (by kernel_rfl)
  (let y0:=(fun (x:{ x:Nat // x≤16 })=>aY [0,3,4] [.aG 1 64 fun i x=>Zb (b i),.aZ 0 1 0 (x.1),Zi x.1] [some ⟨1,x.1,true,.fn fun q x=>Zw (qG b q)⟩]);let y1:=(fun (x:{ x:Nat // x≤48 })=>aY [3,7] [.aZ 0 1 0 (16+x.1),Zi (↑(16+x.1):Int)] [some ⟨1,16+x.1,true,.fn fun q x=>Zw (bg b q)⟩]);let y2:=(fun (x:{ x:Nat // x≤16 })=>16 - x.1);let y3:=(fun (x:{ x:Nat // x≤48 })=>48 - x.1);let y4:=(fun (x:{ x:Nat // x≤4 })=>4 - x.1);(.loop ({ x:Nat // x≤16 }) y0 y2 (⟨0,Nat.zero_le 16⟩) [0,3,4] [280] [.aG 1 64 fun i x=>Zb (b i),.bc,Zi 0] [some ⟨1,0,true,.ty (999999999:TypeId) (.ba [])⟩] (fun x0=>let z1:=(fun (x:{ x:Nat // x≤4 })=>aY [0,3,4,5,6] [.aG 1 64 fun i x=>Zb (b i),.aZ 0 1 0 x0.1,Zi x0.1,Zw (preB b (x0.1) (x.1)),Zi x.1] [some ⟨1,x0.1,true,.fn fun i j=>Zw (qG b i)⟩]);(.br (decide ((x0.1:Int)<16)) (.loop ({ x:Nat // x≤4 }) z1 y4 (⟨0,Nat.zero_le 4⟩) [0,3,4,5,6] [0] [.aG 1 64 fun i x=>Zb (b i),.aZ 0 1 0 x0.1,Zi x0.1,Zw 0,Zi 0] [some ⟨1,x0.1,true,.fn fun i j=>Zw (qG b i)⟩] (fun x2=>(.br (decide ((x2.1:Int)<4)) (.bf ((0:Int)≤wrap .i64 (wrap .i64 ((4:Int)*(x0.1:Int))+(x2.1:Int))∧wrap .i64 (wrap .i64 ((4:Int)*(x0.1:Int))+(x2.1:Int))<64) (.again (be 0 z1 y4 x2) [0,3,4,5,6] [0] [.aG 1 64 fun i x=>Zb (b i),.aZ 0 1 0 x0.1,Zi x0.1,Zw (wrap .u32 (wrap .u32 (preB b x0.1 x2.1*256)+wrap .u32 (b (toNat (wrap .i64 (wrap .i64 ((4:Int)*(x0.1:Int))+(x2.1:Int))))))),Zi (wrap .i64 ((x2.1:Int)+1))] [some ⟨1,x0.1,true,.fn fun i j=>Zw (qG b i)⟩])) (.bf ((x0.1+1)*4≤140737488355328) (.again (be 0 y0 y2 x0) [0,3,4] [41] [.aG 1 64 fun i x=>Zb (b i),.aZ 0 1 0 (x0.1+1),Zi (wrap .i64 ((x0.1:Int)+1))] [some ⟨1,x0.1+1,true,.fn fun i j=>Zw (bif Nat.blt i x0.1 then qG b i else aE (aO [Zw (preB b (x0.1) (x2.1))] j))⟩]))))) (.loop ({ x:Nat // x≤48 }) y1 y3 (⟨0,Nat.zero_le 48⟩) [3,7] [0] [.aZ 0 1 0 x0.1,Zi 16] [some ⟨1,x0.1,true,.fn fun i j=>Zw (qG b i)⟩] (fun x8=>let z0:Int:=(↑(16+x8.1):Int);(.br (decide (z0<64)) (.bf ((0:Int)≤wrap .i64 (z0 - 15)∧wrap .i64 (z0 - 15)<z0) (.bf ((0:Int)≤wrap .i64 (z0 - 2)∧wrap .i64 (z0 - 2)<z0) (.sc true 191 [Zw (bg b (toNat (wrap .i64 (z0 - 15))+0)),Zi 7] (Zw (cD (bg b (toNat (wrap .i64 (z0 - 15))+0)) 7)) (.sc true 191 [Zw (bg b (toNat (wrap .i64 (z0 - 15))+0)),Zi 18] (Zw (cD (bg b (toNat (wrap .i64 (z0 - 15))+0)) 18)) (.sc true 191 [Zw (bg b (toNat (wrap .i64 (z0 - 2))+0)),Zi 17] (Zw (cD (bg b (toNat (wrap .i64 (z0 - 2))+0)) 17)) (.sc true 191 [Zw (bg b (toNat (wrap .i64 (z0 - 2))+0)),Zi 19] (Zw (cD (bg b (toNat (wrap .i64 (z0 - 2))+0)) 19)) (.bf ((0:Int)≤wrap .i64 (z0 - 16)∧wrap .i64 (z0 - 16)<z0) (.bf ((0:Int)≤wrap .i64 (z0 - 7)∧wrap .i64 (z0 - 7)<z0) (.bf ((16+x8.1+1)*4≤140737488355328) (.again (be 0 y1 y3 x8) [3,7] [393] [.aZ 0 1 0 (16+x8.1+1),Zi (wrap .i64 (z0+1))] [some ⟨1,16+x8.1+1,true,.fn fun i j=>Zw (bif Nat.blt i (16+x8.1) then bg b i else aE (aO [Zw (wrap .u32 (wrap .u32 (wrap .u32 (bg b (toNat (wrap .i64 (z0 - 16))+0)+wrap .u32 (↑(BitVec.toNat (BitVec.ofInt 32 (wrap .u32 (↑(BitVec.toNat (BitVec.ofInt 32 (cD (bg b (toNat (wrap .i64 (z0 - 15))+0)) 7) ^^^ BitVec.ofInt 32 (cD (bg b (toNat (wrap .i64 (z0 - 15))+0)) 18))):Int)) ^^^ BitVec.ofInt 32 (Int.fdiv (bg b (toNat (wrap .i64 (z0 - 15))+0)) ((2:Int)^3)))):Int))+bg b (toNat (wrap .i64 (z0 - 7))+0))+wrap .u32 (↑(BitVec.toNat (BitVec.ofInt 32 (wrap .u32 (↑(BitVec.toNat (BitVec.ofInt 32 (cD (bg b (toNat (wrap .i64 (z0 - 2))+0)) 17) ^^^ BitVec.ofInt 32 (cD (bg b (toNat (wrap .i64 (z0 - 2))+0)) 19))):Int)) ^^^ BitVec.ofInt 32 (Int.fdiv (bg b (toNat (wrap .i64 (z0 - 2))+0)) ((2:Int)^10)))):Int)))] j))⟩])))))))))) (.out (.aG 1 (16+x8.1) fun r k=>Zw (bg b (r+0))) [] (.aG 1 64 fun i x=>Zw (bg b i)) []))))))))
  (by kernel_rfl) ?_
 refine aU (fun _ hs=>hs.le (by repeat' (first|exact trivial|(first|exact aw.refl _|exact aJ (by omega)|exact aw.nil rfl|exact aw.of_eq (congrArg (AV.aZ _ _ _) (by first|omega|(dsimp only;omega)))|exact aw.of_eq (congrArg (AV.int _) (by first|omega|(dsimp only;omega))))|refine And.intro ?_ ?_)) (by repeat' (first|exact trivial|(first|exact aH.refl _|exact aH.bw|exact aH.zero|exact aH.push rfl rfl|exact aH.cm rfl|exact aH.len (by omega)|exact aH.row (by repeat' (first|exact trivial|(first|exact aw.refl _|exact aJ (by omega)|exact aw.nil rfl|exact aw.of_eq (congrArg (AV.aZ _ _ _) (by first|omega|(dsimp only;omega)))|exact aw.of_eq (congrArg (AV.int _) (by first|omega|(dsimp only;omega))))|refine And.intro ?_ ?_)))|refine And.intro ?_ ?_))) (fun x0=>?_)
 try (have q0:=x0.2;dsimp only at q0)
 refine aL (fun h1=>?_) (fun h1=>?_)
 ·have g1:=af h1
  refine aU (fun _ hs=>hs.le (by repeat' (first|exact trivial|(first|exact aw.refl _|exact aJ (by omega)|exact aw.nil rfl|exact aw.of_eq (congrArg (AV.aZ _ _ _) (by first|omega|(dsimp only;omega)))|exact aw.of_eq (congrArg (AV.int _) (by first|omega|(dsimp only;omega))))|refine And.intro ?_ ?_)) (by repeat' (first|exact trivial|(first|exact aH.refl _|exact aH.bw|exact aH.zero|exact aH.push rfl rfl|exact aH.cm rfl|exact aH.len (by omega)|exact aH.row (by repeat' (first|exact trivial|(first|exact aw.refl _|exact aJ (by omega)|exact aw.nil rfl|exact aw.of_eq (congrArg (AV.aZ _ _ _) (by first|omega|(dsimp only;omega)))|exact aw.of_eq (congrArg (AV.int _) (by first|omega|(dsimp only;omega))))|refine And.intro ?_ ?_)))|refine And.intro ?_ ?_))) (fun x2=>?_)
  try (have q2:=x2.2;dsimp only at q2)
  refine aL (fun h3=>?_) (fun h3=>?_)
  ·have g3:=af h3
   refine aD (by rw [w4k (by omega) (by omega)];omega) ?_
   exact aN (⟨x2.1+1,by omega⟩) (fun _ hs=>hs.le (⟨by exact aw.refl _,by exact aw.refl _,by exact aw.refl _,aw.of_eq (congrArg _ (by rw [w4k (by omega) (by omega),show toNat (4*(x0.1:Int)+x2.1)=4*x0.1+x2.1 by omega];have p:=yT (k:=x2.1) hb (show x0.1<16 by omega) (by omega);have q:=hb (4*x0.1+x2.1) (by omega);exact Ic p.1 p.2 q.1 q.2)),by exact aJ (by omega),trivial⟩) (by repeat' (first|exact trivial|(first|exact aH.refl _|exact aH.bw|exact aH.zero|exact aH.push rfl rfl|exact aH.cm rfl|exact aH.len (by omega)|exact aH.row (by repeat' (first|exact trivial|(first|exact aw.refl _|exact aJ (by omega)|exact aw.nil rfl|exact aw.of_eq (congrArg (AV.aZ _ _ _) (by first|omega|(dsimp only;omega)))|exact aw.of_eq (congrArg (AV.int _) (by first|omega|(dsimp only;omega))))|refine And.intro ?_ ?_)))|refine And.intro ?_ ?_))) (by (dsimp only;omega))
  ·have g3:=aa h3
   refine aD (by omega) ?_
   exact aN (⟨x0.1+1,by omega⟩) (fun _ hs=>hs.le (by repeat' (first|exact trivial|(first|exact aw.refl _|exact aJ (by omega)|exact aw.nil rfl|exact aw.of_eq (congrArg (AV.aZ _ _ _) (by first|omega|(dsimp only;omega)))|exact aw.of_eq (congrArg (AV.int _) (by first|omega|(dsimp only;omega))))|refine And.intro ?_ ?_)) (⟨aH.mP (F:=qG b) rfl (by show preB b x0.1 x2.1=preB b x0.1 4;rw [show x2.1=4 by omega]),trivial⟩)) (by (dsimp only;omega))
 ·have g1:=aa h1
  refine aU (fun _ hs=>hs.le (⟨aw.of_eq (congrArg (AV.aZ 0 1 0) (by dsimp only;omega)),by exact aw.refl _,trivial⟩) (⟨aH.fnF (by dsimp only;omega) (fun i hi=>(oJ (by omega)).symm),trivial⟩)) (fun x8=>?_)
  try (have q8:=x8.2;dsimp only at q8)
  refine aL (fun h9=>?_) (fun h9=>?_)
  ·have g9:=af h9
   refine aD (by rw [wI (by omega) (by omega)];omega) ?_
   refine aD (by rw [wI (by omega) (by omega)];omega) ?_
   refine aM ((fun (x:Int)=>fG x (7:Nat)) (bg b (toNat (wrap .i64 ((↑(16+x8.1):Int) - (15:Int)))+0)) (by omega) (by omega)) ?_
   refine aM ((fun (x:Int)=>fG x (18:Nat)) (bg b (toNat (wrap .i64 ((↑(16+x8.1):Int) - (15:Int)))+0)) (by omega) (by omega)) ?_
   refine aM ((fun (x:Int)=>fG x (17:Nat)) (bg b (toNat (wrap .i64 ((↑(16+x8.1):Int) - (2:Int)))+0)) (by omega) (by omega)) ?_
   refine aM ((fun (x:Int)=>fG x (19:Nat)) (bg b (toNat (wrap .i64 ((↑(16+x8.1):Int) - (2:Int)))+0)) (by omega) (by omega)) ?_
   refine aD (by rw [wI (by omega) (by omega)];omega) ?_
   refine aD (by rw [wI (by omega) (by omega)];omega) ?_
   refine aD (by omega) ?_
   exact aN (⟨x8.1+1,by omega⟩) (fun _ hs=>hs.le (⟨by exact aw.refl _,aJ (i:=16+x8.1) (by omega),trivial⟩) (⟨aH.mP (F:=bg b) rfl (by
                                                                                                     simp only [kG (t:=x8.1) (d:=15) (k:=15) rfl (by omega) (by omega),kG (t:=x8.1) (d:=2) (k:=2) rfl (by omega) (by omega),kG (t:=x8.1) (d:=7) (k:=7) rfl (by omega) (by omega),kG (t:=x8.1) (d:=16) (k:=16) rfl (by omega) (by omega),Nat.zero_add,Nat.add_zero,dt]
                                                                                                     exact (tk (j:=16+x8.1) (by omega)).symm),trivial⟩)) (by (dsimp only;omega))
  ·have g9:=aa h9
   exact aq (aw.ia (by omega) (fun i j _ _=>rfl))
theorem Bm (b:Nat→Int) (m:Nat) (hm:m=64) (hb:cC b 64):Pure Tryz.prog aW 190 [dn m b] (.aG 1 64 fun i _=>.int .u32 (bg b i)):=by subst hm;exact BK b hb
theorem J6 (f:Nat→Int) (n:Nat) (hn:n≤1099511627776) (hf:cC f n) (w ST:Nat→Nat→Int) (R:Nat→Nat→Nat→Int) (h0:ST 0=yS) (hw:∀ (k:Nat) (q:Nat→Int) (i:Nat),(∀ i,i<64→q i=ed n f (64*k+i))→bg q i=w k i)
  (hR:∀ k,Rnd (ST k) (w k) (R k)) (hS:∀ k i,ST (k+1) i=dj (ST k i) (R k 64 i)):Pure Tryz.prog aW 127 [dn n f] (.agg (bh (bX (ST (bj n / 64))))):=by
 have pl:=jf n
 refine ar (own:=bk) Tryz.func127 (by kernel_rfl) mixed (by kernel_rfl)
  (let z1:=(ST (bj n / 64));let y0:List AV:=z32;let y1:=(fun (x:{ x:Nat // x≤32 })=>aY [2,3,13,14] [.own 0 32 0 0 32,.aZ 1 1 0 8,.own 2 32 0 0 32,Zi x.1] [some ⟨32,1,true,.ba [y0]⟩,some ⟨1,8,true,.fn fun q x=>Zw (ST (bj n / 64) q)⟩,some ⟨32,1,true,.fn fun x_1 j=>Zb (bif Nat.blt j (x.1) then bX z1 j else (0:Int))⟩]);let y2:=(fun (x:{ x:Nat // x≤bj n / 64 })=>aY [2,3,4,5,6] [.own 0 32 0 0 32,.aZ 1 1 0 8,.aG 1 64 fun i x=>Zw (kF i),.aG 1 (bj n) fun i x=>Zb (ed n f i),Zi (↑(64*x.1):Int)] [some ⟨32,1,true,.ba [y0]⟩,some ⟨1,8,true,.fn fun i x_1=>Zw (ST (x.1) i)⟩]);let y3:=(fun (x:{ x:Nat // x≤bj n / 64 })=>bj n / 64 - x.1);let y4:=(fun (x:{ x:Nat // x≤64 })=>64 - x.1);let y5:=(fun (x:{ x:Nat // x≤32 })=>32 - x.1);let y6:=(fun (x:{ x:Nat // x≤8 })=>8 - x.1);(.dc true 188 [] (.aG 1 64 fun i x=>Zw (kF i)) (.dc true 189 [.aG 1 n fun i x=>Zb (f i)] (dn (bj n) (ed n f)) (.loop ({ x:Nat // x≤bj n / 64 }) y2 y3 (⟨0,Nat.zero_le (bj n / 64)⟩) [2,3,4,5,6] [0,8] [.own 0 32 0 0 32,.aZ 1 1 0 8,.aG 1 64 fun i x=>Zw (kF i),.aG 1 (bj n) fun i x=>Zb (ed n f i),Zi 0] [some ⟨32,1,true,.ba [y0]⟩,some ⟨1,8,true,.ba [[Zw 1779033703],[Zw 3144134277],[Zw 1013904242],[Zw 2773480762],[Zw 1359893119],[Zw 2600822924],[Zw 528734635],[Zw 1541459225]]⟩] (fun x2=>let z2:Int:=(↑(64*x2.1):Int);(.br (decide (z2<(↑(bj n):Int))) (.bf (0≤z2∧z2≤wrap .i64 (z2+64)∧wrap .i64 (z2+64)≤(↑(bj n):Int)) (.dc true 190 [.aG 1 (toNat (wrap .i64 (z2+64)) - toNat z2) fun i j=>Zb (ed n f (i+toNat z2))] (.aG 1 64 fun i x=>Zw (bg (fun i=>ed n f (i+toNat z2)) i)) (.bf (32≤140737488355328) (.loop ({ x:Nat // x≤64 }) (fun x=>aY [2,3,4,5,6,7,8,9] [.own 0 32 0 0 32,.aZ 1 1 0 8,.aG 1 64 fun i x=>Zw (kF i),.aG 1 (bj n) fun i x=>Zb (ed n f i),Zi z2,.aG 1 64 fun i x=>Zw (w (x2.1) i),.aZ 2 1 0 8,Zi x.1] [some ⟨32,1,true,.ba [y0]⟩,some ⟨1,8,true,.fn fun i j=>Zw (ST (x2.1) i)⟩,some ⟨1,8,true,.fn fun i x_1=>Zw (R (x2.1) (x.1) i)⟩]) y4 (⟨0,Nat.zero_le 64⟩) [2,3,4,5,6,7,8,9] [0,1,106] [.own 0 32 0 0 32,.aZ 1 1 0 8,.aG 1 64 fun i x=>Zw (kF i),.aG 1 (bj n) fun i x=>Zb (ed n f i),Zi z2,.aG 1 64 fun i x=>Zw (bg (fun i=>ed n f (i+toNat z2)) i),.aZ 2 1 0 8,Zi 0] [some ⟨32,1,true,.ba [y0]⟩,some ⟨1,8,true,.fn fun i j=>Zw (ST (x2.1) i)⟩,some ⟨1,8,true,.fn fun i j=>Zw (ST (x2.1) (i+0))⟩] (fun x7=>let z0:Int:=(wrap .u32 (wrap .u32 (wrap .u32 (R x2.1 x7.1 7+wrap .u32 (↑(BitVec.toNat (BitVec.ofInt 32 (wrap .u32 (↑(BitVec.toNat (BitVec.ofInt 32 (cD (R x2.1 x7.1 4) 6) ^^^ BitVec.ofInt 32 (cD (R x2.1 x7.1 4) 11))):Int)) ^^^ BitVec.ofInt 32 (cD (R x2.1 x7.1 4) 25))):Int))+wrap .u32 (↑(BitVec.toNat (BitVec.ofInt 32 (wrap .u32 (↑(BitVec.toNat (BitVec.ofInt 32 (R x2.1 x7.1 4) &&& BitVec.ofInt 32 (R x2.1 x7.1 5))):Int)) ^^^ BitVec.ofInt 32 (wrap .u32 (↑(BitVec.toNat (BitVec.ofInt 32 (wrap .u32 (↑(BitVec.toNat (BitVec.ofInt 32 (if false=true then (-1:Int) else IntKind.max IntKind.u32) ^^^ BitVec.ofInt 32 (R x2.1 x7.1 4))):Int)) &&& BitVec.ofInt 32 (R x2.1 x7.1 6))):Int)))):Int))+kF (toNat (x7.1:Int)))+w x2.1 (toNat (x7.1:Int)));(.br (decide ((x7.1:Int)<64)) (.bf ((0:Int)≤7∧(7:Int)<8) (.bf ((0:Int)≤4∧(4:Int)<8) (.sc true 191 [Zw (R x2.1 x7.1 4),Zi 6] (Zw (cD (R x2.1 x7.1 4) 6)) (.bf ((0:Int)≤4∧(4:Int)<8) (.sc true 191 [Zw (R x2.1 x7.1 4),Zi 11] (Zw (cD (R x2.1 x7.1 4) 11)) (.bf ((0:Int)≤4∧(4:Int)<8) (.sc true 191 [Zw (R x2.1 x7.1 4),Zi 25] (Zw (cD (R x2.1 x7.1 4) 25)) (.bf ((0:Int)≤4∧(4:Int)<8) (.bf ((0:Int)≤5∧(5:Int)<8) (.bf ((0:Int)≤4∧(4:Int)<8) (.bf ((0:Int)≤6∧(6:Int)<8) (.bf (0≤(x7.1:Int)∧(x7.1:Int)<64) (.bf (0≤(x7.1:Int)∧(x7.1:Int)<64) (.bf ((0:Int)≤0∧(0:Int)<8) (.sc true 191 [Zw (R x2.1 x7.1 0),Zi 2] (Zw (cD (R x2.1 x7.1 0) 2)) (.bf ((0:Int)≤0∧(0:Int)<8) (.sc true 191 [Zw (R x2.1 x7.1 0),Zi 13] (Zw (cD (R x2.1 x7.1 0) 13)) (.bf ((0:Int)≤0∧(0:Int)<8) (.sc true 191 [Zw (R x2.1 x7.1 0),Zi 22] (Zw (cD (R x2.1 x7.1 0) 22)) (.bf ((0:Int)≤0∧(0:Int)<8) (.bf ((0:Int)≤1∧(1:Int)<8) (.bf ((0:Int)≤0∧(0:Int)<8) (.bf ((0:Int)≤2∧(2:Int)<8) (.bf ((0:Int)≤1∧(1:Int)<8) (.bf ((0:Int)≤2∧(2:Int)<8) (.bf ((0:Int)≤0∧(0:Int)<8) (.bf ((0:Int)≤1∧(1:Int)<8) (.bf ((0:Int)≤2∧(2:Int)<8) (.bf ((0:Int)≤3∧(3:Int)<8) (.bf ((0:Int)≤4∧(4:Int)<8) (.bf ((0:Int)≤5∧(5:Int)<8) (.bf ((0:Int)≤6∧(6:Int)<8) (.again (be 0 (fun x=>aY [2,3,4,5,6,7,8,9] [.own 0 32 0 0 32,.aZ 1 1 0 8,.aG 1 64 fun i x=>Zw (kF i),.aG 1 (bj n) fun i x=>Zb (ed n f i),Zi z2,.aG 1 64 fun i x=>Zw (w (x2.1) i),.aZ 2 1 0 8,Zi x.1] [some ⟨32,1,true,.ba [y0]⟩,some ⟨1,8,true,.fn fun i j=>Zw (ST (x2.1) i)⟩,some ⟨1,8,true,.fn fun i x_1=>Zw (R (x2.1) (x.1) i)⟩]) y4 x7) [2,3,4,5,6,7,8,9] [0,1,907] [.own 0 32 0 0 32,.aZ 1 1 0 8,.aG 1 64 fun i x=>Zw (kF i),.aG 1 (bj n) fun i x=>Zb (ed n f i),Zi z2,.aG 1 64 fun i x=>Zw (w x2.1 i),.aZ 2 1 0 8,Zi (wrap .i64 ((x7.1:Int)+1))] [some ⟨32,1,true,.ba [y0]⟩,some ⟨1,8,true,.fn fun i j=>Zw (ST (x2.1) i)⟩,some ⟨1,8,true,.ba [[Zw (wrap .u32 (wrap .u32 z0+wrap .u32 (wrap .u32 (↑(BitVec.toNat (BitVec.ofInt 32 (wrap .u32 (↑(BitVec.toNat (BitVec.ofInt 32 (cD (R x2.1 x7.1 0) 2) ^^^ BitVec.ofInt 32 (cD (R x2.1 x7.1 0) 13))):Int)) ^^^ BitVec.ofInt 32 (cD (R x2.1 x7.1 0) 22))):Int)+wrap .u32 (↑(BitVec.toNat (BitVec.ofInt 32 (wrap .u32 (↑(BitVec.toNat (BitVec.ofInt 32 (wrap .u32 (↑(BitVec.toNat (BitVec.ofInt 32 (R x2.1 x7.1 0) &&& BitVec.ofInt 32 (R x2.1 x7.1 1))):Int)) ^^^ BitVec.ofInt 32 (wrap .u32 (↑(BitVec.toNat (BitVec.ofInt 32 (R x2.1 x7.1 0) &&& BitVec.ofInt 32 (R x2.1 x7.1 2))):Int)))):Int)) ^^^ BitVec.ofInt 32 (wrap .u32 (↑(BitVec.toNat (BitVec.ofInt 32 (R x2.1 x7.1 1) &&& BitVec.ofInt 32 (R x2.1 x7.1 2))):Int)))):Int))))],[Zw (R (x2.1) (x7.1) (toNat (0:Int)+0))],[Zw (R (x2.1) (x7.1) (toNat (1:Int)+0))],[Zw (R (x2.1) (x7.1) (toNat (2:Int)+0))],[Zw (wrap .u32 (R x2.1 x7.1 3+wrap .u32 z0))],[Zw (R (x2.1) (x7.1) (toNat (4:Int)+0))],[Zw (R (x2.1) (x7.1) (toNat (5:Int)+0))],[Zw (R (x2.1) (x7.1) (toNat (6:Int)+0))]]⟩]))))))))))))))))))))))))))))))))) (.loop ({ x:Nat // x≤8 }) (fun x=>aY [2,3,4,5,6,8,12] [.own 0 32 0 0 32,.aZ 1 1 0 8,.aG 1 64 fun i x=>Zw (kF i),.aG 1 (bj n) fun i x=>Zb (ed n f i),Zi z2,.aZ 2 1 0 8,Zi x.1] [some ⟨32,1,true,.ba [y0]⟩,some ⟨1,8,true,.fn fun q x_1=>Zw (bif Nat.blt q (x.1) then ST (x2.1+1) q else ST (x2.1) q)⟩,some ⟨1,8,true,.fn fun i j=>Zw (R (x2.1) (x7.1) i)⟩]) y6 (⟨0,Nat.zero_le 8⟩) [2,3,4,5,6,8,12] [0,1,2] [.own 0 32 0 0 32,.aZ 1 1 0 8,.aG 1 64 fun i x=>Zw (kF i),.aG 1 (bj n) fun i x=>Zb (ed n f i),Zi z2,.aZ 2 1 0 8,Zi 0] [some ⟨32,1,true,.ba [y0]⟩,some ⟨1,8,true,.fn fun i j=>Zw (ST (x2.1) i)⟩,some ⟨1,8,true,.fn fun i j=>Zw (R (x2.1) (x7.1) i)⟩] (fun x42=>let z3:Nat:=(toNat (x42.1:Int)+0);(.br (decide ((x42.1:Int)<8)) (.bf (0≤(x42.1:Int)∧(x42.1:Int)<8) (.bf (0≤(x42.1:Int)∧(x42.1:Int)<8) (.bf (0≤(x42.1:Int)∧(x42.1:Int)<8) (.again (be 0 (fun x=>aY [2,3,4,5,6,8,12] [.own 0 32 0 0 32,.aZ 1 1 0 8,.aG 1 64 fun i x=>Zw (kF i),.aG 1 (bj n) fun i x=>Zb (ed n f i),Zi z2,.aZ 2 1 0 8,Zi x.1] [some ⟨32,1,true,.ba [y0]⟩,some ⟨1,8,true,.fn fun q x_1=>Zw (bif Nat.blt q (x.1) then ST (x2.1+1) q else ST (x2.1) q)⟩,some ⟨1,8,true,.fn fun i j=>Zw (R (x2.1) (x7.1) i)⟩]) y6 x42) [2,3,4,5,6,8,12] [0,1,2] [.own 0 32 0 0 32,.aZ 1 1 0 8,.aG 1 64 fun i x=>Zw (kF i),.aG 1 (bj n) fun i x=>Zb (ed n f i),Zi z2,.aZ 2 1 0 8,Zi (wrap .i64 ((x42.1:Int)+1))] [some ⟨32,1,true,.ba [y0]⟩,some ⟨1,8,true,.fn fun i j=>Zw (bif Nat.beq i z3&&(Nat.ble 0 j&&Nat.blt j 1) then wrap .u32 ((bif Nat.blt z3 x42.1 then ST (x2.1+1) z3 else ST x2.1 z3)+R x2.1 x7.1 z3) else bif Nat.blt i x42.1 then ST (x2.1+1) i else ST x2.1 i)⟩,some ⟨1,8,true,.fn fun i j=>Zw (R (x2.1) (x7.1) i)⟩])))) (.again (be 0 y2 y3 x2) [2,3,4,5,6] [0,1] [.own 0 32 0 0 32,.aZ 1 1 0 8,.aG 1 64 fun i x=>Zw (kF i),.aG 1 (bj n) fun i x=>Zb (ed n f i),Zi (wrap .i64 (z2+64))] [some ⟨32,1,true,.ba [y0]⟩,some ⟨1,8,true,.fn fun i j=>Zw (bif Nat.blt i x42.1 then ST (x2.1+1) i else ST x2.1 i)⟩])))))))))) (.loop ({ x:Nat // x≤32 }) y1 y5 (⟨0,Nat.zero_le 32⟩) [2,3,13,14] [0,1,34] [.own 0 32 0 0 32,.aZ 1 1 0 8,.own 2 32 0 0 32,Zi 0] [some ⟨32,1,true,.ba [y0]⟩,some ⟨1,8,true,.fn fun i j=>Zw (ST (x2.1) i)⟩,some ⟨32,1,true,.ba [y0]⟩] (fun x49=>let z4:=(Int.tdiv (x49.1:Int) (4:Int));(.br (decide ((x49.1:Int)<32)) (.bf ((0:Int)≤wrap .i64 z4∧wrap .i64 z4<8) (.bf ((0:Int)≤wrap .i64 ((24:Int) - wrap .i64 ((8:Int)*Int.tmod (x49.1:Int) (4:Int)))) (.bf (0≤(x49.1:Int)∧(x49.1:Int)<32) (.again (be 0 y1 y5 x49) [2,3,13,14] [0,1,2] [.own 0 32 0 0 32,.aZ 1 1 0 8,.own 2 32 0 0 32,Zi (wrap .i64 ((x49.1:Int)+1))] [some ⟨32,1,true,.ba [y0]⟩,some ⟨1,8,true,.fn fun i j=>Zw (ST (bj n / 64) i)⟩,some ⟨32,1,true,.fn fun i j=>Zb (bif Nat.beq i 0&&Nat.beq j (0+toNat (x49.1:Int)) then wrap .u8 (Int.fdiv (ST (bj n / 64) (toNat (wrap .i64 z4)+0)) ((2:Int)^min (toNat (wrap .i64 ((24:Int) - wrap .i64 ((8:Int)*Int.tmod (x49.1:Int) (4:Int))))) 32)) else bif Nat.blt j x49.1 then bX z1 j else (0:Int))⟩])))) (.out (.agg [Zb (bif Nat.blt 0 x49.1 then bX z1 0 else (0:Int)),Zb (bif Nat.blt 1 x49.1 then bX z1 1 else (0:Int)),Zb (bif Nat.blt 2 x49.1 then bX z1 2 else (0:Int)),Zb (bif Nat.blt 3 x49.1 then bX z1 3 else (0:Int)),Zb (bif Nat.blt 4 x49.1 then bX z1 4 else (0:Int)),Zb (bif Nat.blt 5 x49.1 then bX z1 5 else (0:Int)),Zb (bif Nat.blt 6 x49.1 then bX z1 6 else (0:Int)),Zb (bif Nat.blt 7 x49.1 then bX z1 7 else (0:Int)),Zb (bif Nat.blt 8 x49.1 then bX z1 8 else (0:Int)),Zb (bif Nat.blt 9 x49.1 then bX z1 9 else (0:Int)),Zb (bif Nat.blt 10 x49.1 then bX z1 10 else (0:Int)),Zb (bif Nat.blt 11 x49.1 then bX z1 11 else (0:Int)),Zb (bif Nat.blt 12 x49.1 then bX z1 12 else (0:Int)),Zb (bif Nat.blt 13 x49.1 then bX z1 13 else (0:Int)),Zb (bif Nat.blt 14 x49.1 then bX z1 14 else (0:Int)),Zb (bif Nat.blt 15 x49.1 then bX z1 15 else (0:Int)),Zb (bif Nat.blt 16 x49.1 then bX z1 16 else (0:Int)),Zb (bif Nat.blt 17 x49.1 then bX z1 17 else (0:Int)),Zb (bif Nat.blt 18 x49.1 then bX z1 18 else (0:Int)),Zb (bif Nat.blt 19 x49.1 then bX z1 19 else (0:Int)),Zb (bif Nat.blt 20 x49.1 then bX z1 20 else (0:Int)),Zb (bif Nat.blt 21 x49.1 then bX z1 21 else (0:Int)),Zb (bif Nat.blt 22 x49.1 then bX z1 22 else (0:Int)),Zb (bif Nat.blt 23 x49.1 then bX z1 23 else (0:Int)),Zb (bif Nat.blt 24 x49.1 then bX z1 24 else (0:Int)),Zb (bif Nat.blt 25 x49.1 then bX z1 25 else (0:Int)),Zb (bif Nat.blt 26 x49.1 then bX z1 26 else (0:Int)),Zb (bif Nat.blt 27 x49.1 then bX z1 27 else (0:Int)),Zb (bif Nat.blt 28 x49.1 then bX z1 28 else (0:Int)),Zb (bif Nat.blt 29 x49.1 then bX z1 29 else (0:Int)),Zb (bif Nat.blt 30 x49.1 then bX z1 30 else (0:Int)),Zb (bif Nat.blt 31 x49.1 then bX z1 31 else (0:Int))]) [] (.agg (bh (bX z1))) []))))))))))
  (by kernel_rfl) ?_
 refine bM (ux) ?_
 refine bM (Cg (f) (n) (by omega)) ?_
 refine aU (fun _ hs=>hs.le (by repeat' (first|exact trivial|(first|exact aw.refl _|exact aJ (by omega)|exact aw.nil rfl|exact aw.of_eq (congrArg (AV.aZ _ _ _) (by first|omega|(dsimp only;omega)))|exact aw.of_eq (congrArg (AV.int _) (by first|omega|(dsimp only;omega))))|refine And.intro ?_ ?_)) (⟨by exact aH.refl _,OL h0,trivial⟩)) (fun x2=>?_)
 try (have q2:=x2.2;dsimp only at q2)
 refine aL (fun h3=>?_) (fun h3=>?_)
 ·have g3:=af h3
  refine aD (by rw [w64 hn (by omega)];omega) ?_
  refine bM (Bm (fun (i:Nat)=>ed n f (i+toNat (↑(64*x2.1):Int))) (toNat (wrap .i64 ((↑(64*x2.1):Int)+(64:Int))) - toNat (↑(64*x2.1):Int)) (by (rw [w64 hn (by omega)];omega)) (by exact fun i _=>DY hf _)) ?_
  refine aD (by omega) ?_
  refine aU (fun _ hs=>hs.le (⟨by exact aw.refl _,by exact aw.refl _,by exact aw.refl _,by exact aw.refl _,by exact aw.refl _,aw.ia rfl (fun i j _ _=>congrArg _ (hw x2.1 _ i (fun q _=>congrArg (ed n f) (by (try simp only [Int.toNat_natCast]);omega)))),by exact aw.refl _,by exact aw.refl _,trivial⟩) (⟨by exact aH.refl _,by exact aH.refl _,aH.fnF rfl (fun i _=>((hR x2.1).z i).symm),trivial⟩)) (fun x7=>?_)
  try (have q7:=x7.2;dsimp only at q7)
  refine aL (fun h8=>?_) (fun h8=>?_)
  ·have g8:=af h8
   refine aD (by omega) ?_
   refine aD (by omega) ?_
   refine aM ((fun (x:Int)=>fG x (6:Nat)) (R x2.1 x7.1 (4)) (by omega) (by omega)) ?_
   refine aD (by omega) ?_
   refine aM ((fun (x:Int)=>fG x (11:Nat)) (R x2.1 x7.1 (4)) (by omega) (by omega)) ?_
   refine aD (by omega) ?_
   refine aM ((fun (x:Int)=>fG x (25:Nat)) (R x2.1 x7.1 (4)) (by omega) (by omega)) ?_
   refine aD (by omega) ?_
   refine aD (by omega) ?_
   refine aD (by omega) ?_
   refine aD (by omega) ?_
   refine aD (by omega) ?_
   refine aD (by omega) ?_
   refine aD (by omega) ?_
   refine aM ((fun (x:Int)=>fG x (2:Nat)) (R x2.1 x7.1 (0)) (by omega) (by omega)) ?_
   refine aD (by omega) ?_
   refine aM ((fun (x:Int)=>fG x (13:Nat)) (R x2.1 x7.1 (0)) (by omega) (by omega)) ?_
   refine aD (by omega) ?_
   refine aM ((fun (x:Int)=>fG x (22:Nat)) (R x2.1 x7.1 (0)) (by omega) (by omega)) ?_
   refine aD (by omega) ?_
   refine aD (by omega) ?_
   refine aD (by omega) ?_
   refine aD (by omega) ?_
   refine aD (by omega) ?_
   refine aD (by omega) ?_
   refine aD (by omega) ?_
   refine aD (by omega) ?_
   refine aD (by omega) ?_
   refine aD (by omega) ?_
   refine aD (by omega) ?_
   refine aD (by omega) ?_
   refine aD (by omega) ?_
   exact aN (⟨x7.1+1,by omega⟩) (fun _ hs=>hs.le (by repeat' (first|exact trivial|(first|exact aw.refl _|exact aJ (by omega)|exact aw.nil rfl|exact aw.of_eq (congrArg (AV.aZ _ _ _) (by first|omega|(dsimp only;omega)))|exact aw.of_eq (congrArg (AV.int _) (by first|omega|(dsimp only;omega))))|refine And.intro ?_ ?_)) (⟨by exact aH.refl _,by exact aH.refl _,Kh (hR x2.1) (by rw [(hR x2.1).s0];simp only [Nat.zero_add,Int.toNat_natCast,Nat.add_zero];rfl) (by rw [(hR x2.1).s4];simp only [Nat.zero_add,Int.toNat_natCast,Nat.add_zero];rfl),trivial⟩)) (by (dsimp only;omega))
  ·have g8:=aa h8
   refine aU (fun _ hs=>hs.le (by repeat' (first|exact trivial|(first|exact aw.refl _|exact aJ (by omega)|exact aw.nil rfl|exact aw.of_eq (congrArg (AV.aZ _ _ _) (by first|omega|(dsimp only;omega)))|exact aw.of_eq (congrArg (AV.int _) (by first|omega|(dsimp only;omega))))|refine And.intro ?_ ?_)) (by repeat' (first|exact trivial|(first|exact aH.refl _|exact aH.bw|exact aH.zero|exact aH.push rfl rfl|exact aH.cm rfl|exact aH.len (by omega)|exact aH.row (by repeat' (first|exact trivial|(first|exact aw.refl _|exact aJ (by omega)|exact aw.nil rfl|exact aw.of_eq (congrArg (AV.aZ _ _ _) (by first|omega|(dsimp only;omega)))|exact aw.of_eq (congrArg (AV.int _) (by first|omega|(dsimp only;omega))))|refine And.intro ?_ ?_)))|refine And.intro ?_ ?_))) (fun x42=>?_)
   try (have q42:=x42.2;dsimp only at q42)
   refine aL (fun h43=>?_) (fun h43=>?_)
   ·have g43:=af h43
    refine aD (by omega) ?_
    refine aD (by omega) ?_
    refine aD (by omega) ?_
    exact aN (⟨x42.1+1,by omega⟩) (fun _ hs=>hs.le (by repeat' (first|exact trivial|(first|exact aw.refl _|exact aJ (by omega)|exact aw.nil rfl|exact aw.of_eq (congrArg (AV.aZ _ _ _) (by first|omega|(dsimp only;omega)))|exact aw.of_eq (congrArg (AV.int _) (by first|omega|(dsimp only;omega))))|refine And.intro ?_ ?_)) (⟨by exact aH.refl _,aH.ML (i0:=x42.1) (G:=fun q=>bif Nat.blt q (x42.1+1) then ST (x2.1+1) q else ST x2.1 q) (by
                                                                                                     have e:x7.1=64:=by omega
                                                                                                     simp only [Nat.zero_add,Nat.add_zero,Int.toNat_natCast,dh (Nat.le_refl x42.1),cy (Nat.lt_succ_self x42.1),cond_true,cond_false,e]
                                                                                                     exact (hS x2.1 x42.1).symm) (fun q _ he=>oY (F:=ST (x2.1+1)) (z:=ST x2.1) he),by exact aH.refl _,trivial⟩)) (by (dsimp only;omega))
   ·have g43:=aa h43
    exact aN (⟨x2.1+1,by omega⟩) (fun _ hs=>hs.le (⟨by exact aw.refl _,by exact aw.refl _,by exact aw.refl _,by exact aw.refl _,aw.of_eq (congrArg _ (w64 hn (by omega))),trivial⟩) (⟨by exact aH.refl _,aH.fnF rfl (fun q hq=>by rw [cy (by omega)];rfl),trivial⟩)) (by (dsimp only;omega))
 ·have g3:=aa h3
  refine aU (fun _ hs=>hs.le (by repeat' (first|exact trivial|(first|exact aw.refl _|exact aJ (by omega)|exact aw.nil rfl|exact aw.of_eq (congrArg (AV.aZ _ _ _) (by first|omega|(dsimp only;omega)))|exact aw.of_eq (congrArg (AV.int _) (by first|omega|(dsimp only;omega))))|refine And.intro ?_ ?_)) (⟨by exact aH.refl _,aH.fnF rfl (fun q _=>by
                                                                                                     have e:x2.1=bj n / 64:=by omega
                                                                                                     rw [e]),qW (fun j=>rfl),trivial⟩)) (fun x49=>?_)
  refine aL (fun h50=>?_) (fun h50=>?_)
  ·have g50:=af h50
   refine aD (by rw [(q4 (by omega)).1];omega) ?_
   refine aD (by rw [(q4 (by omega)).2];omega) ?_
   refine aD (by omega) ?_
   exact aN (⟨x49.1+1,by omega⟩) (fun _ hs=>hs.le (by repeat' (first|exact trivial|(first|exact aw.refl _|exact aJ (by omega)|exact aw.nil rfl|exact aw.of_eq (congrArg (AV.aZ _ _ _) (by first|omega|(dsimp only;omega)))|exact aw.of_eq (congrArg (AV.int _) (by first|omega|(dsimp only;omega))))|refine And.intro ?_ ?_)) (⟨by exact aH.refl _,by exact aH.refl _,aH.CG (P:=fun i j=>Nat.beq i 0&&Nat.beq j (0+toNat ((x49.1:Nat):Int))) (c0:=x49.1) (G:=fun j=>bif Nat.blt j (x49.1+1) then bX (ST (bj n / 64)) j else 0) (fun j _=>by show (true&&Nat.beq j (0+x49.1))=_;rw [Nat.zero_add];rfl) (by rw [cy (Nat.lt_succ_self _)];exact Nc (by omega)) (fun j _ he=>jx he),trivial⟩)) (by (dsimp only;omega))
  ·have g50:=aa h50
   exact aq (aw.of_eq (by
                                                                                                     show AV.agg ((List.range 32).map fun j=>.int .u8 (bif Nat.blt j x49.1 then bX (ST (bj n / 64)) j else 0))=AV.agg ((List.range 32).map fun j=>.int .u8 (bX (ST (bj n / 64)) j))
                                                                                                     exact congrArg AV.agg (List.map_congr_left fun j hj=>by rw [cy (by have:=List.mem_range.1 hj;omega)];rfl)))
theorem CC (f:Nat→Int) (n:Nat) (hn:n≤1099511627776) (hf:cC f n):Pure Tryz.prog aW 127 [dn n f] (.agg (bh (eU n f))) :=
 J6 f n hn hf (fun k=>bg (fun i=>ed n f (64*k+i))) (nF (ed n f)) (fun k=>j7 (nF (ed n f) k) (bg (fun i=>ed n f (64*k+i)))) rfl (fun _ _ i h=>wO h i) (fun _=>rnd _ _) (fun _ _=>rfl)
end Go.Proofs.YtgnfjlekpgjehaaGreatDoor

namespace Go.Sp
open Go.IntKind (wrap)
open Int (toNat)
open Go Go.Am
def gB (s:ByteArray) (i:Nat):Int:=(s.data.toList.getD i 0).toNat
def Ew (t f:Nat→Int) (i:Nat):Int:=bif Nat.blt i 64 then bif Nat.blt i 32 then t i else t (i - 32) else f (i - 64)
def eX (s:ByteArray) (n:Nat) (f:Nat→Int):Nat→Int:=eU (64+n) (Ew (eU s.size (gB s)) f)
theorem I8 (s:ByteArray) (n:Nat):cC (gB s) n:=fun i _=>by
 have:=(s.data.toList.getD i 0).toNat_lt
 grind [gB]
theorem pS (n:Nat) (f:Nat→Int) (i:Nat):0≤eU n f i∧eU n f i<256:=by simp [eU,bX,Int.emod_nonneg,Int.emod_lt_of_pos]
theorem EJ (s:ByteArray) (n:Nat) (f:Nat→Int) (hf:cC f n):cC (Ew (eU s.size (gB s)) f) (64+n):=fun i hi=>by
 unfold Ew
 by_cases h:i<64
 ·rw [cy h]
  cases Nat.blt i 32<;>simp_all [pS]
 ·rw [dh (Nat.le_of_not_lt h)]
  exact hf _ (by omega)
def cB (f:Nat→Int) (m:Int):Nat→Int
 | 0=>0
 | i+1=>(cB f m i*256+f i)%m
theorem pd {f:Nat→Int} {m:Int} (hm:0<m):∀ i,0≤cB f m i∧cB f m i<m
 | 0=>⟨Int.le_refl _,hm⟩
 | _+1=>⟨Int.emod_nonneg _ (by omega),Int.emod_lt_of_pos _ hm⟩
theorem BW {f:Nat→Int} {m:Int} (i:Nat):(cB f m i*(256%m)%m+f i)%m=cB f m (i+1):=by
 show _=(cB f m i*256+f i)%m
 rw [Int.emod_add_emod,← Int.emod_add_emod (cB f m i*(256%m)),Int.mul_emod,Int.emod_emod_of_dvd _ (Int.dvd_refl m),← Int.mul_emod,Int.emod_add_emod]
theorem E8 {m:Int} (hm:0<m) (hm':m<2305843009213693952):Int.tmod 256 m=256%m∧0≤256%m∧256%m<m:=by
 have h1:0≤256%m:=Int.emod_nonneg _ (by omega)
 simp_all [Int.emod_lt_of_pos,bY]
theorem Mr {f:Nat→Int} {m:Int} (hm:0<m) (hm':m<2305843009213693952) (hf:cC f 32) {i:Nat} (hi:i<16):IntKind.wrap .i64 (cB f m i*Int.tmod 256 m%m+IntKind.wrap .i64 (aE (aO (bh f) (0+(i:Int).toNat))))%m=cB f m (i+1):=by
 have a1:0≤cB f m i*(256%m)%m:=Int.emod_nonneg _ (by omega)
 have a2:cB f m i*(256%m)%m<m:=Int.emod_lt_of_pos _ hm
 have a3:=hf i (by omega)
 rw [Int.toNat_natCast,Nat.zero_add,eL (by omega),(E8 hm hm').1]
 grind [IntKind.wrap,wI,BW]
theorem zX {n:Nat} {f g:Nat→Int} (h:∀ i,i<n→f i=g i):eU n f=eU n g:=by
 have e:ed n f=ed n g:=funext fun i=>by grind [iM,dh,Nat.le_of_not_lt,ed]
 grind [eU]
theorem Ey {t f:Nat→Int} (i:Nat):(bif Nat.blt (i+0) 64 then bif Nat.blt (i+0) 32 then aE (aO (bh t) (0+(0+(i+0)))) else aE (aO (bh t) (0+(0+(i+0 - 32)))) else f (i+0 - 64))=Ew t f i:=by
 unfold Ew
 rw [Nat.add_zero]
 by_cases h:i<64
 ·rw [cy h]
  by_cases h':i<32
  ·simp_all [cy,Nat.zero_add,eL]
  ·have e:=eL (g:=t) (show i - 32<32 by omega)
   simp_all [dh,Nat.zero_add]
 grind [dh,Nat.le_of_not_lt]
theorem uF {f g:Nat→Int} {n:Nat} (h:∀ i,f i=g i) (hg:cC g n):cC f n:=fun i hi=>by
 rw [h i]
 exact hg i hi
def iJ (x m:Int):Nat→Int
 | 0=>x
 | k+1=>(iJ x m k+iJ x m k)%m
theorem K7 {x m:Int} (hm:0<m) (h:0≤x∧x<m):∀ k,0≤iJ x m k∧iJ x m k<m
 | 0=>h
 | _+1=>⟨Int.emod_nonneg _ (by omega),Int.emod_lt_of_pos _ hm⟩
theorem DC {x m:Int} (h:0≤x∧x<m):∀ k,iJ x m k=x*2^k%m
 | 0=>by
  show x=_
  simp_all [Int.pow_zero,Int.mul_one,Int.emod_eq_of_lt]
 | k+1=>by
  show (iJ x m k+iJ x m k)%m=_
  rw [DC h k,← Int.add_emod,Int.pow_succ,← Int.mul_assoc]
  congr 1
  omega
theorem G6 {f:Nat→Int} {m:Int} (hm:0<m) (i:Nat):(iJ (cB f m i) m 8+f i%m)%m=cB f m (i+1):=by
 rw [DC (pd hm i),← Int.add_emod]
 rfl
theorem Gk {f:Nat→Int} {m:Int} (hm:0<m) (hf:cC f 32) {i k:Nat} (hi:i<16) (hk:k=8) :
  (iJ (cB f m i) m k+Int.tmod (IntKind.wrap .i64 (aE (aO (bh f) (0+(0+(i:Int).toNat))))) m)%m=cB f m (i+1):=by
 have a3:=hf i (by omega)
 subst hk
 rw [Int.toNat_natCast,Nat.zero_add,Nat.zero_add,eL (by omega),wI (n:=f i) (by omega) (by omega),bY (by omega),G6 hm]
theorem F3 {f:Nat→Int} {m:Int} (hm:0<m) (hf:cC f 32) {i:Nat} (hi:i<16) :
  0≤Int.tmod (IntKind.wrap .i64 (aE (aO (bh f) (0+(0+(i:Int).toNat))))) m∧Int.tmod (IntKind.wrap .i64 (aE (aO (bh f) (0+(0+(i:Int).toNat))))) m<m:=by
 have a3:=hf i (by omega)
 rw [Int.toNat_natCast,Nat.zero_add,Nat.zero_add,eL (by omega),wI (n:=f i) (by omega) (by omega),bY (by omega)]
 exact ⟨Int.emod_nonneg _ (by omega),Int.emod_lt_of_pos _ hm⟩
end Go.Sp

namespace Go.Proofs.YtgnfjlekpgjehaaGreatDoor
open Go.IntKind (wrap)
open Int (toNat)
open Go Go.Am Go.Sp
set_option maxRecDepth 100000
def ow2:FuncId→Option (List Bool):=fun f=>bif Nat.beq f 116||Nat.beq f 128 then some [false] else none
theorem BA (f g:Nat→Int) (n:Nat) (hn:n≤1099511627776):bC Tryz.prog aW 128 [] [dn n f,.agg (bh g)] (.aZ 0 1 0 (n+32)) [some ⟨1,n+32,true,.fn fun i _=>.int .u8 (bif Nat.blt i n then f i else g (i - n))⟩]:=by
 refine bO (own:=bk) (hand:=true) Tryz.func128 (by kernel_rfl) mixed (by kernel_rfl)
  (let y0:=(fun (x:{ x:Nat // x≤32 })=>aY [3,5,6] [.own 0 32 0 0 32,.aZ 1 1 0 (n+x.1),Zi x.1] [some ⟨32,1,true,.ba [bh g]⟩,some ⟨1,n+x.1,true,.fn fun i x=>Zb (bif Nat.blt i n then f i else g (i - n))⟩]);let y1:=(fun (x:{ x:Nat // x≤32 })=>32 - x.1);(.bf ((0+n)*1≤140737488355328) (.loop ({ x:Nat // x≤32 }) y0 y1 (⟨0,Nat.zero_le 32⟩) [3,5,6] [0,32] [.own 0 32 0 0 32,.aZ 1 1 0 (0+n),Zi 0] [some ⟨32,1,true,.ba [bh g]⟩,some ⟨1,0+n,true,.fn fun i j=>Zb (f i)⟩] (fun x1=>(.br (decide ((x1.1:Int)<32)) (.bf (0≤(x1.1:Int)∧(x1.1:Int)<32) (.bf ((n+x1.1+1)*1≤140737488355328) (.again (be 0 y0 y1 x1) [3,5,6] [0,58] [.own 0 32 0 0 32,.aZ 1 1 0 (n+x1.1+1),Zi (wrap .i64 ((x1.1:Int)+1))] [some ⟨32,1,true,.ba [bh g]⟩,some ⟨1,n+x1.1+1,true,.fn fun i j=>Zb (bif Nat.blt i (n+x1.1) then bif Nat.blt i n then f i else g (i - n) else aE (aO [Zb (aE (bz.at (Ob.f (Ob.seen ⟨32,1,true,.ba [bh g]⟩)) 0 (0+toNat (↑(x1.1):Int))))] j))⟩]))) (.out (.aZ 0 1 0 (n+x1.1)) [some ⟨1,n+x1.1,true,.fn fun i j=>Zb (bif Nat.blt i n then f i else g (i - n))⟩] (.aZ 0 1 0 (n+32)) [some ⟨1,n+32,true,.fn fun i x=>Zb (bif Nat.blt i n then f i else g (i - n))⟩]))))))
  (by kernel_rfl) ?_
 refine aD (by omega) ?_
 refine aU (fun _ hs=>hs.le (⟨.refl _,aw.of_eq (congrArg (AV.aZ 1 1 0) (by dsimp only;omega)),.refl _,trivial⟩) (⟨.refl _,Hb,trivial⟩)) (fun x1=>?_)
 try (have q1:=x1.2;dsimp only at q1)
 refine aL (fun h2=>?_) (fun h2=>?_)
 ·have g2:=af h2
  refine aD (by omega) ?_
  refine aD (by omega) ?_
  exact aN (⟨x1.1+1,by omega⟩) (fun _ hs=>hs.le (⟨.refl _,aw.of_eq (congrArg (AV.aZ 1 1 0) (by dsimp only;omega)),aJ (by omega),trivial⟩) (⟨.refl _,aH.mP (F:=fun i=>bif Nat.blt i n then f i else g (i - n)) (by dsimp only;omega) (by show aE (aO (bh g) (0+x1.1))=bif Nat.blt (n+x1.1) n then f (n+x1.1) else g (n+x1.1 - n);rw [Nat.zero_add,dh (by omega),eL (by omega)];show g _=g _;congr 1;omega),trivial⟩)) (by dsimp only;omega)
 ·have g2:=aa h2
  exact cP (aw.of_eq (congrArg (AV.aZ 0 1 0) (by omega))) (⟨⟨rfl,by simp only;omega,rfl,fun i j _ _=>aw.refl _⟩,trivial⟩)
theorem FR (g:Nat→Int):bC Tryz.prog aW 128 [] [.bc,.agg (bh g)] (.aZ 0 1 0 32) [some ⟨1,32,true,.fn fun i _=>.int .u8 (g i)⟩] :=
 (BA (fun _=>0) g 0 (by omega)).via ⟨aw.bc,aw.refl _,trivial⟩
theorem fw (s:ByteArray) (hs:s.size≤100) (f:Nat→Int) (n:Nat) (hn:n≤1099511627000) (hf:cC f n):Pure Tryz.prog aW 83 [.str s,dn n f] (.agg (bh (eX s n f))):=by
 refine ar (own:=ow2) Tryz.func83 (by kernel_rfl) mixed (by kernel_rfl)
  (let z1:=(ByteArray.size s);let z0:=(Array.toList (ByteArray.data s));let y0:AV:=(.agg (bh (eU (64+n) fun i=>bif Nat.blt (i+0) 64 then bif Nat.blt (i+0) 32 then eU z1 (fun i=>(↑(UInt8.toNat (List.getD z0 i (0:UInt8))):Int)) (i+0+0) else eU z1 (fun i=>(↑(UInt8.toNat (List.getD z0 i (0:UInt8))):Int)) (i+0 - 32) else f (i+0 - 64))));(.sc true 127 [.aG 1 z1 fun i x=>Zb (↑(UInt8.toNat (List.getD z0 i (0:UInt8))):Int)] (.agg (bh (eU z1 fun i=>(↑(UInt8.toNat (List.getD z0 i (0:UInt8))):Int)))) (.gc 128 [] [.bc,.agg (bh (eU z1 fun i=>(↑(UInt8.toNat (List.getD z0 i (0:UInt8))):Int)))] (.aZ 0 1 0 32) [some ⟨1,32,true,.fn fun i x=>Zb (eU z1 (fun i=>(↑(UInt8.toNat (List.getD z0 i (0:UInt8))):Int)) i)⟩] (.gc 128 [] [.aG 1 32 fun r k=>Zb (eU z1 (fun i=>(↑(UInt8.toNat (List.getD z0 i (0:UInt8))):Int)) (r+0)),.agg (bh (eU z1 fun i=>(↑(UInt8.toNat (List.getD z0 i (0:UInt8))):Int)))] (.aZ 0 1 0 (32+32)) [some ⟨1,32+32,true,.fn fun i x=>Zb (bif Nat.blt i 32 then eU z1 (fun i=>(↑(UInt8.toNat (List.getD z0 i (0:UInt8))):Int)) (i+0) else eU z1 (fun i=>(↑(UInt8.toNat (List.getD z0 i (0:UInt8))):Int)) (i - 32))⟩] (.bf ((64+n)*1≤140737488355328) (.sc true 127 [.aG 1 (64+n) fun r k=>Zb (bif Nat.blt (r+0) 64 then bif Nat.blt (r+0) 32 then eU z1 (fun i=>(↑(UInt8.toNat (List.getD z0 i (0:UInt8))):Int)) (r+0+0) else eU z1 (fun i=>(↑(UInt8.toNat (List.getD z0 i (0:UInt8))):Int)) (r+0 - 32) else f (r+0 - 64))] y0 (.out y0 [] (.agg (bh (eX s n f))) [])))))))
  (by kernel_rfl) ?_
 refine aM (CC (fun (i:Nat)=>(↑(UInt8.toNat (List.getD (Array.toList (ByteArray.data s)) i (0:UInt8))):Int)) (ByteArray.size s) (by omega) (by exact I8 s _)) ?_
 refine fU (FR (eU (ByteArray.size s) fun (i:Nat)=>(↑(UInt8.toNat (List.getD (Array.toList (ByteArray.data s)) i (0:UInt8))):Int))) ?_
 refine fU (BA (fun (i:Nat)=>eU (ByteArray.size s) (fun (i:Nat)=>(↑(UInt8.toNat (List.getD (Array.toList (ByteArray.data s)) i (0:UInt8))):Int)) (i+0)) (eU (ByteArray.size s) fun (i:Nat)=>(↑(UInt8.toNat (List.getD (Array.toList (ByteArray.data s)) i (0:UInt8))):Int)) (32) (by omega)) ?_
 refine aD (by omega) ?_
 refine aM (CC (fun (i:Nat)=>bif Nat.blt (i+0) (64) then bif Nat.blt (i+0) (32) then eU (ByteArray.size s) (fun (i:Nat)=>(↑(UInt8.toNat (List.getD (Array.toList (ByteArray.data s)) i (0:UInt8))):Int)) (i+0+0) else eU (ByteArray.size s) (fun (i:Nat)=>(↑(UInt8.toNat (List.getD (Array.toList (ByteArray.data s)) i (0:UInt8))):Int)) (i+0 - 32) else f (i+0 - 64)) (64+n) (by omega) (by exact EJ s n f hf)) ?_
 exact aq (aw.refl _)
theorem nq (f:Nat→Int) (m:Int) (hm:0<m) (hm':m<2305843009213693952) (hf:cC f 32):Pure Tryz.prog aW 274 [.agg (bh f),.int .i64 m] (.int .i64 (cB f m 16)):=by
 have r:=E8 hm hm'
 refine ar (own:=bk) Tryz.func274 (by kernel_rfl) mixed (by kernel_rfl)
  (let y0:=(fun (x:{ x:Nat // x≤16 })=>aY [1,2,5,6] [Zi m,.own 0 32 0 0 32,Zi (cB f m (x.1)),Zi x.1] [some ⟨32,1,true,.ba [bh f]⟩]);let y1:=(fun (x:{ x:Nat // x≤16 })=>16 - x.1);(.loop ({ x:Nat // x≤16 }) y0 y1 (⟨0,Nat.zero_le 16⟩) [1,2,5,6] [0] [Zi m,.own 0 32 0 0 32,Zi 0,Zi 0] [some ⟨32,1,true,.ba [bh f]⟩] (fun x0=>let z0:Int:=(wrap .i64 (cB f m x0.1*Int.tmod (256:Int) m%m+wrap .i64 (aE (aO (bh f) (0+toNat (x0.1:Int)))))%m);(.br (decide ((x0.1:Int)<16)) (.bf (m≠(0:Int)) (.sc true 187 [Zi (cB f m x0.1),Zi (Int.tmod (256:Int) m),Zi m] (Zi (cB f m x0.1*Int.tmod (256:Int) m%m)) (.bf (0≤(x0.1:Int)∧(x0.1:Int)<32) (.sc true 282 [Zi (wrap .i64 (cB f m x0.1*Int.tmod (256:Int) m%m+wrap .i64 (aE (aO (bh f) (0+toNat (x0.1:Int)))))),Zi m] (Zi z0) (.again (be 0 y0 y1 x0) [1,2,5,6] [0] [Zi m,.own 0 32 0 0 32,Zi z0,Zi (wrap .i64 ((x0.1:Int)+1))] [some ⟨32,1,true,.ba [bh f]⟩]))))) (.out (Zi (cB f m x0.1)) [] (Zi (cB f m 16)) [])))))
  (by kernel_rfl) ?_
 refine aU (fun _ hs=>hs.le (⟨.refl _,.refl _,.refl _,.refl _,trivial⟩) (⟨.refl _,trivial⟩)) (fun x0=>?_)
 try (have q0:=x0.2;dsimp only at q0)
 have n0:=pd (f:=f) hm x0.1
 refine aL (fun h1=>?_) (fun h1=>?_)
 ·have g1:=af h1
  refine aD (by omega) ?_
  refine aM (iK (cB f m x0.1) (Int.tmod (256:Int) m) (m) (by omega) (by omega) (by omega) (by omega) (by omega)) ?_
  refine aD (by omega) ?_
  refine aM (ly (wrap .i64 (cB f m x0.1*Int.tmod (256:Int) m%m+wrap .i64 (aE (aO (bh f) (0+toNat (↑x0.1:Int)))))) (m) (by omega) (by omega)) ?_
  exact aN (⟨x0.1+1,by omega⟩) (fun _ hs=>hs.le (⟨.refl _,.refl _,aw.of_eq (congrArg _ (Mr hm hm' hf (by omega))),aJ (by omega),trivial⟩) (⟨.refl _,trivial⟩)) (by dsimp only;omega)
 ·have g1:=aa h1
  exact aq (aw.of_eq (congrArg _ (by rw [show x0.1=16 by omega])))
theorem gm (s:ByteArray) (hs:s.size≤100) (h1:1≤s.size) (f:Nat→Int) (n:Nat) (hn:n≤1099511627000) (hf:cC f n):Pure Tryz.prog aW 62 [.str s,dn n f] (.aT [.agg (bh (eX s n f)),.int .i64 0]):=by
 refine ar (own:=ow2) Tryz.func62 (by kernel_rfl) mixed (by kernel_rfl)
  (let z3:=(ByteArray.size s);let z2:=(Array.toList (ByteArray.data s));let z1:=(bh (eU z3 fun i=>(↑(UInt8.toNat (List.getD z2 i (0:UInt8))):Int)));let z0:=(bh (eU (64+n) fun i=>bif Nat.blt (i+0) 64 then bif Nat.blt (i+0) 32 then aE (aO (bh (eU z3 fun i=>(↑(UInt8.toNat (List.getD z2 i (0:UInt8))):Int))) (0+(0+(i+0)))) else aE (aO (bh (eU z3 fun i=>(↑(UInt8.toNat (List.getD z2 i (0:UInt8))):Int))) (0+(0+(i+0 - 32)))) else f (i+0 - 64)));let y0:AV:=(.aT [.agg (bh (eX s n f)),Zi 0]);(.br (decide ((↑z3:Int)<1)||decide ((↑z3:Int)>100)) (.out (.aT [.agg z32,Zi 2]) [] y0 []) (.sc true 115 [.aG 1 z3 fun i x=>Zb (↑(UInt8.toNat (List.getD z2 i (0:UInt8))):Int)] (.agg z1) (.gc 116 [] [.aG 1 32 fun r x=>Zb (aE (aO z1 (0+(0+r))))] (.aZ 0 1 0 32) [some ⟨1,32,true,.fn fun i x=>Zb (aE (aO (bh (eU z3 fun i=>(↑(UInt8.toNat (List.getD z2 i (0:UInt8))):Int))) (0+(0+i))))⟩] (.bf (64≤140737488355328) (.bf ((64+n)*1≤140737488355328) (.sc true 115 [.aG 1 (64+n) fun r k=>Zb (bif Nat.blt (r+0) 64 then bif Nat.blt (r+0) 32 then aE (aO z1 (0+(0+(r+0)))) else aE (aO z1 (0+(0+(r+0 - 32)))) else f (r+0 - 64))] (.agg z0) (.out (.aT [.agg z0,Zi 0]) [] y0 []))))))))
  (by kernel_rfl) ?_
 refine aL (fun h0=>?_) (fun h0=>?_)
 ·have g0:=(az af af) h0
  exact aq ((by exfalso;omega))
 ·have g0:=(au aa aa) h0
  refine aM (Jl (fun (i:Nat)=>(↑(UInt8.toNat (List.getD (Array.toList (ByteArray.data s)) i (0:UInt8))):Int)) (ByteArray.size s) (by omega) (by exact I8 s _)) ?_
  refine fU (qR (fun (i:Nat)=>aE (aO (bh (eU (ByteArray.size s) fun (i:Nat)=>(↑(UInt8.toNat (List.getD (Array.toList (ByteArray.data s)) i (0:UInt8))):Int))) (0+(0+i)))) (32) (by omega)) ?_
  refine aD (by omega) ?_
  refine aD (by omega) ?_
  refine aM (Jl (fun (i:Nat)=>bif Nat.blt (i+0) (64) then bif Nat.blt (i+0) (32) then aE (aO (bh (eU (ByteArray.size s) fun (i:Nat)=>(↑(UInt8.toNat (List.getD (Array.toList (ByteArray.data s)) i (0:UInt8))):Int))) (0+(0+(i+0)))) else aE (aO (bh (eU (ByteArray.size s) fun (i:Nat)=>(↑(UInt8.toNat (List.getD (Array.toList (ByteArray.data s)) i (0:UInt8))):Int))) (0+(0+(i+0 - 32)))) else f (i+0 - 64)) (64+n) (by omega) (by exact uF (fun i=>Ey i) (EJ s n f hf))) ?_
  exact aq (aw.of_eq (congrArg (fun t=>AV.aT [.agg (bh t),.int .i64 0]) (zX fun i _=>Ey i)))
theorem zv (a b m:Int) (ha:0≤a∧a<m) (hb:0≤b∧b<m) (hm':m<2305843009213693952):Pure Tryz.prog aW 308 [.int .i64 a,.int .i64 b,.int .i64 m] (.aT [.int .i64 ((a+b)%m),.int .i64 0]):=by
 have h:=J5 a b m
 rw [js (by omega) hm' ha.1 ha.2 hb.1 hb.2,Lx] at h
 exact h
theorem py (f:Nat→Int) (m:Int) (hm:0<m) (hm':m<2305843009213693952) (hf:cC f 32):Pure Tryz.prog aW 261 [.agg (bh f),.int .i64 m] (.aT [.int .i64 (cB f m 16),.int .i64 0]):=by
 refine ar (own:=bk) Tryz.func261 (by kernel_rfl) mixed (by kernel_rfl)
  (let z1:AV:=(.aT [Zi (cB f m 16),Zi 0]);let y0:=(fun (x:{ x:Nat // x≤16 })=>aY [1,15,16,6,17] [Zi m,.aG 1 16 fun r x=>Zb (aE (aO (bh f) (0+(0+r)))),Zi 16,Zi (cB f m (x.1)),Zi x.1] []);let y1:=(fun (x:{ x:Nat // x≤16 })=>16 - x.1);let y2:=(fun (x:{ x:Nat // x≤8 })=>8 - x.1);(.br (decide (m<1)||decide (m≥2305843009213693952)) (.out (.aT [Zi 0,Zi 1]) [] z1 []) (.bf ((0:Int)≤16∧(16:Int)≤32) (.loop ({ x:Nat // x≤16 }) y0 y1 (⟨0,Nat.zero_le 16⟩) [1,15,16,6,17] [] [Zi m,.aG 1 16 fun r x=>Zb (aE (aO (bh f) (0+(0+r)))),Zi 16,Zi 0,Zi 0] [] (fun x3=>let z0:=(aE (aO (bh f) (0+(0+toNat (x3.1:Int)))));(.br (decide ((x3.1:Int)<16)) (.bf (0≤(x3.1:Int)∧(x3.1:Int)<16) (.loop ({ x:Nat // x≤8 }) (fun x=>aY [1,8,15,16,17,6,21] [Zi m,Zb z0,.aG 1 16 fun r x=>Zb (aE (aO (bh f) (0+(0+r)))),Zi 16,Zi x3.1,Zi (iJ (cB f m (x3.1)) m (x.1)),Zi x.1] []) y2 (⟨0,Nat.zero_le 8⟩) [1,8,15,16,17,6,21] [] [Zi m,Zb z0,.aG 1 16 fun r x=>Zb (aE (aO (bh f) (0+(0+r)))),Zi 16,Zi x3.1,Zi (cB f m x3.1),Zi 0] [] (fun x6=>(.br (decide ((x6.1:Int)<8)) (.sc true 308 [Zi (iJ (cB f m x3.1) m x6.1),Zi (iJ (cB f m x3.1) m x6.1),Zi m] (.aT [Zi ((iJ (cB f m x3.1) m x6.1+iJ (cB f m x3.1) m x6.1)%m),Zi 0]) (.again (be 0 (fun x=>aY [1,8,15,16,17,6,21] [Zi m,Zb z0,.aG 1 16 fun r x=>Zb (aE (aO (bh f) (0+(0+r)))),Zi 16,Zi x3.1,Zi (iJ (cB f m (x3.1)) m (x.1)),Zi x.1] []) y2 x6) [1,8,15,16,17,6,21] [] [Zi m,Zb z0,.aG 1 16 fun r x=>Zb (aE (aO (bh f) (0+(0+r)))),Zi 16,Zi x3.1,Zi ((iJ (cB f m x3.1) m x6.1+iJ (cB f m x3.1) m x6.1)%m),Zi (wrap .i64 ((x6.1:Int)+1))] [])) (.bf (m≠(0:Int)) (.sc true 308 [Zi (iJ (cB f m x3.1) m x6.1),Zi (Int.tmod (wrap .i64 z0) m),Zi m] (.aT [Zi ((iJ (cB f m x3.1) m x6.1+Int.tmod (wrap .i64 z0) m)%m),Zi 0]) (.again (be 0 y0 y1 x3) [1,15,16,6,17] [] [Zi m,.aG 1 16 fun r x=>Zb (aE (aO (bh f) (0+(0+r)))),Zi 16,Zi ((iJ (cB f m x3.1) m x6.1+Int.tmod (wrap .i64 z0) m)%m),Zi (wrap .i64 ((x3.1:Int)+1))] []))))))) (.out (.aT [Zi (cB f m x3.1),Zi 0]) [] z1 [])))))))
  (by kernel_rfl) ?_
 refine aL (fun h0=>?_) (fun h0=>?_)
 ·have g0:=(az af af) h0
  exact aq ((by exfalso;omega))
 ·have g0:=(au aa aa) h0
  refine aD (by omega) ?_
  refine aU (fun _ hs=>hs.le (⟨.refl _,.refl _,.refl _,.refl _,.refl _,trivial⟩) (trivial)) (fun x3=>?_)
  try (have q3:=x3.2;dsimp only at q3)
  have n0:=pd (f:=f) hm x3.1
  refine aL (fun h4=>?_) (fun h4=>?_)
  ·have g4:=af h4
   refine aD (by omega) ?_
   refine aU (fun _ hs=>hs.le (⟨.refl _,.refl _,.refl _,.refl _,.refl _,.refl _,.refl _,trivial⟩) (trivial)) (fun x6=>?_)
   try (have q6:=x6.2;dsimp only at q6)
   have n1:=K7 hm n0 x6.1
   refine aL (fun h7=>?_) (fun h7=>?_)
   ·have g7:=af h7
    refine aM (zv (iJ (cB f m x3.1) m x6.1) (iJ (cB f m x3.1) m x6.1) (m) (by omega) (by omega) (by omega)) ?_
    exact aN (⟨x6.1+1,by omega⟩) (fun _ hs=>hs.le (⟨.refl _,.refl _,.refl _,.refl _,.refl _,.refl _,aJ (by omega),trivial⟩) (trivial)) (by dsimp only;omega)
   ·have g7:=aa h7
    refine aD (by omega) ?_
    refine aM (zv (iJ (cB f m x3.1) m x6.1) (Int.tmod (wrap .i64 (aE (aO (bh f) (0+(0+toNat (↑x3.1:Int)))))) m) (m) (by omega) (by exact F3 hm hf (by omega)) (by omega)) ?_
    exact aN (⟨x3.1+1,by omega⟩) (fun _ hs=>hs.le (⟨.refl _,.refl _,.refl _,aw.of_eq (congrArg _ (Gk hm hf (by omega) (by omega))),aJ (by omega),trivial⟩) (trivial)) (by dsimp only;omega)
  ·have g4:=aa h4
   exact aq (aw.aT ⟨aw.of_eq (congrArg _ (by rw [show x3.1=16 by omega])),aw.refl _,trivial⟩)
end Go.Proofs.YtgnfjlekpgjehaaGreatDoor

namespace Go.Sp
open Go.IntKind (wrap)
open Int (toNat)
open Go Go.Am
def dy (n:Int) (size i:Nat):Int:=n / 256^(size - 1 - i)%256
def sF (n:Int) (size t i:Nat):Int:=bif Nat.blt i (size - t) then 0 else dy n size i
theorem M8 {n:Int} {size i j:Nat} (hi:i<size) (hj:j<1):aE (aO (ck (.int .u8 0)) j)=sF n size 0 i:=by
 obtain rfl:j=0:=Nat.lt_one_iff.1 hj
 unfold sF
 rw [cy (by omega)]
 rfl
theorem BR {n:Int} {size t i:Nat} (h:size≤t):sF n size t i=dy n size i:=by grind [sF,dh]
theorem OX {n:Int} (h0:0≤n) (t:Nat):Int.tdiv (n / 256^t) 256=n / 256^(t+1):=by grind [Int.ediv_nonneg,Int.pow_nonneg,mn,Int.pow_succ,Int.ediv_ediv_of_nonneg]
theorem Lp {n:Int} (h0:0≤n) (hn:n<18446744073709551616) (t:Nat):IntKind.wrap .u64 (Int.tdiv (n / 256^t) 256)=n / 256^(t+1):=by
 have h1:0≤n / 256^(t+1):=Int.ediv_nonneg h0 (Int.pow_nonneg (by omega))
 have h2:n / 256^(t+1)≤n:=Int.ediv_le_self _ h0
 grind [OX,dx]
theorem NJ {n:Int} {size t i j:Nat} (h0:0≤n) (ht:t<size) (hj:j<1) :
  (bif Nat.beq i (toNat ((size:Int) - 1 - t)+0)&&(Nat.ble 0 j&&Nat.blt j 1) then IntKind.wrap .u8 (Int.tmod (n / 256^t) 256) else sF n size t i)=sF n size (t+1) i:=by
 obtain rfl:j=0:=Nat.lt_one_iff.1 hj
 have h:0≤n / 256^t:=Int.ediv_nonneg h0 (Int.pow_nonneg (by omega))
 have e:toNat ((size:Int) - 1 - t)+0=size - 1 - t:=by omega
 rw [e]
 by_cases hi:i=size - 1 - t
 ·subst hi
  have e2:size - 1 - (size - 1 - t)=t:=by omega
  rw [Nat.beq_refl]
  show IntKind.wrap .u8 (Int.tmod (n / 256^t) 256)=bif Nat.blt (size - 1 - t) (size - (t+1)) then 0 else n / 256^(size - 1 - (size - 1 - t))%256
  grind [dh,vX,bY]
 ·have hb:Nat.beq i (size - 1 - t)=false:=by grind [Nat.beq,absurd,Nat.eq_of_beq_eq_true]
  rw [hb]
  show (bif Nat.blt i (size - t) then 0 else dy n size i)=(bif Nat.blt i (size - (t+1)) then 0 else dy n size i)
  grind [cy,dh,Nat.le_of_not_lt]
end Go.Sp

namespace Go.Proofs.YtgnfjlekpgjehaaGreatDoor
open Go.IntKind (wrap)
open Int (toNat)
open Go Go.Am Go.Sp
set_option maxRecDepth 100000
theorem sP (n:Int) (h0:0≤n) (hn:n<18446744073709551616) (size:Nat) (hs:1≤size) (hs':size≤8):Pure Tryz.prog aW 318 [.int .u64 n,.int .i64 size] (dn size (dy n size)):=by
 refine ar (own:=bk) Tryz.func318 (by kernel_rfl) mixed (by kernel_rfl)
  (let y1:Nat:=(toNat (↑size:Int));let y0:=(fun (x:{ x:Nat // x≤size })=>aY [5,0,6] [AV.aZ 0 1 0 y1,Zu (n / 256^x.1),Zi ((↑size:Int) - 1 - (↑(x.1):Int))] [some ⟨1,size,true,bz.fn fun (i x_1:Nat)=>Zb (sF n size (x.1) i)⟩]);let y2:=(fun (x:{ x:Nat // x≤size })=>size - x.1);(.bf ((0:Int)≤(↑size:Int)∧(↑size:Int)=(↑size:Int)∧(↑(1):Int)*(↑size:Int)≤140737488355328∧(↑size:Int)≤9223372036854775807) (.loop ({ x:Nat // x≤size }) y0 y2 (⟨0,Nat.zero_le size⟩) ([5,0,6]) ([16]) ([AV.aZ 0 1 0 y1,Zu n,Zi (wrap .i64 ((↑size:Int) - 1))]) ([some ⟨1,toNat (↑size:Int),true,bz.fn fun (i j:Nat)=>Zb (aE (aO (ck (Value.int IntKind.u8 (0:Int))) j))⟩]) (fun x1=>(.br (decide ((↑size:Int) - 1 - (↑x1.1:Int)≥0)) (.bf ((0:Int)≤(↑size:Int) - 1 - (↑x1.1:Int)∧(↑size:Int) - 1 - (↑x1.1:Int)<(↑y1:Int)) (.again (be 0 y0 y2 x1) ([5,0,6]) ([0]) ([AV.aZ 0 1 0 y1,Zu (wrap .u64 (Int.tdiv (n / 256^x1.1) (256:Int))),Zi (wrap .i64 ((↑size:Int) - 1 - (↑x1.1:Int) - 1))]) ([some ⟨1,size,true,bz.fn fun (i j:Nat)=>Zb (bif Nat.beq i (toNat ((↑size:Int) - 1 - (↑x1.1:Int))+0)&&(Nat.ble 0 j&&Nat.blt j 1) then wrap .u8 (Int.tmod (n / 256^x1.1) (256:Int)) else sF n size x1.1 i)⟩]))) (.out (AV.aG 1 y1 fun (r k:Nat)=>Zb (sF n size x1.1 (r+0))) [] (dn size (dy n size)) []))))))
  (by kernel_rfl) ?_
 refine aD (by omega) ?_
 refine aU (fun _ hs=>hs.le (⟨.refl _,.of_eq (congrArg _ (by dsimp only;omega)),aw.of_eq (congrArg _ (by rw [wI (by omega) (by omega)];dsimp only;omega)),trivial⟩) (⟨⟨rfl,by rfl,rfl,fun i j hi hj=>aw.of_eq (congrArg _ (M8 hi hj))⟩,trivial⟩)) (fun x1=>?_)
 try (have q1:=x1.2;dsimp only at q1)
 refine aL (fun h2=>?_) (fun h2=>?_)
 ·have g2:=af h2
  refine aD (by omega) ?_
  exact aN (⟨x1.1+1,by omega⟩) (fun _ hs=>hs.le (⟨.refl _,aw.of_eq (congrArg _ (Lp h0 hn _)),aw.of_eq (congrArg _ (by rw [wI (by omega) (by omega)];dsimp only;omega)),trivial⟩) (⟨⟨rfl,rfl,rfl,fun i j hi hj=>aw.of_eq (congrArg _ (NJ h0 (by omega) hj))⟩,trivial⟩)) (by dsimp only;omega)
 ·have g2:=aa h2
  exact aq (jt (by omega) (fun i _=>BR (by omega)))
end Go.Proofs.YtgnfjlekpgjehaaGreatDoor

namespace Go.Am
open Go.IntKind (wrap)
open Int (toNat)
open Go.RowKit Go.ChangeShapes Go.WideShapes Go.ChangeAt
inductive CT where
  | int (k : IntKind)
  | bool
  | str
  | sl (cs : List CT)
inductive cq : CT → AV → Prop where
  | int {k : IntKind} {n : Int} (h : (Lit.int k n).wf = true) : cq (.int k) (.int k n)
  | bool {b : Bool} : cq .bool (.bool b)
  | str {s : ByteArray} (h : s.size ≤ maxLen) : cq .str (.str s)
  | sl {cs : List CT} {n : Nat} {f : Nat → Nat → AV} (hn : n ≤ maxLen) (h : ∀ (i j : Nat) c, i < n → cs[j]? = some c → cq c (f i j)) : cq (.sl cs) (.aG cs.length n f)
def kU (P:Program) (sh:TypeId→Option (List CT)):Nat→List Field→Option (List CT)
 | _,[]=>some []
 | off,f::fs=>match sh f.type with
  | some l=>bif Nat.beq f.offset off&&Nat.beq l.length (P.cellsOf f.type) then (match kU P sh (off+l.length) fs with|some r=>some (l++r)|none=>none) else none
  | none=>none
def shape (P:Program):Nat→TypeId→Option (List CT)
 | 0,_=>none
 | n+1,t=>match P.underlying t with
  | some .bool=>some [.bool]
  | some (.int k)=>some [.int k]
  | some .string=>some [.str]
  | some (.slice e)=>match shape P n e with
   | some l=>bif Nat.beq l.length (P.cellsOf e)&&Nat.blt 0 l.length then some [.sl l] else none
   | none=>none
  | some (.struct fs)=>match kU P (shape P n) 0 fs.toList with
   | some l=>bif Nat.beq l.length (P.cellsOf t) then some l else none
   | none=>none
  | some (.array m e)=>match shape P n e with
   | some l=>bif Nat.beq l.length (P.cellsOf e)&&Nat.beq (m*l.length) (P.cellsOf t) then some (List.replicate m l).flatten else none
   | none=>none
  | _=>none
abbrev pY:bo:=bo.none fun _=>False
theorem kT (b:Nat):pY.free b:=⟨fun h=>h,fun _ _ h=>by cases h⟩
structure Fits (w : World) (ts : List CT) (cs : List Value) : Prop where
  len : cs.length = ts.length
  cell : ∀ (j : Nat) c, ts[j]? = some c → ∃ v a, cs[j]? = some v ∧ cq c a ∧ Rel pY w a v ∧ v.oneCell' = true
theorem Fits.nil {w:World}:Fits w [] []:=⟨rfl,fun j c h=>by grind⟩
theorem Fits.one {w:World} {c:CT} {v:Value} {a:AV} (h:cq c a) (hr:Rel pY w a v) (ho:v.oneCell'=true):Fits w [c] [v]:=by
 refine ⟨rfl,fun j c' hj=>?_⟩
 grind
theorem Fits.append {w:World} {ts ts':List CT} {cs cs':List Value} (h:Fits w ts cs) (h':Fits w ts' cs'):Fits w (ts++ts') (cs++cs'):=by
 refine ⟨by simp [h.len,h'.len],fun j c hj=>?_⟩
 by_cases hl:j<ts.length
 ·rw [List.getElem?_append_left hl] at hj
  rw [List.getElem?_append_left (by rw [h.len];omega)]
  exact h.cell j c hj
 ·rw [List.getElem?_append_right (by omega)] at hj
  rw [List.getElem?_append_right (by rw [h.len];omega),h.len]
  exact h'.cell _ c hj
theorem mapM_each {α β:Type} {f:α→Option β} {l:List α} {r:List β} (h:l.mapM f=some r) {x:α} (hx:x∈l):∃ y,f x=some y:=by
 obtain ⟨i,hi,rfl⟩:=List.getElem_of_mem hx
 have h1:=mapM_some_length h
 have h2:=mapM_some_get h i _ (List.getElem?_eq_getElem hi)
 grind
theorem oy {cs:List Value} {off a b:Nat}:(cs.drop off).take (a+b)=(cs.drop off).take a++(cs.drop (off+a)).take b:=by
 rw [List.take_add,List.drop_drop]
section
variable {H : Type} {enc : TypeId × Value → H} {P : Program} {w : World} {sp : Nat → Bool}
theorem tY {sh:TypeId→Option (List CT)} {cs:List Value}:∀ (fs:List Field) (off:Nat) (ts:List CT),kU P sh off fs=some ts→(∀ f∈fs,∀ l,sh f.type=some l→Fits w l ((cs.drop f.offset).take (P.cellsOf f.type))) →
  Fits w ts ((cs.drop off).take ts.length):=by
 intro fs
 induction fs with
 | nil=>simp [kU,Fits.nil]
 | cons f fs ih =>
  intro off ts h hf
  simp only [kU] at h
  cases hl:sh f.type with
  | none=>grind
  | some l =>
   simp only [hl] at h
   obtain ⟨hc,h2⟩:=bA h
   rw [Bool.and_eq_true] at hc
   have e1:=Nat.eq_of_beq_eq_true hc.1
   have e2:=Nat.eq_of_beq_eq_true hc.2
   cases hr:kU P sh (off+l.length) fs with
   | none=>grind
   | some r =>
    simp only [hr,Option.some.injEq] at h2
    subst h2
    have g1:=hf f (List.mem_cons_self ..) l hl
    have g2:=ih (off+l.length) r hr (fun f' hf'=>hf f' (List.mem_cons_of_mem _ hf'))
    rw [e1,← e2] at g1
    rw [List.length_append,oy]
    exact g1.append g2
theorem wL {cs:List Value} {l:List CT}:∀ n:Nat,(∀ i,i<n→Fits w l ((cs.drop (i*l.length)).take l.length))→Fits w (List.replicate n l).flatten (cs.take (n*l.length)):=by
 intro n
 induction n with
 | zero=>simp [Fits.nil]
 | succ n ih =>
  intro h
  have g1:=ih (fun i hi=>h i (by omega))
  have g2:=h n (by omega)
  have e:cs.take ((n+1)*l.length)=cs.take (n*l.length)++(cs.drop (n*l.length)).take l.length:=by
   rw [Nat.add_mul,Nat.one_mul,List.take_add]
  have e2:(List.replicate (n+1) l).flatten=(List.replicate n l).flatten++l:=by simp [List.replicate_succ',List.flatten_append]
  rw [e,e2]
  exact g1.append g2
theorem qO:∀ (m:Nat) (t:TypeId) (fuel:Nat) (cs:List Value) (x:DataW H×List MemPlace) (ts:List CT),DataW.trod enc P w 0 sp true fuel t cs=some x→shape P m t=some ts→Fits w ts cs:=by
 intro m
 induction m with
 | zero=>simp [shape]
 | succ m ih =>
  intro t fuel cs x ts htr hsh
  simp only [shape] at hsh
  cases fuel with
  | zero=>simp_all [DataW.trod]
  | succ fuel =>
   split at hsh
   ·rename_i hu
    simp only [Option.some.injEq] at hsh;subst hsh
    simp only [DataW.trod,hu] at htr
    split at htr<;>simp_all
    exact .one .bool .bool rfl
   ·rename_i k hu
    simp only [Option.some.injEq] at hsh;subst hsh
    simp only [DataW.trod,hu] at htr
    split at htr<;>simp_all
    obtain ⟨⟨rfl,hw⟩,_⟩:=htr
    exact .one (.int hw) .int rfl
   ·rename_i hu
    simp only [Option.some.injEq] at hsh;subst hsh
    simp only [DataW.trod,hu] at htr
    split at htr<;>simp_all
    exact .one (.str htr.1) .str rfl
   ·rename_i e hu
    split at hsh
    ·rename_i l hl
     obtain ⟨hc,h2⟩:=bA hsh
     clear hsh
     rw [Bool.and_eq_true,Nat.blt_eq] at hc
     have e1:=Nat.eq_of_beq_eq_true hc.1
     cases h2
     rcases Go.Deep.open_slice hu htr with ⟨rfl,_⟩|⟨a,len,cap,m',n,D,Pl,rfl,hb,hlc,hm,hmm,_,hx⟩
     ·exact .one (a:=.aG l.length 0 fun _ _=>.bw) (.sl (Nat.zero_le _) (fun i j c hi=>absurd hi (by omega))) (.gT fun _=>rfl) rfl
     ·have hlm:len≤m':=by grind
      have hrow:∀ i,i<len→∃ cs',w.cells? 0 (a.add (i*l.length)) l.length=some cs'∧Fits w l cs':=fun i hi=>by
       obtain ⟨cs',h1,h2⟩:=hx i (by omega)
       grind
      obtain ⟨C,hC⟩:=Go.Deep.choose_lt hrow
      have hcell:∀ i j c,i<len→l[j]? = some c→∃ p:Value×AV,w.cell? (a.add (i*l.length+j))=some p.1∧cq c p.2∧Rel pY w p.2 p.1∧p.1.oneCell'=true:=fun i j c hi hj=>by
       obtain ⟨h1,h2⟩:=hC i hi
       obtain ⟨v,av,g1,g2,g3,g4⟩:=h2.cell j c hj
       obtain ⟨_,k1,k2⟩:=World.cells?_some h1
       refine ⟨(v,av),?_,g2,g3,g4⟩
       grind [List.getElem?_eq_some_iff,Go.Deep.add_add]
      have hex:∀ i,i<len→∃ g:Nat→Value×AV,∀ j,j<l.length→∃ c,l[j]? = some c∧w.cell? (a.add (i*l.length+j))=some (g j).1∧cq c (g j).2∧Rel pY w (g j).2 (g j).1∧(g j).1.oneCell'=true:=fun i hi=>by
       have:Inhabited (Value×AV):=⟨(.bool true,.bw)⟩
       exact Go.Deep.choose_lt (p:=fun j (g:Value×AV)=>∃ c,l[j]? = some c∧w.cell? (a.add (i*l.length+j))=some g.1∧cq c g.2∧Rel pY w g.2 g.1∧g.1.oneCell'=true) (fun j hj=>by simp_all)
      have:Inhabited (Nat→Value×AV):=⟨fun _=>(.bool true,.bw)⟩
      obtain ⟨G,hG⟩:=Go.Deep.choose_lt hex
      refine .one (a:=.aG l.length len fun i j=>(G i j).2) (.sl (by omega) (fun i j c hi hj=>?_)) ?_ rfl
      ·grind
      ·rcases Nat.eq_zero_or_pos len with rfl|hpos
       ·exact .gT (fun h=>by cases h)
       ·obtain ⟨b,off,spot⟩:=a
        have hspot:spot=none:=by
         obtain ⟨c',_,g2,_⟩:=hG 0 hpos 0 hc.2
         have:=World.cell?_spot g2
         grind [Addr.add]
        subst hspot
        refine .aG (fun i j=>(G i j).1) hc.2 hlc (kT b) (fun i j hi hj=>?_) (fun i j hi hj=>?_) (fun i j hi hj=>?_) (fun i j hi hj=>?_)
        ·obtain ⟨c',_,g2,_⟩:=hG i hi j hj
         rw [← g2]
         congr 1
         unfold Addr.add
         split
         ·simp
         grind
        ·grind
        ·grind
        ·obtain ⟨c',_,_,_,g4,_⟩:=hG i hi j hj;exact g4.closed
    grind
   ·rename_i fs hu
    split at hsh
    ·rename_i l hl
     obtain ⟨hc,h2⟩:=bA hsh
     clear hsh
     have h3:l=ts:=Option.some.inj h2
     subst h3
     have e1:=Nat.eq_of_beq_eq_true hc
     simp only [DataW.trod,hu] at htr
     split at htr
     ·rename_i hlen
      obtain ⟨xs,hxs,_⟩:=Option.map_eq_some_iff.1 htr
      have:=tY (w:=w) (P:=P) (cs:=cs) fs.toList 0 l hl (fun f hf lf hlf=>by
       obtain ⟨y,hy⟩:=mapM_each hxs hf
       grind)
      grind
     grind
    grind
   ·rename_i n e hu
    split at hsh
    ·rename_i l hl
     obtain ⟨hc,h2⟩:=bA hsh
     clear hsh
     cases h2
     rw [Bool.and_eq_true] at hc
     have e1:=Nat.eq_of_beq_eq_true hc.1
     have e2:=Nat.eq_of_beq_eq_true hc.2
     simp only [DataW.trod,hu] at htr
     split at htr
     ·rename_i hlen
      obtain ⟨xs,hxs,_⟩:=Option.map_eq_some_iff.1 htr
      have:=wL (w:=w) (cs:=cs) (l:=l) n (fun i hi=>by
       obtain ⟨y,hy⟩:=mapM_each hxs (List.mem_range.2 hi)
       grind)
      grind
     grind
    grind
   grind
end
section
variable {H : Type} {enc : TypeId × Value → H} {P : Program}
theorem lJ {W W':World} {sp':Nat→Bool} (hl:laidOutB P=true):∀ {ts:List TypeId} {vs:List Value} {ds:List (DataW H)} {ps:List MemPlace},
  (∀ t,t∈ts→P.readableRec t=true∧t<P.types.size)→DataW.TrodAll enc P W 0 (fun _=>true) true ts vs ds ps→(∀ p∈ps,W.sameAt W' p)→(∀ p∈ps,sp' p.block=true) →
  DataW.TrodAll enc P W' 0 sp' true ts vs ds ps
 | [],[],[],_,_,h,_,_=>h
 | t::ts,v::vs,d::ds,ps,hr,h,hs,hp=>by
  obtain ⟨p,q,h1,h2,rfl⟩:=h
  refine ⟨p,q,WideElems.Trod_stays hl (hr t (by simp)).1 (hr t (by simp)).2 h1 (fun x hx=>hs x (by grind)) (fun x hx=>hp x (by grind)),?_,rfl⟩
  exact lJ hl (fun t ht=>hr t (by grind)) h2 (fun x hx=>hs x (by grind)) (fun x hx=>hp x (by grind))
 | [],_::_,_,_,_,h,_,_=>h.elim
 | [],[],_::_,_,_,h,_,_=>h.elim
 | _::_,[],_,_,_,h,_,_=>h.elim
 | _::_,_::_,[],_,_,h,_,_=>h.elim
theorem nM {W W':World} (hb:Below W.heap.size W W') (may:MemPlace→Prop):W.keptBut W' may:=by
 refine ⟨hb.os,hb.output,fun i hi=>?_⟩
 rw [hb.block i hi]
 grind
def IW (P:Program) (ts:List TypeId):Bool:=ts.all fun t=>P.readableRec t&&Nat.blt t P.types.size
theorem BL {ts:List TypeId} (h:IW P ts=true):∀ t,t∈ts→P.readableRec t=true∧t<P.types.size:=by
 intro t ht
 have:=List.all_eq_true.1 h t ht
 simp_all
theorem Cx {f:Func} {s:ChangeSpec} {apart fresh handsOn again:Bool} {W W':World} {args:Array Value} {ds gs:List (DataW H)} {before:List MemPlace} {tb:TypeId}
  (hl:laidOutB P=true) (hvars:s.vars=[]) (hrt:f.resultTypes = #[tb]) (htb:P.underlying tb=some .bool) (hrd:IW P f.params.toList=true)
  (hW:DataW.Whole enc P f.params.toList s.vars apart W args.toList ds gs before) (hb:Below W.heap.size W W')
  (hs:s.fn H ds={ results:=[.lit (.bool true)],args:=ds }) :
  s.post enc P f apart fresh handsOn again W args (.bool true) W':=by
 have hW0:=hW
 obtain ⟨p,q,hA,hV,rfl,hz,hn⟩:=hW
 rw [hvars] at hV
 obtain ⟨rfl,rfl⟩:=trodVars_none hV
 have hlt:∀ x∈p,x.block<W.heap.size:=fun x hx=>hA.lt x hx
 have hst:∀ sp:Nat→Bool,(∀ x∈p,sp x.block=true)→DataW.TrodAll enc P W' 0 sp true f.params.toList args.toList ds p :=
  fun sp hsp=>lJ hl (BL hrd) hA (fun x hx=>hb.same (hlt x hx)) hsp
 have hres:∀ (b:Nat) (sp:Nat→Bool) (hd:Bool),DataW.TrodAll enc P W' b sp hd f.resultTypes.toList ((Value.bool true).resultList f.resultTypes.size) [.lit (.bool true)] []:=by
  intro b sp hd
  rw [hrt]
  exact ⟨[],[],shut_bool htb true,rfl,rfl⟩
 refine ⟨ds,[],p++[],[],p,[],hW0,?_,?_,?_,nM hb _,fun _=>?_⟩
 ·grind
 ·grind
 ·rw [List.append_nil,hs,hvars];rfl
 ·refine ⟨ok_one hrt rfl (okWide_bool_mk htb true),_,[],([]++p)++[],⟨[]++p,[],trodAll_append (hst _ (fun _ _=>rfl)) (hres _ _ _),by rw [hvars];rfl,rfl,?_,?_⟩,?_⟩
  ·intro b off hp
   simp only [List.nil_append,List.append_nil] at hp
   have:=hlt _ hp
   rw [hb.frozen this]
   exact hz b off (by grind)
  ·grind
  grind
end
theorem Pure.calls {P:Program} {gl:dE} {f:FuncId} {args:List AV} (h:Pure P gl f args (.bool true)) {W:World} {vs:Array Value} (hg:mc gl pY W)
  (hr:eR pY W args vs) {Q:Ending→World→Prop} (hQ:∀ W',Below W.heap.size W W'→Q (.returned (.bool true)) W'):Calls P f vs W Q:=by
 refine (h.use (fun _ hf=>hf.elim) hg hr).mono ?_
 rintro e W' ⟨v,rfl,hb,hv⟩
 cases hv<;>grind
theorem eR.nil {w:World}:eR pY w [] #[]:=⟨rfl,fun j u x h=>by simp⟩
theorem eR.cons {w:World} {a:AV} {v:Value} {avs:List AV} {vs:List Value} (h:Rel pY w a v) (hr:eR pY w avs vs.toArray):eR pY w (a::avs) (v::vs).toArray:=by
 refine ⟨by have:=hr.len;grind,fun j u x hu hx=>?_⟩
 cases j with
 | zero=>grind
 | succ j=>exact hr.rel j u x (by grind) (by grind)
theorem Fits.pick {w:World} {ts:List CT} {cs:List Value} (h:Fits w ts cs):∃ g:Nat→AV,∀ (j:Nat) c,ts[j]? = some c→cq c (g j)∧∃ v,cs[j]? = some v∧Rel pY w (g j) v:=by
 have:Inhabited AV:=⟨.bw⟩
 obtain ⟨g,hg⟩:=Go.Deep.choose_lt (n:=ts.length) (p:=fun j a=>∀ c,ts[j]? = some c→cq c a∧∃ v,cs[j]? = some v∧Rel pY w a v) (fun j hj=>by
  obtain ⟨v,a,h1,h2,h3,_⟩:=h.cell j ts[j] (by simp)
  refine ⟨a,fun c hc=>?_⟩
  grind)
 exact ⟨g,fun j c hc=>hg j (List.getElem?_eq_some_iff.1 hc).1 c hc⟩
theorem Fits.agg {w:World} {ts:List CT} {cs:List Value} (h:Fits w ts cs) {g:Nat→AV} (hg:∀ (j:Nat) c,ts[j]? = some c→cq c (g j)∧∃ v,cs[j]? = some v∧Rel pY w (g j) v) {l:List AV}
  (he:cM [] ((List.range ts.length).map g) l):Rel pY w (.agg l) (.agg cs.toArray):=by
 obtain ⟨h1,h2⟩:=he.spec
 simp at h1
 refine .agg (by rw [← h1];simp [h.len]) fun j u v hu hv=>?_
 have hj:j<l.length:=(List.getElem?_eq_some_iff.1 hu).1
 have hjt:j<ts.length:=by omega
 obtain ⟨_,v',hv',hr⟩:=hg j ts[j] (by simp [hjt])
 have:v'=v:=by
  have hv:cs[j]? = some v:=by simpa using hv
  rw [hv'] at hv;exact Option.some.inj hv
 subst this
 exact h2 j (g j) u (by simp [hjt]) hu _ _ _ (fun k o hk=>by simp at hk) hr
def ia:AV→Nat
 | .aG _ n _=>n
 | _=>0
def kS:AV→Nat→Nat→AV
 | .aG _ _ f=>f
 | _=>fun _ _=>.bw
theorem zR {k:IntKind} {a:AV} (h:cq (.int k) a):(Lit.int k (aE a)).wf=true:=by cases h with|int h=>exact h
theorem D4 {H:Type} {enc:TypeId×Value→H} {P:Program} {W:World} {r:Reach} {b0:Nat} {t:TypeId} {v:Value} {d:DataW H} {ps:List MemPlace} {sp:Nat→Bool} {ts:List CT} (ht:fW P t=some true)
  (hsh:shape P 9 t=some ts) (hv:Value.okWide P W r b0 t v) (h:DataW.Trod enc P W 0 sp true t v d ps):∃ cs:List Value,v=.agg cs.toArray∧Fits W ts cs:=by
 obtain ⟨fuel,hf⟩:=h
 have:∃ cs:Array Value,v=.agg cs:=by grind [fW,okWide_struct,Value.okWide]
 obtain ⟨cs,rfl⟩:=this
 exact ⟨cs.toList,by simp,qO 9 t fuel _ _ ts hf hsh⟩
end Go.Am

namespace Go.Am
open Go.IntKind (wrap)
open Int (toNat)
open Go.RowKit
def vi:AV→Bool
 | .bool b=>b
 | _=>false
def Ib:AV→ByteArray
 | .str s=>s
 | _=>.empty
def qg:List CT→Option IntKind
 | [.int k]=>some k
 | .int k::cs=>match qg cs with
  | some k'=>bif decide (k=k') then some k else none
  | none=>none
 | _=>none
theorem tV:∀ {cs:List CT} {k:IntKind},qg cs=some k→∀ c,c∈cs→c=.int k
 | [],_,h=>by simp
 | [c0],k,h=>by
  intro c hc
  cases c0<;>simp [qg] at h
  grind
 | c0::c1::cs,k,h=>by
  cases c0<;>simp only [qg,reduceCtorEq] at h
  rename_i k0
  cases hr:qg (c1::cs) with
  | none=>grind
  | some k' =>
   rw [hr] at h
   simp only at h
   obtain ⟨h1,h2⟩:=bA h
   cases h2
   have h1:=of_decide_eq_true h1
   subst h1
   intro c hc
   rcases List.mem_cons.1 hc with rfl|hc
   ·rfl
   ·exact tV hr c hc
mutual
def canon : CT → AV → AV
  | .int k, a => .int k (aE a)
  | .bool, a => .bool (vi a)
  | .str, a => .str (Ib a)
  | .sl cs, a => .aG cs.length (ia a) (match qg cs with
    | some k => fun i j => .int k (aE (kS a i (bif Nat.beq cs.length 1 then 0 else j)))
    | none => fun i j => aO (cV cs (fun q => kS a i q) 0) j)
def cV : List CT → (Nat → AV) → Nat → List AV
  | [], _, _ => []
  | c :: cs, g, n => canon c (g n) :: cV cs g (n + 1)
end
theorem iv:∀ (cs:List CT) (g:Nat→AV) (n j:Nat) (c:CT),cs[j]? = some c→(cV cs g n)[j]? = some (canon c (g (n+j)))
 | [],_,_,_,_,h=>by grind
 | c::cs,g,n,0,c',h=>by grind [cV]
 | c::cs,g,n,j+1,c',h=>by
  simp at h
  simp only [cV,List.getElem?_cons_succ]
  rw [iv cs g (n+1) j c' h,show n+1+j=n+(j+1) by omega]
theorem hZ:∀ (cs:List CT) (g:Nat→AV) (n:Nat),(cV cs g n).length=cs.length
 | [],_,_=>rfl
 | c::cs,g,n=>by simp [cV,hZ]
theorem aw.Fv {os:List (Option Ob)} {es n:Nat} {f g:Nat→Nat→AV} (h:∀ i j,i<n→j<es→aw os (f i j) (g i j)∧Cl (g i j)):aw os (.aG es n f) (.aG es n g):=fun β w v hh hr=>by
 cases hr with
 | aG bB he hcap hb hc ho hr hcl=>exact .aG bB he hcap hb hc ho (fun i j hi hj=>(h i j hi hj).1 β w _ hh (hr i j hi hj)) (fun i j hi hj=>(h i j hi hj).2)
 | gT h'=>exact .gT h'
theorem AQ {os:List (Option Ob)} {c:CT} {a:AV} (h:cq c a):aw os a (canon c a)∧Cl (canon c a):=by
 induction h with
 | int h=>exact ⟨aw.of_eq (by rfl),by unfold canon;exact .int⟩
 | bool=>exact ⟨aw.of_eq (by rfl),by unfold canon;exact .bool⟩
 | str h=>exact ⟨aw.of_eq (by rfl),by unfold canon;exact .str⟩
 | @sl cs n f hn h ih =>
  have key:∀ i j,i<n→j<cs.length→∃ c,cs[j]? = some c∧aO (cV cs (fun q=>f i q) 0) j=canon c (f i j):=fun i j hi hj=>by simp_all [aO,List.getD_eq_getElem?_getD,iv]
  unfold canon
  cases hh:qg cs with
  | none =>
   refine ⟨aw.Fv fun i j hi hj=>?_,.aG fun i j hi hj=>?_⟩
   ·obtain ⟨c,h1,h2⟩:=key i j hi hj
    show aw os (f i j) (aO (cV cs (fun q=>f i q) 0) j)∧Cl (aO (cV cs (fun q=>f i q) 0) j)
    grind
   ·obtain ⟨c,h1,h2⟩:=key i j hi hj
    show Cl (aO (cV cs (fun q=>f i q) 0) j)
    rw [h2]
    exact (ih i j c hi h1).2
  | some k =>
   refine ⟨aw.Fv fun i j hi hj=>⟨aw.of_eq ?_,.int⟩,.aG fun i j hi hj=>.int⟩
   show f i j=.int k (aE (f i (bif Nat.beq cs.length 1 then 0 else j)))
   have hj':(bif Nat.beq cs.length 1 then 0 else j)=j:=by grind [Nat.beq,Nat.eq_of_beq_eq_true]
   rw [hj']
   have hc:cs[j]? = some cs[j]:=by simp
   have:=h i j _ hi hc
   rw [tV hh cs[j] (List.getElem_mem hj)] at this
   generalize f i j=q at this
   cases this
   rfl
theorem Fits.canon {w:World} {ts:List CT} {cs:List Value} (h:Fits w ts cs):∃ g:Nat→AV,(∀ (j:Nat) c,ts[j]? = some c→cq c (g j))∧Rel pY w (.agg (cV ts g 0)) (.agg cs.toArray):=by
 obtain ⟨g,hg⟩:=h.pick
 refine ⟨g,fun j c hc=>(hg j c hc).1,?_⟩
 refine .agg (by simp [hZ,h.len]) fun j u v hu hv=>?_
 have hj:j<ts.length:=by grind [hZ,List.getElem?_eq_some_iff]
 have hc:ts[j]? = some ts[j]:=by simp
 rw [iv ts g 0 j _ hc] at hu
 obtain ⟨h1,v',h2,h3⟩:=hg j _ hc
 have hv:cs[j]? = some v:=by grind
 rw [h2] at hv;cases hv
 cases hu
 rw [Nat.zero_add]
 exact (AQ (os:=[]) h1).1 _ _ _ (fun k o hk=>by grind) h3
theorem cq.nm {cs:List CT} {a:AV} (h:cq (.sl cs) a):ia a≤maxLen∧∀ i j c,i<ia a→cs[j]? = some c→cq c (kS a i j):=by
 cases h with
 | sl hn h=>exact ⟨hn,h⟩
theorem cq.xY {k:IntKind} {a:AV} (h:cq (.int k) a):(Lit.int k (aE a)).wf=true:=zR h
theorem qx {β:bo} {w:World} {l:List AV} {vs:Array Value} (h:Rel β w (.agg l) (.agg vs)):l.length=vs.size∧∀ (j:Nat) u v,l[j]? = some u→vs[j]? = some v→Rel β w u v:=by cases h<;>grind
section
open Go.ChangeShapes Go.WideShapes Go.ChangeAt
variable {H : Type} {enc : TypeId × Value → H} {P : Program} {W : World} {sp : Nat → Bool}
theorem Cb {r:Reach} {b0:Nat} {t:TypeId} {v:Value} {d:DataW H} {ps:List MemPlace} {ts:List CT} {ag:Bool} (ht:fW P t=some ag)
  (hsh:shape P 9 t=some ts) (hv:Value.okWide P W r b0 t v) (h:DataW.Trod enc P W 0 sp true t v d ps):∃ cs:List Value,Fits W ts cs∧(ag=true→v=.agg cs.toArray)∧(ag=false→cs=[v]):=by
 cases ag with
 | true =>
  grind [D4]
 | false =>
  obtain ⟨fuel,hf⟩:=h
  have hc:v.cells.toList=[v]:=by
   simp only [shape] at hsh
   split at hsh
   ·rename_i hu;obtain ⟨b,rfl⟩:=okWide_bool hu hv;rfl
   ·rename_i k hu;obtain ⟨n,rfl⟩:=okWide_int hu hv;rfl
   ·rename_i hu;obtain ⟨n,rfl⟩:=okWide_string hu hv;rfl
   ·rename_i e hu;obtain ⟨a,l,c,rfl⟩:=okWide_slice hu hv;rfl
   ·simp_all [fW]
   ·simp_all [fW]
   grind
  rw [hc] at hf
  exact ⟨[v],qO 9 t fuel _ _ ts hf hsh,fun h=>by grind,fun _=>rfl⟩
def me (P:Program):List TypeId→Option (List (Bool×List CT))
 | []=>some []
 | t::ts=>match fW P t,shape P 9 t,me P ts with
  | some b,some l,some r=>some ((b,l)::r)
  | _,_,_=>none
def kO:List (Bool×List CT)→(Nat→Nat→AV)→Nat→List AV
 | [],_,_=>[]
 | (true,ts)::S,G,n=>.agg (cV ts (G n) 0)::kO S G (n+1)
 | (false,ts)::S,G,n=>aO (cV ts (G n) 0) 0::kO S G (n+1)
theorem u4 {r:Reach} {b0:Nat}:∀ {ts:List TypeId} {vs:List Value} {ds:List (DataW H)} {ps:List MemPlace} {S:List (Bool×List CT)} (n:Nat),me P ts=some S→DataW.TrodAll enc P W 0 sp true ts vs ds ps →
  (∀ (j:Nat) t v,ts[j]? = some t→vs[j]? = some v→Value.okWide P W r b0 t v) →
  ∃ G:Nat→Nat→AV,(∀ (k:Nat) s,S[k]? = some s→∀ (j:Nat) c,s.2[j]? = some c→cq c (G (n+k) j))∧eR pY W (kO S G n) vs.toArray∧∃ f:Nat→DataW H,ds=(List.range S.length).map f
 | [],[],[],_,S,n,hS,hA,_=>by
  simp [me] at hS;subst hS
  exact ⟨fun _ _=>.bw,fun k s h=>by grind,eR.nil,fun _=>.nil,rfl⟩
 | t::ts,v::vs,d::ds,ps,S,n,hS,hA,hok=>by
  obtain ⟨p,q,h1,h2,rfl⟩:=hA
  simp only [me] at hS
  split at hS
  rotate_left
  ·grind
  rename_i b l r' e1 e2 e3
  cases hS
  obtain ⟨cs,hf,g1,g2⟩:=Cb e1 e2 (hok 0 t v rfl rfl) h1
  obtain ⟨g,hg,hr⟩:=hf.canon
  obtain ⟨G,hG,hR,f,hds⟩:=u4 (n+1) e3 h2 (fun j t v ht hv=>hok (j+1) t v (by grind) (by grind))
  have hne:∀ k,Nat.beq (n+1+k) n=false:=fun k=>by grind [Nat.beq,Nat.eq_of_beq_eq_true]
  let G':Nat→Nat→AV:=fun m=>bif Nat.beq m n then g else G m
  have hG':∀ k,G' (n+1+k)=G (n+1+k):=fun k=>by grind
  have hGn:G' n=g:=by grind [Nat.beq,Nat.beq_refl]
  have hargs:∀ (S':List (Bool×List CT)) (k:Nat),kO S' G' (n+1+k)=kO S' G (n+1+k):=by
   intro S'
   induction S' with
   | nil=>intro k;rfl
   | cons x S' ih =>
    intro k
    obtain ⟨xb,xl⟩:=x
    cases xb<;>simp only [kO,hG']<;>rw [show n+1+k+1=n+1+(k+1) by omega,ih]
  refine ⟨G',fun k s hs j c hc=>?_,?_,fun m=>bif Nat.beq m 0 then d else f (m - 1),?_⟩
  ·grind
  ·have h0:=hargs r' 0
   rw [Nat.add_zero] at h0
   cases b with
   | true =>
    have:=g1 rfl;subst this
    simp only [kO,hGn,h0]
    exact eR.cons hr hR
   | false =>
    have:=g2 rfl;subst this
    simp only [kO,hGn,h0]
    refine eR.cons ?_ hR
    obtain ⟨hl,hrr⟩:=qx hr
    have hlen:l.length=1:=by rw [← hf.len];rfl
    have e0:l[0]? = some l[0]:=by simp
    refine hrr 0 _ v ?_ rfl
    grind [aO,iv]
  ·rw [hds]
   simp [List.range_succ_eq_map]
   exact fun a _=>rfl
 | [],_::_,_,_,_,_,_,h,_=>h.elim
 | [],[],_::_,_,_,_,_,h,_=>h.elim
 | _::_,[],_,_,_,_,_,h,_=>h.elim
 | _::_,_::_,[],_,_,_,_,h,_=>h.elim
end
end Go.Am

namespace Go.Sp
open Go.IntKind (wrap)
open Int (toNat)
open Go Go.Am
def qB (v:Int) (size:Nat):List Int:=(List.range size).map (dy v size)
theorem gQ (v:Int) (size:Nat):(qB v size).length=size:=by simp [qB]
theorem mL (a b:List Int) (i:Nat):(a++b).getD i 0=bif Nat.blt i a.length then a.getD i 0 else b.getD (i - a.length) 0:=by grind [cy,dh,Nat.le_of_not_lt]
theorem getD_map {n:Nat} {f:Nat→Int} {i:Nat} (h:i<n):((List.range n).map f).getD i 0=f i:=by grind
inductive It where
  | int (n : Int)
  | eQ (n : Nat) (f : Nat → Int)
  | li (n : Nat) (c : Nat → It)
namespace It
def kind:It→Int|int _=>1|eQ _ _=>2|li _ _=>3
def num:It→Int|int n=>n|_=>0
def nb:It→Nat|eQ n _=>n|_=>0
def fb:It→Nat→Int|eQ _ f=>f|_=>fun _=>0
def nl:It→Nat|li n _=>n|_=>0
def row:It→Nat→Nat→AV
 | li _ c=>fun i j=>aO [.int .i64 (c i).kind,.int .i64 (c i).num,dn (c i).nb (c i).fb,.aG 4 (c i).nl (row (c i))] j
 | _=>fun _ _=>.bw
def cells (x:It):List AV:=[.int .i64 x.kind,.int .i64 x.num,dn x.nb x.fb,.aG 4 x.nl x.row]
def av (x:It):AV:=.agg x.cells
def sl (n:Nat) (c:Nat→It):AV:=.aG 4 n (fun i j=>aO (c i).cells j)
def enc:It→List Int
 | int n=>1::qB (IntKind.wrap .u64 n) 8
 | eQ n f=>2::(qB n 4++(List.range n).map f)
 | li n c=>3::(qB n 4++(List.range n).flatMap fun i=>enc (c i))
def p4:It→Int→Bool
 | li n c,d=>decide (0<d)&&Nat.ble n 1000&&(List.range n).all (fun i=>p4 (c i) (d - 1))
 | _,_=>true
def lA (n:Nat) (c:Nat→It) (k:Nat):List Int:=3::(qB n 4++(List.range k).flatMap fun i=>(c i).enc)
theorem px (n:Nat) (c:Nat→It):(li n c).enc=lA n c n:=rfl
theorem iC (n:Nat) (c:Nat→It):lA n c 0=3::qB n 4:=by rfl
theorem fu (n:Nat) (c:Nat→It) (k:Nat):lA n c (k+1)=lA n c k++(c k).enc:=by
 simp [lA,List.range_succ]
theorem oF (n:Nat) (c:Nat→It) {k j:Nat} (h:k≤j):(lA n c k).length≤(lA n c j).length:=by
 induction j with
 | zero=>grind
 | succ j ih =>
  by_cases e:k=j+1
  ·grind
  grind [fu,List.length_append]
theorem HZ (x:It):1≤x.enc.length:=by cases x<;>simp [enc]
theorem kt (n:Nat) (c:Nat→It) (k:Nat):5+k≤(lA n c k).length:=by induction k<;>grind [lA,gQ,HZ,fu,List.length_append]
theorem rj {n:Nat} {c:Nat→It} {i:Nat} (h:i<n):(c i).enc.length+5≤(li n c).enc.length:=by
 have h1:=oF n c (show i+1≤n by omega)
 grind [kt,fu,List.length_append,px]
theorem K2 {n:Nat} {c:Nat→It} {d:Int} (h:(li n c).p4 d=true):0<d∧n≤1000∧∀ i,i<n→(c i).p4 (d - 1)=true:=by simp_all [p4,Bool.and_eq_true,decide_eq_true_eq,List.all_eq_true,List.mem_range,Nat.ble_eq]
end It
end Go.Sp
namespace Go.Sp
open Go Go.Am
namespace It
def okB:It→Prop
 | int _=>True
 | eQ n f=>cC f n
 | li n c=>∀ i,i<n→okB (c i)
def inB (l:List Int):Prop:=∀ v,v∈l→0≤v∧v<256
theorem pA {v:Int} {l:List Int} (h:0≤v∧v<256) (h':inB l):inB (v::l):=fun x hx=>by
 rcases List.mem_cons.1 hx with e|e
 ·omega
 ·exact h' x e
theorem yH {a b:List Int} (h:inB a) (h':inB b):inB (a++b):=fun x hx=>by
 rcases List.mem_append.1 hx with e|e
 ·exact h x e
 ·exact h' x e
theorem wj (v:Int) (size:Nat):inB (qB v size):=fun x hx=>by
 obtain ⟨i,_,rfl⟩:=List.mem_map.1 hx
 exact ⟨Int.emod_nonneg _ (by decide),Int.emod_lt_of_pos _ (by decide)⟩
theorem LP {l:List Int} (h:inB l):cC (fun i=>l.getD i 0) l.length:=fun i hi=>by
 have e:l.getD i 0=l[i]:=by grind
 show 0≤l.getD i 0∧l.getD i 0<256
 rw [e]
 exact h _ (List.getElem_mem hi)
theorem xM:∀ x:It,x.okB→inB x.enc
 | int n,_=>pA (by decide) (wj _ _)
 | eQ n f,h=>pA (by decide) (yH (wj _ _) fun x hx=>by
   obtain ⟨i,hi,rfl⟩:=List.mem_map.1 hx
   exact h i (List.mem_range.1 hi))
 | li n c,h=>pA (by decide) (yH (wj _ _) fun x hx=>by
   obtain ⟨i,hi,hx⟩:=List.mem_flatMap.1 hx
   exact xM (c i) (h i (List.mem_range.1 hi)) x hx)
theorem gY {x:It} (h:x.okB):cC (fun i=>x.enc.getD i 0) x.enc.length:=LP (xM x h)
end It
structure bQ where
  ju : Int
  fK : Int
  gq : Int
  depth : Int
  a : Int
  root : Nat → Int
  z : Int
  sa : Int
  sb : Int
  r : Int
def bQ.cells (c:bQ):List AV:=[.int .i64 c.ju,.int .i64 c.fK,.int .i64 c.gq,.int .i64 c.depth,.int .i64 c.a]++(bh c.root++[.int .i64 c.z,.int .i64 c.sa,.int .i64 c.sb,.int .i64 c.r])
def bQ.av (c:bQ):AV:=.agg c.cells
structure i9 where
  bI : Nat → Int
  time : Int
  number : Int
def i9.cells (x:i9):List AV:=bh x.bI++[.int .i64 x.time,.int .i64 x.number]
def i9.av (x:i9):AV:=.agg x.cells
def bu (l:List Int):It:=.li l.length fun i=>.int (l.getD i 0)
def nJ (l:List It):It:=.li l.length fun i=>l.getD i (.int 0)
def bQ.it (c:bQ):It:=nJ [bu [c.ju,c.fK,c.gq,c.depth,c.a],.eQ 32 c.root,bu [c.z,c.sa,c.sb,c.r]]
def jn (s:ByteArray) (x:It):Nat→Int:=eX s x.enc.length fun i=>x.enc.getD i 0
def bQ.rD (c:bQ):Nat→Int:=jn "specie/coin-item".toUTF8 c.it
def gF (c:bQ) (l i:Int) (x:i9):It:=nJ [.eQ 32 c.rD,bu [l,i],.eQ 32 x.bI,bu [x.time,x.number]]
def iL (q:Int) (c:bQ) (l i:Int) (x:i9):Int:=cB (jn "specie/spend".toUTF8 (gF c l i x)) q 16
end Go.Sp
namespace Go.Sp
open Go Go.Am
theorem Jn {os:List (Option Ob)} {n:Nat} {f:Nat→Nat→Int} {l:List Int} (hn:n=l.length) (h:∀ i,i<n→f i 0=l.getD i 0):aw os (.aG 1 n fun i j=>.int .u8 (f i j)) (il .u8 l) :=
 jt (g:=fun i _=>l.getD i 0) hn h
theorem ko {os:List (Option Ob)} {mu:Bool} {n:Nat} {f:Nat→Nat→Int} {l:List Int} (hn:n=l.length) (h:∀ i,i<n→f i 0=l.getD i 0) :
  aH os ⟨1,n,mu,.fn fun i j=>.int .u8 (f i j)⟩ ⟨1,l.length,mu,.fn (vT .u8 l)⟩:=by
 refine ⟨rfl,hn,rfl,fun i j hi hj=>aw.of_eq ?_⟩
 obtain rfl:j=0:=Nat.lt_one_iff.1 hj
 exact congrArg _ (h i hi)
theorem Hd {os:List (Option Ob)} {mu:Bool} {n:Nat} {a b l:List Int} (hl:l=a++b) (hn:n=a.length+b.length) :
  aH os ⟨1,n,mu,.fn fun i _=>.int .u8 (bif Nat.blt i a.length then a.getD i 0 else b.getD (i - a.length) 0)⟩ ⟨1,l.length,mu,.fn (vT .u8 l)⟩ :=
 ko (f:=fun i _=>bif Nat.blt i a.length then a.getD i 0 else b.getD (i - a.length) 0) (by grind) (fun i _=>by rw [hl,mL])
theorem DL {v w:Int} {size i:Nat} (hi:i<1+size):(bif Nat.blt i 1 then v else dy w size (i - 1))=(v::qB w size).getD i 0:=by
 cases i with
 | zero=>rfl
 | succ i =>
  grind [dh,dy,qB,getD_map]
theorem Om {v w:Int} {n i:Nat} {f:Nat→Int} (hi:i<5+n):(bif Nat.blt i 5 then bif Nat.blt i 1 then v else dy w 4 (i - 1) else f (i - 5))=(v::(qB w 4++(List.range n).map f)).getD i 0:=by grind [qB,List.range,gQ,mL,cy,DL,dh,Nat.le_of_not_lt,getD_map]
theorem ij (n:Int):0≤IntKind.wrap .u64 n∧IntKind.wrap .u64 n<18446744073709551616:=by grind [jg]
theorem i7 (n:Nat) (f:Nat→Int):(It.eQ n f).enc.length=5+n:=by grind [It.enc,gQ]
theorem yd {v : Int} {size t : Nat} (ht : t < size) (h8 : size ≤ 8) : IntKind.wrap .u8 (v.fdiv (2 ^ min (Int.toNat (IntKind.wrap .i64 (8 * ((size : Int) - 1 - t)))) 64)) = dy v size t := by
  have e : min (Int.toNat (IntKind.wrap .i64 (8 * ((size : Int) - 1 - t)))) 64 = 8 * (size - 1 - t) := by grind [wI]
  rw [e, vX, Int.fdiv_eq_ediv_of_nonneg _ (Int.pow_nonneg (by decide))]
  show v / 2 ^ (8 * (size - 1 - t)) % 256 = v / 256 ^ (size - 1 - t) % 256
  simp [Int.pow_mul]
theorem HL {os:List (Option Ob)} {mu:Bool} {n n':Nat} {f:Nat→Nat→Int} {g:Nat→Int} (hn:n=n'):aH os ⟨1,n,mu,.fn fun i j=>.int .u8 (f i j)⟩ ⟨1,n',mu,.fn fun i j=>.int .u8 (bif Nat.blt i n then f i j else g i)⟩:=by
 subst hn
 refine ⟨rfl,rfl,rfl,fun i j hi _=>aw.of_eq ?_⟩
 have hi:i<n:=hi
 show AV.int .u8 (f i j)=.int .u8 (bif Nat.blt i n then f i j else g i)
 grind [cy]
theorem B4 {os:List (Option Ob)} {mu:Bool} {n':Nat} {b:Int} {g:Nat→Int} (hn:1=n'):aH os ⟨1,1,mu,.ba [[.int .u8 b]]⟩ ⟨1,n',mu,.fn fun i _=>.int .u8 (bif Nat.blt i 1 then b else g i)⟩:=by
 subst hn
 refine ⟨rfl,rfl,rfl,fun i j hi hj=>aw.of_eq ?_⟩
 obtain rfl:i=0:=Nat.lt_one_iff.1 hi
 obtain rfl:j=0:=Nat.lt_one_iff.1 hj
 rfl
theorem sV {os:List (Option Ob)} {mu:Bool} {a b:List Int} (h:b=a):aH os ⟨1,a.length,mu,.fn (vT .u8 a)⟩ ⟨1,b.length,mu,.fn (vT .u8 b)⟩:=by
 subst h
 exact .refl _
theorem ir (n:Int):(It.int n).enc.length=9:=by rfl
theorem Co (l:List Int) (n:Int):l.length+1+8=(l++(It.int n).enc).length:=by rw [List.length_append,ir]
theorem xd (l:List Int) (n:Nat) (f:Nat→Int):l.length+1+4+n=(l++(It.eQ n f).enc).length:=by grind [List.length_append,i7]
end Go.Sp
namespace Go.Sp
open Go Go.Am
theorem zB {n k k' size:Nat} {v:Int} {y:Int} {i:Nat} (hk:k'=k+1) (hi:i<n+k') {x:Int} (hx:x=dy v size k) :
  (bif Nat.blt i (n+k) then (bif Nat.blt i n then y else dy v size (i - n)) else x)=bif Nat.blt i n then y else dy v size (i - n):=by grind [cy,dh,Nat.le_of_not_lt,dy]
theorem vo {os:List (Option Ob)} {mu:Bool} {n t size:Nat} {v X:Int} {f:Nat→Nat→Int} (hX:X=dy v size t) :
  aH os ⟨1,n+t+1,mu,.fn fun i j=>.int .u8 (bif Nat.blt i (n+t) then (bif Nat.blt i n then f i j else dy v size (i - n)) else aE (aO [.int .u8 X] j))⟩ ⟨1,n+(t+1),mu,.fn fun i j=>.int .u8 (bif Nat.blt i n then f i j else dy v size (i - n))⟩:=by
 refine ⟨rfl,rfl,rfl,fun i j hi hj=>aw.of_eq ?_⟩
 obtain rfl:j=0:=Nat.lt_one_iff.1 hj
 exact congrArg (AV.int .u8) (zB (n:=n) (k:=t) (size:=size) (v:=v) (y:=f i 0) rfl hi hX)
theorem wr1 {l:List Int} {v w:Int} {size i:Nat} (hi:i<l.length+1+size) :
  (bif Nat.blt i (l.length+1) then (bif Nat.blt i l.length then l.getD i 0 else v) else dy w size (i - (l.length+1)))=(l++(v::qB w size)).getD i 0:=by grind [qB,mL,cy,dh,Nat.le_of_not_lt,dy,List.range,getD_map]
theorem wr2 {l:List Int} {v w:Int} {n i:Nat} {f:Nat→Int} (hi:i<l.length+1+4+n) :
  (bif Nat.blt i (l.length+1+4) then (bif Nat.blt i (l.length+1) then (bif Nat.blt i l.length then l.getD i 0 else v) else dy w 4 (i - (l.length+1))) else f (i - (l.length+1+4)))=(l++(v::(qB w 4++(List.range n).map f))).getD i 0:=by
 have e:l++(v::(qB w 4++(List.range n).map f))=(l++(v::qB w 4))++(List.range n).map f:=by simp
 have hl:(l++(v::qB w 4)).length=l.length+1+4:=by simp [gQ]
 rw [e,mL,hl]
 grind [cy,wr1,dh,Nat.le_of_not_lt,getD_map]
end Go.Sp
namespace Go.Sp
open Go Go.Am
theorem MQ (d:Int) (n:Nat) (p:Nat→Bool):(decide (d>0)&&decide ((n:Int)≤1000) && !decide (aK p n 0≥0))=(decide (0<d)&&Nat.ble n 1000&&(List.range n).all fun i => !p i):=by
 have e1:decide ((n:Int)≤1000)=Nat.ble n 1000:=by
  rw [Bool.eq_iff_iff,Nat.ble_eq,decide_eq_true_eq]
  omega
 have e2:(!decide (aK p n 0≥0))=(List.range n).all fun i => !p i:=by simp [gH,List.not_any_eq_all_not,Nat.zero_add]
 grind
end Go.Sp
namespace Go.Sp
open Go Go.Am
theorem HU {os:List (Option Ob)} {v w:Int} (h:v=w):cM os [.int .i64 1,.int .i64 v,.bc,.bc] (It.int w).cells:=by subst h;exact ⟨aw.refl _,aw.refl _,aw.bc,aw.bc,trivial⟩
theorem yy {os:List (Option Ob)} (n:Nat) (f:Nat→Int):cM os [.int .i64 2,.int .i64 0,dn n f,.bc] (It.eQ n f).cells:=⟨aw.refl _,aw.refl _,aw.refl _,aw.bc,trivial⟩
theorem qb {os:List (Option Ob)} {mu:Bool} {l:List Int} {n n':Nat} {v:Int} (hn:n'=n+1) (h:v=l.getD n 0) :
  aH os ⟨4,n+1,mu,.cat n (.row fun i=>(It.int (l.getD i 0)).cells) (.ba [[.int .i64 1,.int .i64 v,.bc,.bc]])⟩ ⟨4,n',mu,.row fun i=>(It.int (l.getD i 0)).cells⟩ :=
 aH.pq (c:=fun i=>(It.int (l.getD i 0)).cells) (c':=fun i=>(It.int (l.getD i 0)).cells) hn (fun _ _=>cM.refl _) (HU h)
theorem F1 {os:List (Option Ob)} {es:Nat} {mu:Bool} {a b a' b':List AV} (h:cM os a a') (h':cM os b b'):aH os ⟨es,2,mu,.ba [a,b]⟩ ⟨es,2,mu,.ba [a',b']⟩ :=
 ⟨rfl,rfl,rfl,fun i j hi _=>by
  have hi:i<2:=hi
  match i,hi with
  | 0,_=>exact aw.aO h j
  | 1,_=>exact aw.aO h' j⟩
theorem pL {os:List (Option Ob)} {l:List Int} {n:Nat} (h:n=l.length):aw os (.agg [.int .i64 3,.int .i64 0,.bc,.aG 4 n fun r k=>aO (It.int (l.getD r 0)).cells k]) (bu l).av:=by
 subst h
 exact aw.agg ⟨aw.refl _,aw.refl _,aw.bc,aw.refl _,trivial⟩
theorem eO {os:List (Option Ob)} {k:IntKind} {R:List (List AV)} {l:List Int} {n:Nat} (hn:n=l.length) (h:R=l.map fun v=>[.int k v]):aw os (.aG 1 n fun r j=>aO (R.getD r []) j) (il k l):=by
 subst hn
 refine aw.aG fun i j hi hj=>?_
 obtain rfl:j=0:=Nat.lt_one_iff.1 hj
 subst h
 simp [aO,vT,List.getD_eq_getElem?_getD,hi]
end Go.Sp
namespace Go.Sp
open Go Go.Am
theorem CN {os:List (Option Ob)} {f:Nat→Int} {n:Nat} (h:n=32):aw os (.agg [.int .i64 2,.int .i64 0,.aG 1 n fun i _=>.int .u8 (f i),.bc]) (It.eQ 32 f).av:=by
 subst h
 exact aw.agg (yy 32 f)
end Go.Sp
namespace Go.Sp
open Go Go.Am
theorem Ag {a b:List AV} {i:Nat}:aO (a++b) (a.length+i)=aO b i:=by simp [aO,List.getD_eq_getElem?_getD,List.getElem?_append_right,Nat.le_add_right,Nat.add_sub_cancel_left]
theorem CH {a b:List AV} {i:Nat} (h:i<a.length):aO (a++b) i=aO a i:=by grind [aO,List.getElem?_append_left]
theorem bQ.xI (c:bQ) {i:Nat} (h:i<32):aE (aO c.cells (5+i))=c.root i:=by
 have e:aO c.cells (5+i)=aO (bh c.root++[.int .i64 c.z,.int .i64 c.sa,.int .i64 c.sb,.int .i64 c.r]) i:=Ag (a:=[.int .i64 c.ju,.int .i64 c.fK,.int .i64 c.gq,.int .i64 c.depth,.int .i64 c.a]) (i:=i)
 rw [e,CH (show i<(bh c.root).length from h)]
 exact eL h
theorem It.Iz:∀ x:It,Cl (.aG 4 x.nl x.row)
 | .int _=>.aG (fun i j h=>absurd h (Nat.not_lt_zero _))
 | .eQ _ _=>.aG (fun i j h=>absurd h (Nat.not_lt_zero _))
 | .li n c=>.aG (fun i j _ hj=>by
  have ih:=It.Iz (c i)
  show Cl (aO [.int .i64 (c i).kind,.int .i64 (c i).num,dn (c i).nb (c i).fb,.aG 4 (c i).nl (It.row (c i))] j)
  match j,hj with
  | 0,_=>exact .int
  | 1,_=>exact .int
  | 2,_=>exact .aG (fun _ _ _ _=>.int)
  | 3,_=>exact ih)
theorem It.I4 (x:It) (j:Nat) (hj:j<4):Cl (aO x.cells j):=by
 match j,hj with
 | 0,_=>exact .int
 | 1,_=>exact .int
 | 2,_=>exact .aG (fun _ _ _ _=>.int)
 | 3,_=>exact x.Iz
theorem BT {os:List (Option Ob)} {R:List (List AV)} {L:List It} {n:Nat} (hn:n=L.length) (h:∀ i,i<n→cM os (R.getD i []) (L.getD i (.int 0)).cells) :
  aw os (.agg [.int .i64 3,.int .i64 0,.bc,.aG 4 n fun r k=>aO (R.getD r []) k]) (nJ L).av:=by
 subst hn
 exact aw.agg ⟨aw.refl _,aw.refl _,aw.bc,aw.Fv (fun i j hi hj=>⟨aw.aO (h i hi) j,It.I4 _ j hj⟩),trivial⟩
theorem zw {os:List (Option Ob)} {a b c:List AV} {x y z:It} (ha:cM os a x.cells) (hb:cM os b y.cells) (hc:cM os c z.cells) :
  aw os (.agg [.int .i64 3,.int .i64 0,.bc,.aG 4 3 fun r k=>aO (List.getD [a,b,c] r []) k]) (nJ [x,y,z]).av :=
 BT (L:=[x,y,z]) rfl fun i hi=>match i,hi with
  | 0,_=>ha
  | 1,_=>hb
  | 2,_=>hc
theorem zm {os:List (Option Ob)} {a b c d:List AV} {x y z w:It} (ha:cM os a x.cells) (hb:cM os b y.cells) (hc:cM os c z.cells) (hd:cM os d w.cells) :
  aw os (.agg [.int .i64 3,.int .i64 0,.bc,.aG 4 4 fun r k=>aO (List.getD [a,b,c,d] r []) k]) (nJ [x,y,z,w]).av :=
 BT (L:=[x,y,z,w]) rfl fun i hi=>match i,hi with
  | 0,_=>ha
  | 1,_=>hb
  | 2,_=>hc
  | 3,_=>hd
end Go.Sp
namespace Go.Sp
open Go Go.Am
theorem bQ.MP (c:bQ):c.it.p4 8=true:=by rfl
theorem lh (l:List Int):(bu l).okB:=fun _ _=>trivial
theorem zb {L:List It} (h:∀ x,x∈L→x.okB):(nJ L).okB:=fun i hi=>by grind
theorem zJ (l:List Int):(bu l).enc.length=5+9*l.length:=by
 have h:∀ (c:Nat→It) (k:Nat),(∀ i,(c i).enc.length=9)→∀ n,(It.lA n c k).length=5+9*k:=fun c k hc n=>by induction k<;>grind [It.iC,gQ,It.fu,List.length_append]
 exact h _ _ (fun i=>ir _) _
theorem bQ.rO (c:bQ):c.it.enc.length=133:=by rfl
theorem bQ.Dl {c:bQ} (h:cC c.root 32):c.it.okB:=zb fun x hx=>by
 simp only [List.mem_cons,List.not_mem_nil,or_false] at hx
 rcases hx with e|e|e
 ·grind [lh]
 ·exact e▸h
 grind [lh]
theorem bQ.Kd (c:bQ):cC c.rD 32:=fun i _=>pS _ _ i
theorem jd (s:ByteArray) (x:It) (n:Nat):cC (jn s x) n:=fun i _=>pS _ _ i
theorem GC (c:bQ) (l i:Int) (x:i9):(gF c l i x).p4 8=true:=by rfl
theorem mG (c:bQ) (l i:Int) (x:i9):(gF c l i x).enc.length=125:=by rfl
theorem vj {c:bQ} {l i:Int} {x:i9} (h:cC x.bI 32):(gF c l i x).okB:=zb fun y hy=>by
 simp only [List.mem_cons,List.not_mem_nil,or_false] at hy
 rcases hy with e|e|e|e
 ·exact e▸c.Kd
 ·grind [lh]
 ·exact e▸h
 grind [lh]
end Go.Sp

namespace Go.Proofs.YtgnfjlekpgjehaaGreatDoor
open Go.IntKind (wrap)
open Int (toNat)
open Go Go.Am Go.Sp
set_option maxRecDepth 100000
theorem Dd (n:Int):Pure Tryz.prog aW 275 [.agg [.int .i64 1,.int .i64 n,dn 0 (fun _=>0),.aG 4 0 (fun _ _=>.bw)]] (il .u8 (It.int n).enc):=by
 have hw:=ij n
 refine ar (own:=bk) Tryz.func275 (by kernel_rfl) mixed (by kernel_rfl)
  (.tt (.dc true 318 [Zu (wrap .u64 n),Zi 8] (dn 8 (dy (wrap .u64 n) 8)) (.bf (9≤140737488355328) (.out (.aG 1 9 fun r k=>Zb (bif Nat.blt (r+0) 1 then aE (aO [Zb 1] k) else dy (wrap .u64 n) 8 (r+0 - 1))) [] (il IntKind.u8 (It.enc (It.int n))) []))))
  (by kernel_rfl) ?_
 refine eT ?_
 refine bM (sP (wrap .u64 n) (by omega) (by omega) (8) (by omega) (by omega)) ?_
 refine aD (by omega) ?_
 exact aq (Jn rfl (fun i hi=>DL hi))
theorem Ed (n:Nat) (f:Nat→Int) (hn:n≤1099511627776):Pure Tryz.prog aW 275 [.agg [.int .i64 2,.int .i64 0,dn n f,.aG 4 0 (fun _ _=>.bw)]] (il .u8 (It.eQ n f).enc):=by
 have hw:=ij n
 have e:IntKind.wrap .u64 (n:Int)=n:=dx (by omega) (by omega)
 refine ar (own:=bk) Tryz.func275 (by kernel_rfl) mixed (by kernel_rfl)
  (let z0:Int:=(wrap .u64 (n:Int));(.ff (.tt (.dc true 318 [Zu z0,Zi 4] (dn 4 (dy z0 4)) (.bf (5≤140737488355328) (.bf ((5+n)*1≤140737488355328) (.out (.aG 1 (5+n) fun r k=>Zb (bif Nat.blt (r+0) 5 then bif Nat.blt (r+0) 1 then aE (aO [Zb 2] k) else dy z0 4 (r+0 - 1) else f (r+0 - 5))) [] (il IntKind.u8 (It.enc (It.eQ n f))) [])))))))
  (by kernel_rfl) ?_
 refine b9 ?_
 refine eT ?_
 refine bM (sP (wrap .u64 (↑n:Int)) (by omega) (by omega) (4) (by omega) (by omega)) ?_
 refine aD (by omega) ?_
 refine aD (by omega) ?_
 exact aq (Jn (i7 n f).symm (fun i hi=>by
                                                                                                     rw [e]
                                                                                                     exact Om hi))
theorem Gx (n:Nat) (c:Nat→It) (E A:Nat→List Int) (hn:n≤1099511627776) (h0:A 0=3::qB n 4) (hE:∀ k,A (k+1)=A k++E k) (hA:∀ k,k≤n→(A k).length≤1099511627776)
  (hc:∀ i,i<n→Pure Tryz.prog aW 275 [(c i).av] (il .u8 (E i))):Pure Tryz.prog aW 275 [.agg [.int .i64 3,.int .i64 0,dn 0 (fun _=>0),It.sl n c]] (il .u8 (A n)):=by
 have hw:=ij n
 have e:IntKind.wrap .u64 (n:Int)=n:=dx (by omega) (by omega)
 have l0:(A 0).length=5:=by rw [h0];simp [gQ]
 have ls:∀ k,(A (k+1)).length=(A k).length+(E k).length:=fun k=>by rw [hE,List.length_append]
 refine ar (own:=bk) Tryz.func275 (by kernel_rfl) mixed (by kernel_rfl)
  (let z1:Int:=(wrap .u64 (n:Int));let y0:List AV:=[Zi 3,Zi 0,.aG 1 0 fun i x=>Zb 0,.aG 4 n fun i j=>aO (It.cells (c i)) j];let y1:=(fun (x:{ x:Nat // x≤n })=>aY [1,3,4] [.own 0 4 0 0 4,.aZ 1 1 0 (List.length (A (x.1))),Zi x.1] [some ⟨4,1,true,.ba [y0]⟩,nX IntKind.u8 (A (x.1))]);let y2:=(fun (x:{ x:Nat // x≤n })=>n - x.1);(.ff (.ff (.dc true 318 [Zu z1,Zi 4] (dn 4 (dy z1 4)) (.bf (5≤140737488355328) (.loop ({ x:Nat // x≤n }) y1 y2 (⟨0,Nat.zero_le n⟩) [1,3,4] [0,112] [.own 0 4 0 0 4,.aZ 1 1 0 5,Zi 0] [some ⟨4,1,true,.ba [y0]⟩,some ⟨1,5,true,.fn fun i j=>Zb (bif Nat.blt i 1 then aE (aO [Zb 3] j) else dy z1 4 (i - 1))⟩] (fun x4=>let z0:Nat:=(toNat (x4.1:Int));(.br (decide ((x4.1:Int)<(n:Int))) (.bf (0≤(x4.1:Int)∧(x4.1:Int)<(n:Int)) (.dc true 275 [.agg [Zi (It.kind (c z0)),Zi (It.num (c z0)),.aG 1 (It.nb (c z0)) fun i x=>Zb (It.fb (c z0) i),.aG 4 (It.nl (c z0)) (It.row (c z0))]] (il IntKind.u8 (E z0)) (.bf ((List.length (A (x4.1))+List.length (E z0))*1≤140737488355328) (.again (be 0 y1 y2 x4) [1,3,4] [0,98] [.own 0 4 0 0 4,.aZ 1 1 0 (List.length (A (x4.1))+List.length (E z0)),Zi (wrap .i64 ((x4.1:Int)+1))] [some ⟨4,1,true,.ba [y0]⟩,some ⟨1,List.length (A (x4.1))+List.length (E z0),true,.fn fun i j=>Zb (bif Nat.blt i (List.length (A (x4.1))) then List.getD (A (x4.1)) i (0:Int) else List.getD (E z0) (i - List.length (A (x4.1))) (0:Int))⟩])))) (.out (.aG 1 (List.length (A (x4.1))) fun r k=>Zb (List.getD (A (x4.1)) (r+0) (0:Int))) [] (il IntKind.u8 (A n)) [])))))))))
  (by kernel_rfl) ?_
 refine b9 ?_
 refine b9 ?_
 refine bM (sP (wrap .u64 (↑n:Int)) (by omega) (by omega) (4) (by omega) (by omega)) ?_
 refine aD (by omega) ?_
 refine aU (fun _ hs=>hs.le (by repeat' (first|exact trivial|(first|exact aw.refl _|exact aJ (by omega)|exact aw.nil rfl|exact aw.of_eq (congrArg (AV.aZ _ _ _) (by first|omega|(dsimp only;omega)))|exact aw.of_eq (congrArg (AV.int _) (by omega)))|refine And.intro ?_ ?_)) (⟨by exact aH.refl _,ko l0.symm (fun i hi=>by
                                                                                                     rw [e,h0]
                                                                                                     exact DL hi),trivial⟩)) (fun x4=>?_)
 refine aL (fun h5=>?_) (fun h5=>?_)
 ·have g5:=af h5
  refine aD (by omega) ?_
  refine bM (hc (toNat (↑x4.1:Int)) (by omega)) ?_
  refine aD (by have q1:=hA (x4.1+1) (by omega);have q2:=ls x4.1;simp only [Int.toNat_natCast];omega) ?_
  exact aN (⟨x4.1+1,by omega⟩) (fun _ hs=>hs.le (⟨by exact aw.refl _,aw.of_eq (congrArg (AV.aZ 1 1 0) (ls x4.1).symm),by exact aJ (by omega),trivial⟩) (⟨by exact aH.refl _,Hd (hE x4.1) rfl,trivial⟩)) (by (dsimp only;omega))
 ·have g5:=aa h5
  exact aq (aw.of_eq (by rw [show x4.1=n by omega];rfl))
theorem lP:∀ x:It,x.enc.length≤1099511627776→Pure Tryz.prog aW 275 [x.av] (il .u8 x.enc)
 | .int n,_=>Dd n
 | .eQ n f,h=>Ed n f (by rw [i7] at h;omega)
 | .li n c,h=>Gx n c (fun i=>(c i).enc) (It.lA n c) (by have:=It.kt n c n;rw [It.px] at h;omega) (It.iC n c) (It.fu n c) (fun k hk=>Nat.le_trans (It.oF n c hk) h)
   (fun i hi=>lP (c i) (by have:=It.rj (c:=c) hi;omega))
def ow3:FuncId→Option (List Bool):=fun f=>bif Nat.beq f 116||Nat.beq f 128 then some [false] else bif Nat.beq f 343 then some [true,false,false] else bif Nat.beq f 323 then some [true,false] else none
theorem pK (n:Nat) (f:Nat→Nat→Int) (v:Int) (h0:0≤v) (hv:v<18446744073709551616) (size:Nat) (h1:1≤size) (h8:size≤8) (hl:n≤1099511627776) :
  bC Tryz.prog aW 343 [⟨1,n,true,.fn fun i j=>.int .u8 (f i j)⟩] [.aZ 0 1 0 n,.int .u64 v,.int .i64 size] (.aZ 1 1 0 (n+size)) [none,some ⟨1,n+size,true,.fn fun i j=>.int .u8 (bif Nat.blt i n then f i j else dy v size (i - n))⟩]:=by
 refine bO (own:=bk) (hand:=true) Tryz.func343 (by kernel_rfl) mixed (by kernel_rfl)
  (let y0:=(fun (x:{ x:Nat // x≤size })=>aY [1,0,7] [Zu v,.aZ 1 1 0 (n+x.1),Zi ((size:Int) - 1 - (↑(x.1):Int))] [none,some ⟨1,n+x.1,true,.fn fun i j=>Zb (bif Nat.blt i n then f i j else dy v size (i - n))⟩]);let y1:=(fun (x:{ x:Nat // x≤size })=>size - x.1);(.loop ({ x:Nat // x≤size }) y0 y1 (⟨0,Nat.zero_le size⟩) [1,0,7] [33,0] [Zu v,.aZ 1 1 0 n,Zi (wrap .i64 ((size:Int) - 1))] [none,some ⟨1,n,true,.fn fun i j=>Zb (f i j)⟩] (fun x0=>(.br (decide ((size:Int) - 1 - (x0.1:Int)≥0)) (.bf ((0:Int)≤wrap .i64 ((8:Int)*((size:Int) - 1 - (x0.1:Int)))) (.bf ((n+x0.1+1)*1≤140737488355328) (.again (be 1 y0 y1 x0) [1,0,7] [114,74] [Zu v,.aZ 1 1 0 (n+x0.1+1),Zi (wrap .i64 ((size:Int) - 1 - (x0.1:Int) - 1))] [none,some ⟨1,n+x0.1+1,true,.fn fun i j=>Zb (bif Nat.blt i (n+x0.1) then bif Nat.blt i n then f i j else dy v size (i - n) else aE (aO [Zb (wrap .u8 (Int.fdiv v ((2:Int)^min (toNat (wrap .i64 ((8:Int)*((size:Int) - 1 - (x0.1:Int))))) 64)))] j))⟩]))) (.out (.aZ 1 1 0 (n+x0.1)) [none,some ⟨1,n+x0.1,true,.fn fun i j=>Zb (bif Nat.blt i n then f i j else dy v size (i - n))⟩] (.aZ 1 1 0 (n+size)) [none,some ⟨1,n+size,true,.fn fun i j=>Zb (bif Nat.blt i n then f i j else dy v size (i - n))⟩])))))
  (by kernel_rfl) ?_
 refine aU (fun _ hs=>hs.le (⟨by exact aw.refl _,by exact aw.refl _,aw.of_eq (congrArg _ (by rw [wI (by omega) (by omega)];dsimp only;omega)),trivial⟩) (⟨HL rfl,trivial⟩)) (fun x0=>?_)
 try (have q0:=x0.2;dsimp only at q0)
 refine aL (fun h1=>?_) (fun h1=>?_)
 ·have g1:=af h1
  refine aD (by rw [wI (by omega) (by omega)];omega) ?_
  refine aD (by omega) ?_
  exact aN (⟨x0.1+1,by omega⟩) (fun _ hs=>hs.le (⟨by exact aw.refl _,by exact aw.refl _,aw.of_eq (congrArg _ (by rw [wI (by omega) (by omega)];dsimp only;omega)),trivial⟩) (⟨vo (yd (by omega) h8),trivial⟩)) (by (dsimp only;omega))
 ·have g1:=aa h1
  exact cP (aw.of_eq (congrArg (AV.aZ 1 1 0) (by omega))) (by repeat' (first|exact trivial|(first|exact aH.refl _|exact aH.bw|exact aH.zero|exact aH.push rfl rfl|exact aH.cm rfl|exact aH.len (by omega)|exact aH.row (by repeat' (first|exact trivial|(first|exact aw.refl _|exact aJ (by omega)|exact aw.nil rfl|exact aw.of_eq (congrArg (AV.aZ _ _ _) (by first|omega|(dsimp only;omega)))|exact aw.of_eq (congrArg (AV.int _) (by first|omega|(dsimp only;omega))))|refine And.intro ?_ ?_)))|refine And.intro ?_ ?_))
theorem pr (b:Int) (v:Int) (h0:0≤v) (hv:v<18446744073709551616) (size:Nat) (h1:1≤size) (h8:size≤8) :
  bC Tryz.prog aW 343 [⟨1,1,true,.ba [[.int .u8 b]]⟩] [.aZ 0 1 0 1,.int .u64 v,.int .i64 size] (.aZ 1 1 0 (1+size)) [none,some ⟨1,1+size,true,.fn fun i _=>.int .u8 (bif Nat.blt i 1 then b else dy v size (i - 1))⟩]:=by
 refine bO (own:=bk) (hand:=true) Tryz.func343 (by kernel_rfl) mixed (by kernel_rfl)
  (let y0:=(fun (x:{ x:Nat // x≤size })=>aY [1,0,7] [Zu v,.aZ 1 1 0 (1+x.1),Zi ((size:Int) - 1 - (↑(x.1):Int))] [none,some ⟨1,1+x.1,true,.fn fun i x=>Zb (bif Nat.blt i 1 then b else dy v size (i - 1))⟩]);let y1:=(fun (x:{ x:Nat // x≤size })=>size - x.1);(.loop ({ x:Nat // x≤size }) y0 y1 (⟨0,Nat.zero_le size⟩) [1,0,7] [33,0] [Zu v,.aZ 1 1 0 1,Zi (wrap .i64 ((size:Int) - 1))] [none,some ⟨1,1,true,.ba [[Zb b]]⟩] (fun x0=>(.br (decide ((size:Int) - 1 - (x0.1:Int)≥0)) (.bf ((0:Int)≤wrap .i64 ((8:Int)*((size:Int) - 1 - (x0.1:Int)))) (.bf ((1+x0.1+1)*1≤140737488355328) (.again (be 1 y0 y1 x0) [1,0,7] [114,74] [Zu v,.aZ 1 1 0 (1+x0.1+1),Zi (wrap .i64 ((size:Int) - 1 - (x0.1:Int) - 1))] [none,some ⟨1,1+x0.1+1,true,.fn fun i j=>Zb (bif Nat.blt i (1+x0.1) then bif Nat.blt i 1 then b else dy v size (i - 1) else aE (aO [Zb (wrap .u8 (Int.fdiv v ((2:Int)^min (toNat (wrap .i64 ((8:Int)*((size:Int) - 1 - (x0.1:Int))))) 64)))] j))⟩]))) (.out (.aZ 1 1 0 (1+x0.1)) [none,some ⟨1,1+x0.1,true,.fn fun i j=>Zb (bif Nat.blt i 1 then b else dy v size (i - 1))⟩] (.aZ 1 1 0 (1+size)) [none,some ⟨1,1+size,true,.fn fun i x=>Zb (bif Nat.blt i 1 then b else dy v size (i - 1))⟩])))))
  (by kernel_rfl) ?_
 refine aU (fun _ hs=>hs.le (⟨by exact aw.refl _,by exact aw.refl _,aw.of_eq (congrArg _ (by rw [wI (by omega) (by omega)];dsimp only;omega)),trivial⟩) (⟨B4 rfl,trivial⟩)) (fun x0=>?_)
 try (have q0:=x0.2;dsimp only at q0)
 refine aL (fun h1=>?_) (fun h1=>?_)
 ·have g1:=af h1
  refine aD (by rw [wI (by omega) (by omega)];omega) ?_
  refine aD (by omega) ?_
  exact aN (⟨x0.1+1,by omega⟩) (fun _ hs=>hs.le (⟨by exact aw.refl _,by exact aw.refl _,aw.of_eq (congrArg _ (by rw [wI (by omega) (by omega)];dsimp only;omega)),trivial⟩) (⟨vo (f:=fun _ _=>b) (yd (by omega) h8),trivial⟩)) (by (dsimp only;omega))
 ·have g1:=aa h1
  exact cP (aw.of_eq (congrArg (AV.aZ 1 1 0) (by omega))) (by repeat' (first|exact trivial|(first|exact aH.refl _|exact aH.bw|exact aH.zero|exact aH.push rfl rfl|exact aH.cm rfl|exact aH.len (by omega)|exact aH.row (by repeat' (first|exact trivial|(first|exact aw.refl _|exact aJ (by omega)|exact aw.nil rfl|exact aw.of_eq (congrArg (AV.aZ _ _ _) (by first|omega|(dsimp only;omega)))|exact aw.of_eq (congrArg (AV.int _) (by first|omega|(dsimp only;omega))))|refine And.intro ?_ ?_)))|refine And.intro ?_ ?_))
theorem Bc (l:List Int) (n:Int) (hl:l.length≤16384):bC Tryz.prog aW 323 [⟨1,l.length,true,.fn (vT .u8 l)⟩] [.aZ 0 1 0 l.length,.agg [.int .i64 1,.int .i64 n,dn 0 (fun _=>0),.aG 4 0 (fun _ _=>.bw)]]
  (.aZ 1 1 0 (l++(It.int n).enc).length) [none,nX .u8 (l++(It.int n).enc)]:=by
 have hw:=ij n
 refine bO (own:=ow3) (hand:=true) Tryz.func323 (by kernel_rfl) mixed (by kernel_rfl)
  (let z1:=(l++It.enc (It.int n));let z0:=(List.length l+1);let y0:List (Option Ob):=[none,some ⟨1,List.length l+1+8,true,.fn fun i j=>Zb (bif Nat.blt i z0 then bif Nat.blt i (List.length l) then List.getD l i (0:Int) else aE (aO [Zb (wrap .u8 (1:Int))] j) else dy (wrap .u64 n) 8 (i - z0))⟩];let y1:AV:=(.aZ 1 1 0 (List.length z1));let y2:AV:=(.aZ 1 1 0 (List.length l+1+8));(.br (decide ((↑(List.length l):Int)>16384)) (.out (.aZ 0 1 0 (List.length l)) [some ⟨1,List.length l,true,.fn fun i j=>Zb (List.getD l i (0:Int))⟩] y1 [none,nX IntKind.u8 z1]) (.bf (z0*1≤140737488355328) (.tt (.gc 343 [⟨1,List.length l+1,true,.fn fun i j=>Zb (bif Nat.blt i (List.length l) then List.getD l i (0:Int) else aE (aO [Zb (wrap .u8 (1:Int))] j))⟩] [.aZ 0 1 0 z0,Zu (wrap .u64 n),Zi 8] y2 (y0) (.out y2 (y0) y1 [none,nX IntKind.u8 z1]))))))
  (by kernel_rfl) ?_
 refine aL (fun h0=>?_) (fun h0=>?_)
 ·have g0:=af h0
  exact cP ((by exfalso;omega)) ((by exfalso;omega))
 ·have g0:=aa h0
  refine aD (by omega) ?_
  refine eT ?_
  refine fU (pK (List.length l+1) (fun (i j:Nat)=>bif Nat.blt i (List.length l) then List.getD l i (0:Int) else aE (aO [Zb (wrap .u8 (1:Int))] j)) (wrap .u64 n) (by omega) (by omega) (8) (by omega) (by omega) (by omega)) ?_
  exact cP (aw.of_eq (congrArg (AV.aZ 1 1 0) (Co l n))) (⟨ko (Co l n) (fun i hi=>wr1 hi),trivial⟩)
theorem zU (l:List Int) (n:Nat) (f:Nat→Int) (hl:l.length≤16384) (hn:n≤16384):bC Tryz.prog aW 323 [⟨1,l.length,true,.fn (vT .u8 l)⟩] [.aZ 0 1 0 l.length,.agg [.int .i64 2,.int .i64 0,dn n f,.aG 4 0 (fun _ _=>.bw)]]
  (.aZ 1 1 0 (l++(It.eQ n f).enc).length) [none,nX .u8 (l++(It.eQ n f).enc)]:=by
 have hw:=ij n
 have e:IntKind.wrap .u64 (n:Int)=n:=dx (by omega) (by omega)
 refine bO (own:=ow3) (hand:=true) Tryz.func323 (by kernel_rfl) mixed (by kernel_rfl)
  (let z4:=(List.length l+1+4+n);let z3:Int:=(wrap .u64 (n:Int));let z2:=(List.length l+1+4);let z1:=(l++It.enc (It.eQ n f));let z0:=(List.length l+1);let y0:List AV:=[Zb (wrap .u8 (2:Int))];let y1:AV:=(.aZ 1 1 0 (List.length z1));(.br (decide ((↑(List.length l):Int)>16384)) (.out (.aZ 0 1 0 (List.length l)) [some ⟨1,List.length l,true,.fn fun i j=>Zb (List.getD l i (0:Int))⟩] y1 [none,nX IntKind.u8 z1]) (.bf (z0*1≤140737488355328) (.ff (.tt (.gc 343 [⟨1,List.length l+1,true,.fn fun i j=>Zb (bif Nat.blt i (List.length l) then List.getD l i (0:Int) else aE (aO y0 j))⟩] [.aZ 0 1 0 z0,Zu z3,Zi 4] (.aZ 1 1 0 z2) [none,some ⟨1,List.length l+1+4,true,.fn fun i j=>Zb (bif Nat.blt i z0 then bif Nat.blt i (List.length l) then List.getD l i (0:Int) else aE (aO y0 j) else dy z3 4 (i - z0))⟩] (.bf (z4*1≤140737488355328) (.out (.aZ 1 1 0 z4) [none,some ⟨1,List.length l+1+4+n,true,.fn fun i j=>Zb (bif Nat.blt i z2 then bif Nat.blt i z0 then bif Nat.blt i (List.length l) then List.getD l i (0:Int) else aE (aO y0 j) else dy z3 4 (i - z0) else f (i - z2))⟩] y1 [none,nX IntKind.u8 z1]))))))))
  (by kernel_rfl) ?_
 refine aL (fun h0=>?_) (fun h0=>?_)
 ·have g0:=af h0
  exact cP ((by exfalso;omega)) ((by exfalso;omega))
 ·have g0:=aa h0
  refine aD (by omega) ?_
  refine b9 ?_
  refine eT ?_
  refine fU (pK (List.length l+1) (fun (i j:Nat)=>bif Nat.blt i (List.length l) then List.getD l i (0:Int) else aE (aO [Zb (wrap .u8 (2:Int))] j)) (wrap .u64 (↑n:Int)) (by omega) (by omega) (4) (by omega) (by omega) (by omega)) ?_
  refine aD (by omega) ?_
  exact cP (aw.of_eq (congrArg (AV.aZ 1 1 0) (xd l n f))) (⟨ko (xd l n f) (fun i hi=>by
                                                                                                     rw [e]
                                                                                                     exact wr2 hi),trivial⟩)
theorem B6 (l:List Int) (n:Nat) (c:Nat→It) (E A:Nat→List Int) (hl:l.length≤16384) (hn:n≤16384) (hA0:A 0=l++(3::qB n 4)) (hE:∀ k,A (k+1)=A k++E k) (hA:∀ k,k≤n→(A k).length≤16384)
  (hc:∀ i,i<n→∀ l:List Int,l.length≤16384→(l++E i).length≤16384→bC Tryz.prog aW 323 [⟨1,l.length,true,.fn (vT .u8 l)⟩] [.aZ 0 1 0 l.length,(c i).av] (.aZ 1 1 0 (l++E i).length) [none,nX .u8 (l++E i)]) :
  bC Tryz.prog aW 323 [⟨1,l.length,true,.fn (vT .u8 l)⟩] [.aZ 0 1 0 l.length,.agg [.int .i64 3,.int .i64 0,dn 0 (fun _=>0),It.sl n c]] (.aZ 1 1 0 (A n).length) [none,nX .u8 (A n)]:=by
 have hw:=ij n
 have e:IntKind.wrap .u64 (n:Int)=n:=dx (by omega) (by omega)
 have l0:l.length+1+4=(A 0).length:=by rw [hA0];simp [gQ]
 have ls:∀ k,(A (k+1)).length=(A k).length+(E k).length:=fun k=>by rw [hE,List.length_append]
 refine bO (own:=ow3) (hand:=true) Tryz.func323 (by kernel_rfl) mixed (by kernel_rfl)
  (let z2:AV:=(.aZ 1 1 0 (List.length (A n)));let z1:=(List.length l+1);let y0:List (Option Ob):=[none,some ⟨1,List.length l+1+4,true,.fn fun i j=>Zb (bif Nat.blt i z1 then bif Nat.blt i (List.length l) then List.getD l i (0:Int) else aE (aO [Zb (wrap .u8 (3:Int))] j) else dy (wrap .u64 (n:Int)) 4 (i - z1))⟩];let y1:=(fun (x:{ x:Nat // x≤n })=>aY [44,45,0,46] [.aG 4 n fun i j=>aO (It.cells (c i)) j,Zi n,.aZ 1 1 0 (List.length (A (x.1))),Zi x.1] [none,nX IntKind.u8 (A (x.1))]);let y2:=(fun (x:{ x:Nat // x≤n })=>n - x.1);(.br (decide ((↑(List.length l):Int)>16384)) (.out (.aZ 0 1 0 (List.length l)) [some ⟨1,List.length l,true,.fn fun i j=>Zb (List.getD l i (0:Int))⟩] z2 [none,nX IntKind.u8 (A n)]) (.bf (z1*1≤140737488355328) (.ff (.ff (.gc 343 [⟨1,List.length l+1,true,.fn fun i j=>Zb (bif Nat.blt i (List.length l) then List.getD l i (0:Int) else aE (aO [Zb (wrap .u8 (3:Int))] j))⟩] [.aZ 0 1 0 z1,Zu (wrap .u64 (n:Int)),Zi 4] (.aZ 1 1 0 (List.length l+1+4)) (y0) (.loop ({ x:Nat // x≤n }) y1 y2 (⟨0,Nat.zero_le n⟩) [44,45,0,46] [233,185] [.aG 4 n fun i j=>aO (It.cells (c i)) j,Zi n,.aZ 1 1 0 (List.length l+1+4),Zi 0] (y0) (fun x6=>let z0:Nat:=(toNat (x6.1:Int));(.br (decide ((x6.1:Int)<(n:Int))) (.bf (0≤(x6.1:Int)∧(x6.1:Int)<(n:Int)) (.gc 323 [⟨1,List.length (A (x6.1)),true,.fn fun i j=>Zb (List.getD (A (x6.1)) i (0:Int))⟩] [.aZ 0 1 0 (List.length (A (x6.1))),.agg [Zi (It.kind (c z0)),Zi (It.num (c z0)),.aG 1 (It.nb (c z0)) fun i x=>Zb (It.fb (c z0) i),.aG 4 (It.nl (c z0)) (It.row (c z0))]] (.aZ 1 1 0 (List.length (A (x6.1)++E z0))) [none,nX IntKind.u8 (A (x6.1)++E z0)] (.again (be 1 y1 y2 x6) [44,45,0,46] [90,58] [.aG 4 n fun i j=>aO (It.cells (c i)) j,Zi n,.aZ 1 1 0 (List.length (A (x6.1)++E z0)),Zi (wrap .i64 ((x6.1:Int)+1))] [none,some ⟨1,List.length (A (x6.1)++E z0),true,.fn fun i j=>Zb (List.getD (A (x6.1)++E z0) i (0:Int))⟩]))) (.out (.aZ 1 1 0 (List.length (A (x6.1)))) [none,some ⟨1,List.length (A (x6.1)),true,.fn fun i j=>Zb (List.getD (A (x6.1)) i (0:Int))⟩] z2 [none,nX IntKind.u8 (A n)]))))))))))
  (by kernel_rfl) ?_
 refine aL (fun h0=>?_) (fun h0=>?_)
 ·have g0:=af h0
  exact cP ((by exfalso;omega)) ((by exfalso;omega))
 ·have g0:=aa h0
  refine aD (by omega) ?_
  refine b9 ?_
  refine b9 ?_
  refine fU (pK (List.length l+1) (fun (i j:Nat)=>bif Nat.blt i (List.length l) then List.getD l i (0:Int) else aE (aO [Zb (wrap .u8 (3:Int))] j)) (wrap .u64 (↑n:Int)) (by omega) (by omega) (4) (by omega) (by omega) (by omega)) ?_
  refine aU (fun _ hs=>hs.le (by repeat' (first|exact trivial|(first|exact aw.refl _|exact aJ (by omega)|exact aw.nil rfl|exact aw.of_eq (congrArg (AV.aZ _ _ _) (by omega))|exact aw.of_eq (congrArg (AV.int _) (by omega)))|refine And.intro ?_ ?_)) (⟨ko l0 (fun i hi=>by
                                                                                                     rw [e,hA0]
                                                                                                     exact wr1 (size:=4) hi),trivial⟩)) (fun x6=>?_)
  refine aL (fun h7=>?_) (fun h7=>?_)
  ·have g7:=af h7
   refine aD (by omega) ?_
   refine fU (hc (toNat (↑x6.1:Int)) (by omega) (A (x6.1)) (by exact hA _ (by omega)) (by (have q:=hA (x6.1+1) (by omega);rw [hE] at q;exact q))) ?_
   exact aN (⟨x6.1+1,by omega⟩) (fun _ hs=>hs.le (⟨by exact aw.refl _,by exact aw.refl _,aw.of_eq (congrArg (fun z=>AV.aZ 1 1 0 (List.length z)) (hE x6.1).symm),by exact aJ (by omega),trivial⟩) (⟨sV (hE x6.1),trivial⟩)) (by (dsimp only;omega))
  ·have g7:=aa h7
   exact cP (aw.of_eq (congrArg (fun z=>AV.aZ 1 1 0 (A z).length) (by omega))) (⟨sV (congrArg A (by omega)),trivial⟩)
theorem w5 (n:Int):bC Tryz.prog aW 323 [] [.bc,.agg [.int .i64 1,.int .i64 n,dn 0 (fun _=>0),.aG 4 0 (fun _ _=>.bw)]] (.aZ 0 1 0 (It.int n).enc.length) [nX .u8 (It.int n).enc]:=by
 have hw:=ij n
 refine bO (own:=ow3) (hand:=true) Tryz.func323 (by kernel_rfl) mixed (by kernel_rfl)
  (.ff (.bf (1≤140737488355328) (.tt (.gc 343 [⟨1,1,true,.ba [[Zb (wrap .u8 (1:Int))]]⟩] [.aZ 0 1 0 1,Zu (wrap .u64 n),Zi 8] (.aZ 1 1 0 (1+8)) [none,some ⟨1,1+8,true,.fn fun i x=>Zb (bif Nat.blt i 1 then wrap .u8 (1:Int) else dy (wrap .u64 n) 8 (i - 1))⟩] (.out (.aZ 0 1 0 9) [some ⟨1,9,true,.fn fun i j=>Zb (bif Nat.blt i 1 then wrap .u8 (1:Int) else dy (wrap .u64 n) 8 (i - 1))⟩] (.aZ 0 1 0 (List.length (It.enc (It.int n)))) [nX IntKind.u8 (It.enc (It.int n))])))))
  (by kernel_rfl) ?_
 refine b9 ?_
 refine aD (by omega) ?_
 refine eT ?_
 refine fU (pr (wrap .u8 (1:Int)) (wrap .u64 n) (by omega) (by omega) (8) (by omega) (by omega)) ?_
 exact cP (aw.of_eq (congrArg (AV.aZ 0 1 0) (ir n).symm)) (⟨ko (ir n).symm (fun i hi=>DL (size:=8) hi),trivial⟩)
theorem xg (n:Nat) (f:Nat→Int) (hn:n≤16384):bC Tryz.prog aW 323 [] [.bc,.agg [.int .i64 2,.int .i64 0,dn n f,.aG 4 0 (fun _ _=>.bw)]] (.aZ 0 1 0 (It.eQ n f).enc.length) [nX .u8 (It.eQ n f).enc]:=by
 have hw:=ij n
 have e:IntKind.wrap .u64 (n:Int)=n:=dx (by omega) (by omega)
 refine bO (own:=ow3) (hand:=true) Tryz.func323 (by kernel_rfl) mixed (by kernel_rfl)
  (let z0:Int:=(wrap .u64 (n:Int));(.ff (.bf (1≤140737488355328) (.ff (.tt (.gc 343 [⟨1,1,true,.ba [[Zb (wrap .u8 (2:Int))]]⟩] [.aZ 0 1 0 1,Zu z0,Zi 4] (.aZ 1 1 0 (1+4)) [none,some ⟨1,1+4,true,.fn fun i x=>Zb (bif Nat.blt i 1 then wrap .u8 (2:Int) else dy z0 4 (i - 1))⟩] (.bf ((5+n)*1≤140737488355328) (.out (.aZ 0 1 0 (5+n)) [some ⟨1,5+n,true,.fn fun i j=>Zb (bif Nat.blt i 5 then bif Nat.blt i 1 then wrap .u8 (2:Int) else dy z0 4 (i - 1) else f (i - 5))⟩] (.aZ 0 1 0 (List.length (It.enc (It.eQ n f)))) [nX IntKind.u8 (It.enc (It.eQ n f))]))))))))
  (by kernel_rfl) ?_
 refine b9 ?_
 refine aD (by omega) ?_
 refine b9 ?_
 refine eT ?_
 refine fU (pr (wrap .u8 (2:Int)) (wrap .u64 (↑n:Int)) (by omega) (by omega) (4) (by omega) (by omega)) ?_
 refine aD (by omega) ?_
 exact cP (aw.of_eq (congrArg (AV.aZ 0 1 0) (i7 n f).symm)) (⟨ko (i7 n f).symm (fun i hi=>by
                                                                                                     rw [e]
                                                                                                     exact Om hi),trivial⟩)
theorem AJ (n:Nat) (c:Nat→It) (E A:Nat→List Int) (hn:n≤16384) (hA0:A 0=3::qB n 4) (hE:∀ k,A (k+1)=A k++E k) (hA:∀ k,k≤n→(A k).length≤16384)
  (hc:∀ i,i<n→∀ l:List Int,l.length≤16384→(l++E i).length≤16384→bC Tryz.prog aW 323 [⟨1,l.length,true,.fn (vT .u8 l)⟩] [.aZ 0 1 0 l.length,(c i).av] (.aZ 1 1 0 (l++E i).length) [none,nX .u8 (l++E i)]) :
  bC Tryz.prog aW 323 [] [.bc,.agg [.int .i64 3,.int .i64 0,dn 0 (fun _=>0),It.sl n c]] (.aZ 0 1 0 (A n).length) [nX .u8 (A n)]:=by
 have hw:=ij n
 have e:IntKind.wrap .u64 (n:Int)=n:=dx (by omega) (by omega)
 have l0:1+4=(A 0).length:=by rw [hA0];simp [gQ]
 have ls:∀ k,(A (k+1)).length=(A k).length+(E k).length:=fun k=>by rw [hE,List.length_append]
 refine bO (own:=ow3) (hand:=true) Tryz.func323 (by kernel_rfl) mixed (by kernel_rfl)
  (let z1:Int:=(wrap .u64 (n:Int));let y0:=(fun (x:{ x:Nat // x≤n })=>aY [44,45,0,46] [.aG 4 n fun i j=>aO (It.cells (c i)) j,Zi n,.aZ 0 1 0 (List.length (A (x.1))),Zi x.1] [nX IntKind.u8 (A (x.1))]);let y1:=(fun (x:{ x:Nat // x≤n })=>n - x.1);(.ff (.bf (1≤140737488355328) (.ff (.ff (.gc 343 [⟨1,1,true,.ba [[Zb (wrap .u8 (3:Int))]]⟩] [.aZ 0 1 0 1,Zu z1,Zi 4] (.aZ 1 1 0 (1+4)) [none,some ⟨1,1+4,true,.fn fun i x=>Zb (bif Nat.blt i 1 then wrap .u8 (3:Int) else dy z1 4 (i - 1))⟩] (.loop ({ x:Nat // x≤n }) y0 y1 (⟨0,Nat.zero_le n⟩) [44,45,0,46] [184] [.aG 4 n fun i j=>aO (It.cells (c i)) j,Zi n,.aZ 0 1 0 5,Zi 0] [some ⟨1,5,true,.fn fun i j=>Zb (bif Nat.blt i 1 then wrap .u8 (3:Int) else dy z1 4 (i - 1))⟩] (fun x5=>let z0:Nat:=(toNat (x5.1:Int));(.br (decide ((x5.1:Int)<(n:Int))) (.bf (0≤(x5.1:Int)∧(x5.1:Int)<(n:Int)) (.gc 323 [⟨1,List.length (A (x5.1)),true,.fn fun i j=>Zb (List.getD (A (x5.1)) i (0:Int))⟩] [.aZ 0 1 0 (List.length (A (x5.1))),.agg [Zi (It.kind (c z0)),Zi (It.num (c z0)),.aG 1 (It.nb (c z0)) fun i x=>Zb (It.fb (c z0) i),.aG 4 (It.nl (c z0)) (It.row (c z0))]] (.aZ 1 1 0 (List.length (A (x5.1)++E z0))) [none,nX IntKind.u8 (A (x5.1)++E z0)] (.again (be 0 y0 y1 x5) [44,45,0,46] [57] [.aG 4 n fun i j=>aO (It.cells (c i)) j,Zi n,.aZ 0 1 0 (List.length (A (x5.1)++E z0)),Zi (wrap .i64 ((x5.1:Int)+1))] [some ⟨1,List.length (A (x5.1)++E z0),true,.fn fun i j=>Zb (List.getD (A (x5.1)++E z0) i (0:Int))⟩]))) (.out (.aZ 0 1 0 (List.length (A (x5.1)))) [some ⟨1,List.length (A (x5.1)),true,.fn fun i j=>Zb (List.getD (A (x5.1)) i (0:Int))⟩] (.aZ 0 1 0 (List.length (A n))) [nX IntKind.u8 (A n)]))))))))))
  (by kernel_rfl) ?_
 refine b9 ?_
 refine aD (by omega) ?_
 refine b9 ?_
 refine b9 ?_
 refine fU (pr (wrap .u8 (3:Int)) (wrap .u64 (↑n:Int)) (by omega) (by omega) (4) (by omega) (by omega)) ?_
 refine aU (fun _ hs=>hs.le (by repeat' (first|exact trivial|(first|exact aw.refl _|exact aJ (by omega)|exact aw.nil rfl|exact aw.of_eq (congrArg (AV.aZ _ _ _) (by omega))|exact aw.of_eq (congrArg (AV.int _) (by omega)))|refine And.intro ?_ ?_)) (⟨ko l0 (fun i hi=>by
                                                                                                     rw [e,hA0]
                                                                                                     exact DL (size:=4) hi),trivial⟩)) (fun x5=>?_)
 refine aL (fun h6=>?_) (fun h6=>?_)
 ·have g6:=af h6
  refine aD (by omega) ?_
  refine fU (hc (toNat (↑x5.1:Int)) (by omega) (A (x5.1)) (by exact hA _ (by omega)) (by (have q:=hA (x5.1+1) (by omega);rw [hE] at q;exact q))) ?_
  exact aN (⟨x5.1+1,by omega⟩) (fun _ hs=>hs.le (⟨by exact aw.refl _,by exact aw.refl _,aw.of_eq (congrArg (fun z=>AV.aZ 0 1 0 (List.length z)) (hE x5.1).symm),by exact aJ (by omega),trivial⟩) (⟨sV (hE x5.1),trivial⟩)) (by (dsimp only;omega))
 ·have g6:=aa h6
  exact cP (aw.of_eq (congrArg (fun z=>AV.aZ 0 1 0 (A z).length) (by omega))) (⟨sV (congrArg A (by omega)),trivial⟩)
theorem zp:∀ (x:It) (l:List Int),l.length≤16384→(l++x.enc).length≤16384→bC Tryz.prog aW 323 [⟨1,l.length,true,.fn (vT .u8 l)⟩] [.aZ 0 1 0 l.length,x.av] (.aZ 1 1 0 (l++x.enc).length) [none,nX .u8 (l++x.enc)]
 | .int n,l,h,_=>Bc l n h
 | .eQ n f,l,h,h'=>zU l n f h (by rw [← xd] at h';omega)
 | .li n c,l,h,h'=>by
  have hA:∀ k,k≤n→(l++It.lA n c k).length≤16384:=fun k hk=>by
   have:=It.oF n c hk
   rw [It.px,List.length_append] at h'
   rw [List.length_append]
   omega
  exact B6 l n c (fun i=>(c i).enc) (fun k=>l++It.lA n c k) h (by have:=It.kt n c n;have:=hA n (Nat.le_refl _);rw [List.length_append] at this;omega) (by rw [It.iC]) (fun k=>by rw [It.fu,List.append_assoc]) hA
   (fun i hi l h h'=>zp (c i) l h h')
theorem H0:∀ x:It,x.enc.length≤16384→bC Tryz.prog aW 323 [] [.bc,x.av] (.aZ 0 1 0 x.enc.length) [nX .u8 x.enc]
 | .int n,_=>w5 n
 | .eQ n f,h=>xg n f (by rw [i7] at h;omega)
 | .li n c,h=>AJ n c (fun i=>(c i).enc) (It.lA n c) (by have:=It.kt n c n;rw [It.px] at h;omega) (It.iC n c) (It.fu n c) (fun k hk=>Nat.le_trans (It.oF n c hk) h)
   (fun i _ l h h'=>zp (c i) l h h')
theorem AL (x:It) (d:Int) (b:Bool) (hd:0<d∧d≤8) (h:Pure Tryz.prog aW 342 [x.av,.int .i64 (d - 1)] (.bool b)):Pure Tryz.prog aW 355 [x.av,.bH 1 (aO [.int .i64 d])] (.bool (!b)):=by
 have hw:IntKind.wrap .i64 (d - 1)=d - 1:=wI (by omega) (by omega)
 rw [← hw] at h
 refine ar (own:=bk) Tryz.func355 (by kernel_rfl) mixed (by kernel_rfl)
  (.sc true 342 [.agg [Zi (It.kind x),Zi (It.num x),.aG 1 (It.nb x) fun i x_1=>Zb (It.fb x i),.aG 4 (It.nl x) (It.row x)],Zi (wrap .i64 (d - 1))] (.bool b) (.out (.bool !b) [] (.bool !b) []))
  (by kernel_rfl) ?_
 refine aM (h) ?_
 exact aq (aw.refl _)
theorem Dq (n:Nat) (c:Nat→It) (d:Int) (p:Nat→Bool) (hn:n≤1000) (hc:∀ i,i<n→Pure Tryz.prog aW 355 [(c i).av,.bH 1 (aO [.int .i64 d])] (.bool (p i))) :
  Pure Tryz.prog aW 361 [It.sl n c,.fn (.func 355) [] [.bH 1 (aO [.int .i64 d])]] (.int .i64 (aK p n 0)):=by
 refine ar (own:=bk) Tryz.func361 (by kernel_rfl) mixed (by kernel_rfl)
  (let z3:List AV:=[AV.bH 1 (aO [Zi d])];let z2:=(Fn.func (355:FuncId));let z0:={ x:Nat // x≤n∧(fun i=>aK p n 0=aK p (n - i) i) x };let y0:=(fun (x:z0)=>aY [0,1,7,8] [.aG 4 n fun i j=>aO (It.cells (c i)) j,AV.fn z2 [] z3,Zi n,Zi x.1] []);let y1:=(fun (x:z0)=>n - x.1);(.loop (z0) y0 y1 (⟨0,⟨Nat.zero_le n,rfl⟩⟩) [0,1,7,8] [] [.aG 4 n fun i j=>aO (It.cells (c i)) j,AV.fn z2 [] z3,Zi n,Zi 0] [] (fun x0=>let z1:Nat:=(toNat (x0.1:Int));(.br (decide ((x0.1:Int)<(n:Int))) (.bf (0≤(x0.1:Int)∧(x0.1:Int)<(n:Int)) (.sc true 355 [.agg [Zi (It.kind (c z1)),Zi (It.num (c z1)),.aG 1 (It.nb (c z1)) fun i x=>Zb (It.fb (c z1) i),.aG 4 (It.nl (c z1)) (It.row (c z1))],AV.bH 1 (aO [Zi d])] (.bool (p z1)) (.br (p z1) (.out (Zi x0.1) [] (Zi (aK p n 0)) []) (.again (be 0 y0 y1 x0) [0,1,7,8] [] [.aG 4 n fun i j=>aO (It.cells (c i)) j,AV.fn z2 [] z3,Zi n,Zi (wrap .i64 ((x0.1:Int)+1))] [])))) (.out (Zi (-1)) [] (Zi (aK p n 0)) [])))))
  (by kernel_rfl) ?_
 refine aU (fun _ hs=>hs.le (⟨.refl _,.refl _,.refl _,.refl _,trivial⟩) (trivial)) (fun x0=>?_)
 try (have q0:=x0.2;dsimp only at q0)
 refine aL (fun h1=>?_) (fun h1=>?_)
 ·have g1:=af h1
  refine aD (by omega) ?_
  refine aM (hc (toNat (↑x0.1:Int)) (by omega)) ?_
  refine aL (fun h4=>?_) (fun h4=>?_)
  ·have g4:=aC h4
   try simp only [Int.toNat_natCast] at g4
   exact aq (aw.of_eq (congrArg _ (cr x0.2.2 (by omega) g4)))
  ·have g4:=aF h4
   try simp only [Int.toNat_natCast] at g4
   exact aN (⟨x0.1+1,by omega,bS x0.2.2 (by omega) g4⟩) (fun _ hs=>hs.le (⟨.refl _,.refl _,.refl _,aJ (by omega),trivial⟩) (trivial)) (by dsimp only;omega)
 ·have g1:=aa h1
  exact aq (aw.of_eq (congrArg _ (bW x0.2.2 (by omega))))
theorem uX (n:Nat) (c:Nat→It) (d:Int) (p:Nat→Bool) (hn:n≤1000) (hc:∀ i,i<n→Pure Tryz.prog aW 355 [(c i).av,.bH 1 (aO [.int .i64 d])] (.bool (p i))) :
  Pure Tryz.prog aW 354 [It.sl n c,.fn (.func 355) [] [.bH 1 (aO [.int .i64 d])]] (.bool (decide (aK p n 0≥0))):=by
 refine ar (own:=bk) Tryz.func354 (by kernel_rfl) mixed (by kernel_rfl)
  (let y0:AV:=(.bool (decide (aK p n 0≥0)));(.sc true 361 [.aG 4 n fun i j=>aO (It.cells (c i)) j,AV.fn (Fn.func (355:FuncId)) [] [AV.bH 1 (aO [Zi d])]] (Zi (aK p n 0)) (.out y0 [] y0 [])))
  (by kernel_rfl) ?_
 refine aM ((Dq n c d p hn hc)) ?_
 exact aq (aw.refl _)
theorem xt (n d:Int):Pure Tryz.prog aW 342 [.agg [.int .i64 1,.int .i64 n,dn 0 (fun _=>0),.aG 4 0 (fun _ _=>.bw)],.int .i64 d] (.bool true):=by
 refine ar (own:=bk) Tryz.func342 (by kernel_rfl) mixed (by kernel_rfl)
  (.tt (.out (.bool true) [] (.bool true) []))
  (by kernel_rfl) ?_
 refine eT ?_
 exact aq (aw.refl _)
theorem wG (n:Nat) (f:Nat→Int) (d:Int):Pure Tryz.prog aW 342 [.agg [.int .i64 2,.int .i64 0,dn n f,.aG 4 0 (fun _ _=>.bw)],.int .i64 d] (.bool true):=by
 refine ar (own:=bk) Tryz.func342 (by kernel_rfl) mixed (by kernel_rfl)
  (.ff (.tt (.out (.bool true) [] (.bool true) [])))
  (by kernel_rfl) ?_
 refine b9 ?_
 refine eT ?_
 exact aq (aw.refl _)
theorem AA (n:Nat) (c:Nat→It) (d:Int) (p:Nat→Bool) (hn:n<9223372036854775808) (hc:0<d→n≤1000→Pure Tryz.prog aW 354 [It.sl n c,.fn (.func 355) [] [.bH 1 (aO [.int .i64 d])]] (.bool (decide (aK p n 0≥0)))) :
  Pure Tryz.prog aW 342 [.agg [.int .i64 3,.int .i64 0,dn 0 (fun _=>0),It.sl n c],.int .i64 d] (.bool (decide (0<d)&&Nat.ble n 1000&&(List.range n).all (fun i => !p i))):=by
 refine ar (own:=bk) Tryz.func342 (by kernel_rfl) mixed (by kernel_rfl)
  (.ff (.ff (.tt (.sc ((decide (d>0)&&decide ((n:Int)≤1000))==true) 354 [.aG 4 n fun i j=>aO (It.cells (c i)) j,AV.fn (Fn.func 355) [] [AV.bH 1 fun k=>aO [Zi d] k]] (.bool (decide (aK p n 0≥0))) (.out (.bool (decide (d>0)&&decide ((n:Int)≤1000) && !decide (aK p n 0≥0))) [] (.bool (decide ((0:Int)<d)&&Nat.ble n 1000&&List.all (List.range n) fun i => !p i)) [])))))
  (by kernel_rfl) ?_
 refine b9 ?_
 refine b9 ?_
 refine eT ?_
 refine aV (fun h3=>hc (by simp at h3;omega) (by simp at h3;omega)) ?_
 exact aq (aw.of_eq (congrArg _ (MQ d n p)))
theorem uR:∀ (x:It) (d:Int),0≤d∧d≤8→x.enc.length≤1099511627776→Pure Tryz.prog aW 342 [x.av,.int .i64 d] (.bool (x.p4 d))
 | .int n,d,_,_=>xt n d
 | .eQ n f,d,_,_=>wG n f d
 | .li n c,d,hd,hn=>by
  have h:=AA n c d (fun i => !(c i).p4 (d - 1)) (by have:=It.kt n c n;rw [It.px] at hn;omega) (fun h1 h2=>uX n c d _ h2 (fun i hi=>AL (c i) d _ ⟨h1,hd.2⟩ (uR (c i) (d - 1) (by omega) (by have:=It.rj (c:=c) hi;omega))))
  simp only [Bool.not_not] at h
  exact h
theorem F4 (x:It) (h:x.enc.length≤1099511627776):Pure Tryz.prog aW 322 [.agg [.int .i64 x.kind,.int .i64 x.num,dn x.nb x.fb,.aG 4 x.nl x.row]] (.bool (x.p4 8)):=by
 have hw:=uR x 8 (by omega) h
 refine ar (own:=bk) Tryz.func322 (by kernel_rfl) mixed (by kernel_rfl)
  (let y0:AV:=(.bool (It.p4 x (8:Int)));(.sc true 342 [.agg [Zi (It.kind x),Zi (It.num x),.aG 1 (It.nb x) fun i x_1=>Zb (It.fb x i),.aG 4 (It.nl x) (It.row x)],Zi 8] y0 (.out y0 [] y0 [])))
  (by kernel_rfl) ?_
 refine aM (hw) ?_
 exact aq (aw.refl _)
theorem ml (x:It) (h:x.p4 8=true) (hl:x.enc.length≤16384):Pure Tryz.prog aW 292 [x.av] (.aT [il .u8 x.enc,.int .i64 0]):=by
 have hv:=F4 x (by omega)
 rw [h] at hv
 have hn:=H0 x hl
 refine ar (own:=ow3) Tryz.func292 (by kernel_rfl) mixed (by kernel_rfl)
  (let z0:=(List.length (It.enc x));let y0:List AV:=[Zi (It.kind x),Zi (It.num x),.aG 1 (It.nb x) fun i x_1=>Zb (It.fb x i),.aG 4 (It.nl x) (It.row x)];let y1:AV:=(.aT [il IntKind.u8 (It.enc x),Zi 0]);(.sc true 322 [.agg y0] (.bool true) (.ff (.gc 323 [] [.bc,.agg y0] (.aZ 0 1 0 z0) [nX IntKind.u8 (It.enc x)] (.br (decide ((↑z0:Int)>16384)) (.out (.aT [.bc,Zi 5]) [] y1 []) (.out (.aT [.aG 1 z0 fun r k=>Zb (List.getD (It.enc x) (r+0) (0:Int)),Zi 0]) [] y1 []))))))
  (by kernel_rfl) ?_
 refine aM (hv) ?_
 refine b9 ?_
 refine fU (hn) ?_
 refine aL (fun h3=>?_) (fun h3=>?_)
 ·have g3:=af h3
  exact aq ((by exfalso;omega))
 ·have g3:=aa h3
  exact aq (aw.of_eq rfl)
theorem tB (l:List Int) (hl:l.length≤1000000):Pure Tryz.prog aW 258 [il .i64 l] (bu l).av:=by
 refine ar (own:=bk) Tryz.func258 (by kernel_rfl) mixed (by kernel_rfl)
  (let z1:List AV:=[Zi 0,Zi 0,.bc,.bc];let z0:Int:=(↑(List.length l):Int);let y0:=(fun (x:{ x:Nat // x≤List.length l })=>aY [2,3,7,8,9] [.own 0 4 0 0 4,.own 1 4 0 0 4,.aG 1 (List.length l) fun i x=>Zi (List.getD l i (0:Int)),Zi z0,Zi x.1] [some ⟨4,1,true,.ba [z1]⟩,some ⟨4,1,true,.ba [[Zi 3,Zi 0,.bc,.aZ 2 4 0 (x.1)]]⟩,some ⟨4,x.1,true,bz.row fun i=>It.cells (It.int (List.getD l i (0:Int)))⟩]);let y1:=(fun (x:{ x:Nat // x≤List.length l })=>List.length l - x.1);(.loop ({ x:Nat // x≤List.length l }) y0 y1 (⟨0,Nat.zero_le (List.length l)⟩) [2,3,7,8,9] [0,16,1082] [.own 0 4 0 0 4,.own 1 4 0 0 4,.aG 1 (List.length l) fun i x=>Zi (List.getD l i (0:Int)),Zi z0,Zi 0] [some ⟨4,1,true,.ba [z1]⟩,some ⟨4,1,true,.ba [[Zi 3,Zi 0,.bc,.bc]]⟩,some ⟨4,0,true,.ty (999999999:TypeId) (.ba [])⟩] (fun x0=>(.br (decide ((x0.1:Int)<z0)) (.bf (0≤(x0.1:Int)∧(x0.1:Int)<z0) (.bf ((x0.1+1)*64≤140737488355328) (.again (be 0 y0 y1 x0) [2,3,7,8,9] [0,1,75] [.own 0 4 0 0 4,.own 1 4 0 0 4,.aG 1 (List.length l) fun i x=>Zi (List.getD l i (0:Int)),Zi z0,Zi (wrap .i64 ((x0.1:Int)+1))] [some ⟨4,1,true,.ba [z1]⟩,some ⟨4,1,true,.ba [[Zi 3,Zi 0,.bc,.aZ 2 4 0 (x0.1+1)]]⟩,some ⟨4,x0.1+1,true,bz.cat x0.1 (bz.row fun i=>[Zi (It.kind (It.int (List.getD l i (0:Int)))),Zi (It.num (It.int (List.getD l i (0:Int)))),.aG 1 0 fun i_1 x=>Zb (It.fb (It.int (List.getD l i (0:Int))) i_1),.aG 4 0 (It.row (It.int (List.getD l i (0:Int))))]) (.ba [[Zi 1,Zi (List.getD l (toNat (↑(x0.1):Int)) (0:Int)),.bc,.bc]])⟩]))) (.out (.agg [Zi 3,Zi 0,.bc,.aG 4 x0.1 fun r k=>aO [Zi (It.kind (It.int (List.getD l (r+0) (0:Int)))),Zi (It.num (It.int (List.getD l (r+0) (0:Int)))),.aG 1 0 fun i x=>Zb (It.fb (It.int (List.getD l (r+0) (0:Int))) i),.aG 4 0 (It.row (It.int (List.getD l (r+0) (0:Int))))] k]) [] (It.av (bu l)) [])))))
  (by kernel_rfl) ?_
 refine aU (fun _ hs=>hs.le (⟨.refl _,.refl _,.refl _,.refl _,.refl _,trivial⟩) (by repeat' (first|exact trivial|(first|exact aH.refl _|exact aH.bw|exact aH.zero|exact aH.push rfl rfl|exact aH.cm rfl|exact aH.len (by omega)|exact aH.row (by repeat' (first|exact trivial|(first|exact aw.refl _|exact aJ (by omega)|exact aw.nil rfl|exact aw.of_eq (congrArg (AV.aZ _ _ _) (by first|omega|(dsimp only;omega)))|exact aw.of_eq (congrArg (AV.int _) (by first|omega|(dsimp only;omega))))|refine And.intro ?_ ?_)))|refine And.intro ?_ ?_))) (fun x0=>?_)
 try (have q0:=x0.2;dsimp only at q0)
 refine aL (fun h1=>?_) (fun h1=>?_)
 ·have g1:=af h1
  refine aD (by omega) ?_
  refine aD (by omega) ?_
  exact aN (⟨x0.1+1,by omega⟩) (fun _ hs=>hs.le (⟨.refl _,.refl _,.refl _,.refl _,aJ (by omega),trivial⟩) (⟨.refl _,.refl _,qb rfl rfl,trivial⟩)) (by dsimp only;omega)
 ·have g1:=aa h1
  exact aq (pL (by omega))
theorem so (l:List Int) (hl:l.length≤1000000):Pure Tryz.prog aW 273 [il .i64 l] (bu l).av:=by
 refine ar (own:=bk) Tryz.func273 (by kernel_rfl) mixed (by kernel_rfl)
  (let z0:List AV:=[Zi 0,Zi 0,.bc,.bc];let y0:=(fun (x:{ x:Nat // x≤List.length l })=>aY [0,2,3,4] [.aG 1 (List.length l) fun i x=>Zi (List.getD l i (0:Int)),.own 0 4 0 0 4,.own 1 4 0 0 4,Zi x.1] [some ⟨4,1,true,.ba [z0]⟩,some ⟨4,1,true,.ba [[Zi 3,Zi 0,.bc,.aZ 2 4 0 (x.1)]]⟩,some ⟨4,x.1,true,bz.row fun i=>It.cells (It.int (List.getD l i (0:Int)))⟩]);let y1:=(fun (x:{ x:Nat // x≤List.length l })=>List.length l - x.1);(.loop ({ x:Nat // x≤List.length l }) y0 y1 (⟨0,Nat.zero_le (List.length l)⟩) [0,2,3,4] [0,16,1066] [.aG 1 (List.length l) fun i x=>Zi (List.getD l i (0:Int)),.own 0 4 0 0 4,.own 1 4 0 0 4,Zi 0] [some ⟨4,1,true,.ba [z0]⟩,some ⟨4,1,true,.ba [[Zi 3,Zi 0,.bc,.bc]]⟩,some ⟨4,0,true,.ty (999999999:TypeId) (.ba [])⟩] (fun x0=>(.br (decide ((x0.1:Int)<(↑(List.length l):Int))) (.bf (0≤(x0.1:Int)∧(x0.1:Int)<(↑(List.length l):Int)) (.bf ((x0.1+1)*64≤140737488355328) (.again (be 0 y0 y1 x0) [0,2,3,4] [0,1,99] [.aG 1 (List.length l) fun i x=>Zi (List.getD l i (0:Int)),.own 0 4 0 0 4,.own 1 4 0 0 4,Zi (wrap .i64 ((x0.1:Int)+1))] [some ⟨4,1,true,.ba [z0]⟩,some ⟨4,1,true,.ba [[Zi 3,Zi 0,.bc,.aZ 2 4 0 (x0.1+1)]]⟩,some ⟨4,x0.1+1,true,bz.cat x0.1 (bz.row fun i=>[Zi (It.kind (It.int (List.getD l i (0:Int)))),Zi (It.num (It.int (List.getD l i (0:Int)))),.aG 1 0 fun i_1 x=>Zb (It.fb (It.int (List.getD l i (0:Int))) i_1),.aG 4 0 (It.row (It.int (List.getD l i (0:Int))))]) (.ba [[Zi 1,Zi (List.getD l (toNat (↑(x0.1):Int)) (0:Int)),.bc,.bc]])⟩]))) (.out (.agg [Zi 3,Zi 0,.bc,.aG 4 x0.1 fun r k=>aO [Zi (It.kind (It.int (List.getD l (r+0) (0:Int)))),Zi (It.num (It.int (List.getD l (r+0) (0:Int)))),.aG 1 0 fun i x=>Zb (It.fb (It.int (List.getD l (r+0) (0:Int))) i),.aG 4 0 (It.row (It.int (List.getD l (r+0) (0:Int))))] k]) [] (It.av (bu l)) [])))))
  (by kernel_rfl) ?_
 refine aU (fun _ hs=>hs.le (⟨.refl _,.refl _,.refl _,.refl _,trivial⟩) (by repeat' (first|exact trivial|(first|exact aH.refl _|exact aH.bw|exact aH.zero|exact aH.push rfl rfl|exact aH.cm rfl|exact aH.len (by omega)|exact aH.row (by repeat' (first|exact trivial|(first|exact aw.refl _|exact aJ (by omega)|exact aw.nil rfl|exact aw.of_eq (congrArg (AV.aZ _ _ _) (by first|omega|(dsimp only;omega)))|exact aw.of_eq (congrArg (AV.int _) (by first|omega|(dsimp only;omega))))|refine And.intro ?_ ?_)))|refine And.intro ?_ ?_))) (fun x0=>?_)
 try (have q0:=x0.2;dsimp only at q0)
 refine aL (fun h1=>?_) (fun h1=>?_)
 ·have g1:=af h1
  refine aD (by omega) ?_
  refine aD (by omega) ?_
  exact aN (⟨x0.1+1,by omega⟩) (fun _ hs=>hs.le (⟨.refl _,.refl _,.refl _,aJ (by omega),trivial⟩) (⟨.refl _,.refl _,qb rfl rfl,trivial⟩)) (by dsimp only;omega)
 ·have g1:=aa h1
  exact aq (pL (by omega))
theorem E7 (a b:Int):Pure Tryz.prog aW 258 [.aG 1 2 fun r k=>aO (List.getD [[.int .i64 a],[.int .i64 b]] r []) k] (bu [a,b]).av :=
 (tB [a,b] (by simp)).via ⟨eO rfl rfl,trivial⟩
theorem xP (a b:Int):Pure Tryz.prog aW 273 [.aG 1 2 fun r k=>aO (List.getD [[.int .i64 a],[.int .i64 b]] r []) k] (bu [a,b]).av :=
 (so [a,b] (by simp)).via ⟨eO rfl rfl,trivial⟩
theorem lY (f:Nat→Int):Pure Tryz.prog aW 271 [.agg (bh f)] (It.eQ 32 f).av:=by
 refine ar (own:=bk) Tryz.func271 (by kernel_rfl) mixed (by kernel_rfl)
  (let z0:List AV:=[Zi 0,Zi 0,.bc,.bc];let y0:=(fun (x:{ x:Nat // x≤32 })=>aY [1,2,3,4] [.own 0 32 0 0 32,.own 1 4 0 0 4,.own 2 4 0 0 4,Zi x.1] [some ⟨32,1,true,.ba [bh f]⟩,some ⟨4,1,true,.ba [z0]⟩,some ⟨4,1,true,.ba [[Zi 2,Zi 0,.aZ 3 1 0 (x.1),.bc]]⟩,some ⟨1,x.1,true,.fn fun i x=>Zb (f i)⟩]);let y1:=(fun (x:{ x:Nat // x≤32 })=>32 - x.1);(.loop ({ x:Nat // x≤32 }) y0 y1 (⟨0,Nat.zero_le 32⟩) [1,2,3,4] [0,8,24,307] [.own 0 32 0 0 32,.own 1 4 0 0 4,.own 2 4 0 0 4,Zi 0] [some ⟨32,1,true,.ba [bh f]⟩,some ⟨4,1,true,.ba [z0]⟩,some ⟨4,1,true,.ba [[Zi 2,Zi 0,.bc,.bc]]⟩,some ⟨1,0,true,.ty (999999999:TypeId) (.ba [])⟩] (fun x0=>(.br (decide ((x0.1:Int)<32)) (.bf (0≤(x0.1:Int)∧(x0.1:Int)<32) (.bf ((x0.1+1)*1≤140737488355328) (.again (be 0 y0 y1 x0) [1,2,3,4] [0,1,2,68] [.own 0 32 0 0 32,.own 1 4 0 0 4,.own 2 4 0 0 4,Zi (wrap .i64 ((x0.1:Int)+1))] [some ⟨32,1,true,.ba [bh f]⟩,some ⟨4,1,true,.ba [z0]⟩,some ⟨4,1,true,.ba [[Zi 2,Zi 0,.aZ 3 1 0 (x0.1+1),.bc]]⟩,some ⟨1,x0.1+1,true,.fn fun i j=>Zb (bif Nat.blt i x0.1 then f i else aE (aO [Zb (aE (bz.at (Ob.f (Ob.seen ⟨32,1,true,.ba [bh f]⟩)) 0 (0+toNat (↑(x0.1):Int))))] j))⟩]))) (.out (.agg [Zi 2,Zi 0,.aG 1 x0.1 fun r k=>Zb (f (r+0)),.bc]) [] (It.av (It.eQ 32 f)) [])))))
  (by kernel_rfl) ?_
 refine aU (fun _ hs=>hs.le (⟨.refl _,.refl _,.refl _,.refl _,trivial⟩) (by repeat' (first|exact trivial|(first|exact aH.refl _|exact aH.bw|exact aH.zero|exact aH.push rfl rfl|exact aH.cm rfl|exact aH.len (by omega)|exact aH.row (by repeat' (first|exact trivial|(first|exact aw.refl _|exact aJ (by omega)|exact aw.nil rfl|exact aw.of_eq (congrArg (AV.aZ _ _ _) (by first|omega|(dsimp only;omega)))|exact aw.of_eq (congrArg (AV.int _) (by first|omega|(dsimp only;omega))))|refine And.intro ?_ ?_)))|refine And.intro ?_ ?_))) (fun x0=>?_)
 try (have q0:=x0.2;dsimp only at q0)
 refine aL (fun h1=>?_) (fun h1=>?_)
 ·have g1:=af h1
  refine aD (by omega) ?_
  refine aD (by omega) ?_
  exact aN (⟨x0.1+1,by omega⟩) (fun _ hs=>hs.le (⟨.refl _,.refl _,.refl _,aJ (by omega),trivial⟩) (⟨.refl _,.refl _,.refl _,aH.mP (F:=f) rfl (by show aE (aO (bh f) (0+x0.1))=f x0.1;rw [Nat.zero_add,eL (by omega)]),trivial⟩)) (by dsimp only;omega)
 ·have g1:=aa h1
  exact aq (CN (by omega))
theorem LY (a0 a1 a2 a3:Int):Pure Tryz.prog aW 258 [.aG 1 4 fun r k=>aO (List.getD [[.int .i64 a0],[.int .i64 a1],[.int .i64 a2],[.int .i64 a3]] r []) k] (bu [a0,a1,a2,a3]).av:=(tB [a0,a1,a2,a3] (by simp)).via ⟨eO rfl rfl,trivial⟩
theorem J8 (a0 a1 a2 a3 a4:Int):Pure Tryz.prog aW 258 [.aG 1 5 fun r k=>aO (List.getD [[.int .i64 a0],[.int .i64 a1],[.int .i64 a2],[.int .i64 a3],[.int .i64 a4]] r []) k] (bu [a0,a1,a2,a3,a4]).av:=(tB [a0,a1,a2,a3,a4] (by simp)).via ⟨eO rfl rfl,trivial⟩
theorem Hy (a0 a1 a2 a3:Int):Pure Tryz.prog aW 273 [.aG 1 4 fun r k=>aO (List.getD [[.int .i64 a0],[.int .i64 a1],[.int .i64 a2],[.int .i64 a3]] r []) k] (bu [a0,a1,a2,a3]).av:=(so [a0,a1,a2,a3] (by simp)).via ⟨eO rfl rfl,trivial⟩
theorem GW (a0 a1 a2 a3 a4:Int):Pure Tryz.prog aW 273 [.aG 1 5 fun r k=>aO (List.getD [[.int .i64 a0],[.int .i64 a1],[.int .i64 a2],[.int .i64 a3],[.int .i64 a4]] r []) k] (bu [a0,a1,a2,a3,a4]).av:=(so [a0,a1,a2,a3,a4] (by simp)).via ⟨eO rfl rfl,trivial⟩
theorem Fl:Pure Tryz.prog aW 324 [.bc] .bc:=by
 refine ar (own:=bk) Tryz.func324 (by kernel_rfl) mixed (by kernel_rfl)
  (.tt (.out (.bc) [] (.bc) []))
  (by kernel_rfl) ?_
 refine eT ?_
 exact aq (aw.refl _)
theorem ES (f:Nat→Int) (n:Nat) (hn:n≤1099511627776):Pure Tryz.prog aW 324 [.nn (dn n f)] (dn n f):=by
 refine ar (own:=bk) Tryz.func324 (by kernel_rfl) mixed (by kernel_rfl)
  (.ff (.bf ((0+n)*1≤140737488355328) (.out (.aG 1 (0+n) fun r k=>Zb (f (r+0))) [] (dn n f) [])))
  (by kernel_rfl) ?_
 refine b9 ?_
 refine aD (by omega) ?_
 exact aq (jt (by omega) (fun i _=>rfl))
theorem vB (f:Nat→Int) (n:Nat) (hn:n≤1099511627776):Pure Tryz.prog aW 324 [dn n f] (dn n f) :=
 bC.dW [] [] 1 n _ (fun h=>by subst h;exact Fl.tO aw.bc) (ES f n hn)
theorem yh (f:Nat→Int):Pure Tryz.prog aW 294 [.agg (bh f)] (It.eQ 32 f).av:=by
 refine ar (own:=bk) Tryz.func294 (by kernel_rfl) mixed (by kernel_rfl)
  (.dc true 324 [.aG 1 32 fun r x=>Zb (aE (aO (bh f) (0+(0+r))))] (dn 32 fun i=>aE (aO (bh f) (0+(0+i)))) (.out (.agg [Zi 2,Zi 0,.aG 1 32 fun i x=>Zb (aE (aO (bh f) (0+(0+i)))),.bc]) [] (It.av (It.eQ 32 f)) []))
  (by kernel_rfl) ?_
 refine bM (vB (fun (i:Nat)=>aE (aO (bh f) (0+(0+i)))) (32) (by omega)) ?_
 exact aq (aw.agg ⟨aw.refl _,aw.refl _,jt rfl (fun i hi=>by rw [Nat.zero_add,Nat.zero_add];exact eL hi),aw.bc,trivial⟩)
theorem JS (n:Nat) (f:Nat→Nat→AV):Pure Tryz.prog aW 293 [.aG 4 n f] (.agg [.int .i64 3,.int .i64 0,.bc,.aG 4 n f]):=by
 refine ar (own:=bk) Tryz.func293 (by kernel_rfl) mixed (by kernel_rfl)
  (let y0:AV:=(.agg [Zi 3,Zi 0,.bc,.aG 4 n f]);(.out y0 [] y0 []))
  (by kernel_rfl) ?_
 exact aq (aw.refl _)
def ow4:FuncId→Option (List Bool):=fun f=>bif Nat.beq f 344 then some [true,false] else bif Nat.beq f 345 then some [true,false] else none
theorem He (a0 a1 a2 a3 a4:Int):bC Tryz.prog aW 344 [⟨1,1,true,.ba [[.bc]]⟩] [.own 0 1 0 0 1,.aG 1 5 fun r k=>aO (List.getD [[.int .i64 a0],[.int .i64 a1],[.int .i64 a2],[.int .i64 a3],[.int .i64 a4]] r []) k] .bw [some ⟨1,1,true,.ba [[.aZ 1 4 0 1]]⟩,some ⟨4,1,true,.ba [(bu [a0,a1,a2,a3,a4]).cells]⟩]:=by
 refine bO (own:=bk) (hand:=true) Tryz.func344 (by kernel_rfl) mixed (by kernel_rfl)
  (let z0:=(bu [a0,a1,a2,a3,a4]);(.dc true 258 [.aG 1 5 fun r k=>aO (List.getD [[Zi a0],[Zi a1],[Zi a2],[Zi a3],[Zi a4]] r []) k] (It.av z0) (.bf (64≤140737488355328) (.bf ((0:Int)≤0∧(0:Int)<1) (.out (.aT []) [some ⟨1,1,true,.ba [[.aZ 1 4 0 1]]⟩,some ⟨4,1,true,.ba [[Zi (It.kind z0),Zi (It.num z0),.aG 1 0 fun i x=>Zb (It.fb z0 i),.aG 4 5 (It.row z0)]]⟩] (AV.bw) [some ⟨1,1,true,.ba [[.aZ 1 4 0 1]]⟩,some ⟨4,1,true,.ba [It.cells z0]⟩])))))
  (by kernel_rfl) ?_
 refine bM (J8 (a0) (a1) (a2) (a3) (a4)) ?_
 refine aD (by omega) ?_
 refine aD (by omega) ?_
 exact cP (aw.bw _) (⟨.refl _,.refl _,trivial⟩)
theorem E4 (x:It) (f:Nat→Int):bC Tryz.prog aW 345 [⟨1,1,true,.ba [[.aZ 1 4 0 1]]⟩,⟨4,1,true,.ba [x.cells]⟩] [.own 0 1 0 0 1,dn 32 f] .bw [some ⟨1,1,true,.ba [[.aZ 2 4 0 2]]⟩,none,some ⟨4,2,true,.ba [x.cells,(It.eQ 32 f).cells]⟩]:=by
 refine bO (own:=bk) (hand:=true) Tryz.func345 (by kernel_rfl) mixed (by kernel_rfl)
  (.dc (true) 324 ([AV.aG 1 32 fun (i x:Nat)=>Zb (f i)]) (dn 32 f) (.bf (128≤140737488355328) (.bf ((0:Int)≤(↑(1):Int)∧(↑(1):Int)<(↑(2):Int)) (.out (AV.aT []) ([some ⟨1,1,true,bz.ba [[AV.aZ 2 4 0 2]]⟩,none,some ⟨4,2,true,bz.ba [[Zi (It.kind x),Zi (It.num x),AV.aG 1 (It.nb x) fun (i x_1:Nat)=>Zb (It.fb x i),AV.aG 4 (It.nl x) (It.row x)],[Zi 2,Zi 0,AV.aG 1 32 fun (i x:Nat)=>Zb (f i),AV.bc]]⟩]) (AV.bw) ([some ⟨1,1,true,bz.ba [[AV.aZ 2 4 0 2]]⟩,none,some ⟨4,2,true,bz.ba [It.cells x,It.cells (It.eQ 32 f)]⟩])))))
  (by kernel_rfl) ?_
 refine bM (vB (f) (32) (by omega)) ?_
 refine aD (by omega) ?_
 refine aD (by omega) ?_
 exact cP (aw.bw _) (⟨aH.refl _,F1 (cM.refl _) (yy 32 f),trivial⟩)
theorem Iq (x y:It) (a0 a1 a2 a3:Int):bC Tryz.prog aW 344 [⟨1,1,true,.ba [[.aZ 1 4 0 2]]⟩,⟨4,2,true,.ba [x.cells,y.cells]⟩] [.own 0 1 0 0 1,.aG 1 4 fun r k=>aO (List.getD [[.int .i64 a0],[.int .i64 a1],[.int .i64 a2],[.int .i64 a3]] r []) k] .bw [some ⟨1,1,true,.ba [[.aZ 2 4 0 3]]⟩,none,some ⟨4,3,true,.ba [x.cells,y.cells,(bu [a0,a1,a2,a3]).cells]⟩]:=by
 refine bO (own:=bk) (hand:=true) Tryz.func344 (by kernel_rfl) mixed (by kernel_rfl)
  (.dc (true) 258 ([AV.aG 1 4 fun (r k:Nat)=>aO (List.getD [[Zi a0],[Zi a1],[Zi a2],[Zi a3]] r []) k]) (It.av (bu [a0,a1,a2,a3])) (.bf (192≤140737488355328) (.bf ((0:Int)≤(↑(2):Int)∧(↑(2):Int)<(↑(3):Int)) (.out (AV.aT []) ([some ⟨1,1,true,bz.ba [[AV.aZ 2 4 0 3]]⟩,none,some ⟨4,3,true,bz.ba [[Zi (It.kind x),Zi (It.num x),AV.aG 1 (It.nb x) fun (i x_1:Nat)=>Zb (It.fb x i),AV.aG 4 (It.nl x) (It.row x)],[Zi (It.kind y),Zi (It.num y),AV.aG 1 (It.nb y) fun (i x:Nat)=>Zb (It.fb y i),AV.aG 4 (It.nl y) (It.row y)],[Zi (It.kind (bu [a0,a1,a2,a3])),Zi (It.num (bu [a0,a1,a2,a3])),AV.aG 1 0 fun (i x:Nat)=>Zb (It.fb (bu [a0,a1,a2,a3]) i),AV.aG 4 4 (It.row (bu [a0,a1,a2,a3]))]]⟩]) (AV.bw) ([some ⟨1,1,true,bz.ba [[AV.aZ 2 4 0 3]]⟩,none,some ⟨4,3,true,bz.ba [It.cells x,It.cells y,It.cells (bu [a0,a1,a2,a3])]⟩])))))
  (by kernel_rfl) ?_
 refine bM (LY (a0) (a1) (a2) (a3)) ?_
 refine aD (by omega) ?_
 refine aD (by omega) ?_
 exact cP (aw.bw _) (⟨.refl _,.refl _,trivial⟩)
theorem HI (c:bQ):Pure Tryz.prog aW 325 [c.av] c.it.av:=by
 refine ar (own:=ow4) Tryz.func325 (by kernel_rfl) mixed (by kernel_rfl)
  (let z2:=(bu [c.7,c.8,c.9,c.10]);let z1:=(bu [c.1,c.2,c.3,c.4,c.5]);let z0:=(It.eQ 32 fun i=>aE (aO (bQ.cells c) (5+(0+i))));let y0:List AV:=[Zi (It.kind z1),Zi (It.num z1),.aG 1 0 fun i x=>Zb (It.fb z1 i),.aG 4 5 (It.row z1)];let y1:List AV:=[Zi (It.kind z0),Zi (It.num z0),.aG 1 32 fun i x=>Zb (It.fb (It.eQ 32 fun i=>aE (aO (bQ.cells c) (5+(0+i)))) i),.aG 4 0 (It.row (It.eQ 32 fun i=>aE (aO (bQ.cells c) (5+(0+i)))))];(.gc 344 [⟨1,1,true,.ba [[.bc]]⟩] [.own 0 1 0 0 1,.aG 1 5 fun r k=>aO (List.getD [[Zi c.1],[Zi c.2],[Zi c.3],[Zi c.4],[Zi c.5]] (r+0) []) k] (AV.bw) [some ⟨1,1,true,.ba [[.aZ 1 4 0 1]]⟩,some ⟨4,1,true,.ba [It.cells z1]⟩] (.gc 345 [⟨1,1,true,.ba [[.aZ 1 4 0 1]]⟩,⟨4,1,true,.ba [y0]⟩] [.own 0 1 0 0 1,.aG 1 32 fun r x=>Zb (aE (aO (bQ.cells c) (5+(0+r))))] (AV.bw) [some ⟨1,1,true,.ba [[.aZ 2 4 0 2]]⟩,none,some ⟨4,2,true,.ba [It.cells z1,It.cells z0]⟩] (.gc 344 [⟨1,1,true,.ba [[.aZ 1 4 0 2]]⟩,⟨4,2,true,.ba [y0,y1]⟩] [.own 0 1 0 0 1,.aG 1 4 fun r k=>aO (List.getD [[Zi c.7],[Zi c.8],[Zi c.9],[Zi c.10]] (r+0) []) k] (AV.bw) [some ⟨1,1,true,.ba [[.aZ 2 4 0 3]]⟩,none,some ⟨4,3,true,.ba [It.cells z1,It.cells z0,It.cells z2]⟩] (.out (.agg [Zi 3,Zi 0,.bc,.aG 4 3 fun r k=>aO (List.getD [y0,y1,[Zi (It.kind z2),Zi (It.num z2),.aG 1 0 fun i x=>Zb (It.fb z2 i),.aG 4 4 (It.row z2)]] (r+0) []) k]) [] (It.av (bQ.it c)) [])))))
  (by kernel_rfl) ?_
 refine fU (He (c.1) (c.2) (c.3) (c.4) (c.5)) ?_
 refine fU (E4 (bu [c.1,c.2,c.3,c.4,c.5]) (fun (i:Nat)=>aE (aO (bQ.cells c) (5+(0+i))))) ?_
 refine fU (Iq (bu [c.1,c.2,c.3,c.4,c.5]) (It.eQ (32:Nat) fun (i:Nat)=>aE (aO (bQ.cells c) (5+(0+i)))) (c.7) (c.8) (c.9) (c.10)) ?_
 exact aq (zw (cM.refl _) ⟨aw.refl _,aw.refl _,jt rfl (fun i hi=>by
                                                                                                     show aE (aO c.cells (5+(0+i)))=c.root i
                                                                                                     rw [Nat.zero_add]
                                                                                                     exact c.xI hi),aw.refl _,trivial⟩ (cM.refl _))
theorem HT (c:bQ):Pure Tryz.prog aW 317 [c.av] c.it.av:=by
 refine ar (own:=ow4) Tryz.func317 (by kernel_rfl) mixed (by kernel_rfl)
  (let z1:=(bu [c.7,c.8,c.9,c.10]);let z0:=(bu [c.1,c.2,c.3,c.4,c.5]);(.dc true 273 [.aG 1 5 fun r k=>aO (List.getD [[Zi c.1],[Zi c.2],[Zi c.3],[Zi c.4],[Zi c.5]] (r+0) []) k] (It.av z0) (.dc true 271 [.agg (bh c.6)] (It.av (It.eQ 32 c.6)) (.dc true 273 [.aG 1 4 fun r k=>aO (List.getD [[Zi c.7],[Zi c.8],[Zi c.9],[Zi c.10]] (r+0) []) k] (It.av z1) (.out (.agg [Zi 3,Zi 0,.bc,.aG 4 3 fun r k=>aO (List.getD [[Zi (It.kind z0),Zi (It.num z0),.aG 1 0 fun i x=>Zb (It.fb z0 i),.aG 4 5 (It.row z0)],[Zi (It.kind (It.eQ 32 c.6)),Zi (It.num (It.eQ 32 c.6)),.aG 1 32 fun i x=>Zb (It.fb (It.eQ 32 c.6) i),.aG 4 0 (It.row (It.eQ 32 c.6))],[Zi (It.kind z1),Zi (It.num z1),.aG 1 0 fun i x=>Zb (It.fb z1 i),.aG 4 4 (It.row z1)]] (r+0) []) k]) [] (It.av (bQ.it c)) [])))))
  (by kernel_rfl) ?_
 refine bM (GW (c.1) (c.2) (c.3) (c.4) (c.5)) ?_
 refine bM (lY (c.6)) ?_
 refine bM (Hy (c.7) (c.8) (c.9) (c.10)) ?_
 exact aq (zw (cM.refl _) (cM.refl _) (cM.refl _))
theorem w7 (d l i:Int):Pure Tryz.prog aW 235 [.int .i64 d,.agg [.int .i64 l,.int .i64 i]] (.bool (bT d l i)):=by
 refine ar (own:=bk) Tryz.func235 (by kernel_rfl) mixed (by kernel_rfl)
  (.bf (((decide (d≥0)&&decide (d≤5)&&decide (l≥0)&&decide (l≤d)&&decide (i≥0))==true)=true→(0:Int)≤l) (.out (.bool (decide (d≥0)&&decide (d≤5)&&decide (l≥0)&&decide (l≤d)&&decide (i≥0)&&decide (i<wrap .i64 ((1:Int)*2^min (toNat l) 64)))) [] (.bool (bT d l i)) []))
  (by kernel_rfl) ?_
 refine aD (fun hr=>by have hr:=(cJ (ah (ah (ah (ah af af) af) af) af)) hr;omega) ?_
 exact aq (aw.of_eq (congrArg _ (DZ d l i)))
theorem KJ (d l i:Int):Pure Tryz.prog aW 233 [.int .i64 d,.agg [.int .i64 l,.int .i64 i]] (.aT [.int .i64 (db d l i),.int .i64 (dg d l i),.int .i64 (gV d l i)]):=by
 refine ar (own:=bk) Tryz.func233 (by kernel_rfl) mixed (by kernel_rfl)
  (let y0:AV:=(.aT [Zi (db d l i),Zi (dg d l i),Zi (gV d l i)]);let y1:Nat:=(toNat (wrap .i64 (d - l)));(.br (decide (d<0)||decide (d>5)) (.out (.aT [Zi 0,Zi 0,Zi 1]) [] y0 []) (.sc true 235 [Zi d,.agg [Zi l,Zi i]] (.bool (bT d l i)) (.br (!bT d l i) (.out (.aT [Zi 0,Zi 0,Zi 2]) [] y0 []) (.bf ((0:Int)≤wrap .i64 (d - l)) (.out (.aT [Zi (wrap .i64 (i*wrap .i64 ((1:Int)*2^min y1 64))),Zi (wrap .i64 (wrap .i64 (i+1)*wrap .i64 ((1:Int)*2^min y1 64))),Zi 0]) [] y0 []))))))
  (by kernel_rfl) ?_
 refine aL (fun h0=>?_) (fun h0=>?_)
 ·exact aq (aw.of_eq (by obtain ⟨a,b,c⟩:=KA (l:=l) (i:=i) h0;rw [a,b,c]))
 ·refine aM (w7 (d) (l) (i)) ?_
  refine aL (fun h3=>?_) (fun h3=>?_)
  ·exact aq (aw.of_eq (by obtain ⟨a,b,c⟩:=Md h0 h3;rw [a,b,c]))
  ·refine aD ((xe h3).2.2.2) ?_
   exact aq (aw.of_eq (by obtain ⟨a,b,c,_⟩:=xe h3;rw [a,b,c]))
theorem CL (d l i:Int):Pure Tryz.prog aW 270 [.int .i64 d,.int .i64 l,.int .i64 i] (.bool (nD d l i)):=by
 refine ar (own:=bk) Tryz.func270 (by kernel_rfl) mixed (by kernel_rfl)
  (.bf (((decide (l≥0)&&decide (l≤d)&&decide (i≥0))==true)=true→(0:Int)≤l) (.out (.bool (decide (l≥0)&&decide (l≤d)&&decide (i≥0)&&decide (i<wrap .i64 ((1:Int)*2^min (toNat l) 64)))) [] (.bool (nD d l i)) []))
  (by kernel_rfl) ?_
 refine aD (fun hr=>by have hr:=(cJ (ah (ah af af) af)) hr;omega) ?_
 exact aq (aw.refl _)
theorem zr (d l i:Int):Pure Tryz.prog aW 203 [.int .i64 d,.agg [.int .i64 l,.int .i64 i]] (.bool (bT d l i)):=by
 refine ar (own:=bk) Tryz.func203 (by kernel_rfl) mixed (by kernel_rfl)
  (.sc ((decide (d≥0)&&decide (d≤5))==true) 270 [Zi d,Zi l,Zi i] (.bool (nD d l i)) (.out (.bool (decide (d≥0)&&decide (d≤5)&&nD d l i)) [] (.bool (bT d l i)) []))
  (by kernel_rfl) ?_
 refine aV (fun h0=>CL (d) (l) (i)) ?_
 exact aq (aw.of_eq (congrArg _ (wa d l i)))
theorem ru (x:i9):Pure Tryz.prog aW 236 [x.av] (.bool (fL x.time x.number)):=by
 refine ar (own:=bk) Tryz.func236 (by kernel_rfl) mixed (by kernel_rfl)
  (.out (.bool (decide (x.2≥0)&&decide (x.2≤1099511627776)&&decide (x.3≥0)&&decide (x.3≤1073741824))) [] (.bool (fL (i9.time x) (i9.number x))) [])
  (by kernel_rfl) ?_
 exact aq (aw.refl _)
theorem Eh (x:i9):Pure Tryz.prog aW 204 [x.av] (.bool (fL x.time x.number)):=by
 refine ar (own:=bk) Tryz.func204 (by kernel_rfl) mixed (by kernel_rfl)
  (.out (.bool (decide (x.2≥0)&&decide (x.2≤1099511627776)&&decide (x.3≥0)&&decide (x.3≤1073741824))) [] (.bool (fL (i9.time x) (i9.number x))) [])
  (by kernel_rfl) ?_
 exact aq (aw.refl _)
theorem rM (d l i:Int) (h:bT d l i=true):Pure Tryz.prog aW 205 [.int .i64 d,.agg [.int .i64 l,.int .i64 i]] (.aT [.int .i64 (db d l i),.int .i64 (dg d l i)]):=by
 refine ar (own:=bk) Tryz.func205 (by kernel_rfl) mixed (by kernel_rfl)
  (let y0:Nat:=(toNat (wrap .u64 (wrap .i64 (d - l))));(.bf ((0:Int)≤wrap .u64 (wrap .i64 (d - l))) (.out (.aT [Zi (wrap .i64 (i*wrap .i64 ((1:Int)*2^min y0 64))),Zi (wrap .i64 (wrap .i64 (i+1)*wrap .i64 ((1:Int)*2^min y0 64)))]) [] (.aT [Zi (db d l i),Zi (dg d l i)]) [])))
  (by kernel_rfl) ?_
 refine aD (AW _) ?_
 exact aq (aw.of_eq (by obtain ⟨a,b⟩:=Ha h;rw [a,b]))
theorem K6 (c:bQ) (hr:cC c.root 32):Pure Tryz.prog aW 295 [c.av] (.agg (bh c.rD)):=by
 have hi:=HI c
 have he:=ml c.it c.MP (by rw [c.rO];decide)
 have ht:=gm "specie/coin-item".toUTF8 (by decide) (by decide) (fun i=>c.it.enc.getD i 0) c.it.enc.length (by rw [c.rO];decide) (It.gY (bQ.Dl hr))
 refine ar (own:=bk) Tryz.func295 (by kernel_rfl) mixed (by kernel_rfl)
  (let z1:=(String.toUTF8 "specie/coin-item");let z0:=(It.enc (bQ.it c));(.dc true 325 [.agg (bQ.cells c)] (It.av (bQ.it c)) (.dc true 292 [.agg [Zi (It.kind (bQ.it c)),Zi (It.num (bQ.it c)),.aG 1 0 fun i x=>Zb (It.fb (bQ.it c) i),.aG 4 3 (It.row (bQ.it c))]] (.aT [il IntKind.u8 z0,Zi 0]) (.sc true 62 [AV.str { data := #[(115:UInt8),112,101,99,105,101,47,99,111,105,110,45,105,116,101,109] },.aG 1 133 fun i x=>Zb (List.getD z0 i (0:Int))] (.aT [.agg (bh (eX z1 (List.length z0) fun i=>List.getD z0 i (0:Int))),Zi 0]) (.out (.agg (bh (eX z1 133 fun i=>List.getD z0 i (0:Int)))) [] (.agg (bh (bQ.rD c))) [])))))
  (by kernel_rfl) ?_
 refine bM (hi) ?_
 refine bM (he) ?_
 refine aM (ht) ?_
 exact aq (aw.refl _)
theorem GX (c:bQ) (hr:cC c.root 32):Pure Tryz.prog aW 272 [c.av] (.agg (bh c.rD)):=by
 have hi:=HT c
 have he:=lP c.it (by rw [c.rO];decide)
 have ht:=fw "specie/coin-item".toUTF8 (by decide) (fun i=>c.it.enc.getD i 0) c.it.enc.length (by rw [c.rO];decide) (It.gY (bQ.Dl hr))
 refine ar (own:=bk) Tryz.func272 (by kernel_rfl) mixed (by kernel_rfl)
  (let z1:=(String.toUTF8 "specie/coin-item");let z0:=(It.enc (bQ.it c));(.dc true 317 [.agg (bQ.cells c)] (It.av (bQ.it c)) (.dc true 275 [.agg [Zi (It.kind (bQ.it c)),Zi (It.num (bQ.it c)),.aG 1 0 fun i x=>Zb (It.fb (bQ.it c) i),.aG 4 3 (It.row (bQ.it c))]] (il IntKind.u8 z0) (.sc true 83 [AV.str { data := #[(115:UInt8),112,101,99,105,101,47,99,111,105,110,45,105,116,101,109] },.aG 1 133 fun i x=>Zb (List.getD z0 i (0:Int))] (.agg (bh (eX z1 (List.length z0) fun i=>List.getD z0 i (0:Int)))) (.out (.agg (bh (eX z1 133 fun i=>List.getD z0 i (0:Int)))) [] (.agg (bh (bQ.rD c))) [])))))
  (by kernel_rfl) ?_
 refine bM (hi) ?_
 refine bM (he) ?_
 refine aM (ht) ?_
 exact aq (aw.refl _)
theorem MM (a b c d:It):Pure Tryz.prog aW 293 [.aG 4 4 fun r k=>aO (List.getD [a.cells,b.cells,c.cells,d.cells] r []) k] (nJ [a,b,c,d]).av :=
 (JS 4 _).tO (zm (cM.refl _) (cM.refl _) (cM.refl _) (cM.refl _))
theorem GO (n:Nat) (f:Nat→Nat→AV):Pure Tryz.prog aW 276 [.aG 4 n f] (.agg [.int .i64 3,.int .i64 0,.bc,.aG 4 n f]):=by
 refine ar (own:=bk) Tryz.func276 (by kernel_rfl) mixed (by kernel_rfl)
  (let y0:AV:=(.agg [Zi 3,Zi 0,.bc,.aG 4 n f]);(.out y0 [] y0 []))
  (by kernel_rfl) ?_
 exact aq (aw.refl _)
theorem Lv (a b c d:It):Pure Tryz.prog aW 276 [.aG 4 4 fun r k=>aO (List.getD [a.cells,b.cells,c.cells,d.cells] r []) k] (nJ [a,b,c,d]).av :=
 (GO 4 _).tO (zm (cM.refl _) (cM.refl _) (cM.refl _) (cM.refl _))
theorem BP (b:aI) (c:bQ) (l i:Int) (x:i9) (hr:cC c.root 32) (hp:cC x.bI 32) (hq:0<b.gr.q) (hq':b.gr.q<2305843009213693952):Pure Tryz.prog aW 237 [b.av,c.av,.agg [.int .i64 l,.int .i64 i],x.av] (.int .i64 (iL b.gr.q c l i x)):=by
 have hd:=K6 c hr
 have hb:=yh c.rD
 have hb2:=yh x.bI
 have hi:=E7 l i
 have hi2:=E7 x.time x.number
 have hl:=MM (.eQ 32 c.rD) (bu [l,i]) (.eQ 32 x.bI) (bu [x.time,x.number])
 have he:=ml (gF c l i x) (GC c l i x) (by rw [mG];decide)
 have ht:=gm "specie/spend".toUTF8 (by decide) (by decide) (fun k=>(gF c l i x).enc.getD k 0) (gF c l i x).enc.length (by rw [mG];decide) (It.gY (vj hp))
 have hn:=py (jn "specie/spend".toUTF8 (gF c l i x)) b.gr.q hq hq' (jd _ _ _)
 refine ar (own:=bk) Tryz.func237 (by kernel_rfl) mixed (by kernel_rfl)
  (let z4:=(bu [x.2,x.3]);let z3:=(String.toUTF8 "specie/spend");let z2:=(It.enc (gF c l i x));let z1:=(It.eQ 32 (bQ.rD c));let z0:=(nJ [It.eQ 32 (bQ.rD c),bu [l,i],It.eQ 32 x.1,bu [x.2,x.3]]);(.sc true 295 [.agg (bQ.cells c)] (.agg (bh (bQ.rD c))) (.dc true 294 [.agg (bh (bQ.rD c))] (It.av z1) (.dc true 258 [.aG 1 2 fun r k=>aO (List.getD [[Zi l],[Zi i]] (r+0) []) k] (It.av (bu [l,i])) (.dc true 294 [.agg (bh x.1)] (It.av (It.eQ 32 (i9.bI x))) (.dc true 258 [.aG 1 2 fun r k=>aO (List.getD [[Zi x.2],[Zi x.3]] (r+0) []) k] (It.av (bu [i9.time x,i9.number x])) (.dc true 293 [.aG 4 4 fun r k=>aO (List.getD [[Zi (It.kind z1),Zi (It.num z1),.aG 1 32 fun i x=>Zb (It.fb z1 i),.aG 4 0 (It.row z1)],[Zi (It.kind (bu [l,i])),Zi (It.num (bu [l,i])),.aG 1 0 fun i_1 x=>Zb (It.fb (bu [l,i]) i_1),.aG 4 2 (It.row (bu [l,i]))],[Zi (It.kind (It.eQ 32 x.1)),Zi (It.num (It.eQ 32 x.1)),.aG 1 32 fun i x_1=>Zb (It.fb (It.eQ 32 x.1) i),.aG 4 0 (It.row (It.eQ 32 x.1))],[Zi (It.kind z4),Zi (It.num z4),.aG 1 0 fun i x_1=>Zb (It.fb z4 i),.aG 4 2 (It.row z4)]] (r+0) []) k] (It.av (nJ [It.eQ 32 (bQ.rD c),bu [l,i],It.eQ 32 (i9.bI x),bu [i9.time x,i9.number x]])) (.dc true 292 [.agg [Zi (It.kind z0),Zi (It.num z0),.aG 1 0 fun i_1 x_1=>Zb (It.fb z0 i_1),.aG 4 4 (It.row z0)]] (.aT [il IntKind.u8 z2,Zi 0]) (.sc true 62 [AV.str { data := #[(115:UInt8),112,101,99,105,101,47,115,112,101,110,100] },.aG 1 125 fun i_1 x_1=>Zb (List.getD z2 i_1 (0:Int))] (.aT [.agg (bh (eX z3 (List.length z2) fun k=>List.getD z2 k (0:Int))),Zi 0]) (.sc true 261 [.agg (bh (eX z3 125 fun k=>List.getD z2 k (0:Int))),Zi (aI.gr b).2] (.aT [Zi (cB (jn z3 (gF c l i x)) (bL.q (aI.gr b)) 16),Zi 0]) (.out (Zi (cB (jn z3 (gF c l i x)) (aI.gr b).2 16)) [] (Zi (iL (bL.q (aI.gr b)) c l i x)) [])))))))))))
  (by kernel_rfl) ?_
 refine aM (hd) ?_
 refine bM (hb) ?_
 refine bM (hi) ?_
 refine bM (hb2) ?_
 refine bM (hi2) ?_
 refine bM (hl) ?_
 refine bM (he) ?_
 refine aM (ht) ?_
 refine aM (hn) ?_
 exact aq (aw.refl _)
theorem yv (b:aI) (c:bQ) (l i:Int) (x:i9) (hr:cC c.root 32) (hp:cC x.bI 32) (hq:0<b.gr.q) (hq':b.gr.q<2305843009213693952):Pure Tryz.prog aW 206 [b.av,c.av,.agg [.int .i64 l,.int .i64 i],x.av] (.int .i64 (iL b.gr.q c l i x)):=by
 have hd:=GX c hr
 have hb:=lY c.rD
 have hb2:=lY x.bI
 have hi:=xP l i
 have hi2:=xP x.time x.number
 have hl:=Lv (.eQ 32 c.rD) (bu [l,i]) (.eQ 32 x.bI) (bu [x.time,x.number])
 have he:=lP (gF c l i x) (by rw [mG];decide)
 have ht:=fw "specie/spend".toUTF8 (by decide) (fun k=>(gF c l i x).enc.getD k 0) (gF c l i x).enc.length (by rw [mG];decide) (It.gY (vj hp))
 have hn:=nq (jn "specie/spend".toUTF8 (gF c l i x)) b.gr.q hq hq' (jd _ _ _)
 refine ar (own:=bk) Tryz.func206 (by kernel_rfl) mixed (by kernel_rfl)
  (let z4:=(bu [x.2,x.3]);let z3:=(String.toUTF8 "specie/spend");let z2:=(It.enc (gF c l i x));let z1:=(It.eQ 32 (bQ.rD c));let z0:=(nJ [It.eQ 32 (bQ.rD c),bu [l,i],It.eQ 32 x.1,bu [x.2,x.3]]);(.sc true 272 [.agg (bQ.cells c)] (.agg (bh (bQ.rD c))) (.dc true 271 [.agg (bh (bQ.rD c))] (It.av z1) (.dc true 273 [.aG 1 2 fun r k=>aO (List.getD [[Zi l],[Zi i]] (r+0) []) k] (It.av (bu [l,i])) (.dc true 271 [.agg (bh x.1)] (It.av (It.eQ 32 (i9.bI x))) (.dc true 273 [.aG 1 2 fun r k=>aO (List.getD [[Zi x.2],[Zi x.3]] (r+0) []) k] (It.av (bu [i9.time x,i9.number x])) (.dc true 276 [.aG 4 4 fun r k=>aO (List.getD [[Zi (It.kind z1),Zi (It.num z1),.aG 1 32 fun i x=>Zb (It.fb z1 i),.aG 4 0 (It.row z1)],[Zi (It.kind (bu [l,i])),Zi (It.num (bu [l,i])),.aG 1 0 fun i_1 x=>Zb (It.fb (bu [l,i]) i_1),.aG 4 2 (It.row (bu [l,i]))],[Zi (It.kind (It.eQ 32 x.1)),Zi (It.num (It.eQ 32 x.1)),.aG 1 32 fun i x_1=>Zb (It.fb (It.eQ 32 x.1) i),.aG 4 0 (It.row (It.eQ 32 x.1))],[Zi (It.kind z4),Zi (It.num z4),.aG 1 0 fun i x_1=>Zb (It.fb z4 i),.aG 4 2 (It.row z4)]] (r+0) []) k] (It.av (nJ [It.eQ 32 (bQ.rD c),bu [l,i],It.eQ 32 (i9.bI x),bu [i9.time x,i9.number x]])) (.dc true 275 [.agg [Zi (It.kind z0),Zi (It.num z0),.aG 1 0 fun i_1 x_1=>Zb (It.fb z0 i_1),.aG 4 4 (It.row z0)]] (il IntKind.u8 z2) (.sc true 83 [AV.str { data := #[(115:UInt8),112,101,99,105,101,47,115,112,101,110,100] },.aG 1 125 fun i_1 x_1=>Zb (List.getD z2 i_1 (0:Int))] (.agg (bh (eX z3 (List.length z2) fun k=>List.getD z2 k (0:Int)))) (.sc true 274 [.agg (bh (eX z3 125 fun k=>List.getD z2 k (0:Int))),Zi (aI.gr b).2] (Zi (cB (jn z3 (gF c l i x)) (bL.q (aI.gr b)) 16)) (.out (Zi (cB (jn z3 (gF c l i x)) (aI.gr b).2 16)) [] (Zi (iL (bL.q (aI.gr b)) c l i x)) [])))))))))))
  (by kernel_rfl) ?_
 refine aM (hd) ?_
 refine bM (hb) ?_
 refine bM (hi) ?_
 refine bM (hb2) ?_
 refine bM (hi2) ?_
 refine bM (hl) ?_
 refine bM (he) ?_
 refine aM (ht) ?_
 refine aM (hn) ?_
 exact aq (aw.refl _)
end Go.Proofs.YtgnfjlekpgjehaaGreatDoor

namespace Go.Sp
open Go.IntKind (wrap)
open Int (toNat)
open Go Go.Am
def ET (x:Nat→Int):List AV:=[.int .i64 (x 0),.int .i64 (x 1),.int .i64 (x 2),.int .i64 (x 3)]
def dA (n:Nat) (x:Nat→Int):Bool:=x 0 != x 1&&decide (x 0≥0)&&decide (x 0<n)&&decide (x 1≥0)&&decide (x 1<n)&&decide (x 2≥1)&&decide (x 2≤1099511627776)&&decide (x 3≥0)&&decide (x 3≤1073741824)
theorem eY {n:Nat} {x:Nat→Int}:dA n x=true↔x 0≠x 1∧0≤x 0∧x 0<n∧0≤x 1∧x 1<n∧1≤x 2∧x 2≤1099511627776∧0≤x 3∧x 3≤1073741824:=by
 simp [dA,and_assoc]
def gz (F:Nat→Int) (x:Nat→Int) (i:Nat):Int:=if i=(x 1).toNat then IntKind.wrap .i64 (F i+x 2) else if i=(x 0).toNat then IntKind.wrap .i64 (F i - x 2) else F i
def dM (F:Nat→Int) (x:Nat→Int):Bool := !(decide (x 0≥5)&&decide (F (x 0).toNat<x 2))
def nw (F:Nat→Int) (x:Nat→Int) (i:Nat):Int:=if dM F x=true then gz F x i else F i
theorem ve {a b:Nat}:Nat.beq a b=true↔a=b:=⟨Nat.eq_of_beq_eq_true,fun h=>h▸Nat.beq_refl a⟩
theorem F8 {n:Nat} {F x:Nat→Int} (h:dA n x=true) (h2:dM F x=true) {i j:Nat} (hj:j<1) :
  (bif Nat.beq i ((x 1).toNat+0)&&(Nat.ble 0 j&&Nat.blt j 1) then IntKind.wrap .i64 ((bif Nat.beq ((x 1).toNat+0) ((x 0).toNat+0)&&Nat.blt 0 1 then IntKind.wrap .i64 (F ((x 0).toNat+0) - x 2) else F ((x 1).toNat+0))+x 2) else
   bif Nat.beq i ((x 0).toNat+0)&&(Nat.ble 0 j&&Nat.blt j 1) then IntKind.wrap .i64 (F ((x 0).toNat+0) - x 2) else F i)=nw F x i:=by
 obtain rfl:j=0:=Nat.lt_one_iff.1 hj
 have hb:=eY.1 h
 have e:Nat.beq ((x 1).toNat+0) ((x 0).toNat+0)=false:=by grind [Nat.beq,ve]
 rw [e,nw,if_pos h2,gz]
 show (bif Nat.beq i (x 1).toNat&&true then IntKind.wrap .i64 (F (x 1).toNat+x 2) else bif Nat.beq i (x 0).toNat&&true then IntKind.wrap .i64 (F (x 0).toNat - x 2) else F i)=_
 simp only [Bool.and_true]
 by_cases c1:i=(x 1).toNat
 ·simp_all
 simp_all
theorem xq {F x:Nat→Int} (h:x 0≥5∧F ((x 0).toNat+0)<x 2):dM F x=false:=by grind [dM,decide_eq_true]
theorem wt {F x:Nat→Int} (h:¬x 0≥5∨¬F ((x 0).toNat+0)<x 2):dM F x=true:=by simp_all [dM]
def bU (E:Nat→Nat→Int):Nat→Nat→Int
 | 0=>fun _=>0
 | k+1=>gz (bU E k) (E k)
def qn (nb:Nat) (E:Nat→Nat→Int) (k:Nat):Bool:=dA nb (E k)&&dM (bU E k) (E k)
def dp (nb:Nat) (B:Nat→Int) (ne:Nat) (E:Nat→Nat→Int):Bool:=decide (5≤nb)&&decide (nb≤105)&&decide (ne≤1000)&&(List.range ne).all (qn nb E)&&(List.range nb).all fun i=>bU E ne i==B i
theorem PR {n:Nat} {x:Nat→Int}:(decide (x 0≥0)&&decide (x 0<n)&&decide (x 1≥0)&&decide (x 1<n)&&x 0 != x 1&&decide (x 2≥1)&&decide (x 2≤1099511627776)&&decide (x 3≥0)&&decide (x 3≤1073741824))=dA n x:=by grind [dA]
theorem xV {nb:Nat} {B:Nat→Int} {ne:Nat} {E:Nat→Nat→Int} (h:((nb:Int)<5∨(nb:Int)>105)∨(ne:Int)>1000):dp nb B ne E=false:=by simp_all [dp,Bool.and_eq_true,decide_eq_true_eq]<;>omega
theorem tC {nb:Nat} {B:Nat→Int} {ne:Nat} {E:Nat→Nat→Int} {k:Nat} (hk:k<ne) (h:qn nb E k=false):dp nb B ne E=false:=by cases e:dp nb B ne E<;>simp_all [dp,Bool.and_eq_true,List.all_eq_true,List.mem_range]
theorem tz {nb:Nat} {B:Nat→Int} {ne:Nat} {E:Nat→Nat→Int} (h1:¬(nb:Int)<5) (h2:¬(nb:Int)>105) (h3:¬(ne:Int)>1000) (h:∀ k,k<ne→qn nb E k=true):dp nb B ne E=(List.range nb).all fun i=>bU E ne i==B i:=by grind [List.range,qn,List.all_eq_true,dp,decide_eq_true]
structure Pq (nb : Nat) (B : Nat → Int) (ne : Nat) (E : Nat → Nat → Int) : Prop where
  lo : 5 ≤ nb
  hi : nb ≤ 105
  len : ne ≤ 1000
  ok : ∀ k, k < ne → qn nb E k = true
  bal : ∀ i, i < nb → bU E ne i = B i
theorem jE {nb:Nat} {B:Nat→Int} {ne:Nat} {E:Nat→Nat→Int} (h:dp nb B ne E=true):Pq nb B ne E:=by
 simp only [dp,Bool.and_eq_true,decide_eq_true_eq,List.all_eq_true,List.mem_range,beq_iff_eq] at h
 exact ⟨h.1.1.1.1,h.1.1.1.2,h.1.1.2,h.1.2,h.2⟩
theorem yt {nb:Nat} {E:Nat→Nat→Int}:∀ k,k≤1000→(∀ j,j<k→dA nb (E j)=true)→∀ i,-(1099511627776*(k:Int))≤bU E k i∧bU E k i≤1099511627776*(k:Int)
 | 0,_,_,i=>by simp [bU]
 | k+1,hk,h,i=>by
  have ih:=yt k (by omega) (fun j hj=>h j (by omega)) i
  have hE:=eY.1 (h k (by omega))
  unfold bU gz
  grind [wI]
theorem M1 {nb:Nat} {E:Nat→Nat→Int} {k:Nat} (hk:k<1000) (h:∀ j,j≤k→dA nb (E j)=true) (i:Nat) :
  IntKind.wrap .i64 (bU E k i - E k 2)=bU E k i - E k 2∧IntKind.wrap .i64 (bU E k i+E k 2)=bU E k i+E k 2:=by
 have hb:=yt k (by omega) (fun j hj=>h j (by omega)) i
 have hE:=eY.1 (h k (Nat.le_refl _))
 grind [wI]
end Go.Sp

namespace Go.Proofs.YtgnfjlekpgjehaaGreatDoor
open Go.IntKind (wrap)
open Int (toNat)
open Go Go.Am Go.Sp
set_option maxRecDepth 100000
theorem yL (n:Nat) (x:Nat→Int):Pure Tryz.prog aW 78 [.agg (ET x),.int .i64 n] (.bool (dA n x)):=by
 refine ar (own:=bk) Tryz.func78 (by kernel_rfl) mixed (by kernel_rfl)
  (.out (.bool (x 0 != x 1&&decide (x 0≥0)&&decide (x 0<(n:Int))&&decide (x 1≥0)&&decide (x 1<(n:Int))&&decide (x 2≥1)&&decide (x 2≤1099511627776)&&decide (x 3≥0)&&decide (x 3≤1073741824))) [] (.bool (dA n x)) [])
  (by kernel_rfl) ?_
 exact aq (aw.of_eq rfl)
theorem vw (n:Nat) (x:Nat→Int):Pure Tryz.prog aW 93 [.int .i64 n,.agg (ET x)] (.bool (dA n x)):=by
 refine ar (own:=bk) Tryz.func93 (by kernel_rfl) mixed (by kernel_rfl)
  (.out (.bool (decide (x 0≥0)&&decide (x 0<(n:Int))&&decide (x 1≥0)&&decide (x 1<(n:Int))&&x 0 != x 1&&decide (x 2≥1)&&decide (x 2≤1099511627776)&&decide (x 3≥0)&&decide (x 3≤1073741824))) [] (.bool (dA n x)) [])
  (by kernel_rfl) ?_
 exact aq (aw.of_eq (congrArg AV.bool PR))
def owL:FuncId→Option (List Bool):=fun f=>bif Nat.beq f 79 then some [true,false] else none
theorem D5 (n:Nat) (F x:Nat→Int) (h:dA n x=true) (hn:n≤1000):bC Tryz.prog aW 79 [⟨1,n,true,.fn fun i _=>.int .i64 (F i)⟩] [.aZ 0 1 0 n,.agg (ET x)] (.bool (dM F x)) [some ⟨1,n,true,.fn fun i _=>.int .i64 (nw F x i)⟩]:=by
 have hb:=eY.1 h
 refine bO (own:=owL) (hand:=true) Tryz.func79 (by kernel_rfl) mixed (by kernel_rfl)
  (let y0:Nat:=(toNat (x 0)+0);let y1:List (Option Ob):=[some ⟨1,n,true,.fn fun i x_1=>Zi (nw F x i)⟩];let y2:Nat:=(toNat (x 1)+0);(.bf ((decide (x 0≥5)==true)=true→(0:Int)≤x 0∧x 0<(n:Int)) (.br (decide (x 0≥5)&&decide (F y0<x 2)) (.out (.bool false) [some ⟨1,n,true,.fn fun i j=>Zi (F i)⟩] (.bool (dM F x)) (y1)) (.bf ((0:Int)≤x 0∧x 0<(n:Int)) (.bf ((0:Int)≤x 0∧x 0<(n:Int)) (.bf ((0:Int)≤x 1∧x 1<(n:Int)) (.bf ((0:Int)≤x 1∧x 1<(n:Int)) (.out (.bool true) [some ⟨1,n,true,.fn fun i j=>Zi (bif Nat.beq i y2&&(Nat.ble 0 j&&Nat.blt j 1) then wrap .i64 ((bif Nat.beq y2 y0&&Nat.blt 0 1 then wrap .i64 (F y0 - x 2) else F y2)+x 2) else bif Nat.beq i y0&&(Nat.ble 0 j&&Nat.blt j 1) then wrap .i64 (F y0 - x 2) else F i)⟩] (.bool (dM F x)) (y1)))))))))
  (by kernel_rfl) ?_
 refine aD (fun hr=>by have hr:=(cJ af) hr;omega) ?_
 refine aL (fun h1=>?_) (fun h1=>?_)
 ·have g1:=(ah af af) h1
  exact cP (aw.of_eq (congrArg AV.bool (xq g1).symm)) (⟨⟨rfl,rfl,rfl,fun i j _ _=>aw.of_eq (congrArg (AV.int _) (by unfold nw;rw [if_neg (by rw [xq g1];simp)]))⟩,trivial⟩)
 ·have g1:=(aj aa aa) h1
  refine aD (by omega) ?_
  refine aD (by omega) ?_
  refine aD (by omega) ?_
  refine aD (by omega) ?_
  exact cP (aw.of_eq (congrArg AV.bool (wt g1).symm)) (⟨⟨rfl,rfl,rfl,fun i j _ hj=>aw.of_eq (congrArg (AV.int _) (F8 h (wt g1) hj))⟩,trivial⟩)
end Go.Proofs.YtgnfjlekpgjehaaGreatDoor

namespace Go.Sp
open Go.IntKind (wrap)
open Int (toNat)
open Go Go.Am
def iR (b:aI) (c:bQ) (l i:Int) (x:i9):Int:=bif aR b then (bif bT c.depth l i&&fL x.time x.number then 0 else 2) else 1
def jB (b:aI) (c:bQ) (l i:Int) (x:i9):Int:=bif aR b&&(bT c.depth l i&&fL x.time x.number) then iL b.gr.q c l i x else 0
theorem iD {b:aI} (h:aR b=true):b.gr.Ok:=by simp_all [aR,Bool.and_eq_true,bn]
theorem fO {b:aI} (h:aR b=true):0<b.gr.q∧b.gr.q<2305843009213693952:=by
 have h:=iD h
 have:=h.qp;have:=h.q3;have:=h.p1
 omega
theorem Es {b:aI} {c:bQ} {l i:Int} {x:i9} (h:aR b=false):iR b c l i x=1∧jB b c l i x=0:=by
 unfold iR jB;rw [h];exact ⟨rfl,rfl⟩
theorem DN {b:aI} {c:bQ} {l i:Int} {x:i9} (h:aR b=true) (h':bT c.depth l i=false∨fL x.time x.number=false):iR b c l i x=2∧jB b c l i x=0:=by
 have e:(bT c.depth l i&&fL x.time x.number)=false:=by grind
 unfold iR jB;grind
theorem xB {b:aI} {c:bQ} {l i:Int} {x:i9} (h:aR b=true) (h':bT c.depth l i=true∧fL x.time x.number=true):iR b c l i x=0∧jB b c l i x=iL b.gr.q c l i x:=by
 have e:(bT c.depth l i&&fL x.time x.number)=true:=by simp [h']
 unfold iR jB;rw [h,e];exact ⟨rfl,rfl⟩
theorem JP {d l i:Int} (hn:bT d l i=true):gV d l i=0∧0≤l∧l≤d∧0≤d∧d≤5:=by
 have h:=iH hn
 simp_all [gV,if_neg]
end Go.Sp
