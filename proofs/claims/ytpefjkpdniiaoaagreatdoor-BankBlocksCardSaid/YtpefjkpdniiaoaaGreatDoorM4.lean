/- Part of the proof: CS9, CS10, CS11, Tag, CS12, CS13, CS14, CS15, Enc, CS16, EnOpen, EnRow, EnArg, Item, CS17, CS18, CS19. -/
import Derived.Test.YtpefjkpdniiaoaaGreatDoorM3
import Derived.Test.YtpefjkpdniiaoaaGreatDoorProg
import Derived.Test.YtpefjkpdniiaoaaGreatDoorM2
import Derived.ProofKit
import Derived.Deep.Slices
namespace Go.Proofs.YtpefjkpdniiaoaaGreatDoor
open Go.IntKind (wrap)
open Int (toNat)
open Go Go.Am Go.Sp
set_option maxRecDepth 100000
theorem Nz (s b w:Nat→Int) (R:Nat→Nat→Int) (hsch:Pure Tryz.prog aZ 266 [dC 64 b] (.agg ((List.range 64).map fun j=>.int .u32 (w j)))) (hR:Rnd s w R):Pure Tryz.prog aZ 222 [.agg ((List.range 8).map fun j=>.int .u32 (s j)),dC 64 b] (.agg ((List.range 8).map fun j=>.int .u32 (dt (s j) (R 64 j)))):=by
 refine ar (own:=bq) Tryz.func222 (by kernel_rfl) mixed (by kernel_rfl)
  (let y2:List AV:=[Zw (s 0),Zw (s 1),Zw (s 2),Zw (s 3),Zw (s 4),Zw (s 5),Zw (s 6),Zw (s 7)];let y3:List AV:=[Zw 0,Zw 0,Zw 0,Zw 0,Zw 0,Zw 0,Zw 0,Zw 0];let y0:=(fun (x:{ x:Nat // x≤64 })=>aY [2,4,5,6,7,8,9,10,11,12,13,37] [AV.own 0 8 0 0 8,AV.own 1 8 0 0 8,AV.own 2 64 0 0 64,Zw (R (x.1) 0),Zw (R (x.1) 1),Zw (R (x.1) 2),Zw (R (x.1) 3),Zw (R (x.1) 4),Zw (R (x.1) 5),Zw (R (x.1) 6),Zw (R (x.1) 7),Zi (↑(x.1):Int)] [some ⟨8,1,true,bA.bc [y2]⟩,some ⟨8,1,true,bA.bc [y3]⟩,some ⟨64,1,true,bA.fn fun (x j:Nat)=>Zw (w j)⟩]);let y1:=(fun (x:{ x:Nat // x≤8 })=>aY [2,4,108,109] [AV.own 0 8 0 0 8,AV.own 1 8 0 0 8,AV.agg (List.map (fun (j:Nat)=>Zw (R 64 j)) (List.range 8)),Zi (↑(x.1):Int)] [some ⟨8,1,true,bA.fn fun (x_1 j:Nat)=>Zw (bif Nat.blt j (x.1) then dt (s j) (R 64 j) else s j)⟩,some ⟨8,1,true,bA.bc [y3]⟩]);let y4:List AV:=[Zw (R 64 0),Zw (R 64 1),Zw (R 64 2),Zw (R 64 3),Zw (R 64 4),Zw (R 64 5),Zw (R 64 6),Zw (R 64 7)];let y5:=(fun (x:{ x:Nat // x≤64 })=>64 - x.1);let y6:=(fun (x:{ x:Nat // x≤8 })=>8 - x.1);(.sc (true) 266 ([AV.aH 1 64 fun (i x:Nat)=>Zb (b i)]) (AV.agg (List.map (fun (j:Nat)=>Zw (w j)) (List.range 64))) (.bj ((0:Int)≤0∧(0:Int)<(↑(8):Int)) (.bj ((0:Int)≤1∧(1:Int)<(↑(8):Int)) (.bj ((0:Int)≤2∧(2:Int)<(↑(8):Int)) (.bj ((0:Int)≤3∧(3:Int)<(↑(8):Int)) (.bj ((0:Int)≤4∧(4:Int)<(↑(8):Int)) (.bj ((0:Int)≤5∧(5:Int)<(↑(8):Int)) (.bj ((0:Int)≤6∧(6:Int)<(↑(8):Int)) (.bj ((0:Int)≤7∧(7:Int)<(↑(8):Int)) (.loop ({ x:Nat // x≤64 }) y0 y5 (⟨0,Nat.zero_le 64⟩) ([2,4,5,6,7,8,9,10,11,12,13,37]) ([0,8,32]) ([AV.own 0 8 0 0 8,AV.own 1 8 0 0 8,AV.own 2 64 0 0 64,Zw (s 0),Zw (s 1),Zw (s 2),Zw (s 3),Zw (s 4),Zw (s 5),Zw (s 6),Zw (s 7),Zi 0]) ([some ⟨8,1,true,bA.bc [y2]⟩,some ⟨8,1,true,bA.bc [y3]⟩,some ⟨64,1,true,bA.bc [[Zw (w 0),Zw (w 1),Zw (w 2),Zw (w 3),Zw (w 4),Zw (w 5),Zw (w 6),Zw (w 7),Zw (w 8),Zw (w 9),Zw (w 10),Zw (w 11),Zw (w 12),Zw (w 13),Zw (w 14),Zw (w 15),Zw (w 16),Zw (w 17),Zw (w 18),Zw (w 19),Zw (w 20),Zw (w 21),Zw (w 22),Zw (w 23),Zw (w 24),Zw (w 25),Zw (w 26),Zw (w 27),Zw (w 28),Zw (w 29),Zw (w 30),Zw (w 31),Zw (w 32),Zw (w 33),Zw (w 34),Zw (w 35),Zw (w 36),Zw (w 37),Zw (w 38),Zw (w 39),Zw (w 40),Zw (w 41),Zw (w 42),Zw (w 43),Zw (w 44),Zw (w 45),Zw (w 46),Zw (w 47),Zw (w 48),Zw (w 49),Zw (w 50),Zw (w 51),Zw (w 52),Zw (w 53),Zw (w 54),Zw (w 55),Zw (w 56),Zw (w 57),Zw (w 58),Zw (w 59),Zw (w 60),Zw (w 61),Zw (w 62),Zw (w 63)]]⟩]) (fun x9=>(.br (decide ((↑x9.1:Int)<64)) (.sc (true) 267 ([Zw (R x9.1 4),Zi 6]) (Zw (cJ (R x9.1 4) 6)) (.sc (true) 267 ([Zw (R x9.1 4),Zi 11]) (Zw (cJ (R x9.1 4) 11)) (.sc (true) 267 ([Zw (R x9.1 4),Zi 25]) (Zw (cJ (R x9.1 4) 25)) (.bj ((0:Int)≤(↑x9.1:Int)∧(↑x9.1:Int)<(↑(64):Int)) (.bj ((0:Int)≤(↑x9.1:Int)∧(↑x9.1:Int)<(↑(64):Int)) (.sc (true) 267 ([Zw (R x9.1 0),Zi 2]) (Zw (cJ (R x9.1 0) 2)) (.sc (true) 267 ([Zw (R x9.1 0),Zi 13]) (Zw (cJ (R x9.1 0) 13)) (.sc (true) 267 ([Zw (R x9.1 0),Zi 22]) (Zw (cJ (R x9.1 0) 22)) (.again (bh 0 y0 y5 x9) ([2,4,5,6,7,8,9,10,11,12,13,37]) ([0,1,2]) ([AV.own 0 8 0 0 8,AV.own 1 8 0 0 8,AV.own 2 64 0 0 64,Zw (wrap .u32 (wrap .u32 (wrap .u32 (wrap .u32 (wrap .u32 (R x9.1 7+wrap .u32 (↑(BitVec.toNat (BitVec.ofInt 32 (wrap .u32 (↑(BitVec.toNat (BitVec.ofInt 32 (cJ (R x9.1 4) 6) ^^^ BitVec.ofInt 32 (cJ (R x9.1 4) 11))):Int)) ^^^ BitVec.ofInt 32 (cJ (R x9.1 4) 25))):Int))+wrap .u32 (↑(BitVec.toNat (BitVec.ofInt 32 (wrap .u32 (↑(BitVec.toNat (BitVec.ofInt 32 (R x9.1 4) &&& BitVec.ofInt 32 (R x9.1 5))):Int)) ^^^ BitVec.ofInt 32 (wrap .u32 (↑(BitVec.toNat (BitVec.ofInt 32 (wrap .u32 (↑(BitVec.toNat (BitVec.ofInt 32 (if false=true then (-1:Int) else IntKind.max IntKind.u32) ^^^ BitVec.ofInt 32 (R x9.1 4))):Int)) &&& BitVec.ofInt 32 (R x9.1 6))):Int)))):Int))+kF (toNat (↑x9.1:Int)))+w (0+toNat (↑x9.1:Int)))+wrap .u32 (wrap .u32 (↑(BitVec.toNat (BitVec.ofInt 32 (wrap .u32 (↑(BitVec.toNat (BitVec.ofInt 32 (cJ (R x9.1 0) 2) ^^^ BitVec.ofInt 32 (cJ (R x9.1 0) 13))):Int)) ^^^ BitVec.ofInt 32 (cJ (R x9.1 0) 22))):Int)+wrap .u32 (↑(BitVec.toNat (BitVec.ofInt 32 (wrap .u32 (↑(BitVec.toNat (BitVec.ofInt 32 (wrap .u32 (↑(BitVec.toNat (BitVec.ofInt 32 (R x9.1 0) &&& BitVec.ofInt 32 (R x9.1 1))):Int)) ^^^ BitVec.ofInt 32 (wrap .u32 (↑(BitVec.toNat (BitVec.ofInt 32 (R x9.1 0) &&& BitVec.ofInt 32 (R x9.1 2))):Int)))):Int)) ^^^ BitVec.ofInt 32 (wrap .u32 (↑(BitVec.toNat (BitVec.ofInt 32 (R x9.1 1) &&& BitVec.ofInt 32 (R x9.1 2))):Int)))):Int)))),Zw (R x9.1 0),Zw (R x9.1 1),Zw (R x9.1 2),Zw (wrap .u32 (R x9.1 3+wrap .u32 (wrap .u32 (wrap .u32 (wrap .u32 (R x9.1 7+wrap .u32 (↑(BitVec.toNat (BitVec.ofInt 32 (wrap .u32 (↑(BitVec.toNat (BitVec.ofInt 32 (cJ (R x9.1 4) 6) ^^^ BitVec.ofInt 32 (cJ (R x9.1 4) 11))):Int)) ^^^ BitVec.ofInt 32 (cJ (R x9.1 4) 25))):Int))+wrap .u32 (↑(BitVec.toNat (BitVec.ofInt 32 (wrap .u32 (↑(BitVec.toNat (BitVec.ofInt 32 (R x9.1 4) &&& BitVec.ofInt 32 (R x9.1 5))):Int)) ^^^ BitVec.ofInt 32 (wrap .u32 (↑(BitVec.toNat (BitVec.ofInt 32 (wrap .u32 (↑(BitVec.toNat (BitVec.ofInt 32 (if false=true then (-1:Int) else IntKind.max IntKind.u32) ^^^ BitVec.ofInt 32 (R x9.1 4))):Int)) &&& BitVec.ofInt 32 (R x9.1 6))):Int)))):Int))+kF (toNat (↑x9.1:Int)))+w (0+toNat (↑x9.1:Int))))),Zw (R x9.1 4),Zw (R x9.1 5),Zw (R x9.1 6),Zi (wrap .i64 ((↑x9.1:Int)+1))]) ([some ⟨8,1,true,bA.bc [y2]⟩,some ⟨8,1,true,bA.bc [y3]⟩,some ⟨64,1,true,bA.fn fun (i j:Nat)=>Zw (w j)⟩])))))))))) (.loop ({ x:Nat // x≤8 }) y1 y6 (⟨0,Nat.zero_le 8⟩) ([2,4,108,109]) ([0,1]) ([AV.own 0 8 0 0 8,AV.own 1 8 0 0 8,AV.agg [Zw (R x9.1 0),Zw (R x9.1 1),Zw (R x9.1 2),Zw (R x9.1 3),Zw (R x9.1 4),Zw (R x9.1 5),Zw (R x9.1 6),Zw (R x9.1 7)],Zi 0]) ([some ⟨8,1,true,bA.bc [y2]⟩,some ⟨8,1,true,bA.bc [y3]⟩]) (fun x20=>(.br (decide ((↑x20.1:Int)<8)) (.bj ((0:Int)≤(↑x20.1:Int)∧(↑x20.1:Int)<(↑(8):Int)) (.bj ((0:Int)≤(↑x20.1:Int)∧(↑x20.1:Int)<(↑(8):Int)) (.bj ((0:Int)≤(↑x20.1:Int)∧(↑x20.1:Int)<(↑(8):Int)) (.again (bh 0 y1 y6 x20) ([2,4,108,109]) ([0,1]) ([AV.own 0 8 0 0 8,AV.own 1 8 0 0 8,AV.agg y4,Zi (wrap .i64 ((↑x20.1:Int)+1))]) ([some ⟨8,1,true,bA.fn fun (i j:Nat)=>Zw (bif Nat.beq i 0&&Nat.beq j (0+toNat (↑x20.1:Int)) then wrap .u32 ((bif Nat.blt (0+toNat (↑x20.1:Int)) x20.1 then dt (s (0+toNat (↑x20.1:Int))) (R 64 (0+toNat (↑x20.1:Int))) else s (0+toNat (↑x20.1:Int)))+aE (aQ y4 (toNat (↑x20.1:Int)))) else bif Nat.blt j x20.1 then dt (s j) (R 64 j) else s j)⟩,some ⟨8,1,true,bA.bc [y3]⟩]))))) (.out (AV.agg [Zw (bif Nat.blt 0 x20.1 then dt (s 0) (R 64 0) else s 0),Zw (bif Nat.blt 1 x20.1 then dt (s 1) (R 64 1) else s 1),Zw (bif Nat.blt 2 x20.1 then dt (s 2) (R 64 2) else s 2),Zw (bif Nat.blt 3 x20.1 then dt (s 3) (R 64 3) else s 3),Zw (bif Nat.blt 4 x20.1 then dt (s 4) (R 64 4) else s 4),Zw (bif Nat.blt 5 x20.1 then dt (s 5) (R 64 5) else s 5),Zw (bif Nat.blt 6 x20.1 then dt (s 6) (R 64 6) else s 6),Zw (bif Nat.blt 7 x20.1 then dt (s 7) (R 64 7) else s 7)]) [] (AV.agg (List.map (fun (j:Nat)=>Zw (dt (s j) (R 64 j))) (List.range 8))) [])))))))))))))))))
  (by kernel_rfl) ?_
 refine aM (hsch) ?_
 refine aD (by omega) ?_
 refine aD (by omega) ?_
 refine aD (by omega) ?_
 refine aD (by omega) ?_
 refine aD (by omega) ?_
 refine aD (by omega) ?_
 refine aD (by omega) ?_
 refine aD (by omega) ?_
 refine aV (fun _ hs=>hs.le (⟨.refl _,.refl _,.refl _,ay.of_eq (congrArg _ (hR.z 0).symm),ay.of_eq (congrArg _ (hR.z 1).symm),ay.of_eq (congrArg _ (hR.z 2).symm),ay.of_eq (congrArg _ (hR.z 3).symm),ay.of_eq (congrArg _ (hR.z 4).symm),ay.of_eq (congrArg _ (hR.z 5).symm),ay.of_eq (congrArg _ (hR.z 6).symm),ay.of_eq (congrArg _ (hR.z 7).symm),.refl _,trivial⟩) (⟨.refl _,.refl _,aJ.Ab rfl,trivial⟩)) (fun x9=>?_)
 try (have q9:=x9.2;dsimp only at q9)
 refine aL (fun h10=>?_) (fun h10=>?_)
 ·have g10:=af h10
  refine aM ((fun (x:Int)=>gP x (6:Nat)) (R x9.1 (4)) (by omega) (by omega)) ?_
  refine aM ((fun (x:Int)=>gP x (11:Nat)) (R x9.1 (4)) (by omega) (by omega)) ?_
  refine aM ((fun (x:Int)=>gP x (25:Nat)) (R x9.1 (4)) (by omega) (by omega)) ?_
  refine aD (by omega) ?_
  refine aD (by omega) ?_
  refine aM ((fun (x:Int)=>gP x (2:Nat)) (R x9.1 (0)) (by omega) (by omega)) ?_
  refine aM ((fun (x:Int)=>gP x (13:Nat)) (R x9.1 (0)) (by omega) (by omega)) ?_
  refine aM ((fun (x:Int)=>gP x (22:Nat)) (R x9.1 (0)) (by omega) (by omega)) ?_
  exact aN (⟨x9.1+1,by omega⟩) (fun _ hs=>hs.le (⟨.refl _,.refl _,.refl _,ay.of_eq (congrArg _ (by rw [hR.s0];simp only [Nat.zero_add,Int.toNat_natCast];rfl)),ay.of_eq (congrArg _ (hR.s1 _).symm),ay.of_eq (congrArg _ (hR.s2 _).symm),ay.of_eq (congrArg _ (hR.s3 _).symm),ay.of_eq (congrArg _ (by rw [hR.s4];simp only [Nat.zero_add,Int.toNat_natCast];rfl)),ay.of_eq (congrArg _ (hR.s5 _).symm),ay.of_eq (congrArg _ (hR.s6 _).symm),ay.of_eq (congrArg _ (hR.s7 _).symm),aK (by omega),trivial⟩) (⟨.refl _,.refl _,.refl _,trivial⟩)) (by dsimp only;omega)
 ·have g10:=aa h10
  refine aV (fun _ hs=>hs.le (⟨.refl _,.refl _,ay.of_eq (by
                                                                                                     have e:x9.1=64:=by omega
                                                                                                     rw [e]
                                                                                                     rfl),.refl _,trivial⟩) (⟨aJ.Ab rfl,.refl _,trivial⟩)) (fun x20=>?_)
  refine aL (fun h21=>?_) (fun h21=>?_)
  ·have g21:=af h21
   refine aD (by omega) ?_
   refine aD (by omega) ?_
   refine aD (by omega) ?_
   exact aN (⟨x20.1+1,by omega⟩) (fun _ hs=>hs.le (⟨.refl _,.refl _,.refl _,aK (by omega),trivial⟩) (⟨aJ.Bw (P:=fun i j=>Nat.beq i 0&&Nat.beq j (0+toNat ((x20.1:Nat):Int))) (c0:=x20.1) (G:=fun j=>bif Nat.blt j (x20.1+1) then dt (s j) (R 64 j) else s j) (fun j _=>by show (true&&Nat.beq j (0+x20.1))=_;rw [Nat.zero_add];rfl) (by
                                                                                                     simp only [Nat.zero_add,Int.toNat_natCast,dn (Nat.le_refl x20.1),cD (Nat.lt_succ_self x20.1),cond_true,cond_false]
                                                                                                     exact congrArg (fun z=>IntKind.wrap .u32 (s x20.1+z)) (congrArg aE (dv (es:=8) (g:=fun j=>AV.int .u32 (R 64 j)) (by omega)))) (fun j _ he=>oU (F:=fun j=>dt (s j) (R 64 j)) (z:=s) he),.refl _,trivial⟩)) (by dsimp only;omega)
  ·have g21:=aa h21
   exact aq (ay.of_eq (by
                                                                                                     show AV.agg ((List.range 8).map fun j=>.int .u32 (bif Nat.blt j x20.1 then dt (s j) (R 64 j) else s j))=_
                                                                                                     exact congrArg AV.agg (List.map_congr_left fun j hj=>by rw [cD (by have:=List.mem_range.1 hj;omega)];rfl)))
theorem Ny (s b:Nat→Int) (hb:cS b 64):Pure Tryz.prog aZ 222 [.agg ((List.range 8).map fun j=>.int .u32 (s j)),dC 64 b] (.agg ((List.range 8).map fun j=>.int .u32 (Lr s b j))) :=
 Nz s b (bg b) (jW s (bg b)) (w8 b hb) (rnd s (bg b))
def ow1:FuncId→Option (List Bool):=fun f=>bif Nat.beq f 145 then some [false] else none
theorem Ag:bI Tryz.prog aZ 145 [] [.bn] .bn []:=by
 refine cg (own:=bq) (hand:=true) Tryz.func145 (by kernel_rfl) mixed (by kernel_rfl)
  (.tt (.out (.bn) [] (.bn) []))
  (by kernel_rfl) ?_
 refine gp ?_
 exact aq (ay.refl _)
theorem zN (f:Nat→Int) (n:Nat) (hn:n≤1099511627776):bI Tryz.prog aZ 145 [] [.nn (dC n f)] (.ba 0 1 0 n) [some ⟨1,n,true,.fn fun i _=>.int .u8 (f i)⟩]:=by
 refine cg (own:=bq) (hand:=true) Tryz.func145 (by kernel_rfl) mixed (by kernel_rfl)
  (.ff (.bj ((0+n)*1≤140737488355328) (.out (.ba 0 1 0 (0+n)) [some ⟨1,0+n,true,.fn fun i j=>Zb (f i)⟩] (.ba 0 1 0 n) [some ⟨1,n,true,.fn fun i x=>Zb (f i)⟩])))
  (by kernel_rfl) ?_
 refine cz ?_
 refine aD (by omega) ?_
 exact da (ay.of_eq (by simp)) (⟨⟨rfl,by simp,rfl,fun i j _ _=>ay.of_eq (by simp)⟩,trivial⟩)
theorem rF (f:Nat→Int) (n:Nat) (hn:n≤1099511627776):bI Tryz.prog aZ 145 [] [dC n f] (.ba 0 1 0 n) [some ⟨1,n,true,.fn fun i _=>.int .u8 (f i)⟩] :=
 bI.eS [] [] 1 n _ (fun h=>by subst h;exact Ag.nil 1 _) (zN f n hn)
theorem ND (f:Nat→Int) (n:Nat) (hn:n≤1099511627776) (p:Nat→Int) (ST:Nat→Nat→Int) (hp:p=dZ n f) (h0:ST 0=xH)
  (hmix:∀ (k:Nat) (q:Nat→Int),(∀ i,i<64→q i=p (64*k+i))→Pure Tryz.prog aZ 222 [.agg ((List.range 8).map fun j=>.int .u32 (ST k j)),dC 64 q] (.agg ((List.range 8).map fun j=>.int .u32 (ST (k+1) j)))) :
  Pure Tryz.prog aZ 144 [dC n f] (.agg (bf (bX (ST (aP n / 64))))):=by
 have pl:=i7 n
 refine ar (own:=ow1) Tryz.func144 (by kernel_rfl) mixed (by kernel_rfl)
  (let y0:List AV:=z32;let y1:List AV:=[Zw (ST (aP n / 64) 0),Zw (ST (aP n / 64) 1),Zw (ST (aP n / 64) 2),Zw (ST (aP n / 64) 3),Zw (ST (aP n / 64) 4),Zw (ST (aP n / 64) 5),Zw (ST (aP n / 64) 6),Zw (ST (aP n / 64) 7)];let y2:=(fun (x:{ x:Nat // x≤8 })=>aY [2,5,37,38] [.own 0 32 0 0 32,.own 1 32 0 0 32,.agg (List.map (fun j=>Zw (ST (aP n / 64) j)) (List.range 8)),Zi x.1] [some ⟨32,1,true,.bc [y0]⟩,some ⟨32,1,true,.fn fun x_1 j=>Zb (bif Nat.blt j (4*x.1) then bX (ST (aP n / 64)) j else (0:Int))⟩]);let y3:=(fun (x:{ x:Nat // x≤aP n / 64 })=>aY [2,4,3] [.own 0 32 0 0 32,.own 1 8 0 0 8,.ba 2 1 (64*x.1) (aP n - 64*x.1)] [some ⟨32,1,true,.bc [y0]⟩,some ⟨8,1,true,.bc [List.map (fun j=>Zw (ST (x.1) j)) (List.range 8)]⟩,some ⟨1,aP n,true,.fn fun i x=>Zb (p i)⟩]);let y4:=(fun (x:{ x:Nat // x≤aP n - n - 9 })=>aY [0,2,3] [.aH 1 n fun i x=>Zb (f i),.own 0 32 0 0 32,.ba 1 1 0 (n+1+x.1)] [some ⟨32,1,true,.bc [y0]⟩,some ⟨1,n+1+x.1,true,.fn fun i x=>Zb (iQ n f i)⟩]);let y5:=(fun (x:{ x:Nat // x≤aP n - n - 9 })=>aP n - n - 9 - x.1);let y6:=(fun (x:{ x:Nat // x≤aP n / 64 })=>aP n / 64 - x.1);let y7:=(fun (x:{ x:Nat // x≤8 })=>8 - x.1);let y8:=(fun (x:{ x:Nat // x≤4 })=>4 - x.1);(.gc 145 [] [.aH 1 n fun i x=>Zb (f i)] (.ba 0 1 0 n) [some ⟨1,n,true,.fn fun i x=>Zb (f i)⟩] (.bj ((n+1)*1≤140737488355328) (.loop ({ x:Nat // x≤aP n - n - 9 }) y4 y5 (⟨0,Nat.zero_le (aP n - n - 9)⟩) [0,2,3] [0,32] [.aH 1 n fun i x=>Zb (f i),.own 0 32 0 0 32,.ba 1 1 0 (n+1)] [some ⟨32,1,true,.bc [y0]⟩,some ⟨1,n+1,true,.fn fun i j=>Zb (bif Nat.blt i n then f i else aE (aQ [Zb 128] j))⟩] (fun x2=>(.br (Int.tmod (↑(n+1+x2.1):Int) (64:Int) != 56) (.bj ((n+1+x2.1+1)*1≤140737488355328) (.again (bh 0 y4 y5 x2) [0,2,3] [0,50] [.aH 1 n fun i x=>Zb (f i),.own 0 32 0 0 32,.ba 1 1 0 (n+1+x2.1+1)] [some ⟨32,1,true,.bc [y0]⟩,some ⟨1,n+1+x2.1+1,true,.fn fun i j=>Zb (bif Nat.blt i (n+1+x2.1) then iQ n f i else aE (aQ [Zb 0] j))⟩])) (.dc true 221 [Zu (wrap .u64 ((8:Int)*wrap .u64 (n:Int)))] (dC 8 (qS (wrap .u64 ((8:Int)*wrap .u64 (n:Int))))) (.bj ((n+1+x2.1+8)*1≤140737488355328) (.loop ({ x:Nat // x≤aP n / 64 }) y3 y6 (⟨0,Nat.zero_le (aP n / 64)⟩) [2,4,3] [0,106,82] [.own 0 32 0 0 32,.own 1 8 0 0 8,.ba 2 1 0 (n+1+x2.1+8)] [some ⟨32,1,true,.bc [y0]⟩,some ⟨8,1,true,.bc [[Zw (xH 0),Zw (xH 1),Zw (xH 2),Zw (xH 3),Zw (xH 4),Zw (xH 5),Zw (xH 6),Zw (xH 7)]]⟩,some ⟨1,n+1+x2.1+8,true,.fn fun i j=>Zb (bif Nat.blt i (n+1+x2.1) then iQ n f i else qS (wrap .u64 ((8:Int)*wrap .u64 (n:Int))) (i - (n+1+x2.1)))⟩] (fun x8=>(.br (decide ((↑(aP n - 64*x8.1):Int)>0)) (.bj ((0:Int)≤64∧(64:Int)≤(↑(aP n - 64*x8.1):Int)) (.sc true 222 [.agg [Zw (ST x8.1 0),Zw (ST x8.1 1),Zw (ST x8.1 2),Zw (ST x8.1 3),Zw (ST x8.1 4),Zw (ST x8.1 5),Zw (ST x8.1 6),Zw (ST x8.1 7)],.aH 1 64 fun r k=>Zb (p (r+(0+64*x8.1)))] (.agg (List.map (fun j=>Zw (ST (x8.1+1) j)) (List.range 8))) (.bj ((0:Int)≤64∧(64:Int)≤(↑(aP n - 64*x8.1):Int)) (.again (bh 0 y3 y6 x8) [2,4,3] [0,1,2] [.own 0 32 0 0 32,.own 1 8 0 0 8,.ba 2 1 (64+64*x8.1) (aP n - 64*x8.1 - 64)] [some ⟨32,1,true,.bc [y0]⟩,some ⟨8,1,true,.bc [[Zw (ST (x8.1+1) 0),Zw (ST (x8.1+1) 1),Zw (ST (x8.1+1) 2),Zw (ST (x8.1+1) 3),Zw (ST (x8.1+1) 4),Zw (ST (x8.1+1) 5),Zw (ST (x8.1+1) 6),Zw (ST (x8.1+1) 7)]]⟩,some ⟨1,aP n,true,.fn fun i j=>Zb (p i)⟩])))) (.loop ({ x:Nat // x≤8 }) y2 y7 (⟨0,Nat.zero_le 8⟩) [2,5,37,38] [0,27] [.own 0 32 0 0 32,.own 1 32 0 0 32,.agg [Zw (ST x8.1 0),Zw (ST x8.1 1),Zw (ST x8.1 2),Zw (ST x8.1 3),Zw (ST x8.1 4),Zw (ST x8.1 5),Zw (ST x8.1 6),Zw (ST x8.1 7)],Zi 0] [some ⟨32,1,true,.bc [y0]⟩,some ⟨32,1,true,.bc [y0]⟩] (fun x14=>(.br (decide ((x14.1:Int)<8)) (.bj (0≤(x14.1:Int)∧(x14.1:Int)<8) (.loop ({ x:Nat // x≤4 }) (fun x=>aY [2,5,6,37,38,7,42] [.own 0 32 0 0 32,.own 1 32 0 0 32,Zi x14.1,.agg y1,Zi x14.1,Zw (ST (aP n / 64) (x14.1)),Zi x.1] [some ⟨32,1,true,.bc [y0]⟩,some ⟨32,1,true,.fn fun x_1 j=>Zb (bif Nat.blt j (4*x14.1+x.1) then bX (ST (aP n / 64)) j else (0:Int))⟩]) y8 (⟨0,Nat.zero_le 4⟩) [2,5,6,37,38,7,42] [0,1] [.own 0 32 0 0 32,.own 1 32 0 0 32,Zi x14.1,.agg y1,Zi x14.1,Zw (aE (aQ y1 (toNat (x14.1:Int)))),Zi 0] [some ⟨32,1,true,.bc [y0]⟩,some ⟨32,1,true,.fn fun i j=>Zb (bif Nat.blt j (4*x14.1) then bX (ST (aP n / 64)) j else (0:Int))⟩] (fun x17=>(.br (decide ((x17.1:Int)<4)) (.bj ((0:Int)≤wrap .i64 ((24:Int) - wrap .i64 ((8:Int)*(x17.1:Int)))) (.bj ((0:Int)≤wrap .i64 (wrap .i64 ((4:Int)*(x14.1:Int))+(x17.1:Int))∧wrap .i64 (wrap .i64 ((4:Int)*(x14.1:Int))+(x17.1:Int))<32) (.again (bh 0 (fun x=>aY [2,5,6,37,38,7,42] [.own 0 32 0 0 32,.own 1 32 0 0 32,Zi x14.1,.agg y1,Zi x14.1,Zw (ST (aP n / 64) (x14.1)),Zi x.1] [some ⟨32,1,true,.bc [y0]⟩,some ⟨32,1,true,.fn fun x_1 j=>Zb (bif Nat.blt j (4*x14.1+x.1) then bX (ST (aP n / 64)) j else (0:Int))⟩]) y8 x17) [2,5,6,37,38,7,42] [0,1] [.own 0 32 0 0 32,.own 1 32 0 0 32,Zi x14.1,.agg y1,Zi x14.1,Zw (ST (aP n / 64) x14.1),Zi (wrap .i64 ((x17.1:Int)+1))] [some ⟨32,1,true,.bc [y0]⟩,some ⟨32,1,true,.fn fun i j=>Zb (bif Nat.beq i 0&&Nat.beq j (0+toNat (wrap .i64 (wrap .i64 ((4:Int)*(x14.1:Int))+(x17.1:Int)))) then wrap .u8 (Int.fdiv (ST (aP n / 64) x14.1) ((2:Int)^min (toNat (wrap .i64 ((24:Int) - wrap .i64 ((8:Int)*(x17.1:Int))))) 32)) else bif Nat.blt j (4*x14.1+x17.1) then bX (ST (aP n / 64)) j else (0:Int))⟩]))) (.again (bh 0 y2 y7 x14) [2,5,37,38] [0,1] [.own 0 32 0 0 32,.own 1 32 0 0 32,.agg y1,Zi (wrap .i64 ((x14.1:Int)+1))] [some ⟨32,1,true,.bc [y0]⟩,some ⟨32,1,true,.fn fun i j=>Zb (bif Nat.blt j (4*x14.1+x17.1) then bX (ST (aP n / 64)) j else (0:Int))⟩]))))) (.out (.agg [Zb (bif Nat.blt 0 (4*x14.1) then bX (ST (aP n / 64)) 0 else (0:Int)),Zb (bif Nat.blt 1 (4*x14.1) then bX (ST (aP n / 64)) 1 else (0:Int)),Zb (bif Nat.blt 2 (4*x14.1) then bX (ST (aP n / 64)) 2 else (0:Int)),Zb (bif Nat.blt 3 (4*x14.1) then bX (ST (aP n / 64)) 3 else (0:Int)),Zb (bif Nat.blt 4 (4*x14.1) then bX (ST (aP n / 64)) 4 else (0:Int)),Zb (bif Nat.blt 5 (4*x14.1) then bX (ST (aP n / 64)) 5 else (0:Int)),Zb (bif Nat.blt 6 (4*x14.1) then bX (ST (aP n / 64)) 6 else (0:Int)),Zb (bif Nat.blt 7 (4*x14.1) then bX (ST (aP n / 64)) 7 else (0:Int)),Zb (bif Nat.blt 8 (4*x14.1) then bX (ST (aP n / 64)) 8 else (0:Int)),Zb (bif Nat.blt 9 (4*x14.1) then bX (ST (aP n / 64)) 9 else (0:Int)),Zb (bif Nat.blt 10 (4*x14.1) then bX (ST (aP n / 64)) 10 else (0:Int)),Zb (bif Nat.blt 11 (4*x14.1) then bX (ST (aP n / 64)) 11 else (0:Int)),Zb (bif Nat.blt 12 (4*x14.1) then bX (ST (aP n / 64)) 12 else (0:Int)),Zb (bif Nat.blt 13 (4*x14.1) then bX (ST (aP n / 64)) 13 else (0:Int)),Zb (bif Nat.blt 14 (4*x14.1) then bX (ST (aP n / 64)) 14 else (0:Int)),Zb (bif Nat.blt 15 (4*x14.1) then bX (ST (aP n / 64)) 15 else (0:Int)),Zb (bif Nat.blt 16 (4*x14.1) then bX (ST (aP n / 64)) 16 else (0:Int)),Zb (bif Nat.blt 17 (4*x14.1) then bX (ST (aP n / 64)) 17 else (0:Int)),Zb (bif Nat.blt 18 (4*x14.1) then bX (ST (aP n / 64)) 18 else (0:Int)),Zb (bif Nat.blt 19 (4*x14.1) then bX (ST (aP n / 64)) 19 else (0:Int)),Zb (bif Nat.blt 20 (4*x14.1) then bX (ST (aP n / 64)) 20 else (0:Int)),Zb (bif Nat.blt 21 (4*x14.1) then bX (ST (aP n / 64)) 21 else (0:Int)),Zb (bif Nat.blt 22 (4*x14.1) then bX (ST (aP n / 64)) 22 else (0:Int)),Zb (bif Nat.blt 23 (4*x14.1) then bX (ST (aP n / 64)) 23 else (0:Int)),Zb (bif Nat.blt 24 (4*x14.1) then bX (ST (aP n / 64)) 24 else (0:Int)),Zb (bif Nat.blt 25 (4*x14.1) then bX (ST (aP n / 64)) 25 else (0:Int)),Zb (bif Nat.blt 26 (4*x14.1) then bX (ST (aP n / 64)) 26 else (0:Int)),Zb (bif Nat.blt 27 (4*x14.1) then bX (ST (aP n / 64)) 27 else (0:Int)),Zb (bif Nat.blt 28 (4*x14.1) then bX (ST (aP n / 64)) 28 else (0:Int)),Zb (bif Nat.blt 29 (4*x14.1) then bX (ST (aP n / 64)) 29 else (0:Int)),Zb (bif Nat.blt 30 (4*x14.1) then bX (ST (aP n / 64)) 30 else (0:Int)),Zb (bif Nat.blt 31 (4*x14.1) then bX (ST (aP n / 64)) 31 else (0:Int))]) [] (.agg (bf (bX (ST (aP n / 64))))) [])))))))))))))))
  (by kernel_rfl) ?_
 refine gZ (rF (f) (n) (by omega)) ?_
 refine aD (by omega) ?_
 refine aV (fun _ hs=>hs.le (⟨.refl _,.refl _,.refl _,trivial⟩) (⟨.refl _,Dg,trivial⟩)) (fun x2=>?_)
 try (have q2:=x2.2;dsimp only at q2)
 refine aL (fun h3=>?_) (fun h3=>?_)
 ·have g3:=aU h3
  refine aD (by omega) ?_
  exact aN (⟨x2.1+1,tu x2.2 g3⟩) (fun _ hs=>hs.le (⟨.refl _,.refl _,.refl _,trivial⟩) (⟨.refl _,aJ.mM (F:=iQ n f) rfl (D3 (by omega)).symm,trivial⟩)) (by have:=tu x2.2 g3;first|omega|(dsimp only;omega))
 ·have g3:=aR h3
  refine b9 (Fw (wrap .u64 ((8:Int)*wrap .u64 (↑n:Int))) (by (rw [dy (n:=(n:Int)) (by omega) (by omega),dy (by omega) (by omega)];omega)) (by (rw [dy (n:=(n:Int)) (by omega) (by omega),dy (by omega) (by omega)];omega))) ?_
  refine aD (by omega) ?_
  refine aV (fun _ hs=>hs.le (⟨.refl _,.refl _,ay.of_eq (congrArg (AV.ba 2 1 0) (oH x2.2 g3)),trivial⟩) (⟨.refl _,aJ.row (by show cV _ _ ((List.range 8).map fun j=>.int .u32 (ST 0 j));rw [h0];exact cV.refl _),by rw [hp];exact Fc hn (oH x2.2 g3),trivial⟩)) (fun x8=>?_)
  try (have q8:=x8.2;dsimp only at q8)
  refine aL (fun h9=>?_) (fun h9=>?_)
  ·have g9:=af h9
   refine aD (by omega) ?_
   refine aM (hmix (x8.1) (fun (i:Nat)=>p (i+(0+64*x8.1))) (by (intro i hi;exact congrArg p (by omega)))) ?_
   refine aD (by omega) ?_
   exact aN (⟨x8.1+1,by omega⟩) (fun _ hs=>hs.le (⟨.refl _,.refl _,ay.of_eq (by show AV.ba 2 1 (64+64*x8.1) (aP n - 64*x8.1 - 64)=AV.ba 2 1 (64*(x8.1+1)) (aP n - 64*(x8.1+1));congr 1<;>omega),trivial⟩) (⟨.refl _,.refl _,.refl _,trivial⟩)) (by dsimp only;omega)
  ·have g9:=aa h9
   refine aV (fun _ hs=>hs.le (⟨.refl _,.refl _,ay.of_eq (by
                                                                                                     have e:x8.1=aP n / 64:=by omega
                                                                                                     rw [e]
                                                                                                     rfl),.refl _,trivial⟩) (⟨.refl _,qY (fun j=>rfl),trivial⟩)) (fun x14=>?_)
   refine aL (fun h15=>?_) (fun h15=>?_)
   ·have g15:=af h15
    refine aD (by omega) ?_
    refine aV (fun _ hs=>hs.le (⟨.refl _,.refl _,.refl _,.refl _,.refl _,ay.of_eq (congrArg _ (congrArg aE (dv (es:=8) (g:=fun j=>AV.int .u32 (ST (aP n / 64) j)) (by omega)))),.refl _,trivial⟩) (⟨.refl _,.refl _,trivial⟩)) (fun x17=>?_)
    try (have q17:=x17.2;dsimp only at q17)
    refine aL (fun h18=>?_) (fun h18=>?_)
    ·have g18:=af h18
     refine aD (by rw [wI (n:=8*(x17.1:Int)) (by omega) (by omega),wI (by omega) (by omega)];omega) ?_
     refine aD (by rw [w4k (by omega) (by omega)];omega) ?_
     exact aN (⟨x17.1+1,by omega⟩) (fun _ hs=>hs.le (⟨.refl _,.refl _,.refl _,.refl _,.refl _,.refl _,aK (by omega),trivial⟩) (⟨.refl _,aJ.Bw (P:=fun i j=>Nat.beq i 0&&Nat.beq j (0+toNat (IntKind.wrap .i64 (IntKind.wrap .i64 (4*(x14.1:Int))+(x17.1:Int))))) (c0:=4*x14.1+x17.1) (G:=fun j=>bif Nat.blt j (4*x14.1+x17.1+1) then bX (ST (aP n / 64)) j else 0) (fun j _=>by show (true&&Nat.beq j (0+toNat _))=_;rw [w4k (by omega) (by omega),Nat.zero_add,show toNat (4*(x14.1:Int)+x17.1)=4*x14.1+x17.1 by omega];rfl) (by rw [cD (Nat.lt_succ_self _)];exact Mj (by omega) (by omega)) (fun j _ he=>jD he),trivial⟩)) (by dsimp only;omega)
    ·have g18:=aa h18
     exact aN (⟨x14.1+1,by omega⟩) (fun _ hs=>hs.le (⟨.refl _,.refl _,.refl _,aK (by omega),trivial⟩) (⟨.refl _,aJ.fnR (fun j hj=>by
                                                                                                     have e:x17.1=4:=by omega
                                                                                                     rw [e]
                                                                                                     rfl),trivial⟩)) (by dsimp only;omega)
   ·have g15:=aa h15
    exact aq (ay.of_eq (by
                                                                                                     show AV.agg ((List.range 32).map fun j=>.int .u8 (bif Nat.blt j (4*x14.1) then bX (ST (aP n / 64)) j else 0))=AV.agg ((List.range 32).map fun j=>.int .u8 (bX (ST (aP n / 64)) j))
                                                                                                     exact congrArg AV.agg (List.map_congr_left fun j hj=>by rw [cD (by have:=List.mem_range.1 hj;omega)];rfl)))
theorem Il (f:Nat→Int) (n:Nat) (hn:n≤1099511627776) (hf:cS f n):Pure Tryz.prog aZ 144 [dC n f] (.agg (bf (dT n f))) :=
 ND f n hn (dZ n f) (nw (dZ n f)) rfl rfl (fun k q hq=>Pure.via (Ny (nw (dZ n f) k) (fun i=>dZ n f (64*k+i)) (fun i _=>Cy hf _)) ⟨ay.refl _,ji rfl hq,trivial⟩)
theorem uo:Pure Tryz.prog aZ 297 [] (.aH 1 64 fun i _=>.int .u32 (kF i)):=by
 refine ar (own:=bq) Tryz.func297 (by kernel_rfl) mixed (by kernel_rfl)
  (.out (.aH 1 64 fun r k=>aQ (List.getD [[Zw 1116352408],[Zw 1899447441],[Zw 3049323471],[Zw 3921009573],[Zw 961987163],[Zw 1508970993],[Zw 2453635748],[Zw 2870763221],[Zw 3624381080],[Zw 310598401],[Zw 607225278],[Zw 1426881987],[Zw 1925078388],[Zw 2162078206],[Zw 2614888103],[Zw 3248222580],[Zw 3835390401],[Zw 4022224774],[Zw 264347078],[Zw 604807628],[Zw 770255983],[Zw 1249150122],[Zw 1555081692],[Zw 1996064986],[Zw 2554220882],[Zw 2821834349],[Zw 2952996808],[Zw 3210313671],[Zw 3336571891],[Zw 3584528711],[Zw 113926993],[Zw 338241895],[Zw 666307205],[Zw 773529912],[Zw 1294757372],[Zw 1396182291],[Zw 1695183700],[Zw 1986661051],[Zw 2177026350],[Zw 2456956037],[Zw 2730485921],[Zw 2820302411],[Zw 3259730800],[Zw 3345764771],[Zw 3516065817],[Zw 3600352804],[Zw 4094571909],[Zw 275423344],[Zw 430227734],[Zw 506948616],[Zw 659060556],[Zw 883997877],[Zw 958139571],[Zw 1322822218],[Zw 1537002063],[Zw 1747873779],[Zw 1955562222],[Zw 2024104815],[Zw 2227730452],[Zw 2361852424],[Zw 2428436474],[Zw 2756734187],[Zw 3204031479],[Zw 3329325298]] (r+0) []) k) [] (.aH 1 64 fun i x=>Zw (kF i)) [])
  (by kernel_rfl) ?_
 exact aq (ay.aH (fun r j hr hj=>by (obtain rfl:j=0:=Nat.lt_one_iff.1 hj);exact rz (l:=kL) (k:=.u32) hr))
theorem Ca (f:Nat→Int) (n:Nat) (hn:n≤1099511627776):Pure Tryz.prog aZ 298 [dC n f] (dC (aP n) (dZ n f)):=by
 have pl:=i7 n
 refine ar (own:=bq) Tryz.func298 (by kernel_rfl) mixed (by kernel_rfl)
  (let y0:=(fun (x:{ x:Nat // x≤aP n - n - 9 })=>aY [0,3] [.aH 1 n fun i x=>Zb (f i),.ba 0 1 0 (n+1+x.1)] [some ⟨1,n+1+x.1,true,.fn fun i x=>Zb (iQ n f i)⟩]);let y1:=(fun (x:{ x:Nat // x≤aP n - n - 9 })=>aP n - n - 9 - x.1);(.bj ((0+n)*1≤140737488355328) (.bj ((0+n+1)*1≤140737488355328) (.loop ({ x:Nat // x≤aP n - n - 9 }) y0 y1 (⟨0,Nat.zero_le (aP n - n - 9)⟩) [0,3] [40] [.aH 1 n fun i x=>Zb (f i),.ba 0 1 0 (0+n+1)] [some ⟨1,0+n+1,true,.fn fun i j=>Zb (bif Nat.blt i (0+n) then f i else aE (aQ [Zb 128] j))⟩] (fun x2=>(.br (Int.tmod (↑(n+1+x2.1):Int) (64:Int) != 56) (.bj ((n+1+x2.1+1)*1≤140737488355328) (.again (bh 0 y0 y1 x2) [0,3] [49] [.aH 1 n fun i x=>Zb (f i),.ba 0 1 0 (n+1+x2.1+1)] [some ⟨1,n+1+x2.1+1,true,.fn fun i j=>Zb (bif Nat.blt i (n+1+x2.1) then iQ n f i else aE (aQ [Zb 0] j))⟩])) (.dc true 332 [Zi (wrap .i64 ((8:Int)*(n:Int)))] (dC 8 (qS (wrap .i64 ((8:Int)*(n:Int))))) (.bj ((n+1+x2.1+8)*1≤140737488355328) (.out (.aH 1 (n+1+x2.1+8) fun r k=>Zb (bif Nat.blt (r+0) (n+1+x2.1) then iQ n f (r+0) else qS (wrap .i64 ((8:Int)*(n:Int))) (r+0 - (n+1+x2.1)))) [] (dC (aP n) (dZ n f)) [])))))))))
  (by kernel_rfl) ?_
 refine aD (by omega) ?_
 refine aD (by omega) ?_
 refine aV (fun _ hs=>hs.le (⟨by exact ay.refl _,ay.of_eq (congrArg (AV.ba 0 1 0) (by dsimp only;omega)),trivial⟩) (⟨by rw [show 0+n=n from Nat.zero_add n];exact Dg,trivial⟩)) (fun x2=>?_)
 try (have q2:=x2.2;dsimp only at q2)
 refine aL (fun h3=>?_) (fun h3=>?_)
 ·have g3:=aU h3
  refine aD (by omega) ?_
  exact aN (⟨x2.1+1,tu x2.2 g3⟩) (fun _ hs=>hs.le (by repeat' (first|exact trivial|(first|exact ay.refl _|exact aK (by omega)|exact ay.nil rfl|exact ay.of_eq (congrArg (AV.ba _ _ _) (by first|omega|(dsimp only;omega)))|exact ay.of_eq (congrArg (AV.int _) (by first|omega|(dsimp only;omega))))|refine And.intro ?_ ?_)) (⟨aJ.mM (F:=iQ n f) rfl (D3 (by omega)).symm,trivial⟩)) (by have:=tu x2.2 g3;first|omega|(dsimp only;omega))
 ·have g3:=aR h3
  refine b9 (Bs (wrap .i64 ((8:Int)*(↑n:Int))) (by rw [wI (by omega) (by omega)];omega) (by rw [wI (by omega) (by omega)];omega)) ?_
  refine aD (by omega) ?_
  exact aq (ji (oH x2.2 g3) (fun i hi=>by rw [wI (by omega) (by omega)];exact KF (oH x2.2 g3) i))
theorem AL (b:Nat→Int) (hb:cS b 64):Pure Tryz.prog aZ 299 [dC 64 b] (.aH 1 64 fun i _=>.int .u32 (bg b i)):=by
 refine ar (own:=bq) Tryz.func299 (by kernel_rfl) mixed (by kernel_rfl)
  (let y0:=(fun (x:{ x:Nat // x≤16 })=>aY [0,3,4] [.aH 1 64 fun i x=>Zb (b i),.ba 0 1 0 (x.1),Zi x.1] [some ⟨1,x.1,true,.fn fun q x=>Zw (qn b q)⟩]);let y1:=(fun (x:{ x:Nat // x≤48 })=>aY [3,7] [.ba 0 1 0 (16+x.1),Zi (↑(16+x.1):Int)] [some ⟨1,16+x.1,true,.fn fun q x=>Zw (bg b q)⟩]);let y2:=(fun (x:{ x:Nat // x≤16 })=>16 - x.1);let y3:=(fun (x:{ x:Nat // x≤48 })=>48 - x.1);let y4:=(fun (x:{ x:Nat // x≤4 })=>4 - x.1);(.loop ({ x:Nat // x≤16 }) y0 y2 (⟨0,Nat.zero_le 16⟩) [0,3,4] [280] [.aH 1 64 fun i x=>Zb (b i),.bn,Zi 0] [some ⟨1,0,true,.ty (999999999:TypeId) (.bc [])⟩] (fun x0=>(.br (decide ((x0.1:Int)<16)) (.loop ({ x:Nat // x≤4 }) (fun x=>aY [0,3,4,5,6] [.aH 1 64 fun i x=>Zb (b i),.ba 0 1 0 x0.1,Zi x0.1,Zw (preB b (x0.1) (x.1)),Zi x.1] [some ⟨1,x0.1,true,.fn fun i j=>Zw (qn b i)⟩]) y4 (⟨0,Nat.zero_le 4⟩) [0,3,4,5,6] [0] [.aH 1 64 fun i x=>Zb (b i),.ba 0 1 0 x0.1,Zi x0.1,Zw 0,Zi 0] [some ⟨1,x0.1,true,.fn fun i j=>Zw (qn b i)⟩] (fun x2=>(.br (decide ((x2.1:Int)<4)) (.bj ((0:Int)≤wrap .i64 (wrap .i64 ((4:Int)*(x0.1:Int))+(x2.1:Int))∧wrap .i64 (wrap .i64 ((4:Int)*(x0.1:Int))+(x2.1:Int))<64) (.again (bh 0 (fun x=>aY [0,3,4,5,6] [.aH 1 64 fun i x=>Zb (b i),.ba 0 1 0 x0.1,Zi x0.1,Zw (preB b (x0.1) (x.1)),Zi x.1] [some ⟨1,x0.1,true,.fn fun i j=>Zw (qn b i)⟩]) y4 x2) [0,3,4,5,6] [0] [.aH 1 64 fun i x=>Zb (b i),.ba 0 1 0 x0.1,Zi x0.1,Zw (wrap .u32 (wrap .u32 (preB b x0.1 x2.1*256)+wrap .u32 (b (toNat (wrap .i64 (wrap .i64 ((4:Int)*(x0.1:Int))+(x2.1:Int))))))),Zi (wrap .i64 ((x2.1:Int)+1))] [some ⟨1,x0.1,true,.fn fun i j=>Zw (qn b i)⟩])) (.bj ((x0.1+1)*4≤140737488355328) (.again (bh 0 y0 y2 x0) [0,3,4] [41] [.aH 1 64 fun i x=>Zb (b i),.ba 0 1 0 (x0.1+1),Zi (wrap .i64 ((x0.1:Int)+1))] [some ⟨1,x0.1+1,true,.fn fun i j=>Zw (bif Nat.blt i x0.1 then qn b i else aE (aQ [Zw (preB b (x0.1) (x2.1))] j))⟩]))))) (.loop ({ x:Nat // x≤48 }) y1 y3 (⟨0,Nat.zero_le 48⟩) [3,7] [0] [.ba 0 1 0 x0.1,Zi 16] [some ⟨1,x0.1,true,.fn fun i j=>Zw (qn b i)⟩] (fun x8=>(.br (decide ((↑(16+x8.1):Int)<64)) (.bj ((0:Int)≤wrap .i64 ((↑(16+x8.1):Int) - 15)∧wrap .i64 ((↑(16+x8.1):Int) - 15)<(↑(16+x8.1):Int)) (.bj ((0:Int)≤wrap .i64 ((↑(16+x8.1):Int) - 2)∧wrap .i64 ((↑(16+x8.1):Int) - 2)<(↑(16+x8.1):Int)) (.sc true 300 [Zw (bg b (toNat (wrap .i64 ((↑(16+x8.1):Int) - 15))+0)),Zi 7] (Zw (cJ (bg b (toNat (wrap .i64 ((↑(16+x8.1):Int) - 15))+0)) 7)) (.sc true 300 [Zw (bg b (toNat (wrap .i64 ((↑(16+x8.1):Int) - 15))+0)),Zi 18] (Zw (cJ (bg b (toNat (wrap .i64 ((↑(16+x8.1):Int) - 15))+0)) 18)) (.sc true 300 [Zw (bg b (toNat (wrap .i64 ((↑(16+x8.1):Int) - 2))+0)),Zi 17] (Zw (cJ (bg b (toNat (wrap .i64 ((↑(16+x8.1):Int) - 2))+0)) 17)) (.sc true 300 [Zw (bg b (toNat (wrap .i64 ((↑(16+x8.1):Int) - 2))+0)),Zi 19] (Zw (cJ (bg b (toNat (wrap .i64 ((↑(16+x8.1):Int) - 2))+0)) 19)) (.bj ((0:Int)≤wrap .i64 ((↑(16+x8.1):Int) - 16)∧wrap .i64 ((↑(16+x8.1):Int) - 16)<(↑(16+x8.1):Int)) (.bj ((0:Int)≤wrap .i64 ((↑(16+x8.1):Int) - 7)∧wrap .i64 ((↑(16+x8.1):Int) - 7)<(↑(16+x8.1):Int)) (.bj ((16+x8.1+1)*4≤140737488355328) (.again (bh 0 y1 y3 x8) [3,7] [393] [.ba 0 1 0 (16+x8.1+1),Zi (wrap .i64 ((↑(16+x8.1):Int)+1))] [some ⟨1,16+x8.1+1,true,.fn fun i j=>Zw (bif Nat.blt i (16+x8.1) then bg b i else aE (aQ [Zw (wrap .u32 (wrap .u32 (wrap .u32 (bg b (toNat (wrap .i64 ((↑(16+x8.1):Int) - 16))+0)+wrap .u32 (↑(BitVec.toNat (BitVec.ofInt 32 (wrap .u32 (↑(BitVec.toNat (BitVec.ofInt 32 (cJ (bg b (toNat (wrap .i64 ((↑(16+x8.1):Int) - 15))+0)) 7) ^^^ BitVec.ofInt 32 (cJ (bg b (toNat (wrap .i64 ((↑(16+x8.1):Int) - 15))+0)) 18))):Int)) ^^^ BitVec.ofInt 32 (Int.fdiv (bg b (toNat (wrap .i64 ((↑(16+x8.1):Int) - 15))+0)) ((2:Int)^3)))):Int))+bg b (toNat (wrap .i64 ((↑(16+x8.1):Int) - 7))+0))+wrap .u32 (↑(BitVec.toNat (BitVec.ofInt 32 (wrap .u32 (↑(BitVec.toNat (BitVec.ofInt 32 (cJ (bg b (toNat (wrap .i64 ((↑(16+x8.1):Int) - 2))+0)) 17) ^^^ BitVec.ofInt 32 (cJ (bg b (toNat (wrap .i64 ((↑(16+x8.1):Int) - 2))+0)) 19))):Int)) ^^^ BitVec.ofInt 32 (Int.fdiv (bg b (toNat (wrap .i64 ((↑(16+x8.1):Int) - 2))+0)) ((2:Int)^10)))):Int)))] j))⟩])))))))))) (.out (.aH 1 (16+x8.1) fun r k=>Zw (bg b (r+0))) [] (.aH 1 64 fun i x=>Zw (bg b i)) []))))))))
  (by kernel_rfl) ?_
 refine aV (fun _ hs=>hs.le (by repeat' (first|exact trivial|(first|exact ay.refl _|exact aK (by omega)|exact ay.nil rfl|exact ay.of_eq (congrArg (AV.ba _ _ _) (by first|omega|(dsimp only;omega)))|exact ay.of_eq (congrArg (AV.int _) (by first|omega|(dsimp only;omega))))|refine And.intro ?_ ?_)) (by repeat' (first|exact trivial|(first|exact aJ.refl _|exact aJ.bx|exact aJ.zero|exact aJ.push rfl rfl|exact aJ.ct rfl|exact aJ.len (by omega)|exact aJ.row (by repeat' (first|exact trivial|(first|exact ay.refl _|exact aK (by omega)|exact ay.nil rfl|exact ay.of_eq (congrArg (AV.ba _ _ _) (by first|omega|(dsimp only;omega)))|exact ay.of_eq (congrArg (AV.int _) (by first|omega|(dsimp only;omega))))|refine And.intro ?_ ?_)))|refine And.intro ?_ ?_))) (fun x0=>?_)
 try (have q0:=x0.2;dsimp only at q0)
 refine aL (fun h1=>?_) (fun h1=>?_)
 ·have g1:=af h1
  refine aV (fun _ hs=>hs.le (by repeat' (first|exact trivial|(first|exact ay.refl _|exact aK (by omega)|exact ay.nil rfl|exact ay.of_eq (congrArg (AV.ba _ _ _) (by first|omega|(dsimp only;omega)))|exact ay.of_eq (congrArg (AV.int _) (by first|omega|(dsimp only;omega))))|refine And.intro ?_ ?_)) (by repeat' (first|exact trivial|(first|exact aJ.refl _|exact aJ.bx|exact aJ.zero|exact aJ.push rfl rfl|exact aJ.ct rfl|exact aJ.len (by omega)|exact aJ.row (by repeat' (first|exact trivial|(first|exact ay.refl _|exact aK (by omega)|exact ay.nil rfl|exact ay.of_eq (congrArg (AV.ba _ _ _) (by first|omega|(dsimp only;omega)))|exact ay.of_eq (congrArg (AV.int _) (by first|omega|(dsimp only;omega))))|refine And.intro ?_ ?_)))|refine And.intro ?_ ?_))) (fun x2=>?_)
  try (have q2:=x2.2;dsimp only at q2)
  refine aL (fun h3=>?_) (fun h3=>?_)
  ·have g3:=af h3
   refine aD (by rw [w4k (by omega) (by omega)];omega) ?_
   exact aN (⟨x2.1+1,by omega⟩) (fun _ hs=>hs.le (⟨by exact ay.refl _,by exact ay.refl _,by exact ay.refl _,ay.of_eq (congrArg _ (by rw [w4k (by omega) (by omega),show toNat (4*(x0.1:Int)+x2.1)=4*x0.1+x2.1 by omega];have p:=yC (k:=x2.1) hb (show x0.1<16 by omega) (by omega);have q:=hb (4*x0.1+x2.1) (by omega);exact F9 p.1 p.2 q.1 q.2)),by exact aK (by omega),trivial⟩) (by repeat' (first|exact trivial|(first|exact aJ.refl _|exact aJ.bx|exact aJ.zero|exact aJ.push rfl rfl|exact aJ.ct rfl|exact aJ.len (by omega)|exact aJ.row (by repeat' (first|exact trivial|(first|exact ay.refl _|exact aK (by omega)|exact ay.nil rfl|exact ay.of_eq (congrArg (AV.ba _ _ _) (by first|omega|(dsimp only;omega)))|exact ay.of_eq (congrArg (AV.int _) (by first|omega|(dsimp only;omega))))|refine And.intro ?_ ?_)))|refine And.intro ?_ ?_))) (by (dsimp only;omega))
  ·have g3:=aa h3
   refine aD (by omega) ?_
   exact aN (⟨x0.1+1,by omega⟩) (fun _ hs=>hs.le (by repeat' (first|exact trivial|(first|exact ay.refl _|exact aK (by omega)|exact ay.nil rfl|exact ay.of_eq (congrArg (AV.ba _ _ _) (by first|omega|(dsimp only;omega)))|exact ay.of_eq (congrArg (AV.int _) (by first|omega|(dsimp only;omega))))|refine And.intro ?_ ?_)) (⟨aJ.mM (F:=qn b) rfl (by show preB b x0.1 x2.1=preB b x0.1 4;rw [show x2.1=4 by omega]),trivial⟩)) (by (dsimp only;omega))
 ·have g1:=aa h1
  refine aV (fun _ hs=>hs.le (⟨ay.of_eq (congrArg (AV.ba 0 1 0) (by dsimp only;omega)),by exact ay.refl _,trivial⟩) (⟨aJ.fnF (by dsimp only;omega) (fun i hi=>(oA (by omega)).symm),trivial⟩)) (fun x8=>?_)
  try (have q8:=x8.2;dsimp only at q8)
  refine aL (fun h9=>?_) (fun h9=>?_)
  ·have g9:=af h9
   refine aD (by rw [wI (by omega) (by omega)];omega) ?_
   refine aD (by rw [wI (by omega) (by omega)];omega) ?_
   refine aM ((fun (x:Int)=>fI x (7:Nat)) (bg b (toNat (wrap .i64 ((↑(16+x8.1):Int) - (15:Int)))+0)) (by omega) (by omega)) ?_
   refine aM ((fun (x:Int)=>fI x (18:Nat)) (bg b (toNat (wrap .i64 ((↑(16+x8.1):Int) - (15:Int)))+0)) (by omega) (by omega)) ?_
   refine aM ((fun (x:Int)=>fI x (17:Nat)) (bg b (toNat (wrap .i64 ((↑(16+x8.1):Int) - (2:Int)))+0)) (by omega) (by omega)) ?_
   refine aM ((fun (x:Int)=>fI x (19:Nat)) (bg b (toNat (wrap .i64 ((↑(16+x8.1):Int) - (2:Int)))+0)) (by omega) (by omega)) ?_
   refine aD (by rw [wI (by omega) (by omega)];omega) ?_
   refine aD (by rw [wI (by omega) (by omega)];omega) ?_
   refine aD (by omega) ?_
   exact aN (⟨x8.1+1,by omega⟩) (fun _ hs=>hs.le (⟨by exact ay.refl _,aK (i:=16+x8.1) (by omega),trivial⟩) (⟨aJ.mM (F:=bg b) rfl (by
                                                                                                     simp only [kJ (t:=x8.1) (d:=15) (k:=15) rfl (by omega) (by omega),kJ (t:=x8.1) (d:=2) (k:=2) rfl (by omega) (by omega),kJ (t:=x8.1) (d:=7) (k:=7) rfl (by omega) (by omega),kJ (t:=x8.1) (d:=16) (k:=16) rfl (by omega) (by omega),Nat.zero_add,Nat.add_zero,du]
                                                                                                     exact (tJ (j:=16+x8.1) (by omega)).symm),trivial⟩)) (by (dsimp only;omega))
  ·have g9:=aa h9
   exact aq (ay.iP (by omega) (fun i j _ _=>rfl))
theorem AJ (b:Nat→Int) (m:Nat) (hm:m=64) (hb:cS b 64):Pure Tryz.prog aZ 299 [dC m b] (.aH 1 64 fun i _=>.int .u32 (bg b i)):=by subst hm;exact AL b hb
theorem JJ (f:Nat→Int) (n:Nat) (hn:n≤1099511627776) (hf:cS f n) (w ST:Nat→Nat→Int) (R:Nat→Nat→Nat→Int) (h0:ST 0=xH) (hw:∀ (k:Nat) (q:Nat→Int) (i:Nat),(∀ i,i<64→q i=dZ n f (64*k+i))→bg q i=w k i)
  (hR:∀ k,Rnd (ST k) (w k) (R k)) (hS:∀ k i,ST (k+1) i=dt (ST k i) (R k 64 i)):Pure Tryz.prog aZ 257 [dC n f] (.agg (bf (bX (ST (aP n / 64))))):=by
 have pl:=i7 n
 refine ar (own:=bq) Tryz.func257 (by kernel_rfl) mixed (by kernel_rfl)
  (let y0:List AV:=z32;let y1:=(fun (x:{ x:Nat // x≤32 })=>aY [2,3,13,14] [.own 0 32 0 0 32,.ba 1 1 0 8,.own 2 32 0 0 32,Zi x.1] [some ⟨32,1,true,.bc [y0]⟩,some ⟨1,8,true,.fn fun q x=>Zw (ST (aP n / 64) q)⟩,some ⟨32,1,true,.fn fun x_1 j=>Zb (bif Nat.blt j (x.1) then bX (ST (aP n / 64)) j else (0:Int))⟩]);let y2:=(fun (x:{ x:Nat // x≤aP n / 64 })=>aY [2,3,4,5,6] [.own 0 32 0 0 32,.ba 1 1 0 8,.aH 1 64 fun i x=>Zw (kF i),.aH 1 (aP n) fun i x=>Zb (dZ n f i),Zi (↑(64*x.1):Int)] [some ⟨32,1,true,.bc [y0]⟩,some ⟨1,8,true,.fn fun i x_1=>Zw (ST (x.1) i)⟩]);let y3:=(fun (x:{ x:Nat // x≤aP n / 64 })=>aP n / 64 - x.1);let y4:=(fun (x:{ x:Nat // x≤64 })=>64 - x.1);let y5:=(fun (x:{ x:Nat // x≤32 })=>32 - x.1);let y6:=(fun (x:{ x:Nat // x≤8 })=>8 - x.1);(.dc true 297 [] (.aH 1 64 fun i x=>Zw (kF i)) (.dc true 298 [.aH 1 n fun i x=>Zb (f i)] (dC (aP n) (dZ n f)) (.loop ({ x:Nat // x≤aP n / 64 }) y2 y3 (⟨0,Nat.zero_le (aP n / 64)⟩) [2,3,4,5,6] [0,8] [.own 0 32 0 0 32,.ba 1 1 0 8,.aH 1 64 fun i x=>Zw (kF i),.aH 1 (aP n) fun i x=>Zb (dZ n f i),Zi 0] [some ⟨32,1,true,.bc [y0]⟩,some ⟨1,8,true,.bc [[Zw 1779033703],[Zw 3144134277],[Zw 1013904242],[Zw 2773480762],[Zw 1359893119],[Zw 2600822924],[Zw 528734635],[Zw 1541459225]]⟩] (fun x2=>(.br (decide ((↑(64*x2.1):Int)<(↑(aP n):Int))) (.bj (0≤(↑(64*x2.1):Int)∧(↑(64*x2.1):Int)≤wrap .i64 ((↑(64*x2.1):Int)+64)∧wrap .i64 ((↑(64*x2.1):Int)+64)≤(↑(aP n):Int)) (.dc true 299 [.aH 1 (toNat (wrap .i64 ((↑(64*x2.1):Int)+64)) - toNat (↑(64*x2.1):Int)) fun i j=>Zb (dZ n f (i+toNat (↑(64*x2.1):Int)))] (.aH 1 64 fun i x=>Zw (bg (fun i=>dZ n f (i+toNat (↑(64*x2.1):Int))) i)) (.bj (32≤140737488355328) (.loop ({ x:Nat // x≤64 }) (fun x=>aY [2,3,4,5,6,7,8,9] [.own 0 32 0 0 32,.ba 1 1 0 8,.aH 1 64 fun i x=>Zw (kF i),.aH 1 (aP n) fun i x=>Zb (dZ n f i),Zi (↑(64*x2.1):Int),.aH 1 64 fun i x=>Zw (w (x2.1) i),.ba 2 1 0 8,Zi x.1] [some ⟨32,1,true,.bc [y0]⟩,some ⟨1,8,true,.fn fun i j=>Zw (ST (x2.1) i)⟩,some ⟨1,8,true,.fn fun i x_1=>Zw (R (x2.1) (x.1) i)⟩]) y4 (⟨0,Nat.zero_le 64⟩) [2,3,4,5,6,7,8,9] [0,1,106] [.own 0 32 0 0 32,.ba 1 1 0 8,.aH 1 64 fun i x=>Zw (kF i),.aH 1 (aP n) fun i x=>Zb (dZ n f i),Zi (↑(64*x2.1):Int),.aH 1 64 fun i x=>Zw (bg (fun i=>dZ n f (i+toNat (↑(64*x2.1):Int))) i),.ba 2 1 0 8,Zi 0] [some ⟨32,1,true,.bc [y0]⟩,some ⟨1,8,true,.fn fun i j=>Zw (ST (x2.1) i)⟩,some ⟨1,8,true,.fn fun i j=>Zw (ST (x2.1) (i+0))⟩] (fun x7=>(.br (decide ((x7.1:Int)<64)) (.bj ((0:Int)≤7∧(7:Int)<8) (.bj ((0:Int)≤4∧(4:Int)<8) (.sc true 300 [Zw (R x2.1 x7.1 4),Zi 6] (Zw (cJ (R x2.1 x7.1 4) 6)) (.bj ((0:Int)≤4∧(4:Int)<8) (.sc true 300 [Zw (R x2.1 x7.1 4),Zi 11] (Zw (cJ (R x2.1 x7.1 4) 11)) (.bj ((0:Int)≤4∧(4:Int)<8) (.sc true 300 [Zw (R x2.1 x7.1 4),Zi 25] (Zw (cJ (R x2.1 x7.1 4) 25)) (.bj ((0:Int)≤4∧(4:Int)<8) (.bj ((0:Int)≤5∧(5:Int)<8) (.bj ((0:Int)≤4∧(4:Int)<8) (.bj ((0:Int)≤6∧(6:Int)<8) (.bj (0≤(x7.1:Int)∧(x7.1:Int)<64) (.bj (0≤(x7.1:Int)∧(x7.1:Int)<64) (.bj ((0:Int)≤0∧(0:Int)<8) (.sc true 300 [Zw (R x2.1 x7.1 0),Zi 2] (Zw (cJ (R x2.1 x7.1 0) 2)) (.bj ((0:Int)≤0∧(0:Int)<8) (.sc true 300 [Zw (R x2.1 x7.1 0),Zi 13] (Zw (cJ (R x2.1 x7.1 0) 13)) (.bj ((0:Int)≤0∧(0:Int)<8) (.sc true 300 [Zw (R x2.1 x7.1 0),Zi 22] (Zw (cJ (R x2.1 x7.1 0) 22)) (.bj ((0:Int)≤0∧(0:Int)<8) (.bj ((0:Int)≤1∧(1:Int)<8) (.bj ((0:Int)≤0∧(0:Int)<8) (.bj ((0:Int)≤2∧(2:Int)<8) (.bj ((0:Int)≤1∧(1:Int)<8) (.bj ((0:Int)≤2∧(2:Int)<8) (.bj ((0:Int)≤0∧(0:Int)<8) (.bj ((0:Int)≤1∧(1:Int)<8) (.bj ((0:Int)≤2∧(2:Int)<8) (.bj ((0:Int)≤3∧(3:Int)<8) (.bj ((0:Int)≤4∧(4:Int)<8) (.bj ((0:Int)≤5∧(5:Int)<8) (.bj ((0:Int)≤6∧(6:Int)<8) (.again (bh 0 (fun x=>aY [2,3,4,5,6,7,8,9] [.own 0 32 0 0 32,.ba 1 1 0 8,.aH 1 64 fun i x=>Zw (kF i),.aH 1 (aP n) fun i x=>Zb (dZ n f i),Zi (↑(64*x2.1):Int),.aH 1 64 fun i x=>Zw (w (x2.1) i),.ba 2 1 0 8,Zi x.1] [some ⟨32,1,true,.bc [y0]⟩,some ⟨1,8,true,.fn fun i j=>Zw (ST (x2.1) i)⟩,some ⟨1,8,true,.fn fun i x_1=>Zw (R (x2.1) (x.1) i)⟩]) y4 x7) [2,3,4,5,6,7,8,9] [0,1,907] [.own 0 32 0 0 32,.ba 1 1 0 8,.aH 1 64 fun i x=>Zw (kF i),.aH 1 (aP n) fun i x=>Zb (dZ n f i),Zi (↑(64*x2.1):Int),.aH 1 64 fun i x=>Zw (w x2.1 i),.ba 2 1 0 8,Zi (wrap .i64 ((x7.1:Int)+1))] [some ⟨32,1,true,.bc [y0]⟩,some ⟨1,8,true,.fn fun i j=>Zw (ST (x2.1) i)⟩,some ⟨1,8,true,.bc [[Zw (wrap .u32 (wrap .u32 (wrap .u32 (wrap .u32 (wrap .u32 (R x2.1 x7.1 7+wrap .u32 (↑(BitVec.toNat (BitVec.ofInt 32 (wrap .u32 (↑(BitVec.toNat (BitVec.ofInt 32 (cJ (R x2.1 x7.1 4) 6) ^^^ BitVec.ofInt 32 (cJ (R x2.1 x7.1 4) 11))):Int)) ^^^ BitVec.ofInt 32 (cJ (R x2.1 x7.1 4) 25))):Int))+wrap .u32 (↑(BitVec.toNat (BitVec.ofInt 32 (wrap .u32 (↑(BitVec.toNat (BitVec.ofInt 32 (R x2.1 x7.1 4) &&& BitVec.ofInt 32 (R x2.1 x7.1 5))):Int)) ^^^ BitVec.ofInt 32 (wrap .u32 (↑(BitVec.toNat (BitVec.ofInt 32 (wrap .u32 (↑(BitVec.toNat (BitVec.ofInt 32 (if false=true then (-1:Int) else IntKind.max IntKind.u32) ^^^ BitVec.ofInt 32 (R x2.1 x7.1 4))):Int)) &&& BitVec.ofInt 32 (R x2.1 x7.1 6))):Int)))):Int))+kF (toNat (x7.1:Int)))+w x2.1 (toNat (x7.1:Int)))+wrap .u32 (wrap .u32 (↑(BitVec.toNat (BitVec.ofInt 32 (wrap .u32 (↑(BitVec.toNat (BitVec.ofInt 32 (cJ (R x2.1 x7.1 0) 2) ^^^ BitVec.ofInt 32 (cJ (R x2.1 x7.1 0) 13))):Int)) ^^^ BitVec.ofInt 32 (cJ (R x2.1 x7.1 0) 22))):Int)+wrap .u32 (↑(BitVec.toNat (BitVec.ofInt 32 (wrap .u32 (↑(BitVec.toNat (BitVec.ofInt 32 (wrap .u32 (↑(BitVec.toNat (BitVec.ofInt 32 (R x2.1 x7.1 0) &&& BitVec.ofInt 32 (R x2.1 x7.1 1))):Int)) ^^^ BitVec.ofInt 32 (wrap .u32 (↑(BitVec.toNat (BitVec.ofInt 32 (R x2.1 x7.1 0) &&& BitVec.ofInt 32 (R x2.1 x7.1 2))):Int)))):Int)) ^^^ BitVec.ofInt 32 (wrap .u32 (↑(BitVec.toNat (BitVec.ofInt 32 (R x2.1 x7.1 1) &&& BitVec.ofInt 32 (R x2.1 x7.1 2))):Int)))):Int))))],[Zw (R (x2.1) (x7.1) (toNat (0:Int)+0))],[Zw (R (x2.1) (x7.1) (toNat (1:Int)+0))],[Zw (R (x2.1) (x7.1) (toNat (2:Int)+0))],[Zw (wrap .u32 (R x2.1 x7.1 3+wrap .u32 (wrap .u32 (wrap .u32 (wrap .u32 (R x2.1 x7.1 7+wrap .u32 (↑(BitVec.toNat (BitVec.ofInt 32 (wrap .u32 (↑(BitVec.toNat (BitVec.ofInt 32 (cJ (R x2.1 x7.1 4) 6) ^^^ BitVec.ofInt 32 (cJ (R x2.1 x7.1 4) 11))):Int)) ^^^ BitVec.ofInt 32 (cJ (R x2.1 x7.1 4) 25))):Int))+wrap .u32 (↑(BitVec.toNat (BitVec.ofInt 32 (wrap .u32 (↑(BitVec.toNat (BitVec.ofInt 32 (R x2.1 x7.1 4) &&& BitVec.ofInt 32 (R x2.1 x7.1 5))):Int)) ^^^ BitVec.ofInt 32 (wrap .u32 (↑(BitVec.toNat (BitVec.ofInt 32 (wrap .u32 (↑(BitVec.toNat (BitVec.ofInt 32 (if false=true then (-1:Int) else IntKind.max IntKind.u32) ^^^ BitVec.ofInt 32 (R x2.1 x7.1 4))):Int)) &&& BitVec.ofInt 32 (R x2.1 x7.1 6))):Int)))):Int))+kF (toNat (x7.1:Int)))+w x2.1 (toNat (x7.1:Int)))))],[Zw (R (x2.1) (x7.1) (toNat (4:Int)+0))],[Zw (R (x2.1) (x7.1) (toNat (5:Int)+0))],[Zw (R (x2.1) (x7.1) (toNat (6:Int)+0))]]⟩]))))))))))))))))))))))))))))))))) (.loop ({ x:Nat // x≤8 }) (fun x=>aY [2,3,4,5,6,8,12] [.own 0 32 0 0 32,.ba 1 1 0 8,.aH 1 64 fun i x=>Zw (kF i),.aH 1 (aP n) fun i x=>Zb (dZ n f i),Zi (↑(64*x2.1):Int),.ba 2 1 0 8,Zi x.1] [some ⟨32,1,true,.bc [y0]⟩,some ⟨1,8,true,.fn fun q x_1=>Zw (bif Nat.blt q (x.1) then ST (x2.1+1) q else ST (x2.1) q)⟩,some ⟨1,8,true,.fn fun i j=>Zw (R (x2.1) (x7.1) i)⟩]) y6 (⟨0,Nat.zero_le 8⟩) [2,3,4,5,6,8,12] [0,1,2] [.own 0 32 0 0 32,.ba 1 1 0 8,.aH 1 64 fun i x=>Zw (kF i),.aH 1 (aP n) fun i x=>Zb (dZ n f i),Zi (↑(64*x2.1):Int),.ba 2 1 0 8,Zi 0] [some ⟨32,1,true,.bc [y0]⟩,some ⟨1,8,true,.fn fun i j=>Zw (ST (x2.1) i)⟩,some ⟨1,8,true,.fn fun i j=>Zw (R (x2.1) (x7.1) i)⟩] (fun x42=>(.br (decide ((x42.1:Int)<8)) (.bj (0≤(x42.1:Int)∧(x42.1:Int)<8) (.bj (0≤(x42.1:Int)∧(x42.1:Int)<8) (.bj (0≤(x42.1:Int)∧(x42.1:Int)<8) (.again (bh 0 (fun x=>aY [2,3,4,5,6,8,12] [.own 0 32 0 0 32,.ba 1 1 0 8,.aH 1 64 fun i x=>Zw (kF i),.aH 1 (aP n) fun i x=>Zb (dZ n f i),Zi (↑(64*x2.1):Int),.ba 2 1 0 8,Zi x.1] [some ⟨32,1,true,.bc [y0]⟩,some ⟨1,8,true,.fn fun q x_1=>Zw (bif Nat.blt q (x.1) then ST (x2.1+1) q else ST (x2.1) q)⟩,some ⟨1,8,true,.fn fun i j=>Zw (R (x2.1) (x7.1) i)⟩]) y6 x42) [2,3,4,5,6,8,12] [0,1,2] [.own 0 32 0 0 32,.ba 1 1 0 8,.aH 1 64 fun i x=>Zw (kF i),.aH 1 (aP n) fun i x=>Zb (dZ n f i),Zi (↑(64*x2.1):Int),.ba 2 1 0 8,Zi (wrap .i64 ((x42.1:Int)+1))] [some ⟨32,1,true,.bc [y0]⟩,some ⟨1,8,true,.fn fun i j=>Zw (bif Nat.beq i (toNat (x42.1:Int)+0)&&(Nat.ble 0 j&&Nat.blt j 1) then wrap .u32 ((bif Nat.blt (toNat (x42.1:Int)+0) x42.1 then ST (x2.1+1) (toNat (x42.1:Int)+0) else ST x2.1 (toNat (x42.1:Int)+0))+R x2.1 x7.1 (toNat (x42.1:Int)+0)) else bif Nat.blt i x42.1 then ST (x2.1+1) i else ST x2.1 i)⟩,some ⟨1,8,true,.fn fun i j=>Zw (R (x2.1) (x7.1) i)⟩])))) (.again (bh 0 y2 y3 x2) [2,3,4,5,6] [0,1] [.own 0 32 0 0 32,.ba 1 1 0 8,.aH 1 64 fun i x=>Zw (kF i),.aH 1 (aP n) fun i x=>Zb (dZ n f i),Zi (wrap .i64 ((↑(64*x2.1):Int)+64))] [some ⟨32,1,true,.bc [y0]⟩,some ⟨1,8,true,.fn fun i j=>Zw (bif Nat.blt i x42.1 then ST (x2.1+1) i else ST x2.1 i)⟩])))))))))) (.loop ({ x:Nat // x≤32 }) y1 y5 (⟨0,Nat.zero_le 32⟩) [2,3,13,14] [0,1,34] [.own 0 32 0 0 32,.ba 1 1 0 8,.own 2 32 0 0 32,Zi 0] [some ⟨32,1,true,.bc [y0]⟩,some ⟨1,8,true,.fn fun i j=>Zw (ST (x2.1) i)⟩,some ⟨32,1,true,.bc [y0]⟩] (fun x49=>(.br (decide ((x49.1:Int)<32)) (.bj ((0:Int)≤wrap .i64 (Int.tdiv (x49.1:Int) (4:Int))∧wrap .i64 (Int.tdiv (x49.1:Int) (4:Int))<8) (.bj ((0:Int)≤wrap .i64 ((24:Int) - wrap .i64 ((8:Int)*Int.tmod (x49.1:Int) (4:Int)))) (.bj (0≤(x49.1:Int)∧(x49.1:Int)<32) (.again (bh 0 y1 y5 x49) [2,3,13,14] [0,1,2] [.own 0 32 0 0 32,.ba 1 1 0 8,.own 2 32 0 0 32,Zi (wrap .i64 ((x49.1:Int)+1))] [some ⟨32,1,true,.bc [y0]⟩,some ⟨1,8,true,.fn fun i j=>Zw (ST (aP n / 64) i)⟩,some ⟨32,1,true,.fn fun i j=>Zb (bif Nat.beq i 0&&Nat.beq j (0+toNat (x49.1:Int)) then wrap .u8 (Int.fdiv (ST (aP n / 64) (toNat (wrap .i64 (Int.tdiv (x49.1:Int) (4:Int)))+0)) ((2:Int)^min (toNat (wrap .i64 ((24:Int) - wrap .i64 ((8:Int)*Int.tmod (x49.1:Int) (4:Int))))) 32)) else bif Nat.blt j x49.1 then bX (ST (aP n / 64)) j else (0:Int))⟩])))) (.out (.agg [Zb (bif Nat.blt 0 x49.1 then bX (ST (aP n / 64)) 0 else (0:Int)),Zb (bif Nat.blt 1 x49.1 then bX (ST (aP n / 64)) 1 else (0:Int)),Zb (bif Nat.blt 2 x49.1 then bX (ST (aP n / 64)) 2 else (0:Int)),Zb (bif Nat.blt 3 x49.1 then bX (ST (aP n / 64)) 3 else (0:Int)),Zb (bif Nat.blt 4 x49.1 then bX (ST (aP n / 64)) 4 else (0:Int)),Zb (bif Nat.blt 5 x49.1 then bX (ST (aP n / 64)) 5 else (0:Int)),Zb (bif Nat.blt 6 x49.1 then bX (ST (aP n / 64)) 6 else (0:Int)),Zb (bif Nat.blt 7 x49.1 then bX (ST (aP n / 64)) 7 else (0:Int)),Zb (bif Nat.blt 8 x49.1 then bX (ST (aP n / 64)) 8 else (0:Int)),Zb (bif Nat.blt 9 x49.1 then bX (ST (aP n / 64)) 9 else (0:Int)),Zb (bif Nat.blt 10 x49.1 then bX (ST (aP n / 64)) 10 else (0:Int)),Zb (bif Nat.blt 11 x49.1 then bX (ST (aP n / 64)) 11 else (0:Int)),Zb (bif Nat.blt 12 x49.1 then bX (ST (aP n / 64)) 12 else (0:Int)),Zb (bif Nat.blt 13 x49.1 then bX (ST (aP n / 64)) 13 else (0:Int)),Zb (bif Nat.blt 14 x49.1 then bX (ST (aP n / 64)) 14 else (0:Int)),Zb (bif Nat.blt 15 x49.1 then bX (ST (aP n / 64)) 15 else (0:Int)),Zb (bif Nat.blt 16 x49.1 then bX (ST (aP n / 64)) 16 else (0:Int)),Zb (bif Nat.blt 17 x49.1 then bX (ST (aP n / 64)) 17 else (0:Int)),Zb (bif Nat.blt 18 x49.1 then bX (ST (aP n / 64)) 18 else (0:Int)),Zb (bif Nat.blt 19 x49.1 then bX (ST (aP n / 64)) 19 else (0:Int)),Zb (bif Nat.blt 20 x49.1 then bX (ST (aP n / 64)) 20 else (0:Int)),Zb (bif Nat.blt 21 x49.1 then bX (ST (aP n / 64)) 21 else (0:Int)),Zb (bif Nat.blt 22 x49.1 then bX (ST (aP n / 64)) 22 else (0:Int)),Zb (bif Nat.blt 23 x49.1 then bX (ST (aP n / 64)) 23 else (0:Int)),Zb (bif Nat.blt 24 x49.1 then bX (ST (aP n / 64)) 24 else (0:Int)),Zb (bif Nat.blt 25 x49.1 then bX (ST (aP n / 64)) 25 else (0:Int)),Zb (bif Nat.blt 26 x49.1 then bX (ST (aP n / 64)) 26 else (0:Int)),Zb (bif Nat.blt 27 x49.1 then bX (ST (aP n / 64)) 27 else (0:Int)),Zb (bif Nat.blt 28 x49.1 then bX (ST (aP n / 64)) 28 else (0:Int)),Zb (bif Nat.blt 29 x49.1 then bX (ST (aP n / 64)) 29 else (0:Int)),Zb (bif Nat.blt 30 x49.1 then bX (ST (aP n / 64)) 30 else (0:Int)),Zb (bif Nat.blt 31 x49.1 then bX (ST (aP n / 64)) 31 else (0:Int))]) [] (.agg (bf (bX (ST (aP n / 64))))) []))))))))))
  (by kernel_rfl) ?_
 refine b9 (uo) ?_
 refine b9 (Ca (f) (n) (by omega)) ?_
 refine aV (fun _ hs=>hs.le (by repeat' (first|exact trivial|(first|exact ay.refl _|exact aK (by omega)|exact ay.nil rfl|exact ay.of_eq (congrArg (AV.ba _ _ _) (by first|omega|(dsimp only;omega)))|exact ay.of_eq (congrArg (AV.int _) (by first|omega|(dsimp only;omega))))|refine And.intro ?_ ?_)) (⟨by exact aJ.refl _,NU h0,trivial⟩)) (fun x2=>?_)
 try (have q2:=x2.2;dsimp only at q2)
 refine aL (fun h3=>?_) (fun h3=>?_)
 ·have g3:=af h3
  refine aD (by rw [w64 hn (by omega)];omega) ?_
  refine b9 (AJ (fun (i:Nat)=>dZ n f (i+toNat (↑(64*x2.1):Int))) (toNat (wrap .i64 ((↑(64*x2.1):Int)+(64:Int))) - toNat (↑(64*x2.1):Int)) (by (rw [w64 hn (by omega)];omega)) (by exact fun i _=>Cy hf _)) ?_
  refine aD (by omega) ?_
  refine aV (fun _ hs=>hs.le (⟨by exact ay.refl _,by exact ay.refl _,by exact ay.refl _,by exact ay.refl _,by exact ay.refl _,ay.iP rfl (fun i j _ _=>congrArg _ (hw x2.1 _ i (fun q _=>congrArg (dZ n f) (by (try simp only [Int.toNat_natCast]);omega)))),by exact ay.refl _,by exact ay.refl _,trivial⟩) (⟨by exact aJ.refl _,by exact aJ.refl _,aJ.fnF rfl (fun i _=>((hR x2.1).z i).symm),trivial⟩)) (fun x7=>?_)
  try (have q7:=x7.2;dsimp only at q7)
  refine aL (fun h8=>?_) (fun h8=>?_)
  ·have g8:=af h8
   refine aD (by omega) ?_
   refine aD (by omega) ?_
   refine aM ((fun (x:Int)=>fI x (6:Nat)) (R x2.1 x7.1 (4)) (by omega) (by omega)) ?_
   refine aD (by omega) ?_
   refine aM ((fun (x:Int)=>fI x (11:Nat)) (R x2.1 x7.1 (4)) (by omega) (by omega)) ?_
   refine aD (by omega) ?_
   refine aM ((fun (x:Int)=>fI x (25:Nat)) (R x2.1 x7.1 (4)) (by omega) (by omega)) ?_
   refine aD (by omega) ?_
   refine aD (by omega) ?_
   refine aD (by omega) ?_
   refine aD (by omega) ?_
   refine aD (by omega) ?_
   refine aD (by omega) ?_
   refine aD (by omega) ?_
   refine aM ((fun (x:Int)=>fI x (2:Nat)) (R x2.1 x7.1 (0)) (by omega) (by omega)) ?_
   refine aD (by omega) ?_
   refine aM ((fun (x:Int)=>fI x (13:Nat)) (R x2.1 x7.1 (0)) (by omega) (by omega)) ?_
   refine aD (by omega) ?_
   refine aM ((fun (x:Int)=>fI x (22:Nat)) (R x2.1 x7.1 (0)) (by omega) (by omega)) ?_
   refine aD (by omega) ?_
   refine aD (by omega) ?_
   refine aD (by omega) ?_
   refine aD (by omega) ?_
   refine aD (by omega) ?_
   refine aD (by omega) ?_
   refine aD (by omega) ?_
   refine aD (by omega) ?_
   refine aD (by omega) ?_
   refine aD (by omega) ?_
   refine aD (by omega) ?_
   refine aD (by omega) ?_
   refine aD (by omega) ?_
   exact aN (⟨x7.1+1,by omega⟩) (fun _ hs=>hs.le (by repeat' (first|exact trivial|(first|exact ay.refl _|exact aK (by omega)|exact ay.nil rfl|exact ay.of_eq (congrArg (AV.ba _ _ _) (by first|omega|(dsimp only;omega)))|exact ay.of_eq (congrArg (AV.int _) (by first|omega|(dsimp only;omega))))|refine And.intro ?_ ?_)) (⟨by exact aJ.refl _,by exact aJ.refl _,Kg (hR x2.1) (by rw [(hR x2.1).s0];simp only [Nat.zero_add,Int.toNat_natCast,Nat.add_zero];rfl) (by rw [(hR x2.1).s4];simp only [Nat.zero_add,Int.toNat_natCast,Nat.add_zero];rfl),trivial⟩)) (by (dsimp only;omega))
  ·have g8:=aa h8
   refine aV (fun _ hs=>hs.le (by repeat' (first|exact trivial|(first|exact ay.refl _|exact aK (by omega)|exact ay.nil rfl|exact ay.of_eq (congrArg (AV.ba _ _ _) (by first|omega|(dsimp only;omega)))|exact ay.of_eq (congrArg (AV.int _) (by first|omega|(dsimp only;omega))))|refine And.intro ?_ ?_)) (by repeat' (first|exact trivial|(first|exact aJ.refl _|exact aJ.bx|exact aJ.zero|exact aJ.push rfl rfl|exact aJ.ct rfl|exact aJ.len (by omega)|exact aJ.row (by repeat' (first|exact trivial|(first|exact ay.refl _|exact aK (by omega)|exact ay.nil rfl|exact ay.of_eq (congrArg (AV.ba _ _ _) (by first|omega|(dsimp only;omega)))|exact ay.of_eq (congrArg (AV.int _) (by first|omega|(dsimp only;omega))))|refine And.intro ?_ ?_)))|refine And.intro ?_ ?_))) (fun x42=>?_)
   try (have q42:=x42.2;dsimp only at q42)
   refine aL (fun h43=>?_) (fun h43=>?_)
   ·have g43:=af h43
    refine aD (by omega) ?_
    refine aD (by omega) ?_
    refine aD (by omega) ?_
    exact aN (⟨x42.1+1,by omega⟩) (fun _ hs=>hs.le (by repeat' (first|exact trivial|(first|exact ay.refl _|exact aK (by omega)|exact ay.nil rfl|exact ay.of_eq (congrArg (AV.ba _ _ _) (by first|omega|(dsimp only;omega)))|exact ay.of_eq (congrArg (AV.int _) (by first|omega|(dsimp only;omega))))|refine And.intro ?_ ?_)) (⟨by exact aJ.refl _,aJ.M2 (i0:=x42.1) (G:=fun q=>bif Nat.blt q (x42.1+1) then ST (x2.1+1) q else ST x2.1 q) (by
                                                                                                     have e:x7.1=64:=by omega
                                                                                                     simp only [Nat.zero_add,Nat.add_zero,Int.toNat_natCast,dn (Nat.le_refl x42.1),cD (Nat.lt_succ_self x42.1),cond_true,cond_false,e]
                                                                                                     exact (hS x2.1 x42.1).symm) (fun q _ he=>oU (F:=ST (x2.1+1)) (z:=ST x2.1) he),by exact aJ.refl _,trivial⟩)) (by (dsimp only;omega))
   ·have g43:=aa h43
    exact aN (⟨x2.1+1,by omega⟩) (fun _ hs=>hs.le (⟨by exact ay.refl _,by exact ay.refl _,by exact ay.refl _,by exact ay.refl _,ay.of_eq (congrArg _ (w64 hn (by omega))),trivial⟩) (⟨by exact aJ.refl _,aJ.fnF rfl (fun q hq=>by rw [cD (by omega)];rfl),trivial⟩)) (by (dsimp only;omega))
 ·have g3:=aa h3
  refine aV (fun _ hs=>hs.le (by repeat' (first|exact trivial|(first|exact ay.refl _|exact aK (by omega)|exact ay.nil rfl|exact ay.of_eq (congrArg (AV.ba _ _ _) (by first|omega|(dsimp only;omega)))|exact ay.of_eq (congrArg (AV.int _) (by first|omega|(dsimp only;omega))))|refine And.intro ?_ ?_)) (⟨by exact aJ.refl _,aJ.fnF rfl (fun q _=>by
                                                                                                     have e:x2.1=aP n / 64:=by omega
                                                                                                     rw [e]),qY (fun j=>rfl),trivial⟩)) (fun x49=>?_)
  refine aL (fun h50=>?_) (fun h50=>?_)
  ·have g50:=af h50
   refine aD (by rw [(q4 (by omega)).1];omega) ?_
   refine aD (by rw [(q4 (by omega)).2];omega) ?_
   refine aD (by omega) ?_
   exact aN (⟨x49.1+1,by omega⟩) (fun _ hs=>hs.le (by repeat' (first|exact trivial|(first|exact ay.refl _|exact aK (by omega)|exact ay.nil rfl|exact ay.of_eq (congrArg (AV.ba _ _ _) (by first|omega|(dsimp only;omega)))|exact ay.of_eq (congrArg (AV.int _) (by first|omega|(dsimp only;omega))))|refine And.intro ?_ ?_)) (⟨by exact aJ.refl _,by exact aJ.refl _,aJ.Bw (P:=fun i j=>Nat.beq i 0&&Nat.beq j (0+toNat ((x49.1:Nat):Int))) (c0:=x49.1) (G:=fun j=>bif Nat.blt j (x49.1+1) then bX (ST (aP n / 64)) j else 0) (fun j _=>by show (true&&Nat.beq j (0+x49.1))=_;rw [Nat.zero_add];rfl) (by rw [cD (Nat.lt_succ_self _)];exact NB (by omega)) (fun j _ he=>jD he),trivial⟩)) (by (dsimp only;omega))
  ·have g50:=aa h50
   exact aq (ay.of_eq (by
                                                                                                     show AV.agg ((List.range 32).map fun j=>.int .u8 (bif Nat.blt j x49.1 then bX (ST (aP n / 64)) j else 0))=AV.agg ((List.range 32).map fun j=>.int .u8 (bX (ST (aP n / 64)) j))
                                                                                                     exact congrArg AV.agg (List.map_congr_left fun j hj=>by rw [cD (by have:=List.mem_range.1 hj;omega)];rfl)))
theorem Dy (f:Nat→Int) (n:Nat) (hn:n≤1099511627776) (hf:cS f n):Pure Tryz.prog aZ 257 [dC n f] (.agg (bf (dT n f))) :=
 JJ f n hn hf (fun k=>bg (fun i=>dZ n f (64*k+i))) (nw (dZ n f)) (fun k=>jW (nw (dZ n f) k) (bg (fun i=>dZ n f (64*k+i)))) rfl (fun _ _ i h=>wY h i) (fun _=>rnd _ _) (fun _ _=>rfl)
end Go.Proofs.YtpefjkpdniiaoaaGreatDoor

namespace Go.Sp
open Go.IntKind (wrap)
open Int (toNat)
open Go Go.Am
def gw (s:ByteArray) (i:Nat):Int:=(s.data.toList.getD i 0).toNat
def Ed (t f:Nat→Int) (i:Nat):Int:=bif Nat.blt i 64 then bif Nat.blt i 32 then t i else t (i - 32) else f (i - 64)
def et (s:ByteArray) (n:Nat) (f:Nat→Int):Nat→Int:=dT (64+n) (Ed (dT s.size (gw s)) f)
theorem HG (s:ByteArray) (n:Nat):cS (gw s) n:=fun i _=>by
 have:=(s.data.toList.getD i 0).toNat_lt
 grind [gw]
theorem pA (n:Nat) (f:Nat→Int) (i:Nat):0≤dT n f i∧dT n f i<256:=by simp [dT,bX,Int.emod_nonneg,Int.emod_lt_of_pos]
theorem AS (s:ByteArray) (n:Nat) (f:Nat→Int) (hf:cS f n):cS (Ed (dT s.size (gw s)) f) (64+n):=fun i hi=>by
 unfold Ed
 by_cases h:i<64
 ·rw [cD h]
  cases Nat.blt i 32<;>simp_all [pA]
 ·rw [dn (Nat.le_of_not_lt h)]
  exact hf _ (by omega)
def cE (f:Nat→Int) (m:Int):Nat→Int
 | 0=>0
 | i+1=>(cE f m i*256+f i)%m
theorem oY {f:Nat→Int} {m:Int} (hm:0<m):∀ i,0≤cE f m i∧cE f m i<m
 | 0=>⟨Int.le_refl _,hm⟩
 | _+1=>⟨Int.emod_nonneg _ (by omega),Int.emod_lt_of_pos _ hm⟩
theorem D5 {f:Nat→Int} {m:Int} (i:Nat):(cE f m i*(256%m)%m+f i)%m=cE f m (i+1):=by
 show _=(cE f m i*256+f i)%m
 rw [Int.emod_add_emod,← Int.emod_add_emod (cE f m i*(256%m)),Int.mul_emod,Int.emod_emod_of_dvd _ (Int.dvd_refl m),← Int.mul_emod,Int.emod_add_emod]
theorem BL {m:Int} (hm:0<m) (hm':m<2305843009213693952):Int.tmod 256 m=256%m∧0≤256%m∧256%m<m:=by
 have h1:0≤256%m:=Int.emod_nonneg _ (by omega)
 simp_all [Int.emod_lt_of_pos,bY]
theorem I0 {f:Nat→Int} {m:Int} (hm:0<m) (hm':m<2305843009213693952) (hf:cS f 32) {i:Nat} (hi:i<16):IntKind.wrap .i64 (cE f m i*Int.tmod 256 m%m+IntKind.wrap .i64 (aE (aQ (bf f) (0+(i:Int).toNat))))%m=cE f m (i+1):=by
 have a1:0≤cE f m i*(256%m)%m:=Int.emod_nonneg _ (by omega)
 have a2:cE f m i*(256%m)%m<m:=Int.emod_lt_of_pos _ hm
 have a3:=hf i (by omega)
 rw [Int.toNat_natCast,Nat.zero_add,eV (by omega),(BL hm hm').1]
 grind [IntKind.wrap,wI,D5]
theorem zC {n:Nat} {f g:Nat→Int} (h:∀ i,i<n→f i=g i):dT n f=dT n g:=by
 have e:dZ n f=dZ n g:=funext fun i=>by grind [iQ,dn,Nat.le_of_not_lt,dZ]
 grind [dT]
theorem Bv {t f:Nat→Int} (i:Nat):(bif Nat.blt (i+0) 64 then bif Nat.blt (i+0) 32 then aE (aQ (bf t) (0+(0+(i+0)))) else aE (aQ (bf t) (0+(0+(i+0 - 32)))) else f (i+0 - 64))=Ed t f i:=by
 unfold Ed
 rw [Nat.add_zero]
 by_cases h:i<64
 ·rw [cD h]
  by_cases h':i<32
  ·simp_all [cD,Nat.zero_add,eV]
  ·have e:=eV (g:=t) (show i - 32<32 by omega)
   simp_all [dn,Nat.zero_add]
 grind [dn,Nat.le_of_not_lt]
theorem uZ {f g:Nat→Int} {n:Nat} (h:∀ i,f i=g i) (hg:cS g n):cS f n:=fun i hi=>by
 rw [h i]
 exact hg i hi
def iJ (x m:Int):Nat→Int
 | 0=>x
 | k+1=>(iJ x m k+iJ x m k)%m
theorem JC {x m:Int} (hm:0<m) (h:0≤x∧x<m):∀ k,0≤iJ x m k∧iJ x m k<m
 | 0=>h
 | _+1=>⟨Int.emod_nonneg _ (by omega),Int.emod_lt_of_pos _ hm⟩
theorem A5 {x m:Int} (h:0≤x∧x<m):∀ k,iJ x m k=x*2^k%m
 | 0=>by
  show x=_
  simp_all [Int.pow_zero,Int.mul_one,Int.emod_eq_of_lt]
 | k+1=>by
  show (iJ x m k+iJ x m k)%m=_
  rw [A5 h k,← Int.add_emod,Int.pow_succ,← Int.mul_assoc]
  congr 1
  omega
theorem GW {f:Nat→Int} {m:Int} (hm:0<m) (i:Nat):(iJ (cE f m i) m 8+f i%m)%m=cE f m (i+1):=by
 rw [A5 (oY hm i),← Int.add_emod]
 rfl
theorem FY {f:Nat→Int} {m:Int} (hm:0<m) (hf:cS f 32) {i k:Nat} (hi:i<16) (hk:k=8) :
  (iJ (cE f m i) m k+Int.tmod (IntKind.wrap .i64 (aE (aQ (bf f) (0+(0+(i:Int).toNat))))) m)%m=cE f m (i+1):=by
 have a3:=hf i (by omega)
 subst hk
 rw [Int.toNat_natCast,Nat.zero_add,Nat.zero_add,eV (by omega),wI (n:=f i) (by omega) (by omega),bY (by omega),GW hm]
theorem FE {f:Nat→Int} {m:Int} (hm:0<m) (hf:cS f 32) {i:Nat} (hi:i<16) :
  0≤Int.tmod (IntKind.wrap .i64 (aE (aQ (bf f) (0+(0+(i:Int).toNat))))) m∧Int.tmod (IntKind.wrap .i64 (aE (aQ (bf f) (0+(0+(i:Int).toNat))))) m<m:=by
 have a3:=hf i (by omega)
 rw [Int.toNat_natCast,Nat.zero_add,Nat.zero_add,eV (by omega),wI (n:=f i) (by omega) (by omega),bY (by omega)]
 exact ⟨Int.emod_nonneg _ (by omega),Int.emod_lt_of_pos _ hm⟩
end Go.Sp

namespace Go.Proofs.YtpefjkpdniiaoaaGreatDoor
open Go.IntKind (wrap)
open Int (toNat)
open Go Go.Am Go.Sp
set_option maxRecDepth 100000
def ow2:FuncId→Option (List Bool):=fun f=>bif Nat.beq f 145||Nat.beq f 258 then some [false] else none
theorem Dl (f g:Nat→Int) (n:Nat) (hn:n≤1099511627776):bI Tryz.prog aZ 258 [] [dC n f,.agg (bf g)] (.ba 0 1 0 (n+32)) [some ⟨1,n+32,true,.fn fun i _=>.int .u8 (bif Nat.blt i n then f i else g (i - n))⟩]:=by
 refine cg (own:=bq) (hand:=true) Tryz.func258 (by kernel_rfl) mixed (by kernel_rfl)
  (let y0:=(fun (x:{ x:Nat // x≤32 })=>aY [3,5,6] [.own 0 32 0 0 32,.ba 1 1 0 (n+x.1),Zi x.1] [some ⟨32,1,true,.bc [bf g]⟩,some ⟨1,n+x.1,true,.fn fun i x=>Zb (bif Nat.blt i n then f i else g (i - n))⟩]);let y1:=(fun (x:{ x:Nat // x≤32 })=>32 - x.1);(.bj ((0+n)*1≤140737488355328) (.loop ({ x:Nat // x≤32 }) y0 y1 (⟨0,Nat.zero_le 32⟩) [3,5,6] [0,32] [.own 0 32 0 0 32,.ba 1 1 0 (0+n),Zi 0] [some ⟨32,1,true,.bc [bf g]⟩,some ⟨1,0+n,true,.fn fun i j=>Zb (f i)⟩] (fun x1=>(.br (decide ((x1.1:Int)<32)) (.bj (0≤(x1.1:Int)∧(x1.1:Int)<32) (.bj ((n+x1.1+1)*1≤140737488355328) (.again (bh 0 y0 y1 x1) [3,5,6] [0,58] [.own 0 32 0 0 32,.ba 1 1 0 (n+x1.1+1),Zi (wrap .i64 ((x1.1:Int)+1))] [some ⟨32,1,true,.bc [bf g]⟩,some ⟨1,n+x1.1+1,true,.fn fun i j=>Zb (bif Nat.blt i (n+x1.1) then bif Nat.blt i n then f i else g (i - n) else aE (aQ [Zb (aE (bA.at (Ob.f (Ob.seen ⟨32,1,true,.bc [bf g]⟩)) 0 (0+toNat (↑(x1.1):Int))))] j))⟩]))) (.out (.ba 0 1 0 (n+x1.1)) [some ⟨1,n+x1.1,true,.fn fun i j=>Zb (bif Nat.blt i n then f i else g (i - n))⟩] (.ba 0 1 0 (n+32)) [some ⟨1,n+32,true,.fn fun i x=>Zb (bif Nat.blt i n then f i else g (i - n))⟩]))))))
  (by kernel_rfl) ?_
 refine aD (by omega) ?_
 refine aV (fun _ hs=>hs.le (⟨.refl _,ay.of_eq (congrArg (AV.ba 1 1 0) (by dsimp only;omega)),.refl _,trivial⟩) (⟨.refl _,EV,trivial⟩)) (fun x1=>?_)
 try (have q1:=x1.2;dsimp only at q1)
 refine aL (fun h2=>?_) (fun h2=>?_)
 ·have g2:=af h2
  refine aD (by omega) ?_
  refine aD (by omega) ?_
  exact aN (⟨x1.1+1,by omega⟩) (fun _ hs=>hs.le (⟨.refl _,ay.of_eq (congrArg (AV.ba 1 1 0) (by dsimp only;omega)),aK (by omega),trivial⟩) (⟨.refl _,aJ.mM (F:=fun i=>bif Nat.blt i n then f i else g (i - n)) (by dsimp only;omega) (by show aE (aQ (bf g) (0+x1.1))=bif Nat.blt (n+x1.1) n then f (n+x1.1) else g (n+x1.1 - n);rw [Nat.zero_add,dn (by omega),eV (by omega)];show g _=g _;congr 1;omega),trivial⟩)) (by dsimp only;omega)
 ·have g2:=aa h2
  exact da (ay.of_eq (congrArg (AV.ba 0 1 0) (by omega))) (⟨⟨rfl,by simp only;omega,rfl,fun i j _ _=>ay.refl _⟩,trivial⟩)
theorem Gy (g:Nat→Int):bI Tryz.prog aZ 258 [] [.bn,.agg (bf g)] (.ba 0 1 0 32) [some ⟨1,32,true,.fn fun i _=>.int .u8 (g i)⟩] :=
 (Dl (fun _=>0) g 0 (by omega)).via ⟨ay.bn,ay.refl _,trivial⟩
theorem fV (s:ByteArray) (hs:s.size≤100) (f:Nat→Int) (n:Nat) (hn:n≤1099511627000) (hf:cS f n):Pure Tryz.prog aZ 205 [.str s,dC n f] (.agg (bf (et s n f))):=by
 refine ar (own:=ow2) Tryz.func205 (by kernel_rfl) mixed (by kernel_rfl)
  (let y0:AV:=(.agg (bf (dT (64+n) fun i=>bif Nat.blt (i+0) 64 then bif Nat.blt (i+0) 32 then dT (ByteArray.size s) (fun i=>(↑(UInt8.toNat (List.getD (Array.toList (ByteArray.data s)) i (0:UInt8))):Int)) (i+0+0) else dT (ByteArray.size s) (fun i=>(↑(UInt8.toNat (List.getD (Array.toList (ByteArray.data s)) i (0:UInt8))):Int)) (i+0 - 32) else f (i+0 - 64))));(.sc true 257 [.aH 1 (ByteArray.size s) fun i x=>Zb (↑(UInt8.toNat (List.getD (Array.toList (ByteArray.data s)) i (0:UInt8))):Int)] (.agg (bf (dT (ByteArray.size s) fun i=>(↑(UInt8.toNat (List.getD (Array.toList (ByteArray.data s)) i (0:UInt8))):Int)))) (.gc 258 [] [.bn,.agg (bf (dT (ByteArray.size s) fun i=>(↑(UInt8.toNat (List.getD (Array.toList (ByteArray.data s)) i (0:UInt8))):Int)))] (.ba 0 1 0 32) [some ⟨1,32,true,.fn fun i x=>Zb (dT (ByteArray.size s) (fun i=>(↑(UInt8.toNat (List.getD (Array.toList (ByteArray.data s)) i (0:UInt8))):Int)) i)⟩] (.gc 258 [] [.aH 1 32 fun r k=>Zb (dT (ByteArray.size s) (fun i=>(↑(UInt8.toNat (List.getD (Array.toList (ByteArray.data s)) i (0:UInt8))):Int)) (r+0)),.agg (bf (dT (ByteArray.size s) fun i=>(↑(UInt8.toNat (List.getD (Array.toList (ByteArray.data s)) i (0:UInt8))):Int)))] (.ba 0 1 0 (32+32)) [some ⟨1,32+32,true,.fn fun i x=>Zb (bif Nat.blt i 32 then dT (ByteArray.size s) (fun i=>(↑(UInt8.toNat (List.getD (Array.toList (ByteArray.data s)) i (0:UInt8))):Int)) (i+0) else dT (ByteArray.size s) (fun i=>(↑(UInt8.toNat (List.getD (Array.toList (ByteArray.data s)) i (0:UInt8))):Int)) (i - 32))⟩] (.bj ((64+n)*1≤140737488355328) (.sc true 257 [.aH 1 (64+n) fun r k=>Zb (bif Nat.blt (r+0) 64 then bif Nat.blt (r+0) 32 then dT (ByteArray.size s) (fun i=>(↑(UInt8.toNat (List.getD (Array.toList (ByteArray.data s)) i (0:UInt8))):Int)) (r+0+0) else dT (ByteArray.size s) (fun i=>(↑(UInt8.toNat (List.getD (Array.toList (ByteArray.data s)) i (0:UInt8))):Int)) (r+0 - 32) else f (r+0 - 64))] y0 (.out y0 [] (.agg (bf (et s n f))) [])))))))
  (by kernel_rfl) ?_
 refine aM (Dy (fun (i:Nat)=>(↑(UInt8.toNat (List.getD (Array.toList (ByteArray.data s)) i (0:UInt8))):Int)) (ByteArray.size s) (by omega) (by exact HG s _)) ?_
 refine gZ (Gy (dT (ByteArray.size s) fun (i:Nat)=>(↑(UInt8.toNat (List.getD (Array.toList (ByteArray.data s)) i (0:UInt8))):Int))) ?_
 refine gZ (Dl (fun (i:Nat)=>dT (ByteArray.size s) (fun (i:Nat)=>(↑(UInt8.toNat (List.getD (Array.toList (ByteArray.data s)) i (0:UInt8))):Int)) (i+0)) (dT (ByteArray.size s) fun (i:Nat)=>(↑(UInt8.toNat (List.getD (Array.toList (ByteArray.data s)) i (0:UInt8))):Int)) (32) (by omega)) ?_
 refine aD (by omega) ?_
 refine aM (Dy (fun (i:Nat)=>bif Nat.blt (i+0) (64) then bif Nat.blt (i+0) (32) then dT (ByteArray.size s) (fun (i:Nat)=>(↑(UInt8.toNat (List.getD (Array.toList (ByteArray.data s)) i (0:UInt8))):Int)) (i+0+0) else dT (ByteArray.size s) (fun (i:Nat)=>(↑(UInt8.toNat (List.getD (Array.toList (ByteArray.data s)) i (0:UInt8))):Int)) (i+0 - 32) else f (i+0 - 64)) (64+n) (by omega) (by exact AS s n f hf)) ?_
 exact aq (ay.refl _)
theorem nI (f:Nat→Int) (m:Int) (hm:0<m) (hm':m<2305843009213693952) (hf:cS f 32):Pure Tryz.prog aZ 204 [.agg (bf f),.int .i64 m] (.int .i64 (cE f m 16)):=by
 have r:=BL hm hm'
 refine ar (own:=bq) Tryz.func204 (by kernel_rfl) mixed (by kernel_rfl)
  (let y0:=(fun (x:{ x:Nat // x≤16 })=>aY [1,2,5,6] [Zi m,.own 0 32 0 0 32,Zi (cE f m (x.1)),Zi x.1] [some ⟨32,1,true,.bc [bf f]⟩]);let y1:=(fun (x:{ x:Nat // x≤16 })=>16 - x.1);(.loop ({ x:Nat // x≤16 }) y0 y1 (⟨0,Nat.zero_le 16⟩) [1,2,5,6] [0] [Zi m,.own 0 32 0 0 32,Zi 0,Zi 0] [some ⟨32,1,true,.bc [bf f]⟩] (fun x0=>(.br (decide ((x0.1:Int)<16)) (.bj (m≠(0:Int)) (.sc true 139 [Zi (cE f m x0.1),Zi (Int.tmod (256:Int) m),Zi m] (Zi (cE f m x0.1*Int.tmod (256:Int) m%m)) (.bj (0≤(x0.1:Int)∧(x0.1:Int)<32) (.sc true 215 [Zi (wrap .i64 (cE f m x0.1*Int.tmod (256:Int) m%m+wrap .i64 (aE (aQ (bf f) (0+toNat (x0.1:Int)))))),Zi m] (Zi (wrap .i64 (cE f m x0.1*Int.tmod (256:Int) m%m+wrap .i64 (aE (aQ (bf f) (0+toNat (x0.1:Int)))))%m)) (.again (bh 0 y0 y1 x0) [1,2,5,6] [0] [Zi m,.own 0 32 0 0 32,Zi (wrap .i64 (cE f m x0.1*Int.tmod (256:Int) m%m+wrap .i64 (aE (aQ (bf f) (0+toNat (x0.1:Int)))))%m),Zi (wrap .i64 ((x0.1:Int)+1))] [some ⟨32,1,true,.bc [bf f]⟩]))))) (.out (Zi (cE f m x0.1)) [] (Zi (cE f m 16)) [])))))
  (by kernel_rfl) ?_
 refine aV (fun _ hs=>hs.le (⟨.refl _,.refl _,.refl _,.refl _,trivial⟩) (⟨.refl _,trivial⟩)) (fun x0=>?_)
 try (have q0:=x0.2;dsimp only at q0)
 have n0:=oY (f:=f) hm x0.1
 refine aL (fun h1=>?_) (fun h1=>?_)
 ·have g1:=af h1
  refine aD (by omega) ?_
  refine aM (iI (cE f m x0.1) (Int.tmod (256:Int) m) (m) (by omega) (by omega) (by omega) (by omega) (by omega)) ?_
  refine aD (by omega) ?_
  refine aM (ly (wrap .i64 (cE f m x0.1*Int.tmod (256:Int) m%m+wrap .i64 (aE (aQ (bf f) (0+toNat (↑x0.1:Int)))))) (m) (by omega) (by omega)) ?_
  exact aN (⟨x0.1+1,by omega⟩) (fun _ hs=>hs.le (⟨.refl _,.refl _,ay.of_eq (congrArg _ (I0 hm hm' hf (by omega))),aK (by omega),trivial⟩) (⟨.refl _,trivial⟩)) (by dsimp only;omega)
 ·have g1:=aa h1
  exact aq (ay.of_eq (congrArg _ (by rw [show x0.1=16 by omega])))
theorem gj (s:ByteArray) (hs:s.size≤100) (h1:1≤s.size) (f:Nat→Int) (n:Nat) (hn:n≤1099511627000) (hf:cS f n):Pure Tryz.prog aZ 82 [.str s,dC n f] (.aX [.agg (bf (et s n f)),.int .i64 0]):=by
 refine ar (own:=ow2) Tryz.func82 (by kernel_rfl) mixed (by kernel_rfl)
  (let y0:AV:=(.aX [.agg (bf (et s n f)),Zi 0]);(.br (decide ((↑(ByteArray.size s):Int)<1)||decide ((↑(ByteArray.size s):Int)>100)) (.out (.aX [.agg z32,Zi 2]) [] y0 []) (.sc true 144 [.aH 1 (ByteArray.size s) fun i x=>Zb (↑(UInt8.toNat (List.getD (Array.toList (ByteArray.data s)) i (0:UInt8))):Int)] (.agg (bf (dT (ByteArray.size s) fun i=>(↑(UInt8.toNat (List.getD (Array.toList (ByteArray.data s)) i (0:UInt8))):Int)))) (.gc 145 [] [.aH 1 32 fun r x=>Zb (aE (aQ (bf (dT (ByteArray.size s) fun i=>(↑(UInt8.toNat (List.getD (Array.toList (ByteArray.data s)) i (0:UInt8))):Int))) (0+(0+r))))] (.ba 0 1 0 32) [some ⟨1,32,true,.fn fun i x=>Zb (aE (aQ (bf (dT (ByteArray.size s) fun i=>(↑(UInt8.toNat (List.getD (Array.toList (ByteArray.data s)) i (0:UInt8))):Int))) (0+(0+i))))⟩] (.bj (64≤140737488355328) (.bj ((64+n)*1≤140737488355328) (.sc true 144 [.aH 1 (64+n) fun r k=>Zb (bif Nat.blt (r+0) 64 then bif Nat.blt (r+0) 32 then aE (aQ (bf (dT (ByteArray.size s) fun i=>(↑(UInt8.toNat (List.getD (Array.toList (ByteArray.data s)) i (0:UInt8))):Int))) (0+(0+(r+0)))) else aE (aQ (bf (dT (ByteArray.size s) fun i=>(↑(UInt8.toNat (List.getD (Array.toList (ByteArray.data s)) i (0:UInt8))):Int))) (0+(0+(r+0 - 32)))) else f (r+0 - 64))] (.agg (bf (dT (64+n) fun i=>bif Nat.blt (i+0) 64 then bif Nat.blt (i+0) 32 then aE (aQ (bf (dT (ByteArray.size s) fun i=>(↑(UInt8.toNat (List.getD (Array.toList (ByteArray.data s)) i (0:UInt8))):Int))) (0+(0+(i+0)))) else aE (aQ (bf (dT (ByteArray.size s) fun i=>(↑(UInt8.toNat (List.getD (Array.toList (ByteArray.data s)) i (0:UInt8))):Int))) (0+(0+(i+0 - 32)))) else f (i+0 - 64)))) (.out (.aX [.agg (bf (dT (64+n) fun i=>bif Nat.blt (i+0) 64 then bif Nat.blt (i+0) 32 then aE (aQ (bf (dT (ByteArray.size s) fun i=>(↑(UInt8.toNat (List.getD (Array.toList (ByteArray.data s)) i (0:UInt8))):Int))) (0+(0+(i+0)))) else aE (aQ (bf (dT (ByteArray.size s) fun i=>(↑(UInt8.toNat (List.getD (Array.toList (ByteArray.data s)) i (0:UInt8))):Int))) (0+(0+(i+0 - 32)))) else f (i+0 - 64))),Zi 0]) [] y0 []))))))))
  (by kernel_rfl) ?_
 refine aL (fun h0=>?_) (fun h0=>?_)
 ·have g0:=(aA af af) h0
  exact aq ((by exfalso;omega))
 ·have g0:=(aw aa aa) h0
  refine aM (Il (fun (i:Nat)=>(↑(UInt8.toNat (List.getD (Array.toList (ByteArray.data s)) i (0:UInt8))):Int)) (ByteArray.size s) (by omega) (by exact HG s _)) ?_
  refine gZ (rF (fun (i:Nat)=>aE (aQ (bf (dT (ByteArray.size s) fun (i:Nat)=>(↑(UInt8.toNat (List.getD (Array.toList (ByteArray.data s)) i (0:UInt8))):Int))) (0+(0+i)))) (32) (by omega)) ?_
  refine aD (by omega) ?_
  refine aD (by omega) ?_
  refine aM (Il (fun (i:Nat)=>bif Nat.blt (i+0) (64) then bif Nat.blt (i+0) (32) then aE (aQ (bf (dT (ByteArray.size s) fun (i:Nat)=>(↑(UInt8.toNat (List.getD (Array.toList (ByteArray.data s)) i (0:UInt8))):Int))) (0+(0+(i+0)))) else aE (aQ (bf (dT (ByteArray.size s) fun (i:Nat)=>(↑(UInt8.toNat (List.getD (Array.toList (ByteArray.data s)) i (0:UInt8))):Int))) (0+(0+(i+0 - 32)))) else f (i+0 - 64)) (64+n) (by omega) (by exact uZ (fun i=>Bv i) (AS s n f hf))) ?_
  exact aq (ay.of_eq (congrArg (fun t=>AV.aX [.agg (bf t),.int .i64 0]) (zC fun i _=>Bv i)))
theorem xu (a b m:Int) (ha:0≤a∧a<m) (hb:0≤b∧b<m) (hm':m<2305843009213693952):Pure Tryz.prog aZ 280 [.int .i64 a,.int .i64 b,.int .i64 m] (.aX [.int .i64 ((a+b)%m),.int .i64 0]):=by
 have h:=Iz a b m
 rw [jk (by omega) hm' ha.1 ha.2 hb.1 hb.2,Iv] at h
 exact h
theorem py (f:Nat→Int) (m:Int) (hm:0<m) (hm':m<2305843009213693952) (hf:cS f 32):Pure Tryz.prog aZ 238 [.agg (bf f),.int .i64 m] (.aX [.int .i64 (cE f m 16),.int .i64 0]):=by
 refine ar (own:=bq) Tryz.func238 (by kernel_rfl) mixed (by kernel_rfl)
  (let y0:=(fun (x:{ x:Nat // x≤16 })=>aY [1,15,16,6,17] [Zi m,.aH 1 16 fun r x=>Zb (aE (aQ (bf f) (0+(0+r)))),Zi 16,Zi (cE f m (x.1)),Zi x.1] []);let y1:=(fun (x:{ x:Nat // x≤16 })=>16 - x.1);let y2:=(fun (x:{ x:Nat // x≤8 })=>8 - x.1);(.br (decide (m<1)||decide (m≥2305843009213693952)) (.out (.aX [Zi 0,Zi 1]) [] (.aX [Zi (cE f m 16),Zi 0]) []) (.bj ((0:Int)≤16∧(16:Int)≤32) (.loop ({ x:Nat // x≤16 }) y0 y1 (⟨0,Nat.zero_le 16⟩) [1,15,16,6,17] [] [Zi m,.aH 1 16 fun r x=>Zb (aE (aQ (bf f) (0+(0+r)))),Zi 16,Zi 0,Zi 0] [] (fun x3=>(.br (decide ((x3.1:Int)<16)) (.bj (0≤(x3.1:Int)∧(x3.1:Int)<16) (.loop ({ x:Nat // x≤8 }) (fun x=>aY [1,8,15,16,17,6,21] [Zi m,Zb (aE (aQ (bf f) (0+(0+toNat (x3.1:Int))))),.aH 1 16 fun r x=>Zb (aE (aQ (bf f) (0+(0+r)))),Zi 16,Zi x3.1,Zi (iJ (cE f m (x3.1)) m (x.1)),Zi x.1] []) y2 (⟨0,Nat.zero_le 8⟩) [1,8,15,16,17,6,21] [] [Zi m,Zb (aE (aQ (bf f) (0+(0+toNat (x3.1:Int))))),.aH 1 16 fun r x=>Zb (aE (aQ (bf f) (0+(0+r)))),Zi 16,Zi x3.1,Zi (cE f m x3.1),Zi 0] [] (fun x6=>(.br (decide ((x6.1:Int)<8)) (.sc true 280 [Zi (iJ (cE f m x3.1) m x6.1),Zi (iJ (cE f m x3.1) m x6.1),Zi m] (.aX [Zi ((iJ (cE f m x3.1) m x6.1+iJ (cE f m x3.1) m x6.1)%m),Zi 0]) (.again (bh 0 (fun x=>aY [1,8,15,16,17,6,21] [Zi m,Zb (aE (aQ (bf f) (0+(0+toNat (x3.1:Int))))),.aH 1 16 fun r x=>Zb (aE (aQ (bf f) (0+(0+r)))),Zi 16,Zi x3.1,Zi (iJ (cE f m (x3.1)) m (x.1)),Zi x.1] []) y2 x6) [1,8,15,16,17,6,21] [] [Zi m,Zb (aE (aQ (bf f) (0+(0+toNat (x3.1:Int))))),.aH 1 16 fun r x=>Zb (aE (aQ (bf f) (0+(0+r)))),Zi 16,Zi x3.1,Zi ((iJ (cE f m x3.1) m x6.1+iJ (cE f m x3.1) m x6.1)%m),Zi (wrap .i64 ((x6.1:Int)+1))] [])) (.bj (m≠(0:Int)) (.sc true 280 [Zi (iJ (cE f m x3.1) m x6.1),Zi (Int.tmod (wrap .i64 (aE (aQ (bf f) (0+(0+toNat (x3.1:Int)))))) m),Zi m] (.aX [Zi ((iJ (cE f m x3.1) m x6.1+Int.tmod (wrap .i64 (aE (aQ (bf f) (0+(0+toNat (x3.1:Int)))))) m)%m),Zi 0]) (.again (bh 0 y0 y1 x3) [1,15,16,6,17] [] [Zi m,.aH 1 16 fun r x=>Zb (aE (aQ (bf f) (0+(0+r)))),Zi 16,Zi ((iJ (cE f m x3.1) m x6.1+Int.tmod (wrap .i64 (aE (aQ (bf f) (0+(0+toNat (x3.1:Int)))))) m)%m),Zi (wrap .i64 ((x3.1:Int)+1))] []))))))) (.out (.aX [Zi (cE f m x3.1),Zi 0]) [] (.aX [Zi (cE f m 16),Zi 0]) [])))))))
  (by kernel_rfl) ?_
 refine aL (fun h0=>?_) (fun h0=>?_)
 ·have g0:=(aA af af) h0
  exact aq ((by exfalso;omega))
 ·have g0:=(aw aa aa) h0
  refine aD (by omega) ?_
  refine aV (fun _ hs=>hs.le (⟨.refl _,.refl _,.refl _,.refl _,.refl _,trivial⟩) (trivial)) (fun x3=>?_)
  try (have q3:=x3.2;dsimp only at q3)
  have n0:=oY (f:=f) hm x3.1
  refine aL (fun h4=>?_) (fun h4=>?_)
  ·have g4:=af h4
   refine aD (by omega) ?_
   refine aV (fun _ hs=>hs.le (⟨.refl _,.refl _,.refl _,.refl _,.refl _,.refl _,.refl _,trivial⟩) (trivial)) (fun x6=>?_)
   try (have q6:=x6.2;dsimp only at q6)
   have n1:=JC hm n0 x6.1
   refine aL (fun h7=>?_) (fun h7=>?_)
   ·have g7:=af h7
    refine aM (xu (iJ (cE f m x3.1) m x6.1) (iJ (cE f m x3.1) m x6.1) (m) (by omega) (by omega) (by omega)) ?_
    exact aN (⟨x6.1+1,by omega⟩) (fun _ hs=>hs.le (⟨.refl _,.refl _,.refl _,.refl _,.refl _,.refl _,aK (by omega),trivial⟩) (trivial)) (by dsimp only;omega)
   ·have g7:=aa h7
    refine aD (by omega) ?_
    refine aM (xu (iJ (cE f m x3.1) m x6.1) (Int.tmod (wrap .i64 (aE (aQ (bf f) (0+(0+toNat (↑x3.1:Int)))))) m) (m) (by omega) (by exact FE hm hf (by omega)) (by omega)) ?_
    exact aN (⟨x3.1+1,by omega⟩) (fun _ hs=>hs.le (⟨.refl _,.refl _,.refl _,ay.of_eq (congrArg _ (FY hm hf (by omega) (by omega))),aK (by omega),trivial⟩) (trivial)) (by dsimp only;omega)
  ·have g4:=aa h4
   exact aq (ay.aX ⟨ay.of_eq (congrArg _ (by rw [show x3.1=16 by omega])),ay.refl _,trivial⟩)
end Go.Proofs.YtpefjkpdniiaoaaGreatDoor

namespace Go.Sp
open Go.IntKind (wrap)
open Int (toNat)
open Go Go.Am
def dA (n:Int) (size i:Nat):Int:=n / 256^(size - 1 - i)%256
def tD (n:Int) (size t i:Nat):Int:=bif Nat.blt i (size - t) then 0 else dA n size i
theorem LQ {n:Int} {size i j:Nat} (hi:i<size) (hj:j<1):aE (aQ (cq (.int .u8 0)) j)=tD n size 0 i:=by
 obtain rfl:j=0:=Nat.lt_one_iff.1 hj
 unfold tD
 rw [cD (by omega)]
 rfl
theorem BN {n:Int} {size t i:Nat} (h:size≤t):tD n size t i=dA n size i:=by grind [tD,dn]
theorem My {n:Int} (h0:0≤n) (t:Nat):Int.tdiv (n / 256^t) 256=n / 256^(t+1):=by grind [Int.ediv_nonneg,Int.pow_nonneg,mA,Int.pow_succ,Int.ediv_ediv_of_nonneg]
theorem IL {n:Int} (h0:0≤n) (hn:n<18446744073709551616) (t:Nat):IntKind.wrap .u64 (Int.tdiv (n / 256^t) 256)=n / 256^(t+1):=by
 have h1:0≤n / 256^(t+1):=Int.ediv_nonneg h0 (Int.pow_nonneg (by omega))
 have h2:n / 256^(t+1)≤n:=Int.ediv_le_self _ h0
 grind [My,dy]
theorem Lm {n:Int} {size t i j:Nat} (h0:0≤n) (ht:t<size) (hj:j<1) :
  (bif Nat.beq i (toNat ((size:Int) - 1 - t)+0)&&(Nat.ble 0 j&&Nat.blt j 1) then IntKind.wrap .u8 (Int.tmod (n / 256^t) 256) else tD n size t i)=tD n size (t+1) i:=by
 obtain rfl:j=0:=Nat.lt_one_iff.1 hj
 have h:0≤n / 256^t:=Int.ediv_nonneg h0 (Int.pow_nonneg (by omega))
 have e:toNat ((size:Int) - 1 - t)+0=size - 1 - t:=by omega
 rw [e]
 by_cases hi:i=size - 1 - t
 ·subst hi
  have e2:size - 1 - (size - 1 - t)=t:=by omega
  rw [Nat.beq_refl]
  show IntKind.wrap .u8 (Int.tmod (n / 256^t) 256)=bif Nat.blt (size - 1 - t) (size - (t+1)) then 0 else n / 256^(size - 1 - (size - 1 - t))%256
  grind [dn,wD,bY]
 ·have hb:Nat.beq i (size - 1 - t)=false:=by grind [Nat.beq,absurd,Nat.eq_of_beq_eq_true]
  rw [hb]
  show (bif Nat.blt i (size - t) then 0 else dA n size i)=(bif Nat.blt i (size - (t+1)) then 0 else dA n size i)
  grind [cD,dn,Nat.le_of_not_lt]
end Go.Sp

namespace Go.Proofs.YtpefjkpdniiaoaaGreatDoor
open Go.IntKind (wrap)
open Int (toNat)
open Go Go.Am Go.Sp
set_option maxRecDepth 100000
theorem tF (n:Int) (h0:0≤n) (hn:n<18446744073709551616) (size:Nat) (hs:1≤size) (hs':size≤8):Pure Tryz.prog aZ 259 [.int .u64 n,.int .i64 size] (dC size (dA n size)):=by
 refine ar (own:=bq) Tryz.func259 (by kernel_rfl) mixed (by kernel_rfl)
  (let y1:Nat:=(toNat (↑size:Int));let y0:=(fun (x:{ x:Nat // x≤size })=>aY [5,0,6] [AV.ba 0 1 0 y1,Zu (n / 256^x.1),Zi ((↑size:Int) - 1 - (↑(x.1):Int))] [some ⟨1,size,true,bA.fn fun (i x_1:Nat)=>Zb (tD n size (x.1) i)⟩]);let y2:=(fun (x:{ x:Nat // x≤size })=>size - x.1);(.bj ((0:Int)≤(↑size:Int)∧(↑size:Int)=(↑size:Int)∧(↑(1):Int)*(↑size:Int)≤140737488355328∧(↑size:Int)≤9223372036854775807) (.loop ({ x:Nat // x≤size }) y0 y2 (⟨0,Nat.zero_le size⟩) ([5,0,6]) ([16]) ([AV.ba 0 1 0 y1,Zu n,Zi (wrap .i64 ((↑size:Int) - 1))]) ([some ⟨1,toNat (↑size:Int),true,bA.fn fun (i j:Nat)=>Zb (aE (aQ (cq (Value.int IntKind.u8 (0:Int))) j))⟩]) (fun x1=>(.br (decide ((↑size:Int) - 1 - (↑x1.1:Int)≥0)) (.bj ((0:Int)≤(↑size:Int) - 1 - (↑x1.1:Int)∧(↑size:Int) - 1 - (↑x1.1:Int)<(↑y1:Int)) (.again (bh 0 y0 y2 x1) ([5,0,6]) ([0]) ([AV.ba 0 1 0 y1,Zu (wrap .u64 (Int.tdiv (n / 256^x1.1) (256:Int))),Zi (wrap .i64 ((↑size:Int) - 1 - (↑x1.1:Int) - 1))]) ([some ⟨1,size,true,bA.fn fun (i j:Nat)=>Zb (bif Nat.beq i (toNat ((↑size:Int) - 1 - (↑x1.1:Int))+0)&&(Nat.ble 0 j&&Nat.blt j 1) then wrap .u8 (Int.tmod (n / 256^x1.1) (256:Int)) else tD n size x1.1 i)⟩]))) (.out (AV.aH 1 y1 fun (r k:Nat)=>Zb (tD n size x1.1 (r+0))) [] (dC size (dA n size)) []))))))
  (by kernel_rfl) ?_
 refine aD (by omega) ?_
 refine aV (fun _ hs=>hs.le (⟨.refl _,.of_eq (congrArg _ (by dsimp only;omega)),ay.of_eq (congrArg _ (by rw [wI (by omega) (by omega)];dsimp only;omega)),trivial⟩) (⟨⟨rfl,by rfl,rfl,fun i j hi hj=>ay.of_eq (congrArg _ (LQ hi hj))⟩,trivial⟩)) (fun x1=>?_)
 try (have q1:=x1.2;dsimp only at q1)
 refine aL (fun h2=>?_) (fun h2=>?_)
 ·have g2:=af h2
  refine aD (by omega) ?_
  exact aN (⟨x1.1+1,by omega⟩) (fun _ hs=>hs.le (⟨.refl _,ay.of_eq (congrArg _ (IL h0 hn _)),ay.of_eq (congrArg _ (by rw [wI (by omega) (by omega)];dsimp only;omega)),trivial⟩) (⟨⟨rfl,rfl,rfl,fun i j hi hj=>ay.of_eq (congrArg _ (Lm h0 (by omega) hj))⟩,trivial⟩)) (by dsimp only;omega)
 ·have g2:=aa h2
  exact aq (ji (by omega) (fun i _=>BN (by omega)))
end Go.Proofs.YtpefjkpdniiaoaaGreatDoor

namespace Go.Am
open Go.IntKind (wrap)
open Int (toNat)
open Go.RowKit Go.ChangeShapes Go.WideShapes Go.ChangeAt
inductive CT where
  | int (k : IntKind)
  | bool
  | str
  | sl (cs : List CT)
inductive cB : CT → AV → Prop where
  | int {k : IntKind} {n : Int} (h : (Lit.int k n).wf = true) : cB (.int k) (.int k n)
  | bool {b : Bool} : cB .bool (.bool b)
  | str {s : ByteArray} (h : s.size ≤ maxLen) : cB .str (.str s)
  | sl {cs : List CT} {n : Nat} {f : Nat → Nat → AV} (hn : n ≤ maxLen) (h : ∀ (i j : Nat) c, i < n → cs[j]? = some c → cB c (f i j)) : cB (.sl cs) (.aH cs.length n f)
def kX (P:Program) (sh:TypeId→Option (List CT)):Nat→List Field→Option (List CT)
 | _,[]=>some []
 | off,f::fs=>match sh f.type with
  | some l=>bif Nat.beq f.offset off&&Nat.beq l.length (P.cellsOf f.type) then (match kX P sh (off+l.length) fs with|some r=>some (l++r)|none=>none) else none
  | none=>none
def shape (P:Program):Nat→TypeId→Option (List CT)
 | 0,_=>none
 | n+1,t=>match P.underlying t with
  | some .bool=>some [.bool]
  | some (.int k)=>some [.int k]
  | some .string=>some [.str]
  | some (.slice e)=>match shape P n e with
   | some l=>bif Nat.beq l.length (P.cellsOf e)&&Nat.blt 0 l.length then some [.sl l] else none
   | none=>none
  | some (.struct fs)=>match kX P (shape P n) 0 fs.toList with
   | some l=>bif Nat.beq l.length (P.cellsOf t) then some l else none
   | none=>none
  | some (.array m e)=>match shape P n e with
   | some l=>bif Nat.beq l.length (P.cellsOf e)&&Nat.beq (m*l.length) (P.cellsOf t) then some (List.replicate m l).flatten else none
   | none=>none
  | _=>none
abbrev qj:bu:=bu.none fun _=>False
theorem kH (b:Nat):qj.free b:=⟨fun h=>h,fun _ _ h=>by cases h⟩
structure Fits (w : World) (ts : List CT) (cs : List Value) : Prop where
  len : cs.length = ts.length
  cell : ∀ (j : Nat) c, ts[j]? = some c → ∃ v a, cs[j]? = some v ∧ cB c a ∧ Rel qj w a v ∧ v.oneCell' = true
theorem Fits.nil {w:World}:Fits w [] []:=⟨rfl,fun j c h=>by grind⟩
theorem Fits.one {w:World} {c:CT} {v:Value} {a:AV} (h:cB c a) (hr:Rel qj w a v) (ho:v.oneCell'=true):Fits w [c] [v]:=by
 refine ⟨rfl,fun j c' hj=>?_⟩
 grind
theorem Fits.append {w:World} {ts ts':List CT} {cs cs':List Value} (h:Fits w ts cs) (h':Fits w ts' cs'):Fits w (ts++ts') (cs++cs'):=by
 refine ⟨by simp [h.len,h'.len],fun j c hj=>?_⟩
 by_cases hl:j<ts.length
 ·rw [List.getElem?_append_left hl] at hj
  rw [List.getElem?_append_left (by rw [h.len];omega)]
  exact h.cell j c hj
 ·rw [List.getElem?_append_right (by omega)] at hj
  rw [List.getElem?_append_right (by rw [h.len];omega),h.len]
  exact h'.cell _ c hj
theorem mapM_each {α β:Type} {f:α→Option β} {l:List α} {r:List β} (h:l.mapM f=some r) {x:α} (hx:x∈l):∃ y,f x=some y:=by
 obtain ⟨i,hi,rfl⟩:=List.getElem_of_mem hx
 have h1:=mapM_some_length h
 have h2:=mapM_some_get h i _ (List.getElem?_eq_getElem hi)
 grind
theorem om {cs:List Value} {off a b:Nat}:(cs.drop off).take (a+b)=(cs.drop off).take a++(cs.drop (off+a)).take b:=by
 rw [List.take_add,List.drop_drop]
section
variable {H : Type} {enc : TypeId × Value → H} {P : Program} {w : World} {sp : Nat → Bool}
theorem tT {sh:TypeId→Option (List CT)} {cs:List Value}:∀ (fs:List Field) (off:Nat) (ts:List CT),kX P sh off fs=some ts→(∀ f∈fs,∀ l,sh f.type=some l→Fits w l ((cs.drop f.offset).take (P.cellsOf f.type))) →
  Fits w ts ((cs.drop off).take ts.length):=by
 intro fs
 induction fs with
 | nil=>simp [kX,Fits.nil]
 | cons f fs ih =>
  intro off ts h hf
  simp only [kX] at h
  cases hl:sh f.type with
  | none=>grind
  | some l =>
   simp only [hl] at h
   obtain ⟨hc,h2⟩:=bB h
   rw [Bool.and_eq_true] at hc
   have e1:=Nat.eq_of_beq_eq_true hc.1
   have e2:=Nat.eq_of_beq_eq_true hc.2
   cases hr:kX P sh (off+l.length) fs with
   | none=>grind
   | some r =>
    simp only [hr,Option.some.injEq] at h2
    subst h2
    have g1:=hf f (List.mem_cons_self ..) l hl
    have g2:=ih (off+l.length) r hr (fun f' hf'=>hf f' (List.mem_cons_of_mem _ hf'))
    rw [e1,← e2] at g1
    rw [List.length_append,om]
    exact g1.append g2
theorem wA {cs:List Value} {l:List CT}:∀ n:Nat,(∀ i,i<n→Fits w l ((cs.drop (i*l.length)).take l.length))→Fits w (List.replicate n l).flatten (cs.take (n*l.length)):=by
 intro n
 induction n with
 | zero=>simp [Fits.nil]
 | succ n ih =>
  intro h
  have g1:=ih (fun i hi=>h i (by omega))
  have g2:=h n (by omega)
  have e:cs.take ((n+1)*l.length)=cs.take (n*l.length)++(cs.drop (n*l.length)).take l.length:=by
   rw [Nat.add_mul,Nat.one_mul,List.take_add]
  have e2:(List.replicate (n+1) l).flatten=(List.replicate n l).flatten++l:=by simp [List.replicate_succ',List.flatten_append]
  rw [e,e2]
  exact g1.append g2
theorem qM:∀ (m:Nat) (t:TypeId) (fuel:Nat) (cs:List Value) (x:DataW H×List MemPlace) (ts:List CT),DataW.trod enc P w 0 sp true fuel t cs=some x→shape P m t=some ts→Fits w ts cs:=by
 intro m
 induction m with
 | zero=>simp [shape]
 | succ m ih =>
  intro t fuel cs x ts htr hsh
  simp only [shape] at hsh
  cases fuel with
  | zero=>simp_all [DataW.trod]
  | succ fuel =>
   split at hsh
   ·rename_i hu
    simp only [Option.some.injEq] at hsh;subst hsh
    simp only [DataW.trod,hu] at htr
    split at htr<;>simp_all
    exact .one .bool .bool rfl
   ·rename_i k hu
    simp only [Option.some.injEq] at hsh;subst hsh
    simp only [DataW.trod,hu] at htr
    split at htr<;>simp_all
    obtain ⟨⟨rfl,hw⟩,_⟩:=htr
    exact .one (.int hw) .int rfl
   ·rename_i hu
    simp only [Option.some.injEq] at hsh;subst hsh
    simp only [DataW.trod,hu] at htr
    split at htr<;>simp_all
    exact .one (.str htr.1) .str rfl
   ·rename_i e hu
    split at hsh
    ·rename_i l hl
     obtain ⟨hc,h2⟩:=bB hsh
     clear hsh
     rw [Bool.and_eq_true,Nat.blt_eq] at hc
     have e1:=Nat.eq_of_beq_eq_true hc.1
     cases h2
     rcases Go.Deep.open_slice hu htr with ⟨rfl,_⟩|⟨a,len,cap,m',n,D,Pl,rfl,hb,hlc,hm,hmm,_,hx⟩
     ·exact .one (a:=.aH l.length 0 fun _ _=>.bx) (.sl (Nat.zero_le _) (fun i j c hi=>absurd hi (by omega))) (.gU fun _=>rfl) rfl
     ·have hlm:len≤m':=by grind
      have hrow:∀ i,i<len→∃ cs',w.cells? 0 (a.add (i*l.length)) l.length=some cs'∧Fits w l cs':=fun i hi=>by
       obtain ⟨cs',h1,h2⟩:=hx i (by omega)
       grind
      obtain ⟨C,hC⟩:=Go.Deep.choose_lt hrow
      have hcell:∀ i j c,i<len→l[j]? = some c→∃ p:Value×AV,w.cell? (a.add (i*l.length+j))=some p.1∧cB c p.2∧Rel qj w p.2 p.1∧p.1.oneCell'=true:=fun i j c hi hj=>by
       obtain ⟨h1,h2⟩:=hC i hi
       obtain ⟨v,av,g1,g2,g3,g4⟩:=h2.cell j c hj
       obtain ⟨_,k1,k2⟩:=World.cells?_some h1
       refine ⟨(v,av),?_,g2,g3,g4⟩
       grind [List.getElem?_eq_some_iff,Go.Deep.add_add]
      have hex:∀ i,i<len→∃ g:Nat→Value×AV,∀ j,j<l.length→∃ c,l[j]? = some c∧w.cell? (a.add (i*l.length+j))=some (g j).1∧cB c (g j).2∧Rel qj w (g j).2 (g j).1∧(g j).1.oneCell'=true:=fun i hi=>by
       have:Inhabited (Value×AV):=⟨(.bool true,.bx)⟩
       exact Go.Deep.choose_lt (p:=fun j (g:Value×AV)=>∃ c,l[j]? = some c∧w.cell? (a.add (i*l.length+j))=some g.1∧cB c g.2∧Rel qj w g.2 g.1∧g.1.oneCell'=true) (fun j hj=>by simp_all)
      have:Inhabited (Nat→Value×AV):=⟨fun _=>(.bool true,.bx)⟩
      obtain ⟨G,hG⟩:=Go.Deep.choose_lt hex
      refine .one (a:=.aH l.length len fun i j=>(G i j).2) (.sl (by omega) (fun i j c hi hj=>?_)) ?_ rfl
      ·grind
      ·rcases Nat.eq_zero_or_pos len with rfl|hpos
       ·exact .gU (fun h=>by cases h)
       ·obtain ⟨b,off,spot⟩:=a
        have hspot:spot=none:=by
         obtain ⟨c',_,g2,_⟩:=hG 0 hpos 0 hc.2
         have:=World.cell?_spot g2
         grind [Addr.add]
        subst hspot
        refine .aH (fun i j=>(G i j).1) hc.2 hlc (kH b) (fun i j hi hj=>?_) (fun i j hi hj=>?_) (fun i j hi hj=>?_) (fun i j hi hj=>?_)
        ·obtain ⟨c',_,g2,_⟩:=hG i hi j hj
         rw [← g2]
         congr 1
         unfold Addr.add
         split
         ·simp
         grind
        ·grind
        ·grind
        ·obtain ⟨c',_,_,_,g4,_⟩:=hG i hi j hj;exact g4.closed
    grind
   ·rename_i fs hu
    split at hsh
    ·rename_i l hl
     obtain ⟨hc,h2⟩:=bB hsh
     clear hsh
     have h3:l=ts:=Option.some.inj h2
     subst h3
     have e1:=Nat.eq_of_beq_eq_true hc
     simp only [DataW.trod,hu] at htr
     split at htr
     ·rename_i hlen
      obtain ⟨xs,hxs,_⟩:=Option.map_eq_some_iff.1 htr
      have:=tT (w:=w) (P:=P) (cs:=cs) fs.toList 0 l hl (fun f hf lf hlf=>by
       obtain ⟨y,hy⟩:=mapM_each hxs hf
       grind)
      grind
     grind
    grind
   ·rename_i n e hu
    split at hsh
    ·rename_i l hl
     obtain ⟨hc,h2⟩:=bB hsh
     clear hsh
     cases h2
     rw [Bool.and_eq_true] at hc
     have e1:=Nat.eq_of_beq_eq_true hc.1
     have e2:=Nat.eq_of_beq_eq_true hc.2
     simp only [DataW.trod,hu] at htr
     split at htr
     ·rename_i hlen
      obtain ⟨xs,hxs,_⟩:=Option.map_eq_some_iff.1 htr
      have:=wA (w:=w) (cs:=cs) (l:=l) n (fun i hi=>by
       obtain ⟨y,hy⟩:=mapM_each hxs (List.mem_range.2 hi)
       grind)
      grind
     grind
    grind
   grind
end
section
variable {H : Type} {enc : TypeId × Value → H} {P : Program}
theorem lJ {W W':World} {sp':Nat→Bool} (hl:laidOutB P=true):∀ {ts:List TypeId} {vs:List Value} {ds:List (DataW H)} {ps:List MemPlace},
  (∀ t,t∈ts→P.readableRec t=true∧t<P.types.size)→DataW.TrodAll enc P W 0 (fun _=>true) true ts vs ds ps→(∀ p∈ps,W.sameAt W' p)→(∀ p∈ps,sp' p.block=true) →
  DataW.TrodAll enc P W' 0 sp' true ts vs ds ps
 | [],[],[],_,_,h,_,_=>h
 | t::ts,v::vs,d::ds,ps,hr,h,hs,hp=>by
  obtain ⟨p,q,h1,h2,rfl⟩:=h
  refine ⟨p,q,WideElems.Trod_stays hl (hr t (by simp)).1 (hr t (by simp)).2 h1 (fun x hx=>hs x (by grind)) (fun x hx=>hp x (by grind)),?_,rfl⟩
  exact lJ hl (fun t ht=>hr t (by grind)) h2 (fun x hx=>hs x (by grind)) (fun x hx=>hp x (by grind))
 | [],_::_,_,_,_,h,_,_=>h.elim
 | [],[],_::_,_,_,h,_,_=>h.elim
 | _::_,[],_,_,_,h,_,_=>h.elim
 | _::_,_::_,[],_,_,h,_,_=>h.elim
theorem nq {W W':World} (hb:Below W.heap.size W W') (may:MemPlace→Prop):W.keptBut W' may:=by
 refine ⟨hb.os,hb.output,fun i hi=>?_⟩
 rw [hb.block i hi]
 grind
def HH (P:Program) (ts:List TypeId):Bool:=ts.all fun t=>P.readableRec t&&Nat.blt t P.types.size
theorem BI {ts:List TypeId} (h:HH P ts=true):∀ t,t∈ts→P.readableRec t=true∧t<P.types.size:=by
 intro t ht
 have:=List.all_eq_true.1 h t ht
 simp_all
theorem BO {f:Func} {s:ChangeSpec} {apart fresh handsOn again:Bool} {W W':World} {args:Array Value} {ds gs:List (DataW H)} {before:List MemPlace} {tb:TypeId}
  (hl:laidOutB P=true) (hvars:s.vars=[]) (hrt:f.resultTypes = #[tb]) (htb:P.underlying tb=some .bool) (hrd:HH P f.params.toList=true)
  (hW:DataW.Whole enc P f.params.toList s.vars apart W args.toList ds gs before) (hb:Below W.heap.size W W')
  (hs:s.fn H ds={ results:=[.lit (.bool true)],args:=ds }) :
  s.post enc P f apart fresh handsOn again W args (.bool true) W':=by
 have hW0:=hW
 obtain ⟨p,q,hA,hV,rfl,hz,hn⟩:=hW
 rw [hvars] at hV
 obtain ⟨rfl,rfl⟩:=trodVars_none hV
 have hlt:∀ x∈p,x.block<W.heap.size:=fun x hx=>hA.lt x hx
 have hst:∀ sp:Nat→Bool,(∀ x∈p,sp x.block=true)→DataW.TrodAll enc P W' 0 sp true f.params.toList args.toList ds p :=
  fun sp hsp=>lJ hl (BI hrd) hA (fun x hx=>hb.same (hlt x hx)) hsp
 have hres:∀ (b:Nat) (sp:Nat→Bool) (hd:Bool),DataW.TrodAll enc P W' b sp hd f.resultTypes.toList ((Value.bool true).resultList f.resultTypes.size) [.lit (.bool true)] []:=by
  intro b sp hd
  rw [hrt]
  exact ⟨[],[],shut_bool htb true,rfl,rfl⟩
 refine ⟨ds,[],p++[],[],p,[],hW0,?_,?_,?_,nq hb _,fun _=>?_⟩
 ·grind
 ·grind
 ·rw [List.append_nil,hs,hvars];rfl
 ·refine ⟨ok_one hrt rfl (okWide_bool_mk htb true),_,[],([]++p)++[],⟨[]++p,[],trodAll_append (hst _ (fun _ _=>rfl)) (hres _ _ _),by rw [hvars];rfl,rfl,?_,?_⟩,?_⟩
  ·intro b off hp
   simp only [List.nil_append,List.append_nil] at hp
   have:=hlt _ hp
   rw [hb.frozen this]
   exact hz b off (by grind)
  ·grind
  grind
end
theorem Pure.calls {P:Program} {gl:dG} {f:FuncId} {args:List AV} (h:Pure P gl f args (.bool true)) {W:World} {vs:Array Value} (hg:mJ gl qj W)
  (hr:eR qj W args vs) {Q:Ending→World→Prop} (hQ:∀ W',Below W.heap.size W W'→Q (.returned (.bool true)) W'):Calls P f vs W Q:=by
 refine (h.use (fun _ hf=>hf.elim) hg hr).mono ?_
 rintro e W' ⟨v,rfl,hb,hv⟩
 cases hv<;>grind
theorem eR.nil {w:World}:eR qj w [] #[]:=⟨rfl,fun j u x h=>by simp⟩
theorem eR.cons {w:World} {a:AV} {v:Value} {avs:List AV} {vs:List Value} (h:Rel qj w a v) (hr:eR qj w avs vs.toArray):eR qj w (a::avs) (v::vs).toArray:=by
 refine ⟨by have:=hr.len;grind,fun j u x hu hx=>?_⟩
 cases j with
 | zero=>grind
 | succ j=>exact hr.rel j u x (by grind) (by grind)
theorem Fits.pick {w:World} {ts:List CT} {cs:List Value} (h:Fits w ts cs):∃ g:Nat→AV,∀ (j:Nat) c,ts[j]? = some c→cB c (g j)∧∃ v,cs[j]? = some v∧Rel qj w (g j) v:=by
 have:Inhabited AV:=⟨.bx⟩
 obtain ⟨g,hg⟩:=Go.Deep.choose_lt (n:=ts.length) (p:=fun j a=>∀ c,ts[j]? = some c→cB c a∧∃ v,cs[j]? = some v∧Rel qj w a v) (fun j hj=>by
  obtain ⟨v,a,h1,h2,h3,_⟩:=h.cell j ts[j] (by simp)
  refine ⟨a,fun c hc=>?_⟩
  grind)
 exact ⟨g,fun j c hc=>hg j (List.getElem?_eq_some_iff.1 hc).1 c hc⟩
theorem Fits.agg {w:World} {ts:List CT} {cs:List Value} (h:Fits w ts cs) {g:Nat→AV} (hg:∀ (j:Nat) c,ts[j]? = some c→cB c (g j)∧∃ v,cs[j]? = some v∧Rel qj w (g j) v) {l:List AV}
  (he:cV [] ((List.range ts.length).map g) l):Rel qj w (.agg l) (.agg cs.toArray):=by
 obtain ⟨h1,h2⟩:=he.spec
 simp at h1
 refine .agg (by rw [← h1];simp [h.len]) fun j u v hu hv=>?_
 have hj:j<l.length:=(List.getElem?_eq_some_iff.1 hu).1
 have hjt:j<ts.length:=by omega
 obtain ⟨_,v',hv',hr⟩:=hg j ts[j] (by simp [hjt])
 have:v'=v:=by
  have hv:cs[j]? = some v:=by simpa using hv
  rw [hv'] at hv;exact Option.some.inj hv
 subst this
 exact h2 j (g j) u (by simp [hjt]) hu _ _ _ (fun k o hk=>by simp at hk) hr
def iP:AV→Nat
 | .aH _ n _=>n
 | _=>0
def l3:AV→Nat→Nat→AV
 | .aH _ _ f=>f
 | _=>fun _ _=>.bx
theorem zz {k:IntKind} {a:AV} (h:cB (.int k) a):(Lit.int k (aE a)).wf=true:=by cases h with|int h=>exact h
theorem Cn {H:Type} {enc:TypeId×Value→H} {P:Program} {W:World} {r:Reach} {b0:Nat} {t:TypeId} {v:Value} {d:DataW H} {ps:List MemPlace} {sp:Nat→Bool} {ts:List CT} (ht:fR P t=some true)
  (hsh:shape P 9 t=some ts) (hv:Value.okWide P W r b0 t v) (h:DataW.Trod enc P W 0 sp true t v d ps):∃ cs:List Value,v=.agg cs.toArray∧Fits W ts cs:=by
 obtain ⟨fuel,hf⟩:=h
 have:∃ cs:Array Value,v=.agg cs:=by grind [fR,okWide_struct,Value.okWide]
 obtain ⟨cs,rfl⟩:=this
 exact ⟨cs.toList,by simp,qM 9 t fuel _ _ ts hf hsh⟩
end Go.Am

namespace Go.Am
open Go.IntKind (wrap)
open Int (toNat)
open Go.RowKit
def vk:AV→Bool
 | .bool b=>b
 | _=>false
def FI:AV→ByteArray
 | .str s=>s
 | _=>.empty
def pL:List CT→Option IntKind
 | [.int k]=>some k
 | .int k::cs=>match pL cs with
  | some k'=>bif decide (k=k') then some k else none
  | none=>none
 | _=>none
theorem vA:∀ {cs:List CT} {k:IntKind},pL cs=some k→∀ c,c∈cs→c=.int k
 | [],_,h=>by simp
 | [c0],k,h=>by
  intro c hc
  cases c0<;>simp [pL] at h
  grind
 | c0::c1::cs,k,h=>by
  cases c0<;>simp only [pL,reduceCtorEq] at h
  rename_i k0
  cases hr:pL (c1::cs) with
  | none=>grind
  | some k' =>
   rw [hr] at h
   simp only at h
   obtain ⟨h1,h2⟩:=bB h
   cases h2
   have h1:=of_decide_eq_true h1
   subst h1
   intro c hc
   rcases List.mem_cons.1 hc with rfl|hc
   ·rfl
   ·exact vA hr c hc
mutual
def canon : CT → AV → AV
  | .int k, a => .int k (aE a)
  | .bool, a => .bool (vk a)
  | .str, a => .str (FI a)
  | .sl cs, a => .aH cs.length (iP a) (match pL cs with
    | some k => fun i j => .int k (aE (l3 a i (bif Nat.beq cs.length 1 then 0 else j)))
    | none => fun i j => aQ (cZ cs (fun q => l3 a i q) 0) j)
def cZ : List CT → (Nat → AV) → Nat → List AV
  | [], _, _ => []
  | c :: cs, g, n => canon c (g n) :: cZ cs g (n + 1)
end
theorem iy:∀ (cs:List CT) (g:Nat→AV) (n j:Nat) (c:CT),cs[j]? = some c→(cZ cs g n)[j]? = some (canon c (g (n+j)))
 | [],_,_,_,_,h=>by grind
 | c::cs,g,n,0,c',h=>by grind [cZ]
 | c::cs,g,n,j+1,c',h=>by
  simp at h
  simp only [cZ,List.getElem?_cons_succ]
  rw [iy cs g (n+1) j c' h,show n+1+j=n+(j+1) by omega]
theorem ic:∀ (cs:List CT) (g:Nat→AV) (n:Nat),(cZ cs g n).length=cs.length
 | [],_,_=>rfl
 | c::cs,g,n=>by simp [cZ,ic]
theorem ay.BD {os:List (Option Ob)} {es n:Nat} {f g:Nat→Nat→AV} (h:∀ i j,i<n→j<es→ay os (f i j) (g i j)∧Cl (g i j)):ay os (.aH es n f) (.aH es n g):=fun β w v hh hr=>by
 cases hr with
 | aH bC he hcap hb hc ho hr hcl=>exact .aH bC he hcap hb hc ho (fun i j hi hj=>(h i j hi hj).1 β w _ hh (hr i j hi hj)) (fun i j hi hj=>(h i j hi hj).2)
 | gU h'=>exact .gU h'
theorem Ad {os:List (Option Ob)} {c:CT} {a:AV} (h:cB c a):ay os a (canon c a)∧Cl (canon c a):=by
 induction h with
 | int h=>exact ⟨ay.of_eq (by rfl),by unfold canon;exact .int⟩
 | bool=>exact ⟨ay.of_eq (by rfl),by unfold canon;exact .bool⟩
 | str h=>exact ⟨ay.of_eq (by rfl),by unfold canon;exact .str⟩
 | @sl cs n f hn h ih =>
  have key:∀ i j,i<n→j<cs.length→∃ c,cs[j]? = some c∧aQ (cZ cs (fun q=>f i q) 0) j=canon c (f i j):=fun i j hi hj=>by simp_all [aQ,List.getD_eq_getElem?_getD,iy]
  unfold canon
  cases hh:pL cs with
  | none =>
   refine ⟨ay.BD fun i j hi hj=>?_,.aH fun i j hi hj=>?_⟩
   ·obtain ⟨c,h1,h2⟩:=key i j hi hj
    show ay os (f i j) (aQ (cZ cs (fun q=>f i q) 0) j)∧Cl (aQ (cZ cs (fun q=>f i q) 0) j)
    grind
   ·obtain ⟨c,h1,h2⟩:=key i j hi hj
    show Cl (aQ (cZ cs (fun q=>f i q) 0) j)
    rw [h2]
    exact (ih i j c hi h1).2
  | some k =>
   refine ⟨ay.BD fun i j hi hj=>⟨ay.of_eq ?_,.int⟩,.aH fun i j hi hj=>.int⟩
   show f i j=.int k (aE (f i (bif Nat.beq cs.length 1 then 0 else j)))
   have hj':(bif Nat.beq cs.length 1 then 0 else j)=j:=by grind [Nat.beq,Nat.eq_of_beq_eq_true]
   rw [hj']
   have hc:cs[j]? = some cs[j]:=by simp
   have:=h i j _ hi hc
   rw [vA hh cs[j] (List.getElem_mem hj)] at this
   generalize f i j=q at this
   cases this
   rfl
theorem Fits.canon {w:World} {ts:List CT} {cs:List Value} (h:Fits w ts cs):∃ g:Nat→AV,(∀ (j:Nat) c,ts[j]? = some c→cB c (g j))∧Rel qj w (.agg (cZ ts g 0)) (.agg cs.toArray):=by
 obtain ⟨g,hg⟩:=h.pick
 refine ⟨g,fun j c hc=>(hg j c hc).1,?_⟩
 refine .agg (by simp [ic,h.len]) fun j u v hu hv=>?_
 have hj:j<ts.length:=by grind [ic,List.getElem?_eq_some_iff]
 have hc:ts[j]? = some ts[j]:=by simp
 rw [iy ts g 0 j _ hc] at hu
 obtain ⟨h1,v',h2,h3⟩:=hg j _ hc
 have hv:cs[j]? = some v:=by grind
 rw [h2] at hv;cases hv
 cases hu
 rw [Nat.zero_add]
 exact (Ad (os:=[]) h1).1 _ _ _ (fun k o hk=>by grind) h3
theorem cB.pC {cs:List CT} {a:AV} (h:cB (.sl cs) a):iP a≤maxLen∧∀ i j c,i<iP a→cs[j]? = some c→cB c (l3 a i j):=by
 cases h with
 | sl hn h=>exact ⟨hn,h⟩
theorem cB.yU {k:IntKind} {a:AV} (h:cB (.int k) a):(Lit.int k (aE a)).wf=true:=zz h
theorem qz {β:bu} {w:World} {l:List AV} {vs:Array Value} (h:Rel β w (.agg l) (.agg vs)):l.length=vs.size∧∀ (j:Nat) u v,l[j]? = some u→vs[j]? = some v→Rel β w u v:=by cases h<;>grind
section
open Go.ChangeShapes Go.WideShapes Go.ChangeAt
variable {H : Type} {enc : TypeId × Value → H} {P : Program} {W : World} {sp : Nat → Bool}
theorem AM {r:Reach} {b0:Nat} {t:TypeId} {v:Value} {d:DataW H} {ps:List MemPlace} {ts:List CT} {ag:Bool} (ht:fR P t=some ag)
  (hsh:shape P 9 t=some ts) (hv:Value.okWide P W r b0 t v) (h:DataW.Trod enc P W 0 sp true t v d ps):∃ cs:List Value,Fits W ts cs∧(ag=true→v=.agg cs.toArray)∧(ag=false→cs=[v]):=by
 cases ag with
 | true =>
  grind [Cn]
 | false =>
  obtain ⟨fuel,hf⟩:=h
  have hc:v.cells.toList=[v]:=by
   simp only [shape] at hsh
   split at hsh
   ·rename_i hu;obtain ⟨b,rfl⟩:=okWide_bool hu hv;rfl
   ·rename_i k hu;obtain ⟨n,rfl⟩:=okWide_int hu hv;rfl
   ·rename_i hu;obtain ⟨n,rfl⟩:=okWide_string hu hv;rfl
   ·rename_i e hu;obtain ⟨a,l,c,rfl⟩:=okWide_slice hu hv;rfl
   ·simp_all [fR]
   ·simp_all [fR]
   grind
  rw [hc] at hf
  exact ⟨[v],qM 9 t fuel _ _ ts hf hsh,fun h=>by grind,fun _=>rfl⟩
def mB (P:Program):List TypeId→Option (List (Bool×List CT))
 | []=>some []
 | t::ts=>match fR P t,shape P 9 t,mB P ts with
  | some b,some l,some r=>some ((b,l)::r)
  | _,_,_=>none
def kB:List (Bool×List CT)→(Nat→Nat→AV)→Nat→List AV
 | [],_,_=>[]
 | (true,ts)::S,G,n=>.agg (cZ ts (G n) 0)::kB S G (n+1)
 | (false,ts)::S,G,n=>aQ (cZ ts (G n) 0) 0::kB S G (n+1)
theorem uC {r:Reach} {b0:Nat}:∀ {ts:List TypeId} {vs:List Value} {ds:List (DataW H)} {ps:List MemPlace} {S:List (Bool×List CT)} (n:Nat),mB P ts=some S→DataW.TrodAll enc P W 0 sp true ts vs ds ps →
  (∀ (j:Nat) t v,ts[j]? = some t→vs[j]? = some v→Value.okWide P W r b0 t v) →
  ∃ G:Nat→Nat→AV,(∀ (k:Nat) s,S[k]? = some s→∀ (j:Nat) c,s.2[j]? = some c→cB c (G (n+k) j))∧eR qj W (kB S G n) vs.toArray∧∃ f:Nat→DataW H,ds=(List.range S.length).map f
 | [],[],[],_,S,n,hS,hA,_=>by
  simp [mB] at hS;subst hS
  exact ⟨fun _ _=>.bx,fun k s h=>by grind,eR.nil,fun _=>.nil,rfl⟩
 | t::ts,v::vs,d::ds,ps,S,n,hS,hA,hok=>by
  obtain ⟨p,q,h1,h2,rfl⟩:=hA
  simp only [mB] at hS
  split at hS
  rotate_left
  ·grind
  rename_i b l r' e1 e2 e3
  cases hS
  obtain ⟨cs,hf,g1,g2⟩:=AM e1 e2 (hok 0 t v rfl rfl) h1
  obtain ⟨g,hg,hr⟩:=hf.canon
  obtain ⟨G,hG,hR,f,hds⟩:=uC (n+1) e3 h2 (fun j t v ht hv=>hok (j+1) t v (by grind) (by grind))
  have hne:∀ k,Nat.beq (n+1+k) n=false:=fun k=>by grind [Nat.beq,Nat.eq_of_beq_eq_true]
  let G':Nat→Nat→AV:=fun m=>bif Nat.beq m n then g else G m
  have hG':∀ k,G' (n+1+k)=G (n+1+k):=fun k=>by grind
  have hGn:G' n=g:=by grind [Nat.beq,Nat.beq_refl]
  have hargs:∀ (S':List (Bool×List CT)) (k:Nat),kB S' G' (n+1+k)=kB S' G (n+1+k):=by
   intro S'
   induction S' with
   | nil=>intro k;rfl
   | cons x S' ih =>
    intro k
    obtain ⟨xb,xl⟩:=x
    cases xb<;>simp only [kB,hG']<;>rw [show n+1+k+1=n+1+(k+1) by omega,ih]
  refine ⟨G',fun k s hs j c hc=>?_,?_,fun m=>bif Nat.beq m 0 then d else f (m - 1),?_⟩
  ·grind
  ·have h0:=hargs r' 0
   rw [Nat.add_zero] at h0
   cases b with
   | true =>
    have:=g1 rfl;subst this
    simp only [kB,hGn,h0]
    exact eR.cons hr hR
   | false =>
    have:=g2 rfl;subst this
    simp only [kB,hGn,h0]
    refine eR.cons ?_ hR
    obtain ⟨hl,hrr⟩:=qz hr
    have hlen:l.length=1:=by rw [← hf.len];rfl
    have e0:l[0]? = some l[0]:=by simp
    refine hrr 0 _ v ?_ rfl
    grind [aQ,iy]
  ·rw [hds]
   simp [List.range_succ_eq_map]
   exact fun a _=>rfl
 | [],_::_,_,_,_,_,_,h,_=>h.elim
 | [],[],_::_,_,_,_,_,h,_=>h.elim
 | _::_,[],_,_,_,_,_,h,_=>h.elim
 | _::_,_::_,[],_,_,_,_,h,_=>h.elim
end
end Go.Am

namespace Go.Sp
open Go.IntKind (wrap)
open Int (toNat)
open Go Go.Am
def qD (v:Int) (size:Nat):List Int:=(List.range size).map (dA v size)
theorem gQ (v:Int) (size:Nat):(qD v size).length=size:=by simp [qD]
theorem mz (a b:List Int) (i:Nat):(a++b).getD i 0=bif Nat.blt i a.length then a.getD i 0 else b.getD (i - a.length) 0:=by grind [cD,dn,Nat.le_of_not_lt]
theorem getD_map {n:Nat} {f:Nat→Int} {i:Nat} (h:i<n):((List.range n).map f).getD i 0=f i:=by grind
inductive It where
  | int (n : Int)
  | dz (n : Nat) (f : Nat → Int)
  | li (n : Nat) (c : Nat → It)
namespace It
def kind:It→Int|int _=>1|dz _ _=>2|li _ _=>3
def num:It→Int|int n=>n|_=>0
def nb:It→Nat|dz n _=>n|_=>0
def fb:It→Nat→Int|dz _ f=>f|_=>fun _=>0
def nl:It→Nat|li n _=>n|_=>0
def row:It→Nat→Nat→AV
 | li _ c=>fun i j=>aQ [.int .i64 (c i).kind,.int .i64 (c i).num,dC (c i).nb (c i).fb,.aH 4 (c i).nl (row (c i))] j
 | _=>fun _ _=>.bx
def cells (x:It):List AV:=[.int .i64 x.kind,.int .i64 x.num,dC x.nb x.fb,.aH 4 x.nl x.row]
def av (x:It):AV:=.agg x.cells
def sl (n:Nat) (c:Nat→It):AV:=.aH 4 n (fun i j=>aQ (c i).cells j)
def enc:It→List Int
 | int n=>1::qD (IntKind.wrap .u64 n) 8
 | dz n f=>2::(qD n 4++(List.range n).map f)
 | li n c=>3::(qD n 4++(List.range n).flatMap fun i=>enc (c i))
def pB:It→Int→Bool
 | li n c,d=>decide (0<d)&&Nat.ble n 1000&&(List.range n).all (fun i=>pB (c i) (d - 1))
 | _,_=>true
def lE (n:Nat) (c:Nat→It) (k:Nat):List Int:=3::(qD n 4++(List.range k).flatMap fun i=>(c i).enc)
theorem p6 (n:Nat) (c:Nat→It):(li n c).enc=lE n c n:=rfl
theorem iD (n:Nat) (c:Nat→It):lE n c 0=3::qD n 4:=by rfl
theorem fl (n:Nat) (c:Nat→It) (k:Nat):lE n c (k+1)=lE n c k++(c k).enc:=by
 simp [lE,List.range_succ]
theorem oC (n:Nat) (c:Nat→It) {k j:Nat} (h:k≤j):(lE n c k).length≤(lE n c j).length:=by
 induction j with
 | zero=>grind
 | succ j ih =>
  by_cases e:k=j+1
  ·grind
  grind [fl,List.length_append]
theorem Fk (x:It):1≤x.enc.length:=by cases x<;>simp [enc]
theorem ky (n:Nat) (c:Nat→It) (k:Nat):5+k≤(lE n c k).length:=by induction k<;>grind [lE,gQ,Fk,fl,List.length_append]
theorem rh {n:Nat} {c:Nat→It} {i:Nat} (h:i<n):(c i).enc.length+5≤(li n c).enc.length:=by
 have h1:=oC n c (show i+1≤n by omega)
 grind [ky,fl,List.length_append,p6]
theorem II {n:Nat} {c:Nat→It} {d:Int} (h:(li n c).pB d=true):0<d∧n≤1000∧∀ i,i<n→(c i).pB (d - 1)=true:=by simp_all [pB,Bool.and_eq_true,decide_eq_true_eq,List.all_eq_true,List.mem_range,Nat.ble_eq]
end It
end Go.Sp
namespace Go.Sp
open Go Go.Am
namespace It
def okB:It→Prop
 | int _=>True
 | dz n f=>cS f n
 | li n c=>∀ i,i<n→okB (c i)
def inB (l:List Int):Prop:=∀ v,v∈l→0≤v∧v<256
theorem oW {v:Int} {l:List Int} (h:0≤v∧v<256) (h':inB l):inB (v::l):=fun x hx=>by
 rcases List.mem_cons.1 hx with e|e
 ·omega
 ·exact h' x e
theorem xF {a b:List Int} (h:inB a) (h':inB b):inB (a++b):=fun x hx=>by
 rcases List.mem_append.1 hx with e|e
 ·exact h x e
 ·exact h' x e
theorem wt (v:Int) (size:Nat):inB (qD v size):=fun x hx=>by
 obtain ⟨i,_,rfl⟩:=List.mem_map.1 hx
 exact ⟨Int.emod_nonneg _ (by decide),Int.emod_lt_of_pos _ (by decide)⟩
theorem JL {l:List Int} (h:inB l):cS (fun i=>l.getD i 0) l.length:=fun i hi=>by
 have e:l.getD i 0=l[i]:=by grind
 show 0≤l.getD i 0∧l.getD i 0<256
 rw [e]
 exact h _ (List.getElem_mem hi)
theorem yv:∀ x:It,x.okB→inB x.enc
 | int n,_=>oW (by decide) (wt _ _)
 | dz n f,h=>oW (by decide) (xF (wt _ _) fun x hx=>by
   obtain ⟨i,hi,rfl⟩:=List.mem_map.1 hx
   exact h i (List.mem_range.1 hi))
 | li n c,h=>oW (by decide) (xF (wt _ _) fun x hx=>by
   obtain ⟨i,hi,hx⟩:=List.mem_flatMap.1 hx
   exact yv (c i) (h i (List.mem_range.1 hi)) x hx)
theorem ib {x:It} (h:x.okB):cS (fun i=>x.enc.getD i 0) x.enc.length:=JL (yv x h)
end It
structure bD where
  jl : Int
  fK : Int
  gx : Int
  depth : Int
  a : Int
  root : Nat → Int
  z : Int
  sa : Int
  sb : Int
  r : Int
def bD.cells (c:bD):List AV:=[.int .i64 c.jl,.int .i64 c.fK,.int .i64 c.gx,.int .i64 c.depth,.int .i64 c.a]++(bf c.root++[.int .i64 c.z,.int .i64 c.sa,.int .i64 c.sb,.int .i64 c.r])
def bD.av (c:bD):AV:=.agg c.cells
structure je where
  bM : Nat → Int
  time : Int
  number : Int
def je.cells (x:je):List AV:=bf x.bM++[.int .i64 x.time,.int .i64 x.number]
def je.av (x:je):AV:=.agg x.cells
def be (l:List Int):It:=.li l.length fun i=>.int (l.getD i 0)
def kQ (l:List It):It:=.li l.length fun i=>l.getD i (.int 0)
def bD.it (c:bD):It:=kQ [be [c.jl,c.fK,c.gx,c.depth,c.a],.dz 32 c.root,be [c.z,c.sa,c.sb,c.r]]
def jm (s:ByteArray) (x:It):Nat→Int:=et s x.enc.length fun i=>x.enc.getD i 0
def bD.kV (c:bD):Nat→Int:=jm "specie/coin-item".toUTF8 c.it
def ef (c:bD) (l i:Int) (x:je):It:=kQ [.dz 32 c.kV,be [l,i],.dz 32 x.bM,be [x.time,x.number]]
def dW (q:Int) (c:bD) (l i:Int) (x:je):Int:=cE (jm "specie/spend".toUTF8 (ef c l i x)) q 16
end Go.Sp
namespace Go.Sp
open Go Go.Am
theorem Hy {os:List (Option Ob)} {n:Nat} {f:Nat→Nat→Int} {l:List Int} (hn:n=l.length) (h:∀ i,i<n→f i 0=l.getD i 0):ay os (.aH 1 n fun i j=>.int .u8 (f i j)) (il .u8 l) :=
 ji (g:=fun i _=>l.getD i 0) hn h
theorem kU {os:List (Option Ob)} {mu:Bool} {n:Nat} {f:Nat→Nat→Int} {l:List Int} (hn:n=l.length) (h:∀ i,i<n→f i 0=l.getD i 0) :
  aJ os ⟨1,n,mu,.fn fun i j=>.int .u8 (f i j)⟩ ⟨1,l.length,mu,.fn (vF .u8 l)⟩:=by
 refine ⟨rfl,hn,rfl,fun i j hi hj=>ay.of_eq ?_⟩
 obtain rfl:j=0:=Nat.lt_one_iff.1 hj
 exact congrArg _ (h i hi)
theorem F0 {os:List (Option Ob)} {mu:Bool} {n:Nat} {a b l:List Int} (hl:l=a++b) (hn:n=a.length+b.length) :
  aJ os ⟨1,n,mu,.fn fun i _=>.int .u8 (bif Nat.blt i a.length then a.getD i 0 else b.getD (i - a.length) 0)⟩ ⟨1,l.length,mu,.fn (vF .u8 l)⟩ :=
 kU (f:=fun i _=>bif Nat.blt i a.length then a.getD i 0 else b.getD (i - a.length) 0) (by grind) (fun i _=>by rw [hl,mz])
theorem CZ {v w:Int} {size i:Nat} (hi:i<1+size):(bif Nat.blt i 1 then v else dA w size (i - 1))=(v::qD w size).getD i 0:=by
 cases i with
 | zero=>rfl
 | succ i =>
  grind [dn,dA,qD,getD_map]
theorem Mc {v w:Int} {n i:Nat} {f:Nat→Int} (hi:i<5+n):(bif Nat.blt i 5 then bif Nat.blt i 1 then v else dA w 4 (i - 1) else f (i - 5))=(v::(qD w 4++(List.range n).map f)).getD i 0:=by grind [qD,List.range,gQ,mz,cD,CZ,dn,Nat.le_of_not_lt,getD_map]
theorem im (n:Int):0≤IntKind.wrap .u64 n∧IntKind.wrap .u64 n<18446744073709551616:=by grind [i9]
theorem jh (n:Nat) (f:Nat→Int):(It.dz n f).enc.length=5+n:=by grind [It.enc,gQ]
theorem xO {v : Int} {size t : Nat} (ht : t < size) (h8 : size ≤ 8) : IntKind.wrap .u8 (v.fdiv (2 ^ min (Int.toNat (IntKind.wrap .i64 (8 * ((size : Int) - 1 - t)))) 64)) = dA v size t := by
  have e : min (Int.toNat (IntKind.wrap .i64 (8 * ((size : Int) - 1 - t)))) 64 = 8 * (size - 1 - t) := by grind [wI]
  rw [e, wD, Int.fdiv_eq_ediv_of_nonneg _ (Int.pow_nonneg (by decide))]
  show v / 2 ^ (8 * (size - 1 - t)) % 256 = v / 256 ^ (size - 1 - t) % 256
  simp [Int.pow_mul]
theorem GI {os:List (Option Ob)} {mu:Bool} {n n':Nat} {f:Nat→Nat→Int} {g:Nat→Int} (hn:n=n'):aJ os ⟨1,n,mu,.fn fun i j=>.int .u8 (f i j)⟩ ⟨1,n',mu,.fn fun i j=>.int .u8 (bif Nat.blt i n then f i j else g i)⟩:=by
 subst hn
 refine ⟨rfl,rfl,rfl,fun i j hi _=>ay.of_eq ?_⟩
 have hi:i<n:=hi
 show AV.int .u8 (f i j)=.int .u8 (bif Nat.blt i n then f i j else g i)
 grind [cD]
theorem B0 {os:List (Option Ob)} {mu:Bool} {n':Nat} {b:Int} {g:Nat→Int} (hn:1=n'):aJ os ⟨1,1,mu,.bc [[.int .u8 b]]⟩ ⟨1,n',mu,.fn fun i _=>.int .u8 (bif Nat.blt i 1 then b else g i)⟩:=by
 subst hn
 refine ⟨rfl,rfl,rfl,fun i j hi hj=>ay.of_eq ?_⟩
 obtain rfl:i=0:=Nat.lt_one_iff.1 hi
 obtain rfl:j=0:=Nat.lt_one_iff.1 hj
 rfl
theorem td {os:List (Option Ob)} {mu:Bool} {a b:List Int} (h:b=a):aJ os ⟨1,a.length,mu,.fn (vF .u8 a)⟩ ⟨1,b.length,mu,.fn (vF .u8 b)⟩:=by
 subst h
 exact .refl _
theorem iv (n:Int):(It.int n).enc.length=9:=by rfl
theorem Bz (l:List Int) (n:Int):l.length+1+8=(l++(It.int n).enc).length:=by rw [List.length_append,iv]
theorem v8 (l:List Int) (n:Nat) (f:Nat→Int):l.length+1+4+n=(l++(It.dz n f).enc).length:=by grind [List.length_append,jh]
end Go.Sp
namespace Go.Sp
open Go Go.Am
theorem z4 {n k k' size:Nat} {v:Int} {y:Int} {i:Nat} (hk:k'=k+1) (hi:i<n+k') {x:Int} (hx:x=dA v size k) :
  (bif Nat.blt i (n+k) then (bif Nat.blt i n then y else dA v size (i - n)) else x)=bif Nat.blt i n then y else dA v size (i - n):=by grind [cD,dn,Nat.le_of_not_lt,dA]
theorem uh {os:List (Option Ob)} {mu:Bool} {n t size:Nat} {v X:Int} {f:Nat→Nat→Int} (hX:X=dA v size t) :
  aJ os ⟨1,n+t+1,mu,.fn fun i j=>.int .u8 (bif Nat.blt i (n+t) then (bif Nat.blt i n then f i j else dA v size (i - n)) else aE (aQ [.int .u8 X] j))⟩ ⟨1,n+(t+1),mu,.fn fun i j=>.int .u8 (bif Nat.blt i n then f i j else dA v size (i - n))⟩:=by
 refine ⟨rfl,rfl,rfl,fun i j hi hj=>ay.of_eq ?_⟩
 obtain rfl:j=0:=Nat.lt_one_iff.1 hj
 exact congrArg (AV.int .u8) (z4 (n:=n) (k:=t) (size:=size) (v:=v) (y:=f i 0) rfl hi hX)
theorem wr1 {l:List Int} {v w:Int} {size i:Nat} (hi:i<l.length+1+size) :
  (bif Nat.blt i (l.length+1) then (bif Nat.blt i l.length then l.getD i 0 else v) else dA w size (i - (l.length+1)))=(l++(v::qD w size)).getD i 0:=by grind [qD,mz,cD,dn,Nat.le_of_not_lt,dA,List.range,getD_map]
theorem wr2 {l:List Int} {v w:Int} {n i:Nat} {f:Nat→Int} (hi:i<l.length+1+4+n) :
  (bif Nat.blt i (l.length+1+4) then (bif Nat.blt i (l.length+1) then (bif Nat.blt i l.length then l.getD i 0 else v) else dA w 4 (i - (l.length+1))) else f (i - (l.length+1+4)))=(l++(v::(qD w 4++(List.range n).map f))).getD i 0:=by
 have e:l++(v::(qD w 4++(List.range n).map f))=(l++(v::qD w 4))++(List.range n).map f:=by simp
 have hl:(l++(v::qD w 4)).length=l.length+1+4:=by simp [gQ]
 rw [e,mz,hl]
 grind [cD,wr1,dn,Nat.le_of_not_lt,getD_map]
end Go.Sp
namespace Go.Sp
open Go Go.Am
theorem L9 (d:Int) (n:Nat) (p:Nat→Bool):(decide (d>0)&&decide ((n:Int)≤1000) && !decide (aG p n 0≥0))=(decide (0<d)&&Nat.ble n 1000&&(List.range n).all fun i => !p i):=by
 have e1:decide ((n:Int)≤1000)=Nat.ble n 1000:=by
  rw [Bool.eq_iff_iff,Nat.ble_eq,decide_eq_true_eq]
  omega
 have e2:(!decide (aG p n 0≥0))=(List.range n).all fun i => !p i:=by simp [gH,List.not_any_eq_all_not,Nat.zero_add]
 grind
end Go.Sp
namespace Go.Sp
open Go Go.Am
theorem E4 {os:List (Option Ob)} {v w:Int} (h:v=w):cV os [.int .i64 1,.int .i64 v,.bn,.bn] (It.int w).cells:=by subst h;exact ⟨ay.refl _,ay.refl _,ay.bn,ay.bn,trivial⟩
theorem yn {os:List (Option Ob)} (n:Nat) (f:Nat→Int):cV os [.int .i64 2,.int .i64 0,dC n f,.bn] (It.dz n f).cells:=⟨ay.refl _,ay.refl _,ay.refl _,ay.bn,trivial⟩
theorem pQ {os:List (Option Ob)} {mu:Bool} {l:List Int} {n n':Nat} {v:Int} (hn:n'=n+1) (h:v=l.getD n 0) :
  aJ os ⟨4,n+1,mu,.cat n (.row fun i=>(It.int (l.getD i 0)).cells) (.bc [[.int .i64 1,.int .i64 v,.bn,.bn]])⟩ ⟨4,n',mu,.row fun i=>(It.int (l.getD i 0)).cells⟩ :=
 aJ.pS (c:=fun i=>(It.int (l.getD i 0)).cells) (c':=fun i=>(It.int (l.getD i 0)).cells) hn (fun _ _=>cV.refl _) (E4 h)
theorem Gv {os:List (Option Ob)} {es:Nat} {mu:Bool} {a b a' b':List AV} (h:cV os a a') (h':cV os b b'):aJ os ⟨es,2,mu,.bc [a,b]⟩ ⟨es,2,mu,.bc [a',b']⟩ :=
 ⟨rfl,rfl,rfl,fun i j hi _=>by
  have hi:i<2:=hi
  match i,hi with
  | 0,_=>exact ay.aQ h j
  | 1,_=>exact ay.aQ h' j⟩
theorem pn {os:List (Option Ob)} {l:List Int} {n:Nat} (h:n=l.length):ay os (.agg [.int .i64 3,.int .i64 0,.bn,.aH 4 n fun r k=>aQ (It.int (l.getD r 0)).cells k]) (be l).av:=by
 subst h
 exact ay.agg ⟨ay.refl _,ay.refl _,ay.bn,ay.refl _,trivial⟩
theorem eN {os:List (Option Ob)} {k:IntKind} {R:List (List AV)} {l:List Int} {n:Nat} (hn:n=l.length) (h:R=l.map fun v=>[.int k v]):ay os (.aH 1 n fun r j=>aQ (R.getD r []) j) (il k l):=by
 subst hn
 refine ay.aH fun i j hi hj=>?_
 obtain rfl:j=0:=Nat.lt_one_iff.1 hj
 subst h
 simp [aQ,vF,List.getD_eq_getElem?_getD,hi]
end Go.Sp
namespace Go.Sp
open Go Go.Am
theorem DS {os:List (Option Ob)} {f:Nat→Int} {n:Nat} (h:n=32):ay os (.agg [.int .i64 2,.int .i64 0,.aH 1 n fun i _=>.int .u8 (f i),.bn]) (It.dz 32 f).av:=by
 subst h
 exact ay.agg (yn 32 f)
end Go.Sp
namespace Go.Sp
open Go Go.Am
theorem Aq {a b:List AV} {i:Nat}:aQ (a++b) (a.length+i)=aQ b i:=by simp [aQ,List.getD_eq_getElem?_getD,List.getElem?_append_right,Nat.le_add_right,Nat.add_sub_cancel_left]
theorem BA {a b:List AV} {i:Nat} (h:i<a.length):aQ (a++b) i=aQ a i:=by grind [aQ,List.getElem?_append_left]
theorem bD.yH (c:bD) {i:Nat} (h:i<32):aE (aQ c.cells (5+i))=c.root i:=by
 have e:aQ c.cells (5+i)=aQ (bf c.root++[.int .i64 c.z,.int .i64 c.sa,.int .i64 c.sb,.int .i64 c.r]) i:=Aq (a:=[.int .i64 c.jl,.int .i64 c.fK,.int .i64 c.gx,.int .i64 c.depth,.int .i64 c.a]) (i:=i)
 rw [e,BA (show i<(bf c.root).length from h)]
 exact eV h
theorem It.H8:∀ x:It,Cl (.aH 4 x.nl x.row)
 | .int _=>.aH (fun i j h=>absurd h (Nat.not_lt_zero _))
 | .dz _ _=>.aH (fun i j h=>absurd h (Nat.not_lt_zero _))
 | .li n c=>.aH (fun i j _ hj=>by
  have ih:=It.H8 (c i)
  show Cl (aQ [.int .i64 (c i).kind,.int .i64 (c i).num,dC (c i).nb (c i).fb,.aH 4 (c i).nl (It.row (c i))] j)
  match j,hj with
  | 0,_=>exact .int
  | 1,_=>exact .int
  | 2,_=>exact .aH (fun _ _ _ _=>.int)
  | 3,_=>exact ih)
theorem It.HP (x:It) (j:Nat) (hj:j<4):Cl (aQ x.cells j):=by
 match j,hj with
 | 0,_=>exact .int
 | 1,_=>exact .int
 | 2,_=>exact .aH (fun _ _ _ _=>.int)
 | 3,_=>exact x.H8
theorem CF {os:List (Option Ob)} {R:List (List AV)} {L:List It} {n:Nat} (hn:n=L.length) (h:∀ i,i<n→cV os (R.getD i []) (L.getD i (.int 0)).cells) :
  ay os (.agg [.int .i64 3,.int .i64 0,.bn,.aH 4 n fun r k=>aQ (R.getD r []) k]) (kQ L).av:=by
 subst hn
 exact ay.agg ⟨ay.refl _,ay.refl _,ay.bn,ay.BD (fun i j hi hj=>⟨ay.aQ (h i hi) j,It.HP _ j hj⟩),trivial⟩
theorem xT {os:List (Option Ob)} {a b c:List AV} {x y z:It} (ha:cV os a x.cells) (hb:cV os b y.cells) (hc:cV os c z.cells) :
  ay os (.agg [.int .i64 3,.int .i64 0,.bn,.aH 4 3 fun r k=>aQ (List.getD [a,b,c] r []) k]) (kQ [x,y,z]).av :=
 CF (L:=[x,y,z]) rfl fun i hi=>match i,hi with
  | 0,_=>ha
  | 1,_=>hb
  | 2,_=>hc
theorem xx {os:List (Option Ob)} {a b c d:List AV} {x y z w:It} (ha:cV os a x.cells) (hb:cV os b y.cells) (hc:cV os c z.cells) (hd:cV os d w.cells) :
  ay os (.agg [.int .i64 3,.int .i64 0,.bn,.aH 4 4 fun r k=>aQ (List.getD [a,b,c,d] r []) k]) (kQ [x,y,z,w]).av :=
 CF (L:=[x,y,z,w]) rfl fun i hi=>match i,hi with
  | 0,_=>ha
  | 1,_=>hb
  | 2,_=>hc
  | 3,_=>hd
end Go.Sp
namespace Go.Sp
open Go Go.Am
theorem bD.Nq (c:bD):c.it.pB 8=true:=by rfl
theorem lA (l:List Int):(be l).okB:=fun _ _=>trivial
theorem yk {L:List It} (h:∀ x,x∈L→x.okB):(kQ L).okB:=fun i hi=>by grind
theorem z2 (l:List Int):(be l).enc.length=5+9*l.length:=by
 have h:∀ (c:Nat→It) (k:Nat),(∀ i,(c i).enc.length=9)→∀ n,(It.lE n c k).length=5+9*k:=fun c k hc n=>by induction k<;>grind [It.iD,gQ,It.fl,List.length_append]
 exact h _ _ (fun i=>iv _) _
theorem bD.sH (c:bD):c.it.enc.length=133:=by rfl
theorem bD.CN {c:bD} (h:cS c.root 32):c.it.okB:=yk fun x hx=>by
 simp only [List.mem_cons,List.not_mem_nil,or_false] at hx
 rcases hx with e|e|e
 ·grind [lA]
 ·exact e▸h
 grind [lA]
theorem bD.JH (c:bD):cS c.kV 32:=fun i _=>pA _ _ i
theorem ja (s:ByteArray) (x:It) (n:Nat):cS (jm s x) n:=fun i _=>pA _ _ i
theorem G1 (c:bD) (l i:Int) (x:je):(ef c l i x).pB 8=true:=by rfl
theorem mL (c:bD) (l i:Int) (x:je):(ef c l i x).enc.length=125:=by rfl
theorem ve {c:bD} {l i:Int} {x:je} (h:cS x.bM 32):(ef c l i x).okB:=yk fun y hy=>by
 simp only [List.mem_cons,List.not_mem_nil,or_false] at hy
 rcases hy with e|e|e|e
 ·exact e▸c.JH
 ·grind [lA]
 ·exact e▸h
 grind [lA]
end Go.Sp

namespace Go.Proofs.YtpefjkpdniiaoaaGreatDoor
open Go.IntKind (wrap)
open Int (toNat)
open Go Go.Am Go.Sp
set_option maxRecDepth 100000
theorem En (n:Int):Pure Tryz.prog aZ 206 [.agg [.int .i64 1,.int .i64 n,dC 0 (fun _=>0),.aH 4 0 (fun _ _=>.bx)]] (il .u8 (It.int n).enc):=by
 have hw:=im n
 refine ar (own:=bq) Tryz.func206 (by kernel_rfl) mixed (by kernel_rfl)
  (.tt (.dc true 259 [Zu (wrap .u64 n),Zi 8] (dC 8 (dA (wrap .u64 n) 8)) (.bj (9≤140737488355328) (.out (.aH 1 9 fun r k=>Zb (bif Nat.blt (r+0) 1 then aE (aQ [Zb 1] k) else dA (wrap .u64 n) 8 (r+0 - 1))) [] (il IntKind.u8 (It.enc (It.int n))) []))))
  (by kernel_rfl) ?_
 refine gp ?_
 refine b9 (tF (wrap .u64 n) (by omega) (by omega) (8) (by omega) (by omega)) ?_
 refine aD (by omega) ?_
 exact aq (Hy rfl (fun i hi=>CZ hi))
theorem Bp (n:Nat) (f:Nat→Int) (hn:n≤1099511627776):Pure Tryz.prog aZ 206 [.agg [.int .i64 2,.int .i64 0,dC n f,.aH 4 0 (fun _ _=>.bx)]] (il .u8 (It.dz n f).enc):=by
 have hw:=im n
 have e:IntKind.wrap .u64 (n:Int)=n:=dy (by omega) (by omega)
 refine ar (own:=bq) Tryz.func206 (by kernel_rfl) mixed (by kernel_rfl)
  (.ff (.tt (.dc true 259 [Zu (wrap .u64 (n:Int)),Zi 4] (dC 4 (dA (wrap .u64 (n:Int)) 4)) (.bj (5≤140737488355328) (.bj ((5+n)*1≤140737488355328) (.out (.aH 1 (5+n) fun r k=>Zb (bif Nat.blt (r+0) 5 then bif Nat.blt (r+0) 1 then aE (aQ [Zb 2] k) else dA (wrap .u64 (n:Int)) 4 (r+0 - 1) else f (r+0 - 5))) [] (il IntKind.u8 (It.enc (It.dz n f))) []))))))
  (by kernel_rfl) ?_
 refine cz ?_
 refine gp ?_
 refine b9 (tF (wrap .u64 (↑n:Int)) (by omega) (by omega) (4) (by omega) (by omega)) ?_
 refine aD (by omega) ?_
 refine aD (by omega) ?_
 exact aq (Hy (jh n f).symm (fun i hi=>by
                                                                                                     rw [e]
                                                                                                     exact Mc hi))
theorem EY (n:Nat) (c:Nat→It) (E A:Nat→List Int) (hn:n≤1099511627776) (h0:A 0=3::qD n 4) (hE:∀ k,A (k+1)=A k++E k) (hA:∀ k,k≤n→(A k).length≤1099511627776)
  (hc:∀ i,i<n→Pure Tryz.prog aZ 206 [(c i).av] (il .u8 (E i))):Pure Tryz.prog aZ 206 [.agg [.int .i64 3,.int .i64 0,dC 0 (fun _=>0),It.sl n c]] (il .u8 (A n)):=by
 have hw:=im n
 have e:IntKind.wrap .u64 (n:Int)=n:=dy (by omega) (by omega)
 have l0:(A 0).length=5:=by rw [h0];simp [gQ]
 have ls:∀ k,(A (k+1)).length=(A k).length+(E k).length:=fun k=>by rw [hE,List.length_append]
 refine ar (own:=bq) Tryz.func206 (by kernel_rfl) mixed (by kernel_rfl)
  (let y0:List AV:=[Zi 3,Zi 0,.aH 1 0 fun i x=>Zb 0,.aH 4 n fun i j=>aQ (It.cells (c i)) j];let y1:=(fun (x:{ x:Nat // x≤n })=>aY [1,3,4] [.own 0 4 0 0 4,.ba 1 1 0 (List.length (A (x.1))),Zi x.1] [some ⟨4,1,true,.bc [y0]⟩,m6 IntKind.u8 (A (x.1))]);let y2:=(fun (x:{ x:Nat // x≤n })=>n - x.1);(.ff (.ff (.dc true 259 [Zu (wrap .u64 (n:Int)),Zi 4] (dC 4 (dA (wrap .u64 (n:Int)) 4)) (.bj (5≤140737488355328) (.loop ({ x:Nat // x≤n }) y1 y2 (⟨0,Nat.zero_le n⟩) [1,3,4] [0,112] [.own 0 4 0 0 4,.ba 1 1 0 5,Zi 0] [some ⟨4,1,true,.bc [y0]⟩,some ⟨1,5,true,.fn fun i j=>Zb (bif Nat.blt i 1 then aE (aQ [Zb 3] j) else dA (wrap .u64 (n:Int)) 4 (i - 1))⟩] (fun x4=>(.br (decide ((x4.1:Int)<(n:Int))) (.bj (0≤(x4.1:Int)∧(x4.1:Int)<(n:Int)) (.dc true 206 [.agg [Zi (It.kind (c (toNat (x4.1:Int)))),Zi (It.num (c (toNat (x4.1:Int)))),.aH 1 (It.nb (c (toNat (x4.1:Int)))) fun i x=>Zb (It.fb (c (toNat (x4.1:Int))) i),.aH 4 (It.nl (c (toNat (x4.1:Int)))) (It.row (c (toNat (x4.1:Int))))]] (il IntKind.u8 (E (toNat (x4.1:Int)))) (.bj ((List.length (A (x4.1))+List.length (E (toNat (x4.1:Int))))*1≤140737488355328) (.again (bh 0 y1 y2 x4) [1,3,4] [0,98] [.own 0 4 0 0 4,.ba 1 1 0 (List.length (A (x4.1))+List.length (E (toNat (x4.1:Int)))),Zi (wrap .i64 ((x4.1:Int)+1))] [some ⟨4,1,true,.bc [y0]⟩,some ⟨1,List.length (A (x4.1))+List.length (E (toNat (x4.1:Int))),true,.fn fun i j=>Zb (bif Nat.blt i (List.length (A (x4.1))) then List.getD (A (x4.1)) i (0:Int) else List.getD (E (toNat (x4.1:Int))) (i - List.length (A (x4.1))) (0:Int))⟩])))) (.out (.aH 1 (List.length (A (x4.1))) fun r k=>Zb (List.getD (A (x4.1)) (r+0) (0:Int))) [] (il IntKind.u8 (A n)) [])))))))))
  (by kernel_rfl) ?_
 refine cz ?_
 refine cz ?_
 refine b9 (tF (wrap .u64 (↑n:Int)) (by omega) (by omega) (4) (by omega) (by omega)) ?_
 refine aD (by omega) ?_
 refine aV (fun _ hs=>hs.le (by repeat' (first|exact trivial|(first|exact ay.refl _|exact aK (by omega)|exact ay.nil rfl|exact ay.of_eq (congrArg (AV.ba _ _ _) (by first|omega|(dsimp only;omega)))|exact ay.of_eq (congrArg (AV.int _) (by omega)))|refine And.intro ?_ ?_)) (⟨by exact aJ.refl _,kU l0.symm (fun i hi=>by
                                                                                                     rw [e,h0]
                                                                                                     exact CZ hi),trivial⟩)) (fun x4=>?_)
 refine aL (fun h5=>?_) (fun h5=>?_)
 ·have g5:=af h5
  refine aD (by omega) ?_
  refine b9 (hc (toNat (↑x4.1:Int)) (by omega)) ?_
  refine aD (by have q1:=hA (x4.1+1) (by omega);have q2:=ls x4.1;simp only [Int.toNat_natCast];omega) ?_
  exact aN (⟨x4.1+1,by omega⟩) (fun _ hs=>hs.le (⟨by exact ay.refl _,ay.of_eq (congrArg (AV.ba 1 1 0) (ls x4.1).symm),by exact aK (by omega),trivial⟩) (⟨by exact aJ.refl _,F0 (hE x4.1) rfl,trivial⟩)) (by (dsimp only;omega))
 ·have g5:=aa h5
  exact aq (ay.of_eq (by rw [show x4.1=n by omega];rfl))
theorem l5:∀ x:It,x.enc.length≤1099511627776→Pure Tryz.prog aZ 206 [x.av] (il .u8 x.enc)
 | .int n,_=>En n
 | .dz n f,h=>Bp n f (by rw [jh] at h;omega)
 | .li n c,h=>EY n c (fun i=>(c i).enc) (It.lE n c) (by have:=It.ky n c n;rw [It.p6] at h;omega) (It.iD n c) (It.fl n c) (fun k hk=>Nat.le_trans (It.oC n c hk) h)
   (fun i hi=>l5 (c i) (by have:=It.rh (c:=c) hi;omega))
def ow3:FuncId→Option (List Bool):=fun f=>bif Nat.beq f 145||Nat.beq f 258 then some [false] else bif Nat.beq f 310 then some [true,false,false] else bif Nat.beq f 277 then some [true,false] else none
theorem pa (n:Nat) (f:Nat→Nat→Int) (v:Int) (h0:0≤v) (hv:v<18446744073709551616) (size:Nat) (h1:1≤size) (h8:size≤8) (hl:n≤1099511627776) :
  bI Tryz.prog aZ 310 [⟨1,n,true,.fn fun i j=>.int .u8 (f i j)⟩] [.ba 0 1 0 n,.int .u64 v,.int .i64 size] (.ba 1 1 0 (n+size)) [none,some ⟨1,n+size,true,.fn fun i j=>.int .u8 (bif Nat.blt i n then f i j else dA v size (i - n))⟩]:=by
 refine cg (own:=bq) (hand:=true) Tryz.func310 (by kernel_rfl) mixed (by kernel_rfl)
  (let y0:=(fun (x:{ x:Nat // x≤size })=>aY [1,0,7] [Zu v,.ba 1 1 0 (n+x.1),Zi ((size:Int) - 1 - (↑(x.1):Int))] [none,some ⟨1,n+x.1,true,.fn fun i j=>Zb (bif Nat.blt i n then f i j else dA v size (i - n))⟩]);let y1:=(fun (x:{ x:Nat // x≤size })=>size - x.1);(.loop ({ x:Nat // x≤size }) y0 y1 (⟨0,Nat.zero_le size⟩) [1,0,7] [33,0] [Zu v,.ba 1 1 0 n,Zi (wrap .i64 ((size:Int) - 1))] [none,some ⟨1,n,true,.fn fun i j=>Zb (f i j)⟩] (fun x0=>(.br (decide ((size:Int) - 1 - (x0.1:Int)≥0)) (.bj ((0:Int)≤wrap .i64 ((8:Int)*((size:Int) - 1 - (x0.1:Int)))) (.bj ((n+x0.1+1)*1≤140737488355328) (.again (bh 1 y0 y1 x0) [1,0,7] [114,74] [Zu v,.ba 1 1 0 (n+x0.1+1),Zi (wrap .i64 ((size:Int) - 1 - (x0.1:Int) - 1))] [none,some ⟨1,n+x0.1+1,true,.fn fun i j=>Zb (bif Nat.blt i (n+x0.1) then bif Nat.blt i n then f i j else dA v size (i - n) else aE (aQ [Zb (wrap .u8 (Int.fdiv v ((2:Int)^min (toNat (wrap .i64 ((8:Int)*((size:Int) - 1 - (x0.1:Int))))) 64)))] j))⟩]))) (.out (.ba 1 1 0 (n+x0.1)) [none,some ⟨1,n+x0.1,true,.fn fun i j=>Zb (bif Nat.blt i n then f i j else dA v size (i - n))⟩] (.ba 1 1 0 (n+size)) [none,some ⟨1,n+size,true,.fn fun i j=>Zb (bif Nat.blt i n then f i j else dA v size (i - n))⟩])))))
  (by kernel_rfl) ?_
 refine aV (fun _ hs=>hs.le (⟨by exact ay.refl _,by exact ay.refl _,ay.of_eq (congrArg _ (by rw [wI (by omega) (by omega)];dsimp only;omega)),trivial⟩) (⟨GI rfl,trivial⟩)) (fun x0=>?_)
 try (have q0:=x0.2;dsimp only at q0)
 refine aL (fun h1=>?_) (fun h1=>?_)
 ·have g1:=af h1
  refine aD (by rw [wI (by omega) (by omega)];omega) ?_
  refine aD (by omega) ?_
  exact aN (⟨x0.1+1,by omega⟩) (fun _ hs=>hs.le (⟨by exact ay.refl _,by exact ay.refl _,ay.of_eq (congrArg _ (by rw [wI (by omega) (by omega)];dsimp only;omega)),trivial⟩) (⟨uh (xO (by omega) h8),trivial⟩)) (by (dsimp only;omega))
 ·have g1:=aa h1
  exact da (ay.of_eq (congrArg (AV.ba 1 1 0) (by omega))) (by repeat' (first|exact trivial|(first|exact aJ.refl _|exact aJ.bx|exact aJ.zero|exact aJ.push rfl rfl|exact aJ.ct rfl|exact aJ.len (by omega)|exact aJ.row (by repeat' (first|exact trivial|(first|exact ay.refl _|exact aK (by omega)|exact ay.nil rfl|exact ay.of_eq (congrArg (AV.ba _ _ _) (by first|omega|(dsimp only;omega)))|exact ay.of_eq (congrArg (AV.int _) (by first|omega|(dsimp only;omega))))|refine And.intro ?_ ?_)))|refine And.intro ?_ ?_))
theorem pO (b:Int) (v:Int) (h0:0≤v) (hv:v<18446744073709551616) (size:Nat) (h1:1≤size) (h8:size≤8) :
  bI Tryz.prog aZ 310 [⟨1,1,true,.bc [[.int .u8 b]]⟩] [.ba 0 1 0 1,.int .u64 v,.int .i64 size] (.ba 1 1 0 (1+size)) [none,some ⟨1,1+size,true,.fn fun i _=>.int .u8 (bif Nat.blt i 1 then b else dA v size (i - 1))⟩]:=by
 refine cg (own:=bq) (hand:=true) Tryz.func310 (by kernel_rfl) mixed (by kernel_rfl)
  (let y0:=(fun (x:{ x:Nat // x≤size })=>aY [1,0,7] [Zu v,.ba 1 1 0 (1+x.1),Zi ((size:Int) - 1 - (↑(x.1):Int))] [none,some ⟨1,1+x.1,true,.fn fun i x=>Zb (bif Nat.blt i 1 then b else dA v size (i - 1))⟩]);let y1:=(fun (x:{ x:Nat // x≤size })=>size - x.1);(.loop ({ x:Nat // x≤size }) y0 y1 (⟨0,Nat.zero_le size⟩) [1,0,7] [33,0] [Zu v,.ba 1 1 0 1,Zi (wrap .i64 ((size:Int) - 1))] [none,some ⟨1,1,true,.bc [[Zb b]]⟩] (fun x0=>(.br (decide ((size:Int) - 1 - (x0.1:Int)≥0)) (.bj ((0:Int)≤wrap .i64 ((8:Int)*((size:Int) - 1 - (x0.1:Int)))) (.bj ((1+x0.1+1)*1≤140737488355328) (.again (bh 1 y0 y1 x0) [1,0,7] [114,74] [Zu v,.ba 1 1 0 (1+x0.1+1),Zi (wrap .i64 ((size:Int) - 1 - (x0.1:Int) - 1))] [none,some ⟨1,1+x0.1+1,true,.fn fun i j=>Zb (bif Nat.blt i (1+x0.1) then bif Nat.blt i 1 then b else dA v size (i - 1) else aE (aQ [Zb (wrap .u8 (Int.fdiv v ((2:Int)^min (toNat (wrap .i64 ((8:Int)*((size:Int) - 1 - (x0.1:Int))))) 64)))] j))⟩]))) (.out (.ba 1 1 0 (1+x0.1)) [none,some ⟨1,1+x0.1,true,.fn fun i j=>Zb (bif Nat.blt i 1 then b else dA v size (i - 1))⟩] (.ba 1 1 0 (1+size)) [none,some ⟨1,1+size,true,.fn fun i x=>Zb (bif Nat.blt i 1 then b else dA v size (i - 1))⟩])))))
  (by kernel_rfl) ?_
 refine aV (fun _ hs=>hs.le (⟨by exact ay.refl _,by exact ay.refl _,ay.of_eq (congrArg _ (by rw [wI (by omega) (by omega)];dsimp only;omega)),trivial⟩) (⟨B0 rfl,trivial⟩)) (fun x0=>?_)
 try (have q0:=x0.2;dsimp only at q0)
 refine aL (fun h1=>?_) (fun h1=>?_)
 ·have g1:=af h1
  refine aD (by rw [wI (by omega) (by omega)];omega) ?_
  refine aD (by omega) ?_
  exact aN (⟨x0.1+1,by omega⟩) (fun _ hs=>hs.le (⟨by exact ay.refl _,by exact ay.refl _,ay.of_eq (congrArg _ (by rw [wI (by omega) (by omega)];dsimp only;omega)),trivial⟩) (⟨uh (f:=fun _ _=>b) (xO (by omega) h8),trivial⟩)) (by (dsimp only;omega))
 ·have g1:=aa h1
  exact da (ay.of_eq (congrArg (AV.ba 1 1 0) (by omega))) (by repeat' (first|exact trivial|(first|exact aJ.refl _|exact aJ.bx|exact aJ.zero|exact aJ.push rfl rfl|exact aJ.ct rfl|exact aJ.len (by omega)|exact aJ.row (by repeat' (first|exact trivial|(first|exact ay.refl _|exact aK (by omega)|exact ay.nil rfl|exact ay.of_eq (congrArg (AV.ba _ _ _) (by first|omega|(dsimp only;omega)))|exact ay.of_eq (congrArg (AV.int _) (by first|omega|(dsimp only;omega))))|refine And.intro ?_ ?_)))|refine And.intro ?_ ?_))
theorem z5 (l:List Int) (n:Int) (hl:l.length≤16384):bI Tryz.prog aZ 277 [⟨1,l.length,true,.fn (vF .u8 l)⟩] [.ba 0 1 0 l.length,.agg [.int .i64 1,.int .i64 n,dC 0 (fun _=>0),.aH 4 0 (fun _ _=>.bx)]]
  (.ba 1 1 0 (l++(It.int n).enc).length) [none,m6 .u8 (l++(It.int n).enc)]:=by
 have hw:=im n
 refine cg (own:=ow3) (hand:=true) Tryz.func277 (by kernel_rfl) mixed (by kernel_rfl)
  (let y0:List (Option Ob):=[none,some ⟨1,List.length l+1+8,true,.fn fun i j=>Zb (bif Nat.blt i (List.length l+1) then bif Nat.blt i (List.length l) then List.getD l i (0:Int) else aE (aQ [Zb (wrap .u8 (1:Int))] j) else dA (wrap .u64 n) 8 (i - (List.length l+1)))⟩];let y1:AV:=(.ba 1 1 0 (List.length (l++It.enc (It.int n))));let y2:AV:=(.ba 1 1 0 (List.length l+1+8));(.br (decide ((↑(List.length l):Int)>16384)) (.out (.ba 0 1 0 (List.length l)) [some ⟨1,List.length l,true,.fn fun i j=>Zb (List.getD l i (0:Int))⟩] y1 [none,m6 IntKind.u8 (l++It.enc (It.int n))]) (.bj ((List.length l+1)*1≤140737488355328) (.tt (.gc 310 [⟨1,List.length l+1,true,.fn fun i j=>Zb (bif Nat.blt i (List.length l) then List.getD l i (0:Int) else aE (aQ [Zb (wrap .u8 (1:Int))] j))⟩] [.ba 0 1 0 (List.length l+1),Zu (wrap .u64 n),Zi 8] y2 (y0) (.out y2 (y0) y1 [none,m6 IntKind.u8 (l++It.enc (It.int n))]))))))
  (by kernel_rfl) ?_
 refine aL (fun h0=>?_) (fun h0=>?_)
 ·have g0:=af h0
  exact da ((by exfalso;omega)) ((by exfalso;omega))
 ·have g0:=aa h0
  refine aD (by omega) ?_
  refine gp ?_
  refine gZ (pa (List.length l+1) (fun (i j:Nat)=>bif Nat.blt i (List.length l) then List.getD l i (0:Int) else aE (aQ [Zb (wrap .u8 (1:Int))] j)) (wrap .u64 n) (by omega) (by omega) (8) (by omega) (by omega) (by omega)) ?_
  exact da (ay.of_eq (congrArg (AV.ba 1 1 0) (Bz l n))) (⟨kU (Bz l n) (fun i hi=>wr1 hi),trivial⟩)
theorem zk (l:List Int) (n:Nat) (f:Nat→Int) (hl:l.length≤16384) (hn:n≤16384):bI Tryz.prog aZ 277 [⟨1,l.length,true,.fn (vF .u8 l)⟩] [.ba 0 1 0 l.length,.agg [.int .i64 2,.int .i64 0,dC n f,.aH 4 0 (fun _ _=>.bx)]]
  (.ba 1 1 0 (l++(It.dz n f).enc).length) [none,m6 .u8 (l++(It.dz n f).enc)]:=by
 have hw:=im n
 have e:IntKind.wrap .u64 (n:Int)=n:=dy (by omega) (by omega)
 refine cg (own:=ow3) (hand:=true) Tryz.func277 (by kernel_rfl) mixed (by kernel_rfl)
  (let y0:List AV:=[Zb (wrap .u8 (2:Int))];let y1:AV:=(.ba 1 1 0 (List.length (l++It.enc (It.dz n f))));(.br (decide ((↑(List.length l):Int)>16384)) (.out (.ba 0 1 0 (List.length l)) [some ⟨1,List.length l,true,.fn fun i j=>Zb (List.getD l i (0:Int))⟩] y1 [none,m6 IntKind.u8 (l++It.enc (It.dz n f))]) (.bj ((List.length l+1)*1≤140737488355328) (.ff (.tt (.gc 310 [⟨1,List.length l+1,true,.fn fun i j=>Zb (bif Nat.blt i (List.length l) then List.getD l i (0:Int) else aE (aQ y0 j))⟩] [.ba 0 1 0 (List.length l+1),Zu (wrap .u64 (n:Int)),Zi 4] (.ba 1 1 0 (List.length l+1+4)) [none,some ⟨1,List.length l+1+4,true,.fn fun i j=>Zb (bif Nat.blt i (List.length l+1) then bif Nat.blt i (List.length l) then List.getD l i (0:Int) else aE (aQ y0 j) else dA (wrap .u64 (n:Int)) 4 (i - (List.length l+1)))⟩] (.bj ((List.length l+1+4+n)*1≤140737488355328) (.out (.ba 1 1 0 (List.length l+1+4+n)) [none,some ⟨1,List.length l+1+4+n,true,.fn fun i j=>Zb (bif Nat.blt i (List.length l+1+4) then bif Nat.blt i (List.length l+1) then bif Nat.blt i (List.length l) then List.getD l i (0:Int) else aE (aQ y0 j) else dA (wrap .u64 (n:Int)) 4 (i - (List.length l+1)) else f (i - (List.length l+1+4)))⟩] y1 [none,m6 IntKind.u8 (l++It.enc (It.dz n f))]))))))))
  (by kernel_rfl) ?_
 refine aL (fun h0=>?_) (fun h0=>?_)
 ·have g0:=af h0
  exact da ((by exfalso;omega)) ((by exfalso;omega))
 ·have g0:=aa h0
  refine aD (by omega) ?_
  refine cz ?_
  refine gp ?_
  refine gZ (pa (List.length l+1) (fun (i j:Nat)=>bif Nat.blt i (List.length l) then List.getD l i (0:Int) else aE (aQ [Zb (wrap .u8 (2:Int))] j)) (wrap .u64 (↑n:Int)) (by omega) (by omega) (4) (by omega) (by omega) (by omega)) ?_
  refine aD (by omega) ?_
  exact da (ay.of_eq (congrArg (AV.ba 1 1 0) (v8 l n f))) (⟨kU (v8 l n f) (fun i hi=>by
                                                                                                     rw [e]
                                                                                                     exact wr2 hi),trivial⟩)
theorem C7 (l:List Int) (n:Nat) (c:Nat→It) (E A:Nat→List Int) (hl:l.length≤16384) (hn:n≤16384) (hA0:A 0=l++(3::qD n 4)) (hE:∀ k,A (k+1)=A k++E k) (hA:∀ k,k≤n→(A k).length≤16384)
  (hc:∀ i,i<n→∀ l:List Int,l.length≤16384→(l++E i).length≤16384→bI Tryz.prog aZ 277 [⟨1,l.length,true,.fn (vF .u8 l)⟩] [.ba 0 1 0 l.length,(c i).av] (.ba 1 1 0 (l++E i).length) [none,m6 .u8 (l++E i)]) :
  bI Tryz.prog aZ 277 [⟨1,l.length,true,.fn (vF .u8 l)⟩] [.ba 0 1 0 l.length,.agg [.int .i64 3,.int .i64 0,dC 0 (fun _=>0),It.sl n c]] (.ba 1 1 0 (A n).length) [none,m6 .u8 (A n)]:=by
 have hw:=im n
 have e:IntKind.wrap .u64 (n:Int)=n:=dy (by omega) (by omega)
 have l0:l.length+1+4=(A 0).length:=by rw [hA0];simp [gQ]
 have ls:∀ k,(A (k+1)).length=(A k).length+(E k).length:=fun k=>by rw [hE,List.length_append]
 refine cg (own:=ow3) (hand:=true) Tryz.func277 (by kernel_rfl) mixed (by kernel_rfl)
  (let y0:List (Option Ob):=[none,some ⟨1,List.length l+1+4,true,.fn fun i j=>Zb (bif Nat.blt i (List.length l+1) then bif Nat.blt i (List.length l) then List.getD l i (0:Int) else aE (aQ [Zb (wrap .u8 (3:Int))] j) else dA (wrap .u64 (n:Int)) 4 (i - (List.length l+1)))⟩];let y1:=(fun (x:{ x:Nat // x≤n })=>aY [44,45,0,46] [.aH 4 n fun i j=>aQ (It.cells (c i)) j,Zi n,.ba 1 1 0 (List.length (A (x.1))),Zi x.1] [none,m6 IntKind.u8 (A (x.1))]);let y2:=(fun (x:{ x:Nat // x≤n })=>n - x.1);(.br (decide ((↑(List.length l):Int)>16384)) (.out (.ba 0 1 0 (List.length l)) [some ⟨1,List.length l,true,.fn fun i j=>Zb (List.getD l i (0:Int))⟩] (.ba 1 1 0 (List.length (A n))) [none,m6 IntKind.u8 (A n)]) (.bj ((List.length l+1)*1≤140737488355328) (.ff (.ff (.gc 310 [⟨1,List.length l+1,true,.fn fun i j=>Zb (bif Nat.blt i (List.length l) then List.getD l i (0:Int) else aE (aQ [Zb (wrap .u8 (3:Int))] j))⟩] [.ba 0 1 0 (List.length l+1),Zu (wrap .u64 (n:Int)),Zi 4] (.ba 1 1 0 (List.length l+1+4)) (y0) (.loop ({ x:Nat // x≤n }) y1 y2 (⟨0,Nat.zero_le n⟩) [44,45,0,46] [233,185] [.aH 4 n fun i j=>aQ (It.cells (c i)) j,Zi n,.ba 1 1 0 (List.length l+1+4),Zi 0] (y0) (fun x6=>(.br (decide ((x6.1:Int)<(n:Int))) (.bj (0≤(x6.1:Int)∧(x6.1:Int)<(n:Int)) (.gc 277 [⟨1,List.length (A (x6.1)),true,.fn fun i j=>Zb (List.getD (A (x6.1)) i (0:Int))⟩] [.ba 0 1 0 (List.length (A (x6.1))),.agg [Zi (It.kind (c (toNat (x6.1:Int)))),Zi (It.num (c (toNat (x6.1:Int)))),.aH 1 (It.nb (c (toNat (x6.1:Int)))) fun i x=>Zb (It.fb (c (toNat (x6.1:Int))) i),.aH 4 (It.nl (c (toNat (x6.1:Int)))) (It.row (c (toNat (x6.1:Int))))]] (.ba 1 1 0 (List.length (A (x6.1)++E (toNat (x6.1:Int))))) [none,m6 IntKind.u8 (A (x6.1)++E (toNat (x6.1:Int)))] (.again (bh 1 y1 y2 x6) [44,45,0,46] [90,58] [.aH 4 n fun i j=>aQ (It.cells (c i)) j,Zi n,.ba 1 1 0 (List.length (A (x6.1)++E (toNat (x6.1:Int)))),Zi (wrap .i64 ((x6.1:Int)+1))] [none,some ⟨1,List.length (A (x6.1)++E (toNat (x6.1:Int))),true,.fn fun i j=>Zb (List.getD (A (x6.1)++E (toNat (x6.1:Int))) i (0:Int))⟩]))) (.out (.ba 1 1 0 (List.length (A (x6.1)))) [none,some ⟨1,List.length (A (x6.1)),true,.fn fun i j=>Zb (List.getD (A (x6.1)) i (0:Int))⟩] (.ba 1 1 0 (List.length (A n))) [none,m6 IntKind.u8 (A n)]))))))))))
  (by kernel_rfl) ?_
 refine aL (fun h0=>?_) (fun h0=>?_)
 ·have g0:=af h0
  exact da ((by exfalso;omega)) ((by exfalso;omega))
 ·have g0:=aa h0
  refine aD (by omega) ?_
  refine cz ?_
  refine cz ?_
  refine gZ (pa (List.length l+1) (fun (i j:Nat)=>bif Nat.blt i (List.length l) then List.getD l i (0:Int) else aE (aQ [Zb (wrap .u8 (3:Int))] j)) (wrap .u64 (↑n:Int)) (by omega) (by omega) (4) (by omega) (by omega) (by omega)) ?_
  refine aV (fun _ hs=>hs.le (by repeat' (first|exact trivial|(first|exact ay.refl _|exact aK (by omega)|exact ay.nil rfl|exact ay.of_eq (congrArg (AV.ba _ _ _) (by omega))|exact ay.of_eq (congrArg (AV.int _) (by omega)))|refine And.intro ?_ ?_)) (⟨kU l0 (fun i hi=>by
                                                                                                     rw [e,hA0]
                                                                                                     exact wr1 (size:=4) hi),trivial⟩)) (fun x6=>?_)
  refine aL (fun h7=>?_) (fun h7=>?_)
  ·have g7:=af h7
   refine aD (by omega) ?_
   refine gZ (hc (toNat (↑x6.1:Int)) (by omega) (A (x6.1)) (by exact hA _ (by omega)) (by (have q:=hA (x6.1+1) (by omega);rw [hE] at q;exact q))) ?_
   exact aN (⟨x6.1+1,by omega⟩) (fun _ hs=>hs.le (⟨by exact ay.refl _,by exact ay.refl _,ay.of_eq (congrArg (fun z=>AV.ba 1 1 0 (List.length z)) (hE x6.1).symm),by exact aK (by omega),trivial⟩) (⟨td (hE x6.1),trivial⟩)) (by (dsimp only;omega))
  ·have g7:=aa h7
   exact da (ay.of_eq (congrArg (fun z=>AV.ba 1 1 0 (A z).length) (by omega))) (⟨td (congrArg A (by omega)),trivial⟩)
theorem xc (n:Int):bI Tryz.prog aZ 277 [] [.bn,.agg [.int .i64 1,.int .i64 n,dC 0 (fun _=>0),.aH 4 0 (fun _ _=>.bx)]] (.ba 0 1 0 (It.int n).enc.length) [m6 .u8 (It.int n).enc]:=by
 have hw:=im n
 refine cg (own:=ow3) (hand:=true) Tryz.func277 (by kernel_rfl) mixed (by kernel_rfl)
  (.ff (.bj (1≤140737488355328) (.tt (.gc 310 [⟨1,1,true,.bc [[Zb (wrap .u8 (1:Int))]]⟩] [.ba 0 1 0 1,Zu (wrap .u64 n),Zi 8] (.ba 1 1 0 (1+8)) [none,some ⟨1,1+8,true,.fn fun i x=>Zb (bif Nat.blt i 1 then wrap .u8 (1:Int) else dA (wrap .u64 n) 8 (i - 1))⟩] (.out (.ba 0 1 0 9) [some ⟨1,9,true,.fn fun i j=>Zb (bif Nat.blt i 1 then wrap .u8 (1:Int) else dA (wrap .u64 n) 8 (i - 1))⟩] (.ba 0 1 0 (List.length (It.enc (It.int n)))) [m6 IntKind.u8 (It.enc (It.int n))])))))
  (by kernel_rfl) ?_
 refine cz ?_
 refine aD (by omega) ?_
 refine gp ?_
 refine gZ (pO (wrap .u8 (1:Int)) (wrap .u64 n) (by omega) (by omega) (8) (by omega) (by omega)) ?_
 exact da (ay.of_eq (congrArg (AV.ba 0 1 0) (iv n).symm)) (⟨kU (iv n).symm (fun i hi=>CZ (size:=8) hi),trivial⟩)
theorem wx (n:Nat) (f:Nat→Int) (hn:n≤16384):bI Tryz.prog aZ 277 [] [.bn,.agg [.int .i64 2,.int .i64 0,dC n f,.aH 4 0 (fun _ _=>.bx)]] (.ba 0 1 0 (It.dz n f).enc.length) [m6 .u8 (It.dz n f).enc]:=by
 have hw:=im n
 have e:IntKind.wrap .u64 (n:Int)=n:=dy (by omega) (by omega)
 refine cg (own:=ow3) (hand:=true) Tryz.func277 (by kernel_rfl) mixed (by kernel_rfl)
  (.ff (.bj (1≤140737488355328) (.ff (.tt (.gc 310 [⟨1,1,true,.bc [[Zb (wrap .u8 (2:Int))]]⟩] [.ba 0 1 0 1,Zu (wrap .u64 (n:Int)),Zi 4] (.ba 1 1 0 (1+4)) [none,some ⟨1,1+4,true,.fn fun i x=>Zb (bif Nat.blt i 1 then wrap .u8 (2:Int) else dA (wrap .u64 (n:Int)) 4 (i - 1))⟩] (.bj ((5+n)*1≤140737488355328) (.out (.ba 0 1 0 (5+n)) [some ⟨1,5+n,true,.fn fun i j=>Zb (bif Nat.blt i 5 then bif Nat.blt i 1 then wrap .u8 (2:Int) else dA (wrap .u64 (n:Int)) 4 (i - 1) else f (i - 5))⟩] (.ba 0 1 0 (List.length (It.enc (It.dz n f)))) [m6 IntKind.u8 (It.enc (It.dz n f))])))))))
  (by kernel_rfl) ?_
 refine cz ?_
 refine aD (by omega) ?_
 refine cz ?_
 refine gp ?_
 refine gZ (pO (wrap .u8 (2:Int)) (wrap .u64 (↑n:Int)) (by omega) (by omega) (4) (by omega) (by omega)) ?_
 refine aD (by omega) ?_
 exact da (ay.of_eq (congrArg (AV.ba 0 1 0) (jh n f).symm)) (⟨kU (jh n f).symm (fun i hi=>by
                                                                                                     rw [e]
                                                                                                     exact Mc hi),trivial⟩)
theorem zc (n:Nat) (c:Nat→It) (E A:Nat→List Int) (hn:n≤16384) (hA0:A 0=3::qD n 4) (hE:∀ k,A (k+1)=A k++E k) (hA:∀ k,k≤n→(A k).length≤16384)
  (hc:∀ i,i<n→∀ l:List Int,l.length≤16384→(l++E i).length≤16384→bI Tryz.prog aZ 277 [⟨1,l.length,true,.fn (vF .u8 l)⟩] [.ba 0 1 0 l.length,(c i).av] (.ba 1 1 0 (l++E i).length) [none,m6 .u8 (l++E i)]) :
  bI Tryz.prog aZ 277 [] [.bn,.agg [.int .i64 3,.int .i64 0,dC 0 (fun _=>0),It.sl n c]] (.ba 0 1 0 (A n).length) [m6 .u8 (A n)]:=by
 have hw:=im n
 have e:IntKind.wrap .u64 (n:Int)=n:=dy (by omega) (by omega)
 have l0:1+4=(A 0).length:=by rw [hA0];simp [gQ]
 have ls:∀ k,(A (k+1)).length=(A k).length+(E k).length:=fun k=>by rw [hE,List.length_append]
 refine cg (own:=ow3) (hand:=true) Tryz.func277 (by kernel_rfl) mixed (by kernel_rfl)
  (let y0:=(fun (x:{ x:Nat // x≤n })=>aY [44,45,0,46] [.aH 4 n fun i j=>aQ (It.cells (c i)) j,Zi n,.ba 0 1 0 (List.length (A (x.1))),Zi x.1] [m6 IntKind.u8 (A (x.1))]);let y1:=(fun (x:{ x:Nat // x≤n })=>n - x.1);(.ff (.bj (1≤140737488355328) (.ff (.ff (.gc 310 [⟨1,1,true,.bc [[Zb (wrap .u8 (3:Int))]]⟩] [.ba 0 1 0 1,Zu (wrap .u64 (n:Int)),Zi 4] (.ba 1 1 0 (1+4)) [none,some ⟨1,1+4,true,.fn fun i x=>Zb (bif Nat.blt i 1 then wrap .u8 (3:Int) else dA (wrap .u64 (n:Int)) 4 (i - 1))⟩] (.loop ({ x:Nat // x≤n }) y0 y1 (⟨0,Nat.zero_le n⟩) [44,45,0,46] [184] [.aH 4 n fun i j=>aQ (It.cells (c i)) j,Zi n,.ba 0 1 0 5,Zi 0] [some ⟨1,5,true,.fn fun i j=>Zb (bif Nat.blt i 1 then wrap .u8 (3:Int) else dA (wrap .u64 (n:Int)) 4 (i - 1))⟩] (fun x5=>(.br (decide ((x5.1:Int)<(n:Int))) (.bj (0≤(x5.1:Int)∧(x5.1:Int)<(n:Int)) (.gc 277 [⟨1,List.length (A (x5.1)),true,.fn fun i j=>Zb (List.getD (A (x5.1)) i (0:Int))⟩] [.ba 0 1 0 (List.length (A (x5.1))),.agg [Zi (It.kind (c (toNat (x5.1:Int)))),Zi (It.num (c (toNat (x5.1:Int)))),.aH 1 (It.nb (c (toNat (x5.1:Int)))) fun i x=>Zb (It.fb (c (toNat (x5.1:Int))) i),.aH 4 (It.nl (c (toNat (x5.1:Int)))) (It.row (c (toNat (x5.1:Int))))]] (.ba 1 1 0 (List.length (A (x5.1)++E (toNat (x5.1:Int))))) [none,m6 IntKind.u8 (A (x5.1)++E (toNat (x5.1:Int)))] (.again (bh 0 y0 y1 x5) [44,45,0,46] [57] [.aH 4 n fun i j=>aQ (It.cells (c i)) j,Zi n,.ba 0 1 0 (List.length (A (x5.1)++E (toNat (x5.1:Int)))),Zi (wrap .i64 ((x5.1:Int)+1))] [some ⟨1,List.length (A (x5.1)++E (toNat (x5.1:Int))),true,.fn fun i j=>Zb (List.getD (A (x5.1)++E (toNat (x5.1:Int))) i (0:Int))⟩]))) (.out (.ba 0 1 0 (List.length (A (x5.1)))) [some ⟨1,List.length (A (x5.1)),true,.fn fun i j=>Zb (List.getD (A (x5.1)) i (0:Int))⟩] (.ba 0 1 0 (List.length (A n))) [m6 IntKind.u8 (A n)]))))))))))
  (by kernel_rfl) ?_
 refine cz ?_
 refine aD (by omega) ?_
 refine cz ?_
 refine cz ?_
 refine gZ (pO (wrap .u8 (3:Int)) (wrap .u64 (↑n:Int)) (by omega) (by omega) (4) (by omega) (by omega)) ?_
 refine aV (fun _ hs=>hs.le (by repeat' (first|exact trivial|(first|exact ay.refl _|exact aK (by omega)|exact ay.nil rfl|exact ay.of_eq (congrArg (AV.ba _ _ _) (by omega))|exact ay.of_eq (congrArg (AV.int _) (by omega)))|refine And.intro ?_ ?_)) (⟨kU l0 (fun i hi=>by
                                                                                                     rw [e,hA0]
                                                                                                     exact CZ (size:=4) hi),trivial⟩)) (fun x5=>?_)
 refine aL (fun h6=>?_) (fun h6=>?_)
 ·have g6:=af h6
  refine aD (by omega) ?_
  refine gZ (hc (toNat (↑x5.1:Int)) (by omega) (A (x5.1)) (by exact hA _ (by omega)) (by (have q:=hA (x5.1+1) (by omega);rw [hE] at q;exact q))) ?_
  exact aN (⟨x5.1+1,by omega⟩) (fun _ hs=>hs.le (⟨by exact ay.refl _,by exact ay.refl _,ay.of_eq (congrArg (fun z=>AV.ba 0 1 0 (List.length z)) (hE x5.1).symm),by exact aK (by omega),trivial⟩) (⟨td (hE x5.1),trivial⟩)) (by (dsimp only;omega))
 ·have g6:=aa h6
  exact da (ay.of_eq (congrArg (fun z=>AV.ba 0 1 0 (A z).length) (by omega))) (⟨td (congrArg A (by omega)),trivial⟩)
theorem yg:∀ (x:It) (l:List Int),l.length≤16384→(l++x.enc).length≤16384→bI Tryz.prog aZ 277 [⟨1,l.length,true,.fn (vF .u8 l)⟩] [.ba 0 1 0 l.length,x.av] (.ba 1 1 0 (l++x.enc).length) [none,m6 .u8 (l++x.enc)]
 | .int n,l,h,_=>z5 l n h
 | .dz n f,l,h,h'=>zk l n f h (by rw [← v8] at h';omega)
 | .li n c,l,h,h'=>by
  have hA:∀ k,k≤n→(l++It.lE n c k).length≤16384:=fun k hk=>by
   have:=It.oC n c hk
   rw [It.p6,List.length_append] at h'
   rw [List.length_append]
   omega
  exact C7 l n c (fun i=>(c i).enc) (fun k=>l++It.lE n c k) h (by have:=It.ky n c n;have:=hA n (Nat.le_refl _);rw [List.length_append] at this;omega) (by rw [It.iD]) (fun k=>by rw [It.fl,List.append_assoc]) hA
   (fun i hi l h h'=>yg (c i) l h h')
theorem Hb:∀ x:It,x.enc.length≤16384→bI Tryz.prog aZ 277 [] [.bn,x.av] (.ba 0 1 0 x.enc.length) [m6 .u8 x.enc]
 | .int n,_=>xc n
 | .dz n f,h=>wx n f (by rw [jh] at h;omega)
 | .li n c,h=>zc n c (fun i=>(c i).enc) (It.lE n c) (by have:=It.ky n c n;rw [It.p6] at h;omega) (It.iD n c) (It.fl n c) (fun k hk=>Nat.le_trans (It.oC n c hk) h)
   (fun i _ l h h'=>yg (c i) l h h')
theorem zI (x:It) (d:Int) (b:Bool) (hd:0<d∧d≤8) (h:Pure Tryz.prog aZ 309 [x.av,.int .i64 (d - 1)] (.bool b)):Pure Tryz.prog aZ 337 [x.av,.bJ 1 (aQ [.int .i64 d])] (.bool (!b)):=by
 have hw:IntKind.wrap .i64 (d - 1)=d - 1:=wI (by omega) (by omega)
 rw [← hw] at h
 refine ar (own:=bq) Tryz.func337 (by kernel_rfl) mixed (by kernel_rfl)
  (.sc true 309 [.agg [Zi (It.kind x),Zi (It.num x),.aH 1 (It.nb x) fun i x_1=>Zb (It.fb x i),.aH 4 (It.nl x) (It.row x)],Zi (wrap .i64 (d - 1))] (.bool b) (.out (.bool !b) [] (.bool !b) []))
  (by kernel_rfl) ?_
 refine aM (h) ?_
 exact aq (ay.refl _)
theorem BY (n:Nat) (c:Nat→It) (d:Int) (p:Nat→Bool) (hn:n≤1000) (hc:∀ i,i<n→Pure Tryz.prog aZ 337 [(c i).av,.bJ 1 (aQ [.int .i64 d])] (.bool (p i))) :
  Pure Tryz.prog aZ 350 [It.sl n c,.fn (.func 337) [] [.bJ 1 (aQ [.int .i64 d])]] (.int .i64 (aG p n 0)):=by
 refine ar (own:=bq) Tryz.func350 (by kernel_rfl) mixed (by kernel_rfl)
  (let y0:=(fun (x:{ x:Nat // x≤n∧(fun i=>aG p n 0=aG p (n - i) i) x })=>aY [0,1,7,8] [.aH 4 n fun i j=>aQ (It.cells (c i)) j,AV.fn (Fn.func (337:FuncId)) [] [AV.bJ 1 (aQ [Zi d])],Zi n,Zi x.1] []);let y1:=(fun (x:{ x:Nat // x≤n∧(fun i=>aG p n 0=aG p (n - i) i) x })=>n - x.1);(.loop ({ x:Nat // x≤n∧(fun i=>aG p n 0=aG p (n - i) i) x }) y0 y1 (⟨0,⟨Nat.zero_le n,rfl⟩⟩) [0,1,7,8] [] [.aH 4 n fun i j=>aQ (It.cells (c i)) j,AV.fn (Fn.func (337:FuncId)) [] [AV.bJ 1 (aQ [Zi d])],Zi n,Zi 0] [] (fun x0=>(.br (decide ((x0.1:Int)<(n:Int))) (.bj (0≤(x0.1:Int)∧(x0.1:Int)<(n:Int)) (.sc true 337 [.agg [Zi (It.kind (c (toNat (x0.1:Int)))),Zi (It.num (c (toNat (x0.1:Int)))),.aH 1 (It.nb (c (toNat (x0.1:Int)))) fun i x=>Zb (It.fb (c (toNat (x0.1:Int))) i),.aH 4 (It.nl (c (toNat (x0.1:Int)))) (It.row (c (toNat (x0.1:Int))))],AV.bJ 1 (aQ [Zi d])] (.bool (p (toNat (x0.1:Int)))) (.br (p (toNat (x0.1:Int))) (.out (Zi x0.1) [] (Zi (aG p n 0)) []) (.again (bh 0 y0 y1 x0) [0,1,7,8] [] [.aH 4 n fun i j=>aQ (It.cells (c i)) j,AV.fn (Fn.func (337:FuncId)) [] [AV.bJ 1 (aQ [Zi d])],Zi n,Zi (wrap .i64 ((x0.1:Int)+1))] [])))) (.out (Zi (-1)) [] (Zi (aG p n 0)) [])))))
  (by kernel_rfl) ?_
 refine aV (fun _ hs=>hs.le (⟨.refl _,.refl _,.refl _,.refl _,trivial⟩) (trivial)) (fun x0=>?_)
 try (have q0:=x0.2;dsimp only at q0)
 refine aL (fun h1=>?_) (fun h1=>?_)
 ·have g1:=af h1
  refine aD (by omega) ?_
  refine aM (hc (toNat (↑x0.1:Int)) (by omega)) ?_
  refine aL (fun h4=>?_) (fun h4=>?_)
  ·have g4:=aB h4
   try simp only [Int.toNat_natCast] at g4
   exact aq (ay.of_eq (congrArg _ (cr x0.2.2 (by omega) g4)))
  ·have g4:=aF h4
   try simp only [Int.toNat_natCast] at g4
   exact aN (⟨x0.1+1,by omega,bS x0.2.2 (by omega) g4⟩) (fun _ hs=>hs.le (⟨.refl _,.refl _,.refl _,aK (by omega),trivial⟩) (trivial)) (by dsimp only;omega)
 ·have g1:=aa h1
  exact aq (ay.of_eq (congrArg _ (bW x0.2.2 (by omega))))
theorem tW (n:Nat) (c:Nat→It) (d:Int) (p:Nat→Bool) (hn:n≤1000) (hc:∀ i,i<n→Pure Tryz.prog aZ 337 [(c i).av,.bJ 1 (aQ [.int .i64 d])] (.bool (p i))) :
  Pure Tryz.prog aZ 336 [It.sl n c,.fn (.func 337) [] [.bJ 1 (aQ [.int .i64 d])]] (.bool (decide (aG p n 0≥0))):=by
 refine ar (own:=bq) Tryz.func336 (by kernel_rfl) mixed (by kernel_rfl)
  (let y0:AV:=(.bool (decide (aG p n 0≥0)));(.sc true 350 [.aH 4 n fun i j=>aQ (It.cells (c i)) j,AV.fn (Fn.func (337:FuncId)) [] [AV.bJ 1 (aQ [Zi d])]] (Zi (aG p n 0)) (.out y0 [] y0 [])))
  (by kernel_rfl) ?_
 refine aM ((BY n c d p hn hc)) ?_
 exact aq (ay.refl _)
theorem xi (n d:Int):Pure Tryz.prog aZ 309 [.agg [.int .i64 1,.int .i64 n,dC 0 (fun _=>0),.aH 4 0 (fun _ _=>.bx)],.int .i64 d] (.bool true):=by
 refine ar (own:=bq) Tryz.func309 (by kernel_rfl) mixed (by kernel_rfl)
  (.tt (.out (.bool true) [] (.bool true) []))
  (by kernel_rfl) ?_
 refine gp ?_
 exact aq (ay.refl _)
theorem wa (n:Nat) (f:Nat→Int) (d:Int):Pure Tryz.prog aZ 309 [.agg [.int .i64 2,.int .i64 0,dC n f,.aH 4 0 (fun _ _=>.bx)],.int .i64 d] (.bool true):=by
 refine ar (own:=bq) Tryz.func309 (by kernel_rfl) mixed (by kernel_rfl)
  (.ff (.tt (.out (.bool true) [] (.bool true) [])))
  (by kernel_rfl) ?_
 refine cz ?_
 refine gp ?_
 exact aq (ay.refl _)
theorem zd (n:Nat) (c:Nat→It) (d:Int) (p:Nat→Bool) (hn:n<9223372036854775808) (hc:0<d→n≤1000→Pure Tryz.prog aZ 336 [It.sl n c,.fn (.func 337) [] [.bJ 1 (aQ [.int .i64 d])]] (.bool (decide (aG p n 0≥0)))) :
  Pure Tryz.prog aZ 309 [.agg [.int .i64 3,.int .i64 0,dC 0 (fun _=>0),It.sl n c],.int .i64 d] (.bool (decide (0<d)&&Nat.ble n 1000&&(List.range n).all (fun i => !p i))):=by
 refine ar (own:=bq) Tryz.func309 (by kernel_rfl) mixed (by kernel_rfl)
  (.ff (.ff (.tt (.sc ((decide (d>0)&&decide ((n:Int)≤1000))==true) 336 [.aH 4 n fun i j=>aQ (It.cells (c i)) j,AV.fn (Fn.func 337) [] [AV.bJ 1 fun k=>aQ [Zi d] k]] (.bool (decide (aG p n 0≥0))) (.out (.bool (decide (d>0)&&decide ((n:Int)≤1000) && !decide (aG p n 0≥0))) [] (.bool (decide ((0:Int)<d)&&Nat.ble n 1000&&List.all (List.range n) fun i => !p i)) [])))))
  (by kernel_rfl) ?_
 refine cz ?_
 refine cz ?_
 refine gp ?_
 refine aW (fun h3=>hc (by simp at h3;omega) (by simp at h3;omega)) ?_
 exact aq (ay.of_eq (congrArg _ (L9 d n p)))
theorem uA:∀ (x:It) (d:Int),0≤d∧d≤8→x.enc.length≤1099511627776→Pure Tryz.prog aZ 309 [x.av,.int .i64 d] (.bool (x.pB d))
 | .int n,d,_,_=>xi n d
 | .dz n f,d,_,_=>wa n f d
 | .li n c,d,hd,hn=>by
  have h:=zd n c d (fun i => !(c i).pB (d - 1)) (by have:=It.ky n c n;rw [It.p6] at hn;omega) (fun h1 h2=>tW n c d _ h2 (fun i hi=>zI (c i) d _ ⟨h1,hd.2⟩ (uA (c i) (d - 1) (by omega) (by have:=It.rh (c:=c) hi;omega))))
  simp only [Bool.not_not] at h
  exact h
theorem E8 (x:It) (h:x.enc.length≤1099511627776):Pure Tryz.prog aZ 276 [.agg [.int .i64 x.kind,.int .i64 x.num,dC x.nb x.fb,.aH 4 x.nl x.row]] (.bool (x.pB 8)):=by
 have hw:=uA x 8 (by omega) h
 refine ar (own:=bq) Tryz.func276 (by kernel_rfl) mixed (by kernel_rfl)
  (let y0:AV:=(.bool (It.pB x (8:Int)));(.sc true 309 [.agg [Zi (It.kind x),Zi (It.num x),.aH 1 (It.nb x) fun i x_1=>Zb (It.fb x i),.aH 4 (It.nl x) (It.row x)],Zi 8] y0 (.out y0 [] y0 [])))
  (by kernel_rfl) ?_
 refine aM (hw) ?_
 exact aq (ay.refl _)
theorem mC (x:It) (h:x.pB 8=true) (hl:x.enc.length≤16384):Pure Tryz.prog aZ 233 [x.av] (.aX [il .u8 x.enc,.int .i64 0]):=by
 have hv:=E8 x (by omega)
 rw [h] at hv
 have hn:=Hb x hl
 refine ar (own:=ow3) Tryz.func233 (by kernel_rfl) mixed (by kernel_rfl)
  (let y0:List AV:=[Zi (It.kind x),Zi (It.num x),.aH 1 (It.nb x) fun i x_1=>Zb (It.fb x i),.aH 4 (It.nl x) (It.row x)];let y1:AV:=(.aX [il IntKind.u8 (It.enc x),Zi 0]);(.sc true 276 [.agg y0] (.bool true) (.ff (.gc 277 [] [.bn,.agg y0] (.ba 0 1 0 (List.length (It.enc x))) [m6 IntKind.u8 (It.enc x)] (.br (decide ((↑(List.length (It.enc x)):Int)>16384)) (.out (.aX [.bn,Zi 5]) [] y1 []) (.out (.aX [.aH 1 (List.length (It.enc x)) fun r k=>Zb (List.getD (It.enc x) (r+0) (0:Int)),Zi 0]) [] y1 []))))))
  (by kernel_rfl) ?_
 refine aM (hv) ?_
 refine cz ?_
 refine gZ (hn) ?_
 refine aL (fun h3=>?_) (fun h3=>?_)
 ·have g3:=af h3
  exact aq ((by exfalso;omega))
 ·have g3:=aa h3
  exact aq (ay.of_eq rfl)
theorem tw (l:List Int) (hl:l.length≤1000000):Pure Tryz.prog aZ 237 [il .i64 l] (be l).av:=by
 refine ar (own:=bq) Tryz.func237 (by kernel_rfl) mixed (by kernel_rfl)
  (let y0:=(fun (x:{ x:Nat // x≤List.length l })=>aY [2,3,7,8,9] [.own 0 4 0 0 4,.own 1 4 0 0 4,.aH 1 (List.length l) fun i x=>Zi (List.getD l i (0:Int)),Zi (↑(List.length l):Int),Zi x.1] [some ⟨4,1,true,.bc [[Zi 0,Zi 0,.bn,.bn]]⟩,some ⟨4,1,true,.bc [[Zi 3,Zi 0,.bn,.ba 2 4 0 (x.1)]]⟩,some ⟨4,x.1,true,bA.row fun i=>It.cells (It.int (List.getD l i (0:Int)))⟩]);let y1:=(fun (x:{ x:Nat // x≤List.length l })=>List.length l - x.1);(.loop ({ x:Nat // x≤List.length l }) y0 y1 (⟨0,Nat.zero_le (List.length l)⟩) [2,3,7,8,9] [0,16,1082] [.own 0 4 0 0 4,.own 1 4 0 0 4,.aH 1 (List.length l) fun i x=>Zi (List.getD l i (0:Int)),Zi (↑(List.length l):Int),Zi 0] [some ⟨4,1,true,.bc [[Zi 0,Zi 0,.bn,.bn]]⟩,some ⟨4,1,true,.bc [[Zi 3,Zi 0,.bn,.bn]]⟩,some ⟨4,0,true,.ty (999999999:TypeId) (.bc [])⟩] (fun x0=>(.br (decide ((x0.1:Int)<(↑(List.length l):Int))) (.bj (0≤(x0.1:Int)∧(x0.1:Int)<(↑(List.length l):Int)) (.bj ((x0.1+1)*64≤140737488355328) (.again (bh 0 y0 y1 x0) [2,3,7,8,9] [0,1,75] [.own 0 4 0 0 4,.own 1 4 0 0 4,.aH 1 (List.length l) fun i x=>Zi (List.getD l i (0:Int)),Zi (↑(List.length l):Int),Zi (wrap .i64 ((x0.1:Int)+1))] [some ⟨4,1,true,.bc [[Zi 0,Zi 0,.bn,.bn]]⟩,some ⟨4,1,true,.bc [[Zi 3,Zi 0,.bn,.ba 2 4 0 (x0.1+1)]]⟩,some ⟨4,x0.1+1,true,bA.cat x0.1 (bA.row fun i=>[Zi (It.kind (It.int (List.getD l i (0:Int)))),Zi (It.num (It.int (List.getD l i (0:Int)))),.aH 1 0 fun i_1 x=>Zb (It.fb (It.int (List.getD l i (0:Int))) i_1),.aH 4 0 (It.row (It.int (List.getD l i (0:Int))))]) (.bc [[Zi 1,Zi (List.getD l (toNat (↑(x0.1):Int)) (0:Int)),.bn,.bn]])⟩]))) (.out (.agg [Zi 3,Zi 0,.bn,.aH 4 x0.1 fun r k=>aQ [Zi (It.kind (It.int (List.getD l (r+0) (0:Int)))),Zi (It.num (It.int (List.getD l (r+0) (0:Int)))),.aH 1 0 fun i x=>Zb (It.fb (It.int (List.getD l (r+0) (0:Int))) i),.aH 4 0 (It.row (It.int (List.getD l (r+0) (0:Int))))] k]) [] (It.av (be l)) [])))))
  (by kernel_rfl) ?_
 refine aV (fun _ hs=>hs.le (⟨.refl _,.refl _,.refl _,.refl _,.refl _,trivial⟩) (by repeat' (first|exact trivial|(first|exact aJ.refl _|exact aJ.bx|exact aJ.zero|exact aJ.push rfl rfl|exact aJ.ct rfl|exact aJ.len (by omega)|exact aJ.row (by repeat' (first|exact trivial|(first|exact ay.refl _|exact aK (by omega)|exact ay.nil rfl|exact ay.of_eq (congrArg (AV.ba _ _ _) (by first|omega|(dsimp only;omega)))|exact ay.of_eq (congrArg (AV.int _) (by first|omega|(dsimp only;omega))))|refine And.intro ?_ ?_)))|refine And.intro ?_ ?_))) (fun x0=>?_)
 try (have q0:=x0.2;dsimp only at q0)
 refine aL (fun h1=>?_) (fun h1=>?_)
 ·have g1:=af h1
  refine aD (by omega) ?_
  refine aD (by omega) ?_
  exact aN (⟨x0.1+1,by omega⟩) (fun _ hs=>hs.le (⟨.refl _,.refl _,.refl _,.refl _,aK (by omega),trivial⟩) (⟨.refl _,.refl _,pQ rfl rfl,trivial⟩)) (by dsimp only;omega)
 ·have g1:=aa h1
  exact aq (pn (by omega))
theorem si (l:List Int) (hl:l.length≤1000000):Pure Tryz.prog aZ 203 [il .i64 l] (be l).av:=by
 refine ar (own:=bq) Tryz.func203 (by kernel_rfl) mixed (by kernel_rfl)
  (let y0:=(fun (x:{ x:Nat // x≤List.length l })=>aY [0,2,3,4] [.aH 1 (List.length l) fun i x=>Zi (List.getD l i (0:Int)),.own 0 4 0 0 4,.own 1 4 0 0 4,Zi x.1] [some ⟨4,1,true,.bc [[Zi 0,Zi 0,.bn,.bn]]⟩,some ⟨4,1,true,.bc [[Zi 3,Zi 0,.bn,.ba 2 4 0 (x.1)]]⟩,some ⟨4,x.1,true,bA.row fun i=>It.cells (It.int (List.getD l i (0:Int)))⟩]);let y1:=(fun (x:{ x:Nat // x≤List.length l })=>List.length l - x.1);(.loop ({ x:Nat // x≤List.length l }) y0 y1 (⟨0,Nat.zero_le (List.length l)⟩) [0,2,3,4] [0,16,1066] [.aH 1 (List.length l) fun i x=>Zi (List.getD l i (0:Int)),.own 0 4 0 0 4,.own 1 4 0 0 4,Zi 0] [some ⟨4,1,true,.bc [[Zi 0,Zi 0,.bn,.bn]]⟩,some ⟨4,1,true,.bc [[Zi 3,Zi 0,.bn,.bn]]⟩,some ⟨4,0,true,.ty (999999999:TypeId) (.bc [])⟩] (fun x0=>(.br (decide ((x0.1:Int)<(↑(List.length l):Int))) (.bj (0≤(x0.1:Int)∧(x0.1:Int)<(↑(List.length l):Int)) (.bj ((x0.1+1)*64≤140737488355328) (.again (bh 0 y0 y1 x0) [0,2,3,4] [0,1,99] [.aH 1 (List.length l) fun i x=>Zi (List.getD l i (0:Int)),.own 0 4 0 0 4,.own 1 4 0 0 4,Zi (wrap .i64 ((x0.1:Int)+1))] [some ⟨4,1,true,.bc [[Zi 0,Zi 0,.bn,.bn]]⟩,some ⟨4,1,true,.bc [[Zi 3,Zi 0,.bn,.ba 2 4 0 (x0.1+1)]]⟩,some ⟨4,x0.1+1,true,bA.cat x0.1 (bA.row fun i=>[Zi (It.kind (It.int (List.getD l i (0:Int)))),Zi (It.num (It.int (List.getD l i (0:Int)))),.aH 1 0 fun i_1 x=>Zb (It.fb (It.int (List.getD l i (0:Int))) i_1),.aH 4 0 (It.row (It.int (List.getD l i (0:Int))))]) (.bc [[Zi 1,Zi (List.getD l (toNat (↑(x0.1):Int)) (0:Int)),.bn,.bn]])⟩]))) (.out (.agg [Zi 3,Zi 0,.bn,.aH 4 x0.1 fun r k=>aQ [Zi (It.kind (It.int (List.getD l (r+0) (0:Int)))),Zi (It.num (It.int (List.getD l (r+0) (0:Int)))),.aH 1 0 fun i x=>Zb (It.fb (It.int (List.getD l (r+0) (0:Int))) i),.aH 4 0 (It.row (It.int (List.getD l (r+0) (0:Int))))] k]) [] (It.av (be l)) [])))))
  (by kernel_rfl) ?_
 refine aV (fun _ hs=>hs.le (⟨.refl _,.refl _,.refl _,.refl _,trivial⟩) (by repeat' (first|exact trivial|(first|exact aJ.refl _|exact aJ.bx|exact aJ.zero|exact aJ.push rfl rfl|exact aJ.ct rfl|exact aJ.len (by omega)|exact aJ.row (by repeat' (first|exact trivial|(first|exact ay.refl _|exact aK (by omega)|exact ay.nil rfl|exact ay.of_eq (congrArg (AV.ba _ _ _) (by first|omega|(dsimp only;omega)))|exact ay.of_eq (congrArg (AV.int _) (by first|omega|(dsimp only;omega))))|refine And.intro ?_ ?_)))|refine And.intro ?_ ?_))) (fun x0=>?_)
 try (have q0:=x0.2;dsimp only at q0)
 refine aL (fun h1=>?_) (fun h1=>?_)
 ·have g1:=af h1
  refine aD (by omega) ?_
  refine aD (by omega) ?_
  exact aN (⟨x0.1+1,by omega⟩) (fun _ hs=>hs.le (⟨.refl _,.refl _,.refl _,aK (by omega),trivial⟩) (⟨.refl _,.refl _,pQ rfl rfl,trivial⟩)) (by dsimp only;omega)
 ·have g1:=aa h1
  exact aq (pn (by omega))
theorem Db (a b:Int):Pure Tryz.prog aZ 237 [.aH 1 2 fun r k=>aQ (List.getD [[.int .i64 a],[.int .i64 b]] r []) k] (be [a,b]).av :=
 (tw [a,b] (by simp)).via ⟨eN rfl rfl,trivial⟩
theorem xw (a b:Int):Pure Tryz.prog aZ 203 [.aH 1 2 fun r k=>aQ (List.getD [[.int .i64 a],[.int .i64 b]] r []) k] (be [a,b]).av :=
 (si [a,b] (by simp)).via ⟨eN rfl rfl,trivial⟩
theorem lX (f:Nat→Int):Pure Tryz.prog aZ 201 [.agg (bf f)] (It.dz 32 f).av:=by
 refine ar (own:=bq) Tryz.func201 (by kernel_rfl) mixed (by kernel_rfl)
  (let y0:=(fun (x:{ x:Nat // x≤32 })=>aY [1,2,3,4] [.own 0 32 0 0 32,.own 1 4 0 0 4,.own 2 4 0 0 4,Zi x.1] [some ⟨32,1,true,.bc [bf f]⟩,some ⟨4,1,true,.bc [[Zi 0,Zi 0,.bn,.bn]]⟩,some ⟨4,1,true,.bc [[Zi 2,Zi 0,.ba 3 1 0 (x.1),.bn]]⟩,some ⟨1,x.1,true,.fn fun i x=>Zb (f i)⟩]);let y1:=(fun (x:{ x:Nat // x≤32 })=>32 - x.1);(.loop ({ x:Nat // x≤32 }) y0 y1 (⟨0,Nat.zero_le 32⟩) [1,2,3,4] [0,8,24,307] [.own 0 32 0 0 32,.own 1 4 0 0 4,.own 2 4 0 0 4,Zi 0] [some ⟨32,1,true,.bc [bf f]⟩,some ⟨4,1,true,.bc [[Zi 0,Zi 0,.bn,.bn]]⟩,some ⟨4,1,true,.bc [[Zi 2,Zi 0,.bn,.bn]]⟩,some ⟨1,0,true,.ty (999999999:TypeId) (.bc [])⟩] (fun x0=>(.br (decide ((x0.1:Int)<32)) (.bj (0≤(x0.1:Int)∧(x0.1:Int)<32) (.bj ((x0.1+1)*1≤140737488355328) (.again (bh 0 y0 y1 x0) [1,2,3,4] [0,1,2,68] [.own 0 32 0 0 32,.own 1 4 0 0 4,.own 2 4 0 0 4,Zi (wrap .i64 ((x0.1:Int)+1))] [some ⟨32,1,true,.bc [bf f]⟩,some ⟨4,1,true,.bc [[Zi 0,Zi 0,.bn,.bn]]⟩,some ⟨4,1,true,.bc [[Zi 2,Zi 0,.ba 3 1 0 (x0.1+1),.bn]]⟩,some ⟨1,x0.1+1,true,.fn fun i j=>Zb (bif Nat.blt i x0.1 then f i else aE (aQ [Zb (aE (bA.at (Ob.f (Ob.seen ⟨32,1,true,.bc [bf f]⟩)) 0 (0+toNat (↑(x0.1):Int))))] j))⟩]))) (.out (.agg [Zi 2,Zi 0,.aH 1 x0.1 fun r k=>Zb (f (r+0)),.bn]) [] (It.av (It.dz 32 f)) [])))))
  (by kernel_rfl) ?_
 refine aV (fun _ hs=>hs.le (⟨.refl _,.refl _,.refl _,.refl _,trivial⟩) (by repeat' (first|exact trivial|(first|exact aJ.refl _|exact aJ.bx|exact aJ.zero|exact aJ.push rfl rfl|exact aJ.ct rfl|exact aJ.len (by omega)|exact aJ.row (by repeat' (first|exact trivial|(first|exact ay.refl _|exact aK (by omega)|exact ay.nil rfl|exact ay.of_eq (congrArg (AV.ba _ _ _) (by first|omega|(dsimp only;omega)))|exact ay.of_eq (congrArg (AV.int _) (by first|omega|(dsimp only;omega))))|refine And.intro ?_ ?_)))|refine And.intro ?_ ?_))) (fun x0=>?_)
 try (have q0:=x0.2;dsimp only at q0)
 refine aL (fun h1=>?_) (fun h1=>?_)
 ·have g1:=af h1
  refine aD (by omega) ?_
  refine aD (by omega) ?_
  exact aN (⟨x0.1+1,by omega⟩) (fun _ hs=>hs.le (⟨.refl _,.refl _,.refl _,aK (by omega),trivial⟩) (⟨.refl _,.refl _,.refl _,aJ.mM (F:=f) rfl (by show aE (aQ (bf f) (0+x0.1))=f x0.1;rw [Nat.zero_add,eV (by omega)]),trivial⟩)) (by dsimp only;omega)
 ·have g1:=aa h1
  exact aq (DS (by omega))
theorem Jk (a0 a1 a2 a3:Int):Pure Tryz.prog aZ 237 [.aH 1 4 fun r k=>aQ (List.getD [[.int .i64 a0],[.int .i64 a1],[.int .i64 a2],[.int .i64 a3]] r []) k] (be [a0,a1,a2,a3]).av:=(tw [a0,a1,a2,a3] (by simp)).via ⟨eN rfl rfl,trivial⟩
theorem KS (a0 a1 a2 a3 a4:Int):Pure Tryz.prog aZ 237 [.aH 1 5 fun r k=>aQ (List.getD [[.int .i64 a0],[.int .i64 a1],[.int .i64 a2],[.int .i64 a3],[.int .i64 a4]] r []) k] (be [a0,a1,a2,a3,a4]).av:=(tw [a0,a1,a2,a3,a4] (by simp)).via ⟨eN rfl rfl,trivial⟩
theorem FO (a0 a1 a2 a3:Int):Pure Tryz.prog aZ 203 [.aH 1 4 fun r k=>aQ (List.getD [[.int .i64 a0],[.int .i64 a1],[.int .i64 a2],[.int .i64 a3]] r []) k] (be [a0,a1,a2,a3]).av:=(si [a0,a1,a2,a3] (by simp)).via ⟨eN rfl rfl,trivial⟩
theorem F2 (a0 a1 a2 a3 a4:Int):Pure Tryz.prog aZ 203 [.aH 1 5 fun r k=>aQ (List.getD [[.int .i64 a0],[.int .i64 a1],[.int .i64 a2],[.int .i64 a3],[.int .i64 a4]] r []) k] (be [a0,a1,a2,a3,a4]).av:=(si [a0,a1,a2,a3,a4] (by simp)).via ⟨eN rfl rfl,trivial⟩
theorem DW:Pure Tryz.prog aZ 278 [.bn] .bn:=by
 refine ar (own:=bq) Tryz.func278 (by kernel_rfl) mixed (by kernel_rfl)
  (.tt (.out (.bn) [] (.bn) []))
  (by kernel_rfl) ?_
 refine gp ?_
 exact aq (ay.refl _)
theorem CI (f:Nat→Int) (n:Nat) (hn:n≤1099511627776):Pure Tryz.prog aZ 278 [.nn (dC n f)] (dC n f):=by
 refine ar (own:=bq) Tryz.func278 (by kernel_rfl) mixed (by kernel_rfl)
  (.ff (.bj ((0+n)*1≤140737488355328) (.out (.aH 1 (0+n) fun r k=>Zb (f (r+0))) [] (dC n f) [])))
  (by kernel_rfl) ?_
 refine cz ?_
 refine aD (by omega) ?_
 exact aq (ji (by omega) (fun i _=>rfl))
theorem uq (f:Nat→Int) (n:Nat) (hn:n≤1099511627776):Pure Tryz.prog aZ 278 [dC n f] (dC n f) :=
 bI.eS [] [] 1 n _ (fun h=>by subst h;exact DW.tM ay.bn) (CI f n hn)
theorem xX (f:Nat→Int):Pure Tryz.prog aZ 235 [.agg (bf f)] (It.dz 32 f).av:=by
 refine ar (own:=bq) Tryz.func235 (by kernel_rfl) mixed (by kernel_rfl)
  (.dc true 278 [.aH 1 32 fun r x=>Zb (aE (aQ (bf f) (0+(0+r))))] (dC 32 fun i=>aE (aQ (bf f) (0+(0+i)))) (.out (.agg [Zi 2,Zi 0,.aH 1 32 fun i x=>Zb (aE (aQ (bf f) (0+(0+i)))),.bn]) [] (It.av (It.dz 32 f)) []))
  (by kernel_rfl) ?_
 refine b9 (uq (fun (i:Nat)=>aE (aQ (bf f) (0+(0+i)))) (32) (by omega)) ?_
 exact aq (ay.agg ⟨ay.refl _,ay.refl _,ji rfl (fun i hi=>by rw [Nat.zero_add,Nat.zero_add];exact eV hi),ay.bn,trivial⟩)
theorem Jj (n:Nat) (f:Nat→Nat→AV):Pure Tryz.prog aZ 234 [.aH 4 n f] (.agg [.int .i64 3,.int .i64 0,.bn,.aH 4 n f]):=by
 refine ar (own:=bq) Tryz.func234 (by kernel_rfl) mixed (by kernel_rfl)
  (let y0:AV:=(.agg [Zi 3,Zi 0,.bn,.aH 4 n f]);(.out y0 [] y0 []))
  (by kernel_rfl) ?_
 exact aq (ay.refl _)
def ow4:FuncId→Option (List Bool):=fun f=>bif Nat.beq f 311 then some [true,false] else bif Nat.beq f 312 then some [true,false] else none
theorem E3 (a0 a1 a2 a3 a4:Int):bI Tryz.prog aZ 311 [⟨1,1,true,.bc [[.bn]]⟩] [.own 0 1 0 0 1,.aH 1 5 fun r k=>aQ (List.getD [[.int .i64 a0],[.int .i64 a1],[.int .i64 a2],[.int .i64 a3],[.int .i64 a4]] r []) k] .bx [some ⟨1,1,true,.bc [[.ba 1 4 0 1]]⟩,some ⟨4,1,true,.bc [(be [a0,a1,a2,a3,a4]).cells]⟩]:=by
 refine cg (own:=bq) (hand:=true) Tryz.func311 (by kernel_rfl) mixed (by kernel_rfl)
  (.dc true 237 [.aH 1 5 fun r k=>aQ (List.getD [[Zi a0],[Zi a1],[Zi a2],[Zi a3],[Zi a4]] r []) k] (It.av (be [a0,a1,a2,a3,a4])) (.bj (64≤140737488355328) (.bj ((0:Int)≤0∧(0:Int)<1) (.out (.aX []) [some ⟨1,1,true,.bc [[.ba 1 4 0 1]]⟩,some ⟨4,1,true,.bc [[Zi (It.kind (be [a0,a1,a2,a3,a4])),Zi (It.num (be [a0,a1,a2,a3,a4])),.aH 1 0 fun i x=>Zb (It.fb (be [a0,a1,a2,a3,a4]) i),.aH 4 5 (It.row (be [a0,a1,a2,a3,a4]))]]⟩] (AV.bx) [some ⟨1,1,true,.bc [[.ba 1 4 0 1]]⟩,some ⟨4,1,true,.bc [It.cells (be [a0,a1,a2,a3,a4])]⟩]))))
  (by kernel_rfl) ?_
 refine b9 (KS (a0) (a1) (a2) (a3) (a4)) ?_
 refine aD (by omega) ?_
 refine aD (by omega) ?_
 exact da (ay.bx _) (⟨.refl _,.refl _,trivial⟩)
theorem C6 (x:It) (f:Nat→Int):bI Tryz.prog aZ 312 [⟨1,1,true,.bc [[.ba 1 4 0 1]]⟩,⟨4,1,true,.bc [x.cells]⟩] [.own 0 1 0 0 1,dC 32 f] .bx [some ⟨1,1,true,.bc [[.ba 2 4 0 2]]⟩,none,some ⟨4,2,true,.bc [x.cells,(It.dz 32 f).cells]⟩]:=by
 refine cg (own:=bq) (hand:=true) Tryz.func312 (by kernel_rfl) mixed (by kernel_rfl)
  (.dc (true) 278 ([AV.aH 1 32 fun (i x:Nat)=>Zb (f i)]) (dC 32 f) (.bj (128≤140737488355328) (.bj ((0:Int)≤(↑(1):Int)∧(↑(1):Int)<(↑(2):Int)) (.out (AV.aX []) ([some ⟨1,1,true,bA.bc [[AV.ba 2 4 0 2]]⟩,none,some ⟨4,2,true,bA.bc [[Zi (It.kind x),Zi (It.num x),AV.aH 1 (It.nb x) fun (i x_1:Nat)=>Zb (It.fb x i),AV.aH 4 (It.nl x) (It.row x)],[Zi 2,Zi 0,AV.aH 1 32 fun (i x:Nat)=>Zb (f i),AV.bn]]⟩]) (AV.bx) ([some ⟨1,1,true,bA.bc [[AV.ba 2 4 0 2]]⟩,none,some ⟨4,2,true,bA.bc [It.cells x,It.cells (It.dz 32 f)]⟩])))))
  (by kernel_rfl) ?_
 refine b9 (uq (f) (32) (by omega)) ?_
 refine aD (by omega) ?_
 refine aD (by omega) ?_
 exact da (ay.bx _) (⟨aJ.refl _,Gv (cV.refl _) (yn 32 f),trivial⟩)
theorem Gw (x y:It) (a0 a1 a2 a3:Int):bI Tryz.prog aZ 311 [⟨1,1,true,.bc [[.ba 1 4 0 2]]⟩,⟨4,2,true,.bc [x.cells,y.cells]⟩] [.own 0 1 0 0 1,.aH 1 4 fun r k=>aQ (List.getD [[.int .i64 a0],[.int .i64 a1],[.int .i64 a2],[.int .i64 a3]] r []) k] .bx [some ⟨1,1,true,.bc [[.ba 2 4 0 3]]⟩,none,some ⟨4,3,true,.bc [x.cells,y.cells,(be [a0,a1,a2,a3]).cells]⟩]:=by
 refine cg (own:=bq) (hand:=true) Tryz.func311 (by kernel_rfl) mixed (by kernel_rfl)
  (.dc (true) 237 ([AV.aH 1 4 fun (r k:Nat)=>aQ (List.getD [[Zi a0],[Zi a1],[Zi a2],[Zi a3]] r []) k]) (It.av (be [a0,a1,a2,a3])) (.bj (192≤140737488355328) (.bj ((0:Int)≤(↑(2):Int)∧(↑(2):Int)<(↑(3):Int)) (.out (AV.aX []) ([some ⟨1,1,true,bA.bc [[AV.ba 2 4 0 3]]⟩,none,some ⟨4,3,true,bA.bc [[Zi (It.kind x),Zi (It.num x),AV.aH 1 (It.nb x) fun (i x_1:Nat)=>Zb (It.fb x i),AV.aH 4 (It.nl x) (It.row x)],[Zi (It.kind y),Zi (It.num y),AV.aH 1 (It.nb y) fun (i x:Nat)=>Zb (It.fb y i),AV.aH 4 (It.nl y) (It.row y)],[Zi (It.kind (be [a0,a1,a2,a3])),Zi (It.num (be [a0,a1,a2,a3])),AV.aH 1 0 fun (i x:Nat)=>Zb (It.fb (be [a0,a1,a2,a3]) i),AV.aH 4 4 (It.row (be [a0,a1,a2,a3]))]]⟩]) (AV.bx) ([some ⟨1,1,true,bA.bc [[AV.ba 2 4 0 3]]⟩,none,some ⟨4,3,true,bA.bc [It.cells x,It.cells y,It.cells (be [a0,a1,a2,a3])]⟩])))))
  (by kernel_rfl) ?_
 refine b9 (Jk (a0) (a1) (a2) (a3)) ?_
 refine aD (by omega) ?_
 refine aD (by omega) ?_
 exact da (ay.bx _) (⟨.refl _,.refl _,trivial⟩)
theorem FU (c:bD):Pure Tryz.prog aZ 279 [c.av] c.it.av:=by
 refine ar (own:=ow4) Tryz.func279 (by kernel_rfl) mixed (by kernel_rfl)
  (let y0:List AV:=[Zi (It.kind (be [c.1,c.2,c.3,c.4,c.5])),Zi (It.num (be [c.1,c.2,c.3,c.4,c.5])),.aH 1 0 fun i x=>Zb (It.fb (be [c.1,c.2,c.3,c.4,c.5]) i),.aH 4 5 (It.row (be [c.1,c.2,c.3,c.4,c.5]))];let y1:List AV:=[Zi (It.kind (It.dz 32 fun i=>aE (aQ (bD.cells c) (5+(0+i))))),Zi (It.num (It.dz 32 fun i=>aE (aQ (bD.cells c) (5+(0+i))))),.aH 1 32 fun i x=>Zb (It.fb (It.dz 32 fun i=>aE (aQ (bD.cells c) (5+(0+i)))) i),.aH 4 0 (It.row (It.dz 32 fun i=>aE (aQ (bD.cells c) (5+(0+i)))))];(.gc 311 [⟨1,1,true,.bc [[.bn]]⟩] [.own 0 1 0 0 1,.aH 1 5 fun r k=>aQ (List.getD [[Zi c.1],[Zi c.2],[Zi c.3],[Zi c.4],[Zi c.5]] (r+0) []) k] (AV.bx) [some ⟨1,1,true,.bc [[.ba 1 4 0 1]]⟩,some ⟨4,1,true,.bc [It.cells (be [c.1,c.2,c.3,c.4,c.5])]⟩] (.gc 312 [⟨1,1,true,.bc [[.ba 1 4 0 1]]⟩,⟨4,1,true,.bc [y0]⟩] [.own 0 1 0 0 1,.aH 1 32 fun r x=>Zb (aE (aQ (bD.cells c) (5+(0+r))))] (AV.bx) [some ⟨1,1,true,.bc [[.ba 2 4 0 2]]⟩,none,some ⟨4,2,true,.bc [It.cells (be [c.1,c.2,c.3,c.4,c.5]),It.cells (It.dz 32 fun i=>aE (aQ (bD.cells c) (5+(0+i))))]⟩] (.gc 311 [⟨1,1,true,.bc [[.ba 1 4 0 2]]⟩,⟨4,2,true,.bc [y0,y1]⟩] [.own 0 1 0 0 1,.aH 1 4 fun r k=>aQ (List.getD [[Zi c.7],[Zi c.8],[Zi c.9],[Zi c.10]] (r+0) []) k] (AV.bx) [some ⟨1,1,true,.bc [[.ba 2 4 0 3]]⟩,none,some ⟨4,3,true,.bc [It.cells (be [c.1,c.2,c.3,c.4,c.5]),It.cells (It.dz 32 fun i=>aE (aQ (bD.cells c) (5+(0+i)))),It.cells (be [c.7,c.8,c.9,c.10])]⟩] (.out (.agg [Zi 3,Zi 0,.bn,.aH 4 3 fun r k=>aQ (List.getD [y0,y1,[Zi (It.kind (be [c.7,c.8,c.9,c.10])),Zi (It.num (be [c.7,c.8,c.9,c.10])),.aH 1 0 fun i x=>Zb (It.fb (be [c.7,c.8,c.9,c.10]) i),.aH 4 4 (It.row (be [c.7,c.8,c.9,c.10]))]] (r+0) []) k]) [] (It.av (bD.it c)) [])))))
  (by kernel_rfl) ?_
 refine gZ (E3 (c.1) (c.2) (c.3) (c.4) (c.5)) ?_
 refine gZ (C6 (be [c.1,c.2,c.3,c.4,c.5]) (fun (i:Nat)=>aE (aQ (bD.cells c) (5+(0+i))))) ?_
 refine gZ (Gw (be [c.1,c.2,c.3,c.4,c.5]) (It.dz (32:Nat) fun (i:Nat)=>aE (aQ (bD.cells c) (5+(0+i)))) (c.7) (c.8) (c.9) (c.10)) ?_
 exact aq (xT (cV.refl _) ⟨ay.refl _,ay.refl _,ji rfl (fun i hi=>by
                                                                                                     show aE (aQ c.cells (5+(0+i)))=c.root i
                                                                                                     rw [Nat.zero_add]
                                                                                                     exact c.yH hi),ay.refl _,trivial⟩ (cV.refl _))
theorem Gh (c:bD):Pure Tryz.prog aZ 256 [c.av] c.it.av:=by
 refine ar (own:=ow4) Tryz.func256 (by kernel_rfl) mixed (by kernel_rfl)
  (.dc true 203 [.aH 1 5 fun r k=>aQ (List.getD [[Zi c.1],[Zi c.2],[Zi c.3],[Zi c.4],[Zi c.5]] (r+0) []) k] (It.av (be [c.1,c.2,c.3,c.4,c.5])) (.dc true 201 [.agg (bf c.6)] (It.av (It.dz 32 c.6)) (.dc true 203 [.aH 1 4 fun r k=>aQ (List.getD [[Zi c.7],[Zi c.8],[Zi c.9],[Zi c.10]] (r+0) []) k] (It.av (be [c.7,c.8,c.9,c.10])) (.out (.agg [Zi 3,Zi 0,.bn,.aH 4 3 fun r k=>aQ (List.getD [[Zi (It.kind (be [c.1,c.2,c.3,c.4,c.5])),Zi (It.num (be [c.1,c.2,c.3,c.4,c.5])),.aH 1 0 fun i x=>Zb (It.fb (be [c.1,c.2,c.3,c.4,c.5]) i),.aH 4 5 (It.row (be [c.1,c.2,c.3,c.4,c.5]))],[Zi (It.kind (It.dz 32 c.6)),Zi (It.num (It.dz 32 c.6)),.aH 1 32 fun i x=>Zb (It.fb (It.dz 32 c.6) i),.aH 4 0 (It.row (It.dz 32 c.6))],[Zi (It.kind (be [c.7,c.8,c.9,c.10])),Zi (It.num (be [c.7,c.8,c.9,c.10])),.aH 1 0 fun i x=>Zb (It.fb (be [c.7,c.8,c.9,c.10]) i),.aH 4 4 (It.row (be [c.7,c.8,c.9,c.10]))]] (r+0) []) k]) [] (It.av (bD.it c)) []))))
  (by kernel_rfl) ?_
 refine b9 (F2 (c.1) (c.2) (c.3) (c.4) (c.5)) ?_
 refine b9 (lX (c.6)) ?_
 refine b9 (FO (c.7) (c.8) (c.9) (c.10)) ?_
 exact aq (xT (cV.refl _) (cV.refl _) (cV.refl _))
end Go.Proofs.YtpefjkpdniiaoaaGreatDoor
