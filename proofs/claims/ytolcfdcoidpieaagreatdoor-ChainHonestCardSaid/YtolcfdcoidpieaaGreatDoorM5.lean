/- Part of the proof: HV1, EnRound, Itr, HV2, HV3, HV4, HS16, HS17, HS18, HS19, HS20, Inv, HE1, HE2, Nod, Exp, HE3, HE4, HC1, HE5. -/
import Derived.Test.YtolcfdcoidpieaaGreatDoorM4
import Derived.Test.YtolcfdcoidpieaaGreatDoorProg
import Derived.Test.YtolcfdcoidpieaaGreatDoorM2
import Derived.OrdersIn
import Derived.Test.YtolcfdcoidpieaaGreatDoorM3
namespace Go.Proofs.YtolcfdcoidpieaaGreatDoor
open Go Go.Am Go.Sp
set_option maxRecDepth 100000
theorem grow_c (n:Nat) (h0:0<n) (hn:n≤1000):Gives Tryz.prog gl0 281 [] [.nsl,.int .i64 n] (.osl 0 1 0 0) [some ⟨1,n,true,.fn fun _ _=>.int .u8 0⟩]:=by
 have hw:=grow_w hn
 refine gives_sk (own:=ow0) (hand:=true) Tryz.func281 (by kernel_rfl) mixed (by kernel_rfl)
  (let y0:List (Option Ob):=[some ⟨1,n,true,Rep.fn fun (x x_1:Nat)=>Zb 0⟩];(.br (decide ((↑n:Int)<0)) .no (.br (decide (IntKind.wrap IntKind.i64 ((↑n:Int) - IntKind.wrap IntKind.i64 ((0:Int) - 0))>0)) (.req ((0:Int)≤0∧(0:Int)≤(↑(0):Int)) (.req ((0:Int)<IntKind.wrap IntKind.i64 ((↑n:Int) - IntKind.wrap IntKind.i64 ((0:Int) - 0))∧IntKind.wrap IntKind.i64 ((↑n:Int) - IntKind.wrap IntKind.i64 ((0:Int) - 0))*(↑(1):Int)≤140737488355328) (.req ((0:Int)≤0∧(0:Int)≤(↑(Int.toNat (IntKind.wrap IntKind.i64 ((↑n:Int) - IntKind.wrap IntKind.i64 ((0:Int) - 0)))):Int)) (.out (AV.osl 0 1 0 0) ([some ⟨1,Int.toNat (IntKind.wrap IntKind.i64 ((↑n:Int) - IntKind.wrap IntKind.i64 ((0:Int) - 0))),true,Rep.fn fun (i j:Nat)=>Zb (intOfAV (atL (zcells (Value.int IntKind.u8 (0:Int))) j))⟩]) (AV.osl 0 1 0 0) (y0))))) (.out (AV.nsl) ([]) (AV.osl 0 1 0 0) (y0)))))
  (by kernel_rfl) ?_
 refine k_br (fun h0=>?_) (fun h0=>?_)
 ·have g0:=cnd_dec_t h0
  exact (show False from (by exfalso;omega))
 ·have g0:=cnd_dec_f h0
  refine k_br (fun h2=>?_) (fun h2=>?_)
  ·have g2:=cnd_dec_t h2
   refine k_req (by omega) ?_
   refine k_req (by omega) ?_
   refine k_req (by omega) ?_
   exact k_outg (by exact Ent.refl _) (by exact ⟨⟨rfl,by show Int.toNat _=n;rw [hw];rfl,rfl,fun i j _ hj=>Ent.of_eq (zero_u8 hj)⟩,trivial⟩)
  ·have g2:=cnd_dec_f h2
   exact k_outg (by (exfalso;rw [hw] at g2;omega)) (by (exfalso;rw [hw] at g2;omega))
def ow6:FuncId→Option (List Bool):=fun f=>bif Nat.beq f 281 then some [false,false] else none
theorem concat_c (l r:Nat→Int):Pure Tryz.prog gl0 259 [.isl 1 2 fun i _=>.isl 1 32 fun k _=>.int .u8 (twoF l r i k)] (bys 64 (catF l r)):=by
 refine pure_sk (own:=ow6) Tryz.func259 (by kernel_rfl) mixed (by kernel_rfl)
  (.loop ({ x:Nat // x≤2 }) (fun (x:{ x:Nat // x≤2 })=>mkSt [0,9,10,3,11] [AV.isl 1 2 fun (i x:Nat)=>AV.isl 1 32 fun (k x:Nat)=>Zb (twoF l r i k),AV.isl 1 2 fun (i x:Nat)=>AV.isl 1 32 fun (k x:Nat)=>Zb (twoF l r i k),Zi (↑(2):Int),Zi (↑(32*x.1):Int),Zi (↑(x.1):Int)] []) (fun (x:{ x:Nat // x≤2 })=>2 - x.1) (⟨0,Nat.zero_le 2⟩) ([0,9,10,3,11]) ([]) ([AV.isl 1 2 fun (i x:Nat)=>AV.isl 1 32 fun (k x:Nat)=>Zb (twoF l r i k),AV.isl 1 2 fun (i x:Nat)=>AV.isl 1 32 fun (k x:Nat)=>Zb (twoF l r i k),Zi (↑(2):Int),Zi 0,Zi 0]) ([]) (fun x0=>(.br (decide ((↑x0.1:Int)<(↑(2):Int))) (.req ((0:Int)≤(↑x0.1:Int)∧(↑x0.1:Int)<(↑(2):Int)) (.br (decide (IntKind.wrap IntKind.i64 ((↑(32*x0.1):Int)+(↑(32):Int))<0)) .no (.again (Again 0 (fun (x:{ x:Nat // x≤2 })=>mkSt [0,9,10,3,11] [AV.isl 1 2 fun (i x:Nat)=>AV.isl 1 32 fun (k x:Nat)=>Zb (twoF l r i k),AV.isl 1 2 fun (i x:Nat)=>AV.isl 1 32 fun (k x:Nat)=>Zb (twoF l r i k),Zi (↑(2):Int),Zi (↑(32*x.1):Int),Zi (↑(x.1):Int)] []) (fun (x:{ x:Nat // x≤2 })=>2 - x.1) x0) ([0,9,10,3,11]) ([]) ([AV.isl 1 2 fun (i x:Nat)=>AV.isl 1 32 fun (k x:Nat)=>Zb (twoF l r i k),AV.isl 1 2 fun (i x:Nat)=>AV.isl 1 32 fun (k x:Nat)=>Zb (twoF l r i k),Zi (↑(2):Int),Zi (IntKind.wrap IntKind.i64 ((↑(32*x0.1):Int)+(↑(32):Int))),Zi (IntKind.wrap IntKind.i64 ((↑x0.1:Int)+1))]) ([])))) (.gc 281 ([]) ([AV.nsl,Zi (↑(32*x0.1):Int)]) (AV.osl 0 1 0 0) ([some ⟨1,32*x0.1,true,Rep.fn fun (x x_1:Nat)=>Zb 0⟩]) (.loop ({ x:Nat // x≤2 }) (fun (x:{ x:Nat // x≤2 })=>mkSt [25,26,6,27] [AV.isl 1 2 fun (i x:Nat)=>AV.isl 1 32 fun (k x:Nat)=>Zb (twoF l r i k),Zi (↑(2):Int),AV.osl 0 1 0 (32*x.1),Zi (↑(x.1):Int)] [some ⟨1,bif Nat.beq (x.1) 0 then 64 else 32*x.1,true,Rep.fn fun (i x_1:Nat)=>Zb (joinF l r (x.1) i)⟩]) (fun (x:{ x:Nat // x≤2 })=>2 - x.1) (⟨0,Nat.zero_le 2⟩) ([25,26,6,27]) ([16]) ([AV.isl 1 2 fun (i x:Nat)=>AV.isl 1 32 fun (k x:Nat)=>Zb (twoF l r i k),Zi (↑(2):Int),AV.osl 0 1 0 0,Zi 0]) ([some ⟨1,32*x0.1,true,Rep.fn fun (i j:Nat)=>Zb 0⟩]) (fun x7=>(.br (decide ((↑x7.1:Int)<(↑(2):Int))) (.req ((0:Int)≤(↑x7.1:Int)∧(↑x7.1:Int)<(↑(2):Int)) (.req ((32*x7.1+32)*1≤140737488355328) (.again (Again 0 (fun (x:{ x:Nat // x≤2 })=>mkSt [25,26,6,27] [AV.isl 1 2 fun (i x:Nat)=>AV.isl 1 32 fun (k x:Nat)=>Zb (twoF l r i k),Zi (↑(2):Int),AV.osl 0 1 0 (32*x.1),Zi (↑(x.1):Int)] [some ⟨1,bif Nat.beq (x.1) 0 then 64 else 32*x.1,true,Rep.fn fun (i x_1:Nat)=>Zb (joinF l r (x.1) i)⟩]) (fun (x:{ x:Nat // x≤2 })=>2 - x.1) x7) ([25,26,6,27]) ([49]) ([AV.isl 1 2 fun (i x:Nat)=>AV.isl 1 32 fun (k x:Nat)=>Zb (twoF l r i k),Zi (↑(2):Int),AV.osl 0 1 0 (32*x7.1+32),Zi (IntKind.wrap IntKind.i64 ((↑x7.1:Int)+1))]) ([some ⟨1,32*x7.1+32,true,Rep.fn fun (i j:Nat)=>Zb (bif Nat.blt i (32*x7.1) then joinF l r x7.1 i else twoF l r (Int.toNat (↑x7.1:Int)) (i - 32*x7.1))⟩])))) (.out (AV.isl 1 (32*x7.1) fun (r_1 k:Nat)=>Zb (joinF l r x7.1 (r_1+0))) [] (bys 64 (catF l r)) []))))))))
  (by kernel_rfl) ?_
 refine k_loop (fun _ hs=>hs.le (by repeat' (first|exact trivial|(first|exact Ent.refl _|exact inc_ent (by omega)|exact Ent.nil rfl|exact Ent.of_eq (congrArg (AV.osl _ _ _) (by first|omega|(dsimp only;omega)))|exact Ent.of_eq (congrArg (AV.int _) (by first|omega|(dsimp only;omega))))|refine And.intro ?_ ?_)) (trivial)) (fun x0=>?_)
 try (have q0:=x0.2;dsimp only at q0)
 refine k_br (fun h1=>?_) (fun h1=>?_)
 ·have g1:=cnd_dec_t h1
  refine k_req (by omega) ?_
  refine k_br (fun h3=>?_) (fun h3=>?_)
  ·have g3:=cnd_dec_t h3
   exact (show False from (by exfalso;rw [wI (by omega) (by omega)] at g3;omega))
  ·have g3:=cnd_dec_f h3
   exact k_again (⟨x0.1+1,by omega⟩) (fun _ hs=>hs.le (by repeat' (first|exact trivial|(first|exact Ent.refl _|exact inc_ent (by omega)|exact Ent.nil rfl|exact Ent.of_eq (congrArg (AV.osl _ _ _) (by first|omega|(dsimp only;omega)))|exact Ent.of_eq (congrArg (AV.int _) (by first|omega|(dsimp only;omega))))|refine And.intro ?_ ?_)) (trivial)) (by (dsimp only;omega))
 ·have g1:=cnd_dec_f h1
  refine k_gc (grow_c (32*x0.1) (by omega) (by omega)) ?_
  refine k_loop (fun _ hs=>hs.le (by repeat' (first|exact trivial|(first|exact Ent.refl _|exact inc_ent (by omega)|exact Ent.nil rfl|exact Ent.of_eq (congrArg (AV.osl _ _ _) (by first|omega|(dsimp only;omega)))|exact Ent.of_eq (congrArg (AV.int _) (by first|omega|(dsimp only;omega))))|refine And.intro ?_ ?_)) (by exact ⟨⟨rfl,by show 32*x0.1=64;omega,rfl,fun i j _ _=>Ent.refl _⟩,trivial⟩)) (fun x7=>?_)
  try (have q7:=x7.2;dsimp only at q7)
  refine k_br (fun h8=>?_) (fun h8=>?_)
  ·have g8:=cnd_dec_t h8
   refine k_req (by omega) ?_
   refine k_req (by omega) ?_
   exact k_again (⟨x7.1+1,by omega⟩) (fun _ hs=>hs.le (by repeat' (first|exact trivial|(first|exact Ent.refl _|exact inc_ent (by omega)|exact Ent.nil rfl|exact Ent.of_eq (congrArg (AV.osl _ _ _) (by first|omega|(dsimp only;omega)))|exact Ent.of_eq (congrArg (AV.int _) (by first|omega|(dsimp only;omega))))|refine And.intro ?_ ?_)) (by exact ⟨⟨rfl,rfl,rfl,fun i j hi hj=>Ent.of_eq (congrArg _ (join_step (by omega) hi))⟩,trivial⟩)) (by (dsimp only;omega))
  ·have g8:=cnd_dec_f h8
   exact k_out (Ent.islN (by omega) (fun i j hi hj=>congrArg _ (join_all (by omega))))
theorem inner_c (l r:Nat→Int) (hl:byB l 32) (hr:byB r 32):Pure Tryz.prog gl0 220 [.agg (u8c l),.agg (u8c r)] (.agg (u8c (nodeF l r))):=by
 have hc:=(concat_c l r).via (args:=[_]) ⟨two_ent (f:=fun i x=>.int .u8 (intOfAV (atL (u8c l) (0+(0+i))))) (g:=fun i x=>.int .u8 (intOfAV (atL (u8c r) (0+(0+i))))) (fun i hi=>by rw [Nat.zero_add,Nat.zero_add,u8c_at hi]) (fun i hi=>by rw [Nat.zero_add,Nat.zero_add,u8c_at hi]),trivial⟩
 have ht:=tagged_c "specie/node".toUTF8 (by decide) (by decide) (catF l r) 64 (by decide) (cat_by hl hr)
 refine pure_sk (own:=ow0) Tryz.func220 (by kernel_rfl) mixed (by kernel_rfl)
  (.dc (true) 259 ([AV.isl 1 2 fun (r_1 k:Nat)=>atL (List.getD [[AV.isl 1 32 fun (r x:Nat)=>Zb (intOfAV (atL (u8c l) (0+(0+r))))],[AV.isl 1 32 fun (r_2 x:Nat)=>Zb (intOfAV (atL (u8c r) (0+(0+r_2))))]] (r_1+0) []) k]) (bys 64 (catF l r)) (.sc (true) 144 ([AV.str { data := #[(115:UInt8),(112:UInt8),(101:UInt8),(99:UInt8),(105:UInt8),(101:UInt8),(47:UInt8),(110:UInt8),(111:UInt8),(100:UInt8),(101:UInt8)] },AV.isl 1 64 fun (i x:Nat)=>Zb (catF l r i)]) (AV.tup [AV.agg (u8c (tagF (String.toUTF8 "specie/node") 64 (catF l r))),Zi 0]) (.out (AV.agg (u8c (tagF (String.toUTF8 "specie/node") 64 (catF l r)))) [] (AV.agg (u8c (nodeF l r))) [])))
  (by kernel_rfl) ?_
 refine k_dc (hc) ?_
 refine k_sc (ht) ?_
 exact k_out (Ent.refl _)
theorem rinner_c (l r:Nat→Int) (hl:byB l 32) (hr:byB r 32):Pure Tryz.prog gl0 161 [.agg (u8c l),.agg (u8c r)] (.agg (u8c (nodeF l r))):=by
 refine pure_sk (own:=ow0) Tryz.func161 (by kernel_rfl) mixed (by kernel_rfl)
  (let y0:List AV:=[Zb 0,Zb 0,Zb 0,Zb 0,Zb 0,Zb 0,Zb 0,Zb 0,Zb 0,Zb 0,Zb 0,Zb 0,Zb 0,Zb 0,Zb 0,Zb 0,Zb 0,Zb 0,Zb 0,Zb 0,Zb 0,Zb 0,Zb 0,Zb 0,Zb 0,Zb 0,Zb 0,Zb 0,Zb 0,Zb 0,Zb 0,Zb 0];(.loop ({ x:Nat // x≤32 }) (fun (x:{ x:Nat // x≤32 })=>mkSt [2,3,4,5,6] [AV.own 0 32 0 0 32,AV.own 1 32 0 0 32,AV.own 2 32 0 0 32,AV.osl 3 1 0 (x.1),Zi (↑(x.1):Int)] [some ⟨32,1,true,Rep.lst [u8c l]⟩,some ⟨32,1,true,Rep.lst [u8c r]⟩,some ⟨32,1,true,Rep.lst [y0]⟩,some ⟨1,x.1,true,Rep.fn fun (i x:Nat)=>Zb (catF l r i)⟩]) (fun (x:{ x:Nat // x≤32 })=>32 - x.1) (⟨0,Nat.zero_le 32⟩) ([2,3,4,5,6]) ([0,8,16,299]) ([AV.own 0 32 0 0 32,AV.own 1 32 0 0 32,AV.own 2 32 0 0 32,AV.nsl,Zi 0]) ([some ⟨32,1,true,Rep.lst [u8c l]⟩,some ⟨32,1,true,Rep.lst [u8c r]⟩,some ⟨32,1,true,Rep.lst [y0]⟩,some ⟨1,0,true,Rep.lst []⟩]) (fun x0=>(.br (decide ((↑x0.1:Int)<32)) (.req ((0:Int)≤(↑x0.1:Int)∧(↑x0.1:Int)<(↑(32):Int)) (.req ((x0.1+1)*1≤140737488355328) (.again (Again 0 (fun (x:{ x:Nat // x≤32 })=>mkSt [2,3,4,5,6] [AV.own 0 32 0 0 32,AV.own 1 32 0 0 32,AV.own 2 32 0 0 32,AV.osl 3 1 0 (x.1),Zi (↑(x.1):Int)] [some ⟨32,1,true,Rep.lst [u8c l]⟩,some ⟨32,1,true,Rep.lst [u8c r]⟩,some ⟨32,1,true,Rep.lst [y0]⟩,some ⟨1,x.1,true,Rep.fn fun (i x:Nat)=>Zb (catF l r i)⟩]) (fun (x:{ x:Nat // x≤32 })=>32 - x.1) x0) ([2,3,4,5,6]) ([0,1,2,60]) ([AV.own 0 32 0 0 32,AV.own 1 32 0 0 32,AV.own 2 32 0 0 32,AV.osl 3 1 0 (x0.1+1),Zi (IntKind.wrap IntKind.i64 ((↑x0.1:Int)+1))]) ([some ⟨32,1,true,Rep.lst [u8c l]⟩,some ⟨32,1,true,Rep.lst [u8c r]⟩,some ⟨32,1,true,Rep.lst [y0]⟩,some ⟨1,x0.1+1,true,Rep.fn fun (i j:Nat)=>Zb (bif Nat.blt i x0.1 then catF l r i else intOfAV (atL [Zb (intOfAV (Rep.at (Ob.f (Ob.seen ⟨32,1,true,Rep.lst [u8c l]⟩)) 0 (0+Int.toNat (↑(x0.1):Int))))] j))⟩])))) (.loop ({ x:Nat // x≤32 }) (fun (x:{ x:Nat // x≤32 })=>mkSt [3,4,5,7] [AV.own 0 32 0 0 32,AV.own 1 32 0 0 32,AV.osl 2 1 0 (32+x.1),Zi (↑(x.1):Int)] [some ⟨32,1,true,Rep.lst [u8c r]⟩,some ⟨32,1,true,Rep.lst [y0]⟩,some ⟨1,32+x.1,true,Rep.fn fun (i x:Nat)=>Zb (catF l r i)⟩]) (fun (x:{ x:Nat // x≤32 })=>32 - x.1) (⟨0,Nat.zero_le 32⟩) ([3,4,5,7]) ([1,2,3]) ([AV.own 0 32 0 0 32,AV.own 1 32 0 0 32,AV.osl 2 1 0 x0.1,Zi 0]) ([some ⟨32,1,true,Rep.lst [u8c r]⟩,some ⟨32,1,true,Rep.lst [y0]⟩,some ⟨1,x0.1,true,Rep.fn fun (i j:Nat)=>Zb (catF l r i)⟩]) (fun x5=>(.br (decide ((↑x5.1:Int)<32)) (.req ((0:Int)≤(↑x5.1:Int)∧(↑x5.1:Int)<(↑(32):Int)) (.req ((32+x5.1+1)*1≤140737488355328) (.again (Again 0 (fun (x:{ x:Nat // x≤32 })=>mkSt [3,4,5,7] [AV.own 0 32 0 0 32,AV.own 1 32 0 0 32,AV.osl 2 1 0 (32+x.1),Zi (↑(x.1):Int)] [some ⟨32,1,true,Rep.lst [u8c r]⟩,some ⟨32,1,true,Rep.lst [y0]⟩,some ⟨1,32+x.1,true,Rep.fn fun (i x:Nat)=>Zb (catF l r i)⟩]) (fun (x:{ x:Nat // x≤32 })=>32 - x.1) x5) ([3,4,5,7]) ([0,1,59]) ([AV.own 0 32 0 0 32,AV.own 1 32 0 0 32,AV.osl 2 1 0 (32+x5.1+1),Zi (IntKind.wrap IntKind.i64 ((↑x5.1:Int)+1))]) ([some ⟨32,1,true,Rep.lst [u8c r]⟩,some ⟨32,1,true,Rep.lst [y0]⟩,some ⟨1,32+x5.1+1,true,Rep.fn fun (i j:Nat)=>Zb (bif Nat.blt i (32+x5.1) then catF l r i else intOfAV (atL [Zb (intOfAV (Rep.at (Ob.f (Ob.seen ⟨32,1,true,Rep.lst [u8c r]⟩)) 0 (0+Int.toNat (↑(x5.1):Int))))] j))⟩])))) (.sc (true) 156 ([AV.str { data := #[(115:UInt8),(112:UInt8),(101:UInt8),(99:UInt8),(105:UInt8),(101:UInt8),(47:UInt8),(110:UInt8),(111:UInt8),(100:UInt8),(101:UInt8)] },AV.isl 1 (32+x5.1) fun (r_1 k:Nat)=>Zb (catF l r (r_1+0))]) (AV.agg (u8c (tagF (String.toUTF8 "specie/node") (32+x5.1) (catF l r)))) (.out (AV.agg (u8c (tagF (String.toUTF8 "specie/node") (32+x5.1) (catF l r)))) [] (AV.agg (u8c (nodeF l r))) [])))))))))
  (by kernel_rfl) ?_
 refine k_loop (fun _ hs=>hs.le (by repeat' (first|exact trivial|(first|exact Ent.refl _|exact inc_ent (by omega)|exact Ent.nil rfl|exact Ent.of_eq (congrArg (AV.osl _ _ _) (by first|omega|(dsimp only;omega)))|exact Ent.of_eq (congrArg (AV.int _) (by first|omega|(dsimp only;omega))))|refine And.intro ?_ ?_)) (by repeat' (first|exact trivial|(first|exact ObEnt.refl _|exact ObEnt.junk|exact ObEnt.zero|exact ObEnt.push rfl rfl|exact ObEnt.pushRow rfl|exact ObEnt.len (by omega)|exact ObEnt.row (by repeat' (first|exact trivial|(first|exact Ent.refl _|exact inc_ent (by omega)|exact Ent.nil rfl|exact Ent.of_eq (congrArg (AV.osl _ _ _) (by first|omega|(dsimp only;omega)))|exact Ent.of_eq (congrArg (AV.int _) (by first|omega|(dsimp only;omega))))|refine And.intro ?_ ?_)))|refine And.intro ?_ ?_))) (fun x0=>?_)
 try (have q0:=x0.2;dsimp only at q0)
 refine k_br (fun h1=>?_) (fun h1=>?_)
 ·have g1:=cnd_dec_t h1
  refine k_req (by omega) ?_
  refine k_req (by omega) ?_
  exact k_again (⟨x0.1+1,by omega⟩) (fun _ hs=>hs.le (by repeat' (first|exact trivial|(first|exact Ent.refl _|exact inc_ent (by omega)|exact Ent.nil rfl|exact Ent.of_eq (congrArg (AV.osl _ _ _) (by first|omega|(dsimp only;omega)))|exact Ent.of_eq (congrArg (AV.int _) (by first|omega|(dsimp only;omega))))|refine And.intro ?_ ?_)) (⟨by exact ObEnt.refl _,by exact ObEnt.refl _,by exact ObEnt.refl _,ObEnt.pushF (F:=catF l r) (by dsimp only) (by show intOfAV (atL (u8c l) (0+x0.1))=catF l r x0.1;rw [Nat.zero_add,u8c_at (by omega),cat_lo (by omega)]),trivial⟩)) (by (dsimp only;omega))
 ·have g1:=cnd_dec_f h1
  refine k_loop (fun _ hs=>hs.le (by repeat' (first|exact trivial|(first|exact Ent.refl _|exact inc_ent (by omega)|exact Ent.nil rfl|exact Ent.of_eq (congrArg (AV.osl _ _ _) (by (dsimp only;omega)))|exact Ent.of_eq (congrArg (AV.int _) (by first|omega|(dsimp only;omega))))|refine And.intro ?_ ?_)) (⟨by exact ObEnt.refl _,by exact ObEnt.refl _,⟨rfl,by show x0.1=32+0;omega,rfl,fun _ _ _ _=>Ent.refl _⟩,trivial⟩)) (fun x5=>?_)
  try (have q5:=x5.2;dsimp only at q5)
  refine k_br (fun h6=>?_) (fun h6=>?_)
  ·have g6:=cnd_dec_t h6
   refine k_req (by omega) ?_
   refine k_req (by omega) ?_
   exact k_again (⟨x5.1+1,by omega⟩) (fun _ hs=>hs.le (by repeat' (first|exact trivial|(first|exact Ent.refl _|exact inc_ent (by omega)|exact Ent.nil rfl|exact Ent.of_eq (congrArg (AV.osl _ _ _) (by first|omega|(dsimp only;omega)))|exact Ent.of_eq (congrArg (AV.int _) (by first|omega|(dsimp only;omega))))|refine And.intro ?_ ?_)) (⟨by exact ObEnt.refl _,by exact ObEnt.refl _,ObEnt.pushF (F:=catF l r) (by dsimp only;omega) (by show intOfAV (atL (u8c r) (0+x5.1))=catF l r (32+x5.1);rw [Nat.zero_add,u8c_at (by omega),cat_hi]),trivial⟩)) (by (dsimp only;omega))
  ·have g6:=cnd_dec_f h6
   refine k_sc ((rtagged_c (String.toUTF8 "specie/node") (of_decide_eq_true (id (Eq.refl true))) (catF l r)) (32+x5.1) (by omega) (by exact by_congr (fun i=>rfl) (by rw [show 32+x5.1=64 by omega];exact cat_by hl hr))) ?_
   exact k_out (Ent.of_eq (congrArg (fun t=>AV.agg (u8c t)) (node_n (by omega))))
end Go.Proofs.YtolcfdcoidpieaaGreatDoor

namespace Go.Am
open Go.RowKit
def keepsOps (pins:List Nat) (ops:Array Oper):Bool :=
 ops.toList.all fun o=>(match o.op with|.defer _=>false|.mapUpdate .. => false|_=>true)&&(match o.dst with|some d => !memN pins d|none=>true)
def keepsC (pins:List Nat):Code→Bool
 | .skip=>true
 | .region _ ops _=>keepsOps pins ops
 | .seq x y=>keepsC pins x&&keepsC pins y
 | .cond _ x y=>keepsC pins x&&keepsC pins y
 | .block _ x=>keepsC pins x
 | _=>false
def PinIn (pins:List Nat) (a0 a:Act):Prop:=∀ n,n∈pins→a.tmps.getD n undef=a0.tmps.getD n undef
section
def Open (F:Fence):Prop:=F=Fence.wide∨∃ l,F=Fence.wide.inRound l
theorem Open.calls {F:Fence} (h:Open F) {n:Nat} {P:Program} {f:FuncId} {args:Array Value} {w:World} {R:Ending→World→Prop} (hc:Calls P f args w R):CallsIn F n P f args w R:=by
 rcases h with rfl|⟨l,rfl⟩
 ·exact callsIn_wide.2 hc
 ·exact CallsIn.inRound l (callsIn_wide.2 hc)
theorem Open.fn {F:Fence} (h:Open F) (f:FuncId):F.fn f:=by rcases h with rfl|⟨l,rfl⟩<;>trivial
theorem Open.deep {F:Fence} (h:Open F):¬F.depth.isSome=true:=by rcases h with rfl|⟨l,rfl⟩<;>(intro h;cases h)
theorem Open.steps {F:Fence} (h:Open F) {P:Program} {m m':Machine} (hs:Steps P m m'):StepsIn (Machine.fenced P F) P m m':=by rcases h with rfl|⟨l,rfl⟩<;>exact stepsIn_wide.2 hs
variable {P:Program} {ops:Array Oper} {Q Q':Exit→Act→World→Prop} {F:Fence} {n:Nat} {pins:List Nat} {a0:Act}
theorem upon_in (hF:Open F) {o:Oper} {a:Act} {K K':Act→World→Prop} (hp:∀ ch a w,¬Q (.panic ch) a w) (hO:¬LetsOut Q) (hK:∀ a' w',(∃ v,a'.tmps=(a.put o.dst v).tmps)→K a' w'→K' a' w'):∀ (r:Result Next),o.upon P a K Q r→o.uponIn F n P a K' Q' r:=by
 intro r h
 cases r with
 | ok x w' =>
  cases x<;>simp only [Oper.upon] at h<;>simp only [Oper.uponIn]
  case value v=>exact hK _ _ ⟨v,rfl⟩ h
  case skip=>exact hK _ _ ⟨undef,rfl⟩ h
  case defer d=>exact hK _ _ ⟨undef,by cases o.dst<;>rfl⟩ h
  case enter f args =>
   refine ⟨fun h=>(hF.deep h).elim,hF.calls (h.mono fun e w'' he=>?_)⟩
   cases e with
   | returned v=>exact hK _ _ ⟨v,rfl⟩ he
   | panicked ch=>exact (hp _ _ _ he).elim
   | outgrown=>exact (hO he).elim
  case row row args =>
   refine ⟨fun h=>(hF.deep h).elim,fun c cs _=>?_⟩
   obtain ⟨v,w'',hr,hs⟩:=h c cs
   exact ⟨v,w'',hK _ _ ⟨v,rfl⟩ hr,hF.steps hs⟩
 | halt x w' =>
  cases x<;>simp only [Oper.upon] at h
  exact (hp _ _ _ h).elim
theorem op_in (hF:Open F) {o:Oper} {a:Act} {w:World} {K K':Act→World→Prop} (hd:∀ c,o.op≠.defer c) (hp:∀ ch a w,¬Q (.panic ch) a w) (hO:¬LetsOut Q) (hK:∀ a' w',(∃ v,a'.tmps=(a.put o.dst v).tmps)→K a' w'→K' a' w')
  (h:o.wp P a w K Q):o.wpIn F n P a w K' Q':=by
 refine ⟨fun f _=>hF.fn f,?_⟩
 rw [Oper.semAt_eq _ _ _ hd]
 exact upon_in hF hp hO hK _ h
theorem keeps_upd {pins:List Nat} {ops:Array Oper} (hk:keepsOps pins ops=true):hasUpd ops=false:=by
 unfold hasUpd
 rw [List.any_eq_false]
 intro o ho
 have:=List.all_eq_true.1 hk o ho
 rw [Bool.and_eq_true] at this
 have h1:=this.1
 cases hop:o.op<;>simp [hop] at h1 ⊢
theorem keeps_at {i:Nat} {o:Oper} (hk:keepsOps pins ops=true) (ho:ops[i]? = some o):(∀ c,o.op≠.defer c)∧∀ n,n∈pins→o.dst≠some n:=by
 have hm:o∈ops.toList:=by
  obtain ⟨h1,h2⟩:=Array.getElem?_eq_some_iff.1 ho
  rw [← h2];simp
 have:=List.all_eq_true.1 hk o hm
 rw [Bool.and_eq_true] at this
 obtain ⟨h1,h2⟩:=this
 refine ⟨fun c e=>(by rw [e] at h1;cases h1),fun n hn e=>?_⟩
 rw [e] at h2
 simp only [Bool.not_eq_true'] at h2
 rw [memN_iff.2 hn] at h2
 cases h2
theorem pinned_put {o:Oper} {a a':Act} {v:Value} (hd:∀ n,n∈pins→o.dst≠some n) (h:PinIn pins a0 a) (e:a'.tmps=(a.put o.dst v).tmps):PinIn pins a0 a':=fun n hn=>by
 rw [e,← h n hn]
 cases hdd:o.dst with
 | none=>rfl
 | some d=>exact getD_put_ne (fun e=>hd n hn (by rw [hdd,e]))
theorem ops_in (hF:Open F) (hk:keepsOps pins ops=true) (hp:∀ ch a w,¬Q (.panic ch) a w) (hO:¬LetsOut Q):∀ (is:List Nat) (a:Act) (w:World),wpOps P ops Q is a w→PinIn pins a0 a →
  wpOpsIn F n P ops (fun e a w=>Q e a w∧PinIn pins a0 a) is a w:=by
 intro is
 induction is with
 | nil=>intro a w h hpin;exact ⟨h,hpin⟩
 | cons i rest ih =>
  intro a w h hpin
  simp only [wpOps] at h
  simp only [wpOpsIn]
  cases ho:ops[i]? with
  | none=>simp only [ho] at h ⊢;exact ih a w h hpin
  | some o =>
   simp only [ho] at h ⊢
   obtain ⟨h1,h2⟩:=keeps_at hk ho
   by_cases hw:Region.wanted o (yielded ops a.tmps)=true
   ·simp only [hw,if_true] at h ⊢
    rcases h with h|h
    ·exact op_in hF h1 hp hO (fun a' w' hv hh=>let ⟨v,e⟩:=hv;ih a' w' hh (pinned_put h2 hpin e)) h
    ·exact (hO h.2).elim
   ·simp only [hw,if_false,Bool.false_eq_true] at h ⊢
    exact ⟨fun f _=>hF.fn f,ih _ _ h (pinned_put h2 hpin rfl)⟩
theorem any_in (hF:Open F) (hk:keepsOps pins ops=true) (hp:∀ ch a w,¬Q (.panic ch) a w) (hO:¬LetsOut Q) {md:Region.Mode}:∀ (fuel:Nat) (listed:Array Bool) (a:Act) (w:World),wpAny P md ops Q fuel listed a w→PinIn pins a0 a →
  wpAnyIn F n P md ops (fun e a w=>Q e a w∧PinIn pins a0 a) fuel listed a w:=by
 intro fuel
 induction fuel with
 | zero=>intro listed a w h hpin;exact ⟨h.1,h.2,hpin⟩
 | succ fuel ih =>
  intro listed a w h hpin
  refine ⟨fun hr=>⟨h.1 hr,hpin⟩,fun i hi=>?_⟩
  have:=h.2 i hi
  unfold wpOp at this
  unfold wpOpIn
  cases ho:ops[i]? with
  | none=>simp only [ho] at this ⊢;exact ih _ a w this hpin
  | some o =>
   simp only [ho] at this ⊢
   obtain ⟨h1,h2⟩:=keeps_at hk ho
   by_cases hw:Region.wanted o (yielded ops a.tmps)=true
   ·simp only [hw,if_true] at this ⊢
    rcases this with h|h
    ·exact op_in hF h1 hp hO (fun a' w' hv hh=>let ⟨v,e⟩:=hv;ih _ a' w' hh (pinned_put h2 hpin e)) h
    ·exact (hO h.2).elim
   ·simp only [hw,if_false,Bool.false_eq_true] at this ⊢
    exact ⟨fun f _=>hF.fn f,ih _ _ _ this (pinned_put h2 hpin rfl)⟩
end
theorem uponIn_in {P:Program} {F:Fence} {n:Nat} {Q Q':Exit→Act→World→Prop} {o:Oper} {a:Act} {K K':Act→World→Prop} (hp:∀ ch a w,¬Q (.panic ch) a w) (hO:¬LetsOut Q) (hK:∀ a' w',K a' w'→K' a' w'):∀ (r:Result Next),o.uponIn F n P a K Q r→o.uponIn F n P a K' Q' r:=by
 intro r h
 cases r with
 | ok x w' =>
  cases x<;>simp only [Oper.uponIn] at h ⊢
  case value v=>exact hK _ _ h
  case skip=>exact hK _ _ h
  case defer d=>exact hK _ _ h
  case enter f args=>exact ⟨h.1,h.2.mono fun e w'' he=>by
   cases e with
   | returned v=>exact hK _ _ he
   | panicked ch=>exact (hp _ _ _ he).elim
   | outgrown=>exact (hO he).elim⟩
  case row row args=>exact ⟨h.1,h.2.mono fun v w'' he=>hK _ _ he⟩
  case round l f tmps x y=>exact ⟨h.1,h.2.mono fun e w'' he=>by
   cases e with
   | returned v=>exact hK _ _ he
   | panicked ch=>exact (hp _ _ _ he).elim
   | outgrown=>exact (hO he).elim⟩
 | halt x w' =>
  cases x<;>simp only [Oper.uponIn] at h
  exact (hp _ _ _ h).elim
theorem opsIn_pre {P:Program} {F:Fence} {n:Nat} {ops ops':Array Oper} {m:Nat} {X:Act→World→Prop} {Q:Exit→Act→World→Prop} {rest:List Nat} (hops:∀ i,i<m→ops'[i]? = ops[i]?) (hg:∀ i o,i<m→ops[i]? = some o→o.guard=none)
  (hX:∀ a w,X a w→wpOpsIn F n P ops Q rest a w):∀ (l:List Nat),(∀ i,i∈l→i<m)→∀ (a:Act) (w:World),wpOpsIn F n P ops' (fun e a w=>(e=.normal∧X a w)) l a w→wpOpsIn F n P ops Q (l++rest) a w:=by
 intro l
 induction l with
 | nil=>intro _ a w h;exact hX a w h.2
 | cons i l ih =>
  intro hl a w h
  have hi:=hl i (List.mem_cons_self ..)
  rw [List.cons_append]
  simp only [wpOpsIn] at h ⊢
  rw [hops i hi] at h
  cases ho:ops[i]? with
  | none=>simp only [ho] at h ⊢;exact ih (fun k hk=>hl k (List.mem_cons_of_mem _ hk)) a w h
  | some o =>
   simp only [ho] at h ⊢
   have hw:∀ ys,Region.wanted o ys=true:=fun ys=>by simp [Region.wanted,hg i o hi ho]
   simp only [hw,if_true] at h ⊢
   exact ⟨h.1,uponIn_in (fun _ _ _ h=>by cases h.1) (fun ⟨_,_,h⟩=>by cases h.1) (fun a' w' h'=>ih (fun k hk=>hl k (List.mem_cons_of_mem _ hk)) a' w' h') _ h.2⟩
theorem final_no_panic {K:Ctx} {C:Cfg} {k:AExit→ASt→Tree}:∀ ch a w,¬Final K C k (.panic ch) a w:=fun ch a w ⟨_,_,_,h,_⟩=>by cases h
theorem final_no_out {K:Ctx} {C:Cfg} {k:AExit→ASt→Tree}:¬LetsOut (Final K C k):=fun ⟨_,_,_,_,_,h,_⟩=>by cases h
theorem runsIn {K:Ctx} {C:Cfg} {pins:List Nat} {a0:Act} {F:Fence} {n:Nat} (hF:Open F) (hP:C.P=K.P) (hgl:C.gl=K.gl) (hnt:C.nt=K.nt) (hm:K.P.follows .mixedOrders=true) (x:Code) :
  ∀ (k:AExit→ASt→Tree) (s:ASt) (β:Book) (a:Act) (w:World),keepsC pins x=true→(run C x k s).wp C.P C.gl (Le C.ng)→Sim K β s a w→PinIn pins a0 a →
   x.wpIn F n K.P (fun e a w=>Final K C k e a w∧PinIn pins a0 a) a w:=by
 induction x with
 | skip=>intro k s β a w _ h hs hp;exact wpIn_skip ⟨⟨β,s,.normal,rfl,hs,h⟩,hp⟩
 | region id ops draw =>
  intro k s β a w hk h hs hp
  simp only [run,keeps_upd hk,cond_false] at h
  cases hd:dstsOk ops with
  | false=>simp only [hd,cond_false] at h;exact h.elim
  | true =>
   simp only [hd,cond_true] at h
   obtain ⟨h1,h2⟩:=region_core hP hgl hnt hd h hs (Q:=Final K C k) (fun β' r a' w' hr hX=>⟨β',_,.normal,rfl,hr.toA,hX⟩)
   cases draw with
   | false=>exact wpIn_region (ops_in hF hk final_no_panic final_no_out _ a w (h1 rfl) hp)
   | true=>exact wpIn_region_any hm (any_in hF hk final_no_panic final_no_out _ _ a _ (h2 rfl) hp)
 | seq x y ihx ihy =>
  intro k s β a w hk h hs hp
  simp only [keepsC,Bool.and_eq_true] at hk
  refine wpIn_seq (wpIn_mono (ihx _ s β a w hk.1 h hs hp) ?_)
  rintro e a' w' ⟨⟨β',s',ae,he,hs',hk'⟩,hp'⟩
  cases e<;>simp only [exitOf,reduceCtorEq,Option.some.injEq] at he
  ·subst he;exact ihy k s' β' a' w' hk.2 hk' hs' hp'
  ·subst he;exact ⟨⟨β',s',_,rfl,hs',hk'⟩,hp'⟩
  ·subst he;exact ⟨⟨β',s',_,rfl,hs',hk'⟩,hp'⟩
 | cond c x y ihx ihy =>
  intro k s β a w hk h hs hp
  simp only [keepsC,Bool.and_eq_true] at hk
  simp only [run] at h
  split at h
  ·rename_i b hb
   have hrel:Rel β w (ev K.gl s.fr c) (a.eval c):=by
    have:=rel_ev (hs.toR #[]) (x:=c) (fun t _=>rfl)
    exact this
   rw [← hgl,hb] at hrel
   have hv:=rel_bool_inv hrel
   exact wpIn_cond_split hv (fun ht=>ihx k s β a w hk.1 (h.1 ht) hs hp) (fun hf=>ihy k s β a w hk.2 (h.2 hf) hs hp)
  ·exact h.elim
 | block id x ih =>
  intro k s β a w hk h hs hp
  refine wpIn_block (wpIn_mono (ih _ s β a w hk h hs hp) ?_)
  rintro e a' w' ⟨⟨β',s',ae,he,hs',hk'⟩,hp'⟩
  cases e<;>simp only [exitOf,reduceCtorEq,Option.some.injEq] at he
  ·subst he;exact ⟨⟨β',s',_,rfl,hs',hk'⟩,hp'⟩
  ·rename_i j
   subst he
   simp only [Exit.inBlock]
   by_cases e:j=id
   ·subst e
    rw [if_pos rfl]
    simp only [Nat.beq_refl,cond_true] at hk'
    exact ⟨⟨β',s',.normal,rfl,hs',hk'⟩,hp'⟩
   ·rw [if_neg e]
    have hb:Nat.beq j id=false:=by
     cases hb:Nat.beq j id with
     | false=>rfl
     | true=>exact absurd (Nat.eq_of_beq_eq_true hb) e
    simp only [hb,cond_false] at hk'
    exact ⟨⟨β',s',.leave j,rfl,hs',hk'⟩,hp'⟩
  ·subst he;exact ⟨⟨β',s',_,rfl,hs',hk'⟩,hp'⟩
 | _=>intro k s β a w hk;cases hk
def CalmIn (β:Book) (w W:World):Prop:=w.heap.size≤W.heap.size∧(∀ b,b<w.heap.size→β.free b→W.heap[b]? = w.heap[b]?)∧∀ b,b<w.heap.size→W.shape? b=w.shape? b
def Stays (β:Book) (w W W':World):Prop:=CalmIn β w W→CalmIn β w W'
def Iter (P:Program) (gl:Globs) (gf:FuncId) (lb:List AV) (n:Nat) (xs:Fin n→AV):Prop :=
 Enters P gf∧∀ (β:Book) (w:World) (vs:Array Value),(∀ b,β.F b→b<w.heap.size)→(∀ id b k mu,β.m id=some (.lives b k mu)→b<w.heap.size)→GlobB gl β w→Rels β w lb vs →
  ∃ ys:Fin n→Value,(∀ i,Rel β w (xs i) (ys i))∧SeqStopsK Fence.wide 8 P gf vs (fun i => #[ys i]) (Stays β w) (fun l=>l=List.finRange n) (fun _=>True) n w
def roundT (P:Program) (gl:Globs) (own:FuncId→Option (List Bool)) (ng nt:Nat) (c:Code) (s s':ASt):Tree :=
 run ⟨P,gl,nt,own,ng⟩ c (fun e t=>match e with|.normal=>.again t (fun u=>Le ng u s')|_=>.bad "round") s
def Round (P:Program) (gl:Globs) (own:FuncId→Option (List Bool)) (ng nt:Nat) (c:Code) (s s':ASt):Prop:=(roundT P gl own ng nt c s s').wp P gl (Le ng)
theorem round_sk {P:Program} {gl:Globs} {own:FuncId→Option (List Bool)} {ng nt:Nat} {c:Code} {s s':ASt} (sk:Sk) (hu:unroll ng (roundT P gl own ng nt c s s') sk=sk) (h:sk.ok P gl ng):Round P gl own ng nt c s s' :=
 unroll_ok sk _ hu h
theorem k_againR {P:Program} {gl:Globs} {ng:Nat} {s':ASt} {ns π:List Nat} {vals:List AV} {os:List (Option Ob)} (h:∀ s,Desc ng s ns π vals os→Le ng s s'):(Sk.again (fun u=>Le ng u s') ns π vals os).ok P gl ng:=h
theorem lookZ_none {ns:List Nat} {vs:List AV} {n:Nat} (h:n∉ns):lookZ ns vs n=.junk:=by
 induction ns generalizing vs with
 | nil=>rfl
 | cons m ns ih =>
  cases vs with
  | nil=>rfl
  | cons v vs =>
   rw [List.mem_cons,not_or] at h
   have hb:Nat.beq m n=false:=by
    cases hb:Nat.beq m n with
    | false=>rfl
    | true=>exact absurd (Nat.eq_of_beq_eq_true hb).symm h.1
   simp only [lookZ,hb,cond_false]
   exact ih h.2
def calmB (β:Book) (w:World):Book:=⟨fun _=>none,fun b=>b<w.heap.size∧¬β.free b⟩
theorem Rel.calm {β:Book} {w W:World} {a:AV} {v:Value} (h:Rel β w a v) (hc:Cl a) (hW:CalmIn β w W):Rel (calmB β w) W a v:=by
 let B1:Book:=⟨fun _=>none,fun b=>¬β.free b⟩
 have f1:∀ b,β.free b→B1.free b:=fun b h=>⟨fun h'=>h' h,fun id m h=>by cases h⟩
 have hk:Keeps B1 w (calmB β w) W:=by
  refine ⟨fun id o h=>(by cases h),fun b hb hfb=>hW.2.1 b hb (Classical.byContradiction fun h=>hfb.1 h),fun b hb hfb=>⟨fun h=>hfb.1 h.2,fun id m h=>by cases h⟩,fun b el sz h=>?_⟩
  rw [hW.2.2 b (lt_of_shape h)];exact h
 exact (h.rebook f1 hc).keep hk
theorem GlobAt.calm {β:Book} {w W:World} {g m:Nat} {f:Nat→AV} (h:GlobAt β w g m f) (hc:Cl (.ipt m f)) (hW:CalmIn β w W):GlobAt (calmB β w) W g m f :=
 ⟨h.rel.calm hc hW,let ⟨el,e⟩:=h.size;⟨el,by rw [hW.2.2 g (lt_of_shape e)];exact e⟩⟩
def calmK (P:Program) (gl:Globs) (nt:Nat) (β:Book) (w W:World):Ctx:=⟨P,gl,W.heap.size,W,nt,(calmB β w).F,fun _=>False,fun _=>none,true⟩
theorem Sim.calm {P:Program} {gl:Globs} {nt:Nat} {β:Book} {w W:World} {ns:List Nat} {vs:List AV} {a:Act} (hg:GlobB gl β w) (hW:CalmIn β w W) (hsz:a.tmps.size=nt) (hd:a.defers=[])
  (hv:∀ (k n:Nat) v,ns[k]? = some n→vs[k]? = some v→Rel (calmB β w) W v (a.tmps.getD n undef)):Sim (calmK P gl nt β w W) (calmB β w) (mkSt ns vs []) a W:=by
 refine ⟨fun n=>?_,hsz,by rw [hd];exact Marks.nil _ _,fun id o h=>(by simp [mkSt] at h),fun _ _ _ _ _ _ _ h=>(by cases h),fun _ _=>rfl,fun _ _ _ _ h=>(by cases h),fun _ _ h=>(by cases h),rfl,fun b hb=>⟨Nat.lt_of_lt_of_le hb.1 hW.1,fun h=>h⟩,
  Kept.refl _ _ _,Nat.le_refl _,fun g m h hgl=>((hg g m h hgl).calm ?_ hW)⟩
 ·show Rel _ _ (lookZ ns vs n) _
  clear hg hW hsz hd
  induction ns generalizing vs with
  | nil=>exact .junk
  | cons m ns ih =>
   cases vs with
   | nil=>exact .junk
   | cons v vs =>
    simp only [lookZ]
    cases hb:Nat.beq m n with
    | true =>
     have:=Nat.eq_of_beq_eq_true hb
     subst this
     exact hv 0 m v rfl rfl
    | false=>exact ih (fun k n v hn hv'=>hv (k+1) n v (by simpa using hn) (by simpa using hv'))
 ·obtain ⟨_,_,_,_,_,_,_,_,hcl,_⟩:=rel_ipt_inv (hg g m h hgl).rel
  exact .ipt hcl
theorem Round.in {F:Fence} {n:Nat} {K:Ctx} {own:FuncId→Option (List Bool)} {ng:Nat} {c:Code} {s s':ASt} {β:Book} {a:Act} {w:World} {pins:List Nat} (hr:Round K.P K.gl own ng K.nt c s s') (hF:Open F) (hk:keepsC pins c=true)
  (hng:∀ id,ng≤id→K.b0 id=none) (hm:K.P.follows .mixedOrders=true) (hs:Sim K β s a w):c.wpIn F n K.P (fun e a' w'=>e=.normal∧(∃ β',Sim K β' s' a' w')∧PinIn pins a a') a w:=by
 refine wpIn_mono (runsIn (C:=⟨K.P,K.gl,K.nt,own,ng⟩) (pins:=pins) (a0:=a) hF rfl rfl rfl hm c _ s β a w hk hr hs (fun _ _=>rfl)) ?_
 rintro e a' w' ⟨⟨β',t,ae,he,hs',hk'⟩,hp⟩
 cases e<;>simp only [exitOf,reduceCtorEq,Option.some.injEq] at he
 ·subst he;exact ⟨rfl,hk' K β' a' w' hng hs',hp⟩
 ·subst he;exact hk'.elim
 ·subst he;exact hk'.elim
theorem Round.ops {F:Fence} {n:Nat} {K:Ctx} {own:FuncId→Option (List Bool)} {ng id:Nat} {ops:Array Oper} {s s':ASt} {β:Book} {a:Act} {w:World} {pins:List Nat} (hr:Round K.P K.gl own ng K.nt (.region id ops false) s s') (hF:Open F) (hk:keepsOps pins ops=true)
  (hng:∀ id,ng≤id→K.b0 id=none) (hs:Sim K β s a w):wpOpsIn F n K.P ops (fun e a' w'=>e=.normal∧(∃ β',Sim K β' s' a' w')∧PinIn pins a a') (List.range ops.size) a w:=by
 have h:(run ⟨K.P,K.gl,K.nt,own,ng⟩ (.region id ops false) (fun e t=>match e with|.normal=>.again t (fun u=>Le ng u s')|_=>.bad "round") s).wp K.P K.gl (Le ng):=hr
 simp only [run,keeps_upd hk,cond_false] at h
 cases hd:dstsOk ops with
 | false=>simp only [hd,cond_false] at h;exact h.elim
 | true =>
  simp only [hd,cond_true] at h
  have:=(region_core (K:=K) (C:=⟨K.P,K.gl,K.nt,own,ng⟩) rfl rfl rfl hd h hs (Q:=fun e a w=>e=.normal∧∃ β',Sim K β' s' a w) (fun β' r a' w' hr hX=>⟨rfl,hX K β' a' w' hng hr.toA⟩)).1 rfl
  have h2:=ops_in (a0:=a) (pins:=pins) (n:=n) hF hk (fun _ _ _ h=>by cases h.1) (fun ⟨_,_,h⟩=>by cases h.1) _ a w this (fun _ _=>rfl)
  have e:(fun e a' w'=>(e=Exit.normal∧∃ β',Sim K β' s' a' w')∧PinIn pins a a')=(fun e a' w'=>e=.normal∧(∃ β',Sim K β' s' a' w')∧PinIn pins a a'):=funext fun _=>funext fun _=>funext fun _=>propext and_assoc
  rw [e] at h2
  exact h2
def allMu (obs:List (Option Ob)):Bool:=obs.all fun o=>match o with|some o=>o.mu|none=>false
theorem allMu_spec {obs:List (Option Ob)} (h:allMu obs=true) {k:Nat} (hk:k<obs.length):∃ o,obs.getD k none=some o∧o.mu=true:=by
 have:=List.all_eq_true.1 h obs[k] (List.getElem_mem hk)
 rw [List.getD_eq_getElem?_getD,List.getElem?_eq_getElem hk]
 cases ho:obs[k] with
 | none=>rw [ho] at this;cases this
 | some o=>rw [ho] at this;exact ⟨o,by simp,this⟩
theorem opq_range {P:Program} {gl:Globs} {own:FuncId→Option (List Bool)} {ng nt:Nat} {g:Operand} {p d:Nat} {assign body:Code} {gf:Nat} {lb:List AV} {n:Nat} {xs:Fin n→AV} {ns:List Nat} {vs:List AV}
  {obs:List (Fin n)→List (Option Ob)} {obs1:List (Option Ob)} (hev:ev gl (lookZ ns vs) g=.fn (.func gf) [] lb) (hit:Iter P gl gf lb n xs) (hcl:∀ x,Cl (xs x))
  (hasg:∀ (l:Nat) (a:Act) (W:World) (K:Act→World→Prop),K (a.put (some d) (a.tmps.getD p undef)) W→assign.wpIn (Fence.wide.inRound l) 7 P (Exit.then K (fun _ _ _=>False)) a W)
  (hmu:∀ pre,allMu (obs pre)=true) (hnm:∀ pre,NMS (mkSt ns vs (obs pre))) (hng0:NMG gl) (hpins:(keepsC ns body&&(!memN ns p && !memN ns d&&Nat.blt p nt&&Nat.blt d nt))=true)
  (hround:∀ pre x,pre.length<n→Round P gl own ng nt body (mkSt (d::p::ns) (xs x::xs x::vs) (obs pre)) (mkSt ns vs (obs (pre++[x]))))
  (h1:obs (List.finRange n)=obs1):Opq P gl ng nt (.rangeFunc g #[p] assign body) (mkSt ns vs (obs [])) (mkSt ns vs obs1):=by
 subst h1
 intro K β0 a w hKP hKgl hKnt hng hqt hm hs0
 subst hKP hKgl hKnt
 refine wpIn_wide (n:=9).1 ?_
 simp only [Bool.and_eq_true,Bool.not_eq_true',Nat.blt_eq] at hpins
 obtain ⟨hpb,⟨⟨hpn,hdn⟩,hpt⟩,hdt⟩:=hpins
 have hpn':p∉ns:=fun h=>by rw [memN_iff.2 h] at hpn;cases hpn
 have hdn':d∉ns:=fun h=>by rw [memN_iff.2 h] at hdn;cases hdn
 have hG0:∀ id b m mu,β0.m id=some (.lives b m mu)→mu=true:=fun id b m mu h=>by
  have hid:id<(obs []).length:=Nat.lt_of_not_le fun hle=>by rw [hs0.fresh id hle] at h;cases h
  obtain ⟨o,ho,hmu'⟩:=allMu_spec (hmu []) hid
  rcases hs0.heap id o ho with ⟨b',h1,_⟩|⟨h1,_⟩
  ·rw [h1] at h;cases h;exact hmu'
  ·rw [h1] at h;cases h
 let K0:Ctx:=⟨K.P,K.gl,w.heap.size,w,K.nt,K.F,fun b=>∃ id m,β0.m id=some (.lives b m true),K.b0,true⟩
 have hlive0:∀ b,K0.G b→K.B≤b∨K.G b:=fun b ⟨id,m,h⟩=>(hs0.live id b m true h).1
 have hF0:∀ b,K.F b→b<w.heap.size∧¬K0.G b:=fun b hb=>⟨Nat.lt_of_lt_of_le (hs0.hF b hb).1 hs0.hB,fun hG=>by
  rcases hlive0 b hG with h|h
  ·have:=(hs0.hF b hb).1;omega
  ·exact (hs0.hF b hb).2 h⟩
 have hS0:Sim K0 β0 (mkSt ns vs (obs [])) { a with defers:=[] } w :=
  ⟨hs0.slot,hs0.size,Marks.nil _ _,hs0.heap,hs0.inj,hs0.fresh,fun id b m mu h=>⟨.inr ⟨id,m,by rw [h,hG0 id b m mu h]⟩,(hs0.live id b m mu h).2⟩,hs0.giv,hs0.bF,hF0,Kept.refl _ _ _,Nat.le_refl _,hs0.glob⟩
 have hfr:Rel β0 w (.fn (.func gf) [] lb) (a.eval g):=by
  have:=rel_ev (hs0.toR #[]) (x:=g) (fun t _=>rfl)
  have e:ev K.gl (ASt.toR (mkSt ns vs (obs []))).fr g=.fn (.func gf) [] lb:=hev
  rw [e] at this
  exact this
 obtain ⟨vf,vb,hav,hvf,hlb⟩:∃ vf vb,a.eval g=.func (.func gf) vf vb∧vf.size=0∧Rels β0 w lb vb:=by
  generalize a.eval g=u at hfr
  cases hfr with
  | fn h1 h2 h3 h4=>exact ⟨_,_,rfl,by simpa using h1.symm,h3,h4⟩
 have hvf':vf = #[]:=Array.eq_empty_of_size_eq_zero hvf
 subst hvf'
 obtain ⟨⟨fn,code,hfn,hfb,hname⟩,hitr⟩:=hit
 obtain ⟨ys,hyr,hseq⟩:=hitr β0 w vb (fun b hb=>by rw [hs0.bF] at hb;exact Nat.lt_of_lt_of_le (hs0.hF b hb).1 hs0.hB) (fun id b k mu h=>(hs0.live id b k mu h).2) hs0.glob hlb
 have calm:∀ {β:Book} {s:ASt} {a':Act} {W:World},Sim K0 β s a' W→CalmIn β0 w W:=fun hs=>⟨hs.kept.size,fun b hb hf=>hs.kept.block b hb (fun ⟨id,m,h⟩=>hf.2 id m h),hs.kept.shape⟩
 have hfree:∀ {β:Book} {s:ASt} {a':Act} {W:World},(∀ id b m mu,β.m id=some (.lives b m mu)→mu=true)→Sim K0 β s a' W→∀ b,b<w.heap.size→β0.free b→β.free b:=fun hmt hs b hb hf =>
  ⟨by rw [hs.bF];have:=hf.1;rw [hs0.bF] at this;exact this,fun id m h=>by
   rcases (hs.live id b m true h).1 with h'|⟨id',m',h'⟩
   ·exact absurd hb (Nat.not_lt.2 h')
   ·exact hf.2 id' m' h'⟩
 have item:∀ {β:Book} {s:ASt} {a':Act} {W:World} (x:Fin n),Sim K0 β s a' W→(∀ b,b<w.heap.size→β0.free b→β.free b)→Rel β W (xs x) (ys x):=fun {β s a' W} x hs hf=>by
  let B1:Book:=⟨fun _=>none,fun b=>¬β0.free b⟩
  let B2:Book:=⟨fun _=>none,fun b=>¬β.free b⟩
  have f1:∀ b,β0.free b→B1.free b:=fun b h=>⟨fun h'=>h' h,fun id m h=>by cases h⟩
  have f2:∀ b,B2.free b→β.free b:=fun b h=>Classical.byContradiction fun h'=>h.1 h'
  have hk:Keeps B1 w B2 W:=by
   refine ⟨fun id o h=>(by cases h),fun b hb hfb=>(calm hs).2.1 b hb (Classical.byContradiction fun h=>hfb.1 h),fun b hb hfb=>⟨fun h=>h (hf b hb (Classical.byContradiction fun h=>hfb.1 h)),fun id m h=>by cases h⟩,fun b el sz h=>?_⟩
   have:=hs.kept.shape b (lt_of_shape h)
   rw [this];exact h
  exact ((((hyr x).rebook f1 (hcl x)).keep hk).rebook f2 (hcl x))
 let I:List (Fin n)→World→Prop:=fun pre W=>∃ β,Sim K0 β (mkSt ns vs (obs pre)) { a with defers:=[] } W
 have hmt:∀ {pre:List (Fin n)} {β:Book} {a':Act} {W:World},Sim K0 β (mkSt ns vs (obs pre)) a' W→∀ id b m mu,β.m id=some (.lives b m mu)→mu=true:=fun {pre β a' W} hs id b m mu h=>by
  have hid:id<(obs pre).length:=Nat.lt_of_not_le fun hle=>by rw [hs.fresh id hle] at h;cases h
  obtain ⟨o,ho,hmu'⟩:=allMu_spec (hmu pre) hid
  rcases hs.heap id o ho with ⟨b',h1,_⟩|⟨h1,_⟩
  ·rw [h1] at h;cases h;exact hmu'
  ·rw [h1] at h;cases h
 have hI:OwnFrom w.heap.size I:=by
  rintro pre A B row ⟨β,hs⟩ hg hr
  have hne:∀ b,b<A.heap.size→(∀ o,A.heap[b]? = some o→o.isCells=false→b<w.heap.size)→B.heap[b]? = A.heap[b]? := fun b hb h=>hg.block b hb (fun e=>by
   obtain ⟨h1,o,h2,h3⟩:=hr b e.symm
   have:=h o h2 h3
   omega)
  refine ⟨β,hs.same (fun b cs el z hb=>?_) hg.size (.inr ⟨hnm pre,hng0⟩) ?_ rfl (Marks.nil _ _)⟩
  ·exact (hne b (Array.getElem?_eq_some_iff.1 hb).1 (fun o h1 h2=>by rw [hb] at h1;cases h1;cases h2)).trans hb
  ·have hsz:=hs.kept.size
   have low:∀ k,k<w.heap.size→B.heap[k]? = A.heap[k]? := fun k hk=>hne k (by have:w.heap.size≤A.heap.size:=hsz;omega) (fun _ _ _=>hk)
   exact ⟨hg.os.trans hs.kept.os,hg.tape.trans hs.kept.tape,hg.output.trans hs.kept.output,Nat.le_trans hsz hg.size,fun k hk hG=>(low k hk).trans (hs.kept.block k hk hG),fun k hk=>(shape_of_block (low k hk)).trans (hs.kept.shape k hk),
    fun k o hk ho=>(low k (Array.getElem?_eq_some_iff.1 hk).1).trans (hs.kept.othr k o hk ho)⟩
 let a1:Fin n→Act:=fun x=>Act.put { tmps:=a.tmps.setIfInBounds p (ys x),defers:=[] } (some d) (ys x)
 have a1s:∀ x m,m≠d→m≠p→(a1 x).tmps.getD m undef=a.tmps.getD m undef:=fun x m h1 h2=>by
  simp [a1,Act.put,Array.getD_eq_getD_getElem?,Array.getElem?_setIfInBounds_ne (Ne.symm h1),Array.getElem?_setIfInBounds_ne (Ne.symm h2)]
 have hsize:a.tmps.size=K.nt:=hs0.size
 refine wpIn_rangeFunc_ownG (F:=Fence.wide) rfl (by decide) (gf:=gf) (lb:=vb) hav trivial (fun args w=>?_) hseq (fun h k h0=>k (h h0)) (fun W l o o' hl ho hc hw h=>?_) (Below.refl _ _) (fun _=>rfl) I (fun _ _ _=>False) hI (fun _ _ _ _ _ h _ _=>h) ⟨β0,hS0⟩ a1
  (fun l x W Kc hK=>?_) (fun l pre x W hi hlen=>?_) (fun D pre W hD hpre hi hW=>?_) (fun D c pre W hD _ h=>h.elim)
 ·simp only [callFunc,run_program,Sem.run_bind,Result.andThen_ok,hfn,hfb,hname,Bool.false_eq_true,if_false]
  rfl
 ·refine ⟨Nat.le_trans h.1 (by simp),fun b hb hf=>?_,fun b hb=>?_⟩
  ·exact (World.putObj_heap_other (by omega)).trans (h.2.1 b hb hf)
  ·exact (shape_of_block (World.putObj_heap_other (by omega))).trans (h.2.2 b hb)
 ·refine hasg l _ W Kc ?_
  have e0:(#[p].zip #[ys x]).foldl (fun t (q:Tmp×Value)=>t.setIfInBounds q.1 q.2) a.tmps=a.tmps.setIfInBounds p (ys x):=by simp
  show Kc (Act.put { tmps:=(#[p].zip #[ys x]).foldl (fun t (q:Tmp×Value)=>t.setIfInBounds q.1 q.2) a.tmps,defers:=[] } (some d) (((#[p].zip #[ys x]).foldl (fun t (q:Tmp×Value)=>t.setIfInBounds q.1 q.2) a.tmps).getD p undef)) W
  rw [e0]
  have e:(a.tmps.setIfInBounds p (ys x)).getD p undef=ys x:=by simp [Array.getD_eq_getD_getElem?,hsize,hpt]
  rw [e]
  exact hK
 ·obtain ⟨β,hs⟩:=hi
  have hit':=item x hs (hfree (hmt hs) hs)
  let K1:Ctx:=⟨K.P,K.gl,W.heap.size,W,K.nt,K.F,fun b=>w.heap.size≤b∨K0.G b,K.b0,true⟩
  have hwW:w.heap.size≤W.heap.size:=hs.kept.size
  have hs1:Sim K1 β (mkSt (d::p::ns) (xs x::xs x::vs) (obs pre)) (a1 x) W:=by
   refine ⟨fun m=>?_,by simp [a1,Act.put,hsize];rfl,Marks.nil _ _,hs.heap,hs.inj,hs.fresh,fun id b m mu h=>⟨.inr (hs.live id b m mu h).1,(hs.live id b m mu h).2⟩,hs.giv,hs.bF,
    fun b hb=>⟨Nat.lt_of_lt_of_le (hF0 b hb).1 hwW,fun h=>h.elim (fun h=>by have:=(hF0 b hb).1;omega) (hF0 b hb).2⟩,Kept.refl _ _ _,Nat.le_refl _,hs.glob⟩
   show Rel β W (lookZ (d::p::ns) (xs x::xs x::vs) m) ((a1 x).tmps.getD m undef)
   by_cases hmd:d=m
   ·subst hmd
    have e:(a1 x).tmps.getD d undef=ys x:=by simp [a1,Act.put,Array.getD_eq_getD_getElem?,hsize,hdt]
    simp only [lookZ,Nat.beq_refl,cond_true]
    rw [e];exact hit'
   ·have hb:Nat.beq d m=false:=by
     cases hb:Nat.beq d m with
     | false=>rfl
     | true=>exact absurd (Nat.eq_of_beq_eq_true hb) hmd
    simp only [lookZ,hb,cond_false]
    by_cases hmp:p=m
    ·subst hmp
     have e:(a1 x).tmps.getD p undef=ys x:=by
      have h1:(a1 x).tmps[p]? = some (ys x):=by
       show ((a.tmps.setIfInBounds p (ys x)).setIfInBounds d (ys x))[p]? = _
       rw [Array.getElem?_setIfInBounds_ne hmd]
       simp [hsize,hpt]
      rw [Array.getD_eq_getD_getElem?,h1];rfl
     simp only [Nat.beq_refl,cond_true]
     rw [e];exact hit'
    ·have hb:Nat.beq p m=false:=by
      cases hb:Nat.beq p m with
      | false=>rfl
      | true=>exact absurd (Nat.eq_of_beq_eq_true hb) hmp
     simp only [hb,cond_false]
     rw [a1s x m (Ne.symm hmd) (Ne.symm hmp)]
     exact hs.slot m
  refine wpIn_mono (runsIn (K:=K1) (C:=⟨K.P,K.gl,K.nt,own,ng⟩) (pins:=ns) (a0:=a1 x) (.inr ⟨l,rfl⟩) rfl rfl rfl hm body _ _ β (a1 x) W hpb (hround pre x hlen) hs1 (fun _ _=>rfl)) ?_
  rintro e a' W' ⟨⟨β',s',ae,he,hs',hk⟩,hpin⟩
  cases e<;>simp only [exitOf,reduceCtorEq,Option.some.injEq] at he
  ·subst he
   obtain ⟨β2,hs2⟩:=hk K1 β' a' W' hng hs'
   have hWW:W.heap.size≤W'.heap.size:=hs2.kept.size
   have hs3:Sim K0 β2 (mkSt ns vs (obs (pre++[x]))) { a with defers:=[] } W':=by
    refine ⟨fun m=>?_,hsize,Marks.nil _ _,hs2.heap,hs2.inj,hs2.fresh,fun id b m mu h=>⟨?_,(hs2.live id b m mu h).2⟩,hs2.giv,hs2.bF,hF0,hs.kept.trans (hs2.kept.mono hwW (fun k hk hG=>?_)),Nat.le_trans hwW hWW,hs2.glob⟩
    ·by_cases hm':m∈ns
     ·have:=hs2.slot m
      rw [hpin m hm',a1s x m (fun e=>hdn' (e▸hm')) (fun e=>hpn' (e▸hm'))] at this
      exact this
     ·have e:(mkSt ns vs (obs (pre++[x]))).fr m=.junk:=lookZ_none hm'
      rw [e];exact .junk
    ·rcases (hs2.live id b m mu h).1 with h'|h'
     ·exact .inl (Nat.le_trans hwW h')
     ·exact h'
    ·rcases hG with h|h
     ·have hk':k<w.heap.size:=hk
      omega
     ·exact h
   exact ⟨⟨hWW,fun k o _ hk ho=>hs2.kept.othr k o hk ho⟩,fun _=>calm hs3,β2,hs3⟩
  ·subst he;exact hk.elim
  ·subst he;exact hk.elim
 ·obtain ⟨β,hs⟩:=hi
  have hpre':pre=List.finRange n:=hpre
  subst hpre'
  refine ⟨rfl,β,hs.slot,hsize,?_,hs.heap,hs.inj,hs.fresh,fun id b m mu h=>⟨?_,(hs.live id b m mu h).2⟩,hs.giv,hs.bF,hs0.hF,hs0.kept.trans (hs.kept.mono hs0.hB (fun k hk hG=>?_)),Nat.le_trans hs0.hB hs.kept.size,hs.glob⟩
  ·obtain ⟨Ds,e1,e2,_,e3⟩:=hs0.defers
   refine ⟨D::Ds,by show _::a.defers=_;rw [e1];rfl,List.nodup_cons.2 ⟨fun h=>?_,e2⟩,fun h=>(by rw [hqt] at h;cases h),fun D' h=>?_⟩
   ·have:=(Array.getElem?_eq_some_iff.1 (e3 D h).2.2).1
    omega
   ·rcases List.mem_cons.1 h with rfl|h
    ·exact ⟨Nat.le_trans hs0.hB hD,Nat.le_trans hs0.kept.size hD,hW⟩
    ·exact ⟨(e3 D' h).1,(e3 D' h).2.1,hs.kept.othr D' _ (e3 D' h).2.2 rfl⟩
  ·rcases (hs.live id b m mu h).1 with h'|h'
   ·exact .inl (Nat.le_trans hs0.hB h')
   ·exact hlive0 b h'
  ·rcases hlive0 k hG with h|h
   ·omega
   ·exact h
theorem NM.atL {l:List AV} (h:∀ v,v∈l→NM v) (j:Nat):NM (atL l j):=by
 unfold Am.atL
 rw [List.getD_eq_getElem?_getD]
 cases hj:l[j]? with
 | none=>exact .junk
 | some x=>exact h x (List.mem_of_getElem? hj)
def NML:List AV→Prop
 | []=>True
 | v::l=>NM v∧NML l
theorem NML.spec {l:List AV} (h:NML l):∀ v,v∈l→NM v:=by
 induction l with
 | nil=>intro v hv;cases hv
 | cons x l ih=>intro v hv;rcases List.mem_cons.1 hv with rfl|hv;(· exact h.1);(· exact ih h.2 v hv)
theorem NML.atL {l:List AV} (h:NML l) (j:Nat):NM (Am.atL l j):=NM.atL h.spec j
def NMB (o:Ob):Prop:=∀ i j,i<o.n→j<o.es→NM (o.f i j)
def NMO:List (Option Ob)→Prop
 | []=>True
 | none::l=>NMO l
 | some o::l=>NMB o∧NMO l
theorem NMO.spec {l:List (Option Ob)} (h:NMO l):∀ (k:Nat) o,l[k]? = some (some o)→NMB o:=by
 induction l with
 | nil=>intro k o hk;simp at hk
 | cons x l ih =>
  intro k o hk
  cases x with
  | none =>
   cases k with
   | zero=>simp at hk
   | succ k=>exact ih h k o (by simpa using hk)
  | some y =>
   cases k with
   | zero=>simp at hk;subst hk;exact h.1
   | succ k=>exact ih h.2 k o (by simpa using hk)
theorem NMS.of {ns:List Nat} {vs:List AV} {obs:List (Option Ob)} (h1:NML vs) (h2:NMO obs):NMS (mkSt ns vs obs):=by
 refine ⟨fun n=>?_,fun id o ho=>?_⟩
 ·show NM (lookZ ns vs n)
  induction ns generalizing vs with
  | nil=>exact .junk
  | cons m ns ih =>
   cases vs with
   | nil=>exact .junk
   | cons v vs =>
    simp only [lookZ]
    cases Nat.beq m n with
    | true=>exact h1.1
    | false=>exact ih h1.2
 ·have ho:(obs[id]?).getD none=some o:=by simpa [mkSt,List.getD_eq_getElem?_getD] using ho
  cases hk:obs[id]? with
  | none=>rw [hk] at ho;cases ho
  | some x=>rw [hk] at ho;exact h2.spec id o (by rw [hk];exact congrArg some ho)
end Go.Am

namespace Go.Sp
open Go Go.Am Go.RowKit

theorem kept_calm {β : Book} {w W W1 : World} (h : CalmIn β w W) (k : Kept W.heap.size (fun _ => False) W W1) : CalmIn β w W1 :=
  ⟨Nat.le_trans h.1 k.size, fun b hb hf => (k.block b (Nat.lt_of_lt_of_le hb h.1) (fun h => h)).trans (h.2.1 b hb hf), fun b hb => (k.shape b (Nat.lt_of_lt_of_le hb h.1)).trans (h.2.2 b hb)⟩
theorem kept_grown {W W1 : World} (k : Kept W.heap.size (fun _ => False) W W1) : W.grownBy W1 none := ⟨k.os, k.tape, k.output, k.size, fun b hb _ => k.block b hb (fun h => h)⟩

theorem op_at {ops : Array Oper} {i : Nat} {d : Option Tmp} {op : Op} {g : Option (Nat × Bool)} (h : (ops[i]?).map (fun o => (o.dst, o.op, o.guard)) = some (d, op, g)) : ∃ o, ops[i]? = some o ∧ o.dst = d ∧ o.op = op ∧ o.guard = g := by
  cases ho : ops[i]? with
  | none => rw [ho] at h; cases h
  | some o => rw [ho] at h; simp only [Option.map_some, Option.some.injEq, Prod.mk.injEq] at h; exact ⟨o, rfl, h.1, h.2.1, h.2.2⟩
theorem put_same {a : Act} {d : Nat} {v : Value} (h : d < a.tmps.size) : (a.put (some d) v).tmps.getD d undef = v := getD_put_same h
theorem put_ne {a : Act} {d n : Nat} {v : Value} (h : n ≠ d) : (a.put (some d) v).tmps.getD n undef = a.tmps.getD n undef := getD_put_ne h
theorem put_size {a : Act} {d : Nat} {v : Value} : (a.put (some d) v).tmps.size = a.tmps.size := by simp [Act.put]

structure ItFr (y v1 v2 : Value) (i : Nat) (a : Act) : Prop where
  size : a.tmps.size = 31
  defers : a.defers = []
  t0 : a.tmps.getD 0 undef = y
  t1 : a.tmps.getD 1 undef = v1
  t2 : a.tmps.getD 2 undef = v2
  t4 : a.tmps.getD 4 undef = .int .i64 i

theorem chunk_of {P : Program} {gl : Globs} {own : FuncId → Option (List Bool)} {g : Nat} {fn : Func} {c R0 R1 R2 R3 R4 : Code} {r4 : Array Oper} {N tS tE : Nat} {h : Nat → Nat → Int} (hN : 1 ≤ N) (hf : P.funcs[g]? = some fn) (hbody : fn.body = some c) (hname : (fn.name == "runtime.NumGoroutine") = false) (hrs : fn.results = #[]) (hnt : fn.ntmps = 31)
    (hm : P.follows .mixedOrders = true) (hshape : c = .seq R0 (.block 0 (.loop (.seq (.seq R1 (.cond (.tmp 9) .skip (.exit 0))) (.seq (.block 1 (.seq R3 (.seq R4 (.cond (.tmp 30) .ret .skip)))) R2))))) (hr4 : R4 = .region 4 r4 false)
    (hsz : r4.size = 12) (hgd : (r4.toList.all fun o => o.guard.isNone) = true) (hu44 : P.underlying tS = some (.slice tE)) (hsh : szT P tE = some 32)
    (h9 : (r4[9]?).map (fun o => (o.dst, o.op, o.guard)) = some (some 28, .slice tS (.tmp 20) (some (.tmp 21)) (some (.tmp 24)) (some (.tmp 27)), none))
    (h10 : (r4[10]?).map (fun o => (o.dst, o.op, o.guard)) = some (some 29, .call ⟨.value (.tmp 19), #[.tmp 28], #[tS]⟩, none))
    (h11 : (r4[11]?).map (fun o => (o.dst, o.op, o.guard)) = some (some 30, .unOp .not 4 (.tmp 29), none))
    (k0 : keepsC [0, 1, 2] R0 = true) (k1 : keepsC [0, 1, 2, 4] R1 = true) (k2 : keepsC [0, 1, 2] R2 = true) (k3 : keepsC [0, 1, 2, 4] R3 = true) (k4 : keepsOps [0, 1, 2, 4] (r4.extract 0 9) = true)
    (i0 : Round P gl own 0 31 R0 (mkSt [] [] []) (mkSt [4] [.int .i64 0] []))
    (i1 : ∀ k : Nat, k ≤ 2 * N → Round P gl own 0 31 R1 (mkSt [1, 2, 4] [.ipt 1 fun _ => hsl (2 * N) h, .ipt 1 fun _ => .int .i64 2, .int .i64 k] []) (mkSt [9] [.bool (decide ((k : Int) < (2 * N : Nat)))] []))
    (i3 : ∀ k : Nat, k + 2 ≤ 2 * N → Round P gl own 0 31 R3 (mkSt [1, 2, 4] [.ipt 1 fun _ => hsl (2 * N) h, .ipt 1 fun _ => .int .i64 2, .int .i64 k] []) (mkSt [5] [.int .i64 2] []))
    (i4 : ∀ (y u : Value) (k : Nat), k + 2 ≤ 2 * N → Round P gl own 0 31 (.region 4 (r4.extract 0 9) false) (mkSt [0, 1, 4, 5] [.raw y, .ipt 1 fun _ => .raw u, .int .i64 k, .int .i64 2] []) (mkSt [19, 20, 21, 24, 27] [.raw y, .raw u, .int .i64 k, .int .i64 (k + 2), .int .i64 (k + 2)] []))
    (i2 : ∀ k : Nat, k + 2 ≤ 2 * N → Round P gl own 0 31 R2 (mkSt [2, 4] [.ipt 1 fun _ => .int .i64 2, .int .i64 k] []) (mkSt [4] [.int .i64 (k + 2)] [])) :
    Iter P gl g [.ipt 1 fun _ => hsl (2 * N) h, .ipt 1 fun _ => .int .i64 2] N (fun k => hsl 2 fun r => h (2 * k.1 + r)) := by
  refine ⟨⟨_, _, hf, hbody, hname⟩, fun β w vs hF hlt hg hv => ?_⟩
  obtain ⟨v1, v2, rfl, h1, h2⟩ : ∃ v1 v2, vs = #[v1, v2] ∧ Rel β w (.ipt 1 fun _ => hsl (2 * N) h) v1 ∧ Rel β w (.ipt 1 fun _ => .int .i64 2) v2 := by
    have hl : 2 = vs.size := hv.len
    obtain ⟨vs⟩ := vs
    match vs, hl with
    | [v1, v2], _ => exact ⟨v1, v2, rfl, hv.rel 0 _ _ rfl rfl, hv.rel 1 _ _ rfl rfl⟩
  obtain ⟨b1, o1, vals1, hv1, _, hf1, hc1, hr1, hcl1, hone1⟩ := rel_ipt_inv h1
  have hu := hr1 0 (by decide)
  generalize hu0 : vals1 0 = u at hu
  obtain ⟨a0, cap, hue, hcap, _, hrest⟩ := rel_isl_inv hu
  obtain ⟨b, off, vals, ha0, he, hfree, hcell, hrel, hcl, hone⟩ := hrest (by omega)
  subst ha0
  have hx : ∀ k : Nat, k < N → Rel β w (hsl 2 fun r => h (2 * k + r)) (.slice (some ⟨b, off + 2 * k * 32, none⟩) 2 2) := fun k hk =>
    .isl (fun i j => vals (2 * k + i) j) (by decide) (Nat.le_refl _) hfree (fun i j hi hj => by
      rw [← hcell (2 * k + i) j (by omega) hj]; congr 2; omega) (fun i j hi hj => hone _ _ (by omega) hj) (fun i j hi hj => hrel _ _ (by omega) hj) (fun i j hi hj => hcl _ _ (by omega) hj)
  refine ⟨fun k => .slice (some ⟨b, off + 2 * k.1 * 32, none⟩) 2 2, fun k => hx k.1 k.2, ?_⟩
  intro l J Jx W hbW hJ hJx hY hJ0
  have hcW : CalmIn β w W := ⟨hbW.size, fun b hb _ => hbW.block b hb, fun b hb => shape_of_block (hbW.block b hb)⟩
  refine callsIn_of_wp hf hbody trivial ?_
  have hJg : ∀ pre A B, J pre A → Kept A.heap.size (fun _ => False) A B → J pre B := fun pre A B hj k => hJ pre A B none hj (kept_grown k) (fun r h => by cases h)
  have hcl1' : Cl (.ipt 1 fun _ => hsl (2 * N) h) := .ipt hcl1
  have hcl2' : Cl (.ipt 1 fun _ => .int .i64 2) := .ipt fun _ _ => .int
  have hclu : Cl (.ipt 1 fun _ => .raw u) := .ipt fun _ _ => .raw
  have hraw : Rel β w (.raw u) (vals1 0) := by
    rw [hu0]
    exact .raw (fun cs e => by rw [hue] at e; cases e)
  have hur : Rel β w (.ipt 1 fun _ => .raw u) v1 := by
    rw [hv1]
    refine .ipt vals1 (by decide) hf1 hc1 hone1 (fun j hj => ?_) (fun _ _ => .raw)
    have : j = 0 := by omega
    subst this
    exact hraw
  generalize hy : (Value.func (.yield l) #[] #[]) = y
  have sim : ∀ {i : Nat} {a : Act} {W : World}, ItFr y v1 v2 i a → CalmIn β w W → Sim (calmK P gl 31 β w W) (calmB β w) (mkSt [1, 2, 4] [.ipt 1 fun _ => hsl (2 * N) h, .ipt 1 fun _ => .int .i64 2, .int .i64 i] []) a W := fun {i a W} ha hW =>
    Sim.calm hg hW ha.size ha.defers (fun k n v hn hv => by
      rcases k with _ | _ | _ | k
      · cases hn; cases hv; rw [ha.t1]; exact h1.calm hcl1' hW
      · cases hn; cases hv; rw [ha.t2]; exact h2.calm hcl2' hW
      · cases hn; cases hv; rw [ha.t4]; exact .int
      · simp at hn)
  have pin : ∀ {i : Nat} {a a' : Act} {s : ASt} {β' : Book} {W W' : World}, ItFr y v1 v2 i a → PinIn [0, 1, 2, 4] a a' → Sim (calmK P gl 31 β w W) β' s a' W' → ItFr y v1 v2 i a' := fun {i a a' s β' W W'} f hp hs =>
    ⟨hs.size, hs.defers.quiet rfl, (hp 0 (by simp)).trans f.t0, (hp 1 (by simp)).trans f.t1, (hp 2 (by simp)).trans f.t2, (hp 4 (by simp)).trans f.t4⟩
  have hres : ∀ (a : Act) (W' : World), (results fn a.tmps).run P W' = .ok (.tuple #[]) W' := fun a W' => by
    rw [results_eq, hrs]
    simp
  have fin : ∀ k : Nat, (hk : k < N) → (List.finRange N).take k ++ [⟨k, hk⟩] = (List.finRange N).take (k + 1) := fun k hk => by
    rw [List.take_add_one]
    simp [hk]
  subst hshape
  refine wpIn_seq (wpIn_mono (Round.in (pins := [0, 1, 2]) (K := calmK P gl 31 β w W) i0 (.inl rfl) k0 (fun _ _ => rfl) hm (Sim.calm (ns := []) (vs := []) hg hcW (by simp [hnt]) rfl (fun k n v hn => by simp at hn))) ?_)
  rintro e a1 W1 ⟨rfl, ⟨β1, hs1⟩, hp1⟩
  have f1 : ItFr y v1 v2 0 a1 := ⟨hs1.size, hs1.defers.quiet rfl, (hp1 0 (by simp)).trans (by simp [Array.getD_eq_getD_getElem?, Array.getElem?_append]), (hp1 1 (by simp)).trans (by simp [Array.getD_eq_getD_getElem?, Array.getElem?_append]), (hp1 2 (by simp)).trans (by simp [Array.getD_eq_getD_getElem?, Array.getElem?_append]), rel_int_inv (hs1.slot 4)⟩
  have c1 := kept_calm hcW hs1.kept
  have j1 := hJg _ _ _ hJ0 hs1.kept
  show (Code.block 0 _).wpIn _ _ _ _ a1 W1
  refine wpIn_block (wpIn_loop (fun a W => ∃ k, k ≤ N ∧ ItFr y v1 v2 (2 * k) a ∧ CalmIn β w W ∧ J ((List.finRange N).take k) W) (fun a _ => match a.tmps.getD 4 undef with | .int _ i => (2 * N - i).toNat | _ => 0) ⟨0, Nat.zero_le _, f1, c1, j1⟩ ?_)
  rintro a2 W2 ⟨k, hk, f2, c2, j2⟩
  have hJk : ∀ pre A B, J pre A → Kept A.heap.size (fun _ => False) A B → J pre B := fun pre A B hj kk => hJ pre A B none hj (kept_grown kk) (fun r h => by cases h)
  refine wpIn_seq (wpIn_seq (wpIn_mono (Round.in (pins := [0, 1, 2, 4]) (K := calmK P gl 31 β w W2) (i1 (2 * k) (by omega)) (.inl rfl) k1 (fun _ _ => rfl) hm (sim f2 c2)) ?_))
  rintro e a3 W3 ⟨rfl, ⟨β3, hs3⟩, hp3⟩
  have f3 := pin f2 hp3 hs3
  have c3 := kept_calm c2 hs3.kept
  have j3 := hJk _ _ _ j2 hs3.kept
  have t9 : a3.eval (.tmp 9) = .bool (decide (((2 * k : Nat) : Int) < (2 * N : Nat))) := rel_bool_inv (hs3.slot 9)
  by_cases hkN : k < N
  rotate_left
  · -- the end
    refine wpIn_cond_false (by rw [t9]; congr 1; simp; omega) (wpIn_exit ?_)
    obtain rfl : k = N := by omega
    refine ⟨f3.defers, _, hres a3 W3, ⟨_, rfl⟩, .inl ⟨_, ?_, j3⟩⟩
    exact List.take_of_length_le (by simp)
  refine wpIn_cond_true (by rw [t9]; congr 1; simp; omega) (wpIn_skip ?_)
  refine wpIn_seq (wpIn_block (wpIn_seq (wpIn_mono (Round.in (pins := [0, 1, 2, 4]) (K := calmK P gl 31 β w W3) (i3 (2 * k) (by omega)) (.inl rfl) k3 (fun _ _ => rfl) hm (sim f3 c3)) ?_)))
  rintro e a4 W4 ⟨rfl, ⟨β4, hs4⟩, hp4⟩
  have f4 := pin f3 hp4 hs4
  have c4 := kept_calm c3 hs4.kept
  have j4 := hJk _ _ _ j3 hs4.kept
  have t5 : a4.tmps.getD 5 undef = .int .i64 2 := rel_int_inv (hs4.slot 5)
  refine wpIn_seq ?_
  subst hr4
  refine wpIn_region ?_
  have hr : List.range r4.size = List.range 9 ++ [9, 10, 11] := by rw [hsz]; rfl
  rw [hr]
  have hgn : ∀ i o, i < 9 → r4[i]? = some o → o.guard = none := fun i o hi ho => by
    have hmem : o ∈ r4.toList := by
      obtain ⟨h1, h2⟩ := Array.getElem?_eq_some_iff.1 ho
      rw [← h2]; simp
    have := List.all_eq_true.1 hgd o hmem
    cases hg' : o.guard with
    | none => rfl
    | some x => rw [hg'] at this; cases this
  have hsz9 : (r4.extract 0 9).size = 9 := by simp [hsz]
  have hpre : wpOpsIn Fence.wide 8 P (r4.extract 0 9) (fun e a' W' => e = .normal ∧ (∃ β', Sim (calmK P gl 31 β w W4) β' (mkSt [19, 20, 21, 24, 27] [.raw y, .raw u, .int .i64 (2 * k : Nat), .int .i64 ((2 * k : Nat) + 2), .int .i64 ((2 * k : Nat) + 2)] []) a' W') ∧ PinIn [0, 1, 2, 4] a4 a') (List.range 9) a4 W4 := by
    have := Round.ops (F := Fence.wide) (n := 8) (K := calmK P gl 31 β w W4) (pins := [0, 1, 2, 4]) (i4 y u (2 * k) (by omega)) (.inl rfl) k4 (fun _ _ => rfl) (Sim.calm (ns := [0, 1, 4, 5]) (a := a4) hg c4 f4.size f4.defers (fun k' n v hn hv => by
      rcases k' with _ | _ | _ | _ | k'
      · cases hn; cases hv; rw [f4.t0]; exact .raw (fun cs e => by rw [← hy] at e; cases e)
      · cases hn; cases hv; rw [f4.t1]; exact hur.calm hclu c4
      · cases hn; cases hv; rw [f4.t4]; exact .int
      · cases hn; cases hv; rw [t5]; exact .int
      · simp at hn))
    rwa [hsz9] at this
  refine opsIn_pre (ops' := r4.extract 0 9) (m := 9) (fun i hi => by rw [Array.getElem?_extract]; simp [hsz]; omega) hgn ?_ (List.range 9) (fun i hi => List.mem_range.1 hi) a4 W4 hpre
  rintro a5 W5 ⟨⟨β5, hs5⟩, hp5⟩
  have f5 := pin f4 hp5 hs5
  have c5 := kept_calm c4 hs5.kept
  have j5 := hJk _ _ _ j4 hs5.kept
  have raw_inv : ∀ {v a : Value} {β' : Book} {W' : World}, Rel β' W' (.raw a) v → v = a := fun h => by cases h; rfl
  have t19 : a5.eval (.tmp 19) = y := raw_inv (hs5.slot 19)
  have t20 : a5.eval (.tmp 20) = .slice (some ⟨b, off, none⟩) (2 * N) cap := (raw_inv (hs5.slot 20)).trans hue
  have t21 : a5.eval (.tmp 21) = .int .i64 (2 * k : Nat) := rel_int_inv (hs5.slot 21)
  have t24 : a5.eval (.tmp 24) = .int .i64 ((2 * k : Nat) + 2) := rel_int_inv (hs5.slot 24)
  have t27 : a5.eval (.tmp 27) = .int .i64 ((2 * k : Nat) + 2) := rel_int_inv (hs5.slot 27)
  obtain ⟨o9, ho9, hd9, hop9, hg9⟩ := op_at h9
  obtain ⟨o10, ho10, hd10, hop10, hg10⟩ := op_at h10
  obtain ⟨o11, ho11, hd11, hop11, hg11⟩ := op_at h11
  have wnt : ∀ (o : Oper) ys, o.guard = none → Region.wanted o ys = true := fun o ys hg => by simp [Region.wanted, hg]
  have e9 : (execOp a5.eval o9).run P W5 = .ok (.value (.slice (some ⟨b, off + 2 * k * 32, none⟩) 2 2)) W5 := by
    have hb1 : (Instr.sliceBounds true (2 * N) cap (some (.int .i64 (2 * k : Nat))) (some (.int .i64 ((2 * k : Nat) + 2))) (some (.int .i64 ((2 * k : Nat) + 2)))).run P W5 = .ok (2 * k, 2 * k + 2, 2 * k + 2) W5 := by
      have g1 : (0 : Int) ≤ ((2 * k : Nat) : Int) + 2 ∧ ((2 * k : Nat) : Int) + 2 ≤ cap := by omega
      have g2 : (0 : Int) ≤ ((2 * k : Nat) : Int) + 2 ∧ ((2 * k : Nat) : Int) + 2 ≤ ((2 * k + 2 : Nat) : Int) := by omega
      have g3 : (0 : Int) ≤ ((2 * k : Nat) : Int) ∧ ((2 * k : Nat) : Int) ≤ ((2 * k + 2 : Nat) : Int) := by omega
      have e1 : (((2 * k : Nat) : Int) + 2).toNat = 2 * k + 2 := by omega
      simp only [Instr.sliceBounds, Instr.sliceBound, asIntOf_run, Sem.run_bind, Result.andThen_ok, Sem.run_ite, if_pos g1, Sem.run_pure, e1, if_pos g2, if_pos g3, Option.isSome_some, if_true, Int.toNat_natCast]
    have hne : ¬ (2 * k + 2 = 2 * k) := by omega
    have e2 : 2 * k + 2 - 2 * k = 2 := by omega
    simp only [execOp, hop9, Instr.sliceAt, Instr.slice, t20, t21, t24, t27, Option.map_some, Sem.run_bind, run_underlying hu44, Result.andThen_ok, hb1, szT_run W5 hsh, Sem.run_pure, if_neg hne, add_mk, e2]
  simp only [wpOpsIn, ho9, ho10, ho11, wnt o9 _ hg9, if_true]
  refine ⟨fun _ _ => trivial, ?_⟩
  show o9.uponIn _ _ _ _ _ _ ((execOp a5.eval o9).run P W5)
  rw [e9, Oper.uponIn_value, hd9, if_pos (wnt o10 _ hg10)]
  refine ⟨fun _ _ => trivial, ?_⟩
  have hlen : ((List.finRange N).take k).length < N := by simp; omega
  obtain ⟨fn', tmps', asg, bd, hy10, hR⟩ := hY ((List.finRange N).take k) ⟨k, hkN⟩ W5 j5 hlen
  have e10 : (execOp (a5.put (some 28) (.slice (some ⟨b, off + 2 * k * 32, none⟩) 2 2)).eval o10).run P W5 = .ok (.round l fn' tmps' asg bd) W5 := by
    have v19 : (a5.put (some 28) (.slice (some ⟨b, off + 2 * k * 32, none⟩) 2 2)).eval (.tmp 19) = .func (.yield l) #[] #[] := by
      show (a5.put (some 28) _).tmps.getD 19 undef = _
      rw [put_ne (by decide), hy]
      exact t19
    have v28 : (a5.put (some 28) (.slice (some ⟨b, off + 2 * k * 32, none⟩) 2 2)).eval (.tmp 28) = .slice (some ⟨b, off + 2 * k * 32, none⟩) 2 2 := put_same (by rw [f5.size]; decide)
    simp [execOp, hop10, resolve, v19, v28, Deferred.ofValue, invoke]
    exact hy10
  show o10.uponIn _ _ _ _ _ _ ((execOp _ o10).run P W5)
  rw [e10, Oper.uponIn_round, hd10]
  generalize ha6 : a5.put (some 28) (.slice (some ⟨b, off + 2 * k * 32, none⟩) 2 2) = a6
  have sz6 : a6.tmps.size = 31 := by rw [← ha6, put_size]; exact f5.size
  have g6 : ∀ m, m ≠ 28 → a6.tmps.getD m undef = a5.tmps.getD m undef := fun m hm' => by rw [← ha6]; exact put_ne hm'
  have d6 : a6.defers = [] := by rw [← ha6]; exact f5.defers
  refine ⟨fun h => (by cases h), hR.mono ?_⟩
  have e11 : ∀ (v : Bool) (W6 : World), (execOp (a6.put (some 29) (.bool v)).eval o11).run P W6 = .ok (.value (.bool (!v))) W6 := fun v W6 => by
    have v29 : (a6.put (some 29) (.bool v)).eval (.tmp 29) = .bool v := put_same (by rw [sz6]; decide)
    have hun : (Op.unary UnOp.not (.bool v)).run P W6 = .ok (.bool (!v)) W6 := rfl
    simp [execOp, hop11, v29, Result.andThen, hun]
  rintro e W6 (⟨rfl, j6, s6⟩ | ⟨rfl, jx6⟩)
  · show (if Region.wanted o11 _ = true then _ else _)
    rw [if_pos (wnt o11 _ hg11)]
    refine ⟨fun _ _ => trivial, ?_⟩
    show o11.uponIn _ _ _ _ _ _ ((execOp _ o11).run P W6)
    rw [e11, Oper.uponIn_value, hd11]
    generalize ha7 : a6.put (some 29) (.bool true) = a7
    have sz7 : a7.tmps.size = 31 := by rw [← ha7, put_size]; exact sz6
    have v30 : (a7.put (some 30) (.bool (!true))).eval (.tmp 30) = .bool false := put_same (by rw [sz7]; decide)
    refine wpIn_cond_false v30 (wpIn_skip ?_)
    have g8 : ∀ m, m ≠ 28 → m ≠ 29 → m ≠ 30 → (a7.put (some 30) (.bool (!true))).tmps.getD m undef = a5.tmps.getD m undef := fun m h1 h2 h3 => by
      rw [put_ne h3, ← ha7, put_ne h2]; exact g6 m h1
    have f8 : ItFr y v1 v2 (2 * k) (a7.put (some 30) (.bool (!true))) := ⟨by rw [put_size]; exact sz7, by rw [← ha7]; exact d6, (g8 0 (by decide) (by decide) (by decide)).trans f5.t0, (g8 1 (by decide) (by decide) (by decide)).trans f5.t1, (g8 2 (by decide) (by decide) (by decide)).trans f5.t2, (g8 4 (by decide) (by decide) (by decide)).trans f5.t4⟩
    generalize a7.put (some 30) (.bool (!true)) = a8 at f8
    have c6 : CalmIn β w W6 := s6 c5
    refine wpIn_mono (Round.in (F := Fence.wide) (pins := [0, 1, 2]) (K := calmK P gl 31 β w W6) (i2 (2 * k) (by omega)) (.inl rfl) k2 (fun _ _ => rfl) hm (Sim.calm (ns := [2, 4]) hg c6 f8.size f8.defers (fun k' n v hn hv => by
      rcases k' with _ | _ | k'
      · cases hn; cases hv; rw [f8.t2]; exact h2.calm hcl2' c6
      · cases hn; cases hv; rw [f8.t4]; exact .int
      · simp at hn))) ?_
    rintro e a9 W9 ⟨rfl, ⟨β9, hs9⟩, hp9⟩
    have t4 : a9.tmps.getD 4 undef = .int .i64 ((2 * k : Nat) + 2) := rel_int_inv (hs9.slot 4)
    have f9 : ItFr y v1 v2 (2 * (k + 1)) a9 := ⟨hs9.size, hs9.defers.quiet rfl, (hp9 0 (by simp)).trans f8.t0, (hp9 1 (by simp)).trans f8.t1, (hp9 2 (by simp)).trans f8.t2, t4.trans (by congr 1)⟩
    have c9 := kept_calm c6 hs9.kept
    rw [fin k hkN] at j6
    have j9 := hJk _ _ _ j6 hs9.kept
    refine ⟨⟨k + 1, hkN, f9, c9, j9⟩, ?_⟩
    show (match a9.tmps.getD 4 undef with | .int _ i => (2 * N - i).toNat | _ => 0) < (match a2.tmps.getD 4 undef with | .int _ i => (2 * N - i).toNat | _ => 0)
    rw [f9.t4, f2.t4]
    show (2 * (N : Int) - ((2 * (k + 1) : Nat) : Int)).toNat < (2 * (N : Int) - ((2 * k : Nat) : Int)).toNat
    omega
  · show (if Region.wanted o11 _ = true then _ else _)
    rw [if_pos (wnt o11 _ hg11)]
    refine ⟨fun _ _ => trivial, ?_⟩
    show o11.uponIn _ _ _ _ _ _ ((execOp _ o11).run P W6)
    rw [e11, Oper.uponIn_value, hd11]
    generalize ha7 : a6.put (some 29) (.bool false) = a7
    have sz7 : a7.tmps.size = 31 := by rw [← ha7, put_size]; exact sz6
    have v30 : (a7.put (some 30) (.bool (!false))).eval (.tmp 30) = .bool true := put_same (by rw [sz7]; decide)
    refine wpIn_cond_true v30 (wpIn_ret ?_)
    refine ⟨by rw [← ha7]; exact d6, _, hres _ W6, ⟨_, rfl⟩, .inr ⟨_, trivial, jx6⟩⟩

theorem assign_in {P : Program} {id d p : Nat} {r : Array Oper} (hsz : r.size = 1) (h0 : (r[0]?).map (fun o => (o.dst, o.op, o.guard)) = some (some d, .assign (.tmp p), none)) (l : Nat) (a : Act) (W : World) (K : Act → World → Prop) (hK : K (a.put (some d) (a.tmps.getD p undef)) W) :
    (Code.region id r false).wpIn (Fence.wide.inRound l) 7 P (Exit.then K (fun _ _ _ => False)) a W := by
  refine wpIn_region ?_
  obtain ⟨o, ho, hd, hop, hg⟩ := op_at h0
  rw [hsz]
  show wpOpsIn _ _ _ _ _ [0] a W
  simp only [wpOpsIn, ho]
  rw [if_pos (by simp [Region.wanted, hg])]
  refine ⟨fun _ _ => trivial, ?_⟩
  rw [Oper.semAt_eq _ _ _ (fun c e => by rw [hop] at e; cases e)]
  have e : (execOp a.eval o).run P W = .ok (.value (a.tmps.getD p undef)) W := by
    simp only [execOp, hop, Sem.run_pure]
    rfl
  rw [e, Oper.uponIn_value, hd]
  exact hK

def rowP {N : Nat} (h : Nat → Nat → Int) (pre : List (Fin N)) (r : Nat) : Nat → Int := match pre[r]? with
  | some x => nodeF (h (2 * x.1)) (h (2 * x.1 + 1))
  | none => fun _ => 0

theorem rowP_ob {os : List (Option Ob)} {N : Nat} {h : Nat → Nat → Int} {pre : List (Fin N)} {x : Fin N} :
    ObEnt os ⟨32, pre.length + 1, true, .fn fun i j => .int .u8 (bif Nat.blt i pre.length then rowP h pre i j else intOfAV (atL (u8c (nodeF (h (2 * x.1 + 0)) (h (2 * x.1 + 1)))) j))⟩ ⟨32, (pre ++ [x]).length, true, .fn fun r j => .int .u8 (rowP h (pre ++ [x]) r j)⟩ := by
  refine ⟨rfl, by simp, rfl, fun i j hi hj => Ent.of_eq (congrArg (AV.int .u8) ?_)⟩
  have hi' : i < pre.length + 1 := hi
  unfold rowP
  by_cases hlt : i < pre.length
  · rw [blt_t hlt, List.getElem?_append_left hlt]; rfl
  · have : i = pre.length := by omega
    subst this
    rw [blt_f (Nat.le_refl _), List.getElem?_append_right (Nat.le_refl _), Nat.sub_self]
    show intOfAV (atL (u8c _) j) = _
    rw [u8c_at hj]; rfl
theorem rowP_fin {N : Nat} {h : Nat → Nat → Int} {r : Nat} (hr : r < N) : rowP h (List.finRange N) r = nodeF (h (2 * r)) (h (2 * r + 1)) := by
  unfold rowP
  simp [hr]

theorem lvl_ent {os : List (Option Ob)} {d x : Nat} {h : Nat → Nat → Int} : Ent os (.isl 32 (2 ^ (d - x - 1)) fun r k => .int .u8 (rowP (treF h x) (List.finRange (2 ^ (d - x - 1))) (r + 0) k)) (hsl (2 ^ (d - (x + 1))) (treF h (x + 1))) :=
  Ent.islN rfl fun i j hi hj => congrArg (AV.int .u8) (by
    show rowP (treF h x) (List.finRange (2 ^ (d - x - 1))) i j = treF h (x + 1) i j
    rw [rowP_fin hi]; rfl)

theorem ipt1_ent {os : List (Option Ob)} {a : AV} : Ent os (.ipt 1 fun k => atL [a] k) (.ipt 1 fun _ => a) := fun β w v _ h => by
  obtain ⟨b, off, vals, rfl, hm, hb, hc, hr, hcl, ho⟩ := rel_ipt_inv h
  have e : ∀ j, j < 1 → atL [a] j = a := fun j hj => by
    have : j = 0 := by omega
    subst this; rfl
  exact .ipt vals hm hb hc ho (fun j hj => by have := hr j hj; rwa [e j hj] at this) (fun j hj => by have := hcl j hj; rwa [e j hj] at this)
theorem fn2_ent {os : List (Option Ob)} {f : Fn} {a b a' b' : AV} (h1 : Ent os a a') (h2 : Ent os b b') : Ent os (.fn f [] [a, b]) (.fn f [] [a', b']) := fun β w v hh h => by
  cases h with
  | fn hl hr hl' hr' =>
    refine .fn hl hr hl' fun j u x hu hx => ?_
    rcases j with _ | _ | j
    · cases hu; exact h1 β w x hh (hr' 0 _ x rfl hx)
    · cases hu; exact h2 β w x hh (hr' 1 _ x rfl hx)
    · simp at hu

end Go.Sp

namespace Go.Proofs.YtolcfdcoidpieaaGreatDoor
open Go Go.Am Go.Sp
set_option maxRecDepth 100000
def cL:Code→Code|.seq a _=>a|c=>c
def cR:Code→Code|.seq _ b=>b|c=>c
def cI:Code→Code|.block _ a=>a|.loop a=>a|c=>c
def cO:Code→Array Oper|.region _ o _=>o|_ => #[]
noncomputable def itC:Code:=Tryz.f289.body.getD .skip
noncomputable def itB:Code:=cI (cI (cR itC))
noncomputable def itR1:Code:=cL (cL itB)
noncomputable def itR2:Code:=cR (cR itB)
noncomputable def itK:Code:=cI (cL (cR itB))
noncomputable def itR3:Code:=cL itK
noncomputable def itR4:Code:=cL (cR itK)
theorem it_shape:itC=.seq (cL itC) (.block 0 (.loop (.seq (.seq itR1 (.cond (.tmp 9) .skip (.exit 0))) (.seq (.block 1 (.seq itR3 (.seq itR4 (.cond (.tmp 30) .ret .skip)))) itR2)))):=by kernel_rfl
def slT:Option Op→TypeId|some (.slice t ..)=>t|_=>0
def elT:Option TypeDesc→TypeId|some (.slice t)=>t|_=>0
noncomputable def itS:TypeId:=slT ((cO itR4)[9]?.map (·.op))
noncomputable def itE:TypeId:=elT (Tryz.prog.underlying itS)
theorem it_r4:itR4=.region 4 (cO itR4) false:=by kernel_rfl
theorem it1 (N k:Nat) (hN:N≤4000) (h:Nat→Nat→Int):Round Tryz.prog gl0 ow0 0 31 itR1 (mkSt [1,2,4] [.ipt 1 fun _=>hsl N h,.ipt 1 fun _=>.int .i64 2,.int .i64 k] []) (mkSt [9] [.bool (decide ((k:Int)<N))] []):=by
 refine round_sk (own:=ow0)
  (let y0:List AV:=[AV.bool (decide ((↑k:Int)<(↑N:Int)))];(.again (fun (u:ASt)=>Le 0 u (mkSt [9] y0 [])) ([9]) ([]) (y0) ([])))
  (by kernel_rfl) ?_
 exact k_againR (fun _ hs=>hs.le (⟨.refl _,trivial⟩) (trivial))
theorem it3 (N k:Nat) (hN:N≤4000) (h:Nat→Nat→Int) (hk:k+2≤N):Round Tryz.prog gl0 ow0 0 31 itR3 (mkSt [1,2,4] [.ipt 1 fun _=>hsl N h,.ipt 1 fun _=>.int .i64 2,.int .i64 k] []) (mkSt [5] [.int .i64 2] []):=by
 refine round_sk (own:=ow0)
  (.req ((0:Int)≤(↑k:Int)∧(↑k:Int)≤(↑N:Int)) (.again (fun (u:ASt)=>Le 0 u (mkSt [5] [Zi 2] [])) ([5]) ([]) ([Zi (if (↑(N - Int.toNat (↑k:Int)):Int)<2 then (↑(N - Int.toNat (↑k:Int)):Int) else (2:Int))]) ([])))
  (by kernel_rfl) ?_
 refine k_req (by omega) ?_
 exact k_againR (fun _ hs=>hs.le (⟨.of_eq (congrArg _ (by omega)),trivial⟩) (trivial))
theorem it4 (y u:Value) (k:Nat) (hk:k≤4000):Round Tryz.prog gl0 ow0 0 31 (.region 4 ((cO itR4).extract 0 9) false) (mkSt [0,1,4,5] [.raw y,.ipt 1 fun _=>.raw u,.int .i64 k,.int .i64 2] []) (mkSt [19,20,21,24,27] [.raw y,.raw u,.int .i64 k,.int .i64 (k+2),.int .i64 (k+2)] []):=by
 refine round_sk (own:=ow0)
  (.again (fun (u_1:ASt)=>Le 0 u_1 (mkSt [19,20,21,24,27] [AV.raw y,AV.raw u,Zi (↑k:Int),Zi ((↑k:Int)+2),Zi ((↑k:Int)+2)] [])) ([19,20,21,24,27]) ([]) ([AV.raw y,AV.raw u,Zi (↑k:Int),Zi (IntKind.wrap IntKind.i64 ((↑k:Int)+2)),Zi (IntKind.wrap IntKind.i64 ((↑k:Int)+2))]) ([]))
  (by kernel_rfl) ?_
 exact k_againR (fun _ hs=>hs.le (⟨.refl _,.refl _,.refl _,inc_ent (by omega),inc_ent (by omega),trivial⟩) (trivial))
theorem it2 (k:Nat) (hk:k≤4000):Round Tryz.prog gl0 ow0 0 31 itR2 (mkSt [2,4] [.ipt 1 fun _=>.int .i64 2,.int .i64 k] []) (mkSt [4] [.int .i64 (k+2)] []):=by
 refine round_sk (own:=ow0)
  (.again (fun (u:ASt)=>Le 0 u (mkSt [4] [Zi ((↑k:Int)+2)] [])) ([4]) ([]) ([Zi (IntKind.wrap IntKind.i64 ((↑k:Int)+2))]) ([]))
  (by kernel_rfl) ?_
 exact k_againR (fun _ hs=>hs.le (⟨inc_ent (by omega),trivial⟩) (trivial))
theorem it0:Round Tryz.prog gl0 ow0 0 31 (cL itC) (mkSt [] [] []) (mkSt [4] [.int .i64 0] []):=by
 refine round_sk (own:=ow0)
  (.again (fun (u:ASt)=>Le 0 u (mkSt [4] [Zi 0] [])) ([4]) ([]) ([Zi 0]) ([]))
  (by kernel_rfl) ?_
 exact k_againR (fun _ hs=>hs.le (⟨.refl _,trivial⟩) (trivial))
theorem chunk_iter (N:Nat) (hN:1≤N) (hN':N≤1000) (h:Nat→Nat→Int):Iter Tryz.prog gl0 289 [.ipt 1 fun _=>hsl (2*N) h,.ipt 1 fun _=>.int .i64 2] N (fun k=>hsl 2 fun r=>h (2*k.1+r)) :=
 chunk_of (own:=ow0) (tS:=itS) (tE:=itE) hN Tryz.func289 (by kernel_rfl:_=some itC) (by kernel_rfl) (by kernel_rfl) (by kernel_rfl) mixed it_shape it_r4 (by kernel_rfl) (by kernel_rfl) (by kernel_rfl) (by kernel_rfl) (by kernel_rfl) (by kernel_rfl) (by kernel_rfl)
  (by kernel_rfl) (by kernel_rfl) (by kernel_rfl) (by kernel_rfl) (by kernel_rfl) it0 (fun k hk=>it1 (2*N) k (by omega) h) (fun k hk=>it3 (2*N) k (by omega) h hk) (fun y u k hk=>it4 y u k (by omega)) (fun k hk=>it2 k (by omega))
theorem chunk_c (N:Nat) (hN':N≤1000) (h:Nat→Nat→Int):Pure Tryz.prog gl0 274 [hsl N h,.int .i64 2] (.fn (.func 289) [] [.ipt 1 fun _=>hsl N h,.ipt 1 fun _=>.int .i64 2]):=by
 refine pure_sk (own:=ow0) Tryz.func274 (by kernel_rfl) mixed (by kernel_rfl)
  (.ff (.out (AV.fn (Fn.func 289) [] [AV.ipt 1 fun (k:Nat)=>atL [AV.isl 32 N fun (i j:Nat)=>Zb (h i j)] k,AV.ipt 1 fun (k:Nat)=>atL [Zi 2] k]) [] (AV.fn (Fn.func (289:FuncId)) [] [AV.ipt 1 fun (x:Nat)=>hsl N h,AV.ipt 1 fun (x:Nat)=>Zi 2]) []))
  (by kernel_rfl) ?_
 refine k_ff ?_
 exact k_out (fn2_ent ipt1_ent ipt1_ent)
def rA:Code→Code|.rangeFunc _ _ a _=>a|c=>c
def rB:Code→Code|.rangeFunc _ _ _ b=>b|c=>c
noncomputable def lvX:Code:=cI (cR (cI (cI (cL (cR (cR (Tryz.f244.body.getD .skip)))))))
noncomputable def lvF:Code:=cI (cR (cL (cR lvX)))
theorem lv_shape:lvF=.rangeFunc (.tmp 12) #[13] (.region 5 (cO (rA lvF)) false) (rB lvF):=by kernel_rfl
theorem gl0_nm:NMG gl0:=by
 intro g m f hg
 unfold gl0 at hg
 cases e0:Nat.beq g 0 with
 | true=>rw [e0] at hg;simp only [cond_true,Option.some.injEq,Prod.mk.injEq] at hg;obtain ⟨rfl,rfl⟩:=hg;exact .ipt fun _ _=>.int
 | false =>
 cases e1:Nat.beq g 1 with
 | true=>rw [e0,e1] at hg;simp only [cond_true,cond_false,Option.some.injEq,Prod.mk.injEq] at hg;obtain ⟨rfl,rfl⟩:=hg;exact .ipt fun _ _=>.int
 | false =>
 cases e2:Nat.beq g 2 with
 | true=>rw [e0,e1,e2] at hg;simp only [cond_true,cond_false,Option.some.injEq,Prod.mk.injEq] at hg;obtain ⟨rfl,rfl⟩:=hg;exact .ipt fun _ _=>.int
 | false =>
 cases e3:Nat.beq g 5 with
 | true=>rw [e0,e1,e2,e3] at hg;simp only [cond_true,cond_false,Option.some.injEq,Prod.mk.injEq] at hg;obtain ⟨rfl,rfl⟩:=hg;exact .ipt fun _ _=>.int
 | false=>rw [e0,e1,e2,e3] at hg;cases hg
theorem hsl_nm (n:Nat) (h:Nat→Nat→Int):NM (hsl n h):=.isl fun _ _ _ _=>.int
theorem lv_round (N m:Nat) (C:Nat→Nat) (F:Nat→Nat→Nat→Int) (h:Nat→Nat→Int) (hb:∀ i,i<2*N→byB (h i) 32) (pre:List (Fin N)) (x:Fin N) (hp:pre.length<N) (hN:N≤1000) :
  Round Tryz.prog gl0 ow0 0 32 (rB lvF) (mkSt [5,13,3,4,12] [hsl 2 fun r=>h (2*x.1+r),hsl 2 fun r=>h (2*x.1+r),.osl 0 1 0 m,.own 1 1 0 0 1,.fn (.func 289) [] [.ipt 1 fun _=>hsl (2*N) h,.ipt 1 fun _=>.int .i64 2]] [some ⟨1,m,true,.row fun i=>[hsl (C i) (F i)]⟩,some ⟨1,1,true,.lst [[.osl 2 32 0 pre.length]]⟩,some ⟨32,pre.length,true,.fn fun r j=>.int .u8 (rowP h pre r j)⟩]) (mkSt [3,4,12] [.osl 0 1 0 m,.own 1 1 0 0 1,.fn (.func 289) [] [.ipt 1 fun _=>hsl (2*N) h,.ipt 1 fun _=>.int .i64 2]] [some ⟨1,m,true,.row fun i=>[hsl (C i) (F i)]⟩,some ⟨1,1,true,.lst [[.osl 2 32 0 (pre++[x]).length]]⟩,some ⟨32,(pre++[x]).length,true,.fn fun r j=>.int .u8 (rowP h (pre++[x]) r j)⟩]):=by
 refine round_sk (own:=ow0)
  (.req ((0:Int)≤0∧(0:Int)<(↑(2):Int)) (.req ((0:Int)≤1∧(1:Int)<(↑(2):Int)) (.sc (true) 220 ([AV.agg (u8c (h (2*x.1+0))),AV.agg (u8c (h (2*x.1+1)))]) (AV.agg (u8c (nodeF (h (2*(↑x:Nat)+0)) (h (2*(↑x:Nat)+1))))) (.req ((List.length pre+1)*32≤140737488355328) (.again (fun (u:ASt)=>Le 0 u (mkSt [3,4,12] [AV.osl 0 1 0 m,AV.own 1 1 0 0 1,AV.fn (Fn.func (289:FuncId)) [] [AV.ipt 1 fun (x:Nat)=>hsl (2*N) h,AV.ipt 1 fun (x:Nat)=>Zi 2]] [some ⟨1,m,true,Rep.row fun (i:Nat)=>[hsl (C i) (F i)]⟩,some ⟨1,1,true,Rep.lst [[AV.osl 2 32 0 (List.length (pre++[x]))]]⟩,some ⟨32,List.length (pre++[x]),true,Rep.fn fun (r j:Nat)=>Zb (rowP h (pre++[x]) r j)⟩])) ([3,4,12]) ([0,1,75]) ([AV.osl 0 1 0 m,AV.own 1 1 0 0 1,AV.fn (Fn.func (289:FuncId)) [] [AV.ipt 1 fun (x:Nat)=>AV.isl 32 (2*N) fun (i j:Nat)=>Zb (h i j),AV.ipt 1 fun (x:Nat)=>Zi 2]]) ([some ⟨1,m,true,Rep.row fun (i:Nat)=>[AV.isl 32 (C i) fun (i_1 j:Nat)=>Zb (F i i_1 j)]⟩,some ⟨1,1,true,Rep.lst [[AV.osl 2 32 0 (List.length pre+1)]]⟩,some ⟨32,List.length pre+1,true,Rep.fn fun (i j:Nat)=>Zb (bif Nat.blt i (List.length pre) then rowP h pre i j else intOfAV (atL (u8c (nodeF (h (2*x.1+0)) (h (2*x.1+1)))) j))⟩]))))))
  (by kernel_rfl) ?_
 refine k_req (by omega) ?_
 refine k_req (by omega) ?_
 refine k_sc ((inner_c (h ((2:Nat)*(↑x:Nat)+(0:Nat))) (h ((2:Nat)*(↑x:Nat)+(1:Nat)))) (hb _ (by have:=x.2;omega)) (hb _ (by have:=x.2;omega))) ?_
 refine k_req (by omega) ?_
 exact k_againR (fun _ hs=>hs.le (⟨Ent.refl _,Ent.refl _,Ent.refl _,trivial⟩) (⟨⟨rfl,rfl,rfl,fun _ _ _ _=>Ent.refl _⟩,ObEnt.row ⟨Ent.of_eq (by rw [List.length_append];rfl),trivial⟩,rowP_ob,trivial⟩))
theorem reverse_g (m:Nat) (h1:1≤m) (hm:m≤100) (C:Nat→Nat) (F:Nat→Nat→Nat→Int):Gives Tryz.prog gl0 275 [⟨1,m,true,.row fun i=>[hsl (C i) (F i)]⟩] [.osl 0 1 0 m] (.tup []) [some ⟨1,m,true,.row fun i=>[hsl (C (m - 1 - i)) (F (m - 1 - i))]⟩]:=by
 refine gives_sk (own:=ow0) (hand:=true) Tryz.func275 (by kernel_rfl) mixed (by kernel_rfl)
  (.loop ({ x:Nat // x≤m / 2 }) (fun (x:{ x:Nat // x≤m / 2 })=>mkSt [0,2,3] [AV.osl 0 1 0 m,Zi (↑(x.1):Int),Zi ((↑m:Int) - 1 - (↑(x.1):Int))] [some ⟨1,m,true,Rep.row fun (i:Nat)=>[hsl (C (revI m (x.1) i)) (F (revI m (x.1) i))]⟩]) (fun (x:{ x:Nat // x≤m / 2 })=>m / 2 - x.1) (⟨0,Nat.zero_le (m / 2)⟩) ([0,2,3]) ([0]) ([AV.osl 0 1 0 m,Zi 0,Zi (IntKind.wrap IntKind.i64 ((↑m:Int) - 1))]) ([some ⟨1,m,true,Rep.row fun (i:Nat)=>[AV.isl 32 (C i) fun (i_1 j:Nat)=>Zb (F i i_1 j)]⟩]) (fun x0=>(.br (decide ((↑x0.1:Int)<(↑m:Int) - 1 - (↑x0.1:Int))) (.req ((0:Int)≤(↑m:Int) - 1 - (↑x0.1:Int)∧(↑m:Int) - 1 - (↑x0.1:Int)<(↑m:Int)) (.req ((0:Int)≤(↑x0.1:Int)∧(↑x0.1:Int)<(↑m:Int)) (.req ((0:Int)≤(↑x0.1:Int)∧(↑x0.1:Int)<(↑m:Int)) (.req ((0:Int)≤(↑m:Int) - 1 - (↑x0.1:Int)∧(↑m:Int) - 1 - (↑x0.1:Int)<(↑m:Int)) (.again (Again 1 (fun (x:{ x:Nat // x≤m / 2 })=>mkSt [0,2,3] [AV.osl 0 1 0 m,Zi (↑(x.1):Int),Zi ((↑m:Int) - 1 - (↑(x.1):Int))] [some ⟨1,m,true,Rep.row fun (i:Nat)=>[hsl (C (revI m (x.1) i)) (F (revI m (x.1) i))]⟩]) (fun (x:{ x:Nat // x≤m / 2 })=>m / 2 - x.1) x0) ([0,2,3]) ([0]) ([AV.osl 0 1 0 m,Zi (IntKind.wrap IntKind.i64 ((↑x0.1:Int)+1)),Zi (IntKind.wrap IntKind.i64 ((↑m:Int) - 1 - (↑x0.1:Int) - 1))]) ([some ⟨1,m,true,Rep.put (Int.toNat ((↑m:Int) - 1 - (↑x0.1:Int))+0) [AV.isl 32 (C (revI m x0.1 (Int.toNat (↑x0.1:Int)+0))) fun (i j:Nat)=>Zb (F (revI m x0.1 (Int.toNat (↑x0.1:Int)+0)) i j)] (Rep.put (Int.toNat (↑x0.1:Int)+0) [AV.isl 32 (C (revI m x0.1 (Int.toNat ((↑m:Int) - 1 - (↑x0.1:Int))+0))) fun (i j:Nat)=>Zb (F (revI m x0.1 (Int.toNat ((↑m:Int) - 1 - (↑x0.1:Int))+0)) i j)] (Rep.row fun (i:Nat)=>[AV.isl 32 (C (revI m x0.1 i)) fun (i_1 j:Nat)=>Zb (F (revI m x0.1 i) i_1 j)]))⟩])))))) (.out (AV.tup []) ([some ⟨1,m,true,Rep.row fun (i:Nat)=>[AV.isl 32 (C (revI m x0.1 i)) fun (i_1 j:Nat)=>Zb (F (revI m x0.1 i) i_1 j)]⟩]) (AV.tup []) ([some ⟨1,m,true,Rep.row fun (i:Nat)=>[hsl (C (m - 1 - i)) (F (m - 1 - i))]⟩])))))
  (by kernel_rfl) ?_
 refine k_loop (fun _ hs=>hs.le (⟨Ent.refl _,by exact Ent.refl _,Ent.of_eq (congrArg (AV.int .i64) (by dsimp only;rw [wI (by omega) (by omega)];omega)),trivial⟩) (by exact ⟨rev_eq C F (fun i=>i) (revI m 0) (fun i hi=>rev_0 hi),trivial⟩)) (fun x0=>?_)
 try (have q0:=x0.2;dsimp only at q0)
 refine k_br (fun h1=>?_) (fun h1=>?_)
 ·have g1:=cnd_dec_t h1
  refine k_req (by omega) ?_
  refine k_req (by omega) ?_
  refine k_req (by omega) ?_
  refine k_req (by omega) ?_
  exact k_again (⟨x0.1+1,by omega⟩) (fun _ hs=>hs.le (⟨Ent.refl _,by exact inc_ent (by omega),Ent.of_eq (congrArg (AV.int .i64) (by dsimp only;rw [wI (by omega) (by omega)];omega)),trivial⟩) (by exact ⟨rev_step C F (by omega) (by omega) (by omega),trivial⟩)) (by dsimp only;omega)
 ·have g1:=cnd_dec_f h1
  exact k_outg (Ent.refl _) (⟨rev_eq C F (revI m x0.1) (fun i=>m - 1 - i) (fun i hi=>rev_all (by omega) x0.2 hi),trivial⟩)
theorem lv_opq (N m:Nat) (C:Nat→Nat) (F:Nat→Nat→Nat→Int) (h:Nat→Nat→Int) (hb:∀ i,i<2*N→byB (h i) 32) (h1:1≤N) (hN:N≤1000):Opq Tryz.prog gl0 0 32 lvF (mkSt [3,4,12] [.osl 0 1 0 m,.own 1 1 0 0 1,.fn (.func 289) [] [.ipt 1 fun _=>hsl (2*N) h,.ipt 1 fun _=>.int .i64 2]] [some ⟨1,m,true,.row fun i=>[hsl (C i) (F i)]⟩,some ⟨1,1,true,.lst [[.osl 2 32 0 0]]⟩,some ⟨32,0,true,.fn fun r j=>.int .u8 (rowP (N:=N) h [] r j)⟩]) (mkSt [3,4,12] [.osl 0 1 0 m,.own 1 1 0 0 1,.fn (.func 289) [] [.ipt 1 fun _=>hsl (2*N) h,.ipt 1 fun _=>.int .i64 2]] [some ⟨1,m,true,.row fun i=>[hsl (C i) (F i)]⟩,some ⟨1,1,true,.lst [[.osl 2 32 0 N]]⟩,some ⟨32,N,true,.fn fun r j=>.int .u8 (rowP h (List.finRange N) r j)⟩]):=by
 have hq:=opq_range (P:=Tryz.prog) (gl:=gl0) (own:=ow0) (ng:=0) (nt:=32) (g:=.tmp 12) (p:=13) (d:=5) (assign:=.region 5 (cO (rA lvF)) false) (body:=rB lvF) (xs:=fun k:Fin N=>hsl 2 fun r=>h (2*k.1+r)) (ns:=[3,4,12]) (vs:=[.osl 0 1 0 m,.own 1 1 0 0 1,.fn (.func 289) [] [.ipt 1 fun _=>hsl (2*N) h,.ipt 1 fun _=>.int .i64 2]]) (obs:=fun pre=>[some ⟨1,m,true,.row fun i=>[hsl (C i) (F i)]⟩,some ⟨1,1,true,.lst [[.osl 2 32 0 pre.length]]⟩,some ⟨32,pre.length,true,.fn fun r j=>.int .u8 (rowP h pre r j)⟩]) (obs1:=[some ⟨1,m,true,.row fun i=>[hsl (C i) (F i)]⟩,some ⟨1,1,true,.lst [[.osl 2 32 0 N]]⟩,some ⟨32,N,true,.fn fun r j=>.int .u8 (rowP h (List.finRange N) r j)⟩])
  rfl (chunk_iter N h1 hN h) (fun x=>.isl fun _ _ _ _=>.int) (fun l a W K hK=>assign_in (by kernel_rfl) (by kernel_rfl) l a W K hK) (fun pre=>rfl) (fun pre=>.of ⟨.osl,.own,.fn (fun u h=>by cases h) (NML.spec (l:=[_,_]) ⟨.ipt fun _ _=>hsl_nm _ _,.ipt fun _ _=>.int,trivial⟩),trivial⟩ ⟨fun i j _ _=>NML.atL (l:=[_]) ⟨hsl_nm _ _,trivial⟩ j,fun i j hi _=>(by obtain rfl:i=0:=Nat.lt_one_iff.1 hi;exact NML.atL (l:=[_]) ⟨.osl,trivial⟩ j),fun _ _ _ _=>.int,trivial⟩) gl0_nm (by kernel_rfl) (fun pre x hp=>lv_round N m C F h hb pre x hp hN) (by rw [List.length_finRange])
 rw [← lv_shape] at hq
 exact hq
def ow7:FuncId→Option (List Bool):=fun f=>bif Nat.beq f 275 then some [true] else none
theorem levels_c (d:Nat) (hd:d≤5) (h:Nat→Nat→Int) (hb:∀ i,i<2^d→byB (h i) 32):Pure Tryz.prog gl0 244 [hsl (2^d) h] (.isl 1 (d+1) fun i _=>hsl (2^(d - (d - i))) (treF h (d - i))):=by
 refine pure_sk (own:=ow7) Tryz.func244 (by kernel_rfl) mixed (by kernel_rfl)
  (.loop ({ x:Nat // x≤d }) (fun (x:{ x:Nat // x≤d })=>mkSt [0,3] [hsl (2^(d - x.1)) (treF h (x.1)),AV.osl 0 1 0 (x.1+1)] [some ⟨1,x.1+1,true,Rep.row fun (i:Nat)=>[hsl (2^(d - i)) (treF h i)]⟩]) (fun (x:{ x:Nat // x≤d })=>d - x.1) (⟨0,Nat.zero_le d⟩) ([0,3]) ([16]) ([AV.isl 32 (2^d) fun (i j:Nat)=>Zb (h i j),AV.osl 0 1 0 1]) ([some ⟨1,1,true,Rep.lst [[AV.isl 32 (2^d) fun (i j:Nat)=>Zb (h i j)]]⟩]) (fun x0=>(.br (decide ((↑(2^(d - x0.1)):Int)>1)) (.dc (true) 274 ([AV.isl 32 (2^(d - x0.1)) fun (i j:Nat)=>Zb (treF h x0.1 i j),Zi 2]) (AV.fn (Fn.func (289:FuncId)) [] [AV.ipt 1 fun (x:Nat)=>hsl (2^(d - x0.1)) (treF h x0.1),AV.ipt 1 fun (x:Nat)=>Zi 2]) (.opq 32 (lvF) ([3,4,12]) ([0,25,8243]) ([AV.osl 0 1 0 (x0.1+1),AV.own 1 1 0 0 1,AV.fn (Fn.func (289:FuncId)) [] [AV.ipt 1 fun (x:Nat)=>AV.isl 32 (2^(d - x0.1)) fun (i j:Nat)=>Zb (treF h x0.1 i j),AV.ipt 1 fun (x:Nat)=>Zi 2]]) ([some ⟨1,x0.1+1,true,Rep.row fun (i:Nat)=>[AV.isl 32 (2^(d - i)) fun (i_1 j:Nat)=>Zb (treF h i i_1 j)]⟩,some ⟨1,1,true,Rep.lst [[AV.nsl]]⟩,some ⟨32,0,true,Rep.lst []⟩]) (mkSt [3,4,12] [AV.osl 0 1 0 (x0.1+1),AV.own 1 1 0 0 1,AV.fn (Fn.func (289:FuncId)) [] [AV.ipt 1 fun (x:Nat)=>hsl (2*2^(d - x0.1 - 1)) (treF h (x0.1)),AV.ipt 1 fun (x:Nat)=>Zi 2]] [some ⟨1,x0.1+1,true,Rep.row fun (i:Nat)=>[hsl (2^(d - i)) (treF h i)]⟩,some ⟨1,1,true,Rep.lst [[AV.osl 2 32 0 (2^(d - x0.1 - 1))]]⟩,some ⟨32,2^(d - x0.1 - 1),true,Rep.fn fun (r j:Nat)=>Zb (rowP (treF h (x0.1)) (List.finRange (2^(d - x0.1 - 1))) r j)⟩]) (.req ((x0.1+1+1)*24≤140737488355328) (.again (Again 0 (fun (x:{ x:Nat // x≤d })=>mkSt [0,3] [hsl (2^(d - x.1)) (treF h (x.1)),AV.osl 0 1 0 (x.1+1)] [some ⟨1,x.1+1,true,Rep.row fun (i:Nat)=>[hsl (2^(d - i)) (treF h i)]⟩]) (fun (x:{ x:Nat // x≤d })=>d - x.1) x0) ([0,3]) ([27]) ([AV.isl 32 (2^(d - x0.1 - 1)) fun (r k:Nat)=>Zb (rowP (treF h x0.1) (List.finRange (2^(d - x0.1 - 1))) (r+0) k),AV.osl 0 1 0 (x0.1+1+1)]) ([some ⟨1,x0.1+1+1,true,Rep.cat (x0.1+1) (Rep.row fun (i:Nat)=>[AV.isl 32 (2^(d - i)) fun (i_1 j:Nat)=>Zb (treF h i i_1 j)]) (Rep.lst [[AV.isl 32 (2^(d - x0.1 - 1)) fun (r k:Nat)=>Zb (rowP (treF h x0.1) (List.finRange (2^(d - x0.1 - 1))) (r+0) k)]])⟩]))))) (.gc 275 ([⟨1,x0.1+1,true,Rep.row fun (i:Nat)=>[AV.isl 32 (2^(d - i)) fun (i_1 j:Nat)=>Zb (treF h i i_1 j)]⟩]) ([AV.osl 0 1 0 (x0.1+1)]) (AV.tup []) ([some ⟨1,x0.1+1,true,Rep.row fun (i:Nat)=>[hsl (2^(d - (x0.1+1 - 1 - i))) (treF h (x0.1+1 - 1 - i))]⟩]) (.out (AV.isl 1 (x0.1+1) fun (r k:Nat)=>atL [AV.isl 32 (2^(d - (x0.1+1 - 1 - (r+0)))) fun (i j:Nat)=>Zb (treF h (x0.1+1 - 1 - (r+0)) i j)] k) [] (AV.isl 1 (d+1) fun (i x:Nat)=>hsl (2^(d - (d - i))) (treF h (d - i))) [])))))
  (by kernel_rfl) ?_
 refine k_loop (fun _ hs=>hs.le (⟨.refl _,.refl _,trivial⟩) (⟨⟨rfl,rfl,rfl,fun i j hi hj=>Ent.of_eq (by have:i=0:=Nat.lt_one_iff.1 hi;subst this;rfl)⟩,trivial⟩)) (fun x0=>?_)
 try (have q0:=x0.2;dsimp only at q0)
 have hp:=pow5 (k:=x0.1) hd
 refine k_br (fun h1=>?_) (fun h1=>?_)
 ·have g1:=cnd_dec_t h1
  refine k_dc (chunk_c (2^(d - x0.1)) (by omega) (treF h x0.1)) ?_
  refine k_opq (fun _ hs=>hs.le (by exact ⟨Ent.refl _,Ent.refl _,Ent.of_eq (by rw [pow_dbl (pow_lt g1)]),trivial⟩) (by repeat' (first|exact trivial|(first|exact ObEnt.refl _|exact ObEnt.junk|exact ObEnt.zero|exact ObEnt.push rfl rfl|exact ObEnt.pushRow rfl|exact ObEnt.len (by omega)|exact ObEnt.row (by repeat' (first|exact trivial|(first|exact Ent.refl _|exact inc_ent (by omega)|exact Ent.nil rfl|exact Ent.of_eq (congrArg (AV.osl _ _ _) (by first|omega|(dsimp only;omega)))|exact Ent.of_eq (congrArg (AV.int _) (by first|omega|(dsimp only;omega))))|refine And.intro ?_ ?_)))|refine And.intro ?_ ?_))) (lv_opq (2^(d - x0.1 - 1)) (x0.1+1) (fun i=>2^(d - i)) (treF h) (treF h x0.1) (fun i hi=>tre_by hb _ _ (by rw [pow_dbl (pow_lt g1)] at hi;have e:=Nat.mul_le_mul_right (2^x0.1) (show i+1≤2^(d - x0.1) from hi);rw [Nat.add_mul,Nat.one_mul,← Nat.pow_add,show d - x0.1+x0.1=d by omega] at e;exact e)) pow_pos2 (by have:=pow5 (k:=x0.1+1) hd;show 2^(d - (x0.1+1))≤1000;omega)) ?_
  refine k_req (by omega) ?_
  exact k_again (⟨x0.1+1,pow_lt g1⟩) (fun _ hs=>hs.le (⟨lvl_ent,Ent.refl _,trivial⟩) (⟨ObEnt.catRow rfl (fun _ _=>EntL.refl _) ⟨lvl_ent,trivial⟩,trivial⟩)) (by have:=pow_lt g1;dsimp only;omega)
 ·have g1:=cnd_dec_f h1
  refine k_gc (reverse_g (x0.1+1) (by omega) (by omega) (fun (i:Nat)=>2^(d - i)) (treF h)) ?_
  exact k_out (Ent.islN (by rw [pow_eq x0.2 g1]) (fun i j hi hj=>by have hj0:j=0:=Nat.lt_one_iff.1 hj;subst hj0;rw [pow_eq x0.2 g1];rfl))
abbrev kHV40:List AV:=[AV.agg [Zb 0,Zb 0,Zb 0,Zb 0,Zb 0,Zb 0,Zb 0,Zb 0,Zb 0,Zb 0,Zb 0,Zb 0,Zb 0,Zb 0,Zb 0,Zb 0,Zb 0,Zb 0,Zb 0,Zb 0,Zb 0,Zb 0,Zb 0,Zb 0,Zb 0,Zb 0,Zb 0,Zb 0,Zb 0,Zb 0,Zb 0,Zb 0],Zi 2]
abbrev kHV41:List AV:=[AV.agg [Zb 0,Zb 0,Zb 0,Zb 0,Zb 0,Zb 0,Zb 0,Zb 0,Zb 0,Zb 0,Zb 0,Zb 0,Zb 0,Zb 0,Zb 0,Zb 0,Zb 0,Zb 0,Zb 0,Zb 0,Zb 0,Zb 0,Zb 0,Zb 0,Zb 0,Zb 0,Zb 0,Zb 0,Zb 0,Zb 0,Zb 0,Zb 0],Zi 3]
theorem depth_c (d:Nat) (hd:d≤5):Pure Tryz.prog gl0 243 [.int .i64 (2^d:Nat)] (.tup [.int .i64 d,.int .i64 0]):=by
 refine pure_sk (own:=ow0) Tryz.func243 (by kernel_rfl) mixed (by kernel_rfl)
  (.loop ({ x:Nat // x≤d }) (fun (x:{ x:Nat // x≤d })=>mkSt [0,5] [Zi (↑(2^d):Int),Zi (↑(x.1):Int)] []) (fun (x:{ x:Nat // x≤d })=>d - x.1) (⟨0,Nat.zero_le d⟩) ([0,5]) ([]) ([Zi (↑(2^d):Int),Zi 0]) ([]) (fun x0=>(.br (decide ((↑x0.1:Int)<11)) (.req ((0:Int)≤(↑x0.1:Int)) (.br ((↑(2^d):Int)==IntKind.wrap IntKind.i64 ((1:Int)*2^min (Int.toNat (↑x0.1:Int)) 64)) (.out (AV.tup [Zi (↑x0.1:Int),Zi 0]) [] (AV.tup [Zi (↑d:Int),Zi 0]) []) (.again (Again 0 (fun (x:{ x:Nat // x≤d })=>mkSt [0,5] [Zi (↑(2^d):Int),Zi (↑(x.1):Int)] []) (fun (x:{ x:Nat // x≤d })=>d - x.1) x0) ([0,5]) ([]) ([Zi (↑(2^d):Int),Zi (IntKind.wrap IntKind.i64 ((↑x0.1:Int)+1))]) ([])))) (.out (AV.tup [Zi 0,Zi 1]) [] (AV.tup [Zi (↑d:Int),Zi 0]) []))))
  (by kernel_rfl) ?_
 refine k_loop (fun _ hs=>hs.le (⟨.refl _,.refl _,trivial⟩) (trivial)) (fun x0=>?_)
 try (have q0:=x0.2;dsimp only at q0)
 refine k_br (fun h1=>?_) (fun h1=>?_)
 ·have g1:=cnd_dec_t h1
  refine k_req (by omega) ?_
  refine k_br (fun h3=>?_) (fun h3=>?_)
  ·have g3:=cnd_beq_t h3
   try simp only [Int.toNat_natCast] at g3
   exact k_out (by exact Ent.of_eq (congrArg (fun k:Nat=>AV.tup [.int .i64 k,.int .i64 0]) (dep_t (d:=d) (by omega) (by omega) g3).symm))
  ·have g3:=cnd_beq_f h3
   try simp only [Int.toNat_natCast] at g3
   exact k_again (⟨x0.1+1,by have:=dep_f (d:=d) (by omega) g3;omega⟩) (fun _ hs=>hs.le (⟨.refl _,inc_ent (by omega),trivial⟩) (trivial)) (by have:=dep_f (d:=d) (by omega) g3;dsimp only;omega)
 ·have g1:=cnd_dec_f h1
  exact k_out (by (exfalso;omega))
theorem open0_c (d:Nat) (hd:d≤5) (h:Nat→Nat→Int) (hb:∀ i,i<2^d→byB (h i) 32):Pure Tryz.prog gl0 196 [hsl (2^d) h,.int .i64 0,.int .i64 0] (.tup [.isl 1 (d+1) fun i _=>hsl (2^(d - (d - i))) (treF h (d - i)),.int .i64 0]):=by
 refine pure_sk (own:=ow0) Tryz.func196 (by kernel_rfl) mixed (by kernel_rfl)
  (let y0:AV:=(AV.tup [AV.isl 1 (d+1) fun (i x:Nat)=>hsl (2^(d - (d - i))) (treF h (d - i)),Zi 0]);(.sc (true) 243 ([Zi (↑(2^d):Int)]) (AV.tup [Zi (↑d:Int),Zi 0]) (.ff (.req (((decide ((0:Int)>(↑d:Int))||false)==false)=true→(0:Int)≤0) (.br (decide ((0:Int)>(↑d:Int))||false||false) (.out (AV.tup [AV.nsl,Zi 2]) [] y0 []) (.dc (true) 244 ([AV.isl 32 (2^d) fun (i j:Nat)=>Zb (h i j)]) (AV.isl 1 (d+1) fun (i x:Nat)=>hsl (2^(d - (d - i))) (treF h (d - i))) (.out (AV.tup [AV.isl 1 (d+1) fun (i x:Nat)=>AV.isl 32 (2^(d - (d - i))) fun (i_1 j:Nat)=>Zb (treF h (d - i) i_1 j),Zi 0]) [] y0 [])))))))
  (by kernel_rfl) ?_
 refine k_sc ((depth_c d) (by assumption)) ?_
 refine k_ff ?_
 refine k_req (fun _=>Int.le_refl _) ?_
 refine k_br (fun h3=>?_) (fun h3=>?_)
 ·have g3:=(cnd_or_t (cnd_or_t cnd_dec_t cnd_id_t) cnd_id_t) h3
  exact k_out (by (exfalso;simp at g3;omega))
 ·have g3:=(cnd_or_f (cnd_or_f cnd_dec_f cnd_id_f) cnd_id_f) h3
  refine k_dc (levels_c (d) (by assumption) (h) (by assumption)) ?_
  exact k_out (by exact Ent.refl _)
theorem tn0_c (d:Nat) (hd:d≤5) (h:Nat→Nat→Int) (hb:∀ i,i<2^d→byB (h i) 32):Pure Tryz.prog gl0 151 [hsl (2^d) h,.int .i64 0,.int .i64 0] (.tup [.agg (u8c (treF h d 0)),.int .i64 0]):=by
 refine pure_sk (own:=ow0) Tryz.func151 (by kernel_rfl) mixed (by kernel_rfl)
  (.dc (true) 196 ([AV.isl 32 (2^d) fun (i j:Nat)=>Zb (h i j),Zi 0,Zi 0]) (AV.tup [AV.isl 1 (d+1) fun (i x:Nat)=>hsl (2^(d - (d - i))) (treF h (d - i)),Zi 0]) (.ff (.req ((0:Int)≤0∧(0:Int)<(↑(d+1):Int)) (.req ((0:Int)≤0∧(0:Int)<(↑(2^(d - (d - 0))):Int)) (.out (AV.tup [AV.agg (u8c (treF h (d - 0) 0)),Zi 0]) [] (AV.tup [AV.agg (u8c (treF h d 0)),Zi 0]) [])))))
  (by kernel_rfl) ?_
 refine k_dc (open0_c (d) (by assumption) (h) (by assumption)) ?_
 refine k_ff ?_
 refine k_req (by omega) ?_
 refine k_req (by exact ⟨by omega,Int.ofNat_lt.2 pow_pos2⟩) ?_
 exact k_out (Ent.refl _)
theorem troot_c (d:Nat) (hd:d≤5) (h:Nat→Nat→Int) (hb:∀ i,i<2^d→byB (h i) 32):Pure Tryz.prog gl0 77 [hsl (2^d) h] (.tup [.agg (u8c (treF h d 0)),.int .i64 0]):=by
 refine pure_sk (own:=ow0) Tryz.func77 (by kernel_rfl) mixed (by kernel_rfl)
  (let y0:AV:=(AV.tup [AV.agg (u8c (treF h d 0)),Zi 0]);(.sc (true) 151 ([AV.isl 32 (2^d) fun (i j:Nat)=>Zb (h i j),Zi 0,Zi 0]) y0 (.out y0 [] y0 [])))
  (by kernel_rfl) ?_
 refine k_sc (tn0_c (d) (by assumption) (h) (by assumption)) ?_
 exact k_out (Ent.of_eq rfl)
theorem tleaf_c (n:Nat) (f:Nat→Int) (hn:n≤16384) (hf:byB f n):Pure Tryz.prog gl0 150 [bys n f] (.tup [.agg (u8c (tagF "specie/leaf".toUTF8 n f)),.int .i64 0]):=by
 have ht:=tagged_c "specie/leaf".toUTF8 (by decide) (by decide) f n (by omega) hf
 refine pure_sk (own:=ow0) Tryz.func150 (by kernel_rfl) mixed (by kernel_rfl)
  (let y0:AV:=(AV.tup [AV.agg (u8c (tagF (String.toUTF8 "specie/leaf") n f)),Zi 0]);(.br (decide ((↑n:Int)>16384)) (.out (AV.tup [AV.agg [Zb 0,Zb 0,Zb 0,Zb 0,Zb 0,Zb 0,Zb 0,Zb 0,Zb 0,Zb 0,Zb 0,Zb 0,Zb 0,Zb 0,Zb 0,Zb 0,Zb 0,Zb 0,Zb 0,Zb 0,Zb 0,Zb 0,Zb 0,Zb 0,Zb 0,Zb 0,Zb 0,Zb 0,Zb 0,Zb 0,Zb 0,Zb 0],Zi 5]) [] y0 []) (.sc (true) 144 ([AV.str { data := #[(115:UInt8),(112:UInt8),(101:UInt8),(99:UInt8),(105:UInt8),(101:UInt8),(47:UInt8),(108:UInt8),(101:UInt8),(97:UInt8),(102:UInt8)] },AV.isl 1 n fun (i x:Nat)=>Zb (f i)]) y0 (.out y0 [] y0 []))))
  (by kernel_rfl) ?_
 refine k_br (fun h0=>?_) (fun h0=>?_)
 ·have g0:=cnd_dec_t h0
  exact k_out (by (exfalso;omega))
 ·have g0:=cnd_dec_f h0
  refine k_sc (ht) ?_
  exact k_out (by exact Ent.refl _)
theorem rtleaf_c (n:Nat) (f:Nat→Int) (hn:n≤16384) (hf:byB f n):Pure Tryz.prog gl0 162 [bys n f] (.agg (u8c (tagF "specie/leaf".toUTF8 n f))):=by
 have ht:=rtagged_c "specie/leaf".toUTF8 (by decide) f n (by omega) hf
 refine pure_sk (own:=ow0) Tryz.func162 (by kernel_rfl) mixed (by kernel_rfl)
  (let y0:AV:=(AV.agg (u8c (tagF (String.toUTF8 "specie/leaf") n f)));(.sc (true) 156 ([AV.str { data := #[(115:UInt8),(112:UInt8),(101:UInt8),(99:UInt8),(105:UInt8),(101:UInt8),(47:UInt8),(108:UInt8),(101:UInt8),(97:UInt8),(102:UInt8)] },AV.isl 1 n fun (i x:Nat)=>Zb (f i)]) y0 (.out y0 [] y0 [])))
  (by kernel_rfl) ?_
 refine k_sc (ht) ?_
 exact k_out (by exact Ent.refl _)
theorem tn_base (d:Nat) (hd:d≤5) (h:Nat→Nat→Int) (i:Nat) (hi:i<2^d):Pure Tryz.prog gl0 84 [hsl (2^d) h,.int .i64 d,.int .i64 i] (.agg (u8c (h i))):=by
 have w:=shw (x:=d) (by omega)
 refine pure_sk (own:=ow0) Tryz.func84 (by kernel_rfl) mixed (by kernel_rfl)
  (.req ((0:Int)≤(↑d:Int)) (.br (IntKind.wrap IntKind.i64 ((1:Int)*2^min (Int.toNat (↑d:Int)) 64)==(↑(2^d):Int)) (.req ((0:Int)≤(↑i:Int)∧(↑i:Int)<(↑(2^d):Int)) (.out (AV.agg (u8c (h (Int.toNat (↑i:Int))))) [] (AV.agg (u8c (h i))) [])) .no))
  (by kernel_rfl) ?_
 refine k_req (by omega) ?_
 refine k_br (fun h1=>?_) (fun h1=>?_)
 ·have g1:=cnd_beq_t h1
  try simp only [Int.toNat_natCast] at g1
  refine k_req (by omega) ?_
  exact k_out (Ent.refl _)
 ·have g1:=cnd_beq_f h1
  try simp only [Int.toNat_natCast] at g1
  exact (show False from (g1 w))
theorem tn_step (d:Nat) (hd:d≤5) (h:Nat→Nat→Int) (L i:Nat) (hL:L<d) (hi:i<2^L) (u v:Nat→Int) (hu:byB u 32) (hv:byB v 32) (a1:Pure Tryz.prog gl0 84 [hsl (2^d) h,.int .i64 (L+1:Nat),.int .i64 (2*i:Nat)] (.agg (u8c u)))
  (a2:Pure Tryz.prog gl0 84 [hsl (2^d) h,.int .i64 (L+1:Nat),.int .i64 (2*i+1:Nat)] (.agg (u8c v))):Pure Tryz.prog gl0 84 [hsl (2^d) h,.int .i64 L,.int .i64 i] (.agg (u8c (nodeF u v))):=by
 have w:=shw (x:=L) (by omega)
 have hi5:i<32:=Nat.lt_of_lt_of_le hi (Nat.le_trans (Nat.pow_le_pow_right (by decide) (show L≤5 by omega)) (by decide))
 have e1:((L+1:Nat):Int)=IntKind.wrap .i64 ((L:Int)+1):=by rw [wI (by omega) (by omega)];rfl
 have e2:((2*i:Nat):Int)=IntKind.wrap .i64 (2*(i:Int)):=by rw [wI (by omega) (by omega)];rfl
 have e3:((2*i+1:Nat):Int)=IntKind.wrap .i64 (IntKind.wrap .i64 (2*(i:Int))+1):=by rw [← e2,wI (by omega) (by omega)];rfl
 rw [e1,e2] at a1
 rw [e1,e3] at a2
 have a3:=rinner_c u v hu hv
 refine pure_sk (own:=ow0) Tryz.func84 (by kernel_rfl) mixed (by kernel_rfl)
  (let y0:AV:=(AV.agg (u8c (nodeF u v)));(.req ((0:Int)≤(↑L:Int)) (.br (IntKind.wrap IntKind.i64 ((1:Int)*2^min (Int.toNat (↑L:Int)) 64)==(↑(2^d):Int)) (.req ((0:Int)≤(↑i:Int)∧(↑i:Int)<(↑(2^d):Int)) (.out (AV.agg (u8c (h (Int.toNat (↑i:Int))))) [] y0 [])) (.sc (true) 84 ([AV.isl 32 (2^d) fun (i j:Nat)=>Zb (h i j),Zi (IntKind.wrap IntKind.i64 ((↑L:Int)+1)),Zi (IntKind.wrap IntKind.i64 ((2:Int)*(↑i:Int)))]) (AV.agg (u8c u)) (.sc (true) 84 ([AV.isl 32 (2^d) fun (i j:Nat)=>Zb (h i j),Zi (IntKind.wrap IntKind.i64 ((↑L:Int)+1)),Zi (IntKind.wrap IntKind.i64 (IntKind.wrap IntKind.i64 ((2:Int)*(↑i:Int))+1))]) (AV.agg (u8c v)) (.sc (true) 161 ([AV.agg (u8c u),AV.agg (u8c v)]) y0 (.out y0 [] y0 [])))))))
  (by kernel_rfl) ?_
 refine k_req (by omega) ?_
 refine k_br (fun h1=>?_) (fun h1=>?_)
 ·have g1:=cnd_beq_t h1
  try simp only [Int.toNat_natCast] at g1
  refine k_req (by omega) ?_
  exact k_out (by (exfalso;rw [w] at g1;exact absurd (pow_inj (by omega) (by omega) (Int.ofNat_inj.1 g1)) (by omega)))
 ·have g1:=cnd_beq_f h1
  try simp only [Int.toNat_natCast] at g1
  refine k_sc (a1) ?_
  refine k_sc (a2) ?_
  refine k_sc (a3) ?_
  exact k_out (by exact Ent.refl _)
theorem tnode_c (d:Nat) (hd:d≤5) (h:Nat→Nat→Int) (hb:∀ i,i<2^d→byB (h i) 32):∀ k i:Nat,k≤d→i<2^(d - k)→Pure Tryz.prog gl0 84 [hsl (2^d) h,.int .i64 (d - k:Nat),.int .i64 i] (.agg (u8c (treF h k i)))
 | 0,i,hk,hi=>tn_base d hd h i hi
 | k+1,i,hk,hi=>by
  have hp:2*2^(d - (k+1))=2^(d - k):=pow_dbl (by omega)
  have e:d - (k+1)+1=d - k:=by omega
  have b1:=tnode_c d hd h hb k (2*i) (by omega) (by omega)
  have b2:=tnode_c d hd h hb k (2*i+1) (by omega) (by omega)
  rw [← e] at b1 b2
  have hby:∀ j,j<2^(d - k)→byB (treF h k j) 32:=fun j hj=>tre_by hb k j (by
   have e:=Nat.mul_le_mul_right (2^k) (show j+1≤2^(d - k) from hj)
   rw [Nat.add_mul,Nat.one_mul,← Nat.pow_add,show d - k+k=d by omega] at e
   exact e)
  exact tn_step d hd h (d - (k+1)) i (by omega) hi _ _ (hby _ (by omega)) (hby _ (by omega)) b1 b2
theorem fol_ok (h:Nat→Int) (i:Int) (n:Nat) (P:Nat→Nat→Int) (hn:n≤5) (hi:0≤i) (hi':i<(2^n:Nat)) (hh:byB h 32) (hP:∀ k,k<n→byB (P k) 32) :
  Pure Tryz.prog gl0 152 [.agg (u8c h),.int .i64 n,.agg [.int .i64 i,hsl n P]] (.tup [.agg (u8c (folF h i P n)),.int .i64 0]):=by
 have w:=shw (x:=n) (by omega)
 have hi5:i<32:=Int.lt_of_lt_of_le hi' (Int.ofNat_le.2 (Nat.le_trans (Nat.pow_le_pow_right (by decide) hn) (by decide)))
 rw [← w] at hi'
 refine pure_sk (own:=ow0) Tryz.func152 (by kernel_rfl) mixed (by kernel_rfl)
  (let y0:List AV:=[Zb 0,Zb 0,Zb 0,Zb 0,Zb 0,Zb 0,Zb 0,Zb 0,Zb 0,Zb 0,Zb 0,Zb 0,Zb 0,Zb 0,Zb 0,Zb 0,Zb 0,Zb 0,Zb 0,Zb 0,Zb 0,Zb 0,Zb 0,Zb 0,Zb 0,Zb 0,Zb 0,Zb 0,Zb 0,Zb 0,Zb 0,Zb 0];(.req (((decide ((↑n:Int)<0)||decide ((↑n:Int)>10)||decide (i<0))==false)=true→(0:Int)≤(↑n:Int)) (.br (decide ((↑n:Int)<0)||decide ((↑n:Int)>10)||decide (i<0)||decide (i≥IntKind.wrap IntKind.i64 ((1:Int)*2^min (Int.toNat (↑n:Int)) 64))) (.out (AV.tup kHV40) [] (AV.tup [AV.agg (u8c (folF h i P n)),Zi 0]) []) (.br ((↑n:Int) != (↑n:Int)) (.out (AV.tup kHV41) [] (AV.tup [AV.agg (u8c (folF h i P n)),Zi 0]) []) (.loop ({ x:Nat // x≤n }) (fun (x:{ x:Nat // x≤n })=>mkSt [3,6,39,40,8,41] [AV.own 0 32 0 0 32,AV.own 1 32 0 0 32,AV.isl 32 n fun (i j:Nat)=>Zb (P i j),Zi (↑n:Int),Zi (i / 2^x.1),Zi (↑(x.1):Int)] [some ⟨32,1,true,Rep.fn fun (x_1 j:Nat)=>Zb (folF h i P (x.1) j)⟩,some ⟨32,1,true,Rep.lst [y0]⟩]) (fun (x:{ x:Nat // x≤n })=>n - x.1) (⟨0,Nat.zero_le n⟩) ([3,6,39,40,8,41]) ([0,16]) ([AV.own 0 32 0 0 32,AV.own 1 32 0 0 32,AV.isl 32 n fun (i j:Nat)=>Zb (P i j),Zi (↑n:Int),Zi i,Zi 0]) ([some ⟨32,1,true,Rep.lst [u8c h]⟩,some ⟨32,1,true,Rep.lst [y0]⟩]) (fun x5=>(.br (decide ((↑x5.1:Int)<(↑n:Int))) (.req ((0:Int)≤(↑x5.1:Int)∧(↑x5.1:Int)<(↑n:Int)) (.br (Int.tmod (i / 2^x5.1) (2:Int)==0) (.sc (true) 220 ([AV.agg (u8c (folF h i P x5.1)),AV.agg (u8c (P (Int.toNat (↑x5.1:Int))))]) (AV.agg (u8c (nodeF (folF h i P x5.1) (P (Int.toNat (↑x5.1:Int)))))) (.again (Again 0 (fun (x:{ x:Nat // x≤n })=>mkSt [3,6,39,40,8,41] [AV.own 0 32 0 0 32,AV.own 1 32 0 0 32,AV.isl 32 n fun (i j:Nat)=>Zb (P i j),Zi (↑n:Int),Zi (i / 2^x.1),Zi (↑(x.1):Int)] [some ⟨32,1,true,Rep.fn fun (x_1 j:Nat)=>Zb (folF h i P (x.1) j)⟩,some ⟨32,1,true,Rep.lst [y0]⟩]) (fun (x:{ x:Nat // x≤n })=>n - x.1) x5) ([3,6,39,40,8,41]) ([0,1]) ([AV.own 0 32 0 0 32,AV.own 1 32 0 0 32,AV.isl 32 n fun (i j:Nat)=>Zb (P i j),Zi (↑n:Int),Zi (IntKind.wrap IntKind.i64 (Int.tdiv (i / 2^x5.1) (2:Int))),Zi (IntKind.wrap IntKind.i64 ((↑x5.1:Int)+1))]) ([some ⟨32,1,true,Rep.fn fun (i_1 j:Nat)=>Zb (bif Nat.beq i_1 0&&(Nat.ble 0 j&&Nat.blt j 32) then intOfAV (atL (u8c (nodeF (folF h i P x5.1) (P (Int.toNat (↑x5.1:Int))))) (j - 0)) else folF h i P x5.1 j)⟩,some ⟨32,1,true,Rep.lst [y0]⟩]))) (.sc (true) 220 ([AV.agg (u8c (P (Int.toNat (↑x5.1:Int)))),AV.agg (u8c (folF h i P x5.1))]) (AV.agg (u8c (nodeF (P (Int.toNat (↑x5.1:Int))) (folF h i P x5.1)))) (.again (Again 0 (fun (x:{ x:Nat // x≤n })=>mkSt [3,6,39,40,8,41] [AV.own 0 32 0 0 32,AV.own 1 32 0 0 32,AV.isl 32 n fun (i j:Nat)=>Zb (P i j),Zi (↑n:Int),Zi (i / 2^x.1),Zi (↑(x.1):Int)] [some ⟨32,1,true,Rep.fn fun (x_1 j:Nat)=>Zb (folF h i P (x.1) j)⟩,some ⟨32,1,true,Rep.lst [y0]⟩]) (fun (x:{ x:Nat // x≤n })=>n - x.1) x5) ([3,6,39,40,8,41]) ([0,1]) ([AV.own 0 32 0 0 32,AV.own 1 32 0 0 32,AV.isl 32 n fun (i j:Nat)=>Zb (P i j),Zi (↑n:Int),Zi (IntKind.wrap IntKind.i64 (Int.tdiv (i / 2^x5.1) (2:Int))),Zi (IntKind.wrap IntKind.i64 ((↑x5.1:Int)+1))]) ([some ⟨32,1,true,Rep.fn fun (i_1 j:Nat)=>Zb (bif Nat.beq i_1 0&&(Nat.ble 0 j&&Nat.blt j 32) then intOfAV (atL (u8c (nodeF (P (Int.toNat (↑x5.1:Int))) (folF h i P x5.1))) (j - 0)) else folF h i P x5.1 j)⟩,some ⟨32,1,true,Rep.lst [y0]⟩]))))) (.out (AV.tup [AV.agg (u8c (folF h i P x5.1)),Zi 0]) [] (AV.tup [AV.agg (u8c (folF h i P n)),Zi 0]) []))))))))
  (by kernel_rfl) ?_
 refine k_req (fun hr=>by have hr:=(cnd_eqf_t (cnd_or_f (cnd_or_f cnd_dec_f cnd_dec_f) cnd_dec_f)) hr;omega) ?_
 refine k_br (fun h1=>?_) (fun h1=>?_)
 ·have g1:=(cnd_or_t (cnd_or_t (cnd_or_t cnd_dec_t cnd_dec_t) cnd_dec_t) cnd_dec_t) h1
  try simp only [Int.toNat_natCast] at g1
  exact k_out (by (exfalso;omega))
 ·have g1:=(cnd_or_f (cnd_or_f (cnd_or_f cnd_dec_f cnd_dec_f) cnd_dec_f) cnd_dec_f) h1
  try simp only [Int.toNat_natCast] at g1
  refine k_br (fun h3=>?_) (fun h3=>?_)
  ·have g3:=cnd_bne_t h3
   exact k_out (by (exfalso;omega))
  ·have g3:=cnd_bne_f h3
   refine k_loop (fun _ hs=>hs.le (⟨.refl _,.refl _,.refl _,.refl _,Ent.of_eq (congrArg _ (by rw [show i / 2^0=i by simp])),.refl _,trivial⟩) (⟨ObEnt.rowR rfl,ObEnt.refl _,trivial⟩)) (fun x5=>?_)
   try (have q5:=x5.2;dsimp only at q5)
   refine k_br (fun h6=>?_) (fun h6=>?_)
   ·have g6:=cnd_dec_t h6
    refine k_req (by omega) ?_
    refine k_br (fun h8=>?_) (fun h8=>?_)
    ·have g8:=cnd_beq_t h8
     refine k_sc (inner_c (folF h i P x5.1) (P (Int.toNat (↑x5.1:Int))) (by exact fol_by hh _) (by exact hP _ (by omega))) ?_
     exact k_again (⟨x5.1+1,by omega⟩) (fun _ hs=>hs.le (⟨.refl _,.refl _,.refl _,.refl _,Ent.of_eq (congrArg _ (half_w hi (by omega))),inc_ent (by omega),trivial⟩) (⟨fol_ob (fol_t hi g8),ObEnt.refl _,trivial⟩)) (by dsimp only;omega)
    ·have g8:=cnd_beq_f h8
     refine k_sc (inner_c (P (Int.toNat (↑x5.1:Int))) (folF h i P x5.1) (by exact hP _ (by omega)) (by exact fol_by hh _)) ?_
     exact k_again (⟨x5.1+1,by omega⟩) (fun _ hs=>hs.le (⟨.refl _,.refl _,.refl _,.refl _,Ent.of_eq (congrArg _ (half_w hi (by omega))),inc_ent (by omega),trivial⟩) (⟨fol_ob (fol_f hi g8),ObEnt.refl _,trivial⟩)) (by dsimp only;omega)
   ·have g6:=cnd_dec_f h6
    exact k_out (by exact Ent.of_eq (congrArg (fun k:Nat=>AV.tup [.agg (u8c (folF h i P k)),.int .i64 0]) (by omega)))
theorem fol_no (h:Nat→Int) (i:Int) (l n:Nat) (P:Nat→Nat→Int) (hl:l≤5) (hne:n≠l) (hn:n≤1000000) (hi:0≤i) (hi':i<(2^l:Nat)) :
  Pure Tryz.prog gl0 152 [.agg (u8c h),.int .i64 l,.agg [.int .i64 i,hsl n P]] (.tup [.agg (u8c fun _=>0),.int .i64 3]):=by
 have w:=shw (x:=l) (by omega)
 rw [← w] at hi'
 refine pure_sk (own:=ow0) Tryz.func152 (by kernel_rfl) mixed (by kernel_rfl)
  (let y0:AV:=(AV.tup [AV.agg (u8c fun (x:Nat)=>(0:Int)),Zi 3]);(.req (((decide ((↑l:Int)<0)||decide ((↑l:Int)>10)||decide (i<0))==false)=true→(0:Int)≤(↑l:Int)) (.br (decide ((↑l:Int)<0)||decide ((↑l:Int)>10)||decide (i<0)||decide (i≥IntKind.wrap IntKind.i64 ((1:Int)*2^min (Int.toNat (↑l:Int)) 64))) (.out (AV.tup kHV40) [] y0 []) (.br ((↑n:Int) != (↑l:Int)) (.out (AV.tup kHV41) [] y0 []) .no))))
  (by kernel_rfl) ?_
 refine k_req (fun hr=>by have hr:=(cnd_eqf_t (cnd_or_f (cnd_or_f cnd_dec_f cnd_dec_f) cnd_dec_f)) hr;omega) ?_
 refine k_br (fun h1=>?_) (fun h1=>?_)
 ·have g1:=(cnd_or_t (cnd_or_t (cnd_or_t cnd_dec_t cnd_dec_t) cnd_dec_t) cnd_dec_t) h1
  try simp only [Int.toNat_natCast] at g1
  exact k_out (by (exfalso;omega))
 ·have g1:=(cnd_or_f (cnd_or_f (cnd_or_f cnd_dec_f cnd_dec_f) cnd_dec_f) cnd_dec_f) h1
  try simp only [Int.toNat_natCast] at g1
  refine k_br (fun h3=>?_) (fun h3=>?_)
  ·have g3:=cnd_bne_t h3
   exact k_out (by exact Ent.refl _)
  ·have g3:=cnd_bne_f h3
   exact (show False from (hne (by omega)))
theorem tver_ok (r h:Nat→Int) (i:Int) (n:Nat) (P:Nat→Nat→Int) (hn:n≤5) (hi:0≤i) (hi':i<(2^n:Nat)) (hh:byB h 32) (hP:∀ k,k<n→byB (P k) 32) :
  Pure Tryz.prog gl0 78 [.agg (u8c r),.agg (u8c h),.int .i64 n,.agg [.int .i64 i,hsl n P]] (.bool (hEq (folF h i P n) r)):=by
 have hf:=fol_ok h i n P hn hi hi' hh hP
 refine pure_sk (own:=ow0) Tryz.func78 (by kernel_rfl) mixed (by kernel_rfl)
  (.sc (true) 152 ([AV.agg (u8c h),Zi (↑n:Int),AV.agg [Zi i,AV.isl 32 n fun (i j:Nat)=>Zb (P i j)]]) (AV.tup [AV.agg (u8c (folF h i P n)),Zi 0]) (.out (AV.bool (folF h i P n 0==r 0&&(folF h i P n 1==r 1&&(folF h i P n 2==r 2&&(folF h i P n 3==r 3&&(folF h i P n 4==r 4&&(folF h i P n 5==r 5&&(folF h i P n 6==r 6&&(folF h i P n 7==r 7&&(folF h i P n 8==r 8&&(folF h i P n 9==r 9&&(folF h i P n 10==r 10&&(folF h i P n 11==r 11&&(folF h i P n 12==r 12&&(folF h i P n 13==r 13&&(folF h i P n 14==r 14&&(folF h i P n 15==r 15&&(folF h i P n 16==r 16&&(folF h i P n 17==r 17&&(folF h i P n 18==r 18&&(folF h i P n 19==r 19&&(folF h i P n 20==r 20&&(folF h i P n 21==r 21&&(folF h i P n 22==r 22&&(folF h i P n 23==r 23&&(folF h i P n 24==r 24&&(folF h i P n 25==r 25&&(folF h i P n 26==r 26&&(folF h i P n 27==r 27&&(folF h i P n 28==r 28&&(folF h i P n 29==r 29&&(folF h i P n 30==r 30&&(folF h i P n 31==r 31&&true))))))))))))))))))))))))))))))))) [] (AV.bool (hEq (folF h i P n) r)) []))
  (by kernel_rfl) ?_
 refine k_sc (hf) ?_
 exact k_out (Ent.refl _)
theorem tver_no (r h:Nat→Int) (i:Int) (l n:Nat) (P:Nat→Nat→Int) (hl:l≤5) (hne:n≠l) (hn:n≤1000000) (hi:0≤i) (hi':i<(2^l:Nat)) :
  Pure Tryz.prog gl0 78 [.agg (u8c r),.agg (u8c h),.int .i64 l,.agg [.int .i64 i,hsl n P]] (.bool false):=by
 have hf:=fol_no h i l n P hl hne hn hi hi'
 refine pure_sk (own:=ow0) Tryz.func78 (by kernel_rfl) mixed (by kernel_rfl)
  (.sc (true) 152 ([AV.agg (u8c h),Zi (↑l:Int),AV.agg [Zi i,AV.isl 32 n fun (i j:Nat)=>Zb (P i j)]]) (AV.tup [AV.agg (u8c fun (x:Nat)=>(0:Int)),Zi 3]) (.out (AV.bool false) [] (AV.bool false) []))
  (by kernel_rfl) ?_
 refine k_sc (hf) ?_
 exact k_out (Ent.refl _)
theorem rnum7_c (n:Int) (h0:0≤n) (hn:n<18446744073709551616) (size:Nat) (hs:1≤size) (hs':size≤8):Pure Tryz.prog gl0 223 [.int .u64 n,.int .i64 size] (bys size (numB n size)):=by
 refine pure_sk (own:=ow0) Tryz.func223 (by kernel_rfl) mixed (by kernel_rfl)
  (let y0:Nat:=(Int.toNat (↑size:Int));(.req ((0:Int)≤(↑size:Int)∧(↑size:Int)=(↑size:Int)∧(↑(1):Int)*(↑size:Int)≤140737488355328∧(↑size:Int)≤9223372036854775807) (.loop ({ x:Nat // x≤size }) (fun (x:{ x:Nat // x≤size })=>mkSt [5,0,6] [AV.osl 0 1 0 y0,Zu (n / 256^x.1),Zi ((↑size:Int) - 1 - (↑(x.1):Int))] [some ⟨1,size,true,Rep.fn fun (i x_1:Nat)=>Zb (numT n size (x.1) i)⟩]) (fun (x:{ x:Nat // x≤size })=>size - x.1) (⟨0,Nat.zero_le size⟩) ([5,0,6]) ([16]) ([AV.osl 0 1 0 y0,Zu n,Zi (IntKind.wrap IntKind.i64 ((↑size:Int) - 1))]) ([some ⟨1,Int.toNat (↑size:Int),true,Rep.fn fun (i j:Nat)=>Zb (intOfAV (atL (zcells (Value.int IntKind.u8 (0:Int))) j))⟩]) (fun x1=>(.br (decide ((↑size:Int) - 1 - (↑x1.1:Int)≥0)) (.req ((0:Int)≤(↑size:Int) - 1 - (↑x1.1:Int)∧(↑size:Int) - 1 - (↑x1.1:Int)<(↑y0:Int)) (.again (Again 0 (fun (x:{ x:Nat // x≤size })=>mkSt [5,0,6] [AV.osl 0 1 0 y0,Zu (n / 256^x.1),Zi ((↑size:Int) - 1 - (↑(x.1):Int))] [some ⟨1,size,true,Rep.fn fun (i x_1:Nat)=>Zb (numT n size (x.1) i)⟩]) (fun (x:{ x:Nat // x≤size })=>size - x.1) x1) ([5,0,6]) ([0]) ([AV.osl 0 1 0 y0,Zu (IntKind.wrap IntKind.u64 (Int.tdiv (n / 256^x1.1) (256:Int))),Zi (IntKind.wrap IntKind.i64 ((↑size:Int) - 1 - (↑x1.1:Int) - 1))]) ([some ⟨1,size,true,Rep.fn fun (i j:Nat)=>Zb (bif Nat.beq i (Int.toNat ((↑size:Int) - 1 - (↑x1.1:Int))+0)&&(Nat.ble 0 j&&Nat.blt j 1) then IntKind.wrap IntKind.u8 (Int.tmod (n / 256^x1.1) (256:Int)) else numT n size x1.1 i)⟩]))) (.out (AV.isl 1 y0 fun (r k:Nat)=>Zb (numT n size x1.1 (r+0))) [] (bys size (numB n size)) []))))))
  (by kernel_rfl) ?_
 refine k_req (by omega) ?_
 refine k_loop (fun _ hs=>hs.le (⟨.refl _,.of_eq (congrArg _ (by dsimp only;omega)),Ent.of_eq (congrArg _ (by rw [wI (by omega) (by omega)];dsimp only;omega)),trivial⟩) (⟨⟨rfl,by rfl,rfl,fun i j hi hj=>Ent.of_eq (congrArg _ (num_z hi hj))⟩,trivial⟩)) (fun x1=>?_)
 try (have q1:=x1.2;dsimp only at q1)
 refine k_br (fun h2=>?_) (fun h2=>?_)
 ·have g2:=cnd_dec_t h2
  refine k_req (by omega) ?_
  exact k_again (⟨x1.1+1,by omega⟩) (fun _ hs=>hs.le (⟨.refl _,Ent.of_eq (congrArg _ (num_qw h0 hn _)),Ent.of_eq (congrArg _ (by rw [wI (by omega) (by omega)];dsimp only;omega)),trivial⟩) (⟨⟨rfl,rfl,rfl,fun i j hi hj=>Ent.of_eq (congrArg _ (num_s h0 (by omega) hj))⟩,trivial⟩)) (by dsimp only;omega)
 ·have g2:=cnd_dec_f h2
  exact k_out (bys_eq (by omega) (fun i _=>num_full (by omega)))
theorem renc_int (n:Int):Pure Tryz.prog gl0 157 [.agg [.int .i64 1,.int .i64 n,bys 0 (fun _=>0),.isl 4 0 (fun _ _=>.junk)]] (il .u8 (It.int n).enc):=by
 have hw:=wu64_by n
 refine pure_sk (own:=ow0) Tryz.func157 (by kernel_rfl) mixed (by kernel_rfl)
  (.tt (.dc (true) 223 ([Zu (IntKind.wrap IntKind.u64 n),Zi 8]) (bys 8 (numB (IntKind.wrap IntKind.u64 n) 8)) (.req (9≤140737488355328) (.out (AV.isl 1 9 fun (r k:Nat)=>Zb (bif Nat.blt (r+0) 1 then intOfAV (atL [Zb 1] k) else numB (IntKind.wrap IntKind.u64 n) 8 (r+0 - 1))) [] (il IntKind.u8 (It.enc (It.int n))) []))))
  (by kernel_rfl) ?_
 refine k_tt ?_
 refine k_dc (rnum7_c (IntKind.wrap IntKind.u64 n) (by omega) (by omega) (8) (by omega) (by omega)) ?_
 refine k_req (by omega) ?_
 exact k_out (il_eq rfl (fun i hi=>enc1 hi))
theorem renc_byt (n:Nat) (f:Nat→Int) (hn:n≤1099511627776):Pure Tryz.prog gl0 157 [.agg [.int .i64 2,.int .i64 0,bys n f,.isl 4 0 (fun _ _=>.junk)]] (il .u8 (It.byt n f).enc):=by
 have hw:=wu64_by n
 have e:IntKind.wrap .u64 (n:Int)=n:=wu64 (by omega) (by omega)
 refine pure_sk (own:=ow0) Tryz.func157 (by kernel_rfl) mixed (by kernel_rfl)
  (.ff (.tt (.dc (true) 223 ([Zu (IntKind.wrap IntKind.u64 (↑n:Int)),Zi 4]) (bys 4 (numB (IntKind.wrap IntKind.u64 (↑n:Int)) 4)) (.req (5≤140737488355328) (.req ((5+n)*1≤140737488355328) (.out (AV.isl 1 (5+n) fun (r k:Nat)=>Zb (bif Nat.blt (r+0) 5 then bif Nat.blt (r+0) 1 then intOfAV (atL [Zb 2] k) else numB (IntKind.wrap IntKind.u64 (↑n:Int)) 4 (r+0 - 1) else f (r+0 - 5))) [] (il IntKind.u8 (It.enc (It.byt n f))) []))))))
  (by kernel_rfl) ?_
 refine k_ff ?_
 refine k_tt ?_
 refine k_dc (rnum7_c (IntKind.wrap IntKind.u64 (↑n:Int)) (by omega) (by omega) (4) (by omega) (by omega)) ?_
 refine k_req (by omega) ?_
 refine k_req (by omega) ?_
 exact k_out (il_eq (byt_len n f).symm (fun i hi=>by
                                                                                                     rw [e]
                                                                                                     exact enc2 hi))
theorem renc_lw (n:Nat) (c:Nat→It) (E A:Nat→List Int) (hn:n≤1099511627776) (h0:A 0=3::nbL n 4) (hE:∀ k,A (k+1)=A k++E k) (hA:∀ k,k≤n→(A k).length≤1099511627776)
  (hc:∀ i,i<n→Pure Tryz.prog gl0 157 [(c i).av] (il .u8 (E i))):Pure Tryz.prog gl0 157 [.agg [.int .i64 3,.int .i64 0,bys 0 (fun _=>0),It.sl n c]] (il .u8 (A n)):=by
 have hw:=wu64_by n
 have e:IntKind.wrap .u64 (n:Int)=n:=wu64 (by omega) (by omega)
 have l0:(A 0).length=5:=by rw [h0];simp [nbL_len]
 have ls:∀ k,(A (k+1)).length=(A k).length+(E k).length:=fun k=>by rw [hE,List.length_append]
 refine pure_sk (own:=ow0) Tryz.func157 (by kernel_rfl) mixed (by kernel_rfl)
  (let y0:List AV:=[Zi 3,Zi 0,AV.isl 1 0 fun (i x:Nat)=>Zb 0,AV.isl 4 n fun (i j:Nat)=>atL (It.cells (c i)) j];(.ff (.ff (.dc (true) 223 ([Zu (IntKind.wrap IntKind.u64 (↑n:Int)),Zi 4]) (bys 4 (numB (IntKind.wrap IntKind.u64 (↑n:Int)) 4)) (.req (5≤140737488355328) (.loop ({ x:Nat // x≤n }) (fun (x:{ x:Nat // x≤n })=>mkSt [1,3,4] [AV.own 0 4 0 0 4,AV.osl 1 1 0 (List.length (A (x.1))),Zi (↑(x.1):Int)] [some ⟨4,1,true,Rep.lst [y0]⟩,ilO IntKind.u8 (A (x.1))]) (fun (x:{ x:Nat // x≤n })=>n - x.1) (⟨0,Nat.zero_le n⟩) ([1,3,4]) ([0,112]) ([AV.own 0 4 0 0 4,AV.osl 1 1 0 5,Zi 0]) ([some ⟨4,1,true,Rep.lst [y0]⟩,some ⟨1,5,true,Rep.fn fun (i j:Nat)=>Zb (bif Nat.blt i 1 then intOfAV (atL [Zb 3] j) else numB (IntKind.wrap IntKind.u64 (↑n:Int)) 4 (i - 1))⟩]) (fun x4=>(.br (decide ((↑x4.1:Int)<(↑n:Int))) (.req ((0:Int)≤(↑x4.1:Int)∧(↑x4.1:Int)<(↑n:Int)) (.dc (true) 157 ([AV.agg [Zi (It.kind (c (Int.toNat (↑x4.1:Int)))),Zi (It.num (c (Int.toNat (↑x4.1:Int)))),AV.isl 1 (It.nb (c (Int.toNat (↑x4.1:Int)))) fun (i x:Nat)=>Zb (It.fb (c (Int.toNat (↑x4.1:Int))) i),AV.isl 4 (It.nl (c (Int.toNat (↑x4.1:Int)))) (It.row (c (Int.toNat (↑x4.1:Int))))]]) (il IntKind.u8 (E (Int.toNat (↑x4.1:Int)))) (.req ((List.length (A (x4.1))+List.length (E (Int.toNat (↑x4.1:Int))))*1≤140737488355328) (.again (Again 0 (fun (x:{ x:Nat // x≤n })=>mkSt [1,3,4] [AV.own 0 4 0 0 4,AV.osl 1 1 0 (List.length (A (x.1))),Zi (↑(x.1):Int)] [some ⟨4,1,true,Rep.lst [y0]⟩,ilO IntKind.u8 (A (x.1))]) (fun (x:{ x:Nat // x≤n })=>n - x.1) x4) ([1,3,4]) ([0,98]) ([AV.own 0 4 0 0 4,AV.osl 1 1 0 (List.length (A (x4.1))+List.length (E (Int.toNat (↑x4.1:Int)))),Zi (IntKind.wrap IntKind.i64 ((↑x4.1:Int)+1))]) ([some ⟨4,1,true,Rep.lst [y0]⟩,some ⟨1,List.length (A (x4.1))+List.length (E (Int.toNat (↑x4.1:Int))),true,Rep.fn fun (i j:Nat)=>Zb (bif Nat.blt i (List.length (A (x4.1))) then List.getD (A (x4.1)) i (0:Int) else List.getD (E (Int.toNat (↑x4.1:Int))) (i - List.length (A (x4.1))) (0:Int))⟩]))))) (.out (AV.isl 1 (List.length (A (x4.1))) fun (r k:Nat)=>Zb (List.getD (A (x4.1)) (r+0) (0:Int))) [] (il IntKind.u8 (A n)) [])))))))))
  (by kernel_rfl) ?_
 refine k_ff ?_
 refine k_ff ?_
 refine k_dc (rnum7_c (IntKind.wrap IntKind.u64 (↑n:Int)) (by omega) (by omega) (4) (by omega) (by omega)) ?_
 refine k_req (by omega) ?_
 refine k_loop (fun _ hs=>hs.le (by repeat' (first|exact trivial|(first|exact Ent.refl _|exact inc_ent (by omega)|exact Ent.nil rfl|exact Ent.of_eq (congrArg (AV.osl _ _ _) (by first|omega|(dsimp only;omega)))|exact Ent.of_eq (congrArg (AV.int _) (by omega)))|refine And.intro ?_ ?_)) (⟨by exact ObEnt.refl _,obl_eq l0.symm (fun i hi=>by
                                                                                                     rw [e,h0]
                                                                                                     exact enc1 hi),trivial⟩)) (fun x4=>?_)
 refine k_br (fun h5=>?_) (fun h5=>?_)
 ·have g5:=cnd_dec_t h5
  refine k_req (by omega) ?_
  refine k_dc (hc (Int.toNat (↑x4.1:Int)) (by omega)) ?_
  refine k_req (by have q1:=hA (x4.1+1) (by omega);have q2:=ls x4.1;simp only [Int.toNat_natCast];omega) ?_
  exact k_again (⟨x4.1+1,by omega⟩) (fun _ hs=>hs.le (⟨by exact Ent.refl _,Ent.of_eq (congrArg (AV.osl 1 1 0) (ls x4.1).symm),by exact inc_ent (by omega),trivial⟩) (⟨by exact ObEnt.refl _,obl_app (hE x4.1) rfl,trivial⟩)) (by (dsimp only;omega))
 ·have g5:=cnd_dec_f h5
  exact k_out (Ent.of_eq (by rw [show x4.1=n by omega];rfl))
theorem renc_c:∀ x:It,x.enc.length≤1099511627776→Pure Tryz.prog gl0 157 [x.av] (il .u8 x.enc)
 | .int n,_=>renc_int n
 | .byt n f,h=>renc_byt n f (by rw [byt_len] at h;omega)
 | .li n c,h=>renc_lw n c (fun i=>(c i).enc) (It.encP n c) (by have:=It.encP_len n c n;rw [It.enc_li] at h;omega) (It.encP_zero n c) (It.encP_succ n c) (fun k hk=>Nat.le_trans (It.encP_le n c hk) h)
   (fun i hi=>renc_c (c i) (by have:=It.enc_child (c:=c) hi;omega))
def ow3:FuncId→Option (List Bool):=fun f=>bif Nat.beq f 215||Nat.beq f 222 then some [false] else bif Nat.beq f 256 then some [true,false,false] else bif Nat.beq f 213 then some [true,false] else none
theorem number_g (n:Nat) (f:Nat→Nat→Int) (v:Int) (h0:0≤v) (hv:v<18446744073709551616) (size:Nat) (h1:1≤size) (h8:size≤8) (hl:n≤1099511627776) :
  Gives Tryz.prog gl0 256 [⟨1,n,true,.fn fun i j=>.int .u8 (f i j)⟩] [.osl 0 1 0 n,.int .u64 v,.int .i64 size] (.osl 1 1 0 (n+size)) [none,some ⟨1,n+size,true,.fn fun i j=>.int .u8 (bif Nat.blt i n then f i j else numB v size (i - n))⟩]:=by
 refine gives_sk (own:=ow0) (hand:=true) Tryz.func256 (by kernel_rfl) mixed (by kernel_rfl)
  (.loop ({ x:Nat // x≤size }) (fun (x:{ x:Nat // x≤size })=>mkSt [1,0,7] [Zu v,AV.osl 1 1 0 (n+x.1),Zi ((↑size:Int) - 1 - (↑(x.1):Int))] [none,some ⟨1,n+x.1,true,Rep.fn fun (i j:Nat)=>Zb (bif Nat.blt i n then f i j else numB v size (i - n))⟩]) (fun (x:{ x:Nat // x≤size })=>size - x.1) (⟨0,Nat.zero_le size⟩) ([1,0,7]) ([33,0]) ([Zu v,AV.osl 1 1 0 n,Zi (IntKind.wrap IntKind.i64 ((↑size:Int) - 1))]) ([none,some ⟨1,n,true,Rep.fn fun (i j:Nat)=>Zb (f i j)⟩]) (fun x0=>(.br (decide ((↑size:Int) - 1 - (↑x0.1:Int)≥0)) (.req ((0:Int)≤IntKind.wrap IntKind.i64 ((8:Int)*((↑size:Int) - 1 - (↑x0.1:Int)))) (.req ((n+x0.1+1)*1≤140737488355328) (.again (Again 1 (fun (x:{ x:Nat // x≤size })=>mkSt [1,0,7] [Zu v,AV.osl 1 1 0 (n+x.1),Zi ((↑size:Int) - 1 - (↑(x.1):Int))] [none,some ⟨1,n+x.1,true,Rep.fn fun (i j:Nat)=>Zb (bif Nat.blt i n then f i j else numB v size (i - n))⟩]) (fun (x:{ x:Nat // x≤size })=>size - x.1) x0) ([1,0,7]) ([114,74]) ([Zu v,AV.osl 1 1 0 (n+x0.1+1),Zi (IntKind.wrap IntKind.i64 ((↑size:Int) - 1 - (↑x0.1:Int) - 1))]) ([none,some ⟨1,n+x0.1+1,true,Rep.fn fun (i j:Nat)=>Zb (bif Nat.blt i (n+x0.1) then bif Nat.blt i n then f i j else numB v size (i - n) else intOfAV (atL [Zb (IntKind.wrap IntKind.u8 (Int.fdiv v ((2:Int)^min (Int.toNat (IntKind.wrap IntKind.i64 ((8:Int)*((↑size:Int) - 1 - (↑x0.1:Int))))) 64)))] j))⟩])))) (.out (AV.osl 1 1 0 (n+x0.1)) ([none,some ⟨1,n+x0.1,true,Rep.fn fun (i j:Nat)=>Zb (bif Nat.blt i n then f i j else numB v size (i - n))⟩]) (AV.osl 1 1 0 (n+size)) ([none,some ⟨1,n+size,true,Rep.fn fun (i j:Nat)=>Zb (bif Nat.blt i n then f i j else numB v size (i - n))⟩])))))
  (by kernel_rfl) ?_
 refine k_loop (fun _ hs=>hs.le (⟨by exact Ent.refl _,by exact Ent.refl _,Ent.of_eq (congrArg _ (by rw [wI (by omega) (by omega)];dsimp only;omega)),trivial⟩) (⟨numb_ob rfl,trivial⟩)) (fun x0=>?_)
 try (have q0:=x0.2;dsimp only at q0)
 refine k_br (fun h1=>?_) (fun h1=>?_)
 ·have g1:=cnd_dec_t h1
  refine k_req (by rw [wI (by omega) (by omega)];omega) ?_
  refine k_req (by omega) ?_
  exact k_again (⟨x0.1+1,by omega⟩) (fun _ hs=>hs.le (⟨by exact Ent.refl _,by exact Ent.refl _,Ent.of_eq (congrArg _ (by rw [wI (by omega) (by omega)];dsimp only;omega)),trivial⟩) (⟨numb_obs (shr_num (by omega) h8),trivial⟩)) (by (dsimp only;omega))
 ·have g1:=cnd_dec_f h1
  exact k_outg (Ent.of_eq (congrArg (AV.osl 1 1 0) (by omega))) (by repeat' (first|exact trivial|(first|exact ObEnt.refl _|exact ObEnt.junk|exact ObEnt.zero|exact ObEnt.push rfl rfl|exact ObEnt.pushRow rfl|exact ObEnt.len (by omega)|exact ObEnt.row (by repeat' (first|exact trivial|(first|exact Ent.refl _|exact inc_ent (by omega)|exact Ent.nil rfl|exact Ent.of_eq (congrArg (AV.osl _ _ _) (by first|omega|(dsimp only;omega)))|exact Ent.of_eq (congrArg (AV.int _) (by first|omega|(dsimp only;omega))))|refine And.intro ?_ ?_)))|refine And.intro ?_ ?_))
theorem number_h (b:Int) (v:Int) (h0:0≤v) (hv:v<18446744073709551616) (size:Nat) (h1:1≤size) (h8:size≤8) :
  Gives Tryz.prog gl0 256 [⟨1,1,true,.lst [[.int .u8 b]]⟩] [.osl 0 1 0 1,.int .u64 v,.int .i64 size] (.osl 1 1 0 (1+size)) [none,some ⟨1,1+size,true,.fn fun i _=>.int .u8 (bif Nat.blt i 1 then b else numB v size (i - 1))⟩]:=by
 refine gives_sk (own:=ow0) (hand:=true) Tryz.func256 (by kernel_rfl) mixed (by kernel_rfl)
  (.loop ({ x:Nat // x≤size }) (fun (x:{ x:Nat // x≤size })=>mkSt [1,0,7] [Zu v,AV.osl 1 1 0 (1+x.1),Zi ((↑size:Int) - 1 - (↑(x.1):Int))] [none,some ⟨1,1+x.1,true,Rep.fn fun (i x:Nat)=>Zb (bif Nat.blt i 1 then b else numB v size (i - 1))⟩]) (fun (x:{ x:Nat // x≤size })=>size - x.1) (⟨0,Nat.zero_le size⟩) ([1,0,7]) ([33,0]) ([Zu v,AV.osl 1 1 0 1,Zi (IntKind.wrap IntKind.i64 ((↑size:Int) - 1))]) ([none,some ⟨1,1,true,Rep.lst [[Zb b]]⟩]) (fun x0=>(.br (decide ((↑size:Int) - 1 - (↑x0.1:Int)≥0)) (.req ((0:Int)≤IntKind.wrap IntKind.i64 ((8:Int)*((↑size:Int) - 1 - (↑x0.1:Int)))) (.req ((1+x0.1+1)*1≤140737488355328) (.again (Again 1 (fun (x:{ x:Nat // x≤size })=>mkSt [1,0,7] [Zu v,AV.osl 1 1 0 (1+x.1),Zi ((↑size:Int) - 1 - (↑(x.1):Int))] [none,some ⟨1,1+x.1,true,Rep.fn fun (i x:Nat)=>Zb (bif Nat.blt i 1 then b else numB v size (i - 1))⟩]) (fun (x:{ x:Nat // x≤size })=>size - x.1) x0) ([1,0,7]) ([114,74]) ([Zu v,AV.osl 1 1 0 (1+x0.1+1),Zi (IntKind.wrap IntKind.i64 ((↑size:Int) - 1 - (↑x0.1:Int) - 1))]) ([none,some ⟨1,1+x0.1+1,true,Rep.fn fun (i j:Nat)=>Zb (bif Nat.blt i (1+x0.1) then bif Nat.blt i 1 then b else numB v size (i - 1) else intOfAV (atL [Zb (IntKind.wrap IntKind.u8 (Int.fdiv v ((2:Int)^min (Int.toNat (IntKind.wrap IntKind.i64 ((8:Int)*((↑size:Int) - 1 - (↑x0.1:Int))))) 64)))] j))⟩])))) (.out (AV.osl 1 1 0 (1+x0.1)) ([none,some ⟨1,1+x0.1,true,Rep.fn fun (i j:Nat)=>Zb (bif Nat.blt i 1 then b else numB v size (i - 1))⟩]) (AV.osl 1 1 0 (1+size)) ([none,some ⟨1,1+size,true,Rep.fn fun (i x:Nat)=>Zb (bif Nat.blt i 1 then b else numB v size (i - 1))⟩])))))
  (by kernel_rfl) ?_
 refine k_loop (fun _ hs=>hs.le (⟨by exact Ent.refl _,by exact Ent.refl _,Ent.of_eq (congrArg _ (by rw [wI (by omega) (by omega)];dsimp only;omega)),trivial⟩) (⟨numb_ob1 rfl,trivial⟩)) (fun x0=>?_)
 try (have q0:=x0.2;dsimp only at q0)
 refine k_br (fun h1=>?_) (fun h1=>?_)
 ·have g1:=cnd_dec_t h1
  refine k_req (by rw [wI (by omega) (by omega)];omega) ?_
  refine k_req (by omega) ?_
  exact k_again (⟨x0.1+1,by omega⟩) (fun _ hs=>hs.le (⟨by exact Ent.refl _,by exact Ent.refl _,Ent.of_eq (congrArg _ (by rw [wI (by omega) (by omega)];dsimp only;omega)),trivial⟩) (⟨numb_obs (f:=fun _ _=>b) (shr_num (by omega) h8),trivial⟩)) (by (dsimp only;omega))
 ·have g1:=cnd_dec_f h1
  exact k_outg (Ent.of_eq (congrArg (AV.osl 1 1 0) (by omega))) (by repeat' (first|exact trivial|(first|exact ObEnt.refl _|exact ObEnt.junk|exact ObEnt.zero|exact ObEnt.push rfl rfl|exact ObEnt.pushRow rfl|exact ObEnt.len (by omega)|exact ObEnt.row (by repeat' (first|exact trivial|(first|exact Ent.refl _|exact inc_ent (by omega)|exact Ent.nil rfl|exact Ent.of_eq (congrArg (AV.osl _ _ _) (by first|omega|(dsimp only;omega)))|exact Ent.of_eq (congrArg (AV.int _) (by first|omega|(dsimp only;omega))))|refine And.intro ?_ ?_)))|refine And.intro ?_ ?_))
theorem write_int (l:List Int) (n:Int) (hl:l.length≤16384):Gives Tryz.prog gl0 213 [⟨1,l.length,true,.fn (ilF .u8 l)⟩] [.osl 0 1 0 l.length,.agg [.int .i64 1,.int .i64 n,bys 0 (fun _=>0),.isl 4 0 (fun _ _=>.junk)]]
  (.osl 1 1 0 (l++(It.int n).enc).length) [none,ilO .u8 (l++(It.int n).enc)]:=by
 have hw:=wu64_by n
 refine gives_sk (own:=ow3) (hand:=true) Tryz.func213 (by kernel_rfl) mixed (by kernel_rfl)
  (let y0:List (Option Ob):=[none,some ⟨1,List.length l+1+8,true,Rep.fn fun (i j:Nat)=>Zb (bif Nat.blt i (List.length l+1) then bif Nat.blt i (List.length l) then List.getD l i (0:Int) else intOfAV (atL [Zb (IntKind.wrap IntKind.u8 (1:Int))] j) else numB (IntKind.wrap IntKind.u64 n) 8 (i - (List.length l+1)))⟩];let y1:AV:=(AV.osl 1 1 0 (List.length (l++It.enc (It.int n))));let y2:AV:=(AV.osl 1 1 0 (List.length l+1+8));(.br (decide ((↑(List.length l):Int)>16384)) (.out (AV.osl 0 1 0 (List.length l)) ([some ⟨1,List.length l,true,Rep.fn fun (i j:Nat)=>Zb (List.getD l i (0:Int))⟩]) y1 ([none,ilO IntKind.u8 (l++It.enc (It.int n))])) (.req ((List.length l+1)*1≤140737488355328) (.tt (.gc 256 ([⟨1,List.length l+1,true,Rep.fn fun (i j:Nat)=>Zb (bif Nat.blt i (List.length l) then List.getD l i (0:Int) else intOfAV (atL [Zb (IntKind.wrap IntKind.u8 (1:Int))] j))⟩]) ([AV.osl 0 1 0 (List.length l+1),Zu (IntKind.wrap IntKind.u64 n),Zi 8]) y2 (y0) (.out y2 (y0) y1 ([none,ilO IntKind.u8 (l++It.enc (It.int n))])))))))
  (by kernel_rfl) ?_
 refine k_br (fun h0=>?_) (fun h0=>?_)
 ·have g0:=cnd_dec_t h0
  exact k_outg ((by exfalso;omega)) ((by exfalso;omega))
 ·have g0:=cnd_dec_f h0
  refine k_req (by omega) ?_
  refine k_tt ?_
  refine k_gc (number_g (List.length l+1) (fun (i j:Nat)=>bif Nat.blt i (List.length l) then List.getD l i (0:Int) else intOfAV (atL [Zb (IntKind.wrap IntKind.u8 (1:Int))] j)) (IntKind.wrap IntKind.u64 n) (by omega) (by omega) (8) (by omega) (by omega) (by omega)) ?_
  exact k_outg (Ent.of_eq (congrArg (AV.osl 1 1 0) (wr_int l n))) (⟨obl_eq (wr_int l n) (fun i hi=>wr1 hi),trivial⟩)
theorem write_byt (l:List Int) (n:Nat) (f:Nat→Int) (hl:l.length≤16384) (hn:n≤16384):Gives Tryz.prog gl0 213 [⟨1,l.length,true,.fn (ilF .u8 l)⟩] [.osl 0 1 0 l.length,.agg [.int .i64 2,.int .i64 0,bys n f,.isl 4 0 (fun _ _=>.junk)]]
  (.osl 1 1 0 (l++(It.byt n f).enc).length) [none,ilO .u8 (l++(It.byt n f).enc)]:=by
 have hw:=wu64_by n
 have e:IntKind.wrap .u64 (n:Int)=n:=wu64 (by omega) (by omega)
 refine gives_sk (own:=ow3) (hand:=true) Tryz.func213 (by kernel_rfl) mixed (by kernel_rfl)
  (let y0:List AV:=[Zb (IntKind.wrap IntKind.u8 (2:Int))];let y1:AV:=(AV.osl 1 1 0 (List.length (l++It.enc (It.byt n f))));(.br (decide ((↑(List.length l):Int)>16384)) (.out (AV.osl 0 1 0 (List.length l)) ([some ⟨1,List.length l,true,Rep.fn fun (i j:Nat)=>Zb (List.getD l i (0:Int))⟩]) y1 ([none,ilO IntKind.u8 (l++It.enc (It.byt n f))])) (.req ((List.length l+1)*1≤140737488355328) (.ff (.tt (.gc 256 ([⟨1,List.length l+1,true,Rep.fn fun (i j:Nat)=>Zb (bif Nat.blt i (List.length l) then List.getD l i (0:Int) else intOfAV (atL y0 j))⟩]) ([AV.osl 0 1 0 (List.length l+1),Zu (IntKind.wrap IntKind.u64 (↑n:Int)),Zi 4]) (AV.osl 1 1 0 (List.length l+1+4)) ([none,some ⟨1,List.length l+1+4,true,Rep.fn fun (i j:Nat)=>Zb (bif Nat.blt i (List.length l+1) then bif Nat.blt i (List.length l) then List.getD l i (0:Int) else intOfAV (atL y0 j) else numB (IntKind.wrap IntKind.u64 (↑n:Int)) 4 (i - (List.length l+1)))⟩]) (.req ((List.length l+1+4+n)*1≤140737488355328) (.out (AV.osl 1 1 0 (List.length l+1+4+n)) ([none,some ⟨1,List.length l+1+4+n,true,Rep.fn fun (i j:Nat)=>Zb (bif Nat.blt i (List.length l+1+4) then bif Nat.blt i (List.length l+1) then bif Nat.blt i (List.length l) then List.getD l i (0:Int) else intOfAV (atL y0 j) else numB (IntKind.wrap IntKind.u64 (↑n:Int)) 4 (i - (List.length l+1)) else f (i - (List.length l+1+4)))⟩]) y1 ([none,ilO IntKind.u8 (l++It.enc (It.byt n f))])))))))))
  (by kernel_rfl) ?_
 refine k_br (fun h0=>?_) (fun h0=>?_)
 ·have g0:=cnd_dec_t h0
  exact k_outg ((by exfalso;omega)) ((by exfalso;omega))
 ·have g0:=cnd_dec_f h0
  refine k_req (by omega) ?_
  refine k_ff ?_
  refine k_tt ?_
  refine k_gc (number_g (List.length l+1) (fun (i j:Nat)=>bif Nat.blt i (List.length l) then List.getD l i (0:Int) else intOfAV (atL [Zb (IntKind.wrap IntKind.u8 (2:Int))] j)) (IntKind.wrap IntKind.u64 (↑n:Int)) (by omega) (by omega) (4) (by omega) (by omega) (by omega)) ?_
  refine k_req (by omega) ?_
  exact k_outg (Ent.of_eq (congrArg (AV.osl 1 1 0) (wr_byt l n f))) (⟨obl_eq (wr_byt l n f) (fun i hi=>by
                                                                                                     rw [e]
                                                                                                     exact wr2 hi),trivial⟩)
theorem write_lw (l:List Int) (n:Nat) (c:Nat→It) (E A:Nat→List Int) (hl:l.length≤16384) (hn:n≤16384) (hA0:A 0=l++(3::nbL n 4)) (hE:∀ k,A (k+1)=A k++E k) (hA:∀ k,k≤n→(A k).length≤16384)
  (hc:∀ i,i<n→∀ l:List Int,l.length≤16384→(l++E i).length≤16384→Gives Tryz.prog gl0 213 [⟨1,l.length,true,.fn (ilF .u8 l)⟩] [.osl 0 1 0 l.length,(c i).av] (.osl 1 1 0 (l++E i).length) [none,ilO .u8 (l++E i)]) :
  Gives Tryz.prog gl0 213 [⟨1,l.length,true,.fn (ilF .u8 l)⟩] [.osl 0 1 0 l.length,.agg [.int .i64 3,.int .i64 0,bys 0 (fun _=>0),It.sl n c]] (.osl 1 1 0 (A n).length) [none,ilO .u8 (A n)]:=by
 have hw:=wu64_by n
 have e:IntKind.wrap .u64 (n:Int)=n:=wu64 (by omega) (by omega)
 have l0:l.length+1+4=(A 0).length:=by rw [hA0];simp [nbL_len]
 have ls:∀ k,(A (k+1)).length=(A k).length+(E k).length:=fun k=>by rw [hE,List.length_append]
 refine gives_sk (own:=ow3) (hand:=true) Tryz.func213 (by kernel_rfl) mixed (by kernel_rfl)
  (let y0:List (Option Ob):=[none,some ⟨1,List.length l+1+4,true,Rep.fn fun (i j:Nat)=>Zb (bif Nat.blt i (List.length l+1) then bif Nat.blt i (List.length l) then List.getD l i (0:Int) else intOfAV (atL [Zb (IntKind.wrap IntKind.u8 (3:Int))] j) else numB (IntKind.wrap IntKind.u64 (↑n:Int)) 4 (i - (List.length l+1)))⟩];(.br (decide ((↑(List.length l):Int)>16384)) (.out (AV.osl 0 1 0 (List.length l)) ([some ⟨1,List.length l,true,Rep.fn fun (i j:Nat)=>Zb (List.getD l i (0:Int))⟩]) (AV.osl 1 1 0 (List.length (A n))) ([none,ilO IntKind.u8 (A n)])) (.req ((List.length l+1)*1≤140737488355328) (.ff (.ff (.gc 256 ([⟨1,List.length l+1,true,Rep.fn fun (i j:Nat)=>Zb (bif Nat.blt i (List.length l) then List.getD l i (0:Int) else intOfAV (atL [Zb (IntKind.wrap IntKind.u8 (3:Int))] j))⟩]) ([AV.osl 0 1 0 (List.length l+1),Zu (IntKind.wrap IntKind.u64 (↑n:Int)),Zi 4]) (AV.osl 1 1 0 (List.length l+1+4)) (y0) (.loop ({ x:Nat // x≤n }) (fun (x:{ x:Nat // x≤n })=>mkSt [44,45,0,46] [AV.isl 4 n fun (i j:Nat)=>atL (It.cells (c i)) j,Zi (↑n:Int),AV.osl 1 1 0 (List.length (A (x.1))),Zi (↑(x.1):Int)] [none,ilO IntKind.u8 (A (x.1))]) (fun (x:{ x:Nat // x≤n })=>n - x.1) (⟨0,Nat.zero_le n⟩) ([44,45,0,46]) ([233,185]) ([AV.isl 4 n fun (i j:Nat)=>atL (It.cells (c i)) j,Zi (↑n:Int),AV.osl 1 1 0 (List.length l+1+4),Zi 0]) (y0) (fun x6=>(.br (decide ((↑x6.1:Int)<(↑n:Int))) (.req ((0:Int)≤(↑x6.1:Int)∧(↑x6.1:Int)<(↑n:Int)) (.gc 213 ([⟨1,List.length (A (x6.1)),true,Rep.fn fun (i j:Nat)=>Zb (List.getD (A (x6.1)) i (0:Int))⟩]) ([AV.osl 0 1 0 (List.length (A (x6.1))),AV.agg [Zi (It.kind (c (Int.toNat (↑x6.1:Int)))),Zi (It.num (c (Int.toNat (↑x6.1:Int)))),AV.isl 1 (It.nb (c (Int.toNat (↑x6.1:Int)))) fun (i x:Nat)=>Zb (It.fb (c (Int.toNat (↑x6.1:Int))) i),AV.isl 4 (It.nl (c (Int.toNat (↑x6.1:Int)))) (It.row (c (Int.toNat (↑x6.1:Int))))]]) (AV.osl 1 1 0 (List.length (A (x6.1)++E (Int.toNat (↑x6.1:Int))))) ([none,ilO IntKind.u8 (A (x6.1)++E (Int.toNat (↑x6.1:Int)))]) (.again (Again 1 (fun (x:{ x:Nat // x≤n })=>mkSt [44,45,0,46] [AV.isl 4 n fun (i j:Nat)=>atL (It.cells (c i)) j,Zi (↑n:Int),AV.osl 1 1 0 (List.length (A (x.1))),Zi (↑(x.1):Int)] [none,ilO IntKind.u8 (A (x.1))]) (fun (x:{ x:Nat // x≤n })=>n - x.1) x6) ([44,45,0,46]) ([90,58]) ([AV.isl 4 n fun (i j:Nat)=>atL (It.cells (c i)) j,Zi (↑n:Int),AV.osl 1 1 0 (List.length (A (x6.1)++E (Int.toNat (↑x6.1:Int)))),Zi (IntKind.wrap IntKind.i64 ((↑x6.1:Int)+1))]) ([none,some ⟨1,List.length (A (x6.1)++E (Int.toNat (↑x6.1:Int))),true,Rep.fn fun (i j:Nat)=>Zb (List.getD (A (x6.1)++E (Int.toNat (↑x6.1:Int))) i (0:Int))⟩])))) (.out (AV.osl 1 1 0 (List.length (A (x6.1)))) ([none,some ⟨1,List.length (A (x6.1)),true,Rep.fn fun (i j:Nat)=>Zb (List.getD (A (x6.1)) i (0:Int))⟩]) (AV.osl 1 1 0 (List.length (A n))) ([none,ilO IntKind.u8 (A n)])))))))))))
  (by kernel_rfl) ?_
 refine k_br (fun h0=>?_) (fun h0=>?_)
 ·have g0:=cnd_dec_t h0
  exact k_outg ((by exfalso;omega)) ((by exfalso;omega))
 ·have g0:=cnd_dec_f h0
  refine k_req (by omega) ?_
  refine k_ff ?_
  refine k_ff ?_
  refine k_gc (number_g (List.length l+1) (fun (i j:Nat)=>bif Nat.blt i (List.length l) then List.getD l i (0:Int) else intOfAV (atL [Zb (IntKind.wrap IntKind.u8 (3:Int))] j)) (IntKind.wrap IntKind.u64 (↑n:Int)) (by omega) (by omega) (4) (by omega) (by omega) (by omega)) ?_
  refine k_loop (fun _ hs=>hs.le (by repeat' (first|exact trivial|(first|exact Ent.refl _|exact inc_ent (by omega)|exact Ent.nil rfl|exact Ent.of_eq (congrArg (AV.osl _ _ _) (by omega))|exact Ent.of_eq (congrArg (AV.int _) (by omega)))|refine And.intro ?_ ?_)) (⟨obl_eq l0 (fun i hi=>by
                                                                                                     rw [e,hA0]
                                                                                                     exact wr1 (size:=4) hi),trivial⟩)) (fun x6=>?_)
  refine k_br (fun h7=>?_) (fun h7=>?_)
  ·have g7:=cnd_dec_t h7
   refine k_req (by omega) ?_
   refine k_gc (hc (Int.toNat (↑x6.1:Int)) (by omega) (A (x6.1)) (by exact hA _ (by omega)) (by (have q:=hA (x6.1+1) (by omega);rw [hE] at q;exact q))) ?_
   exact k_again (⟨x6.1+1,by omega⟩) (fun _ hs=>hs.le (⟨by exact Ent.refl _,by exact Ent.refl _,Ent.of_eq (congrArg (fun z=>AV.osl 1 1 0 (List.length z)) (hE x6.1).symm),by exact inc_ent (by omega),trivial⟩) (⟨obl_cg (hE x6.1),trivial⟩)) (by (dsimp only;omega))
  ·have g7:=cnd_dec_f h7
   exact k_outg (Ent.of_eq (congrArg (fun z=>AV.osl 1 1 0 (A z).length) (by omega))) (⟨obl_cg (congrArg A (by omega)),trivial⟩)
theorem write_int0 (n:Int):Gives Tryz.prog gl0 213 [] [.nsl,.agg [.int .i64 1,.int .i64 n,bys 0 (fun _=>0),.isl 4 0 (fun _ _=>.junk)]] (.osl 0 1 0 (It.int n).enc.length) [ilO .u8 (It.int n).enc]:=by
 have hw:=wu64_by n
 refine gives_sk (own:=ow3) (hand:=true) Tryz.func213 (by kernel_rfl) mixed (by kernel_rfl)
  (.ff (.req (1≤140737488355328) (.tt (.gc 256 ([⟨1,1,true,Rep.lst [[Zb (IntKind.wrap IntKind.u8 (1:Int))]]⟩]) ([AV.osl 0 1 0 1,Zu (IntKind.wrap IntKind.u64 n),Zi 8]) (AV.osl 1 1 0 (1+8)) ([none,some ⟨1,1+8,true,Rep.fn fun (i x:Nat)=>Zb (bif Nat.blt i 1 then IntKind.wrap IntKind.u8 (1:Int) else numB (IntKind.wrap IntKind.u64 n) 8 (i - 1))⟩]) (.out (AV.osl 0 1 0 9) ([some ⟨1,9,true,Rep.fn fun (i j:Nat)=>Zb (bif Nat.blt i 1 then IntKind.wrap IntKind.u8 (1:Int) else numB (IntKind.wrap IntKind.u64 n) 8 (i - 1))⟩]) (AV.osl 0 1 0 (List.length (It.enc (It.int n)))) ([ilO IntKind.u8 (It.enc (It.int n))]))))))
  (by kernel_rfl) ?_
 refine k_ff ?_
 refine k_req (by omega) ?_
 refine k_tt ?_
 refine k_gc (number_h (IntKind.wrap IntKind.u8 (1:Int)) (IntKind.wrap IntKind.u64 n) (by omega) (by omega) (8) (by omega) (by omega)) ?_
 exact k_outg (Ent.of_eq (congrArg (AV.osl 0 1 0) (int_len n).symm)) (⟨obl_eq (int_len n).symm (fun i hi=>enc1 (size:=8) hi),trivial⟩)
theorem write_byt0 (n:Nat) (f:Nat→Int) (hn:n≤16384):Gives Tryz.prog gl0 213 [] [.nsl,.agg [.int .i64 2,.int .i64 0,bys n f,.isl 4 0 (fun _ _=>.junk)]] (.osl 0 1 0 (It.byt n f).enc.length) [ilO .u8 (It.byt n f).enc]:=by
 have hw:=wu64_by n
 have e:IntKind.wrap .u64 (n:Int)=n:=wu64 (by omega) (by omega)
 refine gives_sk (own:=ow3) (hand:=true) Tryz.func213 (by kernel_rfl) mixed (by kernel_rfl)
  (.ff (.req (1≤140737488355328) (.ff (.tt (.gc 256 ([⟨1,1,true,Rep.lst [[Zb (IntKind.wrap IntKind.u8 (2:Int))]]⟩]) ([AV.osl 0 1 0 1,Zu (IntKind.wrap IntKind.u64 (↑n:Int)),Zi 4]) (AV.osl 1 1 0 (1+4)) ([none,some ⟨1,1+4,true,Rep.fn fun (i x:Nat)=>Zb (bif Nat.blt i 1 then IntKind.wrap IntKind.u8 (2:Int) else numB (IntKind.wrap IntKind.u64 (↑n:Int)) 4 (i - 1))⟩]) (.req ((5+n)*1≤140737488355328) (.out (AV.osl 0 1 0 (5+n)) ([some ⟨1,5+n,true,Rep.fn fun (i j:Nat)=>Zb (bif Nat.blt i 5 then bif Nat.blt i 1 then IntKind.wrap IntKind.u8 (2:Int) else numB (IntKind.wrap IntKind.u64 (↑n:Int)) 4 (i - 1) else f (i - 5))⟩]) (AV.osl 0 1 0 (List.length (It.enc (It.byt n f)))) ([ilO IntKind.u8 (It.enc (It.byt n f))]))))))))
  (by kernel_rfl) ?_
 refine k_ff ?_
 refine k_req (by omega) ?_
 refine k_ff ?_
 refine k_tt ?_
 refine k_gc (number_h (IntKind.wrap IntKind.u8 (2:Int)) (IntKind.wrap IntKind.u64 (↑n:Int)) (by omega) (by omega) (4) (by omega) (by omega)) ?_
 refine k_req (by omega) ?_
 exact k_outg (Ent.of_eq (congrArg (AV.osl 0 1 0) (byt_len n f).symm)) (⟨obl_eq (byt_len n f).symm (fun i hi=>by
                                                                                                     rw [e]
                                                                                                     exact enc2 hi),trivial⟩)
theorem write_lw0 (n:Nat) (c:Nat→It) (E A:Nat→List Int) (hn:n≤16384) (hA0:A 0=3::nbL n 4) (hE:∀ k,A (k+1)=A k++E k) (hA:∀ k,k≤n→(A k).length≤16384)
  (hc:∀ i,i<n→∀ l:List Int,l.length≤16384→(l++E i).length≤16384→Gives Tryz.prog gl0 213 [⟨1,l.length,true,.fn (ilF .u8 l)⟩] [.osl 0 1 0 l.length,(c i).av] (.osl 1 1 0 (l++E i).length) [none,ilO .u8 (l++E i)]) :
  Gives Tryz.prog gl0 213 [] [.nsl,.agg [.int .i64 3,.int .i64 0,bys 0 (fun _=>0),It.sl n c]] (.osl 0 1 0 (A n).length) [ilO .u8 (A n)]:=by
 have hw:=wu64_by n
 have e:IntKind.wrap .u64 (n:Int)=n:=wu64 (by omega) (by omega)
 have l0:1+4=(A 0).length:=by rw [hA0];simp [nbL_len]
 have ls:∀ k,(A (k+1)).length=(A k).length+(E k).length:=fun k=>by rw [hE,List.length_append]
 refine gives_sk (own:=ow3) (hand:=true) Tryz.func213 (by kernel_rfl) mixed (by kernel_rfl)
  (.ff (.req (1≤140737488355328) (.ff (.ff (.gc 256 ([⟨1,1,true,Rep.lst [[Zb (IntKind.wrap IntKind.u8 (3:Int))]]⟩]) ([AV.osl 0 1 0 1,Zu (IntKind.wrap IntKind.u64 (↑n:Int)),Zi 4]) (AV.osl 1 1 0 (1+4)) ([none,some ⟨1,1+4,true,Rep.fn fun (i x:Nat)=>Zb (bif Nat.blt i 1 then IntKind.wrap IntKind.u8 (3:Int) else numB (IntKind.wrap IntKind.u64 (↑n:Int)) 4 (i - 1))⟩]) (.loop ({ x:Nat // x≤n }) (fun (x:{ x:Nat // x≤n })=>mkSt [44,45,0,46] [AV.isl 4 n fun (i j:Nat)=>atL (It.cells (c i)) j,Zi (↑n:Int),AV.osl 0 1 0 (List.length (A (x.1))),Zi (↑(x.1):Int)] [ilO IntKind.u8 (A (x.1))]) (fun (x:{ x:Nat // x≤n })=>n - x.1) (⟨0,Nat.zero_le n⟩) ([44,45,0,46]) ([184]) ([AV.isl 4 n fun (i j:Nat)=>atL (It.cells (c i)) j,Zi (↑n:Int),AV.osl 0 1 0 5,Zi 0]) ([some ⟨1,5,true,Rep.fn fun (i j:Nat)=>Zb (bif Nat.blt i 1 then IntKind.wrap IntKind.u8 (3:Int) else numB (IntKind.wrap IntKind.u64 (↑n:Int)) 4 (i - 1))⟩]) (fun x5=>(.br (decide ((↑x5.1:Int)<(↑n:Int))) (.req ((0:Int)≤(↑x5.1:Int)∧(↑x5.1:Int)<(↑n:Int)) (.gc 213 ([⟨1,List.length (A (x5.1)),true,Rep.fn fun (i j:Nat)=>Zb (List.getD (A (x5.1)) i (0:Int))⟩]) ([AV.osl 0 1 0 (List.length (A (x5.1))),AV.agg [Zi (It.kind (c (Int.toNat (↑x5.1:Int)))),Zi (It.num (c (Int.toNat (↑x5.1:Int)))),AV.isl 1 (It.nb (c (Int.toNat (↑x5.1:Int)))) fun (i x:Nat)=>Zb (It.fb (c (Int.toNat (↑x5.1:Int))) i),AV.isl 4 (It.nl (c (Int.toNat (↑x5.1:Int)))) (It.row (c (Int.toNat (↑x5.1:Int))))]]) (AV.osl 1 1 0 (List.length (A (x5.1)++E (Int.toNat (↑x5.1:Int))))) ([none,ilO IntKind.u8 (A (x5.1)++E (Int.toNat (↑x5.1:Int)))]) (.again (Again 0 (fun (x:{ x:Nat // x≤n })=>mkSt [44,45,0,46] [AV.isl 4 n fun (i j:Nat)=>atL (It.cells (c i)) j,Zi (↑n:Int),AV.osl 0 1 0 (List.length (A (x.1))),Zi (↑(x.1):Int)] [ilO IntKind.u8 (A (x.1))]) (fun (x:{ x:Nat // x≤n })=>n - x.1) x5) ([44,45,0,46]) ([57]) ([AV.isl 4 n fun (i j:Nat)=>atL (It.cells (c i)) j,Zi (↑n:Int),AV.osl 0 1 0 (List.length (A (x5.1)++E (Int.toNat (↑x5.1:Int)))),Zi (IntKind.wrap IntKind.i64 ((↑x5.1:Int)+1))]) ([some ⟨1,List.length (A (x5.1)++E (Int.toNat (↑x5.1:Int))),true,Rep.fn fun (i j:Nat)=>Zb (List.getD (A (x5.1)++E (Int.toNat (↑x5.1:Int))) i (0:Int))⟩])))) (.out (AV.osl 0 1 0 (List.length (A (x5.1)))) ([some ⟨1,List.length (A (x5.1)),true,Rep.fn fun (i j:Nat)=>Zb (List.getD (A (x5.1)) i (0:Int))⟩]) (AV.osl 0 1 0 (List.length (A n))) ([ilO IntKind.u8 (A n)]))))))))))
  (by kernel_rfl) ?_
 refine k_ff ?_
 refine k_req (by omega) ?_
 refine k_ff ?_
 refine k_ff ?_
 refine k_gc (number_h (IntKind.wrap IntKind.u8 (3:Int)) (IntKind.wrap IntKind.u64 (↑n:Int)) (by omega) (by omega) (4) (by omega) (by omega)) ?_
 refine k_loop (fun _ hs=>hs.le (by repeat' (first|exact trivial|(first|exact Ent.refl _|exact inc_ent (by omega)|exact Ent.nil rfl|exact Ent.of_eq (congrArg (AV.osl _ _ _) (by omega))|exact Ent.of_eq (congrArg (AV.int _) (by omega)))|refine And.intro ?_ ?_)) (⟨obl_eq l0 (fun i hi=>by
                                                                                                     rw [e,hA0]
                                                                                                     exact enc1 (size:=4) hi),trivial⟩)) (fun x5=>?_)
 refine k_br (fun h6=>?_) (fun h6=>?_)
 ·have g6:=cnd_dec_t h6
  refine k_req (by omega) ?_
  refine k_gc (hc (Int.toNat (↑x5.1:Int)) (by omega) (A (x5.1)) (by exact hA _ (by omega)) (by (have q:=hA (x5.1+1) (by omega);rw [hE] at q;exact q))) ?_
  exact k_again (⟨x5.1+1,by omega⟩) (fun _ hs=>hs.le (⟨by exact Ent.refl _,by exact Ent.refl _,Ent.of_eq (congrArg (fun z=>AV.osl 0 1 0 (List.length z)) (hE x5.1).symm),by exact inc_ent (by omega),trivial⟩) (⟨obl_cg (hE x5.1),trivial⟩)) (by (dsimp only;omega))
 ·have g6:=cnd_dec_f h6
  exact k_outg (Ent.of_eq (congrArg (fun z=>AV.osl 0 1 0 (A z).length) (by omega))) (⟨obl_cg (congrArg A (by omega)),trivial⟩)
theorem write_c:∀ (x:It) (l:List Int),l.length≤16384→(l++x.enc).length≤16384→Gives Tryz.prog gl0 213 [⟨1,l.length,true,.fn (ilF .u8 l)⟩] [.osl 0 1 0 l.length,x.av] (.osl 1 1 0 (l++x.enc).length) [none,ilO .u8 (l++x.enc)]
 | .int n,l,h,_=>write_int l n h
 | .byt n f,l,h,h'=>write_byt l n f h (by rw [← wr_byt] at h';omega)
 | .li n c,l,h,h'=>by
  have hA:∀ k,k≤n→(l++It.encP n c k).length≤16384:=fun k hk=>by
   have:=It.encP_le n c hk
   rw [It.enc_li,List.length_append] at h'
   rw [List.length_append]
   omega
  exact write_lw l n c (fun i=>(c i).enc) (fun k=>l++It.encP n c k) h (by have:=It.encP_len n c n;have:=hA n (Nat.le_refl _);rw [List.length_append] at this;omega) (by rw [It.encP_zero]) (fun k=>by rw [It.encP_succ,List.append_assoc]) hA
   (fun i hi l h h'=>write_c (c i) l h h')
theorem write_n:∀ x:It,x.enc.length≤16384→Gives Tryz.prog gl0 213 [] [.nsl,x.av] (.osl 0 1 0 x.enc.length) [ilO .u8 x.enc]
 | .int n,_=>write_int0 n
 | .byt n f,h=>write_byt0 n f (by rw [byt_len] at h;omega)
 | .li n c,h=>write_lw0 n c (fun i=>(c i).enc) (It.encP n c) (by have:=It.encP_len n c n;rw [It.enc_li] at h;omega) (It.encP_zero n c) (It.encP_succ n c) (fun k hk=>Nat.le_trans (It.encP_le n c hk) h)
   (fun i _ l h h'=>write_c (c i) l h h')
theorem within1_w (x:It) (d:Int) (b:Bool) (hd:0<d∧d≤8) (h:Pure Tryz.prog gl0 255 [x.av,.int .i64 (d - 1)] (.bool b)):Pure Tryz.prog gl0 278 [x.av,.ipt 1 (atL [.int .i64 d])] (.bool (!b)):=by
 have hw:IntKind.wrap .i64 (d - 1)=d - 1:=wI (by omega) (by omega)
 rw [← hw] at h
 refine pure_sk (own:=ow0) Tryz.func278 (by kernel_rfl) mixed (by kernel_rfl)
  (.sc (true) 255 ([AV.agg [Zi (It.kind x),Zi (It.num x),AV.isl 1 (It.nb x) fun (i x_1:Nat)=>Zb (It.fb x i),AV.isl 4 (It.nl x) (It.row x)],Zi (IntKind.wrap IntKind.i64 (d - 1))]) (AV.bool b) (.out (AV.bool !b) [] (AV.bool !b) []))
  (by kernel_rfl) ?_
 refine k_sc (h) ?_
 exact k_out (Ent.refl _)
theorem indexI_w (n:Nat) (c:Nat→It) (d:Int) (p:Nat→Bool) (hn:n≤1000) (hc:∀ i,i<n→Pure Tryz.prog gl0 278 [(c i).av,.ipt 1 (atL [.int .i64 d])] (.bool (p i))) :
  Pure Tryz.prog gl0 291 [It.sl n c,.fn (.func 278) [] [.ipt 1 (atL [.int .i64 d])]] (.int .i64 (firstI p n 0)):=by
 refine pure_sk (own:=ow0) Tryz.func291 (by kernel_rfl) mixed (by kernel_rfl)
  (let y0:List AV:=[AV.ipt 1 (atL [Zi d])];(.loop ({ x:Nat // x≤n∧(fun (i:Nat)=>firstI p n 0=firstI p (n - i) i) x }) (fun (x:{ x:Nat // x≤n∧(fun (i:Nat)=>firstI p n 0=firstI p (n - i) i) x })=>mkSt [0,1,7,8] [AV.isl 4 n fun (i j:Nat)=>atL (It.cells (c i)) j,AV.fn (Fn.func (278:FuncId)) [] y0,Zi (↑n:Int),Zi (↑(x.1):Int)] []) (fun (x:{ x:Nat // x≤n∧(fun (i:Nat)=>firstI p n 0=firstI p (n - i) i) x })=>n - x.1) (⟨0,⟨Nat.zero_le n,rfl⟩⟩) ([0,1,7,8]) ([]) ([AV.isl 4 n fun (i j:Nat)=>atL (It.cells (c i)) j,AV.fn (Fn.func (278:FuncId)) [] y0,Zi (↑n:Int),Zi 0]) ([]) (fun x0=>(.br (decide ((↑x0.1:Int)<(↑n:Int))) (.req ((0:Int)≤(↑x0.1:Int)∧(↑x0.1:Int)<(↑n:Int)) (.sc (true) 278 ([AV.agg [Zi (It.kind (c (Int.toNat (↑x0.1:Int)))),Zi (It.num (c (Int.toNat (↑x0.1:Int)))),AV.isl 1 (It.nb (c (Int.toNat (↑x0.1:Int)))) fun (i x:Nat)=>Zb (It.fb (c (Int.toNat (↑x0.1:Int))) i),AV.isl 4 (It.nl (c (Int.toNat (↑x0.1:Int)))) (It.row (c (Int.toNat (↑x0.1:Int))))],AV.ipt 1 (atL [Zi d])]) (AV.bool (p (Int.toNat (↑x0.1:Int)))) (.br (p (Int.toNat (↑x0.1:Int))) (.out (Zi (↑x0.1:Int)) [] (Zi (firstI p n 0)) []) (.again (Again 0 (fun (x:{ x:Nat // x≤n∧(fun (i:Nat)=>firstI p n 0=firstI p (n - i) i) x })=>mkSt [0,1,7,8] [AV.isl 4 n fun (i j:Nat)=>atL (It.cells (c i)) j,AV.fn (Fn.func (278:FuncId)) [] y0,Zi (↑n:Int),Zi (↑(x.1):Int)] []) (fun (x:{ x:Nat // x≤n∧(fun (i:Nat)=>firstI p n 0=firstI p (n - i) i) x })=>n - x.1) x0) ([0,1,7,8]) ([]) ([AV.isl 4 n fun (i j:Nat)=>atL (It.cells (c i)) j,AV.fn (Fn.func (278:FuncId)) [] y0,Zi (↑n:Int),Zi (IntKind.wrap IntKind.i64 ((↑x0.1:Int)+1))]) ([]))))) (.out (Zi (-1)) [] (Zi (firstI p n 0)) [])))))
  (by kernel_rfl) ?_
 refine k_loop (fun _ hs=>hs.le (⟨.refl _,.refl _,.refl _,.refl _,trivial⟩) (trivial)) (fun x0=>?_)
 try (have q0:=x0.2;dsimp only at q0)
 refine k_br (fun h1=>?_) (fun h1=>?_)
 ·have g1:=cnd_dec_t h1
  refine k_req (by omega) ?_
  refine k_sc (hc (Int.toNat (↑x0.1:Int)) (by omega)) ?_
  refine k_br (fun h4=>?_) (fun h4=>?_)
  ·have g4:=cnd_id_t h4
   try simp only [Int.toNat_natCast] at g4
   exact k_out (Ent.of_eq (congrArg _ (first_hit x0.2.2 (by omega) g4)))
  ·have g4:=cnd_id_f h4
   try simp only [Int.toNat_natCast] at g4
   exact k_again (⟨x0.1+1,by omega,first_next x0.2.2 (by omega) g4⟩) (fun _ hs=>hs.le (⟨.refl _,.refl _,.refl _,inc_ent (by omega),trivial⟩) (trivial)) (by dsimp only;omega)
 ·have g1:=cnd_dec_f h1
  exact k_out (Ent.of_eq (congrArg _ (first_miss x0.2.2 (by omega))))
theorem containsI_w (n:Nat) (c:Nat→It) (d:Int) (p:Nat→Bool) (hn:n≤1000) (hc:∀ i,i<n→Pure Tryz.prog gl0 278 [(c i).av,.ipt 1 (atL [.int .i64 d])] (.bool (p i))) :
  Pure Tryz.prog gl0 277 [It.sl n c,.fn (.func 278) [] [.ipt 1 (atL [.int .i64 d])]] (.bool (decide (firstI p n 0≥0))):=by
 refine pure_sk (own:=ow0) Tryz.func277 (by kernel_rfl) mixed (by kernel_rfl)
  (let y0:AV:=(AV.bool (decide (firstI p n 0≥0)));(.sc (true) 291 ([AV.isl 4 n fun (i j:Nat)=>atL (It.cells (c i)) j,AV.fn (Fn.func (278:FuncId)) [] [AV.ipt 1 (atL [Zi d])]]) (Zi (firstI p n 0)) (.out y0 [] y0 [])))
  (by kernel_rfl) ?_
 refine k_sc ((indexI_w n c d p hn hc)) ?_
 exact k_out (Ent.refl _)
theorem within_int (n d:Int):Pure Tryz.prog gl0 255 [.agg [.int .i64 1,.int .i64 n,bys 0 (fun _=>0),.isl 4 0 (fun _ _=>.junk)],.int .i64 d] (.bool true):=by
 refine pure_sk (own:=ow0) Tryz.func255 (by kernel_rfl) mixed (by kernel_rfl)
  (.tt (.out (AV.bool true) [] (AV.bool true) []))
  (by kernel_rfl) ?_
 refine k_tt ?_
 exact k_out (Ent.refl _)
theorem within_byt (n:Nat) (f:Nat→Int) (d:Int):Pure Tryz.prog gl0 255 [.agg [.int .i64 2,.int .i64 0,bys n f,.isl 4 0 (fun _ _=>.junk)],.int .i64 d] (.bool true):=by
 refine pure_sk (own:=ow0) Tryz.func255 (by kernel_rfl) mixed (by kernel_rfl)
  (.ff (.tt (.out (AV.bool true) [] (AV.bool true) [])))
  (by kernel_rfl) ?_
 refine k_ff ?_
 refine k_tt ?_
 exact k_out (Ent.refl _)
theorem within_lw (n:Nat) (c:Nat→It) (d:Int) (p:Nat→Bool) (hn:n<9223372036854775808) (hc:0<d→n≤1000→Pure Tryz.prog gl0 277 [It.sl n c,.fn (.func 278) [] [.ipt 1 (atL [.int .i64 d])]] (.bool (decide (firstI p n 0≥0)))) :
  Pure Tryz.prog gl0 255 [.agg [.int .i64 3,.int .i64 0,bys 0 (fun _=>0),It.sl n c],.int .i64 d] (.bool (decide (0<d)&&Nat.ble n 1000&&(List.range n).all (fun i => !p i))):=by
 refine pure_sk (own:=ow0) Tryz.func255 (by kernel_rfl) mixed (by kernel_rfl)
  (.ff (.ff (.tt (.sc ((decide (d>0)&&decide ((↑n:Int)≤1000))==true) 277 ([AV.isl 4 n fun (i j:Nat)=>atL (It.cells (c i)) j,AV.fn (Fn.func 278) [] [AV.ipt 1 fun (k:Nat)=>atL [Zi d] k]]) (AV.bool (decide (firstI p n 0≥0))) (.out (AV.bool (decide (d>0)&&decide ((↑n:Int)≤1000) && !decide (firstI p n 0≥0))) [] (AV.bool (decide ((0:Int)<d)&&Nat.ble n 1000&&List.all (List.range n) fun (i:Nat) => !p i)) [])))))
  (by kernel_rfl) ?_
 refine k_ff ?_
 refine k_ff ?_
 refine k_tt ?_
 refine k_scg (fun h3=>hc (by simp at h3;omega) (by simp at h3;omega)) ?_
 exact k_out (Ent.of_eq (congrArg _ (li_ok d n p)))
theorem within_c:∀ (x:It) (d:Int),0≤d∧d≤8→x.enc.length≤1099511627776→Pure Tryz.prog gl0 255 [x.av,.int .i64 d] (.bool (x.okD d))
 | .int n,d,_,_=>within_int n d
 | .byt n f,d,_,_=>within_byt n f d
 | .li n c,d,hd,hn=>by
  have h:=within_lw n c d (fun i => !(c i).okD (d - 1)) (by have:=It.encP_len n c n;rw [It.enc_li] at hn;omega) (fun h1 h2=>containsI_w n c d _ h2 (fun i hi=>within1_w (c i) d _ ⟨h1,hd.2⟩ (within_c (c i) (d - 1) (by omega) (by have:=It.enc_child (c:=c) hi;omega))))
  simp only [Bool.not_not] at h
  exact h
theorem valid_c (x:It) (h:x.enc.length≤1099511627776):Pure Tryz.prog gl0 212 [.agg [.int .i64 x.kind,.int .i64 x.num,bys x.nb x.fb,.isl 4 x.nl x.row]] (.bool (x.okD 8)):=by
 have hw:=within_c x 8 (by omega) h
 refine pure_sk (own:=ow0) Tryz.func212 (by kernel_rfl) mixed (by kernel_rfl)
  (let y0:AV:=(AV.bool (It.okD x (8:Int)));(.sc (true) 255 ([AV.agg [Zi (It.kind x),Zi (It.num x),AV.isl 1 (It.nb x) fun (i x_1:Nat)=>Zb (It.fb x i),AV.isl 4 (It.nl x) (It.row x)],Zi 8]) y0 (.out y0 [] y0 [])))
  (by kernel_rfl) ?_
 refine k_sc (hw) ?_
 exact k_out (Ent.refl _)
theorem encode_c (x:It) (h:x.okD 8=true) (hl:x.enc.length≤16384):Pure Tryz.prog gl0 140 [x.av] (.tup [il .u8 x.enc,.int .i64 0]):=by
 have hv:=valid_c x (by omega)
 rw [h] at hv
 have hn:=write_n x hl
 refine pure_sk (own:=ow3) Tryz.func140 (by kernel_rfl) mixed (by kernel_rfl)
  (let y0:List AV:=[Zi (It.kind x),Zi (It.num x),AV.isl 1 (It.nb x) fun (i x_1:Nat)=>Zb (It.fb x i),AV.isl 4 (It.nl x) (It.row x)];let y1:AV:=(AV.tup [il IntKind.u8 (It.enc x),Zi 0]);(.sc (true) 212 ([AV.agg y0]) (AV.bool true) (.ff (.gc 213 ([]) ([AV.nsl,AV.agg y0]) (AV.osl 0 1 0 (List.length (It.enc x))) ([ilO IntKind.u8 (It.enc x)]) (.br (decide ((↑(List.length (It.enc x)):Int)>16384)) (.out (AV.tup [AV.nsl,Zi 5]) [] y1 []) (.out (AV.tup [AV.isl 1 (List.length (It.enc x)) fun (r k:Nat)=>Zb (List.getD (It.enc x) (r+0) (0:Int)),Zi 0]) [] y1 []))))))
  (by kernel_rfl) ?_
 refine k_sc (hv) ?_
 refine k_ff ?_
 refine k_gc (hn) ?_
 refine k_br (fun h3=>?_) (fun h3=>?_)
 ·have g3:=cnd_dec_t h3
  exact k_out ((by exfalso;omega))
 ·have g3:=cnd_dec_f h3
  exact k_out (Ent.of_eq rfl)
theorem ints_c (l:List Int) (hl:l.length≤1000000):Pure Tryz.prog gl0 143 [il .i64 l] (intsI l).av:=by
 refine pure_sk (own:=ow0) Tryz.func143 (by kernel_rfl) mixed (by kernel_rfl)
  (let y0:List AV:=[Zi 0,Zi 0,AV.nsl,AV.nsl];(.loop ({ x:Nat // x≤List.length l }) (fun (x:{ x:Nat // x≤List.length l })=>mkSt [2,3,7,8,9] [AV.own 0 4 0 0 4,AV.own 1 4 0 0 4,AV.isl 1 (List.length l) fun (i x:Nat)=>Zi (List.getD l i (0:Int)),Zi (↑(List.length l):Int),Zi (↑(x.1):Int)] [some ⟨4,1,true,Rep.lst [y0]⟩,some ⟨4,1,true,Rep.lst [[Zi 3,Zi 0,AV.nsl,AV.osl 2 4 0 (x.1)]]⟩,some ⟨4,x.1,true,Rep.row fun (i:Nat)=>It.cells (It.int (List.getD l i (0:Int)))⟩]) (fun (x:{ x:Nat // x≤List.length l })=>List.length l - x.1) (⟨0,Nat.zero_le (List.length l)⟩) ([2,3,7,8,9]) ([0,16,1082]) ([AV.own 0 4 0 0 4,AV.own 1 4 0 0 4,AV.isl 1 (List.length l) fun (i x:Nat)=>Zi (List.getD l i (0:Int)),Zi (↑(List.length l):Int),Zi 0]) ([some ⟨4,1,true,Rep.lst [y0]⟩,some ⟨4,1,true,Rep.lst [[Zi 3,Zi 0,AV.nsl,AV.nsl]]⟩,some ⟨4,0,true,Rep.lst []⟩]) (fun x0=>(.br (decide ((↑x0.1:Int)<(↑(List.length l):Int))) (.req ((0:Int)≤(↑x0.1:Int)∧(↑x0.1:Int)<(↑(List.length l):Int)) (.req ((x0.1+1)*64≤140737488355328) (.again (Again 0 (fun (x:{ x:Nat // x≤List.length l })=>mkSt [2,3,7,8,9] [AV.own 0 4 0 0 4,AV.own 1 4 0 0 4,AV.isl 1 (List.length l) fun (i x:Nat)=>Zi (List.getD l i (0:Int)),Zi (↑(List.length l):Int),Zi (↑(x.1):Int)] [some ⟨4,1,true,Rep.lst [y0]⟩,some ⟨4,1,true,Rep.lst [[Zi 3,Zi 0,AV.nsl,AV.osl 2 4 0 (x.1)]]⟩,some ⟨4,x.1,true,Rep.row fun (i:Nat)=>It.cells (It.int (List.getD l i (0:Int)))⟩]) (fun (x:{ x:Nat // x≤List.length l })=>List.length l - x.1) x0) ([2,3,7,8,9]) ([0,1,75]) ([AV.own 0 4 0 0 4,AV.own 1 4 0 0 4,AV.isl 1 (List.length l) fun (i x:Nat)=>Zi (List.getD l i (0:Int)),Zi (↑(List.length l):Int),Zi (IntKind.wrap IntKind.i64 ((↑x0.1:Int)+1))]) ([some ⟨4,1,true,Rep.lst [y0]⟩,some ⟨4,1,true,Rep.lst [[Zi 3,Zi 0,AV.nsl,AV.osl 2 4 0 (x0.1+1)]]⟩,some ⟨4,x0.1+1,true,Rep.cat x0.1 (Rep.row fun (i:Nat)=>[Zi (It.kind (It.int (List.getD l i (0:Int)))),Zi (It.num (It.int (List.getD l i (0:Int)))),AV.isl 1 0 fun (i_1 x:Nat)=>Zb (It.fb (It.int (List.getD l i (0:Int))) i_1),AV.isl 4 0 (It.row (It.int (List.getD l i (0:Int))))]) (Rep.lst [[Zi 1,Zi (List.getD l (Int.toNat (↑(x0.1):Int)) (0:Int)),AV.nsl,AV.nsl]])⟩])))) (.out (AV.agg [Zi 3,Zi 0,AV.nsl,AV.isl 4 x0.1 fun (r k:Nat)=>atL [Zi (It.kind (It.int (List.getD l (r+0) (0:Int)))),Zi (It.num (It.int (List.getD l (r+0) (0:Int)))),AV.isl 1 0 fun (i x:Nat)=>Zb (It.fb (It.int (List.getD l (r+0) (0:Int))) i),AV.isl 4 0 (It.row (It.int (List.getD l (r+0) (0:Int))))] k]) [] (It.av (intsI l)) [])))))
  (by kernel_rfl) ?_
 refine k_loop (fun _ hs=>hs.le (⟨.refl _,.refl _,.refl _,.refl _,.refl _,trivial⟩) (by repeat' (first|exact trivial|(first|exact ObEnt.refl _|exact ObEnt.junk|exact ObEnt.zero|exact ObEnt.push rfl rfl|exact ObEnt.pushRow rfl|exact ObEnt.len (by omega)|exact ObEnt.row (by repeat' (first|exact trivial|(first|exact Ent.refl _|exact inc_ent (by omega)|exact Ent.nil rfl|exact Ent.of_eq (congrArg (AV.osl _ _ _) (by first|omega|(dsimp only;omega)))|exact Ent.of_eq (congrArg (AV.int _) (by first|omega|(dsimp only;omega))))|refine And.intro ?_ ?_)))|refine And.intro ?_ ?_))) (fun x0=>?_)
 try (have q0:=x0.2;dsimp only at q0)
 refine k_br (fun h1=>?_) (fun h1=>?_)
 ·have g1:=cnd_dec_t h1
  refine k_req (by omega) ?_
  refine k_req (by omega) ?_
  exact k_again (⟨x0.1+1,by omega⟩) (fun _ hs=>hs.le (⟨.refl _,.refl _,.refl _,.refl _,inc_ent (by omega),trivial⟩) (⟨.refl _,.refl _,int_push rfl rfl,trivial⟩)) (by dsimp only;omega)
 ·have g1:=cnd_dec_f h1
  exact k_out (ints_out (by omega))
theorem ints_2 (a b:Int):Pure Tryz.prog gl0 143 [.isl 1 2 fun r k=>atL (List.getD [[.int .i64 a],[.int .i64 b]] r []) k] (intsI [a,b]).av :=
 (ints_c [a,b] (by simp)).via ⟨il_rows rfl rfl,trivial⟩
theorem ints_4 (a0 a1 a2 a3:Int):Pure Tryz.prog gl0 143 [.isl 1 4 fun r k=>atL (List.getD [[.int .i64 a0],[.int .i64 a1],[.int .i64 a2],[.int .i64 a3]] r []) k] (intsI [a0,a1,a2,a3]).av:=(ints_c [a0,a1,a2,a3] (by simp)).via ⟨il_rows rfl rfl,trivial⟩
theorem ints_5 (a0 a1 a2 a3 a4:Int):Pure Tryz.prog gl0 143 [.isl 1 5 fun r k=>atL (List.getD [[.int .i64 a0],[.int .i64 a1],[.int .i64 a2],[.int .i64 a3],[.int .i64 a4]] r []) k] (intsI [a0,a1,a2,a3,a4]).av:=(ints_c [a0,a1,a2,a3,a4] (by simp)).via ⟨il_rows rfl rfl,trivial⟩
theorem cloneU_n:Pure Tryz.prog gl0 171 [.nsl] .nsl:=by
 refine pure_sk (own:=ow0) Tryz.func171 (by kernel_rfl) mixed (by kernel_rfl)
  (.tt (.out (AV.nsl) [] (AV.nsl) []))
  (by kernel_rfl) ?_
 refine k_tt ?_
 exact k_out (Ent.refl _)
theorem cloneU_s (f:Nat→Int) (n:Nat) (hn:n≤1099511627776):Pure Tryz.prog gl0 171 [.nn (bys n f)] (bys n f):=by
 refine pure_sk (own:=ow0) Tryz.func171 (by kernel_rfl) mixed (by kernel_rfl)
  (.ff (.req ((0+n)*1≤140737488355328) (.out (AV.isl 1 (0+n) fun (r k:Nat)=>Zb (f (r+0))) [] (bys n f) [])))
  (by kernel_rfl) ?_
 refine k_ff ?_
 refine k_req (by omega) ?_
 exact k_out (bys_eq (by omega) (fun i _=>rfl))
theorem cloneU_c (f:Nat→Int) (n:Nat) (hn:n≤1099511627776):Pure Tryz.prog gl0 171 [bys n f] (bys n f) :=
 Gives.nilSplit [] [] 1 n _ (fun h=>by subst h;exact cloneU_n.ent Ent.nsl) (cloneU_s f n hn)
theorem bytes_c (f:Nat→Int):Pure Tryz.prog gl0 142 [.agg (u8c f)] (It.byt 32 f).av:=by
 refine pure_sk (own:=ow0) Tryz.func142 (by kernel_rfl) mixed (by kernel_rfl)
  (.dc (true) 171 ([AV.isl 1 32 fun (r x:Nat)=>Zb (intOfAV (atL (u8c f) (0+(0+r))))]) (bys 32 fun (i:Nat)=>intOfAV (atL (u8c f) (0+(0+i)))) (.out (AV.agg [Zi 2,Zi 0,AV.isl 1 32 fun (i x:Nat)=>Zb (intOfAV (atL (u8c f) (0+(0+i)))),AV.nsl]) [] (It.av (It.byt 32 f)) []))
  (by kernel_rfl) ?_
 refine k_dc (cloneU_c (fun (i:Nat)=>intOfAV (atL (u8c f) (0+(0+i)))) (32) (by omega)) ?_
 exact k_out (Ent.agg ⟨Ent.refl _,Ent.refl _,bys_eq rfl (fun i hi=>by rw [Nat.zero_add,Nat.zero_add];exact u8c_at hi),Ent.nsl,trivial⟩)
theorem list_c (n:Nat) (f:Nat→Nat→AV):Pure Tryz.prog gl0 141 [.isl 4 n f] (.agg [.int .i64 3,.int .i64 0,.nsl,.isl 4 n f]):=by
 refine pure_sk (own:=ow0) Tryz.func141 (by kernel_rfl) mixed (by kernel_rfl)
  (let y0:AV:=(AV.agg [Zi 3,Zi 0,AV.nsl,AV.isl 4 n f]);(.out y0 [] y0 []))
  (by kernel_rfl) ?_
 exact k_out (Ent.refl _)
def ow4:FuncId→Option (List Bool):=fun f=>bif Nat.beq f 230 then some [true,false] else bif Nat.beq f 231 then some [true,false] else none
theorem wints_5 (a0 a1 a2 a3 a4:Int):Gives Tryz.prog gl0 230 [⟨1,1,true,.lst [[.nsl]]⟩] [.own 0 1 0 0 1,.isl 1 5 fun r k=>atL (List.getD [[.int .i64 a0],[.int .i64 a1],[.int .i64 a2],[.int .i64 a3],[.int .i64 a4]] r []) k] .junk [some ⟨1,1,true,.lst [[.osl 1 4 0 1]]⟩,some ⟨4,1,true,.lst [(intsI [a0,a1,a2,a3,a4]).cells]⟩]:=by
 refine gives_sk (own:=ow0) (hand:=true) Tryz.func230 (by kernel_rfl) mixed (by kernel_rfl)
  (.dc (true) 143 ([AV.isl 1 5 fun (r k:Nat)=>atL (List.getD [[Zi a0],[Zi a1],[Zi a2],[Zi a3],[Zi a4]] r []) k]) (It.av (intsI [a0,a1,a2,a3,a4])) (.req (64≤140737488355328) (.req ((0:Int)≤0∧(0:Int)<(↑(1):Int)) (.out (AV.tup []) ([some ⟨1,1,true,Rep.lst [[AV.osl 1 4 0 1]]⟩,some ⟨4,1,true,Rep.lst [[Zi (It.kind (intsI [a0,a1,a2,a3,a4])),Zi (It.num (intsI [a0,a1,a2,a3,a4])),AV.isl 1 0 fun (i x:Nat)=>Zb (It.fb (intsI [a0,a1,a2,a3,a4]) i),AV.isl 4 5 (It.row (intsI [a0,a1,a2,a3,a4]))]]⟩]) (AV.junk) ([some ⟨1,1,true,Rep.lst [[AV.osl 1 4 0 1]]⟩,some ⟨4,1,true,Rep.lst [It.cells (intsI [a0,a1,a2,a3,a4])]⟩])))))
  (by kernel_rfl) ?_
 refine k_dc (ints_5 (a0) (a1) (a2) (a3) (a4)) ?_
 refine k_req (by omega) ?_
 refine k_req (by omega) ?_
 exact k_outg (Ent.junk _) (⟨.refl _,.refl _,trivial⟩)
theorem wbytes_1 (x:It) (f:Nat→Int):Gives Tryz.prog gl0 231 [⟨1,1,true,.lst [[.osl 1 4 0 1]]⟩,⟨4,1,true,.lst [x.cells]⟩] [.own 0 1 0 0 1,bys 32 f] .junk [some ⟨1,1,true,.lst [[.osl 2 4 0 2]]⟩,none,some ⟨4,2,true,.lst [x.cells,(It.byt 32 f).cells]⟩]:=by
 refine gives_sk (own:=ow0) (hand:=true) Tryz.func231 (by kernel_rfl) mixed (by kernel_rfl)
  (.dc (true) 171 ([AV.isl 1 32 fun (i x:Nat)=>Zb (f i)]) (bys 32 f) (.req (128≤140737488355328) (.req ((0:Int)≤(↑(1):Int)∧(↑(1):Int)<(↑(2):Int)) (.out (AV.tup []) ([some ⟨1,1,true,Rep.lst [[AV.osl 2 4 0 2]]⟩,none,some ⟨4,2,true,Rep.lst [[Zi (It.kind x),Zi (It.num x),AV.isl 1 (It.nb x) fun (i x_1:Nat)=>Zb (It.fb x i),AV.isl 4 (It.nl x) (It.row x)],[Zi 2,Zi 0,AV.isl 1 32 fun (i x:Nat)=>Zb (f i),AV.nsl]]⟩]) (AV.junk) ([some ⟨1,1,true,Rep.lst [[AV.osl 2 4 0 2]]⟩,none,some ⟨4,2,true,Rep.lst [It.cells x,It.cells (It.byt 32 f)]⟩])))))
  (by kernel_rfl) ?_
 refine k_dc (cloneU_c (f) (32) (by omega)) ?_
 refine k_req (by omega) ?_
 refine k_req (by omega) ?_
 exact k_outg (Ent.junk _) (⟨ObEnt.refl _,row2_ob (EntL.refl _) (byt_row 32 f),trivial⟩)
theorem wints_2 (x y:It) (a0 a1 a2 a3:Int):Gives Tryz.prog gl0 230 [⟨1,1,true,.lst [[.osl 1 4 0 2]]⟩,⟨4,2,true,.lst [x.cells,y.cells]⟩] [.own 0 1 0 0 1,.isl 1 4 fun r k=>atL (List.getD [[.int .i64 a0],[.int .i64 a1],[.int .i64 a2],[.int .i64 a3]] r []) k] .junk [some ⟨1,1,true,.lst [[.osl 2 4 0 3]]⟩,none,some ⟨4,3,true,.lst [x.cells,y.cells,(intsI [a0,a1,a2,a3]).cells]⟩]:=by
 refine gives_sk (own:=ow0) (hand:=true) Tryz.func230 (by kernel_rfl) mixed (by kernel_rfl)
  (.dc (true) 143 ([AV.isl 1 4 fun (r k:Nat)=>atL (List.getD [[Zi a0],[Zi a1],[Zi a2],[Zi a3]] r []) k]) (It.av (intsI [a0,a1,a2,a3])) (.req (192≤140737488355328) (.req ((0:Int)≤(↑(2):Int)∧(↑(2):Int)<(↑(3):Int)) (.out (AV.tup []) ([some ⟨1,1,true,Rep.lst [[AV.osl 2 4 0 3]]⟩,none,some ⟨4,3,true,Rep.lst [[Zi (It.kind x),Zi (It.num x),AV.isl 1 (It.nb x) fun (i x_1:Nat)=>Zb (It.fb x i),AV.isl 4 (It.nl x) (It.row x)],[Zi (It.kind y),Zi (It.num y),AV.isl 1 (It.nb y) fun (i x:Nat)=>Zb (It.fb y i),AV.isl 4 (It.nl y) (It.row y)],[Zi (It.kind (intsI [a0,a1,a2,a3])),Zi (It.num (intsI [a0,a1,a2,a3])),AV.isl 1 0 fun (i x:Nat)=>Zb (It.fb (intsI [a0,a1,a2,a3]) i),AV.isl 4 4 (It.row (intsI [a0,a1,a2,a3]))]]⟩]) (AV.junk) ([some ⟨1,1,true,Rep.lst [[AV.osl 2 4 0 3]]⟩,none,some ⟨4,3,true,Rep.lst [It.cells x,It.cells y,It.cells (intsI [a0,a1,a2,a3])]⟩])))))
  (by kernel_rfl) ?_
 refine k_dc (ints_4 (a0) (a1) (a2) (a3)) ?_
 refine k_req (by omega) ?_
 refine k_req (by omega) ?_
 exact k_outg (Ent.junk _) (⟨.refl _,.refl _,trivial⟩)
theorem citem_w (c:Coin):Pure Tryz.prog gl0 172 [c.av] c.it.av:=by
 refine pure_sk (own:=ow4) Tryz.func172 (by kernel_rfl) mixed (by kernel_rfl)
  (let y0:List AV:=[Zi (It.kind (intsI [c.1,c.2,c.3,c.4,c.5])),Zi (It.num (intsI [c.1,c.2,c.3,c.4,c.5])),AV.isl 1 0 fun (i x:Nat)=>Zb (It.fb (intsI [c.1,c.2,c.3,c.4,c.5]) i),AV.isl 4 5 (It.row (intsI [c.1,c.2,c.3,c.4,c.5]))];let y1:List AV:=[Zi (It.kind (It.byt 32 fun (i:Nat)=>intOfAV (atL (Coin.cells c) (5+(0+i))))),Zi (It.num (It.byt 32 fun (i:Nat)=>intOfAV (atL (Coin.cells c) (5+(0+i))))),AV.isl 1 32 fun (i x:Nat)=>Zb (It.fb (It.byt 32 fun (i:Nat)=>intOfAV (atL (Coin.cells c) (5+(0+i)))) i),AV.isl 4 0 (It.row (It.byt 32 fun (i:Nat)=>intOfAV (atL (Coin.cells c) (5+(0+i)))))];(.gc 230 ([⟨1,1,true,Rep.lst [[AV.nsl]]⟩]) ([AV.own 0 1 0 0 1,AV.isl 1 5 fun (r k:Nat)=>atL (List.getD [[Zi c.1],[Zi c.2],[Zi c.3],[Zi c.4],[Zi c.5]] (r+0) []) k]) (AV.junk) ([some ⟨1,1,true,Rep.lst [[AV.osl 1 4 0 1]]⟩,some ⟨4,1,true,Rep.lst [It.cells (intsI [c.1,c.2,c.3,c.4,c.5])]⟩]) (.gc 231 ([⟨1,1,true,Rep.lst [[AV.osl 1 4 0 1]]⟩,⟨4,1,true,Rep.lst [y0]⟩]) ([AV.own 0 1 0 0 1,AV.isl 1 32 fun (r x:Nat)=>Zb (intOfAV (atL (Coin.cells c) (5+(0+r))))]) (AV.junk) ([some ⟨1,1,true,Rep.lst [[AV.osl 2 4 0 2]]⟩,none,some ⟨4,2,true,Rep.lst [It.cells (intsI [c.1,c.2,c.3,c.4,c.5]),It.cells (It.byt 32 fun (i:Nat)=>intOfAV (atL (Coin.cells c) (5+(0+i))))]⟩]) (.gc 230 ([⟨1,1,true,Rep.lst [[AV.osl 1 4 0 2]]⟩,⟨4,2,true,Rep.lst [y0,y1]⟩]) ([AV.own 0 1 0 0 1,AV.isl 1 4 fun (r k:Nat)=>atL (List.getD [[Zi c.7],[Zi c.8],[Zi c.9],[Zi c.10]] (r+0) []) k]) (AV.junk) ([some ⟨1,1,true,Rep.lst [[AV.osl 2 4 0 3]]⟩,none,some ⟨4,3,true,Rep.lst [It.cells (intsI [c.1,c.2,c.3,c.4,c.5]),It.cells (It.byt 32 fun (i:Nat)=>intOfAV (atL (Coin.cells c) (5+(0+i)))),It.cells (intsI [c.7,c.8,c.9,c.10])]⟩]) (.out (AV.agg [Zi 3,Zi 0,AV.nsl,AV.isl 4 3 fun (r k:Nat)=>atL (List.getD [y0,y1,[Zi (It.kind (intsI [c.7,c.8,c.9,c.10])),Zi (It.num (intsI [c.7,c.8,c.9,c.10])),AV.isl 1 0 fun (i x:Nat)=>Zb (It.fb (intsI [c.7,c.8,c.9,c.10]) i),AV.isl 4 4 (It.row (intsI [c.7,c.8,c.9,c.10]))]] (r+0) []) k]) [] (It.av (Coin.it c)) [])))))
  (by kernel_rfl) ?_
 refine k_gc (wints_5 (c.1) (c.2) (c.3) (c.4) (c.5)) ?_
 refine k_gc (wbytes_1 (intsI [c.1,c.2,c.3,c.4,c.5]) (fun (i:Nat)=>intOfAV (atL (Coin.cells c) (5+(0+i))))) ?_
 refine k_gc (wints_2 (intsI [c.1,c.2,c.3,c.4,c.5]) (It.byt (32:Nat) fun (i:Nat)=>intOfAV (atL (Coin.cells c) (5+(0+i)))) (c.7) (c.8) (c.9) (c.10)) ?_
 exact k_out (li3_out (EntL.refl _) ⟨Ent.refl _,Ent.refl _,bys_eq rfl (fun i hi=>by
                                                                                                     show intOfAV (atL c.cells (5+(0+i)))=c.root i
                                                                                                     rw [Nat.zero_add]
                                                                                                     exact c.root_at hi),Ent.refl _,trivial⟩ (EntL.refl _))
theorem node_c (d l i:Int):Pure Tryz.prog gl0 71 [.int .i64 d,.agg [.int .i64 l,.int .i64 i]] (.bool (nodeB d l i)):=by
 refine pure_sk (own:=ow0) Tryz.func71 (by kernel_rfl) mixed (by kernel_rfl)
  (.req (((decide (d≥0)&&decide (d≤5)&&decide (l≥0)&&decide (l≤d)&&decide (i≥0))==true)=true→(0:Int)≤l) (.out (AV.bool (decide (d≥0)&&decide (d≤5)&&decide (l≥0)&&decide (l≤d)&&decide (i≥0)&&decide (i<IntKind.wrap IntKind.i64 ((1:Int)*2^min (Int.toNat l) 64)))) [] (AV.bool (nodeB d l i)) []))
  (by kernel_rfl) ?_
 refine k_req (fun hr=>by have hr:=(cnd_eqt_t (cnd_and_t (cnd_and_t (cnd_and_t (cnd_and_t cnd_dec_t cnd_dec_t) cnd_dec_t) cnd_dec_t) cnd_dec_t)) hr;omega) ?_
 exact k_out (Ent.of_eq (congrArg _ (node_m d l i)))
theorem span_c (d l i:Int):Pure Tryz.prog gl0 130 [.int .i64 d,.agg [.int .i64 l,.int .i64 i]] (.tup [.int .i64 (spanA d l i),.int .i64 (spanZ d l i),.int .i64 (spanE d l i)]):=by
 refine pure_sk (own:=ow0) Tryz.func130 (by kernel_rfl) mixed (by kernel_rfl)
  (let y0:AV:=(AV.tup [Zi (spanA d l i),Zi (spanZ d l i),Zi (spanE d l i)]);let y1:Nat:=(Int.toNat (IntKind.wrap IntKind.i64 (d - l)));(.br (decide (d<0)||decide (d>5)) (.out (AV.tup [Zi 0,Zi 0,Zi 1]) [] y0 []) (.sc (true) 71 ([Zi d,AV.agg [Zi l,Zi i]]) (AV.bool (nodeB d l i)) (.br (!nodeB d l i) (.out (AV.tup [Zi 0,Zi 0,Zi 2]) [] y0 []) (.req ((0:Int)≤IntKind.wrap IntKind.i64 (d - l)) (.out (AV.tup [Zi (IntKind.wrap IntKind.i64 (i*IntKind.wrap IntKind.i64 ((1:Int)*2^min y1 64))),Zi (IntKind.wrap IntKind.i64 (IntKind.wrap IntKind.i64 (i+1)*IntKind.wrap IntKind.i64 ((1:Int)*2^min y1 64))),Zi 0]) [] y0 []))))))
  (by kernel_rfl) ?_
 refine k_br (fun h0=>?_) (fun h0=>?_)
 ·exact k_out (Ent.of_eq (by obtain ⟨a,b,c⟩:=span_1 (l:=l) (i:=i) h0;rw [a,b,c]))
 ·refine k_sc (node_c (d) (l) (i)) ?_
  refine k_br (fun h3=>?_) (fun h3=>?_)
  ·exact k_out (Ent.of_eq (by obtain ⟨a,b,c⟩:=span_2 h0 h3;rw [a,b,c]))
  ·refine k_req ((span_3 h3).2.2.2) ?_
   exact k_out (Ent.of_eq (by obtain ⟨a,b,c,_⟩:=span_3 h3;rw [a,b,c]))
theorem rplace_c (d l i:Int):Pure Tryz.prog gl0 60 [.int .i64 d,.int .i64 l,.int .i64 i] (.bool (placeB d l i)):=by
 refine pure_sk (own:=ow0) Tryz.func60 (by kernel_rfl) mixed (by kernel_rfl)
  (.req (((decide (l≥0)&&decide (l≤d)&&decide (i≥0))==true)=true→(0:Int)≤l) (.out (AV.bool (decide (l≥0)&&decide (l≤d)&&decide (i≥0)&&decide (i<IntKind.wrap IntKind.i64 ((1:Int)*2^min (Int.toNat l) 64)))) [] (AV.bool (placeB d l i)) []))
  (by kernel_rfl) ?_
 refine k_req (fun hr=>by have hr:=(cnd_eqt_t (cnd_and_t (cnd_and_t cnd_dec_t cnd_dec_t) cnd_dec_t)) hr;omega) ?_
 exact k_out (Ent.refl _)
theorem rnode_c (d l i:Int):Pure Tryz.prog gl0 21 [.int .i64 d,.agg [.int .i64 l,.int .i64 i]] (.bool (nodeB d l i)):=by
 refine pure_sk (own:=ow0) Tryz.func21 (by kernel_rfl) mixed (by kernel_rfl)
  (.sc ((decide (d≥0)&&decide (d≤5))==true) 60 ([Zi d,Zi l,Zi i]) (AV.bool (placeB d l i)) (.out (AV.bool (decide (d≥0)&&decide (d≤5)&&placeB d l i)) [] (AV.bool (nodeB d l i)) []))
  (by kernel_rfl) ?_
 refine k_scg (fun h0=>rplace_c (d) (l) (i)) ?_
 exact k_out (Ent.of_eq (congrArg _ (place_node d l i)))
theorem context_c (x:Cxt):Pure Tryz.prog gl0 72 [x.av] (.bool (ctxB x.time x.number)):=by
 refine pure_sk (own:=ow0) Tryz.func72 (by kernel_rfl) mixed (by kernel_rfl)
  (.out (AV.bool (decide (x.2≥0)&&decide (x.2≤1099511627776)&&decide (x.3≥0)&&decide (x.3≤1073741824))) [] (AV.bool (ctxB (Cxt.time x) (Cxt.number x))) [])
  (by kernel_rfl) ?_
 exact k_out (Ent.refl _)
theorem rctx_c (x:Cxt):Pure Tryz.prog gl0 22 [x.av] (.bool (ctxB x.time x.number)):=by
 refine pure_sk (own:=ow0) Tryz.func22 (by kernel_rfl) mixed (by kernel_rfl)
  (.out (AV.bool (decide (x.2≥0)&&decide (x.2≤1099511627776)&&decide (x.3≥0)&&decide (x.3≤1073741824))) [] (AV.bool (ctxB (Cxt.time x) (Cxt.number x))) [])
  (by kernel_rfl) ?_
 exact k_out (Ent.refl _)
theorem cdig_c (c:Coin) (hr:byB c.root 32):Pure Tryz.prog gl0 101 [c.av] (.agg (u8c c.dig)):=by
 have hi:=citem_w c
 have he:=encode_c c.it c.it_ok (by rw [c.it_len];decide)
 have ht:=tagged_c "specie/coin-item".toUTF8 (by decide) (by decide) (fun i=>c.it.enc.getD i 0) c.it.enc.length (by rw [c.it_len];decide) (It.enc_by (Coin.it_okB hr))
 refine pure_sk (own:=ow0) Tryz.func101 (by kernel_rfl) mixed (by kernel_rfl)
  (.dc (true) 172 ([AV.agg (Coin.cells c)]) (It.av (Coin.it c)) (.dc (true) 140 ([AV.agg [Zi (It.kind (Coin.it c)),Zi (It.num (Coin.it c)),AV.isl 1 0 fun (i x:Nat)=>Zb (It.fb (Coin.it c) i),AV.isl 4 3 (It.row (Coin.it c))]]) (AV.tup [il IntKind.u8 (It.enc (Coin.it c)),Zi 0]) (.sc (true) 144 ([AV.str { data := #[(115:UInt8),(112:UInt8),(101:UInt8),(99:UInt8),(105:UInt8),(101:UInt8),(47:UInt8),(99:UInt8),(111:UInt8),(105:UInt8),(110:UInt8),(45:UInt8),(105:UInt8),(116:UInt8),(101:UInt8),(109:UInt8)] },AV.isl 1 133 fun (i x:Nat)=>Zb (List.getD (It.enc (Coin.it c)) i (0:Int))]) (AV.tup [AV.agg (u8c (tagF (String.toUTF8 "specie/coin-item") (List.length (It.enc (Coin.it c))) fun (i:Nat)=>List.getD (It.enc (Coin.it c)) i (0:Int))),Zi 0]) (.out (AV.agg (u8c (tagF (String.toUTF8 "specie/coin-item") 133 fun (i:Nat)=>List.getD (It.enc (Coin.it c)) i (0:Int)))) [] (AV.agg (u8c (Coin.dig c))) []))))
  (by kernel_rfl) ?_
 refine k_dc (hi) ?_
 refine k_dc (he) ?_
 refine k_sc (ht) ?_
 exact k_out (Ent.refl _)
theorem list4 (a b c d:It):Pure Tryz.prog gl0 141 [.isl 4 4 fun r k=>atL (List.getD [a.cells,b.cells,c.cells,d.cells] r []) k] (lsI [a,b,c,d]).av :=
 (list_c 4 _).ent (li4_out (EntL.refl _) (EntL.refl _) (EntL.refl _) (EntL.refl _))
theorem chal_c (b:Bas) (c:Coin) (l i:Int) (x:Cxt) (hr:byB c.root 32) (hp:byB x.payee 32) (hq:0<b.gr.q) (hq':b.gr.q<2305843009213693952):Pure Tryz.prog gl0 73 [b.av,c.av,.agg [.int .i64 l,.int .i64 i],x.av] (.int .i64 (chalN b.gr.q c l i x)):=by
 have hd:=cdig_c c hr
 have hb:=bytes_c c.dig
 have hb2:=bytes_c x.payee
 have hi:=ints_2 l i
 have hi2:=ints_2 x.time x.number
 have hl:=list4 (.byt 32 c.dig) (intsI [l,i]) (.byt 32 x.payee) (intsI [x.time,x.number])
 have he:=encode_c (chalI c l i x) (chal_ok c l i x) (by rw [chal_len];decide)
 have ht:=tagged_c "specie/spend".toUTF8 (by decide) (by decide) (fun k=>(chalI c l i x).enc.getD k 0) (chalI c l i x).enc.length (by rw [chal_len];decide) (It.enc_by (chal_okB hp))
 have hn:=number_c (tagI "specie/spend".toUTF8 (chalI c l i x)) b.gr.q hq hq' (tagI_by _ _ _)
 refine pure_sk (own:=ow0) Tryz.func73 (by kernel_rfl) mixed (by kernel_rfl)
  (.sc (true) 101 ([AV.agg (Coin.cells c)]) (AV.agg (u8c (Coin.dig c))) (.dc (true) 142 ([AV.agg (u8c (Coin.dig c))]) (It.av (It.byt 32 (Coin.dig c))) (.dc (true) 143 ([AV.isl 1 2 fun (r k:Nat)=>atL (List.getD [[Zi l],[Zi i]] (r+0) []) k]) (It.av (intsI [l,i])) (.dc (true) 142 ([AV.agg (u8c x.1)]) (It.av (It.byt 32 (Cxt.payee x))) (.dc (true) 143 ([AV.isl 1 2 fun (r k:Nat)=>atL (List.getD [[Zi x.2],[Zi x.3]] (r+0) []) k]) (It.av (intsI [Cxt.time x,Cxt.number x])) (.dc (true) 141 ([AV.isl 4 4 fun (r k:Nat)=>atL (List.getD [[Zi (It.kind (It.byt 32 (Coin.dig c))),Zi (It.num (It.byt 32 (Coin.dig c))),AV.isl 1 32 fun (i x:Nat)=>Zb (It.fb (It.byt 32 (Coin.dig c)) i),AV.isl 4 0 (It.row (It.byt 32 (Coin.dig c)))],[Zi (It.kind (intsI [l,i])),Zi (It.num (intsI [l,i])),AV.isl 1 0 fun (i_1 x:Nat)=>Zb (It.fb (intsI [l,i]) i_1),AV.isl 4 2 (It.row (intsI [l,i]))],[Zi (It.kind (It.byt 32 x.1)),Zi (It.num (It.byt 32 x.1)),AV.isl 1 32 fun (i x_1:Nat)=>Zb (It.fb (It.byt 32 x.1) i),AV.isl 4 0 (It.row (It.byt 32 x.1))],[Zi (It.kind (intsI [x.2,x.3])),Zi (It.num (intsI [x.2,x.3])),AV.isl 1 0 fun (i x_1:Nat)=>Zb (It.fb (intsI [x.2,x.3]) i),AV.isl 4 2 (It.row (intsI [x.2,x.3]))]] (r+0) []) k]) (It.av (lsI [It.byt 32 (Coin.dig c),intsI [l,i],It.byt 32 (Cxt.payee x),intsI [Cxt.time x,Cxt.number x]])) (.dc (true) 140 ([AV.agg [Zi (It.kind (lsI [It.byt 32 (Coin.dig c),intsI [l,i],It.byt 32 x.1,intsI [x.2,x.3]])),Zi (It.num (lsI [It.byt 32 (Coin.dig c),intsI [l,i],It.byt 32 x.1,intsI [x.2,x.3]])),AV.isl 1 0 fun (i_1 x_1:Nat)=>Zb (It.fb (lsI [It.byt 32 (Coin.dig c),intsI [l,i],It.byt 32 x.1,intsI [x.2,x.3]]) i_1),AV.isl 4 4 (It.row (lsI [It.byt 32 (Coin.dig c),intsI [l,i],It.byt 32 x.1,intsI [x.2,x.3]]))]]) (AV.tup [il IntKind.u8 (It.enc (chalI c l i x)),Zi 0]) (.sc (true) 144 ([AV.str { data := #[(115:UInt8),(112:UInt8),(101:UInt8),(99:UInt8),(105:UInt8),(101:UInt8),(47:UInt8),(115:UInt8),(112:UInt8),(101:UInt8),(110:UInt8),(100:UInt8)] },AV.isl 1 125 fun (i_1 x_1:Nat)=>Zb (List.getD (It.enc (chalI c l i x)) i_1 (0:Int))]) (AV.tup [AV.agg (u8c (tagF (String.toUTF8 "specie/spend") (List.length (It.enc (chalI c l i x))) fun (k:Nat)=>List.getD (It.enc (chalI c l i x)) k (0:Int))),Zi 0]) (.sc (true) 145 ([AV.agg (u8c (tagF (String.toUTF8 "specie/spend") 125 fun (k:Nat)=>List.getD (It.enc (chalI c l i x)) k (0:Int))),Zi (Bas.gr b).2]) (AV.tup [Zi (numF (tagI (String.toUTF8 "specie/spend") (chalI c l i x)) (Grp.q (Bas.gr b)) 16),Zi 0]) (.out (Zi (numF (tagI (String.toUTF8 "specie/spend") (chalI c l i x)) (Bas.gr b).2 16)) [] (Zi (chalN (Grp.q (Bas.gr b)) c l i x)) []))))))))))
  (by kernel_rfl) ?_
 refine k_sc (hd) ?_
 refine k_dc (hb) ?_
 refine k_dc (hi) ?_
 refine k_dc (hb2) ?_
 refine k_dc (hi2) ?_
 refine k_dc (hl) ?_
 refine k_dc (he) ?_
 refine k_sc (ht) ?_
 refine k_sc (hn) ?_
 exact k_out (Ent.refl _)
end Go.Proofs.YtolcfdcoidpieaaGreatDoor

namespace Go.Sp
open Go Go.Am

theorem inv_uniq {a m x y : Int} (hx : 0 ≤ x ∧ x < m) (hy : 0 ≤ y ∧ y < m) (h1 : m ∣ a * x - 1) (h2 : m ∣ a * y - 1) : x = y := by
  have h : m ∣ x - y := by
    obtain ⟨k, hk⟩ := h1
    obtain ⟨j, hj⟩ := h2
    refine ⟨x * j * (-1) + y * k, ?_⟩
    have e1 : a * x * y = (1 + m * k) * y := by rw [← hk]; grind
    have e2 : a * y * x = (1 + m * j) * x := by rw [← hj]; grind
    grind
  have e := Int.emod_eq_emod_iff_emod_sub_eq_zero.2 (Int.emod_eq_zero_of_dvd h)
  rwa [Int.emod_eq_of_lt hx.1 hx.2, Int.emod_eq_of_lt hy.1 hy.2] at e

open Classical in
noncomputable def invF (a m : Int) : Int := if h : ∃ x, (0 ≤ x ∧ x < m) ∧ m ∣ a * x - 1 then Classical.choose h else 0
theorem invF_eq {a m x : Int} (hx : 0 ≤ x ∧ x < m) (h : m ∣ a * x - 1) : invF a m = x := by
  have hh : ∃ x, (0 ≤ x ∧ x < m) ∧ m ∣ a * x - 1 := ⟨x, hx, h⟩
  unfold invF
  rw [dif_pos hh]
  exact inv_uniq (Classical.choose_spec hh).1 hx (Classical.choose_spec hh).2 h
structure EgI (a0 m d a x n : Int) : Prop where
  an : 0 ≤ a
  ad : a < d
  d1 : d ≤ m
  sg : ∃ u v : Int, 0 ≤ u ∧ u ≤ m ∧ 0 ≤ v ∧ v ≤ m ∧ (x = -u ∧ n = v ∨ x = u ∧ n = -v) ∧ v * d + u * a = m
  c1 : m ∣ a0 * x - d
  c2 : m ∣ a0 * n - a
  g : Int.gcd d a = Int.gcd a0 m
theorem EgI.start {a m : Int} (h0 : 0 ≤ a) (h1 : a < m) : EgI a m m a 0 1 where
  an := h0
  ad := h1
  d1 := Int.le_refl _
  sg := ⟨0, 1, by omega, by omega, by omega, by omega, Or.inl ⟨rfl, rfl⟩, by omega⟩
  c1 := ⟨-1, by omega⟩
  c2 := ⟨0, by omega⟩
  g := Int.gcd_comm _ _
theorem EgI.nxt {a0 m d a x n : Int} (h : EgI a0 m d a x n) (ha : a ≠ 0) : EgI a0 m a (d % a) n (x - d / a * n) ∧ 0 ≤ d / a ∧ d / a * a ≤ d ∧ -m ≤ d / a * n ∧ d / a * n ≤ m ∧ -m ≤ n ∧ n ≤ m ∧ d - d / a * a = d % a := by
  have p : 0 < a := by have := h.an; omega
  have q0 : 0 ≤ d / a := Int.ediv_nonneg (by have := h.ad; omega) (by omega)
  have e := Int.mul_ediv_add_emod d a
  have r0 := Int.emod_nonneg d ha
  have r1 := Int.emod_lt_of_pos d p
  have hd := h.ad
  have hm := h.d1
  obtain ⟨u, v, u0, u1, v0, v1, hs, hv⟩ := h.sg
  generalize d / a = q at *
  generalize hr : d % a = r at *
  have qv : 0 ≤ q * v := Int.mul_nonneg q0 v0
  have hv' : (u + q * v) * a + v * r = m := by rw [← hv, ← e]; grind
  have vr : 0 ≤ v * r := Int.mul_nonneg v0 r0
  have t0 : 0 ≤ u + q * v := by omega
  have t1 : u + q * v ≤ m := by
    have : (u + q * v) * 1 ≤ (u + q * v) * a := Int.mul_le_mul_of_nonneg_left (by omega) t0
    omega
  refine ⟨⟨r0, r1, by omega, ⟨v, u + q * v, v0, v1, t0, t1, ?_, hv'⟩, h.c2, ?_, ?_⟩, q0, by rw [Int.mul_comm]; omega, ?_, ?_, ?_, ?_, by rw [Int.mul_comm]; omega⟩
  · rcases hs with ⟨rfl, rfl⟩ | ⟨rfl, rfl⟩
    · exact Or.inr ⟨rfl, by omega⟩
    · refine Or.inl ⟨rfl, ?_⟩
      rw [Int.mul_neg]; omega
  · obtain ⟨k, hk⟩ := h.c1
    obtain ⟨j, hj⟩ := h.c2
    refine ⟨k - q * j, ?_⟩
    have : a0 * (x - q * n) - r = (a0 * x - d) - q * (a0 * n - a) + (d - a * q - r) := by grind
    rw [this, hk, hj, show d - a * q - r = 0 by omega]
    grind
  · rw [← h.g, Int.gcd_comm d a, show r = d - a * q by omega]
    exact Int.gcd_sub_mul_left_right _ _ _
  · rcases hs with ⟨_, rfl⟩ | ⟨_, rfl⟩
    · omega
    · rw [Int.mul_neg]; omega
  · rcases hs with ⟨_, rfl⟩ | ⟨_, rfl⟩
    · omega
    · rw [Int.mul_neg]; omega
  · omega
  · omega
def eg (d a x n : Int) : Int × Int := if 0 < a then eg a (d % a) n (x - d / a * n) else (d, x)
termination_by a.toNat
decreasing_by have := Int.emod_lt_of_pos d (by assumption : 0 < a); have := Int.emod_nonneg d (by omega : a ≠ 0); omega
theorem eg_step {d a x n : Int} (h : 0 < a) : eg d a x n = eg a (d % a) n (x - d / a * n) := by
  rw [eg, if_pos h]
theorem eg_end {d a x n : Int} (h : ¬ 0 < a) : eg d a x n = (d, x) := by
  rw [eg, if_neg h]
def EgW (a m : Int) (s : Int × Int × Int × Int) : Prop := EgI a m s.1 s.2.1 s.2.2.1 s.2.2.2 ∧ eg s.1 s.2.1 s.2.2.1 s.2.2.2 = eg m a 0 1
theorem EgW.start {a m : Int} (h0 : 0 ≤ a) (h1 : a < m) : EgW a m (m, a, 0, 1) := ⟨.start h0 h1, rfl⟩
theorem EgW.step {a0 m d a x n : Int} (h : EgW a0 m (d, a, x, n)) (ha : a ≠ 0) : EgW a0 m (a, d % a, n, x - d / a * n) :=
  ⟨(h.1.nxt ha).1, (eg_step (by have := h.1.an; dsimp only at this; omega)).symm.trans h.2⟩
def egX (a m : Int) : Int := let x := (eg m a 0 1).2; (if x < 0 then x + m else x) % m
theorem EgW.fin {a0 m d a x n : Int} (h : EgW a0 m (d, a, x, n)) (ha : a = 0) : d = Int.gcd a0 m ∧ eg m a0 0 1 = (d, x) ∧ -m ≤ x ∧ x ≤ m := by
  subst ha
  obtain ⟨h1, h2⟩ := h
  dsimp only at h1 h2
  refine ⟨?_, by rw [← h2]; exact eg_end (by omega), ?_⟩
  · rw [← h1.g, Int.gcd_zero_right]
    have := h1.ad
    omega
  · obtain ⟨u, v, u0, u1, v0, v1, hs, hv⟩ := h1.sg
    omega
theorem EgW.all {a0 m : Int} : ∀ (k : Nat) (s : Int × Int × Int × Int), s.2.1.toNat ≤ k → EgW a0 m s → ∃ d x n, EgW a0 m (d, 0, x, n)
  | k, (d, a, x, n), hk, h => by
    by_cases ha : a = 0
    · subst ha; exact ⟨d, x, n, h⟩
    · have h0 := h.1.an
      dsimp only at h0 hk
      cases k with
      | zero => omega
      | succ k =>
        have := Int.emod_lt_of_pos d (show 0 < a by omega)
        have := Int.emod_nonneg d ha
        exact EgW.all k _ (by dsimp only; omega) (h.step ha)
structure RgI (a0 m u v x y : Int) : Prop where
  u0 : 0 ≤ u
  u1 : u ≤ m
  v0 : 0 ≤ v
  v1 : v ≤ m
  x0 : 0 ≤ x
  x1 : x < m
  y0 : 0 ≤ y
  y1 : y < m
  c1 : m ∣ a0 * x - u
  c2 : m ∣ a0 * y - v
  g : Int.gcd u v = Int.gcd a0 m
theorem RgI.start {a m : Int} (h0 : 0 ≤ a) (h1 : a < m) : RgI a m a m (1 % m) 0 where
  u0 := h0
  u1 := by omega
  v0 := by omega
  v1 := by omega
  x0 := Int.emod_nonneg _ (by omega)
  x1 := Int.emod_lt_of_pos _ (by omega)
  y0 := by omega
  y1 := by omega
  c1 := by
    have e := Int.mul_ediv_add_emod 1 m
    refine ⟨-(a * (1 / m)), ?_⟩
    generalize 1 / m = q at *
    generalize 1 % m = r at *
    have : a * (m * q + r) = a := by rw [e, Int.mul_one]
    grind
  c2 := ⟨-1, by omega⟩
  g := rfl
theorem RgI.nxt {a0 m u v x y : Int} (h : RgI a0 m u v x y) (hv : v ≠ 0) : RgI a0 m v (u % v) y ((x - u / v % m * y % m) % m) ∧ 0 ≤ u / v ∧ u / v ≤ m ∧ u / v * v ≤ u ∧ 0 ≤ u / v * v ∧ u - u / v * v = u % v := by
  have p : 0 < v := by have := h.v0; omega
  have hm : 0 < m := by have := h.v1; omega
  have q0 : 0 ≤ u / v := Int.ediv_nonneg h.u0 (by omega)
  have e := Int.mul_ediv_add_emod u v
  have r0 := Int.emod_nonneg u hv
  have r1 := Int.emod_lt_of_pos u p
  have hu := h.u0
  have hu1 := h.u1
  have hv1 := h.v1
  have qv : u / v * v ≤ u := by rw [Int.mul_comm]; omega
  have q1 : u / v ≤ m := by
    have : u / v * 1 ≤ u / v * v := Int.mul_le_mul_of_nonneg_left (by omega) q0
    omega
  refine ⟨⟨by omega, by omega, r0, by omega, h.y0, h.y1, Int.emod_nonneg _ (by omega), Int.emod_lt_of_pos _ hm, h.c2, ?_, ?_⟩, q0, q1, qv, Int.mul_nonneg q0 (by omega), by rw [Int.mul_comm]; omega⟩
  · obtain ⟨k, hk⟩ := h.c1
    obtain ⟨j, hj⟩ := h.c2
    have e1 := Int.mul_ediv_add_emod (u / v) m
    have e2 := Int.mul_ediv_add_emod (u / v % m * y) m
    have e3 := Int.mul_ediv_add_emod (x - u / v % m * y % m) m
    generalize (x - u / v % m * y % m) % m = z at *
    generalize (x - u / v % m * y % m) / m = z' at *
    generalize u / v % m * y % m = w at *
    generalize u / v % m * y / m = w' at *
    generalize u / v % m = qm at *
    generalize u / v / m = qm' at *
    generalize u / v = q at *
    generalize u % v = r at *
    refine ⟨k - q * j + a0 * (qm' * y + w' - z'), ?_⟩
    have f1 : z = x - w - m * z' := by omega
    have f2 : w = qm * y - m * w' := by omega
    have f3 : qm = q - m * qm' := by omega
    have f4 : r = u - v * q := by omega
    subst f1; subst f2; subst f3; subst f4
    have g1 : a0 * x = u + m * k := by omega
    have g2 : a0 * y = v + m * j := by omega
    grind
  · rw [← h.g, Int.gcd_comm u v, show u % v = u - v * (u / v) by omega]
    exact Int.gcd_sub_mul_left_right _ _ _
theorem RgI.fin {a0 m u x y : Int} (h : RgI a0 m u 0 x y) (hg : Int.gcd a0 m = 1) : x = invF a0 m := by
  have hu : u = 1 := by
    have := h.g
    have h0 := h.u0
    rw [Int.gcd_zero_right, hg] at this
    omega
  exact (invF_eq ⟨h.x0, h.x1⟩ (hu ▸ h.c1)).symm

theorem EgI.w {a0 m d a x n : Int} (h : EgI a0 m d a x n) (ha : a ≠ 0) (hm : m < 2305843009213693952) :
    IntKind.wrap .i64 (d - IntKind.wrap .i64 (IntKind.wrap .i64 (Int.tdiv d a) * a)) = d % a ∧ IntKind.wrap .i64 (x - IntKind.wrap .i64 (IntKind.wrap .i64 (Int.tdiv d a) * n)) = x - d / a * n ∧ d % a < a ∧ 0 ≤ d % a := by
  obtain ⟨h1, q0, q1, n0, n1, n2, n3, e⟩ := h.nxt ha
  have hd := h.ad; have hm1 := h.d1; have h0 := h.an
  have r0 := h1.an; have r1 := h1.ad
  have qd : d / a ≤ d := by
    have : d / a * 1 ≤ d / a * a := Int.mul_le_mul_of_nonneg_left (by omega) q0
    omega
  have e1 : IntKind.wrap .i64 (Int.tdiv d a) = d / a := by
    rw [Int.tdiv_eq_ediv_of_nonneg (by omega), wI (by omega) (by omega)]
  have e2 : IntKind.wrap .i64 (d / a * a) = d / a * a := wI (by have := Int.mul_nonneg q0 h0; omega) (by omega)
  obtain ⟨u, v, u0, u1, v0, v1, hs, hv⟩ := h1.sg
  rw [e1, e2, wI (n := d - d / a * a) (by omega) (by omega), wI (n := d / a * n) (by omega) (by omega), wI (n := x - d / a * n) (by omega) (by omega)]
  exact ⟨e, rfl, r1, r0⟩
theorem EgW.out {a0 m : Int} {s : Int × Int × Int × Int} (h : EgW a0 m s) (ha : s.2.1 = 0) (hm : m < 2305843009213693952) :
    s.1 = Int.gcd a0 m ∧ (s.2.2.1 < 0 → Int.tmod (IntKind.wrap .i64 (s.2.2.1 + m)) m = egX a0 m) ∧ (¬ s.2.2.1 < 0 → Int.tmod s.2.2.1 m = egX a0 m) ∧ 0 < m := by
  obtain ⟨d, a, x, n⟩ := s
  obtain ⟨h1, h2, h3, h4⟩ := EgW.fin h ha
  have h5 := h.1.d1; have h6 := h.1.ad; have h7 := h.1.an
  dsimp only at *
  refine ⟨h1, fun hx => ?_, fun hx => ?_, by omega⟩
  · rw [wI (by omega) (by omega), tmod_nn (by omega)]
    unfold egX
    rw [h2]
    dsimp only
    rw [if_pos hx]
  · rw [tmod_nn (by omega)]
    unfold egX
    rw [h2]
    dsimp only
    rw [if_neg hx]
theorem RgI.w {a0 m u v x y : Int} (h : RgI a0 m u v x y) (hv : v ≠ 0) (hm : m < 2305843009213693952) :
    IntKind.wrap .i64 (Int.tdiv u v) = u / v ∧ IntKind.wrap .i64 (u - IntKind.wrap .i64 (IntKind.wrap .i64 (Int.tdiv u v) * v)) = u % v ∧ u % v < v ∧ 0 ≤ u % v ∧ 0 < m ∧ 0 ≤ u / v % m ∧ u / v % m < m ∧ IntKind.wrap .i64 (x - u / v % m * y % m) = x - u / v % m * y % m := by
  obtain ⟨h1, q0, q1, n0, n1, e⟩ := h.nxt hv
  have b1 := h.u0; have b2 := h.u1; have b3 := h.v0; have b4 := h.v1; have b5 := h.x0; have b6 := h.x1
  have r0 := Int.emod_nonneg u hv
  have r1 := Int.emod_lt_of_pos u (show 0 < v by omega)
  have m0 : 0 < m := by omega
  have e1 : IntKind.wrap .i64 (Int.tdiv u v) = u / v := by
    rw [Int.tdiv_eq_ediv_of_nonneg (by omega), wI (by omega) (by omega)]
  have c0 := Int.emod_nonneg (u / v % m * y) (show m ≠ 0 by omega)
  have c1 := Int.emod_lt_of_pos (u / v % m * y) m0
  refine ⟨e1, ?_, r1, r0, m0, Int.emod_nonneg _ (by omega), Int.emod_lt_of_pos _ m0, wI (by omega) (by omega)⟩
  rw [e1, wI (n := u / v * v) (by omega) (by omega), wI (by omega) (by omega)]
  exact e
end Go.Sp

namespace Go.Proofs.YtolcfdcoidpieaaGreatDoor
open Go Go.Am Go.Sp
set_option maxRecDepth 100000
end Go.Proofs.YtolcfdcoidpieaaGreatDoor

namespace Go.Sp
open Go Go.Am
def chalE (b : Bas) (c : Coin) (l i : Int) (x : Cxt) : Int := bif validB b then (bif nodeB c.depth l i && ctxB x.time x.number then 0 else 2) else 1
def chalK (b : Bas) (c : Coin) (l i : Int) (x : Cxt) : Int := bif validB b && (nodeB c.depth l i && ctxB x.time x.number) then chalN b.gr.q c l i x else 0
theorem validB_ok {b : Bas} (h : validB b = true) : b.gr.Ok := by
  unfold validB at h
  simp only [Bool.and_eq_true] at h
  exact validG_iff.1 h.1.1.1.1.1.1
theorem validB_q {b : Bas} (h : validB b = true) : 0 < b.gr.q ∧ b.gr.q < 2305843009213693952 := by
  have h := validB_ok h
  have := h.qp; have := h.q3; have := h.p1
  omega
def amV (v d l i : Int) : Int := if amE v d l i = 0 then v.fdiv (2 ^ min l.toNat 64) else 0
theorem am_1 {v d l i : Int} (h : v < 0 ∨ 1099511627776 < v ∨ d < 0 ∨ 5 < d) : amE v d l i = 1 ∧ amV v d l i = 0 := by
  have e : amE v d l i = 1 := if_pos h
  exact ⟨e, by unfold amV; rw [e]; rfl⟩
theorem am_2 {v d l i : Int} (h : ¬ (v < 0 ∨ 1099511627776 < v ∨ d < 0 ∨ 5 < d)) (hn : nodeB d l i = false) : amE v d l i = 2 ∧ amV v d l i = 0 := by
  have e : amE v d l i = 2 := by unfold amE; rw [if_neg h, hn]; rfl
  exact ⟨e, by unfold amV; rw [e]; rfl⟩
theorem am_3 {v d l i : Int} (h : ¬ (v < 0 ∨ 1099511627776 < v ∨ d < 0 ∨ 5 < d)) (hn : nodeB d l i = true) : amE v d l i = 0 ∧ amV v d l i = v.fdiv (2 ^ min l.toNat 64) := by
  have e : amE v d l i = 0 := by unfold amE; rw [if_neg h, hn]; rfl
  exact ⟨e, by unfold amV; rw [e]; rfl⟩
theorem chal_1 {b : Bas} {c : Coin} {l i : Int} {x : Cxt} (h : validB b = false) : chalE b c l i x = 1 ∧ chalK b c l i x = 0 := by
  unfold chalE chalK; rw [h]; exact ⟨rfl, rfl⟩
theorem chal_2 {b : Bas} {c : Coin} {l i : Int} {x : Cxt} (h : validB b = true) (h' : nodeB c.depth l i = false ∨ ctxB x.time x.number = false) : chalE b c l i x = 2 ∧ chalK b c l i x = 0 := by
  have e : (nodeB c.depth l i && ctxB x.time x.number) = false := by rcases h' with e | e <;> simp [e]
  unfold chalE chalK; rw [h, e]; exact ⟨rfl, rfl⟩
theorem chal_3 {b : Bas} {c : Coin} {l i : Int} {x : Cxt} (h : validB b = true) (h' : nodeB c.depth l i = true ∧ ctxB x.time x.number = true) : chalE b c l i x = 0 ∧ chalK b c l i x = chalN b.gr.q c l i x := by
  have e : (nodeB c.depth l i && ctxB x.time x.number) = true := by simp [h']
  unfold chalE chalK; rw [h, e]; exact ⟨rfl, rfl⟩
theorem span_d {d l i : Int} (hn : nodeB d l i = true) : spanE d l i = 0 ∧ 0 ≤ l ∧ l ≤ d ∧ 0 ≤ d ∧ d ≤ 5 := by
  have h := node_t hn
  refine ⟨?_, by omega, by omega, by omega, by omega⟩
  unfold spanE
  rw [if_neg (by omega), if_pos hn]
def Spend.coin (s : Spend) : Coin := ⟨s.bank, s.epoch, s.denom, s.depth, s.a, s.root, s.z, s.sa, s.sb, s.r⟩
def Spend.cxt (s : Spend) : Cxt := ⟨s.payee, s.time, s.number⟩
structure Spend.By (s : Spend) : Prop where
  root : byB s.root 32
  payee : byB s.payee 32
def chS (b : Bas) (s : Spend) : Int := chalN b.gr.q s.coin s.level s.index s.cxt
def scB (b : Bas) (x : Int) : Bool := decide (x ≥ 0) && decide (x < b.gr.q)
theorem first_mem {l : List Int} {v : Int} : (decide (firstI (fun i => l.getD i 0 == v) l.length 0 ≥ 0)) = decide (v ∈ l) := by
  rw [firstI_neg]
  rw [Bool.eq_iff_iff]
  simp only [Nat.zero_add, List.any_eq_true, List.mem_range, beq_iff_eq, decide_eq_true_eq]
  constructor
  · rintro ⟨i, hi, rfl⟩
    rw [List.getD_eq_getElem?_getD, List.getElem?_eq_getElem hi]
    exact List.getElem_mem hi
  · intro h
    obtain ⟨i, hi, rfl⟩ := List.mem_iff_getElem.1 h
    exact ⟨i, hi, by rw [List.getD_eq_getElem?_getD, List.getElem?_eq_getElem hi]; rfl⟩
end Go.Sp

namespace Go.Proofs.YtolcfdcoidpieaaGreatDoor
open Go Go.Am Go.Sp
set_option maxRecDepth 100000
theorem chall_c (b:Bas) (c:Coin) (l i:Int) (x:Cxt) (hw:b.gr.W) (hr:byB c.root 32) (hp:byB x.payee 32):Pure Tryz.prog gl0 126 [b.av,c.av,.agg [.int .i64 l,.int .i64 i],x.av] (.tup [.int .i64 (chalK b c l i x),.int .i64 (chalE b c l i x)]):=by
 have hc:=fun h h'=>chal_c b c l i x hr hp h h'
 have hx:=context_c x
 have hv:=bvalid_c b hw
 refine pure_sk (own:=ow0) Tryz.func126 (by kernel_rfl) mixed (by kernel_rfl)
  (let y0:AV:=(AV.tup [Zi (chalK b c l i x),Zi (chalE b c l i x)]);(.sc (true) 34 ([AV.agg (Bas.cells b)]) (AV.bool (validB b)) (.br (!validB b) (.out (AV.tup [Zi 0,Zi 1]) [] y0 []) (.sc (true) 71 ([Zi c.4,AV.agg [Zi l,Zi i]]) (AV.bool (nodeB c.4 l i)) (.sc ((!nodeB c.4 l i)==false) 72 ([AV.agg (u8c x.1++[Zi x.2,Zi x.3])]) (AV.bool (ctxB (Cxt.time x) (Cxt.number x))) (.br (!nodeB c.4 l i || !ctxB x.2 x.3) (.out (AV.tup [Zi 0,Zi 2]) [] y0 []) (.sc (true) 73 ([AV.agg (Bas.cells b),AV.agg (Coin.cells c),AV.agg [Zi l,Zi i],AV.agg (u8c x.1++[Zi x.2,Zi x.3])]) (Zi (chalN (Grp.q (Bas.gr b)) c l i x)) (.out (AV.tup [Zi (chalN (Bas.gr b).2 c l i x),Zi 0]) [] y0 []))))))))
  (by kernel_rfl) ?_
 refine k_sc (hv) ?_
 refine k_br (fun h1=>?_) (fun h1=>?_)
 ·have g1:=(cnd_not_t cnd_id_f) h1
  exact k_out (Ent.of_eq (by rw [(chal_1 g1).1,(chal_1 g1).2]))
 ·have g1:=(cnd_not_f cnd_id_t) h1
  refine k_sc (node_c (c.4) (l) (i)) ?_
  refine k_scg (fun h4=>hx) ?_
  refine k_br (fun h5=>?_) (fun h5=>?_)
  ·have g5:=(cnd_or_t (cnd_not_t cnd_id_f) (cnd_not_t cnd_id_f)) h5
   exact k_out (Ent.of_eq (by rw [(chal_2 g1 g5).1,(chal_2 g1 g5).2]))
  ·have g5:=(cnd_or_f (cnd_not_f cnd_id_t) (cnd_not_f cnd_id_t)) h5
   refine k_sc (hc ((validB_q g1).1) ((validB_q g1).2)) ?_
   exact k_out (Ent.of_eq (by rw [(chal_3 g1 g5).1,(chal_3 g1 g5).2]))
theorem indexN_c (l:List Int) (v:Int) (hn:l.length<9223372036854775808):Pure Tryz.prog gl0 149 [il .i64 l,.int .i64 v] (.int .i64 (firstI (fun i=>l.getD i 0==v) l.length 0)):=by
 refine pure_sk (own:=ow0) Tryz.func149 (by kernel_rfl) mixed (by kernel_rfl)
  (let y0:AV:=(Zi (firstI (fun (i:Nat)=>List.getD l i (0:Int)==v) (List.length l) 0));(.loop ({ x:Nat // x≤List.length l∧(fun (i:Nat)=>firstI (fun (i:Nat)=>List.getD l i (0:Int)==v) (List.length l) 0=firstI (fun (i:Nat)=>List.getD l i (0:Int)==v) (List.length l - i) i) x }) (fun (x:{ x:Nat // x≤List.length l∧(fun (i:Nat)=>firstI (fun (i:Nat)=>List.getD l i (0:Int)==v) (List.length l) 0=firstI (fun (i:Nat)=>List.getD l i (0:Int)==v) (List.length l - i) i) x })=>mkSt [0,1,7,8] [AV.isl 1 (List.length l) fun (i x:Nat)=>Zi (List.getD l i (0:Int)),Zi v,Zi (↑(List.length l):Int),Zi (↑(x.1):Int)] []) (fun (x:{ x:Nat // x≤List.length l∧(fun (i:Nat)=>firstI (fun (i:Nat)=>List.getD l i (0:Int)==v) (List.length l) 0=firstI (fun (i:Nat)=>List.getD l i (0:Int)==v) (List.length l - i) i) x })=>List.length l - x.1) (⟨0,⟨Nat.zero_le (List.length l),rfl⟩⟩) ([0,1,7,8]) ([]) ([AV.isl 1 (List.length l) fun (i x:Nat)=>Zi (List.getD l i (0:Int)),Zi v,Zi (↑(List.length l):Int),Zi 0]) ([]) (fun x0=>(.br (decide ((↑x0.1:Int)<(↑(List.length l):Int))) (.req ((0:Int)≤(↑x0.1:Int)∧(↑x0.1:Int)<(↑(List.length l):Int)) (.br (v==List.getD l (Int.toNat (↑x0.1:Int)) (0:Int)) (.out (Zi (↑x0.1:Int)) [] y0 []) (.again (Again 0 (fun (x:{ x:Nat // x≤List.length l∧(fun (i:Nat)=>firstI (fun (i:Nat)=>List.getD l i (0:Int)==v) (List.length l) 0=firstI (fun (i:Nat)=>List.getD l i (0:Int)==v) (List.length l - i) i) x })=>mkSt [0,1,7,8] [AV.isl 1 (List.length l) fun (i x:Nat)=>Zi (List.getD l i (0:Int)),Zi v,Zi (↑(List.length l):Int),Zi (↑(x.1):Int)] []) (fun (x:{ x:Nat // x≤List.length l∧(fun (i:Nat)=>firstI (fun (i:Nat)=>List.getD l i (0:Int)==v) (List.length l) 0=firstI (fun (i:Nat)=>List.getD l i (0:Int)==v) (List.length l - i) i) x })=>List.length l - x.1) x0) ([0,1,7,8]) ([]) ([AV.isl 1 (List.length l) fun (i x:Nat)=>Zi (List.getD l i (0:Int)),Zi v,Zi (↑(List.length l):Int),Zi (IntKind.wrap IntKind.i64 ((↑x0.1:Int)+1))]) ([])))) (.out (Zi (-1)) [] y0 [])))))
  (by kernel_rfl) ?_
 refine k_loop (fun _ hs=>hs.le (⟨.refl _,.refl _,.refl _,.refl _,trivial⟩) (trivial)) (fun x0=>?_)
 try (have q0:=x0.2;dsimp only at q0)
 refine k_br (fun h1=>?_) (fun h1=>?_)
 ·have g1:=cnd_dec_t h1
  refine k_req (by omega) ?_
  refine k_br (fun h3=>?_) (fun h3=>?_)
  ·have g3:=cnd_beq_t h3
   try simp only [Int.toNat_natCast] at g3
   exact k_out (Ent.of_eq (congrArg _ (first_hit x0.2.2 (by omega) (by simp only [beq_iff_eq];exact g3.symm))))
  ·have g3:=cnd_beq_f h3
   try simp only [Int.toNat_natCast] at g3
   exact k_again (⟨x0.1+1,by omega,first_next x0.2.2 (by omega) (by simp only [beq_eq_false_iff_ne];exact fun e=>g3 e.symm)⟩) (fun _ hs=>hs.le (⟨.refl _,.refl _,.refl _,inc_ent (by omega),trivial⟩) (trivial)) (by dsimp only;omega)
 ·have g1:=cnd_dec_f h1
  exact k_out (Ent.of_eq (congrArg _ (first_miss x0.2.2 (by omega))))
theorem containsN_c (l:List Int) (v:Int) (hn:l.length<9223372036854775808):Pure Tryz.prog gl0 75 [il .i64 l,.int .i64 v] (.bool (decide (v∈l))):=by
 refine pure_sk (own:=ow0) Tryz.func75 (by kernel_rfl) mixed (by kernel_rfl)
  (.sc (true) 149 ([AV.isl 1 (List.length l) fun (i x:Nat)=>Zi (List.getD l i (0:Int)),Zi v]) (Zi (firstI (fun (i:Nat)=>List.getD l i (0:Int)==v) (List.length l) 0)) (.out (AV.bool (decide (firstI (fun (i:Nat)=>List.getD l i (0:Int)==v) (List.length l) 0≥0))) [] (AV.bool (decide (v∈l))) []))
  (by kernel_rfl) ?_
 refine k_sc (indexN_c (l) (v) (by assumption)) ?_
 exact k_out (Ent.of_eq (congrArg _ first_mem))
end Go.Proofs.YtolcfdcoidpieaaGreatDoor
