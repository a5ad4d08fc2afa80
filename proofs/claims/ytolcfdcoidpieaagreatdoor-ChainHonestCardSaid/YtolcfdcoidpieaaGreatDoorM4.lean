/- Part of the proof: HS7, HS8, HS9, HS10, HS11, Tag, HS12, HS13, HS14, HS15, Enc, EnOpen, EnRow, EnArg, Item, Tre. -/
import Derived.Test.YtolcfdcoidpieaaGreatDoorM3
import Derived.Test.YtolcfdcoidpieaaGreatDoorProg
import Derived.Test.YtolcfdcoidpieaaGreatDoorM2
import Derived.ProofKit
import Derived.Deep.Slices
namespace Go.Proofs.YtolcfdcoidpieaaGreatDoor
open Go Go.Am Go.Sp
set_option maxRecDepth 100000
theorem rotl_c (x:Int) (n:Nat) (h0:0<n) (h:n<32):Pure Tryz.prog gl0 292 [.int .u32 x,.int .i64 (IntKind.wrap .i64 (0 - (n:Int)))] (.int .u32 (rotr x n)):=by
 have e:=mask5n h0 h
 refine pure_sk (own:=ow0) Tryz.func292 (by kernel_rfl) mixed (by kernel_rfl)
  (.req ((0:Int)≤IntKind.wrap IntKind.u64 (↑(BitVec.toNat (BitVec.ofInt 64 (IntKind.wrap IntKind.u64 (IntKind.wrap IntKind.i64 ((0:Int) - (↑n:Int)))) &&& BitVec.ofInt 64 (31:Int))):Int)) (.req ((0:Int)≤IntKind.wrap IntKind.u64 ((32:Int) - IntKind.wrap IntKind.u64 (↑(BitVec.toNat (BitVec.ofInt 64 (IntKind.wrap IntKind.u64 (IntKind.wrap IntKind.i64 ((0:Int) - (↑n:Int)))) &&& BitVec.ofInt 64 (31:Int))):Int))) (.out (Zw (IntKind.wrap IntKind.u32 (↑(BitVec.toNat (BitVec.ofInt 32 (IntKind.wrap IntKind.u32 (x*2^min (Int.toNat (IntKind.wrap IntKind.u64 (↑(BitVec.toNat (BitVec.ofInt 64 (IntKind.wrap IntKind.u64 (IntKind.wrap IntKind.i64 ((0:Int) - (↑n:Int)))) &&& BitVec.ofInt 64 (31:Int))):Int))) 32)) ||| BitVec.ofInt 32 (Int.fdiv x ((2:Int)^min (Int.toNat (IntKind.wrap IntKind.u64 ((32:Int) - IntKind.wrap IntKind.u64 (↑(BitVec.toNat (BitVec.ofInt 64 (IntKind.wrap IntKind.u64 (IntKind.wrap IntKind.i64 ((0:Int) - (↑n:Int)))) &&& BitVec.ofInt 64 (31:Int))):Int)))) 32)))):Int))) [] (Zw (rotr x n)) [])))
  (by kernel_rfl) ?_
 refine k_req (by rw [e];omega) ?_
 refine k_req (by rw [e,wu64 (by omega) (by omega)];omega) ?_
 exact k_out (Ent.of_eq (congrArg _ (by rw [e,wu64 (n:=32 - ((32 - n:Nat):Int)) (by omega) (by omega),or_comm32,shr_eq];unfold rotr;rw [show min (Int.toNat (32 - ((32 - n:Nat):Int))) 32=n by omega,show min (Int.toNat ((32 - n:Nat):Int)) 32=32 - n by omega])))
theorem right_c (x:Int) (n:Nat) (h0:0<n) (h:n<32):Pure Tryz.prog gl0 280 [.int .u32 x,.int .i64 n] (.int .u32 (rotr x n)):=by
 refine pure_sk (own:=ow0) Tryz.func280 (by kernel_rfl) mixed (by kernel_rfl)
  (.sc (true) 292 ([Zw x,Zi (IntKind.wrap IntKind.i64 ((0:Int) - (↑n:Int)))]) (Zw (rotr x n)) (.out (Zw (rotr x n)) [] (Zw (rotr x n)) []))
  (by kernel_rfl) ?_
 refine k_sc (rotl_c (x) (n) (by assumption) (by assumption)) ?_
 exact k_out (Ent.of_eq (by rfl))
theorem rright_c (x:Int) (n:Nat) (h0:0<n) (h:n<32):Pure Tryz.prog gl0 263 [.int .u32 x,.int .i64 n] (.int .u32 (rotr x n)):=by
 have e:IntKind.wrap .i64 (32 - (n:Int))=((32 - n:Nat):Int):=by rw [wI (by omega) (by omega)];omega
 refine pure_sk (own:=ow0) Tryz.func263 (by kernel_rfl) mixed (by kernel_rfl)
  (.req ((0:Int)≤(↑n:Int)) (.req ((0:Int)≤IntKind.wrap IntKind.i64 ((32:Int) - (↑n:Int))) (.out (Zw (IntKind.wrap IntKind.u32 (↑(BitVec.toNat (BitVec.ofInt 32 (Int.fdiv x ((2:Int)^min (Int.toNat (↑n:Int)) 32)) ||| BitVec.ofInt 32 (IntKind.wrap IntKind.u32 (x*2^min (Int.toNat (IntKind.wrap IntKind.i64 ((32:Int) - (↑n:Int)))) 32)))):Int))) [] (Zw (rotr x n)) [])))
  (by kernel_rfl) ?_
 refine k_req (by omega) ?_
 refine k_req (by rw [e];omega) ?_
 exact k_out (Ent.of_eq (congrArg _ (by rw [e,shr_eq];unfold rotr;rw [show min (Int.toNat ((32 - n:Nat):Int)) 32=32 - n by omega,show min (Int.toNat (n:Int)) 32=n by omega])))
theorem count_c (n:Int) (h:0≤n) (h':n<18446744073709551616):Pure Tryz.prog gl0 257 [.int .u64 n] (bys 8 (be8 n)):=by
 refine pure_sk (own:=ow0) Tryz.func257 (by kernel_rfl) mixed (by kernel_rfl)
  (.req ((0:Int)≤8∧(8:Int)=(8:Int)∧(↑(1):Int)*8≤140737488355328∧(8:Int)≤9223372036854775807) (.loop ({ x:Nat // x≤8 }) (fun (x:{ x:Nat // x≤8 })=>mkSt [0,3,7,8] [Zu n,AV.osl 0 1 0 8,Zi (↑(8):Int),Zi (↑(x.1):Int)] [some ⟨1,8,true,Rep.fn fun (q x_1:Nat)=>Zb (bif Nat.blt q (x.1) then be8 n q else (0:Int))⟩]) (fun (x:{ x:Nat // x≤8 })=>8 - x.1) (⟨0,Nat.zero_le 8⟩) ([0,3,7,8]) ([8]) ([Zu n,AV.osl 0 1 0 8,Zi (↑(8):Int),Zi 0]) ([some ⟨1,8,true,Rep.fn fun (i j:Nat)=>Zb (intOfAV (atL (zcells (Value.int IntKind.u8 (0:Int))) j))⟩]) (fun x1=>(.br (decide ((↑x1.1:Int)<(↑(8):Int))) (.req ((0:Int)≤IntKind.wrap IntKind.i64 ((56:Int) - IntKind.wrap IntKind.i64 ((8:Int)*(↑x1.1:Int)))) (.req ((0:Int)≤(↑x1.1:Int)∧(↑x1.1:Int)<(↑(8):Int)) (.again (Again 0 (fun (x:{ x:Nat // x≤8 })=>mkSt [0,3,7,8] [Zu n,AV.osl 0 1 0 8,Zi (↑(8):Int),Zi (↑(x.1):Int)] [some ⟨1,8,true,Rep.fn fun (q x_1:Nat)=>Zb (bif Nat.blt q (x.1) then be8 n q else (0:Int))⟩]) (fun (x:{ x:Nat // x≤8 })=>8 - x.1) x1) ([0,3,7,8]) ([0]) ([Zu n,AV.osl 0 1 0 8,Zi (↑(8):Int),Zi (IntKind.wrap IntKind.i64 ((↑x1.1:Int)+1))]) ([some ⟨1,8,true,Rep.fn fun (i j:Nat)=>Zb (bif Nat.beq i (Int.toNat (↑x1.1:Int)+0)&&(Nat.ble 0 j&&Nat.blt j 1) then IntKind.wrap IntKind.u8 (Int.fdiv n ((2:Int)^min (Int.toNat (IntKind.wrap IntKind.i64 ((56:Int) - IntKind.wrap IntKind.i64 ((8:Int)*(↑x1.1:Int))))) 64)) else bif Nat.blt i x1.1 then be8 n i else (0:Int))⟩])))) (.out (AV.isl 1 8 fun (r k:Nat)=>Zb (bif Nat.blt (r+0) x1.1 then be8 n (r+0) else (0:Int))) [] (bys 8 (be8 n)) [])))))
  (by kernel_rfl) ?_
 refine k_req (by omega) ?_
 refine k_loop (fun _ hs=>hs.le (by repeat' (first|exact trivial|(first|exact Ent.refl _|exact inc_ent (by omega)|exact Ent.nil rfl|exact Ent.of_eq (congrArg (AV.osl _ _ _) (by first|omega|(dsimp only;omega)))|exact Ent.of_eq (congrArg (AV.int _) (by first|omega|(dsimp only;omega))))|refine And.intro ?_ ?_)) (⟨⟨rfl,rfl,rfl,fun i j hi hj=>Ent.of_eq (by obtain rfl:j=0:=Nat.lt_one_iff.1 hj;rfl)⟩,trivial⟩)) (fun x1=>?_)
 try (have q1:=x1.2;dsimp only at q1)
 refine k_br (fun h2=>?_) (fun h2=>?_)
 ·have g2:=cnd_dec_t h2
  refine k_req (by rw [wI (n:=8*(x1.1:Int)) (by omega) (by omega),wI (by omega) (by omega)];omega) ?_
  refine k_req (by omega) ?_
  exact k_again (⟨x1.1+1,by omega⟩) (fun _ hs=>hs.le (by repeat' (first|exact trivial|(first|exact Ent.refl _|exact inc_ent (by omega)|exact Ent.nil rfl|exact Ent.of_eq (congrArg (AV.osl _ _ _) (by first|omega|(dsimp only;omega)))|exact Ent.of_eq (congrArg (AV.int _) (by first|omega|(dsimp only;omega))))|refine And.intro ?_ ?_)) (⟨ObEnt.fillF (be8_w (by omega)),trivial⟩)) (by (dsimp only;omega))
 ·have g2:=cnd_dec_f h2
  exact k_out (bys_eq rfl (fun i hi=>by rw [blt_t (by omega)];rfl))
theorem rbytes_c (n:Int) (h:0≤n) (h':n<9223372036854775808):Pure Tryz.prog gl0 282 [.int .i64 n] (bys 8 (be8 n)):=by
 refine pure_sk (own:=ow0) Tryz.func282 (by kernel_rfl) mixed (by kernel_rfl)
  (.loop ({ x:Nat // x≤8 }) (fun (x:{ x:Nat // x≤8 })=>mkSt [0,3,4] [Zi n,AV.osl 0 1 0 (x.1),Zi ((7:Int) - (↑(x.1):Int))] [some ⟨1,x.1,true,Rep.fn fun (q x:Nat)=>Zb (be8 n q)⟩]) (fun (x:{ x:Nat // x≤8 })=>8 - x.1) (⟨0,Nat.zero_le 8⟩) ([0,3,4]) ([280]) ([Zi n,AV.nsl,Zi 7]) ([some ⟨1,0,true,Rep.lst []⟩]) (fun x0=>(.br (decide ((7:Int) - (↑x0.1:Int)≥0)) (.req ((0:Int)≤IntKind.wrap IntKind.i64 ((8:Int)*((7:Int) - (↑x0.1:Int)))) (.req ((x0.1+1)*1≤140737488355328) (.again (Again 0 (fun (x:{ x:Nat // x≤8 })=>mkSt [0,3,4] [Zi n,AV.osl 0 1 0 (x.1),Zi ((7:Int) - (↑(x.1):Int))] [some ⟨1,x.1,true,Rep.fn fun (q x:Nat)=>Zb (be8 n q)⟩]) (fun (x:{ x:Nat // x≤8 })=>8 - x.1) x0) ([0,3,4]) ([73]) ([Zi n,AV.osl 0 1 0 (x0.1+1),Zi (IntKind.wrap IntKind.i64 ((7:Int) - (↑x0.1:Int) - 1))]) ([some ⟨1,x0.1+1,true,Rep.fn fun (i j:Nat)=>Zb (bif Nat.blt i x0.1 then be8 n i else intOfAV (atL [Zb (IntKind.wrap IntKind.u8 (Int.fdiv n ((2:Int)^min (Int.toNat (IntKind.wrap IntKind.i64 ((8:Int)*((7:Int) - (↑x0.1:Int))))) 64)))] j))⟩])))) (.out (AV.isl 1 x0.1 fun (r k:Nat)=>Zb (be8 n (r+0))) [] (bys 8 (be8 n)) []))))
  (by kernel_rfl) ?_
 refine k_loop (fun _ hs=>hs.le (by repeat' (first|exact trivial|(first|exact Ent.refl _|exact inc_ent (by omega)|exact Ent.nil rfl|exact Ent.of_eq (congrArg (AV.osl _ _ _) (by first|omega|(dsimp only;omega)))|exact Ent.of_eq (congrArg (AV.int _) (by first|omega|(dsimp only;omega))))|refine And.intro ?_ ?_)) (by repeat' (first|exact trivial|(first|exact ObEnt.refl _|exact ObEnt.junk|exact ObEnt.zero|exact ObEnt.push rfl rfl|exact ObEnt.pushRow rfl|exact ObEnt.len (by omega)|exact ObEnt.row (by repeat' (first|exact trivial|(first|exact Ent.refl _|exact inc_ent (by omega)|exact Ent.nil rfl|exact Ent.of_eq (congrArg (AV.osl _ _ _) (by first|omega|(dsimp only;omega)))|exact Ent.of_eq (congrArg (AV.int _) (by first|omega|(dsimp only;omega))))|refine And.intro ?_ ?_)))|refine And.intro ?_ ?_))) (fun x0=>?_)
 try (have q0:=x0.2;dsimp only at q0)
 refine k_br (fun h1=>?_) (fun h1=>?_)
 ·have g1:=cnd_dec_t h1
  refine k_req (by rw [wI (by omega) (by omega)];omega) ?_
  refine k_req (by omega) ?_
  exact k_again (⟨x0.1+1,by omega⟩) (fun _ hs=>hs.le (⟨by exact Ent.refl _,by exact Ent.refl _,Ent.of_eq (congrArg _ (by rw [wI (by omega) (by omega)];dsimp only;omega)),trivial⟩) (⟨ObEnt.pushF rfl (be8_v (by omega)),trivial⟩)) (by (dsimp only;omega))
 ·have g1:=cnd_dec_f h1
  exact k_out (bys_eq (by omega) (fun i hi=>rfl))
theorem schedule_c (b:Nat→Int) (hb:byB b 64):Pure Tryz.prog gl0 279 [bys 64 b] (.agg ((List.range 64).map fun j=>.int .u32 (wordF b j))):=by
 refine pure_sk (own:=ow0) Tryz.func279 (by kernel_rfl) mixed (by kernel_rfl)
  (let y0:List AV:=[Zw 0,Zw 0,Zw 0,Zw 0,Zw 0,Zw 0,Zw 0,Zw 0,Zw 0,Zw 0,Zw 0,Zw 0,Zw 0,Zw 0,Zw 0,Zw 0,Zw 0,Zw 0,Zw 0,Zw 0,Zw 0,Zw 0,Zw 0,Zw 0,Zw 0,Zw 0,Zw 0,Zw 0,Zw 0,Zw 0,Zw 0,Zw 0,Zw 0,Zw 0,Zw 0,Zw 0,Zw 0,Zw 0,Zw 0,Zw 0,Zw 0,Zw 0,Zw 0,Zw 0,Zw 0,Zw 0,Zw 0,Zw 0,Zw 0,Zw 0,Zw 0,Zw 0,Zw 0,Zw 0,Zw 0,Zw 0,Zw 0,Zw 0,Zw 0,Zw 0,Zw 0,Zw 0,Zw 0,Zw 0];(.loop ({ x:Nat // x≤16 }) (fun (x:{ x:Nat // x≤16 })=>mkSt [0,2,3,12] [AV.isl 1 64 fun (i x:Nat)=>Zb (b i),AV.own 0 64 0 0 64,AV.own 1 64 0 0 64,Zi (↑(x.1):Int)] [some ⟨64,1,true,Rep.lst [y0]⟩,some ⟨64,1,true,Rep.fn fun (x_1 j:Nat)=>Zw (bif Nat.blt j (x.1) then be4 b j else (0:Int))⟩]) (fun (x:{ x:Nat // x≤16 })=>16 - x.1) (⟨0,Nat.zero_le 16⟩) ([0,2,3,12]) ([0,8]) ([AV.isl 1 64 fun (i x:Nat)=>Zb (b i),AV.own 0 64 0 0 64,AV.own 1 64 0 0 64,Zi 0]) ([some ⟨64,1,true,Rep.lst [y0]⟩,some ⟨64,1,true,Rep.lst [y0]⟩]) (fun x0=>(.br (decide ((↑x0.1:Int)<16)) (.req ((0:Int)≤IntKind.wrap IntKind.i64 ((4:Int)*(↑x0.1:Int))∧IntKind.wrap IntKind.i64 ((4:Int)*(↑x0.1:Int))≤IntKind.wrap IntKind.i64 (IntKind.wrap IntKind.i64 ((4:Int)*(↑x0.1:Int))+4)∧IntKind.wrap IntKind.i64 (IntKind.wrap IntKind.i64 ((4:Int)*(↑x0.1:Int))+4)≤(↑(64):Int)) (.loop ({ x:Nat // x≤4 }) (fun (x:{ x:Nat // x≤4 })=>mkSt [0,2,3,4,12,21,22,23] [AV.isl 1 64 fun (i x:Nat)=>Zb (b i),AV.own 0 64 0 0 64,AV.own 1 64 0 0 64,Zi (↑x0.1:Int),Zi (↑x0.1:Int),bys 4 fun (q:Nat)=>b (4*x0.1+q),Zi (↑(4:Nat):Int),Zi (↑(x.1):Int)] [some ⟨64,1,true,Rep.lst [y0]⟩,some ⟨64,1,true,Rep.fn fun (x_1 j:Nat)=>Zw (bif Nat.beq j (x0.1) then preB b (x0.1) (x.1) else bif Nat.blt j (x0.1) then be4 b j else (0:Int))⟩]) (fun (x:{ x:Nat // x≤4 })=>4 - x.1) (⟨0,Nat.zero_le 4⟩) ([0,2,3,4,12,21,22,23]) ([0,1]) ([AV.isl 1 64 fun (i x:Nat)=>Zb (b i),AV.own 0 64 0 0 64,AV.own 1 64 0 0 64,Zi (↑x0.1:Int),Zi (↑x0.1:Int),AV.isl 1 (Int.toNat (IntKind.wrap IntKind.i64 (IntKind.wrap IntKind.i64 ((4:Int)*(↑x0.1:Int))+4)) - Int.toNat (IntKind.wrap IntKind.i64 ((4:Int)*(↑x0.1:Int)))) fun (i j:Nat)=>Zb (b (i+Int.toNat (IntKind.wrap IntKind.i64 ((4:Int)*(↑x0.1:Int))))),Zi (↑(Int.toNat (IntKind.wrap IntKind.i64 (IntKind.wrap IntKind.i64 ((4:Int)*(↑x0.1:Int))+4)) - Int.toNat (IntKind.wrap IntKind.i64 ((4:Int)*(↑x0.1:Int)))):Int),Zi 0]) ([some ⟨64,1,true,Rep.lst [y0]⟩,some ⟨64,1,true,Rep.fn fun (i j:Nat)=>Zw (bif Nat.blt j (x0.1) then be4 b j else (0:Int))⟩]) (fun x3=>(.br (decide ((↑x3.1:Int)<(↑(4):Int))) (.req ((0:Int)≤(↑x3.1:Int)∧(↑x3.1:Int)<(↑(4):Int)) (.req ((0:Int)≤(↑x0.1:Int)∧(↑x0.1:Int)<(↑(64):Int)) (.req ((0:Int)≤(↑x0.1:Int)∧(↑x0.1:Int)<(↑(64):Int)) (.again (Again 0 (fun (x:{ x:Nat // x≤4 })=>mkSt [0,2,3,4,12,21,22,23] [AV.isl 1 64 fun (i x:Nat)=>Zb (b i),AV.own 0 64 0 0 64,AV.own 1 64 0 0 64,Zi (↑x0.1:Int),Zi (↑x0.1:Int),bys 4 fun (q:Nat)=>b (4*x0.1+q),Zi (↑(4:Nat):Int),Zi (↑(x.1):Int)] [some ⟨64,1,true,Rep.lst [y0]⟩,some ⟨64,1,true,Rep.fn fun (x_1 j:Nat)=>Zw (bif Nat.beq j (x0.1) then preB b (x0.1) (x.1) else bif Nat.blt j (x0.1) then be4 b j else (0:Int))⟩]) (fun (x:{ x:Nat // x≤4 })=>4 - x.1) x3) ([0,2,3,4,12,21,22,23]) ([0,1]) ([AV.isl 1 64 fun (i x:Nat)=>Zb (b i),AV.own 0 64 0 0 64,AV.own 1 64 0 0 64,Zi (↑x0.1:Int),Zi (↑x0.1:Int),AV.isl 1 4 fun (i x:Nat)=>Zb (b (4*x0.1+i)),Zi (↑(4):Int),Zi (IntKind.wrap IntKind.i64 ((↑x3.1:Int)+1))]) ([some ⟨64,1,true,Rep.lst [y0]⟩,some ⟨64,1,true,Rep.fn fun (i j:Nat)=>Zw (bif Nat.beq i 0&&Nat.beq j (0+Int.toNat (↑x0.1:Int)) then IntKind.wrap IntKind.u32 (↑(BitVec.toNat (BitVec.ofInt 32 (IntKind.wrap IntKind.u32 ((bif Nat.beq (0+Int.toNat (↑x0.1:Int)) x0.1 then preB b x0.1 x3.1 else bif Nat.blt (0+Int.toNat (↑x0.1:Int)) x0.1 then be4 b (0+Int.toNat (↑x0.1:Int)) else (0:Int))*2^8)) ||| BitVec.ofInt 32 (IntKind.wrap IntKind.u32 (b (4*x0.1+Int.toNat (↑x3.1:Int)))))):Int) else bif Nat.beq j x0.1 then preB b x0.1 x3.1 else bif Nat.blt j x0.1 then be4 b j else (0:Int))⟩]))))) (.again (Again 0 (fun (x:{ x:Nat // x≤16 })=>mkSt [0,2,3,12] [AV.isl 1 64 fun (i x:Nat)=>Zb (b i),AV.own 0 64 0 0 64,AV.own 1 64 0 0 64,Zi (↑(x.1):Int)] [some ⟨64,1,true,Rep.lst [y0]⟩,some ⟨64,1,true,Rep.fn fun (x_1 j:Nat)=>Zw (bif Nat.blt j (x.1) then be4 b j else (0:Int))⟩]) (fun (x:{ x:Nat // x≤16 })=>16 - x.1) x0) ([0,2,3,12]) ([0,1]) ([AV.isl 1 64 fun (i x:Nat)=>Zb (b i),AV.own 0 64 0 0 64,AV.own 1 64 0 0 64,Zi (IntKind.wrap IntKind.i64 ((↑x0.1:Int)+1))]) ([some ⟨64,1,true,Rep.lst [y0]⟩,some ⟨64,1,true,Rep.fn fun (i j:Nat)=>Zw (bif Nat.beq j x0.1 then preB b x0.1 x3.1 else bif Nat.blt j x0.1 then be4 b j else (0:Int))⟩])))))) (.loop ({ x:Nat // x≤48 }) (fun (x:{ x:Nat // x≤48 })=>mkSt [2,3,7] [AV.own 0 64 0 0 64,AV.own 1 64 0 0 64,Zi (↑(16+x.1):Int)] [some ⟨64,1,true,Rep.lst [y0]⟩,some ⟨64,1,true,Rep.fn fun (x_1 j:Nat)=>Zw (bif Nat.blt j (16+x.1) then wordF b j else (0:Int))⟩]) (fun (x:{ x:Nat // x≤48 })=>48 - x.1) (⟨0,Nat.zero_le 48⟩) ([2,3,7]) ([0,1]) ([AV.own 0 64 0 0 64,AV.own 1 64 0 0 64,Zi 16]) ([some ⟨64,1,true,Rep.lst [y0]⟩,some ⟨64,1,true,Rep.fn fun (i j:Nat)=>Zw (bif Nat.blt j (x0.1) then be4 b j else (0:Int))⟩]) (fun x10=>(.br (decide ((↑(16+x10.1):Int)<64)) (.req ((0:Int)≤IntKind.wrap IntKind.i64 ((↑(16+x10.1):Int) - 15)∧IntKind.wrap IntKind.i64 ((↑(16+x10.1):Int) - 15)<(↑(64):Int)) (.req ((0:Int)≤IntKind.wrap IntKind.i64 ((↑(16+x10.1):Int) - 2)∧IntKind.wrap IntKind.i64 ((↑(16+x10.1):Int) - 2)<(↑(64):Int)) (.sc (true) 280 ([Zw (bif Nat.blt (0+Int.toNat (IntKind.wrap IntKind.i64 ((↑(16+x10.1):Int) - 15))) (16+x10.1) then wordF b (0+Int.toNat (IntKind.wrap IntKind.i64 ((↑(16+x10.1):Int) - 15))) else (0:Int)),Zi 7]) (Zw (rotr (bif Nat.blt (0+Int.toNat (IntKind.wrap IntKind.i64 ((↑(16+x10.1):Int) - 15))) (16+x10.1) then wordF b (0+Int.toNat (IntKind.wrap IntKind.i64 ((↑(16+x10.1):Int) - 15))) else (0:Int)) 7)) (.sc (true) 280 ([Zw (bif Nat.blt (0+Int.toNat (IntKind.wrap IntKind.i64 ((↑(16+x10.1):Int) - 15))) (16+x10.1) then wordF b (0+Int.toNat (IntKind.wrap IntKind.i64 ((↑(16+x10.1):Int) - 15))) else (0:Int)),Zi 18]) (Zw (rotr (bif Nat.blt (0+Int.toNat (IntKind.wrap IntKind.i64 ((↑(16+x10.1):Int) - 15))) (16+x10.1) then wordF b (0+Int.toNat (IntKind.wrap IntKind.i64 ((↑(16+x10.1):Int) - 15))) else (0:Int)) 18)) (.sc (true) 280 ([Zw (bif Nat.blt (0+Int.toNat (IntKind.wrap IntKind.i64 ((↑(16+x10.1):Int) - 2))) (16+x10.1) then wordF b (0+Int.toNat (IntKind.wrap IntKind.i64 ((↑(16+x10.1):Int) - 2))) else (0:Int)),Zi 17]) (Zw (rotr (bif Nat.blt (0+Int.toNat (IntKind.wrap IntKind.i64 ((↑(16+x10.1):Int) - 2))) (16+x10.1) then wordF b (0+Int.toNat (IntKind.wrap IntKind.i64 ((↑(16+x10.1):Int) - 2))) else (0:Int)) 17)) (.sc (true) 280 ([Zw (bif Nat.blt (0+Int.toNat (IntKind.wrap IntKind.i64 ((↑(16+x10.1):Int) - 2))) (16+x10.1) then wordF b (0+Int.toNat (IntKind.wrap IntKind.i64 ((↑(16+x10.1):Int) - 2))) else (0:Int)),Zi 19]) (Zw (rotr (bif Nat.blt (0+Int.toNat (IntKind.wrap IntKind.i64 ((↑(16+x10.1):Int) - 2))) (16+x10.1) then wordF b (0+Int.toNat (IntKind.wrap IntKind.i64 ((↑(16+x10.1):Int) - 2))) else (0:Int)) 19)) (.req ((0:Int)≤IntKind.wrap IntKind.i64 ((↑(16+x10.1):Int) - 16)∧IntKind.wrap IntKind.i64 ((↑(16+x10.1):Int) - 16)<(↑(64):Int)) (.req ((0:Int)≤IntKind.wrap IntKind.i64 ((↑(16+x10.1):Int) - 7)∧IntKind.wrap IntKind.i64 ((↑(16+x10.1):Int) - 7)<(↑(64):Int)) (.req ((0:Int)≤(↑(16+x10.1):Int)∧(↑(16+x10.1):Int)<(↑(64):Int)) (.again (Again 0 (fun (x:{ x:Nat // x≤48 })=>mkSt [2,3,7] [AV.own 0 64 0 0 64,AV.own 1 64 0 0 64,Zi (↑(16+x.1):Int)] [some ⟨64,1,true,Rep.lst [y0]⟩,some ⟨64,1,true,Rep.fn fun (x_1 j:Nat)=>Zw (bif Nat.blt j (16+x.1) then wordF b j else (0:Int))⟩]) (fun (x:{ x:Nat // x≤48 })=>48 - x.1) x10) ([2,3,7]) ([0,1]) ([AV.own 0 64 0 0 64,AV.own 1 64 0 0 64,Zi (IntKind.wrap IntKind.i64 ((↑(16+x10.1):Int)+1))]) ([some ⟨64,1,true,Rep.lst [y0]⟩,some ⟨64,1,true,Rep.fn fun (i j:Nat)=>Zw (bif Nat.beq i 0&&Nat.beq j (0+Int.toNat (↑(16+x10.1):Int)) then IntKind.wrap IntKind.u32 (IntKind.wrap IntKind.u32 (IntKind.wrap IntKind.u32 ((bif Nat.blt (0+Int.toNat (IntKind.wrap IntKind.i64 ((↑(16+x10.1):Int) - 16))) (16+x10.1) then wordF b (0+Int.toNat (IntKind.wrap IntKind.i64 ((↑(16+x10.1):Int) - 16))) else (0:Int))+IntKind.wrap IntKind.u32 (↑(BitVec.toNat (BitVec.ofInt 32 (IntKind.wrap IntKind.u32 (↑(BitVec.toNat (BitVec.ofInt 32 (rotr (bif Nat.blt (0+Int.toNat (IntKind.wrap IntKind.i64 ((↑(16+x10.1):Int) - 15))) (16+x10.1) then wordF b (0+Int.toNat (IntKind.wrap IntKind.i64 ((↑(16+x10.1):Int) - 15))) else (0:Int)) 7) ^^^ BitVec.ofInt 32 (rotr (bif Nat.blt (0+Int.toNat (IntKind.wrap IntKind.i64 ((↑(16+x10.1):Int) - 15))) (16+x10.1) then wordF b (0+Int.toNat (IntKind.wrap IntKind.i64 ((↑(16+x10.1):Int) - 15))) else (0:Int)) 18))):Int)) ^^^ BitVec.ofInt 32 (Int.fdiv (bif Nat.blt (0+Int.toNat (IntKind.wrap IntKind.i64 ((↑(16+x10.1):Int) - 15))) (16+x10.1) then wordF b (0+Int.toNat (IntKind.wrap IntKind.i64 ((↑(16+x10.1):Int) - 15))) else (0:Int)) ((2:Int)^3)))):Int))+bif Nat.blt (0+Int.toNat (IntKind.wrap IntKind.i64 ((↑(16+x10.1):Int) - 7))) (16+x10.1) then wordF b (0+Int.toNat (IntKind.wrap IntKind.i64 ((↑(16+x10.1):Int) - 7))) else (0:Int))+IntKind.wrap IntKind.u32 (↑(BitVec.toNat (BitVec.ofInt 32 (IntKind.wrap IntKind.u32 (↑(BitVec.toNat (BitVec.ofInt 32 (rotr (bif Nat.blt (0+Int.toNat (IntKind.wrap IntKind.i64 ((↑(16+x10.1):Int) - 2))) (16+x10.1) then wordF b (0+Int.toNat (IntKind.wrap IntKind.i64 ((↑(16+x10.1):Int) - 2))) else (0:Int)) 17) ^^^ BitVec.ofInt 32 (rotr (bif Nat.blt (0+Int.toNat (IntKind.wrap IntKind.i64 ((↑(16+x10.1):Int) - 2))) (16+x10.1) then wordF b (0+Int.toNat (IntKind.wrap IntKind.i64 ((↑(16+x10.1):Int) - 2))) else (0:Int)) 19))):Int)) ^^^ BitVec.ofInt 32 (Int.fdiv (bif Nat.blt (0+Int.toNat (IntKind.wrap IntKind.i64 ((↑(16+x10.1):Int) - 2))) (16+x10.1) then wordF b (0+Int.toNat (IntKind.wrap IntKind.i64 ((↑(16+x10.1):Int) - 2))) else (0:Int)) ((2:Int)^10)))):Int)) else bif Nat.blt j (16+x10.1) then wordF b j else (0:Int))⟩]))))))))))) (.out (AV.agg [Zw (bif Nat.blt 0 (16+x10.1) then wordF b 0 else (0:Int)),Zw (bif Nat.blt 1 (16+x10.1) then wordF b 1 else (0:Int)),Zw (bif Nat.blt 2 (16+x10.1) then wordF b 2 else (0:Int)),Zw (bif Nat.blt 3 (16+x10.1) then wordF b 3 else (0:Int)),Zw (bif Nat.blt 4 (16+x10.1) then wordF b 4 else (0:Int)),Zw (bif Nat.blt 5 (16+x10.1) then wordF b 5 else (0:Int)),Zw (bif Nat.blt 6 (16+x10.1) then wordF b 6 else (0:Int)),Zw (bif Nat.blt 7 (16+x10.1) then wordF b 7 else (0:Int)),Zw (bif Nat.blt 8 (16+x10.1) then wordF b 8 else (0:Int)),Zw (bif Nat.blt 9 (16+x10.1) then wordF b 9 else (0:Int)),Zw (bif Nat.blt 10 (16+x10.1) then wordF b 10 else (0:Int)),Zw (bif Nat.blt 11 (16+x10.1) then wordF b 11 else (0:Int)),Zw (bif Nat.blt 12 (16+x10.1) then wordF b 12 else (0:Int)),Zw (bif Nat.blt 13 (16+x10.1) then wordF b 13 else (0:Int)),Zw (bif Nat.blt 14 (16+x10.1) then wordF b 14 else (0:Int)),Zw (bif Nat.blt 15 (16+x10.1) then wordF b 15 else (0:Int)),Zw (bif Nat.blt 16 (16+x10.1) then wordF b 16 else (0:Int)),Zw (bif Nat.blt 17 (16+x10.1) then wordF b 17 else (0:Int)),Zw (bif Nat.blt 18 (16+x10.1) then wordF b 18 else (0:Int)),Zw (bif Nat.blt 19 (16+x10.1) then wordF b 19 else (0:Int)),Zw (bif Nat.blt 20 (16+x10.1) then wordF b 20 else (0:Int)),Zw (bif Nat.blt 21 (16+x10.1) then wordF b 21 else (0:Int)),Zw (bif Nat.blt 22 (16+x10.1) then wordF b 22 else (0:Int)),Zw (bif Nat.blt 23 (16+x10.1) then wordF b 23 else (0:Int)),Zw (bif Nat.blt 24 (16+x10.1) then wordF b 24 else (0:Int)),Zw (bif Nat.blt 25 (16+x10.1) then wordF b 25 else (0:Int)),Zw (bif Nat.blt 26 (16+x10.1) then wordF b 26 else (0:Int)),Zw (bif Nat.blt 27 (16+x10.1) then wordF b 27 else (0:Int)),Zw (bif Nat.blt 28 (16+x10.1) then wordF b 28 else (0:Int)),Zw (bif Nat.blt 29 (16+x10.1) then wordF b 29 else (0:Int)),Zw (bif Nat.blt 30 (16+x10.1) then wordF b 30 else (0:Int)),Zw (bif Nat.blt 31 (16+x10.1) then wordF b 31 else (0:Int)),Zw (bif Nat.blt 32 (16+x10.1) then wordF b 32 else (0:Int)),Zw (bif Nat.blt 33 (16+x10.1) then wordF b 33 else (0:Int)),Zw (bif Nat.blt 34 (16+x10.1) then wordF b 34 else (0:Int)),Zw (bif Nat.blt 35 (16+x10.1) then wordF b 35 else (0:Int)),Zw (bif Nat.blt 36 (16+x10.1) then wordF b 36 else (0:Int)),Zw (bif Nat.blt 37 (16+x10.1) then wordF b 37 else (0:Int)),Zw (bif Nat.blt 38 (16+x10.1) then wordF b 38 else (0:Int)),Zw (bif Nat.blt 39 (16+x10.1) then wordF b 39 else (0:Int)),Zw (bif Nat.blt 40 (16+x10.1) then wordF b 40 else (0:Int)),Zw (bif Nat.blt 41 (16+x10.1) then wordF b 41 else (0:Int)),Zw (bif Nat.blt 42 (16+x10.1) then wordF b 42 else (0:Int)),Zw (bif Nat.blt 43 (16+x10.1) then wordF b 43 else (0:Int)),Zw (bif Nat.blt 44 (16+x10.1) then wordF b 44 else (0:Int)),Zw (bif Nat.blt 45 (16+x10.1) then wordF b 45 else (0:Int)),Zw (bif Nat.blt 46 (16+x10.1) then wordF b 46 else (0:Int)),Zw (bif Nat.blt 47 (16+x10.1) then wordF b 47 else (0:Int)),Zw (bif Nat.blt 48 (16+x10.1) then wordF b 48 else (0:Int)),Zw (bif Nat.blt 49 (16+x10.1) then wordF b 49 else (0:Int)),Zw (bif Nat.blt 50 (16+x10.1) then wordF b 50 else (0:Int)),Zw (bif Nat.blt 51 (16+x10.1) then wordF b 51 else (0:Int)),Zw (bif Nat.blt 52 (16+x10.1) then wordF b 52 else (0:Int)),Zw (bif Nat.blt 53 (16+x10.1) then wordF b 53 else (0:Int)),Zw (bif Nat.blt 54 (16+x10.1) then wordF b 54 else (0:Int)),Zw (bif Nat.blt 55 (16+x10.1) then wordF b 55 else (0:Int)),Zw (bif Nat.blt 56 (16+x10.1) then wordF b 56 else (0:Int)),Zw (bif Nat.blt 57 (16+x10.1) then wordF b 57 else (0:Int)),Zw (bif Nat.blt 58 (16+x10.1) then wordF b 58 else (0:Int)),Zw (bif Nat.blt 59 (16+x10.1) then wordF b 59 else (0:Int)),Zw (bif Nat.blt 60 (16+x10.1) then wordF b 60 else (0:Int)),Zw (bif Nat.blt 61 (16+x10.1) then wordF b 61 else (0:Int)),Zw (bif Nat.blt 62 (16+x10.1) then wordF b 62 else (0:Int)),Zw (bif Nat.blt 63 (16+x10.1) then wordF b 63 else (0:Int))]) [] (AV.agg (List.map (fun (j:Nat)=>Zw (wordF b j)) (List.range 64))) []))))))))
  (by kernel_rfl) ?_
 refine k_loop (fun _ hs=>hs.le (⟨.refl _,.refl _,.refl _,.refl _,trivial⟩) (⟨.refl _,zero_ob (fun j=>rfl),trivial⟩)) (fun x0=>?_)
 try (have q0:=x0.2;dsimp only at q0)
 refine k_br (fun h1=>?_) (fun h1=>?_)
 ·have g1:=cnd_dec_t h1
  refine k_req (by rw [(w4 (by omega)).1,(w4 (by omega)).2];omega) ?_
  refine k_loop (fun _ hs=>hs.le (⟨.refl _,.refl _,.refl _,.refl _,.refl _,bys_eq (by rw [(w4 (by omega)).1,(w4 (by omega)).2];omega) (fun i hi=>congrArg b (by rw [(w4 (by omega)).1];omega)),Ent.of_eq (congrArg _ (by rw [(w4 (by omega)).1,(w4 (by omega)).2];omega)),.refl _,trivial⟩) (⟨.refl _,ObEnt.fnR (fun j hj=>by (by_cases e:j=x0.1;(subst e;rw [Nat.beq_refl,blt_f (Nat.le_refl _)];rfl);(rw [beq_f e];rfl))),trivial⟩)) (fun x3=>?_)
  try (have q3:=x3.2;dsimp only at q3)
  refine k_br (fun h4=>?_) (fun h4=>?_)
  ·have g4:=cnd_dec_t h4
   refine k_req (by omega) ?_
   refine k_req (by omega) ?_
   refine k_req (by omega) ?_
   exact k_again (⟨x3.1+1,by omega⟩) (fun _ hs=>hs.le (⟨.refl _,.refl _,.refl _,.refl _,.refl _,.refl _,.refl _,inc_ent (by omega),trivial⟩) (⟨.refl _,ObEnt.setR (P:=fun i j=>Nat.beq i 0&&Nat.beq j (0+Int.toNat ((x0.1:Nat):Int))) (c0:=x0.1) (G:=fun j=>bif Nat.beq j x0.1 then preB b x0.1 (x3.1+1) else bif Nat.blt j x0.1 then be4 b j else 0) (fun j _=>by show (true&&Nat.beq j (0+x0.1))=_;rw [Nat.zero_add];rfl) (by simp only [Nat.zero_add,Int.toNat_natCast,Nat.beq_refl,cond_true];have p:=pre_b24 (k:=x3.1) hb (show x0.1<16 by omega) (by omega);have q:=hb (4*x0.1+x3.1) (by omega);exact pre_step p.1 p.2 q.1 q.2) (fun j _ he=>by simp only [beq_f he];rfl),trivial⟩)) (by dsimp only;omega)
  ·have g4:=cnd_dec_f h4
   exact k_again (⟨x0.1+1,by omega⟩) (fun _ hs=>hs.le (⟨.refl _,.refl _,.refl _,inc_ent (by omega),trivial⟩) (⟨.refl _,ObEnt.fnR (fun j hj=>by
                                                                                                     have e4:x3.1=4:=by omega
                                                                                                     rw [e4]
                                                                                                     show (bif Nat.beq j x0.1 then preB b x0.1 4 else bif Nat.blt j x0.1 then be4 b j else 0)=bif Nat.blt j (x0.1+1) then be4 b j else 0
                                                                                                     by_cases e:j=x0.1
                                                                                                     · subst e;rw [Nat.beq_refl,blt_t (Nat.lt_succ_self _)];rfl
                                                                                                     · rw [beq_f e];exact fill_step e),trivial⟩)) (by dsimp only;omega)
 ·have g1:=cnd_dec_f h1
  refine k_loop (fun _ hs=>hs.le (⟨.refl _,.refl _,.refl _,trivial⟩) (⟨.refl _,ObEnt.fnR (fun j hj=>by
                                                                                                     have e:x0.1=16:=by omega
                                                                                                     rw [e]
                                                                                                     show (bif Nat.blt j 16 then be4 b j else 0)=bif Nat.blt j 16 then wordF b j else 0
                                                                                                     by_cases h:j<16
                                                                                                     · rw [word_lo h]
                                                                                                     · rw [blt_f (by omega)];rfl),trivial⟩)) (fun x10=>?_)
  refine k_br (fun h11=>?_) (fun h11=>?_)
  ·have g11:=cnd_dec_t h11
   refine k_req (by rw [wI (by omega) (by omega)];omega) ?_
   refine k_req (by rw [wI (by omega) (by omega)];omega) ?_
   refine k_sc ((fun (x:Int)=>right_c x (7:Nat)) (bif Nat.blt (0+Int.toNat (IntKind.wrap IntKind.i64 ((↑(16+x10.1):Int) - (15:Int)))) (16+x10.1) then wordF b (0+Int.toNat (IntKind.wrap IntKind.i64 ((↑(16+x10.1):Int) - (15:Int)))) else (0:Int)) (by omega) (by omega)) ?_
   refine k_sc ((fun (x:Int)=>right_c x (18:Nat)) (bif Nat.blt (0+Int.toNat (IntKind.wrap IntKind.i64 ((↑(16+x10.1):Int) - (15:Int)))) (16+x10.1) then wordF b (0+Int.toNat (IntKind.wrap IntKind.i64 ((↑(16+x10.1):Int) - (15:Int)))) else (0:Int)) (by omega) (by omega)) ?_
   refine k_sc ((fun (x:Int)=>right_c x (17:Nat)) (bif Nat.blt (0+Int.toNat (IntKind.wrap IntKind.i64 ((↑(16+x10.1):Int) - (2:Int)))) (16+x10.1) then wordF b (0+Int.toNat (IntKind.wrap IntKind.i64 ((↑(16+x10.1):Int) - (2:Int)))) else (0:Int)) (by omega) (by omega)) ?_
   refine k_sc ((fun (x:Int)=>right_c x (19:Nat)) (bif Nat.blt (0+Int.toNat (IntKind.wrap IntKind.i64 ((↑(16+x10.1):Int) - (2:Int)))) (16+x10.1) then wordF b (0+Int.toNat (IntKind.wrap IntKind.i64 ((↑(16+x10.1):Int) - (2:Int)))) else (0:Int)) (by omega) (by omega)) ?_
   refine k_req (by rw [wI (by omega) (by omega)];omega) ?_
   refine k_req (by rw [wI (by omega) (by omega)];omega) ?_
   refine k_req (by omega) ?_
   exact k_again (⟨x10.1+1,by omega⟩) (fun _ hs=>hs.le (⟨.refl _,.refl _,inc_ent (i:=16+x10.1) (by omega),trivial⟩) (⟨.refl _,ObEnt.setR (P:=fun i j=>Nat.beq i 0&&Nat.beq j (0+Int.toNat ((16+x10.1:Nat):Int))) (c0:=16+x10.1) (G:=fun j=>bif Nat.blt j (16+x10.1+1) then wordF b j else 0) (fun j _=>by show (true&&Nat.beq j (0+(16+x10.1)))=_;rw [Nat.zero_add];rfl) (by
                                                                                                     simp only [back_w (t:=x10.1) (d:=15) (k:=15) rfl (by omega) (by omega),back_w (t:=x10.1) (d:=2) (k:=2) rfl (by omega) (by omega),back_w (t:=x10.1) (d:=7) (k:=7) rfl (by omega) (by omega),back_w (t:=x10.1) (d:=16) (k:=16) rfl (by omega) (by omega),Nat.zero_add,shr_eq]
                                                                                                     simp only [blt_t (show 16+x10.1 - 15<16+x10.1 by omega),blt_t (show 16+x10.1 - 2<16+x10.1 by omega),blt_t (show 16+x10.1 - 7<16+x10.1 by omega),blt_t (show 16+x10.1 - 16<16+x10.1 by omega),blt_t (show 16+x10.1<16+x10.1+1 by omega),cond_true]
                                                                                                     exact (word_hi (j:=16+x10.1) (by omega)).symm) (fun j _ he=>fill_step he),trivial⟩)) (by dsimp only;omega)
  ·have g11:=cnd_dec_f h11
   exact k_out (Ent.of_eq (by
                                                                                                     show AV.agg ((List.range 64).map fun j=>.int .u32 (bif Nat.blt j (16+x10.1) then wordF b j else 0))=_
                                                                                                     exact congrArg AV.agg (List.map_congr_left fun j hj=>by rw [blt_t (by have:=List.mem_range.1 hj;omega)];rfl)))
theorem mix_r (s b w:Nat→Int) (R:Nat→Nat→Int) (hsch:Pure Tryz.prog gl0 279 [bys 64 b] (.agg ((List.range 64).map fun j=>.int .u32 (w j)))) (hR:Rnd s w R):Pure Tryz.prog gl0 258 [.agg ((List.range 8).map fun j=>.int .u32 (s j)),bys 64 b] (.agg ((List.range 8).map fun j=>.int .u32 (add32 (s j) (R 64 j)))):=by
 refine pure_sk (own:=ow0) Tryz.func258 (by kernel_rfl) mixed (by kernel_rfl)
  (let y0:List AV:=[Zw 0,Zw 0,Zw 0,Zw 0,Zw 0,Zw 0,Zw 0,Zw 0];let y1:List AV:=[Zw (s 0),Zw (s 1),Zw (s 2),Zw (s 3),Zw (s 4),Zw (s 5),Zw (s 6),Zw (s 7)];let y2:List (Option Ob):=[some ⟨8,1,true,Rep.lst [y1]⟩,some ⟨8,1,true,Rep.lst [y0]⟩,some ⟨64,1,true,Rep.fn fun (x j:Nat)=>Zw (w j)⟩];let y3:List AV:=[Zw (R 64 0),Zw (R 64 1),Zw (R 64 2),Zw (R 64 3),Zw (R 64 4),Zw (R 64 5),Zw (R 64 6),Zw (R 64 7)];(.sc (true) 279 ([AV.isl 1 64 fun (i x:Nat)=>Zb (b i)]) (AV.agg (List.map (fun (j:Nat)=>Zw (w j)) (List.range 64))) (.req ((0:Int)≤0∧(0:Int)<(↑(8):Int)) (.req ((0:Int)≤1∧(1:Int)<(↑(8):Int)) (.req ((0:Int)≤2∧(2:Int)<(↑(8):Int)) (.req ((0:Int)≤3∧(3:Int)<(↑(8):Int)) (.req ((0:Int)≤4∧(4:Int)<(↑(8):Int)) (.req ((0:Int)≤5∧(5:Int)<(↑(8):Int)) (.req ((0:Int)≤6∧(6:Int)<(↑(8):Int)) (.req ((0:Int)≤7∧(7:Int)<(↑(8):Int)) (.loop ({ x:Nat // x≤64 }) (fun (x:{ x:Nat // x≤64 })=>mkSt [2,4,5,6,7,8,9,10,11,12,13,37] [AV.own 0 8 0 0 8,AV.own 1 8 0 0 8,AV.own 2 64 0 0 64,Zw (R (x.1) 0),Zw (R (x.1) 1),Zw (R (x.1) 2),Zw (R (x.1) 3),Zw (R (x.1) 4),Zw (R (x.1) 5),Zw (R (x.1) 6),Zw (R (x.1) 7),Zi (↑(x.1):Int)] y2) (fun (x:{ x:Nat // x≤64 })=>64 - x.1) (⟨0,Nat.zero_le 64⟩) ([2,4,5,6,7,8,9,10,11,12,13,37]) ([0,8,32]) ([AV.own 0 8 0 0 8,AV.own 1 8 0 0 8,AV.own 2 64 0 0 64,Zw (s 0),Zw (s 1),Zw (s 2),Zw (s 3),Zw (s 4),Zw (s 5),Zw (s 6),Zw (s 7),Zi 0]) ([some ⟨8,1,true,Rep.lst [y1]⟩,some ⟨8,1,true,Rep.lst [y0]⟩,some ⟨64,1,true,Rep.lst [[Zw (w 0),Zw (w 1),Zw (w 2),Zw (w 3),Zw (w 4),Zw (w 5),Zw (w 6),Zw (w 7),Zw (w 8),Zw (w 9),Zw (w 10),Zw (w 11),Zw (w 12),Zw (w 13),Zw (w 14),Zw (w 15),Zw (w 16),Zw (w 17),Zw (w 18),Zw (w 19),Zw (w 20),Zw (w 21),Zw (w 22),Zw (w 23),Zw (w 24),Zw (w 25),Zw (w 26),Zw (w 27),Zw (w 28),Zw (w 29),Zw (w 30),Zw (w 31),Zw (w 32),Zw (w 33),Zw (w 34),Zw (w 35),Zw (w 36),Zw (w 37),Zw (w 38),Zw (w 39),Zw (w 40),Zw (w 41),Zw (w 42),Zw (w 43),Zw (w 44),Zw (w 45),Zw (w 46),Zw (w 47),Zw (w 48),Zw (w 49),Zw (w 50),Zw (w 51),Zw (w 52),Zw (w 53),Zw (w 54),Zw (w 55),Zw (w 56),Zw (w 57),Zw (w 58),Zw (w 59),Zw (w 60),Zw (w 61),Zw (w 62),Zw (w 63)]]⟩]) (fun x9=>(.br (decide ((↑x9.1:Int)<64)) (.sc (true) 280 ([Zw (R x9.1 4),Zi 6]) (Zw (rotr (R x9.1 4) 6)) (.sc (true) 280 ([Zw (R x9.1 4),Zi 11]) (Zw (rotr (R x9.1 4) 11)) (.sc (true) 280 ([Zw (R x9.1 4),Zi 25]) (Zw (rotr (R x9.1 4) 25)) (.req ((0:Int)≤(↑x9.1:Int)∧(↑x9.1:Int)<(↑(64):Int)) (.req ((0:Int)≤(↑x9.1:Int)∧(↑x9.1:Int)<(↑(64):Int)) (.sc (true) 280 ([Zw (R x9.1 0),Zi 2]) (Zw (rotr (R x9.1 0) 2)) (.sc (true) 280 ([Zw (R x9.1 0),Zi 13]) (Zw (rotr (R x9.1 0) 13)) (.sc (true) 280 ([Zw (R x9.1 0),Zi 22]) (Zw (rotr (R x9.1 0) 22)) (.again (Again 0 (fun (x:{ x:Nat // x≤64 })=>mkSt [2,4,5,6,7,8,9,10,11,12,13,37] [AV.own 0 8 0 0 8,AV.own 1 8 0 0 8,AV.own 2 64 0 0 64,Zw (R (x.1) 0),Zw (R (x.1) 1),Zw (R (x.1) 2),Zw (R (x.1) 3),Zw (R (x.1) 4),Zw (R (x.1) 5),Zw (R (x.1) 6),Zw (R (x.1) 7),Zi (↑(x.1):Int)] y2) (fun (x:{ x:Nat // x≤64 })=>64 - x.1) x9) ([2,4,5,6,7,8,9,10,11,12,13,37]) ([0,1,2]) ([AV.own 0 8 0 0 8,AV.own 1 8 0 0 8,AV.own 2 64 0 0 64,Zw (IntKind.wrap IntKind.u32 (IntKind.wrap IntKind.u32 (IntKind.wrap IntKind.u32 (IntKind.wrap IntKind.u32 (IntKind.wrap IntKind.u32 (R x9.1 7+IntKind.wrap IntKind.u32 (↑(BitVec.toNat (BitVec.ofInt 32 (IntKind.wrap IntKind.u32 (↑(BitVec.toNat (BitVec.ofInt 32 (rotr (R x9.1 4) 6) ^^^ BitVec.ofInt 32 (rotr (R x9.1 4) 11))):Int)) ^^^ BitVec.ofInt 32 (rotr (R x9.1 4) 25))):Int))+IntKind.wrap IntKind.u32 (↑(BitVec.toNat (BitVec.ofInt 32 (IntKind.wrap IntKind.u32 (↑(BitVec.toNat (BitVec.ofInt 32 (R x9.1 4) &&& BitVec.ofInt 32 (R x9.1 5))):Int)) ^^^ BitVec.ofInt 32 (IntKind.wrap IntKind.u32 (↑(BitVec.toNat (BitVec.ofInt 32 (IntKind.wrap IntKind.u32 (↑(BitVec.toNat (BitVec.ofInt 32 (if false=true then (-1:Int) else IntKind.max IntKind.u32) ^^^ BitVec.ofInt 32 (R x9.1 4))):Int)) &&& BitVec.ofInt 32 (R x9.1 6))):Int)))):Int))+kF (Int.toNat (↑x9.1:Int)))+w (0+Int.toNat (↑x9.1:Int)))+IntKind.wrap IntKind.u32 (IntKind.wrap IntKind.u32 (↑(BitVec.toNat (BitVec.ofInt 32 (IntKind.wrap IntKind.u32 (↑(BitVec.toNat (BitVec.ofInt 32 (rotr (R x9.1 0) 2) ^^^ BitVec.ofInt 32 (rotr (R x9.1 0) 13))):Int)) ^^^ BitVec.ofInt 32 (rotr (R x9.1 0) 22))):Int)+IntKind.wrap IntKind.u32 (↑(BitVec.toNat (BitVec.ofInt 32 (IntKind.wrap IntKind.u32 (↑(BitVec.toNat (BitVec.ofInt 32 (IntKind.wrap IntKind.u32 (↑(BitVec.toNat (BitVec.ofInt 32 (R x9.1 0) &&& BitVec.ofInt 32 (R x9.1 1))):Int)) ^^^ BitVec.ofInt 32 (IntKind.wrap IntKind.u32 (↑(BitVec.toNat (BitVec.ofInt 32 (R x9.1 0) &&& BitVec.ofInt 32 (R x9.1 2))):Int)))):Int)) ^^^ BitVec.ofInt 32 (IntKind.wrap IntKind.u32 (↑(BitVec.toNat (BitVec.ofInt 32 (R x9.1 1) &&& BitVec.ofInt 32 (R x9.1 2))):Int)))):Int)))),Zw (R x9.1 0),Zw (R x9.1 1),Zw (R x9.1 2),Zw (IntKind.wrap IntKind.u32 (R x9.1 3+IntKind.wrap IntKind.u32 (IntKind.wrap IntKind.u32 (IntKind.wrap IntKind.u32 (IntKind.wrap IntKind.u32 (R x9.1 7+IntKind.wrap IntKind.u32 (↑(BitVec.toNat (BitVec.ofInt 32 (IntKind.wrap IntKind.u32 (↑(BitVec.toNat (BitVec.ofInt 32 (rotr (R x9.1 4) 6) ^^^ BitVec.ofInt 32 (rotr (R x9.1 4) 11))):Int)) ^^^ BitVec.ofInt 32 (rotr (R x9.1 4) 25))):Int))+IntKind.wrap IntKind.u32 (↑(BitVec.toNat (BitVec.ofInt 32 (IntKind.wrap IntKind.u32 (↑(BitVec.toNat (BitVec.ofInt 32 (R x9.1 4) &&& BitVec.ofInt 32 (R x9.1 5))):Int)) ^^^ BitVec.ofInt 32 (IntKind.wrap IntKind.u32 (↑(BitVec.toNat (BitVec.ofInt 32 (IntKind.wrap IntKind.u32 (↑(BitVec.toNat (BitVec.ofInt 32 (if false=true then (-1:Int) else IntKind.max IntKind.u32) ^^^ BitVec.ofInt 32 (R x9.1 4))):Int)) &&& BitVec.ofInt 32 (R x9.1 6))):Int)))):Int))+kF (Int.toNat (↑x9.1:Int)))+w (0+Int.toNat (↑x9.1:Int))))),Zw (R x9.1 4),Zw (R x9.1 5),Zw (R x9.1 6),Zi (IntKind.wrap IntKind.i64 ((↑x9.1:Int)+1))]) ([some ⟨8,1,true,Rep.lst [y1]⟩,some ⟨8,1,true,Rep.lst [y0]⟩,some ⟨64,1,true,Rep.fn fun (i j:Nat)=>Zw (w j)⟩])))))))))) (.loop ({ x:Nat // x≤8 }) (fun (x:{ x:Nat // x≤8 })=>mkSt [2,4,108,109] [AV.own 0 8 0 0 8,AV.own 1 8 0 0 8,AV.agg (List.map (fun (j:Nat)=>Zw (R 64 j)) (List.range 8)),Zi (↑(x.1):Int)] [some ⟨8,1,true,Rep.fn fun (x_1 j:Nat)=>Zw (bif Nat.blt j (x.1) then add32 (s j) (R 64 j) else s j)⟩,some ⟨8,1,true,Rep.lst [y0]⟩]) (fun (x:{ x:Nat // x≤8 })=>8 - x.1) (⟨0,Nat.zero_le 8⟩) ([2,4,108,109]) ([0,1]) ([AV.own 0 8 0 0 8,AV.own 1 8 0 0 8,AV.agg [Zw (R x9.1 0),Zw (R x9.1 1),Zw (R x9.1 2),Zw (R x9.1 3),Zw (R x9.1 4),Zw (R x9.1 5),Zw (R x9.1 6),Zw (R x9.1 7)],Zi 0]) ([some ⟨8,1,true,Rep.lst [y1]⟩,some ⟨8,1,true,Rep.lst [y0]⟩]) (fun x20=>(.br (decide ((↑x20.1:Int)<8)) (.req ((0:Int)≤(↑x20.1:Int)∧(↑x20.1:Int)<(↑(8):Int)) (.req ((0:Int)≤(↑x20.1:Int)∧(↑x20.1:Int)<(↑(8):Int)) (.req ((0:Int)≤(↑x20.1:Int)∧(↑x20.1:Int)<(↑(8):Int)) (.again (Again 0 (fun (x:{ x:Nat // x≤8 })=>mkSt [2,4,108,109] [AV.own 0 8 0 0 8,AV.own 1 8 0 0 8,AV.agg (List.map (fun (j:Nat)=>Zw (R 64 j)) (List.range 8)),Zi (↑(x.1):Int)] [some ⟨8,1,true,Rep.fn fun (x_1 j:Nat)=>Zw (bif Nat.blt j (x.1) then add32 (s j) (R 64 j) else s j)⟩,some ⟨8,1,true,Rep.lst [y0]⟩]) (fun (x:{ x:Nat // x≤8 })=>8 - x.1) x20) ([2,4,108,109]) ([0,1]) ([AV.own 0 8 0 0 8,AV.own 1 8 0 0 8,AV.agg y3,Zi (IntKind.wrap IntKind.i64 ((↑x20.1:Int)+1))]) ([some ⟨8,1,true,Rep.fn fun (i j:Nat)=>Zw (bif Nat.beq i 0&&Nat.beq j (0+Int.toNat (↑x20.1:Int)) then IntKind.wrap IntKind.u32 ((bif Nat.blt (0+Int.toNat (↑x20.1:Int)) x20.1 then add32 (s (0+Int.toNat (↑x20.1:Int))) (R 64 (0+Int.toNat (↑x20.1:Int))) else s (0+Int.toNat (↑x20.1:Int)))+intOfAV (atL y3 (Int.toNat (↑x20.1:Int)))) else bif Nat.blt j x20.1 then add32 (s j) (R 64 j) else s j)⟩,some ⟨8,1,true,Rep.lst [y0]⟩]))))) (.out (AV.agg [Zw (bif Nat.blt 0 x20.1 then add32 (s 0) (R 64 0) else s 0),Zw (bif Nat.blt 1 x20.1 then add32 (s 1) (R 64 1) else s 1),Zw (bif Nat.blt 2 x20.1 then add32 (s 2) (R 64 2) else s 2),Zw (bif Nat.blt 3 x20.1 then add32 (s 3) (R 64 3) else s 3),Zw (bif Nat.blt 4 x20.1 then add32 (s 4) (R 64 4) else s 4),Zw (bif Nat.blt 5 x20.1 then add32 (s 5) (R 64 5) else s 5),Zw (bif Nat.blt 6 x20.1 then add32 (s 6) (R 64 6) else s 6),Zw (bif Nat.blt 7 x20.1 then add32 (s 7) (R 64 7) else s 7)]) [] (AV.agg (List.map (fun (j:Nat)=>Zw (add32 (s j) (R 64 j))) (List.range 8))) [])))))))))))))))))
  (by kernel_rfl) ?_
 refine k_sc (hsch) ?_
 refine k_req (by omega) ?_
 refine k_req (by omega) ?_
 refine k_req (by omega) ?_
 refine k_req (by omega) ?_
 refine k_req (by omega) ?_
 refine k_req (by omega) ?_
 refine k_req (by omega) ?_
 refine k_req (by omega) ?_
 refine k_loop (fun _ hs=>hs.le (⟨.refl _,.refl _,.refl _,Ent.of_eq (congrArg _ (hR.z 0).symm),Ent.of_eq (congrArg _ (hR.z 1).symm),Ent.of_eq (congrArg _ (hR.z 2).symm),Ent.of_eq (congrArg _ (hR.z 3).symm),Ent.of_eq (congrArg _ (hR.z 4).symm),Ent.of_eq (congrArg _ (hR.z 5).symm),Ent.of_eq (congrArg _ (hR.z 6).symm),Ent.of_eq (congrArg _ (hR.z 7).symm),.refl _,trivial⟩) (⟨.refl _,.refl _,ObEnt.rowR rfl,trivial⟩)) (fun x9=>?_)
 try (have q9:=x9.2;dsimp only at q9)
 refine k_br (fun h10=>?_) (fun h10=>?_)
 ·have g10:=cnd_dec_t h10
  refine k_sc ((fun (x:Int)=>right_c x (6:Nat)) (R x9.1 (4)) (by omega) (by omega)) ?_
  refine k_sc ((fun (x:Int)=>right_c x (11:Nat)) (R x9.1 (4)) (by omega) (by omega)) ?_
  refine k_sc ((fun (x:Int)=>right_c x (25:Nat)) (R x9.1 (4)) (by omega) (by omega)) ?_
  refine k_req (by omega) ?_
  refine k_req (by omega) ?_
  refine k_sc ((fun (x:Int)=>right_c x (2:Nat)) (R x9.1 (0)) (by omega) (by omega)) ?_
  refine k_sc ((fun (x:Int)=>right_c x (13:Nat)) (R x9.1 (0)) (by omega) (by omega)) ?_
  refine k_sc ((fun (x:Int)=>right_c x (22:Nat)) (R x9.1 (0)) (by omega) (by omega)) ?_
  exact k_again (⟨x9.1+1,by omega⟩) (fun _ hs=>hs.le (⟨.refl _,.refl _,.refl _,Ent.of_eq (congrArg _ (by rw [hR.s0];simp only [Nat.zero_add,Int.toNat_natCast];rfl)),Ent.of_eq (congrArg _ (hR.s1 _).symm),Ent.of_eq (congrArg _ (hR.s2 _).symm),Ent.of_eq (congrArg _ (hR.s3 _).symm),Ent.of_eq (congrArg _ (by rw [hR.s4];simp only [Nat.zero_add,Int.toNat_natCast];rfl)),Ent.of_eq (congrArg _ (hR.s5 _).symm),Ent.of_eq (congrArg _ (hR.s6 _).symm),Ent.of_eq (congrArg _ (hR.s7 _).symm),inc_ent (by omega),trivial⟩) (⟨.refl _,.refl _,.refl _,trivial⟩)) (by dsimp only;omega)
 ·have g10:=cnd_dec_f h10
  refine k_loop (fun _ hs=>hs.le (⟨.refl _,.refl _,Ent.of_eq (by
                                                                                                     have e:x9.1=64:=by omega
                                                                                                     rw [e]
                                                                                                     rfl),.refl _,trivial⟩) (⟨ObEnt.rowR rfl,.refl _,trivial⟩)) (fun x20=>?_)
  refine k_br (fun h21=>?_) (fun h21=>?_)
  ·have g21:=cnd_dec_t h21
   refine k_req (by omega) ?_
   refine k_req (by omega) ?_
   refine k_req (by omega) ?_
   exact k_again (⟨x20.1+1,by omega⟩) (fun _ hs=>hs.le (⟨.refl _,.refl _,.refl _,inc_ent (by omega),trivial⟩) (⟨ObEnt.setR (P:=fun i j=>Nat.beq i 0&&Nat.beq j (0+Int.toNat ((x20.1:Nat):Int))) (c0:=x20.1) (G:=fun j=>bif Nat.blt j (x20.1+1) then add32 (s j) (R 64 j) else s j) (fun j _=>by show (true&&Nat.beq j (0+x20.1))=_;rw [Nat.zero_add];rfl) (by
                                                                                                     simp only [Nat.zero_add,Int.toNat_natCast,blt_f (Nat.le_refl x20.1),blt_t (Nat.lt_succ_self x20.1),cond_true,cond_false]
                                                                                                     exact congrArg (fun z=>IntKind.wrap .u32 (s x20.1+z)) (congrArg intOfAV (atL_map_range (es:=8) (g:=fun j=>AV.int .u32 (R 64 j)) (by omega)))) (fun j _ he=>fill_step2 (F:=fun j=>add32 (s j) (R 64 j)) (z:=s) he),.refl _,trivial⟩)) (by dsimp only;omega)
  ·have g21:=cnd_dec_f h21
   exact k_out (Ent.of_eq (by
                                                                                                     show AV.agg ((List.range 8).map fun j=>.int .u32 (bif Nat.blt j x20.1 then add32 (s j) (R 64 j) else s j))=_
                                                                                                     exact congrArg AV.agg (List.map_congr_left fun j hj=>by rw [blt_t (by have:=List.mem_range.1 hj;omega)];rfl)))
theorem mix_c (s b:Nat→Int) (hb:byB b 64):Pure Tryz.prog gl0 258 [.agg ((List.range 8).map fun j=>.int .u32 (s j)),bys 64 b] (.agg ((List.range 8).map fun j=>.int .u32 (mixF s b j))) :=
 mix_r s b (wordF b) (roundF s (wordF b)) (schedule_c b hb) (rnd s (wordF b))
def ow1:FuncId→Option (List Bool):=fun f=>bif Nat.beq f 215 then some [false] else none
theorem cloneB2_n:Gives Tryz.prog gl0 215 [] [.nsl] .nsl []:=by
 refine gives_sk (own:=ow0) (hand:=true) Tryz.func215 (by kernel_rfl) mixed (by kernel_rfl)
  (.tt (.out (AV.nsl) [] (AV.nsl) []))
  (by kernel_rfl) ?_
 refine k_tt ?_
 exact k_out (Ent.refl _)
theorem cloneB2_s (f:Nat→Int) (n:Nat) (hn:n≤1099511627776):Gives Tryz.prog gl0 215 [] [.nn (bys n f)] (.osl 0 1 0 n) [some ⟨1,n,true,.fn fun i _=>.int .u8 (f i)⟩]:=by
 refine gives_sk (own:=ow0) (hand:=true) Tryz.func215 (by kernel_rfl) mixed (by kernel_rfl)
  (.ff (.req ((0+n)*1≤140737488355328) (.out (AV.osl 0 1 0 (0+n)) ([some ⟨1,0+n,true,Rep.fn fun (i j:Nat)=>Zb (f i)⟩]) (AV.osl 0 1 0 n) ([some ⟨1,n,true,Rep.fn fun (i x:Nat)=>Zb (f i)⟩]))))
  (by kernel_rfl) ?_
 refine k_ff ?_
 refine k_req (by omega) ?_
 exact k_outg (Ent.of_eq (by simp)) (⟨⟨rfl,by simp,rfl,fun i j _ _=>Ent.of_eq (by simp)⟩,trivial⟩)
theorem cloneB2_c (f:Nat→Int) (n:Nat) (hn:n≤1099511627776):Gives Tryz.prog gl0 215 [] [bys n f] (.osl 0 1 0 n) [some ⟨1,n,true,.fn fun i _=>.int .u8 (f i)⟩] :=
 Gives.nilSplit [] [] 1 n _ (fun h=>by subst h;exact cloneB2_n.nil 1 _) (cloneB2_s f n hn)
theorem sum_r (f:Nat→Int) (n:Nat) (hn:n≤1099511627776) (p:Nat→Int) (ST:Nat→Nat→Int) (hp:p=padF n f) (h0:ST 0=stF)
  (hmix:∀ (k:Nat) (q:Nat→Int),(∀ i,i<64→q i=p (64*k+i))→Pure Tryz.prog gl0 258 [.agg ((List.range 8).map fun j=>.int .u32 (ST k j)),bys 64 q] (.agg ((List.range 8).map fun j=>.int .u32 (ST (k+1) j)))) :
  Pure Tryz.prog gl0 214 [bys n f] (.agg (u8c (outF (ST (padLen n / 64))))):=by
 have pl:=pad_len n
 refine pure_sk (own:=ow1) Tryz.func214 (by kernel_rfl) mixed (by kernel_rfl)
  (let y0:List AV:=[Zb 0,Zb 0,Zb 0,Zb 0,Zb 0,Zb 0,Zb 0,Zb 0,Zb 0,Zb 0,Zb 0,Zb 0,Zb 0,Zb 0,Zb 0,Zb 0,Zb 0,Zb 0,Zb 0,Zb 0,Zb 0,Zb 0,Zb 0,Zb 0,Zb 0,Zb 0,Zb 0,Zb 0,Zb 0,Zb 0,Zb 0,Zb 0];let y1:List AV:=[Zw (ST (padLen n / 64) 0),Zw (ST (padLen n / 64) 1),Zw (ST (padLen n / 64) 2),Zw (ST (padLen n / 64) 3),Zw (ST (padLen n / 64) 4),Zw (ST (padLen n / 64) 5),Zw (ST (padLen n / 64) 6),Zw (ST (padLen n / 64) 7)];(.gc 215 ([]) ([AV.isl 1 n fun (i x:Nat)=>Zb (f i)]) (AV.osl 0 1 0 n) ([some ⟨1,n,true,Rep.fn fun (i x:Nat)=>Zb (f i)⟩]) (.req ((n+1)*1≤140737488355328) (.loop ({ x:Nat // x≤padLen n - n - 9 }) (fun (x:{ x:Nat // x≤padLen n - n - 9 })=>mkSt [0,2,3] [AV.isl 1 n fun (i x:Nat)=>Zb (f i),AV.own 0 32 0 0 32,AV.osl 1 1 0 (n+1+x.1)] [some ⟨32,1,true,Rep.lst [y0]⟩,some ⟨1,n+1+x.1,true,Rep.fn fun (i x:Nat)=>Zb (pad0 n f i)⟩]) (fun (x:{ x:Nat // x≤padLen n - n - 9 })=>padLen n - n - 9 - x.1) (⟨0,Nat.zero_le (padLen n - n - 9)⟩) ([0,2,3]) ([0,32]) ([AV.isl 1 n fun (i x:Nat)=>Zb (f i),AV.own 0 32 0 0 32,AV.osl 1 1 0 (n+1)]) ([some ⟨32,1,true,Rep.lst [y0]⟩,some ⟨1,n+1,true,Rep.fn fun (i j:Nat)=>Zb (bif Nat.blt i n then f i else intOfAV (atL [Zb 128] j))⟩]) (fun x2=>(.br (Int.tmod (↑(n+1+x2.1):Int) (64:Int) != 56) (.req ((n+1+x2.1+1)*1≤140737488355328) (.again (Again 0 (fun (x:{ x:Nat // x≤padLen n - n - 9 })=>mkSt [0,2,3] [AV.isl 1 n fun (i x:Nat)=>Zb (f i),AV.own 0 32 0 0 32,AV.osl 1 1 0 (n+1+x.1)] [some ⟨32,1,true,Rep.lst [y0]⟩,some ⟨1,n+1+x.1,true,Rep.fn fun (i x:Nat)=>Zb (pad0 n f i)⟩]) (fun (x:{ x:Nat // x≤padLen n - n - 9 })=>padLen n - n - 9 - x.1) x2) ([0,2,3]) ([0,50]) ([AV.isl 1 n fun (i x:Nat)=>Zb (f i),AV.own 0 32 0 0 32,AV.osl 1 1 0 (n+1+x2.1+1)]) ([some ⟨32,1,true,Rep.lst [y0]⟩,some ⟨1,n+1+x2.1+1,true,Rep.fn fun (i j:Nat)=>Zb (bif Nat.blt i (n+1+x2.1) then pad0 n f i else intOfAV (atL [Zb 0] j))⟩]))) (.dc (true) 257 ([Zu (IntKind.wrap IntKind.u64 ((8:Int)*IntKind.wrap IntKind.u64 (↑n:Int)))]) (bys 8 (be8 (IntKind.wrap IntKind.u64 ((8:Int)*IntKind.wrap IntKind.u64 (↑n:Int))))) (.req ((n+1+x2.1+8)*1≤140737488355328) (.loop ({ x:Nat // x≤padLen n / 64 }) (fun (x:{ x:Nat // x≤padLen n / 64 })=>mkSt [2,4,3] [AV.own 0 32 0 0 32,AV.own 1 8 0 0 8,AV.osl 2 1 (64*x.1) (padLen n - 64*x.1)] [some ⟨32,1,true,Rep.lst [y0]⟩,some ⟨8,1,true,Rep.lst [List.map (fun (j:Nat)=>Zw (ST (x.1) j)) (List.range 8)]⟩,some ⟨1,padLen n,true,Rep.fn fun (i x:Nat)=>Zb (p i)⟩]) (fun (x:{ x:Nat // x≤padLen n / 64 })=>padLen n / 64 - x.1) (⟨0,Nat.zero_le (padLen n / 64)⟩) ([2,4,3]) ([0,106,82]) ([AV.own 0 32 0 0 32,AV.own 1 8 0 0 8,AV.osl 2 1 0 (n+1+x2.1+8)]) ([some ⟨32,1,true,Rep.lst [y0]⟩,some ⟨8,1,true,Rep.lst [[Zw (stF 0),Zw (stF 1),Zw (stF 2),Zw (stF 3),Zw (stF 4),Zw (stF 5),Zw (stF 6),Zw (stF 7)]]⟩,some ⟨1,n+1+x2.1+8,true,Rep.fn fun (i j:Nat)=>Zb (bif Nat.blt i (n+1+x2.1) then pad0 n f i else be8 (IntKind.wrap IntKind.u64 ((8:Int)*IntKind.wrap IntKind.u64 (↑n:Int))) (i - (n+1+x2.1)))⟩]) (fun x8=>(.br (decide ((↑(padLen n - 64*x8.1):Int)>0)) (.req ((0:Int)≤64∧(64:Int)≤(↑(padLen n - 64*x8.1):Int)) (.sc (true) 258 ([AV.agg [Zw (ST x8.1 0),Zw (ST x8.1 1),Zw (ST x8.1 2),Zw (ST x8.1 3),Zw (ST x8.1 4),Zw (ST x8.1 5),Zw (ST x8.1 6),Zw (ST x8.1 7)],AV.isl 1 64 fun (r k:Nat)=>Zb (p (r+(0+64*x8.1)))]) (AV.agg (List.map (fun (j:Nat)=>Zw (ST (x8.1+1) j)) (List.range 8))) (.req ((0:Int)≤64∧(64:Int)≤(↑(padLen n - 64*x8.1):Int)) (.again (Again 0 (fun (x:{ x:Nat // x≤padLen n / 64 })=>mkSt [2,4,3] [AV.own 0 32 0 0 32,AV.own 1 8 0 0 8,AV.osl 2 1 (64*x.1) (padLen n - 64*x.1)] [some ⟨32,1,true,Rep.lst [y0]⟩,some ⟨8,1,true,Rep.lst [List.map (fun (j:Nat)=>Zw (ST (x.1) j)) (List.range 8)]⟩,some ⟨1,padLen n,true,Rep.fn fun (i x:Nat)=>Zb (p i)⟩]) (fun (x:{ x:Nat // x≤padLen n / 64 })=>padLen n / 64 - x.1) x8) ([2,4,3]) ([0,1,2]) ([AV.own 0 32 0 0 32,AV.own 1 8 0 0 8,AV.osl 2 1 (64+64*x8.1) (padLen n - 64*x8.1 - 64)]) ([some ⟨32,1,true,Rep.lst [y0]⟩,some ⟨8,1,true,Rep.lst [[Zw (ST (x8.1+1) 0),Zw (ST (x8.1+1) 1),Zw (ST (x8.1+1) 2),Zw (ST (x8.1+1) 3),Zw (ST (x8.1+1) 4),Zw (ST (x8.1+1) 5),Zw (ST (x8.1+1) 6),Zw (ST (x8.1+1) 7)]]⟩,some ⟨1,padLen n,true,Rep.fn fun (i j:Nat)=>Zb (p i)⟩]))))) (.loop ({ x:Nat // x≤8 }) (fun (x:{ x:Nat // x≤8 })=>mkSt [2,5,37,38] [AV.own 0 32 0 0 32,AV.own 1 32 0 0 32,AV.agg (List.map (fun (j:Nat)=>Zw (ST (padLen n / 64) j)) (List.range 8)),Zi (↑(x.1):Int)] [some ⟨32,1,true,Rep.lst [y0]⟩,some ⟨32,1,true,Rep.fn fun (x_1 j:Nat)=>Zb (bif Nat.blt j (4*x.1) then outF (ST (padLen n / 64)) j else (0:Int))⟩]) (fun (x:{ x:Nat // x≤8 })=>8 - x.1) (⟨0,Nat.zero_le 8⟩) ([2,5,37,38]) ([0,27]) ([AV.own 0 32 0 0 32,AV.own 1 32 0 0 32,AV.agg [Zw (ST x8.1 0),Zw (ST x8.1 1),Zw (ST x8.1 2),Zw (ST x8.1 3),Zw (ST x8.1 4),Zw (ST x8.1 5),Zw (ST x8.1 6),Zw (ST x8.1 7)],Zi 0]) ([some ⟨32,1,true,Rep.lst [y0]⟩,some ⟨32,1,true,Rep.lst [y0]⟩]) (fun x14=>(.br (decide ((↑x14.1:Int)<8)) (.req ((0:Int)≤(↑x14.1:Int)∧(↑x14.1:Int)<(↑(8):Int)) (.loop ({ x:Nat // x≤4 }) (fun (x:{ x:Nat // x≤4 })=>mkSt [2,5,6,37,38,7,42] [AV.own 0 32 0 0 32,AV.own 1 32 0 0 32,Zi (↑x14.1:Int),AV.agg y1,Zi (↑x14.1:Int),Zw (ST (padLen n / 64) (x14.1)),Zi (↑(x.1):Int)] [some ⟨32,1,true,Rep.lst [y0]⟩,some ⟨32,1,true,Rep.fn fun (x_1 j:Nat)=>Zb (bif Nat.blt j (4*x14.1+x.1) then outF (ST (padLen n / 64)) j else (0:Int))⟩]) (fun (x:{ x:Nat // x≤4 })=>4 - x.1) (⟨0,Nat.zero_le 4⟩) ([2,5,6,37,38,7,42]) ([0,1]) ([AV.own 0 32 0 0 32,AV.own 1 32 0 0 32,Zi (↑x14.1:Int),AV.agg y1,Zi (↑x14.1:Int),Zw (intOfAV (atL y1 (Int.toNat (↑x14.1:Int)))),Zi 0]) ([some ⟨32,1,true,Rep.lst [y0]⟩,some ⟨32,1,true,Rep.fn fun (i j:Nat)=>Zb (bif Nat.blt j (4*x14.1) then outF (ST (padLen n / 64)) j else (0:Int))⟩]) (fun x17=>(.br (decide ((↑x17.1:Int)<4)) (.req ((0:Int)≤IntKind.wrap IntKind.i64 ((24:Int) - IntKind.wrap IntKind.i64 ((8:Int)*(↑x17.1:Int)))) (.req ((0:Int)≤IntKind.wrap IntKind.i64 (IntKind.wrap IntKind.i64 ((4:Int)*(↑x14.1:Int))+(↑x17.1:Int))∧IntKind.wrap IntKind.i64 (IntKind.wrap IntKind.i64 ((4:Int)*(↑x14.1:Int))+(↑x17.1:Int))<(↑(32):Int)) (.again (Again 0 (fun (x:{ x:Nat // x≤4 })=>mkSt [2,5,6,37,38,7,42] [AV.own 0 32 0 0 32,AV.own 1 32 0 0 32,Zi (↑x14.1:Int),AV.agg y1,Zi (↑x14.1:Int),Zw (ST (padLen n / 64) (x14.1)),Zi (↑(x.1):Int)] [some ⟨32,1,true,Rep.lst [y0]⟩,some ⟨32,1,true,Rep.fn fun (x_1 j:Nat)=>Zb (bif Nat.blt j (4*x14.1+x.1) then outF (ST (padLen n / 64)) j else (0:Int))⟩]) (fun (x:{ x:Nat // x≤4 })=>4 - x.1) x17) ([2,5,6,37,38,7,42]) ([0,1]) ([AV.own 0 32 0 0 32,AV.own 1 32 0 0 32,Zi (↑x14.1:Int),AV.agg y1,Zi (↑x14.1:Int),Zw (ST (padLen n / 64) x14.1),Zi (IntKind.wrap IntKind.i64 ((↑x17.1:Int)+1))]) ([some ⟨32,1,true,Rep.lst [y0]⟩,some ⟨32,1,true,Rep.fn fun (i j:Nat)=>Zb (bif Nat.beq i 0&&Nat.beq j (0+Int.toNat (IntKind.wrap IntKind.i64 (IntKind.wrap IntKind.i64 ((4:Int)*(↑x14.1:Int))+(↑x17.1:Int)))) then IntKind.wrap IntKind.u8 (Int.fdiv (ST (padLen n / 64) x14.1) ((2:Int)^min (Int.toNat (IntKind.wrap IntKind.i64 ((24:Int) - IntKind.wrap IntKind.i64 ((8:Int)*(↑x17.1:Int))))) 32)) else bif Nat.blt j (4*x14.1+x17.1) then outF (ST (padLen n / 64)) j else (0:Int))⟩])))) (.again (Again 0 (fun (x:{ x:Nat // x≤8 })=>mkSt [2,5,37,38] [AV.own 0 32 0 0 32,AV.own 1 32 0 0 32,AV.agg (List.map (fun (j:Nat)=>Zw (ST (padLen n / 64) j)) (List.range 8)),Zi (↑(x.1):Int)] [some ⟨32,1,true,Rep.lst [y0]⟩,some ⟨32,1,true,Rep.fn fun (x_1 j:Nat)=>Zb (bif Nat.blt j (4*x.1) then outF (ST (padLen n / 64)) j else (0:Int))⟩]) (fun (x:{ x:Nat // x≤8 })=>8 - x.1) x14) ([2,5,37,38]) ([0,1]) ([AV.own 0 32 0 0 32,AV.own 1 32 0 0 32,AV.agg y1,Zi (IntKind.wrap IntKind.i64 ((↑x14.1:Int)+1))]) ([some ⟨32,1,true,Rep.lst [y0]⟩,some ⟨32,1,true,Rep.fn fun (i j:Nat)=>Zb (bif Nat.blt j (4*x14.1+x17.1) then outF (ST (padLen n / 64)) j else (0:Int))⟩])))))) (.out (AV.agg [Zb (bif Nat.blt 0 (4*x14.1) then outF (ST (padLen n / 64)) 0 else (0:Int)),Zb (bif Nat.blt 1 (4*x14.1) then outF (ST (padLen n / 64)) 1 else (0:Int)),Zb (bif Nat.blt 2 (4*x14.1) then outF (ST (padLen n / 64)) 2 else (0:Int)),Zb (bif Nat.blt 3 (4*x14.1) then outF (ST (padLen n / 64)) 3 else (0:Int)),Zb (bif Nat.blt 4 (4*x14.1) then outF (ST (padLen n / 64)) 4 else (0:Int)),Zb (bif Nat.blt 5 (4*x14.1) then outF (ST (padLen n / 64)) 5 else (0:Int)),Zb (bif Nat.blt 6 (4*x14.1) then outF (ST (padLen n / 64)) 6 else (0:Int)),Zb (bif Nat.blt 7 (4*x14.1) then outF (ST (padLen n / 64)) 7 else (0:Int)),Zb (bif Nat.blt 8 (4*x14.1) then outF (ST (padLen n / 64)) 8 else (0:Int)),Zb (bif Nat.blt 9 (4*x14.1) then outF (ST (padLen n / 64)) 9 else (0:Int)),Zb (bif Nat.blt 10 (4*x14.1) then outF (ST (padLen n / 64)) 10 else (0:Int)),Zb (bif Nat.blt 11 (4*x14.1) then outF (ST (padLen n / 64)) 11 else (0:Int)),Zb (bif Nat.blt 12 (4*x14.1) then outF (ST (padLen n / 64)) 12 else (0:Int)),Zb (bif Nat.blt 13 (4*x14.1) then outF (ST (padLen n / 64)) 13 else (0:Int)),Zb (bif Nat.blt 14 (4*x14.1) then outF (ST (padLen n / 64)) 14 else (0:Int)),Zb (bif Nat.blt 15 (4*x14.1) then outF (ST (padLen n / 64)) 15 else (0:Int)),Zb (bif Nat.blt 16 (4*x14.1) then outF (ST (padLen n / 64)) 16 else (0:Int)),Zb (bif Nat.blt 17 (4*x14.1) then outF (ST (padLen n / 64)) 17 else (0:Int)),Zb (bif Nat.blt 18 (4*x14.1) then outF (ST (padLen n / 64)) 18 else (0:Int)),Zb (bif Nat.blt 19 (4*x14.1) then outF (ST (padLen n / 64)) 19 else (0:Int)),Zb (bif Nat.blt 20 (4*x14.1) then outF (ST (padLen n / 64)) 20 else (0:Int)),Zb (bif Nat.blt 21 (4*x14.1) then outF (ST (padLen n / 64)) 21 else (0:Int)),Zb (bif Nat.blt 22 (4*x14.1) then outF (ST (padLen n / 64)) 22 else (0:Int)),Zb (bif Nat.blt 23 (4*x14.1) then outF (ST (padLen n / 64)) 23 else (0:Int)),Zb (bif Nat.blt 24 (4*x14.1) then outF (ST (padLen n / 64)) 24 else (0:Int)),Zb (bif Nat.blt 25 (4*x14.1) then outF (ST (padLen n / 64)) 25 else (0:Int)),Zb (bif Nat.blt 26 (4*x14.1) then outF (ST (padLen n / 64)) 26 else (0:Int)),Zb (bif Nat.blt 27 (4*x14.1) then outF (ST (padLen n / 64)) 27 else (0:Int)),Zb (bif Nat.blt 28 (4*x14.1) then outF (ST (padLen n / 64)) 28 else (0:Int)),Zb (bif Nat.blt 29 (4*x14.1) then outF (ST (padLen n / 64)) 29 else (0:Int)),Zb (bif Nat.blt 30 (4*x14.1) then outF (ST (padLen n / 64)) 30 else (0:Int)),Zb (bif Nat.blt 31 (4*x14.1) then outF (ST (padLen n / 64)) 31 else (0:Int))]) [] (AV.agg (u8c (outF (ST (padLen n / 64))))) [])))))))))))))))
  (by kernel_rfl) ?_
 refine k_gc (cloneB2_c (f) (n) (by omega)) ?_
 refine k_req (by omega) ?_
 refine k_loop (fun _ hs=>hs.le (⟨.refl _,.refl _,.refl _,trivial⟩) (⟨.refl _,pad_ob,trivial⟩)) (fun x2=>?_)
 try (have q2:=x2.2;dsimp only at q2)
 refine k_br (fun h3=>?_) (fun h3=>?_)
 ·have g3:=cnd_bne_t h3
  refine k_req (by omega) ?_
  exact k_again (⟨x2.1+1,pad_lt x2.2 g3⟩) (fun _ hs=>hs.le (⟨.refl _,.refl _,.refl _,trivial⟩) (⟨.refl _,ObEnt.pushF (F:=pad0 n f) rfl (pad0_z (by omega)).symm,trivial⟩)) (by have:=pad_lt x2.2 g3;first|omega|(dsimp only;omega))
 ·have g3:=cnd_bne_f h3
  refine k_dc (count_c (IntKind.wrap IntKind.u64 ((8:Int)*IntKind.wrap IntKind.u64 (↑n:Int))) (by (rw [wu64 (n:=(n:Int)) (by omega) (by omega),wu64 (by omega) (by omega)];omega)) (by (rw [wu64 (n:=(n:Int)) (by omega) (by omega),wu64 (by omega) (by omega)];omega))) ?_
  refine k_req (by omega) ?_
  refine k_loop (fun _ hs=>hs.le (⟨.refl _,.refl _,Ent.of_eq (congrArg (AV.osl 2 1 0) (pad_fin x2.2 g3)),trivial⟩) (⟨.refl _,ObEnt.row (by show EntL _ _ ((List.range 8).map fun j=>.int .u32 (ST 0 j));rw [h0];exact EntL.refl _),by rw [hp];exact pad_ob2 hn (pad_fin x2.2 g3),trivial⟩)) (fun x8=>?_)
  try (have q8:=x8.2;dsimp only at q8)
  refine k_br (fun h9=>?_) (fun h9=>?_)
  ·have g9:=cnd_dec_t h9
   refine k_req (by omega) ?_
   refine k_sc (hmix (x8.1) (fun (i:Nat)=>p (i+(0+64*x8.1))) (by (intro i hi;exact congrArg p (by omega)))) ?_
   refine k_req (by omega) ?_
   exact k_again (⟨x8.1+1,by omega⟩) (fun _ hs=>hs.le (⟨.refl _,.refl _,Ent.of_eq (by show AV.osl 2 1 (64+64*x8.1) (padLen n - 64*x8.1 - 64)=AV.osl 2 1 (64*(x8.1+1)) (padLen n - 64*(x8.1+1));congr 1<;>omega),trivial⟩) (⟨.refl _,.refl _,.refl _,trivial⟩)) (by dsimp only;omega)
  ·have g9:=cnd_dec_f h9
   refine k_loop (fun _ hs=>hs.le (⟨.refl _,.refl _,Ent.of_eq (by
                                                                                                     have e:x8.1=padLen n / 64:=by omega
                                                                                                     rw [e]
                                                                                                     rfl),.refl _,trivial⟩) (⟨.refl _,zero_ob32 (fun j=>rfl),trivial⟩)) (fun x14=>?_)
   refine k_br (fun h15=>?_) (fun h15=>?_)
   ·have g15:=cnd_dec_t h15
    refine k_req (by omega) ?_
    refine k_loop (fun _ hs=>hs.le (⟨.refl _,.refl _,.refl _,.refl _,.refl _,Ent.of_eq (congrArg _ (congrArg intOfAV (atL_map_range (es:=8) (g:=fun j=>AV.int .u32 (ST (padLen n / 64) j)) (by omega)))),.refl _,trivial⟩) (⟨.refl _,.refl _,trivial⟩)) (fun x17=>?_)
    try (have q17:=x17.2;dsimp only at q17)
    refine k_br (fun h18=>?_) (fun h18=>?_)
    ·have g18:=cnd_dec_t h18
     refine k_req (by rw [wI (n:=8*(x17.1:Int)) (by omega) (by omega),wI (by omega) (by omega)];omega) ?_
     refine k_req (by rw [w4k (by omega) (by omega)];omega) ?_
     exact k_again (⟨x17.1+1,by omega⟩) (fun _ hs=>hs.le (⟨.refl _,.refl _,.refl _,.refl _,.refl _,.refl _,inc_ent (by omega),trivial⟩) (⟨.refl _,ObEnt.setR (P:=fun i j=>Nat.beq i 0&&Nat.beq j (0+Int.toNat (IntKind.wrap .i64 (IntKind.wrap .i64 (4*(x14.1:Int))+(x17.1:Int))))) (c0:=4*x14.1+x17.1) (G:=fun j=>bif Nat.blt j (4*x14.1+x17.1+1) then outF (ST (padLen n / 64)) j else 0) (fun j _=>by show (true&&Nat.beq j (0+Int.toNat _))=_;rw [w4k (by omega) (by omega),Nat.zero_add,show Int.toNat (4*(x14.1:Int)+x17.1)=4*x14.1+x17.1 by omega];rfl) (by rw [blt_t (Nat.lt_succ_self _)];exact out_w (by omega) (by omega)) (fun j _ he=>fill_step he),trivial⟩)) (by dsimp only;omega)
    ·have g18:=cnd_dec_f h18
     exact k_again (⟨x14.1+1,by omega⟩) (fun _ hs=>hs.le (⟨.refl _,.refl _,.refl _,inc_ent (by omega),trivial⟩) (⟨.refl _,ObEnt.fnR (fun j hj=>by
                                                                                                     have e:x17.1=4:=by omega
                                                                                                     rw [e]
                                                                                                     rfl),trivial⟩)) (by dsimp only;omega)
   ·have g15:=cnd_dec_f h15
    exact k_out (Ent.of_eq (by
                                                                                                     show AV.agg ((List.range 32).map fun j=>.int .u8 (bif Nat.blt j (4*x14.1) then outF (ST (padLen n / 64)) j else 0))=AV.agg ((List.range 32).map fun j=>.int .u8 (outF (ST (padLen n / 64)) j))
                                                                                                     exact congrArg AV.agg (List.map_congr_left fun j hj=>by rw [blt_t (by have:=List.mem_range.1 hj;omega)];rfl)))
theorem sum_c (f:Nat→Int) (n:Nat) (hn:n≤1099511627776) (hf:byB f n):Pure Tryz.prog gl0 214 [bys n f] (.agg (u8c (shaF n f))) :=
 sum_r f n hn (padF n f) (stateF (padF n f)) rfl rfl (fun k q hq=>Pure.via (mix_c (stateF (padF n f) k) (fun i=>padF n f (64*k+i)) (fun i _=>pad_by hf _)) ⟨Ent.refl _,bys_eq rfl hq,trivial⟩)
theorem constants_c:Pure Tryz.prog gl0 260 [] (.isl 1 64 fun i _=>.int .u32 (kF i)):=by
 refine pure_sk (own:=ow0) Tryz.func260 (by kernel_rfl) mixed (by kernel_rfl)
  (.out (AV.isl 1 64 fun (r k:Nat)=>atL (List.getD [[Zw 1116352408],[Zw 1899447441],[Zw 3049323471],[Zw 3921009573],[Zw 961987163],[Zw 1508970993],[Zw 2453635748],[Zw 2870763221],[Zw 3624381080],[Zw 310598401],[Zw 607225278],[Zw 1426881987],[Zw 1925078388],[Zw 2162078206],[Zw 2614888103],[Zw 3248222580],[Zw 3835390401],[Zw 4022224774],[Zw 264347078],[Zw 604807628],[Zw 770255983],[Zw 1249150122],[Zw 1555081692],[Zw 1996064986],[Zw 2554220882],[Zw 2821834349],[Zw 2952996808],[Zw 3210313671],[Zw 3336571891],[Zw 3584528711],[Zw 113926993],[Zw 338241895],[Zw 666307205],[Zw 773529912],[Zw 1294757372],[Zw 1396182291],[Zw 1695183700],[Zw 1986661051],[Zw 2177026350],[Zw 2456956037],[Zw 2730485921],[Zw 2820302411],[Zw 3259730800],[Zw 3345764771],[Zw 3516065817],[Zw 3600352804],[Zw 4094571909],[Zw 275423344],[Zw 430227734],[Zw 506948616],[Zw 659060556],[Zw 883997877],[Zw 958139571],[Zw 1322822218],[Zw 1537002063],[Zw 1747873779],[Zw 1955562222],[Zw 2024104815],[Zw 2227730452],[Zw 2361852424],[Zw 2428436474],[Zw 2756734187],[Zw 3204031479],[Zw 3329325298]] (r+0) []) k) [] (AV.isl 1 64 fun (i x:Nat)=>Zw (kF i)) [])
  (by kernel_rfl) ?_
 exact k_out (Ent.isl (fun r j hr hj=>by (obtain rfl:j=0:=Nat.lt_one_iff.1 hj);exact getD_rows (l:=kL) (k:=.u32) hr))
theorem padded_c (f:Nat→Int) (n:Nat) (hn:n≤1099511627776):Pure Tryz.prog gl0 261 [bys n f] (bys (padLen n) (padF n f)):=by
 have pl:=pad_len n
 refine pure_sk (own:=ow0) Tryz.func261 (by kernel_rfl) mixed (by kernel_rfl)
  (.req ((0+n)*1≤140737488355328) (.req ((0+n+1)*1≤140737488355328) (.loop ({ x:Nat // x≤padLen n - n - 9 }) (fun (x:{ x:Nat // x≤padLen n - n - 9 })=>mkSt [0,3] [AV.isl 1 n fun (i x:Nat)=>Zb (f i),AV.osl 0 1 0 (n+1+x.1)] [some ⟨1,n+1+x.1,true,Rep.fn fun (i x:Nat)=>Zb (pad0 n f i)⟩]) (fun (x:{ x:Nat // x≤padLen n - n - 9 })=>padLen n - n - 9 - x.1) (⟨0,Nat.zero_le (padLen n - n - 9)⟩) ([0,3]) ([40]) ([AV.isl 1 n fun (i x:Nat)=>Zb (f i),AV.osl 0 1 0 (0+n+1)]) ([some ⟨1,0+n+1,true,Rep.fn fun (i j:Nat)=>Zb (bif Nat.blt i (0+n) then f i else intOfAV (atL [Zb 128] j))⟩]) (fun x2=>(.br (Int.tmod (↑(n+1+x2.1):Int) (64:Int) != 56) (.req ((n+1+x2.1+1)*1≤140737488355328) (.again (Again 0 (fun (x:{ x:Nat // x≤padLen n - n - 9 })=>mkSt [0,3] [AV.isl 1 n fun (i x:Nat)=>Zb (f i),AV.osl 0 1 0 (n+1+x.1)] [some ⟨1,n+1+x.1,true,Rep.fn fun (i x:Nat)=>Zb (pad0 n f i)⟩]) (fun (x:{ x:Nat // x≤padLen n - n - 9 })=>padLen n - n - 9 - x.1) x2) ([0,3]) ([49]) ([AV.isl 1 n fun (i x:Nat)=>Zb (f i),AV.osl 0 1 0 (n+1+x2.1+1)]) ([some ⟨1,n+1+x2.1+1,true,Rep.fn fun (i j:Nat)=>Zb (bif Nat.blt i (n+1+x2.1) then pad0 n f i else intOfAV (atL [Zb 0] j))⟩]))) (.dc (true) 282 ([Zi (IntKind.wrap IntKind.i64 ((8:Int)*(↑n:Int)))]) (bys 8 (be8 (IntKind.wrap IntKind.i64 ((8:Int)*(↑n:Int))))) (.req ((n+1+x2.1+8)*1≤140737488355328) (.out (AV.isl 1 (n+1+x2.1+8) fun (r k:Nat)=>Zb (bif Nat.blt (r+0) (n+1+x2.1) then pad0 n f (r+0) else be8 (IntKind.wrap IntKind.i64 ((8:Int)*(↑n:Int))) (r+0 - (n+1+x2.1)))) [] (bys (padLen n) (padF n f)) []))))))))
  (by kernel_rfl) ?_
 refine k_req (by omega) ?_
 refine k_req (by omega) ?_
 refine k_loop (fun _ hs=>hs.le (⟨by exact Ent.refl _,Ent.of_eq (congrArg (AV.osl 0 1 0) (by dsimp only;omega)),trivial⟩) (⟨by rw [show 0+n=n from Nat.zero_add n];exact pad_ob,trivial⟩)) (fun x2=>?_)
 try (have q2:=x2.2;dsimp only at q2)
 refine k_br (fun h3=>?_) (fun h3=>?_)
 ·have g3:=cnd_bne_t h3
  refine k_req (by omega) ?_
  exact k_again (⟨x2.1+1,pad_lt x2.2 g3⟩) (fun _ hs=>hs.le (by repeat' (first|exact trivial|(first|exact Ent.refl _|exact inc_ent (by omega)|exact Ent.nil rfl|exact Ent.of_eq (congrArg (AV.osl _ _ _) (by first|omega|(dsimp only;omega)))|exact Ent.of_eq (congrArg (AV.int _) (by first|omega|(dsimp only;omega))))|refine And.intro ?_ ?_)) (⟨ObEnt.pushF (F:=pad0 n f) rfl (pad0_z (by omega)).symm,trivial⟩)) (by have:=pad_lt x2.2 g3;first|omega|(dsimp only;omega))
 ·have g3:=cnd_bne_f h3
  refine k_dc (rbytes_c (IntKind.wrap IntKind.i64 ((8:Int)*(↑n:Int))) (by rw [wI (by omega) (by omega)];omega) (by rw [wI (by omega) (by omega)];omega)) ?_
  refine k_req (by omega) ?_
  exact k_out (bys_eq (pad_fin x2.2 g3) (fun i hi=>by rw [wI (by omega) (by omega)];exact pad_eq (pad_fin x2.2 g3) i))
theorem rwords_c (b:Nat→Int) (hb:byB b 64):Pure Tryz.prog gl0 262 [bys 64 b] (.isl 1 64 fun i _=>.int .u32 (wordF b i)):=by
 refine pure_sk (own:=ow0) Tryz.func262 (by kernel_rfl) mixed (by kernel_rfl)
  (.loop ({ x:Nat // x≤16 }) (fun (x:{ x:Nat // x≤16 })=>mkSt [0,3,4] [AV.isl 1 64 fun (i x:Nat)=>Zb (b i),AV.osl 0 1 0 (x.1),Zi (↑(x.1):Int)] [some ⟨1,x.1,true,Rep.fn fun (q x:Nat)=>Zw (be4 b q)⟩]) (fun (x:{ x:Nat // x≤16 })=>16 - x.1) (⟨0,Nat.zero_le 16⟩) ([0,3,4]) ([280]) ([AV.isl 1 64 fun (i x:Nat)=>Zb (b i),AV.nsl,Zi 0]) ([some ⟨1,0,true,Rep.lst []⟩]) (fun x0=>(.br (decide ((↑x0.1:Int)<16)) (.loop ({ x:Nat // x≤4 }) (fun (x:{ x:Nat // x≤4 })=>mkSt [0,3,4,5,6] [AV.isl 1 64 fun (i x:Nat)=>Zb (b i),AV.osl 0 1 0 x0.1,Zi (↑x0.1:Int),Zw (preB b (x0.1) (x.1)),Zi (↑(x.1):Int)] [some ⟨1,x0.1,true,Rep.fn fun (i j:Nat)=>Zw (be4 b i)⟩]) (fun (x:{ x:Nat // x≤4 })=>4 - x.1) (⟨0,Nat.zero_le 4⟩) ([0,3,4,5,6]) ([0]) ([AV.isl 1 64 fun (i x:Nat)=>Zb (b i),AV.osl 0 1 0 x0.1,Zi (↑x0.1:Int),Zw 0,Zi 0]) ([some ⟨1,x0.1,true,Rep.fn fun (i j:Nat)=>Zw (be4 b i)⟩]) (fun x2=>(.br (decide ((↑x2.1:Int)<4)) (.req ((0:Int)≤IntKind.wrap IntKind.i64 (IntKind.wrap IntKind.i64 ((4:Int)*(↑x0.1:Int))+(↑x2.1:Int))∧IntKind.wrap IntKind.i64 (IntKind.wrap IntKind.i64 ((4:Int)*(↑x0.1:Int))+(↑x2.1:Int))<(↑(64):Int)) (.again (Again 0 (fun (x:{ x:Nat // x≤4 })=>mkSt [0,3,4,5,6] [AV.isl 1 64 fun (i x:Nat)=>Zb (b i),AV.osl 0 1 0 x0.1,Zi (↑x0.1:Int),Zw (preB b (x0.1) (x.1)),Zi (↑(x.1):Int)] [some ⟨1,x0.1,true,Rep.fn fun (i j:Nat)=>Zw (be4 b i)⟩]) (fun (x:{ x:Nat // x≤4 })=>4 - x.1) x2) ([0,3,4,5,6]) ([0]) ([AV.isl 1 64 fun (i x:Nat)=>Zb (b i),AV.osl 0 1 0 x0.1,Zi (↑x0.1:Int),Zw (IntKind.wrap IntKind.u32 (IntKind.wrap IntKind.u32 (preB b x0.1 x2.1*256)+IntKind.wrap IntKind.u32 (b (Int.toNat (IntKind.wrap IntKind.i64 (IntKind.wrap IntKind.i64 ((4:Int)*(↑x0.1:Int))+(↑x2.1:Int))))))),Zi (IntKind.wrap IntKind.i64 ((↑x2.1:Int)+1))]) ([some ⟨1,x0.1,true,Rep.fn fun (i j:Nat)=>Zw (be4 b i)⟩]))) (.req ((x0.1+1)*4≤140737488355328) (.again (Again 0 (fun (x:{ x:Nat // x≤16 })=>mkSt [0,3,4] [AV.isl 1 64 fun (i x:Nat)=>Zb (b i),AV.osl 0 1 0 (x.1),Zi (↑(x.1):Int)] [some ⟨1,x.1,true,Rep.fn fun (q x:Nat)=>Zw (be4 b q)⟩]) (fun (x:{ x:Nat // x≤16 })=>16 - x.1) x0) ([0,3,4]) ([41]) ([AV.isl 1 64 fun (i x:Nat)=>Zb (b i),AV.osl 0 1 0 (x0.1+1),Zi (IntKind.wrap IntKind.i64 ((↑x0.1:Int)+1))]) ([some ⟨1,x0.1+1,true,Rep.fn fun (i j:Nat)=>Zw (bif Nat.blt i x0.1 then be4 b i else intOfAV (atL [Zw (preB b (x0.1) (x2.1))] j))⟩])))))) (.loop ({ x:Nat // x≤48 }) (fun (x:{ x:Nat // x≤48 })=>mkSt [3,7] [AV.osl 0 1 0 (16+x.1),Zi (↑(16+x.1):Int)] [some ⟨1,16+x.1,true,Rep.fn fun (q x:Nat)=>Zw (wordF b q)⟩]) (fun (x:{ x:Nat // x≤48 })=>48 - x.1) (⟨0,Nat.zero_le 48⟩) ([3,7]) ([0]) ([AV.osl 0 1 0 x0.1,Zi 16]) ([some ⟨1,x0.1,true,Rep.fn fun (i j:Nat)=>Zw (be4 b i)⟩]) (fun x8=>(.br (decide ((↑(16+x8.1):Int)<64)) (.req ((0:Int)≤IntKind.wrap IntKind.i64 ((↑(16+x8.1):Int) - 15)∧IntKind.wrap IntKind.i64 ((↑(16+x8.1):Int) - 15)<(↑(16+x8.1):Int)) (.req ((0:Int)≤IntKind.wrap IntKind.i64 ((↑(16+x8.1):Int) - 2)∧IntKind.wrap IntKind.i64 ((↑(16+x8.1):Int) - 2)<(↑(16+x8.1):Int)) (.sc (true) 263 ([Zw (wordF b (Int.toNat (IntKind.wrap IntKind.i64 ((↑(16+x8.1):Int) - 15))+0)),Zi 7]) (Zw (rotr (wordF b (Int.toNat (IntKind.wrap IntKind.i64 ((↑(16+x8.1):Int) - 15))+0)) 7)) (.sc (true) 263 ([Zw (wordF b (Int.toNat (IntKind.wrap IntKind.i64 ((↑(16+x8.1):Int) - 15))+0)),Zi 18]) (Zw (rotr (wordF b (Int.toNat (IntKind.wrap IntKind.i64 ((↑(16+x8.1):Int) - 15))+0)) 18)) (.sc (true) 263 ([Zw (wordF b (Int.toNat (IntKind.wrap IntKind.i64 ((↑(16+x8.1):Int) - 2))+0)),Zi 17]) (Zw (rotr (wordF b (Int.toNat (IntKind.wrap IntKind.i64 ((↑(16+x8.1):Int) - 2))+0)) 17)) (.sc (true) 263 ([Zw (wordF b (Int.toNat (IntKind.wrap IntKind.i64 ((↑(16+x8.1):Int) - 2))+0)),Zi 19]) (Zw (rotr (wordF b (Int.toNat (IntKind.wrap IntKind.i64 ((↑(16+x8.1):Int) - 2))+0)) 19)) (.req ((0:Int)≤IntKind.wrap IntKind.i64 ((↑(16+x8.1):Int) - 16)∧IntKind.wrap IntKind.i64 ((↑(16+x8.1):Int) - 16)<(↑(16+x8.1):Int)) (.req ((0:Int)≤IntKind.wrap IntKind.i64 ((↑(16+x8.1):Int) - 7)∧IntKind.wrap IntKind.i64 ((↑(16+x8.1):Int) - 7)<(↑(16+x8.1):Int)) (.req ((16+x8.1+1)*4≤140737488355328) (.again (Again 0 (fun (x:{ x:Nat // x≤48 })=>mkSt [3,7] [AV.osl 0 1 0 (16+x.1),Zi (↑(16+x.1):Int)] [some ⟨1,16+x.1,true,Rep.fn fun (q x:Nat)=>Zw (wordF b q)⟩]) (fun (x:{ x:Nat // x≤48 })=>48 - x.1) x8) ([3,7]) ([393]) ([AV.osl 0 1 0 (16+x8.1+1),Zi (IntKind.wrap IntKind.i64 ((↑(16+x8.1):Int)+1))]) ([some ⟨1,16+x8.1+1,true,Rep.fn fun (i j:Nat)=>Zw (bif Nat.blt i (16+x8.1) then wordF b i else intOfAV (atL [Zw (IntKind.wrap IntKind.u32 (IntKind.wrap IntKind.u32 (IntKind.wrap IntKind.u32 (wordF b (Int.toNat (IntKind.wrap IntKind.i64 ((↑(16+x8.1):Int) - 16))+0)+IntKind.wrap IntKind.u32 (↑(BitVec.toNat (BitVec.ofInt 32 (IntKind.wrap IntKind.u32 (↑(BitVec.toNat (BitVec.ofInt 32 (rotr (wordF b (Int.toNat (IntKind.wrap IntKind.i64 ((↑(16+x8.1):Int) - 15))+0)) 7) ^^^ BitVec.ofInt 32 (rotr (wordF b (Int.toNat (IntKind.wrap IntKind.i64 ((↑(16+x8.1):Int) - 15))+0)) 18))):Int)) ^^^ BitVec.ofInt 32 (Int.fdiv (wordF b (Int.toNat (IntKind.wrap IntKind.i64 ((↑(16+x8.1):Int) - 15))+0)) ((2:Int)^3)))):Int))+wordF b (Int.toNat (IntKind.wrap IntKind.i64 ((↑(16+x8.1):Int) - 7))+0))+IntKind.wrap IntKind.u32 (↑(BitVec.toNat (BitVec.ofInt 32 (IntKind.wrap IntKind.u32 (↑(BitVec.toNat (BitVec.ofInt 32 (rotr (wordF b (Int.toNat (IntKind.wrap IntKind.i64 ((↑(16+x8.1):Int) - 2))+0)) 17) ^^^ BitVec.ofInt 32 (rotr (wordF b (Int.toNat (IntKind.wrap IntKind.i64 ((↑(16+x8.1):Int) - 2))+0)) 19))):Int)) ^^^ BitVec.ofInt 32 (Int.fdiv (wordF b (Int.toNat (IntKind.wrap IntKind.i64 ((↑(16+x8.1):Int) - 2))+0)) ((2:Int)^10)))):Int)))] j))⟩]))))))))))) (.out (AV.isl 1 (16+x8.1) fun (r k:Nat)=>Zw (wordF b (r+0))) [] (AV.isl 1 64 fun (i x:Nat)=>Zw (wordF b i)) [])))))))
  (by kernel_rfl) ?_
 refine k_loop (fun _ hs=>hs.le (by repeat' (first|exact trivial|(first|exact Ent.refl _|exact inc_ent (by omega)|exact Ent.nil rfl|exact Ent.of_eq (congrArg (AV.osl _ _ _) (by first|omega|(dsimp only;omega)))|exact Ent.of_eq (congrArg (AV.int _) (by first|omega|(dsimp only;omega))))|refine And.intro ?_ ?_)) (by repeat' (first|exact trivial|(first|exact ObEnt.refl _|exact ObEnt.junk|exact ObEnt.zero|exact ObEnt.push rfl rfl|exact ObEnt.pushRow rfl|exact ObEnt.len (by omega)|exact ObEnt.row (by repeat' (first|exact trivial|(first|exact Ent.refl _|exact inc_ent (by omega)|exact Ent.nil rfl|exact Ent.of_eq (congrArg (AV.osl _ _ _) (by first|omega|(dsimp only;omega)))|exact Ent.of_eq (congrArg (AV.int _) (by first|omega|(dsimp only;omega))))|refine And.intro ?_ ?_)))|refine And.intro ?_ ?_))) (fun x0=>?_)
 try (have q0:=x0.2;dsimp only at q0)
 refine k_br (fun h1=>?_) (fun h1=>?_)
 ·have g1:=cnd_dec_t h1
  refine k_loop (fun _ hs=>hs.le (by repeat' (first|exact trivial|(first|exact Ent.refl _|exact inc_ent (by omega)|exact Ent.nil rfl|exact Ent.of_eq (congrArg (AV.osl _ _ _) (by first|omega|(dsimp only;omega)))|exact Ent.of_eq (congrArg (AV.int _) (by first|omega|(dsimp only;omega))))|refine And.intro ?_ ?_)) (by repeat' (first|exact trivial|(first|exact ObEnt.refl _|exact ObEnt.junk|exact ObEnt.zero|exact ObEnt.push rfl rfl|exact ObEnt.pushRow rfl|exact ObEnt.len (by omega)|exact ObEnt.row (by repeat' (first|exact trivial|(first|exact Ent.refl _|exact inc_ent (by omega)|exact Ent.nil rfl|exact Ent.of_eq (congrArg (AV.osl _ _ _) (by first|omega|(dsimp only;omega)))|exact Ent.of_eq (congrArg (AV.int _) (by first|omega|(dsimp only;omega))))|refine And.intro ?_ ?_)))|refine And.intro ?_ ?_))) (fun x2=>?_)
  try (have q2:=x2.2;dsimp only at q2)
  refine k_br (fun h3=>?_) (fun h3=>?_)
  ·have g3:=cnd_dec_t h3
   refine k_req (by rw [w4k (by omega) (by omega)];omega) ?_
   exact k_again (⟨x2.1+1,by omega⟩) (fun _ hs=>hs.le (⟨by exact Ent.refl _,by exact Ent.refl _,by exact Ent.refl _,Ent.of_eq (congrArg _ (by rw [w4k (by omega) (by omega),show Int.toNat (4*(x0.1:Int)+x2.1)=4*x0.1+x2.1 by omega];have p:=pre_b24 (k:=x2.1) hb (show x0.1<16 by omega) (by omega);have q:=hb (4*x0.1+x2.1) (by omega);exact pre_add p.1 p.2 q.1 q.2)),by exact inc_ent (by omega),trivial⟩) (by repeat' (first|exact trivial|(first|exact ObEnt.refl _|exact ObEnt.junk|exact ObEnt.zero|exact ObEnt.push rfl rfl|exact ObEnt.pushRow rfl|exact ObEnt.len (by omega)|exact ObEnt.row (by repeat' (first|exact trivial|(first|exact Ent.refl _|exact inc_ent (by omega)|exact Ent.nil rfl|exact Ent.of_eq (congrArg (AV.osl _ _ _) (by first|omega|(dsimp only;omega)))|exact Ent.of_eq (congrArg (AV.int _) (by first|omega|(dsimp only;omega))))|refine And.intro ?_ ?_)))|refine And.intro ?_ ?_))) (by (dsimp only;omega))
  ·have g3:=cnd_dec_f h3
   refine k_req (by omega) ?_
   exact k_again (⟨x0.1+1,by omega⟩) (fun _ hs=>hs.le (by repeat' (first|exact trivial|(first|exact Ent.refl _|exact inc_ent (by omega)|exact Ent.nil rfl|exact Ent.of_eq (congrArg (AV.osl _ _ _) (by first|omega|(dsimp only;omega)))|exact Ent.of_eq (congrArg (AV.int _) (by first|omega|(dsimp only;omega))))|refine And.intro ?_ ?_)) (⟨ObEnt.pushF (F:=be4 b) rfl (by show preB b x0.1 x2.1=preB b x0.1 4;rw [show x2.1=4 by omega]),trivial⟩)) (by (dsimp only;omega))
 ·have g1:=cnd_dec_f h1
  refine k_loop (fun _ hs=>hs.le (⟨Ent.of_eq (congrArg (AV.osl 0 1 0) (by dsimp only;omega)),by exact Ent.refl _,trivial⟩) (⟨ObEnt.fnF (by dsimp only;omega) (fun i hi=>(word_lo (by omega)).symm),trivial⟩)) (fun x8=>?_)
  try (have q8:=x8.2;dsimp only at q8)
  refine k_br (fun h9=>?_) (fun h9=>?_)
  ·have g9:=cnd_dec_t h9
   refine k_req (by rw [wI (by omega) (by omega)];omega) ?_
   refine k_req (by rw [wI (by omega) (by omega)];omega) ?_
   refine k_sc ((fun (x:Int)=>rright_c x (7:Nat)) (wordF b (Int.toNat (IntKind.wrap IntKind.i64 ((↑(16+x8.1):Int) - (15:Int)))+0)) (by omega) (by omega)) ?_
   refine k_sc ((fun (x:Int)=>rright_c x (18:Nat)) (wordF b (Int.toNat (IntKind.wrap IntKind.i64 ((↑(16+x8.1):Int) - (15:Int)))+0)) (by omega) (by omega)) ?_
   refine k_sc ((fun (x:Int)=>rright_c x (17:Nat)) (wordF b (Int.toNat (IntKind.wrap IntKind.i64 ((↑(16+x8.1):Int) - (2:Int)))+0)) (by omega) (by omega)) ?_
   refine k_sc ((fun (x:Int)=>rright_c x (19:Nat)) (wordF b (Int.toNat (IntKind.wrap IntKind.i64 ((↑(16+x8.1):Int) - (2:Int)))+0)) (by omega) (by omega)) ?_
   refine k_req (by rw [wI (by omega) (by omega)];omega) ?_
   refine k_req (by rw [wI (by omega) (by omega)];omega) ?_
   refine k_req (by omega) ?_
   exact k_again (⟨x8.1+1,by omega⟩) (fun _ hs=>hs.le (⟨by exact Ent.refl _,inc_ent (i:=16+x8.1) (by omega),trivial⟩) (⟨ObEnt.pushF (F:=wordF b) rfl (by
                                                                                                     simp only [back_w (t:=x8.1) (d:=15) (k:=15) rfl (by omega) (by omega),back_w (t:=x8.1) (d:=2) (k:=2) rfl (by omega) (by omega),back_w (t:=x8.1) (d:=7) (k:=7) rfl (by omega) (by omega),back_w (t:=x8.1) (d:=16) (k:=16) rfl (by omega) (by omega),Nat.zero_add,Nat.add_zero,shr_eq]
                                                                                                     exact (word_hi (j:=16+x8.1) (by omega)).symm),trivial⟩)) (by (dsimp only;omega))
  ·have g9:=cnd_dec_f h9
   exact k_out (Ent.islN (by omega) (fun i j _ _=>rfl))
theorem rwords_m (b:Nat→Int) (m:Nat) (hm:m=64) (hb:byB b 64):Pure Tryz.prog gl0 262 [bys m b] (.isl 1 64 fun i _=>.int .u32 (wordF b i)):=by subst hm;exact rwords_c b hb
theorem rsum_r (f:Nat→Int) (n:Nat) (hn:n≤1099511627776) (hf:byB f n) (w ST:Nat→Nat→Int) (R:Nat→Nat→Nat→Int) (h0:ST 0=stF) (hw:∀ (k:Nat) (q:Nat→Int) (i:Nat),(∀ i,i<64→q i=padF n f (64*k+i))→wordF q i=w k i)
  (hR:∀ k,Rnd (ST k) (w k) (R k)) (hS:∀ k i,ST (k+1) i=add32 (ST k i) (R k 64 i)):Pure Tryz.prog gl0 221 [bys n f] (.agg (u8c (outF (ST (padLen n / 64))))):=by
 have pl:=pad_len n
 refine pure_sk (own:=ow0) Tryz.func221 (by kernel_rfl) mixed (by kernel_rfl)
  (let y0:List AV:=[Zb 0,Zb 0,Zb 0,Zb 0,Zb 0,Zb 0,Zb 0,Zb 0,Zb 0,Zb 0,Zb 0,Zb 0,Zb 0,Zb 0,Zb 0,Zb 0,Zb 0,Zb 0,Zb 0,Zb 0,Zb 0,Zb 0,Zb 0,Zb 0,Zb 0,Zb 0,Zb 0,Zb 0,Zb 0,Zb 0,Zb 0,Zb 0];(.dc (true) 260 ([]) (AV.isl 1 64 fun (i x:Nat)=>Zw (kF i)) (.dc (true) 261 ([AV.isl 1 n fun (i x:Nat)=>Zb (f i)]) (bys (padLen n) (padF n f)) (.loop ({ x:Nat // x≤padLen n / 64 }) (fun (x:{ x:Nat // x≤padLen n / 64 })=>mkSt [2,3,4,5,6] [AV.own 0 32 0 0 32,AV.osl 1 1 0 8,AV.isl 1 64 fun (i x:Nat)=>Zw (kF i),AV.isl 1 (padLen n) fun (i x:Nat)=>Zb (padF n f i),Zi (↑(64*x.1):Int)] [some ⟨32,1,true,Rep.lst [y0]⟩,some ⟨1,8,true,Rep.fn fun (i x_1:Nat)=>Zw (ST (x.1) i)⟩]) (fun (x:{ x:Nat // x≤padLen n / 64 })=>padLen n / 64 - x.1) (⟨0,Nat.zero_le (padLen n / 64)⟩) ([2,3,4,5,6]) ([0,8]) ([AV.own 0 32 0 0 32,AV.osl 1 1 0 8,AV.isl 1 64 fun (i x:Nat)=>Zw (kF i),AV.isl 1 (padLen n) fun (i x:Nat)=>Zb (padF n f i),Zi 0]) ([some ⟨32,1,true,Rep.lst [y0]⟩,some ⟨1,8,true,Rep.lst [[Zw 1779033703],[Zw 3144134277],[Zw 1013904242],[Zw 2773480762],[Zw 1359893119],[Zw 2600822924],[Zw 528734635],[Zw 1541459225]]⟩]) (fun x2=>(.br (decide ((↑(64*x2.1):Int)<(↑(padLen n):Int))) (.req ((0:Int)≤(↑(64*x2.1):Int)∧(↑(64*x2.1):Int)≤IntKind.wrap IntKind.i64 ((↑(64*x2.1):Int)+64)∧IntKind.wrap IntKind.i64 ((↑(64*x2.1):Int)+64)≤(↑(padLen n):Int)) (.dc (true) 262 ([AV.isl 1 (Int.toNat (IntKind.wrap IntKind.i64 ((↑(64*x2.1):Int)+64)) - Int.toNat (↑(64*x2.1):Int)) fun (i j:Nat)=>Zb (padF n f (i+Int.toNat (↑(64*x2.1):Int)))]) (AV.isl 1 64 fun (i x:Nat)=>Zw (wordF (fun (i:Nat)=>padF n f (i+Int.toNat (↑(64*x2.1):Int))) i)) (.req (32≤140737488355328) (.loop ({ x:Nat // x≤64 }) (fun (x:{ x:Nat // x≤64 })=>mkSt [2,3,4,5,6,7,8,9] [AV.own 0 32 0 0 32,AV.osl 1 1 0 8,AV.isl 1 64 fun (i x:Nat)=>Zw (kF i),AV.isl 1 (padLen n) fun (i x:Nat)=>Zb (padF n f i),Zi (↑(64*x2.1):Int),AV.isl 1 64 fun (i x:Nat)=>Zw (w (x2.1) i),AV.osl 2 1 0 8,Zi (↑(x.1):Int)] [some ⟨32,1,true,Rep.lst [y0]⟩,some ⟨1,8,true,Rep.fn fun (i j:Nat)=>Zw (ST (x2.1) i)⟩,some ⟨1,8,true,Rep.fn fun (i x_1:Nat)=>Zw (R (x2.1) (x.1) i)⟩]) (fun (x:{ x:Nat // x≤64 })=>64 - x.1) (⟨0,Nat.zero_le 64⟩) ([2,3,4,5,6,7,8,9]) ([0,1,106]) ([AV.own 0 32 0 0 32,AV.osl 1 1 0 8,AV.isl 1 64 fun (i x:Nat)=>Zw (kF i),AV.isl 1 (padLen n) fun (i x:Nat)=>Zb (padF n f i),Zi (↑(64*x2.1):Int),AV.isl 1 64 fun (i x:Nat)=>Zw (wordF (fun (i:Nat)=>padF n f (i+Int.toNat (↑(64*x2.1):Int))) i),AV.osl 2 1 0 8,Zi 0]) ([some ⟨32,1,true,Rep.lst [y0]⟩,some ⟨1,8,true,Rep.fn fun (i j:Nat)=>Zw (ST (x2.1) i)⟩,some ⟨1,8,true,Rep.fn fun (i j:Nat)=>Zw (ST (x2.1) (i+0))⟩]) (fun x7=>(.br (decide ((↑x7.1:Int)<64)) (.req ((0:Int)≤7∧(7:Int)<(↑(8):Int)) (.req ((0:Int)≤4∧(4:Int)<(↑(8):Int)) (.sc (true) 263 ([Zw (R x2.1 x7.1 4),Zi 6]) (Zw (rotr (R x2.1 x7.1 4) 6)) (.req ((0:Int)≤4∧(4:Int)<(↑(8):Int)) (.sc (true) 263 ([Zw (R x2.1 x7.1 4),Zi 11]) (Zw (rotr (R x2.1 x7.1 4) 11)) (.req ((0:Int)≤4∧(4:Int)<(↑(8):Int)) (.sc (true) 263 ([Zw (R x2.1 x7.1 4),Zi 25]) (Zw (rotr (R x2.1 x7.1 4) 25)) (.req ((0:Int)≤4∧(4:Int)<(↑(8):Int)) (.req ((0:Int)≤5∧(5:Int)<(↑(8):Int)) (.req ((0:Int)≤4∧(4:Int)<(↑(8):Int)) (.req ((0:Int)≤6∧(6:Int)<(↑(8):Int)) (.req ((0:Int)≤(↑x7.1:Int)∧(↑x7.1:Int)<(↑(64):Int)) (.req ((0:Int)≤(↑x7.1:Int)∧(↑x7.1:Int)<(↑(64):Int)) (.req ((0:Int)≤0∧(0:Int)<(↑(8):Int)) (.sc (true) 263 ([Zw (R x2.1 x7.1 0),Zi 2]) (Zw (rotr (R x2.1 x7.1 0) 2)) (.req ((0:Int)≤0∧(0:Int)<(↑(8):Int)) (.sc (true) 263 ([Zw (R x2.1 x7.1 0),Zi 13]) (Zw (rotr (R x2.1 x7.1 0) 13)) (.req ((0:Int)≤0∧(0:Int)<(↑(8):Int)) (.sc (true) 263 ([Zw (R x2.1 x7.1 0),Zi 22]) (Zw (rotr (R x2.1 x7.1 0) 22)) (.req ((0:Int)≤0∧(0:Int)<(↑(8):Int)) (.req ((0:Int)≤1∧(1:Int)<(↑(8):Int)) (.req ((0:Int)≤0∧(0:Int)<(↑(8):Int)) (.req ((0:Int)≤2∧(2:Int)<(↑(8):Int)) (.req ((0:Int)≤1∧(1:Int)<(↑(8):Int)) (.req ((0:Int)≤2∧(2:Int)<(↑(8):Int)) (.req ((0:Int)≤0∧(0:Int)<(↑(8):Int)) (.req ((0:Int)≤1∧(1:Int)<(↑(8):Int)) (.req ((0:Int)≤2∧(2:Int)<(↑(8):Int)) (.req ((0:Int)≤3∧(3:Int)<(↑(8):Int)) (.req ((0:Int)≤4∧(4:Int)<(↑(8):Int)) (.req ((0:Int)≤5∧(5:Int)<(↑(8):Int)) (.req ((0:Int)≤6∧(6:Int)<(↑(8):Int)) (.again (Again 0 (fun (x:{ x:Nat // x≤64 })=>mkSt [2,3,4,5,6,7,8,9] [AV.own 0 32 0 0 32,AV.osl 1 1 0 8,AV.isl 1 64 fun (i x:Nat)=>Zw (kF i),AV.isl 1 (padLen n) fun (i x:Nat)=>Zb (padF n f i),Zi (↑(64*x2.1):Int),AV.isl 1 64 fun (i x:Nat)=>Zw (w (x2.1) i),AV.osl 2 1 0 8,Zi (↑(x.1):Int)] [some ⟨32,1,true,Rep.lst [y0]⟩,some ⟨1,8,true,Rep.fn fun (i j:Nat)=>Zw (ST (x2.1) i)⟩,some ⟨1,8,true,Rep.fn fun (i x_1:Nat)=>Zw (R (x2.1) (x.1) i)⟩]) (fun (x:{ x:Nat // x≤64 })=>64 - x.1) x7) ([2,3,4,5,6,7,8,9]) ([0,1,907]) ([AV.own 0 32 0 0 32,AV.osl 1 1 0 8,AV.isl 1 64 fun (i x:Nat)=>Zw (kF i),AV.isl 1 (padLen n) fun (i x:Nat)=>Zb (padF n f i),Zi (↑(64*x2.1):Int),AV.isl 1 64 fun (i x:Nat)=>Zw (w x2.1 i),AV.osl 2 1 0 8,Zi (IntKind.wrap IntKind.i64 ((↑x7.1:Int)+1))]) ([some ⟨32,1,true,Rep.lst [y0]⟩,some ⟨1,8,true,Rep.fn fun (i j:Nat)=>Zw (ST (x2.1) i)⟩,some ⟨1,8,true,Rep.lst [[Zw (IntKind.wrap IntKind.u32 (IntKind.wrap IntKind.u32 (IntKind.wrap IntKind.u32 (IntKind.wrap IntKind.u32 (IntKind.wrap IntKind.u32 (R x2.1 x7.1 7+IntKind.wrap IntKind.u32 (↑(BitVec.toNat (BitVec.ofInt 32 (IntKind.wrap IntKind.u32 (↑(BitVec.toNat (BitVec.ofInt 32 (rotr (R x2.1 x7.1 4) 6) ^^^ BitVec.ofInt 32 (rotr (R x2.1 x7.1 4) 11))):Int)) ^^^ BitVec.ofInt 32 (rotr (R x2.1 x7.1 4) 25))):Int))+IntKind.wrap IntKind.u32 (↑(BitVec.toNat (BitVec.ofInt 32 (IntKind.wrap IntKind.u32 (↑(BitVec.toNat (BitVec.ofInt 32 (R x2.1 x7.1 4) &&& BitVec.ofInt 32 (R x2.1 x7.1 5))):Int)) ^^^ BitVec.ofInt 32 (IntKind.wrap IntKind.u32 (↑(BitVec.toNat (BitVec.ofInt 32 (IntKind.wrap IntKind.u32 (↑(BitVec.toNat (BitVec.ofInt 32 (if false=true then (-1:Int) else IntKind.max IntKind.u32) ^^^ BitVec.ofInt 32 (R x2.1 x7.1 4))):Int)) &&& BitVec.ofInt 32 (R x2.1 x7.1 6))):Int)))):Int))+kF (Int.toNat (↑x7.1:Int)))+w x2.1 (Int.toNat (↑x7.1:Int)))+IntKind.wrap IntKind.u32 (IntKind.wrap IntKind.u32 (↑(BitVec.toNat (BitVec.ofInt 32 (IntKind.wrap IntKind.u32 (↑(BitVec.toNat (BitVec.ofInt 32 (rotr (R x2.1 x7.1 0) 2) ^^^ BitVec.ofInt 32 (rotr (R x2.1 x7.1 0) 13))):Int)) ^^^ BitVec.ofInt 32 (rotr (R x2.1 x7.1 0) 22))):Int)+IntKind.wrap IntKind.u32 (↑(BitVec.toNat (BitVec.ofInt 32 (IntKind.wrap IntKind.u32 (↑(BitVec.toNat (BitVec.ofInt 32 (IntKind.wrap IntKind.u32 (↑(BitVec.toNat (BitVec.ofInt 32 (R x2.1 x7.1 0) &&& BitVec.ofInt 32 (R x2.1 x7.1 1))):Int)) ^^^ BitVec.ofInt 32 (IntKind.wrap IntKind.u32 (↑(BitVec.toNat (BitVec.ofInt 32 (R x2.1 x7.1 0) &&& BitVec.ofInt 32 (R x2.1 x7.1 2))):Int)))):Int)) ^^^ BitVec.ofInt 32 (IntKind.wrap IntKind.u32 (↑(BitVec.toNat (BitVec.ofInt 32 (R x2.1 x7.1 1) &&& BitVec.ofInt 32 (R x2.1 x7.1 2))):Int)))):Int))))],[Zw (R (x2.1) (x7.1) (Int.toNat (0:Int)+0))],[Zw (R (x2.1) (x7.1) (Int.toNat (1:Int)+0))],[Zw (R (x2.1) (x7.1) (Int.toNat (2:Int)+0))],[Zw (IntKind.wrap IntKind.u32 (R x2.1 x7.1 3+IntKind.wrap IntKind.u32 (IntKind.wrap IntKind.u32 (IntKind.wrap IntKind.u32 (IntKind.wrap IntKind.u32 (R x2.1 x7.1 7+IntKind.wrap IntKind.u32 (↑(BitVec.toNat (BitVec.ofInt 32 (IntKind.wrap IntKind.u32 (↑(BitVec.toNat (BitVec.ofInt 32 (rotr (R x2.1 x7.1 4) 6) ^^^ BitVec.ofInt 32 (rotr (R x2.1 x7.1 4) 11))):Int)) ^^^ BitVec.ofInt 32 (rotr (R x2.1 x7.1 4) 25))):Int))+IntKind.wrap IntKind.u32 (↑(BitVec.toNat (BitVec.ofInt 32 (IntKind.wrap IntKind.u32 (↑(BitVec.toNat (BitVec.ofInt 32 (R x2.1 x7.1 4) &&& BitVec.ofInt 32 (R x2.1 x7.1 5))):Int)) ^^^ BitVec.ofInt 32 (IntKind.wrap IntKind.u32 (↑(BitVec.toNat (BitVec.ofInt 32 (IntKind.wrap IntKind.u32 (↑(BitVec.toNat (BitVec.ofInt 32 (if false=true then (-1:Int) else IntKind.max IntKind.u32) ^^^ BitVec.ofInt 32 (R x2.1 x7.1 4))):Int)) &&& BitVec.ofInt 32 (R x2.1 x7.1 6))):Int)))):Int))+kF (Int.toNat (↑x7.1:Int)))+w x2.1 (Int.toNat (↑x7.1:Int)))))],[Zw (R (x2.1) (x7.1) (Int.toNat (4:Int)+0))],[Zw (R (x2.1) (x7.1) (Int.toNat (5:Int)+0))],[Zw (R (x2.1) (x7.1) (Int.toNat (6:Int)+0))]]⟩])))))))))))))))))))))))))))))))))) (.loop ({ x:Nat // x≤8 }) (fun (x:{ x:Nat // x≤8 })=>mkSt [2,3,4,5,6,8,12] [AV.own 0 32 0 0 32,AV.osl 1 1 0 8,AV.isl 1 64 fun (i x:Nat)=>Zw (kF i),AV.isl 1 (padLen n) fun (i x:Nat)=>Zb (padF n f i),Zi (↑(64*x2.1):Int),AV.osl 2 1 0 8,Zi (↑(x.1):Int)] [some ⟨32,1,true,Rep.lst [y0]⟩,some ⟨1,8,true,Rep.fn fun (q x_1:Nat)=>Zw (bif Nat.blt q (x.1) then ST (x2.1+1) q else ST (x2.1) q)⟩,some ⟨1,8,true,Rep.fn fun (i j:Nat)=>Zw (R (x2.1) (x7.1) i)⟩]) (fun (x:{ x:Nat // x≤8 })=>8 - x.1) (⟨0,Nat.zero_le 8⟩) ([2,3,4,5,6,8,12]) ([0,1,2]) ([AV.own 0 32 0 0 32,AV.osl 1 1 0 8,AV.isl 1 64 fun (i x:Nat)=>Zw (kF i),AV.isl 1 (padLen n) fun (i x:Nat)=>Zb (padF n f i),Zi (↑(64*x2.1):Int),AV.osl 2 1 0 8,Zi 0]) ([some ⟨32,1,true,Rep.lst [y0]⟩,some ⟨1,8,true,Rep.fn fun (i j:Nat)=>Zw (ST (x2.1) i)⟩,some ⟨1,8,true,Rep.fn fun (i j:Nat)=>Zw (R (x2.1) (x7.1) i)⟩]) (fun x42=>(.br (decide ((↑x42.1:Int)<8)) (.req ((0:Int)≤(↑x42.1:Int)∧(↑x42.1:Int)<(↑(8):Int)) (.req ((0:Int)≤(↑x42.1:Int)∧(↑x42.1:Int)<(↑(8):Int)) (.req ((0:Int)≤(↑x42.1:Int)∧(↑x42.1:Int)<(↑(8):Int)) (.again (Again 0 (fun (x:{ x:Nat // x≤8 })=>mkSt [2,3,4,5,6,8,12] [AV.own 0 32 0 0 32,AV.osl 1 1 0 8,AV.isl 1 64 fun (i x:Nat)=>Zw (kF i),AV.isl 1 (padLen n) fun (i x:Nat)=>Zb (padF n f i),Zi (↑(64*x2.1):Int),AV.osl 2 1 0 8,Zi (↑(x.1):Int)] [some ⟨32,1,true,Rep.lst [y0]⟩,some ⟨1,8,true,Rep.fn fun (q x_1:Nat)=>Zw (bif Nat.blt q (x.1) then ST (x2.1+1) q else ST (x2.1) q)⟩,some ⟨1,8,true,Rep.fn fun (i j:Nat)=>Zw (R (x2.1) (x7.1) i)⟩]) (fun (x:{ x:Nat // x≤8 })=>8 - x.1) x42) ([2,3,4,5,6,8,12]) ([0,1,2]) ([AV.own 0 32 0 0 32,AV.osl 1 1 0 8,AV.isl 1 64 fun (i x:Nat)=>Zw (kF i),AV.isl 1 (padLen n) fun (i x:Nat)=>Zb (padF n f i),Zi (↑(64*x2.1):Int),AV.osl 2 1 0 8,Zi (IntKind.wrap IntKind.i64 ((↑x42.1:Int)+1))]) ([some ⟨32,1,true,Rep.lst [y0]⟩,some ⟨1,8,true,Rep.fn fun (i j:Nat)=>Zw (bif Nat.beq i (Int.toNat (↑x42.1:Int)+0)&&(Nat.ble 0 j&&Nat.blt j 1) then IntKind.wrap IntKind.u32 ((bif Nat.blt (Int.toNat (↑x42.1:Int)+0) x42.1 then ST (x2.1+1) (Int.toNat (↑x42.1:Int)+0) else ST x2.1 (Int.toNat (↑x42.1:Int)+0))+R x2.1 x7.1 (Int.toNat (↑x42.1:Int)+0)) else bif Nat.blt i x42.1 then ST (x2.1+1) i else ST x2.1 i)⟩,some ⟨1,8,true,Rep.fn fun (i j:Nat)=>Zw (R (x2.1) (x7.1) i)⟩]))))) (.again (Again 0 (fun (x:{ x:Nat // x≤padLen n / 64 })=>mkSt [2,3,4,5,6] [AV.own 0 32 0 0 32,AV.osl 1 1 0 8,AV.isl 1 64 fun (i x:Nat)=>Zw (kF i),AV.isl 1 (padLen n) fun (i x:Nat)=>Zb (padF n f i),Zi (↑(64*x.1):Int)] [some ⟨32,1,true,Rep.lst [y0]⟩,some ⟨1,8,true,Rep.fn fun (i x_1:Nat)=>Zw (ST (x.1) i)⟩]) (fun (x:{ x:Nat // x≤padLen n / 64 })=>padLen n / 64 - x.1) x2) ([2,3,4,5,6]) ([0,1]) ([AV.own 0 32 0 0 32,AV.osl 1 1 0 8,AV.isl 1 64 fun (i x:Nat)=>Zw (kF i),AV.isl 1 (padLen n) fun (i x:Nat)=>Zb (padF n f i),Zi (IntKind.wrap IntKind.i64 ((↑(64*x2.1):Int)+64))]) ([some ⟨32,1,true,Rep.lst [y0]⟩,some ⟨1,8,true,Rep.fn fun (i j:Nat)=>Zw (bif Nat.blt i x42.1 then ST (x2.1+1) i else ST x2.1 i)⟩]))))))))))) (.loop ({ x:Nat // x≤32 }) (fun (x:{ x:Nat // x≤32 })=>mkSt [2,3,13,14] [AV.own 0 32 0 0 32,AV.osl 1 1 0 8,AV.own 2 32 0 0 32,Zi (↑(x.1):Int)] [some ⟨32,1,true,Rep.lst [y0]⟩,some ⟨1,8,true,Rep.fn fun (q x:Nat)=>Zw (ST (padLen n / 64) q)⟩,some ⟨32,1,true,Rep.fn fun (x_1 j:Nat)=>Zb (bif Nat.blt j (x.1) then outF (ST (padLen n / 64)) j else (0:Int))⟩]) (fun (x:{ x:Nat // x≤32 })=>32 - x.1) (⟨0,Nat.zero_le 32⟩) ([2,3,13,14]) ([0,1,34]) ([AV.own 0 32 0 0 32,AV.osl 1 1 0 8,AV.own 2 32 0 0 32,Zi 0]) ([some ⟨32,1,true,Rep.lst [y0]⟩,some ⟨1,8,true,Rep.fn fun (i j:Nat)=>Zw (ST (x2.1) i)⟩,some ⟨32,1,true,Rep.lst [y0]⟩]) (fun x49=>(.br (decide ((↑x49.1:Int)<32)) (.req ((0:Int)≤IntKind.wrap IntKind.i64 (Int.tdiv (↑x49.1:Int) (4:Int))∧IntKind.wrap IntKind.i64 (Int.tdiv (↑x49.1:Int) (4:Int))<(↑(8):Int)) (.req ((0:Int)≤IntKind.wrap IntKind.i64 ((24:Int) - IntKind.wrap IntKind.i64 ((8:Int)*Int.tmod (↑x49.1:Int) (4:Int)))) (.req ((0:Int)≤(↑x49.1:Int)∧(↑x49.1:Int)<(↑(32):Int)) (.again (Again 0 (fun (x:{ x:Nat // x≤32 })=>mkSt [2,3,13,14] [AV.own 0 32 0 0 32,AV.osl 1 1 0 8,AV.own 2 32 0 0 32,Zi (↑(x.1):Int)] [some ⟨32,1,true,Rep.lst [y0]⟩,some ⟨1,8,true,Rep.fn fun (q x:Nat)=>Zw (ST (padLen n / 64) q)⟩,some ⟨32,1,true,Rep.fn fun (x_1 j:Nat)=>Zb (bif Nat.blt j (x.1) then outF (ST (padLen n / 64)) j else (0:Int))⟩]) (fun (x:{ x:Nat // x≤32 })=>32 - x.1) x49) ([2,3,13,14]) ([0,1,2]) ([AV.own 0 32 0 0 32,AV.osl 1 1 0 8,AV.own 2 32 0 0 32,Zi (IntKind.wrap IntKind.i64 ((↑x49.1:Int)+1))]) ([some ⟨32,1,true,Rep.lst [y0]⟩,some ⟨1,8,true,Rep.fn fun (i j:Nat)=>Zw (ST (padLen n / 64) i)⟩,some ⟨32,1,true,Rep.fn fun (i j:Nat)=>Zb (bif Nat.beq i 0&&Nat.beq j (0+Int.toNat (↑x49.1:Int)) then IntKind.wrap IntKind.u8 (Int.fdiv (ST (padLen n / 64) (Int.toNat (IntKind.wrap IntKind.i64 (Int.tdiv (↑x49.1:Int) (4:Int)))+0)) ((2:Int)^min (Int.toNat (IntKind.wrap IntKind.i64 ((24:Int) - IntKind.wrap IntKind.i64 ((8:Int)*Int.tmod (↑x49.1:Int) (4:Int))))) 32)) else bif Nat.blt j x49.1 then outF (ST (padLen n / 64)) j else (0:Int))⟩]))))) (.out (AV.agg [Zb (bif Nat.blt 0 x49.1 then outF (ST (padLen n / 64)) 0 else (0:Int)),Zb (bif Nat.blt 1 x49.1 then outF (ST (padLen n / 64)) 1 else (0:Int)),Zb (bif Nat.blt 2 x49.1 then outF (ST (padLen n / 64)) 2 else (0:Int)),Zb (bif Nat.blt 3 x49.1 then outF (ST (padLen n / 64)) 3 else (0:Int)),Zb (bif Nat.blt 4 x49.1 then outF (ST (padLen n / 64)) 4 else (0:Int)),Zb (bif Nat.blt 5 x49.1 then outF (ST (padLen n / 64)) 5 else (0:Int)),Zb (bif Nat.blt 6 x49.1 then outF (ST (padLen n / 64)) 6 else (0:Int)),Zb (bif Nat.blt 7 x49.1 then outF (ST (padLen n / 64)) 7 else (0:Int)),Zb (bif Nat.blt 8 x49.1 then outF (ST (padLen n / 64)) 8 else (0:Int)),Zb (bif Nat.blt 9 x49.1 then outF (ST (padLen n / 64)) 9 else (0:Int)),Zb (bif Nat.blt 10 x49.1 then outF (ST (padLen n / 64)) 10 else (0:Int)),Zb (bif Nat.blt 11 x49.1 then outF (ST (padLen n / 64)) 11 else (0:Int)),Zb (bif Nat.blt 12 x49.1 then outF (ST (padLen n / 64)) 12 else (0:Int)),Zb (bif Nat.blt 13 x49.1 then outF (ST (padLen n / 64)) 13 else (0:Int)),Zb (bif Nat.blt 14 x49.1 then outF (ST (padLen n / 64)) 14 else (0:Int)),Zb (bif Nat.blt 15 x49.1 then outF (ST (padLen n / 64)) 15 else (0:Int)),Zb (bif Nat.blt 16 x49.1 then outF (ST (padLen n / 64)) 16 else (0:Int)),Zb (bif Nat.blt 17 x49.1 then outF (ST (padLen n / 64)) 17 else (0:Int)),Zb (bif Nat.blt 18 x49.1 then outF (ST (padLen n / 64)) 18 else (0:Int)),Zb (bif Nat.blt 19 x49.1 then outF (ST (padLen n / 64)) 19 else (0:Int)),Zb (bif Nat.blt 20 x49.1 then outF (ST (padLen n / 64)) 20 else (0:Int)),Zb (bif Nat.blt 21 x49.1 then outF (ST (padLen n / 64)) 21 else (0:Int)),Zb (bif Nat.blt 22 x49.1 then outF (ST (padLen n / 64)) 22 else (0:Int)),Zb (bif Nat.blt 23 x49.1 then outF (ST (padLen n / 64)) 23 else (0:Int)),Zb (bif Nat.blt 24 x49.1 then outF (ST (padLen n / 64)) 24 else (0:Int)),Zb (bif Nat.blt 25 x49.1 then outF (ST (padLen n / 64)) 25 else (0:Int)),Zb (bif Nat.blt 26 x49.1 then outF (ST (padLen n / 64)) 26 else (0:Int)),Zb (bif Nat.blt 27 x49.1 then outF (ST (padLen n / 64)) 27 else (0:Int)),Zb (bif Nat.blt 28 x49.1 then outF (ST (padLen n / 64)) 28 else (0:Int)),Zb (bif Nat.blt 29 x49.1 then outF (ST (padLen n / 64)) 29 else (0:Int)),Zb (bif Nat.blt 30 x49.1 then outF (ST (padLen n / 64)) 30 else (0:Int)),Zb (bif Nat.blt 31 x49.1 then outF (ST (padLen n / 64)) 31 else (0:Int))]) [] (AV.agg (u8c (outF (ST (padLen n / 64))))) []))))))))))
  (by kernel_rfl) ?_
 refine k_dc (constants_c) ?_
 refine k_dc (padded_c (f) (n) (by omega)) ?_
 refine k_loop (fun _ hs=>hs.le (by repeat' (first|exact trivial|(first|exact Ent.refl _|exact inc_ent (by omega)|exact Ent.nil rfl|exact Ent.of_eq (congrArg (AV.osl _ _ _) (by first|omega|(dsimp only;omega)))|exact Ent.of_eq (congrArg (AV.int _) (by first|omega|(dsimp only;omega))))|refine And.intro ?_ ?_)) (⟨by exact ObEnt.refl _,st_ob h0,trivial⟩)) (fun x2=>?_)
 try (have q2:=x2.2;dsimp only at q2)
 refine k_br (fun h3=>?_) (fun h3=>?_)
 ·have g3:=cnd_dec_t h3
  refine k_req (by rw [w64 hn (by omega)];omega) ?_
  refine k_dc (rwords_m (fun (i:Nat)=>padF n f (i+Int.toNat (↑(64*x2.1):Int))) (Int.toNat (IntKind.wrap IntKind.i64 ((↑(64*x2.1):Int)+(64:Int))) - Int.toNat (↑(64*x2.1):Int)) (by (rw [w64 hn (by omega)];omega)) (by exact fun i _=>pad_by hf _)) ?_
  refine k_req (by omega) ?_
  refine k_loop (fun _ hs=>hs.le (⟨by exact Ent.refl _,by exact Ent.refl _,by exact Ent.refl _,by exact Ent.refl _,by exact Ent.refl _,Ent.islN rfl (fun i j _ _=>congrArg _ (hw x2.1 _ i (fun q _=>congrArg (padF n f) (by (try simp only [Int.toNat_natCast]);omega)))),by exact Ent.refl _,by exact Ent.refl _,trivial⟩) (⟨by exact ObEnt.refl _,by exact ObEnt.refl _,ObEnt.fnF rfl (fun i _=>((hR x2.1).z i).symm),trivial⟩)) (fun x7=>?_)
  try (have q7:=x7.2;dsimp only at q7)
  refine k_br (fun h8=>?_) (fun h8=>?_)
  ·have g8:=cnd_dec_t h8
   refine k_req (by omega) ?_
   refine k_req (by omega) ?_
   refine k_sc ((fun (x:Int)=>rright_c x (6:Nat)) (R x2.1 x7.1 (4)) (by omega) (by omega)) ?_
   refine k_req (by omega) ?_
   refine k_sc ((fun (x:Int)=>rright_c x (11:Nat)) (R x2.1 x7.1 (4)) (by omega) (by omega)) ?_
   refine k_req (by omega) ?_
   refine k_sc ((fun (x:Int)=>rright_c x (25:Nat)) (R x2.1 x7.1 (4)) (by omega) (by omega)) ?_
   refine k_req (by omega) ?_
   refine k_req (by omega) ?_
   refine k_req (by omega) ?_
   refine k_req (by omega) ?_
   refine k_req (by omega) ?_
   refine k_req (by omega) ?_
   refine k_req (by omega) ?_
   refine k_sc ((fun (x:Int)=>rright_c x (2:Nat)) (R x2.1 x7.1 (0)) (by omega) (by omega)) ?_
   refine k_req (by omega) ?_
   refine k_sc ((fun (x:Int)=>rright_c x (13:Nat)) (R x2.1 x7.1 (0)) (by omega) (by omega)) ?_
   refine k_req (by omega) ?_
   refine k_sc ((fun (x:Int)=>rright_c x (22:Nat)) (R x2.1 x7.1 (0)) (by omega) (by omega)) ?_
   refine k_req (by omega) ?_
   refine k_req (by omega) ?_
   refine k_req (by omega) ?_
   refine k_req (by omega) ?_
   refine k_req (by omega) ?_
   refine k_req (by omega) ?_
   refine k_req (by omega) ?_
   refine k_req (by omega) ?_
   refine k_req (by omega) ?_
   refine k_req (by omega) ?_
   refine k_req (by omega) ?_
   refine k_req (by omega) ?_
   refine k_req (by omega) ?_
   exact k_again (⟨x7.1+1,by omega⟩) (fun _ hs=>hs.le (by repeat' (first|exact trivial|(first|exact Ent.refl _|exact inc_ent (by omega)|exact Ent.nil rfl|exact Ent.of_eq (congrArg (AV.osl _ _ _) (by first|omega|(dsimp only;omega)))|exact Ent.of_eq (congrArg (AV.int _) (by first|omega|(dsimp only;omega))))|refine And.intro ?_ ?_)) (⟨by exact ObEnt.refl _,by exact ObEnt.refl _,rnd_ob (hR x2.1) (by rw [(hR x2.1).s0];simp only [Nat.zero_add,Int.toNat_natCast,Nat.add_zero];rfl) (by rw [(hR x2.1).s4];simp only [Nat.zero_add,Int.toNat_natCast,Nat.add_zero];rfl),trivial⟩)) (by (dsimp only;omega))
  ·have g8:=cnd_dec_f h8
   refine k_loop (fun _ hs=>hs.le (by repeat' (first|exact trivial|(first|exact Ent.refl _|exact inc_ent (by omega)|exact Ent.nil rfl|exact Ent.of_eq (congrArg (AV.osl _ _ _) (by first|omega|(dsimp only;omega)))|exact Ent.of_eq (congrArg (AV.int _) (by first|omega|(dsimp only;omega))))|refine And.intro ?_ ?_)) (by repeat' (first|exact trivial|(first|exact ObEnt.refl _|exact ObEnt.junk|exact ObEnt.zero|exact ObEnt.push rfl rfl|exact ObEnt.pushRow rfl|exact ObEnt.len (by omega)|exact ObEnt.row (by repeat' (first|exact trivial|(first|exact Ent.refl _|exact inc_ent (by omega)|exact Ent.nil rfl|exact Ent.of_eq (congrArg (AV.osl _ _ _) (by first|omega|(dsimp only;omega)))|exact Ent.of_eq (congrArg (AV.int _) (by first|omega|(dsimp only;omega))))|refine And.intro ?_ ?_)))|refine And.intro ?_ ?_))) (fun x42=>?_)
   try (have q42:=x42.2;dsimp only at q42)
   refine k_br (fun h43=>?_) (fun h43=>?_)
   ·have g43:=cnd_dec_t h43
    refine k_req (by omega) ?_
    refine k_req (by omega) ?_
    refine k_req (by omega) ?_
    exact k_again (⟨x42.1+1,by omega⟩) (fun _ hs=>hs.le (by repeat' (first|exact trivial|(first|exact Ent.refl _|exact inc_ent (by omega)|exact Ent.nil rfl|exact Ent.of_eq (congrArg (AV.osl _ _ _) (by first|omega|(dsimp only;omega)))|exact Ent.of_eq (congrArg (AV.int _) (by first|omega|(dsimp only;omega))))|refine And.intro ?_ ?_)) (⟨by exact ObEnt.refl _,ObEnt.setF (i0:=x42.1) (G:=fun q=>bif Nat.blt q (x42.1+1) then ST (x2.1+1) q else ST x2.1 q) (by
                                                                                                     have e:x7.1=64:=by omega
                                                                                                     simp only [Nat.zero_add,Nat.add_zero,Int.toNat_natCast,blt_f (Nat.le_refl x42.1),blt_t (Nat.lt_succ_self x42.1),cond_true,cond_false,e]
                                                                                                     exact (hS x2.1 x42.1).symm) (fun q _ he=>fill_step2 (F:=ST (x2.1+1)) (z:=ST x2.1) he),by exact ObEnt.refl _,trivial⟩)) (by (dsimp only;omega))
   ·have g43:=cnd_dec_f h43
    exact k_again (⟨x2.1+1,by omega⟩) (fun _ hs=>hs.le (⟨by exact Ent.refl _,by exact Ent.refl _,by exact Ent.refl _,by exact Ent.refl _,Ent.of_eq (congrArg _ (w64 hn (by omega))),trivial⟩) (⟨by exact ObEnt.refl _,ObEnt.fnF rfl (fun q hq=>by rw [blt_t (by omega)];rfl),trivial⟩)) (by (dsimp only;omega))
 ·have g3:=cnd_dec_f h3
  refine k_loop (fun _ hs=>hs.le (by repeat' (first|exact trivial|(first|exact Ent.refl _|exact inc_ent (by omega)|exact Ent.nil rfl|exact Ent.of_eq (congrArg (AV.osl _ _ _) (by first|omega|(dsimp only;omega)))|exact Ent.of_eq (congrArg (AV.int _) (by first|omega|(dsimp only;omega))))|refine And.intro ?_ ?_)) (⟨by exact ObEnt.refl _,ObEnt.fnF rfl (fun q _=>by
                                                                                                     have e:x2.1=padLen n / 64:=by omega
                                                                                                     rw [e]),zero_ob32 (fun j=>rfl),trivial⟩)) (fun x49=>?_)
  refine k_br (fun h50=>?_) (fun h50=>?_)
  ·have g50:=cnd_dec_t h50
   refine k_req (by rw [(q4 (by omega)).1];omega) ?_
   refine k_req (by rw [(q4 (by omega)).2];omega) ?_
   refine k_req (by omega) ?_
   exact k_again (⟨x49.1+1,by omega⟩) (fun _ hs=>hs.le (by repeat' (first|exact trivial|(first|exact Ent.refl _|exact inc_ent (by omega)|exact Ent.nil rfl|exact Ent.of_eq (congrArg (AV.osl _ _ _) (by first|omega|(dsimp only;omega)))|exact Ent.of_eq (congrArg (AV.int _) (by first|omega|(dsimp only;omega))))|refine And.intro ?_ ?_)) (⟨by exact ObEnt.refl _,by exact ObEnt.refl _,ObEnt.setR (P:=fun i j=>Nat.beq i 0&&Nat.beq j (0+Int.toNat ((x49.1:Nat):Int))) (c0:=x49.1) (G:=fun j=>bif Nat.blt j (x49.1+1) then outF (ST (padLen n / 64)) j else 0) (fun j _=>by show (true&&Nat.beq j (0+x49.1))=_;rw [Nat.zero_add];rfl) (by rw [blt_t (Nat.lt_succ_self _)];exact out_v (by omega)) (fun j _ he=>fill_step he),trivial⟩)) (by (dsimp only;omega))
  ·have g50:=cnd_dec_f h50
   exact k_out (Ent.of_eq (by
                                                                                                     show AV.agg ((List.range 32).map fun j=>.int .u8 (bif Nat.blt j x49.1 then outF (ST (padLen n / 64)) j else 0))=AV.agg ((List.range 32).map fun j=>.int .u8 (outF (ST (padLen n / 64)) j))
                                                                                                     exact congrArg AV.agg (List.map_congr_left fun j hj=>by rw [blt_t (by have:=List.mem_range.1 hj;omega)];rfl)))
theorem rsum_c (f:Nat→Int) (n:Nat) (hn:n≤1099511627776) (hf:byB f n):Pure Tryz.prog gl0 221 [bys n f] (.agg (u8c (shaF n f))) :=
 rsum_r f n hn hf (fun k=>wordF (fun i=>padF n f (64*k+i))) (stateF (padF n f)) (fun k=>roundF (stateF (padF n f) k) (wordF (fun i=>padF n f (64*k+i)))) rfl (fun _ _ i h=>word_congr h i) (fun _=>rnd _ _) (fun _ _=>rfl)
end Go.Proofs.YtolcfdcoidpieaaGreatDoor

namespace Go.Sp
open Go Go.Am

def strF (s : ByteArray) (i : Nat) : Int := (s.data.toList.getD i 0).toNat
def tagC (t f : Nat → Int) (i : Nat) : Int := bif Nat.blt i 64 then bif Nat.blt i 32 then t i else t (i - 32) else f (i - 64)
def tagF (s : ByteArray) (n : Nat) (f : Nat → Int) : Nat → Int := shaF (64 + n) (tagC (shaF s.size (strF s)) f)

theorem strB (s : ByteArray) (n : Nat) : byB (strF s) n := fun i _ => by
  have := (s.data.toList.getD i 0).toNat_lt
  unfold strF
  omega
theorem sha_by (n : Nat) (f : Nat → Int) (i : Nat) : 0 ≤ shaF n f i ∧ shaF n f i < 256 := by
  unfold shaF outF
  exact ⟨Int.emod_nonneg _ (by decide), Int.emod_lt_of_pos _ (by decide)⟩
theorem tag_by (s : ByteArray) (n : Nat) (f : Nat → Int) (hf : byB f n) : byB (tagC (shaF s.size (strF s)) f) (64 + n) := fun i hi => by
  unfold tagC
  by_cases h : i < 64
  · rw [blt_t h]
    cases Nat.blt i 32 with
    | true => exact sha_by _ _ _
    | false => exact sha_by _ _ _
  · rw [blt_f (Nat.le_of_not_lt h)]
    exact hf _ (by omega)
def numF (f : Nat → Int) (m : Int) : Nat → Int
  | 0 => 0
  | i + 1 => (numF f m i * 256 + f i) % m
theorem num_by {f : Nat → Int} {m : Int} (hm : 0 < m) : ∀ i, 0 ≤ numF f m i ∧ numF f m i < m
  | 0 => ⟨Int.le_refl _, hm⟩
  | _ + 1 => ⟨Int.emod_nonneg _ (by omega), Int.emod_lt_of_pos _ hm⟩
theorem num_step {f : Nat → Int} {m : Int} (i : Nat) : (numF f m i * (256 % m) % m + f i) % m = numF f m (i + 1) := by
  show _ = (numF f m i * 256 + f i) % m
  rw [Int.emod_add_emod, ← Int.emod_add_emod (numF f m i * (256 % m)), Int.mul_emod, Int.emod_emod_of_dvd _ (Int.dvd_refl m), ← Int.mul_emod, Int.emod_add_emod]
theorem rem256 {m : Int} (hm : 0 < m) (hm' : m < 2305843009213693952) : Int.tmod 256 m = 256 % m ∧ 0 ≤ 256 % m ∧ 256 % m < m := by
  have h1 : 0 ≤ 256 % m := Int.emod_nonneg _ (by omega)
  have h2 : 256 % m < m := Int.emod_lt_of_pos _ hm
  exact ⟨by rw [tmod_nn (by omega)], h1, h2⟩
theorem num_le {f : Nat → Int} {m : Int} (hm : 0 < m) (hm' : m < 2305843009213693952) (hf : byB f 32) {i : Nat} (hi : i < 16) : IntKind.wrap .i64 (numF f m i * Int.tmod 256 m % m + IntKind.wrap .i64 (intOfAV (atL (u8c f) (0 + (i : Int).toNat)))) % m = numF f m (i + 1) := by
  have a1 : 0 ≤ numF f m i * (256 % m) % m := Int.emod_nonneg _ (by omega)
  have a2 : numF f m i * (256 % m) % m < m := Int.emod_lt_of_pos _ hm
  have a3 := hf i (by omega)
  rw [Int.toNat_natCast, Nat.zero_add, u8c_at (by omega), (rem256 hm hm').1]
  show IntKind.wrap .i64 (_ + IntKind.wrap .i64 (f i)) % m = _
  rw [wI (n := f i) (by omega) (by omega), wI (by omega) (by omega), num_step]
theorem sha_congr {n : Nat} {f g : Nat → Int} (h : ∀ i, i < n → f i = g i) : shaF n f = shaF n g := by
  have e : padF n f = padF n g := funext fun i => by
    have e0 : pad0 n f i = pad0 n g i := by
      unfold pad0
      by_cases hi : i < n
      · rw [h i hi]
      · rw [blt_f (Nat.le_of_not_lt hi)]
        rfl
    unfold padF
    rw [e0]
  unfold shaF
  rw [e]
theorem tag_at {t f : Nat → Int} (i : Nat) : (bif Nat.blt (i + 0) 64 then bif Nat.blt (i + 0) 32 then intOfAV (atL (u8c t) (0 + (0 + (i + 0)))) else intOfAV (atL (u8c t) (0 + (0 + (i + 0 - 32)))) else f (i + 0 - 64)) = tagC t f i := by
  unfold tagC
  rw [Nat.add_zero]
  by_cases h : i < 64
  · rw [blt_t h]
    by_cases h' : i < 32
    · rw [blt_t h', Nat.zero_add, Nat.zero_add, u8c_at h']
      rfl
    · have e := u8c_at (g := t) (show i - 32 < 32 by omega)
      rw [blt_f (Nat.le_of_not_lt h')]
      simp only [Nat.zero_add, e]
      rfl
  · rw [blt_f (Nat.le_of_not_lt h)]
    rfl
theorem by_congr {f g : Nat → Int} {n : Nat} (h : ∀ i, f i = g i) (hg : byB g n) : byB f n := fun i hi => by
  rw [h i]
  exact hg i hi
def dblF (x m : Int) : Nat → Int
  | 0 => x
  | k + 1 => (dblF x m k + dblF x m k) % m
theorem dbl_by {x m : Int} (hm : 0 < m) (h : 0 ≤ x ∧ x < m) : ∀ k, 0 ≤ dblF x m k ∧ dblF x m k < m
  | 0 => h
  | _ + 1 => ⟨Int.emod_nonneg _ (by omega), Int.emod_lt_of_pos _ hm⟩
theorem dbl_eq {x m : Int} (h : 0 ≤ x ∧ x < m) : ∀ k, dblF x m k = x * 2 ^ k % m
  | 0 => by
    show x = _
    rw [Int.pow_zero, Int.mul_one, Int.emod_eq_of_lt h.1 h.2]
  | k + 1 => by
    show (dblF x m k + dblF x m k) % m = _
    rw [dbl_eq h k, ← Int.add_emod, Int.pow_succ, ← Int.mul_assoc]
    congr 1
    omega
theorem num_dbl {f : Nat → Int} {m : Int} (hm : 0 < m) (i : Nat) : (dblF (numF f m i) m 8 + f i % m) % m = numF f m (i + 1) := by
  rw [dbl_eq (num_by hm i), ← Int.add_emod]
  rfl
theorem num_fin {f : Nat → Int} {m : Int} (hm : 0 < m) (hf : byB f 32) {i k : Nat} (hi : i < 16) (hk : k = 8) :
    (dblF (numF f m i) m k + Int.tmod (IntKind.wrap .i64 (intOfAV (atL (u8c f) (0 + (0 + (i : Int).toNat))))) m) % m = numF f m (i + 1) := by
  have a3 := hf i (by omega)
  subst hk
  rw [Int.toNat_natCast, Nat.zero_add, Nat.zero_add, u8c_at (by omega), wI (n := f i) (by omega) (by omega), tmod_nn (by omega), num_dbl hm]
theorem num_arg {f : Nat → Int} {m : Int} (hm : 0 < m) (hf : byB f 32) {i : Nat} (hi : i < 16) :
    0 ≤ Int.tmod (IntKind.wrap .i64 (intOfAV (atL (u8c f) (0 + (0 + (i : Int).toNat))))) m ∧ Int.tmod (IntKind.wrap .i64 (intOfAV (atL (u8c f) (0 + (0 + (i : Int).toNat))))) m < m := by
  have a3 := hf i (by omega)
  rw [Int.toNat_natCast, Nat.zero_add, Nat.zero_add, u8c_at (by omega), wI (n := f i) (by omega) (by omega), tmod_nn (by omega)]
  exact ⟨Int.emod_nonneg _ (by omega), Int.emod_lt_of_pos _ hm⟩
end Go.Sp

namespace Go.Proofs.YtolcfdcoidpieaaGreatDoor
open Go Go.Am Go.Sp
set_option maxRecDepth 100000
def ow2:FuncId→Option (List Bool):=fun f=>bif Nat.beq f 215||Nat.beq f 222 then some [false] else none
theorem join_g (f g:Nat→Int) (n:Nat) (hn:n≤1099511627776):Gives Tryz.prog gl0 222 [] [bys n f,.agg (u8c g)] (.osl 0 1 0 (n+32)) [some ⟨1,n+32,true,.fn fun i _=>.int .u8 (bif Nat.blt i n then f i else g (i - n))⟩]:=by
 refine gives_sk (own:=ow0) (hand:=true) Tryz.func222 (by kernel_rfl) mixed (by kernel_rfl)
  (.req ((0+n)*1≤140737488355328) (.loop ({ x:Nat // x≤32 }) (fun (x:{ x:Nat // x≤32 })=>mkSt [3,5,6] [AV.own 0 32 0 0 32,AV.osl 1 1 0 (n+x.1),Zi (↑(x.1):Int)] [some ⟨32,1,true,Rep.lst [u8c g]⟩,some ⟨1,n+x.1,true,Rep.fn fun (i x:Nat)=>Zb (bif Nat.blt i n then f i else g (i - n))⟩]) (fun (x:{ x:Nat // x≤32 })=>32 - x.1) (⟨0,Nat.zero_le 32⟩) ([3,5,6]) ([0,32]) ([AV.own 0 32 0 0 32,AV.osl 1 1 0 (0+n),Zi 0]) ([some ⟨32,1,true,Rep.lst [u8c g]⟩,some ⟨1,0+n,true,Rep.fn fun (i j:Nat)=>Zb (f i)⟩]) (fun x1=>(.br (decide ((↑x1.1:Int)<32)) (.req ((0:Int)≤(↑x1.1:Int)∧(↑x1.1:Int)<(↑(32):Int)) (.req ((n+x1.1+1)*1≤140737488355328) (.again (Again 0 (fun (x:{ x:Nat // x≤32 })=>mkSt [3,5,6] [AV.own 0 32 0 0 32,AV.osl 1 1 0 (n+x.1),Zi (↑(x.1):Int)] [some ⟨32,1,true,Rep.lst [u8c g]⟩,some ⟨1,n+x.1,true,Rep.fn fun (i x:Nat)=>Zb (bif Nat.blt i n then f i else g (i - n))⟩]) (fun (x:{ x:Nat // x≤32 })=>32 - x.1) x1) ([3,5,6]) ([0,58]) ([AV.own 0 32 0 0 32,AV.osl 1 1 0 (n+x1.1+1),Zi (IntKind.wrap IntKind.i64 ((↑x1.1:Int)+1))]) ([some ⟨32,1,true,Rep.lst [u8c g]⟩,some ⟨1,n+x1.1+1,true,Rep.fn fun (i j:Nat)=>Zb (bif Nat.blt i (n+x1.1) then bif Nat.blt i n then f i else g (i - n) else intOfAV (atL [Zb (intOfAV (Rep.at (Ob.f (Ob.seen ⟨32,1,true,Rep.lst [u8c g]⟩)) 0 (0+Int.toNat (↑(x1.1):Int))))] j))⟩])))) (.out (AV.osl 0 1 0 (n+x1.1)) ([some ⟨1,n+x1.1,true,Rep.fn fun (i j:Nat)=>Zb (bif Nat.blt i n then f i else g (i - n))⟩]) (AV.osl 0 1 0 (n+32)) ([some ⟨1,n+32,true,Rep.fn fun (i x:Nat)=>Zb (bif Nat.blt i n then f i else g (i - n))⟩]))))))
  (by kernel_rfl) ?_
 refine k_req (by omega) ?_
 refine k_loop (fun _ hs=>hs.le (⟨.refl _,Ent.of_eq (congrArg (AV.osl 1 1 0) (by dsimp only;omega)),.refl _,trivial⟩) (⟨.refl _,join_ob,trivial⟩)) (fun x1=>?_)
 try (have q1:=x1.2;dsimp only at q1)
 refine k_br (fun h2=>?_) (fun h2=>?_)
 ·have g2:=cnd_dec_t h2
  refine k_req (by omega) ?_
  refine k_req (by omega) ?_
  exact k_again (⟨x1.1+1,by omega⟩) (fun _ hs=>hs.le (⟨.refl _,Ent.of_eq (congrArg (AV.osl 1 1 0) (by dsimp only;omega)),inc_ent (by omega),trivial⟩) (⟨.refl _,ObEnt.pushF (F:=fun i=>bif Nat.blt i n then f i else g (i - n)) (by dsimp only;omega) (by show intOfAV (atL (u8c g) (0+x1.1))=bif Nat.blt (n+x1.1) n then f (n+x1.1) else g (n+x1.1 - n);rw [Nat.zero_add,blt_f (by omega),u8c_at (by omega)];show g _=g _;congr 1;omega),trivial⟩)) (by dsimp only;omega)
 ·have g2:=cnd_dec_f h2
  exact k_outg (Ent.of_eq (congrArg (AV.osl 0 1 0) (by omega))) (⟨⟨rfl,by simp only;omega,rfl,fun i j _ _=>Ent.refl _⟩,trivial⟩)
theorem join_gn (g:Nat→Int):Gives Tryz.prog gl0 222 [] [.nsl,.agg (u8c g)] (.osl 0 1 0 32) [some ⟨1,32,true,.fn fun i _=>.int .u8 (g i)⟩] :=
 (join_g (fun _=>0) g 0 (by omega)).via ⟨Ent.nsl,Ent.refl _,trivial⟩
theorem rtagged_c (s:ByteArray) (hs:s.size≤100) (f:Nat→Int) (n:Nat) (hn:n≤1099511627000) (hf:byB f n):Pure Tryz.prog gl0 156 [.str s,bys n f] (.agg (u8c (tagF s n f))):=by
 refine pure_sk (own:=ow2) Tryz.func156 (by kernel_rfl) mixed (by kernel_rfl)
  (let y0:AV:=(AV.agg (u8c (shaF (64+n) fun (i:Nat)=>bif Nat.blt (i+0) 64 then bif Nat.blt (i+0) 32 then shaF (ByteArray.size s) (fun (i:Nat)=>(↑(UInt8.toNat (List.getD (Array.toList (ByteArray.data s)) i (0:UInt8))):Int)) (i+0+0) else shaF (ByteArray.size s) (fun (i:Nat)=>(↑(UInt8.toNat (List.getD (Array.toList (ByteArray.data s)) i (0:UInt8))):Int)) (i+0 - 32) else f (i+0 - 64))));(.sc (true) 221 ([AV.isl 1 (ByteArray.size s) fun (i x:Nat)=>Zb (↑(UInt8.toNat (List.getD (Array.toList (ByteArray.data s)) i (0:UInt8))):Int)]) (AV.agg (u8c (shaF (ByteArray.size s) fun (i:Nat)=>(↑(UInt8.toNat (List.getD (Array.toList (ByteArray.data s)) i (0:UInt8))):Int)))) (.gc 222 ([]) ([AV.nsl,AV.agg (u8c (shaF (ByteArray.size s) fun (i:Nat)=>(↑(UInt8.toNat (List.getD (Array.toList (ByteArray.data s)) i (0:UInt8))):Int)))]) (AV.osl 0 1 0 32) ([some ⟨1,32,true,Rep.fn fun (i x:Nat)=>Zb (shaF (ByteArray.size s) (fun (i:Nat)=>(↑(UInt8.toNat (List.getD (Array.toList (ByteArray.data s)) i (0:UInt8))):Int)) i)⟩]) (.gc 222 ([]) ([AV.isl 1 32 fun (r k:Nat)=>Zb (shaF (ByteArray.size s) (fun (i:Nat)=>(↑(UInt8.toNat (List.getD (Array.toList (ByteArray.data s)) i (0:UInt8))):Int)) (r+0)),AV.agg (u8c (shaF (ByteArray.size s) fun (i:Nat)=>(↑(UInt8.toNat (List.getD (Array.toList (ByteArray.data s)) i (0:UInt8))):Int)))]) (AV.osl 0 1 0 (32+32)) ([some ⟨1,32+32,true,Rep.fn fun (i x:Nat)=>Zb (bif Nat.blt i 32 then shaF (ByteArray.size s) (fun (i:Nat)=>(↑(UInt8.toNat (List.getD (Array.toList (ByteArray.data s)) i (0:UInt8))):Int)) (i+0) else shaF (ByteArray.size s) (fun (i:Nat)=>(↑(UInt8.toNat (List.getD (Array.toList (ByteArray.data s)) i (0:UInt8))):Int)) (i - 32))⟩]) (.req ((64+n)*1≤140737488355328) (.sc (true) 221 ([AV.isl 1 (64+n) fun (r k:Nat)=>Zb (bif Nat.blt (r+0) 64 then bif Nat.blt (r+0) 32 then shaF (ByteArray.size s) (fun (i:Nat)=>(↑(UInt8.toNat (List.getD (Array.toList (ByteArray.data s)) i (0:UInt8))):Int)) (r+0+0) else shaF (ByteArray.size s) (fun (i:Nat)=>(↑(UInt8.toNat (List.getD (Array.toList (ByteArray.data s)) i (0:UInt8))):Int)) (r+0 - 32) else f (r+0 - 64))]) y0 (.out y0 [] (AV.agg (u8c (tagF s n f))) [])))))))
  (by kernel_rfl) ?_
 refine k_sc (rsum_c (fun (i:Nat)=>(↑(UInt8.toNat (List.getD (Array.toList (ByteArray.data s)) i (0:UInt8))):Int)) (ByteArray.size s) (by omega) (by exact strB s _)) ?_
 refine k_gc (join_gn (shaF (ByteArray.size s) fun (i:Nat)=>(↑(UInt8.toNat (List.getD (Array.toList (ByteArray.data s)) i (0:UInt8))):Int))) ?_
 refine k_gc (join_g (fun (i:Nat)=>shaF (ByteArray.size s) (fun (i:Nat)=>(↑(UInt8.toNat (List.getD (Array.toList (ByteArray.data s)) i (0:UInt8))):Int)) (i+0)) (shaF (ByteArray.size s) fun (i:Nat)=>(↑(UInt8.toNat (List.getD (Array.toList (ByteArray.data s)) i (0:UInt8))):Int)) (32) (by omega)) ?_
 refine k_req (by omega) ?_
 refine k_sc (rsum_c (fun (i:Nat)=>bif Nat.blt (i+0) (64) then bif Nat.blt (i+0) (32) then shaF (ByteArray.size s) (fun (i:Nat)=>(↑(UInt8.toNat (List.getD (Array.toList (ByteArray.data s)) i (0:UInt8))):Int)) (i+0+0) else shaF (ByteArray.size s) (fun (i:Nat)=>(↑(UInt8.toNat (List.getD (Array.toList (ByteArray.data s)) i (0:UInt8))):Int)) (i+0 - 32) else f (i+0 - 64)) (64+n) (by omega) (by exact tag_by s n f hf)) ?_
 exact k_out (Ent.refl _)
theorem rnumber_c (f:Nat→Int) (m:Int) (hm:0<m) (hm':m<2305843009213693952) (hf:byB f 32):Pure Tryz.prog gl0 155 [.agg (u8c f),.int .i64 m] (.int .i64 (numF f m 16)):=by
 have r:=rem256 hm hm'
 refine pure_sk (own:=ow0) Tryz.func155 (by kernel_rfl) mixed (by kernel_rfl)
  (let y0:List (Option Ob):=[some ⟨32,1,true,Rep.lst [u8c f]⟩];(.loop ({ x:Nat // x≤16 }) (fun (x:{ x:Nat // x≤16 })=>mkSt [1,2,5,6] [Zi m,AV.own 0 32 0 0 32,Zi (numF f m (x.1)),Zi (↑(x.1):Int)] y0) (fun (x:{ x:Nat // x≤16 })=>16 - x.1) (⟨0,Nat.zero_le 16⟩) ([1,2,5,6]) ([0]) ([Zi m,AV.own 0 32 0 0 32,Zi 0,Zi 0]) (y0) (fun x0=>(.br (decide ((↑x0.1:Int)<16)) (.req (m≠(0:Int)) (.sc (true) 110 ([Zi (numF f m x0.1),Zi (Int.tmod (256:Int) m),Zi m]) (Zi (numF f m x0.1*Int.tmod (256:Int) m%m)) (.req ((0:Int)≤(↑x0.1:Int)∧(↑x0.1:Int)<(↑(32):Int)) (.sc (true) 111 ([Zi (IntKind.wrap IntKind.i64 (numF f m x0.1*Int.tmod (256:Int) m%m+IntKind.wrap IntKind.i64 (intOfAV (atL (u8c f) (0+Int.toNat (↑x0.1:Int)))))),Zi m]) (Zi (IntKind.wrap IntKind.i64 (numF f m x0.1*Int.tmod (256:Int) m%m+IntKind.wrap IntKind.i64 (intOfAV (atL (u8c f) (0+Int.toNat (↑x0.1:Int)))))%m)) (.again (Again 0 (fun (x:{ x:Nat // x≤16 })=>mkSt [1,2,5,6] [Zi m,AV.own 0 32 0 0 32,Zi (numF f m (x.1)),Zi (↑(x.1):Int)] y0) (fun (x:{ x:Nat // x≤16 })=>16 - x.1) x0) ([1,2,5,6]) ([0]) ([Zi m,AV.own 0 32 0 0 32,Zi (IntKind.wrap IntKind.i64 (numF f m x0.1*Int.tmod (256:Int) m%m+IntKind.wrap IntKind.i64 (intOfAV (atL (u8c f) (0+Int.toNat (↑x0.1:Int)))))%m),Zi (IntKind.wrap IntKind.i64 ((↑x0.1:Int)+1))]) (y0)))))) (.out (Zi (numF f m x0.1)) [] (Zi (numF f m 16)) [])))))
  (by kernel_rfl) ?_
 refine k_loop (fun _ hs=>hs.le (⟨.refl _,.refl _,.refl _,.refl _,trivial⟩) (⟨.refl _,trivial⟩)) (fun x0=>?_)
 try (have q0:=x0.2;dsimp only at q0)
 have n0:=num_by (f:=f) hm x0.1
 refine k_br (fun h1=>?_) (fun h1=>?_)
 ·have g1:=cnd_dec_t h1
  refine k_req (by omega) ?_
  refine k_sc (rmul_c (numF f m x0.1) (Int.tmod (256:Int) m) (m) (by omega) (by omega) (by omega) (by omega) (by omega)) ?_
  refine k_req (by omega) ?_
  refine k_sc (rreduce_c (IntKind.wrap IntKind.i64 (numF f m x0.1*Int.tmod (256:Int) m%m+IntKind.wrap IntKind.i64 (intOfAV (atL (u8c f) (0+Int.toNat (↑x0.1:Int)))))) (m) (by omega) (by omega)) ?_
  exact k_again (⟨x0.1+1,by omega⟩) (fun _ hs=>hs.le (⟨.refl _,.refl _,Ent.of_eq (congrArg _ (num_le hm hm' hf (by omega))),inc_ent (by omega),trivial⟩) (⟨.refl _,trivial⟩)) (by dsimp only;omega)
 ·have g1:=cnd_dec_f h1
  exact k_out (Ent.of_eq (congrArg _ (by rw [show x0.1=16 by omega])))
theorem tagged_c (s:ByteArray) (hs:s.size≤100) (h1:1≤s.size) (f:Nat→Int) (n:Nat) (hn:n≤1099511627000) (hf:byB f n):Pure Tryz.prog gl0 144 [.str s,bys n f] (.tup [.agg (u8c (tagF s n f)),.int .i64 0]):=by
 refine pure_sk (own:=ow2) Tryz.func144 (by kernel_rfl) mixed (by kernel_rfl)
  (let y0:AV:=(AV.tup [AV.agg (u8c (tagF s n f)),Zi 0]);(.br (decide ((↑(ByteArray.size s):Int)<1)||decide ((↑(ByteArray.size s):Int)>100)) (.out (AV.tup [AV.agg [Zb 0,Zb 0,Zb 0,Zb 0,Zb 0,Zb 0,Zb 0,Zb 0,Zb 0,Zb 0,Zb 0,Zb 0,Zb 0,Zb 0,Zb 0,Zb 0,Zb 0,Zb 0,Zb 0,Zb 0,Zb 0,Zb 0,Zb 0,Zb 0,Zb 0,Zb 0,Zb 0,Zb 0,Zb 0,Zb 0,Zb 0,Zb 0],Zi 2]) [] y0 []) (.sc (true) 214 ([AV.isl 1 (ByteArray.size s) fun (i x:Nat)=>Zb (↑(UInt8.toNat (List.getD (Array.toList (ByteArray.data s)) i (0:UInt8))):Int)]) (AV.agg (u8c (shaF (ByteArray.size s) fun (i:Nat)=>(↑(UInt8.toNat (List.getD (Array.toList (ByteArray.data s)) i (0:UInt8))):Int)))) (.gc 215 ([]) ([AV.isl 1 32 fun (r x:Nat)=>Zb (intOfAV (atL (u8c (shaF (ByteArray.size s) fun (i:Nat)=>(↑(UInt8.toNat (List.getD (Array.toList (ByteArray.data s)) i (0:UInt8))):Int))) (0+(0+r))))]) (AV.osl 0 1 0 32) ([some ⟨1,32,true,Rep.fn fun (i x:Nat)=>Zb (intOfAV (atL (u8c (shaF (ByteArray.size s) fun (i:Nat)=>(↑(UInt8.toNat (List.getD (Array.toList (ByteArray.data s)) i (0:UInt8))):Int))) (0+(0+i))))⟩]) (.req (64≤140737488355328) (.req ((64+n)*1≤140737488355328) (.sc (true) 214 ([AV.isl 1 (64+n) fun (r k:Nat)=>Zb (bif Nat.blt (r+0) 64 then bif Nat.blt (r+0) 32 then intOfAV (atL (u8c (shaF (ByteArray.size s) fun (i:Nat)=>(↑(UInt8.toNat (List.getD (Array.toList (ByteArray.data s)) i (0:UInt8))):Int))) (0+(0+(r+0)))) else intOfAV (atL (u8c (shaF (ByteArray.size s) fun (i:Nat)=>(↑(UInt8.toNat (List.getD (Array.toList (ByteArray.data s)) i (0:UInt8))):Int))) (0+(0+(r+0 - 32)))) else f (r+0 - 64))]) (AV.agg (u8c (shaF (64+n) fun (i:Nat)=>bif Nat.blt (i+0) 64 then bif Nat.blt (i+0) 32 then intOfAV (atL (u8c (shaF (ByteArray.size s) fun (i:Nat)=>(↑(UInt8.toNat (List.getD (Array.toList (ByteArray.data s)) i (0:UInt8))):Int))) (0+(0+(i+0)))) else intOfAV (atL (u8c (shaF (ByteArray.size s) fun (i:Nat)=>(↑(UInt8.toNat (List.getD (Array.toList (ByteArray.data s)) i (0:UInt8))):Int))) (0+(0+(i+0 - 32)))) else f (i+0 - 64)))) (.out (AV.tup [AV.agg (u8c (shaF (64+n) fun (i:Nat)=>bif Nat.blt (i+0) 64 then bif Nat.blt (i+0) 32 then intOfAV (atL (u8c (shaF (ByteArray.size s) fun (i:Nat)=>(↑(UInt8.toNat (List.getD (Array.toList (ByteArray.data s)) i (0:UInt8))):Int))) (0+(0+(i+0)))) else intOfAV (atL (u8c (shaF (ByteArray.size s) fun (i:Nat)=>(↑(UInt8.toNat (List.getD (Array.toList (ByteArray.data s)) i (0:UInt8))):Int))) (0+(0+(i+0 - 32)))) else f (i+0 - 64))),Zi 0]) [] y0 []))))))))
  (by kernel_rfl) ?_
 refine k_br (fun h0=>?_) (fun h0=>?_)
 ·have g0:=(cnd_or_t cnd_dec_t cnd_dec_t) h0
  exact k_out ((by exfalso;omega))
 ·have g0:=(cnd_or_f cnd_dec_f cnd_dec_f) h0
  refine k_sc (sum_c (fun (i:Nat)=>(↑(UInt8.toNat (List.getD (Array.toList (ByteArray.data s)) i (0:UInt8))):Int)) (ByteArray.size s) (by omega) (by exact strB s _)) ?_
  refine k_gc (cloneB2_c (fun (i:Nat)=>intOfAV (atL (u8c (shaF (ByteArray.size s) fun (i:Nat)=>(↑(UInt8.toNat (List.getD (Array.toList (ByteArray.data s)) i (0:UInt8))):Int))) (0+(0+i)))) (32) (by omega)) ?_
  refine k_req (by omega) ?_
  refine k_req (by omega) ?_
  refine k_sc (sum_c (fun (i:Nat)=>bif Nat.blt (i+0) (64) then bif Nat.blt (i+0) (32) then intOfAV (atL (u8c (shaF (ByteArray.size s) fun (i:Nat)=>(↑(UInt8.toNat (List.getD (Array.toList (ByteArray.data s)) i (0:UInt8))):Int))) (0+(0+(i+0)))) else intOfAV (atL (u8c (shaF (ByteArray.size s) fun (i:Nat)=>(↑(UInt8.toNat (List.getD (Array.toList (ByteArray.data s)) i (0:UInt8))):Int))) (0+(0+(i+0 - 32)))) else f (i+0 - 64)) (64+n) (by omega) (by exact by_congr (fun i=>tag_at i) (tag_by s n f hf))) ?_
  exact k_out (Ent.of_eq (congrArg (fun t=>AV.tup [.agg (u8c t),.int .i64 0]) (sha_congr fun i _=>tag_at i)))
theorem wadd_ok (a b m:Int) (ha:0≤a∧a<m) (hb:0≤b∧b<m) (hm':m<2305843009213693952):Pure Tryz.prog gl0 216 [.int .i64 a,.int .i64 b,.int .i64 m] (.tup [.int .i64 ((a+b)%m),.int .i64 0]):=by
 have h:=wadd_c a b m
 rw [chk_ok (by omega) hm' ha.1 ha.2 hb.1 hb.2,okv0] at h
 exact h
theorem number_c (f:Nat→Int) (m:Int) (hm:0<m) (hm':m<2305843009213693952) (hf:byB f 32):Pure Tryz.prog gl0 145 [.agg (u8c f),.int .i64 m] (.tup [.int .i64 (numF f m 16),.int .i64 0]):=by
 refine pure_sk (own:=ow0) Tryz.func145 (by kernel_rfl) mixed (by kernel_rfl)
  (.br (decide (m<1)||decide (m≥2305843009213693952)) (.out (AV.tup [Zi 0,Zi 1]) [] (AV.tup [Zi (numF f m 16),Zi 0]) []) (.req ((0:Int)≤16∧(16:Int)≤(↑(32):Int)) (.loop ({ x:Nat // x≤16 }) (fun (x:{ x:Nat // x≤16 })=>mkSt [1,15,16,6,17] [Zi m,AV.isl 1 16 fun (r x:Nat)=>Zb (intOfAV (atL (u8c f) (0+(0+r)))),Zi (↑(16):Int),Zi (numF f m (x.1)),Zi (↑(x.1):Int)] []) (fun (x:{ x:Nat // x≤16 })=>16 - x.1) (⟨0,Nat.zero_le 16⟩) ([1,15,16,6,17]) ([]) ([Zi m,AV.isl 1 16 fun (r x:Nat)=>Zb (intOfAV (atL (u8c f) (0+(0+r)))),Zi (↑(16):Int),Zi 0,Zi 0]) ([]) (fun x3=>(.br (decide ((↑x3.1:Int)<(↑(16):Int))) (.req ((0:Int)≤(↑x3.1:Int)∧(↑x3.1:Int)<(↑(16):Int)) (.loop ({ x:Nat // x≤8 }) (fun (x:{ x:Nat // x≤8 })=>mkSt [1,8,15,16,17,6,21] [Zi m,Zb (intOfAV (atL (u8c f) (0+(0+Int.toNat (↑x3.1:Int))))),AV.isl 1 16 fun (r x:Nat)=>Zb (intOfAV (atL (u8c f) (0+(0+r)))),Zi (↑(16):Int),Zi (↑x3.1:Int),Zi (dblF (numF f m (x3.1)) m (x.1)),Zi (↑(x.1):Int)] []) (fun (x:{ x:Nat // x≤8 })=>8 - x.1) (⟨0,Nat.zero_le 8⟩) ([1,8,15,16,17,6,21]) ([]) ([Zi m,Zb (intOfAV (atL (u8c f) (0+(0+Int.toNat (↑x3.1:Int))))),AV.isl 1 16 fun (r x:Nat)=>Zb (intOfAV (atL (u8c f) (0+(0+r)))),Zi (↑(16):Int),Zi (↑x3.1:Int),Zi (numF f m x3.1),Zi 0]) ([]) (fun x6=>(.br (decide ((↑x6.1:Int)<8)) (.sc (true) 216 ([Zi (dblF (numF f m x3.1) m x6.1),Zi (dblF (numF f m x3.1) m x6.1),Zi m]) (AV.tup [Zi ((dblF (numF f m x3.1) m x6.1+dblF (numF f m x3.1) m x6.1)%m),Zi 0]) (.again (Again 0 (fun (x:{ x:Nat // x≤8 })=>mkSt [1,8,15,16,17,6,21] [Zi m,Zb (intOfAV (atL (u8c f) (0+(0+Int.toNat (↑x3.1:Int))))),AV.isl 1 16 fun (r x:Nat)=>Zb (intOfAV (atL (u8c f) (0+(0+r)))),Zi (↑(16):Int),Zi (↑x3.1:Int),Zi (dblF (numF f m (x3.1)) m (x.1)),Zi (↑(x.1):Int)] []) (fun (x:{ x:Nat // x≤8 })=>8 - x.1) x6) ([1,8,15,16,17,6,21]) ([]) ([Zi m,Zb (intOfAV (atL (u8c f) (0+(0+Int.toNat (↑x3.1:Int))))),AV.isl 1 16 fun (r x:Nat)=>Zb (intOfAV (atL (u8c f) (0+(0+r)))),Zi (↑(16):Int),Zi (↑x3.1:Int),Zi ((dblF (numF f m x3.1) m x6.1+dblF (numF f m x3.1) m x6.1)%m),Zi (IntKind.wrap IntKind.i64 ((↑x6.1:Int)+1))]) ([]))) (.req (m≠(0:Int)) (.sc (true) 216 ([Zi (dblF (numF f m x3.1) m x6.1),Zi (Int.tmod (IntKind.wrap IntKind.i64 (intOfAV (atL (u8c f) (0+(0+Int.toNat (↑x3.1:Int)))))) m),Zi m]) (AV.tup [Zi ((dblF (numF f m x3.1) m x6.1+Int.tmod (IntKind.wrap IntKind.i64 (intOfAV (atL (u8c f) (0+(0+Int.toNat (↑x3.1:Int)))))) m)%m),Zi 0]) (.again (Again 0 (fun (x:{ x:Nat // x≤16 })=>mkSt [1,15,16,6,17] [Zi m,AV.isl 1 16 fun (r x:Nat)=>Zb (intOfAV (atL (u8c f) (0+(0+r)))),Zi (↑(16):Int),Zi (numF f m (x.1)),Zi (↑(x.1):Int)] []) (fun (x:{ x:Nat // x≤16 })=>16 - x.1) x3) ([1,15,16,6,17]) ([]) ([Zi m,AV.isl 1 16 fun (r x:Nat)=>Zb (intOfAV (atL (u8c f) (0+(0+r)))),Zi (↑(16):Int),Zi ((dblF (numF f m x3.1) m x6.1+Int.tmod (IntKind.wrap IntKind.i64 (intOfAV (atL (u8c f) (0+(0+Int.toNat (↑x3.1:Int)))))) m)%m),Zi (IntKind.wrap IntKind.i64 ((↑x3.1:Int)+1))]) ([])))))))) (.out (AV.tup [Zi (numF f m x3.1),Zi 0]) [] (AV.tup [Zi (numF f m 16),Zi 0]) []))))))
  (by kernel_rfl) ?_
 refine k_br (fun h0=>?_) (fun h0=>?_)
 ·have g0:=(cnd_or_t cnd_dec_t cnd_dec_t) h0
  exact k_out ((by exfalso;omega))
 ·have g0:=(cnd_or_f cnd_dec_f cnd_dec_f) h0
  refine k_req (by omega) ?_
  refine k_loop (fun _ hs=>hs.le (⟨.refl _,.refl _,.refl _,.refl _,.refl _,trivial⟩) (trivial)) (fun x3=>?_)
  try (have q3:=x3.2;dsimp only at q3)
  have n0:=num_by (f:=f) hm x3.1
  refine k_br (fun h4=>?_) (fun h4=>?_)
  ·have g4:=cnd_dec_t h4
   refine k_req (by omega) ?_
   refine k_loop (fun _ hs=>hs.le (⟨.refl _,.refl _,.refl _,.refl _,.refl _,.refl _,.refl _,trivial⟩) (trivial)) (fun x6=>?_)
   try (have q6:=x6.2;dsimp only at q6)
   have n1:=dbl_by hm n0 x6.1
   refine k_br (fun h7=>?_) (fun h7=>?_)
   ·have g7:=cnd_dec_t h7
    refine k_sc (wadd_ok (dblF (numF f m x3.1) m x6.1) (dblF (numF f m x3.1) m x6.1) (m) (by omega) (by omega) (by omega)) ?_
    exact k_again (⟨x6.1+1,by omega⟩) (fun _ hs=>hs.le (⟨.refl _,.refl _,.refl _,.refl _,.refl _,.refl _,inc_ent (by omega),trivial⟩) (trivial)) (by dsimp only;omega)
   ·have g7:=cnd_dec_f h7
    refine k_req (by omega) ?_
    refine k_sc (wadd_ok (dblF (numF f m x3.1) m x6.1) (Int.tmod (IntKind.wrap IntKind.i64 (intOfAV (atL (u8c f) (0+(0+Int.toNat (↑x3.1:Int)))))) m) (m) (by omega) (by exact num_arg hm hf (by omega)) (by omega)) ?_
    exact k_again (⟨x3.1+1,by omega⟩) (fun _ hs=>hs.le (⟨.refl _,.refl _,.refl _,Ent.of_eq (congrArg _ (num_fin hm hf (by omega) (by omega))),inc_ent (by omega),trivial⟩) (trivial)) (by dsimp only;omega)
  ·have g4:=cnd_dec_f h4
   exact k_out (Ent.tup ⟨Ent.of_eq (congrArg _ (by rw [show x3.1=16 by omega])),Ent.refl _,trivial⟩)
end Go.Proofs.YtolcfdcoidpieaaGreatDoor

namespace Go.Sp
open Go Go.Am

def numB (n : Int) (size i : Nat) : Int := n / 256 ^ (size - 1 - i) % 256
def numT (n : Int) (size t i : Nat) : Int := bif Nat.blt i (size - t) then 0 else numB n size i
theorem num_z {n : Int} {size i j : Nat} (hi : i < size) (hj : j < 1) : intOfAV (atL (zcells (.int .u8 0)) j) = numT n size 0 i := by
  obtain rfl : j = 0 := Nat.lt_one_iff.1 hj
  unfold numT
  rw [blt_t (by omega)]
  rfl
theorem num_full {n : Int} {size t i : Nat} (h : size ≤ t) : numT n size t i = numB n size i := by
  unfold numT
  rw [blt_f (by omega)]
  rfl
theorem num_q {n : Int} (h0 : 0 ≤ n) (t : Nat) : Int.tdiv (n / 256 ^ t) 256 = n / 256 ^ (t + 1) := by
  have h : 0 ≤ n / 256 ^ t := Int.ediv_nonneg h0 (Int.pow_nonneg (by omega))
  rw [tdiv_nn h, Int.pow_succ, Int.ediv_ediv_of_nonneg (Int.pow_nonneg (by omega))]
theorem num_qw {n : Int} (h0 : 0 ≤ n) (hn : n < 18446744073709551616) (t : Nat) : IntKind.wrap .u64 (Int.tdiv (n / 256 ^ t) 256) = n / 256 ^ (t + 1) := by
  have h1 : 0 ≤ n / 256 ^ (t + 1) := Int.ediv_nonneg h0 (Int.pow_nonneg (by omega))
  have h2 : n / 256 ^ (t + 1) ≤ n := Int.ediv_le_self _ h0
  rw [num_q h0, wu64 h1 (by omega)]
theorem num_s {n : Int} {size t i j : Nat} (h0 : 0 ≤ n) (ht : t < size) (hj : j < 1) :
    (bif Nat.beq i (Int.toNat ((size : Int) - 1 - t) + 0) && (Nat.ble 0 j && Nat.blt j 1) then IntKind.wrap .u8 (Int.tmod (n / 256 ^ t) 256) else numT n size t i) = numT n size (t + 1) i := by
  obtain rfl : j = 0 := Nat.lt_one_iff.1 hj
  have h : 0 ≤ n / 256 ^ t := Int.ediv_nonneg h0 (Int.pow_nonneg (by omega))
  have e : Int.toNat ((size : Int) - 1 - t) + 0 = size - 1 - t := by omega
  rw [e]
  by_cases hi : i = size - 1 - t
  · subst hi
    have e2 : size - 1 - (size - 1 - t) = t := by omega
    rw [Nat.beq_refl]
    show IntKind.wrap .u8 (Int.tmod (n / 256 ^ t) 256) = bif Nat.blt (size - 1 - t) (size - (t + 1)) then 0 else n / 256 ^ (size - 1 - (size - 1 - t)) % 256
    rw [blt_f (show size - (t + 1) ≤ size - 1 - t by omega), e2, wu8m, tmod_nn h]
    show _ % 256 % 256 = n / 256 ^ t % 256
    omega
  · have hb : Nat.beq i (size - 1 - t) = false := by
      cases hb : Nat.beq i (size - 1 - t) with
      | false => rfl
      | true => exact absurd (Nat.eq_of_beq_eq_true hb) hi
    rw [hb]
    show (bif Nat.blt i (size - t) then 0 else numB n size i) = (bif Nat.blt i (size - (t + 1)) then 0 else numB n size i)
    by_cases hl : i < size - (t + 1)
    · rw [blt_t hl, blt_t (show i < size - t by omega)]
    · rw [blt_f (Nat.le_of_not_lt hl), blt_f (show size - t ≤ i by omega)]
end Go.Sp

namespace Go.Am
open Go.RowKit Go.ChangeShapes Go.WideShapes Go.ChangeAt
inductive CT where
 | int (k:IntKind)
 | bool
 | str
 | sl (cs:List CT)
inductive CellOk:CT→AV→Prop where
 | int {k:IntKind} {n:Int} (h:(Lit.int k n).wf=true):CellOk (.int k) (.int k n)
 | bool {b:Bool}:CellOk .bool (.bool b)
 | str {s:ByteArray} (h:s.size≤maxLen):CellOk .str (.str s)
 | sl {cs:List CT} {n:Nat} {f:Nat→Nat→AV} (hn:n≤maxLen) (h:∀ (i j:Nat) c,i<n→cs[j]? = some c→CellOk c (f i j)):CellOk (.sl cs) (.isl cs.length n f)
def shapeFs (P:Program) (sh:TypeId→Option (List CT)):Nat→List Field→Option (List CT)
 | _,[]=>some []
 | off,f::fs=>match sh f.type with
  | some l=>bif Nat.beq f.offset off&&Nat.beq l.length (P.cellsOf f.type) then (match shapeFs P sh (off+l.length) fs with|some r=>some (l++r)|none=>none) else none
  | none=>none
def shape (P:Program):Nat→TypeId→Option (List CT)
 | 0,_=>none
 | n+1,t=>match P.underlying t with
  | some .bool=>some [.bool]
  | some (.int k)=>some [.int k]
  | some .string=>some [.str]
  | some (.slice e)=>match shape P n e with
   | some l=>bif Nat.beq l.length (P.cellsOf e)&&Nat.blt 0 l.length then some [.sl l] else none
   | none=>none
  | some (.struct fs)=>match shapeFs P (shape P n) 0 fs.toList with
   | some l=>bif Nat.beq l.length (P.cellsOf t) then some l else none
   | none=>none
  | some (.array m e)=>match shape P n e with
   | some l=>bif Nat.beq l.length (P.cellsOf e)&&Nat.beq (m*l.length) (P.cellsOf t) then some (List.replicate m l).flatten else none
   | none=>none
  | _=>none
abbrev noB:Book:=Book.none fun _=>False
theorem noB_free (b:Nat):noB.free b:=⟨fun h=>h,fun _ _ h=>by cases h⟩
structure Fits (w:World) (ts:List CT) (cs:List Value):Prop where
 len:cs.length=ts.length
 cell:∀ (j:Nat) c,ts[j]? = some c→∃ v a,cs[j]? = some v∧CellOk c a∧Rel noB w a v∧v.oneCell'=true
theorem Fits.nil {w:World}:Fits w [] []:=⟨rfl,fun j c h=>by simp at h⟩
theorem Fits.one {w:World} {c:CT} {v:Value} {a:AV} (h:CellOk c a) (hr:Rel noB w a v) (ho:v.oneCell'=true):Fits w [c] [v]:=by
 refine ⟨rfl,fun j c' hj=>?_⟩
 cases j with
 | zero=>simp at hj;subst hj;exact ⟨v,a,rfl,h,hr,ho⟩
 | succ j=>simp at hj
theorem Fits.append {w:World} {ts ts':List CT} {cs cs':List Value} (h:Fits w ts cs) (h':Fits w ts' cs'):Fits w (ts++ts') (cs++cs'):=by
 refine ⟨by simp [h.len,h'.len],fun j c hj=>?_⟩
 by_cases hl:j<ts.length
 ·rw [List.getElem?_append_left hl] at hj
  rw [List.getElem?_append_left (by rw [h.len];exact hl)]
  exact h.cell j c hj
 ·rw [List.getElem?_append_right (by omega)] at hj
  rw [List.getElem?_append_right (by rw [h.len];omega),h.len]
  exact h'.cell _ c hj
theorem mapM_each {α β:Type} {f:α→Option β} {l:List α} {r:List β} (h:l.mapM f=some r) {x:α} (hx:x∈l):∃ y,f x=some y:=by
 obtain ⟨i,hi,rfl⟩:=List.getElem_of_mem hx
 have h1:=mapM_some_length h
 have h2:=mapM_some_get h i _ (List.getElem?_eq_getElem hi)
 rw [h2,List.getElem?_eq_getElem (by omega)]
 exact ⟨_,rfl⟩
theorem drop_take_split {cs:List Value} {off a b:Nat}:(cs.drop off).take (a+b)=(cs.drop off).take a++(cs.drop (off+a)).take b:=by
 rw [List.take_add,List.drop_drop]
section
variable {H:Type} {enc:TypeId×Value→H} {P:Program} {w:World} {sp:Nat→Bool}
theorem fits_fields {sh:TypeId→Option (List CT)} {cs:List Value}:∀ (fs:List Field) (off:Nat) (ts:List CT),shapeFs P sh off fs=some ts→(∀ f∈fs,∀ l,sh f.type=some l→Fits w l ((cs.drop f.offset).take (P.cellsOf f.type))) →
  Fits w ts ((cs.drop off).take ts.length):=by
 intro fs
 induction fs with
 | nil=>intro off ts h _;simp [shapeFs] at h;subst h;simpa using Fits.nil
 | cons f fs ih =>
  intro off ts h hf
  simp only [shapeFs] at h
  cases hl:sh f.type with
  | none=>simp [hl] at h
  | some l =>
   simp only [hl] at h
   obtain ⟨hc,h2⟩:=bif_some h
   rw [Bool.and_eq_true] at hc
   have e1:=Nat.eq_of_beq_eq_true hc.1
   have e2:=Nat.eq_of_beq_eq_true hc.2
   cases hr:shapeFs P sh (off+l.length) fs with
   | none=>simp [hr] at h2
   | some r =>
    simp only [hr,Option.some.injEq] at h2
    subst h2
    have g1:=hf f (List.mem_cons_self ..) l hl
    have g2:=ih (off+l.length) r hr (fun f' hf'=>hf f' (List.mem_cons_of_mem _ hf'))
    rw [e1,← e2] at g1
    rw [List.length_append,drop_take_split]
    exact g1.append g2
theorem fits_elems {cs:List Value} {l:List CT}:∀ n:Nat,(∀ i,i<n→Fits w l ((cs.drop (i*l.length)).take l.length))→Fits w (List.replicate n l).flatten (cs.take (n*l.length)):=by
 intro n
 induction n with
 | zero=>intro _;simpa using Fits.nil
 | succ n ih =>
  intro h
  have g1:=ih (fun i hi=>h i (by omega))
  have g2:=h n (by omega)
  have e:cs.take ((n+1)*l.length)=cs.take (n*l.length)++(cs.drop (n*l.length)).take l.length:=by
   rw [Nat.add_mul,Nat.one_mul,List.take_add]
  have e2:(List.replicate (n+1) l).flatten=(List.replicate n l).flatten++l:=by
   rw [List.replicate_succ',List.flatten_append];simp
  rw [e,e2]
  exact g1.append g2
theorem open_fits:∀ (m:Nat) (t:TypeId) (fuel:Nat) (cs:List Value) (x:DataW H×List MemPlace) (ts:List CT),DataW.trod enc P w 0 sp true fuel t cs=some x→shape P m t=some ts→Fits w ts cs:=by
 intro m
 induction m with
 | zero=>intro t fuel cs x ts _ h;simp [shape] at h
 | succ m ih =>
  intro t fuel cs x ts htr hsh
  simp only [shape] at hsh
  cases fuel with
  | zero=>simp [DataW.trod] at htr
  | succ fuel =>
   split at hsh
   ·rename_i hu
    simp only [Option.some.injEq] at hsh;subst hsh
    simp only [DataW.trod,hu] at htr
    split at htr<;>simp_all
    exact .one .bool .bool rfl
   ·rename_i k hu
    simp only [Option.some.injEq] at hsh;subst hsh
    simp only [DataW.trod,hu] at htr
    split at htr<;>simp_all
    obtain ⟨⟨rfl,hw⟩,_⟩:=htr
    exact .one (.int hw) .int rfl
   ·rename_i hu
    simp only [Option.some.injEq] at hsh;subst hsh
    simp only [DataW.trod,hu] at htr
    split at htr<;>simp_all
    exact .one (.str htr.1) .str rfl
   ·rename_i e hu
    split at hsh
    ·rename_i l hl
     obtain ⟨hc,h2⟩:=bif_some hsh
     clear hsh
     rw [Bool.and_eq_true,Nat.blt_eq] at hc
     have e1:=Nat.eq_of_beq_eq_true hc.1
     cases h2
     rcases Go.Deep.open_slice hu htr with ⟨rfl,_⟩|⟨a,len,cap,m',n,D,Pl,rfl,hb,hlc,hm,hmm,_,hx⟩
     ·exact .one (a:=.isl l.length 0 fun _ _=>.junk) (.sl (Nat.zero_le _) (fun i j c hi=>absurd hi (by omega))) (.isl0 fun _=>rfl) rfl
     ·have hlm:len≤m':=by rw [hmm];split<;>omega
      have hrow:∀ i,i<len→∃ cs',w.cells? 0 (a.add (i*l.length)) l.length=some cs'∧Fits w l cs':=fun i hi=>by
       obtain ⟨cs',h1,h2⟩:=hx i (by omega)
       rw [← e1] at h1
       exact ⟨cs',h1,ih e n cs' _ l h2 hl⟩
      obtain ⟨C,hC⟩:=Go.Deep.choose_lt hrow
      have hcell:∀ i j c,i<len→l[j]? = some c→∃ p:Value×AV,w.cell? (a.add (i*l.length+j))=some p.1∧CellOk c p.2∧Rel noB w p.2 p.1∧p.1.oneCell'=true:=fun i j c hi hj=>by
       obtain ⟨h1,h2⟩:=hC i hi
       obtain ⟨v,av,g1,g2,g3,g4⟩:=h2.cell j c hj
       obtain ⟨_,k1,k2⟩:=World.cells?_some h1
       refine ⟨(v,av),?_,g2,g3,g4⟩
       have hjl:j<l.length:=(List.getElem?_eq_some_iff.1 hj).1
       have:=k2 j hjl
       rw [Go.Deep.add_add,g1] at this
       exact this
      have hex:∀ i,i<len→∃ g:Nat→Value×AV,∀ j,j<l.length→∃ c,l[j]? = some c∧w.cell? (a.add (i*l.length+j))=some (g j).1∧CellOk c (g j).2∧Rel noB w (g j).2 (g j).1∧(g j).1.oneCell'=true:=fun i hi=>by
       have:Inhabited (Value×AV):=⟨(.bool true,.junk)⟩
       exact Go.Deep.choose_lt (p:=fun j (g:Value×AV)=>∃ c,l[j]? = some c∧w.cell? (a.add (i*l.length+j))=some g.1∧CellOk c g.2∧Rel noB w g.2 g.1∧g.1.oneCell'=true) (fun j hj=>by
        obtain ⟨p,h1,h2,h3,h4⟩:=hcell i j l[j] hi (by simp [hj])
        exact ⟨p,l[j],by simp [hj],h1,h2,h3,h4⟩)
      have:Inhabited (Nat→Value×AV):=⟨fun _=>(.bool true,.junk)⟩
      obtain ⟨G,hG⟩:=Go.Deep.choose_lt hex
      refine .one (a:=.isl l.length len fun i j=>(G i j).2) (.sl (by omega) (fun i j c hi hj=>?_)) ?_ rfl
      ·have hjl:j<l.length:=(List.getElem?_eq_some_iff.1 hj).1
       obtain ⟨c',g1,_,g3,_⟩:=hG i hi j hjl
       rw [hj] at g1;cases g1
       exact g3
      ·rcases Nat.eq_zero_or_pos len with rfl|hpos
       ·exact .isl0 (fun h=>by cases h)
       ·obtain ⟨b,off,spot⟩:=a
        have hspot:spot=none:=by
         obtain ⟨c',_,g2,_⟩:=hG 0 hpos 0 hc.2
         have:=World.cell?_spot g2
         simpa [Addr.add] using this
        subst hspot
        refine .isl (fun i j=>(G i j).1) hc.2 hlc (noB_free b) (fun i j hi hj=>?_) (fun i j hi hj=>?_) (fun i j hi hj=>?_) (fun i j hi hj=>?_)
        ·obtain ⟨c',_,g2,_⟩:=hG i hi j hj
         rw [← g2]
         congr 1
         unfold Addr.add
         split
         ·rename_i h0
          have:i*l.length=0:=by omega
          have:j=0:=by omega
          simp [*]
         ·simp;omega
        ·obtain ⟨c',_,_,_,_,g5⟩:=hG i hi j hj;exact g5
        ·obtain ⟨c',_,_,_,g4,_⟩:=hG i hi j hj;exact g4
        ·obtain ⟨c',_,_,_,g4,_⟩:=hG i hi j hj;exact g4.closed
    ·cases hsh
   ·rename_i fs hu
    split at hsh
    ·rename_i l hl
     obtain ⟨hc,h2⟩:=bif_some hsh
     clear hsh
     have h3:l=ts:=Option.some.inj h2
     subst h3
     have e1:=Nat.eq_of_beq_eq_true hc
     simp only [DataW.trod,hu] at htr
     split at htr
     ·rename_i hlen
      obtain ⟨xs,hxs,_⟩:=Option.map_eq_some_iff.1 htr
      have:=fits_fields (w:=w) (P:=P) (cs:=cs) fs.toList 0 l hl (fun f hf lf hlf=>by
       obtain ⟨y,hy⟩:=mapM_each hxs hf
       exact ih f.type fuel _ y lf hy hlf)
      rw [e1,← hlen] at this
      simpa using this
     ·cases htr
    ·cases hsh
   ·rename_i n e hu
    split at hsh
    ·rename_i l hl
     obtain ⟨hc,h2⟩:=bif_some hsh
     clear hsh
     cases h2
     rw [Bool.and_eq_true] at hc
     have e1:=Nat.eq_of_beq_eq_true hc.1
     have e2:=Nat.eq_of_beq_eq_true hc.2
     simp only [DataW.trod,hu] at htr
     split at htr
     ·rename_i hlen
      obtain ⟨xs,hxs,_⟩:=Option.map_eq_some_iff.1 htr
      have:=fits_elems (w:=w) (cs:=cs) (l:=l) n (fun i hi=>by
       obtain ⟨y,hy⟩:=mapM_each hxs (List.mem_range.2 hi)
       rw [← e1] at hy
       exact ih e fuel _ y l hy hl)
      rw [e2,← hlen] at this
      simpa using this
     ·cases htr
    ·cases hsh
   ·cases hsh
end
section
variable {H:Type} {enc:TypeId×Value→H} {P:Program}
theorem trodAll_stays {W W':World} {sp':Nat→Bool} (hl:laidOutB P=true):∀ {ts:List TypeId} {vs:List Value} {ds:List (DataW H)} {ps:List MemPlace},
  (∀ t,t∈ts→P.readableRec t=true∧t<P.types.size)→DataW.TrodAll enc P W 0 (fun _=>true) true ts vs ds ps→(∀ p∈ps,W.sameAt W' p)→(∀ p∈ps,sp' p.block=true) →
  DataW.TrodAll enc P W' 0 sp' true ts vs ds ps
 | [],[],[],_,_,h,_,_=>h
 | t::ts,v::vs,d::ds,ps,hr,h,hs,hp=>by
  obtain ⟨p,q,h1,h2,rfl⟩:=h
  refine ⟨p,q,WideElems.Trod_stays hl (hr t (by simp)).1 (hr t (by simp)).2 h1 (fun x hx=>hs x (by simp [hx])) (fun x hx=>hp x (by simp [hx])),?_,rfl⟩
  exact trodAll_stays hl (fun t ht=>hr t (by simp [ht])) h2 (fun x hx=>hs x (by simp [hx])) (fun x hx=>hp x (by simp [hx]))
 | [],_::_,_,_,_,h,_,_=>h.elim
 | [],[],_::_,_,_,h,_,_=>h.elim
 | _::_,[],_,_,_,h,_,_=>h.elim
 | _::_,_::_,[],_,_,h,_,_=>h.elim
theorem keptBut_of_below {W W':World} (hb:Below W.heap.size W W') (may:MemPlace→Prop):W.keptBut W' may:=by
 refine ⟨hb.os,hb.output,fun i hi=>?_⟩
 rw [hb.block i hi]
 split
 ·rename_i h1 h2
  rw [h1] at h2
  cases h2
  exact ⟨rfl,rfl,rfl,fun _ _=>rfl⟩
 ·rename_i h1 h2
  rw [h1] at h2
  cases h2
  exact Or.inr ⟨rfl,rfl⟩
 ·rfl
def readB (P:Program) (ts:List TypeId):Bool:=ts.all fun t=>P.readableRec t&&Nat.blt t P.types.size
theorem readB_ok {ts:List TypeId} (h:readB P ts=true):∀ t,t∈ts→P.readableRec t=true∧t<P.types.size:=by
 intro t ht
 have:=List.all_eq_true.1 h t ht
 rw [Bool.and_eq_true] at this
 exact ⟨this.1,by have:=this.2;simpa [Nat.blt_eq] using this⟩
theorem post_law {f:Func} {s:ChangeSpec} {apart fresh handsOn again:Bool} {W W':World} {args:Array Value} {ds gs:List (DataW H)} {before:List MemPlace} {tb:TypeId}
  (hl:laidOutB P=true) (hvars:s.vars=[]) (hrt:f.resultTypes = #[tb]) (htb:P.underlying tb=some .bool) (hrd:readB P f.params.toList=true)
  (hW:DataW.Whole enc P f.params.toList s.vars apart W args.toList ds gs before) (hb:Below W.heap.size W W')
  (hs:s.fn H ds={ results:=[.lit (.bool true)],args:=ds }) :
  s.post enc P f apart fresh handsOn again W args (.bool true) W':=by
 have hW0:=hW
 obtain ⟨p,q,hA,hV,rfl,hz,hn⟩:=hW
 rw [hvars] at hV
 obtain ⟨rfl,rfl⟩:=trodVars_none hV
 have hlt:∀ x∈p,x.block<W.heap.size:=fun x hx=>hA.lt x hx
 have hst:∀ sp:Nat→Bool,(∀ x∈p,sp x.block=true)→DataW.TrodAll enc P W' 0 sp true f.params.toList args.toList ds p :=
  fun sp hsp=>trodAll_stays hl (readB_ok hrd) hA (fun x hx=>hb.same (hlt x hx)) hsp
 have hres:∀ (b:Nat) (sp:Nat→Bool) (hd:Bool),DataW.TrodAll enc P W' b sp hd f.resultTypes.toList ((Value.bool true).resultList f.resultTypes.size) [.lit (.bool true)] []:=by
  intro b sp hd
  rw [hrt]
  exact ⟨[],[],shut_bool htb true,rfl,rfl⟩
 refine ⟨ds,[],p++[],[],p,[],hW0,?_,?_,?_,keptBut_of_below hb _,fun _=>?_⟩
 ·rw [List.append_nil,hs];exact hres _ _ _
 ·rw [List.append_nil,hs];exact hst _ (fun x hx=>by simpa using hlt x hx)
 ·rw [List.append_nil,hs,hvars];rfl
 ·refine ⟨ok_one hrt rfl (okWide_bool_mk htb true),_,[],([]++p)++[],⟨[]++p,[],trodAll_append (hst _ (fun _ _=>rfl)) (hres _ _ _),by rw [hvars];rfl,rfl,?_,?_⟩,?_⟩
  ·intro b off hp
   simp only [List.nil_append,List.append_nil] at hp
   have:=hlt _ hp
   rw [hb.frozen this]
   exact hz b off (by simpa using hp)
  ·intro ha
   simpa using hn ha
  ·intro x hx _
   simpa using hx
end
theorem Pure.calls {P:Program} {gl:Globs} {f:FuncId} {args:List AV} (h:Pure P gl f args (.bool true)) {W:World} {vs:Array Value} (hg:GlobB gl noB W)
  (hr:Rels noB W args vs) {Q:Ending→World→Prop} (hQ:∀ W',Below W.heap.size W W'→Q (.returned (.bool true)) W'):Calls P f vs W Q:=by
 refine (h.use (fun _ hf=>hf.elim) hg hr).mono ?_
 rintro e W' ⟨v,rfl,hb,hv⟩
 cases hv
 exact hQ W' hb
theorem Rels.nil {w:World}:Rels noB w [] #[]:=⟨rfl,fun j u x h=>by simp at h⟩
theorem Rels.cons {w:World} {a:AV} {v:Value} {avs:List AV} {vs:List Value} (h:Rel noB w a v) (hr:Rels noB w avs vs.toArray):Rels noB w (a::avs) (v::vs).toArray:=by
 refine ⟨by have:=hr.len;simpa using this,fun j u x hu hx=>?_⟩
 cases j with
 | zero=>simp at hu hx;subst hu;subst hx;exact h
 | succ j=>exact hr.rel j u x (by simpa using hu) (by simpa using hx)
theorem Fits.pick {w:World} {ts:List CT} {cs:List Value} (h:Fits w ts cs):∃ g:Nat→AV,∀ (j:Nat) c,ts[j]? = some c→CellOk c (g j)∧∃ v,cs[j]? = some v∧Rel noB w (g j) v:=by
 have:Inhabited AV:=⟨.junk⟩
 obtain ⟨g,hg⟩:=Go.Deep.choose_lt (n:=ts.length) (p:=fun j a=>∀ c,ts[j]? = some c→CellOk c a∧∃ v,cs[j]? = some v∧Rel noB w a v) (fun j hj=>by
  obtain ⟨v,a,h1,h2,h3,_⟩:=h.cell j ts[j] (by simp [hj])
  refine ⟨a,fun c hc=>?_⟩
  have:c=ts[j]:=by simpa [hj] using hc.symm
  subst this
  exact ⟨h2,v,h1,h3⟩)
 exact ⟨g,fun j c hc=>hg j (List.getElem?_eq_some_iff.1 hc).1 c hc⟩
theorem Fits.agg {w:World} {ts:List CT} {cs:List Value} (h:Fits w ts cs) {g:Nat→AV} (hg:∀ (j:Nat) c,ts[j]? = some c→CellOk c (g j)∧∃ v,cs[j]? = some v∧Rel noB w (g j) v) {l:List AV}
  (he:EntL [] ((List.range ts.length).map g) l):Rel noB w (.agg l) (.agg cs.toArray):=by
 obtain ⟨h1,h2⟩:=he.spec
 simp at h1
 refine .agg (by rw [← h1];simp [h.len]) fun j u v hu hv=>?_
 have hj:j<l.length:=(List.getElem?_eq_some_iff.1 hu).1
 have hjt:j<ts.length:=by omega
 obtain ⟨_,v',hv',hr⟩:=hg j ts[j] (by simp [hjt])
 have:v'=v:=by
  have hv:cs[j]? = some v:=by simpa using hv
  rw [hv'] at hv;exact Option.some.inj hv
 subst this
 exact h2 j (g j) u (by simp [hjt]) hu _ _ _ (fun k o hk=>by simp at hk) hr
def islN:AV→Nat
 | .isl _ n _=>n
 | _=>0
def islF:AV→Nat→Nat→AV
 | .isl _ _ f=>f
 | _=>fun _ _=>.junk
theorem canonI_wf {k:IntKind} {a:AV} (h:CellOk (.int k) a):(Lit.int k (intOfAV a)).wf=true:=by cases h with|int h=>exact h
theorem open_agg {H:Type} {enc:TypeId×Value→H} {P:Program} {W:World} {r:Reach} {b0:Nat} {t:TypeId} {v:Value} {d:DataW H} {ps:List MemPlace} {sp:Nat→Bool} {ts:List CT} (ht:isAggT P t=some true)
  (hsh:shape P 9 t=some ts) (hv:Value.okWide P W r b0 t v) (h:DataW.Trod enc P W 0 sp true t v d ps):∃ cs:List Value,v=.agg cs.toArray∧Fits W ts cs:=by
 obtain ⟨fuel,hf⟩:=h
 have:∃ cs:Array Value,v=.agg cs:=by
  unfold isAggT at ht
  split at ht
  ·rename_i fs hu
   obtain ⟨cs,e,_⟩:=okWide_struct hu hv
   exact ⟨cs,e⟩
  ·rename_i n e hu
   unfold Value.okWide at hv
   rw [hu] at hv
   obtain ⟨cs,e,_⟩:=hv
   exact ⟨cs,e⟩
  ·simp at ht
  ·simp at ht
 obtain ⟨cs,rfl⟩:=this
 exact ⟨cs.toList,by simp,open_fits 9 t fuel _ _ ts hf hsh⟩
end Go.Am

namespace Go.Am
open Go.RowKit
def boolOfAV:AV→Bool
 | .bool b=>b
 | _=>false
def strOfAV:AV→ByteArray
 | .str s=>s
 | _=>.empty
def homCT:List CT→Option IntKind
 | [.int k]=>some k
 | .int k::cs=>match homCT cs with
  | some k'=>bif decide (k=k') then some k else none
  | none=>none
 | _=>none
theorem homCT_at:∀ {cs:List CT} {k:IntKind},homCT cs=some k→∀ c,c∈cs→c=.int k
 | [],_,h=>by simp [homCT] at h
 | [c0],k,h=>by
  intro c hc
  cases c0<;>simp [homCT] at h
  subst h
  simpa using hc
 | c0::c1::cs,k,h=>by
  cases c0<;>simp only [homCT,reduceCtorEq] at h
  rename_i k0
  cases hr:homCT (c1::cs) with
  | none=>rw [hr] at h;simp at h
  | some k' =>
   rw [hr] at h
   simp only at h
   obtain ⟨h1,h2⟩:=bif_some h
   cases h2
   have h1:=of_decide_eq_true h1
   subst h1
   intro c hc
   rcases List.mem_cons.1 hc with rfl|hc
   ·rfl
   ·exact homCT_at hr c hc
mutual
def canon:CT→AV→AV
 | .int k,a=>.int k (intOfAV a)
 | .bool,a=>.bool (boolOfAV a)
 | .str,a=>.str (strOfAV a)
 | .sl cs,a=>.isl cs.length (islN a) (match homCT cs with
  | some k=>fun i j=>.int k (intOfAV (islF a i (bif Nat.beq cs.length 1 then 0 else j)))
  | none=>fun i j=>atL (canonRow cs (fun q=>islF a i q) 0) j)
def canonRow:List CT→(Nat→AV)→Nat→List AV
 | [],_,_=>[]
 | c::cs,g,n=>canon c (g n)::canonRow cs g (n+1)
end
theorem canonRow_get:∀ (cs:List CT) (g:Nat→AV) (n j:Nat) (c:CT),cs[j]? = some c→(canonRow cs g n)[j]? = some (canon c (g (n+j)))
 | [],_,_,_,_,h=>by simp at h
 | c::cs,g,n,0,c',h=>by simp at h;subst h;simp [canonRow]
 | c::cs,g,n,j+1,c',h=>by
  simp at h
  simp only [canonRow,List.getElem?_cons_succ]
  rw [canonRow_get cs g (n+1) j c' h,show n+1+j=n+(j+1) by omega]
theorem canonRow_length:∀ (cs:List CT) (g:Nat→AV) (n:Nat),(canonRow cs g n).length=cs.length
 | [],_,_=>rfl
 | c::cs,g,n=>by simp [canonRow,canonRow_length cs g (n+1)]
theorem Ent.islE {os:List (Option Ob)} {es n:Nat} {f g:Nat→Nat→AV} (h:∀ i j,i<n→j<es→Ent os (f i j) (g i j)∧Cl (g i j)):Ent os (.isl es n f) (.isl es n g):=fun β w v hh hr=>by
 cases hr with
 | isl vals he hcap hb hc ho hr hcl=>exact .isl vals he hcap hb hc ho (fun i j hi hj=>(h i j hi hj).1 β w _ hh (hr i j hi hj)) (fun i j hi hj=>(h i j hi hj).2)
 | isl0 h'=>exact .isl0 h'
theorem canon_ent {os:List (Option Ob)} {c:CT} {a:AV} (h:CellOk c a):Ent os a (canon c a)∧Cl (canon c a):=by
 induction h with
 | int h=>exact ⟨Ent.of_eq (by simp [canon,intOfAV]),by unfold canon;exact .int⟩
 | bool=>exact ⟨Ent.of_eq (by simp [canon,boolOfAV]),by unfold canon;exact .bool⟩
 | str h=>exact ⟨Ent.of_eq (by simp [canon,strOfAV]),by unfold canon;exact .str⟩
 | @sl cs n f hn h ih =>
  have key:∀ i j,i<n→j<cs.length→∃ c,cs[j]? = some c∧atL (canonRow cs (fun q=>f i q) 0) j=canon c (f i j):=fun i j hi hj=>by
   refine ⟨cs[j],by simp [hj],?_⟩
   unfold atL
   rw [List.getD_eq_getElem?_getD,canonRow_get cs _ 0 j cs[j] (by simp [hj])]
   simp
  unfold canon
  cases hh:homCT cs with
  | none =>
   refine ⟨Ent.islE fun i j hi hj=>?_,.isl fun i j hi hj=>?_⟩
   ·obtain ⟨c,h1,h2⟩:=key i j hi hj
    show Ent os (f i j) (atL (canonRow cs (fun q=>f i q) 0) j)∧Cl (atL (canonRow cs (fun q=>f i q) 0) j)
    rw [h2]
    exact ih i j c hi h1
   ·obtain ⟨c,h1,h2⟩:=key i j hi hj
    show Cl (atL (canonRow cs (fun q=>f i q) 0) j)
    rw [h2]
    exact (ih i j c hi h1).2
  | some k =>
   refine ⟨Ent.islE fun i j hi hj=>⟨Ent.of_eq ?_,.int⟩,.isl fun i j hi hj=>.int⟩
   show f i j=.int k (intOfAV (f i (bif Nat.beq cs.length 1 then 0 else j)))
   have hj':(bif Nat.beq cs.length 1 then 0 else j)=j:=by
    cases hb:Nat.beq cs.length 1 with
    | true =>
     have:=Nat.eq_of_beq_eq_true hb
     show 0=j
     omega
    | false=>rfl
   rw [hj']
   have hc:cs[j]? = some cs[j]:=by simp [hj]
   have:=h i j _ hi hc
   rw [homCT_at hh cs[j] (List.getElem_mem hj)] at this
   generalize f i j=q at this
   cases this
   rfl
theorem Fits.canon {w:World} {ts:List CT} {cs:List Value} (h:Fits w ts cs):∃ g:Nat→AV,(∀ (j:Nat) c,ts[j]? = some c→CellOk c (g j))∧Rel noB w (.agg (canonRow ts g 0)) (.agg cs.toArray):=by
 obtain ⟨g,hg⟩:=h.pick
 refine ⟨g,fun j c hc=>(hg j c hc).1,?_⟩
 refine .agg (by simp [canonRow_length,h.len]) fun j u v hu hv=>?_
 have hj:j<ts.length:=by rw [← canonRow_length ts g 0];exact (List.getElem?_eq_some_iff.1 hu).1
 have hc:ts[j]? = some ts[j]:=by simp [hj]
 rw [canonRow_get ts g 0 j _ hc] at hu
 obtain ⟨h1,v',h2,h3⟩:=hg j _ hc
 have hv:cs[j]? = some v:=by simpa using hv
 rw [h2] at hv;cases hv
 cases hu
 rw [Nat.zero_add]
 exact (canon_ent (os:=[]) h1).1 _ _ _ (fun k o hk=>by simp at hk) h3
theorem CellOk.sl_inv {cs:List CT} {a:AV} (h:CellOk (.sl cs) a):islN a≤maxLen∧∀ i j c,i<islN a→cs[j]? = some c→CellOk c (islF a i j):=by
 cases h with
 | sl hn h=>exact ⟨hn,h⟩
theorem CellOk.int_inv {k:IntKind} {a:AV} (h:CellOk (.int k) a):(Lit.int k (intOfAV a)).wf=true:=canonI_wf h
theorem rel_agg_parts {β:Book} {w:World} {l:List AV} {vs:Array Value} (h:Rel β w (.agg l) (.agg vs)):l.length=vs.size∧∀ (j:Nat) u v,l[j]? = some u→vs[j]? = some v→Rel β w u v:=by
 cases h with|agg hl hr=>exact ⟨hl,hr⟩
section
open Go.ChangeShapes Go.WideShapes Go.ChangeAt
variable {H:Type} {enc:TypeId×Value→H} {P:Program} {W:World} {sp:Nat→Bool}
theorem open_any {r:Reach} {b0:Nat} {t:TypeId} {v:Value} {d:DataW H} {ps:List MemPlace} {ts:List CT} {ag:Bool} (ht:isAggT P t=some ag)
  (hsh:shape P 9 t=some ts) (hv:Value.okWide P W r b0 t v) (h:DataW.Trod enc P W 0 sp true t v d ps):∃ cs:List Value,Fits W ts cs∧(ag=true→v=.agg cs.toArray)∧(ag=false→cs=[v]):=by
 cases ag with
 | true =>
  obtain ⟨cs,e,hf⟩:=open_agg ht hsh hv h
  exact ⟨cs,hf,fun _=>e,fun h=>by cases h⟩
 | false =>
  obtain ⟨fuel,hf⟩:=h
  have hc:v.cells.toList=[v]:=by
   simp only [shape] at hsh
   split at hsh
   ·rename_i hu;obtain ⟨b,rfl⟩:=okWide_bool hu hv;rfl
   ·rename_i k hu;obtain ⟨n,rfl⟩:=okWide_int hu hv;rfl
   ·rename_i hu;obtain ⟨n,rfl⟩:=okWide_string hu hv;rfl
   ·rename_i e hu;obtain ⟨a,l,c,rfl⟩:=okWide_slice hu hv;rfl
   ·rename_i fs hu;simp [isAggT,hu] at ht
   ·rename_i n e hu;simp [isAggT,hu] at ht
   ·cases hsh
  rw [hc] at hf
  exact ⟨[v],open_fits 9 t fuel _ _ ts hf hsh,fun h=>by (cases h),fun _=>rfl⟩
def shapesOf (P:Program):List TypeId→Option (List (Bool×List CT))
 | []=>some []
 | t::ts=>match isAggT P t,shape P 9 t,shapesOf P ts with
  | some b,some l,some r=>some ((b,l)::r)
  | _,_,_=>none
def argsOf:List (Bool×List CT)→(Nat→Nat→AV)→Nat→List AV
 | [],_,_=>[]
 | (true,ts)::S,G,n=>.agg (canonRow ts (G n) 0)::argsOf S G (n+1)
 | (false,ts)::S,G,n=>atL (canonRow ts (G n) 0) 0::argsOf S G (n+1)
theorem open_all {r:Reach} {b0:Nat}:∀ {ts:List TypeId} {vs:List Value} {ds:List (DataW H)} {ps:List MemPlace} {S:List (Bool×List CT)} (n:Nat),shapesOf P ts=some S→DataW.TrodAll enc P W 0 sp true ts vs ds ps →
  (∀ (j:Nat) t v,ts[j]? = some t→vs[j]? = some v→Value.okWide P W r b0 t v) →
  ∃ G:Nat→Nat→AV,(∀ (k:Nat) s,S[k]? = some s→∀ (j:Nat) c,s.2[j]? = some c→CellOk c (G (n+k) j))∧Rels noB W (argsOf S G n) vs.toArray∧∃ f:Nat→DataW H,ds=(List.range S.length).map f
 | [],[],[],_,S,n,hS,hA,_=>by
  simp [shapesOf] at hS;subst hS
  exact ⟨fun _ _=>.junk,fun k s h=>by simp at h,Rels.nil,fun _=>.nil,rfl⟩
 | t::ts,v::vs,d::ds,ps,S,n,hS,hA,hok=>by
  obtain ⟨p,q,h1,h2,rfl⟩:=hA
  simp only [shapesOf] at hS
  split at hS
  rotate_left
  ·cases hS
  rename_i b l r' e1 e2 e3
  cases hS
  obtain ⟨cs,hf,g1,g2⟩:=open_any e1 e2 (hok 0 t v rfl rfl) h1
  obtain ⟨g,hg,hr⟩:=hf.canon
  obtain ⟨G,hG,hR,f,hds⟩:=open_all (n+1) e3 h2 (fun j t v ht hv=>hok (j+1) t v (by simpa using ht) (by simpa using hv))
  have hne:∀ k,Nat.beq (n+1+k) n=false:=fun k=>by
   cases hb:Nat.beq (n+1+k) n with
   | false=>rfl
   | true=>have:=Nat.eq_of_beq_eq_true hb;omega
  let G':Nat→Nat→AV:=fun m=>bif Nat.beq m n then g else G m
  have hG':∀ k,G' (n+1+k)=G (n+1+k):=fun k=>by show (bif _ then _ else _)=_;rw [hne];rfl
  have hGn:G' n=g:=by show (bif Nat.beq n n then _ else _)=_;rw [Nat.beq_refl];rfl
  have hargs:∀ (S':List (Bool×List CT)) (k:Nat),argsOf S' G' (n+1+k)=argsOf S' G (n+1+k):=by
   intro S'
   induction S' with
   | nil=>intro k;rfl
   | cons x S' ih =>
    intro k
    obtain ⟨xb,xl⟩:=x
    cases xb<;>simp only [argsOf,hG']<;>rw [show n+1+k+1=n+1+(k+1) by omega,ih]
  refine ⟨G',fun k s hs j c hc=>?_,?_,fun m=>bif Nat.beq m 0 then d else f (m - 1),?_⟩
  ·cases k with
   | zero=>simp at hs;subst hs;rw [Nat.add_zero,hGn];exact hg j c hc
   | succ k =>
    have:=hG k s (by simpa using hs) j c hc
    rw [show n+(k+1)=n+1+k by omega,hG'];exact this
  ·have h0:=hargs r' 0
   rw [Nat.add_zero] at h0
   cases b with
   | true =>
    have:=g1 rfl;subst this
    simp only [argsOf,hGn,h0]
    exact Rels.cons hr hR
   | false =>
    have:=g2 rfl;subst this
    simp only [argsOf,hGn,h0]
    refine Rels.cons ?_ hR
    obtain ⟨hl,hrr⟩:=rel_agg_parts hr
    have hlen:l.length=1:=by rw [← hf.len];rfl
    have e0:l[0]? = some l[0]:=by simp
    refine hrr 0 _ v ?_ rfl
    unfold atL
    rw [List.getD_eq_getElem?_getD,canonRow_get l g 0 0 _ e0];rfl
  ·rw [hds]
   simp [List.range_succ_eq_map]
   exact fun a _=>rfl
 | [],_::_,_,_,_,_,_,h,_=>h.elim
 | [],[],_::_,_,_,_,_,h,_=>h.elim
 | _::_,[],_,_,_,_,_,h,_=>h.elim
 | _::_,_::_,[],_,_,_,_,h,_=>h.elim
end
end Go.Am

namespace Go.Sp
open Go Go.Am

def nbL (v : Int) (size : Nat) : List Int := (List.range size).map (numB v size)
theorem nbL_len (v : Int) (size : Nat) : (nbL v size).length = size := by simp [nbL]
theorem getD_app (a b : List Int) (i : Nat) : (a ++ b).getD i 0 = bif Nat.blt i a.length then a.getD i 0 else b.getD (i - a.length) 0 := by
  by_cases h : i < a.length
  · rw [blt_t h]
    simp [List.getD_eq_getElem?_getD, List.getElem?_append, h]
  · rw [blt_f (Nat.le_of_not_lt h)]
    simp [List.getD_eq_getElem?_getD, List.getElem?_append, h]
theorem getD_map {n : Nat} {f : Nat → Int} {i : Nat} (h : i < n) : ((List.range n).map f).getD i 0 = f i := by
  simp [List.getD_eq_getElem?_getD, h]

inductive It where
  | int (n : Int)
  | byt (n : Nat) (f : Nat → Int)
  | li (n : Nat) (c : Nat → It)
namespace It
def kind : It → Int | int _ => 1 | byt _ _ => 2 | li _ _ => 3
def num : It → Int | int n => n | _ => 0
def nb : It → Nat | byt n _ => n | _ => 0
def fb : It → Nat → Int | byt _ f => f | _ => fun _ => 0
def nl : It → Nat | li n _ => n | _ => 0
def row : It → Nat → Nat → AV
  | li _ c => fun i j => atL [.int .i64 (c i).kind, .int .i64 (c i).num, bys (c i).nb (c i).fb, .isl 4 (c i).nl (row (c i))] j
  | _ => fun _ _ => .junk
def cells (x : It) : List AV := [.int .i64 x.kind, .int .i64 x.num, bys x.nb x.fb, .isl 4 x.nl x.row]
def av (x : It) : AV := .agg x.cells
def sl (n : Nat) (c : Nat → It) : AV := .isl 4 n (fun i j => atL (c i).cells j)

def enc : It → List Int
  | int n => 1 :: nbL (IntKind.wrap .u64 n) 8
  | byt n f => 2 :: (nbL n 4 ++ (List.range n).map f)
  | li n c => 3 :: (nbL n 4 ++ (List.range n).flatMap fun i => enc (c i))
def okD : It → Int → Bool
  | li n c, d => decide (0 < d) && Nat.ble n 1000 && (List.range n).all (fun i => okD (c i) (d - 1))
  | _, _ => true
def encP (n : Nat) (c : Nat → It) (k : Nat) : List Int := 3 :: (nbL n 4 ++ (List.range k).flatMap fun i => (c i).enc)
theorem enc_li (n : Nat) (c : Nat → It) : (li n c).enc = encP n c n := rfl
theorem encP_zero (n : Nat) (c : Nat → It) : encP n c 0 = 3 :: nbL n 4 := by simp [encP]
theorem encP_succ (n : Nat) (c : Nat → It) (k : Nat) : encP n c (k + 1) = encP n c k ++ (c k).enc := by
  simp [encP, List.range_succ]
theorem encP_le (n : Nat) (c : Nat → It) {k j : Nat} (h : k ≤ j) : (encP n c k).length ≤ (encP n c j).length := by
  induction j with
  | zero => obtain rfl : k = 0 := by omega
            exact Nat.le_refl _
  | succ j ih =>
    by_cases e : k = j + 1
    · subst e; exact Nat.le_refl _
    · have := ih (by omega)
      rw [encP_succ, List.length_append]
      omega
theorem enc_pos (x : It) : 1 ≤ x.enc.length := by cases x <;> simp [enc]
theorem encP_len (n : Nat) (c : Nat → It) (k : Nat) : 5 + k ≤ (encP n c k).length := by
  induction k with
  | zero => simp [encP, nbL_len]
  | succ k ih =>
    have := enc_pos (c k)
    rw [encP_succ, List.length_append]
    omega
theorem enc_child {n : Nat} {c : Nat → It} {i : Nat} (h : i < n) : (c i).enc.length + 5 ≤ (li n c).enc.length := by
  have h1 := encP_le n c (show i + 1 ≤ n by omega)
  have h2 := encP_len n c i
  rw [encP_succ, List.length_append] at h1
  rw [enc_li]
  omega
end It
end Go.Sp
namespace Go.Sp
open Go Go.Am
namespace It
def okB : It → Prop
  | int _ => True
  | byt n f => byB f n
  | li n c => ∀ i, i < n → okB (c i)
def inB (l : List Int) : Prop := ∀ v, v ∈ l → 0 ≤ v ∧ v < 256
theorem inB_cons {v : Int} {l : List Int} (h : 0 ≤ v ∧ v < 256) (h' : inB l) : inB (v :: l) := fun x hx => by
  rcases List.mem_cons.1 hx with e | e
  · exact e ▸ h
  · exact h' x e
theorem inB_app {a b : List Int} (h : inB a) (h' : inB b) : inB (a ++ b) := fun x hx => by
  rcases List.mem_append.1 hx with e | e
  · exact h x e
  · exact h' x e
theorem inB_nb (v : Int) (size : Nat) : inB (nbL v size) := fun x hx => by
  obtain ⟨i, _, rfl⟩ := List.mem_map.1 hx
  exact ⟨Int.emod_nonneg _ (by decide), Int.emod_lt_of_pos _ (by decide)⟩
theorem inB_by {l : List Int} (h : inB l) : byB (fun i => l.getD i 0) l.length := fun i hi => by
  have e : l.getD i 0 = l[i] := by simp [List.getD_eq_getElem?_getD, hi]
  show 0 ≤ l.getD i 0 ∧ l.getD i 0 < 256
  rw [e]
  exact h _ (List.getElem_mem hi)
theorem enc_inB : ∀ x : It, x.okB → inB x.enc
  | int n, _ => inB_cons (by decide) (inB_nb _ _)
  | byt n f, h => inB_cons (by decide) (inB_app (inB_nb _ _) fun x hx => by
      obtain ⟨i, hi, rfl⟩ := List.mem_map.1 hx
      exact h i (List.mem_range.1 hi))
  | li n c, h => inB_cons (by decide) (inB_app (inB_nb _ _) fun x hx => by
      obtain ⟨i, hi, hx⟩ := List.mem_flatMap.1 hx
      exact enc_inB (c i) (h i (List.mem_range.1 hi)) x hx)
theorem enc_by {x : It} (h : x.okB) : byB (fun i => x.enc.getD i 0) x.enc.length := inB_by (enc_inB x h)
end It

structure Coin where
  bank : Int
  epoch : Int
  denom : Int
  depth : Int
  a : Int
  root : Nat → Int
  z : Int
  sa : Int
  sb : Int
  r : Int
def Coin.cells (c : Coin) : List AV := [.int .i64 c.bank, .int .i64 c.epoch, .int .i64 c.denom, .int .i64 c.depth, .int .i64 c.a] ++ (u8c c.root ++ [.int .i64 c.z, .int .i64 c.sa, .int .i64 c.sb, .int .i64 c.r])
def Coin.av (c : Coin) : AV := .agg c.cells
structure Cxt where
  payee : Nat → Int
  time : Int
  number : Int
def Cxt.cells (x : Cxt) : List AV := u8c x.payee ++ [.int .i64 x.time, .int .i64 x.number]
def Cxt.av (x : Cxt) : AV := .agg x.cells
def intsI (l : List Int) : It := .li l.length fun i => .int (l.getD i 0)
def lsI (l : List It) : It := .li l.length fun i => l.getD i (.int 0)
def Coin.it (c : Coin) : It := lsI [intsI [c.bank, c.epoch, c.denom, c.depth, c.a], .byt 32 c.root, intsI [c.z, c.sa, c.sb, c.r]]
def tagI (s : ByteArray) (x : It) : Nat → Int := tagF s x.enc.length fun i => x.enc.getD i 0
def Coin.dig (c : Coin) : Nat → Int := tagI "specie/coin-item".toUTF8 c.it
def chalI (c : Coin) (l i : Int) (x : Cxt) : It := lsI [.byt 32 c.dig, intsI [l, i], .byt 32 x.payee, intsI [x.time, x.number]]
def chalN (q : Int) (c : Coin) (l i : Int) (x : Cxt) : Int := numF (tagI "specie/spend".toUTF8 (chalI c l i x)) q 16
end Go.Sp
namespace Go.Sp
open Go Go.Am
theorem il_eq {os : List (Option Ob)} {n : Nat} {f : Nat → Nat → Int} {l : List Int} (hn : n = l.length) (h : ∀ i, i < n → f i 0 = l.getD i 0) : Ent os (.isl 1 n fun i j => .int .u8 (f i j)) (il .u8 l) :=
  bys_eq (g := fun i _ => l.getD i 0) hn h
theorem obl_eq {os : List (Option Ob)} {mu : Bool} {n : Nat} {f : Nat → Nat → Int} {l : List Int} (hn : n = l.length) (h : ∀ i, i < n → f i 0 = l.getD i 0) :
    ObEnt os ⟨1, n, mu, .fn fun i j => .int .u8 (f i j)⟩ ⟨1, l.length, mu, .fn (ilF .u8 l)⟩ := by
  refine ⟨rfl, hn, rfl, fun i j hi hj => Ent.of_eq ?_⟩
  obtain rfl : j = 0 := Nat.lt_one_iff.1 hj
  exact congrArg _ (h i hi)
theorem obl_app {os : List (Option Ob)} {mu : Bool} {n : Nat} {a b l : List Int} (hl : l = a ++ b) (hn : n = a.length + b.length) :
    ObEnt os ⟨1, n, mu, .fn fun i _ => .int .u8 (bif Nat.blt i a.length then a.getD i 0 else b.getD (i - a.length) 0)⟩ ⟨1, l.length, mu, .fn (ilF .u8 l)⟩ :=
  obl_eq (f := fun i _ => bif Nat.blt i a.length then a.getD i 0 else b.getD (i - a.length) 0) (by rw [hl, hn, List.length_append]) (fun i _ => by rw [hl, getD_app])
theorem enc1 {v w : Int} {size i : Nat} (hi : i < 1 + size) : (bif Nat.blt i 1 then v else numB w size (i - 1)) = (v :: nbL w size).getD i 0 := by
  cases i with
  | zero => rfl
  | succ i =>
    rw [blt_f (show 1 ≤ i + 1 by omega)]
    show numB w size (i + 1 - 1) = (nbL w size).getD i 0
    unfold nbL
    rw [getD_map (by omega)]
    rfl
theorem enc2 {v w : Int} {n i : Nat} {f : Nat → Int} (hi : i < 5 + n) : (bif Nat.blt i 5 then bif Nat.blt i 1 then v else numB w 4 (i - 1) else f (i - 5)) = (v :: (nbL w 4 ++ (List.range n).map f)).getD i 0 := by
  show _ = ((v :: nbL w 4) ++ (List.range n).map f).getD i 0
  have hl : (v :: nbL w 4).length = 5 := by simp [nbL_len]
  rw [getD_app, hl]
  by_cases h : i < 5
  · rw [blt_t h]
    exact enc1 (size := 4) h
  · rw [blt_f (Nat.le_of_not_lt h)]
    exact (getD_map (by omega)).symm
theorem wu64_by (n : Int) : 0 ≤ IntKind.wrap .u64 n ∧ IntKind.wrap .u64 n < 18446744073709551616 := by rw [wu64m]; omega
theorem byt_len (n : Nat) (f : Nat → Int) : (It.byt n f).enc.length = 5 + n := by simp [It.enc, nbL_len]; omega
theorem shr_num {v : Int} {size t : Nat} (ht : t < size) (h8 : size ≤ 8) : IntKind.wrap .u8 (v.fdiv (2 ^ min (Int.toNat (IntKind.wrap .i64 (8 * ((size : Int) - 1 - t)))) 64)) = numB v size t := by
  have e : min (Int.toNat (IntKind.wrap .i64 (8 * ((size : Int) - 1 - t)))) 64 = 8 * (size - 1 - t) := by
    rw [wI (by omega) (by omega)]
    omega
  rw [e, wu8m, Int.fdiv_eq_ediv_of_nonneg _ (Int.pow_nonneg (by decide))]
  show v / 2 ^ (8 * (size - 1 - t)) % 256 = v / 256 ^ (size - 1 - t) % 256
  rw [Int.pow_mul]
  rfl
theorem numb_ob {os : List (Option Ob)} {mu : Bool} {n n' : Nat} {f : Nat → Nat → Int} {g : Nat → Int} (hn : n = n') : ObEnt os ⟨1, n, mu, .fn fun i j => .int .u8 (f i j)⟩ ⟨1, n', mu, .fn fun i j => .int .u8 (bif Nat.blt i n then f i j else g i)⟩ := by
  subst hn
  refine ⟨rfl, rfl, rfl, fun i j hi _ => Ent.of_eq ?_⟩
  have hi : i < n := hi
  show AV.int .u8 (f i j) = .int .u8 (bif Nat.blt i n then f i j else g i)
  rw [blt_t hi]
  rfl
theorem numb_ob1 {os : List (Option Ob)} {mu : Bool} {n' : Nat} {b : Int} {g : Nat → Int} (hn : 1 = n') : ObEnt os ⟨1, 1, mu, .lst [[.int .u8 b]]⟩ ⟨1, n', mu, .fn fun i _ => .int .u8 (bif Nat.blt i 1 then b else g i)⟩ := by
  subst hn
  refine ⟨rfl, rfl, rfl, fun i j hi hj => Ent.of_eq ?_⟩
  obtain rfl : i = 0 := Nat.lt_one_iff.1 hi
  obtain rfl : j = 0 := Nat.lt_one_iff.1 hj
  rfl
theorem obl_cg {os : List (Option Ob)} {mu : Bool} {a b : List Int} (h : b = a) : ObEnt os ⟨1, a.length, mu, .fn (ilF .u8 a)⟩ ⟨1, b.length, mu, .fn (ilF .u8 b)⟩ := by
  subst h
  exact .refl _
theorem int_len (n : Int) : (It.int n).enc.length = 9 := by simp [It.enc, nbL_len]
theorem wr_int (l : List Int) (n : Int) : l.length + 1 + 8 = (l ++ (It.int n).enc).length := by rw [List.length_append, int_len]
theorem wr_byt (l : List Int) (n : Nat) (f : Nat → Int) : l.length + 1 + 4 + n = (l ++ (It.byt n f).enc).length := by rw [List.length_append, byt_len]; omega
end Go.Sp
namespace Go.Sp
open Go Go.Am
theorem numb_step {n k k' size : Nat} {v : Int} {y : Int} {i : Nat} (hk : k' = k + 1) (hi : i < n + k') {x : Int} (hx : x = numB v size k) :
    (bif Nat.blt i (n + k) then (bif Nat.blt i n then y else numB v size (i - n)) else x) = bif Nat.blt i n then y else numB v size (i - n) := by
  by_cases h : i < n + k
  · rw [blt_t h]; rfl
  · rw [blt_f (Nat.le_of_not_lt h), blt_f (show n ≤ i by omega), hx]
    show numB v size k = numB v size (i - n)
    congr 1
    omega
theorem numb_obs {os : List (Option Ob)} {mu : Bool} {n t size : Nat} {v X : Int} {f : Nat → Nat → Int} (hX : X = numB v size t) :
    ObEnt os ⟨1, n + t + 1, mu, .fn fun i j => .int .u8 (bif Nat.blt i (n + t) then (bif Nat.blt i n then f i j else numB v size (i - n)) else intOfAV (atL [.int .u8 X] j))⟩ ⟨1, n + (t + 1), mu, .fn fun i j => .int .u8 (bif Nat.blt i n then f i j else numB v size (i - n))⟩ := by
  refine ⟨rfl, rfl, rfl, fun i j hi hj => Ent.of_eq ?_⟩
  obtain rfl : j = 0 := Nat.lt_one_iff.1 hj
  exact congrArg (AV.int .u8) (numb_step (n := n) (k := t) (size := size) (v := v) (y := f i 0) rfl hi hX)
theorem wr1 {l : List Int} {v w : Int} {size i : Nat} (hi : i < l.length + 1 + size) :
    (bif Nat.blt i (l.length + 1) then (bif Nat.blt i l.length then l.getD i 0 else v) else numB w size (i - (l.length + 1))) = (l ++ (v :: nbL w size)).getD i 0 := by
  have e : l ++ (v :: nbL w size) = (l ++ [v]) ++ nbL w size := by simp
  have hl : (l ++ [v]).length = l.length + 1 := by simp
  rw [e, getD_app, hl]
  by_cases h : i < l.length + 1
  · rw [blt_t h, getD_app]
    by_cases h' : i < l.length
    · rw [blt_t h']; rfl
    · rw [blt_f (Nat.le_of_not_lt h')]
      have : i - l.length = 0 := by omega
      rw [this]
      rfl
  · rw [blt_f (Nat.le_of_not_lt h)]
    unfold nbL
    show numB w size (i - (l.length + 1)) = ((List.range size).map (numB w size)).getD (i - (l.length + 1)) 0
    rw [getD_map (by omega)]
theorem wr2 {l : List Int} {v w : Int} {n i : Nat} {f : Nat → Int} (hi : i < l.length + 1 + 4 + n) :
    (bif Nat.blt i (l.length + 1 + 4) then (bif Nat.blt i (l.length + 1) then (bif Nat.blt i l.length then l.getD i 0 else v) else numB w 4 (i - (l.length + 1))) else f (i - (l.length + 1 + 4))) = (l ++ (v :: (nbL w 4 ++ (List.range n).map f))).getD i 0 := by
  have e : l ++ (v :: (nbL w 4 ++ (List.range n).map f)) = (l ++ (v :: nbL w 4)) ++ (List.range n).map f := by simp
  have hl : (l ++ (v :: nbL w 4)).length = l.length + 1 + 4 := by simp [nbL_len]
  rw [e, getD_app, hl]
  by_cases h : i < l.length + 1 + 4
  · rw [blt_t h]
    exact wr1 (size := 4) h
  · rw [blt_f (Nat.le_of_not_lt h)]
    exact (getD_map (by omega)).symm
end Go.Sp
namespace Go.Sp
open Go Go.Am
theorem li_ok (d : Int) (n : Nat) (p : Nat → Bool) : (decide (d > 0) && decide ((n : Int) ≤ 1000) && !decide (firstI p n 0 ≥ 0)) = (decide (0 < d) && Nat.ble n 1000 && (List.range n).all fun i => !p i) := by
  have e1 : decide ((n : Int) ≤ 1000) = Nat.ble n 1000 := by
    rw [Bool.eq_iff_iff, Nat.ble_eq, decide_eq_true_eq]
    omega
  have e2 : (!decide (firstI p n 0 ≥ 0)) = (List.range n).all fun i => !p i := by
    rw [firstI_neg, List.not_any_eq_all_not]
    simp only [Nat.zero_add]
  rw [e1, e2]
end Go.Sp
namespace Go.Sp
open Go Go.Am
theorem int_row {os : List (Option Ob)} {v w : Int} (h : v = w) : EntL os [.int .i64 1, .int .i64 v, .nsl, .nsl] (It.int w).cells := by subst h; exact ⟨Ent.refl _, Ent.refl _, Ent.nsl, Ent.nsl, trivial⟩
theorem byt_row {os : List (Option Ob)} (n : Nat) (f : Nat → Int) : EntL os [.int .i64 2, .int .i64 0, bys n f, .nsl] (It.byt n f).cells := ⟨Ent.refl _, Ent.refl _, Ent.refl _, Ent.nsl, trivial⟩
theorem int_push {os : List (Option Ob)} {mu : Bool} {l : List Int} {n n' : Nat} {v : Int} (hn : n' = n + 1) (h : v = l.getD n 0) :
    ObEnt os ⟨4, n + 1, mu, .cat n (.row fun i => (It.int (l.getD i 0)).cells) (.lst [[.int .i64 1, .int .i64 v, .nsl, .nsl]])⟩ ⟨4, n', mu, .row fun i => (It.int (l.getD i 0)).cells⟩ :=
  ObEnt.catRow (c := fun i => (It.int (l.getD i 0)).cells) (c' := fun i => (It.int (l.getD i 0)).cells) hn (fun _ _ => EntL.refl _) (int_row h)
theorem row2_ob {os : List (Option Ob)} {es : Nat} {mu : Bool} {a b a' b' : List AV} (h : EntL os a a') (h' : EntL os b b') : ObEnt os ⟨es, 2, mu, .lst [a, b]⟩ ⟨es, 2, mu, .lst [a', b']⟩ :=
  ⟨rfl, rfl, rfl, fun i j hi _ => by
    have hi : i < 2 := hi
    match i, hi with
    | 0, _ => exact Ent.atL h j
    | 1, _ => exact Ent.atL h' j⟩
theorem ints_out {os : List (Option Ob)} {l : List Int} {n : Nat} (h : n = l.length) : Ent os (.agg [.int .i64 3, .int .i64 0, .nsl, .isl 4 n fun r k => atL (It.int (l.getD r 0)).cells k]) (intsI l).av := by
  subst h
  exact Ent.agg ⟨Ent.refl _, Ent.refl _, Ent.nsl, Ent.refl _, trivial⟩
theorem il_rows {os : List (Option Ob)} {k : IntKind} {R : List (List AV)} {l : List Int} {n : Nat} (hn : n = l.length) (h : R = l.map fun v => [.int k v]) : Ent os (.isl 1 n fun r j => atL (R.getD r []) j) (il k l) := by
  subst hn
  refine Ent.isl fun i j hi hj => ?_
  obtain rfl : j = 0 := Nat.lt_one_iff.1 hj
  subst h
  simp [atL, ilF, List.getD_eq_getElem?_getD, hi]
end Go.Sp
namespace Go.Sp
open Go Go.Am
end Go.Sp
namespace Go.Sp
open Go Go.Am
theorem atC_right {a b : List AV} {i : Nat} : atL (a ++ b) (a.length + i) = atL b i := by
  unfold atL
  rw [List.getD_eq_getElem?_getD, List.getD_eq_getElem?_getD, List.getElem?_append_right (Nat.le_add_right _ _), Nat.add_sub_cancel_left]
theorem atC_left {a b : List AV} {i : Nat} (h : i < a.length) : atL (a ++ b) i = atL a i := by
  unfold atL
  rw [List.getD_eq_getElem?_getD, List.getD_eq_getElem?_getD, List.getElem?_append_left h]
theorem Coin.root_at (c : Coin) {i : Nat} (h : i < 32) : intOfAV (atL c.cells (5 + i)) = c.root i := by
  have e : atL c.cells (5 + i) = atL (u8c c.root ++ [.int .i64 c.z, .int .i64 c.sa, .int .i64 c.sb, .int .i64 c.r]) i := atC_right (a := [.int .i64 c.bank, .int .i64 c.epoch, .int .i64 c.denom, .int .i64 c.depth, .int .i64 c.a]) (i := i)
  rw [e, atC_left (show i < (u8c c.root).length from h)]
  exact u8c_at h
theorem It.cl_ls : ∀ x : It, Cl (.isl 4 x.nl x.row)
  | .int _ => .isl (fun i j h => absurd h (Nat.not_lt_zero _))
  | .byt _ _ => .isl (fun i j h => absurd h (Nat.not_lt_zero _))
  | .li n c => .isl (fun i j _ hj => by
    have ih := It.cl_ls (c i)
    show Cl (atL [.int .i64 (c i).kind, .int .i64 (c i).num, bys (c i).nb (c i).fb, .isl 4 (c i).nl (It.row (c i))] j)
    match j, hj with
    | 0, _ => exact .int
    | 1, _ => exact .int
    | 2, _ => exact .isl (fun _ _ _ _ => .int)
    | 3, _ => exact ih)
theorem It.cl_at (x : It) (j : Nat) (hj : j < 4) : Cl (atL x.cells j) := by
  match j, hj with
  | 0, _ => exact .int
  | 1, _ => exact .int
  | 2, _ => exact .isl (fun _ _ _ _ => .int)
  | 3, _ => exact x.cl_ls
theorem li_out {os : List (Option Ob)} {R : List (List AV)} {L : List It} {n : Nat} (hn : n = L.length) (h : ∀ i, i < n → EntL os (R.getD i []) (L.getD i (.int 0)).cells) :
    Ent os (.agg [.int .i64 3, .int .i64 0, .nsl, .isl 4 n fun r k => atL (R.getD r []) k]) (lsI L).av := by
  subst hn
  exact Ent.agg ⟨Ent.refl _, Ent.refl _, Ent.nsl, Ent.islE (fun i j hi hj => ⟨Ent.atL (h i hi) j, It.cl_at _ j hj⟩), trivial⟩
theorem li3_out {os : List (Option Ob)} {a b c : List AV} {x y z : It} (ha : EntL os a x.cells) (hb : EntL os b y.cells) (hc : EntL os c z.cells) :
    Ent os (.agg [.int .i64 3, .int .i64 0, .nsl, .isl 4 3 fun r k => atL (List.getD [a, b, c] r []) k]) (lsI [x, y, z]).av :=
  li_out (L := [x, y, z]) rfl fun i hi => match i, hi with
    | 0, _ => ha
    | 1, _ => hb
    | 2, _ => hc
theorem li4_out {os : List (Option Ob)} {a b c d : List AV} {x y z w : It} (ha : EntL os a x.cells) (hb : EntL os b y.cells) (hc : EntL os c z.cells) (hd : EntL os d w.cells) :
    Ent os (.agg [.int .i64 3, .int .i64 0, .nsl, .isl 4 4 fun r k => atL (List.getD [a, b, c, d] r []) k]) (lsI [x, y, z, w]).av :=
  li_out (L := [x, y, z, w]) rfl fun i hi => match i, hi with
    | 0, _ => ha
    | 1, _ => hb
    | 2, _ => hc
    | 3, _ => hd
end Go.Sp
namespace Go.Sp
open Go Go.Am
theorem Coin.it_ok (c : Coin) : c.it.okD 8 = true := by
  simp [Coin.it, lsI, intsI, It.okD, List.range, List.range.loop, List.getD]
theorem intsI_okB (l : List Int) : (intsI l).okB := fun _ _ => trivial
theorem lsI_okB {L : List It} (h : ∀ x, x ∈ L → x.okB) : (lsI L).okB := fun i hi => by
  show (L.getD i (.int 0)).okB
  rw [show L.getD i (.int 0) = L[i] by simp [List.getD_eq_getElem?_getD, hi]]
  exact h _ (List.getElem_mem hi)
theorem intsI_len (l : List Int) : (intsI l).enc.length = 5 + 9 * l.length := by
  have h : ∀ (c : Nat → It) (k : Nat), (∀ i, (c i).enc.length = 9) → ∀ n, (It.encP n c k).length = 5 + 9 * k := fun c k hc n => by
    induction k with
    | zero => rw [It.encP_zero]; simp [nbL_len]
    | succ k ih => rw [It.encP_succ, List.length_append, ih, hc]; omega
  exact h _ _ (fun i => int_len _) _
theorem li3_len {x y z : It} : (lsI [x, y, z]).enc.length = 5 + x.enc.length + y.enc.length + z.enc.length := by
  show (It.encP 3 _ (0 + 1 + 1 + 1)).length = _
  rw [It.encP_succ, It.encP_succ, It.encP_succ, It.encP_zero]
  simp [nbL_len]; omega
theorem li4_len {x y z w : It} : (lsI [x, y, z, w]).enc.length = 5 + x.enc.length + y.enc.length + z.enc.length + w.enc.length := by
  show (It.encP 4 _ (0 + 1 + 1 + 1 + 1)).length = _
  rw [It.encP_succ, It.encP_succ, It.encP_succ, It.encP_succ, It.encP_zero]
  simp [nbL_len]; omega
theorem Coin.it_len (c : Coin) : c.it.enc.length = 133 := by
  unfold Coin.it
  rw [li3_len, intsI_len, intsI_len, byt_len]
  rfl
theorem Coin.it_okB {c : Coin} (h : byB c.root 32) : c.it.okB := lsI_okB fun x hx => by
  simp only [List.mem_cons, List.not_mem_nil, or_false] at hx
  rcases hx with e | e | e
  · exact e ▸ intsI_okB _
  · exact e ▸ h
  · exact e ▸ intsI_okB _
theorem Coin.dig_by (c : Coin) : byB c.dig 32 := fun i _ => sha_by _ _ i
theorem tagI_by (s : ByteArray) (x : It) (n : Nat) : byB (tagI s x) n := fun i _ => sha_by _ _ i
theorem chal_ok (c : Coin) (l i : Int) (x : Cxt) : (chalI c l i x).okD 8 = true := by
  simp [chalI, lsI, intsI, It.okD, List.range, List.range.loop, List.getD]
theorem chal_len (c : Coin) (l i : Int) (x : Cxt) : (chalI c l i x).enc.length = 125 := by
  unfold chalI
  rw [li4_len, intsI_len, intsI_len, byt_len, byt_len]
  rfl
theorem chal_okB {c : Coin} {l i : Int} {x : Cxt} (h : byB x.payee 32) : (chalI c l i x).okB := lsI_okB fun y hy => by
  simp only [List.mem_cons, List.not_mem_nil, or_false] at hy
  rcases hy with e | e | e | e
  · exact e ▸ c.dig_by
  · exact e ▸ intsI_okB _
  · exact e ▸ h
  · exact e ▸ intsI_okB _
end Go.Sp

namespace Go.Sp
open Go Go.Am

def catF (l r : Nat → Int) (i : Nat) : Int := bif Nat.blt i 32 then l i else r (i - 32)
def nodeF (l r : Nat → Int) : Nat → Int := tagF "specie/node".toUTF8 64 (catF l r)
theorem cat_by {l r : Nat → Int} (hl : byB l 32) (hr : byB r 32) : byB (catF l r) 64 := fun i hi => by
  unfold catF
  by_cases h : i < 32
  · rw [blt_t h]; exact hl i h
  · rw [blt_f (Nat.le_of_not_lt h)]; exact hr _ (by omega)
theorem node_by (l r : Nat → Int) (n : Nat) : byB (nodeF l r) n := fun i _ => sha_by _ _ i
def leafF (x : Int) : Nat → Int := tagI "specie/leaf".toUTF8 (.int x)
def treF (h : Nat → Nat → Int) : Nat → Nat → Nat → Int
  | 0, i => h i
  | k + 1, i => nodeF (treF h k (2 * i)) (treF h k (2 * i + 1))
theorem tre_by {h : Nat → Nat → Int} {n : Nat} (hh : ∀ i, i < n → byB (h i) 32) : ∀ (k i : Nat), i * 2 ^ k + 2 ^ k ≤ n → byB (treF h k i) 32
  | 0, i, hi => hh i (by omega)
  | k + 1, i, _ => node_by _ _ 32
abbrev hsl (n : Nat) (h : Nat → Nat → Int) : AV := .isl 32 n fun i j => .int .u8 (h i j)
def twoF (l r : Nat → Int) (i : Nat) : Nat → Int := bif Nat.beq i 0 then l else r
def joinF (l r : Nat → Int) (x i : Nat) : Int := bif Nat.beq x 0 then 0 else catF l r i
theorem two_ent {os : List (Option Ob)} {f g : Nat → Nat → AV} {l r : Nat → Int} (hf : ∀ i, i < 32 → f i 0 = .int .u8 (l i)) (hg : ∀ i, i < 32 → g i 0 = .int .u8 (r i)) :
    Ent os (.isl 1 2 fun i k => atL (List.getD [[.isl 1 32 f], [.isl 1 32 g]] i []) k) (.isl 1 2 fun i _ => .isl 1 32 fun k _ => .int .u8 (twoF l r i k)) := by
  refine Ent.islE fun i j hi hj => ?_
  have : j = 0 := by omega
  subst this
  refine ⟨?_, .isl fun _ _ _ _ => .int⟩
  rcases i with _ | _ | i
  · exact Ent.isl fun a b ha hb => by
      have : b = 0 := by omega
      subst this; exact hf a ha
  · exact Ent.isl fun a b ha hb => by
      have : b = 0 := by omega
      subst this; exact hg a ha
  · omega
theorem join_step {l r : Nat → Int} {x i : Nat} (hx : x < 2) (hi : i < 32 * x + 32) : (bif Nat.blt i (32 * x) then joinF l r x i else twoF l r x (i - 32 * x)) = joinF l r (x + 1) i := by
  have : x = 0 ∨ x = 1 := by omega
  rcases this with rfl | rfl
  · rw [blt_f (by omega)]
    show l (i - 0) = catF l r i
    unfold catF
    rw [blt_t (by omega)]; rfl
  · by_cases h : i < 32
    · rw [blt_t (by omega)]; rfl
    · rw [blt_f (by omega)]
      show r (i - 32) = catF l r i
      unfold catF
      rw [blt_f (by omega)]; rfl

theorem join_all {l r : Nat → Int} {x i : Nat} (hx : x = 2) : joinF l r x i = catF l r i := by subst hx; rfl
theorem cat_lo {l r : Nat → Int} {i : Nat} (h : i < 32) : catF l r i = l i := by unfold catF; rw [blt_t h]; rfl
theorem cat_hi {l r : Nat → Int} {i : Nat} : catF l r (32 + i) = r i := by unfold catF; rw [blt_f (by omega), show 32 + i - 32 = i by omega]; rfl
theorem node_n {l r : Nat → Int} {n : Nat} (h : n = 64) : tagF "specie/node".toUTF8 n (catF l r) = nodeF l r := by subst h; rfl
def revI (m x i : Nat) : Nat := bif Nat.blt i x || Nat.ble (m - x) i then m - 1 - i else i
theorem rev_eq {os : List (Option Ob)} {m : Nat} {mu : Bool} (C : Nat → Nat) (F : Nat → Nat → Nat → Int) (σ τ : Nat → Nat) (h : ∀ i, i < m → σ i = τ i) : ObEnt os ⟨1, m, mu, .row fun i => [hsl (C (σ i)) (F (σ i))]⟩ ⟨1, m, mu, .row fun i => [hsl (C (τ i)) (F (τ i))]⟩ :=
  ⟨rfl, rfl, rfl, fun i j hi hj => Ent.of_eq (by
    have hi : i < m := hi
    show Am.atL [hsl (C (σ i)) (F (σ i))] j = Am.atL [hsl (C (τ i)) (F (τ i))] j
    rw [h i hi])⟩
theorem rev_0 {m i : Nat} (hi : i < m) : i = revI m 0 i := by
  unfold revI
  have h1 : Nat.ble (m - 0) i = false := by
    cases h : Nat.ble (m - 0) i with
    | false => rfl
    | true => rw [Nat.ble_eq] at h; omega
  rw [blt_f (Nat.zero_le i), h1]; rfl
theorem rev_all {m x i : Nat} (hx : ¬ x < m - 1 - x) (hx2 : x ≤ m / 2) (hi : i < m) : revI m x i = m - 1 - i := by
  unfold revI
  by_cases h : i < x
  · rw [blt_t h]; rfl
  · by_cases h' : m - x ≤ i
    · rw [show Nat.ble (m - x) i = true from by rw [Nat.ble_eq]; exact h', Bool.or_true]; rfl
    · have h2 : Nat.ble (m - x) i = false := by
        cases hb : Nat.ble (m - x) i with
        | false => rfl
        | true => rw [Nat.ble_eq] at hb; omega
      rw [blt_f (by omega), h2]
      show i = m - 1 - i
      omega
theorem rev_mid {m x i : Nat} (h1 : ¬ i < x) (h2 : ¬ m - x ≤ i) : revI m x i = i := by
  unfold revI
  have h2' : Nat.ble (m - x) i = false := by
    cases hb : Nat.ble (m - x) i with
    | false => rfl
    | true => rw [Nat.ble_eq] at hb; omega
  rw [blt_f (by omega), h2']; rfl
theorem rev_step {os : List (Option Ob)} {m x a b : Nat} (C : Nat → Nat) (F : Nat → Nat → Nat → Int) (ha : a = x) (hb : b = m - 1 - x) (hx : x < m - 1 - x) :
    ObEnt os ⟨1, m, true, .put b [hsl (C (revI m x a)) (F (revI m x a))] (.put a [hsl (C (revI m x b)) (F (revI m x b))] (.row fun i => [hsl (C (revI m x i)) (F (revI m x i))]))⟩ ⟨1, m, true, .row fun i => [hsl (C (revI m (x + 1) i)) (F (revI m (x + 1) i))]⟩ := by
  refine ⟨rfl, rfl, rfl, fun i j hi hj => Ent.of_eq ?_⟩
  have hi : i < m := hi
  show mixA (Nat.beq i b) (Am.atL [hsl (C (revI m x a)) (F (revI m x a))] j) (mixA (Nat.beq i a) (Am.atL [hsl (C (revI m x b)) (F (revI m x b))] j) (Am.atL [hsl (C (revI m x i)) (F (revI m x i))] j)) = Am.atL [hsl (C (revI m (x + 1) i)) (F (revI m (x + 1) i))] j
  have key : ∀ p q : Nat, p = q → Am.atL [hsl (C p) (F p)] j = Am.atL [hsl (C q) (F q)] j := fun p q e => by rw [e]
  by_cases h1 : i = b
  · rw [show Nat.beq i b = true by rw [h1]; exact Nat.beq_refl b, mixA_tt]
    refine key _ _ ?_
    rw [ha, rev_mid (by omega) (by omega)]
    unfold revI
    rw [show Nat.ble (m - (x + 1)) i = true from by rw [Nat.ble_eq]; omega, Bool.or_true]
    show x = m - 1 - i
    omega
  · rw [beq_f h1, mixA_ff]
    by_cases h2 : i = a
    · rw [show Nat.beq i a = true by rw [h2]; exact Nat.beq_refl a, mixA_tt]
      refine key _ _ ?_
      rw [hb, rev_mid (by omega) (by omega)]
      unfold revI
      rw [blt_t (show i < x + 1 by omega)]
      show m - 1 - x = m - 1 - i
      omega
    · rw [beq_f h2, mixA_ff]
      refine key _ _ ?_
      unfold revI
      have e1 : Nat.blt i x = Nat.blt i (x + 1) := by
        by_cases h : i < x
        · rw [blt_t h, blt_t (by omega)]
        · rw [blt_f (by omega), blt_f (by omega)]
      have e2 : Nat.ble (m - x) i = Nat.ble (m - (x + 1)) i := by
        rw [Bool.eq_iff_iff, Nat.ble_eq, Nat.ble_eq]
        omega
      rw [e1, e2]
theorem pow5 {d k : Nat} (hd : d ≤ 5) : 2 ^ (d - k) ≤ 32 := Nat.le_trans (Nat.pow_le_pow_right (by decide) (show d - k ≤ 5 by omega)) (by decide)
theorem pow_lt {d k : Nat} (h : ((2 ^ (d - k) : Nat) : Int) > 1) : k < d := by
  apply Classical.byContradiction
  intro hn
  rw [show d - k = 0 by omega] at h
  revert h; decide
theorem pow_eq {d k : Nat} (hk : k ≤ d) (h : ¬ ((2 ^ (d - k) : Nat) : Int) > 1) : k = d := by
  apply Classical.byContradiction
  intro hn
  apply h
  have : 2 ^ 1 ≤ 2 ^ (d - k) := Nat.pow_le_pow_right (by decide) (by omega)
  have h2 : (2 : Nat) ^ 1 = 2 := rfl
  rw [h2] at this
  generalize 2 ^ (d - k) = n at this
  omega
theorem pow_dbl {d k : Nat} (h : k < d) : 2 * 2 ^ (d - k - 1) = 2 ^ (d - k) := by
  rw [show d - k = (d - k - 1) + 1 by omega, Nat.pow_succ, Nat.mul_comm]
  congr 1
theorem pow_pos2 {k : Nat} : 1 ≤ 2 ^ k := Nat.pos_of_ne_zero (by simp)
def folF (h : Nat → Int) (i : Int) (P : Nat → Nat → Int) : Nat → Nat → Int
  | 0 => h
  | x + 1 => bif decide (i / 2 ^ x % 2 = 0) then nodeF (folF h i P x) (P x) else nodeF (P x) (folF h i P x)
theorem fol_by {h : Nat → Int} {i : Int} {P : Nat → Nat → Int} (hh : byB h 32) : ∀ x, byB (folF h i P x) 32
  | 0 => hh
  | x + 1 => by
    show byB (bif _ then _ else _) 32
    cases decide (i / 2 ^ x % 2 = 0) with
    | true => exact node_by _ _ 32
    | false => exact node_by _ _ 32
theorem shw_f : ∀ x : Fin 11, IntKind.wrap .i64 (1 * 2 ^ min x.1 64) = ((2 ^ x.1 : Nat) : Int) := by decide +kernel
theorem shw {x : Nat} (h : x ≤ 10) : IntKind.wrap .i64 (1 * 2 ^ min x 64) = ((2 ^ x : Nat) : Int) := shw_f ⟨x, by omega⟩
theorem pow_inj_f : ∀ d x : Fin 11, 2 ^ d.1 = 2 ^ x.1 → d.1 = x.1 := by decide +kernel
theorem pow_inj {d x : Nat} (hd : d ≤ 10) (hx : x ≤ 10) (h : 2 ^ d = 2 ^ x) : d = x := pow_inj_f ⟨d, by omega⟩ ⟨x, by omega⟩ h
theorem dep_t {d x : Nat} (hd : d ≤ 10) (hx : x ≤ 10) (g : ((2 ^ d : Nat) : Int) = IntKind.wrap .i64 (1 * 2 ^ min x 64)) : d = x := by
  rw [shw hx] at g
  exact pow_inj hd hx (Int.ofNat_inj.1 g)
theorem dep_f {d x : Nat} (hx : x ≤ 10) (g : ¬ ((2 ^ d : Nat) : Int) = IntKind.wrap .i64 (1 * 2 ^ min x 64)) : d ≠ x := fun e => g (by rw [shw hx, e])
theorem half_q {i : Int} {x : Nat} (hi : 0 ≤ i) : Int.tdiv (i / 2 ^ x) 2 = i / 2 ^ (x + 1) := by
  rw [Int.tdiv_eq_ediv_of_nonneg (Int.ediv_nonneg hi (Int.pow_nonneg (by decide))), Int.ediv_ediv_of_nonneg (Int.pow_nonneg (by decide)), Int.pow_succ]
theorem half_r {i : Int} {x : Nat} (hi : 0 ≤ i) : Int.tmod (i / 2 ^ x) 2 = i / 2 ^ x % 2 := by
  rw [Int.tmod_eq_emod_of_nonneg (Int.ediv_nonneg hi (Int.pow_nonneg (by decide)))]
theorem half_w {i : Int} {x : Nat} (hi : 0 ≤ i) (hi' : i < 9223372036854775807) : IntKind.wrap .i64 (Int.tdiv (i / 2 ^ x) 2) = i / 2 ^ (x + 1) := by
  rw [half_q hi]
  have h1 : 0 ≤ i / 2 ^ (x + 1) := Int.ediv_nonneg hi (Int.pow_nonneg (by decide))
  have h2 : i / 2 ^ (x + 1) ≤ i := Int.ediv_le_self _ hi
  exact wI (by omega) (by omega)
theorem fol_t {h : Nat → Int} {i : Int} {P : Nat → Nat → Int} {x : Nat} (hi : 0 ≤ i) (g : Int.tmod (i / 2 ^ x) 2 = 0) : nodeF (folF h i P x) (P x) = folF h i P (x + 1) := by
  rw [half_r hi] at g
  show _ = bif _ then _ else _
  rw [decide_eq_true g]; rfl
theorem fol_f {h : Nat → Int} {i : Int} {P : Nat → Nat → Int} {x : Nat} (hi : 0 ≤ i) (g : ¬ Int.tmod (i / 2 ^ x) 2 = 0) : nodeF (P x) (folF h i P x) = folF h i P (x + 1) := by
  rw [half_r hi] at g
  show _ = bif _ then _ else _
  rw [decide_eq_false g]; rfl
theorem fol_ob {os : List (Option Ob)} {u v G : Nat → Int} (e : v = G) :
    ObEnt os ⟨32, 1, true, .fn fun i j => .int .u8 (bif Nat.beq i 0 && (Nat.ble 0 j && Nat.blt j 32) then intOfAV (atL (u8c v) (j - 0)) else u j)⟩ ⟨32, 1, true, .fn fun _ j => .int .u8 (G j)⟩ := by
  subst e
  refine ⟨rfl, rfl, rfl, fun i j hi hj => Ent.of_eq (congrArg (AV.int .u8) ?_)⟩
  have : i = 0 := Nat.lt_one_iff.1 hi
  subst this
  rw [Nat.sub_zero, show (Nat.beq 0 0 && (Nat.ble 0 j && Nat.blt j 32)) = true by rw [blt_t hj, show Nat.ble 0 j = true from by rw [Nat.ble_eq]; exact Nat.zero_le j]; rfl, u8c_at hj]
  rfl
def eqF (f g : Nat → Int) : Nat → Nat → Bool
  | 0, _ => true
  | k + 1, s => (f s == g s) && eqF f g k (s + 1)
def hEq (f g : Nat → Int) : Bool := eqF f g 32 0
theorem grow_w {n : Nat} (hn : n ≤ 1000) : IntKind.wrap .i64 ((n : Int) - IntKind.wrap .i64 (0 - 0)) = n := by
  rw [show (0 - 0 : Int) = 0 by omega, wI (n := 0) (by omega) (by omega), wI (by omega) (by omega)]; omega
theorem zero_u8 {j : Nat} (hj : j < 1) : AV.int .u8 (intOfAV (atL (zcells (.int .u8 0)) j)) = .int .u8 0 := by
  have : j = 0 := by omega
  subst this; rfl

end Go.Sp
