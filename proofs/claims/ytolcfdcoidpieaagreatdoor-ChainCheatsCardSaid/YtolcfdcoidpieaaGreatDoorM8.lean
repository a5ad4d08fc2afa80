/- Part of the proof: HW1, Prv3, HW2, HK3, Same, HK4, HK5, HK6, SpOpen, SpOpenP, Args, Args3, Args2, EnGlob. -/
import Derived.Test.YtolcfdcoidpieaaGreatDoorM7
import Derived.Test.YtolcfdcoidpieaaGreatDoorProg
import Derived.Test.YtolcfdcoidpieaaGreatDoorM2
import Derived.Test.YtolcfdcoidpieaaGreatDoorM4
import Derived.Test.YtolcfdcoidpieaaGreatDoorM3
import Derived.Test.YtolcfdcoidpieaaGreatDoorM5
import Derived.DataShut
import Derived.OpenShut
import Derived.FnData
import Derived.MakeChecks
namespace Go.Proofs.YtolcfdcoidpieaaGreatDoor
open Go Go.Am Go.Sp
set_option maxRecDepth 100000
theorem rshared_c (s t:Spend) (hs:s.nl≤1000) (ht:t.nl≤1000):Pure Tryz.prog gl0 46 [s.av,t.av] (.tup [il .i64 (bif okS s&&okS t then sharedL s t else []),.int .i64 (bif okS s&&okS t then 0 else 1)]):=by
 have c2:=rformed_c s
 have c3:=rformed_c t
 have c4:=fun h=>r33first_c s h
 have c5:=fun j h h'=>r33partner_c s t j h h' (by omega)
 refine pure_sk (own:=ow0) Tryz.func46 (by kernel_rfl) mixed (by kernel_rfl)
  (let y0:AV:=(AV.tup [il IntKind.i64 (bif okS s&&okS t then sharedL s t else []),Zi (bif okS s&&okS t then (0:Int) else (1:Int))]);(.sc (true) 93 ([AV.agg (Spend.cells s)]) (AV.bool (okS s)) (.sc ((!okS s)==false) 93 ([AV.agg (Spend.cells t)]) (AV.bool (okS t)) (.br (!okS s || !okS t) (.out (AV.tup [AV.nsl,Zi 1]) [] y0 []) (.loop ({ x:Nat // x≤Spend.nl s }) (fun (x:{ x:Nat // x≤Spend.nl s })=>mkSt [2,3,6,7] [AV.own 0 80 0 0 80,AV.own 1 80 0 0 80,AV.osl 2 1 0 (List.length (sharedM s t (x.1))),Zi (↑(x.1):Int)] [some ⟨80,1,true,Rep.lst [Spend.cells s]⟩,some ⟨80,1,true,Rep.lst [Spend.cells t]⟩,ilO IntKind.i64 (sharedM s t (x.1))]) (fun (x:{ x:Nat // x≤Spend.nl s })=>Spend.nl s - x.1) (⟨0,Nat.zero_le (Spend.nl s)⟩) ([2,3,6,7]) ([0,8,370]) ([AV.own 0 80 0 0 80,AV.own 1 80 0 0 80,AV.nsl,Zi 0]) ([some ⟨80,1,true,Rep.lst [Spend.cells s]⟩,some ⟨80,1,true,Rep.lst [Spend.cells t]⟩,some ⟨1,0,true,Rep.lst []⟩]) (fun x4=>(.br (decide ((↑x4.1:Int)<(↑s.16:Int))) (.sc (true) 94 ([AV.agg (Spend.cells s),AV.agg (Spend.cells t),Zi (↑x4.1:Int)]) (Zi (partI s t (Int.toNat (↑x4.1:Int)))) (.br (decide (partI s t (Int.toNat (↑x4.1:Int))≥0)) (.sc (true) 95 ([AV.agg (Spend.cells s)]) (Zi (fromS s)) (.req ((List.length (sharedM s t (x4.1))+1)*8≤140737488355328) (.again (Again 0 (fun (x:{ x:Nat // x≤Spend.nl s })=>mkSt [2,3,6,7] [AV.own 0 80 0 0 80,AV.own 1 80 0 0 80,AV.osl 2 1 0 (List.length (sharedM s t (x.1))),Zi (↑(x.1):Int)] [some ⟨80,1,true,Rep.lst [Spend.cells s]⟩,some ⟨80,1,true,Rep.lst [Spend.cells t]⟩,ilO IntKind.i64 (sharedM s t (x.1))]) (fun (x:{ x:Nat // x≤Spend.nl s })=>Spend.nl s - x.1) x4) ([2,3,6,7]) ([0,1,131]) ([AV.own 0 80 0 0 80,AV.own 1 80 0 0 80,AV.osl 2 1 0 (List.length (sharedM s t (x4.1))+1),Zi (IntKind.wrap IntKind.i64 ((↑x4.1:Int)+1))]) ([some ⟨80,1,true,Rep.lst [Spend.cells s]⟩,some ⟨80,1,true,Rep.lst [Spend.cells t]⟩,some ⟨1,List.length (sharedM s t (x4.1))+1,true,Rep.fn fun (i j:Nat)=>Zi (bif Nat.blt i (List.length (sharedM s t (x4.1))) then List.getD (sharedM s t (x4.1)) i (0:Int) else intOfAV (atL [Zi (IntKind.wrap IntKind.i64 (fromS s+(↑(x4.1):Int)))] j))⟩])))) (.again (Again 0 (fun (x:{ x:Nat // x≤Spend.nl s })=>mkSt [2,3,6,7] [AV.own 0 80 0 0 80,AV.own 1 80 0 0 80,AV.osl 2 1 0 (List.length (sharedM s t (x.1))),Zi (↑(x.1):Int)] [some ⟨80,1,true,Rep.lst [Spend.cells s]⟩,some ⟨80,1,true,Rep.lst [Spend.cells t]⟩,ilO IntKind.i64 (sharedM s t (x.1))]) (fun (x:{ x:Nat // x≤Spend.nl s })=>Spend.nl s - x.1) x4) ([2,3,6,7]) ([0,1,2]) ([AV.own 0 80 0 0 80,AV.own 1 80 0 0 80,AV.osl 2 1 0 (List.length (sharedM s t (x4.1))),Zi (IntKind.wrap IntKind.i64 ((↑x4.1:Int)+1))]) ([some ⟨80,1,true,Rep.lst [Spend.cells s]⟩,some ⟨80,1,true,Rep.lst [Spend.cells t]⟩,some ⟨1,List.length (sharedM s t (x4.1)),true,Rep.fn fun (i j:Nat)=>Zi (List.getD (sharedM s t (x4.1)) i (0:Int))⟩])))) (.out (AV.tup [AV.isl 1 (List.length (sharedM s t (x4.1))) fun (r k:Nat)=>Zi (List.getD (sharedM s t (x4.1)) (r+0) (0:Int)),Zi 0]) [] y0 []))))))))
  (by kernel_rfl) ?_
 refine k_sc (c2) ?_
 refine k_scg (fun h1=>c3) ?_
 refine k_br (fun h2 => ?_) (fun h2 => ?_)
 ·have g2:=(cnd_or_t (cnd_not_t cnd_id_f) (cnd_not_t cnd_id_f)) h2
  exact k_out (Ent.tup ⟨Ent.nilL (bif_f (not_ok2 g2)),Ent.of_eq (congrArg _ (bif_f (not_ok2 g2)).symm),trivial⟩)
 ·have g2:=(cnd_or_f (cnd_not_f cnd_id_t) (cnd_not_f cnd_id_t)) h2
  refine k_loop (fun _ hs=>hs.le (by repeat' (first|exact trivial|(first|exact Ent.refl _|exact inc_ent (by omega)|exact Ent.nil rfl|exact Ent.of_eq (congrArg (AV.osl _ _ _) (by first|omega|(dsimp only;omega)))|exact Ent.of_eq (congrArg (AV.int _) (by first|omega|(dsimp only;omega))))|refine And.intro ?_ ?_)) (by repeat' (first|exact trivial|(first|exact ObEnt.refl _|exact ObEnt.junk|exact ObEnt.zero|exact ObEnt.push rfl rfl|exact ObEnt.pushRow rfl|exact ObEnt.len (by omega)|exact ObEnt.row (by repeat' (first|exact trivial|(first|exact Ent.refl _|exact inc_ent (by omega)|exact Ent.nil rfl|exact Ent.of_eq (congrArg (AV.osl _ _ _) (by first|omega|(dsimp only;omega)))|exact Ent.of_eq (congrArg (AV.int _) (by first|omega|(dsimp only;omega))))|refine And.intro ?_ ?_)))|refine And.intro ?_ ?_))) (fun x4 => ?_)
  try (have q4:=x4.2;dsimp only at q4)
  refine k_br (fun h5 => ?_) (fun h5 => ?_)
  ·have g5:=cnd_dec_t h5
   refine k_sc (c5 ((↑x4.1:Int)) (by omega) (by assumption)) ?_
   refine k_br (fun h7 => ?_) (fun h7 => ?_)
   ·have g7:=cnd_dec_t h7
    try simp only [Int.toNat_natCast] at g7
    refine k_sc (c4 (g2.1)) ?_
    refine k_req (by have:=sharedM_len s t x4.1;omega) ?_
    exact k_again (⟨x4.1+1,by omega⟩) (fun _ hs=>hs.le (⟨by exact Ent.refl _,by exact Ent.refl _,Ent.of_eq (congrArg (AV.osl 2 1 0) (sharedM_lt (x:=x4.1) (by omega) g7)),by exact inc_ent (by omega),trivial⟩) (⟨by exact ObEnt.refl _,by exact ObEnt.refl _,.pushL (sharedM_t (x:=x4.1) (by omega) g7),trivial⟩)) (by (dsimp only;omega))
   ·have g7:=cnd_dec_f h7
    try simp only [Int.toNat_natCast] at g7
    exact k_again (⟨x4.1+1,by omega⟩) (fun _ hs=>hs.le (⟨by exact Ent.refl _,by exact Ent.refl _,Ent.of_eq (congrArg (AV.osl 2 1 0) (sharedM_lf (x:=x4.1) g7)),by exact inc_ent (by omega),trivial⟩) (⟨by exact ObEnt.refl _,by exact ObEnt.refl _,sharedM_same (x:=x4.1) g7,trivial⟩)) (by (dsimp only;omega))
  ·have g5:=cnd_dec_f h5
   exact k_out (Ent.tup ⟨Ent.ilL (sharedM_end g2 (by omega)),Ent.of_eq (congrArg _ (bif_t (yes_ok2 g2)).symm),trivial⟩)
theorem same27_c (i:Int) (n:Nat) (f:Nat→Nat→Int) (hn:n≤100000):Pure Tryz.prog gl0 96 [.agg [.int .i64 i,hss n f],.agg [.int .i64 i,hss n f]] (.bool true):=by
 refine pure_sk (own:=ow0) Tryz.func96 (by kernel_rfl) mixed (by kernel_rfl)
  (.br (i != i||(↑n:Int) != (↑n:Int)) (.out (AV.bool false) [] (AV.bool true) []) (.loop (Sp.Sub fun (x:Nat)=>x≤n) (fun (x:Sp.Sub fun (x:Nat)=>x≤n)=>mkSt [2,3,5] [AV.own 0 2 0 0 2,AV.own 1 2 0 0 2,Zi (↑(x.1):Int)] [some ⟨2,1,true,Rep.lst [[Zi i,hss n f]]⟩,some ⟨2,1,true,Rep.lst [[Zi i,hss n f]]⟩]) (fun (x:Sp.Sub fun (x:Nat)=>x≤n)=>n - x.1) (⟨0,Nat.zero_le n⟩) ([2,3,5]) ([0,8]) ([AV.own 0 2 0 0 2,AV.own 1 2 0 0 2,Zi 0]) ([some ⟨2,1,true,Rep.lst [[Zi i,AV.isl 32 n fun (i j:Nat)=>Zb (f i j)]]⟩,some ⟨2,1,true,Rep.lst [[Zi i,AV.isl 32 n fun (i j:Nat)=>Zb (f i j)]]⟩]) (fun x2=>(.br (decide ((↑x2.1:Int)<(↑n:Int))) (.req ((0:Int)≤(↑x2.1:Int)∧(↑x2.1:Int)<(↑n:Int)) (.req ((0:Int)≤(↑x2.1:Int)∧(↑x2.1:Int)<(↑n:Int)) (.br (!(f (Int.toNat (↑x2.1:Int)) 0==f (Int.toNat (↑x2.1:Int)) 0&&(f (Int.toNat (↑x2.1:Int)) 1==f (Int.toNat (↑x2.1:Int)) 1&&(f (Int.toNat (↑x2.1:Int)) 2==f (Int.toNat (↑x2.1:Int)) 2&&(f (Int.toNat (↑x2.1:Int)) 3==f (Int.toNat (↑x2.1:Int)) 3&&(f (Int.toNat (↑x2.1:Int)) 4==f (Int.toNat (↑x2.1:Int)) 4&&(f (Int.toNat (↑x2.1:Int)) 5==f (Int.toNat (↑x2.1:Int)) 5&&(f (Int.toNat (↑x2.1:Int)) 6==f (Int.toNat (↑x2.1:Int)) 6&&(f (Int.toNat (↑x2.1:Int)) 7==f (Int.toNat (↑x2.1:Int)) 7&&(f (Int.toNat (↑x2.1:Int)) 8==f (Int.toNat (↑x2.1:Int)) 8&&(f (Int.toNat (↑x2.1:Int)) 9==f (Int.toNat (↑x2.1:Int)) 9&&(f (Int.toNat (↑x2.1:Int)) 10==f (Int.toNat (↑x2.1:Int)) 10&&(f (Int.toNat (↑x2.1:Int)) 11==f (Int.toNat (↑x2.1:Int)) 11&&(f (Int.toNat (↑x2.1:Int)) 12==f (Int.toNat (↑x2.1:Int)) 12&&(f (Int.toNat (↑x2.1:Int)) 13==f (Int.toNat (↑x2.1:Int)) 13&&(f (Int.toNat (↑x2.1:Int)) 14==f (Int.toNat (↑x2.1:Int)) 14&&(f (Int.toNat (↑x2.1:Int)) 15==f (Int.toNat (↑x2.1:Int)) 15&&(f (Int.toNat (↑x2.1:Int)) 16==f (Int.toNat (↑x2.1:Int)) 16&&(f (Int.toNat (↑x2.1:Int)) 17==f (Int.toNat (↑x2.1:Int)) 17&&(f (Int.toNat (↑x2.1:Int)) 18==f (Int.toNat (↑x2.1:Int)) 18&&(f (Int.toNat (↑x2.1:Int)) 19==f (Int.toNat (↑x2.1:Int)) 19&&(f (Int.toNat (↑x2.1:Int)) 20==f (Int.toNat (↑x2.1:Int)) 20&&(f (Int.toNat (↑x2.1:Int)) 21==f (Int.toNat (↑x2.1:Int)) 21&&(f (Int.toNat (↑x2.1:Int)) 22==f (Int.toNat (↑x2.1:Int)) 22&&(f (Int.toNat (↑x2.1:Int)) 23==f (Int.toNat (↑x2.1:Int)) 23&&(f (Int.toNat (↑x2.1:Int)) 24==f (Int.toNat (↑x2.1:Int)) 24&&(f (Int.toNat (↑x2.1:Int)) 25==f (Int.toNat (↑x2.1:Int)) 25&&(f (Int.toNat (↑x2.1:Int)) 26==f (Int.toNat (↑x2.1:Int)) 26&&(f (Int.toNat (↑x2.1:Int)) 27==f (Int.toNat (↑x2.1:Int)) 27&&(f (Int.toNat (↑x2.1:Int)) 28==f (Int.toNat (↑x2.1:Int)) 28&&(f (Int.toNat (↑x2.1:Int)) 29==f (Int.toNat (↑x2.1:Int)) 29&&(f (Int.toNat (↑x2.1:Int)) 30==f (Int.toNat (↑x2.1:Int)) 30&&(f (Int.toNat (↑x2.1:Int)) 31==f (Int.toNat (↑x2.1:Int)) 31&&true))))))))))))))))))))))))))))))))) (.out (AV.bool false) [] (AV.bool true) []) (.again (Again 0 (fun (x:Sp.Sub fun (x:Nat)=>x≤n)=>mkSt [2,3,5] [AV.own 0 2 0 0 2,AV.own 1 2 0 0 2,Zi (↑(x.1):Int)] [some ⟨2,1,true,Rep.lst [[Zi i,hss n f]]⟩,some ⟨2,1,true,Rep.lst [[Zi i,hss n f]]⟩]) (fun (x:Sp.Sub fun (x:Nat)=>x≤n)=>n - x.1) x2) ([2,3,5]) ([0,1]) ([AV.own 0 2 0 0 2,AV.own 1 2 0 0 2,Zi (IntKind.wrap IntKind.i64 ((↑x2.1:Int)+1))]) ([some ⟨2,1,true,Rep.lst [[Zi i,AV.isl 32 n fun (i j:Nat)=>Zb (f i j)]]⟩,some ⟨2,1,true,Rep.lst [[Zi i,AV.isl 32 n fun (i j:Nat)=>Zb (f i j)]]⟩]))))) (.out (AV.bool true) [] (AV.bool true) [])))))
  (by kernel_rfl) ?_
 refine k_br (fun h0 => ?_) (fun h0 => ?_)
 ·have g0:=(cnd_or_t cnd_bne_t cnd_bne_t) h0
  exact k_out (Ent.of_eq (by simp_all))
 ·have g0:=(cnd_or_f cnd_bne_f cnd_bne_f) h0
  refine k_loop (fun _ hs=>hs.le (⟨.refl _,.refl _,.refl _,trivial⟩) (⟨.refl _,.refl _,trivial⟩)) (fun x2 => ?_)
  try (have q2:=x2.2;dsimp only at q2)
  refine k_br (fun h3 => ?_) (fun h3 => ?_)
  ·have g3:=cnd_dec_t h3
   refine k_req (by omega) ?_
   refine k_req (by omega) ?_
   refine k_br (fun h6 => ?_) (fun h6 => ?_)
   ·have g6:=(cnd_not_t (cnd_and_f cnd_beq_f (cnd_and_f cnd_beq_f (cnd_and_f cnd_beq_f (cnd_and_f cnd_beq_f (cnd_and_f cnd_beq_f (cnd_and_f cnd_beq_f (cnd_and_f cnd_beq_f (cnd_and_f cnd_beq_f (cnd_and_f cnd_beq_f (cnd_and_f cnd_beq_f (cnd_and_f cnd_beq_f (cnd_and_f cnd_beq_f (cnd_and_f cnd_beq_f (cnd_and_f cnd_beq_f (cnd_and_f cnd_beq_f (cnd_and_f cnd_beq_f (cnd_and_f cnd_beq_f (cnd_and_f cnd_beq_f (cnd_and_f cnd_beq_f (cnd_and_f cnd_beq_f (cnd_and_f cnd_beq_f (cnd_and_f cnd_beq_f (cnd_and_f cnd_beq_f (cnd_and_f cnd_beq_f (cnd_and_f cnd_beq_f (cnd_and_f cnd_beq_f (cnd_and_f cnd_beq_f (cnd_and_f cnd_beq_f (cnd_and_f cnd_beq_f (cnd_and_f cnd_beq_f (cnd_and_f cnd_beq_f (cnd_and_f cnd_beq_f cnd_id_f))))))))))))))))))))))))))))))))) h6
    try simp only [Int.toNat_natCast] at g6
    exact k_out (Ent.of_eq (by simp_all))
   ·have g6:=(cnd_not_f (cnd_and_t cnd_beq_t (cnd_and_t cnd_beq_t (cnd_and_t cnd_beq_t (cnd_and_t cnd_beq_t (cnd_and_t cnd_beq_t (cnd_and_t cnd_beq_t (cnd_and_t cnd_beq_t (cnd_and_t cnd_beq_t (cnd_and_t cnd_beq_t (cnd_and_t cnd_beq_t (cnd_and_t cnd_beq_t (cnd_and_t cnd_beq_t (cnd_and_t cnd_beq_t (cnd_and_t cnd_beq_t (cnd_and_t cnd_beq_t (cnd_and_t cnd_beq_t (cnd_and_t cnd_beq_t (cnd_and_t cnd_beq_t (cnd_and_t cnd_beq_t (cnd_and_t cnd_beq_t (cnd_and_t cnd_beq_t (cnd_and_t cnd_beq_t (cnd_and_t cnd_beq_t (cnd_and_t cnd_beq_t (cnd_and_t cnd_beq_t (cnd_and_t cnd_beq_t (cnd_and_t cnd_beq_t (cnd_and_t cnd_beq_t (cnd_and_t cnd_beq_t (cnd_and_t cnd_beq_t (cnd_and_t cnd_beq_t (cnd_and_t cnd_beq_t cnd_id_t))))))))))))))))))))))))))))))))) h6
    try simp only [Int.toNat_natCast] at g6
    exact k_again (⟨x2.1+1,by omega⟩) (fun _ hs=>hs.le (⟨.refl _,.refl _,inc_ent (by omega),trivial⟩) (⟨.refl _,.refl _,trivial⟩)) (by (dsimp only;omega))
  ·have g3:=cnd_dec_f h3
   exact k_out (Ent.of_eq (by rfl))
theorem same32_c (s:Spend) (hl:s.nl≤1000) (hp:s.np≤1000):Pure Tryz.prog gl0 47 [s.av,s.av] (.bool true):=by
 refine pure_sk (own:=ow0) Tryz.func47 (by kernel_rfl) mixed (by kernel_rfl)
  (let y0:List (Option Ob):=[some ⟨80,1,true,Rep.lst [Spend.cells s]⟩,some ⟨80,1,true,Rep.lst [Spend.cells s]⟩];let y1:List AV:=[Zi s.18,AV.isl 32 s.19 fun (i j:Nat)=>Zb (s.20 i j)];(.sc ((!(s.1==s.1&&(s.2==s.2&&(s.3==s.3&&(s.4==s.4&&(s.5==s.5&&(s.6 0==s.6 0&&(s.6 1==s.6 1&&(s.6 2==s.6 2&&(s.6 3==s.6 3&&(s.6 4==s.6 4&&(s.6 5==s.6 5&&(s.6 6==s.6 6&&(s.6 7==s.6 7&&(s.6 8==s.6 8&&(s.6 9==s.6 9&&(s.6 10==s.6 10&&(s.6 11==s.6 11&&(s.6 12==s.6 12&&(s.6 13==s.6 13&&(s.6 14==s.6 14&&(s.6 15==s.6 15&&(s.6 16==s.6 16&&(s.6 17==s.6 17&&(s.6 18==s.6 18&&(s.6 19==s.6 19&&(s.6 20==s.6 20&&(s.6 21==s.6 21&&(s.6 22==s.6 22&&(s.6 23==s.6 23&&(s.6 24==s.6 24&&(s.6 25==s.6 25&&(s.6 26==s.6 26&&(s.6 27==s.6 27&&(s.6 28==s.6 28&&(s.6 29==s.6 29&&(s.6 30==s.6 30&&(s.6 31==s.6 31&&true)))))))))))))))))))))))))))))))&&(s.7==s.7&&(s.8==s.8&&(s.9==s.9&&(s.10==s.10&&true)))&&true))))))) || !(s.11==s.11&&(s.12==s.12&&true)) || !(s.13 0==s.13 0&&(s.13 1==s.13 1&&(s.13 2==s.13 2&&(s.13 3==s.13 3&&(s.13 4==s.13 4&&(s.13 5==s.13 5&&(s.13 6==s.13 6&&(s.13 7==s.13 7&&(s.13 8==s.13 8&&(s.13 9==s.13 9&&(s.13 10==s.13 10&&(s.13 11==s.13 11&&(s.13 12==s.13 12&&(s.13 13==s.13 13&&(s.13 14==s.13 14&&(s.13 15==s.13 15&&(s.13 16==s.13 16&&(s.13 17==s.13 17&&(s.13 18==s.13 18&&(s.13 19==s.13 19&&(s.13 20==s.13 20&&(s.13 21==s.13 21&&(s.13 22==s.13 22&&(s.13 23==s.13 23&&(s.13 24==s.13 24&&(s.13 25==s.13 25&&(s.13 26==s.13 26&&(s.13 27==s.13 27&&(s.13 28==s.13 28&&(s.13 29==s.13 29&&(s.13 30==s.13 30&&(s.13 31==s.13 31&&true)))))))))))))))))))))))))))))))&&(s.14==s.14&&(s.15==s.15&&true)))||(↑s.16:Int) != (↑s.16:Int))==false) 96 ([AV.agg y1,AV.agg y1]) (AV.bool true) (.br (!(s.1==s.1&&(s.2==s.2&&(s.3==s.3&&(s.4==s.4&&(s.5==s.5&&(s.6 0==s.6 0&&(s.6 1==s.6 1&&(s.6 2==s.6 2&&(s.6 3==s.6 3&&(s.6 4==s.6 4&&(s.6 5==s.6 5&&(s.6 6==s.6 6&&(s.6 7==s.6 7&&(s.6 8==s.6 8&&(s.6 9==s.6 9&&(s.6 10==s.6 10&&(s.6 11==s.6 11&&(s.6 12==s.6 12&&(s.6 13==s.6 13&&(s.6 14==s.6 14&&(s.6 15==s.6 15&&(s.6 16==s.6 16&&(s.6 17==s.6 17&&(s.6 18==s.6 18&&(s.6 19==s.6 19&&(s.6 20==s.6 20&&(s.6 21==s.6 21&&(s.6 22==s.6 22&&(s.6 23==s.6 23&&(s.6 24==s.6 24&&(s.6 25==s.6 25&&(s.6 26==s.6 26&&(s.6 27==s.6 27&&(s.6 28==s.6 28&&(s.6 29==s.6 29&&(s.6 30==s.6 30&&(s.6 31==s.6 31&&true)))))))))))))))))))))))))))))))&&(s.7==s.7&&(s.8==s.8&&(s.9==s.9&&(s.10==s.10&&true)))&&true))))))) || !(s.11==s.11&&(s.12==s.12&&true)) || !(s.13 0==s.13 0&&(s.13 1==s.13 1&&(s.13 2==s.13 2&&(s.13 3==s.13 3&&(s.13 4==s.13 4&&(s.13 5==s.13 5&&(s.13 6==s.13 6&&(s.13 7==s.13 7&&(s.13 8==s.13 8&&(s.13 9==s.13 9&&(s.13 10==s.13 10&&(s.13 11==s.13 11&&(s.13 12==s.13 12&&(s.13 13==s.13 13&&(s.13 14==s.13 14&&(s.13 15==s.13 15&&(s.13 16==s.13 16&&(s.13 17==s.13 17&&(s.13 18==s.13 18&&(s.13 19==s.13 19&&(s.13 20==s.13 20&&(s.13 21==s.13 21&&(s.13 22==s.13 22&&(s.13 23==s.13 23&&(s.13 24==s.13 24&&(s.13 25==s.13 25&&(s.13 26==s.13 26&&(s.13 27==s.13 27&&(s.13 28==s.13 28&&(s.13 29==s.13 29&&(s.13 30==s.13 30&&(s.13 31==s.13 31&&true)))))))))))))))))))))))))))))))&&(s.14==s.14&&(s.15==s.15&&true)))||(↑s.16:Int) != (↑s.16:Int)||false) (.out (AV.bool false) [] (AV.bool true) []) (.loop (Sp.Sub fun (x:Nat)=>x≤Spend.nl s) (fun (x:Sp.Sub fun (x:Nat)=>x≤Spend.nl s)=>mkSt [2,3,5] [AV.own 0 80 0 0 80,AV.own 1 80 0 0 80,Zi (↑(x.1):Int)] y0) (fun (x:Sp.Sub fun (x:Nat)=>x≤Spend.nl s)=>Spend.nl s - x.1) (⟨0,Nat.zero_le (Spend.nl s)⟩) ([2,3,5]) ([0,8]) ([AV.own 0 80 0 0 80,AV.own 1 80 0 0 80,Zi 0]) (y0) (fun x3=>(.br (decide ((↑x3.1:Int)<(↑s.16:Int))) (.req ((0:Int)≤(↑x3.1:Int)∧(↑x3.1:Int)<(↑s.16:Int)) (.req ((0:Int)≤(↑x3.1:Int)∧(↑x3.1:Int)<(↑s.16:Int)) (.br (!(s.17 (Int.toNat (↑x3.1:Int)) 0==s.17 (Int.toNat (↑x3.1:Int)) 0&&(s.17 (Int.toNat (↑x3.1:Int)) 1==s.17 (Int.toNat (↑x3.1:Int)) 1&&(s.17 (Int.toNat (↑x3.1:Int)) 2==s.17 (Int.toNat (↑x3.1:Int)) 2&&true)))) (.out (AV.bool false) [] (AV.bool true) []) (.again (Again 0 (fun (x:Sp.Sub fun (x:Nat)=>x≤Spend.nl s)=>mkSt [2,3,5] [AV.own 0 80 0 0 80,AV.own 1 80 0 0 80,Zi (↑(x.1):Int)] y0) (fun (x:Sp.Sub fun (x:Nat)=>x≤Spend.nl s)=>Spend.nl s - x.1) x3) ([2,3,5]) ([0,1]) ([AV.own 0 80 0 0 80,AV.own 1 80 0 0 80,Zi (IntKind.wrap IntKind.i64 ((↑x3.1:Int)+1))]) (y0))))) (.out (AV.bool true) [] (AV.bool true) [])))))))
  (by kernel_rfl) ?_
 refine k_scg (fun h0=>same27_c (s.18) (s.19) (s.20) (by omega)) ?_
 refine k_br (fun h1 => ?_) (fun h1 => ?_)
 ·exact k_out (Ent.of_eq (by simp_all))
 ·refine k_loop (fun _ hs=>hs.le (⟨.refl _,.refl _,.refl _,trivial⟩) (⟨.refl _,.refl _,trivial⟩)) (fun x3 => ?_)
  try (have q3:=x3.2;dsimp only at q3)
  refine k_br (fun h4 => ?_) (fun h4 => ?_)
  ·have g4:=cnd_dec_t h4
   refine k_req (by omega) ?_
   refine k_req (by omega) ?_
   refine k_br (fun h7 => ?_) (fun h7 => ?_)
   ·have g7:=(cnd_not_t (cnd_and_f cnd_beq_f (cnd_and_f cnd_beq_f (cnd_and_f cnd_beq_f cnd_id_f)))) h7
    try simp only [Int.toNat_natCast] at g7
    exact k_out (Ent.of_eq (by simp_all))
   ·have g7:=(cnd_not_f (cnd_and_t cnd_beq_t (cnd_and_t cnd_beq_t (cnd_and_t cnd_beq_t cnd_id_t)))) h7
    try simp only [Int.toNat_natCast] at g7
    exact k_again (⟨x3.1+1,by omega⟩) (fun _ hs=>hs.le (⟨.refl _,.refl _,inc_ent (by omega),trivial⟩) (⟨.refl _,.refl _,trivial⟩)) (by (dsimp only;omega))
  ·have g4:=cnd_dec_f h4
   exact k_out (Ent.of_eq (by rfl))
theorem same33_c (s t:Spend) (l:Int) (h1:s.nl≤1000) (h2:s.np≤1000) (h3:t.nl≤1000) (h4:t.np≤1000):Pure Tryz.prog gl0 13 [gul s t l,gul s t l] (.bool true):=by
 have c1:=same32_c s h1 h2
 have c2:=same32_c t h3 h4
 refine pure_sk (own:=ow0) Tryz.func13 (by kernel_rfl) mixed (by kernel_rfl)
  (.sc (true) 47 ([AV.agg (Spend.cells s),AV.agg (Spend.cells s)]) (AV.bool true) (.sc (true) 47 ([AV.agg (Spend.cells t),AV.agg (Spend.cells t)]) (AV.bool true) (.out (AV.bool (l==l)) [] (AV.bool true) [])))
  (by kernel_rfl) ?_
 refine k_sc (c1) ?_
 refine k_sc (c2) ?_
 exact k_out (Ent.of_eq (by simp_all))
end Go.Proofs.YtolcfdcoidpieaaGreatDoor

namespace Go.Sp
open Go Go.Am
theorem zero_1:Spend.zero.nl≤1000∧Spend.zero.np≤1000:=⟨Nat.zero_le _,Nat.zero_le _⟩
theorem okI_t {b:Bas} {s t:Spend} {i:Nat} (h:(glK b s t ((sharedL s t).getD i 0)).2=0):okI b s t i=true:=by unfold okI;rw [h];rfl
theorem okI_f {b:Bas} {s t:Spend} {i:Nat} (h:¬(glK b s t ((sharedL s t).getD i 0)).2=0):okI b s t i=false:=by unfold okI;simpa using h
theorem firstI_all {p:Nat→Bool} {n i:Nat} (hx:firstI p n 0=firstI p (n - i) i) (h:n≤i):∀ j,j<n→p j=false:=fun j hj=>by
 have e : -1=firstI p n 0:=first_miss hx h
 cases hp:p j with
 | false=>rfl
 | true =>
  have hn:decide (firstI p n 0≥0)=true:=by
   rw [firstI_neg]
   exact List.any_eq_true.2 ⟨j,List.mem_range.2 hj,by rw [Nat.zero_add];exact hp⟩
  have:=of_decide_eq_true hn
  omega
theorem prv_end {os:List (Option Ob)} {b:Bas} {R:Nat→Nat→Int} {n:Nat} {s t:Spend} {i:Nat} (h:validB b=true∧(okS s=true∧okS t=true)) (h2:fnS R n s≥0∧fnS R n t≥0) (h3:verd b R n s=true∧verd b R n t=true)
  (hx:firstI (okI b s t) (sharedL s t).length 0=firstI (okI b s t) ((sharedL s t).length - i) i) (hi:i=(sharedL s t).length) :
  Ent os (.tup [.agg (Spend.zero.cw .nsl .nsl++(Spend.zero.cw .nsl .nsl++[.int .i64 0])),.int .i64 (erA b s t i)]) (prvV b R n s t):=by
 have e:=er_end (b:=b) (R:=R) (n:=n) h3 (firstI_all hx (by omega))
 have e2:=prv_none h h2 h3 (by omega) hx
 rw [← hi] at e
 refine prv_e (by rw [e2,e,hi]) ?_
 rw [e]
 split
 ·decide
 ·split<;>decide
theorem vd_no {b:Bas} {R:Nat→Nat→Int} {n:Nat} {s t:Spend} (_h2:fnS R n s≥0∧fnS R n t≥0) (h:vfy b (rcX R n s) s=false∨vfy b (rcX R n t) t=false):verd b R n s=false∨verd b R n t=false:=by
 unfold verd
 rcases h with h|h
 ·exact .inl (by rw [h,Bool.and_false])
 ·exact .inr (by rw [h,Bool.and_false])
theorem vd_yes {b:Bas} {R:Nat→Nat→Int} {n:Nat} {s t:Spend} (h2:fnS R n s≥0∧fnS R n t≥0) (h:vfy b (rcX R n s) s=true∧vfy b (rcX R n t) t=true):verd b R n s=true∧verd b R n t=true:=by
 unfold verd
 exact ⟨by rw [h.1,decide_eq_true h2.1];rfl,by rw [h.2,decide_eq_true h2.2];rfl⟩
theorem okI_xt {b:Bas} {R:Nat→Nat→Int} {n:Nat} {s t:Spend} {i:Nat} (h:xvB b R n s t ((sharedL s t).getD i 0)=true):okI b s t i=true:=by
 unfold xvB at h
 unfold okI
 simp only [Bool.and_eq_true] at h
 exact h.2
theorem okI_xf {b:Bas} {R:Nat→Nat→Int} {n:Nat} {s t:Spend} {i:Nat} (h3:verd b R n s=true∧verd b R n t=true) (h:xvB b R n s t ((sharedL s t).getD i 0)=false):okI b s t i=false:=by
 unfold xvB vd2 at h
 unfold okI
 rw [h3.1,h3.2] at h
 exact h
theorem shared_le (s t:Spend):(sharedL s t).length≤s.nl:=by
 unfold sharedL
 split
 ·exact Nat.zero_le _
 ·unfold sharedN
  rw [List.length_map]
  exact Nat.le_trans (List.length_filter_le _ _) (by rw [List.length_range];exact Nat.le_refl _)
theorem spanZ_b {d l i:Int} (hn:nodeB d l i=true):spanZ d l i≤1056:=by
 obtain ⟨h1,h2,h3,h4,h5,h6⟩:=node_t hn
 have a:=p2 (k:=l) (by omega) (by omega)
 have c:=p2 (k:=d - l) (by omega) (by omega)
 have k:=bnd h5 h6 a.2.2.2 c.2.2.1 c.2.2.2
 unfold spanZ
 rw [if_pos hn]
 exact k.2.2.2
theorem sh_bd {s t:Spend} (h:okS s=true) (i:Nat):(sharedL s t).getD i 0≤9223372036854775807:=by
 by_cases hi:i<(sharedL s t).length
 ·have hm:(sharedL s t).getD i 0∈sharedL s t:=by
   rw [List.getD_eq_getElem?_getD,List.getElem?_eq_getElem hi]
   exact List.getElem_mem hi
  have k:=sh_mem h hm
  obtain ⟨hn,_,_,hz,_⟩:=okS_all h
  have:=spanZ_b hn
  omega
 ·rw [List.getD_eq_getElem?_getD,List.getElem?_eq_none (by omega)]
  decide
end Go.Sp

namespace Go.Proofs.YtolcfdcoidpieaaGreatDoor
open Go Go.Am Go.Sp
set_option maxRecDepth 100000
abbrev kHW20:List AV:=[AV.agg [Zi 0,Zi 0,Zi 0,Zi 0,Zi 0,Zb 0,Zb 0,Zb 0,Zb 0,Zb 0,Zb 0,Zb 0,Zb 0,Zb 0,Zb 0,Zb 0,Zb 0,Zb 0,Zb 0,Zb 0,Zb 0,Zb 0,Zb 0,Zb 0,Zb 0,Zb 0,Zb 0,Zb 0,Zb 0,Zb 0,Zb 0,Zb 0,Zb 0,Zb 0,Zb 0,Zb 0,Zb 0,Zi 0,Zi 0,Zi 0,Zi 0,Zi 0,Zi 0,Zb 0,Zb 0,Zb 0,Zb 0,Zb 0,Zb 0,Zb 0,Zb 0,Zb 0,Zb 0,Zb 0,Zb 0,Zb 0,Zb 0,Zb 0,Zb 0,Zb 0,Zb 0,Zb 0,Zb 0,Zb 0,Zb 0,Zb 0,Zb 0,Zb 0,Zb 0,Zb 0,Zb 0,Zb 0,Zb 0,Zb 0,Zb 0,Zi 0,Zi 0,AV.nsl,Zi 0,AV.nsl,Zi 0,Zi 0,Zi 0,Zi 0,Zi 0,Zb 0,Zb 0,Zb 0,Zb 0,Zb 0,Zb 0,Zb 0,Zb 0,Zb 0,Zb 0,Zb 0,Zb 0,Zb 0,Zb 0,Zb 0,Zb 0,Zb 0,Zb 0,Zb 0,Zb 0,Zb 0,Zb 0,Zb 0,Zb 0,Zb 0,Zb 0,Zb 0,Zb 0,Zb 0,Zb 0,Zb 0,Zb 0,Zi 0,Zi 0,Zi 0,Zi 0,Zi 0,Zi 0,Zb 0,Zb 0,Zb 0,Zb 0,Zb 0,Zb 0,Zb 0,Zb 0,Zb 0,Zb 0,Zb 0,Zb 0,Zb 0,Zb 0,Zb 0,Zb 0,Zb 0,Zb 0,Zb 0,Zb 0,Zb 0,Zb 0,Zb 0,Zb 0,Zb 0,Zb 0,Zb 0,Zb 0,Zb 0,Zb 0,Zb 0,Zb 0,Zi 0,Zi 0,AV.nsl,Zi 0,AV.nsl,Zi 0],Zi 18]
abbrev kHW21:List AV:=[AV.agg [Zi 0,Zi 0,Zi 0,Zi 0,Zi 0,Zb 0,Zb 0,Zb 0,Zb 0,Zb 0,Zb 0,Zb 0,Zb 0,Zb 0,Zb 0,Zb 0,Zb 0,Zb 0,Zb 0,Zb 0,Zb 0,Zb 0,Zb 0,Zb 0,Zb 0,Zb 0,Zb 0,Zb 0,Zb 0,Zb 0,Zb 0,Zb 0,Zb 0,Zb 0,Zb 0,Zb 0,Zb 0,Zi 0,Zi 0,Zi 0,Zi 0,Zi 0,Zi 0,Zb 0,Zb 0,Zb 0,Zb 0,Zb 0,Zb 0,Zb 0,Zb 0,Zb 0,Zb 0,Zb 0,Zb 0,Zb 0,Zb 0,Zb 0,Zb 0,Zb 0,Zb 0,Zb 0,Zb 0,Zb 0,Zb 0,Zb 0,Zb 0,Zb 0,Zb 0,Zb 0,Zb 0,Zb 0,Zb 0,Zb 0,Zb 0,Zi 0,Zi 0,AV.nsl,Zi 0,AV.nsl,Zi 0,Zi 0,Zi 0,Zi 0,Zi 0,Zb 0,Zb 0,Zb 0,Zb 0,Zb 0,Zb 0,Zb 0,Zb 0,Zb 0,Zb 0,Zb 0,Zb 0,Zb 0,Zb 0,Zb 0,Zb 0,Zb 0,Zb 0,Zb 0,Zb 0,Zb 0,Zb 0,Zb 0,Zb 0,Zb 0,Zb 0,Zb 0,Zb 0,Zb 0,Zb 0,Zb 0,Zb 0,Zi 0,Zi 0,Zi 0,Zi 0,Zi 0,Zi 0,Zb 0,Zb 0,Zb 0,Zb 0,Zb 0,Zb 0,Zb 0,Zb 0,Zb 0,Zb 0,Zb 0,Zb 0,Zb 0,Zb 0,Zb 0,Zb 0,Zb 0,Zb 0,Zb 0,Zb 0,Zb 0,Zb 0,Zb 0,Zb 0,Zb 0,Zb 0,Zb 0,Zb 0,Zb 0,Zb 0,Zb 0,Zb 0,Zi 0,Zi 0,AV.nsl,Zi 0,AV.nsl,Zi 0],Zi 11]
abbrev kHW22:List AV:=[AV.agg [Zi 0,Zi 0,Zi 0,Zi 0,Zi 0,Zb 0,Zb 0,Zb 0,Zb 0,Zb 0,Zb 0,Zb 0,Zb 0,Zb 0,Zb 0,Zb 0,Zb 0,Zb 0,Zb 0,Zb 0,Zb 0,Zb 0,Zb 0,Zb 0,Zb 0,Zb 0,Zb 0,Zb 0,Zb 0,Zb 0,Zb 0,Zb 0,Zb 0,Zb 0,Zb 0,Zb 0,Zb 0,Zi 0,Zi 0,Zi 0,Zi 0,Zi 0,Zi 0,Zb 0,Zb 0,Zb 0,Zb 0,Zb 0,Zb 0,Zb 0,Zb 0,Zb 0,Zb 0,Zb 0,Zb 0,Zb 0,Zb 0,Zb 0,Zb 0,Zb 0,Zb 0,Zb 0,Zb 0,Zb 0,Zb 0,Zb 0,Zb 0,Zb 0,Zb 0,Zb 0,Zb 0,Zb 0,Zb 0,Zb 0,Zb 0,Zi 0,Zi 0,AV.nsl,Zi 0,AV.nsl,Zi 0,Zi 0,Zi 0,Zi 0,Zi 0,Zb 0,Zb 0,Zb 0,Zb 0,Zb 0,Zb 0,Zb 0,Zb 0,Zb 0,Zb 0,Zb 0,Zb 0,Zb 0,Zb 0,Zb 0,Zb 0,Zb 0,Zb 0,Zb 0,Zb 0,Zb 0,Zb 0,Zb 0,Zb 0,Zb 0,Zb 0,Zb 0,Zb 0,Zb 0,Zb 0,Zb 0,Zb 0,Zi 0,Zi 0,Zi 0,Zi 0,Zi 0,Zi 0,Zb 0,Zb 0,Zb 0,Zb 0,Zb 0,Zb 0,Zb 0,Zb 0,Zb 0,Zb 0,Zb 0,Zb 0,Zb 0,Zb 0,Zb 0,Zb 0,Zb 0,Zb 0,Zb 0,Zb 0,Zb 0,Zb 0,Zb 0,Zb 0,Zb 0,Zb 0,Zb 0,Zb 0,Zb 0,Zb 0,Zb 0,Zb 0,Zi 0,Zi 0,AV.nsl,Zi 0,AV.nsl,Zi 0],Zi 1]
theorem prove_c (b:Bas) (R:Nat→Nat→Int) (n:Nat) (s t:Spend) (hn:n≤1000) (hw:b.gr.W) (hs:s.nl≤1000) (ht:t.nl≤1000) (bs:s.By) (bt:t.By) (ps:s.np≤1000000) (pt:t.np≤1000000) (fs:∀ k,k<s.np→byB (s.pf k) 32) (ft:∀ k,k<t.np→byB (t.pf k) 32) :
  Pure Tryz.prog gl0 45 [b.av,rcl n R,s.av,t.av] (prvV b R n s t):=by
 have L:=shared_le s t
 have c0:=bvalid_c b hw
 have c1:=formed2_c s t
 have c2:=vrec_c R n s hn
 have c3:=vrec_c R n t hn
 have c4:=vver_c b R n s hn hw bs.root bs.payee fs ps hs
 have c5:=vver_c b R n t hn hw bt.root bt.payee ft pt ht
 have c6:=shared_c s t hs ht
 have c7:=fun leaf=>guilty_c b s t leaf hw hs ht bs bt
 refine pure_sk (own:=ow0) Tryz.func45 (by kernel_rfl) mixed (by kernel_rfl)
  (let y0:List AV:=[Zi 0,Zi 0,Zi 0,Zi 0,Zi 0,Zb 0,Zb 0,Zb 0,Zb 0,Zb 0,Zb 0,Zb 0,Zb 0,Zb 0,Zb 0,Zb 0,Zb 0,Zb 0,Zb 0,Zb 0,Zb 0,Zb 0,Zb 0,Zb 0,Zb 0,Zb 0,Zb 0,Zb 0,Zb 0,Zb 0,Zb 0,Zb 0,Zb 0,Zb 0,Zb 0,Zb 0,Zb 0,Zi 0,Zi 0,Zi 0,Zi 0,Zi 0,Zi 0,Zb 0,Zb 0,Zb 0,Zb 0,Zb 0,Zb 0,Zb 0,Zb 0,Zb 0,Zb 0,Zb 0,Zb 0,Zb 0,Zb 0,Zb 0,Zb 0,Zb 0,Zb 0,Zb 0,Zb 0,Zb 0,Zb 0,Zb 0,Zb 0,Zb 0,Zb 0,Zb 0,Zb 0,Zb 0,Zb 0,Zb 0,Zb 0,Zi 0,Zi 0,AV.nsl,Zi 0,AV.nsl,Zi 0,Zi 0,Zi 0,Zi 0,Zi 0,Zb 0,Zb 0,Zb 0,Zb 0,Zb 0,Zb 0,Zb 0,Zb 0,Zb 0,Zb 0,Zb 0,Zb 0,Zb 0,Zb 0,Zb 0,Zb 0,Zb 0,Zb 0,Zb 0,Zb 0,Zb 0,Zb 0,Zb 0,Zb 0,Zb 0,Zb 0,Zb 0,Zb 0,Zb 0,Zb 0,Zb 0,Zb 0,Zi 0,Zi 0,Zi 0,Zi 0,Zi 0,Zi 0,Zb 0,Zb 0,Zb 0,Zb 0,Zb 0,Zb 0,Zb 0,Zb 0,Zb 0,Zb 0,Zb 0,Zb 0,Zb 0,Zb 0,Zb 0,Zb 0,Zb 0,Zb 0,Zb 0,Zb 0,Zb 0,Zb 0,Zb 0,Zb 0,Zb 0,Zb 0,Zb 0,Zb 0,Zb 0,Zb 0,Zb 0,Zb 0,Zi 0,Zi 0,AV.nsl,Zi 0,AV.nsl,Zi 0];let y1:List (Option Ob):=[some ⟨6,1,true,Rep.lst [Bas.cells b]⟩,some ⟨80,1,true,Rep.lst [Spend.cells s]⟩,some ⟨80,1,true,Rep.lst [Spend.cells t]⟩,some ⟨161,1,true,Rep.lst [y0]⟩];(.sc (true) 90 ([AV.isl 11 n fun (i j:Nat)=>Zi (R i j),AV.agg (Spend.cells s)]) (AV.tup [Rcd.av (rcX R n s),AV.bool (decide (fnS R n s≥0))]) (.sc (true) 90 ([AV.isl 11 n fun (i j:Nat)=>Zi (R i j),AV.agg (Spend.cells t)]) (AV.tup [Rcd.av (rcX R n t),AV.bool (decide (fnS R n t≥0))]) (.sc (true) 34 ([AV.agg (Bas.cells b)]) (AV.bool (validB b)) (.sc ((!validB b)==false) 86 ([AV.isl 80 2 fun (r k:Nat)=>atL (List.getD [Spend.cells s,Spend.cells t] (r+0) []) k]) (AV.bool (okS s&&okS t)) (.br (!validB b || !(okS s&&okS t)) (.out (AV.tup kHW22) [] (prvV b R n s t) []) (.br (!decide (fnS R n s≥0) || !decide (fnS R n t≥0)) (.out (AV.tup kHW20) [] (prvV b R n s t) []) (.sc (true) 91 ([AV.agg (Bas.cells b),AV.isl 11 n fun (i j:Nat)=>Zi (R i j),AV.agg (Spend.cells s)]) (AV.bool (verd b R n s)) (.sc ((!verd b R n s)==false) 91 ([AV.agg (Bas.cells b),AV.isl 11 n fun (i j:Nat)=>Zi (R i j),AV.agg (Spend.cells t)]) (AV.bool (verd b R n t)) (.br (!verd b R n s || !verd b R n t) (.out (AV.tup kHW21) [] (prvV b R n s t) []) (.dc (true) 87 ([AV.agg (Spend.cells s),AV.agg (Spend.cells t)]) (il IntKind.i64 (sharedL s t)) (.loop ({ x:Nat // x≤List.length (sharedL s t)∧(fun (i:Nat)=>firstI (okI b s t) (List.length (sharedL s t)) 0=firstI (okI b s t) (List.length (sharedL s t) - i) i) x }) (fun (x:{ x:Nat // x≤List.length (sharedL s t)∧(fun (i:Nat)=>firstI (okI b s t) (List.length (sharedL s t)) 0=firstI (okI b s t) (List.length (sharedL s t) - i) i) x })=>mkSt [4,6,7,8,65,66,14,67] [AV.own 0 6 0 0 6,AV.own 1 80 0 0 80,AV.own 2 80 0 0 80,AV.own 3 161 0 0 161,AV.isl 1 (List.length (sharedL s t)) fun (i x:Nat)=>Zi (List.getD (sharedL s t) i (0:Int)),Zi (↑(List.length (sharedL s t)):Int),Zi (erA b s t (x.1)),Zi (↑(x.1):Int)] y1) (fun (x:{ x:Nat // x≤List.length (sharedL s t)∧(fun (i:Nat)=>firstI (okI b s t) (List.length (sharedL s t)) 0=firstI (okI b s t) (List.length (sharedL s t) - i) i) x })=>List.length (sharedL s t) - x.1) (⟨0,⟨Nat.zero_le (List.length (sharedL s t)),rfl⟩⟩) ([4,6,7,8,65,66,14,67]) ([0,8,16,24]) ([AV.own 0 6 0 0 6,AV.own 1 80 0 0 80,AV.own 2 80 0 0 80,AV.own 3 161 0 0 161,AV.isl 1 (List.length (sharedL s t)) fun (i x:Nat)=>Zi (List.getD (sharedL s t) i (0:Int)),Zi (↑(List.length (sharedL s t)):Int),Zi 7,Zi 0]) (y1) (fun x13=>(.br (decide ((↑x13.1:Int)<(↑(List.length (sharedL s t)):Int))) (.req ((0:Int)≤(↑x13.1:Int)∧(↑x13.1:Int)<(↑(List.length (sharedL s t)):Int)) (.sc (true) 92 ([AV.agg (Bas.cells b),AV.agg (Spend.cells s),AV.agg (Spend.cells t),Zi (List.getD (sharedL s t) (Int.toNat (↑x13.1:Int)) (0:Int))]) (AV.tup [Zi (Prod.fst (glK b s t (List.getD (sharedL s t) (Int.toNat (↑x13.1:Int)) (0:Int)))),Zi (Prod.snd (glK b s t (List.getD (sharedL s t) (Int.toNat (↑x13.1:Int)) (0:Int))))]) (.br ((glK b s t (List.getD (sharedL s t) (Int.toNat (↑x13.1:Int)) (0:Int))).2==0) (.out (AV.tup [AV.agg (Spend.cells s++(Spend.cells t++[Zi (List.getD (sharedL s t) (Int.toNat (↑x13.1:Int)) (0:Int))])),Zi 0]) [] (prvV b R n s t) []) (.again (Again 0 (fun (x:{ x:Nat // x≤List.length (sharedL s t)∧(fun (i:Nat)=>firstI (okI b s t) (List.length (sharedL s t)) 0=firstI (okI b s t) (List.length (sharedL s t) - i) i) x })=>mkSt [4,6,7,8,65,66,14,67] [AV.own 0 6 0 0 6,AV.own 1 80 0 0 80,AV.own 2 80 0 0 80,AV.own 3 161 0 0 161,AV.isl 1 (List.length (sharedL s t)) fun (i x:Nat)=>Zi (List.getD (sharedL s t) i (0:Int)),Zi (↑(List.length (sharedL s t)):Int),Zi (erA b s t (x.1)),Zi (↑(x.1):Int)] y1) (fun (x:{ x:Nat // x≤List.length (sharedL s t)∧(fun (i:Nat)=>firstI (okI b s t) (List.length (sharedL s t)) 0=firstI (okI b s t) (List.length (sharedL s t) - i) i) x })=>List.length (sharedL s t) - x.1) x13) ([4,6,7,8,65,66,14,67]) ([0,1,2,3]) ([AV.own 0 6 0 0 6,AV.own 1 80 0 0 80,AV.own 2 80 0 0 80,AV.own 3 161 0 0 161,AV.isl 1 (List.length (sharedL s t)) fun (i x:Nat)=>Zi (List.getD (sharedL s t) i (0:Int)),Zi (↑(List.length (sharedL s t)):Int),Zi (glK b s t (List.getD (sharedL s t) (Int.toNat (↑x13.1:Int)) (0:Int))).2,Zi (IntKind.wrap IntKind.i64 ((↑x13.1:Int)+1))]) (y1))))) (.out (AV.tup [AV.agg y0,Zi (erA b s t x13.1)]) [] (prvV b R n s t) [])))))))))))))))
  (by kernel_rfl) ?_
 refine k_sc (c2) ?_
 refine k_sc (c3) ?_
 refine k_sc (c0) ?_
 refine k_scg (fun h3=>c1) ?_
 refine k_br (fun h4 => ?_) (fun h4 => ?_)
 ·have g4:=(cnd_or_t (cnd_not_t cnd_id_f) (cnd_not_t (cnd_and_f cnd_id_f cnd_id_f))) h4
  exact k_out (prv_e (prv_1 g4) (by decide))
 ·have g4:=(cnd_or_f (cnd_not_f cnd_id_t) (cnd_not_f (cnd_and_t cnd_id_t cnd_id_t))) h4
  refine k_br (fun h6 => ?_) (fun h6 => ?_)
  ·have g6:=(cnd_or_t (cnd_not_t cnd_dec_f) (cnd_not_t cnd_dec_f)) h6
   exact k_out (prv_e (prv_2 g4 g6) (by decide))
  ·have g6:=(cnd_or_f (cnd_not_f cnd_dec_t) (cnd_not_f cnd_dec_t)) h6
   refine k_sc (c4) ?_
   refine k_scg (fun h9=>c5) ?_
   refine k_br (fun h10 => ?_) (fun h10 => ?_)
   ·have g10:=(cnd_or_t (cnd_not_t cnd_id_f) (cnd_not_t cnd_id_f)) h10
    exact k_out (prv_e (prv_3 g4 g6 g10) (by decide))
   ·have g10:=(cnd_or_f (cnd_not_f cnd_id_t) (cnd_not_f cnd_id_t)) h10
    refine k_dc (c6) ?_
    refine k_loop (fun _ hs=>hs.le (⟨.refl _,.refl _,.refl _,.refl _,.refl _,.refl _,Ent.of_eq rfl,.refl _,trivial⟩) (⟨.refl _,.refl _,.refl _,.refl _,trivial⟩)) (fun x13 => ?_)
    try (have q13:=x13.2;dsimp only at q13)
    refine k_br (fun h14 => ?_) (fun h14 => ?_)
    ·have g14:=cnd_dec_t h14
     refine k_req (by omega) ?_
     refine k_sc (c7 (List.getD (sharedL s t) (Int.toNat (↑x13.1:Int)) (0:Int))) ?_
     refine k_br (fun h17 => ?_) (fun h17 => ?_)
     ·have g17:=cnd_beq_t h17
      try simp only [Int.toNat_natCast] at g17
      exact k_out (Ent.of_eq (prv_ok g4 g6 g10 (by omega) x13.2.2 (okI_t g17)))
     ·have g17:=cnd_beq_f h17
      try simp only [Int.toNat_natCast] at g17
      exact k_again (⟨x13.1+1,by omega,first_next x13.2.2 (by omega) (okI_f g17)⟩) (fun _ hs=>hs.le (⟨.refl _,.refl _,.refl _,.refl _,.refl _,.refl _,Ent.of_eq rfl,inc_ent (by omega),trivial⟩) (⟨.refl _,.refl _,.refl _,.refl _,trivial⟩)) (by dsimp only;omega)
    ·have g14:=cnd_dec_f h14
     exact k_out (prv_end g4 g6 g10 x13.2.2 (by omega))
theorem rshared_y (s t:Spend) (hs:s.nl≤1000) (ht:t.nl≤1000) (h:okS s=true∧okS t=true):Pure Tryz.prog gl0 46 [s.av,t.av] (.tup [il .i64 (sharedL s t),.int .i64 0]):=by
 have c:=rshared_c s t hs ht
 rw [h.1,h.2] at c
 exact c
theorem rprove_c (b:Bas) (R:Nat→Nat→Int) (n:Nat) (s t:Spend) (hn:n≤1000) (hw:b.gr.W) (hs:s.nl≤1000) (ht:t.nl≤1000) (bs:s.By) (bt:t.By) (ps:s.np≤1000000) (pt:t.np≤1000000) (fs:∀ k,k<s.np→byB (s.pf k) 32) (ft:∀ k,k<t.np→byB (t.pf k) 32) :
  Pure Tryz.prog gl0 48 [b.av,rcl n R,s.av,t.av] (prvV b R n s t):=by
 have L:=shared_le s t
 have c0:=r11valid_c b hw
 have c1:=rformed_c s
 have c1':=rformed_c t
 have c2:=rvrec_c R n s hn
 have c3:=rvrec_c R n t hn
 have c4:=rvfy_c b (rcX R n s) s hw bs.root bs.payee fs ps hs
 have c5:=rvfy_c b (rcX R n t) t hw bt.root bt.payee ft pt ht
 have c6:=fun h=>rshared_y s t hs ht h
 have c7:=fun h h'=>r33chal_c b s bs h h'
 have c8:=fun h h'=>r33chal_c b t bt h h'
 have c9:=fun leaf h=>rxverify_c b R n s t leaf h hn hw hs ht bs bt ps pt fs ft
 refine pure_sk (own:=ow0) Tryz.func48 (by kernel_rfl) mixed (by kernel_rfl)
  (let y0:List AV:=[Zi 0,Zi 0,Zi 0,Zi 0,Zi 0,Zb 0,Zb 0,Zb 0,Zb 0,Zb 0,Zb 0,Zb 0,Zb 0,Zb 0,Zb 0,Zb 0,Zb 0,Zb 0,Zb 0,Zb 0,Zb 0,Zb 0,Zb 0,Zb 0,Zb 0,Zb 0,Zb 0,Zb 0,Zb 0,Zb 0,Zb 0,Zb 0,Zb 0,Zb 0,Zb 0,Zb 0,Zb 0,Zi 0,Zi 0,Zi 0,Zi 0,Zi 0,Zi 0,Zb 0,Zb 0,Zb 0,Zb 0,Zb 0,Zb 0,Zb 0,Zb 0,Zb 0,Zb 0,Zb 0,Zb 0,Zb 0,Zb 0,Zb 0,Zb 0,Zb 0,Zb 0,Zb 0,Zb 0,Zb 0,Zb 0,Zb 0,Zb 0,Zb 0,Zb 0,Zb 0,Zb 0,Zb 0,Zb 0,Zb 0,Zb 0,Zi 0,Zi 0,AV.nsl,Zi 0,AV.nsl,Zi 0,Zi 0,Zi 0,Zi 0,Zi 0,Zb 0,Zb 0,Zb 0,Zb 0,Zb 0,Zb 0,Zb 0,Zb 0,Zb 0,Zb 0,Zb 0,Zb 0,Zb 0,Zb 0,Zb 0,Zb 0,Zb 0,Zb 0,Zb 0,Zb 0,Zb 0,Zb 0,Zb 0,Zb 0,Zb 0,Zb 0,Zb 0,Zb 0,Zb 0,Zb 0,Zb 0,Zb 0,Zi 0,Zi 0,Zi 0,Zi 0,Zi 0,Zi 0,Zb 0,Zb 0,Zb 0,Zb 0,Zb 0,Zb 0,Zb 0,Zb 0,Zb 0,Zb 0,Zb 0,Zb 0,Zb 0,Zb 0,Zb 0,Zb 0,Zb 0,Zb 0,Zb 0,Zb 0,Zb 0,Zb 0,Zb 0,Zb 0,Zb 0,Zb 0,Zb 0,Zb 0,Zb 0,Zb 0,Zb 0,Zb 0,Zi 0,Zi 0,AV.nsl,Zi 0,AV.nsl,Zi 0];let y1:List (Option Ob):=[some ⟨6,1,true,Rep.lst [Bas.cells b]⟩,some ⟨80,1,true,Rep.lst [Spend.cells s]⟩,some ⟨80,1,true,Rep.lst [Spend.cells t]⟩,some ⟨161,1,true,Rep.lst [y0]⟩];(.sc (true) 19 ([AV.agg (Bas.cells b)]) (AV.bool (validB b)) (.sc ((!validB b)==false) 93 ([AV.agg (Spend.cells s)]) (AV.bool (okS s)) (.sc ((!validB b || !okS s)==false) 93 ([AV.agg (Spend.cells t)]) (AV.bool (okS t)) (.br (!validB b || !okS s || !okS t) (.out (AV.tup kHW22) [] (prvV b R n s t) []) (.sc (true) 97 ([AV.isl 11 n fun (i j:Nat)=>Zi (R i j),AV.agg (Spend.cells s)]) (AV.tup [Rcd.av (rcX R n s),AV.bool (decide (fnS R n s≥0))]) (.sc (true) 97 ([AV.isl 11 n fun (i j:Nat)=>Zi (R i j),AV.agg (Spend.cells t)]) (AV.tup [Rcd.av (rcX R n t),AV.bool (decide (fnS R n t≥0))]) (.br (!decide (fnS R n s≥0) || !decide (fnS R n t≥0)) (.out (AV.tup kHW20) [] (prvV b R n s t) []) (.sc (true) 41 ([AV.agg (Bas.cells b),AV.agg (Rcd.cells (rcX R n s)),AV.agg (Spend.cells s)]) (AV.bool (vfy b (rcX R n s) s)) (.sc ((!vfy b (rcX R n s) s)==false) 41 ([AV.agg (Bas.cells b),AV.agg (Rcd.cells (rcX R n t)),AV.agg (Spend.cells t)]) (AV.bool (vfy b (rcX R n t) t)) (.br (!vfy b (rcX R n s) s || !vfy b (rcX R n t) t) (.out (AV.tup kHW21) [] (prvV b R n s t) []) (.dc (true) 46 ([AV.agg (Spend.cells s),AV.agg (Spend.cells t)]) (AV.tup [il IntKind.i64 (sharedL s t),Zi 0]) (.br ((↑(List.length (sharedL s t)):Int)==0) (.out (AV.tup [AV.agg y0,Zi 7]) [] (prvV b R n s t) []) (.sc (true) 98 ([AV.agg (Bas.cells b),AV.agg (Spend.cells s)]) (Zi (chS b s)) (.sc (true) 98 ([AV.agg (Bas.cells b),AV.agg (Spend.cells t)]) (Zi (chS b t)) (.br (chS b s==chS b t) (.out (AV.tup [AV.agg y0,Zi 20]) [] (prvV b R n s t) []) (.loop ({ x:Nat // x≤List.length (sharedL s t)∧(fun (i:Nat)=>firstI (okI b s t) (List.length (sharedL s t)) 0=firstI (okI b s t) (List.length (sharedL s t) - i) i) x }) (fun (x:{ x:Nat // x≤List.length (sharedL s t)∧(fun (i:Nat)=>firstI (okI b s t) (List.length (sharedL s t)) 0=firstI (okI b s t) (List.length (sharedL s t) - i) i) x })=>mkSt [1,4,6,7,8,14,16] [AV.isl 11 n fun (i j:Nat)=>Zi (R i j),AV.own 0 6 0 0 6,AV.own 1 80 0 0 80,AV.own 2 80 0 0 80,AV.own 3 161 0 0 161,AV.isl 1 (List.length (sharedL s t)) fun (i x:Nat)=>Zi (List.getD (sharedL s t) i (0:Int)),Zi (↑(x.1):Int)] y1) (fun (x:{ x:Nat // x≤List.length (sharedL s t)∧(fun (i:Nat)=>firstI (okI b s t) (List.length (sharedL s t)) 0=firstI (okI b s t) (List.length (sharedL s t) - i) i) x })=>List.length (sharedL s t) - x.1) (⟨0,⟨Nat.zero_le (List.length (sharedL s t)),rfl⟩⟩) ([1,4,6,7,8,14,16]) ([0,8,16,24]) ([AV.isl 11 n fun (i j:Nat)=>Zi (R i j),AV.own 0 6 0 0 6,AV.own 1 80 0 0 80,AV.own 2 80 0 0 80,AV.own 3 161 0 0 161,AV.isl 1 (List.length (sharedL s t)) fun (i x:Nat)=>Zi (List.getD (sharedL s t) i (0:Int)),Zi 0]) (y1) (fun x20=>(.br (decide ((↑x20.1:Int)<(↑(List.length (sharedL s t)):Int))) (.req ((0:Int)≤(↑x20.1:Int)∧(↑x20.1:Int)<(↑(List.length (sharedL s t)):Int)) (.sc (true) 99 ([AV.agg (Bas.cells b),AV.isl 11 n fun (i j:Nat)=>Zi (R i j),AV.agg (Spend.cells s++(Spend.cells t++[Zi (List.getD (sharedL s t) (Int.toNat (↑x20.1:Int)) (0:Int))]))]) (AV.tup [Zi (xvK b R n s t (List.getD (sharedL s t) (Int.toNat (↑x20.1:Int)) (0:Int))),AV.bool (xvB b R n s t (List.getD (sharedL s t) (Int.toNat (↑x20.1:Int)) (0:Int)))]) (.br (xvB b R n s t (List.getD (sharedL s t) (Int.toNat (↑x20.1:Int)) (0:Int))) (.out (AV.tup [AV.agg (Spend.cells s++(Spend.cells t++[Zi (List.getD (sharedL s t) (Int.toNat (↑x20.1:Int)) (0:Int))])),Zi 0]) [] (prvV b R n s t) []) (.again (Again 0 (fun (x:{ x:Nat // x≤List.length (sharedL s t)∧(fun (i:Nat)=>firstI (okI b s t) (List.length (sharedL s t)) 0=firstI (okI b s t) (List.length (sharedL s t) - i) i) x })=>mkSt [1,4,6,7,8,14,16] [AV.isl 11 n fun (i j:Nat)=>Zi (R i j),AV.own 0 6 0 0 6,AV.own 1 80 0 0 80,AV.own 2 80 0 0 80,AV.own 3 161 0 0 161,AV.isl 1 (List.length (sharedL s t)) fun (i x:Nat)=>Zi (List.getD (sharedL s t) i (0:Int)),Zi (↑(x.1):Int)] y1) (fun (x:{ x:Nat // x≤List.length (sharedL s t)∧(fun (i:Nat)=>firstI (okI b s t) (List.length (sharedL s t)) 0=firstI (okI b s t) (List.length (sharedL s t) - i) i) x })=>List.length (sharedL s t) - x.1) x20) ([1,4,6,7,8,14,16]) ([0,1,2,3]) ([AV.isl 11 n fun (i j:Nat)=>Zi (R i j),AV.own 0 6 0 0 6,AV.own 1 80 0 0 80,AV.own 2 80 0 0 80,AV.own 3 161 0 0 161,AV.isl 1 (List.length (sharedL s t)) fun (i x:Nat)=>Zi (List.getD (sharedL s t) i (0:Int)),Zi (IntKind.wrap IntKind.i64 ((↑x20.1:Int)+1))]) (y1))))) (.out (AV.tup [AV.agg y0,Zi 10]) [] (prvV b R n s t) []))))))))))))))))))))
  (by kernel_rfl) ?_
 refine k_sc (c0) ?_
 refine k_scg (fun h1=>c1) ?_
 refine k_scg (fun h2=>c1') ?_
 refine k_br (fun h3 => ?_) (fun h3 => ?_)
 ·have g3:=(cnd_or_t (cnd_or_t (cnd_not_t cnd_id_f) (cnd_not_t cnd_id_f)) (cnd_not_t cnd_id_f)) h3
  exact k_out (prv_e (prv_1 (or_assoc.1 g3)) (by decide))
 ·have g3:=(cnd_or_f (cnd_or_f (cnd_not_f cnd_id_t) (cnd_not_f cnd_id_t)) (cnd_not_f cnd_id_t)) h3
  refine k_sc (c2) ?_
  refine k_sc (c3) ?_
  refine k_br (fun h7 => ?_) (fun h7 => ?_)
  ·have g7:=(cnd_or_t (cnd_not_t cnd_dec_f) (cnd_not_t cnd_dec_f)) h7
   exact k_out (prv_e (prv_2 ⟨g3.1.1,g3.1.2,g3.2⟩ g7) (by decide))
  ·have g7:=(cnd_or_f (cnd_not_f cnd_dec_t) (cnd_not_f cnd_dec_t)) h7
   refine k_sc (c4) ?_
   refine k_scg (fun h10=>c5) ?_
   refine k_br (fun h11 => ?_) (fun h11 => ?_)
   ·have g11:=(cnd_or_t (cnd_not_t cnd_id_f) (cnd_not_t cnd_id_f)) h11
    exact k_out (prv_e (prv_3 ⟨g3.1.1,g3.1.2,g3.2⟩ g7 (vd_no g7 g11)) (by decide))
   ·have g11:=(cnd_or_f (cnd_not_f cnd_id_t) (cnd_not_f cnd_id_t)) h11
    refine k_dc (c6 (⟨g3.1.2,g3.2⟩)) ?_
    refine k_br (fun h14 => ?_) (fun h14 => ?_)
    ·have g14:=cnd_beq_t h14
     exact k_out (prv_e (prv_0s ⟨g3.1.1,g3.1.2,g3.2⟩ g7 (vd_yes g7 g11) (by omega)) (by decide))
    ·have g14:=cnd_beq_f h14
     refine k_sc (c7 ((validB_q g3.1.1).1) ((validB_q g3.1.1).2)) ?_
     refine k_sc (c8 ((validB_q g3.1.1).1) ((validB_q g3.1.1).2)) ?_
     refine k_br (fun h18 => ?_) (fun h18 => ?_)
     ·have g18:=cnd_beq_t h18
      exact k_out (prv_e (prv_sm ⟨g3.1.1,g3.1.2,g3.2⟩ g7 (vd_yes g7 g11) (by omega) g18) (by decide))
     ·have g18:=cnd_beq_f h18
      refine k_loop (fun _ hs=>hs.le (⟨.refl _,.refl _,.refl _,.refl _,.refl _,.refl _,.refl _,trivial⟩) (⟨.refl _,.refl _,.refl _,.refl _,trivial⟩)) (fun x20 => ?_)
      try (have q20:=x20.2;dsimp only at q20)
      refine k_br (fun h21 => ?_) (fun h21 => ?_)
      ·have g21:=cnd_dec_t h21
       refine k_req (by omega) ?_
       refine k_sc (c9 (List.getD (sharedL s t) (Int.toNat (↑x20.1:Int)) (0:Int)) (sh_bd g3.1.2 _)) ?_
       refine k_br (fun h24 => ?_) (fun h24 => ?_)
       ·have g24:=cnd_id_t h24
        try simp only [Int.toNat_natCast] at g24
        exact k_out (Ent.of_eq (prv_ok ⟨g3.1.1,g3.1.2,g3.2⟩ g7 (vd_yes g7 g11) (by omega) x20.2.2 (okI_xt g24)))
       ·have g24:=cnd_id_f h24
        try simp only [Int.toNat_natCast] at g24
        exact k_again (⟨x20.1+1,by omega,first_next x20.2.2 (by omega) (okI_xf (vd_yes g7 g11) g24)⟩) (fun _ hs=>hs.le (⟨.refl _,.refl _,.refl _,.refl _,.refl _,.refl _,inc_ent (by omega),trivial⟩) (⟨.refl _,.refl _,.refl _,.refl _,trivial⟩)) (by dsimp only;omega)
      ·have g21:=cnd_dec_f h21
       exact k_out (prv_e (prv_z ⟨g3.1.1,g3.1.2,g3.2⟩ g7 (vd_yes g7 g11) (by omega) g18 (by omega) x20.2.2) (by decide))
end Go.Proofs.YtolcfdcoidpieaaGreatDoor

namespace Go.Sp
open Go Go.Am
def rowsE (f g:Nat→Nat→Int) (k n:Nat):Bool:=allI (fun i=>eqF (f i) (g i) k 0) n
def lstE (n m:Nat) (f g:Nat→Nat→Int) (k:Nat):Bool:=decide (n=m)&&rowsE f g k n
theorem lstE_n {n m:Nat} {f g:Nat→Nat→Int} {k:Nat} (h:¬(n:Int)=m):lstE n m f g k=false:=by
 unfold lstE;rw [decide_eq_false (by omega)];rfl
theorem lstE_f {n m:Nat} {f g:Nat→Nat→Int} {k i:Nat} (hi:i<n) (h:eqF (f i) (g i) k 0=false):lstE n m f g k=false:=by
 unfold lstE rowsE;rw [allI_f hi h];simp
theorem lstE_t {n m:Nat} {f g:Nat→Nat→Int} {k:Nat} (h:n=m) (h2:∀ i,i<n→eqF (f i) (g i) k 0=true):lstE n m f g k=true:=by
 unfold lstE rowsE;rw [allI_t h2,decide_eq_true h];rfl
theorem sm27_n {i k:Int} {n m:Nat} {f g:Nat→Nat→Int} {w:Nat} (h:¬i=k∨¬(n:Int)=m):(i==k&&lstE n m f g w)=false:=by
 rcases h with h|h
 ·rw [beq_eq_false_iff_ne.2 h];rfl
 ·rw [lstE_n h,Bool.and_false]
theorem bnot_t {c:Bool} (h:(!c)=true):c=false:=by cases c<;>simp_all
theorem bnot_f {c:Bool} (h:(!c)=false):c=true:=by cases c<;>simp_all
def coinE (s t:Spend):Bool:=s.bank==t.bank&&(s.epoch==t.epoch&&(s.denom==t.denom&&(s.depth==t.depth&&(s.a==t.a&&(hEq s.root t.root&&((s.z==t.z&&(s.sa==t.sa&&(s.sb==t.sb&&(s.r==t.r&&true))))&&true))))))
def nodeE (s t:Spend):Bool:=s.level==t.level&&(s.index==t.index&&true)
def cxtE (s t:Spend):Bool:=hEq s.payee t.payee&&(s.time==t.time&&(s.number==t.number&&true))
def sameB (s t:Spend):Bool:=coinE s t&&nodeE s t&&cxtE s t&&lstE s.nl t.nl s.lf t.lf 3&&s.pidx==t.pidx&&lstE s.np t.np s.pf t.pf 32
def headX (s t:Spend):Bool := !coinE s t || !nodeE s t || !cxtE s t||((s.nl:Int) != (t.nl:Int)) || !(s.pidx==t.pidx&&lstE s.np t.np s.pf t.pf 32)
theorem rs_f {s t:Spend} (h:headX s t=true):sameB s t=false:=by
 unfold headX at h
 unfold sameB
 simp only [Bool.or_eq_true,Bool.not_eq_true',bne_iff_ne,ne_eq] at h
 rcases h with (((h|h)|h)|h)|h
 ·simp [h]
 ·simp [h]
 ·simp [h]
 ·rw [lstE_n h];simp
 ·simp only [Bool.and_eq_false_iff] at h
  rcases h with h|h<;>simp [h]
theorem rs_x {s t:Spend} {i:Nat} (hi:i<s.nl) (h:eqF (s.lf i) (t.lf i) 3 0=false):sameB s t=false:=by
 unfold sameB
 rw [lstE_f hi h];simp
theorem rs_n {s t:Spend} (h:headX s t=false):s.nl=t.nl:=by
 unfold headX at h
 simp only [Bool.or_eq_false_iff,bne_eq_false_iff_eq] at h
 omega
theorem rs_t {s t:Spend} (h:headX s t=false) (h2:∀ i,i<s.nl→eqF (s.lf i) (t.lf i) 3 0=true):sameB s t=true:=by
 have hn:=rs_n h
 unfold headX at h
 simp only [Bool.or_eq_false_iff,Bool.not_eq_false',Bool.and_eq_true] at h
 unfold sameB
 rw [h.1.1.1.1,h.1.1.1.2,h.1.1.2,lstE_t hn h2,h.2.1,h.2.2];rfl
end Go.Sp

namespace Go.Proofs.YtolcfdcoidpieaaGreatDoor
open Go Go.Am Go.Sp
set_option maxRecDepth 100000
theorem eqLf_c (n m:Nat) (f g:Nat→Nat→Int) (hn:n≤1000) (hm:m≤1000):Pure Tryz.prog gl0 88 [lvs n f,lvs m g] (.bool (lstE n m f g 3)):=by
 refine pure_sk (own:=ow0) Tryz.func88 (by kernel_rfl) mixed (by kernel_rfl)
  (let y0:AV:=(AV.bool (lstE n m f g 3));(.br ((↑n:Int) != (↑m:Int)) (.out (AV.bool false) [] y0 []) (.loop ({ x:Nat // x≤n∧(fun (x:Nat)=>∀ (i:Nat),i<x→eqF (f i) (g i) 3 0=true) x }) (fun (x:{ x:Nat // x≤n∧(fun (x:Nat)=>∀ (i:Nat),i<x→eqF (f i) (g i) 3 0=true) x })=>mkSt [0,1,12,13] [AV.isl 3 n fun (i j:Nat)=>Zi (f i j),AV.isl 3 m fun (i j:Nat)=>Zi (g i j),Zi (↑n:Int),Zi (↑(x.1):Int)] []) (fun (x:{ x:Nat // x≤n∧(fun (x:Nat)=>∀ (i:Nat),i<x→eqF (f i) (g i) 3 0=true) x })=>n - x.1) (⟨0,⟨Nat.zero_le n,fun (j:Nat) (hj:j<0)=>absurd hj (Nat.not_lt_zero j)⟩⟩) ([0,1,12,13]) ([]) ([AV.isl 3 n fun (i j:Nat)=>Zi (f i j),AV.isl 3 m fun (i j:Nat)=>Zi (g i j),Zi (↑n:Int),Zi 0]) ([]) (fun x2=>(.br (decide ((↑x2.1:Int)<(↑n:Int))) (.req ((0:Int)≤(↑x2.1:Int)∧(↑x2.1:Int)<(↑n:Int)) (.req ((0:Int)≤(↑x2.1:Int)∧(↑x2.1:Int)<(↑m:Int)) (.br (!(f (Int.toNat (↑x2.1:Int)) 0==g (Int.toNat (↑x2.1:Int)) 0&&(f (Int.toNat (↑x2.1:Int)) 1==g (Int.toNat (↑x2.1:Int)) 1&&(f (Int.toNat (↑x2.1:Int)) 2==g (Int.toNat (↑x2.1:Int)) 2&&true)))) (.out (AV.bool false) [] y0 []) (.again (Again 0 (fun (x:{ x:Nat // x≤n∧(fun (x:Nat)=>∀ (i:Nat),i<x→eqF (f i) (g i) 3 0=true) x })=>mkSt [0,1,12,13] [AV.isl 3 n fun (i j:Nat)=>Zi (f i j),AV.isl 3 m fun (i j:Nat)=>Zi (g i j),Zi (↑n:Int),Zi (↑(x.1):Int)] []) (fun (x:{ x:Nat // x≤n∧(fun (x:Nat)=>∀ (i:Nat),i<x→eqF (f i) (g i) 3 0=true) x })=>n - x.1) x2) ([0,1,12,13]) ([]) ([AV.isl 3 n fun (i j:Nat)=>Zi (f i j),AV.isl 3 m fun (i j:Nat)=>Zi (g i j),Zi (↑n:Int),Zi (IntKind.wrap IntKind.i64 ((↑x2.1:Int)+1))]) ([]))))) (.out (AV.bool true) [] y0 []))))))
  (by kernel_rfl) ?_
 refine k_br (fun h0=>?_) (fun h0=>?_)
 ·have g0:=cnd_bne_t h0
  exact k_out (Ent.of_eq (congrArg _ (lstE_n g0).symm))
 ·have g0:=cnd_bne_f h0
  refine k_loop (fun _ hs=>hs.le (⟨.refl _,.refl _,.refl _,.refl _,trivial⟩) (trivial)) (fun x2=>?_)
  try (have q2:=x2.2;dsimp only at q2)
  refine k_br (fun h3=>?_) (fun h3=>?_)
  ·have g3:=cnd_dec_t h3
   refine k_req (by omega) ?_
   refine k_req (by omega) ?_
   refine k_br (fun h6=>?_) (fun h6=>?_)
   ·have g6:=(cnd_not_t (cnd_and_f cnd_beq_f (cnd_and_f cnd_beq_f (cnd_and_f cnd_beq_f cnd_id_f)))) h6
    try simp only [Int.toNat_natCast] at g6
    exact k_out (Ent.of_eq (congrArg _ (lstE_f (i:=x2.1) (by omega) (bnot_t (c:=eqF (f x2.1) (g x2.1) 3 0) h6)).symm))
   ·have g6:=(cnd_not_f (cnd_and_t cnd_beq_t (cnd_and_t cnd_beq_t (cnd_and_t cnd_beq_t cnd_id_t)))) h6
    try simp only [Int.toNat_natCast] at g6
    exact k_again (⟨x2.1+1,by omega,fun i hi=>by rcases Nat.lt_succ_iff_lt_or_eq.1 hi with hi|rfl;(· exact x2.2.2 i hi);(· exact bnot_f h6)⟩) (fun _ hs=>hs.le (⟨.refl _,.refl _,.refl _,inc_ent (by omega),trivial⟩) (trivial)) (by dsimp only;omega)
  ·have g3:=cnd_dec_f h3
   exact k_out (Ent.of_eq (congrArg _ (lstE_t (by omega) (fun i hi=>x2.2.2 i (by omega))).symm))
theorem eqHs_c (n m:Nat) (f g:Nat→Nat→Int) (hn:n≤1000) (hm:m≤1000):Pure Tryz.prog gl0 89 [hss n f,hss m g] (.bool (lstE n m f g 32)):=by
 refine pure_sk (own:=ow0) Tryz.func89 (by kernel_rfl) mixed (by kernel_rfl)
  (let y0:AV:=(AV.bool (lstE n m f g 32));(.br ((↑n:Int) != (↑m:Int)) (.out (AV.bool false) [] y0 []) (.loop ({ x:Nat // x≤n∧(fun (x:Nat)=>∀ (i:Nat),i<x→eqF (f i) (g i) 32 0=true) x }) (fun (x:{ x:Nat // x≤n∧(fun (x:Nat)=>∀ (i:Nat),i<x→eqF (f i) (g i) 32 0=true) x })=>mkSt [0,1,12,13] [AV.isl 32 n fun (i j:Nat)=>Zb (f i j),AV.isl 32 m fun (i j:Nat)=>Zb (g i j),Zi (↑n:Int),Zi (↑(x.1):Int)] []) (fun (x:{ x:Nat // x≤n∧(fun (x:Nat)=>∀ (i:Nat),i<x→eqF (f i) (g i) 32 0=true) x })=>n - x.1) (⟨0,⟨Nat.zero_le n,fun (j:Nat) (hj:j<0)=>absurd hj (Nat.not_lt_zero j)⟩⟩) ([0,1,12,13]) ([]) ([AV.isl 32 n fun (i j:Nat)=>Zb (f i j),AV.isl 32 m fun (i j:Nat)=>Zb (g i j),Zi (↑n:Int),Zi 0]) ([]) (fun x2=>(.br (decide ((↑x2.1:Int)<(↑n:Int))) (.req ((0:Int)≤(↑x2.1:Int)∧(↑x2.1:Int)<(↑n:Int)) (.req ((0:Int)≤(↑x2.1:Int)∧(↑x2.1:Int)<(↑m:Int)) (.br (!(f (Int.toNat (↑x2.1:Int)) 0==g (Int.toNat (↑x2.1:Int)) 0&&(f (Int.toNat (↑x2.1:Int)) 1==g (Int.toNat (↑x2.1:Int)) 1&&(f (Int.toNat (↑x2.1:Int)) 2==g (Int.toNat (↑x2.1:Int)) 2&&(f (Int.toNat (↑x2.1:Int)) 3==g (Int.toNat (↑x2.1:Int)) 3&&(f (Int.toNat (↑x2.1:Int)) 4==g (Int.toNat (↑x2.1:Int)) 4&&(f (Int.toNat (↑x2.1:Int)) 5==g (Int.toNat (↑x2.1:Int)) 5&&(f (Int.toNat (↑x2.1:Int)) 6==g (Int.toNat (↑x2.1:Int)) 6&&(f (Int.toNat (↑x2.1:Int)) 7==g (Int.toNat (↑x2.1:Int)) 7&&(f (Int.toNat (↑x2.1:Int)) 8==g (Int.toNat (↑x2.1:Int)) 8&&(f (Int.toNat (↑x2.1:Int)) 9==g (Int.toNat (↑x2.1:Int)) 9&&(f (Int.toNat (↑x2.1:Int)) 10==g (Int.toNat (↑x2.1:Int)) 10&&(f (Int.toNat (↑x2.1:Int)) 11==g (Int.toNat (↑x2.1:Int)) 11&&(f (Int.toNat (↑x2.1:Int)) 12==g (Int.toNat (↑x2.1:Int)) 12&&(f (Int.toNat (↑x2.1:Int)) 13==g (Int.toNat (↑x2.1:Int)) 13&&(f (Int.toNat (↑x2.1:Int)) 14==g (Int.toNat (↑x2.1:Int)) 14&&(f (Int.toNat (↑x2.1:Int)) 15==g (Int.toNat (↑x2.1:Int)) 15&&(f (Int.toNat (↑x2.1:Int)) 16==g (Int.toNat (↑x2.1:Int)) 16&&(f (Int.toNat (↑x2.1:Int)) 17==g (Int.toNat (↑x2.1:Int)) 17&&(f (Int.toNat (↑x2.1:Int)) 18==g (Int.toNat (↑x2.1:Int)) 18&&(f (Int.toNat (↑x2.1:Int)) 19==g (Int.toNat (↑x2.1:Int)) 19&&(f (Int.toNat (↑x2.1:Int)) 20==g (Int.toNat (↑x2.1:Int)) 20&&(f (Int.toNat (↑x2.1:Int)) 21==g (Int.toNat (↑x2.1:Int)) 21&&(f (Int.toNat (↑x2.1:Int)) 22==g (Int.toNat (↑x2.1:Int)) 22&&(f (Int.toNat (↑x2.1:Int)) 23==g (Int.toNat (↑x2.1:Int)) 23&&(f (Int.toNat (↑x2.1:Int)) 24==g (Int.toNat (↑x2.1:Int)) 24&&(f (Int.toNat (↑x2.1:Int)) 25==g (Int.toNat (↑x2.1:Int)) 25&&(f (Int.toNat (↑x2.1:Int)) 26==g (Int.toNat (↑x2.1:Int)) 26&&(f (Int.toNat (↑x2.1:Int)) 27==g (Int.toNat (↑x2.1:Int)) 27&&(f (Int.toNat (↑x2.1:Int)) 28==g (Int.toNat (↑x2.1:Int)) 28&&(f (Int.toNat (↑x2.1:Int)) 29==g (Int.toNat (↑x2.1:Int)) 29&&(f (Int.toNat (↑x2.1:Int)) 30==g (Int.toNat (↑x2.1:Int)) 30&&(f (Int.toNat (↑x2.1:Int)) 31==g (Int.toNat (↑x2.1:Int)) 31&&true))))))))))))))))))))))))))))))))) (.out (AV.bool false) [] y0 []) (.again (Again 0 (fun (x:{ x:Nat // x≤n∧(fun (x:Nat)=>∀ (i:Nat),i<x→eqF (f i) (g i) 32 0=true) x })=>mkSt [0,1,12,13] [AV.isl 32 n fun (i j:Nat)=>Zb (f i j),AV.isl 32 m fun (i j:Nat)=>Zb (g i j),Zi (↑n:Int),Zi (↑(x.1):Int)] []) (fun (x:{ x:Nat // x≤n∧(fun (x:Nat)=>∀ (i:Nat),i<x→eqF (f i) (g i) 32 0=true) x })=>n - x.1) x2) ([0,1,12,13]) ([]) ([AV.isl 32 n fun (i j:Nat)=>Zb (f i j),AV.isl 32 m fun (i j:Nat)=>Zb (g i j),Zi (↑n:Int),Zi (IntKind.wrap IntKind.i64 ((↑x2.1:Int)+1))]) ([]))))) (.out (AV.bool true) [] y0 []))))))
  (by kernel_rfl) ?_
 refine k_br (fun h0=>?_) (fun h0=>?_)
 ·have g0:=cnd_bne_t h0
  exact k_out (Ent.of_eq (congrArg _ (lstE_n g0).symm))
 ·have g0:=cnd_bne_f h0
  refine k_loop (fun _ hs=>hs.le (⟨.refl _,.refl _,.refl _,.refl _,trivial⟩) (trivial)) (fun x2=>?_)
  try (have q2:=x2.2;dsimp only at q2)
  refine k_br (fun h3=>?_) (fun h3=>?_)
  ·have g3:=cnd_dec_t h3
   refine k_req (by omega) ?_
   refine k_req (by omega) ?_
   refine k_br (fun h6=>?_) (fun h6=>?_)
   ·have g6:=(cnd_not_t (cnd_and_f cnd_beq_f (cnd_and_f cnd_beq_f (cnd_and_f cnd_beq_f (cnd_and_f cnd_beq_f (cnd_and_f cnd_beq_f (cnd_and_f cnd_beq_f (cnd_and_f cnd_beq_f (cnd_and_f cnd_beq_f (cnd_and_f cnd_beq_f (cnd_and_f cnd_beq_f (cnd_and_f cnd_beq_f (cnd_and_f cnd_beq_f (cnd_and_f cnd_beq_f (cnd_and_f cnd_beq_f (cnd_and_f cnd_beq_f (cnd_and_f cnd_beq_f (cnd_and_f cnd_beq_f (cnd_and_f cnd_beq_f (cnd_and_f cnd_beq_f (cnd_and_f cnd_beq_f (cnd_and_f cnd_beq_f (cnd_and_f cnd_beq_f (cnd_and_f cnd_beq_f (cnd_and_f cnd_beq_f (cnd_and_f cnd_beq_f (cnd_and_f cnd_beq_f (cnd_and_f cnd_beq_f (cnd_and_f cnd_beq_f (cnd_and_f cnd_beq_f (cnd_and_f cnd_beq_f (cnd_and_f cnd_beq_f (cnd_and_f cnd_beq_f cnd_id_f))))))))))))))))))))))))))))))))) h6
    try simp only [Int.toNat_natCast] at g6
    exact k_out (Ent.of_eq (congrArg _ (lstE_f (i:=x2.1) (by omega) (bnot_t ((congrArg not (by kernel_rfl)).trans h6))).symm))
   ·have g6:=(cnd_not_f (cnd_and_t cnd_beq_t (cnd_and_t cnd_beq_t (cnd_and_t cnd_beq_t (cnd_and_t cnd_beq_t (cnd_and_t cnd_beq_t (cnd_and_t cnd_beq_t (cnd_and_t cnd_beq_t (cnd_and_t cnd_beq_t (cnd_and_t cnd_beq_t (cnd_and_t cnd_beq_t (cnd_and_t cnd_beq_t (cnd_and_t cnd_beq_t (cnd_and_t cnd_beq_t (cnd_and_t cnd_beq_t (cnd_and_t cnd_beq_t (cnd_and_t cnd_beq_t (cnd_and_t cnd_beq_t (cnd_and_t cnd_beq_t (cnd_and_t cnd_beq_t (cnd_and_t cnd_beq_t (cnd_and_t cnd_beq_t (cnd_and_t cnd_beq_t (cnd_and_t cnd_beq_t (cnd_and_t cnd_beq_t (cnd_and_t cnd_beq_t (cnd_and_t cnd_beq_t (cnd_and_t cnd_beq_t (cnd_and_t cnd_beq_t (cnd_and_t cnd_beq_t (cnd_and_t cnd_beq_t (cnd_and_t cnd_beq_t (cnd_and_t cnd_beq_t cnd_id_t))))))))))))))))))))))))))))))))) h6
    try simp only [Int.toNat_natCast] at g6
    exact k_again (⟨x2.1+1,by omega,fun i hi=>by rcases Nat.lt_succ_iff_lt_or_eq.1 hi with hi|rfl;(· exact x2.2.2 i hi);(· exact bnot_f ((congrArg not (by kernel_rfl)).trans h6))⟩) (fun _ hs=>hs.le (⟨.refl _,.refl _,.refl _,inc_ent (by omega),trivial⟩) (trivial)) (by dsimp only;omega)
  ·have g3:=cnd_dec_f h3
   exact k_out (Ent.of_eq (congrArg _ (lstE_t (by omega) (fun i hi=>x2.2.2 i (by omega))).symm))
theorem rsm27_c (i k:Int) (n m:Nat) (f g:Nat→Nat→Int) (hn:n≤1000) (hm:m≤1000):Pure Tryz.prog gl0 96 [.agg [.int .i64 i,hss n f],.agg [.int .i64 k,hss m g]] (.bool (i==k&&lstE n m f g 32)):=by
 refine pure_sk (own:=ow0) Tryz.func96 (by kernel_rfl) mixed (by kernel_rfl)
  (let y0:List AV:=[Zi k,AV.isl 32 m fun (i j:Nat)=>Zb (g i j)];(.br (i != k||(↑n:Int) != (↑m:Int)) (.out (AV.bool false) [] (AV.bool (i==k&&lstE n m f g 32)) []) (.loop ({ x:Nat // x≤n∧(fun (x:Nat)=>∀ (i:Nat),i<x→eqF (f i) (g i) 32 0=true) x }) (fun (x:{ x:Nat // x≤n∧(fun (x:Nat)=>∀ (i:Nat),i<x→eqF (f i) (g i) 32 0=true) x })=>mkSt [2,3,5] [AV.own 0 2 0 0 2,AV.own 1 2 0 0 2,Zi (↑(x.1):Int)] [some ⟨2,1,true,Rep.lst [[Zi i,AV.isl 32 n fun (i j:Nat)=>Zb (f i j)]]⟩,some ⟨2,1,true,Rep.lst [y0]⟩]) (fun (x:{ x:Nat // x≤n∧(fun (x:Nat)=>∀ (i:Nat),i<x→eqF (f i) (g i) 32 0=true) x })=>n - x.1) (⟨0,⟨Nat.zero_le n,fun (j:Nat) (hj:j<0)=>absurd hj (Nat.not_lt_zero j)⟩⟩) ([2,3,5]) ([0,8]) ([AV.own 0 2 0 0 2,AV.own 1 2 0 0 2,Zi 0]) ([some ⟨2,1,true,Rep.lst [[Zi i,AV.isl 32 n fun (i j:Nat)=>Zb (f i j)]]⟩,some ⟨2,1,true,Rep.lst [y0]⟩]) (fun x2=>(.br (decide ((↑x2.1:Int)<(↑n:Int))) (.req ((0:Int)≤(↑x2.1:Int)∧(↑x2.1:Int)<(↑n:Int)) (.req ((0:Int)≤(↑x2.1:Int)∧(↑x2.1:Int)<(↑m:Int)) (.br (!(f (Int.toNat (↑x2.1:Int)) 0==g (Int.toNat (↑x2.1:Int)) 0&&(f (Int.toNat (↑x2.1:Int)) 1==g (Int.toNat (↑x2.1:Int)) 1&&(f (Int.toNat (↑x2.1:Int)) 2==g (Int.toNat (↑x2.1:Int)) 2&&(f (Int.toNat (↑x2.1:Int)) 3==g (Int.toNat (↑x2.1:Int)) 3&&(f (Int.toNat (↑x2.1:Int)) 4==g (Int.toNat (↑x2.1:Int)) 4&&(f (Int.toNat (↑x2.1:Int)) 5==g (Int.toNat (↑x2.1:Int)) 5&&(f (Int.toNat (↑x2.1:Int)) 6==g (Int.toNat (↑x2.1:Int)) 6&&(f (Int.toNat (↑x2.1:Int)) 7==g (Int.toNat (↑x2.1:Int)) 7&&(f (Int.toNat (↑x2.1:Int)) 8==g (Int.toNat (↑x2.1:Int)) 8&&(f (Int.toNat (↑x2.1:Int)) 9==g (Int.toNat (↑x2.1:Int)) 9&&(f (Int.toNat (↑x2.1:Int)) 10==g (Int.toNat (↑x2.1:Int)) 10&&(f (Int.toNat (↑x2.1:Int)) 11==g (Int.toNat (↑x2.1:Int)) 11&&(f (Int.toNat (↑x2.1:Int)) 12==g (Int.toNat (↑x2.1:Int)) 12&&(f (Int.toNat (↑x2.1:Int)) 13==g (Int.toNat (↑x2.1:Int)) 13&&(f (Int.toNat (↑x2.1:Int)) 14==g (Int.toNat (↑x2.1:Int)) 14&&(f (Int.toNat (↑x2.1:Int)) 15==g (Int.toNat (↑x2.1:Int)) 15&&(f (Int.toNat (↑x2.1:Int)) 16==g (Int.toNat (↑x2.1:Int)) 16&&(f (Int.toNat (↑x2.1:Int)) 17==g (Int.toNat (↑x2.1:Int)) 17&&(f (Int.toNat (↑x2.1:Int)) 18==g (Int.toNat (↑x2.1:Int)) 18&&(f (Int.toNat (↑x2.1:Int)) 19==g (Int.toNat (↑x2.1:Int)) 19&&(f (Int.toNat (↑x2.1:Int)) 20==g (Int.toNat (↑x2.1:Int)) 20&&(f (Int.toNat (↑x2.1:Int)) 21==g (Int.toNat (↑x2.1:Int)) 21&&(f (Int.toNat (↑x2.1:Int)) 22==g (Int.toNat (↑x2.1:Int)) 22&&(f (Int.toNat (↑x2.1:Int)) 23==g (Int.toNat (↑x2.1:Int)) 23&&(f (Int.toNat (↑x2.1:Int)) 24==g (Int.toNat (↑x2.1:Int)) 24&&(f (Int.toNat (↑x2.1:Int)) 25==g (Int.toNat (↑x2.1:Int)) 25&&(f (Int.toNat (↑x2.1:Int)) 26==g (Int.toNat (↑x2.1:Int)) 26&&(f (Int.toNat (↑x2.1:Int)) 27==g (Int.toNat (↑x2.1:Int)) 27&&(f (Int.toNat (↑x2.1:Int)) 28==g (Int.toNat (↑x2.1:Int)) 28&&(f (Int.toNat (↑x2.1:Int)) 29==g (Int.toNat (↑x2.1:Int)) 29&&(f (Int.toNat (↑x2.1:Int)) 30==g (Int.toNat (↑x2.1:Int)) 30&&(f (Int.toNat (↑x2.1:Int)) 31==g (Int.toNat (↑x2.1:Int)) 31&&true))))))))))))))))))))))))))))))))) (.out (AV.bool false) [] (AV.bool (i==k&&lstE n m f g 32)) []) (.again (Again 0 (fun (x:{ x:Nat // x≤n∧(fun (x:Nat)=>∀ (i:Nat),i<x→eqF (f i) (g i) 32 0=true) x })=>mkSt [2,3,5] [AV.own 0 2 0 0 2,AV.own 1 2 0 0 2,Zi (↑(x.1):Int)] [some ⟨2,1,true,Rep.lst [[Zi i,AV.isl 32 n fun (i j:Nat)=>Zb (f i j)]]⟩,some ⟨2,1,true,Rep.lst [y0]⟩]) (fun (x:{ x:Nat // x≤n∧(fun (x:Nat)=>∀ (i:Nat),i<x→eqF (f i) (g i) 32 0=true) x })=>n - x.1) x2) ([2,3,5]) ([0,1]) ([AV.own 0 2 0 0 2,AV.own 1 2 0 0 2,Zi (IntKind.wrap IntKind.i64 ((↑x2.1:Int)+1))]) ([some ⟨2,1,true,Rep.lst [[Zi i,AV.isl 32 n fun (i j:Nat)=>Zb (f i j)]]⟩,some ⟨2,1,true,Rep.lst [y0]⟩]))))) (.out (AV.bool true) [] (AV.bool (i==k&&lstE n m f g 32)) []))))))
  (by kernel_rfl) ?_
 refine k_br (fun h0=>?_) (fun h0=>?_)
 ·have g0:=(cnd_or_t cnd_bne_t cnd_bne_t) h0
  exact k_out (Ent.of_eq (congrArg _ (sm27_n g0).symm))
 ·have g0:=(cnd_or_f cnd_bne_f cnd_bne_f) h0
  refine k_loop (fun _ hs=>hs.le (⟨.refl _,.refl _,.refl _,trivial⟩) (⟨.refl _,.refl _,trivial⟩)) (fun x2=>?_)
  try (have q2:=x2.2;dsimp only at q2)
  refine k_br (fun h3=>?_) (fun h3=>?_)
  ·have g3:=cnd_dec_t h3
   refine k_req (by omega) ?_
   refine k_req (by omega) ?_
   refine k_br (fun h6=>?_) (fun h6=>?_)
   ·have g6:=(cnd_not_t (cnd_and_f cnd_beq_f (cnd_and_f cnd_beq_f (cnd_and_f cnd_beq_f (cnd_and_f cnd_beq_f (cnd_and_f cnd_beq_f (cnd_and_f cnd_beq_f (cnd_and_f cnd_beq_f (cnd_and_f cnd_beq_f (cnd_and_f cnd_beq_f (cnd_and_f cnd_beq_f (cnd_and_f cnd_beq_f (cnd_and_f cnd_beq_f (cnd_and_f cnd_beq_f (cnd_and_f cnd_beq_f (cnd_and_f cnd_beq_f (cnd_and_f cnd_beq_f (cnd_and_f cnd_beq_f (cnd_and_f cnd_beq_f (cnd_and_f cnd_beq_f (cnd_and_f cnd_beq_f (cnd_and_f cnd_beq_f (cnd_and_f cnd_beq_f (cnd_and_f cnd_beq_f (cnd_and_f cnd_beq_f (cnd_and_f cnd_beq_f (cnd_and_f cnd_beq_f (cnd_and_f cnd_beq_f (cnd_and_f cnd_beq_f (cnd_and_f cnd_beq_f (cnd_and_f cnd_beq_f (cnd_and_f cnd_beq_f (cnd_and_f cnd_beq_f cnd_id_f))))))))))))))))))))))))))))))))) h6
    try simp only [Int.toNat_natCast] at g6
    exact k_out (Ent.of_eq (congrArg _ (by rw [lstE_f (i:=x2.1) (by omega) (bnot_t ((congrArg not (by kernel_rfl)).trans h6)),Bool.and_false])))
   ·have g6:=(cnd_not_f (cnd_and_t cnd_beq_t (cnd_and_t cnd_beq_t (cnd_and_t cnd_beq_t (cnd_and_t cnd_beq_t (cnd_and_t cnd_beq_t (cnd_and_t cnd_beq_t (cnd_and_t cnd_beq_t (cnd_and_t cnd_beq_t (cnd_and_t cnd_beq_t (cnd_and_t cnd_beq_t (cnd_and_t cnd_beq_t (cnd_and_t cnd_beq_t (cnd_and_t cnd_beq_t (cnd_and_t cnd_beq_t (cnd_and_t cnd_beq_t (cnd_and_t cnd_beq_t (cnd_and_t cnd_beq_t (cnd_and_t cnd_beq_t (cnd_and_t cnd_beq_t (cnd_and_t cnd_beq_t (cnd_and_t cnd_beq_t (cnd_and_t cnd_beq_t (cnd_and_t cnd_beq_t (cnd_and_t cnd_beq_t (cnd_and_t cnd_beq_t (cnd_and_t cnd_beq_t (cnd_and_t cnd_beq_t (cnd_and_t cnd_beq_t (cnd_and_t cnd_beq_t (cnd_and_t cnd_beq_t (cnd_and_t cnd_beq_t (cnd_and_t cnd_beq_t cnd_id_t))))))))))))))))))))))))))))))))) h6
    try simp only [Int.toNat_natCast] at g6
    exact k_again (⟨x2.1+1,by omega,fun i hi=>by rcases Nat.lt_succ_iff_lt_or_eq.1 hi with hi|rfl;(· exact x2.2.2 i hi);(· exact bnot_f ((congrArg not (by kernel_rfl)).trans h6))⟩) (fun _ hs=>hs.le (⟨.refl _,.refl _,inc_ent (by omega),trivial⟩) (⟨.refl _,.refl _,trivial⟩)) (by dsimp only;omega)
  ·have g3:=cnd_dec_f h3
   exact k_out (Ent.of_eq (congrArg _ (by rw [lstE_t (by omega) (fun i hi=>x2.2.2 i (by omega)),g0.1];simp)))
theorem csame_c (s t:Spend) (hs:s.nl≤1000∧s.np≤1000) (ht:t.nl≤1000∧t.np≤1000):Pure Tryz.prog gl0 44 [s.av,t.av] (.bool (sameB s t)):=by
 have c1:=eqLf_c s.nl t.nl s.lf t.lf hs.1 ht.1
 have c2:=eqHs_c s.np t.np s.pf t.pf hs.2 ht.2
 refine pure_sk (own:=ow0) Tryz.func44 (by kernel_rfl) mixed (by kernel_rfl)
  (.sc ((s.1==t.1&&(s.2==t.2&&(s.3==t.3&&(s.4==t.4&&(s.5==t.5&&(s.6 0==t.6 0&&(s.6 1==t.6 1&&(s.6 2==t.6 2&&(s.6 3==t.6 3&&(s.6 4==t.6 4&&(s.6 5==t.6 5&&(s.6 6==t.6 6&&(s.6 7==t.6 7&&(s.6 8==t.6 8&&(s.6 9==t.6 9&&(s.6 10==t.6 10&&(s.6 11==t.6 11&&(s.6 12==t.6 12&&(s.6 13==t.6 13&&(s.6 14==t.6 14&&(s.6 15==t.6 15&&(s.6 16==t.6 16&&(s.6 17==t.6 17&&(s.6 18==t.6 18&&(s.6 19==t.6 19&&(s.6 20==t.6 20&&(s.6 21==t.6 21&&(s.6 22==t.6 22&&(s.6 23==t.6 23&&(s.6 24==t.6 24&&(s.6 25==t.6 25&&(s.6 26==t.6 26&&(s.6 27==t.6 27&&(s.6 28==t.6 28&&(s.6 29==t.6 29&&(s.6 30==t.6 30&&(s.6 31==t.6 31&&true)))))))))))))))))))))))))))))))&&(s.7==t.7&&(s.8==t.8&&(s.9==t.9&&(s.10==t.10&&true)))&&true))))))&&(s.11==t.11&&(s.12==t.12&&true))&&(s.13 0==t.13 0&&(s.13 1==t.13 1&&(s.13 2==t.13 2&&(s.13 3==t.13 3&&(s.13 4==t.13 4&&(s.13 5==t.13 5&&(s.13 6==t.13 6&&(s.13 7==t.13 7&&(s.13 8==t.13 8&&(s.13 9==t.13 9&&(s.13 10==t.13 10&&(s.13 11==t.13 11&&(s.13 12==t.13 12&&(s.13 13==t.13 13&&(s.13 14==t.13 14&&(s.13 15==t.13 15&&(s.13 16==t.13 16&&(s.13 17==t.13 17&&(s.13 18==t.13 18&&(s.13 19==t.13 19&&(s.13 20==t.13 20&&(s.13 21==t.13 21&&(s.13 22==t.13 22&&(s.13 23==t.13 23&&(s.13 24==t.13 24&&(s.13 25==t.13 25&&(s.13 26==t.13 26&&(s.13 27==t.13 27&&(s.13 28==t.13 28&&(s.13 29==t.13 29&&(s.13 30==t.13 30&&(s.13 31==t.13 31&&true)))))))))))))))))))))))))))))))&&(s.14==t.14&&(s.15==t.15&&true))))==true) 88 ([AV.isl 3 s.16 fun (i j:Nat)=>Zi (s.17 i j),AV.isl 3 t.16 fun (i j:Nat)=>Zi (t.17 i j)]) (AV.bool (lstE (Spend.nl s) (Spend.nl t) (Spend.lf s) (Spend.lf t) 3)) (.sc ((s.1==t.1&&(s.2==t.2&&(s.3==t.3&&(s.4==t.4&&(s.5==t.5&&(s.6 0==t.6 0&&(s.6 1==t.6 1&&(s.6 2==t.6 2&&(s.6 3==t.6 3&&(s.6 4==t.6 4&&(s.6 5==t.6 5&&(s.6 6==t.6 6&&(s.6 7==t.6 7&&(s.6 8==t.6 8&&(s.6 9==t.6 9&&(s.6 10==t.6 10&&(s.6 11==t.6 11&&(s.6 12==t.6 12&&(s.6 13==t.6 13&&(s.6 14==t.6 14&&(s.6 15==t.6 15&&(s.6 16==t.6 16&&(s.6 17==t.6 17&&(s.6 18==t.6 18&&(s.6 19==t.6 19&&(s.6 20==t.6 20&&(s.6 21==t.6 21&&(s.6 22==t.6 22&&(s.6 23==t.6 23&&(s.6 24==t.6 24&&(s.6 25==t.6 25&&(s.6 26==t.6 26&&(s.6 27==t.6 27&&(s.6 28==t.6 28&&(s.6 29==t.6 29&&(s.6 30==t.6 30&&(s.6 31==t.6 31&&true)))))))))))))))))))))))))))))))&&(s.7==t.7&&(s.8==t.8&&(s.9==t.9&&(s.10==t.10&&true)))&&true))))))&&(s.11==t.11&&(s.12==t.12&&true))&&(s.13 0==t.13 0&&(s.13 1==t.13 1&&(s.13 2==t.13 2&&(s.13 3==t.13 3&&(s.13 4==t.13 4&&(s.13 5==t.13 5&&(s.13 6==t.13 6&&(s.13 7==t.13 7&&(s.13 8==t.13 8&&(s.13 9==t.13 9&&(s.13 10==t.13 10&&(s.13 11==t.13 11&&(s.13 12==t.13 12&&(s.13 13==t.13 13&&(s.13 14==t.13 14&&(s.13 15==t.13 15&&(s.13 16==t.13 16&&(s.13 17==t.13 17&&(s.13 18==t.13 18&&(s.13 19==t.13 19&&(s.13 20==t.13 20&&(s.13 21==t.13 21&&(s.13 22==t.13 22&&(s.13 23==t.13 23&&(s.13 24==t.13 24&&(s.13 25==t.13 25&&(s.13 26==t.13 26&&(s.13 27==t.13 27&&(s.13 28==t.13 28&&(s.13 29==t.13 29&&(s.13 30==t.13 30&&(s.13 31==t.13 31&&true)))))))))))))))))))))))))))))))&&(s.14==t.14&&(s.15==t.15&&true)))&&lstE s.16 t.16 s.17 t.17 3&&s.18==t.18)==true) 89 ([AV.isl 32 s.19 fun (i j:Nat)=>Zb (s.20 i j),AV.isl 32 t.19 fun (i j:Nat)=>Zb (t.20 i j)]) (AV.bool (lstE (Spend.np s) (Spend.np t) (Spend.pf s) (Spend.pf t) 32)) (.out (AV.bool (s.1==t.1&&(s.2==t.2&&(s.3==t.3&&(s.4==t.4&&(s.5==t.5&&(s.6 0==t.6 0&&(s.6 1==t.6 1&&(s.6 2==t.6 2&&(s.6 3==t.6 3&&(s.6 4==t.6 4&&(s.6 5==t.6 5&&(s.6 6==t.6 6&&(s.6 7==t.6 7&&(s.6 8==t.6 8&&(s.6 9==t.6 9&&(s.6 10==t.6 10&&(s.6 11==t.6 11&&(s.6 12==t.6 12&&(s.6 13==t.6 13&&(s.6 14==t.6 14&&(s.6 15==t.6 15&&(s.6 16==t.6 16&&(s.6 17==t.6 17&&(s.6 18==t.6 18&&(s.6 19==t.6 19&&(s.6 20==t.6 20&&(s.6 21==t.6 21&&(s.6 22==t.6 22&&(s.6 23==t.6 23&&(s.6 24==t.6 24&&(s.6 25==t.6 25&&(s.6 26==t.6 26&&(s.6 27==t.6 27&&(s.6 28==t.6 28&&(s.6 29==t.6 29&&(s.6 30==t.6 30&&(s.6 31==t.6 31&&true)))))))))))))))))))))))))))))))&&(s.7==t.7&&(s.8==t.8&&(s.9==t.9&&(s.10==t.10&&true)))&&true))))))&&(s.11==t.11&&(s.12==t.12&&true))&&(s.13 0==t.13 0&&(s.13 1==t.13 1&&(s.13 2==t.13 2&&(s.13 3==t.13 3&&(s.13 4==t.13 4&&(s.13 5==t.13 5&&(s.13 6==t.13 6&&(s.13 7==t.13 7&&(s.13 8==t.13 8&&(s.13 9==t.13 9&&(s.13 10==t.13 10&&(s.13 11==t.13 11&&(s.13 12==t.13 12&&(s.13 13==t.13 13&&(s.13 14==t.13 14&&(s.13 15==t.13 15&&(s.13 16==t.13 16&&(s.13 17==t.13 17&&(s.13 18==t.13 18&&(s.13 19==t.13 19&&(s.13 20==t.13 20&&(s.13 21==t.13 21&&(s.13 22==t.13 22&&(s.13 23==t.13 23&&(s.13 24==t.13 24&&(s.13 25==t.13 25&&(s.13 26==t.13 26&&(s.13 27==t.13 27&&(s.13 28==t.13 28&&(s.13 29==t.13 29&&(s.13 30==t.13 30&&(s.13 31==t.13 31&&true)))))))))))))))))))))))))))))))&&(s.14==t.14&&(s.15==t.15&&true)))&&lstE s.16 t.16 s.17 t.17 3&&s.18==t.18&&lstE s.19 t.19 s.20 t.20 32)) [] (AV.bool (sameB s t)) [])))
  (by kernel_rfl) ?_
 refine k_scg (fun h0=>c1) ?_
 refine k_scg (fun h1=>c2) ?_
 exact k_out (Ent.refl _)
theorem rsame_c (s t:Spend) (hs:s.nl≤1000∧s.np≤1000) (ht:t.nl≤1000∧t.np≤1000):Pure Tryz.prog gl0 47 [s.av,t.av] (.bool (sameB s t)):=by
 have c1:=rsm27_c s.pidx t.pidx s.np t.np s.pf t.pf hs.2 ht.2
 refine pure_sk (own:=ow0) Tryz.func47 (by kernel_rfl) mixed (by kernel_rfl)
  (let y0:List (Option Ob):=[some ⟨80,1,true,Rep.lst [Spend.cells s]⟩,some ⟨80,1,true,Rep.lst [Spend.cells t]⟩];let y1:AV:=(AV.bool (sameB s t));(.sc ((!(s.1==t.1&&(s.2==t.2&&(s.3==t.3&&(s.4==t.4&&(s.5==t.5&&(s.6 0==t.6 0&&(s.6 1==t.6 1&&(s.6 2==t.6 2&&(s.6 3==t.6 3&&(s.6 4==t.6 4&&(s.6 5==t.6 5&&(s.6 6==t.6 6&&(s.6 7==t.6 7&&(s.6 8==t.6 8&&(s.6 9==t.6 9&&(s.6 10==t.6 10&&(s.6 11==t.6 11&&(s.6 12==t.6 12&&(s.6 13==t.6 13&&(s.6 14==t.6 14&&(s.6 15==t.6 15&&(s.6 16==t.6 16&&(s.6 17==t.6 17&&(s.6 18==t.6 18&&(s.6 19==t.6 19&&(s.6 20==t.6 20&&(s.6 21==t.6 21&&(s.6 22==t.6 22&&(s.6 23==t.6 23&&(s.6 24==t.6 24&&(s.6 25==t.6 25&&(s.6 26==t.6 26&&(s.6 27==t.6 27&&(s.6 28==t.6 28&&(s.6 29==t.6 29&&(s.6 30==t.6 30&&(s.6 31==t.6 31&&true)))))))))))))))))))))))))))))))&&(s.7==t.7&&(s.8==t.8&&(s.9==t.9&&(s.10==t.10&&true)))&&true))))))) || !(s.11==t.11&&(s.12==t.12&&true)) || !(s.13 0==t.13 0&&(s.13 1==t.13 1&&(s.13 2==t.13 2&&(s.13 3==t.13 3&&(s.13 4==t.13 4&&(s.13 5==t.13 5&&(s.13 6==t.13 6&&(s.13 7==t.13 7&&(s.13 8==t.13 8&&(s.13 9==t.13 9&&(s.13 10==t.13 10&&(s.13 11==t.13 11&&(s.13 12==t.13 12&&(s.13 13==t.13 13&&(s.13 14==t.13 14&&(s.13 15==t.13 15&&(s.13 16==t.13 16&&(s.13 17==t.13 17&&(s.13 18==t.13 18&&(s.13 19==t.13 19&&(s.13 20==t.13 20&&(s.13 21==t.13 21&&(s.13 22==t.13 22&&(s.13 23==t.13 23&&(s.13 24==t.13 24&&(s.13 25==t.13 25&&(s.13 26==t.13 26&&(s.13 27==t.13 27&&(s.13 28==t.13 28&&(s.13 29==t.13 29&&(s.13 30==t.13 30&&(s.13 31==t.13 31&&true)))))))))))))))))))))))))))))))&&(s.14==t.14&&(s.15==t.15&&true)))||(↑s.16:Int) != (↑t.16:Int))==false) 96 ([AV.agg [Zi s.18,AV.isl 32 s.19 fun (i j:Nat)=>Zb (s.20 i j)],AV.agg [Zi t.18,AV.isl 32 t.19 fun (i j:Nat)=>Zb (t.20 i j)]]) (AV.bool (Spend.pidx s==Spend.pidx t&&lstE (Spend.np s) (Spend.np t) (Spend.pf s) (Spend.pf t) 32)) (.br (!(s.1==t.1&&(s.2==t.2&&(s.3==t.3&&(s.4==t.4&&(s.5==t.5&&(s.6 0==t.6 0&&(s.6 1==t.6 1&&(s.6 2==t.6 2&&(s.6 3==t.6 3&&(s.6 4==t.6 4&&(s.6 5==t.6 5&&(s.6 6==t.6 6&&(s.6 7==t.6 7&&(s.6 8==t.6 8&&(s.6 9==t.6 9&&(s.6 10==t.6 10&&(s.6 11==t.6 11&&(s.6 12==t.6 12&&(s.6 13==t.6 13&&(s.6 14==t.6 14&&(s.6 15==t.6 15&&(s.6 16==t.6 16&&(s.6 17==t.6 17&&(s.6 18==t.6 18&&(s.6 19==t.6 19&&(s.6 20==t.6 20&&(s.6 21==t.6 21&&(s.6 22==t.6 22&&(s.6 23==t.6 23&&(s.6 24==t.6 24&&(s.6 25==t.6 25&&(s.6 26==t.6 26&&(s.6 27==t.6 27&&(s.6 28==t.6 28&&(s.6 29==t.6 29&&(s.6 30==t.6 30&&(s.6 31==t.6 31&&true)))))))))))))))))))))))))))))))&&(s.7==t.7&&(s.8==t.8&&(s.9==t.9&&(s.10==t.10&&true)))&&true))))))) || !(s.11==t.11&&(s.12==t.12&&true)) || !(s.13 0==t.13 0&&(s.13 1==t.13 1&&(s.13 2==t.13 2&&(s.13 3==t.13 3&&(s.13 4==t.13 4&&(s.13 5==t.13 5&&(s.13 6==t.13 6&&(s.13 7==t.13 7&&(s.13 8==t.13 8&&(s.13 9==t.13 9&&(s.13 10==t.13 10&&(s.13 11==t.13 11&&(s.13 12==t.13 12&&(s.13 13==t.13 13&&(s.13 14==t.13 14&&(s.13 15==t.13 15&&(s.13 16==t.13 16&&(s.13 17==t.13 17&&(s.13 18==t.13 18&&(s.13 19==t.13 19&&(s.13 20==t.13 20&&(s.13 21==t.13 21&&(s.13 22==t.13 22&&(s.13 23==t.13 23&&(s.13 24==t.13 24&&(s.13 25==t.13 25&&(s.13 26==t.13 26&&(s.13 27==t.13 27&&(s.13 28==t.13 28&&(s.13 29==t.13 29&&(s.13 30==t.13 30&&(s.13 31==t.13 31&&true)))))))))))))))))))))))))))))))&&(s.14==t.14&&(s.15==t.15&&true)))||(↑s.16:Int) != (↑t.16:Int) || !(s.18==t.18&&lstE s.19 t.19 s.20 t.20 32)) (.out (AV.bool false) [] y1 []) (.loop ({ x:Nat // x≤Spend.nl s∧(fun (x:Nat)=>∀ (i:Nat),i<x→eqF (Spend.lf s i) (Spend.lf t i) 3 0=true) x }) (fun (x:{ x:Nat // x≤Spend.nl s∧(fun (x:Nat)=>∀ (i:Nat),i<x→eqF (Spend.lf s i) (Spend.lf t i) 3 0=true) x })=>mkSt [2,3,5] [AV.own 0 80 0 0 80,AV.own 1 80 0 0 80,Zi (↑(x.1):Int)] y0) (fun (x:{ x:Nat // x≤Spend.nl s∧(fun (x:Nat)=>∀ (i:Nat),i<x→eqF (Spend.lf s i) (Spend.lf t i) 3 0=true) x })=>Spend.nl s - x.1) (⟨0,⟨Nat.zero_le (Spend.nl s),fun (j:Nat) (hj:j<0)=>absurd hj (Nat.not_lt_zero j)⟩⟩) ([2,3,5]) ([0,8]) ([AV.own 0 80 0 0 80,AV.own 1 80 0 0 80,Zi 0]) (y0) (fun x3=>(.br (decide ((↑x3.1:Int)<(↑s.16:Int))) (.req ((0:Int)≤(↑x3.1:Int)∧(↑x3.1:Int)<(↑s.16:Int)) (.req ((0:Int)≤(↑x3.1:Int)∧(↑x3.1:Int)<(↑t.16:Int)) (.br (!(s.17 (Int.toNat (↑x3.1:Int)) 0==t.17 (Int.toNat (↑x3.1:Int)) 0&&(s.17 (Int.toNat (↑x3.1:Int)) 1==t.17 (Int.toNat (↑x3.1:Int)) 1&&(s.17 (Int.toNat (↑x3.1:Int)) 2==t.17 (Int.toNat (↑x3.1:Int)) 2&&true)))) (.out (AV.bool false) [] y1 []) (.again (Again 0 (fun (x:{ x:Nat // x≤Spend.nl s∧(fun (x:Nat)=>∀ (i:Nat),i<x→eqF (Spend.lf s i) (Spend.lf t i) 3 0=true) x })=>mkSt [2,3,5] [AV.own 0 80 0 0 80,AV.own 1 80 0 0 80,Zi (↑(x.1):Int)] y0) (fun (x:{ x:Nat // x≤Spend.nl s∧(fun (x:Nat)=>∀ (i:Nat),i<x→eqF (Spend.lf s i) (Spend.lf t i) 3 0=true) x })=>Spend.nl s - x.1) x3) ([2,3,5]) ([0,1]) ([AV.own 0 80 0 0 80,AV.own 1 80 0 0 80,Zi (IntKind.wrap IntKind.i64 ((↑x3.1:Int)+1))]) (y0))))) (.out (AV.bool true) [] y1 [])))))))
  (by kernel_rfl) ?_
 refine k_scg (fun h0=>c1) ?_
 refine k_br (fun h1=>?_) (fun h1=>?_)
 ·exact k_out (Ent.of_eq (congrArg _ (rs_f h1).symm))
 ·refine k_loop (fun _ hs=>hs.le (⟨.refl _,.refl _,.refl _,trivial⟩) (⟨.refl _,.refl _,trivial⟩)) (fun x3=>?_)
  try (have q3:=x3.2;dsimp only at q3)
  have hnl:=rs_n h1
  refine k_br (fun h4=>?_) (fun h4=>?_)
  ·have g4:=cnd_dec_t h4
   refine k_req (by omega) ?_
   refine k_req (by omega) ?_
   refine k_br (fun h7=>?_) (fun h7=>?_)
   ·have g7:=(cnd_not_t (cnd_and_f cnd_beq_f (cnd_and_f cnd_beq_f (cnd_and_f cnd_beq_f cnd_id_f)))) h7
    try simp only [Int.toNat_natCast] at g7
    exact k_out (Ent.of_eq (congrArg _ (rs_x (i:=x3.1) (by omega) (bnot_t (c:=eqF (s.lf x3.1) (t.lf x3.1) 3 0) h7)).symm))
   ·have g7:=(cnd_not_f (cnd_and_t cnd_beq_t (cnd_and_t cnd_beq_t (cnd_and_t cnd_beq_t cnd_id_t)))) h7
    try simp only [Int.toNat_natCast] at g7
    exact k_again (⟨x3.1+1,by omega,fun i hi=>by rcases Nat.lt_succ_iff_lt_or_eq.1 hi with hi|rfl;(· exact x3.2.2 i hi);(· exact bnot_f h7)⟩) (fun _ hs=>hs.le (⟨.refl _,.refl _,inc_ent (by omega),trivial⟩) (⟨.refl _,.refl _,trivial⟩)) (by dsimp only;omega)
  ·have g4:=cnd_dec_f h4
   exact k_out (Ent.of_eq (congrArg _ (rs_t h1 (fun i hi=>x3.2.2 i (by omega))).symm))
abbrev kHK50:List AV:=[Zi 0,AV.agg [Zi 0,Zi 0,Zi 0,Zi 0,Zi 0,Zb 0,Zb 0,Zb 0,Zb 0,Zb 0,Zb 0,Zb 0,Zb 0,Zb 0,Zb 0,Zb 0,Zb 0,Zb 0,Zb 0,Zb 0,Zb 0,Zb 0,Zb 0,Zb 0,Zb 0,Zb 0,Zb 0,Zb 0,Zb 0,Zb 0,Zb 0,Zb 0,Zb 0,Zb 0,Zb 0,Zb 0,Zb 0,Zi 0,Zi 0,Zi 0,Zi 0,Zi 0,Zi 0,Zb 0,Zb 0,Zb 0,Zb 0,Zb 0,Zb 0,Zb 0,Zb 0,Zb 0,Zb 0,Zb 0,Zb 0,Zb 0,Zb 0,Zb 0,Zb 0,Zb 0,Zb 0,Zb 0,Zb 0,Zb 0,Zb 0,Zb 0,Zb 0,Zb 0,Zb 0,Zb 0,Zb 0,Zb 0,Zb 0,Zb 0,Zb 0,Zi 0,Zi 0,AV.nsl,Zi 0,AV.nsl,Zi 0,Zi 0,Zi 0,Zi 0,Zi 0,Zb 0,Zb 0,Zb 0,Zb 0,Zb 0,Zb 0,Zb 0,Zb 0,Zb 0,Zb 0,Zb 0,Zb 0,Zb 0,Zb 0,Zb 0,Zb 0,Zb 0,Zb 0,Zb 0,Zb 0,Zb 0,Zb 0,Zb 0,Zb 0,Zb 0,Zb 0,Zb 0,Zb 0,Zb 0,Zb 0,Zb 0,Zb 0,Zi 0,Zi 0,Zi 0,Zi 0,Zi 0,Zi 0,Zb 0,Zb 0,Zb 0,Zb 0,Zb 0,Zb 0,Zb 0,Zb 0,Zb 0,Zb 0,Zb 0,Zb 0,Zb 0,Zb 0,Zb 0,Zb 0,Zb 0,Zb 0,Zb 0,Zb 0,Zb 0,Zb 0,Zb 0,Zb 0,Zb 0,Zb 0,Zb 0,Zb 0,Zb 0,Zb 0,Zb 0,Zb 0,Zi 0,Zi 0,AV.nsl,Zi 0,AV.nsl,Zi 0],Zi 11]
abbrev kHK51:List AV:=[Zi 0,AV.agg [Zi 0,Zi 0,Zi 0,Zi 0,Zi 0,Zb 0,Zb 0,Zb 0,Zb 0,Zb 0,Zb 0,Zb 0,Zb 0,Zb 0,Zb 0,Zb 0,Zb 0,Zb 0,Zb 0,Zb 0,Zb 0,Zb 0,Zb 0,Zb 0,Zb 0,Zb 0,Zb 0,Zb 0,Zb 0,Zb 0,Zb 0,Zb 0,Zb 0,Zb 0,Zb 0,Zb 0,Zb 0,Zi 0,Zi 0,Zi 0,Zi 0,Zi 0,Zi 0,Zb 0,Zb 0,Zb 0,Zb 0,Zb 0,Zb 0,Zb 0,Zb 0,Zb 0,Zb 0,Zb 0,Zb 0,Zb 0,Zb 0,Zb 0,Zb 0,Zb 0,Zb 0,Zb 0,Zb 0,Zb 0,Zb 0,Zb 0,Zb 0,Zb 0,Zb 0,Zb 0,Zb 0,Zb 0,Zb 0,Zb 0,Zb 0,Zi 0,Zi 0,AV.nsl,Zi 0,AV.nsl,Zi 0,Zi 0,Zi 0,Zi 0,Zi 0,Zb 0,Zb 0,Zb 0,Zb 0,Zb 0,Zb 0,Zb 0,Zb 0,Zb 0,Zb 0,Zb 0,Zb 0,Zb 0,Zb 0,Zb 0,Zb 0,Zb 0,Zb 0,Zb 0,Zb 0,Zb 0,Zb 0,Zb 0,Zb 0,Zb 0,Zb 0,Zb 0,Zb 0,Zb 0,Zb 0,Zb 0,Zb 0,Zi 0,Zi 0,Zi 0,Zi 0,Zi 0,Zi 0,Zb 0,Zb 0,Zb 0,Zb 0,Zb 0,Zb 0,Zb 0,Zb 0,Zb 0,Zb 0,Zb 0,Zb 0,Zb 0,Zb 0,Zb 0,Zb 0,Zb 0,Zb 0,Zb 0,Zb 0,Zb 0,Zb 0,Zb 0,Zb 0,Zb 0,Zb 0,Zb 0,Zb 0,Zb 0,Zb 0,Zb 0,Zb 0,Zi 0,Zi 0,AV.nsl,Zi 0,AV.nsl,Zi 0],Zi 20]
abbrev kHK52:List AV:=[Zi 0,AV.agg [Zi 0,Zi 0,Zi 0,Zi 0,Zi 0,Zb 0,Zb 0,Zb 0,Zb 0,Zb 0,Zb 0,Zb 0,Zb 0,Zb 0,Zb 0,Zb 0,Zb 0,Zb 0,Zb 0,Zb 0,Zb 0,Zb 0,Zb 0,Zb 0,Zb 0,Zb 0,Zb 0,Zb 0,Zb 0,Zb 0,Zb 0,Zb 0,Zb 0,Zb 0,Zb 0,Zb 0,Zb 0,Zi 0,Zi 0,Zi 0,Zi 0,Zi 0,Zi 0,Zb 0,Zb 0,Zb 0,Zb 0,Zb 0,Zb 0,Zb 0,Zb 0,Zb 0,Zb 0,Zb 0,Zb 0,Zb 0,Zb 0,Zb 0,Zb 0,Zb 0,Zb 0,Zb 0,Zb 0,Zb 0,Zb 0,Zb 0,Zb 0,Zb 0,Zb 0,Zb 0,Zb 0,Zb 0,Zb 0,Zb 0,Zb 0,Zi 0,Zi 0,AV.nsl,Zi 0,AV.nsl,Zi 0,Zi 0,Zi 0,Zi 0,Zi 0,Zb 0,Zb 0,Zb 0,Zb 0,Zb 0,Zb 0,Zb 0,Zb 0,Zb 0,Zb 0,Zb 0,Zb 0,Zb 0,Zb 0,Zb 0,Zb 0,Zb 0,Zb 0,Zb 0,Zb 0,Zb 0,Zb 0,Zb 0,Zb 0,Zb 0,Zb 0,Zb 0,Zb 0,Zb 0,Zb 0,Zb 0,Zb 0,Zi 0,Zi 0,Zi 0,Zi 0,Zi 0,Zi 0,Zb 0,Zb 0,Zb 0,Zb 0,Zb 0,Zb 0,Zb 0,Zb 0,Zb 0,Zb 0,Zb 0,Zb 0,Zb 0,Zb 0,Zb 0,Zb 0,Zb 0,Zb 0,Zb 0,Zb 0,Zb 0,Zb 0,Zb 0,Zb 0,Zb 0,Zb 0,Zb 0,Zb 0,Zb 0,Zb 0,Zb 0,Zb 0,Zi 0,Zi 0,AV.nsl,Zi 0,AV.nsl,Zi 0],Zi 1]
abbrev kHK53:List AV:=[Zi 0,AV.agg [Zi 0,Zi 0,Zi 0,Zi 0,Zi 0,Zb 0,Zb 0,Zb 0,Zb 0,Zb 0,Zb 0,Zb 0,Zb 0,Zb 0,Zb 0,Zb 0,Zb 0,Zb 0,Zb 0,Zb 0,Zb 0,Zb 0,Zb 0,Zb 0,Zb 0,Zb 0,Zb 0,Zb 0,Zb 0,Zb 0,Zb 0,Zb 0,Zb 0,Zb 0,Zb 0,Zb 0,Zb 0,Zi 0,Zi 0,Zi 0,Zi 0,Zi 0,Zi 0,Zb 0,Zb 0,Zb 0,Zb 0,Zb 0,Zb 0,Zb 0,Zb 0,Zb 0,Zb 0,Zb 0,Zb 0,Zb 0,Zb 0,Zb 0,Zb 0,Zb 0,Zb 0,Zb 0,Zb 0,Zb 0,Zb 0,Zb 0,Zb 0,Zb 0,Zb 0,Zb 0,Zb 0,Zb 0,Zb 0,Zb 0,Zb 0,Zi 0,Zi 0,AV.nsl,Zi 0,AV.nsl,Zi 0,Zi 0,Zi 0,Zi 0,Zi 0,Zb 0,Zb 0,Zb 0,Zb 0,Zb 0,Zb 0,Zb 0,Zb 0,Zb 0,Zb 0,Zb 0,Zb 0,Zb 0,Zb 0,Zb 0,Zb 0,Zb 0,Zb 0,Zb 0,Zb 0,Zb 0,Zb 0,Zb 0,Zb 0,Zb 0,Zb 0,Zb 0,Zb 0,Zb 0,Zb 0,Zb 0,Zb 0,Zi 0,Zi 0,Zi 0,Zi 0,Zi 0,Zi 0,Zb 0,Zb 0,Zb 0,Zb 0,Zb 0,Zb 0,Zb 0,Zb 0,Zb 0,Zb 0,Zb 0,Zb 0,Zb 0,Zb 0,Zb 0,Zb 0,Zb 0,Zb 0,Zb 0,Zb 0,Zb 0,Zb 0,Zb 0,Zb 0,Zb 0,Zb 0,Zb 0,Zb 0,Zb 0,Zb 0,Zb 0,Zb 0,Zi 0,Zi 0,AV.nsl,Zi 0,AV.nsl,Zi 0],Zi 7]
abbrev kHK54:List AV:=[Zi 0,Zi 0,Zi 0,Zi 0,Zi 0,Zb 0,Zb 0,Zb 0,Zb 0,Zb 0,Zb 0,Zb 0,Zb 0,Zb 0,Zb 0,Zb 0,Zb 0,Zb 0,Zb 0,Zb 0,Zb 0,Zb 0,Zb 0,Zb 0,Zb 0,Zb 0,Zb 0,Zb 0,Zb 0,Zb 0,Zb 0,Zb 0,Zb 0,Zb 0,Zb 0,Zb 0,Zb 0,Zi 0,Zi 0,Zi 0,Zi 0,Zi 0,Zi 0,Zb 0,Zb 0,Zb 0,Zb 0,Zb 0,Zb 0,Zb 0,Zb 0,Zb 0,Zb 0,Zb 0,Zb 0,Zb 0,Zb 0,Zb 0,Zb 0,Zb 0,Zb 0,Zb 0,Zb 0,Zb 0,Zb 0,Zb 0,Zb 0,Zb 0,Zb 0,Zb 0,Zb 0,Zb 0,Zb 0,Zb 0,Zb 0,Zi 0,Zi 0,AV.nsl,Zi 0,AV.nsl,Zi 0,Zi 0,Zi 0,Zi 0,Zi 0,Zb 0,Zb 0,Zb 0,Zb 0,Zb 0,Zb 0,Zb 0,Zb 0,Zb 0,Zb 0,Zb 0,Zb 0,Zb 0,Zb 0,Zb 0,Zb 0,Zb 0,Zb 0,Zb 0,Zb 0,Zb 0,Zb 0,Zb 0,Zb 0,Zb 0,Zb 0,Zb 0,Zb 0,Zb 0,Zb 0,Zb 0,Zb 0,Zi 0,Zi 0,Zi 0,Zi 0,Zi 0,Zi 0,Zb 0,Zb 0,Zb 0,Zb 0,Zb 0,Zb 0,Zb 0,Zb 0,Zb 0,Zb 0,Zb 0,Zb 0,Zb 0,Zb 0,Zb 0,Zb 0,Zb 0,Zb 0,Zb 0,Zb 0,Zb 0,Zb 0,Zb 0,Zb 0,Zb 0,Zb 0,Zb 0,Zb 0,Zb 0,Zb 0,Zb 0,Zb 0,Zi 0,Zi 0,AV.nsl,Zi 0,AV.nsl,Zi 0]
theorem few35_2 (x y:Chn) (hx:x.n<9223372036854775808) (hy:y.n<9223372036854775808):Pure Tryz.prog gl0 8 [.isl 81 2 fun r k=>atL (List.getD [x.cells,y.cells] r []) k] (.bool (!(longK x||longK y))):=by
 refine Pure.ent (Pure.via (few35_c (fun i=>if i=0 then x else y) 2 (by omega) (fun i hi=>by split;(· exact hx);(· exact hy))) ?_) (Ent.of_eq (congrArg _ (by rw [firstI_neg];simp [List.range,List.range.loop])))
 exact ⟨Ent.rows fun i hi=>(match i,hi with|0,_=>rfl|1,_=>rfl),trivial⟩
theorem cheat_w (b:Bas) (R:Nat→Nat→Int) (n:Nat) (x y:Chn) (VX VY:Bool) (L0:List Int) (D:Nat→Bool) (m:Nat) (S T:Nat→Spend) (L E:Nat→Int) (V:AV) (hw:b.gr.W) (hx:x.n≤300) (hy:y.n≤300) (hm:m≤x.n+1∧m≤y.n+1∧(m=x.n+1∨m=y.n+1)) (hl:L0.length≤1000)
  (c1:Pure Tryz.prog gl0 9 [b.av,rcl n R,x.av] (.bool VX)) (c2:Pure Tryz.prog gl0 9 [b.av,rcl n R,y.av] (.bool VY))
  (c3:VX=true→VY=true→Pure Tryz.prog gl0 43 [x.first.av,y.first.av] (.tup [il .i64 L0,.int .i64 0]))
  (c4:∀ i,i<m→Pure Tryz.prog gl0 44 [(chnS x i).av,(chnS y i).av] (.bool (!D i)))
  (c5:∀ i,i<m→Pure Tryz.prog gl0 45 [b.av,rcl n R,(chnS x i).av,(chnS y i).av] (.tup [gul (S i) (T i) (L i),.int .i64 (E i)]))
  (u1:validB b=false→∀ os,Ent os (.tup [.int .i64 0,.agg (Spend.zero.cw .nsl .nsl++(Spend.zero.cw .nsl .nsl++[.int .i64 0])),.int .i64 1]) V) (u2:validB b=true→VX=false∨VY=false→∀ os,Ent os (.tup [.int .i64 0,.agg (Spend.zero.cw .nsl .nsl++(Spend.zero.cw .nsl .nsl++[.int .i64 0])),.int .i64 11]) V)
  (u3:validB b=true→VX=true∧VY=true→L0.length=0→∀ os,Ent os (.tup [.int .i64 0,.agg (Spend.zero.cw .nsl .nsl++(Spend.zero.cw .nsl .nsl++[.int .i64 0])),.int .i64 7]) V)
  (u4:validB b=true→VX=true∧VY=true→¬L0.length=0→∀ i,i<m→firstI D m 0=firstI D (m - i) i→D i=true→E i=0→∀ os,Ent os (.tup [.int .i64 i,gul (S i) (T i) (L i),.int .i64 0]) V)
  (u5:validB b=true→VX=true∧VY=true→¬L0.length=0→∀ i,i<m→firstI D m 0=firstI D (m - i) i→D i=true→¬E i=0→∀ os,Ent os (.tup [.int .i64 0,.agg (Spend.zero.cw .nsl .nsl++(Spend.zero.cw .nsl .nsl++[.int .i64 0])),.int .i64 (E i)]) V)
  (u6:validB b=true→VX=true∧VY=true→¬L0.length=0→∀ i,m≤i→firstI D m 0=firstI D (m - i) i→∀ os,Ent os (.tup [.int .i64 0,.agg (Spend.zero.cw .nsl .nsl++(Spend.zero.cw .nsl .nsl++[.int .i64 0])),.int .i64 20]) V) :
  Pure Tryz.prog gl0 11 [b.av,rcl n R,x.av,y.av] V:=by
 have c0:=bvalid_c b hw
 have c6:=spends_c x (by omega)
 have c7:=spends_c y (by omega)
 refine pure_sk (own:=ow0) Tryz.func11 (by kernel_rfl) mixed (by kernel_rfl)
  (let y0:List (Option Ob):=[some ⟨6,1,true,Rep.lst [Bas.cells b]⟩,some ⟨161,1,true,Rep.lst [[Zi 0,Zi 0,Zi 0,Zi 0,Zi 0,Zb 0,Zb 0,Zb 0,Zb 0,Zb 0,Zb 0,Zb 0,Zb 0,Zb 0,Zb 0,Zb 0,Zb 0,Zb 0,Zb 0,Zb 0,Zb 0,Zb 0,Zb 0,Zb 0,Zb 0,Zb 0,Zb 0,Zb 0,Zb 0,Zb 0,Zb 0,Zb 0,Zb 0,Zb 0,Zb 0,Zb 0,Zb 0,Zi 0,Zi 0,Zi 0,Zi 0,Zi 0,Zi 0,Zb 0,Zb 0,Zb 0,Zb 0,Zb 0,Zb 0,Zb 0,Zb 0,Zb 0,Zb 0,Zb 0,Zb 0,Zb 0,Zb 0,Zb 0,Zb 0,Zb 0,Zb 0,Zb 0,Zb 0,Zb 0,Zb 0,Zb 0,Zb 0,Zb 0,Zb 0,Zb 0,Zb 0,Zb 0,Zb 0,Zb 0,Zb 0,Zi 0,Zi 0,AV.nsl,Zi 0,AV.nsl,Zi 0,Zi 0,Zi 0,Zi 0,Zi 0,Zb 0,Zb 0,Zb 0,Zb 0,Zb 0,Zb 0,Zb 0,Zb 0,Zb 0,Zb 0,Zb 0,Zb 0,Zb 0,Zb 0,Zb 0,Zb 0,Zb 0,Zb 0,Zb 0,Zb 0,Zb 0,Zb 0,Zb 0,Zb 0,Zb 0,Zb 0,Zb 0,Zb 0,Zb 0,Zb 0,Zb 0,Zb 0,Zi 0,Zi 0,Zi 0,Zi 0,Zi 0,Zi 0,Zb 0,Zb 0,Zb 0,Zb 0,Zb 0,Zb 0,Zb 0,Zb 0,Zb 0,Zb 0,Zb 0,Zb 0,Zb 0,Zb 0,Zb 0,Zb 0,Zb 0,Zb 0,Zb 0,Zb 0,Zb 0,Zb 0,Zb 0,Zb 0,Zb 0,Zb 0,Zb 0,Zb 0,Zb 0,Zb 0,Zb 0,Zb 0,Zi 0,Zi 0,AV.nsl,Zi 0,AV.nsl,Zi 0]]⟩];(.sc (true) 34 ([AV.agg (Bas.cells b)]) (AV.bool (validB b)) (.br (!validB b) (.out (AV.tup kHK52) [] (V) []) (.sc (true) 9 ([AV.agg (Bas.cells b),AV.isl 11 n fun (i j:Nat)=>Zi (R i j),AV.agg (Chn.cells x)]) (AV.bool VX) (.sc ((!VX)==false) 9 ([AV.agg (Bas.cells b),AV.isl 11 n fun (i j:Nat)=>Zi (R i j),AV.agg (Chn.cells y)]) (AV.bool VY) (.br (!VX || !VY) (.out (AV.tup kHK50) [] (V) []) (.dc (true) 43 ([AV.agg (Spend.cells (Chn.first x)),AV.agg (Spend.cells (Chn.first y))]) (AV.tup [il IntKind.i64 L0,Zi 0]) (.br ((↑(List.length L0):Int)==0) (.out (AV.tup kHK53) [] (V) []) (.dc (true) 35 ([AV.agg (Chn.cells x)]) (AV.isl 80 (Chn.n x+1) fun (i j:Nat)=>atL (Spend.cells (chnS x i)) j) (.dc (true) 35 ([AV.agg (Chn.cells y)]) (AV.isl 80 (Chn.n y+1) fun (i j:Nat)=>atL (Spend.cells (chnS y i)) j) (.loop ({ x:Nat // x≤m∧(fun (i:Nat)=>firstI D m 0=firstI D (m - i) i) x }) (fun (x_1:{ x:Nat // x≤m∧(fun (i:Nat)=>firstI D m 0=firstI D (m - i) i) x })=>mkSt [1,4,9,13,14,57,58] [AV.isl 11 n fun (i j:Nat)=>Zi (R i j),AV.own 0 6 0 0 6,AV.own 1 161 0 0 161,AV.isl 80 (x.2+1) fun (i j:Nat)=>atL (Spend.cells (chnS x i)) j,AV.isl 80 (y.2+1) fun (i j:Nat)=>atL (Spend.cells (chnS y i)) j,Zi (if (↑(y.2+1):Int)<(↑(x.2+1):Int) then (↑(y.2+1):Int) else (↑(x.2+1):Int)),Zi (↑(Subtype.val x_1):Int)] y0) (fun (x:{ x:Nat // x≤m∧(fun (i:Nat)=>firstI D m 0=firstI D (m - i) i) x })=>m - x.1) (⟨0,⟨Nat.zero_le m,rfl⟩⟩) ([1,4,9,13,14,57,58]) ([0,32]) ([AV.isl 11 n fun (i j:Nat)=>Zi (R i j),AV.own 0 6 0 0 6,AV.own 1 161 0 0 161,AV.isl 80 (x.2+1) fun (i j:Nat)=>atL (Spend.cells (chnS x i)) j,AV.isl 80 (y.2+1) fun (i j:Nat)=>atL (Spend.cells (chnS y i)) j,Zi (if (↑(y.2+1):Int)<(↑(x.2+1):Int) then (↑(y.2+1):Int) else (↑(x.2+1):Int)),Zi 0]) (y0) (fun x12=>(.br (decide ((↑x12.1:Int)<if (↑(y.2+1):Int)<(↑(x.2+1):Int) then (↑(y.2+1):Int) else (↑(x.2+1):Int))) (.req ((0:Int)≤(↑x12.1:Int)∧(↑x12.1:Int)<(↑(x.2+1):Int)) (.req ((0:Int)≤(↑x12.1:Int)∧(↑x12.1:Int)<(↑(y.2+1):Int)) (.sc (true) 44 ([AV.agg (Spend.cells (chnS x (Int.toNat (↑(x12.1):Int)))),AV.agg (Spend.cells (chnS y (Int.toNat (↑(x12.1):Int))))]) (AV.bool !D (Int.toNat (↑(x12.1):Int))) (.br (!D (Int.toNat (↑x12.1:Int))) (.again (Again 0 (fun (x_1:{ x:Nat // x≤m∧(fun (i:Nat)=>firstI D m 0=firstI D (m - i) i) x })=>mkSt [1,4,9,13,14,57,58] [AV.isl 11 n fun (i j:Nat)=>Zi (R i j),AV.own 0 6 0 0 6,AV.own 1 161 0 0 161,AV.isl 80 (x.2+1) fun (i j:Nat)=>atL (Spend.cells (chnS x i)) j,AV.isl 80 (y.2+1) fun (i j:Nat)=>atL (Spend.cells (chnS y i)) j,Zi (if (↑(y.2+1):Int)<(↑(x.2+1):Int) then (↑(y.2+1):Int) else (↑(x.2+1):Int)),Zi (↑(Subtype.val x_1):Int)] y0) (fun (x:{ x:Nat // x≤m∧(fun (i:Nat)=>firstI D m 0=firstI D (m - i) i) x })=>m - x.1) x12) ([1,4,9,13,14,57,58]) ([0,1]) ([AV.isl 11 n fun (i j:Nat)=>Zi (R i j),AV.own 0 6 0 0 6,AV.own 1 161 0 0 161,AV.isl 80 (x.2+1) fun (i j:Nat)=>atL (Spend.cells (chnS x i)) j,AV.isl 80 (y.2+1) fun (i j:Nat)=>atL (Spend.cells (chnS y i)) j,Zi (if (↑(y.2+1):Int)<(↑(x.2+1):Int) then (↑(y.2+1):Int) else (↑(x.2+1):Int)),Zi (IntKind.wrap IntKind.i64 ((↑x12.1:Int)+1))]) (y0)) (.req ((0:Int)≤(↑x12.1:Int)∧(↑x12.1:Int)<(↑(x.2+1):Int)) (.req ((0:Int)≤(↑x12.1:Int)∧(↑x12.1:Int)<(↑(y.2+1):Int)) (.dc (true) 45 ([AV.agg (Bas.cells b),AV.isl 11 n fun (i j:Nat)=>Zi (R i j),AV.agg (Spend.cells (chnS x (Int.toNat (↑(x12.1):Int)))),AV.agg (Spend.cells (chnS y (Int.toNat (↑(x12.1):Int))))]) (AV.tup [gul (S (Int.toNat (↑(x12.1):Int))) (T (Int.toNat (↑(x12.1):Int))) (L (Int.toNat (↑(x12.1):Int))),Zi (E (Int.toNat (↑(x12.1):Int)))]) (.br (E (Int.toNat (↑x12.1:Int)) != 0) (.out (AV.tup [Zi 0,AV.agg kHK54,Zi (E (Int.toNat (↑x12.1:Int)))]) [] (V) []) (.out (AV.tup [Zi (↑x12.1:Int),AV.agg (Spend.cells (S (Int.toNat (↑(x12.1):Int)))++(Spend.cells (T (Int.toNat (↑(x12.1):Int)))++[Zi (L (Int.toNat (↑x12.1:Int)))])),Zi 0]) [] (V) []))))))))) (.out (AV.tup kHK51) [] (V) []))))))))))))))
  (by kernel_rfl) ?_
 refine k_sc (c0) ?_
 refine k_br (fun h1=>?_) (fun h1=>?_)
 ·have g1:=(cnd_not_t cnd_id_f) h1
  exact k_out (u1 g1 _)
 ·have g1:=(cnd_not_f cnd_id_t) h1
  refine k_sc (c1) ?_
  refine k_scg (fun h4=>c2) ?_
  refine k_br (fun h5=>?_) (fun h5=>?_)
  ·have g5:=(cnd_or_t (cnd_not_t cnd_id_f) (cnd_not_t cnd_id_f)) h5
   exact k_out (u2 g1 g5 _)
  ·have g5:=(cnd_or_f (cnd_not_f cnd_id_t) (cnd_not_f cnd_id_t)) h5
   refine k_dc (c3 (by first|assumption|omega|exact g5.1|exact g5.2|(simp only [Int.toNat_natCast];omega)) (by first|assumption|omega|exact g5.1|exact g5.2|(simp only [Int.toNat_natCast];omega))) ?_
   refine k_br (fun h8=>?_) (fun h8=>?_)
   ·have g8:=cnd_beq_t h8
    exact k_out (u3 g1 g5 (by omega) _)
   ·have g8:=cnd_beq_f h8
    refine k_dc (c6) ?_
    refine k_dc (c7) ?_
    refine k_loop (fun _ hs=>hs.le (⟨.refl _,.refl _,.refl _,.refl _,.refl _,.refl _,.refl _,trivial⟩) (⟨.refl _,.refl _,trivial⟩)) (fun x12=>?_)
    try (have q12:=x12.2;dsimp only at q12)
    refine k_br (fun h13=>?_) (fun h13=>?_)
    ·have g13:=cnd_dec_t h13
     refine k_req (by omega) ?_
     refine k_req (by omega) ?_
     refine k_sc (c4 (Int.toNat (↑(x12.1):Int)) (by first|assumption|omega|exact g5.1|exact g5.2|(simp only [Int.toNat_natCast];omega))) ?_
     refine k_br (fun h17=>?_) (fun h17=>?_)
     ·have g17:=(cnd_not_t cnd_id_f) h17
      try simp only [Int.toNat_natCast] at g17
      exact k_again (⟨x12.1+1,by omega,first_next x12.2.2 (by omega) g17⟩) (fun _ hs=>hs.le (⟨.refl _,.refl _,.refl _,.refl _,.refl _,.refl _,inc_ent (by omega),trivial⟩) (⟨.refl _,.refl _,trivial⟩)) (by dsimp only;omega)
     ·have g17:=(cnd_not_f cnd_id_t) h17
      try simp only [Int.toNat_natCast] at g17
      refine k_req (by omega) ?_
      refine k_req (by omega) ?_
      refine k_dc (c5 (Int.toNat (↑(x12.1):Int)) (by first|assumption|omega|exact g5.1|exact g5.2|(simp only [Int.toNat_natCast];omega))) ?_
      refine k_br (fun h22=>?_) (fun h22=>?_)
      ·have g22:=cnd_bne_t h22
       try simp only [Int.toNat_natCast] at g22
       exact k_out (u5 g1 g5 (by omega) x12.1 (by omega) x12.2.2 g17 g22 _)
      ·have g22:=cnd_bne_f h22
       try simp only [Int.toNat_natCast] at g22
       exact k_out (u4 g1 g5 (by omega) x12.1 (by omega) x12.2.2 g17 g22 _)
    ·have g13:=cnd_dec_f h13
     exact k_out (u6 g1 g5 (by omega) x12.1 (by omega) x12.2.2 _)
theorem rcheat_w (b:Bas) (R:Nat→Nat→Int) (n:Nat) (x y:Chn) (VX VY:Bool) (L0:List Int) (D:Nat→Bool) (m:Nat) (S T:Nat→Spend) (L E:Nat→Int) (V:AV) (hw:b.gr.W) (hx:x.n≤300) (hy:y.n≤300) (hm:m≤x.n+1∧m≤y.n+1∧(m=x.n+1∨m=y.n+1)) (hl:L0.length≤1000)
  (c1:Pure Tryz.prog gl0 10 [b.av,rcl n R,x.av] (.bool VX)) (c2:Pure Tryz.prog gl0 10 [b.av,rcl n R,y.av] (.bool VY))
  (c3:VX=true→VY=true→Pure Tryz.prog gl0 46 [x.first.av,y.first.av] (.tup [il .i64 L0,.int .i64 0]))
  (c4:∀ i,i<m→Pure Tryz.prog gl0 47 [(chnS x i).av,(chnS y i).av] (.bool (!D i)))
  (c5:∀ i,i<m→Pure Tryz.prog gl0 48 [b.av,rcl n R,(chnS x i).av,(chnS y i).av] (.tup [gul (S i) (T i) (L i),.int .i64 (E i)]))
  (u1:validB b=false→∀ os,Ent os (.tup [.int .i64 0,.agg (Spend.zero.cw .nsl .nsl++(Spend.zero.cw .nsl .nsl++[.int .i64 0])),.int .i64 1]) V) (u2:validB b=true→VX=false∨VY=false→∀ os,Ent os (.tup [.int .i64 0,.agg (Spend.zero.cw .nsl .nsl++(Spend.zero.cw .nsl .nsl++[.int .i64 0])),.int .i64 11]) V)
  (u3:validB b=true→VX=true∧VY=true→L0.length=0→∀ os,Ent os (.tup [.int .i64 0,.agg (Spend.zero.cw .nsl .nsl++(Spend.zero.cw .nsl .nsl++[.int .i64 0])),.int .i64 7]) V)
  (u4:validB b=true→VX=true∧VY=true→¬L0.length=0→∀ i,i<m→firstI D m 0=firstI D (m - i) i→D i=true→E i=0→∀ os,Ent os (.tup [.int .i64 i,gul (S i) (T i) (L i),.int .i64 0]) V)
  (u5:validB b=true→VX=true∧VY=true→¬L0.length=0→∀ i,i<m→firstI D m 0=firstI D (m - i) i→D i=true→¬E i=0→∀ os,Ent os (.tup [.int .i64 0,.agg (Spend.zero.cw .nsl .nsl++(Spend.zero.cw .nsl .nsl++[.int .i64 0])),.int .i64 (E i)]) V)
  (u6:validB b=true→VX=true∧VY=true→¬L0.length=0→∀ i,m≤i→firstI D m 0=firstI D (m - i) i→∀ os,Ent os (.tup [.int .i64 0,.agg (Spend.zero.cw .nsl .nsl++(Spend.zero.cw .nsl .nsl++[.int .i64 0])),.int .i64 20]) V) :
  Pure Tryz.prog gl0 12 [b.av,rcl n R,x.av,y.av] V:=by
 have c0:=r11valid_c b hw
 have c6:=rspends_c x (by omega)
 have c7:=rspends_c y (by omega)
 refine pure_sk (own:=ow0) Tryz.func12 (by kernel_rfl) mixed (by kernel_rfl)
  (let y0:List (Option Ob):=[some ⟨6,1,true,Rep.lst [Bas.cells b]⟩,some ⟨161,1,true,Rep.lst [[Zi 0,Zi 0,Zi 0,Zi 0,Zi 0,Zb 0,Zb 0,Zb 0,Zb 0,Zb 0,Zb 0,Zb 0,Zb 0,Zb 0,Zb 0,Zb 0,Zb 0,Zb 0,Zb 0,Zb 0,Zb 0,Zb 0,Zb 0,Zb 0,Zb 0,Zb 0,Zb 0,Zb 0,Zb 0,Zb 0,Zb 0,Zb 0,Zb 0,Zb 0,Zb 0,Zb 0,Zb 0,Zi 0,Zi 0,Zi 0,Zi 0,Zi 0,Zi 0,Zb 0,Zb 0,Zb 0,Zb 0,Zb 0,Zb 0,Zb 0,Zb 0,Zb 0,Zb 0,Zb 0,Zb 0,Zb 0,Zb 0,Zb 0,Zb 0,Zb 0,Zb 0,Zb 0,Zb 0,Zb 0,Zb 0,Zb 0,Zb 0,Zb 0,Zb 0,Zb 0,Zb 0,Zb 0,Zb 0,Zb 0,Zb 0,Zi 0,Zi 0,AV.nsl,Zi 0,AV.nsl,Zi 0,Zi 0,Zi 0,Zi 0,Zi 0,Zb 0,Zb 0,Zb 0,Zb 0,Zb 0,Zb 0,Zb 0,Zb 0,Zb 0,Zb 0,Zb 0,Zb 0,Zb 0,Zb 0,Zb 0,Zb 0,Zb 0,Zb 0,Zb 0,Zb 0,Zb 0,Zb 0,Zb 0,Zb 0,Zb 0,Zb 0,Zb 0,Zb 0,Zb 0,Zb 0,Zb 0,Zb 0,Zi 0,Zi 0,Zi 0,Zi 0,Zi 0,Zi 0,Zb 0,Zb 0,Zb 0,Zb 0,Zb 0,Zb 0,Zb 0,Zb 0,Zb 0,Zb 0,Zb 0,Zb 0,Zb 0,Zb 0,Zb 0,Zb 0,Zb 0,Zb 0,Zb 0,Zb 0,Zb 0,Zb 0,Zb 0,Zb 0,Zb 0,Zb 0,Zb 0,Zb 0,Zb 0,Zb 0,Zb 0,Zb 0,Zi 0,Zi 0,AV.nsl,Zi 0,AV.nsl,Zi 0]]⟩];(.sc (true) 19 ([AV.agg (Bas.cells b)]) (AV.bool (validB b)) (.br (!validB b) (.out (AV.tup kHK52) [] (V) []) (.sc (true) 10 ([AV.agg (Bas.cells b),AV.isl 11 n fun (i j:Nat)=>Zi (R i j),AV.agg (Chn.cells x)]) (AV.bool VX) (.sc ((!VX)==false) 10 ([AV.agg (Bas.cells b),AV.isl 11 n fun (i j:Nat)=>Zi (R i j),AV.agg (Chn.cells y)]) (AV.bool VY) (.br (!VX || !VY) (.out (AV.tup kHK50) [] (V) []) (.dc (true) 46 ([AV.agg (Spend.cells (Chn.first x)),AV.agg (Spend.cells (Chn.first y))]) (AV.tup [il IntKind.i64 L0,Zi 0]) (.br ((↑(List.length L0):Int)==0) (.out (AV.tup kHK53) [] (V) []) (.dc (true) 39 ([AV.agg (Chn.cells x)]) (AV.isl 80 (Chn.n x+1) fun (i j:Nat)=>atL (Spend.cells (chnS x i)) j) (.dc (true) 39 ([AV.agg (Chn.cells y)]) (AV.isl 80 (Chn.n y+1) fun (i j:Nat)=>atL (Spend.cells (chnS y i)) j) (.loop ({ x:Nat // x≤m∧(fun (i:Nat)=>firstI D m 0=firstI D (m - i) i) x }) (fun (x_1:{ x:Nat // x≤m∧(fun (i:Nat)=>firstI D m 0=firstI D (m - i) i) x })=>mkSt [1,4,9,13,14,15] [AV.isl 11 n fun (i j:Nat)=>Zi (R i j),AV.own 0 6 0 0 6,AV.own 1 161 0 0 161,AV.isl 80 (x.2+1) fun (i j:Nat)=>atL (Spend.cells (chnS x i)) j,AV.isl 80 (y.2+1) fun (i j:Nat)=>atL (Spend.cells (chnS y i)) j,Zi (↑(Subtype.val x_1):Int)] y0) (fun (x:{ x:Nat // x≤m∧(fun (i:Nat)=>firstI D m 0=firstI D (m - i) i) x })=>m - x.1) (⟨0,⟨Nat.zero_le m,rfl⟩⟩) ([1,4,9,13,14,15]) ([0,32]) ([AV.isl 11 n fun (i j:Nat)=>Zi (R i j),AV.own 0 6 0 0 6,AV.own 1 161 0 0 161,AV.isl 80 (x.2+1) fun (i j:Nat)=>atL (Spend.cells (chnS x i)) j,AV.isl 80 (y.2+1) fun (i j:Nat)=>atL (Spend.cells (chnS y i)) j,Zi 0]) (y0) (fun x12=>(.br (decide ((↑x12.1:Int)<(↑(x.2+1):Int))&&decide ((↑x12.1:Int)<(↑(y.2+1):Int))) (.req ((0:Int)≤(↑x12.1:Int)∧(↑x12.1:Int)<(↑(x.2+1):Int)) (.req ((0:Int)≤(↑x12.1:Int)∧(↑x12.1:Int)<(↑(y.2+1):Int)) (.sc (true) 47 ([AV.agg (Spend.cells (chnS x (Int.toNat (↑(x12.1):Int)))),AV.agg (Spend.cells (chnS y (Int.toNat (↑(x12.1):Int))))]) (AV.bool !D (Int.toNat (↑(x12.1):Int))) (.br (!!D (Int.toNat (↑x12.1:Int))) (.req ((0:Int)≤(↑x12.1:Int)∧(↑x12.1:Int)<(↑(x.2+1):Int)) (.req ((0:Int)≤(↑x12.1:Int)∧(↑x12.1:Int)<(↑(y.2+1):Int)) (.dc (true) 48 ([AV.agg (Bas.cells b),AV.isl 11 n fun (i j:Nat)=>Zi (R i j),AV.agg (Spend.cells (chnS x (Int.toNat (↑(x12.1):Int)))),AV.agg (Spend.cells (chnS y (Int.toNat (↑(x12.1):Int))))]) (AV.tup [gul (S (Int.toNat (↑(x12.1):Int))) (T (Int.toNat (↑(x12.1):Int))) (L (Int.toNat (↑(x12.1):Int))),Zi (E (Int.toNat (↑(x12.1):Int)))]) (.br (E (Int.toNat (↑x12.1:Int)) != 0) (.out (AV.tup [Zi 0,AV.agg kHK54,Zi (E (Int.toNat (↑x12.1:Int)))]) [] (V) []) (.out (AV.tup [Zi (↑x12.1:Int),AV.agg (Spend.cells (S (Int.toNat (↑(x12.1):Int)))++(Spend.cells (T (Int.toNat (↑(x12.1):Int)))++[Zi (L (Int.toNat (↑x12.1:Int)))])),Zi 0]) [] (V) []))))) (.again (Again 0 (fun (x_1:{ x:Nat // x≤m∧(fun (i:Nat)=>firstI D m 0=firstI D (m - i) i) x })=>mkSt [1,4,9,13,14,15] [AV.isl 11 n fun (i j:Nat)=>Zi (R i j),AV.own 0 6 0 0 6,AV.own 1 161 0 0 161,AV.isl 80 (x.2+1) fun (i j:Nat)=>atL (Spend.cells (chnS x i)) j,AV.isl 80 (y.2+1) fun (i j:Nat)=>atL (Spend.cells (chnS y i)) j,Zi (↑(Subtype.val x_1):Int)] y0) (fun (x:{ x:Nat // x≤m∧(fun (i:Nat)=>firstI D m 0=firstI D (m - i) i) x })=>m - x.1) x12) ([1,4,9,13,14,15]) ([0,1]) ([AV.isl 11 n fun (i j:Nat)=>Zi (R i j),AV.own 0 6 0 0 6,AV.own 1 161 0 0 161,AV.isl 80 (x.2+1) fun (i j:Nat)=>atL (Spend.cells (chnS x i)) j,AV.isl 80 (y.2+1) fun (i j:Nat)=>atL (Spend.cells (chnS y i)) j,Zi (IntKind.wrap IntKind.i64 ((↑x12.1:Int)+1))]) (y0)))))) (.out (AV.tup kHK51) [] (V) []))))))))))))))
  (by kernel_rfl) ?_
 refine k_sc (c0) ?_
 refine k_br (fun h1=>?_) (fun h1=>?_)
 ·have g1:=(cnd_not_t cnd_id_f) h1
  exact k_out (u1 g1 _)
 ·have g1:=(cnd_not_f cnd_id_t) h1
  refine k_sc (c1) ?_
  refine k_scg (fun h4=>c2) ?_
  refine k_br (fun h5=>?_) (fun h5=>?_)
  ·have g5:=(cnd_or_t (cnd_not_t cnd_id_f) (cnd_not_t cnd_id_f)) h5
   exact k_out (u2 g1 g5 _)
  ·have g5:=(cnd_or_f (cnd_not_f cnd_id_t) (cnd_not_f cnd_id_t)) h5
   refine k_dc (c3 (by first|assumption|omega|exact g5.1|exact g5.2|(simp only [Int.toNat_natCast];omega)) (by first|assumption|omega|exact g5.1|exact g5.2|(simp only [Int.toNat_natCast];omega))) ?_
   refine k_br (fun h8=>?_) (fun h8=>?_)
   ·have g8:=cnd_beq_t h8
    exact k_out (u3 g1 g5 (by omega) _)
   ·have g8:=cnd_beq_f h8
    refine k_dc (c6) ?_
    refine k_dc (c7) ?_
    refine k_loop (fun _ hs=>hs.le (⟨.refl _,.refl _,.refl _,.refl _,.refl _,.refl _,trivial⟩) (⟨.refl _,.refl _,trivial⟩)) (fun x12=>?_)
    try (have q12:=x12.2;dsimp only at q12)
    refine k_br (fun h13=>?_) (fun h13=>?_)
    ·have g13:=(cnd_and_t cnd_dec_t cnd_dec_t) h13
     refine k_req (by omega) ?_
     refine k_req (by omega) ?_
     refine k_sc (c4 (Int.toNat (↑(x12.1):Int)) (by first|assumption|omega|exact g5.1|exact g5.2|(simp only [Int.toNat_natCast];omega))) ?_
     refine k_br (fun h17=>?_) (fun h17=>?_)
     ·have g17:=(cnd_not_t (cnd_not_f cnd_id_t)) h17
      try simp only [Int.toNat_natCast] at g17
      refine k_req (by omega) ?_
      refine k_req (by omega) ?_
      refine k_dc (c5 (Int.toNat (↑(x12.1):Int)) (by first|assumption|omega|exact g5.1|exact g5.2|(simp only [Int.toNat_natCast];omega))) ?_
      refine k_br (fun h21=>?_) (fun h21=>?_)
      ·have g21:=cnd_bne_t h21
       try simp only [Int.toNat_natCast] at g21
       exact k_out (u5 g1 g5 (by omega) x12.1 (by omega) x12.2.2 g17 g21 _)
      ·have g21:=cnd_bne_f h21
       try simp only [Int.toNat_natCast] at g21
       exact k_out (u4 g1 g5 (by omega) x12.1 (by omega) x12.2.2 g17 g21 _)
     ·have g17:=(cnd_not_f (cnd_not_t cnd_id_f)) h17
      try simp only [Int.toNat_natCast] at g17
      exact k_again (⟨x12.1+1,by omega,first_next x12.2.2 (by omega) g17⟩) (fun _ hs=>hs.le (⟨.refl _,.refl _,.refl _,.refl _,.refl _,inc_ent (by omega),trivial⟩) (⟨.refl _,.refl _,trivial⟩)) (by dsimp only;omega)
    ·have g13:=(cnd_and_f cnd_dec_f cnd_dec_f) h13
     exact k_out (u6 g1 g5 (by omega) x12.1 (by omega) x12.2.2 _)
def chD (x y:Chn) (i:Nat):Bool := !sameB (chnS x i) (chnS y i)
def chM (x y:Chn):Nat:=min (x.n+1) (y.n+1)
theorem chM_of (x y:Chn):chM x y≤x.n+1∧chM x y≤y.n+1∧(chM x y=x.n+1∨chM x y=y.n+1):=by unfold chM;omega
theorem ccheat_c (b:Bas) (R:Nat→Nat→Int) (n:Nat) (x y:Chn) (hn:n≤1000) (hw:b.gr.W) (hx:x.n≤300) (hy:y.n≤300) (sx:∀ i,i<x.n+1→(chnS x i).Sm) (sy:∀ i,i<y.n+1→(chnS y i).Sm):Pure Tryz.prog gl0 11 [b.av,rcl n R,x.av,y.av] (chtV b R n x y (chD x y) (chM x y)):=by
 have hm:=chM_of x y
 have lx:=sx 0 (by omega)
 have ly:=sy 0 (by omega)
 refine cheat_w b R n x y (chvB b R n x) (chvB b R n y) (sharedL x.first y.first) (chD x y) (chM x y) (fun i=>prS b R n (chnS x i) (chnS y i)) (fun i=>prT b R n (chnS x i) (chnS y i)) (fun i=>prL b R n (chnS x i) (chnS y i)) (fun i=>prvE b R n (chnS x i) (chnS y i)) _ hw hx hy hm
  (Nat.le_trans (shared_le _ _) (Nat.le_trans lx.nl (by decide))) (cverify_c b R n x hn hx hw sx) (cverify_c b R n y hn hy hw sy) (fun hX hY=>?_) (fun i hi=>?_) (fun i hi=>?_) (fun h _=>cht_e (cht_1 h) (by decide)) (fun h h2 _=>cht_e (cht_2 h h2) (by decide)) (fun h h2 h3 _=>cht_e (cht_3 h h2 h3) (by decide))
  (fun h h2 h3 i hi hf hd he _=>Ent.of_eq (cht_ok h h2 h3 hi hf hd he)) (fun h h2 h3 i hi hf hd he _=>cht_er h h2 h3 hi hf hd he) (fun h h2 h3 i hi hf _=>cht_e (cht_no h h2 h3 hi hf) (by decide))
 ·have c:=xshared_c x.first y.first (Nat.le_trans lx.nl (by decide)) (Nat.le_trans ly.nl (by decide))
  have eX:okS x.first=true:=(vd_ok (chv_vd hX (i:=0) (by omega))).2
  have eY:okS y.first=true:=(vd_ok (chv_vd hY (i:=0) (by omega))).2
  rw [eX,eY] at c
  exact c
 ·have c:=csame_c (chnS x i) (chnS y i) ⟨Nat.le_trans (sx i (by omega)).nl (by decide),Nat.le_trans (sx i (by omega)).np (by decide)⟩ ⟨Nat.le_trans (sy i (by omega)).nl (by decide),Nat.le_trans (sy i (by omega)).np (by decide)⟩
  have e:(!chD x y i)=sameB (chnS x i) (chnS y i):=Bool.not_not _
  rw [e];exact c
 ·have ax:=sx i (by omega)
  have ay:=sy i (by omega)
  exact prove_c b R n _ _ hn hw (Nat.le_trans ax.nl (by decide)) (Nat.le_trans ay.nl (by decide)) ax.by_ ay.by_ (Nat.le_trans ax.np (by decide)) (Nat.le_trans ay.np (by decide)) ax.path ay.path
theorem rccheat_c (b:Bas) (R:Nat→Nat→Int) (n:Nat) (x y:Chn) (hn:n≤1000) (hw:b.gr.W) (hx:x.n≤300) (hy:y.n≤300) (sx:∀ i,i<x.n+1→(chnS x i).Sm) (sy:∀ i,i<y.n+1→(chnS y i).Sm):Pure Tryz.prog gl0 12 [b.av,rcl n R,x.av,y.av] (chtV b R n x y (chD x y) (chM x y)):=by
 have hm:=chM_of x y
 have lx:=sx 0 (by omega)
 have ly:=sy 0 (by omega)
 refine rcheat_w b R n x y (chvB b R n x) (chvB b R n y) (sharedL x.first y.first) (chD x y) (chM x y) (fun i=>prS b R n (chnS x i) (chnS y i)) (fun i=>prT b R n (chnS x i) (chnS y i)) (fun i=>prL b R n (chnS x i) (chnS y i)) (fun i=>prvE b R n (chnS x i) (chnS y i)) _ hw hx hy hm
  (Nat.le_trans (shared_le _ _) (Nat.le_trans lx.nl (by decide))) (rcverify_c b R n x hn hx hw sx) (rcverify_c b R n y hn hy hw sy) (fun hX hY=>?_) (fun i hi=>?_) (fun i hi=>?_) (fun h _=>cht_e (cht_1 h) (by decide)) (fun h h2 _=>cht_e (cht_2 h h2) (by decide)) (fun h h2 h3 _=>cht_e (cht_3 h h2 h3) (by decide))
  (fun h h2 h3 i hi hf hd he _=>Ent.of_eq (cht_ok h h2 h3 hi hf hd he)) (fun h h2 h3 i hi hf hd he _=>cht_er h h2 h3 hi hf hd he) (fun h h2 h3 i hi hf _=>cht_e (cht_no h h2 h3 hi hf) (by decide))
 ·exact rshared_y x.first y.first (Nat.le_trans lx.nl (by decide)) (Nat.le_trans ly.nl (by decide)) ⟨(vd_ok (chv_vd hX (i:=0) (by omega))).2,(vd_ok (chv_vd hY (i:=0) (by omega))).2⟩
 ·have c:=rsame_c (chnS x i) (chnS y i) ⟨Nat.le_trans (sx i (by omega)).nl (by decide),Nat.le_trans (sx i (by omega)).np (by decide)⟩ ⟨Nat.le_trans (sy i (by omega)).nl (by decide),Nat.le_trans (sy i (by omega)).np (by decide)⟩
  have e:(!chD x y i)=sameB (chnS x i) (chnS y i):=Bool.not_not _
  rw [e];exact c
 ·have ax:=sx i (by omega)
  have ay:=sy i (by omega)
  exact rprove_c b R n _ _ hn hw (Nat.le_trans ax.nl (by decide)) (Nat.le_trans ay.nl (by decide)) ax.by_ ay.by_ (Nat.le_trans ax.np (by decide)) (Nat.le_trans ay.np (by decide)) ax.path ay.path
theorem cheats_w (b:Bas) (R:Nat→Nat→Int) (n:Nat) (x y:Chn) (H E L:Int) (S T:Spend) (hx:x.n<9223372036854775808) (hy:y.n<9223372036854775808)
  (c2:n≤1000→longK x=false→longK y=false→Pure Tryz.prog gl0 11 [b.av,rcl n R,x.av,y.av] (.tup [.int .i64 H,gul S T L,.int .i64 E]))
  (c3:n≤1000→longK x=false→longK y=false→Pure Tryz.prog gl0 12 [b.av,rcl n R,x.av,y.av] (.tup [.int .i64 H,gul S T L,.int .i64 E]))
  (hS:longK x=false→longK y=false→(S.nl≤1000∧S.np≤1000)∧(T.nl≤1000∧T.np≤1000)):Pure Tryz.prog gl0 4 [b.av,rcl n R,x.av,y.av] (.bool true):=by
 have c1:=few35_2 x y hx hy
 have c4:=fun h1 h2 h3 h4=>same33_c S T L h1 h2 h3 h4
 refine pure_sk (own:=ow0) Tryz.func4 (by kernel_rfl) mixed (by kernel_rfl)
  (let y0:List AV:=[AV.agg (Bas.cells b),AV.isl 11 n fun (i j:Nat)=>Zi (R i j),AV.agg (Chn.cells x),AV.agg (Chn.cells y)];(.sc (true) 7 ([]) (AV.bool true) (.sc (true) 8 ([AV.isl 81 2 fun (r k:Nat)=>atL (List.getD [Chn.cells x,Chn.cells y] (r+0) []) k]) (AV.bool !(longK x||longK y)) (.br (!!(longK x||longK y)||decide ((↑n:Int)>60)) (.sc (true) 7 ([]) (AV.bool true) (.out (AV.bool true) [] (AV.bool true) [])) (.dc (true) 11 (y0) (AV.tup [Zi H,gul S T L,Zi E]) (.dc (true) 12 (y0) (AV.tup [Zi H,gul S T L,Zi E]) (.sc ((H==H)==true) 13 ([AV.agg (Spend.cells S++(Spend.cells T++[Zi L])),AV.agg (Spend.cells S++(Spend.cells T++[Zi L]))]) (AV.bool true) (.out (AV.bool ((H==H||false)&&E==E)) [] (AV.bool true) []))))))))
  (by kernel_rfl) ?_
 refine k_sc (awake35_c) ?_
 refine k_sc (c1) ?_
 refine k_br (fun h2=>?_) (fun h2=>?_)
 ·have g2:=(cnd_or_t (cnd_not_t (cnd_not_f (cnd_or_t cnd_id_t cnd_id_t))) cnd_dec_t) h2
  refine k_sc (awake35_c) ?_
  exact k_out (Ent.of_eq rfl)
 ·have g2:=(cnd_or_f (cnd_not_f (cnd_not_t (cnd_or_f cnd_id_f cnd_id_f))) cnd_dec_f) h2
  refine k_dc (c2 (by first|omega|exact g2.1.1|exact g2.1.2|exact (hS g2.1.1 g2.1.2).1.1|exact (hS g2.1.1 g2.1.2).1.2|exact (hS g2.1.1 g2.1.2).2.1|exact (hS g2.1.1 g2.1.2).2.2) (by first|omega|exact g2.1.1|exact g2.1.2|exact (hS g2.1.1 g2.1.2).1.1|exact (hS g2.1.1 g2.1.2).1.2|exact (hS g2.1.1 g2.1.2).2.1|exact (hS g2.1.1 g2.1.2).2.2) (by first|omega|exact g2.1.1|exact g2.1.2|exact (hS g2.1.1 g2.1.2).1.1|exact (hS g2.1.1 g2.1.2).1.2|exact (hS g2.1.1 g2.1.2).2.1|exact (hS g2.1.1 g2.1.2).2.2)) ?_
  refine k_dc (c3 (by first|omega|exact g2.1.1|exact g2.1.2|exact (hS g2.1.1 g2.1.2).1.1|exact (hS g2.1.1 g2.1.2).1.2|exact (hS g2.1.1 g2.1.2).2.1|exact (hS g2.1.1 g2.1.2).2.2) (by first|omega|exact g2.1.1|exact g2.1.2|exact (hS g2.1.1 g2.1.2).1.1|exact (hS g2.1.1 g2.1.2).1.2|exact (hS g2.1.1 g2.1.2).2.1|exact (hS g2.1.1 g2.1.2).2.2) (by first|omega|exact g2.1.1|exact g2.1.2|exact (hS g2.1.1 g2.1.2).1.1|exact (hS g2.1.1 g2.1.2).1.2|exact (hS g2.1.1 g2.1.2).2.1|exact (hS g2.1.1 g2.1.2).2.2)) ?_
  refine k_scg (fun h7=>c4 (by first|omega|exact g2.1.1|exact g2.1.2|exact (hS g2.1.1 g2.1.2).1.1|exact (hS g2.1.1 g2.1.2).1.2|exact (hS g2.1.1 g2.1.2).2.1|exact (hS g2.1.1 g2.1.2).2.2) (by first|omega|exact g2.1.1|exact g2.1.2|exact (hS g2.1.1 g2.1.2).1.1|exact (hS g2.1.1 g2.1.2).1.2|exact (hS g2.1.1 g2.1.2).2.1|exact (hS g2.1.1 g2.1.2).2.2) (by first|omega|exact g2.1.1|exact g2.1.2|exact (hS g2.1.1 g2.1.2).1.1|exact (hS g2.1.1 g2.1.2).1.2|exact (hS g2.1.1 g2.1.2).2.1|exact (hS g2.1.1 g2.1.2).2.2) (by first|omega|exact g2.1.1|exact g2.1.2|exact (hS g2.1.1 g2.1.2).1.1|exact (hS g2.1.1 g2.1.2).1.2|exact (hS g2.1.1 g2.1.2).2.1|exact (hS g2.1.1 g2.1.2).2.2)) ?_
  exact k_out (Ent.of_eq (by simp))
theorem prS_2 {b:Bas} {R:Nat→Nat→Int} {n:Nat} {s t:Spend} (h:s.nl≤1000∧s.np≤1000):(prS b R n s t).nl≤1000∧(prS b R n s t).np≤1000:=by
 unfold prS
 split
 ·exact h
 ·exact zero_1
theorem prT_2 {b:Bas} {R:Nat→Nat→Int} {n:Nat} {s t:Spend} (h:t.nl≤1000∧t.np≤1000):(prT b R n s t).nl≤1000∧(prT b R n s t).np≤1000:=by
 unfold prT
 split
 ·exact h
 ·exact zero_1
theorem cht_S {b:Bas} {R:Nat→Nat→Int} {n:Nat} {x y:Chn} {D:Nat→Bool} {m:Nat} (h:∀ i,i<m→((chnS x i).nl≤1000∧(chnS x i).np≤1000)∧((chnS y i).nl≤1000∧(chnS y i).np≤1000)) :
  ((chtS b R n x y D m).nl≤1000∧(chtS b R n x y D m).np≤1000)∧((chtT b R n x y D m).nl≤1000∧(chtT b R n x y D m).np≤1000):=by
 by_cases hi:(chtI D m).toNat<m
 ·refine ⟨?_,?_⟩
  ·unfold chtS
   split
   ·exact prS_2 (h _ hi).1
   ·exact zero_1
  ·unfold chtT
   split
   ·exact prT_2 (h _ hi).2
   ·exact zero_1
 ·have e:m=0:=by
   have hlt:=firstI_lt (p:=D) m 0
   unfold chtI at hi
   omega
  subst e
  have he:¬chtE b R n x y D 0=0:=by
   have h0:chtI D 0 = -1:=rfl
   unfold chtE
   split
   ·decide
   ·split
    ·decide
    ·split
     ·decide
     ·rw [h0,if_pos (by decide)];decide
  unfold chtS chtT
  rw [if_neg he,if_neg he]
  exact ⟨zero_1,zero_1⟩
theorem chainCheats_c (b:Bas) (R:Nat→Nat→Int) (n:Nat) (x y:Chn) (hw:b.gr.W) (hx:x.n<9223372036854775808) (hy:y.n<9223372036854775808) (bx:∀ i,i<x.n+1→(chnS x i).SB) (by_:∀ i,i<y.n+1→(chnS y i).SB) :
  Pure Tryz.prog gl0 4 [b.av,rcl n R,x.av,y.av] (.bool true):=by
 refine cheats_w b R n x y (chtH b R n x y (chD x y) (chM x y)) (chtE b R n x y (chD x y) (chM x y)) (chtL b R n x y (chD x y) (chM x y)) (chtS b R n x y (chD x y) (chM x y)) (chtT b R n x y (chD x y) (chM x y)) hx hy (fun hn h1 h2=>?_) (fun hn h1 h2=>?_) (fun h1 h2=>?_)
 ·exact ccheat_c b R n x y hn hw (longK_sm h1 bx).1 (longK_sm h2 by_).1 (longK_sm h1 bx).2 (longK_sm h2 by_).2
 ·exact rccheat_c b R n x y hn hw (longK_sm h1 bx).1 (longK_sm h2 by_).1 (longK_sm h1 bx).2 (longK_sm h2 by_).2
 ·have hm:=chM_of x y
  refine cht_S fun i hi=>?_
  have ax:=(longK_sm h1 bx).2 i (by omega)
  have ay:=(longK_sm h2 by_).2 i (by omega)
  exact ⟨⟨Nat.le_trans ax.nl (by decide),Nat.le_trans ax.np (by decide)⟩,⟨Nat.le_trans ay.nl (by decide),Nat.le_trans ay.np (by decide)⟩⟩
end Go.Proofs.YtolcfdcoidpieaaGreatDoor

namespace Go.Sp
open Go Go.Am
def u8s (n:Nat):List CT:=List.replicate n (.int .u8)
def spendT:List CT:=[.int .i64,.int .i64,.int .i64,.int .i64,.int .i64]++u8s 32++[.int .i64,.int .i64,.int .i64,.int .i64,.int .i64,.int .i64]++u8s 32++[.int .i64,.int .i64,.sl [.int .i64,.int .i64,.int .i64],.int .i64,.sl (u8s 32)]
def spendOf (g:Nat→AV):Spend :=
  { bank:=intOfAV (g 0),epoch:=intOfAV (g 1),denom:=intOfAV (g 2),depth:=intOfAV (g 3),a:=intOfAV (g 4),root:=fun j=>intOfAV (g (5+j)),
    z:=intOfAV (g 37),sa:=intOfAV (g 38),sb:=intOfAV (g 39),r:=intOfAV (g 40),level:=intOfAV (g 41),index:=intOfAV (g 42),payee:=fun j=>intOfAV (g (43+j)),
    time:=intOfAV (g 75),number:=intOfAV (g 76),nl:=islN (g 77),lf:=fun i j=>intOfAV (islF (g 77) i j),pidx:=intOfAV (g 78),np:=islN (g 79),pf:=fun i j=>intOfAV (islF (g 79) i j) }
def i64s (n:Nat):List CT:=List.replicate n (.int .i64)
def chnT:List CT:=spendT++[.sl spendT]
def chnOf (g:Nat→AV):Chn:=⟨spendOf g,islN (g 80),fun i=>spendOf (islF (g 80) i)⟩
def basOf (g:Nat→AV):Bas:=⟨⟨intOfAV (g 0),intOfAV (g 1),intOfAV (g 2)⟩,intOfAV (g 3),intOfAV (g 4),intOfAV (g 5)⟩
theorem cell_i64 {a:AV} (h:CellOk (.int .i64) a) : -9223372036854775808≤intOfAV a∧intOfAV a≤9223372036854775807:=by
 obtain ⟨h1,h2⟩:=(Lit.wf_int_iff _ _).1 h.int_inv
 exact ⟨Int.le_trans (by decide) h1,Int.le_trans h2 (by decide)⟩
theorem cell_u8 {a:AV} (h:CellOk (.int .u8) a):0≤intOfAV a∧intOfAV a<256:=by
 obtain ⟨h1,h2⟩:=(Lit.wf_int_iff _ _).1 h.int_inv
 exact ⟨Int.le_trans (by decide) h1,Int.lt_of_le_of_lt h2 (by decide)⟩
theorem u8_by {ts:List CT} {g:Nat→AV} {k n:Nat} (h:∀ (j:Nat) c,ts[j]? = some c→CellOk c (g j)) (ht:∀ j,j<n→ts[k+j]? = some (.int .u8)):byB (fun j=>intOfAV (g (k+j))) n:=fun i hi=>cell_u8 (h (k+i) _ (ht i hi))
theorem basOf_w {g:Nat→AV} (h:∀ (j:Nat) c,(i64s 6)[j]? = some c→CellOk c (g j)):(basOf g).gr.W :=
 ⟨(cell_i64 (h 0 _ rfl)).2,(cell_i64 (h 1 _ rfl)).2⟩
def spA:List CT:=[.int .i64,.int .i64,.int .i64,.int .i64,.int .i64]
def spB:List CT:=[.int .i64,.int .i64,.int .i64,.int .i64,.int .i64,.int .i64]
def spC:List CT:=[.int .i64,.int .i64,.sl [.int .i64,.int .i64,.int .i64],.int .i64,.sl (u8s 32)]
theorem spendT_root:∀ j,j<32→spendT[5+j]? = some (.int .u8):=fun j hj=>by
 show (((spA++u8s 32)++spB)++u8s 32++spC)[5+j]? = _
 rw [List.append_assoc,List.append_assoc,List.getElem?_append_left (by simp only [spA,u8s,List.length_append,List.length_replicate,List.length_cons,List.length_nil];omega),
  List.getElem?_append_right (by show 5≤_;omega)]
 unfold u8s
 rw [List.getElem?_replicate,if_pos (by show 5+j - 5<32;omega)]
theorem spendT_payee:∀ j,j<32→spendT[43+j]? = some (.int .u8):=fun j hj=>by
 show (((spA++u8s 32)++spB)++u8s 32++spC)[43+j]? = _
 have e:((spA++u8s 32)++spB).length=43:=by simp [spA,spB,u8s]
 rw [List.append_assoc,List.getElem?_append_right (by omega),e,List.getElem?_append_left (by simp only [u8s,List.length_replicate];omega)]
 unfold u8s
 rw [List.getElem?_replicate,if_pos (by omega)]
theorem spend_by {g:Nat→AV} (h:∀ (j:Nat) c,spendT[j]? = some c→CellOk c (g j)):(spendOf g).By:=⟨u8_by (k:=5) h spendT_root,u8_by (k:=43) h spendT_payee⟩
theorem u8s_at {k:Nat} (h:k<32):(u8s 32)[k]? = some (.int .u8):=by
 unfold u8s
 rw [List.getElem?_replicate,if_pos h]
theorem spend_sb {g:Nat→AV} (h:∀ (j:Nat) c,spendT[j]? = some c→CellOk c (g j)):(spendOf g).SB :=
 ⟨spend_by h,fun j hj k hk=>cell_u8 ((h 79 (.sl (u8s 32)) rfl).sl_inv.2 j k (.int .u8) hj (u8s_at hk))⟩
theorem chn_sb {g:Nat→AV} (h:∀ (j:Nat) c,chnT[j]? = some c→CellOk c (g j)):∀ i,i<(chnOf g).n+1→(chnS (chnOf g) i).SB:=fun i hi=>by
 cases i with
 | zero=>exact spend_sb fun j c hj=>h j c (by
   show (spendT++[.sl spendT])[j]? = _
   rw [List.getElem?_append_left (List.getElem?_eq_some_iff.1 hj).1]
   exact hj)
 | succ i=>exact spend_sb fun j c hj=>(h 80 (.sl spendT) rfl).sl_inv.2 i j c (Nat.lt_of_succ_lt_succ hi) hj
theorem chn_len {g:Nat→AV} (h:∀ (j:Nat) c,chnT[j]? = some c→CellOk c (g j)):(chnOf g).n<9223372036854775808 :=
 Nat.lt_of_le_of_lt ((h 80 (.sl spendT) rfl).sl_inv).1 (by decide)
end Go.Sp

namespace Go.Am
open Go
theorem laid_at {P:Program} {w:World}:∀ {laid:List (String×DataW Unit)} {ps:List MemPlace},DataW.LaidVars P w laid ps→∀ {i:Nat} {n:String} {d:DataW Unit},laid[i]? = some (n,d) →
  ∃ g t cs fuel p,P.globalNamed n=some g∧(P.globals[g]?).map (·.type)=some t∧w.var? P n=some cs∧DataW.trod (fun _=>()) P w 0 (fun _=>true) false fuel t cs.toList=some (d,p)
 | [],_,_,i,n,d,h=>by simp at h
 | (n',d')::r,ps,⟨g,t,cs,fuel,p,q,h1,h2,h3,h4,_,_⟩,0,n,d,h=>by
  simp only [List.getElem?_cons_zero,Option.some.injEq,Prod.mk.injEq] at h
  obtain ⟨rfl,rfl⟩:=h
  exact ⟨g,t,cs,fuel,p,h1,h2,h3,h4⟩
 | (n',d')::r,ps,⟨g,t,cs,fuel,p,q,h1,h2,h3,h4,h5,_⟩,i+1,n,d,h=>laid_at h5 (by simpa using h)
def arrOk (P:Program) (g n:Nat) (k:IntKind):Bool :=
 match (P.globals[g]?).map (·.type) with
 | some t =>
  match P.underlying t with
  | some (.array m e) =>
   match P.underlying e with
   | some (.int k')=>Nat.beq m n&&Nat.beq (P.cellsOf e) 1&&decide (k'=k)
   | _=>false
  | _=>false
 | none=>false
theorem arrOk_inv {P:Program} {g n:Nat} {k:IntKind} (h:arrOk P g n k=true):∃ t e,(P.globals[g]?).map (·.type)=some t∧P.underlying t=some (.array n e)∧P.underlying e=some (.int k)∧P.cellsOf e=1:=by
 unfold arrOk at h
 split at h
 ·rename_i t ht
  split at h
  ·rename_i m e hu
   split at h
   ·rename_i k' he
    simp only [Bool.and_eq_true,decide_eq_true_eq,Nat.beq_eq] at h
    obtain ⟨⟨rfl,h2⟩,rfl⟩:=h
    exact ⟨t,e,ht,hu,he,h2⟩
   ·cases h
  ·cases h
 ·cases h
theorem glob_ints {P:Program} {w:World} {β:Book} {laid:List (String×DataW Unit)} (h:laidMetH P laid w) (hp:(laid.all fun x=>x.2.handleName?.isNone)=true) (i:Nat) (name:String) {g n:Nat}
  {k:IntKind} {F:Nat→Int} (hl:laid[i]? = some (name,.agg ((List.range n).map fun j=>.lit (.int k (F j))))) (hg:P.globalNamed name=some g) (ho:arrOk P g n k=true) (hn:0<n) (hb:β.free g):Rel β w (.ipt n fun j=>.int k (F j)) (.pointer (some ⟨g,0,none⟩)):=by
 obtain ⟨t,e,ht,hu,he,hc⟩:=arrOk_inv ho
 rw [MakeChecks.laidMetH_plain _ _ _ hp] at h
 obtain ⟨ps,hv,_,_⟩:=h
 obtain ⟨g',t',cs,fuel,p,h1,h2,h3,h4⟩:=laid_at hv hl
 obtain rfl:=Option.some.inj (hg.symm.trans h1)
 obtain rfl:=Option.some.inj (ht.symm.trans h2)
 obtain ⟨xs,m,rfl,hx,hlen,hxl,hel⟩:=DataW.trod_array hu h4
 simp only [Prod.mk.injEq,DataW.agg.injEq] at hx
 obtain ⟨hx,_⟩:=hx
 have cell:∀ j,j<n→cs[j]? = some (.int k (F j)):=fun j hj=>by
  have hj':=hel j hj
  rw [hc,Nat.mul_one,List.getElem?_eq_getElem (by omega:j<xs.length)] at hj'
  obtain ⟨v,e1,e2,_⟩:=DataW.trod_int he hj'
  have e3:(xs.map (·.1))[j]? = some (.lit (.int k v)):=by rw [List.getElem?_map,List.getElem?_eq_getElem (by omega:j<xs.length),e2];rfl
  rw [← hx] at e3
  simp only [List.getElem?_map,List.getElem?_range hj,Option.map_some,Option.some.injEq,DataW.lit.injEq,Lit.int.injEq,true_and] at e3
  subst e3
  have e4:(List.take 1 (List.drop j cs.toList))[0]? = some (.int k (F j)):=by rw [e1];rfl
  rw [List.getElem?_take_of_lt (by decide),List.getElem?_drop,Nat.add_zero] at e4
  simpa using e4
 refine .ipt (fun j=>.int k (F j)) hn hb (fun j hj => ?_) (fun _ _=>rfl) (fun _ _=>.int) (fun _ _=>.int)
 rw [World.var?_cell hg h3]
 simpa using cell j hj
end Go.Am
