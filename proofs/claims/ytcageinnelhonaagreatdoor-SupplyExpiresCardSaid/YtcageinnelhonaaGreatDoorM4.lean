/- Part of the proof: AS11, Tag, AS12, AS13, AS14, AS15, Enc, AS16, EnOpen, EnRow, EnArg, Item, AS17, AS18, AS19, AS20, Led, AX1, Nod, Inv, Exp, Exp2, Tre, Rec, Crt, Cval, Prd. -/
import Derived.Test.YtcageinnelhonaaGreatDoorM3
import Derived.Test.YtcageinnelhonaaGreatDoorProg
import Derived.Test.YtcageinnelhonaaGreatDoorM2
import Derived.ProofKit
import Derived.Deep.Slices
namespace Go.Proofs.YtcageinnelhonaaGreatDoor
open Go.IntKind (wrap)
open Int (toNat)
open Go Go.Am Go.Sp
set_option maxRecDepth 100000
theorem constants_c:Pure Tryz.prog gl0 331 [] (.isl 1 64 fun i _=>.int .u32 (kF i)):=by
 exact pz Tryz.func331 (by
  exact n_out (Ent.isl (fun r j hr hj=>by (obtain rfl:j=0:=Nat.lt_one_iff.1 hj);exact getD_rows (l:=kL) (k:=.u32) hr)))
theorem padded_c (f:Nat→Int) (n:Nat) (hn:n≤1099511627776):Pure Tryz.prog gl0 332 [bys n f] (bys (padLen n) (padF n f)):=by
 have pl:=pad_len n
 exact pz Tryz.func332 (by
  apply n_req ((0+n)*1≤140737488355328)
  apply n_req ((0+n+1)*1≤140737488355328)
  apply n_loopx ({ x:Nat // x≤padLen n - n - 9 }) [0,3] [40] (fun x=>[.isl 1 n fun i x=>Zb (f i),.osl 0 1 0 (n+1+x.1)]) (fun x=>[some ⟨1,n+1+x.1,true,.fn fun i x=>Zb (pad0 n f i)⟩]) (fun x=>padLen n - n - 9 - x.1) (⟨0,Nat.zero_le (padLen n - n - 9)⟩) [.isl 1 n fun i x=>Zb (f i),.osl 0 1 0 (0+n+1)] [some ⟨1,0+n+1,true,.fn fun i j=>Zb (bif Nat.blt i (0+n) then f i else intOfAV (atL [Zb 128] j))⟩] (⟨by exact Ent.refl _,Ent.of_eq (congrArg (AV.osl 0 1 0) (by simp)),trivial⟩) (⟨by simp [Nat.zero_add,pad_ob],trivial⟩)
  intro x2
  try (have q2:=x2.2;dsimp only at q2)
  apply n_br (Int.tmod (↑(n+1+x2.1):Int) (64:Int) != 56)
  ·intro g3
   apply n_req ((n+1+x2.1+1)*1≤140737488355328)
   exact n_againx [49] (⟨x2.1+1,pad_lt x2.2 g3⟩) [.isl 1 n fun i x=>Zb (f i),.osl 0 1 0 (n+1+x2.1+1)] [some ⟨1,n+1+x2.1+1,true,.fn fun i j=>Zb (bif Nat.blt i (n+1+x2.1) then pad0 n f i else intOfAV (atL [Zb 0] j))⟩] (by repeat' (first|exact trivial|(first|exact Ent.refl _|exact inc_ent (by omega)|exact Ent.nil rfl|exact Ent.of_eq (congrArg (AV.osl _ _ _) (by rfl))|exact Ent.of_eq (congrArg (AV.int _) (by rfl)))|refine And.intro ?_ ?_)) (⟨ObEnt.pushF (F:=pad0 n f) rfl (pad0_z (by omega)).symm,trivial⟩)
  ·intro g3
   apply n_dc (rbytes_c (wrap .i64 ((8:Int)*(↑n:Int))) (by grind [wI]) (by grind [wI]))
   apply n_req ((n+1+x2.1+8)*1≤140737488355328)
   exact n_outx (.isl 1 (n+1+x2.1+8) fun r k=>Zb (bif Nat.blt (r+0) (n+1+x2.1) then pad0 n f (r+0) else be8 (wrap .i64 ((8:Int)*(n:Int))) (r+0 - (n+1+x2.1)))) (bys_eq (pad_fin x2.2 g3) (fun i hi=>by rw [wI (by omega) (by omega)];grind [pad_eq,pad_fin])))
theorem rwords_c (b:Nat→Int) (hb:byB b 64):Pure Tryz.prog gl0 333 [bys 64 b] (.isl 1 64 fun i _=>.int .u32 (wordF b i)):=by
 exact pz Tryz.func333 (by
  apply n_loopx ({ x:Nat // x≤16 }) [0,3,4] [280] (fun x=>[.isl 1 64 fun i x=>Zb (b i),.osl 0 1 0 (x.1),Zi x.1]) (fun x=>[some ⟨1,x.1,true,.fn fun q x=>Zw (be4 b q)⟩]) (fun x=>16 - x.1) (⟨0,Nat.zero_le 16⟩) [.isl 1 64 fun i x=>Zb (b i),.nsl,Zi 0] [some ⟨1,0,true,.ty (999999999:TypeId) (.lst [])⟩] (by repeat' (first|exact trivial|(first|exact Ent.refl _|exact inc_ent (by omega)|exact Ent.nil rfl|exact Ent.of_eq (congrArg (AV.osl _ _ _) (by rfl))|exact Ent.of_eq (congrArg (AV.int _) (by rfl)))|refine And.intro ?_ ?_)) (by repeat' (first|exact trivial|(first|exact ObEnt.refl _|exact ObEnt.junk|exact ObEnt.zero|exact ObEnt.push rfl rfl|exact ObEnt.pushRow rfl|exact ObEnt.len (by omega)|exact ObEnt.row (by repeat' (first|exact trivial|(first|exact Ent.refl _|exact inc_ent (by omega)|exact Ent.nil rfl|exact Ent.of_eq (congrArg (AV.osl _ _ _) (by rfl))|exact Ent.of_eq (congrArg (AV.int _) (by rfl)))|refine And.intro ?_ ?_)))|refine And.intro ?_ ?_))
  intro x0
  try (have q0:=x0.2;dsimp only at q0)
  apply n_bd ((x0.1:Int)<16)
  ·intro g1
   apply n_loopx ({ x:Nat // x≤4 }) [0,3,4,5,6] [0] (fun x=>[.isl 1 64 fun i x=>Zb (b i),.osl 0 1 0 x0.1,Zi x0.1,Zw (preB b (x0.1) (x.1)),Zi x.1]) (fun _=>[some ⟨1,x0.1,true,.fn fun i j=>Zw (be4 b i)⟩]) (fun x=>4 - x.1) (⟨0,Nat.zero_le 4⟩) [.isl 1 64 fun i x=>Zb (b i),.osl 0 1 0 x0.1,Zi x0.1,Zw 0,Zi 0] [some ⟨1,x0.1,true,.fn fun i j=>Zw (be4 b i)⟩] (by repeat' (first|exact trivial|(first|exact Ent.refl _|exact inc_ent (by omega)|exact Ent.nil rfl|exact Ent.of_eq (congrArg (AV.osl _ _ _) (by rfl))|exact Ent.of_eq (congrArg (AV.int _) (by rfl)))|refine And.intro ?_ ?_)) (by repeat' (first|exact trivial|(first|exact ObEnt.refl _|exact ObEnt.junk|exact ObEnt.zero|exact ObEnt.push rfl rfl|exact ObEnt.pushRow rfl|exact ObEnt.len (by omega)|exact ObEnt.row (by repeat' (first|exact trivial|(first|exact Ent.refl _|exact inc_ent (by omega)|exact Ent.nil rfl|exact Ent.of_eq (congrArg (AV.osl _ _ _) (by rfl))|exact Ent.of_eq (congrArg (AV.int _) (by rfl)))|refine And.intro ?_ ?_)))|refine And.intro ?_ ?_))
   intro x2
   try (have q2:=x2.2;dsimp only at q2)
   apply n_bd ((x2.1:Int)<4)
   ·intro g3
    apply n_req ((0:Int)≤wrap .i64 (wrap .i64 ((4:Int)*(x0.1:Int))+(x2.1:Int))∧wrap .i64 (wrap .i64 ((4:Int)*(x0.1:Int))+(x2.1:Int))<64) (by grind [w4k])
    exact n_againx [0] (⟨x2.1+1,by omega⟩) [.isl 1 64 fun i x=>Zb (b i),.osl 0 1 0 x0.1,Zi x0.1,Zw (wrap .u32 (wrap .u32 (preB b x0.1 x2.1*256)+wrap .u32 (b (toNat (wrap .i64 (wrap .i64 ((4:Int)*(x0.1:Int))+(x2.1:Int))))))),Zi (wrap .i64 ((x2.1:Int)+1))] [some ⟨1,x0.1,true,.fn fun i j=>Zw (be4 b i)⟩] (⟨by exact Ent.refl _,by exact Ent.refl _,by exact Ent.refl _,Ent.of_eq (congrArg _ (by rw [w4k (by omega) (by omega),show toNat (4*(x0.1:Int)+x2.1)=4*x0.1+x2.1 by omega];have p:=pre_b24 (k:=x2.1) hb (show x0.1<16 by omega) (by omega);have q:=hb (4*x0.1+x2.1) (by omega);exact pre_add p.1 p.2 q.1 q.2)),by grind [inc_ent],trivial⟩) (by repeat' (first|exact trivial|(first|exact ObEnt.refl _|exact ObEnt.junk|exact ObEnt.zero|exact ObEnt.push rfl rfl|exact ObEnt.pushRow rfl|exact ObEnt.len (by omega)|exact ObEnt.row (by repeat' (first|exact trivial|(first|exact Ent.refl _|exact inc_ent (by omega)|exact Ent.nil rfl|exact Ent.of_eq (congrArg (AV.osl _ _ _) (by rfl))|exact Ent.of_eq (congrArg (AV.int _) (by rfl)))|refine And.intro ?_ ?_)))|refine And.intro ?_ ?_))
   ·intro g3
    apply n_req ((x0.1+1)*4≤140737488355328)
    exact n_up <| n_againx [41] (⟨x0.1+1,by omega⟩) [.isl 1 64 fun i x=>Zb (b i),.osl 0 1 0 (x0.1+1),Zi (wrap .i64 ((x0.1:Int)+1))] [some ⟨1,x0.1+1,true,.fn fun i j=>Zw (bif Nat.blt i x0.1 then be4 b i else intOfAV (atL [Zw (preB b (x0.1) (x2.1))] j))⟩] (by repeat' (first|exact trivial|(first|exact Ent.refl _|exact inc_ent (by omega)|exact Ent.nil rfl|exact Ent.of_eq (congrArg (AV.osl _ _ _) (by rfl))|exact Ent.of_eq (congrArg (AV.int _) (by rfl)))|refine And.intro ?_ ?_)) (⟨ObEnt.pushF (F:=be4 b) rfl (by show preB b x0.1 x2.1=preB b x0.1 4;grind),trivial⟩)
  ·intro g1
   apply n_loopx ({ x:Nat // x≤48 }) [3,7] [0] (fun x=>[.osl 0 1 0 (16+x.1),Zi (↑(16+x.1):Int)]) (fun x=>[some ⟨1,16+x.1,true,.fn fun q x=>Zw (wordF b q)⟩]) (fun x=>48 - x.1) (⟨0,Nat.zero_le 48⟩) [.osl 0 1 0 x0.1,Zi 16] [some ⟨1,x0.1,true,.fn fun i j=>Zw (be4 b i)⟩] (⟨Ent.of_eq (congrArg (AV.osl 0 1 0) (by grind)),by exact Ent.refl _,trivial⟩) (⟨ObEnt.fnF (by grind) (fun i hi=>(word_lo (by omega)).symm),trivial⟩)
   intro x8
   try (have q8:=x8.2;dsimp only at q8)
   apply n_bd ((↑(16+x8.1):Int)<64)
   ·intro g9
    apply n_req ((0:Int)≤wrap .i64 ((↑(16+x8.1):Int) - 15)∧wrap .i64 ((↑(16+x8.1):Int) - 15)<(↑(16+x8.1):Int)) (by grind [wI])
    apply n_req ((0:Int)≤wrap .i64 ((↑(16+x8.1):Int) - 2)∧wrap .i64 ((↑(16+x8.1):Int) - 2)<(↑(16+x8.1):Int)) (by grind [wI])
    apply n_sc ((fun (x:Int)=>rright_c x (7:Nat)) (wordF b (toNat (wrap .i64 ((↑(16+x8.1):Int) - (15:Int)))+0)) (by omega) (by omega))
    apply n_sc ((fun (x:Int)=>rright_c x (18:Nat)) (wordF b (toNat (wrap .i64 ((↑(16+x8.1):Int) - (15:Int)))+0)) (by omega) (by omega))
    apply n_sc ((fun (x:Int)=>rright_c x (17:Nat)) (wordF b (toNat (wrap .i64 ((↑(16+x8.1):Int) - (2:Int)))+0)) (by omega) (by omega))
    apply n_sc ((fun (x:Int)=>rright_c x (19:Nat)) (wordF b (toNat (wrap .i64 ((↑(16+x8.1):Int) - (2:Int)))+0)) (by omega) (by omega))
    apply n_req ((0:Int)≤wrap .i64 ((↑(16+x8.1):Int) - 16)∧wrap .i64 ((↑(16+x8.1):Int) - 16)<(↑(16+x8.1):Int)) (by grind [wI])
    apply n_req ((0:Int)≤wrap .i64 ((↑(16+x8.1):Int) - 7)∧wrap .i64 ((↑(16+x8.1):Int) - 7)<(↑(16+x8.1):Int)) (by grind [wI])
    apply n_req ((16+x8.1+1)*4≤140737488355328)
    exact n_againx [393] (⟨x8.1+1,by omega⟩) [.osl 0 1 0 (16+x8.1+1),Zi (wrap .i64 ((↑(16+x8.1):Int)+1))] [some ⟨1,16+x8.1+1,true,.fn fun i j=>Zw (bif Nat.blt i (16+x8.1) then wordF b i else intOfAV (atL [Zw (wrap .u32 (wrap .u32 (wrap .u32 (wordF b (toNat (wrap .i64 ((↑(16+x8.1):Int) - 16))+0)+wrap .u32 (↑(BitVec.toNat (BitVec.ofInt 32 (wrap .u32 (↑(BitVec.toNat (BitVec.ofInt 32 (rotr (wordF b (toNat (wrap .i64 ((↑(16+x8.1):Int) - 15))+0)) 7) ^^^ BitVec.ofInt 32 (rotr (wordF b (toNat (wrap .i64 ((↑(16+x8.1):Int) - 15))+0)) 18))):Int)) ^^^ BitVec.ofInt 32 (Int.fdiv (wordF b (toNat (wrap .i64 ((↑(16+x8.1):Int) - 15))+0)) ((2:Int)^3)))):Int))+wordF b (toNat (wrap .i64 ((↑(16+x8.1):Int) - 7))+0))+wrap .u32 (↑(BitVec.toNat (BitVec.ofInt 32 (wrap .u32 (↑(BitVec.toNat (BitVec.ofInt 32 (rotr (wordF b (toNat (wrap .i64 ((↑(16+x8.1):Int) - 2))+0)) 17) ^^^ BitVec.ofInt 32 (rotr (wordF b (toNat (wrap .i64 ((↑(16+x8.1):Int) - 2))+0)) 19))):Int)) ^^^ BitVec.ofInt 32 (Int.fdiv (wordF b (toNat (wrap .i64 ((↑(16+x8.1):Int) - 2))+0)) ((2:Int)^10)))):Int)))] j))⟩] (⟨by exact Ent.refl _,inc_ent (i:=16+x8.1) (by omega),trivial⟩) (⟨ObEnt.pushF (F:=wordF b) rfl (by
                                                                                                      simp only [back_w (t:=x8.1) (d:=15) (k:=15) rfl (by omega) (by omega),back_w (t:=x8.1) (d:=2) (k:=2) rfl (by omega) (by omega),back_w (t:=x8.1) (d:=7) (k:=7) rfl (by omega) (by omega),back_w (t:=x8.1) (d:=16) (k:=16) rfl (by omega) (by omega),Nat.add_zero,shr_eq]
                                                                                                      exact (word_hi (j:=16+x8.1) (by omega)).symm),trivial⟩)
   ·intro g9
    exact n_outx (.isl 1 (16+x8.1) fun r k=>Zw (wordF b (r+0))) (Ent.islN (by omega) (fun i j _ _=>rfl)))
theorem rwords_m (b:Nat→Int) (m:Nat) (hm:m=64) (hb:byB b 64):Pure Tryz.prog gl0 333 [bys m b] (.isl 1 64 fun i _=>.int .u32 (wordF b i)):=by grind [rwords_c]
theorem rsum_r (f:Nat→Int) (n:Nat) (hn:n≤1099511627776) (hf:byB f n) (w ST:Nat→Nat→Int) (R:Nat→Nat→Nat→Int) (h0:ST 0=stF) (hw:∀ (k:Nat) (q:Nat→Int) (i:Nat),(∀ i,i<64→q i=padF n f (64*k+i))→wordF q i=w k i)
  (hR:∀ k,Rnd (ST k) (w k) (R k)) (hS:∀ k i,ST (k+1) i=add32 (ST k i) (R k 64 i)):Pure Tryz.prog gl0 275 [bys n f] (.agg (u8c (outF (ST (padLen n / 64))))):=by
 have pl:=pad_len n
 exact pz Tryz.func275 (by
  apply n_dc (constants_c)
  apply n_dc (padded_c (f) (n) (by omega))
  apply n_loopx ({ x:Nat // x≤padLen n / 64 }) [2,3,4,5,6] [0,8] (fun x=>[.own 0 32 0 0 32,.osl 1 1 0 8,.isl 1 64 fun i x=>Zw (kF i),.isl 1 (padLen n) fun i x=>Zb (padF n f i),Zi (↑(64*x.1):Int)]) (fun x=>[some ⟨32,1,true,.lst [z32]⟩,some ⟨1,8,true,.fn fun i x_1=>Zw (ST (x.1) i)⟩]) (fun x=>padLen n / 64 - x.1) (⟨0,Nat.zero_le (padLen n / 64)⟩) [.own 0 32 0 0 32,.osl 1 1 0 8,.isl 1 64 fun i x=>Zw (kF i),.isl 1 (padLen n) fun i x=>Zb (padF n f i),Zi 0] [some ⟨32,1,true,.lst [z32]⟩,some ⟨1,8,true,.lst [[Zw 1779033703],[Zw 3144134277],[Zw 1013904242],[Zw 2773480762],[Zw 1359893119],[Zw 2600822924],[Zw 528734635],[Zw 1541459225]]⟩] (by repeat' (first|exact trivial|(first|exact Ent.refl _|exact inc_ent (by omega)|exact Ent.nil rfl|exact Ent.of_eq (congrArg (AV.osl _ _ _) (by rfl))|exact Ent.of_eq (congrArg (AV.int _) (by rfl)))|refine And.intro ?_ ?_)) (⟨by exact ObEnt.refl _,st_ob h0,trivial⟩)
  intro x2
  try (have q2:=x2.2;dsimp only at q2)
  apply n_bd ((↑(64*x2.1):Int)<(↑(padLen n):Int))
  ·intro g3
   apply n_req (0≤(↑(64*x2.1):Int)∧(↑(64*x2.1):Int)≤wrap .i64 ((↑(64*x2.1):Int)+64)∧wrap .i64 ((↑(64*x2.1):Int)+64)≤(↑(padLen n):Int)) (by grind [w64])
   apply n_dc (rwords_m (fun (i:Nat)=>padF n f (i+toNat (↑(64*x2.1):Int))) (toNat (wrap .i64 ((↑(64*x2.1):Int)+(64:Int))) - toNat (↑(64*x2.1):Int)) (by grind [w64]) (by exact fun i _=>pad_by hf _))
   apply n_req (32≤140737488355328)
   apply n_loopx ({ x:Nat // x≤64 }) [2,3,4,5,6,7,8,9] [0,1,106] (fun x=>[.own 0 32 0 0 32,.osl 1 1 0 8,.isl 1 64 fun i x=>Zw (kF i),.isl 1 (padLen n) fun i x=>Zb (padF n f i),Zi (↑(64*x2.1):Int),.isl 1 64 fun i x=>Zw (w (x2.1) i),.osl 2 1 0 8,Zi x.1]) (fun x=>[some ⟨32,1,true,.lst [z32]⟩,some ⟨1,8,true,.fn fun i j=>Zw (ST (x2.1) i)⟩,some ⟨1,8,true,.fn fun i x_1=>Zw (R (x2.1) (x.1) i)⟩]) (fun x=>64 - x.1) (⟨0,Nat.zero_le 64⟩) [.own 0 32 0 0 32,.osl 1 1 0 8,.isl 1 64 fun i x=>Zw (kF i),.isl 1 (padLen n) fun i x=>Zb (padF n f i),Zi (↑(64*x2.1):Int),.isl 1 64 fun i x=>Zw (wordF (fun i=>padF n f (i+toNat (↑(64*x2.1):Int))) i),.osl 2 1 0 8,Zi 0] [some ⟨32,1,true,.lst [z32]⟩,some ⟨1,8,true,.fn fun i j=>Zw (ST (x2.1) i)⟩,some ⟨1,8,true,.fn fun i j=>Zw (ST (x2.1) (i+0))⟩] (⟨by exact Ent.refl _,by exact Ent.refl _,by exact Ent.refl _,by exact Ent.refl _,by exact Ent.refl _,Ent.islN rfl (fun i j _ _=>congrArg _ (hw x2.1 _ i (fun q _=>congrArg (padF n f) (by omega)))),by exact Ent.refl _,by exact Ent.refl _,trivial⟩) (⟨by exact ObEnt.refl _,by exact ObEnt.refl _,ObEnt.fnF rfl (fun i _=>((hR x2.1).z i).symm),trivial⟩)
   intro x7
   try (have q7:=x7.2;dsimp only at q7)
   apply n_bd ((x7.1:Int)<64)
   ·intro g8
    apply n_req ((0:Int)≤7∧(7:Int)<8)
    apply n_req ((0:Int)≤4∧(4:Int)<8)
    apply n_sc ((fun (x:Int)=>rright_c x (6:Nat)) (R x2.1 x7.1 (4)) (by omega) (by omega))
    apply n_req ((0:Int)≤4∧(4:Int)<8)
    apply n_sc ((fun (x:Int)=>rright_c x (11:Nat)) (R x2.1 x7.1 (4)) (by omega) (by omega))
    apply n_req ((0:Int)≤4∧(4:Int)<8)
    apply n_sc ((fun (x:Int)=>rright_c x (25:Nat)) (R x2.1 x7.1 (4)) (by omega) (by omega))
    apply n_req ((0:Int)≤4∧(4:Int)<8)
    apply n_req ((0:Int)≤5∧(5:Int)<8)
    apply n_req ((0:Int)≤4∧(4:Int)<8)
    apply n_req ((0:Int)≤6∧(6:Int)<8)
    apply n_req (0≤(x7.1:Int)∧(x7.1:Int)<64)
    apply n_req (0≤(x7.1:Int)∧(x7.1:Int)<64)
    apply n_req ((0:Int)≤0∧(0:Int)<8)
    apply n_sc ((fun (x:Int)=>rright_c x (2:Nat)) (R x2.1 x7.1 (0)) (by omega) (by omega))
    apply n_req ((0:Int)≤0∧(0:Int)<8)
    apply n_sc ((fun (x:Int)=>rright_c x (13:Nat)) (R x2.1 x7.1 (0)) (by omega) (by omega))
    apply n_req ((0:Int)≤0∧(0:Int)<8)
    apply n_sc ((fun (x:Int)=>rright_c x (22:Nat)) (R x2.1 x7.1 (0)) (by omega) (by omega))
    apply n_req ((0:Int)≤0∧(0:Int)<8)
    apply n_req ((0:Int)≤1∧(1:Int)<8)
    apply n_req ((0:Int)≤0∧(0:Int)<8)
    apply n_req ((0:Int)≤2∧(2:Int)<8)
    apply n_req ((0:Int)≤1∧(1:Int)<8)
    apply n_req ((0:Int)≤2∧(2:Int)<8)
    apply n_req ((0:Int)≤0∧(0:Int)<8)
    apply n_req ((0:Int)≤1∧(1:Int)<8)
    apply n_req ((0:Int)≤2∧(2:Int)<8)
    apply n_req ((0:Int)≤3∧(3:Int)<8)
    apply n_req ((0:Int)≤4∧(4:Int)<8)
    apply n_req ((0:Int)≤5∧(5:Int)<8)
    apply n_req ((0:Int)≤6∧(6:Int)<8)
    exact n_againx [0,1,907] (⟨x7.1+1,by omega⟩) [.own 0 32 0 0 32,.osl 1 1 0 8,.isl 1 64 fun i x=>Zw (kF i),.isl 1 (padLen n) fun i x=>Zb (padF n f i),Zi (↑(64*x2.1):Int),.isl 1 64 fun i x=>Zw (w x2.1 i),.osl 2 1 0 8,Zi (wrap .i64 ((x7.1:Int)+1))] [some ⟨32,1,true,.lst [z32]⟩,some ⟨1,8,true,.fn fun i j=>Zw (ST (x2.1) i)⟩,some ⟨1,8,true,.lst [[Zw (wrap .u32 (wrap .u32 (wrap .u32 (wrap .u32 (wrap .u32 (R x2.1 x7.1 7+wrap .u32 (↑(BitVec.toNat (BitVec.ofInt 32 (wrap .u32 (↑(BitVec.toNat (BitVec.ofInt 32 (rotr (R x2.1 x7.1 4) 6) ^^^ BitVec.ofInt 32 (rotr (R x2.1 x7.1 4) 11))):Int)) ^^^ BitVec.ofInt 32 (rotr (R x2.1 x7.1 4) 25))):Int))+wrap .u32 (↑(BitVec.toNat (BitVec.ofInt 32 (wrap .u32 (↑(BitVec.toNat (BitVec.ofInt 32 (R x2.1 x7.1 4) &&& BitVec.ofInt 32 (R x2.1 x7.1 5))):Int)) ^^^ BitVec.ofInt 32 (wrap .u32 (↑(BitVec.toNat (BitVec.ofInt 32 (wrap .u32 (↑(BitVec.toNat (BitVec.ofInt 32 (if false=true then (-1:Int) else IntKind.max IntKind.u32) ^^^ BitVec.ofInt 32 (R x2.1 x7.1 4))):Int)) &&& BitVec.ofInt 32 (R x2.1 x7.1 6))):Int)))):Int))+kF (toNat (x7.1:Int)))+w x2.1 (toNat (x7.1:Int)))+wrap .u32 (wrap .u32 (↑(BitVec.toNat (BitVec.ofInt 32 (wrap .u32 (↑(BitVec.toNat (BitVec.ofInt 32 (rotr (R x2.1 x7.1 0) 2) ^^^ BitVec.ofInt 32 (rotr (R x2.1 x7.1 0) 13))):Int)) ^^^ BitVec.ofInt 32 (rotr (R x2.1 x7.1 0) 22))):Int)+wrap .u32 (↑(BitVec.toNat (BitVec.ofInt 32 (wrap .u32 (↑(BitVec.toNat (BitVec.ofInt 32 (wrap .u32 (↑(BitVec.toNat (BitVec.ofInt 32 (R x2.1 x7.1 0) &&& BitVec.ofInt 32 (R x2.1 x7.1 1))):Int)) ^^^ BitVec.ofInt 32 (wrap .u32 (↑(BitVec.toNat (BitVec.ofInt 32 (R x2.1 x7.1 0) &&& BitVec.ofInt 32 (R x2.1 x7.1 2))):Int)))):Int)) ^^^ BitVec.ofInt 32 (wrap .u32 (↑(BitVec.toNat (BitVec.ofInt 32 (R x2.1 x7.1 1) &&& BitVec.ofInt 32 (R x2.1 x7.1 2))):Int)))):Int))))],[Zw (R (x2.1) (x7.1) (toNat (0:Int)+0))],[Zw (R (x2.1) (x7.1) (toNat (1:Int)+0))],[Zw (R (x2.1) (x7.1) (toNat (2:Int)+0))],[Zw (wrap .u32 (R x2.1 x7.1 3+wrap .u32 (wrap .u32 (wrap .u32 (wrap .u32 (R x2.1 x7.1 7+wrap .u32 (↑(BitVec.toNat (BitVec.ofInt 32 (wrap .u32 (↑(BitVec.toNat (BitVec.ofInt 32 (rotr (R x2.1 x7.1 4) 6) ^^^ BitVec.ofInt 32 (rotr (R x2.1 x7.1 4) 11))):Int)) ^^^ BitVec.ofInt 32 (rotr (R x2.1 x7.1 4) 25))):Int))+wrap .u32 (↑(BitVec.toNat (BitVec.ofInt 32 (wrap .u32 (↑(BitVec.toNat (BitVec.ofInt 32 (R x2.1 x7.1 4) &&& BitVec.ofInt 32 (R x2.1 x7.1 5))):Int)) ^^^ BitVec.ofInt 32 (wrap .u32 (↑(BitVec.toNat (BitVec.ofInt 32 (wrap .u32 (↑(BitVec.toNat (BitVec.ofInt 32 (if false=true then (-1:Int) else IntKind.max IntKind.u32) ^^^ BitVec.ofInt 32 (R x2.1 x7.1 4))):Int)) &&& BitVec.ofInt 32 (R x2.1 x7.1 6))):Int)))):Int))+kF (toNat (x7.1:Int)))+w x2.1 (toNat (x7.1:Int)))))],[Zw (R (x2.1) (x7.1) (toNat (4:Int)+0))],[Zw (R (x2.1) (x7.1) (toNat (5:Int)+0))],[Zw (R (x2.1) (x7.1) (toNat (6:Int)+0))]]⟩] (by repeat' (first|exact trivial|(first|exact Ent.refl _|exact inc_ent (by omega)|exact Ent.nil rfl|exact Ent.of_eq (congrArg (AV.osl _ _ _) (by first|omega|(dsimp only;omega)))|exact Ent.of_eq (congrArg (AV.int _) (by first|omega|(dsimp only;omega))))|refine And.intro ?_ ?_)) (⟨by exact ObEnt.refl _,by exact ObEnt.refl _,rnd_ob (hR x2.1) (by rw [(hR x2.1).s0];rfl) (by rw [(hR x2.1).s4];rfl),trivial⟩)
   ·intro g8
    apply n_loopx ({ x:Nat // x≤8 }) [2,3,4,5,6,8,12] [0,1,2] (fun x=>[.own 0 32 0 0 32,.osl 1 1 0 8,.isl 1 64 fun i x=>Zw (kF i),.isl 1 (padLen n) fun i x=>Zb (padF n f i),Zi (↑(64*x2.1):Int),.osl 2 1 0 8,Zi x.1]) (fun x=>[some ⟨32,1,true,.lst [z32]⟩,some ⟨1,8,true,.fn fun q x_1=>Zw (bif Nat.blt q (x.1) then ST (x2.1+1) q else ST (x2.1) q)⟩,some ⟨1,8,true,.fn fun i j=>Zw (R (x2.1) (x7.1) i)⟩]) (fun x=>8 - x.1) (⟨0,Nat.zero_le 8⟩) [.own 0 32 0 0 32,.osl 1 1 0 8,.isl 1 64 fun i x=>Zw (kF i),.isl 1 (padLen n) fun i x=>Zb (padF n f i),Zi (↑(64*x2.1):Int),.osl 2 1 0 8,Zi 0] [some ⟨32,1,true,.lst [z32]⟩,some ⟨1,8,true,.fn fun i j=>Zw (ST (x2.1) i)⟩,some ⟨1,8,true,.fn fun i j=>Zw (R (x2.1) (x7.1) i)⟩] (by repeat' (first|exact trivial|(first|exact Ent.refl _|exact inc_ent (by omega)|exact Ent.nil rfl|exact Ent.of_eq (congrArg (AV.osl _ _ _) (by first|omega|(dsimp only;omega)))|exact Ent.of_eq (congrArg (AV.int _) (by first|omega|(dsimp only;omega))))|refine And.intro ?_ ?_)) (by repeat' (first|exact trivial|(first|exact ObEnt.refl _|exact ObEnt.junk|exact ObEnt.zero|exact ObEnt.push rfl rfl|exact ObEnt.pushRow rfl|exact ObEnt.len (by omega)|exact ObEnt.row (by repeat' (first|exact trivial|(first|exact Ent.refl _|exact inc_ent (by omega)|exact Ent.nil rfl|exact Ent.of_eq (congrArg (AV.osl _ _ _) (by rfl))|exact Ent.of_eq (congrArg (AV.int _) (by rfl)))|refine And.intro ?_ ?_)))|refine And.intro ?_ ?_))
    intro x42
    try (have q42:=x42.2;dsimp only at q42)
    apply n_bd ((x42.1:Int)<8)
    ·intro g43
     apply n_req (0≤(x42.1:Int)∧(x42.1:Int)<8)
     apply n_req (0≤(x42.1:Int)∧(x42.1:Int)<8)
     apply n_req (0≤(x42.1:Int)∧(x42.1:Int)<8)
     exact n_againx [0,1,2] (⟨x42.1+1,by omega⟩) [.own 0 32 0 0 32,.osl 1 1 0 8,.isl 1 64 fun i x=>Zw (kF i),.isl 1 (padLen n) fun i x=>Zb (padF n f i),Zi (↑(64*x2.1):Int),.osl 2 1 0 8,Zi (wrap .i64 ((x42.1:Int)+1))] [some ⟨32,1,true,.lst [z32]⟩,some ⟨1,8,true,.fn fun i j=>Zw (bif Nat.beq i (toNat (x42.1:Int)+0)&&(Nat.ble 0 j&&Nat.blt j 1) then wrap .u32 ((bif Nat.blt (toNat (x42.1:Int)+0) x42.1 then ST (x2.1+1) (toNat (x42.1:Int)+0) else ST x2.1 (toNat (x42.1:Int)+0))+R x2.1 x7.1 (toNat (x42.1:Int)+0)) else bif Nat.blt i x42.1 then ST (x2.1+1) i else ST x2.1 i)⟩,some ⟨1,8,true,.fn fun i j=>Zw (R (x2.1) (x7.1) i)⟩] (by repeat' (first|exact trivial|(first|exact Ent.refl _|exact inc_ent (by omega)|exact Ent.nil rfl|exact Ent.of_eq (congrArg (AV.osl _ _ _) (by first|omega|(dsimp only;omega)))|exact Ent.of_eq (congrArg (AV.int _) (by first|omega|(dsimp only;omega))))|refine And.intro ?_ ?_)) (⟨by exact ObEnt.refl _,ObEnt.setF (i0:=x42.1) (G:=fun q=>bif Nat.blt q (x42.1+1) then ST (x2.1+1) q else ST x2.1 q) (by
                                                                                                      have e:x7.1=64:=by omega
                                                                                                      simp only [Nat.add_zero,Int.toNat_natCast,blt_f (Nat.le_refl x42.1),blt_t (Nat.lt_succ_self x42.1),cond_true,cond_false,e]
                                                                                                      exact (hS x2.1 x42.1).symm) (fun q _ he=>fill_step2 (F:=ST (x2.1+1)) (z:=ST x2.1) he),by exact ObEnt.refl _,trivial⟩)
    ·intro g43
     exact n_up <| n_up <| n_againx [0,1] (⟨x2.1+1,by omega⟩) [.own 0 32 0 0 32,.osl 1 1 0 8,.isl 1 64 fun i x=>Zw (kF i),.isl 1 (padLen n) fun i x=>Zb (padF n f i),Zi (wrap .i64 ((↑(64*x2.1):Int)+64))] [some ⟨32,1,true,.lst [z32]⟩,some ⟨1,8,true,.fn fun i j=>Zw (bif Nat.blt i x42.1 then ST (x2.1+1) i else ST x2.1 i)⟩] (⟨by exact Ent.refl _,by exact Ent.refl _,by exact Ent.refl _,by exact Ent.refl _,Ent.of_eq (congrArg _ (w64 hn (by omega))),trivial⟩) (⟨by exact ObEnt.refl _,ObEnt.fnF rfl (fun q hq=>by grind [blt_t]),trivial⟩)
  ·intro g3
   apply n_loopx ({ x:Nat // x≤32 }) [2,3,13,14] [0,1,34] (fun x=>[.own 0 32 0 0 32,.osl 1 1 0 8,.own 2 32 0 0 32,Zi x.1]) (fun x=>[some ⟨32,1,true,.lst [z32]⟩,some ⟨1,8,true,.fn fun q x=>Zw (ST (padLen n / 64) q)⟩,some ⟨32,1,true,.fn fun x_1 j=>Zb (bif Nat.blt j (x.1) then outF (ST (padLen n / 64)) j else (0:Int))⟩]) (fun x=>32 - x.1) (⟨0,Nat.zero_le 32⟩) [.own 0 32 0 0 32,.osl 1 1 0 8,.own 2 32 0 0 32,Zi 0] [some ⟨32,1,true,.lst [z32]⟩,some ⟨1,8,true,.fn fun i j=>Zw (ST (x2.1) i)⟩,some ⟨32,1,true,.lst [z32]⟩] (by repeat' (first|exact trivial|(first|exact Ent.refl _|exact inc_ent (by omega)|exact Ent.nil rfl|exact Ent.of_eq (congrArg (AV.osl _ _ _) (by rfl))|exact Ent.of_eq (congrArg (AV.int _) (by rfl)))|refine And.intro ?_ ?_)) (⟨by exact ObEnt.refl _,ObEnt.fnF rfl (fun q _=>by grind),zero_ob32 (fun j=>rfl),trivial⟩)
   intro x49
   apply n_bd ((x49.1:Int)<32)
   ·intro g50
    apply n_req ((0:Int)≤wrap .i64 (Int.tdiv (x49.1:Int) (4:Int))∧wrap .i64 (Int.tdiv (x49.1:Int) (4:Int))<8) (by grind [q4])
    apply n_req ((0:Int)≤wrap .i64 ((24:Int) - wrap .i64 ((8:Int)*Int.tmod (x49.1:Int) (4:Int)))) (by rw [(q4 (by omega)).2];omega)
    apply n_req (0≤(x49.1:Int)∧(x49.1:Int)<32)
    exact n_againx [0,1,2] (⟨x49.1+1,by omega⟩) [.own 0 32 0 0 32,.osl 1 1 0 8,.own 2 32 0 0 32,Zi (wrap .i64 ((x49.1:Int)+1))] [some ⟨32,1,true,.lst [z32]⟩,some ⟨1,8,true,.fn fun i j=>Zw (ST (padLen n / 64) i)⟩,some ⟨32,1,true,.fn fun i j=>Zb (bif Nat.beq i 0&&Nat.beq j (0+toNat (x49.1:Int)) then wrap .u8 (Int.fdiv (ST (padLen n / 64) (toNat (wrap .i64 (Int.tdiv (x49.1:Int) (4:Int)))+0)) ((2:Int)^min (toNat (wrap .i64 ((24:Int) - wrap .i64 ((8:Int)*Int.tmod (x49.1:Int) (4:Int))))) 32)) else bif Nat.blt j x49.1 then outF (ST (padLen n / 64)) j else (0:Int))⟩] (by repeat' (first|exact trivial|(first|exact Ent.refl _|exact inc_ent (by omega)|exact Ent.nil rfl|exact Ent.of_eq (congrArg (AV.osl _ _ _) (by rfl))|exact Ent.of_eq (congrArg (AV.int _) (by rfl)))|refine And.intro ?_ ?_)) (⟨by exact ObEnt.refl _,by exact ObEnt.refl _,ObEnt.setR (P:=fun i j=>Nat.beq i 0&&Nat.beq j (0+toNat ((x49.1:Nat):Int))) (c0:=x49.1) (G:=fun j=>bif Nat.blt j (x49.1+1) then outF (ST (padLen n / 64)) j else 0) (fun j _=>by simp) (by rw [blt_t (Nat.lt_succ_self _)];grind [out_v]) (fun j _ he=>fill_step he),trivial⟩)
   ·intro g50
    exact n_outx (.agg [Zb (bif Nat.blt 0 x49.1 then outF (ST (padLen n / 64)) 0 else (0:Int)),Zb (bif Nat.blt 1 x49.1 then outF (ST (padLen n / 64)) 1 else (0:Int)),Zb (bif Nat.blt 2 x49.1 then outF (ST (padLen n / 64)) 2 else (0:Int)),Zb (bif Nat.blt 3 x49.1 then outF (ST (padLen n / 64)) 3 else (0:Int)),Zb (bif Nat.blt 4 x49.1 then outF (ST (padLen n / 64)) 4 else (0:Int)),Zb (bif Nat.blt 5 x49.1 then outF (ST (padLen n / 64)) 5 else (0:Int)),Zb (bif Nat.blt 6 x49.1 then outF (ST (padLen n / 64)) 6 else (0:Int)),Zb (bif Nat.blt 7 x49.1 then outF (ST (padLen n / 64)) 7 else (0:Int)),Zb (bif Nat.blt 8 x49.1 then outF (ST (padLen n / 64)) 8 else (0:Int)),Zb (bif Nat.blt 9 x49.1 then outF (ST (padLen n / 64)) 9 else (0:Int)),Zb (bif Nat.blt 10 x49.1 then outF (ST (padLen n / 64)) 10 else (0:Int)),Zb (bif Nat.blt 11 x49.1 then outF (ST (padLen n / 64)) 11 else (0:Int)),Zb (bif Nat.blt 12 x49.1 then outF (ST (padLen n / 64)) 12 else (0:Int)),Zb (bif Nat.blt 13 x49.1 then outF (ST (padLen n / 64)) 13 else (0:Int)),Zb (bif Nat.blt 14 x49.1 then outF (ST (padLen n / 64)) 14 else (0:Int)),Zb (bif Nat.blt 15 x49.1 then outF (ST (padLen n / 64)) 15 else (0:Int)),Zb (bif Nat.blt 16 x49.1 then outF (ST (padLen n / 64)) 16 else (0:Int)),Zb (bif Nat.blt 17 x49.1 then outF (ST (padLen n / 64)) 17 else (0:Int)),Zb (bif Nat.blt 18 x49.1 then outF (ST (padLen n / 64)) 18 else (0:Int)),Zb (bif Nat.blt 19 x49.1 then outF (ST (padLen n / 64)) 19 else (0:Int)),Zb (bif Nat.blt 20 x49.1 then outF (ST (padLen n / 64)) 20 else (0:Int)),Zb (bif Nat.blt 21 x49.1 then outF (ST (padLen n / 64)) 21 else (0:Int)),Zb (bif Nat.blt 22 x49.1 then outF (ST (padLen n / 64)) 22 else (0:Int)),Zb (bif Nat.blt 23 x49.1 then outF (ST (padLen n / 64)) 23 else (0:Int)),Zb (bif Nat.blt 24 x49.1 then outF (ST (padLen n / 64)) 24 else (0:Int)),Zb (bif Nat.blt 25 x49.1 then outF (ST (padLen n / 64)) 25 else (0:Int)),Zb (bif Nat.blt 26 x49.1 then outF (ST (padLen n / 64)) 26 else (0:Int)),Zb (bif Nat.blt 27 x49.1 then outF (ST (padLen n / 64)) 27 else (0:Int)),Zb (bif Nat.blt 28 x49.1 then outF (ST (padLen n / 64)) 28 else (0:Int)),Zb (bif Nat.blt 29 x49.1 then outF (ST (padLen n / 64)) 29 else (0:Int)),Zb (bif Nat.blt 30 x49.1 then outF (ST (padLen n / 64)) 30 else (0:Int)),Zb (bif Nat.blt 31 x49.1 then outF (ST (padLen n / 64)) 31 else (0:Int))]) (Ent.of_eq (by
                                                                                                      show AV.agg ((List.range 32).map fun j=>.int .u8 (bif Nat.blt j x49.1 then outF (ST (padLen n / 64)) j else 0))=AV.agg ((List.range 32).map fun j=>.int .u8 (outF (ST (padLen n / 64)) j))
                                                                                                      exact congrArg AV.agg (List.map_congr_left fun j hj=>by grind [blt_t]))))
theorem rsum_c (f:Nat→Int) (n:Nat) (hn:n≤1099511627776) (hf:byB f n):Pure Tryz.prog gl0 275 [bys n f] (.agg (u8c (shaF n f))) :=
 rsum_r f n hn hf (fun k=>wordF (fun i=>padF n f (64*k+i))) (stateF (padF n f)) (fun k=>roundF (stateF (padF n f) k) (wordF (fun i=>padF n f (64*k+i)))) rfl (fun _ _ i h=>word_congr h i) (fun _=>rnd _ _) (fun _ _=>rfl)
end Go.Proofs.YtcageinnelhonaaGreatDoor

namespace Go.Sp
open Go.IntKind (wrap)
open Int (toNat)
open Go Go.Am
def strF (s:ByteArray) (i:Nat):Int:=(s.data.toList.getD i 0).toNat
def tagC (t f:Nat→Int) (i:Nat):Int:=bif Nat.blt i 64 then bif Nat.blt i 32 then t i else t (i - 32) else f (i - 64)
def tagF (s:ByteArray) (n:Nat) (f:Nat→Int):Nat→Int:=shaF (64+n) (tagC (shaF s.size (strF s)) f)
theorem strBy (s:ByteArray) (n:Nat):byB (strF s) n:=fun i _=>by
 have:=(s.data.toList.getD i 0).toNat_lt
 grind [strF]
theorem sha_by (n:Nat) (f:Nat→Int) (i:Nat):0≤shaF n f i∧shaF n f i<256:=by simp [shaF,outF,Int.emod_nonneg,Int.emod_lt_of_pos]
theorem tag_by (s:ByteArray) (n:Nat) (f:Nat→Int) (hf:byB f n):byB (tagC (shaF s.size (strF s)) f) (64+n):=fun i hi=>by
 unfold tagC
 by_cases h:i<64
 ·rw [blt_t h]
  cases Nat.blt i 32<;>simp_all [sha_by]
 ·rw [blt_f (Nat.le_of_not_lt h)]
  exact hf _ (by omega)
def numF (f:Nat→Int) (m:Int):Nat→Int
 | 0=>0
 | i+1=>(numF f m i*256+f i)%m
theorem num_by {f:Nat→Int} {m:Int} (hm:0<m):∀ i,0≤numF f m i∧numF f m i<m
 | 0=>⟨Int.le_refl _,hm⟩
 | _+1=>⟨Int.emod_nonneg _ (by omega),Int.emod_lt_of_pos _ hm⟩
theorem num_step {f:Nat→Int} {m:Int} (i:Nat):(numF f m i*(256%m)%m+f i)%m=numF f m (i+1):=by
 show _=(numF f m i*256+f i)%m
 rw [Int.emod_add_emod,← Int.emod_add_emod (numF f m i*(256%m)),Int.mul_emod,Int.emod_emod_of_dvd _ (Int.dvd_refl m),← Int.mul_emod,Int.emod_add_emod]
theorem rem256 {m:Int} (hm:0<m) (hm':m<2305843009213693952):Int.tmod 256 m=256%m∧0≤256%m∧256%m<m:=by
 have h1:0≤256%m:=Int.emod_nonneg _ (by omega)
 simp_all [Int.emod_lt_of_pos,tmod_nn]
theorem num_le {f:Nat→Int} {m:Int} (hm:0<m) (hm':m<2305843009213693952) (hf:byB f 32) {i:Nat} (hi:i<16):IntKind.wrap .i64 (numF f m i*Int.tmod 256 m%m+IntKind.wrap .i64 (intOfAV (atL (u8c f) (0+(i:Int).toNat))))%m=numF f m (i+1):=by
 have a1:0≤numF f m i*(256%m)%m:=Int.emod_nonneg _ (by omega)
 have a2:numF f m i*(256%m)%m<m:=Int.emod_lt_of_pos _ hm
 have a3:=hf i (by omega)
 rw [Int.toNat_natCast,Nat.zero_add,u8c_at (by omega),(rem256 hm hm').1]
 grind [IntKind.wrap,wI,num_step]
theorem sha_congr {n:Nat} {f g:Nat→Int} (h:∀ i,i<n→f i=g i):shaF n f=shaF n g:=by
 have e:padF n f=padF n g:=funext fun i=>by grind [pad0,blt_f,Nat.le_of_not_lt,padF]
 grind [shaF]
theorem tag_at {t f:Nat→Int} (i:Nat):(bif Nat.blt (i+0) 64 then bif Nat.blt (i+0) 32 then intOfAV (atL (u8c t) (0+(0+(i+0)))) else intOfAV (atL (u8c t) (0+(0+(i+0 - 32)))) else f (i+0 - 64))=tagC t f i:=by
 unfold tagC
 rw [Nat.add_zero]
 by_cases h:i<64
 ·rw [blt_t h]
  by_cases h':i<32
  ·simp_all [blt_t,Nat.zero_add,u8c_at]
  ·have e:=u8c_at (g:=t) (show i - 32<32 by omega)
   simp_all [blt_f,Nat.zero_add]
 grind [blt_f,Nat.le_of_not_lt]
theorem by_congr {f g:Nat→Int} {n:Nat} (h:∀ i,f i=g i) (hg:byB g n):byB f n:=fun i hi=>by
 rw [h i]
 exact hg i hi
def dblF (x m:Int):Nat→Int
 | 0=>x
 | k+1=>(dblF x m k+dblF x m k)%m
theorem dbl_by {x m:Int} (hm:0<m) (h:0≤x∧x<m):∀ k,0≤dblF x m k∧dblF x m k<m
 | 0=>h
 | _+1=>⟨Int.emod_nonneg _ (by omega),Int.emod_lt_of_pos _ hm⟩
theorem dbl_eq {x m:Int} (h:0≤x∧x<m):∀ k,dblF x m k=x*2^k%m
 | 0=>by
  show x=_
  simp_all [Int.pow_zero,Int.mul_one,Int.emod_eq_of_lt]
 | k+1=>by
  show (dblF x m k+dblF x m k)%m=_
  rw [dbl_eq h k,← Int.add_emod,Int.pow_succ,← Int.mul_assoc]
  congr 1
  omega
theorem num_dbl {f:Nat→Int} {m:Int} (hm:0<m) (i:Nat):(dblF (numF f m i) m 8+f i%m)%m=numF f m (i+1):=by
 rw [dbl_eq (num_by hm i),← Int.add_emod]
 rfl
theorem num_fin {f:Nat→Int} {m:Int} (hm:0<m) (hf:byB f 32) {i k:Nat} (hi:i<16) (hk:k=8) :
  (dblF (numF f m i) m k+Int.tmod (IntKind.wrap .i64 (intOfAV (atL (u8c f) (0+(0+(i:Int).toNat))))) m)%m=numF f m (i+1):=by
 have a3:=hf i (by omega)
 subst hk
 rw [Int.toNat_natCast,Nat.zero_add,Nat.zero_add,u8c_at (by omega),wI (n:=f i) (by omega) (by omega),tmod_nn (by omega),num_dbl hm]
theorem num_arg {f:Nat→Int} {m:Int} (hm:0<m) (hf:byB f 32) {i:Nat} (hi:i<16) :
  0≤Int.tmod (IntKind.wrap .i64 (intOfAV (atL (u8c f) (0+(0+(i:Int).toNat))))) m∧Int.tmod (IntKind.wrap .i64 (intOfAV (atL (u8c f) (0+(0+(i:Int).toNat))))) m<m:=by
 have a3:=hf i (by omega)
 rw [Int.toNat_natCast,Nat.zero_add,Nat.zero_add,u8c_at (by omega),wI (n:=f i) (by omega) (by omega),tmod_nn (by omega)]
 exact ⟨Int.emod_nonneg _ (by omega),Int.emod_lt_of_pos _ hm⟩
end Go.Sp

namespace Go.Proofs.YtcageinnelhonaaGreatDoor
open Go.IntKind (wrap)
open Int (toNat)
open Go Go.Am Go.Sp
set_option maxRecDepth 100000
def ow2:FuncId→Option (List Bool):=fun f=>bif Nat.beq f 352||Nat.beq f 276 then some [false] else none
theorem join_g (f g:Nat→Int) (n:Nat) (hn:n≤1099511627776):Gives Tryz.prog gl0 276 [] [bys n f,.agg (u8c g)] (.osl 0 1 0 (n+32)) [some ⟨1,n+32,true,.fn fun i _=>.int .u8 (bif Nat.blt i n then f i else g (i - n))⟩]:=by
 exact gz ow0 Tryz.func276 (by
  apply n_req ((0+n)*1≤140737488355328)
  apply n_loopx ({ x:Nat // x≤32 }) [3,5,6] [0,32] (fun x=>[.own 0 32 0 0 32,.osl 1 1 0 (n+x.1),Zi x.1]) (fun x=>[some ⟨32,1,true,.lst [u8c g]⟩,some ⟨1,n+x.1,true,.fn fun i x=>Zb (bif Nat.blt i n then f i else g (i - n))⟩]) (fun x=>32 - x.1) (⟨0,Nat.zero_le 32⟩) [.own 0 32 0 0 32,.osl 1 1 0 (0+n),Zi 0] [some ⟨32,1,true,.lst [u8c g]⟩,some ⟨1,0+n,true,.fn fun i j=>Zb (f i)⟩] (⟨.refl _,Ent.of_eq (congrArg (AV.osl 1 1 0) (by dsimp only;omega)),.refl _,trivial⟩) (⟨.refl _,join_ob,trivial⟩)
  intro x1
  try (have q1:=x1.2;dsimp only at q1)
  apply n_bd ((x1.1:Int)<32)
  ·intro g2
   apply n_req (0≤(x1.1:Int)∧(x1.1:Int)<32)
   apply n_req ((n+x1.1+1)*1≤140737488355328)
   exact n_againx [0,58] (⟨x1.1+1,by omega⟩) [.own 0 32 0 0 32,.osl 1 1 0 (n+x1.1+1),Zi (wrap .i64 ((x1.1:Int)+1))] [some ⟨32,1,true,.lst [u8c g]⟩,some ⟨1,n+x1.1+1,true,.fn fun i j=>Zb (bif Nat.blt i (n+x1.1) then bif Nat.blt i n then f i else g (i - n) else intOfAV (atL [Zb (intOfAV (Rep.at (Ob.f (Ob.seen ⟨32,1,true,.lst [u8c g]⟩)) 0 (0+toNat (↑(x1.1):Int))))] j))⟩] (⟨.refl _,Ent.of_eq (congrArg (AV.osl 1 1 0) (by dsimp only;omega)),inc_ent (by omega),trivial⟩) (⟨.refl _,ObEnt.pushF (F:=fun i=>bif Nat.blt i n then f i else g (i - n)) (by dsimp only;omega) (by show intOfAV (atL (u8c g) (0+x1.1))=bif Nat.blt (n+x1.1) n then f (n+x1.1) else g (n+x1.1 - n);rw [Nat.zero_add,blt_f (by omega),u8c_at (by omega)];show g _=g _;congr 1;omega),trivial⟩)
  ·intro g2
   exact n_outG (.osl 0 1 0 (n+x1.1)) [some ⟨1,n+x1.1,true,.fn fun i j=>Zb (bif Nat.blt i n then f i else g (i - n))⟩] (Ent.of_eq (congrArg (AV.osl 0 1 0) (by omega))) (⟨⟨rfl,by simp only;omega,rfl,fun i j _ _=>Ent.refl _⟩,trivial⟩))
theorem join_gn (g:Nat→Int):Gives Tryz.prog gl0 276 [] [.nsl,.agg (u8c g)] (.osl 0 1 0 32) [some ⟨1,32,true,.fn fun i _=>.int .u8 (g i)⟩] :=
 (join_g (fun _=>0) g 0 (by omega)).via ⟨Ent.nsl,Ent.refl _,trivial⟩
theorem rtagged_c (s:ByteArray) (hs:s.size≤100) (f:Nat→Int) (n:Nat) (hn:n≤1099511627000) (hf:byB f n):Pure Tryz.prog gl0 218 [.str s,bys n f] (.agg (u8c (tagF s n f))):=by
 exact pzo ow2 Tryz.func218 (by
  apply n_sc (rsum_c (fun (i:Nat)=>(↑(UInt8.toNat (List.getD (Array.toList (ByteArray.data s)) i (0:UInt8))):Int)) (ByteArray.size s) (by omega) (by exact strBy s _))
  apply n_gc (join_gn (shaF (ByteArray.size s) fun (i:Nat)=>(↑(UInt8.toNat (List.getD (Array.toList (ByteArray.data s)) i (0:UInt8))):Int)))
  apply n_gc (join_g (fun (i:Nat)=>shaF (ByteArray.size s) (fun (i:Nat)=>(↑(UInt8.toNat (List.getD (Array.toList (ByteArray.data s)) i (0:UInt8))):Int)) (i+0)) (shaF (ByteArray.size s) fun (i:Nat)=>(↑(UInt8.toNat (List.getD (Array.toList (ByteArray.data s)) i (0:UInt8))):Int)) (32) (by omega))
  apply n_req ((64+n)*1≤140737488355328)
  apply n_sc (rsum_c (fun (i:Nat)=>bif Nat.blt (i+0) (64) then bif Nat.blt (i+0) (32) then shaF (ByteArray.size s) (fun (i:Nat)=>(↑(UInt8.toNat (List.getD (Array.toList (ByteArray.data s)) i (0:UInt8))):Int)) (i+0+0) else shaF (ByteArray.size s) (fun (i:Nat)=>(↑(UInt8.toNat (List.getD (Array.toList (ByteArray.data s)) i (0:UInt8))):Int)) (i+0 - 32) else f (i+0 - 64)) (64+n) (by omega) (by exact tag_by s n f hf))
  exact n_or)
theorem rnumber_c (f:Nat→Int) (m:Int) (hm:0<m) (hm':m<2305843009213693952) (hf:byB f 32):Pure Tryz.prog gl0 217 [.agg (u8c f),.int .i64 m] (.int .i64 (numF f m 16)):=by
 have r:=rem256 hm hm'
 exact pz Tryz.func217 (by
  apply n_loop ({ x:Nat // x≤16 }) [1,2,5,6] [0] (fun x=>[Zi m,.own 0 32 0 0 32,Zi (numF f m (x.1)),Zi x.1]) (fun _=>[some ⟨32,1,true,.lst [u8c f]⟩]) (fun x=>16 - x.1) (⟨0,Nat.zero_le 16⟩)
  intro x0
  try (have q0:=x0.2;dsimp only at q0)
  have n0:=num_by (f:=f) hm x0.1
  apply n_bd ((x0.1:Int)<16)
  ·intro g1
   apply n_req (m≠(0:Int))
   apply n_sc (rmul_c (numF f m x0.1) (Int.tmod (256:Int) m) (m) (by omega) (by omega) (by omega) (by omega) (by omega))
   apply n_req (0≤(x0.1:Int)∧(x0.1:Int)<32)
   apply n_sc (rreduce_c (wrap .i64 (numF f m x0.1*Int.tmod (256:Int) m%m+wrap .i64 (intOfAV (atL (u8c f) (0+toNat (↑x0.1:Int)))))) (m) (by omega) (by omega))
   exact n_again [0] (⟨x0.1+1,by omega⟩) (ek2 (ec (Ent.of_eq (congrArg _ (num_le hm hm' hf (by omega)))) (en (inc_ent (by omega)))))
  ·intro g1
   exact n_outx (Zi (numF f m x0.1)) (Ent.of_eq (congrArg _ (by rw [show x0.1=16 by omega]))))
theorem tagged_c (s:ByteArray) (hs:s.size≤100) (h1:1≤s.size) (f:Nat→Int) (n:Nat) (hn:n≤1099511627000) (hf:byB f n):Pure Tryz.prog gl0 307 [.str s,bys n f] (.tup [.agg (u8c (tagF s n f)),.int .i64 0]):=by
 exact pzo ow2 Tryz.func307 (by
  apply n_br (decide ((↑(ByteArray.size s):Int)<1)||decide ((↑(ByteArray.size s):Int)>100))
  ·intro g0
   exact n_no (by omega)
  ·intro g0
   apply n_sc (sum_c (fun (i:Nat)=>(↑(UInt8.toNat (List.getD (Array.toList (ByteArray.data s)) i (0:UInt8))):Int)) (ByteArray.size s) (by omega) (by exact strBy s _))
   apply n_gc (cloneB2_c (fun (i:Nat)=>intOfAV (atL (u8c (shaF (ByteArray.size s) fun (i:Nat)=>(↑(UInt8.toNat (List.getD (Array.toList (ByteArray.data s)) i (0:UInt8))):Int))) (0+(0+i)))) (32) (by omega))
   apply n_req (64≤140737488355328)
   apply n_req ((64+n)*1≤140737488355328)
   apply n_sc (sum_c (fun (i:Nat)=>bif Nat.blt (i+0) (64) then bif Nat.blt (i+0) (32) then intOfAV (atL (u8c (shaF (ByteArray.size s) fun (i:Nat)=>(↑(UInt8.toNat (List.getD (Array.toList (ByteArray.data s)) i (0:UInt8))):Int))) (0+(0+(i+0)))) else intOfAV (atL (u8c (shaF (ByteArray.size s) fun (i:Nat)=>(↑(UInt8.toNat (List.getD (Array.toList (ByteArray.data s)) i (0:UInt8))):Int))) (0+(0+(i+0 - 32)))) else f (i+0 - 64)) (64+n) (by omega) (by exact by_congr (fun i=>tag_at i) (tag_by s n f hf)))
   exact n_out (Ent.of_eq (congrArg (fun t=>AV.tup [.agg (u8c t),.int .i64 0]) (sha_congr fun i _=>tag_at i))))
theorem wadd_ok (a b m:Int) (ha:0≤a∧a<m) (hb:0≤b∧b<m) (hm':m<2305843009213693952):Pure Tryz.prog gl0 353 [.int .i64 a,.int .i64 b,.int .i64 m] (.tup [.int .i64 ((a+b)%m),.int .i64 0]):=by
 have h:=wadd_c a b m
 rw [chk_ok (by omega) hm' ha.1 ha.2 hb.1 hb.2,okv0] at h
 exact h
theorem number_c (f:Nat→Int) (m:Int) (hm:0<m) (hm':m<2305843009213693952) (hf:byB f 32):Pure Tryz.prog gl0 308 [.agg (u8c f),.int .i64 m] (.tup [.int .i64 (numF f m 16),.int .i64 0]):=by
 exact pz Tryz.func308 (by
  apply n_br (decide (m<1)||decide (m≥2305843009213693952))
  ·intro g0
   exact n_no (by omega)
  ·intro g0
   apply n_req ((0:Int)≤16∧(16:Int)≤32)
   apply n_loop ({ x:Nat // x≤16 }) [1,15,16,6,17] [] (fun x=>[Zi m,.isl 1 16 fun r x=>Zb (intOfAV (atL (u8c f) (0+(0+r)))),Zi 16,Zi (numF f m (x.1)),Zi x.1]) (fun _=>[]) (fun x=>16 - x.1) (⟨0,Nat.zero_le 16⟩)
   intro x3
   try (have q3:=x3.2;dsimp only at q3)
   have n0:=num_by (f:=f) hm x3.1
   apply n_bd ((x3.1:Int)<16)
   ·intro g4
    apply n_req (0≤(x3.1:Int)∧(x3.1:Int)<16)
    apply n_loop ({ x:Nat // x≤8 }) [1,8,15,16,17,6,21] [] (fun x=>[Zi m,Zb (intOfAV (atL (u8c f) (0+(0+toNat (x3.1:Int))))),.isl 1 16 fun r x=>Zb (intOfAV (atL (u8c f) (0+(0+r)))),Zi 16,Zi x3.1,Zi (dblF (numF f m (x3.1)) m (x.1)),Zi x.1]) (fun _=>[]) (fun x=>8 - x.1) (⟨0,Nat.zero_le 8⟩)
    intro x6
    try (have q6:=x6.2;dsimp only at q6)
    have n1:=dbl_by hm n0 x6.1
    apply n_bd ((x6.1:Int)<8)
    ·intro g7
     apply n_sc (wadd_ok (dblF (numF f m x3.1) m x6.1) (dblF (numF f m x3.1) m x6.1) (m) (by omega) (by omega) (by omega))
     exact n_againx [] (⟨x6.1+1,by omega⟩) [Zi m,Zb (intOfAV (atL (u8c f) (0+(0+toNat (x3.1:Int))))),.isl 1 16 fun r x=>Zb (intOfAV (atL (u8c f) (0+(0+r)))),Zi 16,Zi x3.1,Zi ((dblF (numF f m x3.1) m x6.1+dblF (numF f m x3.1) m x6.1)%m),Zi (wrap .i64 ((x6.1:Int)+1))] [] (⟨.refl _,.refl _,.refl _,.refl _,.refl _,.refl _,inc_ent (by omega),trivial⟩) (trivial) (by dsimp only;omega)
    ·intro g7
     apply n_req (m≠(0:Int))
     apply n_sc (wadd_ok (dblF (numF f m x3.1) m x6.1) (Int.tmod (wrap .i64 (intOfAV (atL (u8c f) (0+(0+toNat (↑x3.1:Int)))))) m) (m) (by omega) (by exact num_arg hm hf (by omega)) (by omega))
     exact n_up <| n_againx [] (⟨x3.1+1,by omega⟩) [Zi m,.isl 1 16 fun r x=>Zb (intOfAV (atL (u8c f) (0+(0+r)))),Zi 16,Zi ((dblF (numF f m x3.1) m x6.1+Int.tmod (wrap .i64 (intOfAV (atL (u8c f) (0+(0+toNat (x3.1:Int)))))) m)%m),Zi (wrap .i64 ((x3.1:Int)+1))] [] (⟨.refl _,.refl _,.refl _,Ent.of_eq (congrArg _ (num_fin hm hf (by omega) (by omega))),inc_ent (by omega),trivial⟩) (trivial) (by dsimp only;omega)
   ·intro g4
    exact n_outx (.tup [Zi (numF f m x3.1),Zi 0]) (Ent.tup ⟨Ent.of_eq (congrArg _ (by rw [show x3.1=16 by omega])),Ent.refl _,trivial⟩))
end Go.Proofs.YtcageinnelhonaaGreatDoor

namespace Go.Sp
open Go.IntKind (wrap)
open Int (toNat)
open Go Go.Am
def numB (n:Int) (size i:Nat):Int:=n / 256^(size - 1 - i)%256
def numT (n:Int) (size t i:Nat):Int:=bif Nat.blt i (size - t) then 0 else numB n size i
theorem num_z {n:Int} {size i j:Nat} (hi:i<size) (hj:j<1):intOfAV (atL (zcells (.int .u8 0)) j)=numT n size 0 i:=by
 obtain rfl:j=0:=Nat.lt_one_iff.1 hj
 unfold numT
 rw [blt_t (by omega)]
 rfl
theorem num_full {n:Int} {size t i:Nat} (h:size≤t):numT n size t i=numB n size i:=by grind [numT,blt_f]
theorem num_q {n:Int} (h0:0≤n) (t:Nat):Int.tdiv (n / 256^t) 256=n / 256^(t+1):=by grind [Int.ediv_nonneg,Int.pow_nonneg,tdiv_nn,Int.pow_succ,Int.ediv_ediv_of_nonneg]
theorem num_qw {n:Int} (h0:0≤n) (hn:n<18446744073709551616) (t:Nat):IntKind.wrap .u64 (Int.tdiv (n / 256^t) 256)=n / 256^(t+1):=by
 have h1:0≤n / 256^(t+1):=Int.ediv_nonneg h0 (Int.pow_nonneg (by omega))
 have h2:n / 256^(t+1)≤n:=Int.ediv_le_self _ h0
 grind [num_q,wu64]
theorem num_s {n:Int} {size t i j:Nat} (h0:0≤n) (ht:t<size) (hj:j<1) :
  (bif Nat.beq i (toNat ((size:Int) - 1 - t)+0)&&(Nat.ble 0 j&&Nat.blt j 1) then IntKind.wrap .u8 (Int.tmod (n / 256^t) 256) else numT n size t i)=numT n size (t+1) i:=by
 obtain rfl:j=0:=Nat.lt_one_iff.1 hj
 have h:0≤n / 256^t:=Int.ediv_nonneg h0 (Int.pow_nonneg (by omega))
 have e:toNat ((size:Int) - 1 - t)+0=size - 1 - t:=by omega
 rw [e]
 by_cases hi:i=size - 1 - t
 ·subst hi
  have e2:size - 1 - (size - 1 - t)=t:=by omega
  rw [Nat.beq_refl]
  show IntKind.wrap .u8 (Int.tmod (n / 256^t) 256)=bif Nat.blt (size - 1 - t) (size - (t+1)) then 0 else n / 256^(size - 1 - (size - 1 - t))%256
  grind [blt_f,wu8m,tmod_nn]
 ·have hb:Nat.beq i (size - 1 - t)=false:=by grind [Nat.beq,absurd,Nat.eq_of_beq_eq_true]
  rw [hb]
  show (bif Nat.blt i (size - t) then 0 else numB n size i)=(bif Nat.blt i (size - (t+1)) then 0 else numB n size i)
  grind [blt_t,blt_f,Nat.le_of_not_lt]
end Go.Sp

namespace Go.Proofs.YtcageinnelhonaaGreatDoor
open Go.IntKind (wrap)
open Int (toNat)
open Go Go.Am Go.Sp
set_option maxRecDepth 100000
theorem rnum7_c (n:Int) (h0:0≤n) (hn:n<18446744073709551616) (size:Nat) (hs:1≤size) (hs':size≤8):Pure Tryz.prog gl0 277 [.int .u64 n,.int .i64 size] (bys size (numB n size)):=by
 exact pz Tryz.func277 (by
  apply n_req ((0:Int)≤(↑size:Int)∧(↑size:Int)=(↑size:Int)∧(↑(1):Int)*(↑size:Int)≤140737488355328∧(↑size:Int)≤9223372036854775807)
  apply n_loopx ({ x:Nat // x≤size }) [5,0,6] ([16]) (fun x=>[AV.osl 0 1 0 (toNat (↑size:Int)),Zu (n / 256^x.1),Zi ((↑size:Int) - 1 - (↑(x.1):Int))]) (fun x=>[some ⟨1,size,true,Rep.fn fun (i x_1:Nat)=>Zb (numT n size (x.1) i)⟩]) (fun x=>size - x.1) (⟨0,Nat.zero_le size⟩) ([AV.osl 0 1 0 (toNat (↑size:Int)),Zu n,Zi (wrap .i64 ((↑size:Int) - 1))]) ([some ⟨1,toNat (↑size:Int),true,Rep.fn fun (i j:Nat)=>Zb (intOfAV (atL (zcells (Value.int IntKind.u8 (0:Int))) j))⟩]) (⟨.refl _,.of_eq (congrArg _ (by dsimp only;omega)),Ent.of_eq (congrArg _ (by rw [wI (by omega) (by omega)];dsimp only;omega)),trivial⟩) (⟨⟨rfl,by rfl,rfl,fun i j hi hj=>Ent.of_eq (congrArg _ (num_z hi hj))⟩,trivial⟩)
  intro x1
  try (have q1:=x1.2;dsimp only at q1)
  apply n_bd ((↑size:Int) - 1 - (↑x1.1:Int)≥0)
  ·intro g2
   apply n_req ((0:Int)≤(↑size:Int) - 1 - (↑x1.1:Int)∧(↑size:Int) - 1 - (↑x1.1:Int)<(↑(toNat (↑size:Int)):Int))
   exact n_againx ([0]) (⟨x1.1+1,by omega⟩) ([AV.osl 0 1 0 (toNat (↑size:Int)),Zu (wrap .u64 (Int.tdiv (n / 256^x1.1) (256:Int))),Zi (wrap .i64 ((↑size:Int) - 1 - (↑x1.1:Int) - 1))]) ([some ⟨1,size,true,Rep.fn fun (i j:Nat)=>Zb (bif Nat.beq i (toNat ((↑size:Int) - 1 - (↑x1.1:Int))+0)&&(Nat.ble 0 j&&Nat.blt j 1) then wrap .u8 (Int.tmod (n / 256^x1.1) (256:Int)) else numT n size x1.1 i)⟩]) (⟨.refl _,Ent.of_eq (congrArg _ (num_qw h0 hn _)),Ent.of_eq (congrArg _ (by rw [wI (by omega) (by omega)];dsimp only;omega)),trivial⟩) (⟨⟨rfl,rfl,rfl,fun i j hi hj=>Ent.of_eq (congrArg _ (num_s h0 (by omega) hj))⟩,trivial⟩)
  ·intro g2
   exact n_outx (AV.isl 1 (toNat (↑size:Int)) fun (r k:Nat)=>Zb (numT n size x1.1 (r+0))) (bys_eq (by omega) (fun i _=>num_full (by omega))))
end Go.Proofs.YtcageinnelhonaaGreatDoor

namespace Go.Am
open Go.IntKind (wrap)
open Int (toNat)
open Go.RowKit Go.ChangeShapes Go.WideShapes Go.ChangeAt
inductive CT where
  | int (k : IntKind)
  | bool
  | str
  | sl (cs : List CT)
inductive CellOk : CT → AV → Prop where
  | int {k : IntKind} {n : Int} (h : (Lit.int k n).wf = true) : CellOk (.int k) (.int k n)
  | bool {b : Bool} : CellOk .bool (.bool b)
  | str {s : ByteArray} (h : s.size ≤ maxLen) : CellOk .str (.str s)
  | sl {cs : List CT} {n : Nat} {f : Nat → Nat → AV} (hn : n ≤ maxLen) (h : ∀ (i j : Nat) c, i < n → cs[j]? = some c → CellOk c (f i j)) : CellOk (.sl cs) (.isl cs.length n f)
def shapeFs (P:Program) (sh:TypeId→Option (List CT)):Nat→List Field→Option (List CT)
 | _,[]=>some []
 | off,f::fs=>match sh f.type with
  | some l=>bif Nat.beq f.offset off&&Nat.beq l.length (P.cellsOf f.type) then (match shapeFs P sh (off+l.length) fs with|some r=>some (l++r)|none=>none) else none
  | none=>none
def shape (P:Program):Nat→TypeId→Option (List CT)
 | 0,_=>none
 | n+1,t=>match P.underlying t with
  | some .bool=>some [.bool]
  | some (.int k)=>some [.int k]
  | some .string=>some [.str]
  | some (.slice e)=>match shape P n e with
   | some l=>bif Nat.beq l.length (P.cellsOf e)&&Nat.blt 0 l.length then some [.sl l] else none
   | none=>none
  | some (.struct fs)=>match shapeFs P (shape P n) 0 fs.toList with
   | some l=>bif Nat.beq l.length (P.cellsOf t) then some l else none
   | none=>none
  | some (.array m e)=>match shape P n e with
   | some l=>bif Nat.beq l.length (P.cellsOf e)&&Nat.beq (m*l.length) (P.cellsOf t) then some (List.replicate m l).flatten else none
   | none=>none
  | _=>none
abbrev noB:Book:=Book.none fun _=>False
theorem noB_free (b:Nat):noB.free b:=⟨fun h=>h,fun _ _ h=>by cases h⟩
structure Fits (w : World) (ts : List CT) (cs : List Value) : Prop where
  len : cs.length = ts.length
  cell : ∀ (j : Nat) c, ts[j]? = some c → ∃ v a, cs[j]? = some v ∧ CellOk c a ∧ Rel noB w a v ∧ v.oneCell' = true
theorem Fits.nil {w:World}:Fits w [] []:=⟨rfl,fun j c h=>by grind⟩
theorem Fits.one {w:World} {c:CT} {v:Value} {a:AV} (h:CellOk c a) (hr:Rel noB w a v) (ho:v.oneCell'=true):Fits w [c] [v]:=by
 refine ⟨rfl,fun j c' hj=>?_⟩
 grind
theorem Fits.append {w:World} {ts ts':List CT} {cs cs':List Value} (h:Fits w ts cs) (h':Fits w ts' cs'):Fits w (ts++ts') (cs++cs'):=by
 refine ⟨by simp [h.len,h'.len],fun j c hj=>?_⟩
 by_cases hl:j<ts.length
 ·rw [List.getElem?_append_left hl] at hj
  rw [List.getElem?_append_left (by rw [h.len];omega)]
  exact h.cell j c hj
 ·rw [List.getElem?_append_right (by omega)] at hj
  rw [List.getElem?_append_right (by rw [h.len];omega),h.len]
  exact h'.cell _ c hj
theorem mapM_each {α β:Type} {f:α→Option β} {l:List α} {r:List β} (h:l.mapM f=some r) {x:α} (hx:x∈l):∃ y,f x=some y:=by
 obtain ⟨i,hi,rfl⟩:=List.getElem_of_mem hx
 have h1:=mapM_some_length h
 have h2:=mapM_some_get h i _ (List.getElem?_eq_getElem hi)
 grind
theorem drop_take_split {cs:List Value} {off a b:Nat}:(cs.drop off).take (a+b)=(cs.drop off).take a++(cs.drop (off+a)).take b:=by
 rw [List.take_add,List.drop_drop]
section
variable {H : Type} {enc : TypeId × Value → H} {P : Program} {w : World} {sp : Nat → Bool}
theorem fits_fields {sh:TypeId→Option (List CT)} {cs:List Value}:∀ (fs:List Field) (off:Nat) (ts:List CT),shapeFs P sh off fs=some ts→(∀ f∈fs,∀ l,sh f.type=some l→Fits w l ((cs.drop f.offset).take (P.cellsOf f.type))) →
  Fits w ts ((cs.drop off).take ts.length):=by
 intro fs
 induction fs with
 | nil=>simp [shapeFs,Fits.nil]
 | cons f fs ih =>
  intro off ts h hf
  simp only [shapeFs] at h
  cases hl:sh f.type with
  | none=>grind
  | some l =>
   simp only [hl] at h
   obtain ⟨hc,h2⟩:=bif_some h
   rw [Bool.and_eq_true] at hc
   have e1:=Nat.eq_of_beq_eq_true hc.1
   have e2:=Nat.eq_of_beq_eq_true hc.2
   cases hr:shapeFs P sh (off+l.length) fs with
   | none=>grind
   | some r =>
    simp only [hr,Option.some.injEq] at h2
    subst h2
    have g1:=hf f (List.mem_cons_self ..) l hl
    have g2:=ih (off+l.length) r hr (fun f' hf'=>hf f' (List.mem_cons_of_mem _ hf'))
    rw [e1,← e2] at g1
    rw [List.length_append,drop_take_split]
    exact g1.append g2
theorem fits_elems {cs:List Value} {l:List CT}:∀ n:Nat,(∀ i,i<n→Fits w l ((cs.drop (i*l.length)).take l.length))→Fits w (List.replicate n l).flatten (cs.take (n*l.length)):=by
 intro n
 induction n with
 | zero=>simp [Fits.nil]
 | succ n ih =>
  intro h
  have g1:=ih (fun i hi=>h i (by omega))
  have g2:=h n (by omega)
  have e:cs.take ((n+1)*l.length)=cs.take (n*l.length)++(cs.drop (n*l.length)).take l.length:=by
   rw [Nat.add_mul,Nat.one_mul,List.take_add]
  have e2:(List.replicate (n+1) l).flatten=(List.replicate n l).flatten++l:=by simp [List.replicate_succ',List.flatten_append]
  rw [e,e2]
  exact g1.append g2
theorem open_fits:∀ (m:Nat) (t:TypeId) (fuel:Nat) (cs:List Value) (x:DataW H×List MemPlace) (ts:List CT),DataW.trod enc P w 0 sp true fuel t cs=some x→shape P m t=some ts→Fits w ts cs:=by
 intro m
 induction m with
 | zero=>simp [shape]
 | succ m ih =>
  intro t fuel cs x ts htr hsh
  simp only [shape] at hsh
  cases fuel with
  | zero=>simp_all [DataW.trod]
  | succ fuel =>
   split at hsh
   ·rename_i hu
    simp only [Option.some.injEq] at hsh;subst hsh
    simp only [DataW.trod,hu] at htr
    split at htr<;>simp_all
    exact .one .bool .bool rfl
   ·rename_i k hu
    simp only [Option.some.injEq] at hsh;subst hsh
    simp only [DataW.trod,hu] at htr
    split at htr<;>simp_all
    obtain ⟨⟨rfl,hw⟩,_⟩:=htr
    exact .one (.int hw) .int rfl
   ·rename_i hu
    simp only [Option.some.injEq] at hsh;subst hsh
    simp only [DataW.trod,hu] at htr
    split at htr<;>simp_all
    exact .one (.str htr.1) .str rfl
   ·rename_i e hu
    split at hsh
    ·rename_i l hl
     obtain ⟨hc,h2⟩:=bif_some hsh
     clear hsh
     rw [Bool.and_eq_true,Nat.blt_eq] at hc
     have e1:=Nat.eq_of_beq_eq_true hc.1
     cases h2
     rcases Go.Deep.open_slice hu htr with ⟨rfl,_⟩|⟨a,len,cap,m',n,D,Pl,rfl,hb,hlc,hm,hmm,_,hx⟩
     ·exact .one (a:=.isl l.length 0 fun _ _=>.junk) (.sl (Nat.zero_le _) (fun i j c hi=>absurd hi (by omega))) (.isl0 fun _=>rfl) rfl
     ·have hlm:len≤m':=by grind
      have hrow:∀ i,i<len→∃ cs',w.cells? 0 (a.add (i*l.length)) l.length=some cs'∧Fits w l cs':=fun i hi=>by
       obtain ⟨cs',h1,h2⟩:=hx i (by omega)
       grind
      obtain ⟨C,hC⟩:=Go.Deep.choose_lt hrow
      have hcell:∀ i j c,i<len→l[j]? = some c→∃ p:Value×AV,w.cell? (a.add (i*l.length+j))=some p.1∧CellOk c p.2∧Rel noB w p.2 p.1∧p.1.oneCell'=true:=fun i j c hi hj=>by
       obtain ⟨h1,h2⟩:=hC i hi
       obtain ⟨v,av,g1,g2,g3,g4⟩:=h2.cell j c hj
       obtain ⟨_,k1,k2⟩:=World.cells?_some h1
       refine ⟨(v,av),?_,g2,g3,g4⟩
       grind [List.getElem?_eq_some_iff,Go.Deep.add_add]
      have hex:∀ i,i<len→∃ g:Nat→Value×AV,∀ j,j<l.length→∃ c,l[j]? = some c∧w.cell? (a.add (i*l.length+j))=some (g j).1∧CellOk c (g j).2∧Rel noB w (g j).2 (g j).1∧(g j).1.oneCell'=true:=fun i hi=>by
       have:Inhabited (Value×AV):=⟨(.bool true,.junk)⟩
       exact Go.Deep.choose_lt (p:=fun j (g:Value×AV)=>∃ c,l[j]? = some c∧w.cell? (a.add (i*l.length+j))=some g.1∧CellOk c g.2∧Rel noB w g.2 g.1∧g.1.oneCell'=true) (fun j hj=>by simp_all)
      have:Inhabited (Nat→Value×AV):=⟨fun _=>(.bool true,.junk)⟩
      obtain ⟨G,hG⟩:=Go.Deep.choose_lt hex
      refine .one (a:=.isl l.length len fun i j=>(G i j).2) (.sl (by omega) (fun i j c hi hj=>?_)) ?_ rfl
      ·grind
      ·rcases Nat.eq_zero_or_pos len with rfl|hpos
       ·exact .isl0 (fun h=>by cases h)
       ·obtain ⟨b,off,spot⟩:=a
        have hspot:spot=none:=by
         obtain ⟨c',_,g2,_⟩:=hG 0 hpos 0 hc.2
         have:=World.cell?_spot g2
         grind [Addr.add]
        subst hspot
        refine .isl (fun i j=>(G i j).1) hc.2 hlc (noB_free b) (fun i j hi hj=>?_) (fun i j hi hj=>?_) (fun i j hi hj=>?_) (fun i j hi hj=>?_)
        ·obtain ⟨c',_,g2,_⟩:=hG i hi j hj
         rw [← g2]
         congr 1
         unfold Addr.add
         split
         ·simp
         grind
        ·grind
        ·grind
        ·obtain ⟨c',_,_,_,g4,_⟩:=hG i hi j hj;exact g4.closed
    grind
   ·rename_i fs hu
    split at hsh
    ·rename_i l hl
     obtain ⟨hc,h2⟩:=bif_some hsh
     clear hsh
     have h3:l=ts:=Option.some.inj h2
     subst h3
     have e1:=Nat.eq_of_beq_eq_true hc
     simp only [DataW.trod,hu] at htr
     split at htr
     ·rename_i hlen
      obtain ⟨xs,hxs,_⟩:=Option.map_eq_some_iff.1 htr
      have:=fits_fields (w:=w) (P:=P) (cs:=cs) fs.toList 0 l hl (fun f hf lf hlf=>by
       obtain ⟨y,hy⟩:=mapM_each hxs hf
       grind)
      grind
     grind
    grind
   ·rename_i n e hu
    split at hsh
    ·rename_i l hl
     obtain ⟨hc,h2⟩:=bif_some hsh
     clear hsh
     cases h2
     rw [Bool.and_eq_true] at hc
     have e1:=Nat.eq_of_beq_eq_true hc.1
     have e2:=Nat.eq_of_beq_eq_true hc.2
     simp only [DataW.trod,hu] at htr
     split at htr
     ·rename_i hlen
      obtain ⟨xs,hxs,_⟩:=Option.map_eq_some_iff.1 htr
      have:=fits_elems (w:=w) (cs:=cs) (l:=l) n (fun i hi=>by
       obtain ⟨y,hy⟩:=mapM_each hxs (List.mem_range.2 hi)
       grind)
      grind
     grind
    grind
   grind
end
section
variable {H : Type} {enc : TypeId × Value → H} {P : Program}
theorem trodAll_stays {W W':World} {sp':Nat→Bool} (hl:laidOutB P=true):∀ {ts:List TypeId} {vs:List Value} {ds:List (DataW H)} {ps:List MemPlace},
  (∀ t,t∈ts→P.readableRec t=true∧t<P.types.size)→DataW.TrodAll enc P W 0 (fun _=>true) true ts vs ds ps→(∀ p∈ps,W.sameAt W' p)→(∀ p∈ps,sp' p.block=true) →
  DataW.TrodAll enc P W' 0 sp' true ts vs ds ps
 | [],[],[],_,_,h,_,_=>h
 | t::ts,v::vs,d::ds,ps,hr,h,hs,hp=>by
  obtain ⟨p,q,h1,h2,rfl⟩:=h
  refine ⟨p,q,WideElems.Trod_stays hl (hr t (by simp)).1 (hr t (by simp)).2 h1 (fun x hx=>hs x (by grind)) (fun x hx=>hp x (by grind)),?_,rfl⟩
  exact trodAll_stays hl (fun t ht=>hr t (by grind)) h2 (fun x hx=>hs x (by grind)) (fun x hx=>hp x (by grind))
 | [],_::_,_,_,_,h,_,_=>h.elim
 | [],[],_::_,_,_,h,_,_=>h.elim
 | _::_,[],_,_,_,h,_,_=>h.elim
 | _::_,_::_,[],_,_,h,_,_=>h.elim
theorem keptBut_of_below {W W':World} (hb:Below W.heap.size W W') (may:MemPlace→Prop):W.keptBut W' may:=by
 refine ⟨hb.os,hb.output,fun i hi=>?_⟩
 rw [hb.block i hi]
 grind
def readB (P:Program) (ts:List TypeId):Bool:=ts.all fun t=>P.readableRec t&&Nat.blt t P.types.size
theorem readB_ok {ts:List TypeId} (h:readB P ts=true):∀ t,t∈ts→P.readableRec t=true∧t<P.types.size:=by
 intro t ht
 have:=List.all_eq_true.1 h t ht
 simp_all
theorem post_law {f:Func} {s:ChangeSpec} {apart fresh handsOn again:Bool} {W W':World} {args:Array Value} {ds gs:List (DataW H)} {before:List MemPlace} {tb:TypeId}
  (hl:laidOutB P=true) (hvars:s.vars=[]) (hrt:f.resultTypes = #[tb]) (htb:P.underlying tb=some .bool) (hrd:readB P f.params.toList=true)
  (hW:DataW.Whole enc P f.params.toList s.vars apart W args.toList ds gs before) (hb:Below W.heap.size W W')
  (hs:s.fn H ds={ results:=[.lit (.bool true)],args:=ds }) :
  s.post enc P f apart fresh handsOn again W args (.bool true) W':=by
 have hW0:=hW
 obtain ⟨p,q,hA,hV,rfl,hz,hn⟩:=hW
 rw [hvars] at hV
 obtain ⟨rfl,rfl⟩:=trodVars_none hV
 have hlt:∀ x∈p,x.block<W.heap.size:=fun x hx=>hA.lt x hx
 have hst:∀ sp:Nat→Bool,(∀ x∈p,sp x.block=true)→DataW.TrodAll enc P W' 0 sp true f.params.toList args.toList ds p :=
  fun sp hsp=>trodAll_stays hl (readB_ok hrd) hA (fun x hx=>hb.same (hlt x hx)) hsp
 have hres:∀ (b:Nat) (sp:Nat→Bool) (hd:Bool),DataW.TrodAll enc P W' b sp hd f.resultTypes.toList ((Value.bool true).resultList f.resultTypes.size) [.lit (.bool true)] []:=by
  intro b sp hd
  rw [hrt]
  exact ⟨[],[],shut_bool htb true,rfl,rfl⟩
 refine ⟨ds,[],p++[],[],p,[],hW0,?_,?_,?_,keptBut_of_below hb _,fun _=>?_⟩
 ·grind
 ·grind
 ·rw [List.append_nil,hs,hvars];rfl
 ·refine ⟨ok_one hrt rfl (okWide_bool_mk htb true),_,[],([]++p)++[],⟨[]++p,[],trodAll_append (hst _ (fun _ _=>rfl)) (hres _ _ _),by rw [hvars];rfl,rfl,?_,?_⟩,?_⟩
  ·intro b off hp
   simp only [List.nil_append,List.append_nil] at hp
   have:=hlt _ hp
   rw [hb.frozen this]
   exact hz b off (by grind)
  ·grind
  grind
end
theorem Pure.calls {P:Program} {gl:Globs} {f:FuncId} {args:List AV} (h:Pure P gl f args (.bool true)) {W:World} {vs:Array Value} (hg:GlobB gl noB W)
  (hr:Rels noB W args vs) {Q:Ending→World→Prop} (hQ:∀ W',Below W.heap.size W W'→Q (.returned (.bool true)) W'):Calls P f vs W Q:=by
 refine (h.use (fun _ hf=>hf.elim) hg hr).mono ?_
 rintro e W' ⟨v,rfl,hb,hv⟩
 cases hv<;>grind
theorem Rels.nil {w:World}:Rels noB w [] #[]:=⟨rfl,fun j u x h=>by simp⟩
theorem Rels.cons {w:World} {a:AV} {v:Value} {avs:List AV} {vs:List Value} (h:Rel noB w a v) (hr:Rels noB w avs vs.toArray):Rels noB w (a::avs) (v::vs).toArray:=by
 refine ⟨by have:=hr.len;grind,fun j u x hu hx=>?_⟩
 cases j with
 | zero=>grind
 | succ j=>exact hr.rel j u x (by grind) (by grind)
theorem Fits.pick {w:World} {ts:List CT} {cs:List Value} (h:Fits w ts cs):∃ g:Nat→AV,∀ (j:Nat) c,ts[j]? = some c→CellOk c (g j)∧∃ v,cs[j]? = some v∧Rel noB w (g j) v:=by
 have:Inhabited AV:=⟨.junk⟩
 obtain ⟨g,hg⟩:=Go.Deep.choose_lt (n:=ts.length) (p:=fun j a=>∀ c,ts[j]? = some c→CellOk c a∧∃ v,cs[j]? = some v∧Rel noB w a v) (fun j hj=>by
  obtain ⟨v,a,h1,h2,h3,_⟩:=h.cell j ts[j] (by simp)
  refine ⟨a,fun c hc=>?_⟩
  grind)
 exact ⟨g,fun j c hc=>hg j (List.getElem?_eq_some_iff.1 hc).1 c hc⟩
theorem Fits.agg {w:World} {ts:List CT} {cs:List Value} (h:Fits w ts cs) {g:Nat→AV} (hg:∀ (j:Nat) c,ts[j]? = some c→CellOk c (g j)∧∃ v,cs[j]? = some v∧Rel noB w (g j) v) {l:List AV}
  (he:EntL [] ((List.range ts.length).map g) l):Rel noB w (.agg l) (.agg cs.toArray):=by
 obtain ⟨h1,h2⟩:=he.spec
 simp at h1
 refine .agg (by rw [← h1];simp [h.len]) fun j u v hu hv=>?_
 have hj:j<l.length:=(List.getElem?_eq_some_iff.1 hu).1
 have hjt:j<ts.length:=by omega
 obtain ⟨_,v',hv',hr⟩:=hg j ts[j] (by simp [hjt])
 have:v'=v:=by
  have hv:cs[j]? = some v:=by simpa using hv
  rw [hv'] at hv;exact Option.some.inj hv
 subst this
 exact h2 j (g j) u (by simp [hjt]) hu _ _ _ (fun k o hk=>by simp at hk) hr
def islN:AV→Nat
 | .isl _ n _=>n
 | _=>0
def islF:AV→Nat→Nat→AV
 | .isl _ _ f=>f
 | _=>fun _ _=>.junk
theorem canonI_wf {k:IntKind} {a:AV} (h:CellOk (.int k) a):(Lit.int k (intOfAV a)).wf=true:=by cases h with|int h=>exact h
theorem open_agg {H:Type} {enc:TypeId×Value→H} {P:Program} {W:World} {r:Reach} {b0:Nat} {t:TypeId} {v:Value} {d:DataW H} {ps:List MemPlace} {sp:Nat→Bool} {ts:List CT} (ht:isAggT P t=some true)
  (hsh:shape P 9 t=some ts) (hv:Value.okWide P W r b0 t v) (h:DataW.Trod enc P W 0 sp true t v d ps):∃ cs:List Value,v=.agg cs.toArray∧Fits W ts cs:=by
 obtain ⟨fuel,hf⟩:=h
 have:∃ cs:Array Value,v=.agg cs:=by grind [isAggT,okWide_struct,Value.okWide]
 obtain ⟨cs,rfl⟩:=this
 exact ⟨cs.toList,by simp,open_fits 9 t fuel _ _ ts hf hsh⟩
end Go.Am

namespace Go.Am
open Go.IntKind (wrap)
open Int (toNat)
open Go.RowKit
def boolOfAV:AV→Bool
 | .bool b=>b
 | _=>false
def strOfAV:AV→ByteArray
 | .str s=>s
 | _=>.empty
def homCT:List CT→Option IntKind
 | [.int k]=>some k
 | .int k::cs=>match homCT cs with
  | some k'=>bif decide (k=k') then some k else none
  | none=>none
 | _=>none
theorem homCT_at:∀ {cs:List CT} {k:IntKind},homCT cs=some k→∀ c,c∈cs→c=.int k
 | [],_,h=>by simp
 | [c0],k,h=>by
  intro c hc
  cases c0<;>simp [homCT] at h
  grind
 | c0::c1::cs,k,h=>by
  cases c0<;>simp only [homCT,reduceCtorEq] at h
  rename_i k0
  cases hr:homCT (c1::cs) with
  | none=>grind
  | some k' =>
   rw [hr] at h
   simp only at h
   obtain ⟨h1,h2⟩:=bif_some h
   cases h2
   have h1:=of_decide_eq_true h1
   subst h1
   intro c hc
   rcases List.mem_cons.1 hc with rfl|hc
   ·rfl
   ·exact homCT_at hr c hc
mutual
def canon : CT → AV → AV
  | .int k, a => .int k (intOfAV a)
  | .bool, a => .bool (boolOfAV a)
  | .str, a => .str (strOfAV a)
  | .sl cs, a => .isl cs.length (islN a) (match homCT cs with
    | some k => fun i j => .int k (intOfAV (islF a i (bif Nat.beq cs.length 1 then 0 else j)))
    | none => fun i j => atL (canonRow cs (fun q => islF a i q) 0) j)
def canonRow : List CT → (Nat → AV) → Nat → List AV
  | [], _, _ => []
  | c :: cs, g, n => canon c (g n) :: canonRow cs g (n + 1)
end
theorem canonRow_get:∀ (cs:List CT) (g:Nat→AV) (n j:Nat) (c:CT),cs[j]? = some c→(canonRow cs g n)[j]? = some (canon c (g (n+j)))
 | [],_,_,_,_,h=>by grind
 | c::cs,g,n,0,c',h=>by grind [canonRow]
 | c::cs,g,n,j+1,c',h=>by
  simp at h
  simp only [canonRow,List.getElem?_cons_succ]
  rw [canonRow_get cs g (n+1) j c' h,show n+1+j=n+(j+1) by omega]
theorem canonRow_length:∀ (cs:List CT) (g:Nat→AV) (n:Nat),(canonRow cs g n).length=cs.length
 | [],_,_=>rfl
 | c::cs,g,n=>by simp [canonRow,canonRow_length]
theorem Ent.islE {os:List (Option Ob)} {es n:Nat} {f g:Nat→Nat→AV} (h:∀ i j,i<n→j<es→Ent os (f i j) (g i j)∧Cl (g i j)):Ent os (.isl es n f) (.isl es n g):=fun β w v hh hr=>by
 cases hr with
 | isl vals he hcap hb hc ho hr hcl=>exact .isl vals he hcap hb hc ho (fun i j hi hj=>(h i j hi hj).1 β w _ hh (hr i j hi hj)) (fun i j hi hj=>(h i j hi hj).2)
 | isl0 h'=>exact .isl0 h'
theorem canon_ent {os:List (Option Ob)} {c:CT} {a:AV} (h:CellOk c a):Ent os a (canon c a)∧Cl (canon c a):=by
 induction h with
 | int h=>exact ⟨Ent.of_eq (by rfl),by unfold canon;exact .int⟩
 | bool=>exact ⟨Ent.of_eq (by rfl),by unfold canon;exact .bool⟩
 | str h=>exact ⟨Ent.of_eq (by rfl),by unfold canon;exact .str⟩
 | @sl cs n f hn h ih =>
  have key:∀ i j,i<n→j<cs.length→∃ c,cs[j]? = some c∧atL (canonRow cs (fun q=>f i q) 0) j=canon c (f i j):=fun i j hi hj=>by simp_all [atL,List.getD_eq_getElem?_getD,canonRow_get]
  unfold canon
  cases hh:homCT cs with
  | none =>
   refine ⟨Ent.islE fun i j hi hj=>?_,.isl fun i j hi hj=>?_⟩
   ·obtain ⟨c,h1,h2⟩:=key i j hi hj
    show Ent os (f i j) (atL (canonRow cs (fun q=>f i q) 0) j)∧Cl (atL (canonRow cs (fun q=>f i q) 0) j)
    grind
   ·obtain ⟨c,h1,h2⟩:=key i j hi hj
    show Cl (atL (canonRow cs (fun q=>f i q) 0) j)
    rw [h2]
    exact (ih i j c hi h1).2
  | some k =>
   refine ⟨Ent.islE fun i j hi hj=>⟨Ent.of_eq ?_,.int⟩,.isl fun i j hi hj=>.int⟩
   show f i j=.int k (intOfAV (f i (bif Nat.beq cs.length 1 then 0 else j)))
   have hj':(bif Nat.beq cs.length 1 then 0 else j)=j:=by grind [Nat.beq,Nat.eq_of_beq_eq_true]
   rw [hj']
   have hc:cs[j]? = some cs[j]:=by simp
   have:=h i j _ hi hc
   rw [homCT_at hh cs[j] (List.getElem_mem hj)] at this
   generalize f i j=q at this
   cases this
   rfl
theorem Fits.canon {w:World} {ts:List CT} {cs:List Value} (h:Fits w ts cs):∃ g:Nat→AV,(∀ (j:Nat) c,ts[j]? = some c→CellOk c (g j))∧Rel noB w (.agg (canonRow ts g 0)) (.agg cs.toArray):=by
 obtain ⟨g,hg⟩:=h.pick
 refine ⟨g,fun j c hc=>(hg j c hc).1,?_⟩
 refine .agg (by simp [canonRow_length,h.len]) fun j u v hu hv=>?_
 have hj:j<ts.length:=by grind [canonRow_length,List.getElem?_eq_some_iff]
 have hc:ts[j]? = some ts[j]:=by simp
 rw [canonRow_get ts g 0 j _ hc] at hu
 obtain ⟨h1,v',h2,h3⟩:=hg j _ hc
 have hv:cs[j]? = some v:=by grind
 rw [h2] at hv;cases hv
 cases hu
 rw [Nat.zero_add]
 exact (canon_ent (os:=[]) h1).1 _ _ _ (fun k o hk=>by grind) h3
theorem CellOk.sl_inv {cs:List CT} {a:AV} (h:CellOk (.sl cs) a):islN a≤maxLen∧∀ i j c,i<islN a→cs[j]? = some c→CellOk c (islF a i j):=by
 cases h with
 | sl hn h=>exact ⟨hn,h⟩
theorem CellOk.int_inv {k:IntKind} {a:AV} (h:CellOk (.int k) a):(Lit.int k (intOfAV a)).wf=true:=canonI_wf h
theorem rel_agg_parts {β:Book} {w:World} {l:List AV} {vs:Array Value} (h:Rel β w (.agg l) (.agg vs)):l.length=vs.size∧∀ (j:Nat) u v,l[j]? = some u→vs[j]? = some v→Rel β w u v:=by cases h<;>grind
section
open Go.ChangeShapes Go.WideShapes Go.ChangeAt
variable {H : Type} {enc : TypeId × Value → H} {P : Program} {W : World} {sp : Nat → Bool}
theorem open_any {r:Reach} {b0:Nat} {t:TypeId} {v:Value} {d:DataW H} {ps:List MemPlace} {ts:List CT} {ag:Bool} (ht:isAggT P t=some ag)
  (hsh:shape P 9 t=some ts) (hv:Value.okWide P W r b0 t v) (h:DataW.Trod enc P W 0 sp true t v d ps):∃ cs:List Value,Fits W ts cs∧(ag=true→v=.agg cs.toArray)∧(ag=false→cs=[v]):=by
 cases ag with
 | true =>
  grind [open_agg]
 | false =>
  obtain ⟨fuel,hf⟩:=h
  have hc:v.cells.toList=[v]:=by
   simp only [shape] at hsh
   split at hsh
   ·rename_i hu;obtain ⟨b,rfl⟩:=okWide_bool hu hv;rfl
   ·rename_i k hu;obtain ⟨n,rfl⟩:=okWide_int hu hv;rfl
   ·rename_i hu;obtain ⟨n,rfl⟩:=okWide_string hu hv;rfl
   ·rename_i e hu;obtain ⟨a,l,c,rfl⟩:=okWide_slice hu hv;rfl
   ·simp_all [isAggT]
   ·simp_all [isAggT]
   grind
  rw [hc] at hf
  exact ⟨[v],open_fits 9 t fuel _ _ ts hf hsh,fun h=>by grind,fun _=>rfl⟩
def shapesOf (P:Program):List TypeId→Option (List (Bool×List CT))
 | []=>some []
 | t::ts=>match isAggT P t,shape P 9 t,shapesOf P ts with
  | some b,some l,some r=>some ((b,l)::r)
  | _,_,_=>none
def argsOf:List (Bool×List CT)→(Nat→Nat→AV)→Nat→List AV
 | [],_,_=>[]
 | (true,ts)::S,G,n=>.agg (canonRow ts (G n) 0)::argsOf S G (n+1)
 | (false,ts)::S,G,n=>atL (canonRow ts (G n) 0) 0::argsOf S G (n+1)
theorem open_all {r:Reach} {b0:Nat}:∀ {ts:List TypeId} {vs:List Value} {ds:List (DataW H)} {ps:List MemPlace} {S:List (Bool×List CT)} (n:Nat),shapesOf P ts=some S→DataW.TrodAll enc P W 0 sp true ts vs ds ps →
  (∀ (j:Nat) t v,ts[j]? = some t→vs[j]? = some v→Value.okWide P W r b0 t v) →
  ∃ G:Nat→Nat→AV,(∀ (k:Nat) s,S[k]? = some s→∀ (j:Nat) c,s.2[j]? = some c→CellOk c (G (n+k) j))∧Rels noB W (argsOf S G n) vs.toArray∧∃ f:Nat→DataW H,ds=(List.range S.length).map f
 | [],[],[],_,S,n,hS,hA,_=>by
  simp [shapesOf] at hS;subst hS
  exact ⟨fun _ _=>.junk,fun k s h=>by grind,Rels.nil,fun _=>.nil,rfl⟩
 | t::ts,v::vs,d::ds,ps,S,n,hS,hA,hok=>by
  obtain ⟨p,q,h1,h2,rfl⟩:=hA
  simp only [shapesOf] at hS
  split at hS
  rotate_left
  ·grind
  rename_i b l r' e1 e2 e3
  cases hS
  obtain ⟨cs,hf,g1,g2⟩:=open_any e1 e2 (hok 0 t v rfl rfl) h1
  obtain ⟨g,hg,hr⟩:=hf.canon
  obtain ⟨G,hG,hR,f,hds⟩:=open_all (n+1) e3 h2 (fun j t v ht hv=>hok (j+1) t v (by grind) (by grind))
  have hne:∀ k,Nat.beq (n+1+k) n=false:=fun k=>by grind [Nat.beq,Nat.eq_of_beq_eq_true]
  let G':Nat→Nat→AV:=fun m=>bif Nat.beq m n then g else G m
  have hG':∀ k,G' (n+1+k)=G (n+1+k):=fun k=>by grind
  have hGn:G' n=g:=by grind [Nat.beq,Nat.beq_refl]
  have hargs:∀ (S':List (Bool×List CT)) (k:Nat),argsOf S' G' (n+1+k)=argsOf S' G (n+1+k):=by
   intro S'
   induction S' with
   | nil=>intro k;rfl
   | cons x S' ih =>
    intro k
    obtain ⟨xb,xl⟩:=x
    cases xb<;>simp only [argsOf,hG']<;>rw [show n+1+k+1=n+1+(k+1) by omega,ih]
  refine ⟨G',fun k s hs j c hc=>?_,?_,fun m=>bif Nat.beq m 0 then d else f (m - 1),?_⟩
  ·grind
  ·have h0:=hargs r' 0
   rw [Nat.add_zero] at h0
   cases b with
   | true =>
    have:=g1 rfl;subst this
    simp only [argsOf,hGn,h0]
    exact Rels.cons hr hR
   | false =>
    have:=g2 rfl;subst this
    simp only [argsOf,hGn,h0]
    refine Rels.cons ?_ hR
    obtain ⟨hl,hrr⟩:=rel_agg_parts hr
    have hlen:l.length=1:=by rw [← hf.len];rfl
    have e0:l[0]? = some l[0]:=by simp
    refine hrr 0 _ v ?_ rfl
    grind [atL,canonRow_get]
  ·rw [hds]
   simp [List.range_succ_eq_map]
   exact fun a _=>rfl
 | [],_::_,_,_,_,_,_,h,_=>h.elim
 | [],[],_::_,_,_,_,_,h,_=>h.elim
 | _::_,[],_,_,_,_,_,h,_=>h.elim
 | _::_,_::_,[],_,_,_,_,h,_=>h.elim
end
end Go.Am

namespace Go.Sp
open Go.IntKind (wrap)
open Int (toNat)
open Go Go.Am
def nbL (v:Int) (size:Nat):List Int:=(List.range size).map (numB v size)
theorem nbL_len (v:Int) (size:Nat):(nbL v size).length=size:=by simp [nbL]
theorem getD_app (a b:List Int) (i:Nat):(a++b).getD i 0=bif Nat.blt i a.length then a.getD i 0 else b.getD (i - a.length) 0:=by grind [blt_t,blt_f,Nat.le_of_not_lt]
theorem getD_map {n:Nat} {f:Nat→Int} {i:Nat} (h:i<n):((List.range n).map f).getD i 0=f i:=by grind
inductive It where
  | int (n : Int)
  | byt (n : Nat) (f : Nat → Int)
  | li (n : Nat) (c : Nat → It)
namespace It
def kind:It→Int|int _=>1|byt _ _=>2|li _ _=>3
def num:It→Int|int n=>n|_=>0
def nb:It→Nat|byt n _=>n|_=>0
def fb:It→Nat→Int|byt _ f=>f|_=>fun _=>0
def nl:It→Nat|li n _=>n|_=>0
def row:It→Nat→Nat→AV
 | li _ c=>fun i j=>atL [.int .i64 (c i).kind,.int .i64 (c i).num,bys (c i).nb (c i).fb,.isl 4 (c i).nl (row (c i))] j
 | _=>fun _ _=>.junk
def cells (x:It):List AV:=[.int .i64 x.kind,.int .i64 x.num,bys x.nb x.fb,.isl 4 x.nl x.row]
def av (x:It):AV:=.agg x.cells
def sl (n:Nat) (c:Nat→It):AV:=.isl 4 n (fun i j=>atL (c i).cells j)
def enc:It→List Int
 | int n=>1::nbL (IntKind.wrap .u64 n) 8
 | byt n f=>2::(nbL n 4++(List.range n).map f)
 | li n c=>3::(nbL n 4++(List.range n).flatMap fun i=>enc (c i))
def okD:It→Int→Bool
 | li n c,d=>decide (0<d)&&Nat.ble n 1000&&(List.range n).all (fun i=>okD (c i) (d - 1))
 | _,_=>true
def encP (n:Nat) (c:Nat→It) (k:Nat):List Int:=3::(nbL n 4++(List.range k).flatMap fun i=>(c i).enc)
theorem enc_li (n:Nat) (c:Nat→It):(li n c).enc=encP n c n:=rfl
theorem encP_zero (n:Nat) (c:Nat→It):encP n c 0=3::nbL n 4:=by rfl
theorem encP_succ (n:Nat) (c:Nat→It) (k:Nat):encP n c (k+1)=encP n c k++(c k).enc:=by
 simp [encP,List.range_succ]
theorem encP_le (n:Nat) (c:Nat→It) {k j:Nat} (h:k≤j):(encP n c k).length≤(encP n c j).length:=by
 induction j with
 | zero=>grind
 | succ j ih =>
  by_cases e:k=j+1
  ·grind
  grind [encP_succ,List.length_append]
theorem enc_pos (x:It):1≤x.enc.length:=by cases x<;>simp [enc]
theorem encP_len (n:Nat) (c:Nat→It) (k:Nat):5+k≤(encP n c k).length:=by induction k<;>grind [encP,nbL_len,enc_pos,encP_succ,List.length_append]
theorem enc_child {n:Nat} {c:Nat→It} {i:Nat} (h:i<n):(c i).enc.length+5≤(li n c).enc.length:=by
 have h1:=encP_le n c (show i+1≤n by omega)
 grind [encP_len,encP_succ,List.length_append,enc_li]
theorem okD_li {n:Nat} {c:Nat→It} {d:Int} (h:(li n c).okD d=true):0<d∧n≤1000∧∀ i,i<n→(c i).okD (d - 1)=true:=by simp_all [okD,Bool.and_eq_true,decide_eq_true_eq,List.all_eq_true,List.mem_range,Nat.ble_eq]
end It
end Go.Sp
namespace Go.Sp
open Go Go.Am
namespace It
def okB:It→Prop
 | int _=>True
 | byt n f=>byB f n
 | li n c=>∀ i,i<n→okB (c i)
def inB (l:List Int):Prop:=∀ v,v∈l→0≤v∧v<256
theorem inB_cons {v:Int} {l:List Int} (h:0≤v∧v<256) (h':inB l):inB (v::l):=fun x hx=>by
 rcases List.mem_cons.1 hx with e|e
 ·omega
 ·exact h' x e
theorem inB_app {a b:List Int} (h:inB a) (h':inB b):inB (a++b):=fun x hx=>by
 rcases List.mem_append.1 hx with e|e
 ·exact h x e
 ·exact h' x e
theorem inB_nb (v:Int) (size:Nat):inB (nbL v size):=fun x hx=>by
 obtain ⟨i,_,rfl⟩:=List.mem_map.1 hx
 exact ⟨Int.emod_nonneg _ (by decide),Int.emod_lt_of_pos _ (by decide)⟩
theorem inB_by {l:List Int} (h:inB l):byB (fun i=>l.getD i 0) l.length:=fun i hi=>by
 have e:l.getD i 0=l[i]:=by grind
 show 0≤l.getD i 0∧l.getD i 0<256
 rw [e]
 exact h _ (List.getElem_mem hi)
theorem enc_inB:∀ x:It,x.okB→inB x.enc
 | int n,_=>inB_cons (by decide) (inB_nb _ _)
 | byt n f,h=>inB_cons (by decide) (inB_app (inB_nb _ _) fun x hx=>by
   obtain ⟨i,hi,rfl⟩:=List.mem_map.1 hx
   exact h i (List.mem_range.1 hi))
 | li n c,h=>inB_cons (by decide) (inB_app (inB_nb _ _) fun x hx=>by
   obtain ⟨i,hi,hx⟩:=List.mem_flatMap.1 hx
   exact enc_inB (c i) (h i (List.mem_range.1 hi)) x hx)
theorem enc_by {x:It} (h:x.okB):byB (fun i=>x.enc.getD i 0) x.enc.length:=inB_by (enc_inB x h)
end It
structure Coin where
  bank : Int
  epoch : Int
  denom : Int
  depth : Int
  a : Int
  root : Nat → Int
  z : Int
  sa : Int
  sb : Int
  r : Int
def Coin.cells (c:Coin):List AV:=[.int .i64 c.bank,.int .i64 c.epoch,.int .i64 c.denom,.int .i64 c.depth,.int .i64 c.a]++(u8c c.root++[.int .i64 c.z,.int .i64 c.sa,.int .i64 c.sb,.int .i64 c.r])
def Coin.av (c:Coin):AV:=.agg c.cells
structure Cxt where
  payee : Nat → Int
  time : Int
  number : Int
def Cxt.cells (x:Cxt):List AV:=u8c x.payee++[.int .i64 x.time,.int .i64 x.number]
def Cxt.av (x:Cxt):AV:=.agg x.cells
def intsI (l:List Int):It:=.li l.length fun i=>.int (l.getD i 0)
def lsI (l:List It):It:=.li l.length fun i=>l.getD i (.int 0)
def Coin.it (c:Coin):It:=lsI [intsI [c.bank,c.epoch,c.denom,c.depth,c.a],.byt 32 c.root,intsI [c.z,c.sa,c.sb,c.r]]
def tagI (s:ByteArray) (x:It):Nat→Int:=tagF s x.enc.length fun i=>x.enc.getD i 0
def Coin.dig (c:Coin):Nat→Int:=tagI "specie/coin-item".toUTF8 c.it
def chalI (c:Coin) (l i:Int) (x:Cxt):It:=lsI [.byt 32 c.dig,intsI [l,i],.byt 32 x.payee,intsI [x.time,x.number]]
def chalN (q:Int) (c:Coin) (l i:Int) (x:Cxt):Int:=numF (tagI "specie/spend".toUTF8 (chalI c l i x)) q 16
end Go.Sp
namespace Go.Sp
open Go Go.Am
theorem il_eq {os:List (Option Ob)} {n:Nat} {f:Nat→Nat→Int} {l:List Int} (hn:n=l.length) (h:∀ i,i<n→f i 0=l.getD i 0):Ent os (.isl 1 n fun i j=>.int .u8 (f i j)) (il .u8 l) :=
 bys_eq (g:=fun i _=>l.getD i 0) hn h
theorem obl_eq {os:List (Option Ob)} {mu:Bool} {n:Nat} {f:Nat→Nat→Int} {l:List Int} (hn:n=l.length) (h:∀ i,i<n→f i 0=l.getD i 0) :
  ObEnt os ⟨1,n,mu,.fn fun i j=>.int .u8 (f i j)⟩ ⟨1,l.length,mu,.fn (ilF .u8 l)⟩:=by
 refine ⟨rfl,hn,rfl,fun i j hi hj=>Ent.of_eq ?_⟩
 obtain rfl:j=0:=Nat.lt_one_iff.1 hj
 exact congrArg _ (h i hi)
theorem obl_app {os:List (Option Ob)} {mu:Bool} {n:Nat} {a b l:List Int} (hl:l=a++b) (hn:n=a.length+b.length) :
  ObEnt os ⟨1,n,mu,.fn fun i _=>.int .u8 (bif Nat.blt i a.length then a.getD i 0 else b.getD (i - a.length) 0)⟩ ⟨1,l.length,mu,.fn (ilF .u8 l)⟩ :=
 obl_eq (f:=fun i _=>bif Nat.blt i a.length then a.getD i 0 else b.getD (i - a.length) 0) (by grind) (fun i _=>by rw [hl,getD_app])
theorem enc1 {v w:Int} {size i:Nat} (hi:i<1+size):(bif Nat.blt i 1 then v else numB w size (i - 1))=(v::nbL w size).getD i 0:=by
 cases i with
 | zero=>rfl
 | succ i =>
  grind [blt_f,numB,nbL,getD_map]
theorem enc2 {v w:Int} {n i:Nat} {f:Nat→Int} (hi:i<5+n):(bif Nat.blt i 5 then bif Nat.blt i 1 then v else numB w 4 (i - 1) else f (i - 5))=(v::(nbL w 4++(List.range n).map f)).getD i 0:=by grind [nbL,List.range,nbL_len,getD_app,blt_t,enc1,blt_f,Nat.le_of_not_lt,getD_map]
theorem wu64_by (n:Int):0≤IntKind.wrap .u64 n∧IntKind.wrap .u64 n<18446744073709551616:=by grind [wu64m]
theorem byt_len (n:Nat) (f:Nat→Int):(It.byt n f).enc.length=5+n:=by grind [It.enc,nbL_len]
theorem shr_num {v : Int} {size t : Nat} (ht : t < size) (h8 : size ≤ 8) : IntKind.wrap .u8 (v.fdiv (2 ^ min (Int.toNat (IntKind.wrap .i64 (8 * ((size : Int) - 1 - t)))) 64)) = numB v size t := by
  have e : min (Int.toNat (IntKind.wrap .i64 (8 * ((size : Int) - 1 - t)))) 64 = 8 * (size - 1 - t) := by grind [wI]
  rw [e, wu8m, Int.fdiv_eq_ediv_of_nonneg _ (Int.pow_nonneg (by decide))]
  show v / 2 ^ (8 * (size - 1 - t)) % 256 = v / 256 ^ (size - 1 - t) % 256
  simp [Int.pow_mul]
theorem numb_ob {os:List (Option Ob)} {mu:Bool} {n n':Nat} {f:Nat→Nat→Int} {g:Nat→Int} (hn:n=n'):ObEnt os ⟨1,n,mu,.fn fun i j=>.int .u8 (f i j)⟩ ⟨1,n',mu,.fn fun i j=>.int .u8 (bif Nat.blt i n then f i j else g i)⟩:=by
 subst hn
 refine ⟨rfl,rfl,rfl,fun i j hi _=>Ent.of_eq ?_⟩
 have hi:i<n:=hi
 show AV.int .u8 (f i j)=.int .u8 (bif Nat.blt i n then f i j else g i)
 grind [blt_t]
theorem numb_ob1 {os:List (Option Ob)} {mu:Bool} {n':Nat} {b:Int} {g:Nat→Int} (hn:1=n'):ObEnt os ⟨1,1,mu,.lst [[.int .u8 b]]⟩ ⟨1,n',mu,.fn fun i _=>.int .u8 (bif Nat.blt i 1 then b else g i)⟩:=by
 subst hn
 refine ⟨rfl,rfl,rfl,fun i j hi hj=>Ent.of_eq ?_⟩
 obtain rfl:i=0:=Nat.lt_one_iff.1 hi
 obtain rfl:j=0:=Nat.lt_one_iff.1 hj
 rfl
theorem obl_cg {os:List (Option Ob)} {mu:Bool} {a b:List Int} (h:b=a):ObEnt os ⟨1,a.length,mu,.fn (ilF .u8 a)⟩ ⟨1,b.length,mu,.fn (ilF .u8 b)⟩:=by
 subst h
 exact .refl _
theorem int_len (n:Int):(It.int n).enc.length=9:=by rfl
theorem wr_int (l:List Int) (n:Int):l.length+1+8=(l++(It.int n).enc).length:=by rw [List.length_append,int_len]
theorem wr_byt (l:List Int) (n:Nat) (f:Nat→Int):l.length+1+4+n=(l++(It.byt n f).enc).length:=by grind [List.length_append,byt_len]
end Go.Sp
namespace Go.Sp
open Go Go.Am
theorem numb_step {n k k' size:Nat} {v:Int} {y:Int} {i:Nat} (hk:k'=k+1) (hi:i<n+k') {x:Int} (hx:x=numB v size k) :
  (bif Nat.blt i (n+k) then (bif Nat.blt i n then y else numB v size (i - n)) else x)=bif Nat.blt i n then y else numB v size (i - n):=by grind [blt_t,blt_f,Nat.le_of_not_lt,numB]
theorem numb_obs {os:List (Option Ob)} {mu:Bool} {n t size:Nat} {v X:Int} {f:Nat→Nat→Int} (hX:X=numB v size t) :
  ObEnt os ⟨1,n+t+1,mu,.fn fun i j=>.int .u8 (bif Nat.blt i (n+t) then (bif Nat.blt i n then f i j else numB v size (i - n)) else intOfAV (atL [.int .u8 X] j))⟩ ⟨1,n+(t+1),mu,.fn fun i j=>.int .u8 (bif Nat.blt i n then f i j else numB v size (i - n))⟩:=by
 refine ⟨rfl,rfl,rfl,fun i j hi hj=>Ent.of_eq ?_⟩
 obtain rfl:j=0:=Nat.lt_one_iff.1 hj
 exact congrArg (AV.int .u8) (numb_step (n:=n) (k:=t) (size:=size) (v:=v) (y:=f i 0) rfl hi hX)
theorem wr1 {l:List Int} {v w:Int} {size i:Nat} (hi:i<l.length+1+size) :
  (bif Nat.blt i (l.length+1) then (bif Nat.blt i l.length then l.getD i 0 else v) else numB w size (i - (l.length+1)))=(l++(v::nbL w size)).getD i 0:=by grind [nbL,getD_app,blt_t,blt_f,Nat.le_of_not_lt,numB,List.range,getD_map]
theorem wr2 {l:List Int} {v w:Int} {n i:Nat} {f:Nat→Int} (hi:i<l.length+1+4+n) :
  (bif Nat.blt i (l.length+1+4) then (bif Nat.blt i (l.length+1) then (bif Nat.blt i l.length then l.getD i 0 else v) else numB w 4 (i - (l.length+1))) else f (i - (l.length+1+4)))=(l++(v::(nbL w 4++(List.range n).map f))).getD i 0:=by
 have e:l++(v::(nbL w 4++(List.range n).map f))=(l++(v::nbL w 4))++(List.range n).map f:=by simp
 have hl:(l++(v::nbL w 4)).length=l.length+1+4:=by simp [nbL_len]
 rw [e,getD_app,hl]
 grind [blt_t,wr1,blt_f,Nat.le_of_not_lt,getD_map]
end Go.Sp
namespace Go.Sp
open Go Go.Am
theorem li_ok (d:Int) (n:Nat) (p:Nat→Bool):(decide (d>0)&&decide ((n:Int)≤1000) && !decide (firstI p n 0≥0))=(decide (0<d)&&Nat.ble n 1000&&(List.range n).all fun i => !p i):=by
 have e1:decide ((n:Int)≤1000)=Nat.ble n 1000:=by
  rw [Bool.eq_iff_iff,Nat.ble_eq,decide_eq_true_eq]
  omega
 have e2:(!decide (firstI p n 0≥0))=(List.range n).all fun i => !p i:=by simp [firstI_neg,List.not_any_eq_all_not,Nat.zero_add]
 grind
end Go.Sp
namespace Go.Sp
open Go Go.Am
theorem int_row {os:List (Option Ob)} {v w:Int} (h:v=w):EntL os [.int .i64 1,.int .i64 v,.nsl,.nsl] (It.int w).cells:=by subst h;exact ⟨Ent.refl _,Ent.refl _,Ent.nsl,Ent.nsl,trivial⟩
theorem byt_row {os:List (Option Ob)} (n:Nat) (f:Nat→Int):EntL os [.int .i64 2,.int .i64 0,bys n f,.nsl] (It.byt n f).cells:=⟨Ent.refl _,Ent.refl _,Ent.refl _,Ent.nsl,trivial⟩
theorem int_push {os:List (Option Ob)} {mu:Bool} {l:List Int} {n n':Nat} {v:Int} (hn:n'=n+1) (h:v=l.getD n 0) :
  ObEnt os ⟨4,n+1,mu,.cat n (.row fun i=>(It.int (l.getD i 0)).cells) (.lst [[.int .i64 1,.int .i64 v,.nsl,.nsl]])⟩ ⟨4,n',mu,.row fun i=>(It.int (l.getD i 0)).cells⟩ :=
 ObEnt.catRow (c:=fun i=>(It.int (l.getD i 0)).cells) (c':=fun i=>(It.int (l.getD i 0)).cells) hn (fun _ _=>EntL.refl _) (int_row h)
theorem row2_ob {os:List (Option Ob)} {es:Nat} {mu:Bool} {a b a' b':List AV} (h:EntL os a a') (h':EntL os b b'):ObEnt os ⟨es,2,mu,.lst [a,b]⟩ ⟨es,2,mu,.lst [a',b']⟩ :=
 ⟨rfl,rfl,rfl,fun i j hi _=>by
  have hi:i<2:=hi
  match i,hi with
  | 0,_=>exact Ent.atL h j
  | 1,_=>exact Ent.atL h' j⟩
theorem ints_out {os:List (Option Ob)} {l:List Int} {n:Nat} (h:n=l.length):Ent os (.agg [.int .i64 3,.int .i64 0,.nsl,.isl 4 n fun r k=>atL (It.int (l.getD r 0)).cells k]) (intsI l).av:=by
 subst h
 exact Ent.agg ⟨Ent.refl _,Ent.refl _,Ent.nsl,Ent.refl _,trivial⟩
theorem il_rows {os:List (Option Ob)} {k:IntKind} {R:List (List AV)} {l:List Int} {n:Nat} (hn:n=l.length) (h:R=l.map fun v=>[.int k v]):Ent os (.isl 1 n fun r j=>atL (R.getD r []) j) (il k l):=by
 subst hn
 refine Ent.isl fun i j hi hj=>?_
 obtain rfl:j=0:=Nat.lt_one_iff.1 hj
 subst h
 simp [atL,ilF,List.getD_eq_getElem?_getD,hi]
end Go.Sp
namespace Go.Sp
open Go Go.Am
theorem byts_out {os:List (Option Ob)} {f:Nat→Int} {n:Nat} (h:n=32):Ent os (.agg [.int .i64 2,.int .i64 0,.isl 1 n fun i _=>.int .u8 (f i),.nsl]) (It.byt 32 f).av:=by
 subst h
 exact Ent.agg (byt_row 32 f)
end Go.Sp
namespace Go.Sp
open Go Go.Am
theorem atC_right {a b:List AV} {i:Nat}:atL (a++b) (a.length+i)=atL b i:=by simp [atL,List.getD_eq_getElem?_getD,List.getElem?_append_right,Nat.le_add_right,Nat.add_sub_cancel_left]
theorem atC_left {a b:List AV} {i:Nat} (h:i<a.length):atL (a++b) i=atL a i:=by grind [atL,List.getElem?_append_left]
theorem Coin.root_at (c:Coin) {i:Nat} (h:i<32):intOfAV (atL c.cells (5+i))=c.root i:=by
 have e:atL c.cells (5+i)=atL (u8c c.root++[.int .i64 c.z,.int .i64 c.sa,.int .i64 c.sb,.int .i64 c.r]) i:=atC_right (a:=[.int .i64 c.bank,.int .i64 c.epoch,.int .i64 c.denom,.int .i64 c.depth,.int .i64 c.a]) (i:=i)
 rw [e,atC_left (show i<(u8c c.root).length from h)]
 exact u8c_at h
theorem It.cl_ls:∀ x:It,Cl (.isl 4 x.nl x.row)
 | .int _=>.isl (fun i j h=>absurd h (Nat.not_lt_zero _))
 | .byt _ _=>.isl (fun i j h=>absurd h (Nat.not_lt_zero _))
 | .li n c=>.isl (fun i j _ hj=>by
  have ih:=It.cl_ls (c i)
  show Cl (atL [.int .i64 (c i).kind,.int .i64 (c i).num,bys (c i).nb (c i).fb,.isl 4 (c i).nl (It.row (c i))] j)
  match j,hj with
  | 0,_=>exact .int
  | 1,_=>exact .int
  | 2,_=>exact .isl (fun _ _ _ _=>.int)
  | 3,_=>exact ih)
theorem It.cl_at (x:It) (j:Nat) (hj:j<4):Cl (atL x.cells j):=by
 match j,hj with
 | 0,_=>exact .int
 | 1,_=>exact .int
 | 2,_=>exact .isl (fun _ _ _ _=>.int)
 | 3,_=>exact x.cl_ls
theorem li_out {os:List (Option Ob)} {R:List (List AV)} {L:List It} {n:Nat} (hn:n=L.length) (h:∀ i,i<n→EntL os (R.getD i []) (L.getD i (.int 0)).cells) :
  Ent os (.agg [.int .i64 3,.int .i64 0,.nsl,.isl 4 n fun r k=>atL (R.getD r []) k]) (lsI L).av:=by
 subst hn
 exact Ent.agg ⟨Ent.refl _,Ent.refl _,Ent.nsl,Ent.islE (fun i j hi hj=>⟨Ent.atL (h i hi) j,It.cl_at _ j hj⟩),trivial⟩
theorem li3_out {os:List (Option Ob)} {a b c:List AV} {x y z:It} (ha:EntL os a x.cells) (hb:EntL os b y.cells) (hc:EntL os c z.cells) :
  Ent os (.agg [.int .i64 3,.int .i64 0,.nsl,.isl 4 3 fun r k=>atL (List.getD [a,b,c] r []) k]) (lsI [x,y,z]).av :=
 li_out (L:=[x,y,z]) rfl fun i hi=>match i,hi with
  | 0,_=>ha
  | 1,_=>hb
  | 2,_=>hc
theorem li4_out {os:List (Option Ob)} {a b c d:List AV} {x y z w:It} (ha:EntL os a x.cells) (hb:EntL os b y.cells) (hc:EntL os c z.cells) (hd:EntL os d w.cells) :
  Ent os (.agg [.int .i64 3,.int .i64 0,.nsl,.isl 4 4 fun r k=>atL (List.getD [a,b,c,d] r []) k]) (lsI [x,y,z,w]).av :=
 li_out (L:=[x,y,z,w]) rfl fun i hi=>match i,hi with
  | 0,_=>ha
  | 1,_=>hb
  | 2,_=>hc
  | 3,_=>hd
end Go.Sp
namespace Go.Sp
open Go Go.Am
theorem Coin.it_ok (c:Coin):c.it.okD 8=true:=by rfl
theorem intsI_okB (l:List Int):(intsI l).okB:=fun _ _=>trivial
theorem lsI_okB {L:List It} (h:∀ x,x∈L→x.okB):(lsI L).okB:=fun i hi=>by grind
theorem intsI_len (l:List Int):(intsI l).enc.length=5+9*l.length:=by
 have h:∀ (c:Nat→It) (k:Nat),(∀ i,(c i).enc.length=9)→∀ n,(It.encP n c k).length=5+9*k:=fun c k hc n=>by induction k<;>grind [It.encP_zero,nbL_len,It.encP_succ,List.length_append]
 exact h _ _ (fun i=>int_len _) _
theorem Coin.it_len (c:Coin):c.it.enc.length=133:=by rfl
theorem Coin.it_okB {c:Coin} (h:byB c.root 32):c.it.okB:=lsI_okB fun x hx=>by
 simp only [List.mem_cons,List.not_mem_nil,or_false] at hx
 rcases hx with e|e|e
 ·grind [intsI_okB]
 ·exact e▸h
 grind [intsI_okB]
theorem Coin.dig_by (c:Coin):byB c.dig 32:=fun i _=>sha_by _ _ i
theorem tagI_by (s:ByteArray) (x:It) (n:Nat):byB (tagI s x) n:=fun i _=>sha_by _ _ i
theorem chal_ok (c:Coin) (l i:Int) (x:Cxt):(chalI c l i x).okD 8=true:=by rfl
theorem chal_len (c:Coin) (l i:Int) (x:Cxt):(chalI c l i x).enc.length=125:=by rfl
theorem chal_okB {c:Coin} {l i:Int} {x:Cxt} (h:byB x.payee 32):(chalI c l i x).okB:=lsI_okB fun y hy=>by
 simp only [List.mem_cons,List.not_mem_nil,or_false] at hy
 rcases hy with e|e|e|e
 ·exact e▸c.dig_by
 ·grind [intsI_okB]
 ·exact e▸h
 grind [intsI_okB]
end Go.Sp

namespace Go.Proofs.YtcageinnelhonaaGreatDoor
open Go.IntKind (wrap)
open Int (toNat)
open Go Go.Am Go.Sp
set_option maxRecDepth 100000
theorem renc_int (n:Int):Pure Tryz.prog gl0 219 [.agg [.int .i64 1,.int .i64 n,bys 0 (fun _=>0),.isl 4 0 (fun _ _=>.junk)]] (il .u8 (It.int n).enc):=by
 have hw:=wu64_by n
 exact pz Tryz.func219 (by
  apply n_tt
  apply n_dc (rnum7_c (wrap .u64 n) (by omega) (by omega) (8) (by omega) (by omega))
  apply n_req (9≤140737488355328)
  exact n_outx (.isl 1 9 fun r k=>Zb (bif Nat.blt (r+0) 1 then intOfAV (atL [Zb 1] k) else numB (wrap .u64 n) 8 (r+0 - 1))) (il_eq rfl (fun i hi=>enc1 hi)))
theorem renc_byt (n:Nat) (f:Nat→Int) (hn:n≤1099511627776):Pure Tryz.prog gl0 219 [.agg [.int .i64 2,.int .i64 0,bys n f,.isl 4 0 (fun _ _=>.junk)]] (il .u8 (It.byt n f).enc):=by
 have hw:=wu64_by n
 have e:IntKind.wrap .u64 (n:Int)=n:=wu64 (by omega) (by omega)
 exact pz Tryz.func219 (by
  apply n_ff
  apply n_tt
  apply n_dc (rnum7_c (wrap .u64 (↑n:Int)) (by omega) (by omega) (4) (by omega) (by omega))
  apply n_req (5≤140737488355328)
  apply n_req ((5+n)*1≤140737488355328)
  exact n_outx (.isl 1 (5+n) fun r k=>Zb (bif Nat.blt (r+0) 5 then bif Nat.blt (r+0) 1 then intOfAV (atL [Zb 2] k) else numB (wrap .u64 (n:Int)) 4 (r+0 - 1) else f (r+0 - 5))) (il_eq (byt_len n f).symm (fun i hi=>by
                                                                                                      rw [e]
                                                                                                      exact enc2 hi)))
theorem renc_lw (n:Nat) (c:Nat→It) (E A:Nat→List Int) (hn:n≤1099511627776) (h0:A 0=3::nbL n 4) (hE:∀ k,A (k+1)=A k++E k) (hA:∀ k,k≤n→(A k).length≤1099511627776)
  (hc:∀ i,i<n→Pure Tryz.prog gl0 219 [(c i).av] (il .u8 (E i))):Pure Tryz.prog gl0 219 [.agg [.int .i64 3,.int .i64 0,bys 0 (fun _=>0),It.sl n c]] (il .u8 (A n)):=by
 have hw:=wu64_by n
 have e:IntKind.wrap .u64 (n:Int)=n:=wu64 (by omega) (by omega)
 have l0:(A 0).length=5:=by grind [nbL_len]
 have ls:∀ k,(A (k+1)).length=(A k).length+(E k).length:=fun k=>by grind
 exact pz Tryz.func219 (by
  apply n_ff
  apply n_ff
  apply n_dc (rnum7_c (wrap .u64 (↑n:Int)) (by omega) (by omega) (4) (by omega) (by omega))
  apply n_req (5≤140737488355328)
  apply n_loopx ({ x:Nat // x≤n }) [1,3,4] [0,112] (fun x=>[.own 0 4 0 0 4,.osl 1 1 0 (List.length (A (x.1))),Zi x.1]) (fun x=>[some ⟨4,1,true,.lst [[Zi 3,Zi 0,.isl 1 0 fun i x=>Zb 0,.isl 4 n fun i j=>atL (It.cells (c i)) j]]⟩,ilO IntKind.u8 (A (x.1))]) (fun x=>n - x.1) (⟨0,Nat.zero_le n⟩) [.own 0 4 0 0 4,.osl 1 1 0 5,Zi 0] [some ⟨4,1,true,.lst [[Zi 3,Zi 0,.isl 1 0 fun i x=>Zb 0,.isl 4 n fun i j=>atL (It.cells (c i)) j]]⟩,some ⟨1,5,true,.fn fun i j=>Zb (bif Nat.blt i 1 then intOfAV (atL [Zb 3] j) else numB (wrap .u64 (n:Int)) 4 (i - 1))⟩] (by repeat' (first|exact trivial|(first|exact Ent.refl _|exact inc_ent (by omega)|exact Ent.nil rfl|exact Ent.of_eq (congrArg (AV.osl _ _ _) (by first|omega|grind))|exact Ent.of_eq (congrArg (AV.int _) (by omega)))|refine And.intro ?_ ?_)) (⟨by exact ObEnt.refl _,obl_eq l0.symm (fun i hi=>by
                                                                                                      rw [e,h0]
                                                                                                      exact enc1 hi),trivial⟩)
  intro x4
  apply n_bd ((x4.1:Int)<(n:Int))
  ·intro g5
   apply n_req (0≤(x4.1:Int)∧(x4.1:Int)<(n:Int))
   apply n_dc (hc (toNat (↑x4.1:Int)) (by omega))
   apply n_req ((List.length (A (x4.1))+List.length (E (toNat (x4.1:Int))))*1≤140737488355328) (by grind [Int.toNat_natCast])
   refine n_old (.again (Again 0 (fun (x:{ x:Nat // x≤n })=>mkSt [1,3,4] [.own 0 4 0 0 4,.osl 1 1 0 (List.length (A (x.1))),Zi x.1] [some ⟨4,1,true,.lst [[Zi 3,Zi 0,.isl 1 0 fun i x=>Zb 0,.isl 4 n fun i j=>atL (It.cells (c i)) j]]⟩,ilO IntKind.u8 (A (x.1))]) (fun (x:{ x:Nat // x≤n })=>n - x.1) x4) [1,3,4] [0,98] [.own 0 4 0 0 4,.osl 1 1 0 (List.length (A (x4.1))+List.length (E (toNat (x4.1:Int)))),Zi (wrap .i64 ((x4.1:Int)+1))] [some ⟨4,1,true,.lst [[Zi 3,Zi 0,.isl 1 0 fun i x=>Zb 0,.isl 4 n fun i j=>atL (It.cells (c i)) j]]⟩,some ⟨1,List.length (A (x4.1))+List.length (E (toNat (x4.1:Int))),true,.fn fun i j=>Zb (bif Nat.blt i (List.length (A (x4.1))) then List.getD (A (x4.1)) i (0:Int) else List.getD (E (toNat (x4.1:Int))) (i - List.length (A (x4.1))) (0:Int))⟩]) ?_
   exact k_again (⟨x4.1+1,by omega⟩) (fun _ hs=>hs.le (⟨by exact Ent.refl _,Ent.of_eq (congrArg (AV.osl 1 1 0) (ls x4.1).symm),by grind [inc_ent],trivial⟩) (⟨by exact ObEnt.refl _,obl_app (hE x4.1) rfl,trivial⟩)) (by grind)
  ·intro g5
   exact n_outx (.isl 1 (List.length (A (x4.1))) fun r k=>Zb (List.getD (A (x4.1)) (r+0) (0:Int))) (Ent.of_eq (by rw [show x4.1=n by omega];rfl)))
theorem renc_c:∀ x:It,x.enc.length≤1099511627776→Pure Tryz.prog gl0 219 [x.av] (il .u8 x.enc)
 | .int n,_=>renc_int n
 | .byt n f,h=>renc_byt n f (by grind [byt_len])
 | .li n c,h=>renc_lw n c (fun i=>(c i).enc) (It.encP n c) (by grind [It.encP_len,It.enc_li]) (It.encP_zero n c) (It.encP_succ n c) (fun k hk=>Nat.le_trans (It.encP_le n c hk) h)
   (fun i hi=>renc_c (c i) (by grind [It.enc_child]))
def ow3:FuncId→Option (List Bool):=fun f=>bif Nat.beq f 352||Nat.beq f 276 then some [false] else bif Nat.beq f 371 then some [true,false,false] else bif Nat.beq f 348 then some [true,false] else none
theorem number_g (n:Nat) (f:Nat→Nat→Int) (v:Int) (_:0≤v) (_:v<18446744073709551616) (size:Nat) (h1:1≤size) (h8:size≤8) (hl:n≤1099511627776) :
  Gives Tryz.prog gl0 371 [⟨1,n,true,.fn fun i j=>.int .u8 (f i j)⟩] [.osl 0 1 0 n,.int .u64 v,.int .i64 size] (.osl 1 1 0 (n+size)) [none,some ⟨1,n+size,true,.fn fun i j=>.int .u8 (bif Nat.blt i n then f i j else numB v size (i - n))⟩]:=by
 exact gz ow0 Tryz.func371 (by
  apply n_loopx ({ x:Nat // x≤size }) [1,0,7] [33,0] (fun x=>[Zu v,.osl 1 1 0 (n+x.1),Zi ((size:Int) - 1 - (↑(x.1):Int))]) (fun x=>[none,some ⟨1,n+x.1,true,.fn fun i j=>Zb (bif Nat.blt i n then f i j else numB v size (i - n))⟩]) (fun x=>size - x.1) (⟨0,Nat.zero_le size⟩) [Zu v,.osl 1 1 0 n,Zi (wrap .i64 ((size:Int) - 1))] [none,some ⟨1,n,true,.fn fun i j=>Zb (f i j)⟩] (⟨by exact Ent.refl _,by exact Ent.refl _,Ent.of_eq (congrArg _ (by grind [wI])),trivial⟩) (⟨numb_ob rfl,trivial⟩)
  intro x0
  try (have q0:=x0.2;dsimp only at q0)
  apply n_bd ((size:Int) - 1 - (x0.1:Int)≥0)
  ·intro g1
   apply n_req ((0:Int)≤wrap .i64 ((8:Int)*((size:Int) - 1 - (x0.1:Int)))) (by grind [wI])
   apply n_req ((n+x0.1+1)*1≤140737488355328)
   exact n_againx [114,74] (⟨x0.1+1,by omega⟩) [Zu v,.osl 1 1 0 (n+x0.1+1),Zi (wrap .i64 ((size:Int) - 1 - (x0.1:Int) - 1))] [none,some ⟨1,n+x0.1+1,true,.fn fun i j=>Zb (bif Nat.blt i (n+x0.1) then bif Nat.blt i n then f i j else numB v size (i - n) else intOfAV (atL [Zb (wrap .u8 (Int.fdiv v ((2:Int)^min (toNat (wrap .i64 ((8:Int)*((size:Int) - 1 - (x0.1:Int))))) 64)))] j))⟩] (⟨by exact Ent.refl _,by exact Ent.refl _,Ent.of_eq (congrArg _ (by grind [wI])),trivial⟩) (⟨numb_obs (shr_num (by omega) h8),trivial⟩)
  ·intro g1
   exact n_outG (.osl 1 1 0 (n+x0.1)) [none,some ⟨1,n+x0.1,true,.fn fun i j=>Zb (bif Nat.blt i n then f i j else numB v size (i - n))⟩] (Ent.of_eq (congrArg (AV.osl 1 1 0) (by omega))) (by repeat' (first|exact trivial|(first|exact ObEnt.refl _|exact ObEnt.junk|exact ObEnt.zero|exact ObEnt.push rfl rfl|exact ObEnt.pushRow rfl|exact ObEnt.len (by omega)|exact ObEnt.row (by simp_all [rfl] <;> omega))|refine And.intro ?_ ?_)))
theorem number_h (b:Int) (v:Int) (_:0≤v) (_:v<18446744073709551616) (size:Nat) (h1:1≤size) (h8:size≤8) :
  Gives Tryz.prog gl0 371 [⟨1,1,true,.lst [[.int .u8 b]]⟩] [.osl 0 1 0 1,.int .u64 v,.int .i64 size] (.osl 1 1 0 (1+size)) [none,some ⟨1,1+size,true,.fn fun i _=>.int .u8 (bif Nat.blt i 1 then b else numB v size (i - 1))⟩]:=by
 exact gz ow0 Tryz.func371 (by
  apply n_loopx ({ x:Nat // x≤size }) [1,0,7] [33,0] (fun x=>[Zu v,.osl 1 1 0 (1+x.1),Zi ((size:Int) - 1 - (↑(x.1):Int))]) (fun x=>[none,some ⟨1,1+x.1,true,.fn fun i x=>Zb (bif Nat.blt i 1 then b else numB v size (i - 1))⟩]) (fun x=>size - x.1) (⟨0,Nat.zero_le size⟩) [Zu v,.osl 1 1 0 1,Zi (wrap .i64 ((size:Int) - 1))] [none,some ⟨1,1,true,.lst [[Zb b]]⟩] (⟨by exact Ent.refl _,by exact Ent.refl _,Ent.of_eq (congrArg _ (by grind [wI])),trivial⟩) (⟨numb_ob1 rfl,trivial⟩)
  intro x0
  try (have q0:=x0.2;dsimp only at q0)
  apply n_bd ((size:Int) - 1 - (x0.1:Int)≥0)
  ·intro g1
   apply n_req ((0:Int)≤wrap .i64 ((8:Int)*((size:Int) - 1 - (x0.1:Int)))) (by grind [wI])
   apply n_req ((1+x0.1+1)*1≤140737488355328)
   exact n_againx [114,74] (⟨x0.1+1,by omega⟩) [Zu v,.osl 1 1 0 (1+x0.1+1),Zi (wrap .i64 ((size:Int) - 1 - (x0.1:Int) - 1))] [none,some ⟨1,1+x0.1+1,true,.fn fun i j=>Zb (bif Nat.blt i (1+x0.1) then bif Nat.blt i 1 then b else numB v size (i - 1) else intOfAV (atL [Zb (wrap .u8 (Int.fdiv v ((2:Int)^min (toNat (wrap .i64 ((8:Int)*((size:Int) - 1 - (x0.1:Int))))) 64)))] j))⟩] (⟨by exact Ent.refl _,by exact Ent.refl _,Ent.of_eq (congrArg _ (by grind [wI])),trivial⟩) (⟨numb_obs (f:=fun _ _=>b) (shr_num (by omega) h8),trivial⟩)
  ·intro g1
   exact n_outG (.osl 1 1 0 (1+x0.1)) [none,some ⟨1,1+x0.1,true,.fn fun i j=>Zb (bif Nat.blt i 1 then b else numB v size (i - 1))⟩] (Ent.of_eq (congrArg (AV.osl 1 1 0) (by omega))) (by repeat' (first|exact trivial|(first|exact ObEnt.refl _|exact ObEnt.junk|exact ObEnt.zero|exact ObEnt.push rfl rfl|exact ObEnt.pushRow rfl|exact ObEnt.len (by omega)|exact ObEnt.row (by simp_all [rfl] <;> omega))|refine And.intro ?_ ?_)))
theorem write_int (l:List Int) (n:Int) (hl:l.length≤16384):Gives Tryz.prog gl0 348 [⟨1,l.length,true,.fn (ilF .u8 l)⟩] [.osl 0 1 0 l.length,.agg [.int .i64 1,.int .i64 n,bys 0 (fun _=>0),.isl 4 0 (fun _ _=>.junk)]]
  (.osl 1 1 0 (l++(It.int n).enc).length) [none,ilO .u8 (l++(It.int n).enc)]:=by
 have hw:=wu64_by n
 exact gz ow3 Tryz.func348 (by
  apply n_bd ((↑(List.length l):Int)>16384)
  ·intro _
   refine n_old (.out (.osl 0 1 0 (List.length l)) [some ⟨1,List.length l,true,.fn fun i j=>Zb (List.getD l i (0:Int))⟩] (.osl 1 1 0 (List.length (l++It.enc (It.int n)))) [none,ilO IntKind.u8 (l++It.enc (It.int n))]) ?_
   grind
  ·intro g0
   apply n_req ((List.length l+1)*1≤140737488355328)
   apply n_tt
   apply n_gc (number_g (List.length l+1) (fun (i j:Nat)=>bif Nat.blt i (List.length l) then List.getD l i (0:Int) else intOfAV (atL [Zb (wrap .u8 (1:Int))] j)) (wrap .u64 n) (by omega) (by omega) (8) (by omega) (by omega) (by omega))
   exact n_outG (.osl 1 1 0 (List.length l+1+8)) ([none,some ⟨1,List.length l+1+8,true,.fn fun i j=>Zb (bif Nat.blt i (List.length l+1) then bif Nat.blt i (List.length l) then List.getD l i (0:Int) else intOfAV (atL [Zb (wrap .u8 (1:Int))] j) else numB (wrap .u64 n) 8 (i - (List.length l+1)))⟩]) (Ent.of_eq (congrArg (AV.osl 1 1 0) (wr_int l n))) (⟨obl_eq (wr_int l n) (fun i hi=>wr1 hi),trivial⟩))
theorem write_byt (l:List Int) (n:Nat) (f:Nat→Int) (hl:l.length≤16384) (hn:n≤16384):Gives Tryz.prog gl0 348 [⟨1,l.length,true,.fn (ilF .u8 l)⟩] [.osl 0 1 0 l.length,.agg [.int .i64 2,.int .i64 0,bys n f,.isl 4 0 (fun _ _=>.junk)]]
  (.osl 1 1 0 (l++(It.byt n f).enc).length) [none,ilO .u8 (l++(It.byt n f).enc)]:=by
 have hw:=wu64_by n
 have e:IntKind.wrap .u64 (n:Int)=n:=wu64 (by omega) (by omega)
 exact gz ow3 Tryz.func348 (by
  apply n_bd ((↑(List.length l):Int)>16384)
  ·intro _
   refine n_old (.out (.osl 0 1 0 (List.length l)) [some ⟨1,List.length l,true,.fn fun i j=>Zb (List.getD l i (0:Int))⟩] (.osl 1 1 0 (List.length (l++It.enc (It.byt n f)))) [none,ilO IntKind.u8 (l++It.enc (It.byt n f))]) ?_
   grind
  ·intro g0
   apply n_req ((List.length l+1)*1≤140737488355328)
   apply n_ff
   apply n_tt
   apply n_gc (number_g (List.length l+1) (fun (i j:Nat)=>bif Nat.blt i (List.length l) then List.getD l i (0:Int) else intOfAV (atL [Zb (wrap .u8 (2:Int))] j)) (wrap .u64 (↑n:Int)) (by omega) (by omega) (4) (by omega) (by omega) (by omega))
   apply n_req ((List.length l+1+4+n)*1≤140737488355328)
   exact n_outG (.osl 1 1 0 (List.length l+1+4+n)) [none,some ⟨1,List.length l+1+4+n,true,.fn fun i j=>Zb (bif Nat.blt i (List.length l+1+4) then bif Nat.blt i (List.length l+1) then bif Nat.blt i (List.length l) then List.getD l i (0:Int) else intOfAV (atL [Zb (wrap .u8 (2:Int))] j) else numB (wrap .u64 (n:Int)) 4 (i - (List.length l+1)) else f (i - (List.length l+1+4)))⟩] (Ent.of_eq (congrArg (AV.osl 1 1 0) (wr_byt l n f))) (⟨obl_eq (wr_byt l n f) (fun i hi=>by
                                                                                                      rw [e]
                                                                                                      exact wr2 hi),trivial⟩))
theorem write_lw (l:List Int) (n:Nat) (c:Nat→It) (E A:Nat→List Int) (hl:l.length≤16384) (hn:n≤16384) (hA0:A 0=l++(3::nbL n 4)) (hE:∀ k,A (k+1)=A k++E k) (hA:∀ k,k≤n→(A k).length≤16384)
  (hc:∀ i,i<n→∀ l:List Int,l.length≤16384→(l++E i).length≤16384→Gives Tryz.prog gl0 348 [⟨1,l.length,true,.fn (ilF .u8 l)⟩] [.osl 0 1 0 l.length,(c i).av] (.osl 1 1 0 (l++E i).length) [none,ilO .u8 (l++E i)]) :
  Gives Tryz.prog gl0 348 [⟨1,l.length,true,.fn (ilF .u8 l)⟩] [.osl 0 1 0 l.length,.agg [.int .i64 3,.int .i64 0,bys 0 (fun _=>0),It.sl n c]] (.osl 1 1 0 (A n).length) [none,ilO .u8 (A n)]:=by
 have hw:=wu64_by n
 have e:IntKind.wrap .u64 (n:Int)=n:=wu64 (by omega) (by omega)
 have l0:l.length+1+4=(A 0).length:=by grind [nbL_len]
 have ls:∀ k,(A (k+1)).length=(A k).length+(E k).length:=fun k=>by grind
 exact gz ow3 Tryz.func348 (by
  apply n_bd ((↑(List.length l):Int)>16384)
  ·intro _
   refine n_old (.out (.osl 0 1 0 (List.length l)) [some ⟨1,List.length l,true,.fn fun i j=>Zb (List.getD l i (0:Int))⟩] (.osl 1 1 0 (List.length (A n))) [none,ilO IntKind.u8 (A n)]) ?_
   grind
  ·intro g0
   apply n_req ((List.length l+1)*1≤140737488355328)
   apply n_ff
   apply n_ff
   apply n_gc (number_g (List.length l+1) (fun (i j:Nat)=>bif Nat.blt i (List.length l) then List.getD l i (0:Int) else intOfAV (atL [Zb (wrap .u8 (3:Int))] j)) (wrap .u64 (↑n:Int)) (by omega) (by omega) (4) (by omega) (by omega) (by omega))
   apply n_loopx ({ x:Nat // x≤n }) [44,45,0,46] [233,185] (fun x=>[.isl 4 n fun i j=>atL (It.cells (c i)) j,Zi n,.osl 1 1 0 (List.length (A (x.1))),Zi x.1]) (fun x=>[none,ilO IntKind.u8 (A (x.1))]) (fun x=>n - x.1) (⟨0,Nat.zero_le n⟩) [.isl 4 n fun i j=>atL (It.cells (c i)) j,Zi n,.osl 1 1 0 (List.length l+1+4),Zi 0] ([none,some ⟨1,List.length l+1+4,true,.fn fun i j=>Zb (bif Nat.blt i (List.length l+1) then bif Nat.blt i (List.length l) then List.getD l i (0:Int) else intOfAV (atL [Zb (wrap .u8 (3:Int))] j) else numB (wrap .u64 (n:Int)) 4 (i - (List.length l+1)))⟩]) (by repeat' (first|exact trivial|(first|exact Ent.refl _|exact inc_ent (by omega)|exact Ent.nil rfl|exact Ent.of_eq (congrArg (AV.osl _ _ _) (by omega))|exact Ent.of_eq (congrArg (AV.int _) (by omega)))|refine And.intro ?_ ?_)) (⟨obl_eq l0 (fun i hi=>by
                                                                                                      rw [e,hA0]
                                                                                                      exact wr1 (size:=4) hi),trivial⟩)
   intro x6
   apply n_bd ((x6.1:Int)<(n:Int))
   ·intro g7
    apply n_req (0≤(x6.1:Int)∧(x6.1:Int)<(n:Int))
    apply n_gc (hc (toNat (↑x6.1:Int)) (by omega) (A (x6.1)) (by grind) (by (have q:=hA (x6.1+1) (by omega);simp_all)))
    refine n_old (.again (Again 1 (fun (x:{ x:Nat // x≤n })=>mkSt [44,45,0,46] [.isl 4 n fun i j=>atL (It.cells (c i)) j,Zi n,.osl 1 1 0 (List.length (A (x.1))),Zi x.1] [none,ilO IntKind.u8 (A (x.1))]) (fun (x:{ x:Nat // x≤n })=>n - x.1) x6) [44,45,0,46] [90,58] [.isl 4 n fun i j=>atL (It.cells (c i)) j,Zi n,.osl 1 1 0 (List.length (A (x6.1)++E (toNat (x6.1:Int)))),Zi (wrap .i64 ((x6.1:Int)+1))] [none,some ⟨1,List.length (A (x6.1)++E (toNat (x6.1:Int))),true,.fn fun i j=>Zb (List.getD (A (x6.1)++E (toNat (x6.1:Int))) i (0:Int))⟩]) ?_
    exact k_again (⟨x6.1+1,by omega⟩) (fun _ hs=>hs.le (⟨by exact Ent.refl _,by exact Ent.refl _,Ent.of_eq (congrArg (fun z=>AV.osl 1 1 0 (List.length z)) (hE x6.1).symm),by grind [inc_ent],trivial⟩) (⟨obl_cg (hE x6.1),trivial⟩)) (by grind)
   ·intro g7
    exact n_outG (.osl 1 1 0 (List.length (A (x6.1)))) [none,some ⟨1,List.length (A (x6.1)),true,.fn fun i j=>Zb (List.getD (A (x6.1)) i (0:Int))⟩] (Ent.of_eq (congrArg (fun z=>AV.osl 1 1 0 (A z).length) (by omega))) (⟨obl_cg (congrArg A (by omega)),trivial⟩))
theorem write_int0 (n:Int):Gives Tryz.prog gl0 348 [] [.nsl,.agg [.int .i64 1,.int .i64 n,bys 0 (fun _=>0),.isl 4 0 (fun _ _=>.junk)]] (.osl 0 1 0 (It.int n).enc.length) [ilO .u8 (It.int n).enc]:=by
 have hw:=wu64_by n
 exact gz ow3 Tryz.func348 (by
  apply n_ff
  apply n_req (1≤140737488355328)
  apply n_tt
  apply n_gc (number_h (wrap .u8 (1:Int)) (wrap .u64 n) (by omega) (by omega) (8) (by omega) (by omega))
  exact n_outG (.osl 0 1 0 9) [some ⟨1,9,true,.fn fun i j=>Zb (bif Nat.blt i 1 then wrap .u8 (1:Int) else numB (wrap .u64 n) 8 (i - 1))⟩] (Ent.of_eq (congrArg (AV.osl 0 1 0) (int_len n).symm)) (⟨obl_eq (int_len n).symm (fun i hi=>enc1 (size:=8) hi),trivial⟩))
theorem write_byt0 (n:Nat) (f:Nat→Int) (hn:n≤16384):Gives Tryz.prog gl0 348 [] [.nsl,.agg [.int .i64 2,.int .i64 0,bys n f,.isl 4 0 (fun _ _=>.junk)]] (.osl 0 1 0 (It.byt n f).enc.length) [ilO .u8 (It.byt n f).enc]:=by
 have hw:=wu64_by n
 have e:IntKind.wrap .u64 (n:Int)=n:=wu64 (by omega) (by omega)
 exact gz ow3 Tryz.func348 (by
  apply n_ff
  apply n_req (1≤140737488355328)
  apply n_ff
  apply n_tt
  apply n_gc (number_h (wrap .u8 (2:Int)) (wrap .u64 (↑n:Int)) (by omega) (by omega) (4) (by omega) (by omega))
  apply n_req ((5+n)*1≤140737488355328)
  exact n_outG (.osl 0 1 0 (5+n)) [some ⟨1,5+n,true,.fn fun i j=>Zb (bif Nat.blt i 5 then bif Nat.blt i 1 then wrap .u8 (2:Int) else numB (wrap .u64 (n:Int)) 4 (i - 1) else f (i - 5))⟩] (Ent.of_eq (congrArg (AV.osl 0 1 0) (byt_len n f).symm)) (⟨obl_eq (byt_len n f).symm (fun i hi=>by
                                                                                                      rw [e]
                                                                                                      exact enc2 hi),trivial⟩))
theorem write_lw0 (n:Nat) (c:Nat→It) (E A:Nat→List Int) (hn:n≤16384) (hA0:A 0=3::nbL n 4) (hE:∀ k,A (k+1)=A k++E k) (hA:∀ k,k≤n→(A k).length≤16384)
  (hc:∀ i,i<n→∀ l:List Int,l.length≤16384→(l++E i).length≤16384→Gives Tryz.prog gl0 348 [⟨1,l.length,true,.fn (ilF .u8 l)⟩] [.osl 0 1 0 l.length,(c i).av] (.osl 1 1 0 (l++E i).length) [none,ilO .u8 (l++E i)]) :
  Gives Tryz.prog gl0 348 [] [.nsl,.agg [.int .i64 3,.int .i64 0,bys 0 (fun _=>0),It.sl n c]] (.osl 0 1 0 (A n).length) [ilO .u8 (A n)]:=by
 have hw:=wu64_by n
 have e:IntKind.wrap .u64 (n:Int)=n:=wu64 (by omega) (by omega)
 have l0:1+4=(A 0).length:=by grind [nbL_len]
 have ls:∀ k,(A (k+1)).length=(A k).length+(E k).length:=fun k=>by grind
 exact gz ow3 Tryz.func348 (by
  apply n_ff
  apply n_req (1≤140737488355328)
  apply n_ff
  apply n_ff
  apply n_gc (number_h (wrap .u8 (3:Int)) (wrap .u64 (↑n:Int)) (by omega) (by omega) (4) (by omega) (by omega))
  apply n_loopx ({ x:Nat // x≤n }) [44,45,0,46] [184] (fun x=>[.isl 4 n fun i j=>atL (It.cells (c i)) j,Zi n,.osl 0 1 0 (List.length (A (x.1))),Zi x.1]) (fun x=>[ilO IntKind.u8 (A (x.1))]) (fun x=>n - x.1) (⟨0,Nat.zero_le n⟩) [.isl 4 n fun i j=>atL (It.cells (c i)) j,Zi n,.osl 0 1 0 5,Zi 0] [some ⟨1,5,true,.fn fun i j=>Zb (bif Nat.blt i 1 then wrap .u8 (3:Int) else numB (wrap .u64 (n:Int)) 4 (i - 1))⟩] (by repeat' (first|exact trivial|(first|exact Ent.refl _|exact inc_ent (by omega)|exact Ent.nil rfl|exact Ent.of_eq (congrArg (AV.osl _ _ _) (by omega))|exact Ent.of_eq (congrArg (AV.int _) (by omega)))|refine And.intro ?_ ?_)) (⟨obl_eq l0 (fun i hi=>by
                                                                                                      rw [e,hA0]
                                                                                                      exact enc1 (size:=4) hi),trivial⟩)
  intro x5
  apply n_bd ((x5.1:Int)<(n:Int))
  ·intro g6
   apply n_req (0≤(x5.1:Int)∧(x5.1:Int)<(n:Int))
   apply n_gc (hc (toNat (↑x5.1:Int)) (by omega) (A (x5.1)) (by grind) (by (have q:=hA (x5.1+1) (by omega);simp_all)))
   refine n_old (.again (Again 0 (fun (x:{ x:Nat // x≤n })=>mkSt [44,45,0,46] [.isl 4 n fun i j=>atL (It.cells (c i)) j,Zi n,.osl 0 1 0 (List.length (A (x.1))),Zi x.1] [ilO IntKind.u8 (A (x.1))]) (fun (x:{ x:Nat // x≤n })=>n - x.1) x5) [44,45,0,46] [57] [.isl 4 n fun i j=>atL (It.cells (c i)) j,Zi n,.osl 0 1 0 (List.length (A (x5.1)++E (toNat (x5.1:Int)))),Zi (wrap .i64 ((x5.1:Int)+1))] [some ⟨1,List.length (A (x5.1)++E (toNat (x5.1:Int))),true,.fn fun i j=>Zb (List.getD (A (x5.1)++E (toNat (x5.1:Int))) i (0:Int))⟩]) ?_
   exact k_again (⟨x5.1+1,by omega⟩) (fun _ hs=>hs.le (⟨by exact Ent.refl _,by exact Ent.refl _,Ent.of_eq (congrArg (fun z=>AV.osl 0 1 0 (List.length z)) (hE x5.1).symm),by grind [inc_ent],trivial⟩) (⟨obl_cg (hE x5.1),trivial⟩)) (by grind)
  ·intro g6
   exact n_outG (.osl 0 1 0 (List.length (A (x5.1)))) [some ⟨1,List.length (A (x5.1)),true,.fn fun i j=>Zb (List.getD (A (x5.1)) i (0:Int))⟩] (Ent.of_eq (congrArg (fun z=>AV.osl 0 1 0 (A z).length) (by omega))) (⟨obl_cg (congrArg A (by omega)),trivial⟩))
theorem write_c:∀ (x:It) (l:List Int),l.length≤16384→(l++x.enc).length≤16384→Gives Tryz.prog gl0 348 [⟨1,l.length,true,.fn (ilF .u8 l)⟩] [.osl 0 1 0 l.length,x.av] (.osl 1 1 0 (l++x.enc).length) [none,ilO .u8 (l++x.enc)]
 | .int n,l,h,_=>write_int l n h
 | .byt n f,l,h,h'=>write_byt l n f h (by grind [wr_byt])
 | .li n c,l,h,h'=>by
  have hA:∀ k,k≤n→(l++It.encP n c k).length≤16384:=fun k hk=>by
   have:=It.encP_le n c hk
   grind [It.enc_li,List.length_append]
  exact write_lw l n c (fun i=>(c i).enc) (fun k=>l++It.encP n c k) h (by have:=It.encP_len n c n;grind) (by rfl) (fun k=>by rw [It.encP_succ,List.append_assoc]) hA
   (fun i hi l h h'=>write_c (c i) l h h')
theorem write_n:∀ x:It,x.enc.length≤16384→Gives Tryz.prog gl0 348 [] [.nsl,x.av] (.osl 0 1 0 x.enc.length) [ilO .u8 x.enc]
 | .int n,_=>write_int0 n
 | .byt n f,h=>write_byt0 n f (by grind [byt_len])
 | .li n c,h=>write_lw0 n c (fun i=>(c i).enc) (It.encP n c) (by grind [It.encP_len,It.enc_li]) (It.encP_zero n c) (It.encP_succ n c) (fun k hk=>Nat.le_trans (It.encP_le n c hk) h)
   (fun i _ l h h'=>write_c (c i) l h h')
theorem within1_w (x:It) (d:Int) (b:Bool) (hd:0<d∧d≤8) (h:Pure Tryz.prog gl0 370 [x.av,.int .i64 (d - 1)] (.bool b)):Pure Tryz.prog gl0 387 [x.av,.ipt 1 (atL [.int .i64 d])] (.bool (!b)):=by
 have hw:IntKind.wrap .i64 (d - 1)=d - 1:=wI (by omega) (by omega)
 rw [← hw] at h
 exact pz Tryz.func387 (by
  apply n_sc (h)
  refine n_old (.out (.bool !b) [] (.bool !b) []) ?_
  simp [k_out,Ent.refl])
theorem indexI_w (n:Nat) (c:Nat→It) (d:Int) (p:Nat→Bool) (hn:n≤1000) (hc:∀ i,i<n→Pure Tryz.prog gl0 387 [(c i).av,.ipt 1 (atL [.int .i64 d])] (.bool (p i))) :
  Pure Tryz.prog gl0 395 [It.sl n c,.fn (.func 387) [] [.ipt 1 (atL [.int .i64 d])]] (.int .i64 (firstI p n 0)):=by
 exact pz Tryz.func395 (by
  apply n_loop ({ x:Nat // x≤n∧(fun i=>firstI p n 0=firstI p (n - i) i) x }) [0,1,7,8] [] (fun x=>[.isl 4 n fun i j=>atL (It.cells (c i)) j,AV.fn (Fn.func (387:FuncId)) [] [AV.ipt 1 (atL [Zi d])],Zi n,Zi x.1]) (fun _=>[]) (fun x=>n - x.1) (⟨0,⟨Nat.zero_le n,rfl⟩⟩)
  intro x0
  try (have q0:=x0.2;dsimp only at q0)
  apply n_bd ((x0.1:Int)<(n:Int))
  ·intro g1
   apply n_req (0≤(x0.1:Int)∧(x0.1:Int)<(n:Int))
   apply n_sc (hc (toNat (↑x0.1:Int)) (by omega))
   apply n_br (p (toNat (x0.1:Int)))
   ·intro g4
    try simp only [Int.toNat_natCast] at g4
    exact n_out (Ent.of_eq (congrArg _ (first_hit x0.2.2 (by omega) g4)))
   ·intro g4
    try simp only [Int.toNat_natCast] at g4
    exact n_again [] (⟨x0.1+1,by omega,first_next x0.2.2 (by omega) g4⟩) (ek3 (en (inc_ent (by omega))))
  ·intro g1
   exact n_out (Ent.of_eq (congrArg _ (first_miss x0.2.2 (by omega)))))
theorem containsI_w (n:Nat) (c:Nat→It) (d:Int) (p:Nat→Bool) (hn:n≤1000) (hc:∀ i,i<n→Pure Tryz.prog gl0 387 [(c i).av,.ipt 1 (atL [.int .i64 d])] (.bool (p i))) :
  Pure Tryz.prog gl0 386 [It.sl n c,.fn (.func 387) [] [.ipt 1 (atL [.int .i64 d])]] (.bool (decide (firstI p n 0≥0))):=by
 exact pz Tryz.func386 (by
  apply n_sc ((indexI_w n c d p hn hc))
  refine n_old (.out (.bool (decide (firstI p n 0≥0))) [] (.bool (decide (firstI p n 0≥0))) []) ?_
  simp [k_out,Ent.refl])
theorem within_int (n d:Int):Pure Tryz.prog gl0 370 [.agg [.int .i64 1,.int .i64 n,bys 0 (fun _=>0),.isl 4 0 (fun _ _=>.junk)],.int .i64 d] (.bool true):=by
 exact pz Tryz.func370 (by
  refine n_old (.tt (.out (.bool true) [] (.bool true) [])) ?_
  simp [k_tt,k_out,Ent.refl])
theorem within_byt (n:Nat) (f:Nat→Int) (d:Int):Pure Tryz.prog gl0 370 [.agg [.int .i64 2,.int .i64 0,bys n f,.isl 4 0 (fun _ _=>.junk)],.int .i64 d] (.bool true):=by
 exact pz Tryz.func370 (by
  refine n_old (.ff (.tt (.out (.bool true) [] (.bool true) []))) ?_
  grind [k_ff,k_tt,k_out,Ent.refl])
theorem within_lw (n:Nat) (c:Nat→It) (d:Int) (p:Nat→Bool) (_:n<9223372036854775808) (hc:0<d→n≤1000→Pure Tryz.prog gl0 386 [It.sl n c,.fn (.func 387) [] [.ipt 1 (atL [.int .i64 d])]] (.bool (decide (firstI p n 0≥0)))) :
  Pure Tryz.prog gl0 370 [.agg [.int .i64 3,.int .i64 0,bys 0 (fun _=>0),It.sl n c],.int .i64 d] (.bool (decide (0<d)&&Nat.ble n 1000&&(List.range n).all (fun i => !p i))):=by
 exact pz Tryz.func370 (by
  apply n_ff
  apply n_ff
  apply n_tt
  apply n_scg ((decide (d>0)&&decide ((n:Int)≤1000))==true) (fun h3=>hc (by grind) (by grind))
  refine n_old (.out (.bool (decide (d>0)&&decide ((n:Int)≤1000) && !decide (firstI p n 0≥0))) [] (.bool (decide ((0:Int)<d)&&Nat.ble n 1000&&List.all (List.range n) fun i => !p i)) []) ?_
  simp [k_out,Ent.of_eq,li_ok])
theorem within_c:∀ (x:It) (d:Int),0≤d∧d≤8→x.enc.length≤1099511627776→Pure Tryz.prog gl0 370 [x.av,.int .i64 d] (.bool (x.okD d))
 | .int n,d,_,_=>within_int n d
 | .byt n f,d,_,_=>within_byt n f d
 | .li n c,d,hd,hn=>by
  have h:=within_lw n c d (fun i => !(c i).okD (d - 1)) (by grind [It.encP_len,It.enc_li]) (fun h1 h2=>containsI_w n c d _ h2 (fun i hi=>within1_w (c i) d _ ⟨h1,hd.2⟩ (within_c (c i) (d - 1) (by omega) (by grind [It.enc_child]))))
  simp only [Bool.not_not] at h
  exact h
theorem valid_c (x:It) (h:x.enc.length≤1099511627776):Pure Tryz.prog gl0 347 [.agg [.int .i64 x.kind,.int .i64 x.num,bys x.nb x.fb,.isl 4 x.nl x.row]] (.bool (x.okD 8)):=by
 have hw:=within_c x 8 (by omega) h
 exact pz Tryz.func347 (by
  apply n_sc (hw)
  refine n_old (.out (.bool (It.okD x (8:Int))) [] (.bool (It.okD x (8:Int))) []) ?_
  simp [k_out,Ent.refl])
theorem encode_c (x:It) (h:x.okD 8=true) (hl:x.enc.length≤16384):Pure Tryz.prog gl0 302 [x.av] (.tup [il .u8 x.enc,.int .i64 0]):=by
 have hv:=valid_c x (by omega)
 rw [h] at hv
 have hn:=write_n x hl
 exact pzo ow3 Tryz.func302 (by
  apply n_sc (hv)
  apply n_ff
  apply n_gc (hn)
  apply n_bd ((↑(List.length (It.enc x)):Int)>16384)
  ·intro _
   refine n_old (.out (.tup [.nsl,Zi 5]) [] (.tup [il IntKind.u8 (It.enc x),Zi 0]) []) ?_
   grind
  ·intro g3
   exact n_or)
theorem ints_c (l:List Int) (hl:l.length≤1000000):Pure Tryz.prog gl0 306 [il .i64 l] (intsI l).av:=by
 exact pz Tryz.func306 (by
  apply n_loopx ({ x:Nat // x≤List.length l }) [2,3,7,8,9] [0,16,1082] (fun x=>[.own 0 4 0 0 4,.own 1 4 0 0 4,.isl 1 (List.length l) fun i x=>Zi (List.getD l i (0:Int)),Zi (↑(List.length l):Int),Zi x.1]) (fun x=>[some ⟨4,1,true,.lst [[Zi 0,Zi 0,.nsl,.nsl]]⟩,some ⟨4,1,true,.lst [[Zi 3,Zi 0,.nsl,.osl 2 4 0 (x.1)]]⟩,some ⟨4,x.1,true,Rep.row fun i=>It.cells (It.int (List.getD l i (0:Int)))⟩]) (fun x=>List.length l - x.1) (⟨0,Nat.zero_le (List.length l)⟩) [.own 0 4 0 0 4,.own 1 4 0 0 4,.isl 1 (List.length l) fun i x=>Zi (List.getD l i (0:Int)),Zi (↑(List.length l):Int),Zi 0] [some ⟨4,1,true,.lst [[Zi 0,Zi 0,.nsl,.nsl]]⟩,some ⟨4,1,true,.lst [[Zi 3,Zi 0,.nsl,.nsl]]⟩,some ⟨4,0,true,.ty (999999999:TypeId) (.lst [])⟩] (⟨.refl _,.refl _,.refl _,.refl _,.refl _,trivial⟩) (by repeat' (first|exact trivial|(first|exact ObEnt.refl _|exact ObEnt.junk|exact ObEnt.zero|exact ObEnt.push rfl rfl|exact ObEnt.pushRow rfl|exact ObEnt.len (by omega)|exact ObEnt.row (by repeat' (first|exact trivial|(first|exact Ent.refl _|exact inc_ent (by omega)|exact Ent.nil rfl|exact Ent.of_eq (congrArg (AV.osl _ _ _) (by first|omega|(dsimp only;omega)))|exact Ent.of_eq (congrArg (AV.int _) (by first|omega|(dsimp only;omega))))|refine And.intro ?_ ?_)))|refine And.intro ?_ ?_))
  intro x0
  try (have q0:=x0.2;dsimp only at q0)
  apply n_bd ((x0.1:Int)<(↑(List.length l):Int))
  ·intro g1
   apply n_req (0≤(x0.1:Int)∧(x0.1:Int)<(↑(List.length l):Int))
   apply n_req ((x0.1+1)*64≤140737488355328)
   exact n_againx [0,1,75] (⟨x0.1+1,by omega⟩) [.own 0 4 0 0 4,.own 1 4 0 0 4,.isl 1 (List.length l) fun i x=>Zi (List.getD l i (0:Int)),Zi (↑(List.length l):Int),Zi (wrap .i64 ((x0.1:Int)+1))] [some ⟨4,1,true,.lst [[Zi 0,Zi 0,.nsl,.nsl]]⟩,some ⟨4,1,true,.lst [[Zi 3,Zi 0,.nsl,.osl 2 4 0 (x0.1+1)]]⟩,some ⟨4,x0.1+1,true,Rep.cat x0.1 (Rep.row fun i=>[Zi (It.kind (It.int (List.getD l i (0:Int)))),Zi (It.num (It.int (List.getD l i (0:Int)))),.isl 1 0 fun i_1 x=>Zb (It.fb (It.int (List.getD l i (0:Int))) i_1),.isl 4 0 (It.row (It.int (List.getD l i (0:Int))))]) (.lst [[Zi 1,Zi (List.getD l (toNat (↑(x0.1):Int)) (0:Int)),.nsl,.nsl]])⟩] (⟨.refl _,.refl _,.refl _,.refl _,inc_ent (by omega),trivial⟩) (⟨.refl _,.refl _,int_push rfl rfl,trivial⟩)
  ·intro g1
   exact n_outx (.agg [Zi 3,Zi 0,.nsl,.isl 4 x0.1 fun r k=>atL [Zi (It.kind (It.int (List.getD l (r+0) (0:Int)))),Zi (It.num (It.int (List.getD l (r+0) (0:Int)))),.isl 1 0 fun i x=>Zb (It.fb (It.int (List.getD l (r+0) (0:Int))) i),.isl 4 0 (It.row (It.int (List.getD l (r+0) (0:Int))))] k]) (ints_out (by omega)))
theorem rints_c (l:List Int) (hl:l.length≤1000000):Pure Tryz.prog gl0 216 [il .i64 l] (intsI l).av:=by
 exact pz Tryz.func216 (by
  apply n_loopx ({ x:Nat // x≤List.length l }) [0,2,3,4] [0,16,1066] (fun x=>[.isl 1 (List.length l) fun i x=>Zi (List.getD l i (0:Int)),.own 0 4 0 0 4,.own 1 4 0 0 4,Zi x.1]) (fun x=>[some ⟨4,1,true,.lst [[Zi 0,Zi 0,.nsl,.nsl]]⟩,some ⟨4,1,true,.lst [[Zi 3,Zi 0,.nsl,.osl 2 4 0 (x.1)]]⟩,some ⟨4,x.1,true,Rep.row fun i=>It.cells (It.int (List.getD l i (0:Int)))⟩]) (fun x=>List.length l - x.1) (⟨0,Nat.zero_le (List.length l)⟩) [.isl 1 (List.length l) fun i x=>Zi (List.getD l i (0:Int)),.own 0 4 0 0 4,.own 1 4 0 0 4,Zi 0] [some ⟨4,1,true,.lst [[Zi 0,Zi 0,.nsl,.nsl]]⟩,some ⟨4,1,true,.lst [[Zi 3,Zi 0,.nsl,.nsl]]⟩,some ⟨4,0,true,.ty (999999999:TypeId) (.lst [])⟩] (⟨.refl _,.refl _,.refl _,.refl _,trivial⟩) (by repeat' (first|exact trivial|(first|exact ObEnt.refl _|exact ObEnt.junk|exact ObEnt.zero|exact ObEnt.push rfl rfl|exact ObEnt.pushRow rfl|exact ObEnt.len (by omega)|exact ObEnt.row (by repeat' (first|exact trivial|(first|exact Ent.refl _|exact inc_ent (by omega)|exact Ent.nil rfl|exact Ent.of_eq (congrArg (AV.osl _ _ _) (by first|omega|(dsimp only;omega)))|exact Ent.of_eq (congrArg (AV.int _) (by first|omega|(dsimp only;omega))))|refine And.intro ?_ ?_)))|refine And.intro ?_ ?_))
  intro x0
  try (have q0:=x0.2;dsimp only at q0)
  apply n_bd ((x0.1:Int)<(↑(List.length l):Int))
  ·intro g1
   apply n_req (0≤(x0.1:Int)∧(x0.1:Int)<(↑(List.length l):Int))
   apply n_req ((x0.1+1)*64≤140737488355328)
   exact n_againx [0,1,99] (⟨x0.1+1,by omega⟩) [.isl 1 (List.length l) fun i x=>Zi (List.getD l i (0:Int)),.own 0 4 0 0 4,.own 1 4 0 0 4,Zi (wrap .i64 ((x0.1:Int)+1))] [some ⟨4,1,true,.lst [[Zi 0,Zi 0,.nsl,.nsl]]⟩,some ⟨4,1,true,.lst [[Zi 3,Zi 0,.nsl,.osl 2 4 0 (x0.1+1)]]⟩,some ⟨4,x0.1+1,true,Rep.cat x0.1 (Rep.row fun i=>[Zi (It.kind (It.int (List.getD l i (0:Int)))),Zi (It.num (It.int (List.getD l i (0:Int)))),.isl 1 0 fun i_1 x=>Zb (It.fb (It.int (List.getD l i (0:Int))) i_1),.isl 4 0 (It.row (It.int (List.getD l i (0:Int))))]) (.lst [[Zi 1,Zi (List.getD l (toNat (↑(x0.1):Int)) (0:Int)),.nsl,.nsl]])⟩] (⟨.refl _,.refl _,.refl _,inc_ent (by omega),trivial⟩) (⟨.refl _,.refl _,int_push rfl rfl,trivial⟩)
  ·intro g1
   exact n_outx (.agg [Zi 3,Zi 0,.nsl,.isl 4 x0.1 fun r k=>atL [Zi (It.kind (It.int (List.getD l (r+0) (0:Int)))),Zi (It.num (It.int (List.getD l (r+0) (0:Int)))),.isl 1 0 fun i x=>Zb (It.fb (It.int (List.getD l (r+0) (0:Int))) i),.isl 4 0 (It.row (It.int (List.getD l (r+0) (0:Int))))] k]) (ints_out (by omega)))
theorem ints_2 (a b:Int):Pure Tryz.prog gl0 306 [.isl 1 2 fun r k=>atL (List.getD [[.int .i64 a],[.int .i64 b]] r []) k] (intsI [a,b]).av :=
 (ints_c [a,b] (by simp)).via ⟨il_rows rfl rfl,trivial⟩
theorem rints_2 (a b:Int):Pure Tryz.prog gl0 216 [.isl 1 2 fun r k=>atL (List.getD [[.int .i64 a],[.int .i64 b]] r []) k] (intsI [a,b]).av :=
 (rints_c [a,b] (by simp)).via ⟨il_rows rfl rfl,trivial⟩
theorem rbytes31_c (f:Nat→Int):Pure Tryz.prog gl0 214 [.agg (u8c f)] (It.byt 32 f).av:=by
 exact pz Tryz.func214 (by
  apply n_loopx ({ x:Nat // x≤32 }) [1,2,3,4] [0,8,24,307] (fun x=>[.own 0 32 0 0 32,.own 1 4 0 0 4,.own 2 4 0 0 4,Zi x.1]) (fun x=>[some ⟨32,1,true,.lst [u8c f]⟩,some ⟨4,1,true,.lst [[Zi 0,Zi 0,.nsl,.nsl]]⟩,some ⟨4,1,true,.lst [[Zi 2,Zi 0,.osl 3 1 0 (x.1),.nsl]]⟩,some ⟨1,x.1,true,.fn fun i x=>Zb (f i)⟩]) (fun x=>32 - x.1) (⟨0,Nat.zero_le 32⟩) [.own 0 32 0 0 32,.own 1 4 0 0 4,.own 2 4 0 0 4,Zi 0] [some ⟨32,1,true,.lst [u8c f]⟩,some ⟨4,1,true,.lst [[Zi 0,Zi 0,.nsl,.nsl]]⟩,some ⟨4,1,true,.lst [[Zi 2,Zi 0,.nsl,.nsl]]⟩,some ⟨1,0,true,.ty (999999999:TypeId) (.lst [])⟩] (⟨.refl _,.refl _,.refl _,.refl _,trivial⟩) (by repeat' (first|exact trivial|(first|exact ObEnt.refl _|exact ObEnt.junk|exact ObEnt.zero|exact ObEnt.push rfl rfl|exact ObEnt.pushRow rfl|exact ObEnt.len (by omega)|exact ObEnt.row (by repeat' (first|exact trivial|(first|exact Ent.refl _|exact inc_ent (by omega)|exact Ent.nil rfl|exact Ent.of_eq (congrArg (AV.osl _ _ _) (by first|omega|(dsimp only;omega)))|exact Ent.of_eq (congrArg (AV.int _) (by first|omega|(dsimp only;omega))))|refine And.intro ?_ ?_)))|refine And.intro ?_ ?_))
  intro x0
  try (have q0:=x0.2;dsimp only at q0)
  apply n_bd ((x0.1:Int)<32)
  ·intro g1
   apply n_req (0≤(x0.1:Int)∧(x0.1:Int)<32)
   apply n_req ((x0.1+1)*1≤140737488355328)
   exact n_againx [0,1,2,68] (⟨x0.1+1,by omega⟩) [.own 0 32 0 0 32,.own 1 4 0 0 4,.own 2 4 0 0 4,Zi (wrap .i64 ((x0.1:Int)+1))] [some ⟨32,1,true,.lst [u8c f]⟩,some ⟨4,1,true,.lst [[Zi 0,Zi 0,.nsl,.nsl]]⟩,some ⟨4,1,true,.lst [[Zi 2,Zi 0,.osl 3 1 0 (x0.1+1),.nsl]]⟩,some ⟨1,x0.1+1,true,.fn fun i j=>Zb (bif Nat.blt i x0.1 then f i else intOfAV (atL [Zb (intOfAV (Rep.at (Ob.f (Ob.seen ⟨32,1,true,.lst [u8c f]⟩)) 0 (0+toNat (↑(x0.1):Int))))] j))⟩] (⟨.refl _,.refl _,.refl _,inc_ent (by omega),trivial⟩) (⟨.refl _,.refl _,.refl _,ObEnt.pushF (F:=f) rfl (by show intOfAV (atL (u8c f) (0+x0.1))=f x0.1;rw [Nat.zero_add,u8c_at (by omega)]),trivial⟩)
  ·intro _
   refine n_old (.out (.agg [Zi 2,Zi 0,.isl 1 x0.1 fun r k=>Zb (f (r+0)),.nsl]) [] (It.av (It.byt 32 f)) []) ?_
   grind [cnd_dec_f,k_out,byts_out])
theorem ints_4 (a0 a1 a2 a3:Int):Pure Tryz.prog gl0 306 [.isl 1 4 fun r k=>atL (List.getD [[.int .i64 a0],[.int .i64 a1],[.int .i64 a2],[.int .i64 a3]] r []) k] (intsI [a0,a1,a2,a3]).av:=(ints_c [a0,a1,a2,a3] (by simp)).via ⟨il_rows rfl rfl,trivial⟩
theorem ints_5 (a0 a1 a2 a3 a4:Int):Pure Tryz.prog gl0 306 [.isl 1 5 fun r k=>atL (List.getD [[.int .i64 a0],[.int .i64 a1],[.int .i64 a2],[.int .i64 a3],[.int .i64 a4]] r []) k] (intsI [a0,a1,a2,a3,a4]).av:=(ints_c [a0,a1,a2,a3,a4] (by simp)).via ⟨il_rows rfl rfl,trivial⟩
theorem rints_4 (a0 a1 a2 a3:Int):Pure Tryz.prog gl0 216 [.isl 1 4 fun r k=>atL (List.getD [[.int .i64 a0],[.int .i64 a1],[.int .i64 a2],[.int .i64 a3]] r []) k] (intsI [a0,a1,a2,a3]).av:=(rints_c [a0,a1,a2,a3] (by simp)).via ⟨il_rows rfl rfl,trivial⟩
theorem rints_5 (a0 a1 a2 a3 a4:Int):Pure Tryz.prog gl0 216 [.isl 1 5 fun r k=>atL (List.getD [[.int .i64 a0],[.int .i64 a1],[.int .i64 a2],[.int .i64 a3],[.int .i64 a4]] r []) k] (intsI [a0,a1,a2,a3,a4]).av:=(rints_c [a0,a1,a2,a3,a4] (by simp)).via ⟨il_rows rfl rfl,trivial⟩
theorem cloneU_n:Pure Tryz.prog gl0 349 [.nsl] .nsl:=by
 exact pz Tryz.func349 (by
  apply n_tt
  exact n_or)
theorem cloneU_s (f:Nat→Int) (n:Nat) (hn:n≤1099511627776):Pure Tryz.prog gl0 349 [.nn (bys n f)] (bys n f):=by
 exact pz Tryz.func349 (by
  apply n_ff
  apply n_req ((0+n)*1≤140737488355328)
  exact n_outx (.isl 1 (0+n) fun r k=>Zb (f (r+0))) (bys_eq (by omega) (fun i _=>rfl)))
theorem cloneU_c (f:Nat→Int) (n:Nat) (hn:n≤1099511627776):Pure Tryz.prog gl0 349 [bys n f] (bys n f) :=
 Gives.nilSplit [] [] 1 n _ (fun h=>by subst h;exact cloneU_n.ent Ent.nsl) (cloneU_s f n hn)
theorem bytes_c (f:Nat→Int):Pure Tryz.prog gl0 304 [.agg (u8c f)] (It.byt 32 f).av:=by
 exact pz Tryz.func304 (by
  apply n_dc (cloneU_c (fun (i:Nat)=>intOfAV (atL (u8c f) (0+(0+i)))) (32) (by omega))
  exact n_outx (.agg [Zi 2,Zi 0,.isl 1 32 fun i x=>Zb (intOfAV (atL (u8c f) (0+(0+i)))),.nsl]) (Ent.agg ⟨Ent.refl _,Ent.refl _,bys_eq rfl (fun i hi=>by rw [Nat.zero_add,Nat.zero_add];exact u8c_at hi),Ent.nsl,trivial⟩))
theorem list_c (n:Nat) (f:Nat→Nat→AV):Pure Tryz.prog gl0 303 [.isl 4 n f] (.agg [.int .i64 3,.int .i64 0,.nsl,.isl 4 n f]):=by
 exact pz Tryz.func303 (by
  exact n_or)
def ow4:FuncId→Option (List Bool):=fun f=>bif Nat.beq f 372 then some [true,false] else bif Nat.beq f 373 then some [true,false] else none
theorem wints_5 (a0 a1 a2 a3 a4:Int):Gives Tryz.prog gl0 372 [⟨1,1,true,.lst [[.nsl]]⟩] [.own 0 1 0 0 1,.isl 1 5 fun r k=>atL (List.getD [[.int .i64 a0],[.int .i64 a1],[.int .i64 a2],[.int .i64 a3],[.int .i64 a4]] r []) k] .junk [some ⟨1,1,true,.lst [[.osl 1 4 0 1]]⟩,some ⟨4,1,true,.lst [(intsI [a0,a1,a2,a3,a4]).cells]⟩]:=by
 exact gz ow0 Tryz.func372 (by
  apply n_dc (args:=[.isl 1 5 fun r k=>atL (List.getD [[Zi a0],[Zi a1],[Zi a2],[Zi a3],[Zi a4]] r []) k]) (v:=(It.av (intsI [a0,a1,a2,a3,a4]))) (ints_5 (a0) (a1) (a2) (a3) (a4))
  apply n_req (64≤140737488355328) (by omega)
  apply n_req ((0:Int)≤0∧(0:Int)<1) (by omega)
  exact n_outG (.tup []) [some ⟨1,1,true,.lst [[.osl 1 4 0 1]]⟩,some ⟨4,1,true,.lst [[Zi (It.kind (intsI [a0,a1,a2,a3,a4])),Zi (It.num (intsI [a0,a1,a2,a3,a4])),.isl 1 0 fun i x=>Zb (It.fb (intsI [a0,a1,a2,a3,a4]) i),.isl 4 5 (It.row (intsI [a0,a1,a2,a3,a4]))]]⟩] (Ent.junk _) (⟨.refl _,.refl _,trivial⟩))
theorem wbytes_1 (x:It) (f:Nat→Int):Gives Tryz.prog gl0 373 [⟨1,1,true,.lst [[.osl 1 4 0 1]]⟩,⟨4,1,true,.lst [x.cells]⟩] [.own 0 1 0 0 1,bys 32 f] .junk [some ⟨1,1,true,.lst [[.osl 2 4 0 2]]⟩,none,some ⟨4,2,true,.lst [x.cells,(It.byt 32 f).cells]⟩]:=by
 exact gz ow0 Tryz.func373 (by
  apply n_dc (cloneU_c (f) (32) (by omega))
  apply n_req (128≤140737488355328)
  apply n_req ((0:Int)≤(↑(1):Int)∧(↑(1):Int)<(↑(2):Int))
  exact n_outG (AV.tup []) ([some ⟨1,1,true,Rep.lst [[AV.osl 2 4 0 2]]⟩,none,some ⟨4,2,true,Rep.lst [[Zi (It.kind x),Zi (It.num x),AV.isl 1 (It.nb x) fun (i x_1:Nat)=>Zb (It.fb x i),AV.isl 4 (It.nl x) (It.row x)],[Zi 2,Zi 0,AV.isl 1 32 fun (i x:Nat)=>Zb (f i),AV.nsl]]⟩]) (Ent.junk _) (⟨ObEnt.refl _,row2_ob (EntL.refl _) (byt_row 32 f),trivial⟩))
theorem wints_2 (x y:It) (a0 a1 a2 a3:Int):Gives Tryz.prog gl0 372 [⟨1,1,true,.lst [[.osl 1 4 0 2]]⟩,⟨4,2,true,.lst [x.cells,y.cells]⟩] [.own 0 1 0 0 1,.isl 1 4 fun r k=>atL (List.getD [[.int .i64 a0],[.int .i64 a1],[.int .i64 a2],[.int .i64 a3]] r []) k] .junk [some ⟨1,1,true,.lst [[.osl 2 4 0 3]]⟩,none,some ⟨4,3,true,.lst [x.cells,y.cells,(intsI [a0,a1,a2,a3]).cells]⟩]:=by
 exact gz ow0 Tryz.func372 (by
  apply n_dc (args:=([AV.isl 1 4 fun (r k:Nat)=>atL (List.getD [[Zi a0],[Zi a1],[Zi a2],[Zi a3]] r []) k])) (v:=(It.av (intsI [a0,a1,a2,a3]))) (ints_4 (a0) (a1) (a2) (a3))
  apply n_req (192≤140737488355328) (by omega)
  apply n_req ((0:Int)≤(↑(2):Int)∧(↑(2):Int)<(↑(3):Int)) (by omega)
  exact n_outG (AV.tup []) ([some ⟨1,1,true,Rep.lst [[AV.osl 2 4 0 3]]⟩,none,some ⟨4,3,true,Rep.lst [[Zi (It.kind x),Zi (It.num x),AV.isl 1 (It.nb x) fun (i x_1:Nat)=>Zb (It.fb x i),AV.isl 4 (It.nl x) (It.row x)],[Zi (It.kind y),Zi (It.num y),AV.isl 1 (It.nb y) fun (i x:Nat)=>Zb (It.fb y i),AV.isl 4 (It.nl y) (It.row y)],[Zi (It.kind (intsI [a0,a1,a2,a3])),Zi (It.num (intsI [a0,a1,a2,a3])),AV.isl 1 0 fun (i x:Nat)=>Zb (It.fb (intsI [a0,a1,a2,a3]) i),AV.isl 4 4 (It.row (intsI [a0,a1,a2,a3]))]]⟩]) (Ent.junk _) (⟨.refl _,.refl _,trivial⟩))
theorem citem_w (c:Coin):Pure Tryz.prog gl0 350 [c.av] c.it.av:=by
 exact pzo ow4 Tryz.func350 (by
  apply n_gc (wints_5 (c.1) (c.2) (c.3) (c.4) (c.5))
  apply n_gc (wbytes_1 (intsI [c.1,c.2,c.3,c.4,c.5]) (fun (i:Nat)=>intOfAV (atL (Coin.cells c) (5+(0+i)))))
  apply n_gc (wints_2 (intsI [c.1,c.2,c.3,c.4,c.5]) (It.byt (32:Nat) fun (i:Nat)=>intOfAV (atL (Coin.cells c) (5+(0+i)))) (c.7) (c.8) (c.9) (c.10))
  exact n_outx (.agg [Zi 3,Zi 0,.nsl,.isl 4 3 fun r k=>atL (List.getD [[Zi (It.kind (intsI [c.1,c.2,c.3,c.4,c.5])),Zi (It.num (intsI [c.1,c.2,c.3,c.4,c.5])),.isl 1 0 fun i x=>Zb (It.fb (intsI [c.1,c.2,c.3,c.4,c.5]) i),.isl 4 5 (It.row (intsI [c.1,c.2,c.3,c.4,c.5]))],[Zi (It.kind (It.byt 32 fun i=>intOfAV (atL (Coin.cells c) (5+(0+i))))),Zi (It.num (It.byt 32 fun i=>intOfAV (atL (Coin.cells c) (5+(0+i))))),.isl 1 32 fun i x=>Zb (It.fb (It.byt 32 fun i=>intOfAV (atL (Coin.cells c) (5+(0+i)))) i),.isl 4 0 (It.row (It.byt 32 fun i=>intOfAV (atL (Coin.cells c) (5+(0+i)))))],[Zi (It.kind (intsI [c.7,c.8,c.9,c.10])),Zi (It.num (intsI [c.7,c.8,c.9,c.10])),.isl 1 0 fun i x=>Zb (It.fb (intsI [c.7,c.8,c.9,c.10]) i),.isl 4 4 (It.row (intsI [c.7,c.8,c.9,c.10]))]] (r+0) []) k]) (li3_out (EntL.refl _) ⟨Ent.refl _,Ent.refl _,bys_eq rfl (fun i hi=>by
                                                                                                      show intOfAV (atL c.cells (5+(0+i)))=c.root i
                                                                                                      rw [Nat.zero_add]
                                                                                                      exact c.root_at hi),Ent.refl _,trivial⟩ (EntL.refl _)))
theorem ritem_w (c:Coin):Pure Tryz.prog gl0 274 [c.av] c.it.av:=by
 exact pzo ow4 Tryz.func274 (by
  apply n_dc (rints_5 (c.1) (c.2) (c.3) (c.4) (c.5))
  apply n_dc (rbytes31_c (c.6))
  apply n_dc (rints_4 (c.7) (c.8) (c.9) (c.10))
  exact n_out (li3_out (EntL.refl _) (EntL.refl _) (EntL.refl _)))
theorem node_c (d l i:Int):Pure Tryz.prog gl0 249 [.int .i64 d,.agg [.int .i64 l,.int .i64 i]] (.bool (nodeB d l i)):=by
 exact pz Tryz.func249 (by
  apply n_req (((decide (d≥0)&&decide (d≤5)&&decide (l≥0)&&decide (l≤d)&&decide (i≥0))==true)=true→(0:Int)≤l) (fun hr=>by grind)
  exact n_out (Ent.of_eq (congrArg _ (node_m d l i))))
theorem span_c (d l i:Int):Pure Tryz.prog gl0 247 [.int .i64 d,.agg [.int .i64 l,.int .i64 i]] (.tup [.int .i64 (spanA d l i),.int .i64 (spanZ d l i),.int .i64 (spanE d l i)]):=by
 refine pure_sk (own:=ow0) Tryz.func247 (by rfl) mixed (by rfl)
  (let y0:AV:=(.tup [Zi (spanA d l i),Zi (spanZ d l i),Zi (spanE d l i)]);let y1:Nat:=(toNat (wrap .i64 (d - l)));(.br (decide (d<0)||decide (d>5)) (.out (.tup [Zi 0,Zi 0,Zi 1]) [] y0 []) (.sc true 249 [Zi d,.agg [Zi l,Zi i]] (.bool (nodeB d l i)) (.br (!nodeB d l i) (.out (.tup [Zi 0,Zi 0,Zi 2]) [] y0 []) (.req ((0:Int)≤wrap .i64 (d - l)) (.out (.tup [Zi (wrap .i64 (i*wrap .i64 ((1:Int)*2^min y1 64))),Zi (wrap .i64 (wrap .i64 (i+1)*wrap .i64 ((1:Int)*2^min y1 64))),Zi 0]) [] y0 []))))))
  (by kernel_rfl) ?_
 refine k_br (fun h0=>?_) (fun h0=>?_)
 ·grind [k_out,Ent.of_eq,span_1]
 ·refine k_sc (node_c (d) (l) (i)) ?_
  refine k_br (fun h3=>?_) (fun h3=>?_)
  ·grind [k_out,Ent.of_eq,span_2]
  grind [k_req,span_3,k_out,Ent.of_eq]
theorem rplace_c (d l i:Int):Pure Tryz.prog gl0 213 [.int .i64 d,.int .i64 l,.int .i64 i] (.bool (placeB d l i)):=by
 exact pz Tryz.func213 (by
  apply n_req (((decide (l≥0)&&decide (l≤d)&&decide (i≥0))==true)=true→(0:Int)≤l) (fun hr=>by grind)
  exact n_or)
theorem rnode_c (d l i:Int):Pure Tryz.prog gl0 147 [.int .i64 d,.agg [.int .i64 l,.int .i64 i]] (.bool (nodeB d l i)):=by
 exact pz Tryz.func147 (by
  apply n_scg ((decide (d≥0)&&decide (d≤5))==true) (fun h0=>rplace_c (d) (l) (i))
  refine n_old (.out (.bool (decide (d≥0)&&decide (d≤5)&&placeB d l i)) [] (.bool (nodeB d l i)) []) ?_
  simp [k_out,Ent.of_eq,place_node])
theorem context_c (x:Cxt):Pure Tryz.prog gl0 250 [x.av] (.bool (ctxB x.time x.number)):=by
 exact pz Tryz.func250 (by
  exact n_or)
theorem rctx_c (x:Cxt):Pure Tryz.prog gl0 148 [x.av] (.bool (ctxB x.time x.number)):=by
 exact pz Tryz.func148 (by
  exact n_or)
theorem rspan_c (d l i:Int) (h:nodeB d l i=true):Pure Tryz.prog gl0 149 [.int .i64 d,.agg [.int .i64 l,.int .i64 i]] (.tup [.int .i64 (spanA d l i),.int .i64 (spanZ d l i)]):=by
 exact pz Tryz.func149 (by
  refine n_old (.req ((0:Int)≤wrap .u64 (wrap .i64 (d - l))) (.out (.tup [Zi (wrap .i64 (i*wrap .i64 ((1:Int)*2^min (toNat (wrap .u64 (wrap .i64 (d - l)))) 64))),Zi (wrap .i64 (wrap .i64 (i+1)*wrap .i64 ((1:Int)*2^min (toNat (wrap .u64 (wrap .i64 (d - l)))) 64)))]) [] (.tup [Zi (spanA d l i),Zi (spanZ d l i)]) [])) ?_
  grind [k_req,wU_nonneg,k_out,Ent.of_eq,rspan_m])
theorem cdig_c (c:Coin) (hr:byB c.root 32):Pure Tryz.prog gl0 305 [c.av] (.agg (u8c c.dig)):=by
 have hi:=citem_w c
 have he:=encode_c c.it c.it_ok (by rw [c.it_len];decide)
 have ht:=tagged_c "specie/coin-item".toUTF8 (by decide) (by decide) (fun i=>c.it.enc.getD i 0) c.it.enc.length (by rw [c.it_len];decide) (It.enc_by (Coin.it_okB hr))
 exact pz Tryz.func305 (by
  apply n_dc (hi)
  apply n_dc (he)
  apply n_sc (ht)
  exact n_or)
theorem rcdig_c (c:Coin) (hr:byB c.root 32):Pure Tryz.prog gl0 215 [c.av] (.agg (u8c c.dig)):=by
 have hi:=ritem_w c
 have he:=renc_c c.it (by rw [c.it_len];decide)
 have ht:=rtagged_c "specie/coin-item".toUTF8 (by decide) (fun i=>c.it.enc.getD i 0) c.it.enc.length (by rw [c.it_len];decide) (It.enc_by (Coin.it_okB hr))
 exact pz Tryz.func215 (by
  apply n_dc (hi)
  apply n_dc (he)
  apply n_sc (ht)
  exact n_or)
theorem list4 (a b c d:It):Pure Tryz.prog gl0 303 [.isl 4 4 fun r k=>atL (List.getD [a.cells,b.cells,c.cells,d.cells] r []) k] (lsI [a,b,c,d]).av :=
 (list_c 4 _).ent (li4_out (EntL.refl _) (EntL.refl _) (EntL.refl _) (EntL.refl _))
theorem rlist_c (n:Nat) (f:Nat→Nat→AV):Pure Tryz.prog gl0 220 [.isl 4 n f] (.agg [.int .i64 3,.int .i64 0,.nsl,.isl 4 n f]):=by
 exact pz Tryz.func220 (by
  refine n_old (.out (.agg [Zi 3,Zi 0,.nsl,.isl 4 n f]) [] (.agg [Zi 3,Zi 0,.nsl,.isl 4 n f]) []) ?_
  simp [k_out,Ent.refl])
theorem rlist4 (a b c d:It):Pure Tryz.prog gl0 220 [.isl 4 4 fun r k=>atL (List.getD [a.cells,b.cells,c.cells,d.cells] r []) k] (lsI [a,b,c,d]).av :=
 (rlist_c 4 _).ent (li4_out (EntL.refl _) (EntL.refl _) (EntL.refl _) (EntL.refl _))
theorem chal_c (b:Bas) (c:Coin) (l i:Int) (x:Cxt) (hr:byB c.root 32) (hp:byB x.payee 32) (hq:0<b.gr.q) (hq':b.gr.q<2305843009213693952):Pure Tryz.prog gl0 251 [b.av,c.av,.agg [.int .i64 l,.int .i64 i],x.av] (.int .i64 (chalN b.gr.q c l i x)):=by
 have hd:=cdig_c c hr
 have hb:=bytes_c c.dig
 have hb2:=bytes_c x.payee
 have hi:=ints_2 l i
 have hi2:=ints_2 x.time x.number
 have hl:=list4 (.byt 32 c.dig) (intsI [l,i]) (.byt 32 x.payee) (intsI [x.time,x.number])
 have he:=encode_c (chalI c l i x) (chal_ok c l i x) (by simp [chal_len])
 have ht:=tagged_c "specie/spend".toUTF8 (by decide) (by decide) (fun k=>(chalI c l i x).enc.getD k 0) (chalI c l i x).enc.length (by simp [chal_len]) (It.enc_by (chal_okB hp))
 have hn:=number_c (tagI "specie/spend".toUTF8 (chalI c l i x)) b.gr.q hq hq' (tagI_by _ _ _)
 exact pz Tryz.func251 (by
  apply n_sc (hd)
  apply n_dc (hb)
  apply n_dc (hi)
  apply n_dc (hb2)
  apply n_dc (hi2)
  apply n_dc (hl)
  apply n_dc (he)
  apply n_sc (ht)
  apply n_sc (hn)
  exact n_or)
theorem rchal_c (b:Bas) (c:Coin) (l i:Int) (x:Cxt) (hr:byB c.root 32) (hp:byB x.payee 32) (hq:0<b.gr.q) (hq':b.gr.q<2305843009213693952):Pure Tryz.prog gl0 150 [b.av,c.av,.agg [.int .i64 l,.int .i64 i],x.av] (.int .i64 (chalN b.gr.q c l i x)):=by
 have hd:=rcdig_c c hr
 have hb:=rbytes31_c c.dig
 have hb2:=rbytes31_c x.payee
 have hi:=rints_2 l i
 have hi2:=rints_2 x.time x.number
 have hl:=rlist4 (.byt 32 c.dig) (intsI [l,i]) (.byt 32 x.payee) (intsI [x.time,x.number])
 have he:=renc_c (chalI c l i x) (by simp [chal_len])
 have ht:=rtagged_c "specie/spend".toUTF8 (by decide) (fun k=>(chalI c l i x).enc.getD k 0) (chalI c l i x).enc.length (by simp [chal_len]) (It.enc_by (chal_okB hp))
 have hn:=rnumber_c (tagI "specie/spend".toUTF8 (chalI c l i x)) b.gr.q hq hq' (tagI_by _ _ _)
 exact pz Tryz.func150 (by
  apply n_sc (hd)
  apply n_dc (hb)
  apply n_dc (hi)
  apply n_dc (hb2)
  apply n_dc (hi2)
  apply n_dc (hl)
  apply n_dc (he)
  apply n_sc (ht)
  apply n_sc (hn)
  exact n_or)
end Go.Proofs.YtcageinnelhonaaGreatDoor

namespace Go.Sp
open Go.IntKind (wrap)
open Int (toNat)
open Go Go.Am
def entC (x:Nat→Int):List AV:=[.int .i64 (x 0),.int .i64 (x 1),.int .i64 (x 2),.int .i64 (x 3)]
def entB (n:Nat) (x:Nat→Int):Bool:=x 0 != x 1&&decide (x 0≥0)&&decide (x 0<n)&&decide (x 1≥0)&&decide (x 1<n)&&decide (x 2≥1)&&decide (x 2≤1099511627776)&&decide (x 3≥0)&&decide (x 3≤1073741824)
theorem entB_iff {n:Nat} {x:Nat→Int}:entB n x=true↔x 0≠x 1∧0≤x 0∧x 0<n∧0≤x 1∧x 1<n∧1≤x 2∧x 2≤1099511627776∧0≤x 3∧x 3≤1073741824:=by
 simp [entB,and_assoc]
def pstF (F:Nat→Int) (x:Nat→Int) (i:Nat):Int:=if i=(x 1).toNat then IntKind.wrap .i64 (F i+x 2) else if i=(x 0).toNat then IntKind.wrap .i64 (F i - x 2) else F i
def pstB (F:Nat→Int) (x:Nat→Int):Bool := !(decide (x 0≥5)&&decide (F (x 0).toNat<x 2))
def pstG (F:Nat→Int) (x:Nat→Int) (i:Nat):Int:=if pstB F x=true then pstF F x i else F i
theorem beq_iff' {a b:Nat}:Nat.beq a b=true↔a=b:=⟨Nat.eq_of_beq_eq_true,fun h=>h▸Nat.beq_refl a⟩
theorem bif_pst {n:Nat} {F x:Nat→Int} (h:entB n x=true) (h2:pstB F x=true) {i j:Nat} (hj:j<1) :
  (bif Nat.beq i ((x 1).toNat+0)&&(Nat.ble 0 j&&Nat.blt j 1) then IntKind.wrap .i64 ((bif Nat.beq ((x 1).toNat+0) ((x 0).toNat+0)&&Nat.blt 0 1 then IntKind.wrap .i64 (F ((x 0).toNat+0) - x 2) else F ((x 1).toNat+0))+x 2) else
   bif Nat.beq i ((x 0).toNat+0)&&(Nat.ble 0 j&&Nat.blt j 1) then IntKind.wrap .i64 (F ((x 0).toNat+0) - x 2) else F i)=pstG F x i:=by
 obtain rfl:j=0:=Nat.lt_one_iff.1 hj
 have hb:=entB_iff.1 h
 have e:Nat.beq ((x 1).toNat+0) ((x 0).toNat+0)=false:=by grind [Nat.beq,beq_iff']
 rw [e,pstG,if_pos h2,pstF]
 show (bif Nat.beq i (x 1).toNat&&true then IntKind.wrap .i64 (F (x 1).toNat+x 2) else bif Nat.beq i (x 0).toNat&&true then IntKind.wrap .i64 (F (x 0).toNat - x 2) else F i)=_
 simp only [Bool.and_true]
 by_cases c1:i=(x 1).toNat
 ·simp_all
 simp_all
theorem pstB_f {F x:Nat→Int} (h:x 0≥5∧F ((x 0).toNat+0)<x 2):pstB F x=false:=by grind [pstB,decide_eq_true]
theorem pstB_t {F x:Nat→Int} (h:¬x 0≥5∨¬F ((x 0).toNat+0)<x 2):pstB F x=true:=by simp_all [pstB]
def balF (E:Nat→Nat→Int):Nat→Nat→Int
 | 0=>fun _=>0
 | k+1=>pstF (balF E k) (E k)
def okE (nb:Nat) (E:Nat→Nat→Int) (k:Nat):Bool:=entB nb (E k)&&pstB (balF E k) (E k)
def ledB (nb:Nat) (B:Nat→Int) (ne:Nat) (E:Nat→Nat→Int):Bool:=decide (5≤nb)&&decide (nb≤105)&&decide (ne≤1000)&&(List.range ne).all (okE nb E)&&(List.range nb).all fun i=>balF E ne i==B i
theorem entR {n:Nat} {x:Nat→Int}:(decide (x 0≥0)&&decide (x 0<n)&&decide (x 1≥0)&&decide (x 1<n)&&x 0 != x 1&&decide (x 2≥1)&&decide (x 2≤1099511627776)&&decide (x 3≥0)&&decide (x 3≤1073741824))=entB n x:=by grind [entB]
theorem led_len {nb:Nat} {B:Nat→Int} {ne:Nat} {E:Nat→Nat→Int} (h:((nb:Int)<5∨(nb:Int)>105)∨(ne:Int)>1000):ledB nb B ne E=false:=by simp_all [ledB,Bool.and_eq_true,decide_eq_true_eq]<;>omega
theorem led_bad {nb:Nat} {B:Nat→Int} {ne:Nat} {E:Nat→Nat→Int} {k:Nat} (hk:k<ne) (h:okE nb E k=false):ledB nb B ne E=false:=by cases e:ledB nb B ne E<;>simp_all [ledB,Bool.and_eq_true,List.all_eq_true,List.mem_range]
theorem led_eq {nb:Nat} {B:Nat→Int} {ne:Nat} {E:Nat→Nat→Int} (h1:¬(nb:Int)<5) (h2:¬(nb:Int)>105) (h3:¬(ne:Int)>1000) (h:∀ k,k<ne→okE nb E k=true):ledB nb B ne E=(List.range nb).all fun i=>balF E ne i==B i:=by grind [List.range,okE,List.all_eq_true,ledB,decide_eq_true]
structure LedV (nb : Nat) (B : Nat → Int) (ne : Nat) (E : Nat → Nat → Int) : Prop where
  lo : 5 ≤ nb
  hi : nb ≤ 105
  len : ne ≤ 1000
  ok : ∀ k, k < ne → okE nb E k = true
  bal : ∀ i, i < nb → balF E ne i = B i
theorem led_V {nb:Nat} {B:Nat→Int} {ne:Nat} {E:Nat→Nat→Int} (h:ledB nb B ne E=true):LedV nb B ne E:=by
 simp only [ledB,Bool.and_eq_true,decide_eq_true_eq,List.all_eq_true,List.mem_range,beq_iff_eq] at h
 exact ⟨h.1.1.1.1,h.1.1.1.2,h.1.1.2,h.1.2,h.2⟩
theorem bal_bnd {nb:Nat} {E:Nat→Nat→Int}:∀ k,k≤1000→(∀ j,j<k→entB nb (E j)=true)→∀ i,-(1099511627776*(k:Int))≤balF E k i∧balF E k i≤1099511627776*(k:Int)
 | 0,_,_,i=>by simp [balF]
 | k+1,hk,h,i=>by
  have ih:=bal_bnd k (by omega) (fun j hj=>h j (by omega)) i
  have hE:=entB_iff.1 (h k (by omega))
  unfold balF pstF
  grind [wI]
theorem bal_W {nb:Nat} {E:Nat→Nat→Int} {k:Nat} (hk:k<1000) (h:∀ j,j≤k→entB nb (E j)=true) (i:Nat) :
  IntKind.wrap .i64 (balF E k i - E k 2)=balF E k i - E k 2∧IntKind.wrap .i64 (balF E k i+E k 2)=balF E k i+E k 2:=by
 have hb:=bal_bnd k (by omega) (fun j hj=>h j (by omega)) i
 have hE:=entB_iff.1 (h k (Nat.le_refl _))
 grind [wI]
end Go.Sp

namespace Go.Proofs.YtcageinnelhonaaGreatDoor
open Go.IntKind (wrap)
open Int (toNat)
open Go Go.Am Go.Sp
set_option maxRecDepth 100000
theorem entry_c (n:Nat) (x:Nat→Int):Pure Tryz.prog gl0 115 [.agg (entC x),.int .i64 n] (.bool (entB n x)):=by
 exact pz Tryz.func115 (by
  exact n_or)
theorem rentry_c (n:Nat) (x:Nat→Int):Pure Tryz.prog gl0 73 [.int .i64 n,.agg (entC x)] (.bool (entB n x)):=by
 exact pz Tryz.func73 (by
  exact n_out (Ent.of_eq (congrArg AV.bool entR)))
def owL:FuncId→Option (List Bool):=fun f=>bif Nat.beq f 116 then some [true,false] else none
theorem post_c (n:Nat) (F x:Nat→Int) (h:entB n x=true) (_:n≤1000):Gives Tryz.prog gl0 116 [⟨1,n,true,.fn fun i _=>.int .i64 (F i)⟩] [.osl 0 1 0 n,.agg (entC x)] (.bool (pstB F x)) [some ⟨1,n,true,.fn fun i _=>.int .i64 (pstG F x i)⟩]:=by
 have hb:=entB_iff.1 h
 exact gz owL Tryz.func116 (by
  apply n_req ((decide (x 0≥5)==true)=true→(0:Int)≤x 0∧x 0<(n:Int)) (fun hr=>by have hr:=(cnd_eqt_t cnd_dec_t) hr;omega)
  apply n_br (decide (x 0≥5)&&decide (F (toNat (x 0)+0)<x 2))
  ·intro g1
   exact n_outG (.bool false) [some ⟨1,n,true,.fn fun i j=>Zi (F i)⟩] (Ent.of_eq (congrArg AV.bool (pstB_f g1).symm)) (⟨⟨rfl,rfl,rfl,fun i j _ _=>Ent.of_eq (congrArg (AV.int _) (by unfold pstG;rw [if_neg (by rw [pstB_f g1];simp)]))⟩,trivial⟩)
  ·intro g1
   apply n_req ((0:Int)≤x 0∧x 0<(n:Int))
   apply n_req ((0:Int)≤x 0∧x 0<(n:Int))
   apply n_req ((0:Int)≤x 1∧x 1<(n:Int))
   apply n_req ((0:Int)≤x 1∧x 1<(n:Int))
   exact n_outG (.bool true) [some ⟨1,n,true,.fn fun i j=>Zi (bif Nat.beq i (toNat (x 1)+0)&&(Nat.ble 0 j&&Nat.blt j 1) then wrap .i64 ((bif Nat.beq (toNat (x 1)+0) (toNat (x 0)+0)&&Nat.blt 0 1 then wrap .i64 (F (toNat (x 0)+0) - x 2) else F (toNat (x 1)+0))+x 2) else bif Nat.beq i (toNat (x 0)+0)&&(Nat.ble 0 j&&Nat.blt j 1) then wrap .i64 (F (toNat (x 0)+0) - x 2) else F i)⟩] (Ent.of_eq (congrArg AV.bool (pstB_t g1).symm)) (⟨⟨rfl,rfl,rfl,fun i j _ hj=>Ent.of_eq (congrArg (AV.int _) (bif_pst h (pstB_t g1) hj))⟩,trivial⟩))
end Go.Proofs.YtcageinnelhonaaGreatDoor

namespace Go.Sp
open Go.IntKind (wrap)
open Int (toNat)
open Go Go.Am
def chalE (b:Bas) (c:Coin) (l i:Int) (x:Cxt):Int:=bif validB b then (bif nodeB c.depth l i&&ctxB x.time x.number then 0 else 2) else 1
def chalK (b:Bas) (c:Coin) (l i:Int) (x:Cxt):Int:=bif validB b&&(nodeB c.depth l i&&ctxB x.time x.number) then chalN b.gr.q c l i x else 0
theorem validB_ok {b:Bas} (h:validB b=true):b.gr.Ok:=by simp_all [validB,Bool.and_eq_true,validG_iff]
theorem validB_q {b:Bas} (h:validB b=true):0<b.gr.q∧b.gr.q<2305843009213693952:=by
 have h:=validB_ok h
 have:=h.qp;have:=h.q3;have:=h.p1
 omega
theorem chal_1 {b:Bas} {c:Coin} {l i:Int} {x:Cxt} (h:validB b=false):chalE b c l i x=1∧chalK b c l i x=0:=by
 unfold chalE chalK;rw [h];exact ⟨rfl,rfl⟩
theorem chal_2 {b:Bas} {c:Coin} {l i:Int} {x:Cxt} (h:validB b=true) (h':nodeB c.depth l i=false∨ctxB x.time x.number=false):chalE b c l i x=2∧chalK b c l i x=0:=by
 have e:(nodeB c.depth l i&&ctxB x.time x.number)=false:=by grind
 unfold chalE chalK;grind
theorem chal_3 {b:Bas} {c:Coin} {l i:Int} {x:Cxt} (h:validB b=true) (h':nodeB c.depth l i=true∧ctxB x.time x.number=true):chalE b c l i x=0∧chalK b c l i x=chalN b.gr.q c l i x:=by
 have e:(nodeB c.depth l i&&ctxB x.time x.number)=true:=by simp [h']
 unfold chalE chalK;rw [h,e];exact ⟨rfl,rfl⟩
theorem span_d {d l i:Int} (hn:nodeB d l i=true):spanE d l i=0∧0≤l∧l≤d∧0≤d∧d≤5:=by
 have h:=node_t hn
 simp_all [spanE,if_neg]
theorem inv_uniq {a m x y:Int} (hx:0≤x∧x<m) (hy:0≤y∧y<m) (h1:m ∣ a*x - 1) (h2:m ∣ a*y - 1):x=y:=by
 have h:m ∣ x - y:=by
  obtain ⟨k,hk⟩:=h1
  obtain ⟨j,hj⟩:=h2
  refine ⟨x*j*(-1)+y*k,?_⟩
  grind
 have e:=Int.emod_eq_emod_iff_emod_sub_eq_zero.2 (Int.emod_eq_zero_of_dvd h)
 simp_all [Int.emod_eq_of_lt]
open Classical in
noncomputable def invF (a m:Int):Int:=if h:∃ x,(0≤x∧x<m)∧m ∣ a*x - 1 then Classical.choose h else 0
theorem invF_eq {a m x:Int} (hx:0≤x∧x<m) (h:m ∣ a*x - 1):invF a m=x:=by
 have hh:∃ x,(0≤x∧x<m)∧m ∣ a*x - 1:=⟨x,hx,h⟩
 unfold invF
 rw [dif_pos hh]
 grind [inv_uniq,Classical.choose_spec]
theorem invF_none {a m:Int} (h:Int.gcd a m≠1):invF a m=0:=by
 unfold invF
 refine dif_neg ?_
 rintro ⟨x,_,k,hk⟩
 apply h
 have h1:((Int.gcd a m:Nat):Int) ∣ 1:=by
  obtain ⟨p,hp⟩:=Int.gcd_dvd_left (a:=a) (b:=m)
  obtain ⟨q,hq⟩:=Int.gcd_dvd_right (a:=a) (b:=m)
  refine ⟨p*x - q*k,?_⟩
  grind
 have:=Int.le_of_dvd (by decide) h1
 have h0:Int.gcd a m≠0:=fun h0=>by simp_all
 omega
theorem invF_bound {a m:Int} (hm:0<m):0≤invF a m∧invF a m<m:=by
 unfold invF
 split<;>grind
structure EgI (a0 m d a x n : Int) : Prop where
  an : 0 ≤ a
  ad : a < d
  d1 : d ≤ m
  sg : ∃ u v : Int, 0 ≤ u ∧ u ≤ m ∧ 0 ≤ v ∧ v ≤ m ∧ (x = -u ∧ n = v ∨ x = u ∧ n = -v) ∧ v * d + u * a = m
  c1 : m ∣ a0 * x - d
  c2 : m ∣ a0 * n - a
  g : Int.gcd d a = Int.gcd a0 m
theorem EgI.start {a m:Int} (h0:0≤a) (h1:a<m):EgI a m m a 0 1 where
 an:=h0
 ad:=h1
 d1:=Int.le_refl _
 sg:=⟨0,1,by omega,by omega,by omega,by omega,Or.inl ⟨rfl,rfl⟩,by omega⟩
 c1:=⟨-1,by omega⟩
 c2:=⟨0,by omega⟩
 g:=Int.gcd_comm _ _
theorem EgI.nxt {a0 m d a x n:Int} (h:EgI a0 m d a x n) (ha:a≠0):EgI a0 m a (d%a) n (x - d / a*n)∧0≤d / a∧d / a*a≤d ∧ -m≤d / a*n∧d / a*n≤m ∧ -m≤n∧n≤m∧d - d / a*a=d%a:=by
 have p:0<a:=by have:=h.an;omega
 have q0:0≤d / a:=Int.ediv_nonneg (by have:=h.ad;omega) (by omega)
 have e:=Int.mul_ediv_add_emod d a
 have r0:=Int.emod_nonneg d ha
 have r1:=Int.emod_lt_of_pos d p
 have hd:=h.ad
 have hm:=h.d1
 obtain ⟨u,v,u0,u1,v0,v1,hs,hv⟩:=h.sg
 generalize d / a=q at *
 generalize hr:d%a=r at *
 have qv:0≤q*v:=Int.mul_nonneg q0 v0
 have hv':(u+q*v)*a+v*r=m:=by grind
 have vr:0≤v*r:=Int.mul_nonneg v0 r0
 have t0:0≤u+q*v:=by omega
 have t1:u+q*v≤m:=by
  have:(u+q*v)*1≤(u+q*v)*a:=Int.mul_le_mul_of_nonneg_left (by omega) t0
  omega
 refine ⟨⟨r0,r1,by omega,⟨v,u+q*v,v0,v1,t0,t1,?_,hv'⟩,h.c2,?_,?_⟩,q0,by grind,?_,?_,?_,?_,by grind⟩
 ·grind
 ·obtain ⟨k,hk⟩:=h.c1
  obtain ⟨j,hj⟩:=h.c2
  refine ⟨k - q*j,?_⟩
  grind
 ·rw [← h.g,Int.gcd_comm d a,show r=d - a*q by omega]
  simp
 ·rcases hs with ⟨_,rfl⟩|⟨_,rfl⟩
  ·omega
  grind
 ·rcases hs with ⟨_,rfl⟩|⟨_,rfl⟩
  ·omega
  grind
 ·omega
 omega
def eg (d a x n:Int):Int×Int:=if 0<a then eg a (d%a) n (x - d / a*n) else (d,x)
termination_by a.toNat
decreasing_by have:=Int.emod_lt_of_pos d (by omega:0<a);omega
theorem eg_step {d a x n:Int} (h:0<a):eg d a x n=eg a (d%a) n (x - d / a*n):=by
 rw [eg,if_pos h]
theorem eg_end {d a x n:Int} (h:¬0<a):eg d a x n=(d,x):=by
 rw [eg,if_neg h]
def EgW (a m:Int) (s:Int×Int×Int×Int):Prop:=EgI a m s.1 s.2.1 s.2.2.1 s.2.2.2∧eg s.1 s.2.1 s.2.2.1 s.2.2.2=eg m a 0 1
theorem EgW.start {a m:Int} (h0:0≤a) (h1:a<m):EgW a m (m,a,0,1):=⟨.start h0 h1,rfl⟩
theorem EgW.step {a0 m d a x n:Int} (h:EgW a0 m (d,a,x,n)) (ha:a≠0):EgW a0 m (a,d%a,n,x - d / a*n) :=
 ⟨(h.1.nxt ha).1,(eg_step (by have:=h.1.an;grind)).symm.trans h.2⟩
def egX (a m:Int):Int:=let x:=(eg m a 0 1).2;(if x<0 then x+m else x)%m
theorem EgW.fin {a0 m d a x n:Int} (h:EgW a0 m (d,a,x,n)) (ha:a=0):d=Int.gcd a0 m∧eg m a0 0 1=(d,x) ∧ -m≤x∧x≤m:=by
 subst ha
 obtain ⟨h1,h2⟩:=h
 dsimp only at h1 h2
 refine ⟨?_,by grind [eg_end],?_⟩
 ·rw [← h1.g,Int.gcd_zero_right]
  have:=h1.ad
  omega
 ·obtain ⟨u,v,u0,u1,v0,v1,hs,hv⟩:=h1.sg
  omega
theorem EgW.all {a0 m:Int}:∀ (k:Nat) (s:Int×Int×Int×Int),s.2.1.toNat≤k→EgW a0 m s→∃ d x n,EgW a0 m (d,0,x,n)
 | k,(d,a,x,n),hk,h=>by
  by_cases ha:a=0
  ·grind
  ·have h0:=h.1.an
   dsimp only at h0 hk
   cases k with
   | zero=>omega
   | succ k =>
    have:=Int.emod_lt_of_pos d (show 0<a by omega)
    have:=Int.emod_nonneg d ha
    exact EgW.all k _ (by grind) (h.step ha)
theorem egX_inv {a m:Int} (h0:0≤a) (h1:a<m):(0≤egX a m∧egX a m<m)∧(Int.gcd a m=1→egX a m=invF a m):=by
 obtain ⟨d,x,n,h⟩:=EgW.all _ _ (Nat.le_refl _) (EgW.start h0 h1)
 obtain ⟨hd,he,-,-⟩:=h.fin rfl
 have hb:0≤egX a m∧egX a m<m:=⟨Int.emod_nonneg _ (by omega),Int.emod_lt_of_pos _ (by omega)⟩
 refine ⟨hb,fun hg=>(invF_eq hb ?_).symm⟩
 have c1:=h.1.c1
 dsimp only at c1
 rw [hd,hg] at c1
 unfold egX
 rw [he]
 dsimp only
 obtain ⟨k,hk⟩:=c1
 have e2:∀ y:Int,a*(y%m) - 1=(a*y - 1) - m*(a*(y / m)):=fun y=>by
  have:=Int.mul_ediv_add_emod y m
  grind
 split
 ·rw [e2]
  refine ⟨k+a - a*((x+m) / m),?_⟩
  grind
 ·rw [e2]
  refine ⟨k - a*(x / m),?_⟩
  grind
structure RgI (a0 m u v x y : Int) : Prop where
  u0 : 0 ≤ u
  u1 : u ≤ m
  v0 : 0 ≤ v
  v1 : v ≤ m
  x0 : 0 ≤ x
  x1 : x < m
  y0 : 0 ≤ y
  y1 : y < m
  c1 : m ∣ a0 * x - u
  c2 : m ∣ a0 * y - v
  g : Int.gcd u v = Int.gcd a0 m
theorem RgI.start {a m:Int} (h0:0≤a) (h1:a<m):RgI a m a m (1%m) 0 where
 u0:=h0
 u1:=by omega
 v0:=by omega
 v1:=by omega
 x0:=Int.emod_nonneg _ (by omega)
 x1:=Int.emod_lt_of_pos _ (by omega)
 y0:=by omega
 y1:=by omega
 c1:=by
  have e:=Int.mul_ediv_add_emod 1 m
  refine ⟨-(a*(1 / m)),?_⟩
  grind
 c2:=⟨-1,by omega⟩
 g:=rfl
theorem RgI.nxt {a0 m u v x y:Int} (h:RgI a0 m u v x y) (hv:v≠0):RgI a0 m v (u%v) y ((x - u / v%m*y%m)%m)∧0≤u / v∧u / v≤m∧u / v*v≤u∧0≤u / v*v∧u - u / v*v=u%v:=by
 have p:0<v:=by have:=h.v0;omega
 have hm:0<m:=by have:=h.v1;omega
 have q0:0≤u / v:=Int.ediv_nonneg h.u0 (by omega)
 have e:=Int.mul_ediv_add_emod u v
 have r0:=Int.emod_nonneg u hv
 have r1:=Int.emod_lt_of_pos u p
 have hu:=h.u0
 have hu1:=h.u1
 have hv1:=h.v1
 have qv:u / v*v≤u:=by grind
 have q1:u / v≤m:=by
  have:u / v*1≤u / v*v:=Int.mul_le_mul_of_nonneg_left (by omega) q0
  omega
 refine ⟨⟨by omega,by omega,r0,by omega,h.y0,h.y1,Int.emod_nonneg _ (by omega),Int.emod_lt_of_pos _ hm,h.c2,?_,?_⟩,q0,q1,qv,Int.mul_nonneg q0 (by omega),by grind⟩
 ·obtain ⟨k,hk⟩:=h.c1
  obtain ⟨j,hj⟩:=h.c2
  have e1:=Int.mul_ediv_add_emod (u / v) m
  have e2:=Int.mul_ediv_add_emod (u / v%m*y) m
  have e3:=Int.mul_ediv_add_emod (x - u / v%m*y%m) m
  generalize (x - u / v%m*y%m)%m=z at *
  generalize (x - u / v%m*y%m) / m=z' at *
  generalize u / v%m*y%m=w at *
  generalize u / v%m*y / m=w' at *
  generalize u / v%m=qm at *
  generalize u / v / m=qm' at *
  generalize u / v=q at *
  generalize u%v=r at *
  refine ⟨k - q*j+a0*(qm'*y+w' - z'),?_⟩
  grind
 ·rw [← h.g,Int.gcd_comm u v,show u%v=u - v*(u / v) by omega]
  simp
theorem RgI.fin {a0 m u x y:Int} (h:RgI a0 m u 0 x y) (hg:Int.gcd a0 m=1):x=invF a0 m:=by
 have hu:u=1:=by
  have:=h.g
  have h0:=h.u0
  grind [Int.gcd_zero_right]
 exact (invF_eq ⟨h.x0,h.x1⟩ (hu▸h.c1)).symm
theorem EgI.w {a0 m d a x n:Int} (h:EgI a0 m d a x n) (ha:a≠0) (hm:m<2305843009213693952) :
  IntKind.wrap .i64 (d - IntKind.wrap .i64 (IntKind.wrap .i64 (Int.tdiv d a)*a))=d%a∧IntKind.wrap .i64 (x - IntKind.wrap .i64 (IntKind.wrap .i64 (Int.tdiv d a)*n))=x - d / a*n∧d%a<a∧0≤d%a:=by
 obtain ⟨h1,q0,q1,n0,n1,n2,n3,e⟩:=h.nxt ha
 have hd:=h.ad;have hm1:=h.d1;have h0:=h.an
 have r0:=h1.an;have r1:=h1.ad
 have qd:d / a≤d:=by
  have:d / a*1≤d / a*a:=Int.mul_le_mul_of_nonneg_left (by omega) q0
  omega
 have e1:IntKind.wrap .i64 (Int.tdiv d a)=d / a:=by grind [Int.tdiv_eq_ediv_of_nonneg,wI]
 have e2:IntKind.wrap .i64 (d / a*a)=d / a*a:=wI (by omega) (by omega)
 obtain ⟨u,v,u0,u1,v0,v1,hs,hv⟩:=h1.sg
 rw [e1,e2,wI (n:=d - d / a*a) (by omega) (by omega),wI (n:=d / a*n) (by omega) (by omega),wI (n:=x - d / a*n) (by omega) (by omega)]
 omega
theorem EgW.out {a0 m:Int} {s:Int×Int×Int×Int} (h:EgW a0 m s) (ha:s.2.1=0) (hm:m<2305843009213693952) :
  s.1=Int.gcd a0 m∧(s.2.2.1<0→Int.tmod (IntKind.wrap .i64 (s.2.2.1+m)) m=egX a0 m)∧(¬s.2.2.1<0→Int.tmod s.2.2.1 m=egX a0 m)∧0<m:=by
 obtain ⟨d,a,x,n⟩:=s
 obtain ⟨h1,h2,h3,h4⟩:=EgW.fin h ha
 have h5:=h.1.d1;have h6:=h.1.ad;have h7:=h.1.an
 dsimp only at *
 refine ⟨h1,fun hx=>?_,fun hx=>?_,by omega⟩
 ·rw [wI (by omega) (by omega),tmod_nn (by omega)]
  simp_all [egX]
 simp_all [tmod_nn,egX,if_neg]
theorem RgI.w {a0 m u v x y:Int} (h:RgI a0 m u v x y) (hv:v≠0) (hm:m<2305843009213693952) :
  IntKind.wrap .i64 (Int.tdiv u v)=u / v∧IntKind.wrap .i64 (u - IntKind.wrap .i64 (IntKind.wrap .i64 (Int.tdiv u v)*v))=u%v∧u%v<v∧0≤u%v∧0<m∧0≤u / v%m∧u / v%m<m∧IntKind.wrap .i64 (x - u / v%m*y%m)=x - u / v%m*y%m:=by
 obtain ⟨h1,q0,q1,n0,n1,e⟩:=h.nxt hv
 have b1:=h.u0;have b2:=h.u1;have b3:=h.v0;have b4:=h.v1;have b5:=h.x0;have b6:=h.x1
 have r0:=Int.emod_nonneg u hv
 have r1:=Int.emod_lt_of_pos u (show 0<v by omega)
 have m0:0<m:=by omega
 have e1:IntKind.wrap .i64 (Int.tdiv u v)=u / v:=by grind [Int.tdiv_eq_ediv_of_nonneg,wI]
 have c0:=Int.emod_nonneg (u / v%m*y) (show m≠0 by omega)
 have c1:=Int.emod_lt_of_pos (u / v%m*y) m0
 refine ⟨e1,?_,r1,r0,m0,Int.emod_nonneg _ (by omega),Int.emod_lt_of_pos _ m0,wI (by omega) (by omega)⟩
 grind [wI]
theorem gcd_next (a b:Int):Int.gcd b (a%b)=Int.gcd a b:=by simp [Int.gcd_comm,Int.emod_def]
theorem gcd_last {x y:Int} {g:Nat} (hx:0≤x) (hy:y=0) (h:Int.gcd x y=g):x=g:=by grind [Int.gcd_zero_right]
theorem chk_zero {a m:Int} (h0:0≤a) (h1:a<m) (hm:m<2305843009213693952):chkI a a m=0:=by grind [chkI]
def Spend.coin (s:Spend):Coin:=⟨s.bank,s.epoch,s.denom,s.depth,s.a,s.root,s.z,s.sa,s.sb,s.r⟩
def Spend.cxt (s:Spend):Cxt:=⟨s.payee,s.time,s.number⟩
structure Spend.By (s : Spend) : Prop where
  root : byB s.root 32
  payee : byB s.payee 32
def chS (b:Bas) (s:Spend):Int:=chalN b.gr.q s.coin s.level s.index s.cxt
def scB (b:Bas) (x:Int):Bool:=decide (x≥0)&&decide (x<b.gr.q)
theorem okS_all {s:Spend} (h:okS s=true):nodeB s.depth s.level s.index=true∧ctxB s.time s.number=true∧fromS s=spanA s.depth s.level s.index∧toS s=spanZ s.depth s.level s.index∧(s.nl:Int)=toS s - fromS s:=by
 have hf:fromS s=spanA s.depth s.level s.index:=by grind [fromS]
 have ht:toS s=spanZ s.depth s.level s.index:=by grind [toS]
 have hn:nodeB s.depth s.level s.index=true:=by grind [nodeB,okS,spanE]
 have hb:=fromS_bnd s
 have hz:0≤toS s∧toS s≤2000:=by
  rw [ht]
  unfold spanZ
  rw [if_pos hn]
  obtain ⟨h1,h2,h3,h4,h5,h6⟩:=node_t hn
  obtain ⟨q1,_,q2,q3⟩:=p2 (k:=s.depth - s.level) (by omega) (by omega)
  obtain ⟨_,_,r2,r3⟩:=p2 (k:=s.level) (by omega) (by omega)
  obtain ⟨b1,b2,b3,b4⟩:=bnd h5 h6 r3 q2 q3
  omega
 grind [okS,ctxB,wI]
theorem okS_nl {s:Spend} (h:okS s=true):toS s≤2000:=by
 obtain ⟨hn,_,_,ht,_⟩:=okS_all h
 rw [ht]
 unfold spanZ
 rw [if_pos hn]
 obtain ⟨h1,h2,h3,h4,h5,h6⟩:=node_t hn
 obtain ⟨q1,_,q2,q3⟩:=p2 (k:=s.depth - s.level) (by omega) (by omega)
 obtain ⟨_,_,r2,r3⟩:=p2 (k:=s.level) (by omega) (by omega)
 obtain ⟨b1,b2,b3,b4⟩:=bnd h5 h6 r3 q2 q3
 omega
def mateS (s t:Spend) (i:Nat):Nat:=(firstI (fun k=>t.lf k 0==s.lf i 0) t.nl 0).toNat
def leafN (s:Spend) (leaf:Int):Nat:=(leaf - fromS s).toNat
noncomputable def secR (b:Bas) (s t:Spend) (leaf:Int):Int×Int :=
 if validB b=false∨(okS s&&okS t)=false then (0,1)
 else if leaf<fromS s∨toS s≤leaf then (0,2)
 else if ¬(s.a=t.a∧found t (s.lf (leafN s leaf) 0)=true) then (0,7)
 else if scB b (s.lf (leafN s leaf) 1)=false∨scB b (s.lf (leafN s leaf) 2)=false∨scB b (t.lf (mateS s t (leafN s leaf)) 1)=false∨scB b (t.lf (mateS s t (leafN s leaf)) 2)=false then (0,2)
 else if chS b s=chS b t then (0,20)
 else if s.lf (leafN s leaf) 2=t.lf (mateS s t (leafN s leaf)) 2 then (0,10)
 else ((s.lf (leafN s leaf) 1 - t.lf (mateS s t (leafN s leaf)) 1)%b.gr.q*invF ((s.lf (leafN s leaf) 2 - t.lf (mateS s t (leafN s leaf)) 2)%b.gr.q) b.gr.q%b.gr.q,0)
theorem shared_has {s t:Spend} {leaf:Int} (h:okS s=true) (h1:¬(leaf<fromS s∨toS s≤leaf)):leaf∈sharedL s t↔(s.a=t.a∧found t (s.lf (leafN s leaf) 0)=true):=by
 obtain ⟨_,_,_,_,hn⟩:=okS_all h
 unfold sharedL
 by_cases ha:s.a=t.a
 ·rw [if_neg (by omega)]
  unfold sharedN leafN
  grind
 grind
theorem mate_lt {s t:Spend} {i:Nat} (h:found t (s.lf i 0)=true):mateS s t i<t.nl∧firstI (fun k=>t.lf k 0==s.lf i 0) t.nl 0=(mateS s t i:Nat):=by
 have h0:firstI (fun k=>t.lf k 0==s.lf i 0) t.nl 0≥0:=of_decide_eq_true h
 have h1:=firstI_lt (p:=fun k=>t.lf k 0==s.lf i 0) t.nl 0
 grind [mateS]
theorem first_mem {l:List Int} {v:Int}:(decide (firstI (fun i=>l.getD i 0==v) l.length 0≥0))=decide (v∈l):=by
 rw [firstI_neg]
 rw [Bool.eq_iff_iff]
 simp only [Nat.zero_add,List.any_eq_true,List.mem_range,beq_iff_eq,decide_eq_true_eq]
 constructor
 ·grind
 ·intro h
  obtain ⟨i,hi,rfl⟩:=List.mem_iff_getElem.1 h
  exact ⟨i,hi,by grind⟩
theorem leaf_w {s:Spend} {leaf:Int} (h:okS s=true) (h1:¬(leaf<fromS s∨toS s≤leaf)):0≤IntKind.wrap .i64 (leaf - fromS s)∧IntKind.wrap .i64 (leaf - fromS s)<s.nl∧toNat (IntKind.wrap .i64 (leaf - fromS s))=leafN s leaf:=by
 obtain ⟨_,_,_,_,hn⟩:=okS_all h
 have hb:=fromS_bnd s
 have hz:toS s≤2000:=by
  have:=okS_nl h
  omega
 rw [wI (by omega) (by omega)]
 exact ⟨by omega,by omega,rfl⟩
theorem sec_1 {b:Bas} {s t:Spend} {leaf:Int} (h:validB b=false∨okS s=false∨okS t=false):secR b s t leaf=(0,1):=by grind [secR]
theorem sec_2 {b:Bas} {s t:Spend} {leaf:Int} (h:validB b=true∧okS s=true∧okS t=true) (h1:leaf<fromS s∨toS s≤leaf):secR b s t leaf=(0,2):=by grind [secR]
theorem sec_3 {b:Bas} {s t:Spend} {leaf:Int} (h:validB b=true∧okS s=true∧okS t=true) (h1:¬(leaf<fromS s∨toS s≤leaf)) (h2:¬leaf∈sharedL s t):secR b s t leaf=(0,7):=by grind [shared_has,secR]
theorem sec_4 {b:Bas} {s t:Spend} {leaf:Int} (h:validB b=true∧okS s=true∧okS t=true) (h1:¬(leaf<fromS s∨toS s≤leaf)) (h2:leaf∈sharedL s t)
  (h3:scB b (s.lf (leafN s leaf) 1)=false∨scB b (s.lf (leafN s leaf) 2)=false∨scB b (t.lf (mateS s t (leafN s leaf)) 1)=false∨scB b (t.lf (mateS s t (leafN s leaf)) 2)=false):secR b s t leaf=(0,2):=by grind [shared_has,secR]
theorem sec_5 {b:Bas} {s t:Spend} {leaf:Int} (h:validB b=true∧okS s=true∧okS t=true) (h1:¬(leaf<fromS s∨toS s≤leaf)) (h2:leaf∈sharedL s t)
  (h3:scB b (s.lf (leafN s leaf) 1)=true∧scB b (s.lf (leafN s leaf) 2)=true∧scB b (t.lf (mateS s t (leafN s leaf)) 1)=true∧scB b (t.lf (mateS s t (leafN s leaf)) 2)=true) (h4:chS b s=chS b t):secR b s t leaf=(0,20):=by grind [shared_has,secR]
theorem sec_6 {b:Bas} {s t:Spend} {leaf:Int} (h:validB b=true∧okS s=true∧okS t=true) (h1:¬(leaf<fromS s∨toS s≤leaf)) (h2:leaf∈sharedL s t)
  (h3:scB b (s.lf (leafN s leaf) 1)=true∧scB b (s.lf (leafN s leaf) 2)=true∧scB b (t.lf (mateS s t (leafN s leaf)) 1)=true∧scB b (t.lf (mateS s t (leafN s leaf)) 2)=true) (h4:¬chS b s=chS b t)
  (h5:s.lf (leafN s leaf) 2=t.lf (mateS s t (leafN s leaf)) 2):secR b s t leaf=(0,10):=by grind [shared_has,secR]
theorem sec_7 {b:Bas} {s t:Spend} {leaf:Int} (h:validB b=true∧okS s=true∧okS t=true) (h1:¬(leaf<fromS s∨toS s≤leaf)) (h2:leaf∈sharedL s t)
  (h3:scB b (s.lf (leafN s leaf) 1)=true∧scB b (s.lf (leafN s leaf) 2)=true∧scB b (t.lf (mateS s t (leafN s leaf)) 1)=true∧scB b (t.lf (mateS s t (leafN s leaf)) 2)=true) (h4:¬chS b s=chS b t)
  (h5:¬s.lf (leafN s leaf) 2=t.lf (mateS s t (leafN s leaf)) 2):secR b s t leaf=((s.lf (leafN s leaf) 1 - t.lf (mateS s t (leafN s leaf)) 1)%b.gr.q*invF ((s.lf (leafN s leaf) 2 - t.lf (mateS s t (leafN s leaf)) 2)%b.gr.q) b.gr.q%b.gr.q,0):=by simp_all [shared_has,secR,if_neg]
theorem scB_t {b:Bas} {x:Int} (h:scB b x=true):0≤x∧x<b.gr.q:=by grind [scB]
theorem sub_q {x y q:Int} (hx:0≤x∧x<q) (hy:0≤y∧y<q) (hq:q<2305843009213693952):Int.tmod (IntKind.wrap .i64 (IntKind.wrap .i64 (x - y)+q)) q=(x - y)%q∧0≤(x - y)%q∧(x - y)%q<q:=by
 rw [wI (n:=x - y) (by omega) (by omega),wI (by omega) (by omega),tmod_nn (by omega),Int.add_emod_right]
 exact ⟨rfl,Int.emod_nonneg _ (by omega),Int.emod_lt_of_pos _ (by omega)⟩
theorem chS_of {b:Bas} {s:Spend} (h:validB b=true) (h':okS s=true):chalE b s.coin s.level s.index s.cxt=0∧chalK b s.coin s.level s.index s.cxt=chS b s :=
 have h2:=okS_all h'
 chal_3 h ⟨h2.1,h2.2.1⟩
theorem sharedL_len (s t:Spend):(sharedL s t).length≤s.nl:=by
 unfold sharedL
 split
 ·simp
 simp [sharedN_len]
theorem or4 {A B C D:Prop} (h:((A∨B)∨C)∨D):A∨B∨C∨D:=by grind
theorem and4 {A B C D:Prop} (h:((A∧B)∧C)∧D):A∧B∧C∧D:=⟨h.1.1.1,h.1.1.2,h.1.2,h.2⟩
theorem sub_r {x y q:Int} (hx:0≤x∧x<q) (hy:0≤y∧y<q) (hq:q<2305843009213693952):Int.tmod (IntKind.wrap .i64 (IntKind.wrap .i64 (x+q) - y)) q=(x - y)%q∧0≤(x - y)%q∧(x - y)%q<q:=by
 rw [wI (n:=x+q) (by omega) (by omega),wI (by omega) (by omega),tmod_nn (by omega),show x+q - y=(x - y)+q by omega,Int.add_emod_right]
 exact ⟨rfl,Int.emod_nonneg _ (by omega),Int.emod_lt_of_pos _ (by omega)⟩
def partI (s t:Spend) (i:Nat):Int:=if s.a=t.a then firstI (fun k=>t.lf k 0==s.lf i 0) t.nl 0 else -1
theorem part_has {s t:Spend} {leaf:Int} (h:okS s=true) (h1:¬(leaf<fromS s∨toS s≤leaf)):¬partI s t (leafN s leaf)<0↔leaf∈sharedL s t:=by simp_all [shared_has,partI,found]<;>omega
theorem part_mate {s t:Spend} {i:Nat} (h:¬partI s t i<0):partI s t i=mateS s t i∧mateS s t i<t.nl:=by
 unfold partI at h ⊢
 by_cases ha:s.a=t.a
 ·rw [if_pos ha] at h ⊢
  have:=mate_lt (s:=s) (t:=t) (i:=i) (decide_eq_true (by omega))
  omega
 omega
theorem leaf_r {s:Spend} {leaf:Int} (h:okS s=true) (hl:leaf≤9223372036854775807):((leaf<0∨IntKind.wrap .i64 (leaf - fromS s)<0)∨IntKind.wrap .i64 (leaf - fromS s)≥s.nl)↔(leaf<fromS s∨toS s≤leaf):=by
 obtain ⟨_,_,_,_,hn⟩:=okS_all h
 have hb:=fromS_bnd s
 grind [wI]
theorem sec_k {s t:Spend} {leaf:Int} (h:okS s=true) (hl:leaf≤9223372036854775807) (h6:(¬leaf<0∧¬IntKind.wrap .i64 (leaf - fromS s)<0)∧¬IntKind.wrap .i64 (leaf - fromS s)≥s.nl)
  (h9:¬partI s t (toNat (IntKind.wrap .i64 (leaf - fromS s)))<0):¬(leaf<fromS s∨toS s≤leaf)∧leaf∈sharedL s t∧toNat (IntKind.wrap .i64 (leaf - fromS s))=leafN s leaf ∧
  toNat (partI s t (leafN s leaf))=mateS s t (leafN s leaf)∧0≤partI s t (leafN s leaf)∧partI s t (leafN s leaf)<t.nl:=by
 have nl:¬(leaf<fromS s∨toS s≤leaf):=fun hh=>by
  have:=(leaf_r h hl).2 hh
  omega
 grind [leaf_w,part_mate,part_has,Int.toNat_natCast]
theorem elem_iff {G:Grp} (h:G.Ok) {x:Int}:elemB G x=true↔1≤x∧x<G.p∧x^G.q.toNat%G.p=1:=by
 rw [← mem_eq h]
 grind
theorem pow_ne {a p:Int} {q:Nat} (hq:0<q) (h:a^q%p=1):a%p≠0:=fun e=>by
 have h2:(a%p)^q%p=1:=by grind [pow_mod]
 rw [e,Int.zero_pow (by omega)] at h2
 simp at h2
theorem elem_of {G:Grp} (h:G.Ok) {x:Int} (hx:x^G.q.toNat%G.p=1):elemB G (x%G.p)=true:=by
 have h3:=h.p3;have h4:=h.q3
 have h1:=Int.emod_nonneg x (show G.p≠0 by omega)
 have h2:=Int.emod_lt_of_pos x (show 0<G.p by omega)
 have h5:=pow_ne (by omega) hx
 grind [elem_iff,pow_mod]
theorem elem_pow {G:Grp} (h:G.Ok) {a:Int} (ha:elemB G a=true) (k:Nat):elemB G (a^k%G.p)=true:=by
 refine elem_of h ?_
 have h3:=h.p3
 rw [← Int.pow_mul,Nat.mul_comm,Int.pow_mul,← pow_mod,((elem_iff h).1 ha).2.2,Int.one_pow,Int.emod_eq_of_lt (by decide) (by omega)]
theorem elem_mul {G:Grp} (h:G.Ok) {a b:Int} (ha:elemB G a=true) (hb:elemB G b=true):elemB G (a*b%G.p)=true:=by
 refine elem_of h ?_
 have h3:=h.p3
 rw [Int.mul_pow,Int.mul_emod,((elem_iff h).1 ha).2.2,((elem_iff h).1 hb).2.2]
 exact Int.emod_eq_of_lt (by decide) (by omega)
theorem elem_bnd {G:Grp} (h:G.Ok) {a:Int} (ha:elemB G a=true):1≤a∧a<G.p:=⟨((elem_iff h).1 ha).1,((elem_iff h).1 ha).2.1⟩
def msgI (b:Bas) (u:Int):Int:=b.g1^u.toNat%b.gr.p*b.g2%b.gr.p
theorem red_q {q x:Int} (h:0≤x∧x<q):x%q=x:=Int.emod_eq_of_lt h.1 h.2
theorem chS_q {b:Bas} {s:Spend} (h:0<b.gr.q):0≤chS b s∧chS b s<b.gr.q:=num_by h 16
def catF (l r:Nat→Int) (i:Nat):Int:=bif Nat.blt i 32 then l i else r (i - 32)
def nodeF (l r:Nat→Int):Nat→Int:=tagF "specie/node".toUTF8 64 (catF l r)
theorem cat_by {l r:Nat→Int} (hl:byB l 32) (hr:byB r 32):byB (catF l r) 64:=fun i hi=>by
 unfold catF
 by_cases h:i<32
 ·rw [blt_t h];exact hl i h
 ·rw [blt_f (Nat.le_of_not_lt h)];exact hr _ (by omega)
theorem node_by (l r:Nat→Int) (n:Nat):byB (nodeF l r) n:=fun i _=>sha_by _ _ i
def leafF (x:Int):Nat→Int:=tagI "specie/leaf".toUTF8 (.int x)
def treF (h:Nat→Nat→Int):Nat→Nat→Nat→Int
 | 0,i=>h i
 | k+1,i=>nodeF (treF h k (2*i)) (treF h k (2*i+1))
theorem tre_by {h:Nat→Nat→Int} {n:Nat} (hh:∀ i,i<n→byB (h i) 32):∀ (k i:Nat),i*2^k+2^k≤n→byB (treF h k i) 32
 | 0,i,hi=>hh i (by omega)
 | k+1,i,_=>node_by _ _ 32
abbrev hsl (n:Nat) (h:Nat→Nat→Int):AV:=.isl 32 n fun i j=>.int .u8 (h i j)
def twoF (l r:Nat→Int) (i:Nat):Nat→Int:=bif Nat.beq i 0 then l else r
def joinF (l r:Nat→Int) (x i:Nat):Int:=bif Nat.beq x 0 then 0 else catF l r i
theorem two_ent {os:List (Option Ob)} {f g:Nat→Nat→AV} {l r:Nat→Int} (hf:∀ i,i<32→f i 0=.int .u8 (l i)) (hg:∀ i,i<32→g i 0=.int .u8 (r i)) :
  Ent os (.isl 1 2 fun i k=>atL (List.getD [[.isl 1 32 f],[.isl 1 32 g]] i []) k) (.isl 1 2 fun i _=>.isl 1 32 fun k _=>.int .u8 (twoF l r i k)):=by
 refine Ent.islE fun i j hi hj=>?_
 have:j=0:=by omega
 subst this
 refine ⟨?_,.isl fun _ _ _ _=>.int⟩
 rcases i with _|_|i
 ·exact Ent.isl fun a b ha hb=>by
   have:b=0:=by omega
   subst this;exact hf a ha
 ·exact Ent.isl fun a b ha hb=>by
   have:b=0:=by omega
   subst this;exact hg a ha
 omega
theorem join_step {l r:Nat→Int} {x i:Nat} (hx:x<2) (hi:i<32*x+32):(bif Nat.blt i (32*x) then joinF l r x i else twoF l r x (i - 32*x))=joinF l r (x+1) i:=by
 have:x=0∨x=1:=by omega
 rcases this with rfl|rfl
 ·rw [blt_f (by omega)]
  show l (i - 0)=catF l r i
  grind [catF,blt_t]
 ·by_cases h:i<32
  ·rw [blt_t (by omega)];rfl
  ·rw [blt_f (by omega)]
   show r (i - 32)=catF l r i
   grind [catF,blt_f]
theorem join_all {l r:Nat→Int} {x i:Nat} (hx:x=2):joinF l r x i=catF l r i:=by subst hx;rfl
theorem cat_lo {l r:Nat→Int} {i:Nat} (h:i<32):catF l r i=l i:=by grind [catF,blt_t]
theorem cat_hi {l r:Nat→Int} {i:Nat}:catF l r (32+i)=r i:=by simp [catF,blt_f]
theorem node_n {l r:Nat→Int} {n:Nat} (h:n=64):tagF "specie/node".toUTF8 n (catF l r)=nodeF l r:=by subst h;rfl
def revI (m x i:Nat):Nat:=bif Nat.blt i x||Nat.ble (m - x) i then m - 1 - i else i
theorem rev_eq {os:List (Option Ob)} {m:Nat} {mu:Bool} (C:Nat→Nat) (F:Nat→Nat→Nat→Int) (σ τ:Nat→Nat) (h:∀ i,i<m→σ i=τ i):ObEnt os ⟨1,m,mu,.row fun i=>[hsl (C (σ i)) (F (σ i))]⟩ ⟨1,m,mu,.row fun i=>[hsl (C (τ i)) (F (τ i))]⟩ :=
 ⟨rfl,rfl,rfl,fun i j hi hj=>Ent.of_eq (by
  have hi:i<m:=hi
  show Am.atL [hsl (C (σ i)) (F (σ i))] j=Am.atL [hsl (C (τ i)) (F (τ i))] j
  grind)⟩
theorem rev_0 {m i:Nat} (hi:i<m):i=revI m 0 i:=by
 unfold revI
 have h1:Nat.ble (m - 0) i=false:=by grind [Nat.ble,Nat.ble_eq]
 simp_all [blt_f,Nat.zero_le]
theorem rev_all {m x i:Nat} (hx:¬x<m - 1 - x) (_:x≤m / 2) (hi:i<m):revI m x i=m - 1 - i:=by
 unfold revI
 by_cases h:i<x
 ·grind [blt_t]
 ·by_cases h':m - x≤i
  ·rw [show Nat.ble (m - x) i=true from by simp_all,Bool.or_true];rfl
  grind
theorem rev_mid {m x i:Nat} (h1:¬i<x) (h2:¬m - x≤i):revI m x i=i:=by grind [revI,Nat.ble,Nat.ble_eq,blt_f]
theorem rev_step {os:List (Option Ob)} {m x a b:Nat} (C:Nat→Nat) (F:Nat→Nat→Nat→Int) (ha:a=x) (hb:b=m - 1 - x) (hx:x<m - 1 - x) :
  ObEnt os ⟨1,m,true,.put b [hsl (C (revI m x a)) (F (revI m x a))] (.put a [hsl (C (revI m x b)) (F (revI m x b))] (.row fun i=>[hsl (C (revI m x i)) (F (revI m x i))]))⟩ ⟨1,m,true,.row fun i=>[hsl (C (revI m (x+1) i)) (F (revI m (x+1) i))]⟩:=by
 refine ⟨rfl,rfl,rfl,fun i j hi hj=>Ent.of_eq ?_⟩
 have hi:i<m:=hi
 show mixA (Nat.beq i b) (Am.atL [hsl (C (revI m x a)) (F (revI m x a))] j) (mixA (Nat.beq i a) (Am.atL [hsl (C (revI m x b)) (F (revI m x b))] j) (Am.atL [hsl (C (revI m x i)) (F (revI m x i))] j))=Am.atL [hsl (C (revI m (x+1) i)) (F (revI m (x+1) i))] j
 have key:∀ p q:Nat,p=q→Am.atL [hsl (C p) (F p)] j=Am.atL [hsl (C q) (F q)] j:=fun p q e=>by rw [e]
 by_cases h1:i=b
 ·rw [show Nat.beq i b=true by simp_all,mixA_tt]
  refine key _ _ ?_
  rw [ha,rev_mid (by omega) (by omega)]
  unfold revI
  rw [show Nat.ble (m - (x+1)) i=true from by grind [Nat.ble_eq],Bool.or_true]
  grind
 ·rw [beq_f h1,mixA_ff]
  by_cases h2:i=a
  ·grind [Nat.beq,Nat.beq_refl,mixA_tt,rev_mid,revI,blt_t]
  ·rw [beq_f h2,mixA_ff]
   refine key _ _ ?_
   unfold revI
   have e1:Nat.blt i x=Nat.blt i (x+1):=by grind [blt_t,blt_f]
   have e2:Nat.ble (m - x) i=Nat.ble (m - (x+1)) i:=by
    rw [Bool.eq_iff_iff,Nat.ble_eq,Nat.ble_eq]
    omega
   grind
theorem pow5 {d k:Nat} (hd:d≤5):2^(d - k)≤32:=Nat.le_trans (Nat.pow_le_pow_right (by decide) (show d - k≤5 by omega)) (by decide)
theorem pow_lt {d k:Nat} (h:((2^(d - k):Nat):Int)>1):k<d:=by grind
theorem pow_eq {d k:Nat} (hk:k≤d) (h:¬((2^(d - k):Nat):Int)>1):k=d:=by
 apply Classical.byContradiction
 intro hn
 apply h
 have:2^1≤2^(d - k):=Nat.pow_le_pow_right (by decide) (by omega)
 omega
theorem pow_dbl {d k:Nat} (h:k<d):2*2^(d - k - 1)=2^(d - k):=by
 rw [show d - k=(d - k - 1)+1 by omega,Nat.pow_succ,Nat.mul_comm]
 congr 1
theorem pow_pos2 {k:Nat}:1≤2^k:=Nat.pos_of_ne_zero (by simp)
def folF (h:Nat→Int) (i:Int) (P:Nat→Nat→Int):Nat→Nat→Int
 | 0=>h
 | x+1=>bif decide (i / 2^x%2=0) then nodeF (folF h i P x) (P x) else nodeF (P x) (folF h i P x)
theorem fol_by {h:Nat→Int} {i:Int} {P:Nat→Nat→Int} (hh:byB h 32):∀ x,byB (folF h i P x) 32
 | 0=>hh
 | x+1=>by
  show byB (bif _ then _ else _) 32
  grind [decide,node_by]
theorem shw_f:∀ x:Fin 11,IntKind.wrap .i64 (1*2^min x.1 64)=((2^x.1:Nat):Int):=by decide +kernel
theorem shw {x:Nat} (h:x≤10):IntKind.wrap .i64 (1*2^min x 64)=((2^x:Nat):Int):=shw_f ⟨x,by omega⟩
theorem pow_inj_f:∀ d x:Fin 11,2^d.1=2^x.1→d.1=x.1:=by decide +kernel
theorem pow_inj {d x:Nat} (hd:d≤10) (hx:x≤10) (h:2^d=2^x):d=x:=pow_inj_f ⟨d,by omega⟩ ⟨x,by omega⟩ h
theorem dep_t {d x:Nat} (hd:d≤10) (hx:x≤10) (g:((2^d:Nat):Int)=IntKind.wrap .i64 (1*2^min x 64)):d=x:=by grind [shw,pow_inj,Int.ofNat_inj]
theorem dep_f {d x:Nat} (hx:x≤10) (g:¬((2^d:Nat):Int)=IntKind.wrap .i64 (1*2^min x 64)):d≠x:=fun e=>g (by grind [shw])
theorem half_q {i:Int} {x:Nat} (hi:0≤i):Int.tdiv (i / 2^x) 2=i / 2^(x+1):=by grind [Int.tdiv_eq_ediv_of_nonneg,Int.ediv_nonneg,Int.pow_nonneg,Int.ediv_ediv_of_nonneg,Int.pow_succ]
theorem half_r {i:Int} {x:Nat} (hi:0≤i):Int.tmod (i / 2^x) 2=i / 2^x%2:=by grind [Int.tmod_eq_emod_of_nonneg,Int.ediv_nonneg,Int.pow_nonneg]
theorem half_w {i:Int} {x:Nat} (hi:0≤i) (hi':i<9223372036854775807):IntKind.wrap .i64 (Int.tdiv (i / 2^x) 2)=i / 2^(x+1):=by
 rw [half_q hi]
 have h1:0≤i / 2^(x+1):=Int.ediv_nonneg hi (Int.pow_nonneg (by decide))
 have h2:i / 2^(x+1)≤i:=Int.ediv_le_self _ hi
 grind [wI]
theorem fol_t {h:Nat→Int} {i:Int} {P:Nat→Nat→Int} {x:Nat} (hi:0≤i) (g:Int.tmod (i / 2^x) 2=0):nodeF (folF h i P x) (P x)=folF h i P (x+1):=by
 rw [half_r hi] at g
 show _=bif _ then _ else _
 grind
theorem fol_f {h:Nat→Int} {i:Int} {P:Nat→Nat→Int} {x:Nat} (hi:0≤i) (g:¬Int.tmod (i / 2^x) 2=0):nodeF (P x) (folF h i P x)=folF h i P (x+1):=by
 rw [half_r hi] at g
 show _=bif _ then _ else _
 grind
theorem fol_ob {os:List (Option Ob)} {u v G:Nat→Int} (e:v=G) :
  ObEnt os ⟨32,1,true,.fn fun i j=>.int .u8 (bif Nat.beq i 0&&(Nat.ble 0 j&&Nat.blt j 32) then intOfAV (atL (u8c v) (j - 0)) else u j)⟩ ⟨32,1,true,.fn fun _ j=>.int .u8 (G j)⟩:=by
 subst e
 refine ⟨rfl,rfl,rfl,fun i j hi hj=>Ent.of_eq (congrArg (AV.int .u8) ?_)⟩
 have:i=0:=Nat.lt_one_iff.1 hi
 subst this
 rw [Nat.sub_zero,show (Nat.beq 0 0&&(Nat.ble 0 j&&Nat.blt j 32))=true by simp_all,u8c_at hj]
 rfl
def eqF (f g:Nat→Int):Nat→Nat→Bool
 | 0,_=>true
 | k+1,s=>(f s==g s)&&eqF f g k (s+1)
def hEq (f g:Nat→Int):Bool:=eqF f g 32 0
theorem grow_w {n:Nat} (hn:n≤1000):IntKind.wrap .i64 ((n:Int) - IntKind.wrap .i64 (0 - 0))=n:=by grind [Int,wI]
theorem zero_u8 {j:Nat} (hj:j<1):AV.int .u8 (intOfAV (atL (zcells (.int .u8 0)) j))=.int .u8 0:=by
 have:j=0:=by omega
 subst this;rfl
structure Rcd where
  bank : Int
  epoch : Int
  denom : Int
  value : Int
  depth : Int
  h : Int
  h1 : Int
  h2 : Int
  fr : Int
  til : Int
  fin : Int
def Rcd.key (r:Rcd):List AV:=[.int .i64 r.h,.int .i64 r.h1,.int .i64 r.h2]
def Rcd.cells (r:Rcd):List AV:=[.int .i64 r.bank,.int .i64 r.epoch,.int .i64 r.denom,.int .i64 r.value,.int .i64 r.depth]++(r.key++[.int .i64 r.fr,.int .i64 r.til,.int .i64 r.fin])
def Rcd.av (r:Rcd):AV:=.agg r.cells
def msgB (G:Grp) (x:Int):Bool:=x != 1&&elemB G x
def keyB (b:Bas) (h h1 h2:Int):Bool:=validB b&&msgB b.gr h&&msgB b.gr h1&&msgB b.gr h2
def oneB (v d:Int):Bool:=bif v==0 then d==0 else decide (v≥1)&&decide (v≤1099511627776)&&decide (d≥0)&&decide (d≤5)&&(Int.tmod v (IntKind.wrap .i64 (1*2^min d.toNat 64))==0)
def rngB (x l u:Int):Bool:=decide (x≥l)&&decide (x≤u)
def numR (bank epoch fr til fin:Int):Bool:=rngB bank 0 7&&rngB epoch 0 1000000&&decide (fr≥0)&&decide (fr<til)&&decide (til≤fin)&&decide (fin≤1099511627776)
def rcvB (b:Bas) (r:Rcd):Bool:=keyB b r.h r.h1 r.h2&&numR r.bank r.epoch r.fr r.til r.fin&&rngB r.denom 0 16&&oneB r.value r.depth
theorem ok1 {e v:Int}:(e==0&&okv e v==1)=(okv e v==1):=by grind [okvn]
theorem sh_ne {d:Int} (h0:0≤d) (h5:d≤5):IntKind.wrap .i64 (1*2^min d.toNat 64)≠0:=by
 rw [shw (x:=d.toNat) (by omega)]
 have:1≤2^d.toNat:=pow_pos2
 omega
theorem u64_s {d:Int} (h0:0≤d) (h5:d≤5):IntKind.wrap .u64 d=d:=by
 have:d=0∨d=1∨d=2∨d=3∨d=4∨d=5:=by omega
 rcases this with rfl|rfl|rfl|rfl|rfl|rfl<;>decide
theorem one_1 {v d:Int} (h:v=0) (h':d=0):oneB v d=true:=by subst h;subst h';rfl
theorem one_0 {v d:Int} (h:v=0):oneB v d=(d==0):=by subst h;rfl
theorem one_n {v d:Int} (h:¬v=0):oneB v d=(decide (v≥1)&&decide (v≤1099511627776)&&decide (d≥0)&&decide (d≤5)&&(Int.tmod v (IntKind.wrap .i64 (1*2^min d.toNat 64))==0)):=by grind [oneB]
theorem one_2 {v d:Int} (h:¬(v=0∧d=0)):(decide (v≥1)&&decide (v≤1099511627776)&&decide (d≥0)&&decide (d≤5)&&(Int.tmod v (IntKind.wrap .i64 (1*2^min d.toNat 64))==0))=oneB v d:=by grind [one_0,decide,one_n]
theorem one_3 {v d:Int} (h:¬v=0):(decide (v≥1)&&decide (v≤1099511627776)&&decide (d≥0)&&decide (d≤5)&&(Int.tmod v (IntKind.wrap .i64 (1*2^min (toNat (IntKind.wrap .u64 d)) 64))==0))=oneB v d:=by
 rw [one_n h]
 by_cases hd:0≤d∧d≤5
 ·grind [u64_s]
 grind
theorem rec_1 {n g k:Bool} {v d:Int}:(n&&g&&(v==0&&d==0||oneB v d)&&k)=(k&&n&&g&&oneB v d):=by
 by_cases h:v=0∧d=0
 ·obtain ⟨rfl,rfl⟩:=h
  cases n<;>cases g<;>cases k<;>rfl
 grind
def crtL (b:Bas) (a:Int) (i:Nat):Int:=[b.gr.p,b.gr.q,b.gr.g,b.g1,b.g2,b.h,a].getD i 0
def crtI (b:Bas) (a:Int) (root:Nat→Int) (z sa sb:Int):It:=lsI [.int b.gr.p,.int b.gr.q,.int b.gr.g,.int b.g1,.int b.g2,.int b.h,.int a,.byt 32 root,.int z,.int sa,.int sb]
def crtN (b:Bas) (a:Int) (root:Nat→Int) (z sa sb:Int):Int:=numF (tagI "specie/coin".toUTF8 (crtI b a root z sa sb)) b.gr.q 16
theorem crtL_ob {os:List (Option Ob)} {b:Bas} {a:Int} {mu:Bool}:ObEnt os ⟨1,7,mu,.lst [[.int .i64 b.gr.p],[.int .i64 b.gr.q],[.int .i64 b.gr.g],[.int .i64 b.g1],[.int .i64 b.g2],[.int .i64 b.h],[.int .i64 a]]⟩ ⟨1,7,mu,.fn fun i _=>.int .i64 (crtL b a i)⟩:=lst_fn fun i j hi hj=>by
 obtain rfl:j=0:=by omega
 match i,hi with
 | 0,_|1,_|2,_|3,_|4,_|5,_|6,_=>rfl
def elF (x0 x1 x2 x3:Int) (i:Nat):Int:=[x0,x1,x2,x3].getD i 0
theorem allE4 {p:Int→Bool} {x0 x1 x2 x3:Int}:allI (fun i=>p (elF x0 x1 x2 x3 i)) 4=(p x0&&(p x1&&p x2&&p x3)):=by
 unfold allI
 show (p x0&&(p x1&&(p x2&&(p x3&&true))))=_
 grind
def elsB (G:Grp) (z sa sb:Int):Bool:=elemB G z&&elemB G sa&&elemB G sb
def crtE (b:Bas) (a z sa sb:Int):Int:=bif validB b then (bif elemB b.gr a&&elsB b.gr z sa sb then 0 else 2) else 1
end Go.Sp

namespace Go.Sp
open Go.IntKind (wrap)
open Int (toNat)
open Go Go.Am
def crtJ (b:Bas) (a:Int) (root:Nat→Int) (z sa sb:Int):List It:=[.int b.gr.p,.int b.gr.q,.int b.gr.g,.int b.g1,.int b.g2,.int b.h,.int a,.byt 32 root,.int z,.int sa,.int sb]
theorem liU_out {os:List (Option Ob)} {L:List It} {n:Nat} {F:Nat→Nat→AV} (hn:n=L.length) (h:∀ i k,i<n→k<4→Ent os (F i k) (atL (L.getD i (.int 0)).cells k)) :
  Ent os (.agg [.int .i64 3,.int .i64 0,.nsl,.isl 4 n F]) (lsI L).av:=by
 subst hn
 exact Ent.agg ⟨Ent.refl _,Ent.refl _,Ent.nsl,Ent.islE (fun i j hi hj=>⟨h i j hi hj,It.cl_at _ j hj⟩),trivial⟩
theorem byt_root {os:List (Option Ob)} (n:Nat) {f g:Nat→Int} (h:∀ i,i<n→f i=g i):EntL os [.int .i64 2,.int .i64 0,.isl 1 n fun i _=>.int .u8 (f i),.nsl] (It.byt n g).cells :=
 ⟨Ent.refl _,Ent.refl _,Ent.isl fun i _ hi _=>congrArg (AV.int .u8) (h i hi),Ent.nsl,trivial⟩
theorem crtF_ok {os:List (Option Ob)} {b:Bas} {a z sa sb:Int} {root:Nat→Int} {x:Nat} (hx:x=7) {i k:Nat} (hi:i<x+4) :
  Ent os (mixA (Nat.blt (i+0) x) (atL (It.int (crtL b a (i+0))).cells k)
   (atL (List.getD [[AV.int IntKind.i64 (2:Int),AV.int IntKind.i64 (0:Int),AV.isl 1 32 fun (r _:Nat)=>AV.int IntKind.u8 (intOfAV (atL (u8c root) (0+(0+r)))),AV.nsl],(It.int z).cells,(It.int sa).cells,(It.int sb).cells] (i+0 - x) []) k))
   (atL ((crtJ b a root z sa sb).getD i (.int 0)).cells k):=by
 subst hx
 match i,hi with
 | 0,_|1,_|2,_|3,_|4,_|5,_|6,_=>exact Ent.of_eq (mixA_tt _ _)
 | 7,_ =>
  show Ent os (mixA false _ _) _
  rw [mixA_ff]
  refine Ent.atL (byt_root 32 fun i hi=>?_) k
  simp_all [Nat.zero_add,u8c_at]
 | 8,_|9,_|10,_=>exact Ent.of_eq (mixA_ff _ _)
theorem rcrtF_ok {os:List (Option Ob)} {b:Bas} {a z sa sb:Int} {root:Nat→Int} {x y:Nat} (hx:x=6) (hy:y=32) {i k:Nat} (hi:i<x+5) :
  Ent os (mixA (Nat.blt (i+0) x) (atL (It.int (crtL b 0 (i+0))).cells k)
   (atL (List.getD [(It.int a).cells,[AV.int IntKind.i64 (2:Int),AV.int IntKind.i64 (0:Int),AV.isl 1 y fun (r _:Nat)=>AV.int IntKind.u8 (root (r+0)),AV.nsl],(It.int z).cells,(It.int sa).cells,(It.int sb).cells] (i+0 - x) []) k))
   (atL ((crtJ b a root z sa sb).getD i (.int 0)).cells k):=by
 subst hx;subst hy
 match i,hi with
 | 0,_|1,_|2,_|3,_|4,_|5,_=>exact Ent.of_eq (mixA_tt _ _)
 | 7,_ =>
  show Ent os (mixA false _ _) _
  rw [mixA_ff]
  exact Ent.atL (byt_root 32 fun i hi=>rfl) k
 | 6,_|8,_|9,_|10,_=>exact Ent.of_eq (mixA_ff _ _)
theorem root_push {os:List (Option Ob)} {y y':Nat} {root c:Nat→Int} (hy:y'=y+1) (h:c 0=root y) :
  ObEnt os ⟨1,y+1,true,.fn fun i j=>.int .u8 (bif Nat.blt i y then root i else c j)⟩ ⟨1,y',true,.fn fun i _=>.int .u8 (root i)⟩:=by
 subst hy
 refine ⟨rfl,rfl,rfl,fun i j hi hj=>Ent.of_eq ?_⟩
 have hi:i<y+1:=hi
 obtain rfl:j=0:=Nat.lt_one_iff.1 hj
 show AV.int .u8 (bif Nat.blt i y then root i else c 0)=.int .u8 (root i)
 by_cases e:i<y
 ·grind [blt_t]
 grind
theorem rootc_at {root:Nat→Int} {y:Nat} (hy:y<32):intOfAV (atL [AV.int .u8 (intOfAV (atL (u8c root) (0+toNat (y:Int))))] 0)=root y:=by
 show intOfAV (atL (u8c root) (0+toNat (y:Int)))=_
 simp_all [Nat.zero_add,Int.toNat_natCast,u8c_at]
theorem crtI_ok (b:Bas) (a z sa sb:Int) (root:Nat→Int):(crtI b a root z sa sb).okD 8=true:=by rfl
theorem crtI_len (b:Bas) (a z sa sb:Int) (root:Nat→Int):(crtI b a root z sa sb).enc.length=132:=by rfl
theorem crtI_okB {b:Bas} {a z sa sb:Int} {root:Nat→Int} (h:byB root 32):(crtI b a root z sa sb).okB:=fun i hi=>by
 have hi:i<11:=hi
 match i,hi with
 | 0,_|1,_|2,_|3,_|4,_|5,_|6,_|8,_|9,_|10,_=>exact trivial
 | 7,_=>exact h
def crtC (b:Bas) (a:Int) (root:Nat→Int) (z sa sb:Int):Int:=bif crtE b a z sa sb==0 then crtN b a root z sa sb else 0
def crtV (b:Bas) (a:Int) (root:Nat→Int) (z sa sb:Int):AV:=.tup [.int .i64 (crtC b a root z sa sb),.int .i64 (crtE b a z sa sb)]
theorem crtE_1 {b:Bas} {a z sa sb:Int} (h:validB b=false):crtE b a z sa sb=1:=by grind [crtE]
theorem crtE_2 {b:Bas} {a z sa sb:Int} (h:validB b=true) (h':elemB b.gr a=false∨elsB b.gr z sa sb=false):crtE b a z sa sb=2:=by grind [elemB,elsB,crtE]
theorem crtE_3 {b:Bas} {a z sa sb:Int} (h:validB b=true) (h':elemB b.gr a=true∧elsB b.gr z sa sb=true):crtE b a z sa sb=0:=by grind [crtE]
theorem crtE_0 {b:Bas} {a z sa sb:Int} (h:crtE b a z sa sb=0):validB b=true∧elemB b.gr a=true∧elsB b.gr z sa sb=true:=by
 cases hv:validB b with
 | false=>grind [crtE_1]
 | true =>
  cases ha:elemB b.gr a with
  | false=>grind [crtE_2]
  | true =>
   cases hs:elsB b.gr z sa sb with
   | false=>rw [crtE_2 hv (.inr hs)] at h;cases h
   | true=>exact ⟨rfl,rfl,rfl⟩
theorem crtC_n {b:Bas} {a z sa sb:Int} {root:Nat→Int} (e:crtE b a z sa sb=0):crtC b a root z sa sb=crtN b a root z sa sb:=by grind [crtC]
theorem crt_1 {b:Bas} {a z sa sb:Int} {root:Nat→Int} (h:validB b=false):AV.tup [.int .i64 0,.int .i64 1]=crtV b a root z sa sb:=by grind [crtV,crtC,crtE_1]
theorem crt_2 {b:Bas} {a z sa sb:Int} {root:Nat→Int} (h:validB b=true) (h':elemB b.gr a=false∨elsB b.gr z sa sb=false):AV.tup [.int .i64 0,.int .i64 2]=crtV b a root z sa sb:=by grind [crtV,crtC,crtE_2]
theorem crt_3 {b:Bas} {a z sa sb:Int} {root:Nat→Int} (h:validB b=true) (h':elemB b.gr a=true∧elsB b.gr z sa sb=true):AV.tup [.int .i64 (crtN b a root z sa sb),.int .i64 0]=crtV b a root z sa sb:=by grind [crtV,crtC,crtE_3]
theorem crtN_q {b:Bas} {a z sa sb:Int} {root:Nat→Int} (h:b.gr.Ok):0≤crtN b a root z sa sb∧crtN b a root z sa sb<b.gr.q:=num_by (by have:=h.q3;omega) 16
end Go.Sp
namespace Go.Sp
open Go Go.Am
def scaB (G:Grp) (x:Int):Bool:=decide (x≥0)&&decide (x<G.q)
def eqsB (b:Bas) (h a z sa sb r c:Int):Bool :=
 (b.gr.g^r.toNat%b.gr.p==h^c.toNat%b.gr.p*sa%b.gr.p)&&(a^r.toNat%b.gr.p==z^c.toNat%b.gr.p*sb%b.gr.p)
def verR (b:Bas) (h h1 h2 a:Int) (root:Nat→Int) (z sa sb r:Int):Bool :=
 keyB b h h1 h2&&msgB b.gr a&&elsB b.gr z sa sb&&scaB b.gr r&&(crtN b a root z sa sb != 0&&eqsB b h a z sa sb r (crtN b a root z sa sb))
theorem msg_el {G:Grp} {x:Int} (h:msgB G x=true):elemB G x=true:=by simp_all [msgB,Bool.and_eq_true]
theorem msg_bnd {G:Grp} (hG:G.Ok) {x:Int} (h:msgB G x=true):0≤x∧x<G.p:=by have:=elem_bnd hG (msg_el h);omega
theorem el_bnd {G:Grp} (hG:G.Ok) {x:Int} (h:elemB G x=true):0≤x∧x<G.p:=by have:=elem_bnd hG h;omega
theorem key_1 {b:Bas} {h0 k1 k2:Int} (h:keyB b h0 k1 k2=true):validB b=true∧msgB b.gr h0=true:=by simp_all [keyB,Bool.and_eq_true]
theorem els_1 {G:Grp} {z sa sb:Int} (h:elsB G z sa sb=true):elemB G z=true∧elemB G sa=true∧elemB G sb=true:=by simp_all [elsB,Bool.and_eq_true]
structure SigOk (b : Bas) (h0 a z sa sb r c : Int) : Prop where
  ok : b.gr.Ok
  g : 0 ≤ b.gr.g ∧ b.gr.g < b.gr.p
  h : 0 ≤ h0 ∧ h0 < b.gr.p
  a : 0 ≤ a ∧ a < b.gr.p
  z : 0 ≤ z ∧ z < b.gr.p
  sa : 0 ≤ sa ∧ sa < b.gr.p
  sb : 0 ≤ sb ∧ sb < b.gr.p
  r : 0 ≤ r ∧ r < b.gr.q
  c : 0 ≤ c ∧ c < b.gr.q
theorem sig_ok {b:Bas} {h0 k1 k2 a z sa sb r:Int} (root:Nat→Int) (hk:keyB b h0 k1 k2=true) (hm:msgB b.gr a=true) (he:elsB b.gr z sa sb=true) (hr:0≤r∧r<b.gr.q):SigOk b h0 a z sa sb r (crtN b a root z sa sb):=by
 have G:=validB_ok (key_1 hk).1
 have h1:=G.g2
 exact ⟨G,⟨by omega,G.g1⟩,msg_bnd G (key_1 hk).2,msg_bnd G hm,el_bnd G (els_1 he).1,el_bnd G (els_1 he).2.1,el_bnd G (els_1 he).2.2,hr,crtN_q G⟩
theorem sig_okC {b:Bas} {h0 k1 k2 a z sa sb r:Int} (root:Nat→Int) (hk:keyB b h0 k1 k2=true) (hm:msgB b.gr a=true) (he:crtE b a z sa sb=0) (hr:0≤r∧r<b.gr.q):SigOk b h0 a z sa sb r (crtC b a root z sa sb):=by
 rw [crtC_n he]
 exact sig_ok root hk hm (crtE_0 he).2.2 hr
theorem ver_0 {b:Bas} {h0 k1 k2 a z sa sb r:Int} {root:Nat→Int} (h:keyB b h0 k1 k2=false∨msgB b.gr a=false∨elsB b.gr z sa sb=false∨scaB b.gr r=false):verR b h0 k1 k2 a root z sa sb r=false:=by grind [verR]
theorem ver_c {b:Bas} {h0 k1 k2 a z sa sb r:Int} {root:Nat→Int} (hk:keyB b h0 k1 k2=true) (hm:msgB b.gr a=true) (hc:crtE b a z sa sb≠0∨crtC b a root z sa sb=0):verR b h0 k1 k2 a root z sa sb r=false:=by
 cases he:elsB b.gr z sa sb with
 | false=>grind [ver_0]
 | true =>
  have e:=crtE_3 (key_1 hk).1 ⟨msg_el hm,he⟩
  grind [absurd,crtC_n,verR]
theorem ver_e {b:Bas} {h0 k1 k2 a z sa sb r:Int} {root:Nat→Int} (hk:keyB b h0 k1 k2=true) (hm:msgB b.gr a=true) (hr:0≤r∧r<b.gr.q) (he:crtE b a z sa sb=0) (hc:crtC b a root z sa sb≠0) :
  verR b h0 k1 k2 a root z sa sb r=eqsB b h0 a z sa sb r (crtC b a root z sa sb):=by
 rw [crtC_n he] at hc ⊢
 unfold verR scaB
 simp [hk,hm,(crtE_0 he).2.2,hr.1,hr.2,hc]
theorem ver_r {b:Bas} {h0 k1 k2 a z sa sb r:Int} {root:Nat→Int} (hk:keyB b h0 k1 k2=true) (hm:msgB b.gr a=true) (he:elsB b.gr z sa sb=true) (hr:0≤r∧r<b.gr.q) :
  verR b h0 k1 k2 a root z sa sb r=(crtN b a root z sa sb != 0&&eqsB b h0 a z sa sb r (crtN b a root z sa sb)):=by grind [verR,scaB]
theorem mod_bnd {G:Grp} (h:G.Ok) (x:Int):0≤x%G.p∧x%G.p<G.p:=by
 have h3:=h.p3
 exact ⟨Int.emod_nonneg _ (by omega),Int.emod_lt_of_pos _ (by omega)⟩
theorem sca_0 {G:Grp} {r:Int} (h:¬r≥0∨¬r<G.q):scaB G r=false:=by grind [scaB]
end Go.Sp

namespace Go.Sp
open Go.IntKind (wrap)
open Int (toNat)
open Go Go.Am
def coinV (b:Bas) (r:Rcd) (c:Coin):Bool :=
 rcvB b r&&c.bank==r.bank&&c.epoch==r.epoch&&c.denom==r.denom&&c.depth==r.depth&&verR b r.h r.h1 r.h2 c.a c.root c.z c.sa c.sb c.r
def lvB (n:Int):Bool:=decide (firstI (fun i=>n==(2^i:Nat)) 6 0≥0)
theorem lvB_f:∀ d:Fin 6,lvB ((2^d.1:Nat):Int)=true:=by decide +kernel
theorem lvB_d {d:Nat} (h:d≤5):lvB ((2^d:Nat):Int)=true:=lvB_f ⟨d,by omega⟩
theorem hsl_out {os:List (Option Ob)} {n m:Nat} {F:Nat→Nat→Int} (hn:m=n):Ent os (.isl 32 m fun r k=>atL (u8c (F r)) k) (hsl n F):=by
 subst hn
 exact Ent.isl fun i j _ hj=>atL_map_range (es:=32) (g:=fun j=>AV.int .u8 (F i j)) hj
theorem tup2_out {os:List (Option Ob)} {a b:AV} {v:AV} (h:Ent os a b):Ent os (.tup [a,v]) (.tup [b,v]):=Ent.tup ⟨h,Ent.refl _,trivial⟩
def prdF (G:Grp) (f e:Nat→Int):Nat→Int
 | 0=>1
 | x+1=>prdF G f e x*(f x^(e x).toNat%G.p)%G.p
theorem elem_one {G:Grp} (h:G.Ok):elemB G 1=true:=(elem_iff h).2 ⟨Int.le_refl _,by have:=h.p3;omega,by rw [Int.one_pow];exact Int.emod_eq_of_lt (by decide) (by have:=h.p3;omega)⟩
theorem elem_prd {G:Grp} (h:G.Ok) {f e:Nat→Int} {n:Nat} (hf:∀ i,i<n→elemB G (f i)=true):∀ x,x≤n→elemB G (prdF G f e x)=true
 | 0,_=>elem_one h
 | x+1,hx=>elem_mul h (elem_prd h hf x (by omega)) (elem_pow h (hf x (by omega)) _)
def pr2 (G:Grp) (a b x y:Int):Int:=a^x.toNat%G.p*(b^y.toNat%G.p)%G.p
def sel2 (a b:Int) (i:Nat):Int:=[a,b].getD i 0
theorem prd_2 {G:Grp} (h:G.Ok) {f e:Nat→Int}:prdF G f e 2=pr2 G (f 0) (f 1) (e 0) (e 1):=by
 show (1*(f 0^(e 0).toNat%G.p)%G.p)*(f 1^(e 1).toNat%G.p)%G.p=_
 rw [Int.one_mul,Int.emod_eq_of_lt (mod_bnd h _).1 (mod_bnd h _).2]
 rfl
theorem sel_isl {os:List (Option Ob)} {a b:Int}:Ent os (.isl 1 2 fun r k=>atL (List.getD [[.int .i64 a],[.int .i64 b]] r []) k) (.isl 1 2 fun i _=>.int .i64 (sel2 a b i)):=Ent.isl fun i j hi hj=>by
 obtain rfl:j=0:=Nat.lt_one_iff.1 hj
 match i,hi with|0,_|1,_=>rfl
def chk2 (b:Bas) (y r1 r2:Int):Bool:=scaB b.gr r1&&scaB b.gr r2&&(pr2 b.gr b.g1 b.g2 r1 r2==y)
theorem fst_no {p:Nat→Bool} {n:Nat} (h:∀ i,i<n→p i=false):decide (firstI p n 0≥0)=false:=by simp_all [firstI_neg,List.any_eq_false,Nat.zero_add,List.mem_range]
theorem fst_2 {p:Nat→Bool}:decide (firstI p 2 0≥0)=(p 0||p 1):=by
 rw [firstI_neg]
 grind
theorem sca_iff {G:Grp} {r:Int}:scaB G r=true↔0≤r∧r<G.q:=by simp [scaB]
theorem sca_sel {G:Grp} {a c:Int} (h:scaB G a=true∧scaB G c=true):∀ i,i<2→0≤sel2 a c i∧sel2 a c i<G.q:=fun i hi=>match i,hi with
 | 0,_=>sca_iff.1 h.1
 | 1,_=>sca_iff.1 h.2
def pr2V (b:Bas) (r1 r2:Int):Int:=bif scaB b.gr r1&&scaB b.gr r2 then pr2 b.gr b.g1 b.g2 r1 r2 else 0
def pr2E (b:Bas) (r1 r2:Int):Int:=bif scaB b.gr r1&&scaB b.gr r2 then 0 else 2
theorem pr2_no {b:Bas} {r1 r2:Int} (h:scaB b.gr r1=false∨scaB b.gr r2=false):pr2V b r1 r2=0∧pr2E b r1 r2=2:=by
 have e:(scaB b.gr r1&&scaB b.gr r2)=false:=by grind
 unfold pr2V pr2E;grind
theorem pr2_ok {b:Bas} {r1 r2:Int} (h:scaB b.gr r1=true∧scaB b.gr r2=true):pr2V b r1 r2=pr2 b.gr b.g1 b.g2 r1 r2∧pr2E b r1 r2=0:=by
 unfold pr2V pr2E;rw [h.1,h.2];exact ⟨rfl,rfl⟩
theorem chk2_eq {b:Bas} {y r1 r2:Int}:(pr2E b r1 r2==0&&pr2V b r1 r2==y)=chk2 b y r1 r2:=by grind [chk2,scaB,pr2_no,pr2_ok]
theorem sca_n {G:Grp} {e:Int}:(decide (e<0)||decide (e≥G.q)) = !scaB G e:=by grind [scaB]
def leafB (b:Bas) (a k x r1 r2:Int):Bool:=elemB b.gr x&&chk2 b (a^k.toNat%b.gr.p*x%b.gr.p) r1 r2
theorem leaf_no {b:Bas} {a k x r1 r2:Int} (h:(elemB b.gr x=false∨scaB b.gr r1=false)∨scaB b.gr r2=false):leafB b a k x r1 r2=false:=by grind [leafB,chk2]
theorem leaf_eq {b:Bas} {a k x r1 r2:Int} (h:(elemB b.gr x=true∧scaB b.gr r1=true)∧scaB b.gr r2=true):(b.g1^r1.toNat%b.gr.p*(b.g2^r2.toNat%b.gr.p)%b.gr.p==a^k.toNat%b.gr.p*x%b.gr.p)=leafB b a k x r1 r2:=by
 unfold leafB chk2;rw [h.1.1,h.1.2,h.2];rfl
end Go.Sp
