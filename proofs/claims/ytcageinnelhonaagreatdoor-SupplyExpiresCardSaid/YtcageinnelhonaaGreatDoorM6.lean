/- Part of the proof: AV2, AV3, AV4, AV8, AV9, AV10, AV11, AV12, AV13, AX11, AX12, Iss, AX13, Iss2, AX14, Spt2, Bnk2, AX20, AV14, AV15, AV16, Bnk3, AX21, Bnk4, AX22, AX23, Bnk5, AX24, AX15, AX16, AX17, AX18, Led2, AX19, AV17. -/
import Derived.Test.YtcageinnelhonaaGreatDoorM3
import Derived.Test.YtcageinnelhonaaGreatDoorM5
import Derived.Test.YtcageinnelhonaaGreatDoorProg
import Derived.Test.YtcageinnelhonaaGreatDoorM4
namespace Go.Proofs.YtcageinnelhonaaGreatDoor
open Go.IntKind (wrap)
open Int (toNat)
open Go Go.Am Go.Sp
set_option maxRecDepth 100000
def cL:Code→Code|.seq a _=>a|c=>c
def cR:Code→Code|.seq _ b=>b|c=>c
def cI:Code→Code|.block _ a=>a|.loop a=>a|c=>c
def cO:Code→Array Oper|.region _ o _=>o|_ => #[]
noncomputable def itC:Code:=Tryz.f397.body.getD .skip
noncomputable def itB:Code:=cI (cI (cR itC))
noncomputable def itR1:Code:=cL (cL itB)
noncomputable def itR2:Code:=cR (cR itB)
noncomputable def itK:Code:=cI (cL (cR itB))
noncomputable def itR3:Code:=cL itK
noncomputable def itR4:Code:=cL (cR itK)
theorem it_shape:itC=.seq (cL itC) (.block 0 (.loop (.seq (.seq itR1 (.cond (.tmp 9) .skip (.exit 0))) (.seq (.block 1 (.seq itR3 (.seq itR4 (.cond (.tmp 30) .ret .skip)))) itR2)))):=by kernel_rfl
def slT:Option Op→TypeId|some (.slice t ..)=>t|_=>0
def elT:Option TypeDesc→TypeId|some (.slice t)=>t|_=>0
noncomputable def itS:TypeId:=slT ((cO itR4)[9]?.map (·.op))
noncomputable def itE:TypeId:=elT (Tryz.prog.underlying itS)
theorem it_r4:itR4=.region 4 (cO itR4) false:=by kernel_rfl
theorem it1 (N k:Nat) (_:N≤4000) (h:Nat→Nat→Int):Round Tryz.prog gl0 ow0 0 31 itR1 (mkSt [1,2,4] [.ipt 1 fun _=>hsl N h,.ipt 1 fun _=>.int .i64 2,.int .i64 k] []) (mkSt [9] [.bool (decide ((k:Int)<N))] []):=by
 refine round_sk (own:=ow0)
  (let y0:List AV:=[.bool (decide ((k:Int)<(N:Int)))];(.again (fun (u:ASt)=>Le 0 u (mkSt [9] y0 [])) [9] [] (y0) []))
  (by kernel_rfl) ?_
 exact k_againR (fun _ hs=>hs.le (⟨.refl _,trivial⟩) (trivial))
theorem it3 (N k:Nat) (hN:N≤4000) (h:Nat→Nat→Int) (hk:k+2≤N):Round Tryz.prog gl0 ow0 0 31 itR3 (mkSt [1,2,4] [.ipt 1 fun _=>hsl N h,.ipt 1 fun _=>.int .i64 2,.int .i64 k] []) (mkSt [5] [.int .i64 2] []):=by
 refine round_sk (own:=ow0)
  (let z0:Int:=(↑(N - toNat (k:Int)):Int);(.req (0≤(k:Int)∧(k:Int)≤(N:Int)) (.again (fun (u:ASt)=>Le 0 u (mkSt [5] [Zi 2] [])) [5] [] [Zi (if z0<2 then z0 else (2:Int))] [])))
  (by kernel_rfl) ?_
 refine k_req (by omega) ?_
 exact k_againR (fun _ hs=>hs.le (⟨.of_eq (congrArg _ (by omega)),trivial⟩) (trivial))
theorem it4 (y u:Value) (k:Nat) (hk:k≤4000):Round Tryz.prog gl0 ow0 0 31 (.region 4 ((cO itR4).extract 0 9) false) (mkSt [0,1,4,5] [.raw y,.ipt 1 fun _=>.raw u,.int .i64 k,.int .i64 2] []) (mkSt [19,20,21,24,27] [.raw y,.raw u,.int .i64 k,.int .i64 (k+2),.int .i64 (k+2)] []):=by
 refine round_sk (own:=ow0)
  (.again (fun (u_1:ASt)=>Le 0 u_1 (mkSt [19,20,21,24,27] [AV.raw y,AV.raw u,Zi k,Zi ((k:Int)+2),Zi ((k:Int)+2)] [])) [19,20,21,24,27] [] [AV.raw y,AV.raw u,Zi k,Zi (wrap .i64 ((k:Int)+2)),Zi (wrap .i64 ((k:Int)+2))] [])
  (by kernel_rfl) ?_
 exact k_againR (fun _ hs=>hs.le (⟨.refl _,.refl _,.refl _,inc_ent (by omega),inc_ent (by omega),trivial⟩) (trivial))
theorem it2 (k:Nat) (hk:k≤4000):Round Tryz.prog gl0 ow0 0 31 itR2 (mkSt [2,4] [.ipt 1 fun _=>.int .i64 2,.int .i64 k] []) (mkSt [4] [.int .i64 (k+2)] []):=by
 refine round_sk (own:=ow0)
  (.again (fun (u:ASt)=>Le 0 u (mkSt [4] [Zi ((k:Int)+2)] [])) [4] [] [Zi (wrap .i64 ((k:Int)+2))] [])
  (by kernel_rfl) ?_
 exact k_againR (fun _ hs=>hs.le (⟨inc_ent (by omega),trivial⟩) (trivial))
theorem it0:Round Tryz.prog gl0 ow0 0 31 (cL itC) (mkSt [] [] []) (mkSt [4] [.int .i64 0] []):=by
 refine round_sk (own:=ow0)
  (.again (fun (u:ASt)=>Le 0 u (mkSt [4] [Zi 0] [])) [4] [] [Zi 0] [])
  (by kernel_rfl) ?_
 exact k_againR (fun _ hs=>hs.le (⟨.refl _,trivial⟩) (trivial))
theorem chunk_iter (N:Nat) (hN:1≤N) (hN':N≤1000) (h:Nat→Nat→Int):Iter Tryz.prog gl0 397 [.ipt 1 fun _=>hsl (2*N) h,.ipt 1 fun _=>.int .i64 2] N (fun k=>hsl 2 fun r=>h (2*k.1+r)) :=
 chunk_of (own:=ow0) (tS:=itS) (tE:=itE) hN Tryz.func397 (by kernel_rfl:_=some itC) (by kernel_rfl) (by kernel_rfl) (by kernel_rfl) mixed it_shape it_r4 (by kernel_rfl) (by kernel_rfl) (by kernel_rfl) (by kernel_rfl) (by kernel_rfl) (by kernel_rfl) (by kernel_rfl)
  (by kernel_rfl) (by kernel_rfl) (by kernel_rfl) (by kernel_rfl) (by kernel_rfl) it0 (fun k hk=>it1 (2*N) k (by omega) h) (fun k hk=>it3 (2*N) k (by omega) h hk) (fun y u k hk=>it4 y u k (by omega)) (fun k hk=>it2 k (by omega))
theorem chunk_c (N:Nat) (_':N≤1000) (h:Nat→Nat→Int):Pure Tryz.prog gl0 392 [hsl N h,.int .i64 2] (.fn (.func 397) [] [.ipt 1 fun _=>hsl N h,.ipt 1 fun _=>.int .i64 2]):=by
 exact pz Tryz.func392 (by
  apply n_ff
  exact n_out (fn2_ent ipt1_ent ipt1_ent))
def rA:Code→Code|.rangeFunc _ _ a _=>a|c=>c
def rB:Code→Code|.rangeFunc _ _ _ b=>b|c=>c
noncomputable def lvX:Code:=cI (cR (cI (cI (cL (cR (cR (Tryz.f381.body.getD .skip)))))))
noncomputable def lvF:Code:=cI (cR (cL (cR lvX)))
theorem lv_shape:lvF=.rangeFunc (.tmp 12) #[13] (.region 5 (cO (rA lvF)) false) (rB lvF):=by rfl
theorem gl0_nm:NMG gl0:=by
 intro g m f hg
 unfold gl0 at hg
 cases e0:Nat.beq g 0 with
 | true=>rw [e0] at hg;simp only [cond_true,Option.some.injEq,Prod.mk.injEq] at hg;obtain ⟨rfl,rfl⟩:=hg;exact .ipt fun _ _=>.int
 | false =>
 cases e1:Nat.beq g 1 with
 | true=>rw [e0,e1] at hg;simp only [cond_true,cond_false,Option.some.injEq,Prod.mk.injEq] at hg;obtain ⟨rfl,rfl⟩:=hg;exact .ipt fun _ _=>.int
 | false =>
 cases e2:Nat.beq g 4 with
 | true=>rw [e0,e1,e2] at hg;simp only [cond_true,cond_false,Option.some.injEq,Prod.mk.injEq] at hg;obtain ⟨rfl,rfl⟩:=hg;exact .ipt fun _ _=>.int
 | false =>
 cases e3:Nat.beq g 5 with
 | true=>rw [e0,e1,e2,e3] at hg;simp only [cond_true,cond_false,Option.some.injEq,Prod.mk.injEq] at hg;obtain ⟨rfl,rfl⟩:=hg;exact .ipt fun _ _=>.int
 | false=>grind
theorem hsl_nm (n:Nat) (h:Nat→Nat→Int):NM (hsl n h):=.isl fun _ _ _ _=>.int
theorem lv_round (N m:Nat) (C:Nat→Nat) (F:Nat→Nat→Nat→Int) (h:Nat→Nat→Int) (hb:∀ i,i<2*N→byB (h i) 32) (pre:List (Fin N)) (x:Fin N) (hp:pre.length<N) (hN:N≤1000) :
  Round Tryz.prog gl0 ow0 0 32 (rB lvF) (mkSt [5,13,3,4,12] [hsl 2 fun r=>h (2*x.1+r),hsl 2 fun r=>h (2*x.1+r),.osl 0 1 0 m,.own 1 1 0 0 1,.fn (.func 397) [] [.ipt 1 fun _=>hsl (2*N) h,.ipt 1 fun _=>.int .i64 2]] [some ⟨1,m,true,.row fun i=>[hsl (C i) (F i)]⟩,some ⟨1,1,true,.lst [[.osl 2 32 0 pre.length]]⟩,some ⟨32,pre.length,true,.fn fun r j=>.int .u8 (rowP h pre r j)⟩]) (mkSt [3,4,12] [.osl 0 1 0 m,.own 1 1 0 0 1,.fn (.func 397) [] [.ipt 1 fun _=>hsl (2*N) h,.ipt 1 fun _=>.int .i64 2]] [some ⟨1,m,true,.row fun i=>[hsl (C i) (F i)]⟩,some ⟨1,1,true,.lst [[.osl 2 32 0 (pre++[x]).length]]⟩,some ⟨32,(pre++[x]).length,true,.fn fun r j=>.int .u8 (rowP h (pre++[x]) r j)⟩]):=by
 refine round_sk (own:=ow0)
  (.req ((0:Int)≤0∧(0:Int)<2) (.req ((0:Int)≤1∧(1:Int)<2) (.sc true 358 [.agg (u8c (h (2*x.1+0))),.agg (u8c (h (2*x.1+1)))] (.agg (u8c (nodeF (h (2*(↑x:Nat)+0)) (h (2*(↑x:Nat)+1))))) (.req ((List.length pre+1)*32≤140737488355328) (.again (fun (u:ASt)=>Le 0 u (mkSt [3,4,12] [.osl 0 1 0 m,.own 1 1 0 0 1,AV.fn (Fn.func (397:FuncId)) [] [AV.ipt 1 fun x=>hsl (2*N) h,AV.ipt 1 fun x=>Zi 2]] [some ⟨1,m,true,Rep.row fun i=>[hsl (C i) (F i)]⟩,some ⟨1,1,true,.lst [[.osl 2 32 0 (List.length (pre++[x]))]]⟩,some ⟨32,List.length (pre++[x]),true,.fn fun r j=>Zb (rowP h (pre++[x]) r j)⟩])) [3,4,12] [0,1,75] [.osl 0 1 0 m,.own 1 1 0 0 1,AV.fn (Fn.func (397:FuncId)) [] [AV.ipt 1 fun x=>.isl 32 (2*N) fun i j=>Zb (h i j),AV.ipt 1 fun x=>Zi 2]] [some ⟨1,m,true,Rep.row fun i=>[.isl 32 (C i) fun i_1 j=>Zb (F i i_1 j)]⟩,some ⟨1,1,true,.lst [[.osl 2 32 0 (List.length pre+1)]]⟩,some ⟨32,List.length pre+1,true,.fn fun i j=>Zb (bif Nat.blt i (List.length pre) then rowP h pre i j else intOfAV (atL (u8c (nodeF (h (2*x.1+0)) (h (2*x.1+1)))) j))⟩])))))
  (by kernel_rfl) ?_
 refine k_req (by omega) ?_
 refine k_req (by omega) ?_
 refine k_sc ((inner_c (h ((2:Nat)*(↑x:Nat)+(0:Nat))) (h ((2:Nat)*(↑x:Nat)+(1:Nat)))) (hb _ (by omega)) (hb _ (by omega))) ?_
 refine k_req (by omega) ?_
 exact k_againR (fun _ hs=>hs.le (⟨Ent.refl _,Ent.refl _,Ent.refl _,trivial⟩) (⟨⟨rfl,rfl,rfl,fun _ _ _ _=>Ent.refl _⟩,ObEnt.row ⟨Ent.of_eq (by simp),trivial⟩,rowP_ob,trivial⟩))
theorem reverse_g (m:Nat) (h1:1≤m) (hm:m≤100) (C:Nat→Nat) (F:Nat→Nat→Nat→Int):Gives Tryz.prog gl0 393 [⟨1,m,true,.row fun i=>[hsl (C i) (F i)]⟩] [.osl 0 1 0 m] (.tup []) [some ⟨1,m,true,.row fun i=>[hsl (C (m - 1 - i)) (F (m - 1 - i))]⟩]:=by
 exact gz ow0 Tryz.func393 (by
  apply n_loopx ({ x:Nat // x≤m / 2 }) [0,2,3] [0] (fun x=>[.osl 0 1 0 m,Zi x.1,Zi ((m:Int) - 1 - (↑(x.1):Int))]) (fun x=>[some ⟨1,m,true,Rep.row fun i=>[hsl (C (revI m (x.1) i)) (F (revI m (x.1) i))]⟩]) (fun x=>m / 2 - x.1) (⟨0,Nat.zero_le (m / 2)⟩) [.osl 0 1 0 m,Zi 0,Zi (wrap .i64 ((m:Int) - 1))] [some ⟨1,m,true,Rep.row fun i=>[.isl 32 (C i) fun i_1 j=>Zb (F i i_1 j)]⟩] (⟨Ent.refl _,by exact Ent.refl _,Ent.of_eq (congrArg (AV.int .i64) (by grind [wI])),trivial⟩) (by exact ⟨rev_eq C F (fun i=>i) (revI m 0) (fun i hi=>rev_0 hi),trivial⟩)
  intro x0
  try (have q0:=x0.2;dsimp only at q0)
  apply n_bd ((x0.1:Int)<(m:Int) - 1 - (x0.1:Int))
  ·intro g1
   apply n_req (0≤(m:Int) - 1 - (x0.1:Int)∧(m:Int) - 1 - (x0.1:Int)<(m:Int))
   apply n_req (0≤(x0.1:Int)∧(x0.1:Int)<(m:Int))
   apply n_req (0≤(x0.1:Int)∧(x0.1:Int)<(m:Int))
   apply n_req (0≤(m:Int) - 1 - (x0.1:Int)∧(m:Int) - 1 - (x0.1:Int)<(m:Int))
   exact n_againx [0] (⟨x0.1+1,by omega⟩) [.osl 0 1 0 m,Zi (wrap .i64 ((x0.1:Int)+1)),Zi (wrap .i64 ((m:Int) - 1 - (x0.1:Int) - 1))] [some ⟨1,m,true,Rep.put (toNat ((m:Int) - 1 - (x0.1:Int))+0) [.isl 32 (C (revI m x0.1 (toNat (x0.1:Int)+0))) fun i j=>Zb (F (revI m x0.1 (toNat (x0.1:Int)+0)) i j)] (Rep.put (toNat (x0.1:Int)+0) [.isl 32 (C (revI m x0.1 (toNat ((m:Int) - 1 - (x0.1:Int))+0))) fun i j=>Zb (F (revI m x0.1 (toNat ((m:Int) - 1 - (x0.1:Int))+0)) i j)] (Rep.row fun i=>[.isl 32 (C (revI m x0.1 i)) fun i_1 j=>Zb (F (revI m x0.1 i) i_1 j)]))⟩] (⟨Ent.refl _,by grind [inc_ent],Ent.of_eq (congrArg (AV.int .i64) (by grind [wI])),trivial⟩) (by exact ⟨rev_step C F (by omega) (by omega) (by omega),trivial⟩)
  ·intro g1
   exact n_outG (.tup []) [some ⟨1,m,true,Rep.row fun i=>[.isl 32 (C (revI m x0.1 i)) fun i_1 j=>Zb (F (revI m x0.1 i) i_1 j)]⟩] (Ent.refl _) (⟨rev_eq C F (revI m x0.1) (fun i=>m - 1 - i) (fun i hi=>rev_all (by omega) x0.2 hi),trivial⟩))
theorem lv_opq (N m:Nat) (C:Nat→Nat) (F:Nat→Nat→Nat→Int) (h:Nat→Nat→Int) (hb:∀ i,i<2*N→byB (h i) 32) (h1:1≤N) (hN:N≤1000):Opq Tryz.prog gl0 0 32 lvF (mkSt [3,4,12] [.osl 0 1 0 m,.own 1 1 0 0 1,.fn (.func 397) [] [.ipt 1 fun _=>hsl (2*N) h,.ipt 1 fun _=>.int .i64 2]] [some ⟨1,m,true,.row fun i=>[hsl (C i) (F i)]⟩,some ⟨1,1,true,.lst [[.osl 2 32 0 0]]⟩,some ⟨32,0,true,.fn fun r j=>.int .u8 (rowP (N:=N) h [] r j)⟩]) (mkSt [3,4,12] [.osl 0 1 0 m,.own 1 1 0 0 1,.fn (.func 397) [] [.ipt 1 fun _=>hsl (2*N) h,.ipt 1 fun _=>.int .i64 2]] [some ⟨1,m,true,.row fun i=>[hsl (C i) (F i)]⟩,some ⟨1,1,true,.lst [[.osl 2 32 0 N]]⟩,some ⟨32,N,true,.fn fun r j=>.int .u8 (rowP h (List.finRange N) r j)⟩]):=by
 have hq:=opq_range (P:=Tryz.prog) (gl:=gl0) (own:=ow0) (ng:=0) (nt:=32) (g:=.tmp 12) (p:=13) (d:=5) (assign:=.region 5 (cO (rA lvF)) false) (body:=rB lvF) (xs:=fun k:Fin N=>hsl 2 fun r=>h (2*k.1+r)) (ns:=[3,4,12]) (vs:=[.osl 0 1 0 m,.own 1 1 0 0 1,.fn (.func 397) [] [.ipt 1 fun _=>hsl (2*N) h,.ipt 1 fun _=>.int .i64 2]]) (obs:=fun pre=>[some ⟨1,m,true,.row fun i=>[hsl (C i) (F i)]⟩,some ⟨1,1,true,.lst [[.osl 2 32 0 pre.length]]⟩,some ⟨32,pre.length,true,.fn fun r j=>.int .u8 (rowP h pre r j)⟩]) (obs1:=[some ⟨1,m,true,.row fun i=>[hsl (C i) (F i)]⟩,some ⟨1,1,true,.lst [[.osl 2 32 0 N]]⟩,some ⟨32,N,true,.fn fun r j=>.int .u8 (rowP h (List.finRange N) r j)⟩])
  rfl (chunk_iter N h1 hN h) (fun x=>.isl fun _ _ _ _=>.int) (fun l a W K hK=>assign_in (by rfl) (by rfl) l a W K hK) (fun pre=>rfl) (fun pre=>.of ⟨.osl,.own,.fn (fun u h=>by cases h) (NML.spec (l:=[_,_]) ⟨.ipt fun _ _=>hsl_nm _ _,.ipt fun _ _=>.int,trivial⟩),trivial⟩ ⟨fun i j _ _=>NML.atL (l:=[_]) ⟨hsl_nm _ _,trivial⟩ j,fun i j hi _=>(by obtain rfl:i=0:=Nat.lt_one_iff.1 hi;exact NML.atL (l:=[_]) ⟨.osl,trivial⟩ j),fun _ _ _ _=>.int,trivial⟩) gl0_nm (by rfl) (fun pre x hp=>lv_round N m C F h hb pre x hp hN) (by simp)
 grind [lv_shape]
def ow7:FuncId→Option (List Bool):=fun f=>bif Nat.beq f 393 then some [true] else none
theorem levels_c (d:Nat) (hd:d≤5) (h:Nat→Nat→Int) (hb:∀ i,i<2^d→byB (h i) 32):Pure Tryz.prog gl0 381 [hsl (2^d) h] (.isl 1 (d+1) fun i _=>hsl (2^(d - (d - i))) (treF h (d - i))):=by
 exact pzo ow7 Tryz.func381 (by
  apply n_loopx ({ x:Nat // x≤d }) [0,3] [16] (fun x=>[hsl (2^(d - x.1)) (treF h (x.1)),.osl 0 1 0 (x.1+1)]) (fun x=>[some ⟨1,x.1+1,true,Rep.row fun i=>[hsl (2^(d - i)) (treF h i)]⟩]) (fun x=>d - x.1) (⟨0,Nat.zero_le d⟩) [.isl 32 (2^d) fun i j=>Zb (h i j),.osl 0 1 0 1] [some ⟨1,1,true,.lst [[.isl 32 (2^d) fun i j=>Zb (h i j)]]⟩] (⟨.refl _,.refl _,trivial⟩) (⟨⟨rfl,rfl,rfl,fun i j hi hj=>Ent.of_eq (by have:i=0:=Nat.lt_one_iff.1 hi;subst this;rfl)⟩,trivial⟩)
  intro x0
  try (have q0:=x0.2;dsimp only at q0)
  have hp:=pow5 (k:=x0.1) hd
  apply n_bd ((↑(2^(d - x0.1)):Int)>1)
  ·intro g1
   apply n_dc (chunk_c (2^(d - x0.1)) (by omega) (treF h x0.1))
   refine n_old (.opq 32 (lvF) [3,4,12] [0,25,8243] [.osl 0 1 0 (x0.1+1),.own 1 1 0 0 1,AV.fn (Fn.func (397:FuncId)) [] [AV.ipt 1 fun x=>.isl 32 (2^(d - x0.1)) fun i j=>Zb (treF h x0.1 i j),AV.ipt 1 fun x=>Zi 2]] [some ⟨1,x0.1+1,true,Rep.row fun i=>[.isl 32 (2^(d - i)) fun i_1 j=>Zb (treF h i i_1 j)]⟩,some ⟨1,1,true,.lst [[.nsl]]⟩,some ⟨32,0,true,.ty (999999999:TypeId) (.lst [])⟩] (mkSt [3,4,12] [.osl 0 1 0 (x0.1+1),.own 1 1 0 0 1,AV.fn (Fn.func (397:FuncId)) [] [AV.ipt 1 fun x=>hsl (2*2^(d - x0.1 - 1)) (treF h (x0.1)),AV.ipt 1 fun x=>Zi 2]] [some ⟨1,x0.1+1,true,Rep.row fun i=>[hsl (2^(d - i)) (treF h i)]⟩,some ⟨1,1,true,.lst [[.osl 2 32 0 (2^(d - x0.1 - 1))]]⟩,some ⟨32,2^(d - x0.1 - 1),true,.fn fun r j=>Zb (rowP (treF h (x0.1)) (List.finRange (2^(d - x0.1 - 1))) r j)⟩]) (.req ((x0.1+1+1)*24≤140737488355328) (.again (Again 0 (fun (x:{ x:Nat // x≤d })=>mkSt [0,3] [hsl (2^(d - x.1)) (treF h (x.1)),.osl 0 1 0 (x.1+1)] [some ⟨1,x.1+1,true,Rep.row fun i=>[hsl (2^(d - i)) (treF h i)]⟩]) (fun (x:{ x:Nat // x≤d })=>d - x.1) x0) [0,3] [27] [.isl 32 (2^(d - x0.1 - 1)) fun r k=>Zb (rowP (treF h x0.1) (List.finRange (2^(d - x0.1 - 1))) (r+0) k),.osl 0 1 0 (x0.1+1+1)] [some ⟨1,x0.1+1+1,true,Rep.cat (x0.1+1) (Rep.row fun i=>[.isl 32 (2^(d - i)) fun i_1 j=>Zb (treF h i i_1 j)]) (.lst [[.isl 32 (2^(d - x0.1 - 1)) fun r k=>Zb (rowP (treF h x0.1) (List.finRange (2^(d - x0.1 - 1))) (r+0) k)]])⟩]))) ?_
   refine k_opq (fun _ hs=>hs.le (by exact ⟨Ent.refl _,Ent.refl _,Ent.of_eq (by rw [pow_dbl (pow_lt g1)]),trivial⟩) (by repeat' (first|exact trivial|(first|exact ObEnt.refl _|exact ObEnt.junk|exact ObEnt.zero|exact ObEnt.push rfl rfl|exact ObEnt.pushRow rfl|exact ObEnt.len (by omega)|exact ObEnt.row (by repeat' (first|exact trivial|(first|exact Ent.refl _|exact inc_ent (by omega)|exact Ent.nil rfl|exact Ent.of_eq (congrArg (AV.osl _ _ _) (by rfl))|exact Ent.of_eq (congrArg (AV.int _) (by rfl)))|refine And.intro ?_ ?_)))|refine And.intro ?_ ?_))) (lv_opq (2^(d - x0.1 - 1)) (x0.1+1) (fun i=>2^(d - i)) (treF h) (treF h x0.1) (fun i hi=>tre_by hb _ _ (by rw [pow_dbl (pow_lt g1)] at hi;have e:=Nat.mul_le_mul_right (2^x0.1) (show i+1≤2^(d - x0.1) from hi);rw [Nat.add_mul,Nat.one_mul,← Nat.pow_add,show d - x0.1+x0.1=d by omega] at e;exact e)) pow_pos2 (by grind [pow5])) ?_
   refine k_req (by omega) ?_
   exact k_again (⟨x0.1+1,pow_lt g1⟩) (fun _ hs=>hs.le (⟨lvl_ent,Ent.refl _,trivial⟩) (⟨ObEnt.catRow rfl (fun _ _=>EntL.refl _) ⟨lvl_ent,trivial⟩,trivial⟩)) (by grind)
  ·intro g1
   apply n_gc (reverse_g (x0.1+1) (by omega) (by omega) (fun (i:Nat)=>2^(d - i)) (treF h))
   exact n_outx (.isl 1 (x0.1+1) fun r k=>atL [.isl 32 (2^(d - (x0.1+1 - 1 - (r+0)))) fun i j=>Zb (treF h (x0.1+1 - 1 - (r+0)) i j)] k) (Ent.islN (by grind [pow_eq]) (fun i j hi hj=>by have hj0:j=0:=Nat.lt_one_iff.1 hj;subst hj0;rw [pow_eq x0.2 g1];rfl)))
abbrev kAV40:List AV:=[AV.agg [Zb 0,Zb 0,Zb 0,Zb 0,Zb 0,Zb 0,Zb 0,Zb 0,Zb 0,Zb 0,Zb 0,Zb 0,Zb 0,Zb 0,Zb 0,Zb 0,Zb 0,Zb 0,Zb 0,Zb 0,Zb 0,Zb 0,Zb 0,Zb 0,Zb 0,Zb 0,Zb 0,Zb 0,Zb 0,Zb 0,Zb 0,Zb 0],Zi 2]
abbrev kAV41:List AV:=[AV.agg [Zb 0,Zb 0,Zb 0,Zb 0,Zb 0,Zb 0,Zb 0,Zb 0,Zb 0,Zb 0,Zb 0,Zb 0,Zb 0,Zb 0,Zb 0,Zb 0,Zb 0,Zb 0,Zb 0,Zb 0,Zb 0,Zb 0,Zb 0,Zb 0,Zb 0,Zb 0,Zb 0,Zb 0,Zb 0,Zb 0,Zb 0,Zb 0],Zi 3]
theorem depth_c (d:Nat) (hd:d≤5):Pure Tryz.prog gl0 380 [.int .i64 (2^d:Nat)] (.tup [.int .i64 d,.int .i64 0]):=by
 exact pz Tryz.func380 (by
  apply n_loop ({ x:Nat // x≤d }) [0,5] [] (fun x=>[Zi (↑(2^d):Int),Zi x.1]) (fun _=>[]) (fun x=>d - x.1) (⟨0,Nat.zero_le d⟩)
  intro x0
  try (have q0:=x0.2;dsimp only at q0)
  apply n_bd ((x0.1:Int)<11)
  ·intro g1
   apply n_req (0≤(x0.1:Int))
   apply n_br ((↑(2^d):Int)==wrap .i64 ((1:Int)*2^min (toNat (x0.1:Int)) 64))
   ·intro g3
    try simp only [Int.toNat_natCast] at g3
    exact n_outx (.tup [Zi x0.1,Zi 0]) (by exact Ent.of_eq (congrArg (fun k:Nat=>AV.tup [.int .i64 k,.int .i64 0]) (dep_t (d:=d) (by omega) (by omega) g3).symm))
   ·intro g3
    try simp only [Int.toNat_natCast] at g3
    exact n_again [] (⟨x0.1+1,by have:=dep_f (d:=d) (by omega) g3;omega⟩) (ek (en (inc_ent (by omega)))) (by have:=dep_f (d:=d) (by omega) g3;grind)
  ·intro _
   refine n_old (.out (.tup [Zi 0,Zi 1]) [] (.tup [Zi d,Zi 0]) []) ?_
   grind)
theorem open0_c (d:Nat) (hd:d≤5) (h:Nat→Nat→Int) (hb:∀ i,i<2^d→byB (h i) 32):Pure Tryz.prog gl0 357 [hsl (2^d) h,.int .i64 0,.int .i64 0] (.tup [.isl 1 (d+1) fun i _=>hsl (2^(d - (d - i))) (treF h (d - i)),.int .i64 0]):=by
 exact pz Tryz.func357 (by
  apply n_sc ((depth_c d) (by omega))
  apply n_ff
  apply n_req (((decide ((0:Int)>(d:Int))||false)==false)=true→(0:Int)≤0) (fun _=>Int.le_refl _)
  apply n_br (decide ((0:Int)>(d:Int))||false||false)
  ·intro _
   refine n_old (.out (.tup [.nsl,Zi 2]) [] (.tup [.isl 1 (d+1) fun i x=>hsl (2^(d - (d - i))) (treF h (d - i)),Zi 0]) []) ?_
   grind
  ·intro g3
   apply n_dc (levels_c (d) (by omega) (h) (by omega))
   refine n_old (.out (.tup [.isl 1 (d+1) fun i x=>.isl 32 (2^(d - (d - i))) fun i_1 j=>Zb (treF h (d - i) i_1 j),Zi 0]) [] (.tup [.isl 1 (d+1) fun i x=>hsl (2^(d - (d - i))) (treF h (d - i)),Zi 0]) []) ?_
   simp [k_out,Ent.refl])
theorem tn0_c (d:Nat) (hd:d≤5) (h:Nat→Nat→Int) (hb:∀ i,i<2^d→byB (h i) 32):Pure Tryz.prog gl0 313 [hsl (2^d) h,.int .i64 0,.int .i64 0] (.tup [.agg (u8c (treF h d 0)),.int .i64 0]):=by
 exact pz Tryz.func313 (by
  apply n_dc (open0_c (d) (by omega) (h) (by omega))
  refine n_old (.ff (.req ((0:Int)≤0∧(0:Int)<(↑(d+1):Int)) (.req ((0:Int)≤0∧(0:Int)<(↑(2^(d - (d - 0))):Int)) (.out (.tup [.agg (u8c (treF h (d - 0) 0)),Zi 0]) [] (.tup [.agg (u8c (treF h d 0)),Zi 0]) [])))) ?_
  grind [k_ff,k_req,Int.ofNat_lt,pow_pos2,k_out,Ent.refl])
theorem troot_c (d:Nat) (hd:d≤5) (h:Nat→Nat→Int) (hb:∀ i,i<2^d→byB (h i) 32):Pure Tryz.prog gl0 255 [hsl (2^d) h] (.tup [.agg (u8c (treF h d 0)),.int .i64 0]):=by
 exact pz Tryz.func255 (by
  apply n_sc (tn0_c (d) (by omega) (h) (by omega))
  exact n_or)
theorem tleaf_c (n:Nat) (f:Nat→Int) (hn:n≤16384) (hf:byB f n):Pure Tryz.prog gl0 312 [bys n f] (.tup [.agg (u8c (tagF "specie/leaf".toUTF8 n f)),.int .i64 0]):=by
 have ht:=tagged_c "specie/leaf".toUTF8 (by decide) (by decide) f n (by omega) hf
 exact pz Tryz.func312 (by
  apply n_bd ((n:Int)>16384)
  ·intro _
   refine n_old (.out (.tup [.agg z32,Zi 5]) [] (.tup [.agg (u8c (tagF (String.toUTF8 "specie/leaf") n f)),Zi 0]) []) ?_
   grind
  ·intro g0
   apply n_sc (ht)
   refine n_old (.out (.tup [.agg (u8c (tagF (String.toUTF8 "specie/leaf") n f)),Zi 0]) [] (.tup [.agg (u8c (tagF (String.toUTF8 "specie/leaf") n f)),Zi 0]) []) ?_
   simp [k_out,Ent.refl])
theorem rtleaf_c (n:Nat) (f:Nat→Int) (hn:n≤16384) (hf:byB f n):Pure Tryz.prog gl0 225 [bys n f] (.agg (u8c (tagF "specie/leaf".toUTF8 n f))):=by
 have ht:=rtagged_c "specie/leaf".toUTF8 (by decide) f n (by omega) hf
 exact pz Tryz.func225 (by
  apply n_sc (ht)
  refine n_old (.out (.agg (u8c (tagF (String.toUTF8 "specie/leaf") n f))) [] (.agg (u8c (tagF (String.toUTF8 "specie/leaf") n f))) []) ?_
  simp [k_out,Ent.refl])
theorem tn_base (d:Nat) (hd:d≤5) (h:Nat→Nat→Int) (i:Nat) (hi:i<2^d):Pure Tryz.prog gl0 153 [hsl (2^d) h,.int .i64 d,.int .i64 i] (.agg (u8c (h i))):=by
 have w:=shw (x:=d) (by omega)
 exact pz Tryz.func153 (by
  apply n_req (0≤(d:Int))
  apply n_br (wrap .i64 ((1:Int)*2^min (toNat (d:Int)) 64)==(↑(2^d):Int))
  ·intro g1
   refine n_old (.req (0≤(i:Int)∧(i:Int)<(↑(2^d):Int)) (.out (.agg (u8c (h (toNat (i:Int))))) [] (.agg (u8c (h i))) [])) ?_
   grind [Int.toNat_natCast,k_req,k_out,Ent.refl]
  ·intro _
   apply n_no
   grind)
theorem tn_step (d:Nat) (hd:d≤5) (h:Nat→Nat→Int) (L i:Nat) (hL:L<d) (hi:i<2^L) (u v:Nat→Int) (hu:byB u 32) (hv:byB v 32) (a1:Pure Tryz.prog gl0 153 [hsl (2^d) h,.int .i64 (L+1:Nat),.int .i64 (2*i:Nat)] (.agg (u8c u)))
  (a2:Pure Tryz.prog gl0 153 [hsl (2^d) h,.int .i64 (L+1:Nat),.int .i64 (2*i+1:Nat)] (.agg (u8c v))):Pure Tryz.prog gl0 153 [hsl (2^d) h,.int .i64 L,.int .i64 i] (.agg (u8c (nodeF u v))):=by
 have w:=shw (x:=L) (by omega)
 have hi5:i<32:=Nat.lt_of_lt_of_le hi (Nat.le_trans (Nat.pow_le_pow_right (by decide) (show L≤5 by omega)) (by decide))
 have e1:((L+1:Nat):Int)=IntKind.wrap .i64 ((L:Int)+1):=by grind [wI]
 have e2:((2*i:Nat):Int)=IntKind.wrap .i64 (2*(i:Int)):=by grind [wI]
 have e3:((2*i+1:Nat):Int)=IntKind.wrap .i64 (IntKind.wrap .i64 (2*(i:Int))+1):=by grind [wI]
 rw [e1,e2] at a1
 rw [e1,e3] at a2
 have a3:=rinner_c u v hu hv
 exact pz Tryz.func153 (by
  apply n_req (0≤(L:Int))
  apply n_br (wrap .i64 ((1:Int)*2^min (toNat (L:Int)) 64)==(↑(2^d):Int))
  ·intro g1
   try simp only [Int.toNat_natCast] at g1
   apply n_req (0≤(i:Int)∧(i:Int)<(↑(2^d):Int))
   exact n_outx (.agg (u8c (h (toNat (i:Int))))) (by (exfalso;rw [w] at g1;exact absurd (pow_inj (by omega) (by omega) (Int.ofNat_inj.1 g1)) (by omega)))
  ·intro g1
   refine n_old (.sc true 153 [.isl 32 (2^d) fun i j=>Zb (h i j),Zi (wrap .i64 ((L:Int)+1)),Zi (wrap .i64 ((2:Int)*(i:Int)))] (.agg (u8c u)) (.sc true 153 [.isl 32 (2^d) fun i j=>Zb (h i j),Zi (wrap .i64 ((L:Int)+1)),Zi (wrap .i64 (wrap .i64 ((2:Int)*(i:Int))+1))] (.agg (u8c v)) (.sc true 224 [.agg (u8c u),.agg (u8c v)] (.agg (u8c (nodeF u v))) (.out (.agg (u8c (nodeF u v))) [] (.agg (u8c (nodeF u v))) [])))) ?_
   grind [Int.toNat_natCast,k_sc,k_out,Ent.refl])
theorem tnode_c (d:Nat) (hd:d≤5) (h:Nat→Nat→Int) (hb:∀ i,i<2^d→byB (h i) 32):∀ k i:Nat,k≤d→i<2^(d - k)→Pure Tryz.prog gl0 153 [hsl (2^d) h,.int .i64 (d - k:Nat),.int .i64 i] (.agg (u8c (treF h k i)))
 | 0,i,hk,hi=>tn_base d hd h i hi
 | k+1,i,hk,hi=>by
  have hp:2*2^(d - (k+1))=2^(d - k):=pow_dbl (by omega)
  have e:d - (k+1)+1=d - k:=by omega
  have b1:=tnode_c d hd h hb k (2*i) (by omega) (by omega)
  have b2:=tnode_c d hd h hb k (2*i+1) (by omega) (by omega)
  rw [← e] at b1 b2
  have hby:∀ j,j<2^(d - k)→byB (treF h k j) 32:=fun j hj=>tre_by hb k j (by
   have e:=Nat.mul_le_mul_right (2^k) (show j+1≤2^(d - k) from hj)
   rw [Nat.add_mul,Nat.one_mul,← Nat.pow_add,show d - k+k=d by omega] at e
   exact e)
  exact tn_step d hd h (d - (k+1)) i (by omega) hi _ _ (hby _ (by omega)) (hby _ (by omega)) b1 b2
theorem fol_ok (h:Nat→Int) (i:Int) (n:Nat) (P:Nat→Nat→Int) (hn:n≤5) (hi:0≤i) (hi':i<(2^n:Nat)) (hh:byB h 32) (hP:∀ k,k<n→byB (P k) 32) :
  Pure Tryz.prog gl0 314 [.agg (u8c h),.int .i64 n,.agg [.int .i64 i,hsl n P]] (.tup [.agg (u8c (folF h i P n)),.int .i64 0]):=by
 have w:=shw (x:=n) (by omega)
 have hi5:i<32:=Int.lt_of_lt_of_le hi' (Int.ofNat_le.2 (Nat.le_trans (Nat.pow_le_pow_right (by decide) hn) (by decide)))
 rw [← w] at hi'
 exact pz Tryz.func314 (by
  apply n_req (((decide ((n:Int)<0)||decide ((n:Int)>10)||decide (i<0))==false)=true→0≤(n:Int))
  apply n_br (decide ((n:Int)<0)||decide ((n:Int)>10)||decide (i<0)||decide (i≥wrap .i64 ((1:Int)*2^min (toNat (n:Int)) 64)))
  ·intro _
   refine n_old (.out (.tup kAV40) [] (.tup [.agg (u8c (folF h i P n)),Zi 0]) []) ?_
   grind
  ·intro g1
   try simp only [Int.toNat_natCast] at g1
   apply n_br ((n:Int) != (n:Int))
   ·intro _
    refine n_old (.out (.tup kAV41) [] (.tup [.agg (u8c (folF h i P n)),Zi 0]) []) ?_
    grind
   ·intro g3
    apply n_loopx ({ x:Nat // x≤n }) [3,6,39,40,8,41] [0,16] (fun x=>[.own 0 32 0 0 32,.own 1 32 0 0 32,.isl 32 n fun i j=>Zb (P i j),Zi n,Zi (i / 2^x.1),Zi x.1]) (fun x=>[some ⟨32,1,true,.fn fun x_1 j=>Zb (folF h i P (x.1) j)⟩,some ⟨32,1,true,.lst [z32]⟩]) (fun x=>n - x.1) (⟨0,Nat.zero_le n⟩) [.own 0 32 0 0 32,.own 1 32 0 0 32,.isl 32 n fun i j=>Zb (P i j),Zi n,Zi i,Zi 0] [some ⟨32,1,true,.lst [u8c h]⟩,some ⟨32,1,true,.lst [z32]⟩] (⟨.refl _,.refl _,.refl _,.refl _,Ent.of_eq (congrArg _ (by simp)),.refl _,trivial⟩) (⟨ObEnt.rowR rfl,ObEnt.refl _,trivial⟩)
    intro x5
    try (have q5:=x5.2;dsimp only at q5)
    apply n_bd ((x5.1:Int)<(n:Int))
    ·intro g6
     apply n_req (0≤(x5.1:Int)∧(x5.1:Int)<(n:Int))
     apply n_br (Int.tmod (i / 2^x5.1) (2:Int)==0)
     ·intro g8
      apply n_sc (inner_c (folF h i P x5.1) (P (toNat (↑x5.1:Int))) (by grind [fol_by]) (by grind))
      exact n_againx [0,1] (⟨x5.1+1,by omega⟩) [.own 0 32 0 0 32,.own 1 32 0 0 32,.isl 32 n fun i j=>Zb (P i j),Zi n,Zi (wrap .i64 (Int.tdiv (i / 2^x5.1) (2:Int))),Zi (wrap .i64 ((x5.1:Int)+1))] [some ⟨32,1,true,.fn fun i_1 j=>Zb (bif Nat.beq i_1 0&&(Nat.ble 0 j&&Nat.blt j 32) then intOfAV (atL (u8c (nodeF (folF h i P x5.1) (P (toNat (x5.1:Int))))) (j - 0)) else folF h i P x5.1 j)⟩,some ⟨32,1,true,.lst [z32]⟩] (⟨.refl _,.refl _,.refl _,.refl _,Ent.of_eq (congrArg _ (half_w hi (by omega))),inc_ent (by omega),trivial⟩) (⟨fol_ob (fol_t hi g8),ObEnt.refl _,trivial⟩)
     ·intro g8
      apply n_sc (inner_c (P (toNat (↑x5.1:Int))) (folF h i P x5.1) (by grind) (by grind [fol_by]))
      exact n_againx [0,1] (⟨x5.1+1,by omega⟩) [.own 0 32 0 0 32,.own 1 32 0 0 32,.isl 32 n fun i j=>Zb (P i j),Zi n,Zi (wrap .i64 (Int.tdiv (i / 2^x5.1) (2:Int))),Zi (wrap .i64 ((x5.1:Int)+1))] [some ⟨32,1,true,.fn fun i_1 j=>Zb (bif Nat.beq i_1 0&&(Nat.ble 0 j&&Nat.blt j 32) then intOfAV (atL (u8c (nodeF (P (toNat (x5.1:Int))) (folF h i P x5.1))) (j - 0)) else folF h i P x5.1 j)⟩,some ⟨32,1,true,.lst [z32]⟩] (⟨.refl _,.refl _,.refl _,.refl _,Ent.of_eq (congrArg _ (half_w hi (by omega))),inc_ent (by omega),trivial⟩) (⟨fol_ob (fol_f hi g8),ObEnt.refl _,trivial⟩)
    ·intro g6
     exact n_outx (.tup [.agg (u8c (folF h i P x5.1)),Zi 0]) (by exact Ent.of_eq (congrArg (fun k:Nat=>AV.tup [.agg (u8c (folF h i P k)),.int .i64 0]) (by omega))))
theorem fol_no (h:Nat→Int) (i:Int) (l n:Nat) (P:Nat→Nat→Int) (hl:l≤5) (hne:n≠l) (_:n≤1000000) (hi:0≤i) (hi':i<(2^l:Nat)) :
  Pure Tryz.prog gl0 314 [.agg (u8c h),.int .i64 l,.agg [.int .i64 i,hsl n P]] (.tup [.agg (u8c fun _=>0),.int .i64 3]):=by
 have w:=shw (x:=l) (by omega)
 rw [← w] at hi'
 exact pz Tryz.func314 (by
  apply n_req (((decide ((l:Int)<0)||decide ((l:Int)>10)||decide (i<0))==false)=true→0≤(l:Int))
  apply n_br (decide ((l:Int)<0)||decide ((l:Int)>10)||decide (i<0)||decide (i≥wrap .i64 ((1:Int)*2^min (toNat (l:Int)) 64)))
  ·intro _
   refine n_old (.out (.tup kAV40) [] (.tup [.agg (u8c fun x=>(0:Int)),Zi 3]) []) ?_
   grind
  ·intro g1
   try simp only [Int.toNat_natCast] at g1
   apply n_br ((n:Int) != (l:Int))
   ·intro g3
    exact n_outx (.tup kAV41) (by exact Ent.refl _)
   ·intro _
    apply n_no
    grind)
theorem tver_ok (r h:Nat→Int) (i:Int) (n:Nat) (P:Nat→Nat→Int) (hn:n≤5) (hi:0≤i) (hi':i<(2^n:Nat)) (hh:byB h 32) (hP:∀ k,k<n→byB (P k) 32) :
  Pure Tryz.prog gl0 256 [.agg (u8c r),.agg (u8c h),.int .i64 n,.agg [.int .i64 i,hsl n P]] (.bool (hEq (folF h i P n) r)):=by
 have hf:=fol_ok h i n P hn hi hi' hh hP
 exact pz Tryz.func256 (by
  apply n_sc (hf)
  exact n_or)
theorem tver_no (r h:Nat→Int) (i:Int) (l n:Nat) (P:Nat→Nat→Int) (hl:l≤5) (hne:n≠l) (hn:n≤1000000) (hi:0≤i) (hi':i<(2^l:Nat)) :
  Pure Tryz.prog gl0 256 [.agg (u8c r),.agg (u8c h),.int .i64 l,.agg [.int .i64 i,hsl n P]] (.bool false):=by
 have hf:=fol_no h i l n P hl hne hn hi hi'
 exact pz Tryz.func256 (by
  refine n_old (.sc true 314 [.agg (u8c h),Zi l,.agg [Zi i,.isl 32 n fun i j=>Zb (P i j)]] (.tup [.agg (u8c fun x=>(0:Int)),Zi 3]) (.out (.bool false) [] (.bool false) [])) ?_
  grind [k_sc,k_out,Ent.refl])
theorem rfol_c (h:Nat→Int) (i:Int) (n:Nat) (P:Nat→Nat→Int) (hn:n≤1000000) (hi:0≤i) (hi':i<9223372036854775807) (hh:byB h 32) (hP:∀ k,k<n→byB (P k) 32) :
  Pure Tryz.prog gl0 152 [.agg (u8c h),.agg [.int .i64 i,hsl n P]] (.agg (u8c (folF h i P n))):=by
 exact pz Tryz.func152 (by
  apply n_loopx ({ x:Nat // x≤n }) [2,3,4,5,6] [0,8,16] (fun x=>[.own 0 32 0 0 32,.own 1 2 0 0 2,.own 2 32 0 0 32,Zi (i / 2^x.1),Zi x.1]) (fun x=>[some ⟨32,1,true,.fn fun x_1 j=>Zb (folF h i P (x.1) j)⟩,some ⟨2,1,true,.lst [[Zi i,.isl 32 n fun i j=>Zb (P i j)]]⟩,some ⟨32,1,true,.lst [z32]⟩]) (fun x=>n - x.1) (⟨0,Nat.zero_le n⟩) [.own 0 32 0 0 32,.own 1 2 0 0 2,.own 2 32 0 0 32,Zi i,Zi 0] [some ⟨32,1,true,.lst [u8c h]⟩,some ⟨2,1,true,.lst [[Zi i,.isl 32 n fun i j=>Zb (P i j)]]⟩,some ⟨32,1,true,.lst [z32]⟩] (⟨Ent.refl _,Ent.refl _,Ent.refl _,by simp [Ent.of_eq],by exact Ent.refl _,trivial⟩) (⟨ObEnt.rowR rfl,ObEnt.refl _,ObEnt.refl _,trivial⟩)
  intro x0
  try (have q0:=x0.2;dsimp only at q0)
  apply n_bd ((x0.1:Int)<(n:Int))
  ·intro g1
   apply n_br (Int.tmod (i / 2^x0.1) (2:Int)==0)
   ·intro g2
    apply n_req (0≤(x0.1:Int)∧(x0.1:Int)<(n:Int))
    apply n_sc (rinner_c (folF h i P x0.1) (P (toNat (↑x0.1:Int))) (by grind [fol_by]) (by grind))
    exact n_againx [0,1,2] (⟨x0.1+1,by omega⟩) [.own 0 32 0 0 32,.own 1 2 0 0 2,.own 2 32 0 0 32,Zi (wrap .i64 (Int.tdiv (i / 2^x0.1) (2:Int))),Zi (wrap .i64 ((x0.1:Int)+1))] [some ⟨32,1,true,.fn fun i_1 j=>Zb (bif Nat.beq i_1 0&&(Nat.ble 0 j&&Nat.blt j 32) then intOfAV (atL (u8c (nodeF (folF h i P x0.1) (P (toNat (x0.1:Int))))) (j - 0)) else folF h i P x0.1 j)⟩,some ⟨2,1,true,.lst [[Zi i,.isl 32 n fun i j=>Zb (P i j)]]⟩,some ⟨32,1,true,.lst [z32]⟩] (⟨Ent.refl _,Ent.refl _,Ent.refl _,by exact Ent.of_eq (congrArg _ (half_w hi (by omega))),by grind [inc_ent],trivial⟩) (⟨fol_ob (fol_t hi g2),ObEnt.refl _,ObEnt.refl _,trivial⟩)
   ·intro g2
    apply n_req (0≤(x0.1:Int)∧(x0.1:Int)<(n:Int))
    apply n_sc (rinner_c (P (toNat (↑x0.1:Int))) (folF h i P x0.1) (by grind) (by grind [fol_by]))
    exact n_againx [0,1,2] (⟨x0.1+1,by omega⟩) [.own 0 32 0 0 32,.own 1 2 0 0 2,.own 2 32 0 0 32,Zi (wrap .i64 (Int.tdiv (i / 2^x0.1) (2:Int))),Zi (wrap .i64 ((x0.1:Int)+1))] [some ⟨32,1,true,.fn fun i_1 j=>Zb (bif Nat.beq i_1 0&&(Nat.ble 0 j&&Nat.blt j 32) then intOfAV (atL (u8c (nodeF (P (toNat (x0.1:Int))) (folF h i P x0.1))) (j - 0)) else folF h i P x0.1 j)⟩,some ⟨2,1,true,.lst [[Zi i,.isl 32 n fun i j=>Zb (P i j)]]⟩,some ⟨32,1,true,.lst [z32]⟩] (⟨Ent.refl _,Ent.refl _,Ent.refl _,by exact Ent.of_eq (congrArg _ (half_w hi (by omega))),by grind [inc_ent],trivial⟩) (⟨fol_ob (fol_f hi g2),ObEnt.refl _,ObEnt.refl _,trivial⟩)
  ·intro g1
   exact n_outx (.agg (u8c (folF h i P x0.1))) (Ent.of_eq (congrArg (fun k:Nat=>AV.agg (u8c (folF h i P k))) (by omega))))
theorem rcrt_c (b:Bas) (a:Int) (root:Nat→Int) (z sa sb r:Int) (hr:byB root 32) (hq:0<b.gr.q) (hq':b.gr.q<2305843009213693952):Pure Tryz.prog gl0 273 [b.av,.int .i64 a,.agg (u8c root),.agg [.int .i64 z,.int .i64 sa,.int .i64 sb,.int .i64 r]] (.int .i64 (crtN b a root z sa sb)):=by
 have he:=fun n F hn hF=>rencU_c (crtJ b a root z sa sb) n F hn hF (by rw [show (lsI (crtJ b a root z sa sb)).enc.length=132 from crtI_len b a z sa sb root];decide)
 have ht:=rtagged_c "specie/coin".toUTF8 (by decide) (fun k=>(crtI b a root z sa sb).enc.getD k 0) (crtI b a root z sa sb).enc.length (by simp [crtI_len]) (It.enc_by (crtI_okB hr))
 have hn:=rnumber_c (tagI "specie/coin".toUTF8 (crtI b a root z sa sb)) b.gr.q hq hq' (tagI_by _ _ _)
 exact pz Tryz.func273 (by
  apply n_dc ((rNumbers_c b))
  apply n_loopx ({ x:Nat // x≤6 }) [1,4,6,7,9,10,11] [0,8,16,64,1116] (fun x=>[Zi a,.own 0 6 0 0 6,.own 1 32 0 0 32,.own 2 4 0 0 4,.isl 1 6 fun i x=>Zi (crtL b (0:Int) i),.own 3 4 0 0 4,Zi x.1]) (fun x=>[some ⟨6,1,true,.lst [Bas.cells b]⟩,some ⟨32,1,true,.lst [u8c root]⟩,some ⟨4,1,true,.lst [[Zi z,Zi sa,Zi sb,Zi r]]⟩,some ⟨4,1,true,.lst [[Zi 3,Zi 0,.nsl,.osl 4 4 0 (x.1)]]⟩,some ⟨4,x.1,true,Rep.row fun i=>It.cells (It.int (crtL b (0:Int) i))⟩]) (fun x=>6 - x.1) (⟨0,Nat.zero_le 6⟩) [Zi a,.own 0 6 0 0 6,.own 1 32 0 0 32,.own 2 4 0 0 4,.isl 1 6 fun i x=>Zi (crtL b (0:Int) i),.own 3 4 0 0 4,Zi 0] [some ⟨6,1,true,.lst [Bas.cells b]⟩,some ⟨32,1,true,.lst [u8c root]⟩,some ⟨4,1,true,.lst [[Zi z,Zi sa,Zi sb,Zi r]]⟩,some ⟨4,1,true,.lst [[Zi 3,Zi 0,.nsl,.nsl]]⟩,some ⟨4,0,true,.ty (999999999:TypeId) (.lst [])⟩] (⟨.refl _,.refl _,.refl _,.refl _,.refl _,.refl _,.refl _,trivial⟩) (by repeat' (first|exact trivial|(first|exact ObEnt.refl _|exact ObEnt.junk|exact ObEnt.zero|exact ObEnt.push rfl rfl|exact ObEnt.pushRow rfl|exact ObEnt.len (by omega)|exact ObEnt.row (by repeat' (first|exact trivial|(first|exact Ent.refl _|exact inc_ent (by omega)|exact Ent.nil rfl|exact Ent.of_eq (congrArg (AV.osl _ _ _) (by first|omega|(dsimp only;omega)))|exact Ent.of_eq (congrArg (AV.int _) (by first|omega|(dsimp only;omega))))|refine And.intro ?_ ?_)))|refine And.intro ?_ ?_))
  intro x1
  try (have q1:=x1.2;dsimp only at q1)
  apply n_bd ((x1.1:Int)<6)
  ·intro g2
   apply n_req (0≤(x1.1:Int)∧(x1.1:Int)<6)
   apply n_dc (rnumI_c (crtL b (0:Int) (toNat (↑x1.1:Int))))
   apply n_req ((x1.1+1)*64≤140737488355328)
   exact n_againx [0,1,2,3,101] (⟨x1.1+1,by omega⟩) [Zi a,.own 0 6 0 0 6,.own 1 32 0 0 32,.own 2 4 0 0 4,.isl 1 6 fun i x=>Zi (crtL b (0:Int) i),.own 3 4 0 0 4,Zi (wrap .i64 ((x1.1:Int)+1))] [some ⟨6,1,true,.lst [Bas.cells b]⟩,some ⟨32,1,true,.lst [u8c root]⟩,some ⟨4,1,true,.lst [[Zi z,Zi sa,Zi sb,Zi r]]⟩,some ⟨4,1,true,.lst [[Zi 3,Zi 0,.nsl,.osl 4 4 0 (x1.1+1)]]⟩,some ⟨4,x1.1+1,true,Rep.cat x1.1 (Rep.row fun i=>[Zi (It.kind (It.int (crtL b (0:Int) i))),Zi (It.num (It.int (crtL b (0:Int) i))),.isl 1 0 fun i_1 x=>Zb (It.fb (It.int (crtL b (0:Int) i)) i_1),.isl 4 0 (It.row (It.int (crtL b (0:Int) i)))]) (.lst [[Zi (It.kind (It.int (crtL b (0:Int) (toNat (x1.1:Int))))),Zi (It.num (It.int (crtL b (0:Int) (toNat (x1.1:Int))))),.isl 1 0 fun i x=>Zb (It.fb (It.int (crtL b (0:Int) (toNat (x1.1:Int)))) i),.isl 4 0 (It.row (It.int (crtL b (0:Int) (toNat (x1.1:Int)))))]])⟩] (⟨.refl _,.refl _,.refl _,.refl _,.refl _,.refl _,inc_ent (by omega),trivial⟩) (⟨.refl _,.refl _,.refl _,.refl _,.pushRow rfl,trivial⟩)
  ·intro g2
   apply n_loopx ({ x:Nat // x≤32 }) [1,4,6,7,10,12,13] [0,1,2,3,45,4,331] (fun x=>[Zi a,.own 0 6 0 0 6,.own 1 32 0 0 32,.own 2 4 0 0 4,.own 3 4 0 0 4,.own 4 4 0 0 4,Zi x.1]) (fun x=>[some ⟨6,1,true,.lst [Bas.cells b]⟩,some ⟨32,1,true,.lst [u8c root]⟩,some ⟨4,1,true,.lst [[Zi z,Zi sa,Zi sb,Zi r]]⟩,some ⟨4,1,true,.lst [[Zi 3,Zi 0,.nsl,.osl 5 4 0 x1.1]]⟩,some ⟨4,1,true,.lst [[Zi 2,Zi 0,.osl 6 1 0 (x.1),.nsl]]⟩,some ⟨4,x1.1,true,Rep.row fun i=>[Zi (It.kind (It.int (crtL b (0:Int) i))),Zi (It.num (It.int (crtL b (0:Int) i))),.isl 1 0 fun i_1 x=>Zb (It.fb (It.int (crtL b (0:Int) i)) i_1),.isl 4 0 (It.row (It.int (crtL b (0:Int) i)))]⟩,some ⟨1,x.1,true,.fn fun i x=>Zb (root i)⟩]) (fun x=>32 - x.1) (⟨0,Nat.zero_le 32⟩) [Zi a,.own 0 6 0 0 6,.own 1 32 0 0 32,.own 2 4 0 0 4,.own 3 4 0 0 4,.own 4 4 0 0 4,Zi 0] [some ⟨6,1,true,.lst [Bas.cells b]⟩,some ⟨32,1,true,.lst [u8c root]⟩,some ⟨4,1,true,.lst [[Zi z,Zi sa,Zi sb,Zi r]]⟩,some ⟨4,1,true,.lst [[Zi 3,Zi 0,.nsl,.osl 5 4 0 x1.1]]⟩,some ⟨4,1,true,.lst [[Zi 2,Zi 0,.nsl,.nsl]]⟩,some ⟨4,x1.1,true,Rep.row fun i=>[Zi (It.kind (It.int (crtL b (0:Int) i))),Zi (It.num (It.int (crtL b (0:Int) i))),.isl 1 0 fun i_1 x=>Zb (It.fb (It.int (crtL b (0:Int) i)) i_1),.isl 4 0 (It.row (It.int (crtL b (0:Int) i)))]⟩,some ⟨1,0,true,.ty (999999999:TypeId) (.lst [])⟩] (⟨.refl _,.refl _,.refl _,.refl _,.refl _,.refl _,.refl _,trivial⟩) (by repeat' (first|exact trivial|(first|exact ObEnt.refl _|exact ObEnt.junk|exact ObEnt.zero|exact ObEnt.push rfl rfl|exact ObEnt.pushRow rfl|exact ObEnt.len (by omega)|exact ObEnt.row (by repeat' (first|exact trivial|(first|exact Ent.refl _|exact inc_ent (by omega)|exact Ent.nil rfl|exact Ent.of_eq (congrArg (AV.osl _ _ _) (by first|omega|(dsimp only;omega)))|exact Ent.of_eq (congrArg (AV.int _) (by first|omega|(dsimp only;omega))))|refine And.intro ?_ ?_)))|refine And.intro ?_ ?_))
   intro x7
   try (have q7:=x7.2;dsimp only at q7)
   apply n_bd ((x7.1:Int)<32)
   ·intro g8
    apply n_req (0≤(x7.1:Int)∧(x7.1:Int)<32)
    apply n_req ((x7.1+1)*1≤140737488355328)
    exact n_againx [0,1,2,3,4,5,71] (⟨x7.1+1,by omega⟩) [Zi a,.own 0 6 0 0 6,.own 1 32 0 0 32,.own 2 4 0 0 4,.own 3 4 0 0 4,.own 4 4 0 0 4,Zi (wrap .i64 ((x7.1:Int)+1))] [some ⟨6,1,true,.lst [Bas.cells b]⟩,some ⟨32,1,true,.lst [u8c root]⟩,some ⟨4,1,true,.lst [[Zi z,Zi sa,Zi sb,Zi r]]⟩,some ⟨4,1,true,.lst [[Zi 3,Zi 0,.nsl,.osl 5 4 0 x1.1]]⟩,some ⟨4,1,true,.lst [[Zi 2,Zi 0,.osl 6 1 0 (x7.1+1),.nsl]]⟩,some ⟨4,x1.1,true,Rep.row fun i=>[Zi (It.kind (It.int (crtL b (0:Int) i))),Zi (It.num (It.int (crtL b (0:Int) i))),.isl 1 0 fun i_1 x=>Zb (It.fb (It.int (crtL b (0:Int) i)) i_1),.isl 4 0 (It.row (It.int (crtL b (0:Int) i)))]⟩,some ⟨1,x7.1+1,true,.fn fun i j=>Zb (bif Nat.blt i x7.1 then root i else intOfAV (atL [Zb (intOfAV (Rep.at (Ob.f (Ob.seen ⟨32,1,true,.lst [u8c root]⟩)) 0 (0+toNat (↑(x7.1):Int))))] j))⟩] (⟨.refl _,.refl _,.refl _,.refl _,.refl _,.refl _,inc_ent (by omega),trivial⟩) (⟨.refl _,.refl _,.refl _,.refl _,.refl _,.refl _,root_push rfl (rootc_at (by omega)),trivial⟩)
   ·intro g8
    apply n_dc (rnumI_c (a))
    apply n_dc (rnumI_c (z))
    apply n_dc (rnumI_c (sa))
    apply n_dc (rnumI_c (sb))
    apply n_req ((x1.1+5)*64≤140737488355328)
    apply n_dc (he (x1.1+5) (fun (r k:Nat)=>mixA (Nat.blt (r+0) x1.1) (atL [Zi (It.kind (It.int (crtL b (0:Int) (r+0)))),Zi (It.num (It.int (crtL b (0:Int) (r+0)))),AV.isl (1) (0) fun (i x:Nat)=>Zb (It.fb (It.int (crtL b (0:Int) (r+0))) i),AV.isl (4) (0) (It.row (It.int (crtL b (0:Int) (r+0))))] k) (atL (List.getD [[Zi (It.kind (It.int a)),Zi (It.num (It.int a)),AV.isl (1) (0) fun (i x:Nat)=>Zb (It.fb (It.int a) i),AV.isl (4) (0) (It.row (It.int a))],[Zi 2,Zi 0,AV.isl (1) x7.1 fun (r k:Nat)=>Zb (root (r+0)),AV.nsl],[Zi (It.kind (It.int z)),Zi (It.num (It.int z)),AV.isl (1) (0) fun (i x:Nat)=>Zb (It.fb (It.int z) i),AV.isl (4) (0) (It.row (It.int z))],[Zi (It.kind (It.int sa)),Zi (It.num (It.int sa)),AV.isl (1) (0) fun (i x:Nat)=>Zb (It.fb (It.int sa) i),AV.isl (4) (0) (It.row (It.int sa))],[Zi (It.kind (It.int sb)),Zi (It.num (It.int sb)),AV.isl (1) (0) fun (i x:Nat)=>Zb (It.fb (It.int sb) i),AV.isl (4) (0) (It.row (It.int sb))]] (r+0 - x1.1) []) k)) (by (show _=11;omega)) (by exact fun i k hi _=>rcrtF_ok (by omega) (by omega) hi))
    apply n_sc (ht)
    apply n_sc (hn)
    exact n_or)
theorem verR_c (b:Bas) (k0 k1 k2 a:Int) (root:Nat→Int) (z sa sb r:Int) (hw:b.gr.W) (hr:byB root 32) :
  Pure Tryz.prog gl0 301 [b.av,.agg [.int .i64 k0,.int .i64 k1,.int .i64 k2],.int .i64 a,.agg (u8c root),.agg [.int .i64 z,.int .i64 sa,.int .i64 sb,.int .i64 r]] (.bool (verR b k0 k1 k2 a root z sa sb r)):=by
 have hv:=validR_c b k0 k1 k2 hw
 have hm:=messageR_c b a hw
 have hs:=scalR_c b r
 have hc:=crt_c b a root z sa sb r hw hr
 have K:(keyB b k0 k1 k2=true∧msgB b.gr a=true)∧0≤r∧r<b.gr.q→crtE b a z sa sb=0∧¬crtC b a root z sa sb=0→SigOk b k0 a z sa sb r (crtC b a root z sa sb):=fun u v=>sig_okC root u.1.1 u.1.2 v.1 u.2
 exact pz Tryz.func301 (by
  apply n_sc (hv)
  apply n_scg ((!keyB b k0 k1 k2)==false) (fun h1=>hm)
  apply n_scg ((!keyB b k0 k1 k2 || !msgB b.1 a)==false) (fun h2=>hs)
  apply n_br (!keyB b k0 k1 k2 || !msgB b.1 a || !(decide (r≥0)&&decide (r<(Bas.gr b).2)))
  ·intro g3
   exact n_outx (.bool false) (Ent.of_eq (congrArg _ (by grind [ver_0,sca_0])))
  ·intro g3
   apply n_sc (hc)
   apply n_br (crtE b a z sa sb != 0||crtC b a root z sa sb==0)
   ·intro g6
    exact n_out (Ent.of_eq (congrArg _ (ver_c g3.1.1 g3.1.2 g6).symm))
   ·intro g6
    apply n_sc ((powR_c b) ((Bas.gr b).3) (r) (by cases K g3 g6;omega) (by cases K g3 g6;omega) (by omega))
    apply n_sc ((prodR_c b) (k0) (crtC b a root z sa sb) (sa) (by cases K g3 g6;omega) (by cases K g3 g6;omega) (by cases K g3 g6;omega) (by cases K g3 g6;omega))
    apply n_scg (((Bas.gr b).3^toNat r%(Bas.gr b).1==k0^toNat (crtC b a root z sa sb)%(Bas.gr b).1*sa%(Bas.gr b).1)==true) (fun h10=>(powR_c b) (a) (r) (by cases K g3 g6;omega) (by cases K g3 g6;omega) (by omega))
    apply n_scg (((Bas.gr b).3^toNat r%(Bas.gr b).1==k0^toNat (crtC b a root z sa sb)%(Bas.gr b).1*sa%(Bas.gr b).1)==true) (fun h11=>(prodR_c b) (z) (crtC b a root z sa sb) (sb) (by cases K g3 g6;omega) (by cases K g3 g6;omega) (by cases K g3 g6;omega) (by cases K g3 g6;omega))
    exact n_out (Ent.of_eq (congrArg _ (ver_e g3.1.1 g3.1.2 g3.2 g6.1 g6.2).symm)))
theorem rverR_c (b:Bas) (k0 k1 k2 a:Int) (root:Nat→Int) (z sa sb r:Int) (hw:b.gr.W) (hr:byB root 32) :
  Pure Tryz.prog gl0 212 [b.av,.agg [.int .i64 k0,.int .i64 k1,.int .i64 k2],.int .i64 a,.agg (u8c root),.agg [.int .i64 z,.int .i64 sa,.int .i64 sb,.int .i64 r]] (.bool (verR b k0 k1 k2 a root z sa sb r)):=by
 have hv:=rkey_c b k0 k1 k2 hw
 have hm:=rmsg_c b.gr a
 have he:=relems_c b.gr z sa sb r
 have hs:=rscalR_c b.gr r
 have hc:=rcrt_c b a root z sa sb r hr
 have K:((keyB b k0 k1 k2=true∧msgB b.gr a=true)∧elsB b.gr z sa sb=true)∧0≤r∧r<b.gr.q→SigOk b k0 a z sa sb r (crtN b a root z sa sb):=fun u=>sig_ok root u.1.1.1 u.1.1.2 u.1.2 u.2
 exact pz Tryz.func212 (by
  apply n_sc (hv)
  apply n_scg ((!keyB b k0 k1 k2)==false) (fun h1=>hm ((validB_ok (key_1 (by simpa using h1)).1)))
  apply n_scg ((!keyB b k0 k1 k2 || !msgB b.1 a)==false) (fun h2=>he ((validB_ok (key_1 (by simp at h2;exact h2.1)).1)))
  apply n_scg ((!keyB b k0 k1 k2 || !msgB b.1 a || !elsB b.1 z sa sb)==false) (fun h3=>hs)
  apply n_br (!keyB b k0 k1 k2 || !msgB b.1 a || !elsB b.1 z sa sb || !(decide (r≥0)&&decide (r<(Bas.gr b).2)))
  ·intro g4
   exact n_outx (.bool false) (Ent.of_eq (congrArg _ (by grind [ver_0,sca_0])))
  ·intro g4
   apply n_sc (hc (by omega) (by exact (validB_q (key_1 g4.1.1.1).1).2))
   apply n_scg ((crtN b a root z sa sb != 0)==true) (fun h7=>(rpowR_c (Bas.gr b)) ((Bas.gr b).3) (r) (by (cases K g4;omega)) (by (cases K g4;omega)) (by omega))
   apply n_scg ((crtN b a root z sa sb != 0)==true) (fun h8=>(rpowR_c (Bas.gr b)) (k0) (crtN b a root z sa sb) (by (cases K g4;omega)) (by (cases K g4;omega)) (by (cases K g4;omega)))
   apply n_scg ((crtN b a root z sa sb != 0)==true) (fun h9=>(rmulR_c (Bas.gr b)) (k0^toNat (crtN b a root z sa sb)%(Bas.gr b).1) (sa) (by (cases K g4;omega)) (by exact mod_bnd (K g4).ok _) (by (cases K g4;omega)))
   apply n_scg ((crtN b a root z sa sb != 0&&(Bas.gr b).3^toNat r%(Bas.gr b).1==k0^toNat (crtN b a root z sa sb)%(Bas.gr b).1*sa%(Bas.gr b).1)==true) (fun h10=>(rpowR_c (Bas.gr b)) (a) (r) (by (cases K g4;omega)) (by (cases K g4;omega)) (by omega))
   apply n_scg ((crtN b a root z sa sb != 0&&(Bas.gr b).3^toNat r%(Bas.gr b).1==k0^toNat (crtN b a root z sa sb)%(Bas.gr b).1*sa%(Bas.gr b).1)==true) (fun h11=>(rpowR_c (Bas.gr b)) (z) (crtN b a root z sa sb) (by (cases K g4;omega)) (by (cases K g4;omega)) (by (cases K g4;omega)))
   apply n_scg ((crtN b a root z sa sb != 0&&(Bas.gr b).3^toNat r%(Bas.gr b).1==k0^toNat (crtN b a root z sa sb)%(Bas.gr b).1*sa%(Bas.gr b).1)==true) (fun h12=>(rmulR_c (Bas.gr b)) (z^toNat (crtN b a root z sa sb)%(Bas.gr b).1) (sb) (by (cases K g4;omega)) (by exact mod_bnd (K g4).ok _) (by (cases K g4;omega)))
   exact n_out (Ent.of_eq (congrArg _ ((Bool.and_assoc _ _ _).trans (ver_r g4.1.1.1 g4.1.1.2 g4.1.2 g4.2).symm))))
theorem cval_c (b:Bas) (r:Rcd) (c:Coin) (hw:b.gr.W) (hr:byB c.root 32):Pure Tryz.prog gl0 248 [b.av,r.av,c.av] (.bool (coinV b r c)):=by
 have hv:=recV_c b r hw
 have hs:=verR_c b r.h r.h1 r.h2 c.a c.root c.z c.sa c.sb c.r hw hr
 exact pz Tryz.func248 (by
  apply n_sc (hv)
  apply n_scg ((rcvB b r&&c.1==r.1&&c.2==r.2&&c.3==r.3&&c.4==r.5)==true) (fun h1=>hs)
  exact n_or)
theorem rcval_c (b:Bas) (r:Rcd) (c:Coin) (hw:b.gr.W) (hr:byB c.root 32):Pure Tryz.prog gl0 146 [b.av,r.av,c.av] (.bool (coinV b r c)):=by
 have hv:=rrecV_c b r hw
 have hs:=rverR_c b r.h r.h1 r.h2 c.a c.root c.z c.sa c.sb c.r hw hr
 exact pz Tryz.func146 (by
  apply n_sc (hv)
  apply n_scg ((rcvB b r&&c.1==r.1&&c.2==r.2&&c.3==r.3&&c.4==r.5)==true) (fun h1=>hs)
  exact n_or)
theorem idxI_w (F:FuncId) (m:Nat) (g:Nat→AV) (f:Nat→Int) (n:Nat) (p:Nat→Bool) (hn:n≤1000) (hc:∀ i,i<n→Pure Tryz.prog gl0 F [.int .i64 (f i),.ipt m g] (.bool (p i))):Pure Tryz.prog gl0 379 [.isl 1 n (fun i _=>.int .i64 (f i)),.fn (.func F) [] [.ipt m g]] (.int .i64 (firstI p n 0)):=by
 exact pz Tryz.func379 (by
  apply n_loop ({ x:Nat // x≤n∧(fun i=>firstI p n 0=firstI p (n - i) i) x }) [0,1,7,8] [] (fun x=>[.isl 1 n fun i x=>Zi (f i),AV.fn (Fn.func F) [] [AV.ipt m g],Zi n,Zi x.1]) (fun _=>[]) (fun x=>n - x.1) (⟨0,⟨Nat.zero_le n,rfl⟩⟩)
  intro x0
  try (have q0:=x0.2;dsimp only at q0)
  apply n_bd ((x0.1:Int)<(n:Int))
  ·intro g1
   apply n_req (0≤(x0.1:Int)∧(x0.1:Int)<(n:Int))
   apply n_sc (hc (toNat (↑x0.1:Int)) (by omega))
   apply n_br0 (p (toNat (x0.1:Int)))
   ·intro h4
    have g4:=cnd_id_t h4
    try simp only [Int.toNat_natCast] at g4
    exact n_out (Ent.of_eq (congrArg _ (first_hit x0.2.2 (by omega) h4)))
   ·intro h4
    have g4:=cnd_id_f h4
    try simp only [Int.toNat_natCast] at g4
    exact n_again [] (⟨x0.1+1,by omega,first_next x0.2.2 (by omega) h4⟩) (ek3 (en (inc_ent (by omega))))
  ·intro g1
   exact n_out (Ent.of_eq (congrArg _ (first_miss x0.2.2 (by omega)))))
theorem conI_w (F:FuncId) (m:Nat) (g:Nat→AV) (f:Nat→Int) (n:Nat) (p:Nat→Bool) (hn:n≤1000) (hc:∀ i,i<n→Pure Tryz.prog gl0 F [.int .i64 (f i),.ipt m g] (.bool (p i))):Pure Tryz.prog gl0 355 [.isl 1 n (fun i _=>.int .i64 (f i)),.fn (.func F) [] [.ipt m g]] (.bool (decide (firstI p n 0≥0))):=by
 have c1:=idxI_w F m g f n p hn hc
 exact pz Tryz.func355 (by
  apply n_sc (c1)
  exact n_or)
theorem leaves1_c (n:Int) (i:Nat) (hi:i<6):Pure Tryz.prog gl0 356 [.int .i64 i,.ipt 1 (atL [.int .i64 n])] (.bool (n==(2^i:Nat))):=by
 have hs:=shw (x:=i) (by omega)
 exact pz Tryz.func356 (by
  apply n_req (0≤(i:Int))
  exact n_outx (.bool (n==wrap .i64 ((1:Int)*2^min (toNat (i:Int)) 64))) (Ent.of_eq (by simp_all)))
theorem leaves_c0 (n:Int):Pure Tryz.prog gl0 355 [.isl 1 6 (fun r k=>atL (List.getD [[.int .i64 0],[.int .i64 1],[.int .i64 2],[.int .i64 3],[.int .i64 4],[.int .i64 5]] r []) k),.fn (.func 356) [] [.ipt 1 (atL [.int .i64 n])]] (.bool (lvB n)) :=
 (conI_w 356 1 (atL [.int .i64 n]) (fun i=>(i:Int)) 6 (fun i=>n==(2^i:Nat)) (by decide) (fun i hi=>leaves1_c n i hi)).via
  ⟨Ent.isl fun i j hi hj=>by obtain rfl:j=0:=Nat.lt_one_iff.1 hj;match i,hi with|0,_|1,_|2,_|3,_|4,_|5,_=>rfl,Ent.refl _,trivial⟩
theorem leaves_c (n:Int):Pure Tryz.prog gl0 311 [.int .i64 n] (.bool (lvB n)):=by
 have h:=leaves_c0 n
 exact pz Tryz.func311 (by
  apply n_sc (h)
  exact n_or)
theorem encN_c (x:Int):Pure Tryz.prog gl0 302 [.agg [.int .i64 1,.int .i64 x,.nsl,.nsl]] (.tup [il .u8 (It.int x).enc,.int .i64 0]) :=
 (encode_c (.int x) rfl (by rw [int_len];decide)).via ⟨Ent.agg ⟨Ent.refl _,Ent.refl _,Ent.nsl,Ent.nsl,trivial⟩,trivial⟩
theorem rencN_c (x:Int):Pure Tryz.prog gl0 219 [.agg [.int .i64 1,.int .i64 x,.nsl,.nsl]] (il .u8 (It.int x).enc) :=
 (renc_c (.int x) (by rw [int_len];decide)).via ⟨Ent.agg ⟨Ent.refl _,Ent.refl _,Ent.nsl,Ent.nsl,trivial⟩,trivial⟩
theorem chash_n (b:Bas) (N:Nat) (hN:N≤32) (hl:lvB N=true) (f:Nat→Int) (hw:b.gr.W) (hv:validB b=true) (hf:∀ i,i<N→elemB b.gr (f i)=true):Pure Tryz.prog gl0 254 [b.av,.isl 1 N fun i _=>.int .i64 (f i)] (.tup [hsl N fun i=>leafF (f i),.int .i64 0]):=by
 have ht:=fun x:Int=>tleaf_c (It.int x).enc.length (fun i=>(It.int x).enc.getD i 0) (by rw [int_len];decide) (It.enc_by (x:=.int x) trivial)
 exact pz Tryz.func254 (by
  apply n_sc ((bvalid_c b) (by assumption))
  apply n_scg ((!validB b)==false) (fun h1=>leaves_c ((↑N:Int)))
  apply n_br (!validB b || !lvB (N:Int))
  ·intro g2
   exact n_no (by rcases g2 with g|g;(· rw [hv] at g;cases g);(· rw [hl] at g;cases g))
  ·intro g2
   apply n_loopx ({ x:Nat // x≤N }) [2,22,23,6,24] [0,8321] (fun x=>[.own 0 6 0 0 6,.isl 1 N fun i x=>Zi (f i),Zi N,.osl 1 32 0 (x.1),Zi x.1]) (fun x=>[some ⟨6,1,true,.lst [Bas.cells b]⟩,some ⟨32,x.1,true,Rep.row fun i=>u8c (leafF (f i))⟩]) (fun x=>N - x.1) (⟨0,Nat.zero_le N⟩) [.own 0 6 0 0 6,.isl 1 N fun i x=>Zi (f i),Zi N,.nsl,Zi 0] [some ⟨6,1,true,.lst [Bas.cells b]⟩,some ⟨32,0,true,.ty (999999999:TypeId) (.lst [])⟩] (by repeat' (first|exact trivial|(first|exact Ent.refl _|exact inc_ent (by omega)|exact Ent.nil rfl|exact Ent.of_eq (congrArg (AV.osl _ _ _) (by first|omega|(dsimp only;omega)))|exact Ent.of_eq (congrArg (AV.int _) (by first|omega|(dsimp only;omega))))|refine And.intro ?_ ?_)) (by exact ⟨ObEnt.refl _,ObEnt.zero,trivial⟩)
   intro x4
   try (have q4:=x4.2;dsimp only at q4)
   apply n_bd ((x4.1:Int)<(N:Int))
   ·intro g5
    apply n_req (0≤(x4.1:Int)∧(x4.1:Int)<(N:Int))
    apply n_sc ((contains_c (Bas.gr b)) (f (toNat (↑x4.1:Int))) (by assumption))
    apply n_br (!(validG b.1&&elemB b.1 (f (toNat (x4.1:Int)))))
    ·intro g8
     try simp only [Int.toNat_natCast] at g8
     exact n_no (by rcases g8 with g|g;(· rw [validG_iff.2 (validB_ok hv)] at g;cases g);(· rw [hf _ (by omega)] at g;cases g))
    ·intro g8
     try simp only [Int.toNat_natCast] at g8
     apply n_dc (encN_c (f (toNat (↑x4.1:Int))))
     apply n_sc (ht (f (toNat (↑x4.1:Int))))
     apply n_req ((x4.1+1)*32≤140737488355328)
     exact n_againx [0,226] (⟨x4.1+1,by omega⟩) [.own 0 6 0 0 6,.isl 1 N fun i x=>Zi (f i),Zi N,.osl 1 32 0 (x4.1+1),Zi (wrap .i64 ((x4.1:Int)+1))] [some ⟨6,1,true,.lst [Bas.cells b]⟩,some ⟨32,x4.1+1,true,Rep.cat x4.1 (Rep.row fun i=>u8c (leafF (f i))) (.lst [u8c (tagF (String.toUTF8 "specie/leaf") (List.length (It.enc (It.int (f (toNat (x4.1:Int)))))) fun i=>List.getD (It.enc (It.int (f (toNat (x4.1:Int))))) i (0:Int))])⟩] (by repeat' (first|exact trivial|(first|exact Ent.refl _|exact inc_ent (by omega)|exact Ent.nil rfl|exact Ent.of_eq (congrArg (AV.osl _ _ _) (by first|omega|(dsimp only;omega)))|exact Ent.of_eq (congrArg (AV.int _) (by first|omega|(dsimp only;omega))))|refine And.intro ?_ ?_)) (by exact ⟨ObEnt.refl _,ObEnt.catRow rfl (fun _ _=>EntL.refl _) (EntL.refl _),trivial⟩) (by (dsimp only;omega))
   ·intro g5
    exact n_outx (.tup [.isl 32 x4.1 fun r k=>atL (u8c (leafF (f (r+0)))) k,Zi 0]) (tup2_out (hsl_out (by omega))))
theorem rhash_c (n:Nat) (hn:n≤1000) (f:Nat→Int):Pure Tryz.prog gl0 154 [.isl 1 n fun i _=>.int .i64 (f i)] (hsl n fun i=>leafF (f i)):=by
 have ht:=fun x:Int=>rtleaf_c (It.int x).enc.length (fun i=>(It.int x).enc.getD i 0) (by rw [int_len];decide) (It.enc_by (x:=.int x) trivial)
 exact pz Tryz.func154 (by
  apply n_loopx ({ x:Nat // x≤n }) [0,3,4] [8216] (fun x=>[.isl 1 n fun i x=>Zi (f i),.osl 0 32 0 (x.1),Zi x.1]) (fun x=>[some ⟨32,x.1,true,Rep.row fun i=>u8c (leafF (f i))⟩]) (fun x=>n - x.1) (⟨0,Nat.zero_le n⟩) [.isl 1 n fun i x=>Zi (f i),.nsl,Zi 0] [some ⟨32,0,true,.ty (999999999:TypeId) (.lst [])⟩] (by repeat' (first|exact trivial|(first|exact Ent.refl _|exact inc_ent (by omega)|exact Ent.nil rfl|exact Ent.of_eq (congrArg (AV.osl _ _ _) (by first|omega|(dsimp only;omega)))|exact Ent.of_eq (congrArg (AV.int _) (by first|omega|(dsimp only;omega))))|refine And.intro ?_ ?_)) (by exact ⟨ObEnt.zero,trivial⟩)
  intro x0
  try (have q0:=x0.2;dsimp only at q0)
  apply n_bd ((x0.1:Int)<(n:Int))
  ·intro g1
   apply n_req (0≤(x0.1:Int)∧(x0.1:Int)<(n:Int))
   apply n_dc (rencN_c (f (toNat (↑x0.1:Int))))
   apply n_sc (ht (f (toNat (↑x0.1:Int))))
   apply n_req ((x0.1+1)*32≤140737488355328)
   exact n_againx [105] (⟨x0.1+1,by omega⟩) [.isl 1 n fun i x=>Zi (f i),.osl 0 32 0 (x0.1+1),Zi (wrap .i64 ((x0.1:Int)+1))] [some ⟨32,x0.1+1,true,Rep.cat x0.1 (Rep.row fun i=>u8c (leafF (f i))) (.lst [u8c (tagF (String.toUTF8 "specie/leaf") (List.length (It.enc (It.int (f (toNat (x0.1:Int)))))) fun i=>List.getD (It.enc (It.int (f (toNat (x0.1:Int))))) i (0:Int))])⟩] (by repeat' (first|exact trivial|(first|exact Ent.refl _|exact inc_ent (by omega)|exact Ent.nil rfl|exact Ent.of_eq (congrArg (AV.osl _ _ _) (by first|omega|(dsimp only;omega)))|exact Ent.of_eq (congrArg (AV.int _) (by first|omega|(dsimp only;omega))))|refine And.intro ?_ ?_)) (by exact ⟨ObEnt.catRow rfl (fun _ _=>EntL.refl _) (EntL.refl _),trivial⟩) (by (dsimp only;omega))
  ·intro g1
   exact n_outx (.isl 32 x0.1 fun r k=>atL (u8c (leafF (f (r+0)))) k) (hsl_out (by omega)))
theorem pel1_c (G:Grp) (x:Int) (h:G.Ok) (hw:G.W):Pure Tryz.prog gl0 390 [.int .i64 x,.ipt 3 (atL G.cells)] (.bool (!elemB G x)):=by
 have hg:=validG_iff.2 h
 exact pz Tryz.func390 (by
  apply n_sc ((contains_c G) (x) (by assumption))
  exact n_outx (.bool !(validG G&&elemB G x)) (Ent.of_eq (congrArg _ (by rw [hg,Bool.true_and]))))
theorem pex1_c (G:Grp) (x:Int):Pure Tryz.prog gl0 391 [.int .i64 x,.ipt 3 (atL G.cells)] (.bool (decide (x<0)||decide (x≥G.q))):=by
 exact pz Tryz.func391 (by
  exact n_or)
theorem pel_c (G:Grp) (n:Nat) (f:Nat→Int) (hn:n≤1000) (h:G.Ok) (hw:G.W) (hf:∀ i,i<n→elemB G (f i)=true):Pure Tryz.prog gl0 376 [G.av,.isl 1 n fun i _=>.int .i64 (f i)] (.bool true):=by
 have c1:=conI_w 390 3 (atL G.cells) f n (fun i => !elemB G (f i)) hn (fun i _=>pel1_c G (f i) h hw)
 have e:=fst_no (p:=fun i => !elemB G (f i)) (n:=n) (fun i hi=>by rw [hf i hi];rfl)
 exact pz Tryz.func376 (by
  apply n_sc (c1)
  exact n_outx (.bool !decide (firstI (fun i => !elemB G (f i)) n 0≥0)) (Ent.of_eq (congrArg _ (by rw [e];rfl))))
theorem pex_c (G:Grp) (a c:Int):Pure Tryz.prog gl0 377 [G.av,.isl 1 2 fun i _=>.int .i64 (sel2 a c i)] (.bool (scaB G a&&scaB G c)):=by
 have c1:=conI_w 391 3 (atL G.cells) (sel2 a c) 2 (fun i=>decide (sel2 a c i<0)||decide (sel2 a c i≥G.q)) (by decide) (fun i _=>pex1_c G (sel2 a c i))
 have e:=fst_2 (p:=fun i=>decide (sel2 a c i<0)||decide (sel2 a c i≥G.q))
 exact pz Tryz.func377 (by
  apply n_sc (c1)
  exact n_outx (.bool !decide (firstI (fun i=>decide (sel2 a c i<0)||decide (sel2 a c i≥G.2)) 2 0≥0)) (Ent.of_eq (congrArg _ (by rw [e,sca_n,sca_n,← Bool.not_and,Bool.not_not];rfl))))
theorem powers_c (G:Grp) (f e:Nat→Int) (h:G.Ok) (hw:G.W) (hf:∀ i,i<2→elemB G (f i)=true) (he:∀ i,i<2→0≤e i∧e i<G.q):Pure Tryz.prog gl0 378 [G.av,.isl 1 2 fun i _=>.int .i64 (f i),.isl 1 2 fun i _=>.int .i64 (e i)] (.tup [.int .i64 (prdF G f e 2),.int .i64 0]):=by
 exact pz Tryz.func378 (by
  apply n_loop ({ x:Nat // x≤2 }) [2,3,13,14,8,15] ([0]) (fun x=>[AV.isl 1 2 fun (i x:Nat)=>Zi (e i),AV.own 0 3 0 0 3,AV.isl 1 2 fun (i x:Nat)=>Zi (f i),Zi (↑(2):Int),Zi (prdF G f e (x.1)),Zi (↑(x.1):Int)]) (fun _=>[some ⟨3,1,true,Rep.lst [[Zi (Grp.p G),Zi (Grp.q G),Zi (Grp.g G)]]⟩]) (fun x=>2 - x.1) (⟨0,Nat.zero_le 2⟩)
  intro x0
  try (have q0:=x0.2;dsimp only at q0)
  apply n_bd ((↑x0.1:Int)<(↑(2):Int))
  ·intro g1
   apply n_req ((0:Int)≤(↑x0.1:Int)∧(↑x0.1:Int)<(↑(2):Int))
   apply n_req ((0:Int)≤(↑x0.1:Int)∧(↑x0.1:Int)<(↑(2):Int))
   apply n_sc ((gpow_c G) (f (toNat (↑x0.1:Int))) (e (toNat (↑x0.1:Int))) (by assumption) (by assumption) (by exact hf _ (by omega)) (by exact he _ (by omega)))
   apply n_ff
   apply n_sc ((gmul_c G) (prdF G f e x0.1) (f (toNat (↑x0.1:Int))^toNat (e (toNat (↑x0.1:Int)))%G.1) (by assumption) (by assumption) (by exact elem_prd h hf _ (by omega)) (by exact elem_pow h (hf _ (by omega)) _))
   apply n_ff
   exact n_againx ([0]) (⟨x0.1+1,by omega⟩) ([AV.isl 1 2 fun (i x:Nat)=>Zi (e i),AV.own 0 3 0 0 3,AV.isl 1 2 fun (i x:Nat)=>Zi (f i),Zi (↑(2):Int),Zi (prdF G f e x0.1*(f (toNat (↑x0.1:Int))^toNat (e (toNat (↑x0.1:Int)))%G.1)%G.1),Zi (wrap .i64 ((↑x0.1:Int)+1))]) ([some ⟨3,1,true,Rep.lst [[Zi (Grp.p G),Zi (Grp.q G),Zi (Grp.g G)]]⟩]) (⟨.refl _,.refl _,.refl _,.refl _,.refl _,inc_ent (by omega),trivial⟩) (⟨.refl _,trivial⟩) (by dsimp only;omega)
  ·intro g1
   exact n_outx (AV.tup [Zi (prdF G f e x0.1),Zi 0]) (by exact Ent.of_eq (by rw [show x0.1=2 by omega])))
theorem product2_c (b:Bas) (r1 r2:Int) (hw:b.gr.W) (hv:validB b=true):Pure Tryz.prog gl0 354 [b.gr.av,.isl 1 2 fun i _=>.int .i64 (sel2 b.g1 b.g2 i),.isl 1 2 fun i _=>.int .i64 (sel2 r1 r2 i)] (.tup [.int .i64 (pr2V b r1 r2),.int .i64 (pr2E b r1 r2)]):=by
 have h:=validB_iff.1 hv
 have hf:∀ i,i<2→elemB b.gr (sel2 b.g1 b.g2 i)=true:=fun i hi=>match i,hi with|0,_=>h.e1|1,_=>h.e2
 have hg:=validG_iff.2 h.G
 have c1:=pel_c b.gr 2 (sel2 b.g1 b.g2) (by decide) h.G hw hf
 have c2:=pex_c b.gr r1 r2
 have c3:=fun he=>powers_c b.gr (sel2 b.g1 b.g2) (sel2 r1 r2) h.G hw hf he
 exact pz Tryz.func354 (by
  apply n_sc ((gvalid_c (Bas.gr b)) (by assumption))
  apply n_br (!validG b.1||false)
  ·intro g1
   exact n_no (by simp [hg] at g1)
  ·intro g1
   apply n_ff
   apply n_sc (c1)
   apply n_sc (c2)
   apply n_br (!(scaB b.1 r1&&scaB b.1 r2))
   ·intro g6
    exact n_outx (.tup [Zi 0,Zi 2]) (Ent.of_eq (by rw [(pr2_no g6).1,(pr2_no g6).2]))
   ·intro g6
    apply n_sc (c3 (sca_sel g6))
    exact n_outx (.tup [Zi (prdF b.1 (sel2 b.2 b.3) (sel2 r1 r2) 2),Zi 0]) (Ent.of_eq (by rw [(pr2_ok g6).1,(pr2_ok g6).2,prd_2 h.G];rfl)))
theorem check2_c (b:Bas) (y r1 r2:Int) (hw:b.gr.W) (hv:validB b=true):Pure Tryz.prog gl0 309 [b.gr.av,.int .i64 y,.isl 1 2 fun i _=>.int .i64 (sel2 b.g1 b.g2 i),.isl 1 2 fun i _=>.int .i64 (sel2 r1 r2 i)] (.bool (chk2 b y r1 r2)):=by
 have c1:=product2_c b r1 r2 hw hv
 exact pz Tryz.func309 (by
  apply n_sc (c1)
  exact n_out (Ent.of_eq (congrArg _ chk2_eq)))
theorem check2_l (b:Bas) (y r1 r2:Int) (hw:b.gr.W) (hv:validB b=true):Pure Tryz.prog gl0 309 [b.gr.av,.int .i64 y,.isl 1 2 fun r k=>atL (List.getD [[.int .i64 b.g1],[.int .i64 b.g2]] r []) k,.isl 1 2 fun r k=>atL (List.getD [[.int .i64 r1],[.int .i64 r2]] r []) k] (.bool (chk2 b y r1 r2)) :=
 (check2_c b y r1 r2 hw hv).via ⟨Ent.refl _,Ent.refl _,sel_isl,sel_isl,trivial⟩
theorem sright_c (b:Bas) (a k x r1 r2:Int) (hw:b.gr.W) (hv:validB b=true) (ha:elemB b.gr a=true) (hk:0≤k∧k<b.gr.q):Pure Tryz.prog gl0 252 [b.av,.int .i64 a,.int .i64 k,.agg [.int .i64 x,.int .i64 r1,.int .i64 r2]] (.bool (leafB b a k x r1 r2)):=by
 have h:=validB_iff.1 hv
 have hg:=validG_iff.2 h.G
 have c1:=contains_c b.gr x hw
 have c2:=gpow_c b.gr a k h.G hw ha hk
 have c3:=fun hx=>gmul_c b.gr (a^k.toNat%b.gr.p) x h.G hw (elem_pow h.G ha _) hx
 have c4:=check2_l b (a^k.toNat%b.gr.p*x%b.gr.p) r1 r2 hw hv
 rw [hg,Bool.true_and] at c1
 exact pz Tryz.func252 (by
  apply n_sc (c1)
  apply n_br (!elemB b.1 x)
  ·intro g1
   exact n_outx (.bool false) (Ent.of_eq (congrArg _ (by unfold leafB;rw [g1];rfl)))
  ·intro g1
   apply n_sc (c2)
   apply n_ff
   apply n_sc (c3 (g1))
   apply n_sc (c4)
   exact n_outx (.bool (chk2 b (a^toNat k%(Bas.gr b).1*x%(Bas.gr b).1) r1 r2)) (Ent.of_eq (congrArg _ (by unfold leafB;rw [g1];rfl))))
theorem r10pow_c (G:Grp) (a e:Int) (h:G.Ok) (ha:0≤a∧a<G.p) (he:0≤e∧e<G.q):Pure Tryz.prog gl0 223 [G.av,.int .i64 a,.int .i64 e] (.int .i64 (a^e.toNat%G.p)):=by
 have k1:=h.p1;have k2:=h.qp;have k3:=h.p3
 have hr:=rreduce_c e G.q (by omega) (by omega)
 rw [red_q he] at hr
 exact pz Tryz.func223 (by
  apply n_sc (hr)
  apply n_sc (rpow_c (a) (e) (G.1) (by omega) (by omega) (by omega) (by omega) (by assumption))
  exact n_or)
theorem r10mul_c (G:Grp) (a c:Int) (h:G.Ok) (ha:0≤a∧a<G.p) (hc:0≤c∧c<G.p):Pure Tryz.prog gl0 222 [G.av,.int .i64 a,.int .i64 c] (.int .i64 (a*c%G.p)):=by
 have k1:=h.p1;have k3:=h.p3
 exact pz Tryz.func222 (by
  apply n_sc (rmul_c (a) (c) (G.1) (by omega) (by omega) (by omega) (by omega) (by assumption))
  exact n_or)
theorem rscal31_c (G:Grp) (x:Int):Pure Tryz.prog gl0 221 [G.av,.int .i64 x] (.bool (scaB G x)):=by
 exact pz Tryz.func221 (by
  exact n_or)
theorem rleaf_c (b:Bas) (a k x r1 r2:Int) (h:b.Ok) (ha:elemB b.gr a=true) (hk:0≤k∧k<b.gr.q):Pure Tryz.prog gl0 151 [b.av,.int .i64 a,.int .i64 k,.agg [.int .i64 x,.int .i64 r1,.int .i64 r2]] (.bool (leafB b a k x r1 r2)):=by
 have e1:=el_bnd h.G h.e1
 have e2:=el_bnd h.G h.e2
 have ea:=el_bnd h.G ha
 exact pz Tryz.func151 (by
  apply n_sc ((member_c (Bas.gr b)) (x) (by exact h.G))
  apply n_scg ((!elemB b.1 x)==false) (fun h1=>(rscal31_c (Bas.gr b)) (r1))
  apply n_scg ((!elemB b.1 x || !scaB b.1 r1)==false) (fun h2=>(rscal31_c (Bas.gr b)) (r2))
  apply n_br (!elemB b.1 x || !scaB b.1 r1 || !scaB b.1 r2)
  ·intro g3
   exact n_out (Ent.of_eq (congrArg _ (leaf_no g3).symm))
  ·intro g3
   apply n_sc ((r10pow_c (Bas.gr b)) (b.2) (r1) (by exact h.G) (by assumption) (by exact sca_iff.1 g3.1.2))
   apply n_sc ((r10pow_c (Bas.gr b)) (b.3) (r2) (by exact h.G) (by assumption) (by exact sca_iff.1 g3.2))
   apply n_sc ((r10mul_c (Bas.gr b)) (b.2^toNat r1%(Bas.gr b).1) (b.3^toNat r2%(Bas.gr b).1) (by exact h.G) (by exact mod_bnd h.G _) (by exact mod_bnd h.G _))
   apply n_sc ((r10pow_c (Bas.gr b)) (a) (k) (by exact h.G) (by assumption) (by assumption))
   apply n_sc ((r10mul_c (Bas.gr b)) (a^toNat k%(Bas.gr b).1) (x) (by exact h.G) (by exact mod_bnd h.G _) (by exact el_bnd h.G g3.1.1))
   exact n_out (Ent.of_eq (congrArg _ (leaf_eq g3))))
theorem rkexp_c (G:Grp) (c:Int):Pure Tryz.prog gl0 324 [G.av,.int .i64 c] (.bool (scaB G c)):=by
 exact pz Tryz.func324 (by
  exact n_or)
theorem rkbase_c (G:Grp) (b:Int) (h:G.Ok):Pure Tryz.prog gl0 323 [G.av,.int .i64 b] (.bool (msgB G b)):=by
 have c1:=member_c G b h
 exact pz Tryz.func323 (by
  apply n_scg ((b != 1)==true) (fun h0=>c1)
  exact n_or)
theorem rgiven_c (G:Grp) (b y:Int) (hw:G.W):Pure Tryz.prog gl0 267 [G.av,.int .i64 b,.int .i64 y] (.int .i64 (kgE G b y)):=by
 have c1:=r10valid_c G hw
 have c2:=fun h=>rkbase_c G b h
 have c3:=fun h=>member_c G y h
 exact pz Tryz.func267 (by
  apply n_sc (c1)
  apply n_br (!validG G)
  ·intro g1
   exact n_out (Ent.of_eq (congrArg _ (kgE_1 g1).symm))
  ·intro g1
   apply n_sc (c2 (by grind [validG_iff]))
   apply n_scg ((!msgB G b)==false) (fun h4=>c3 (by grind [validG_iff]))
   apply n_br (!msgB G b || !elemB G y)
   ·intro g5
    exact n_out (Ent.of_eq (congrArg _ (kgE_n g1 g5).symm))
   ·intro g5
    exact n_out (Ent.of_eq (congrArg _ (kgE_p g1 g5).symm)))
theorem rkform_c (G:Grp) (p:Pf) (h:G.Ok):Pure Tryz.prog gl0 268 [G.av,.agg p.cells] (.bool (kfmB G p)):=by
 have c1:=member_c G (p.a 0) h
 have c2:=rkexp_c G
 exact pz Tryz.func268 (by
  apply n_req ((((p.1:Int)==1&&(p.4:Int)==1)==true)=true→(0:Int)≤0∧(0:Int)<(p.1:Int)) (fun hr=>by have hr:=(cnd_eqt_t (cnd_and_t cnd_beq_t cnd_beq_t)) hr;omega)
  apply n_scg (((p.1:Int)==1&&(p.4:Int)==1)==true) (fun h1=>c1)
  apply n_scg (((p.1:Int)==1&&(p.4:Int)==1&&elemB G (p.2 0))==true) (fun h2=>c2 (p.3))
  apply n_req ((((p.1:Int)==1&&(p.4:Int)==1&&elemB G (p.2 0)&&scaB G p.3)==true)=true→(0:Int)≤0∧(0:Int)<(p.4:Int)) (fun hr=>by have hr:=(cnd_eqt_t (cnd_and_t (cnd_and_t (cnd_and_t cnd_beq_t cnd_beq_t) cnd_id_t) cnd_id_t)) hr;omega)
  apply n_scg (((p.1:Int)==1&&(p.4:Int)==1&&elemB G (p.2 0)&&scaB G p.3)==true) (fun h4=>c2 (p.5 (0)))
  exact n_out (Ent.of_eq (congrArg _ kfmR)))
theorem rkcheck_c (G:Grp) (b y:Int) (p:Pf) (hw:G.W):Pure Tryz.prog gl0 209 [G.av,.int .i64 b,.int .i64 y,.agg p.cells] (.bool (kckB G b y p)):=by
 have c1:=rgiven_c G b y hw
 have c2:=fun h=>rkform_c G p h
 have c3:=fun x e h hx he=>r10pow_c G x e h hx he
 have c4:=fun x z h hx hz=>r10mul_c G x z h hx hz
 exact pz Tryz.func209 (by
  apply n_sc (c1)
  apply n_scg ((kgE G b y != 0)==false) (fun h1=>c2 ((validG_iff.1 (kgv_iff.1 (kgE_0 (by simpa using h1))).1)))
  apply n_br (kgE G b y != 0 || !kfmB G p)
  ·intro g2
   exact n_out (Ent.of_eq (congrArg _ (kck_kn g2).symm))
  ·intro g2
   apply n_req ((0:Int)≤0∧(0:Int)<(p.4:Int)) (by have k:=(kck_kv g2.1 g2.2);have:=k.na;have:=k.nz;omega)
   apply n_sc (c3 (b) (p.5 (0)) (by have k:=(kck_kv g2.1 g2.2);have G':=validG_iff.1 k.vg;first|exact G'|exact sca_rng k.z|exact sca_rng k.c|exact el_bnd G' k.eb|exact el_bnd G' k.ey|exact el_bnd G' k.a|exact mod_bnd G' _) (by have k:=(kck_kv g2.1 g2.2);have G':=validG_iff.1 k.vg;first|exact G'|exact sca_rng k.z|exact sca_rng k.c|exact el_bnd G' k.eb|exact el_bnd G' k.ey|exact el_bnd G' k.a|exact mod_bnd G' _) (by have k:=(kck_kv g2.1 g2.2);have G':=validG_iff.1 k.vg;first|exact G'|exact sca_rng k.z|exact sca_rng k.c|exact el_bnd G' k.eb|exact el_bnd G' k.ey|exact el_bnd G' k.a|exact mod_bnd G' _))
   apply n_req ((0:Int)≤0∧(0:Int)<(p.1:Int)) (by have k:=(kck_kv g2.1 g2.2);have:=k.na;have:=k.nz;omega)
   apply n_sc (c3 (y) (p.3) (by have k:=(kck_kv g2.1 g2.2);have G':=validG_iff.1 k.vg;first|exact G'|exact sca_rng k.z|exact sca_rng k.c|exact el_bnd G' k.eb|exact el_bnd G' k.ey|exact el_bnd G' k.a|exact mod_bnd G' _) (by have k:=(kck_kv g2.1 g2.2);have G':=validG_iff.1 k.vg;first|exact G'|exact sca_rng k.z|exact sca_rng k.c|exact el_bnd G' k.eb|exact el_bnd G' k.ey|exact el_bnd G' k.a|exact mod_bnd G' _) (by have k:=(kck_kv g2.1 g2.2);have G':=validG_iff.1 k.vg;first|exact G'|exact sca_rng k.z|exact sca_rng k.c|exact el_bnd G' k.eb|exact el_bnd G' k.ey|exact el_bnd G' k.a|exact mod_bnd G' _))
   apply n_sc (c4 (p.2 (0)) (y^toNat p.3%G.1) (by have k:=(kck_kv g2.1 g2.2);have G':=validG_iff.1 k.vg;first|exact G'|exact sca_rng k.z|exact sca_rng k.c|exact el_bnd G' k.eb|exact el_bnd G' k.ey|exact el_bnd G' k.a|exact mod_bnd G' _) (by have k:=(kck_kv g2.1 g2.2);have G':=validG_iff.1 k.vg;first|exact G'|exact sca_rng k.z|exact sca_rng k.c|exact el_bnd G' k.eb|exact el_bnd G' k.ey|exact el_bnd G' k.a|exact mod_bnd G' _) (by have k:=(kck_kv g2.1 g2.2);have G':=validG_iff.1 k.vg;first|exact G'|exact sca_rng k.z|exact sca_rng k.c|exact el_bnd G' k.eb|exact el_bnd G' k.ey|exact el_bnd G' k.a|exact mod_bnd G' _))
   exact n_out (Ent.of_eq (congrArg _ (kck_t (kck_kv g2.1 g2.2)).symm)))
theorem rkchal_w (G:Grp) (b y:Int) (s:ByteArray) (n:Nat) (f:Nat→Int) (N A B C:Nat→Int) (c:Int)
  (c1:Pure Tryz.prog gl0 269 [.str s] (.agg (u8c N++[.int .i64 0])))
  (c2:Pure Tryz.prog gl0 270 [.agg (u8c N++[.int .i64 0]),.str "group".toUTF8,.isl 1 3 fun r k=>atL (List.getD [[.int .i64 G.p],[.int .i64 G.q],[.int .i64 G.g]] r []) k] (.tup [.agg (u8c A++[.int .i64 1]),.int .i64 0]))
  (c3:Pure Tryz.prog gl0 270 [.agg (u8c A++[.int .i64 1]),.str "statement".toUTF8,.isl 1 2 fun r k=>atL (List.getD [[.int .i64 b],[.int .i64 y]] r []) k] (.tup [.agg (u8c B++[.int .i64 2]),.int .i64 0]))
  (c4:Pure Tryz.prog gl0 270 [.agg (u8c B++[.int .i64 2]),.str "commitment".toUTF8,.isl 1 n fun r _=>.int .i64 (f r)] (.tup [.agg (u8c C++[.int .i64 3]),.int .i64 0]))
  (D:Nat→Int) (c5:Pure Tryz.prog gl0 271 [.agg (u8c C++[.int .i64 3]),.str "challenge".toUTF8,.int .i64 G.q] (.tup [.agg (u8c D++[.int .i64 4]),.int .i64 c,.int .i64 0])) :
  Pure Tryz.prog gl0 210 [G.av,.int .i64 b,.int .i64 y,.str s,.isl 1 n fun r _=>.int .i64 (f r)] (.int .i64 c):=by
 exact pz Tryz.func210 (by
  apply n_sc (c1)
  apply n_sc (c2)
  apply n_sc (c3)
  apply n_sc (c4)
  apply n_sc (c5)
  exact n_or)
theorem rkchal_c (G:Grp) (b y:Int) (p:Pf) (s:ByteArray) (hl:labB s=true) (hG:G.Ok) (hn:p.na=1) :
  Pure Tryz.prog gl0 210 [G.av,.int .i64 b,.int .i64 y,.str s,.isl 1 p.na fun r _=>.int .i64 (p.a r)] (.int .i64 (kchN G b y (p.a 0) s)):=by
 obtain ⟨na,a,c,nz,z⟩:=p
 obtain rfl:na=1:=hn
 have k1:=rints08_c "group".toUTF8 (newF s) 0 (by decide) (by decide +kernel) (newF_by s) [G.p,G.q,G.g] (Nat.le_of_ble_eq_true rfl)
 have k2:=rints08_c "statement".toUTF8 (absF (newF s) "group".toUTF8 (intsI [G.p,G.q,G.g])) 1 (by decide) (by decide +kernel) (absF_by _ _ _) [b,y] (Nat.le_of_ble_eq_true rfl)
 have k3:=rints08_c "commitment".toUTF8 (absF (absF (newF s) "group".toUTF8 (intsI [G.p,G.q,G.g])) "statement".toUTF8 (intsI [b,y])) 2 (by decide) (by decide +kernel) (absF_by _ _ _) [a 0] (Nat.le_of_ble_eq_true rfl)
 exact rkchal_w G b y s 1 a _ _ _ _ _ (rnew_c s hl) (k1.via ⟨Ent.refl _,Ent.refl _,il_rows rfl rfl,trivial⟩) (k2.via ⟨Ent.refl _,Ent.refl _,il_rows rfl rfl,trivial⟩)
  (k3.via ⟨Ent.refl _,Ent.refl _,Ent.isl fun i k hi hk=>by obtain rfl:i=0:=Nat.lt_one_iff.1 hi;rfl,trivial⟩) _ (rtchal_c "challenge".toUTF8 _ 3 (by decide) (by decide +kernel) (absF_by _ _ _) G.q ⟨by have:=hG.q3;omega,by have:=hG.qp;have:=hG.p1;omega⟩)
theorem rkver_c (G:Grp) (b y:Int) (s:ByteArray) (p:Pf) (hl:labB s=true) (hw:G.W):Pure Tryz.prog gl0 139 [G.av,.int .i64 b,.int .i64 y,.str s,.agg p.cells] (.bool (kvrB G b y s p)):=by
 have c1:=rkcheck_c G b y p hw
 have c2:=fun hG hn=>rkchal_c G b y p s hl hG hn
 have c3:=rlab_c s (by have:=(lab_V hl).hi;omega)
 rw [hl] at c3
 exact pz Tryz.func139 (by
  apply n_sc (c3)
  apply n_sc (c1)
  apply n_scg (kckB G b y p==true) (fun h2=>c2 ((validG_iff.1 (kck_V (by simpa using h2)).vg)) (((kck_V (by simpa using h2)).na)))
  exact n_outx (.bool (kckB G b y p&&p.3==kchN G b y (p.2 0) s)) (Ent.of_eq (congrArg AV.bool (by unfold kvrB;congr 1;exact BEq.comm))))
theorem amsgX_c (b:Bas) (x:Int) (hw:b.gr.W):Pure Tryz.prog gl0 184 [b.av,.int .i64 x] (.tup [.int .i64 (akM b x),.int .i64 (akE b x)]):=by
 have c1:=bvalid_c b hw
 have c2:=contains_c b.gr x hw
 have c3:=fun h h'=>gmul_c b.gr x b.g2 h hw h'
 exact pz Tryz.func184 (by
  apply n_sc (c1)
  apply n_br (!validB b)
  ·intro g1
   exact n_out ((by exact Ent.of_eq (ak_1 g1)))
  ·intro g1
   apply n_scg ((x==1)==false) (fun h3=>c2)
   apply n_br (x==1 || !(validG b.1&&elemB b.1 x))
   ·intro g4
    exact n_out ((by exact Ent.of_eq (ak_2 g1 g4)))
   ·intro g4
    apply n_sc (c3 (by exact (validB_iff.1 g1).G) (by exact g4.2.2) (by exact (validB_iff.1 g1).e2))
    apply n_ff
    apply n_br (x*b.3%(Bas.gr b).1==1)
    ·intro g8
     exact n_out ((by exact Ent.of_eq (ak_3 g1 g4 g8)))
    ·intro g8
     exact n_out ((by exact Ent.of_eq (ak_4 g1 g4 g8))))
theorem accL:labB accS=true:=by decide +kernel
theorem aval_c (b:Bas) (y:Int) (p:Pf) (hw:b.gr.W):Pure Tryz.prog gl0 113 [b.av,.agg (.int .i64 y::p.cells)] (.bool (accB b y p)):=by
 have c1:=amsgX_c b y hw
 have c2:=kver_c b.gr b.g1 y accS p accL hw
 exact pz Tryz.func113 (by
  apply n_sc (c1)
  apply n_scg ((akE b y==0)==true) (fun h1=>c2)
  exact n_outx (.bool (akE b y==0&&kvrB b.1 b.2 y accS p)) (Ent.of_eq (congrArg AV.bool (by unfold accB;rw [akE_B]))))
theorem rtimesX_c (b:Bas) (x:Int) (h:b.Ok) (he:elemB b.gr x=true):Pure Tryz.prog gl0 142 [b.av,.int .i64 x] (.int .i64 (timB b x b.g2)):=by
 have x1:=elem_bnd h.G he
 have x2:=elem_bnd h.G h.e2
 have k1:=h.G.p1
 have c3:=rmul_c x b.g2 b.gr.p (by omega) (by omega) (by omega) (by omega) (by omega)
 exact pz Tryz.func142 (by
  apply n_sc (c3)
  exact n_or)
theorem risk_c (b:Bas) (x:Int) (h:b.Ok):Pure Tryz.prog gl0 138 [b.av,.int .i64 x] (.bool (akB b x)):=by
 have c1:=member_c b.gr x h.G
 have c2:=fun he=>rtimesX_c b x h he
 have k:=validB_iff.2 h
 exact pz Tryz.func138 (by
  apply n_scg ((x != 1)==true) (fun h0=>c1)
  apply n_scg ((x != 1&&elemB b.1 x)==true) (fun h1=>c2 ((by simp at h1;exact h1.2)))
  exact n_out (Ent.of_eq (congrArg AV.bool (by unfold akB msgB;rw [k,Bool.true_and]))))
theorem raval_c (b:Bas) (y:Int) (p:Pf) (hw:b.gr.W):Pure Tryz.prog gl0 70 [b.av,.agg (.int .i64 y::p.cells)] (.bool (accB b y p)):=by
 have c0:=r11valid_c b hw
 have c1:=fun h=>risk_c b y h
 have c2:=rkver_c b.gr b.g1 y accS p accL hw
 exact pz Tryz.func70 (by
  apply n_sc (c0)
  apply n_scg (validB b==true) (fun h1=>c1 ((validB_iff.1 (by simpa using h1))))
  apply n_scg ((validB b&&akB b y)==true) (fun h2=>c2)
  exact n_outx (.bool (validB b&&akB b y&&kvrB b.1 b.2 y accS p)) (Ent.of_eq (congrArg AV.bool (by unfold accB akB;cases validB b<;>rfl))))
theorem nonz_c (b:Bas) (x:Int):Pure Tryz.prog gl0 176 [b.av,.int .i64 x] (.bool (nzB b x)):=by
 exact pz Tryz.func176 (by
  exact n_out (Ent.of_eq (congrArg AV.bool (by unfold nzB;congr 1))))
theorem rsec_c (b:Bas) (x:Int):Pure Tryz.prog gl0 29 [b.gr.av,.int .i64 x] (.bool (nzB b x)):=by
 exact pz Tryz.func29 (by
  exact n_or)
theorem rkeyK_c (b:Bas) (x:Int) (h:b.Ok) (hx:nzB b x=true):Pure Tryz.prog gl0 68 [b.av,.int .i64 x] (.agg [.int .i64 (powB b b.gr.g x),.int .i64 (powB b b.g1 x),.int .i64 (powB b b.g2 x)]):=by
 have c1:=rpowR_c b.gr
 have k1:=bas_rng h
 exact pz Tryz.func68 (by
  apply n_sc (c1 ((Bas.gr b).3) (x) (by exact h.G) (by exact k1.1) (by exact nz_rng hx))
  apply n_sc (c1 (b.2) (x) (by exact h.G) (by exact k1.2.1) (by exact nz_rng hx))
  apply n_sc (c1 (b.3) (x) (by exact h.G) (by exact k1.2.2) (by exact nz_rng hx))
  exact n_or)
theorem keyK_c (b:Bas) (x:Int) (h:b.Ok) (hw:b.gr.W):Pure Tryz.prog gl0 110 [b.av,.int .i64 x] (.tup [.agg [.int .i64 (bif nzB b x then powB b b.gr.g x else 0),.int .i64 (bif nzB b x then powB b b.g1 x else 0),.int .i64 (bif nzB b x then powB b b.g2 x else 0)],.int .i64 (bif nzB b x then 0 else 2)]):=by
 have c0:=bvalid_c b hw
 rw [validB_iff.2 h] at c0
 have c1:=powR_c b
 have c2:=nonz_c b x
 have k1:=bas_rng h
 exact pz Tryz.func110 (by
  apply n_sc (c0)
  apply n_ff
  apply n_sc (c2)
  apply n_br (!nzB b x)
  ·intro g3
   exact n_outx (.tup [.agg [Zi 0,Zi 0,Zi 0],Zi 2]) (Ent.of_eq (by rw [g3];rfl))
  ·intro g3
   apply n_sc (c1 ((Bas.gr b).3) (x) (by exact h.G) (by exact k1.1) (by exact nz_rng g3))
   apply n_sc (c1 (b.2) (x) (by exact h.G) (by exact k1.2.1) (by exact nz_rng g3))
   apply n_sc (c1 (b.3) (x) (by exact h.G) (by exact k1.2.2) (by exact nz_rng g3))
   exact n_outx (.tup [.agg [Zi ((Bas.gr b).3^toNat x%(Bas.gr b).1),Zi (b.2^toNat x%(Bas.gr b).1),Zi (b.3^toNat x%(Bas.gr b).1)],Zi 0]) (Ent.of_eq (by rw [g3];rfl)))
end Go.Proofs.YtcageinnelhonaaGreatDoor

namespace Go.Sp
open Go.IntKind (wrap)
open Int (toNat)
open Go Go.Am
theorem cvw_0 {b:Bas} {h h1 h2 m z a c2 c r:Int} (g:keyB b h h1 h2=false∨msgB b.gr m=false∨elsB b.gr z a c2=false∨nzB b c=false∨scaB b.gr r=false):cvwB b h h1 h2 m z a c2 c r=false:=by grind [cvwB]
theorem cvw_e {b:Bas} {h h1 h2 m z a c2 c r:Int} (hk:keyB b h h1 h2=true) (hm:msgB b.gr m=true) (he:elsB b.gr z a c2=true) (hn:nzB b c=true) (hr:scaB b.gr r=true):cvwB b h h1 h2 m z a c2 c r=eqsB b h m z a c2 r c:=by grind [cvwB,eqsB,powB,timB]
theorem cvw_s {b:Bas} {h h1 h2 m z a c2 c r:Int} (hk:keyB b h h1 h2=true) (hm:msgB b.gr m=true) (he:elsB b.gr z a c2=true) (hn:nzB b c=true) (hr:scaB b.gr r=true):SigOk b h m z a c2 r c:=by
 have G:=validB_ok (key_1 hk).1
 have h1:=G.g2
 exact ⟨G,⟨by omega,G.g1⟩,msg_bnd G (key_1 hk).2,msg_bnd G hm,el_bnd G (els_1 he).1,el_bnd G (els_1 he).2.1,el_bnd G (els_1 he).2.2,sca_rng hr,nz_rng hn⟩
theorem cvw_r {b:Bas} {h h1 h2 m z a c2 c r:Int} (g:(((((((keyB b h h1 h2=true∧msgB b.gr m=true)∧elemB b.gr z=true)∧elemB b.gr a=true)∧elemB b.gr c2=true)∧¬c<1)∧¬c≥b.gr.q)∧scaB b.gr r=true)) :
  keyB b h h1 h2=true∧msgB b.gr m=true∧elsB b.gr z a c2=true∧nzB b c=true∧scaB b.gr r=true:=by grind [elsB,nzB,decide_eq_true]
theorem cvw_rn {b:Bas} {h h1 h2 m z a c2 c r:Int} (g:(((((((keyB b h h1 h2=false∨msgB b.gr m=false)∨elemB b.gr z=false)∨elemB b.gr a=false)∨elemB b.gr c2=false)∨c<1)∨c≥b.gr.q)∨scaB b.gr r=false)) :
  cvwB b h h1 h2 m z a c2 c r=false:=by
 rcases g with ((((((g|g)|g)|g)|g)|g)|g)|g
 ·grind [cvw_0]
 ·grind [cvw_0]
 ·grind [cvw_0,elsB]
 ·grind [cvw_0,elsB]
 ·grind [cvw_0,elsB]
 ·grind [cvw_0,nzB,decide_eq_false]
 ·simp_all [cvw_0,nzB,decide_eq_false,Bool.and_false]
 grind [cvw_0]
theorem allL3 {p:Int→Bool} {x0 x1 x2:Int}:allI (fun i=>p ([x0,x1,x2].getD i 0)) 3=(p x0&&p x1&&p x2):=by
 show (p x0&&(p x1&&(p x2&&true)))=_
 grind
def issC (s:Nat→Int):List AV:=[.int .i64 (s 0),.int .i64 (s 1),.int .i64 (s 2),.int .i64 (s 3),.int .i64 (s 4),.int .i64 (s 5),.int .i64 (s 6),.int .i64 (s 7),.int .i64 (s 8),.int .i64 (s 9),.int .i64 (s 10),.int .i64 (s 11),.int .i64 (s 12),.int .i64 (s 13),.int .i64 (s 14),.int .i64 (s 15),.int .i64 (s 16),.int .i64 (s 17),.int .i64 (s 18),.int .i64 (s 19),.int .i64 (s 20)]
structure VisV (b : Bas) (s : Nat → Int) : Prop where
  vb : validB b = true
  rc : rcvB b (rcdOf fun j => s (3 + j)) = true
  lo : 0 ≤ s 1
  hi : s 1 ≤ 1073741824
  sw : scaB b.gr (s 14) = true
  ak : akB b (s 2) = true
  m : s 15 = timB b (s 2) b.g2
  z : elemB b.gr (s 16) = true
  a : s 17 = powB b b.gr.g (s 14)
  c2 : s 18 = powB b (timB b (s 2) b.g2) (s 14)
def visT (b:Bas) (s:Nat→Int):Bool:=bif s 0==1 then s 19==0&&s 20==0 else bif s 0==3 then cvwB b (s 8) (s 9) (s 10) (s 15) (s 16) (s 17) (s 18) (s 19) (s 20) else false
theorem vis_V {b:Bas} {s:Nat→Int} (h:visB b s=true):VisV b s:=by
 simp only [visB,Bool.and_eq_true,decide_eq_true_eq,beq_iff_eq] at h
 obtain ⟨⟨⟨⟨⟨⟨⟨⟨⟨⟨h1,h2⟩,h3⟩,h4⟩,h5⟩,h6⟩,h7⟩,h8⟩,h9⟩,h10⟩,_⟩:=h
 exact ⟨h1,h2,h3,h4,h5,h6,h7,h8,h9,h10⟩
theorem vis_t {b:Bas} {s:Nat→Int} (h:VisV b s):visB b s=visT b s:=by
 unfold visB visT
 rw [h.vb,h.rc,decide_eq_true h.lo,decide_eq_true h.hi,h.sw,h.ak,beq_iff_eq.2 h.m,h.z,beq_iff_eq.2 h.a,beq_iff_eq.2 h.c2];rfl
theorem vis_1 {b:Bas} {s:Nat→Int} (h:VisV b s) (e:s 0=1):visB b s=(s 19==0&&s 20==0):=by simp_all [vis_t,visT]
theorem vis_3 {b:Bas} {s:Nat→Int} (h:VisV b s) (e:s 0=3):visB b s=cvwB b (s 8) (s 9) (s 10) (s 15) (s 16) (s 17) (s 18) (s 19) (s 20):=by simp_all [vis_t,visT]
theorem vis_n {b:Bas} {s:Nat→Int} (e:¬s 0=1) (e':¬s 0=3):visB b s=false:=ff_of fun h=>by grind [vis_V,vis_t,visT,beq_eq_false_iff_ne]
theorem ak_E {b:Bas} {y:Int} (h:akB b y=true):akE b y=0∧akM b y=timB b y b.g2:=by
 have e:akE b y=0:=by have:=akE_B (b:=b) (y:=y);grind
 exact ⟨e,if_pos e⟩
theorem ak_M {b:Bas} {y:Int} (h:akE b y=0):akB b y=true∧akM b y=timB b y b.g2:=by grind [akB,akE_B,ak_E]
theorem ak_el {b:Bas} {y:Int} (h:akB b y=true):elemB b.gr (timB b y b.g2)=true:=by
 have h:=ak_iff.1 h
 have B:=validB_iff.1 h.1
 exact elem_mul B.G (msg_iff.1 h.2.1).2 B.e2
end Go.Sp

namespace Go.Proofs.YtcageinnelhonaaGreatDoor
open Go.IntKind (wrap)
open Int (toNat)
open Go Go.Am Go.Sp
set_option maxRecDepth 100000
theorem elemsN_c (b:Bas) (l:List Int) (hw:b.gr.W) (hl:l.length≤1000):Pure Tryz.prog gl0 243 [b.av,il .i64 l] (.bool (allI (fun i=>elemB b.gr (l.getD i 0)) l.length)):=by
 exact pz Tryz.func243 (by
  apply n_loop ({ x:Nat // x≤List.length l∧(fun (i:Nat)=>∀ (j:Nat),j<i→elemB (Bas.gr b) (List.getD l j (0:Int))=true) x }) [2,7,8,9] [0] (fun x=>[.own 0 6 0 0 6,.isl 1 (List.length l) fun i x=>Zi (List.getD l i (0:Int)),Zi (↑(List.length l):Int),Zi x.1]) (fun _=>[some ⟨6,1,true,.lst [Bas.cells b]⟩]) (fun x=>List.length l - x.1) (⟨0,⟨Nat.zero_le (List.length l),fun (j:Nat) (hj:j<0)=>absurd hj (Nat.not_lt_zero j)⟩⟩)
  intro x0
  try (have q0:=x0.2;dsimp only at q0)
  apply n_bd ((x0.1:Int)<(↑(List.length l):Int))
  ·intro g1
   apply n_req (0≤(x0.1:Int)∧(x0.1:Int)<(↑(List.length l):Int))
   apply n_sc ((elementR_c b) (List.getD l (toNat (↑x0.1:Int)) (0:Int)) (by omega))
   apply n_br (!elemB b.1 (List.getD l (toNat (x0.1:Int)) (0:Int)))
   ·intro g4
    try simp only [Int.toNat_natCast] at g4
    exact n_outx (.bool false) (by exact Ent.of_eq (congrArg _ (allI_f (i:=x0.1) (by omega) g4).symm))
   ·intro g4
    try simp only [Int.toNat_natCast] at g4
    exact n_again [0] (⟨x0.1+1,by omega,all_next q0.2 g4⟩) (ek3 (en (inc_ent (by omega))))
  ·intro g1
   exact n_outx (.bool true) (by exact Ent.of_eq (congrArg _ (allI_t fun i hi=>q0.2 i (by omega)).symm)))
theorem elemsR3_c (b:Bas) (x0 x1 x2:Int) (hw:b.gr.W):Pure Tryz.prog gl0 243 [b.av,.isl 1 3 fun r k=>atL (List.getD [[.int .i64 x0],[.int .i64 x1],[.int .i64 x2]] r []) k] (.bool (elsB b.gr x0 x1 x2)):=by
 have:=elemsN_c b [x0,x1,x2] hw (Nat.le_of_ble_eq_true rfl)
 rw [show allI (fun i=>elemB b.gr ([x0,x1,x2].getD i 0)) [x0,x1,x2].length=elsB b.gr x0 x1 x2 from allL3] at this
 exact this.via ⟨Ent.refl _,il_rows rfl rfl,trivial⟩
theorem scalR_s (b:Bas) (r:Int):Pure Tryz.prog gl0 244 [b.av,.int .i64 r] (.bool (scaB b.gr r)):=scalR_c b r
theorem rscalR_s (G:Grp) (r:Int):Pure Tryz.prog gl0 141 [G.av,.int .i64 r] (.bool (scaB G r)):=rscalR_c G r
theorem chkv_c (b:Bas) (k0 k1 k2 m z a c2 c r:Int) (hw:b.gr.W) :
  Pure Tryz.prog gl0 192 [b.av,.agg [.int .i64 k0,.int .i64 k1,.int .i64 k2],.agg [.int .i64 m,.int .i64 z,.int .i64 a,.int .i64 c2,.int .i64 c,.int .i64 r]] (.bool (cvwB b k0 k1 k2 m z a c2 c r)):=by
 have hv:=validR_c b k0 k1 k2 hw
 have hm:=messageR_c b m hw
 have he:=elemsR3_c b z a c2 hw
 have hn:=nonz_c b c
 have hs:=scalR_s b r
 have K:=fun (g:(((keyB b k0 k1 k2=true∧msgB b.gr m=true)∧elsB b.gr z a c2=true)∧nzB b c=true)∧scaB b.gr r=true)=>cvw_s g.1.1.1.1 g.1.1.1.2 g.1.1.2 g.1.2 g.2
 exact pz Tryz.func192 (by
  apply n_sc (hv)
  apply n_scg ((!keyB b k0 k1 k2)==false) (fun h1=>hm)
  apply n_scg ((!keyB b k0 k1 k2 || !msgB b.1 m)==false) (fun h2=>he)
  apply n_scg ((!keyB b k0 k1 k2 || !msgB b.1 m || !elsB b.1 z a c2)==false) (fun h3=>hn)
  apply n_scg ((!keyB b k0 k1 k2 || !msgB b.1 m || !elsB b.1 z a c2 || !nzB b c)==false) (fun h4=>hs)
  apply n_br (!keyB b k0 k1 k2 || !msgB b.1 m || !elsB b.1 z a c2 || !nzB b c || !scaB b.1 r)
  ·intro g5
   exact n_out (Ent.of_eq (congrArg _ (cvw_0 (by grind)).symm))
  ·intro g5
   apply n_sc ((powR_c b) ((Bas.gr b).3) (r) (by cases K g5;omega) (by cases K g5;omega) (by cases K g5;omega))
   apply n_sc ((prodR_c b) (k0) (c) (a) (by cases K g5;omega) (by cases K g5;omega) (by cases K g5;omega) (by cases K g5;omega))
   apply n_scg (((Bas.gr b).3^toNat r%(Bas.gr b).1==k0^toNat c%(Bas.gr b).1*a%(Bas.gr b).1)==true) (fun h9=>(powR_c b) (m) (r) (by cases K g5;omega) (by cases K g5;omega) (by cases K g5;omega))
   apply n_scg (((Bas.gr b).3^toNat r%(Bas.gr b).1==k0^toNat c%(Bas.gr b).1*a%(Bas.gr b).1)==true) (fun h10=>(prodR_c b) (z) (c) (c2) (by cases K g5;omega) (by cases K g5;omega) (by cases K g5;omega) (by cases K g5;omega))
   exact n_out (Ent.of_eq (congrArg _ (cvw_e g5.1.1.1.1 g5.1.1.1.2 g5.1.1.2 g5.1.2 g5.2).symm)))
theorem rchkv_c (b:Bas) (k0 k1 k2 m z a c2 c r:Int) (hw:b.gr.W) :
  Pure Tryz.prog gl0 144 [b.av,.agg [.int .i64 k0,.int .i64 k1,.int .i64 k2],.agg [.int .i64 m,.int .i64 z,.int .i64 a,.int .i64 c2,.int .i64 c,.int .i64 r]] (.bool (cvwB b k0 k1 k2 m z a c2 c r)):=by
 have hv:=rkey_c b k0 k1 k2 hw
 have hm:=rmsg_c b.gr m
 have he:=fun x h=>member_c b.gr x h
 have hs:=rscalR_s b.gr r
 have L:=fun g=>cvw_r (b:=b) (h:=k0) (h1:=k1) (h2:=k2) (m:=m) (z:=z) (a:=a) (c2:=c2) (c:=c) (r:=r) g
 exact pz Tryz.func144 (by
  apply n_sc (hv)
  apply n_scg ((!keyB b k0 k1 k2)==false) (fun h1=>hm (by (refine (validB_iff.1 (key_1 (h0:=k0) (k1:=k1) (k2:=k2) ?_).1).G;grind)))
  apply n_scg ((!keyB b k0 k1 k2 || !msgB b.1 m)==false) (fun h2=>he (z) (by (refine (validB_iff.1 (key_1 (h0:=k0) (k1:=k1) (k2:=k2) ?_).1).G;grind)))
  apply n_scg ((!keyB b k0 k1 k2 || !msgB b.1 m || !elemB b.1 z)==false) (fun h3=>he (a) (by (refine (validB_iff.1 (key_1 (h0:=k0) (k1:=k1) (k2:=k2) ?_).1).G;grind)))
  apply n_scg ((!keyB b k0 k1 k2 || !msgB b.1 m || !elemB b.1 z || !elemB b.1 a)==false) (fun h4=>he (c2) (by (refine (validB_iff.1 (key_1 (h0:=k0) (k1:=k1) (k2:=k2) ?_).1).G;grind)))
  apply n_scg ((!keyB b k0 k1 k2 || !msgB b.1 m || !elemB b.1 z || !elemB b.1 a || !elemB b.1 c2||decide (c<1)||decide (c≥(Bas.gr b).2))==false) (fun h5=>hs)
  apply n_br (!keyB b k0 k1 k2 || !msgB b.1 m || !elemB b.1 z || !elemB b.1 a || !elemB b.1 c2||decide (c<1)||decide (c≥(Bas.gr b).2) || !scaB b.1 r)
  ·intro g6
   exact n_out (Ent.of_eq (congrArg _ (cvw_rn g6).symm))
  ·intro g6
   apply n_sc ((rpowR_c (Bas.gr b)) ((Bas.gr b).3) (r) (by (have l:=L g6;have K:=cvw_s l.1 l.2.1 l.2.2.1 l.2.2.2.1 l.2.2.2.2;first|(cases K;omega)|exact mod_bnd K.ok _)) (by (have l:=L g6;have K:=cvw_s l.1 l.2.1 l.2.2.1 l.2.2.2.1 l.2.2.2.2;first|(cases K;omega)|exact mod_bnd K.ok _)) (by (have l:=L g6;have K:=cvw_s l.1 l.2.1 l.2.2.1 l.2.2.2.1 l.2.2.2.2;first|(cases K;omega)|exact mod_bnd K.ok _)))
   apply n_sc ((rpowR_c (Bas.gr b)) (k0) (c) (by (have l:=L g6;have K:=cvw_s l.1 l.2.1 l.2.2.1 l.2.2.2.1 l.2.2.2.2;first|(cases K;omega)|exact mod_bnd K.ok _)) (by (have l:=L g6;have K:=cvw_s l.1 l.2.1 l.2.2.1 l.2.2.2.1 l.2.2.2.2;first|(cases K;omega)|exact mod_bnd K.ok _)) (by omega))
   apply n_sc ((rmulR_c (Bas.gr b)) (k0^toNat c%(Bas.gr b).1) (a) (by (have l:=L g6;have K:=cvw_s l.1 l.2.1 l.2.2.1 l.2.2.2.1 l.2.2.2.2;first|(cases K;omega)|exact mod_bnd K.ok _)) (by (have l:=L g6;have K:=cvw_s l.1 l.2.1 l.2.2.1 l.2.2.2.1 l.2.2.2.2;first|(cases K;assumption)|exact mod_bnd K.ok _)) (by (have l:=L g6;have K:=cvw_s l.1 l.2.1 l.2.2.1 l.2.2.2.1 l.2.2.2.2;first|(cases K;omega)|exact mod_bnd K.ok _)))
   apply n_scg (((Bas.gr b).3^toNat r%(Bas.gr b).1==k0^toNat c%(Bas.gr b).1*a%(Bas.gr b).1)==true) (fun h11=>(rpowR_c (Bas.gr b)) (m) (r) (by (have l:=L g6;have K:=cvw_s l.1 l.2.1 l.2.2.1 l.2.2.2.1 l.2.2.2.2;first|(cases K;omega)|exact mod_bnd K.ok _)) (by (have l:=L g6;have K:=cvw_s l.1 l.2.1 l.2.2.1 l.2.2.2.1 l.2.2.2.2;first|(cases K;omega)|exact mod_bnd K.ok _)) (by (have l:=L g6;have K:=cvw_s l.1 l.2.1 l.2.2.1 l.2.2.2.1 l.2.2.2.2;first|(cases K;omega)|exact mod_bnd K.ok _)))
   apply n_scg (((Bas.gr b).3^toNat r%(Bas.gr b).1==k0^toNat c%(Bas.gr b).1*a%(Bas.gr b).1)==true) (fun h12=>(rpowR_c (Bas.gr b)) (z) (c) (by (have l:=L g6;have K:=cvw_s l.1 l.2.1 l.2.2.1 l.2.2.2.1 l.2.2.2.2;first|(cases K;omega)|exact mod_bnd K.ok _)) (by (have l:=L g6;have K:=cvw_s l.1 l.2.1 l.2.2.1 l.2.2.2.1 l.2.2.2.2;first|(cases K;omega)|exact mod_bnd K.ok _)) (by omega))
   apply n_scg (((Bas.gr b).3^toNat r%(Bas.gr b).1==k0^toNat c%(Bas.gr b).1*a%(Bas.gr b).1)==true) (fun h13=>(rmulR_c (Bas.gr b)) (z^toNat c%(Bas.gr b).1) (c2) (by (have l:=L g6;have K:=cvw_s l.1 l.2.1 l.2.2.1 l.2.2.2.1 l.2.2.2.2;first|(cases K;omega)|exact mod_bnd K.ok _)) (by (have l:=L g6;have K:=cvw_s l.1 l.2.1 l.2.2.1 l.2.2.2.1 l.2.2.2.2;first|(cases K;assumption)|exact mod_bnd K.ok _)) (by (have l:=L g6;have K:=cvw_s l.1 l.2.1 l.2.2.1 l.2.2.2.1 l.2.2.2.2;first|(cases K;omega)|exact mod_bnd K.ok _)))
   exact n_out (Ent.of_eq (congrArg _ (cvw_e (L g6).1 (L g6).2.1 (L g6).2.2.1 (L g6).2.2.2.1 (L g6).2.2.2.2).symm)))
end Go.Proofs.YtcageinnelhonaaGreatDoor

namespace Go.Sp
open Go.IntKind (wrap)
open Int (toNat)
open Go Go.Am
theorem akM_bnd {b:Bas} (h:b.gr.Ok) (y:Int):0≤akM b y∧akM b y<b.gr.p:=by
 unfold akM
 split
 ·exact mod_bnd h _
 ·have:=h.p3;omega
variable {b : Bas} {s : Nat → Int}
theorem vis_f1 (g:((validB b=false∨rcvB b (rcdOf fun j=>s (3+j))=false)∨(¬s 1≥0∨¬s 1≤1073741824))∨scaB b.gr (s 14)=false):visB b s=false:=ff_of fun h=>by
 obtain ⟨h1,h2,h3,h4,h5,h6,h7,h8,h9,h10⟩:=vis_V h
 grind
theorem vis_f2 (g:((((¬akE b (s 2)=0∨¬s 15=akM b (s 2))∨(validG b.gr=false∨elemB b.gr (s 16)=false))∨¬s 17=powB b b.gr.g (s 14))∨¬s 18=powB b (akM b (s 2)) (s 14))):visB b s=false:=ff_of fun h=>by
 obtain ⟨h1,h2,h3,h4,h5,h6,h7,h8,h9,h10⟩:=vis_V h
 obtain ⟨e1,e2⟩:=ak_E h6
 have e3:=vG_t (validB_iff.1 h1).G
 grind
theorem vis_T (g:((validB b=true∧rcvB b (rcdOf fun j=>s (3+j))=true)∧(s 1≥0∧s 1≤1073741824))∧scaB b.gr (s 14)=true)
  (k:((((akE b (s 2)=0∧s 15=akM b (s 2))∧(validG b.gr=true∧elemB b.gr (s 16)=true))∧s 17=powB b b.gr.g (s 14))∧s 18=powB b (akM b (s 2)) (s 14))):VisV b s:=by
 obtain ⟨⟨⟨g1,g2⟩,g3,g4⟩,g5⟩:=g
 obtain ⟨⟨⟨⟨k1,k2⟩,_,k3⟩,k4⟩,k5⟩:=k
 obtain ⟨e1,e2⟩:=ak_M k1
 rw [e2] at k2 k5
 exact ⟨g1,g2,g3,g4,g5,e1,k2,k3,k4,k5⟩
theorem vis_f3 (g:(((validB b=false∨rcvB b (rcdOf fun j=>s (3+j))=false)∨(¬s 1≥0∨¬s 1≤1073741824))∨akB b (s 2)=false)∨scaB b.gr (s 14)=false):visB b s=false:=ff_of fun h=>by
 obtain ⟨h1,h2,h3,h4,h5,h6,h7,h8,h9,h10⟩:=vis_V h
 grind
theorem vis_f4 (g:(((¬s 15=timB b (s 2) b.g2∨elemB b.gr (s 16)=false)∨¬s 17=powB b b.gr.g (s 14))∨¬s 18=powB b (timB b (s 2) b.g2) (s 14))):visB b s=false:=ff_of fun h=>by
 obtain ⟨h1,h2,h3,h4,h5,h6,h7,h8,h9,h10⟩:=vis_V h
 grind
theorem vis_T2 (g:(((validB b=true∧rcvB b (rcdOf fun j=>s (3+j))=true)∧(s 1≥0∧s 1≤1073741824))∧akB b (s 2)=true)∧scaB b.gr (s 14)=true)
  (k:(((s 15=timB b (s 2) b.g2∧elemB b.gr (s 16)=true)∧s 17=powB b b.gr.g (s 14))∧s 18=powB b (timB b (s 2) b.g2) (s 14))):VisV b s :=
 ⟨g.1.1.1.1,g.1.1.1.2,g.1.1.2.1,g.1.1.2.2,g.2,g.1.2,k.1.1.1,k.1.1.2,k.1.2,k.2⟩
theorem vis_r (h:VisV b s) (e:¬s 0=1):visB b s=(s 0==3&&cvwB b (s 8) (s 9) (s 10) (s 15) (s 16) (s 17) (s 18) (s 19) (s 20)):=by grind [vis_t,visT,beq_eq_false_iff_ne]
end Go.Sp

namespace Go.Proofs.YtcageinnelhonaaGreatDoor
open Go.IntKind (wrap)
open Int (toNat)
open Go Go.Am Go.Sp
set_option maxRecDepth 100000
theorem wnum_c (n:Int):Pure Tryz.prog gl0 189 [.int .i64 n] (.bool (decide (n≥0)&&decide (n≤1073741824))):=by
 exact pz Tryz.func189 (by
  exact n_or)
theorem rwnum_c (n:Int):Pure Tryz.prog gl0 140 [.int .i64 n] (.bool (decide (n≥0)&&decide (n≤1073741824))):=by
 exact pz Tryz.func140 (by
  exact n_or)
theorem wsca_c (b:Bas) (x:Int):Pure Tryz.prog gl0 190 [b.av,.int .i64 x] (.bool (scaB b.gr x)):=by
 exact pz Tryz.func190 (by
  exact n_or)
theorem wpowW_c (b:Bas) (x e:Int) (h:b.gr.Ok) (hx:0≤x∧x<b.gr.p) (he:0≤e∧e<b.gr.q):Pure Tryz.prog gl0 191 [b.av,.int .i64 x,.int .i64 e] (.int .i64 (powB b x e)):=by
 have k1:=h.p1;have k2:=h.qp
 have k3:=powE_0 (chk_ok (a:=x) (b:=x) (m:=b.gr.p) (by omega) (by omega) (by omega) (by omega) (by omega) (by omega)) (by omega:¬e<0)
 exact pz Tryz.func191 (by
  apply n_sc (wpow_c (x) (e) ((Bas.gr b).1) (by omega))
  exact n_outx (Zi (okv (powE x e (Bas.gr b).1) (x^toNat e%(Bas.gr b).1))) (Ent.of_eq (by rw [k3];rfl)))
theorem rwpow_c (b:Bas) (x e:Int) (h:b.gr.Ok) (hx:0≤x∧x<b.gr.p) (he:0≤e∧e<b.gr.q):Pure Tryz.prog gl0 143 [b.av,.int .i64 x,.int .i64 e] (.int .i64 (powB b x e)):=by
 have k1:=h.p1;have k2:=h.qp
 exact pz Tryz.func143 (by
  apply n_sc (rpow_c (x) (e) ((Bas.gr b).1) (by omega) (by omega) (by omega) (by omega) (by assumption))
  exact n_or)
theorem viss_c (b:Bas) (s:Nat→Int) (hw:b.gr.W):Pure Tryz.prog gl0 121 [b.av,.agg (issC s)] (.bool (visB b s)):=by
 have c0:=bvalid_c b hw
 have c1:=recV_c b (rcdOf fun j=>s (3+j)) hw
 have c2:=wnum_c (s 1)
 have c3:=wsca_c b (s 14)
 have c4:=amsgX_c b (s 2) hw
 have c5:=contains_c b.gr (s 16) hw
 have c6:=wpowW_c b
 have c7:=chkv_c b (s 8) (s 9) (s 10) (s 15) (s 16) (s 17) (s 18) (s 19) (s 20) hw
 have K:=fun (g:((validB b=true∧rcvB b (rcdOf fun j=>s (3+j))=true)∧(s 1≥0∧s 1≤1073741824))∧scaB b.gr (s 14)=true)=>validB_iff.1 g.1.1.1
 exact pz Tryz.func121 (by
  apply n_sc (c0)
  apply n_scg ((!validB b)==false) (fun h1=>c1)
  apply n_scg ((!validB b || !rcvB b (rcdOf fun j=>s (3+j)))==false) (fun h2=>c2)
  apply n_scg ((!validB b || !rcvB b (rcdOf fun j=>s (3+j)) || !(decide (s 1≥0)&&decide (s 1≤1073741824)))==false) (fun h3=>c3)
  apply n_br (!validB b || !rcvB b (rcdOf fun j=>s (3+j)) || !(decide (s 1≥0)&&decide (s 1≤1073741824)) || !scaB b.1 (s 14))
  ·intro g4
   exact n_out (Ent.of_eq (congrArg _ (vis_f1 g4).symm))
  ·intro g4
   apply n_sc (c4)
   apply n_scg ((akE b (s 2) != 0||s 15 != akM b (s 2))==false) (fun h7=>c5)
   apply n_scg ((akE b (s 2) != 0||s 15 != akM b (s 2) || !(validG b.1&&elemB b.1 (s 16)))==false) (fun h8=>c6 ((Bas.gr b).3) (s (14)) (by exact (K g4).G) (by exact (bas_rng (K g4)).1) (by exact sca_rng g4.2))
   apply n_scg ((akE b (s 2) != 0||s 15 != akM b (s 2) || !(validG b.1&&elemB b.1 (s 16))||s 17 != powB b (Bas.gr b).3 (s 14))==false) (fun h9=>c6 (akM b (s (2))) (s (14)) (by exact (K g4).G) (by exact akM_bnd (K g4).G _) (by exact sca_rng g4.2))
   apply n_br (akE b (s 2) != 0||s 15 != akM b (s 2) || !(validG b.1&&elemB b.1 (s 16))||s 17 != powB b (Bas.gr b).3 (s 14)||s 18 != powB b (akM b (s 2)) (s 14))
   ·intro g10
    exact n_out (Ent.of_eq (congrArg _ (vis_f2 g10).symm))
   ·intro g10
    apply n_br (s 0==1)
    ·intro g12
     exact n_out ((by exact Ent.of_eq (congrArg _ (vis_1 (vis_T g4 g10) g12).symm)))
    ·intro g12
     apply n_br (s 0==3)
     ·intro g14
      apply n_sc (c7)
      exact n_out ((by exact Ent.of_eq (congrArg _ (vis_3 (vis_T g4 g10) g14).symm)))
     ·intro g14
      exact n_out ((by exact Ent.of_eq (congrArg _ (vis_n g12 g14).symm))))
theorem rviss_c (b:Bas) (s:Nat→Int) (hw:b.gr.W):Pure Tryz.prog gl0 79 [b.av,.agg (issC s)] (.bool (visB b s)):=by
 have c0:=r11valid_c b hw
 have c1:=rrecV_c b (rcdOf fun j=>s (3+j)) hw
 have c2:=rwnum_c (s 1)
 have c3:=fun h=>risk_c b (s 2) h
 have c4:=rscalR_s b.gr (s 14)
 have c5:=fun h he=>rtimesX_c b (s 2) h he
 have c6:=fun h=>member_c b.gr (s 16) h
 have c7:=rwpow_c b
 have c8:=rchkv_c b (s 8) (s 9) (s 10) (s 15) (s 16) (s 17) (s 18) (s 19) (s 20) hw
 have K:=fun (g:(((validB b=true∧rcvB b (rcdOf fun j=>s (3+j))=true)∧(s 1≥0∧s 1≤1073741824))∧akB b (s 2)=true)∧scaB b.gr (s 14)=true)=>validB_iff.1 g.1.1.1.1
 exact pz Tryz.func79 (by
  apply n_sc (c0)
  apply n_scg ((!validB b)==false) (fun h1=>c1)
  apply n_scg ((!validB b || !rcvB b (rcdOf fun j=>s (3+j)))==false) (fun h2=>c2)
  apply n_scg ((!validB b || !rcvB b (rcdOf fun j=>s (3+j)) || !(decide (s 1≥0)&&decide (s 1≤1073741824)))==false) (fun h3=>c3 ((validB_iff.1 (by simp at h3;exact h3.1.1))))
  apply n_scg ((!validB b || !rcvB b (rcdOf fun j=>s (3+j)) || !(decide (s 1≥0)&&decide (s 1≤1073741824)) || !akB b (s 2))==false) (fun h4=>c4)
  apply n_br (!validB b || !rcvB b (rcdOf fun j=>s (3+j)) || !(decide (s 1≥0)&&decide (s 1≤1073741824)) || !akB b (s 2) || !scaB b.1 (s 14))
  ·intro g5
   exact n_out (Ent.of_eq (congrArg _ (vis_f3 g5).symm))
  ·intro g5
   apply n_sc (c5 (by exact K g5) (by exact (msg_iff.1 (ak_iff.1 g5.1.2).2.1).2))
   apply n_scg ((s 15 != timB b (s 2) b.3)==false) (fun h8=>c6 (by exact (K g5).G))
   apply n_scg ((s 15 != timB b (s 2) b.3 || !elemB b.1 (s 16))==false) (fun h9=>c7 ((Bas.gr b).3) (s (14)) (by exact (K g5).G) (by exact (bas_rng (K g5)).1) (by exact sca_rng g5.2))
   apply n_scg ((s 15 != timB b (s 2) b.3 || !elemB b.1 (s 16)||s 17 != powB b (Bas.gr b).3 (s 14))==false) (fun h10=>c7 (timB b (s (2)) b.3) (s (14)) (by exact (K g5).G) (by exact mod_bnd (K g5).G _) (by exact sca_rng g5.2))
   apply n_br (s 15 != timB b (s 2) b.3 || !elemB b.1 (s 16)||s 17 != powB b (Bas.gr b).3 (s 14)||s 18 != powB b (timB b (s 2) b.3) (s 14))
   ·intro g11
    exact n_out (Ent.of_eq (congrArg _ (vis_f4 g11).symm))
   ·intro g11
    apply n_br (s 0==1)
    ·intro g13
     exact n_out ((by exact Ent.of_eq (congrArg _ (vis_1 (vis_T2 g5 g11) g13).symm)))
    ·intro g13
     apply n_scg ((s 0==3)==true) (fun h15=>c8)
     exact n_out ((by exact Ent.of_eq (congrArg _ (vis_r (vis_T2 g5 g11) g13).symm))))
end Go.Proofs.YtcageinnelhonaaGreatDoor

namespace Go.Sp
open Go.IntKind (wrap)
open Int (toNat)
open Go Go.Am
theorem ff_of' {x:Bool} (h:x=true→False):x=false:=by grind
theorem dst_any {s:Spend} {i:Nat}:dstB s i = !anyI (fun k=>s.lf k 0==s.lf i 0) i:=by
 rw [anyI_eq,List.not_any_eq_all_not];rfl
theorem dst_f {s:Spend} {i:Nat} (h:anyI (fun k=>s.lf k 0==s.lf i 0) i=true):dstB s i=false:=by grind [dst_any]
theorem dst_t {s:Spend} {i:Nat} (h:anyI (fun k=>s.lf k 0==s.lf i 0) i=false):dstB s i=true:=by grind [dst_any]
def cmpV (a b:Int):Int:=if a<b then -1 else if b<a then 1 else 0
def cmpW (x y:Use):Int:=if cmpV x.a y.a≠0 then cmpV x.a y.a else cmpV x.b y.b
theorem cmp_lt {x y:Use}:decide (cmpW x y≥0) = !ltU x y:=by grind [cmpW,cmpV,ltU,decide]
structure UseOk (n : Nat) (U : Nat → Use) : Prop where
  nl : ∀ i, i < n → (U i).sp.nl < 9223372036854775808
  np : ∀ i, i < n → (U i).sp.np < 9223372036854775808
theorem use_f {u:Use} (g:(((stoB u.sp=false∨u.leaf<0)∨u.leaf≥u.sp.nl)∨¬u.a=u.sp.a)∨¬u.b=u.sp.lf u.leaf.toNat 0):useB u=false:=ff_of' fun h=>by grind [useB_iff]
theorem use_t {u:Use} (g:(((stoB u.sp=true∧¬u.leaf<0)∧¬u.leaf≥u.sp.nl)∧u.a=u.sp.a)∧u.b=u.sp.lf u.leaf.toNat 0):useB u=true:=useB_iff.2 ⟨g.1.1.1.1,by omega,by omega,g.1.2,g.2⟩
theorem lt_f {x y:Use} (h:cmpW x y≥0):ltU x y=false:=by grind [cmp_lt,decide_eq_true,ltU]
theorem lt_t {x y:Use} (h:¬cmpW x y≥0):ltU x y=true:=by have:=cmp_lt (x:=x) (y:=y);grind
theorem allR_f {n i:Nat} {p:Nat→Bool} (hi:i<n) (h:p i=false):(List.range n).all p=false:=ff_of' fun e=>by grind
theorem allR_t {n:Nat} {p:Nat→Bool} (h:∀ i,i<n→p i=true):(List.range n).all p=true:=List.all_eq_true.2 fun i hi=>h i (List.mem_range.1 hi)
theorem led_ef {nb k:Nat} {E:Nat→Nat→Int} (h:entB nb (E k)=false):okE nb E k=false:=by grind [okE]
theorem led_pt {nb k:Nat} {E:Nat→Nat→Int} (h:entB nb (E k)=true) (g:pstB (balF E k) (E k)=true):okE nb E k=true:=by grind [okE]
theorem led_pf {nb k:Nat} {E:Nat→Nat→Int} (h:entB nb (E k)=true) (g:entB nb (E k)=false∨pstB (balF E k) (E k)=false):okE nb E k=false:=by grind [okE]
theorem led_st {x i:Nat} {E:Nat→Nat→Int} (h:pstB (balF E x) (E x)=true):pstG (balF E x) (E (toNat (x:Int))) i=balF E (x+1) i:=by
 rw [Int.toNat_natCast,pstG,if_pos h];rfl
theorem led_fin {nb:Nat} {B:Nat→Int} {ne x:Nat} {E:Nat→Nat→Int} (h1:¬(nb:Int)<5) (h2:¬(nb:Int)>105) (h3:¬(ne:Int)>1000) (e:x=ne) (h:∀ k,k<x→okE nb E k=true) :
  ((List.range nb).all fun i=>balF E x (i+0)==B i)=ledB nb B ne E:=by grind [led_eq]
theorem eqR_iff {x y:Nat→Int}:eqR x y=true↔x 0=y 0∧x 1=y 1∧x 2=y 2∧x 3=y 3∧x 4=y 4∧x 5=y 5∧x 6=y 6∧x 7=y 7∧x 8=y 8∧x 9=y 9∧x 10=y 10:=by
 simp [eqR,List.range,List.range.loop]
theorem eqR_t {x r:Nat→Int} (g:r 0=x 0∧(r 1=x 1∧(r 2=x 2∧(r 3=x 3∧(r 4=x 4∧((r 5=x 5∧(r 6=x 6∧(r 7=x 7∧True)))∧(r 8=x 8∧(r 9=x 9∧(r 10=x 10∧True))))))))):eqR x r=true:=by grind [eqR_iff]
theorem eqR_f {x r:Nat→Int} (g:¬r 0=x 0∨(¬r 1=x 1∨(¬r 2=x 2∨(¬r 3=x 3∨(¬r 4=x 4∨((¬r 5=x 5∨(¬r 6=x 6∨(¬r 7=x 7∨true=false)))∨(¬r 8=x 8∨(¬r 9=x 9∨(¬r 10=x 10∨true=false))))))))):eqR x r=false:=ff_of fun h=>by simp_all [eqR_iff,Bool.true_eq_false,or_false]
theorem eqR_comm {x y:Nat→Int}:eqR x y=eqR y x:=by
 cases e:eqR y x with
 | true=>grind [eqR_iff]
 | false=>exact ff_of fun h=>by grind [eqR_iff]
end Go.Sp

namespace Go.Proofs.YtcageinnelhonaaGreatDoor
open Go.IntKind (wrap)
open Int (toNat)
open Go Go.Am Go.Sp
set_option maxRecDepth 100000
theorem bin_c (x l h:Int):Pure Tryz.prog gl0 41 [.int .i64 x,.int .i64 l,.int .i64 h] (.bool (decide (x≥l)&&decide (x≤h))):=by
 exact pz Tryz.func41 (by
  exact n_or)
theorem bsca_c (b:Bas) (x:Int):Pure Tryz.prog gl0 54 [b.av,.int .i64 x] (.bool (nzB b x)):=by
 exact pz Tryz.func54 (by
  exact n_or)
theorem bcu1_c (c:Cus) (y:Int):Pure Tryz.prog gl0 186 [.agg c.cells,.ipt 1 (atL [.int .i64 y])] (.bool (c.key==y)):=by
 exact pz Tryz.func186 (by
  exact n_or)
theorem idxC_c (n:Nat) (C:Nat→Cus) (y:Int) (hn:n<9223372036854775808):Pure Tryz.prog gl0 51 [cusA n C,.fn (.func 186) [] [.ipt 1 (atL [.int .i64 y])]] (.int .i64 (firstI (fun i=>(C i).key==y) n 0)):=by
 have c1:=fun i=>bcu1_c (C i)
 exact pz Tryz.func51 (by
  apply n_loop ({ x:Nat // x≤n∧(fun i=>firstI (fun i=>Cus.key (C i)==y) n 0=firstI (fun i=>Cus.key (C i)==y) (n - i) i) x }) [0,1,7,8] [] (fun x=>[.isl 7 n fun i j=>atL (Cus.cells (C i)) j,AV.fn (Fn.func (186:FuncId)) [] [AV.ipt 1 (atL [Zi y])],Zi n,Zi x.1]) (fun _=>[]) (fun x=>n - x.1) (⟨0,⟨Nat.zero_le n,rfl⟩⟩)
  intro x0
  try (have q0:=x0.2;dsimp only at q0)
  apply n_bd ((x0.1:Int)<(n:Int))
  ·intro g1
   apply n_req (0≤(x0.1:Int)∧(x0.1:Int)<(n:Int))
   apply n_sc (c1 (toNat (↑(x0.1):Int)) (y))
   apply n_br ((C (toNat (↑(x0.1):Int))).1==y)
   ·intro g4
    try simp only [Int.toNat_natCast] at g4
    exact n_out (Ent.of_eq (congrArg _ (first_hit x0.2.2 (by omega) (beq_iff_eq.2 g4))))
   ·intro g4
    try simp only [Int.toNat_natCast] at g4
    exact n_again [] (⟨x0.1+1,by omega,first_next x0.2.2 (by omega) (beq_eq_false_iff_ne.2 g4)⟩) (ek3 (en (inc_ent (by omega))))
  ·intro g1
   exact n_out (Ent.of_eq (congrArg _ (first_miss x0.2.2 (by omega)))))
theorem bcust_c (k:Bnk) (y:Int) (hn:k.nc<9223372036854775808):Pure Tryz.prog gl0 114 [.agg k.cells,.int .i64 y] (.int .i64 (cuI k y)):=by
 have c1:=idxC_c k.nc k.C y hn
 exact pz Tryz.func114 (by
  apply n_sc (c1)
  exact n_or)
theorem bis1_c (s:Nat→Int) (y n:Int):Pure Tryz.prog gl0 194 [.agg (issC s),.ipt 1 (atL [.int .i64 y]),.ipt 1 (atL [.int .i64 n])] (.bool (s 2==y&&s 1==n)):=by
 exact pz Tryz.func194 (by
  exact n_or)
theorem idxI_c (n:Nat) (I:Nat→Nat→Int) (y m:Int) (hn:n<9223372036854775808):Pure Tryz.prog gl0 193 [issA n I,.fn (.func 194) [] [.ipt 1 (atL [.int .i64 y]),.ipt 1 (atL [.int .i64 m])]] (.int .i64 (firstI (fun i=>I i 2==y&&I i 1==m) n 0)):=by
 have c1:=fun i=>bis1_c (I i)
 exact pz Tryz.func193 (by
  apply n_loop ({ x:Nat // x≤n∧(fun (i:Nat)=>firstI (fun (i:Nat)=>I i 2==y&&I i 1==m) n 0=firstI (fun (i:Nat)=>I i 2==y&&I i 1==m) (n - i) i) x }) [0,1,7,8] ([]) (fun x=>[AV.isl 21 n fun (i j:Nat)=>Zi (I i j),AV.fn (Fn.func (194:FuncId)) [] [AV.ipt 1 (atL [Zi y]),AV.ipt 1 (atL [Zi m])],Zi (↑n:Int),Zi (↑(x.1):Int)]) (fun _=>[]) (fun x=>n - x.1) (⟨0,⟨Nat.zero_le n,rfl⟩⟩)
  intro x0
  try (have q0:=x0.2;dsimp only at q0)
  apply n_bd ((↑x0.1:Int)<(↑n:Int))
  ·intro g1
   apply n_req ((0:Int)≤(↑x0.1:Int)∧(↑x0.1:Int)<(↑n:Int))
   apply n_sc (c1 (toNat (↑x0.1:Int)) (y) (m))
   apply n_br0 (I (toNat (↑x0.1:Int)) 2==y&&I (toNat (↑x0.1:Int)) 1==m)
   ·intro h4
    have g4:=(cnd_and_t cnd_beq_t cnd_beq_t) h4
    try simp only [Int.toNat_natCast] at g4
    exact n_out (Ent.of_eq (congrArg _ (first_hit x0.2.2 (by omega) (by simpa using h4))))
   ·intro h4
    have g4:=(cnd_and_f cnd_beq_f cnd_beq_f) h4
    try simp only [Int.toNat_natCast] at g4
    exact n_again ([]) (⟨x0.1+1,by omega,first_next x0.2.2 (by omega) (by simpa using h4)⟩) (ek3 (en (inc_ent (by omega))))
  ·intro g1
   exact n_out (Ent.of_eq (congrArg _ (first_miss x0.2.2 (by omega)))))
theorem bissue_c (k:Bnk) (y m:Int) (hn:k.ni<9223372036854775808):Pure Tryz.prog gl0 122 [.agg k.cells,.int .i64 y,.int .i64 m] (.int .i64 (isI k y m)):=by
 have c1:=idxI_c k.ni k.I y m hn
 exact pz Tryz.func122 (by
  apply n_sc (c1)
  exact n_or)
theorem idxR_c (n:Nat) (R:Nat→Nat→Int) (r:Nat→Int) (hn:n<9223372036854775808):Pure Tryz.prog gl0 120 [.isl 11 n fun i j=>.int .i64 (R i j),(rcdOf r).av] (.int .i64 (firstI (fun i=>eqR (R i) r) n 0)):=by
 exact pz Tryz.func120 (by
  apply n_loop ({ x:Nat // x≤n∧(fun (i:Nat)=>firstI (fun (i:Nat)=>eqR (R i) r) n 0=firstI (fun (i:Nat)=>eqR (R i) r) (n - i) i) x }) [0,3,7,8] ([0]) (fun x=>[AV.isl 11 n fun (i j:Nat)=>Zi (R i j),AV.own 0 11 0 0 11,Zi (↑n:Int),Zi (↑(x.1):Int)]) (fun _=>[some ⟨11,1,true,Rep.lst [Rcd.cells (rcdOf r)]⟩]) (fun x=>n - x.1) (⟨0,⟨Nat.zero_le n,rfl⟩⟩)
  intro x0
  try (have q0:=x0.2;dsimp only at q0)
  apply n_bd ((↑x0.1:Int)<(↑n:Int))
  ·intro g1
   apply n_req ((0:Int)≤(↑x0.1:Int)∧(↑x0.1:Int)<(↑n:Int))
   apply n_br (r 0==R (toNat (↑x0.1:Int)) 0&&(r 1==R (toNat (↑x0.1:Int)) 1&&(r 2==R (toNat (↑x0.1:Int)) 2&&(r 3==R (toNat (↑x0.1:Int)) 3&&(r 4==R (toNat (↑x0.1:Int)) 4&&(r 5==R (toNat (↑x0.1:Int)) 5&&(r 6==R (toNat (↑x0.1:Int)) 6&&(r 7==R (toNat (↑x0.1:Int)) 7&&true))&&(r 8==R (toNat (↑x0.1:Int)) 8&&(r 9==R (toNat (↑x0.1:Int)) 9&&(r 10==R (toNat (↑x0.1:Int)) 10&&true)))))))))
   ·intro g3
    try simp only [Int.toNat_natCast] at g3
    exact n_out (Ent.of_eq (congrArg _ (first_hit (p:=fun i=>eqR (R i) r) x0.2.2 (by omega) (eqR_t g3))))
   ·intro g3
    try simp only [Int.toNat_natCast] at g3
    exact n_again ([0]) (⟨x0.1+1,by omega,first_next (p:=fun i=>eqR (R i) r) x0.2.2 (by omega) (eqR_f g3)⟩) (ek3 (en (inc_ent (by omega))))
  ·intro g1
   exact n_out (Ent.of_eq (congrArg _ (first_miss x0.2.2 (by omega)))))
theorem containsF_c (n:Nat) (f:Nat→Int) (v:Int) (hn:n≤1000):Pure Tryz.prog gl0 253 [.isl 1 n fun i _=>.int .i64 (f i),.int .i64 v] (.bool (decide (v∈(List.range n).map f))) :=
 (containsN_c ((List.range n).map f) v (by simp;omega)).via ⟨map_ent,Ent.refl _,trivial⟩
theorem tverS_c (r h:Nat→Int) (i l:Int) (n:Nat) (P:Nat→Nat→Int) (hl:0≤l∧l≤5) (hn:n≤1000000) (hi:0≤i∧i<2^l.toNat) (hh:byB h 32) (hP:∀ k,k<n→byB (P k) 32) :
  Pure Tryz.prog gl0 256 [.agg (u8c r),.agg (u8c h),.int .i64 l,.agg [.int .i64 i,hsl n P]] (.bool ((n:Int)==l&&hEq (folF h i P n) r)):=by
 obtain ⟨m,rfl⟩:∃ m:Nat,l=m:=⟨l.toNat,by omega⟩
 have hi2:i<((2^m:Nat):Int):=by
  have:=hi.2
  rw [show (m:Int).toNat=m by omega] at this
  rw [Int.natCast_pow]
  exact this
 by_cases e:n=m
 ·subst e
  rw [show ((n:Int)==(n:Int))=true by simp,Bool.true_and]
  exact tver_ok r h i n P (by omega) hi.1 hi2 hh hP
 ·rw [show ((n:Int)==(m:Int))=false by simp;omega,Bool.false_and]
  exact tver_no r h i m n P (by omega) e hn hi.1 hi2
theorem trootS_c (n d:Nat) (h:Nat→Nat→Int) (hn:n=2^d) (hd:d≤5) (hb:∀ i,i<n→byB (h i) 32):Pure Tryz.prog gl0 255 [hsl n h] (.tup [.agg (u8c (treF h d 0)),.int .i64 0]):=by
 subst hn
 exact troot_c d hd h hb
theorem vfy_c (b:Bas) (r:Rcd) (s:Spend) (hw:b.gr.W) (hr:byB s.root 32) (hp:byB s.payee 32) (hf:∀ k,k<s.np→byB (s.pf k) 32) (hn:s.np≤1000000) (hl:s.nl≤1000):Pure Tryz.prog gl0 201 [b.av,r.av,s.av] (.bool (vfy b r s)):=by
 have c1:=cval_c b r s.coin hw hr
 have c2:=node_c s.depth s.level s.index
 have c3:=context_c s.cxt
 have c4:=chal_c b s.coin s.level s.index s.cxt hr hp
 have c5:=fun x r1 r2 hv ha hk=>sright_c b s.a (chS b s) x r1 r2 hw hv ha hk
 have c6:=fun N h1 h2 h3 h4=>chash_n b N h1 h2 (lbF s) hw h3 h4
 have c7:=fun n h1 h2 h3=>trootS_c n (dpN s) (fun i=>leafF (lbF s i)) h1 h2 h3
 have c8:=fun h1 h2 h3=>tverS_c s.root (topF s) s.pidx s.level s.np s.pf h1 hn h2 h3 hf
 exact pz Tryz.func201 (by
  apply n_sc (c1)
  apply n_scg ((!coinV b r (Spend.coin s))==false) (fun h1=>c2)
  apply n_scg ((!coinV b r (Spend.coin s) || !nodeB s.4 s.11 s.12)==false) (fun h2=>c3)
  apply n_req (((!coinV b r (Spend.coin s) || !nodeB s.4 s.11 s.12 || !ctxB s.14 s.15)==false)=true→(0:Int)≤wrap .i64 (s.4 - s.11)) (fun hr=>by have hr:=(cnd_eqf_t (cnd_or_f (cnd_or_f (cnd_not_f cnd_id_t) (cnd_not_f cnd_id_t)) (cnd_not_f cnd_id_t))) hr;have k:=node_t hr.1.2;have e:=(sz_w hr.1.2).2.1;rw [e];omega)
  apply n_br (!coinV b r (Spend.coin s) || !nodeB s.4 s.11 s.12 || !ctxB s.14 s.15||(s.16:Int) != wrap .i64 ((1:Int)*(2:Int)^min (toNat (wrap .i64 (s.4 - s.11))) 64)||s.18 != s.12)
  ·intro g4
   exact n_out (Ent.of_eq (congrArg _ (hd_no g4).symm))
  ·intro g4
   apply n_sc (c4 (by (cases hd_ok g4;assumption)) (by (cases hd_ok g4;assumption)))
   apply n_loopx ({ x:Nat // x≤Spend.nl s∧(fun (x:Nat)=>∀ (j:Nat),j<x→okL b s j=true) x }) [2,3,5,7,67,68,8,69] [0,16,754] (fun x=>[.agg (Spend.cells s),.own 0 6 0 0 6,.own 1 80 0 0 80,Zi (chalN (Bas.gr b).2 (Spend.coin s) s.11 s.12 (Spend.cxt s)),.isl 3 s.16 fun i j=>Zi (s.17 i j),Zi s.16,.osl 2 1 0 (x.1),Zi x.1]) (fun x=>[some ⟨6,1,true,.lst [Bas.cells b]⟩,some ⟨80,1,true,.lst [Spend.cells s]⟩,some ⟨(1:Nat),x.1,true,.fn fun i x=>Zi (lbF s i)⟩]) (fun x=>Spend.nl s - x.1) (⟨(0:Nat),⟨Nat.zero_le (Spend.nl s),fun (j:Nat) (hj:j<0)=>absurd hj (Nat.not_lt_zero j)⟩⟩) [.agg (Spend.cells s),.own 0 6 0 0 6,.own 1 80 0 0 80,Zi (chalN (Bas.gr b).2 (Spend.coin s) s.11 s.12 (Spend.cxt s)),.isl 3 s.16 fun i j=>Zi (s.17 i j),Zi s.16,.nsl,Zi 0] [some ⟨6,1,true,.lst [Bas.cells b]⟩,some ⟨80,1,true,.lst [Spend.cells s]⟩,some ⟨1,0,true,.ty (999999999:TypeId) (.lst [])⟩] (by repeat' (first|exact trivial|(first|exact Ent.refl _|exact inc_ent (by omega)|exact Ent.nil rfl|exact Ent.of_eq (congrArg (AV.osl _ _ _) (by first|omega|(dsimp only;omega)))|exact Ent.of_eq (congrArg (AV.int _) (by first|omega|(dsimp only;omega))))|refine And.intro ?_ ?_)) (by repeat' (first|exact trivial|(first|exact ObEnt.refl _|exact ObEnt.junk|exact ObEnt.zero|exact ObEnt.push rfl rfl|exact ObEnt.pushRow rfl|exact ObEnt.len (by omega)|exact ObEnt.row (by repeat' (first|exact trivial|(first|exact Ent.refl _|exact inc_ent (by omega)|exact Ent.nil rfl|exact Ent.of_eq (congrArg (AV.osl _ _ _) (by first|omega|(dsimp only;omega)))|exact Ent.of_eq (congrArg (AV.int _) (by first|omega|(dsimp only;omega))))|refine And.intro ?_ ?_)))|refine And.intro ?_ ?_))
   intro x7
   try (have q7:=x7.2;dsimp only at q7)
   apply n_bd ((x7.1:Int)<(s.16:Int))
   ·intro g8
    apply n_req (0≤(x7.1:Int)∧(x7.1:Int)<(s.16:Int))
    apply n_sc (c5 (s.17 (toNat (↑x7.1:Int)) (0)) (s.17 (toNat (↑x7.1:Int)) (1)) (s.17 (toNat (↑x7.1:Int)) (2)) (by (cases hd_ok g4;assumption)) (by (cases hd_ok g4;assumption)) (by (cases hd_ok g4;assumption)))
    apply n_scg ((!leafB b s.5 (chS b s) (s.17 (toNat (x7.1:Int)) 0) (s.17 (toNat (x7.1:Int)) 1) (s.17 (toNat (x7.1:Int)) 2))==false) (fun h11=>containsF_c (x7.1) (fun (i:Nat)=>lbF s (i+0)) (s.17 (toNat (↑x7.1:Int)) (0)) (by omega))
    apply n_br (!leafB b s.5 (chS b s) (s.17 (toNat (x7.1:Int)) 0) (s.17 (toNat (x7.1:Int)) 1) (s.17 (toNat (x7.1:Int)) 2)||decide (s.17 (toNat (x7.1:Int)) 0∈List.map (fun i=>lbF s (i+0)) (List.range x7.1)))
    ·intro g12
     try simp only [Int.toNat_natCast] at g12
     exact n_out (Ent.of_eq (congrArg _ (vfy_l (by omega) (okL_no g12)).symm))
    ·intro g12
     try simp only [Int.toNat_natCast] at g12
     apply n_req ((x7.1+1)*8≤140737488355328)
     exact n_againx [0,1,187] (⟨x7.1+1,by omega,all_next x7.2.2 (okL_yes g12)⟩) [.agg (Spend.cells s),.own 0 6 0 0 6,.own 1 80 0 0 80,Zi (chalN (Bas.gr b).2 (Spend.coin s) s.11 s.12 (Spend.cxt s)),.isl 3 s.16 fun i j=>Zi (s.17 i j),Zi s.16,.osl 2 1 0 (x7.1+1),Zi (wrap .i64 ((x7.1:Int)+(1:Int)))] [some ⟨6,1,true,.lst [Bas.cells b]⟩,some ⟨80,1,true,.lst [Spend.cells s]⟩,some ⟨1,x7.1+1,true,.fn fun i j=>Zi (bif Nat.blt i x7.1 then lbF s i else intOfAV (atL [Zi (s.17 (toNat (↑(x7.1):Int)) 0)] j))⟩] (by repeat' (first|exact trivial|(first|exact Ent.refl _|exact inc_ent (by omega)|exact Ent.nil rfl|exact Ent.of_eq (congrArg (AV.osl _ _ _) (by first|omega|(dsimp only;omega)))|exact Ent.of_eq (congrArg (AV.int _) (by first|omega|(dsimp only;omega))))|refine And.intro ?_ ?_)) (by repeat' (first|exact trivial|(first|exact ObEnt.refl _|exact ObEnt.junk|exact ObEnt.zero|exact ObEnt.push rfl rfl|exact ObEnt.pushRow rfl|exact ObEnt.len (by omega)|exact ObEnt.row (by repeat' (first|exact trivial|(first|exact Ent.refl _|exact inc_ent (by omega)|exact Ent.nil rfl|exact Ent.of_eq (congrArg (AV.osl _ _ _) (by first|omega|(dsimp only;omega)))|exact Ent.of_eq (congrArg (AV.int _) (by first|omega|(dsimp only;omega))))|refine And.intro ?_ ?_)))|refine And.intro ?_ ?_)) (by (dsimp only;omega))
   ·intro g8
    apply n_dc (c6 (x7.1) (by (cases hd_ok g4;rw [show x7.1=s.nl by omega];assumption)) (by (cases hd_ok g4;rw [show x7.1=s.nl by omega];assumption)) (by (cases hd_ok g4;assumption)) (by exact fun i hi=>okL_el (x7.2.2 i hi)))
    apply n_ff
    apply n_sc (c7 (x7.1) (by (cases hd_ok g4;rw [show x7.1=s.nl by omega];assumption)) (by (cases hd_ok g4;assumption)) (by exact fun i _=>leafF_by _))
    apply n_sc (c8 (by (cases hd_ok g4;assumption)) (by (cases hd_ok g4;assumption)) (by (cases hd_ok g4;assumption)))
    exact n_out (Ent.of_eq (congrArg _ (vfy_t (hd_ok g4).hd (fun i hi=>x7.2.2 i (by omega))).symm)))
theorem rtop_c (s:Spend) (n:Nat) (h1:n=2^dpN s) (hd:dpN s≤5):Pure Tryz.prog gl0 153 [hsl n (fun i=>leafF (lbF s i)),.int .i64 0,.int .i64 0] (.agg (u8c (topF s))):=by
 subst h1
 have h:=tnode_c (dpN s) hd (fun i=>leafF (lbF s i)) (fun i _=>leafF_by _) (dpN s) 0 (Nat.le_refl _) (by simp)
 rwa [Nat.sub_self] at h
theorem rvfy_c (b:Bas) (r:Rcd) (s:Spend) (hw:b.gr.W) (hr:byB s.root 32) (hp:byB s.payee 32) (hf:∀ k,k<s.np→byB (s.pf k) 32) (hn:s.np≤1000000) (hl:s.nl≤1000):Pure Tryz.prog gl0 82 [b.av,r.av,s.av] (.bool (vfy b r s)):=by
 have c0:=r11valid_c b hw
 have c1:=rcval_c b r s.coin hw hr
 have c2:=rnode_c s.depth s.level s.index
 have c3:=rctx_c s.cxt
 have c9:=fun h=>rspan_c s.depth s.level s.index h
 have c4:=rchal_c b s.coin s.level s.index s.cxt hr hp
 have c5:=fun x r1 r2 hv ha hk=>rleaf_c b s.a (chS b s) x r1 r2 hv ha hk
 have c6:=fun n h1=>rhash_c n h1 (lbF s)
 have c7:=rtop_c s
 have c8:=fun h1 h2 h3=>rfol_c (topF s) s.pidx s.np s.pf hn h1 h2 h3 hf
 exact pz Tryz.func82 (by
  apply n_sc (c0)
  apply n_scg ((!validB b)==false) (fun h1=>c1)
  apply n_scg ((!validB b || !coinV b r (Spend.coin s))==false) (fun h2=>c2)
  apply n_scg ((!validB b || !coinV b r (Spend.coin s) || !nodeB s.4 s.11 s.12)==false) (fun h3=>c3)
  apply n_br (!validB b || !coinV b r (Spend.coin s) || !nodeB s.4 s.11 s.12 || !ctxB s.14 s.15)
  ·intro g4
   exact n_out (Ent.of_eq (congrArg _ (rhd_no g4).symm))
  ·intro g4
   apply n_sc (c9 (g4.1.2))
   apply n_br ((s.16:Int) != wrap .i64 (spanZ s.4 s.11 s.12 - spanA s.4 s.11 s.12)||s.18 != s.12||(s.19:Int) != s.11)
   ·intro g7
    exact n_out (Ent.of_eq (congrArg _ (rhd_no2 g4 g7).symm))
   ·intro g7
    apply n_sc (c4 (by (cases rhd_ok g4 g7;omega)) (by (cases rhd_ok g4 g7;omega)))
    apply n_loopx ({ x:Nat // x≤Spend.nl s∧(fun (x:Nat)=>∀ (j:Nat),j<x→okL b s j=true) x }) [3,5,9,10,11] [0,16,882] (fun x=>[.own 0 6 0 0 6,.own 1 80 0 0 80,Zi (chalN (Bas.gr b).2 (Spend.coin s) s.11 s.12 (Spend.cxt s)),.osl 2 1 0 (x.1),Zi x.1]) (fun x=>[some ⟨6,1,true,.lst [Bas.cells b]⟩,some ⟨80,1,true,.lst [Spend.cells s]⟩,some ⟨(1:Nat),x.1,true,.fn fun i x=>Zi (lbF s i)⟩]) (fun x=>Spend.nl s - x.1) (⟨(0:Nat),⟨Nat.zero_le (Spend.nl s),fun (j:Nat) (hj:j<0)=>absurd hj (Nat.not_lt_zero j)⟩⟩) [.own 0 6 0 0 6,.own 1 80 0 0 80,Zi (chalN (Bas.gr b).2 (Spend.coin s) s.11 s.12 (Spend.cxt s)),.nsl,Zi 0] [some ⟨6,1,true,.lst [Bas.cells b]⟩,some ⟨80,1,true,.lst [Spend.cells s]⟩,some ⟨1,0,true,.ty (999999999:TypeId) (.lst [])⟩] (by repeat' (first|exact trivial|(first|exact Ent.refl _|exact inc_ent (by omega)|exact Ent.nil rfl|exact Ent.of_eq (congrArg (AV.osl _ _ _) (by rfl))|exact Ent.of_eq (congrArg (AV.int _) (by rfl)))|refine And.intro ?_ ?_)) (by repeat' (first|exact trivial|(first|exact ObEnt.refl _|exact ObEnt.junk|exact ObEnt.zero|exact ObEnt.push rfl rfl|exact ObEnt.pushRow rfl|exact ObEnt.len (by omega)|exact ObEnt.row (by repeat' (first|exact trivial|(first|exact Ent.refl _|exact inc_ent (by omega)|exact Ent.nil rfl|exact Ent.of_eq (congrArg (AV.osl _ _ _) (by rfl))|exact Ent.of_eq (congrArg (AV.int _) (by rfl)))|refine And.intro ?_ ?_)))|refine And.intro ?_ ?_))
    intro x10
    try (have q10:=x10.2;dsimp only at q10)
    apply n_bd ((x10.1:Int)<(s.16:Int))
    ·intro g11
     apply n_req (0≤(x10.1:Int)∧(x10.1:Int)<(s.16:Int))
     apply n_sc (c5 (s.17 (toNat (↑x10.1:Int)) (0)) (s.17 (toNat (↑x10.1:Int)) (1)) (s.17 (toNat (↑x10.1:Int)) (2)) (by grind [validB_iff,rhd_ok]) (by (cases rhd_ok g4 g7;omega)) (by (cases rhd_ok g4 g7;omega)))
     apply n_br (!leafB b s.5 (chS b s) (s.17 (toNat (x10.1:Int)) 0) (s.17 (toNat (x10.1:Int)) 1) (s.17 (toNat (x10.1:Int)) 2))
     ·intro g14
      try simp only [Int.toNat_natCast] at g14
      exact n_out (Ent.of_eq (congrArg _ (vfy_l (by omega) (okL_l g14)).symm))
     ·intro g14
      try simp only [Int.toNat_natCast] at g14
      apply n_loopx ({ x:Nat // x≤x10.1∧(fun (k:Nat)=>∀ (j:Nat),j<k→¬lbF s j=lbF s (x10.1)) x }) [3,5,9,10,11,12] [0,1,2] (fun x=>[.own 0 6 0 0 6,.own 1 80 0 0 80,Zi (chalN (Bas.gr b).2 (Spend.coin s) s.11 s.12 (Spend.cxt s)),.osl 2 1 0 x10.1,Zi x10.1,Zi x.1]) (fun _=>[some ⟨6,1,true,.lst [Bas.cells b]⟩,some ⟨80,1,true,.lst [Spend.cells s]⟩,some ⟨1,x10.1,true,.fn fun i j=>Zi (lbF s i)⟩]) (fun x=>x10.1 - x.1) (⟨(0:Nat),⟨Nat.zero_le (x10.1),fun (j:Nat) (hj:j<0)=>absurd hj (Nat.not_lt_zero j)⟩⟩) [.own 0 6 0 0 6,.own 1 80 0 0 80,Zi (chalN (Bas.gr b).2 (Spend.coin s) s.11 s.12 (Spend.cxt s)),.osl 2 1 0 x10.1,Zi x10.1,Zi 0] [some ⟨6,1,true,.lst [Bas.cells b]⟩,some ⟨80,1,true,.lst [Spend.cells s]⟩,some ⟨1,x10.1,true,.fn fun i j=>Zi (lbF s i)⟩] (by repeat' (first|exact trivial|(first|exact Ent.refl _|exact inc_ent (by omega)|exact Ent.nil rfl|exact Ent.of_eq (congrArg (AV.osl _ _ _) (by rfl))|exact Ent.of_eq (congrArg (AV.int _) (by rfl)))|refine And.intro ?_ ?_)) (by repeat' (first|exact trivial|(first|exact ObEnt.refl _|exact ObEnt.junk|exact ObEnt.zero|exact ObEnt.push rfl rfl|exact ObEnt.pushRow rfl|exact ObEnt.len (by omega)|exact ObEnt.row (by repeat' (first|exact trivial|(first|exact Ent.refl _|exact inc_ent (by omega)|exact Ent.nil rfl|exact Ent.of_eq (congrArg (AV.osl _ _ _) (by rfl))|exact Ent.of_eq (congrArg (AV.int _) (by rfl)))|refine And.intro ?_ ?_)))|refine And.intro ?_ ?_))
      intro x16
      try (have q16:=x16.2;dsimp only at q16)
      apply n_bd ((x16.1:Int)<(x10.1:Int))
      ·intro g17
       apply n_req (0≤(x16.1:Int)∧(x16.1:Int)<(s.16:Int))
       apply n_req (0≤(x10.1:Int)∧(x10.1:Int)<(s.16:Int))
       apply n_br (s.17 (toNat (x16.1:Int)) 0==s.17 (toNat (x10.1:Int)) 0)
       ·intro g20
        try simp only [Int.toNat_natCast] at g20
        exact n_out (Ent.of_eq (congrArg _ (vfy_l (i:=x10.1) (by omega) (okL_m (by omega) g20)).symm))
       ·intro g20
        try simp only [Int.toNat_natCast] at g20
        exact n_againx [0,1,2] (⟨x16.1+1,by omega,ne_next x16.2.2 g20⟩) [.own 0 6 0 0 6,.own 1 80 0 0 80,Zi (chalN (Bas.gr b).2 (Spend.coin s) s.11 s.12 (Spend.cxt s)),.osl 2 1 0 x10.1,Zi x10.1,Zi (wrap .i64 ((x16.1:Int)+(1:Int)))] [some ⟨6,1,true,.lst [Bas.cells b]⟩,some ⟨80,1,true,.lst [Spend.cells s]⟩,some ⟨1,x10.1,true,.fn fun i j=>Zi (lbF s i)⟩] (by repeat' (first|exact trivial|(first|exact Ent.refl _|exact inc_ent (by omega)|exact Ent.nil rfl|exact Ent.of_eq (congrArg (AV.osl _ _ _) (by rfl))|exact Ent.of_eq (congrArg (AV.int _) (by rfl)))|refine And.intro ?_ ?_)) (by repeat' (first|exact trivial|(first|exact ObEnt.refl _|exact ObEnt.junk|exact ObEnt.zero|exact ObEnt.push rfl rfl|exact ObEnt.pushRow rfl|exact ObEnt.len (by omega)|exact ObEnt.row (by repeat' (first|exact trivial|(first|exact Ent.refl _|exact inc_ent (by omega)|exact Ent.nil rfl|exact Ent.of_eq (congrArg (AV.osl _ _ _) (by rfl))|exact Ent.of_eq (congrArg (AV.int _) (by rfl)))|refine And.intro ?_ ?_)))|refine And.intro ?_ ?_))
      ·intro g17
       apply n_req (0≤(x10.1:Int)∧(x10.1:Int)<(s.16:Int))
       apply n_req ((x10.1+1)*8≤140737488355328)
       exact n_up <| n_againx [0,1,91] (⟨x10.1+1,by omega,all_next x10.2.2 (okL_n g14 (fun j hj=>x16.2.2 j (by omega)))⟩) [.own 0 6 0 0 6,.own 1 80 0 0 80,Zi (chalN (Bas.gr b).2 (Spend.coin s) s.11 s.12 (Spend.cxt s)),.osl 2 1 0 (x10.1+1),Zi (wrap .i64 ((x10.1:Int)+(1:Int)))] [some ⟨6,1,true,.lst [Bas.cells b]⟩,some ⟨80,1,true,.lst [Spend.cells s]⟩,some ⟨1,x10.1+1,true,.fn fun i j=>Zi (bif Nat.blt i x10.1 then lbF s i else intOfAV (atL [Zi (s.17 (toNat (x10.1:Int)) 0)] j))⟩] (by repeat' (first|exact trivial|(first|exact Ent.refl _|exact inc_ent (by omega)|exact Ent.nil rfl|exact Ent.of_eq (congrArg (AV.osl _ _ _) (by rfl))|exact Ent.of_eq (congrArg (AV.int _) (by rfl)))|refine And.intro ?_ ?_)) (by repeat' (first|exact trivial|(first|exact ObEnt.refl _|exact ObEnt.junk|exact ObEnt.zero|exact ObEnt.push rfl rfl|exact ObEnt.pushRow rfl|exact ObEnt.len (by omega)|exact ObEnt.row (by repeat' (first|exact trivial|(first|exact Ent.refl _|exact inc_ent (by omega)|exact Ent.nil rfl|exact Ent.of_eq (congrArg (AV.osl _ _ _) (by rfl))|exact Ent.of_eq (congrArg (AV.int _) (by rfl)))|refine And.intro ?_ ?_)))|refine And.intro ?_ ?_))
    ·intro g11
     apply n_dc (c6 (x10.1) (by omega))
     apply n_sc (c7 (x10.1) (by (cases rhd_ok g4 g7 <;> grind)) (by (cases rhd_ok g4 g7;omega)))
     apply n_sc (c8 (by (cases rhd_ok g4 g7;omega)) (by (cases rhd_ok g4 g7;omega)) (by (cases rhd_ok g4 g7;omega)))
     exact n_out (Ent.of_eq (congrArg _ (vfy_r (rhd_ok g4 g7).hd g7.2 (fun i hi=>x10.2.2 i (by omega))).symm)))
theorem vfind1_c (r0 r1 r2 r3 r4 r5 r6 r7 r8 r9 r10 k e d:Int):Pure Tryz.prog gl0 183 [.agg [.int .i64 r0,.int .i64 r1,.int .i64 r2,.int .i64 r3,.int .i64 r4,.int .i64 r5,.int .i64 r6,.int .i64 r7,.int .i64 r8,.int .i64 r9,.int .i64 r10],.ipt 1 (atL [.int .i64 k]),.ipt 1 (atL [.int .i64 e]),.ipt 1 (atL [.int .i64 d])] (.bool (r0==k&&r1==e&&r2==d)):=by
 exact pz Tryz.func183 (by
  refine n_old (.out (.bool (r0==k&&r1==e&&r2==d)) [] (.bool (r0==k&&r1==e&&r2==d)) []) ?_
  simp [k_out,Ent.refl])
theorem vindex_c (R:Nat→Nat→Int) (n:Nat) (k e d:Int) (hn:n≤1000):Pure Tryz.prog gl0 182 [rcl n R,.fn (.func 183) [] [.ipt 1 (atL [.int .i64 k]),.ipt 1 (atL [.int .i64 e]),.ipt 1 (atL [.int .i64 d])]] (.int .i64 (fnI R n k e d)):=by
 unfold fnI
 exact pz Tryz.func182 (by
  apply n_loop ({ x:Nat // x≤n∧(fun (i:Nat)=>firstI (fnB R k e d) n 0=firstI (fnB R k e d) (n - i) i) x }) [0,1,7,8] ([]) (fun x=>[AV.isl 11 n fun (i j:Nat)=>Zi (R i j),AV.fn (Fn.func (183:FuncId)) [] [AV.ipt 1 (atL [Zi k]),AV.ipt 1 (atL [Zi e]),AV.ipt 1 (atL [Zi d])],Zi (↑n:Int),Zi (↑(x.1):Int)]) (fun _=>[]) (fun x=>n - x.1) (⟨0,⟨Nat.zero_le n,rfl⟩⟩)
  intro x0
  try (have q0:=x0.2;dsimp only at q0)
  apply n_bd ((↑x0.1:Int)<(↑n:Int))
  ·intro g1
   apply n_req ((0:Int)≤(↑x0.1:Int)∧(↑x0.1:Int)<(↑n:Int))
   apply n_sc (vfind1_c (R (toNat (↑x0.1:Int)) (0)) (R (toNat (↑x0.1:Int)) (1)) (R (toNat (↑x0.1:Int)) (2)) (R (toNat (↑x0.1:Int)) (3)) (R (toNat (↑x0.1:Int)) (4)) (R (toNat (↑x0.1:Int)) (5)) (R (toNat (↑x0.1:Int)) (6)) (R (toNat (↑x0.1:Int)) (7)) (R (toNat (↑x0.1:Int)) (8)) (R (toNat (↑x0.1:Int)) (9)) (R (toNat (↑x0.1:Int)) (10)) (k) (e) (d))
   apply n_br0 (R (toNat (↑x0.1:Int)) 0==k&&R (toNat (↑x0.1:Int)) 1==e&&R (toNat (↑x0.1:Int)) 2==d)
   ·intro h4
    have g4:=(cnd_and_t (cnd_and_t cnd_beq_t cnd_beq_t) cnd_beq_t) h4
    try simp only [Int.toNat_natCast] at g4
    exact n_out (Ent.of_eq (congrArg _ (first_hit x0.2.2 (by omega) h4)))
   ·intro h4
    have g4:=(cnd_and_f (cnd_and_f cnd_beq_f cnd_beq_f) cnd_beq_f) h4
    try simp only [Int.toNat_natCast] at g4
    exact n_again ([]) (⟨x0.1+1,by omega,first_next x0.2.2 (by omega) h4⟩) (ek3 (en (inc_ent (by omega))))
  ·intro g1
   exact n_out (Ent.of_eq (congrArg _ (first_miss x0.2.2 (by omega)))))
theorem vfind_c (R:Nat→Nat→Int) (n:Nat) (k e d:Int) (hn:n≤1000):Pure Tryz.prog gl0 112 [rcl n R,.int .i64 k,.int .i64 e,.int .i64 d] (.int .i64 (fnI R n k e d)):=by
 have c1:=vindex_c R n k e d hn
 exact pz Tryz.func112 (by
  refine n_old (.sc true 182 [.isl 11 n fun i j=>Zi (R i j),AV.fn (Fn.func 183) [] [AV.ipt 1 fun k_1=>atL [Zi k] k_1,AV.ipt 1 fun k=>atL [Zi e] k,AV.ipt 1 fun k=>atL [Zi d] k]] (Zi (fnI R n k e d)) (.out (Zi (fnI R n k e d)) [] (Zi (fnI R n k e d)) [])) ?_
  grind [k_sc,k_out,Ent.refl])
theorem rvfind_c (R:Nat→Nat→Int) (n:Nat) (k e d:Int) (hn:n≤1000):Pure Tryz.prog gl0 137 [rcl n R,.int .i64 k,.int .i64 e,.int .i64 d] (.int .i64 (fnI R n k e d)):=by
 unfold fnI
 exact pz Tryz.func137 (by
  apply n_loop ({ x:Nat // x≤n∧(fun i=>firstI (fnB R k e d) n 0=firstI (fnB R k e d) (n - i) i) x }) [0,1,2,3,9] [] (fun x=>[.isl 11 n fun i j=>Zi (R i j),Zi k,Zi e,Zi d,Zi x.1]) (fun _=>[]) (fun x=>n - x.1) (⟨0,⟨Nat.zero_le n,rfl⟩⟩)
  intro x0
  try (have q0:=x0.2;dsimp only at q0)
  apply n_bd ((x0.1:Int)<(n:Int))
  ·intro g1
   apply n_req (0≤(x0.1:Int)∧(x0.1:Int)<(n:Int))
   apply n_req (((R (toNat (x0.1:Int)) 0==k)==true)=true→0≤(x0.1:Int)∧(x0.1:Int)<(n:Int))
   apply n_req (((R (toNat (x0.1:Int)) 0==k&&R (toNat (x0.1:Int)) 1==e)==true)=true→0≤(x0.1:Int)∧(x0.1:Int)<(n:Int))
   apply n_br (R (toNat (x0.1:Int)) 0==k&&R (toNat (x0.1:Int)) 1==e&&R (toNat (x0.1:Int)) 2==d)
   ·intro g5
    try simp only [Int.toNat_natCast] at g5
    exact n_outx (Zi x0.1) (by exact Ent.of_eq (congrArg _ (first_hit x0.2.2 (by omega) (fnB_t g5))))
   ·intro g5
    try simp only [Int.toNat_natCast] at g5
    exact n_again [] (⟨x0.1+1,by omega,first_next x0.2.2 (by omega) (fnB_f g5)⟩) (ek4 (en (inc_ent (by omega))))
  ·intro g1
   exact n_outx (Zi (-1)) (by exact Ent.of_eq (congrArg _ (first_miss x0.2.2 (by omega)))))
theorem vrec_c (R:Nat→Nat→Int) (n:Nat) (s:Spend) (hn:n≤1000):Pure Tryz.prog gl0 200 [rcl n R,s.av] (.tup [(rcX R n s).av,.bool (decide (fnS R n s≥0))]):=by
 have c1:=vfind_c R n s.bank s.epoch s.denom hn
 exact pz Tryz.func200 (by
  apply n_sc (c1)
  apply n_br (decide (fnI R n s.1 s.2 s.3<0)||decide (fnI R n s.1 s.2 s.3≥(n:Int)))
  ·intro g1
   exact n_out (Ent.of_eq (rec_no (s:=s) (by (rcases g1 with h|h;(· exact h);(· exfalso;have:=firstI_lt (p:=fnB R s.bank s.epoch s.denom) n 0;grind [fnI])))))
  ·intro g1
   apply n_req ((0:Int)≤fnI R n s.1 s.2 s.3∧fnI R n s.1 s.2 s.3<(n:Int))
   exact n_out (Ent.of_eq (rec_ok (s:=s) (by exact g1.1))))
theorem rvrec_c (R:Nat→Nat→Int) (n:Nat) (s:Spend) (hn:n≤1000):Pure Tryz.prog gl0 81 [rcl n R,s.av] (.tup [(rcX R n s).av,.bool (decide (fnS R n s≥0))]):=by
 have c1:=rvfind_c R n s.bank s.epoch s.denom hn
 exact pz Tryz.func81 (by
  apply n_sc (c1)
  apply n_bd (fnI R n s.1 s.2 s.3<0)
  ·intro g1
   exact n_out (Ent.of_eq (rec_no (s:=s) (by exact g1)))
  ·intro g1
   apply n_req ((0:Int)≤fnI R n s.1 s.2 s.3∧fnI R n s.1 s.2 s.3<(n:Int)) (by exact fnI_lt g1)
   exact n_out (Ent.of_eq (rec_ok (s:=s) (by exact g1))))
theorem vver_c (b:Bas) (R:Nat→Nat→Int) (n:Nat) (s:Spend) (hn:n≤1000) (hw:b.gr.W) (hr:byB s.root 32) (hp:byB s.payee 32) (hf:∀ k,k<s.np→byB (s.pf k) 32) (hm:s.np≤1000000) (hl:s.nl≤1000):Pure Tryz.prog gl0 125 [b.av,rcl n R,s.av] (.bool (verd b R n s)):=by
 have c1:=vrec_c R n s hn
 have c2:=vfy_c b (rcX R n s) s hw hr hp hf hm hl
 exact pz Tryz.func125 (by
  apply n_sc (c1)
  apply n_scg (decide (fnS R n s≥0)==true) (fun h1=>c2)
  exact n_or)
theorem guilty_c (b:Bas) (s t:Spend) (leaf:Int) (hw:b.gr.W) (hs:s.nl≤1000) (ht:t.nl≤1000) (bs:s.By) (bt:t.By):Pure Tryz.prog gl0 126 [b.av,s.av,t.av,.int .i64 leaf] (.tup [.int .i64 (glK b s t leaf).1,.int .i64 (glK b s t leaf).2]):=by
 have c1:=secret_c b s t leaf hw hs ht bs bt
 have c2:=fun h hu=>message_c b (secR b s t leaf).1 h hw hu
 have c3:=fun h h2 hu=>gpow_c b.gr b.g1 (secR b s t leaf).1 h hw h2 hu
 exact pz Tryz.func126 (by
  apply n_sc (c1)
  apply n_br ((secR b s t leaf).2 != 0)
  ·intro g1
   refine n_old (.out (.tup [Zi 0,Zi (secR b s t leaf).2]) [] (.tup [Zi (Prod.fst (glK b s t leaf)),Zi (Prod.snd (glK b s t leaf))]) []) ?_
   grind [k_out,Ent.of_eq,gl_out,secR,glK_1]
  ·intro g1
   apply n_scg (((secR b s t leaf).1==0)==false) (fun h3=>c2 (by grind [secR_ok]) (by grind [secR_ok]))
   apply n_br ((secR b s t leaf).1==0||msgI b (secR b s t leaf).1==1)
   ·intro g4
    refine n_old (.out (.tup [Zi 0,Zi 10]) [] (.tup [Zi (Prod.fst (glK b s t leaf)),Zi (Prod.snd (glK b s t leaf))]) []) ?_
    grind [k_out,Ent.of_eq,gl_out,glK_2]
   ·intro g4
    apply n_sc (c3 (by exact (secR_ok g1).1.G) (by exact (secR_ok g1).1.e1) (by grind [secR_ok]))
    refine n_old (.out (.tup [Zi (b.2^toNat (secR b s t leaf).1%(Bas.gr b).1),Zi 0]) [] (.tup [Zi (Prod.fst (glK b s t leaf)),Zi (Prod.snd (glK b s t leaf))]) []) ?_
    grind [k_out,Ent.of_eq,gl_out,glK_3])
end Go.Proofs.YtcageinnelhonaaGreatDoor

namespace Go.Sp
open Go.IntKind (wrap)
open Int (toNat)
open Go Go.Am
variable {k : Bnk}
theorem natb {a b:Nat}:Nat.beq a b=decide (a=b):=by grind [Nat.beq,decide_eq_true,Nat.eq_of_beq_eq_true,decide_eq_false,Nat.beq_refl]
theorem rcs_len (g:(k.nr:Int)>100∨¬(k.ns:Int)=k.nr):rcsB k=false:=ff_of fun h=>by simp_all [rcsB,Bool.and_eq_true,decide_eq_true_eq,natb]<;>omega
theorem rcs_bad {i:Nat} (hi:i<k.nr) (h:okR k i=false):rcsB k=false:=by
 unfold rcsB;grind
theorem rcs_ok (g:¬(k.nr:Int)>100∧(k.ns:Int)=k.nr) (h:∀ i,i<k.nr→okR k i=true):rcsB k=true:=by grind [rcsB,allR_t,natb,decide_eq_true]
structure RcsV (k : Bnk) : Prop where
  hi : k.nr ≤ 100
  ns : k.ns = k.nr
  ok : ∀ i, i < k.nr → okR k i = true
theorem rcs_V (h:rcsB k=true):RcsV k:=by
 simp only [rcsB,Bool.and_eq_true,decide_eq_true_eq,natb,List.all_eq_true,List.mem_range] at h
 exact ⟨h.1.1,h.1.2,h.2⟩
theorem okR_iff {i:Nat}:okR k i=true↔nzB k.bas (k.X i)=true∧powB k.bas k.bas.gr.g (k.X i)=k.R i 5∧powB k.bas k.bas.g1 (k.X i)=k.R i 6∧powB k.bas k.bas.g2 (k.X i)=k.R i 7∧rcvB k.bas (rcdOf (k.R i))=true∧k.R i 0=k.num∧fnI k.R k.nr (k.R i 0) (k.R i 1) (k.R i 2)=(i:Int):=by
 simp [okR,okK,and_assoc]
theorem css_len (g:(k.nc:Int)>100):cssB k=false:=by grind [cssB,decide_eq_false]
theorem css_bad {i:Nat} (hi:i<k.nc) (h:okC k i=false):cssB k=false:=by
 unfold cssB;grind
theorem css_ok (g:¬(k.nc:Int)>100) (h:∀ i,i<k.nc→okC k i=true):cssB k=true:=by grind [cssB,allR_t,decide_eq_true]
theorem okC_iff {i:Nat}:okC k i=true↔accB k.bas (k.C i).key (k.C i).pf=true∧cuI k (k.C i).key=(i:Int)∧(k.C i).led=5+(i:Int)∧0≤(k.C i).last∧(k.C i).last≤200:=by
 simp [okC,and_assoc]
theorem css_V (h:cssB k=true):k.nc≤100∧∀ i,i<k.nc→okC k i=true:=by simp_all [cssB,Bool.and_eq_true,decide_eq_true_eq,List.all_eq_true,List.mem_range]
theorem iss_len (g:(k.ni:Int)>200):issB k=false:=by grind [issB,decide_eq_false]
theorem iss_bad {i:Nat} (hi:i<k.ni) (h:okI k i=false):issB k=false:=by
 unfold issB;grind
theorem iss_ok (g:¬(k.ni:Int)>200) (h:∀ i,i<k.ni→okI k i=true):issB k=true:=by grind [issB,allR_t,decide_eq_true]
theorem okI_iff {i:Nat}:okI k i=true↔0≤rcI k (fun j=>k.I i (3+j))∧visB k.bas (k.I i)=true∧0≤cuI k (k.I i 2)∧isI k (k.I i 2) (k.I i 1)=(i:Int)∧powB k.bas (k.I i 15) (k.X (rcI k fun j=>k.I i (3+j)).toNat)=k.I i 16:=by
 simp [okI,and_assoc]
end Go.Sp

namespace Go.Proofs.YtcageinnelhonaaGreatDoor
open Go.IntKind (wrap)
open Int (toNat)
open Go Go.Am Go.Sp
set_option maxRecDepth 100000
theorem bvrec_c (k:Bnk) (h:k.bas.Ok) (hw:k.bas.gr.W) (hr:k.nr<9223372036854775808) (_:k.ns<9223372036854775808):Pure Tryz.prog gl0 55 [.agg k.cells] (.bool (rcsB k)):=by
 have c1:=fun i=>keyK_c k.bas (k.X i) h hw
 have c2:=fun i=>recV_c k.bas (rcdOf (k.R i)) hw
 have c3:=fun a b c h=>vfind_c k.R k.nr a b c h
 exact pz Tryz.func55 (by
  apply n_br (decide ((k.4:Int)>100)||(k.6:Int) != (k.4:Int))
  ·intro g0
   exact n_out (Ent.of_eq (congrArg AV.bool (rcs_len g0).symm))
  ·intro g0
   apply n_loop ({ x:Nat // x≤Bnk.nr k∧(fun (i:Nat)=>∀ (j:Nat),j<i→okR k j=true) x }) [1,8,21,22,23] [0] (fun x=>[.own 0 50 0 0 50,.isl 11 k.4 fun i j=>Zi (k.5 i j),.isl 11 k.4 fun i j=>Zi (k.5 i j),Zi k.4,Zi x.1]) (fun _=>[some ⟨50,1,true,.lst [Bnk.cells k]⟩]) (fun x=>Bnk.nr k - x.1) (⟨0,⟨Nat.zero_le (Bnk.nr k),fun (j:Nat) (hj:j<0)=>absurd hj (Nat.not_lt_zero j)⟩⟩)
   intro x2
   try (have q2:=x2.2;dsimp only at q2)
   apply n_bd ((x2.1:Int)<(k.4:Int))
   ·intro g3
    apply n_req (0≤(x2.1:Int)∧(x2.1:Int)<(k.4:Int))
    apply n_req (0≤(x2.1:Int)∧(x2.1:Int)<(k.6:Int))
    apply n_sc (c1 (toNat (↑x2.1:Int)))
    apply n_scg (((bif nzB k.2 (k.7 (toNat (x2.1:Int))) then (0:Int) else (2:Int)) != 0 || !((bif nzB k.2 (k.7 (toNat (x2.1:Int))) then powB k.2 (Bas.gr (Bnk.bas k)).3 (k.7 (toNat (x2.1:Int))) else (0:Int))==k.5 (toNat (x2.1:Int)) 5&&((bif nzB k.2 (k.7 (toNat (x2.1:Int))) then powB k.2 (Bnk.bas k).2 (k.7 (toNat (x2.1:Int))) else (0:Int))==k.5 (toNat (x2.1:Int)) 6&&((bif nzB k.2 (k.7 (toNat (x2.1:Int))) then powB k.2 (Bnk.bas k).3 (k.7 (toNat (x2.1:Int))) else (0:Int))==k.5 (toNat (x2.1:Int)) 7&&true))))==false) (fun h7=>c2 (toNat (↑x2.1:Int)))
    apply n_scg (((bif nzB k.2 (k.7 (toNat (x2.1:Int))) then (0:Int) else (2:Int)) != 0 || !((bif nzB k.2 (k.7 (toNat (x2.1:Int))) then powB k.2 (Bas.gr (Bnk.bas k)).3 (k.7 (toNat (x2.1:Int))) else (0:Int))==k.5 (toNat (x2.1:Int)) 5&&((bif nzB k.2 (k.7 (toNat (x2.1:Int))) then powB k.2 (Bnk.bas k).2 (k.7 (toNat (x2.1:Int))) else (0:Int))==k.5 (toNat (x2.1:Int)) 6&&((bif nzB k.2 (k.7 (toNat (x2.1:Int))) then powB k.2 (Bnk.bas k).3 (k.7 (toNat (x2.1:Int))) else (0:Int))==k.5 (toNat (x2.1:Int)) 7&&true))) || !rcvB k.2 (rcdOf (k.5 (toNat (x2.1:Int))))||k.5 (toNat (x2.1:Int)) 0 != k.1)==false) (fun h8=>c3 (k.5 (toNat (↑x2.1:Int)) (0)) (k.5 (toNat (↑x2.1:Int)) (1)) (k.5 (toNat (↑x2.1:Int)) (2)) (by omega))
    apply n_br ((bif nzB k.2 (k.7 (toNat (x2.1:Int))) then (0:Int) else (2:Int)) != 0 || !((bif nzB k.2 (k.7 (toNat (x2.1:Int))) then powB k.2 (Bas.gr (Bnk.bas k)).3 (k.7 (toNat (x2.1:Int))) else (0:Int))==k.5 (toNat (x2.1:Int)) 5&&((bif nzB k.2 (k.7 (toNat (x2.1:Int))) then powB k.2 (Bnk.bas k).2 (k.7 (toNat (x2.1:Int))) else (0:Int))==k.5 (toNat (x2.1:Int)) 6&&((bif nzB k.2 (k.7 (toNat (x2.1:Int))) then powB k.2 (Bnk.bas k).3 (k.7 (toNat (x2.1:Int))) else (0:Int))==k.5 (toNat (x2.1:Int)) 7&&true))) || !rcvB k.2 (rcdOf (k.5 (toNat (x2.1:Int))))||k.5 (toNat (x2.1:Int)) 0 != k.1||fnI k.5 k.4 (k.5 (toNat (x2.1:Int)) 0) (k.5 (toNat (x2.1:Int)) 1) (k.5 (toNat (x2.1:Int)) 2) != (x2.1:Int))
    ·intro g9
     try simp only [Int.toNat_natCast] at g9
     exact n_out (Ent.of_eq (congrArg AV.bool (rcs_bad (i:=x2.1) (by omega) (ff_of fun e=>by have e:=okR_iff.1 e;clear c1 c2 c3;rw [e.1] at g9;simp only [cond_true] at g9;grind)).symm))
    ·intro g9
     try simp only [Int.toNat_natCast] at g9
     exact n_again [0] (⟨x2.1+1,by omega,all_next x2.2.2 (okR_iff.2 (by clear c1 c2 c3;cases e:nzB k.bas (k.X x2.1)<;>rw [e] at g9<;>simp only [cond_true,cond_false] at g9<;>grind))⟩) (ek4 (en (inc_ent (by omega))))
   ·intro g3
    exact n_out (Ent.of_eq (congrArg AV.bool (rcs_ok g0 fun i hi=>x2.2.2 i (by omega)).symm)))
theorem bvcus_c (k:Bnk) (hw:k.bas.gr.W) (hn:k.nc<9223372036854775808):Pure Tryz.prog gl0 56 [.agg k.cells] (.bool (cssB k)):=by
 have c1:=fun i=>aval_c k.bas (k.C i).key (k.C i).pf hw
 have c2:=fun y=>bcust_c k y hn
 exact pz Tryz.func56 (by
  apply n_bd ((k.8:Int)>100)
  ·intro g0
   exact n_out (Ent.of_eq (congrArg AV.bool (css_len g0).symm))
  ·intro g0
   apply n_loop ({ x:Nat // x≤Bnk.nc k∧(fun (i:Nat)=>∀ (j:Nat),j<i→okC k j=true) x }) [1,6,10,11,12] [0] (fun x=>[.own 0 50 0 0 50,.isl 7 k.8 fun i j=>atL (Cus.cells (Bnk.C k i)) j,.isl 7 k.8 fun i j=>atL (Cus.cells (Bnk.C k i)) j,Zi k.8,Zi x.1]) (fun _=>[some ⟨50,1,true,.lst [Bnk.cells k]⟩]) (fun x=>Bnk.nc k - x.1) (⟨0,⟨Nat.zero_le (Bnk.nc k),fun (j:Nat) (hj:j<0)=>absurd hj (Nat.not_lt_zero j)⟩⟩)
   intro x2
   try (have q2:=x2.2;dsimp only at q2)
   have e5:x2.1<k.nc→IntKind.wrap .i64 (5+(x2.1:Int))=5+(x2.1:Int):=fun _=>wI (by omega) (by omega)
   apply n_bd ((x2.1:Int)<(k.8:Int))
   ·intro g3
    apply n_req (0≤(x2.1:Int)∧(x2.1:Int)<(k.8:Int))
    apply n_sc (c1 (toNat (↑(x2.1):Int)))
    apply n_scg ((!accB k.2 (Bnk.C k (toNat (↑(x2.1):Int))).1 (Bnk.C k (toNat (↑(x2.1):Int))).2)==false) (fun h6=>c2 ((Bnk.C k (toNat (↑(x2.1):Int))).1))
    apply n_scg ((!accB k.2 (Bnk.C k (toNat (↑(x2.1):Int))).1 (Bnk.C k (toNat (↑(x2.1):Int))).2||cuI k (Bnk.C k (toNat (↑(x2.1):Int))).1 != (x2.1:Int)||(Bnk.C k (toNat (↑(x2.1):Int))).3 != wrap .i64 ((5:Int)+(x2.1:Int)))==false) (fun h7=>bin_c ((Bnk.C k (toNat (↑(x2.1):Int))).5) ((0:Int)) ((200:Int)))
    apply n_br (!accB k.2 (Bnk.C k (toNat (↑(x2.1):Int))).1 (Bnk.C k (toNat (↑(x2.1):Int))).2||cuI k (Bnk.C k (toNat (↑(x2.1):Int))).1 != (x2.1:Int)||(Bnk.C k (toNat (↑(x2.1):Int))).3 != wrap .i64 ((5:Int)+(x2.1:Int)) || !(decide ((Bnk.C k (toNat (↑(x2.1):Int))).5≥0)&&decide ((Bnk.C k (toNat (↑(x2.1):Int))).5≤200)))
    ·intro g8
     try simp only [Int.toNat_natCast] at g8
     exact n_out (Ent.of_eq (congrArg AV.bool (css_bad (i:=x2.1) (by omega) (ff_of fun e=>by have e:=okC_iff.1 e;clear c1 c2;rw [e5 (by omega)] at g8;grind)).symm))
    ·intro g8
     try simp only [Int.toNat_natCast] at g8
     exact n_again [0] (⟨x2.1+1,by omega,all_next x2.2.2 (okC_iff.2 (by clear c1 c2;rw [e5 (by omega)] at g8;grind))⟩) (ek4 (en (inc_ent (by omega))))
   ·intro g3
    exact n_out (Ent.of_eq (congrArg AV.bool (css_ok g0 fun i hi=>x2.2.2 i (by omega)).symm)))
end Go.Proofs.YtcageinnelhonaaGreatDoor

namespace Go.Sp
open Go.IntKind (wrap)
open Int (toNat)
open Go Go.Am
variable {k : Bnk} {i : Nat}
theorem rcI_lt {r:Nat→Int} (h:¬rcI k r<0):0≤rcI k r∧rcI k r<k.nr:=by
 have:=firstI_lt (p:=fun i=>eqR (k.R i) r) k.nr 0
 unfold rcI at h ⊢
 omega
theorem isf_1 (g:((rcI k (fun j=>k.I i (3+j))<0∨visB k.bas (k.I i)=false)∨cuI k (k.I i 2)<0)∨¬isI k (k.I i 2) (k.I i 1)=(i:Int)):okI k i=false:=ff_of fun e=>by
 have e:=okI_iff.1 e
 grind
structure IsP (k : Bnk) (i : Nat) : Prop where
  rc : 0 ≤ rcI k (fun j => k.I i (3 + j)) ∧ rcI k (fun j => k.I i (3 + j)) < k.nr
  el : elemB k.bas.gr (k.I i 15) = true
  nz : nzB k.bas (k.X (rcI k fun j => k.I i (3 + j)).toNat) = true
theorem is_P (hr:RcsV k) (g:((¬rcI k (fun j=>k.I i (3+j))<0∧visB k.bas (k.I i)=true)∧¬cuI k (k.I i 2)<0)∧isI k (k.I i 2) (k.I i 1)=(i:Int)):IsP k i:=by
 have r:=rcI_lt g.1.1.1
 have v:=vis_V g.1.1.2
 exact ⟨r,by rw [v.m];exact ak_el v.ak,(okR_iff.1 (hr.ok _ (by omega))).1⟩
theorem isf_2 (g:¬k.I i 15^(k.X (rcI k fun j=>k.I i (3+j)).toNat).toNat%k.bas.gr.p=k.I i 16):okI k i=false:=ff_of fun e=>g (okI_iff.1 e).2.2.2.2
theorem ist (g:((¬rcI k (fun j=>k.I i (3+j))<0∧visB k.bas (k.I i)=true)∧¬cuI k (k.I i 2)<0)∧isI k (k.I i 2) (k.I i 1)=(i:Int))
  (g':k.I i 15^(k.X (rcI k fun j=>k.I i (3+j)).toNat).toNat%k.bas.gr.p=k.I i 16):okI k i=true :=
 okI_iff.2 ⟨by have:=g.1.1.1;omega,g.1.1.2,by have:=g.1.2;omega,g.2,g'⟩
end Go.Sp

namespace Go.Proofs.YtcageinnelhonaaGreatDoor
open Go.IntKind (wrap)
open Int (toNat)
open Go Go.Am Go.Sp
set_option maxRecDepth 100000
theorem bviss_c (k:Bnk) (h:k.bas.Ok) (hw:k.bas.gr.W) (hr:RcsV k) (hc:k.nc<9223372036854775808) (hn:k.ni<9223372036854775808):Pure Tryz.prog gl0 59 [.agg k.cells] (.bool (issB k)):=by
 have m0:=hr.hi
 have m1:=hr.ns
 have c1:=fun i=>idxR_c k.nr k.R (fun j=>k.I i (3+j)) (by omega)
 have c2:=fun i=>viss_c k.bas (k.I i) hw
 have c3:=fun y=>bcust_c k y hc
 have c4:=fun y m=>bissue_c k y m hn
 have c5:=fun x e hx he=>gpow_c k.bas.gr x e h.G hw hx he
 exact pz Tryz.func59 (by
  apply n_bd ((k.16:Int)>200)
  ·intro g0
   exact n_out (Ent.of_eq (congrArg AV.bool (iss_len g0).symm))
  ·intro g0
   apply n_loop ({ x:Nat // x≤Bnk.ni k∧(fun (i:Nat)=>∀ (j:Nat),j<i→okI k j=true) x }) [1,9,13,14,15] [0] (fun x=>[.own 0 50 0 0 50,.isl 21 k.16 fun i j=>Zi (k.17 i j),.isl 21 k.16 fun i j=>Zi (k.17 i j),Zi k.16,Zi x.1]) (fun _=>[some ⟨50,1,true,.lst [Bnk.cells k]⟩]) (fun x=>Bnk.ni k - x.1) (⟨0,⟨Nat.zero_le (Bnk.ni k),fun (j:Nat) (hj:j<0)=>absurd hj (Nat.not_lt_zero j)⟩⟩)
   intro x2
   try (have q2:=x2.2;dsimp only at q2)
   apply n_bd ((x2.1:Int)<(k.16:Int))
   ·intro g3
    apply n_req (0≤(x2.1:Int)∧(x2.1:Int)<(k.16:Int))
    apply n_sc (c1 (toNat (↑x2.1:Int)))
    apply n_scg (decide (firstI (fun i=>eqR (k.5 i) fun j=>k.17 (toNat (x2.1:Int)) (3+j)) k.4 0<0)==false) (fun h6=>c2 (toNat (↑x2.1:Int)))
    apply n_scg ((decide (firstI (fun i=>eqR (k.5 i) fun j=>k.17 (toNat (x2.1:Int)) (3+j)) k.4 0<0) || !visB k.2 (k.17 (toNat (x2.1:Int))))==false) (fun h7=>c3 (k.17 (toNat (↑x2.1:Int)) (2)))
    apply n_scg ((decide (firstI (fun i=>eqR (k.5 i) fun j=>k.17 (toNat (x2.1:Int)) (3+j)) k.4 0<0) || !visB k.2 (k.17 (toNat (x2.1:Int)))||decide (cuI k (k.17 (toNat (x2.1:Int)) 2)<0))==false) (fun h8=>c4 (k.17 (toNat (↑x2.1:Int)) (2)) (k.17 (toNat (↑x2.1:Int)) (1)))
    apply n_br (decide (firstI (fun i=>eqR (k.5 i) fun j=>k.17 (toNat (x2.1:Int)) (3+j)) k.4 0<0) || !visB k.2 (k.17 (toNat (x2.1:Int)))||decide (cuI k (k.17 (toNat (x2.1:Int)) 2)<0)||isI k (k.17 (toNat (x2.1:Int)) 2) (k.17 (toNat (x2.1:Int)) 1) != (x2.1:Int))
    ·intro g9
     try simp only [Int.toNat_natCast] at g9
     exact n_out (Ent.of_eq (congrArg AV.bool (iss_bad (i:=x2.1) (by omega) (isf_1 g9)).symm))
    ·intro g9
     try simp only [Int.toNat_natCast] at g9
     apply n_req ((0:Int)≤firstI (fun i=>eqR (k.5 i) fun j=>k.17 (toNat (x2.1:Int)) (3+j)) k.4 0∧firstI (fun i=>eqR (k.5 i) fun j=>k.17 (toNat (x2.1:Int)) (3+j)) k.4 0<(k.6:Int)) (by have:=(is_P hr g9).rc;unfold rcI at this;simp only [Int.toNat_natCast];omega)
     apply n_sc (c5 (k.17 (toNat (↑x2.1:Int)) (15)) (k.7 (toNat (firstI (fun (i:Nat)=>eqR (k.5 i) fun (j:Nat)=>k.17 (toNat (↑x2.1:Int)) (3+j)) k.4 (0)))) ((is_P hr g9).el) (nz_rng (is_P hr g9).nz))
     apply n_br (k.17 (toNat (x2.1:Int)) 15^toNat (k.7 (toNat (firstI (fun i=>eqR (k.5 i) fun j=>k.17 (toNat (x2.1:Int)) (3+j)) k.4 0)))%(Bas.gr (Bnk.bas k)).1 != k.17 (toNat (x2.1:Int)) 16)
     ·intro g13
      try simp only [Int.toNat_natCast] at g13
      exact n_out (Ent.of_eq (congrArg AV.bool (iss_bad (i:=x2.1) (by omega) (isf_2 g13)).symm))
     ·intro g13
      try simp only [Int.toNat_natCast] at g13
      exact n_again [0] (⟨x2.1+1,by omega,all_next x2.2.2 (ist g9 g13)⟩) (ek4 (en (inc_ent (by omega))))
   ·intro g3
    exact n_out (Ent.of_eq (congrArg AV.bool (iss_ok g0 fun i hi=>x2.2.2 i (by omega)).symm)))
theorem rbet_c (x l h:Int):Pure Tryz.prog gl0 26 [.int .i64 x,.int .i64 l,.int .i64 h] (.bool (decide (x≥l)&&decide (x≤h))):=by
 exact pz Tryz.func26 (by
  exact n_or)
theorem rcust_c (k:Bnk) (y:Int) (hn:k.nc<9223372036854775808):Pure Tryz.prog gl0 71 [.agg k.cells,.int .i64 y] (.int .i64 (cuI k y)):=by
 exact pz Tryz.func71 (by
  apply n_loop ({ x:Nat // x≤Bnk.nc k∧(fun i=>cuI k y=firstI (fun i=>Cus.key (Bnk.C k i)==y) (Bnk.nc k - i) i) x }) [1,2,5] [0] (fun x=>[Zi y,.own 0 50 0 0 50,Zi x.1]) (fun _=>[some ⟨50,1,true,.lst [Bnk.cells k]⟩]) (fun x=>Bnk.nc k - x.1) (⟨0,⟨Nat.zero_le (Bnk.nc k),rfl⟩⟩)
  intro x0
  try (have q0:=x0.2;dsimp only at q0)
  apply n_bd ((x0.1:Int)<(k.8:Int))
  ·intro g1
   apply n_req (0≤(x0.1:Int)∧(x0.1:Int)<(k.8:Int))
   apply n_br ((Bnk.C k (toNat (↑(x0.1):Int))).1==y)
   ·intro g3
    try simp only [Int.toNat_natCast] at g3
    exact n_out (Ent.of_eq (congrArg _ (first_hit (p:=fun i=>(k.C i).key==y) x0.2.2 (by omega) (beq_iff_eq.2 g3))))
   ·intro g3
    try simp only [Int.toNat_natCast] at g3
    exact n_again [0] (⟨x0.1+1,by omega,first_next (p:=fun i=>(k.C i).key==y) x0.2.2 (by omega) (beq_eq_false_iff_ne.2 g3)⟩) (ek2 (en (inc_ent (by omega))))
  ·intro g1
   exact n_out (Ent.of_eq (congrArg _ (first_miss x0.2.2 (by omega)))))
theorem rrec_c (k:Bnk) (r:Nat→Int) (hn:k.nr<9223372036854775808):Pure Tryz.prog gl0 77 [.agg k.cells,(rcdOf r).av] (.int .i64 (rcI k r)):=by
 exact pz Tryz.func77 (by
  apply n_loop ({ x:Nat // x≤Bnk.nr k∧(fun (i:Nat)=>rcI k r=firstI (fun (i:Nat)=>eqR (Bnk.R k i) r) (Bnk.nr k - i) i) x }) [2,3,5] ([0,8]) (fun x=>[AV.own 0 50 0 0 50,AV.own 1 11 0 0 11,Zi (↑(x.1):Int)]) (fun _=>[some ⟨50,1,true,Rep.lst [Bnk.cells k]⟩,some ⟨11,1,true,Rep.lst [Rcd.cells (rcdOf r)]⟩]) (fun x=>Bnk.nr k - x.1) (⟨0,⟨Nat.zero_le (Bnk.nr k),rfl⟩⟩)
  intro x0
  try (have q0:=x0.2;dsimp only at q0)
  apply n_bd ((↑x0.1:Int)<(↑k.4:Int))
  ·intro g1
   apply n_req ((0:Int)≤(↑x0.1:Int)∧(↑x0.1:Int)<(↑k.4:Int))
   apply n_br (k.5 (toNat (↑x0.1:Int)) 0==r 0&&(k.5 (toNat (↑x0.1:Int)) 1==r 1&&(k.5 (toNat (↑x0.1:Int)) 2==r 2&&(k.5 (toNat (↑x0.1:Int)) 3==r 3&&(k.5 (toNat (↑x0.1:Int)) 4==r 4&&(k.5 (toNat (↑x0.1:Int)) 5==r 5&&(k.5 (toNat (↑x0.1:Int)) 6==r 6&&(k.5 (toNat (↑x0.1:Int)) 7==r 7&&true))&&(k.5 (toNat (↑x0.1:Int)) 8==r 8&&(k.5 (toNat (↑x0.1:Int)) 9==r 9&&(k.5 (toNat (↑x0.1:Int)) 10==r 10&&true)))))))))
   ·intro g3
    try simp only [Int.toNat_natCast] at g3
    exact n_out (Ent.of_eq (congrArg _ (first_hit (p:=fun i=>eqR (k.R i) r) x0.2.2 (by omega) (eqR_comm.trans (eqR_t (x:=r) g3)))))
   ·intro g3
    try simp only [Int.toNat_natCast] at g3
    exact n_again ([0,1]) (⟨x0.1+1,by omega,first_next (p:=fun i=>eqR (k.R i) r) x0.2.2 (by omega) (eqR_comm.trans (eqR_f (x:=r) g3))⟩) (ek2 (en (inc_ent (by omega))))
  ·intro g1
   exact n_out (Ent.of_eq (congrArg _ (first_miss x0.2.2 (by omega)))))
theorem riss_c (k:Bnk) (y m:Int) (hn:k.ni<9223372036854775808):Pure Tryz.prog gl0 78 [.agg k.cells,.int .i64 y,.int .i64 m] (.int .i64 (isI k y m)):=by
 exact pz Tryz.func78 (by
  apply n_loop ({ x:Nat // x≤Bnk.ni k∧(fun i=>isI k y m=firstI (fun i=>Bnk.I k i 2==y&&Bnk.I k i 1==m) (Bnk.ni k - i) i) x }) [1,2,3,7] [0] (fun x=>[Zi y,Zi m,.own 0 50 0 0 50,Zi x.1]) (fun _=>[some ⟨50,1,true,.lst [Bnk.cells k]⟩]) (fun x=>Bnk.ni k - x.1) (⟨0,⟨Nat.zero_le (Bnk.ni k),rfl⟩⟩)
  intro x0
  try (have q0:=x0.2;dsimp only at q0)
  apply n_bd ((x0.1:Int)<(k.16:Int))
  ·intro g1
   apply n_req (0≤(x0.1:Int)∧(x0.1:Int)<(k.16:Int))
   apply n_req (((k.17 (toNat (x0.1:Int)) 2==y)==true)=true→0≤(x0.1:Int)∧(x0.1:Int)<(k.16:Int)) (fun hr=>by have hr:=(cnd_eqt_t cnd_beq_t) hr;omega)
   apply n_br (k.17 (toNat (x0.1:Int)) 2==y&&k.17 (toNat (x0.1:Int)) 1==m)
   ·intro g4
    try simp only [Int.toNat_natCast] at g4
    exact n_out (Ent.of_eq (congrArg _ (first_hit (p:=fun i=>k.I i 2==y&&k.I i 1==m) x0.2.2 (by omega) (by simpa using g4))))
   ·intro g4
    try simp only [Int.toNat_natCast] at g4
    exact n_again [0] (⟨x0.1+1,by omega,first_next (p:=fun i=>k.I i 2==y&&k.I i 1==m) x0.2.2 (by omega) (by simp;omega)⟩) (ek3 (en (inc_ent (by omega))))
  ·intro g1
   exact n_out (Ent.of_eq (congrArg _ (first_miss x0.2.2 (by omega)))))
theorem rtwice_c (n:Nat) (R:Nat→Nat→Int) (hn:n≤1000):Pure Tryz.prog gl0 69 [.isl 11 n fun i j=>.int .i64 (R i j)] (.bool (!(List.range n).all fun i=>fnI R n (R i 0) (R i 1) (R i 2)==(i:Int))):=by
 have c1:=fun a b c=>rvfind_c R n a b c hn
 exact pz Tryz.func69 (by
  apply n_loop ({ x:Nat // x≤n∧(fun (i:Nat)=>∀ (j:Nat),j<i→(fnI R n (R j 0) (R j 1) (R j 2)==(j:Int))=true) x }) [0,3] [] (fun x=>[.isl 11 n fun i j=>Zi (R i j),Zi x.1]) (fun _=>[]) (fun x=>n - x.1) (⟨0,⟨Nat.zero_le n,fun (j:Nat) (hj:j<0)=>absurd hj (Nat.not_lt_zero j)⟩⟩)
  intro x0
  try (have q0:=x0.2;dsimp only at q0)
  apply n_bd ((x0.1:Int)<(n:Int))
  ·intro g1
   apply n_req (0≤(x0.1:Int)∧(x0.1:Int)<(n:Int))
   apply n_req (0≤(x0.1:Int)∧(x0.1:Int)<(n:Int))
   apply n_req (0≤(x0.1:Int)∧(x0.1:Int)<(n:Int))
   apply n_sc (c1 (R (toNat (↑x0.1:Int)) (0)) (R (toNat (↑x0.1:Int)) (1)) (R (toNat (↑x0.1:Int)) (2)))
   apply n_br (fnI R n (R (toNat (x0.1:Int)) 0) (R (toNat (x0.1:Int)) 1) (R (toNat (x0.1:Int)) 2) != (x0.1:Int))
   ·intro g6
    try simp only [Int.toNat_natCast] at g6
    exact n_outx (.bool true) (Ent.of_eq (congrArg AV.bool (by rw [allR_f (p:=fun i=>fnI R n (R i 0) (R i 1) (R i 2)==(i:Int)) (i:=x0.1) (by omega) (beq_eq_false_iff_ne.2 g6)];rfl)))
   ·intro g6
    try simp only [Int.toNat_natCast] at g6
    exact n_again [] (⟨x0.1+1,by omega,all_next x0.2.2 (beq_iff_eq.2 g6)⟩) (ek (en (inc_ent (by omega))))
  ·intro g1
   exact n_outx (.bool false) (Ent.of_eq (congrArg AV.bool (by rw [allR_t fun i hi=>x0.2.2 i (by omega)];rfl))))
end Go.Proofs.YtcageinnelhonaaGreatDoor

namespace Go.Sp
open Go.IntKind (wrap)
open Int (toNat)
open Go Go.Am
variable {k : Bnk} {i : Nat}
def recH (k:Bnk) (i:Nat):Bool:=okK k.bas (k.X i) (k.R i)&&rcvB k.bas (rcdOf (k.R i))&&k.R i 0==k.num
theorem recH_iff:recH k i=true↔nzB k.bas (k.X i)=true∧powB k.bas k.bas.gr.g (k.X i)=k.R i 5∧powB k.bas k.bas.g1 (k.X i)=k.R i 6∧powB k.bas k.bas.g2 (k.X i)=k.R i 7∧rcvB k.bas (rcdOf (k.R i))=true∧k.R i 0=k.num:=by
 simp [recH,okK,and_assoc]
theorem rcs_h {n:Nat} (hn:n=k.nr) (g:¬(k.nr:Int)>100∧(k.ns:Int)=k.nr) (h:∀ i,i<n→recH k i=true):(!!(List.range k.nr).all fun i=>fnI k.R k.nr (k.R i 0) (k.R i 1) (k.R i 2)==(i:Int))=rcsB k:=by
 subst hn
 rw [Bool.not_not]
 cases e:(List.range k.nr).all fun i=>fnI k.R k.nr (k.R i 0) (k.R i 1) (k.R i 2)==(i:Int) with
 | true =>
  rw [List.all_eq_true] at e
  refine (rcs_ok g fun i hi=>?_).symm
  have:=e i (List.mem_range.2 hi)
  have h2:=h i hi
  unfold recH at h2
  unfold okR
  rw [h2,this];rfl
 | false =>
  refine (ff_of fun h3=>?_).symm
  have h3:=(rcs_V h3).ok
  have:((List.range k.nr).all fun i=>fnI k.R k.nr (k.R i 0) (k.R i 1) (k.R i 2)==(i:Int))=true:=allR_t fun i hi=>beq_iff_eq.2 (okR_iff.1 (h3 i hi)).2.2.2.2.2.2
  rw [this] at e;cases e
theorem rcs_hb (hi:i<k.nr) (h:recH k i=false):rcsB k=false:=rcs_bad hi (by unfold recH at h;unfold okR;rw [h,Bool.false_and])
end Go.Sp

namespace Go.Proofs.YtcageinnelhonaaGreatDoor
open Go.IntKind (wrap)
open Int (toNat)
open Go Go.Am Go.Sp
set_option maxRecDepth 100000
theorem rrecs_c (k:Bnk) (h:k.bas.Ok) (hw:k.bas.gr.W) (hr:k.nr<9223372036854775808) (_:k.ns<9223372036854775808):Pure Tryz.prog gl0 30 [.agg k.cells] (.bool (rcsB k)):=by
 have c1:=fun i hx=>rkeyK_c k.bas (k.X i) h hx
 have c2:=fun i=>rrecV_c k.bas (rcdOf (k.R i)) hw
 have c3:=fun h=>rtwice_c k.nr k.R h
 have c4:=fun i=>rsec_c k.bas (k.X i)
 exact pz Tryz.func30 (by
  apply n_br (decide ((k.4:Int)>100)||(k.6:Int) != (k.4:Int))
  ·intro g0
   exact n_out (Ent.of_eq (congrArg AV.bool (rcs_len g0).symm))
  ·intro g0
   apply n_loop ({ x:Nat // x≤Bnk.nr k∧(fun (i:Nat)=>∀ (j:Nat),j<i→recH k j=true) x }) [1,5,3] [0] (fun x=>[.own 0 50 0 0 50,.own 0 50 0 8 1,Zi x.1]) (fun _=>[some ⟨50,1,true,.lst [Bnk.cells k]⟩]) (fun x=>Bnk.nr k - x.1) (⟨0,⟨Nat.zero_le (Bnk.nr k),fun (j:Nat) (hj:j<0)=>absurd hj (Nat.not_lt_zero j)⟩⟩)
   intro x2
   try (have q2:=x2.2;dsimp only at q2)
   apply n_bd ((x2.1:Int)<(k.4:Int))
   ·intro g3
    apply n_req (0≤(x2.1:Int)∧(x2.1:Int)<(k.4:Int))
    apply n_scg ((k.5 (toNat (x2.1:Int)) 0 != k.1)==false) (fun h5=>c2 (toNat (↑x2.1:Int)))
    apply n_req (((k.5 (toNat (x2.1:Int)) 0 != k.1 || !rcvB k.2 (rcdOf (k.5 (toNat (x2.1:Int)))))==false)=true→0≤(x2.1:Int)∧(x2.1:Int)<(k.6:Int))
    apply n_scg ((k.5 (toNat (x2.1:Int)) 0 != k.1 || !rcvB k.2 (rcdOf (k.5 (toNat (x2.1:Int)))))==false) (fun h7=>c4 (toNat (↑x2.1:Int)))
    apply n_req (((k.5 (toNat (x2.1:Int)) 0 != k.1 || !rcvB k.2 (rcdOf (k.5 (toNat (x2.1:Int)))) || !nzB k.2 (k.7 (toNat (x2.1:Int))))==false)=true→0≤(x2.1:Int)∧(x2.1:Int)<(k.6:Int))
    apply n_scg ((k.5 (toNat (x2.1:Int)) 0 != k.1 || !rcvB k.2 (rcdOf (k.5 (toNat (x2.1:Int)))) || !nzB k.2 (k.7 (toNat (x2.1:Int))))==false) (fun h9=>c1 (toNat (↑x2.1:Int)) ((by grind)))
    apply n_br (k.5 (toNat (x2.1:Int)) 0 != k.1 || !rcvB k.2 (rcdOf (k.5 (toNat (x2.1:Int)))) || !nzB k.2 (k.7 (toNat (x2.1:Int))) || !(powB k.2 (Bas.gr (Bnk.bas k)).3 (k.7 (toNat (x2.1:Int)))==k.5 (toNat (x2.1:Int)) 5&&(powB k.2 (Bnk.bas k).2 (k.7 (toNat (x2.1:Int)))==k.5 (toNat (x2.1:Int)) 6&&(powB k.2 (Bnk.bas k).3 (k.7 (toNat (x2.1:Int)))==k.5 (toNat (x2.1:Int)) 7&&true))))
    ·intro g10
     try simp only [Int.toNat_natCast] at g10
     exact n_out (Ent.of_eq (congrArg AV.bool (rcs_hb (i:=x2.1) (by omega) (ff_of fun e=>by grind [recH_iff])).symm))
    ·intro g10
     try simp only [Int.toNat_natCast] at g10
     exact n_again [0] (⟨x2.1+1,by omega,all_next x2.2.2 (recH_iff.2 (by grind))⟩) (ek2 (en (inc_ent (by omega))))
   ·intro g3
    apply n_sc (c3 (by omega))
    exact n_out (Ent.of_eq (congrArg AV.bool ((rcs_h (n:=x2.1) (by omega) g0 x2.2.2)))))
theorem rcuss_c (k:Bnk) (hw:k.bas.gr.W) (hn:k.nc<9223372036854775808):Pure Tryz.prog gl0 31 [.agg k.cells] (.bool (cssB k)):=by
 have c1:=fun i=>raval_c k.bas (k.C i).key (k.C i).pf hw
 have c2:=fun y=>rcust_c k y hn
 exact pz Tryz.func31 (by
  apply n_bd ((k.8:Int)>100)
  ·intro g0
   refine n_old (.out (.bool false) [] (.bool (cssB k)) []) ?_
   simp_all [k_out,Ent.of_eq,css_len]
  ·intro g0
   apply n_loop ({ x:Nat // x≤Bnk.nc k∧(fun (i:Nat)=>∀ (j:Nat),j<i→okC k j=true) x }) [1,6,3] [0] (fun x=>[.own 0 50 0 0 50,.isl 7 k.8 fun i j=>atL (Cus.cells (Bnk.C k i)) j,Zi x.1]) (fun _=>[some ⟨50,1,true,.lst [Bnk.cells k]⟩]) (fun x=>Bnk.nc k - x.1) (⟨0,⟨Nat.zero_le (Bnk.nc k),fun (j:Nat) (hj:j<0)=>absurd hj (Nat.not_lt_zero j)⟩⟩)
   intro x2
   try (have q2:=x2.2;dsimp only at q2)
   have e5:x2.1<k.nc→IntKind.wrap .i64 (5+(x2.1:Int))=5+(x2.1:Int):=fun _=>wI (by omega) (by omega)
   apply n_bd ((x2.1:Int)<(k.8:Int))
   ·intro g3
    apply n_req (0≤(x2.1:Int)∧(x2.1:Int)<(k.8:Int))
    apply n_sc (c1 (toNat (↑(x2.1):Int)))
    apply n_scg ((!accB k.2 (Bnk.C k (toNat (↑(x2.1):Int))).1 (Bnk.C k (toNat (↑(x2.1):Int))).2)==false) (fun h6=>c2 ((Bnk.C k (toNat (↑(x2.1):Int))).1))
    apply n_scg ((!accB k.2 (Bnk.C k (toNat (↑(x2.1):Int))).1 (Bnk.C k (toNat (↑(x2.1):Int))).2||cuI k (Bnk.C k (toNat (↑(x2.1):Int))).1 != (x2.1:Int)||(Bnk.C k (toNat (↑(x2.1):Int))).3 != wrap .i64 ((5:Int)+(x2.1:Int)))==false) (fun h7=>rbet_c ((Bnk.C k (toNat (↑(x2.1):Int))).5) ((0:Int)) ((200:Int)))
    apply n_br (!accB k.2 (Bnk.C k (toNat (↑(x2.1):Int))).1 (Bnk.C k (toNat (↑(x2.1):Int))).2||cuI k (Bnk.C k (toNat (↑(x2.1):Int))).1 != (x2.1:Int)||(Bnk.C k (toNat (↑(x2.1):Int))).3 != wrap .i64 ((5:Int)+(x2.1:Int)) || !(decide ((Bnk.C k (toNat (↑(x2.1):Int))).5≥0)&&decide ((Bnk.C k (toNat (↑(x2.1):Int))).5≤200)))
    ·intro g8
     try simp only [Int.toNat_natCast] at g8
     exact n_out (Ent.of_eq (congrArg AV.bool (css_bad (i:=x2.1) (by omega) (ff_of fun e=>by grind [okC_iff])).symm))
    ·intro g8
     try simp only [Int.toNat_natCast] at g8
     exact n_again [0] (⟨x2.1+1,by omega,all_next x2.2.2 (okC_iff.2 (by grind))⟩) (ek2 (en (inc_ent (by omega))))
   ·intro g3
    exact n_out (Ent.of_eq (congrArg AV.bool (css_ok g0 fun i hi=>x2.2.2 i (by omega)).symm)))
theorem risss_c (k:Bnk) (h:k.bas.Ok) (hw:k.bas.gr.W) (hV:RcsV k) (hc:k.nc<9223372036854775808) (hn:k.ni<9223372036854775808):Pure Tryz.prog gl0 34 [.agg k.cells] (.bool (issB k)):=by
 have m0:=hV.hi
 have m1:=hV.ns
 have c1:=fun i=>rrec_c k (fun j=>k.I i (3+j)) (by omega)
 have c2:=fun i=>rviss_c k.bas (k.I i) hw
 have c3:=fun y=>rcust_c k y hc
 have c4:=fun y m=>riss_c k y m hn
 have c5:=fun x e (P:(0≤x∧x<k.bas.gr.p)∧(0≤e∧e<k.bas.gr.q))=>rpow_c x e k.bas.gr.p P.1.1 P.1.2 P.2.1 (by have:=h.G.qp;have:=h.G.p1;omega) h.G.p1
 have K:=fun i (g:(((¬rcI k (fun j=>k.I i (3+j))<0∧¬cuI k (k.I i 2)<0)∧isI k (k.I i 2) (k.I i 1)=(i:Int))∧visB k.bas (k.I i)=true))=>is_P hV ⟨⟨⟨g.1.1.1,g.2⟩,g.1.1.2⟩,g.1.2⟩
 exact pz Tryz.func34 (by
  apply n_bd ((k.16:Int)>200)
  ·intro g0
   exact n_out (Ent.of_eq (congrArg AV.bool (iss_len g0).symm))
  ·intro g0
   apply n_loop ({ x:Nat // x≤Bnk.ni k∧(fun (i:Nat)=>∀ (j:Nat),j<i→okI k j=true) x }) [1,9,3] [0] (fun x=>[.own 0 50 0 0 50,.bool (decide ((k.16:Int)>200)),Zi x.1]) (fun _=>[some ⟨50,1,true,.lst [Bnk.cells k]⟩]) (fun x=>Bnk.ni k - x.1) (⟨0,⟨Nat.zero_le (Bnk.ni k),fun (j:Nat) (hj:j<0)=>absurd hj (Nat.not_lt_zero j)⟩⟩)
   intro x2
   try (have q2:=x2.2;dsimp only at q2)
   apply n_bd ((x2.1:Int)<(k.16:Int))
   ·intro g3
    apply n_req (0≤(x2.1:Int)∧(x2.1:Int)<(k.16:Int))
    apply n_sc (c1 (toNat (↑x2.1:Int)))
    apply n_scg (decide ((rcI k fun j=>k.17 (toNat (x2.1:Int)) (3+j))<0)==false) (fun h6=>c3 (k.17 (toNat (↑x2.1:Int)) (2)))
    apply n_scg ((decide ((rcI k fun j=>k.17 (toNat (x2.1:Int)) (3+j))<0)||decide (cuI k (k.17 (toNat (x2.1:Int)) 2)<0))==false) (fun h7=>c4 (k.17 (toNat (↑x2.1:Int)) (2)) (k.17 (toNat (↑x2.1:Int)) (1)))
    apply n_scg ((decide ((rcI k fun j=>k.17 (toNat (x2.1:Int)) (3+j))<0)||decide (cuI k (k.17 (toNat (x2.1:Int)) 2)<0)||isI k (k.17 (toNat (x2.1:Int)) 2) (k.17 (toNat (x2.1:Int)) 1) != (x2.1:Int))==false) (fun h8=>c2 (toNat (↑x2.1:Int)))
    apply n_req (((decide ((rcI k fun j=>k.17 (toNat (x2.1:Int)) (3+j))<0)||decide (cuI k (k.17 (toNat (x2.1:Int)) 2)<0)||isI k (k.17 (toNat (x2.1:Int)) 2) (k.17 (toNat (x2.1:Int)) 1) != (x2.1:Int) || !visB k.2 (k.17 (toNat (x2.1:Int))))==false)=true→((0:Int)≤rcI k fun j=>k.17 (toNat (x2.1:Int)) (3+j))∧(rcI k fun j=>k.17 (toNat (x2.1:Int)) (3+j))<(k.6:Int)) (fun hr=>by have hr:=(cnd_eqf_t (cnd_or_f (cnd_or_f (cnd_or_f cnd_dec_f cnd_dec_f) cnd_bne_f) (cnd_not_f cnd_id_t))) hr;have:=(K x2.1 hr).rc;simp_all)
    apply n_scg ((decide ((rcI k fun j=>k.17 (toNat (x2.1:Int)) (3+j))<0)||decide (cuI k (k.17 (toNat (x2.1:Int)) 2)<0)||isI k (k.17 (toNat (x2.1:Int)) 2) (k.17 (toNat (x2.1:Int)) 1) != (x2.1:Int) || !visB k.2 (k.17 (toNat (x2.1:Int))))==false) (fun h10=>c5 (k.17 (toNat (↑x2.1:Int)) (15)) (k.7 (toNat (rcI k fun (j:Nat)=>k.17 (toNat (↑x2.1:Int)) (3+j)))) ((by have hr:=(cnd_eqf_t (cnd_or_f (cnd_or_f (cnd_or_f cnd_dec_f cnd_dec_f) cnd_bne_f) (cnd_not_f cnd_id_t))) h10;have P:=K x2.1 hr;exact ⟨el_bnd h.G P.el,nz_rng P.nz⟩)))
    apply n_br (decide ((rcI k fun j=>k.17 (toNat (x2.1:Int)) (3+j))<0)||decide (cuI k (k.17 (toNat (x2.1:Int)) 2)<0)||isI k (k.17 (toNat (x2.1:Int)) 2) (k.17 (toNat (x2.1:Int)) 1) != (x2.1:Int) || !visB k.2 (k.17 (toNat (x2.1:Int)))||k.17 (toNat (x2.1:Int)) 15^toNat (k.7 (toNat (rcI k fun j=>k.17 (toNat (x2.1:Int)) (3+j))))%(Bas.gr (Bnk.bas k)).1 != k.17 (toNat (x2.1:Int)) 16)
    ·intro g11
     try simp only [Int.toNat_natCast] at g11
     exact n_out (Ent.of_eq (congrArg AV.bool (iss_bad (i:=x2.1) (by omega) (ff_of fun e=>by simp_all [okI_iff,powB] <;> omega)).symm))
    ·intro g11
     try simp only [Int.toNat_natCast] at g11
     exact n_again [0] (⟨x2.1+1,by omega,all_next x2.2.2 (okI_iff.2 (by grind [powB]))⟩) (ek2 (en (inc_ent (by omega))))
   ·intro g3
    exact n_out (Ent.of_eq (congrArg AV.bool (iss_ok g0 fun i hi=>x2.2.2 i (by omega)).symm)))
theorem sto1_c (x0 x1 x2 l0 l1 l2:Int):Pure Tryz.prog gl0 188 [.agg [.int .i64 x0,.int .i64 x1,.int .i64 x2],.ipt 3 (atL [.int .i64 l0,.int .i64 l1,.int .i64 l2])] (.bool (x0==l0)):=by
 exact pz Tryz.func188 (by
  exact n_or)
theorem idxL2_c (f:Nat→Nat→Int) (n:Nat) (l0 l1 l2:Int) (hn:n<9223372036854775808):Pure Tryz.prog gl0 242 [lvs n f,.fn (.func 188) [] [.ipt 3 (atL [.int .i64 l0,.int .i64 l1,.int .i64 l2])]] (.int .i64 (firstI (fun i=>f i 0==l0) n 0)):=by
 exact pz Tryz.func242 (by
  apply n_loop ({ x:Nat // x≤n∧(fun i=>firstI (fun i=>f i 0==l0) n 0=firstI (fun i=>f i 0==l0) (n - i) i) x }) [0,1,7,8] [] (fun x=>[.isl 3 n fun i j=>Zi (f i j),AV.fn (Fn.func (188:FuncId)) [] [AV.ipt 3 (atL [Zi l0,Zi l1,Zi l2])],Zi n,Zi x.1]) (fun _=>[]) (fun x=>n - x.1) (⟨0,⟨Nat.zero_le n,rfl⟩⟩)
  intro x0
  try (have q0:=x0.2;dsimp only at q0)
  apply n_bd ((x0.1:Int)<(n:Int))
  ·intro g1
   apply n_req (0≤(x0.1:Int)∧(x0.1:Int)<(n:Int))
   apply n_sc (sto1_c (f (toNat (↑x0.1:Int)) (0)) (f (toNat (↑x0.1:Int)) (1)) (f (toNat (↑x0.1:Int)) (2)) (l0) (l1) (l2))
   apply n_br (f (toNat (x0.1:Int)) 0==l0)
   ·intro g4
    try simp only [Int.toNat_natCast] at g4
    exact n_out (Ent.of_eq (congrArg _ (first_hit x0.2.2 (by omega) (beq_iff_eq.2 g4))))
   ·intro g4
    try simp only [Int.toNat_natCast] at g4
    exact n_again [] (⟨x0.1+1,by omega,first_next x0.2.2 (by omega) (beq_eq_false_iff_ne.2 g4)⟩) (ek3 (en (inc_ent (by omega))))
  ·intro g1
   exact n_out (Ent.of_eq (congrArg _ (first_miss x0.2.2 (by omega)))))
theorem conL_c (f:Nat→Nat→Int) (n:Nat) (l0 l1 l2:Int) (hn:n<9223372036854775808):Pure Tryz.prog gl0 187 [lvs n f,.fn (.func 188) [] [.ipt 3 (atL [.int .i64 l0,.int .i64 l1,.int .i64 l2])]] (.bool (anyI (fun i=>f i 0==l0) n)):=by
 exact pz Tryz.func187 (by
  apply n_sc ((idxL2_c f n l0 l1 l2 hn))
  exact n_or)
theorem stor_c (s:Spend) (hn:s.nl<9223372036854775808) (_:s.np<9223372036854775808):Pure Tryz.prog gl0 118 [s.av] (.bool (stoB s)):=by
 exact pz Tryz.func118 (by
  apply n_br (decide ((s.16:Int)<1)||decide ((s.16:Int)>32)||decide ((s.19:Int)>20))
  ·intro g0
   exact n_out (Ent.of_eq (congrArg AV.bool (sto_len g0).symm))
  ·intro g0
   apply n_loop ({ x:Nat // x≤Spend.nl s∧(fun (i:Nat)=>∀ (j:Nat),j<i→dstB s j=true) x }) [1,23,24,25] [0] (fun x=>[.own 0 80 0 0 80,.isl 3 s.16 fun i j=>Zi (s.17 i j),Zi s.16,Zi x.1]) (fun _=>[some ⟨80,1,true,.lst [Spend.cells s]⟩]) (fun x=>Spend.nl s - x.1) (⟨0,⟨Nat.zero_le (Spend.nl s),fun (j:Nat) (hj:j<0)=>absurd hj (Nat.not_lt_zero j)⟩⟩)
   intro x2
   try (have q2:=x2.2;dsimp only at q2)
   apply n_bd ((x2.1:Int)<(s.16:Int))
   ·intro g3
    apply n_req (0≤(x2.1:Int)∧(x2.1:Int)<(s.16:Int))
    apply n_req (0≤(x2.1:Int)∧(x2.1:Int)≤(s.16:Int))
    apply n_sc (conL_c (fun (i:Nat)=>s.17 (i+0)) (toNat (↑x2.1:Int)) (s.17 (toNat (↑x2.1:Int)) (0)) (s.17 (toNat (↑x2.1:Int)) (1)) (s.17 (toNat (↑x2.1:Int)) (2)) (by omega))
    apply n_br (anyI (fun i=>s.17 (i+0) 0==s.17 (toNat (x2.1:Int)) 0) (toNat (x2.1:Int)))
    ·intro g7
     try simp only [Int.toNat_natCast] at g7
     exact n_out (Ent.of_eq (congrArg AV.bool (sto_two (i:=x2.1) (by omega) (dst_f g7)).symm))
    ·intro g7
     try simp only [Int.toNat_natCast] at g7
     exact n_again [0] (⟨x2.1+1,by omega,all_next x2.2.2 (dst_t g7)⟩) (ek3 (en (inc_ent (by omega))))
   ·intro g3
    exact n_out (Ent.of_eq (congrArg AV.bool (sto_ok g0.1.1 g0.1.2 g0.2 fun i hi=>x2.2.2 i (by omega)).symm)))
def owZ (n:Nat):FuncId→Option (List Bool):=fun f=>bif Nat.beq f 999999999 then some (List.replicate n true) else none
theorem nanI_c (n:Int):Pure Tryz.prog gl0 172 [.int .i64 n] (.bool false):=by
 exact pz Tryz.func172 (by
  exact n_outx (.bool (n != n)) (Ent.of_eq (by simp_all)))
theorem cmpV_c (a b:Int):Pure Tryz.prog gl0 107 [.int .i64 a,.int .i64 b] (.int .i64 (cmpV a b)):=by
 exact pz Tryz.func107 (by
  apply n_sc (nanI_c (a))
  apply n_sc (nanI_c (b))
  apply n_ff
  apply n_ff
  apply n_bd (a<b)
  ·intro g4
   exact n_outx (Zi (-1)) (Ent.of_eq (congrArg (AV.int _) (by unfold cmpV;split<;>(try split)<;>omega)))
  ·intro g4
   apply n_bd (a>b)
   ·intro g6
    exact n_outx (Zi 1) (Ent.of_eq (congrArg (AV.int _) (by unfold cmpV;split<;>(try split)<;>omega)))
   ·intro g6
    exact n_outx (Zi 0) (Ent.of_eq (congrArg (AV.int _) (by unfold cmpV;split<;>(try split)<;>omega))))
theorem or2_c (a b:Int):Pure Tryz.prog gl0 106 [.isl 1 2 fun i j=>atL (List.getD [[AV.int .i64 a],[AV.int .i64 b]] i []) j] (.int .i64 (if a≠0 then a else b)):=by
 exact pzo (owZ 3) Tryz.func106 (by
  apply n_tt
  apply n_req ((0:Int)≤0∧(0:Int)<2)
  apply n_br (a != 0)
  ·intro _
   exact n_outx (Zi a) (Ent.of_eq (congrArg (AV.int _) (by simp_all)))
  ·intro _
   apply n_tt
   apply n_req ((0:Int)≤wrap .i64 ((0:Int)+1)∧wrap .i64 ((0:Int)+1)<2)
   apply n_br (b != 0)
   ·intro _
    exact n_outx (Zi b) (Ent.of_eq (congrArg (AV.int _) (by simp_all)))
   ·intro _
    apply n_ff
    exact n_outx (Zi 0) (Ent.of_eq (congrArg (AV.int _) (by simp_all))))
theorem cmpU_c (x y:Use):Pure Tryz.prog gl0 119 [.agg x.cells,.agg y.cells] (.int .i64 (cmpW x y)):=by
 exact pz Tryz.func119 (by
  apply n_sc (cmpV_c (x.1) (y.1))
  apply n_sc (cmpV_c (x.2) (y.2))
  apply n_sc (or2_c (cmpV x.1 y.1) (cmpV x.2 y.2))
  exact n_outx (Zi (if cmpV x.1 y.1≠(0:Int) then cmpV x.1 y.1 else cmpV x.2 y.2)) (Ent.of_eq (congrArg (AV.int _) (by unfold cmpW;rfl))))
theorem sval_c (n:Nat) (U:Nat→Use) (hn:n<9223372036854775808) (hU:UseOk n U):Pure Tryz.prog gl0 58 [.agg [useA n U]] (.bool (sptB n U)):=by
 have c1:=fun i (hi:i<n)=>stor_c (U i).sp (hU.nl i hi) (hU.np i hi)
 have c2:=fun i j=>cmpU_c (U i) (U j)
 exact pz Tryz.func58 (by
  apply n_bd ((n:Int)>2000)
  ·intro g0
   exact n_out (Ent.of_eq (congrArg AV.bool (spt_len g0).symm))
  ·intro g0
   apply n_loop ({ x:Nat // x≤n∧(fun (i:Nat)=>∀ (j:Nat),j<i→useB (U j)=true∧(j≠0→ltU (U (j - 1)) (U j)=true)) x }) [1,9,10,11,12] [0] (fun x=>[.own 0 1 0 0 1,.own 0 1 0 0 1,.isl 83 n fun i j=>atL (Use.cells (U i)) j,Zi n,Zi x.1]) (fun _=>[some ⟨1,1,true,.lst [[.isl 83 n fun i j=>atL (Use.cells (U i)) j]]⟩]) (fun x=>n - x.1) (⟨0,⟨Nat.zero_le n,fun (j:Nat) (hj:j<0)=>absurd hj (Nat.not_lt_zero j)⟩⟩)
   intro x2
   try (have q2:=x2.2;dsimp only at q2)
   have e1:0<x2.1→IntKind.wrap .i64 ((x2.1:Int) - 1)=((x2.1 - 1:Nat):Int):=fun h=>by rw [wI (by omega) (by omega)];omega
   apply n_bd ((x2.1:Int)<(n:Int))
   ·intro g3
    apply n_req (0≤(x2.1:Int)∧(x2.1:Int)<(n:Int))
    apply n_sc (c1 (toNat (↑(x2.1):Int)) (by omega))
    apply n_req (((!stoB (U (toNat (↑(x2.1):Int))).3||decide ((U (toNat (↑(x2.1):Int))).4<0)||decide ((U (toNat (↑(x2.1):Int))).4≥(↑(Use.sp (U (toNat (↑(x2.1):Int)))).16:Int))||(U (toNat (↑(x2.1):Int))).1 != (Use.sp (U (toNat (↑(x2.1):Int)))).5)==false)=true→0≤(U (toNat (↑(x2.1):Int))).4∧(U (toNat (↑(x2.1):Int))).4<(↑(Use.sp (U (toNat (↑(x2.1):Int)))).16:Int)) (fun hr=>by have hr:=(cnd_eqf_t (cnd_or_f (cnd_or_f (cnd_or_f (cnd_not_f cnd_id_t) cnd_dec_f) cnd_dec_f) cnd_bne_f)) hr;omega)
    apply n_br (!stoB (U (toNat (↑(x2.1):Int))).3||decide ((U (toNat (↑(x2.1):Int))).4<0)||decide ((U (toNat (↑(x2.1):Int))).4≥(↑(Use.sp (U (toNat (↑(x2.1):Int)))).16:Int))||(U (toNat (↑(x2.1):Int))).1 != (Use.sp (U (toNat (↑(x2.1):Int)))).5||(U (toNat (↑(x2.1):Int))).2 != (Use.sp (U (toNat (↑(x2.1):Int)))).17 (toNat (U (toNat (↑(x2.1):Int))).4) 0)
    ·intro g7
     try simp only [Int.toNat_natCast] at g7
     exact n_out (Ent.of_eq (congrArg AV.bool (spt_bad (i:=x2.1) (by omega) (.inl (use_f g7))).symm))
    ·intro g7
     try simp only [Int.toNat_natCast] at g7
     apply n_req ((decide ((x2.1:Int)>0)==true)=true→(0:Int)≤wrap .i64 ((x2.1:Int) - 1)∧wrap .i64 ((x2.1:Int) - 1)<(n:Int)) (fun hr=>by have hr:=(cnd_eqt_t cnd_dec_t) hr;rw [e1 (by omega)];omega)
     apply n_scg (decide ((x2.1:Int)>0)==true) (fun h10=>c2 (toNat (wrap .i64 ((↑(x2.1):Int) - (1:Int)))) (toNat (↑(x2.1):Int)))
     apply n_br (decide ((x2.1:Int)>0)&&decide (cmpW (U (toNat (wrap .i64 ((x2.1:Int) - 1)))) (U (toNat (x2.1:Int)))≥0))
     ·intro g11
      try simp only [Int.toNat_natCast] at g11
      exact n_out (Ent.of_eq (congrArg AV.bool (spt_bad (i:=x2.1) (by omega) (.inr ⟨by omega,lt_f (by obtain ⟨ga,gb⟩:=g11;rw [e1 (by omega),Int.toNat_natCast] at gb;exact gb)⟩)).symm))
     ·intro g11
      try simp only [Int.toNat_natCast] at g11
      exact n_again [0] (⟨x2.1+1,by omega,fun j hj=>by rcases Nat.lt_succ_iff_lt_or_eq.1 hj with hj|rfl;(· exact x2.2.2 j hj);(· exact ⟨use_t g7,fun hne=>lt_t (by rcases g11 with g|g;(· omega);(· rw [e1 (by omega),Int.toNat_natCast] at g;exact g))⟩)⟩) (ek4 (en (inc_ent (by omega))))
   ·intro g3
    exact n_out (Ent.of_eq (congrArg AV.bool (spt_ok g0 fun i hi=>x2.2.2 i (by omega)).symm)))
theorem rless_c (a b c d:Int):Pure Tryz.prog gl0 76 [.int .i64 a,.int .i64 b,.int .i64 c,.int .i64 d] (.bool (decide (a<c)||(a==c&&decide (b<d)))):=by
 exact pz Tryz.func76 (by
  exact n_or)
theorem rstor_c (s:Spend) (hn:s.nl<9223372036854775808) (_:s.np<9223372036854775808):Pure Tryz.prog gl0 75 [s.av] (.bool (stoB s)):=by
 exact pz Tryz.func75 (by
  apply n_br (decide ((s.16:Int)<1)||decide ((s.16:Int)>32)||decide ((s.19:Int)>20))
  ·intro g0
   exact n_out (Ent.of_eq (congrArg AV.bool (sto_len g0).symm))
  ·intro g0
   apply n_loop ({ x:Nat // x≤Spend.nl s∧(fun (i:Nat)=>∀ (j:Nat),j<i→dstB s j=true) x }) [1,3] [0] (fun x=>[.own 0 80 0 0 80,Zi x.1]) (fun _=>[some ⟨80,1,true,.lst [Spend.cells s]⟩]) (fun x=>Spend.nl s - x.1) (⟨0,⟨Nat.zero_le (Spend.nl s),fun (j:Nat) (hj:j<0)=>absurd hj (Nat.not_lt_zero j)⟩⟩)
   intro x2
   try (have q2:=x2.2;dsimp only at q2)
   apply n_bd ((x2.1:Int)<(s.16:Int))
   ·intro g3
    apply n_loop ({ x:Nat // x≤x2.1∧(fun (k:Nat)=>∀ (j:Nat),j<k→Spend.lf s j 0≠Spend.lf s (x2.1) 0) x }) [1,3,4] [0] (fun x=>[.own 0 80 0 0 80,Zi x2.1,Zi x.1]) (fun _=>[some ⟨80,1,true,.lst [Spend.cells s]⟩]) (fun x=>x2.1 - x.1) (⟨0,⟨Nat.zero_le (x2.1),fun (j:Nat) (hj:j<0)=>absurd hj (Nat.not_lt_zero j)⟩⟩)
    intro x4
    try (have q4:=x4.2;dsimp only at q4)
    apply n_bd ((x4.1:Int)<(x2.1:Int))
    ·intro g5
     apply n_req (0≤(x2.1:Int)∧(x2.1:Int)<(s.16:Int))
     apply n_req (0≤(x4.1:Int)∧(x4.1:Int)<(s.16:Int))
     apply n_br (s.17 (toNat (x2.1:Int)) 0==s.17 (toNat (x4.1:Int)) 0)
     ·intro g8
      try simp only [Int.toNat_natCast] at g8
      exact n_out (Ent.of_eq (congrArg AV.bool (sto_two (i:=x2.1) (by omega) (dst_no (k:=x4.1) (by omega) g8.symm)).symm))
     ·intro g8
      try simp only [Int.toNat_natCast] at g8
      exact n_again [0] (⟨x4.1+1,by omega,fun j hj=>by rcases Nat.lt_succ_iff_lt_or_eq.1 hj with hj|rfl;(· exact x4.2.2 j hj);(· exact fun e=>g8 e.symm)⟩) (ek2 (en (inc_ent (by omega))))
    ·intro g5
     exact n_up <| n_again [0] (⟨x2.1+1,by omega,all_next x2.2.2 (dst_yes fun k hk=>x4.2.2 k (by omega))⟩) (ek (en (inc_ent (by omega))))
   ·intro g3
    exact n_out (Ent.of_eq (congrArg AV.bool (sto_ok g0.1.1 g0.1.2 g0.2 fun i hi=>x2.2.2 i (by omega)).symm)))
theorem rsval_c (n:Nat) (U:Nat→Use) (hn:n<9223372036854775808) (hU:UseOk n U):Pure Tryz.prog gl0 33 [.agg [useA n U]] (.bool (sptB n U)):=by
 have c1:=fun i (hi:i<n)=>rstor_c (U i).sp (hU.nl i hi) (hU.np i hi)
 exact pz Tryz.func33 (by
  apply n_bd ((n:Int)>2000)
  ·intro g0
   exact n_out (Ent.of_eq (congrArg AV.bool (spt_len g0).symm))
  ·intro g0
   apply n_loop ({ x:Nat // x≤n∧(fun (i:Nat)=>∀ (j:Nat),j<i→useB (U j)=true∧(j≠0→ltU (U (j - 1)) (U j)=true)) x }) [1,3] [0] (fun x=>[.own 0 1 0 0 1,Zi x.1]) (fun _=>[some ⟨1,1,true,.lst [[.isl 83 n fun i j=>atL (Use.cells (U i)) j]]⟩]) (fun x=>n - x.1) (⟨0,⟨Nat.zero_le n,fun (j:Nat) (hj:j<0)=>absurd hj (Nat.not_lt_zero j)⟩⟩)
   intro x2
   try (have q2:=x2.2;dsimp only at q2)
   have e1:0<x2.1→IntKind.wrap .i64 ((x2.1:Int) - 1)=((x2.1 - 1:Nat):Int):=fun h=>by rw [wI (by omega) (by omega)];omega
   apply n_bd ((x2.1:Int)<(n:Int))
   ·intro g3
    apply n_req (0≤(x2.1:Int)∧(x2.1:Int)<(n:Int))
    apply n_sc (c1 (toNat (↑(x2.1):Int)) (by omega))
    apply n_req (((!stoB (U (toNat (↑(x2.1):Int))).3||decide ((U (toNat (↑(x2.1):Int))).4<0)||decide ((U (toNat (↑(x2.1):Int))).4≥(↑(Use.sp (U (toNat (↑(x2.1):Int)))).16:Int))||(U (toNat (↑(x2.1):Int))).1 != (Use.sp (U (toNat (↑(x2.1):Int)))).5)==false)=true→0≤(U (toNat (↑(x2.1):Int))).4∧(U (toNat (↑(x2.1):Int))).4<(↑(Use.sp (U (toNat (↑(x2.1):Int)))).16:Int)) (fun hr=>by have hr:=(cnd_eqf_t (cnd_or_f (cnd_or_f (cnd_or_f (cnd_not_f cnd_id_t) cnd_dec_f) cnd_dec_f) cnd_bne_f)) hr;omega)
    apply n_br (!stoB (U (toNat (↑(x2.1):Int))).3||decide ((U (toNat (↑(x2.1):Int))).4<0)||decide ((U (toNat (↑(x2.1):Int))).4≥(↑(Use.sp (U (toNat (↑(x2.1):Int)))).16:Int))||(U (toNat (↑(x2.1):Int))).1 != (Use.sp (U (toNat (↑(x2.1):Int)))).5||(U (toNat (↑(x2.1):Int))).2 != (Use.sp (U (toNat (↑(x2.1):Int)))).17 (toNat (U (toNat (↑(x2.1):Int))).4) 0)
    ·intro g7
     try simp only [Int.toNat_natCast] at g7
     exact n_out (Ent.of_eq (congrArg AV.bool (spt_bad (i:=x2.1) (by omega) (.inl (use_f g7))).symm))
    ·intro g7
     try simp only [Int.toNat_natCast] at g7
     apply n_req ((decide ((x2.1:Int)>0)==true)=true→(0:Int)≤wrap .i64 ((x2.1:Int) - 1)∧wrap .i64 ((x2.1:Int) - 1)<(n:Int)) (fun hr=>by have hr:=(cnd_eqt_t cnd_dec_t) hr;omega)
     apply n_req ((decide ((x2.1:Int)>0)==true)=true→(0:Int)≤wrap .i64 ((x2.1:Int) - 1)∧wrap .i64 ((x2.1:Int) - 1)<(n:Int)) (fun hr=>by have hr:=(cnd_eqt_t cnd_dec_t) hr;omega)
     apply n_scg (decide ((x2.1:Int)>0)==true) (fun h11=>rless_c ((U (toNat (wrap .i64 ((↑(x2.1):Int) - (1:Int))))).1) ((U (toNat (wrap .i64 ((↑(x2.1):Int) - (1:Int))))).2) ((U (toNat (↑(x2.1):Int))).1) ((U (toNat (↑(x2.1):Int))).2))
     apply n_br (decide ((x2.1:Int)>0) && !(decide ((U (toNat (wrap .i64 ((↑(x2.1):Int) - 1)))).1<(U (toNat (↑(x2.1):Int))).1)||(U (toNat (wrap .i64 ((↑(x2.1):Int) - 1)))).1==(U (toNat (↑(x2.1):Int))).1&&decide ((U (toNat (wrap .i64 ((↑(x2.1):Int) - 1)))).2<(U (toNat (↑(x2.1):Int))).2)))
     ·intro g12
      try simp only [Int.toNat_natCast] at g12
      exact n_out (Ent.of_eq (congrArg AV.bool (spt_bad (i:=x2.1) (by omega) (.inr ⟨by omega,ff_of' fun hl=>by obtain ⟨ga,gb⟩:=g12;rw [e1 (by omega),Int.toNat_natCast] at gb;have:=ltU_iff.1 hl;omega⟩)).symm))
     ·intro g12
      try simp only [Int.toNat_natCast] at g12
      exact n_again [0] (⟨x2.1+1,by omega,fun j hj=>by rcases Nat.lt_succ_iff_lt_or_eq.1 hj with hj|rfl;(· exact x2.2.2 j hj);(· exact ⟨use_t g7,fun hne=>ltU_iff.2 (by rcases g12 with g|g;(· omega);(· rw [e1 (by omega),Int.toNat_natCast] at g;exact g))⟩)⟩) (ek (en (inc_ent (by omega))))
   ·intro g3
    exact n_out (Ent.of_eq (congrArg AV.bool (spt_ok g0 fun i hi=>x2.2.2 i (by omega)).symm)))
theorem eqN2_c (n:Nat) (f g:Nat→Int) (hn:n<9223372036854775808):Pure Tryz.prog gl0 117 [numA n f,numA n g] (.bool ((List.range n).all fun i=>f i==g i)):=by
 exact pz Tryz.func117 (by
  apply n_br ((n:Int) != (n:Int))
  ·intro g0
   exact n_outx (.bool false) (Ent.of_eq (by simp_all))
  ·intro g0
   apply n_loop ({ x:Nat // x≤n∧(fun (x:Nat)=>∀ (j:Nat),j<x→(f j==g j)=true) x }) [0,1,12,13] [] (fun x=>[.isl 1 n fun i x=>Zi (f i),.isl 1 n fun i x=>Zi (g i),Zi n,Zi x.1]) (fun _=>[]) (fun x=>n - x.1) (⟨0,⟨Nat.zero_le n,fun (j:Nat) (hj:j<0)=>absurd hj (Nat.not_lt_zero j)⟩⟩)
   intro x2
   try (have q2:=x2.2;dsimp only at q2)
   apply n_bd ((x2.1:Int)<(n:Int))
   ·intro g3
    apply n_req (0≤(x2.1:Int)∧(x2.1:Int)<(n:Int))
    apply n_req (0≤(x2.1:Int)∧(x2.1:Int)<(n:Int))
    apply n_br (f (toNat (x2.1:Int)) != g (toNat (x2.1:Int)))
    ·intro g6
     try simp only [Int.toNat_natCast] at g6
     exact n_out (Ent.of_eq (congrArg AV.bool (allR_f (p:=fun i=>f i==g i) (i:=x2.1) (by omega) (beq_eq_false_iff_ne.2 g6)).symm))
    ·intro g6
     try simp only [Int.toNat_natCast] at g6
     exact n_again [] (⟨x2.1+1,by omega,all_next x2.2.2 (beq_iff_eq.2 g6)⟩) (ek3 (en (inc_ent (by omega))))
   ·intro g3
    exact n_out (Ent.of_eq (congrArg AV.bool (allR_t fun i hi=>x2.2.2 i (by omega)).symm)))
theorem lval_c (nb:Nat) (B:Nat→Int) (ne:Nat) (E:Nat→Nat→Int) (hn:nb<9223372036854775808) (he:ne<9223372036854775808):Pure Tryz.prog gl0 57 [.agg [numA nb B,etyA ne E]] (.bool (ledB nb B ne E)):=by
 have c1:=fun k=>entry_c nb (E k)
 have c2:=fun F k h hn=>post_c nb F (E k) h hn
 have c3:=fun F=>eqN2_c nb F B hn
 exact pzo owL Tryz.func57 (by
  apply n_br (decide ((nb:Int)<5)||decide ((nb:Int)>105)||decide ((ne:Int)>1000))
  ·intro g0
   exact n_out (Ent.of_eq (congrArg AV.bool (led_len g0).symm))
  ·intro g0
   apply n_req (0≤(nb:Int)∧(nb:Int)=(nb:Int)∧8*(nb:Int)≤140737488355328∧(nb:Int)≤9223372036854775807)
   apply n_loopx ({ x:Nat // x≤ne∧(fun (x:Nat)=>∀ (j:Nat),j<x→okE nb E j=true) x }) [1,3,4,25,26,27] [0,152] (fun x=>[.own 0 2 0 0 2,Zi nb,.osl 1 1 0 (toNat (nb:Int)),.isl 4 ne fun i j=>Zi (E i j),Zi ne,Zi x.1]) (fun x=>[some ⟨2,1,true,.lst [[.isl 1 nb fun i x=>Zi (B i),.isl 4 ne fun i j=>Zi (E i j)]]⟩,some ⟨1,nb,true,.fn fun i x_1=>Zi (balF E (x.1) i)⟩]) (fun x=>ne - x.1) (⟨0,⟨Nat.zero_le ne,fun (j:Nat) (hj:j<0)=>absurd hj (Nat.not_lt_zero j)⟩⟩) [.own 0 2 0 0 2,Zi nb,.osl 1 1 0 (toNat (nb:Int)),.isl 4 ne fun i j=>Zi (E i j),Zi ne,Zi 0] [some ⟨2,1,true,.lst [[.isl 1 nb fun i x=>Zi (B i),.isl 4 ne fun i j=>Zi (E i j)]]⟩,some ⟨1,toNat (nb:Int),true,.fn fun i j=>Zi (intOfAV (atL (zcells (Value.int IntKind.i64 (0:Int))) j))⟩] (⟨.refl _,.refl _,.refl _,.refl _,.refl _,.refl _,trivial⟩) (⟨.refl _,⟨rfl,Int.toNat_natCast nb,rfl,fun i j _ hj=>by obtain rfl:j=0:=Nat.lt_one_iff.1 hj;exact Ent.refl _⟩,trivial⟩)
   intro x3
   try (have q3:=x3.2;dsimp only at q3)
   apply n_bd ((x3.1:Int)<(ne:Int))
   ·intro g4
    apply n_req (0≤(x3.1:Int)∧(x3.1:Int)<(ne:Int))
    apply n_sc (c1 (toNat (↑x3.1:Int)))
    apply n_br ((!entB nb (E (toNat (x3.1:Int))))==false)
    ·intro g7
     try simp only [Int.toNat_natCast] at g7
     apply n_gc (c2 (balF E x3.1) (toNat (↑x3.1:Int)) (by assumption) (by omega))
     apply n_br (!entB nb (E (toNat (x3.1:Int))) || !pstB (balF E x3.1) (E (toNat (x3.1:Int))))
     ·intro g9
      try simp only [Int.toNat_natCast] at g9
      exact n_out (Ent.of_eq (congrArg AV.bool (led_bad (k:=x3.1) (by omega) (led_pf g7 g9)).symm))
     ·intro g9
      try simp only [Int.toNat_natCast] at g9
      exact n_againx [0,1] (⟨x3.1+1,by omega,all_next x3.2.2 (led_pt g7 g9.2)⟩) [.own 0 2 0 0 2,Zi nb,.osl 1 1 0 (toNat (nb:Int)),.isl 4 ne fun i j=>Zi (E i j),Zi ne,Zi (wrap .i64 ((x3.1:Int)+1))] [some ⟨2,1,true,.lst [[.isl 1 nb fun i x=>Zi (B i),.isl 4 ne fun i j=>Zi (E i j)]]⟩,some ⟨1,nb,true,.fn fun i j=>Zi (pstG (balF E x3.1) (E (toNat (x3.1:Int))) i)⟩] (⟨.refl _,.refl _,.refl _,.refl _,.refl _,inc_ent (by omega),trivial⟩) (⟨.refl _,⟨rfl,rfl,rfl,fun i j _ _=>Ent.of_eq (congrArg (AV.int _) (led_st (x:=x3.1) (by simpa using g9.2)))⟩,trivial⟩)
    ·intro g7
     try simp only [Int.toNat_natCast] at g7
     apply n_br (!entB nb (E (toNat (x3.1:Int)))||true)
     ·intro g12
      try simp only [Int.toNat_natCast] at g12
      exact n_out (Ent.of_eq (congrArg AV.bool (led_bad (k:=x3.1) (by omega) (led_ef g7)).symm))
     ·intro g12
      try simp only [Int.toNat_natCast] at g12
      exact n_againx [0,1] (⟨x3.1+1,by omega,absurd g12.2 (by decide)⟩) [.own 0 2 0 0 2,Zi nb,.osl 1 1 0 (toNat (nb:Int)),.isl 4 ne fun i j=>Zi (E i j),Zi ne,Zi (wrap .i64 ((x3.1:Int)+1))] [some ⟨2,1,true,.lst [[.isl 1 nb fun i x=>Zi (B i),.isl 4 ne fun i j=>Zi (E i j)]]⟩,some ⟨1,nb,true,.fn fun i j=>Zi (balF E (x3.1) i)⟩] (⟨.refl _,.refl _,.refl _,.refl _,.refl _,inc_ent (by omega),trivial⟩) (⟨.refl _,absurd g12.2 (by decide),trivial⟩)
   ·intro g4
    apply n_sc (c3 (fun (i:Nat)=>balF E x3.1 (i+0)))
    exact n_out (Ent.of_eq (congrArg AV.bool (led_fin g0.1.1 g0.1.2 g0.2 (by omega) x3.2.2))))
end Go.Proofs.YtcageinnelhonaaGreatDoor

namespace Go.Sp
open Go.IntKind (wrap)
open Int (toNat)
open Go Go.Am
def pstX (F x:Nat→Int) (i:Nat) (c d:Bool):Int :=
 bif Nat.beq i ((x 1).toNat+0)&&c then IntKind.wrap .i64 ((bif Nat.beq ((x 1).toNat+0) ((x 0).toNat+0)&&d then IntKind.wrap .i64 (F ((x 0).toNat+0) - x 2) else F ((x 1).toNat+0))+x 2) else
  bif Nat.beq i ((x 0).toNat+0)&&c then IntKind.wrap .i64 (F ((x 0).toNat+0) - x 2) else F i
theorem pstX_eq {n:Nat} {F x:Nat→Int} (h:entB n x=true) (i:Nat):pstX F x i true true=pstF F x i:=by
 have hb:=entB_iff.1 h
 have e:Nat.beq ((x 1).toNat+0) ((x 0).toNat+0)=false:=by grind [Nat.beq,beq_iff']
 rw [pstX,e,pstF]
 show (bif Nat.beq i (x 1).toNat&&true then IntKind.wrap .i64 (F (x 1).toNat+x 2) else bif Nat.beq i (x 0).toNat&&true then IntKind.wrap .i64 (F (x 0).toNat - x 2) else F i)=_
 simp only [Bool.and_true]
 by_cases c1:i=(x 1).toNat
 ·simp_all
 simp_all
theorem balX {nb:Nat} {E:Nat→Nat→Int} {k:Nat} (hk:k<1000) (h:∀ j,j≤k→entB nb (E j)=true):pstX (balF E k) (E k) ((E k 0).toNat+0) true true=balF E k (E k 0).toNat - E k 2:=by
 have hb:=entB_iff.1 (h k (Nat.le_refl _))
 rw [pstX_eq (h k (Nat.le_refl _)),pstF,if_neg (by omega),if_pos (by omega)]
 exact (bal_W hk h _).1
theorem balP_f {nb:Nat} {E:Nat→Nat→Int} {k:Nat} (hk:k<1000) (h:∀ j,j≤k→entB nb (E j)=true) (g:E k 0≥5∧pstX (balF E k) (E k) ((E k 0).toNat+0) true true<0):pstB (balF E k) (E k)=false :=
 pstB_f ⟨g.1,by have:=g.2;rw [balX hk h] at this;grind⟩
theorem balP_t {nb:Nat} {E:Nat→Nat→Int} {k:Nat} (hk:k<1000) (h:∀ j,j≤k→entB nb (E j)=true) (g:¬E k 0≥5∨¬pstX (balF E k) (E k) ((E k 0).toNat+0) true true<0):pstB (balF E k) (E k)=true :=
 pstB_t (g.imp id fun g=>by rw [balX hk h] at g;grind)
theorem balX_st {nb x i j:Nat} {E:Nat→Nat→Int} (h:entB nb (E x)=true) (hj:j<1):pstX (balF E x) (E (toNat (x:Int))) i (Nat.ble 0 j&&Nat.blt j 1) true=balF E (x+1) i:=by
 obtain rfl:j=0:=Nat.lt_one_iff.1 hj
 rw [Int.toNat_natCast]
 exact pstX_eq h i
theorem led_r {nb:Nat} {B:Nat→Int} {ne:Nat} {E:Nat→Nat→Int} (h:∀ k,k<ne→entB nb (E k)=true) (g:((List.range ne).all fun k=>pstB (balF E k) (E k))=false):ledB nb B ne E=false:=ff_of' fun e=>by
 have:=(led_V e).ok
 have:((List.range ne).all fun k=>pstB (balF E k) (E k))=true:=allR_t fun i hi=>by simp_all [okE]
 grind
theorem led_rt {nb:Nat} {B:Nat→Int} {ne:Nat} {E:Nat→Nat→Int} (h:∀ k,k<ne→entB nb (E k)=true) (g:((List.range ne).all fun k=>pstB (balF E k) (E k))=true):∀ k,k<ne→okE nb E k=true:=fun k hk =>
 led_pt (h k hk) (List.all_eq_true.1 g k (List.mem_range.2 hk))
end Go.Sp

namespace Go.Proofs.YtcageinnelhonaaGreatDoor
open Go.IntKind (wrap)
open Int (toNat)
open Go Go.Am Go.Sp
set_option maxRecDepth 100000
theorem raccs_c (n:Int):Pure Tryz.prog gl0 72 [.int .i64 n] (.bool (decide (n≥5)&&decide (n≤105))):=by
 exact pz Tryz.func72 (by
  exact n_or)
theorem rbal_c (nb ne:Nat) (E:Nat→Nat→Int) (hn:nb≤1000) (he:ne≤1000) (h:∀ k,k<ne→entB nb (E k)=true):Pure Tryz.prog gl0 74 [.int .i64 nb,etyA ne E]
  (.tup [.isl 1 (bif (List.range ne).all fun k=>pstB (balF E k) (E k) then nb else 0) fun i _=>.int .i64 (balF E ne i),.bool ((List.range ne).all fun k=>pstB (balF E k) (E k))]):=by
 refine pure_sk (own:=ow0) Tryz.func74 (by kernel_rfl) mixed (by kernel_rfl)
  (let z1:={ x:Nat // x≤ne∧(fun (x:Nat)=>∀ (j:Nat),j<x→pstB (balF E j) (E j)=true) x };let y0:AV:=(.tup [.isl 1 (bif List.all (List.range ne) fun k=>pstB (balF E k) (E k) then nb else 0) fun i x=>Zi (balF E ne i),.bool (List.all (List.range ne) fun k=>pstB (balF E k) (E k))]);let y1:Nat:=(toNat (nb:Int));(.req (0≤(nb:Int)∧(nb:Int)=(nb:Int)∧8*(nb:Int)≤140737488355328∧(nb:Int)≤9223372036854775807) (.loop (z1) (fun (x:z1)=>mkSt [1,6,7] [.isl 4 ne fun i j=>Zi (E i j),.osl 0 1 0 y1,Zi x.1] [some ⟨1,nb,true,.fn fun i x_1=>Zi (balF E (x.1) i)⟩]) (fun (x:z1)=>ne - x.1) (⟨0,⟨Nat.zero_le ne,fun (j:Nat) (hj:j<0)=>absurd hj (Nat.not_lt_zero j)⟩⟩) [1,6,7] [24] [.isl 4 ne fun i j=>Zi (E i j),.osl 0 1 0 y1,Zi 0] [some ⟨1,toNat (nb:Int),true,.fn fun i j=>Zi (intOfAV (atL (zcells (Value.int IntKind.i64 (0:Int))) j))⟩] (fun x1=>let z0:Nat:=(toNat (x1.1:Int));(.br (decide ((x1.1:Int)<(ne:Int))) (.req (0≤(x1.1:Int)∧(x1.1:Int)<(ne:Int)) (.req ((0:Int)≤E z0 0∧E z0 0<(y1:Int)) (.req ((0:Int)≤E z0 0∧E z0 0<(y1:Int)) (.req ((0:Int)≤E z0 1∧E z0 1<(y1:Int)) (.req ((0:Int)≤E z0 1∧E z0 1<(y1:Int)) (.req ((decide (E z0 0≥5)==true)=true→(0:Int)≤E z0 0∧E z0 0<(y1:Int)) (.br (decide (E z0 0≥5)&&decide ((bif Nat.beq (toNat (E z0 0)+0) (toNat (E z0 1)+0)&&true then wrap .i64 ((bif Nat.beq (toNat (E z0 1)+0) (toNat (E z0 0)+0)&&true then wrap .i64 (balF E x1.1 (toNat (E z0 0)+0) - E z0 2) else balF E x1.1 (toNat (E z0 1)+0))+E z0 2) else bif Nat.beq (toNat (E z0 0)+0) (toNat (E z0 0)+0)&&true then wrap .i64 (balF E x1.1 (toNat (E z0 0)+0) - E z0 2) else balF E x1.1 (toNat (E z0 0)+0))<0)) (.out (.tup [.nsl,.bool false]) [] y0 []) (.again (Again 0 (fun (x:z1)=>mkSt [1,6,7] [.isl 4 ne fun i j=>Zi (E i j),.osl 0 1 0 y1,Zi x.1] [some ⟨1,nb,true,.fn fun i x_1=>Zi (balF E (x.1) i)⟩]) (fun (x:z1)=>ne - x.1) x1) [1,6,7] [0] [.isl 4 ne fun i j=>Zi (E i j),.osl 0 1 0 y1,Zi (wrap .i64 ((x1.1:Int)+1))] [some ⟨1,nb,true,.fn fun i j=>Zi (bif Nat.beq i (toNat (E z0 1)+0)&&(Nat.ble 0 j&&Nat.blt j 1) then wrap .i64 ((bif Nat.beq (toNat (E z0 1)+0) (toNat (E z0 0)+0)&&true then wrap .i64 (balF E x1.1 (toNat (E z0 0)+0) - E z0 2) else balF E x1.1 (toNat (E z0 1)+0))+E z0 2) else bif Nat.beq i (toNat (E z0 0)+0)&&(Nat.ble 0 j&&Nat.blt j 1) then wrap .i64 (balF E x1.1 (toNat (E z0 0)+0) - E z0 2) else balF E x1.1 i)⟩])))))))) (.out (.tup [.isl 1 y1 fun r k=>Zi (balF E x1.1 (r+0)),.bool true]) [] y0 []))))))
  (by kernel_rfl) ?_
 refine k_req (by omega) ?_
 refine k_loop (fun _ hs=>hs.le (⟨.refl _,.refl _,.refl _,trivial⟩) (⟨⟨rfl,Int.toNat_natCast nb,rfl,fun i j _ hj=>by obtain rfl:j=0:=Nat.lt_one_iff.1 hj;exact Ent.refl _⟩,trivial⟩)) (fun x1=>?_)
 try (have q1:=x1.2;dsimp only at q1)
 have kE:x1.1<ne→_:=fun hx=>entB_iff.1 (h x1.1 hx)
 refine k_br (fun h2=>?_) (fun h2=>?_)
 ·have g2:=cnd_dec_t h2
  refine k_req (by omega) ?_
  refine k_req (by have kk:=kE (by omega);simp only [Int.toNat_natCast];omega) ?_
  refine k_req (by have kk:=kE (by omega);simp only [Int.toNat_natCast];omega) ?_
  refine k_req (by have kk:=kE (by omega);simp only [Int.toNat_natCast];omega) ?_
  refine k_req (by have kk:=kE (by omega);simp only [Int.toNat_natCast];omega) ?_
  refine k_req (fun hr=>by have kk:=kE (by omega);simp only [Int.toNat_natCast];omega) ?_
  refine k_br (fun h9=>?_) (fun h9=>?_)
  ·have g9:=(cnd_and_t cnd_dec_t cnd_dec_t) h9
   try simp only [Int.toNat_natCast] at g9
   exact k_out (by rw [allR_f (p:=fun k=>pstB (balF E k) (E k)) (i:=x1.1) (by omega) (balP_f (by omega) (fun j hj=>h j (by omega)) g9)];exact Ent.tup ⟨Ent.nsl,Ent.refl _,trivial⟩)
  ·have g9:=(cnd_and_f cnd_dec_f cnd_dec_f) h9
   try simp only [Int.toNat_natCast] at g9
   exact k_again (⟨x1.1+1,by omega,all_next x1.2.2 (balP_t (by omega) (fun j hj=>h j (by omega)) g9)⟩) (fun _ hs=>hs.le (⟨.refl _,.refl _,inc_ent (by omega),trivial⟩) (⟨⟨rfl,rfl,rfl,fun i j _ hj=>Ent.of_eq (congrArg (AV.int _) (balX_st (h x1.1 (by omega)) hj))⟩,trivial⟩)) (by dsimp only;omega)
 ·have g2:=cnd_dec_f h2
  exact k_out (by rw [show ((List.range ne).all fun k=>pstB (balF E k) (E k))=true from allR_t fun i hi=>x1.2.2 i (by omega),show x1.1=ne by omega];exact Ent.of_eq (by rw [Int.toNat_natCast];rfl))
theorem rlval_c (nb:Nat) (B:Nat→Int) (ne:Nat) (E:Nat→Nat→Int) (hn:nb<9223372036854775808) (he:ne<9223372036854775808):Pure Tryz.prog gl0 32 [.agg [numA nb B,etyA ne E]] (.bool (ledB nb B ne E)):=by
 have c1:=fun k=>rentry_c nb (E k)
 have c2:=raccs_c nb
 have c3:=fun (h:(nb≤1000∧ne≤1000)∧∀ k,k<ne→entB nb (E k)=true)=>rbal_c nb ne E h.1.1 h.1.2 h.2
 exact pz Tryz.func32 (by
  apply n_sc (c2)
  apply n_br (!(decide ((nb:Int)≥5)&&decide ((nb:Int)≤105))||decide ((ne:Int)>1000))
  ·intro g1
   exact n_out (Ent.of_eq (congrArg AV.bool (led_len (by omega)).symm))
  ·intro g1
   apply n_loop ({ x:Nat // x≤ne∧(fun (x:Nat)=>∀ (j:Nat),j<x→entB nb (E j)=true) x }) [1,3,4] [0] (fun x=>[.own 0 2 0 0 2,Zi nb,Zi x.1]) (fun x=>[some ⟨2,1,true,.lst [[.isl 1 nb fun i x=>Zi (B i),.isl 4 ne fun i j=>Zi (E i j)]]⟩]) (fun x=>ne - x.1) (⟨0,⟨Nat.zero_le ne,fun (j:Nat) (hj:j<0)=>absurd hj (Nat.not_lt_zero j)⟩⟩)
   intro x3
   try (have q3:=x3.2;dsimp only at q3)
   apply n_bd ((x3.1:Int)<(ne:Int))
   ·intro g4
    apply n_req (0≤(x3.1:Int)∧(x3.1:Int)<(ne:Int))
    apply n_sc (c1 (toNat (↑x3.1:Int)))
    apply n_br (!entB nb (E (toNat (x3.1:Int))))
    ·intro g7
     try simp only [Int.toNat_natCast] at g7
     exact n_out (Ent.of_eq (congrArg AV.bool (led_bad (k:=x3.1) (by omega) (led_ef g7)).symm))
    ·intro g7
     try simp only [Int.toNat_natCast] at g7
     exact n_again [0] (⟨x3.1+1,by omega,all_next x3.2.2 g7⟩) (ek2 (en (inc_ent (by omega))))
   ·intro g4
    apply n_dc (c3 (⟨by omega,fun k hk=>x3.2.2 k (by omega)⟩))
    apply n_br (!List.all (List.range.loop ne []) fun k=>pstB (balF E k) (E k))
    ·intro g11
     exact n_out (Ent.of_eq (congrArg AV.bool (led_r (fun k hk=>x3.2.2 k (by omega)) g11).symm))
    ·intro g11
     apply n_loop ({ x:Nat // x≤nb∧(fun (x:Nat)=>∀ (j:Nat),j<x→(balF E ne j==B j)=true) x }) [1,3,5,7] [0] (fun x=>[.own 0 2 0 0 2,Zi nb,.isl 1 (bif List.all (List.range.loop ne []) fun k=>pstB (balF E k) (E k) then nb else 0) fun i x=>Zi (balF E ne i),Zi x.1]) (fun x=>[some ⟨2,1,true,.lst [[.isl 1 nb fun i x=>Zi (B i),.isl 4 ne fun i j=>Zi (E i j)]]⟩]) (fun x=>nb - x.1) (⟨0,⟨Nat.zero_le nb,fun (j:Nat) (hj:j<0)=>absurd hj (Nat.not_lt_zero j)⟩⟩)
     intro x13
     try (have q13:=x13.2;dsimp only at q13)
     apply n_bd ((x13.1:Int)<(nb:Int))
     ·intro g14
      apply n_req (0≤(x13.1:Int)∧(x13.1:Int)<(↑(bif List.all (List.range.loop ne []) fun k=>pstB (balF E k) (E k) then nb else 0):Int)) (by (simp only [g11,cond_true];omega))
      apply n_req (0≤(x13.1:Int)∧(x13.1:Int)<(nb:Int))
      apply n_br (balF E ne (toNat (x13.1:Int)) != B (toNat (x13.1:Int)))
      ·intro g17
       try simp only [Int.toNat_natCast] at g17
       exact n_out (Ent.of_eq (congrArg AV.bool (ff_of' fun e=>g17 ((led_V e).bal _ (by omega))).symm))
      ·intro g17
       try simp only [Int.toNat_natCast] at g17
       exact n_again [0] (⟨x13.1+1,by omega,all_next x13.2.2 (beq_iff_eq.2 g17)⟩) (ek3 (en (inc_ent (by omega))))
     ·intro g14
      exact n_outx (.bool true) (Ent.of_eq (congrArg AV.bool (by rw [led_eq (by omega) (by omega) g1.2 (led_rt (B:=B) (fun k hk=>x3.2.2 k (by omega)) g11)];exact (allR_t fun i hi=>x13.2.2 i (by omega)).symm))))
theorem xverify_c (b:Bas) (R:Nat→Nat→Int) (n:Nat) (s t:Spend) (leaf:Int) (hn:n≤1000) (hw:b.gr.W) (hs:s.nl≤1000) (ht:t.nl≤1000) (bs:s.By) (bt:t.By) (ps:s.np≤1000000) (pt:t.np≤1000000) (fs:∀ k,k<s.np→byB (s.pf k) 32) (ft:∀ k,k<t.np→byB (t.pf k) 32) :
  Pure Tryz.prog gl0 61 [b.av,rcl n R,.agg (s.cells++(t.cells++[.int .i64 leaf]))] (.tup [.int .i64 (xvK b R n s t leaf),.bool (xvB b R n s t leaf)]):=by
 have c0:=bvalid_c b hw
 have c1:=formed2_c s t
 have c2:=vver_c b R n s hn hw bs.root bs.payee fs ps hs
 have c3:=vver_c b R n t hn hw bt.root bt.payee ft pt ht
 have c4:=guilty_c b s t leaf hw hs ht bs bt
 exact pz Tryz.func61 (by
  apply n_sc (c0)
  apply n_scg ((!validB b)==false) (fun h1=>c1)
  apply n_scg ((!validB b || !(okS s&&okS t))==false) (fun h2=>c2)
  apply n_scg ((!validB b || !(okS s&&okS t) || !verd b R n s)==false) (fun h3=>c3)
  apply n_br (!validB b || !(okS s&&okS t) || !verd b R n s || !verd b R n t)
  ·intro g4
   exact n_out (Ent.of_eq (xv_no4 g4))
  ·intro g4
   apply n_sc (c4)
   exact n_out (Ent.of_eq (xv_yes ⟨g4.1.2,g4.2⟩)))
theorem rxverify_c (b:Bas) (R:Nat→Nat→Int) (n:Nat) (s t:Spend) (leaf:Int) (h0:leaf≤9223372036854775807) (hn:n≤1000) (hw:b.gr.W) (hs:s.nl≤1000) (ht:t.nl≤1000) (bs:s.By) (bt:t.By) (ps:s.np≤1000000) (pt:t.np≤1000000) (fs:∀ k,k<s.np→byB (s.pf k) 32) (ft:∀ k,k<t.np→byB (t.pf k) 32) :
  Pure Tryz.prog gl0 35 [b.av,rcl n R,.agg (s.cells++(t.cells++[.int .i64 leaf]))] (.tup [.int .i64 (xvK b R n s t leaf),.bool (xvB b R n s t leaf)]):=by
 have c1:=rvrec_c R n s hn
 have c2:=rvrec_c R n t hn
 have c3:=rvfy_c b (rcX R n s) s hw bs.root bs.payee fs ps hs
 have c4:=rvfy_c b (rcX R n t) t hw bt.root bt.payee ft pt ht
 have c5:=rsecret_c b s t leaf h0 hw hs ht bs bt
 have c6:=fun h hu=>rmessage_c b (secR b s t leaf).1 h hu
 exact pz Tryz.func35 (by
  apply n_sc (c1)
  apply n_sc (c2)
  apply n_scg ((!decide (fnS R n s≥0) || !decide (fnS R n t≥0))==false) (fun h2=>c3)
  apply n_scg ((!decide (fnS R n s≥0) || !decide (fnS R n t≥0) || !vfy b (rcX R n s) s)==false) (fun h3=>c4)
  apply n_br (!decide (fnS R n s≥0) || !decide (fnS R n t≥0) || !vfy b (rcX R n s) s || !vfy b (rcX R n t) t)
  ·intro g4
   exact n_out (Ent.of_eq (xv_noR g4))
  ·intro g4
   apply n_sc (c5)
   apply n_scg (((secR b s t leaf).2 != 0||(secR b s t leaf).1==0)==false) (fun h7=>c6 ((by simp at h7;exact (secR_ok h7.1).1)) ((by simp at h7;exact (secR_ok h7.1).2)))
   apply n_br ((secR b s t leaf).2 != 0||(secR b s t leaf).1==0||msgI b (secR b s t leaf).1==1)
   ·intro g8
    exact n_out (Ent.of_eq (xv_f (vd_t g4) g8))
   ·intro g8
    apply n_sc (rpow_c (b.2) ((secR b s t leaf).1) ((Bas.gr b).1) (by have K:=sec_pow g8.1.1;omega) (by have K:=sec_pow g8.1.1;omega) (by have K:=sec_pow g8.1.1;omega) (by have K:=sec_pow g8.1.1;omega) (by have K:=sec_pow g8.1.1;omega))
    exact n_out (Ent.of_eq (xv_t (vd_t g4) g8)))
end Go.Proofs.YtcageinnelhonaaGreatDoor
