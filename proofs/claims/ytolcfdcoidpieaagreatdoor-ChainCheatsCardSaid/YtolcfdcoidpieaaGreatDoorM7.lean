/- Part of the proof: HV6, Crt, HV7, HV8, Cval, HV9, HV10, HV11, Prd, HV12, HV13, Vfy, HV14, HV15, Glt, HV16, HV17, Clm, Prv, Acc, Prv2, Chv, HK1, HK2. -/
import Derived.Test.YtolcfdcoidpieaaGreatDoorM6
import Derived.Test.YtolcfdcoidpieaaGreatDoorProg
import Derived.Test.YtolcfdcoidpieaaGreatDoorM5
namespace Go.Proofs.YtolcfdcoidpieaaGreatDoor
open Go Go.Am Go.Sp
set_option maxRecDepth 100000
theorem denomV_c0 (v d:Int):Pure Tryz.prog gl0 205 [.isl 2 1 fun _ k=>atL [.int .i64 v,.int .i64 d] k] (.bool (oneB v d)):=by
 have hs:=(single_c v d)
 refine pure_sk (own:=ow0) Tryz.func205 (by kernel_rfl) mixed (by kernel_rfl)
  (let y0:AV:=(AV.bool (oneB v d));(.ff (.loop ({ x:Nat // x≤1∧(fun (x:Nat)=>0<x→oneB v d=true) x }) (fun (x:{ x:Nat // x≤1∧(fun (x:Nat)=>0<x→oneB v d=true) x })=>mkSt [0,12,13,14,2,15] [AV.isl 2 1 fun (x k:Nat)=>atL [Zi v,Zi d] k,AV.bool false,AV.isl 2 1 fun (x k:Nat)=>atL [Zi v,Zi d] k,Zi (↑(1):Int),AV.bool false,Zi (↑(x.1):Int)] []) (fun (x:{ x:Nat // x≤1∧(fun (x:Nat)=>0<x→oneB v d=true) x })=>1 - x.1) (⟨0,⟨Nat.zero_le 1,fun (h:0<0)=>absurd h (Nat.lt_irrefl 0)⟩⟩) ([0,12,13,14,2,15]) ([]) ([AV.isl 2 1 fun (x k:Nat)=>atL [Zi v,Zi d] k,AV.bool false,AV.isl 2 1 fun (x k:Nat)=>atL [Zi v,Zi d] k,Zi (↑(1):Int),AV.bool false,Zi 0]) ([]) (fun x1=>(.br (decide ((↑x1.1:Int)<(↑(1):Int))) (.req ((0:Int)≤(↑x1.1:Int)∧(↑x1.1:Int)<(↑(1):Int)) (.sc (true) 250 ([AV.agg [Zi v,Zi d]]) y0 (.br (!oneB v d) (.out (AV.bool false) [] y0 []) (.req ((decide ((↑x1.1:Int)>0)==true)=true→(0:Int)≤IntKind.wrap IntKind.i64 ((↑x1.1:Int) - 1)∧IntKind.wrap IntKind.i64 ((↑x1.1:Int) - 1)<(↑(1):Int)) (.req ((decide ((↑x1.1:Int)>0)==true&&decide (v<v)==false)=true→(0:Int)≤IntKind.wrap IntKind.i64 ((↑x1.1:Int) - 1)∧IntKind.wrap IntKind.i64 ((↑x1.1:Int) - 1)<(↑(1):Int)) (.req ((decide ((↑x1.1:Int)>0)==true&&decide (v<v)==false&&(v==v)==true)=true→(0:Int)≤IntKind.wrap IntKind.i64 ((↑x1.1:Int) - 1)∧IntKind.wrap IntKind.i64 ((↑x1.1:Int) - 1)<(↑(1):Int)) (.br (decide ((↑x1.1:Int)>0)&&(decide (v<v)||v==v&&decide (d≤d))) (.out (AV.bool false) [] y0 []) (.again (Again 0 (fun (x:{ x:Nat // x≤1∧(fun (x:Nat)=>0<x→oneB v d=true) x })=>mkSt [0,12,13,14,2,15] [AV.isl 2 1 fun (x k:Nat)=>atL [Zi v,Zi d] k,AV.bool false,AV.isl 2 1 fun (x k:Nat)=>atL [Zi v,Zi d] k,Zi (↑(1):Int),AV.bool false,Zi (↑(x.1):Int)] []) (fun (x:{ x:Nat // x≤1∧(fun (x:Nat)=>0<x→oneB v d=true) x })=>1 - x.1) x1) ([0,12,13,14,2,15]) ([]) ([AV.isl 2 1 fun (x k:Nat)=>atL [Zi v,Zi d] k,AV.bool false,AV.isl 2 1 fun (x k:Nat)=>atL [Zi v,Zi d] k,Zi (↑(1):Int),AV.bool false,Zi (IntKind.wrap IntKind.i64 ((↑x1.1:Int)+1))]) ([]))))))))) (.out (AV.bool true) [] y0 []))))))
  (by kernel_rfl) ?_
 refine k_ff ?_
 refine k_loop (fun _ hs=>hs.le (⟨.refl _,.refl _,.refl _,.refl _,.refl _,.refl _,trivial⟩) (trivial)) (fun x1 => ?_)
 try (have q1:=x1.2;dsimp only at q1)
 refine k_br (fun h2 => ?_) (fun h2 => ?_)
 ·have g2:=cnd_dec_t h2
  refine k_req (by omega) ?_
  refine k_sc (hs) ?_
  refine k_br (fun h5 => ?_) (fun h5 => ?_)
  ·have g5:=(cnd_not_t cnd_id_f) h5
   exact k_out (by exact Ent.of_eq (congrArg _ (by simp_all)))
  ·have g5:=(cnd_not_f cnd_id_t) h5
   refine k_req (fun hr=>by have hr:=(cnd_eqt_t cnd_dec_t) hr;omega) ?_
   refine k_req (fun hr=>by have hr:=(cnd_and_t (cnd_eqt_t cnd_dec_t) (cnd_eqf_t cnd_dec_f)) hr;omega) ?_
   refine k_req (fun hr=>by have hr:=(cnd_and_t (cnd_and_t (cnd_eqt_t cnd_dec_t) (cnd_eqf_t cnd_dec_f)) (cnd_eqt_t cnd_beq_t)) hr;omega) ?_
   refine k_br (fun h10 => ?_) (fun h10 => ?_)
   ·have g10:=(cnd_and_t cnd_dec_t (cnd_or_t cnd_dec_t (cnd_and_t cnd_beq_t cnd_dec_t))) h10
    exact k_out (by (exfalso;omega))
   ·have g10:=(cnd_and_f cnd_dec_f (cnd_or_f cnd_dec_f (cnd_and_f cnd_beq_f cnd_dec_f))) h10
    exact k_again (⟨x1.1+1,by omega,fun _=>g5⟩) (fun _ hs=>hs.le (⟨.refl _,.refl _,.refl _,.refl _,.refl _,inc_ent (by omega),trivial⟩) (trivial)) (by dsimp only;omega)
 ·have g2:=cnd_dec_f h2
  exact k_out (by exact Ent.of_eq (congrArg _ (q1.2 (by omega)).symm))
theorem denomV_c (v d:Int):Pure Tryz.prog gl0 205 [.isl 2 1 fun r k=>atL (List.getD [[.int .i64 v,.int .i64 d]] r []) k] (.bool (oneB v d)) :=
 (denomV_c0 v d).via ⟨Ent.isl fun i j hi _=>by obtain rfl:i=0:=Nat.lt_one_iff.1 hi;rfl,trivial⟩
theorem recV_c (b:Bas) (r:Rcd) (hw:b.gr.W):Pure Tryz.prog gl0 138 [b.av,r.av] (.bool (rcvB b r)):=by
 have h1:=denomV_c r.value r.depth
 have h2:=validR_c b r.h r.h1 r.h2 hw
 refine pure_sk (own:=ow0) Tryz.func138 (by kernel_rfl) mixed (by kernel_rfl)
  (.sc (true) 203 ([Zi r.1,Zi r.2,Zi r.9,Zi r.10,Zi r.11]) (AV.bool (numR r.1 r.2 r.9 r.10 r.11)) (.sc (numR r.1 r.2 r.9 r.10 r.11==true) 204 ([Zi r.3,Zi 0,Zi 16]) (AV.bool (rngB r.3 (0:Int) (16:Int))) (.sc ((numR r.1 r.2 r.9 r.10 r.11&&rngB r.3 (0:Int) (16:Int))==true&&(r.4==0&&r.5==0)==false) 205 ([AV.isl 2 1 fun (r_1 k:Nat)=>atL (List.getD [[Zi r.4,Zi r.5]] (r_1+0) []) k]) (AV.bool (oneB (Rcd.value r) (Rcd.depth r))) (.sc ((numR r.1 r.2 r.9 r.10 r.11&&rngB r.3 (0:Int) (16:Int)&&(r.4==0&&r.5==0||oneB r.4 r.5))==true) 206 ([AV.agg (Bas.cells b),AV.agg [Zi r.6,Zi r.7,Zi r.8]]) (AV.bool (keyB b (Rcd.h r) (Rcd.h1 r) (Rcd.h2 r))) (.out (AV.bool (numR r.1 r.2 r.9 r.10 r.11&&rngB r.3 (0:Int) (16:Int)&&(r.4==0&&r.5==0||oneB r.4 r.5)&&keyB b r.6 r.7 r.8)) [] (AV.bool (rcvB b r)) [])))))
  (by kernel_rfl) ?_
 refine k_sc (numbers_c (r.1) (r.2) (r.9) (r.10) (r.11)) ?_
 refine k_scg (fun h1=>within_r (r.3) ((0:Int)) ((16:Int))) ?_
 refine k_scg (fun h2=>h1) ?_
 refine k_scg (fun h3=>h2) ?_
 exact k_out (Ent.of_eq (congrArg _ rec_1))
theorem rrecV_c (b:Bas) (r:Rcd) (hw:b.gr.W):Pure Tryz.prog gl0 117 [b.av,r.av] (.bool (rcvB b r)):=by
 have h1:=one_c r.value r.depth
 have h2:=rkey_c b r.h r.h1 r.h2 hw
 refine pure_sk (own:=ow0) Tryz.func117 (by kernel_rfl) mixed (by kernel_rfl)
  (.sc (true) 183 ([AV.agg (Bas.cells b),AV.agg [Zi r.6,Zi r.7,Zi r.8]]) (AV.bool (keyB b (Rcd.h r) (Rcd.h1 r) (Rcd.h2 r))) (.sc (keyB b r.6 r.7 r.8==true) 184 ([Zi r.1,Zi r.2,Zi r.9,Zi r.10,Zi r.11]) (AV.bool (numR r.1 r.2 r.9 r.10 r.11)) (.sc ((keyB b r.6 r.7 r.8&&numR r.1 r.2 r.9 r.10 r.11)==true) 185 ([Zi r.3,Zi 0,Zi 16]) (AV.bool (rngB r.3 (0:Int) (16:Int))) (.sc ((keyB b r.6 r.7 r.8&&numR r.1 r.2 r.9 r.10 r.11&&rngB r.3 (0:Int) (16:Int))==true) 186 ([AV.agg [Zi r.4,Zi r.5]]) (AV.bool (oneB (Rcd.value r) (Rcd.depth r))) (.out (AV.bool (keyB b r.6 r.7 r.8&&numR r.1 r.2 r.9 r.10 r.11&&rngB r.3 (0:Int) (16:Int)&&oneB r.4 r.5)) [] (AV.bool (rcvB b r)) [])))))
  (by kernel_rfl) ?_
 refine k_sc (h2) ?_
 refine k_scg (fun h1=>frame_c (r.1) (r.2) (r.9) (r.10) (r.11)) ?_
 refine k_scg (fun h2=>rin_c (r.3) ((0:Int)) ((16:Int))) ?_
 refine k_scg (fun h3=>h1) ?_
 exact k_out (Ent.refl _)
theorem numI_c (n:Int):Pure Tryz.prog gl0 253 [.int .i64 n] (It.int n).av:=by
 refine pure_sk (own:=ow0) Tryz.func253 (by kernel_rfl) mixed (by kernel_rfl)
  (.out (AV.agg [Zi 1,Zi n,AV.nsl,AV.nsl]) [] (It.av (It.int n)) [])
  (by kernel_rfl) ?_
 exact k_out (Ent.agg ⟨Ent.refl _,Ent.refl _,Ent.nsl,Ent.nsl,trivial⟩)
theorem rnumI_c (n:Int):Pure Tryz.prog gl0 238 [.int .i64 n] (It.int n).av:=by
 refine pure_sk (own:=ow0) Tryz.func238 (by kernel_rfl) mixed (by kernel_rfl)
  (.out (AV.agg [Zi 1,Zi n,AV.nsl,AV.nsl]) [] (It.av (It.int n)) [])
  (by kernel_rfl) ?_
 exact k_out (Ent.agg ⟨Ent.refl _,Ent.refl _,Ent.nsl,Ent.nsl,trivial⟩)
theorem rNumbers_c (b:Bas):Pure Tryz.prog gl0 237 [b.av] (.isl 1 6 fun i _=>.int .i64 (crtL b 0 i)):=by
 refine pure_sk (own:=ow0) Tryz.func237 (by kernel_rfl) mixed (by kernel_rfl)
  (.out (AV.isl 1 6 fun (r k:Nat)=>atL (List.getD [[Zi (Bas.gr b).1],[Zi (Bas.gr b).2],[Zi (Bas.gr b).3],[Zi b.2],[Zi b.3],[Zi b.4]] (r+0) []) k) [] (AV.isl 1 6 fun (i x:Nat)=>Zi (crtL b (0:Int) i)) [])
  (by kernel_rfl) ?_
 exact k_out (Ent.isl fun i j hi hj=>by obtain rfl:j=0:=Nat.lt_one_iff.1 hj;match i,hi with|0,_|1,_|2,_|3,_|4,_|5,_=>rfl)
theorem relems_c (G:Grp) (z sa sb r:Int) (hw:G.Ok):Pure Tryz.prog gl0 188 [G.av,.agg [.int .i64 z,.int .i64 sa,.int .i64 sb,.int .i64 r]] (.bool (elsB G z sa sb)):=by
 refine pure_sk (own:=ow0) Tryz.func188 (by kernel_rfl) mixed (by kernel_rfl)
  (let y0:List AV:=[Zi G.1,Zi G.2,Zi G.3];(.sc (true) 57 ([AV.agg y0,Zi z]) (AV.bool (elemB G z)) (.sc (elemB G z==true) 57 ([AV.agg y0,Zi sa]) (AV.bool (elemB G sa)) (.sc ((elemB G z&&elemB G sa)==true) 57 ([AV.agg y0,Zi sb]) (AV.bool (elemB G sb)) (.out (AV.bool (elemB G z&&elemB G sa&&elemB G sb)) [] (AV.bool (elsB G z sa sb)) [])))))
  (by kernel_rfl) ?_
 refine k_sc ((member_c G) (z) (by assumption)) ?_
 refine k_scg (fun h1=>(member_c G) (sa) (by assumption)) ?_
 refine k_scg (fun h2=>(member_c G) (sb) (by assumption)) ?_
 exact k_out (Ent.refl _)
theorem scalR_c (b:Bas) (x:Int):Pure Tryz.prog gl0 208 [b.av,.int .i64 x] (.bool (decide (x≥0)&&decide (x<b.gr.q))):=by
 refine pure_sk (own:=ow0) Tryz.func208 (by kernel_rfl) mixed (by kernel_rfl)
  (.out (AV.bool (decide (x≥0)&&decide (x<(Bas.gr b).2))) [] (AV.bool (decide (x≥0)&&decide (x<Grp.q (Bas.gr b)))) [])
  (by kernel_rfl) ?_
 exact k_out (Ent.refl _)
theorem rscalR_c (G:Grp) (x:Int):Pure Tryz.prog gl0 189 [G.av,.int .i64 x] (.bool (decide (x≥0)&&decide (x<G.q))):=by
 refine pure_sk (own:=ow0) Tryz.func189 (by kernel_rfl) mixed (by kernel_rfl)
  (.out (AV.bool (decide (x≥0)&&decide (x<G.2))) [] (AV.bool (decide (x≥0)&&decide (x<Grp.q G))) [])
  (by kernel_rfl) ?_
 exact k_out (Ent.refl _)
theorem powR_c (b:Bas) (x e:Int) (h:b.gr.Ok) (hx:0≤x∧x<b.gr.p) (he:0≤e∧e<b.gr.q):Pure Tryz.prog gl0 210 [b.av,.int .i64 x,.int .i64 e] (.int .i64 (x^e.toNat%b.gr.p)):=by
 have k1:=h.p1;have k2:=h.qp;have k3:=h.p3
 have k5:=powE_0 (chk_ok (a:=x) (b:=x) (m:=b.gr.p) (by omega) (by omega) (by omega) (by omega) (by omega) (by omega)) (by omega:¬e<0)
 refine pure_sk (own:=ow0) Tryz.func210 (by kernel_rfl) mixed (by kernel_rfl)
  (.sc (true) 134 ([Zi x,Zi e,Zi (Bas.gr b).1]) (AV.tup [Zi (okv (powE x e (Bas.gr b).1) (x^Int.toNat e%(Bas.gr b).1)),Zi (powE x e (Bas.gr b).1)]) (.out (Zi (okv (powE x e (Bas.gr b).1) (x^Int.toNat e%(Bas.gr b).1))) [] (Zi (x^Int.toNat e%Grp.p (Bas.gr b))) []))
  (by kernel_rfl) ?_
 refine k_sc (wpow_c (x) (e) ((Bas.gr b).1) (by omega)) ?_
 exact k_out (Ent.of_eq (by rw [k5];rfl))
theorem rpowR_c (G:Grp) (x e:Int) (h:G.Ok) (hx:0≤x∧x<G.p) (he:0≤e∧e<G.q):Pure Tryz.prog gl0 191 [G.av,.int .i64 x,.int .i64 e] (.int .i64 (x^e.toNat%G.p)):=by
 have k1:=h.p1;have k2:=h.qp;have k3:=h.p3
 refine pure_sk (own:=ow0) Tryz.func191 (by kernel_rfl) mixed (by kernel_rfl)
  (.sc (true) 116 ([Zi x,Zi e,Zi G.1]) (Zi (x^Int.toNat e%G.1)) (.out (Zi (x^Int.toNat e%G.1)) [] (Zi (x^Int.toNat e%Grp.p G)) []))
  (by kernel_rfl) ?_
 refine k_sc (rpow_c (x) (e) (G.1) (by omega) (by omega) (by omega) (by omega) (by assumption)) ?_
 exact k_out (Ent.refl _)
theorem mulR_c (b:Bas) (x y:Int) (h:b.gr.Ok) (hx:0≤x∧x<b.gr.p) (hy:0≤y∧y<b.gr.p):Pure Tryz.prog gl0 254 [b.av,.int .i64 x,.int .i64 y] (.int .i64 (x*y%b.gr.p)):=by
 have k1:=h.p1;have k3:=h.p3
 have k2:=chk_ok (a:=x) (b:=y) (m:=b.gr.p) (by omega) (by omega) (by omega) (by omega) (by omega) (by omega)
 refine pure_sk (own:=ow0) Tryz.func254 (by kernel_rfl) mixed (by kernel_rfl)
  (.sc (true) 219 ([Zi x,Zi y,Zi (Bas.gr b).1]) (AV.tup [Zi (okv (chkI x y (Bas.gr b).1) (x*y%(Bas.gr b).1)),Zi (chkI x y (Bas.gr b).1)]) (.out (Zi (okv (chkI x y (Bas.gr b).1) (x*y%(Bas.gr b).1))) [] (Zi (x*y%Grp.p (Bas.gr b))) []))
  (by kernel_rfl) ?_
 refine k_sc (wmul_c (x) (y) ((Bas.gr b).1)) ?_
 exact k_out (Ent.of_eq (by rw [k2];rfl))
theorem rmulR_c (G:Grp) (x y:Int) (h:G.Ok) (hx:0≤x∧x<G.p) (hy:0≤y∧y<G.p):Pure Tryz.prog gl0 192 [G.av,.int .i64 x,.int .i64 y] (.int .i64 (x*y%G.p)):=by
 have k1:=h.p1;have k3:=h.p3
 refine pure_sk (own:=ow0) Tryz.func192 (by kernel_rfl) mixed (by kernel_rfl)
  (.sc (true) 110 ([Zi x,Zi y,Zi G.1]) (Zi (x*y%G.1)) (.out (Zi (x*y%G.1)) [] (Zi (x*y%Grp.p G)) []))
  (by kernel_rfl) ?_
 refine k_sc (rmul_c (x) (y) (G.1) (by omega) (by omega) (by omega) (by omega) (by assumption)) ?_
 exact k_out (Ent.refl _)
theorem prodR_c (b:Bas) (x e y:Int) (h:b.gr.Ok) (hx:0≤x∧x<b.gr.p) (he:0≤e∧e<b.gr.q) (hy:0≤y∧y<b.gr.p):Pure Tryz.prog gl0 211 [b.av,.int .i64 x,.int .i64 e,.int .i64 y,.int .i64 1] (.int .i64 (x^e.toNat%b.gr.p*y%b.gr.p)):=by
 have k1:=h.p1;have k3:=h.p3;have kq:=h.q3
 have c1:=powR_c b x e h hx he
 have c2:=powR_c b y 1 h hy (by omega)
 have m1:0≤x^e.toNat%b.gr.p∧x^e.toNat%b.gr.p<b.gr.p:=⟨Int.emod_nonneg _ (by omega),Int.emod_lt_of_pos _ (by omega)⟩
 have y1:y^(1:Int).toNat%b.gr.p=y:=by rw [show (1:Int).toNat=1 from rfl,Int.pow_succ,Int.pow_zero,Int.one_mul,Int.emod_eq_of_lt hy.1 hy.2]
 rw [y1] at c2
 have c3:=mulR_c b _ y h m1 hy
 refine pure_sk (own:=ow0) Tryz.func211 (by kernel_rfl) mixed (by kernel_rfl)
  (let y0:AV:=(Zi (x^Int.toNat e%Grp.p (Bas.gr b)*y%Grp.p (Bas.gr b)));(.sc (true) 210 ([AV.agg (Bas.cells b),Zi x,Zi e]) (Zi (x^Int.toNat e%Grp.p (Bas.gr b))) (.sc (true) 210 ([AV.agg (Bas.cells b),Zi y,Zi 1]) (Zi y) (.sc (true) 254 ([AV.agg (Bas.cells b),Zi (x^Int.toNat e%(Bas.gr b).1),Zi y]) y0 (.out (Zi (x^Int.toNat e%(Bas.gr b).1*y%(Bas.gr b).1)) [] y0 [])))))
  (by kernel_rfl) ?_
 refine k_sc (c1) ?_
 refine k_sc (c2) ?_
 refine k_sc (c3) ?_
 exact k_out (Ent.refl _)
theorem elemsR_c0 (b:Bas) (u0 u1 u2 u3:Int) (hw:b.gr.W):Pure Tryz.prog gl0 252 [b.av,.isl 1 4 fun i _=>.int .i64 (elF u0 u1 u2 u3 i)] (.bool (elemB b.gr u0&&elsB b.gr u1 u2 u3)):=by
 have e:allI (fun i=>elemB b.gr (elF u0 u1 u2 u3 i)) 4=(elemB b.gr u0&&elsB b.gr u1 u2 u3):=allE4
 rw [← e];clear e
 refine pure_sk (own:=ow0) Tryz.func252 (by kernel_rfl) mixed (by kernel_rfl)
  (let y0:List (Option Ob):=[some ⟨6,1,true,Rep.lst [Bas.cells b]⟩];let y1:AV:=(AV.bool (allI (fun (i:Nat)=>elemB (Bas.gr b) (elF u0 u1 u2 u3 i)) 4));(.loop ({ x:Nat // x≤4∧(fun (i:Nat)=>∀ (j:Nat),j<i→elemB (Bas.gr b) (elF u0 u1 u2 u3 j)=true) x }) (fun (x:{ x:Nat // x≤4∧(fun (i:Nat)=>∀ (j:Nat),j<i→elemB (Bas.gr b) (elF u0 u1 u2 u3 j)=true) x })=>mkSt [2,7,8,9] [AV.own 0 6 0 0 6,AV.isl 1 4 fun (i x:Nat)=>Zi (elF u0 u1 u2 u3 i),Zi (↑(4):Int),Zi (↑(x.1):Int)] y0) (fun (x:{ x:Nat // x≤4∧(fun (i:Nat)=>∀ (j:Nat),j<i→elemB (Bas.gr b) (elF u0 u1 u2 u3 j)=true) x })=>4 - x.1) (⟨0,⟨Nat.zero_le 4,fun (j:Nat) (hj:j<0)=>absurd hj (Nat.not_lt_zero j)⟩⟩) ([2,7,8,9]) ([0]) ([AV.own 0 6 0 0 6,AV.isl 1 4 fun (i x:Nat)=>Zi (elF u0 u1 u2 u3 i),Zi (↑(4):Int),Zi 0]) (y0) (fun x0=>(.br (decide ((↑x0.1:Int)<(↑(4):Int))) (.req ((0:Int)≤(↑x0.1:Int)∧(↑x0.1:Int)<(↑(4):Int)) (.sc (true) 251 ([AV.agg (Bas.cells b),Zi (elF u0 u1 u2 u3 (Int.toNat (↑x0.1:Int)))]) (AV.bool (elemB (Bas.gr b) (elF u0 u1 u2 u3 (Int.toNat (↑x0.1:Int))))) (.br (!elemB b.1 (elF u0 u1 u2 u3 (Int.toNat (↑x0.1:Int)))) (.out (AV.bool false) [] y1 []) (.again (Again 0 (fun (x:{ x:Nat // x≤4∧(fun (i:Nat)=>∀ (j:Nat),j<i→elemB (Bas.gr b) (elF u0 u1 u2 u3 j)=true) x })=>mkSt [2,7,8,9] [AV.own 0 6 0 0 6,AV.isl 1 4 fun (i x:Nat)=>Zi (elF u0 u1 u2 u3 i),Zi (↑(4):Int),Zi (↑(x.1):Int)] y0) (fun (x:{ x:Nat // x≤4∧(fun (i:Nat)=>∀ (j:Nat),j<i→elemB (Bas.gr b) (elF u0 u1 u2 u3 j)=true) x })=>4 - x.1) x0) ([2,7,8,9]) ([0]) ([AV.own 0 6 0 0 6,AV.isl 1 4 fun (i x:Nat)=>Zi (elF u0 u1 u2 u3 i),Zi (↑(4):Int),Zi (IntKind.wrap IntKind.i64 ((↑x0.1:Int)+1))]) (y0))))) (.out (AV.bool true) [] y1 [])))))
  (by kernel_rfl) ?_
 refine k_loop (fun _ hs=>hs.le (⟨.refl _,.refl _,.refl _,.refl _,trivial⟩) (⟨.refl _,trivial⟩)) (fun x0 => ?_)
 try (have q0:=x0.2;dsimp only at q0)
 refine k_br (fun h1 => ?_) (fun h1 => ?_)
 ·have g1:=cnd_dec_t h1
  refine k_req (by omega) ?_
  refine k_sc ((elementR_c b) (elF u0 u1 u2 u3 (Int.toNat (↑x0.1:Int))) (by assumption)) ?_
  refine k_br (fun h4 => ?_) (fun h4 => ?_)
  ·have g4:=(cnd_not_t cnd_id_f) h4
   try simp only [Int.toNat_natCast] at g4
   exact k_out (by exact Ent.of_eq (congrArg _ (allI_f (i:=x0.1) (by omega) g4).symm))
  ·have g4:=(cnd_not_f cnd_id_t) h4
   try simp only [Int.toNat_natCast] at g4
   exact k_again (⟨x0.1+1,by omega,all_next q0.2 g4⟩) (fun _ hs=>hs.le (⟨.refl _,.refl _,.refl _,inc_ent (by omega),trivial⟩) (⟨.refl _,trivial⟩)) (by dsimp only;omega)
 ·have g1:=cnd_dec_f h1
  exact k_out (by exact Ent.of_eq (congrArg _ (allI_t fun i hi=>q0.2 i (by omega)).symm))
theorem elemsR_c (b:Bas) (x0 x1 x2 x3:Int) (hw:b.gr.W):Pure Tryz.prog gl0 252 [b.av,.isl 1 4 fun r k=>atL (List.getD [[.int .i64 x0],[.int .i64 x1],[.int .i64 x2],[.int .i64 x3]] r []) k] (.bool (elemB b.gr x0&&elsB b.gr x1 x2 x3)) :=
 (elemsR_c0 b x0 x1 x2 x3 hw).via ⟨Ent.refl _,Ent.isl fun i j hi hj=>by obtain rfl:j=0:=Nat.lt_one_iff.1 hj;match i,hi with|0,_|1,_|2,_|3,_=>rfl,trivial⟩
end Go.Proofs.YtolcfdcoidpieaaGreatDoor

namespace Go.Sp
open Go Go.Am
def crtJ (b:Bas) (a:Int) (root:Nat→Int) (z sa sb:Int):List It:=[.int b.gr.p,.int b.gr.q,.int b.gr.g,.int b.g1,.int b.g2,.int b.h,.int a,.byt 32 root,.int z,.int sa,.int sb]
theorem liU_out {os:List (Option Ob)} {L:List It} {n:Nat} {F:Nat→Nat→AV} (hn:n=L.length) (h:∀ i k,i<n→k<4→Ent os (F i k) (atL (L.getD i (.int 0)).cells k)) :
  Ent os (.agg [.int .i64 3,.int .i64 0,.nsl,.isl 4 n F]) (lsI L).av:=by
 subst hn
 exact Ent.agg ⟨Ent.refl _,Ent.refl _,Ent.nsl,Ent.islE (fun i j hi hj=>⟨h i j hi hj,It.cl_at _ j hj⟩),trivial⟩
theorem byt_root {os:List (Option Ob)} (n:Nat) {f g:Nat→Int} (h:∀ i,i<n→f i=g i):EntL os [.int .i64 2,.int .i64 0,.isl 1 n fun i _=>.int .u8 (f i),.nsl] (It.byt n g).cells :=
 ⟨Ent.refl _,Ent.refl _,Ent.isl fun i _ hi _=>congrArg (AV.int .u8) (h i hi),Ent.nsl,trivial⟩
theorem crtF_ok {os:List (Option Ob)} {b:Bas} {a z sa sb:Int} {root:Nat→Int} {x:Nat} (hx:x=7) {i k:Nat} (hi:i<x+4) :
  Ent os (mixA (Nat.blt (i+0) x) (atL (It.int (crtL b a (i+0))).cells k)
   (atL (List.getD [[AV.int IntKind.i64 (2:Int),AV.int IntKind.i64 (0:Int),AV.isl 1 32 fun (r _:Nat)=>AV.int IntKind.u8 (intOfAV (atL (u8c root) (0+(0+r)))),AV.nsl],(It.int z).cells,(It.int sa).cells,(It.int sb).cells] (i+0 - x) []) k))
   (atL ((crtJ b a root z sa sb).getD i (.int 0)).cells k):=by
 subst hx
 match i,hi with
 | 0,_|1,_|2,_|3,_|4,_|5,_|6,_=>exact Ent.of_eq (mixA_tt _ _)
 | 7,_ =>
  show Ent os (mixA false _ _) _
  rw [mixA_ff]
  refine Ent.atL (byt_root 32 fun i hi => ?_) k
  rw [Nat.zero_add,Nat.zero_add]
  exact u8c_at hi
 | 8,_|9,_|10,_=>exact Ent.of_eq (mixA_ff _ _)
theorem rcrtF_ok {os:List (Option Ob)} {b:Bas} {a z sa sb:Int} {root:Nat→Int} {x y:Nat} (hx:x=6) (hy:y=32) {i k:Nat} (hi:i<x+5) :
  Ent os (mixA (Nat.blt (i+0) x) (atL (It.int (crtL b 0 (i+0))).cells k)
   (atL (List.getD [(It.int a).cells,[AV.int IntKind.i64 (2:Int),AV.int IntKind.i64 (0:Int),AV.isl 1 y fun (r _:Nat)=>AV.int IntKind.u8 (root (r+0)),AV.nsl],(It.int z).cells,(It.int sa).cells,(It.int sb).cells] (i+0 - x) []) k))
   (atL ((crtJ b a root z sa sb).getD i (.int 0)).cells k):=by
 subst hx;subst hy
 match i,hi with
 | 0,_|1,_|2,_|3,_|4,_|5,_=>exact Ent.of_eq (mixA_tt _ _)
 | 7,_ =>
  show Ent os (mixA false _ _) _
  rw [mixA_ff]
  exact Ent.atL (byt_root 32 fun i hi=>rfl) k
 | 6,_|8,_|9,_|10,_=>exact Ent.of_eq (mixA_ff _ _)
theorem root_push {os:List (Option Ob)} {y y':Nat} {root c:Nat→Int} (hy:y'=y+1) (h:c 0=root y) :
  ObEnt os ⟨1,y+1,true,.fn fun i j=>.int .u8 (bif Nat.blt i y then root i else c j)⟩ ⟨1,y',true,.fn fun i _=>.int .u8 (root i)⟩:=by
 subst hy
 refine ⟨rfl,rfl,rfl,fun i j hi hj=>Ent.of_eq ?_⟩
 have hi:i<y+1:=hi
 obtain rfl:j=0:=Nat.lt_one_iff.1 hj
 show AV.int .u8 (bif Nat.blt i y then root i else c 0)=.int .u8 (root i)
 by_cases e:i<y
 ·rw [blt_t e];rfl
 ·obtain rfl:i=y:=by omega
  rw [blt_f (Nat.le_refl _),h];rfl
theorem rootc_at {root:Nat→Int} {y:Nat} (hy:y<32):intOfAV (atL [AV.int .u8 (intOfAV (atL (u8c root) (0+Int.toNat (y:Int))))] 0)=root y:=by
 show intOfAV (atL (u8c root) (0+Int.toNat (y:Int)))=_
 rw [Nat.zero_add,Int.toNat_natCast]
 exact u8c_at hy
theorem crtI_ok (b:Bas) (a z sa sb:Int) (root:Nat→Int):(crtI b a root z sa sb).okD 8=true:=by
 simp [crtI,lsI,It.okD,List.range,List.range.loop,List.getD]
theorem crtI_len (b:Bas) (a z sa sb:Int) (root:Nat→Int):(crtI b a root z sa sb).enc.length=132:=by
 show (It.encP 11 _ (0+1+1+1+1+1+1+1+1+1+1+1)).length=_
 repeat rw [It.encP_succ,List.length_append]
 rw [It.encP_zero]
 simp [nbL_len,int_len,byt_len]
theorem crtI_okB {b:Bas} {a z sa sb:Int} {root:Nat→Int} (h:byB root 32):(crtI b a root z sa sb).okB:=fun i hi=>by
 have hi:i<11:=hi
 match i,hi with
 | 0,_|1,_|2,_|3,_|4,_|5,_|6,_|8,_|9,_|10,_=>exact trivial
 | 7,_=>exact h
def crtC (b:Bas) (a:Int) (root:Nat→Int) (z sa sb:Int):Int:=bif crtE b a z sa sb==0 then crtN b a root z sa sb else 0
def crtV (b:Bas) (a:Int) (root:Nat→Int) (z sa sb:Int):AV:=.tup [.int .i64 (crtC b a root z sa sb),.int .i64 (crtE b a z sa sb)]
theorem crtE_1 {b:Bas} {a z sa sb:Int} (h:validB b=false):crtE b a z sa sb=1:=by unfold crtE;rw [h];rfl
theorem crtE_2 {b:Bas} {a z sa sb:Int} (h:validB b=true) (h':elemB b.gr a=false∨elsB b.gr z sa sb=false):crtE b a z sa sb=2:=by
 have e1:(elemB b.gr a&&elsB b.gr z sa sb)=false:=by rcases h' with e|e<;>simp [e]
 unfold crtE;rw [h,e1];rfl
theorem crtE_3 {b:Bas} {a z sa sb:Int} (h:validB b=true) (h':elemB b.gr a=true∧elsB b.gr z sa sb=true):crtE b a z sa sb=0:=by
 unfold crtE;rw [h,h'.1,h'.2];rfl
theorem crtE_0 {b:Bas} {a z sa sb:Int} (h:crtE b a z sa sb=0):validB b=true∧elemB b.gr a=true∧elsB b.gr z sa sb=true:=by
 cases hv:validB b with
 | false=>rw [crtE_1 hv] at h;cases h
 | true =>
  cases ha:elemB b.gr a with
  | false=>rw [crtE_2 hv (.inl ha)] at h;cases h
  | true =>
   cases hs:elsB b.gr z sa sb with
   | false=>rw [crtE_2 hv (.inr hs)] at h;cases h
   | true=>exact ⟨rfl,rfl,rfl⟩
theorem crtC_n {b:Bas} {a z sa sb:Int} {root:Nat→Int} (e:crtE b a z sa sb=0):crtC b a root z sa sb=crtN b a root z sa sb:=by unfold crtC;rw [e];rfl
theorem crt_1 {b:Bas} {a z sa sb:Int} {root:Nat→Int} (h:validB b=false):AV.tup [.int .i64 0,.int .i64 1]=crtV b a root z sa sb:=by
 unfold crtV crtC;rw [crtE_1 h];rfl
theorem crt_2 {b:Bas} {a z sa sb:Int} {root:Nat→Int} (h:validB b=true) (h':elemB b.gr a=false∨elsB b.gr z sa sb=false):AV.tup [.int .i64 0,.int .i64 2]=crtV b a root z sa sb:=by
 unfold crtV crtC;rw [crtE_2 h h'];rfl
theorem crt_3 {b:Bas} {a z sa sb:Int} {root:Nat→Int} (h:validB b=true) (h':elemB b.gr a=true∧elsB b.gr z sa sb=true):AV.tup [.int .i64 (crtN b a root z sa sb),.int .i64 0]=crtV b a root z sa sb:=by
 unfold crtV crtC;rw [crtE_3 h h'];rfl
theorem crtN_q {b:Bas} {a z sa sb:Int} {root:Nat→Int} (h:b.gr.Ok):0≤crtN b a root z sa sb∧crtN b a root z sa sb<b.gr.q:=num_by (by have:=h.q3;omega) 16
end Go.Sp
namespace Go.Sp
open Go Go.Am
def scaB (G:Grp) (x:Int):Bool:=decide (x≥0)&&decide (x<G.q)
def eqsB (b:Bas) (h a z sa sb r c:Int):Bool :=
 (b.gr.g^r.toNat%b.gr.p==h^c.toNat%b.gr.p*sa%b.gr.p)&&(a^r.toNat%b.gr.p==z^c.toNat%b.gr.p*sb%b.gr.p)
def verR (b:Bas) (h h1 h2 a:Int) (root:Nat→Int) (z sa sb r:Int):Bool :=
 keyB b h h1 h2&&msgB b.gr a&&elsB b.gr z sa sb&&scaB b.gr r&&(crtN b a root z sa sb != 0&&eqsB b h a z sa sb r (crtN b a root z sa sb))
theorem msg_el {G:Grp} {x:Int} (h:msgB G x=true):elemB G x=true:=by unfold msgB at h;simp only [Bool.and_eq_true] at h;exact h.2
theorem msg_bnd {G:Grp} (hG:G.Ok) {x:Int} (h:msgB G x=true):0≤x∧x<G.p:=by have:=elem_bnd hG (msg_el h);omega
theorem el_bnd {G:Grp} (hG:G.Ok) {x:Int} (h:elemB G x=true):0≤x∧x<G.p:=by have:=elem_bnd hG h;omega
theorem key_1 {b:Bas} {h0 k1 k2:Int} (h:keyB b h0 k1 k2=true):validB b=true∧msgB b.gr h0=true:=by
 unfold keyB at h;simp only [Bool.and_eq_true] at h;exact ⟨h.1.1.1,h.1.1.2⟩
theorem els_1 {G:Grp} {z sa sb:Int} (h:elsB G z sa sb=true):elemB G z=true∧elemB G sa=true∧elemB G sb=true:=by
 unfold elsB at h;simp only [Bool.and_eq_true] at h;exact ⟨h.1.1,h.1.2,h.2⟩
structure SigOk (b:Bas) (h0 a z sa sb r c:Int):Prop where
 ok:b.gr.Ok
 g:0≤b.gr.g∧b.gr.g<b.gr.p
 h:0≤h0∧h0<b.gr.p
 a:0≤a∧a<b.gr.p
 z:0≤z∧z<b.gr.p
 sa:0≤sa∧sa<b.gr.p
 sb:0≤sb∧sb<b.gr.p
 r:0≤r∧r<b.gr.q
 c:0≤c∧c<b.gr.q
theorem sig_ok {b:Bas} {h0 k1 k2 a z sa sb r:Int} (root:Nat→Int) (hk:keyB b h0 k1 k2=true) (hm:msgB b.gr a=true) (he:elsB b.gr z sa sb=true) (hr:0≤r∧r<b.gr.q):SigOk b h0 a z sa sb r (crtN b a root z sa sb):=by
 have G:=validB_ok (key_1 hk).1
 have h1:=G.g2
 exact ⟨G,⟨by omega,G.g1⟩,msg_bnd G (key_1 hk).2,msg_bnd G hm,el_bnd G (els_1 he).1,el_bnd G (els_1 he).2.1,el_bnd G (els_1 he).2.2,hr,crtN_q G⟩
theorem sig_okC {b:Bas} {h0 k1 k2 a z sa sb r:Int} (root:Nat→Int) (hk:keyB b h0 k1 k2=true) (hm:msgB b.gr a=true) (he:crtE b a z sa sb=0) (hr:0≤r∧r<b.gr.q):SigOk b h0 a z sa sb r (crtC b a root z sa sb):=by
 rw [crtC_n he]
 exact sig_ok root hk hm (crtE_0 he).2.2 hr
theorem ver_0 {b:Bas} {h0 k1 k2 a z sa sb r:Int} {root:Nat→Int} (h:keyB b h0 k1 k2=false∨msgB b.gr a=false∨elsB b.gr z sa sb=false∨scaB b.gr r=false):verR b h0 k1 k2 a root z sa sb r=false:=by
 unfold verR;rcases h with h|h|h|h<;>simp [h]
theorem ver_c {b:Bas} {h0 k1 k2 a z sa sb r:Int} {root:Nat→Int} (hk:keyB b h0 k1 k2=true) (hm:msgB b.gr a=true) (hc:crtE b a z sa sb≠0∨crtC b a root z sa sb=0):verR b h0 k1 k2 a root z sa sb r=false:=by
 cases he:elsB b.gr z sa sb with
 | false=>exact ver_0 (.inr (.inr (.inl he)))
 | true =>
  have e:=crtE_3 (key_1 hk).1 ⟨msg_el hm,he⟩
  rcases hc with h|h
  ·exact absurd e h
  ·rw [crtC_n e] at h
   unfold verR;simp [h]
theorem ver_e {b:Bas} {h0 k1 k2 a z sa sb r:Int} {root:Nat→Int} (hk:keyB b h0 k1 k2=true) (hm:msgB b.gr a=true) (hr:0≤r∧r<b.gr.q) (he:crtE b a z sa sb=0) (hc:crtC b a root z sa sb≠0) :
  verR b h0 k1 k2 a root z sa sb r=eqsB b h0 a z sa sb r (crtC b a root z sa sb):=by
 rw [crtC_n he] at hc ⊢
 unfold verR scaB
 simp [hk,hm,(crtE_0 he).2.2,hr.1,hr.2,hc]
theorem ver_r {b:Bas} {h0 k1 k2 a z sa sb r:Int} {root:Nat→Int} (hk:keyB b h0 k1 k2=true) (hm:msgB b.gr a=true) (he:elsB b.gr z sa sb=true) (hr:0≤r∧r<b.gr.q) :
  verR b h0 k1 k2 a root z sa sb r=(crtN b a root z sa sb != 0&&eqsB b h0 a z sa sb r (crtN b a root z sa sb)):=by
 unfold verR scaB
 simp [hk,hm,he,hr.1,hr.2]
theorem mod_bnd {G:Grp} (h:G.Ok) (x:Int):0≤x%G.p∧x%G.p<G.p:=by
 have h3:=h.p3
 exact ⟨Int.emod_nonneg _ (by omega),Int.emod_lt_of_pos _ (by omega)⟩
theorem sca_0 {G:Grp} {r:Int} (h:¬r≥0∨¬r<G.q):scaB G r=false:=by
 unfold scaB
 rcases h with h|h<;>simp<;>omega
end Go.Sp

namespace Go.Proofs.YtolcfdcoidpieaaGreatDoor
open Go Go.Am Go.Sp
set_option maxRecDepth 100000
theorem encU_c (L:List It) (n:Nat) (F:Nat→Nat→AV) (hn:n=L.length) (hF:∀ i k,i<n→k<4→Ent [] (F i k) (atL (L.getD i (.int 0)).cells k)) (h:(lsI L).okD 8=true) (hl:(lsI L).enc.length≤16384) :
  Pure Tryz.prog gl0 140 [.agg [.int .i64 3,.int .i64 0,.nsl,.isl 4 n F]] (.tup [il .u8 (lsI L).enc,.int .i64 0]):=(encode_c (lsI L) h hl).via ⟨liU_out hn hF,trivial⟩
theorem rencU_c (L:List It) (n:Nat) (F:Nat→Nat→AV) (hn:n=L.length) (hF:∀ i k,i<n→k<4→Ent [] (F i k) (atL (L.getD i (.int 0)).cells k)) (hl:(lsI L).enc.length≤16384) :
  Pure Tryz.prog gl0 157 [.agg [.int .i64 3,.int .i64 0,.nsl,.isl 4 n F]] (il .u8 (lsI L).enc):=(renc_c (lsI L) (by omega)).via ⟨liU_out hn hF,trivial⟩
theorem crt_c (b:Bas) (a:Int) (root:Nat→Int) (z sa sb r:Int) (hw:b.gr.W) (hr:byB root 32):Pure Tryz.prog gl0 209 [b.av,.int .i64 a,.agg (u8c root),.agg [.int .i64 z,.int .i64 sa,.int .i64 sb,.int .i64 r]] (crtV b a root z sa sb):=by
 have hE:=elemsR_c b a z sa sb hw
 have he:=fun n F hn hF=>encU_c (crtJ b a root z sa sb) n F hn hF (crtI_ok b a z sa sb root) (by rw [show (lsI (crtJ b a root z sa sb)).enc.length=132 from crtI_len b a z sa sb root];decide)
 have ht:=tagged_c "specie/coin".toUTF8 (by decide) (by decide) (fun k=>(crtI b a root z sa sb).enc.getD k 0) (crtI b a root z sa sb).enc.length (by rw [crtI_len];decide) (It.enc_by (crtI_okB hr))
 have hn:=fun h1 h2=>number_c (tagI "specie/coin".toUTF8 (crtI b a root z sa sb)) b.gr.q h1 h2 (tagI_by _ _ _)
 refine pure_sk (own:=ow0) Tryz.func209 (by kernel_rfl) mixed (by kernel_rfl)
  (.sc (true) 34 ([AV.agg (Bas.cells b)]) (AV.bool (validB b)) (.br (!validB b) (.out (AV.tup [Zi 0,Zi 1]) [] (crtV b a root z sa sb) []) (.sc (true) 252 ([AV.agg (Bas.cells b),AV.isl 1 4 fun (r k:Nat)=>atL (List.getD [[Zi a],[Zi z],[Zi sa],[Zi sb]] (r+0) []) k]) (AV.bool (elemB (Bas.gr b) a&&elsB (Bas.gr b) z sa sb)) (.br (!(elemB b.1 a&&elsB b.1 z sa sb)) (.out (AV.tup [Zi 0,Zi 2]) [] (crtV b a root z sa sb) []) (.loop ({ x:Nat // x≤7 }) (fun (x:{ x:Nat // x≤7 })=>mkSt [4,6,7,10,49,50,51] [AV.own 0 6 0 0 6,AV.own 1 32 0 0 32,AV.own 2 4 0 0 4,AV.own 3 4 0 0 4,AV.osl 4 1 0 7,Zi (↑(7):Int),Zi (↑(x.1):Int)] [some ⟨6,1,true,Rep.lst [Bas.cells b]⟩,some ⟨32,1,true,Rep.lst [u8c root]⟩,some ⟨4,1,true,Rep.lst [[Zi z,Zi sa,Zi sb,Zi r]]⟩,some ⟨4,1,true,Rep.lst [[Zi 3,Zi 0,AV.nsl,AV.osl 5 4 0 (x.1)]]⟩,some ⟨1,7,true,Rep.fn fun (i x:Nat)=>Zi (crtL b a i)⟩,some ⟨4,x.1,true,Rep.row fun (i:Nat)=>It.cells (It.int (crtL b a i))⟩]) (fun (x:{ x:Nat // x≤7 })=>7 - x.1) (⟨0,Nat.zero_le 7⟩) ([4,6,7,10,49,50,51]) ([0,8,16,176,320,1373]) ([AV.own 0 6 0 0 6,AV.own 1 32 0 0 32,AV.own 2 4 0 0 4,AV.own 3 4 0 0 4,AV.osl 4 1 0 7,Zi (↑(7):Int),Zi 0]) ([some ⟨6,1,true,Rep.lst [Bas.cells b]⟩,some ⟨32,1,true,Rep.lst [u8c root]⟩,some ⟨4,1,true,Rep.lst [[Zi z,Zi sa,Zi sb,Zi r]]⟩,some ⟨4,1,true,Rep.lst [[Zi 3,Zi 0,AV.nsl,AV.nsl]]⟩,some ⟨1,7,true,Rep.lst [[Zi (Grp.p (Bas.gr b))],[Zi (Grp.q (Bas.gr b))],[Zi (Grp.g (Bas.gr b))],[Zi (Bas.g1 b)],[Zi (Bas.g2 b)],[Zi (Bas.h b)],[Zi a]]⟩,some ⟨4,0,true,Rep.lst []⟩]) (fun x6=>(.br (decide ((↑x6.1:Int)<(↑(7):Int))) (.req ((0:Int)≤(↑x6.1:Int)∧(↑x6.1:Int)<(↑(7):Int)) (.dc (true) 253 ([Zi (crtL b a (Int.toNat (↑x6.1:Int)+0))]) (It.av (It.int (crtL b a (Int.toNat (↑x6.1:Int)+0)))) (.req ((x6.1+1)*64≤140737488355328) (.again (Again 0 (fun (x:{ x:Nat // x≤7 })=>mkSt [4,6,7,10,49,50,51] [AV.own 0 6 0 0 6,AV.own 1 32 0 0 32,AV.own 2 4 0 0 4,AV.own 3 4 0 0 4,AV.osl 4 1 0 7,Zi (↑(7):Int),Zi (↑(x.1):Int)] [some ⟨6,1,true,Rep.lst [Bas.cells b]⟩,some ⟨32,1,true,Rep.lst [u8c root]⟩,some ⟨4,1,true,Rep.lst [[Zi z,Zi sa,Zi sb,Zi r]]⟩,some ⟨4,1,true,Rep.lst [[Zi 3,Zi 0,AV.nsl,AV.osl 5 4 0 (x.1)]]⟩,some ⟨1,7,true,Rep.fn fun (i x:Nat)=>Zi (crtL b a i)⟩,some ⟨4,x.1,true,Rep.row fun (i:Nat)=>It.cells (It.int (crtL b a i))⟩]) (fun (x:{ x:Nat // x≤7 })=>7 - x.1) x6) ([4,6,7,10,49,50,51]) ([0,1,2,3,4,78]) ([AV.own 0 6 0 0 6,AV.own 1 32 0 0 32,AV.own 2 4 0 0 4,AV.own 3 4 0 0 4,AV.osl 4 1 0 7,Zi (↑(7):Int),Zi (IntKind.wrap IntKind.i64 ((↑x6.1:Int)+1))]) ([some ⟨6,1,true,Rep.lst [Bas.cells b]⟩,some ⟨32,1,true,Rep.lst [u8c root]⟩,some ⟨4,1,true,Rep.lst [[Zi z,Zi sa,Zi sb,Zi r]]⟩,some ⟨4,1,true,Rep.lst [[Zi 3,Zi 0,AV.nsl,AV.osl 5 4 0 (x6.1+1)]]⟩,some ⟨1,7,true,Rep.fn fun (i j:Nat)=>Zi (crtL b a i)⟩,some ⟨4,x6.1+1,true,Rep.cat x6.1 (Rep.row fun (i:Nat)=>[Zi (It.kind (It.int (crtL b a i))),Zi (It.num (It.int (crtL b a i))),AV.isl 1 0 fun (i_1 x:Nat)=>Zb (It.fb (It.int (crtL b a i)) i_1),AV.isl 4 0 (It.row (It.int (crtL b a i)))]) (Rep.lst [[Zi (It.kind (It.int (crtL b a (Int.toNat (↑x6.1:Int)+0)))),Zi (It.num (It.int (crtL b a (Int.toNat (↑x6.1:Int)+0)))),AV.isl 1 0 fun (i x:Nat)=>Zb (It.fb (It.int (crtL b a (Int.toNat (↑x6.1:Int)+0))) i),AV.isl 4 0 (It.row (It.int (crtL b a (Int.toNat (↑x6.1:Int)+0))))]])⟩]))))) (.dc (true) 253 ([Zi z]) (It.av (It.int z)) (.dc (true) 253 ([Zi sa]) (It.av (It.int sa)) (.dc (true) 253 ([Zi sb]) (It.av (It.int sb)) (.req ((x6.1+4)*64≤140737488355328) (.dc (true) 140 ([AV.agg [Zi 3,Zi 0,AV.nsl,AV.isl 4 (x6.1+4) fun (r k:Nat)=>mixA (Nat.blt (r+0) x6.1) (atL [Zi (It.kind (It.int (crtL b a (r+0)))),Zi (It.num (It.int (crtL b a (r+0)))),AV.isl 1 0 fun (i x:Nat)=>Zb (It.fb (It.int (crtL b a (r+0))) i),AV.isl 4 0 (It.row (It.int (crtL b a (r+0))))] k) (atL (List.getD [[Zi 2,Zi 0,AV.isl 1 32 fun (r x:Nat)=>Zb (intOfAV (atL (u8c root) (0+(0+r)))),AV.nsl],[Zi (It.kind (It.int z)),Zi (It.num (It.int z)),AV.isl 1 0 fun (i x:Nat)=>Zb (It.fb (It.int z) i),AV.isl 4 0 (It.row (It.int z))],[Zi (It.kind (It.int sa)),Zi (It.num (It.int sa)),AV.isl 1 0 fun (i x:Nat)=>Zb (It.fb (It.int sa) i),AV.isl 4 0 (It.row (It.int sa))],[Zi (It.kind (It.int sb)),Zi (It.num (It.int sb)),AV.isl 1 0 fun (i x:Nat)=>Zb (It.fb (It.int sb) i),AV.isl 4 0 (It.row (It.int sb))]] (r+0 - x6.1) []) k)]]) (AV.tup [il IntKind.u8 (It.enc (lsI (crtJ b a root z sa sb))),Zi 0]) (.ff (.sc (true) 144 ([AV.str { data := #[(115:UInt8),(112:UInt8),(101:UInt8),(99:UInt8),(105:UInt8),(101:UInt8),(47:UInt8),(99:UInt8),(111:UInt8),(105:UInt8),(110:UInt8)] },AV.isl 1 132 fun (i x:Nat)=>Zb (List.getD (It.enc (lsI (crtJ b a root z sa sb))) i (0:Int))]) (AV.tup [AV.agg (u8c (tagF (String.toUTF8 "specie/coin") (List.length (It.enc (crtI b a root z sa sb))) fun (k:Nat)=>List.getD (It.enc (crtI b a root z sa sb)) k (0:Int))),Zi 0]) (.ff (.sc (true) 145 ([AV.agg (u8c (tagF (String.toUTF8 "specie/coin") 132 fun (k:Nat)=>List.getD (It.enc (crtI b a root z sa sb)) k (0:Int))),Zi (Bas.gr b).2]) (AV.tup [Zi (numF (tagI (String.toUTF8 "specie/coin") (crtI b a root z sa sb)) (Grp.q (Bas.gr b)) 16),Zi 0]) (.out (AV.tup [Zi (numF (tagI (String.toUTF8 "specie/coin") (crtI b a root z sa sb)) (Bas.gr b).2 16),Zi 0]) [] (crtV b a root z sa sb) [])))))))))))))))))
  (by kernel_rfl) ?_
 refine k_sc ((bvalid_c b) (by assumption)) ?_
 refine k_br (fun h1 => ?_) (fun h1 => ?_)
 ·have g1:=(cnd_not_t cnd_id_f) h1
  exact k_out (by exact Ent.of_eq (crt_1 g1))
 ·have g1:=(cnd_not_f cnd_id_t) h1
  refine k_sc (hE) ?_
  refine k_br (fun h4 => ?_) (fun h4 => ?_)
  ·have g4:=(cnd_not_t (cnd_and_f cnd_id_f cnd_id_f)) h4
   exact k_out (by exact Ent.of_eq (crt_2 g1 g4))
  ·have g4:=(cnd_not_f (cnd_and_t cnd_id_t cnd_id_t)) h4
   refine k_loop (fun _ hs=>hs.le (⟨.refl _,.refl _,.refl _,.refl _,.refl _,.refl _,.refl _,trivial⟩) (⟨.refl _,.refl _,.refl _,by exact ObEnt.row (by repeat' (first|exact trivial|(first|exact Ent.refl _|exact inc_ent (by omega)|exact Ent.nil rfl|exact Ent.of_eq (congrArg (AV.osl _ _ _) (by first|omega|(dsimp only;omega)))|exact Ent.of_eq (congrArg (AV.int _) (by first|omega|(dsimp only;omega))))|refine And.intro ?_ ?_)),crtL_ob,.zero,trivial⟩)) (fun x6 => ?_)
   try (have q6:=x6.2;dsimp only at q6)
   refine k_br (fun h7 => ?_) (fun h7 => ?_)
   ·have g7:=cnd_dec_t h7
    refine k_req (by omega) ?_
    refine k_dc (numI_c (crtL b a (Int.toNat (↑x6.1:Int)+0))) ?_
    refine k_req (by omega) ?_
    exact k_again (⟨x6.1+1,by omega⟩) (fun _ hs=>hs.le (⟨.refl _,.refl _,.refl _,.refl _,.refl _,.refl _,inc_ent (by omega),trivial⟩) (⟨.refl _,.refl _,.refl _,.refl _,.refl _,.pushRow rfl,trivial⟩)) (by dsimp only;omega)
   ·have g7:=cnd_dec_f h7
    refine k_dc (numI_c (z)) ?_
    refine k_dc (numI_c (sa)) ?_
    refine k_dc (numI_c (sb)) ?_
    refine k_req (by omega) ?_
    refine k_dc (he (x6.1+4) (fun (r k:Nat)=>mixA (Nat.blt (r+0) x6.1) (atL [Zi (It.kind (It.int (crtL b a (r+0)))),Zi (It.num (It.int (crtL b a (r+0)))),AV.isl (1) (0) fun (i x:Nat)=>Zb (It.fb (It.int (crtL b a (r+0))) i),AV.isl (4) (0) (It.row (It.int (crtL b a (r+0))))] k) (atL (List.getD [[Zi 2,Zi 0,AV.isl (1) (32) fun (r x:Nat)=>Zb (intOfAV (atL (u8c root) (0+(0+r)))),AV.nsl],[Zi (It.kind (It.int z)),Zi (It.num (It.int z)),AV.isl (1) (0) fun (i x:Nat)=>Zb (It.fb (It.int z) i),AV.isl (4) (0) (It.row (It.int z))],[Zi (It.kind (It.int sa)),Zi (It.num (It.int sa)),AV.isl (1) (0) fun (i x:Nat)=>Zb (It.fb (It.int sa) i),AV.isl (4) (0) (It.row (It.int sa))],[Zi (It.kind (It.int sb)),Zi (It.num (It.int sb)),AV.isl (1) (0) fun (i x:Nat)=>Zb (It.fb (It.int sb) i),AV.isl (4) (0) (It.row (It.int sb))]] (r+0 - x6.1) []) k)) (by (show _=11;omega)) (by exact fun i k hi _=>crtF_ok (by omega) hi)) ?_
    refine k_ff ?_
    refine k_sc (ht) ?_
    refine k_ff ?_
    refine k_sc (hn (by exact (validB_q g1).1) (by exact (validB_q g1).2)) ?_
    exact k_out (by exact Ent.of_eq (crt_3 g1 g4))
theorem rcrt_c (b:Bas) (a:Int) (root:Nat→Int) (z sa sb r:Int) (hr:byB root 32) (hq:0<b.gr.q) (hq':b.gr.q<2305843009213693952):Pure Tryz.prog gl0 190 [b.av,.int .i64 a,.agg (u8c root),.agg [.int .i64 z,.int .i64 sa,.int .i64 sb,.int .i64 r]] (.int .i64 (crtN b a root z sa sb)):=by
 have he:=fun n F hn hF=>rencU_c (crtJ b a root z sa sb) n F hn hF (by rw [show (lsI (crtJ b a root z sa sb)).enc.length=132 from crtI_len b a z sa sb root];decide)
 have ht:=rtagged_c "specie/coin".toUTF8 (by decide) (fun k=>(crtI b a root z sa sb).enc.getD k 0) (crtI b a root z sa sb).enc.length (by rw [crtI_len];decide) (It.enc_by (crtI_okB hr))
 have hn:=rnumber_c (tagI "specie/coin".toUTF8 (crtI b a root z sa sb)) b.gr.q hq hq' (tagI_by _ _ _)
 refine pure_sk (own:=ow0) Tryz.func190 (by kernel_rfl) mixed (by kernel_rfl)
  (.dc (true) 237 ([AV.agg (Bas.cells b)]) (AV.isl 1 6 fun (i x:Nat)=>Zi (crtL b (0:Int) i)) (.loop ({ x:Nat // x≤6 }) (fun (x:{ x:Nat // x≤6 })=>mkSt [1,4,6,7,9,10,11] [Zi a,AV.own 0 6 0 0 6,AV.own 1 32 0 0 32,AV.own 2 4 0 0 4,AV.isl 1 6 fun (i x:Nat)=>Zi (crtL b (0:Int) i),AV.own 3 4 0 0 4,Zi (↑(x.1):Int)] [some ⟨6,1,true,Rep.lst [Bas.cells b]⟩,some ⟨32,1,true,Rep.lst [u8c root]⟩,some ⟨4,1,true,Rep.lst [[Zi z,Zi sa,Zi sb,Zi r]]⟩,some ⟨4,1,true,Rep.lst [[Zi 3,Zi 0,AV.nsl,AV.osl 4 4 0 (x.1)]]⟩,some ⟨4,x.1,true,Rep.row fun (i:Nat)=>It.cells (It.int (crtL b (0:Int) i))⟩]) (fun (x:{ x:Nat // x≤6 })=>6 - x.1) (⟨0,Nat.zero_le 6⟩) ([1,4,6,7,9,10,11]) ([0,8,16,64,1116]) ([Zi a,AV.own 0 6 0 0 6,AV.own 1 32 0 0 32,AV.own 2 4 0 0 4,AV.isl 1 6 fun (i x:Nat)=>Zi (crtL b (0:Int) i),AV.own 3 4 0 0 4,Zi 0]) ([some ⟨6,1,true,Rep.lst [Bas.cells b]⟩,some ⟨32,1,true,Rep.lst [u8c root]⟩,some ⟨4,1,true,Rep.lst [[Zi z,Zi sa,Zi sb,Zi r]]⟩,some ⟨4,1,true,Rep.lst [[Zi 3,Zi 0,AV.nsl,AV.nsl]]⟩,some ⟨4,0,true,Rep.lst []⟩]) (fun x1=>(.br (decide ((↑x1.1:Int)<(↑(6):Int))) (.req ((0:Int)≤(↑x1.1:Int)∧(↑x1.1:Int)<(↑(6):Int)) (.dc (true) 238 ([Zi (crtL b (0:Int) (Int.toNat (↑x1.1:Int)))]) (It.av (It.int (crtL b (0:Int) (Int.toNat (↑x1.1:Int))))) (.req ((x1.1+1)*64≤140737488355328) (.again (Again 0 (fun (x:{ x:Nat // x≤6 })=>mkSt [1,4,6,7,9,10,11] [Zi a,AV.own 0 6 0 0 6,AV.own 1 32 0 0 32,AV.own 2 4 0 0 4,AV.isl 1 6 fun (i x:Nat)=>Zi (crtL b (0:Int) i),AV.own 3 4 0 0 4,Zi (↑(x.1):Int)] [some ⟨6,1,true,Rep.lst [Bas.cells b]⟩,some ⟨32,1,true,Rep.lst [u8c root]⟩,some ⟨4,1,true,Rep.lst [[Zi z,Zi sa,Zi sb,Zi r]]⟩,some ⟨4,1,true,Rep.lst [[Zi 3,Zi 0,AV.nsl,AV.osl 4 4 0 (x.1)]]⟩,some ⟨4,x.1,true,Rep.row fun (i:Nat)=>It.cells (It.int (crtL b (0:Int) i))⟩]) (fun (x:{ x:Nat // x≤6 })=>6 - x.1) x1) ([1,4,6,7,9,10,11]) ([0,1,2,3,101]) ([Zi a,AV.own 0 6 0 0 6,AV.own 1 32 0 0 32,AV.own 2 4 0 0 4,AV.isl 1 6 fun (i x:Nat)=>Zi (crtL b (0:Int) i),AV.own 3 4 0 0 4,Zi (IntKind.wrap IntKind.i64 ((↑x1.1:Int)+1))]) ([some ⟨6,1,true,Rep.lst [Bas.cells b]⟩,some ⟨32,1,true,Rep.lst [u8c root]⟩,some ⟨4,1,true,Rep.lst [[Zi z,Zi sa,Zi sb,Zi r]]⟩,some ⟨4,1,true,Rep.lst [[Zi 3,Zi 0,AV.nsl,AV.osl 4 4 0 (x1.1+1)]]⟩,some ⟨4,x1.1+1,true,Rep.cat x1.1 (Rep.row fun (i:Nat)=>[Zi (It.kind (It.int (crtL b (0:Int) i))),Zi (It.num (It.int (crtL b (0:Int) i))),AV.isl 1 0 fun (i_1 x:Nat)=>Zb (It.fb (It.int (crtL b (0:Int) i)) i_1),AV.isl 4 0 (It.row (It.int (crtL b (0:Int) i)))]) (Rep.lst [[Zi (It.kind (It.int (crtL b (0:Int) (Int.toNat (↑x1.1:Int))))),Zi (It.num (It.int (crtL b (0:Int) (Int.toNat (↑x1.1:Int))))),AV.isl 1 0 fun (i x:Nat)=>Zb (It.fb (It.int (crtL b (0:Int) (Int.toNat (↑x1.1:Int)))) i),AV.isl 4 0 (It.row (It.int (crtL b (0:Int) (Int.toNat (↑x1.1:Int)))))]])⟩]))))) (.loop ({ x:Nat // x≤32 }) (fun (x:{ x:Nat // x≤32 })=>mkSt [1,4,6,7,10,12,13] [Zi a,AV.own 0 6 0 0 6,AV.own 1 32 0 0 32,AV.own 2 4 0 0 4,AV.own 3 4 0 0 4,AV.own 4 4 0 0 4,Zi (↑(x.1):Int)] [some ⟨6,1,true,Rep.lst [Bas.cells b]⟩,some ⟨32,1,true,Rep.lst [u8c root]⟩,some ⟨4,1,true,Rep.lst [[Zi z,Zi sa,Zi sb,Zi r]]⟩,some ⟨4,1,true,Rep.lst [[Zi 3,Zi 0,AV.nsl,AV.osl 5 4 0 x1.1]]⟩,some ⟨4,1,true,Rep.lst [[Zi 2,Zi 0,AV.osl 6 1 0 (x.1),AV.nsl]]⟩,some ⟨4,x1.1,true,Rep.row fun (i:Nat)=>[Zi (It.kind (It.int (crtL b (0:Int) i))),Zi (It.num (It.int (crtL b (0:Int) i))),AV.isl 1 0 fun (i_1 x:Nat)=>Zb (It.fb (It.int (crtL b (0:Int) i)) i_1),AV.isl 4 0 (It.row (It.int (crtL b (0:Int) i)))]⟩,some ⟨1,x.1,true,Rep.fn fun (i x:Nat)=>Zb (root i)⟩]) (fun (x:{ x:Nat // x≤32 })=>32 - x.1) (⟨0,Nat.zero_le 32⟩) ([1,4,6,7,10,12,13]) ([0,1,2,3,45,4,331]) ([Zi a,AV.own 0 6 0 0 6,AV.own 1 32 0 0 32,AV.own 2 4 0 0 4,AV.own 3 4 0 0 4,AV.own 4 4 0 0 4,Zi 0]) ([some ⟨6,1,true,Rep.lst [Bas.cells b]⟩,some ⟨32,1,true,Rep.lst [u8c root]⟩,some ⟨4,1,true,Rep.lst [[Zi z,Zi sa,Zi sb,Zi r]]⟩,some ⟨4,1,true,Rep.lst [[Zi 3,Zi 0,AV.nsl,AV.osl 5 4 0 x1.1]]⟩,some ⟨4,1,true,Rep.lst [[Zi 2,Zi 0,AV.nsl,AV.nsl]]⟩,some ⟨4,x1.1,true,Rep.row fun (i:Nat)=>[Zi (It.kind (It.int (crtL b (0:Int) i))),Zi (It.num (It.int (crtL b (0:Int) i))),AV.isl 1 0 fun (i_1 x:Nat)=>Zb (It.fb (It.int (crtL b (0:Int) i)) i_1),AV.isl 4 0 (It.row (It.int (crtL b (0:Int) i)))]⟩,some ⟨1,0,true,Rep.lst []⟩]) (fun x7=>(.br (decide ((↑x7.1:Int)<32)) (.req ((0:Int)≤(↑x7.1:Int)∧(↑x7.1:Int)<(↑(32):Int)) (.req ((x7.1+1)*1≤140737488355328) (.again (Again 0 (fun (x:{ x:Nat // x≤32 })=>mkSt [1,4,6,7,10,12,13] [Zi a,AV.own 0 6 0 0 6,AV.own 1 32 0 0 32,AV.own 2 4 0 0 4,AV.own 3 4 0 0 4,AV.own 4 4 0 0 4,Zi (↑(x.1):Int)] [some ⟨6,1,true,Rep.lst [Bas.cells b]⟩,some ⟨32,1,true,Rep.lst [u8c root]⟩,some ⟨4,1,true,Rep.lst [[Zi z,Zi sa,Zi sb,Zi r]]⟩,some ⟨4,1,true,Rep.lst [[Zi 3,Zi 0,AV.nsl,AV.osl 5 4 0 x1.1]]⟩,some ⟨4,1,true,Rep.lst [[Zi 2,Zi 0,AV.osl 6 1 0 (x.1),AV.nsl]]⟩,some ⟨4,x1.1,true,Rep.row fun (i:Nat)=>[Zi (It.kind (It.int (crtL b (0:Int) i))),Zi (It.num (It.int (crtL b (0:Int) i))),AV.isl 1 0 fun (i_1 x:Nat)=>Zb (It.fb (It.int (crtL b (0:Int) i)) i_1),AV.isl 4 0 (It.row (It.int (crtL b (0:Int) i)))]⟩,some ⟨1,x.1,true,Rep.fn fun (i x:Nat)=>Zb (root i)⟩]) (fun (x:{ x:Nat // x≤32 })=>32 - x.1) x7) ([1,4,6,7,10,12,13]) ([0,1,2,3,4,5,71]) ([Zi a,AV.own 0 6 0 0 6,AV.own 1 32 0 0 32,AV.own 2 4 0 0 4,AV.own 3 4 0 0 4,AV.own 4 4 0 0 4,Zi (IntKind.wrap IntKind.i64 ((↑x7.1:Int)+1))]) ([some ⟨6,1,true,Rep.lst [Bas.cells b]⟩,some ⟨32,1,true,Rep.lst [u8c root]⟩,some ⟨4,1,true,Rep.lst [[Zi z,Zi sa,Zi sb,Zi r]]⟩,some ⟨4,1,true,Rep.lst [[Zi 3,Zi 0,AV.nsl,AV.osl 5 4 0 x1.1]]⟩,some ⟨4,1,true,Rep.lst [[Zi 2,Zi 0,AV.osl 6 1 0 (x7.1+1),AV.nsl]]⟩,some ⟨4,x1.1,true,Rep.row fun (i:Nat)=>[Zi (It.kind (It.int (crtL b (0:Int) i))),Zi (It.num (It.int (crtL b (0:Int) i))),AV.isl 1 0 fun (i_1 x:Nat)=>Zb (It.fb (It.int (crtL b (0:Int) i)) i_1),AV.isl 4 0 (It.row (It.int (crtL b (0:Int) i)))]⟩,some ⟨1,x7.1+1,true,Rep.fn fun (i j:Nat)=>Zb (bif Nat.blt i x7.1 then root i else intOfAV (atL [Zb (intOfAV (Rep.at (Ob.f (Ob.seen ⟨32,1,true,Rep.lst [u8c root]⟩)) 0 (0+Int.toNat (↑(x7.1):Int))))] j))⟩])))) (.dc (true) 238 ([Zi a]) (It.av (It.int a)) (.dc (true) 238 ([Zi z]) (It.av (It.int z)) (.dc (true) 238 ([Zi sa]) (It.av (It.int sa)) (.dc (true) 238 ([Zi sb]) (It.av (It.int sb)) (.req ((x1.1+5)*64≤140737488355328) (.dc (true) 157 ([AV.agg [Zi 3,Zi 0,AV.nsl,AV.isl 4 (x1.1+5) fun (r k:Nat)=>mixA (Nat.blt (r+0) x1.1) (atL [Zi (It.kind (It.int (crtL b (0:Int) (r+0)))),Zi (It.num (It.int (crtL b (0:Int) (r+0)))),AV.isl 1 0 fun (i x:Nat)=>Zb (It.fb (It.int (crtL b (0:Int) (r+0))) i),AV.isl 4 0 (It.row (It.int (crtL b (0:Int) (r+0))))] k) (atL (List.getD [[Zi (It.kind (It.int a)),Zi (It.num (It.int a)),AV.isl 1 0 fun (i x:Nat)=>Zb (It.fb (It.int a) i),AV.isl 4 0 (It.row (It.int a))],[Zi 2,Zi 0,AV.isl 1 x7.1 fun (r k:Nat)=>Zb (root (r+0)),AV.nsl],[Zi (It.kind (It.int z)),Zi (It.num (It.int z)),AV.isl 1 0 fun (i x:Nat)=>Zb (It.fb (It.int z) i),AV.isl 4 0 (It.row (It.int z))],[Zi (It.kind (It.int sa)),Zi (It.num (It.int sa)),AV.isl 1 0 fun (i x:Nat)=>Zb (It.fb (It.int sa) i),AV.isl 4 0 (It.row (It.int sa))],[Zi (It.kind (It.int sb)),Zi (It.num (It.int sb)),AV.isl 1 0 fun (i x:Nat)=>Zb (It.fb (It.int sb) i),AV.isl 4 0 (It.row (It.int sb))]] (r+0 - x1.1) []) k)]]) (il IntKind.u8 (It.enc (lsI (crtJ b a root z sa sb)))) (.sc (true) 156 ([AV.str { data := #[(115:UInt8),(112:UInt8),(101:UInt8),(99:UInt8),(105:UInt8),(101:UInt8),(47:UInt8),(99:UInt8),(111:UInt8),(105:UInt8),(110:UInt8)] },AV.isl 1 132 fun (i x:Nat)=>Zb (List.getD (It.enc (lsI (crtJ b a root z sa sb))) i (0:Int))]) (AV.agg (u8c (tagF (String.toUTF8 "specie/coin") (List.length (It.enc (crtI b a root z sa sb))) fun (k:Nat)=>List.getD (It.enc (crtI b a root z sa sb)) k (0:Int)))) (.sc (true) 155 ([AV.agg (u8c (tagF (String.toUTF8 "specie/coin") 132 fun (k:Nat)=>List.getD (It.enc (crtI b a root z sa sb)) k (0:Int))),Zi (Bas.gr b).2]) (Zi (numF (tagI (String.toUTF8 "specie/coin") (crtI b a root z sa sb)) (Grp.q (Bas.gr b)) 16)) (.out (Zi (numF (tagI (String.toUTF8 "specie/coin") (crtI b a root z sa sb)) (Bas.gr b).2 16)) [] (Zi (crtN b a root z sa sb)) []))))))))))))))))
  (by kernel_rfl) ?_
 refine k_dc ((rNumbers_c b)) ?_
 refine k_loop (fun _ hs=>hs.le (⟨.refl _,.refl _,.refl _,.refl _,.refl _,.refl _,.refl _,trivial⟩) (by repeat' (first|exact trivial|(first|exact ObEnt.refl _|exact ObEnt.junk|exact ObEnt.zero|exact ObEnt.push rfl rfl|exact ObEnt.pushRow rfl|exact ObEnt.len (by omega)|exact ObEnt.row (by repeat' (first|exact trivial|(first|exact Ent.refl _|exact inc_ent (by omega)|exact Ent.nil rfl|exact Ent.of_eq (congrArg (AV.osl _ _ _) (by first|omega|(dsimp only;omega)))|exact Ent.of_eq (congrArg (AV.int _) (by first|omega|(dsimp only;omega))))|refine And.intro ?_ ?_)))|refine And.intro ?_ ?_))) (fun x1 => ?_)
 try (have q1:=x1.2;dsimp only at q1)
 refine k_br (fun h2 => ?_) (fun h2 => ?_)
 ·have g2:=cnd_dec_t h2
  refine k_req (by omega) ?_
  refine k_dc (rnumI_c (crtL b (0:Int) (Int.toNat (↑x1.1:Int)))) ?_
  refine k_req (by omega) ?_
  exact k_again (⟨x1.1+1,by omega⟩) (fun _ hs=>hs.le (⟨.refl _,.refl _,.refl _,.refl _,.refl _,.refl _,inc_ent (by omega),trivial⟩) (⟨.refl _,.refl _,.refl _,.refl _,.pushRow rfl,trivial⟩)) (by dsimp only;omega)
 ·have g2:=cnd_dec_f h2
  refine k_loop (fun _ hs=>hs.le (⟨.refl _,.refl _,.refl _,.refl _,.refl _,.refl _,.refl _,trivial⟩) (by repeat' (first|exact trivial|(first|exact ObEnt.refl _|exact ObEnt.junk|exact ObEnt.zero|exact ObEnt.push rfl rfl|exact ObEnt.pushRow rfl|exact ObEnt.len (by omega)|exact ObEnt.row (by repeat' (first|exact trivial|(first|exact Ent.refl _|exact inc_ent (by omega)|exact Ent.nil rfl|exact Ent.of_eq (congrArg (AV.osl _ _ _) (by first|omega|(dsimp only;omega)))|exact Ent.of_eq (congrArg (AV.int _) (by first|omega|(dsimp only;omega))))|refine And.intro ?_ ?_)))|refine And.intro ?_ ?_))) (fun x7 => ?_)
  try (have q7:=x7.2;dsimp only at q7)
  refine k_br (fun h8 => ?_) (fun h8 => ?_)
  ·have g8:=cnd_dec_t h8
   refine k_req (by omega) ?_
   refine k_req (by omega) ?_
   exact k_again (⟨x7.1+1,by omega⟩) (fun _ hs=>hs.le (⟨.refl _,.refl _,.refl _,.refl _,.refl _,.refl _,inc_ent (by omega),trivial⟩) (⟨.refl _,.refl _,.refl _,.refl _,.refl _,.refl _,root_push rfl (rootc_at (by omega)),trivial⟩)) (by dsimp only;omega)
  ·have g8:=cnd_dec_f h8
   refine k_dc (rnumI_c (a)) ?_
   refine k_dc (rnumI_c (z)) ?_
   refine k_dc (rnumI_c (sa)) ?_
   refine k_dc (rnumI_c (sb)) ?_
   refine k_req (by omega) ?_
   refine k_dc (he (x1.1+5) (fun (r k:Nat)=>mixA (Nat.blt (r+0) x1.1) (atL [Zi (It.kind (It.int (crtL b (0:Int) (r+0)))),Zi (It.num (It.int (crtL b (0:Int) (r+0)))),AV.isl (1) (0) fun (i x:Nat)=>Zb (It.fb (It.int (crtL b (0:Int) (r+0))) i),AV.isl (4) (0) (It.row (It.int (crtL b (0:Int) (r+0))))] k) (atL (List.getD [[Zi (It.kind (It.int a)),Zi (It.num (It.int a)),AV.isl (1) (0) fun (i x:Nat)=>Zb (It.fb (It.int a) i),AV.isl (4) (0) (It.row (It.int a))],[Zi 2,Zi 0,AV.isl (1) x7.1 fun (r k:Nat)=>Zb (root (r+0)),AV.nsl],[Zi (It.kind (It.int z)),Zi (It.num (It.int z)),AV.isl (1) (0) fun (i x:Nat)=>Zb (It.fb (It.int z) i),AV.isl (4) (0) (It.row (It.int z))],[Zi (It.kind (It.int sa)),Zi (It.num (It.int sa)),AV.isl (1) (0) fun (i x:Nat)=>Zb (It.fb (It.int sa) i),AV.isl (4) (0) (It.row (It.int sa))],[Zi (It.kind (It.int sb)),Zi (It.num (It.int sb)),AV.isl (1) (0) fun (i x:Nat)=>Zb (It.fb (It.int sb) i),AV.isl (4) (0) (It.row (It.int sb))]] (r+0 - x1.1) []) k)) (by (show _=11;omega)) (by exact fun i k hi _=>rcrtF_ok (by omega) (by omega) hi)) ?_
   refine k_sc (ht) ?_
   refine k_sc (hn) ?_
   exact k_out (Ent.of_eq rfl)
theorem verR_c (b:Bas) (k0 k1 k2 a:Int) (root:Nat→Int) (z sa sb r:Int) (hw:b.gr.W) (hr:byB root 32) :
  Pure Tryz.prog gl0 139 [b.av,.agg [.int .i64 k0,.int .i64 k1,.int .i64 k2],.int .i64 a,.agg (u8c root),.agg [.int .i64 z,.int .i64 sa,.int .i64 sb,.int .i64 r]] (.bool (verR b k0 k1 k2 a root z sa sb r)):=by
 have hv:=validR_c b k0 k1 k2 hw
 have hm:=messageR_c b a hw
 have hs:=scalR_c b r
 have hc:=crt_c b a root z sa sb r hw hr
 have K:(keyB b k0 k1 k2=true∧msgB b.gr a=true)∧0≤r∧r<b.gr.q→crtE b a z sa sb=0∧¬crtC b a root z sa sb=0→SigOk b k0 a z sa sb r (crtC b a root z sa sb):=fun u v=>sig_okC root u.1.1 u.1.2 v.1 u.2
 refine pure_sk (own:=ow0) Tryz.func139 (by kernel_rfl) mixed (by kernel_rfl)
  (let y0:AV:=(AV.bool (verR b k0 k1 k2 a root z sa sb r));(.sc (true) 206 ([AV.agg (Bas.cells b),AV.agg [Zi k0,Zi k1,Zi k2]]) (AV.bool (keyB b k0 k1 k2)) (.sc ((!keyB b k0 k1 k2)==false) 207 ([AV.agg (Bas.cells b),Zi a]) (AV.bool (msgB (Bas.gr b) a)) (.sc ((!keyB b k0 k1 k2 || !msgB b.1 a)==false) 208 ([AV.agg (Bas.cells b),Zi r]) (AV.bool (decide (r≥0)&&decide (r<Grp.q (Bas.gr b)))) (.br (!keyB b k0 k1 k2 || !msgB b.1 a || !(decide (r≥0)&&decide (r<(Bas.gr b).2))) (.out (AV.bool false) [] y0 []) (.sc (true) 209 ([AV.agg (Bas.cells b),Zi a,AV.agg (u8c root),AV.agg [Zi z,Zi sa,Zi sb,Zi r]]) (crtV b a root z sa sb) (.br (crtE b a z sa sb != 0||crtC b a root z sa sb==0) (.out (AV.bool false) [] y0 []) (.sc (true) 210 ([AV.agg (Bas.cells b),Zi (Bas.gr b).3,Zi r]) (Zi ((Bas.gr b).3^Int.toNat r%Grp.p (Bas.gr b))) (.sc (true) 211 ([AV.agg (Bas.cells b),Zi k0,Zi (crtC b a root z sa sb),Zi sa,Zi 1]) (Zi (k0^Int.toNat (crtC b a root z sa sb)%Grp.p (Bas.gr b)*sa%Grp.p (Bas.gr b))) (.sc (((Bas.gr b).3^Int.toNat r%(Bas.gr b).1==k0^Int.toNat (crtC b a root z sa sb)%(Bas.gr b).1*sa%(Bas.gr b).1)==true) 210 ([AV.agg (Bas.cells b),Zi a,Zi r]) (Zi (a^Int.toNat r%Grp.p (Bas.gr b))) (.sc (((Bas.gr b).3^Int.toNat r%(Bas.gr b).1==k0^Int.toNat (crtC b a root z sa sb)%(Bas.gr b).1*sa%(Bas.gr b).1)==true) 211 ([AV.agg (Bas.cells b),Zi z,Zi (crtC b a root z sa sb),Zi sb,Zi 1]) (Zi (z^Int.toNat (crtC b a root z sa sb)%Grp.p (Bas.gr b)*sb%Grp.p (Bas.gr b))) (.out (AV.bool ((Bas.gr b).3^Int.toNat r%(Bas.gr b).1==k0^Int.toNat (crtC b a root z sa sb)%(Bas.gr b).1*sa%(Bas.gr b).1&&a^Int.toNat r%(Bas.gr b).1==z^Int.toNat (crtC b a root z sa sb)%(Bas.gr b).1*sb%(Bas.gr b).1)) [] y0 []))))))))))))
  (by kernel_rfl) ?_
 refine k_sc (hv) ?_
 refine k_scg (fun h1=>hm) ?_
 refine k_scg (fun h2=>hs) ?_
 refine k_br (fun h3 => ?_) (fun h3 => ?_)
 ·have g3:=(cnd_or_t (cnd_or_t (cnd_not_t cnd_id_f) (cnd_not_t cnd_id_f)) (cnd_not_t (cnd_and_f cnd_dec_f cnd_dec_f))) h3
  exact k_out (Ent.of_eq (congrArg _ (by rcases g3 with (h|h)|h;(· exact (ver_0 (.inl h)).symm);(· exact (ver_0 (.inr (.inl h))).symm);(· exact (ver_0 (.inr (.inr (.inr (sca_0 h))))).symm))))
 ·have g3:=(cnd_or_f (cnd_or_f (cnd_not_f cnd_id_t) (cnd_not_f cnd_id_t)) (cnd_not_f (cnd_and_t cnd_dec_t cnd_dec_t))) h3
  refine k_sc (hc) ?_
  refine k_br (fun h6 => ?_) (fun h6 => ?_)
  ·have g6:=(cnd_or_t cnd_bne_t cnd_beq_t) h6
   exact k_out (Ent.of_eq (congrArg _ (ver_c g3.1.1 g3.1.2 g6).symm))
  ·have g6:=(cnd_or_f cnd_bne_f cnd_beq_f) h6
   refine k_sc ((powR_c b) ((Bas.gr b).3) (r) (by cases K g3 g6;assumption) (by cases K g3 g6;assumption) (by cases K g3 g6;assumption)) ?_
   refine k_sc ((prodR_c b) (k0) (crtC b a root z sa sb) (sa) (by cases K g3 g6;assumption) (by cases K g3 g6;assumption) (by cases K g3 g6;assumption) (by cases K g3 g6;assumption)) ?_
   refine k_scg (fun h10=>(powR_c b) (a) (r) (by cases K g3 g6;assumption) (by cases K g3 g6;assumption) (by cases K g3 g6;assumption)) ?_
   refine k_scg (fun h11=>(prodR_c b) (z) (crtC b a root z sa sb) (sb) (by cases K g3 g6;assumption) (by cases K g3 g6;assumption) (by cases K g3 g6;assumption) (by cases K g3 g6;assumption)) ?_
   exact k_out (Ent.of_eq (congrArg _ (ver_e g3.1.1 g3.1.2 g3.2 g6.1 g6.2).symm))
theorem rverR_c (b:Bas) (k0 k1 k2 a:Int) (root:Nat→Int) (z sa sb r:Int) (hw:b.gr.W) (hr:byB root 32) :
  Pure Tryz.prog gl0 118 [b.av,.agg [.int .i64 k0,.int .i64 k1,.int .i64 k2],.int .i64 a,.agg (u8c root),.agg [.int .i64 z,.int .i64 sa,.int .i64 sb,.int .i64 r]] (.bool (verR b k0 k1 k2 a root z sa sb r)):=by
 have hv:=rkey_c b k0 k1 k2 hw
 have hm:=rmsg_c b.gr a
 have he:=relems_c b.gr z sa sb r
 have hs:=rscalR_c b.gr r
 have hc:=rcrt_c b a root z sa sb r hr
 have K:((keyB b k0 k1 k2=true∧msgB b.gr a=true)∧elsB b.gr z sa sb=true)∧0≤r∧r<b.gr.q→SigOk b k0 a z sa sb r (crtN b a root z sa sb):=fun u=>sig_ok root u.1.1.1 u.1.1.2 u.1.2 u.2
 refine pure_sk (own:=ow0) Tryz.func118 (by kernel_rfl) mixed (by kernel_rfl)
  (let y0:List AV:=[Zi (Bas.gr b).1,Zi (Bas.gr b).2,Zi (Bas.gr b).3];let y1:AV:=(AV.bool (verR b k0 k1 k2 a root z sa sb r));(.sc (true) 183 ([AV.agg (Bas.cells b),AV.agg [Zi k0,Zi k1,Zi k2]]) (AV.bool (keyB b k0 k1 k2)) (.sc ((!keyB b k0 k1 k2)==false) 187 ([AV.agg y0,Zi a]) (AV.bool (msgB (Bas.gr b) a)) (.sc ((!keyB b k0 k1 k2 || !msgB b.1 a)==false) 188 ([AV.agg y0,AV.agg [Zi z,Zi sa,Zi sb,Zi r]]) (AV.bool (elsB (Bas.gr b) z sa sb)) (.sc ((!keyB b k0 k1 k2 || !msgB b.1 a || !elsB b.1 z sa sb)==false) 189 ([AV.agg y0,Zi r]) (AV.bool (decide (r≥0)&&decide (r<Grp.q (Bas.gr b)))) (.br (!keyB b k0 k1 k2 || !msgB b.1 a || !elsB b.1 z sa sb || !(decide (r≥0)&&decide (r<(Bas.gr b).2))) (.out (AV.bool false) [] y1 []) (.sc (true) 190 ([AV.agg (Bas.cells b),Zi a,AV.agg (u8c root),AV.agg [Zi z,Zi sa,Zi sb,Zi r]]) (Zi (crtN b a root z sa sb)) (.sc ((crtN b a root z sa sb != 0)==true) 191 ([AV.agg y0,Zi (Bas.gr b).3,Zi r]) (Zi ((Bas.gr b).3^Int.toNat r%Grp.p (Bas.gr b))) (.sc ((crtN b a root z sa sb != 0)==true) 191 ([AV.agg y0,Zi k0,Zi (crtN b a root z sa sb)]) (Zi (k0^Int.toNat (crtN b a root z sa sb)%Grp.p (Bas.gr b))) (.sc ((crtN b a root z sa sb != 0)==true) 192 ([AV.agg y0,Zi (k0^Int.toNat (crtN b a root z sa sb)%(Bas.gr b).1),Zi sa]) (Zi (k0^Int.toNat (crtN b a root z sa sb)%(Bas.gr b).1*sa%Grp.p (Bas.gr b))) (.sc ((crtN b a root z sa sb != 0&&(Bas.gr b).3^Int.toNat r%(Bas.gr b).1==k0^Int.toNat (crtN b a root z sa sb)%(Bas.gr b).1*sa%(Bas.gr b).1)==true) 191 ([AV.agg y0,Zi a,Zi r]) (Zi (a^Int.toNat r%Grp.p (Bas.gr b))) (.sc ((crtN b a root z sa sb != 0&&(Bas.gr b).3^Int.toNat r%(Bas.gr b).1==k0^Int.toNat (crtN b a root z sa sb)%(Bas.gr b).1*sa%(Bas.gr b).1)==true) 191 ([AV.agg y0,Zi z,Zi (crtN b a root z sa sb)]) (Zi (z^Int.toNat (crtN b a root z sa sb)%Grp.p (Bas.gr b))) (.sc ((crtN b a root z sa sb != 0&&(Bas.gr b).3^Int.toNat r%(Bas.gr b).1==k0^Int.toNat (crtN b a root z sa sb)%(Bas.gr b).1*sa%(Bas.gr b).1)==true) 192 ([AV.agg y0,Zi (z^Int.toNat (crtN b a root z sa sb)%(Bas.gr b).1),Zi sb]) (Zi (z^Int.toNat (crtN b a root z sa sb)%(Bas.gr b).1*sb%Grp.p (Bas.gr b))) (.out (AV.bool (crtN b a root z sa sb != 0&&(Bas.gr b).3^Int.toNat r%(Bas.gr b).1==k0^Int.toNat (crtN b a root z sa sb)%(Bas.gr b).1*sa%(Bas.gr b).1&&a^Int.toNat r%(Bas.gr b).1==z^Int.toNat (crtN b a root z sa sb)%(Bas.gr b).1*sb%(Bas.gr b).1)) [] y1 []))))))))))))))
  (by kernel_rfl) ?_
 refine k_sc (hv) ?_
 refine k_scg (fun h1=>hm ((validB_ok (key_1 (by simpa using h1)).1))) ?_
 refine k_scg (fun h2=>he ((validB_ok (key_1 (by simp at h2;exact h2.1)).1))) ?_
 refine k_scg (fun h3=>hs) ?_
 refine k_br (fun h4 => ?_) (fun h4 => ?_)
 ·have g4:=(cnd_or_t (cnd_or_t (cnd_or_t (cnd_not_t cnd_id_f) (cnd_not_t cnd_id_f)) (cnd_not_t cnd_id_f)) (cnd_not_t (cnd_and_f cnd_dec_f cnd_dec_f))) h4
  exact k_out (Ent.of_eq (congrArg _ (by rcases g4 with ((h|h)|h)|h;(· exact (ver_0 (.inl h)).symm);(· exact (ver_0 (.inr (.inl h))).symm);(· exact (ver_0 (.inr (.inr (.inl h)))).symm);(· exact (ver_0 (.inr (.inr (.inr (sca_0 h))))).symm))))
 ·have g4:=(cnd_or_f (cnd_or_f (cnd_or_f (cnd_not_f cnd_id_t) (cnd_not_f cnd_id_t)) (cnd_not_f cnd_id_t)) (cnd_not_f (cnd_and_t cnd_dec_t cnd_dec_t))) h4
  refine k_sc (hc (by (have:=(K g4).ok;exact (validB_q (key_1 g4.1.1.1).1).1)) (by exact (validB_q (key_1 g4.1.1.1).1).2)) ?_
  refine k_scg (fun h7=>(rpowR_c (Bas.gr b)) ((Bas.gr b).3) (r) (by (cases K g4;assumption)) (by (cases K g4;assumption)) (by (cases K g4;assumption))) ?_
  refine k_scg (fun h8=>(rpowR_c (Bas.gr b)) (k0) (crtN b a root z sa sb) (by (cases K g4;assumption)) (by (cases K g4;assumption)) (by (cases K g4;assumption))) ?_
  refine k_scg (fun h9=>(rmulR_c (Bas.gr b)) (k0^Int.toNat (crtN b a root z sa sb)%(Bas.gr b).1) (sa) (by (cases K g4;assumption)) (by exact mod_bnd (K g4).ok _) (by (cases K g4;assumption))) ?_
  refine k_scg (fun h10=>(rpowR_c (Bas.gr b)) (a) (r) (by (cases K g4;assumption)) (by (cases K g4;assumption)) (by (cases K g4;assumption))) ?_
  refine k_scg (fun h11=>(rpowR_c (Bas.gr b)) (z) (crtN b a root z sa sb) (by (cases K g4;assumption)) (by (cases K g4;assumption)) (by (cases K g4;assumption))) ?_
  refine k_scg (fun h12=>(rmulR_c (Bas.gr b)) (z^Int.toNat (crtN b a root z sa sb)%(Bas.gr b).1) (sb) (by (cases K g4;assumption)) (by exact mod_bnd (K g4).ok _) (by (cases K g4;assumption))) ?_
  exact k_out (Ent.of_eq (congrArg _ ((Bool.and_assoc _ _ _).trans (ver_r g4.1.1.1 g4.1.1.2 g4.1.2 g4.2).symm)))
end Go.Proofs.YtolcfdcoidpieaaGreatDoor

namespace Go.Sp
open Go Go.Am
def coinV (b:Bas) (r:Rcd) (c:Coin):Bool :=
 rcvB b r&&c.bank==r.bank&&c.epoch==r.epoch&&c.denom==r.denom&&c.depth==r.depth&&verR b r.h r.h1 r.h2 c.a c.root c.z c.sa c.sb c.r
def lvB (n:Int):Bool:=decide (firstI (fun i=>n==(2^i:Nat)) 6 0≥0)
theorem lvB_f:∀ d:Fin 6,lvB ((2^d.1:Nat):Int)=true:=by decide +kernel
theorem lvB_d {d:Nat} (h:d≤5):lvB ((2^d:Nat):Int)=true:=lvB_f ⟨d,by omega⟩
theorem hsl_out {os:List (Option Ob)} {n m:Nat} {F:Nat→Nat→Int} (hn:m=n):Ent os (.isl 32 m fun r k=>atL (u8c (F r)) k) (hsl n F):=by
 subst hn
 exact Ent.isl fun i j _ hj=>atL_map_range (es:=32) (g:=fun j=>AV.int .u8 (F i j)) hj
theorem tup2_out {os:List (Option Ob)} {a b:AV} {v:AV} (h:Ent os a b):Ent os (.tup [a,v]) (.tup [b,v]):=Ent.tup ⟨h,Ent.refl _,trivial⟩
end Go.Sp

namespace Go.Proofs.YtolcfdcoidpieaaGreatDoor
open Go Go.Am Go.Sp
set_option maxRecDepth 100000
theorem cval_c (b:Bas) (r:Rcd) (c:Coin) (hw:b.gr.W) (hr:byB c.root 32):Pure Tryz.prog gl0 70 [b.av,r.av,c.av] (.bool (coinV b r c)):=by
 have hv:=recV_c b r hw
 have hs:=verR_c b r.h r.h1 r.h2 c.a c.root c.z c.sa c.sb c.r hw hr
 refine pure_sk (own:=ow0) Tryz.func70 (by kernel_rfl) mixed (by kernel_rfl)
  (.sc (true) 138 ([AV.agg (Bas.cells b),AV.agg (Rcd.cells r)]) (AV.bool (rcvB b r)) (.sc ((rcvB b r&&c.1==r.1&&c.2==r.2&&c.3==r.3&&c.4==r.5)==true) 139 ([AV.agg (Bas.cells b),AV.agg [Zi r.6,Zi r.7,Zi r.8],Zi c.5,AV.agg (u8c c.6),AV.agg [Zi c.7,Zi c.8,Zi c.9,Zi c.10]]) (AV.bool (verR b (Rcd.h r) (Rcd.h1 r) (Rcd.h2 r) (Coin.a c) (Coin.root c) (Coin.z c) (Coin.sa c) (Coin.sb c) (Coin.r c))) (.out (AV.bool (rcvB b r&&c.1==r.1&&c.2==r.2&&c.3==r.3&&c.4==r.5&&verR b r.6 r.7 r.8 c.5 c.6 c.7 c.8 c.9 c.10)) [] (AV.bool (coinV b r c)) [])))
  (by kernel_rfl) ?_
 refine k_sc (hv) ?_
 refine k_scg (fun h1=>hs) ?_
 exact k_out (Ent.refl _)
theorem rcval_c (b:Bas) (r:Rcd) (c:Coin) (hw:b.gr.W) (hr:byB c.root 32):Pure Tryz.prog gl0 58 [b.av,r.av,c.av] (.bool (coinV b r c)):=by
 have hv:=rrecV_c b r hw
 have hs:=rverR_c b r.h r.h1 r.h2 c.a c.root c.z c.sa c.sb c.r hw hr
 refine pure_sk (own:=ow0) Tryz.func58 (by kernel_rfl) mixed (by kernel_rfl)
  (.sc (true) 117 ([AV.agg (Bas.cells b),AV.agg (Rcd.cells r)]) (AV.bool (rcvB b r)) (.sc ((rcvB b r&&c.1==r.1&&c.2==r.2&&c.3==r.3&&c.4==r.5)==true) 118 ([AV.agg (Bas.cells b),AV.agg [Zi r.6,Zi r.7,Zi r.8],Zi c.5,AV.agg (u8c c.6),AV.agg [Zi c.7,Zi c.8,Zi c.9,Zi c.10]]) (AV.bool (verR b (Rcd.h r) (Rcd.h1 r) (Rcd.h2 r) (Coin.a c) (Coin.root c) (Coin.z c) (Coin.sa c) (Coin.sb c) (Coin.r c))) (.out (AV.bool (rcvB b r&&c.1==r.1&&c.2==r.2&&c.3==r.3&&c.4==r.5&&verR b r.6 r.7 r.8 c.5 c.6 c.7 c.8 c.9 c.10)) [] (AV.bool (coinV b r c)) [])))
  (by kernel_rfl) ?_
 refine k_sc (hv) ?_
 refine k_scg (fun h1=>hs) ?_
 exact k_out (Ent.refl _)
theorem idxI_w (F:FuncId) (m:Nat) (g:Nat→AV) (f:Nat→Int) (n:Nat) (p:Nat→Bool) (hn:n≤1000) (hc:∀ i,i<n→Pure Tryz.prog gl0 F [.int .i64 (f i),.ipt m g] (.bool (p i))):Pure Tryz.prog gl0 242 [.isl 1 n (fun i _=>.int .i64 (f i)),.fn (.func F) [] [.ipt m g]] (.int .i64 (firstI p n 0)):=by
 refine pure_sk (own:=ow0) Tryz.func242 (by kernel_rfl) mixed (by kernel_rfl)
  (.loop ({ x:Nat // x≤n∧(fun (i:Nat)=>firstI p n 0=firstI p (n - i) i) x }) (fun (x:{ x:Nat // x≤n∧(fun (i:Nat)=>firstI p n 0=firstI p (n - i) i) x })=>mkSt [0,1,7,8] [AV.isl 1 n fun (i x:Nat)=>Zi (f i),AV.fn (Fn.func F) [] [AV.ipt m g],Zi (↑n:Int),Zi (↑(x.1):Int)] []) (fun (x:{ x:Nat // x≤n∧(fun (i:Nat)=>firstI p n 0=firstI p (n - i) i) x })=>n - x.1) (⟨0,⟨Nat.zero_le n,rfl⟩⟩) ([0,1,7,8]) ([]) ([AV.isl 1 n fun (i x:Nat)=>Zi (f i),AV.fn (Fn.func F) [] [AV.ipt m g],Zi (↑n:Int),Zi 0]) ([]) (fun x0=>(.br (decide ((↑x0.1:Int)<(↑n:Int))) (.req ((0:Int)≤(↑x0.1:Int)∧(↑x0.1:Int)<(↑n:Int)) (.sc (true) F ([Zi (f (Int.toNat (↑x0.1:Int))),AV.ipt m g]) (AV.bool (p (Int.toNat (↑x0.1:Int)))) (.br (p (Int.toNat (↑x0.1:Int))) (.out (Zi (↑x0.1:Int)) [] (Zi (firstI p n 0)) []) (.again (Again 0 (fun (x:{ x:Nat // x≤n∧(fun (i:Nat)=>firstI p n 0=firstI p (n - i) i) x })=>mkSt [0,1,7,8] [AV.isl 1 n fun (i x:Nat)=>Zi (f i),AV.fn (Fn.func F) [] [AV.ipt m g],Zi (↑n:Int),Zi (↑(x.1):Int)] []) (fun (x:{ x:Nat // x≤n∧(fun (i:Nat)=>firstI p n 0=firstI p (n - i) i) x })=>n - x.1) x0) ([0,1,7,8]) ([]) ([AV.isl 1 n fun (i x:Nat)=>Zi (f i),AV.fn (Fn.func F) [] [AV.ipt m g],Zi (↑n:Int),Zi (IntKind.wrap IntKind.i64 ((↑x0.1:Int)+1))]) ([]))))) (.out (Zi (-1)) [] (Zi (firstI p n 0)) []))))
  (by kernel_rfl) ?_
 refine k_loop (fun _ hs=>hs.le (⟨.refl _,.refl _,.refl _,.refl _,trivial⟩) (trivial)) (fun x0 => ?_)
 try (have q0:=x0.2;dsimp only at q0)
 refine k_br (fun h1 => ?_) (fun h1 => ?_)
 ·have g1:=cnd_dec_t h1
  refine k_req (by omega) ?_
  refine k_sc (hc (Int.toNat (↑x0.1:Int)) (by omega)) ?_
  refine k_br (fun h4 => ?_) (fun h4 => ?_)
  ·have g4:=cnd_id_t h4
   try simp only [Int.toNat_natCast] at g4
   exact k_out (Ent.of_eq (congrArg _ (first_hit x0.2.2 (by omega) h4)))
  ·have g4:=cnd_id_f h4
   try simp only [Int.toNat_natCast] at g4
   exact k_again (⟨x0.1+1,by omega,first_next x0.2.2 (by omega) h4⟩) (fun _ hs=>hs.le (⟨.refl _,.refl _,.refl _,inc_ent (by omega),trivial⟩) (trivial)) (by dsimp only;omega)
 ·have g1:=cnd_dec_f h1
  exact k_out (Ent.of_eq (congrArg _ (first_miss x0.2.2 (by omega))))
theorem conI_w (F:FuncId) (m:Nat) (g:Nat→AV) (f:Nat→Int) (n:Nat) (p:Nat→Bool) (hn:n≤1000) (hc:∀ i,i<n→Pure Tryz.prog gl0 F [.int .i64 (f i),.ipt m g] (.bool (p i))):Pure Tryz.prog gl0 194 [.isl 1 n (fun i _=>.int .i64 (f i)),.fn (.func F) [] [.ipt m g]] (.bool (decide (firstI p n 0≥0))):=by
 have c1:=idxI_w F m g f n p hn hc
 refine pure_sk (own:=ow0) Tryz.func194 (by kernel_rfl) mixed (by kernel_rfl)
  (let y0:AV:=(AV.bool (decide (firstI p n 0≥0)));(.sc (true) 242 ([AV.isl 1 n fun (i x:Nat)=>Zi (f i),AV.fn (Fn.func F) [] [AV.ipt m g]]) (Zi (firstI p n 0)) (.out y0 [] y0 [])))
  (by kernel_rfl) ?_
 refine k_sc (c1) ?_
 exact k_out (Ent.refl _)
theorem leaves1_c (n:Int) (i:Nat) (hi:i<6):Pure Tryz.prog gl0 195 [.int .i64 i,.ipt 1 (atL [.int .i64 n])] (.bool (n==(2^i:Nat))):=by
 have hs:=shw (x:=i) (by omega)
 refine pure_sk (own:=ow0) Tryz.func195 (by kernel_rfl) mixed (by kernel_rfl)
  (.req ((0:Int)≤(↑i:Int)) (.out (AV.bool (n==IntKind.wrap IntKind.i64 ((1:Int)*2^min (Int.toNat (↑i:Int)) 64))) [] (AV.bool (n==(↑(2^i):Int))) []))
  (by kernel_rfl) ?_
 refine k_req (by omega) ?_
 exact k_out (Ent.of_eq (by simp_all))
theorem leaves_c0 (n:Int):Pure Tryz.prog gl0 194 [.isl 1 6 (fun r k=>atL (List.getD [[.int .i64 0],[.int .i64 1],[.int .i64 2],[.int .i64 3],[.int .i64 4],[.int .i64 5]] r []) k),.fn (.func 195) [] [.ipt 1 (atL [.int .i64 n])]] (.bool (lvB n)) :=
 (conI_w 195 1 (atL [.int .i64 n]) (fun i=>(i:Int)) 6 (fun i=>n==(2^i:Nat)) (by decide) (fun i hi=>leaves1_c n i hi)).via
  ⟨Ent.isl fun i j hi hj=>by obtain rfl:j=0:=Nat.lt_one_iff.1 hj;match i,hi with|0,_|1,_|2,_|3,_|4,_|5,_=>rfl,Ent.refl _,trivial⟩
theorem leaves_c (n:Int):Pure Tryz.prog gl0 122 [.int .i64 n] (.bool (lvB n)):=by
 have h:=leaves_c0 n
 refine pure_sk (own:=ow0) Tryz.func122 (by kernel_rfl) mixed (by kernel_rfl)
  (.sc (true) 194 ([AV.isl 1 6 fun (r k:Nat)=>atL (List.getD [[Zi 0],[Zi 1],[Zi 2],[Zi 3],[Zi 4],[Zi 5]] (r+0) []) k,AV.fn (Fn.func 195) [] [AV.ipt 1 fun (k:Nat)=>atL [Zi n] k]]) (AV.bool (lvB n)) (.out (AV.bool (lvB n)) [] (AV.bool (lvB n)) []))
  (by kernel_rfl) ?_
 refine k_sc (h) ?_
 exact k_out (Ent.refl _)
theorem encN_c (x:Int):Pure Tryz.prog gl0 140 [.agg [.int .i64 1,.int .i64 x,.nsl,.nsl]] (.tup [il .u8 (It.int x).enc,.int .i64 0]) :=
 (encode_c (.int x) rfl (by rw [int_len];decide)).via ⟨Ent.agg ⟨Ent.refl _,Ent.refl _,Ent.nsl,Ent.nsl,trivial⟩,trivial⟩
theorem rencN_c (x:Int):Pure Tryz.prog gl0 157 [.agg [.int .i64 1,.int .i64 x,.nsl,.nsl]] (il .u8 (It.int x).enc) :=
 (renc_c (.int x) (by rw [int_len];decide)).via ⟨Ent.agg ⟨Ent.refl _,Ent.refl _,Ent.nsl,Ent.nsl,trivial⟩,trivial⟩
theorem chash_n (b:Bas) (N:Nat) (hN:N≤32) (hl:lvB N=true) (f:Nat→Int) (hw:b.gr.W) (hv:validB b=true) (hf:∀ i,i<N→elemB b.gr (f i)=true):Pure Tryz.prog gl0 76 [b.av,.isl 1 N fun i _=>.int .i64 (f i)] (.tup [hsl N fun i=>leafF (f i),.int .i64 0]):=by
 have ht:=fun x:Int=>tleaf_c (It.int x).enc.length (fun i=>(It.int x).enc.getD i 0) (by rw [int_len];decide) (It.enc_by (x:=.int x) trivial)
 refine pure_sk (own:=ow0) Tryz.func76 (by kernel_rfl) mixed (by kernel_rfl)
  (let y0:AV:=(AV.tup [hsl N fun (i:Nat)=>leafF (f i),Zi 0]);(.sc (true) 34 ([AV.agg (Bas.cells b)]) (AV.bool (validB b)) (.sc ((!validB b)==false) 122 ([Zi (↑N:Int)]) (AV.bool (lvB (↑N:Int))) (.br (!validB b || !lvB (↑N:Int)) (.out (AV.tup [AV.nsl,Zi 1]) [] y0 []) (.loop ({ x:Nat // x≤N }) (fun (x:{ x:Nat // x≤N })=>mkSt [2,22,23,6,24] [AV.own 0 6 0 0 6,AV.isl 1 N fun (i x:Nat)=>Zi (f i),Zi (↑N:Int),AV.osl 1 32 0 (x.1),Zi (↑(x.1):Int)] [some ⟨6,1,true,Rep.lst [Bas.cells b]⟩,some ⟨32,x.1,true,Rep.row fun (i:Nat)=>u8c (leafF (f i))⟩]) (fun (x:{ x:Nat // x≤N })=>N - x.1) (⟨0,Nat.zero_le N⟩) ([2,22,23,6,24]) ([0,8321]) ([AV.own 0 6 0 0 6,AV.isl 1 N fun (i x:Nat)=>Zi (f i),Zi (↑N:Int),AV.nsl,Zi 0]) ([some ⟨6,1,true,Rep.lst [Bas.cells b]⟩,some ⟨32,0,true,Rep.lst []⟩]) (fun x4=>(.br (decide ((↑x4.1:Int)<(↑N:Int))) (.req ((0:Int)≤(↑x4.1:Int)∧(↑x4.1:Int)<(↑N:Int)) (.sc (true) 68 ([AV.agg [Zi (Bas.gr b).1,Zi (Bas.gr b).2,Zi (Bas.gr b).3],Zi (f (Int.toNat (↑x4.1:Int)))]) (AV.bool (validG (Bas.gr b)&&elemB (Bas.gr b) (f (Int.toNat (↑x4.1:Int))))) (.br (!(validG b.1&&elemB b.1 (f (Int.toNat (↑x4.1:Int))))) (.out (AV.tup [AV.nsl,Zi 2]) [] y0 []) (.dc (true) 140 ([AV.agg [Zi 1,Zi (f (Int.toNat (↑x4.1:Int))),AV.nsl,AV.nsl]]) (AV.tup [il IntKind.u8 (It.enc (It.int (f (Int.toNat (↑x4.1:Int))))),Zi 0]) (.sc (true) 150 ([AV.isl 1 9 fun (i x:Nat)=>Zb (List.getD (It.enc (It.int (f (Int.toNat (↑x4.1:Int))))) i (0:Int))]) (AV.tup [AV.agg (u8c (tagF (String.toUTF8 "specie/leaf") (List.length (It.enc (It.int (f (Int.toNat (↑x4.1:Int)))))) fun (i:Nat)=>List.getD (It.enc (It.int (f (Int.toNat (↑x4.1:Int))))) i (0:Int))),Zi 0]) (.req ((x4.1+1)*32≤140737488355328) (.again (Again 0 (fun (x:{ x:Nat // x≤N })=>mkSt [2,22,23,6,24] [AV.own 0 6 0 0 6,AV.isl 1 N fun (i x:Nat)=>Zi (f i),Zi (↑N:Int),AV.osl 1 32 0 (x.1),Zi (↑(x.1):Int)] [some ⟨6,1,true,Rep.lst [Bas.cells b]⟩,some ⟨32,x.1,true,Rep.row fun (i:Nat)=>u8c (leafF (f i))⟩]) (fun (x:{ x:Nat // x≤N })=>N - x.1) x4) ([2,22,23,6,24]) ([0,226]) ([AV.own 0 6 0 0 6,AV.isl 1 N fun (i x:Nat)=>Zi (f i),Zi (↑N:Int),AV.osl 1 32 0 (x4.1+1),Zi (IntKind.wrap IntKind.i64 ((↑x4.1:Int)+1))]) ([some ⟨6,1,true,Rep.lst [Bas.cells b]⟩,some ⟨32,x4.1+1,true,Rep.cat x4.1 (Rep.row fun (i:Nat)=>u8c (leafF (f i))) (Rep.lst [u8c (tagF (String.toUTF8 "specie/leaf") (List.length (It.enc (It.int (f (Int.toNat (↑x4.1:Int)))))) fun (i:Nat)=>List.getD (It.enc (It.int (f (Int.toNat (↑x4.1:Int))))) i (0:Int))])⟩])))))))) (.out (AV.tup [AV.isl 32 x4.1 fun (r k:Nat)=>atL (u8c (leafF (f (r+0)))) k,Zi 0]) [] y0 []))))))))
  (by kernel_rfl) ?_
 refine k_sc ((bvalid_c b) (by assumption)) ?_
 refine k_scg (fun h1=>leaves_c ((↑N:Int))) ?_
 refine k_br (fun h2 => ?_) (fun h2 => ?_)
 ·have g2:=(cnd_or_t (cnd_not_t cnd_id_f) (cnd_not_t cnd_id_f)) h2
  exact k_out (by exfalso;rcases g2 with g|g;(· rw [hv] at g;cases g);(· rw [hl] at g;cases g))
 ·have g2:=(cnd_or_f (cnd_not_f cnd_id_t) (cnd_not_f cnd_id_t)) h2
  refine k_loop (fun _ hs=>hs.le (by repeat' (first|exact trivial|(first|exact Ent.refl _|exact inc_ent (by omega)|exact Ent.nil rfl|exact Ent.of_eq (congrArg (AV.osl _ _ _) (by first|omega|(dsimp only;omega)))|exact Ent.of_eq (congrArg (AV.int _) (by first|omega|(dsimp only;omega))))|refine And.intro ?_ ?_)) (by exact ⟨ObEnt.refl _,ObEnt.zero,trivial⟩)) (fun x4 => ?_)
  try (have q4:=x4.2;dsimp only at q4)
  refine k_br (fun h5 => ?_) (fun h5 => ?_)
  ·have g5:=cnd_dec_t h5
   refine k_req (by omega) ?_
   refine k_sc ((contains_c (Bas.gr b)) (f (Int.toNat (↑x4.1:Int))) (by assumption)) ?_
   refine k_br (fun h8 => ?_) (fun h8 => ?_)
   ·have g8:=(cnd_not_t (cnd_and_f cnd_id_f cnd_id_f)) h8
    try simp only [Int.toNat_natCast] at g8
    exact k_out (by exfalso;rcases g8 with g|g;(· rw [validG_iff.2 (validB_ok hv)] at g;cases g);(· rw [hf _ (by omega)] at g;cases g))
   ·have g8:=(cnd_not_f (cnd_and_t cnd_id_t cnd_id_t)) h8
    try simp only [Int.toNat_natCast] at g8
    refine k_dc (encN_c (f (Int.toNat (↑x4.1:Int)))) ?_
    refine k_sc (ht (f (Int.toNat (↑x4.1:Int)))) ?_
    refine k_req (by omega) ?_
    exact k_again (⟨x4.1+1,by omega⟩) (fun _ hs=>hs.le (⟨.refl _,.refl _,.refl _,.refl _,inc_ent (by omega),trivial⟩) (by exact ⟨ObEnt.refl _,ObEnt.catRow rfl (fun _ _=>EntL.refl _) (EntL.refl _),trivial⟩)) (by (dsimp only;omega))
  ·have g5:=cnd_dec_f h5
   exact k_out (tup2_out (hsl_out (by omega)))
theorem rhash_c (n:Nat) (hn:n≤1000) (f:Nat→Int):Pure Tryz.prog gl0 85 [.isl 1 n fun i _=>.int .i64 (f i)] (hsl n fun i=>leafF (f i)):=by
 have ht:=fun x:Int=>rtleaf_c (It.int x).enc.length (fun i=>(It.int x).enc.getD i 0) (by rw [int_len];decide) (It.enc_by (x:=.int x) trivial)
 refine pure_sk (own:=ow0) Tryz.func85 (by kernel_rfl) mixed (by kernel_rfl)
  (.loop ({ x:Nat // x≤n }) (fun (x:{ x:Nat // x≤n })=>mkSt [0,3,4] [AV.isl 1 n fun (i x:Nat)=>Zi (f i),AV.osl 0 32 0 (x.1),Zi (↑(x.1):Int)] [some ⟨32,x.1,true,Rep.row fun (i:Nat)=>u8c (leafF (f i))⟩]) (fun (x:{ x:Nat // x≤n })=>n - x.1) (⟨0,Nat.zero_le n⟩) ([0,3,4]) ([8216]) ([AV.isl 1 n fun (i x:Nat)=>Zi (f i),AV.nsl,Zi 0]) ([some ⟨32,0,true,Rep.lst []⟩]) (fun x0=>(.br (decide ((↑x0.1:Int)<(↑n:Int))) (.req ((0:Int)≤(↑x0.1:Int)∧(↑x0.1:Int)<(↑n:Int)) (.dc (true) 157 ([AV.agg [Zi 1,Zi (f (Int.toNat (↑x0.1:Int))),AV.nsl,AV.nsl]]) (il IntKind.u8 (It.enc (It.int (f (Int.toNat (↑x0.1:Int)))))) (.sc (true) 162 ([AV.isl 1 9 fun (i x:Nat)=>Zb (List.getD (It.enc (It.int (f (Int.toNat (↑x0.1:Int))))) i (0:Int))]) (AV.agg (u8c (tagF (String.toUTF8 "specie/leaf") (List.length (It.enc (It.int (f (Int.toNat (↑x0.1:Int)))))) fun (i:Nat)=>List.getD (It.enc (It.int (f (Int.toNat (↑x0.1:Int))))) i (0:Int)))) (.req ((x0.1+1)*32≤140737488355328) (.again (Again 0 (fun (x:{ x:Nat // x≤n })=>mkSt [0,3,4] [AV.isl 1 n fun (i x:Nat)=>Zi (f i),AV.osl 0 32 0 (x.1),Zi (↑(x.1):Int)] [some ⟨32,x.1,true,Rep.row fun (i:Nat)=>u8c (leafF (f i))⟩]) (fun (x:{ x:Nat // x≤n })=>n - x.1) x0) ([0,3,4]) ([105]) ([AV.isl 1 n fun (i x:Nat)=>Zi (f i),AV.osl 0 32 0 (x0.1+1),Zi (IntKind.wrap IntKind.i64 ((↑x0.1:Int)+1))]) ([some ⟨32,x0.1+1,true,Rep.cat x0.1 (Rep.row fun (i:Nat)=>u8c (leafF (f i))) (Rep.lst [u8c (tagF (String.toUTF8 "specie/leaf") (List.length (It.enc (It.int (f (Int.toNat (↑x0.1:Int)))))) fun (i:Nat)=>List.getD (It.enc (It.int (f (Int.toNat (↑x0.1:Int))))) i (0:Int))])⟩])))))) (.out (AV.isl 32 x0.1 fun (r k:Nat)=>atL (u8c (leafF (f (r+0)))) k) [] (hsl n fun (i:Nat)=>leafF (f i)) []))))
  (by kernel_rfl) ?_
 refine k_loop (fun _ hs=>hs.le (by repeat' (first|exact trivial|(first|exact Ent.refl _|exact inc_ent (by omega)|exact Ent.nil rfl|exact Ent.of_eq (congrArg (AV.osl _ _ _) (by first|omega|(dsimp only;omega)))|exact Ent.of_eq (congrArg (AV.int _) (by first|omega|(dsimp only;omega))))|refine And.intro ?_ ?_)) (by exact ⟨ObEnt.zero,trivial⟩)) (fun x0 => ?_)
 try (have q0:=x0.2;dsimp only at q0)
 refine k_br (fun h1 => ?_) (fun h1 => ?_)
 ·have g1:=cnd_dec_t h1
  refine k_req (by omega) ?_
  refine k_dc (rencN_c (f (Int.toNat (↑x0.1:Int)))) ?_
  refine k_sc (ht (f (Int.toNat (↑x0.1:Int)))) ?_
  refine k_req (by omega) ?_
  exact k_again (⟨x0.1+1,by omega⟩) (fun _ hs=>hs.le (⟨.refl _,.refl _,inc_ent (by omega),trivial⟩) (by exact ⟨ObEnt.catRow rfl (fun _ _=>EntL.refl _) (EntL.refl _),trivial⟩)) (by (dsimp only;omega))
 ·have g1:=cnd_dec_f h1
  exact k_out (hsl_out (by omega))
end Go.Proofs.YtolcfdcoidpieaaGreatDoor

namespace Go.Sp
open Go Go.Am
def prdF (G:Grp) (f e:Nat→Int):Nat→Int
 | 0=>1
 | x+1=>prdF G f e x*(f x^(e x).toNat%G.p)%G.p
theorem elem_one {G:Grp} (h:G.Ok):elemB G 1=true:=(elem_iff h).2 ⟨Int.le_refl _,by have:=h.p3;omega,by rw [Int.one_pow];exact Int.emod_eq_of_lt (by decide) (by have:=h.p3;omega)⟩
theorem elem_prd {G:Grp} (h:G.Ok) {f e:Nat→Int} {n:Nat} (hf:∀ i,i<n→elemB G (f i)=true):∀ x,x≤n→elemB G (prdF G f e x)=true
 | 0,_=>elem_one h
 | x+1,hx=>elem_mul h (elem_prd h hf x (by omega)) (elem_pow h (hf x (by omega)) _)
def pr2 (G:Grp) (a b x y:Int):Int:=a^x.toNat%G.p*(b^y.toNat%G.p)%G.p
def sel2 (a b:Int) (i:Nat):Int:=[a,b].getD i 0
theorem prd_2 {G:Grp} (h:G.Ok) {f e:Nat→Int}:prdF G f e 2=pr2 G (f 0) (f 1) (e 0) (e 1):=by
 show (1*(f 0^(e 0).toNat%G.p)%G.p)*(f 1^(e 1).toNat%G.p)%G.p=_
 rw [Int.one_mul,Int.emod_eq_of_lt (mod_bnd h _).1 (mod_bnd h _).2]
 rfl
theorem sel_isl {os:List (Option Ob)} {a b:Int}:Ent os (.isl 1 2 fun r k=>atL (List.getD [[.int .i64 a],[.int .i64 b]] r []) k) (.isl 1 2 fun i _=>.int .i64 (sel2 a b i)):=Ent.isl fun i j hi hj=>by
 obtain rfl:j=0:=Nat.lt_one_iff.1 hj
 match i,hi with|0,_|1,_=>rfl
def chk2 (b:Bas) (y r1 r2:Int):Bool:=scaB b.gr r1&&scaB b.gr r2&&(pr2 b.gr b.g1 b.g2 r1 r2==y)
theorem fst_no {p:Nat→Bool} {n:Nat} (h:∀ i,i<n→p i=false):decide (firstI p n 0≥0)=false:=by
 rw [firstI_neg]
 apply List.any_eq_false.2
 intro i hi
 rw [Nat.zero_add,h i (List.mem_range.1 hi)]
 decide
theorem fst_2 {p:Nat→Bool}:decide (firstI p 2 0≥0)=(p 0||p 1):=by
 rw [firstI_neg]
 show (p (0+0)||(p (0+1)||false))=_
 rw [Bool.or_false,Nat.zero_add,Nat.zero_add]
theorem sca_iff {G:Grp} {r:Int}:scaB G r=true↔0≤r∧r<G.q:=by unfold scaB;simp
theorem sca_sel {G:Grp} {a c:Int} (h:scaB G a=true∧scaB G c=true):∀ i,i<2→0≤sel2 a c i∧sel2 a c i<G.q:=fun i hi=>match i,hi with
 | 0,_=>sca_iff.1 h.1
 | 1,_=>sca_iff.1 h.2
def pr2V (b:Bas) (r1 r2:Int):Int:=bif scaB b.gr r1&&scaB b.gr r2 then pr2 b.gr b.g1 b.g2 r1 r2 else 0
def pr2E (b:Bas) (r1 r2:Int):Int:=bif scaB b.gr r1&&scaB b.gr r2 then 0 else 2
theorem pr2_no {b:Bas} {r1 r2:Int} (h:scaB b.gr r1=false∨scaB b.gr r2=false):pr2V b r1 r2=0∧pr2E b r1 r2=2:=by
 have e:(scaB b.gr r1&&scaB b.gr r2)=false:=by rcases h with h|h<;>simp [h]
 unfold pr2V pr2E;rw [e];exact ⟨rfl,rfl⟩
theorem pr2_ok {b:Bas} {r1 r2:Int} (h:scaB b.gr r1=true∧scaB b.gr r2=true):pr2V b r1 r2=pr2 b.gr b.g1 b.g2 r1 r2∧pr2E b r1 r2=0:=by
 unfold pr2V pr2E;rw [h.1,h.2];exact ⟨rfl,rfl⟩
theorem chk2_eq {b:Bas} {y r1 r2:Int}:(pr2E b r1 r2==0&&pr2V b r1 r2==y)=chk2 b y r1 r2:=by
 unfold chk2
 cases h1:scaB b.gr r1 with
 | false=>rw [(pr2_no (.inl h1)).2];rfl
 | true =>
  cases h2:scaB b.gr r2 with
  | false=>rw [(pr2_no (.inr h2)).2];rfl
  | true=>rw [(pr2_ok ⟨h1,h2⟩).1,(pr2_ok ⟨h1,h2⟩).2];rfl
theorem sca_n {G:Grp} {e:Int}:(decide (e<0)||decide (e≥G.q)) = !scaB G e:=by
 unfold scaB
 by_cases h:e<0<;>by_cases h':e≥G.q<;>simp [h,h']<;>omega
def leafB (b:Bas) (a k x r1 r2:Int):Bool:=elemB b.gr x&&chk2 b (a^k.toNat%b.gr.p*x%b.gr.p) r1 r2
theorem leaf_no {b:Bas} {a k x r1 r2:Int} (h:(elemB b.gr x=false∨scaB b.gr r1=false)∨scaB b.gr r2=false):leafB b a k x r1 r2=false:=by
 unfold leafB chk2;rcases h with (h|h)|h<;>simp [h]
theorem leaf_eq {b:Bas} {a k x r1 r2:Int} (h:(elemB b.gr x=true∧scaB b.gr r1=true)∧scaB b.gr r2=true):(b.g1^r1.toNat%b.gr.p*(b.g2^r2.toNat%b.gr.p)%b.gr.p==a^k.toNat%b.gr.p*x%b.gr.p)=leafB b a k x r1 r2:=by
 unfold leafB chk2;rw [h.1.1,h.1.2,h.2];rfl
end Go.Sp

namespace Go.Proofs.YtolcfdcoidpieaaGreatDoor
open Go Go.Am Go.Sp
set_option maxRecDepth 100000
theorem pel1_c (G:Grp) (x:Int) (h:G.Ok) (hw:G.W):Pure Tryz.prog gl0 272 [.int .i64 x,.ipt 3 (atL G.cells)] (.bool (!elemB G x)):=by
 have hg:=validG_iff.2 h
 refine pure_sk (own:=ow0) Tryz.func272 (by kernel_rfl) mixed (by kernel_rfl)
  (.sc (true) 68 ([AV.agg [Zi G.1,Zi G.2,Zi G.3],Zi x]) (AV.bool (validG G&&elemB G x)) (.out (AV.bool !(validG G&&elemB G x)) [] (AV.bool !elemB G x) []))
  (by kernel_rfl) ?_
 refine k_sc ((contains_c G) (x) (by assumption)) ?_
 exact k_out (Ent.of_eq (congrArg _ (by rw [hg,Bool.true_and])))
theorem pex1_c (G:Grp) (x:Int):Pure Tryz.prog gl0 273 [.int .i64 x,.ipt 3 (atL G.cells)] (.bool (decide (x<0)||decide (x≥G.q))):=by
 refine pure_sk (own:=ow0) Tryz.func273 (by kernel_rfl) mixed (by kernel_rfl)
  (.out (AV.bool (decide (x<0)||decide (x≥G.2))) [] (AV.bool (decide (x<0)||decide (x≥Grp.q G))) [])
  (by kernel_rfl) ?_
 exact k_out (Ent.refl _)
theorem pel_c (G:Grp) (n:Nat) (f:Nat→Int) (hn:n≤1000) (h:G.Ok) (hw:G.W) (hf:∀ i,i<n→elemB G (f i)=true):Pure Tryz.prog gl0 239 [G.av,.isl 1 n fun i _=>.int .i64 (f i)] (.bool true):=by
 have c1:=conI_w 272 3 (atL G.cells) f n (fun i => !elemB G (f i)) hn (fun i _=>pel1_c G (f i) h hw)
 have e:=fst_no (p:=fun i => !elemB G (f i)) (n:=n) (fun i hi=>by rw [hf i hi];rfl)
 refine pure_sk (own:=ow0) Tryz.func239 (by kernel_rfl) mixed (by kernel_rfl)
  (.sc (true) 194 ([AV.isl 1 n fun (i x:Nat)=>Zi (f i),AV.fn (Fn.func 272) [] [AV.ipt 3 fun (k:Nat)=>atL [Zi G.1,Zi G.2,Zi G.3] k]]) (AV.bool (decide (firstI (fun (i:Nat) => !elemB G (f i)) n 0≥0))) (.out (AV.bool !decide (firstI (fun (i:Nat) => !elemB G (f i)) n 0≥0)) [] (AV.bool true) []))
  (by kernel_rfl) ?_
 refine k_sc (c1) ?_
 exact k_out (Ent.of_eq (congrArg _ (by rw [e];rfl)))
theorem pex_c (G:Grp) (a c:Int):Pure Tryz.prog gl0 240 [G.av,.isl 1 2 fun i _=>.int .i64 (sel2 a c i)] (.bool (scaB G a&&scaB G c)):=by
 have c1:=conI_w 273 3 (atL G.cells) (sel2 a c) 2 (fun i=>decide (sel2 a c i<0)||decide (sel2 a c i≥G.q)) (by decide) (fun i _=>pex1_c G (sel2 a c i))
 have e:=fst_2 (p:=fun i=>decide (sel2 a c i<0)||decide (sel2 a c i≥G.q))
 refine pure_sk (own:=ow0) Tryz.func240 (by kernel_rfl) mixed (by kernel_rfl)
  (.sc (true) 194 ([AV.isl 1 2 fun (i x:Nat)=>Zi (sel2 a c i),AV.fn (Fn.func 273) [] [AV.ipt 3 fun (k:Nat)=>atL [Zi G.1,Zi G.2,Zi G.3] k]]) (AV.bool (decide (firstI (fun (i:Nat)=>decide (sel2 a c i<0)||decide (sel2 a c i≥Grp.q G)) 2 0≥0))) (.out (AV.bool !decide (firstI (fun (i:Nat)=>decide (sel2 a c i<0)||decide (sel2 a c i≥G.2)) 2 0≥0)) [] (AV.bool (scaB G a&&scaB G c)) []))
  (by kernel_rfl) ?_
 refine k_sc (c1) ?_
 exact k_out (Ent.of_eq (congrArg _ (by rw [e,sca_n,sca_n,← Bool.not_and,Bool.not_not];rfl)))
theorem powers_c (G:Grp) (f e:Nat→Int) (h:G.Ok) (hw:G.W) (hf:∀ i,i<2→elemB G (f i)=true) (he:∀ i,i<2→0≤e i∧e i<G.q):Pure Tryz.prog gl0 241 [G.av,.isl 1 2 fun i _=>.int .i64 (f i),.isl 1 2 fun i _=>.int .i64 (e i)] (.tup [.int .i64 (prdF G f e 2),.int .i64 0]):=by
 refine pure_sk (own:=ow0) Tryz.func241 (by kernel_rfl) mixed (by kernel_rfl)
  (let y0:List (Option Ob):=[some ⟨3,1,true,Rep.lst [[Zi (Grp.p G),Zi (Grp.q G),Zi (Grp.g G)]]⟩];(.loop ({ x:Nat // x≤2 }) (fun (x:{ x:Nat // x≤2 })=>mkSt [2,3,13,14,8,15] [AV.isl 1 2 fun (i x:Nat)=>Zi (e i),AV.own 0 3 0 0 3,AV.isl 1 2 fun (i x:Nat)=>Zi (f i),Zi (↑(2):Int),Zi (prdF G f e (x.1)),Zi (↑(x.1):Int)] y0) (fun (x:{ x:Nat // x≤2 })=>2 - x.1) (⟨0,Nat.zero_le 2⟩) ([2,3,13,14,8,15]) ([0]) ([AV.isl 1 2 fun (i x:Nat)=>Zi (e i),AV.own 0 3 0 0 3,AV.isl 1 2 fun (i x:Nat)=>Zi (f i),Zi (↑(2):Int),Zi 1,Zi 0]) (y0) (fun x0=>(.br (decide ((↑x0.1:Int)<(↑(2):Int))) (.req ((0:Int)≤(↑x0.1:Int)∧(↑x0.1:Int)<(↑(2):Int)) (.req ((0:Int)≤(↑x0.1:Int)∧(↑x0.1:Int)<(↑(2):Int)) (.sc (true) 146 ([AV.agg [Zi G.1,Zi G.2,Zi G.3],Zi (f (Int.toNat (↑x0.1:Int))),Zi (e (Int.toNat (↑x0.1:Int)))]) (AV.tup [Zi (f (Int.toNat (↑x0.1:Int))^Int.toNat (e (Int.toNat (↑x0.1:Int)))%Grp.p G),Zi 0]) (.ff (.sc (true) 147 ([AV.agg [Zi G.1,Zi G.2,Zi G.3],Zi (prdF G f e x0.1),Zi (f (Int.toNat (↑x0.1:Int))^Int.toNat (e (Int.toNat (↑x0.1:Int)))%G.1)]) (AV.tup [Zi (prdF G f e x0.1*(f (Int.toNat (↑x0.1:Int))^Int.toNat (e (Int.toNat (↑x0.1:Int)))%G.1)%Grp.p G),Zi 0]) (.ff (.again (Again 0 (fun (x:{ x:Nat // x≤2 })=>mkSt [2,3,13,14,8,15] [AV.isl 1 2 fun (i x:Nat)=>Zi (e i),AV.own 0 3 0 0 3,AV.isl 1 2 fun (i x:Nat)=>Zi (f i),Zi (↑(2):Int),Zi (prdF G f e (x.1)),Zi (↑(x.1):Int)] y0) (fun (x:{ x:Nat // x≤2 })=>2 - x.1) x0) ([2,3,13,14,8,15]) ([0]) ([AV.isl 1 2 fun (i x:Nat)=>Zi (e i),AV.own 0 3 0 0 3,AV.isl 1 2 fun (i x:Nat)=>Zi (f i),Zi (↑(2):Int),Zi (prdF G f e x0.1*(f (Int.toNat (↑x0.1:Int))^Int.toNat (e (Int.toNat (↑x0.1:Int)))%G.1)%G.1),Zi (IntKind.wrap IntKind.i64 ((↑x0.1:Int)+1))]) (y0)))))))) (.out (AV.tup [Zi (prdF G f e x0.1),Zi 0]) [] (AV.tup [Zi (prdF G f e 2),Zi 0]) [])))))
  (by kernel_rfl) ?_
 refine k_loop (fun _ hs=>hs.le (⟨.refl _,.refl _,.refl _,.refl _,.refl _,.refl _,trivial⟩) (⟨.refl _,trivial⟩)) (fun x0 => ?_)
 try (have q0:=x0.2;dsimp only at q0)
 refine k_br (fun h1 => ?_) (fun h1 => ?_)
 ·have g1:=cnd_dec_t h1
  refine k_req (by omega) ?_
  refine k_req (by omega) ?_
  refine k_sc ((gpow_c G) (f (Int.toNat (↑x0.1:Int))) (e (Int.toNat (↑x0.1:Int))) (by assumption) (by assumption) (by exact hf _ (by omega)) (by exact he _ (by omega))) ?_
  refine k_ff ?_
  refine k_sc ((gmul_c G) (prdF G f e x0.1) (f (Int.toNat (↑x0.1:Int))^Int.toNat (e (Int.toNat (↑x0.1:Int)))%G.1) (by assumption) (by assumption) (by exact elem_prd h hf _ (by omega)) (by exact elem_pow h (hf _ (by omega)) _)) ?_
  refine k_ff ?_
  exact k_again (⟨x0.1+1,by omega⟩) (fun _ hs=>hs.le (⟨.refl _,.refl _,.refl _,.refl _,.refl _,inc_ent (by omega),trivial⟩) (⟨.refl _,trivial⟩)) (by dsimp only;omega)
 ·have g1:=cnd_dec_f h1
  exact k_out (by exact Ent.of_eq (by rw [show x0.1=2 by omega]))
theorem product2_c (b:Bas) (r1 r2:Int) (hw:b.gr.W) (hv:validB b=true):Pure Tryz.prog gl0 193 [b.gr.av,.isl 1 2 fun i _=>.int .i64 (sel2 b.g1 b.g2 i),.isl 1 2 fun i _=>.int .i64 (sel2 r1 r2 i)] (.tup [.int .i64 (pr2V b r1 r2),.int .i64 (pr2E b r1 r2)]):=by
 have h:=validB_iff.1 hv
 have hf:∀ i,i<2→elemB b.gr (sel2 b.g1 b.g2 i)=true:=fun i hi=>match i,hi with|0,_=>h.e1|1,_=>h.e2
 have hg:=validG_iff.2 h.G
 have c1:=pel_c b.gr 2 (sel2 b.g1 b.g2) (by decide) h.G hw hf
 have c2:=pex_c b.gr r1 r2
 have c3:=fun he=>powers_c b.gr (sel2 b.g1 b.g2) (sel2 r1 r2) h.G hw hf he
 refine pure_sk (own:=ow0) Tryz.func193 (by kernel_rfl) mixed (by kernel_rfl)
  (let y0:List AV:=[Zi (Bas.gr b).1,Zi (Bas.gr b).2,Zi (Bas.gr b).3];let y1:AV:=(AV.tup [Zi (pr2V b r1 r2),Zi (pr2E b r1 r2)]);(.sc (true) 67 ([AV.agg y0]) (AV.bool (validG (Bas.gr b))) (.br (!validG b.1||false) (.out (AV.tup [Zi 0,Zi 1]) [] y1 []) (.ff (.sc (true) 239 ([AV.agg y0,AV.isl 1 2 fun (i x:Nat)=>Zi (sel2 b.2 b.3 i)]) (AV.bool true) (.sc (true) 240 ([AV.agg y0,AV.isl 1 2 fun (i x:Nat)=>Zi (sel2 r1 r2 i)]) (AV.bool (scaB (Bas.gr b) r1&&scaB (Bas.gr b) r2)) (.br (!(scaB b.1 r1&&scaB b.1 r2)) (.out (AV.tup [Zi 0,Zi 2]) [] y1 []) (.sc (true) 241 ([AV.agg y0,AV.isl 1 2 fun (i x:Nat)=>Zi (sel2 b.2 b.3 i),AV.isl 1 2 fun (i x:Nat)=>Zi (sel2 r1 r2 i)]) (AV.tup [Zi (prdF (Bas.gr b) (sel2 (Bas.g1 b) (Bas.g2 b)) (sel2 r1 r2) 2),Zi 0]) (.out (AV.tup [Zi (prdF b.1 (sel2 b.2 b.3) (sel2 r1 r2) 2),Zi 0]) [] y1 [])))))))))
  (by kernel_rfl) ?_
 refine k_sc ((gvalid_c (Bas.gr b)) (by assumption)) ?_
 refine k_br (fun h1 => ?_) (fun h1 => ?_)
 ·have g1:=(cnd_or_t (cnd_not_t cnd_id_f) cnd_id_t) h1
  exact k_out (by exfalso;simp [hg] at g1)
 ·have g1:=(cnd_or_f (cnd_not_f cnd_id_t) cnd_id_f) h1
  refine k_ff ?_
  refine k_sc (c1) ?_
  refine k_sc (c2) ?_
  refine k_br (fun h6 => ?_) (fun h6 => ?_)
  ·have g6:=(cnd_not_t (cnd_and_f cnd_id_f cnd_id_f)) h6
   exact k_out (Ent.of_eq (by rw [(pr2_no g6).1,(pr2_no g6).2]))
  ·have g6:=(cnd_not_f (cnd_and_t cnd_id_t cnd_id_t)) h6
   refine k_sc (c3 (sca_sel g6)) ?_
   exact k_out (Ent.of_eq (by rw [(pr2_ok g6).1,(pr2_ok g6).2,prd_2 h.G];rfl))
theorem check2_c (b:Bas) (y r1 r2:Int) (hw:b.gr.W) (hv:validB b=true):Pure Tryz.prog gl0 148 [b.gr.av,.int .i64 y,.isl 1 2 fun i _=>.int .i64 (sel2 b.g1 b.g2 i),.isl 1 2 fun i _=>.int .i64 (sel2 r1 r2 i)] (.bool (chk2 b y r1 r2)):=by
 have c1:=product2_c b r1 r2 hw hv
 refine pure_sk (own:=ow0) Tryz.func148 (by kernel_rfl) mixed (by kernel_rfl)
  (.sc (true) 193 ([AV.agg [Zi (Bas.gr b).1,Zi (Bas.gr b).2,Zi (Bas.gr b).3],AV.isl 1 2 fun (i x:Nat)=>Zi (sel2 b.2 b.3 i),AV.isl 1 2 fun (i x:Nat)=>Zi (sel2 r1 r2 i)]) (AV.tup [Zi (pr2V b r1 r2),Zi (pr2E b r1 r2)]) (.out (AV.bool (pr2E b r1 r2==0&&pr2V b r1 r2==y)) [] (AV.bool (chk2 b y r1 r2)) []))
  (by kernel_rfl) ?_
 refine k_sc (c1) ?_
 exact k_out (Ent.of_eq (congrArg _ chk2_eq))
theorem check2_l (b:Bas) (y r1 r2:Int) (hw:b.gr.W) (hv:validB b=true):Pure Tryz.prog gl0 148 [b.gr.av,.int .i64 y,.isl 1 2 fun r k=>atL (List.getD [[.int .i64 b.g1],[.int .i64 b.g2]] r []) k,.isl 1 2 fun r k=>atL (List.getD [[.int .i64 r1],[.int .i64 r2]] r []) k] (.bool (chk2 b y r1 r2)) :=
 (check2_c b y r1 r2 hw hv).via ⟨Ent.refl _,Ent.refl _,sel_isl,sel_isl,trivial⟩
theorem sright_c (b:Bas) (a k x r1 r2:Int) (hw:b.gr.W) (hv:validB b=true) (ha:elemB b.gr a=true) (hk:0≤k∧k<b.gr.q):Pure Tryz.prog gl0 74 [b.av,.int .i64 a,.int .i64 k,.agg [.int .i64 x,.int .i64 r1,.int .i64 r2]] (.bool (leafB b a k x r1 r2)):=by
 have h:=validB_iff.1 hv
 have hg:=validG_iff.2 h.G
 have c1:=contains_c b.gr x hw
 have c2:=gpow_c b.gr a k h.G hw ha hk
 have c3:=fun hx=>gmul_c b.gr (a^k.toNat%b.gr.p) x h.G hw (elem_pow h.G ha _) hx
 have c4:=check2_l b (a^k.toNat%b.gr.p*x%b.gr.p) r1 r2 hw hv
 rw [hg,Bool.true_and] at c1
 refine pure_sk (own:=ow0) Tryz.func74 (by kernel_rfl) mixed (by kernel_rfl)
  (let y0:List AV:=[Zi (Bas.gr b).1,Zi (Bas.gr b).2,Zi (Bas.gr b).3];(.sc (true) 68 ([AV.agg y0,Zi x]) (AV.bool (elemB (Bas.gr b) x)) (.br (!elemB b.1 x) (.out (AV.bool false) [] (AV.bool (leafB b a k x r1 r2)) []) (.sc (true) 146 ([AV.agg y0,Zi a,Zi k]) (AV.tup [Zi (a^Int.toNat k%Grp.p (Bas.gr b)),Zi 0]) (.ff (.sc (true) 147 ([AV.agg y0,Zi (a^Int.toNat k%(Bas.gr b).1),Zi x]) (AV.tup [Zi (a^Int.toNat k%Grp.p (Bas.gr b)*x%Grp.p (Bas.gr b)),Zi 0]) (.sc (true) 148 ([AV.agg y0,Zi (a^Int.toNat k%(Bas.gr b).1*x%(Bas.gr b).1),AV.isl 1 2 fun (r k:Nat)=>atL (List.getD [[Zi b.2],[Zi b.3]] (r+0) []) k,AV.isl 1 2 fun (r k:Nat)=>atL (List.getD [[Zi r1],[Zi r2]] (r+0) []) k]) (AV.bool (chk2 b (a^Int.toNat k%Grp.p (Bas.gr b)*x%Grp.p (Bas.gr b)) r1 r2)) (.out (AV.bool (chk2 b (a^Int.toNat k%(Bas.gr b).1*x%(Bas.gr b).1) r1 r2)) [] (AV.bool (leafB b a k x r1 r2)) []))))))))
  (by kernel_rfl) ?_
 refine k_sc (c1) ?_
 refine k_br (fun h1 => ?_) (fun h1 => ?_)
 ·have g1:=(cnd_not_t cnd_id_f) h1
  exact k_out (Ent.of_eq (congrArg _ (by unfold leafB;rw [g1];rfl)))
 ·have g1:=(cnd_not_f cnd_id_t) h1
  refine k_sc (c2) ?_
  refine k_ff ?_
  refine k_sc (c3 (g1)) ?_
  refine k_sc (c4) ?_
  exact k_out (Ent.of_eq (congrArg _ (by unfold leafB;rw [g1];rfl)))
theorem r10pow_c (G:Grp) (a e:Int) (h:G.Ok) (ha:0≤a∧a<G.p) (he:0≤e∧e<G.q):Pure Tryz.prog gl0 160 [G.av,.int .i64 a,.int .i64 e] (.int .i64 (a^e.toNat%G.p)):=by
 have k1:=h.p1;have k2:=h.qp;have k3:=h.p3
 have hr:=rreduce_c e G.q (by omega) (by omega)
 rw [red_q he] at hr
 refine pure_sk (own:=ow0) Tryz.func160 (by kernel_rfl) mixed (by kernel_rfl)
  (.sc (true) 111 ([Zi e,Zi G.2]) (Zi e) (.sc (true) 116 ([Zi a,Zi e,Zi G.1]) (Zi (a^Int.toNat e%G.1)) (.out (Zi (a^Int.toNat e%G.1)) [] (Zi (a^Int.toNat e%Grp.p G)) [])))
  (by kernel_rfl) ?_
 refine k_sc (hr) ?_
 refine k_sc (rpow_c (a) (e) (G.1) (by omega) (by omega) (by omega) (by omega) (by assumption)) ?_
 exact k_out (Ent.refl _)
theorem r10mul_c (G:Grp) (a c:Int) (h:G.Ok) (ha:0≤a∧a<G.p) (hc:0≤c∧c<G.p):Pure Tryz.prog gl0 159 [G.av,.int .i64 a,.int .i64 c] (.int .i64 (a*c%G.p)):=by
 have k1:=h.p1;have k3:=h.p3
 refine pure_sk (own:=ow0) Tryz.func159 (by kernel_rfl) mixed (by kernel_rfl)
  (.sc (true) 110 ([Zi a,Zi c,Zi G.1]) (Zi (a*c%G.1)) (.out (Zi (a*c%G.1)) [] (Zi (a*c%Grp.p G)) []))
  (by kernel_rfl) ?_
 refine k_sc (rmul_c (a) (c) (G.1) (by omega) (by omega) (by omega) (by omega) (by assumption)) ?_
 exact k_out (Ent.refl _)
theorem rscal31_c (G:Grp) (x:Int):Pure Tryz.prog gl0 106 [G.av,.int .i64 x] (.bool (scaB G x)):=by
 refine pure_sk (own:=ow0) Tryz.func106 (by kernel_rfl) mixed (by kernel_rfl)
  (.out (AV.bool (decide (x≥0)&&decide (x<G.2))) [] (AV.bool (scaB G x)) [])
  (by kernel_rfl) ?_
 exact k_out (Ent.refl _)
theorem rleaf_c (b:Bas) (a k x r1 r2:Int) (h:b.Ok) (ha:elemB b.gr a=true) (hk:0≤k∧k<b.gr.q):Pure Tryz.prog gl0 82 [b.av,.int .i64 a,.int .i64 k,.agg [.int .i64 x,.int .i64 r1,.int .i64 r2]] (.bool (leafB b a k x r1 r2)):=by
 have e1:=el_bnd h.G h.e1
 have e2:=el_bnd h.G h.e2
 have ea:=el_bnd h.G ha
 refine pure_sk (own:=ow0) Tryz.func82 (by kernel_rfl) mixed (by kernel_rfl)
  (let y0:List AV:=[Zi (Bas.gr b).1,Zi (Bas.gr b).2,Zi (Bas.gr b).3];(.sc (true) 57 ([AV.agg y0,Zi x]) (AV.bool (elemB (Bas.gr b) x)) (.sc ((!elemB b.1 x)==false) 106 ([AV.agg y0,Zi r1]) (AV.bool (scaB (Bas.gr b) r1)) (.sc ((!elemB b.1 x || !scaB b.1 r1)==false) 106 ([AV.agg y0,Zi r2]) (AV.bool (scaB (Bas.gr b) r2)) (.br (!elemB b.1 x || !scaB b.1 r1 || !scaB b.1 r2) (.out (AV.bool false) [] (AV.bool (leafB b a k x r1 r2)) []) (.sc (true) 160 ([AV.agg y0,Zi b.2,Zi r1]) (Zi (b.2^Int.toNat r1%Grp.p (Bas.gr b))) (.sc (true) 160 ([AV.agg y0,Zi b.3,Zi r2]) (Zi (b.3^Int.toNat r2%Grp.p (Bas.gr b))) (.sc (true) 159 ([AV.agg y0,Zi (b.2^Int.toNat r1%(Bas.gr b).1),Zi (b.3^Int.toNat r2%(Bas.gr b).1)]) (Zi (b.2^Int.toNat r1%(Bas.gr b).1*(b.3^Int.toNat r2%(Bas.gr b).1)%Grp.p (Bas.gr b))) (.sc (true) 160 ([AV.agg y0,Zi a,Zi k]) (Zi (a^Int.toNat k%Grp.p (Bas.gr b))) (.sc (true) 159 ([AV.agg y0,Zi (a^Int.toNat k%(Bas.gr b).1),Zi x]) (Zi (a^Int.toNat k%(Bas.gr b).1*x%Grp.p (Bas.gr b))) (.out (AV.bool (b.2^Int.toNat r1%(Bas.gr b).1*(b.3^Int.toNat r2%(Bas.gr b).1)%(Bas.gr b).1==a^Int.toNat k%(Bas.gr b).1*x%(Bas.gr b).1)) [] (AV.bool (leafB b a k x r1 r2)) [])))))))))))
  (by kernel_rfl) ?_
 refine k_sc ((member_c (Bas.gr b)) (x) (by exact h.G)) ?_
 refine k_scg (fun h1=>(rscal31_c (Bas.gr b)) (r1)) ?_
 refine k_scg (fun h2=>(rscal31_c (Bas.gr b)) (r2)) ?_
 refine k_br (fun h3 => ?_) (fun h3 => ?_)
 ·have g3:=(cnd_or_t (cnd_or_t (cnd_not_t cnd_id_f) (cnd_not_t cnd_id_f)) (cnd_not_t cnd_id_f)) h3
  exact k_out (Ent.of_eq (congrArg _ (leaf_no g3).symm))
 ·have g3:=(cnd_or_f (cnd_or_f (cnd_not_f cnd_id_t) (cnd_not_f cnd_id_t)) (cnd_not_f cnd_id_t)) h3
  refine k_sc ((r10pow_c (Bas.gr b)) (b.2) (r1) (by exact h.G) (by assumption) (by exact sca_iff.1 g3.1.2)) ?_
  refine k_sc ((r10pow_c (Bas.gr b)) (b.3) (r2) (by exact h.G) (by assumption) (by exact sca_iff.1 g3.2)) ?_
  refine k_sc ((r10mul_c (Bas.gr b)) (b.2^Int.toNat r1%(Bas.gr b).1) (b.3^Int.toNat r2%(Bas.gr b).1) (by exact h.G) (by exact mod_bnd h.G _) (by exact mod_bnd h.G _)) ?_
  refine k_sc ((r10pow_c (Bas.gr b)) (a) (k) (by exact h.G) (by assumption) (by assumption)) ?_
  refine k_sc ((r10mul_c (Bas.gr b)) (a^Int.toNat k%(Bas.gr b).1) (x) (by exact h.G) (by exact mod_bnd h.G _) (by exact el_bnd h.G g3.1.1)) ?_
  exact k_out (Ent.of_eq (congrArg _ (leaf_eq g3)))
end Go.Proofs.YtolcfdcoidpieaaGreatDoor

namespace Go.Sp
open Go Go.Am
def lbF (s:Spend) (i:Nat):Int:=s.lf i 0
def newB (s:Spend) (i:Nat):Bool := !decide (lbF s i∈(List.range i).map (lbF s))
def okL (b:Bas) (s:Spend) (i:Nat):Bool:=leafB b s.a (chS b s) (s.lf i 0) (s.lf i 1) (s.lf i 2)&&newB s i
def dpN (s:Spend):Nat:=(s.depth - s.level).toNat
def topF (s:Spend):Nat→Int:=treF (fun i=>leafF (lbF s i)) (dpN s) 0
def hdB (b:Bas) (r:Rcd) (s:Spend):Bool:=coinV b r s.coin&&nodeB s.depth s.level s.index&&ctxB s.time s.number&&Nat.beq s.nl (2^dpN s)&&s.pidx==s.index
def vfy (b:Bas) (r:Rcd) (s:Spend):Bool:=hdB b r s&&allI (okL b s) s.nl&&((s.np:Int)==s.level&&hEq (folF (topF s) s.pidx s.pf s.np) s.root)
theorem map_ent {os:List (Option Ob)} {n:Nat} {f:Nat→Int}:Ent os (.isl 1 n fun i _=>.int .i64 (f i)) (il .i64 ((List.range n).map f)):=by
 show Ent os _ (.isl 1 ((List.range n).map f).length _)
 rw [show ((List.range n).map f).length=n by simp]
 exact Ent.isl fun i j hi _=>congrArg (AV.int .i64) (getD_map hi).symm
theorem mem_map_r {f:Nat→Int} {n:Nat} {v:Int}:v∈(List.range n).map f↔∃ j,j<n∧f j=v:=by simp
theorem sz_w {s:Spend} (h:nodeB s.depth s.level s.index=true):IntKind.wrap .i64 (1*2^min (Int.toNat (IntKind.wrap .i64 (s.depth - s.level))) 64)=((2^dpN s:Nat):Int)∧IntKind.wrap .i64 (s.depth - s.level)=s.depth - s.level∧dpN s≤5:=by
 have k:=node_t h
 have e:IntKind.wrap .i64 (s.depth - s.level)=s.depth - s.level:=wI (by omega) (by omega)
 refine ⟨?_,e,by unfold dpN;omega⟩
 rw [e]
 exact shw (x:=dpN s) (by unfold dpN;omega)
theorem cv_ok {b:Bas} {r:Rcd} {c:Coin} (h:coinV b r c=true):validB b=true∧elemB b.gr c.a=true:=by
 unfold coinV rcvB keyB verR at h
 simp only [Bool.and_eq_true] at h
 exact ⟨h.1.1.1.1.1.1.1.1.1.1.1,msg_el h.2.1.1.1.2⟩
structure HdOk (b:Bas) (r:Rcd) (s:Spend):Prop where
 hd:hdB b r s=true
 v:validB b=true
 a:elemB b.gr s.a=true
 n:nodeB s.depth s.level s.index=true
 l:s.nl=2^dpN s
 d:dpN s≤5
 lv:0≤s.level∧s.level≤5
 ix:0≤s.pidx∧s.pidx<2^s.level.toNat
 n32:s.nl≤32
 lb:lvB s.nl=true
 q0:0<b.gr.q
 q1:b.gr.q<2305843009213693952
 k:0≤chS b s∧chS b s<b.gr.q
 top:byB (topF s) 32
 p0:0≤s.pidx
 p1:s.pidx<9223372036854775807
theorem leafF_by (x:Int):byB (leafF x) 32:=tagI_by _ _ _
theorem hd_of {b:Bas} {r:Rcd} {s:Spend} (h:hdB b r s=true):HdOk b r s:=by
 have h0:=h
 unfold hdB at h
 simp only [Bool.and_eq_true,Nat.beq_eq,beq_iff_eq] at h
 obtain ⟨⟨⟨⟨h1,h2⟩,_⟩,h4⟩,h5⟩:=h
 have k:=node_t h2
 have hd:dpN s≤5:=(sz_w h2).2.2
 have hp:2^dpN s≤32:=by have:=pow5 (d:=dpN s) (k:=0) hd;rwa [Nat.sub_zero] at this
 have hq:=validB_q (cv_ok h1).1
 exact ⟨h0,(cv_ok h1).1,(cv_ok h1).2,h2,h4,hd,by omega,by rw [h5];exact ⟨k.2.2.2.2.1,k.2.2.2.2.2⟩,by omega,by rw [h4];exact lvB_d hd,hq.1,hq.2,chS_q hq.1,
  tre_by (n:=2^dpN s) (fun i _=>leafF_by _) (dpN s) 0 (by omega),by omega,by have:=(p2 (k:=s.level) (by omega) (by omega)).2.2.2;omega⟩
abbrev szW (s:Spend):Int:=IntKind.wrap .i64 (1*2^min (Int.toNat (IntKind.wrap .i64 (s.depth - s.level))) 64)
theorem hd_ok {b:Bas} {r:Rcd} {s:Spend} (h:(((coinV b r s.coin=true∧nodeB s.depth s.level s.index=true)∧ctxB s.time s.number=true)∧(s.nl:Int)=szW s)∧s.pidx=s.index):HdOk b r s:=by
 refine hd_of ?_
 obtain ⟨⟨⟨⟨h1,h2⟩,h3⟩,h4⟩,h5⟩:=h
 have h4:=h4.trans (sz_w h2).1
 have h4:s.nl=2^dpN s:=Int.ofNat.inj h4
 unfold hdB
 rw [h1,h2,h3,(Nat.beq_eq▸h4:Nat.beq s.nl (2^dpN s)=true),h5]
 simp
theorem vfy_h {b:Bas} {r:Rcd} {s:Spend} (h:hdB b r s=false):vfy b r s=false:=by unfold vfy;rw [h];rfl
theorem hd_no {b:Bas} {r:Rcd} {s:Spend} (h:(((coinV b r s.coin=false∨nodeB s.depth s.level s.index=false)∨ctxB s.time s.number=false)∨¬(s.nl:Int)=szW s)∨¬s.pidx=s.index):vfy b r s=false:=by
 refine vfy_h ?_
 rcases h with (((h|h)|h)|h)|h
 ·unfold hdB;simp [h]
 ·unfold hdB;simp [h]
 ·unfold hdB;simp [h]
 ·cases hn:nodeB s.depth s.level s.index with
  | false=>unfold hdB;simp [hn]
  | true =>
   have h:¬(s.nl:Int)=((2^dpN s:Nat):Int):=fun e=>h (e.trans (sz_w hn).1.symm)
   have:Nat.beq s.nl (2^dpN s)=false:=by
    rw [Bool.eq_false_iff,ne_eq,Nat.beq_eq]
    exact fun e=>h (congrArg Int.ofNat e)
   unfold hdB;simp [this]
 ·unfold hdB;simp [h]
theorem okL_el {b:Bas} {s:Spend} {i:Nat} (h:okL b s i=true):elemB b.gr (lbF s i)=true:=by
 unfold okL leafB at h;simp only [Bool.and_eq_true] at h;exact h.1.1
theorem okL_no {b:Bas} {s:Spend} {i:Nat} (h:leafB b s.a (chS b s) (s.lf i 0) (s.lf i 1) (s.lf i 2)=false∨s.lf i 0∈(List.range i).map fun i=>lbF s (i+0)):okL b s i=false:=by
 unfold okL newB
 rcases h with h|h
 ·rw [h];rfl
 ·have h:lbF s i∈(List.range i).map (lbF s):=h
  rw [decide_eq_true h];simp
theorem okL_yes {b:Bas} {s:Spend} {i:Nat} (h:leafB b s.a (chS b s) (s.lf i 0) (s.lf i 1) (s.lf i 2)=true∧¬s.lf i 0∈(List.range i).map fun i=>lbF s (i+0)):okL b s i=true:=by
 unfold okL newB
 have h':¬lbF s i∈(List.range i).map (lbF s):=h.2
 rw [decide_eq_false h',h.1];rfl
theorem vfy_l {b:Bas} {r:Rcd} {s:Spend} {i:Nat} (hi:i<s.nl) (h:okL b s i=false):vfy b r s=false:=by
 unfold vfy;rw [allI_f hi h];simp
theorem vfy_t {b:Bas} {r:Rcd} {s:Spend} (hd:hdB b r s=true) (h:∀ i,i<s.nl→okL b s i=true):vfy b r s=((s.np:Int)==s.level&&hEq (folF (topF s) s.pidx s.pf s.np) s.root):=by
 unfold vfy;rw [hd,allI_t h];rfl
abbrev szR (s:Spend):Int:=IntKind.wrap .i64 (spanZ s.depth s.level s.index - spanA s.depth s.level s.index)
theorem sz_r {s:Spend} (h:nodeB s.depth s.level s.index=true):szR s=((2^dpN s:Nat):Int):=by
 have k:=node_t h
 have e:spanZ s.depth s.level s.index - spanA s.depth s.level s.index=((2^dpN s:Nat):Int):=by
  unfold spanZ spanA
  rw [if_pos h,if_pos h,Int.add_mul,Int.one_mul,Int.natCast_pow]
  show s.index*2^dpN s+2^dpN s - s.index*2^dpN s=2^dpN s
  generalize s.index*2^dpN s=y
  omega
 have hp:2^dpN s≤32:=by have:=pow5 (d:=dpN s) (k:=0) (sz_w h).2.2;rwa [Nat.sub_zero] at this
 unfold szR
 rw [e]
 have hi:((2^dpN s:Nat):Int)≤32:=Int.ofNat_le.2 hp
 have h0:(0:Int)≤((2^dpN s:Nat):Int):=Int.natCast_nonneg _
 generalize ((2^dpN s:Nat):Int)=y at hi h0
 exact wI (by omega) (by omega)
theorem cv_v {b:Bas} {r:Rcd} {c:Coin} (h:validB b=false):coinV b r c=false:=by
 cases hc:coinV b r c with
 | false=>rfl
 | true=>rw [(cv_ok hc).1] at h;cases h
theorem rhd_no {b:Bas} {r:Rcd} {s:Spend} (h:((validB b=false∨coinV b r s.coin=false)∨nodeB s.depth s.level s.index=false)∨ctxB s.time s.number=false):vfy b r s=false:=by
 refine vfy_h ?_
 rcases h with ((h|h)|h)|h
 ·unfold hdB;simp [cv_v h]
 ·unfold hdB;simp [h]
 ·unfold hdB;simp [h]
 ·unfold hdB;simp [h]
theorem rhd_ok {b:Bas} {r:Rcd} {s:Spend} (h:((validB b=true∧coinV b r s.coin=true)∧nodeB s.depth s.level s.index=true)∧ctxB s.time s.number=true) (h':((s.nl:Int)=szR s∧s.pidx=s.index)∧(s.np:Int)=s.level):HdOk b r s :=
 hd_ok ⟨⟨⟨⟨h.1.1.2,h.1.2⟩,h.2⟩,h'.1.1.trans ((sz_r h.1.2).trans (sz_w h.1.2).1.symm)⟩,h'.1.2⟩
theorem vfy_n {b:Bas} {r:Rcd} {s:Spend} (h:¬(s.np:Int)=s.level):vfy b r s=false:=by
 unfold vfy
 rw [show ((s.np:Int)==s.level)=false by simpa using h]
 simp
theorem rhd_no2 {b:Bas} {r:Rcd} {s:Spend} (h:((validB b=true∧coinV b r s.coin=true)∧nodeB s.depth s.level s.index=true)∧ctxB s.time s.number=true) (h':(¬(s.nl:Int)=szR s∨¬s.pidx=s.index)∨¬(s.np:Int)=s.level):vfy b r s=false:=by
 rcases h' with (h'|h')|h'
 ·exact hd_no (.inl (.inr fun e=>h' (e.trans ((sz_w h.1.2).1.trans (sz_r h.1.2).symm))))
 ·exact hd_no (.inr h')
 ·exact vfy_n h'
theorem vfy_r {b:Bas} {r:Rcd} {s:Spend} (hd:hdB b r s=true) (hn:(s.np:Int)=s.level) (h:∀ i,i<s.nl→okL b s i=true):vfy b r s=hEq (folF (topF s) s.pidx s.pf s.np) s.root:=by
 rw [vfy_t hd h,show ((s.np:Int)==s.level)=true by simpa using hn];rfl
theorem okL_n {b:Bas} {s:Spend} {i:Nat} (h:leafB b s.a (chS b s) (s.lf i 0) (s.lf i 1) (s.lf i 2)=true) (hk:∀ j,j<i→¬lbF s j=lbF s i):okL b s i=true :=
 okL_yes ⟨h,fun e=>by
  obtain ⟨j,hj,e⟩:=(mem_map_r (f:=fun i=>lbF s (i+0))).1 e
  exact hk j hj e⟩
theorem okL_l {b:Bas} {s:Spend} {i:Nat} (h:leafB b s.a (chS b s) (s.lf i 0) (s.lf i 1) (s.lf i 2)=false):okL b s i=false:=okL_no (.inl h)
theorem okL_m {b:Bas} {s:Spend} {i j:Nat} (hj:j<i) (h:s.lf j 0=s.lf i 0):okL b s i=false:=okL_no (.inr (mem_map_r.2 ⟨j,hj,h⟩))
theorem ne_next {f:Nat→Int} {v:Int} {i:Nat} (h:∀ j,j<i→¬f j=v) (hi:¬f i=v):∀ j,j<i+1→¬f j=v:=fun j hj=>by
 by_cases e:j=i
 ·subst e;exact hi
 ·exact h j (by omega)
end Go.Sp

namespace Go.Proofs.YtolcfdcoidpieaaGreatDoor
open Go Go.Am Go.Sp
set_option maxRecDepth 100000
theorem containsF_c (n:Nat) (f:Nat→Int) (v:Int) (hn:n≤1000):Pure Tryz.prog gl0 75 [.isl 1 n fun i _=>.int .i64 (f i),.int .i64 v] (.bool (decide (v∈(List.range n).map f))) :=
 (containsN_c ((List.range n).map f) v (by simp;omega)).via ⟨map_ent,Ent.refl _,trivial⟩
theorem tverS_c (r h:Nat→Int) (i l:Int) (n:Nat) (P:Nat→Nat→Int) (hl:0≤l∧l≤5) (hn:n≤1000000) (hi:0≤i∧i<2^l.toNat) (hh:byB h 32) (hP:∀ k,k<n→byB (P k) 32) :
  Pure Tryz.prog gl0 78 [.agg (u8c r),.agg (u8c h),.int .i64 l,.agg [.int .i64 i,hsl n P]] (.bool ((n:Int)==l&&hEq (folF h i P n) r)):=by
 obtain ⟨m,rfl⟩:∃ m:Nat,l=m:=⟨l.toNat,by omega⟩
 have hi2:i<((2^m:Nat):Int):=by
  have:=hi.2
  rw [show (m:Int).toNat=m by omega] at this
  rw [Int.natCast_pow]
  exact this
 by_cases e:n=m
 ·subst e
  rw [show ((n:Int)==(n:Int))=true by simp,Bool.true_and]
  exact tver_ok r h i n P (by omega) hi.1 hi2 hh hP
 ·rw [show ((n:Int)==(m:Int))=false by simp;omega,Bool.false_and]
  exact tver_no r h i m n P (by omega) e hn hi.1 hi2
theorem trootS_c (n d:Nat) (h:Nat→Nat→Int) (hn:n=2^d) (hd:d≤5) (hb:∀ i,i<n→byB (h i) 32):Pure Tryz.prog gl0 77 [hsl n h] (.tup [.agg (u8c (treF h d 0)),.int .i64 0]):=by
 subst hn
 exact troot_c d hd h hb
theorem vfy_c (b:Bas) (r:Rcd) (s:Spend) (hw:b.gr.W) (hr:byB s.root 32) (hp:byB s.payee 32) (hf:∀ k,k<s.np→byB (s.pf k) 32) (hn:s.np≤1000000) (hl:s.nl≤1000):Pure Tryz.prog gl0 37 [b.av,r.av,s.av] (.bool (vfy b r s)):=by
 have c1:=cval_c b r s.coin hw hr
 have c2:=node_c s.depth s.level s.index
 have c3:=context_c s.cxt
 have c4:=chal_c b s.coin s.level s.index s.cxt hr hp
 have c5:=fun x r1 r2 hv ha hk=>sright_c b s.a (chS b s) x r1 r2 hw hv ha hk
 have c6:=fun N h1 h2 h3 h4=>chash_n b N h1 h2 (lbF s) hw h3 h4
 have c7:=fun n h1 h2 h3=>trootS_c n (dpN s) (fun i=>leafF (lbF s i)) h1 h2 h3
 have c8:=fun h1 h2 h3=>tverS_c s.root (topF s) s.pidx s.level s.np s.pf h1 hn h2 h3 hf
 refine pure_sk (own:=ow0) Tryz.func37 (by kernel_rfl) mixed (by kernel_rfl)
  (.sc (true) 70 ([AV.agg (Bas.cells b),AV.agg (Rcd.cells r),AV.agg (Zi s.1::Zi s.2::Zi s.3::Zi s.4::Zi s.5::(u8c s.6++[Zi s.7,Zi s.8,Zi s.9,Zi s.10]))]) (AV.bool (coinV b r (Spend.coin s))) (.sc ((!coinV b r (Spend.coin s))==false) 71 ([Zi s.4,AV.agg [Zi s.11,Zi s.12]]) (AV.bool (nodeB (Spend.depth s) (Spend.level s) (Spend.index s))) (.sc ((!coinV b r (Spend.coin s) || !nodeB s.4 s.11 s.12)==false) 72 ([AV.agg (u8c s.13++[Zi s.14,Zi s.15])]) (AV.bool (ctxB (Cxt.time (Spend.cxt s)) (Cxt.number (Spend.cxt s)))) (.req (((!coinV b r (Spend.coin s) || !nodeB s.4 s.11 s.12 || !ctxB s.14 s.15)==false)=true→(0:Int)≤IntKind.wrap IntKind.i64 (s.4 - s.11)) (.br (!coinV b r (Spend.coin s) || !nodeB s.4 s.11 s.12 || !ctxB s.14 s.15||(↑s.16:Int) != IntKind.wrap IntKind.i64 ((1:Int)*(2:Int)^min (Int.toNat (IntKind.wrap IntKind.i64 (s.4 - s.11))) (64))||s.18 != s.12) (.out (AV.bool false) [] (AV.bool (vfy b r s)) []) (.sc (true) 73 ([AV.agg (Bas.cells b),AV.agg (Zi s.1::Zi s.2::Zi s.3::Zi s.4::Zi s.5::(u8c s.6++[Zi s.7,Zi s.8,Zi s.9,Zi s.10])),AV.agg [Zi s.11,Zi s.12],AV.agg (u8c s.13++[Zi s.14,Zi s.15])]) (Zi (chalN (Grp.q (Bas.gr b)) (Spend.coin s) (Spend.level s) (Spend.index s) (Spend.cxt s))) (.loop ({ x:Nat // x≤Spend.nl s∧(fun (x:Nat)=>∀ (j:Nat),j<x→okL b s j=true) x }) (fun (x:{ x:Nat // x≤Spend.nl s∧(fun (x:Nat)=>∀ (j:Nat),j<x→okL b s j=true) x })=>mkSt [2,3,5,7,67,68,8,69] [AV.agg (Spend.cells s),AV.own (0) (6) (0) (0) (6),AV.own (1) (80) (0) (0) (80),Zi (chalN (Bas.gr b).2 (Spend.coin s) s.11 s.12 (Spend.cxt s)),AV.isl (3) s.16 fun (i j:Nat)=>Zi (s.17 i j),Zi (↑s.16:Int),AV.osl (2:Nat) (1:Nat) (0:Nat) (x.1),Zi (↑(x.1):Int)] [some ⟨6,1,true,Rep.lst [Bas.cells b]⟩,some ⟨80,1,true,Rep.lst [Spend.cells s]⟩,some ⟨(1:Nat),x.1,true,Rep.fn fun (i x:Nat)=>Zi (lbF s i)⟩]) (fun (x:{ x:Nat // x≤Spend.nl s∧(fun (x:Nat)=>∀ (j:Nat),j<x→okL b s j=true) x })=>Spend.nl s - x.1) (⟨(0:Nat),⟨Nat.zero_le (Spend.nl s),fun (j:Nat) (hj:j<(0:Nat))=>absurd hj (Nat.not_lt_zero j)⟩⟩) ([2,3,5,7,67,68,8,69]) ([0,16,754]) ([AV.agg (Spend.cells s),AV.own (0) (6) (0) (0) (6),AV.own (1) (80) (0) (0) (80),Zi (chalN (Bas.gr b).2 (Spend.coin s) s.11 s.12 (Spend.cxt s)),AV.isl (3) s.16 fun (i j:Nat)=>Zi (s.17 i j),Zi (↑s.16:Int),AV.nsl,Zi 0]) ([some ⟨6,1,true,Rep.lst [Bas.cells b]⟩,some ⟨80,1,true,Rep.lst [Spend.cells s]⟩,some ⟨1,0,true,Rep.lst []⟩]) (fun x7=>(.br (decide ((↑x7.1:Int)<(↑s.16:Int))) (.req ((0:Int)≤(↑x7.1:Int)∧(↑x7.1:Int)<(↑s.16:Int)) (.sc (true) 74 ([AV.agg (Bas.cells b),Zi s.5,Zi (chalN (Bas.gr b).2 (Spend.coin s) s.11 s.12 (Spend.cxt s)),AV.agg [Zi (s.17 (Int.toNat (↑x7.1:Int)) (0)),Zi (s.17 (Int.toNat (↑x7.1:Int)) (1)),Zi (s.17 (Int.toNat (↑x7.1:Int)) (2))]]) (AV.bool (leafB b (Spend.a s) (chS b s) (s.17 (Int.toNat (↑x7.1:Int)) (0)) (s.17 (Int.toNat (↑x7.1:Int)) (1)) (s.17 (Int.toNat (↑x7.1:Int)) (2)))) (.sc ((!leafB b s.5 (chS b s) (s.17 (Int.toNat (↑x7.1:Int)) (0)) (s.17 (Int.toNat (↑x7.1:Int)) (1)) (s.17 (Int.toNat (↑x7.1:Int)) (2)))==false) 75 ([AV.isl (1) x7.1 fun (r k:Nat)=>Zi (lbF s (r+0)),Zi (s.17 (Int.toNat (↑x7.1:Int)) (0))]) (AV.bool (decide (s.17 (Int.toNat (↑x7.1:Int)) (0)∈List.map (fun (i:Nat)=>lbF s (i+0)) (List.range x7.1)))) (.br (!leafB b s.5 (chS b s) (s.17 (Int.toNat (↑x7.1:Int)) (0)) (s.17 (Int.toNat (↑x7.1:Int)) (1)) (s.17 (Int.toNat (↑x7.1:Int)) (2))||decide (s.17 (Int.toNat (↑x7.1:Int)) (0)∈List.map (fun (i:Nat)=>lbF s (i+0)) (List.range x7.1))) (.out (AV.bool false) [] (AV.bool (vfy b r s)) []) (.req ((x7.1+1)*8≤140737488355328) (.again (Again (0) (fun (x:{ x:Nat // x≤Spend.nl s∧(fun (x:Nat)=>∀ (j:Nat),j<x→okL b s j=true) x })=>mkSt [2,3,5,7,67,68,8,69] [AV.agg (Spend.cells s),AV.own (0) (6) (0) (0) (6),AV.own (1) (80) (0) (0) (80),Zi (chalN (Bas.gr b).2 (Spend.coin s) s.11 s.12 (Spend.cxt s)),AV.isl (3) s.16 fun (i j:Nat)=>Zi (s.17 i j),Zi (↑s.16:Int),AV.osl (2:Nat) (1:Nat) (0:Nat) (x.1),Zi (↑(x.1):Int)] [some ⟨6,1,true,Rep.lst [Bas.cells b]⟩,some ⟨80,1,true,Rep.lst [Spend.cells s]⟩,some ⟨(1:Nat),x.1,true,Rep.fn fun (i x:Nat)=>Zi (lbF s i)⟩]) (fun (x:{ x:Nat // x≤Spend.nl s∧(fun (x:Nat)=>∀ (j:Nat),j<x→okL b s j=true) x })=>Spend.nl s - x.1) x7) ([2,3,5,7,67,68,8,69]) ([0,1,187]) ([AV.agg (Spend.cells s),AV.own (0) (6) (0) (0) (6),AV.own (1) (80) (0) (0) (80),Zi (chalN (Bas.gr b).2 (Spend.coin s) s.11 s.12 (Spend.cxt s)),AV.isl (3) s.16 fun (i j:Nat)=>Zi (s.17 i j),Zi (↑s.16:Int),AV.osl (2) (1) (0) (x7.1+1),Zi (IntKind.wrap IntKind.i64 ((↑x7.1:Int)+(1:Int)))]) ([some ⟨6,1,true,Rep.lst [Bas.cells b]⟩,some ⟨80,1,true,Rep.lst [Spend.cells s]⟩,some ⟨1,x7.1+1,true,Rep.fn fun (i j:Nat)=>Zi (bif Nat.blt i x7.1 then lbF s i else intOfAV (atL [Zi (s.17 (Int.toNat (↑(x7.1):Int)) (0))] j))⟩]))))))) (.dc (true) 76 ([AV.agg (Bas.cells b),AV.isl (1) x7.1 fun (r k:Nat)=>Zi (lbF s (r+0))]) (AV.tup [hsl x7.1 fun (i:Nat)=>leafF (lbF s i),Zi 0]) (.ff (.sc (true) 77 ([AV.isl (32) x7.1 fun (i j:Nat)=>Zb (leafF (lbF s i) j)]) (AV.tup [AV.agg (u8c (treF (fun (i:Nat)=>leafF (lbF s i)) (dpN s) (0:Nat))),Zi 0]) (.sc (true) 78 ([AV.agg (u8c s.6),AV.agg (u8c (treF (fun (i:Nat)=>leafF (lbF s i)) (dpN s) (0))),Zi s.11,AV.agg [Zi s.18,AV.isl (32) s.19 fun (i j:Nat)=>Zb (s.20 i j)]]) (AV.bool ((↑(Spend.np s):Int)==Spend.level s&&hEq (folF (topF s) (Spend.pidx s) (Spend.pf s) (Spend.np s)) (Spend.root s))) (.out (AV.bool ((↑s.19:Int)==s.11&&hEq (folF (topF s) s.18 s.20 s.19) s.6)) [] (AV.bool (vfy b r s)) []))))))))))))))
  (by kernel_rfl) ?_
 refine k_sc (c1) ?_
 refine k_scg (fun h1=>c2) ?_
 refine k_scg (fun h2=>c3) ?_
 refine k_req (fun hr=>by have hr:=(cnd_eqf_t (cnd_or_f (cnd_or_f (cnd_not_f cnd_id_t) (cnd_not_f cnd_id_t)) (cnd_not_f cnd_id_t))) hr;have k:=node_t hr.1.2;have e:=(sz_w hr.1.2).2.1;rw [e];omega) ?_
 refine k_br (fun h4 => ?_) (fun h4 => ?_)
 ·have g4:=(cnd_or_t (cnd_or_t (cnd_or_t (cnd_or_t (cnd_not_t cnd_id_f) (cnd_not_t cnd_id_f)) (cnd_not_t cnd_id_f)) cnd_bne_t) cnd_bne_t) h4
  exact k_out (Ent.of_eq (congrArg _ (hd_no g4).symm))
 ·have g4:=(cnd_or_f (cnd_or_f (cnd_or_f (cnd_or_f (cnd_not_f cnd_id_t) (cnd_not_f cnd_id_t)) (cnd_not_f cnd_id_t)) cnd_bne_f) cnd_bne_f) h4
  refine k_sc (c4 (by (cases hd_ok g4;assumption)) (by (cases hd_ok g4;assumption))) ?_
  refine k_loop (fun _ hs=>hs.le (by repeat' (first|exact trivial|(first|exact Ent.refl _|exact inc_ent (by omega)|exact Ent.nil rfl|exact Ent.of_eq (congrArg (AV.osl _ _ _) (by first|omega|(dsimp only;omega)))|exact Ent.of_eq (congrArg (AV.int _) (by first|omega|(dsimp only;omega))))|refine And.intro ?_ ?_)) (by repeat' (first|exact trivial|(first|exact ObEnt.refl _|exact ObEnt.junk|exact ObEnt.zero|exact ObEnt.push rfl rfl|exact ObEnt.pushRow rfl|exact ObEnt.len (by omega)|exact ObEnt.row (by repeat' (first|exact trivial|(first|exact Ent.refl _|exact inc_ent (by omega)|exact Ent.nil rfl|exact Ent.of_eq (congrArg (AV.osl _ _ _) (by first|omega|(dsimp only;omega)))|exact Ent.of_eq (congrArg (AV.int _) (by first|omega|(dsimp only;omega))))|refine And.intro ?_ ?_)))|refine And.intro ?_ ?_))) (fun x7 => ?_)
  try (have q7:=x7.2;dsimp only at q7)
  refine k_br (fun h8 => ?_) (fun h8 => ?_)
  ·have g8:=cnd_dec_t h8
   refine k_req (by omega) ?_
   refine k_sc (c5 (s.17 (Int.toNat (↑x7.1:Int)) (0)) (s.17 (Int.toNat (↑x7.1:Int)) (1)) (s.17 (Int.toNat (↑x7.1:Int)) (2)) (by (cases hd_ok g4;assumption)) (by (cases hd_ok g4;assumption)) (by (cases hd_ok g4;assumption))) ?_
   refine k_scg (fun h11=>containsF_c (x7.1) (fun (i:Nat)=>lbF s (i+0)) (s.17 (Int.toNat (↑x7.1:Int)) (0)) (by omega)) ?_
   refine k_br (fun h12 => ?_) (fun h12 => ?_)
   ·have g12:=(cnd_or_t (cnd_not_t cnd_id_f) cnd_dec_t) h12
    try simp only [Int.toNat_natCast] at g12
    exact k_out (Ent.of_eq (congrArg _ (vfy_l (by omega) (okL_no g12)).symm))
   ·have g12:=(cnd_or_f (cnd_not_f cnd_id_t) cnd_dec_f) h12
    try simp only [Int.toNat_natCast] at g12
    refine k_req (by omega) ?_
    exact k_again (⟨x7.1+1,by omega,all_next x7.2.2 (okL_yes g12)⟩) (fun _ hs=>hs.le (⟨.refl _,.refl _,.refl _,.refl _,.refl _,.refl _,.refl _,inc_ent (by omega),trivial⟩) (⟨.refl _,.refl _,.push rfl rfl,trivial⟩)) (by (dsimp only;omega))
  ·have g8:=cnd_dec_f h8
   refine k_dc (c6 (x7.1) (by (cases hd_ok g4;rw [show x7.1=s.nl by omega];assumption)) (by (cases hd_ok g4;rw [show x7.1=s.nl by omega];assumption)) (by (cases hd_ok g4;assumption)) (by exact fun i hi=>okL_el (x7.2.2 i hi))) ?_
   refine k_ff ?_
   refine k_sc (c7 (x7.1) (by (cases hd_ok g4;rw [show x7.1=s.nl by omega];assumption)) (by (cases hd_ok g4;assumption)) (by exact fun i _=>leafF_by _)) ?_
   refine k_sc (c8 (by (cases hd_ok g4;assumption)) (by (cases hd_ok g4;assumption)) (by (cases hd_ok g4;assumption))) ?_
   exact k_out (Ent.of_eq (congrArg _ (vfy_t (hd_ok g4).hd (fun i hi=>x7.2.2 i (by omega))).symm))
theorem rtop_c (s:Spend) (n:Nat) (h1:n=2^dpN s) (hd:dpN s≤5):Pure Tryz.prog gl0 84 [hsl n (fun i=>leafF (lbF s i)),.int .i64 0,.int .i64 0] (.agg (u8c (topF s))):=by
 subst h1
 have h:=tnode_c (dpN s) hd (fun i=>leafF (lbF s i)) (fun i _=>leafF_by _) (dpN s) 0 (Nat.le_refl _) (by rw [Nat.sub_self];decide)
 rwa [Nat.sub_self] at h
theorem rvfy_c (b:Bas) (r:Rcd) (s:Spend) (hw:b.gr.W) (hr:byB s.root 32) (hp:byB s.payee 32) (hf:∀ k,k<s.np→byB (s.pf k) 32) (hn:s.np≤1000000) (hl:s.nl≤1000):Pure Tryz.prog gl0 41 [b.av,r.av,s.av] (.bool (vfy b r s)):=by
 have c0:=r11valid_c b hw
 have c1:=rcval_c b r s.coin hw hr
 have c2:=rnode_c s.depth s.level s.index
 have c3:=rctx_c s.cxt
 have c9:=fun h=>rspan_c s.depth s.level s.index h
 have c4:=rchal_c b s.coin s.level s.index s.cxt hr hp
 have c5:=fun x r1 r2 hv ha hk=>rleaf_c b s.a (chS b s) x r1 r2 hv ha hk
 have c6:=fun n h1=>rhash_c n h1 (lbF s)
 have c7:=rtop_c s
 have c8:=fun h1 h2 h3=>rfol_c (topF s) s.pidx s.np s.pf hn h1 h2 h3 hf
 refine pure_sk (own:=ow0) Tryz.func41 (by kernel_rfl) mixed (by kernel_rfl)
  (.sc (true) 19 ([AV.agg (Bas.cells b)]) (AV.bool (validB b)) (.sc ((!validB b)==false) 58 ([AV.agg (Bas.cells b),AV.agg (Rcd.cells r),AV.agg (Zi s.1::Zi s.2::Zi s.3::Zi s.4::Zi s.5::(u8c s.6++[Zi s.7,Zi s.8,Zi s.9,Zi s.10]))]) (AV.bool (coinV b r (Spend.coin s))) (.sc ((!validB b || !coinV b r (Spend.coin s))==false) 21 ([Zi s.4,AV.agg [Zi s.11,Zi s.12]]) (AV.bool (nodeB (Spend.depth s) (Spend.level s) (Spend.index s))) (.sc ((!validB b || !coinV b r (Spend.coin s) || !nodeB s.4 s.11 s.12)==false) 22 ([AV.agg (u8c s.13++[Zi s.14,Zi s.15])]) (AV.bool (ctxB (Cxt.time (Spend.cxt s)) (Cxt.number (Spend.cxt s)))) (.br (!validB b || !coinV b r (Spend.coin s) || !nodeB s.4 s.11 s.12 || !ctxB s.14 s.15) (.out (AV.bool false) [] (AV.bool (vfy b r s)) []) (.sc (true) 80 ([Zi s.4,AV.agg [Zi s.11,Zi s.12]]) (AV.tup [Zi (spanA (Spend.depth s) (Spend.level s) (Spend.index s)),Zi (spanZ (Spend.depth s) (Spend.level s) (Spend.index s))]) (.br ((↑s.16:Int) != IntKind.wrap IntKind.i64 (spanZ s.4 s.11 s.12 - spanA s.4 s.11 s.12)||s.18 != s.12||(↑s.19:Int) != s.11) (.out (AV.bool false) [] (AV.bool (vfy b r s)) []) (.sc (true) 81 ([AV.agg (Bas.cells b),AV.agg (Zi s.1::Zi s.2::Zi s.3::Zi s.4::Zi s.5::(u8c s.6++[Zi s.7,Zi s.8,Zi s.9,Zi s.10])),AV.agg [Zi s.11,Zi s.12],AV.agg (u8c s.13++[Zi s.14,Zi s.15])]) (Zi (chalN (Grp.q (Bas.gr b)) (Spend.coin s) (Spend.level s) (Spend.index s) (Spend.cxt s))) (.loop ({ x:Nat // x≤Spend.nl s∧(fun (x:Nat)=>∀ (j:Nat),j<x→okL b s j=true) x }) (fun (x:{ x:Nat // x≤Spend.nl s∧(fun (x:Nat)=>∀ (j:Nat),j<x→okL b s j=true) x })=>mkSt [3,5,9,10,11] [AV.own (0) (6) (0) (0) (6),AV.own (1) (80) (0) (0) (80),Zi (chalN (Bas.gr b).2 (Spend.coin s) s.11 s.12 (Spend.cxt s)),AV.osl (2:Nat) (1:Nat) (0:Nat) (x.1),Zi (↑(x.1):Int)] [some ⟨6,1,true,Rep.lst [Bas.cells b]⟩,some ⟨80,1,true,Rep.lst [Spend.cells s]⟩,some ⟨(1:Nat),x.1,true,Rep.fn fun (i x:Nat)=>Zi (lbF s i)⟩]) (fun (x:{ x:Nat // x≤Spend.nl s∧(fun (x:Nat)=>∀ (j:Nat),j<x→okL b s j=true) x })=>Spend.nl s - x.1) (⟨(0:Nat),⟨Nat.zero_le (Spend.nl s),fun (j:Nat) (hj:j<(0:Nat))=>absurd hj (Nat.not_lt_zero j)⟩⟩) ([3,5,9,10,11]) ([0,16,882]) ([AV.own (0) (6) (0) (0) (6),AV.own (1) (80) (0) (0) (80),Zi (chalN (Bas.gr b).2 (Spend.coin s) s.11 s.12 (Spend.cxt s)),AV.nsl,Zi 0]) ([some ⟨6,1,true,Rep.lst [Bas.cells b]⟩,some ⟨80,1,true,Rep.lst [Spend.cells s]⟩,some ⟨1,0,true,Rep.lst []⟩]) (fun x10=>(.br (decide ((↑x10.1:Int)<(↑s.16:Int))) (.req ((0:Int)≤(↑x10.1:Int)∧(↑x10.1:Int)<(↑s.16:Int)) (.sc (true) 82 ([AV.agg (Bas.cells b),Zi s.5,Zi (chalN (Bas.gr b).2 (Spend.coin s) s.11 s.12 (Spend.cxt s)),AV.agg [Zi (s.17 (Int.toNat (↑x10.1:Int)) (0)),Zi (s.17 (Int.toNat (↑x10.1:Int)) (1)),Zi (s.17 (Int.toNat (↑x10.1:Int)) (2))]]) (AV.bool (leafB b (Spend.a s) (chS b s) (s.17 (Int.toNat (↑x10.1:Int)) (0)) (s.17 (Int.toNat (↑x10.1:Int)) (1)) (s.17 (Int.toNat (↑x10.1:Int)) (2)))) (.br (!leafB b s.5 (chS b s) (s.17 (Int.toNat (↑x10.1:Int)) (0)) (s.17 (Int.toNat (↑x10.1:Int)) (1)) (s.17 (Int.toNat (↑x10.1:Int)) (2))) (.out (AV.bool false) [] (AV.bool (vfy b r s)) []) (.loop ({ x:Nat // x≤x10.1∧(fun (k:Nat)=>∀ (j:Nat),j<k→¬lbF s j=lbF s (x10.1)) x }) (fun (x:{ x:Nat // x≤x10.1∧(fun (k:Nat)=>∀ (j:Nat),j<k→¬lbF s j=lbF s (x10.1)) x })=>mkSt [3,5,9,10,11,12] [AV.own (0) (6) (0) (0) (6),AV.own (1) (80) (0) (0) (80),Zi (chalN (Bas.gr b).2 (Spend.coin s) s.11 s.12 (Spend.cxt s)),AV.osl (2) (1) (0) x10.1,Zi (↑x10.1:Int),Zi (↑(x.1):Int)] [some ⟨6,1,true,Rep.lst [Bas.cells b]⟩,some ⟨80,1,true,Rep.lst [Spend.cells s]⟩,some ⟨1,x10.1,true,Rep.fn fun (i j:Nat)=>Zi (lbF s i)⟩]) (fun (x:{ x:Nat // x≤x10.1∧(fun (k:Nat)=>∀ (j:Nat),j<k→¬lbF s j=lbF s (x10.1)) x })=>x10.1 - x.1) (⟨(0:Nat),⟨Nat.zero_le (x10.1),fun (j:Nat) (hj:j<(0:Nat))=>absurd hj (Nat.not_lt_zero j)⟩⟩) ([3,5,9,10,11,12]) ([0,1,2]) ([AV.own (0) (6) (0) (0) (6),AV.own (1) (80) (0) (0) (80),Zi (chalN (Bas.gr b).2 (Spend.coin s) s.11 s.12 (Spend.cxt s)),AV.osl (2) (1) (0) x10.1,Zi (↑x10.1:Int),Zi 0]) ([some ⟨6,1,true,Rep.lst [Bas.cells b]⟩,some ⟨80,1,true,Rep.lst [Spend.cells s]⟩,some ⟨1,x10.1,true,Rep.fn fun (i j:Nat)=>Zi (lbF s i)⟩]) (fun x16=>(.br (decide ((↑x16.1:Int)<(↑x10.1:Int))) (.req ((0:Int)≤(↑x16.1:Int)∧(↑x16.1:Int)<(↑s.16:Int)) (.req ((0:Int)≤(↑x10.1:Int)∧(↑x10.1:Int)<(↑s.16:Int)) (.br (s.17 (Int.toNat (↑x16.1:Int)) (0)==s.17 (Int.toNat (↑x10.1:Int)) (0)) (.out (AV.bool false) [] (AV.bool (vfy b r s)) []) (.again (Again (0) (fun (x:{ x:Nat // x≤x10.1∧(fun (k:Nat)=>∀ (j:Nat),j<k→¬lbF s j=lbF s (x10.1)) x })=>mkSt [3,5,9,10,11,12] [AV.own (0) (6) (0) (0) (6),AV.own (1) (80) (0) (0) (80),Zi (chalN (Bas.gr b).2 (Spend.coin s) s.11 s.12 (Spend.cxt s)),AV.osl (2) (1) (0) x10.1,Zi (↑x10.1:Int),Zi (↑(x.1):Int)] [some ⟨6,1,true,Rep.lst [Bas.cells b]⟩,some ⟨80,1,true,Rep.lst [Spend.cells s]⟩,some ⟨1,x10.1,true,Rep.fn fun (i j:Nat)=>Zi (lbF s i)⟩]) (fun (x:{ x:Nat // x≤x10.1∧(fun (k:Nat)=>∀ (j:Nat),j<k→¬lbF s j=lbF s (x10.1)) x })=>x10.1 - x.1) x16) ([3,5,9,10,11,12]) ([0,1,2]) ([AV.own (0) (6) (0) (0) (6),AV.own (1) (80) (0) (0) (80),Zi (chalN (Bas.gr b).2 (Spend.coin s) s.11 s.12 (Spend.cxt s)),AV.osl (2) (1) (0) x10.1,Zi (↑x10.1:Int),Zi (IntKind.wrap IntKind.i64 ((↑x16.1:Int)+(1:Int)))]) ([some ⟨6,1,true,Rep.lst [Bas.cells b]⟩,some ⟨80,1,true,Rep.lst [Spend.cells s]⟩,some ⟨1,x10.1,true,Rep.fn fun (i j:Nat)=>Zi (lbF s i)⟩]))))) (.req ((0:Int)≤(↑x10.1:Int)∧(↑x10.1:Int)<(↑s.16:Int)) (.req ((x10.1+1)*8≤140737488355328) (.again (Again (0) (fun (x:{ x:Nat // x≤Spend.nl s∧(fun (x:Nat)=>∀ (j:Nat),j<x→okL b s j=true) x })=>mkSt [3,5,9,10,11] [AV.own (0) (6) (0) (0) (6),AV.own (1) (80) (0) (0) (80),Zi (chalN (Bas.gr b).2 (Spend.coin s) s.11 s.12 (Spend.cxt s)),AV.osl (2:Nat) (1:Nat) (0:Nat) (x.1),Zi (↑(x.1):Int)] [some ⟨6,1,true,Rep.lst [Bas.cells b]⟩,some ⟨80,1,true,Rep.lst [Spend.cells s]⟩,some ⟨(1:Nat),x.1,true,Rep.fn fun (i x:Nat)=>Zi (lbF s i)⟩]) (fun (x:{ x:Nat // x≤Spend.nl s∧(fun (x:Nat)=>∀ (j:Nat),j<x→okL b s j=true) x })=>Spend.nl s - x.1) x10) ([3,5,9,10,11]) ([0,1,91]) ([AV.own (0) (6) (0) (0) (6),AV.own (1) (80) (0) (0) (80),Zi (chalN (Bas.gr b).2 (Spend.coin s) s.11 s.12 (Spend.cxt s)),AV.osl (2) (1) (0) (x10.1+1),Zi (IntKind.wrap IntKind.i64 ((↑x10.1:Int)+(1:Int)))]) ([some ⟨6,1,true,Rep.lst [Bas.cells b]⟩,some ⟨80,1,true,Rep.lst [Spend.cells s]⟩,some ⟨1,x10.1+1,true,Rep.fn fun (i j:Nat)=>Zi (bif Nat.blt i x10.1 then lbF s i else intOfAV (atL [Zi (s.17 (Int.toNat (↑x10.1:Int)) (0))] j))⟩])))))))))) (.dc (true) 85 ([AV.isl (1) x10.1 fun (r k:Nat)=>Zi (lbF s (r+0))]) (hsl x10.1 fun (i:Nat)=>leafF (lbF s i)) (.sc (true) 84 ([AV.isl (32) x10.1 fun (i j:Nat)=>Zb (leafF (lbF s i) j),Zi 0,Zi 0]) (AV.agg (u8c (topF s))) (.sc (true) 83 ([AV.agg (u8c (topF s)),AV.agg [Zi s.18,AV.isl (32) s.19 fun (i j:Nat)=>Zb (s.20 i j)]]) (AV.agg (u8c (folF (topF s) (Spend.pidx s) (Spend.pf s) (Spend.np s)))) (.out (AV.bool (folF (topF s) s.18 s.20 s.19 (0)==s.6 (0)&&(folF (topF s) s.18 s.20 s.19 (1)==s.6 (1)&&(folF (topF s) s.18 s.20 s.19 (2)==s.6 (2)&&(folF (topF s) s.18 s.20 s.19 (3)==s.6 (3)&&(folF (topF s) s.18 s.20 s.19 (4)==s.6 (4)&&(folF (topF s) s.18 s.20 s.19 (5)==s.6 (5)&&(folF (topF s) s.18 s.20 s.19 (6)==s.6 (6)&&(folF (topF s) s.18 s.20 s.19 (7)==s.6 (7)&&(folF (topF s) s.18 s.20 s.19 (8)==s.6 (8)&&(folF (topF s) s.18 s.20 s.19 (9)==s.6 (9)&&(folF (topF s) s.18 s.20 s.19 (10)==s.6 (10)&&(folF (topF s) s.18 s.20 s.19 (11)==s.6 (11)&&(folF (topF s) s.18 s.20 s.19 (12)==s.6 (12)&&(folF (topF s) s.18 s.20 s.19 (13)==s.6 (13)&&(folF (topF s) s.18 s.20 s.19 (14)==s.6 (14)&&(folF (topF s) s.18 s.20 s.19 (15)==s.6 (15)&&(folF (topF s) s.18 s.20 s.19 (16)==s.6 (16)&&(folF (topF s) s.18 s.20 s.19 (17)==s.6 (17)&&(folF (topF s) s.18 s.20 s.19 (18)==s.6 (18)&&(folF (topF s) s.18 s.20 s.19 (19)==s.6 (19)&&(folF (topF s) s.18 s.20 s.19 (20)==s.6 (20)&&(folF (topF s) s.18 s.20 s.19 (21)==s.6 (21)&&(folF (topF s) s.18 s.20 s.19 (22)==s.6 (22)&&(folF (topF s) s.18 s.20 s.19 (23)==s.6 (23)&&(folF (topF s) s.18 s.20 s.19 (24)==s.6 (24)&&(folF (topF s) s.18 s.20 s.19 (25)==s.6 (25)&&(folF (topF s) s.18 s.20 s.19 (26)==s.6 (26)&&(folF (topF s) s.18 s.20 s.19 (27)==s.6 (27)&&(folF (topF s) s.18 s.20 s.19 (28)==s.6 (28)&&(folF (topF s) s.18 s.20 s.19 (29)==s.6 (29)&&(folF (topF s) s.18 s.20 s.19 (30)==s.6 (30)&&(folF (topF s) s.18 s.20 s.19 (31)==s.6 (31)&&true))))))))))))))))))))))))))))))))) [] (AV.bool (vfy b r s)) [])))))))))))))))
  (by kernel_rfl) ?_
 refine k_sc (c0) ?_
 refine k_scg (fun h1=>c1) ?_
 refine k_scg (fun h2=>c2) ?_
 refine k_scg (fun h3=>c3) ?_
 refine k_br (fun h4 => ?_) (fun h4 => ?_)
 ·have g4:=(cnd_or_t (cnd_or_t (cnd_or_t (cnd_not_t cnd_id_f) (cnd_not_t cnd_id_f)) (cnd_not_t cnd_id_f)) (cnd_not_t cnd_id_f)) h4
  exact k_out (Ent.of_eq (congrArg _ (rhd_no g4).symm))
 ·have g4:=(cnd_or_f (cnd_or_f (cnd_or_f (cnd_not_f cnd_id_t) (cnd_not_f cnd_id_t)) (cnd_not_f cnd_id_t)) (cnd_not_f cnd_id_t)) h4
  refine k_sc (c9 (g4.1.2)) ?_
  refine k_br (fun h7 => ?_) (fun h7 => ?_)
  ·have g7:=(cnd_or_t (cnd_or_t cnd_bne_t cnd_bne_t) cnd_bne_t) h7
   exact k_out (Ent.of_eq (congrArg _ (rhd_no2 g4 g7).symm))
  ·have g7:=(cnd_or_f (cnd_or_f cnd_bne_f cnd_bne_f) cnd_bne_f) h7
   refine k_sc (c4 (by (cases rhd_ok g4 g7;assumption)) (by (cases rhd_ok g4 g7;assumption))) ?_
   refine k_loop (fun _ hs=>hs.le (by repeat' (first|exact trivial|(first|exact Ent.refl _|exact inc_ent (by omega)|exact Ent.nil rfl|exact Ent.of_eq (congrArg (AV.osl _ _ _) (by first|omega|(dsimp only;omega)))|exact Ent.of_eq (congrArg (AV.int _) (by first|omega|(dsimp only;omega))))|refine And.intro ?_ ?_)) (by repeat' (first|exact trivial|(first|exact ObEnt.refl _|exact ObEnt.junk|exact ObEnt.zero|exact ObEnt.push rfl rfl|exact ObEnt.pushRow rfl|exact ObEnt.len (by omega)|exact ObEnt.row (by repeat' (first|exact trivial|(first|exact Ent.refl _|exact inc_ent (by omega)|exact Ent.nil rfl|exact Ent.of_eq (congrArg (AV.osl _ _ _) (by first|omega|(dsimp only;omega)))|exact Ent.of_eq (congrArg (AV.int _) (by first|omega|(dsimp only;omega))))|refine And.intro ?_ ?_)))|refine And.intro ?_ ?_))) (fun x10 => ?_)
   try (have q10:=x10.2;dsimp only at q10)
   refine k_br (fun h11 => ?_) (fun h11 => ?_)
   ·have g11:=cnd_dec_t h11
    refine k_req (by omega) ?_
    refine k_sc (c5 (s.17 (Int.toNat (↑x10.1:Int)) (0)) (s.17 (Int.toNat (↑x10.1:Int)) (1)) (s.17 (Int.toNat (↑x10.1:Int)) (2)) (by exact validB_iff.1 (rhd_ok g4 g7).v) (by (cases rhd_ok g4 g7;assumption)) (by (cases rhd_ok g4 g7;assumption))) ?_
    refine k_br (fun h14 => ?_) (fun h14 => ?_)
    ·have g14:=(cnd_not_t cnd_id_f) h14
     try simp only [Int.toNat_natCast] at g14
     exact k_out (Ent.of_eq (congrArg _ (vfy_l (by omega) (okL_l g14)).symm))
    ·have g14:=(cnd_not_f cnd_id_t) h14
     try simp only [Int.toNat_natCast] at g14
     refine k_loop (fun _ hs=>hs.le (⟨.refl _,.refl _,.refl _,.refl _,.refl _,.refl _,trivial⟩) (⟨.refl _,.refl _,.refl _,trivial⟩)) (fun x16 => ?_)
     try (have q16:=x16.2;dsimp only at q16)
     refine k_br (fun h17 => ?_) (fun h17 => ?_)
     ·have g17:=cnd_dec_t h17
      refine k_req (by omega) ?_
      refine k_req (by omega) ?_
      refine k_br (fun h20 => ?_) (fun h20 => ?_)
      ·have g20:=cnd_beq_t h20
       try simp only [Int.toNat_natCast] at g20
       exact k_out (Ent.of_eq (congrArg _ (vfy_l (i:=x10.1) (by omega) (okL_m (by omega) g20)).symm))
      ·have g20:=cnd_beq_f h20
       try simp only [Int.toNat_natCast] at g20
       exact k_again (⟨x16.1+1,by omega,ne_next x16.2.2 g20⟩) (fun _ hs=>hs.le (⟨.refl _,.refl _,.refl _,.refl _,.refl _,inc_ent (by omega),trivial⟩) (⟨.refl _,.refl _,.refl _,trivial⟩)) (by (dsimp only;omega))
     ·have g17:=cnd_dec_f h17
      refine k_req (by omega) ?_
      refine k_req (by omega) ?_
      exact k_again (⟨x10.1+1,by omega,all_next x10.2.2 (okL_n g14 (fun j hj=>x16.2.2 j (by omega)))⟩) (fun _ hs=>hs.le (⟨.refl _,.refl _,.refl _,.refl _,inc_ent (by omega),trivial⟩) (⟨.refl _,.refl _,.push rfl rfl,trivial⟩)) (by (dsimp only;omega))
   ·have g11:=cnd_dec_f h11
    refine k_dc (c6 (x10.1) (by omega)) ?_
    refine k_sc (c7 (x10.1) (by (cases rhd_ok g4 g7;rw [show x10.1=s.nl by omega];assumption)) (by (cases rhd_ok g4 g7;assumption))) ?_
    refine k_sc (c8 (by (cases rhd_ok g4 g7;assumption)) (by (cases rhd_ok g4 g7;assumption)) (by (cases rhd_ok g4 g7;assumption))) ?_
    exact k_out (Ent.of_eq (congrArg _ (vfy_r (rhd_ok g4 g7).hd g7.2 (fun i hi=>x10.2.2 i (by omega))).symm))
end Go.Proofs.YtolcfdcoidpieaaGreatDoor

namespace Go.Sp
open Go Go.Am
abbrev rcl (n:Nat) (R:Nat→Nat→Int):AV:=.isl 11 n fun i j=>.int .i64 (R i j)
def rcdOf (f:Nat→Int):Rcd:=⟨f 0,f 1,f 2,f 3,f 4,f 5,f 6,f 7,f 8,f 9,f 10⟩
def fnB (R:Nat→Nat→Int) (k e d:Int) (i:Nat):Bool:=R i 0==k&&R i 1==e&&R i 2==d
def fnI (R:Nat→Nat→Int) (n:Nat) (k e d:Int):Int:=firstI (fnB R k e d) n 0
def fnS (R:Nat→Nat→Int) (n:Nat) (s:Spend):Int:=fnI R n s.bank s.epoch s.denom
def rcX (R:Nat→Nat→Int) (n:Nat) (s:Spend):Rcd:=bif decide (fnS R n s≥0) then rcdOf (R (fnS R n s).toNat) else rcdOf fun _=>0
def verd (b:Bas) (R:Nat→Nat→Int) (n:Nat) (s:Spend):Bool:=decide (fnS R n s≥0)&&vfy b (rcX R n s) s
theorem fnI_lt {R:Nat→Nat→Int} {n:Nat} {k e d:Int} (h:¬fnI R n k e d<0):0≤fnI R n k e d∧fnI R n k e d<n:=by
 have:=firstI_lt (p:=fnB R k e d) n 0
 unfold fnI at *
 omega
theorem rcX_no {R:Nat→Nat→Int} {n:Nat} {s:Spend} (h:fnS R n s<0):rcX R n s=rcdOf fun _=>0:=by
 unfold rcX;rw [decide_eq_false (by omega)];rfl
theorem rcX_ok {R:Nat→Nat→Int} {n:Nat} {s:Spend} (h:¬fnS R n s<0):rcX R n s=rcdOf (R (fnS R n s).toNat):=by
 unfold rcX;rw [decide_eq_true (by omega)];rfl
noncomputable def glK (b:Bas) (s t:Spend) (leaf:Int):Int×Int :=
 if (secR b s t leaf).2=0 then (if (secR b s t leaf).1=0∨msgI b (secR b s t leaf).1=1 then (0,10) else (b.g1^(secR b s t leaf).1.toNat%b.gr.p,0)) else (0,(secR b s t leaf).2)
def vd2 (b:Bas) (R:Nat→Nat→Int) (n:Nat) (s t:Spend):Bool:=verd b R n s&&verd b R n t
noncomputable def xvK (b:Bas) (R:Nat→Nat→Int) (n:Nat) (s t:Spend) (leaf:Int):Int:=bif vd2 b R n s t then (glK b s t leaf).1 else 0
noncomputable def xvB (b:Bas) (R:Nat→Nat→Int) (n:Nat) (s t:Spend) (leaf:Int):Bool:=vd2 b R n s t&&(glK b s t leaf).2==0
theorem rec_no {R:Nat→Nat→Int} {n:Nat} {s:Spend} (h:fnS R n s<0):AV.tup [(rcdOf fun _=>0).av,.bool false]=.tup [(rcX R n s).av,.bool (decide (fnS R n s≥0))]:=by
 rw [rcX_no h,decide_eq_false (by omega)]
theorem rec_ok {R:Nat→Nat→Int} {n:Nat} {s:Spend} (h:¬fnS R n s<0):AV.tup [(rcdOf (R (fnS R n s).toNat)).av,.bool true]=.tup [(rcX R n s).av,.bool (decide (fnS R n s≥0))]:=by
 rw [rcX_ok h,decide_eq_true (by omega)]
theorem fnB_t {R:Nat→Nat→Int} {k e d:Int} {i:Nat} (h:(R i 0=k∧R i 1=e)∧R i 2=d):fnB R k e d i=true:=by unfold fnB;simp [h]
theorem fnB_f {R:Nat→Nat→Int} {k e d:Int} {i:Nat} (h:(¬R i 0=k∨¬R i 1=e)∨¬R i 2=d):fnB R k e d i=false:=by
 unfold fnB;rcases h with (h|h)|h<;>simp [h]
theorem secR_ok {b:Bas} {s t:Spend} {leaf:Int} (h:(secR b s t leaf).2=0):b.Ok∧0≤(secR b s t leaf).1∧(secR b s t leaf).1<b.gr.q:=by
 unfold secR at h ⊢
 split at h
 ·cases h
 rename_i h0
 have hv:validB b=true:=by
  cases hv:validB b with
  | true=>rfl
  | false=>exact absurd (.inl hv) h0
 have hq:=validB_q hv
 rw [if_neg h0]
 split at h
 ·cases h
 rename_i h1
 rw [if_neg h1]
 split at h
 ·cases h
 rename_i h2
 rw [if_neg h2]
 split at h
 ·cases h
 rename_i h3
 rw [if_neg h3]
 split at h
 ·cases h
 rename_i h4
 rw [if_neg h4]
 split at h
 ·cases h
 rename_i h5
 rw [if_neg h5]
 exact ⟨validB_iff.1 hv,Int.emod_nonneg _ (by omega),Int.emod_lt_of_pos _ hq.1⟩
theorem glK_1 {b:Bas} {s t:Spend} {leaf:Int} (h:¬(secR b s t leaf).2=0):glK b s t leaf=(0,(secR b s t leaf).2):=if_neg h
theorem glK_2 {b:Bas} {s t:Spend} {leaf:Int} (h:(secR b s t leaf).2=0) (h':(secR b s t leaf).1=0∨msgI b (secR b s t leaf).1=1):glK b s t leaf=(0,10):=by
 unfold glK;rw [if_pos h,if_pos h']
theorem glK_3 {b:Bas} {s t:Spend} {leaf:Int} (h:(secR b s t leaf).2=0) (h':¬(secR b s t leaf).1=0∧¬msgI b (secR b s t leaf).1=1):glK b s t leaf=(b.g1^(secR b s t leaf).1.toNat%b.gr.p,0):=by
 unfold glK;rw [if_pos h,if_neg (by simp [h'])]
theorem gl_out {b:Bas} {s t:Spend} {leaf:Int} {x:Int×Int} (h:glK b s t leaf=x):AV.tup [.int .i64 x.1,.int .i64 x.2]=.tup [.int .i64 (glK b s t leaf).1,.int .i64 (glK b s t leaf).2]:=by rw [h]
theorem okS_hd {b:Bas} {r:Rcd} {s:Spend} (h:hdB b r s=true):okS s=true:=by
 have k:=hd_of h
 have hn:=k.n
 have h0:=h
 unfold hdB at h
 simp only [Bool.and_eq_true] at h
 have hc:=h.1.1.2
 have hsp:=(span_d hn).1
 have hl:(s.nl:Int)=szR s:=by rw [sz_r hn,k.l]
 unfold ctxB at hc
 simp only [Bool.and_eq_true,decide_eq_true_eq] at hc
 unfold okS
 rw [hsp,show ((s.nl:Int) != IntKind.wrap .i64 (spanZ s.depth s.level s.index - spanA s.depth s.level s.index))=false by simpa using hl]
 simp
 omega
theorem vd_ok {b:Bas} {R:Nat→Nat→Int} {n:Nat} {s:Spend} (h:verd b R n s=true):validB b=true∧okS s=true:=by
 unfold verd vfy at h
 simp only [Bool.and_eq_true] at h
 have h:=h.2.1.1
 exact ⟨(hd_of h).v,okS_hd h⟩
theorem xv_no {b:Bas} {R:Nat→Nat→Int} {n:Nat} {s t:Spend} {leaf:Int} (h:verd b R n s=false∨verd b R n t=false):AV.tup [.int .i64 0,.bool false]=.tup [.int .i64 (xvK b R n s t leaf),.bool (xvB b R n s t leaf)]:=by
 have e:vd2 b R n s t=false:=by unfold vd2;rcases h with h|h<;>simp [h]
 unfold xvK xvB;rw [e];rfl
theorem xv_yes {b:Bas} {R:Nat→Nat→Int} {n:Nat} {s t:Spend} {leaf:Int} (h:verd b R n s=true∧verd b R n t=true):AV.tup [.int .i64 (glK b s t leaf).1,.bool ((glK b s t leaf).2==0)]=.tup [.int .i64 (xvK b R n s t leaf),.bool (xvB b R n s t leaf)]:=by
 unfold xvK xvB vd2;rw [h.1,h.2];rfl
theorem vd_t {b:Bas} {R:Nat→Nat→Int} {n:Nat} {s t:Spend} (h:(((fnS R n s≥0∧fnS R n t≥0)∧vfy b (rcX R n s) s=true)∧vfy b (rcX R n t) t=true)):verd b R n s=true∧verd b R n t=true:=by
 unfold verd;rw [h.1.2,h.2,decide_eq_true h.1.1.1,decide_eq_true h.1.1.2];exact ⟨rfl,rfl⟩
theorem xv_noR {b:Bas} {R:Nat→Nat→Int} {n:Nat} {s t:Spend} {leaf:Int} (h:(((¬fnS R n s≥0∨¬fnS R n t≥0)∨vfy b (rcX R n s) s=false)∨vfy b (rcX R n t) t=false)):AV.tup [.int .i64 0,.bool false]=.tup [.int .i64 (xvK b R n s t leaf),.bool (xvB b R n s t leaf)]:=by
 refine xv_no ?_
 unfold verd
 rcases h with ((h|h)|h)|h
 ·exact .inl (by rw [decide_eq_false h];rfl)
 ·exact .inr (by rw [decide_eq_false h];rfl)
 ·exact .inl (by rw [h,Bool.and_false])
 ·exact .inr (by rw [h,Bool.and_false])
theorem xv_g {b:Bas} {R:Nat→Nat→Int} {n:Nat} {s t:Spend} {leaf:Int} {x:Int×Int} (h:verd b R n s=true∧verd b R n t=true) (e:glK b s t leaf=x):AV.tup [.int .i64 x.1,.bool (x.2==0)]=.tup [.int .i64 (xvK b R n s t leaf),.bool (xvB b R n s t leaf)]:=by
 rw [← e];exact xv_yes h
theorem xv_f {b:Bas} {R:Nat→Nat→Int} {n:Nat} {s t:Spend} {leaf:Int} (h:verd b R n s=true∧verd b R n t=true) (g:(¬(secR b s t leaf).2=0∨(secR b s t leaf).1=0)∨msgI b (secR b s t leaf).1=1):AV.tup [.int .i64 0,.bool false]=.tup [.int .i64 (xvK b R n s t leaf),.bool (xvB b R n s t leaf)]:=by
 by_cases h0:(secR b s t leaf).2=0
 ·refine xv_g (x:=(0,10)) h (glK_2 h0 ?_)
  rcases g with (g|g)|g
  ·exact absurd h0 g
  ·exact .inl g
  ·exact .inr g
 ·have:=xv_g (leaf:=leaf) h (glK_1 h0)
  rw [← this,show ((secR b s t leaf).2==0)=false by simpa using h0]
theorem xv_t {b:Bas} {R:Nat→Nat→Int} {n:Nat} {s t:Spend} {leaf:Int} (h:verd b R n s=true∧verd b R n t=true) (g:((secR b s t leaf).2=0∧¬(secR b s t leaf).1=0)∧¬msgI b (secR b s t leaf).1=1):AV.tup [.int .i64 (b.g1^(secR b s t leaf).1.toNat%b.gr.p),.bool true]=.tup [.int .i64 (xvK b R n s t leaf),.bool (xvB b R n s t leaf)] :=
 xv_g (x:=(b.g1^(secR b s t leaf).1.toNat%b.gr.p,0)) h (glK_3 g.1.1 ⟨g.1.2,g.2⟩)
theorem sec_pow {b:Bas} {s t:Spend} {leaf:Int} (h:(secR b s t leaf).2=0):0≤b.g1∧b.g1<b.gr.p∧0≤(secR b s t leaf).1∧(secR b s t leaf).1≤9223372036854775807∧b.gr.p<2305843009213693952:=by
 have k:=secR_ok h
 have e:=el_bnd k.1.G k.1.e1
 have:=k.1.G.p1
 have:=k.1.G.qp
 omega
end Go.Sp

namespace Go.Proofs.YtolcfdcoidpieaaGreatDoor
open Go Go.Am Go.Sp
set_option maxRecDepth 100000
abbrev kHV160:List AV:=[AV.agg [Zi 0,Zi 0,Zi 0,Zi 0,Zi 0,Zi 0,Zi 0,Zi 0,Zi 0,Zi 0,Zi 0],AV.bool false]
theorem vfind1_c (r0 r1 r2 r3 r4 r5 r6 r7 r8 r9 r10 k e d:Int):Pure Tryz.prog gl0 137 [.agg [.int .i64 r0,.int .i64 r1,.int .i64 r2,.int .i64 r3,.int .i64 r4,.int .i64 r5,.int .i64 r6,.int .i64 r7,.int .i64 r8,.int .i64 r9,.int .i64 r10],.ipt 1 (atL [.int .i64 k]),.ipt 1 (atL [.int .i64 e]),.ipt 1 (atL [.int .i64 d])] (.bool (r0==k&&r1==e&&r2==d)):=by
 refine pure_sk (own:=ow0) Tryz.func137 (by kernel_rfl) mixed (by kernel_rfl)
  (let y0:AV:=(AV.bool (r0==k&&r1==e&&r2==d));(.out y0 [] y0 []))
  (by kernel_rfl) ?_
 exact k_out (Ent.refl _)
theorem vindex_c (R:Nat→Nat→Int) (n:Nat) (k e d:Int) (hn:n≤1000):Pure Tryz.prog gl0 136 [rcl n R,.fn (.func 137) [] [.ipt 1 (atL [.int .i64 k]),.ipt 1 (atL [.int .i64 e]),.ipt 1 (atL [.int .i64 d])]] (.int .i64 (fnI R n k e d)):=by
 unfold fnI
 refine pure_sk (own:=ow0) Tryz.func136 (by kernel_rfl) mixed (by kernel_rfl)
  (let y0:List AV:=[AV.ipt 1 (atL [Zi k]),AV.ipt 1 (atL [Zi e]),AV.ipt 1 (atL [Zi d])];(.loop ({ x:Nat // x≤n∧(fun (i:Nat)=>firstI (fnB R k e d) n 0=firstI (fnB R k e d) (n - i) i) x }) (fun (x:{ x:Nat // x≤n∧(fun (i:Nat)=>firstI (fnB R k e d) n 0=firstI (fnB R k e d) (n - i) i) x })=>mkSt [0,1,7,8] [AV.isl 11 n fun (i j:Nat)=>Zi (R i j),AV.fn (Fn.func (137:FuncId)) [] y0,Zi (↑n:Int),Zi (↑(x.1):Int)] []) (fun (x:{ x:Nat // x≤n∧(fun (i:Nat)=>firstI (fnB R k e d) n 0=firstI (fnB R k e d) (n - i) i) x })=>n - x.1) (⟨0,⟨Nat.zero_le n,rfl⟩⟩) ([0,1,7,8]) ([]) ([AV.isl 11 n fun (i j:Nat)=>Zi (R i j),AV.fn (Fn.func (137:FuncId)) [] y0,Zi (↑n:Int),Zi 0]) ([]) (fun x0=>(.br (decide ((↑x0.1:Int)<(↑n:Int))) (.req ((0:Int)≤(↑x0.1:Int)∧(↑x0.1:Int)<(↑n:Int)) (.sc (true) 137 ([AV.agg [Zi (R (Int.toNat (↑x0.1:Int)) 0),Zi (R (Int.toNat (↑x0.1:Int)) 1),Zi (R (Int.toNat (↑x0.1:Int)) 2),Zi (R (Int.toNat (↑x0.1:Int)) 3),Zi (R (Int.toNat (↑x0.1:Int)) 4),Zi (R (Int.toNat (↑x0.1:Int)) 5),Zi (R (Int.toNat (↑x0.1:Int)) 6),Zi (R (Int.toNat (↑x0.1:Int)) 7),Zi (R (Int.toNat (↑x0.1:Int)) 8),Zi (R (Int.toNat (↑x0.1:Int)) 9),Zi (R (Int.toNat (↑x0.1:Int)) 10)],AV.ipt 1 (atL [Zi k]),AV.ipt 1 (atL [Zi e]),AV.ipt 1 (atL [Zi d])]) (AV.bool (R (Int.toNat (↑x0.1:Int)) 0==k&&R (Int.toNat (↑x0.1:Int)) 1==e&&R (Int.toNat (↑x0.1:Int)) 2==d)) (.br (R (Int.toNat (↑x0.1:Int)) 0==k&&R (Int.toNat (↑x0.1:Int)) 1==e&&R (Int.toNat (↑x0.1:Int)) 2==d) (.out (Zi (↑x0.1:Int)) [] (Zi (firstI (fnB R k e d) n 0)) []) (.again (Again 0 (fun (x:{ x:Nat // x≤n∧(fun (i:Nat)=>firstI (fnB R k e d) n 0=firstI (fnB R k e d) (n - i) i) x })=>mkSt [0,1,7,8] [AV.isl 11 n fun (i j:Nat)=>Zi (R i j),AV.fn (Fn.func (137:FuncId)) [] y0,Zi (↑n:Int),Zi (↑(x.1):Int)] []) (fun (x:{ x:Nat // x≤n∧(fun (i:Nat)=>firstI (fnB R k e d) n 0=firstI (fnB R k e d) (n - i) i) x })=>n - x.1) x0) ([0,1,7,8]) ([]) ([AV.isl 11 n fun (i j:Nat)=>Zi (R i j),AV.fn (Fn.func (137:FuncId)) [] y0,Zi (↑n:Int),Zi (IntKind.wrap IntKind.i64 ((↑x0.1:Int)+1))]) ([]))))) (.out (Zi (-1)) [] (Zi (firstI (fnB R k e d) n 0)) [])))))
  (by kernel_rfl) ?_
 refine k_loop (fun _ hs=>hs.le (⟨.refl _,.refl _,.refl _,.refl _,trivial⟩) (trivial)) (fun x0 => ?_)
 try (have q0:=x0.2;dsimp only at q0)
 refine k_br (fun h1 => ?_) (fun h1 => ?_)
 ·have g1:=cnd_dec_t h1
  refine k_req (by omega) ?_
  refine k_sc (vfind1_c (R (Int.toNat (↑x0.1:Int)) (0)) (R (Int.toNat (↑x0.1:Int)) (1)) (R (Int.toNat (↑x0.1:Int)) (2)) (R (Int.toNat (↑x0.1:Int)) (3)) (R (Int.toNat (↑x0.1:Int)) (4)) (R (Int.toNat (↑x0.1:Int)) (5)) (R (Int.toNat (↑x0.1:Int)) (6)) (R (Int.toNat (↑x0.1:Int)) (7)) (R (Int.toNat (↑x0.1:Int)) (8)) (R (Int.toNat (↑x0.1:Int)) (9)) (R (Int.toNat (↑x0.1:Int)) (10)) (k) (e) (d)) ?_
  refine k_br (fun h4 => ?_) (fun h4 => ?_)
  ·have g4:=(cnd_and_t (cnd_and_t cnd_beq_t cnd_beq_t) cnd_beq_t) h4
   try simp only [Int.toNat_natCast] at g4
   exact k_out (Ent.of_eq (congrArg _ (first_hit x0.2.2 (by omega) h4)))
  ·have g4:=(cnd_and_f (cnd_and_f cnd_beq_f cnd_beq_f) cnd_beq_f) h4
   try simp only [Int.toNat_natCast] at g4
   exact k_again (⟨x0.1+1,by omega,first_next x0.2.2 (by omega) h4⟩) (fun _ hs=>hs.le (⟨.refl _,.refl _,.refl _,inc_ent (by omega),trivial⟩) (trivial)) (by dsimp only;omega)
 ·have g1:=cnd_dec_f h1
  exact k_out (Ent.of_eq (congrArg _ (first_miss x0.2.2 (by omega))))
theorem vfind_c (R:Nat→Nat→Int) (n:Nat) (k e d:Int) (hn:n≤1000):Pure Tryz.prog gl0 69 [rcl n R,.int .i64 k,.int .i64 e,.int .i64 d] (.int .i64 (fnI R n k e d)):=by
 have c1:=vindex_c R n k e d hn
 refine pure_sk (own:=ow0) Tryz.func69 (by kernel_rfl) mixed (by kernel_rfl)
  (.sc (true) 136 ([AV.isl 11 n fun (i j:Nat)=>Zi (R i j),AV.fn (Fn.func 137) [] [AV.ipt 1 fun (k_1:Nat)=>atL [Zi k] k_1,AV.ipt 1 fun (k:Nat)=>atL [Zi e] k,AV.ipt 1 fun (k:Nat)=>atL [Zi d] k]]) (Zi (fnI R n k e d)) (.out (Zi (fnI R n k e d)) [] (Zi (fnI R n k e d)) []))
  (by kernel_rfl) ?_
 refine k_sc (c1) ?_
 exact k_out (Ent.refl _)
theorem rvfind_c (R:Nat→Nat→Int) (n:Nat) (k e d:Int) (hn:n≤1000):Pure Tryz.prog gl0 79 [rcl n R,.int .i64 k,.int .i64 e,.int .i64 d] (.int .i64 (fnI R n k e d)):=by
 unfold fnI
 refine pure_sk (own:=ow0) Tryz.func79 (by kernel_rfl) mixed (by kernel_rfl)
  (.loop ({ x:Nat // x≤n∧(fun (i:Nat)=>firstI (fnB R k e d) n 0=firstI (fnB R k e d) (n - i) i) x }) (fun (x:{ x:Nat // x≤n∧(fun (i:Nat)=>firstI (fnB R k e d) n 0=firstI (fnB R k e d) (n - i) i) x })=>mkSt [0,1,2,3,9] [AV.isl 11 n fun (i j:Nat)=>Zi (R i j),Zi k,Zi e,Zi d,Zi (↑(x.1):Int)] []) (fun (x:{ x:Nat // x≤n∧(fun (i:Nat)=>firstI (fnB R k e d) n 0=firstI (fnB R k e d) (n - i) i) x })=>n - x.1) (⟨0,⟨Nat.zero_le n,rfl⟩⟩) ([0,1,2,3,9]) ([]) ([AV.isl 11 n fun (i j:Nat)=>Zi (R i j),Zi k,Zi e,Zi d,Zi 0]) ([]) (fun x0=>(.br (decide ((↑x0.1:Int)<(↑n:Int))) (.req ((0:Int)≤(↑x0.1:Int)∧(↑x0.1:Int)<(↑n:Int)) (.req (((R (Int.toNat (↑x0.1:Int)) 0==k)==true)=true→(0:Int)≤(↑x0.1:Int)∧(↑x0.1:Int)<(↑n:Int)) (.req (((R (Int.toNat (↑x0.1:Int)) 0==k&&R (Int.toNat (↑x0.1:Int)) 1==e)==true)=true→(0:Int)≤(↑x0.1:Int)∧(↑x0.1:Int)<(↑n:Int)) (.br (R (Int.toNat (↑x0.1:Int)) 0==k&&R (Int.toNat (↑x0.1:Int)) 1==e&&R (Int.toNat (↑x0.1:Int)) 2==d) (.out (Zi (↑x0.1:Int)) [] (Zi (firstI (fnB R k e d) n 0)) []) (.again (Again 0 (fun (x:{ x:Nat // x≤n∧(fun (i:Nat)=>firstI (fnB R k e d) n 0=firstI (fnB R k e d) (n - i) i) x })=>mkSt [0,1,2,3,9] [AV.isl 11 n fun (i j:Nat)=>Zi (R i j),Zi k,Zi e,Zi d,Zi (↑(x.1):Int)] []) (fun (x:{ x:Nat // x≤n∧(fun (i:Nat)=>firstI (fnB R k e d) n 0=firstI (fnB R k e d) (n - i) i) x })=>n - x.1) x0) ([0,1,2,3,9]) ([]) ([AV.isl 11 n fun (i j:Nat)=>Zi (R i j),Zi k,Zi e,Zi d,Zi (IntKind.wrap IntKind.i64 ((↑x0.1:Int)+1))]) ([])))))) (.out (Zi (-1)) [] (Zi (firstI (fnB R k e d) n 0)) []))))
  (by kernel_rfl) ?_
 refine k_loop (fun _ hs=>hs.le (⟨.refl _,.refl _,.refl _,.refl _,.refl _,trivial⟩) (trivial)) (fun x0 => ?_)
 try (have q0:=x0.2;dsimp only at q0)
 refine k_br (fun h1 => ?_) (fun h1 => ?_)
 ·have g1:=cnd_dec_t h1
  refine k_req (by omega) ?_
  refine k_req (fun hr=>by have hr:=(cnd_eqt_t cnd_beq_t) hr;omega) ?_
  refine k_req (fun hr=>by have hr:=(cnd_eqt_t (cnd_and_t cnd_beq_t cnd_beq_t)) hr;omega) ?_
  refine k_br (fun h5 => ?_) (fun h5 => ?_)
  ·have g5:=(cnd_and_t (cnd_and_t cnd_beq_t cnd_beq_t) cnd_beq_t) h5
   try simp only [Int.toNat_natCast] at g5
   exact k_out (by exact Ent.of_eq (congrArg _ (first_hit x0.2.2 (by omega) (fnB_t g5))))
  ·have g5:=(cnd_and_f (cnd_and_f cnd_beq_f cnd_beq_f) cnd_beq_f) h5
   try simp only [Int.toNat_natCast] at g5
   exact k_again (⟨x0.1+1,by omega,first_next x0.2.2 (by omega) (fnB_f g5)⟩) (fun _ hs=>hs.le (⟨.refl _,.refl _,.refl _,.refl _,inc_ent (by omega),trivial⟩) (trivial)) (by dsimp only;omega)
 ·have g1:=cnd_dec_f h1
  exact k_out (by exact Ent.of_eq (congrArg _ (first_miss x0.2.2 (by omega))))
theorem vrec_c (R:Nat→Nat→Int) (n:Nat) (s:Spend) (hn:n≤1000):Pure Tryz.prog gl0 90 [rcl n R,s.av] (.tup [(rcX R n s).av,.bool (decide (fnS R n s≥0))]):=by
 have c1:=vfind_c R n s.bank s.epoch s.denom hn
 refine pure_sk (own:=ow0) Tryz.func90 (by kernel_rfl) mixed (by kernel_rfl)
  (let y0:Nat:=(Int.toNat (fnI R n s.1 s.2 s.3));let y1:AV:=(AV.tup [Rcd.av (rcX R n s),AV.bool (decide (fnS R n s≥0))]);(.sc (true) 69 ([AV.isl 11 n fun (i j:Nat)=>Zi (R i j),Zi s.1,Zi s.2,Zi s.3]) (Zi (fnI R n (Spend.bank s) (Spend.epoch s) (Spend.denom s))) (.br (decide (fnI R n s.1 s.2 s.3<0)||decide (fnI R n s.1 s.2 s.3≥(↑n:Int))) (.out (AV.tup kHV160) [] y1 []) (.req ((0:Int)≤fnI R n s.1 s.2 s.3∧fnI R n s.1 s.2 s.3<(↑n:Int)) (.out (AV.tup [AV.agg [Zi (R y0 0),Zi (R y0 1),Zi (R y0 2),Zi (R y0 3),Zi (R y0 4),Zi (R y0 5),Zi (R y0 6),Zi (R y0 7),Zi (R y0 8),Zi (R y0 9),Zi (R y0 10)],AV.bool true]) [] y1 [])))))
  (by kernel_rfl) ?_
 refine k_sc (c1) ?_
 refine k_br (fun h1 => ?_) (fun h1 => ?_)
 ·have g1:=(cnd_or_t cnd_dec_t cnd_dec_t) h1
  exact k_out (Ent.of_eq (rec_no (s:=s) (by (rcases g1 with h|h;(· exact h);(· exfalso;have:=firstI_lt (p:=fnB R s.bank s.epoch s.denom) n 0;unfold fnI at h;omega)))))
 ·have g1:=(cnd_or_f cnd_dec_f cnd_dec_f) h1
  refine k_req (by exact fnI_lt g1.1) ?_
  exact k_out (Ent.of_eq (rec_ok (s:=s) (by exact g1.1)))
theorem rvrec_c (R:Nat→Nat→Int) (n:Nat) (s:Spend) (hn:n≤1000):Pure Tryz.prog gl0 97 [rcl n R,s.av] (.tup [(rcX R n s).av,.bool (decide (fnS R n s≥0))]):=by
 have c1:=rvfind_c R n s.bank s.epoch s.denom hn
 refine pure_sk (own:=ow0) Tryz.func97 (by kernel_rfl) mixed (by kernel_rfl)
  (let y0:Nat:=(Int.toNat (fnI R n s.1 s.2 s.3));let y1:AV:=(AV.tup [Rcd.av (rcX R n s),AV.bool (decide (fnS R n s≥0))]);(.sc (true) 79 ([AV.isl 11 n fun (i j:Nat)=>Zi (R i j),Zi s.1,Zi s.2,Zi s.3]) (Zi (fnI R n (Spend.bank s) (Spend.epoch s) (Spend.denom s))) (.br (decide (fnI R n s.1 s.2 s.3<0)) (.out (AV.tup kHV160) [] y1 []) (.req ((0:Int)≤fnI R n s.1 s.2 s.3∧fnI R n s.1 s.2 s.3<(↑n:Int)) (.out (AV.tup [AV.agg [Zi (R y0 0),Zi (R y0 1),Zi (R y0 2),Zi (R y0 3),Zi (R y0 4),Zi (R y0 5),Zi (R y0 6),Zi (R y0 7),Zi (R y0 8),Zi (R y0 9),Zi (R y0 10)],AV.bool true]) [] y1 [])))))
  (by kernel_rfl) ?_
 refine k_sc (c1) ?_
 refine k_br (fun h1 => ?_) (fun h1 => ?_)
 ·have g1:=cnd_dec_t h1
  exact k_out (Ent.of_eq (rec_no (s:=s) (by exact g1)))
 ·have g1:=cnd_dec_f h1
  refine k_req (by exact fnI_lt g1) ?_
  exact k_out (Ent.of_eq (rec_ok (s:=s) (by exact g1)))
theorem vver_c (b:Bas) (R:Nat→Nat→Int) (n:Nat) (s:Spend) (hn:n≤1000) (hw:b.gr.W) (hr:byB s.root 32) (hp:byB s.payee 32) (hf:∀ k,k<s.np→byB (s.pf k) 32) (hm:s.np≤1000000) (hl:s.nl≤1000):Pure Tryz.prog gl0 91 [b.av,rcl n R,s.av] (.bool (verd b R n s)):=by
 have c1:=vrec_c R n s hn
 have c2:=vfy_c b (rcX R n s) s hw hr hp hf hm hl
 refine pure_sk (own:=ow0) Tryz.func91 (by kernel_rfl) mixed (by kernel_rfl)
  (.sc (true) 90 ([AV.isl 11 n fun (i j:Nat)=>Zi (R i j),AV.agg (Spend.cells s)]) (AV.tup [Rcd.av (rcX R n s),AV.bool (decide (fnS R n s≥0))]) (.sc (decide (fnS R n s≥0)==true) 37 ([AV.agg (Bas.cells b),AV.agg (Rcd.cells (rcX R n s)),AV.agg (Spend.cells s)]) (AV.bool (vfy b (rcX R n s) s)) (.out (AV.bool (decide (fnS R n s≥0)&&vfy b (rcX R n s) s)) [] (AV.bool (verd b R n s)) [])))
  (by kernel_rfl) ?_
 refine k_sc (c1) ?_
 refine k_scg (fun h1=>c2) ?_
 exact k_out (Ent.refl _)
theorem guilty_c (b:Bas) (s t:Spend) (leaf:Int) (hw:b.gr.W) (hs:s.nl≤1000) (ht:t.nl≤1000) (bs:s.By) (bt:t.By):Pure Tryz.prog gl0 92 [b.av,s.av,t.av,.int .i64 leaf] (.tup [.int .i64 (glK b s t leaf).1,.int .i64 (glK b s t leaf).2]):=by
 have c1:=secret_c b s t leaf hw hs ht bs bt
 have c2:=fun h hu=>message_c b (secR b s t leaf).1 h hw hu
 have c3:=fun h h2 hu=>gpow_c b.gr b.g1 (secR b s t leaf).1 h hw h2 hu
 refine pure_sk (own:=ow0) Tryz.func92 (by kernel_rfl) mixed (by kernel_rfl)
  (let y0:AV:=(AV.tup [Zi (Prod.fst (glK b s t leaf)),Zi (Prod.snd (glK b s t leaf))]);(.sc (true) 166 ([AV.agg (Bas.cells b),AV.agg (Spend.cells s),AV.agg (Spend.cells t),Zi leaf]) (AV.tup [Zi (Prod.fst (secR b s t leaf)),Zi (Prod.snd (secR b s t leaf))]) (.br ((secR b s t leaf).2 != 0) (.out (AV.tup [Zi 0,Zi (secR b s t leaf).2]) [] y0 []) (.sc (((secR b s t leaf).1==0)==false) 167 ([AV.agg (Bas.cells b),Zi (secR b s t leaf).1]) (Zi (msgI b (Prod.fst (secR b s t leaf)))) (.br ((secR b s t leaf).1==0||msgI b (secR b s t leaf).1==1) (.out (AV.tup [Zi 0,Zi 10]) [] y0 []) (.sc (true) 146 ([AV.agg [Zi (Bas.gr b).1,Zi (Bas.gr b).2,Zi (Bas.gr b).3],Zi b.2,Zi (secR b s t leaf).1]) (AV.tup [Zi (Bas.g1 b^Int.toNat (Prod.fst (secR b s t leaf))%Grp.p (Bas.gr b)),Zi 0]) (.out (AV.tup [Zi (b.2^Int.toNat (secR b s t leaf).1%(Bas.gr b).1),Zi 0]) [] y0 [])))))))
  (by kernel_rfl) ?_
 refine k_sc (c1) ?_
 refine k_br (fun h1 => ?_) (fun h1 => ?_)
 ·have g1:=cnd_bne_t h1
  exact k_out (Ent.of_eq (gl_out (x:=(0,(secR b s t leaf).2)) (glK_1 g1)))
 ·have g1:=cnd_bne_f h1
  refine k_scg (fun h3=>c2 (by exact (secR_ok g1).1) (by exact (secR_ok g1).2)) ?_
  refine k_br (fun h4 => ?_) (fun h4 => ?_)
  ·have g4:=(cnd_or_t cnd_beq_t cnd_beq_t) h4
   exact k_out (Ent.of_eq (gl_out (glK_2 g1 g4)))
  ·have g4:=(cnd_or_f cnd_beq_f cnd_beq_f) h4
   refine k_sc (c3 (by exact (secR_ok g1).1.G) (by exact (secR_ok g1).1.e1) (by exact (secR_ok g1).2)) ?_
   exact k_out (Ent.of_eq (gl_out (glK_3 g1 g4)))
theorem rxverify_c (b:Bas) (R:Nat→Nat→Int) (n:Nat) (s t:Spend) (leaf:Int) (h0:leaf≤9223372036854775807) (hn:n≤1000) (hw:b.gr.W) (hs:s.nl≤1000) (ht:t.nl≤1000) (bs:s.By) (bt:t.By) (ps:s.np≤1000000) (pt:t.np≤1000000) (fs:∀ k,k<s.np→byB (s.pf k) 32) (ft:∀ k,k<t.np→byB (t.pf k) 32) :
  Pure Tryz.prog gl0 99 [b.av,rcl n R,.agg (s.cells++(t.cells++[.int .i64 leaf]))] (.tup [.int .i64 (xvK b R n s t leaf),.bool (xvB b R n s t leaf)]):=by
 have c1:=rvrec_c R n s hn
 have c2:=rvrec_c R n t hn
 have c3:=rvfy_c b (rcX R n s) s hw bs.root bs.payee fs ps hs
 have c4:=rvfy_c b (rcX R n t) t hw bt.root bt.payee ft pt ht
 have c5:=rsecret_c b s t leaf h0 hw hs ht bs bt
 have c6:=fun h hu=>rmessage_c b (secR b s t leaf).1 h hu
 refine pure_sk (own:=ow0) Tryz.func99 (by kernel_rfl) mixed (by kernel_rfl)
  (let y0:AV:=(AV.tup [Zi (xvK b R n s t leaf),AV.bool (xvB b R n s t leaf)]);(.sc (true) 97 ([AV.isl 11 n fun (i j:Nat)=>Zi (R i j),AV.agg (Spend.cells s)]) (AV.tup [Rcd.av (rcX R n s),AV.bool (decide (fnS R n s≥0))]) (.sc (true) 97 ([AV.isl 11 n fun (i j:Nat)=>Zi (R i j),AV.agg (Spend.cells t)]) (AV.tup [Rcd.av (rcX R n t),AV.bool (decide (fnS R n t≥0))]) (.sc ((!decide (fnS R n s≥0) || !decide (fnS R n t≥0))==false) 41 ([AV.agg (Bas.cells b),AV.agg (Rcd.cells (rcX R n s)),AV.agg (Spend.cells s)]) (AV.bool (vfy b (rcX R n s) s)) (.sc ((!decide (fnS R n s≥0) || !decide (fnS R n t≥0) || !vfy b (rcX R n s) s)==false) 41 ([AV.agg (Bas.cells b),AV.agg (Rcd.cells (rcX R n t)),AV.agg (Spend.cells t)]) (AV.bool (vfy b (rcX R n t) t)) (.br (!decide (fnS R n s≥0) || !decide (fnS R n t≥0) || !vfy b (rcX R n s) s || !vfy b (rcX R n t) t) (.out (AV.tup [Zi 0,AV.bool false]) [] y0 []) (.sc (true) 169 ([AV.agg (Bas.cells b),AV.agg (Spend.cells s),AV.agg (Spend.cells t),Zi leaf]) (AV.tup [Zi (Prod.fst (secR b s t leaf)),Zi (Prod.snd (secR b s t leaf))]) (.sc (((secR b s t leaf).2 != 0||(secR b s t leaf).1==0)==false) 170 ([AV.agg (Bas.cells b),Zi (secR b s t leaf).1]) (Zi (msgI b (Prod.fst (secR b s t leaf)))) (.br ((secR b s t leaf).2 != 0||(secR b s t leaf).1==0||msgI b (secR b s t leaf).1==1) (.out (AV.tup [Zi 0,AV.bool false]) [] y0 []) (.sc (true) 116 ([Zi b.2,Zi (secR b s t leaf).1,Zi (Bas.gr b).1]) (Zi (b.2^Int.toNat (secR b s t leaf).1%(Bas.gr b).1)) (.out (AV.tup [Zi (b.2^Int.toNat (secR b s t leaf).1%(Bas.gr b).1),AV.bool true]) [] y0 [])))))))))))
  (by kernel_rfl) ?_
 refine k_sc (c1) ?_
 refine k_sc (c2) ?_
 refine k_scg (fun h2=>c3) ?_
 refine k_scg (fun h3=>c4) ?_
 refine k_br (fun h4 => ?_) (fun h4 => ?_)
 ·have g4:=(cnd_or_t (cnd_or_t (cnd_or_t (cnd_not_t cnd_dec_f) (cnd_not_t cnd_dec_f)) (cnd_not_t cnd_id_f)) (cnd_not_t cnd_id_f)) h4
  exact k_out (Ent.of_eq (xv_noR g4))
 ·have g4:=(cnd_or_f (cnd_or_f (cnd_or_f (cnd_not_f cnd_dec_t) (cnd_not_f cnd_dec_t)) (cnd_not_f cnd_id_t)) (cnd_not_f cnd_id_t)) h4
  refine k_sc (c5) ?_
  refine k_scg (fun h7=>c6 ((by simp at h7;exact (secR_ok h7.1).1)) ((by simp at h7;exact (secR_ok h7.1).2))) ?_
  refine k_br (fun h8 => ?_) (fun h8 => ?_)
  ·have g8:=(cnd_or_t (cnd_or_t cnd_bne_t cnd_beq_t) cnd_beq_t) h8
   exact k_out (Ent.of_eq (xv_f (vd_t g4) g8))
  ·have g8:=(cnd_or_f (cnd_or_f cnd_bne_f cnd_beq_f) cnd_beq_f) h8
   refine k_sc (rpow_c (b.2) ((secR b s t leaf).1) ((Bas.gr b).1) (by have K:=sec_pow g8.1.1;omega) (by have K:=sec_pow g8.1.1;omega) (by have K:=sec_pow g8.1.1;omega) (by have K:=sec_pow g8.1.1;omega) (by have K:=sec_pow g8.1.1;omega)) ?_
   exact k_out (Ent.of_eq (xv_t (vd_t g4) g8))
end Go.Proofs.YtolcfdcoidpieaaGreatDoor

namespace Go.Sp
open Go Go.Am
def oddB (b:Bas) (s:Spend) (i:Nat):Bool := !(scB b (s.lf i 1)&&scB b (s.lf i 2))
def gul (s t:Spend) (leaf:Int):AV:=.agg (s.cells++(t.cells++[.int .i64 leaf]))
theorem entL_app {os:List (Option Ob)}:∀ {a a' b b':List AV},EntL os a a'→EntL os b b'→EntL os (a++b) (a'++b')
 | [],[],_,_,_,h=>h
 | _::_,_::_,_,_,h,h'=>⟨h.1,entL_app h.2 h'⟩
noncomputable def okI (b:Bas) (s t:Spend) (i:Nat):Bool:=(glK b s t ((sharedL s t).getD i 0)).2==0
noncomputable def prvI (b:Bas) (s t:Spend):Int:=firstI (okI b s t) (sharedL s t).length 0
noncomputable def prvE (b:Bas) (R:Nat→Nat→Int) (n:Nat) (s t:Spend):Int :=
 if validB b=false∨(okS s=false∨okS t=false) then 1 else if ¬fnS R n s≥0∨¬fnS R n t≥0 then 18 else if verd b R n s=false∨verd b R n t=false then 11
 else if prvI b s t≥0 then 0 else if (sharedL s t).length=0 then 7 else if chS b s=chS b t then 20 else 10
noncomputable def prS (b:Bas) (R:Nat→Nat→Int) (n:Nat) (s t:Spend):Spend:=if prvE b R n s t=0 then s else .zero
noncomputable def prT (b:Bas) (R:Nat→Nat→Int) (n:Nat) (s t:Spend):Spend:=if prvE b R n s t=0 then t else .zero
noncomputable def prL (b:Bas) (R:Nat→Nat→Int) (n:Nat) (s t:Spend):Int:=if prvE b R n s t=0 then (sharedL s t).getD (prvI b s t).toNat 0 else 0
noncomputable abbrev prvG (b:Bas) (R:Nat→Nat→Int) (n:Nat) (s t:Spend):AV:=gul (prS b R n s t) (prT b R n s t) (prL b R n s t)
noncomputable abbrev prvV (b:Bas) (R:Nat→Nat→Int) (n:Nat) (s t:Spend):AV:=.tup [prvG b R n s t,.int .i64 (prvE b R n s t)]
theorem prv_e {os:List (Option Ob)} {b:Bas} {R:Nat→Nat→Int} {n:Nat} {s t:Spend} {e:Int} (h:prvE b R n s t=e) (h0:e≠0) :
  Ent os (.tup [.agg (Spend.zero.cw .nsl .nsl++(Spend.zero.cw .nsl .nsl++[.int .i64 0])),.int .i64 e]) (prvV b R n s t):=by
 have e2:prvG b R n s t=gul .zero .zero 0:=by unfold prvG prS prT prL;rw [if_neg (by rw [h];exact h0),if_neg (by rw [h];exact h0),if_neg (by rw [h];exact h0)]
 unfold prvV
 rw [e2,h]
 exact Ent.tup ⟨Ent.agg (entL_app zero_ent (entL_app zero_ent (EntL.refl _))),Ent.refl _,trivial⟩
theorem prv_1 {b:Bas} {R:Nat→Nat→Int} {n:Nat} {s t:Spend} (h:validB b=false∨(okS s=false∨okS t=false)):prvE b R n s t=1:=if_pos h
theorem prv_2 {b:Bas} {R:Nat→Nat→Int} {n:Nat} {s t:Spend} (h:validB b=true∧(okS s=true∧okS t=true)) (h2:¬fnS R n s≥0∨¬fnS R n t≥0):prvE b R n s t=18:=by
 unfold prvE;rw [if_neg (by simp [h]),if_pos h2]
theorem prv_3 {b:Bas} {R:Nat→Nat→Int} {n:Nat} {s t:Spend} (h:validB b=true∧(okS s=true∧okS t=true)) (h2:fnS R n s≥0∧fnS R n t≥0) (h3:verd b R n s=false∨verd b R n t=false):prvE b R n s t=11:=by
 unfold prvE;rw [if_neg (by simp [h]),if_neg (by omega),if_pos h3]
theorem prv_4 {b:Bas} {R:Nat→Nat→Int} {n:Nat} {s t:Spend} (h:validB b=true∧(okS s=true∧okS t=true)) (h2:fnS R n s≥0∧fnS R n t≥0) (h3:verd b R n s=true∧verd b R n t=true) :
  prvE b R n s t=if prvI b s t≥0 then 0 else if (sharedL s t).length=0 then 7 else if chS b s=chS b t then 20 else 10:=by
 unfold prvE;rw [if_neg (by simp [h]),if_neg (by omega),if_neg (by simp [h3])]
theorem prv_ok {b:Bas} {R:Nat→Nat→Int} {n:Nat} {s t:Spend} {i:Nat} (h:validB b=true∧(okS s=true∧okS t=true)) (h2:fnS R n s≥0∧fnS R n t≥0) (h3:verd b R n s=true∧verd b R n t=true)
  (hi:i<(sharedL s t).length) (hx:firstI (okI b s t) (sharedL s t).length 0=firstI (okI b s t) ((sharedL s t).length - i) i) (hk:okI b s t i=true):AV.tup [gul s t ((sharedL s t).getD i 0),.int .i64 0]=prvV b R n s t:=by
 have e:prvI b s t=i:=(first_hit hx hi hk).symm
 have e2:prvE b R n s t=0:=by rw [prv_4 h h2 h3,if_pos (by omega)]
 unfold prvV prvG prS prT prL
 rw [if_pos e2,if_pos e2,if_pos e2,e2,e,Int.toNat_natCast]
theorem prv_none {b:Bas} {R:Nat→Nat→Int} {n:Nat} {s t:Spend} {i:Nat} (h:validB b=true∧(okS s=true∧okS t=true)) (h2:fnS R n s≥0∧fnS R n t≥0) (h3:verd b R n s=true∧verd b R n t=true)
  (hi:(sharedL s t).length≤i) (hx:firstI (okI b s t) (sharedL s t).length 0=firstI (okI b s t) ((sharedL s t).length - i) i):prvE b R n s t=if (sharedL s t).length=0 then 7 else if chS b s=chS b t then 20 else 10:=by
 have e:prvI b s t = -1:=(first_miss hx hi).symm
 rw [prv_4 h h2 h3,if_neg (by omega)]
theorem okL_sc {b:Bas} {s:Spend} {i:Nat} (h:okL b s i=true):scB b (s.lf i 1)=true∧scB b (s.lf i 2)=true:=by
 unfold okL leafB chk2 at h
 simp only [Bool.and_eq_true] at h
 exact ⟨h.1.2.1.1,h.1.2.1.2⟩
theorem verd_l {b:Bas} {R:Nat→Nat→Int} {n:Nat} {s:Spend} (h:verd b R n s=true):∀ i,i<s.nl→okL b s i=true:=by
 unfold verd vfy at h
 simp only [Bool.and_eq_true] at h
 have:=List.all_eq_true.1 h.2.1.2
 exact fun i hi=>this i (List.mem_range.2 hi)
theorem sh_mem {s t:Spend} {leaf:Int} (h:okS s=true) (hm:leaf∈sharedL s t):¬(leaf<fromS s∨toS s≤leaf):=by
 obtain ⟨_,_,_,_,hn⟩:=okS_all h
 unfold sharedL at hm
 split at hm
 ·cases hm
 ·unfold sharedN at hm
  simp only [List.mem_map,List.mem_filter,List.mem_range] at hm
  obtain ⟨i,⟨hi,_⟩,rfl⟩:=hm
  omega
theorem sec_sh {b:Bas} {R:Nat→Nat→Int} {n:Nat} {s t:Spend} {leaf:Int} (h3:verd b R n s=true∧verd b R n t=true) (hm:leaf∈sharedL s t) (hg:¬(glK b s t leaf).2=0):(glK b s t leaf).2=if chS b s=chS b t then 20 else 10:=by
 have a:=vd_ok h3.1
 have c:=vd_ok h3.2
 have hr:=sh_mem a.2 hm
 have hf:=(shared_has a.2 hr).1 hm
 obtain ⟨_,_,_,_,hn⟩:=okS_all a.2
 have hi:leafN s leaf<s.nl:=by unfold leafN;omega
 have s1:=okL_sc (verd_l h3.1 _ hi)
 have s2:=okL_sc (verd_l h3.2 _ (mate_lt hf.2).1)
 have e:secR b s t leaf=if chS b s=chS b t then (0,20)
   else if s.lf (leafN s leaf) 2=t.lf (mateS s t (leafN s leaf)) 2 then (0,10)
   else ((s.lf (leafN s leaf) 1 - t.lf (mateS s t (leafN s leaf)) 1)%b.gr.q*invF ((s.lf (leafN s leaf) 2 - t.lf (mateS s t (leafN s leaf)) 2)%b.gr.q) b.gr.q%b.gr.q,0):=by
  unfold secR
  rw [if_neg (by simp [a,c]),if_neg hr,if_neg (by simp [hf]),if_neg (by simp [s1,s2])]
 by_cases h1:chS b s=chS b t
 ·rw [if_pos h1] at e
  rw [if_pos h1,glK_1 (by rw [e];decide),e]
 ·rw [if_neg h1] at e
  rw [if_neg h1]
  by_cases h2:s.lf (leafN s leaf) 2=t.lf (mateS s t (leafN s leaf)) 2
  ·rw [if_pos h2] at e
   rw [glK_1 (by rw [e];decide),e]
  ·rw [if_neg h2] at e
   have e0:(secR b s t leaf).2=0:=by rw [e]
   by_cases h4:(secR b s t leaf).1=0∨msgI b (secR b s t leaf).1=1
   ·rw [glK_2 e0 h4]
   ·exact absurd (by rw [glK_3 e0 (by simpa using h4)]) hg
noncomputable def erA (b:Bas) (s t:Spend):Nat→Int
 | 0=>7
 | x+1=>(glK b s t ((sharedL s t).getD x 0)).2
theorem er_end {b:Bas} {R:Nat→Nat→Int} {n:Nat} {s t:Spend} (h3:verd b R n s=true∧verd b R n t=true) (hx:∀ i,i<(sharedL s t).length→okI b s t i=false) :
  erA b s t (sharedL s t).length=if (sharedL s t).length=0 then 7 else if chS b s=chS b t then 20 else 10:=by
 generalize hl:(sharedL s t).length=k
 cases k with
 | zero=>rfl
 | succ x =>
  rw [if_neg (by omega)]
  have hm:(sharedL s t).getD x 0∈sharedL s t:=by
   have hx:x<(sharedL s t).length:=by omega
   rw [List.getD_eq_getElem?_getD,List.getElem?_eq_getElem hx]
   exact List.getElem_mem hx
  have hk:=hx x (by omega)
  unfold okI at hk
  exact sec_sh h3 hm (by simpa using hk)
structure ClOk (b:Bas) (s:Spend) (u:Int):Prop where
 v:validB b=true
 ok:okS s=true
 odd:¬firstI (oddB b s) s.nl 0≥0
 u:0≤u∧u<b.gr.q
 n:s.number<1073741824
theorem sec_ne {b:Bas} {s t:Spend} {l:Int} (h:(secR b s t l).2=0):¬chS b s=chS b t:=by
 unfold secR at h
 intro e
 split at h
 ·cases h
 split at h
 ·cases h
 split at h
 ·cases h
 split at h
 ·cases h
 first|cases h|(rw [if_pos e] at h;cases h)
theorem okI_ne {b:Bas} {s t:Spend} {i:Nat} (h:okI b s t i=true):¬chS b s=chS b t:=by
 unfold okI at h
 have h:=beq_iff_eq.1 h
 by_cases e:(secR b s t ((sharedL s t).getD i 0)).2=0
 ·exact sec_ne e
 ·rw [glK_1 e] at h;exact absurd h e
theorem prvI_no {b:Bas} {s t:Spend} (h:∀ i,i<(sharedL s t).length→okI b s t i=false):¬prvI b s t≥0:=of_decide_eq_false (fst_no h)
theorem okI_sm {b:Bas} {s t:Spend} (h:chS b s=chS b t) (i:Nat):okI b s t i=false:=by
 cases e:okI b s t i with
 | false=>rfl
 | true=>exact absurd h (okI_ne e)
theorem prv_0s {b:Bas} {R:Nat→Nat→Int} {n:Nat} {s t:Spend} (h:validB b=true∧(okS s=true∧okS t=true)) (h2:fnS R n s≥0∧fnS R n t≥0) (h3:verd b R n s=true∧verd b R n t=true)
  (hl:(sharedL s t).length=0):prvE b R n s t=7:=by
 rw [prv_4 h h2 h3,if_neg (prvI_no fun i hi=>by omega),if_pos hl]
theorem prv_sm {b:Bas} {R:Nat→Nat→Int} {n:Nat} {s t:Spend} (h:validB b=true∧(okS s=true∧okS t=true)) (h2:fnS R n s≥0∧fnS R n t≥0) (h3:verd b R n s=true∧verd b R n t=true)
  (hl:¬(sharedL s t).length=0) (hc:chS b s=chS b t):prvE b R n s t=20:=by
 rw [prv_4 h h2 h3,if_neg (prvI_no fun i _=>okI_sm hc i),if_neg hl,if_pos hc]
theorem prv_z {b:Bas} {R:Nat→Nat→Int} {n:Nat} {s t:Spend} {i:Nat} (h:validB b=true∧(okS s=true∧okS t=true)) (h2:fnS R n s≥0∧fnS R n t≥0) (h3:verd b R n s=true∧verd b R n t=true)
  (hl:¬(sharedL s t).length=0) (hc:¬chS b s=chS b t) (hi:(sharedL s t).length≤i) (hx:firstI (okI b s t) (sharedL s t).length 0=firstI (okI b s t) ((sharedL s t).length - i) i):prvE b R n s t=10:=by
 rw [prv_none h h2 h3 hi hx,if_neg hl,if_neg hc]
def passB (S:Nat→Spend) (i:Nat) (c:Coin):Bool:=(S i).number==(i:Int)&&hEq (S i).payee (nameF c (chainF S i))
def ruleB (R:Nat→Nat→Int) (n:Nat) (S:Nat→Spend) (i:Nat):Bool :=
 if i=0 then decide ((rcX R n (S i)).value>0) else (rcX R n (S i)).value==0&&(rcX R n (S i)).depth==0
def linkB (S:Nat→Spend) (i:Nat):Bool:=if i=0 then true else passB S (i - 1) (S i).coin&&decide (¬(S i).time<(S (i - 1)).time)
def stepC (b:Bas) (R:Nat→Nat→Int) (n:Nat) (S:Nat→Spend) (i:Nat):Bool:=verd b R n (S i)&&(ruleB R n S i&&linkB S i)
def chvB (b:Bas) (R:Nat→Nat→Int) (n:Nat) (h:Chn):Bool:=validB b&&(decide (h.n≤8)&&allI (stepC b R n (chnS h)) (h.n+1))
theorem chv_1 {b:Bas} {R:Nat→Nat→Int} {n:Nat} {h:Chn} (g:validB b=false∨(h.n:Int)>8):chvB b R n h=false:=by
 unfold chvB
 rcases g with g|g
 ·rw [g];rfl
 ·rw [decide_eq_false (by omega:¬h.n≤8)];simp
theorem chv_2 {b:Bas} {R:Nat→Nat→Int} {n:Nat} {h:Chn} {i:Nat} (hi:i<h.n+1) (g:stepC b R n (chnS h) i=false):chvB b R n h=false:=by
 unfold chvB
 rw [allI_f hi g];simp
theorem chv_3 {b:Bas} {R:Nat→Nat→Int} {n:Nat} {h:Chn} (g:validB b=true) (g2:h.n≤8) (g3:∀ i,i<h.n+1→stepC b R n (chnS h) i=true):chvB b R n h=true:=by
 unfold chvB
 rw [g,decide_eq_true g2,allI_t g3];rfl
theorem stepC_1 {b:Bas} {R:Nat→Nat→Int} {n:Nat} {S:Nat→Spend} {i:Nat} (h:¬fnS R n (S i)≥0∨vfy b (rcX R n (S i)) (S i)=false):stepC b R n S i=false:=by
 unfold stepC verd
 rcases h with h|h
 ·rw [decide_eq_false h];rfl
 ·rw [h,Bool.and_false];rfl
theorem rule_f {R:Nat→Nat→Int} {n:Nat} {S:Nat→Spend} {i:Nat} (h:((i:Int)=0∧(rcX R n (S i)).value≤0)∨((i:Int)>0∧(¬(rcX R n (S i)).value=0∨¬(rcX R n (S i)).depth=0))):ruleB R n S i=false:=by
 unfold ruleB
 rcases h with ⟨h,g⟩|⟨h,g⟩
 ·rw [if_pos (by omega)];exact decide_eq_false (by omega)
 ·rw [if_neg (by omega)]
  rcases g with g|g
  ·rw [show ((rcX R n (S i)).value==0)=false by simpa using g];rfl
  ·rw [show ((rcX R n (S i)).depth==0)=false by simpa using g];simp
theorem rule_t {R:Nat→Nat→Int} {n:Nat} {S:Nat→Spend} {i:Nat} (h:¬(i:Int)=0∨¬(rcX R n (S i)).value≤0) (h2:¬(i:Int)>0∨((rcX R n (S i)).value=0∧(rcX R n (S i)).depth=0)):ruleB R n S i=true:=by
 unfold ruleB
 by_cases e:i=0
 ·rw [if_pos e];exact decide_eq_true (by omega)
 ·rw [if_neg e]
  have g:(rcX R n (S i)).value=0∧(rcX R n (S i)).depth=0:=by
   rcases h2 with h2|h2
   ·omega
   ·exact h2
  rw [g.1,g.2];rfl
theorem stepC_2 {b:Bas} {R:Nat→Nat→Int} {n:Nat} {S:Nat→Spend} {i:Nat} (h:ruleB R n S i=false):stepC b R n S i=false:=by
 unfold stepC
 rw [h];simp
theorem link_f {S:Nat→Spend} {i:Nat} (h0:(i:Int)>0) (h:passB S (i - 1) (S i).coin=false∨(S i).time<(S (i - 1)).time):linkB S i=false:=by
 unfold linkB
 rw [if_neg (by omega)]
 rcases h with h|h
 ·rw [h];rfl
 ·rw [decide_eq_false (by omega)];simp
theorem link_t {S:Nat→Spend} {i:Nat} (h:¬(i:Int)>0∨(passB S (i - 1) (S i).coin=true∧¬(S i).time<(S (i - 1)).time)):linkB S i=true:=by
 unfold linkB
 by_cases e:i=0
 ·rw [if_pos e]
 ·rw [if_neg e]
  have g:passB S (i - 1) (S i).coin=true∧¬(S i).time<(S (i - 1)).time:=by
   rcases h with h|h
   ·omega
   ·exact h
  rw [g.1,decide_eq_true g.2];rfl
theorem stepC_3 {b:Bas} {R:Nat→Nat→Int} {n:Nat} {S:Nat→Spend} {i:Nat} (h:linkB S i=false):stepC b R n S i=false:=by
 unfold stepC
 rw [h];simp
theorem stepC_t {b:Bas} {R:Nat→Nat→Int} {n:Nat} {S:Nat→Spend} {i:Nat} (h:fnS R n (S i)≥0∧vfy b (rcX R n (S i)) (S i)=true) (h2:ruleB R n S i=true) (h3:linkB S i=true):stepC b R n S i=true:=by
 unfold stepC verd
 rw [decide_eq_true h.1,h.2,h2,h3];rfl
theorem chv_vd {b:Bas} {R:Nat→Nat→Int} {n:Nat} {h:Chn} (g:chvB b R n h=true) {i:Nat} (hi:i<h.n+1):verd b R n (chnS h i)=true:=by
 unfold chvB at g
 simp only [Bool.and_eq_true] at g
 have:=List.all_eq_true.1 g.2.2 i (List.mem_range.2 hi)
 unfold stepC at this
 simp only [Bool.and_eq_true] at this
 exact this.1
theorem chainF_by (S:Nat→Spend) (n:Nat):byB (chainF S n) 32:=by
 by_cases h:n=0
 ·rw [chainF_0 h];exact zero_by
 ·rw [chainF_1 h];exact fun i _=>sha_by _ _ i
noncomputable def chtI (D:Nat→Bool) (n:Nat):Int:=firstI D n 0
noncomputable def chtE (b:Bas) (R:Nat→Nat→Int) (n:Nat) (x y:Chn) (D:Nat→Bool) (m:Nat):Int :=
 if validB b=false then 1 else if chvB b R n x=false∨chvB b R n y=false then 11 else if (sharedL x.first y.first).length=0 then 7
 else if chtI D m<0 then 20 else prvE b R n (chnS x (chtI D m).toNat) (chnS y (chtI D m).toNat)
noncomputable def chtH (b:Bas) (R:Nat→Nat→Int) (n:Nat) (x y:Chn) (D:Nat→Bool) (m:Nat):Int:=if chtE b R n x y D m=0 then chtI D m else 0
noncomputable def chtS (b:Bas) (R:Nat→Nat→Int) (n:Nat) (x y:Chn) (D:Nat→Bool) (m:Nat):Spend:=if chtE b R n x y D m=0 then prS b R n (chnS x (chtI D m).toNat) (chnS y (chtI D m).toNat) else .zero
noncomputable def chtT (b:Bas) (R:Nat→Nat→Int) (n:Nat) (x y:Chn) (D:Nat→Bool) (m:Nat):Spend:=if chtE b R n x y D m=0 then prT b R n (chnS x (chtI D m).toNat) (chnS y (chtI D m).toNat) else .zero
noncomputable def chtL (b:Bas) (R:Nat→Nat→Int) (n:Nat) (x y:Chn) (D:Nat→Bool) (m:Nat):Int:=if chtE b R n x y D m=0 then prL b R n (chnS x (chtI D m).toNat) (chnS y (chtI D m).toNat) else 0
noncomputable abbrev chtV (b:Bas) (R:Nat→Nat→Int) (n:Nat) (x y:Chn) (D:Nat→Bool) (m:Nat):AV :=
 .tup [.int .i64 (chtH b R n x y D m),gul (chtS b R n x y D m) (chtT b R n x y D m) (chtL b R n x y D m),.int .i64 (chtE b R n x y D m)]
theorem cht_e {os:List (Option Ob)} {b:Bas} {R:Nat→Nat→Int} {n:Nat} {x y:Chn} {D:Nat→Bool} {m:Nat} {e:Int} (h:chtE b R n x y D m=e) (h0:e≠0) :
  Ent os (.tup [.int .i64 0,.agg (Spend.zero.cw .nsl .nsl++(Spend.zero.cw .nsl .nsl++[.int .i64 0])),.int .i64 e]) (chtV b R n x y D m):=by
 have e2:gul (chtS b R n x y D m) (chtT b R n x y D m) (chtL b R n x y D m)=gul .zero .zero 0:=by
  unfold chtS chtT chtL;rw [if_neg (by rw [h];exact h0),if_neg (by rw [h];exact h0),if_neg (by rw [h];exact h0)]
 have e3:chtH b R n x y D m=0:=by unfold chtH;rw [if_neg (by rw [h];exact h0)]
 unfold chtV
 rw [e2,e3,h]
 exact Ent.tup ⟨Ent.refl _,Ent.agg (entL_app zero_ent (entL_app zero_ent (EntL.refl _))),Ent.refl _,trivial⟩
theorem cht_1 {b:Bas} {R:Nat→Nat→Int} {n:Nat} {x y:Chn} {D:Nat→Bool} {m:Nat} (h:validB b=false):chtE b R n x y D m=1:=if_pos h
theorem cht_2 {b:Bas} {R:Nat→Nat→Int} {n:Nat} {x y:Chn} {D:Nat→Bool} {m:Nat} (h:validB b=true) (h2:chvB b R n x=false∨chvB b R n y=false):chtE b R n x y D m=11:=by
 unfold chtE;rw [if_neg (by simp [h]),if_pos h2]
theorem cht_3 {b:Bas} {R:Nat→Nat→Int} {n:Nat} {x y:Chn} {D:Nat→Bool} {m:Nat} (h:validB b=true) (h2:chvB b R n x=true∧chvB b R n y=true) (h3:(sharedL x.first y.first).length=0):chtE b R n x y D m=7:=by
 unfold chtE;rw [if_neg (by simp [h]),if_neg (by simp [h2]),if_pos h3]
theorem cht_4 {b:Bas} {R:Nat→Nat→Int} {n:Nat} {x y:Chn} {D:Nat→Bool} {m:Nat} (h:validB b=true) (h2:chvB b R n x=true∧chvB b R n y=true) (h3:¬(sharedL x.first y.first).length=0) :
  chtE b R n x y D m=if chtI D m<0 then 20 else prvE b R n (chnS x (chtI D m).toNat) (chnS y (chtI D m).toNat):=by
 unfold chtE;rw [if_neg (by simp [h]),if_neg (by simp [h2]),if_neg h3]
theorem cht_no {b:Bas} {R:Nat→Nat→Int} {n:Nat} {x y:Chn} {D:Nat→Bool} {m i:Nat} (h:validB b=true) (h2:chvB b R n x=true∧chvB b R n y=true) (h3:¬(sharedL x.first y.first).length=0)
  (hi:m≤i) (hx:firstI D m 0=firstI D (m - i) i):chtE b R n x y D m=20:=by
 have e:chtI D m = -1:=(first_miss hx hi).symm
 rw [cht_4 h h2 h3,if_pos (by omega)]
theorem cht_i {b:Bas} {R:Nat→Nat→Int} {n:Nat} {x y:Chn} {D:Nat→Bool} {m i:Nat} (h:validB b=true) (h2:chvB b R n x=true∧chvB b R n y=true) (h3:¬(sharedL x.first y.first).length=0)
  (hi:i<m) (hx:firstI D m 0=firstI D (m - i) i) (hd:D i=true):chtI D m=i∧chtE b R n x y D m=prvE b R n (chnS x i) (chnS y i):=by
 have e:chtI D m=i:=(first_hit hx hi hd).symm
 refine ⟨e,?_⟩
 rw [cht_4 h h2 h3,if_neg (by omega),e,Int.toNat_natCast]
theorem cht_ok {b:Bas} {R:Nat→Nat→Int} {n:Nat} {x y:Chn} {D:Nat→Bool} {m i:Nat} (h:validB b=true) (h2:chvB b R n x=true∧chvB b R n y=true) (h3:¬(sharedL x.first y.first).length=0)
  (hi:i<m) (hx:firstI D m 0=firstI D (m - i) i) (hd:D i=true) (he:prvE b R n (chnS x i) (chnS y i)=0) :
  AV.tup [.int .i64 i,gul (prS b R n (chnS x i) (chnS y i)) (prT b R n (chnS x i) (chnS y i)) (prL b R n (chnS x i) (chnS y i)),.int .i64 0]=chtV b R n x y D m:=by
 obtain ⟨e,e2⟩:=cht_i h h2 h3 hi hx hd
 rw [he] at e2
 unfold chtV chtH chtS chtT chtL
 rw [if_pos e2,if_pos e2,if_pos e2,if_pos e2,e2,e,Int.toNat_natCast]
theorem cht_er {os:List (Option Ob)} {b:Bas} {R:Nat→Nat→Int} {n:Nat} {x y:Chn} {D:Nat→Bool} {m i:Nat} (h:validB b=true) (h2:chvB b R n x=true∧chvB b R n y=true) (h3:¬(sharedL x.first y.first).length=0)
  (hi:i<m) (hx:firstI D m 0=firstI D (m - i) i) (hd:D i=true) (he:¬prvE b R n (chnS x i) (chnS y i)=0) :
  Ent os (.tup [.int .i64 0,.agg (Spend.zero.cw .nsl .nsl++(Spend.zero.cw .nsl .nsl++[.int .i64 0])),.int .i64 (prvE b R n (chnS x i) (chnS y i))]) (chtV b R n x y D m) :=
 cht_e (cht_i h h2 h3 hi hx hd).2 he
end Go.Sp

namespace Go.Proofs.YtolcfdcoidpieaaGreatDoor
open Go Go.Am Go.Sp
set_option maxRecDepth 100000
abbrev kHK10:List AV:=[AV.agg [Zi 0,Zi 0,Zi 0,Zi 0,Zi 0,Zi 0,Zi 0,Zi 0,Zi 0,Zi 0,Zi 0],AV.bool false]
theorem passes_c (S:Nat→Spend) (k:Nat) (c:Coin) (hk:k≤300) (hs:∀ i,i<k→(S i).Sm) (hr:byB c.root 32):Pure Tryz.prog gl0 38 [.isl 80 (k+1) fun i j=>atL (S i).cells j,c.av] (.bool (passB S k c)):=by
 have c1:=fun (m:Nat) (hm:m=k)=>digestOf_c S m (by omega) (fun i hi=>hs i (by omega))
 have c2:=fun (m:Nat)=>name_c c (chainF S m) hr (chainF_by S m)
 have e:IntKind.wrap .i64 (((k+1:Nat):Int) - 1)=k:=by rw [wI (by omega) (by omega)];omega
 have e2:Int.toNat (IntKind.wrap .i64 (((k+1:Nat):Int) - 1))=k:=by rw [e];rfl
 refine pure_sk (own:=ow0) Tryz.func38 (by kernel_rfl) mixed (by kernel_rfl)
  (let y0:Nat:=(Int.toNat (IntKind.wrap IntKind.i64 ((↑(k+1):Int) - 1)));(.req ((0:Int)≤IntKind.wrap IntKind.i64 ((↑(k+1):Int) - 1)∧IntKind.wrap IntKind.i64 ((↑(k+1):Int) - 1)<(↑(k+1):Int)) (.req ((((S y0).15==IntKind.wrap IntKind.i64 ((↑(k+1):Int) - 1))==true)=true→(0:Int)≤IntKind.wrap IntKind.i64 ((↑(k+1):Int) - 1)∧IntKind.wrap IntKind.i64 ((↑(k+1):Int) - 1)≤(↑(k+1):Int)) (.sc (((S y0).15==IntKind.wrap IntKind.i64 ((↑(k+1):Int) - 1))==true) 64 ([AV.isl 80 y0 fun (i j:Nat)=>atL (Spend.cells (S (i+0))) j]) (AV.agg (u8c (chainF S y0))) (.sc (((S y0).15==IntKind.wrap IntKind.i64 ((↑(k+1):Int) - 1))==true) 49 ([AV.agg (Coin.cells c),AV.agg (u8c (chainF S y0))]) (AV.agg (u8c (nameF c (chainF S y0)))) (.out (AV.bool ((S y0).15==IntKind.wrap IntKind.i64 ((↑(k+1):Int) - 1)&&((S y0).13 0==nameF c (chainF S y0) 0&&((S y0).13 1==nameF c (chainF S y0) 1&&((S y0).13 2==nameF c (chainF S y0) 2&&((S y0).13 3==nameF c (chainF S y0) 3&&((S y0).13 4==nameF c (chainF S y0) 4&&((S y0).13 5==nameF c (chainF S y0) 5&&((S y0).13 6==nameF c (chainF S y0) 6&&((S y0).13 7==nameF c (chainF S y0) 7&&((S y0).13 8==nameF c (chainF S y0) 8&&((S y0).13 9==nameF c (chainF S y0) 9&&((S y0).13 10==nameF c (chainF S y0) 10&&((S y0).13 11==nameF c (chainF S y0) 11&&((S y0).13 12==nameF c (chainF S y0) 12&&((S y0).13 13==nameF c (chainF S y0) 13&&((S y0).13 14==nameF c (chainF S y0) 14&&((S y0).13 15==nameF c (chainF S y0) 15&&((S y0).13 16==nameF c (chainF S y0) 16&&((S y0).13 17==nameF c (chainF S y0) 17&&((S y0).13 18==nameF c (chainF S y0) 18&&((S y0).13 19==nameF c (chainF S y0) 19&&((S y0).13 20==nameF c (chainF S y0) 20&&((S y0).13 21==nameF c (chainF S y0) 21&&((S y0).13 22==nameF c (chainF S y0) 22&&((S y0).13 23==nameF c (chainF S y0) 23&&((S y0).13 24==nameF c (chainF S y0) 24&&((S y0).13 25==nameF c (chainF S y0) 25&&((S y0).13 26==nameF c (chainF S y0) 26&&((S y0).13 27==nameF c (chainF S y0) 27&&((S y0).13 28==nameF c (chainF S y0) 28&&((S y0).13 29==nameF c (chainF S y0) 29&&((S y0).13 30==nameF c (chainF S y0) 30&&((S y0).13 31==nameF c (chainF S y0) 31&&true)))))))))))))))))))))))))))))))))) [] (AV.bool (passB S k c)) []))))))
  (by kernel_rfl) ?_
 refine k_req (by (rw [e];omega)) ?_
 refine k_req (by (rw [e];omega)) ?_
 refine k_scg (fun h2=>c1 (Int.toNat (IntKind.wrap IntKind.i64 ((↑(k+1):Int) - (1:Int)))) (e2)) ?_
 refine k_scg (fun h3=>c2 (Int.toNat (IntKind.wrap IntKind.i64 ((↑(k+1):Int) - (1:Int))))) ?_
 exact k_out (Ent.of_eq (congrArg _ (by rw [e2,e];rfl)))
theorem passesM_c (S:Nat→Spend) (m:Nat) (c:Coin) (hm:1≤m∧m≤301) (hs:∀ i,i<m→(S i).Sm) (hr:byB c.root 32):Pure Tryz.prog gl0 38 [.isl 80 m fun i j=>atL (S i).cells j,c.av] (.bool (passB S (m - 1) c)):=by
 have h:=passes_c S (m - 1) c (by omega) (fun i hi=>hs i (by omega)) hr
 rw [show m - 1+1=m by omega] at h
 exact h
theorem rpasses_c (S:Nat→Spend) (n k:Nat) (c:Coin) (hn:n≤302) (hk:k<n) (hs:∀ i,i<k→(S i).Sm) (hr:byB c.root 32):Pure Tryz.prog gl0 42 [.isl 80 n fun i j=>atL (S i).cells j,.int .i64 k,c.av] (.bool (passB S k c)):=by
 have c1:=rdigests_c S k (by omega) hs
 have c2:=rname_c c (chainF S k) hr (chainF_by S k)
 refine pure_sk (own:=ow0) Tryz.func42 (by kernel_rfl) mixed (by kernel_rfl)
  (let y0:Nat:=(Int.toNat (↑k:Int));(.req ((0:Int)≤(↑k:Int)∧(↑k:Int)<(↑n:Int)) (.req ((((S y0).15==(↑k:Int))==true)=true→(0:Int)≤(↑k:Int)∧(↑k:Int)≤(↑n:Int)) (.sc (((S y0).15==(↑k:Int))==true) 55 ([AV.isl 80 y0 fun (i j:Nat)=>atL (Spend.cells (S (i+0))) j]) (AV.agg (u8c (chainF S k))) (.sc (((S y0).15==(↑k:Int))==true) 54 ([AV.agg (Coin.cells c),AV.agg (u8c (chainF S k))]) (AV.agg (u8c (nameF c (chainF S k)))) (.out (AV.bool ((S y0).15==(↑k:Int)&&((S y0).13 0==nameF c (chainF S k) 0&&((S y0).13 1==nameF c (chainF S k) 1&&((S y0).13 2==nameF c (chainF S k) 2&&((S y0).13 3==nameF c (chainF S k) 3&&((S y0).13 4==nameF c (chainF S k) 4&&((S y0).13 5==nameF c (chainF S k) 5&&((S y0).13 6==nameF c (chainF S k) 6&&((S y0).13 7==nameF c (chainF S k) 7&&((S y0).13 8==nameF c (chainF S k) 8&&((S y0).13 9==nameF c (chainF S k) 9&&((S y0).13 10==nameF c (chainF S k) 10&&((S y0).13 11==nameF c (chainF S k) 11&&((S y0).13 12==nameF c (chainF S k) 12&&((S y0).13 13==nameF c (chainF S k) 13&&((S y0).13 14==nameF c (chainF S k) 14&&((S y0).13 15==nameF c (chainF S k) 15&&((S y0).13 16==nameF c (chainF S k) 16&&((S y0).13 17==nameF c (chainF S k) 17&&((S y0).13 18==nameF c (chainF S k) 18&&((S y0).13 19==nameF c (chainF S k) 19&&((S y0).13 20==nameF c (chainF S k) 20&&((S y0).13 21==nameF c (chainF S k) 21&&((S y0).13 22==nameF c (chainF S k) 22&&((S y0).13 23==nameF c (chainF S k) 23&&((S y0).13 24==nameF c (chainF S k) 24&&((S y0).13 25==nameF c (chainF S k) 25&&((S y0).13 26==nameF c (chainF S k) 26&&((S y0).13 27==nameF c (chainF S k) 27&&((S y0).13 28==nameF c (chainF S k) 28&&((S y0).13 29==nameF c (chainF S k) 29&&((S y0).13 30==nameF c (chainF S k) 30&&((S y0).13 31==nameF c (chainF S k) 31&&true)))))))))))))))))))))))))))))))))) [] (AV.bool (passB S k c)) []))))))
  (by kernel_rfl) ?_
 refine k_req (by omega) ?_
 refine k_req (fun hr=>by have hr:=(cnd_eqt_t cnd_beq_t) hr;omega) ?_
 refine k_scg (fun h2=>c1) ?_
 refine k_scg (fun h3=>c2) ?_
 exact k_out (Ent.refl _)
theorem rpassesZ_c (S:Nat→Spend) (n:Nat) (z:Int) (c:Coin) (hn:n≤302) (hz:0≤z∧z<n) (hs:∀ i,i<n→(S i).Sm) (hr:byB c.root 32):Pure Tryz.prog gl0 42 [.isl 80 n fun i j=>atL (S i).cells j,.int .i64 z,c.av] (.bool (passB S z.toNat c)):=by
 have e:z=(z.toNat:Int):=by omega
 have h:=rpasses_c S n z.toNat c hn (by omega) (fun i hi=>hs i (by omega)) hr
 rw [← e] at h
 exact h
theorem vrecord_c (R:Nat→Nat→Int) (n:Nat) (s:Spend) (hn:n≤1000):Pure Tryz.prog gl0 36 [rcl n R,s.coin.av] (.tup [(rcX R n s).av,.bool (decide (fnS R n s≥0))]):=by
 have c1:=vfind_c R n s.bank s.epoch s.denom hn
 refine pure_sk (own:=ow0) Tryz.func36 (by kernel_rfl) mixed (by kernel_rfl)
  (let y0:Nat:=(Int.toNat (fnI R n s.1 s.2 s.3));let y1:AV:=(AV.tup [Rcd.av (rcX R n s),AV.bool (decide (fnS R n s≥0))]);(.sc (true) 69 ([AV.isl 11 n fun (i j:Nat)=>Zi (R i j),Zi s.1,Zi s.2,Zi s.3]) (Zi (fnI R n (Spend.bank s) (Spend.epoch s) (Spend.denom s))) (.br (decide (fnI R n s.1 s.2 s.3<0)) (.out (AV.tup kHK10) [] y1 []) (.req ((0:Int)≤fnI R n s.1 s.2 s.3∧fnI R n s.1 s.2 s.3<(↑n:Int)) (.out (AV.tup [AV.agg [Zi (R y0 0),Zi (R y0 1),Zi (R y0 2),Zi (R y0 3),Zi (R y0 4),Zi (R y0 5),Zi (R y0 6),Zi (R y0 7),Zi (R y0 8),Zi (R y0 9),Zi (R y0 10)],AV.bool true]) [] y1 [])))))
  (by kernel_rfl) ?_
 refine k_sc (c1) ?_
 refine k_br (fun h1 => ?_) (fun h1 => ?_)
 ·have g1:=cnd_dec_t h1
  exact k_out (Ent.of_eq (rec_no (s:=s) g1))
 ·have g1:=cnd_dec_f h1
  refine k_req (fnI_lt g1) ?_
  exact k_out (Ent.of_eq (rec_ok (s:=s) g1))
theorem vrrecord_c (R:Nat→Nat→Int) (n:Nat) (s:Spend) (hn:n≤1000):Pure Tryz.prog gl0 40 [rcl n R,s.coin.av] (.tup [(rcX R n s).av,.bool (decide (fnS R n s≥0))]):=by
 have c1:=rvfind_c R n s.bank s.epoch s.denom hn
 refine pure_sk (own:=ow0) Tryz.func40 (by kernel_rfl) mixed (by kernel_rfl)
  (let y0:Nat:=(Int.toNat (fnI R n s.1 s.2 s.3));let y1:AV:=(AV.tup [Rcd.av (rcX R n s),AV.bool (decide (fnS R n s≥0))]);(.sc (true) 79 ([AV.isl 11 n fun (i j:Nat)=>Zi (R i j),Zi s.1,Zi s.2,Zi s.3]) (Zi (fnI R n (Spend.bank s) (Spend.epoch s) (Spend.denom s))) (.br (decide (fnI R n s.1 s.2 s.3<0)) (.out (AV.tup kHK10) [] y1 []) (.req ((0:Int)≤fnI R n s.1 s.2 s.3∧fnI R n s.1 s.2 s.3<(↑n:Int)) (.out (AV.tup [AV.agg [Zi (R y0 0),Zi (R y0 1),Zi (R y0 2),Zi (R y0 3),Zi (R y0 4),Zi (R y0 5),Zi (R y0 6),Zi (R y0 7),Zi (R y0 8),Zi (R y0 9),Zi (R y0 10)],AV.bool true]) [] y1 [])))))
  (by kernel_rfl) ?_
 refine k_sc (c1) ?_
 refine k_br (fun h1 => ?_) (fun h1 => ?_)
 ·have g1:=cnd_dec_t h1
  exact k_out (Ent.of_eq (rec_no (s:=s) g1))
 ·have g1:=cnd_dec_f h1
  refine k_req (fnI_lt g1) ?_
  exact k_out (Ent.of_eq (rec_ok (s:=s) g1))
theorem wm1 {x:Nat} (h:0<x) (h2:x≤400):Int.toNat (IntKind.wrap .i64 ((x:Int) - 1))=x - 1:=by
 rw [wI (by omega) (by omega)];omega
theorem cverify_c (b:Bas) (R:Nat→Nat→Int) (n:Nat) (h:Chn) (hn:n≤1000) (hm:h.n≤300) (hw:b.gr.W) (hs:∀ i,i<h.n+1→(chnS h i).Sm):Pure Tryz.prog gl0 9 [b.av,rcl n R,h.av] (.bool (chvB b R n h)):=by
 have c0:=bvalid_c b hw
 have c1:=spends_c h (by omega)
 have c2:=fun i=>vrecord_c R n (chnS h i) hn
 have c3:=fun i hi=>vfy_c b (rcX R n (chnS h i)) (chnS h i) hw (hs i hi).by_.root (hs i hi).by_.payee (hs i hi).path (by have:=(hs i hi).np;omega) (by have:=(hs i hi).nl;omega)
 have c4:=fun m i (hm:1≤m∧m≤h.n+1) (hi:i<h.n+1)=>passesM_c (chnS h) m (chnS h i).coin (by omega) (fun j hj=>hs j (by omega)) (hs i hi).by_.root
 refine pure_sk (own:=ow0) Tryz.func9 (by kernel_rfl) mixed (by kernel_rfl)
  (let y0:List (Option Ob):=[some ⟨6,1,true,Rep.lst [Bas.cells b]⟩];let y1:AV:=(AV.bool (chvB b R n h));(.sc (true) 34 ([AV.agg (Bas.cells b)]) (AV.bool (validB b)) (.br (!validB b||decide ((↑h.2:Int)>8)) (.out (AV.bool false) [] y1 []) (.dc (true) 35 ([AV.agg (Chn.cells h)]) (AV.isl 80 (Chn.n h+1) fun (i j:Nat)=>atL (Spend.cells (chnS h i)) j) (.loop ({ x:Nat // x≤Chn.n h+1∧(fun (x:Nat)=>∀ (j:Nat),j<x→stepC b R n (chnS h) j=true) x }) (fun (x:{ x:Nat // x≤Chn.n h+1∧(fun (x:Nat)=>∀ (j:Nat),j<x→stepC b R n (chnS h) j=true) x })=>mkSt [1,2,3,7,14,23,24,25] [AV.isl 11 n fun (i j:Nat)=>Zi (R i j),AV.agg (Chn.cells h),AV.own 0 6 0 0 6,AV.isl 80 (h.2+1) fun (i j:Nat)=>atL (Spend.cells (chnS h i)) j,AV.bool !validB b,AV.isl 80 (h.2+1) fun (i j:Nat)=>atL (Spend.cells (chnS h i)) j,Zi (↑(h.2+1):Int),Zi (↑(x.1):Int)] y0) (fun (x:{ x:Nat // x≤Chn.n h+1∧(fun (x:Nat)=>∀ (j:Nat),j<x→stepC b R n (chnS h) j=true) x })=>Chn.n h+1 - x.1) (⟨0,⟨Nat.zero_le (Chn.n h+1),fun (j:Nat) (hj:j<0)=>absurd hj (Nat.not_lt_zero j)⟩⟩) ([1,2,3,7,14,23,24,25]) ([0]) ([AV.isl 11 n fun (i j:Nat)=>Zi (R i j),AV.agg (Chn.cells h),AV.own 0 6 0 0 6,AV.isl 80 (h.2+1) fun (i j:Nat)=>atL (Spend.cells (chnS h i)) j,AV.bool !validB b,AV.isl 80 (h.2+1) fun (i j:Nat)=>atL (Spend.cells (chnS h i)) j,Zi (↑(h.2+1):Int),Zi 0]) (y0) (fun x4=>(.br (decide ((↑x4.1:Int)<(↑(h.2+1):Int))) (.req ((0:Int)≤(↑x4.1:Int)∧(↑x4.1:Int)<(↑(h.2+1):Int)) (.sc (true) 36 ([AV.isl 11 n fun (i j:Nat)=>Zi (R i j),AV.agg (Zi (chnS h (Int.toNat (↑(x4.1):Int))).1::Zi (chnS h (Int.toNat (↑(x4.1):Int))).2::Zi (chnS h (Int.toNat (↑(x4.1):Int))).3::Zi (chnS h (Int.toNat (↑(x4.1):Int))).4::Zi (chnS h (Int.toNat (↑(x4.1):Int))).5::(u8c (chnS h (Int.toNat (↑(x4.1):Int))).6++[Zi (chnS h (Int.toNat (↑(x4.1):Int))).7,Zi (chnS h (Int.toNat (↑(x4.1):Int))).8,Zi (chnS h (Int.toNat (↑(x4.1):Int))).9,Zi (chnS h (Int.toNat (↑(x4.1):Int))).10]))]) (AV.tup [Rcd.av (rcX R n (chnS h (Int.toNat (↑(x4.1):Int)))),AV.bool (decide (fnS R n (chnS h (Int.toNat (↑(x4.1):Int)))≥0))]) (.sc ((!decide (fnS R n (chnS h (Int.toNat (↑x4.1:Int)))≥0))==false) 37 ([AV.agg (Bas.cells b),AV.agg (Rcd.cells (rcX R n (chnS h (Int.toNat (↑(x4.1):Int))))),AV.agg (Spend.cells (chnS h (Int.toNat (↑(x4.1):Int))))]) (AV.bool (vfy b (rcX R n (chnS h (Int.toNat (↑(x4.1):Int)))) (chnS h (Int.toNat (↑(x4.1):Int))))) (.br (!decide (fnS R n (chnS h (Int.toNat (↑x4.1:Int)))≥0) || !vfy b (rcX R n (chnS h (Int.toNat (↑x4.1:Int)))) (chnS h (Int.toNat (↑x4.1:Int)))) (.out (AV.bool false) [] y1 []) (.br ((↑x4.1:Int)==0&&decide ((rcX R n (chnS h (Int.toNat (↑(x4.1):Int)))).4≤0)||decide ((↑x4.1:Int)>0)&&((rcX R n (chnS h (Int.toNat (↑(x4.1):Int)))).4 != 0||(rcX R n (chnS h (Int.toNat (↑(x4.1):Int)))).5 != 0)) (.out (AV.bool false) [] y1 []) (.req ((decide ((↑x4.1:Int)>0)==true)=true→(0:Int)≤(↑x4.1:Int)∧(↑x4.1:Int)≤(↑(h.2+1):Int)) (.sc (decide ((↑x4.1:Int)>0)==true) 38 ([AV.isl 80 (Int.toNat (↑x4.1:Int)) fun (i j:Nat)=>atL (Spend.cells (chnS h (i+0))) j,AV.agg (Zi (chnS h (Int.toNat (↑(x4.1):Int))).1::Zi (chnS h (Int.toNat (↑(x4.1):Int))).2::Zi (chnS h (Int.toNat (↑(x4.1):Int))).3::Zi (chnS h (Int.toNat (↑(x4.1):Int))).4::Zi (chnS h (Int.toNat (↑(x4.1):Int))).5::(u8c (chnS h (Int.toNat (↑(x4.1):Int))).6++[Zi (chnS h (Int.toNat (↑(x4.1):Int))).7,Zi (chnS h (Int.toNat (↑(x4.1):Int))).8,Zi (chnS h (Int.toNat (↑(x4.1):Int))).9,Zi (chnS h (Int.toNat (↑(x4.1):Int))).10]))]) (AV.bool (passB (chnS h) (Int.toNat (↑x4.1:Int) - 1) (Spend.coin (chnS h (Int.toNat (↑(x4.1):Int)))))) (.req ((decide ((↑x4.1:Int)>0)==true&&(!passB (chnS h) (Int.toNat (↑x4.1:Int) - 1) (Spend.coin (chnS h (Int.toNat (↑x4.1:Int)))))==false)=true→(0:Int)≤IntKind.wrap IntKind.i64 ((↑x4.1:Int) - 1)∧IntKind.wrap IntKind.i64 ((↑x4.1:Int) - 1)<(↑(h.2+1):Int)) (.br (decide ((↑x4.1:Int)>0)&&(!passB (chnS h) (Int.toNat (↑x4.1:Int) - 1) (Spend.coin (chnS h (Int.toNat (↑x4.1:Int))))||decide ((chnS h (Int.toNat (↑(x4.1):Int))).14<(chnS h (Int.toNat (IntKind.wrap IntKind.i64 ((↑(x4.1):Int) - 1)))).14))) (.out (AV.bool false) [] y1 []) (.again (Again 0 (fun (x:{ x:Nat // x≤Chn.n h+1∧(fun (x:Nat)=>∀ (j:Nat),j<x→stepC b R n (chnS h) j=true) x })=>mkSt [1,2,3,7,14,23,24,25] [AV.isl 11 n fun (i j:Nat)=>Zi (R i j),AV.agg (Chn.cells h),AV.own 0 6 0 0 6,AV.isl 80 (h.2+1) fun (i j:Nat)=>atL (Spend.cells (chnS h i)) j,AV.bool !validB b,AV.isl 80 (h.2+1) fun (i j:Nat)=>atL (Spend.cells (chnS h i)) j,Zi (↑(h.2+1):Int),Zi (↑(x.1):Int)] y0) (fun (x:{ x:Nat // x≤Chn.n h+1∧(fun (x:Nat)=>∀ (j:Nat),j<x→stepC b R n (chnS h) j=true) x })=>Chn.n h+1 - x.1) x4) ([1,2,3,7,14,23,24,25]) ([0]) ([AV.isl 11 n fun (i j:Nat)=>Zi (R i j),AV.agg (Chn.cells h),AV.own 0 6 0 0 6,AV.isl 80 (h.2+1) fun (i j:Nat)=>atL (Spend.cells (chnS h i)) j,AV.bool !validB b,AV.isl 80 (h.2+1) fun (i j:Nat)=>atL (Spend.cells (chnS h i)) j,Zi (↑(h.2+1):Int),Zi (IntKind.wrap IntKind.i64 ((↑x4.1:Int)+1))]) (y0))))))))))) (.out (AV.bool true) [] y1 []))))))))
  (by kernel_rfl) ?_
 refine k_sc (c0) ?_
 refine k_br (fun h1 => ?_) (fun h1 => ?_)
 ·have g1:=(cnd_or_t (cnd_not_t cnd_id_f) cnd_dec_t) h1
  exact k_out (Ent.of_eq (congrArg _ (chv_1 g1).symm))
 ·have g1:=(cnd_or_f (cnd_not_f cnd_id_t) cnd_dec_f) h1
  refine k_dc (c1) ?_
  refine k_loop (fun _ hs=>hs.le (⟨.refl _,.refl _,.refl _,.refl _,.refl _,.refl _,.refl _,.refl _,trivial⟩) (⟨.refl _,trivial⟩)) (fun x4 => ?_)
  try (have q4:=x4.2;dsimp only at q4)
  refine k_br (fun h5 => ?_) (fun h5 => ?_)
  ·have g5:=cnd_dec_t h5
   refine k_req (by omega) ?_
   refine k_sc (c2 (Int.toNat (↑(x4.1):Int))) ?_
   refine k_scg (fun h8=>c3 (Int.toNat (↑(x4.1):Int)) (by omega)) ?_
   refine k_br (fun h9 => ?_) (fun h9 => ?_)
   ·have g9:=(cnd_or_t (cnd_not_t cnd_dec_f) (cnd_not_t cnd_id_f)) h9
    try simp only [Int.toNat_natCast] at g9
    exact k_out (Ent.of_eq (congrArg _ (chv_2 (i:=x4.1) (by omega) (stepC_1 g9)).symm))
   ·have g9:=(cnd_or_f (cnd_not_f cnd_dec_t) (cnd_not_f cnd_id_t)) h9
    try simp only [Int.toNat_natCast] at g9
    refine k_br (fun h11 => ?_) (fun h11 => ?_)
    ·have g11:=(cnd_or_t (cnd_and_t cnd_beq_t cnd_dec_t) (cnd_and_t cnd_dec_t (cnd_or_t cnd_bne_t cnd_bne_t))) h11
     try simp only [Int.toNat_natCast] at g11
     exact k_out (Ent.of_eq (congrArg _ (chv_2 (i:=x4.1) (by omega) (stepC_2 (rule_f g11))).symm))
    ·have g11:=(cnd_or_f (cnd_and_f cnd_beq_f cnd_dec_f) (cnd_and_f cnd_dec_f (cnd_or_f cnd_bne_f cnd_bne_f))) h11
     try simp only [Int.toNat_natCast] at g11
     refine k_req (fun hr=>by have hr:=(cnd_eqt_t cnd_dec_t) hr;omega) ?_
     refine k_scg (fun h14=>c4 (Int.toNat (↑x4.1:Int)) (Int.toNat (↑(x4.1):Int)) ((by have h:=of_decide_eq_true (eq_of_beq h14);simp only [Int.toNat_natCast];first|omega|(rw [wI (by omega) (by omega)];omega))) (by omega)) ?_
     refine k_req ((fun hr=>by have hr:=(cnd_and_t (cnd_eqt_t cnd_dec_t) (cnd_eqf_t (cnd_not_f cnd_id_t))) hr;have h0:=hr.1;first|omega|(rw [wI (by omega) (by omega)];omega))) ?_
     refine k_br (fun h16 => ?_) (fun h16 => ?_)
     ·have g16:=(cnd_and_t cnd_dec_t (cnd_or_t (cnd_not_t cnd_id_f) cnd_dec_t)) h16
      try simp only [Int.toNat_natCast] at g16
      exact k_out (Ent.of_eq (congrArg _ (chv_2 (i:=x4.1) (by omega) (stepC_3 (link_f g16.1 (by have e:=wm1 (x:=x4.1) (by omega) (by omega);simp only [e] at g16;exact g16.2)))).symm))
     ·have g16:=(cnd_and_f cnd_dec_f (cnd_or_f (cnd_not_f cnd_id_t) cnd_dec_f)) h16
      try simp only [Int.toNat_natCast] at g16
      exact k_again (⟨x4.1+1,by omega,fun j hj=>by rcases Nat.lt_succ_iff_lt_or_eq.1 hj with hj|rfl;(· exact x4.2.2 j hj);(· exact stepC_t g9 (rule_t g11.1 g11.2) (link_t (by by_cases hx:0<x4.1;(· have e:=wm1 (x:=x4.1) hx (by omega);simp only [e] at g16;exact g16);(· exact .inl (by omega)))))⟩) (fun _ hs=>hs.le (⟨.refl _,.refl _,.refl _,.refl _,.refl _,.refl _,.refl _,inc_ent (by omega),trivial⟩) (⟨.refl _,trivial⟩)) (by dsimp only;omega)
  ·have g5:=cnd_dec_f h5
   exact k_out (Ent.of_eq (congrArg _ (chv_3 g1.1 (by omega) (fun i hi=>x4.2.2 i (by omega))).symm))
theorem rcverify_c (b:Bas) (R:Nat→Nat→Int) (n:Nat) (h:Chn) (hn:n≤1000) (hm:h.n≤300) (hw:b.gr.W) (hs:∀ i,i<h.n+1→(chnS h i).Sm):Pure Tryz.prog gl0 10 [b.av,rcl n R,h.av] (.bool (chvB b R n h)):=by
 have c0:=r11valid_c b hw
 have c1:=rspends_c h (by omega)
 have c2:=fun i=>vrrecord_c R n (chnS h i) hn
 have c3:=fun i hi=>rvfy_c b (rcX R n (chnS h i)) (chnS h i) hw (hs i hi).by_.root (hs i hi).by_.payee (hs i hi).path (by have:=(hs i hi).np;omega) (by have:=(hs i hi).nl;omega)
 have c4:=fun (z:Int) i (hz:0≤z∧z<(h.n+1:Nat)) (hi:i<h.n+1)=>rpassesZ_c (chnS h) (h.n+1) z (chnS h i).coin (by omega) hz (fun j hj=>hs j (by omega)) (hs i hi).by_.root
 refine pure_sk (own:=ow0) Tryz.func10 (by kernel_rfl) mixed (by kernel_rfl)
  (let y0:List (Option Ob):=[some ⟨6,1,true,Rep.lst [Bas.cells b]⟩];let y1:AV:=(AV.bool (chvB b R n h));(.sc (true) 19 ([AV.agg (Bas.cells b)]) (AV.bool (validB b)) (.br (!validB b||decide ((↑h.2:Int)>8)) (.out (AV.bool false) [] y1 []) (.dc (true) 39 ([AV.agg (Chn.cells h)]) (AV.isl 80 (Chn.n h+1) fun (i j:Nat)=>atL (Spend.cells (chnS h i)) j) (.loop ({ x:Nat // x≤Chn.n h+1∧(fun (x:Nat)=>∀ (j:Nat),j<x→stepC b R n (chnS h) j=true) x }) (fun (x:{ x:Nat // x≤Chn.n h+1∧(fun (x:Nat)=>∀ (j:Nat),j<x→stepC b R n (chnS h) j=true) x })=>mkSt [1,2,3,7,13,14,8] [AV.isl 11 n fun (i j:Nat)=>Zi (R i j),AV.agg (Chn.cells h),AV.own 0 6 0 0 6,AV.isl 80 (h.2+1) fun (i j:Nat)=>atL (Spend.cells (chnS h i)) j,AV.bool !validB b,AV.bool !validB b,Zi (↑(x.1):Int)] y0) (fun (x:{ x:Nat // x≤Chn.n h+1∧(fun (x:Nat)=>∀ (j:Nat),j<x→stepC b R n (chnS h) j=true) x })=>Chn.n h+1 - x.1) (⟨0,⟨Nat.zero_le (Chn.n h+1),fun (j:Nat) (hj:j<0)=>absurd hj (Nat.not_lt_zero j)⟩⟩) ([1,2,3,7,13,14,8]) ([0]) ([AV.isl 11 n fun (i j:Nat)=>Zi (R i j),AV.agg (Chn.cells h),AV.own 0 6 0 0 6,AV.isl 80 (h.2+1) fun (i j:Nat)=>atL (Spend.cells (chnS h i)) j,AV.bool !validB b,AV.bool !validB b,Zi 0]) (y0) (fun x4=>(.br (decide ((↑x4.1:Int)<(↑(h.2+1):Int))) (.req ((0:Int)≤(↑x4.1:Int)∧(↑x4.1:Int)<(↑(h.2+1):Int)) (.sc (true) 40 ([AV.isl 11 n fun (i j:Nat)=>Zi (R i j),AV.agg (Zi (chnS h (Int.toNat (↑(x4.1):Int))).1::Zi (chnS h (Int.toNat (↑(x4.1):Int))).2::Zi (chnS h (Int.toNat (↑(x4.1):Int))).3::Zi (chnS h (Int.toNat (↑(x4.1):Int))).4::Zi (chnS h (Int.toNat (↑(x4.1):Int))).5::(u8c (chnS h (Int.toNat (↑(x4.1):Int))).6++[Zi (chnS h (Int.toNat (↑(x4.1):Int))).7,Zi (chnS h (Int.toNat (↑(x4.1):Int))).8,Zi (chnS h (Int.toNat (↑(x4.1):Int))).9,Zi (chnS h (Int.toNat (↑(x4.1):Int))).10]))]) (AV.tup [Rcd.av (rcX R n (chnS h (Int.toNat (↑(x4.1):Int)))),AV.bool (decide (fnS R n (chnS h (Int.toNat (↑(x4.1):Int)))≥0))]) (.req (((!decide (fnS R n (chnS h (Int.toNat (↑x4.1:Int)))≥0))==false)=true→(0:Int)≤(↑x4.1:Int)∧(↑x4.1:Int)<(↑(h.2+1):Int)) (.sc ((!decide (fnS R n (chnS h (Int.toNat (↑x4.1:Int)))≥0))==false) 41 ([AV.agg (Bas.cells b),AV.agg (Rcd.cells (rcX R n (chnS h (Int.toNat (↑(x4.1):Int))))),AV.agg (Spend.cells (chnS h (Int.toNat (↑(x4.1):Int))))]) (AV.bool (vfy b (rcX R n (chnS h (Int.toNat (↑(x4.1):Int)))) (chnS h (Int.toNat (↑(x4.1):Int))))) (.br (!decide (fnS R n (chnS h (Int.toNat (↑x4.1:Int)))≥0) || !vfy b (rcX R n (chnS h (Int.toNat (↑x4.1:Int)))) (chnS h (Int.toNat (↑x4.1:Int)))) (.out (AV.bool false) [] y1 []) (.br ((↑x4.1:Int)==0&&decide ((rcX R n (chnS h (Int.toNat (↑(x4.1):Int)))).4≤0)||decide ((↑x4.1:Int)>0)&&((rcX R n (chnS h (Int.toNat (↑(x4.1):Int)))).4 != 0||(rcX R n (chnS h (Int.toNat (↑(x4.1):Int)))).5 != 0)) (.out (AV.bool false) [] y1 []) (.req ((decide ((↑x4.1:Int)>0)==true)=true→(0:Int)≤(↑x4.1:Int)∧(↑x4.1:Int)<(↑(h.2+1):Int)) (.sc (decide ((↑x4.1:Int)>0)==true) 42 ([AV.isl 80 (h.2+1) fun (i j:Nat)=>atL (Spend.cells (chnS h i)) j,Zi (IntKind.wrap IntKind.i64 ((↑x4.1:Int) - 1)),AV.agg (Zi (chnS h (Int.toNat (↑(x4.1):Int))).1::Zi (chnS h (Int.toNat (↑(x4.1):Int))).2::Zi (chnS h (Int.toNat (↑(x4.1):Int))).3::Zi (chnS h (Int.toNat (↑(x4.1):Int))).4::Zi (chnS h (Int.toNat (↑(x4.1):Int))).5::(u8c (chnS h (Int.toNat (↑(x4.1):Int))).6++[Zi (chnS h (Int.toNat (↑(x4.1):Int))).7,Zi (chnS h (Int.toNat (↑(x4.1):Int))).8,Zi (chnS h (Int.toNat (↑(x4.1):Int))).9,Zi (chnS h (Int.toNat (↑(x4.1):Int))).10]))]) (AV.bool (passB (chnS h) (Int.toNat (IntKind.wrap IntKind.i64 ((↑x4.1:Int) - 1))) (Spend.coin (chnS h (Int.toNat (↑(x4.1):Int)))))) (.req ((decide ((↑x4.1:Int)>0)==true&&(!passB (chnS h) (Int.toNat (IntKind.wrap IntKind.i64 ((↑x4.1:Int) - 1))) (Spend.coin (chnS h (Int.toNat (↑x4.1:Int)))))==false)=true→(0:Int)≤(↑x4.1:Int)∧(↑x4.1:Int)<(↑(h.2+1):Int)) (.req ((decide ((↑x4.1:Int)>0)==true&&(!passB (chnS h) (Int.toNat (IntKind.wrap IntKind.i64 ((↑x4.1:Int) - 1))) (Spend.coin (chnS h (Int.toNat (↑x4.1:Int)))))==false)=true→(0:Int)≤IntKind.wrap IntKind.i64 ((↑x4.1:Int) - 1)∧IntKind.wrap IntKind.i64 ((↑x4.1:Int) - 1)<(↑(h.2+1):Int)) (.br (decide ((↑x4.1:Int)>0)&&(!passB (chnS h) (Int.toNat (IntKind.wrap IntKind.i64 ((↑x4.1:Int) - 1))) (Spend.coin (chnS h (Int.toNat (↑x4.1:Int))))||decide ((chnS h (Int.toNat (↑(x4.1):Int))).14<(chnS h (Int.toNat (IntKind.wrap IntKind.i64 ((↑(x4.1):Int) - 1)))).14))) (.out (AV.bool false) [] y1 []) (.again (Again 0 (fun (x:{ x:Nat // x≤Chn.n h+1∧(fun (x:Nat)=>∀ (j:Nat),j<x→stepC b R n (chnS h) j=true) x })=>mkSt [1,2,3,7,13,14,8] [AV.isl 11 n fun (i j:Nat)=>Zi (R i j),AV.agg (Chn.cells h),AV.own 0 6 0 0 6,AV.isl 80 (h.2+1) fun (i j:Nat)=>atL (Spend.cells (chnS h i)) j,AV.bool !validB b,AV.bool !validB b,Zi (↑(x.1):Int)] y0) (fun (x:{ x:Nat // x≤Chn.n h+1∧(fun (x:Nat)=>∀ (j:Nat),j<x→stepC b R n (chnS h) j=true) x })=>Chn.n h+1 - x.1) x4) ([1,2,3,7,13,14,8]) ([0]) ([AV.isl 11 n fun (i j:Nat)=>Zi (R i j),AV.agg (Chn.cells h),AV.own 0 6 0 0 6,AV.isl 80 (h.2+1) fun (i j:Nat)=>atL (Spend.cells (chnS h i)) j,AV.bool !validB b,AV.bool !validB b,Zi (IntKind.wrap IntKind.i64 ((↑x4.1:Int)+1))]) (y0))))))))))))) (.out (AV.bool true) [] y1 []))))))))
  (by kernel_rfl) ?_
 refine k_sc (c0) ?_
 refine k_br (fun h1 => ?_) (fun h1 => ?_)
 ·have g1:=(cnd_or_t (cnd_not_t cnd_id_f) cnd_dec_t) h1
  exact k_out (Ent.of_eq (congrArg _ (chv_1 g1).symm))
 ·have g1:=(cnd_or_f (cnd_not_f cnd_id_t) cnd_dec_f) h1
  refine k_dc (c1) ?_
  refine k_loop (fun _ hs=>hs.le (⟨.refl _,.refl _,.refl _,.refl _,.refl _,.refl _,.refl _,trivial⟩) (⟨.refl _,trivial⟩)) (fun x4 => ?_)
  try (have q4:=x4.2;dsimp only at q4)
  refine k_br (fun h5 => ?_) (fun h5 => ?_)
  ·have g5:=cnd_dec_t h5
   refine k_req (by omega) ?_
   refine k_sc (c2 (Int.toNat (↑(x4.1):Int))) ?_
   refine k_req (fun hr=>by have hr:=(cnd_eqf_t (cnd_not_f cnd_dec_t)) hr;omega) ?_
   refine k_scg (fun h9=>c3 (Int.toNat (↑(x4.1):Int)) (by omega)) ?_
   refine k_br (fun h10 => ?_) (fun h10 => ?_)
   ·have g10:=(cnd_or_t (cnd_not_t cnd_dec_f) (cnd_not_t cnd_id_f)) h10
    try simp only [Int.toNat_natCast] at g10
    exact k_out (Ent.of_eq (congrArg _ (chv_2 (i:=x4.1) (by omega) (stepC_1 g10)).symm))
   ·have g10:=(cnd_or_f (cnd_not_f cnd_dec_t) (cnd_not_f cnd_id_t)) h10
    try simp only [Int.toNat_natCast] at g10
    refine k_br (fun h12 => ?_) (fun h12 => ?_)
    ·have g12:=(cnd_or_t (cnd_and_t cnd_beq_t cnd_dec_t) (cnd_and_t cnd_dec_t (cnd_or_t cnd_bne_t cnd_bne_t))) h12
     try simp only [Int.toNat_natCast] at g12
     exact k_out (Ent.of_eq (congrArg _ (chv_2 (i:=x4.1) (by omega) (stepC_2 (rule_f g12))).symm))
    ·have g12:=(cnd_or_f (cnd_and_f cnd_beq_f cnd_dec_f) (cnd_and_f cnd_dec_f (cnd_or_f cnd_bne_f cnd_bne_f))) h12
     try simp only [Int.toNat_natCast] at g12
     refine k_req (fun hr=>by have hr:=(cnd_eqt_t cnd_dec_t) hr;omega) ?_
     refine k_scg (fun h15=>c4 (IntKind.wrap IntKind.i64 ((↑x4.1:Int) - (1:Int))) (Int.toNat (↑(x4.1):Int)) ((by have h:=of_decide_eq_true (eq_of_beq h15);simp only [Int.toNat_natCast];first|omega|(rw [wI (by omega) (by omega)];omega))) (by omega)) ?_
     refine k_req ((fun hr=>by have hr:=(cnd_and_t (cnd_eqt_t cnd_dec_t) (cnd_eqf_t (cnd_not_f cnd_id_t))) hr;have h0:=hr.1;first|omega|(rw [wI (by omega) (by omega)];omega))) ?_
     refine k_req ((fun hr=>by have hr:=(cnd_and_t (cnd_eqt_t cnd_dec_t) (cnd_eqf_t (cnd_not_f cnd_id_t))) hr;have h0:=hr.1;first|omega|(rw [wI (by omega) (by omega)];omega))) ?_
     refine k_br (fun h18 => ?_) (fun h18 => ?_)
     ·have g18:=(cnd_and_t cnd_dec_t (cnd_or_t (cnd_not_t cnd_id_f) cnd_dec_t)) h18
      try simp only [Int.toNat_natCast] at g18
      exact k_out (Ent.of_eq (congrArg _ (chv_2 (i:=x4.1) (by omega) (stepC_3 (link_f g18.1 (by have e:=wm1 (x:=x4.1) (by omega) (by omega);simp only [e] at g18;exact g18.2)))).symm))
     ·have g18:=(cnd_and_f cnd_dec_f (cnd_or_f (cnd_not_f cnd_id_t) cnd_dec_f)) h18
      try simp only [Int.toNat_natCast] at g18
      exact k_again (⟨x4.1+1,by omega,fun j hj=>by rcases Nat.lt_succ_iff_lt_or_eq.1 hj with hj|rfl;(· exact x4.2.2 j hj);(· exact stepC_t g10 (rule_t g12.1 g12.2) (link_t (by by_cases hx:0<x4.1;(· have e:=wm1 (x:=x4.1) hx (by omega);simp only [e] at g18;exact g18);(· exact .inl (by omega)))))⟩) (fun _ hs=>hs.le (⟨.refl _,.refl _,.refl _,.refl _,.refl _,.refl _,inc_ent (by omega),trivial⟩) (⟨.refl _,trivial⟩)) (by dsimp only;omega)
  ·have g5:=cnd_dec_f h5
   exact k_out (Ent.of_eq (congrArg _ (chv_3 g1.1 (by omega) (fun i hi=>x4.2.2 i (by omega))).symm))
end Go.Proofs.YtolcfdcoidpieaaGreatDoor
