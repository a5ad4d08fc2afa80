/- Part of the proof: Inv, FE1, FE2, Nod, Exp, FE3, FE4, FC1, FE5, Exp2, FE8, Rec, FV5, FV6, Crt, FV7, FV8, Cval, FV9, FV10, FV11, Prd, FV12, Vfy, Sec, EnSet, EnSet2, FN1, FN2, FV13, FN3, Mul, FN4, Pth, FN5, Mak, FN6, FN7. -/
import Derived.Test.YtdaaddkipdmajaaGreatDoorM3
import Derived.Test.YtdaaddkipdmajaaGreatDoorM5
import Derived.Test.YtdaaddkipdmajaaGreatDoorProg
import Derived.Test.YtdaaddkipdmajaaGreatDoorM2
import Derived.Test.YtdaaddkipdmajaaGreatDoorM4
namespace Go.Sp
open Go Go.Am
theorem inv_uniq {a m x y:Int} (hx:0≤x∧x<m) (hy:0≤y∧y<m) (h1:m ∣ a*x - 1) (h2:m ∣ a*y - 1):x=y:=by
 have h:m ∣ x - y:=by
  obtain ⟨k,hk⟩:=h1
  obtain ⟨j,hj⟩:=h2
  refine ⟨x*j*(-1)+y*k,?_⟩
  have e1:a*x*y=(1+m*k)*y:=by rw [← hk];grind
  have e2:a*y*x=(1+m*j)*x:=by rw [← hj];grind
  grind
 have e:=Int.emod_eq_emod_iff_emod_sub_eq_zero.2 (Int.emod_eq_zero_of_dvd h)
 rwa [Int.emod_eq_of_lt hx.1 hx.2,Int.emod_eq_of_lt hy.1 hy.2] at e
open Classical in
noncomputable def invF (a m:Int):Int:=if h:∃ x,(0≤x∧x<m)∧m ∣ a*x - 1 then Classical.choose h else 0
theorem invF_eq {a m x:Int} (hx:0≤x∧x<m) (h:m ∣ a*x - 1):invF a m=x:=by
 have hh:∃ x,(0≤x∧x<m)∧m ∣ a*x - 1:=⟨x,hx,h⟩
 unfold invF
 rw [dif_pos hh]
 exact inv_uniq (Classical.choose_spec hh).1 hx (Classical.choose_spec hh).2 h
structure EgI (a0 m d a x n:Int):Prop where
 an:0≤a
 ad:a<d
 d1:d≤m
 sg:∃ u v:Int,0≤u∧u≤m∧0≤v∧v≤m∧(x = -u∧n=v∨x=u∧n = -v)∧v*d+u*a=m
 c1:m ∣ a0*x - d
 c2:m ∣ a0*n - a
 g:Int.gcd d a=Int.gcd a0 m
theorem EgI.start {a m:Int} (h0:0≤a) (h1:a<m):EgI a m m a 0 1 where
 an:=h0
 ad:=h1
 d1:=Int.le_refl _
 sg:=⟨0,1,by omega,by omega,by omega,by omega,Or.inl ⟨rfl,rfl⟩,by omega⟩
 c1:=⟨-1,by omega⟩
 c2:=⟨0,by omega⟩
 g:=Int.gcd_comm _ _
theorem EgI.nxt {a0 m d a x n:Int} (h:EgI a0 m d a x n) (ha:a≠0):EgI a0 m a (d%a) n (x - d / a*n)∧0≤d / a∧d / a*a≤d ∧ -m≤d / a*n∧d / a*n≤m ∧ -m≤n∧n≤m∧d - d / a*a=d%a:=by
 have p:0<a:=by have:=h.an;omega
 have q0:0≤d / a:=Int.ediv_nonneg (by have:=h.ad;omega) (by omega)
 have e:=Int.mul_ediv_add_emod d a
 have r0:=Int.emod_nonneg d ha
 have r1:=Int.emod_lt_of_pos d p
 have hd:=h.ad
 have hm:=h.d1
 obtain ⟨u,v,u0,u1,v0,v1,hs,hv⟩:=h.sg
 generalize d / a=q at *
 generalize hr:d%a=r at *
 have qv:0≤q*v:=Int.mul_nonneg q0 v0
 have hv':(u+q*v)*a+v*r=m:=by rw [← hv,← e];grind
 have vr:0≤v*r:=Int.mul_nonneg v0 r0
 have t0:0≤u+q*v:=by omega
 have t1:u+q*v≤m:=by
  have:(u+q*v)*1≤(u+q*v)*a:=Int.mul_le_mul_of_nonneg_left (by omega) t0
  omega
 refine ⟨⟨r0,r1,by omega,⟨v,u+q*v,v0,v1,t0,t1,?_,hv'⟩,h.c2,?_,?_⟩,q0,by rw [Int.mul_comm];omega,?_,?_,?_,?_,by rw [Int.mul_comm];omega⟩
 ·rcases hs with ⟨rfl,rfl⟩|⟨rfl,rfl⟩
  ·exact Or.inr ⟨rfl,by omega⟩
  ·refine Or.inl ⟨rfl,?_⟩
   rw [Int.mul_neg];omega
 ·obtain ⟨k,hk⟩:=h.c1
  obtain ⟨j,hj⟩:=h.c2
  refine ⟨k - q*j,?_⟩
  have:a0*(x - q*n) - r=(a0*x - d) - q*(a0*n - a)+(d - a*q - r):=by grind
  rw [this,hk,hj,show d - a*q - r=0 by omega]
  grind
 ·rw [← h.g,Int.gcd_comm d a,show r=d - a*q by omega]
  exact Int.gcd_sub_mul_left_right _ _ _
 ·rcases hs with ⟨_,rfl⟩|⟨_,rfl⟩
  ·omega
  ·rw [Int.mul_neg];omega
 ·rcases hs with ⟨_,rfl⟩|⟨_,rfl⟩
  ·omega
  ·rw [Int.mul_neg];omega
 ·omega
 ·omega
def eg (d a x n:Int):Int×Int:=if 0<a then eg a (d%a) n (x - d / a*n) else (d,x)
termination_by a.toNat
decreasing_by have:=Int.emod_lt_of_pos d (by assumption:0<a);have:=Int.emod_nonneg d (by omega:a≠0);omega
theorem eg_step {d a x n:Int} (h:0<a):eg d a x n=eg a (d%a) n (x - d / a*n):=by
 rw [eg,if_pos h]
theorem eg_end {d a x n:Int} (h:¬0<a):eg d a x n=(d,x):=by
 rw [eg,if_neg h]
def EgW (a m:Int) (s:Int×Int×Int×Int):Prop:=EgI a m s.1 s.2.1 s.2.2.1 s.2.2.2∧eg s.1 s.2.1 s.2.2.1 s.2.2.2=eg m a 0 1
theorem EgW.start {a m:Int} (h0:0≤a) (h1:a<m):EgW a m (m,a,0,1):=⟨.start h0 h1,rfl⟩
theorem EgW.step {a0 m d a x n:Int} (h:EgW a0 m (d,a,x,n)) (ha:a≠0):EgW a0 m (a,d%a,n,x - d / a*n) :=
 ⟨(h.1.nxt ha).1,(eg_step (by have:=h.1.an;dsimp only at this;omega)).symm.trans h.2⟩
def egX (a m:Int):Int:=let x:=(eg m a 0 1).2;(if x<0 then x+m else x)%m
theorem EgW.fin {a0 m d a x n:Int} (h:EgW a0 m (d,a,x,n)) (ha:a=0):d=Int.gcd a0 m∧eg m a0 0 1=(d,x) ∧ -m≤x∧x≤m:=by
 subst ha
 obtain ⟨h1,h2⟩:=h
 dsimp only at h1 h2
 refine ⟨?_,by rw [← h2];exact eg_end (by omega),?_⟩
 ·rw [← h1.g,Int.gcd_zero_right]
  have:=h1.ad
  omega
 ·obtain ⟨u,v,u0,u1,v0,v1,hs,hv⟩:=h1.sg
  omega
theorem EgW.all {a0 m:Int}:∀ (k:Nat) (s:Int×Int×Int×Int),s.2.1.toNat≤k→EgW a0 m s→∃ d x n,EgW a0 m (d,0,x,n)
 | k,(d,a,x,n),hk,h=>by
  by_cases ha:a=0
  ·subst ha;exact ⟨d,x,n,h⟩
  ·have h0:=h.1.an
   dsimp only at h0 hk
   cases k with
   | zero=>omega
   | succ k =>
    have:=Int.emod_lt_of_pos d (show 0<a by omega)
    have:=Int.emod_nonneg d ha
    exact EgW.all k _ (by dsimp only;omega) (h.step ha)
structure RgI (a0 m u v x y:Int):Prop where
 u0:0≤u
 u1:u≤m
 v0:0≤v
 v1:v≤m
 x0:0≤x
 x1:x<m
 y0:0≤y
 y1:y<m
 c1:m ∣ a0*x - u
 c2:m ∣ a0*y - v
 g:Int.gcd u v=Int.gcd a0 m
theorem RgI.start {a m:Int} (h0:0≤a) (h1:a<m):RgI a m a m (1%m) 0 where
 u0:=h0
 u1:=by omega
 v0:=by omega
 v1:=by omega
 x0:=Int.emod_nonneg _ (by omega)
 x1:=Int.emod_lt_of_pos _ (by omega)
 y0:=by omega
 y1:=by omega
 c1:=by
  have e:=Int.mul_ediv_add_emod 1 m
  refine ⟨-(a*(1 / m)),?_⟩
  generalize 1 / m=q at *
  generalize 1%m=r at *
  have:a*(m*q+r)=a:=by rw [e,Int.mul_one]
  grind
 c2:=⟨-1,by omega⟩
 g:=rfl
theorem RgI.nxt {a0 m u v x y:Int} (h:RgI a0 m u v x y) (hv:v≠0):RgI a0 m v (u%v) y ((x - u / v%m*y%m)%m)∧0≤u / v∧u / v≤m∧u / v*v≤u∧0≤u / v*v∧u - u / v*v=u%v:=by
 have p:0<v:=by have:=h.v0;omega
 have hm:0<m:=by have:=h.v1;omega
 have q0:0≤u / v:=Int.ediv_nonneg h.u0 (by omega)
 have e:=Int.mul_ediv_add_emod u v
 have r0:=Int.emod_nonneg u hv
 have r1:=Int.emod_lt_of_pos u p
 have hu:=h.u0
 have hu1:=h.u1
 have hv1:=h.v1
 have qv:u / v*v≤u:=by rw [Int.mul_comm];omega
 have q1:u / v≤m:=by
  have:u / v*1≤u / v*v:=Int.mul_le_mul_of_nonneg_left (by omega) q0
  omega
 refine ⟨⟨by omega,by omega,r0,by omega,h.y0,h.y1,Int.emod_nonneg _ (by omega),Int.emod_lt_of_pos _ hm,h.c2,?_,?_⟩,q0,q1,qv,Int.mul_nonneg q0 (by omega),by rw [Int.mul_comm];omega⟩
 ·obtain ⟨k,hk⟩:=h.c1
  obtain ⟨j,hj⟩:=h.c2
  have e1:=Int.mul_ediv_add_emod (u / v) m
  have e2:=Int.mul_ediv_add_emod (u / v%m*y) m
  have e3:=Int.mul_ediv_add_emod (x - u / v%m*y%m) m
  generalize (x - u / v%m*y%m)%m=z at *
  generalize (x - u / v%m*y%m) / m=z' at *
  generalize u / v%m*y%m=w at *
  generalize u / v%m*y / m=w' at *
  generalize u / v%m=qm at *
  generalize u / v / m=qm' at *
  generalize u / v=q at *
  generalize u%v=r at *
  refine ⟨k - q*j+a0*(qm'*y+w' - z'),?_⟩
  have f1:z=x - w - m*z':=by omega
  have f2:w=qm*y - m*w':=by omega
  have f3:qm=q - m*qm':=by omega
  have f4:r=u - v*q:=by omega
  subst f1;subst f2;subst f3;subst f4
  have g1:a0*x=u+m*k:=by omega
  have g2:a0*y=v+m*j:=by omega
  grind
 ·rw [← h.g,Int.gcd_comm u v,show u%v=u - v*(u / v) by omega]
  exact Int.gcd_sub_mul_left_right _ _ _
theorem RgI.fin {a0 m u x y:Int} (h:RgI a0 m u 0 x y) (hg:Int.gcd a0 m=1):x=invF a0 m:=by
 have hu:u=1:=by
  have:=h.g
  have h0:=h.u0
  rw [Int.gcd_zero_right,hg] at this
  omega
 exact (invF_eq ⟨h.x0,h.x1⟩ (hu▸h.c1)).symm
theorem EgI.w {a0 m d a x n:Int} (h:EgI a0 m d a x n) (ha:a≠0) (hm:m<2305843009213693952) :
  IntKind.wrap .i64 (d - IntKind.wrap .i64 (IntKind.wrap .i64 (Int.tdiv d a)*a))=d%a∧IntKind.wrap .i64 (x - IntKind.wrap .i64 (IntKind.wrap .i64 (Int.tdiv d a)*n))=x - d / a*n∧d%a<a∧0≤d%a:=by
 obtain ⟨h1,q0,q1,n0,n1,n2,n3,e⟩:=h.nxt ha
 have hd:=h.ad;have hm1:=h.d1;have h0:=h.an
 have r0:=h1.an;have r1:=h1.ad
 have qd:d / a≤d:=by
  have:d / a*1≤d / a*a:=Int.mul_le_mul_of_nonneg_left (by omega) q0
  omega
 have e1:IntKind.wrap .i64 (Int.tdiv d a)=d / a:=by
  rw [Int.tdiv_eq_ediv_of_nonneg (by omega),wI (by omega) (by omega)]
 have e2:IntKind.wrap .i64 (d / a*a)=d / a*a:=wI (by have:=Int.mul_nonneg q0 h0;omega) (by omega)
 obtain ⟨u,v,u0,u1,v0,v1,hs,hv⟩:=h1.sg
 rw [e1,e2,wI (n:=d - d / a*a) (by omega) (by omega),wI (n:=d / a*n) (by omega) (by omega),wI (n:=x - d / a*n) (by omega) (by omega)]
 exact ⟨e,rfl,r1,r0⟩
theorem EgW.out {a0 m:Int} {s:Int×Int×Int×Int} (h:EgW a0 m s) (ha:s.2.1=0) (hm:m<2305843009213693952) :
  s.1=Int.gcd a0 m∧(s.2.2.1<0→Int.tmod (IntKind.wrap .i64 (s.2.2.1+m)) m=egX a0 m)∧(¬s.2.2.1<0→Int.tmod s.2.2.1 m=egX a0 m)∧0<m:=by
 obtain ⟨d,a,x,n⟩:=s
 obtain ⟨h1,h2,h3,h4⟩:=EgW.fin h ha
 have h5:=h.1.d1;have h6:=h.1.ad;have h7:=h.1.an
 dsimp only at *
 refine ⟨h1,fun hx => ?_,fun hx => ?_,by omega⟩
 ·rw [wI (by omega) (by omega),tmod_nn (by omega)]
  unfold egX
  rw [h2]
  dsimp only
  rw [if_pos hx]
 ·rw [tmod_nn (by omega)]
  unfold egX
  rw [h2]
  dsimp only
  rw [if_neg hx]
theorem RgI.w {a0 m u v x y:Int} (h:RgI a0 m u v x y) (hv:v≠0) (hm:m<2305843009213693952) :
  IntKind.wrap .i64 (Int.tdiv u v)=u / v∧IntKind.wrap .i64 (u - IntKind.wrap .i64 (IntKind.wrap .i64 (Int.tdiv u v)*v))=u%v∧u%v<v∧0≤u%v∧0<m∧0≤u / v%m∧u / v%m<m∧IntKind.wrap .i64 (x - u / v%m*y%m)=x - u / v%m*y%m:=by
 obtain ⟨h1,q0,q1,n0,n1,e⟩:=h.nxt hv
 have b1:=h.u0;have b2:=h.u1;have b3:=h.v0;have b4:=h.v1;have b5:=h.x0;have b6:=h.x1
 have r0:=Int.emod_nonneg u hv
 have r1:=Int.emod_lt_of_pos u (show 0<v by omega)
 have m0:0<m:=by omega
 have e1:IntKind.wrap .i64 (Int.tdiv u v)=u / v:=by
  rw [Int.tdiv_eq_ediv_of_nonneg (by omega),wI (by omega) (by omega)]
 have c0:=Int.emod_nonneg (u / v%m*y) (show m≠0 by omega)
 have c1:=Int.emod_lt_of_pos (u / v%m*y) m0
 refine ⟨e1,?_,r1,r0,m0,Int.emod_nonneg _ (by omega),Int.emod_lt_of_pos _ m0,wI (by omega) (by omega)⟩
 rw [e1,wI (n:=u / v*v) (by omega) (by omega),wI (by omega) (by omega)]
 exact e
end Go.Sp

namespace Go.Proofs.YtdaaddkipdmajaaGreatDoor
open Go Go.Am Go.Sp
set_option maxRecDepth 100000


end Go.Proofs.YtdaaddkipdmajaaGreatDoor

namespace Go.Sp
open Go Go.Am
def chalE (b:Bas) (c:Coin) (l i:Int) (x:Cxt):Int:=bif validB b then (bif nodeB c.depth l i&&ctxB x.time x.number then 0 else 2) else 1
def chalK (b:Bas) (c:Coin) (l i:Int) (x:Cxt):Int:=bif validB b&&(nodeB c.depth l i&&ctxB x.time x.number) then chalN b.gr.q c l i x else 0
theorem validB_ok {b:Bas} (h:validB b=true):b.gr.Ok:=by
 unfold validB at h
 simp only [Bool.and_eq_true] at h
 exact validG_iff.1 h.1.1.1.1.1.1
theorem validB_q {b:Bas} (h:validB b=true):0<b.gr.q∧b.gr.q<2305843009213693952:=by
 have h:=validB_ok h
 have:=h.qp;have:=h.q3;have:=h.p1
 omega
theorem chal_1 {b:Bas} {c:Coin} {l i:Int} {x:Cxt} (h:validB b=false):chalE b c l i x=1∧chalK b c l i x=0:=by
 unfold chalE chalK;rw [h];exact ⟨rfl,rfl⟩
theorem chal_2 {b:Bas} {c:Coin} {l i:Int} {x:Cxt} (h:validB b=true) (h':nodeB c.depth l i=false∨ctxB x.time x.number=false):chalE b c l i x=2∧chalK b c l i x=0:=by
 have e:(nodeB c.depth l i&&ctxB x.time x.number)=false:=by rcases h' with e|e<;>simp [e]
 unfold chalE chalK;rw [h,e];exact ⟨rfl,rfl⟩
theorem chal_3 {b:Bas} {c:Coin} {l i:Int} {x:Cxt} (h:validB b=true) (h':nodeB c.depth l i=true∧ctxB x.time x.number=true):chalE b c l i x=0∧chalK b c l i x=chalN b.gr.q c l i x:=by
 have e:(nodeB c.depth l i&&ctxB x.time x.number)=true:=by simp [h']
 unfold chalE chalK;rw [h,e];exact ⟨rfl,rfl⟩
def Spend.coin (s:Spend):Coin:=⟨s.bank,s.epoch,s.denom,s.depth,s.a,s.root,s.z,s.sa,s.sb,s.r⟩
def Spend.cxt (s:Spend):Cxt:=⟨s.payee,s.time,s.number⟩
structure Spend.By (s:Spend):Prop where
 root:byB s.root 32
 payee:byB s.payee 32
def chS (b:Bas) (s:Spend):Int:=chalN b.gr.q s.coin s.level s.index s.cxt
end Go.Sp

namespace Go.Proofs.YtdaaddkipdmajaaGreatDoor
open Go Go.Am Go.Sp
set_option maxRecDepth 100000

theorem chall_c (b : Bas) (c : Coin) (l i : Int) (x : Cxt) (hw : b.gr.W) (hr : byB c.root 32) (hp : byB x.payee 32) : Pure Tryz.prog gl0 54 [b.av, c.av, .agg [.int .i64 l, .int .i64 i], x.av] (.tup [.int .i64 (chalK b c l i x), .int .i64 (chalE b c l i x)]) := by
  have hc := fun h h' => chal_c b c l i x hr hp h h'
  have hx := context_c x
  have hv := bvalid_c b hw
  refine pure_sk (own := ow0) Tryz.func54 (by kernel_rfl) mixed (by kernel_rfl)
    (let y0 : AV := (AV.tup [Zi (chalK b c l i x), Zi (chalE b c l i x)]); (.sc (true) 52 ([AV.agg (Bas.cells b)]) (AV.bool (validB b)) (.br (!validB b) (.out (AV.tup [Zi 0, Zi 1]) [] y0 []) (.sc (true) 68 ([Zi c.4, AV.agg [Zi l, Zi i]]) (AV.bool (nodeB c.4 l i)) (.sc ((!nodeB c.4 l i) == false) 69 ([AV.agg (u8c x.1 ++ [Zi x.2, Zi x.3])]) (AV.bool (ctxB (Cxt.time x) (Cxt.number x))) (.br (!nodeB c.4 l i || !ctxB x.2 x.3) (.out (AV.tup [Zi 0, Zi 2]) [] y0 []) (.sc (true) 70 ([AV.agg (Bas.cells b), AV.agg (Coin.cells c), AV.agg [Zi l, Zi i], AV.agg (u8c x.1 ++ [Zi x.2, Zi x.3])]) (Zi (chalN (Grp.q (Bas.gr b)) c l i x)) (.out (AV.tup [Zi (chalN (Bas.gr b).2 c l i x), Zi 0]) [] y0 []))))))))
    (by kernel_rfl) ?_
  refine k_sc (hv) ?_
  refine k_br (fun h1 => ?_) (fun h1 => ?_)
  · have g1 := (cnd_not_t cnd_id_f) h1
    exact k_out (Ent.of_eq (by rw [(chal_1 g1).1, (chal_1 g1).2]))
  · have g1 := (cnd_not_f cnd_id_t) h1
    refine k_sc (node_c (c.4) (l) (i)) ?_
    refine k_scg (fun h4 => hx) ?_
    refine k_br (fun h5 => ?_) (fun h5 => ?_)
    · have g5 := (cnd_or_t (cnd_not_t cnd_id_f) (cnd_not_t cnd_id_f)) h5
      exact k_out (Ent.of_eq (by rw [(chal_2 g1 g5).1, (chal_2 g1 g5).2]))
    · have g5 := (cnd_or_f (cnd_not_f cnd_id_t) (cnd_not_f cnd_id_t)) h5
      refine k_sc (hc ((validB_q g1).1) ((validB_q g1).2)) ?_
      exact k_out (Ent.of_eq (by rw [(chal_3 g1 g5).1, (chal_3 g1 g5).2]))




end Go.Proofs.YtdaaddkipdmajaaGreatDoor

namespace Go.Sp
open Go Go.Am
theorem elem_iff {G:Grp} (h:G.Ok) {x:Int}:elemB G x=true↔1≤x∧x<G.p∧x^G.q.toNat%G.p=1:=by
 rw [← mem_eq h]
 simp [and_assoc]
theorem pow_ne {a p:Int} {q:Nat} (hq:0<q) (h:a^q%p=1):a%p≠0:=fun e=>by
 have h2:(a%p)^q%p=1:=by rw [pow_mod];exact h
 rw [e,Int.zero_pow (by omega)] at h2
 simp at h2
theorem elem_of {G:Grp} (h:G.Ok) {x:Int} (hx:x^G.q.toNat%G.p=1):elemB G (x%G.p)=true:=by
 have h3:=h.p3;have h4:=h.q3
 have h1:=Int.emod_nonneg x (show G.p≠0 by omega)
 have h2:=Int.emod_lt_of_pos x (show 0<G.p by omega)
 have h5:=pow_ne (by omega) hx
 refine (elem_iff h).2 ⟨by omega,h2,?_⟩
 rw [pow_mod]
 exact hx
theorem elem_pow {G:Grp} (h:G.Ok) {a:Int} (ha:elemB G a=true) (k:Nat):elemB G (a^k%G.p)=true:=by
 refine elem_of h ?_
 have h3:=h.p3
 rw [← Int.pow_mul,Nat.mul_comm,Int.pow_mul,← pow_mod,((elem_iff h).1 ha).2.2,Int.one_pow,Int.emod_eq_of_lt (by decide) (by omega)]
theorem elem_mul {G:Grp} (h:G.Ok) {a b:Int} (ha:elemB G a=true) (hb:elemB G b=true):elemB G (a*b%G.p)=true:=by
 refine elem_of h ?_
 have h3:=h.p3
 rw [Int.mul_pow,Int.mul_emod,((elem_iff h).1 ha).2.2,((elem_iff h).1 hb).2.2]
 exact Int.emod_eq_of_lt (by decide) (by omega)
theorem elem_bnd {G:Grp} (h:G.Ok) {a:Int} (ha:elemB G a=true):1≤a∧a<G.p:=⟨((elem_iff h).1 ha).1,((elem_iff h).1 ha).2.1⟩
theorem red_q {q x:Int} (h:0≤x∧x<q):x%q=x:=Int.emod_eq_of_lt h.1 h.2
end Go.Sp

namespace Go.Proofs.YtdaaddkipdmajaaGreatDoor
open Go Go.Am Go.Sp
set_option maxRecDepth 100000

theorem gcheck_c (G : Grp) (l : List Int) (h : G.Ok) (hw : G.W) (hl : ∀ i, i < l.length → elemB G (l.getD i 0) = true) (hn : l.length < 1000) : Pure Tryz.prog gl0 126 [G.av, il .i64 l] (.int .i64 0) := by
  have c1 := gvalid_c G hw
  rw [validG_iff.2 h] at c1
  have c2 := fun x => element_c G x hw
  refine pure_sk (own := ow0) Tryz.func126 (by kernel_rfl) mixed (by kernel_rfl)
    (let y0 : List (Option Ob) := [some ⟨3, 1, true, Rep.lst [[Zi (Grp.p G), Zi (Grp.q G), Zi (Grp.g G)]]⟩]; (.sc (true) 129 ([AV.agg [Zi G.1, Zi G.2, Zi G.3]]) (AV.bool true) (.ff (.loop ({ x : Nat // x ≤ List.length l }) (fun (x : { x : Nat // x ≤ List.length l }) => mkSt [2, 10, 11, 12] [AV.own 0 3 0 0 3, AV.isl 1 (List.length l) fun (i x : Nat) => Zi (List.getD l i (0 : Int)), Zi (↑(List.length l) : Int), Zi (↑(x.1) : Int)] y0) (fun (x : { x : Nat // x ≤ List.length l }) => List.length l - x.1) (⟨0, Nat.zero_le (List.length l)⟩) ([2, 10, 11, 12]) ([0]) ([AV.own 0 3 0 0 3, AV.isl 1 (List.length l) fun (i x : Nat) => Zi (List.getD l i (0 : Int)), Zi (↑(List.length l) : Int), Zi 0]) (y0) (fun x2 => (.br (decide ((↑x2.1 : Int) < (↑(List.length l) : Int))) (.req ((0 : Int) ≤ (↑x2.1 : Int) ∧ (↑x2.1 : Int) < (↑(List.length l) : Int)) (.sc (true) 194 ([AV.agg [Zi G.1, Zi G.2, Zi G.3], Zi (List.getD l (Int.toNat (↑x2.1 : Int)) (0 : Int))]) (AV.bool (elemB G (List.getD l (Int.toNat (↑x2.1 : Int)) (0 : Int)))) (.br (!elemB G (List.getD l (Int.toNat (↑x2.1 : Int)) (0 : Int))) (.out (Zi 2) [] (Zi 0) []) (.again (Again 0 (fun (x : { x : Nat // x ≤ List.length l }) => mkSt [2, 10, 11, 12] [AV.own 0 3 0 0 3, AV.isl 1 (List.length l) fun (i x : Nat) => Zi (List.getD l i (0 : Int)), Zi (↑(List.length l) : Int), Zi (↑(x.1) : Int)] y0) (fun (x : { x : Nat // x ≤ List.length l }) => List.length l - x.1) x2) ([2, 10, 11, 12]) ([0]) ([AV.own 0 3 0 0 3, AV.isl 1 (List.length l) fun (i x : Nat) => Zi (List.getD l i (0 : Int)), Zi (↑(List.length l) : Int), Zi (IntKind.wrap IntKind.i64 ((↑x2.1 : Int) + 1))]) (y0))))) (.out (Zi 0) [] (Zi 0) [])))))))
    (by kernel_rfl) ?_
  refine k_sc (c1) ?_
  refine k_ff ?_
  refine k_loop (fun _ hs => hs.le (⟨.refl _, .refl _, .refl _, .refl _, trivial⟩) (⟨.refl _, trivial⟩)) (fun x2 => ?_)
  try (have q2 := x2.2; dsimp only at q2)
  refine k_br (fun h3 => ?_) (fun h3 => ?_)
  · have g3 := cnd_dec_t h3
    refine k_req (by omega) ?_
    refine k_sc (c2 (List.getD l (Int.toNat (↑x2.1 : Int)) (0 : Int))) ?_
    refine k_br (fun h6 => ?_) (fun h6 => ?_)
    · have g6 := (cnd_not_t cnd_id_f) h6
      try simp only [Int.toNat_natCast] at g6
      exact k_out ((by exfalso; rw [hl x2.1 (by omega)] at g6; cases g6))
    · have g6 := (cnd_not_f cnd_id_t) h6
      try simp only [Int.toNat_natCast] at g6
      exact k_again (⟨x2.1 + 1, by omega⟩) (fun _ hs => hs.le (⟨.refl _, .refl _, .refl _, inc_ent (by omega), trivial⟩) (⟨.refl _, trivial⟩)) (by dsimp only; omega)
  · have g3 := cnd_dec_f h3
    exact k_out (Ent.of_eq rfl)

theorem gcheck1 (G : Grp) (a : Int) (h : G.Ok) (hw : G.W) (ha : elemB G a = true) : Pure Tryz.prog gl0 126 [G.av, .isl 1 1 fun r k => atL (List.getD [[.int .i64 a]] r []) k] (.int .i64 0) :=
  (gcheck_c G [a] h hw (fun i hi => by obtain rfl : i = 0 := Nat.lt_one_iff.1 hi
                                       exact ha) (by simp)).via ⟨Ent.refl _, il_rows rfl rfl, trivial⟩

theorem gcheck2 (G : Grp) (a c : Int) (h : G.Ok) (hw : G.W) (ha : elemB G a = true) (hc : elemB G c = true) : Pure Tryz.prog gl0 126 [G.av, .isl 1 2 fun r k => atL (List.getD [[.int .i64 a], [.int .i64 c]] r []) k] (.int .i64 0) :=
  (gcheck_c G [a, c] h hw (fun i hi => match i, hi with
    | 0, _ => ha
    | 1, _ => hc) (by simp)).via ⟨Ent.refl _, il_rows rfl rfl, trivial⟩

theorem gmul_c (G : Grp) (a c : Int) (h : G.Ok) (hw : G.W) (ha : elemB G a = true) (hc : elemB G c = true) : Pure Tryz.prog gl0 49 [G.av, .int .i64 a, .int .i64 c] (.tup [.int .i64 (a * c % G.p), .int .i64 0]) := by
  have c1 := gcheck2 G a c h hw ha hc
  have x := elem_bnd h ha
  have y := elem_bnd h hc
  have k1 := h.p1
  have k2 := chk_ok (a := a) (b := c) (m := G.p) (by omega) (by omega) (by omega) (by omega) (by omega) (by omega)
  refine pure_sk (own := ow0) Tryz.func49 (by kernel_rfl) mixed (by kernel_rfl)
    (let y0 : AV := (AV.tup [Zi (okv (chkI a c G.1) (a * c % G.1)), Zi (chkI a c G.1)]); (.sc (true) 126 ([AV.agg [Zi G.1, Zi G.2, Zi G.3], AV.isl 1 2 fun (r k : Nat) => atL (List.getD [[Zi a], [Zi c]] (r + 0) []) k]) (Zi 0) (.ff (.sc (true) 113 ([Zi a, Zi c, Zi G.1]) y0 (.out y0 [] (AV.tup [Zi (a * c % Grp.p G), Zi 0]) [])))))
    (by kernel_rfl) ?_
  refine k_sc (c1) ?_
  refine k_ff ?_
  refine k_sc (wmul_c (a) (c) (G.1)) ?_
  exact k_out (Ent.of_eq (by rw [k2]; rfl))

theorem gpow_c (G : Grp) (a e : Int) (h : G.Ok) (hw : G.W) (ha : elemB G a = true) (he : 0 ≤ e ∧ e < G.q) : Pure Tryz.prog gl0 48 [G.av, .int .i64 a, .int .i64 e] (.tup [.int .i64 (a ^ e.toNat % G.p), .int .i64 0]) := by
  have c1 := gcheck1 G a h hw ha
  have x := elem_bnd h ha
  have k1 := h.p1; have k2 := h.qp; have k3 := h.q3
  have k4 : okv (chkI 0 0 G.q) (e % G.q) = e := by
    rw [chk_ok (by omega) (by omega) (by omega) (by omega) (by omega) (by omega)]
    exact red_q he
  have k5 := powE_0 (chk_ok (a := a) (b := a) (m := G.p) (by omega) (by omega) (by omega) (by omega) (by omega) (by omega)) (by omega : ¬ e < 0)
  refine pure_sk (own := ow0) Tryz.func48 (by kernel_rfl) mixed (by kernel_rfl)
    (let y0 : AV := (AV.tup [Zi (okv (powE a (okv (chkI (0 : Int) (0 : Int) G.2) (e % G.2)) G.1) (a ^ Int.toNat (okv (chkI (0 : Int) (0 : Int) G.2) (e % G.2)) % G.1)), Zi (powE a (okv (chkI (0 : Int) (0 : Int) G.2) (e % G.2)) G.1)]); (.sc (true) 126 ([AV.agg [Zi G.1, Zi G.2, Zi G.3], AV.isl 1 1 fun (r k : Nat) => atL (List.getD [[Zi a]] (r + 0) []) k]) (Zi 0) (.ff (.sc (true) 127 ([Zi e, Zi G.2]) (AV.tup [Zi (okv (chkI (0 : Int) (0 : Int) G.2) (e % G.2)), Zi (chkI (0 : Int) (0 : Int) G.2)]) (.sc (true) 128 ([Zi a, Zi (okv (chkI (0 : Int) (0 : Int) G.2) (e % G.2)), Zi G.1]) y0 (.out y0 [] (AV.tup [Zi (a ^ Int.toNat e % Grp.p G), Zi 0]) []))))))
    (by kernel_rfl) ?_
  refine k_sc (c1) ?_
  refine k_ff ?_
  refine k_sc (wreduce_c (e) (G.2)) ?_
  refine k_sc (wpow_c (a) (okv (chkI (0 : Int) (0 : Int) G.2) (e % G.2)) (G.1) (by rw [k4]; omega)) ?_
  exact k_out (Ent.of_eq (by rw [k4, k5]; rfl))

end Go.Proofs.YtdaaddkipdmajaaGreatDoor

namespace Go.Sp
open Go Go.Am
structure Rcd where
 bank:Int
 epoch:Int
 denom:Int
 value:Int
 depth:Int
 h:Int
 h1:Int
 h2:Int
 fr:Int
 til:Int
 fin:Int
def Rcd.key (r:Rcd):List AV:=[.int .i64 r.h,.int .i64 r.h1,.int .i64 r.h2]
def Rcd.cells (r:Rcd):List AV:=[.int .i64 r.bank,.int .i64 r.epoch,.int .i64 r.denom,.int .i64 r.value,.int .i64 r.depth]++(r.key++[.int .i64 r.fr,.int .i64 r.til,.int .i64 r.fin])
def Rcd.av (r:Rcd):AV:=.agg r.cells
def msgB (G:Grp) (x:Int):Bool:=x != 1&&elemB G x
def keyB (b:Bas) (h h1 h2:Int):Bool:=validB b&&msgB b.gr h&&msgB b.gr h1&&msgB b.gr h2
def oneB (v d:Int):Bool:=bif v==0 then d==0 else decide (v≥1)&&decide (v≤1099511627776)&&decide (d≥0)&&decide (d≤5)&&(Int.tmod v (IntKind.wrap .i64 (1*2^min d.toNat 64))==0)
def rngB (x l u:Int):Bool:=decide (x≥l)&&decide (x≤u)
def numR (bank epoch fr til fin:Int):Bool:=rngB bank 0 7&&rngB epoch 0 1000000&&decide (fr≥0)&&decide (fr<til)&&decide (til≤fin)&&decide (fin≤1099511627776)
def rcvB (b:Bas) (r:Rcd):Bool:=keyB b r.h r.h1 r.h2&&numR r.bank r.epoch r.fr r.til r.fin&&rngB r.denom 0 16&&oneB r.value r.depth
def crtI (b:Bas) (a:Int) (root:Nat→Int) (z sa sb:Int):It:=lsI [.int b.gr.p,.int b.gr.q,.int b.gr.g,.int b.g1,.int b.g2,.int b.h,.int a,.byt 32 root,.int z,.int sa,.int sb]
def crtN (b:Bas) (a:Int) (root:Nat→Int) (z sa sb:Int):Int:=numF (tagI "specie/coin".toUTF8 (crtI b a root z sa sb)) b.gr.q 16
def elsB (G:Grp) (z sa sb:Int):Bool:=elemB G z&&elemB G sa&&elemB G sb
end Go.Sp

namespace Go.Proofs.YtdaaddkipdmajaaGreatDoor
open Go Go.Am Go.Sp
set_option maxRecDepth 100000


end Go.Proofs.YtdaaddkipdmajaaGreatDoor

namespace Go.Sp
open Go Go.Am
end Go.Sp
namespace Go.Sp
open Go Go.Am
def scaB (G:Grp) (x:Int):Bool:=decide (x≥0)&&decide (x<G.q)
def eqsB (b:Bas) (h a z sa sb r c:Int):Bool :=
 (b.gr.g^r.toNat%b.gr.p==h^c.toNat%b.gr.p*sa%b.gr.p)&&(a^r.toNat%b.gr.p==z^c.toNat%b.gr.p*sb%b.gr.p)
def verR (b:Bas) (h h1 h2 a:Int) (root:Nat→Int) (z sa sb r:Int):Bool :=
 keyB b h h1 h2&&msgB b.gr a&&elsB b.gr z sa sb&&scaB b.gr r&&(crtN b a root z sa sb != 0&&eqsB b h a z sa sb r (crtN b a root z sa sb))
theorem el_bnd {G:Grp} (hG:G.Ok) {x:Int} (h:elemB G x=true):0≤x∧x<G.p:=by have:=elem_bnd hG h;omega
structure SigOk (b:Bas) (h0 a z sa sb r c:Int):Prop where
 ok:b.gr.Ok
 g:0≤b.gr.g∧b.gr.g<b.gr.p
 h:0≤h0∧h0<b.gr.p
 a:0≤a∧a<b.gr.p
 z:0≤z∧z<b.gr.p
 sa:0≤sa∧sa<b.gr.p
 sb:0≤sb∧sb<b.gr.p
 r:0≤r∧r<b.gr.q
 c:0≤c∧c<b.gr.q
theorem mod_bnd {G:Grp} (h:G.Ok) (x:Int):0≤x%G.p∧x%G.p<G.p:=by
 have h3:=h.p3
 exact ⟨Int.emod_nonneg _ (by omega),Int.emod_lt_of_pos _ (by omega)⟩
end Go.Sp

namespace Go.Proofs.YtdaaddkipdmajaaGreatDoor
open Go Go.Am Go.Sp
set_option maxRecDepth 100000


end Go.Proofs.YtdaaddkipdmajaaGreatDoor

namespace Go.Sp
open Go Go.Am
def coinV (b:Bas) (r:Rcd) (c:Coin):Bool :=
 rcvB b r&&c.bank==r.bank&&c.epoch==r.epoch&&c.denom==r.denom&&c.depth==r.depth&&verR b r.h r.h1 r.h2 c.a c.root c.z c.sa c.sb c.r
def lvB (n:Int):Bool:=decide (firstI (fun i=>n==(2^i:Nat)) 6 0≥0)
theorem hsl_out {os:List (Option Ob)} {n m:Nat} {F:Nat→Nat→Int} (hn:m=n):Ent os (.isl 32 m fun r k=>atL (u8c (F r)) k) (hsl n F):=by
 subst hn
 exact Ent.isl fun i j _ hj=>atL_map_range (es:=32) (g:=fun j=>AV.int .u8 (F i j)) hj
theorem tup2_out {os:List (Option Ob)} {a b:AV} {v:AV} (h:Ent os a b):Ent os (.tup [a,v]) (.tup [b,v]):=Ent.tup ⟨h,Ent.refl _,trivial⟩
end Go.Sp

namespace Go.Proofs.YtdaaddkipdmajaaGreatDoor
open Go Go.Am Go.Sp
set_option maxRecDepth 100000


theorem idxI_w (F : FuncId) (m : Nat) (g : Nat → AV) (f : Nat → Int) (n : Nat) (p : Nat → Bool) (hn : n ≤ 1000) (hc : ∀ i, i < n → Pure Tryz.prog gl0 F [.int .i64 (f i), .ipt m g] (.bool (p i))) : Pure Tryz.prog gl0 240 [.isl 1 n (fun i _ => .int .i64 (f i)), .fn (.func F) [] [.ipt m g]] (.int .i64 (firstI p n 0)) := by
  refine pure_sk (own := ow0) Tryz.func240 (by kernel_rfl) mixed (by kernel_rfl)
    (.loop ({ x : Nat // x ≤ n ∧ (fun (i : Nat) => firstI p n 0 = firstI p (n - i) i) x }) (fun (x : { x : Nat // x ≤ n ∧ (fun (i : Nat) => firstI p n 0 = firstI p (n - i) i) x }) => mkSt [0, 1, 7, 8] [AV.isl 1 n fun (i x : Nat) => Zi (f i), AV.fn (Fn.func F) [] [AV.ipt m g], Zi (↑n : Int), Zi (↑(x.1) : Int)] []) (fun (x : { x : Nat // x ≤ n ∧ (fun (i : Nat) => firstI p n 0 = firstI p (n - i) i) x }) => n - x.1) (⟨0, ⟨Nat.zero_le n, rfl⟩⟩) ([0, 1, 7, 8]) ([]) ([AV.isl 1 n fun (i x : Nat) => Zi (f i), AV.fn (Fn.func F) [] [AV.ipt m g], Zi (↑n : Int), Zi 0]) ([]) (fun x0 => (.br (decide ((↑x0.1 : Int) < (↑n : Int))) (.req ((0 : Int) ≤ (↑x0.1 : Int) ∧ (↑x0.1 : Int) < (↑n : Int)) (.sc (true) F ([Zi (f (Int.toNat (↑x0.1 : Int))), AV.ipt m g]) (AV.bool (p (Int.toNat (↑x0.1 : Int)))) (.br (p (Int.toNat (↑x0.1 : Int))) (.out (Zi (↑x0.1 : Int)) [] (Zi (firstI p n 0)) []) (.again (Again 0 (fun (x : { x : Nat // x ≤ n ∧ (fun (i : Nat) => firstI p n 0 = firstI p (n - i) i) x }) => mkSt [0, 1, 7, 8] [AV.isl 1 n fun (i x : Nat) => Zi (f i), AV.fn (Fn.func F) [] [AV.ipt m g], Zi (↑n : Int), Zi (↑(x.1) : Int)] []) (fun (x : { x : Nat // x ≤ n ∧ (fun (i : Nat) => firstI p n 0 = firstI p (n - i) i) x }) => n - x.1) x0) ([0, 1, 7, 8]) ([]) ([AV.isl 1 n fun (i x : Nat) => Zi (f i), AV.fn (Fn.func F) [] [AV.ipt m g], Zi (↑n : Int), Zi (IntKind.wrap IntKind.i64 ((↑x0.1 : Int) + 1))]) ([]))))) (.out (Zi (-1)) [] (Zi (firstI p n 0)) []))))
    (by kernel_rfl) ?_
  refine k_loop (fun _ hs => hs.le (⟨.refl _, .refl _, .refl _, .refl _, trivial⟩) (trivial)) (fun x0 => ?_)
  try (have q0 := x0.2; dsimp only at q0)
  refine k_br (fun h1 => ?_) (fun h1 => ?_)
  · have g1 := cnd_dec_t h1
    refine k_req (by omega) ?_
    refine k_sc (hc (Int.toNat (↑x0.1 : Int)) (by omega)) ?_
    refine k_br (fun h4 => ?_) (fun h4 => ?_)
    · have g4 := cnd_id_t h4
      try simp only [Int.toNat_natCast] at g4
      exact k_out (Ent.of_eq (congrArg _ (first_hit x0.2.2 (by omega) h4)))
    · have g4 := cnd_id_f h4
      try simp only [Int.toNat_natCast] at g4
      exact k_again (⟨x0.1 + 1, by omega, first_next x0.2.2 (by omega) h4⟩) (fun _ hs => hs.le (⟨.refl _, .refl _, .refl _, inc_ent (by omega), trivial⟩) (trivial)) (by dsimp only; omega)
  · have g1 := cnd_dec_f h1
    exact k_out (Ent.of_eq (congrArg _ (first_miss x0.2.2 (by omega))))

theorem conI_w (F : FuncId) (m : Nat) (g : Nat → AV) (f : Nat → Int) (n : Nat) (p : Nat → Bool) (hn : n ≤ 1000) (hc : ∀ i, i < n → Pure Tryz.prog gl0 F [.int .i64 (f i), .ipt m g] (.bool (p i))) : Pure Tryz.prog gl0 197 [.isl 1 n (fun i _ => .int .i64 (f i)), .fn (.func F) [] [.ipt m g]] (.bool (decide (firstI p n 0 ≥ 0))) := by
  have c1 := idxI_w F m g f n p hn hc
  refine pure_sk (own := ow0) Tryz.func197 (by kernel_rfl) mixed (by kernel_rfl)
    (let y0 : AV := (AV.bool (decide (firstI p n 0 ≥ 0))); (.sc (true) 240 ([AV.isl 1 n fun (i x : Nat) => Zi (f i), AV.fn (Fn.func F) [] [AV.ipt m g]]) (Zi (firstI p n 0)) (.out y0 [] y0 [])))
    (by kernel_rfl) ?_
  refine k_sc (c1) ?_
  exact k_out (Ent.refl _)

theorem leaves1_c (n : Int) (i : Nat) (hi : i < 6) : Pure Tryz.prog gl0 198 [.int .i64 i, .ipt 1 (atL [.int .i64 n])] (.bool (n == (2 ^ i : Nat))) := by
  have hs := shw (x := i) (by omega)
  refine pure_sk (own := ow0) Tryz.func198 (by kernel_rfl) mixed (by kernel_rfl)
    (.req ((0 : Int) ≤ (↑i : Int)) (.out (AV.bool (n == IntKind.wrap IntKind.i64 ((1 : Int) * 2 ^ min (Int.toNat (↑i : Int)) 64))) [] (AV.bool (n == (↑(2 ^ i) : Int))) []))
    (by kernel_rfl) ?_
  refine k_req (by omega) ?_
  exact k_out (Ent.of_eq (by simp_all))


theorem leaves_c0 (n : Int) : Pure Tryz.prog gl0 197 [.isl 1 6 (fun r k => atL (List.getD [[.int .i64 0], [.int .i64 1], [.int .i64 2], [.int .i64 3], [.int .i64 4], [.int .i64 5]] r []) k), .fn (.func 198) [] [.ipt 1 (atL [.int .i64 n])]] (.bool (lvB n)) :=
  (conI_w 198 1 (atL [.int .i64 n]) (fun i => (i : Int)) 6 (fun i => n == (2 ^ i : Nat)) (by decide) (fun i hi => leaves1_c n i hi)).via
    ⟨Ent.isl fun i j hi hj => by obtain rfl : j = 0 := Nat.lt_one_iff.1 hj
                                 match i, hi with | 0, _ | 1, _ | 2, _ | 3, _ | 4, _ | 5, _ => rfl, Ent.refl _, trivial⟩

theorem leaves_c (n : Int) : Pure Tryz.prog gl0 133 [.int .i64 n] (.bool (lvB n)) := by
  have h := leaves_c0 n
  refine pure_sk (own := ow0) Tryz.func133 (by kernel_rfl) mixed (by kernel_rfl)
    (.sc (true) 197 ([AV.isl 1 6 fun (r k : Nat) => atL (List.getD [[Zi 0], [Zi 1], [Zi 2], [Zi 3], [Zi 4], [Zi 5]] (r + 0) []) k, AV.fn (Fn.func 198) [] [AV.ipt 1 fun (k : Nat) => atL [Zi n] k]]) (AV.bool (lvB n)) (.out (AV.bool (lvB n)) [] (AV.bool (lvB n)) []))
    (by kernel_rfl) ?_
  refine k_sc (h) ?_
  exact k_out (Ent.refl _)

theorem encN_c (x : Int) : Pure Tryz.prog gl0 136 [.agg [.int .i64 1, .int .i64 x, .nsl, .nsl]] (.tup [il .u8 (It.int x).enc, .int .i64 0]) :=
  (encode_c (.int x) rfl (by rw [int_len]; decide)).via ⟨Ent.agg ⟨Ent.refl _, Ent.refl _, Ent.nsl, Ent.nsl, trivial⟩, trivial⟩

theorem rencN_c (x : Int) : Pure Tryz.prog gl0 124 [.agg [.int .i64 1, .int .i64 x, .nsl, .nsl]] (il .u8 (It.int x).enc) :=
  (renc_c (.int x) (by rw [int_len]; decide)).via ⟨Ent.agg ⟨Ent.refl _, Ent.refl _, Ent.nsl, Ent.nsl, trivial⟩, trivial⟩

theorem chash_n (b : Bas) (N : Nat) (hN : N ≤ 32) (hl : lvB N = true) (f : Nat → Int) (hw : b.gr.W) (hv : validB b = true) (hf : ∀ i, i < N → elemB b.gr (f i) = true) : Pure Tryz.prog gl0 57 [b.av, .isl 1 N fun i _ => .int .i64 (f i)] (.tup [hsl N fun i => leafF (f i), .int .i64 0]) := by
  have ht := fun x : Int => tleaf_c (It.int x).enc.length (fun i => (It.int x).enc.getD i 0) (by rw [int_len]; decide) (It.enc_by (x := .int x) trivial)
  refine pure_sk (own := ow0) Tryz.func57 (by kernel_rfl) mixed (by kernel_rfl)
    (let y0 : AV := (AV.tup [hsl N fun (i : Nat) => leafF (f i), Zi 0]); (.sc (true) 52 ([AV.agg (Bas.cells b)]) (AV.bool (validB b)) (.sc ((!validB b) == false) 133 ([Zi (↑N : Int)]) (AV.bool (lvB (↑N : Int))) (.br (!validB b || !lvB (↑N : Int)) (.out (AV.tup [AV.nsl, Zi 1]) [] y0 []) (.loop ({ x : Nat // x ≤ N }) (fun (x : { x : Nat // x ≤ N }) => mkSt [2, 22, 23, 6, 24] [AV.own 0 6 0 0 6, AV.isl 1 N fun (i x : Nat) => Zi (f i), Zi (↑N : Int), AV.osl 1 32 0 (x.1), Zi (↑(x.1) : Int)] [some ⟨6, 1, true, Rep.lst [Bas.cells b]⟩, some ⟨32, x.1, true, Rep.row fun (i : Nat) => u8c (leafF (f i))⟩]) (fun (x : { x : Nat // x ≤ N }) => N - x.1) (⟨0, Nat.zero_le N⟩) ([2, 22, 23, 6, 24]) ([0, 8321]) ([AV.own 0 6 0 0 6, AV.isl 1 N fun (i x : Nat) => Zi (f i), Zi (↑N : Int), AV.nsl, Zi 0]) ([some ⟨6, 1, true, Rep.lst [Bas.cells b]⟩, some ⟨32, 0, true, Rep.lst []⟩]) (fun x4 => (.br (decide ((↑x4.1 : Int) < (↑N : Int))) (.req ((0 : Int) ≤ (↑x4.1 : Int) ∧ (↑x4.1 : Int) < (↑N : Int)) (.sc (true) 130 ([AV.agg [Zi (Bas.gr b).1, Zi (Bas.gr b).2, Zi (Bas.gr b).3], Zi (f (Int.toNat (↑x4.1 : Int)))]) (AV.bool (validG (Bas.gr b) && elemB (Bas.gr b) (f (Int.toNat (↑x4.1 : Int))))) (.br (!(validG b.1 && elemB b.1 (f (Int.toNat (↑x4.1 : Int))))) (.out (AV.tup [AV.nsl, Zi 2]) [] y0 []) (.dc (true) 136 ([AV.agg [Zi 1, Zi (f (Int.toNat (↑x4.1 : Int))), AV.nsl, AV.nsl]]) (AV.tup [il IntKind.u8 (It.enc (It.int (f (Int.toNat (↑x4.1 : Int))))), Zi 0]) (.sc (true) 137 ([AV.isl 1 9 fun (i x : Nat) => Zb (List.getD (It.enc (It.int (f (Int.toNat (↑x4.1 : Int))))) i (0 : Int))]) (AV.tup [AV.agg (u8c (tagF (String.toUTF8 "specie/leaf") (List.length (It.enc (It.int (f (Int.toNat (↑x4.1 : Int)))))) fun (i : Nat) => List.getD (It.enc (It.int (f (Int.toNat (↑x4.1 : Int))))) i (0 : Int))), Zi 0]) (.req ((x4.1 + 1) * 32 ≤ 140737488355328) (.again (Again 0 (fun (x : { x : Nat // x ≤ N }) => mkSt [2, 22, 23, 6, 24] [AV.own 0 6 0 0 6, AV.isl 1 N fun (i x : Nat) => Zi (f i), Zi (↑N : Int), AV.osl 1 32 0 (x.1), Zi (↑(x.1) : Int)] [some ⟨6, 1, true, Rep.lst [Bas.cells b]⟩, some ⟨32, x.1, true, Rep.row fun (i : Nat) => u8c (leafF (f i))⟩]) (fun (x : { x : Nat // x ≤ N }) => N - x.1) x4) ([2, 22, 23, 6, 24]) ([0, 226]) ([AV.own 0 6 0 0 6, AV.isl 1 N fun (i x : Nat) => Zi (f i), Zi (↑N : Int), AV.osl 1 32 0 (x4.1 + 1), Zi (IntKind.wrap IntKind.i64 ((↑x4.1 : Int) + 1))]) ([some ⟨6, 1, true, Rep.lst [Bas.cells b]⟩, some ⟨32, x4.1 + 1, true, Rep.cat x4.1 (Rep.row fun (i : Nat) => u8c (leafF (f i))) (Rep.lst [u8c (tagF (String.toUTF8 "specie/leaf") (List.length (It.enc (It.int (f (Int.toNat (↑x4.1 : Int)))))) fun (i : Nat) => List.getD (It.enc (It.int (f (Int.toNat (↑x4.1 : Int))))) i (0 : Int))])⟩])))))))) (.out (AV.tup [AV.isl 32 x4.1 fun (r k : Nat) => atL (u8c (leafF (f (r + 0)))) k, Zi 0]) [] y0 []))))))))
    (by kernel_rfl) ?_
  refine k_sc ((bvalid_c b) (by assumption)) ?_
  refine k_scg (fun h1 => leaves_c ((↑N : Int))) ?_
  refine k_br (fun h2 => ?_) (fun h2 => ?_)
  · have g2 := (cnd_or_t (cnd_not_t cnd_id_f) (cnd_not_t cnd_id_f)) h2
    exact k_out (by exfalso; rcases g2 with g | g; (· rw [hv] at g; cases g); (· rw [hl] at g; cases g))
  · have g2 := (cnd_or_f (cnd_not_f cnd_id_t) (cnd_not_f cnd_id_t)) h2
    refine k_loop (fun _ hs => hs.le (by repeat' (first | exact trivial | (first | exact Ent.refl _ | exact inc_ent (by omega) | exact Ent.nil rfl | exact Ent.of_eq (congrArg (AV.osl _ _ _) (by first | omega | (dsimp only; omega))) | exact Ent.of_eq (congrArg (AV.int _) (by first | omega | (dsimp only; omega)))) | refine And.intro ?_ ?_)) (by exact ⟨ObEnt.refl _, ObEnt.zero, trivial⟩)) (fun x4 => ?_)
    try (have q4 := x4.2; dsimp only at q4)
    refine k_br (fun h5 => ?_) (fun h5 => ?_)
    · have g5 := cnd_dec_t h5
      refine k_req (by omega) ?_
      refine k_sc ((contains_c (Bas.gr b)) (f (Int.toNat (↑x4.1 : Int))) (by assumption)) ?_
      refine k_br (fun h8 => ?_) (fun h8 => ?_)
      · have g8 := (cnd_not_t (cnd_and_f cnd_id_f cnd_id_f)) h8
        try simp only [Int.toNat_natCast] at g8
        exact k_out (by exfalso; rcases g8 with g | g; (· rw [validG_iff.2 (validB_ok hv)] at g; cases g); (· rw [hf _ (by omega)] at g; cases g))
      · have g8 := (cnd_not_f (cnd_and_t cnd_id_t cnd_id_t)) h8
        try simp only [Int.toNat_natCast] at g8
        refine k_dc (encN_c (f (Int.toNat (↑x4.1 : Int)))) ?_
        refine k_sc (ht (f (Int.toNat (↑x4.1 : Int)))) ?_
        refine k_req (by omega) ?_
        exact k_again (⟨x4.1 + 1, by omega⟩) (fun _ hs => hs.le (by repeat' (first | exact trivial | (first | exact Ent.refl _ | exact inc_ent (by omega) | exact Ent.nil rfl | exact Ent.of_eq (congrArg (AV.osl _ _ _) (by first | omega | (dsimp only; omega))) | exact Ent.of_eq (congrArg (AV.int _) (by first | omega | (dsimp only; omega)))) | refine And.intro ?_ ?_)) (by exact ⟨ObEnt.refl _, ObEnt.catRow rfl (fun _ _ => EntL.refl _) (EntL.refl _), trivial⟩)) (by (dsimp only; omega))
    · have g5 := cnd_dec_f h5
      exact k_out (tup2_out (hsl_out (by omega)))

theorem rhash_c (n : Nat) (hn : n ≤ 1000) (f : Nat → Int) : Pure Tryz.prog gl0 62 [.isl 1 n fun i _ => .int .i64 (f i)] (hsl n fun i => leafF (f i)) := by
  have ht := fun x : Int => rtleaf_c (It.int x).enc.length (fun i => (It.int x).enc.getD i 0) (by rw [int_len]; decide) (It.enc_by (x := .int x) trivial)
  refine pure_sk (own := ow0) Tryz.func62 (by kernel_rfl) mixed (by kernel_rfl)
    (.loop ({ x : Nat // x ≤ n }) (fun (x : { x : Nat // x ≤ n }) => mkSt [0, 3, 4] [AV.isl 1 n fun (i x : Nat) => Zi (f i), AV.osl 0 32 0 (x.1), Zi (↑(x.1) : Int)] [some ⟨32, x.1, true, Rep.row fun (i : Nat) => u8c (leafF (f i))⟩]) (fun (x : { x : Nat // x ≤ n }) => n - x.1) (⟨0, Nat.zero_le n⟩) ([0, 3, 4]) ([8216]) ([AV.isl 1 n fun (i x : Nat) => Zi (f i), AV.nsl, Zi 0]) ([some ⟨32, 0, true, Rep.lst []⟩]) (fun x0 => (.br (decide ((↑x0.1 : Int) < (↑n : Int))) (.req ((0 : Int) ≤ (↑x0.1 : Int) ∧ (↑x0.1 : Int) < (↑n : Int)) (.dc (true) 124 ([AV.agg [Zi 1, Zi (f (Int.toNat (↑x0.1 : Int))), AV.nsl, AV.nsl]]) (il IntKind.u8 (It.enc (It.int (f (Int.toNat (↑x0.1 : Int)))))) (.sc (true) 142 ([AV.isl 1 9 fun (i x : Nat) => Zb (List.getD (It.enc (It.int (f (Int.toNat (↑x0.1 : Int))))) i (0 : Int))]) (AV.agg (u8c (tagF (String.toUTF8 "specie/leaf") (List.length (It.enc (It.int (f (Int.toNat (↑x0.1 : Int)))))) fun (i : Nat) => List.getD (It.enc (It.int (f (Int.toNat (↑x0.1 : Int))))) i (0 : Int)))) (.req ((x0.1 + 1) * 32 ≤ 140737488355328) (.again (Again 0 (fun (x : { x : Nat // x ≤ n }) => mkSt [0, 3, 4] [AV.isl 1 n fun (i x : Nat) => Zi (f i), AV.osl 0 32 0 (x.1), Zi (↑(x.1) : Int)] [some ⟨32, x.1, true, Rep.row fun (i : Nat) => u8c (leafF (f i))⟩]) (fun (x : { x : Nat // x ≤ n }) => n - x.1) x0) ([0, 3, 4]) ([105]) ([AV.isl 1 n fun (i x : Nat) => Zi (f i), AV.osl 0 32 0 (x0.1 + 1), Zi (IntKind.wrap IntKind.i64 ((↑x0.1 : Int) + 1))]) ([some ⟨32, x0.1 + 1, true, Rep.cat x0.1 (Rep.row fun (i : Nat) => u8c (leafF (f i))) (Rep.lst [u8c (tagF (String.toUTF8 "specie/leaf") (List.length (It.enc (It.int (f (Int.toNat (↑x0.1 : Int)))))) fun (i : Nat) => List.getD (It.enc (It.int (f (Int.toNat (↑x0.1 : Int))))) i (0 : Int))])⟩])))))) (.out (AV.isl 32 x0.1 fun (r k : Nat) => atL (u8c (leafF (f (r + 0)))) k) [] (hsl n fun (i : Nat) => leafF (f i)) []))))
    (by kernel_rfl) ?_
  refine k_loop (fun _ hs => hs.le (by repeat' (first | exact trivial | (first | exact Ent.refl _ | exact inc_ent (by omega) | exact Ent.nil rfl | exact Ent.of_eq (congrArg (AV.osl _ _ _) (by first | omega | (dsimp only; omega))) | exact Ent.of_eq (congrArg (AV.int _) (by first | omega | (dsimp only; omega)))) | refine And.intro ?_ ?_)) (by exact ⟨ObEnt.zero, trivial⟩)) (fun x0 => ?_)
  try (have q0 := x0.2; dsimp only at q0)
  refine k_br (fun h1 => ?_) (fun h1 => ?_)
  · have g1 := cnd_dec_t h1
    refine k_req (by omega) ?_
    refine k_dc (rencN_c (f (Int.toNat (↑x0.1 : Int)))) ?_
    refine k_sc (ht (f (Int.toNat (↑x0.1 : Int)))) ?_
    refine k_req (by omega) ?_
    exact k_again (⟨x0.1 + 1, by omega⟩) (fun _ hs => hs.le (by repeat' (first | exact trivial | (first | exact Ent.refl _ | exact inc_ent (by omega) | exact Ent.nil rfl | exact Ent.of_eq (congrArg (AV.osl _ _ _) (by first | omega | (dsimp only; omega))) | exact Ent.of_eq (congrArg (AV.int _) (by first | omega | (dsimp only; omega)))) | refine And.intro ?_ ?_)) (by exact ⟨ObEnt.catRow rfl (fun _ _ => EntL.refl _) (EntL.refl _), trivial⟩)) (by (dsimp only; omega))
  · have g1 := cnd_dec_f h1
    exact k_out (hsl_out (by omega))

end Go.Proofs.YtdaaddkipdmajaaGreatDoor

namespace Go.Sp
open Go Go.Am
def prdF (G:Grp) (f e:Nat→Int):Nat→Int
 | 0=>1
 | x+1=>prdF G f e x*(f x^(e x).toNat%G.p)%G.p
theorem elem_one {G:Grp} (h:G.Ok):elemB G 1=true:=(elem_iff h).2 ⟨Int.le_refl _,by have:=h.p3;omega,by rw [Int.one_pow];exact Int.emod_eq_of_lt (by decide) (by have:=h.p3;omega)⟩
theorem elem_prd {G:Grp} (h:G.Ok) {f e:Nat→Int} {n:Nat} (hf:∀ i,i<n→elemB G (f i)=true):∀ x,x≤n→elemB G (prdF G f e x)=true
 | 0,_=>elem_one h
 | x+1,hx=>elem_mul h (elem_prd h hf x (by omega)) (elem_pow h (hf x (by omega)) _)
def pr2 (G:Grp) (a b x y:Int):Int:=a^x.toNat%G.p*(b^y.toNat%G.p)%G.p
def sel2 (a b:Int) (i:Nat):Int:=[a,b].getD i 0
theorem prd_2 {G:Grp} (h:G.Ok) {f e:Nat→Int}:prdF G f e 2=pr2 G (f 0) (f 1) (e 0) (e 1):=by
 show (1*(f 0^(e 0).toNat%G.p)%G.p)*(f 1^(e 1).toNat%G.p)%G.p=_
 rw [Int.one_mul,Int.emod_eq_of_lt (mod_bnd h _).1 (mod_bnd h _).2]
 rfl
theorem sel_isl {os:List (Option Ob)} {a b:Int}:Ent os (.isl 1 2 fun r k=>atL (List.getD [[.int .i64 a],[.int .i64 b]] r []) k) (.isl 1 2 fun i _=>.int .i64 (sel2 a b i)):=Ent.isl fun i j hi hj=>by
 obtain rfl:j=0:=Nat.lt_one_iff.1 hj
 match i,hi with|0,_|1,_=>rfl
theorem fst_no {p:Nat→Bool} {n:Nat} (h:∀ i,i<n→p i=false):decide (firstI p n 0≥0)=false:=by
 rw [firstI_neg]
 apply List.any_eq_false.2
 intro i hi
 rw [Nat.zero_add,h i (List.mem_range.1 hi)]
 decide
theorem fst_2 {p:Nat→Bool}:decide (firstI p 2 0≥0)=(p 0||p 1):=by
 rw [firstI_neg]
 show (p (0+0)||(p (0+1)||false))=_
 rw [Bool.or_false,Nat.zero_add,Nat.zero_add]
theorem sca_iff {G:Grp} {r:Int}:scaB G r=true↔0≤r∧r<G.q:=by unfold scaB;simp
theorem sca_sel {G:Grp} {a c:Int} (h:scaB G a=true∧scaB G c=true):∀ i,i<2→0≤sel2 a c i∧sel2 a c i<G.q:=fun i hi=>match i,hi with
 | 0,_=>sca_iff.1 h.1
 | 1,_=>sca_iff.1 h.2
def pr2V (b:Bas) (r1 r2:Int):Int:=bif scaB b.gr r1&&scaB b.gr r2 then pr2 b.gr b.g1 b.g2 r1 r2 else 0
def pr2E (b:Bas) (r1 r2:Int):Int:=bif scaB b.gr r1&&scaB b.gr r2 then 0 else 2
theorem pr2_no {b:Bas} {r1 r2:Int} (h:scaB b.gr r1=false∨scaB b.gr r2=false):pr2V b r1 r2=0∧pr2E b r1 r2=2:=by
 have e:(scaB b.gr r1&&scaB b.gr r2)=false:=by rcases h with h|h<;>simp [h]
 unfold pr2V pr2E;rw [e];exact ⟨rfl,rfl⟩
theorem pr2_ok {b:Bas} {r1 r2:Int} (h:scaB b.gr r1=true∧scaB b.gr r2=true):pr2V b r1 r2=pr2 b.gr b.g1 b.g2 r1 r2∧pr2E b r1 r2=0:=by
 unfold pr2V pr2E;rw [h.1,h.2];exact ⟨rfl,rfl⟩
theorem sca_n {G:Grp} {e:Int}:(decide (e<0)||decide (e≥G.q)) = !scaB G e:=by
 unfold scaB
 by_cases h:e<0<;>by_cases h':e≥G.q<;>simp [h,h']<;>omega
end Go.Sp

namespace Go.Proofs.YtdaaddkipdmajaaGreatDoor
open Go Go.Am Go.Sp
set_option maxRecDepth 100000

theorem pel1_c (G : Grp) (x : Int) (h : G.Ok) (hw : G.W) : Pure Tryz.prog gl0 265 [.int .i64 x, .ipt 3 (atL G.cells)] (.bool (!elemB G x)) := by
  have hg := validG_iff.2 h
  refine pure_sk (own := ow0) Tryz.func265 (by kernel_rfl) mixed (by kernel_rfl)
    (.sc (true) 130 ([AV.agg [Zi G.1, Zi G.2, Zi G.3], Zi x]) (AV.bool (validG G && elemB G x)) (.out (AV.bool !(validG G && elemB G x)) [] (AV.bool !elemB G x) []))
    (by kernel_rfl) ?_
  refine k_sc ((contains_c G) (x) (by assumption)) ?_
  exact k_out (Ent.of_eq (congrArg _ (by rw [hg, Bool.true_and])))

theorem pex1_c (G : Grp) (x : Int) : Pure Tryz.prog gl0 266 [.int .i64 x, .ipt 3 (atL G.cells)] (.bool (decide (x < 0) || decide (x ≥ G.q))) := by
  refine pure_sk (own := ow0) Tryz.func266 (by kernel_rfl) mixed (by kernel_rfl)
    (.out (AV.bool (decide (x < 0) || decide (x ≥ G.2))) [] (AV.bool (decide (x < 0) || decide (x ≥ Grp.q G))) [])
    (by kernel_rfl) ?_
  exact k_out (Ent.refl _)

theorem pel_c (G : Grp) (n : Nat) (f : Nat → Int) (hn : n ≤ 1000) (h : G.Ok) (hw : G.W) (hf : ∀ i, i < n → elemB G (f i) = true) : Pure Tryz.prog gl0 237 [G.av, .isl 1 n fun i _ => .int .i64 (f i)] (.bool true) := by
  have c1 := conI_w 265 3 (atL G.cells) f n (fun i => !elemB G (f i)) hn (fun i _ => pel1_c G (f i) h hw)
  have e := fst_no (p := fun i => !elemB G (f i)) (n := n) (fun i hi => by rw [hf i hi]; rfl)
  refine pure_sk (own := ow0) Tryz.func237 (by kernel_rfl) mixed (by kernel_rfl)
    (.sc (true) 197 ([AV.isl 1 n fun (i x : Nat) => Zi (f i), AV.fn (Fn.func 265) [] [AV.ipt 3 fun (k : Nat) => atL [Zi G.1, Zi G.2, Zi G.3] k]]) (AV.bool (decide (firstI (fun (i : Nat) => !elemB G (f i)) n 0 ≥ 0))) (.out (AV.bool !decide (firstI (fun (i : Nat) => !elemB G (f i)) n 0 ≥ 0)) [] (AV.bool true) []))
    (by kernel_rfl) ?_
  refine k_sc (c1) ?_
  exact k_out (Ent.of_eq (congrArg _ (by rw [e]; rfl)))

theorem pex_c (G : Grp) (a c : Int) : Pure Tryz.prog gl0 238 [G.av, .isl 1 2 fun i _ => .int .i64 (sel2 a c i)] (.bool (scaB G a && scaB G c)) := by
  have c1 := conI_w 266 3 (atL G.cells) (sel2 a c) 2 (fun i => decide (sel2 a c i < 0) || decide (sel2 a c i ≥ G.q)) (by decide) (fun i _ => pex1_c G (sel2 a c i))
  have e := fst_2 (p := fun i => decide (sel2 a c i < 0) || decide (sel2 a c i ≥ G.q))
  refine pure_sk (own := ow0) Tryz.func238 (by kernel_rfl) mixed (by kernel_rfl)
    (.sc (true) 197 ([AV.isl 1 2 fun (i x : Nat) => Zi (sel2 a c i), AV.fn (Fn.func 266) [] [AV.ipt 3 fun (k : Nat) => atL [Zi G.1, Zi G.2, Zi G.3] k]]) (AV.bool (decide (firstI (fun (i : Nat) => decide (sel2 a c i < 0) || decide (sel2 a c i ≥ Grp.q G)) 2 0 ≥ 0))) (.out (AV.bool !decide (firstI (fun (i : Nat) => decide (sel2 a c i < 0) || decide (sel2 a c i ≥ G.2)) 2 0 ≥ 0)) [] (AV.bool (scaB G a && scaB G c)) []))
    (by kernel_rfl) ?_
  refine k_sc (c1) ?_
  exact k_out (Ent.of_eq (congrArg _ (by rw [e, sca_n, sca_n, ← Bool.not_and, Bool.not_not]; rfl)))

theorem powers_c (G : Grp) (f e : Nat → Int) (h : G.Ok) (hw : G.W) (hf : ∀ i, i < 2 → elemB G (f i) = true) (he : ∀ i, i < 2 → 0 ≤ e i ∧ e i < G.q) : Pure Tryz.prog gl0 239 [G.av, .isl 1 2 fun i _ => .int .i64 (f i), .isl 1 2 fun i _ => .int .i64 (e i)] (.tup [.int .i64 (prdF G f e 2), .int .i64 0]) := by
  refine pure_sk (own := ow0) Tryz.func239 (by kernel_rfl) mixed (by kernel_rfl)
    (let y0 : List (Option Ob) := [some ⟨3, 1, true, Rep.lst [[Zi (Grp.p G), Zi (Grp.q G), Zi (Grp.g G)]]⟩]; (.loop ({ x : Nat // x ≤ 2 }) (fun (x : { x : Nat // x ≤ 2 }) => mkSt [2, 3, 13, 14, 8, 15] [AV.isl 1 2 fun (i x : Nat) => Zi (e i), AV.own 0 3 0 0 3, AV.isl 1 2 fun (i x : Nat) => Zi (f i), Zi (↑(2) : Int), Zi (prdF G f e (x.1)), Zi (↑(x.1) : Int)] y0) (fun (x : { x : Nat // x ≤ 2 }) => 2 - x.1) (⟨0, Nat.zero_le 2⟩) ([2, 3, 13, 14, 8, 15]) ([0]) ([AV.isl 1 2 fun (i x : Nat) => Zi (e i), AV.own 0 3 0 0 3, AV.isl 1 2 fun (i x : Nat) => Zi (f i), Zi (↑(2) : Int), Zi 1, Zi 0]) (y0) (fun x0 => (.br (decide ((↑x0.1 : Int) < (↑(2) : Int))) (.req ((0 : Int) ≤ (↑x0.1 : Int) ∧ (↑x0.1 : Int) < (↑(2) : Int)) (.req ((0 : Int) ≤ (↑x0.1 : Int) ∧ (↑x0.1 : Int) < (↑(2) : Int)) (.sc (true) 48 ([AV.agg [Zi G.1, Zi G.2, Zi G.3], Zi (f (Int.toNat (↑x0.1 : Int))), Zi (e (Int.toNat (↑x0.1 : Int)))]) (AV.tup [Zi (f (Int.toNat (↑x0.1 : Int)) ^ Int.toNat (e (Int.toNat (↑x0.1 : Int))) % Grp.p G), Zi 0]) (.ff (.sc (true) 49 ([AV.agg [Zi G.1, Zi G.2, Zi G.3], Zi (prdF G f e x0.1), Zi (f (Int.toNat (↑x0.1 : Int)) ^ Int.toNat (e (Int.toNat (↑x0.1 : Int))) % G.1)]) (AV.tup [Zi (prdF G f e x0.1 * (f (Int.toNat (↑x0.1 : Int)) ^ Int.toNat (e (Int.toNat (↑x0.1 : Int))) % G.1) % Grp.p G), Zi 0]) (.ff (.again (Again 0 (fun (x : { x : Nat // x ≤ 2 }) => mkSt [2, 3, 13, 14, 8, 15] [AV.isl 1 2 fun (i x : Nat) => Zi (e i), AV.own 0 3 0 0 3, AV.isl 1 2 fun (i x : Nat) => Zi (f i), Zi (↑(2) : Int), Zi (prdF G f e (x.1)), Zi (↑(x.1) : Int)] y0) (fun (x : { x : Nat // x ≤ 2 }) => 2 - x.1) x0) ([2, 3, 13, 14, 8, 15]) ([0]) ([AV.isl 1 2 fun (i x : Nat) => Zi (e i), AV.own 0 3 0 0 3, AV.isl 1 2 fun (i x : Nat) => Zi (f i), Zi (↑(2) : Int), Zi (prdF G f e x0.1 * (f (Int.toNat (↑x0.1 : Int)) ^ Int.toNat (e (Int.toNat (↑x0.1 : Int))) % G.1) % G.1), Zi (IntKind.wrap IntKind.i64 ((↑x0.1 : Int) + 1))]) (y0)))))))) (.out (AV.tup [Zi (prdF G f e x0.1), Zi 0]) [] (AV.tup [Zi (prdF G f e 2), Zi 0]) [])))))
    (by kernel_rfl) ?_
  refine k_loop (fun _ hs => hs.le (⟨.refl _, .refl _, .refl _, .refl _, .refl _, .refl _, trivial⟩) (⟨.refl _, trivial⟩)) (fun x0 => ?_)
  try (have q0 := x0.2; dsimp only at q0)
  refine k_br (fun h1 => ?_) (fun h1 => ?_)
  · have g1 := cnd_dec_t h1
    refine k_req (by omega) ?_
    refine k_req (by omega) ?_
    refine k_sc ((gpow_c G) (f (Int.toNat (↑x0.1 : Int))) (e (Int.toNat (↑x0.1 : Int))) (by assumption) (by assumption) (by exact hf _ (by omega)) (by exact he _ (by omega))) ?_
    refine k_ff ?_
    refine k_sc ((gmul_c G) (prdF G f e x0.1) (f (Int.toNat (↑x0.1 : Int)) ^ Int.toNat (e (Int.toNat (↑x0.1 : Int))) % G.1) (by assumption) (by assumption) (by exact elem_prd h hf _ (by omega)) (by exact elem_pow h (hf _ (by omega)) _)) ?_
    refine k_ff ?_
    exact k_again (⟨x0.1 + 1, by omega⟩) (fun _ hs => hs.le (⟨.refl _, .refl _, .refl _, .refl _, .refl _, inc_ent (by omega), trivial⟩) (⟨.refl _, trivial⟩)) (by dsimp only; omega)
  · have g1 := cnd_dec_f h1
    exact k_out (by exact Ent.of_eq (by rw [show x0.1 = 2 by omega]))

theorem product2_c (b : Bas) (r1 r2 : Int) (hw : b.gr.W) (hv : validB b = true) : Pure Tryz.prog gl0 196 [b.gr.av, .isl 1 2 fun i _ => .int .i64 (sel2 b.g1 b.g2 i), .isl 1 2 fun i _ => .int .i64 (sel2 r1 r2 i)] (.tup [.int .i64 (pr2V b r1 r2), .int .i64 (pr2E b r1 r2)]) := by
  have h := validB_iff.1 hv
  have hf : ∀ i, i < 2 → elemB b.gr (sel2 b.g1 b.g2 i) = true := fun i hi => match i, hi with | 0, _ => h.e1 | 1, _ => h.e2
  have hg := validG_iff.2 h.G
  have c1 := pel_c b.gr 2 (sel2 b.g1 b.g2) (by decide) h.G hw hf
  have c2 := pex_c b.gr r1 r2
  have c3 := fun he => powers_c b.gr (sel2 b.g1 b.g2) (sel2 r1 r2) h.G hw hf he
  refine pure_sk (own := ow0) Tryz.func196 (by kernel_rfl) mixed (by kernel_rfl)
    (let y0 : List AV := [Zi (Bas.gr b).1, Zi (Bas.gr b).2, Zi (Bas.gr b).3]; let y1 : AV := (AV.tup [Zi (pr2V b r1 r2), Zi (pr2E b r1 r2)]); (.sc (true) 129 ([AV.agg y0]) (AV.bool (validG (Bas.gr b))) (.br (!validG b.1 || false) (.out (AV.tup [Zi 0, Zi 1]) [] y1 []) (.ff (.sc (true) 237 ([AV.agg y0, AV.isl 1 2 fun (i x : Nat) => Zi (sel2 b.2 b.3 i)]) (AV.bool true) (.sc (true) 238 ([AV.agg y0, AV.isl 1 2 fun (i x : Nat) => Zi (sel2 r1 r2 i)]) (AV.bool (scaB (Bas.gr b) r1 && scaB (Bas.gr b) r2)) (.br (!(scaB b.1 r1 && scaB b.1 r2)) (.out (AV.tup [Zi 0, Zi 2]) [] y1 []) (.sc (true) 239 ([AV.agg y0, AV.isl 1 2 fun (i x : Nat) => Zi (sel2 b.2 b.3 i), AV.isl 1 2 fun (i x : Nat) => Zi (sel2 r1 r2 i)]) (AV.tup [Zi (prdF (Bas.gr b) (sel2 (Bas.g1 b) (Bas.g2 b)) (sel2 r1 r2) 2), Zi 0]) (.out (AV.tup [Zi (prdF b.1 (sel2 b.2 b.3) (sel2 r1 r2) 2), Zi 0]) [] y1 [])))))))))
    (by kernel_rfl) ?_
  refine k_sc ((gvalid_c (Bas.gr b)) (by assumption)) ?_
  refine k_br (fun h1 => ?_) (fun h1 => ?_)
  · have g1 := (cnd_or_t (cnd_not_t cnd_id_f) cnd_id_t) h1
    exact k_out (by exfalso; simp [hg] at g1)
  · have g1 := (cnd_or_f (cnd_not_f cnd_id_t) cnd_id_f) h1
    refine k_ff ?_
    refine k_sc (c1) ?_
    refine k_sc (c2) ?_
    refine k_br (fun h6 => ?_) (fun h6 => ?_)
    · have g6 := (cnd_not_t (cnd_and_f cnd_id_f cnd_id_f)) h6
      exact k_out (Ent.of_eq (by rw [(pr2_no g6).1, (pr2_no g6).2]))
    · have g6 := (cnd_not_f (cnd_and_t cnd_id_t cnd_id_t)) h6
      refine k_sc (c3 (sca_sel g6)) ?_
      exact k_out (Ent.of_eq (by rw [(pr2_ok g6).1, (pr2_ok g6).2, prd_2 h.G]; rfl))

theorem product2_l (b : Bas) (r1 r2 : Int) (hw : b.gr.W) (hv : validB b = true) : Pure Tryz.prog gl0 196 [b.gr.av, .isl 1 2 fun r k => atL (List.getD [[.int .i64 b.g1], [.int .i64 b.g2]] r []) k, .isl 1 2 fun r k => atL (List.getD [[.int .i64 r1], [.int .i64 r2]] r []) k] (.tup [.int .i64 (pr2V b r1 r2), .int .i64 (pr2E b r1 r2)]) :=
  (product2_c b r1 r2 hw hv).via ⟨Ent.refl _, sel_isl, sel_isl, trivial⟩

end Go.Proofs.YtdaaddkipdmajaaGreatDoor

namespace Go.Sp
open Go Go.Am
def lbF (s:Spend) (i:Nat):Int:=s.lf i 0
def dpN (s:Spend):Nat:=(s.depth - s.level).toNat
def topF (s:Spend):Nat→Int:=treF (fun i=>leafF (lbF s i)) (dpN s) 0
def hdB (b:Bas) (r:Rcd) (s:Spend):Bool:=coinV b r s.coin&&nodeB s.depth s.level s.index&&ctxB s.time s.number&&Nat.beq s.nl (2^dpN s)&&s.pidx==s.index
structure HdOk (b:Bas) (r:Rcd) (s:Spend):Prop where
 hd:hdB b r s=true
 v:validB b=true
 a:elemB b.gr s.a=true
 n:nodeB s.depth s.level s.index=true
 l:s.nl=2^dpN s
 d:dpN s≤5
 lv:0≤s.level∧s.level≤5
 ix:0≤s.pidx∧s.pidx<2^s.level.toNat
 n32:s.nl≤32
 lb:lvB s.nl=true
 q0:0<b.gr.q
 q1:b.gr.q<2305843009213693952
 k:0≤chS b s∧chS b s<b.gr.q
 top:byB (topF s) 32
 p0:0≤s.pidx
 p1:s.pidx<9223372036854775807
theorem leafF_by (x:Int):byB (leafF x) 32:=tagI_by _ _ _
def nzB (b : Bas) (x : Int) : Bool := decide (x ≥ 1) && decide (x < b.gr.q)
def msgJ (b : Bas) (u : Int) : Int := pr2V b u 1
def lfJ (b : Bas) (X : Nat → Nat → Int) (i : Nat) : Int := pr2V b (X i 0) (X i 1)
def pairB (b : Bas) (X : Nat → Nat → Int) (i : Nat) : Bool := scaB b.gr (X i 0) && scaB b.gr (X i 1)
def seenB (b : Bas) (X : Nat → Nat → Int) (i : Nat) : Bool := (List.range i).any fun j => decide (lfJ b X i = lfJ b X j)
def secH (b : Bas) (u s : Int) (n : Nat) : Bool := validB b && (nzB b u && (nzB b s && ((msgJ b u != 1) && lvB n)))
def secB (b : Bas) (u s : Int) (X : Nat → Nat → Int) (n : Nat) : Bool := secH b u s n && allI (fun i => pairB b X i && !seenB b X i) n
def secA (u s : Int) (X : Nat → Nat → Int) (n : Nat) : AV := .agg [.int .i64 u, .int .i64 s, .isl 2 n fun i j => .int .i64 (X i j)]
theorem secH_n {b : Bas} {u s : Int} {n : Nat} : (!validB b || !nzB b u || !nzB b s || (msgJ b u == 1) || !lvB n) = !secH b u s n := by
  unfold secH
  cases validB b <;> cases nzB b u <;> cases nzB b s <;> cases hm : (msgJ b u == 1) <;> cases lvB n <;> simp_all
theorem seen_n {b : Bas} {X : Nat → Nat → Int} {i : Nat} : (!scaB b.gr (X i 0) || !scaB b.gr (X i 1) || (List.range i).any fun j => decide (pr2V b (X i 0) (X i 1) = lfJ b X j)) = !(pairB b X i && !seenB b X i) := by
  unfold pairB seenB
  show (_ || (List.range i).any fun j => decide (lfJ b X i = lfJ b X j)) = _
  cases scaB b.gr (X i 0) <;> cases scaB b.gr (X i 1) <;> simp
theorem nz_sca {b : Bas} {x : Int} (h : nzB b x = true) : scaB b.gr x = true := by
  unfold nzB at h
  simp at h
  exact sca_iff.2 ⟨by omega, h.2⟩
theorem pr2_bnd {b : Bas} {x y : Int} (hv : validB b = true) : 0 ≤ pr2V b x y ∧ pr2V b x y < b.gr.p := by
  have h := validB_iff.1 hv
  unfold pr2V
  cases hc : (scaB b.gr x && scaB b.gr y) with
  | false => have := h.G.p3; exact ⟨Int.le_refl _, by show (0 : Int) < _; omega⟩
  | true => exact mod_bnd h.G _
theorem secB_f {b : Bas} {u s : Int} {X : Nat → Nat → Int} {n i : Nat} (hi : i < n) (h : (pairB b X i && !seenB b X i) = false) : secB b u s X n = false := by
  unfold secB
  rw [allI_f hi h, Bool.and_false]
theorem secB_t {b : Bas} {u s : Int} {X : Nat → Nat → Int} {n : Nat} (h0 : secH b u s n = true) (h : ∀ i, i < n → (pairB b X i && !seenB b X i) = true) : secB b u s X n = true := by
  unfold secB
  rw [h0, allI_t h]; rfl
theorem secH_all {b : Bas} {u s : Int} {n : Nat} (h : secH b u s n = true) : validB b = true ∧ nzB b u = true ∧ nzB b s = true ∧ (msgJ b u != 1) = true ∧ lvB n = true := by
  unfold secH at h
  simp only [Bool.and_eq_true] at h
  exact h
structure SecOk (b : Bas) (u s : Int) (X : Nat → Nat → Int) (n : Nat) : Prop where
  v : validB b = true
  hu : nzB b u = true
  hs : nzB b s = true
  m : (msgJ b u != 1) = true
  l : lvB n = true
  p : ∀ i, i < n → pairB b X i = true
  d : ∀ i, i < n → seenB b X i = false
theorem sec_all {b : Bas} {u s : Int} {X : Nat → Nat → Int} {n : Nat} (h : secB b u s X n = true) : SecOk b u s X n := by
  unfold secB at h
  rw [Bool.and_eq_true] at h
  obtain ⟨h1, h2, h3, h4, h5⟩ := secH_all h.1
  have k : ∀ i, i < n → pairB b X i = true ∧ seenB b X i = false := fun i hi => by
    have := List.all_eq_true.1 h.2 i (List.mem_range.2 hi)
    simpa using this
  exact ⟨h1, h2, h3, h4, h5, fun i hi => (k i hi).1, fun i hi => (k i hi).2⟩
theorem sec_of {b : Bas} {u s : Int} {X : Nat → Nat → Int} {n : Nat} (h : SecOk b u s X n) : secB b u s X n = true := by
  unfold secB secH
  rw [h.v, h.hu, h.hs, h.m, h.l]
  exact allI_t fun i hi => by rw [h.p i hi, h.d i hi]; rfl
theorem sca_one {b : Bas} (h : b.Ok) : scaB b.gr 1 = true := sca_iff.2 ⟨by decide, by have := h.G.q3; omega⟩
theorem nz_rng {b : Bas} {x : Int} (h : nzB b x = true) : 0 ≤ x ∧ x < b.gr.q := sca_iff.1 (nz_sca h)
theorem msgJ_el {b : Bas} {u : Int} (hv : validB b = true) (hu : nzB b u = true) : elemB b.gr (msgJ b u) = true := by
  have h := validB_iff.1 hv
  unfold msgJ
  rw [(pr2_ok ⟨nz_sca hu, sca_one h⟩).1]
  exact elem_mul h.G (elem_pow h.G h.e1 _) (elem_pow h.G h.e2 _)
theorem dp_lv (p : Nat → Bool) : (decide (firstI p 11 0 ≥ 0) && decide (firstI p 11 0 ≤ 5)) = decide (firstI p 6 0 ≥ 0) := by
  by_cases h0 : p 0 = true
  · simp [firstI, h0]
  by_cases h1 : p 1 = true
  · simp [firstI, h0, h1]
  by_cases h2 : p 2 = true
  · simp [firstI, h0, h1, h2]
  by_cases h3 : p 3 = true
  · simp [firstI, h0, h1, h2, h3]
  by_cases h4 : p 4 = true
  · simp [firstI, h0, h1, h2, h3, h4]
  by_cases h5 : p 5 = true
  · simp [firstI, h0, h1, h2, h3, h4, h5]
  have e1 : firstI p 11 0 = firstI p 5 6 := by simp [firstI, h0, h1, h2, h3, h4, h5]
  have e2 : firstI p 6 0 = -1 := by simp [firstI, h0, h1, h2, h3, h4, h5]
  have e3 : firstI p 5 6 = -1 ∨ 6 ≤ firstI p 5 6 := by
    simp only [firstI]
    repeat' split
    all_goals omega
  rw [e1, e2]
  rcases e3 with e | e
  · rw [e]; decide
  · rw [decide_eq_false (by omega : ¬ firstI p 5 6 ≤ 5), Bool.and_false]; decide
def dpJ (n : Nat) : Int := firstI (fun d => (n : Int) == ((2 ^ d : Nat) : Int)) 11 0
theorem dpJ_lv (n : Nat) : (decide (dpJ n ≥ 0) && decide (dpJ n ≤ 5)) = lvB n := dp_lv _
theorem shl1_f : ∀ x : Fin 11, IntKind.wrap .i64 ((1 : Int) * 2 ^ min (Int.toNat ((x.1 : Nat) : Int)) 64) = ((2 ^ x.1 : Nat) : Int) := by decide +kernel
theorem shl1 {x : Nat} (h : x ≤ 10) : IntKind.wrap .i64 ((1 : Int) * 2 ^ min x 64) = ((2 ^ x : Nat) : Int) := shl1_f ⟨x, by omega⟩
theorem any_t {n i : Nat} {p : Nat → Bool} (hi : i < n) (h : p i = true) : (List.range n).any p = true := List.any_eq_true.2 ⟨i, List.mem_range.2 hi, h⟩
theorem any_f {n : Nat} {p : Nat → Bool} (h : ∀ i, i < n → p i = false) : (List.range n).any p = false := List.any_eq_false.2 fun i hi => by rw [h i (List.mem_range.1 hi)]; decide
theorem lf_out {os : List (Option Ob)} {n m : Nat} {f : Nat → Int} (h : m = n) : Ent os (.isl 1 m fun r k => atL [AV.int .i64 (f (r + 0))] k) (.isl 1 n fun i _ => .int .i64 (f i)) := by
  subst h
  exact Ent.isl fun i j _ hj => by obtain rfl : j = 0 := Nat.lt_one_iff.1 hj; rfl
theorem pair_all {b : Bas} {X : Nat → Nat → Int} {i : Nat} (h : pairB b X i = true) : scaB b.gr (X i 0) = true ∧ scaB b.gr (X i 1) = true := by
  unfold pairB at h
  simpa using h
def psJ (b : Bas) (u s : Int) : Int := msgJ b u ^ s.toNat % b.gr.p
end Go.Sp

namespace Go.Am
open Go.RowKit

theorem Sim.grow {K : Ctx} {β : Book} {s : ASt} {a : Act} {w w' : World} (hs : Sim K β s a w) (hb : Below w.heap.size w w') : Sim K β s a w' := by
  have hk : Keeps β w β w' := keeps_ext hb
  have hkp : Kept K.B K.G w w' := (Kept.ofBelow K.G hb).mono hs.hB (fun _ _ h => h)
  exact ⟨fun n => (hs.slot n).keep hk, hs.size, hs.defers.kept hkp, fun id o ho => (hs.heap id o ho).imp (fun ⟨b, h1, h2⟩ => ⟨b, h1, h2.keep hk (hb.block b (hs.live id b _ _ h1).2)⟩) (fun h => h), hs.inj, hs.fresh,
    fun id b n mu h => ⟨(hs.live id b n mu h).1, Nat.lt_of_lt_of_le (hs.live id b n mu h).2 hb.size⟩, hs.giv, hs.bF, hs.hF, hs.kept.trans hkp, Nat.le_trans hs.hB hb.size, fun g m h hgl => (hs.glob g m h hgl).keep hk⟩

theorem Sim.slots {K : Ctx} {β : Book} {s s' : ASt} {a a' : Act} {w : World} (hs : Sim K β s a w) (hH : s'.H = s.H) (hc : s'.c = s.c) (hsz : a'.tmps.size = a.tmps.size) (hd : a'.defers = a.defers) (h : ∀ n, Rel β w (s'.fr n) (a'.tmps.getD n undef)) : Sim K β s' a' w :=
  ⟨h, hsz.trans hs.size, by rw [hd]; exact hs.defers, fun id o ho => hs.heap id o (hH ▸ ho), hs.inj, fun id h => hs.fresh id (hc ▸ h), hs.live, hs.giv, hs.bF, hs.hF, hs.kept, hs.hB, hs.glob⟩

theorem lookZ_cons_ne {m n : Nat} {ns : List Nat} {v : AV} {vs : List AV} (h : m ≠ n) : lookZ (m :: ns) (v :: vs) n = lookZ ns vs n := by
  have hb : Nat.beq m n = false := by
    cases hb : Nat.beq m n with
    | false => rfl
    | true => exact absurd (Nat.eq_of_beq_eq_true hb) h
  simp only [lookZ, hb, cond_false]
theorem lookZ_cons_eq {m : Nat} {ns : List Nat} {v : AV} {vs : List AV} : lookZ (m :: ns) (v :: vs) m = v := by simp [lookZ]

theorem getD_put_eq {a : Act} {d : Nat} {v : Value} (h : d < a.tmps.size) : (a.put (some d) v).tmps.getD d undef = v := by simp [Act.put, Array.getD_eq_getD_getElem?, h]

theorem Sim.put {K : Ctx} {β : Book} {ns : List Nat} {vs : List AV} {obs : List (Option Ob)} {a : Act} {w : World} {d : Nat} {v : Value} {x : AV} (hs : Sim K β (mkSt ns vs obs) a w) (hdt : d < K.nt) (hr : Rel β w x v) : Sim K β (mkSt (d :: ns) (x :: vs) obs) (a.put (some d) v) w := by
  have hdt' : d < a.tmps.size := by rw [hs.size]; exact hdt
  refine hs.slots rfl rfl (by simp [Act.put]) rfl (fun n => ?_)
  show Rel β w (lookZ (d :: ns) (x :: vs) n) _
  by_cases h : d = n
  · subst h
    rw [lookZ_cons_eq]
    rw [getD_put_eq hdt']; exact hr
  · rw [lookZ_cons_ne h, getD_put_ne (Ne.symm h)]
    exact hs.slot n

theorem Sim.drop {K : Ctx} {β : Book} {ns : List Nat} {vs : List AV} {obs : List (Option Ob)} {a : Act} {w : World} {d : Nat} {x : AV} (hd : d ∉ ns) (hs : Sim K β (mkSt (d :: ns) (x :: vs) obs) a w) : Sim K β (mkSt ns vs obs) a w := by
  refine hs.slots rfl rfl rfl rfl (fun n => ?_)
  show Rel β w (lookZ ns vs n) _
  by_cases h : d = n
  · subst h; rw [lookZ_none hd]; exact .junk
  · have := hs.slot n
    have e : (mkSt (d :: ns) (x :: vs) obs).fr n = lookZ ns vs n := lookZ_cons_ne h
    rw [e] at this
    exact this

theorem make_wp {K : Ctx} {β : Book} {ns : List Nat} {vs : List AV} {obs : List (Option Ob)} {a : Act} {w : World} {id t d1 d2 k e ty1 ty2 : Nat} {p1 p2 : String} {af1 af2 : Array Edge} {Q : Exit → Act → World → Prop} (hk : K.P.underlying k = some (.int .i64)) (he : K.P.underlying e = some .bool)
    (hd1 : d1 < K.nt) (hd2 : d2 < K.nt) (hn1 : d1 ∉ d2 :: ns) (hs : Sim K β (mkSt ns vs obs) a w)
    (hQ : ∀ a' w', a'.tmps.getD d2 undef = .map (some w.heap.size) → Sim K β (mkSt (d2 :: ns) (.mpc 0 (fun _ => false) :: vs) obs) a' w' → Q .normal a' w') :
    (Code.region id #[⟨some d1, .makeMap t none, ty1, p1, af1, none⟩, ⟨some d2, .assign (.tmp d1), ty2, p2, af2, none⟩] false).wp K.P Q a w := by
  refine wp_region ?_
  have hb : Below w.heap.size w (w.alloc (.map #[] 0)) := (Below.refl _ _).alloc (Nat.le_refl _) _
  have hrel : Rel β (w.alloc (.map #[] 0)) (.mpc 0 (fun _ => false)) (.map (some w.heap.size)) := .mpc ⟨fun h => by rw [hs.bF] at h; have := (hs.hF _ h).1; have := hs.hB; omega, fun id n h => by have := (hs.live id _ n true h).2; omega⟩
    ⟨K.P, k, e, .map [], hk, he, w.ownsMap_made K.P k _, fun x _ => rfl⟩
  have h1 : Sim K β (mkSt (d1 :: ns) (.mpc 0 (fun _ => false) :: vs) obs) (a.put (some d1) (.map (some w.heap.size))) (w.alloc (.map #[] 0)) := (hs.grow hb).put hd1 hrel
  have e1 : (a.put (some d1) (.map (some w.heap.size))).tmps.getD d1 undef = .map (some w.heap.size) := getD_put_eq (by rw [hs.size]; exact hd1)
  rw [List.mem_cons, not_or] at hn1
  have h2 := h1.put (x := .mpc 0 (fun _ => false)) hd2 hrel
  have h3 : Sim K β (mkSt (d2 :: ns) (.mpc 0 (fun _ => false) :: vs) obs) ((a.put (some d1) (.map (some w.heap.size))).put (some d2) (.map (some w.heap.size))) (w.alloc (.map #[] 0)) := by
    refine h2.slots rfl rfl rfl rfl (fun n => ?_)
    show Rel β _ (lookZ (d2 :: ns) _ n) _
    have g := h2.slot n
    by_cases hn : d2 = n
    · subst hn
      have ee : (mkSt (d2 :: d1 :: ns) (AV.mpc 0 (fun _ => false) :: AV.mpc 0 (fun _ => false) :: vs) obs).fr d2 = AV.mpc 0 (fun _ => false) := lookZ_cons_eq
      rw [ee] at g
      rw [lookZ_cons_eq]; exact g
    · rw [lookZ_cons_ne hn]
      by_cases hn' : d1 = n
      · subst hn'; rw [lookZ_none hn1.2]; exact .junk
      · have ee : (mkSt (d2 :: d1 :: ns) (AV.mpc 0 (fun _ => false) :: AV.mpc 0 (fun _ => false) :: vs) obs).fr n = lookZ ns vs n := (lookZ_cons_ne hn).trans (lookZ_cons_ne hn')
        rw [ee] at g; exact g
  have hlast : ((a.put (some d1) (.map (some w.heap.size))).put (some d2) (.map (some w.heap.size))).tmps.getD d2 undef = .map (some w.heap.size) := getD_put_eq (by rw [h1.size]; exact hd2)
  show wpOps K.P _ Q [0, 1] a w
  simp only [wpOps, List.getElem?_toArray, List.getElem?_cons_zero, List.getElem?_cons_succ, Region.wanted, if_true]
  refine .inl ?_
  unfold Oper.wp
  simp only [execOp, Sem.run_bind, Sem.run_pure, Oper.upon_value]
  refine .inl ?_
  simp only [Act.eval, e1]
  exact hQ _ _ hlast h3

theorem opsIn_shift {P : Program} {F : Fence} {n : Nat} {ops ops' : Array Oper} {m : Nat} {X : Act → World → Prop} {Q : Exit → Act → World → Prop} {rest : List Nat} (hops : ∀ i, i < m → ops'[i]? = ops[i + 1]?) (hg : ∀ i o, i < m → ops[i + 1]? = some o → o.guard = none)
    (hX : ∀ a w, X a w → wpOpsIn F n P ops Q rest a w) : ∀ (l : List Nat), (∀ i, i ∈ l → i < m) → ∀ (a : Act) (w : World), wpOpsIn F n P ops' (fun e a w => (e = .normal ∧ X a w)) l a w → wpOpsIn F n P ops Q (l.map (· + 1) ++ rest) a w := by
  intro l
  induction l with
  | nil => intro _ a w h; exact hX a w h.2
  | cons i l ih =>
    intro hl a w h
    have hi := hl i (List.mem_cons_self ..)
    rw [List.map_cons, List.cons_append]
    simp only [wpOpsIn] at h ⊢
    rw [hops i hi] at h
    cases ho : ops[i + 1]? with
    | none => simp only [ho] at h ⊢; exact ih (fun k hk => hl k (List.mem_cons_of_mem _ hk)) a w h
    | some o =>
      simp only [ho] at h ⊢
      have hw : ∀ ys, Region.wanted o ys = true := fun ys => by simp [Region.wanted, hg i o hi ho]
      simp only [hw, if_true] at h ⊢
      exact ⟨h.1, uponIn_in (fun _ _ _ h => by cases h.1) (fun ⟨_, _, h⟩ => by cases h.1) (fun a' w' h' => ih (fun k hk => hl k (List.mem_cons_of_mem _ hk)) a' w' h') _ h.2⟩

theorem Sim.turn {K : Ctx} {β : Book} {ns : List Nat} {vs : List AV} {obs : List (Option Ob)} {a : Act} {w w' : World} {b : Nat} (hs : Sim K β (mkSt ns vs obs) a w) (hnm : NMS (mkSt ns vs obs)) (hgl : NMG K.gl) (hB : K.B ≤ b) (hw0 : K.w0.heap.size ≤ b) (hg : w.grownBy w' (some b)) (hb : ∃ es z, w.heap[b]? = some (.map es z)) :
    Sim K β (mkSt ns vs obs) a w' := by
  obtain ⟨es, z, hb⟩ := hb
  have low : ∀ k, k < w.heap.size → k ≠ b → w'.heap[k]? = w.heap[k]? := fun k hk hne => hg.block k hk (fun e => hne (Option.some.inj e))
  have hsz := hs.kept.size
  refine hs.same (fun k cs el y hk => ?_) hg.size (.inr ⟨hnm, hgl⟩) ?_ rfl ?_
  · exact (low k (Array.getElem?_eq_some_iff.1 hk).1 (fun e => by subst e; rw [hb] at hk; cases hk)).trans hk
  · have hk2 : ∀ k, k < K.B → w'.heap[k]? = w.heap[k]? := fun k hk => low k (Nat.lt_of_lt_of_le hk hs.hB) (by omega)
    exact ⟨hg.os.trans hs.kept.os, hg.tape.trans hs.kept.tape, hg.output.trans hs.kept.output, Nat.le_trans hsz hg.size, fun k hk hG => (hk2 k hk).trans (hs.kept.block k hk hG), fun k hk => (shape_of_block (hk2 k hk)).trans (hs.kept.shape k hk),
      fun k o hk ho => by
        have hlt := (Array.getElem?_eq_some_iff.1 hk).1
        exact (low k (by omega) (by omega)).trans (hs.kept.othr k o hk ho)⟩
  · obtain ⟨Ds, h1, h2, h3, h4⟩ := hs.defers
    refine ⟨Ds, h1, h2, h3, fun D hD => ⟨(h4 D hD).1, (h4 D hD).2.1, ?_⟩⟩
    have := (h4 D hD).2.2
    exact (low D (Array.getElem?_eq_some_iff.1 this).1 (fun e => by subst e; rw [hb] at this; cases this)).trans this

theorem SetIn.put {P : Program} {w : World} {b n : Nat} {M : Int → Bool} {t k e : TypeId} {A : Int} (h : SetIn w b n M) (ht : P.underlying t = some (.map k e)) (hk : P.underlying k = some (.int .i64)) (he : P.underlying e = some .bool) (hn : n < maxLen) (hA : (Lit.int .i64 A).wf = true) :
    ∃ w', (Instr.mapUpdate t (.map (some b)) (.int .i64 A) (.bool true)).run P w = .ok () w' ∧ SetIn w' b (n + 1) (fun y => M y || decide (y = A)) ∧ w.grownBy w' (some b) := by
  obtain ⟨P', k', e', D, g1, g2, g3, g4⟩ := h
  have own := plain_any g1 g2 hk he g3
  obtain ⟨w', r1, r2, r3⟩ := own.update (Maps.int_keyed hk) ht hn (Maps.keyOf_int_mk hk hA) (plainElem_bool he true)
  refine ⟨w', r1, ⟨P, k, e, _, hk, he, r2, fun x hx => ?_⟩, r3⟩
  by_cases hxa : x = A
  · subst hxa
    rw [Maps.atKey_put_same (own.isMap) ((Maps.int_keyed hk).key (Maps.keyOf_int_mk hk hA))]
    simp
  · rw [Maps.atKey_put_other (fun e => hxa (by injection e)), g4 x hx]
    simp [hxa]

theorem upd_wp {K : Ctx} {own : FuncId → Option (List Bool)} {ng id : Nat} {ops mid : Array Oper} {β : Book} {a : Act} {w : World} {ns ns' : List Nat} {vs vs' : List AV} {obs obs' : List (Option Ob)} {d m0 x t k e ty ty' n b : Nat} {p p' : String} {af af' : Array Edge} {M : Int → Bool} {A : Int} {Q : Exit → Act → World → Prop}
    (hsz : ops.size = mid.size + 2) (h0 : ops[0]? = some ⟨some d, .move (.tmp m0), ty, p, af, none⟩) (hmid : ∀ i, i < mid.size → mid[i]? = ops[i + 1]?) (hgd : ∀ i o, i < mid.size → ops[i + 1]? = some o → o.guard = none)
    (hmu : ops[mid.size + 1]? = some ⟨none, .mapUpdate t (.tmp d) (.tmp x) (.const (.bool true)), ty', p', af', none⟩)
    (ht : K.P.underlying t = some (.map k e)) (hk : K.P.underlying k = some (.int .i64)) (he : K.P.underlying e = some .bool) (hpins : keepsOps [d, m0] mid = true) (hdm : d ≠ m0) (hdt : d < K.nt)
    (hr : Round K.P K.gl own ng K.nt (.region id mid false) (mkSt (d :: ns) (.mpc n M :: vs) obs) (mkSt (d :: x :: ns') (.mpc n M :: .int .i64 A :: vs') obs'))
    (hm : lookZ ns vs m0 = .mpc n M) (hA : -9223372036854775808 ≤ A ∧ A ≤ 9223372036854775807) (hn : n < maxLen) (hnm : NMS (mkSt ns' vs' obs')) (hgl : NMG K.gl) (hn1 : d ∉ x :: ns') (hn2 : x ∉ ns') (hxd : x ≠ d)
    (hng : ∀ id, ng ≤ id → K.b0 id = none) (hs : Sim K β (mkSt ns vs obs) a w) (hb : a.tmps.getD m0 undef = .map (some b)) (hB : K.B ≤ b) (hw0 : K.w0.heap.size ≤ b)
    (hQ : ∀ β' a' w', a'.tmps.getD m0 undef = .map (some b) → Sim K β' (mkSt (m0 :: ns') (.mpc (n + 1) (fun y => M y || decide (y = A)) :: vs') obs') a' w' → Q .normal a' w') :
    (Code.region id ops false).wp K.P Q a w := by
  refine wpIn_wide (n := 9).1 (wpIn_region ?_)
  have hl : List.range ops.size = 0 :: ((List.range mid.size).map (· + 1) ++ [mid.size + 1]) := by
    rw [hsz, List.range_succ_eq_map, List.range_succ, List.map_append]
    rfl
  rw [hl]
  have hrel0 : Rel β w (.mpc n M) (a.tmps.getD m0 undef) := by
    have := hs.slot m0
    have e : (mkSt ns vs obs).fr m0 = .mpc n M := hm
    rw [e] at this
    exact this
  have h1 := hs.put (x := .mpc n M) hdt hrel0
  simp only [wpOpsIn, h0]
  have hw : ∀ (o : Oper) ys, o.guard = none → Region.wanted o ys = true := fun o ys h => by simp [Region.wanted, h]
  rw [if_pos (hw _ _ rfl)]
  refine ⟨fun _ _ => trivial, ?_⟩
  rw [Oper.semAt_eq _ _ _ (fun c h => by cases h)]
  show wpOpsIn _ _ _ _ _ _ (a.put (some d) (a.tmps.getD m0 undef)) w
  refine opsIn_shift (X := fun a' w' => ((∃ β', Sim K β' (mkSt (d :: x :: ns') (.mpc n M :: .int .i64 A :: vs') obs') a' w') ∧ PinIn [d, m0] (a.put (some d) (a.tmps.getD m0 undef)) a')) (ops' := mid) (m := mid.size) hmid hgd ?_ _ (fun i hi => List.mem_range.1 hi) _ _ (Round.ops hr (.inl rfl) hpins hng h1)
  rintro a' w' ⟨⟨β', hs'⟩, hp⟩
  have hd' : a'.tmps.getD d undef = .map (some b) := by
    rw [hp d (List.mem_cons_self ..), getD_put_eq (by rw [hs.size]; exact hdt)]; exact hb
  have hm' : a'.tmps.getD m0 undef = .map (some b) := by
    rw [hp m0 (List.mem_cons_of_mem _ (List.mem_cons_self ..)), getD_put_ne (Ne.symm hdm)]; exact hb
  have hrd : Rel β' w' (.mpc n M) (.map (some b)) := by
    have := hs'.slot d
    have e : (mkSt (d :: x :: ns') (.mpc n M :: .int .i64 A :: vs') obs').fr d = .mpc n M := lookZ_cons_eq
    rw [e, hd'] at this
    exact this
  have hrx : a'.tmps.getD x undef = .int .i64 A := by
    have := hs'.slot x
    have e : (mkSt (d :: x :: ns') (.mpc n M :: .int .i64 A :: vs') obs').fr x = .int .i64 A := (lookZ_cons_ne (Ne.symm hxd)).trans lookZ_cons_eq
    rw [e] at this
    exact rel_int_inv this
  cases hrd with
  | mpc hfree hset =>
    obtain ⟨w2, hrun, hset2, hg⟩ := hset.put ht hk he hn ((Lit.wf_int_iff _ _).2 ⟨Int.le_trans (by decide) hA.1, Int.le_trans hA.2 (by decide)⟩)
    simp only [wpOpsIn, hmu]
    rw [if_pos (hw _ _ rfl)]
    refine ⟨fun _ _ => trivial, ?_⟩
    rw [Oper.semAt_eq _ _ _ (fun c h => by cases h)]
    have hsem : (execOp a'.eval ⟨none, .mapUpdate t (.tmp d) (.tmp x) (.const (.bool true)), ty', p', af', none⟩).run K.P w' = .ok .skip w2 := by
      simp [execOp, Act.eval, hd', hrx, hrun]
    rw [hsem]
    have hs2 : Sim K β' (mkSt ns' vs' obs') a' w2 := ((hs'.drop hn1).drop hn2).turn hnm hgl hB hw0 hg hset.map
    have hs3 : Sim K β' (mkSt (m0 :: ns') (.mpc (n + 1) (fun y => M y || decide (y = A)) :: vs') obs') a' w2 := by
      refine hs2.slots rfl rfl rfl rfl (fun q => ?_)
      show Rel β' w2 (lookZ (m0 :: ns') _ q) _
      by_cases hq : m0 = q
      · subst hq
        rw [lookZ_cons_eq, hm']
        exact .mpc hfree hset2
      · rw [lookZ_cons_ne hq]; exact hs2.slot q
    exact hQ β' a' w2 hm' hs3

theorem Round.wp {K : Ctx} {own : FuncId → Option (List Bool)} {ng : Nat} {c : Code} {s s' : ASt} {β : Book} {a : Act} {w : World} {pins : List Nat} {Q : Exit → Act → World → Prop} (hr : Round K.P K.gl own ng K.nt c s s') (hk : keepsC pins c = true) (hng : ∀ id, ng ≤ id → K.b0 id = none) (hm : K.P.follows .mixedOrders = true) (hs : Sim K β s a w)
    (hQ : ∀ β' a' w', Sim K β' s' a' w' → PinIn pins a a' → Q .normal a' w') : c.wp K.P Q a w := by
  refine wp_mono (wpIn_wide (n := 9).1 (Round.in (F := Fence.wide) hr (.inl rfl) hk hng hm hs)) ?_
  rintro e a' w' ⟨rfl, ⟨β', hs'⟩, hp⟩
  exact hQ β' a' w' hs' hp

theorem slot_bool {K : Ctx} {β : Book} {ns : List Nat} {vs : List AV} {obs : List (Option Ob)} {a : Act} {w : World} {t : Nat} {g : Bool} (hs : Sim K β (mkSt (t :: ns) (.bool g :: vs) obs) a w) : a.eval (.tmp t) = .bool g := by
  have := hs.slot t
  have e : (mkSt (t :: ns) (.bool g :: vs) obs).fr t = .bool g := lookZ_cons_eq
  rw [e] at this
  exact rel_bool_inv this

theorem ops_split {ops mid : Array Oper} {o0 mu : Oper} (h : ops.toList = o0 :: (mid.toList ++ [mu])) : ops.size = mid.size + 2 ∧ ops[0]? = some o0 ∧ (∀ i, i < mid.size → mid[i]? = ops[i + 1]?) ∧ ops[mid.size + 1]? = some mu := by
  have hg : ∀ i : Nat, ops[i]? = (o0 :: (mid.toList ++ [mu]))[i]? := fun i => by rw [← h, Array.getElem?_toList]
  refine ⟨?_, by rw [hg]; rfl, fun i hi => ?_, ?_⟩
  · have := congrArg List.length h
    simpa using this
  · rw [hg, List.getElem?_cons_succ, List.getElem?_append_left (by simpa using hi), Array.getElem?_toList]
  · rw [hg, List.getElem?_cons_succ, List.getElem?_append_right (by simp)]
    simp
theorem ops_guard {ops mid : Array Oper} (h : ∀ i, i < mid.size → mid[i]? = ops[i + 1]?) (hg : mid.toList.all (fun o => o.guard.isNone) = true) : ∀ i o, i < mid.size → ops[i + 1]? = some o → o.guard = none := fun i o hi ho => by
  have hm : o ∈ mid.toList := by
    rw [← h i hi, ← Array.getElem?_toList] at ho
    exact List.mem_of_getElem? ho
  have := List.all_eq_true.1 hg o hm
  simpa using this

theorem set_fn {P : Program} {gl : Globs} {own : FuncId → Option (List Bool)} {f : FuncId} {fn : Func} {args : List AV} {B g1 : Bool} {R0 R1 R2 R4 R5 R6 R7 R8 R10 R11 : Code} {ops9 mid : Array Oper}
    {t38 t44 t65 m0 d1 d x tm km em ty1 ty2 ty3 ty4 id3 id9 b0 b1 rs n : Nat} {p1 p2 p3 p4 : String} {af1 af2 af3 af4 : Array Edge} {ns nsL nsK : List Nat} {vs : List AV} {vsL vsK : Nat → List AV} {obs obsL : List (Option Ob)} {obsK : Nat → List (Option Ob)} {ok : Nat → Bool} {A : Nat → Int}
    (hf : P.funcs[f]? = some fn)
    (hb : fn.body = some (.seq R0 (.seq (.seq R1 (.cond (.tmp t38) (.seq R2 .ret) .skip)) (.seq (.region id3 #[⟨some d1, .makeMap tm none, ty1, p1, af1, none⟩, ⟨some m0, .assign (.tmp d1), ty2, p2, af2, none⟩] false)
      (.seq (.seq R4 (.block b0 (.loop (.seq R5 (.seq (.cond (.tmp t44) .skip (.exit b0)) (.seq (.block b1 (.seq R6 (.seq (.seq R7 (.cond (.tmp t65) (.seq R8 .ret) .skip)) (.region id9 ops9 false)))) R10)))))) (.seq R11 .ret))))))
    (hname : (fn.name == "runtime.NumGoroutine") = false) (hm : P.follows .mixedOrders = true) (hn : Nat.ble args.length fn.ntmps = true)
    (htm : P.underlying tm = some (.map km em)) (hkm : P.underlying km = some (.int .i64)) (hem : P.underlying em = some .bool) (hgl : NMG gl)
    (hd1 : d1 < fn.ntmps) (hm0 : m0 < fn.ntmps) (hd1n : d1 ∉ m0 :: ns) (hdt : d < fn.ntmps) (hdm : d ≠ m0)
    (hpins : (keepsC [m0] R4 && keepsC [m0] R5 && keepsC [m0] R6 && keepsC [m0] R7 && keepsC [m0] R10 && (keepsC [] R0 && keepsC [] R1 && keepsC [] R2 && keepsC [] R8 && keepsC [] R11)) = true)
    (h9l : ops9.toList = ⟨some d, .move (.tmp m0), ty3, p3, af3, none⟩ :: (mid.toList ++ [⟨none, .mapUpdate tm (.tmp d) (.tmp x) (.const (.bool true)), ty4, p4, af4, none⟩])) (h9n : mid.toList.all (fun o => o.guard.isNone) = true)
    (h9k : keepsOps [d, m0] mid = true)
    (hout : ∀ v, endOf P fn 0 false args (mkSt [rs] [.bool v] []) = some (.bool v, []))
    (s0 : ASt) (h0 : Round P gl own 0 fn.ntmps R0 (entry args []) s0)
    (h1 : Round P gl own 0 fn.ntmps R1 s0 (mkSt (t38 :: ns) (.bool g1 :: vs) obs)) (ht38 : t38 ∉ ns)
    (h2 : g1 = true → B = false ∧ Round P gl own 0 fn.ntmps R2 (mkSt (t38 :: ns) (.bool g1 :: vs) obs) (mkSt [rs] [.bool false] []))
    (h4 : g1 = false → Round P gl own 0 fn.ntmps R4 (mkSt (m0 :: ns) (.mpc 0 (fun _ => false) :: vs) obs) (mkSt (m0 :: nsL) (.mpc 0 (fun _ => false) :: vsL 0) obsL))
    (h5 : ∀ i M, g1 = false → i ≤ n → Round P gl own 0 fn.ntmps R5 (mkSt (m0 :: nsL) (.mpc i M :: vsL i) obsL) (mkSt (t44 :: m0 :: nsL) (.bool (decide (i < n)) :: .mpc i M :: vsL i) obsL)) (ht44 : t44 ∉ m0 :: nsL)
    (s6 : Nat → (Int → Bool) → ASt) (h6 : ∀ i M, g1 = false → i < n → Round P gl own 0 fn.ntmps R6 (mkSt (m0 :: nsL) (.mpc i M :: vsL i) obsL) (s6 i M))
    (h7 : ∀ i M, g1 = false → i < n → M = (fun y => (List.range i).any fun j => decide (y = A j)) → Round P gl own 0 fn.ntmps R7 (s6 i M) (mkSt (t65 :: m0 :: nsK) (.bool (!ok i) :: .mpc i M :: vsK i) (obsK i))) (ht65 : t65 ∉ m0 :: nsK)
    (h8 : ∀ i M, g1 = false → i < n → ok i = false → B = false ∧ Round P gl own 0 fn.ntmps R8 (mkSt (t65 :: m0 :: nsK) (.bool (!ok i) :: .mpc i M :: vsK i) (obsK i)) (mkSt [rs] [.bool false] []))
    (h9 : ∀ i M, g1 = false → i < n → ok i = true → Round P gl own 0 fn.ntmps (.region id9 mid false) (mkSt (d :: m0 :: nsK) (.mpc i M :: .mpc i M :: vsK i) (obsK i)) (mkSt (d :: x :: nsL) (.mpc i M :: .int .i64 (A i) :: vsL i) obsL))
    (hA : ∀ i, g1 = false → i < n → ok i = true → -9223372036854775808 ≤ A i ∧ A i ≤ 9223372036854775807) (hn' : n ≤ 1000000) (hnm : ∀ i, i < n → NMS (mkSt nsL (vsL i) obsL)) (hdx : d ∉ x :: nsL) (hx : x ∉ nsL) (hxd : x ≠ d)
    (h10 : ∀ i M, g1 = false → i < n → Round P gl own 0 fn.ntmps R10 (mkSt (m0 :: nsL) (.mpc (i + 1) M :: vsL i) obsL) (mkSt (m0 :: nsL) (.mpc (i + 1) M :: vsL (i + 1)) obsL))
    (h11 : ∀ M, g1 = false → (∀ i, i < n → ok i = true) → B = true ∧ Round P gl own 0 fn.ntmps R11 (mkSt (m0 :: nsL) (.mpc n M :: vsL n) obsL) (mkSt [rs] [.bool true] [])) : Pure P gl f args (.bool B) := by
  simp only [Bool.and_eq_true] at hpins
  obtain ⟨hsz, h90, h9m, h9u⟩ := ops_split h9l
  have h9g := ops_guard h9m h9n
  obtain ⟨⟨⟨⟨⟨k4, k5⟩, k6⟩, k7⟩, k10⟩, ⟨⟨⟨⟨k0, k1⟩, k2⟩, k8⟩, k11⟩⟩ := hpins
  refine gives_by (own := own) (hand := false) hf hb hname hn fun K β a w hP hgl' hnt hng hqt hKB hs => ?_
  subst hP; subst hgl'
  rw [← hnt] at hd1 hm0 hdt h0 h1 h2 h4 h5 h6 h7 h8 h9 h10 h11
  have fin : ∀ v, B = v → ∀ β a w, Sim K β (mkSt [rs] [.bool v] []) a w → Final K ⟨K.P, K.gl, fn.ntmps, own, ([] : List Ob).length⟩ (Back K.P fn ([] : List Ob).length false args (.bool B) []) .ret a w := fun v hv β a w hs =>
    ⟨β, _, .ret, rfl, hs, _, _, hout v, by rw [hv]; exact Ent.refl _, trivial⟩
  refine wp_seq (Round.wp (pins := []) h0 k0 hng hm hs fun β a w hs _ => ?_)
  refine wp_seq (wp_seq (Round.wp (pins := []) h1 k1 hng hm hs fun β a w hs _ => ?_))
  refine wp_cond_split (slot_bool hs) (fun hg => ?_) (fun hg => wp_skip ?_)
  · obtain ⟨hB, hr⟩ := h2 hg
    exact wp_seq (Round.wp (pins := []) hr k2 hng hm hs fun β a w hs _ => wp_ret (fin false hB β a w hs))
  have hs := hs.drop ht38
  have hbB := hs.hB
  have hbw := hs.kept.size
  generalize hbb : w.heap.size = b at hbB hbw
  refine wp_seq (make_wp hkm hem hd1 hm0 hd1n hs fun a2 w2 hmap2 hs2 => ?_)
  rw [hbb] at hmap2
  cases g1 with
  | true => cases hg
  | false =>
  refine wp_seq (wp_seq (Round.wp (pins := [m0]) (h4 rfl) k4 hng hm hs2 fun β a w hs hp => ?_))
  have hmap : a.tmps.getD m0 undef = .map (some b) := (hp m0 (List.mem_cons_self ..)).trans hmap2
  refine wp_block (wp_loop_ghost (fun q a w => ∃ i β, q = n - i ∧ i ≤ n ∧ Sim K β (mkSt (m0 :: nsL) (.mpc i (fun y => (List.range i).any fun j => decide (y = A j)) :: vsL i) obsL) a w ∧ a.tmps.getD m0 undef = .map (some b) ∧ ∀ j, j < i → ok j = true) n
    ⟨0, β, rfl, Nat.zero_le _, hs, hmap, fun j hj => absurd hj (Nat.not_lt_zero j)⟩ ?_)
  rintro q a w ⟨i, β, rfl, hi, hs, hmap, hok⟩
  refine wp_seq (Round.wp (pins := [m0]) (h5 i _ rfl hi) k5 hng hm hs fun β a w hs hp => ?_)
  have hmap : a.tmps.getD m0 undef = .map (some b) := (hp m0 (List.mem_cons_self ..)).trans hmap
  refine wp_seq (wp_cond_split (slot_bool hs) (fun hlt => wp_skip ?_) (fun hge => wp_exit ?_))
  · have hlt := of_decide_eq_true hlt
    have hs := hs.drop ht44
    refine wp_seq (wp_block (wp_seq (Round.wp (pins := [m0]) (h6 i _ rfl hlt) k6 hng hm hs fun β a w hs hp => ?_)))
    have hmap : a.tmps.getD m0 undef = .map (some b) := (hp m0 (List.mem_cons_self ..)).trans hmap
    refine wp_seq (wp_seq (Round.wp (pins := [m0]) (h7 i _ rfl hlt rfl) k7 hng hm hs fun β a w hs hp => ?_))
    have hmap : a.tmps.getD m0 undef = .map (some b) := (hp m0 (List.mem_cons_self ..)).trans hmap
    refine wp_cond_split (slot_bool hs) (fun h => ?_) (fun h => wp_skip ?_)
    · obtain ⟨hB, hr⟩ := h8 i _ rfl hlt (by simpa using h)
      exact wp_seq (Round.wp (pins := []) hr k8 hng hm hs fun β a w hs _ => wp_ret (fin false hB β a w hs))
    · have hoki : ok i = true := by simpa using h
      refine upd_wp (Q := _) hsz h90 h9m h9g h9u htm hkm hem h9k hdm hdt (h9 i _ rfl hlt hoki) lookZ_cons_eq (hA i rfl hlt hoki) (Nat.lt_of_le_of_lt (by omega : i ≤ 1000000) (by decide)) (hnm i hlt) hgl hdx hx hxd hng (hs.drop ht65) hmap hbB (by omega) (fun β a w hmap hs => ?_)
      refine Round.wp (pins := [m0]) (h10 i _ rfl hlt) k10 hng hm hs (fun β a w hs hp => ⟨n - (i + 1), by omega, i + 1, β, rfl, hlt, ?_, (hp m0 (List.mem_cons_self ..)).trans hmap, fun j hj => ?_⟩)
      · have e : (fun y => (List.range (i + 1)).any fun j => decide (y = A j)) = fun y => ((List.range i).any fun j => decide (y = A j)) || decide (y = A i) := funext fun y => by simp [List.range_succ]
        rw [e]; exact hs
      · rcases Nat.lt_succ_iff_lt_or_eq.1 hj with hj | rfl
        · exact hok j hj
        · exact hoki
  · have hge := of_decide_eq_false hge
    obtain rfl : i = n := by omega
    obtain ⟨hB, hr⟩ := h11 _ rfl hok
    show Exit.inBlock b0 _ (.exit b0) a w
    simp only [Exit.inBlock, if_true]
    exact wp_seq (Round.wp (pins := []) hr k11 hng hm (hs.drop ht44) fun β a w hs _ => wp_ret (fin true hB β a w hs))
end Go.Am

namespace Go.Proofs.YtdaaddkipdmajaaGreatDoor
open Go Go.Am Go.Sp
set_option maxRecDepth 100000

theorem cnonzero_c (b : Bas) (x : Int) : Pure Tryz.prog gl0 131 [b.av, .int .i64 x] (.bool (nzB b x)) := by
  refine pure_sk (own := ow0) Tryz.func131 (by kernel_rfl) mixed (by kernel_rfl)
    (.out (AV.bool (decide (x ≥ 1) && decide (x < (Bas.gr b).2))) [] (AV.bool (nzB b x)) [])
    (by kernel_rfl) ?_
  exact k_out (Ent.refl _)

theorem cscalar_c (b : Bas) (x : Int) : Pure Tryz.prog gl0 134 [b.av, .int .i64 x] (.bool (scaB b.gr x)) := by
  refine pure_sk (own := ow0) Tryz.func134 (by kernel_rfl) mixed (by kernel_rfl)
    (.out (AV.bool (decide (x ≥ 0) && decide (x < (Bas.gr b).2))) [] (AV.bool (scaB (Bas.gr b) x)) [])
    (by kernel_rfl) ?_
  exact k_out (Ent.refl _)

theorem cmessage_c (b : Bas) (u : Int) (hw : b.gr.W) (hv : validB b = true) : Pure Tryz.prog gl0 132 [b.av, .int .i64 u] (.int .i64 (msgJ b u)) := by
  have c1 := product2_l b u 1 hw hv
  refine pure_sk (own := ow0) Tryz.func132 (by kernel_rfl) mixed (by kernel_rfl)
    (.sc (true) 196 ([AV.agg [Zi (Bas.gr b).1, Zi (Bas.gr b).2, Zi (Bas.gr b).3], AV.isl 1 2 fun (r k : Nat) => atL (List.getD [[Zi b.2], [Zi b.3]] (r + 0) []) k, AV.isl 1 2 fun (r k : Nat) => atL (List.getD [[Zi u], [Zi 1]] (r + 0) []) k]) (AV.tup [Zi (pr2V b u (1 : Int)), Zi (pr2E b u (1 : Int))]) (.out (Zi (pr2V b u (1 : Int))) [] (Zi (msgJ b u)) []))
    (by kernel_rfl) ?_
  refine k_sc (c1) ?_
  exact k_out (Ent.refl _)

theorem product2_a (b : Bas) (x y : Int) (hw : b.gr.W) (hv : validB b = true) : Pure Tryz.prog gl0 196 [b.gr.av, .isl 1 2 fun r k => atL (List.getD [[.int .i64 b.g1], [.int .i64 b.g2]] (r + 0) []) k, .isl 1 2 fun r _ => .int .i64 (intOfAV (atL [.int .i64 x, .int .i64 y] (0 + (0 + r))))] (.tup [.int .i64 (pr2V b x y), .int .i64 (pr2E b x y)]) :=
  (product2_c b x y hw hv).via ⟨Ent.refl _, sel_isl, Ent.isl (fun i j hi hj => by obtain rfl : j = 0 := Nat.lt_one_iff.1 hj
                                                                                  match i, hi with | 0, _ | 1, _ => rfl), trivial⟩

theorem cleaf_c (b : Bas) (x y : Int) (hw : b.gr.W) (hv : validB b = true) : Pure Tryz.prog gl0 135 [b.av, .agg [.int .i64 x, .int .i64 y]] (.int .i64 (pr2V b x y)) := by
  have c1 := product2_a b x y hw hv
  refine pure_sk (own := ow0) Tryz.func135 (by kernel_rfl) mixed (by kernel_rfl)
    (.sc (true) 196 ([AV.agg [Zi (Bas.gr b).1, Zi (Bas.gr b).2, Zi (Bas.gr b).3], AV.isl 1 2 fun (r k : Nat) => atL (List.getD [[Zi b.2], [Zi b.3]] (r + 0) []) k, AV.isl 1 2 fun (r x_1 : Nat) => Zi (intOfAV (atL [Zi x, Zi y] (0 + (0 + r))))]) (AV.tup [Zi (pr2V b x y), Zi (pr2E b x y)]) (.out (Zi (pr2V b x y)) [] (Zi (pr2V b x y)) []))
    (by kernel_rfl) ?_
  refine k_sc (c1) ?_
  exact k_out (Ent.refl _)

noncomputable def vsC : Code := Tryz.f53.body.getD .skip
def cT : Code → Code | .cond _ a _ => a | c => c
noncomputable def vs4 : Code := cR (cR (cR vsC))
noncomputable def vsL : Code := cI (cI (cR (cL vs4)))
noncomputable def vsB : Code := cR (cI (cL (cR (cR vsL))))
noncomputable def vsM : Array Oper := ((cO (cR vsB)).toList.drop 1).dropLast.toArray

theorem vs_0 (b : Bas) (u s : Int) (X : Nat → Nat → Int) (n : Nat) : Round Tryz.prog gl0 ow0 0 71 (cL vsC) (entry [b.av, secA u s X n] []) (mkSt [2, 3] [.own 0 6 0 0 6, .own 1 3 0 0 3] [some ⟨6, 1, true, .lst [b.cells]⟩, some ⟨3, 1, true, .lst [[.int .i64 u, .int .i64 s, .isl 2 n fun i j => .int .i64 (X i j)]]⟩]) := by
  refine round_sk (own := ow0)
    (let y0 : List (Option Ob) := [some ⟨6, 1, true, Rep.lst [Bas.cells b]⟩, some ⟨3, 1, true, Rep.lst [[Zi u, Zi s, AV.isl 2 n fun (i j : Nat) => Zi (X i j)]]⟩]; (.again (fun (u_1 : ASt) => Le 0 u_1 (mkSt [2, 3] [AV.own 0 6 0 0 6, AV.own 1 3 0 0 3] y0)) ([2, 3]) ([0, 8]) ([AV.own 0 6 0 0 6, AV.own 1 3 0 0 3]) (y0)))
    (by kernel_rfl) ?_
  exact k_againR (fun _ hs => hs.le (⟨.refl _, .refl _, trivial⟩) (⟨.refl _, .refl _, trivial⟩))

theorem vs_1 (b : Bas) (u s : Int) (X : Nat → Nat → Int) (n : Nat) (hw : b.gr.W) : Round Tryz.prog gl0 ow0 0 71 (cL (cL (cR vsC))) (mkSt [2, 3] [.own 0 6 0 0 6, .own 1 3 0 0 3] [some ⟨6, 1, true, .lst [b.cells]⟩, some ⟨3, 1, true, .lst [[.int .i64 u, .int .i64 s, .isl 2 n fun i j => .int .i64 (X i j)]]⟩]) (mkSt [38, 2, 3] [.bool (!secH b u s n), .own 0 6 0 0 6, .own 1 3 0 0 3] [some ⟨6, 1, true, .lst [b.cells]⟩, some ⟨3, 1, true, .lst [[.int .i64 u, .int .i64 s, .isl 2 n fun i j => .int .i64 (X i j)]]⟩]) := by
  have c1 := bvalid_c b hw
  have c2 := cnonzero_c b
  have c3 := fun hv => cmessage_c b u hw hv
  have c4 := leaves_c n
  refine round_sk (own := ow0)
    (let y0 : List (Option Ob) := [some ⟨6, 1, true, Rep.lst [Bas.cells b]⟩, some ⟨3, 1, true, Rep.lst [[Zi u, Zi s, AV.isl 2 n fun (i j : Nat) => Zi (X i j)]]⟩]; (.sc (true) 52 ([AV.agg (Bas.cells b)]) (AV.bool (validB b)) (.sc ((!validB b) == false) 131 ([AV.agg (Bas.cells b), Zi u]) (AV.bool (nzB b u)) (.sc ((!validB b || !nzB b u) == false) 131 ([AV.agg (Bas.cells b), Zi s]) (AV.bool (nzB b s)) (.sc ((!validB b || !nzB b u || !nzB b s) == false) 132 ([AV.agg (Bas.cells b), Zi u]) (Zi (msgJ b u)) (.sc ((!validB b || !nzB b u || !nzB b s || msgJ b u == 1) == false) 133 ([Zi (↑n : Int)]) (AV.bool (lvB (↑n : Int))) (.again (fun (u_1 : ASt) => Le 0 u_1 (mkSt [38, 2, 3] [AV.bool !secH b u s n, AV.own 0 6 0 0 6, AV.own 1 3 0 0 3] y0)) ([38, 2, 3]) ([0, 1]) ([AV.bool (!validB b || !nzB b u || !nzB b s || msgJ b u == 1 || !lvB (↑n : Int)), AV.own 0 6 0 0 6, AV.own 1 3 0 0 3]) (y0))))))))
    (by kernel_rfl) ?_
  refine k_sc (c1) ?_
  refine k_scg (fun h1 => c2 (u)) ?_
  refine k_scg (fun h2 => c2 (s)) ?_
  refine k_scg (fun h3 => c3 (by (simp at h3; exact h3.1.1))) ?_
  refine k_scg (fun h4 => c4) ?_
  exact k_againR (fun _ hs => hs.le (⟨Ent.of_eq (congrArg _ secH_n), Ent.refl _, Ent.refl _, trivial⟩) (⟨.refl _, .refl _, trivial⟩))

theorem vs_4 (b : Bas) (u s : Int) (X : Nat → Nat → Int) (n : Nat) : Round Tryz.prog gl0 ow0 0 71 (cL (cL vs4)) (mkSt [5, 2, 3] [.mpc 0 (fun _ => false), .own 0 6 0 0 6, .own 1 3 0 0 3] [some ⟨6, 1, true, .lst [b.cells]⟩, some ⟨3, 1, true, .lst [[.int .i64 u, .int .i64 s, .isl 2 n fun i j => .int .i64 (X i j)]]⟩]) (mkSt [5, 2, 41, 42, 43] [.mpc 0 (fun _ => false), .own 0 6 0 0 6, .isl 2 n fun i j => .int .i64 (X i j), .int .i64 n, .int .i64 (0 : Nat)] [some ⟨6, 1, true, .lst [b.cells]⟩]) := by
  refine round_sk (own := ow0)
    (.again (fun (u : ASt) => Le 0 u (mkSt [5, 2, 41, 42, 43] [AV.mpc 0 fun (x : Int) => false, AV.own 0 6 0 0 6, AV.isl 2 n fun (i j : Nat) => Zi (X i j), Zi (↑n : Int), Zi (↑(0 : Nat) : Int)] [some ⟨6, 1, true, Rep.lst [Bas.cells b]⟩])) ([5, 2, 41, 42, 43]) ([0]) ([AV.mpc 0 fun (x : Int) => false, AV.own 0 6 0 0 6, AV.isl 2 n fun (i j : Nat) => Zi (X i j), Zi (↑n : Int), Zi 0]) ([some ⟨6, 1, true, Rep.lst [Bas.cells b]⟩]))
    (by kernel_rfl) ?_
  exact k_againR (fun _ hs => hs.le (⟨.refl _, .refl _, .refl _, .refl _, .refl _, trivial⟩) (⟨.refl _, trivial⟩))

theorem vs_5 (b : Bas) (u s : Int) (X : Nat → Nat → Int) (n i : Nat) (M : Int → Bool) : Round Tryz.prog gl0 ow0 0 71 (cL vsL) (mkSt [5, 2, 41, 42, 43] [.mpc i M, .own 0 6 0 0 6, .isl 2 n fun i j => .int .i64 (X i j), .int .i64 n, .int .i64 i] [some ⟨6, 1, true, .lst [b.cells]⟩]) (mkSt [44, 5, 2, 41, 42, 43] [.bool (decide (i < n)), .mpc i M, .own 0 6 0 0 6, .isl 2 n fun i j => .int .i64 (X i j), .int .i64 n, .int .i64 i] [some ⟨6, 1, true, .lst [b.cells]⟩]) := by
  refine round_sk (own := ow0)
    (.again (fun (u : ASt) => Le 0 u (mkSt [44, 5, 2, 41, 42, 43] [AV.bool (decide (i < n)), AV.mpc i M, AV.own 0 6 0 0 6, AV.isl 2 n fun (i j : Nat) => Zi (X i j), Zi (↑n : Int), Zi (↑i : Int)] [some ⟨6, 1, true, Rep.lst [Bas.cells b]⟩])) ([44, 5, 2, 41, 42, 43]) ([0]) ([AV.bool (decide ((↑i : Int) < (↑n : Int))), AV.mpc i M, AV.own 0 6 0 0 6, AV.isl 2 n fun (i j : Nat) => Zi (X i j), Zi (↑n : Int), Zi (↑i : Int)]) ([some ⟨6, 1, true, Rep.lst [Bas.cells b]⟩]))
    (by kernel_rfl) ?_
  exact k_againR (fun _ hs => hs.le (⟨Ent.of_eq (congrArg _ (decide_eq_decide.2 (by omega))), Ent.refl _, Ent.refl _, Ent.refl _, Ent.refl _, Ent.refl _, trivial⟩) (⟨.refl _, trivial⟩))

theorem vs_6 (b : Bas) (u s : Int) (X : Nat → Nat → Int) (n i : Nat) (M : Int → Bool) (hi : i < n) : Round Tryz.prog gl0 ow0 0 71 (cL (cI (cL (cR (cR vsL))))) (mkSt [5, 2, 41, 42, 43] [.mpc i M, .own 0 6 0 0 6, .isl 2 n fun i j => .int .i64 (X i j), .int .i64 n, .int .i64 i] [some ⟨6, 1, true, .lst [b.cells]⟩]) (mkSt [5, 2, 41, 42, 43, 7] [.mpc i M, .own 0 6 0 0 6, .isl 2 n fun i j => .int .i64 (X i j), .int .i64 n, .int .i64 i, .own 1 2 0 0 2] [some ⟨6, 1, true, .lst [b.cells]⟩, some ⟨2, 1, true, .lst [[.int .i64 (X i 0), .int .i64 (X i 1)]]⟩]) := by
  refine round_sk (own := ow0)
    (.req ((0 : Int) ≤ (↑i : Int) ∧ (↑i : Int) < (↑n : Int)) (.again (fun (u : ASt) => Le 0 u (mkSt [5, 2, 41, 42, 43, 7] [AV.mpc i M, AV.own 0 6 0 0 6, AV.isl 2 n fun (i j : Nat) => Zi (X i j), Zi (↑n : Int), Zi (↑i : Int), AV.own 1 2 0 0 2] [some ⟨6, 1, true, Rep.lst [Bas.cells b]⟩, some ⟨2, 1, true, Rep.lst [[Zi (X i 0), Zi (X i 1)]]⟩])) ([5, 2, 41, 42, 43, 7]) ([0, 17]) ([AV.mpc i M, AV.own 0 6 0 0 6, AV.isl 2 n fun (i j : Nat) => Zi (X i j), Zi (↑n : Int), Zi (↑i : Int), AV.own 1 2 0 0 2]) ([some ⟨6, 1, true, Rep.lst [Bas.cells b]⟩, some ⟨2, 1, true, Rep.lst [[Zi (X (Int.toNat (↑i : Int)) 0), Zi (X (Int.toNat (↑i : Int)) 1)]]⟩])))
    (by kernel_rfl) ?_
  refine k_req (by omega) ?_
  exact k_againR (fun _ hs => hs.le (⟨.refl _, .refl _, .refl _, .refl _, .refl _, .refl _, trivial⟩) (⟨.refl _, .refl _, trivial⟩))

theorem vs_7 (b : Bas) (u s : Int) (X : Nat → Nat → Int) (n i : Nat) (hw : b.gr.W) (hv : validB b = true) : Round Tryz.prog gl0 ow0 0 71 (cL (cL vsB)) (mkSt [5, 2, 41, 42, 43, 7] [.mpc i (fun y => (List.range i).any fun j => decide (y = lfJ b X j)), .own 0 6 0 0 6, .isl 2 n fun i j => .int .i64 (X i j), .int .i64 n, .int .i64 i, .own 1 2 0 0 2] [some ⟨6, 1, true, .lst [b.cells]⟩, some ⟨2, 1, true, .lst [[.int .i64 (X i 0), .int .i64 (X i 1)]]⟩]) (mkSt [65, 5, 2, 41, 42, 43, 7] [.bool (!(pairB b X i && !seenB b X i)), .mpc i (fun y => (List.range i).any fun j => decide (y = lfJ b X j)), .own 0 6 0 0 6, .isl 2 n fun i j => .int .i64 (X i j), .int .i64 n, .int .i64 i, .own 1 2 0 0 2] [some ⟨6, 1, true, .lst [b.cells]⟩, some ⟨2, 1, true, .lst [[.int .i64 (X i 0), .int .i64 (X i 1)]]⟩]) := by
  have c1 := cscalar_c b
  have c2 := cleaf_c b (X i 0) (X i 1) hw hv
  refine round_sk (own := ow0)
    (.req ((0 : Int) ≤ 0 ∧ (0 : Int) < (↑(2) : Int)) (.sc (true) 134 ([AV.agg (Bas.cells b), Zi (X i 0)]) (AV.bool (scaB (Bas.gr b) (X i 0))) (.req (((!scaB b.1 (X i 0)) == false) = true → (0 : Int) ≤ 1 ∧ (1 : Int) < (↑(2) : Int)) (.sc ((!scaB b.1 (X i 0)) == false) 134 ([AV.agg (Bas.cells b), Zi (X i 1)]) (AV.bool (scaB (Bas.gr b) (X i 1))) (.sc ((!scaB b.1 (X i 0) || !scaB b.1 (X i 1)) == false) 135 ([AV.agg (Bas.cells b), AV.agg [Zi (X i 0), Zi (X i 1)]]) (Zi (pr2V b (X i 0) (X i 1))) (.req (((!scaB b.1 (X i 0) || !scaB b.1 (X i 1)) == false) = true → (-9223372036854775808 : Int) ≤ pr2V b (X i 0) (X i 1) ∧ pr2V b (X i 0) (X i 1) ≤ 9223372036854775807) (.again (fun (u : ASt) => Le 0 u (mkSt [65, 5, 2, 41, 42, 43, 7] [AV.bool !(pairB b X i && !seenB b X i), AV.mpc i fun (y : Int) => List.any (List.range i) fun (j : Nat) => decide (y = lfJ b X j), AV.own 0 6 0 0 6, AV.isl 2 n fun (i j : Nat) => Zi (X i j), Zi (↑n : Int), Zi (↑i : Int), AV.own 1 2 0 0 2] [some ⟨6, 1, true, Rep.lst [Bas.cells b]⟩, some ⟨2, 1, true, Rep.lst [[Zi (X i 0), Zi (X i 1)]]⟩])) ([65, 5, 2, 41, 42, 43, 7]) ([0, 1]) ([AV.bool (!scaB b.1 (X i 0) || !scaB b.1 (X i 1) || List.any (List.range.loop i []) fun (j : Nat) => decide (pr2V b (X i 0) (X i 1) = lfJ b X j)), AV.mpc i fun (y : Int) => List.any (List.range.loop i []) fun (j : Nat) => decide (y = lfJ b X j), AV.own 0 6 0 0 6, AV.isl 2 n fun (i j : Nat) => Zi (X i j), Zi (↑n : Int), Zi (↑i : Int), AV.own 1 2 0 0 2]) ([some ⟨6, 1, true, Rep.lst [Bas.cells b]⟩, some ⟨2, 1, true, Rep.lst [[Zi (X i 0), Zi (X i 1)]]⟩]))))))))
    (by kernel_rfl) ?_
  refine k_req (by omega) ?_
  refine k_sc (c1 (X i (0))) ?_
  refine k_req (by omega) ?_
  refine k_scg (fun h3 => c1 (X i (1))) ?_
  refine k_scg (fun h4 => c2) ?_
  refine k_req (by (intro _; have := pr2_bnd (b := b) (x := X i 0) (y := X i 1) hv; have := hw.p; omega)) ?_
  exact k_againR (fun _ hs => hs.le (⟨Ent.of_eq (congrArg _ seen_n), Ent.refl _, Ent.refl _, Ent.refl _, Ent.refl _, Ent.refl _, Ent.refl _, trivial⟩) (⟨.refl _, .refl _, trivial⟩))

theorem vs_9 (b : Bas) (u s : Int) (X : Nat → Nat → Int) (n i : Nat) (M : Int → Bool) (hw : b.gr.W) (hv : validB b = true) : Round Tryz.prog gl0 ow0 0 71 (.region 9 vsM false) (mkSt [66, 5, 2, 41, 42, 43, 7] [.mpc i M, .mpc i M, .own 0 6 0 0 6, .isl 2 n fun i j => .int .i64 (X i j), .int .i64 n, .int .i64 i, .own 1 2 0 0 2] [some ⟨6, 1, true, .lst [b.cells]⟩, some ⟨2, 1, true, .lst [[.int .i64 (X i 0), .int .i64 (X i 1)]]⟩]) (mkSt [66, 69, 2, 41, 42, 43] [.mpc i M, .int .i64 (lfJ b X i), .own 0 6 0 0 6, .isl 2 n fun i j => .int .i64 (X i j), .int .i64 n, .int .i64 i] [some ⟨6, 1, true, .lst [b.cells]⟩]) := by
  have c2 := cleaf_c b (X i 0) (X i 1) hw hv
  refine round_sk (own := ow0)
    (.sc (true) 135 ([AV.agg (Bas.cells b), AV.agg [Zi (X i 0), Zi (X i 1)]]) (Zi (pr2V b (X i 0) (X i 1))) (.again (fun (u : ASt) => Le 0 u (mkSt [66, 69, 2, 41, 42, 43] [AV.mpc i M, Zi (lfJ b X i), AV.own 0 6 0 0 6, AV.isl 2 n fun (i j : Nat) => Zi (X i j), Zi (↑n : Int), Zi (↑i : Int)] [some ⟨6, 1, true, Rep.lst [Bas.cells b]⟩])) ([66, 69, 2, 41, 42, 43]) ([0]) ([AV.mpc i M, Zi (pr2V b (X i 0) (X i 1)), AV.own 0 6 0 0 6, AV.isl 2 n fun (i j : Nat) => Zi (X i j), Zi (↑n : Int), Zi (↑i : Int)]) ([some ⟨6, 1, true, Rep.lst [Bas.cells b]⟩])))
    (by kernel_rfl) ?_
  refine k_sc (c2) ?_
  exact k_againR (fun _ hs => hs.le (⟨.refl _, .refl _, .refl _, .refl _, .refl _, .refl _, trivial⟩) (⟨.refl _, trivial⟩))

theorem vs_10 (b : Bas) (u s : Int) (X : Nat → Nat → Int) (n i : Nat) (M : Int → Bool) (hi : i < n) (hn : n ≤ 1000) : Round Tryz.prog gl0 ow0 0 71 (cR (cR (cR vsL))) (mkSt [5, 2, 41, 42, 43] [.mpc (i + 1) M, .own 0 6 0 0 6, .isl 2 n fun i j => .int .i64 (X i j), .int .i64 n, .int .i64 i] [some ⟨6, 1, true, .lst [b.cells]⟩]) (mkSt [5, 2, 41, 42, 43] [.mpc (i + 1) M, .own 0 6 0 0 6, .isl 2 n fun i j => .int .i64 (X i j), .int .i64 n, .int .i64 (i + 1 : Nat)] [some ⟨6, 1, true, .lst [b.cells]⟩]) := by
  refine round_sk (own := ow0)
    (.again (fun (u : ASt) => Le 0 u (mkSt [5, 2, 41, 42, 43] [AV.mpc (i + 1) M, AV.own 0 6 0 0 6, AV.isl 2 n fun (i j : Nat) => Zi (X i j), Zi (↑n : Int), Zi (↑(i + 1) : Int)] [some ⟨6, 1, true, Rep.lst [Bas.cells b]⟩])) ([5, 2, 41, 42, 43]) ([0]) ([AV.mpc (i + 1) M, AV.own 0 6 0 0 6, AV.isl 2 n fun (i j : Nat) => Zi (X i j), Zi (↑n : Int), Zi (IntKind.wrap IntKind.i64 ((↑i : Int) + 1))]) ([some ⟨6, 1, true, Rep.lst [Bas.cells b]⟩]))
    (by kernel_rfl) ?_
  exact k_againR (fun _ hs => hs.le (⟨.refl _, .refl _, .refl _, .refl _, inc_ent (by omega), trivial⟩) (⟨.refl _, trivial⟩))

theorem vs_2 (s : ASt) : Round Tryz.prog gl0 ow0 0 71 (cL (cT (cR (cL (cR vsC))))) s (mkSt [4] [.bool false] []) := by
  refine round_sk (own := ow0)
    (.again (fun (u : ASt) => Le 0 u (mkSt [4] [AV.bool false] [])) ([4]) ([]) ([AV.bool false]) ([]))
    (by kernel_rfl) ?_
  exact k_againR (fun _ hs => hs.le (⟨.refl _, trivial⟩) (trivial))

theorem vs_8 (s : ASt) : Round Tryz.prog gl0 ow0 0 71 (cL (cT (cR (cL vsB)))) s (mkSt [4] [.bool false] []) := by
  refine round_sk (own := ow0)
    (.again (fun (u : ASt) => Le 0 u (mkSt [4] [AV.bool false] [])) ([4]) ([]) ([AV.bool false]) ([]))
    (by kernel_rfl) ?_
  exact k_againR (fun _ hs => hs.le (⟨.refl _, trivial⟩) (trivial))

theorem vs_11 (s : ASt) : Round Tryz.prog gl0 ow0 0 71 (cL (cR vs4)) s (mkSt [4] [.bool true] []) := by
  refine round_sk (own := ow0)
    (.again (fun (u : ASt) => Le 0 u (mkSt [4] [AV.bool true] [])) ([4]) ([]) ([AV.bool true]) ([]))
    (by kernel_rfl) ?_
  exact k_againR (fun _ hs => hs.le (⟨.refl _, trivial⟩) (trivial))


noncomputable def vs3 : Array Oper := cO (cL (cR (cR vsC)))
noncomputable def vs9 : Array Oper := cO (cR vsB)
def mkT : Option Oper → TypeId | some ⟨_, .makeMap t _, _, _, _, _⟩ => t | _ => 0
def mpK : Option TypeDesc → TypeId | some (.map k _) => k | _ => 0
def mpE : Option TypeDesc → TypeId | some (.map _ e) => e | _ => 0
def opT : Option Oper → TypeId | some o => o.type | _ => 0
def opP : Option Oper → String | some o => o.pos | _ => ""
def opA : Option Oper → Array Edge | some o => o.after | _ => #[]
noncomputable def vsT : TypeId := mkT vs3[0]?

theorem bas_nm (b : Bas) : NML b.cells := by
  unfold Bas.cells Grp.cells
  exact ⟨.int, .int, .int, .int, .int, .int, trivial⟩

theorem vsecret_c (b : Bas) (u s : Int) (X : Nat → Nat → Int) (n : Nat) (hw : b.gr.W) (hn : n ≤ 1000) : Pure Tryz.prog gl0 53 [b.av, secA u s X n] (.bool (secB b u s X n)) := by
  refine set_fn (own := ow0) (R0 := cL vsC) (R1 := cL (cL (cR vsC))) (R2 := cL (cT (cR (cL (cR vsC))))) (R4 := cL (cL vs4)) (R5 := cL vsL) (R6 := cL (cI (cL (cR (cR vsL))))) (R7 := cL (cL vsB)) (R8 := cL (cT (cR (cL vsB)))) (R10 := cR (cR (cR vsL))) (R11 := cL (cR vs4)) (ops9 := vs9) (mid := vsM)
    (t38 := 38) (t44 := 44) (t65 := 65) (m0 := 5) (d1 := 39) (d := 66) (x := 69) (tm := vsT) (km := mpK (Tryz.prog.underlying vsT)) (em := mpE (Tryz.prog.underlying vsT)) (ty1 := opT vs3[0]?) (ty2 := opT vs3[1]?) (ty3 := opT vs9[0]?) (ty4 := opT vs9[4]?) (id3 := 3) (id9 := 9) (b0 := 0) (b1 := 1) (rs := 4) (n := n)
    (p1 := opP vs3[0]?) (p2 := opP vs3[1]?) (p3 := opP vs9[0]?) (p4 := opP vs9[4]?) (af1 := opA vs3[0]?) (af2 := opA vs3[1]?) (af3 := opA vs9[0]?) (af4 := opA vs9[4]?)
    (ns := [2, 3]) (nsL := [2, 41, 42, 43]) (nsK := [2, 41, 42, 43, 7]) (vs := [.own 0 6 0 0 6, .own 1 3 0 0 3]) (vsL := fun i => [.own 0 6 0 0 6, .isl 2 n fun i j => .int .i64 (X i j), .int .i64 n, .int .i64 i]) (vsK := fun i => [.own 0 6 0 0 6, .isl 2 n fun i j => .int .i64 (X i j), .int .i64 n, .int .i64 i, .own 1 2 0 0 2])
    (obs := [some ⟨6, 1, true, .lst [b.cells]⟩, some ⟨3, 1, true, .lst [[.int .i64 u, .int .i64 s, .isl 2 n fun i j => .int .i64 (X i j)]]⟩]) (obsL := [some ⟨6, 1, true, .lst [b.cells]⟩]) (obsK := fun i => [some ⟨6, 1, true, .lst [b.cells]⟩, some ⟨2, 1, true, .lst [[.int .i64 (X i 0), .int .i64 (X i 1)]]⟩])
    (ok := fun i => pairB b X i && !seenB b X i) (A := lfJ b X) (g1 := !secH b u s n)
    Tryz.func53 (by kernel_rfl) (by kernel_rfl) mixed (by kernel_rfl) (by kernel_rfl) (by kernel_rfl) (by kernel_rfl) gl0_nm (by decide) (by decide) (by decide) (by decide) (by decide) (by kernel_rfl) (by kernel_rfl) (by kernel_rfl) (by kernel_rfl) (fun v => by kernel_rfl)
    _ (vs_0 b u s X n) (vs_1 b u s X n hw) (by decide) (fun h => ⟨?_, vs_2 _⟩) (fun _ => vs_4 b u s X n) (fun i M _ _ => vs_5 b u s X n i M) (by decide) _ (fun i M _ hi => vs_6 b u s X n i M hi) (fun i M h0 hi hM => ?_) (by decide) (fun i M _ hi h => ⟨secB_f hi h, vs_8 _⟩)
    (fun i M h0 hi _ => vs_9 b u s X n i M hw (secH_all (by simpa using h0)).1) (fun i h0 hi _ => ?_) (by omega) (fun i hi => .of ⟨.own, .isl fun _ _ _ _ => .int, .int, .int, trivial⟩ ⟨fun i j hi _ => ?_, trivial⟩) (by decide) (by decide) (by decide) (fun i M _ hi => vs_10 b u s X n i M hi hn) (fun M h0 h => ⟨secB_t (by simpa using h0) h, vs_11 _⟩)
  · unfold secB
    rw [show secH b u s n = false by simpa using h]; rfl
  · subst hM
    exact vs_7 b u s X n i hw (secH_all (by simpa using h0)).1
  · have h := pr2_bnd (b := b) (x := X i 0) (y := X i 1) (secH_all (by simpa using h0)).1
    have := hw.p
    exact ⟨by show _ ≤ pr2V b _ _; omega, by show pr2V b _ _ ≤ _; omega⟩
  · obtain rfl : i = 0 := Nat.lt_one_iff.1 hi
    exact NML.atL (bas_nm b) j


theorem r10pow_c (G : Grp) (a e : Int) (h : G.Ok) (ha : 0 ≤ a ∧ a < G.p) (he : 0 ≤ e ∧ e < G.q) : Pure Tryz.prog gl0 155 [G.av, .int .i64 a, .int .i64 e] (.int .i64 (a ^ e.toNat % G.p)) := by
  have k1 := h.p1; have k2 := h.qp; have k3 := h.p3
  have hr := rreduce_c e G.q (by omega) (by omega)
  rw [red_q he] at hr
  refine pure_sk (own := ow0) Tryz.func155 (by kernel_rfl) mixed (by kernel_rfl)
    (.sc (true) 65 ([Zi e, Zi G.2]) (Zi e) (.sc (true) 104 ([Zi a, Zi e, Zi G.1]) (Zi (a ^ Int.toNat e % G.1)) (.out (Zi (a ^ Int.toNat e % G.1)) [] (Zi (a ^ Int.toNat e % Grp.p G)) [])))
    (by kernel_rfl) ?_
  refine k_sc (hr) ?_
  refine k_sc (rpow_c (a) (e) (G.1) (by omega) (by omega) (by omega) (by omega) (by assumption)) ?_
  exact k_out (Ent.refl _)

theorem r10mul_c (G : Grp) (a c : Int) (h : G.Ok) (ha : 0 ≤ a ∧ a < G.p) (hc : 0 ≤ c ∧ c < G.p) : Pure Tryz.prog gl0 154 [G.av, .int .i64 a, .int .i64 c] (.int .i64 (a * c % G.p)) := by
  have k1 := h.p1; have k3 := h.p3
  refine pure_sk (own := ow0) Tryz.func154 (by kernel_rfl) mixed (by kernel_rfl)
    (.sc (true) 64 ([Zi a, Zi c, Zi G.1]) (Zi (a * c % G.1)) (.out (Zi (a * c % G.1)) [] (Zi (a * c % Grp.p G)) []))
    (by kernel_rfl) ?_
  refine k_sc (rmul_c (a) (c) (G.1) (by omega) (by omega) (by omega) (by omega) (by assumption)) ?_
  exact k_out (Ent.refl _)

theorem rscal31_c (G : Grp) (x : Int) : Pure Tryz.prog gl0 84 [G.av, .int .i64 x] (.bool (scaB G x)) := by
  refine pure_sk (own := ow0) Tryz.func84 (by kernel_rfl) mixed (by kernel_rfl)
    (.out (AV.bool (decide (x ≥ 0) && decide (x < G.2))) [] (AV.bool (scaB G x)) [])
    (by kernel_rfl) ?_
  exact k_out (Ent.refl _)


theorem cpseu_c (b : Bas) (u s : Int) (X : Nat → Nat → Int) (n : Nat) (hw : b.gr.W) (hn : n ≤ 1000) (hs : secB b u s X n = true) : Pure Tryz.prog gl0 55 [b.av, secA u s X n] (.tup [.int .i64 (psJ b u s), .int .i64 0]) := by
  have H := sec_all hs
  have h := validB_iff.1 H.v
  have c1 := vsecret_c b u s X n hw hn
  rw [hs] at c1
  have c2 := cmessage_c b u hw H.v
  have c3 := gpow_c b.gr (msgJ b u) s h.G hw (msgJ_el H.v H.hu) (nz_rng H.hs)
  refine pure_sk (own := ow0) Tryz.func55 (by kernel_rfl) mixed (by kernel_rfl)
    (.sc (true) 53 ([AV.agg (Bas.cells b), AV.agg [Zi u, Zi s, AV.isl 2 n fun (i j : Nat) => Zi (X i j)]]) (AV.bool true) (.ff (.sc (true) 132 ([AV.agg (Bas.cells b), Zi u]) (Zi (msgJ b u)) (.sc (true) 48 ([AV.agg [Zi (Bas.gr b).1, Zi (Bas.gr b).2, Zi (Bas.gr b).3], Zi (msgJ b u), Zi s]) (AV.tup [Zi (msgJ b u ^ Int.toNat s % Grp.p (Bas.gr b)), Zi 0]) (.out (AV.tup [Zi (msgJ b u ^ Int.toNat s % (Bas.gr b).1), Zi 0]) [] (AV.tup [Zi (psJ b u s), Zi 0]) [])))))
    (by kernel_rfl) ?_
  refine k_sc (c1) ?_
  refine k_ff ?_
  refine k_sc (c2) ?_
  refine k_sc (c3) ?_
  exact k_out (Ent.refl _)

theorem cleaves_c (b : Bas) (u s : Int) (X : Nat → Nat → Int) (n : Nat) (hw : b.gr.W) (hn : n ≤ 1000) (hs : secB b u s X n = true) : Pure Tryz.prog gl0 56 [b.av, secA u s X n] (.tup [.isl 1 n fun i _ => .int .i64 (lfJ b X i), .int .i64 0]) := by
  have H := sec_all hs
  have c1 := vsecret_c b u s X n hw hn
  rw [hs] at c1
  have c2 := fun i => cleaf_c b (X i 0) (X i 1) hw H.v
  refine pure_sk (own := ow0) Tryz.func56 (by kernel_rfl) mixed (by kernel_rfl)
    (.sc (true) 53 ([AV.agg (Bas.cells b), AV.agg [Zi u, Zi s, AV.isl 2 n fun (i j : Nat) => Zi (X i j)]]) (AV.bool true) (.ff (.loop ({ x : Nat // x ≤ n }) (fun (x : { x : Nat // x ≤ n }) => mkSt [2, 14, 15, 6, 16] [AV.own 0 6 0 0 6, AV.isl 2 n fun (i j : Nat) => Zi (X i j), Zi (↑n : Int), AV.osl 1 1 0 (x.1), Zi (↑(x.1) : Int)] [some ⟨6, 1, true, Rep.lst [Bas.cells b]⟩, some ⟨1, x.1, true, Rep.row fun (i : Nat) => [Zi (lfJ b X i)]⟩]) (fun (x : { x : Nat // x ≤ n }) => n - x.1) (⟨0, Nat.zero_le n⟩) ([2, 14, 15, 6, 16]) ([0, 361]) ([AV.own 0 6 0 0 6, AV.isl 2 n fun (i j : Nat) => Zi (X i j), Zi (↑n : Int), AV.nsl, Zi 0]) ([some ⟨6, 1, true, Rep.lst [Bas.cells b]⟩, some ⟨1, 0, true, Rep.lst []⟩]) (fun x2 => (.br (decide ((↑x2.1 : Int) < (↑n : Int))) (.req ((0 : Int) ≤ (↑x2.1 : Int) ∧ (↑x2.1 : Int) < (↑n : Int)) (.sc (true) 135 ([AV.agg (Bas.cells b), AV.agg [Zi (X (Int.toNat (↑x2.1 : Int)) 0), Zi (X (Int.toNat (↑x2.1 : Int)) 1)]]) (Zi (pr2V b (X (Int.toNat (↑x2.1 : Int)) 0) (X (Int.toNat (↑x2.1 : Int)) 1))) (.req ((x2.1 + 1) * 8 ≤ 140737488355328) (.again (Again 0 (fun (x : { x : Nat // x ≤ n }) => mkSt [2, 14, 15, 6, 16] [AV.own 0 6 0 0 6, AV.isl 2 n fun (i j : Nat) => Zi (X i j), Zi (↑n : Int), AV.osl 1 1 0 (x.1), Zi (↑(x.1) : Int)] [some ⟨6, 1, true, Rep.lst [Bas.cells b]⟩, some ⟨1, x.1, true, Rep.row fun (i : Nat) => [Zi (lfJ b X i)]⟩]) (fun (x : { x : Nat // x ≤ n }) => n - x.1) x2) ([2, 14, 15, 6, 16]) ([0, 82]) ([AV.own 0 6 0 0 6, AV.isl 2 n fun (i j : Nat) => Zi (X i j), Zi (↑n : Int), AV.osl 1 1 0 (x2.1 + 1), Zi (IntKind.wrap IntKind.i64 ((↑x2.1 : Int) + 1))]) ([some ⟨6, 1, true, Rep.lst [Bas.cells b]⟩, some ⟨1, x2.1 + 1, true, Rep.cat x2.1 (Rep.row fun (i : Nat) => [Zi (lfJ b X i)]) (Rep.lst [[Zi (pr2V b (X (Int.toNat (↑x2.1 : Int)) 0) (X (Int.toNat (↑x2.1 : Int)) 1))]])⟩]))))) (.out (AV.tup [AV.isl 1 x2.1 fun (r k : Nat) => atL [Zi (lfJ b X (r + 0))] k, Zi 0]) [] (AV.tup [AV.isl 1 n fun (i x : Nat) => Zi (lfJ b X i), Zi 0]) []))))))
    (by kernel_rfl) ?_
  refine k_sc (c1) ?_
  refine k_ff ?_
  refine k_loop (fun _ hs => hs.le (by repeat' (first | exact trivial | (first | exact Ent.refl _ | exact inc_ent (by omega) | exact Ent.nil rfl | exact Ent.of_eq (congrArg (AV.osl _ _ _) (by first | omega | (dsimp only; omega))) | exact Ent.of_eq (congrArg (AV.int _) (by first | omega | (dsimp only; omega)))) | refine And.intro ?_ ?_)) (⟨ObEnt.refl _, ObEnt.zero, trivial⟩)) (fun x2 => ?_)
  try (have q2 := x2.2; dsimp only at q2)
  refine k_br (fun h3 => ?_) (fun h3 => ?_)
  · have g3 := cnd_dec_t h3
    refine k_req (by omega) ?_
    refine k_sc (c2 (Int.toNat (↑x2.1 : Int))) ?_
    refine k_req (by omega) ?_
    exact k_again (⟨x2.1 + 1, by omega⟩) (fun _ hs => hs.le (by repeat' (first | exact trivial | (first | exact Ent.refl _ | exact inc_ent (by omega) | exact Ent.nil rfl | exact Ent.of_eq (congrArg (AV.osl _ _ _) (by first | omega | (dsimp only; omega))) | exact Ent.of_eq (congrArg (AV.int _) (by first | omega | (dsimp only; omega)))) | refine And.intro ?_ ?_)) (⟨ObEnt.refl _, ObEnt.catRow rfl (fun _ _ => EntL.refl _) (EntL.refl _), trivial⟩)) (by (dsimp only; omega))
  · have g3 := cnd_dec_f h3
    exact k_out (tup2_out (lf_out (by omega)))

theorem rpair_c (b : Bas) (x y : Int) (h : b.Ok) (hx : scaB b.gr x = true) (hy : scaB b.gr y = true) : Pure Tryz.prog gl0 88 [b.av, .int .i64 x, .int .i64 y] (.int .i64 (pr2V b x y)) := by
  have e1 := el_bnd h.G h.e1
  have e2 := el_bnd h.G h.e2
  refine pure_sk (own := ow0) Tryz.func88 (by kernel_rfl) mixed (by kernel_rfl)
    (let y0 : List AV := [Zi (Bas.gr b).1, Zi (Bas.gr b).2, Zi (Bas.gr b).3]; (.sc (true) 155 ([AV.agg y0, Zi b.2, Zi x]) (Zi (b.2 ^ Int.toNat x % Grp.p (Bas.gr b))) (.sc (true) 155 ([AV.agg y0, Zi b.3, Zi y]) (Zi (b.3 ^ Int.toNat y % Grp.p (Bas.gr b))) (.sc (true) 154 ([AV.agg y0, Zi (b.2 ^ Int.toNat x % (Bas.gr b).1), Zi (b.3 ^ Int.toNat y % (Bas.gr b).1)]) (Zi (b.2 ^ Int.toNat x % (Bas.gr b).1 * (b.3 ^ Int.toNat y % (Bas.gr b).1) % Grp.p (Bas.gr b))) (.out (Zi (b.2 ^ Int.toNat x % (Bas.gr b).1 * (b.3 ^ Int.toNat y % (Bas.gr b).1) % (Bas.gr b).1)) [] (Zi (pr2V b x y)) [])))))
    (by kernel_rfl) ?_
  refine k_sc ((r10pow_c (Bas.gr b)) (b.2) (x) (by exact h.G) (by assumption) (by exact sca_iff.1 hx)) ?_
  refine k_sc ((r10pow_c (Bas.gr b)) (b.3) (y) (by exact h.G) (by assumption) (by exact sca_iff.1 hy)) ?_
  refine k_sc ((r10mul_c (Bas.gr b)) (b.2 ^ Int.toNat x % (Bas.gr b).1) (b.3 ^ Int.toNat y % (Bas.gr b).1) (by exact h.G) (by exact mod_bnd h.G _) (by exact mod_bnd h.G _)) ?_
  exact k_out (Ent.of_eq (congrArg _ (pr2_ok ⟨hx, hy⟩).1.symm))

theorem rmsg31_c (b : Bas) (u : Int) (h : b.Ok) (hu : scaB b.gr u = true) : Pure Tryz.prog gl0 168 [b.av, .int .i64 u] (.int .i64 (msgJ b u)) := by
  have c1 := rpair_c b u 1 h hu (sca_one h)
  refine pure_sk (own := ow0) Tryz.func168 (by kernel_rfl) mixed (by kernel_rfl)
    (.sc (true) 88 ([AV.agg (Bas.cells b), Zi u, Zi 1]) (Zi (pr2V b u (1 : Int))) (.out (Zi (pr2V b u (1 : Int))) [] (Zi (msgJ b u)) []))
    (by kernel_rfl) ?_
  refine k_sc (c1) ?_
  exact k_out (Ent.refl _)

theorem ruser_c (b : Bas) (u : Int) (h : b.Ok) : Pure Tryz.prog gl0 82 [b.av, .int .i64 u] (.bool (nzB b u && (msgJ b u != 1))) := by
  have c1 := fun hu => rmsg31_c b u h hu
  refine pure_sk (own := ow0) Tryz.func82 (by kernel_rfl) mixed (by kernel_rfl)
    (.sc ((decide (u ≥ 1) && decide (u < (Bas.gr b).2)) == true) 168 ([AV.agg (Bas.cells b), Zi u]) (Zi (msgJ b u)) (.out (AV.bool (decide (u ≥ 1) && decide (u < (Bas.gr b).2) && msgJ b u != 1)) [] (AV.bool (nzB b u && msgJ b u != 1)) []))
    (by kernel_rfl) ?_
  refine k_scg (fun h0 => c1 (by simp at h0; exact sca_iff.2 ⟨by omega, h0.2⟩)) ?_
  exact k_out (Ent.refl _)

theorem rdep27_c (n : Nat) (hn : n ≤ 1000000) : Pure Tryz.prog gl0 81 [.int .i64 n] (.int .i64 (dpJ n)) := by
  refine pure_sk (own := ow0) Tryz.func81 (by kernel_rfl) mixed (by kernel_rfl)
    (.loop ({ x : Nat // x ≤ 11 ∧ (fun (i : Nat) => dpJ n = firstI (fun (d : Nat) => (↑n : Int) == (↑(2 ^ d) : Int)) (11 - i) i) x }) (fun (x : { x : Nat // x ≤ 11 ∧ (fun (i : Nat) => dpJ n = firstI (fun (d : Nat) => (↑n : Int) == (↑(2 ^ d) : Int)) (11 - i) i) x }) => mkSt [0, 3] [Zi (↑n : Int), Zi (↑(x.1) : Int)] []) (fun (x : { x : Nat // x ≤ 11 ∧ (fun (i : Nat) => dpJ n = firstI (fun (d : Nat) => (↑n : Int) == (↑(2 ^ d) : Int)) (11 - i) i) x }) => 11 - x.1) (⟨0, ⟨Nat.zero_le 11, rfl⟩⟩) ([0, 3]) ([]) ([Zi (↑n : Int), Zi 0]) ([]) (fun x0 => (.br (decide ((↑x0.1 : Int) ≤ 10)) (.req ((0 : Int) ≤ (↑x0.1 : Int)) (.br (IntKind.wrap IntKind.i64 ((1 : Int) * 2 ^ min (Int.toNat (↑x0.1 : Int)) 64) == (↑n : Int)) (.out (Zi (↑x0.1 : Int)) [] (Zi (dpJ n)) []) (.again (Again 0 (fun (x : { x : Nat // x ≤ 11 ∧ (fun (i : Nat) => dpJ n = firstI (fun (d : Nat) => (↑n : Int) == (↑(2 ^ d) : Int)) (11 - i) i) x }) => mkSt [0, 3] [Zi (↑n : Int), Zi (↑(x.1) : Int)] []) (fun (x : { x : Nat // x ≤ 11 ∧ (fun (i : Nat) => dpJ n = firstI (fun (d : Nat) => (↑n : Int) == (↑(2 ^ d) : Int)) (11 - i) i) x }) => 11 - x.1) x0) ([0, 3]) ([]) ([Zi (↑n : Int), Zi (IntKind.wrap IntKind.i64 ((↑x0.1 : Int) + 1))]) ([])))) (.out (Zi (-1)) [] (Zi (dpJ n)) []))))
    (by kernel_rfl) ?_
  refine k_loop (fun _ hs => hs.le (by repeat' (first | exact trivial | (first | exact Ent.refl _ | exact inc_ent (by omega) | exact Ent.nil rfl | exact Ent.of_eq (congrArg (AV.osl _ _ _) (by first | omega | (dsimp only; omega))) | exact Ent.of_eq (congrArg (AV.int _) (by first | omega | (dsimp only; omega)))) | refine And.intro ?_ ?_)) (trivial)) (fun x0 => ?_)
  try (have q0 := x0.2; dsimp only at q0)
  refine k_br (fun h1 => ?_) (fun h1 => ?_)
  · have g1 := cnd_dec_t h1
    refine k_req (by omega) ?_
    refine k_br (fun h3 => ?_) (fun h3 => ?_)
    · have g3 := cnd_beq_t h3
      try simp only [Int.toNat_natCast] at g3
      exact k_out (Ent.of_eq (congrArg _ (first_hit x0.2.2 (by omega) (by rw [shl1 (by omega)] at g3; simpa using g3.symm))))
    · have g3 := cnd_beq_f h3
      try simp only [Int.toNat_natCast] at g3
      exact k_again (⟨x0.1 + 1, by omega, first_next x0.2.2 (by omega) (by rw [shl1 (by omega)] at g3; simp only [beq_eq_false_iff_ne, ne_eq]; exact fun e => g3 e.symm)⟩) (fun _ hs => hs.le (by repeat' (first | exact trivial | (first | exact Ent.refl _ | exact inc_ent (by omega) | exact Ent.nil rfl | exact Ent.of_eq (congrArg (AV.osl _ _ _) (by first | omega | (dsimp only; omega))) | exact Ent.of_eq (congrArg (AV.int _) (by first | omega | (dsimp only; omega)))) | refine And.intro ?_ ?_)) (trivial)) (by (dsimp only; omega))
  · have g1 := cnd_dec_f h1
    exact k_out (Ent.of_eq (congrArg _ (first_miss x0.2.2 (by omega))))

theorem rd31_c (d : Int) : Pure Tryz.prog gl0 83 [.int .i64 d] (.bool (decide (d ≥ 0) && decide (d ≤ 5))) := by
  refine pure_sk (own := ow0) Tryz.func83 (by kernel_rfl) mixed (by kernel_rfl)
    (let y0 : AV := (AV.bool (decide (d ≥ 0) && decide (d ≤ 5))); (.out y0 [] y0 []))
    (by kernel_rfl) ?_
  exact k_out (Ent.refl _)

theorem rhas_c (n : Nat) (f : Nat → Int) (x : Int) (hn : n ≤ 1000) : Pure Tryz.prog gl0 85 [.isl 1 n fun i _ => .int .i64 (f i), .int .i64 x] (.bool ((List.range n).any fun j => decide (x = f j))) := by
  refine pure_sk (own := ow0) Tryz.func85 (by kernel_rfl) mixed (by kernel_rfl)
    (.loop ({ x_1 : Nat // x_1 ≤ n ∧ (fun (i : Nat) => ∀ (j : Nat), j < i → ¬x = f j) x_1 }) (fun (x_1 : { x_1 : Nat // x_1 ≤ n ∧ (fun (i : Nat) => ∀ (j : Nat), j < i → ¬x = f j) x_1 }) => mkSt [0, 1, 5] [AV.isl 1 n fun (i x : Nat) => Zi (f i), Zi x, Zi (↑(Subtype.val x_1) : Int)] []) (fun (x_1 : { x_1 : Nat // x_1 ≤ n ∧ (fun (i : Nat) => ∀ (j : Nat), j < i → ¬x = f j) x_1 }) => n - Subtype.val x_1) (⟨0, ⟨Nat.zero_le n, fun (j : Nat) (hj : j < 0) => absurd hj (Nat.not_lt_zero j)⟩⟩) ([0, 1, 5]) ([]) ([AV.isl 1 n fun (i x : Nat) => Zi (f i), Zi x, Zi 0]) ([]) (fun x0 => (.br (decide ((↑x0.1 : Int) < (↑n : Int))) (.req ((0 : Int) ≤ (↑x0.1 : Int) ∧ (↑x0.1 : Int) < (↑n : Int)) (.br (f (Int.toNat (↑x0.1 : Int)) == x) (.out (AV.bool true) [] (AV.bool (List.any (List.range n) fun (j : Nat) => decide (x = f j))) []) (.again (Again 0 (fun (x_1 : { x_1 : Nat // x_1 ≤ n ∧ (fun (i : Nat) => ∀ (j : Nat), j < i → ¬x = f j) x_1 }) => mkSt [0, 1, 5] [AV.isl 1 n fun (i x : Nat) => Zi (f i), Zi x, Zi (↑(Subtype.val x_1) : Int)] []) (fun (x_1 : { x_1 : Nat // x_1 ≤ n ∧ (fun (i : Nat) => ∀ (j : Nat), j < i → ¬x = f j) x_1 }) => n - Subtype.val x_1) x0) ([0, 1, 5]) ([]) ([AV.isl 1 n fun (i x : Nat) => Zi (f i), Zi x, Zi (IntKind.wrap IntKind.i64 ((↑x0.1 : Int) + 1))]) ([])))) (.out (AV.bool false) [] (AV.bool (List.any (List.range n) fun (j : Nat) => decide (x = f j))) []))))
    (by kernel_rfl) ?_
  refine k_loop (fun _ hs => hs.le (by repeat' (first | exact trivial | (first | exact Ent.refl _ | exact inc_ent (by omega) | exact Ent.nil rfl | exact Ent.of_eq (congrArg (AV.osl _ _ _) (by first | omega | (dsimp only; omega))) | exact Ent.of_eq (congrArg (AV.int _) (by first | omega | (dsimp only; omega)))) | refine And.intro ?_ ?_)) (trivial)) (fun x0 => ?_)
  try (have q0 := x0.2; dsimp only at q0)
  refine k_br (fun h1 => ?_) (fun h1 => ?_)
  · have g1 := cnd_dec_t h1
    refine k_req (by omega) ?_
    refine k_br (fun h3 => ?_) (fun h3 => ?_)
    · have g3 := cnd_beq_t h3
      try simp only [Int.toNat_natCast] at g3
      exact k_out (Ent.of_eq (congrArg _ (any_t (i := x0.1) (by omega) (decide_eq_true (by simpa using g3.symm))).symm))
    · have g3 := cnd_beq_f h3
      try simp only [Int.toNat_natCast] at g3
      exact k_again (⟨x0.1 + 1, by omega, fun j hj => by rcases Nat.lt_succ_iff_lt_or_eq.1 hj with hj | rfl; (· exact x0.2.2 j hj); (· intro e; exact g3 (by simpa using e.symm))⟩) (fun _ hs => hs.le (by repeat' (first | exact trivial | (first | exact Ent.refl _ | exact inc_ent (by omega) | exact Ent.nil rfl | exact Ent.of_eq (congrArg (AV.osl _ _ _) (by first | omega | (dsimp only; omega))) | exact Ent.of_eq (congrArg (AV.int _) (by first | omega | (dsimp only; omega)))) | refine And.intro ?_ ?_)) (trivial)) (by (dsimp only; omega))
  · have g1 := cnd_dec_f h1
    exact k_out (Ent.of_eq (congrArg _ (any_f (fun i hi => decide_eq_false (x0.2.2 i (by omega)))).symm))

theorem rlvs_c (b : Bas) (X : Nat → Nat → Int) (n : Nat) (h : b.Ok) (hn : n ≤ 1000) (hX : ∀ i, i < n → pairB b X i = true) : Pure Tryz.prog gl0 26 [b.av, .isl 2 n fun i j => .int .i64 (X i j)] (.isl 1 n fun i _ => .int .i64 (lfJ b X i)) := by
  have c1 := fun i hx hy => rpair_c b (X i 0) (X i 1) h hx hy
  refine pure_sk (own := ow0) Tryz.func26 (by kernel_rfl) mixed (by kernel_rfl)
    (.loop ({ x : Nat // x ≤ n }) (fun (x : { x : Nat // x ≤ n }) => mkSt [1, 2, 5, 6] [AV.isl 2 n fun (i j : Nat) => Zi (X i j), AV.own 0 6 0 0 6, AV.osl 1 1 0 (x.1), Zi (↑(x.1) : Int)] [some ⟨6, 1, true, Rep.lst [Bas.cells b]⟩, some ⟨1, x.1, true, Rep.row fun (i : Nat) => [Zi (lfJ b X i)]⟩]) (fun (x : { x : Nat // x ≤ n }) => n - x.1) (⟨0, Nat.zero_le n⟩) ([1, 2, 5, 6]) ([0, 289]) ([AV.isl 2 n fun (i j : Nat) => Zi (X i j), AV.own 0 6 0 0 6, AV.nsl, Zi 0]) ([some ⟨6, 1, true, Rep.lst [Bas.cells b]⟩, some ⟨1, 0, true, Rep.lst []⟩]) (fun x0 => (.br (decide ((↑x0.1 : Int) < (↑n : Int))) (.req ((0 : Int) ≤ (↑x0.1 : Int) ∧ (↑x0.1 : Int) < (↑n : Int)) (.req ((0 : Int) ≤ 0 ∧ (0 : Int) < (↑(2) : Int)) (.req ((0 : Int) ≤ (↑x0.1 : Int) ∧ (↑x0.1 : Int) < (↑n : Int)) (.req ((0 : Int) ≤ 1 ∧ (1 : Int) < (↑(2) : Int)) (.sc (true) 88 ([AV.agg (Bas.cells b), Zi (X (Int.toNat (↑x0.1 : Int)) 0), Zi (X (Int.toNat (↑x0.1 : Int)) 1)]) (Zi (pr2V b (X (Int.toNat (↑x0.1 : Int)) 0) (X (Int.toNat (↑x0.1 : Int)) 1))) (.req ((x0.1 + 1) * 8 ≤ 140737488355328) (.again (Again 0 (fun (x : { x : Nat // x ≤ n }) => mkSt [1, 2, 5, 6] [AV.isl 2 n fun (i j : Nat) => Zi (X i j), AV.own 0 6 0 0 6, AV.osl 1 1 0 (x.1), Zi (↑(x.1) : Int)] [some ⟨6, 1, true, Rep.lst [Bas.cells b]⟩, some ⟨1, x.1, true, Rep.row fun (i : Nat) => [Zi (lfJ b X i)]⟩]) (fun (x : { x : Nat // x ≤ n }) => n - x.1) x0) ([1, 2, 5, 6]) ([0, 146]) ([AV.isl 2 n fun (i j : Nat) => Zi (X i j), AV.own 0 6 0 0 6, AV.osl 1 1 0 (x0.1 + 1), Zi (IntKind.wrap IntKind.i64 ((↑x0.1 : Int) + 1))]) ([some ⟨6, 1, true, Rep.lst [Bas.cells b]⟩, some ⟨1, x0.1 + 1, true, Rep.cat x0.1 (Rep.row fun (i : Nat) => [Zi (lfJ b X i)]) (Rep.lst [[Zi (pr2V b (X (Int.toNat (↑x0.1 : Int)) 0) (X (Int.toNat (↑x0.1 : Int)) 1))]])⟩])))))))) (.out (AV.isl 1 x0.1 fun (r k : Nat) => atL [Zi (lfJ b X (r + 0))] k) [] (AV.isl 1 n fun (i x : Nat) => Zi (lfJ b X i)) []))))
    (by kernel_rfl) ?_
  refine k_loop (fun _ hs => hs.le (by repeat' (first | exact trivial | (first | exact Ent.refl _ | exact inc_ent (by omega) | exact Ent.nil rfl | exact Ent.of_eq (congrArg (AV.osl _ _ _) (by first | omega | (dsimp only; omega))) | exact Ent.of_eq (congrArg (AV.int _) (by first | omega | (dsimp only; omega)))) | refine And.intro ?_ ?_)) (⟨ObEnt.refl _, ObEnt.zero, trivial⟩)) (fun x0 => ?_)
  try (have q0 := x0.2; dsimp only at q0)
  refine k_br (fun h1 => ?_) (fun h1 => ?_)
  · have g1 := cnd_dec_t h1
    refine k_req (by omega) ?_
    refine k_req (by omega) ?_
    refine k_req (by omega) ?_
    refine k_req (by omega) ?_
    refine k_sc (c1 (Int.toNat (↑x0.1 : Int)) (by (have k := pair_all (hX x0.1 (by omega)); simp only [Int.toNat_natCast]; first | exact k.1 | exact k.2)) (by (have k := pair_all (hX x0.1 (by omega)); simp only [Int.toNat_natCast]; first | exact k.1 | exact k.2))) ?_
    refine k_req (by omega) ?_
    exact k_again (⟨x0.1 + 1, by omega⟩) (fun _ hs => hs.le (by repeat' (first | exact trivial | (first | exact Ent.refl _ | exact inc_ent (by omega) | exact Ent.nil rfl | exact Ent.of_eq (congrArg (AV.osl _ _ _) (by first | omega | (dsimp only; omega))) | exact Ent.of_eq (congrArg (AV.int _) (by first | omega | (dsimp only; omega)))) | refine And.intro ?_ ?_)) (⟨ObEnt.refl _, ObEnt.catRow rfl (fun _ _ => EntL.refl _) (EntL.refl _), trivial⟩)) (by (dsimp only; omega))
  · have g1 := cnd_dec_f h1
    exact k_out (lf_out (by omega))

end Go.Proofs.YtdaaddkipdmajaaGreatDoor

namespace Go.Sp
open Go Go.Am
theorem addm {m u v : Int} (hm : 0 < m) (hm' : m < 2305843009213693952) : Int.tmod (IntKind.wrap .i64 (u % m + v % m)) m = (u + v) % m := by
  have a1 := Int.emod_nonneg u (by omega : m ≠ 0)
  have a2 := Int.emod_lt_of_pos u hm
  have b1 := Int.emod_nonneg v (by omega : m ≠ 0)
  have b2 := Int.emod_lt_of_pos v hm
  rw [wI (by omega) (by omega), Int.tmod_eq_emod_of_nonneg (by omega), ← Int.add_emod]
theorem p2p (x : Nat) : (0 : Int) < 2 ^ x := Int.pow_pos (by decide)
theorem dbl_a {a m : Int} {x : Nat} (hm : 0 < m) (hm' : m < 2305843009213693952) : Int.tmod (IntKind.wrap .i64 (a * 2 ^ x % m + a * 2 ^ x % m)) m = a * 2 ^ (x + 1) % m := by
  rw [addm hm hm', Int.pow_succ, ← Int.mul_assoc]
  congr 1
  omega
theorem shr_1 {k : Int} {x : Nat} : Int.fdiv (k / 2 ^ x) (2 ^ 1) = k / 2 ^ (x + 1) := by
  rw [Int.fdiv_eq_ediv_of_nonneg _ (by decide), Int.pow_succ, Int.ediv_ediv_of_nonneg (Int.le_of_lt (p2p x))]
  rfl
theorem low_1 {k : Int} {x : Nat} : k % 2 ^ (x + 1) = k % 2 ^ x + 2 ^ x * (k / 2 ^ x % 2) := by
  have hp := p2p x
  have e1 := Int.mul_ediv_add_emod k (2 ^ x)
  have e2 := Int.mul_ediv_add_emod (k / 2 ^ x) 2
  have r1 := Int.emod_nonneg k (by omega : (2 : Int) ^ x ≠ 0)
  have r2 := Int.emod_lt_of_pos k hp
  have e3 : k = (k % 2 ^ x + 2 ^ x * (k / 2 ^ x % 2)) + 2 ^ (x + 1) * (k / 2 ^ x / 2) := by
    have e4 : 2 ^ x * (k / 2 ^ x) = 2 ^ x * (k / 2 ^ x % 2) + 2 ^ (x + 1) * (k / 2 ^ x / 2) := by
      rw [Int.pow_succ, Int.mul_assoc, ← Int.mul_add]
      congr 1
      omega
    omega
  have hb : 0 ≤ k / 2 ^ x % 2 ∧ k / 2 ^ x % 2 ≤ 1 := by omega
  have hlt : 2 ^ x * (k / 2 ^ x % 2) ≤ 2 ^ x * 1 := Int.mul_le_mul_of_nonneg_left hb.2 (Int.le_of_lt hp)
  have hge : 0 ≤ 2 ^ x * (k / 2 ^ x % 2) := Int.mul_nonneg (Int.le_of_lt hp) hb.1
  have hp2 : (2 : Int) ^ (x + 1) = 2 ^ x * 2 := Int.pow_succ ..
  conv => lhs; rw [e3, Int.add_mul_emod_self_left]
  exact Int.emod_eq_of_lt (by omega) (by omega)
theorem out_1 {a k m : Int} {x : Nat} (hm : 0 < m) (hm' : m < 2305843009213693952) (h : k / 2 ^ x % 2 = 1) : Int.tmod (IntKind.wrap .i64 (a * (k % 2 ^ x) % m + a * 2 ^ x % m)) m = a * (k % 2 ^ (x + 1)) % m := by
  rw [addm hm hm', low_1, h, Int.mul_one, ← Int.mul_add]
theorem out_0 {a k m : Int} {x : Nat} (h : k / 2 ^ x % 2 = 0) : a * (k % 2 ^ x) % m = a * (k % 2 ^ (x + 1)) % m := by
  rw [low_1, h, Int.mul_zero, Int.add_zero]
theorem sh_lt {k : Int} {x : Nat} (hk : k < 2305843009213693952) (h : k / 2 ^ x > 0) : x < 61 := by
  apply Classical.byContradiction
  intro hx
  have hp := p2p x
  have h1 : (2 : Int) ^ 61 ≤ 2 ^ x := by
    have := Nat.pow_le_pow_right (n := 2) (by decide) (by omega : 61 ≤ x)
    exact_mod_cast this
  have h2 : k < 2 ^ x := Int.lt_of_lt_of_le hk (by simpa using h1)
  by_cases h0 : 0 ≤ k
  · rw [Int.ediv_eq_zero_of_lt h0 h2] at h; omega
  · have := Int.ediv_neg_of_neg_of_pos (by omega : k < 0) hp
    omega
theorem sh_end {a k m : Int} {x : Nat} (hk : 0 ≤ k) (h : ¬ k / 2 ^ x > 0) : a * (k % 2 ^ x) % m = a * k % m := by
  have hp := p2p x
  have : k < 2 ^ x := by
    apply Classical.byContradiction
    intro hx
    have h1 : 1 ≤ k / 2 ^ x := (Int.le_ediv_iff_mul_le hp).2 (by omega)
    omega
  rw [Int.emod_eq_of_lt hk this]
theorem sec_no {b : Bas} {u s : Int} {X : Nat → Nat → Int} {n : Nat} (h : (((validB b = false ∨ (nzB b u = false ∨ msgJ b u = 1)) ∨ s < 1) ∨ s ≥ b.gr.q) ∨ (¬ dpJ n ≥ 0 ∨ ¬ dpJ n ≤ 5)) : secB b u s X n = false := by
  unfold secB secH
  rw [← dpJ_lv]
  rcases h with (((h | h | h) | h) | h) | h | h
  · rw [h]; rfl
  · rw [h]; simp
  · rw [h]; simp
  · rw [show nzB b s = false by unfold nzB; rw [decide_eq_false (by omega)]; rfl]; simp
  · rw [show nzB b s = false by unfold nzB; rw [decide_eq_false (by omega : ¬ s < b.gr.q)]; simp]; simp
  · rw [decide_eq_false h]; simp
  · rw [decide_eq_false h]; simp
theorem sec_yes {b : Bas} {u s : Int} {n : Nat} (h : (((validB b = true ∧ (nzB b u = true ∧ ¬ msgJ b u = 1)) ∧ ¬ s < 1) ∧ ¬ s ≥ b.gr.q) ∧ (dpJ n ≥ 0 ∧ dpJ n ≤ 5)) : secH b u s n = true := by
  unfold secH
  rw [← dpJ_lv, h.1.1.1.1, h.1.1.1.2.1, decide_eq_true h.2.1, decide_eq_true h.2.2, show nzB b s = true by unfold nzB; rw [decide_eq_true (by omega : s ≥ 1), decide_eq_true (by omega : s < b.gr.q)]; rfl, bne_iff_ne.2 h.1.1.1.2.2]
  rfl
theorem sec_p {b : Bas} {u s : Int} {X : Nat → Nat → Int} {n i : Nat} (hi : i < n) (h : scaB b.gr (X i 0) = false ∨ scaB b.gr (X i 1) = false) : secB b u s X n = false := secB_f hi (by unfold pairB; rcases h with h | h <;> simp [h])
theorem sec_d {b : Bas} {u s : Int} {X : Nat → Nat → Int} {n i : Nat} (hi : i < n) (h : seenB b X i = true) : secB b u s X n = false := secB_f hi (by rw [h]; simp)
end Go.Sp

namespace Go.Proofs.YtdaaddkipdmajaaGreatDoor
open Go Go.Am Go.Sp
set_option maxRecDepth 100000

theorem rsec31_c (b : Bas) (u s : Int) (X : Nat → Nat → Int) (n : Nat) (hw : b.gr.W) (hn : n ≤ 1000) : Pure Tryz.prog gl0 21 [b.av, secA u s X n] (.bool (secB b u s X n)) := by
  have c0 := rdep27_c n (by omega)
  have c1 := r11valid_c b hw
  have c2 := fun hv => ruser_c b u (validB_iff.1 hv)
  have c3 := rd31_c (dpJ n)
  have c4 := fun hv hX => rlvs_c b X n (validB_iff.1 hv) hn hX
  have c5 := fun i hi => rhas_c i (fun j => lfJ b X j) (lfJ b X i) hi
  refine pure_sk (own := ow0) Tryz.func21 (by kernel_rfl) mixed (by kernel_rfl)
    (let y0 : List (Option Ob) := [some ⟨6, 1, true, Rep.lst [Bas.cells b]⟩, some ⟨3, 1, true, Rep.lst [[Zi u, Zi s, AV.isl 2 n fun (i j : Nat) => Zi (X i j)]]⟩, some ⟨3, 1, true, Rep.lst [[Zi (Grp.p (Bas.gr b)), Zi (Grp.q (Bas.gr b)), Zi (Grp.g (Bas.gr b))]]⟩]; let y1 : AV := (AV.bool (secB b u s X n)); let y2 : List AV := [Zi (Bas.gr b).1, Zi (Bas.gr b).2, Zi (Bas.gr b).3]; (.sc (true) 81 ([Zi (↑n : Int)]) (Zi (dpJ n)) (.sc (true) 19 ([AV.agg (Bas.cells b)]) (AV.bool (validB b)) (.sc ((!validB b) == false) 82 ([AV.agg (Bas.cells b), Zi u]) (AV.bool (nzB b u && msgJ b u != 1)) (.sc ((!validB b || !(nzB b u && msgJ b u != 1) || decide (s < 1) || decide (s ≥ (Bas.gr b).2)) == false) 83 ([Zi (dpJ n)]) (AV.bool (decide (dpJ n ≥ 0) && decide (dpJ n ≤ 5))) (.br (!validB b || !(nzB b u && msgJ b u != 1) || decide (s < 1) || decide (s ≥ (Bas.gr b).2) || !(decide (dpJ n ≥ 0) && decide (dpJ n ≤ 5))) (.out (AV.bool false) [] y1 []) (.loop ({ x : Nat // x ≤ n ∧ (fun (x : Nat) => ∀ (j : Nat), j < x → pairB b X j = true) x }) (fun (x : { x : Nat // x ≤ n ∧ (fun (x : Nat) => ∀ (j : Nat), j < x → pairB b X j = true) x }) => mkSt [2, 3, 5, 7] [AV.own 0 6 0 0 6, AV.own 1 3 0 0 3, AV.own 2 3 0 0 3, Zi (↑(x.1) : Int)] y0) (fun (x : { x : Nat // x ≤ n ∧ (fun (x : Nat) => ∀ (j : Nat), j < x → pairB b X j = true) x }) => n - x.1) (⟨0, ⟨Nat.zero_le n, fun (j : Nat) (hj : j < 0) => absurd hj (Nat.not_lt_zero j)⟩⟩) ([2, 3, 5, 7]) ([0, 8, 40]) ([AV.own 0 6 0 0 6, AV.own 1 3 0 0 3, AV.own 2 3 0 0 3, Zi 0]) (y0) (fun x6 => (.br (decide ((↑x6.1 : Int) < (↑n : Int))) (.req ((0 : Int) ≤ (↑x6.1 : Int) ∧ (↑x6.1 : Int) < (↑n : Int)) (.req ((0 : Int) ≤ 0 ∧ (0 : Int) < (↑(2) : Int)) (.sc (true) 84 ([AV.agg y2, Zi (X (Int.toNat (↑x6.1 : Int)) 0)]) (AV.bool (scaB (Bas.gr b) (X (Int.toNat (↑x6.1 : Int)) 0))) (.req (((!scaB b.1 (X (Int.toNat (↑x6.1 : Int)) 0)) == false) = true → (0 : Int) ≤ (↑x6.1 : Int) ∧ (↑x6.1 : Int) < (↑n : Int)) (.req (((!scaB b.1 (X (Int.toNat (↑x6.1 : Int)) 0)) == false) = true → (0 : Int) ≤ 1 ∧ (1 : Int) < (↑(2) : Int)) (.sc ((!scaB b.1 (X (Int.toNat (↑x6.1 : Int)) 0)) == false) 84 ([AV.agg y2, Zi (X (Int.toNat (↑x6.1 : Int)) 1)]) (AV.bool (scaB (Bas.gr b) (X (Int.toNat (↑x6.1 : Int)) 1))) (.br (!scaB b.1 (X (Int.toNat (↑x6.1 : Int)) 0) || !scaB b.1 (X (Int.toNat (↑x6.1 : Int)) 1)) (.out (AV.bool false) [] y1 []) (.again (Again 0 (fun (x : { x : Nat // x ≤ n ∧ (fun (x : Nat) => ∀ (j : Nat), j < x → pairB b X j = true) x }) => mkSt [2, 3, 5, 7] [AV.own 0 6 0 0 6, AV.own 1 3 0 0 3, AV.own 2 3 0 0 3, Zi (↑(x.1) : Int)] y0) (fun (x : { x : Nat // x ≤ n ∧ (fun (x : Nat) => ∀ (j : Nat), j < x → pairB b X j = true) x }) => n - x.1) x6) ([2, 3, 5, 7]) ([0, 1, 2]) ([AV.own 0 6 0 0 6, AV.own 1 3 0 0 3, AV.own 2 3 0 0 3, Zi (IntKind.wrap IntKind.i64 ((↑x6.1 : Int) + 1))]) (y0))))))))) (.dc (true) 26 ([AV.agg (Bas.cells b), AV.isl 2 n fun (i j : Nat) => Zi (X i j)]) (AV.isl 1 n fun (i x : Nat) => Zi (lfJ b X i)) (.loop ({ x : Nat // x ≤ n ∧ (fun (x : Nat) => ∀ (j : Nat), j < x → seenB b X j = false) x }) (fun (x : { x : Nat // x ≤ n ∧ (fun (x : Nat) => ∀ (j : Nat), j < x → seenB b X j = false) x }) => mkSt [8, 9] [AV.isl 1 n fun (i x : Nat) => Zi (lfJ b X i), Zi (↑(x.1) : Int)] []) (fun (x : { x : Nat // x ≤ n ∧ (fun (x : Nat) => ∀ (j : Nat), j < x → seenB b X j = false) x }) => n - x.1) (⟨0, ⟨Nat.zero_le n, fun (j : Nat) (hj : j < 0) => absurd hj (Nat.not_lt_zero j)⟩⟩) ([8, 9]) ([]) ([AV.isl 1 n fun (i x : Nat) => Zi (lfJ b X i), Zi 0]) ([]) (fun x18 => (.br (decide ((↑x18.1 : Int) < (↑n : Int))) (.req ((0 : Int) ≤ (↑x18.1 : Int) ∧ (↑x18.1 : Int) ≤ (↑n : Int)) (.req ((0 : Int) ≤ (↑x18.1 : Int) ∧ (↑x18.1 : Int) < (↑n : Int)) (.sc (true) 85 ([AV.isl 1 (Int.toNat (↑x18.1 : Int)) fun (i j : Nat) => Zi (lfJ b X (i + 0)), Zi (lfJ b X (Int.toNat (↑x18.1 : Int)))]) (AV.bool (List.any (List.range (Int.toNat (↑x18.1 : Int))) fun (j : Nat) => decide (lfJ b X (Int.toNat (↑x18.1 : Int)) = lfJ b X j))) (.br (List.any (List.range.loop (Int.toNat (↑x18.1 : Int)) []) fun (j : Nat) => decide (lfJ b X (Int.toNat (↑x18.1 : Int)) = lfJ b X j)) (.out (AV.bool false) [] y1 []) (.again (Again 0 (fun (x : { x : Nat // x ≤ n ∧ (fun (x : Nat) => ∀ (j : Nat), j < x → seenB b X j = false) x }) => mkSt [8, 9] [AV.isl 1 n fun (i x : Nat) => Zi (lfJ b X i), Zi (↑(x.1) : Int)] []) (fun (x : { x : Nat // x ≤ n ∧ (fun (x : Nat) => ∀ (j : Nat), j < x → seenB b X j = false) x }) => n - x.1) x18) ([8, 9]) ([]) ([AV.isl 1 n fun (i x : Nat) => Zi (lfJ b X i), Zi (IntKind.wrap IntKind.i64 ((↑x18.1 : Int) + 1))]) ([])))))) (.out (AV.bool true) [] y1 []))))))))))))))
    (by kernel_rfl) ?_
  refine k_sc (c0) ?_
  refine k_sc (c1) ?_
  refine k_scg (fun h2 => c2 (by simpa using h2)) ?_
  refine k_scg (fun h3 => c3) ?_
  refine k_br (fun h4 => ?_) (fun h4 => ?_)
  · have g4 := (cnd_or_t (cnd_or_t (cnd_or_t (cnd_or_t (cnd_not_t cnd_id_f) (cnd_not_t (cnd_and_f cnd_id_f cnd_bne_f))) cnd_dec_t) cnd_dec_t) (cnd_not_t (cnd_and_f cnd_dec_f cnd_dec_f))) h4
    exact k_out (Ent.of_eq (congrArg _ (sec_no g4).symm))
  · have g4 := (cnd_or_f (cnd_or_f (cnd_or_f (cnd_or_f (cnd_not_f cnd_id_t) (cnd_not_f (cnd_and_t cnd_id_t cnd_bne_t))) cnd_dec_f) cnd_dec_f) (cnd_not_f (cnd_and_t cnd_dec_t cnd_dec_t))) h4
    refine k_loop (fun _ hs => hs.le (⟨.refl _, .refl _, .refl _, .refl _, trivial⟩) (⟨.refl _, .refl _, .refl _, trivial⟩)) (fun x6 => ?_)
    try (have q6 := x6.2; dsimp only at q6)
    refine k_br (fun h7 => ?_) (fun h7 => ?_)
    · have g7 := cnd_dec_t h7
      refine k_req (by omega) ?_
      refine k_req (by omega) ?_
      refine k_sc ((rscal31_c (Bas.gr b)) (X (Int.toNat (↑x6.1 : Int)) (0))) ?_
      refine k_req (fun hr => by have hr := (cnd_eqf_t (cnd_not_f cnd_id_t)) hr; omega) ?_
      refine k_req (fun hr => by have hr := (cnd_eqf_t (cnd_not_f cnd_id_t)) hr; omega) ?_
      refine k_scg (fun h13 => (rscal31_c (Bas.gr b)) (X (Int.toNat (↑x6.1 : Int)) (1))) ?_
      refine k_br (fun h14 => ?_) (fun h14 => ?_)
      · have g14 := (cnd_or_t (cnd_not_t cnd_id_f) (cnd_not_t cnd_id_f)) h14
        try simp only [Int.toNat_natCast] at g14
        exact k_out (Ent.of_eq (congrArg _ (sec_p (i := x6.1) (by omega) g14).symm))
      · have g14 := (cnd_or_f (cnd_not_f cnd_id_t) (cnd_not_f cnd_id_t)) h14
        try simp only [Int.toNat_natCast] at g14
        exact k_again (⟨x6.1 + 1, by omega, fun i hi => by rcases Nat.lt_succ_iff_lt_or_eq.1 hi with hi | rfl; (· exact x6.2.2 i hi); (· unfold pairB; rw [g14.1, g14.2]; rfl)⟩) (fun _ hs => hs.le (⟨.refl _, .refl _, .refl _, inc_ent (by omega), trivial⟩) (⟨.refl _, .refl _, .refl _, trivial⟩)) (by dsimp only; omega)
    · have g7 := cnd_dec_f h7
      refine k_dc (c4 (by exact g4.1.1.1.1) (by exact fun i hi => x6.2.2 i (by omega))) ?_
      refine k_loop (fun _ hs => hs.le (⟨.refl _, .refl _, trivial⟩) (trivial)) (fun x18 => ?_)
      try (have q18 := x18.2; dsimp only at q18)
      refine k_br (fun h19 => ?_) (fun h19 => ?_)
      · have g19 := cnd_dec_t h19
        refine k_req (by omega) ?_
        refine k_req (by omega) ?_
        refine k_sc (c5 (Int.toNat (↑x18.1 : Int)) (by omega)) ?_
        refine k_br (fun h23 => ?_) (fun h23 => ?_)
        · have g23 := cnd_id_t h23
          try simp only [Int.toNat_natCast] at g23
          exact k_out (Ent.of_eq (congrArg _ (sec_d (i := x18.1) (by omega) g23).symm))
        · have g23 := cnd_id_f h23
          try simp only [Int.toNat_natCast] at g23
          exact k_again (⟨x18.1 + 1, by omega, fun i hi => by rcases Nat.lt_succ_iff_lt_or_eq.1 hi with hi | rfl; (· exact x18.2.2 i hi); (· exact g23)⟩) (fun _ hs => hs.le (⟨.refl _, inc_ent (by omega), trivial⟩) (trivial)) (by dsimp only; omega)
      · have g19 := cnd_dec_f h19
        exact k_out (Ent.of_eq (congrArg _ (secB_t (sec_yes g4) (fun i hi => by rw [x6.2.2 i (by omega), x18.2.2 i (by omega)]; rfl)).symm))

theorem rpseu31_c (b : Bas) (u s : Int) (X : Nat → Nat → Int) (n : Nat) (H : SecOk b u s X n) : Pure Tryz.prog gl0 87 [b.av, secA u s X n] (.int .i64 (psJ b u s)) := by
  have h := validB_iff.1 H.v
  have c1 := rmsg31_c b u h (nz_sca H.hu)
  have c2 := r10pow_c b.gr (msgJ b u) s h.G (el_bnd h.G (msgJ_el H.v H.hu)) (nz_rng H.hs)
  refine pure_sk (own := ow0) Tryz.func87 (by kernel_rfl) mixed (by kernel_rfl)
    (.sc (true) 168 ([AV.agg (Bas.cells b), Zi u]) (Zi (msgJ b u)) (.sc (true) 155 ([AV.agg [Zi (Bas.gr b).1, Zi (Bas.gr b).2, Zi (Bas.gr b).3], Zi (msgJ b u), Zi s]) (Zi (msgJ b u ^ Int.toNat s % Grp.p (Bas.gr b))) (.out (Zi (msgJ b u ^ Int.toNat s % (Bas.gr b).1)) [] (Zi (psJ b u s)) [])))
    (by kernel_rfl) ?_
  refine k_sc (c1) ?_
  refine k_sc (c2) ?_
  exact k_out (Ent.refl _)

theorem mk1_c (e : Int) : Pure Tryz.prog gl0 51 [.int .i64 e] (.tup [.agg (Spend.zero.cw .nsl .nsl), .int .i64 e]) := by
  refine pure_sk (own := ow0) Tryz.func51 (by kernel_rfl) mixed (by kernel_rfl)
    (.out (AV.tup [AV.agg [Zi 0, Zi 0, Zi 0, Zi 0, Zi 0, Zb 0, Zb 0, Zb 0, Zb 0, Zb 0, Zb 0, Zb 0, Zb 0, Zb 0, Zb 0, Zb 0, Zb 0, Zb 0, Zb 0, Zb 0, Zb 0, Zb 0, Zb 0, Zb 0, Zb 0, Zb 0, Zb 0, Zb 0, Zb 0, Zb 0, Zb 0, Zb 0, Zb 0, Zb 0, Zb 0, Zb 0, Zb 0, Zi 0, Zi 0, Zi 0, Zi 0, Zi 0, Zi 0, Zb 0, Zb 0, Zb 0, Zb 0, Zb 0, Zb 0, Zb 0, Zb 0, Zb 0, Zb 0, Zb 0, Zb 0, Zb 0, Zb 0, Zb 0, Zb 0, Zb 0, Zb 0, Zb 0, Zb 0, Zb 0, Zb 0, Zb 0, Zb 0, Zb 0, Zb 0, Zb 0, Zb 0, Zb 0, Zb 0, Zb 0, Zb 0, Zi 0, Zi 0, AV.nsl, Zi 0, AV.nsl], Zi e]) [] (AV.tup [AV.agg (Spend.cw Spend.zero AV.nsl AV.nsl), Zi e]) [])
    (by kernel_rfl) ?_
  exact k_out (Ent.refl _)

theorem smul_c (a k m : Int) (ha : 0 ≤ a ∧ a < m) (hk : 0 ≤ k ∧ k < m) (hm : m < 2305843009213693952) : Pure Tryz.prog gl0 60 [.int .i64 a, .int .i64 k, .int .i64 m] (.int .i64 (a * k % m)) := by
  refine pure_sk (own := ow0) Tryz.func60 (by kernel_rfl) mixed (by kernel_rfl)
    (.loop ({ x : Nat // x ≤ 62 }) (fun (x : { x : Nat // x ≤ 62 }) => mkSt [2, 0, 1, 7] [Zi m, Zi (a * 2 ^ x.1 % m), Zi (k / 2 ^ x.1), Zi (a * (k % 2 ^ x.1) % m)] []) (fun (x : { x : Nat // x ≤ 62 }) => 62 - x.1) (⟨0, Nat.zero_le 62⟩) ([2, 0, 1, 7]) ([]) ([Zi m, Zi a, Zi k, Zi 0]) ([]) (fun x0 => (.br (decide (k / 2 ^ x0.1 > 0)) (.br (IntKind.wrap IntKind.i64 (↑(BitVec.toNat (BitVec.ofInt 64 (k / 2 ^ x0.1) &&& BitVec.ofInt 64 (1 : Int))) : Int) == 1) (.req (m ≠ (0 : Int)) (.req (m ≠ (0 : Int)) (.again (Again 0 (fun (x : { x : Nat // x ≤ 62 }) => mkSt [2, 0, 1, 7] [Zi m, Zi (a * 2 ^ x.1 % m), Zi (k / 2 ^ x.1), Zi (a * (k % 2 ^ x.1) % m)] []) (fun (x : { x : Nat // x ≤ 62 }) => 62 - x.1) x0) ([2, 0, 1, 7]) ([]) ([Zi m, Zi (Int.tmod (IntKind.wrap IntKind.i64 (a * 2 ^ x0.1 % m + a * 2 ^ x0.1 % m)) m), Zi (Int.fdiv (k / 2 ^ x0.1) ((2 : Int) ^ 1)), Zi (Int.tmod (IntKind.wrap IntKind.i64 (a * (k % 2 ^ x0.1) % m + a * 2 ^ x0.1 % m)) m)]) ([])))) (.req (m ≠ (0 : Int)) (.again (Again 0 (fun (x : { x : Nat // x ≤ 62 }) => mkSt [2, 0, 1, 7] [Zi m, Zi (a * 2 ^ x.1 % m), Zi (k / 2 ^ x.1), Zi (a * (k % 2 ^ x.1) % m)] []) (fun (x : { x : Nat // x ≤ 62 }) => 62 - x.1) x0) ([2, 0, 1, 7]) ([]) ([Zi m, Zi (Int.tmod (IntKind.wrap IntKind.i64 (a * 2 ^ x0.1 % m + a * 2 ^ x0.1 % m)) m), Zi (Int.fdiv (k / 2 ^ x0.1) ((2 : Int) ^ 1)), Zi (a * (k % 2 ^ x0.1) % m)]) ([])))) (.out (Zi (a * (k % 2 ^ x0.1) % m)) [] (Zi (a * k % m)) []))))
    (by kernel_rfl) ?_
  refine k_loop (fun _ hs => hs.le (⟨Ent.refl _, Ent.of_eq (congrArg _ (by rw [Int.pow_zero, Int.mul_one, Int.emod_eq_of_lt ha.1 ha.2])), Ent.of_eq (congrArg _ (by rw [Int.pow_zero, Int.ediv_one])), Ent.of_eq (congrArg _ (by rw [Int.pow_zero, Int.emod_one, Int.mul_zero, Int.zero_emod])), trivial⟩) (trivial)) (fun x0 => ?_)
  try (have q0 := x0.2; dsimp only at q0)
  have bb := fun (h : k / 2 ^ x0.1 > 0) => bit0i (x := k / 2 ^ x0.1) (by omega) (Int.lt_of_le_of_lt (Int.ediv_le_self _ hk.1) (by omega))
  refine k_br (fun h1 => ?_) (fun h1 => ?_)
  · have g1 := cnd_dec_t h1
    refine k_br (fun h2 => ?_) (fun h2 => ?_)
    · have g2 := cnd_beq_t h2
      refine k_req (by omega) ?_
      refine k_req (by omega) ?_
      exact k_again (⟨x0.1 + 1, by have := sh_lt (by omega) g1; omega⟩) (fun _ hs => hs.le (⟨Ent.refl _, Ent.of_eq (congrArg _ (dbl_a (by omega) (by omega))), Ent.of_eq (congrArg _ shr_1), Ent.of_eq (congrArg _ (out_1 (by omega) (by omega) (by rw [bb g1] at g2; exact g2))), trivial⟩) (trivial)) (by have := sh_lt (by omega) g1; dsimp only; omega)
    · have g2 := cnd_beq_f h2
      refine k_req (by omega) ?_
      exact k_again (⟨x0.1 + 1, by have := sh_lt (by omega) g1; omega⟩) (fun _ hs => hs.le (⟨Ent.refl _, Ent.of_eq (congrArg _ (dbl_a (by omega) (by omega))), Ent.of_eq (congrArg _ shr_1), Ent.of_eq (congrArg _ (out_0 (by rw [bb g1] at g2; omega))), trivial⟩) (trivial)) (by have := sh_lt (by omega) g1; dsimp only; omega)
  · have g1 := cnd_dec_f h1
    exact k_out (Ent.of_eq (congrArg _ (sh_end hk.1 g1)))

end Go.Proofs.YtdaaddkipdmajaaGreatDoor

namespace Go.Sp
open Go Go.Am
def sibN (i : Nat) : Nat := if i % 2 = 0 then i + 1 else i - 1
def pthF (h : Nat → Nat → Int) (d L i x : Nat) : Nat → Int := treF h (d - (L - x)) (sibN (i / 2 ^ x))
theorem sib_x : ∀ i : Fin 64, IntKind.wrap .i64 ((BitVec.ofInt 64 ((i.1 : Nat) : Int) ^^^ BitVec.ofInt 64 1).toNat : Nat) = ((sibN i.1 : Nat) : Int) := by decide +kernel
theorem sib_xor {i : Nat} (h : i < 64) : IntKind.wrap .i64 ((BitVec.ofInt 64 (i : Int) ^^^ BitVec.ofInt 64 1).toNat : Nat) = ((sibN i : Nat) : Int) := sib_x ⟨i, h⟩
theorem sib_lt {i k : Nat} (hk : 0 < k) (h : i < 2 ^ k) : sibN i < 2 ^ k := by
  obtain ⟨m, rfl⟩ : ∃ m, k = m + 1 := ⟨k - 1, by omega⟩
  rw [Nat.pow_succ] at h ⊢
  unfold sibN
  split <;> omega
theorem idx_lt {L i x : Nat} (hx : x ≤ L) (h : i < 2 ^ L) : i / 2 ^ x < 2 ^ (L - x) := by
  apply Nat.div_lt_of_lt_mul
  rw [← Nat.pow_add, show x + (L - x) = L by omega]
  exact h
theorem idx_half {i x : Nat} : i / 2 ^ x / 2 = i / 2 ^ (x + 1) := by rw [Nat.pow_succ, Nat.div_div_eq_div_mul]
theorem idxZ {l i : Int} (hi : 0 ≤ i ∧ i < 2 ^ l.toNat) : i.toNat < 2 ^ l.toNat := by
  have h2 := hi.2
  have e : ((2 ^ l.toNat : Nat) : Int) = 2 ^ l.toNat := by simp
  rw [← e] at h2
  omega
theorem l5 {k : Nat} (h : k ≤ 5) : 2 ^ k ≤ 32 := Nat.pow_le_pow_right (n := 2) (by decide) h
theorem pth_i {L i x : Nat} (hL : L ≤ 5) (hx : x < L) (hi : i < 2 ^ L) : i / 2 ^ x < 2 ^ (L - x) ∧ i / 2 ^ x < 64 ∧ sibN (i / 2 ^ x) < 2 ^ (L - x) ∧ 2 ^ (L - x) ≤ 32 := by
  have h1 := idx_lt (by omega : x ≤ L) hi
  have h2 := l5 (k := L - x) (by omega)
  exact ⟨h1, by omega, sib_lt (by omega) h1, h2⟩
theorem pth_x {L i x : Nat} (hL : L ≤ 5) (hx : x < L) (hi : i < 2 ^ L) : IntKind.wrap .i64 ((BitVec.ofInt 64 ((i / 2 ^ x : Nat) : Int) ^^^ BitVec.ofInt 64 1).toNat : Nat) = ((sibN (i / 2 ^ x) : Nat) : Int) := sib_xor (pth_i hL hx hi).2.1
theorem pth_h {L i x : Nat} (hL : L ≤ 5) (hx : x < L) (hi : i < 2 ^ L) : IntKind.wrap .i64 (Int.tdiv ((i / 2 ^ x : Nat) : Int) 2) = ((i / 2 ^ (x + 1) : Nat) : Int) := by
  have h := (pth_i hL hx hi).2.1
  rw [← idx_half]
  generalize i / 2 ^ x = a at h
  rw [Int.tdiv_eq_ediv_of_nonneg (by omega), wI (by omega) (by omega)]
  omega
theorem pth_e {L x : Nat} : Int.toNat ((L : Int) - x) = L - x := by omega
end Go.Sp

namespace Go.Proofs.YtdaaddkipdmajaaGreatDoor
open Go Go.Am Go.Sp
set_option maxRecDepth 100000

theorem path1_g (i : Int) (n : Nat) (P : Nat → Nat → Int) (hn : n ≤ 1000) : Gives Tryz.prog gl0 140 [⟨2, 1, true, .lst [[.int .i64 i, .osl 1 32 0 n]]⟩, ⟨32, n, true, .row fun r => u8c (P r)⟩] [.agg (u8c (P n)), .own 0 2 0 0 2] (.tup []) [some ⟨2, 1, true, .lst [[.int .i64 i, .osl 2 32 0 (n + 1)]]⟩, none, some ⟨32, n + 1, true, .row fun r => u8c (P r)⟩] := by
  refine gives_sk (own := ow0) (hand := true) Tryz.func140 (by kernel_rfl) mixed (by kernel_rfl)
    (.req ((n + 1) * 32 ≤ 140737488355328) (.out (AV.tup []) ([some ⟨2, 1, true, Rep.lst [[Zi i, AV.osl 2 32 0 (n + 1)]]⟩, none, some ⟨32, n + 1, true, Rep.cat n (Rep.row fun (i : Nat) => u8c (P i)) (Rep.lst [u8c (P n)])⟩]) (AV.tup []) ([some ⟨2, 1, true, Rep.lst [[Zi i, AV.osl 2 32 0 (n + 1)]]⟩, none, some ⟨32, n + 1, true, Rep.row fun (r : Nat) => u8c (P r)⟩])))
    (by kernel_rfl) ?_
  refine k_req (by omega) ?_
  exact k_outg (Ent.of_eq rfl) (⟨ObEnt.refl _, ObEnt.catRow rfl (fun _ _ => EntL.refl _) (EntL.refl _), trivial⟩)

theorem sib27_c (i : Nat) (hi : i < 1000) : Pure Tryz.prog gl0 141 [.int .i64 i] (.int .i64 (sibN i)) := by
  refine pure_sk (own := ow0) Tryz.func141 (by kernel_rfl) mixed (by kernel_rfl)
    (.br (Int.tmod (↑i : Int) (2 : Int) == 0) (.out (Zi (IntKind.wrap IntKind.i64 ((↑i : Int) + 1))) [] (Zi (↑(sibN i) : Int)) []) (.out (Zi (IntKind.wrap IntKind.i64 ((↑i : Int) - 1))) [] (Zi (↑(sibN i) : Int)) []))
    (by kernel_rfl) ?_
  refine k_br (fun h0 => ?_) (fun h0 => ?_)
  · have g0 := cnd_beq_t h0
    exact k_out (Ent.of_eq (congrArg _ (by rw [Int.tmod_eq_emod_of_nonneg (by omega)] at g0; unfold sibN; rw [if_pos (by omega), wI (by omega) (by omega)]; omega)))
  · have g0 := cnd_beq_f h0
    exact k_out (Ent.of_eq (congrArg _ (by rw [Int.tmod_eq_emod_of_nonneg (by omega)] at g0; unfold sibN; rw [if_neg (by omega), wI (by omega) (by omega)]; omega)))

theorem open_c (d L i : Nat) (hd : d ≤ 5) (hL : L ≤ d) (hi : i < 2 ^ L) (h : Nat → Nat → Int) (hb : ∀ i, i < 2 ^ d → byB (h i) 32) : Pure Tryz.prog gl0 139 [hsl (2 ^ d) h, .int .i64 L, .int .i64 i] (.tup [.isl 1 (d + 1) fun i _ => hsl (2 ^ (d - (d - i))) (treF h (d - i)), .int .i64 0]) := by
  refine pure_sk (own := ow0) Tryz.func139 (by kernel_rfl) mixed (by kernel_rfl)
    (let y0 : AV := (AV.tup [AV.isl 1 (d + 1) fun (i x : Nat) => hsl (2 ^ (d - (d - i))) (treF h (d - i)), Zi 0]); (.sc (true) 201 ([Zi (↑(2 ^ d) : Int)]) (AV.tup [Zi (↑d : Int), Zi 0]) (.ff (.req (((decide ((↑L : Int) < 0) || decide ((↑L : Int) > (↑d : Int)) || decide ((↑i : Int) < 0)) == false) = true → (0 : Int) ≤ (↑L : Int)) (.br (decide ((↑L : Int) < 0) || decide ((↑L : Int) > (↑d : Int)) || decide ((↑i : Int) < 0) || decide ((↑i : Int) ≥ IntKind.wrap IntKind.i64 ((1 : Int) * 2 ^ min (Int.toNat (↑L : Int)) 64))) (.out (AV.tup [AV.nsl, Zi 2]) [] y0 []) (.dc (true) 202 ([AV.isl 32 (2 ^ d) fun (i j : Nat) => Zb (h i j)]) (AV.isl 1 (d + 1) fun (i x : Nat) => hsl (2 ^ (d - (d - i))) (treF h (d - i))) (.out (AV.tup [AV.isl 1 (d + 1) fun (i x : Nat) => AV.isl 32 (2 ^ (d - (d - i))) fun (i_1 j : Nat) => Zb (treF h (d - i) i_1 j), Zi 0]) [] y0 [])))))))
    (by kernel_rfl) ?_
  refine k_sc ((depth_c d) (by assumption)) ?_
  refine k_ff ?_
  refine k_req (fun hr => by have hr := (cnd_eqf_t (cnd_or_f (cnd_or_f cnd_dec_f cnd_dec_f) cnd_dec_f)) hr; omega) ?_
  refine k_br (fun h3 => ?_) (fun h3 => ?_)
  · have g3 := (cnd_or_t (cnd_or_t (cnd_or_t cnd_dec_t cnd_dec_t) cnd_dec_t) cnd_dec_t) h3
    try simp only [Int.toNat_natCast] at g3
    exact k_out (by exfalso; rw [shl1 (by omega)] at g3; have := Int.ofNat_lt.2 hi; omega)
  · have g3 := (cnd_or_f (cnd_or_f (cnd_or_f cnd_dec_f cnd_dec_f) cnd_dec_f) cnd_dec_f) h3
    try simp only [Int.toNat_natCast] at g3
    refine k_dc (levels_c (d) (by assumption) (h) (by assumption)) ?_
    exact k_out (Ent.refl _)

def owP : FuncId → Option (List Bool) := fun f => bif Nat.beq f 140 then some [false, true] else none

theorem path1_f (i : Int) (n : Nat) (P : Nat → Nat → Int) (F : Nat → Int) (hn : n ≤ 1000) (hF : F = P n) : Gives Tryz.prog gl0 140 [⟨2, 1, true, .lst [[.int .i64 i, .osl 1 32 0 n]]⟩, ⟨32, n, true, .row fun r => u8c (P r)⟩] [.agg (u8c F), .own 0 2 0 0 2] (.tup []) [some ⟨2, 1, true, .lst [[.int .i64 i, .osl 2 32 0 (n + 1)]]⟩, none, some ⟨32, n + 1, true, .row fun r => u8c (P r)⟩] := by
  subst hF
  exact path1_g i n P hn

theorem rnodeZ_c (d : Nat) (hd : d ≤ 5) (h : Nat → Nat → Int) (hb : ∀ i, i < 2 ^ d → byB (h i) 32) (z : Int) (j : Nat) (hz : 0 ≤ z ∧ z ≤ d) (hj : j < 2 ^ z.toNat) : Pure Tryz.prog gl0 76 [hsl (2 ^ d) h, .int .i64 z, .int .i64 j] (.agg (u8c (treF h (d - z.toNat) j))) := by
  have c := tnode_c d hd h hb (d - z.toNat) j (by omega) (by rw [show d - (d - z.toNat) = z.toNat by omega]; exact hj)
  rw [show ((d - (d - z.toNat) : Nat) : Int) = z by omega] at c
  exact c

theorem tpath_c (d L i : Nat) (hd : d ≤ 5) (hL : L ≤ d) (hi : i < 2 ^ L) (h : Nat → Nat → Int) (hb : ∀ i, i < 2 ^ d → byB (h i) 32) : Pure Tryz.prog gl0 59 [hsl (2 ^ d) h, .int .i64 L, .int .i64 i] (.tup [.agg [.int .i64 i, hss L (pthF h d L i)], .int .i64 0]) := by
  have c1 := open_c d L i hd hL hi h hb
  have c2 := fun n F hn hF => path1_f i n (pthF h d L i) F hn hF
  refine pure_sk (own := owP) Tryz.func59 (by kernel_rfl) mixed (by kernel_rfl)
    (.dc (true) 139 ([AV.isl 32 (2 ^ d) fun (i j : Nat) => Zb (h i j), Zi (↑L : Int), Zi (↑i : Int)]) (AV.tup [AV.isl 1 (d + 1) fun (i x : Nat) => hsl (2 ^ (d - (d - i))) (treF h (d - i)), Zi 0]) (.ff (.loop ({ x : Nat // x ≤ L }) (fun (x : { x : Nat // x ≤ L }) => mkSt [6, 8, 10, 11, 12, 13] [AV.own 0 2 0 0 2, AV.isl 1 (d + 1) fun (i x : Nat) => AV.isl 32 (2 ^ (d - (d - i))) fun (i_1 j : Nat) => Zb (treF h (d - i) i_1 j), AV.own 1 2 0 0 2, AV.fn (Fn.func 140) [] [AV.own 1 2 0 0 2], Zi ((↑L : Int) - (↑(x.1) : Int)), Zi (↑(i / 2 ^ x.1) : Int)] [some ⟨2, 1, true, Rep.lst [[Zi 0, AV.nsl]]⟩, some ⟨2, 1, true, Rep.lst [[Zi (↑i : Int), AV.osl 2 32 0 (x.1)]]⟩, some ⟨32, x.1, true, Rep.row fun (r : Nat) => u8c (pthF h d L i r)⟩]) (fun (x : { x : Nat // x ≤ L }) => L - x.1) (⟨0, Nat.zero_le L⟩) ([6, 8, 10, 11, 12, 13]) ([0, 120, 8378]) ([AV.own 0 2 0 0 2, AV.isl 1 (d + 1) fun (i x : Nat) => AV.isl 32 (2 ^ (d - (d - i))) fun (i_1 j : Nat) => Zb (treF h (d - i) i_1 j), AV.own 1 2 0 0 2, AV.fn (Fn.func 140) [] [AV.own 1 2 0 0 2], Zi (↑L : Int), Zi (↑i : Int)]) ([some ⟨2, 1, true, Rep.lst [[Zi 0, AV.nsl]]⟩, some ⟨2, 1, true, Rep.lst [[Zi (↑i : Int), AV.nsl]]⟩, some ⟨32, 0, true, Rep.lst []⟩]) (fun x2 => (.br (decide ((↑L : Int) - (↑x2.1 : Int) > 0)) (.req ((0 : Int) ≤ (↑L : Int) - (↑x2.1 : Int) ∧ (↑L : Int) - (↑x2.1 : Int) < (↑(d + 1) : Int)) (.req ((0 : Int) ≤ IntKind.wrap IntKind.i64 (↑(BitVec.toNat (BitVec.ofInt 64 (↑(i / 2 ^ x2.1) : Int) ^^^ BitVec.ofInt 64 (1 : Int))) : Int) ∧ IntKind.wrap IntKind.i64 (↑(BitVec.toNat (BitVec.ofInt 64 (↑(i / 2 ^ x2.1) : Int) ^^^ BitVec.ofInt 64 (1 : Int))) : Int) < (↑(2 ^ (d - (d - Int.toNat ((↑L : Int) - (↑x2.1 : Int))))) : Int)) (.gc 140 ([⟨2, 1, true, Rep.lst [[Zi (↑i : Int), AV.osl 1 32 0 x2.1]]⟩, ⟨32, x2.1, true, Rep.row fun (i_1 : Nat) => u8c (pthF h d L i i_1)⟩]) ([AV.agg (u8c (treF h (d - Int.toNat ((↑L : Int) - (↑x2.1 : Int))) (Int.toNat (IntKind.wrap IntKind.i64 (↑(BitVec.toNat (BitVec.ofInt 64 (↑(i / 2 ^ x2.1) : Int) ^^^ BitVec.ofInt 64 (1 : Int))) : Int))))), AV.own 0 2 0 0 2]) (AV.tup []) ([some ⟨2, 1, true, Rep.lst [[Zi (↑i : Int), AV.osl 2 32 0 (x2.1 + 1)]]⟩, none, some ⟨32, x2.1 + 1, true, Rep.row fun (r : Nat) => u8c (pthF h d L i r)⟩]) (.again (Again 0 (fun (x : { x : Nat // x ≤ L }) => mkSt [6, 8, 10, 11, 12, 13] [AV.own 0 2 0 0 2, AV.isl 1 (d + 1) fun (i x : Nat) => AV.isl 32 (2 ^ (d - (d - i))) fun (i_1 j : Nat) => Zb (treF h (d - i) i_1 j), AV.own 1 2 0 0 2, AV.fn (Fn.func 140) [] [AV.own 1 2 0 0 2], Zi ((↑L : Int) - (↑(x.1) : Int)), Zi (↑(i / 2 ^ x.1) : Int)] [some ⟨2, 1, true, Rep.lst [[Zi 0, AV.nsl]]⟩, some ⟨2, 1, true, Rep.lst [[Zi (↑i : Int), AV.osl 2 32 0 (x.1)]]⟩, some ⟨32, x.1, true, Rep.row fun (r : Nat) => u8c (pthF h d L i r)⟩]) (fun (x : { x : Nat // x ≤ L }) => L - x.1) x2) ([6, 8, 10, 11, 12, 13]) ([0, 1, 91]) ([AV.own 0 2 0 0 2, AV.isl 1 (d + 1) fun (i x : Nat) => AV.isl 32 (2 ^ (d - (d - i))) fun (i_1 j : Nat) => Zb (treF h (d - i) i_1 j), AV.own 1 2 0 0 2, AV.fn (Fn.func 140) [] [AV.own 1 2 0 0 2], Zi (IntKind.wrap IntKind.i64 ((↑L : Int) - (↑x2.1 : Int) - 1)), Zi (IntKind.wrap IntKind.i64 (Int.tdiv (↑(i / 2 ^ x2.1) : Int) (2 : Int)))]) ([some ⟨2, 1, true, Rep.lst [[Zi 0, AV.nsl]]⟩, some ⟨2, 1, true, Rep.lst [[Zi (↑i : Int), AV.osl 2 32 0 (x2.1 + 1)]]⟩, some ⟨32, x2.1 + 1, true, Rep.row fun (i_1 : Nat) => u8c (pthF h d L i i_1)⟩]))))) (.out (AV.tup [AV.agg [Zi (↑i : Int), AV.isl 32 x2.1 fun (r k : Nat) => atL (u8c (pthF h d L i (r + 0))) k], Zi 0]) [] (AV.tup [AV.agg [Zi (↑i : Int), hss L (pthF h d L i)], Zi 0]) []))))))
    (by kernel_rfl) ?_
  refine k_dc (c1) ?_
  refine k_ff ?_
  refine k_loop (fun _ hs => hs.le (⟨Ent.refl _, Ent.refl _, Ent.refl _, Ent.refl _,  Ent.of_eq (congrArg _ (by simp)), Ent.of_eq (congrArg _ (by simp)), trivial⟩) (⟨ObEnt.refl _, ObEnt.row ⟨Ent.refl _, Ent.nil rfl, trivial⟩, ObEnt.zero, trivial⟩)) (fun x2 => ?_)
  try (have q2 := x2.2; dsimp only at q2)
  refine k_br (fun h3 => ?_) (fun h3 => ?_)
  · have g3 := cnd_dec_t h3
    refine k_req (by omega) ?_
    refine k_req (by (rw [pth_x (by omega) (by omega) hi, pth_e]; have k := pth_i (i := i) (by omega : L ≤ 5) (by omega : x2.1 < L) hi; rw [show d - (d - (L - x2.1)) = L - x2.1 by omega]; exact ⟨Int.natCast_nonneg _, Int.ofNat_lt.2 k.2.2.1⟩)) ?_
    refine k_gc (c2 (x2.1) (treF h (d - Int.toNat ((↑L : Int) - (↑x2.1 : Int))) (Int.toNat (IntKind.wrap IntKind.i64 (↑(BitVec.toNat (BitVec.ofInt (64) (↑(i / 2 ^ x2.1) : Int) ^^^ BitVec.ofInt (64) (1 : Int))) : Int)))) (by omega) (by (unfold pthF; rw [pth_x (by omega) (by omega) hi, pth_e, Int.toNat_natCast]))) ?_
    exact k_again (⟨x2.1 + 1, by omega⟩) (fun _ hs => hs.le (⟨Ent.refl _, Ent.refl _, Ent.refl _, Ent.refl _,  Ent.of_eq (congrArg _ (by rw [wI (by omega) (by omega)]; dsimp only; omega)), Ent.of_eq (congrArg _ (pth_h (by omega) (by omega) hi)), trivial⟩) (⟨ObEnt.refl _, ObEnt.refl _, ObEnt.refl _, trivial⟩)) (by dsimp only; omega)
  · have g3 := cnd_dec_f h3
    exact k_out (Ent.tup ⟨Ent.agg ⟨Ent.refl _, hsl_out (by omega), trivial⟩, Ent.refl _, trivial⟩)

theorem rpath_c (d L i : Nat) (hd : d ≤ 5) (hL : L ≤ d) (hi : i < 2 ^ L) (h : Nat → Nat → Int) (hb : ∀ i, i < 2 ^ d → byB (h i) 32) : Pure Tryz.prog gl0 61 [hsl (2 ^ d) h, .int .i64 L, .int .i64 i] (.agg [.int .i64 i, hss L (pthF h d L i)]) := by
  have c1 := sib27_c
  have c2 := rnodeZ_c d hd h hb
  refine pure_sk (own := ow0) Tryz.func61 (by kernel_rfl) mixed (by kernel_rfl)
    (.loop ({ x : Nat // x ≤ L }) (fun (x : { x : Nat // x ≤ L }) => mkSt [0, 6, 7, 8, 9] [AV.isl 32 (2 ^ d) fun (i j : Nat) => Zb (h i j), AV.own 0 2 0 0 2, AV.own 1 2 0 0 2, Zi ((↑L : Int) - (↑(x.1) : Int)), Zi (↑(i / 2 ^ x.1) : Int)] [some ⟨2, 1, true, Rep.lst [[Zi 0, AV.nsl]]⟩, some ⟨2, 1, true, Rep.lst [[Zi (↑i : Int), AV.osl 2 32 0 (x.1)]]⟩, some ⟨32, x.1, true, Rep.row fun (r : Nat) => u8c (pthF h d L i r)⟩]) (fun (x : { x : Nat // x ≤ L }) => L - x.1) (⟨0, Nat.zero_le L⟩) ([0, 6, 7, 8, 9]) ([0, 24, 8266]) ([AV.isl 32 (2 ^ d) fun (i j : Nat) => Zb (h i j), AV.own 0 2 0 0 2, AV.own 1 2 0 0 2, Zi (↑L : Int), Zi (↑i : Int)]) ([some ⟨2, 1, true, Rep.lst [[Zi 0, AV.nsl]]⟩, some ⟨2, 1, true, Rep.lst [[Zi (↑i : Int), AV.nsl]]⟩, some ⟨32, 0, true, Rep.lst []⟩]) (fun x0 => (.br (decide ((↑L : Int) - (↑x0.1 : Int) > 0)) (.sc (true) 141 ([Zi (↑(i / 2 ^ x0.1) : Int)]) (Zi (↑(sibN (i / 2 ^ x0.1)) : Int)) (.sc (true) 76 ([AV.isl 32 (2 ^ d) fun (i j : Nat) => Zb (h i j), Zi ((↑L : Int) - (↑x0.1 : Int)), Zi (↑(sibN (i / 2 ^ x0.1)) : Int)]) (AV.agg (u8c (treF h (d - Int.toNat ((↑L : Int) - (↑x0.1 : Int))) (sibN (i / 2 ^ x0.1))))) (.req ((x0.1 + 1) * 32 ≤ 140737488355328) (.again (Again 0 (fun (x : { x : Nat // x ≤ L }) => mkSt [0, 6, 7, 8, 9] [AV.isl 32 (2 ^ d) fun (i j : Nat) => Zb (h i j), AV.own 0 2 0 0 2, AV.own 1 2 0 0 2, Zi ((↑L : Int) - (↑(x.1) : Int)), Zi (↑(i / 2 ^ x.1) : Int)] [some ⟨2, 1, true, Rep.lst [[Zi 0, AV.nsl]]⟩, some ⟨2, 1, true, Rep.lst [[Zi (↑i : Int), AV.osl 2 32 0 (x.1)]]⟩, some ⟨32, x.1, true, Rep.row fun (r : Nat) => u8c (pthF h d L i r)⟩]) (fun (x : { x : Nat // x ≤ L }) => L - x.1) x0) ([0, 6, 7, 8, 9]) ([0, 1, 83]) ([AV.isl 32 (2 ^ d) fun (i j : Nat) => Zb (h i j), AV.own 0 2 0 0 2, AV.own 1 2 0 0 2, Zi (IntKind.wrap IntKind.i64 ((↑L : Int) - (↑x0.1 : Int) - 1)), Zi (IntKind.wrap IntKind.i64 (Int.tdiv (↑(i / 2 ^ x0.1) : Int) (2 : Int)))]) ([some ⟨2, 1, true, Rep.lst [[Zi 0, AV.nsl]]⟩, some ⟨2, 1, true, Rep.lst [[Zi (↑i : Int), AV.osl 2 32 0 (x0.1 + 1)]]⟩, some ⟨32, x0.1 + 1, true, Rep.cat x0.1 (Rep.row fun (i_1 : Nat) => u8c (pthF h d L i i_1)) (Rep.lst [u8c (treF h (d - Int.toNat ((↑L : Int) - (↑x0.1 : Int))) (sibN (i / 2 ^ x0.1)))])⟩]))))) (.out (AV.agg [Zi (↑i : Int), AV.isl 32 x0.1 fun (r k : Nat) => atL (u8c (pthF h d L i (r + 0))) k]) [] (AV.agg [Zi (↑i : Int), hss L (pthF h d L i)]) []))))
    (by kernel_rfl) ?_
  refine k_loop (fun _ hs => hs.le (⟨Ent.refl _, Ent.refl _, Ent.refl _,  Ent.of_eq (congrArg _ (by simp)), Ent.of_eq (congrArg _ (by simp)), trivial⟩) (⟨ObEnt.refl _, ObEnt.row ⟨Ent.refl _, Ent.nil rfl, trivial⟩, ObEnt.zero, trivial⟩)) (fun x0 => ?_)
  try (have q0 := x0.2; dsimp only at q0)
  refine k_br (fun h1 => ?_) (fun h1 => ?_)
  · have g1 := cnd_dec_t h1
    refine k_sc (c1 (i / 2 ^ x0.1) (by (have k := pth_i (i := i) (by omega : L ≤ 5) (by omega : x0.1 < L) hi; omega))) ?_
    refine k_sc (c2 ((↑L : Int) - (↑x0.1 : Int)) (sibN (i / 2 ^ x0.1)) (by omega) (by (have k := pth_i (i := i) (by omega : L ≤ 5) (by omega : x0.1 < L) hi; rw [pth_e]; omega))) ?_
    refine k_req (by omega) ?_
    exact k_again (⟨x0.1 + 1, by omega⟩) (fun _ hs => hs.le (⟨Ent.refl _, Ent.refl _, Ent.refl _,  Ent.of_eq (congrArg _ (by rw [wI (by omega) (by omega)]; dsimp only; omega)), Ent.of_eq (congrArg _ (pth_h (by omega) (by omega) hi)), trivial⟩) (⟨ObEnt.refl _, ObEnt.refl _, ObEnt.catRow rfl (fun _ _ => EntL.refl _) (by rw [pth_e]; exact EntL.refl _), trivial⟩)) (by dsimp only; omega)
  · have g1 := cnd_dec_f h1
    exact k_out (Ent.agg ⟨Ent.refl _, hsl_out (by omega), trivial⟩)

end Go.Proofs.YtdaaddkipdmajaaGreatDoor

namespace Go.Sp
open Go Go.Am
theorem bnotT {c : Bool} (h : (!c) = true) : c = false := by cases c <;> simp_all
theorem bnotF {c : Bool} (h : (!c) = false) : c = true := by cases c <;> simp_all
theorem lv_ex {n : Nat} (h : lvB n = true) : ∃ d, d ≤ 5 ∧ n = 2 ^ d := by
  unfold lvB at h
  rw [firstI_neg] at h
  obtain ⟨i, hi, he⟩ := List.any_eq_true.1 h
  have hi := List.mem_range.1 hi
  have he : (n : Int) = ((2 ^ (0 + i) : Nat) : Int) := by simpa using he
  rw [Nat.zero_add] at he
  exact ⟨i, by omega, by exact_mod_cast he⟩
def mkH (b : Bas) (X : Nat → Nat → Int) (i : Nat) : Nat → Int := leafF (lfJ b X i)
def belB (b : Bas) (c : Coin) (u s : Int) (X : Nat → Nat → Int) (d : Nat) : Bool := decide (c.depth = (d : Int)) && (c.a == psJ b u s && hEq c.root (treF (mkH b X) d 0))
def r1J (b : Bas) (k u s x : Int) : Int := (k * (u * s % b.gr.q) % b.gr.q + x) % b.gr.q
def r2J (b : Bas) (k s x : Int) : Int := (k * s % b.gr.q + x) % b.gr.q
def mkL (b : Bas) (k u s : Int) (X : Nat → Nat → Int) (a : Nat) (j m : Nat) : Int := [lfJ b X (a + j), r1J b k u s (X (a + j) 0), r2J b k s (X (a + j) 1)].getD m 0
def mkS (b : Bas) (c : Coin) (u s : Int) (X : Nat → Nat → Int) (d : Nat) (l i : Int) (x : Cxt) : Spend :=
  ⟨c.bank, c.epoch, c.denom, c.depth, c.a, c.root, c.z, c.sa, c.sb, c.r, l, i, x.payee, x.time, x.number, 2 ^ (d - l.toNat), mkL b (chalN b.gr.q c l i x) u s X (i.toNat * 2 ^ (d - l.toNat)), i, l.toNat, pthF (mkH b X) d l.toNat i.toNat⟩
def mkE (b : Bas) (c : Coin) (u s : Int) (X : Nat → Nat → Int) (n d : Nat) (l i : Int) (x : Cxt) : Int :=
  if secB b u s X n = false then 1 else if (nodeB c.depth l i && ctxB x.time x.number) = false then 2 else if belB b c u s X d = false then 18 else 0
def mkO (b : Bas) (c : Coin) (u s : Int) (X : Nat → Nat → Int) (n d : Nat) (l i : Int) (x : Cxt) : Spend := if mkE b c u s X n d l i x = 0 then mkS b c u s X d l i x else .zero
abbrev mkV (S : Spend) (E : Int) : AV := .tup [S.av, .int .i64 E]
theorem depx_f : ∀ x d : Fin 6, (IntKind.wrap .i64 ((1 : Int) * 2 ^ min (Int.toNat (IntKind.wrap .u64 (x.1 : Int))) 64) == ((2 ^ d.1 : Nat) : Int)) = decide ((x.1 : Int) = (d.1 : Int)) ∧
    (IntKind.wrap .i64 ((1 : Int) * 2 ^ min (Int.toNat (x.1 : Int)) 64) != ((2 ^ d.1 : Nat) : Int)) = !decide ((x.1 : Int) = (d.1 : Int)) := by decide +kernel
theorem dep_x {z : Int} {d : Nat} (h : 0 ≤ z ∧ z ≤ 5) (hd : d ≤ 5) : (IntKind.wrap .i64 ((1 : Int) * 2 ^ min (Int.toNat (IntKind.wrap .u64 z)) 64) == ((2 ^ d : Nat) : Int)) = decide (z = (d : Int)) ∧
    (IntKind.wrap .i64 ((1 : Int) * 2 ^ min (Int.toNat z) 64) != ((2 ^ d : Nat) : Int)) = !decide (z = (d : Int)) := by
  have := depx_f ⟨z.toNat, by omega⟩ ⟨d, by omega⟩
  simp only [Int.toNat_of_nonneg h.1] at this
  exact this
theorem bel_eq {b : Bas} {c : Coin} {u s : Int} {X : Nat → Nat → Int} {d : Nat} (h : 0 ≤ c.depth ∧ c.depth ≤ 5) (hd : d ≤ 5) : ((IntKind.wrap .i64 ((1 : Int) * 2 ^ min (Int.toNat (IntKind.wrap .u64 c.depth)) 64) == ((2 ^ d : Nat) : Int)) && c.a == psJ b u s && hEq c.root (treF (mkH b X) (d - 0) 0)) = belB b c u s X d := by
  rw [(dep_x h hd).1]
  unfold belB
  rw [Bool.and_assoc]; rfl
theorem bel_ne {b : Bas} {c : Coin} {u s : Int} {X : Nat → Nat → Int} {d : Nat} (h : 0 ≤ c.depth ∧ c.depth ≤ 5) (hd : d ≤ 5) : ((IntKind.wrap .i64 ((1 : Int) * 2 ^ min (Int.toNat c.depth) 64) != ((2 ^ d : Nat) : Int)) || c.a != psJ b u s || !hEq c.root (treF (mkH b X) d 0)) = !belB b c u s X d := by
  rw [(dep_x h hd).2]
  unfold belB
  cases decide (c.depth = (d : Int)) <;> cases hq : (c.a == psJ b u s) <;> simp_all
theorem mk_r1 {b : Bas} {k u s x : Int} (h : b.gr.Ok) (hx : 0 ≤ x ∧ x < b.gr.q) : IntKind.wrap .i64 (k * s % b.gr.q * u % b.gr.q + x) % b.gr.q = r1J b k u s x := by
  have k1 := h.q3; have k2 := h.qp; have k3 := h.p1
  have a1 := Int.emod_nonneg (k * s % b.gr.q * u) (by omega : b.gr.q ≠ 0)
  have a2 := Int.emod_lt_of_pos (k * s % b.gr.q * u) (by omega : 0 < b.gr.q)
  rw [wI (by omega) (by omega)]
  unfold r1J
  rw [show k * s % b.gr.q * u % b.gr.q = k * (u * s % b.gr.q) % b.gr.q by rw [Int.mul_emod, Int.emod_emod_of_dvd _ (Int.dvd_refl _), ← Int.mul_emod, Int.mul_assoc, Int.mul_comm s u, Int.mul_emod k (u * s), Int.mul_emod k (u * s % _), Int.emod_emod_of_dvd _ (Int.dvd_refl _)]]
theorem mk_r2 {b : Bas} {k s x : Int} (h : b.gr.Ok) (hx : 0 ≤ x ∧ x < b.gr.q) : IntKind.wrap .i64 (k * s % b.gr.q + x) % b.gr.q = r2J b k s x := by
  have k1 := h.q3; have k2 := h.qp; have k3 := h.p1
  have a1 := Int.emod_nonneg (k * s) (by omega : b.gr.q ≠ 0)
  have a2 := Int.emod_lt_of_pos (k * s) (by omega : 0 < b.gr.q)
  rw [wI (by omega) (by omega)]; rfl
theorem mk_g1 {b : Bas} {k u s x : Int} (h : b.gr.Ok) (hx : 0 ≤ x ∧ x < b.gr.q) : Int.tmod (IntKind.wrap .i64 (k * (u * s % b.gr.q) % b.gr.q + x)) b.gr.q = r1J b k u s x := by
  have k1 := h.q3; have k2 := h.qp; have k3 := h.p1
  have a1 := Int.emod_nonneg (k * (u * s % b.gr.q)) (by omega : b.gr.q ≠ 0)
  have a2 := Int.emod_lt_of_pos (k * (u * s % b.gr.q)) (by omega : 0 < b.gr.q)
  rw [wI (by omega) (by omega), Int.tmod_eq_emod_of_nonneg (by omega)]; rfl
theorem mk_g2 {b : Bas} {k s x : Int} (h : b.gr.Ok) (hx : 0 ≤ x ∧ x < b.gr.q) : Int.tmod (IntKind.wrap .i64 (k * s % b.gr.q + x)) b.gr.q = r2J b k s x := by
  have k1 := h.q3; have k2 := h.qp; have k3 := h.p1
  have a1 := Int.emod_nonneg (k * s) (by omega : b.gr.q ≠ 0)
  have a2 := Int.emod_lt_of_pos (k * s) (by omega : 0 < b.gr.q)
  rw [wI (by omega) (by omega), Int.tmod_eq_emod_of_nonneg (by omega)]; rfl
def mkC (b : Bas) (k u s : Int) (X : Nat → Nat → Int) (a j : Nat) : List AV := [.int .i64 (lfJ b X (a + j)), .int .i64 (r1J b k u s (X (a + j) 0)), .int .i64 (r2J b k s (X (a + j) 1))]
theorem mkC_out {os : List (Option Ob)} {b : Bas} {k u s : Int} {X : Nat → Nat → Int} {a n m : Nat} (h : m = n) : Ent os (.isl 3 m fun r q => atL (mkC b k u s X a (r + 0)) q) (lvs n (mkL b k u s X a)) := by
  subst h
  exact Ent.isl fun i j _ hj => match j, hj with | 0, _ | 1, _ | 2, _ => rfl
theorem pair_b {b : Bas} {X : Nat → Nat → Int} {i : Nat} (h : pairB b X i = true) : (0 ≤ X i 0 ∧ X i 0 < b.gr.q) ∧ (0 ≤ X i 1 ∧ X i 1 < b.gr.q) := ⟨sca_iff.1 (pair_all h).1, sca_iff.1 (pair_all h).2⟩
theorem span_mk {z l i : Int} {d : Nat} (hn : nodeB z l i = true) (hd : z = (d : Int)) : spanA z l i = ((i.toNat * 2 ^ (d - l.toNat) : Nat) : Int) ∧ spanZ z l i = ((i.toNat * 2 ^ (d - l.toNat) + 2 ^ (d - l.toNat) : Nat) : Int) ∧ spanE z l i = 0 := by
  obtain ⟨h1, h2, h3, h4, h5, h6⟩ := node_t hn
  subst hd
  have e : ((d : Int) - l).toNat = d - l.toNat := by omega
  have ei : ((i.toNat : Nat) : Int) = i := Int.toNat_of_nonneg h5
  unfold spanA spanZ spanE
  rw [if_pos hn, if_pos hn, if_pos hn, if_neg (by omega), e]
  refine ⟨?_, ?_, rfl⟩
  · rw [Int.natCast_mul, ei]; simp
  · rw [Int.natCast_add, Int.natCast_mul, ei, Int.add_mul, Int.one_mul]; simp
theorem mk_1 {b : Bas} {c : Coin} {u s : Int} {X : Nat → Nat → Int} {n d : Nat} {l i : Int} {x : Cxt} (h : secB b u s X n = false) : mkO b c u s X n d l i x = .zero ∧ mkE b c u s X n d l i x = 1 := by
  have e : mkE b c u s X n d l i x = 1 := if_pos h
  refine ⟨?_, e⟩
  unfold mkO
  rw [e]; rfl
theorem mk_2 {b : Bas} {c : Coin} {u s : Int} {X : Nat → Nat → Int} {n d : Nat} {l i : Int} {x : Cxt} (h : secB b u s X n = true) (h2 : (nodeB c.depth l i && ctxB x.time x.number) = false) : mkO b c u s X n d l i x = .zero ∧ mkE b c u s X n d l i x = 2 := by
  have e : mkE b c u s X n d l i x = 2 := by unfold mkE; rw [if_neg (by simp [h]), if_pos h2]
  refine ⟨?_, e⟩
  unfold mkO
  rw [e]; rfl
theorem mk_3 {b : Bas} {c : Coin} {u s : Int} {X : Nat → Nat → Int} {n d : Nat} {l i : Int} {x : Cxt} (h : secB b u s X n = true) (h2 : nodeB c.depth l i = true ∧ ctxB x.time x.number = true) (h3 : belB b c u s X d = false) : mkO b c u s X n d l i x = .zero ∧ mkE b c u s X n d l i x = 18 := by
  have e : mkE b c u s X n d l i x = 18 := by unfold mkE; rw [if_neg (by simp [h]), if_neg (by simp [h2]), if_pos h3]
  refine ⟨?_, e⟩
  unfold mkO
  rw [e]; rfl
theorem mk_0 {b : Bas} {c : Coin} {u s : Int} {X : Nat → Nat → Int} {n d : Nat} {l i : Int} {x : Cxt} (h : secB b u s X n = true) (h2 : nodeB c.depth l i = true ∧ ctxB x.time x.number = true) (h3 : belB b c u s X d = true) : mkO b c u s X n d l i x = mkS b c u s X d l i x ∧ mkE b c u s X n d l i x = 0 := by
  have e : mkE b c u s X n d l i x = 0 := by unfold mkE; rw [if_neg (by simp [h]), if_neg (by simp [h2]), if_neg (by simp [h3])]
  refine ⟨?_, e⟩
  unfold mkO
  rw [e]; rfl
theorem mkc_ok {b : Bas} {c : Coin} {l i : Int} {x : Cxt} (hv : validB b = true) (h : chalE b c l i x = 0) : nodeB c.depth l i = true ∧ ctxB x.time x.number = true := by
  unfold chalE at h
  rw [hv] at h
  cases hc : (nodeB c.depth l i && ctxB x.time x.number) with
  | false => rw [hc] at h; cases h
  | true => simpa using hc
theorem mkc_no {b : Bas} {c : Coin} {l i : Int} {x : Cxt} (hv : validB b = true) (h : ¬ chalE b c l i x = 0) : (nodeB c.depth l i && ctxB x.time x.number) = false ∧ chalE b c l i x = 2 := by
  unfold chalE at h ⊢
  rw [hv] at h ⊢
  cases hc : (nodeB c.depth l i && ctxB x.time x.number) with
  | false => exact ⟨rfl, rfl⟩
  | true => rw [hc] at h; exact absurd rfl h
theorem mkc_k {b : Bas} {c : Coin} {l i : Int} {x : Cxt} (hv : validB b = true) (h : nodeB c.depth l i = true ∧ ctxB x.time x.number = true) : chalK b c l i x = chalN b.gr.q c l i x := by
  unfold chalK
  rw [hv, h.1, h.2]; rfl
theorem lf_el {b : Bas} {X : Nat → Nat → Int} {i : Nat} (hv : validB b = true) (h : pairB b X i = true) : elemB b.gr (lfJ b X i) = true := by
  have k := validB_iff.1 hv
  unfold lfJ
  rw [(pr2_ok (pair_all h)).1]
  exact elem_mul k.G (elem_pow k.G k.e1 _) (elem_pow k.G k.e2 _)
theorem span_le {d : Nat} {z l i : Int} (hn : nodeB z l i = true) (hd : z = (d : Int)) : i.toNat * 2 ^ (d - l.toNat) + 2 ^ (d - l.toNat) ≤ 2 ^ d := by
  obtain ⟨h1, h2, h3, h4, h5, h6⟩ := node_t hn
  have hi := idxZ (l := l) ⟨h5, h6⟩
  have e := Nat.mul_le_mul_right (2 ^ (d - l.toNat)) (show i.toNat + 1 ≤ 2 ^ l.toNat from hi)
  rw [Nat.add_mul, Nat.one_mul, ← Nat.pow_add, show l.toNat + (d - l.toNat) = d by omega] at e
  exact e
theorem bel_dep {b : Bas} {c : Coin} {u s : Int} {X : Nat → Nat → Int} {d : Nat} (h : belB b c u s X d = true) : c.depth = (d : Int) := by
  unfold belB at h
  simp only [Bool.and_eq_true, decide_eq_true_eq] at h
  exact h.1
theorem mkc_q {b : Bas} {c : Coin} {l i : Int} {x : Cxt} (h : b.gr.Ok) : 0 ≤ chalN b.gr.q c l i x ∧ chalN b.gr.q c l i x < b.gr.q := num_by (by have := h.q3; omega) 16
theorem mk_AN (b : Bas) (c : Coin) (u s : Int) (X : Nat → Nat → Int) (d : Nat) (l i : Int) : ∃ A N : Nat, A + N ≤ 2 ^ d ∧ (nodeB c.depth l i = true → belB b c u s X d = true → A = i.toNat * 2 ^ (d - l.toNat) ∧ N = 2 ^ (d - l.toNat)) := by
  by_cases h : nodeB c.depth l i = true ∧ belB b c u s X d = true
  · exact ⟨_, _, span_le h.1 (bel_dep h.2), fun _ _ => ⟨rfl, rfl⟩⟩
  · exact ⟨0, 0, Nat.zero_le _, fun h1 h2 => absurd ⟨h1, h2⟩ h⟩
end Go.Sp

namespace Go.Proofs.YtdaaddkipdmajaaGreatDoor
open Go Go.Am Go.Sp
set_option maxRecDepth 100000

theorem tpathZ_c (d : Nat) (l i : Int) (hd : d ≤ 5) (hl : 0 ≤ l ∧ l ≤ d) (hi : 0 ≤ i ∧ i < 2 ^ l.toNat) (h : Nat → Nat → Int) (hb : ∀ i, i < 2 ^ d → byB (h i) 32) : Pure Tryz.prog gl0 59 [hsl (2 ^ d) h, .int .i64 l, .int .i64 i] (.tup [.agg [.int .i64 i, hss l.toNat (pthF h d l.toNat i.toNat)], .int .i64 0]) := by
  have c := tpath_c d l.toNat i.toNat hd (by omega) (idxZ hi) h hb
  rw [Int.toNat_of_nonneg hl.1, Int.toNat_of_nonneg hi.1] at c
  exact c

theorem rpathZ_c (d : Nat) (l i : Int) (hd : d ≤ 5) (hl : 0 ≤ l ∧ l ≤ d) (hi : 0 ≤ i ∧ i < 2 ^ l.toNat) (h : Nat → Nat → Int) (hb : ∀ i, i < 2 ^ d → byB (h i) 32) : Pure Tryz.prog gl0 61 [hsl (2 ^ d) h, .int .i64 l, .int .i64 i] (.agg [.int .i64 i, hss l.toNat (pthF h d l.toNat i.toNat)]) := by
  have c := rpath_c d l.toNat i.toNat hd (by omega) (idxZ hi) h hb
  rw [Int.toNat_of_nonneg hl.1, Int.toNat_of_nonneg hi.1] at c
  exact c

theorem belongs_c (b : Bas) (c : Coin) (u s : Int) (X : Nat → Nat → Int) (d : Nat) (hd : d ≤ 5) (H : SecOk b u s X (2 ^ d)) (hdep : 0 ≤ c.depth ∧ c.depth ≤ 5) : Pure Tryz.prog gl0 24 [b.av, c.av, secA u s X (2 ^ d)] (.bool (belB b c u s X d)) := by
  have hn : 2 ^ d ≤ 1000 := Nat.le_trans (l5 hd) (by decide)
  have c1 := rlvs_c b X (2 ^ d) (validB_iff.1 H.v) hn H.p
  have c2 := rhash_c (2 ^ d) hn (lfJ b X)
  have c3 := rpseu31_c b u s X (2 ^ d) H
  have c4 := rnodeZ_c d hd (mkH b X) (fun i _ => leafF_by _) 0 0 (by omega) (by decide)
  refine pure_sk (own := ow0) Tryz.func24 (by kernel_rfl) mixed (by kernel_rfl)
    (let y0 : Nat := (Int.toNat (IntKind.wrap IntKind.u64 c.4)); (.dc (true) 26 ([AV.agg (Bas.cells b), AV.isl 2 (2 ^ d) fun (i j : Nat) => Zi (X i j)]) (AV.isl 1 (2 ^ d) fun (i x : Nat) => Zi (lfJ b X i)) (.dc (true) 62 ([AV.isl 1 (2 ^ d) fun (i x : Nat) => Zi (lfJ b X i)]) (hsl (2 ^ d) fun (i : Nat) => leafF (lfJ b X i)) (.req ((0 : Int) ≤ IntKind.wrap IntKind.u64 c.4) (.sc ((IntKind.wrap IntKind.i64 ((1 : Int) * 2 ^ min y0 64) == (↑(2 ^ d) : Int)) == true) 87 ([AV.agg (Bas.cells b), AV.agg [Zi u, Zi s, AV.isl 2 (2 ^ d) fun (i j : Nat) => Zi (X i j)]]) (Zi (psJ b u s)) (.sc ((IntKind.wrap IntKind.i64 ((1 : Int) * 2 ^ min y0 64) == (↑(2 ^ d) : Int) && c.5 == psJ b u s) == true) 76 ([AV.isl 32 (2 ^ d) fun (i j : Nat) => Zb (leafF (lfJ b X i) j), Zi 0, Zi 0]) (AV.agg (u8c (treF (mkH b X) (d - Int.toNat (0 : Int)) 0))) (.out (AV.bool (IntKind.wrap IntKind.i64 ((1 : Int) * 2 ^ min y0 64) == (↑(2 ^ d) : Int) && c.5 == psJ b u s && (c.6 0 == treF (mkH b X) (d - 0) 0 0 && (c.6 1 == treF (mkH b X) (d - 0) 0 1 && (c.6 2 == treF (mkH b X) (d - 0) 0 2 && (c.6 3 == treF (mkH b X) (d - 0) 0 3 && (c.6 4 == treF (mkH b X) (d - 0) 0 4 && (c.6 5 == treF (mkH b X) (d - 0) 0 5 && (c.6 6 == treF (mkH b X) (d - 0) 0 6 && (c.6 7 == treF (mkH b X) (d - 0) 0 7 && (c.6 8 == treF (mkH b X) (d - 0) 0 8 && (c.6 9 == treF (mkH b X) (d - 0) 0 9 && (c.6 10 == treF (mkH b X) (d - 0) 0 10 && (c.6 11 == treF (mkH b X) (d - 0) 0 11 && (c.6 12 == treF (mkH b X) (d - 0) 0 12 && (c.6 13 == treF (mkH b X) (d - 0) 0 13 && (c.6 14 == treF (mkH b X) (d - 0) 0 14 && (c.6 15 == treF (mkH b X) (d - 0) 0 15 && (c.6 16 == treF (mkH b X) (d - 0) 0 16 && (c.6 17 == treF (mkH b X) (d - 0) 0 17 && (c.6 18 == treF (mkH b X) (d - 0) 0 18 && (c.6 19 == treF (mkH b X) (d - 0) 0 19 && (c.6 20 == treF (mkH b X) (d - 0) 0 20 && (c.6 21 == treF (mkH b X) (d - 0) 0 21 && (c.6 22 == treF (mkH b X) (d - 0) 0 22 && (c.6 23 == treF (mkH b X) (d - 0) 0 23 && (c.6 24 == treF (mkH b X) (d - 0) 0 24 && (c.6 25 == treF (mkH b X) (d - 0) 0 25 && (c.6 26 == treF (mkH b X) (d - 0) 0 26 && (c.6 27 == treF (mkH b X) (d - 0) 0 27 && (c.6 28 == treF (mkH b X) (d - 0) 0 28 && (c.6 29 == treF (mkH b X) (d - 0) 0 29 && (c.6 30 == treF (mkH b X) (d - 0) 0 30 && (c.6 31 == treF (mkH b X) (d - 0) 0 31 && true)))))))))))))))))))))))))))))))))) [] (AV.bool (belB b c u s X d)) [])))))))
    (by kernel_rfl) ?_
  refine k_dc (c1) ?_
  refine k_dc (c2) ?_
  refine k_req (by rw [wu64m]; omega) ?_
  refine k_scg (fun h3 => c3) ?_
  refine k_scg (fun h4 => c4) ?_
  exact k_out (Ent.of_eq (congrArg _ (bel_eq hdep hd)))


theorem rmake_f (b : Bas) (c : Coin) (u s : Int) (X : Nat → Nat → Int) (n : Nat) (l i : Int) (x : Cxt) (S : Spend) (E : Int) (hw : b.gr.W) (hn : n ≤ 1000) (hs : secB b u s X n = false) (u1 : S = .zero ∧ E = 1) :
    Pure Tryz.prog gl0 15 [b.av, c.av, secA u s X n, .agg [.int .i64 l, .int .i64 i], x.av] (mkV S E) := by
  have c0 := r11valid_c b hw
  have c1 := rsec31_c b u s X n hw hn
  rw [hs] at c1
  refine pure_sk (own := ow0) Tryz.func15 (by kernel_rfl) mixed (by kernel_rfl)
    (.sc (true) 19 ([AV.agg (Bas.cells b)]) (AV.bool (validB b)) (.sc ((!validB b) == false) 21 ([AV.agg (Bas.cells b), AV.agg [Zi u, Zi s, AV.isl 2 n fun (i j : Nat) => Zi (X i j)]]) (AV.bool false) (.br (!validB b || true) (.out (AV.tup [AV.agg [Zi 0, Zi 0, Zi 0, Zi 0, Zi 0, Zb 0, Zb 0, Zb 0, Zb 0, Zb 0, Zb 0, Zb 0, Zb 0, Zb 0, Zb 0, Zb 0, Zb 0, Zb 0, Zb 0, Zb 0, Zb 0, Zb 0, Zb 0, Zb 0, Zb 0, Zb 0, Zb 0, Zb 0, Zb 0, Zb 0, Zb 0, Zb 0, Zb 0, Zb 0, Zb 0, Zb 0, Zb 0, Zi 0, Zi 0, Zi 0, Zi 0, Zi 0, Zi 0, Zb 0, Zb 0, Zb 0, Zb 0, Zb 0, Zb 0, Zb 0, Zb 0, Zb 0, Zb 0, Zb 0, Zb 0, Zb 0, Zb 0, Zb 0, Zb 0, Zb 0, Zb 0, Zb 0, Zb 0, Zb 0, Zb 0, Zb 0, Zb 0, Zb 0, Zb 0, Zb 0, Zb 0, Zb 0, Zb 0, Zb 0, Zb 0, Zi 0, Zi 0, AV.nsl, Zi 0, AV.nsl], Zi 1]) [] (mkV S E) []) .no)))
    (by kernel_rfl) ?_
  refine k_sc (c0) ?_
  refine k_scg (fun h1 => c1) ?_
  refine k_br (fun h2 => ?_) (fun h2 => ?_)
  · have g2 := (cnd_or_t (cnd_not_t cnd_id_f) cnd_id_t) h2
    exact k_out ((by obtain ⟨e1, e2⟩ := u1; rw [e1, e2]; exact Ent.tup ⟨Ent.agg zero_ent, Ent.refl _, trivial⟩))
  · have g2 := (cnd_or_f (cnd_not_f cnd_id_t) cnd_id_f) h2
    exact (show False from ((by rcases g2 with ⟨_, g⟩; cases g)))

theorem rmake_w (b : Bas) (c : Coin) (u s : Int) (X : Nat → Nat → Int) (M : Nat) (l i : Int) (x : Cxt) (A N : Nat) (k : Int) (BEL : Bool) (PF : Nat → Nat → Int) (S : Spend) (E : Int) (hw : b.gr.W) (hM : M ≤ 32) (hAN : A + N ≤ M) (H : SecOk b u s X M) (hk : 0 ≤ k ∧ k < b.gr.q)
    (c4 : nodeB c.depth l i = true → Pure Tryz.prog gl0 24 [b.av, c.av, secA u s X M] (.bool BEL))
    (c5 : nodeB c.depth l i = true → Pure Tryz.prog gl0 47 [b.av, c.av, .agg [.int .i64 l, .int .i64 i], x.av] (.int .i64 k))
    (c8 : nodeB c.depth l i = true → BEL = true → Pure Tryz.prog gl0 61 [hsl M (mkH b X), .int .i64 l, .int .i64 i] (.agg [.int .i64 i, hss l.toNat PF]))
    (c9 : nodeB c.depth l i = true → BEL = true → Pure Tryz.prog gl0 63 [.int .i64 c.depth, .agg [.int .i64 l, .int .i64 i]] (.tup [.int .i64 A, .int .i64 (A + N : Nat)]))
    (u2 : nodeB c.depth l i = false ∨ ctxB x.time x.number = false → S = .zero ∧ E = 2) (u3 : nodeB c.depth l i = true ∧ ctxB x.time x.number = true → BEL = false → S = .zero ∧ E = 18) (u0 : nodeB c.depth l i = true ∧ ctxB x.time x.number = true → BEL = true → S = (⟨c.bank, c.epoch, c.denom, c.depth, c.a, c.root, c.z, c.sa, c.sb, c.r, l, i, x.payee, x.time, x.number, N, mkL b k u s X A, i, l.toNat, PF⟩ : Spend) ∧ E = 0) :
    Pure Tryz.prog gl0 15 [b.av, c.av, secA u s X M, .agg [.int .i64 l, .int .i64 i], x.av] (mkV S E) := by
  have h := validB_iff.1 H.v
  have hn : M ≤ 1000 := by omega
  have c0 := r11valid_c b hw
  rw [H.v] at c0
  have c1 := rsec31_c b u s X M hw hn
  rw [show secB b u s X M = true from sec_of H] at c1
  have k1 := h.G.q3
  have k2 := h.G.qp
  have k3 := h.G.p1
  have c6 := rlvs_c b X M h hn H.p
  have c7 := rhash_c M hn (lfJ b X)
  refine pure_sk (own := ow0) Tryz.func15 (by kernel_rfl) mixed (by kernel_rfl)
    (let y0 : List AV := [Zi 0, Zi 0, Zi 0, Zi 0, Zi 0, Zb 0, Zb 0, Zb 0, Zb 0, Zb 0, Zb 0, Zb 0, Zb 0, Zb 0, Zb 0, Zb 0, Zb 0, Zb 0, Zb 0, Zb 0, Zb 0, Zb 0, Zb 0, Zb 0, Zb 0, Zb 0, Zb 0, Zb 0, Zb 0, Zb 0, Zb 0, Zb 0, Zb 0, Zb 0, Zb 0, Zb 0, Zb 0, Zi 0, Zi 0, Zi 0, Zi 0, Zi 0, Zi 0, Zb 0, Zb 0, Zb 0, Zb 0, Zb 0, Zb 0, Zb 0, Zb 0, Zb 0, Zb 0, Zb 0, Zb 0, Zb 0, Zb 0, Zb 0, Zb 0, Zb 0, Zb 0, Zb 0, Zb 0, Zb 0, Zb 0, Zb 0, Zb 0, Zb 0, Zb 0, Zb 0, Zb 0, Zb 0, Zb 0, Zb 0, Zb 0, Zi 0, Zi 0, AV.nsl, Zi 0, AV.nsl]; let y1 : List AV := [Zi u, Zi s, AV.isl 2 M fun (i j : Nat) => Zi (X i j)]; (.sc (true) 19 ([AV.agg (Bas.cells b)]) (AV.bool true) (.sc (true) 21 ([AV.agg (Bas.cells b), AV.agg y1]) (AV.bool true) (.ff (.sc (true) 22 ([Zi c.4, AV.agg [Zi l, Zi i]]) (AV.bool (nodeB (Coin.depth c) l i)) (.sc ((!nodeB c.4 l i) == false) 23 ([AV.agg (u8c x.1 ++ [Zi x.2, Zi x.3])]) (AV.bool (ctxB (Cxt.time x) (Cxt.number x))) (.br (!nodeB c.4 l i || !ctxB x.2 x.3) (.out (AV.tup [AV.agg y0, Zi 2]) [] (mkV S E) []) (.sc (true) 24 ([AV.agg (Bas.cells b), AV.agg (Coin.cells c), AV.agg y1]) (AV.bool BEL) (.br (!BEL) (.out (AV.tup [AV.agg y0, Zi 18]) [] (mkV S E) []) (.sc (true) 47 ([AV.agg (Bas.cells b), AV.agg (Coin.cells c), AV.agg [Zi l, Zi i], AV.agg (u8c x.1 ++ [Zi x.2, Zi x.3])]) (Zi k) (.dc (true) 26 ([AV.agg (Bas.cells b), AV.isl 2 M fun (i j : Nat) => Zi (X i j)]) (AV.isl 1 M fun (i x : Nat) => Zi (lfJ b X i)) (.dc (true) 62 ([AV.isl 1 M fun (i x : Nat) => Zi (lfJ b X i)]) (hsl M fun (i : Nat) => leafF (lfJ b X i)) (.dc (true) 61 ([AV.isl 32 M fun (i j : Nat) => Zb (leafF (lfJ b X i) j), Zi l, Zi i]) (AV.agg [Zi i, hss (Int.toNat l) PF]) (.sc (true) 63 ([Zi c.4, AV.agg [Zi l, Zi i]]) (AV.tup [Zi (↑A : Int), Zi (↑(A + N) : Int)]) (.loop ({ x : Nat // x ≤ N }) (fun (x_1 : { x : Nat // x ≤ N }) => mkSt [7, 10, 12, 13, 14, 15, 17, 18] [AV.own 0 3 0 0 3, AV.own 1 80 0 0 80, Zi (Bas.gr b).2, Zi k, AV.isl 1 M fun (i x : Nat) => Zi (lfJ b X i), AV.own 2 80 0 0 80, Zi (↑(A + N) : Int), Zi (↑(A + Subtype.val x_1) : Int)] [some ⟨3, 1, true, Rep.lst [y1]⟩, some ⟨80, 1, true, Rep.lst [y0]⟩, some ⟨80, 1, true, Rep.lst [Spend.cw { bank := Coin.bank c, epoch := Coin.epoch c, denom := Coin.denom c, depth := Coin.depth c, a := Coin.a c, root := Coin.root c, z := Coin.z c, sa := Coin.sa c, sb := Coin.sb c, r := Coin.r c, level := l, index := i, payee := Cxt.payee x, time := Cxt.time x, number := Cxt.number x, nl := N, lf := mkL b k u s X A, pidx := i, np := Int.toNat l, pf := PF } (AV.osl 3 3 0 (Subtype.val x_1)) (hss (Int.toNat l) PF)]⟩, some ⟨3, Subtype.val x_1, true, Rep.row fun (j : Nat) => mkC b k u s X A j⟩]) (fun (x : { x : Nat // x ≤ N }) => N - x.1) (⟨0, Nat.zero_le N⟩) ([7, 10, 12, 13, 14, 15, 17, 18]) ([16, 40, 456, 1331]) ([AV.own 0 3 0 0 3, AV.own 1 80 0 0 80, Zi (Bas.gr b).2, Zi k, AV.isl 1 M fun (i x : Nat) => Zi (lfJ b X i), AV.own 2 80 0 0 80, Zi (↑(A + N) : Int), Zi (↑A : Int)]) ([some ⟨3, 1, true, Rep.lst [y1]⟩, some ⟨80, 1, true, Rep.lst [y0]⟩, some ⟨80, 1, true, Rep.lst [Coin.cells c ++ Zi l :: Zi i :: (u8c (Cxt.payee x) ++ [Zi (Cxt.time x), Zi (Cxt.number x), AV.nsl, Zi i, AV.isl 32 (Int.toNat l) fun (i j : Nat) => Zb (PF i j)])]⟩, some ⟨3, 0, true, Rep.lst []⟩]) (fun x15 => (.br (decide ((↑(A + x15.1) : Int) < (↑(A + N) : Int))) (.sc (true) 64 ([Zi k, Zi s, Zi (Bas.gr b).2]) (Zi (k * s % (Bas.gr b).2)) (.sc (true) 64 ([Zi (k * s % (Bas.gr b).2), Zi u, Zi (Bas.gr b).2]) (Zi (k * s % (Bas.gr b).2 * u % (Bas.gr b).2)) (.req ((0 : Int) ≤ (↑(A + x15.1) : Int) ∧ (↑(A + x15.1) : Int) < (↑M : Int)) (.req ((0 : Int) ≤ 0 ∧ (0 : Int) < (↑(2) : Int)) (.sc (true) 65 ([Zi (IntKind.wrap IntKind.i64 (k * s % (Bas.gr b).2 * u % (Bas.gr b).2 + X (Int.toNat (↑(A + x15.1) : Int)) 0)), Zi (Bas.gr b).2]) (Zi (IntKind.wrap IntKind.i64 (k * s % (Bas.gr b).2 * u % (Bas.gr b).2 + X (Int.toNat (↑(A + x15.1) : Int)) 0) % (Bas.gr b).2)) (.req ((0 : Int) ≤ (↑(A + x15.1) : Int) ∧ (↑(A + x15.1) : Int) < (↑M : Int)) (.req ((0 : Int) ≤ 1 ∧ (1 : Int) < (↑(2) : Int)) (.sc (true) 65 ([Zi (IntKind.wrap IntKind.i64 (k * s % (Bas.gr b).2 + X (Int.toNat (↑(A + x15.1) : Int)) 1)), Zi (Bas.gr b).2]) (Zi (IntKind.wrap IntKind.i64 (k * s % (Bas.gr b).2 + X (Int.toNat (↑(A + x15.1) : Int)) 1) % (Bas.gr b).2)) (.req ((0 : Int) ≤ (↑(A + x15.1) : Int) ∧ (↑(A + x15.1) : Int) < (↑M : Int)) (.req ((x15.1 + 1) * 24 ≤ 140737488355328) (.again (Again 0 (fun (x_1 : { x : Nat // x ≤ N }) => mkSt [7, 10, 12, 13, 14, 15, 17, 18] [AV.own 0 3 0 0 3, AV.own 1 80 0 0 80, Zi (Bas.gr b).2, Zi k, AV.isl 1 M fun (i x : Nat) => Zi (lfJ b X i), AV.own 2 80 0 0 80, Zi (↑(A + N) : Int), Zi (↑(A + Subtype.val x_1) : Int)] [some ⟨3, 1, true, Rep.lst [y1]⟩, some ⟨80, 1, true, Rep.lst [y0]⟩, some ⟨80, 1, true, Rep.lst [Spend.cw { bank := Coin.bank c, epoch := Coin.epoch c, denom := Coin.denom c, depth := Coin.depth c, a := Coin.a c, root := Coin.root c, z := Coin.z c, sa := Coin.sa c, sb := Coin.sb c, r := Coin.r c, level := l, index := i, payee := Cxt.payee x, time := Cxt.time x, number := Cxt.number x, nl := N, lf := mkL b k u s X A, pidx := i, np := Int.toNat l, pf := PF } (AV.osl 3 3 0 (Subtype.val x_1)) (hss (Int.toNat l) PF)]⟩, some ⟨3, Subtype.val x_1, true, Rep.row fun (j : Nat) => mkC b k u s X A j⟩]) (fun (x : { x : Nat // x ≤ N }) => N - x.1) x15) ([7, 10, 12, 13, 14, 15, 17, 18]) ([0, 1, 2, 364]) ([AV.own 0 3 0 0 3, AV.own 1 80 0 0 80, Zi (Bas.gr b).2, Zi k, AV.isl 1 M fun (i x : Nat) => Zi (lfJ b X i), AV.own 2 80 0 0 80, Zi (↑(A + N) : Int), Zi (IntKind.wrap IntKind.i64 ((↑(A + x15.1) : Int) + 1))]) ([some ⟨3, 1, true, Rep.lst [y1]⟩, some ⟨80, 1, true, Rep.lst [y0]⟩, some ⟨80, 1, true, Rep.lst [Zi (Spend.bank { bank := Coin.bank c, epoch := Coin.epoch c, denom := Coin.denom c, depth := Coin.depth c, a := Coin.a c, root := Coin.root c, z := Coin.z c, sa := Coin.sa c, sb := Coin.sb c, r := Coin.r c, level := l, index := i, payee := Cxt.payee x, time := Cxt.time x, number := Cxt.number x, nl := N, lf := mkL b k u s X A, pidx := i, np := Int.toNat l, pf := PF }) :: Zi (Spend.epoch { bank := Coin.bank c, epoch := Coin.epoch c, denom := Coin.denom c, depth := Coin.depth c, a := Coin.a c, root := Coin.root c, z := Coin.z c, sa := Coin.sa c, sb := Coin.sb c, r := Coin.r c, level := l, index := i, payee := Cxt.payee x, time := Cxt.time x, number := Cxt.number x, nl := N, lf := mkL b k u s X A, pidx := i, np := Int.toNat l, pf := PF }) :: Zi (Spend.denom { bank := Coin.bank c, epoch := Coin.epoch c, denom := Coin.denom c, depth := Coin.depth c, a := Coin.a c, root := Coin.root c, z := Coin.z c, sa := Coin.sa c, sb := Coin.sb c, r := Coin.r c, level := l, index := i, payee := Cxt.payee x, time := Cxt.time x, number := Cxt.number x, nl := N, lf := mkL b k u s X A, pidx := i, np := Int.toNat l, pf := PF }) :: Zi (Spend.depth { bank := Coin.bank c, epoch := Coin.epoch c, denom := Coin.denom c, depth := Coin.depth c, a := Coin.a c, root := Coin.root c, z := Coin.z c, sa := Coin.sa c, sb := Coin.sb c, r := Coin.r c, level := l, index := i, payee := Cxt.payee x, time := Cxt.time x, number := Cxt.number x, nl := N, lf := mkL b k u s X A, pidx := i, np := Int.toNat l, pf := PF }) :: Zi (Spend.a { bank := Coin.bank c, epoch := Coin.epoch c, denom := Coin.denom c, depth := Coin.depth c, a := Coin.a c, root := Coin.root c, z := Coin.z c, sa := Coin.sa c, sb := Coin.sb c, r := Coin.r c, level := l, index := i, payee := Cxt.payee x, time := Cxt.time x, number := Cxt.number x, nl := N, lf := mkL b k u s X A, pidx := i, np := Int.toNat l, pf := PF }) :: (u8c (Spend.root { bank := Coin.bank c, epoch := Coin.epoch c, denom := Coin.denom c, depth := Coin.depth c, a := Coin.a c, root := Coin.root c, z := Coin.z c, sa := Coin.sa c, sb := Coin.sb c, r := Coin.r c, level := l, index := i, payee := Cxt.payee x, time := Cxt.time x, number := Cxt.number x, nl := N, lf := mkL b k u s X A, pidx := i, np := Int.toNat l, pf := PF }) ++ Zi (Spend.z { bank := Coin.bank c, epoch := Coin.epoch c, denom := Coin.denom c, depth := Coin.depth c, a := Coin.a c, root := Coin.root c, z := Coin.z c, sa := Coin.sa c, sb := Coin.sb c, r := Coin.r c, level := l, index := i, payee := Cxt.payee x, time := Cxt.time x, number := Cxt.number x, nl := N, lf := mkL b k u s X A, pidx := i, np := Int.toNat l, pf := PF }) :: Zi (Spend.sa { bank := Coin.bank c, epoch := Coin.epoch c, denom := Coin.denom c, depth := Coin.depth c, a := Coin.a c, root := Coin.root c, z := Coin.z c, sa := Coin.sa c, sb := Coin.sb c, r := Coin.r c, level := l, index := i, payee := Cxt.payee x, time := Cxt.time x, number := Cxt.number x, nl := N, lf := mkL b k u s X A, pidx := i, np := Int.toNat l, pf := PF }) :: Zi (Spend.sb { bank := Coin.bank c, epoch := Coin.epoch c, denom := Coin.denom c, depth := Coin.depth c, a := Coin.a c, root := Coin.root c, z := Coin.z c, sa := Coin.sa c, sb := Coin.sb c, r := Coin.r c, level := l, index := i, payee := Cxt.payee x, time := Cxt.time x, number := Cxt.number x, nl := N, lf := mkL b k u s X A, pidx := i, np := Int.toNat l, pf := PF }) :: Zi (Spend.r { bank := Coin.bank c, epoch := Coin.epoch c, denom := Coin.denom c, depth := Coin.depth c, a := Coin.a c, root := Coin.root c, z := Coin.z c, sa := Coin.sa c, sb := Coin.sb c, r := Coin.r c, level := l, index := i, payee := Cxt.payee x, time := Cxt.time x, number := Cxt.number x, nl := N, lf := mkL b k u s X A, pidx := i, np := Int.toNat l, pf := PF }) :: Zi (Spend.level { bank := Coin.bank c, epoch := Coin.epoch c, denom := Coin.denom c, depth := Coin.depth c, a := Coin.a c, root := Coin.root c, z := Coin.z c, sa := Coin.sa c, sb := Coin.sb c, r := Coin.r c, level := l, index := i, payee := Cxt.payee x, time := Cxt.time x, number := Cxt.number x, nl := N, lf := mkL b k u s X A, pidx := i, np := Int.toNat l, pf := PF }) :: Zi (Spend.index { bank := Coin.bank c, epoch := Coin.epoch c, denom := Coin.denom c, depth := Coin.depth c, a := Coin.a c, root := Coin.root c, z := Coin.z c, sa := Coin.sa c, sb := Coin.sb c, r := Coin.r c, level := l, index := i, payee := Cxt.payee x, time := Cxt.time x, number := Cxt.number x, nl := N, lf := mkL b k u s X A, pidx := i, np := Int.toNat l, pf := PF }) :: (u8c (Spend.payee { bank := Coin.bank c, epoch := Coin.epoch c, denom := Coin.denom c, depth := Coin.depth c, a := Coin.a c, root := Coin.root c, z := Coin.z c, sa := Coin.sa c, sb := Coin.sb c, r := Coin.r c, level := l, index := i, payee := Cxt.payee x, time := Cxt.time x, number := Cxt.number x, nl := N, lf := mkL b k u s X A, pidx := i, np := Int.toNat l, pf := PF }) ++ [Zi (Spend.time { bank := Coin.bank c, epoch := Coin.epoch c, denom := Coin.denom c, depth := Coin.depth c, a := Coin.a c, root := Coin.root c, z := Coin.z c, sa := Coin.sa c, sb := Coin.sb c, r := Coin.r c, level := l, index := i, payee := Cxt.payee x, time := Cxt.time x, number := Cxt.number x, nl := N, lf := mkL b k u s X A, pidx := i, np := Int.toNat l, pf := PF }), Zi (Spend.number { bank := Coin.bank c, epoch := Coin.epoch c, denom := Coin.denom c, depth := Coin.depth c, a := Coin.a c, root := Coin.root c, z := Coin.z c, sa := Coin.sa c, sb := Coin.sb c, r := Coin.r c, level := l, index := i, payee := Cxt.payee x, time := Cxt.time x, number := Cxt.number x, nl := N, lf := mkL b k u s X A, pidx := i, np := Int.toNat l, pf := PF }), AV.osl 3 3 0 (x15.1 + 1), Zi (Spend.pidx { bank := Coin.bank c, epoch := Coin.epoch c, denom := Coin.denom c, depth := Coin.depth c, a := Coin.a c, root := Coin.root c, z := Coin.z c, sa := Coin.sa c, sb := Coin.sb c, r := Coin.r c, level := l, index := i, payee := Cxt.payee x, time := Cxt.time x, number := Cxt.number x, nl := N, lf := mkL b k u s X A, pidx := i, np := Int.toNat l, pf := PF }), AV.isl 32 (Int.toNat l) fun (i j : Nat) => Zb (PF i j)]))]⟩, some ⟨3, x15.1 + 1, true, Rep.cat x15.1 (Rep.row fun (i : Nat) => [Zi (lfJ b X (A + i)), Zi (r1J b k u s (X (A + i) 0)), Zi (r2J b k s (X (A + i) 1))]) (Rep.lst [[Zi (lfJ b X (Int.toNat (↑(A + x15.1) : Int))), Zi (IntKind.wrap IntKind.i64 (k * s % (Bas.gr b).2 * u % (Bas.gr b).2 + X (Int.toNat (↑(A + x15.1) : Int)) 0) % (Bas.gr b).2), Zi (IntKind.wrap IntKind.i64 (k * s % (Bas.gr b).2 + X (Int.toNat (↑(A + x15.1) : Int)) 1) % (Bas.gr b).2)]])⟩])))))))))))) (.out (AV.tup [AV.agg (Coin.cells c ++ Zi l :: Zi i :: (u8c x.1 ++ [Zi x.2, Zi x.3, AV.isl 3 x15.1 fun (r k_1 : Nat) => atL [Zi (lfJ b X (A + (r + 0))), Zi (r1J b k u s (X (A + (r + 0)) 0)), Zi (r2J b k s (X (A + (r + 0)) 1))] k_1, Zi i, AV.isl 32 (Int.toNat l) fun (i j : Nat) => Zb (PF i j)])), Zi 0]) [] (mkV S E) []))))))))))))))))))
    (by kernel_rfl) ?_
  refine k_sc (c0) ?_
  refine k_sc (c1) ?_
  refine k_ff ?_
  refine k_sc ((rnode_c (Coin.depth c) l i)) ?_
  refine k_scg (fun h4 => (rctx_c x)) ?_
  refine k_br (fun h5 => ?_) (fun h5 => ?_)
  · have g5 := (cnd_or_t (cnd_not_t cnd_id_f) (cnd_not_t cnd_id_f)) h5
    exact k_out ((by obtain ⟨e1, e2⟩ := u2 g5; rw [e1, e2]; exact Ent.tup ⟨Ent.agg zero_ent, Ent.refl _, trivial⟩))
  · have g5 := (cnd_or_f (cnd_not_f cnd_id_t) (cnd_not_f cnd_id_t)) h5
    refine k_sc (c4 (by exact g5.1)) ?_
    refine k_br (fun h8 => ?_) (fun h8 => ?_)
    · have g8 := (cnd_not_t cnd_id_f) h8
      exact k_out ((by obtain ⟨e1, e2⟩ := u3 g5 g8; rw [e1, e2]; exact Ent.tup ⟨Ent.agg zero_ent, Ent.refl _, trivial⟩))
    · have g8 := (cnd_not_f cnd_id_t) h8
      refine k_sc (c5 (by exact g5.1)) ?_
      refine k_dc (c6) ?_
      refine k_dc (c7) ?_
      refine k_dc (c8 (by exact g5.1) (by assumption)) ?_
      refine k_sc (c9 (by exact g5.1) (by assumption)) ?_
      refine k_loop (fun _ hs => hs.le (⟨.refl _, .refl _, .refl _, .refl _, .refl _, .refl _, .refl _, .refl _, trivial⟩) (⟨ObEnt.refl _, ObEnt.refl _, ObEnt.row (cw_ent (⟨c.bank, c.epoch, c.denom, c.depth, c.a, c.root, c.z, c.sa, c.sb, c.r, l, i, x.payee, x.time, x.number, N, mkL b k u s X A, i, l.toNat, PF⟩ : Spend) (Ent.nil rfl) (Ent.refl _)), ObEnt.zero, trivial⟩)) (fun x15 => ?_)
      try (have q15 := x15.2; dsimp only at q15)
      have hx := fun (hz : x15.1 < N) => pair_b (H.p (A + x15.1) (by omega))
      refine k_br (fun h16 => ?_) (fun h16 => ?_)
      · have g16 := cnd_dec_t h16
        refine k_sc (rmul_c (k) (s) ((Bas.gr b).2) (by omega) (by omega) (by exact (nz_rng H.hs).1) (by exact (nz_rng H.hs).2) (by omega)) ?_
        refine k_sc (rmul_c (k * s % (Bas.gr b).2) (u) ((Bas.gr b).2) (by exact Int.emod_nonneg _ (by omega)) (by exact Int.emod_lt_of_pos _ (by omega)) (by exact (nz_rng H.hu).1) (by exact (nz_rng H.hu).2) (by omega)) ?_
        refine k_req (by omega) ?_
        refine k_req (by omega) ?_
        refine k_sc (rreduce_c (IntKind.wrap IntKind.i64 (k * s % (Bas.gr b).2 * u % (Bas.gr b).2 + X (Int.toNat (↑(A + x15.1) : Int)) (0))) ((Bas.gr b).2) (by omega) (by omega)) ?_
        refine k_req (by omega) ?_
        refine k_req (by omega) ?_
        refine k_sc (rreduce_c (IntKind.wrap IntKind.i64 (k * s % (Bas.gr b).2 + X (Int.toNat (↑(A + x15.1) : Int)) (1))) ((Bas.gr b).2) (by omega) (by omega)) ?_
        refine k_req (by omega) ?_
        refine k_req (by omega) ?_
        exact k_again (⟨x15.1 + 1, by omega⟩) (fun _ hs => hs.le (⟨.refl _, .refl _, .refl _, .refl _, .refl _, .refl _, .refl _, inc_ent (by omega), trivial⟩) (⟨ObEnt.refl _, ObEnt.refl _, ObEnt.refl _, ObEnt.catRow rfl (fun _ _ => EntL.refl _) ⟨Ent.refl _, Ent.of_eq (congrArg _ (mk_r1 h.G (hx (by omega)).1)), Ent.of_eq (congrArg _ (mk_r2 h.G (hx (by omega)).2)), trivial⟩, trivial⟩)) (by dsimp only; omega)
      · have g16 := cnd_dec_f h16
        exact k_out ((by obtain ⟨e1, e2⟩ := u0 g5 g8; rw [e1, e2]; exact Ent.tup ⟨Ent.agg (cw_ent (⟨c.bank, c.epoch, c.denom, c.depth, c.a, c.root, c.z, c.sa, c.sb, c.r, l, i, x.payee, x.time, x.number, N, mkL b k u s X A, i, l.toNat, PF⟩ : Spend) (mkC_out (n := N) (by omega)) (Ent.refl _)), Ent.refl _, trivial⟩))

end Go.Proofs.YtdaaddkipdmajaaGreatDoor
