/- Part of the proof: Inv, Exp, Exp2, Tre, Rec, Crt, Cval, Prd, Vfy, Glt, Sec, AnyL, Trn, Spt, Bnk, CX2, CE1, CE2, CE3, CE4, CC1, CE5, CE8, CV5, CV6, CV7, CX3, CX4, CX5, CRV. -/
import Derived.Test.YtgnfjlekpgjehaaGreatDoorM3
import Derived.Test.YtgnfjlekpgjehaaGreatDoorM4
import Derived.Test.YtgnfjlekpgjehaaGreatDoorProg
import Derived.Test.YtgnfjlekpgjehaaGreatDoorM2
namespace Go.Sp
open Go.IntKind (wrap)
open Int (toNat)
open Go Go.Am
theorem En {a m x y:Int} (hx:0≤x∧x<m) (hy:0≤y∧y<m) (h1:m ∣ a*x - 1) (h2:m ∣ a*y - 1):x=y:=by
 have h:m ∣ x - y:=by
  obtain ⟨k,hk⟩:=h1
  obtain ⟨j,hj⟩:=h2
  refine ⟨x*j*(-1)+y*k,?_⟩
  grind
 have e:=Int.emod_eq_emod_iff_emod_sub_eq_zero.2 (Int.emod_eq_zero_of_dvd h)
 simp_all [Int.emod_eq_of_lt]
open Classical in
noncomputable def gA (a m:Int):Int:=if h:∃ x,(0≤x∧x<m)∧m ∣ a*x - 1 then Classical.choose h else 0
theorem yF {a m x:Int} (hx:0≤x∧x<m) (h:m ∣ a*x - 1):gA a m=x:=by
 have hh:∃ x,(0≤x∧x<m)∧m ∣ a*x - 1:=⟨x,hx,h⟩
 unfold gA
 rw [dif_pos hh]
 grind [En,Classical.choose_spec]
theorem rr {a m:Int} (h:Int.gcd a m≠1):gA a m=0:=by
 unfold gA
 refine dif_neg ?_
 rintro ⟨x,_,k,hk⟩
 apply h
 have h1:((Int.gcd a m:Nat):Int) ∣ 1:=by
  obtain ⟨p,hp⟩:=Int.gcd_dvd_left (a:=a) (b:=m)
  obtain ⟨q,hq⟩:=Int.gcd_dvd_right (a:=a) (b:=m)
  refine ⟨p*x - q*k,?_⟩
  grind
 have:=Int.le_of_dvd (by decide) h1
 have h0:Int.gcd a m≠0:=fun h0=>by simp_all
 omega
theorem jZ {a m:Int} (hm:0<m):0≤gA a m∧gA a m<m:=by
 unfold gA
 split<;>grind
structure EgI (a0 m d a x n : Int) : Prop where
  an : 0 ≤ a
  ad : a < d
  d1 : d ≤ m
  sg : ∃ u v : Int, 0 ≤ u ∧ u ≤ m ∧ 0 ≤ v ∧ v ≤ m ∧ (x = -u ∧ n = v ∨ x = u ∧ n = -v) ∧ v * d + u * a = m
  c1 : m ∣ a0 * x - d
  c2 : m ∣ a0 * n - a
  g : Int.gcd d a = Int.gcd a0 m
theorem EgI.start {a m:Int} (h0:0≤a) (h1:a<m):EgI a m m a 0 1 where
 an:=h0
 ad:=h1
 d1:=Int.le_refl _
 sg:=⟨0,1,by omega,by omega,by omega,by omega,Or.inl ⟨rfl,rfl⟩,by omega⟩
 c1:=⟨-1,by omega⟩
 c2:=⟨0,by omega⟩
 g:=Int.gcd_comm _ _
theorem EgI.nxt {a0 m d a x n:Int} (h:EgI a0 m d a x n) (ha:a≠0):EgI a0 m a (d%a) n (x - d / a*n)∧0≤d / a∧d / a*a≤d ∧ -m≤d / a*n∧d / a*n≤m ∧ -m≤n∧n≤m∧d - d / a*a=d%a:=by
 have p:0<a:=by have:=h.an;omega
 have q0:0≤d / a:=Int.ediv_nonneg (by have:=h.ad;omega) (by omega)
 have e:=Int.mul_ediv_add_emod d a
 have r0:=Int.emod_nonneg d ha
 have r1:=Int.emod_lt_of_pos d p
 have hd:=h.ad
 have hm:=h.d1
 obtain ⟨u,v,u0,u1,v0,v1,hs,hv⟩:=h.sg
 generalize d / a=q at *
 generalize hr:d%a=r at *
 have qv:0≤q*v:=Int.mul_nonneg q0 v0
 have hv':(u+q*v)*a+v*r=m:=by grind
 have vr:0≤v*r:=Int.mul_nonneg v0 r0
 have t0:0≤u+q*v:=by omega
 have t1:u+q*v≤m:=by
  have:(u+q*v)*1≤(u+q*v)*a:=Int.mul_le_mul_of_nonneg_left (by omega) t0
  omega
 refine ⟨⟨r0,r1,by omega,⟨v,u+q*v,v0,v1,t0,t1,?_,hv'⟩,h.c2,?_,?_⟩,q0,by grind,?_,?_,?_,?_,by grind⟩
 ·grind
 ·obtain ⟨k,hk⟩:=h.c1
  obtain ⟨j,hj⟩:=h.c2
  refine ⟨k - q*j,?_⟩
  grind
 ·rw [← h.g,Int.gcd_comm d a,show r=d - a*q by omega]
  simp
 ·rcases hs with ⟨_,rfl⟩|⟨_,rfl⟩
  ·omega
  grind
 ·rcases hs with ⟨_,rfl⟩|⟨_,rfl⟩
  ·omega
  grind
 ·omega
 omega
def eg (d a x n:Int):Int×Int:=if 0<a then eg a (d%a) n (x - d / a*n) else (d,x)
termination_by a.toNat
decreasing_by have:=Int.emod_lt_of_pos d (by omega:0<a);omega
theorem HF {d a x n:Int} (h:0<a):eg d a x n=eg a (d%a) n (x - d / a*n):=by
 rw [eg,if_pos h]
theorem JG {d a x n:Int} (h:¬0<a):eg d a x n=(d,x):=by
 rw [eg,if_neg h]
def qy (a m:Int) (s:Int×Int×Int×Int):Prop:=EgI a m s.1 s.2.1 s.2.2.1 s.2.2.2∧eg s.1 s.2.1 s.2.2.1 s.2.2.2=eg m a 0 1
theorem qy.start {a m:Int} (h0:0≤a) (h1:a<m):qy a m (m,a,0,1):=⟨.start h0 h1,rfl⟩
theorem qy.step {a0 m d a x n:Int} (h:qy a0 m (d,a,x,n)) (ha:a≠0):qy a0 m (a,d%a,n,x - d / a*n) :=
 ⟨(h.1.nxt ha).1,(HF (by have:=h.1.an;grind)).symm.trans h.2⟩
def xS (a m:Int):Int:=let x:=(eg m a 0 1).2;(if x<0 then x+m else x)%m
theorem qy.fin {a0 m d a x n:Int} (h:qy a0 m (d,a,x,n)) (ha:a=0):d=Int.gcd a0 m∧eg m a0 0 1=(d,x) ∧ -m≤x∧x≤m:=by
 subst ha
 obtain ⟨h1,h2⟩:=h
 dsimp only at h1 h2
 refine ⟨?_,by grind [JG],?_⟩
 ·rw [← h1.g,Int.gcd_zero_right]
  have:=h1.ad
  omega
 ·obtain ⟨u,v,u0,u1,v0,v1,hs,hv⟩:=h1.sg
  omega
theorem qy.all {a0 m:Int}:∀ (k:Nat) (s:Int×Int×Int×Int),s.2.1.toNat≤k→qy a0 m s→∃ d x n,qy a0 m (d,0,x,n)
 | k,(d,a,x,n),hk,h=>by
  by_cases ha:a=0
  ·grind
  ·have h0:=h.1.an
   dsimp only at h0 hk
   cases k with
   | zero=>omega
   | succ k =>
    have:=Int.emod_lt_of_pos d (show 0<a by omega)
    have:=Int.emod_nonneg d ha
    exact qy.all k _ (by grind) (h.step ha)
theorem Ii {a m:Int} (h0:0≤a) (h1:a<m):(0≤xS a m∧xS a m<m)∧(Int.gcd a m=1→xS a m=gA a m):=by
 obtain ⟨d,x,n,h⟩:=qy.all _ _ (Nat.le_refl _) (qy.start h0 h1)
 obtain ⟨hd,he,-,-⟩:=h.fin rfl
 have hb:0≤xS a m∧xS a m<m:=⟨Int.emod_nonneg _ (by omega),Int.emod_lt_of_pos _ (by omega)⟩
 refine ⟨hb,fun hg=>(yF hb ?_).symm⟩
 have c1:=h.1.c1
 dsimp only at c1
 rw [hd,hg] at c1
 unfold xS
 rw [he]
 dsimp only
 obtain ⟨k,hk⟩:=c1
 have e2:∀ y:Int,a*(y%m) - 1=(a*y - 1) - m*(a*(y / m)):=fun y=>by
  have:=Int.mul_ediv_add_emod y m
  grind
 split
 ·rw [e2]
  refine ⟨k+a - a*((x+m) / m),?_⟩
  grind
 ·rw [e2]
  refine ⟨k - a*(x / m),?_⟩
  grind
structure Eb (a0 m u v x y : Int) : Prop where
  u0 : 0 ≤ u
  u1 : u ≤ m
  v0 : 0 ≤ v
  v1 : v ≤ m
  x0 : 0 ≤ x
  x1 : x < m
  y0 : 0 ≤ y
  y1 : y < m
  c1 : m ∣ a0 * x - u
  c2 : m ∣ a0 * y - v
  g : Int.gcd u v = Int.gcd a0 m
theorem Eb.start {a m:Int} (h0:0≤a) (h1:a<m):Eb a m a m (1%m) 0 where
 u0:=h0
 u1:=by omega
 v0:=by omega
 v1:=by omega
 x0:=Int.emod_nonneg _ (by omega)
 x1:=Int.emod_lt_of_pos _ (by omega)
 y0:=by omega
 y1:=by omega
 c1:=by
  have e:=Int.mul_ediv_add_emod 1 m
  refine ⟨-(a*(1 / m)),?_⟩
  grind
 c2:=⟨-1,by omega⟩
 g:=rfl
theorem Eb.nxt {a0 m u v x y:Int} (h:Eb a0 m u v x y) (hv:v≠0):Eb a0 m v (u%v) y ((x - u / v%m*y%m)%m)∧0≤u / v∧u / v≤m∧u / v*v≤u∧0≤u / v*v∧u - u / v*v=u%v:=by
 have p:0<v:=by have:=h.v0;omega
 have hm:0<m:=by have:=h.v1;omega
 have q0:0≤u / v:=Int.ediv_nonneg h.u0 (by omega)
 have e:=Int.mul_ediv_add_emod u v
 have r0:=Int.emod_nonneg u hv
 have r1:=Int.emod_lt_of_pos u p
 have hu:=h.u0
 have hu1:=h.u1
 have hv1:=h.v1
 have qv:u / v*v≤u:=by grind
 have q1:u / v≤m:=by
  have:u / v*1≤u / v*v:=Int.mul_le_mul_of_nonneg_left (by omega) q0
  omega
 refine ⟨⟨by omega,by omega,r0,by omega,h.y0,h.y1,Int.emod_nonneg _ (by omega),Int.emod_lt_of_pos _ hm,h.c2,?_,?_⟩,q0,q1,qv,Int.mul_nonneg q0 (by omega),by grind⟩
 ·obtain ⟨k,hk⟩:=h.c1
  obtain ⟨j,hj⟩:=h.c2
  have e1:=Int.mul_ediv_add_emod (u / v) m
  have e2:=Int.mul_ediv_add_emod (u / v%m*y) m
  have e3:=Int.mul_ediv_add_emod (x - u / v%m*y%m) m
  generalize (x - u / v%m*y%m)%m=z at *
  generalize (x - u / v%m*y%m) / m=z' at *
  generalize u / v%m*y%m=w at *
  generalize u / v%m*y / m=w' at *
  generalize u / v%m=qm at *
  generalize u / v / m=qm' at *
  generalize u / v=q at *
  generalize u%v=r at *
  refine ⟨k - q*j+a0*(qm'*y+w' - z'),?_⟩
  grind
 ·rw [← h.g,Int.gcd_comm u v,show u%v=u - v*(u / v) by omega]
  simp
theorem Eb.fin {a0 m u x y:Int} (h:Eb a0 m u 0 x y) (hg:Int.gcd a0 m=1):x=gA a0 m:=by
 have hu:u=1:=by
  have:=h.g
  have h0:=h.u0
  grind [Int.gcd_zero_right]
 exact (yF ⟨h.x0,h.x1⟩ (hu▸h.c1)).symm
theorem EgI.w {a0 m d a x n:Int} (h:EgI a0 m d a x n) (ha:a≠0) (hm:m<2305843009213693952) :
  IntKind.wrap .i64 (d - IntKind.wrap .i64 (IntKind.wrap .i64 (Int.tdiv d a)*a))=d%a∧IntKind.wrap .i64 (x - IntKind.wrap .i64 (IntKind.wrap .i64 (Int.tdiv d a)*n))=x - d / a*n∧d%a<a∧0≤d%a:=by
 obtain ⟨h1,q0,q1,n0,n1,n2,n3,e⟩:=h.nxt ha
 have hd:=h.ad;have hm1:=h.d1;have h0:=h.an
 have r0:=h1.an;have r1:=h1.ad
 have qd:d / a≤d:=by
  have:d / a*1≤d / a*a:=Int.mul_le_mul_of_nonneg_left (by omega) q0
  omega
 have e1:IntKind.wrap .i64 (Int.tdiv d a)=d / a:=by grind [Int.tdiv_eq_ediv_of_nonneg,wI]
 have e2:IntKind.wrap .i64 (d / a*a)=d / a*a:=wI (by omega) (by omega)
 obtain ⟨u,v,u0,u1,v0,v1,hs,hv⟩:=h1.sg
 rw [e1,e2,wI (n:=d - d / a*a) (by omega) (by omega),wI (n:=d / a*n) (by omega) (by omega),wI (n:=x - d / a*n) (by omega) (by omega)]
 omega
theorem qy.out {a0 m:Int} {s:Int×Int×Int×Int} (h:qy a0 m s) (ha:s.2.1=0) (hm:m<2305843009213693952) :
  s.1=Int.gcd a0 m∧(s.2.2.1<0→Int.tmod (IntKind.wrap .i64 (s.2.2.1+m)) m=xS a0 m)∧(¬s.2.2.1<0→Int.tmod s.2.2.1 m=xS a0 m)∧0<m:=by
 obtain ⟨d,a,x,n⟩:=s
 obtain ⟨h1,h2,h3,h4⟩:=qy.fin h ha
 have h5:=h.1.d1;have h6:=h.1.ad;have h7:=h.1.an
 dsimp only at *
 refine ⟨h1,fun hx=>?_,fun hx=>?_,by omega⟩
 ·rw [wI (by omega) (by omega),bY (by omega)]
  simp_all [xS]
 simp_all [bY,xS,if_neg]
theorem Eb.w {a0 m u v x y:Int} (h:Eb a0 m u v x y) (hv:v≠0) (hm:m<2305843009213693952) :
  IntKind.wrap .i64 (Int.tdiv u v)=u / v∧IntKind.wrap .i64 (u - IntKind.wrap .i64 (IntKind.wrap .i64 (Int.tdiv u v)*v))=u%v∧u%v<v∧0≤u%v∧0<m∧0≤u / v%m∧u / v%m<m∧IntKind.wrap .i64 (x - u / v%m*y%m)=x - u / v%m*y%m:=by
 obtain ⟨h1,q0,q1,n0,n1,e⟩:=h.nxt hv
 have b1:=h.u0;have b2:=h.u1;have b3:=h.v0;have b4:=h.v1;have b5:=h.x0;have b6:=h.x1
 have r0:=Int.emod_nonneg u hv
 have r1:=Int.emod_lt_of_pos u (show 0<v by omega)
 have m0:0<m:=by omega
 have e1:IntKind.wrap .i64 (Int.tdiv u v)=u / v:=by grind [Int.tdiv_eq_ediv_of_nonneg,wI]
 have c0:=Int.emod_nonneg (u / v%m*y) (show m≠0 by omega)
 have c1:=Int.emod_lt_of_pos (u / v%m*y) m0
 refine ⟨e1,?_,r1,r0,m0,Int.emod_nonneg _ (by omega),Int.emod_lt_of_pos _ m0,wI (by omega) (by omega)⟩
 grind [wI]
theorem Ez (a b:Int):Int.gcd b (a%b)=Int.gcd a b:=by simp [Int.gcd_comm,Int.emod_def]
theorem Du {x y:Int} {g:Nat} (hx:0≤x) (hy:y=0) (h:Int.gcd x y=g):x=g:=by grind [Int.gcd_zero_right]
theorem Fg {a m:Int} (h0:0≤a) (h1:a<m) (hm:m<2305843009213693952):cW a a m=0:=by grind [cW]
def aA.dX (s:aA):bQ:=⟨s.ju,s.fK,s.gq,s.depth,s.a,s.root,s.z,s.sa,s.sb,s.r⟩
def aA.l6 (s:aA):i9:=⟨s.bI,s.time,s.number⟩
structure aA.By (s : aA) : Prop where
  root : cC s.root 32
  bI : cC s.bI 32
def l5 (b:aI) (s:aA):Int:=iL b.gr.q s.dX s.level s.index s.l6
def gR (b:aI) (x:Int):Bool:=decide (x≥0)&&decide (x<b.gr.q)
theorem kZ {s:aA} (h:dC s=true):bT s.depth s.level s.index=true∧fL s.time s.number=true∧bK s=db s.depth s.level s.index∧oz s=dg s.depth s.level s.index∧(s.nl:Int)=oz s - bK s:=by
 have hf:bK s=db s.depth s.level s.index:=by grind [bK]
 have ht:oz s=dg s.depth s.level s.index:=by grind [oz]
 have hn:bT s.depth s.level s.index=true:=by grind [bT,dC,gV]
 have hb:=lu s
 have hz:0≤oz s∧oz s≤2000:=by
  rw [ht]
  unfold dg
  rw [if_pos hn]
  obtain ⟨h1,h2,h3,h4,h5,h6⟩:=iH hn
  obtain ⟨q1,_,q2,q3⟩:=p2 (k:=s.depth - s.level) (by omega) (by omega)
  obtain ⟨_,_,r2,r3⟩:=p2 (k:=s.level) (by omega) (by omega)
  obtain ⟨b1,b2,b3,b4⟩:=bnd h5 h6 r3 q2 q3
  omega
 grind [dC,fL,wI]
theorem KW {s:aA} (h:dC s=true):oz s≤2000:=by
 obtain ⟨hn,_,_,ht,_⟩:=kZ h
 rw [ht]
 unfold dg
 rw [if_pos hn]
 obtain ⟨h1,h2,h3,h4,h5,h6⟩:=iH hn
 obtain ⟨q1,_,q2,q3⟩:=p2 (k:=s.depth - s.level) (by omega) (by omega)
 obtain ⟨_,_,r2,r3⟩:=p2 (k:=s.level) (by omega) (by omega)
 obtain ⟨b1,b2,b3,b4⟩:=bnd h5 h6 r3 q2 q3
 omega
def eW (s t:aA) (i:Nat):Nat:=(aK (fun k=>t.lf k 0==s.lf i 0) t.nl 0).toNat
def cz (s:aA) (leaf:Int):Nat:=(leaf - bK s).toNat
noncomputable def cQ (b:aI) (s t:aA) (leaf:Int):Int×Int :=
 if aR b=false∨(dC s&&dC t)=false then (0,1)
 else if leaf<bK s∨oz s≤leaf then (0,2)
 else if ¬(s.a=t.a∧found t (s.lf (cz s leaf) 0)=true) then (0,7)
 else if gR b (s.lf (cz s leaf) 1)=false∨gR b (s.lf (cz s leaf) 2)=false∨gR b (t.lf (eW s t (cz s leaf)) 1)=false∨gR b (t.lf (eW s t (cz s leaf)) 2)=false then (0,2)
 else if l5 b s=l5 b t then (0,20)
 else if s.lf (cz s leaf) 2=t.lf (eW s t (cz s leaf)) 2 then (0,10)
 else ((s.lf (cz s leaf) 1 - t.lf (eW s t (cz s leaf)) 1)%b.gr.q*gA ((s.lf (cz s leaf) 2 - t.lf (eW s t (cz s leaf)) 2)%b.gr.q) b.gr.q%b.gr.q,0)
theorem fV {s t:aA} {leaf:Int} (h:dC s=true) (h1:¬(leaf<bK s∨oz s≤leaf)):leaf∈da s t↔(s.a=t.a∧found t (s.lf (cz s leaf) 0)=true):=by
 obtain ⟨_,_,_,_,hn⟩:=kZ h
 unfold da
 by_cases ha:s.a=t.a
 ·rw [if_neg (by omega)]
  unfold cK cz
  grind
 grind
theorem yN {s t:aA} {i:Nat} (h:found t (s.lf i 0)=true):eW s t i<t.nl∧aK (fun k=>t.lf k 0==s.lf i 0) t.nl 0=(eW s t i:Nat):=by
 have h0:aK (fun k=>t.lf k 0==s.lf i 0) t.nl 0≥0:=of_decide_eq_true h
 have h1:=jA (p:=fun k=>t.lf k 0==s.lf i 0) t.nl 0
 grind [eW]
theorem Ay {l:List Int} {v:Int}:(decide (aK (fun i=>l.getD i 0==v) l.length 0≥0))=decide (v∈l):=by
 rw [gH]
 rw [Bool.eq_iff_iff]
 simp only [Nat.zero_add,List.any_eq_true,List.mem_range,beq_iff_eq,decide_eq_true_eq]
 constructor
 ·grind
 ·intro h
  obtain ⟨i,hi,rfl⟩:=List.mem_iff_getElem.1 h
  exact ⟨i,hi,by grind⟩
theorem v7 {s:aA} {leaf:Int} (h:dC s=true) (h1:¬(leaf<bK s∨oz s≤leaf)):0≤IntKind.wrap .i64 (leaf - bK s)∧IntKind.wrap .i64 (leaf - bK s)<s.nl∧toNat (IntKind.wrap .i64 (leaf - bK s))=cz s leaf:=by
 obtain ⟨_,_,_,_,hn⟩:=kZ h
 have hb:=lu s
 have hz:oz s≤2000:=by
  have:=KW h
  omega
 rw [wI (by omega) (by omega)]
 exact ⟨by omega,by omega,rfl⟩
theorem I7 {b:aI} {s t:aA} {leaf:Int} (h:aR b=false∨dC s=false∨dC t=false):cQ b s t leaf=(0,1):=by grind [cQ]
theorem Jk {b:aI} {s t:aA} {leaf:Int} (h:aR b=true∧dC s=true∧dC t=true) (h1:leaf<bK s∨oz s≤leaf):cQ b s t leaf=(0,2):=by grind [cQ]
theorem Jr {b:aI} {s t:aA} {leaf:Int} (h:aR b=true∧dC s=true∧dC t=true) (h1:¬(leaf<bK s∨oz s≤leaf)) (h2:¬leaf∈da s t):cQ b s t leaf=(0,7):=by grind [fV,cQ]
theorem Jj {b:aI} {s t:aA} {leaf:Int} (h:aR b=true∧dC s=true∧dC t=true) (h1:¬(leaf<bK s∨oz s≤leaf)) (h2:leaf∈da s t)
  (h3:gR b (s.lf (cz s leaf) 1)=false∨gR b (s.lf (cz s leaf) 2)=false∨gR b (t.lf (eW s t (cz s leaf)) 1)=false∨gR b (t.lf (eW s t (cz s leaf)) 2)=false):cQ b s t leaf=(0,2):=by grind [fV,cQ]
theorem IT {b:aI} {s t:aA} {leaf:Int} (h:aR b=true∧dC s=true∧dC t=true) (h1:¬(leaf<bK s∨oz s≤leaf)) (h2:leaf∈da s t)
  (h3:gR b (s.lf (cz s leaf) 1)=true∧gR b (s.lf (cz s leaf) 2)=true∧gR b (t.lf (eW s t (cz s leaf)) 1)=true∧gR b (t.lf (eW s t (cz s leaf)) 2)=true) (h4:l5 b s=l5 b t):cQ b s t leaf=(0,20):=by grind [fV,cQ]
theorem I5 {b:aI} {s t:aA} {leaf:Int} (h:aR b=true∧dC s=true∧dC t=true) (h1:¬(leaf<bK s∨oz s≤leaf)) (h2:leaf∈da s t)
  (h3:gR b (s.lf (cz s leaf) 1)=true∧gR b (s.lf (cz s leaf) 2)=true∧gR b (t.lf (eW s t (cz s leaf)) 1)=true∧gR b (t.lf (eW s t (cz s leaf)) 2)=true) (h4:¬l5 b s=l5 b t)
  (h5:s.lf (cz s leaf) 2=t.lf (eW s t (cz s leaf)) 2):cQ b s t leaf=(0,10):=by grind [fV,cQ]
theorem Ja {b:aI} {s t:aA} {leaf:Int} (h:aR b=true∧dC s=true∧dC t=true) (h1:¬(leaf<bK s∨oz s≤leaf)) (h2:leaf∈da s t)
  (h3:gR b (s.lf (cz s leaf) 1)=true∧gR b (s.lf (cz s leaf) 2)=true∧gR b (t.lf (eW s t (cz s leaf)) 1)=true∧gR b (t.lf (eW s t (cz s leaf)) 2)=true) (h4:¬l5 b s=l5 b t)
  (h5:¬s.lf (cz s leaf) 2=t.lf (eW s t (cz s leaf)) 2):cQ b s t leaf=((s.lf (cz s leaf) 1 - t.lf (eW s t (cz s leaf)) 1)%b.gr.q*gA ((s.lf (cz s leaf) 2 - t.lf (eW s t (cz s leaf)) 2)%b.gr.q) b.gr.q%b.gr.q,0):=by simp_all [fV,cQ,if_neg]
theorem fZ {b:aI} {x:Int} (h:gR b x=true):0≤x∧x<b.gr.q:=by grind [gR]
theorem yW {x y q:Int} (hx:0≤x∧x<q) (hy:0≤y∧y<q) (hq:q<2305843009213693952):Int.tmod (IntKind.wrap .i64 (IntKind.wrap .i64 (x - y)+q)) q=(x - y)%q∧0≤(x - y)%q∧(x - y)%q<q:=by
 rw [wI (n:=x - y) (by omega) (by omega),wI (by omega) (by omega),bY (by omega),Int.add_emod_right]
 exact ⟨rfl,Int.emod_nonneg _ (by omega),Int.emod_lt_of_pos _ (by omega)⟩
theorem EE {b:aI} {s:aA} (h:aR b=true) (h':dC s=true):iR b s.dX s.level s.index s.l6=0∧jB b s.dX s.level s.index s.l6=l5 b s :=
 have h2:=kZ h'
 xB h ⟨h2.1,h2.2.1⟩
theorem uW (s t:aA):(da s t).length≤s.nl:=by
 unfold da
 split
 ·simp
 simp [nW]
theorem or4 {A B C D:Prop} (h:((A∨B)∨C)∨D):A∨B∨C∨D:=by grind
theorem AX {A B C D:Prop} (h:((A∧B)∧C)∧D):A∧B∧C∧D:=⟨h.1.1.1,h.1.1.2,h.1.2,h.2⟩
theorem rh {x y q:Int} (hx:0≤x∧x<q) (hy:0≤y∧y<q) (hq:q<2305843009213693952):Int.tmod (IntKind.wrap .i64 (IntKind.wrap .i64 (x+q) - y)) q=(x - y)%q∧0≤(x - y)%q∧(x - y)%q<q:=by
 rw [wI (n:=x+q) (by omega) (by omega),wI (by omega) (by omega),bY (by omega),show x+q - y=(x - y)+q by omega,Int.add_emod_right]
 exact ⟨rfl,Int.emod_nonneg _ (by omega),Int.emod_lt_of_pos _ (by omega)⟩
def fy (s t:aA) (i:Nat):Int:=if s.a=t.a then aK (fun k=>t.lf k 0==s.lf i 0) t.nl 0 else -1
theorem vk {s t:aA} {leaf:Int} (h:dC s=true) (h1:¬(leaf<bK s∨oz s≤leaf)):¬fy s t (cz s leaf)<0↔leaf∈da s t:=by simp_all [fV,fy,found]<;>omega
theorem AT {s t:aA} {i:Nat} (h:¬fy s t i<0):fy s t i=eW s t i∧eW s t i<t.nl:=by
 unfold fy at h ⊢
 by_cases ha:s.a=t.a
 ·rw [if_pos ha] at h ⊢
  have:=yN (s:=s) (t:=t) (i:=i) (decide_eq_true (by omega))
  omega
 omega
theorem BU {s:aA} {leaf:Int} (h:dC s=true) (hl:leaf≤9223372036854775807):((leaf<0∨IntKind.wrap .i64 (leaf - bK s)<0)∨IntKind.wrap .i64 (leaf - bK s)≥s.nl)↔(leaf<bK s∨oz s≤leaf):=by
 obtain ⟨_,_,_,_,hn⟩:=kZ h
 have hb:=lu s
 grind [wI]
theorem vN {s t:aA} {leaf:Int} (h:dC s=true) (hl:leaf≤9223372036854775807) (h6:(¬leaf<0∧¬IntKind.wrap .i64 (leaf - bK s)<0)∧¬IntKind.wrap .i64 (leaf - bK s)≥s.nl)
  (h9:¬fy s t (toNat (IntKind.wrap .i64 (leaf - bK s)))<0):¬(leaf<bK s∨oz s≤leaf)∧leaf∈da s t∧toNat (IntKind.wrap .i64 (leaf - bK s))=cz s leaf ∧
  toNat (fy s t (cz s leaf))=eW s t (cz s leaf)∧0≤fy s t (cz s leaf)∧fy s t (cz s leaf)<t.nl:=by
 have nl:¬(leaf<bK s∨oz s≤leaf):=fun hh=>by
  have:=(BU h hl).2 hh
  omega
 grind [v7,AT,vk,Int.toNat_natCast]
theorem elem_iff {G:bL} (h:G.Ok) {x:Int}:aQ G x=true↔1≤x∧x<G.p∧x^G.q.toNat%G.p=1:=by
 rw [← Dr h]
 grind
theorem KY {a p:Int} {q:Nat} (hq:0<q) (h:a^q%p=1):a%p≠0:=fun e=>by
 have h2:(a%p)^q%p=1:=by grind [pow_mod]
 rw [e,Int.zero_pow (by omega)] at h2
 simp at h2
theorem zg {G:bL} (h:G.Ok) {x:Int} (hx:x^G.q.toNat%G.p=1):aQ G (x%G.p)=true:=by
 have h3:=h.p3;have h4:=h.q3
 have h1:=Int.emod_nonneg x (show G.p≠0 by omega)
 have h2:=Int.emod_lt_of_pos x (show 0<G.p by omega)
 have h5:=KY (by omega) hx
 grind [elem_iff,pow_mod]
theorem dL {G:bL} (h:G.Ok) {a:Int} (ha:aQ G a=true) (k:Nat):aQ G (a^k%G.p)=true:=by
 refine zg h ?_
 have h3:=h.p3
 rw [← Int.pow_mul,Nat.mul_comm,Int.pow_mul,← pow_mod,((elem_iff h).1 ha).2.2,Int.one_pow,Int.emod_eq_of_lt (by decide) (by omega)]
theorem tX {G:bL} (h:G.Ok) {a b:Int} (ha:aQ G a=true) (hb:aQ G b=true):aQ G (a*b%G.p)=true:=by
 refine zg h ?_
 have h3:=h.p3
 rw [Int.mul_pow,Int.mul_emod,((elem_iff h).1 ha).2.2,((elem_iff h).1 hb).2.2]
 exact Int.emod_eq_of_lt (by decide) (by omega)
theorem fH {G:bL} (h:G.Ok) {a:Int} (ha:aQ G a=true):1≤a∧a<G.p:=⟨((elem_iff h).1 ha).1,((elem_iff h).1 ha).2.1⟩
def m8 (b:aI) (u:Int):Int:=b.g1^u.toNat%b.gr.p*b.g2%b.gr.p
theorem I2 {q x:Int} (h:0≤x∧x<q):x%q=x:=Int.emod_eq_of_lt h.1 h.2
theorem NZ {b:aI} {s:aA} (h:0<b.gr.q):0≤l5 b s∧l5 b s<b.gr.q:=pd h 16
def fJ (l r:Nat→Int) (i:Nat):Int:=bif Nat.blt i 32 then l i else r (i - 32)
def eA (l r:Nat→Int):Nat→Int:=eX "specie/node".toUTF8 64 (fJ l r)
theorem Dn {l r:Nat→Int} (hl:cC l 32) (hr:cC r 32):cC (fJ l r) 64:=fun i hi=>by
 unfold fJ
 by_cases h:i<32
 ·rw [cy h];exact hl i h
 ·rw [dh (Nat.le_of_not_lt h)];exact hr _ (by omega)
theorem zf (l r:Nat→Int) (n:Nat):cC (eA l r) n:=fun i _=>pS _ _ i
def fX (x:Int):Nat→Int:=jn "specie/leaf".toUTF8 (.int x)
def dT (h:Nat→Nat→Int):Nat→Nat→Nat→Int
 | 0,i=>h i
 | k+1,i=>eA (dT h k (2*i)) (dT h k (2*i+1))
theorem xD {h:Nat→Nat→Int} {n:Nat} (hh:∀ i,i<n→cC (h i) 32):∀ (k i:Nat),i*2^k+2^k≤n→cC (dT h k i) 32
 | 0,i,hi=>hh i (by omega)
 | k+1,i,_=>zf _ _ 32
abbrev dB (n:Nat) (h:Nat→Nat→Int):AV:=.aG 32 n fun i j=>.int .u8 (h i j)
def nd (l r:Nat→Int) (i:Nat):Nat→Int:=bif Nat.beq i 0 then l else r
def rI (l r:Nat→Int) (x i:Nat):Int:=bif Nat.beq x 0 then 0 else fJ l r i
theorem Gf {os:List (Option Ob)} {f g:Nat→Nat→AV} {l r:Nat→Int} (hf:∀ i,i<32→f i 0=.int .u8 (l i)) (hg:∀ i,i<32→g i 0=.int .u8 (r i)) :
  aw os (.aG 1 2 fun i k=>aO (List.getD [[.aG 1 32 f],[.aG 1 32 g]] i []) k) (.aG 1 2 fun i _=>.aG 1 32 fun k _=>.int .u8 (nd l r i k)):=by
 refine aw.Fv fun i j hi hj=>?_
 have:j=0:=by omega
 subst this
 refine ⟨?_,.aG fun _ _ _ _=>.int⟩
 rcases i with _|_|i
 ·exact aw.aG fun a b ha hb=>by
   have:b=0:=by omega
   subst this;exact hf a ha
 ·exact aw.aG fun a b ha hb=>by
   have:b=0:=by omega
   subst this;exact hg a ha
 omega
theorem Ar {l r:Nat→Int} {x i:Nat} (hx:x<2) (hi:i<32*x+32):(bif Nat.blt i (32*x) then rI l r x i else nd l r x (i - 32*x))=rI l r (x+1) i:=by
 have:x=0∨x=1:=by omega
 rcases this with rfl|rfl
 ·rw [dh (by omega)]
  show l (i - 0)=fJ l r i
  grind [fJ,cy]
 ·by_cases h:i<32
  ·rw [cy (by omega)];rfl
  ·rw [dh (by omega)]
   show r (i - 32)=fJ l r i
   grind [fJ,dh]
theorem Ei {l r:Nat→Int} {x i:Nat} (hx:x=2):rI l r x i=fJ l r i:=by subst hx;rfl
theorem Lw {l r:Nat→Int} {i:Nat} (h:i<32):fJ l r i=l i:=by grind [fJ,cy]
theorem Ky {l r:Nat→Int} {i:Nat}:fJ l r (32+i)=r i:=by simp [fJ,dh]
theorem JH {l r:Nat→Int} {n:Nat} (h:n=64):eX "specie/node".toUTF8 n (fJ l r)=eA l r:=by subst h;rfl
def eI (m x i:Nat):Nat:=bif Nat.blt i x||Nat.ble (m - x) i then m - 1 - i else i
theorem rev_eq {os:List (Option Ob)} {m:Nat} {mu:Bool} (C:Nat→Nat) (F:Nat→Nat→Nat→Int) (σ τ:Nat→Nat) (h:∀ i,i<m→σ i=τ i):aH os ⟨1,m,mu,.row fun i=>[dB (C (σ i)) (F (σ i))]⟩ ⟨1,m,mu,.row fun i=>[dB (C (τ i)) (F (τ i))]⟩ :=
 ⟨rfl,rfl,rfl,fun i j hi hj=>aw.of_eq (by
  have hi:i<m:=hi
  show Am.aO [dB (C (σ i)) (F (σ i))] j=Am.aO [dB (C (τ i)) (F (τ i))] j
  grind)⟩
theorem MG {m i:Nat} (hi:i<m):i=eI m 0 i:=by
 unfold eI
 have h1:Nat.ble (m - 0) i=false:=by grind [Nat.ble,Nat.ble_eq]
 simp_all [dh,Nat.zero_le]
theorem FW {m x i:Nat} (hx:¬x<m - 1 - x) (hx2:x≤m / 2) (hi:i<m):eI m x i=m - 1 - i:=by
 unfold eI
 by_cases h:i<x
 ·grind [cy]
 ·by_cases h':m - x≤i
  ·rw [show Nat.ble (m - x) i=true from by simp_all,Bool.or_true];rfl
  grind
theorem xO {m x i:Nat} (h1:¬i<x) (h2:¬m - x≤i):eI m x i=i:=by grind [eI,Nat.ble,Nat.ble_eq,dh]
theorem Ej {os:List (Option Ob)} {m x a b:Nat} (C:Nat→Nat) (F:Nat→Nat→Nat→Int) (ha:a=x) (hb:b=m - 1 - x) (hx:x<m - 1 - x) :
  aH os ⟨1,m,true,.put b [dB (C (eI m x a)) (F (eI m x a))] (.put a [dB (C (eI m x b)) (F (eI m x b))] (.row fun i=>[dB (C (eI m x i)) (F (eI m x i))]))⟩ ⟨1,m,true,.row fun i=>[dB (C (eI m (x+1) i)) (F (eI m (x+1) i))]⟩:=by
 refine ⟨rfl,rfl,rfl,fun i j hi hj=>aw.of_eq ?_⟩
 have hi:i<m:=hi
 show cG (Nat.beq i b) (Am.aO [dB (C (eI m x a)) (F (eI m x a))] j) (cG (Nat.beq i a) (Am.aO [dB (C (eI m x b)) (F (eI m x b))] j) (Am.aO [dB (C (eI m x i)) (F (eI m x i))] j))=Am.aO [dB (C (eI m (x+1) i)) (F (eI m (x+1) i))] j
 have key:∀ p q:Nat,p=q→Am.aO [dB (C p) (F p)] j=Am.aO [dB (C q) (F q)] j:=fun p q e=>by rw [e]
 by_cases h1:i=b
 ·rw [show Nat.beq i b=true by simp_all,gi]
  refine key _ _ ?_
  rw [ha,xO (by omega) (by omega)]
  unfold eI
  rw [show Nat.ble (m - (x+1)) i=true from by grind [Nat.ble_eq],Bool.or_true]
  grind
 ·rw [mm h1,fP]
  by_cases h2:i=a
  ·grind [Nat.beq,Nat.beq_refl,gi,xO,eI,cy]
  ·rw [mm h2,fP]
   refine key _ _ ?_
   unfold eI
   have e1:Nat.blt i x=Nat.blt i (x+1):=by grind [cy,dh]
   have e2:Nat.ble (m - x) i=Nat.ble (m - (x+1)) i:=by
    rw [Bool.eq_iff_iff,Nat.ble_eq,Nat.ble_eq]
    omega
   grind
theorem Gv {d k:Nat} (hd:d≤5):2^(d - k)≤32:=Nat.le_trans (Nat.pow_le_pow_right (by decide) (show d - k≤5 by omega)) (by decide)
theorem rK {d k:Nat} (h:((2^(d - k):Nat):Int)>1):k<d:=by grind
theorem pow_eq {d k:Nat} (hk:k≤d) (h:¬((2^(d - k):Nat):Int)>1):k=d:=by
 apply Classical.byContradiction
 intro hn
 apply h
 have:2^1≤2^(d - k):=Nat.pow_le_pow_right (by decide) (by omega)
 omega
theorem rT {d k:Nat} (h:k<d):2*2^(d - k - 1)=2^(d - k):=by
 rw [show d - k=(d - k - 1)+1 by omega,Nat.pow_succ,Nat.mul_comm]
 congr 1
theorem pB {k:Nat}:1≤2^k:=Nat.pos_of_ne_zero (by simp)
def bD (h:Nat→Int) (i:Int) (P:Nat→Nat→Int):Nat→Nat→Int
 | 0=>h
 | x+1=>bif decide (i / 2^x%2=0) then eA (bD h i P x) (P x) else eA (P x) (bD h i P x)
theorem tm {h:Nat→Int} {i:Int} {P:Nat→Nat→Int} (hh:cC h 32):∀ x,cC (bD h i P x) 32
 | 0=>hh
 | x+1=>by
  show cC (bif _ then _ else _) 32
  grind [decide,zf]
theorem NX:∀ x:Fin 11,IntKind.wrap .i64 (1*2^min x.1 64)=((2^x.1:Nat):Int):=by decide +kernel
theorem shw {x:Nat} (h:x≤10):IntKind.wrap .i64 (1*2^min x 64)=((2^x:Nat):Int):=NX ⟨x,by omega⟩
theorem zI:∀ d x:Fin 11,2^d.1=2^x.1→d.1=x.1:=by decide +kernel
theorem yj {d x:Nat} (hd:d≤10) (hx:x≤10) (h:2^d=2^x):d=x:=zI ⟨d,by omega⟩ ⟨x,by omega⟩ h
theorem OT {d x:Nat} (hd:d≤10) (hx:x≤10) (g:((2^d:Nat):Int)=IntKind.wrap .i64 (1*2^min x 64)):d=x:=by grind [shw,yj,Int.ofNat_inj]
theorem JC {d x:Nat} (hx:x≤10) (g:¬((2^d:Nat):Int)=IntKind.wrap .i64 (1*2^min x 64)):d≠x:=fun e=>g (by grind [shw])
theorem Kp {i:Int} {x:Nat} (hi:0≤i):Int.tdiv (i / 2^x) 2=i / 2^(x+1):=by grind [Int.tdiv_eq_ediv_of_nonneg,Int.ediv_nonneg,Int.pow_nonneg,Int.ediv_ediv_of_nonneg,Int.pow_succ]
theorem Ep {i:Int} {x:Nat} (hi:0≤i):Int.tmod (i / 2^x) 2=i / 2^x%2:=by grind [Int.tmod_eq_emod_of_nonneg,Int.ediv_nonneg,Int.pow_nonneg]
theorem sD {i:Int} {x:Nat} (hi:0≤i) (hi':i<9223372036854775807):IntKind.wrap .i64 (Int.tdiv (i / 2^x) 2)=i / 2^(x+1):=by
 rw [Kp hi]
 have h1:0≤i / 2^(x+1):=Int.ediv_nonneg hi (Int.pow_nonneg (by decide))
 have h2:i / 2^(x+1)≤i:=Int.ediv_le_self _ hi
 grind [wI]
theorem IS {h:Nat→Int} {i:Int} {P:Nat→Nat→Int} {x:Nat} (hi:0≤i) (g:Int.tmod (i / 2^x) 2=0):eA (bD h i P x) (P x)=bD h i P (x+1):=by
 rw [Ep hi] at g
 show _=bif _ then _ else _
 grind
theorem JD {h:Nat→Int} {i:Int} {P:Nat→Nat→Int} {x:Nat} (hi:0≤i) (g:¬Int.tmod (i / 2^x) 2=0):eA (P x) (bD h i P x)=bD h i P (x+1):=by
 rw [Ep hi] at g
 show _=bif _ then _ else _
 grind
theorem se {os:List (Option Ob)} {u v G:Nat→Int} (e:v=G) :
  aH os ⟨32,1,true,.fn fun i j=>.int .u8 (bif Nat.beq i 0&&(Nat.ble 0 j&&Nat.blt j 32) then aE (aO (bh v) (j - 0)) else u j)⟩ ⟨32,1,true,.fn fun _ j=>.int .u8 (G j)⟩:=by
 subst e
 refine ⟨rfl,rfl,rfl,fun i j hi hj=>aw.of_eq (congrArg (AV.int .u8) ?_)⟩
 have:i=0:=Nat.lt_one_iff.1 hi
 subst this
 rw [Nat.sub_zero,show (Nat.beq 0 0&&(Nat.ble 0 j&&Nat.blt j 32))=true by simp_all,eL hj]
 rfl
def eqF (f g:Nat→Int):Nat→Nat→Bool
 | 0,_=>true
 | k+1,s=>(f s==g s)&&eqF f g k (s+1)
def hEq (f g:Nat→Int):Bool:=eqF f g 32 0
theorem L9 {n:Nat} (hn:n≤1000):IntKind.wrap .i64 ((n:Int) - IntKind.wrap .i64 (0 - 0))=n:=by grind [Int,wI]
theorem Gq {j:Nat} (hj:j<1):AV.int .u8 (aE (aO (ck (.int .u8 0)) j))=.int .u8 0:=by
 have:j=0:=by omega
 subst this;rfl
structure fR where
  ju : Int
  fK : Int
  gq : Int
  value : Int
  depth : Int
  h : Int
  h1 : Int
  h2 : Int
  fr : Int
  til : Int
  fin : Int
def fR.key (r:fR):List AV:=[.int .i64 r.h,.int .i64 r.h1,.int .i64 r.h2]
def fR.cells (r:fR):List AV:=[.int .i64 r.ju,.int .i64 r.fK,.int .i64 r.gq,.int .i64 r.value,.int .i64 r.depth]++(r.key++[.int .i64 r.fr,.int .i64 r.til,.int .i64 r.fin])
def fR.av (r:fR):AV:=.agg r.cells
def bV (G:bL) (x:Int):Bool:=x != 1&&aQ G x
def cZ (b:aI) (h h1 h2:Int):Bool:=aR b&&bV b.gr h&&bV b.gr h1&&bV b.gr h2
def ie (v d:Int):Bool:=bif v==0 then d==0 else decide (v≥1)&&decide (v≤1099511627776)&&decide (d≥0)&&decide (d≤5)&&(Int.tmod v (IntKind.wrap .i64 (1*2^min d.toNat 64))==0)
def iz (x l u:Int):Bool:=decide (x≥l)&&decide (x≤u)
def mM (ju fK fr til fin:Int):Bool:=iz ju 0 7&&iz fK 0 1000000&&decide (fr≥0)&&decide (fr<til)&&decide (til≤fin)&&decide (fin≤1099511627776)
def dV (b:aI) (r:fR):Bool:=cZ b r.h r.h1 r.h2&&mM r.ju r.fK r.fr r.til r.fin&&iz r.gq 0 16&&ie r.value r.depth
theorem ok1 {e v:Int}:(e==0&&lQ e v==1)=(lQ e v==1):=by grind [D3]
theorem II {d:Int} (h0:0≤d) (h5:d≤5):IntKind.wrap .i64 (1*2^min d.toNat 64)≠0:=by
 rw [shw (x:=d.toNat) (by omega)]
 have:1≤2^d.toNat:=pB
 omega
theorem Eo {d:Int} (h0:0≤d) (h5:d≤5):IntKind.wrap .u64 d=d:=by
 have:d=0∨d=1∨d=2∨d=3∨d=4∨d=5:=by omega
 rcases this with rfl|rfl|rfl|rfl|rfl|rfl<;>decide
theorem Ng {v d:Int} (h:v=0) (h':d=0):ie v d=true:=by subst h;subst h';rfl
theorem Ji {v d:Int} (h:v=0):ie v d=(d==0):=by subst h;rfl
theorem IL {v d:Int} (h:¬v=0):ie v d=(decide (v≥1)&&decide (v≤1099511627776)&&decide (d≥0)&&decide (d≤5)&&(Int.tmod v (IntKind.wrap .i64 (1*2^min d.toNat 64))==0)):=by grind [ie]
theorem Ow {v d:Int} (h:¬(v=0∧d=0)):(decide (v≥1)&&decide (v≤1099511627776)&&decide (d≥0)&&decide (d≤5)&&(Int.tmod v (IntKind.wrap .i64 (1*2^min d.toNat 64))==0))=ie v d:=by grind [Ji,decide,IL]
theorem NU {v d:Int} (h:¬v=0):(decide (v≥1)&&decide (v≤1099511627776)&&decide (d≥0)&&decide (d≤5)&&(Int.tmod v (IntKind.wrap .i64 (1*2^min (toNat (IntKind.wrap .u64 d)) 64))==0))=ie v d:=by
 rw [IL h]
 by_cases hd:0≤d∧d≤5
 ·grind [Eo]
 grind
theorem rec_1 {n g k:Bool} {v d:Int}:(n&&g&&(v==0&&d==0||ie v d)&&k)=(k&&n&&g&&ie v d):=by
 by_cases h:v=0∧d=0
 ·obtain ⟨rfl,rfl⟩:=h
  cases n<;>cases g<;>cases k<;>rfl
 grind
def cS (b:aI) (a:Int) (i:Nat):Int:=[b.gr.p,b.gr.q,b.gr.g,b.g1,b.g2,b.h,a].getD i 0
def oq (b:aI) (a:Int) (root:Nat→Int) (z sa sb:Int):It:=nJ [.int b.gr.p,.int b.gr.q,.int b.gr.g,.int b.g1,.int b.g2,.int b.h,.int a,.eQ 32 root,.int z,.int sa,.int sb]
def jk (b:aI) (a:Int) (root:Nat→Int) (z sa sb:Int):Int:=cB (jn "specie/coin".toUTF8 (oq b a root z sa sb)) b.gr.q 16
theorem HW {os:List (Option Ob)} {b:aI} {a:Int} {mu:Bool}:aH os ⟨1,7,mu,.ba [[.int .i64 b.gr.p],[.int .i64 b.gr.q],[.int .i64 b.gr.g],[.int .i64 b.g1],[.int .i64 b.g2],[.int .i64 b.h],[.int .i64 a]]⟩ ⟨1,7,mu,.fn fun i _=>.int .i64 (cS b a i)⟩:=pV fun i j hi hj=>by
 obtain rfl:j=0:=by omega
 match i,hi with
 | 0,_|1,_|2,_|3,_|4,_|5,_|6,_=>rfl
def EL (x0 x1 x2 x3:Int) (i:Nat):Int:=[x0,x1,x2,x3].getD i 0
theorem NH {p:Int→Bool} {x0 x1 x2 x3:Int}:allI (fun i=>p (EL x0 x1 x2 x3 i)) 4=(p x0&&(p x1&&p x2&&p x3)):=by
 unfold allI
 show (p x0&&(p x1&&(p x2&&(p x3&&true))))=_
 grind
def dS (G:bL) (z sa sb:Int):Bool:=aQ G z&&aQ G sa&&aQ G sb
def lX (b:aI) (a z sa sb:Int):Int:=bif aR b then (bif aQ b.gr a&&dS b.gr z sa sb then 0 else 2) else 1
end Go.Sp

namespace Go.Sp
open Go.IntKind (wrap)
open Int (toNat)
open Go Go.Am
def uE (b:aI) (a:Int) (root:Nat→Int) (z sa sb:Int):List It:=[.int b.gr.p,.int b.gr.q,.int b.gr.g,.int b.g1,.int b.g2,.int b.h,.int a,.eQ 32 root,.int z,.int sa,.int sb]
theorem oI {os:List (Option Ob)} {L:List It} {n:Nat} {F:Nat→Nat→AV} (hn:n=L.length) (h:∀ i k,i<n→k<4→aw os (F i k) (aO (L.getD i (.int 0)).cells k)) :
  aw os (.agg [.int .i64 3,.int .i64 0,.bc,.aG 4 n F]) (nJ L).av:=by
 subst hn
 exact aw.agg ⟨aw.refl _,aw.refl _,aw.bc,aw.Fv (fun i j hi hj=>⟨h i j hi hj,It.I4 _ j hj⟩),trivial⟩
theorem mS {os:List (Option Ob)} (n:Nat) {f g:Nat→Int} (h:∀ i,i<n→f i=g i):cM os [.int .i64 2,.int .i64 0,.aG 1 n fun i _=>.int .u8 (f i),.bc] (It.eQ n g).cells :=
 ⟨aw.refl _,aw.refl _,aw.aG fun i _ hi _=>congrArg (AV.int .u8) (h i hi),aw.bc,trivial⟩
theorem Gp {os:List (Option Ob)} {b:aI} {a z sa sb:Int} {root:Nat→Int} {x:Nat} (hx:x=7) {i k:Nat} (hi:i<x+4) :
  aw os (cG (Nat.blt (i+0) x) (aO (It.int (cS b a (i+0))).cells k)
   (aO (List.getD [[AV.int IntKind.i64 (2:Int),AV.int IntKind.i64 (0:Int),AV.aG 1 32 fun (r _:Nat)=>AV.int IntKind.u8 (aE (aO (bh root) (0+(0+r)))),AV.bc],(It.int z).cells,(It.int sa).cells,(It.int sb).cells] (i+0 - x) []) k))
   (aO ((uE b a root z sa sb).getD i (.int 0)).cells k):=by
 subst hx
 match i,hi with
 | 0,_|1,_|2,_|3,_|4,_|5,_|6,_=>exact aw.of_eq (gi _ _)
 | 7,_ =>
  show aw os (cG false _ _) _
  rw [fP]
  refine aw.aO (mS 32 fun i hi=>?_) k
  simp_all [Nat.zero_add,eL]
 | 8,_|9,_|10,_=>exact aw.of_eq (fP _ _)
theorem Bs {os:List (Option Ob)} {b:aI} {a z sa sb:Int} {root:Nat→Int} {x y:Nat} (hx:x=6) (hy:y=32) {i k:Nat} (hi:i<x+5) :
  aw os (cG (Nat.blt (i+0) x) (aO (It.int (cS b 0 (i+0))).cells k)
   (aO (List.getD [(It.int a).cells,[AV.int IntKind.i64 (2:Int),AV.int IntKind.i64 (0:Int),AV.aG 1 y fun (r _:Nat)=>AV.int IntKind.u8 (root (r+0)),AV.bc],(It.int z).cells,(It.int sa).cells,(It.int sb).cells] (i+0 - x) []) k))
   (aO ((uE b a root z sa sb).getD i (.int 0)).cells k):=by
 subst hx;subst hy
 match i,hi with
 | 0,_|1,_|2,_|3,_|4,_|5,_=>exact aw.of_eq (gi _ _)
 | 7,_ =>
  show aw os (cG false _ _) _
  rw [fP]
  exact aw.aO (mS 32 fun i hi=>rfl) k
 | 6,_|8,_|9,_|10,_=>exact aw.of_eq (fP _ _)
theorem A2 {os:List (Option Ob)} {y y':Nat} {root c:Nat→Int} (hy:y'=y+1) (h:c 0=root y) :
  aH os ⟨1,y+1,true,.fn fun i j=>.int .u8 (bif Nat.blt i y then root i else c j)⟩ ⟨1,y',true,.fn fun i _=>.int .u8 (root i)⟩:=by
 subst hy
 refine ⟨rfl,rfl,rfl,fun i j hi hj=>aw.of_eq ?_⟩
 have hi:i<y+1:=hi
 obtain rfl:j=0:=Nat.lt_one_iff.1 hj
 show AV.int .u8 (bif Nat.blt i y then root i else c 0)=.int .u8 (root i)
 by_cases e:i<y
 ·grind [cy]
 grind
theorem BO {root:Nat→Int} {y:Nat} (hy:y<32):aE (aO [AV.int .u8 (aE (aO (bh root) (0+toNat (y:Int))))] 0)=root y:=by
 show aE (aO (bh root) (0+toNat (y:Int)))=_
 simp_all [Nat.zero_add,Int.toNat_natCast,eL]
theorem Iu (b:aI) (a z sa sb:Int) (root:Nat→Int):(oq b a root z sa sb).p4 8=true:=by rfl
theorem mi (b:aI) (a z sa sb:Int) (root:Nat→Int):(oq b a root z sa sb).enc.length=132:=by rfl
theorem vd {b:aI} {a z sa sb:Int} {root:Nat→Int} (h:cC root 32):(oq b a root z sa sb).okB:=fun i hi=>by
 have hi:i<11:=hi
 match i,hi with
 | 0,_|1,_|2,_|3,_|4,_|5,_|6,_|8,_|9,_|10,_=>exact trivial
 | 7,_=>exact h
def lE (b:aI) (a:Int) (root:Nat→Int) (z sa sb:Int):Int:=bif lX b a z sa sb==0 then jk b a root z sa sb else 0
def tj (b:aI) (a:Int) (root:Nat→Int) (z sa sb:Int):AV:=.aT [.int .i64 (lE b a root z sa sb),.int .i64 (lX b a z sa sb)]
theorem EV {b:aI} {a z sa sb:Int} (h:aR b=false):lX b a z sa sb=1:=by grind [lX]
theorem xi {b:aI} {a z sa sb:Int} (h:aR b=true) (h':aQ b.gr a=false∨dS b.gr z sa sb=false):lX b a z sa sb=2:=by grind [aQ,dS,lX]
theorem DJ {b:aI} {a z sa sb:Int} (h:aR b=true) (h':aQ b.gr a=true∧dS b.gr z sa sb=true):lX b a z sa sb=0:=by grind [lX]
theorem DS {b:aI} {a z sa sb:Int} (h:lX b a z sa sb=0):aR b=true∧aQ b.gr a=true∧dS b.gr z sa sb=true:=by
 cases hv:aR b with
 | false=>grind [EV]
 | true =>
  cases ha:aQ b.gr a with
  | false=>grind [xi]
  | true =>
   cases hs:dS b.gr z sa sb with
   | false=>rw [xi hv (.inr hs)] at h;cases h
   | true=>exact ⟨rfl,rfl,rfl⟩
theorem xp {b:aI} {a z sa sb:Int} {root:Nat→Int} (e:lX b a z sa sb=0):lE b a root z sa sb=jk b a root z sa sb:=by grind [lE]
theorem NT {b:aI} {a z sa sb:Int} {root:Nat→Int} (h:aR b=false):AV.aT [.int .i64 0,.int .i64 1]=tj b a root z sa sb:=by grind [tj,lE,EV]
theorem Pa {b:aI} {a z sa sb:Int} {root:Nat→Int} (h:aR b=true) (h':aQ b.gr a=false∨dS b.gr z sa sb=false):AV.aT [.int .i64 0,.int .i64 2]=tj b a root z sa sb:=by grind [tj,lE,xi]
theorem Nq {b:aI} {a z sa sb:Int} {root:Nat→Int} (h:aR b=true) (h':aQ b.gr a=true∧dS b.gr z sa sb=true):AV.aT [.int .i64 (jk b a root z sa sb),.int .i64 0]=tj b a root z sa sb:=by grind [tj,lE,DJ]
theorem LC {b:aI} {a z sa sb:Int} {root:Nat→Int} (h:b.gr.Ok):0≤jk b a root z sa sb∧jk b a root z sa sb<b.gr.q:=pd (by have:=h.q3;omega) 16
end Go.Sp
namespace Go.Sp
open Go Go.Am
def bG (G:bL) (x:Int):Bool:=decide (x≥0)&&decide (x<G.q)
def ED (b:aI) (h a z sa sb r c:Int):Bool :=
 (b.gr.g^r.toNat%b.gr.p==h^c.toNat%b.gr.p*sa%b.gr.p)&&(a^r.toNat%b.gr.p==z^c.toNat%b.gr.p*sb%b.gr.p)
def kh (b:aI) (h h1 h2 a:Int) (root:Nat→Int) (z sa sb r:Int):Bool :=
 cZ b h h1 h2&&bV b.gr a&&dS b.gr z sa sb&&bG b.gr r&&(jk b a root z sa sb != 0&&ED b h a z sa sb r (jk b a root z sa sb))
theorem wb {G:bL} {x:Int} (h:bV G x=true):aQ G x=true:=by simp_all [bV,Bool.and_eq_true]
theorem oL {G:bL} (hG:G.Ok) {x:Int} (h:bV G x=true):0≤x∧x<G.p:=by have:=fH hG (wb h);omega
theorem cd {G:bL} (hG:G.Ok) {x:Int} (h:aQ G x=true):0≤x∧x<G.p:=by have:=fH hG h;omega
theorem jI {b:aI} {h0 k1 k2:Int} (h:cZ b h0 k1 k2=true):aR b=true∧bV b.gr h0=true:=by simp_all [cZ,Bool.and_eq_true]
theorem qS {G:bL} {z sa sb:Int} (h:dS G z sa sb=true):aQ G z=true∧aQ G sa=true∧aQ G sb=true:=by simp_all [dS,Bool.and_eq_true]
structure ug (b : aI) (h0 a z sa sb r c : Int) : Prop where
  ok : b.gr.Ok
  g : 0 ≤ b.gr.g ∧ b.gr.g < b.gr.p
  h : 0 ≤ h0 ∧ h0 < b.gr.p
  a : 0 ≤ a ∧ a < b.gr.p
  z : 0 ≤ z ∧ z < b.gr.p
  sa : 0 ≤ sa ∧ sa < b.gr.p
  sb : 0 ≤ sb ∧ sb < b.gr.p
  r : 0 ≤ r ∧ r < b.gr.q
  c : 0 ≤ c ∧ c < b.gr.q
theorem Ek {b:aI} {h0 k1 k2 a z sa sb r:Int} (root:Nat→Int) (hk:cZ b h0 k1 k2=true) (hm:bV b.gr a=true) (he:dS b.gr z sa sb=true) (hr:0≤r∧r<b.gr.q):ug b h0 a z sa sb r (jk b a root z sa sb):=by
 have G:=iD (jI hk).1
 have h1:=G.g2
 exact ⟨G,⟨by omega,G.g1⟩,oL G (jI hk).2,oL G hm,cd G (qS he).1,cd G (qS he).2.1,cd G (qS he).2.2,hr,LC G⟩
theorem Ij {b:aI} {h0 k1 k2 a z sa sb r:Int} (root:Nat→Int) (hk:cZ b h0 k1 k2=true) (hm:bV b.gr a=true) (he:lX b a z sa sb=0) (hr:0≤r∧r<b.gr.q):ug b h0 a z sa sb r (lE b a root z sa sb):=by
 rw [xp he]
 exact Ek root hk hm (DS he).2.2 hr
theorem n8 {b:aI} {h0 k1 k2 a z sa sb r:Int} {root:Nat→Int} (h:cZ b h0 k1 k2=false∨bV b.gr a=false∨dS b.gr z sa sb=false∨bG b.gr r=false):kh b h0 k1 k2 a root z sa sb r=false:=by grind [kh]
theorem N1 {b:aI} {h0 k1 k2 a z sa sb r:Int} {root:Nat→Int} (hk:cZ b h0 k1 k2=true) (hm:bV b.gr a=true) (hc:lX b a z sa sb≠0∨lE b a root z sa sb=0):kh b h0 k1 k2 a root z sa sb r=false:=by
 cases he:dS b.gr z sa sb with
 | false=>grind [n8]
 | true =>
  have e:=DJ (jI hk).1 ⟨wb hm,he⟩
  grind [absurd,xp,kh]
theorem Oi {b:aI} {h0 k1 k2 a z sa sb r:Int} {root:Nat→Int} (hk:cZ b h0 k1 k2=true) (hm:bV b.gr a=true) (hr:0≤r∧r<b.gr.q) (he:lX b a z sa sb=0) (hc:lE b a root z sa sb≠0) :
  kh b h0 k1 k2 a root z sa sb r=ED b h0 a z sa sb r (lE b a root z sa sb):=by
 rw [xp he] at hc ⊢
 unfold kh bG
 simp [hk,hm,(DS he).2.2,hr.1,hr.2,hc]
theorem OE {b:aI} {h0 k1 k2 a z sa sb r:Int} {root:Nat→Int} (hk:cZ b h0 k1 k2=true) (hm:bV b.gr a=true) (he:dS b.gr z sa sb=true) (hr:0≤r∧r<b.gr.q) :
  kh b h0 k1 k2 a root z sa sb r=(jk b a root z sa sb != 0&&ED b h0 a z sa sb r (jk b a root z sa sb)):=by grind [kh,bG]
theorem bR {G:bL} (h:G.Ok) (x:Int):0≤x%G.p∧x%G.p<G.p:=by
 have h3:=h.p3
 exact ⟨Int.emod_nonneg _ (by omega),Int.emod_lt_of_pos _ (by omega)⟩
theorem IB {G:bL} {r:Int} (h:¬r≥0∨¬r<G.q):bG G r=false:=by grind [bG]
end Go.Sp

namespace Go.Sp
open Go.IntKind (wrap)
open Int (toNat)
open Go Go.Am
def fc (b:aI) (r:fR) (c:bQ):Bool :=
 dV b r&&c.ju==r.ju&&c.fK==r.fK&&c.gq==r.gq&&c.depth==r.depth&&kh b r.h r.h1 r.h2 c.a c.root c.z c.sa c.sb c.r
def FH (n:Int):Bool:=decide (aK (fun i=>n==(2^i:Nat)) 6 0≥0)
theorem O3:∀ d:Fin 6,FH ((2^d.1:Nat):Int)=true:=by decide +kernel
theorem NV {d:Nat} (h:d≤5):FH ((2^d:Nat):Int)=true:=O3 ⟨d,by omega⟩
theorem ze {os:List (Option Ob)} {n m:Nat} {F:Nat→Nat→Int} (hn:m=n):aw os (.aG 32 m fun r k=>aO (bh (F r)) k) (dB n F):=by
 subst hn
 exact aw.aG fun i j _ hj=>dw (es:=32) (g:=fun j=>AV.int .u8 (F i j)) hj
theorem Ec {os:List (Option Ob)} {a b:AV} {v:AV} (h:aw os a b):aw os (.aT [a,v]) (.aT [b,v]):=aw.aT ⟨h,aw.refl _,trivial⟩
def m5 (G:bL) (f e:Nat→Int):Nat→Int
 | 0=>1
 | x+1=>m5 G f e x*(f x^(e x).toNat%G.p)%G.p
theorem Bo {G:bL} (h:G.Ok):aQ G 1=true:=(elem_iff h).2 ⟨Int.le_refl _,by have:=h.p3;omega,by rw [Int.one_pow];exact Int.emod_eq_of_lt (by decide) (by have:=h.p3;omega)⟩
theorem uI {G:bL} (h:G.Ok) {f e:Nat→Int} {n:Nat} (hf:∀ i,i<n→aQ G (f i)=true):∀ x,x≤n→aQ G (m5 G f e x)=true
 | 0,_=>Bo h
 | x+1,hx=>tX h (uI h hf x (by omega)) (dL h (hf x (by omega)) _)
def pr2 (G:bL) (a b x y:Int):Int:=a^x.toNat%G.p*(b^y.toNat%G.p)%G.p
def fE (a b:Int) (i:Nat):Int:=[a,b].getD i 0
theorem Pg {G:bL} (h:G.Ok) {f e:Nat→Int}:m5 G f e 2=pr2 G (f 0) (f 1) (e 0) (e 1):=by
 show (1*(f 0^(e 0).toNat%G.p)%G.p)*(f 1^(e 1).toNat%G.p)%G.p=_
 rw [Int.one_mul,Int.emod_eq_of_lt (bR h _).1 (bR h _).2]
 rfl
theorem yk {os:List (Option Ob)} {a b:Int}:aw os (.aG 1 2 fun r k=>aO (List.getD [[.int .i64 a],[.int .i64 b]] r []) k) (.aG 1 2 fun i _=>.int .i64 (fE a b i)):=aw.aG fun i j hi hj=>by
 obtain rfl:j=0:=Nat.lt_one_iff.1 hj
 match i,hi with|0,_|1,_=>rfl
def qs (b:aI) (y r1 r2:Int):Bool:=bG b.gr r1&&bG b.gr r2&&(pr2 b.gr b.g1 b.g2 r1 r2==y)
theorem KV {p:Nat→Bool} {n:Nat} (h:∀ i,i<n→p i=false):decide (aK p n 0≥0)=false:=by simp_all [gH,List.any_eq_false,Nat.zero_add,List.mem_range]
theorem Pc {p:Nat→Bool}:decide (aK p 2 0≥0)=(p 0||p 1):=by
 rw [gH]
 grind
theorem ka {G:bL} {r:Int}:bG G r=true↔0≤r∧r<G.q:=by simp [bG]
theorem Hv {G:bL} {a c:Int} (h:bG G a=true∧bG G c=true):∀ i,i<2→0≤fE a c i∧fE a c i<G.q:=fun i hi=>match i,hi with
 | 0,_=>ka.1 h.1
 | 1,_=>ka.1 h.2
def o5 (b:aI) (r1 r2:Int):Int:=bif bG b.gr r1&&bG b.gr r2 then pr2 b.gr b.g1 b.g2 r1 r2 else 0
def rV (b:aI) (r1 r2:Int):Int:=bif bG b.gr r1&&bG b.gr r2 then 0 else 2
theorem wP {b:aI} {r1 r2:Int} (h:bG b.gr r1=false∨bG b.gr r2=false):o5 b r1 r2=0∧rV b r1 r2=2:=by
 have e:(bG b.gr r1&&bG b.gr r2)=false:=by grind
 unfold o5 rV;grind
theorem wR {b:aI} {r1 r2:Int} (h:bG b.gr r1=true∧bG b.gr r2=true):o5 b r1 r2=pr2 b.gr b.g1 b.g2 r1 r2∧rV b r1 r2=0:=by
 unfold o5 rV;rw [h.1,h.2];exact ⟨rfl,rfl⟩
theorem H7 {b:aI} {y r1 r2:Int}:(rV b r1 r2==0&&o5 b r1 r2==y)=qs b y r1 r2:=by grind [qs,bG,wP,wR]
theorem JA {G:bL} {e:Int}:(decide (e<0)||decide (e≥G.q)) = !bG G e:=by grind [bG]
def fI (b:aI) (a k x r1 r2:Int):Bool:=aQ b.gr x&&qs b (a^k.toNat%b.gr.p*x%b.gr.p) r1 r2
theorem Ig {b:aI} {a k x r1 r2:Int} (h:(aQ b.gr x=false∨bG b.gr r1=false)∨bG b.gr r2=false):fI b a k x r1 r2=false:=by grind [fI,qs]
theorem Ik {b:aI} {a k x r1 r2:Int} (h:(aQ b.gr x=true∧bG b.gr r1=true)∧bG b.gr r2=true):(b.g1^r1.toNat%b.gr.p*(b.g2^r2.toNat%b.gr.p)%b.gr.p==a^k.toNat%b.gr.p*x%b.gr.p)=fI b a k x r1 r2:=by
 unfold fI qs;rw [h.1.1,h.1.2,h.2];rfl
def ki (s:aA) (i:Nat):Int:=s.lf i 0
def Lq (s:aA) (i:Nat):Bool := !decide (ki s i∈(List.range i).map (ki s))
def wg (b:aI) (s:aA) (i:Nat):Bool:=fI b s.a (l5 b s) (s.lf i 0) (s.lf i 1) (s.lf i 2)&&Lq s i
def ny (s:aA):Nat:=(s.depth - s.level).toNat
def dK (s:aA):Nat→Int:=dT (fun i=>fX (ki s i)) (ny s) 0
def vn (b:aI) (r:fR) (s:aA):Bool:=fc b r s.dX&&bT s.depth s.level s.index&&fL s.time s.number&&Nat.beq s.nl (2^ny s)&&s.kg==s.index
def mf (b:aI) (r:fR) (s:aA):Bool:=vn b r s&&allI (wg b s) s.nl&&((s.np:Int)==s.level&&hEq (bD (dK s) s.kg s.pf s.np) s.root)
theorem HQ {os:List (Option Ob)} {n:Nat} {f:Nat→Int}:aw os (.aG 1 n fun i _=>.int .i64 (f i)) (il .i64 ((List.range n).map f)):=by
 show aw os _ (.aG 1 ((List.range n).map f).length _)
 rw [show ((List.range n).map f).length=n by simp]
 exact aw.aG fun i j hi _=>congrArg (AV.int .i64) (getD_map hi).symm
theorem rC {f:Nat→Int} {n:Nat} {v:Int}:v∈(List.range n).map f↔∃ j,j<n∧f j=v:=by simp
theorem wz {s:aA} (h:bT s.depth s.level s.index=true):IntKind.wrap .i64 (1*2^min (toNat (IntKind.wrap .i64 (s.depth - s.level))) 64)=((2^ny s:Nat):Int)∧IntKind.wrap .i64 (s.depth - s.level)=s.depth - s.level∧ny s≤5:=by
 have k:=iH h
 grind [IntKind.wrap,wI,ny,shw]
theorem yb {b:aI} {r:fR} {c:bQ} (h:fc b r c=true):aR b=true∧aQ b.gr c.a=true:=by simp_all [fc,dV,cZ,kh,Bool.and_eq_true,wb]
structure JX (b : aI) (r : fR) (s : aA) : Prop where
  hd : vn b r s = true
  v : aR b = true
  a : aQ b.gr s.a = true
  n : bT s.depth s.level s.index = true
  l : s.nl = 2 ^ ny s
  d : ny s ≤ 5
  lv : 0 ≤ s.level ∧ s.level ≤ 5
  ix : 0 ≤ s.kg ∧ s.kg < 2 ^ s.level.toNat
  n32 : s.nl ≤ 32
  lb : FH s.nl = true
  q0 : 0 < b.gr.q
  q1 : b.gr.q < 2305843009213693952
  k : 0 ≤ l5 b s ∧ l5 b s < b.gr.q
  top : cC (dK s) 32
  p0 : 0 ≤ s.kg
  p1 : s.kg < 9223372036854775807
theorem pn (x:Int):cC (fX x) 32:=jd _ _ _
theorem Fc {b:aI} {r:fR} {s:aA} (h:vn b r s=true):JX b r s:=by
 have h0:=h
 unfold vn at h
 simp only [Bool.and_eq_true,Nat.beq_eq,beq_iff_eq] at h
 obtain ⟨⟨⟨⟨h1,h2⟩,_⟩,h4⟩,h5⟩:=h
 have k:=iH h2
 have hd:ny s≤5:=(wz h2).2.2
 have hp:2^ny s≤32:=by have:=Gv (d:=ny s) (k:=0) hd;omega
 have hq:=fO (yb h1).1
 exact ⟨h0,(yb h1).1,(yb h1).2,h2,h4,hd,by omega,by omega,by omega,by grind [NV],hq.1,hq.2,NZ hq.1,
  xD (n:=2^ny s) (fun i _=>pn _) (ny s) 0 (by omega),by omega,by grind [p2]⟩
abbrev szW (s:aA):Int:=IntKind.wrap .i64 (1*2^min (toNat (IntKind.wrap .i64 (s.depth - s.level))) 64)
theorem iF {b:aI} {r:fR} {s:aA} (h:(((fc b r s.dX=true∧bT s.depth s.level s.index=true)∧fL s.time s.number=true)∧(s.nl:Int)=szW s)∧s.kg=s.index):JX b r s:=by grind [Fc,wz,ny,Int.ofNat.inj,vn,Nat.beq_eq,Nat.beq]
theorem IH {b:aI} {r:fR} {s:aA} (h:vn b r s=false):mf b r s=false:=by grind [mf]
theorem IC {b:aI} {r:fR} {s:aA} (h:(((fc b r s.dX=false∨bT s.depth s.level s.index=false)∨fL s.time s.number=false)∨¬(s.nl:Int)=szW s)∨¬s.kg=s.index):mf b r s=false:=by
 refine IH ?_
 rcases h with (((h|h)|h)|h)|h
 ·grind [vn]
 ·grind [vn]
 ·grind [vn]
 ·cases hn:bT s.depth s.level s.index with
  | false=>grind [vn]
  | true =>
   have h:¬(s.nl:Int)=((2^ny s:Nat):Int):=fun e=>h (e.trans (wz hn).1.symm)
   have:Nat.beq s.nl (2^ny s)=false:=by
    rw [Bool.eq_false_iff,ne_eq,Nat.beq_eq]
    omega
   grind [vn]
 grind [vn]
theorem Kf {b:aI} {s:aA} {i:Nat} (h:wg b s i=true):aQ b.gr (ki s i)=true:=by
 unfold wg fI at h;simp only [Bool.and_eq_true] at h;exact h.1.1
theorem w8 {b:aI} {s:aA} {i:Nat} (h:fI b s.a (l5 b s) (s.lf i 0) (s.lf i 1) (s.lf i 2)=false∨s.lf i 0∈(List.range i).map fun i=>ki s (i+0)):wg b s i=false:=by grind [wg,Lq,ki,List.range,decide_eq_true]
theorem yc {b:aI} {s:aA} {i:Nat} (h:fI b s.a (l5 b s) (s.lf i 0) (s.lf i 1) (s.lf i 2)=true∧¬s.lf i 0∈(List.range i).map fun i=>ki s (i+0)):wg b s i=true:=by grind [wg,Lq,ki,List.range,decide_eq_false]
theorem Ev {b:aI} {r:fR} {s:aA} {i:Nat} (hi:i<s.nl) (h:wg b s i=false):mf b r s=false:=by grind [mf,nQ]
theorem Jh {b:aI} {r:fR} {s:aA} (hd:vn b r s=true) (h:∀ i,i<s.nl→wg b s i=true):mf b r s=((s.np:Int)==s.level&&hEq (bD (dK s) s.kg s.pf s.np) s.root):=by grind [mf,nv]
abbrev szR (s:aA):Int:=IntKind.wrap .i64 (dg s.depth s.level s.index - db s.depth s.level s.index)
theorem LM {s:aA} (h:bT s.depth s.level s.index=true):szR s=((2^ny s:Nat):Int):=by
 have k:=iH h
 have e:dg s.depth s.level s.index - db s.depth s.level s.index=((2^ny s:Nat):Int):=by simp_all [dg,db,Int.add_mul,Int.one_mul,Int.natCast_pow,ny]<;>omega
 have hp:2^ny s≤32:=by have:=Gv (d:=ny s) (k:=0) (wz h).2.2;omega
 unfold szR
 grind [ny,Nat,Int,Int.ofNat_le,Int.natCast_nonneg,wI]
theorem PU {b:aI} {r:fR} {c:bQ} (h:aR b=false):fc b r c=false:=by grind [fc,yb]
theorem KG {b:aI} {r:fR} {s:aA} (h:((aR b=false∨fc b r s.dX=false)∨bT s.depth s.level s.index=false)∨fL s.time s.number=false):mf b r s=false:=by grind [IH,vn,PU]
theorem iQ {b:aI} {r:fR} {s:aA} (h:((aR b=true∧fc b r s.dX=true)∧bT s.depth s.level s.index=true)∧fL s.time s.number=true) (h':((s.nl:Int)=szR s∧s.kg=s.index)∧(s.np:Int)=s.level):JX b r s :=
 iF ⟨⟨⟨⟨h.1.1.2,h.1.2⟩,h.2⟩,h'.1.1.trans ((LM h.1.2).trans (wz h.1.2).1.symm)⟩,h'.1.2⟩
theorem OO {b:aI} {r:fR} {s:aA} (h:¬(s.np:Int)=s.level):mf b r s=false:=by grind [mf,Int]
theorem F7 {b:aI} {r:fR} {s:aA} (h:((aR b=true∧fc b r s.dX=true)∧bT s.depth s.level s.index=true)∧fL s.time s.number=true) (h':(¬(s.nl:Int)=szR s∨¬s.kg=s.index)∨¬(s.np:Int)=s.level):mf b r s=false:=by grind [IC,wz,trans,LM,OO]
theorem Oc {b:aI} {r:fR} {s:aA} (hd:vn b r s=true) (hn:(s.np:Int)=s.level) (h:∀ i,i<s.nl→wg b s i=true):mf b r s=hEq (bD (dK s) s.kg s.pf s.np) s.root:=by grind [Jh,Int]
theorem OV {b:aI} {s:aA} {i:Nat} (h:fI b s.a (l5 b s) (s.lf i 0) (s.lf i 1) (s.lf i 2)=true) (hk:∀ j,j<i→¬ki s j=ki s i):wg b s i=true :=
 yc ⟨h,fun e=>by grind [rC,ki]⟩
theorem NY {b:aI} {s:aA} {i:Nat} (h:fI b s.a (l5 b s) (s.lf i 0) (s.lf i 1) (s.lf i 2)=false):wg b s i=false:=w8 (.inl h)
theorem NW {b:aI} {s:aA} {i j:Nat} (hj:j<i) (h:s.lf j 0=s.lf i 0):wg b s i=false:=w8 (.inr (rC.2 ⟨j,hj,h⟩))
theorem ne_next {f:Nat→Int} {v:Int} {i:Nat} (h:∀ j,j<i→¬f j=v) (hi:¬f i=v):∀ j,j<i+1→¬f j=v:=fun j hj=>by grind
abbrev rcl (n:Nat) (R:Nat→Nat→Int):AV:=.aG 11 n fun i j=>.int .i64 (R i j)
def cX (f:Nat→Int):fR:=⟨f 0,f 1,f 2,f 3,f 4,f 5,f 6,f 7,f 8,f 9,f 10⟩
def tP (R:Nat→Nat→Int) (k e d:Int) (i:Nat):Bool:=R i 0==k&&R i 1==e&&R i 2==d
def ke (R:Nat→Nat→Int) (n:Nat) (k e d:Int):Int:=aK (tP R k e d) n 0
def l9 (R:Nat→Nat→Int) (n:Nat) (s:aA):Int:=ke R n s.ju s.fK s.gq
def lN (R:Nat→Nat→Int) (n:Nat) (s:aA):fR:=bif decide (l9 R n s≥0) then cX (R (l9 R n s).toNat) else cX fun _=>0
def gk (b:aI) (R:Nat→Nat→Int) (n:Nat) (s:aA):Bool:=decide (l9 R n s≥0)&&mf b (lN R n s) s
theorem E0 {R:Nat→Nat→Int} {n:Nat} {k e d:Int} (h:¬ke R n k e d<0):0≤ke R n k e d∧ke R n k e d<n:=by
 have:=jA (p:=tP R k e d) n 0
 grind [ke]
theorem Kx {R:Nat→Nat→Int} {n:Nat} {s:aA} (h:l9 R n s<0):lN R n s=cX fun _=>0:=by grind [lN,decide_eq_false]
theorem Mh {R:Nat→Nat→Int} {n:Nat} {s:aA} (h:¬l9 R n s<0):lN R n s=cX (R (l9 R n s).toNat):=by grind [lN,decide_eq_true]
noncomputable def tR (b:aI) (s t:aA) (leaf:Int):Int×Int :=
 if (cQ b s t leaf).2=0 then (if (cQ b s t leaf).1=0∨m8 b (cQ b s t leaf).1=1 then (0,10) else (b.g1^(cQ b s t leaf).1.toNat%b.gr.p,0)) else (0,(cQ b s t leaf).2)
def vd2 (b:aI) (R:Nat→Nat→Int) (n:Nat) (s t:aA):Bool:=gk b R n s&&gk b R n t
noncomputable def xk (b:aI) (R:Nat→Nat→Int) (n:Nat) (s t:aA) (leaf:Int):Int:=bif vd2 b R n s t then (tR b s t leaf).1 else 0
noncomputable def tT (b:aI) (R:Nat→Nat→Int) (n:Nat) (s t:aA) (leaf:Int):Bool:=vd2 b R n s t&&(tR b s t leaf).2==0
theorem B9 {R:Nat→Nat→Int} {n:Nat} {s:aA} (h:l9 R n s<0):AV.aT [(cX fun _=>0).av,.bool false]=.aT [(lN R n s).av,.bool (decide (l9 R n s≥0))]:=by grind [Kx,decide_eq_false]
theorem EA {R:Nat→Nat→Int} {n:Nat} {s:aA} (h:¬l9 R n s<0):AV.aT [(cX (R (l9 R n s).toNat)).av,.bool true]=.aT [(lN R n s).av,.bool (decide (l9 R n s≥0))]:=by grind [Mh,decide_eq_true]
theorem Nu {R:Nat→Nat→Int} {k e d:Int} {i:Nat} (h:(R i 0=k∧R i 1=e)∧R i 2=d):tP R k e d i=true:=by grind [tP]
theorem N3 {R:Nat→Nat→Int} {k e d:Int} {i:Nat} (h:(¬R i 0=k∨¬R i 1=e)∨¬R i 2=d):tP R k e d i=false:=by grind [tP]
theorem jc {b:aI} {s t:aA} {leaf:Int} (h:(cQ b s t leaf).2=0):b.Ok∧0≤(cQ b s t leaf).1∧(cQ b s t leaf).1<b.gr.q:=by
 unfold cQ at h ⊢
 split at h
 ·cases h
 rename_i h0
 have hv:aR b=true:=by grind
 have hq:=fO hv
 rw [if_neg h0]
 split at h
 ·cases h
 rename_i h1
 rw [if_neg h1]
 split at h
 ·cases h
 rename_i h2
 rw [if_neg h2]
 split at h
 ·cases h
 rename_i h3
 rw [if_neg h3]
 split at h
 ·cases h
 rename_i h4
 rw [if_neg h4]
 split at h
 ·cases h
 rename_i h5
 rw [if_neg h5]
 exact ⟨bE.1 hv,Int.emod_nonneg _ (by omega),Int.emod_lt_of_pos _ hq.1⟩
theorem IZ {b:aI} {s t:aA} {leaf:Int} (h:¬(cQ b s t leaf).2=0):tR b s t leaf=(0,(cQ b s t leaf).2):=if_neg h
theorem Jb {b:aI} {s t:aA} {leaf:Int} (h:(cQ b s t leaf).2=0) (h':(cQ b s t leaf).1=0∨m8 b (cQ b s t leaf).1=1):tR b s t leaf=(0,10):=by simp_all [tR]
theorem Jm {b:aI} {s t:aA} {leaf:Int} (h:(cQ b s t leaf).2=0) (h':¬(cQ b s t leaf).1=0∧¬m8 b (cQ b s t leaf).1=1):tR b s t leaf=(b.g1^(cQ b s t leaf).1.toNat%b.gr.p,0):=by simp_all [tR]
theorem wY {b:aI} {s t:aA} {leaf:Int} {x:Int×Int} (h:tR b s t leaf=x):AV.aT [.int .i64 x.1,.int .i64 x.2]=.aT [.int .i64 (tR b s t leaf).1,.int .i64 (tR b s t leaf).2]:=by rw [h]
theorem KR {b:aI} {r:fR} {s:aA} (h:vn b r s=true):dC s=true:=by
 have k:=Fc h
 have hn:=k.n
 have h0:=h
 unfold vn at h
 simp only [Bool.and_eq_true] at h
 have hc:=h.1.1.2
 have hsp:=(JP hn).1
 have hl:(s.nl:Int)=szR s:=by rw [LM hn,k.l]
 simp_all [fL,Bool.and_eq_true,decide_eq_true_eq,dC,IntKind.wrap,dg,db]
theorem Oa {b:aI} {R:Nat→Nat→Int} {n:Nat} {s:aA} (h:gk b R n s=true):aR b=true∧dC s=true:=by
 unfold gk mf at h
 simp only [Bool.and_eq_true] at h
 have h:=h.2.1.1
 exact ⟨(Fc h).v,KR h⟩
theorem Jo {b:aI} {R:Nat→Nat→Int} {n:Nat} {s t:aA} {leaf:Int} (h:gk b R n s=false∨gk b R n t=false):AV.aT [.int .i64 0,.bool false]=.aT [.int .i64 (xk b R n s t leaf),.bool (tT b R n s t leaf)]:=by grind [vd2,xk,tT]
theorem Lu {b:aI} {R:Nat→Nat→Int} {n:Nat} {s t:aA} {leaf:Int} (h:((aR b=false∨(dC s=false∨dC t=false))∨gk b R n s=false)∨gk b R n t=false):AV.aT [.int .i64 0,.bool false]=.aT [.int .i64 (xk b R n s t leaf),.bool (tT b R n s t leaf)]:=by
 refine Jo ?_
 cases hs:gk b R n s with
 | false=>simp
 | true =>
  cases ht:gk b R n t with
  | false=>simp
  | true =>
   grind [Oa]
theorem FA {b:aI} {R:Nat→Nat→Int} {n:Nat} {s t:aA} {leaf:Int} (h:gk b R n s=true∧gk b R n t=true):AV.aT [.int .i64 (tR b s t leaf).1,.bool ((tR b s t leaf).2==0)]=.aT [.int .i64 (xk b R n s t leaf),.bool (tT b R n s t leaf)]:=by grind [xk,tT,vd2]
theorem Oj {b:aI} {R:Nat→Nat→Int} {n:Nat} {s t:aA} (h:(((l9 R n s≥0∧l9 R n t≥0)∧mf b (lN R n s) s=true)∧mf b (lN R n t) t=true)):gk b R n s=true∧gk b R n t=true:=by
 unfold gk;rw [h.1.2,h.2,decide_eq_true h.1.1.1,decide_eq_true h.1.1.2];exact ⟨rfl,rfl⟩
theorem LF {b:aI} {R:Nat→Nat→Int} {n:Nat} {s t:aA} {leaf:Int} (h:(((¬l9 R n s≥0∨¬l9 R n t≥0)∨mf b (lN R n s) s=false)∨mf b (lN R n t) t=false)):AV.aT [.int .i64 0,.bool false]=.aT [.int .i64 (xk b R n s t leaf),.bool (tT b R n s t leaf)]:=by
 refine Jo ?_
 unfold gk
 grind
theorem J7 {b:aI} {R:Nat→Nat→Int} {n:Nat} {s t:aA} {leaf:Int} {x:Int×Int} (h:gk b R n s=true∧gk b R n t=true) (e:tR b s t leaf=x):AV.aT [.int .i64 x.1,.bool (x.2==0)]=.aT [.int .i64 (xk b R n s t leaf),.bool (tT b R n s t leaf)]:=by grind [FA]
theorem PN {b:aI} {R:Nat→Nat→Int} {n:Nat} {s t:aA} {leaf:Int} (h:gk b R n s=true∧gk b R n t=true) (g:(¬(cQ b s t leaf).2=0∨(cQ b s t leaf).1=0)∨m8 b (cQ b s t leaf).1=1):AV.aT [.int .i64 0,.bool false]=.aT [.int .i64 (xk b R n s t leaf),.bool (tT b R n s t leaf)]:=by
 by_cases h0:(cQ b s t leaf).2=0
 ·refine J7 (x:=(0,10)) h (Jb h0 ?_)
  omega
 grind [J7,IZ,cQ]
theorem PE {b:aI} {R:Nat→Nat→Int} {n:Nat} {s t:aA} {leaf:Int} (h:gk b R n s=true∧gk b R n t=true) (g:((cQ b s t leaf).2=0∧¬(cQ b s t leaf).1=0)∧¬m8 b (cQ b s t leaf).1=1):AV.aT [.int .i64 (b.g1^(cQ b s t leaf).1.toNat%b.gr.p),.bool true]=.aT [.int .i64 (xk b R n s t leaf),.bool (tT b R n s t leaf)] :=
 J7 (x:=(b.g1^(cQ b s t leaf).1.toNat%b.gr.p,0)) h (Jm g.1.1 ⟨g.1.2,g.2⟩)
theorem mJ {b:aI} {s t:aA} {leaf:Int} (h:(cQ b s t leaf).2=0):0≤b.g1∧b.g1<b.gr.p∧0≤(cQ b s t leaf).1∧(cQ b s t leaf).1≤9223372036854775807∧b.gr.p<2305843009213693952:=by
 have k:=jc h
 have e:=cd k.1.G k.1.e1
 have:=k.1.G.p1
 have:=k.1.G.qp
 omega
def ec (b:aI) (x:Int):Bool:=decide (x≥1)&&decide (x<b.gr.q)
def PC (b:aI) (u:Int):Int:=o5 b u 1
def lfJ (b:aI) (X:Nat→Nat→Int) (i:Nat):Int:=o5 b (X i 0) (X i 1)
def M7 (b:aI) (X:Nat→Nat→Int) (i:Nat):Bool:=bG b.gr (X i 0)&&bG b.gr (X i 1)
def O4 (b:aI) (X:Nat→Nat→Int) (i:Nat):Bool:=(List.range i).any fun j=>decide (lfJ b X i=lfJ b X j)
theorem JR {b:aI} {x:Int} (h:ec b x=true):bG b.gr x=true:=by grind [ec,ka]
structure P0 (b : aI) (u s : Int) (X : Nat → Nat → Int) (n : Nat) : Prop where
  v : aR b = true
  hu : ec b u = true
  hs : ec b s = true
  m : (PC b u != 1) = true
  l : FH n = true
  p : ∀ i, i < n → M7 b X i = true
  d : ∀ i, i < n → O4 b X i = false
theorem j8 {b:aI} {x:Int} (h:ec b x=true):0≤x∧x<b.gr.q:=ka.1 (JR h)
theorem oA (p:Nat→Bool) (n:Nat):anyI p n=(List.range n).any p:=by
 unfold anyI
 have key:∀ k i,decide (aK p k i≥0)=(List.range k).any fun j=>p (i+j):=by
  intro k
  induction k with
  | zero=>intro i;rfl
  | succ k ih =>
   intro i
   have e:aK p (k+1) i=if p i then (i:Int) else aK p k (i+1):=rfl
   rw [e,List.range_succ_eq_map,List.any_cons,List.any_map]
   cases hp:p i with
   | true=>simp [hp]
   | false =>
    simp only [Bool.false_eq_true,if_false,Nat.add_zero,hp,Bool.false_or]
    rw [ih]
    congr 1
    funext j
    show p (i+1+j)=p (i+(j+1))
    rw [Nat.add_right_comm,Nat.add_assoc]
 rw [key];simp
theorem Fw {p:Nat→Bool} {n:Nat} (h:anyI p n=false):∀ i,i<n→p i=false:=by
 rw [oA] at h
 simpa using h
theorem Kv {p:Nat→Bool} {n:Nat} (h:anyI p n=true):∃ i,i<n∧p i=true:=by
 rw [oA] at h
 simpa using h
def eS (s:ByteArray):Bool:=decide (1≤s.size)&&decide (s.size≤24)&&(List.range s.size).all fun i=>decide (33≤gB s i)&&decide (gB s i≤126)
structure PT (s : ByteArray) : Prop where
  lo : 1 ≤ s.size
  hi : s.size ≤ 24
  at' : ∀ i, i < s.size → 33 ≤ gB s i ∧ gB s i ≤ 126
theorem gE {s:ByteArray} (h:eS s=true):PT s:=by
 simp only [eS,Bool.and_eq_true,decide_eq_true_eq,List.all_eq_true,List.mem_range] at h
 exact ⟨h.1.1,h.1.2,h.2⟩
def nx (c:Int):Bool:=decide (c<33)||decide (c>126)
theorem Mv {s:ByteArray}:(decide ((s.size:Int)≥1)&&decide ((s.size:Int)≤24) && !anyI (fun i=>nx (gB s i)) s.size)=eS s:=by
 rw [oA]
 unfold eS
 have e1:decide ((s.size:Int)≥1)=decide (1≤s.size):=by grind
 have e2:decide ((s.size:Int)≤24)=decide (s.size≤24):=by grind
 rw [e1,e2,List.not_any_eq_all_not]
 congr 2
 funext i
 simp only [nx,Bool.not_or]
 grind
theorem Bq {s:ByteArray} (h:(s.size:Int)<1∨(s.size:Int)>24):eS s=false:=by grind [eS,gE]
theorem Lj {s:ByteArray} {i:Nat} (hi:i<s.size) (h:gB s i<33∨gB s i>126):eS s=false:=by grind [eS,gE]
theorem G0 {s:ByteArray} (h:¬(s.size:Int)<1∧¬(s.size:Int)>24) (k:∀ i,i<s.size→33≤gB s i∧gB s i≤126):eS s=true:=by simp_all [eS,Bool.and_eq_true,decide_eq_true_eq,List.all_eq_true,List.mem_range]<;>omega
def ow (h:Nat→Int) (s:ByteArray) (L:List It):List It:=.eQ 32 h::.eQ s.size (gB s)::L
def fl (h:Nat→Int) (s:ByteArray) (L:List It):It:=nJ (ow h s L)
theorem H8 (h:Nat→Int) (s:ByteArray):(fl h s []).p4 8=true:=by rfl
theorem mF (h:Nat→Int) (s:ByteArray):(fl h s []).enc.length=47+s.size:=by
 show (It.lA 2 _ (0+1+1)).length=_
 grind [It.fu,List.length_append,It.iC,gQ,i7,ow]
theorem zn (h:Nat→Int) (s:ByteArray) {x:It} (hx:x.p4 7=true):(fl h s [x]).p4 8=true:=by simp_all [fl,ow,nJ,It.p4,List.range,List.range.loop,List.getD]
theorem kx (h:Nat→Int) (s:ByteArray) (x:It):(fl h s [x]).enc.length=47+s.size+x.enc.length:=by
 show (It.lA 3 _ (0+1+1+1)).length=_
 simp_all [It.fu,List.length_append,It.iC,gQ,i7,ow]<;>omega
theorem mr (s:ByteArray):cC (gB s) s.size:=fun i hi=>by
 unfold gB
 exact ⟨Int.natCast_nonneg _,by have:=(s.data.toList.getD i 0).toNat_lt;omega⟩
theorem vL {h:Nat→Int} {s:ByteArray} (hb:cC h 32):(fl h s []).okB:=fun i hi=>by
 have hi:i<2:=hi
 match i,hi with
 | 0,_=>exact hb
 | 1,_=>exact mr s
theorem vC {h:Nat→Int} {s:ByteArray} {x:It} (hb:cC h 32) (hx:x.okB):(fl h s [x]).okB:=fun i hi=>by
 have hi:i<3:=hi
 match i,hi with
 | 0,_=>exact hb
 | 1,_=>exact mr s
 | 2,_=>exact hx
theorem OZ {h:Nat→Int} {bN:Int} {j:Nat} (hj:j<32):aE (aO (bh h++[.int .i64 bN]) j)=h j:=by
 have e:aO (bh h++[.int .i64 bN]) j=aO (bh h) j:=by
  unfold aO
  rw [List.getD_eq_getElem?_getD,List.getD_eq_getElem?_getD,List.getElem?_append_left (by simp_all [bh])]
 grind [eL]
def JU (h:Nat→Int) (bN:Int):List AV:=[.int .i64 2,.int .i64 0,.aG 1 32 fun r _=>.int .u8 (aE (aO (bh h++[.int .i64 bN]) (0+(0+r)))),.bc]
def Mn (s:ByteArray):List AV:=[.int .i64 2,.int .i64 0,.aG 1 s.size fun i _=>.int .u8 ((s.data.toList.getD i 0).toNat:Nat),.bc]
theorem Eu {os:List (Option Ob)} {h:Nat→Int} {bN:Int} (k:Nat):aw os (aO (JU h bN) k) (aO (It.eQ 32 h).cells k) :=
 aw.aO (mS 32 fun i hi=>by simp_all [Nat.zero_add,OZ]) k
theorem Cv {os:List (Option Ob)} {s:ByteArray} (k:Nat):aw os (aO (Mn s) k) (aO (It.eQ s.size (gB s)).cells k) :=
 aw.aO (mS s.size fun i hi=>rfl) k
theorem D0 {os:List (Option Ob)} {h:Nat→Int} {bN:Int} {s:ByteArray} {L:List It} {i k:Nat} (hi:i<2):aw os (aO (List.getD [JU h bN,Mn s] (i+0) []) k) (aO ((ow h s L).getD i (.int 0)).cells k) :=
 match i,hi with
 | 0,_=>Eu k
 | 1,_=>Cv k
theorem C5 {os:List (Option Ob)} {h:Nat→Int} {bN:Int} {s:ByteArray} {x:It} {y:List AV} (hx:∀ k,k<4→aw os (aO y k) (aO x.cells k)) {i k:Nat} (hi:i<3) (hk:k<4) :
  aw os (cG (Nat.blt (i+0) 2) (aO (List.getD [JU h bN,Mn s] (i+0) []) k) (aO y k)) (aO ((ow h s [x]).getD i (.int 0)).cells k) :=
 match i,hi with
 | 0,_=>by show aw os (cG true _ _) _;rw [gi];exact Eu k
 | 1,_=>by show aw os (cG true _ _) _;rw [gi];exact Cv k
 | 2,_=>by show aw os (cG false _ _) _;rw [fP];exact hx k hk
def sC (s:ByteArray):Nat→Int:=eX "specie/transcript".toUTF8 s.size (gB s)
def jG (h:Nat→Int) (s:ByteArray) (x:It):Nat→Int:=jn "specie/absorb".toUTF8 (fl h s [x])
def v3 (h:Nat→Int) (s:ByteArray) (q:Int):Int:=cB (jn "specie/challenge".toUTF8 (fl h s [])) q 16
theorem xX (s:ByteArray):cC (sC s) 32:=fun i _=>pS _ _ i
theorem lj (h:Nat→Int) (s:ByteArray) (x:It):cC (jG h s x) 32:=jd _ _ _
structure Pf where
  na : Nat
  a : Nat → Int
  c : Int
  nz : Nat
  z : Nat → Int
def Pf.cells (p:Pf):List AV:=[.aG 1 p.na fun i _=>.int .i64 (p.a i),.int .i64 p.c,.aG 1 p.nz fun i _=>.int .i64 (p.z i)]
def pg (G:bL) (p:Pf):Bool:=Nat.beq p.na 1&&Nat.beq p.nz 1&&aQ G (p.a 0)&&bG G p.c&&bG G (p.z 0)
def ov (G:bL) (b y:Int):Bool:=bp G&&bV G b&&aQ G y
def jO (G:bL) (b y:Int) (p:Pf):Bool:=ov G b y&&pg G p&&(b^(p.z 0).toNat%G.p==p.a 0*(y^p.c.toNat%G.p)%G.p)
def wi (G:bL) (b y a:Int) (s:ByteArray):Int :=
 v3 (jG (jG (jG (sC s) "group".toUTF8 (bu [G.p,G.q,G.g])) "statement".toUTF8 (bu [b,y])) "commitment".toUTF8 (bu [a])) "challenge".toUTF8 G.q
def mg (G:bL) (b y:Int) (s:ByteArray) (p:Pf):Bool:=jO G b y p&&wi G b y (p.a 0) s==p.c
structure df where
  a : Int
  b : Int
  sp : aA
  leaf : Int
def df.cells (u:df):List AV:=[.int .i64 u.a,.int .i64 u.b]++u.sp.cells++[.int .i64 u.leaf]
def l3 (n:Nat) (U:Nat→df):AV:=.aG 83 n fun i j=>aO (U i).cells j
def nj (s:aA) (i:Nat):Bool:=(List.range i).all fun k => !(s.lf k 0==s.lf i 0)
def iE (s:aA):Bool:=decide (1≤s.nl)&&decide (s.nl≤32)&&decide (s.np≤20)&&(List.range s.nl).all (nj s)
theorem za {s:aA} (h:((s.nl:Int)<1∨(s.nl:Int)>32)∨(s.np:Int)>20):iE s=false:=by simp_all [iE,Bool.and_eq_true,decide_eq_true_eq]<;>omega
theorem xT {s:aA} {i:Nat} (hi:i<s.nl) (h:nj s i=false):iE s=false:=by cases e:iE s<;>simp_all [iE,Bool.and_eq_true,List.all_eq_true,List.mem_range]
theorem DV {s:aA} (h1:¬(s.nl:Int)<1) (h2:¬(s.nl:Int)>32) (h3:¬(s.np:Int)>20) (h:∀ i,i<s.nl→nj s i=true):iE s=true:=by grind [List.range,nj,List.all_eq_true,iE,decide_eq_true]
theorem N0 {s:aA} (h:iE s=true):1≤s.nl∧s.nl≤32∧s.np≤20:=by simp_all [iE,Bool.and_eq_true,decide_eq_true_eq]
theorem J3 {s:aA} {i k:Nat} (hk:k<i) (h:s.lf k 0=s.lf i 0):nj s i=false:=by grind [nj,List.all_eq_true,Bool.not_eq_true',beq_eq_false_iff_ne,absurd]
theorem FM {s:aA} {i:Nat} (h:∀ k,k<i→s.lf k 0≠s.lf i 0):nj s i=true:=by grind [nj,List.all_eq_true,Bool.not_eq_true',beq_eq_false_iff_ne]
def rZ (u:df):Bool:=iE u.sp&&decide (0≤u.leaf)&&decide (u.leaf<u.sp.nl)&&u.a==u.sp.a&&u.b==u.sp.lf u.leaf.toNat 0
def Bh (x y:df):Bool:=decide (x.a<y.a)||(x.a==y.a&&decide (x.b<y.b))
def iw (n:Nat) (U:Nat→df):Bool:=decide (n≤2000)&&(List.range n).all fun i=>rZ (U i)&&(Nat.beq i 0||Bh (U (i - 1)) (U i))
theorem yr {n:Nat} {U:Nat→df} (h:(n:Int)>2000):iw n U=false:=by grind [iw,decide_eq_false]
theorem oB {n:Nat} {U:Nat→df} {i:Nat} (hi:i<n) (h:rZ (U i)=false∨(i≠0∧Bh (U (i - 1)) (U i)=false)):iw n U=false:=by
 cases e:iw n U with
 | false=>rfl
 | true =>
  simp only [iw,Bool.and_eq_true,decide_eq_true_eq,List.all_eq_true,List.mem_range,Bool.or_eq_true] at e
  grind [absurd,Nat.eq_of_beq_eq_true]
theorem CW {n:Nat} {U:Nat→df} (hn:¬(n:Int)>2000) (h:∀ i,i<n→rZ (U i)=true∧(i≠0→Bh (U (i - 1)) (U i)=true)):iw n U=true:=by
 simp only [iw,Bool.and_eq_true,decide_eq_true_eq,List.all_eq_true,List.mem_range,Bool.or_eq_true]
 refine ⟨by omega,fun i hi=>⟨(h i hi).1,?_⟩⟩
 by_cases e:i=0
 ·simp_all
 grind
theorem pE {u:df}:rZ u=true↔iE u.sp=true∧0≤u.leaf∧u.leaf<u.sp.nl∧u.a=u.sp.a∧u.b=u.sp.lf u.leaf.toNat 0:=by
 simp [rZ,and_assoc]
theorem xK {x y:df}:Bh x y=true↔x.a<y.a∨(x.a=y.a∧x.b<y.b):=by simp [Bh]
structure de where
  key : Int
  pf : Pf
  led : Int
  blk : Bool
  last : Int
def de.cells (c:de):List AV:=[.int .i64 c.key,.aG 1 c.pf.na fun i _=>.int .i64 (c.pf.a i),.int .i64 c.pf.c,.aG 1 c.pf.nz fun i _=>.int .i64 (c.pf.z i),.int .i64 c.led,.bool c.blk,.int .i64 c.last]
def uy (n:Nat) (C:Nat→de):AV:=.aG 7 n fun i j=>aO (C i).cells j
structure dq where
  s : aA
  t : aA
  leaf : Int
def dq.cells (g:dq):List AV:=g.s.cells++(g.t.cells++[.int .i64 g.leaf])
def lL (n:Nat) (G:Nat→dq):AV:=.aG 161 n fun i j=>aO (G i).cells j
structure aX where
  num : Int
  cg : aI
  sec : Int
  nr : Nat
  R : Nat → Nat → Int
  ns : Nat
  X : Nat → Int
  nc : Nat
  C : Nat → de
  nb : Nat
  B : Nat → Int
  ne : Nat
  E : Nat → Nat → Int
  nu : Nat
  U : Nat → df
  ni : Nat
  I : Nat → Nat → Int
  ng : Nat
  G : Nat → dq
  nP : Nat → Int
  bN : Int
  now : Int
def Af (num:Int) (cg:aI) (sec:Int) (r x c b e u i g:AV) (nP:Nat→Int) (bN now:Int):List AV :=
 .int .i64 num::(cg.cells++([.int .i64 sec,r,x,c,b,e,u,i,g]++(bh nP++[.int .i64 bN,.int .i64 now])))
def dD (n:Nat) (X:Nat→Int):AV:=.aG 1 n fun i _=>.int .i64 (X i)
def et (n:Nat) (E:Nat→Nat→Int):AV:=.aG 4 n fun i j=>.int .i64 (E i j)
def qA (n:Nat) (I:Nat→Nat→Int):AV:=.aG 21 n fun i j=>.int .i64 (I i j)
def aX.cells (k:aX):List AV:=Af k.num k.cg k.sec (.aG 11 k.nr fun i j=>.int .i64 (k.R i j)) (dD k.ns k.X) (uy k.nc k.C) (dD k.nb k.B) (et k.ne k.E) (l3 k.nu k.U) (qA k.ni k.I) (lL k.ng k.G) k.nP k.bN k.now
def ct (b:aI) (x e:Int):Int:=x^e.toNat%b.gr.p
def fM (b:aI) (x y:Int):Int:=x*y%b.gr.p
def okK (b:aI) (x:Int) (r:Nat→Int):Bool:=ec b x&&ct b b.gr.g x==r 5&&ct b b.g1 x==r 6&&ct b b.g2 x==r 7
def oU (b:aI) (y:Int):Bool:=aR b&&bV b.gr y&&fM b y b.g2 != 1
def ub:ByteArray := "account".toUTF8
def gy (b:aI) (y:Int) (p:Pf):Bool:=oU b y&&mg b.gr b.g1 y ub p
def FL (k:aX) (i:Nat):Bool:=okK k.cg (k.X i) (k.R i)&&dV k.cg (cX (k.R i))&&k.R i 0==k.num&&ke k.R k.nr (k.R i 0) (k.R i 1) (k.R i 2)==(i:Int)
def fD (k:aX):Bool:=decide (k.nr≤100)&&Nat.beq k.ns k.nr&&(List.range k.nr).all (FL k)
def km (k:aX) (y:Int):Int:=aK (fun i=>(k.C i).key==y) k.nc 0
def okC (k:aX) (i:Nat):Bool:=gy k.cg (k.C i).key (k.C i).pf&&km k (k.C i).key==(i:Int)&&(k.C i).led==5+(i:Int)&&decide (0≤(k.C i).last)&&decide ((k.C i).last≤200)
def gG (k:aX):Bool:=decide (k.nc≤100)&&(List.range k.nc).all (okC k)
def tu (k:aX) (y n:Int):Int:=aK (fun i=>k.I i 2==y&&k.I i 1==n) k.ni 0
def kP (x y:Nat→Int):Bool:=(List.range 11).all fun j=>x j==y j
def kj (k:aX) (r:Nat→Int):Int:=aK (fun i=>kP (k.R i) r) k.nr 0
def lF (b:aI) (h h1 h2 m z a c2 c r:Int):Bool:=cZ b h h1 h2&&bV b.gr m&&dS b.gr z a c2&&ec b c&&bG b.gr r&&ct b b.gr.g r==fM b (ct b h c) a&&ct b m r==fM b (ct b z c) c2
def gd (b:aI) (s:Nat→Int):Bool:=aR b&&dV b (cX fun j=>s (3+j))&&decide (0≤s 1)&&decide (s 1≤1073741824)&&bG b.gr (s 14)&&oU b (s 2)&&s 15==fM b (s 2) b.g2&&aQ b.gr (s 16)&&s 17==ct b b.gr.g (s 14)&&s 18==ct b (fM b (s 2) b.g2) (s 14) &&
 (bif s 0==1 then s 19==0&&s 20==0 else bif s 0==3 then lF b (s 8) (s 9) (s 10) (s 15) (s 16) (s 17) (s 18) (s 19) (s 20) else false)
def FK (k:aX) (i:Nat):Bool:=decide (0≤kj k fun j=>k.I i (3+j))&&gd k.cg (k.I i)&&decide (0≤km k (k.I i 2))&&tu k (k.I i 2) (k.I i 1)==(i:Int)&&ct k.cg (k.I i 15) (k.X (kj k fun j=>k.I i (3+j)).toNat)==k.I i 16
def jz (k:aX):Bool:=decide (k.ni≤200)&&(List.range k.ni).all (FK k)
noncomputable def tQ (k:aX) (i:Nat):Bool:=tT k.cg k.R k.nr (k.G i).s (k.G i).t (k.G i).leaf
def hdK (k:aX):Bool:=decide (0≤k.num)&&decide (k.num≤7)&&aR k.cg&&decide (0≤k.bN)&&decide (k.bN≤1099511627776)&&ec k.cg k.sec&&decide (0≤k.now)&&decide (k.now≤1099511627776)
noncomputable def dO (k:aX):Bool:=hdK k&&fD k&&gG k&&dp k.nb k.B k.ne k.E&&Nat.beq k.nb (5+k.nc)&&iw k.nu k.U&&jz k&&decide (k.ng≤200)&&(List.range k.ng).all (tQ k)
end Go.Sp

namespace Go.Proofs.YtgnfjlekpgjehaaGreatDoor
open Go.IntKind (wrap)
open Int (toNat)
open Go Go.Am Go.Sp
set_option maxRecDepth 100000
theorem KN (c:Int):Pure Tryz.prog aW 307 [.int .u8 c] (.bool (nx c)):=by
 refine ar (own:=bk) Tryz.func307 (by kernel_rfl) mixed (by kernel_rfl)
  (.out (.bool (decide (c<33)||decide (c>126))) [] (.bool (nx c)) [])
  (by kernel_rfl) ?_
 exact aq (aw.of_eq rfl)
theorem L0 (n:Nat) (f:Nat→Int) (hn:n<9223372036854775808):Pure Tryz.prog aW 332 [dn n f,.fn (.func 307) [] []] (.int .i64 (aK (fun i=>nx (f i)) n 0)):=by
 have hc:=fun i=>KN (f i)
 refine ar (own:=bk) Tryz.func332 (by kernel_rfl) mixed (by kernel_rfl)
  (let z1:=(Fn.func (307:FuncId));let z0:={ x:Nat // x≤n∧(fun i=>aK (fun i=>nx (f i)) n 0=aK (fun i=>nx (f i)) (n - i) i) x };let y0:=(fun (x:z0)=>aY [0,1,7,8] [.aG 1 n fun i x=>Zb (f i),AV.fn z1 [] [],Zi n,Zi x.1] []);let y1:=(fun (x:z0)=>n - x.1);let y2:AV:=(Zi (aK (fun i=>nx (f i)) n 0));(.loop (z0) y0 y1 (⟨0,⟨Nat.zero_le n,rfl⟩⟩) [0,1,7,8] [] [.aG 1 n fun i x=>Zb (f i),AV.fn z1 [] [],Zi n,Zi 0] [] (fun x0=>let z2:=(f (toNat (x0.1:Int)));(.br (decide ((x0.1:Int)<(n:Int))) (.bf (0≤(x0.1:Int)∧(x0.1:Int)<(n:Int)) (.sc true 307 [Zb z2] (.bool (nx z2)) (.br (nx z2) (.out (Zi x0.1) [] y2 []) (.again (be 0 y0 y1 x0) [0,1,7,8] [] [.aG 1 n fun i x=>Zb (f i),AV.fn z1 [] [],Zi n,Zi (wrap .i64 ((x0.1:Int)+1))] [])))) (.out (Zi (-1)) [] y2 [])))))
  (by kernel_rfl) ?_
 refine aU (fun _ hs=>hs.le (⟨.refl _,.refl _,.refl _,.refl _,trivial⟩) (trivial)) (fun x0=>?_)
 try (have q0:=x0.2;dsimp only at q0)
 refine aL (fun h1=>?_) (fun h1=>?_)
 ·have g1:=af h1
  refine aD (by omega) ?_
  refine aM (hc (toNat (↑x0.1:Int))) ?_
  refine aL (fun h4=>?_) (fun h4=>?_)
  ·have g4:=aC h4
   try simp only [Int.toNat_natCast] at g4
   exact aq (aw.of_eq (congrArg _ (cr x0.2.2 (by omega) g4)))
  ·have g4:=aF h4
   try simp only [Int.toNat_natCast] at g4
   exact aN (⟨x0.1+1,by omega,bS x0.2.2 (by omega) g4⟩) (fun _ hs=>hs.le (⟨.refl _,.refl _,.refl _,aJ (by omega),trivial⟩) (trivial)) (by dsimp only;omega)
 ·have g1:=aa h1
  exact aq (aw.of_eq (congrArg _ (bW x0.2.2 (by omega))))
theorem KP (n:Nat) (f:Nat→Int) (hn:n<9223372036854775808):Pure Tryz.prog aW 306 [dn n f,.fn (.func 307) [] []] (.bool (anyI (fun i=>nx (f i)) n)):=by
 have c1:=L0 n f hn
 refine ar (own:=bk) Tryz.func306 (by kernel_rfl) mixed (by kernel_rfl)
  (let z0:=(fun i=>nx (f i));(.sc true 332 [.aG 1 n fun i x=>Zb (f i),AV.fn (Fn.func (307:FuncId)) [] []] (Zi (aK z0 n 0)) (.out (.bool (decide (aK z0 n 0≥0))) [] (.bool (anyI z0 n)) [])))
  (by kernel_rfl) ?_
 refine aM (c1) ?_
 exact aq (aw.refl _)
theorem wU (s:ByteArray) (hs:s.size≤1000):Pure Tryz.prog aW 256 [.str s] (.bool (eS s)):=by
 have c1:=KP s.size (gB s) (by omega)
 refine ar (own:=bk) Tryz.func256 (by kernel_rfl) mixed (by kernel_rfl)
  (let z1:=(fun i=>nx (gB s i));let z0:=(ByteArray.size s);(.sc ((decide ((↑z0:Int)≥1)&&decide ((↑z0:Int)≤24))==true) 306 [.aG 1 z0 fun i x=>Zb (↑(UInt8.toNat (List.getD (Array.toList (ByteArray.data s)) i (0:UInt8))):Int),AV.fn (Fn.func 307) [] []] (.bool (anyI z1 z0)) (.out (.bool (decide ((↑z0:Int)≥1)&&decide ((↑z0:Int)≤24) && !anyI z1 z0)) [] (.bool (eS s)) [])))
  (by kernel_rfl) ?_
 refine aV (fun h0=>c1) ?_
 exact aq (aw.of_eq (congrArg AV.bool Mv))
theorem wH (s:ByteArray) (hs:s.size≤1000):Pure Tryz.prog aW 142 [.str s] (.bool (eS s)):=by
 refine ar (own:=bk) Tryz.func142 (by kernel_rfl) mixed (by kernel_rfl)
  (let z3:AV:=(.bool (eS s));let z2:Int:=(↑(ByteArray.size s):Int);let z0:={ x:Nat // x≤ByteArray.size s∧(fun (x:Nat)=>∀ (i:Nat),i<x→(33:Int)≤gB s i∧gB s i≤126) x };let y0:=(fun (x:z0)=>aY [0,4,3] [AV.str s,AV.str s,Zi x.1] []);let y1:=(fun (x:z0)=>ByteArray.size s - x.1);(.br (decide (z2<1)||decide (z2>24)) (.out (.bool false) [] z3 []) (.loop (z0) y0 y1 (⟨0,⟨Nat.zero_le (ByteArray.size s),fun (j:Nat) (hj:j<0)=>absurd hj (Nat.not_lt_zero j)⟩⟩) [0,4,3] [] [AV.str s,AV.str s,Zi 0] [] (fun x2=>let z1:Int:=(↑(UInt8.toNat (List.getD (Array.toList (ByteArray.data s)) (toNat (x2.1:Int)) (0:UInt8))):Int);(.br (decide ((x2.1:Int)<z2)) (.bf (0≤(x2.1:Int)∧(x2.1:Int)<z2) (.bf ((decide (z1<33)==false)=true→0≤(x2.1:Int)∧(x2.1:Int)<z2) (.br (decide (z1<33)||decide (z1>126)) (.out (.bool false) [] z3 []) (.again (be 0 y0 y1 x2) [0,4,3] [] [AV.str s,AV.str s,Zi (wrap .i64 ((x2.1:Int)+1))] [])))) (.out (.bool true) [] z3 []))))))
  (by kernel_rfl) ?_
 refine aL (fun h0=>?_) (fun h0=>?_)
 ·have g0:=(az af af) h0
  exact aq (aw.of_eq (congrArg AV.bool (Bq g0).symm))
 ·have g0:=(au aa aa) h0
  refine aU (fun _ hs=>hs.le (⟨.refl _,.refl _,.refl _,trivial⟩) (trivial)) (fun x2=>?_)
  try (have q2:=x2.2;dsimp only at q2)
  refine aL (fun h3=>?_) (fun h3=>?_)
  ·have g3:=af h3
   refine aD (by omega) ?_
   refine aD (fun hr=>by have hr:=(cY aa) hr;omega) ?_
   refine aL (fun h6=>?_) (fun h6=>?_)
   ·have g6:=(az af af) h6
    try simp only [Int.toNat_natCast] at g6
    exact aq (aw.of_eq (congrArg AV.bool (Lj (i:=x2.1) (by omega) g6).symm))
   ·have g6:=(au aa aa) h6
    try simp only [Int.toNat_natCast] at g6
    exact aN (⟨x2.1+1,by omega,fun i hi=>by rcases Nat.lt_succ_iff_lt_or_eq.1 hi with hi|rfl;(· exact q2.2 i hi);(· have g7:¬gB s x2.1<33∧¬gB s x2.1>126:=g6;omega)⟩) (fun _ hs=>hs.le (⟨.refl _,.refl _,aJ (by omega),trivial⟩) (trivial)) (by dsimp only;omega)
  ·have g3:=aa h3
   exact aq (aw.of_eq (congrArg AV.bool (G0 g0 (fun i hi=>q2.2 i (by omega))).symm))
theorem LS (s:ByteArray) (h:eS s=true):Pure Tryz.prog aW 182 [.str s] (.aT [.agg (bh (sC s)++[.int .i64 0]),.int .i64 0]):=by
 have v:=gE h
 have v1:=v.hi
 have c1:=wU s (by omega)
 rw [h] at c1
 have c2:=gm "specie/transcript".toUTF8 (by decide) (by decide) (gB s) s.size (by omega) (mr s)
 refine ar (own:=bk) Tryz.func182 (by kernel_rfl) mixed (by kernel_rfl)
  (let z0:=(eX (String.toUTF8 "specie/transcript") (ByteArray.size s) (gB s));(.sc true 256 [AV.str s] (.bool true) (.ff (.sc true 62 [AV.str { data := #[(115:UInt8),112,101,99,105,101,47,116,114,97,110,115,99,114,105,112,116] },.aG 1 (ByteArray.size s) fun i x=>Zb (↑(UInt8.toNat (List.getD (Array.toList (ByteArray.data s)) i (0:UInt8))):Int)] (.aT [.agg (bh z0),Zi 0]) (.out (.aT [.agg (bh z0++[Zi 0]),Zi 0]) [] (.aT [.agg (bh (sC s)++[Zi 0]),Zi 0]) [])))))
  (by kernel_rfl) ?_
 refine aM (c1) ?_
 refine b9 ?_
 refine aM (c2) ?_
 exact aq (aw.of_eq rfl)
theorem Km (s:ByteArray) (h:eS s=true):Pure Tryz.prog aW 221 [.str s] (.agg (bh (sC s)++[.int .i64 0])):=by
 have v:=gE h
 have v1:=v.hi
 have c2:=fw "specie/transcript".toUTF8 (by decide) (gB s) s.size (by omega) (mr s)
 refine ar (own:=bk) Tryz.func221 (by kernel_rfl) mixed (by kernel_rfl)
  (let z0:=(eX (String.toUTF8 "specie/transcript") (ByteArray.size s) (gB s));(.sc true 83 [AV.str { data := #[(115:UInt8),112,101,99,105,101,47,116,114,97,110,115,99,114,105,112,116] },.aG 1 (ByteArray.size s) fun i x=>Zb (↑(UInt8.toNat (List.getD (Array.toList (ByteArray.data s)) i (0:UInt8))):Int)] (.agg (bh z0)) (.out (.agg (bh z0++[Zi 0])) [] (.agg (bh (sC s)++[Zi 0])) [])))
  (by kernel_rfl) ?_
 refine aM (c2) ?_
 exact aq (aw.of_eq rfl)
theorem Dj (a m:Int) (h0:0≤a) (h1:a<m) (hm:m<2305843009213693952):Pure Tryz.prog aW 303 [.int .i64 a,.int .i64 m] (.aT [.int .i64 (Int.gcd a m:Nat),.int .i64 (xS a m)]):=by
 refine ar (own:=bk) Tryz.func303 (by kernel_rfl) mixed (by kernel_rfl)
  (let z2:=(fun (s:Int×Int×Int×Int)=>toNat (Prod.fst (Prod.snd s)));let z0:={ x:Int×Int×Int×Int // (fun (s:Int×Int×Int×Int)=>qy a m s) x };let y0:AV:=(.aT [Zi (↑(Int.gcd a m):Int),Zi (xS a m)]);(.loop (z0) (fun (x:z0)=>aY [1,4,0,5,6] [Zi m,Zi (Prod.fst (x.1)),Zi (Prod.fst (Prod.snd (x.1))),Zi (Prod.fst (Prod.snd (Prod.snd (x.1)))),Zi (Prod.snd (Prod.snd (Prod.snd (x.1))))] []) (fun (x:z0)=>z2 (x.1)) (⟨(m,a,(0:Int),(1:Int)),qy.start h0 h1⟩) [1,4,0,5,6] [] [Zi m,Zi m,Zi a,Zi 0,Zi 1] [] (fun x0=>let z1:=(Prod.snd (x0.1));(.br (z1.1 != 0) (.bf (z1.1≠(0:Int)) (.again (be 0 (fun (x:z0)=>aY [1,4,0,5,6] [Zi m,Zi (Prod.fst (x.1)),Zi (Prod.fst (Prod.snd (x.1))),Zi (Prod.fst (Prod.snd (Prod.snd (x.1)))),Zi (Prod.snd (Prod.snd (Prod.snd (x.1))))] []) (fun (x:z0)=>z2 (x.1)) x0) [1,4,0,5,6] [] [Zi m,Zi z1.1,Zi (wrap .i64 ((x0.1).1 - wrap .i64 (wrap .i64 (Int.tdiv (x0.1).1 z1.1)*z1.1))),Zi (Prod.snd z1).2,Zi (wrap .i64 ((Prod.snd z1).1 - wrap .i64 (wrap .i64 (Int.tdiv (x0.1).1 z1.1)*(Prod.snd z1).2)))] [])) (.br (decide ((Prod.snd z1).1<0)) (.bf (m≠(0:Int)) (.out (.aT [Zi (x0.1).1,Zi (Int.tmod (wrap .i64 ((Prod.snd z1).1+m)) m)]) [] y0 [])) (.bf (m≠(0:Int)) (.out (.aT [Zi (x0.1).1,Zi (Int.tmod (Prod.snd z1).1 m)]) [] y0 [])))))))
  (by kernel_rfl) ?_
 refine aU (fun _ hs=>hs.le (⟨.refl _,.refl _,.refl _,.refl _,.refl _,trivial⟩) (trivial)) (fun x0=>?_)
 try (have q0:=x0.2;dsimp only at q0)
 have w:=fun h=>x0.2.1.w h hm
 refine aL (fun h1=>?_) (fun h1=>?_)
 ·have g1:=aS h1
  refine aD (by omega) ?_
  exact aN (⟨(x0.1.2.1,x0.1.1%x0.1.2.1,x0.1.2.2.2,x0.1.2.2.1 - x0.1.1 / x0.1.2.1*x0.1.2.2.2),qy.step x0.2 g1⟩) (fun _ hs=>hs.le (⟨.refl _,.refl _,aw.of_eq (congrArg _ (w g1).1),.refl _,aw.of_eq (congrArg _ (w g1).2.1),trivial⟩) (trivial)) (by have h:=w g1;show toNat (x0.1.1%x0.1.2.1)<toNat x0.1.2.1;omega)
 ·have g1:=aP h1
  refine aL (fun h4=>?_) (fun h4=>?_)
  ·have g4:=af h4
   refine aD (by omega) ?_
   exact aq (by have o:=qy.out x0.2 (by omega) hm;exact aw.aT ⟨aw.of_eq (congrArg _ o.1),aw.of_eq (congrArg _ (o.2.1 g4)),trivial⟩)
  ·have g4:=aa h4
   refine aD (by omega) ?_
   exact aq (by have o:=qy.out x0.2 (by omega) hm;exact aw.aT ⟨aw.of_eq (congrArg _ o.1),aw.of_eq (congrArg _ (o.2.2.1 (by omega))),trivial⟩)
theorem B8 (a:Int) (h0:0≤a) (h1:a<2305843009213693952):Pure Tryz.prog aW 319 [.int .i64 a] (.int .u64 a):=by
 refine ar (own:=bk) Tryz.func319 (by kernel_rfl) mixed (by kernel_rfl)
  (.br (decide (a<0)) (.out (Zu (wrap .u64 (wrap .u64 (wrap .i64 ((0:Int) - wrap .i64 (a+1)))+1))) [] (Zu a) []) (.out (Zu (wrap .u64 a)) [] (Zu a) []))
  (by kernel_rfl) ?_
 refine aL (fun h0=>?_) (fun h0=>?_)
 ·have g0:=af h0
  exact aq ((by exfalso;omega))
 ·have g0:=aa h0
  exact aq (aw.of_eq (congrArg _ (dx (by omega) (by omega))))
theorem Mz (a b:Int) (h0:0≤a) (h1:a<2305843009213693952) (h2:0≤b) (h3:b<2305843009213693952):Pure Tryz.prog aW 281 [.int .i64 a,.int .i64 b] (.int .i64 (Int.gcd a b:Nat)):=by
 refine ar (own:=bk) Tryz.func281 (by kernel_rfl) mixed (by kernel_rfl)
  (let z2:=(Zi (↑(Int.gcd a b):Int));let z1:=(fun (s:Int×Int)=>toNat (Prod.snd s));let z0:={ x:Int×Int // (fun (s:Int×Int)=>((0:Int)≤Prod.fst s∧Prod.fst s<2305843009213693952∧(0:Int)≤Prod.snd s∧Prod.snd s<2305843009213693952)∧Int.gcd (Prod.fst s) (Prod.snd s)=Int.gcd a b) x };(.sc true 319 [Zi a] (Zu a) (.sc true 319 [Zi b] (Zu b) (.loop (z0) (fun (x:z0)=>aY [5,6] [Zu (Prod.fst (x.1)),Zu (Prod.snd (x.1))] []) (fun (x:z0)=>z1 (x.1)) (⟨(a,b),⟨⟨h0,⟨h1,⟨h2,h3⟩⟩⟩,rfl⟩⟩) [5,6] [] [Zu a,Zu b] [] (fun x2=>(.br (decide ((x2.1).2>0)) (.bf ((x2.1).2≠(0:Int)) (.again (be 0 (fun (x:z0)=>aY [5,6] [Zu (Prod.fst (x.1)),Zu (Prod.snd (x.1))] []) (fun (x:z0)=>z1 (x.1)) x2) [5,6] [] [Zu (x2.1).2,Zu (Int.tmod (x2.1).1 (x2.1).2)] [])) (.br ((x2.1).1==9223372036854775808) (.out (Zi 0) [] z2 []) (.out (Zi (wrap .i64 (x2.1).1)) [] z2 []))))))))
  (by kernel_rfl) ?_
 refine aM (B8 (a) (by assumption) (by assumption)) ?_
 refine aM (B8 (b) (by assumption) (by assumption)) ?_
 refine aU (fun _ hs=>hs.le (⟨.refl _,.refl _,trivial⟩) (trivial)) (fun x2=>?_)
 try (have q2:=x2.2;dsimp only at q2)
 refine aL (fun h3=>?_) (fun h3=>?_)
 ·have g3:=af h3
  refine aD (by omega) ?_
  exact aN (⟨(x2.1.2,x2.1.1%x2.1.2),⟨⟨by omega,by omega,Int.emod_nonneg _ (by omega),Int.lt_trans (Int.emod_lt_of_pos _ (by omega)) (by omega:x2.1.2<2305843009213693952)⟩,(Ez _ _).trans q2.2⟩⟩) (fun _ hs=>hs.le (⟨.refl _,aw.of_eq (congrArg _ (bY (by omega))),trivial⟩) (trivial)) (by have:=Int.emod_lt_of_pos x2.1.1 (show 0<x2.1.2 by omega);have:=Int.emod_nonneg x2.1.1 (show x2.1.2≠0 by omega);show toNat (x2.1.1%x2.1.2)<toNat x2.1.2;omega)
 ·have g3:=aa h3
  refine aL (fun h6=>?_) (fun h6=>?_)
  ·have g6:=ai h6
   exact aq ((by exfalso;omega))
  ·have g6:=ao h6
   exact aq (aw.of_eq (congrArg _ (by rw [wI (by omega) (by omega)];exact Du (by omega) (by omega) q2.2)))
theorem Ks (a m:Int) (k0:0≤a) (k1:a<m) (hm:m<2305843009213693952):Pure Tryz.prog aW 216 [.int .i64 a,.int .i64 m] (.aT [.int .i64 (gA a m),.bool (decide (Int.gcd a m=1))]):=by
 refine ar (own:=bk) Tryz.func216 (by kernel_rfl) mixed (by kernel_rfl)
  (let z2:=(fun (s:Int×Int×Int×Int)=>toNat (Prod.fst (Prod.snd s)));let z0:={ x:Int×Int×Int×Int // (fun (s:Int×Int×Int×Int)=>Eb a m (Prod.fst s) (Prod.fst (Prod.snd s)) (Prod.fst (Prod.snd (Prod.snd s))) (Prod.snd (Prod.snd (Prod.snd s)))) x };let y0:AV:=(.aT [Zi (gA a m),.bool (decide (Int.gcd a m=1))]);(.sc true 281 [Zi a,Zi m] (Zi (↑(Int.gcd a m):Int)) (.br ((↑(Int.gcd a m):Int) != 1) (.out (.aT [Zi 0,.bool false]) [] y0 []) (.bf (m≠(0:Int)) (.loop (z0) (fun (x:z0)=>aY [1,6,7,8,9] [Zi m,Zi (Prod.fst (x.1)),Zi (Prod.fst (Prod.snd (x.1))),Zi (Prod.fst (Prod.snd (Prod.snd (x.1)))),Zi (Prod.snd (Prod.snd (Prod.snd (x.1))))] []) (fun (x:z0)=>z2 (x.1)) (⟨(a,m,(1:Int)%m,(0:Int)),Eb.start k0 k1⟩) [1,6,7,8,9] [] [Zi m,Zi a,Zi m,Zi (Int.tmod (1:Int) m),Zi 0] [] (fun x4=>let z1:=(Prod.snd (x4.1));(.br (z1.1 != 0) (.bf (z1.1≠(0:Int)) (.sc true 282 [Zi (wrap .i64 (Int.tdiv (x4.1).1 z1.1)),Zi m] (Zi (wrap .i64 (Int.tdiv (x4.1).1 z1.1)%m)) (.sc true 187 [Zi (wrap .i64 (Int.tdiv (x4.1).1 z1.1)%m),Zi (Prod.snd z1).2,Zi m] (Zi (wrap .i64 (Int.tdiv (x4.1).1 z1.1)%m*(Prod.snd z1).2%m)) (.sc true 282 [Zi (wrap .i64 ((Prod.snd z1).1 - wrap .i64 (Int.tdiv (x4.1).1 z1.1)%m*(Prod.snd z1).2%m)),Zi m] (Zi (wrap .i64 ((Prod.snd z1).1 - wrap .i64 (Int.tdiv (x4.1).1 z1.1)%m*(Prod.snd z1).2%m)%m)) (.again (be 0 (fun (x:z0)=>aY [1,6,7,8,9] [Zi m,Zi (Prod.fst (x.1)),Zi (Prod.fst (Prod.snd (x.1))),Zi (Prod.fst (Prod.snd (Prod.snd (x.1)))),Zi (Prod.snd (Prod.snd (Prod.snd (x.1))))] []) (fun (x:z0)=>z2 (x.1)) x4) [1,6,7,8,9] [] [Zi m,Zi z1.1,Zi (wrap .i64 ((x4.1).1 - wrap .i64 (wrap .i64 (Int.tdiv (x4.1).1 z1.1)*z1.1))),Zi (Prod.snd z1).2,Zi (wrap .i64 ((Prod.snd z1).1 - wrap .i64 (Int.tdiv (x4.1).1 z1.1)%m*(Prod.snd z1).2%m)%m)] []))))) (.out (.aT [Zi (Prod.snd z1).1,.bool true]) [] y0 []))))))))
  (by kernel_rfl) ?_
 refine aM (Mz (a) (m) (by omega) (by omega) (by omega) (by omega)) ?_
 refine aL (fun h1=>?_) (fun h1=>?_)
 ·have g1:=aS h1
  exact aq (aw.of_eq (by rw [rr (by omega),decide_eq_false (by omega)]))
 ·have g1:=aP h1
  refine aD (by omega) ?_
  refine aU (fun _ hs=>hs.le (⟨.refl _,.refl _,.refl _,aw.of_eq (congrArg _ (bY (by decide))),.refl _,trivial⟩) (trivial)) (fun x4=>?_)
  try (have q4:=x4.2;dsimp only at q4)
  have w:=fun h=>x4.2.w h hm;have b5:=x4.2.x0;have b6:=x4.2.x1;have b7:=x4.2.y0;have b8:=x4.2.y1;have b1:=x4.2.u0;have b2:=x4.2.u1;have b3:=x4.2.v0;have b4:=x4.2.v1
  refine aL (fun h5=>?_) (fun h5=>?_)
  ·have g5:=aS h5
   refine aD (by omega) ?_
   refine aM (ly (wrap .i64 (Int.tdiv (x4.1).1 (Prod.snd (x4.1)).1)) (m) (by omega) (by omega)) ?_
   refine aM (iK (wrap .i64 (Int.tdiv (x4.1).1 (Prod.snd (x4.1)).1)%m) ((Prod.snd (Prod.snd (x4.1))).2) (m) (by (have h:=w g5;rw [h.1];omega)) (by (have h:=w g5;rw [h.1];omega)) (by omega) (by omega) (by omega)) ?_
   refine aM (ly (wrap .i64 ((Prod.snd (Prod.snd (x4.1))).1 - wrap .i64 (Int.tdiv (x4.1).1 (Prod.snd (x4.1)).1)%m*(Prod.snd (Prod.snd (x4.1))).2%m)) (m) (by omega) (by omega)) ?_
   exact aN (⟨(x4.1.2.1,x4.1.1%x4.1.2.1,x4.1.2.2.2,(x4.1.2.2.1 - x4.1.1 / x4.1.2.1%m*x4.1.2.2.2%m)%m),(x4.2.nxt g5).1⟩) (fun _ hs=>hs.le (⟨.refl _,.refl _,aw.of_eq (congrArg _ (w g5).2.1),.refl _,aw.of_eq (congrArg _ (by rw [(w g5).1,(w g5).2.2.2.2.2.2.2])),trivial⟩) (trivial)) (by have h:=w g5;show toNat (x4.1.1%x4.1.2.1)<toNat x4.1.2.1;omega)
  ·have g5:=aP h5
   exact aq (aw.aT ⟨aw.of_eq (congrArg _ (by have h:=q4;rw [show x4.1.2.1=0 by omega] at h;exact h.fin (by omega))),aw.of_eq (congrArg AV.bool (decide_eq_true (by omega)).symm),trivial⟩)
theorem LN (a m:Int) (k0:0≤a) (k1:a<m) (hm:m<2305843009213693952):Pure Tryz.prog aW 247 [.int .i64 a,.int .i64 m] (.aT [.int .i64 (gA a m),.int .i64 (if Int.gcd a m=1 then 0 else 10)]):=by
 refine ar (own:=bk) Tryz.func247 (by kernel_rfl) mixed (by kernel_rfl)
  (let y0:AV:=(.aT [Zi (gA a m),Zi (if Int.gcd a m=1 then (0:Int) else (10:Int))]);(.sc true 175 [Zi a,Zi a,Zi m] (Zi (cW a a m)) (.br (cW a a m != 0) (.out (.aT [Zi 0,Zi (cW a a m)]) [] y0 []) (.sc true 303 [Zi a,Zi m] (.aT [Zi (↑(Int.gcd a m):Int),Zi (xS a m)]) (.br ((↑(Int.gcd a m):Int) != 1) (.out (.aT [Zi 0,Zi 10]) [] y0 []) (.out (.aT [Zi (xS a m),Zi 0]) [] y0 []))))))
  (by kernel_rfl) ?_
 refine aM (mI (a) (a) (m)) ?_
 refine aL (fun h1=>?_) (fun h1=>?_)
 ·have g1:=aS h1
  exact aq ((by exfalso;exact g1 (Fg k0 k1 hm)))
 ·have g1:=aP h1
  refine aM (Dj (a) (m) (by assumption) (by assumption) (by assumption)) ?_
  refine aL (fun h4=>?_) (fun h4=>?_)
  ·have g4:=aS h4
   exact aq (aw.of_eq (by rw [rr (by omega),if_neg (by omega)]))
  ·have g4:=aP h4
   exact aq (aw.of_eq (by rw [(Ii k0 k1).2 (by omega),if_pos (by omega)]))
theorem tn (s:aA):Pure Tryz.prog aW 168 [s.av] (.aT [.int .i64 (bif dC s then db s.depth s.level s.index else 0),.int .i64 (bif dC s then dg s.depth s.level s.index else 0),.bool (dC s)]):=by
 refine ar (own:=bk) Tryz.func168 (by kernel_rfl) mixed (by kernel_rfl)
  (let y0:AV:=(.aT [Zi (bif dC s then db (aA.depth s) (aA.level s) (aA.index s) else (0:Int)),Zi (bif dC s then dg (aA.depth s) (aA.level s) (aA.index s) else (0:Int)),.bool (dC s)]);(.sc true 233 [Zi s.4,.agg [Zi s.11,Zi s.12]] (.aT [Zi (db s.4 s.11 s.12),Zi (dg s.4 s.11 s.12),Zi (gV s.4 s.11 s.12)]) (.br (gV s.4 s.11 s.12 != 0||(s.16:Int) != wrap .i64 (dg s.4 s.11 s.12 - db s.4 s.11 s.12)||decide (s.14<0)||decide (s.14>1099511627776)||decide (s.15<0)||decide (s.15>1073741824)) (.out (.aT [Zi 0,Zi 0,.bool false]) [] y0 []) (.out (.aT [Zi (db s.4 s.11 s.12),Zi (dg s.4 s.11 s.12),.bool true]) [] y0 []))))
  (by kernel_rfl) ?_
 refine aM (KJ (s.4) (s.11) (s.12)) ?_
 refine aL (fun h1=>?_) (fun h1=>?_)
 ·exact aq (aw.of_eq (by have e:dC s=false:=congrArg not h1;rw [e];rfl))
 ·exact aq (aw.of_eq (by have e:dC s=true:=congrArg not h1;rw [e];rfl))
theorem AD (s:aA):Pure Tryz.prog aW 167 [s.av] (.bool (!dC s)):=by
 refine ar (own:=bk) Tryz.func167 (by kernel_rfl) mixed (by kernel_rfl)
  (.sc true 168 [.agg (aA.cells s)] (.aT [Zi (bif dC s then db (aA.depth s) (aA.level s) (aA.index s) else (0:Int)),Zi (bif dC s then dg (aA.depth s) (aA.level s) (aA.index s) else (0:Int)),.bool (dC s)]) (.out (.bool !dC s) [] (.bool !dC s) []))
  (by kernel_rfl) ?_
 refine aM ((tn s)) ?_
 exact aq (aw.refl _)
theorem DA (S:Nat→aA) (n:Nat) (hn:n<9223372036854775808):Pure Tryz.prog aW 232 [.aG 80 n (fun i j=>aO (S i).cells j),.fn (.func 167) [] []] (.int .i64 (aK (fun i => !dC (S i)) n 0)):=by
 refine ar (own:=bk) Tryz.func232 (by kernel_rfl) mixed (by kernel_rfl)
  (let z2:=(Fn.func (167:FuncId));let z1:=(fun (i:Sp.Sub fun i=>aK (fun i => !dC (S i)) n 0=aK (fun i => !dC (S i)) (n - i) i)=>n - i.1);let z0:=(fun (x:Sp.Sub fun i=>aK (fun i => !dC (S i)) n 0=aK (fun i => !dC (S i)) (n - i) i)=>aY [0,1,6,7,8] [.aG 80 n fun i j=>aO (aA.cells (S i)) j,AV.fn z2 [] [],.aG 80 n fun i j=>aO (aA.cells (S i)) j,Zi n,Zi x.1] []);let y0:AV:=(Zi (aK (fun i => !dC (S i)) n 0));(.loop (Sp.Sub fun i=>aK (fun i => !dC (S i)) n 0=aK (fun i => !dC (S i)) (n - i) i) z0 z1 (⟨0,rfl⟩) [0,1,6,7,8] [] [.aG 80 n fun i j=>aO (aA.cells (S i)) j,AV.fn z2 [] [],.aG 80 n fun i j=>aO (aA.cells (S i)) j,Zi n,Zi 0] [] (fun x0=>let z3:=(S (toNat (↑(x0.1):Int)));(.br (decide ((x0.1:Int)<(n:Int))) (.bf (0≤(x0.1:Int)∧(x0.1:Int)<(n:Int)) (.sc true 167 [.agg (aA.cells z3)] (.bool !dC z3) (.br (!dC (S (toNat (x0.1:Int)))) (.out (Zi x0.1) [] y0 []) (.again (be 0 z0 z1 x0) [0,1,6,7,8] [] [.aG 80 n fun i j=>aO (aA.cells (S i)) j,AV.fn z2 [] [],.aG 80 n fun i j=>aO (aA.cells (S i)) j,Zi n,Zi (wrap .i64 ((x0.1:Int)+1))] [])))) (.out (Zi (-1)) [] y0 [])))))
  (by kernel_rfl) ?_
 refine aU (fun _ hs=>hs.le (by repeat' (first|exact trivial|(first|exact aw.refl _|exact aJ (by omega)|exact aw.nil rfl|exact aw.of_eq (congrArg (AV.aZ _ _ _) (by first|omega|(dsimp only;omega)))|exact aw.of_eq (congrArg (AV.int _) (by first|omega|(dsimp only;omega))))|refine And.intro ?_ ?_)) (trivial)) (fun x0=>?_)
 try (have q0:=x0.2;dsimp only at q0)
 refine aL (fun h1=>?_) (fun h1=>?_)
 ·refine aD (by have:=of_decide_eq_true h1;omega) ?_
  refine aM ((AD (S (toNat (↑(x0.1):Int))))) ?_
  refine aL (fun h4=>?_) (fun h4=>?_)
  ·have g4:=(aB aF) h4
   try simp only [Int.toNat_natCast] at g4
   exact aq (aw.of_eq (congrArg _ (cr x0.2 (show x0.1<n by have:=of_decide_eq_true h1;omega) (by simpa using h4))))
  ·have g4:=(ay aC) h4
   try simp only [Int.toNat_natCast] at g4
   exact aN (⟨x0.1+1,bS x0.2 (show x0.1<n by have:=of_decide_eq_true h1;omega) (by simpa using h4)⟩) (fun _ hs=>hs.le (⟨aw.refl _,aw.refl _,aw.refl _,aw.refl _,aJ (by have:=of_decide_eq_true h1;omega),trivial⟩) (trivial)) (by have:=of_decide_eq_true h1;show n - (x0.1+1)<n - x0.1;omega)
 ·exact aq (aw.of_eq (congrArg _ (bW x0.2 (by have:=of_decide_eq_false h1;omega))))
theorem Hc (l0 l1 l2 b:Int):Pure Tryz.prog aW 302 [.agg [.int .i64 l0,.int .i64 l1,.int .i64 l2],.bH 1 (aO [.int .i64 b])] (.bool (l0==b)):=by
 refine ar (own:=bk) Tryz.func302 (by kernel_rfl) mixed (by kernel_rfl)
  (.out (.bool (l0==b)) [] (.bool (l0==b)) [])
  (by kernel_rfl) ?_
 exact aq (aw.refl _)
theorem EX (f:Nat→Nat→Int) (n:Nat) (b:Int) (hn:n<9223372036854775808):Pure Tryz.prog aW 227 [wc n f,.fn (.func 302) [] [.bH 1 (aO [.int .i64 b])]] (.int .i64 (aK (fun i=>f i 0==b) n 0)):=by
 refine ar (own:=bk) Tryz.func227 (by kernel_rfl) mixed (by kernel_rfl)
  (let y0:List AV:=[AV.bH 1 (aO [Zi b])];let y1:AV:=(Zi (aK (fun i=>f i 0==b) n 0));(.loop (Sp.Sub fun i=>aK (fun i=>f i 0==b) n 0=aK (fun i=>f i 0==b) (n - i) i) (fun (x:Sp.Sub fun i=>aK (fun i=>f i 0==b) n 0=aK (fun i=>f i 0==b) (n - i) i)=>aY [0,1,6,7,8] [wc n f,AV.fn (Fn.func (302:FuncId)) [] y0,wc n f,Zi n,Zi x.1] []) (fun (i:Sp.Sub fun i=>aK (fun i=>f i 0==b) n 0=aK (fun i=>f i 0==b) (n - i) i)=>n - i.1) (⟨0,rfl⟩) [0,1,6,7,8] [] [.aG 3 n fun i j=>Zi (f i j),AV.fn (Fn.func (302:FuncId)) [] y0,.aG 3 n fun i j=>Zi (f i j),Zi n,Zi 0] [] (fun x0=>(.br (decide ((x0.1:Int)<(n:Int))) (.bf (0≤(x0.1:Int)∧(x0.1:Int)<(n:Int)) (.sc true 302 [.agg [Zi (f (toNat (x0.1:Int)) 0),Zi (f (toNat (x0.1:Int)) 1),Zi (f (toNat (x0.1:Int)) 2)],AV.bH 1 (aO [Zi b])] (.bool (f (toNat (x0.1:Int)) 0==b)) (.br (f (toNat (x0.1:Int)) 0==b) (.out (Zi x0.1) [] y1 []) (.again (be 0 (fun (x:Sp.Sub fun i=>aK (fun i=>f i 0==b) n 0=aK (fun i=>f i 0==b) (n - i) i)=>aY [0,1,6,7,8] [wc n f,AV.fn (Fn.func (302:FuncId)) [] y0,wc n f,Zi n,Zi x.1] []) (fun (i:Sp.Sub fun i=>aK (fun i=>f i 0==b) n 0=aK (fun i=>f i 0==b) (n - i) i)=>n - i.1) x0) [0,1,6,7,8] [] [.aG 3 n fun i j=>Zi (f i j),AV.fn (Fn.func (302:FuncId)) [] y0,.aG 3 n fun i j=>Zi (f i j),Zi n,Zi (wrap .i64 ((x0.1:Int)+1))] [])))) (.out (Zi (-1)) [] y1 [])))))
  (by kernel_rfl) ?_
 refine aU (fun _ hs=>hs.le (by repeat' (first|exact trivial|(first|exact aw.refl _|exact aJ (by omega)|exact aw.nil rfl|exact aw.of_eq (congrArg (AV.aZ _ _ _) (by first|omega|(dsimp only;omega)))|exact aw.of_eq (congrArg (AV.int _) (by first|omega|(dsimp only;omega))))|refine And.intro ?_ ?_)) (trivial)) (fun x0=>?_)
 try (have q0:=x0.2;dsimp only at q0)
 refine aL (fun h1=>?_) (fun h1=>?_)
 ·refine aD (by have:=of_decide_eq_true h1;omega) ?_
  refine aM (Hc (f (toNat (↑x0.1:Int)) (0)) (f (toNat (↑x0.1:Int)) (1)) (f (toNat (↑x0.1:Int)) (2)) (b)) ?_
  refine aL (fun h4=>?_) (fun h4=>?_)
  ·have g4:=ai h4
   try simp only [Int.toNat_natCast] at g4
   exact aq (aw.of_eq (congrArg _ (cr x0.2 (show x0.1<n by have:=of_decide_eq_true h1;omega) (by simpa using h4))))
  ·have g4:=ao h4
   try simp only [Int.toNat_natCast] at g4
   exact aN (⟨x0.1+1,bS x0.2 (show x0.1<n by have:=of_decide_eq_true h1;omega) (by simpa using h4)⟩) (fun _ hs=>hs.le (⟨aw.refl _,aw.refl _,aw.refl _,aw.refl _,aJ (by have:=of_decide_eq_true h1;omega),trivial⟩) (trivial)) (by have:=of_decide_eq_true h1;show n - (x0.1+1)<n - x0.1;omega)
 ·exact aq (aw.of_eq (congrArg _ (bW x0.2 (by have:=of_decide_eq_false h1;omega))))
theorem DW (s:aA) (b:Int) (hn:s.nl<9223372036854775808):Pure Tryz.prog aW 244 [s.av,.int .i64 b] (.int .i64 (aK (fun i=>s.lf i 0==b) s.nl 0)):=by
 refine ar (own:=bk) Tryz.func244 (by kernel_rfl) mixed (by kernel_rfl)
  (let y0:AV:=(Zi (aK (fun i=>s.17 i 0==b) s.16 0));(.sc true 227 [.aG 3 s.16 fun i j=>Zi (s.17 i j),AV.fn (Fn.func 302) [] [AV.bH 1 fun k=>aO [Zi b] k]] y0 (.out y0 [] (Zi (aK (fun i=>aA.lf s i 0==b) (aA.nl s) 0)) [])))
  (by kernel_rfl) ?_
 refine aM (EX (s.17) (s.16) (b) (by assumption)) ?_
 exact aq (aw.refl _)
theorem vD (S:Nat→aA) (n:Nat) (hn:n<9223372036854775808):Pure Tryz.prog aW 166 [.aG 80 n (fun i j=>aO (S i).cells j),.fn (.func 167) [] []] (.bool (decide (aK (fun i => !dC (S i)) n 0≥0))):=by
 refine ar (own:=bk) Tryz.func166 (by kernel_rfl) mixed (by kernel_rfl)
  (let z0:=(fun i => !dC (S i));let y0:AV:=(.bool (decide (aK z0 n 0≥0)));(.sc true 232 [.aG 80 n fun i j=>aO (aA.cells (S i)) j,AV.fn (Fn.func (167:FuncId)) [] []] (Zi (aK z0 n 0)) (.out y0 [] y0 [])))
  (by kernel_rfl) ?_
 refine aM ((DA S n hn)) ?_
 exact aq (aw.refl _)
theorem E1 (S:Nat→aA) (n:Nat) (hn:n<9223372036854775808):Pure Tryz.prog aW 108 [.aG 80 n (fun i j=>aO (S i).cells j)] (.bool (!decide (aK (fun i => !dC (S i)) n 0≥0))):=by
 refine ar (own:=bk) Tryz.func108 (by kernel_rfl) mixed (by kernel_rfl)
  (let z0:=(aK (fun i => !dC (S i)) n 0≥0);let y0:AV:=(.bool !decide z0);(.sc true 166 [.aG 80 n fun i j=>aO (aA.cells (S i)) j,AV.fn (Fn.func 167) [] []] (.bool (decide z0)) (.out y0 [] y0 [])))
  (by kernel_rfl) ?_
 refine aM ((vD S n hn)) ?_
 exact aq (aw.refl _)
theorem rz (s:aA):Pure Tryz.prog aW 211 [s.av] (.bool (dC s)):=by
 refine ar (own:=bk) Tryz.func211 (by kernel_rfl) mixed (by kernel_rfl)
  (.sc ((decide (s.4<0)||decide (s.4>5))==false) 203 [Zi s.4,.agg [Zi s.11,Zi s.12]] (.bool (bT s.4 s.11 s.12)) (.sc ((decide (s.4<0)||decide (s.4>5) || !bT s.4 s.11 s.12)==false) 204 [.agg (bh s.13++[Zi s.14,Zi s.15])] (.bool (fL (i9.time { bI:=aA.bI s,time:=aA.time s,number:=aA.number s }) (i9.number { bI:=aA.bI s,time:=aA.time s,number:=aA.number s }))) (.br (decide (s.4<0)||decide (s.4>5) || !bT s.4 s.11 s.12 || !fL s.14 s.15) (.out (.bool false) [] (.bool (dC s)) []) (.sc true 205 [Zi s.4,.agg [Zi s.11,Zi s.12]] (.aT [Zi (db s.4 s.11 s.12),Zi (dg s.4 s.11 s.12)]) (.out (.bool ((s.16:Int)==wrap .i64 (dg s.4 s.11 s.12 - db s.4 s.11 s.12))) [] (.bool (dC s)) [])))))
  (by kernel_rfl) ?_
 refine aV (fun h0=>zr (s.4) (s.11) (s.12)) ?_
 refine aV (fun h1=>(Eh { bI:=aA.bI s,time:=aA.time s,number:=aA.number s })) ?_
 refine aL (fun h2=>?_) (fun h2=>?_)
 ·exact aq (aw.of_eq (by rw [LO h2]))
 ·refine aM (rM (s.4) (s.11) (s.12) ((yE h2).1)) ?_
  exact aq (aw.of_eq (congrArg _ (yE h2).2))
theorem BJ (a b:aA) (hn:a.nl≤1000) (hb:b.nl≤1000):Pure Tryz.prog aW 243 [a.av,b.av] (il .i64 (da a b)):=by
 refine ar (own:=bk) Tryz.func243 (by kernel_rfl) mixed (by kernel_rfl)
  (let z3:=(il IntKind.i64 (da a b));let z2:=(fun (x:Sp.Sub fun x=>x≤aA.nl a)=>aA.nl a - x.1);let z0:=(fun (x:Sp.Sub fun x=>x≤aA.nl a)=>aY [3,5,8,25,26,27] [.own 0 80 0 0 80,Zi (bK a),.aZ 1 1 0 (List.length (cK a b (x.1))),wc (aA.nl a) (aA.lf a),Zi (↑(aA.nl a):Int),Zi x.1] [some ⟨80,1,true,.ba [aA.cells b]⟩,nX IntKind.i64 (cK a b (x.1))]);(.br (a.5 != b.5) (.out (.bc) [] z3 []) (.sc true 168 [.agg (aA.cells a)] (.aT [Zi (bif dC a then db (aA.depth a) (aA.level a) (aA.index a) else (0:Int)),Zi (bif dC a then dg (aA.depth a) (aA.level a) (aA.index a) else (0:Int)),.bool (dC a)]) (.loop (Sp.Sub fun x=>x≤aA.nl a) z0 z2 (⟨0,Nat.zero_le (aA.nl a)⟩) [3,5,8,25,26,27] [8,449] [.own 0 80 0 0 80,Zi (bif dC a then db a.4 a.11 a.12 else (0:Int)),.bc,.aG 3 a.16 fun i j=>Zi (a.17 i j),Zi a.16,Zi 0] [some ⟨80,1,true,.ba [aA.cells b]⟩,some ⟨1,0,true,.ty (999999999:TypeId) (.ba [])⟩] (fun x3=>let z1:=(cK a b (x3.1));(.br (decide ((x3.1:Int)<(a.16:Int))) (.bf (0≤(x3.1:Int)∧(x3.1:Int)<(a.16:Int)) (.sc true 244 [.agg (aA.cells b),Zi (a.17 (toNat (x3.1:Int)) 0)] (Zi (aK (fun i=>aA.lf b i 0==a.17 (toNat (x3.1:Int)) 0) (aA.nl b) 0)) (.br (decide (aK (fun i=>b.17 i 0==a.17 (toNat (x3.1:Int)) 0) b.16 0≥0)) (.bf ((List.length z1+1)*8≤140737488355328) (.again (be 0 z0 z2 x3) [3,5,8,25,26,27] [0,138] [.own 0 80 0 0 80,Zi (bK a),.aZ 1 1 0 (List.length z1+1),.aG 3 a.16 fun i j=>Zi (a.17 i j),Zi a.16,Zi (wrap .i64 ((x3.1:Int)+1))] [some ⟨80,1,true,.ba [aA.cells b]⟩,some ⟨1,List.length z1+1,true,.fn fun i j=>Zi (bif Nat.blt i (List.length z1) then List.getD z1 i (0:Int) else aE (aO [Zi (wrap .i64 (bK a+(↑(x3.1):Int)))] j))⟩])) (.again (be 0 z0 z2 x3) [3,5,8,25,26,27] [0,1] [.own 0 80 0 0 80,Zi (bK a),.aZ 1 1 0 (List.length z1),.aG 3 a.16 fun i j=>Zi (a.17 i j),Zi a.16,Zi (wrap .i64 ((x3.1:Int)+1))] [some ⟨80,1,true,.ba [aA.cells b]⟩,some ⟨1,List.length z1,true,.fn fun i j=>Zi (List.getD z1 i (0:Int))⟩])))) (.out (.aG 1 (List.length z1) fun r k=>Zi (List.getD z1 (r+0) (0:Int))) [] z3 [])))))))
  (by kernel_rfl) ?_
 refine aL (fun h0=>?_) (fun h0=>?_)
 ·have g0:=aS h0
  exact aq (aw.PJ (vE h0))
 ·have g0:=aP h0
  refine aM ((tn a)) ?_
  refine aU (fun _ hs=>hs.le (by repeat' (first|exact trivial|(first|exact aw.refl _|exact aJ (by omega)|exact aw.nil rfl|exact aw.of_eq (congrArg (AV.aZ _ _ _) (by first|omega|(dsimp only;omega)))|exact aw.of_eq (congrArg (AV.int _) (by omega)))|refine And.intro ?_ ?_)) (by repeat' (first|exact trivial|(first|exact aH.refl _|exact aH.bw|exact aH.zero|exact aH.push rfl rfl|exact aH.cm rfl|exact aH.len (by omega)|exact aH.row (by repeat' (first|exact trivial|(first|exact aw.refl _|exact aJ (by omega)|exact aw.nil rfl|exact aw.of_eq (congrArg (AV.aZ _ _ _) (by first|omega|(dsimp only;omega)))|exact aw.of_eq (congrArg (AV.int _) (by omega)))|refine And.intro ?_ ?_)))|refine And.intro ?_ ?_))) (fun x3=>?_)
  try (have q3:=x3.2;dsimp only at q3)
  refine aL (fun h4=>?_) (fun h4=>?_)
  ·have g4:=af h4
   refine aD (by omega) ?_
   refine aM ((DW b) (a.17 (toNat (↑x3.1:Int)) (0)) (by omega)) ?_
   refine aL (fun h7=>?_) (fun h7=>?_)
   ·have g7:=af h7
    try simp only [Int.toNat_natCast] at g7
    refine aD (by have:=nW a b x3.1;omega) ?_
    exact aN (⟨x3.1+1,by have:=of_decide_eq_true h4;omega⟩) (fun _ hs=>hs.le (⟨aw.refl _,aw.refl _,aw.of_eq (congrArg (AV.aZ 1 1 0) (vZ (x:=x3.1) h7)),aw.refl _,aw.refl _,aJ (by omega),trivial⟩) (⟨.refl _,.Oh (zL (x:=x3.1) (by omega) h7),trivial⟩)) (by (dsimp only;omega))
   ·have g7:=aa h7
    try simp only [Int.toNat_natCast] at g7
    exact aN (⟨x3.1+1,by have:=of_decide_eq_true h4;omega⟩) (fun _ hs=>hs.le (⟨aw.refl _,aw.refl _,aw.of_eq (congrArg (AV.aZ 1 1 0) (wv (x:=x3.1) h7)),aw.refl _,aw.refl _,aJ (by omega),trivial⟩) (⟨.refl _,vK (x:=x3.1) h7,trivial⟩)) (by (dsimp only;omega))
  ·have g4:=aa h4
   exact aq (aw.ilL (wS h0 (by have:=of_decide_eq_false h4;omega)))
theorem rv (a b:aA):Pure Tryz.prog aW 108 [.aG 80 2 fun r k=>aO (List.getD [a.cells,b.cells] r []) k] (.bool (dC a&&dC b)):=by
 refine Pure.tO (Pure.via (E1 (fun i=>bif Nat.beq i 0 then a else b) 2 (by omega)) ?_) (aw.of_eq (congrArg _ (Ax a b)))
 exact ⟨aw.two (g:=fun i=>aA.cells (bif Nat.beq i 0 then a else b)) rfl rfl,trivial⟩
theorem yg (b:aI) (c:bQ) (l i:Int) (x:i9) (hw:b.gr.W) (hr:cC c.root 32) (hp:cC x.bI 32):Pure Tryz.prog aW 246 [b.av,c.av,.agg [.int .i64 l,.int .i64 i],x.av] (.aT [.int .i64 (jB b c l i x),.int .i64 (iR b c l i x)]):=by
 have hc:=fun h h'=>BP b c l i x hr hp h h'
 have hx:=ru x
 have hv:=ew b hw
 refine ar (own:=bk) Tryz.func246 (by kernel_rfl) mixed (by kernel_rfl)
  (let z0:=(bh x.1++[Zi x.2,Zi x.3]);let y0:AV:=(.aT [Zi (jB b c l i x),Zi (iR b c l i x)]);(.sc true 21 [.agg (aI.cells b)] (.bool (aR b)) (.br (!aR b) (.out (.aT [Zi 0,Zi 1]) [] y0 []) (.sc true 235 [Zi c.4,.agg [Zi l,Zi i]] (.bool (bT c.4 l i)) (.sc ((!bT c.4 l i)==false) 236 [.agg z0] (.bool (fL (i9.time x) (i9.number x))) (.br (!bT c.4 l i || !fL x.2 x.3) (.out (.aT [Zi 0,Zi 2]) [] y0 []) (.sc true 237 [.agg (aI.cells b),.agg (bQ.cells c),.agg [Zi l,Zi i],.agg z0] (Zi (iL (bL.q (aI.gr b)) c l i x)) (.out (.aT [Zi (iL (aI.gr b).2 c l i x),Zi 0]) [] y0 []))))))))
  (by kernel_rfl) ?_
 refine aM (hv) ?_
 refine aL (fun h1=>?_) (fun h1=>?_)
 ·have g1:=(aB aF) h1
  exact aq (aw.of_eq (by rw [(Es g1).1,(Es g1).2]))
 ·have g1:=(ay aC) h1
  refine aM (w7 (c.4) (l) (i)) ?_
  refine aV (fun h4=>hx) ?_
  refine aL (fun h5=>?_) (fun h5=>?_)
  ·have g5:=(az (aB aF) (aB aF)) h5
   exact aq (aw.of_eq (by rw [(DN g1 g5).1,(DN g1 g5).2]))
  ·have g5:=(au (ay aC) (ay aC)) h5
   refine aM (hc ((fO g1).1) ((fO g1).2)) ?_
   exact aq (aw.of_eq (by rw [(xB g1 g5).1,(xB g1 g5).2]))
theorem Ca (l:List Int) (v:Int) (hn:l.length<9223372036854775808):Pure Tryz.prog aW 297 [il .i64 l,.int .i64 v] (.int .i64 (aK (fun i=>l.getD i 0==v) l.length 0)):=by
 refine ar (own:=bk) Tryz.func297 (by kernel_rfl) mixed (by kernel_rfl)
  (let z1:Int:=(↑(List.length l):Int);let z0:={ x:Nat // x≤List.length l∧(fun i=>aK (fun i=>List.getD l i (0:Int)==v) (List.length l) 0=aK (fun i=>List.getD l i (0:Int)==v) (List.length l - i) i) x };let y0:=(fun (x:z0)=>aY [0,1,7,8] [.aG 1 (List.length l) fun i x=>Zi (List.getD l i (0:Int)),Zi v,Zi z1,Zi x.1] []);let y1:=(fun (x:z0)=>List.length l - x.1);let y2:AV:=(Zi (aK (fun i=>List.getD l i (0:Int)==v) (List.length l) 0));(.loop (z0) y0 y1 (⟨0,⟨Nat.zero_le (List.length l),rfl⟩⟩) [0,1,7,8] [] [.aG 1 (List.length l) fun i x=>Zi (List.getD l i (0:Int)),Zi v,Zi z1,Zi 0] [] (fun x0=>(.br (decide ((x0.1:Int)<z1)) (.bf (0≤(x0.1:Int)∧(x0.1:Int)<z1) (.br (v==List.getD l (toNat (x0.1:Int)) (0:Int)) (.out (Zi x0.1) [] y2 []) (.again (be 0 y0 y1 x0) [0,1,7,8] [] [.aG 1 (List.length l) fun i x=>Zi (List.getD l i (0:Int)),Zi v,Zi z1,Zi (wrap .i64 ((x0.1:Int)+1))] []))) (.out (Zi (-1)) [] y2 [])))))
  (by kernel_rfl) ?_
 refine aU (fun _ hs=>hs.le (⟨.refl _,.refl _,.refl _,.refl _,trivial⟩) (trivial)) (fun x0=>?_)
 try (have q0:=x0.2;dsimp only at q0)
 refine aL (fun h1=>?_) (fun h1=>?_)
 ·have g1:=af h1
  refine aD (by omega) ?_
  refine aL (fun h3=>?_) (fun h3=>?_)
  ·have g3:=ai h3
   try simp only [Int.toNat_natCast] at g3
   exact aq (aw.of_eq (congrArg _ (cr x0.2.2 (by omega) (by simp only [beq_iff_eq];exact g3.symm))))
  ·have g3:=ao h3
   try simp only [Int.toNat_natCast] at g3
   exact aN (⟨x0.1+1,by omega,bS x0.2.2 (by omega) (by simp only [beq_eq_false_iff_ne];exact fun e=>g3 e.symm)⟩) (fun _ hs=>hs.le (⟨.refl _,.refl _,.refl _,aJ (by omega),trivial⟩) (trivial)) (by dsimp only;omega)
 ·have g1:=aa h1
  exact aq (aw.of_eq (congrArg _ (bW x0.2.2 (by omega))))
theorem n6 (l:List Int) (v:Int) (hn:l.length<9223372036854775808):Pure Tryz.prog aW 239 [il .i64 l,.int .i64 v] (.bool (decide (v∈l))):=by
 refine ar (own:=bk) Tryz.func239 (by kernel_rfl) mixed (by kernel_rfl)
  (let z0:=(fun i=>List.getD l i (0:Int)==v);(.sc true 297 [.aG 1 (List.length l) fun i x=>Zi (List.getD l i (0:Int)),Zi v] (Zi (aK z0 (List.length l) 0)) (.out (.bool (decide (aK z0 (List.length l) 0≥0))) [] (.bool (decide (v∈l))) [])))
  (by kernel_rfl) ?_
 refine aM (Ca (l) (v) (by assumption)) ?_
 exact aq (aw.of_eq (congrArg _ Ay))
theorem A1 (b:aI) (x:Int):Pure Tryz.prog aW 245 [b.av,.int .i64 x] (.bool (gR b x)):=by
 refine ar (own:=bk) Tryz.func245 (by kernel_rfl) mixed (by kernel_rfl)
  (.out (.bool (decide (x≥0)&&decide (x<(aI.gr b).2))) [] (.bool (gR b x)) [])
  (by kernel_rfl) ?_
 exact aq (aw.refl _)
theorem vJ (b:aI) (x:Int):Pure Tryz.prog aW 214 [b.gr.av,.int .i64 x] (.bool (gR b x)):=by
 refine ar (own:=bk) Tryz.func214 (by kernel_rfl) mixed (by kernel_rfl)
  (.out (.bool (decide (x≥0)&&decide (x<(aI.gr b).2))) [] (.bool (gR b x)) [])
  (by kernel_rfl) ?_
 exact aq (aw.refl _)
theorem Im (s:aA):Pure Tryz.prog aW 168 [s.av] (.aT [.int .i64 (bK s),.int .i64 (oz s),.bool (dC s)]):=tn s
theorem Ea (b:aI) (s t:aA) (leaf:Int) (hw:b.gr.W) (hs:s.nl≤1000) (ht:t.nl≤1000) (bs:s.By) (bt:t.By):Pure Tryz.prog aW 171 [b.av,s.av,t.av,.int .i64 leaf] (.aT [.int .i64 (cQ b s t leaf).1,.int .i64 (cQ b s t leaf).2]):=by
 have c1:=ew b hw
 have c2:=rv s t
 have c3:=yg b s.dX s.level s.index s.l6 hw bs.root bs.bI
 have c4:=yg b t.dX t.level t.index t.l6 hw bt.root bt.bI
 have c5:=Im s
 have c6:=BJ s t hs ht
 have c7:=fun v h=>n6 (da s t) v h
 have c8:=DW t
 have c9:=A1 b
 have sl:=uW s t
 have L:=fun h h'=>v7 (s:=s) (leaf:=leaf) h h'
 have hq:=fun h=>fO (b:=b) h
 have k1:=fun h h'=>EE (b:=b) (s:=s) h h'
 have k2:=fun h h'=>EE (b:=b) (s:=t) h h'
 refine ar (own:=bk) Tryz.func171 (by kernel_rfl) mixed (by kernel_rfl)
  (let z0:=(leaf - bK s);let y0:Nat:=(toNat (wrap .i64 z0));let y1:Nat:=(toNat (aK (fun i=>t.17 i 0==s.17 y0 0) t.16 0));let y2:AV:=(.aT [Zi (Prod.fst (cQ b s t leaf)),Zi (Prod.snd (cQ b s t leaf))]);(.sc true 21 [.agg (aI.cells b)] (.bool (aR b)) (.sc ((!aR b)==false) 108 [.aG 80 2 fun r k=>aO (List.getD [aA.cells s,aA.cells t] (r+0) []) k] (.bool (dC s&&dC t)) (.br (!aR b || !(dC s&&dC t)) (.out (.aT [Zi 0,Zi 1]) [] y2 []) (.sc true 168 [.agg (aA.cells s)] (.aT [Zi (bK s),Zi (oz s),.bool (dC s)]) (.br (decide (leaf<bK s)||decide (leaf≥oz s)) (.out (.aT [Zi 0,Zi 2]) [] y2 []) (.dc true 243 [.agg (aA.cells s),.agg (aA.cells t)] (il IntKind.i64 (da s t)) (.sc true 239 [.aG 1 (List.length (da s t)) fun i x=>Zi (List.getD (da s t) i (0:Int)),Zi leaf] (.bool (decide (leaf∈da s t))) (.br (!decide (leaf∈da s t)) (.out (.aT [Zi 0,Zi 7]) [] y2 []) (.bf ((0:Int)≤wrap .i64 z0∧wrap .i64 z0<(s.16:Int)) (.sc true 244 [.agg (aA.cells t),Zi (s.17 y0 0)] (Zi (aK (fun i=>aA.lf t i 0==s.17 y0 0) (aA.nl t) 0)) (.bf ((0:Int)≤aK (fun i=>t.17 i 0==s.17 y0 0) t.16 0∧aK (fun i=>t.17 i 0==s.17 y0 0) t.16 0<(t.16:Int)) (.sc true 245 [.agg (aI.cells b),Zi (s.17 y0 1)] (.bool (gR b (s.17 y0 1))) (.sc ((!gR b (s.17 y0 1))==false) 245 [.agg (aI.cells b),Zi (s.17 y0 2)] (.bool (gR b (s.17 y0 2))) (.sc ((!gR b (s.17 y0 1) || !gR b (s.17 y0 2))==false) 245 [.agg (aI.cells b),Zi (t.17 y1 1)] (.bool (gR b (t.17 y1 1))) (.sc ((!gR b (s.17 y0 1) || !gR b (s.17 y0 2) || !gR b (t.17 y1 1))==false) 245 [.agg (aI.cells b),Zi (t.17 y1 2)] (.bool (gR b (t.17 y1 2))) (.br (!gR b (s.17 y0 1) || !gR b (s.17 y0 2) || !gR b (t.17 y1 1) || !gR b (t.17 y1 2)) (.out (.aT [Zi 0,Zi 2]) [] y2 []) (.sc true 246 [.agg (aI.cells b),.agg (Zi s.1::Zi s.2::Zi s.3::Zi s.4::Zi s.5::(bh s.6++[Zi s.7,Zi s.8,Zi s.9,Zi s.10])),.agg [Zi s.11,Zi s.12],.agg (bh s.13++[Zi s.14,Zi s.15])] (.aT [Zi (jB b (aA.dX s) (aA.level s) (aA.index s) (aA.l6 s)),Zi (iR b (aA.dX s) (aA.level s) (aA.index s) (aA.l6 s))]) (.sc true 246 [.agg (aI.cells b),.agg (Zi t.1::Zi t.2::Zi t.3::Zi t.4::Zi t.5::(bh t.6++[Zi t.7,Zi t.8,Zi t.9,Zi t.10])),.agg [Zi t.11,Zi t.12],.agg (bh t.13++[Zi t.14,Zi t.15])] (.aT [Zi (jB b (aA.dX t) (aA.level t) (aA.index t) (aA.l6 t)),Zi (iR b (aA.dX t) (aA.level t) (aA.index t) (aA.l6 t))]) (.br (iR b (aA.dX s) s.11 s.12 (aA.l6 s) != 0) (.out (.aT [Zi 0,Zi (iR b (aA.dX s) s.11 s.12 (aA.l6 s))]) [] y2 []) (.br (iR b (aA.dX t) t.11 t.12 (aA.l6 t) != 0) (.out (.aT [Zi 0,Zi (iR b (aA.dX t) t.11 t.12 (aA.l6 t))]) [] y2 []) (.br (jB b (aA.dX s) s.11 s.12 (aA.l6 s)==jB b (aA.dX t) t.11 t.12 (aA.l6 t)) (.out (.aT [Zi 0,Zi 20]) [] y2 []) (.br (s.17 y0 2==t.17 y1 2) (.out (.aT [Zi 0,Zi 10]) [] y2 []) (.bf ((aI.gr b).2≠(0:Int)) (.sc true 247 [Zi (Int.tmod (wrap .i64 (wrap .i64 (s.17 y0 2 - t.17 y1 2)+(aI.gr b).2)) (aI.gr b).2),Zi (aI.gr b).2] (.aT [Zi (gA (Int.tmod (wrap .i64 (wrap .i64 (s.17 y0 2 - t.17 y1 2)+(aI.gr b).2)) (aI.gr b).2) (aI.gr b).2),Zi (if Int.gcd (Int.tmod (wrap .i64 (wrap .i64 (s.17 y0 2 - t.17 y1 2)+(aI.gr b).2)) (aI.gr b).2) (aI.gr b).2=1 then (0:Int) else (10:Int))]) (.bf ((aI.gr b).2≠(0:Int)) (.sc true 179 [Zi (Int.tmod (wrap .i64 (wrap .i64 (s.17 y0 1 - t.17 y1 1)+(aI.gr b).2)) (aI.gr b).2),Zi (gA (Int.tmod (wrap .i64 (wrap .i64 (s.17 y0 2 - t.17 y1 2)+(aI.gr b).2)) (aI.gr b).2) (aI.gr b).2),Zi (aI.gr b).2] (.aT [Zi (lQ (cW (Int.tmod (wrap .i64 (wrap .i64 (s.17 y0 1 - t.17 y1 1)+(aI.gr b).2)) (aI.gr b).2) (gA (Int.tmod (wrap .i64 (wrap .i64 (s.17 y0 2 - t.17 y1 2)+(aI.gr b).2)) (aI.gr b).2) (aI.gr b).2) (aI.gr b).2) (Int.tmod (wrap .i64 (wrap .i64 (s.17 y0 1 - t.17 y1 1)+(aI.gr b).2)) (aI.gr b).2*gA (Int.tmod (wrap .i64 (wrap .i64 (s.17 y0 2 - t.17 y1 2)+(aI.gr b).2)) (aI.gr b).2) (aI.gr b).2%(aI.gr b).2)),Zi (cW (Int.tmod (wrap .i64 (wrap .i64 (s.17 y0 1 - t.17 y1 1)+(aI.gr b).2)) (aI.gr b).2) (gA (Int.tmod (wrap .i64 (wrap .i64 (s.17 y0 2 - t.17 y1 2)+(aI.gr b).2)) (aI.gr b).2) (aI.gr b).2) (aI.gr b).2)]) (.out (.aT [Zi (lQ (cW (Int.tmod (wrap .i64 (wrap .i64 (s.17 y0 1 - t.17 y1 1)+(aI.gr b).2)) (aI.gr b).2) (gA (Int.tmod (wrap .i64 (wrap .i64 (s.17 y0 2 - t.17 y1 2)+(aI.gr b).2)) (aI.gr b).2) (aI.gr b).2) (aI.gr b).2) (Int.tmod (wrap .i64 (wrap .i64 (s.17 y0 1 - t.17 y1 1)+(aI.gr b).2)) (aI.gr b).2*gA (Int.tmod (wrap .i64 (wrap .i64 (s.17 y0 2 - t.17 y1 2)+(aI.gr b).2)) (aI.gr b).2) (aI.gr b).2%(aI.gr b).2)),Zi 0]) [] y2 []))))))))))))))))))))))))))))
  (by kernel_rfl) ?_
 refine aM (c1) ?_
 refine aV (fun h1=>c2) ?_
 refine aL (fun h2=>?_) (fun h2=>?_)
 ·have g2:=(az (aB aF) (aB (aj aF aF))) h2
  exact aq (aw.of_eq (by rw [I7 g2]))
 ·have g2:=(au (ay aC) (ay (ah aC aC))) h2
  refine aM (c5) ?_
  refine aL (fun h5=>?_) (fun h5=>?_)
  ·have g5:=(az af af) h5
   exact aq (aw.of_eq (by rw [Jk g2 g5]))
  ·have g5:=(au aa aa) h5
   refine bM (c6) ?_
   refine aM (c7 (leaf) (by omega)) ?_
   refine aL (fun h9=>?_) (fun h9=>?_)
   ·have g9:=(aB aa) h9
    exact aq (aw.of_eq (by rw [Jr g2 (by omega) g9]))
   ·have g9:=(ay af) h9
    refine aD (⟨(L g2.2.1 (by omega)).1,(L g2.2.1 (by omega)).2.1⟩) ?_
    refine aM (c8 (s.17 (toNat (wrap .i64 (leaf - bK s))) (0)) (by omega)) ?_
    refine aD (by have m:=yN ((fV g2.2.1 (by omega)).1 g9).2;rw [(L g2.2.1 (by omega)).2.2,m.2];omega) ?_
    refine aM (c9 (s.17 (toNat (wrap .i64 (leaf - bK s))) (1))) ?_
    refine aV (fun h15=>c9 (s.17 (toNat (wrap .i64 (leaf - bK s))) (2))) ?_
    refine aV (fun h16=>c9 (t.17 (toNat (aK (fun (i:Nat)=>t.17 i (0)==s.17 (toNat (wrap .i64 (leaf - bK s))) (0)) t.16 (0))) (1))) ?_
    refine aV (fun h17=>c9 (t.17 (toNat (aK (fun (i:Nat)=>t.17 i (0)==s.17 (toNat (wrap .i64 (leaf - bK s))) (0)) t.16 (0))) (2))) ?_
    refine aL (fun h18=>?_) (fun h18=>?_)
    ·have g18:=(az (az (az (aB aF) (aB aF)) (aB aF)) (aB aF)) h18
     exact aq (by rw [(L g2.2.1 (by omega)).2.2] at g18;exact aw.of_eq (by rw [Jj g2 (by omega) g9 (or4 g18)]))
    ·have g18:=(au (au (au (ay aC) (ay aC)) (ay aC)) (ay aC)) h18
     refine aM (c3) ?_
     refine aM (c4) ?_
     refine aL (fun h22=>?_) (fun h22=>?_)
     ·have g22:=aS h22
      exact aq ((by exfalso;exact g22 (k1 g2.1 g2.2.1).1))
     ·have g22:=aP h22
      refine aL (fun h24=>?_) (fun h24=>?_)
      ·have g24:=aS h24
       exact aq ((by exfalso;exact g24 (k2 g2.1 g2.2.2).1))
      ·have g24:=aP h24
       refine aL (fun h26=>?_) (fun h26=>?_)
       ·have g26:=ai h26
        exact aq (by rw [(L g2.2.1 (by omega)).2.2] at g18;rw [(k1 g2.1 g2.2.1).2,(k2 g2.1 g2.2.2).2] at g26;exact aw.of_eq (by rw [IT g2 (by omega) g9 (AX g18) g26]))
       ·have g26:=ao h26
        refine aL (fun h28=>?_) (fun h28=>?_)
        ·have g28:=ai h28
         exact aq (by rw [(L g2.2.1 (by omega)).2.2] at g18 g28;rw [(k1 g2.1 g2.2.1).2,(k2 g2.1 g2.2.2).2] at g26;exact aw.of_eq (by rw [I5 g2 (by omega) g9 (AX g18) g26 g28]))
        ·have g28:=ao h28
         refine aD (by have:=hq g2.1;omega) ?_
         refine aM (LN (Int.tmod (wrap .i64 (wrap .i64 (s.17 (toNat (wrap .i64 (leaf - bK s))) (2) - t.17 (toNat (aK (fun (i:Nat)=>t.17 i (0)==s.17 (toNat (wrap .i64 (leaf - bK s))) (0)) t.16 (0))) (2))+(aI.gr b).2)) (aI.gr b).2) ((aI.gr b).2) (by have u:=yW (fZ g18.1.1.2) (fZ g18.2) (hq g2.1).2;rw [u.1];exact u.2.1) (by have u:=yW (fZ g18.1.1.2) (fZ g18.2) (hq g2.1).2;rw [u.1];exact u.2.2) ((hq g2.1).2)) ?_
         refine aD (by have:=hq g2.1;omega) ?_
         refine aM (wh (Int.tmod (wrap .i64 (wrap .i64 (s.17 (toNat (wrap .i64 (leaf - bK s))) (1) - t.17 (toNat (aK (fun (i:Nat)=>t.17 i (0)==s.17 (toNat (wrap .i64 (leaf - bK s))) (0)) t.16 (0))) (1))+(aI.gr b).2)) (aI.gr b).2) (gA (Int.tmod (wrap .i64 (wrap .i64 (s.17 (toNat (wrap .i64 (leaf - bK s))) (2) - t.17 (toNat (aK (fun (i:Nat)=>t.17 i (0)==s.17 (toNat (wrap .i64 (leaf - bK s))) (0)) t.16 (0))) (2))+(aI.gr b).2)) (aI.gr b).2) (aI.gr b).2) ((aI.gr b).2)) ?_
         exact aq (by have u:=yW (fZ g18.1.1.2) (fZ g18.2) (hq g2.1).2;have v:=yW (fZ g18.1.1.1) (fZ g18.1.2) (hq g2.1).2;rw [u.1,v.1,js (hq g2.1).1 (hq g2.1).2 v.2.1 v.2.2 (jZ (hq g2.1).1).1 (jZ (hq g2.1).1).2];rw [(L g2.2.1 (by omega)).2.2] at g18 g28 ⊢;rw [(k1 g2.1 g2.2.1).2,(k2 g2.1 g2.2.2).2] at g26;exact aw.of_eq (by rw [Ja g2 (by omega) g9 (AX g18) g26 g28];rfl))
theorem wE (s:aA) (h:dC s=true):Pure Tryz.prog aW 212 [s.av] (.int .i64 (bK s)):=by
 have o:=kZ h
 have c1:=rM s.depth s.level s.index o.1
 refine ar (own:=bk) Tryz.func212 (by kernel_rfl) mixed (by kernel_rfl)
  (.sc true 205 [Zi s.4,.agg [Zi s.11,Zi s.12]] (.aT [Zi (db (aA.depth s) (aA.level s) (aA.index s)),Zi (dg (aA.depth s) (aA.level s) (aA.index s))]) (.out (Zi (db s.4 s.11 s.12)) [] (Zi (bK s)) []))
  (by kernel_rfl) ?_
 refine aM (c1) ?_
 exact aq (aw.of_eq (congrArg _ o.2.2.1.symm))
theorem xf (s:aA) (v:Int) (hn:s.nl<9223372036854775808):Pure Tryz.prog aW 280 [s.av,.int .i64 v] (.int .i64 (aK (fun i=>s.lf i 0==v) s.nl 0)):=by
 refine ar (own:=bk) Tryz.func280 (by kernel_rfl) mixed (by kernel_rfl)
  (let z0:={ x:Nat // x≤aA.nl s∧(fun i=>aK (fun i=>aA.lf s i 0==v) (aA.nl s) 0=aK (fun i=>aA.lf s i 0==v) (aA.nl s - i) i) x };let y0:=(fun (x:z0)=>aY [1,2,5] [Zi v,.own 0 80 0 0 80,Zi x.1] [some ⟨80,1,true,.ba [aA.cells s]⟩]);let y1:=(fun (x:z0)=>aA.nl s - x.1);let y2:AV:=(Zi (aK (fun i=>aA.lf s i 0==v) (aA.nl s) 0));(.loop (z0) y0 y1 (⟨0,⟨Nat.zero_le (aA.nl s),rfl⟩⟩) [1,2,5] [0] [Zi v,.own 0 80 0 0 80,Zi 0] [some ⟨80,1,true,.ba [aA.cells s]⟩] (fun x0=>(.br (decide ((x0.1:Int)<(s.16:Int))) (.bf (0≤(x0.1:Int)∧(x0.1:Int)<(s.16:Int)) (.br (s.17 (toNat (x0.1:Int)) 0==v) (.out (Zi x0.1) [] y2 []) (.again (be 0 y0 y1 x0) [1,2,5] [0] [Zi v,.own 0 80 0 0 80,Zi (wrap .i64 ((x0.1:Int)+1))] [some ⟨80,1,true,.ba [aA.cells s]⟩]))) (.out (Zi (-1)) [] y2 [])))))
  (by kernel_rfl) ?_
 refine aU (fun _ hs=>hs.le (⟨.refl _,.refl _,.refl _,trivial⟩) (⟨.refl _,trivial⟩)) (fun x0=>?_)
 try (have q0:=x0.2;dsimp only at q0)
 refine aL (fun h1=>?_) (fun h1=>?_)
 ·have g1:=af h1
  refine aD (by omega) ?_
  refine aL (fun h3=>?_) (fun h3=>?_)
  ·have g3:=ai h3
   try simp only [Int.toNat_natCast] at g3
   exact aq (aw.of_eq (congrArg _ (cr x0.2.2 (by omega) (by simp only [beq_iff_eq];exact g3))))
  ·have g3:=ao h3
   try simp only [Int.toNat_natCast] at g3
   exact aN (⟨x0.1+1,by omega,bS x0.2.2 (by omega) (by simp only [beq_eq_false_iff_ne];exact g3)⟩) (fun _ hs=>hs.le (⟨.refl _,.refl _,aJ (by omega),trivial⟩) (⟨.refl _,trivial⟩)) (by dsimp only;omega)
 ·have g1:=aa h1
  exact aq (aw.of_eq (congrArg _ (bW x0.2.2 (by omega))))
theorem tD (s t:aA) (j:Int) (k0:0≤j) (k1:j<s.nl) (hn:t.nl<9223372036854775808):Pure Tryz.prog aW 213 [s.av,t.av,.int .i64 j] (.int .i64 (fy s t j.toNat)):=by
 have c1:=xf t
 refine ar (own:=bk) Tryz.func213 (by kernel_rfl) mixed (by kernel_rfl)
  (.br (s.5 != t.5) (.out (Zi (-1)) [] (Zi (fy s t (toNat j))) []) (.bf ((0:Int)≤j∧j<(s.16:Int)) (.sc true 280 [.agg (aA.cells t),Zi (s.17 (toNat j) 0)] (Zi (aK (fun i=>aA.lf t i 0==s.17 (toNat j) 0) (aA.nl t) 0)) (.out (Zi (aK (fun i=>t.17 i 0==s.17 (toNat j) 0) t.16 0)) [] (Zi (fy s t (toNat j))) []))))
  (by kernel_rfl) ?_
 refine aL (fun h0=>?_) (fun h0=>?_)
 ·have g0:=aS h0
  exact aq (aw.of_eq (congrArg _ (if_neg g0).symm))
 ·have g0:=aP h0
  refine aD (⟨k0,k1⟩) ?_
  refine aM (c1 (s.17 (toNat j) (0)) (by assumption)) ?_
  exact aq (aw.of_eq (congrArg _ (if_pos g0).symm))
theorem rf (b:aI) (s:aA) (bs:s.By) (hq:0<b.gr.q) (hq':b.gr.q<2305843009213693952):Pure Tryz.prog aW 215 [b.av,s.av] (.int .i64 (l5 b s)):=by
 have c1:=yv b s.dX s.level s.index s.l6 bs.root bs.bI hq hq'
 refine ar (own:=bk) Tryz.func215 (by kernel_rfl) mixed (by kernel_rfl)
  (.sc true 206 [.agg (aI.cells b),.agg (Zi s.1::Zi s.2::Zi s.3::Zi s.4::Zi s.5::(bh s.6++[Zi s.7,Zi s.8,Zi s.9,Zi s.10])),.agg [Zi s.11,Zi s.12],.agg (bh s.13++[Zi s.14,Zi s.15])] (Zi (iL (bL.q (aI.gr b)) (aA.dX s) (aA.level s) (aA.index s) (aA.l6 s))) (.out (Zi (iL (aI.gr b).2 (aA.dX s) s.11 s.12 (aA.l6 s))) [] (Zi (l5 b s)) []))
  (by kernel_rfl) ?_
 refine aM (c1) ?_
 exact aq (aw.refl _)
theorem Aj (b:aI) (s t:aA) (leaf:Int) (hl:leaf≤9223372036854775807) (hw:b.gr.W) (hs:s.nl≤1000) (ht:t.nl≤1000) (bs:s.By) (bt:t.By):Pure Tryz.prog aW 139 [b.av,s.av,t.av,.int .i64 leaf] (.aT [.int .i64 (cQ b s t leaf).1,.int .i64 (cQ b s t leaf).2]):=by
 have c1:=fe b hw
 have c2:=rz s
 have c3:=rz t
 have c4:=fun h=>wE s h
 have c5:=fun j h h'=>tD s t j h h' (by omega)
 have c6:=vJ b
 have c7:=fun h h'=>rf b s bs h h'
 have c8:=fun h h'=>rf b t bt h h'
 have hq:=fun h=>fO (b:=b) h
 have lr:=fun h=>BU (s:=s) (leaf:=leaf) h hl
 have L:=fun h h'=>v7 (s:=s) (leaf:=leaf) h h'
 refine ar (own:=bk) Tryz.func139 (by kernel_rfl) mixed (by kernel_rfl)
  (let z0:=(leaf - bK s);let y0:Nat:=(toNat (wrap .i64 z0));let y1:AV:=(.aT [Zi (Prod.fst (cQ b s t leaf)),Zi (Prod.snd (cQ b s t leaf))]);let y2:Nat:=(toNat (fy s t y0));let y3:List AV:=[Zi (aI.gr b).1,Zi (aI.gr b).2,Zi (aI.gr b).3];(.sc true 33 [.agg (aI.cells b)] (.bool (aR b)) (.sc ((!aR b)==false) 211 [.agg (aA.cells s)] (.bool (dC s)) (.sc ((!aR b || !dC s)==false) 211 [.agg (aA.cells t)] (.bool (dC t)) (.br (!aR b || !dC s || !dC t) (.out (.aT [Zi 0,Zi 1]) [] y1 []) (.sc true 212 [.agg (aA.cells s)] (Zi (bK s)) (.br (decide (leaf<0)||decide (wrap .i64 z0<0)||decide (wrap .i64 z0≥(s.16:Int))) (.out (.aT [Zi 0,Zi 2]) [] y1 []) (.sc true 213 [.agg (aA.cells s),.agg (aA.cells t),Zi (wrap .i64 z0)] (Zi (fy s t y0)) (.br (decide (fy s t y0<0)) (.out (.aT [Zi 0,Zi 7]) [] y1 []) (.bf ((0:Int)≤wrap .i64 z0∧wrap .i64 z0<(s.16:Int)) (.bf ((0:Int)≤fy s t y0∧fy s t y0<(t.16:Int)) (.sc true 214 [.agg y3,Zi (s.17 y0 1)] (.bool (gR b (s.17 y0 1))) (.sc ((!gR b (s.17 y0 1))==false) 214 [.agg y3,Zi (s.17 y0 2)] (.bool (gR b (s.17 y0 2))) (.sc ((!gR b (s.17 y0 1) || !gR b (s.17 y0 2))==false) 214 [.agg y3,Zi (t.17 y2 1)] (.bool (gR b (t.17 y2 1))) (.sc ((!gR b (s.17 y0 1) || !gR b (s.17 y0 2) || !gR b (t.17 y2 1))==false) 214 [.agg y3,Zi (t.17 y2 2)] (.bool (gR b (t.17 y2 2))) (.br (!gR b (s.17 y0 1) || !gR b (s.17 y0 2) || !gR b (t.17 y2 1) || !gR b (t.17 y2 2)) (.out (.aT [Zi 0,Zi 2]) [] y1 []) (.sc true 215 [.agg (aI.cells b),.agg (aA.cells s)] (Zi (l5 b s)) (.sc true 215 [.agg (aI.cells b),.agg (aA.cells t)] (Zi (l5 b t)) (.br (l5 b s==l5 b t) (.out (.aT [Zi 0,Zi 20]) [] y1 []) (.br (s.17 y0 2==t.17 y2 2) (.out (.aT [Zi 0,Zi 10]) [] y1 []) (.bf ((aI.gr b).2≠(0:Int)) (.sc true 216 [Zi (Int.tmod (wrap .i64 (wrap .i64 (s.17 y0 2+(aI.gr b).2) - t.17 y2 2)) (aI.gr b).2),Zi (aI.gr b).2] (.aT [Zi (gA (Int.tmod (wrap .i64 (wrap .i64 (s.17 y0 2+(aI.gr b).2) - t.17 y2 2)) (aI.gr b).2) (aI.gr b).2),.bool (decide (Int.gcd (Int.tmod (wrap .i64 (wrap .i64 (s.17 y0 2+(aI.gr b).2) - t.17 y2 2)) (aI.gr b).2) (aI.gr b).2=1))]) (.bf ((aI.gr b).2≠(0:Int)) (.sc true 187 [Zi (Int.tmod (wrap .i64 (wrap .i64 (s.17 y0 1+(aI.gr b).2) - t.17 y2 1)) (aI.gr b).2),Zi (gA (Int.tmod (wrap .i64 (wrap .i64 (s.17 y0 2+(aI.gr b).2) - t.17 y2 2)) (aI.gr b).2) (aI.gr b).2),Zi (aI.gr b).2] (Zi (Int.tmod (wrap .i64 (wrap .i64 (s.17 y0 1+(aI.gr b).2) - t.17 y2 1)) (aI.gr b).2*gA (Int.tmod (wrap .i64 (wrap .i64 (s.17 y0 2+(aI.gr b).2) - t.17 y2 2)) (aI.gr b).2) (aI.gr b).2%(aI.gr b).2)) (.out (.aT [Zi (Int.tmod (wrap .i64 (wrap .i64 (s.17 y0 1+(aI.gr b).2) - t.17 y2 1)) (aI.gr b).2*gA (Int.tmod (wrap .i64 (wrap .i64 (s.17 y0 2+(aI.gr b).2) - t.17 y2 2)) (aI.gr b).2) (aI.gr b).2%(aI.gr b).2),Zi 0]) [] y1 [])))))))))))))))))))))))))
  (by kernel_rfl) ?_
 refine aM (c1) ?_
 refine aV (fun h1=>c2) ?_
 refine aV (fun h2=>c3) ?_
 refine aL (fun h3=>?_) (fun h3=>?_)
 ·have g3:=(az (az (aB aF) (aB aF)) (aB aF)) h3
  exact aq (aw.of_eq (by rw [I7 (or_assoc.1 g3)]))
 ·have g3:=(au (au (ay aC) (ay aC)) (ay aC)) h3
  refine aM (c4 (g3.1.2)) ?_
  refine aL (fun h6=>?_) (fun h6=>?_)
  ·have g6:=(az (az af af) af) h6
   exact aq (aw.of_eq (by rw [Jk (and_assoc.1 g3) ((lr g3.1.2).1 g6)]))
  ·have g6:=(au (au aa aa) aa) h6
   refine aM (c5 (wrap .i64 (leaf - bK s)) (by omega) (by omega)) ?_
   refine aL (fun h9=>?_) (fun h9=>?_)
   ·have g9:=af h9
    exact aq (by have nl:¬(leaf<bK s∨oz s≤leaf):=(fun hh=>by have:=(lr g3.1.2).2 hh;omega);rw [(L g3.1.2 nl).2.2] at g9;exact aw.of_eq (by rw [Jr (and_assoc.1 g3) nl (fun hm=>(vk g3.1.2 nl).2 hm g9)]))
   ·have g9:=aa h9
    refine aD (by omega) ?_
    refine aD (by have k:=vN g3.1.2 hl g6 g9;rw [k.2.2.1];exact k.2.2.2.2) ?_
    refine aM (c6 (s.17 (toNat (wrap .i64 (leaf - bK s))) (1))) ?_
    refine aV (fun h14=>c6 (s.17 (toNat (wrap .i64 (leaf - bK s))) (2))) ?_
    refine aV (fun h15=>c6 (t.17 (toNat (fy s t (toNat (wrap .i64 (leaf - bK s))))) (1))) ?_
    refine aV (fun h16=>c6 (t.17 (toNat (fy s t (toNat (wrap .i64 (leaf - bK s))))) (2))) ?_
    refine aL (fun h17=>?_) (fun h17=>?_)
    ·have g17:=(az (az (az (aB aF) (aB aF)) (aB aF)) (aB aF)) h17
     exact aq (by have k:=vN g3.1.2 hl g6 g9;rw [k.2.2.1,k.2.2.2.1] at g17;exact aw.of_eq (by rw [Jj (and_assoc.1 g3) k.1 k.2.1 (or4 g17)]))
    ·have g17:=(au (au (au (ay aC) (ay aC)) (ay aC)) (ay aC)) h17
     refine aM (c7 ((hq g3.1.1).1) ((hq g3.1.1).2)) ?_
     refine aM (c8 ((hq g3.1.1).1) ((hq g3.1.1).2)) ?_
     refine aL (fun h21=>?_) (fun h21=>?_)
     ·have g21:=ai h21
      exact aq (by have k:=vN g3.1.2 hl g6 g9;rw [k.2.2.1,k.2.2.2.1] at g17;exact aw.of_eq (by rw [IT (and_assoc.1 g3) k.1 k.2.1 (AX g17) g21]))
     ·have g21:=ao h21
      refine aL (fun h23=>?_) (fun h23=>?_)
      ·have g23:=ai h23
       exact aq (by have k:=vN g3.1.2 hl g6 g9;rw [k.2.2.1,k.2.2.2.1] at g17 g23;exact aw.of_eq (by rw [I5 (and_assoc.1 g3) k.1 k.2.1 (AX g17) g21 g23]))
      ·have g23:=ao h23
       refine aD (by have:=hq g3.1.1;omega) ?_
       refine aM (Ks (Int.tmod (wrap .i64 (wrap .i64 (s.17 (toNat (wrap .i64 (leaf - bK s))) (2)+(aI.gr b).2) - t.17 (toNat (fy s t (toNat (wrap .i64 (leaf - bK s))))) (2))) (aI.gr b).2) ((aI.gr b).2) (by have u:=rh (fZ g17.1.1.2) (fZ g17.2) (hq g3.1.1).2;rw [u.1];exact u.2.1) (by have u:=rh (fZ g17.1.1.2) (fZ g17.2) (hq g3.1.1).2;rw [u.1];exact u.2.2) ((hq g3.1.1).2)) ?_
       refine aD (by have:=hq g3.1.1;omega) ?_
       refine aM (iK (Int.tmod (wrap .i64 (wrap .i64 (s.17 (toNat (wrap .i64 (leaf - bK s))) (1)+(aI.gr b).2) - t.17 (toNat (fy s t (toNat (wrap .i64 (leaf - bK s))))) (1))) (aI.gr b).2) (gA (Int.tmod (wrap .i64 (wrap .i64 (s.17 (toNat (wrap .i64 (leaf - bK s))) (2)+(aI.gr b).2) - t.17 (toNat (fy s t (toNat (wrap .i64 (leaf - bK s))))) (2))) (aI.gr b).2) (aI.gr b).2) ((aI.gr b).2) (by have u:=rh (fZ g17.1.1.1) (fZ g17.1.2) (hq g3.1.1).2;rw [u.1];exact u.2.1) (by have u:=rh (fZ g17.1.1.1) (fZ g17.1.2) (hq g3.1.1).2;rw [u.1];exact u.2.2) ((jZ (hq g3.1.1).1).1) ((jZ (hq g3.1.1).1).2) ((hq g3.1.1).2)) ?_
       exact aq (by have u:=rh (fZ g17.1.1.2) (fZ g17.2) (hq g3.1.1).2;have v:=rh (fZ g17.1.1.1) (fZ g17.1.2) (hq g3.1.1).2;rw [u.1,v.1];have k:=vN g3.1.2 hl g6 g9;rw [k.2.2.1,k.2.2.2.1] at g17 g23 ⊢;exact aw.of_eq (by rw [Ja (and_assoc.1 g3) k.1 k.2.1 (AX g17) g21 g23]))
theorem vq (G:bL) (l:List Int) (h:G.Ok) (hw:G.W) (hl:∀ i,i<l.length→aQ G (l.getD i 0)=true) (hn:l.length<1000):Pure Tryz.prog aW 164 [G.av,il .i64 l] (.int .i64 0):=by
 have c1:=kA G hw
 rw [bn.2 h] at c1
 have c2:=fun x=>qT G x hw
 refine ar (own:=bk) Tryz.func164 (by kernel_rfl) mixed (by kernel_rfl)
  (let y1:=(fun (x:{ x:Nat // x≤List.length l })=>List.length l - x.1);let y2:List (Option Ob):=[some ⟨3,1,true,bz.ba [[Zi (bL.p G),Zi (bL.q G),Zi (bL.g G)]]⟩];let y0:=(fun (x:{ x:Nat // x≤List.length l })=>aY [2,10,11,12] [AV.own 0 3 0 0 3,AV.aG 1 (List.length l) fun (i x:Nat)=>Zi (List.getD l i (0:Int)),Zi (↑(List.length l):Int),Zi (↑(x.1):Int)] y2);(.sc (true) 60 ([AV.agg [Zi G.1,Zi G.2,Zi G.3]]) (AV.bool true) (.ff (.loop ({ x:Nat // x≤List.length l }) y0 y1 (⟨0,Nat.zero_le (List.length l)⟩) ([2,10,11,12]) ([0]) ([AV.own 0 3 0 0 3,AV.aG 1 (List.length l) fun (i x:Nat)=>Zi (List.getD l i (0:Int)),Zi (↑(List.length l):Int),Zi 0]) (y2) (fun x2=>(.br (decide ((↑x2.1:Int)<(↑(List.length l):Int))) (.bf ((0:Int)≤(↑x2.1:Int)∧(↑x2.1:Int)<(↑(List.length l):Int)) (.sc (true) 114 ([AV.agg [Zi G.1,Zi G.2,Zi G.3],Zi (List.getD l (toNat (↑x2.1:Int)) (0:Int))]) (AV.bool (aQ G (List.getD l (toNat (↑x2.1:Int)) (0:Int)))) (.br (!aQ G (List.getD l (toNat (↑x2.1:Int)) (0:Int))) (.out (Zi 2) [] (Zi 0) []) (.again (be 0 y0 y1 x2) ([2,10,11,12]) ([0]) ([AV.own 0 3 0 0 3,AV.aG 1 (List.length l) fun (i x:Nat)=>Zi (List.getD l i (0:Int)),Zi (↑(List.length l):Int),Zi (wrap .i64 ((↑x2.1:Int)+1))]) (y2))))) (.out (Zi 0) [] (Zi 0) [])))))))
  (by kernel_rfl) ?_
 refine aM (c1) ?_
 refine b9 ?_
 refine aU (fun _ hs=>hs.le (⟨.refl _,.refl _,.refl _,.refl _,trivial⟩) (⟨.refl _,trivial⟩)) (fun x2=>?_)
 try (have q2:=x2.2;dsimp only at q2)
 refine aL (fun h3=>?_) (fun h3=>?_)
 ·have g3:=af h3
  refine aD (by omega) ?_
  refine aM (c2 (List.getD l (toNat (↑x2.1:Int)) (0:Int))) ?_
  refine aL (fun h6=>?_) (fun h6=>?_)
  ·have g6:=(aB aF) h6
   try simp only [Int.toNat_natCast] at g6
   exact aq ((by exfalso;rw [hl x2.1 (by omega)] at g6;cases g6))
  ·have g6:=(ay aC) h6
   try simp only [Int.toNat_natCast] at g6
   exact aN (⟨x2.1+1,by omega⟩) (fun _ hs=>hs.le (⟨.refl _,.refl _,.refl _,aJ (by omega),trivial⟩) (⟨.refl _,trivial⟩)) (by dsimp only;omega)
 ·have g3:=aa h3
  exact aq (aw.of_eq rfl)
theorem GD (G:bL) (a:Int) (h:G.Ok) (hw:G.W) (ha:aQ G a=true):Pure Tryz.prog aW 164 [G.av,.aG 1 1 fun r k=>aO (List.getD [[.int .i64 a]] r []) k] (.int .i64 0) :=
 (vq G [a] h hw (fun i hi=>by obtain rfl:i=0:=Nat.lt_one_iff.1 hi;exact ha) (by simp)).via ⟨aw.refl _,eO rfl rfl,trivial⟩
theorem HV (G:bL) (a c:Int) (h:G.Ok) (hw:G.W) (ha:aQ G a=true) (hc:aQ G c=true):Pure Tryz.prog aW 164 [G.av,.aG 1 2 fun r k=>aO (List.getD [[.int .i64 a],[.int .i64 c]] r []) k] (.int .i64 0) :=
 (vq G [a,c] h hw (fun i hi=>match i,hi with
  | 0,_=>ha
  | 1,_=>hc) (by simp)).via ⟨aw.refl _,eO rfl rfl,trivial⟩
theorem pR (G:bL) (a c:Int) (h:G.Ok) (hw:G.W) (ha:aQ G a=true) (hc:aQ G c=true):Pure Tryz.prog aW 117 [G.av,.int .i64 a,.int .i64 c] (.aT [.int .i64 (a*c%G.p),.int .i64 0]):=by
 have c1:=HV G a c h hw ha hc
 have x:=fH h ha
 have y:=fH h hc
 have k1:=h.p1
 have k2:=js (a:=a) (b:=c) (m:=G.p) (by omega) (by omega) (by omega) (by omega) (by omega) (by omega)
 refine ar (own:=bk) Tryz.func117 (by kernel_rfl) mixed (by kernel_rfl)
  (let y0:AV:=(.aT [Zi (lQ (cW a c G.1) (a*c%G.1)),Zi (cW a c G.1)]);(.sc true 164 [.agg [Zi G.1,Zi G.2,Zi G.3],.aG 1 2 fun r k=>aO (List.getD [[Zi a],[Zi c]] (r+0) []) k] (Zi 0) (.ff (.sc true 179 [Zi a,Zi c,Zi G.1] y0 (.out y0 [] (.aT [Zi (a*c%bL.p G),Zi 0]) [])))))
  (by kernel_rfl) ?_
 refine aM (c1) ?_
 refine b9 ?_
 refine aM (wh (a) (c) (G.1)) ?_
 exact aq (aw.of_eq (by rw [k2];rfl))
theorem nH (G:bL) (a e:Int) (h:G.Ok) (hw:G.W) (ha:aQ G a=true) (he:0≤e∧e<G.q):Pure Tryz.prog aW 107 [G.av,.int .i64 a,.int .i64 e] (.aT [.int .i64 (a^e.toNat%G.p),.int .i64 0]):=by
 have c1:=GD G a h hw ha
 have x:=fH h ha
 have k1:=h.p1;have k2:=h.qp;have k3:=h.q3
 have k4:lQ (cW 0 0 G.q) (e%G.q)=e:=by
  rw [js (by omega) (by omega) (by omega) (by omega) (by omega) (by omega)]
  exact I2 he
 have k5:=nO (js (a:=a) (b:=a) (m:=G.p) (by omega) (by omega) (by omega) (by omega) (by omega) (by omega)) (by omega:¬e<0)
 refine ar (own:=bk) Tryz.func107 (by kernel_rfl) mixed (by kernel_rfl)
  (let z1:=(cW (0:Int) (0:Int) G.2);let z0:=(lQ z1 (e%G.2));let y0:AV:=(.aT [Zi (lQ (gJ a z0 G.1) (a^toNat z0%G.1)),Zi (gJ a z0 G.1)]);(.sc true 164 [.agg [Zi G.1,Zi G.2,Zi G.3],.aG 1 1 fun r k=>aO (List.getD [[Zi a]] (r+0) []) k] (Zi 0) (.ff (.sc true 165 [Zi e,Zi G.2] (.aT [Zi z0,Zi z1]) (.sc true 113 [Zi a,Zi z0,Zi G.1] y0 (.out y0 [] (.aT [Zi (a^toNat e%bL.p G),Zi 0]) []))))))
  (by kernel_rfl) ?_
 refine aM (c1) ?_
 refine b9 ?_
 refine aM (zG (e) (G.2)) ?_
 refine aM (nG (a) (lQ (cW (0:Int) (0:Int) G.2) (e%G.2)) (G.1) (by rw [k4];omega)) ?_
 exact aq (aw.of_eq (by rw [k4,k5];rfl))
theorem AY (b:aI) (u:Int) (h:b.Ok) (hw:b.gr.W) (hu:0≤u∧u<b.gr.q):Pure Tryz.prog aW 172 [b.av,.int .i64 u] (.int .i64 (m8 b u)):=by
 have c1:=nH b.gr b.g1 u h.G hw h.e1 hu
 have c2:=pR b.gr (b.g1^u.toNat%b.gr.p) b.g2 h.G hw (dL h.G h.e1 _) h.e2
 refine ar (own:=bk) Tryz.func172 (by kernel_rfl) mixed (by kernel_rfl)
  (let y0:List AV:=[Zi (aI.gr b).1,Zi (aI.gr b).2,Zi (aI.gr b).3];(.sc true 107 [.agg y0,Zi b.2,Zi u] (.aT [Zi (aI.g1 b^toNat u%bL.p (aI.gr b)),Zi 0]) (.sc true 117 [.agg y0,Zi (b.2^toNat u%(aI.gr b).1),Zi b.3] (.aT [Zi (aI.g1 b^toNat u%bL.p (aI.gr b)*aI.g2 b%bL.p (aI.gr b)),Zi 0]) (.out (Zi (b.2^toNat u%(aI.gr b).1*b.3%(aI.gr b).1)) [] (Zi (m8 b u)) []))))
  (by kernel_rfl) ?_
 refine aM (c1) ?_
 refine aM (c2) ?_
 exact aq (aw.refl _)
theorem wu (b:aI) (u:Int) (h:b.Ok) (hu:0≤u∧u<b.gr.q):Pure Tryz.prog aW 140 [b.av,.int .i64 u] (.int .i64 (m8 b u)):=by
 have k1:=fH h.G h.e1
 have k2:=fH h.G h.e2
 have k3:=h.G.p1;have k4:=h.G.qp
 have k5:=fH h.G (dL h.G h.e1 u.toNat)
 refine ar (own:=bk) Tryz.func140 (by kernel_rfl) mixed (by kernel_rfl)
  (let z0:=(b.2^toNat u%(aI.gr b).1);let y0:AV:=(Zi (b.2^toNat u%(aI.gr b).1*b.3%(aI.gr b).1));(.sc true 126 [Zi b.2,Zi u,Zi (aI.gr b).1] (Zi z0) (.sc true 187 [Zi z0,Zi b.3,Zi (aI.gr b).1] y0 (.out y0 [] (Zi (m8 b u)) []))))
  (by kernel_rfl) ?_
 refine aM (j0 (b.2) (u) ((aI.gr b).1) (by omega) (by omega) (by omega) (by omega) (by assumption)) ?_
 refine aM (iK (b.2^toNat u%(aI.gr b).1) (b.3) ((aI.gr b).1) (by omega) (by omega) (by omega) (by omega) (by assumption)) ?_
 exact aq (aw.refl _)
theorem pc (x l u:Int):Pure Tryz.prog aW 149 [.int .i64 x,.int .i64 l,.int .i64 u] (.bool (iz x l u)):=by
 refine ar (own:=bk) Tryz.func149 (by kernel_rfl) mixed (by kernel_rfl)
  (.out (.bool (decide (x≥l)&&decide (x≤u))) [] (.bool (iz x l u)) [])
  (by kernel_rfl) ?_
 exact aq (aw.refl _)
theorem zP (a b c d e:Int):Pure Tryz.prog aW 148 [.int .i64 a,.int .i64 b,.int .i64 c,.int .i64 d,.int .i64 e] (.bool (mM a b c d e)):=by
 refine ar (own:=bk) Tryz.func148 (by kernel_rfl) mixed (by kernel_rfl)
  (.sc true 149 [Zi a,Zi 0,Zi 7] (.bool (iz a (0:Int) (7:Int))) (.sc (iz a (0:Int) (7:Int)==true) 149 [Zi b,Zi 0,Zi 1000000] (.bool (iz b (0:Int) (1000000:Int))) (.out (.bool (iz a (0:Int) (7:Int)&&iz b (0:Int) (1000000:Int)&&decide (c≥0)&&decide (c<d)&&decide (d≤e)&&decide (e≤1099511627776))) [] (.bool (mM a b c d e)) [])))
  (by kernel_rfl) ?_
 refine aM (pc (a) ((0:Int)) ((7:Int))) ?_
 refine aV (fun h1=>pc (b) ((0:Int)) ((1000000:Int))) ?_
 exact aq (aw.refl _)
theorem DI (x l u:Int):Pure Tryz.prog aW 194 [.int .i64 x,.int .i64 l,.int .i64 u] (.bool (iz x l u)):=by
 refine ar (own:=bk) Tryz.func194 (by kernel_rfl) mixed (by kernel_rfl)
  (.out (.bool (decide (x≥l)&&decide (x≤u))) [] (.bool (iz x l u)) [])
  (by kernel_rfl) ?_
 exact aq (aw.refl _)
theorem G8 (a b c d e:Int):Pure Tryz.prog aW 193 [.int .i64 a,.int .i64 b,.int .i64 c,.int .i64 d,.int .i64 e] (.bool (mM a b c d e)):=by
 refine ar (own:=bk) Tryz.func193 (by kernel_rfl) mixed (by kernel_rfl)
  (.sc true 194 [Zi a,Zi 0,Zi 7] (.bool (iz a (0:Int) (7:Int))) (.sc (iz a (0:Int) (7:Int)==true) 194 [Zi b,Zi 0,Zi 1000000] (.bool (iz b (0:Int) (1000000:Int))) (.out (.bool (iz a (0:Int) (7:Int)&&iz b (0:Int) (1000000:Int)&&decide (c≥0)&&decide (c<d)&&decide (d≤e)&&decide (e≤1099511627776))) [] (.bool (mM a b c d e)) [])))
  (by kernel_rfl) ?_
 refine aM (DI (a) ((0:Int)) ((7:Int))) ?_
 refine aV (fun h1=>DI (b) ((0:Int)) ((1000000:Int))) ?_
 exact aq (aw.refl _)
theorem DO (v d:Int):Pure Tryz.prog aW 225 [.agg [.int .i64 v,.int .i64 d]] (.bool (ie v d)):=by
 refine ar (own:=bk) Tryz.func225 (by kernel_rfl) mixed (by kernel_rfl)
  (let z0:=(decide (v≥1)&&decide (v≤1099511627776)&&decide (d≥0)&&decide (d≤5));(.br (v==0&&(d==0&&true)) (.out (.bool true) [] (.bool (ie v d)) []) (.bf ((z0==true)=true→(0:Int)≤d) (.bf ((z0==true)=true→wrap .i64 ((1:Int)*2^min (toNat d) 64)≠(0:Int)) (.out (.bool (decide (v≥1)&&decide (v≤1099511627776)&&decide (d≥0)&&decide (d≤5)&&Int.tmod v (wrap .i64 ((1:Int)*2^min (toNat d) 64))==0)) [] (.bool (ie v d)) [])))))
  (by kernel_rfl) ?_
 refine aL (fun h0=>?_) (fun h0=>?_)
 ·have g0:=(ah ai (ah ai aC)) h0
  exact aq (aw.of_eq (congrArg _ (Ng g0.1 g0.2.1).symm))
 ·have g0:=(aj ao (aj ao aF)) h0
  refine aD (fun hr=>by simp at hr;omega) ?_
  refine aD (fun hr=>by simp at hr;exact II (by omega) (by omega)) ?_
  exact aq (aw.of_eq (congrArg _ (Ow (fun h=>by rcases g0 with g|g|g;(· exact g h.1);(· exact g h.2);cases g))))
theorem Oy (v d:Int):Pure Tryz.prog aW 195 [.agg [.int .i64 v,.int .i64 d]] (.bool (ie v d)):=by
 refine ar (own:=bk) Tryz.func195 (by kernel_rfl) mixed (by kernel_rfl)
  (let z0:=(decide (v≥1)&&decide (v≤1099511627776)&&decide (d≥0)&&decide (d≤5));let y0:Nat:=(toNat (wrap .u64 d));(.br (v==0) (.out (.bool (d==0)) [] (.bool (ie v d)) []) (.bf ((z0==true)=true→(0:Int)≤wrap .u64 d) (.bf ((z0==true)=true→wrap .i64 ((1:Int)*2^min y0 64)≠(0:Int)) (.out (.bool (decide (v≥1)&&decide (v≤1099511627776)&&decide (d≥0)&&decide (d≤5)&&Int.tmod v (wrap .i64 ((1:Int)*2^min y0 64))==0)) [] (.bool (ie v d)) [])))))
  (by kernel_rfl) ?_
 refine aL (fun h0=>?_) (fun h0=>?_)
 ·have g0:=ai h0
  exact aq (aw.of_eq (congrArg _ (Ji g0).symm))
 ·have g0:=ao h0
  refine aD (fun hr=>by simp at hr;rw [Eo (by omega) (by omega)];omega) ?_
  refine aD (fun hr=>by simp at hr;rw [Eo (by omega) (by omega)];exact II (by omega) (by omega)) ?_
  exact aq (aw.of_eq (congrArg _ (NU g0)))
theorem lW (b:aI) (x:Int) (hw:b.gr.W):Pure Tryz.prog aW 289 [b.av,.int .i64 x] (.bool (aQ b.gr x)):=by
 have hq:=hw.q
 refine ar (own:=bk) Tryz.func289 (by kernel_rfl) mixed (by kernel_rfl)
  (let z1:=(x^toNat (aI.gr b).2%(aI.gr b).1);let z0:=(gJ x (aI.gr b).2 (aI.gr b).1);(.br (decide (x<1)||decide (x≥(aI.gr b).1)) (.out (.bool false) [] (.bool (aQ (aI.gr b) x)) []) (.sc true 113 [Zi x,Zi (aI.gr b).2,Zi (aI.gr b).1] (.aT [Zi (lQ z0 z1),Zi z0]) (.out (.bool (gJ x (aI.gr b).2 (aI.gr b).1==0&&lQ z0 z1==1)) [] (.bool (aQ (aI.gr b) x)) []))))
  (by kernel_rfl) ?_
 refine aL (fun h0=>?_) (fun h0=>?_)
 ·have g0:=(az af af) h0
  exact aq (aw.of_eq (congrArg _ (xc g0).symm))
 ·have g0:=(au aa aa) h0
  refine aM (nG (x) ((aI.gr b).2) ((aI.gr b).1) (by assumption)) ?_
  exact aq (aw.of_eq (congrArg _ (ok1.trans (xw g0).symm)))
theorem iN (b:aI) (x:Int) (hw:b.gr.W):Pure Tryz.prog aW 226 [b.av,.int .i64 x] (.bool (bV b.gr x)):=by
 refine ar (own:=bk) Tryz.func226 (by kernel_rfl) mixed (by kernel_rfl)
  (.sc ((x != 1)==true) 289 [.agg (aI.cells b),Zi x] (.bool (aQ (aI.gr b) x)) (.out (.bool (x != 1&&aQ b.1 x)) [] (.bool (bV (aI.gr b) x)) []))
  (by kernel_rfl) ?_
 refine aV (fun h0=>(lW b) (x) (by assumption)) ?_
 exact aq (aw.refl _)
theorem o7 (b:aI) (h h1 h2:Int) (hw:b.gr.W):Pure Tryz.prog aW 151 [b.av,.agg [.int .i64 h,.int .i64 h1,.int .i64 h2]] (.bool (cZ b h h1 h2)):=by
 refine ar (own:=bk) Tryz.func151 (by kernel_rfl) mixed (by kernel_rfl)
  (.sc true 21 [.agg (aI.cells b)] (.bool (aR b)) (.sc (aR b==true) 226 [.agg (aI.cells b),Zi h] (.bool (bV (aI.gr b) h)) (.sc ((aR b&&bV b.1 h)==true) 226 [.agg (aI.cells b),Zi h1] (.bool (bV (aI.gr b) h1)) (.sc ((aR b&&bV b.1 h&&bV b.1 h1)==true) 226 [.agg (aI.cells b),Zi h2] (.bool (bV (aI.gr b) h2)) (.out (.bool (aR b&&bV b.1 h&&bV b.1 h1&&bV b.1 h2)) [] (.bool (cZ b h h1 h2)) [])))))
  (by kernel_rfl) ?_
 refine aM ((ew b) (by assumption)) ?_
 refine aV (fun h1=>(iN b) (h) (by assumption)) ?_
 refine aV (fun h2=>(iN b) (h1) (by assumption)) ?_
 refine aV (fun h3=>(iN b) (h2) (by assumption)) ?_
 exact aq (aw.refl _)
theorem p5 (G:bL) (x:Int) (hw:G.Ok):Pure Tryz.prog aW 267 [G.av,.int .i64 x] (.bool (bV G x)):=by
 refine ar (own:=bk) Tryz.func267 (by kernel_rfl) mixed (by kernel_rfl)
  (.sc ((x != 1)==true) 81 [.agg [Zi G.1,Zi G.2,Zi G.3],Zi x] (.bool (aQ G x)) (.out (.bool (x != 1&&aQ G x)) [] (.bool (bV G x)) []))
  (by kernel_rfl) ?_
 refine aV (fun h0=>(dJ G) (x) (by assumption)) ?_
 exact aq (aw.refl _)
theorem wA (b:aI) (h h1 h2:Int) (hw:b.gr.W):Pure Tryz.prog aW 192 [b.av,.agg [.int .i64 h,.int .i64 h1,.int .i64 h2]] (.bool (cZ b h h1 h2)):=by
 refine ar (own:=bk) Tryz.func192 (by kernel_rfl) mixed (by kernel_rfl)
  (let y0:List AV:=[Zi (aI.gr b).1,Zi (aI.gr b).2,Zi (aI.gr b).3];(.sc true 33 [.agg (aI.cells b)] (.bool (aR b)) (.sc (aR b==true) 267 [.agg y0,Zi h] (.bool (bV (aI.gr b) h)) (.sc ((aR b&&bV b.1 h)==true) 267 [.agg y0,Zi h1] (.bool (bV (aI.gr b) h1)) (.sc ((aR b&&bV b.1 h&&bV b.1 h1)==true) 267 [.agg y0,Zi h2] (.bool (bV (aI.gr b) h2)) (.out (.bool (aR b&&bV b.1 h&&bV b.1 h1&&bV b.1 h2)) [] (.bool (cZ b h h1 h2)) []))))))
  (by kernel_rfl) ?_
 refine aM ((fe b) (hw)) ?_
 refine aV (fun h1=>(p5 (aI.gr b)) (h) ((bE.1 (by simp at h1;simp [h1])).G)) ?_
 refine aV (fun h2=>(p5 (aI.gr b)) (h1) ((bE.1 (by simp at h2;simp [h2])).G)) ?_
 refine aV (fun h3=>(p5 (aI.gr b)) (h2) ((bE.1 (by simp at h3;simp [h3])).G)) ?_
 exact aq (aw.refl _)
theorem Az (v d:Int):Pure Tryz.prog aW 150 [.aG 2 1 fun _ k=>aO [.int .i64 v,.int .i64 d] k] (.bool (ie v d)):=by
 have hs:=(DO v d)
 refine ar (own:=bk) Tryz.func150 (by kernel_rfl) mixed (by kernel_rfl)
  (let z0:={ x:Nat // x≤1∧(fun x=>0<x→ie v d=true) x };let y0:=(fun (x:z0)=>aY [0,12,13,14,2,15] [.aG 2 1 fun x k=>aO [Zi v,Zi d] k,.bool false,.aG 2 1 fun x k=>aO [Zi v,Zi d] k,Zi 1,.bool false,Zi x.1] []);let y1:=(fun (x:z0)=>1 - x.1);let y2:AV:=(.bool (ie v d));(.ff (.loop (z0) y0 y1 (⟨0,⟨Nat.zero_le 1,fun (h:0<0)=>absurd h (Nat.lt_irrefl 0)⟩⟩) [0,12,13,14,2,15] [] [.aG 2 1 fun x k=>aO [Zi v,Zi d] k,.bool false,.aG 2 1 fun x k=>aO [Zi v,Zi d] k,Zi 1,.bool false,Zi 0] [] (fun x1=>(.br (decide ((x1.1:Int)<1)) (.bf (0≤(x1.1:Int)∧(x1.1:Int)<1) (.sc true 225 [.agg [Zi v,Zi d]] y2 (.br (!ie v d) (.out (.bool false) [] y2 []) (.bf ((decide ((x1.1:Int)>0)==true)=true→(0:Int)≤wrap .i64 ((x1.1:Int) - 1)∧wrap .i64 ((x1.1:Int) - 1)<1) (.bf ((decide ((x1.1:Int)>0)==true&&decide (v<v)==false)=true→(0:Int)≤wrap .i64 ((x1.1:Int) - 1)∧wrap .i64 ((x1.1:Int) - 1)<1) (.bf ((decide ((x1.1:Int)>0)==true&&decide (v<v)==false&&(v==v)==true)=true→(0:Int)≤wrap .i64 ((x1.1:Int) - 1)∧wrap .i64 ((x1.1:Int) - 1)<1) (.br (decide ((x1.1:Int)>0)&&(decide (v<v)||v==v&&decide (d≤d))) (.out (.bool false) [] y2 []) (.again (be 0 y0 y1 x1) [0,12,13,14,2,15] [] [.aG 2 1 fun x k=>aO [Zi v,Zi d] k,.bool false,.aG 2 1 fun x k=>aO [Zi v,Zi d] k,Zi 1,.bool false,Zi (wrap .i64 ((x1.1:Int)+1))] [])))))))) (.out (.bool true) [] y2 []))))))
  (by kernel_rfl) ?_
 refine b9 ?_
 refine aU (fun _ hs=>hs.le (⟨.refl _,.refl _,.refl _,.refl _,.refl _,.refl _,trivial⟩) (trivial)) (fun x1=>?_)
 try (have q1:=x1.2;dsimp only at q1)
 refine aL (fun h2=>?_) (fun h2=>?_)
 ·have g2:=af h2
  refine aD (by omega) ?_
  refine aM (hs) ?_
  refine aL (fun h5=>?_) (fun h5=>?_)
  ·have g5:=(aB aF) h5
   exact aq (by exact aw.of_eq (congrArg _ (by simp_all)))
  ·have g5:=(ay aC) h5
   refine aD (fun hr=>by have hr:=(cJ af) hr;omega) ?_
   refine aD (fun hr=>by have hr:=(ah (cJ af) (cY aa)) hr;omega) ?_
   refine aD (fun hr=>by have hr:=(ah (ah (cJ af) (cY aa)) (cJ ai)) hr;omega) ?_
   refine aL (fun h10=>?_) (fun h10=>?_)
   ·have g10:=(ah af (az af (ah ai af))) h10
    exact aq (by (exfalso;omega))
   ·have g10:=(aj aa (au aa (aj ao aa))) h10
    exact aN (⟨x1.1+1,by omega,fun _=>g5⟩) (fun _ hs=>hs.le (⟨.refl _,.refl _,.refl _,.refl _,.refl _,aJ (by omega),trivial⟩) (trivial)) (by dsimp only;omega)
 ·have g2:=aa h2
  exact aq (by exact aw.of_eq (congrArg _ (q1.2 (by omega)).symm))
theorem E9 (v d:Int):Pure Tryz.prog aW 150 [.aG 2 1 fun r k=>aO (List.getD [[.int .i64 v,.int .i64 d]] r []) k] (.bool (ie v d)) :=
 (Az v d).via ⟨aw.aG fun i j hi _=>by obtain rfl:i=0:=Nat.lt_one_iff.1 hi;rfl,trivial⟩
theorem xF (b:aI) (r:fR) (hw:b.gr.W):Pure Tryz.prog aW 99 [b.av,r.av] (.bool (dV b r)):=by
 have h1:=E9 r.value r.depth
 have h2:=o7 b r.h r.h1 r.h2 hw
 refine ar (own:=bk) Tryz.func99 (by kernel_rfl) mixed (by kernel_rfl)
  (let z0:=(r.4==0&&r.5==0||ie r.4 r.5);(.sc true 148 [Zi r.1,Zi r.2,Zi r.9,Zi r.10,Zi r.11] (.bool (mM r.1 r.2 r.9 r.10 r.11)) (.sc (mM r.1 r.2 r.9 r.10 r.11==true) 149 [Zi r.3,Zi 0,Zi 16] (.bool (iz r.3 (0:Int) (16:Int))) (.sc ((mM r.1 r.2 r.9 r.10 r.11&&iz r.3 (0:Int) (16:Int))==true&&(r.4==0&&r.5==0)==false) 150 [.aG 2 1 fun r_1 k=>aO (List.getD [[Zi r.4,Zi r.5]] (r_1+0) []) k] (.bool (ie (fR.value r) (fR.depth r))) (.sc ((mM r.1 r.2 r.9 r.10 r.11&&iz r.3 (0:Int) (16:Int)&&z0)==true) 151 [.agg (aI.cells b),.agg [Zi r.6,Zi r.7,Zi r.8]] (.bool (cZ b (fR.h r) (fR.h1 r) (fR.h2 r))) (.out (.bool (mM r.1 r.2 r.9 r.10 r.11&&iz r.3 (0:Int) (16:Int)&&z0&&cZ b r.6 r.7 r.8)) [] (.bool (dV b r)) []))))))
  (by kernel_rfl) ?_
 refine aM (zP (r.1) (r.2) (r.9) (r.10) (r.11)) ?_
 refine aV (fun h1=>pc (r.3) ((0:Int)) ((16:Int))) ?_
 refine aV (fun h2=>h1) ?_
 refine aV (fun h3=>h2) ?_
 exact aq (aw.of_eq (congrArg _ rec_1))
theorem th (b:aI) (r:fR) (hw:b.gr.W):Pure Tryz.prog aW 129 [b.av,r.av] (.bool (dV b r)):=by
 have h1:=Oy r.value r.depth
 have h2:=wA b r.h r.h1 r.h2 hw
 refine ar (own:=bk) Tryz.func129 (by kernel_rfl) mixed (by kernel_rfl)
  (.sc true 192 [.agg (aI.cells b),.agg [Zi r.6,Zi r.7,Zi r.8]] (.bool (cZ b (fR.h r) (fR.h1 r) (fR.h2 r))) (.sc (cZ b r.6 r.7 r.8==true) 193 [Zi r.1,Zi r.2,Zi r.9,Zi r.10,Zi r.11] (.bool (mM r.1 r.2 r.9 r.10 r.11)) (.sc ((cZ b r.6 r.7 r.8&&mM r.1 r.2 r.9 r.10 r.11)==true) 194 [Zi r.3,Zi 0,Zi 16] (.bool (iz r.3 (0:Int) (16:Int))) (.sc ((cZ b r.6 r.7 r.8&&mM r.1 r.2 r.9 r.10 r.11&&iz r.3 (0:Int) (16:Int))==true) 195 [.agg [Zi r.4,Zi r.5]] (.bool (ie (fR.value r) (fR.depth r))) (.out (.bool (cZ b r.6 r.7 r.8&&mM r.1 r.2 r.9 r.10 r.11&&iz r.3 (0:Int) (16:Int)&&ie r.4 r.5)) [] (.bool (dV b r)) [])))))
  (by kernel_rfl) ?_
 refine aM (h2) ?_
 refine aV (fun h1=>G8 (r.1) (r.2) (r.9) (r.10) (r.11)) ?_
 refine aV (fun h2=>DI (r.3) ((0:Int)) ((16:Int))) ?_
 refine aV (fun h3=>h1) ?_
 exact aq (aw.refl _)
theorem sR (n:Int):Pure Tryz.prog aW 341 [.int .i64 n] (It.int n).av:=by
 refine ar (own:=bk) Tryz.func341 (by kernel_rfl) mixed (by kernel_rfl)
  (.out (.agg [Zi 1,Zi n,.bc,.bc]) [] (It.av (It.int n)) [])
  (by kernel_rfl) ?_
 exact aq (aw.agg ⟨aw.refl _,aw.refl _,aw.bc,aw.bc,trivial⟩)
theorem mv (n:Int):Pure Tryz.prog aW 339 [.int .i64 n] (It.int n).av:=by
 refine ar (own:=bk) Tryz.func339 (by kernel_rfl) mixed (by kernel_rfl)
  (.out (.agg [Zi 1,Zi n,.bc,.bc]) [] (It.av (It.int n)) [])
  (by kernel_rfl) ?_
 exact aq (aw.agg ⟨aw.refl _,aw.refl _,aw.bc,aw.bc,trivial⟩)
theorem wC (b:aI):Pure Tryz.prog aW 338 [b.av] (.aG 1 6 fun i _=>.int .i64 (cS b 0 i)):=by
 refine ar (own:=bk) Tryz.func338 (by kernel_rfl) mixed (by kernel_rfl)
  (.out (.aG 1 6 fun r k=>aO (List.getD [[Zi (aI.gr b).1],[Zi (aI.gr b).2],[Zi (aI.gr b).3],[Zi b.2],[Zi b.3],[Zi b.4]] (r+0) []) k) [] (.aG 1 6 fun i x=>Zi (cS b (0:Int) i)) [])
  (by kernel_rfl) ?_
 exact aq (aw.aG fun i j hi hj=>by obtain rfl:j=0:=Nat.lt_one_iff.1 hj;match i,hi with|0,_|1,_|2,_|3,_|4,_|5,_=>rfl)
theorem CV (G:bL) (z sa sb r:Int) (hw:G.Ok):Pure Tryz.prog aW 315 [G.av,.agg [.int .i64 z,.int .i64 sa,.int .i64 sb,.int .i64 r]] (.bool (dS G z sa sb)):=by
 refine ar (own:=bk) Tryz.func315 (by kernel_rfl) mixed (by kernel_rfl)
  (let y0:List AV:=[Zi G.1,Zi G.2,Zi G.3];(.sc true 81 [.agg y0,Zi z] (.bool (aQ G z)) (.sc (aQ G z==true) 81 [.agg y0,Zi sa] (.bool (aQ G sa)) (.sc ((aQ G z&&aQ G sa)==true) 81 [.agg y0,Zi sb] (.bool (aQ G sb)) (.out (.bool (aQ G z&&aQ G sa&&aQ G sb)) [] (.bool (dS G z sa sb)) [])))))
  (by kernel_rfl) ?_
 refine aM ((dJ G) (z) (by assumption)) ?_
 refine aV (fun h1=>(dJ G) (sa) (by assumption)) ?_
 refine aV (fun h2=>(dJ G) (sb) (by assumption)) ?_
 exact aq (aw.refl _)
theorem yq (b:aI) (x:Int):Pure Tryz.prog aW 230 [b.av,.int .i64 x] (.bool (decide (x≥0)&&decide (x<b.gr.q))):=by
 refine ar (own:=bk) Tryz.func230 (by kernel_rfl) mixed (by kernel_rfl)
  (.out (.bool (decide (x≥0)&&decide (x<(aI.gr b).2))) [] (.bool (decide (x≥0)&&decide (x<bL.q (aI.gr b)))) [])
  (by kernel_rfl) ?_
 exact aq (aw.refl _)
theorem uw (G:bL) (x:Int):Pure Tryz.prog aW 199 [G.av,.int .i64 x] (.bool (decide (x≥0)&&decide (x<G.q))):=by
 refine ar (own:=bk) Tryz.func199 (by kernel_rfl) mixed (by kernel_rfl)
  (.out (.bool (decide (x≥0)&&decide (x<G.2))) [] (.bool (decide (x≥0)&&decide (x<bL.q G))) [])
  (by kernel_rfl) ?_
 exact aq (aw.refl _)
theorem lM (b:aI) (x e:Int) (h:b.gr.Ok) (hx:0≤x∧x<b.gr.p) (he:0≤e∧e<b.gr.q):Pure Tryz.prog aW 147 [b.av,.int .i64 x,.int .i64 e] (.int .i64 (x^e.toNat%b.gr.p)):=by
 have k1:=h.p1;have k2:=h.qp;have k3:=h.p3
 have k5:=nO (js (a:=x) (b:=x) (m:=b.gr.p) (by omega) (by omega) (by omega) (by omega) (by omega) (by omega)) (by omega:¬e<0)
 refine ar (own:=bk) Tryz.func147 (by kernel_rfl) mixed (by kernel_rfl)
  (let z0:=(lQ (gJ x e (aI.gr b).1) (x^toNat e%(aI.gr b).1));(.sc true 113 [Zi x,Zi e,Zi (aI.gr b).1] (.aT [Zi z0,Zi (gJ x e (aI.gr b).1)]) (.out (Zi z0) [] (Zi (x^toNat e%bL.p (aI.gr b))) [])))
  (by kernel_rfl) ?_
 refine aM (nG (x) (e) ((aI.gr b).1) (by omega)) ?_
 exact aq (aw.of_eq (by rw [k5];rfl))
theorem iy (G:bL) (x e:Int) (h:G.Ok) (hx:0≤x∧x<G.p) (he:0≤e∧e<G.q):Pure Tryz.prog aW 196 [G.av,.int .i64 x,.int .i64 e] (.int .i64 (x^e.toNat%G.p)):=by
 have k1:=h.p1;have k2:=h.qp;have k3:=h.p3
 refine ar (own:=bk) Tryz.func196 (by kernel_rfl) mixed (by kernel_rfl)
  (.sc true 126 [Zi x,Zi e,Zi G.1] (Zi (x^toNat e%G.1)) (.out (Zi (x^toNat e%G.1)) [] (Zi (x^toNat e%bL.p G)) []))
  (by kernel_rfl) ?_
 refine aM (j0 (x) (e) (G.1) (by omega) (by omega) (by omega) (by omega) (by assumption)) ?_
 exact aq (aw.refl _)
theorem LB (b:aI) (x y:Int) (h:b.gr.Ok) (hx:0≤x∧x<b.gr.p) (hy:0≤y∧y<b.gr.p):Pure Tryz.prog aW 290 [b.av,.int .i64 x,.int .i64 y] (.int .i64 (x*y%b.gr.p)):=by
 have k1:=h.p1;have k3:=h.p3
 have k2:=js (a:=x) (b:=y) (m:=b.gr.p) (by omega) (by omega) (by omega) (by omega) (by omega) (by omega)
 refine ar (own:=bk) Tryz.func290 (by kernel_rfl) mixed (by kernel_rfl)
  (let z0:=(lQ (cW x y (aI.gr b).1) (x*y%(aI.gr b).1));(.sc true 179 [Zi x,Zi y,Zi (aI.gr b).1] (.aT [Zi z0,Zi (cW x y (aI.gr b).1)]) (.out (Zi z0) [] (Zi (x*y%bL.p (aI.gr b))) [])))
  (by kernel_rfl) ?_
 refine aM (wh (x) (y) ((aI.gr b).1)) ?_
 exact aq (aw.of_eq (by rw [k2];rfl))
theorem oC (G:bL) (x y:Int) (h:G.Ok) (hx:0≤x∧x<G.p) (hy:0≤y∧y<G.p):Pure Tryz.prog aW 268 [G.av,.int .i64 x,.int .i64 y] (.int .i64 (x*y%G.p)):=by
 have k1:=h.p1;have k3:=h.p3
 refine ar (own:=bk) Tryz.func268 (by kernel_rfl) mixed (by kernel_rfl)
  (.sc true 187 [Zi x,Zi y,Zi G.1] (Zi (x*y%G.1)) (.out (Zi (x*y%G.1)) [] (Zi (x*y%bL.p G)) []))
  (by kernel_rfl) ?_
 refine aM (iK (x) (y) (G.1) (by omega) (by omega) (by omega) (by omega) (by assumption)) ?_
 exact aq (aw.refl _)
theorem oS (b:aI) (x e y:Int) (h:b.gr.Ok) (hx:0≤x∧x<b.gr.p) (he:0≤e∧e<b.gr.q) (hy:0≤y∧y<b.gr.p):Pure Tryz.prog aW 231 [b.av,.int .i64 x,.int .i64 e,.int .i64 y,.int .i64 1] (.int .i64 (x^e.toNat%b.gr.p*y%b.gr.p)):=by
 have k1:=h.p1;have k3:=h.p3;have kq:=h.q3
 have c1:=lM b x e h hx he
 have c2:=lM b y 1 h hy (by omega)
 have m1:0≤x^e.toNat%b.gr.p∧x^e.toNat%b.gr.p<b.gr.p:=⟨Int.emod_nonneg _ (by omega),Int.emod_lt_of_pos _ (by omega)⟩
 have y1:y^(1:Int).toNat%b.gr.p=y:=by rw [show (1:Int).toNat=1 from rfl,Int.pow_succ,Int.pow_zero,Int.one_mul,Int.emod_eq_of_lt hy.1 hy.2]
 rw [y1] at c2
 have c3:=LB b _ y h m1 hy
 refine ar (own:=bk) Tryz.func231 (by kernel_rfl) mixed (by kernel_rfl)
  (let y0:AV:=(Zi (x^toNat e%bL.p (aI.gr b)*y%bL.p (aI.gr b)));(.sc true 147 [.agg (aI.cells b),Zi x,Zi e] (Zi (x^toNat e%bL.p (aI.gr b))) (.sc true 147 [.agg (aI.cells b),Zi y,Zi 1] (Zi y) (.sc true 290 [.agg (aI.cells b),Zi (x^toNat e%(aI.gr b).1),Zi y] y0 (.out (Zi (x^toNat e%(aI.gr b).1*y%(aI.gr b).1)) [] y0 [])))))
  (by kernel_rfl) ?_
 refine aM (c1) ?_
 refine aM (c2) ?_
 refine aM (c3) ?_
 exact aq (aw.refl _)
theorem A9 (b:aI) (u0 u1 u2 u3:Int) (hw:b.gr.W):Pure Tryz.prog aW 229 [b.av,.aG 1 4 fun i _=>.int .i64 (EL u0 u1 u2 u3 i)] (.bool (aQ b.gr u0&&dS b.gr u1 u2 u3)):=by
 have e:allI (fun i=>aQ b.gr (EL u0 u1 u2 u3 i)) 4=(aQ b.gr u0&&dS b.gr u1 u2 u3):=NH
 rw [← e];clear e
 refine ar (own:=bk) Tryz.func229 (by kernel_rfl) mixed (by kernel_rfl)
  (let z0:={ x:Nat // x≤4∧(fun (i:Nat)=>∀ (j:Nat),j<i→aQ (aI.gr b) (EL u0 u1 u2 u3 j)=true) x };let y0:List (Option Ob):=[some ⟨6,1,true,.ba [aI.cells b]⟩];let y1:AV:=(.bool (allI (fun i=>aQ (aI.gr b) (EL u0 u1 u2 u3 i)) 4));(.loop (z0) (fun (x:z0)=>aY [2,7,8,9] [.own 0 6 0 0 6,.aG 1 4 fun i x=>Zi (EL u0 u1 u2 u3 i),Zi 4,Zi x.1] y0) (fun (x:z0)=>4 - x.1) (⟨0,⟨Nat.zero_le 4,fun (j:Nat) (hj:j<0)=>absurd hj (Nat.not_lt_zero j)⟩⟩) [2,7,8,9] [0] [.own 0 6 0 0 6,.aG 1 4 fun i x=>Zi (EL u0 u1 u2 u3 i),Zi 4,Zi 0] (y0) (fun x0=>let z1:=(EL u0 u1 u2 u3 (toNat (x0.1:Int)));(.br (decide ((x0.1:Int)<4)) (.bf (0≤(x0.1:Int)∧(x0.1:Int)<4) (.sc true 289 [.agg (aI.cells b),Zi z1] (.bool (aQ (aI.gr b) z1)) (.br (!aQ b.1 z1) (.out (.bool false) [] y1 []) (.again (be 0 (fun (x:z0)=>aY [2,7,8,9] [.own 0 6 0 0 6,.aG 1 4 fun i x=>Zi (EL u0 u1 u2 u3 i),Zi 4,Zi x.1] y0) (fun (x:z0)=>4 - x.1) x0) [2,7,8,9] [0] [.own 0 6 0 0 6,.aG 1 4 fun i x=>Zi (EL u0 u1 u2 u3 i),Zi 4,Zi (wrap .i64 ((x0.1:Int)+1))] (y0))))) (.out (.bool true) [] y1 [])))))
  (by kernel_rfl) ?_
 refine aU (fun _ hs=>hs.le (⟨.refl _,.refl _,.refl _,.refl _,trivial⟩) (⟨.refl _,trivial⟩)) (fun x0=>?_)
 try (have q0:=x0.2;dsimp only at q0)
 refine aL (fun h1=>?_) (fun h1=>?_)
 ·have g1:=af h1
  refine aD (by omega) ?_
  refine aM ((lW b) (EL u0 u1 u2 u3 (toNat (↑x0.1:Int))) (by assumption)) ?_
  refine aL (fun h4=>?_) (fun h4=>?_)
  ·have g4:=(aB aF) h4
   try simp only [Int.toNat_natCast] at g4
   exact aq (by exact aw.of_eq (congrArg _ (nQ (i:=x0.1) (by omega) g4).symm))
  ·have g4:=(ay aC) h4
   try simp only [Int.toNat_natCast] at g4
   exact aN (⟨x0.1+1,by omega,cF q0.2 g4⟩) (fun _ hs=>hs.le (⟨.refl _,.refl _,.refl _,aJ (by omega),trivial⟩) (⟨.refl _,trivial⟩)) (by dsimp only;omega)
 ·have g1:=aa h1
  exact aq (by exact aw.of_eq (congrArg _ (nv fun i hi=>q0.2 i (by omega)).symm))
theorem Ck (b:aI) (x0 x1 x2 x3:Int) (hw:b.gr.W):Pure Tryz.prog aW 229 [b.av,.aG 1 4 fun r k=>aO (List.getD [[.int .i64 x0],[.int .i64 x1],[.int .i64 x2],[.int .i64 x3]] r []) k] (.bool (aQ b.gr x0&&dS b.gr x1 x2 x3)) :=
 (A9 b x0 x1 x2 x3 hw).via ⟨aw.refl _,aw.aG fun i j hi hj=>by obtain rfl:j=0:=Nat.lt_one_iff.1 hj;match i,hi with|0,_|1,_|2,_|3,_=>rfl,trivial⟩
theorem v8 (L:List It) (n:Nat) (F:Nat→Nat→AV) (hn:n=L.length) (hF:∀ i k,i<n→k<4→aw [] (F i k) (aO (L.getD i (.int 0)).cells k)) (h:(nJ L).p4 8=true) (hl:(nJ L).enc.length≤16384) :
  Pure Tryz.prog aW 292 [.agg [.int .i64 3,.int .i64 0,.bc,.aG 4 n F]] (.aT [il .u8 (nJ L).enc,.int .i64 0]):=(ml (nJ L) h hl).via ⟨oI hn hF,trivial⟩
theorem HJ (L:List It) (n:Nat) (F:Nat→Nat→AV) (hn:n=L.length) (hF:∀ i k,i<n→k<4→aw [] (F i k) (aO (L.getD i (.int 0)).cells k)) (hl:(nJ L).enc.length≤16384) :
  Pure Tryz.prog aW 275 [.agg [.int .i64 3,.int .i64 0,.bc,.aG 4 n F]] (il .u8 (nJ L).enc):=(lP (nJ L) (by omega)).via ⟨oI hn hF,trivial⟩
theorem Pd (b:aI) (a:Int) (root:Nat→Int) (z sa sb r:Int) (hw:b.gr.W) (hr:cC root 32):Pure Tryz.prog aW 321 [b.av,.int .i64 a,.agg (bh root),.agg [.int .i64 z,.int .i64 sa,.int .i64 sb,.int .i64 r]] (tj b a root z sa sb):=by
 have hE:=Ck b a z sa sb hw
 have he:=fun n F hn hF=>v8 (uE b a root z sa sb) n F hn hF (Iu b a z sa sb root) (by rw [show (nJ (uE b a root z sa sb)).enc.length=132 from mi b a z sa sb root];decide)
 have ht:=gm "specie/coin".toUTF8 (by decide) (by decide) (fun k=>(oq b a root z sa sb).enc.getD k 0) (oq b a root z sa sb).enc.length (by rw [mi];decide) (It.gY (vd hr))
 have hn:=fun h1 h2=>py (jn "specie/coin".toUTF8 (oq b a root z sa sb)) b.gr.q h1 h2 (jd _ _ _)
 refine ar (own:=bk) Tryz.func321 (by kernel_rfl) mixed (by kernel_rfl)
  (let z6:=(It.enc (nJ (uE b a root z sa sb)));let z5:List AV:=[Zi z,Zi sa,Zi sb,Zi r];let z4:=(tj b a root z sa sb);let z3:=(String.toUTF8 "specie/coin");let z2:=(oq b a root z sa sb);let z0:=(fun (x:{ x:Nat // x≤7 })=>aY [4,6,7,10,49,50,51] [.own 0 6 0 0 6,.own 1 32 0 0 32,.own 2 4 0 0 4,.own 3 4 0 0 4,.aZ 4 1 0 7,Zi 7,Zi x.1] [some ⟨6,1,true,.ba [aI.cells b]⟩,some ⟨32,1,true,.ba [bh root]⟩,some ⟨4,1,true,.ba [z5]⟩,some ⟨4,1,true,.ba [[Zi 3,Zi 0,.bc,.aZ 5 4 0 (x.1)]]⟩,some ⟨1,7,true,.fn fun i x=>Zi (cS b a i)⟩,some ⟨4,x.1,true,bz.row fun i=>It.cells (It.int (cS b a i))⟩]);let y0:=(fun (x:{ x:Nat // x≤7 })=>7 - x.1);(.sc true 21 [.agg (aI.cells b)] (.bool (aR b)) (.br (!aR b) (.out (.aT [Zi 0,Zi 1]) [] z4 []) (.sc true 229 [.agg (aI.cells b),.aG 1 4 fun r k=>aO (List.getD [[Zi a],[Zi z],[Zi sa],[Zi sb]] (r+0) []) k] (.bool (aQ (aI.gr b) a&&dS (aI.gr b) z sa sb)) (.br (!(aQ b.1 a&&dS b.1 z sa sb)) (.out (.aT [Zi 0,Zi 2]) [] z4 []) (.loop ({ x:Nat // x≤7 }) z0 y0 (⟨0,Nat.zero_le 7⟩) [4,6,7,10,49,50,51] [0,8,16,176,320,1373] [.own 0 6 0 0 6,.own 1 32 0 0 32,.own 2 4 0 0 4,.own 3 4 0 0 4,.aZ 4 1 0 7,Zi 7,Zi 0] [some ⟨6,1,true,.ba [aI.cells b]⟩,some ⟨32,1,true,.ba [bh root]⟩,some ⟨4,1,true,.ba [z5]⟩,some ⟨4,1,true,.ba [[Zi 3,Zi 0,.bc,.bc]]⟩,some ⟨1,7,true,.ba [[Zi (bL.p (aI.gr b))],[Zi (bL.q (aI.gr b))],[Zi (bL.g (aI.gr b))],[Zi (aI.g1 b)],[Zi (aI.g2 b)],[Zi (aI.h b)],[Zi a]]⟩,some ⟨4,0,true,.ty (999999999:TypeId) (.ba [])⟩] (fun x6=>let z1:=(It.int (cS b a (toNat (x6.1:Int)+0)));(.br (decide ((x6.1:Int)<7)) (.bf (0≤(x6.1:Int)∧(x6.1:Int)<7) (.dc true 341 [Zi (cS b a (toNat (x6.1:Int)+0))] (It.av z1) (.bf ((x6.1+1)*64≤140737488355328) (.again (be 0 z0 y0 x6) [4,6,7,10,49,50,51] [0,1,2,3,4,78] [.own 0 6 0 0 6,.own 1 32 0 0 32,.own 2 4 0 0 4,.own 3 4 0 0 4,.aZ 4 1 0 7,Zi 7,Zi (wrap .i64 ((x6.1:Int)+1))] [some ⟨6,1,true,.ba [aI.cells b]⟩,some ⟨32,1,true,.ba [bh root]⟩,some ⟨4,1,true,.ba [z5]⟩,some ⟨4,1,true,.ba [[Zi 3,Zi 0,.bc,.aZ 5 4 0 (x6.1+1)]]⟩,some ⟨1,7,true,.fn fun i j=>Zi (cS b a i)⟩,some ⟨4,x6.1+1,true,bz.cat x6.1 (bz.row fun i=>[Zi (It.kind (It.int (cS b a i))),Zi (It.num (It.int (cS b a i))),.aG 1 0 fun i_1 x=>Zb (It.fb (It.int (cS b a i)) i_1),.aG 4 0 (It.row (It.int (cS b a i)))]) (.ba [[Zi (It.kind z1),Zi (It.num z1),.aG 1 0 fun i x=>Zb (It.fb z1 i),.aG 4 0 (It.row z1)]])⟩])))) (.dc true 341 [Zi z] (It.av (It.int z)) (.dc true 341 [Zi sa] (It.av (It.int sa)) (.dc true 341 [Zi sb] (It.av (It.int sb)) (.bf ((x6.1+4)*64≤140737488355328) (.dc true 292 [.agg [Zi 3,Zi 0,.bc,.aG 4 (x6.1+4) fun r k=>cG (Nat.blt (r+0) x6.1) (aO [Zi (It.kind (It.int (cS b a (r+0)))),Zi (It.num (It.int (cS b a (r+0)))),.aG 1 0 fun i x=>Zb (It.fb (It.int (cS b a (r+0))) i),.aG 4 0 (It.row (It.int (cS b a (r+0))))] k) (aO (List.getD [[Zi 2,Zi 0,.aG 1 32 fun r x=>Zb (aE (aO (bh root) (0+(0+r)))),.bc],[Zi (It.kind (It.int z)),Zi (It.num (It.int z)),.aG 1 0 fun i x=>Zb (It.fb (It.int z) i),.aG 4 0 (It.row (It.int z))],[Zi (It.kind (It.int sa)),Zi (It.num (It.int sa)),.aG 1 0 fun i x=>Zb (It.fb (It.int sa) i),.aG 4 0 (It.row (It.int sa))],[Zi (It.kind (It.int sb)),Zi (It.num (It.int sb)),.aG 1 0 fun i x=>Zb (It.fb (It.int sb) i),.aG 4 0 (It.row (It.int sb))]] (r+0 - x6.1) []) k)]] (.aT [il IntKind.u8 z6,Zi 0]) (.ff (.sc true 62 [AV.str { data := #[(115:UInt8),112,101,99,105,101,47,99,111,105,110] },.aG 1 132 fun i x=>Zb (List.getD z6 i (0:Int))] (.aT [.agg (bh (eX z3 (List.length (It.enc z2)) fun k=>List.getD (It.enc z2) k (0:Int))),Zi 0]) (.ff (.sc true 261 [.agg (bh (eX z3 132 fun k=>List.getD (It.enc z2) k (0:Int))),Zi (aI.gr b).2] (.aT [Zi (cB (jn z3 z2) (bL.q (aI.gr b)) 16),Zi 0]) (.out (.aT [Zi (cB (jn z3 z2) (aI.gr b).2 16),Zi 0]) [] z4 []))))))))))))))))))
  (by kernel_rfl) ?_
 refine aM ((ew b) (by assumption)) ?_
 refine aL (fun h1=>?_) (fun h1=>?_)
 ·have g1:=(aB aF) h1
  exact aq (by exact aw.of_eq (NT g1))
 ·have g1:=(ay aC) h1
  refine aM (hE) ?_
  refine aL (fun h4=>?_) (fun h4=>?_)
  ·have g4:=(aB (aj aF aF)) h4
   exact aq (by exact aw.of_eq (Pa g1 g4))
  ·have g4:=(ay (ah aC aC)) h4
   refine aU (fun _ hs=>hs.le (⟨.refl _,.refl _,.refl _,.refl _,.refl _,.refl _,.refl _,trivial⟩) (⟨.refl _,.refl _,.refl _,by exact aH.row (by repeat' (first|exact trivial|(first|exact aw.refl _|exact aJ (by omega)|exact aw.nil rfl|exact aw.of_eq (congrArg (AV.aZ _ _ _) (by first|omega|(dsimp only;omega)))|exact aw.of_eq (congrArg (AV.int _) (by first|omega|(dsimp only;omega))))|refine And.intro ?_ ?_)),HW,.zero,trivial⟩)) (fun x6=>?_)
   try (have q6:=x6.2;dsimp only at q6)
   refine aL (fun h7=>?_) (fun h7=>?_)
   ·have g7:=af h7
    refine aD (by omega) ?_
    refine bM (sR (cS b a (toNat (↑x6.1:Int)+0))) ?_
    refine aD (by omega) ?_
    exact aN (⟨x6.1+1,by omega⟩) (fun _ hs=>hs.le (⟨.refl _,.refl _,.refl _,.refl _,.refl _,.refl _,aJ (by omega),trivial⟩) (⟨.refl _,.refl _,.refl _,.refl _,.refl _,.cm rfl,trivial⟩)) (by dsimp only;omega)
   ·have g7:=aa h7
    refine bM (sR (z)) ?_
    refine bM (sR (sa)) ?_
    refine bM (sR (sb)) ?_
    refine aD (by omega) ?_
    refine bM (he (x6.1+4) (fun (r k:Nat)=>cG (Nat.blt (r+0) x6.1) (aO [Zi (It.kind (It.int (cS b a (r+0)))),Zi (It.num (It.int (cS b a (r+0)))),AV.aG (1) (0) fun (i x:Nat)=>Zb (It.fb (It.int (cS b a (r+0))) i),AV.aG (4) (0) (It.row (It.int (cS b a (r+0))))] k) (aO (List.getD [[Zi 2,Zi 0,AV.aG (1) (32) fun (r x:Nat)=>Zb (aE (aO (bh root) (0+(0+r)))),AV.bc],[Zi (It.kind (It.int z)),Zi (It.num (It.int z)),AV.aG (1) (0) fun (i x:Nat)=>Zb (It.fb (It.int z) i),AV.aG (4) (0) (It.row (It.int z))],[Zi (It.kind (It.int sa)),Zi (It.num (It.int sa)),AV.aG (1) (0) fun (i x:Nat)=>Zb (It.fb (It.int sa) i),AV.aG (4) (0) (It.row (It.int sa))],[Zi (It.kind (It.int sb)),Zi (It.num (It.int sb)),AV.aG (1) (0) fun (i x:Nat)=>Zb (It.fb (It.int sb) i),AV.aG (4) (0) (It.row (It.int sb))]] (r+0 - x6.1) []) k)) (by (show _=11;omega)) (by exact fun i k hi _=>Gp (by omega) hi)) ?_
    refine b9 ?_
    refine aM (ht) ?_
    refine b9 ?_
    refine aM (hn (by exact (fO g1).1) (by exact (fO g1).2)) ?_
    exact aq (by exact aw.of_eq (Nq g1 g4))
theorem E2 (tag s:ByteArray) (h:Nat→Int) (bN:Int) (hs:s.size≤24) (E:List Int) (T:Nat→Int)
  (c1:∀ F,(∀ i k,i<2→k<4→aw [] (F i k) (aO ((ow h s []).getD i (.int 0)).cells k))→Pure Tryz.prog aW 292 [.agg [.int .i64 3,.int .i64 0,.bc,.aG 4 2 F]] (.aT [il .u8 E,.int .i64 0]))
  (c2:Pure Tryz.prog aW 62 [.str tag,il .u8 E] (.aT [.agg (bh T),.int .i64 0])) :
  Pure Tryz.prog aW 260 [.str tag,.agg (bh h++[.int .i64 bN]),.str s,.bc] (.aT [.agg (bh T),.int .i64 0]):=by
 refine ar (own:=bk) Tryz.func260 (by kernel_rfl) mixed (by kernel_rfl)
  (let y0:AV:=(.aT [.agg (bh T),Zi 0]);(.bf (128≤140737488355328) (.dc true 292 [.agg [Zi 3,Zi 0,.bc,.aG 4 2 fun r k=>aO (List.getD [[Zi 2,Zi 0,.aG 1 32 fun r x=>Zb (aE (aO (bh h++[Zi bN]) (0+(0+r)))),.bc],[Zi 2,Zi 0,.aG 1 (ByteArray.size s) fun i x=>Zb (↑(UInt8.toNat (List.getD (Array.toList (ByteArray.data s)) i (0:UInt8))):Int),.bc]] (r+0) []) k]] (.aT [il IntKind.u8 E,Zi 0]) (.ff (.sc true 62 [AV.str tag,.aG 1 (List.length E) fun i x=>Zb (List.getD E i (0:Int))] y0 (.out y0 [] y0 []))))))
  (by kernel_rfl) ?_
 refine aD (by omega) ?_
 refine bM (c1 (fun (r k:Nat)=>aO (List.getD [[Zi 2,Zi 0,AV.aG (1) (32) fun (r x:Nat)=>Zb (aE (aO (bh h++[Zi bN]) (0+(0+r)))),AV.bc],[Zi 2,Zi 0,AV.aG (1) (ByteArray.size s) fun (i x:Nat)=>Zb (↑(UInt8.toNat (List.getD (Array.toList (ByteArray.data s)) i (0:UInt8))):Int),AV.bc]] (r+0) []) k) (fun i k hi _=>D0 hi)) ?_
 refine b9 ?_
 refine aM (c2) ?_
 exact aq (aw.of_eq rfl)
theorem DM (tag s:ByteArray) (h:Nat→Int) (bN:Int) (hs:s.size≤24) (x:It) (a b:Int) (n m:Nat) (f:Nat→Int) (g:Nat→Nat→AV) (hx:∀ k,k<4→aw [] (aO [.int .i64 a,.int .i64 b,dn n f,.aG 4 m g] k) (aO x.cells k)) (E:List Int) (T:Nat→Int)
  (c1:∀ F,(∀ i k,i<3→k<4→aw [] (F i k) (aO ((ow h s [x]).getD i (.int 0)).cells k))→Pure Tryz.prog aW 292 [.agg [.int .i64 3,.int .i64 0,.bc,.aG 4 3 F]] (.aT [il .u8 E,.int .i64 0]))
  (c2:Pure Tryz.prog aW 62 [.str tag,il .u8 E] (.aT [.agg (bh T),.int .i64 0])) :
  Pure Tryz.prog aW 260 [.str tag,.agg (bh h++[.int .i64 bN]),.str s,.aG 4 1 fun _ k=>aO [.int .i64 a,.int .i64 b,dn n f,.aG 4 m g] k] (.aT [.agg (bh T),.int .i64 0]):=by
 refine ar (own:=bk) Tryz.func260 (by kernel_rfl) mixed (by kernel_rfl)
  (let y0:AV:=(.aT [.agg (bh T),Zi 0]);(.bf (192≤140737488355328) (.dc true 292 [.agg [Zi 3,Zi 0,.bc,.aG 4 3 fun r k=>cG (Nat.blt (r+0) 2) (aO (List.getD [[Zi 2,Zi 0,.aG 1 32 fun r x=>Zb (aE (aO (bh h++[Zi bN]) (0+(0+r)))),.bc],[Zi 2,Zi 0,.aG 1 (ByteArray.size s) fun i x=>Zb (↑(UInt8.toNat (List.getD (Array.toList (ByteArray.data s)) i (0:UInt8))):Int),.bc]] (r+0) []) k) (aO [Zi a,Zi b,.aG 1 n fun i x=>Zb (f i),.aG 4 m g] k)]] (.aT [il IntKind.u8 E,Zi 0]) (.ff (.sc true 62 [AV.str tag,.aG 1 (List.length E) fun i x=>Zb (List.getD E i (0:Int))] y0 (.out y0 [] y0 []))))))
  (by kernel_rfl) ?_
 refine aD (by omega) ?_
 refine bM (c1 (fun (r k:Nat)=>cG (Nat.blt (r+0) (2)) (aO (List.getD [[Zi 2,Zi 0,AV.aG (1) (32) fun (r x:Nat)=>Zb (aE (aO (bh h++[Zi bN]) (0+(0+r)))),AV.bc],[Zi 2,Zi 0,AV.aG (1) (ByteArray.size s) fun (i x:Nat)=>Zb (↑(UInt8.toNat (List.getD (Array.toList (ByteArray.data s)) i (0:UInt8))):Int),AV.bc]] (r+0) []) k) (aO [Zi a,Zi b,AV.aG (1) n fun (i x:Nat)=>Zb (f i),AV.aG (4) m g] k)) (fun i k hi hk=>C5 hx hi hk)) ?_
 refine b9 ?_
 refine aM (c2) ?_
 exact aq (aw.of_eq rfl)
theorem EF (tag s:ByteArray) (h1:1≤tag.size) (h2:tag.size≤100) (h:Nat→Int) (bN:Int) (hs:s.size≤24) (hb:cC h 32):Pure Tryz.prog aW 260 [.str tag,.agg (bh h++[.int .i64 bN]),.str s,.bc] (.aT [.agg (bh (jn tag (fl h s []))),.int .i64 0]) :=
 E2 tag s h bN hs (fl h s []).enc _ (fun F hF=>v8 (ow h s []) 2 F rfl hF (H8 h s) (by have:=mF h s;unfold fl at this;omega))
  (gm tag h2 h1 (fun k=>(fl h s []).enc.getD k 0) (fl h s []).enc.length (by rw [mF];omega) (It.gY (vL hb)))
structure BX (x : It) : Prop where
  ok : x.p4 7 = true
  len : x.enc.length ≤ 10000
  by' : x.okB
theorem Bz (tag s:ByteArray) (h1:1≤tag.size) (h2:tag.size≤100) (h:Nat→Int) (bN:Int) (hs:s.size≤24) (hb:cC h 32) (x:It) (a b:Int) (n m:Nat) (f:Nat→Int) (g:Nat→Nat→AV) (hx:∀ k,k<4→aw [] (aO [.int .i64 a,.int .i64 b,dn n f,.aG 4 m g] k) (aO x.cells k)) (H:BX x) :
  Pure Tryz.prog aW 260 [.str tag,.agg (bh h++[.int .i64 bN]),.str s,.aG 4 1 fun r k=>aO (List.getD [[.int .i64 a,.int .i64 b,dn n f,.aG 4 m g]] r []) k] (.aT [.agg (bh (jn tag (fl h s [x]))),.int .i64 0]) :=
 (DM tag s h bN hs x a b n m f g hx (fl h s [x]).enc _ (fun F hF=>v8 (ow h s [x]) 3 F rfl hF (zn h s H.ok) (by have:=kx h s x;have:=H.len;unfold fl at *;omega))
  (gm tag h2 h1 (fun k=>(fl h s [x]).enc.getD k 0) (fl h s [x]).enc.length (by rw [kx];have:=H.len;omega) (It.gY (vC hb H.by')))).via
  ⟨aw.refl _,aw.refl _,aw.refl _,aw.aG fun i k hi _=>by obtain rfl:i=0:=Nat.lt_one_iff.1 hi;rfl,trivial⟩
theorem B7 (h:Nat→Int) (bN:Int):Pure Tryz.prog aW 259 [.agg (bh h++[.int .i64 bN])] (.bool (decide (bN≥0)&&decide (bN≤1000))):=by
 refine ar (own:=bk) Tryz.func259 (by kernel_rfl) mixed (by kernel_rfl)
  (let y0:AV:=(.bool (decide (bN≥0)&&decide (bN≤1000)));(.out y0 [] y0 []))
  (by kernel_rfl) ?_
 exact aq (aw.of_eq rfl)
theorem BC (s:ByteArray) (h:Nat→Int) (bN:Int) (hc:0≤bN∧bN<1000) (hl:eS s=true) (a b:Int) (n m:Nat) (f:Nat→Int) (g:Nat→Nat→AV) (T:Nat→Int)
  (c3:Pure Tryz.prog aW 260 [.str "specie/absorb".toUTF8,.agg (bh h++[.int .i64 bN]),.str s,.aG 4 1 fun r k=>aO (List.getD [[.int .i64 a,.int .i64 b,dn n f,.aG 4 m g]] r []) k] (.aT [.agg (bh T),.int .i64 0])) :
  Pure Tryz.prog aW 257 [.agg (bh h++[.int .i64 bN]),.str s,.agg [.int .i64 a,.int .i64 b,dn n f,.aG 4 m g]] (.aT [.agg (bh T++[.int .i64 (bN+1)]),.int .i64 0]):=by
 have v1:=(gE hl).hi
 have c1:=wU s (by omega)
 rw [hl] at c1
 have c2:=B7 h bN
 refine ar (own:=bk) Tryz.func257 (by kernel_rfl) mixed (by kernel_rfl)
  (let z0:=(decide (bN≥0)&&decide (bN≤1000));let y0:List AV:=[Zb 0,Zb 0,Zb 0,Zb 0,Zb 0,Zb 0,Zb 0,Zb 0,Zb 0,Zb 0,Zb 0,Zb 0,Zb 0,Zb 0,Zb 0,Zb 0,Zb 0,Zb 0,Zb 0,Zb 0,Zb 0,Zb 0,Zb 0,Zb 0,Zb 0,Zb 0,Zb 0,Zb 0,Zb 0,Zb 0,Zb 0,Zb 0,Zi 0];let y1:AV:=(.aT [.agg (bh T++[Zi (bN+1)]),Zi 0]);(.sc true 259 [.agg (bh h++[Zi bN])] (.bool z0) (.sc ((!z0)==false) 256 [AV.str s] (.bool true) (.br (!z0||false) (.out (.aT [.agg y0,Zi 1]) [] y1 []) (.sc true 260 [AV.str { data := #[(115:UInt8),112,101,99,105,101,47,97,98,115,111,114,98] },.agg (bh h++[Zi bN]),AV.str s,.aG 4 1 fun r k=>aO (List.getD [[Zi a,Zi b,.aG 1 n fun i x=>Zb (f i),.aG 4 m g]] (r+0) []) k] (.aT [.agg (bh T),Zi 0]) (.ff (.br (bN==1000) (.out (.aT [.agg y0,Zi 5]) [] y1 []) (.out (.aT [.agg (bh T++[Zi (wrap .i64 (bN+1))]),Zi 0]) [] y1 []))))))))
  (by kernel_rfl) ?_
 refine aM (c2) ?_
 refine aV (fun h1=>c1) ?_
 refine aL (fun h2=>?_) (fun h2=>?_)
 ·have g2:=(az (aB (aj aa aa)) aC) h2
  exact aq ((by exfalso;rcases g2 with g2|g2;(· omega);(· cases g2)))
 ·have g2:=(au (ay (ah af af)) aF) h2
  refine aM (c3) ?_
  refine b9 ?_
  refine aL (fun h6=>?_) (fun h6=>?_)
  ·exact aq (aw.of_eq (by simp_all))
  ·exact aq (aw.of_eq (by rw [wI (by omega) (by omega)]))
theorem xW (l:List Int) (h:l.length≤100):BX (bu l):=⟨by simp [bu,It.p4];omega,by rw [zJ];omega,fun _ _=>trivial⟩
theorem u7 (s:ByteArray) (h:Nat→Int) (bN:Int) (hc:0≤bN∧bN<1000) (hl:eS s=true) (hb:cC h 32) (x:It) (H:BX x) (a b:Int) (n m:Nat) (f:Nat→Int) (g:Nat→Nat→AV) (hx:∀ k,k<4→aw [] (aO [.int .i64 a,.int .i64 b,dn n f,.aG 4 m g] k) (aO x.cells k)) :
  Pure Tryz.prog aW 257 [.agg (bh h++[.int .i64 bN]),.str s,.agg [.int .i64 a,.int .i64 b,dn n f,.aG 4 m g]] (.aT [.agg (bh (jG h s x)++[.int .i64 (bN+1)]),.int .i64 0]) :=
 BC s h bN hc hl a b n m f g _ (Bz "specie/absorb".toUTF8 s (by decide) (by decide) h bN (gE hl).hi hb x a b n m f g hx H)
theorem rN (s:ByteArray) (h:Nat→Int) (bN:Int) (hc:0≤bN∧bN<1000) (hl:eS s=true) (hb:cC h 32) (l:List Int) (hn:l.length≤100) :
  Pure Tryz.prog aW 183 [.agg (bh h++[.int .i64 bN]),.str s,il .i64 l] (.aT [.agg (bh (jG h s (bu l))++[.int .i64 (bN+1)]),.int .i64 0]):=by
 have c1:=tB l (by omega)
 have c2:=u7 s h bN hc hl hb (bu l) (xW l hn) (bu l).kind (bu l).num (bu l).nb (bu l).nl (bu l).fb (bu l).row (fun k hk=>aw.refl _)
 refine ar (own:=bk) Tryz.func183 (by kernel_rfl) mixed (by kernel_rfl)
  (let y0:AV:=(.aT [.agg (bh (jG h s (bu l))++[Zi (bN+1)]),Zi 0]);(.dc true 258 [.aG 1 (List.length l) fun i x=>Zi (List.getD l i (0:Int))] (It.av (bu l)) (.sc true 257 [.agg (bh h++[Zi bN]),AV.str s,.agg [Zi (It.kind (bu l)),Zi (It.num (bu l)),.aG 1 0 fun i x=>Zb (It.fb (bu l) i),.aG 4 (It.nl (bu l)) (It.row (bu l))]] y0 (.out y0 [] y0 []))))
  (by kernel_rfl) ?_
 refine bM (c1) ?_
 refine aM (c2) ?_
 exact aq (aw.refl _)
theorem C6 (c:Int):BX (.int c):=⟨rfl,by rw [ir];decide,trivial⟩
theorem EO (s:ByteArray) (h:Nat→Int) (bN:Int) (hc:0≤bN∧bN<1000) (hl:eS s=true) (hb:cC h 32) (c:Int) :
  Pure Tryz.prog aW 257 [.agg (bh h++[.int .i64 bN]),.str s,.agg [.int .i64 1,.int .i64 c,.bc,.bc]] (.aT [.agg (bh (jG h s (.int c))++[.int .i64 (bN+1)]),.int .i64 0]) :=
 (u7 s h bN hc hl hb (.int c) (C6 c) 1 c 0 0 (It.int c).fb (It.int c).row (fun k hk=>aw.refl _)).via ⟨aw.refl _,aw.refl _,aw.agg ⟨aw.refl _,aw.refl _,aw.bc,aw.bc,trivial⟩,trivial⟩
theorem Gd (s:ByteArray) (h:Nat→Int) (bN:Int) (hc:0≤bN∧bN<1000) (hl:eS s=true) (q:Int) (hq:2≤q∧q<2305843009213693952) (T:Nat→Int) (hT:cC T 32) (N:Nat→Int) (c3:Pure Tryz.prog aW 260 [.str "specie/challenge".toUTF8,.agg (bh h++[.int .i64 bN]),.str s,.bc] (.aT [.agg (bh T),.int .i64 0]))
  (c5:Pure Tryz.prog aW 257 [.agg (bh h++[.int .i64 bN]),.str s,.agg [.int .i64 1,.int .i64 (cB T q 16),.bc,.bc]] (.aT [.agg (bh N++[.int .i64 (bN+1)]),.int .i64 0])) :
  Pure Tryz.prog aW 184 [.agg (bh h++[.int .i64 bN]),.str s,.int .i64 q] (.aT [.agg (bh N++[.int .i64 (bN+1)]),.int .i64 (cB T q 16),.int .i64 0]):=by
 have v1:=(gE hl).hi
 have c1:=wU s (by omega)
 rw [hl] at c1
 have c2:=B7 h bN
 have c4:=py T q (by omega) hq.2 hT
 refine ar (own:=bk) Tryz.func184 (by kernel_rfl) mixed (by kernel_rfl)
  (let z1:=(bh h++[Zi bN]);let z0:=(decide (bN≥0)&&decide (bN≤1000));let y0:List AV:=[Zb 0,Zb 0,Zb 0,Zb 0,Zb 0,Zb 0,Zb 0,Zb 0,Zb 0,Zb 0,Zb 0,Zb 0,Zb 0,Zb 0,Zb 0,Zb 0,Zb 0,Zb 0,Zb 0,Zb 0,Zb 0,Zb 0,Zb 0,Zb 0,Zb 0,Zb 0,Zb 0,Zb 0,Zb 0,Zb 0,Zb 0,Zb 0,Zi 0];let y1:AV:=(.aT [.agg (bh N++[Zi (bN+1)]),Zi (cB T q 16),Zi 0]);(.sc true 259 [.agg z1] (.bool z0) (.sc ((!z0)==false) 256 [AV.str s] (.bool true) (.br (!z0||false) (.out (.aT [.agg y0,Zi 0,Zi 1]) [] y1 []) (.br (decide (q<2)||decide (q≥2305843009213693952)) (.out (.aT [.agg y0,Zi 0,Zi 2]) [] y1 []) (.br (bN==1000) (.out (.aT [.agg y0,Zi 0,Zi 5]) [] y1 []) (.sc true 260 [AV.str { data := #[(115:UInt8),112,101,99,105,101,47,99,104,97,108,108,101,110,103,101] },.agg z1,AV.str s,.bc] (.aT [.agg (bh T),Zi 0]) (.ff (.sc true 261 [.agg (bh T),Zi q] (.aT [Zi (cB T q 16),Zi 0]) (.ff (.sc true 257 [.agg z1,AV.str s,.agg [Zi 1,Zi (cB T q 16),.bc,.bc]] (.aT [.agg (bh N++[Zi (bN+1)]),Zi 0]) (.ff (.out y1 [] y1 [])))))))))))))
  (by kernel_rfl) ?_
 refine aM (c2) ?_
 refine aV (fun h1=>c1) ?_
 refine aL (fun h2=>?_) (fun h2=>?_)
 ·have g2:=(az (aB (aj aa aa)) aC) h2
  exact aq ((by exfalso;rcases g2 with g2|g2;(· omega);(· cases g2)))
 ·have g2:=(au (ay (ah af af)) aF) h2
  refine aL (fun h4=>?_) (fun h4=>?_)
  ·have g4:=(az af af) h4
   exact aq ((by exfalso;omega))
  ·have g4:=(au aa aa) h4
   refine aL (fun h6=>?_) (fun h6=>?_)
   ·have g6:=ai h6
    exact aq (aw.of_eq (by simp_all))
   ·have g6:=ao h6
    refine aM (c3) ?_
    refine b9 ?_
    refine aM (c4) ?_
    refine b9 ?_
    refine aM (c5) ?_
    refine b9 ?_
    exact aq (aw.of_eq rfl)
theorem F2 (s:ByteArray) (h:Nat→Int) (bN:Int) (hc:0≤bN∧bN<1000) (hl:eS s=true) (hb:cC h 32) (q:Int) (hq:2≤q∧q<2305843009213693952) :
  Pure Tryz.prog aW 184 [.agg (bh h++[.int .i64 bN]),.str s,.int .i64 q] (.aT [.agg (bh (jG h s (.int (v3 h s q)))++[.int .i64 (bN+1)]),.int .i64 (v3 h s q),.int .i64 0]) :=
 Gd s h bN hc hl q hq _ (jd _ _ _) _ (EF "specie/challenge".toUTF8 s (by decide) (by decide) h bN (gE hl).hi hb) (EO s h bN hc hl hb (v3 h s q))
theorem Ab (s:ByteArray) (h:Nat→Int) (bN:Int) (hs:s.size≤24):Pure Tryz.prog aW 288 [.agg (bh h++[.int .i64 bN]),.str s,.bc] (fl h s []).av:=by
 refine ar (own:=bk) Tryz.func288 (by kernel_rfl) mixed (by kernel_rfl)
  (.bf (32≤140737488355328) (.bf (128≤140737488355328) (.out (.agg [Zi 3,Zi 0,.bc,.aG 4 2 fun r k=>aO (List.getD [[Zi 2,Zi 0,.aG 1 32 fun r k=>Zb (aE (aO (bh h++[Zi bN]) (0+(0+(r+0))))),.bc],[Zi 2,Zi 0,.aG 1 (ByteArray.size s) fun i x=>Zb (↑(UInt8.toNat (List.getD (Array.toList (ByteArray.data s)) i (0:UInt8))):Int),.bc]] (r+0) []) k]) [] (It.av (fl h s [])) [])))
  (by kernel_rfl) ?_
 refine aD (by omega) ?_
 refine aD (by omega) ?_
 exact aq (oI (L:=ow h s []) rfl (fun i k hi _=>D0 hi))
theorem zM (s:ByteArray) (h:Nat→Int) (bN:Int) (hs:s.size≤24) (x:It) (a b:Int) (n m:Nat) (f:Nat→Int) (g:Nat→Nat→AV) (hx:∀ k,k<4→aw [] (aO [.int .i64 a,.int .i64 b,dn n f,.aG 4 m g] k) (aO x.cells k)):Pure Tryz.prog aW 288 [.agg (bh h++[.int .i64 bN]),.str s,.aG 4 1 fun _ k=>aO [.int .i64 a,.int .i64 b,dn n f,.aG 4 m g] k] (fl h s [x]).av:=by
 refine ar (own:=bk) Tryz.func288 (by kernel_rfl) mixed (by kernel_rfl)
  (.bf (32≤140737488355328) (.bf (192≤140737488355328) (.out (.agg [Zi 3,Zi 0,.bc,.aG 4 3 fun r k=>cG (Nat.blt (r+0) 2) (aO (List.getD [[Zi 2,Zi 0,.aG 1 32 fun r k=>Zb (aE (aO (bh h++[Zi bN]) (0+(0+(r+0))))),.bc],[Zi 2,Zi 0,.aG 1 (ByteArray.size s) fun i x=>Zb (↑(UInt8.toNat (List.getD (Array.toList (ByteArray.data s)) i (0:UInt8))):Int),.bc]] (r+0) []) k) (aO [Zi a,Zi b,.aG 1 n fun i x=>Zb (f i),.aG 4 m g] k)]) [] (It.av (fl h s [x])) [])))
  (by kernel_rfl) ?_
 refine aD (by omega) ?_
 refine aD (by omega) ?_
 exact aq (oI (L:=ow h s [x]) rfl (fun i k hi hk=>C5 hx hi hk))
theorem Cc {n:Nat} {c:Nat→It} {d:Int} (h:(It.li n c).p4 d=true):0<d∧n≤1000∧∀ i,i<n→(c i).p4 (d - 1)=true:=It.K2 h
theorem xE (n w:Int):Pure Tryz.prog aW 340 [.agg [.int .i64 1,.int .i64 n,dn 0 (fun _=>0),.aG 4 0 (fun _ _=>.bw)],.int .i64 w] (.bool true):=by
 refine ar (own:=bk) Tryz.func340 (by kernel_rfl) mixed (by kernel_rfl)
  (.tt (.out (.bool true) [] (.bool true) []))
  (by kernel_rfl) ?_
 refine eT ?_
 exact aq (aw.of_eq rfl)
theorem xh (n:Nat) (f:Nat→Int) (w:Int):Pure Tryz.prog aW 340 [.agg [.int .i64 2,.int .i64 0,dn n f,.aG 4 0 (fun _ _=>.bw)],.int .i64 w] (.bool true):=by
 refine ar (own:=bk) Tryz.func340 (by kernel_rfl) mixed (by kernel_rfl)
  (.ff (.tt (.out (.bool true) [] (.bool true) [])))
  (by kernel_rfl) ?_
 refine b9 ?_
 refine eT ?_
 exact aq (aw.of_eq rfl)
theorem Aw (n:Nat) (c:Nat→It) (w:Int) (hw:0≤w∧w<8) (hn:n≤1000) (hc:∀ i,i<n→Pure Tryz.prog aW 340 [(c i).av,.int .i64 (w+1)] (.bool true)) :
  Pure Tryz.prog aW 340 [.agg [.int .i64 3,.int .i64 0,dn 0 (fun _=>0),It.sl n c],.int .i64 w] (.bool true):=by
 have e:IntKind.wrap .i64 (w+1)=w+1:=wI (by omega) (by omega)
 rw [← e] at hc
 refine ar (own:=bk) Tryz.func340 (by kernel_rfl) mixed (by kernel_rfl)
  (let y0:List (Option Ob):=[some ⟨4,1,true,.ba [[Zi 3,Zi 0,.aG 1 0 fun i x=>Zb 0,.aG 4 n fun i j=>aO (It.cells (c i)) j]]⟩];let y1:=(fun (x:{ x:Nat // x≤n })=>aY [1,2,5] [Zi w,.own 0 4 0 0 4,Zi x.1] y0);let y2:=(fun (x:{ x:Nat // x≤n })=>n - x.1);(.ff (.ff (.tt (.br (decide ((n:Int)>1000)||w==8) (.out (.bool false) [] (.bool true) []) (.loop ({ x:Nat // x≤n }) y1 y2 (⟨0,Nat.zero_le n⟩) [1,2,5] [0] [Zi w,.own 0 4 0 0 4,Zi 0] (y0) (fun x5=>let z0:=(c (toNat (x5.1:Int)));(.br (decide ((x5.1:Int)<(n:Int))) (.bf (0≤(x5.1:Int)∧(x5.1:Int)<(n:Int)) (.sc true 340 [.agg [Zi (It.kind z0),Zi (It.num z0),.aG 1 (It.nb z0) fun i x=>Zb (It.fb z0 i),.aG 4 (It.nl z0) (It.row z0)],Zi (wrap .i64 (w+1))] (.bool true) (.ff (.again (be 0 y1 y2 x5) [1,2,5] [0] [Zi w,.own 0 4 0 0 4,Zi (wrap .i64 ((x5.1:Int)+1))] (y0))))) (.out (.bool true) [] (.bool true) [])))))))))
  (by kernel_rfl) ?_
 refine b9 ?_
 refine b9 ?_
 refine eT ?_
 refine aL (fun h3=>?_) (fun h3=>?_)
 ·have g3:=(az af ai) h3
  exact aq ((by exfalso;omega))
 ·have g3:=(au aa ao) h3
  refine aU (fun _ hs=>hs.le (⟨.refl _,.refl _,.refl _,trivial⟩) (⟨.refl _,trivial⟩)) (fun x5=>?_)
  try (have q5:=x5.2;dsimp only at q5)
  refine aL (fun h6=>?_) (fun h6=>?_)
  ·have g6:=af h6
   refine aD (by omega) ?_
   refine aM (hc (toNat (↑x5.1:Int)) (by omega)) ?_
   refine b9 ?_
   exact aN (⟨x5.1+1,by omega⟩) (fun _ hs=>hs.le (⟨.refl _,.refl _,aJ (by omega),trivial⟩) (⟨.refl _,trivial⟩)) (by dsimp only;omega)
  ·have g6:=aa h6
   exact aq (aw.of_eq rfl)
theorem ph:∀ (x:It) (d:Int),0≤d∧d≤8→x.p4 d=true→Pure Tryz.prog aW 340 [x.av,.int .i64 (8 - d)] (.bool true)
 | .int n,d,_,_=>xE n (8 - d)
 | .eQ n f,d,_,_=>xh n f (8 - d)
 | .li n c,d,hd,h=>by
  obtain ⟨h1,h2,h3⟩:=Cc h
  refine Aw n c (8 - d) (by omega) h2 (fun i hi=>?_)
  have:=ph (c i) (d - 1) (by omega) (h3 i hi)
  rw [show 8 - (d - 1)=8 - d+1 by omega] at this
  exact this
theorem DB (x:It) (h:x.p4 8=true):Pure Tryz.prog aW 320 [x.av] (.bool true):=by
 have c1:=ph x 8 (by decide) h
 refine ar (own:=bk) Tryz.func320 (by kernel_rfl) mixed (by kernel_rfl)
  (.sc true 340 [.agg [Zi (It.kind x),Zi (It.num x),.aG 1 (It.nb x) fun i x_1=>Zb (It.fb x i),.aG 4 (It.nl x) (It.row x)],Zi 0] (.bool true) (.out (.bool true) [] (.bool true) []))
  (by kernel_rfl) ?_
 refine aM (c1) ?_
 exact aq (aw.of_eq rfl)
end Go.Proofs.YtgnfjlekpgjehaaGreatDoor
