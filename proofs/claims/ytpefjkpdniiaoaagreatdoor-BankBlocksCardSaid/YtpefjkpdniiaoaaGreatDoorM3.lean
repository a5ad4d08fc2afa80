/- Part of the proof: Ari, Ari2, Tabs, Prime, Zab, CS1, CS2, CS3, CS4, CS5, Grp, CS6, ObL, SpPay, Sha, CS7, CS8. -/
import Derived.Test.YtpefjkpdniiaoaaGreatDoorM2
import Derived.Test.YtpefjkpdniiaoaaGreatDoorM1
import Derived.Test.YtpefjkpdniiaoaaGreatDoorProg
namespace Go.Sp
open Go.IntKind (wrap)
open Int (toNat)
open Go Go.Am
theorem i9 (n:Int):IntKind.wrap .u64 n=n%18446744073709551616:=by rfl
theorem Ll (n:Int):IntKind.wrap .u32 n=n%4294967296:=by rfl
theorem wD (n:Int):IntKind.wrap .u8 n=n%256:=by rfl
theorem dy {n:Int} (h:0≤n) (h':n<18446744073709551616):IntKind.wrap .u64 n=n:=by grind [i9]
theorem FW {n:Int} (h:0≤n) (h':n<4294967296):IntKind.wrap .u32 n=n:=by grind [Ll]
theorem Gn {n:Int} (h:0≤n) (h':n<256):IntKind.wrap .u8 n=n:=by grind [wD]
theorem Lv {w n m:Nat} (hn:n<2^w) (hm:m<2^w):(BitVec.ofInt w (n:Int) &&& BitVec.ofInt w (m:Int)).toNat=n &&& m:=by grind
theorem orN {w n m:Nat} (hn:n<2^w) (hm:m<2^w):(BitVec.ofInt w (n:Int) ||| BitVec.ofInt w (m:Int)).toNat=n ||| m:=by grind
theorem qh {x:Int} (h:0≤x) (h':x<18446744073709551616):IntKind.wrap .u64 ((BitVec.ofInt 64 x &&& BitVec.ofInt 64 4294967295).toNat:Nat)=x%4294967296:=by
 obtain ⟨n,rfl⟩:=Int.eq_ofNat_of_zero_le h
 have e:(BitVec.ofInt 64 (n:Int) &&& BitVec.ofInt 64 4294967295).toNat=n%2^32:=by
  have:=Lv (w:=64) (n:=n) (m:=4294967295) (by omega) (by decide)
  rw [show (4294967295:Int)=((4294967295:Nat):Int) from rfl,this,← Nat.and_two_pow_sub_one_eq_mod]
 grind [dy]
theorem du {x:Int} {k:Nat}:Int.fdiv x (2^k)=x / 2^k:=Int.fdiv_eq_ediv_of_nonneg _ (Int.le_of_lt (Int.pow_pos (by decide)))
theorem Og {x:Int} (h:0≤x) (h':x<18446744073709551616):IntKind.wrap .u64 ((BitVec.ofInt 64 x &&& BitVec.ofInt 64 1).toNat:Nat)=x%2:=by
 obtain ⟨n,rfl⟩:=Int.eq_ofNat_of_zero_le h
 have e:(BitVec.ofInt 64 (n:Int) &&& BitVec.ofInt 64 1).toNat=n%2^1:=by simp
 grind [dy]
theorem Lf {x:Int} (h:0≤x) (h':x<9223372036854775808):IntKind.wrap .i64 ((BitVec.ofInt 64 x &&& BitVec.ofInt 64 1).toNat:Nat)=x%2:=by
 obtain ⟨n,rfl⟩:=Int.eq_ofNat_of_zero_le h
 have e:(BitVec.ofInt 64 (n:Int) &&& BitVec.ofInt 64 1).toNat=n%2^1:=by simp
 grind [wI]
theorem bY {a b:Int} (h:0≤a):Int.tmod a b=a%b:=Int.tmod_eq_emod_of_nonneg h
theorem mA {a b:Int} (h:0≤a):Int.tdiv a b=a / b:=Int.tdiv_eq_ediv_of_nonneg h
theorem lx {a b:Int} (ha:0≤a) (hb:0≤b) (ha':a<4294967296) (hb':b<4294967296):0≤a*b∧a*b≤18446744065119617025:=by
 refine ⟨Int.mul_nonneg ha hb,?_⟩
 have:=Int.mul_le_mul (show a≤4294967295 by omega) (show b≤4294967295 by omega) hb (by omega)
 omega
theorem F3 {x y:Int} (hx:0≤x) (hx':x<18446744073709551616) (hy:0≤y) (hy':y<18446744073709551616) :
  x / 4294967296*(y / 4294967296)+(x / 4294967296*(y%4294967296)+x%4294967296*(y%4294967296) / 4294967296) / 4294967296 +
   ((x / 4294967296*(y%4294967296)+x%4294967296*(y%4294967296) / 4294967296)%4294967296+x%4294967296*(y / 4294967296)) / 4294967296=x*y / 18446744073709551616:=by
 have e:x*y=x / 4294967296*(y / 4294967296)*18446744073709551616+(x / 4294967296*(y%4294967296)+x%4294967296*(y / 4294967296))*4294967296+x%4294967296*(y%4294967296):=by grind
 omega
theorem JN (x:Int):Int.fdiv x (2^32)=x / 4294967296:=du
def dM (x:Int):Int:=if x≤0 then 0 else Nat.log2 x.toNat+1
theorem zf {x:Int} {n:Nat} (h1:2^n≤x) (h2:x<2^(n+1)):dM x=n+1:=by
 have hp:(0:Int)<2^n:=Int.pow_pos (by decide)
 obtain ⟨m,rfl⟩:=Int.eq_ofNat_of_zero_le (a:=x) (by omega)
 unfold dM
 rw [if_neg (by omega)]
 have hm:m≠0:=by omega
 have:Nat.log2 m=n:=by
  rw [Nat.log2_eq_iff hm]
  grind
 grind
theorem oV {x:Int} (h:0<x):∃ n:Nat,dM x=n+1∧2^n≤x∧x<2^(n+1):=by
 obtain ⟨m,rfl⟩:=Int.eq_ofNat_of_zero_le (a:=x) (by omega)
 have hm:m≠0:=by omega
 refine ⟨Nat.log2 m,?_,?_,?_⟩
 ·simp_all [dM]
 ·grind [Nat.log2_self_le]
 ·exact_mod_cast Nat.lt_log2_self
theorem eC {x:Int} (k:Nat) (h:2^k≤x):dM x=k+dM (x / 2^k):=by
 have hp:(0:Int)<2^k:=Int.pow_pos (by decide)
 have h0:0<x / 2^k:=(by have:=(Int.le_ediv_iff_mul_le (a:=1) (b:=x) hp).2 (by omega);omega)
 obtain ⟨n,h1,h2,h3⟩:=oV h0
 rw [h1,zf (n:=n+k)]
 ·omega
 ·simp_all [Int.pow_add,Int.le_ediv_iff_mul_le]
 ·rw [show n+k+1=(n+1)+k by omega,Int.pow_add]
  simp_all [Int.ediv_lt_iff_lt_mul]
def MT:List UInt8:=[0,1,2,2,3,3,3,3,4,4,4,4,4,4,4,4,5,5,5,5,5,5,5,5,5,5,5,5,5,5,5,5,6,6,6,6,6,6,6,6,6,6,6,6,6,6,6,6,6,6,6,6,6,6,6,6,6,6,6,6,6,6,6,6,7,7,7,7,7,7,7,7,7,7,7,7,7,7,7,7,7,7,7,7,7,7,7,7,7,7,7,7,7,7,7,7,7,7,7,7,7,7,7,7,7,7,7,7,7,7,7,7,7,7,7,7,7,7,7,7,7,7,7,7,7,7,7,7,8,8,8,8,8,8,8,8,8,8,8,8,8,8,8,8,8,8,8,8,8,8,8,8,8,8,8,8,8,8,8,8,8,8,8,8,8,8,8,8,8,8,8,8,8,8,8,8,8,8,8,8,8,8,8,8,8,8,8,8,8,8,8,8,8,8,8,8,8,8,8,8,8,8,8,8,8,8,8,8,8,8,8,8,8,8,8,8,8,8,8,8,8,8,8,8,8,8,8,8,8,8,8,8,8,8,8,8,8,8,8,8,8,8,8,8,8,8,8,8,8,8,8,8,8,8,8,8]
set_option maxRecDepth 100000 in
theorem GX:∀ n:Fin 256,(((List.getD MT n.val default).toNat:Nat):Int)=dM (n.val:Int):=by decide +kernel
theorem jf {c X:Int} (h:0≤X) (h':X<256) (hc:0≤c) (hc':c≤64):IntKind.wrap .i64 (c+IntKind.wrap .i64 (((List.getD MT (toNat (IntKind.wrap .u8 X)) default).toNat:Nat):Int))=c+dM X:=by
 rw [Gn h h']
 have e:=GX ⟨X.toNat,by omega⟩
 simp only at e
 rw [e,Int.toNat_of_nonneg h]
 have:0≤dM X∧dM X≤8:=by
  by_cases h0:0<X
  ·obtain ⟨n,h1,h2,h3⟩:=oV h0
   rw [h1]
   have:n<8:=by
    have h4:(2:Int)^n<2^8:=by omega
    have h5:(2:Nat)^n<2^8:=by grind
    exact (Nat.pow_lt_pow_iff_right (by decide)).1 h5
   omega
  ·have:X=0:=by omega
   subst this
   exact ⟨by decide,by decide⟩
 grind [wI,dM]
theorem ij (x:Int):Int.fdiv x (2^32)=x / 2^32:=du
theorem ie (x:Int):Int.fdiv x (2^16)=x / 2^16:=du
theorem lF (x:Int):Int.fdiv x (2^8)=x / 2^8:=du
section
structure ke (y1 y0 un d q r : Int) : Prop where
  e : q * y1 + r = un
  le : (un * 4294967296 + d) / (y1 * 4294967296 + y0) ≤ q
  hi : q ≤ 4294967297
  r0 : 0 ≤ r
structure my (y1 y0 un d : Int) : Prop where
  a : 2147483648 ≤ y1
  b : y1 < 4294967296
  c : 0 ≤ y0
  c' : y0 < 4294967296
  u : 0 ≤ un
  u' : un < y1 * 4294967296 + y0
  d0 : 0 ≤ d
  d1 : d < 4294967296
variable {y1 y0 un d q r : Int}
theorem my.pos (h:my y1 y0 un d):0<y1*4294967296+y0:=by have:=h.a;have:=h.c;omega
theorem my.Q0 (h:my y1 y0 un d):0≤(un*4294967296+d) / (y1*4294967296+y0):=by
 have:=h.u;have:=h.d0
 exact Int.ediv_nonneg (by omega) (Int.le_of_lt h.pos)
theorem my.Q1 (h:my y1 y0 un d):(un*4294967296+d) / (y1*4294967296+y0)<4294967296:=by
 have h1:=h.u';have h2:=h.d1
 refine (Int.ediv_lt_iff_lt_mul h.pos).2 ?_
 omega
theorem my.init (h:my y1 y0 un d):ke y1 y0 un d (un / y1) (un - un / y1*y1)∧un - un / y1*y1<4294967296:=by
 have hp:0<y1:=by have:=h.a;omega
 have hb:=h.b
 have e1:=Int.emod_add_mul_ediv un y1
 have e2:=Int.emod_nonneg un (show y1≠0 by omega)
 have e3:=Int.emod_lt_of_pos un hp
 have e4:un / y1*y1=y1*(un / y1):=Int.mul_comm _ _
 have hu:=h.u;have hu':=h.u';have hc:=h.c';have ha:=h.a;have hd:=h.d1;have hc0:=h.c
 have q0:0≤un / y1:=Int.ediv_nonneg hu (by omega)
 refine ⟨⟨by omega,?_,?_,by omega⟩,by omega⟩
 ·refine Int.lt_add_one_iff.1 ((Int.ediv_lt_iff_lt_mul h.pos).2 ?_)
  have k1:(un / y1+1)*(y1*4294967296+y0)=y1*(un / y1)*4294967296+y1*4294967296+(un / y1+1)*y0:=by grind
  have k2:0≤(un / y1+1)*y0:=Int.mul_nonneg (by omega) hc0
  omega
 ·refine Int.lt_add_one_iff.1 ((Int.ediv_lt_iff_lt_mul hp).2 ?_)
  omega
theorem ke.stop (h:my y1 y0 un d) (k:ke y1 y0 un d q r) (h2:q*y0≤4294967296*r+d):q=(un*4294967296+d) / (y1*4294967296+y0):=by
 have k1:=k.e
 have k2:=k.le
 have:q≤(un*4294967296+d) / (y1*4294967296+y0):=by
  refine (Int.le_ediv_iff_mul_le h.pos).2 ?_
  grind
 omega
theorem ke.more (h:my y1 y0 un d) (k:ke y1 y0 un d q r) (h2:4294967296≤q∨4294967296*r+d<q*y0):(un*4294967296+d) / (y1*4294967296+y0)≤q - 1∧1≤q:=by
 have q0:=h.Q0
 rcases h2 with h2|h2
 ·have:=h.Q1;omega
 ·have k1:=k.e
  have:(un*4294967296+d) / (y1*4294967296+y0)<q:=by
   refine (Int.ediv_lt_iff_lt_mul h.pos).2 ?_
   grind
  omega
theorem ke.next (h:my y1 y0 un d) (k:ke y1 y0 un d q r) (h2:4294967296≤q∨4294967296*r+d<q*y0):ke y1 y0 un d (q - 1) (r+y1):=by
 have k1:=k.e;have k2:=k.hi;have k3:=k.r0;have:=h.a
 refine ⟨?_,(k.more h h2).1,by omega,by omega⟩
 grind
theorem ke.brk (h:my y1 y0 un d) (k:ke y1 y0 un d q r) (hr:4294967296≤r) (hq:q≤4294967296):q=(un*4294967296+d) / (y1*4294967296+y0):=by
 refine k.stop h ?_
 have hd:=h.d0;have hc:=h.c';have hc0:=h.c
 have q0:0≤q:=Int.le_trans h.Q0 k.le
 have:=Int.mul_le_mul hq (show y0≤4294967295 by omega) hc0 (by omega)
 omega
theorem my.rem (h:my y1 y0 un d) (hq:q=(un*4294967296+d) / (y1*4294967296+y0)):(((un*4294967296)%18446744073709551616+d)%18446744073709551616 - (q*(y1*4294967296+y0))%18446744073709551616)%18446744073709551616=(un*4294967296+d)%(y1*4294967296+y0):=by
 have e1:=Int.emod_add_mul_ediv (un*4294967296+d) (y1*4294967296+y0)
 have e2:=Int.emod_nonneg (un*4294967296+d) (show y1*4294967296+y0≠0 by have:=h.pos;omega)
 have e3:=Int.emod_lt_of_pos (un*4294967296+d) h.pos
 rw [← hq] at e1
 have e4:(y1*4294967296+y0)*q=q*(y1*4294967296+y0):=Int.mul_comm _ _
 have hb:=h.b;have hc:=h.c'
 omega
end
def gz (y:Int):Nat:=(64 - dM y).toNat
theorem ui {y:Int} (h:0<y) (h':y<18446744073709551616):gz y<64∧dM y=64 - gz y∧9223372036854775808≤y*2^gz y∧y*2^gz y<18446744073709551616:=by
 obtain ⟨n,h1,h2,h3⟩:=oV h
 have hn:n<64:=by
  have h4:(2:Int)^n=((2^n:Nat):Int):=by rfl
  exact (Nat.pow_lt_pow_iff_right (a:=2) (m:=64) (by decide)).1 (by omega)
 have hs:gz y=63 - n:=by grind [gz]
 rw [hs,h1]
 have e:(2:Int)^n*2^(63 - n)=9223372036854775808:=by rw [← Int.pow_add,show n+(63 - n)=63 by omega];rfl
 have e2:(2:Int)^(n+1)*2^(63 - n)=18446744073709551616:=by grind
 have hp:(0:Int)<2^(63 - n):=Int.pow_pos (by decide)
 refine ⟨by omega,by omega,?_,?_⟩
 ·rw [← e];exact Int.mul_le_mul_of_nonneg_right h2 (Int.le_of_lt hp)
 ·rw [← e2];exact Int.mul_lt_mul_of_pos_right h3 hp
theorem vp {y:Int} (h:0≤y) (h':y<18446744073709551616):0≤dM y∧dM y≤64:=by
 by_cases h0:0<y
 ·have:=ui h0 h'
  omega
 ·have:y=0:=by omega
  subst this
  exact ⟨by decide,by decide⟩
theorem Jz {a b:Int} {s:Nat} (ha:0≤a) (hb:0≤b) (hb':b<2^s) (hs:a*2^s+b<18446744073709551616):IntKind.wrap .u64 ((BitVec.ofInt 64 (a*2^s) ||| BitVec.ofInt 64 b).toNat:Nat)=a*2^s+b:=by
 obtain ⟨n,rfl⟩:=Int.eq_ofNat_of_zero_le ha
 obtain ⟨m,rfl⟩:=Int.eq_ofNat_of_zero_le hb
 have hm:m<2^s:=by grind
 have e:((n:Int)*2^s)=((n*2^s:Nat):Int):=by rfl
 rw [e] at hs
 have hlt:n*2^s+m<2^64:=by omega
 rw [e,orN (by omega) (by omega),← Nat.shiftLeft_eq,← Nat.shiftLeft_add_eq_or_of_lt hm,Nat.shiftLeft_eq,dy (by omega) (by omega)]
 rfl
section
structure Div (x y z : Int) : Prop where
  x0 : 0 ≤ x
  xz : x < z
  z1 : z < 18446744073709551616
  y0 : 0 ≤ y
  y1 : y < 18446744073709551616
def dY (z:Int):Int:=z*2^gz z
def dU (x y z:Int):Int:=(x*18446744073709551616+y)*2^gz z
def l9 (x y z:Int):Int:=dU x y z / 18446744073709551616
def eX (x y z:Int):Int:=dU x y z%18446744073709551616
def dN (x y z:Int):Int:=l9 x y z*4294967296+eX x y z / 4294967296
def dQ (x y z:Int):Int:=dN x y z / dY z
def dR (x y z:Int):Int:=dN x y z%dY z
variable {x y z : Int}
theorem Div.sh (h:Div x y z):gz z<64∧dM z=64 - gz z∧9223372036854775808≤dY z∧dY z<18446744073709551616:=ui (by have:=h.x0;have:=h.xz;omega) h.z1
theorem Div.u1 (h:Div x y z):l9 x y z=x*2^gz z+y / 2^(64 - gz z):=by
 have hs:=h.sh
 have e:(18446744073709551616:Int)=2^(64 - gz z)*2^gz z:=by rw [← Int.pow_add,show 64 - gz z+gz z=64 by omega];rfl
 have e2:dU x y z=y*2^gz z+x*2^gz z*18446744073709551616:=by grind [dU]
 unfold l9
 rw [e2,Int.add_mul_ediv_right _ _ (by decide)]
 grind [gz,Int.mul_ediv_mul_of_pos_left,Int.pow_pos]
theorem Div.u0 (_:Div x y z):eX x y z=y*2^gz z%18446744073709551616:=by grind [dU,gz,eX]
theorem kz (z:Int):dY z / 4294967296*4294967296+dY z%4294967296=dY z:=by omega
theorem Div.ult (h:Div x y z):0≤l9 x y z∧l9 x y z<dY z:=by
 have hp:(0:Int)<2^gz z:=Int.pow_pos (by decide)
 have h0:0≤dU x y z:=Int.mul_nonneg (by have:=h.x0;have:=h.y0;omega) (Int.le_of_lt hp)
 refine ⟨Int.ediv_nonneg h0 (by decide),(Int.ediv_lt_iff_lt_mul (by decide)).2 ?_⟩
 have:dU x y z<(z*18446744073709551616)*2^gz z:=Int.mul_lt_mul_of_pos_right (by have:=h.xz;have:=h.y1;omega) hp
 grind [dY,gz]
theorem Div.BS (h:Div x y z):my (dY z / 4294967296) (dY z%4294967296) (l9 x y z) (eX x y z / 4294967296):=by
 have hs:=h.sh
 have hu:=h.ult
 have h0:0≤eX x y z∧eX x y z<18446744073709551616:=by grind [eX]
 exact ⟨by omega,by omega,by omega,by omega,hu.1,by omega,by omega,by omega⟩
theorem Div.zL (h:Div x y z):my (dY z / 4294967296) (dY z%4294967296) (dR x y z) (eX x y z%4294967296):=by
 have hs:=h.sh
 have hp:0<dY z:=by omega
 have r0:0≤dR x y z:=Int.emod_nonneg _ (by omega)
 have r1:dR x y z<dY z:=Int.emod_lt_of_pos _ hp
 exact ⟨by omega,by omega,by omega,by omega,r0,by omega,by omega,by omega⟩
theorem Div.fin (h:Div x y z):dQ x y z*4294967296+(dR x y z*4294967296+eX x y z%4294967296) / dY z=(x*18446744073709551616+y) / z ∧
  (dR x y z*4294967296+eX x y z%4294967296)%dY z / 2^gz z=(x*18446744073709551616+y)%z:=by
 have hs:=h.sh
 have hp:0<dY z:=by omega
 have h2:(0:Int)<2^gz z:=Int.pow_pos (by decide)
 have e1:dY z*dQ x y z+dR x y z=dN x y z:=Int.mul_ediv_add_emod _ _
 have e2:=Int.mul_ediv_add_emod (dR x y z*4294967296+eX x y z%4294967296) (dY z)
 have r0:=Int.emod_nonneg (dR x y z*4294967296+eX x y z%4294967296) (show dY z≠0 by omega)
 have r1:=Int.emod_lt_of_pos (dR x y z*4294967296+eX x y z%4294967296) hp
 have e3:dU x y z=l9 x y z*18446744073709551616+eX x y z:=by grind [l9,eX]
 generalize (dR x y z*4294967296+eX x y z%4294967296)%dY z=r at *
 generalize (dR x y z*4294967296+eX x y z%4294967296) / dY z=q at *
 have e4:dU x y z=r+dY z*(dQ x y z*4294967296+q):=by grind [dY,dQ,dN]
 have u:=(Int.ediv_emod_unique hp).2 ⟨e4.symm,r0,r1⟩
 grind [dU,dY,Int.mul_ediv_mul_of_pos_left,gz,Int.mul_comm,Int.mul_emod_mul_of_pos,Int.mul_ediv_cancel]
theorem Div.s (h:Div x y z):IntKind.wrap .u64 (64 - dM z)=gz z:=by have:=h.sh;grind [dy]
theorem Div.sm (h:Div x y z):min (toNat (IntKind.wrap .u64 (64 - dM z))) 64=gz z:=by have:=h.sh;rw [h.s];omega
theorem Div.v2 (h:Div x y z):IntKind.wrap .u64 (z*2^min (toNat (IntKind.wrap .u64 (64 - dM z))) 64)=dY z:=by
 have:=h.sh
 grind [dy,dY]
theorem Div.v10 (h:Div x y z):IntKind.wrap .u64 (y*2^min (toNat (IntKind.wrap .u64 (64 - dM z))) 64)=eX x y z:=by
 rw [h.sm,i9,h.u0]
theorem Div.v11 (h:Div x y z):IntKind.wrap .u64 ((BitVec.ofInt 64 (IntKind.wrap .u64 (x*2^min (toNat (IntKind.wrap .u64 (64 - dM z))) 64)) ||| BitVec.ofInt 64 (Int.fdiv y (2^min (toNat (IntKind.wrap .u64 (64 - IntKind.wrap .u64 (64 - dM z)))) 64))).toNat:Nat)=l9 x y z:=by
 have hs:=h.sh
 have hu:=h.ult
 have h2:(0:Int)<2^gz z:=Int.pow_pos (by decide)
 have hx:0≤x*2^gz z:=Int.mul_nonneg h.x0 (Int.le_of_lt h2)
 have e:min (toNat (IntKind.wrap .u64 (64 - IntKind.wrap .u64 (64 - dM z)))) 64=64 - gz z:=by grind [dy]
 rw [h.sm,e,du,h.u1]
 have hy:0≤y / 2^(64 - gz z):=Int.ediv_nonneg h.y0 (Int.le_of_lt (Int.pow_pos (by decide)))
 have hy':y / 2^(64 - gz z)<2^gz z:=by
  refine (Int.ediv_lt_iff_lt_mul (Int.pow_pos (by decide))).2 ?_
  rw [← Int.pow_add,show gz z+(64 - gz z)=64 by omega]
  exact h.y1
 have hlt:x*2^gz z+y / 2^(64 - gz z)<18446744073709551616:=by rw [← h.u1];omega
 rw [dy hx (by omega)]
 exact Jz h.x0 hy hy' hlt
theorem ke.nC {y1 y0 un d q r:Int} (h:my y1 y0 un d) (k:ke y1 y0 un d q r) (hr:r<4294967296) (g:q≥4294967296∨IntKind.wrap .u64 (q*y0)>IntKind.wrap .u64 (IntKind.wrap .u64 (4294967296*r)+d)):4294967296≤q∨4294967296*r+d<q*y0:=by
 by_cases hq:4294967296≤q
 ·omega
 ·right
  have q0:0≤q:=Int.le_trans h.Q0 k.le
  have hc:=h.c;have hc':=h.c';have:=k.r0;have:=h.d0;have:=h.d1
  grind [lx,dy]
theorem ke.kR {y1 y0 un d q r:Int} (h:my y1 y0 un d) (k:ke y1 y0 un d q r) (hr:r<4294967296) (g:¬q≥4294967296∧¬IntKind.wrap .u64 (q*y0)>IntKind.wrap .u64 (IntKind.wrap .u64 (4294967296*r)+d)):q*y0≤4294967296*r+d:=by
 have q0:0≤q:=Int.le_trans h.Q0 k.le
 have hc:=h.c;have hc':=h.c';have:=k.r0;have:=h.d0;grind [lx,dy]
theorem ke.Mw {y1 y0 un d q r:Int} (h:my y1 y0 un d) (k:ke y1 y0 un d q r):0≤q∧q≤4294967297:=⟨Int.le_trans h.Q0 k.le,k.hi⟩
theorem Div.Au (h:Div x y z) {q:Int} (hq:q=dQ x y z):IntKind.wrap .u64 (IntKind.wrap .u64 (IntKind.wrap .u64 (l9 x y z*4294967296)+eX x y z / 4294967296) - IntKind.wrap .u64 (q*dY z))=dR x y z:=by
 have e:=h.BS.rem (q:=q) (by rw [kz];exact hq)
 rw [kz] at e
 rw [i9,i9,i9,i9]
 exact e
theorem Div.Oj (h:Div x y z) {q:Int} (hq:q=(dR x y z*4294967296+eX x y z%4294967296) / dY z):IntKind.wrap .u64 (IntKind.wrap .u64 (IntKind.wrap .u64 (dR x y z*4294967296)+eX x y z%4294967296) - IntKind.wrap .u64 (q*dY z))=(dR x y z*4294967296+eX x y z%4294967296)%dY z:=by
 have e:=h.zL.rem (q:=q) (by grind)
 grind [kz,i9]
end
section
variable {y1 y0 un d q r : Int}
theorem my.q_w (h:my y1 y0 un d):IntKind.wrap .u64 (Int.tdiv un y1)=un / y1:=by
 have k:=h.init.1.Mw h
 rw [mA h.u,dy (by omega) (by omega)]
theorem my.r_w (h:my y1 y0 un d):IntKind.wrap .u64 (un - IntKind.wrap .u64 (IntKind.wrap .u64 (Int.tdiv un y1)*y1))=un - un / y1*y1:=by
 have k:=h.init.1.Mw h
 have k0:=h.init.1.r0
 have k1:=h.init.2
 have k2:=h.a
 have k3:0≤un / y1*y1:=Int.mul_nonneg (by omega) (by omega)
 have k4:=h.u';have k5:=h.b;have k6:=h.c';grind [dy]
end
section
variable {x y z y1 y0 un d q r : Int}
theorem ke.oa (h:my y1 y0 un d) (k:ke y1 y0 un d q r) (hr:r<4294967296) (g:q≥4294967296∨IntKind.wrap .u64 (q*y0)>IntKind.wrap .u64 (IntKind.wrap .u64 (4294967296*r)+d)):IntKind.wrap .u64 (q - 1)=q - 1∧IntKind.wrap .u64 (r+y1)=r+y1:=by
 have m:=k.more h (k.nC h hr g)
 have:=k.hi;have:=k.r0;have:=h.a;have:=h.b
 grind [dy]
theorem ke.uD (h:my y1 y0 un d) (k:ke y1 y0 un d q r) (hr:r<4294967296) (g:q≥4294967296∨IntKind.wrap .u64 (q*y0)>IntKind.wrap .u64 (IntKind.wrap .u64 (4294967296*r)+d)) (g2:IntKind.wrap .u64 (r+y1)≥4294967296):IntKind.wrap .u64 (q - 1)=(un*4294967296+d) / (y1*4294967296+y0):=by
 have w:=k.oa h hr g
 rw [w.2] at g2
 rw [w.1]
 exact (k.next h (k.nC h hr g)).brk h g2 (by have:=k.hi;omega)
theorem ke.A7 (h:my y1 y0 un d) (k:ke y1 y0 un d q r) (hr:r<4294967296) (g:q≥4294967296∨IntKind.wrap .u64 (q*y0)>IntKind.wrap .u64 (IntKind.wrap .u64 (4294967296*r)+d)) (g2:¬IntKind.wrap .u64 (r+y1)≥4294967296):ke y1 y0 un d (q - 1) (r+y1)∧r+y1<4294967296:=by
 have w:=k.oa h hr g
 rw [w.2] at g2
 exact ⟨k.next h (k.nC h hr g),by omega⟩
theorem Div.mc (z:Int):(l9 x y z*4294967296+eX x y z / 4294967296) / (dY z / 4294967296*4294967296+dY z%4294967296)=dQ x y z:=by rw [kz];rfl
theorem Div.out (h:Div x y z) (hq:q=(dR x y z*4294967296+eX x y z%4294967296) / (dY z / 4294967296*4294967296+dY z%4294967296)):IntKind.wrap .u64 (IntKind.wrap .u64 (dQ x y z*4294967296)+q)=(x*18446744073709551616+y) / z ∧
  Int.fdiv (IntKind.wrap .u64 (IntKind.wrap .u64 (IntKind.wrap .u64 (dR x y z*4294967296)+eX x y z%4294967296) - IntKind.wrap .u64 (q*dY z))) (2^min (toNat ((gz z:Nat):Int)) 64)=(x*18446744073709551616+y)%z:=by
 have e:=h.fin
 have a1:=h.BS.Q0;have a2:=h.BS.Q1
 rw [Div.mc] at a1 a2
 have b1:=h.zL.Q0;have b2:=h.zL.Q1
 rw [← hq] at b1 b2
 rw [kz] at hq
 have hs:=h.sh
 rw [h.Oj hq,dy (n:=dQ x y z*4294967296) (by omega) (by omega),dy (by omega) (by omega),du,hq,e.1]
 grind
end
def cA (a b m:Int):Int:=if m<1∨2305843009213693952≤m then 1 else if 0≤a∧a<m∧0≤b∧b<m then 0 else 2
theorem jk {a b m:Int} (hm:0<m) (hm':m<2305843009213693952) (ha:0≤a) (ha':a<m) (hb:0≤b) (hb':b<m):cA a b m=0:=by simp_all [cA]<;>omega
theorem fo {a b m:Int} (h:cA a b m=0):0<m∧m<2305843009213693952∧0≤a∧a<m∧0≤b∧b<m:=by grind [cA]
theorem pow_mod (a:Int) (m:Int):∀ k:Nat,(a%m)^k%m=a^k%m
 | 0=>by simp
 | k+1=>by simp [Int.pow_succ,Int.mul_emod,pow_mod,Int.emod_emod_of_dvd,Int.dvd_refl]
theorem pU (a b m:Int):a%m*b%m=a*b%m:=by simp [Int.mul_emod,Int.emod_emod_of_dvd,Int.dvd_refl]
theorem sV (a b m:Int):a*(b%m)%m=a*b%m:=by simp [Int.mul_emod,Int.emod_emod_of_dvd,Int.dvd_refl]
theorem CC {a m:Int} {e:Nat} (c:Int):c*(a*a%m)^e%m=c*a^(2*e)%m:=by
 rw [← sV,pow_mod,sV,Int.pow_mul,show a^2=a*a by grind]
theorem BJ {x a m e:Int} (h0:0≤e) (h:e%2=0):x*(a*a%m)^(e / 2).toNat%m=x*a^e.toNat%m:=by
 rw [CC,show 2*(e / 2).toNat=e.toNat by omega]
theorem Hj {x a m e:Int} (h0:0≤e) (h:e%2=1):x*a%m*(a*a%m)^(e / 2).toNat%m=x*a^e.toNat%m:=by
 rw [CC,pU,show e.toNat=2*(e / 2).toNat+1 by omega,Int.pow_succ,Int.mul_assoc,Int.mul_comm a]
structure iF (a0 : Int) (e0 : Nat) (m : Int) (s : Int × Int × Int) : Prop where
  p : s.1 * s.2.1 ^ s.2.2.toNat % m = a0 ^ e0 % m
  x0 : 0 ≤ s.1
  x1 : s.1 < m
  a0 : 0 ≤ s.2.1
  a1 : s.2.1 < m
  e0 : 0 ≤ s.2.2
theorem iF.even {a0:Int} {e0:Nat} {m x a e:Int} (h:iF a0 e0 m (x,a,e)) (hm:0<m) (he:e%2=0):iF a0 e0 m (x,a*a%m,e / 2):=by
 have:=h.e0
 exact ⟨by rw [← h.p];grind [BJ],h.x0,h.x1,Int.emod_nonneg _ (by omega),Int.emod_lt_of_pos _ hm,by grind⟩
theorem iF.odd {a0:Int} {e0:Nat} {m x a e:Int} (h:iF a0 e0 m (x,a,e)) (hm:0<m) (he:e%2=1):iF a0 e0 m (x*a%m,a*a%m,e / 2):=by
 have:=h.e0
 exact ⟨by rw [← h.p];grind [Hj],Int.emod_nonneg _ (by omega),Int.emod_lt_of_pos _ hm,Int.emod_nonneg _ (by omega),Int.emod_lt_of_pos _ hm,by grind⟩
theorem iF.stop {a0:Int} {e0:Nat} {m x a e:Int} (h:iF a0 e0 m (x,a,e)) (he:¬e>0):x=a0^e0%m:=by
 have e1:=h.e0
 have:e=0:=by grind
 subst this
 have:=h.p
 simp only [Int.toNat_zero,Int.pow_zero,Int.mul_one] at this
 rw [← this,Int.emod_eq_of_lt h.x0 h.x1]
theorem iF.start {a e m:Int} (h0:0≤a) (h1:a<m) (he:0≤e):iF a e.toNat m (1%m,a,e) :=
 ⟨by simp [pU],Int.emod_nonneg _ (by omega),Int.emod_lt_of_pos _ (by omega),h0,h1,he⟩
structure mq (p0 : Int) (m : Int) (s : Int × Int × Int) : Prop where
  p : (s.1 + s.2.1 * s.2.2) % m = p0 % m
  x0 : 0 ≤ s.1
  x1 : s.1 < m
  a0 : 0 ≤ s.2.1
  a1 : s.2.1 < m
  e0 : 0 ≤ s.2.2
theorem dbl {x a e m:Int} (h:e%2=0):(x+(a+a)%m*(e / 2))%m=(x+a*e)%m:=by grind [Int.add_emod,pU]
theorem N4 {x a e m:Int} (h:e%2=1):((x+a)%m+(a+a)%m*(e / 2))%m=(x+a*e)%m:=by
 rw [Int.add_emod,pU,Int.emod_emod_of_dvd _ (Int.dvd_refl m),← Int.add_emod]
 grind
theorem mq.even {p0 m x a e:Int} (h:mq p0 m (x,a,e)) (hm:0<m) (he:e%2=0):mq p0 m (x,(a+a)%m,e / 2):=by
 have:=h.e0
 exact ⟨by rw [← h.p];exact dbl he,h.x0,h.x1,Int.emod_nonneg _ (by omega),Int.emod_lt_of_pos _ hm,by grind⟩
theorem mq.odd {p0 m x a e:Int} (h:mq p0 m (x,a,e)) (hm:0<m) (he:e%2=1):mq p0 m ((x+a)%m,(a+a)%m,e / 2):=by
 have:=h.e0
 exact ⟨by rw [← h.p];exact N4 he,Int.emod_nonneg _ (by omega),Int.emod_lt_of_pos _ hm,Int.emod_nonneg _ (by omega),Int.emod_lt_of_pos _ hm,by grind⟩
theorem mq.stop {p0 m x a e:Int} (h:mq p0 m (x,a,e)) (he:¬e>0):x=p0%m:=by
 have e1:=h.e0
 have:e=0:=by grind
 subst this
 have:=h.p
 simp only [Int.mul_zero,Int.add_zero] at this
 rw [← this,Int.emod_eq_of_lt h.x0 h.x1]
theorem mq.start {a b m:Int} (h0:0≤a) (h1:a<m) (he:0≤b):mq (a*b) m (0,a,b) :=
 ⟨by simp,by simp,by omega,h0,h1,he⟩
theorem xt (x:Int):Int.fdiv x (2^1)=x / 2:=du
theorem MX {a b m:Int} (ha:0≤a) (ha':a<m) (hb:0≤b) (hb':b<m) (hm:m<2305843009213693952):0≤a*b∧a*b<m*18446744073709551616:=by
 refine ⟨Int.mul_nonneg ha hb,?_⟩
 have:=Int.mul_le_mul (show a≤m by omega) (show b≤18446744073709551615 by omega) hb (by omega)
 omega
theorem mG {a b n:Int} (h0:0≤a) (h1:a<n) (h2:0≤b) (h3:b<18446744073709551616):a*b<n*18446744073709551616:=by
 have:=Int.mul_le_mul (show a≤n - 1 by omega) (show b≤18446744073709551615 by omega) h2 (by omega)
 omega
theorem Mh {a b m:Int} (h:m<1∨m≥2305843009213693952):cA a b m=1:=by simp_all [cA]
theorem M6 {a b m:Int} (h:¬m<1∧¬m≥2305843009213693952) (h2:(¬a≥0∨¬a<m)∨(¬b≥0∨¬b<m)):cA a b m=2:=by simp_all [cA,if_neg]<;>omega
theorem NJ {a b m:Int} (h:¬m<1∧¬m≥2305843009213693952) (h2:(a≥0∧a<m)∧(b≥0∧b<m)):cA a b m=0:=by simp_all [cA,if_neg]
def kd (e v:Int):Int:=if e=0 then v else 0
theorem Iv (v:Int):kd 0 v=v:=rfl
theorem CU {e v:Int} (h:e≠0):kd e v=0:=if_neg h
def eT (a e m:Int):Int:=if cA a a m=0 then (if e<0 then 2 else 0) else cA a a m
theorem BQ {a e m:Int} (h:¬cA a a m=0):eT a e m=cA a a m:=if_neg h
theorem Lb {a e m:Int} (h:cA a a m=0) (h2:e<0):eT a e m=2:=by simp_all [eT]
theorem nN {a e m:Int} (h:cA a a m=0) (h2:¬e<0):eT a e m=0:=by simp_all [eT,if_neg]
theorem oR {a m:Int} (hm:0<m):(0≤Int.tmod a m∧Int.tmod a m=a%m)∨(Int.tmod a m<0∧Int.tmod a m+m=a%m):=by
 by_cases ha:0≤a
 ·left;rw [bY ha];exact ⟨Int.emod_nonneg _ (by omega),rfl⟩
 ·have e:Int.tmod a m = -((-a)%m):=by
   have:=Int.neg_tmod (-a) m
   grind
  grind [Int.emod_nonneg,Int.emod_lt_of_pos,Int.mul_ediv_add_emod,Int.ediv_emod_unique,Int.mul_neg]
theorem vB {a m:Int} (hm:0<m) (hm':m≤9223372036854775807) (h:Int.tmod a m<0):IntKind.wrap .i64 (Int.tmod a m+m)=a%m:=by
 have h0:=Int.emod_nonneg a (show m≠0 by omega)
 grind [Int.emod_lt_of_pos,oR,wI]
theorem uK {a m:Int} (hm:0<m) (h:¬Int.tmod a m<0):Int.tmod a m=a%m:=by grind [oR]
theorem Ae {a b:Int} (ha:0≤a) (hb:0≤b) (h:a<2147483648∧b<2147483648):IntKind.wrap .i64 (a*b)=a*b:=by
 have:=Int.mul_le_mul (show a≤2147483647 by omega) (show b≤2147483647 by omega) hb (by omega)
 have:=Int.mul_nonneg ha hb
 grind [wI]
theorem GU {a b m:Int} (h0:0≤a) (h1:a<m) (h2:0≤b) (h3:b<m) (hm:m<2305843009213693952):Int.tmod (IntKind.wrap .i64 (a+b)) m=(a+b)%m:=by grind [wI,bY]
theorem tX {e:Int} (h:0≤e) (h':e≤9223372036854775807):IntKind.wrap .i64 (Int.tdiv e 2)=e / 2:=by grind [mA,wI]
theorem iF.uN {a0:Int} {e0:Nat} {m:Int} {s:Int×Int×Int} (h:iF a0 e0 m s) (hm:0<m) (he:s.2.2%2=0):iF a0 e0 m (s.1,s.2.1*s.2.1%m,s.2.2 / 2):=iF.even (x:=s.1) (a:=s.2.1) (e:=s.2.2) h hm he
theorem iF.AP {a0:Int} {e0:Nat} {m:Int} {s:Int×Int×Int} (h:iF a0 e0 m s) (hm:0<m) (he:s.2.2%2=1):iF a0 e0 m (s.1*s.2.1%m,s.2.1*s.2.1%m,s.2.2 / 2):=iF.odd (x:=s.1) (a:=s.2.1) (e:=s.2.2) h hm he
theorem iF.uE {a0:Int} {e0:Nat} {m:Int} {s:Int×Int×Int} (h:iF a0 e0 m s) (he:¬s.2.2>0):s.1=a0^e0%m:=iF.stop (x:=s.1) (a:=s.2.1) (e:=s.2.2) h he
theorem mq.uN {p0 m:Int} {s:Int×Int×Int} (h:mq p0 m s) (hm:0<m) (he:s.2.2%2=0):mq p0 m (s.1,(s.2.1+s.2.1)%m,s.2.2 / 2):=mq.even (x:=s.1) (a:=s.2.1) (e:=s.2.2) h hm he
theorem mq.AP {p0 m:Int} {s:Int×Int×Int} (h:mq p0 m s) (hm:0<m) (he:s.2.2%2=1):mq p0 m ((s.1+s.2.1)%m,(s.2.1+s.2.1)%m,s.2.2 / 2):=mq.odd (x:=s.1) (a:=s.2.1) (e:=s.2.2) h hm he
theorem mq.uE {p0 m:Int} {s:Int×Int×Int} (h:mq p0 m s) (he:¬s.2.2>0):s.1=p0%m:=mq.stop (x:=s.1) (a:=s.2.1) (e:=s.2.2) h he
theorem iF.Kz {a e m:Int} (he:e≤9223372036854775807):(cA a a m=0→0≤e→iF a e.toNat m (1%m,a,e))∧e≤9223372036854775807 :=
 ⟨fun h1 h2=>by have:=fo h1;grind [iF.start],he⟩
def bsL:List Int:=[2,3,5,7,11,13,17,19,23,29,31,37]
def dbL:List Int:=[0,1,56,2,57,49,28,3,61,58,42,50,38,29,17,4,62,47,59,36,45,43,51,22,53,39,33,30,24,18,12,5,63,55,48,27,60,41,37,16,46,35,44,21,52,32,23,11,54,26,40,15,34,20,31,10,25,14,19,9,13,8,7,6]
def kL:List Int:=[1116352408,1899447441,3049323471,3921009573,961987163,1508970993,2453635748,2870763221,3624381080,310598401,607225278,1426881987,1925078388,2162078206,2614888103,3248222580,3835390401,4022224774,264347078,604807628,770255983,1249150122,1555081692,1996064986,2554220882,2821834349,2952996808,3210313671,3336571891,3584528711,113926993,338241895,666307205,773529912,1294757372,1396182291,1695183700,1986661051,2177026350,2456956037,2730485921,2820302411,3259730800,3345764771,3516065817,3600352804,4094571909,275423344,430227734,506948616,659060556,883997877,958139571,1322822218,1537002063,1747873779,1955562222,2024104815,2227730452,2361852424,2428436474,2756734187,3204031479,3329325298]
def stL:List Int:=[1779033703,3144134277,1013904242,2773480762,1359893119,2600822924,528734635,1541459225]
def de (j:Nat):Int:=bsL.getD j 0
def dbF (j:Nat):Int:=dbL.getD j 0
def kF (j:Nat):Int:=kL.getD j 0
def xH (j:Nat):Int:=stL.getD j 0
def Bo:Nat→Int→Nat
 | 0,_=>0
 | k+1,x=>if x%2=0 then Bo k (x / 2)+1 else 0
def e8 (x:Int):Nat:=Bo 64 x
theorem uw:∀ (k:Nat) (x:Int),0<x→x<2^k→Bo k x<k∧x=2^Bo k x*(x / 2^Bo k x)∧x / 2^Bo k x%2=1
 | 0,x,h,h'=>by omega
 | k+1,x,h,h'=>by
  unfold Bo
  by_cases he:x%2=0
  ·rw [if_pos he]
   have hk:x / 2<2^k:=by omega
   obtain ⟨h1,h2,h3⟩:=uw k (x / 2) (by omega) hk
   generalize Bo k (x / 2)=t at *
   have e:x / 2^(t+1)=x / 2 / 2^t:=by simp [Int.pow_succ,Int.mul_comm,Int.ediv_ediv]
   grind
  grind
theorem mX {x:Int} (h:0<x) (h':x<18446744073709551616):e8 x<64∧x=2^e8 x*(x / 2^e8 x)∧x / 2^e8 x%2=1:=uw 64 x h h'
theorem uR:∀ (k t:Nat) (o:Int),t<k→o%2=1→Bo k (2^t*o)=t
 | 0,t,o,h,_=>by omega
 | k+1,0,o,h,ho=>by simp_all [Bo,Int.pow_zero,Int.one_mul]
 | k+1,t+1,o,h,ho=>by
  unfold Bo
  have e:(2:Int)^(t+1)*o=2*(2^t*o):=by grind
  simp_all [uR]
theorem DL {t:Nat} {o:Int} (h:t<64) (ho:o%2=1):e8 (2^t*o)=t:=uR 64 t o h ho
theorem F1 {o m:Nat} (ho:o%2=1) (h:o<2^m):o &&& (2^m - o)=1:=by
 apply Nat.eq_of_testBit_eq
 intro i
 have e:2^m - o=2^m - ((o - 1)+1):=by omega
 rw [Nat.testBit_and,e,Nat.testBit_two_pow_sub_succ (by omega)]
 cases i<;>grind
theorem yO {x:Int} (h:0<x) (h':x<18446744073709551616):IntKind.wrap .u64 ((BitVec.ofInt 64 x &&& BitVec.ofInt 64 (IntKind.wrap .u64 (0 - x))).toNat:Nat)=2^e8 x:=by
 obtain ⟨h1,h2,h3⟩:=mX h h'
 generalize e8 x=t at *
 obtain ⟨n,rfl⟩:=Int.eq_ofNat_of_zero_le (a:=x) (by omega)
 have hp:(0:Int)<2^t:=Int.pow_pos (by decide)
 obtain ⟨o,ho⟩:=Int.eq_ofNat_of_zero_le (a:=(n:Int) / 2^t) (Int.ediv_nonneg (by omega) (by omega))
 rw [ho] at h2 h3
 have hn:n=2^t*o:=by grind
 have e1:IntKind.wrap .u64 (0 - (n:Int))=((2^64 - n:Nat):Int):=by grind [i9]
 have hpos:0<n:=by omega
 rw [e1,Lv (by omega) (by omega)]
 have hpow:(2:Nat)^64=2^t*2^(64 - t):=by rw [← Nat.pow_add];grind
 have hpt:0<2^t:=Nat.pos_of_ne_zero (by simp)
 have hlt:o<2^(64 - t):=by
  have:2^t*o<2^t*2^(64 - t):=by omega
  simp_all
 have e2:2^64 - n=2^t*(2^(64 - t) - o):=by grind [Nat.mul_sub]
 have e3:n &&& (2^64 - n)=2^t:=by
  rw [e2,hn,Nat.mul_comm,Nat.mul_comm (2^t),← Nat.shiftLeft_eq,← Nat.shiftLeft_eq,← Nat.shiftLeft_and_distrib,F1 (by omega) hlt,Nat.shiftLeft_eq,Nat.one_mul]
 rw [e3]
 have:2^t<2^64:=Nat.pow_lt_pow_right (by decide) h1
 grind [dy]
theorem MS:∀ t:Fin 64,dbF (toNat ((2^t.val*285870213051353865:Int)%18446744073709551616 / 288230376151711744))=t.val:=by decide +kernel
theorem NW {t:Nat} (h:t<64):dbF (toNat (Int.fdiv (IntKind.wrap .u64 (2^t*285870213051353865)) (2^58)))=t:=by
 rw [du,i9]
 exact MS ⟨t,h⟩
theorem N1 {t:Nat}:0≤Int.fdiv (IntKind.wrap .u64 (2^t*285870213051353865)) (2^58)∧Int.fdiv (IntKind.wrap .u64 (2^t*285870213051353865)) (2^58)<64:=by grind [du,i9]
def fY (a d n:Int) (i:Nat):Int:=a^(d.toNat*2^i)%n
theorem re (a d n:Int):fY a d n 0=a^d.toNat%n:=by simp [fY]
theorem qH (a d n:Int) (i:Nat):fY a d n (i+1)=fY a d n i*fY a d n i%n:=by
 unfold fY
 rw [pU,sV,← Int.pow_add,Nat.pow_succ]
 grind
def qk (p:Nat→Bool) (n:Nat):Bool:=(List.range n).any p
theorem rN {p:Nat→Bool} {n i:Nat} (h:i<n) (hp:p i=true):qk p n=true:=List.any_eq_true.2 ⟨i,List.mem_range.2 h,hp⟩
theorem Io {p:Nat→Bool} {n:Nat} (h:∀ i,i<n→p i=false):qk p n=false:=List.any_eq_false.2 fun i hi=>by grind
def allI (p:Nat→Bool) (n:Nat):Bool:=(List.range n).all p
theorem nj {p:Nat→Bool} {n i:Nat} (h:i<n) (hp:p i=false):allI p n=false:=List.all_eq_false.2 ⟨i,List.mem_range.2 h,by grind⟩
theorem nE {p:Nat→Bool} {n:Nat} (h:∀ i,i<n→p i=true):allI p n=true:=List.all_eq_true.2 fun i hi=>h i (List.mem_range.1 hi)
def eP (n a:Int):Bool:=fY a ((n - 1) / 2^e8 (n - 1)) n 0==1||qk (fun i=>fY a ((n - 1) / 2^e8 (n - 1)) n i==n - 1) (e8 (n - 1))
def jF (n:Int):Bool:=if n<2 then false else if 0≤aG (fun i=>n%de i==0) 12 0 then n==de (aG (fun i=>n%de i==0) 12 0).toNat else allI (fun i=>eP n (de i)) 12
theorem Gc:∀ i:Fin 12,2≤de i.val∧de i.val≤37:=by decide +kernel
theorem la {i:Nat} (h:i<12):2≤de i∧de i≤37:=Gc ⟨i,h⟩
theorem Ev:∀ n:Fin 38,2≤(n.val:Int)→∃ i:Fin 12,(n.val:Int)%de i.val=0:=by decide +kernel
theorem CA {n:Int} (h:2≤n) (h2:∀ i,i<12→n%de i≠0):37<n:=by
 refine Int.not_le.1 fun hle=>?_
 obtain ⟨i,hi⟩:=Ev ⟨n.toNat,by omega⟩ (by grind)
 grind
theorem u9 {p:Nat→Bool}:∀ k i,aG p k i<0→∀ j,j<k→p (i+j)=false
 | 0,_,_,j,hj=>by omega
 | k+1,i,h,j,hj=>by
  unfold aG at h
  by_cases hp:p i=true
  ·grind
  ·rw [if_neg hp] at h
   cases j with
   | zero=>simpa using hp
   | succ j =>
    have:=u9 k (i+1) h j (by omega)
    rw [show i+(j+1)=i+1+j by omega];exact this
theorem iE {p:Nat→Bool}:∀ k i,aG p k i<(i+k:Nat)
 | 0,i=>by grind [aG]
 | k+1,i=>by
  unfold aG
  split
  ·omega
  ·have:=iE (p:=p) k (i+1);omega
theorem Cz {n:Int} (h:n<2):jF n=false:=if_pos h
theorem Ie {n:Int} {i:Nat} (h:¬n<2) (he:aG (fun i=>n%de i==0) 12 0=aG (fun i=>n%de i==0) (12 - i) i) (hi:i<12) (h0:n%de i=0):jF n=(n==de i):=by
 have e:=cr he hi (by grind)
 unfold jF
 grind
theorem tQ {n:Int} {i:Nat} (h:¬n<2) (he:aG (fun i=>n%de i==0) 12 0=aG (fun i=>n%de i==0) (12 - i) i) (hi:12≤i):jF n=allI (fun i=>eP n (de i)) 12∧37<n∧∀ i,i<12→n%de i≠0:=by
 have e:=bW he hi
 have hn:∀ i,i<12→n%de i≠0:=fun j hj=>by
  have:=u9 (p:=fun i=>n%de i==0) 12 0 (by omega) j hj
  grind
 simp_all [CA,jF,if_neg]<;>omega
theorem DA {n:Int} (h2:∀ i,i<12→n%de i≠0):n%2=1:=by
 have:=h2 0 (by decide)
 have e:de 0=2:=rfl
 grind
theorem qT {i:Nat} (h:i<12):aE (aQ [.int .u64 (de 0),.int .u64 (de 1),.int .u64 (de 2),.int .u64 (de 3),.int .u64 (de 4),.int .u64 (de 5),.int .u64 (de 6),.int .u64 (de 7),.int .u64 (de 8),.int .u64 (de 9),.int .u64 (de 10),.int .u64 (de 11)] i)=de i:=congrArg aE (dv (es:=12) (g:=fun j=>AV.int .u64 (de j)) h)
def kM (a d n:Int) (i:Nat):Prop:=fY a d n 0≠n - 1→∀ r,r≤i→fY a d n r≠n - 1
theorem yt (a d n:Int):kM a d n 0:=fun h r hr=>by grind
theorem yK {a d n:Int} {i:Nat} (h:kM a d n i) (h2:fY a d n (i+1)≠n - 1):kM a d n (i+1):=fun h0 r hr=>by
 by_cases e:r=i+1
 ·grind
 ·exact h h0 r (by omega)
theorem Gj {a d n:Int} {s:Nat} (hs:0<s) (hn:2≤n) (hn':n<18446744073709551616) (g:a^d.toNat%n=1∨a^d.toNat%n=IntKind.wrap .u64 (n - 1)):(fY a d n 0==1||qk (fun i=>fY a d n i==n - 1) s)=true:=by grind [dy,re,rN]
theorem Hk {a d n:Int} {s i:Nat} (hi:i+1<s) (g:fY a d n (i+1)=n - 1):(fY a d n 0==1||qk (fun i=>fY a d n i==n - 1) s)=true:=by grind [rN]
theorem AN {a d n:Int} {s i:Nat} (h1:¬fY a d n 0=1) (h2:fY a d n 0≠n - 1) (h:kM a d n i) (hi:s≤i+1):(fY a d n 0==1||qk (fun i=>fY a d n i==n - 1) s)=false:=by
 rw [Io fun r hr=>by simpa using h h2 r (by omega)]
 grind
theorem xR {n:Int} {i:Nat} (hi:i<12) (hn:2≤n) (hn':n<18446744073709551616) :
  (fY (aE (aQ [.int .u64 (de 0),.int .u64 (de 1),.int .u64 (de 2),.int .u64 (de 3),.int .u64 (de 4),.int .u64 (de 5),.int .u64 (de 6),.int .u64 (de 7),.int .u64 (de 8),.int .u64 (de 9),.int .u64 (de 10),.int .u64 (de 11)] i)) (Int.fdiv (IntKind.wrap .u64 (n - 1)) (2^min (toNat ((e8 (n - 1):Nat):Int)) 64)) n 0==1||qk (fun q=>fY (aE (aQ [.int .u64 (de 0),.int .u64 (de 1),.int .u64 (de 2),.int .u64 (de 3),.int .u64 (de 4),.int .u64 (de 5),.int .u64 (de 6),.int .u64 (de 7),.int .u64 (de 8),.int .u64 (de 9),.int .u64 (de 10),.int .u64 (de 11)] i)) (Int.fdiv (IntKind.wrap .u64 (n - 1)) (2^min (toNat ((e8 (n - 1):Nat):Int)) 64)) n q==n - 1) (e8 (n - 1)))=eP n (de i):=by
 have ht:=(mX (x:=n - 1) (by omega) (by omega)).1
 rw [qT hi,dy (by omega) (by omega),Int.toNat_natCast,Nat.min_eq_left (by omega),du]
 rfl
theorem ux {n d:Int} {s:Nat} (hn:2≤n) (hn':n<18446744073709551616) (h:n - 1=2^s*d) (hd:0<d):s<64:=by
 have h1:(2:Int)^s≤2^s*d:=by
  have:=Int.mul_le_mul_of_nonneg_left (show 1≤d by omega) (Int.le_of_lt (Int.pow_pos (by decide):(0:Int)<2^s))
  omega
 have h4:(2:Int)^s=((2^s:Nat):Int):=by rfl
 exact (Nat.pow_lt_pow_iff_right (a:=2) (m:=64) (by decide)).1 (by omega)
theorem lu {n d:Int} {s:Nat} (hn:2≤n) (hn':n<18446744073709551616) (h:n - 1=2^s*d) (hd:0<d) (ho:¬Int.tmod d 2=0):e8 (n - 1)=s∧(n - 1) / 2^e8 (n - 1)=d:=by grind [ux,bY,e8,DL,Int.mul_ediv_cancel_left,Int.ne_of_gt,Int.pow_pos]
theorem DN {n d:Int} {s:Nat} (h:n - 1=2^s*d) (hd:0<d) (he:Int.tmod d 2=0):n - 1=2^(s+1)*(d / 2)∧0<d / 2:=by grind
theorem A6 {n d:Int} {s:Nat} (h:n - 1=2^s*d) (hd:0<d):d≤n - 1:=by
 have:1*d≤2^s*d:=Int.mul_le_mul_of_nonneg_right (by have:=(Int.pow_pos (by decide):(0:Int)<2^s);omega) (by omega)
 omega
theorem nx {n:Int} (hn:2≤n) (hn':n<18446744073709551616) (ho:n%2=1) :
  0≤Int.fdiv (IntKind.wrap .u64 (n - 1)) (2^min (toNat ((e8 (n - 1):Nat):Int)) 64)∧Int.fdiv (IntKind.wrap .u64 (n - 1)) (2^min (toNat ((e8 (n - 1):Nat):Int)) 64)<18446744073709551616∧e8 (n - 1)<64∧0<e8 (n - 1):=by
 have ht:=mX (x:=n - 1) (by omega) (by omega)
 rw [dy (by omega) (by omega),du]
 have h1:=Int.ediv_nonneg (a:=n - 1) (b:=2^min (toNat ((e8 (n - 1):Nat):Int)) 64) (by omega) (Int.le_of_lt (Int.pow_pos (by decide)))
 have h2:=Int.ediv_le_self (a:=n - 1) (2^min (toNat ((e8 (n - 1):Nat):Int)) 64) (by omega)
 grind
theorem Al (n:Int):2≤n→n - 1=2^0*(n - 1)∧0<n - 1:=fun h=>⟨by simp,by omega⟩
theorem pI {os:List (Option Ob)} {es n:Nat} {mu:Bool} {l:List (List AV)} {f:Nat→Nat→AV} (h:∀ i j,i<n→j<es→aQ (l.getD i []) j=f i j):aJ os ⟨es,n,mu,.bc l⟩ ⟨es,n,mu,.fn f⟩:=⟨rfl,rfl,rfl,fun i j hi hj=>ay.of_eq (h i j hi hj)⟩
theorem NS {os:List (Option Ob)} {mu:Bool}:aJ os ⟨1,12,mu,.bc [[.int .i64 2],[.int .i64 3],[.int .i64 5],[.int .i64 7],[.int .i64 11],[.int .i64 13],[.int .i64 17],[.int .i64 19],[.int .i64 23],[.int .i64 29],[.int .i64 31],[.int .i64 37]]⟩ ⟨1,12,mu,.fn fun i _=>.int .i64 (de i)⟩:=pI fun i j hi hj=>by
 obtain rfl:j=0:=by omega
 match i,hi with
 | 0,_|1,_|2,_|3,_|4,_|5,_|6,_|7,_|8,_|9,_|10,_|11,_=>rfl
theorem As {n a:Int} (ho:0<e8 (n - 1)) (g:fY a ((n - 1) / 2^e8 (n - 1)) n 0=1∨fY a ((n - 1) / 2^e8 (n - 1)) n 0=n - 1):eP n a=true:=by grind [eP,rN]
theorem Aa {n a:Int} {i:Nat} (hi:i+1<e8 (n - 1)) (g:fY a ((n - 1) / 2^e8 (n - 1)) n (i+1)=n - 1):eP n a=true:=by grind [eP,rN]
theorem CM {n a:Int} {i:Nat} (h1:¬fY a ((n - 1) / 2^e8 (n - 1)) n 0=1) (h2:fY a ((n - 1) / 2^e8 (n - 1)) n 0≠n - 1) (h:kM a ((n - 1) / 2^e8 (n - 1)) n i) (hi:e8 (n - 1)≤i+1):eP n a=false:=AN h1 h2 h hi
end Go.Sp

namespace Go.Am
open Go
abbrev z32 : List AV := [Zb 0, Zb 0, Zb 0, Zb 0, Zb 0, Zb 0, Zb 0, Zb 0, Zb 0, Zb 0, Zb 0, Zb 0, Zb 0, Zb 0, Zb 0, Zb 0, Zb 0, Zb 0, Zb 0, Zb 0, Zb 0, Zb 0, Zb 0, Zb 0, Zb 0, Zb 0, Zb 0, Zb 0, Zb 0, Zb 0, Zb 0, Zb 0]
end Go.Am

namespace Go.Proofs.YtpefjkpdniiaoaaGreatDoor
open Go.IntKind (wrap)
open Int (toNat)
open Go Go.Am Go.Sp
set_option maxRecDepth 100000
def aZ:dG:=fun g=>bif Nat.beq g 0 then some (12,fun j=>.int .u64 (de j)) else bif Nat.beq g 2 then some (64,fun j=>.int .u8 (dbF j)) else bif Nat.beq g 1 then some (8,fun j=>.int .u32 (xH j)) else bif Nat.beq g 3 then some (64,fun j=>.int .u32 (kF j)) else none
def bq:FuncId→Option (List Bool):=fun _=>none
theorem mixed:Tryz.prog.follows .mixedOrders=true:=by kernel_rfl
theorem yb (x y:Int) (hx:0≤x) (hx':x<18446744073709551616) (hy:0≤y) (hy':y<18446744073709551616):Pure Tryz.prog aZ 264 [.int .u64 x,.int .u64 y] (.aX [.int .u64 (x*y / 18446744073709551616),.int .u64 (x*y%18446744073709551616)]):=by
 refine ar (own:=bq) Tryz.func264 (by kernel_rfl) mixed (by kernel_rfl)
  (.out (.aX [Zu (wrap .u64 (wrap .u64 (wrap .u64 (Int.fdiv x ((2:Int)^32)*Int.fdiv y ((2:Int)^32))+Int.fdiv (wrap .u64 (wrap .u64 (Int.fdiv x ((2:Int)^32)*wrap .u64 (↑(BitVec.toNat (BitVec.ofInt 64 y &&& BitVec.ofInt 64 (4294967295:Int))):Int))+Int.fdiv (wrap .u64 (wrap .u64 (↑(BitVec.toNat (BitVec.ofInt 64 x &&& BitVec.ofInt 64 (4294967295:Int))):Int)*wrap .u64 (↑(BitVec.toNat (BitVec.ofInt 64 y &&& BitVec.ofInt 64 (4294967295:Int))):Int))) ((2:Int)^32))) ((2:Int)^32))+Int.fdiv (wrap .u64 (wrap .u64 (↑(BitVec.toNat (BitVec.ofInt 64 (wrap .u64 (wrap .u64 (Int.fdiv x ((2:Int)^32)*wrap .u64 (↑(BitVec.toNat (BitVec.ofInt 64 y &&& BitVec.ofInt 64 (4294967295:Int))):Int))+Int.fdiv (wrap .u64 (wrap .u64 (↑(BitVec.toNat (BitVec.ofInt 64 x &&& BitVec.ofInt 64 (4294967295:Int))):Int)*wrap .u64 (↑(BitVec.toNat (BitVec.ofInt 64 y &&& BitVec.ofInt 64 (4294967295:Int))):Int))) ((2:Int)^32))) &&& BitVec.ofInt 64 (4294967295:Int))):Int)+wrap .u64 (wrap .u64 (↑(BitVec.toNat (BitVec.ofInt 64 x &&& BitVec.ofInt 64 (4294967295:Int))):Int)*Int.fdiv y ((2:Int)^32)))) ((2:Int)^32))),Zu (wrap .u64 (x*y))]) [] (.aX [Zu (x*y / 18446744073709551616),Zu (x*y%18446744073709551616)]) [])
  (by kernel_rfl) ?_
 exact aq (ay.aX ⟨ay.of_eq (congrArg _ (by
                                                                                                     rw [← F3 hx hx' hy hy']
                                                                                                     have e1:IntKind.wrap .u64 (x*y)=x*y%18446744073709551616:=i9 _
                                                                                                     have b1:=lx (a:=x / 4294967296) (b:=y / 4294967296) (by omega) (by omega) (by omega) (by omega)
                                                                                                     have b2:=lx (a:=x / 4294967296) (b:=y%4294967296) (by omega) (by omega) (by omega) (by omega)
                                                                                                     have b3:=lx (a:=x%4294967296) (b:=y / 4294967296) (by omega) (by omega) (by omega) (by omega)
                                                                                                     have b4:=lx (a:=x%4294967296) (b:=y%4294967296) (by omega) (by omega) (by omega) (by omega)
                                                                                                     have b5:∀ z:Int,IntKind.wrap .u64 ((BitVec.ofInt 64 (z%18446744073709551616) &&& BitVec.ofInt 64 4294967295).toNat:Nat)=z%4294967296:=fun z=>by rw [qh (by omega) (by omega)];omega
                                                                                                     simp only [JN,qh hx hx',qh hy hy',i9] at b5 ⊢
                                                                                                     rw [b5]
                                                                                                     generalize x / 4294967296*(y / 4294967296)=d at *
                                                                                                     generalize x / 4294967296*(y%4294967296)=b at *
                                                                                                     generalize x%4294967296*(y / 4294967296)=c at *
                                                                                                     generalize x%4294967296*(y%4294967296)=a at *
                                                                                                     omega)),ay.of_eq (congrArg _ (i9 _)),trivial⟩)
abbrev n4:List UInt8:=[(0:UInt8),1,2,2,3,3,3,3,4,4,4,4,4,4,4,4,5,5,5,5,5,5,5,5,5,5,5,5,5,5,5,5,6,6,6,6,6,6,6,6,6,6,6,6,6,6,6,6,6,6,6,6,6,6,6,6,6,6,6,6,6,6,6,6,7,7,7,7,7,7,7,7,7,7,7,7,7,7,7,7,7,7,7,7,7,7,7,7,7,7,7,7,7,7,7,7,7,7,7,7,7,7,7,7,7,7,7,7,7,7,7,7,7,7,7,7,7,7,7,7,7,7,7,7,7,7,7,7,8,8,8,8,8,8,8,8,8,8,8,8,8,8,8,8,8,8,8,8,8,8,8,8,8,8,8,8,8,8,8,8,8,8,8,8,8,8,8,8,8,8,8,8,8,8,8,8,8,8,8,8,8,8,8,8,8,8,8,8,8,8,8,8,8,8,8,8,8,8,8,8,8,8,8,8,8,8,8,8,8,8,8,8,8,8,8,8,8,8,8,8,8,8,8,8,8,8,8,8,8,8,8,8,8,8,8,8,8,8,8,8,8,8,8,8,8,8,8,8,8,8,8,8,8,8,8,8]
theorem EP (x:Int) (h:0≤x) (h':x<18446744073709551616):Pure Tryz.prog aZ 333 [.int .u64 x] (.int .i64 (dM x)):=by
 refine ar (own:=bq) Tryz.func333 (by kernel_rfl) mixed (by kernel_rfl)
  (.br (decide (x≥4294967296)) (.br (decide (Int.fdiv x ((2:Int)^32)≥65536)) (.br (decide (Int.fdiv (Int.fdiv x ((2:Int)^32)) ((2:Int)^16)≥256)) (.bj ((0:Int)≤wrap .u8 (Int.fdiv (Int.fdiv (Int.fdiv x ((2:Int)^32)) ((2:Int)^16)) ((2:Int)^8))∧wrap .u8 (Int.fdiv (Int.fdiv (Int.fdiv x ((2:Int)^32)) ((2:Int)^16)) ((2:Int)^8))<256) (.out (Zi (wrap .i64 (wrap .i64 (wrap .i64 ((32:Int)+16)+8)+wrap .i64 (↑(UInt8.toNat (List.getD n4 (toNat (wrap .u8 (Int.fdiv (Int.fdiv (Int.fdiv x ((2:Int)^32)) ((2:Int)^16)) ((2:Int)^8)))) (0:UInt8))):Int)))) [] (Zi (dM x)) [])) (.bj ((0:Int)≤wrap .u8 (Int.fdiv (Int.fdiv x ((2:Int)^32)) ((2:Int)^16))∧wrap .u8 (Int.fdiv (Int.fdiv x ((2:Int)^32)) ((2:Int)^16))<256) (.out (Zi (wrap .i64 (wrap .i64 ((32:Int)+16)+wrap .i64 (↑(UInt8.toNat (List.getD n4 (toNat (wrap .u8 (Int.fdiv (Int.fdiv x ((2:Int)^32)) ((2:Int)^16)))) (0:UInt8))):Int)))) [] (Zi (dM x)) []))) (.br (decide (Int.fdiv x ((2:Int)^32)≥256)) (.bj ((0:Int)≤wrap .u8 (Int.fdiv (Int.fdiv x ((2:Int)^32)) ((2:Int)^8))∧wrap .u8 (Int.fdiv (Int.fdiv x ((2:Int)^32)) ((2:Int)^8))<256) (.out (Zi (wrap .i64 (wrap .i64 ((32:Int)+8)+wrap .i64 (↑(UInt8.toNat (List.getD n4 (toNat (wrap .u8 (Int.fdiv (Int.fdiv x ((2:Int)^32)) ((2:Int)^8)))) (0:UInt8))):Int)))) [] (Zi (dM x)) [])) (.bj ((0:Int)≤wrap .u8 (Int.fdiv x ((2:Int)^32))∧wrap .u8 (Int.fdiv x ((2:Int)^32))<256) (.out (Zi (wrap .i64 ((32:Int)+wrap .i64 (↑(UInt8.toNat (List.getD n4 (toNat (wrap .u8 (Int.fdiv x ((2:Int)^32)))) (0:UInt8))):Int)))) [] (Zi (dM x)) [])))) (.br (decide (x≥65536)) (.br (decide (Int.fdiv x ((2:Int)^16)≥256)) (.bj ((0:Int)≤wrap .u8 (Int.fdiv (Int.fdiv x ((2:Int)^16)) ((2:Int)^8))∧wrap .u8 (Int.fdiv (Int.fdiv x ((2:Int)^16)) ((2:Int)^8))<256) (.out (Zi (wrap .i64 (wrap .i64 (wrap .i64 ((0:Int)+16)+8)+wrap .i64 (↑(UInt8.toNat (List.getD n4 (toNat (wrap .u8 (Int.fdiv (Int.fdiv x ((2:Int)^16)) ((2:Int)^8)))) (0:UInt8))):Int)))) [] (Zi (dM x)) [])) (.bj ((0:Int)≤wrap .u8 (Int.fdiv x ((2:Int)^16))∧wrap .u8 (Int.fdiv x ((2:Int)^16))<256) (.out (Zi (wrap .i64 (wrap .i64 ((0:Int)+16)+wrap .i64 (↑(UInt8.toNat (List.getD n4 (toNat (wrap .u8 (Int.fdiv x ((2:Int)^16)))) (0:UInt8))):Int)))) [] (Zi (dM x)) []))) (.br (decide (x≥256)) (.bj ((0:Int)≤wrap .u8 (Int.fdiv x ((2:Int)^8))∧wrap .u8 (Int.fdiv x ((2:Int)^8))<256) (.out (Zi (wrap .i64 (wrap .i64 ((0:Int)+8)+wrap .i64 (↑(UInt8.toNat (List.getD n4 (toNat (wrap .u8 (Int.fdiv x ((2:Int)^8)))) (0:UInt8))):Int)))) [] (Zi (dM x)) [])) (.bj ((0:Int)≤wrap .u8 x∧wrap .u8 x<256) (.out (Zi (wrap .i64 ((0:Int)+wrap .i64 (↑(UInt8.toNat (List.getD n4 (toNat (wrap .u8 x)) (0:UInt8))):Int)))) [] (Zi (dM x)) [])))))
  (by kernel_rfl) ?_
 refine aL (fun h0=>?_) (fun h0=>?_)
 ·have g0:=af h0
  refine aL (fun h1=>?_) (fun h1=>?_)
  ·have g1:=af h1
   refine aL (fun h2=>?_) (fun h2=>?_)
   ·have g2:=af h2
    refine aD (by (try simp only [ij,ie,lF] at *);rw [Gn (by omega) (by omega)];exact ⟨by omega,by omega⟩) ?_
    exact aq (ay.of_eq (congrArg _ (by
                                                                                                     try simp only [ij,ie,lF] at *
                                                                                                     refine Eq.trans (jf (by omega) (by omega) (by decide) (by decide)) ?_
                                                                                                     rw [eC (x:=x) 32 (by omega),eC (x:=(x / 2^32)) 16 (by omega),eC (x:=((x / 2^32) / 2^16)) 8 (by omega)];(try rw [show IntKind.wrap .i64 ((32:Int)+16)=48 from by decide]);(try rw [show IntKind.wrap .i64 ((48:Int)+8)=56 from by decide]);(try rw [show IntKind.wrap .i64 ((32:Int)+8)=40 from by decide]);(try rw [show IntKind.wrap .i64 ((0:Int)+16)=16 from by decide]);(try rw [show IntKind.wrap .i64 ((16:Int)+8)=24 from by decide]);(try rw [show IntKind.wrap .i64 ((0:Int)+8)=8 from by decide]);omega)))
   ·have g2:=aa h2
    refine aD (by (try simp only [ij,ie,lF] at *);rw [Gn (by omega) (by omega)];exact ⟨by omega,by omega⟩) ?_
    exact aq (ay.of_eq (congrArg _ (by
                                                                                                     try simp only [ij,ie,lF] at *
                                                                                                     refine Eq.trans (jf (by omega) (by omega) (by decide) (by decide)) ?_
                                                                                                     rw [eC (x:=x) 32 (by omega),eC (x:=(x / 2^32)) 16 (by omega)];(try rw [show IntKind.wrap .i64 ((32:Int)+16)=48 from by decide]);(try rw [show IntKind.wrap .i64 ((48:Int)+8)=56 from by decide]);(try rw [show IntKind.wrap .i64 ((32:Int)+8)=40 from by decide]);(try rw [show IntKind.wrap .i64 ((0:Int)+16)=16 from by decide]);(try rw [show IntKind.wrap .i64 ((16:Int)+8)=24 from by decide]);(try rw [show IntKind.wrap .i64 ((0:Int)+8)=8 from by decide]);omega)))
  ·have g1:=aa h1
   refine aL (fun h7=>?_) (fun h7=>?_)
   ·have g7:=af h7
    refine aD (by (try simp only [ij,ie,lF] at *);rw [Gn (by omega) (by omega)];exact ⟨by omega,by omega⟩) ?_
    exact aq (ay.of_eq (congrArg _ (by
                                                                                                     try simp only [ij,ie,lF] at *
                                                                                                     refine Eq.trans (jf (by omega) (by omega) (by decide) (by decide)) ?_
                                                                                                     rw [eC (x:=x) 32 (by omega),eC (x:=(x / 2^32)) 8 (by omega)];(try rw [show IntKind.wrap .i64 ((32:Int)+16)=48 from by decide]);(try rw [show IntKind.wrap .i64 ((48:Int)+8)=56 from by decide]);(try rw [show IntKind.wrap .i64 ((32:Int)+8)=40 from by decide]);(try rw [show IntKind.wrap .i64 ((0:Int)+16)=16 from by decide]);(try rw [show IntKind.wrap .i64 ((16:Int)+8)=24 from by decide]);(try rw [show IntKind.wrap .i64 ((0:Int)+8)=8 from by decide]);omega)))
   ·have g7:=aa h7
    refine aD (by (try simp only [ij,ie,lF] at *);rw [Gn (by omega) (by omega)];exact ⟨by omega,by omega⟩) ?_
    exact aq (ay.of_eq (congrArg _ (by
                                                                                                     try simp only [ij,ie,lF] at *
                                                                                                     refine Eq.trans (jf (by omega) (by omega) (by decide) (by decide)) ?_
                                                                                                     rw [eC (x:=x) 32 (by omega)];(try rw [show IntKind.wrap .i64 ((32:Int)+16)=48 from by decide]);(try rw [show IntKind.wrap .i64 ((48:Int)+8)=56 from by decide]);(try rw [show IntKind.wrap .i64 ((32:Int)+8)=40 from by decide]);(try rw [show IntKind.wrap .i64 ((0:Int)+16)=16 from by decide]);(try rw [show IntKind.wrap .i64 ((16:Int)+8)=24 from by decide]);(try rw [show IntKind.wrap .i64 ((0:Int)+8)=8 from by decide]);omega)))
 ·have g0:=aa h0
  refine aL (fun h12=>?_) (fun h12=>?_)
  ·have g12:=af h12
   refine aL (fun h13=>?_) (fun h13=>?_)
   ·have g13:=af h13
    refine aD (by (try simp only [ij,ie,lF] at *);rw [Gn (by omega) (by omega)];exact ⟨by omega,by omega⟩) ?_
    exact aq (ay.of_eq (congrArg _ (by
                                                                                                     try simp only [ij,ie,lF] at *
                                                                                                     refine Eq.trans (jf (by omega) (by omega) (by decide) (by decide)) ?_
                                                                                                     rw [eC (x:=x) 16 (by omega),eC (x:=(x / 2^16)) 8 (by omega)];(try rw [show IntKind.wrap .i64 ((32:Int)+16)=48 from by decide]);(try rw [show IntKind.wrap .i64 ((48:Int)+8)=56 from by decide]);(try rw [show IntKind.wrap .i64 ((32:Int)+8)=40 from by decide]);(try rw [show IntKind.wrap .i64 ((0:Int)+16)=16 from by decide]);(try rw [show IntKind.wrap .i64 ((16:Int)+8)=24 from by decide]);(try rw [show IntKind.wrap .i64 ((0:Int)+8)=8 from by decide]);omega)))
   ·have g13:=aa h13
    refine aD (by (try simp only [ij,ie,lF] at *);rw [Gn (by omega) (by omega)];exact ⟨by omega,by omega⟩) ?_
    exact aq (ay.of_eq (congrArg _ (by
                                                                                                     try simp only [ij,ie,lF] at *
                                                                                                     refine Eq.trans (jf (by omega) (by omega) (by decide) (by decide)) ?_
                                                                                                     rw [eC (x:=x) 16 (by omega)];(try rw [show IntKind.wrap .i64 ((32:Int)+16)=48 from by decide]);(try rw [show IntKind.wrap .i64 ((48:Int)+8)=56 from by decide]);(try rw [show IntKind.wrap .i64 ((32:Int)+8)=40 from by decide]);(try rw [show IntKind.wrap .i64 ((0:Int)+16)=16 from by decide]);(try rw [show IntKind.wrap .i64 ((16:Int)+8)=24 from by decide]);(try rw [show IntKind.wrap .i64 ((0:Int)+8)=8 from by decide]);omega)))
  ·have g12:=aa h12
   refine aL (fun h18=>?_) (fun h18=>?_)
   ·have g18:=af h18
    refine aD (by (try simp only [ij,ie,lF] at *);rw [Gn (by omega) (by omega)];exact ⟨by omega,by omega⟩) ?_
    exact aq (ay.of_eq (congrArg _ (by
                                                                                                     try simp only [ij,ie,lF] at *
                                                                                                     refine Eq.trans (jf (by omega) (by omega) (by decide) (by decide)) ?_
                                                                                                     rw [eC (x:=x) 8 (by omega)];(try rw [show IntKind.wrap .i64 ((32:Int)+16)=48 from by decide]);(try rw [show IntKind.wrap .i64 ((48:Int)+8)=56 from by decide]);(try rw [show IntKind.wrap .i64 ((32:Int)+8)=40 from by decide]);(try rw [show IntKind.wrap .i64 ((0:Int)+16)=16 from by decide]);(try rw [show IntKind.wrap .i64 ((16:Int)+8)=24 from by decide]);(try rw [show IntKind.wrap .i64 ((0:Int)+8)=8 from by decide]);omega)))
   ·have g18:=aa h18
    refine aD (by (try simp only [ij,ie,lF] at *);rw [Gn (by omega) (by omega)];exact ⟨by omega,by omega⟩) ?_
    exact aq (ay.of_eq (congrArg _ (by
                                                                                                     try simp only [ij,ie,lF] at *
                                                                                                     refine Eq.trans (jf (by omega) (by omega) (by decide) (by decide)) ?_
                                                                                                     omega)))
theorem Jq (x:Int) (h:0≤x) (h':x<18446744073709551616):Pure Tryz.prog aZ 301 [.int .u64 x] (.int .i64 (64 - dM x)):=by
 refine ar (own:=bq) Tryz.func301 (by kernel_rfl) mixed (by kernel_rfl)
  (.sc true 333 [Zu x] (Zi (dM x)) (.out (Zi (wrap .i64 ((64:Int) - dM x))) [] (Zi ((64:Int) - dM x)) []))
  (by kernel_rfl) ?_
 refine aM (EP (x) (by assumption) (by assumption)) ?_
 exact aq (ay.of_eq (congrArg _ (wI (by have:=vp h h';omega) (by have:=vp h h';omega))))
theorem yz (x y z:Int) (hv:Div x y z):Pure Tryz.prog aZ 265 [.int .u64 x,.int .u64 y,.int .u64 z] (.aX [.int .u64 ((x*18446744073709551616+y) / z),.int .u64 ((x*18446744073709551616+y)%z)]):=by
 have hx0:=hv.x0
 have hxz:=hv.xz
 have hz1:=hv.z1
 have hy0:=hv.y0
 have hy1:=hv.y1
 have hs:=hv.sh
 have d1:=hv.BS
 have d2:=hv.zL
 have a1:=d1.a
 have hd0:=d1.d0
 have hd1:=d1.d1
 have he0:=d2.d0
 have he1:=d2.d1
 refine ar (own:=bq) Tryz.func265 (by kernel_rfl) mixed (by kernel_rfl)
  (let y0:Nat:=(toNat (wrap .u64 ((64:Int) - dM z)));let y1:AV:=(.aX [Zu ((x*18446744073709551616+y) / z),Zu ((x*18446744073709551616+y)%z)]);let y2:Nat:=(toNat (wrap .u64 ((64:Int) - wrap .u64 ((64:Int) - dM z))));let y3:Nat:=(toNat (↑(gz z):Int));(.br (z==0) .no (.br (decide (z≤x)) .no (.br (x==0) (.bj (z≠(0:Int)) (.bj (z≠(0:Int)) (.out (.aX [Zu (wrap .u64 (Int.tdiv y z)),Zu (Int.tmod y z)]) [] y1 []))) (.sc true 301 [Zu z] (Zi ((64:Int) - dM z)) (.bj ((0:Int)≤wrap .u64 ((64:Int) - dM z)) (.bj ((0:Int)≤wrap .u64 ((64:Int) - dM z)) (.bj ((0:Int)≤wrap .u64 ((64:Int) - wrap .u64 ((64:Int) - dM z))) (.bj ((0:Int)≤wrap .u64 ((64:Int) - dM z)) (.bj (Int.fdiv (wrap .u64 (z*2^min y0 64)) ((2:Int)^32)≠(0:Int)) (.loop ({ x_1:Int×Int // (fun (s:Int×Int)=>ke (dY z / 4294967296) (dY z%4294967296) (l9 x y z) (eX x y z / 4294967296) (Prod.fst s) (Prod.snd s)∧Prod.snd s<4294967296) x_1 }) (fun (x_1:{ x_1:Int×Int // (fun (s:Int×Int)=>ke (dY z / 4294967296) (dY z%4294967296) (l9 x y z) (eX x y z / 4294967296) (Prod.fst s) (Prod.snd s)∧Prod.snd s<4294967296) x_1 })=>aY [2,8,9,10,14,11,13,15,16] [Zu (dY z),Zu (↑(gz z):Int),Zu (dY z / 4294967296),Zu (dY z%4294967296),Zu (eX x y z%4294967296),Zu (l9 x y z),Zu (eX x y z / 4294967296),Zu (Prod.fst (Subtype.val x_1)),Zu (Prod.snd (Subtype.val x_1))] []) (fun (x_1:{ x_1:Int×Int // (fun (s:Int×Int)=>ke (dY z / 4294967296) (dY z%4294967296) (l9 x y z) (eX x y z / 4294967296) (Prod.fst s) (Prod.snd s)∧Prod.snd s<4294967296) x_1 })=>(fun (s:Int×Int)=>toNat (Prod.fst s)) (Subtype.val x_1)) (⟨(l9 x y z / (dY z / 4294967296),l9 x y z - l9 x y z / (dY z / 4294967296)*(dY z / 4294967296)),my.init (Div.BS hv)⟩) [2,8,9,10,14,11,13,15,16] [] [Zu (wrap .u64 (z*2^min y0 64)),Zu (wrap .u64 ((64:Int) - dM z)),Zu (Int.fdiv (wrap .u64 (z*2^min y0 64)) ((2:Int)^32)),Zu (wrap .u64 (↑(BitVec.toNat (BitVec.ofInt 64 (wrap .u64 (z*2^min y0 64)) &&& BitVec.ofInt 64 (4294967295:Int))):Int)),Zu (wrap .u64 (↑(BitVec.toNat (BitVec.ofInt 64 (wrap .u64 (y*2^min y0 64)) &&& BitVec.ofInt 64 (4294967295:Int))):Int)),Zu (wrap .u64 (↑(BitVec.toNat (BitVec.ofInt 64 (wrap .u64 (x*2^min y0 64)) ||| BitVec.ofInt 64 (Int.fdiv y ((2:Int)^min y2 64)))):Int)),Zu (Int.fdiv (wrap .u64 (y*2^min y0 64)) ((2:Int)^32)),Zu (wrap .u64 (Int.tdiv (wrap .u64 (↑(BitVec.toNat (BitVec.ofInt 64 (wrap .u64 (x*2^min y0 64)) ||| BitVec.ofInt 64 (Int.fdiv y ((2:Int)^min y2 64)))):Int)) (Int.fdiv (wrap .u64 (z*2^min y0 64)) ((2:Int)^32)))),Zu (wrap .u64 (wrap .u64 (↑(BitVec.toNat (BitVec.ofInt 64 (wrap .u64 (x*2^min y0 64)) ||| BitVec.ofInt 64 (Int.fdiv y ((2:Int)^min y2 64)))):Int) - wrap .u64 (wrap .u64 (Int.tdiv (wrap .u64 (↑(BitVec.toNat (BitVec.ofInt 64 (wrap .u64 (x*2^min y0 64)) ||| BitVec.ofInt 64 (Int.fdiv y ((2:Int)^min y2 64)))):Int)) (Int.fdiv (wrap .u64 (z*2^min y0 64)) ((2:Int)^32)))*Int.fdiv (wrap .u64 (z*2^min y0 64)) ((2:Int)^32))))] [] (fun x14=>(.br (decide ((x14.1).1≥4294967296)||decide (wrap .u64 ((x14.1).1*(dY z%4294967296))>wrap .u64 (wrap .u64 ((4294967296:Int)*(x14.1).2)+eX x y z / 4294967296))) (.br (decide (wrap .u64 ((x14.1).2+dY z / 4294967296)≥4294967296)) (.bj (dY z / 4294967296≠(0:Int)) (.loop ({ x_1:Int×Int // (fun (s:Int×Int)=>ke (dY z / 4294967296) (dY z%4294967296) (dR x y z) (eX x y z%4294967296) (Prod.fst s) (Prod.snd s)∧Prod.snd s<4294967296) x_1 }) (fun (x_1:{ x_1:Int×Int // (fun (s:Int×Int)=>ke (dY z / 4294967296) (dY z%4294967296) (dR x y z) (eX x y z%4294967296) (Prod.fst s) (Prod.snd s)∧Prod.snd s<4294967296) x_1 })=>aY [2,8,9,10,14,15,17,18,16] [Zu (dY z),Zu (↑(gz z):Int),Zu (dY z / 4294967296),Zu (dY z%4294967296),Zu (eX x y z%4294967296),Zu (dQ x y z),Zu (dR x y z),Zu (Prod.fst (Subtype.val x_1)),Zu (Prod.snd (Subtype.val x_1))] []) (fun (x_1:{ x_1:Int×Int // (fun (s:Int×Int)=>ke (dY z / 4294967296) (dY z%4294967296) (dR x y z) (eX x y z%4294967296) (Prod.fst s) (Prod.snd s)∧Prod.snd s<4294967296) x_1 })=>(fun (s:Int×Int)=>toNat (Prod.fst s)) (Subtype.val x_1)) (⟨(dR x y z / (dY z / 4294967296),dR x y z - dR x y z / (dY z / 4294967296)*(dY z / 4294967296)),my.init (Div.zL hv)⟩) [2,8,9,10,14,15,17,18,16] [] [Zu (dY z),Zu (↑(gz z):Int),Zu (dY z / 4294967296),Zu (dY z%4294967296),Zu (eX x y z%4294967296),Zu (wrap .u64 ((x14.1).1 - 1)),Zu (wrap .u64 (wrap .u64 (wrap .u64 (l9 x y z*4294967296)+eX x y z / 4294967296) - wrap .u64 (wrap .u64 ((x14.1).1 - 1)*dY z))),Zu (wrap .u64 (Int.tdiv (wrap .u64 (wrap .u64 (wrap .u64 (l9 x y z*4294967296)+eX x y z / 4294967296) - wrap .u64 (wrap .u64 ((x14.1).1 - 1)*dY z))) (dY z / 4294967296))),Zu (wrap .u64 (wrap .u64 (wrap .u64 (wrap .u64 (l9 x y z*4294967296)+eX x y z / 4294967296) - wrap .u64 (wrap .u64 ((x14.1).1 - 1)*dY z)) - wrap .u64 (wrap .u64 (Int.tdiv (wrap .u64 (wrap .u64 (wrap .u64 (l9 x y z*4294967296)+eX x y z / 4294967296) - wrap .u64 (wrap .u64 ((x14.1).1 - 1)*dY z))) (dY z / 4294967296))*(dY z / 4294967296))))] [] (fun x18=>(.br (decide ((x18.1).1≥4294967296)||decide (wrap .u64 ((x18.1).1*(dY z%4294967296))>wrap .u64 (wrap .u64 ((4294967296:Int)*(x18.1).2)+eX x y z%4294967296))) (.br (decide (wrap .u64 ((x18.1).2+dY z / 4294967296)≥4294967296)) (.bj (0≤(↑(gz z):Int)) (.out (.aX [Zu (wrap .u64 (wrap .u64 (dQ x y z*4294967296)+wrap .u64 ((x18.1).1 - 1))),Zu (Int.fdiv (wrap .u64 (wrap .u64 (wrap .u64 (dR x y z*4294967296)+eX x y z%4294967296) - wrap .u64 (wrap .u64 ((x18.1).1 - 1)*dY z))) ((2:Int)^min y3 64))]) [] y1 [])) (.again (bh 0 (fun (x_1:{ x_1:Int×Int // (fun (s:Int×Int)=>ke (dY z / 4294967296) (dY z%4294967296) (dR x y z) (eX x y z%4294967296) (Prod.fst s) (Prod.snd s)∧Prod.snd s<4294967296) x_1 })=>aY [2,8,9,10,14,15,17,18,16] [Zu (dY z),Zu (↑(gz z):Int),Zu (dY z / 4294967296),Zu (dY z%4294967296),Zu (eX x y z%4294967296),Zu (dQ x y z),Zu (dR x y z),Zu (Prod.fst (Subtype.val x_1)),Zu (Prod.snd (Subtype.val x_1))] []) (fun (x_1:{ x_1:Int×Int // (fun (s:Int×Int)=>ke (dY z / 4294967296) (dY z%4294967296) (dR x y z) (eX x y z%4294967296) (Prod.fst s) (Prod.snd s)∧Prod.snd s<4294967296) x_1 })=>(fun (s:Int×Int)=>toNat (Prod.fst s)) (Subtype.val x_1)) x18) [2,8,9,10,14,15,17,18,16] [] [Zu (dY z),Zu (↑(gz z):Int),Zu (dY z / 4294967296),Zu (dY z%4294967296),Zu (eX x y z%4294967296),Zu (dQ x y z),Zu (dR x y z),Zu (wrap .u64 ((x18.1).1 - 1)),Zu (wrap .u64 ((x18.1).2+dY z / 4294967296))] [])) (.bj (0≤(↑(gz z):Int)) (.out (.aX [Zu (wrap .u64 (wrap .u64 (dQ x y z*4294967296)+(x18.1).1)),Zu (Int.fdiv (wrap .u64 (wrap .u64 (wrap .u64 (dR x y z*4294967296)+eX x y z%4294967296) - wrap .u64 ((x18.1).1*dY z))) ((2:Int)^min y3 64))]) [] y1 [])))))) (.again (bh 0 (fun (x_1:{ x_1:Int×Int // (fun (s:Int×Int)=>ke (dY z / 4294967296) (dY z%4294967296) (l9 x y z) (eX x y z / 4294967296) (Prod.fst s) (Prod.snd s)∧Prod.snd s<4294967296) x_1 })=>aY [2,8,9,10,14,11,13,15,16] [Zu (dY z),Zu (↑(gz z):Int),Zu (dY z / 4294967296),Zu (dY z%4294967296),Zu (eX x y z%4294967296),Zu (l9 x y z),Zu (eX x y z / 4294967296),Zu (Prod.fst (Subtype.val x_1)),Zu (Prod.snd (Subtype.val x_1))] []) (fun (x_1:{ x_1:Int×Int // (fun (s:Int×Int)=>ke (dY z / 4294967296) (dY z%4294967296) (l9 x y z) (eX x y z / 4294967296) (Prod.fst s) (Prod.snd s)∧Prod.snd s<4294967296) x_1 })=>(fun (s:Int×Int)=>toNat (Prod.fst s)) (Subtype.val x_1)) x14) [2,8,9,10,14,11,13,15,16] [] [Zu (dY z),Zu (↑(gz z):Int),Zu (dY z / 4294967296),Zu (dY z%4294967296),Zu (eX x y z%4294967296),Zu (l9 x y z),Zu (eX x y z / 4294967296),Zu (wrap .u64 ((x14.1).1 - 1)),Zu (wrap .u64 ((x14.1).2+dY z / 4294967296))] [])) (.bj (dY z / 4294967296≠(0:Int)) (.loop ({ x_1:Int×Int // (fun (s:Int×Int)=>ke (dY z / 4294967296) (dY z%4294967296) (dR x y z) (eX x y z%4294967296) (Prod.fst s) (Prod.snd s)∧Prod.snd s<4294967296) x_1 }) (fun (x_1:{ x_1:Int×Int // (fun (s:Int×Int)=>ke (dY z / 4294967296) (dY z%4294967296) (dR x y z) (eX x y z%4294967296) (Prod.fst s) (Prod.snd s)∧Prod.snd s<4294967296) x_1 })=>aY [2,8,9,10,14,15,17,18,16] [Zu (dY z),Zu (↑(gz z):Int),Zu (dY z / 4294967296),Zu (dY z%4294967296),Zu (eX x y z%4294967296),Zu (dQ x y z),Zu (dR x y z),Zu (Prod.fst (Subtype.val x_1)),Zu (Prod.snd (Subtype.val x_1))] []) (fun (x_1:{ x_1:Int×Int // (fun (s:Int×Int)=>ke (dY z / 4294967296) (dY z%4294967296) (dR x y z) (eX x y z%4294967296) (Prod.fst s) (Prod.snd s)∧Prod.snd s<4294967296) x_1 })=>(fun (s:Int×Int)=>toNat (Prod.fst s)) (Subtype.val x_1)) (⟨(dR x y z / (dY z / 4294967296),dR x y z - dR x y z / (dY z / 4294967296)*(dY z / 4294967296)),my.init (Div.zL hv)⟩) [2,8,9,10,14,15,17,18,16] [] [Zu (dY z),Zu (↑(gz z):Int),Zu (dY z / 4294967296),Zu (dY z%4294967296),Zu (eX x y z%4294967296),Zu (x14.1).1,Zu (wrap .u64 (wrap .u64 (wrap .u64 (l9 x y z*4294967296)+eX x y z / 4294967296) - wrap .u64 ((x14.1).1*dY z))),Zu (wrap .u64 (Int.tdiv (wrap .u64 (wrap .u64 (wrap .u64 (l9 x y z*4294967296)+eX x y z / 4294967296) - wrap .u64 ((x14.1).1*dY z))) (dY z / 4294967296))),Zu (wrap .u64 (wrap .u64 (wrap .u64 (wrap .u64 (l9 x y z*4294967296)+eX x y z / 4294967296) - wrap .u64 ((x14.1).1*dY z)) - wrap .u64 (wrap .u64 (Int.tdiv (wrap .u64 (wrap .u64 (wrap .u64 (l9 x y z*4294967296)+eX x y z / 4294967296) - wrap .u64 ((x14.1).1*dY z))) (dY z / 4294967296))*(dY z / 4294967296))))] [] (fun x28=>(.br (decide ((x28.1).1≥4294967296)||decide (wrap .u64 ((x28.1).1*(dY z%4294967296))>wrap .u64 (wrap .u64 ((4294967296:Int)*(x28.1).2)+eX x y z%4294967296))) (.br (decide (wrap .u64 ((x28.1).2+dY z / 4294967296)≥4294967296)) (.bj (0≤(↑(gz z):Int)) (.out (.aX [Zu (wrap .u64 (wrap .u64 (dQ x y z*4294967296)+wrap .u64 ((x28.1).1 - 1))),Zu (Int.fdiv (wrap .u64 (wrap .u64 (wrap .u64 (dR x y z*4294967296)+eX x y z%4294967296) - wrap .u64 (wrap .u64 ((x28.1).1 - 1)*dY z))) ((2:Int)^min y3 64))]) [] y1 [])) (.again (bh 0 (fun (x_1:{ x_1:Int×Int // (fun (s:Int×Int)=>ke (dY z / 4294967296) (dY z%4294967296) (dR x y z) (eX x y z%4294967296) (Prod.fst s) (Prod.snd s)∧Prod.snd s<4294967296) x_1 })=>aY [2,8,9,10,14,15,17,18,16] [Zu (dY z),Zu (↑(gz z):Int),Zu (dY z / 4294967296),Zu (dY z%4294967296),Zu (eX x y z%4294967296),Zu (dQ x y z),Zu (dR x y z),Zu (Prod.fst (Subtype.val x_1)),Zu (Prod.snd (Subtype.val x_1))] []) (fun (x_1:{ x_1:Int×Int // (fun (s:Int×Int)=>ke (dY z / 4294967296) (dY z%4294967296) (dR x y z) (eX x y z%4294967296) (Prod.fst s) (Prod.snd s)∧Prod.snd s<4294967296) x_1 })=>(fun (s:Int×Int)=>toNat (Prod.fst s)) (Subtype.val x_1)) x28) [2,8,9,10,14,15,17,18,16] [] [Zu (dY z),Zu (↑(gz z):Int),Zu (dY z / 4294967296),Zu (dY z%4294967296),Zu (eX x y z%4294967296),Zu (dQ x y z),Zu (dR x y z),Zu (wrap .u64 ((x28.1).1 - 1)),Zu (wrap .u64 ((x28.1).2+dY z / 4294967296))] [])) (.bj (0≤(↑(gz z):Int)) (.out (.aX [Zu (wrap .u64 (wrap .u64 (dQ x y z*4294967296)+(x28.1).1)),Zu (Int.fdiv (wrap .u64 (wrap .u64 (wrap .u64 (dR x y z*4294967296)+eX x y z%4294967296) - wrap .u64 ((x28.1).1*dY z))) ((2:Int)^min y3 64))]) [] y1 [])))))))))))))))))))
  (by kernel_rfl) ?_
 refine aL (fun h0=>?_) (fun h0=>?_)
 ·have g0:=ai h0
  exact (show False from (by exfalso;omega))
 ·have g0:=aj h0
  refine aL (fun h2=>?_) (fun h2=>?_)
  ·have g2:=af h2
   exact (show False from (by exfalso;omega))
  ·have g2:=aa h2
   refine aL (fun h4=>?_) (fun h4=>?_)
   ·have g4:=ai h4
    refine aD (by omega) ?_
    refine aD (by omega) ?_
    exact aq (ay.aX ⟨ay.of_eq (congrArg _ (by subst g4;rw [mA hy0,dy (Int.ediv_nonneg hy0 (by omega)) (Int.lt_of_le_of_lt (Int.ediv_le_self _ hy0) hy1)];simp)),ay.of_eq (congrArg _ (by subst g4;rw [bY hy0];simp)),trivial⟩)
   ·have g4:=aj h4
    refine aM (Jq (z) (by omega) (by assumption)) ?_
    refine aD (by rw [hv.s];omega) ?_
    refine aD (by rw [hv.s];omega) ?_
    refine aD (by rw [hv.s,dy (by omega) (by omega)];omega) ?_
    refine aD (by rw [hv.s];omega) ?_
    refine aD (by rw [hv.v2,du];omega) ?_
    refine aV (fun _ hs=>hs.le (⟨ay.of_eq (congrArg _ hv.v2),ay.of_eq (congrArg _ hv.s),ay.of_eq (congrArg _ (by rw [hv.v2,du];rfl)),ay.of_eq (congrArg _ (by rw [hv.v2,qh (by omega) (by omega)])),ay.of_eq (congrArg _ (by rw [hv.v10,qh (by unfold eX;omega) (by unfold eX;omega)])),ay.of_eq (congrArg _ hv.v11),ay.of_eq (congrArg _ (by rw [hv.v10,du];rfl)),ay.of_eq (congrArg _ (by rw [hv.v11,hv.v2,du];exact d1.q_w)),ay.of_eq (congrArg _ (by rw [hv.v11,hv.v2,du];exact d1.r_w)),trivial⟩) (trivial)) (fun x14=>?_)
    try (have q14:=x14.2;dsimp only at q14)
    refine aL (fun h15=>?_) (fun h15=>?_)
    ·have g15:=(aA af af) h15
     refine aL (fun h16=>?_) (fun h16=>?_)
     ·have g16:=af h16
      refine aD (by omega) ?_
      refine aV (fun _ hs=>hs.le (⟨.refl _,.refl _,.refl _,.refl _,.refl _,ay.of_eq (congrArg _ ((x14.2.1.uD d1 x14.2.2 g15 g16).trans (Sp.Div.mc z))),ay.of_eq (congrArg _ (hv.Au ((x14.2.1.uD d1 x14.2.2 g15 g16).trans (Sp.Div.mc z)))),ay.of_eq (congrArg _ (by rw [hv.Au ((x14.2.1.uD d1 x14.2.2 g15 g16).trans (Sp.Div.mc z))];exact d2.q_w)),ay.of_eq (congrArg _ (by rw [hv.Au ((x14.2.1.uD d1 x14.2.2 g15 g16).trans (Sp.Div.mc z))];exact d2.r_w)),trivial⟩) (trivial)) (fun x18=>?_)
      try (have q18:=x18.2;dsimp only at q18)
      refine aL (fun h19=>?_) (fun h19=>?_)
      ·have g19:=(aA af af) h19
       refine aL (fun h20=>?_) (fun h20=>?_)
       ·have g20:=af h20
        refine aD (by omega) ?_
        exact aq (ay.aX ⟨ay.of_eq (congrArg _ (hv.out (x18.2.1.uD d2 x18.2.2 g19 g20)).1),ay.of_eq (congrArg _ (hv.out (x18.2.1.uD d2 x18.2.2 g19 g20)).2),trivial⟩)
       ·have g20:=aa h20
        exact aN (⟨(x18.1.1 - 1,x18.1.2+dY z / 4294967296),x18.2.1.A7 d2 x18.2.2 g19 g20⟩) (fun _ hs=>hs.le (⟨.refl _,.refl _,.refl _,.refl _,.refl _,.refl _,.refl _,ay.of_eq (congrArg _ (x18.2.1.oa d2 x18.2.2 g19).1),ay.of_eq (congrArg _ (x18.2.1.oa d2 x18.2.2 g19).2),trivial⟩) (trivial)) (by have:=x18.2.1.more d2 (x18.2.1.nC d2 x18.2.2 g19);show toNat (x18.1.1 - 1)<toNat x18.1.1;omega)
      ·have g19:=(aw aa aa) h19
       refine aD (by omega) ?_
       exact aq (ay.aX ⟨ay.of_eq (congrArg _ (hv.out (x18.2.1.stop d2 (x18.2.1.kR d2 x18.2.2 g19))).1),ay.of_eq (congrArg _ (hv.out (x18.2.1.stop d2 (x18.2.1.kR d2 x18.2.2 g19))).2),trivial⟩)
     ·have g16:=aa h16
      exact aN (⟨(x14.1.1 - 1,x14.1.2+dY z / 4294967296),x14.2.1.A7 d1 x14.2.2 g15 g16⟩) (fun _ hs=>hs.le (⟨.refl _,.refl _,.refl _,.refl _,.refl _,.refl _,.refl _,ay.of_eq (congrArg _ (x14.2.1.oa d1 x14.2.2 g15).1),ay.of_eq (congrArg _ (x14.2.1.oa d1 x14.2.2 g15).2),trivial⟩) (trivial)) (by have:=x14.2.1.more d1 (x14.2.1.nC d1 x14.2.2 g15);show toNat (x14.1.1 - 1)<toNat x14.1.1;omega)
    ·have g15:=(aw aa aa) h15
     refine aD (by omega) ?_
     refine aV (fun _ hs=>hs.le (⟨.refl _,.refl _,.refl _,.refl _,.refl _,ay.of_eq (congrArg _ ((x14.2.1.stop d1 (x14.2.1.kR d1 x14.2.2 g15)).trans (Sp.Div.mc z))),ay.of_eq (congrArg _ (hv.Au ((x14.2.1.stop d1 (x14.2.1.kR d1 x14.2.2 g15)).trans (Sp.Div.mc z)))),ay.of_eq (congrArg _ (by rw [hv.Au ((x14.2.1.stop d1 (x14.2.1.kR d1 x14.2.2 g15)).trans (Sp.Div.mc z))];exact d2.q_w)),ay.of_eq (congrArg _ (by rw [hv.Au ((x14.2.1.stop d1 (x14.2.1.kR d1 x14.2.2 g15)).trans (Sp.Div.mc z))];exact d2.r_w)),trivial⟩) (trivial)) (fun x28=>?_)
     try (have q28:=x28.2;dsimp only at q28)
     refine aL (fun h29=>?_) (fun h29=>?_)
     ·have g29:=(aA af af) h29
      refine aL (fun h30=>?_) (fun h30=>?_)
      ·have g30:=af h30
       refine aD (by omega) ?_
       exact aq (ay.aX ⟨ay.of_eq (congrArg _ (hv.out (x28.2.1.uD d2 x28.2.2 g29 g30)).1),ay.of_eq (congrArg _ (hv.out (x28.2.1.uD d2 x28.2.2 g29 g30)).2),trivial⟩)
      ·have g30:=aa h30
       exact aN (⟨(x28.1.1 - 1,x28.1.2+dY z / 4294967296),x28.2.1.A7 d2 x28.2.2 g29 g30⟩) (fun _ hs=>hs.le (⟨.refl _,.refl _,.refl _,.refl _,.refl _,.refl _,.refl _,ay.of_eq (congrArg _ (x28.2.1.oa d2 x28.2.2 g29).1),ay.of_eq (congrArg _ (x28.2.1.oa d2 x28.2.2 g29).2),trivial⟩) (trivial)) (by have:=x28.2.1.more d2 (x28.2.1.nC d2 x28.2.2 g29);show toNat (x28.1.1 - 1)<toNat x28.1.1;omega)
     ·have g29:=(aw aa aa) h29
      refine aD (by omega) ?_
      exact aq (ay.aX ⟨ay.of_eq (congrArg _ (hv.out (x28.2.1.stop d2 (x28.2.1.kR d2 x28.2.2 g29))).1),ay.of_eq (congrArg _ (hv.out (x28.2.1.stop d2 (x28.2.1.kR d2 x28.2.2 g29))).2),trivial⟩)
theorem sJ (a b n:Int) (ha:0≤a) (ha':a<18446744073709551616) (hb:0≤b) (hb':b<18446744073709551616) (hn:n<18446744073709551616) (hab:a*b<n*18446744073709551616):Pure Tryz.prog aZ 262 [.int .u64 a,.int .u64 b,.int .u64 n] (.int .u64 (a*b%n)):=by
 have h0:=Int.mul_nonneg ha hb
 refine ar (own:=bq) Tryz.func262 (by kernel_rfl) mixed (by kernel_rfl)
  (.sc true 264 [Zu a,Zu b] (.aX [Zu (a*b / 18446744073709551616),Zu (a*b%18446744073709551616)]) (.sc true 265 [Zu (a*b / 18446744073709551616),Zu (a*b%18446744073709551616),Zu n] (.aX [Zu ((a*b / 18446744073709551616*18446744073709551616+a*b%18446744073709551616) / n),Zu ((a*b / 18446744073709551616*18446744073709551616+a*b%18446744073709551616)%n)]) (.out (Zu ((a*b / 18446744073709551616*18446744073709551616+a*b%18446744073709551616)%n)) [] (Zu (a*b%n)) [])))
  (by kernel_rfl) ?_
 refine aM (yb (a) (b) (by assumption) (by assumption) (by assumption) (by assumption)) ?_
 refine aM (yz (a*b / (18446744073709551616:Int)) (a*b%(18446744073709551616:Int)) (n) (⟨by omega,by omega,by omega,by omega,by omega⟩)) ?_
 exact aq (ay.of_eq (congrArg _ (by rw [show a*b / 18446744073709551616*18446744073709551616+a*b%18446744073709551616=a*b by omega])))
theorem KR (a e n:Int) (ha:0≤a) (ha':a<n) (he:0≤e) (he':e<18446744073709551616) (hn:2≤n) (hn':n<18446744073709551616):Pure Tryz.prog aZ 261 [.int .u64 a,.int .u64 e,.int .u64 n] (.int .u64 (a^e.toNat%n)):=by
 refine ar (own:=bq) Tryz.func261 (by kernel_rfl) mixed (by kernel_rfl)
  (.loop ({ x:Int×Int×Int // (fun (s:Int×Int×Int)=>iF a (toNat e) n s∧Prod.snd (Prod.snd s)<18446744073709551616) x }) (fun (x:{ x:Int×Int×Int // (fun (s:Int×Int×Int)=>iF a (toNat e) n s∧Prod.snd (Prod.snd s)<18446744073709551616) x })=>aY [2,7,0,1] [Zu n,Zu (Prod.fst (x.1)),Zu (Prod.fst (Prod.snd (x.1))),Zu (Prod.snd (Prod.snd (x.1)))] []) (fun (x:{ x:Int×Int×Int // (fun (s:Int×Int×Int)=>iF a (toNat e) n s∧Prod.snd (Prod.snd s)<18446744073709551616) x })=>(fun (s:Int×Int×Int)=>toNat (Prod.snd (Prod.snd s))) (x.1)) (⟨((1:Int)%n,a,e),⟨iF.start ha ha' he,he'⟩⟩) [2,7,0,1] [] [Zu n,Zu 1,Zu a,Zu e] [] (fun x0=>(.br (decide ((Prod.snd (x0.1)).2>0)) (.br (wrap .u64 (↑(BitVec.toNat (BitVec.ofInt 64 (Prod.snd (x0.1)).2 &&& BitVec.ofInt 64 (1:Int))):Int)==1) (.sc true 262 [Zu (x0.1).1,Zu (Prod.snd (x0.1)).1,Zu n] (Zu ((x0.1).1*(Prod.snd (x0.1)).1%n)) (.sc true 262 [Zu (Prod.snd (x0.1)).1,Zu (Prod.snd (x0.1)).1,Zu n] (Zu ((Prod.snd (x0.1)).1*(Prod.snd (x0.1)).1%n)) (.again (bh 0 (fun (x:{ x:Int×Int×Int // (fun (s:Int×Int×Int)=>iF a (toNat e) n s∧Prod.snd (Prod.snd s)<18446744073709551616) x })=>aY [2,7,0,1] [Zu n,Zu (Prod.fst (x.1)),Zu (Prod.fst (Prod.snd (x.1))),Zu (Prod.snd (Prod.snd (x.1)))] []) (fun (x:{ x:Int×Int×Int // (fun (s:Int×Int×Int)=>iF a (toNat e) n s∧Prod.snd (Prod.snd s)<18446744073709551616) x })=>(fun (s:Int×Int×Int)=>toNat (Prod.snd (Prod.snd s))) (x.1)) x0) [2,7,0,1] [] [Zu n,Zu ((x0.1).1*(Prod.snd (x0.1)).1%n),Zu ((Prod.snd (x0.1)).1*(Prod.snd (x0.1)).1%n),Zu (Int.fdiv (Prod.snd (x0.1)).2 ((2:Int)^1))] []))) (.sc true 262 [Zu (Prod.snd (x0.1)).1,Zu (Prod.snd (x0.1)).1,Zu n] (Zu ((Prod.snd (x0.1)).1*(Prod.snd (x0.1)).1%n)) (.again (bh 0 (fun (x:{ x:Int×Int×Int // (fun (s:Int×Int×Int)=>iF a (toNat e) n s∧Prod.snd (Prod.snd s)<18446744073709551616) x })=>aY [2,7,0,1] [Zu n,Zu (Prod.fst (x.1)),Zu (Prod.fst (Prod.snd (x.1))),Zu (Prod.snd (Prod.snd (x.1)))] []) (fun (x:{ x:Int×Int×Int // (fun (s:Int×Int×Int)=>iF a (toNat e) n s∧Prod.snd (Prod.snd s)<18446744073709551616) x })=>(fun (s:Int×Int×Int)=>toNat (Prod.snd (Prod.snd s))) (x.1)) x0) [2,7,0,1] [] [Zu n,Zu (x0.1).1,Zu ((Prod.snd (x0.1)).1*(Prod.snd (x0.1)).1%n),Zu (Int.fdiv (Prod.snd (x0.1)).2 ((2:Int)^1))] []))) (.out (Zu (x0.1).1) [] (Zu (a^toNat e%n)) []))))
  (by kernel_rfl) ?_
 refine aV (fun _ hs=>hs.le (⟨.refl _,ay.of_eq (congrArg _ (Int.emod_eq_of_lt (by omega) (by omega)).symm),.refl _,.refl _,trivial⟩) (trivial)) (fun x0=>?_)
 try (have q0:=x0.2;dsimp only at q0)
 have i0:=x0.2.1.x0;have i1:=x0.2.1.x1;have i2:=x0.2.1.a0;have i3:=x0.2.1.a1;have i4:=x0.2.1.e0;have i5:=x0.2.2;dsimp only at i0 i1 i2 i3 i4 i5;have b0:=Og i4 i5
 refine aL (fun h1=>?_) (fun h1=>?_)
 ·have g1:=af h1
  refine aL (fun h2=>?_) (fun h2=>?_)
  ·have g2:=ai h2
   refine aM (sJ ((x0.1).1) ((Prod.snd (x0.1)).1) (n) (by assumption) (by omega) (by assumption) (by omega) (by assumption) (by exact mG (by omega) (by omega) (by omega) (by omega))) ?_
   refine aM (sJ ((Prod.snd (x0.1)).1) ((Prod.snd (x0.1)).1) (n) (by assumption) (by omega) (by assumption) (by omega) (by assumption) (by exact mG (by omega) (by omega) (by omega) (by omega))) ?_
   exact aN (⟨(x0.1.1*x0.1.2.1%n,x0.1.2.1*x0.1.2.1%n,x0.1.2.2 / 2),x0.2.1.AP (by omega) (b0.symm.trans g2),by dsimp only;omega⟩) (fun _ hs=>hs.le (⟨.refl _,.refl _,.refl _,ay.of_eq (congrArg _ (xt _)),trivial⟩) (trivial)) (by show toNat (x0.1.2.2 / 2)<toNat x0.1.2.2;omega)
  ·have g2:=aj h2
   refine aM (sJ ((Prod.snd (x0.1)).1) ((Prod.snd (x0.1)).1) (n) (by assumption) (by omega) (by assumption) (by omega) (by assumption) (by exact mG (by omega) (by omega) (by omega) (by omega))) ?_
   exact aN (⟨(x0.1.1,x0.1.2.1*x0.1.2.1%n,x0.1.2.2 / 2),x0.2.1.uN (by omega) (by rw [b0] at g2;omega),by dsimp only;omega⟩) (fun _ hs=>hs.le (⟨.refl _,.refl _,.refl _,ay.of_eq (congrArg _ (xt _)),trivial⟩) (trivial)) (by show toNat (x0.1.2.2 / 2)<toNat x0.1.2.2;omega)
 ·have g1:=aa h1
  exact aq (ay.of_eq (congrArg _ (x0.2.1.uE g1)))
theorem rj (a m:Int):Pure Tryz.prog aZ 263 [.int .i64 a,.int .i64 m] (.bool (decide (a≥0)&&decide (a<m))):=by
 refine ar (own:=bq) Tryz.func263 (by kernel_rfl) mixed (by kernel_rfl)
  (let y0:AV:=(.bool (decide (a≥0)&&decide (a<m)));(.out y0 [] y0 []))
  (by kernel_rfl) ?_
 exact aq (ay.of_eq rfl)
theorem mg (a b m:Int):Pure Tryz.prog aZ 219 [.int .i64 a,.int .i64 b,.int .i64 m] (.int .i64 (cA a b m)):=by
 refine ar (own:=bq) Tryz.func219 (by kernel_rfl) mixed (by kernel_rfl)
  (.br (decide (m<1)||decide (m≥2305843009213693952)) (.out (Zi 1) [] (Zi (cA a b m)) []) (.sc true 263 [Zi a,Zi m] (.bool (decide (a≥0)&&decide (a<m))) (.sc ((!(decide (a≥0)&&decide (a<m)))==false) 263 [Zi b,Zi m] (.bool (decide (b≥0)&&decide (b<m))) (.br (!(decide (a≥0)&&decide (a<m)) || !(decide (b≥0)&&decide (b<m))) (.out (Zi 2) [] (Zi (cA a b m)) []) (.out (Zi 0) [] (Zi (cA a b m)) [])))))
  (by kernel_rfl) ?_
 refine aL (fun h0=>?_) (fun h0=>?_)
 ·have g0:=(aA af af) h0
  exact aq (ay.of_eq (congrArg _ (Mh g0).symm))
 ·have g0:=(aw aa aa) h0
  refine aM (rj (a) (m)) ?_
  refine aW (fun h3=>rj (b) (m)) ?_
  refine aL (fun h4=>?_) (fun h4=>?_)
  ·have g4:=(aA (aC (ao aa aa)) (aC (ao aa aa))) h4
   exact aq (ay.of_eq (congrArg _ (M6 g0 g4).symm))
  ·have g4:=(aw (az (ah af af)) (az (ah af af))) h4
   exact aq (ay.of_eq (congrArg _ (NJ g0 g4).symm))
theorem oz (a b m:Int) (ha:0≤a) (ha':a<m) (hb:0≤b) (hb':b<m) (hm:m<2305843009213693952):Pure Tryz.prog aZ 220 [.int .i64 a,.int .i64 b,.int .i64 m] (.int .i64 (a*b%m)):=by
 have e1:=dy (n:=a) (by omega) (by omega)
 have e2:=dy (n:=b) (by omega) (by omega)
 have e3:=dy (n:=m) (by omega) (by omega)
 have k:=MX ha ha' hb hb' hm
 refine ar (own:=bq) Tryz.func220 (by kernel_rfl) mixed (by kernel_rfl)
  (.sc true 264 [Zu (wrap .u64 a),Zu (wrap .u64 b)] (.aX [Zu (wrap .u64 a*wrap .u64 b / 18446744073709551616),Zu (wrap .u64 a*wrap .u64 b%18446744073709551616)]) (.sc true 265 [Zu (wrap .u64 a*wrap .u64 b / 18446744073709551616),Zu (wrap .u64 a*wrap .u64 b%18446744073709551616),Zu (wrap .u64 m)] (.aX [Zu ((wrap .u64 a*wrap .u64 b / 18446744073709551616*18446744073709551616+wrap .u64 a*wrap .u64 b%18446744073709551616) / wrap .u64 m),Zu ((wrap .u64 a*wrap .u64 b / 18446744073709551616*18446744073709551616+wrap .u64 a*wrap .u64 b%18446744073709551616)%wrap .u64 m)]) (.out (Zi (wrap .i64 ((wrap .u64 a*wrap .u64 b / 18446744073709551616*18446744073709551616+wrap .u64 a*wrap .u64 b%18446744073709551616)%wrap .u64 m))) [] (Zi (a*b%m)) [])))
  (by kernel_rfl) ?_
 refine aM (yb (wrap .u64 a) (wrap .u64 b) (by rw [e1];omega) (by rw [e1];omega) (by rw [e2];omega) (by rw [e2];omega)) ?_
 refine aM (yz (wrap .u64 a*wrap .u64 b / (18446744073709551616:Int)) (wrap .u64 a*wrap .u64 b%(18446744073709551616:Int)) (wrap .u64 m) (⟨by rw [e1,e2];omega,by rw [e1,e2,e3];omega,by rw [e3];omega,by omega,by omega⟩)) ?_
 exact aq (ay.of_eq (congrArg _ (by rw [e1,e2,e3,show a*b / 18446744073709551616*18446744073709551616+a*b%18446744073709551616=a*b by omega];have:=Int.emod_nonneg (a*b) (show m≠0 by omega);have:=Int.emod_lt_of_pos (a*b) (show 0<m by omega);exact wI (by omega) (by omega))))
theorem Iz (a b m:Int):Pure Tryz.prog aZ 280 [.int .i64 a,.int .i64 b,.int .i64 m] (.aX [.int .i64 (kd (cA a b m) ((a+b)%m)),.int .i64 (cA a b m)]):=by
 refine ar (own:=bq) Tryz.func280 (by kernel_rfl) mixed (by kernel_rfl)
  (let y0:AV:=(.aX [Zi (kd (cA a b m) ((a+b)%m)),Zi (cA a b m)]);(.sc true 219 [Zi a,Zi b,Zi m] (Zi (cA a b m)) (.br (cA a b m != 0) (.out (.aX [Zi 0,Zi (cA a b m)]) [] y0 []) (.bj (m≠(0:Int)) (.out (.aX [Zi (Int.tmod (wrap .i64 (a+b)) m),Zi 0]) [] y0 [])))))
  (by kernel_rfl) ?_
 refine aM (mg (a) (b) (m)) ?_
 refine aL (fun h1=>?_) (fun h1=>?_)
 ·have g1:=aU h1
  exact aq (ay.aX ⟨ay.of_eq (congrArg _ (CU g1).symm),ay.refl _,trivial⟩)
 ·have g1:=aR h1
  refine aD (by have:=fo g1;omega) ?_
  exact aq (ay.aX ⟨ay.of_eq (congrArg _ (by have c:=fo g1;rw [g1,GU (by omega) (by omega) (by omega) (by omega) (by omega)];rfl)),ay.of_eq (congrArg _ g1.symm),trivial⟩)
theorem wm (a b m:Int):Pure Tryz.prog aZ 184 [.int .i64 a,.int .i64 b,.int .i64 m] (.aX [.int .i64 (kd (cA a b m) (a*b%m)),.int .i64 (cA a b m)]):=by
 refine ar (own:=bq) Tryz.func184 (by kernel_rfl) mixed (by kernel_rfl)
  (let y0:AV:=(.aX [Zi (kd (cA a b m) (a*b%m)),Zi (cA a b m)]);(.sc true 219 [Zi a,Zi b,Zi m] (Zi (cA a b m)) (.br (cA a b m != 0) (.out (.aX [Zi 0,Zi (cA a b m)]) [] y0 []) (.sc true 220 [Zi a,Zi b,Zi m] (Zi (a*b%m)) (.out (.aX [Zi (a*b%m),Zi 0]) [] y0 [])))))
  (by kernel_rfl) ?_
 refine aM (mg (a) (b) (m)) ?_
 refine aL (fun h1=>?_) (fun h1=>?_)
 ·have g1:=aU h1
  exact aq (ay.aX ⟨ay.of_eq (congrArg _ (CU g1).symm),ay.refl _,trivial⟩)
 ·have g1:=aR h1
  refine aM (oz (a) (b) (m) (by have:=fo g1;omega) (by have:=fo g1;omega) (by have:=fo g1;omega) (by have:=fo g1;omega) (by have:=fo g1;omega)) ?_
  exact aq (ay.of_eq (by rw [g1];rfl))
theorem nH (a e m:Int) (he:e≤9223372036854775807):Pure Tryz.prog aZ 142 [.int .i64 a,.int .i64 e,.int .i64 m] (.aX [.int .i64 (kd (eT a e m) (a^e.toNat%m)),.int .i64 (eT a e m)]):=by
 refine ar (own:=bq) Tryz.func142 (by kernel_rfl) mixed (by kernel_rfl)
  (let y0:AV:=(.aX [Zi (kd (eT a e m) (a^toNat e%m)),Zi (eT a e m)]);(.sc true 219 [Zi a,Zi a,Zi m] (Zi (cA a a m)) (.br (cA a a m != 0) (.out (.aX [Zi 0,Zi (cA a a m)]) [] y0 []) (.br (decide (e<0)) (.out (.aX [Zi 0,Zi 2]) [] y0 []) (.bj (m≠(0:Int)) (.loop ({ x:Int×Int×Int // (fun (s:Int×Int×Int)=>(cA a a m=(0:Int)→(0:Int)≤e→iF a (toNat e) m s)∧Prod.snd (Prod.snd s)≤9223372036854775807) x }) (fun (x:{ x:Int×Int×Int // (fun (s:Int×Int×Int)=>(cA a a m=(0:Int)→(0:Int)≤e→iF a (toNat e) m s)∧Prod.snd (Prod.snd s)≤9223372036854775807) x })=>aY [2,9,0,1] [Zi m,Zi (Prod.fst (x.1)),Zi (Prod.fst (Prod.snd (x.1))),Zi (Prod.snd (Prod.snd (x.1)))] []) (fun (x:{ x:Int×Int×Int // (fun (s:Int×Int×Int)=>(cA a a m=(0:Int)→(0:Int)≤e→iF a (toNat e) m s)∧Prod.snd (Prod.snd s)≤9223372036854775807) x })=>(fun (s:Int×Int×Int)=>toNat (Prod.snd (Prod.snd s))) (x.1)) (⟨((1:Int)%m,a,e),iF.Kz he⟩) [2,9,0,1] [] [Zi m,Zi (Int.tmod (1:Int) m),Zi a,Zi e] [] (fun x6=>(.br (decide ((Prod.snd (x6.1)).2>0)) (.br (wrap .i64 (↑(BitVec.toNat (BitVec.ofInt 64 (Prod.snd (x6.1)).2 &&& BitVec.ofInt 64 (1:Int))):Int)==1) (.sc true 220 [Zi (x6.1).1,Zi (Prod.snd (x6.1)).1,Zi m] (Zi ((x6.1).1*(Prod.snd (x6.1)).1%m)) (.sc true 220 [Zi (Prod.snd (x6.1)).1,Zi (Prod.snd (x6.1)).1,Zi m] (Zi ((Prod.snd (x6.1)).1*(Prod.snd (x6.1)).1%m)) (.again (bh 0 (fun (x:{ x:Int×Int×Int // (fun (s:Int×Int×Int)=>(cA a a m=(0:Int)→(0:Int)≤e→iF a (toNat e) m s)∧Prod.snd (Prod.snd s)≤9223372036854775807) x })=>aY [2,9,0,1] [Zi m,Zi (Prod.fst (x.1)),Zi (Prod.fst (Prod.snd (x.1))),Zi (Prod.snd (Prod.snd (x.1)))] []) (fun (x:{ x:Int×Int×Int // (fun (s:Int×Int×Int)=>(cA a a m=(0:Int)→(0:Int)≤e→iF a (toNat e) m s)∧Prod.snd (Prod.snd s)≤9223372036854775807) x })=>(fun (s:Int×Int×Int)=>toNat (Prod.snd (Prod.snd s))) (x.1)) x6) [2,9,0,1] [] [Zi m,Zi ((x6.1).1*(Prod.snd (x6.1)).1%m),Zi ((Prod.snd (x6.1)).1*(Prod.snd (x6.1)).1%m),Zi (Int.fdiv (Prod.snd (x6.1)).2 ((2:Int)^1))] []))) (.sc true 220 [Zi (Prod.snd (x6.1)).1,Zi (Prod.snd (x6.1)).1,Zi m] (Zi ((Prod.snd (x6.1)).1*(Prod.snd (x6.1)).1%m)) (.again (bh 0 (fun (x:{ x:Int×Int×Int // (fun (s:Int×Int×Int)=>(cA a a m=(0:Int)→(0:Int)≤e→iF a (toNat e) m s)∧Prod.snd (Prod.snd s)≤9223372036854775807) x })=>aY [2,9,0,1] [Zi m,Zi (Prod.fst (x.1)),Zi (Prod.fst (Prod.snd (x.1))),Zi (Prod.snd (Prod.snd (x.1)))] []) (fun (x:{ x:Int×Int×Int // (fun (s:Int×Int×Int)=>(cA a a m=(0:Int)→(0:Int)≤e→iF a (toNat e) m s)∧Prod.snd (Prod.snd s)≤9223372036854775807) x })=>(fun (s:Int×Int×Int)=>toNat (Prod.snd (Prod.snd s))) (x.1)) x6) [2,9,0,1] [] [Zi m,Zi (x6.1).1,Zi ((Prod.snd (x6.1)).1*(Prod.snd (x6.1)).1%m),Zi (Int.fdiv (Prod.snd (x6.1)).2 ((2:Int)^1))] []))) (.out (.aX [Zi (x6.1).1,Zi 0]) [] y0 [])))))))))
  (by kernel_rfl) ?_
 refine aM (mg (a) (a) (m)) ?_
 refine aL (fun h1=>?_) (fun h1=>?_)
 ·have g1:=aU h1
  exact aq (ay.aX ⟨ay.of_eq (congrArg _ (by rw [BQ g1,CU g1])),ay.of_eq (congrArg _ (BQ g1).symm),trivial⟩)
 ·have g1:=aR h1
  refine aL (fun h3=>?_) (fun h3=>?_)
  ·have g3:=af h3
   exact aq (ay.of_eq (by rw [Lb g1 g3];rfl))
  ·have g3:=aa h3
   refine aD (by have:=fo g1;omega) ?_
   refine aV (fun _ hs=>hs.le (⟨.refl _,ay.of_eq (congrArg _ (bY (by decide))),.refl _,.refl _,trivial⟩) (trivial)) (fun x6=>?_)
   try (have q6:=x6.2;dsimp only at q6)
   have pw:=x6.2.1 g1 (by omega);have i0:=pw.x0;have i1:=pw.x1;have i2:=pw.a0;have i3:=pw.a1;have i4:=pw.e0;have i5:=x6.2.2;have c:=fo g1;have b0:=Lf i4 (by omega)
   refine aL (fun h7=>?_) (fun h7=>?_)
   ·have g7:=af h7
    refine aL (fun h8=>?_) (fun h8=>?_)
    ·have g8:=ai h8
     refine aM (oz ((x6.1).1) ((Prod.snd (x6.1)).1) (m) (by assumption) (by assumption) (by assumption) (by assumption) (by omega)) ?_
     refine aM (oz ((Prod.snd (x6.1)).1) ((Prod.snd (x6.1)).1) (m) (by assumption) (by assumption) (by assumption) (by assumption) (by omega)) ?_
     exact aN (⟨(x6.1.1*x6.1.2.1%m,x6.1.2.1*x6.1.2.1%m,x6.1.2.2 / 2),fun _ _=>pw.AP (by omega) (b0.symm.trans g8),by dsimp only;omega⟩) (fun _ hs=>hs.le (⟨.refl _,.refl _,.refl _,ay.of_eq (congrArg _ (xt _)),trivial⟩) (trivial)) (by show toNat (x6.1.2.2 / 2)<toNat x6.1.2.2;omega)
    ·have g8:=aj h8
     refine aM (oz ((Prod.snd (x6.1)).1) ((Prod.snd (x6.1)).1) (m) (by assumption) (by assumption) (by assumption) (by assumption) (by omega)) ?_
     exact aN (⟨(x6.1.1,x6.1.2.1*x6.1.2.1%m,x6.1.2.2 / 2),fun _ _=>pw.uN (by omega) (by rw [b0] at g8;omega),by dsimp only;omega⟩) (fun _ hs=>hs.le (⟨.refl _,.refl _,.refl _,ay.of_eq (congrArg _ (xt _)),trivial⟩) (trivial)) (by show toNat (x6.1.2.2 / 2)<toNat x6.1.2.2;omega)
   ·have g7:=aa h7
    exact aq (ay.of_eq (by rw [nN g1 g3,← pw.uE g7];rfl))
theorem zW (a m:Int):Pure Tryz.prog aZ 167 [.int .i64 a,.int .i64 m] (.aX [.int .i64 (kd (cA 0 0 m) (a%m)),.int .i64 (cA 0 0 m)]):=by
 refine ar (own:=bq) Tryz.func167 (by kernel_rfl) mixed (by kernel_rfl)
  (let y0:AV:=(.aX [Zi (kd (cA (0:Int) (0:Int) m) (a%m)),Zi (cA (0:Int) (0:Int) m)]);(.sc true 219 [Zi 0,Zi 0,Zi m] (Zi (cA (0:Int) (0:Int) m)) (.br (cA (0:Int) (0:Int) m != 0) (.out (.aX [Zi 0,Zi (cA (0:Int) (0:Int) m)]) [] y0 []) (.bj (m≠(0:Int)) (.br (decide (Int.tmod a m<0)) (.out (.aX [Zi (wrap .i64 (Int.tmod a m+m)),Zi 0]) [] y0 []) (.out (.aX [Zi (Int.tmod a m),Zi 0]) [] y0 []))))))
  (by kernel_rfl) ?_
 refine aM (mg ((0:Int)) ((0:Int)) (m)) ?_
 refine aL (fun h1=>?_) (fun h1=>?_)
 ·have g1:=aU h1
  exact aq (ay.aX ⟨ay.of_eq (congrArg _ (CU g1).symm),ay.refl _,trivial⟩)
 ·have g1:=aR h1
  refine aD (by have:=fo g1;omega) ?_
  refine aL (fun h4=>?_) (fun h4=>?_)
  ·have g4:=af h4
   exact aq (ay.of_eq (by have:=fo g1;rw [vB (by omega) (by omega) g4,g1];rfl))
  ·have g4:=aa h4
   exact aq (ay.of_eq (by have:=fo g1;rw [uK (by omega) g4,g1];rfl))
theorem ly (a m:Int) (hm:0<m) (hm':m≤9223372036854775807):Pure Tryz.prog aZ 215 [.int .i64 a,.int .i64 m] (.int .i64 (a%m)):=by
 refine ar (own:=bq) Tryz.func215 (by kernel_rfl) mixed (by kernel_rfl)
  (.bj (m≠(0:Int)) (.br (decide (Int.tmod a m<0)) (.out (Zi (wrap .i64 (Int.tmod a m+m))) [] (Zi (a%m)) []) (.out (Zi (Int.tmod a m)) [] (Zi (a%m)) [])))
  (by kernel_rfl) ?_
 refine aD (by omega) ?_
 refine aL (fun h1=>?_) (fun h1=>?_)
 ·have g1:=af h1
  exact aq (ay.of_eq (congrArg _ (vB hm hm' g1)))
 ·have g1:=aa h1
  exact aq (ay.of_eq (congrArg _ (uK hm g1)))
theorem iI (a b m:Int) (ha:0≤a) (ha':a<m) (hb:0≤b) (hb':b<m) (hm:m<2305843009213693952):Pure Tryz.prog aZ 139 [.int .i64 a,.int .i64 b,.int .i64 m] (.int .i64 (a*b%m)):=by
 refine ar (own:=bq) Tryz.func139 (by kernel_rfl) mixed (by kernel_rfl)
  (.br (decide (a<2147483648)&&decide (b<2147483648)) (.bj (m≠(0:Int)) (.out (Zi (Int.tmod (wrap .i64 (a*b)) m)) [] (Zi (a*b%m)) [])) (.loop ({ x:Int×Int×Int // (fun (s:Int×Int×Int)=>mq (a*b) m s∧Prod.snd (Prod.snd s)<m) x }) (fun (x:{ x:Int×Int×Int // (fun (s:Int×Int×Int)=>mq (a*b) m s∧Prod.snd (Prod.snd s)<m) x })=>aY [2,7,0,1] [Zi m,Zi (Prod.fst (x.1)),Zi (Prod.fst (Prod.snd (x.1))),Zi (Prod.snd (Prod.snd (x.1)))] []) (fun (x:{ x:Int×Int×Int // (fun (s:Int×Int×Int)=>mq (a*b) m s∧Prod.snd (Prod.snd s)<m) x })=>(fun (s:Int×Int×Int)=>toNat (Prod.snd (Prod.snd s))) (x.1)) (⟨((0:Int),a,b),⟨mq.start ha ha' hb,hb'⟩⟩) [2,7,0,1] [] [Zi m,Zi 0,Zi a,Zi b] [] (fun x3=>(.br (decide ((Prod.snd (x3.1)).2>0)) (.br (Int.tmod (Prod.snd (x3.1)).2 (2:Int)==1) (.bj (m≠(0:Int)) (.bj (m≠(0:Int)) (.again (bh 0 (fun (x:{ x:Int×Int×Int // (fun (s:Int×Int×Int)=>mq (a*b) m s∧Prod.snd (Prod.snd s)<m) x })=>aY [2,7,0,1] [Zi m,Zi (Prod.fst (x.1)),Zi (Prod.fst (Prod.snd (x.1))),Zi (Prod.snd (Prod.snd (x.1)))] []) (fun (x:{ x:Int×Int×Int // (fun (s:Int×Int×Int)=>mq (a*b) m s∧Prod.snd (Prod.snd s)<m) x })=>(fun (s:Int×Int×Int)=>toNat (Prod.snd (Prod.snd s))) (x.1)) x3) [2,7,0,1] [] [Zi m,Zi (Int.tmod (wrap .i64 ((x3.1).1+(Prod.snd (x3.1)).1)) m),Zi (Int.tmod (wrap .i64 ((Prod.snd (x3.1)).1+(Prod.snd (x3.1)).1)) m),Zi (wrap .i64 (Int.tdiv (Prod.snd (x3.1)).2 (2:Int)))] []))) (.bj (m≠(0:Int)) (.again (bh 0 (fun (x:{ x:Int×Int×Int // (fun (s:Int×Int×Int)=>mq (a*b) m s∧Prod.snd (Prod.snd s)<m) x })=>aY [2,7,0,1] [Zi m,Zi (Prod.fst (x.1)),Zi (Prod.fst (Prod.snd (x.1))),Zi (Prod.snd (Prod.snd (x.1)))] []) (fun (x:{ x:Int×Int×Int // (fun (s:Int×Int×Int)=>mq (a*b) m s∧Prod.snd (Prod.snd s)<m) x })=>(fun (s:Int×Int×Int)=>toNat (Prod.snd (Prod.snd s))) (x.1)) x3) [2,7,0,1] [] [Zi m,Zi (x3.1).1,Zi (Int.tmod (wrap .i64 ((Prod.snd (x3.1)).1+(Prod.snd (x3.1)).1)) m),Zi (wrap .i64 (Int.tdiv (Prod.snd (x3.1)).2 (2:Int)))] []))) (.out (Zi (x3.1).1) [] (Zi (a*b%m)) [])))))
  (by kernel_rfl) ?_
 refine aL (fun h0=>?_) (fun h0=>?_)
 ·have g0:=(ah af af) h0
  refine aD (by omega) ?_
  exact aq (ay.of_eq (congrArg _ (by rw [Ae ha hb g0,bY (Int.mul_nonneg ha hb)])))
 ·have g0:=(ao aa aa) h0
  refine aV (fun _ hs=>hs.le (⟨.refl _,.refl _,.refl _,.refl _,trivial⟩) (trivial)) (fun x3=>?_)
  try (have q3:=x3.2;dsimp only at q3)
  have i0:=x3.2.1.x0;have i1:=x3.2.1.x1;have i2:=x3.2.1.a0;have i3:=x3.2.1.a1;have i4:=x3.2.1.e0;have i5:=x3.2.2;dsimp only at i0 i1 i2 i3 i4 i5
  refine aL (fun h4=>?_) (fun h4=>?_)
  ·have g4:=af h4
   refine aL (fun h5=>?_) (fun h5=>?_)
   ·have g5:=ai h5
    refine aD (by omega) ?_
    refine aD (by omega) ?_
    exact aN (⟨((x3.1.1+x3.1.2.1)%m,(x3.1.2.1+x3.1.2.1)%m,x3.1.2.2 / 2),x3.2.1.AP (by omega) (by rw [← bY i4];exact g5),by dsimp only;omega⟩) (fun _ hs=>hs.le (⟨.refl _,ay.of_eq (congrArg _ (GU i0 i1 i2 i3 hm)),ay.of_eq (congrArg _ (GU i2 i3 i2 i3 hm)),ay.of_eq (congrArg _ (tX i4 (by omega))),trivial⟩) (trivial)) (by show toNat (x3.1.2.2 / 2)<toNat x3.1.2.2;omega)
   ·have g5:=aj h5
    refine aD (by omega) ?_
    exact aN (⟨(x3.1.1,(x3.1.2.1+x3.1.2.1)%m,x3.1.2.2 / 2),x3.2.1.uN (by omega) (by rw [bY i4] at g5;omega),by dsimp only;omega⟩) (fun _ hs=>hs.le (⟨.refl _,.refl _,ay.of_eq (congrArg _ (GU i2 i3 i2 i3 hm)),ay.of_eq (congrArg _ (tX i4 (by omega))),trivial⟩) (trivial)) (by show toNat (x3.1.2.2 / 2)<toNat x3.1.2.2;omega)
  ·have g4:=aa h4
   exact aq (ay.of_eq (congrArg _ (x3.2.1.uE g4)))
theorem jS (a e m:Int) (ha:0≤a) (ha':a<m) (he:0≤e) (he':e≤9223372036854775807) (hm:m<2305843009213693952):Pure Tryz.prog aZ 76 [.int .i64 a,.int .i64 e,.int .i64 m] (.int .i64 (a^e.toNat%m)):=by
 refine ar (own:=bq) Tryz.func76 (by kernel_rfl) mixed (by kernel_rfl)
  (.bj (m≠(0:Int)) (.loop ({ x:Int×Int×Int // (fun (s:Int×Int×Int)=>iF a (toNat e) m s∧Prod.snd (Prod.snd s)≤9223372036854775807) x }) (fun (x:{ x:Int×Int×Int // (fun (s:Int×Int×Int)=>iF a (toNat e) m s∧Prod.snd (Prod.snd s)≤9223372036854775807) x })=>aY [2,7,0,1] [Zi m,Zi (Prod.fst (x.1)),Zi (Prod.fst (Prod.snd (x.1))),Zi (Prod.snd (Prod.snd (x.1)))] []) (fun (x:{ x:Int×Int×Int // (fun (s:Int×Int×Int)=>iF a (toNat e) m s∧Prod.snd (Prod.snd s)≤9223372036854775807) x })=>(fun (s:Int×Int×Int)=>toNat (Prod.snd (Prod.snd s))) (x.1)) (⟨((1:Int)%m,a,e),⟨iF.start ha ha' he,he'⟩⟩) [2,7,0,1] [] [Zi m,Zi (Int.tmod (1:Int) m),Zi a,Zi e] [] (fun x1=>(.br (decide ((Prod.snd (x1.1)).2>0)) (.br (Int.tmod (Prod.snd (x1.1)).2 (2:Int)==1) (.sc true 139 [Zi (x1.1).1,Zi (Prod.snd (x1.1)).1,Zi m] (Zi ((x1.1).1*(Prod.snd (x1.1)).1%m)) (.sc true 139 [Zi (Prod.snd (x1.1)).1,Zi (Prod.snd (x1.1)).1,Zi m] (Zi ((Prod.snd (x1.1)).1*(Prod.snd (x1.1)).1%m)) (.again (bh 0 (fun (x:{ x:Int×Int×Int // (fun (s:Int×Int×Int)=>iF a (toNat e) m s∧Prod.snd (Prod.snd s)≤9223372036854775807) x })=>aY [2,7,0,1] [Zi m,Zi (Prod.fst (x.1)),Zi (Prod.fst (Prod.snd (x.1))),Zi (Prod.snd (Prod.snd (x.1)))] []) (fun (x:{ x:Int×Int×Int // (fun (s:Int×Int×Int)=>iF a (toNat e) m s∧Prod.snd (Prod.snd s)≤9223372036854775807) x })=>(fun (s:Int×Int×Int)=>toNat (Prod.snd (Prod.snd s))) (x.1)) x1) [2,7,0,1] [] [Zi m,Zi ((x1.1).1*(Prod.snd (x1.1)).1%m),Zi ((Prod.snd (x1.1)).1*(Prod.snd (x1.1)).1%m),Zi (wrap .i64 (Int.tdiv (Prod.snd (x1.1)).2 (2:Int)))] []))) (.sc true 139 [Zi (Prod.snd (x1.1)).1,Zi (Prod.snd (x1.1)).1,Zi m] (Zi ((Prod.snd (x1.1)).1*(Prod.snd (x1.1)).1%m)) (.again (bh 0 (fun (x:{ x:Int×Int×Int // (fun (s:Int×Int×Int)=>iF a (toNat e) m s∧Prod.snd (Prod.snd s)≤9223372036854775807) x })=>aY [2,7,0,1] [Zi m,Zi (Prod.fst (x.1)),Zi (Prod.fst (Prod.snd (x.1))),Zi (Prod.snd (Prod.snd (x.1)))] []) (fun (x:{ x:Int×Int×Int // (fun (s:Int×Int×Int)=>iF a (toNat e) m s∧Prod.snd (Prod.snd s)≤9223372036854775807) x })=>(fun (s:Int×Int×Int)=>toNat (Prod.snd (Prod.snd s))) (x.1)) x1) [2,7,0,1] [] [Zi m,Zi (x1.1).1,Zi ((Prod.snd (x1.1)).1*(Prod.snd (x1.1)).1%m),Zi (wrap .i64 (Int.tdiv (Prod.snd (x1.1)).2 (2:Int)))] []))) (.out (Zi (x1.1).1) [] (Zi (a^toNat e%m)) [])))))
  (by kernel_rfl) ?_
 refine aD (by omega) ?_
 refine aV (fun _ hs=>hs.le (⟨.refl _,ay.of_eq (congrArg _ (bY (by decide))),.refl _,.refl _,trivial⟩) (trivial)) (fun x1=>?_)
 try (have q1:=x1.2;dsimp only at q1)
 have i0:=x1.2.1.x0;have i1:=x1.2.1.x1;have i2:=x1.2.1.a0;have i3:=x1.2.1.a1;have i4:=x1.2.1.e0;have i5:=x1.2.2;dsimp only at i0 i1 i2 i3 i4 i5
 refine aL (fun h2=>?_) (fun h2=>?_)
 ·have g2:=af h2
  refine aL (fun h3=>?_) (fun h3=>?_)
  ·have g3:=ai h3
   refine aM (iI ((x1.1).1) ((Prod.snd (x1.1)).1) (m) (by assumption) (by assumption) (by assumption) (by assumption) (by assumption)) ?_
   refine aM (iI ((Prod.snd (x1.1)).1) ((Prod.snd (x1.1)).1) (m) (by assumption) (by assumption) (by assumption) (by assumption) (by assumption)) ?_
   exact aN (⟨(x1.1.1*x1.1.2.1%m,x1.1.2.1*x1.1.2.1%m,x1.1.2.2 / 2),x1.2.1.AP (by omega) (by rw [← bY i4];exact g3),by dsimp only;omega⟩) (fun _ hs=>hs.le (⟨.refl _,.refl _,.refl _,ay.of_eq (congrArg _ (tX i4 (by omega))),trivial⟩) (trivial)) (by show toNat (x1.1.2.2 / 2)<toNat x1.1.2.2;omega)
  ·have g3:=aj h3
   refine aM (iI ((Prod.snd (x1.1)).1) ((Prod.snd (x1.1)).1) (m) (by assumption) (by assumption) (by assumption) (by assumption) (by assumption)) ?_
   exact aN (⟨(x1.1.1,x1.1.2.1*x1.1.2.1%m,x1.1.2.2 / 2),x1.2.1.uN (by omega) (by rw [bY i4] at g3;omega),by dsimp only;omega⟩) (fun _ hs=>hs.le (⟨.refl _,.refl _,.refl _,ay.of_eq (congrArg _ (tX i4 (by omega))),trivial⟩) (trivial)) (by show toNat (x1.1.2.2 / 2)<toNat x1.1.2.2;omega)
 ·have g2:=aa h2
  exact aq (ay.of_eq (congrArg _ (x1.2.1.uE g2)))
theorem Oa (x:Int) (h:0<x) (h':x<18446744073709551616):Pure Tryz.prog aZ 217 [.int .u64 x] (.int .i64 (e8 x)):=by
 have t:=(mX h h').1
 refine ar (own:=bq) Tryz.func217 (by kernel_rfl) mixed (by kernel_rfl)
  (.br (x==0) (.out (Zi 64) [] (Zi (↑(e8 x):Int)) []) (.bj ((0:Int)≤Int.fdiv (wrap .u64 (wrap .u64 (↑(BitVec.toNat (BitVec.ofInt 64 x &&& BitVec.ofInt 64 (wrap .u64 ((0:Int) - x)))):Int)*285870213051353865)) ((2:Int)^58)∧Int.fdiv (wrap .u64 (wrap .u64 (↑(BitVec.toNat (BitVec.ofInt 64 x &&& BitVec.ofInt 64 (wrap .u64 ((0:Int) - x)))):Int)*285870213051353865)) ((2:Int)^58)<64) (.out (Zi (wrap .i64 (dbF (toNat (Int.fdiv (wrap .u64 (wrap .u64 (↑(BitVec.toNat (BitVec.ofInt 64 x &&& BitVec.ofInt 64 (wrap .u64 ((0:Int) - x)))):Int)*285870213051353865)) ((2:Int)^58)))))) [] (Zi (↑(e8 x):Int)) [])))
  (by kernel_rfl) ?_
 refine aL (fun h0=>?_) (fun h0=>?_)
 ·have g0:=ai h0
  exact aq (by exfalso;omega)
 ·have g0:=aj h0
  refine aD (by rw [yO h h'];exact N1) ?_
  exact aq (ay.of_eq (congrArg _ (by rw [yO h h',NW t];exact wI (by omega) (by omega))))
theorem uH (a n d:Int) (s:Nat) (ha:0≤a) (ha':a<n) (hn:2≤n) (hn':n<18446744073709551616) (hd:0≤d) (hd':d<18446744073709551616) (hs:s<64) (hs0:0<s):Pure Tryz.prog aZ 218 [.int .u64 a,.int .u64 n,.int .u64 d,.int .i64 s] (.bool (!(fY a d n 0==1||qk (fun i=>fY a d n i==n - 1) s))):=by
 have w1:IntKind.wrap .i64 ((s:Int) - 1)=s - 1:=wI (by omega) (by omega)
 have m0:=re a d n
 have hb:∀ i,0≤fY a d n i∧fY a d n i<n:=fun i=>⟨Int.emod_nonneg _ (by omega),Int.emod_lt_of_pos _ (by omega)⟩
 have wn:IntKind.wrap .u64 (n - 1)=n - 1:=dy (by omega) (by omega)
 refine ar (own:=bq) Tryz.func218 (by kernel_rfl) mixed (by kernel_rfl)
  (let y0:=(fun (x:{ x:Nat // x≤s - 1∧kM a d n x })=>aY [1,23,9,24] [Zu n,Zi (wrap .i64 ((s:Int) - 1)),Zu (fY a d n (x.1)),Zi x.1] []);let y1:AV:=(.bool !(fY a d n 0==1||qk (fun i=>fY a d n i==n - 1) s));let y2:=(fun (x:{ x:Nat // x≤s - 1∧kM a d n x })=>s - 1 - x.1);(.sc true 261 [Zu a,Zu d,Zu n] (Zu (a^toNat d%n)) (.br (a^toNat d%n==1||a^toNat d%n==wrap .u64 (n - 1)) (.out (.bool false) [] y1 []) (.loop ({ x:Nat // x≤s - 1∧kM a d n x }) y0 y2 (⟨0,⟨Nat.zero_le (s - 1),yt a d n⟩⟩) [1,23,9,24] [] [Zu n,Zi (wrap .i64 ((s:Int) - 1)),Zu (a^toNat d%n),Zi 0] [] (fun x3=>(.br (decide ((x3.1:Int)<wrap .i64 ((s:Int) - 1))) (.sc true 262 [Zu (fY a d n x3.1),Zu (fY a d n x3.1),Zu n] (Zu (fY a d n x3.1*fY a d n x3.1%n)) (.br (fY a d n x3.1*fY a d n x3.1%n==wrap .u64 (n - 1)) (.out (.bool false) [] y1 []) (.again (bh 0 y0 y2 x3) [1,23,9,24] [] [Zu n,Zi (wrap .i64 ((s:Int) - 1)),Zu (fY a d n x3.1*fY a d n x3.1%n),Zi (wrap .i64 ((x3.1:Int)+1))] []))) (.out (.bool true) [] y1 [])))))))
  (by kernel_rfl) ?_
 refine aM (KR (a) (d) (n) (by assumption) (by assumption) (by assumption) (by assumption) (by assumption) (by assumption)) ?_
 refine aL (fun h1=>?_) (fun h1=>?_)
 ·have g1:=(aA ai ai) h1
  exact aq (ay.of_eq (congrArg _ (by rw [Gj hs0 hn hn' g1];rfl)))
 ·have g1:=(aw aj aj) h1
  refine aV (fun _ hs=>hs.le (⟨by exact ay.refl _,by exact ay.refl _,ay.of_eq (congrArg _ m0.symm),by exact ay.refl _,trivial⟩) (trivial)) (fun x3=>?_)
  try (have q3:=x3.2;dsimp only at q3)
  refine aL (fun h4=>?_) (fun h4=>?_)
  ·have g4:=af h4
   refine aM (sJ (fY a d n x3.1) (fY a d n x3.1) (n) (by (have:=hb x3.1;omega)) (by (have:=hb x3.1;omega)) (by (have:=hb x3.1;omega)) (by (have:=hb x3.1;omega)) (by assumption) (by (have:=hb x3.1;exact mG (by omega) (by omega) (by omega) (by omega)))) ?_
   refine aL (fun h6=>?_) (fun h6=>?_)
   ·have g6:=ai h6
    exact aq (ay.of_eq (congrArg _ (by rw [Hk (i:=x3.1) (by omega) (by rw [qH,g6,wn])];rfl)))
   ·have g6:=aj h6
    exact aN (⟨x3.1+1,by omega,yK x3.2.2 (by rw [qH];rw [wn] at g6;exact g6)⟩) (fun _ hs=>hs.le (⟨by exact ay.refl _,by exact ay.refl _,ay.of_eq (congrArg _ (qH ..).symm),by exact aK (by omega),trivial⟩) (trivial)) (by (dsimp only;omega))
  ·have g4:=aa h4
   exact aq (ay.of_eq (congrArg _ (by rw [AN (i:=x3.1) (by rw [m0];exact g1.1) (by rw [m0,← wn];exact g1.2) x3.2.2 (by omega)];rfl)))
theorem MJ (n:Int) (hn:n≤9223372036854775807):Pure Tryz.prog aZ 141 [.int .i64 n] (.bool (jF n)):=by
 refine ar (own:=bq) Tryz.func141 (by kernel_rfl) mixed (by kernel_rfl)
  (let y0:List AV:=[Zu (de 0),Zu (de 1),Zu (de 2),Zu (de 3),Zu (de 4),Zu (de 5),Zu (de 6),Zu (de 7),Zu (de 8),Zu (de 9),Zu (de 10),Zu (de 11)];let y1:=(fun (x:{ x:Nat // x≤12∧(fun i=>aG (fun i=>n%de i==0) 12 0=aG (fun i=>n%de i==0) (12 - i) i) x })=>aY [3,13,14] [Zu (wrap .u64 n),.agg y0,Zi x.1] []);let y2:=(fun (x:{ x:Nat // x≤12∧(fun i=>aG (fun i=>n%de i==0) 12 0=aG (fun i=>n%de i==0) (12 - i) i) x })=>12 - x.1);let y3:Nat:=(toNat (↑(e8 (n - 1)):Int));(.br (decide (n<2)) (.out (.bool false) [] (.bool (jF n)) []) (.loop ({ x:Nat // x≤12∧(fun i=>aG (fun i=>n%de i==0) 12 0=aG (fun i=>n%de i==0) (12 - i) i) x }) y1 y2 (⟨0,⟨Nat.zero_le 12,rfl⟩⟩) [3,13,14] [] [Zu (wrap .u64 n),.agg y0,Zi 0] [] (fun x2=>(.br (decide ((x2.1:Int)<12)) (.bj (0≤(x2.1:Int)∧(x2.1:Int)<12) (.bj (aE (aQ y0 (toNat (x2.1:Int)))≠(0:Int)) (.br (Int.tmod (wrap .u64 n) (aE (aQ y0 (toNat (x2.1:Int))))==0) (.out (.bool (wrap .u64 n==aE (aQ y0 (toNat (x2.1:Int))))) [] (.bool (jF n)) []) (.again (bh 0 y1 y2 x2) [3,13,14] [] [Zu (wrap .u64 n),.agg y0,Zi (wrap .i64 ((x2.1:Int)+1))] [])))) (.sc true 217 [Zu (wrap .u64 (wrap .u64 n - 1))] (Zi (↑(e8 (wrap .u64 (wrap .u64 n - 1))):Int)) (.loop ({ x:Nat // x≤12∧(fun (i:Nat)=>∀ (j:Nat),j<i→eP n (de j)=true) x }) (fun x=>aY [28,3,6,29] [.agg y0,Zu n,Zi (↑(e8 (n - 1)):Int),Zi x.1] []) (fun x=>12 - x.1) (⟨0,⟨Nat.zero_le 12,fun (j:Nat) (hj:j<0)=>absurd hj (Nat.not_lt_zero j)⟩⟩) [28,3,6,29] [] [.agg y0,Zu (wrap .u64 n),Zi (↑(e8 (wrap .u64 (wrap .u64 n - 1))):Int),Zi 0] [] (fun x10=>(.br (decide ((x10.1:Int)<12)) (.bj (0≤(x10.1:Int)∧(x10.1:Int)<12) (.bj (0≤(↑(e8 (n - 1)):Int)) (.sc true 218 [Zu (aE (aQ y0 (toNat (x10.1:Int)))),Zu n,Zu (Int.fdiv (wrap .u64 (n - 1)) ((2:Int)^min y3 64)),Zi (↑(e8 (n - 1)):Int)] (.bool !(fY (aE (aQ y0 (toNat (x10.1:Int)))) (Int.fdiv (wrap .u64 (n - 1)) ((2:Int)^min y3 64)) n 0==1||qk (fun i=>fY (aE (aQ y0 (toNat (x10.1:Int)))) (Int.fdiv (wrap .u64 (n - 1)) ((2:Int)^min y3 64)) n i==n - 1) (e8 (n - 1)))) (.br (!(fY (aE (aQ y0 (toNat (x10.1:Int)))) (Int.fdiv (wrap .u64 (n - 1)) ((2:Int)^min y3 64)) n 0==1||qk (fun i=>fY (aE (aQ y0 (toNat (x10.1:Int)))) (Int.fdiv (wrap .u64 (n - 1)) ((2:Int)^min y3 64)) n i==n - 1) (e8 (n - 1)))) (.out (.bool false) [] (.bool (jF n)) []) (.again (bh 0 (fun x=>aY [28,3,6,29] [.agg y0,Zu n,Zi (↑(e8 (n - 1)):Int),Zi x.1] []) (fun x=>12 - x.1) x10) [28,3,6,29] [] [.agg y0,Zu n,Zi (↑(e8 (n - 1)):Int),Zi (wrap .i64 ((x10.1:Int)+1))] []))))) (.out (.bool true) [] (.bool (jF n)) []))))))))))
  (by kernel_rfl) ?_
 refine aL (fun h0=>?_) (fun h0=>?_)
 ·have g0:=af h0
  exact aq (ay.of_eq (congrArg _ (Cz g0).symm))
 ·have g0:=aa h0
  refine aV (fun _ hs=>hs.le (by repeat' (first|exact trivial|(first|exact ay.refl _|exact aK (by omega)|exact ay.nil rfl|exact ay.of_eq (congrArg (AV.ba _ _ _) (by first|omega|(dsimp only;omega)))|exact ay.of_eq (congrArg (AV.int _) (by first|omega|(dsimp only;omega))))|refine And.intro ?_ ?_)) (trivial)) (fun x2=>?_)
  try (have q2:=x2.2;dsimp only at q2)
  refine aL (fun h3=>?_) (fun h3=>?_)
  ·have g3:=af h3
   refine aD (by omega) ?_
   refine aD (by rw [Int.toNat_natCast,qT (by omega)];have:=la (i:=x2.1) (by omega);omega) ?_
   refine aL (fun h6=>?_) (fun h6=>?_)
   ·have g6:=ai h6
    try simp only [Int.toNat_natCast] at g6
    exact aq (ay.of_eq (congrArg _ (by simp only [Int.toNat_natCast,qT (show x2.1<12 by omega),dy (n:=n) (by omega) (by omega),bY (a:=n) (by omega)] at g6 ⊢;exact (Ie g0 x2.2.2 (by omega) g6).symm)))
   ·have g6:=aj h6
    try simp only [Int.toNat_natCast] at g6
    exact aN (⟨x2.1+1,by omega,bS x2.2.2 (by omega) (by simp only [Int.toNat_natCast,qT (show x2.1<12 by omega),dy (n:=n) (by omega) (by omega),bY (a:=n) (by omega)] at g6;simpa using g6)⟩) (fun _ hs=>hs.le (by repeat' (first|exact trivial|(first|exact ay.refl _|exact aK (by omega)|exact ay.nil rfl|exact ay.of_eq (congrArg (AV.ba _ _ _) (by first|omega|(dsimp only;omega)))|exact ay.of_eq (congrArg (AV.int _) (by first|omega|(dsimp only;omega))))|refine And.intro ?_ ?_)) (trivial)) (by (dsimp only;omega))
  ·have g3:=aa h3
   refine aM (Oa (wrap .u64 (wrap .u64 n - (1:Int))) (by (rw [dy (n:=n) (by omega) (by omega),dy (by omega) (by omega)];omega)) (by (rw [dy (n:=n) (by omega) (by omega),dy (by omega) (by omega)];omega))) ?_
   refine aV (fun _ hs=>hs.le (⟨by exact ay.refl _,ay.of_eq (congrArg _ (dy (by omega) (by omega))),ay.of_eq (congrArg _ (by rw [dy (n:=n) (by omega) (by omega),dy (by omega) (by omega)])),by exact ay.refl _,trivial⟩) (trivial)) (fun x10=>?_)
   try (have q10:=x10.2;dsimp only at q10)
   have F:=tQ g0 x2.2.2 (by omega);have n37:=F.2.1;have CS:=nx (n:=n) (by omega) (by omega) (DA F.2.2);have s1:=CS.1;have s2:=CS.2.1;have s3:=CS.2.2.1;have s4:=CS.2.2.2
   refine aL (fun h11=>?_) (fun h11=>?_)
   ·have g11:=af h11
    refine aD (by omega) ?_
    refine aD (by omega) ?_
    refine aM (uH (aE (aQ [Zu (de (0)),Zu (de (1)),Zu (de (2)),Zu (de (3)),Zu (de (4)),Zu (de (5)),Zu (de (6)),Zu (de (7)),Zu (de (8)),Zu (de (9)),Zu (de (10)),Zu (de (11))] (toNat (↑x10.1:Int)))) (n) (Int.fdiv (wrap .u64 (n - (1:Int))) ((2:Int)^min (toNat (↑(e8 (n - (1:Int))):Int)) (64))) (e8 (n - (1:Int))) (by (rw [Int.toNat_natCast,qT (by omega)];have:=la (i:=x10.1) (by omega);omega)) (by (rw [Int.toNat_natCast,qT (by omega)];have:=la (i:=x10.1) (by omega);omega)) (by omega) (by omega) (by assumption) (by assumption) (by assumption) (by assumption)) ?_
    refine aL (fun h15=>?_) (fun h15=>?_)
    ·have g15:=(aC (aw aj aF)) h15
     try simp only [Int.toNat_natCast] at g15
     exact aq (ay.of_eq (congrArg _ (by have e:=xR (n:=n) (i:=toNat ((x10.1:Nat):Int)) (by omega) (by omega) (by omega);rw [e] at h15;rw [F.1,nj (i:=x10.1) (by omega) (by simpa using h15)])))
    ·have g15:=(az (aA ai aB)) h15
     try simp only [Int.toNat_natCast] at g15
     exact aN (⟨x10.1+1,by omega,fun j hj=>by (have e:=xR (n:=n) (i:=toNat ((x10.1:Nat):Int)) (by omega) (by omega) (by omega);rw [e] at h15;by_cases ej:j=x10.1;(subst ej;simpa using h15);exact x10.2.2 j (by omega))⟩) (fun _ hs=>hs.le (by repeat' (first|exact trivial|(first|exact ay.refl _|exact aK (by omega)|exact ay.nil rfl|exact ay.of_eq (congrArg (AV.ba _ _ _) (by first|omega|(dsimp only;omega)))|exact ay.of_eq (congrArg (AV.int _) (by first|omega|(dsimp only;omega))))|refine And.intro ?_ ?_)) (trivial)) (by (dsimp only;omega))
   ·have g11:=aa h11
    exact aq (ay.of_eq (congrArg _ (by rw [F.1,nE fun j hj=>x10.2.2 j (by omega)])))
theorem B3 (n a:Int) (ha:0≤a) (ha':a<n) (hn:2≤n) (hn':n<2305843009213693952) (ho:n%2=1):Pure Tryz.prog aZ 248 [.int .i64 n,.int .i64 a] (.bool (eP n a)):=by
 have hb:∀ i,0≤fY a ((n - 1) / 2^e8 (n - 1)) n i∧fY a ((n - 1) / 2^e8 (n - 1)) n i<n:=fun i=>⟨Int.emod_nonneg _ (by omega),Int.emod_lt_of_pos _ (by omega)⟩
 have wn:IntKind.wrap .i64 (n - 1)=n - 1:=wI (by omega) (by omega)
 have tz0:=(nx hn (by omega) ho).2.2.2
 have tz1:=(nx hn (by omega) ho).2.2.1
 refine ar (own:=bq) Tryz.func248 (by kernel_rfl) mixed (by kernel_rfl)
  (let y0:=(fun (x:{ x:Nat // x≤e8 (n - 1) - 1∧kM a ((n - 1) / 2^e8 (n - 1)) n x })=>aY [0,6,7,8] [Zi n,Zi (↑(e8 (n - 1)):Int),Zi (fY a ((n - 1) / 2^e8 (n - 1)) n (x.1)),Zi (↑(x.1+1):Int)] []);let y1:=(fun (x:{ x:Nat // x≤e8 (n - 1) - 1∧kM a ((n - 1) / 2^e8 (n - 1)) n x })=>e8 (n - 1) - 1 - x.1);let y2:AV:=(.bool (eP n a));(.loop ({ x:Int×Nat // (fun (q:Int×Nat)=>(2:Int)≤n→n - 1=(2:Int)^Prod.snd q*Prod.fst q∧(0:Int)<Prod.fst q) x }) (fun (x:{ x:Int×Nat // (fun (q:Int×Nat)=>(2:Int)≤n→n - 1=(2:Int)^Prod.snd q*Prod.fst q∧(0:Int)<Prod.fst q) x })=>aY [0,1,5,6] [Zi n,Zi a,Zi (Prod.fst (x.1)),Zi (↑(Prod.snd (x.1)):Int)] []) (fun (x:{ x:Int×Nat // (fun (q:Int×Nat)=>(2:Int)≤n→n - 1=(2:Int)^Prod.snd q*Prod.fst q∧(0:Int)<Prod.fst q) x })=>(fun (q:Int×Nat)=>toNat (Prod.fst q)) (x.1)) (⟨(n - 1,0),Al n⟩) [0,1,5,6] [] [Zi n,Zi a,Zi (wrap .i64 (n - 1)),Zi 0] [] (fun x0=>(.br (Int.tmod (x0.1).1 (2:Int)==0) (.again (bh 0 (fun (x:{ x:Int×Nat // (fun (q:Int×Nat)=>(2:Int)≤n→n - 1=(2:Int)^Prod.snd q*Prod.fst q∧(0:Int)<Prod.fst q) x })=>aY [0,1,5,6] [Zi n,Zi a,Zi (Prod.fst (x.1)),Zi (↑(Prod.snd (x.1)):Int)] []) (fun (x:{ x:Int×Nat // (fun (q:Int×Nat)=>(2:Int)≤n→n - 1=(2:Int)^Prod.snd q*Prod.fst q∧(0:Int)<Prod.fst q) x })=>(fun (q:Int×Nat)=>toNat (Prod.fst q)) (x.1)) x0) [0,1,5,6] [] [Zi n,Zi a,Zi (wrap .i64 (Int.tdiv (x0.1).1 (2:Int))),Zi (wrap .i64 ((↑(x0.1).2:Int)+1))] []) (.sc true 76 [Zi a,Zi (x0.1).1,Zi n] (Zi (a^toNat (x0.1).1%n)) (.br (a^toNat (x0.1).1%n==1||a^toNat (x0.1).1%n==wrap .i64 (n - 1)) (.out (.bool true) [] y2 []) (.loop ({ x:Nat // x≤e8 (n - 1) - 1∧kM a ((n - 1) / 2^e8 (n - 1)) n x }) y0 y1 (⟨0,⟨Nat.zero_le (e8 (n - 1) - 1),yt a ((n - 1) / 2^e8 (n - 1)) n⟩⟩) [0,6,7,8] [] [Zi n,Zi (↑(x0.1).2:Int),Zi (a^toNat (x0.1).1%n),Zi 1] [] (fun x6=>(.br (decide ((↑(x6.1+1):Int)<(↑(e8 (n - 1)):Int))) (.sc true 139 [Zi (fY a ((n - 1) / 2^e8 (n - 1)) n x6.1),Zi (fY a ((n - 1) / 2^e8 (n - 1)) n x6.1),Zi n] (Zi (fY a ((n - 1) / 2^e8 (n - 1)) n x6.1*fY a ((n - 1) / 2^e8 (n - 1)) n x6.1%n)) (.br (fY a ((n - 1) / 2^e8 (n - 1)) n x6.1*fY a ((n - 1) / 2^e8 (n - 1)) n x6.1%n==wrap .i64 (n - 1)) (.out (.bool true) [] y2 []) (.again (bh 0 y0 y1 x6) [0,6,7,8] [] [Zi n,Zi (↑(e8 (n - 1)):Int),Zi (fY a ((n - 1) / 2^e8 (n - 1)) n x6.1*fY a ((n - 1) / 2^e8 (n - 1)) n x6.1%n),Zi (wrap .i64 ((↑(x6.1+1):Int)+1))] []))) (.out (.bool false) [] y2 []))))))))))
  (by kernel_rfl) ?_
 refine aV (fun _ hs=>hs.le (by repeat' (first|exact trivial|(first|exact ay.refl _|exact aK (by omega)|exact ay.nil rfl|exact ay.of_eq (congrArg (AV.ba _ _ _) (by first|omega|(dsimp only;omega)))|exact ay.of_eq (congrArg (AV.int _) (by omega)))|refine And.intro ?_ ?_)) (trivial)) (fun x0=>?_)
 try (have q0:=x0.2;dsimp only at q0)
 refine aL (fun h1=>?_) (fun h1=>?_)
 ·have g1:=ai h1
  exact aN (⟨(x0.1.1 / 2,x0.1.2+1),fun _=>DN (q0 hn).1 (q0 hn).2 g1⟩) (fun _ hs=>hs.le (⟨by exact ay.refl _,by exact ay.refl _,ay.of_eq (congrArg _ (tX (by have:=(q0 hn).2;omega) (by have:=A6 (q0 hn).1 (q0 hn).2;omega))),aK (by have:=ux hn (by omega) (q0 hn).1 (q0 hn).2;omega),trivial⟩) (trivial)) (by have:=(q0 hn).2;show toNat (x0.1.1 / 2)<toNat x0.1.1;omega)
 ·have g1:=aj h1
  refine aM (jS (a) ((x0.1).1) (n) (by assumption) (by assumption) (by omega) (by (have:=(q0 hn).2;have:=A6 (q0 hn).1 (q0 hn).2;omega)) (by assumption)) ?_
  refine aL (fun h4=>?_) (fun h4=>?_)
  ·have g4:=(aA ai ai) h4
   exact aq (ay.of_eq (congrArg _ (by have p:=lu hn (by omega) (q0 hn).1 (q0 hn).2 g1;rw [As (a:=a) tz0 (by rw [p.2,re];rw [wn] at g4;exact g4)])))
  ·have g4:=(aw aj aj) h4
   refine aV (fun _ hs=>hs.le (⟨by exact ay.refl _,ay.of_eq (congrArg _ (by rw [(lu hn (by omega) (q0 hn).1 (q0 hn).2 g1).1])),ay.of_eq (congrArg _ (by rw [(lu hn (by omega) (q0 hn).1 (q0 hn).2 g1).2,re])),by exact ay.refl _,trivial⟩) (trivial)) (fun x6=>?_)
   try (have q6:=x6.2;dsimp only at q6)
   refine aL (fun h7=>?_) (fun h7=>?_)
   ·have g7:=af h7
    refine aM (iI (fY a ((n - (1:Int)) / (2:Int)^e8 (n - (1:Int))) n x6.1) (fY a ((n - (1:Int)) / (2:Int)^e8 (n - (1:Int))) n x6.1) (n) (by (have:=hb x6.1;omega)) (by (have:=hb x6.1;omega)) (by (have:=hb x6.1;omega)) (by (have:=hb x6.1;omega)) (by assumption)) ?_
    refine aL (fun h9=>?_) (fun h9=>?_)
    ·have g9:=ai h9
     exact aq (ay.of_eq (congrArg _ (by rw [Aa (a:=a) (i:=x6.1) (by omega) (by rw [qH,g9,wn])])))
    ·have g9:=aj h9
     exact aN (⟨x6.1+1,by omega,yK x6.2.2 (by rw [qH];rw [wn] at g9;exact g9)⟩) (fun _ hs=>hs.le (⟨by exact ay.refl _,by exact ay.refl _,ay.of_eq (congrArg _ (qH ..).symm),aK (by omega),trivial⟩) (trivial)) (by (dsimp only;omega))
   ·have g7:=aa h7
    exact aq (ay.of_eq (congrArg _ (by have p:=lu hn (by omega) (q0 hn).1 (q0 hn).2 g1;rw [wn] at g4;rw [CM (i:=x6.1) (by rw [p.2,re];exact g4.1) (by rw [p.2,re];exact g4.2) x6.2.2 (by omega)])))
theorem GH (n:Int) (h:False):Pure Tryz.prog aZ 247 [.int .i64 n] (.bool true):=h.elim
theorem HV (n:Int) (hn:n<2305843009213693952):Pure Tryz.prog aZ 186 [.int .i64 n] (.bool (jF n)):=by
 refine ar (own:=bq) Tryz.func186 (by kernel_rfl) mixed (by kernel_rfl)
  (let y0:=(fun (x:{ x:Nat // x≤12∧(fun i=>aG (fun i=>n%de i==0) 12 0=aG (fun i=>n%de i==0) (12 - i) i) x })=>aY [0,3,4] [Zi n,.ba 0 1 0 12,Zi x.1] [some ⟨1,12,true,.fn fun i x=>Zi (de i)⟩]);let y1:List (Option Ob):=[some ⟨1,12,true,.fn fun i j=>Zi (de i)⟩];let y2:=(fun (x:{ x:Nat // x≤12∧(fun i=>aG (fun i=>n%de i==0) 12 0=aG (fun i=>n%de i==0) (12 - i) i) x })=>12 - x.1);(.br (decide (n<2)) (.out (.bool false) [] (.bool (jF n)) []) (.loop ({ x:Nat // x≤12∧(fun i=>aG (fun i=>n%de i==0) 12 0=aG (fun i=>n%de i==0) (12 - i) i) x }) y0 y2 (⟨0,⟨Nat.zero_le 12,rfl⟩⟩) [0,3,4] [24] [Zi n,.ba 0 1 0 12,Zi 0] [some ⟨1,12,true,.bc [[Zi 2],[Zi 3],[Zi 5],[Zi 7],[Zi 11],[Zi 13],[Zi 17],[Zi 19],[Zi 23],[Zi 29],[Zi 31],[Zi 37]]⟩] (fun x2=>(.br (decide ((x2.1:Int)<12)) (.bj (0≤(x2.1:Int)∧(x2.1:Int)<12) (.bj (de (toNat (x2.1:Int)+0)≠(0:Int)) (.br (Int.tmod n (de (toNat (x2.1:Int)+0))==0) (.bj (0≤(x2.1:Int)∧(x2.1:Int)<12) (.out (.bool (n==de (toNat (x2.1:Int)+0))) [] (.bool (jF n)) [])) (.again (bh 0 y0 y2 x2) [0,3,4] [0] [Zi n,.ba 0 1 0 12,Zi (wrap .i64 ((x2.1:Int)+1))] (y1))))) (.br (decide (n≥2305843009213693952)) (.sc true 247 [Zi n] (.bool true) (.out (.bool true) [] (.bool (jF n)) [])) (.loop ({ x:Nat // x≤12∧(fun (i:Nat)=>∀ (j:Nat),j<i→eP n (de j)=true) x }) (fun x=>aY [0,3,5] [Zi n,.ba 0 1 0 12,Zi x.1] y1) (fun x=>12 - x.1) (⟨0,⟨Nat.zero_le 12,fun (j:Nat) (hj:j<0)=>absurd hj (Nat.not_lt_zero j)⟩⟩) [0,3,5] [0] [Zi n,.ba 0 1 0 12,Zi 0] (y1) (fun x13=>(.br (decide ((x13.1:Int)<12)) (.bj (0≤(x13.1:Int)∧(x13.1:Int)<12) (.sc true 248 [Zi n,Zi (de (toNat (x13.1:Int)+0))] (.bool (eP n (de (toNat (x13.1:Int)+0)))) (.br (!eP n (de (toNat (x13.1:Int)+0))) (.out (.bool false) [] (.bool (jF n)) []) (.again (bh 0 (fun x=>aY [0,3,5] [Zi n,.ba 0 1 0 12,Zi x.1] y1) (fun x=>12 - x.1) x13) [0,3,5] [0] [Zi n,.ba 0 1 0 12,Zi (wrap .i64 ((x13.1:Int)+1))] (y1))))) (.out (.bool true) [] (.bool (jF n)) []))))))))))
  (by kernel_rfl) ?_
 refine aL (fun h0=>?_) (fun h0=>?_)
 ·have g0:=af h0
  exact aq (ay.of_eq (congrArg _ (Cz g0).symm))
 ·have g0:=aa h0
  refine aV (fun _ hs=>hs.le (by repeat' (first|exact trivial|(first|exact ay.refl _|exact aK (by omega)|exact ay.nil rfl|exact ay.of_eq (congrArg (AV.ba _ _ _) (by first|omega|(dsimp only;omega)))|exact ay.of_eq (congrArg (AV.int _) (by first|omega|(dsimp only;omega))))|refine And.intro ?_ ?_)) (⟨NS,trivial⟩)) (fun x2=>?_)
  try (have q2:=x2.2;dsimp only at q2)
  refine aL (fun h3=>?_) (fun h3=>?_)
  ·have g3:=af h3
   refine aD (by omega) ?_
   refine aD (by simp only [Int.toNat_natCast,Nat.add_zero];have:=la (i:=x2.1) (by omega);omega) ?_
   refine aL (fun h6=>?_) (fun h6=>?_)
   ·have g6:=ai h6
    try simp only [Int.toNat_natCast] at g6
    refine aD (by omega) ?_
    exact aq (ay.of_eq (congrArg _ (by simp only [Int.toNat_natCast,Nat.add_zero,bY (a:=n) (by omega)] at g6 ⊢;exact (Ie g0 x2.2.2 (by omega) g6).symm)))
   ·have g6:=aj h6
    try simp only [Int.toNat_natCast] at g6
    exact aN (⟨x2.1+1,by omega,bS x2.2.2 (by omega) (by simp only [Int.toNat_natCast,Nat.add_zero,bY (a:=n) (by omega)] at g6;simpa using g6)⟩) (fun _ hs=>hs.le (by repeat' (first|exact trivial|(first|exact ay.refl _|exact aK (by omega)|exact ay.nil rfl|exact ay.of_eq (congrArg (AV.ba _ _ _) (by first|omega|(dsimp only;omega)))|exact ay.of_eq (congrArg (AV.int _) (by first|omega|(dsimp only;omega))))|refine And.intro ?_ ?_)) (by repeat' (first|exact trivial|(first|exact aJ.refl _|exact aJ.bx|exact aJ.zero|exact aJ.push rfl rfl|exact aJ.ct rfl|exact aJ.len (by omega)|exact aJ.row (by repeat' (first|exact trivial|(first|exact ay.refl _|exact aK (by omega)|exact ay.nil rfl|exact ay.of_eq (congrArg (AV.ba _ _ _) (by first|omega|(dsimp only;omega)))|exact ay.of_eq (congrArg (AV.int _) (by first|omega|(dsimp only;omega))))|refine And.intro ?_ ?_)))|refine And.intro ?_ ?_))) (by (dsimp only;omega))
  ·have g3:=aa h3
   refine aL (fun h10=>?_) (fun h10=>?_)
   ·have g10:=af h10
    refine aM (GH (n) (by omega)) ?_
    exact aq (by exfalso;omega)
   ·have g10:=aa h10
    refine aV (fun _ hs=>hs.le (by repeat' (first|exact trivial|(first|exact ay.refl _|exact aK (by omega)|exact ay.nil rfl|exact ay.of_eq (congrArg (AV.ba _ _ _) (by first|omega|(dsimp only;omega)))|exact ay.of_eq (congrArg (AV.int _) (by first|omega|(dsimp only;omega))))|refine And.intro ?_ ?_)) (by repeat' (first|exact trivial|(first|exact aJ.refl _|exact aJ.bx|exact aJ.zero|exact aJ.push rfl rfl|exact aJ.ct rfl|exact aJ.len (by omega)|exact aJ.row (by repeat' (first|exact trivial|(first|exact ay.refl _|exact aK (by omega)|exact ay.nil rfl|exact ay.of_eq (congrArg (AV.ba _ _ _) (by first|omega|(dsimp only;omega)))|exact ay.of_eq (congrArg (AV.int _) (by first|omega|(dsimp only;omega))))|refine And.intro ?_ ?_)))|refine And.intro ?_ ?_))) (fun x13=>?_)
    try (have q13:=x13.2;dsimp only at q13)
    have F:=tQ g0 x2.2.2 (by omega)
    refine aL (fun h14=>?_) (fun h14=>?_)
    ·have g14:=af h14
     refine aD (by omega) ?_
     refine aM (B3 (n) (de (toNat (↑x13.1:Int)+0)) (by (have F:=tQ g0 x2.2.2 (by omega);simp only [Int.toNat_natCast,Nat.add_zero];have:=la (i:=x13.1) (by omega);have:=F.2.1;omega)) (by (have F:=tQ g0 x2.2.2 (by omega);simp only [Int.toNat_natCast,Nat.add_zero];have:=la (i:=x13.1) (by omega);have:=F.2.1;omega)) (by omega) (by assumption) (by exact DA (tQ g0 x2.2.2 (by omega)).2.2)) ?_
     refine aL (fun h17=>?_) (fun h17=>?_)
     ·have g17:=(aC aF) h17
      try simp only [Int.toNat_natCast] at g17
      exact aq (ay.of_eq (congrArg _ (by simp only [Int.toNat_natCast,Nat.add_zero] at h17;rw [F.1,nj (i:=x13.1) (by omega) (by simpa using h17)])))
     ·have g17:=(az aB) h17
      try simp only [Int.toNat_natCast] at g17
      exact aN (⟨x13.1+1,by omega,fun j hj=>by (simp only [Int.toNat_natCast,Nat.add_zero] at h17;by_cases ej:j=x13.1;(subst ej;simpa using h17);exact x13.2.2 j (by omega))⟩) (fun _ hs=>hs.le (by repeat' (first|exact trivial|(first|exact ay.refl _|exact aK (by omega)|exact ay.nil rfl|exact ay.of_eq (congrArg (AV.ba _ _ _) (by first|omega|(dsimp only;omega)))|exact ay.of_eq (congrArg (AV.int _) (by first|omega|(dsimp only;omega))))|refine And.intro ?_ ?_)) (by repeat' (first|exact trivial|(first|exact aJ.refl _|exact aJ.bx|exact aJ.zero|exact aJ.push rfl rfl|exact aJ.ct rfl|exact aJ.len (by omega)|exact aJ.row (by repeat' (first|exact trivial|(first|exact ay.refl _|exact aK (by omega)|exact ay.nil rfl|exact ay.of_eq (congrArg (AV.ba _ _ _) (by first|omega|(dsimp only;omega)))|exact ay.of_eq (congrArg (AV.int _) (by first|omega|(dsimp only;omega))))|refine And.intro ?_ ?_)))|refine And.intro ?_ ?_))) (by (dsimp only;omega))
    ·have g14:=aa h14
     exact aq (ay.of_eq (congrArg _ (by rw [F.1,nE fun j hj=>x13.2.2 j (by omega)])))
end Go.Proofs.YtpefjkpdniiaoaaGreatDoor

namespace Go.Sp
open Go.IntKind (wrap)
open Int (toNat)
open Go Go.Am
structure bN where
  p : Int
  q : Int
  g : Int
def bN.cells (G:bN):List AV:=[.int .i64 G.p,.int .i64 G.q,.int .i64 G.g]
def bN.av (G:bN):AV:=.agg G.cells
structure aI where
  gr : bN
  g1 : Int
  g2 : Int
  h : Int
def aI.cells (b:aI):List AV:=b.gr.cells++[.int .i64 b.g1,.int .i64 b.g2,.int .i64 b.h]
def aI.av (b:aI):AV:=.agg b.cells
def aO (G:bN) (x:Int):Bool:=decide (1≤x)&&decide (x<G.p)&&(kd (eT x G.q G.p) (x^G.q.toNat%G.p)==1)
def bo (G:bN):Bool:=decide (3≤G.p∧G.p<2305843009213693952∧3≤G.q∧G.q%2=1∧(G.p - 1)%G.q=0∧2≤G.g∧G.g<G.p)&&jF G.p&&jF G.q&&(G.g^G.q.toNat%G.p==1)
def aT (b:aI):Bool:=bo b.gr&&b.g1 != 1&&b.g2 != 1&&b.h != 1&&aO b.gr b.g1&&aO b.gr b.g2&&aO b.gr b.h
structure bN.W (G : bN) : Prop where
  p : G.p ≤ 9223372036854775807
  q : G.q ≤ 9223372036854775807
structure bN.Ok (G : bN) : Prop where
  p3 : 3 ≤ G.p
  p1 : G.p < 2305843009213693952
  q3 : 3 ≤ G.q
  q2 : G.q % 2 = 1
  d : (G.p - 1) % G.q = 0
  g2 : 2 ≤ G.g
  g1 : G.g < G.p
  ip : jF G.p = true
  iq : jF G.q = true
  pw : G.g ^ G.q.toNat % G.p = 1
theorem bp {G:bN}:bo G=true↔G.Ok:=by
 unfold bo
 simp only [Bool.and_eq_true,decide_eq_true_eq,beq_iff_eq]
 constructor
 ·rintro ⟨⟨⟨⟨a,b,c,d,e,f,g⟩,h⟩,i⟩,j⟩
  exact ⟨a,b,c,d,e,f,g,h,i,j⟩
 ·rintro ⟨a,b,c,d,e,f,g,h,i,j⟩
  grind
theorem bN.Ok.qp {G:bN} (h:G.Ok):G.q<G.p:=by
 have h1:=h.d;have h2:=h.p3;have h3:=h.q3
 have:=Int.le_of_dvd (by omega) (Int.dvd_of_emod_eq_zero h1)
 omega
theorem JP {n:Int} (h:jF n=true):2≤n:=by grind [Int.not_lt,Cz]
theorem xj {G:bN} {x:Int} (h:x<1∨x≥G.p):aO G x=false:=by grind [aO,decide]
theorem wR {G:bN} {x:Int} (h:¬x<1∧¬x≥G.p):aO G x=(kd (eT x G.q G.p) (x^G.q.toNat%G.p)==1):=by grind [aO,decide]
theorem bN.Ok.eT {G:bN} (h:G.Ok) {x:Int} (h0:0≤x) (h1:x<G.p):eT x G.q G.p=0:=by
 have:=h.p3;have:=h.p1;have:=h.q3
 grind [nN,jk]
theorem NC {G:bN} (g:((((((G.p≥2305843009213693952∨G.q<3)∨Int.tmod G.q 2=0)∨jF G.p=false)∨jF G.q=false)∨¬Int.tmod (IntKind.wrap .i64 (G.p - 1)) G.q=0)∨G.g<2)∨G.g≥G.p):bo G=false:=by
 refine Bool.eq_false_iff.2 fun h=>?_
 have k:=bp.1 h
 have:=k.p3;have:=k.p1;have:=k.q3;have h2:=k.q2;have hd:=k.d;have:=k.g2;have:=k.g1
 rw [bY (by omega),wI (by omega) (by omega),bY (by omega),k.ip,k.iq] at g
 grind
theorem Jp {G:bN} (g:((((((¬G.p≥2305843009213693952∧¬G.q<3)∧¬Int.tmod G.q 2=0)∧jF G.p=true)∧jF G.q=true)∧Int.tmod (IntKind.wrap .i64 (G.p - 1)) G.q=0)∧¬G.g<2)∧¬G.g≥G.p) :
  (eT G.g G.q G.p==0&&kd (eT G.g G.q G.p) (G.g^G.q.toNat%G.p)==1)=bo G:=by grind [JP,bY,wI,Int.not_lt,Int.emod_eq_of_lt,nN,jk,bo,Iv,decide_eq_true]
theorem J7 {G:bN} (g:(((((G.p<3∨G.p≥2305843009213693952)∨G.q<3)∨Int.tmod G.q 2=0)∨¬Int.tmod (IntKind.wrap .i64 (G.p - 1)) G.q=0)∨G.g<2)∨G.g≥G.p):bo G=false:=by
 refine Bool.eq_false_iff.2 fun h=>?_
 have k:=bp.1 h
 have:=k.p3;have:=k.p1;have:=k.q3;have h2:=k.q2;have hd:=k.d;have:=k.g2;have:=k.g1
 grind [bY,wI]
theorem iZ {G:bN} (g:(((((¬G.p<3∧¬G.p≥2305843009213693952)∧¬G.q<3)∧¬Int.tmod G.q 2=0)∧Int.tmod (IntKind.wrap .i64 (G.p - 1)) G.q=0)∧¬G.g<2)∧¬G.g≥G.p) :
  3≤G.p∧G.p<2305843009213693952∧3≤G.q∧G.q%2=1∧(G.p - 1)%G.q=0∧2≤G.g∧G.g<G.p∧G.q<G.p:=by
 obtain ⟨⟨⟨⟨⟨⟨a,b⟩,c⟩,d⟩,e⟩,i⟩,j⟩:=g
 rw [bY (by omega)] at d
 rw [wI (by omega) (by omega),bY (by omega)] at e
 have:=Int.le_of_dvd (by omega) (Int.dvd_of_emod_eq_zero e)
 omega
theorem Fm {G:bN} (g:(((((¬G.p<3∧¬G.p≥2305843009213693952)∧¬G.q<3)∧¬Int.tmod G.q 2=0)∧Int.tmod (IntKind.wrap .i64 (G.p - 1)) G.q=0)∧¬G.g<2)∧¬G.g≥G.p) :
  (jF G.p&&jF G.q&&G.g^G.q.toNat%G.p==1)=bo G:=by grind [iZ,bo,decide_eq_true]
def aI.x (b:aI) (i:Nat):Int:=[b.g1,b.g2,b.h].getD i 0
def aI.sU (b:aI) (i:Nat):Bool:=b.x i != 1&&aO b.gr (b.x i)
theorem lS (b:aI):aT b=(bo b.gr&&allI b.sU 3):=by
 show aT b=(bo b.gr&&(b.sU 0&&(b.sU 1&&(b.sU 2&&true))))
 show (bo b.gr&&b.g1 != 1&&b.g2 != 1&&b.h != 1&&aO b.gr b.g1&&aO b.gr b.g2&&aO b.gr b.h)=(bo b.gr&&((b.g1 != 1&&aO b.gr b.g1)&&((b.g2 != 1&&aO b.gr b.g2)&&((b.h != 1&&aO b.gr b.h)&&true))))
 grind
theorem Ke {os:List (Option Ob)} {b:aI} {mu:Bool}:aJ os ⟨1,3,mu,.bc [[.int .i64 b.g1],[.int .i64 b.g2],[.int .i64 b.h]]⟩ ⟨1,3,mu,.fn fun i _=>.int .i64 (b.x i)⟩:=pI fun i j hi hj=>by
 obtain rfl:j=0:=by omega
 match i,hi with
 | 0,_|1,_|2,_=>rfl
structure aI.Ok (b : aI) : Prop where
  G : b.gr.Ok
  n1 : b.g1 ≠ 1
  n2 : b.g2 ≠ 1
  nh : b.h ≠ 1
  e1 : aO b.gr b.g1 = true
  e2 : aO b.gr b.g2 = true
  eh : aO b.gr b.h = true
theorem bH {b:aI}:aT b=true↔b.Ok:=by
 unfold aT
 simp only [Bool.and_eq_true,bp,bne_iff_ne]
 constructor
 ·rintro ⟨⟨⟨⟨⟨⟨a,b⟩,c⟩,d⟩,e⟩,f⟩,g⟩;exact ⟨a,b,c,d,e,f,g⟩
 ·rintro ⟨a,b,c,d,e,f,g⟩;grind
theorem DV {G:bN} {x:Int} (h:G.Ok):(decide (x≥1)&&decide (x<G.p)&&x^G.q.toNat%G.p==1)=aO G x:=by
 by_cases hx:x<1∨x≥G.p
 ·grind [xj,decide]
 ·rw [wR (by omega),h.eT (by omega) (by omega),Iv,show decide (x≥1)=true from by grind,show decide (x<G.p)=true from by grind];simp
theorem aI.Kf {b:aI} {i:Nat} (h:bo b.gr=true) (g:b.x i=1∨(bo b.gr=false∨aO b.gr (b.x i)=false)):b.sU i=false:=by
 unfold sU
 grind
theorem aI.Kn {b:aI} {i:Nat} (g:¬b.x i=1∧(bo b.gr=true∧aO b.gr (b.x i)=true)):b.sU i=true:=by simp_all [sU,Bool.and_true]
theorem cN {p:Nat→Bool} {i:Nat} (h:∀ j,j<i→p j=true) (hi:p i=true):∀ j,j<i+1→p j=true:=fun j hj=>by grind
end Go.Sp

namespace Go.Proofs.YtpefjkpdniiaoaaGreatDoor
open Go.IntKind (wrap)
open Int (toNat)
open Go Go.Am Go.Sp
set_option maxRecDepth 100000
theorem rG (G:bN) (x:Int) (hw:G.W):Pure Tryz.prog aZ 143 [G.av,.int .i64 x] (.bool (aO G x)):=by
 have hq:=hw.q
 refine ar (own:=bq) Tryz.func143 (by kernel_rfl) mixed (by kernel_rfl)
  (.br (decide (x<1)||decide (x≥G.1)) (.out (.bool false) [] (.bool (aO G x)) []) (.sc true 142 [Zi x,Zi G.2,Zi G.1] (.aX [Zi (kd (eT x G.2 G.1) (x^toNat G.2%G.1)),Zi (eT x G.2 G.1)]) (.out (.bool (kd (eT x G.2 G.1) (x^toNat G.2%G.1)==1)) [] (.bool (aO G x)) [])))
  (by kernel_rfl) ?_
 refine aL (fun h0=>?_) (fun h0=>?_)
 ·have g0:=(aA af af) h0
  exact aq (ay.of_eq (congrArg _ (xj g0).symm))
 ·have g0:=(aw aa aa) h0
  refine aM (nH (x) (G.2) (G.1) (by assumption)) ?_
  exact aq (ay.of_eq (congrArg _ (wR g0).symm))
theorem ks (G:bN) (hw:G.W):Pure Tryz.prog aZ 80 [G.av] (.bool (bo G)):=by
 have hq:=hw.q
 have hp:=hw.p
 refine ar (own:=bq) Tryz.func80 (by kernel_rfl) mixed (by kernel_rfl)
  (.sc ((decide (G.1≥2305843009213693952)||decide (G.2<3)||Int.tmod G.2 (2:Int)==0)==false) 141 [Zi G.1] (.bool (jF G.1)) (.sc ((decide (G.1≥2305843009213693952)||decide (G.2<3)||Int.tmod G.2 (2:Int)==0 || !jF G.1)==false) 141 [Zi G.2] (.bool (jF G.2)) (.bj (((decide (G.1≥2305843009213693952)||decide (G.2<3)||Int.tmod G.2 (2:Int)==0 || !jF G.1 || !jF G.2)==false)=true→G.2≠(0:Int)) (.br (decide (G.1≥2305843009213693952)||decide (G.2<3)||Int.tmod G.2 (2:Int)==0 || !jF G.1 || !jF G.2||Int.tmod (wrap .i64 (G.1 - 1)) G.2 != 0||decide (G.3<2)||decide (G.3≥G.1)) (.out (.bool false) [] (.bool (bo G)) []) (.sc true 142 [Zi G.3,Zi G.2,Zi G.1] (.aX [Zi (kd (eT G.3 G.2 G.1) (G.3^toNat G.2%G.1)),Zi (eT G.3 G.2 G.1)]) (.out (.bool (eT G.3 G.2 G.1==0&&kd (eT G.3 G.2 G.1) (G.3^toNat G.2%G.1)==1)) [] (.bool (bo G)) []))))))
  (by kernel_rfl) ?_
 refine aW (fun h0=>MJ (G.1) (by assumption)) ?_
 refine aW (fun h1=>MJ (G.2) (by assumption)) ?_
 refine aD (fun hr=>by have hr:=(dd (aw (aw (aw (aw aa aa) aj) (az aB)) (az aB))) hr;omega) ?_
 refine aL (fun h3=>?_) (fun h3=>?_)
 ·have g3:=(aA (aA (aA (aA (aA (aA (aA af af) ai) (aC aF)) (aC aF)) aU) af) af) h3
  exact aq (ay.of_eq (congrArg _ (NC g3).symm))
 ·have g3:=(aw (aw (aw (aw (aw (aw (aw aa aa) aj) (az aB)) (az aB)) aR) aa) aa) h3
  refine aM (nH (G.3) (G.2) (G.1) (by assumption)) ?_
  exact aq (ay.of_eq (congrArg _ (Jp g3)))
theorem en (G:bN) (x:Int) (hw:G.W):Pure Tryz.prog aZ 81 [G.av,.int .i64 x] (.bool (bo G&&aO G x)):=by
 refine ar (own:=bq) Tryz.func81 (by kernel_rfl) mixed (by kernel_rfl)
  (.sc true 80 [.agg [Zi G.1,Zi G.2,Zi G.3]] (.bool (bo G)) (.sc (bo G==true) 143 [.agg [Zi G.1,Zi G.2,Zi G.3],Zi x] (.bool (aO G x)) (.out (.bool (bo G&&aO G x)) [] (.bool (bo G&&aO G x)) [])))
  (by kernel_rfl) ?_
 refine aM (ks (G) (by assumption)) ?_
 refine aW (fun h1=>rG (G) (x) (by assumption)) ?_
 exact aq (ay.of_eq rfl)
theorem eF (b:aI) (hw:b.gr.W):Pure Tryz.prog aZ 31 [b.av] (.bool (aT b)):=by
 refine ar (own:=bq) Tryz.func31 (by kernel_rfl) mixed (by kernel_rfl)
  (let y0:List (Option Ob):=[some ⟨6,1,true,.bc [aI.cells b]⟩,some ⟨1,3,true,.fn fun i x=>Zi (aI.x b i)⟩];let y1:List AV:=[Zi (aI.gr b).1,Zi (aI.gr b).2,Zi (aI.gr b).3];let y2:AV:=(.bool (aT b));(.sc true 80 [.agg y1] (.bool (bo (aI.gr b))) (.br (!bo b.1) (.out (.bool false) [] y2 []) (.loop ({ x:Nat // x≤3∧(fun (i:Nat)=>∀ (j:Nat),j<i→aI.sU b j=true) x }) (fun x=>aY [1,15,16,2,17] [.own 0 6 0 0 6,.ba 1 1 0 3,Zi 3,.bool false,Zi x.1] y0) (fun x=>3 - x.1) (⟨0,⟨Nat.zero_le 3,fun (j:Nat) (hj:j<0)=>absurd hj (Nat.not_lt_zero j)⟩⟩) [1,15,16,2,17] [0,96] [.own 0 6 0 0 6,.ba 1 1 0 3,Zi 3,.bool false,Zi 0] [some ⟨6,1,true,.bc [aI.cells b]⟩,some ⟨1,3,true,.bc [[Zi (aI.g1 b)],[Zi (aI.g2 b)],[Zi (aI.h b)]]⟩] (fun x3=>(.br (decide ((x3.1:Int)<3)) (.bj (0≤(x3.1:Int)∧(x3.1:Int)<3) (.sc ((aI.x b (toNat (x3.1:Int)+0)==1)==false) 81 [.agg y1,Zi (aI.x b (toNat (x3.1:Int)+0))] (.bool (bo (aI.gr b)&&aO (aI.gr b) (aI.x b (toNat (x3.1:Int)+0)))) (.br (aI.x b (toNat (x3.1:Int)+0)==1 || !(bo b.1&&aO b.1 (aI.x b (toNat (x3.1:Int)+0)))) (.out (.bool false) [] y2 []) (.again (bh 0 (fun x=>aY [1,15,16,2,17] [.own 0 6 0 0 6,.ba 1 1 0 3,Zi 3,.bool false,Zi x.1] y0) (fun x=>3 - x.1) x3) [1,15,16,2,17] [0,1] [.own 0 6 0 0 6,.ba 1 1 0 3,Zi 3,.bool false,Zi (wrap .i64 ((x3.1:Int)+1))] [some ⟨6,1,true,.bc [aI.cells b]⟩,some ⟨1,3,true,.fn fun i j=>Zi (aI.x b i)⟩])))) (.out (.bool true) [] y2 [])))))))
  (by kernel_rfl) ?_
 refine aM ((ks (aI.gr b)) (by assumption)) ?_
 refine aL (fun h1=>?_) (fun h1=>?_)
 ·have g1:=(aC aF) h1
  exact aq (ay.of_eq (congrArg _ (by rw [lS,g1];rfl)))
 ·have g1:=(az aB) h1
  refine aV (fun _ hs=>hs.le (⟨.refl _,.refl _,.refl _,.refl _,.refl _,trivial⟩) (⟨.refl _,Ke,trivial⟩)) (fun x3=>?_)
  try (have q3:=x3.2;dsimp only at q3)
  refine aL (fun h4=>?_) (fun h4=>?_)
  ·have g4:=af h4
   refine aD (by omega) ?_
   refine aW (fun h6=>(en (aI.gr b)) (aI.x b (toNat (↑x3.1:Int)+0)) (by assumption)) ?_
   refine aL (fun h7=>?_) (fun h7=>?_)
   ·have g7:=(aA ai (aC (ao aF aF))) h7
    try simp only [Int.toNat_natCast] at g7
    exact aq (ay.of_eq (congrArg _ (by rw [lS,nj (i:=x3.1) (by omega) (aI.Kf g1 g7)];simp)))
   ·have g7:=(aw aj (az (ah aB aB))) h7
    try simp only [Int.toNat_natCast] at g7
    exact aN (⟨x3.1+1,by omega,cN x3.2.2 (aI.Kn g7)⟩) (fun _ hs=>hs.le (⟨.refl _,.refl _,.refl _,.refl _,aK (by omega),trivial⟩) (⟨.refl _,.refl _,trivial⟩)) (by dsimp only;omega)
  ·have g4:=aa h4
   exact aq (ay.of_eq (congrArg _ (by rw [lS,g1,nE fun j hj=>x3.2.2 j (by omega)];rfl)))
theorem dL (G:bN) (x:Int) (hw:G.Ok):Pure Tryz.prog aZ 110 [G.av,.int .i64 x] (.bool (aO G x)):=by
 have h1:=hw.p1
 have h2:=hw.q3
 have h3:=hw.qp
 refine ar (own:=bq) Tryz.func110 (by kernel_rfl) mixed (by kernel_rfl)
  (.sc ((decide (x≥1)&&decide (x<G.1))==true) 76 [Zi x,Zi G.2,Zi G.1] (Zi (x^toNat G.2%G.1)) (.out (.bool (decide (x≥1)&&decide (x<G.1)&&x^toNat G.2%G.1==1)) [] (.bool (aO G x)) []))
  (by kernel_rfl) ?_
 refine aW (fun h0=>jS (x) (G.2) (G.1) (by (simp at h0;omega)) (by (simp at h0;omega)) (by omega) (by omega) (by assumption)) ?_
 exact aq (ay.of_eq (congrArg _ (DV hw)))
theorem oQ (G:bN) (hw:G.W):Pure Tryz.prog aZ 109 [G.av] (.bool (bo G)):=by
 refine ar (own:=bq) Tryz.func109 (by kernel_rfl) mixed (by kernel_rfl)
  (.bj (((decide (G.1<3)||decide (G.1≥2305843009213693952)||decide (G.2<3)||Int.tmod G.2 (2:Int)==0)==false)=true→G.2≠(0:Int)) (.br (decide (G.1<3)||decide (G.1≥2305843009213693952)||decide (G.2<3)||Int.tmod G.2 (2:Int)==0||Int.tmod (wrap .i64 (G.1 - 1)) G.2 != 0||decide (G.3<2)||decide (G.3≥G.1)) (.out (.bool false) [] (.bool (bo G)) []) (.sc true 186 [Zi G.1] (.bool (jF G.1)) (.sc (jF G.1==true) 186 [Zi G.2] (.bool (jF G.2)) (.sc ((jF G.1&&jF G.2)==true) 76 [Zi G.3,Zi G.2,Zi G.1] (Zi (G.3^toNat G.2%G.1)) (.out (.bool (jF G.1&&jF G.2&&G.3^toNat G.2%G.1==1)) [] (.bool (bo G)) []))))))
  (by kernel_rfl) ?_
 refine aD (fun hr=>by have hr:=(dd (aw (aw (aw aa aa) aa) aj)) hr;omega) ?_
 refine aL (fun h1=>?_) (fun h1=>?_)
 ·have g1:=(aA (aA (aA (aA (aA (aA af af) af) ai) aU) af) af) h1
  exact aq (ay.of_eq (congrArg _ (J7 g1).symm))
 ·have g1:=(aw (aw (aw (aw (aw (aw aa aa) aa) aj) aR) aa) aa) h1
  refine aM (HV (G.1) (by have:=iZ g1;omega)) ?_
  refine aW (fun h4=>HV (G.2) (by have:=iZ g1;omega)) ?_
  refine aW (fun h5=>jS (G.3) (G.2) (G.1) (by have:=iZ g1;omega) (by have:=iZ g1;omega) (by have:=iZ g1;omega) (by have:=iZ g1;omega) (by have:=iZ g1;omega)) ?_
  exact aq (ay.of_eq (congrArg _ (Fm g1)))
theorem gG (b:aI) (hw:b.gr.W):Pure Tryz.prog aZ 64 [b.av] (.bool (aT b)):=by
 refine ar (own:=bq) Tryz.func64 (by kernel_rfl) mixed (by kernel_rfl)
  (let y0:List AV:=[Zi (aI.gr b).1,Zi (aI.gr b).2,Zi (aI.gr b).3];(.sc true 109 [.agg y0] (.bool (bo (aI.gr b))) (.sc ((bo b.1&&b.2 != 1&&b.3 != 1&&b.4 != 1)==true) 110 [.agg y0,Zi b.2] (.bool (aO (aI.gr b) b.2)) (.sc ((bo b.1&&b.2 != 1&&b.3 != 1&&b.4 != 1&&aO b.1 b.2)==true) 110 [.agg y0,Zi b.3] (.bool (aO (aI.gr b) b.3)) (.sc ((bo b.1&&b.2 != 1&&b.3 != 1&&b.4 != 1&&aO b.1 b.2&&aO b.1 b.3)==true) 110 [.agg y0,Zi b.4] (.bool (aO (aI.gr b) b.4)) (.out (.bool (bo b.1&&b.2 != 1&&b.3 != 1&&b.4 != 1&&aO b.1 b.2&&aO b.1 b.3&&aO b.1 b.4)) [] (.bool (aT b)) []))))))
  (by kernel_rfl) ?_
 refine aM ((oQ (aI.gr b)) (hw)) ?_
 refine aW (fun h1=>(dL (aI.gr b)) (b.2) (bp.1 (by simp at h1;simp [h1]))) ?_
 refine aW (fun h2=>(dL (aI.gr b)) (b.3) (bp.1 (by simp at h2;simp [h2]))) ?_
 refine aW (fun h3=>(dL (aI.gr b)) (b.4) (bp.1 (by simp at h3;simp [h3]))) ?_
 exact aq (ay.of_eq rfl)
end Go.Proofs.YtpefjkpdniiaoaaGreatDoor

namespace Go.Sp
open Go.IntKind (wrap)
open Int (toNat)
open Go Go.Am
theorem cD {a b:Nat} (h:a<b):Nat.blt a b=true:=by simp_all
theorem dn {a b:Nat} (h:b≤a):Nat.blt a b=false:=by grind [Nat.blt,Nat.blt_eq]
theorem mD {a b:Nat} (h:a≠b):Nat.beq a b=false:=by grind [Nat.beq,absurd,Nat.eq_of_beq_eq_true]
theorem aJ.M2 {os:List (Option Ob)} {n i0:Nat} {mu:Bool} {k:IntKind} {F G:Nat→Int} {X:Int} (h0:X=G i0) (h:∀ i,i<n→i≠i0→F i=G i) :
  aJ os ⟨1,n,mu,.fn fun i j=>.int k (bif Nat.beq i (i0+0)&&(Nat.ble 0 j&&Nat.blt j 1) then X else F i)⟩ ⟨1,n,mu,.fn fun i _=>.int k (G i)⟩ :=
 ⟨rfl,rfl,rfl,fun i j hi hj=>ay.of_eq (by
  obtain rfl:j=0:=Nat.lt_one_iff.1 hj
  show AV.int k (bif Nat.beq i i0&&true then X else F i)=.int k (G i)
  grind [Nat.beq_refl,mD])⟩
theorem aJ.mM {os:List (Option Ob)} {x x':Nat} {mu:Bool} {k:IntKind} {F:Nat→Int} {v:Int} (hx:x'=x+1) (h:v=F x) :
  aJ os ⟨1,x+1,mu,.fn fun i j=>.int k (bif Nat.blt i x then F i else aE (aQ [.int k v] j))⟩ ⟨1,x',mu,.fn fun i _=>.int k (F i)⟩:=by
 subst hx
 refine ⟨rfl,rfl,rfl,fun i j hi hj=>ay.of_eq ?_⟩
 obtain rfl:j=0:=Nat.lt_one_iff.1 hj
 have hi:i<x+1:=hi
 show AV.int k (bif Nat.blt i x then F i else v)=.int k (F i)
 by_cases e:i<x
 ·grind [cD]
 grind
theorem aJ.Bw {os:List (Option Ob)} {m c0:Nat} {mu:Bool} {k:IntKind} {F G:Nat→Int} {X:Int} {P:Nat→Nat→Bool} (hP:∀ j,j<m→P 0 j=Nat.beq j c0) (h0:X=G c0) (h:∀ j,j<m→j≠c0→F j=G j) :
  aJ os ⟨m,1,mu,.fn fun i j=>.int k (bif P i j then X else F j)⟩ ⟨m,1,mu,.fn fun _ j=>.int k (G j)⟩ :=
 ⟨rfl,rfl,rfl,fun i j hi hj=>ay.of_eq (by
  obtain rfl:i=0:=Nat.lt_one_iff.1 hi
  show AV.int k (bif P 0 j then X else F j)=.int k (G j)
  grind [Nat.beq_refl,mD])⟩
theorem aJ.Ab {os:List (Option Ob)} {m:Nat} {mu:Bool} {k:IntKind} {G:Nat→Int} {l:List AV} (h:l=(List.range m).map fun j=>.int k (G j)) :
  aJ os ⟨m,1,mu,.bc [l]⟩ ⟨m,1,mu,.fn fun _ j=>.int k (G j)⟩:=by
 subst h
 refine ⟨rfl,rfl,rfl,fun i j hi hj=>ay.of_eq ?_⟩
 obtain rfl:i=0:=Nat.lt_one_iff.1 hi
 exact dv hj
theorem jD {F:Nat→Int} {z:Int} {i q:Nat} (h:q≠i):(bif Nat.blt q i then F q else z)=(bif Nat.blt q (i+1) then F q else z):=by grind [cD,dn]
theorem aJ.ML {os:List (Option Ob)} {n i:Nat} {mu:Bool} {k:IntKind} {F:Nat→Int} {X z:Int} (h:X=F i) :
  aJ os ⟨1,n,mu,.fn fun q j=>.int k (bif Nat.beq q (i+0)&&(Nat.ble 0 j&&Nat.blt j 1) then X else (bif Nat.blt q i then F q else z))⟩ ⟨1,n,mu,.fn fun q _=>.int k (bif Nat.blt q (i+1) then F q else z)⟩ :=
 aJ.M2 (i0:=i) (by simp_all [cD]) (fun q _ he=>jD he)
theorem aJ.fnR {os:List (Option Ob)} {m:Nat} {mu:Bool} {k:IntKind} {F G:Nat→Int} (h:∀ j,j<m→F j=G j) :
  aJ os ⟨m,1,mu,.fn fun _ j=>.int k (F j)⟩ ⟨m,1,mu,.fn fun _ j=>.int k (G j)⟩:=⟨rfl,rfl,rfl,fun _ j _ hj=>ay.of_eq (congrArg _ (h j hj))⟩
theorem aJ.fnF {os:List (Option Ob)} {n n':Nat} {mu:Bool} {k:IntKind} {F G:Nat→Int} (hn:n=n') (h:∀ i,i<n→F i=G i) :
  aJ os ⟨1,n,mu,.fn fun i _=>.int k (F i)⟩ ⟨1,n',mu,.fn fun i _=>.int k (G i)⟩:=⟨rfl,hn,rfl,fun i _ hi _=>ay.of_eq (congrArg _ (h i hi))⟩
theorem oU {F z:Nat→Int} {i q:Nat} (h:q≠i):(bif Nat.blt q i then F q else z q)=(bif Nat.blt q (i+1) then F q else z q):=by grind [cD,dn]
theorem rz {l:List Int} {k:IntKind} {i:Nat} (h:i<l.length):aQ ((l.map fun x=>[AV.int k x]).getD i []) 0=.int k (l.getD i 0):=by
 rw [List.getD_eq_getElem?_getD,List.getD_eq_getElem?_getD,List.getElem?_map,List.getElem?_eq_getElem h]
 rfl
abbrev sps (n:Nat) (S:Nat→au):AV:=.aH 80 n (fun i j=>aQ (S i).cells j)
abbrev ils (n:Nat) (f:Nat→Int):AV:=.aH 1 n (fun i _=>.int .i64 (f i))
structure Chn where
  first : au
  n : Nat
  l : Nat → au
def Chn.cells (h:Chn):List AV:=h.first.cells++[sps h.n h.l]
def Chn.av (h:Chn):AV:=.agg h.cells
structure Esc where
  e1 : Int
  e2 : Int
  na : Nat
  a : Nat → Int
  c : Int
  nz : Nat
  z : Nat → Int
def Esc.cw (e:Esc) (x y:AV):List AV:=[.int .i64 e.e1,.int .i64 e.e2,x,.int .i64 e.c,y]
def Esc.cells (e:Esc):List AV:=e.cw (ils e.na e.a) (ils e.nz e.z)
def Esc.av (e:Esc):AV:=.agg e.cells
abbrev chs (n:Nat) (f:Nat→Chn):AV:=.aH 81 n (fun i j=>aQ (f i).cells j)
abbrev Oh (n:Nat) (f:Nat→Esc):AV:=.aH 5 n (fun i j=>aQ (f i).cells j)
structure GQ where
  number : Int
  ns : Nat
  sp : Nat → au
  nc : Nat
  ch : Nat → Chn
  ne : Nat
  es : Nat → Esc
def GQ.cw (p:GQ) (x y z:AV):List AV:=[.int .i64 p.number,x,y,z]
def GQ.cells (p:GQ):List AV:=p.cw (sps p.ns p.sp) (chs p.nc p.ch) (Oh p.ne p.es)
def GQ.av (p:GQ):AV:=.agg p.cells
structure Inv where
  bM : Nat → Int
  Kp : Int
  time : Int
  number : Int
def bf (p:Nat→Int):List AV:=[.int .u8 (p 0),.int .u8 (p 1),.int .u8 (p 2),.int .u8 (p 3),.int .u8 (p 4),.int .u8 (p 5),.int .u8 (p 6),.int .u8 (p 7),.int .u8 (p 8),.int .u8 (p 9),.int .u8 (p 10),.int .u8 (p 11),.int .u8 (p 12),.int .u8 (p 13),.int .u8 (p 14),.int .u8 (p 15),.int .u8 (p 16),.int .u8 (p 17),.int .u8 (p 18),.int .u8 (p 19),.int .u8 (p 20),.int .u8 (p 21),.int .u8 (p 22),.int .u8 (p 23),.int .u8 (p 24),.int .u8 (p 25),.int .u8 (p 26),.int .u8 (p 27),.int .u8 (p 28),.int .u8 (p 29),.int .u8 (p 30),.int .u8 (p 31)]
def Inv.cells (v:Inv):List AV:=bf v.bM++[.int .i64 v.Kp,.int .i64 v.time,.int .i64 v.number]
def Inv.av (v:Inv):AV:=.agg v.cells
def Inv.zero:Inv:=⟨fun _=>0,0,0,0⟩
def anyI (p:Nat→Bool) (n:Nat):Bool:=decide (aG p n 0≥0)
def GQ.zero:GQ:=⟨0,0,fun _=>.zero,0,fun _=>⟨.zero,0,fun _=>.zero⟩,0,fun _=>⟨0,0,0,fun _=>0,0,0,fun _=>0⟩⟩
structure N6 (p : GQ) : Prop where
  ns : p.ns ≤ 8
  nc : p.nc ≤ 8
  ne : p.ne ≤ 20
  sp : ∀ i, i < p.ns → (p.sp i).nl ≤ 1000 ∧ (p.sp i).np ≤ 1000
  cn : ∀ i, i < p.nc → (p.ch i).n ≤ 10
  cf : ∀ i, i < p.nc → (p.ch i).first.nl ≤ 1000 ∧ (p.ch i).first.np ≤ 1000
  cl : ∀ i j, i < p.nc → j < (p.ch i).n → ((p.ch i).l j).nl ≤ 1000 ∧ ((p.ch i).l j).np ≤ 1000
  es : ∀ i, i < p.ne → (p.es i).na ≤ 1000 ∧ (p.es i).nz ≤ 1000
theorem cV.app {os:List (Option Ob)}:∀ {l l' m m':List AV},cV os l l'→cV os m m'→cV os (l++m) (l'++m')
 | [],[],_,_,_,h=>h
 | _::_,_::_,_,_,h,h'=>⟨h.1,cV.app h.2 h'⟩
 | [],_::_,_,_,h,_=>h.elim
 | _::_,[],_,_,h,_=>h.elim
theorem eV {g:Nat→Int} {j:Nat} (h:j<32):aE (aQ (bf g) j)=g j:=congrArg aE (dv (es:=32) (g:=fun j=>AV.int .u8 (g j)) h)
def dt (x y:Int):Int:=IntKind.wrap .u32 (x+y)
def po (x y:Int):Int:=IntKind.wrap .u32 ((BitVec.ofInt 32 x ^^^ BitVec.ofInt 32 y).toNat:Nat)
def Dv (x y:Int):Int:=IntKind.wrap .u32 ((BitVec.ofInt 32 x &&& BitVec.ofInt 32 y).toNat:Nat)
def Oe (x:Int):Int:=IntKind.wrap .u32 ((BitVec.ofInt 32 4294967295 ^^^ BitVec.ofInt 32 x).toNat:Nat)
def MF (x:Int) (n:Nat):Int:=x / 2^n
def cJ (x:Int) (n:Nat):Int:=IntKind.wrap .u32 ((BitVec.ofInt 32 (x / 2^n) ||| BitVec.ofInt 32 (IntKind.wrap .u32 (x*2^(32 - n)))).toNat:Nat)
theorem zT (a b:Int):IntKind.wrap .u32 ((BitVec.ofInt 32 a ||| BitVec.ofInt 32 b).toNat:Nat)=IntKind.wrap .u32 ((BitVec.ofInt 32 b ||| BitVec.ofInt 32 a).toNat:Nat):=by grind
theorem LM:∀ n:Fin 32,0<n.val→IntKind.wrap .u64 ((BitVec.ofInt 64 (IntKind.wrap .u64 (IntKind.wrap .i64 (0 - (n.val:Int)))) &&& BitVec.ofInt 64 31).toNat:Nat)=((32 - n.val:Nat):Int):=by decide +kernel
theorem La {n:Nat} (h0:0<n) (h:n<32):IntKind.wrap .u64 ((BitVec.ofInt 64 (IntKind.wrap .u64 (IntKind.wrap .i64 (0 - (n:Int)))) &&& BitVec.ofInt 64 31).toNat:Nat)=((32 - n:Nat):Int):=LM ⟨n,h⟩ h0
def qS (n:Int) (i:Nat):Int:=n / 2^(56 - 8*i)%256
abbrev dC (n:Nat) (f:Nat→Int):AV:=.aH 1 n (fun i _=>.int .u8 (f i))
theorem ex8 {i:Nat} (h:i<8):min (toNat (IntKind.wrap .i64 (56 - IntKind.wrap .i64 (8*(i:Int))))) 64=56 - 8*i:=by grind [wI,Int]
theorem ME {n:Int} {i:Nat} (h:i<8):IntKind.wrap .u8 (Int.fdiv n (2^min (toNat (IntKind.wrap .i64 (56 - IntKind.wrap .i64 (8*(i:Int))))) 64))=qS n i:=by
 rw [ex8 h,wD,du];rfl
theorem NP {n:Int} {i:Nat} (h:i<8):IntKind.wrap .u8 (Int.fdiv n (2^min (toNat (IntKind.wrap .i64 (8*(7 - (i:Int))))) 64))=qS n i:=by
 rw [wI (by omega) (by omega),show min (toNat (8*(7 - (i:Int)))) 64=56 - 8*i by omega,wD,du];rfl
theorem ji {os:List (Option Ob)} {n n':Nat} {f g:Nat→Nat→Int} (hn:n=n') (h:∀ i,i<n→f i 0=g i 0):ay os (.aH 1 n fun i j=>.int .u8 (f i j)) (.aH 1 n' fun i j=>.int .u8 (g i j)):=by
 refine ay.iP hn fun i j hi hj=>?_
 obtain rfl:j=0:=Nat.lt_one_iff.1 hj
 exact congrArg _ (h i hi)
def preB (b:Nat→Int) (i:Nat):Nat→Int
 | 0=>0
 | k+1=>preB b i k*256+b (4*i+k)
def qn (b:Nat→Int) (i:Nat):Int:=preB b i 4
def sg0 (x:Int):Int:=po (po (cJ x 7) (cJ x 18)) (MF x 3)
def sg1 (x:Int):Int:=po (po (cJ x 17) (cJ x 19)) (MF x 10)
def bg (b:Nat→Int) (j:Nat):Int :=
 if h:j<16 then qn b j
 else dt (dt (dt (bg b (j - 16)) (sg0 (bg b (j - 15)))) (bg b (j - 7))) (sg1 (bg b (j - 2)))
termination_by j
decreasing_by all_goals omega
theorem oA {b:Nat→Int} {j:Nat} (h:j<16):bg b j=qn b j:=by rw [bg,dif_pos h]
theorem tJ {b:Nat→Int} {j:Nat} (h:16≤j):bg b j=dt (dt (dt (bg b (j - 16)) (sg0 (bg b (j - 15)))) (bg b (j - 7))) (sg1 (bg b (j - 2))):=by rw [bg,dif_neg (by omega)]
def S1 (e:Int):Int:=po (po (cJ e 6) (cJ e 11)) (cJ e 25)
def S0 (a:Int):Int:=po (po (cJ a 2) (cJ a 13)) (cJ a 22)
def chF (e f g:Int):Int:=po (Dv e f) (Dv (Oe e) g)
def Ol (a b c:Int):Int:=po (po (Dv a b) (Dv a c)) (Dv b c)
def rX (v w:Nat→Int) (t:Nat):Int:=dt (dt (dt (dt (v 7) (S1 (v 4))) (chF (v 4) (v 5) (v 6))) (kF t)) (w t)
def rY (v:Nat→Int):Int:=dt (S0 (v 0)) (Ol (v 0) (v 1) (v 2))
def jW (s w:Nat→Int):Nat→Nat→Int
 | 0,i=>s i
 | t+1,i=>match i with
  | 0=>dt (rX (jW s w t) w t) (rY (jW s w t))
  | 4=>dt (jW s w t 3) (rX (jW s w t) w t)
  | j+1=>jW s w t j
def Lr (s b:Nat→Int) (i:Nat):Int:=dt (s i) (jW s (bg b) 64 i)
def cS (b:Nat→Int) (n:Nat):Prop:=∀ i,i<n→0≤b i∧b i<256
theorem xD {b:Nat→Int} {i:Nat} (h:∀ k,k<4→0≤b (4*i+k)∧b (4*i+k)<256):∀ k,k≤4→0≤preB b i k∧preB b i k<256^k
 | 0,_=>by simp [preB]
 | k+1,hk=>by
  have h1:=xD h k (by omega)
  grind [preB,Int.pow_succ]
theorem D4 {x c:Int} (h0:0≤x) (h1:x<16777216) (h2:0≤c) (h3:c<256):IntKind.wrap .u32 ((BitVec.ofInt 32 (IntKind.wrap .u32 (x*2^8)) ||| BitVec.ofInt 32 (IntKind.wrap .u32 c)).toNat:Nat)=x*256+c:=by
 obtain ⟨n,rfl⟩:=Int.eq_ofNat_of_zero_le h0
 obtain ⟨m,rfl⟩:=Int.eq_ofNat_of_zero_le h2
 have e:((n:Int)*2^8)=((n*2^8:Nat):Int):=by omega
 rw [FW (n:=(m:Int)) (by omega) (by omega),e,FW (n:=((n*2^8:Nat):Int)) (by omega) (by omega),orN (by omega) (by omega),← Nat.shiftLeft_eq,← Nat.shiftLeft_add_eq_or_of_lt (show m<2^8 by omega),Nat.shiftLeft_eq,FW (by omega) (by omega)]
 omega
theorem EV {os:List (Option Ob)} {f g:Nat→Int} {n:Nat}:aJ os ⟨1,0+n,true,.fn fun i _=>.int .u8 (f i)⟩ ⟨1,n+0,true,.fn fun i _=>.int .u8 (bif Nat.blt i n then f i else g (i - n))⟩ :=
 ⟨rfl,by simp,rfl,fun i j hi _=>ay.of_eq (by have hi:i<0+n:=hi;show AV.int .u8 (f i)=.int .u8 (bif Nat.blt i n then f i else g (i - n));grind [cD])⟩
theorem w4 {i:Nat} (h:i<16):IntKind.wrap .i64 (4*(i:Int))=4*i∧IntKind.wrap .i64 (4*(i:Int)+4)=4*i+4:=⟨wI (by omega) (by omega),wI (by omega) (by omega)⟩
theorem Fl {os:List (Option Ob)} {G:Nat→Int} (h:∀ j,G j=0):aJ os ⟨64,1,true,.bc [(List.range 64).map fun _=>.int .u32 0]⟩ ⟨64,1,true,.fn fun _ j=>.int .u32 (G j)⟩:=aJ.Ab (by grind)
theorem yC {b:Nat→Int} {i k:Nat} (hb:cS b 64) (hi:i<16) (hk:k<4):0≤preB b i k∧preB b i k<16777216:=by
 have h:=xD (b:=b) (i:=i) (fun q hq=>hb _ (by omega)) k (by omega)
 match k,hk,h with
 | 0,_,h|1,_,h|2,_,h|3,_,h=>omega
theorem kJ {t:Nat} {d:Int} {k:Nat} (h:d=k) (hk:k≤16+t) (ht:t<1000):toNat (IntKind.wrap .i64 (((16+t:Nat):Int) - d))=16+t - k:=by grind [wI]
structure Rnd (s w : Nat → Int) (R : Nat → Nat → Int) : Prop where
  z : ∀ i, R 0 i = s i
  s0 : ∀ t, R (t + 1) 0 = dt (rX (R t) w t) (rY (R t))
  s1 : ∀ t, R (t + 1) 1 = R t 0
  s2 : ∀ t, R (t + 1) 2 = R t 1
  s3 : ∀ t, R (t + 1) 3 = R t 2
  s4 : ∀ t, R (t + 1) 4 = dt (R t 3) (rX (R t) w t)
  s5 : ∀ t, R (t + 1) 5 = R t 4
  s6 : ∀ t, R (t + 1) 6 = R t 5
  s7 : ∀ t, R (t + 1) 7 = R t 6
theorem rnd (s w:Nat→Int):Rnd s w (jW s w):=⟨fun _=>rfl,fun _=>rfl,fun _=>rfl,fun _=>rfl,fun _=>rfl,fun _=>rfl,fun _=>rfl,fun _=>rfl,fun _=>rfl⟩
def aP (n:Nat):Nat:=((n+8) / 64+1)*64
def iQ (n:Nat) (f:Nat→Int) (i:Nat):Int:=bif Nat.blt i n then f i else bif Nat.beq i n then 128 else 0
def dZ (n:Nat) (f:Nat→Int) (i:Nat):Int:=bif Nat.blt i (aP n - 8) then iQ n f i else qS (8*(n:Int)) (i - (aP n - 8))
def nw (p:Nat→Int):Nat→Nat→Int
 | 0=>xH
 | k+1=>Lr (nw p k) (fun i=>p (64*k+i))
def bX (v:Nat→Int) (j:Nat):Int:=v (j / 4) / 2^(24 - 8*(j%4))%256
def dT (n:Nat) (f:Nat→Int):Nat→Int:=bX (nw (dZ n f) (aP n / 64))
theorem i7 (n:Nat):aP n%64=0∧n+9≤aP n∧aP n<n+73:=by grind [aP]
theorem Hf {n z:Nat} (h:n+1+z+8=aP n):(n+1+z)%64=56:=by grind [i7]
theorem Bx {n z:Nat} (h:n+1+z+8<aP n):(n+1+z)%64≠56:=by grind [i7]
theorem Cy {n:Nat} {f:Nat→Int} (hf:cS f n) (i:Nat):0≤dZ n f i∧dZ n f i<256:=by
 unfold dZ
 by_cases h:i<aP n - 8
 ·rw [cD h]
  show 0≤iQ n f i∧iQ n f i<256
  unfold iQ
  by_cases h1:i<n
  ·rw [cD h1];exact hf i h1
  grind [dn,Nat.beq_refl,Int,mD]
 grind [dn,qS]
theorem Fi {n:Nat} {f:Nat→Int} {i:Nat} (h:i<n):iQ n f i=f i:=by grind [iQ,cD]
theorem Ft (n:Nat) (f:Nat→Int):iQ n f n=128:=by simp [iQ,dn,Nat.beq_refl]
theorem D3 {n:Nat} {f:Nat→Int} {i:Nat} (h:n<i):iQ n f i=0:=by grind [iQ,dn,mD]
theorem Dg {os:List (Option Ob)} {n:Nat} {f:Nat→Int}:aJ os ⟨1,n+1,true,.fn fun i j=>.int .u8 (bif Nat.blt i n then f i else aE (aQ [.int .u8 128] j))⟩ ⟨1,n+1+0,true,.fn fun i _=>.int .u8 (iQ n f i)⟩ :=
 ⟨rfl,rfl,rfl,fun i j hi hj=>ay.of_eq (by
  obtain rfl:j=0:=Nat.lt_one_iff.1 hj
  have hi:i<n+1:=hi
  show AV.int .u8 (bif Nat.blt i n then f i else 128)=.int .u8 (iQ n f i)
  by_cases e:i<n
  ·grind [cD,Fi]
  ·obtain rfl:i=n:=by omega
   simp [dn,Ft])⟩
theorem oH {n x:Nat} (hx:x≤aP n - n - 9) (g:Int.tmod ((n+1+x:Nat):Int) 64=56):n+1+x+8=aP n:=by grind [i7,aP,Bx,bY]
theorem tu {n x:Nat} (hx:x≤aP n - n - 9) (g:¬Int.tmod ((n+1+x:Nat):Int) 64=56):x+1≤aP n - n - 9:=by grind [i7,aP,Hf,bY]
theorem Fc {os:List (Option Ob)} {n x:Nat} {f:Nat→Int} (hn:n≤1099511627776) (h:n+1+x+8=aP n):aJ os ⟨1,n+1+x+8,true,.fn fun i _=>.int .u8 (bif Nat.blt i (n+1+x) then iQ n f i else qS (IntKind.wrap .u64 (8*IntKind.wrap .u64 (n:Int))) (i - (n+1+x)))⟩ ⟨1,aP n,true,.fn fun i _=>.int .u8 (dZ n f i)⟩ :=
 aJ.fnF h fun i _=>by grind [dy,Int,dZ]
theorem Mj {v:Nat→Int} {i k:Nat} (hk:k<4) (hi:i<8):IntKind.wrap .u8 (Int.fdiv (v i) (2^min (toNat (IntKind.wrap .i64 (24 - IntKind.wrap .i64 (8*(k:Int))))) 32))=bX v (4*i+k):=by grind [wI,Int,min,toNat,wD,du,bX]
theorem w4k {i k:Nat} (h:i<16) (hk:k≤4):IntKind.wrap .i64 (IntKind.wrap .i64 (4*(i:Int))+(k:Int))=4*i+k:=by grind [wI,Int]
theorem qY {os:List (Option Ob)} {G:Nat→Int} (h:∀ j,G j=0):aJ os ⟨32,1,true,.bc [(List.range 32).map fun _=>.int .u8 0]⟩ ⟨32,1,true,.fn fun _ j=>.int .u8 (G j)⟩:=aJ.Ab (by grind)
theorem F9 {x c:Int} (h0:0≤x) (h1:x<16777216) (h2:0≤c) (h3:c<256):IntKind.wrap .u32 (IntKind.wrap .u32 (x*256)+IntKind.wrap .u32 c)=x*256+c:=by grind [FW]
theorem NU {os:List (Option Ob)} {mu:Bool} {G:Nat→Int} (h:G=xH):aJ os ⟨1,8,mu,.bc (stL.map fun x=>[.int .u32 x])⟩ ⟨1,8,mu,.fn fun i _=>.int .u32 (G i)⟩:=by
 subst h
 refine pI fun i j hi hj=>?_
 obtain rfl:j=0:=Nat.lt_one_iff.1 hj
 exact rz (l:=stL) hi
theorem KF {n x:Nat} {f:Nat→Int} (h:n+1+x+8=aP n) (i:Nat):(bif Nat.blt (i+0) (n+1+x) then iQ n f (i+0) else qS (8*(n:Int)) (i+0 - (n+1+x)))=dZ n f i:=by grind [dZ]
theorem w64 {n k:Nat} (hn:n≤1099511627776) (h:k<aP n / 64):IntKind.wrap .i64 (((64*k:Nat):Int)+64)=((64*(k+1):Nat):Int):=by grind [i7,wI]
theorem qP {a b:Nat→Int} {i:Nat} (h:∀ k,k<4→a (4*i+k)=b (4*i+k)):∀ k,k≤4→preB a i k=preB b i k
 | 0,_=>rfl
 | k+1,hk=>by unfold preB;rw [qP h k (by omega),h k (by omega)]
theorem wY {a b:Nat→Int} (h:∀ i,i<64→a i=b i) (j:Nat):bg a j=bg b j:=by
 induction j using Nat.strongRecOn with
 | _ j ih =>
  by_cases hj:j<16
  ·rw [oA hj,oA hj]
   exact qP (fun k hk=>h _ (by omega)) 4 (Nat.le_refl _)
  grind [tJ]
theorem Kg {os:List (Option Ob)} {s w:Nat→Int} {R:Nat→Nat→Int} (h:Rnd s w R) {t:Nat} {a e:Int} (ha:a=R (t+1) 0) (he:e=R (t+1) 4) :
  aJ os ⟨1,8,true,.bc [[.int .u32 a],[.int .u32 (R t 0)],[.int .u32 (R t 1)],[.int .u32 (R t 2)],[.int .u32 e],[.int .u32 (R t 4)],[.int .u32 (R t 5)],[.int .u32 (R t 6)]]⟩ ⟨1,8,true,.fn fun i _=>.int .u32 (R (t+1) i)⟩ :=
 pI fun i j hi hj=>by
  obtain rfl:j=0:=Nat.lt_one_iff.1 hj
  match i,hi with
  | 0,_=>exact congrArg _ ha
  | 1,_=>exact congrArg _ (h.s1 t).symm
  | 2,_=>exact congrArg _ (h.s2 t).symm
  | 3,_=>exact congrArg _ (h.s3 t).symm
  | 4,_=>exact congrArg _ he
  | 5,_=>exact congrArg _ (h.s5 t).symm
  | 6,_=>exact congrArg _ (h.s6 t).symm
  | 7,_=>exact congrArg _ (h.s7 t).symm
theorem q4 {i:Nat} (h:i<32):IntKind.wrap .i64 (Int.tdiv (i:Int) 4)=((i / 4:Nat):Int)∧IntKind.wrap .i64 (24 - IntKind.wrap .i64 (8*Int.tmod (i:Int) 4))=((24 - 8*(i%4):Nat):Int):=by grind [mA,bY,wI,Int]
theorem NB {v:Nat→Int} {i:Nat} (h:i<32):IntKind.wrap .u8 (Int.fdiv (v (toNat (IntKind.wrap .i64 (Int.tdiv (i:Int) 4))+0)) (2^min (toNat (IntKind.wrap .i64 (24 - IntKind.wrap .i64 (8*Int.tmod (i:Int) 4)))) 32))=bX v i:=by
 rw [(q4 h).1,(q4 h).2,Int.toNat_natCast,Int.toNat_natCast,Nat.min_eq_left (by omega),wD,du]
 rfl
end Go.Sp

namespace Go.Proofs.YtpefjkpdniiaoaaGreatDoor
open Go.IntKind (wrap)
open Int (toNat)
open Go Go.Am Go.Sp
set_option maxRecDepth 100000
theorem Je (x:Int) (n:Nat) (h0:0<n) (h:n<32):Pure Tryz.prog aZ 302 [.int .u32 x,.int .i64 (IntKind.wrap .i64 (0 - (n:Int)))] (.int .u32 (cJ x n)):=by
 have e:=La h0 h
 refine ar (own:=bq) Tryz.func302 (by kernel_rfl) mixed (by kernel_rfl)
  (.bj ((0:Int)≤wrap .u64 (↑(BitVec.toNat (BitVec.ofInt 64 (wrap .u64 (wrap .i64 ((0:Int) - (n:Int)))) &&& BitVec.ofInt 64 (31:Int))):Int)) (.bj ((0:Int)≤wrap .u64 ((32:Int) - wrap .u64 (↑(BitVec.toNat (BitVec.ofInt 64 (wrap .u64 (wrap .i64 ((0:Int) - (n:Int)))) &&& BitVec.ofInt 64 (31:Int))):Int))) (.out (Zw (wrap .u32 (↑(BitVec.toNat (BitVec.ofInt 32 (wrap .u32 (x*2^min (toNat (wrap .u64 (↑(BitVec.toNat (BitVec.ofInt 64 (wrap .u64 (wrap .i64 ((0:Int) - (n:Int)))) &&& BitVec.ofInt 64 (31:Int))):Int))) 32)) ||| BitVec.ofInt 32 (Int.fdiv x ((2:Int)^min (toNat (wrap .u64 ((32:Int) - wrap .u64 (↑(BitVec.toNat (BitVec.ofInt 64 (wrap .u64 (wrap .i64 ((0:Int) - (n:Int)))) &&& BitVec.ofInt 64 (31:Int))):Int)))) 32)))):Int))) [] (Zw (cJ x n)) [])))
  (by kernel_rfl) ?_
 refine aD (by rw [e];omega) ?_
 refine aD (by rw [e,dy (by omega) (by omega)];omega) ?_
 exact aq (ay.of_eq (congrArg _ (by rw [e,dy (n:=32 - ((32 - n:Nat):Int)) (by omega) (by omega),zT,du];unfold cJ;rw [show min (toNat (32 - ((32 - n:Nat):Int))) 32=n by omega,show min (toNat ((32 - n:Nat):Int)) 32=32 - n by omega])))
theorem gP (x:Int) (n:Nat) (h0:0<n) (h:n<32):Pure Tryz.prog aZ 267 [.int .u32 x,.int .i64 n] (.int .u32 (cJ x n)):=by
 refine ar (own:=bq) Tryz.func267 (by kernel_rfl) mixed (by kernel_rfl)
  (.sc true 302 [Zw x,Zi (wrap .i64 ((0:Int) - (n:Int)))] (Zw (cJ x n)) (.out (Zw (cJ x n)) [] (Zw (cJ x n)) []))
  (by kernel_rfl) ?_
 refine aM (Je (x) (n) (by assumption) (by assumption)) ?_
 exact aq (ay.of_eq (by rfl))
theorem fI (x:Int) (n:Nat) (h0:0<n) (h:n<32):Pure Tryz.prog aZ 300 [.int .u32 x,.int .i64 n] (.int .u32 (cJ x n)):=by
 have e:IntKind.wrap .i64 (32 - (n:Int))=((32 - n:Nat):Int):=by rw [wI (by omega) (by omega)];omega
 refine ar (own:=bq) Tryz.func300 (by kernel_rfl) mixed (by kernel_rfl)
  (.bj (0≤(n:Int)) (.bj ((0:Int)≤wrap .i64 ((32:Int) - (n:Int))) (.out (Zw (wrap .u32 (↑(BitVec.toNat (BitVec.ofInt 32 (Int.fdiv x ((2:Int)^min (toNat (n:Int)) 32)) ||| BitVec.ofInt 32 (wrap .u32 (x*2^min (toNat (wrap .i64 ((32:Int) - (n:Int)))) 32)))):Int))) [] (Zw (cJ x n)) [])))
  (by kernel_rfl) ?_
 refine aD (by omega) ?_
 refine aD (by rw [e];omega) ?_
 exact aq (ay.of_eq (congrArg _ (by rw [e,du];unfold cJ;rw [show min (toNat ((32 - n:Nat):Int)) 32=32 - n by omega,show min (toNat (n:Int)) 32=n by omega])))
theorem Fw (n:Int) (h:0≤n) (h':n<18446744073709551616):Pure Tryz.prog aZ 221 [.int .u64 n] (dC 8 (qS n)):=by
 refine ar (own:=bq) Tryz.func221 (by kernel_rfl) mixed (by kernel_rfl)
  (let y0:=(fun (x:{ x:Nat // x≤8 })=>aY [0,3,7,8] [Zu n,AV.ba 0 1 0 8,Zi (↑(8):Int),Zi (↑(x.1):Int)] [some ⟨1,8,true,bA.fn fun (q x_1:Nat)=>Zb (bif Nat.blt q (x.1) then qS n q else (0:Int))⟩]);let y1:=(fun (x:{ x:Nat // x≤8 })=>8 - x.1);(.bj ((0:Int)≤8∧(8:Int)=(8:Int)∧(↑(1):Int)*8≤140737488355328∧(8:Int)≤9223372036854775807) (.loop ({ x:Nat // x≤8 }) y0 y1 (⟨0,Nat.zero_le 8⟩) ([0,3,7,8]) ([8]) ([Zu n,AV.ba 0 1 0 8,Zi (↑(8):Int),Zi 0]) ([some ⟨1,8,true,bA.fn fun (i j:Nat)=>Zb (aE (aQ (cq (Value.int IntKind.u8 (0:Int))) j))⟩]) (fun x1=>(.br (decide ((↑x1.1:Int)<(↑(8):Int))) (.bj ((0:Int)≤wrap .i64 ((56:Int) - wrap .i64 ((8:Int)*(↑x1.1:Int)))) (.bj ((0:Int)≤(↑x1.1:Int)∧(↑x1.1:Int)<(↑(8):Int)) (.again (bh 0 y0 y1 x1) ([0,3,7,8]) ([0]) ([Zu n,AV.ba 0 1 0 8,Zi (↑(8):Int),Zi (wrap .i64 ((↑x1.1:Int)+1))]) ([some ⟨1,8,true,bA.fn fun (i j:Nat)=>Zb (bif Nat.beq i (toNat (↑x1.1:Int)+0)&&(Nat.ble 0 j&&Nat.blt j 1) then wrap .u8 (Int.fdiv n ((2:Int)^min (toNat (wrap .i64 ((56:Int) - wrap .i64 ((8:Int)*(↑x1.1:Int))))) 64)) else bif Nat.blt i x1.1 then qS n i else (0:Int))⟩])))) (.out (AV.aH 1 8 fun (r k:Nat)=>Zb (bif Nat.blt (r+0) x1.1 then qS n (r+0) else (0:Int))) [] (dC 8 (qS n)) []))))))
  (by kernel_rfl) ?_
 refine aD (by omega) ?_
 refine aV (fun _ hs=>hs.le (by repeat' (first|exact trivial|(first|exact ay.refl _|exact aK (by omega)|exact ay.nil rfl|exact ay.of_eq (congrArg (AV.ba _ _ _) (by first|omega|(dsimp only;omega)))|exact ay.of_eq (congrArg (AV.int _) (by first|omega|(dsimp only;omega))))|refine And.intro ?_ ?_)) (⟨⟨rfl,rfl,rfl,fun i j hi hj=>ay.of_eq (by obtain rfl:j=0:=Nat.lt_one_iff.1 hj;rfl)⟩,trivial⟩)) (fun x1=>?_)
 try (have q1:=x1.2;dsimp only at q1)
 refine aL (fun h2=>?_) (fun h2=>?_)
 ·have g2:=af h2
  refine aD (by rw [wI (n:=8*(x1.1:Int)) (by omega) (by omega),wI (by omega) (by omega)];omega) ?_
  refine aD (by omega) ?_
  exact aN (⟨x1.1+1,by omega⟩) (fun _ hs=>hs.le (by repeat' (first|exact trivial|(first|exact ay.refl _|exact aK (by omega)|exact ay.nil rfl|exact ay.of_eq (congrArg (AV.ba _ _ _) (by first|omega|(dsimp only;omega)))|exact ay.of_eq (congrArg (AV.int _) (by first|omega|(dsimp only;omega))))|refine And.intro ?_ ?_)) (⟨aJ.ML (ME (by omega)),trivial⟩)) (by (dsimp only;omega))
 ·have g2:=aa h2
  exact aq (ji rfl (fun i hi=>by rw [cD (by omega)];rfl))
theorem Bs (n:Int) (h:0≤n) (h':n<9223372036854775808):Pure Tryz.prog aZ 332 [.int .i64 n] (dC 8 (qS n)):=by
 refine ar (own:=bq) Tryz.func332 (by kernel_rfl) mixed (by kernel_rfl)
  (let y0:=(fun (x:{ x:Nat // x≤8 })=>aY [0,3,4] [Zi n,.ba 0 1 0 (x.1),Zi ((7:Int) - (↑(x.1):Int))] [some ⟨1,x.1,true,.fn fun q x=>Zb (qS n q)⟩]);let y1:=(fun (x:{ x:Nat // x≤8 })=>8 - x.1);(.loop ({ x:Nat // x≤8 }) y0 y1 (⟨0,Nat.zero_le 8⟩) [0,3,4] [280] [Zi n,.bn,Zi 7] [some ⟨1,0,true,.ty (999999999:TypeId) (.bc [])⟩] (fun x0=>(.br (decide ((7:Int) - (x0.1:Int)≥0)) (.bj ((0:Int)≤wrap .i64 ((8:Int)*((7:Int) - (x0.1:Int)))) (.bj ((x0.1+1)*1≤140737488355328) (.again (bh 0 y0 y1 x0) [0,3,4] [73] [Zi n,.ba 0 1 0 (x0.1+1),Zi (wrap .i64 ((7:Int) - (x0.1:Int) - 1))] [some ⟨1,x0.1+1,true,.fn fun i j=>Zb (bif Nat.blt i x0.1 then qS n i else aE (aQ [Zb (wrap .u8 (Int.fdiv n ((2:Int)^min (toNat (wrap .i64 ((8:Int)*((7:Int) - (x0.1:Int))))) 64)))] j))⟩]))) (.out (.aH 1 x0.1 fun r k=>Zb (qS n (r+0))) [] (dC 8 (qS n)) [])))))
  (by kernel_rfl) ?_
 refine aV (fun _ hs=>hs.le (by repeat' (first|exact trivial|(first|exact ay.refl _|exact aK (by omega)|exact ay.nil rfl|exact ay.of_eq (congrArg (AV.ba _ _ _) (by first|omega|(dsimp only;omega)))|exact ay.of_eq (congrArg (AV.int _) (by first|omega|(dsimp only;omega))))|refine And.intro ?_ ?_)) (by repeat' (first|exact trivial|(first|exact aJ.refl _|exact aJ.bx|exact aJ.zero|exact aJ.push rfl rfl|exact aJ.ct rfl|exact aJ.len (by omega)|exact aJ.row (by repeat' (first|exact trivial|(first|exact ay.refl _|exact aK (by omega)|exact ay.nil rfl|exact ay.of_eq (congrArg (AV.ba _ _ _) (by first|omega|(dsimp only;omega)))|exact ay.of_eq (congrArg (AV.int _) (by first|omega|(dsimp only;omega))))|refine And.intro ?_ ?_)))|refine And.intro ?_ ?_))) (fun x0=>?_)
 try (have q0:=x0.2;dsimp only at q0)
 refine aL (fun h1=>?_) (fun h1=>?_)
 ·have g1:=af h1
  refine aD (by rw [wI (by omega) (by omega)];omega) ?_
  refine aD (by omega) ?_
  exact aN (⟨x0.1+1,by omega⟩) (fun _ hs=>hs.le (⟨by exact ay.refl _,by exact ay.refl _,ay.of_eq (congrArg _ (by rw [wI (by omega) (by omega)];dsimp only;omega)),trivial⟩) (⟨aJ.mM rfl (NP (by omega)),trivial⟩)) (by (dsimp only;omega))
 ·have g1:=aa h1
  exact aq (ji (by omega) (fun i hi=>rfl))
theorem w8 (b:Nat→Int) (hb:cS b 64):Pure Tryz.prog aZ 266 [dC 64 b] (.agg ((List.range 64).map fun j=>.int .u32 (bg b j))):=by
 refine ar (own:=bq) Tryz.func266 (by kernel_rfl) mixed (by kernel_rfl)
  (let y0:List AV:=[Zw 0,Zw 0,Zw 0,Zw 0,Zw 0,Zw 0,Zw 0,Zw 0,Zw 0,Zw 0,Zw 0,Zw 0,Zw 0,Zw 0,Zw 0,Zw 0,Zw 0,Zw 0,Zw 0,Zw 0,Zw 0,Zw 0,Zw 0,Zw 0,Zw 0,Zw 0,Zw 0,Zw 0,Zw 0,Zw 0,Zw 0,Zw 0,Zw 0,Zw 0,Zw 0,Zw 0,Zw 0,Zw 0,Zw 0,Zw 0,Zw 0,Zw 0,Zw 0,Zw 0,Zw 0,Zw 0,Zw 0,Zw 0,Zw 0,Zw 0,Zw 0,Zw 0,Zw 0,Zw 0,Zw 0,Zw 0,Zw 0,Zw 0,Zw 0,Zw 0,Zw 0,Zw 0,Zw 0,Zw 0];let y1:=(fun (x:{ x:Nat // x≤16 })=>aY [0,2,3,12] [.aH 1 64 fun i x=>Zb (b i),.own 0 64 0 0 64,.own 1 64 0 0 64,Zi x.1] [some ⟨64,1,true,.bc [y0]⟩,some ⟨64,1,true,.fn fun x_1 j=>Zw (bif Nat.blt j (x.1) then qn b j else (0:Int))⟩]);let y2:=(fun (x:{ x:Nat // x≤48 })=>aY [2,3,7] [.own 0 64 0 0 64,.own 1 64 0 0 64,Zi (↑(16+x.1):Int)] [some ⟨64,1,true,.bc [y0]⟩,some ⟨64,1,true,.fn fun x_1 j=>Zw (bif Nat.blt j (16+x.1) then bg b j else (0:Int))⟩]);let y3:=(fun (x:{ x:Nat // x≤16 })=>16 - x.1);let y4:=(fun (x:{ x:Nat // x≤48 })=>48 - x.1);let y5:=(fun (x:{ x:Nat // x≤4 })=>4 - x.1);(.loop ({ x:Nat // x≤16 }) y1 y3 (⟨0,Nat.zero_le 16⟩) [0,2,3,12] [0,8] [.aH 1 64 fun i x=>Zb (b i),.own 0 64 0 0 64,.own 1 64 0 0 64,Zi 0] [some ⟨64,1,true,.bc [y0]⟩,some ⟨64,1,true,.bc [y0]⟩] (fun x0=>(.br (decide ((x0.1:Int)<16)) (.bj ((0:Int)≤wrap .i64 ((4:Int)*(x0.1:Int))∧wrap .i64 ((4:Int)*(x0.1:Int))≤wrap .i64 (wrap .i64 ((4:Int)*(x0.1:Int))+4)∧wrap .i64 (wrap .i64 ((4:Int)*(x0.1:Int))+4)≤64) (.loop ({ x:Nat // x≤4 }) (fun x=>aY [0,2,3,4,12,21,22,23] [.aH 1 64 fun i x=>Zb (b i),.own 0 64 0 0 64,.own 1 64 0 0 64,Zi x0.1,Zi x0.1,dC 4 fun q=>b (4*x0.1+q),Zi (↑(4:Nat):Int),Zi x.1] [some ⟨64,1,true,.bc [y0]⟩,some ⟨64,1,true,.fn fun x_1 j=>Zw (bif Nat.beq j (x0.1) then preB b (x0.1) (x.1) else bif Nat.blt j (x0.1) then qn b j else (0:Int))⟩]) y5 (⟨0,Nat.zero_le 4⟩) [0,2,3,4,12,21,22,23] [0,1] [.aH 1 64 fun i x=>Zb (b i),.own 0 64 0 0 64,.own 1 64 0 0 64,Zi x0.1,Zi x0.1,.aH 1 (toNat (wrap .i64 (wrap .i64 ((4:Int)*(x0.1:Int))+4)) - toNat (wrap .i64 ((4:Int)*(x0.1:Int)))) fun i j=>Zb (b (i+toNat (wrap .i64 ((4:Int)*(x0.1:Int))))),Zi (↑(toNat (wrap .i64 (wrap .i64 ((4:Int)*(x0.1:Int))+4)) - toNat (wrap .i64 ((4:Int)*(x0.1:Int)))):Int),Zi 0] [some ⟨64,1,true,.bc [y0]⟩,some ⟨64,1,true,.fn fun i j=>Zw (bif Nat.blt j (x0.1) then qn b j else (0:Int))⟩] (fun x3=>(.br (decide ((x3.1:Int)<4)) (.bj (0≤(x3.1:Int)∧(x3.1:Int)<4) (.bj (0≤(x0.1:Int)∧(x0.1:Int)<64) (.bj (0≤(x0.1:Int)∧(x0.1:Int)<64) (.again (bh 0 (fun x=>aY [0,2,3,4,12,21,22,23] [.aH 1 64 fun i x=>Zb (b i),.own 0 64 0 0 64,.own 1 64 0 0 64,Zi x0.1,Zi x0.1,dC 4 fun q=>b (4*x0.1+q),Zi (↑(4:Nat):Int),Zi x.1] [some ⟨64,1,true,.bc [y0]⟩,some ⟨64,1,true,.fn fun x_1 j=>Zw (bif Nat.beq j (x0.1) then preB b (x0.1) (x.1) else bif Nat.blt j (x0.1) then qn b j else (0:Int))⟩]) y5 x3) [0,2,3,4,12,21,22,23] [0,1] [.aH 1 64 fun i x=>Zb (b i),.own 0 64 0 0 64,.own 1 64 0 0 64,Zi x0.1,Zi x0.1,.aH 1 4 fun i x=>Zb (b (4*x0.1+i)),Zi 4,Zi (wrap .i64 ((x3.1:Int)+1))] [some ⟨64,1,true,.bc [y0]⟩,some ⟨64,1,true,.fn fun i j=>Zw (bif Nat.beq i 0&&Nat.beq j (0+toNat (x0.1:Int)) then wrap .u32 (↑(BitVec.toNat (BitVec.ofInt 32 (wrap .u32 ((bif Nat.beq (0+toNat (x0.1:Int)) x0.1 then preB b x0.1 x3.1 else bif Nat.blt (0+toNat (x0.1:Int)) x0.1 then qn b (0+toNat (x0.1:Int)) else (0:Int))*2^8)) ||| BitVec.ofInt 32 (wrap .u32 (b (4*x0.1+toNat (x3.1:Int)))))):Int) else bif Nat.beq j x0.1 then preB b x0.1 x3.1 else bif Nat.blt j x0.1 then qn b j else (0:Int))⟩])))) (.again (bh 0 y1 y3 x0) [0,2,3,12] [0,1] [.aH 1 64 fun i x=>Zb (b i),.own 0 64 0 0 64,.own 1 64 0 0 64,Zi (wrap .i64 ((x0.1:Int)+1))] [some ⟨64,1,true,.bc [y0]⟩,some ⟨64,1,true,.fn fun i j=>Zw (bif Nat.beq j x0.1 then preB b x0.1 x3.1 else bif Nat.blt j x0.1 then qn b j else (0:Int))⟩]))))) (.loop ({ x:Nat // x≤48 }) y2 y4 (⟨0,Nat.zero_le 48⟩) [2,3,7] [0,1] [.own 0 64 0 0 64,.own 1 64 0 0 64,Zi 16] [some ⟨64,1,true,.bc [y0]⟩,some ⟨64,1,true,.fn fun i j=>Zw (bif Nat.blt j (x0.1) then qn b j else (0:Int))⟩] (fun x10=>(.br (decide ((↑(16+x10.1):Int)<64)) (.bj ((0:Int)≤wrap .i64 ((↑(16+x10.1):Int) - 15)∧wrap .i64 ((↑(16+x10.1):Int) - 15)<64) (.bj ((0:Int)≤wrap .i64 ((↑(16+x10.1):Int) - 2)∧wrap .i64 ((↑(16+x10.1):Int) - 2)<64) (.sc true 267 [Zw (bif Nat.blt (0+toNat (wrap .i64 ((↑(16+x10.1):Int) - 15))) (16+x10.1) then bg b (0+toNat (wrap .i64 ((↑(16+x10.1):Int) - 15))) else (0:Int)),Zi 7] (Zw (cJ (bif Nat.blt (0+toNat (wrap .i64 ((↑(16+x10.1):Int) - 15))) (16+x10.1) then bg b (0+toNat (wrap .i64 ((↑(16+x10.1):Int) - 15))) else (0:Int)) 7)) (.sc true 267 [Zw (bif Nat.blt (0+toNat (wrap .i64 ((↑(16+x10.1):Int) - 15))) (16+x10.1) then bg b (0+toNat (wrap .i64 ((↑(16+x10.1):Int) - 15))) else (0:Int)),Zi 18] (Zw (cJ (bif Nat.blt (0+toNat (wrap .i64 ((↑(16+x10.1):Int) - 15))) (16+x10.1) then bg b (0+toNat (wrap .i64 ((↑(16+x10.1):Int) - 15))) else (0:Int)) 18)) (.sc true 267 [Zw (bif Nat.blt (0+toNat (wrap .i64 ((↑(16+x10.1):Int) - 2))) (16+x10.1) then bg b (0+toNat (wrap .i64 ((↑(16+x10.1):Int) - 2))) else (0:Int)),Zi 17] (Zw (cJ (bif Nat.blt (0+toNat (wrap .i64 ((↑(16+x10.1):Int) - 2))) (16+x10.1) then bg b (0+toNat (wrap .i64 ((↑(16+x10.1):Int) - 2))) else (0:Int)) 17)) (.sc true 267 [Zw (bif Nat.blt (0+toNat (wrap .i64 ((↑(16+x10.1):Int) - 2))) (16+x10.1) then bg b (0+toNat (wrap .i64 ((↑(16+x10.1):Int) - 2))) else (0:Int)),Zi 19] (Zw (cJ (bif Nat.blt (0+toNat (wrap .i64 ((↑(16+x10.1):Int) - 2))) (16+x10.1) then bg b (0+toNat (wrap .i64 ((↑(16+x10.1):Int) - 2))) else (0:Int)) 19)) (.bj ((0:Int)≤wrap .i64 ((↑(16+x10.1):Int) - 16)∧wrap .i64 ((↑(16+x10.1):Int) - 16)<64) (.bj ((0:Int)≤wrap .i64 ((↑(16+x10.1):Int) - 7)∧wrap .i64 ((↑(16+x10.1):Int) - 7)<64) (.bj (0≤(↑(16+x10.1):Int)∧(↑(16+x10.1):Int)<64) (.again (bh 0 y2 y4 x10) [2,3,7] [0,1] [.own 0 64 0 0 64,.own 1 64 0 0 64,Zi (wrap .i64 ((↑(16+x10.1):Int)+1))] [some ⟨64,1,true,.bc [y0]⟩,some ⟨64,1,true,.fn fun i j=>Zw (bif Nat.beq i 0&&Nat.beq j (0+toNat (↑(16+x10.1):Int)) then wrap .u32 (wrap .u32 (wrap .u32 ((bif Nat.blt (0+toNat (wrap .i64 ((↑(16+x10.1):Int) - 16))) (16+x10.1) then bg b (0+toNat (wrap .i64 ((↑(16+x10.1):Int) - 16))) else (0:Int))+wrap .u32 (↑(BitVec.toNat (BitVec.ofInt 32 (wrap .u32 (↑(BitVec.toNat (BitVec.ofInt 32 (cJ (bif Nat.blt (0+toNat (wrap .i64 ((↑(16+x10.1):Int) - 15))) (16+x10.1) then bg b (0+toNat (wrap .i64 ((↑(16+x10.1):Int) - 15))) else (0:Int)) 7) ^^^ BitVec.ofInt 32 (cJ (bif Nat.blt (0+toNat (wrap .i64 ((↑(16+x10.1):Int) - 15))) (16+x10.1) then bg b (0+toNat (wrap .i64 ((↑(16+x10.1):Int) - 15))) else (0:Int)) 18))):Int)) ^^^ BitVec.ofInt 32 (Int.fdiv (bif Nat.blt (0+toNat (wrap .i64 ((↑(16+x10.1):Int) - 15))) (16+x10.1) then bg b (0+toNat (wrap .i64 ((↑(16+x10.1):Int) - 15))) else (0:Int)) ((2:Int)^3)))):Int))+bif Nat.blt (0+toNat (wrap .i64 ((↑(16+x10.1):Int) - 7))) (16+x10.1) then bg b (0+toNat (wrap .i64 ((↑(16+x10.1):Int) - 7))) else (0:Int))+wrap .u32 (↑(BitVec.toNat (BitVec.ofInt 32 (wrap .u32 (↑(BitVec.toNat (BitVec.ofInt 32 (cJ (bif Nat.blt (0+toNat (wrap .i64 ((↑(16+x10.1):Int) - 2))) (16+x10.1) then bg b (0+toNat (wrap .i64 ((↑(16+x10.1):Int) - 2))) else (0:Int)) 17) ^^^ BitVec.ofInt 32 (cJ (bif Nat.blt (0+toNat (wrap .i64 ((↑(16+x10.1):Int) - 2))) (16+x10.1) then bg b (0+toNat (wrap .i64 ((↑(16+x10.1):Int) - 2))) else (0:Int)) 19))):Int)) ^^^ BitVec.ofInt 32 (Int.fdiv (bif Nat.blt (0+toNat (wrap .i64 ((↑(16+x10.1):Int) - 2))) (16+x10.1) then bg b (0+toNat (wrap .i64 ((↑(16+x10.1):Int) - 2))) else (0:Int)) ((2:Int)^10)))):Int)) else bif Nat.blt j (16+x10.1) then bg b j else (0:Int))⟩])))))))))) (.out (.agg [Zw (bif Nat.blt 0 (16+x10.1) then bg b 0 else (0:Int)),Zw (bif Nat.blt 1 (16+x10.1) then bg b 1 else (0:Int)),Zw (bif Nat.blt 2 (16+x10.1) then bg b 2 else (0:Int)),Zw (bif Nat.blt 3 (16+x10.1) then bg b 3 else (0:Int)),Zw (bif Nat.blt 4 (16+x10.1) then bg b 4 else (0:Int)),Zw (bif Nat.blt 5 (16+x10.1) then bg b 5 else (0:Int)),Zw (bif Nat.blt 6 (16+x10.1) then bg b 6 else (0:Int)),Zw (bif Nat.blt 7 (16+x10.1) then bg b 7 else (0:Int)),Zw (bif Nat.blt 8 (16+x10.1) then bg b 8 else (0:Int)),Zw (bif Nat.blt 9 (16+x10.1) then bg b 9 else (0:Int)),Zw (bif Nat.blt 10 (16+x10.1) then bg b 10 else (0:Int)),Zw (bif Nat.blt 11 (16+x10.1) then bg b 11 else (0:Int)),Zw (bif Nat.blt 12 (16+x10.1) then bg b 12 else (0:Int)),Zw (bif Nat.blt 13 (16+x10.1) then bg b 13 else (0:Int)),Zw (bif Nat.blt 14 (16+x10.1) then bg b 14 else (0:Int)),Zw (bif Nat.blt 15 (16+x10.1) then bg b 15 else (0:Int)),Zw (bif Nat.blt 16 (16+x10.1) then bg b 16 else (0:Int)),Zw (bif Nat.blt 17 (16+x10.1) then bg b 17 else (0:Int)),Zw (bif Nat.blt 18 (16+x10.1) then bg b 18 else (0:Int)),Zw (bif Nat.blt 19 (16+x10.1) then bg b 19 else (0:Int)),Zw (bif Nat.blt 20 (16+x10.1) then bg b 20 else (0:Int)),Zw (bif Nat.blt 21 (16+x10.1) then bg b 21 else (0:Int)),Zw (bif Nat.blt 22 (16+x10.1) then bg b 22 else (0:Int)),Zw (bif Nat.blt 23 (16+x10.1) then bg b 23 else (0:Int)),Zw (bif Nat.blt 24 (16+x10.1) then bg b 24 else (0:Int)),Zw (bif Nat.blt 25 (16+x10.1) then bg b 25 else (0:Int)),Zw (bif Nat.blt 26 (16+x10.1) then bg b 26 else (0:Int)),Zw (bif Nat.blt 27 (16+x10.1) then bg b 27 else (0:Int)),Zw (bif Nat.blt 28 (16+x10.1) then bg b 28 else (0:Int)),Zw (bif Nat.blt 29 (16+x10.1) then bg b 29 else (0:Int)),Zw (bif Nat.blt 30 (16+x10.1) then bg b 30 else (0:Int)),Zw (bif Nat.blt 31 (16+x10.1) then bg b 31 else (0:Int)),Zw (bif Nat.blt 32 (16+x10.1) then bg b 32 else (0:Int)),Zw (bif Nat.blt 33 (16+x10.1) then bg b 33 else (0:Int)),Zw (bif Nat.blt 34 (16+x10.1) then bg b 34 else (0:Int)),Zw (bif Nat.blt 35 (16+x10.1) then bg b 35 else (0:Int)),Zw (bif Nat.blt 36 (16+x10.1) then bg b 36 else (0:Int)),Zw (bif Nat.blt 37 (16+x10.1) then bg b 37 else (0:Int)),Zw (bif Nat.blt 38 (16+x10.1) then bg b 38 else (0:Int)),Zw (bif Nat.blt 39 (16+x10.1) then bg b 39 else (0:Int)),Zw (bif Nat.blt 40 (16+x10.1) then bg b 40 else (0:Int)),Zw (bif Nat.blt 41 (16+x10.1) then bg b 41 else (0:Int)),Zw (bif Nat.blt 42 (16+x10.1) then bg b 42 else (0:Int)),Zw (bif Nat.blt 43 (16+x10.1) then bg b 43 else (0:Int)),Zw (bif Nat.blt 44 (16+x10.1) then bg b 44 else (0:Int)),Zw (bif Nat.blt 45 (16+x10.1) then bg b 45 else (0:Int)),Zw (bif Nat.blt 46 (16+x10.1) then bg b 46 else (0:Int)),Zw (bif Nat.blt 47 (16+x10.1) then bg b 47 else (0:Int)),Zw (bif Nat.blt 48 (16+x10.1) then bg b 48 else (0:Int)),Zw (bif Nat.blt 49 (16+x10.1) then bg b 49 else (0:Int)),Zw (bif Nat.blt 50 (16+x10.1) then bg b 50 else (0:Int)),Zw (bif Nat.blt 51 (16+x10.1) then bg b 51 else (0:Int)),Zw (bif Nat.blt 52 (16+x10.1) then bg b 52 else (0:Int)),Zw (bif Nat.blt 53 (16+x10.1) then bg b 53 else (0:Int)),Zw (bif Nat.blt 54 (16+x10.1) then bg b 54 else (0:Int)),Zw (bif Nat.blt 55 (16+x10.1) then bg b 55 else (0:Int)),Zw (bif Nat.blt 56 (16+x10.1) then bg b 56 else (0:Int)),Zw (bif Nat.blt 57 (16+x10.1) then bg b 57 else (0:Int)),Zw (bif Nat.blt 58 (16+x10.1) then bg b 58 else (0:Int)),Zw (bif Nat.blt 59 (16+x10.1) then bg b 59 else (0:Int)),Zw (bif Nat.blt 60 (16+x10.1) then bg b 60 else (0:Int)),Zw (bif Nat.blt 61 (16+x10.1) then bg b 61 else (0:Int)),Zw (bif Nat.blt 62 (16+x10.1) then bg b 62 else (0:Int)),Zw (bif Nat.blt 63 (16+x10.1) then bg b 63 else (0:Int))]) [] (.agg (List.map (fun j=>Zw (bg b j)) (List.range 64))) []))))))))
  (by kernel_rfl) ?_
 refine aV (fun _ hs=>hs.le (⟨.refl _,.refl _,.refl _,.refl _,trivial⟩) (⟨.refl _,Fl (fun j=>rfl),trivial⟩)) (fun x0=>?_)
 try (have q0:=x0.2;dsimp only at q0)
 refine aL (fun h1=>?_) (fun h1=>?_)
 ·have g1:=af h1
  refine aD (by rw [(w4 (by omega)).1,(w4 (by omega)).2];omega) ?_
  refine aV (fun _ hs=>hs.le (⟨.refl _,.refl _,.refl _,.refl _,.refl _,ji (by rw [(w4 (by omega)).1,(w4 (by omega)).2];omega) (fun i hi=>congrArg b (by rw [(w4 (by omega)).1];omega)),ay.of_eq (congrArg _ (by rw [(w4 (by omega)).1,(w4 (by omega)).2];omega)),.refl _,trivial⟩) (⟨.refl _,aJ.fnR (fun j hj=>by (by_cases e:j=x0.1;(subst e;rw [Nat.beq_refl,dn (Nat.le_refl _)];rfl);(rw [mD e];rfl))),trivial⟩)) (fun x3=>?_)
  try (have q3:=x3.2;dsimp only at q3)
  refine aL (fun h4=>?_) (fun h4=>?_)
  ·have g4:=af h4
   refine aD (by omega) ?_
   refine aD (by omega) ?_
   refine aD (by omega) ?_
   exact aN (⟨x3.1+1,by omega⟩) (fun _ hs=>hs.le (⟨.refl _,.refl _,.refl _,.refl _,.refl _,.refl _,.refl _,aK (by omega),trivial⟩) (⟨.refl _,aJ.Bw (P:=fun i j=>Nat.beq i 0&&Nat.beq j (0+toNat ((x0.1:Nat):Int))) (c0:=x0.1) (G:=fun j=>bif Nat.beq j x0.1 then preB b x0.1 (x3.1+1) else bif Nat.blt j x0.1 then qn b j else 0) (fun j _=>by show (true&&Nat.beq j (0+x0.1))=_;rw [Nat.zero_add];rfl) (by simp only [Nat.zero_add,Int.toNat_natCast,Nat.beq_refl,cond_true];have p:=yC (k:=x3.1) hb (show x0.1<16 by omega) (by omega);have q:=hb (4*x0.1+x3.1) (by omega);exact D4 p.1 p.2 q.1 q.2) (fun j _ he=>by simp only [mD he];rfl),trivial⟩)) (by dsimp only;omega)
  ·have g4:=aa h4
   exact aN (⟨x0.1+1,by omega⟩) (fun _ hs=>hs.le (⟨.refl _,.refl _,.refl _,aK (by omega),trivial⟩) (⟨.refl _,aJ.fnR (fun j hj=>by
                                                                                                     have e4:x3.1=4:=by omega
                                                                                                     rw [e4]
                                                                                                     show (bif Nat.beq j x0.1 then preB b x0.1 4 else bif Nat.blt j x0.1 then qn b j else 0)=bif Nat.blt j (x0.1+1) then qn b j else 0
                                                                                                     by_cases e:j=x0.1
                                                                                                     · subst e;rw [Nat.beq_refl,cD (Nat.lt_succ_self _)];rfl
                                                                                                     · rw [mD e];exact jD e),trivial⟩)) (by dsimp only;omega)
 ·have g1:=aa h1
  refine aV (fun _ hs=>hs.le (⟨.refl _,.refl _,.refl _,trivial⟩) (⟨.refl _,aJ.fnR (fun j hj=>by
                                                                                                     have e:x0.1=16:=by omega
                                                                                                     rw [e]
                                                                                                     show (bif Nat.blt j 16 then qn b j else 0)=bif Nat.blt j 16 then bg b j else 0
                                                                                                     by_cases h:j<16
                                                                                                     · rw [oA h]
                                                                                                     · rw [dn (by omega)];rfl),trivial⟩)) (fun x10=>?_)
  refine aL (fun h11=>?_) (fun h11=>?_)
  ·have g11:=af h11
   refine aD (by rw [wI (by omega) (by omega)];omega) ?_
   refine aD (by rw [wI (by omega) (by omega)];omega) ?_
   refine aM ((fun (x:Int)=>gP x (7:Nat)) (bif Nat.blt (0+toNat (wrap .i64 ((↑(16+x10.1):Int) - (15:Int)))) (16+x10.1) then bg b (0+toNat (wrap .i64 ((↑(16+x10.1):Int) - (15:Int)))) else (0:Int)) (by omega) (by omega)) ?_
   refine aM ((fun (x:Int)=>gP x (18:Nat)) (bif Nat.blt (0+toNat (wrap .i64 ((↑(16+x10.1):Int) - (15:Int)))) (16+x10.1) then bg b (0+toNat (wrap .i64 ((↑(16+x10.1):Int) - (15:Int)))) else (0:Int)) (by omega) (by omega)) ?_
   refine aM ((fun (x:Int)=>gP x (17:Nat)) (bif Nat.blt (0+toNat (wrap .i64 ((↑(16+x10.1):Int) - (2:Int)))) (16+x10.1) then bg b (0+toNat (wrap .i64 ((↑(16+x10.1):Int) - (2:Int)))) else (0:Int)) (by omega) (by omega)) ?_
   refine aM ((fun (x:Int)=>gP x (19:Nat)) (bif Nat.blt (0+toNat (wrap .i64 ((↑(16+x10.1):Int) - (2:Int)))) (16+x10.1) then bg b (0+toNat (wrap .i64 ((↑(16+x10.1):Int) - (2:Int)))) else (0:Int)) (by omega) (by omega)) ?_
   refine aD (by rw [wI (by omega) (by omega)];omega) ?_
   refine aD (by rw [wI (by omega) (by omega)];omega) ?_
   refine aD (by omega) ?_
   exact aN (⟨x10.1+1,by omega⟩) (fun _ hs=>hs.le (⟨.refl _,.refl _,aK (i:=16+x10.1) (by omega),trivial⟩) (⟨.refl _,aJ.Bw (P:=fun i j=>Nat.beq i 0&&Nat.beq j (0+toNat ((16+x10.1:Nat):Int))) (c0:=16+x10.1) (G:=fun j=>bif Nat.blt j (16+x10.1+1) then bg b j else 0) (fun j _=>by show (true&&Nat.beq j (0+(16+x10.1)))=_;rw [Nat.zero_add];rfl) (by
                                                                                                     simp only [kJ (t:=x10.1) (d:=15) (k:=15) rfl (by omega) (by omega),kJ (t:=x10.1) (d:=2) (k:=2) rfl (by omega) (by omega),kJ (t:=x10.1) (d:=7) (k:=7) rfl (by omega) (by omega),kJ (t:=x10.1) (d:=16) (k:=16) rfl (by omega) (by omega),Nat.zero_add,du]
                                                                                                     simp only [cD (show 16+x10.1 - 15<16+x10.1 by omega),cD (show 16+x10.1 - 2<16+x10.1 by omega),cD (show 16+x10.1 - 7<16+x10.1 by omega),cD (show 16+x10.1 - 16<16+x10.1 by omega),cD (show 16+x10.1<16+x10.1+1 by omega),cond_true]
                                                                                                     exact (tJ (j:=16+x10.1) (by omega)).symm) (fun j _ he=>jD he),trivial⟩)) (by dsimp only;omega)
  ·have g11:=aa h11
   exact aq (ay.of_eq (by
                                                                                                     show AV.agg ((List.range 64).map fun j=>.int .u32 (bif Nat.blt j (16+x10.1) then bg b j else 0))=_
                                                                                                     exact congrArg AV.agg (List.map_congr_left fun j hj=>by rw [cD (by have:=List.mem_range.1 hj;omega)];rfl)))
end Go.Proofs.YtpefjkpdniiaoaaGreatDoor
