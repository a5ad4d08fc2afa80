/- Part of the proof: Ari, Ari2, Tabs, Prime, Zab, CS1, CS2, CS3, CS4, CS5, Grp, CS6, ObL, SpPay, Sha, CS7, CS8, CS9. -/
import Derived.Test.YtgnfjlekpgjehaaGreatDoorM2
import Derived.Test.YtgnfjlekpgjehaaGreatDoorM1
import Derived.Test.YtgnfjlekpgjehaaGreatDoorProg
namespace Go.Sp
open Go.IntKind (wrap)
open Int (toNat)
open Go Go.Am
theorem jg (n:Int):IntKind.wrap .u64 n=n%18446744073709551616:=by rfl
theorem MT (n:Int):IntKind.wrap .u32 n=n%4294967296:=by rfl
theorem vX (n:Int):IntKind.wrap .u8 n=n%256:=by rfl
theorem dx {n:Int} (h:0≤n) (h':n<18446744073709551616):IntKind.wrap .u64 n=n:=by grind [jg]
theorem Hi {n:Int} (h:0≤n) (h':n<4294967296):IntKind.wrap .u32 n=n:=by grind [MT]
theorem wu8 {n:Int} (h:0≤n) (h':n<256):IntKind.wrap .u8 n=n:=by grind [vX]
theorem OI {w n m:Nat} (hn:n<2^w) (hm:m<2^w):(BitVec.ofInt w (n:Int) &&& BitVec.ofInt w (m:Int)).toNat=n &&& m:=by grind
theorem orN {w n m:Nat} (hn:n<2^w) (hm:m<2^w):(BitVec.ofInt w (n:Int) ||| BitVec.ofInt w (m:Int)).toNat=n ||| m:=by grind
theorem oX {x:Int} (h:0≤x) (h':x<18446744073709551616):IntKind.wrap .u64 ((BitVec.ofInt 64 x &&& BitVec.ofInt 64 4294967295).toNat:Nat)=x%4294967296:=by
 obtain ⟨n,rfl⟩:=Int.eq_ofNat_of_zero_le h
 have e:(BitVec.ofInt 64 (n:Int) &&& BitVec.ofInt 64 4294967295).toNat=n%2^32:=by
  have:=OI (w:=64) (n:=n) (m:=4294967295) (by omega) (by decide)
  rw [show (4294967295:Int)=((4294967295:Nat):Int) from rfl,this,← Nat.and_two_pow_sub_one_eq_mod]
 grind [dx]
theorem dt {x:Int} {k:Nat}:Int.fdiv x (2^k)=x / 2^k:=Int.fdiv_eq_ediv_of_nonneg _ (Int.le_of_lt (Int.pow_pos (by decide)))
theorem PM {x:Int} (h:0≤x) (h':x<18446744073709551616):IntKind.wrap .u64 ((BitVec.ofInt 64 x &&& BitVec.ofInt 64 1).toNat:Nat)=x%2:=by
 obtain ⟨n,rfl⟩:=Int.eq_ofNat_of_zero_le h
 have e:(BitVec.ofInt 64 (n:Int) &&& BitVec.ofInt 64 1).toNat=n%2^1:=by simp
 grind [dx]
theorem Ot {x:Int} (h:0≤x) (h':x<9223372036854775808):IntKind.wrap .i64 ((BitVec.ofInt 64 x &&& BitVec.ofInt 64 1).toNat:Nat)=x%2:=by
 obtain ⟨n,rfl⟩:=Int.eq_ofNat_of_zero_le h
 have e:(BitVec.ofInt 64 (n:Int) &&& BitVec.ofInt 64 1).toNat=n%2^1:=by simp
 grind [wI]
theorem bY {a b:Int} (h:0≤a):Int.tmod a b=a%b:=Int.tmod_eq_emod_of_nonneg h
theorem mn {a b:Int} (h:0≤a):Int.tdiv a b=a / b:=Int.tdiv_eq_ediv_of_nonneg h
theorem lk {a b:Int} (ha:0≤a) (hb:0≤b) (ha':a<4294967296) (hb':b<4294967296):0≤a*b∧a*b≤18446744065119617025:=by
 refine ⟨Int.mul_nonneg ha hb,?_⟩
 have:=Int.mul_le_mul (show a≤4294967295 by omega) (show b≤4294967295 by omega) hb (by omega)
 omega
theorem Ho {x y:Int} (hx:0≤x) (hx':x<18446744073709551616) (hy:0≤y) (hy':y<18446744073709551616) :
  x / 4294967296*(y / 4294967296)+(x / 4294967296*(y%4294967296)+x%4294967296*(y%4294967296) / 4294967296) / 4294967296 +
   ((x / 4294967296*(y%4294967296)+x%4294967296*(y%4294967296) / 4294967296)%4294967296+x%4294967296*(y / 4294967296)) / 4294967296=x*y / 18446744073709551616:=by
 have e:x*y=x / 4294967296*(y / 4294967296)*18446744073709551616+(x / 4294967296*(y%4294967296)+x%4294967296*(y / 4294967296))*4294967296+x%4294967296*(y%4294967296):=by grind
 omega
theorem LV (x:Int):Int.fdiv x (2^32)=x / 4294967296:=dt
def dP (x:Int):Int:=if x≤0 then 0 else Nat.log2 x.toNat+1
theorem Al {x:Int} {n:Nat} (h1:2^n≤x) (h2:x<2^(n+1)):dP x=n+1:=by
 have hp:(0:Int)<2^n:=Int.pow_pos (by decide)
 obtain ⟨m,rfl⟩:=Int.eq_ofNat_of_zero_le (a:=x) (by omega)
 unfold dP
 rw [if_neg (by omega)]
 have hm:m≠0:=by omega
 have:Nat.log2 m=n:=by
  rw [Nat.log2_eq_iff hm]
  grind
 grind
theorem pN {x:Int} (h:0<x):∃ n:Nat,dP x=n+1∧2^n≤x∧x<2^(n+1):=by
 obtain ⟨m,rfl⟩:=Int.eq_ofNat_of_zero_le (a:=x) (by omega)
 have hm:m≠0:=by omega
 refine ⟨Nat.log2 m,?_,?_,?_⟩
 ·simp_all [dP]
 ·grind [Nat.log2_self_le]
 ·exact_mod_cast Nat.lt_log2_self
theorem eE {x:Int} (k:Nat) (h:2^k≤x):dP x=k+dP (x / 2^k):=by
 have hp:(0:Int)<2^k:=Int.pow_pos (by decide)
 have h0:0<x / 2^k:=(by have:=(Int.le_ediv_iff_mul_le (a:=1) (b:=x) hp).2 (by omega);omega)
 obtain ⟨n,h1,h2,h3⟩:=pN h0
 rw [h1,Al (n:=n+k)]
 ·omega
 ·simp_all [Int.pow_add,Int.le_ediv_iff_mul_le]
 ·rw [show n+k+1=(n+1)+k by omega,Int.pow_add]
  simp_all [Int.ediv_lt_iff_lt_mul]
def Nn:List UInt8:=[0,1,2,2,3,3,3,3,4,4,4,4,4,4,4,4,5,5,5,5,5,5,5,5,5,5,5,5,5,5,5,5,6,6,6,6,6,6,6,6,6,6,6,6,6,6,6,6,6,6,6,6,6,6,6,6,6,6,6,6,6,6,6,6,7,7,7,7,7,7,7,7,7,7,7,7,7,7,7,7,7,7,7,7,7,7,7,7,7,7,7,7,7,7,7,7,7,7,7,7,7,7,7,7,7,7,7,7,7,7,7,7,7,7,7,7,7,7,7,7,7,7,7,7,7,7,7,7,8,8,8,8,8,8,8,8,8,8,8,8,8,8,8,8,8,8,8,8,8,8,8,8,8,8,8,8,8,8,8,8,8,8,8,8,8,8,8,8,8,8,8,8,8,8,8,8,8,8,8,8,8,8,8,8,8,8,8,8,8,8,8,8,8,8,8,8,8,8,8,8,8,8,8,8,8,8,8,8,8,8,8,8,8,8,8,8,8,8,8,8,8,8,8,8,8,8,8,8,8,8,8,8,8,8,8,8,8,8,8,8,8,8,8,8,8,8,8,8,8,8,8,8,8,8,8,8]
set_option maxRecDepth 100000 in
theorem Ht:∀ n:Fin 256,(((List.getD Nn n.val default).toNat:Nat):Int)=dP (n.val:Int):=by decide +kernel
theorem jh {c X:Int} (h:0≤X) (h':X<256) (hc:0≤c) (hc':c≤64):IntKind.wrap .i64 (c+IntKind.wrap .i64 (((List.getD Nn (toNat (IntKind.wrap .u8 X)) default).toNat:Nat):Int))=c+dP X:=by
 rw [wu8 h h']
 have e:=Ht ⟨X.toNat,by omega⟩
 simp only at e
 rw [e,Int.toNat_of_nonneg h]
 have:0≤dP X∧dP X≤8:=by
  by_cases h0:0<X
  ·obtain ⟨n,h1,h2,h3⟩:=pN h0
   rw [h1]
   have:n<8:=by
    have h4:(2:Int)^n<2^8:=by omega
    have h5:(2:Nat)^n<2^8:=by grind
    exact (Nat.pow_lt_pow_iff_right (by decide)).1 h5
   omega
  ·have:X=0:=by omega
   subst this
   exact ⟨by decide,by decide⟩
 grind [wI,dP]
theorem ib (x:Int):Int.fdiv x (2^32)=x / 2^32:=dt
theorem ic (x:Int):Int.fdiv x (2^16)=x / 2^16:=dt
theorem lC (x:Int):Int.fdiv x (2^8)=x / 2^8:=dt
section
structure ox (y1 y0 un d q r : Int) : Prop where
  e : q * y1 + r = un
  le : (un * 4294967296 + d) / (y1 * 4294967296 + y0) ≤ q
  hi : q ≤ 4294967297
  r0 : 0 ≤ r
structure my (y1 y0 un d : Int) : Prop where
  a : 2147483648 ≤ y1
  b : y1 < 4294967296
  c : 0 ≤ y0
  c' : y0 < 4294967296
  u : 0 ≤ un
  u' : un < y1 * 4294967296 + y0
  d0 : 0 ≤ d
  d1 : d < 4294967296
variable {y1 y0 un d q r : Int}
theorem my.pos (h:my y1 y0 un d):0<y1*4294967296+y0:=by have:=h.a;have:=h.c;omega
theorem my.Q0 (h:my y1 y0 un d):0≤(un*4294967296+d) / (y1*4294967296+y0):=by
 have:=h.u;have:=h.d0
 exact Int.ediv_nonneg (by omega) (Int.le_of_lt h.pos)
theorem my.Q1 (h:my y1 y0 un d):(un*4294967296+d) / (y1*4294967296+y0)<4294967296:=by
 have h1:=h.u';have h2:=h.d1
 refine (Int.ediv_lt_iff_lt_mul h.pos).2 ?_
 omega
theorem my.init (h:my y1 y0 un d):ox y1 y0 un d (un / y1) (un - un / y1*y1)∧un - un / y1*y1<4294967296:=by
 have hp:0<y1:=by have:=h.a;omega
 have hb:=h.b
 have e1:=Int.emod_add_mul_ediv un y1
 have e2:=Int.emod_nonneg un (show y1≠0 by omega)
 have e3:=Int.emod_lt_of_pos un hp
 have e4:un / y1*y1=y1*(un / y1):=Int.mul_comm _ _
 have hu:=h.u;have hu':=h.u';have hc:=h.c';have ha:=h.a;have hd:=h.d1;have hc0:=h.c
 have q0:0≤un / y1:=Int.ediv_nonneg hu (by omega)
 refine ⟨⟨by omega,?_,?_,by omega⟩,by omega⟩
 ·refine Int.lt_add_one_iff.1 ((Int.ediv_lt_iff_lt_mul h.pos).2 ?_)
  have k1:(un / y1+1)*(y1*4294967296+y0)=y1*(un / y1)*4294967296+y1*4294967296+(un / y1+1)*y0:=by grind
  have k2:0≤(un / y1+1)*y0:=Int.mul_nonneg (by omega) hc0
  omega
 ·refine Int.lt_add_one_iff.1 ((Int.ediv_lt_iff_lt_mul hp).2 ?_)
  omega
theorem ox.stop (h:my y1 y0 un d) (k:ox y1 y0 un d q r) (h2:q*y0≤4294967296*r+d):q=(un*4294967296+d) / (y1*4294967296+y0):=by
 have k1:=k.e
 have k2:=k.le
 have:q≤(un*4294967296+d) / (y1*4294967296+y0):=by
  refine (Int.le_ediv_iff_mul_le h.pos).2 ?_
  grind
 omega
theorem ox.more (h:my y1 y0 un d) (k:ox y1 y0 un d q r) (h2:4294967296≤q∨4294967296*r+d<q*y0):(un*4294967296+d) / (y1*4294967296+y0)≤q - 1∧1≤q:=by
 have q0:=h.Q0
 rcases h2 with h2|h2
 ·have:=h.Q1;omega
 ·have k1:=k.e
  have:(un*4294967296+d) / (y1*4294967296+y0)<q:=by
   refine (Int.ediv_lt_iff_lt_mul h.pos).2 ?_
   grind
  omega
theorem ox.next (h:my y1 y0 un d) (k:ox y1 y0 un d q r) (h2:4294967296≤q∨4294967296*r+d<q*y0):ox y1 y0 un d (q - 1) (r+y1):=by
 have k1:=k.e;have k2:=k.hi;have k3:=k.r0;have:=h.a
 refine ⟨?_,(k.more h h2).1,by omega,by omega⟩
 grind
theorem ox.brk (h:my y1 y0 un d) (k:ox y1 y0 un d q r) (hr:4294967296≤r) (hq:q≤4294967296):q=(un*4294967296+d) / (y1*4294967296+y0):=by
 refine k.stop h ?_
 have hd:=h.d0;have hc:=h.c';have hc0:=h.c
 have q0:0≤q:=Int.le_trans h.Q0 k.le
 have:=Int.mul_le_mul hq (show y0≤4294967295 by omega) hc0 (by omega)
 omega
theorem my.rem (h:my y1 y0 un d) (hq:q=(un*4294967296+d) / (y1*4294967296+y0)):(((un*4294967296)%18446744073709551616+d)%18446744073709551616 - (q*(y1*4294967296+y0))%18446744073709551616)%18446744073709551616=(un*4294967296+d)%(y1*4294967296+y0):=by
 have e1:=Int.emod_add_mul_ediv (un*4294967296+d) (y1*4294967296+y0)
 have e2:=Int.emod_nonneg (un*4294967296+d) (show y1*4294967296+y0≠0 by have:=h.pos;omega)
 have e3:=Int.emod_lt_of_pos (un*4294967296+d) h.pos
 rw [← hq] at e1
 have e4:(y1*4294967296+y0)*q=q*(y1*4294967296+y0):=Int.mul_comm _ _
 have hb:=h.b;have hc:=h.c'
 omega
end
def jC (y:Int):Nat:=(64 - dP y).toNat
theorem uT {y:Int} (h:0<y) (h':y<18446744073709551616):jC y<64∧dP y=64 - jC y∧9223372036854775808≤y*2^jC y∧y*2^jC y<18446744073709551616:=by
 obtain ⟨n,h1,h2,h3⟩:=pN h
 have hn:n<64:=by
  have h4:(2:Int)^n=((2^n:Nat):Int):=by rfl
  exact (Nat.pow_lt_pow_iff_right (a:=2) (m:=64) (by decide)).1 (by omega)
 have hs:jC y=63 - n:=by grind [jC]
 rw [hs,h1]
 have e:(2:Int)^n*2^(63 - n)=9223372036854775808:=by rw [← Int.pow_add,show n+(63 - n)=63 by omega];rfl
 have e2:(2:Int)^(n+1)*2^(63 - n)=18446744073709551616:=by grind
 have hp:(0:Int)<2^(63 - n):=Int.pow_pos (by decide)
 refine ⟨by omega,by omega,?_,?_⟩
 ·rw [← e];exact Int.mul_le_mul_of_nonneg_right h2 (Int.le_of_lt hp)
 ·rw [← e2];exact Int.mul_lt_mul_of_pos_right h3 hp
theorem uB {y:Int} (h:0≤y) (h':y<18446744073709551616):0≤dP y∧dP y≤64:=by
 by_cases h0:0<y
 ·have:=uT h0 h'
  omega
 ·have:y=0:=by omega
  subst this
  exact ⟨by decide,by decide⟩
theorem KB {a b:Int} {s:Nat} (ha:0≤a) (hb:0≤b) (hb':b<2^s) (hs:a*2^s+b<18446744073709551616):IntKind.wrap .u64 ((BitVec.ofInt 64 (a*2^s) ||| BitVec.ofInt 64 b).toNat:Nat)=a*2^s+b:=by
 obtain ⟨n,rfl⟩:=Int.eq_ofNat_of_zero_le ha
 obtain ⟨m,rfl⟩:=Int.eq_ofNat_of_zero_le hb
 have hm:m<2^s:=by grind
 have e:((n:Int)*2^s)=((n*2^s:Nat):Int):=by rfl
 rw [e] at hs
 have hlt:n*2^s+m<2^64:=by omega
 rw [e,orN (by omega) (by omega),← Nat.shiftLeft_eq,← Nat.shiftLeft_add_eq_or_of_lt hm,Nat.shiftLeft_eq,dx (by omega) (by omega)]
 rfl
section
structure Div (x y z : Int) : Prop where
  x0 : 0 ≤ x
  xz : x < z
  z1 : z < 18446744073709551616
  y0 : 0 ≤ y
  y1 : y < 18446744073709551616
def dY (z:Int):Int:=z*2^jC z
def dU (x y z:Int):Int:=(x*18446744073709551616+y)*2^jC z
def tH (x y z:Int):Int:=dU x y z / 18446744073709551616
def kX (x y z:Int):Int:=dU x y z%18446744073709551616
def dN (x y z:Int):Int:=tH x y z*4294967296+kX x y z / 4294967296
def dQ (x y z:Int):Int:=dN x y z / dY z
def dR (x y z:Int):Int:=dN x y z%dY z
variable {x y z : Int}
theorem Div.sh (h:Div x y z):jC z<64∧dP z=64 - jC z∧9223372036854775808≤dY z∧dY z<18446744073709551616:=uT (by have:=h.x0;have:=h.xz;omega) h.z1
theorem Div.u1 (h:Div x y z):tH x y z=x*2^jC z+y / 2^(64 - jC z):=by
 have hs:=h.sh
 have e:(18446744073709551616:Int)=2^(64 - jC z)*2^jC z:=by rw [← Int.pow_add,show 64 - jC z+jC z=64 by omega];rfl
 have e2:dU x y z=y*2^jC z+x*2^jC z*18446744073709551616:=by grind [dU]
 unfold tH
 rw [e2,Int.add_mul_ediv_right _ _ (by decide)]
 grind [jC,Int.mul_ediv_mul_of_pos_left,Int.pow_pos]
theorem Div.u0 (_:Div x y z):kX x y z=y*2^jC z%18446744073709551616:=by grind [dU,jC,kX]
theorem kK (z:Int):dY z / 4294967296*4294967296+dY z%4294967296=dY z:=by omega
theorem Div.ult (h:Div x y z):0≤tH x y z∧tH x y z<dY z:=by
 have hp:(0:Int)<2^jC z:=Int.pow_pos (by decide)
 have h0:0≤dU x y z:=Int.mul_nonneg (by have:=h.x0;have:=h.y0;omega) (Int.le_of_lt hp)
 refine ⟨Int.ediv_nonneg h0 (by decide),(Int.ediv_lt_iff_lt_mul (by decide)).2 ?_⟩
 have:dU x y z<(z*18446744073709551616)*2^jC z:=Int.mul_lt_mul_of_pos_right (by have:=h.xz;have:=h.y1;omega) hp
 grind [dY,jC]
theorem Div.Db (h:Div x y z):my (dY z / 4294967296) (dY z%4294967296) (tH x y z) (kX x y z / 4294967296):=by
 have hs:=h.sh
 have hu:=h.ult
 have h0:0≤kX x y z∧kX x y z<18446744073709551616:=by grind [kX]
 exact ⟨by omega,by omega,by omega,by omega,hu.1,by omega,by omega,by omega⟩
theorem Div.Ah (h:Div x y z):my (dY z / 4294967296) (dY z%4294967296) (dR x y z) (kX x y z%4294967296):=by
 have hs:=h.sh
 have hp:0<dY z:=by omega
 have r0:0≤dR x y z:=Int.emod_nonneg _ (by omega)
 have r1:dR x y z<dY z:=Int.emod_lt_of_pos _ hp
 exact ⟨by omega,by omega,by omega,by omega,r0,by omega,by omega,by omega⟩
theorem Div.fin (h:Div x y z):dQ x y z*4294967296+(dR x y z*4294967296+kX x y z%4294967296) / dY z=(x*18446744073709551616+y) / z ∧
  (dR x y z*4294967296+kX x y z%4294967296)%dY z / 2^jC z=(x*18446744073709551616+y)%z:=by
 have hs:=h.sh
 have hp:0<dY z:=by omega
 have h2:(0:Int)<2^jC z:=Int.pow_pos (by decide)
 have e1:dY z*dQ x y z+dR x y z=dN x y z:=Int.mul_ediv_add_emod _ _
 have e2:=Int.mul_ediv_add_emod (dR x y z*4294967296+kX x y z%4294967296) (dY z)
 have r0:=Int.emod_nonneg (dR x y z*4294967296+kX x y z%4294967296) (show dY z≠0 by omega)
 have r1:=Int.emod_lt_of_pos (dR x y z*4294967296+kX x y z%4294967296) hp
 have e3:dU x y z=tH x y z*18446744073709551616+kX x y z:=by grind [tH,kX]
 generalize (dR x y z*4294967296+kX x y z%4294967296)%dY z=r at *
 generalize (dR x y z*4294967296+kX x y z%4294967296) / dY z=q at *
 have e4:dU x y z=r+dY z*(dQ x y z*4294967296+q):=by grind [dY,dQ,dN]
 have u:=(Int.ediv_emod_unique hp).2 ⟨e4.symm,r0,r1⟩
 grind [dU,dY,Int.mul_ediv_mul_of_pos_left,jC,Int.mul_comm,Int.mul_emod_mul_of_pos,Int.mul_ediv_cancel]
theorem Div.s (h:Div x y z):IntKind.wrap .u64 (64 - dP z)=jC z:=by have:=h.sh;grind [dx]
theorem Div.sm (h:Div x y z):min (toNat (IntKind.wrap .u64 (64 - dP z))) 64=jC z:=by have:=h.sh;rw [h.s];omega
theorem Div.v2 (h:Div x y z):IntKind.wrap .u64 (z*2^min (toNat (IntKind.wrap .u64 (64 - dP z))) 64)=dY z:=by
 have:=h.sh
 grind [dx,dY]
theorem Div.v10 (h:Div x y z):IntKind.wrap .u64 (y*2^min (toNat (IntKind.wrap .u64 (64 - dP z))) 64)=kX x y z:=by
 rw [h.sm,jg,h.u0]
theorem Div.v11 (h:Div x y z):IntKind.wrap .u64 ((BitVec.ofInt 64 (IntKind.wrap .u64 (x*2^min (toNat (IntKind.wrap .u64 (64 - dP z))) 64)) ||| BitVec.ofInt 64 (Int.fdiv y (2^min (toNat (IntKind.wrap .u64 (64 - IntKind.wrap .u64 (64 - dP z)))) 64))).toNat:Nat)=tH x y z:=by
 have hs:=h.sh
 have hu:=h.ult
 have h2:(0:Int)<2^jC z:=Int.pow_pos (by decide)
 have hx:0≤x*2^jC z:=Int.mul_nonneg h.x0 (Int.le_of_lt h2)
 have e:min (toNat (IntKind.wrap .u64 (64 - IntKind.wrap .u64 (64 - dP z)))) 64=64 - jC z:=by grind [dx]
 rw [h.sm,e,dt,h.u1]
 have hy:0≤y / 2^(64 - jC z):=Int.ediv_nonneg h.y0 (Int.le_of_lt (Int.pow_pos (by decide)))
 have hy':y / 2^(64 - jC z)<2^jC z:=by
  refine (Int.ediv_lt_iff_lt_mul (Int.pow_pos (by decide))).2 ?_
  rw [← Int.pow_add,show jC z+(64 - jC z)=64 by omega]
  exact h.y1
 have hlt:x*2^jC z+y / 2^(64 - jC z)<18446744073709551616:=by rw [← h.u1];omega
 rw [dx hx (by omega)]
 exact KB h.x0 hy hy' hlt
theorem ox.nk {y1 y0 un d q r:Int} (h:my y1 y0 un d) (k:ox y1 y0 un d q r) (hr:r<4294967296) (g:q≥4294967296∨IntKind.wrap .u64 (q*y0)>IntKind.wrap .u64 (IntKind.wrap .u64 (4294967296*r)+d)):4294967296≤q∨4294967296*r+d<q*y0:=by
 by_cases hq:4294967296≤q
 ·omega
 ·right
  have q0:0≤q:=Int.le_trans h.Q0 k.le
  have hc:=h.c;have hc':=h.c';have:=k.r0;have:=h.d0;have:=h.d1
  grind [lk,dx]
theorem ox.ky {y1 y0 un d q r:Int} (h:my y1 y0 un d) (k:ox y1 y0 un d q r) (hr:r<4294967296) (g:¬q≥4294967296∧¬IntKind.wrap .u64 (q*y0)>IntKind.wrap .u64 (IntKind.wrap .u64 (4294967296*r)+d)):q*y0≤4294967296*r+d:=by
 have q0:0≤q:=Int.le_trans h.Q0 k.le
 have hc:=h.c;have hc':=h.c';have:=k.r0;have:=h.d0;grind [lk,dx]
theorem ox.O1 {y1 y0 un d q r:Int} (h:my y1 y0 un d) (k:ox y1 y0 un d q r):0≤q∧q≤4294967297:=⟨Int.le_trans h.Q0 k.le,k.hi⟩
theorem Div.Be (h:Div x y z) {q:Int} (hq:q=dQ x y z):IntKind.wrap .u64 (IntKind.wrap .u64 (IntKind.wrap .u64 (tH x y z*4294967296)+kX x y z / 4294967296) - IntKind.wrap .u64 (q*dY z))=dR x y z:=by
 have e:=h.Db.rem (q:=q) (by rw [kK];exact hq)
 rw [kK] at e
 rw [jg,jg,jg,jg]
 exact e
theorem Div.PQ (h:Div x y z) {q:Int} (hq:q=(dR x y z*4294967296+kX x y z%4294967296) / dY z):IntKind.wrap .u64 (IntKind.wrap .u64 (IntKind.wrap .u64 (dR x y z*4294967296)+kX x y z%4294967296) - IntKind.wrap .u64 (q*dY z))=(dR x y z*4294967296+kX x y z%4294967296)%dY z:=by
 have e:=h.Ah.rem (q:=q) (by grind)
 grind [kK,jg]
end
section
variable {y1 y0 un d q r : Int}
theorem my.q_w (h:my y1 y0 un d):IntKind.wrap .u64 (Int.tdiv un y1)=un / y1:=by
 have k:=h.init.1.O1 h
 rw [mn h.u,dx (by omega) (by omega)]
theorem my.r_w (h:my y1 y0 un d):IntKind.wrap .u64 (un - IntKind.wrap .u64 (IntKind.wrap .u64 (Int.tdiv un y1)*y1))=un - un / y1*y1:=by
 have k:=h.init.1.O1 h
 have k0:=h.init.1.r0
 have k1:=h.init.2
 have k2:=h.a
 have k3:0≤un / y1*y1:=Int.mul_nonneg (by omega) (by omega)
 have k4:=h.u';have k5:=h.b;have k6:=h.c';grind [dx]
end
section
variable {x y z y1 y0 un d q r : Int}
theorem ox.od (h:my y1 y0 un d) (k:ox y1 y0 un d q r) (hr:r<4294967296) (g:q≥4294967296∨IntKind.wrap .u64 (q*y0)>IntKind.wrap .u64 (IntKind.wrap .u64 (4294967296*r)+d)):IntKind.wrap .u64 (q - 1)=q - 1∧IntKind.wrap .u64 (r+y1)=r+y1:=by
 have m:=k.more h (k.nk h hr g)
 have:=k.hi;have:=k.r0;have:=h.a;have:=h.b
 grind [dx]
theorem ox.tU (h:my y1 y0 un d) (k:ox y1 y0 un d q r) (hr:r<4294967296) (g:q≥4294967296∨IntKind.wrap .u64 (q*y0)>IntKind.wrap .u64 (IntKind.wrap .u64 (4294967296*r)+d)) (g2:IntKind.wrap .u64 (r+y1)≥4294967296):IntKind.wrap .u64 (q - 1)=(un*4294967296+d) / (y1*4294967296+y0):=by
 have w:=k.od h hr g
 rw [w.2] at g2
 rw [w.1]
 exact (k.next h (k.nk h hr g)).brk h g2 (by have:=k.hi;omega)
theorem ox.C1 (h:my y1 y0 un d) (k:ox y1 y0 un d q r) (hr:r<4294967296) (g:q≥4294967296∨IntKind.wrap .u64 (q*y0)>IntKind.wrap .u64 (IntKind.wrap .u64 (4294967296*r)+d)) (g2:¬IntKind.wrap .u64 (r+y1)≥4294967296):ox y1 y0 un d (q - 1) (r+y1)∧r+y1<4294967296:=by
 have w:=k.od h hr g
 rw [w.2] at g2
 exact ⟨k.next h (k.nk h hr g),by omega⟩
theorem Div.mY (z:Int):(tH x y z*4294967296+kX x y z / 4294967296) / (dY z / 4294967296*4294967296+dY z%4294967296)=dQ x y z:=by rw [kK];rfl
theorem Div.out (h:Div x y z) (hq:q=(dR x y z*4294967296+kX x y z%4294967296) / (dY z / 4294967296*4294967296+dY z%4294967296)):IntKind.wrap .u64 (IntKind.wrap .u64 (dQ x y z*4294967296)+q)=(x*18446744073709551616+y) / z ∧
  Int.fdiv (IntKind.wrap .u64 (IntKind.wrap .u64 (IntKind.wrap .u64 (dR x y z*4294967296)+kX x y z%4294967296) - IntKind.wrap .u64 (q*dY z))) (2^min (toNat ((jC z:Nat):Int)) 64)=(x*18446744073709551616+y)%z:=by
 have e:=h.fin
 have a1:=h.Db.Q0;have a2:=h.Db.Q1
 rw [Div.mY] at a1 a2
 have b1:=h.Ah.Q0;have b2:=h.Ah.Q1
 rw [← hq] at b1 b2
 rw [kK] at hq
 have hs:=h.sh
 rw [h.PQ hq,dx (n:=dQ x y z*4294967296) (by omega) (by omega),dx (by omega) (by omega),dt,hq,e.1]
 grind
end
def cW (a b m:Int):Int:=if m<1∨2305843009213693952≤m then 1 else if 0≤a∧a<m∧0≤b∧b<m then 0 else 2
theorem js {a b m:Int} (hm:0<m) (hm':m<2305843009213693952) (ha:0≤a) (ha':a<m) (hb:0≤b) (hb':b<m):cW a b m=0:=by simp_all [cW]<;>omega
theorem fo {a b m:Int} (h:cW a b m=0):0<m∧m<2305843009213693952∧0≤a∧a<m∧0≤b∧b<m:=by grind [cW]
theorem pow_mod (a:Int) (m:Int):∀ k:Nat,(a%m)^k%m=a^k%m
 | 0=>by simp
 | k+1=>by simp [Int.pow_succ,Int.mul_emod,pow_mod,Int.emod_emod_of_dvd,Int.dvd_refl]
theorem pP (a b m:Int):a%m*b%m=a*b%m:=by simp [Int.mul_emod,Int.emod_emod_of_dvd,Int.dvd_refl]
theorem sG (a b m:Int):a*(b%m)%m=a*b%m:=by simp [Int.mul_emod,Int.emod_emod_of_dvd,Int.dvd_refl]
theorem DQ {a m:Int} {e:Nat} (c:Int):c*(a*a%m)^e%m=c*a^(2*e)%m:=by
 rw [← sG,pow_mod,sG,Int.pow_mul,show a^2=a*a by grind]
theorem EW {x a m e:Int} (h0:0≤e) (h:e%2=0):x*(a*a%m)^(e / 2).toNat%m=x*a^e.toNat%m:=by
 rw [DQ,show 2*(e / 2).toNat=e.toNat by omega]
theorem H6 {x a m e:Int} (h0:0≤e) (h:e%2=1):x*a%m*(a*a%m)^(e / 2).toNat%m=x*a^e.toNat%m:=by
 rw [DQ,pP,show e.toNat=2*(e / 2).toNat+1 by omega,Int.pow_succ,Int.mul_assoc,Int.mul_comm a]
structure l8 (a0 : Int) (e0 : Nat) (m : Int) (s : Int × Int × Int) : Prop where
  p : s.1 * s.2.1 ^ s.2.2.toNat % m = a0 ^ e0 % m
  x0 : 0 ≤ s.1
  x1 : s.1 < m
  a0 : 0 ≤ s.2.1
  a1 : s.2.1 < m
  e0 : 0 ≤ s.2.2
theorem l8.even {a0:Int} {e0:Nat} {m x a e:Int} (h:l8 a0 e0 m (x,a,e)) (hm:0<m) (he:e%2=0):l8 a0 e0 m (x,a*a%m,e / 2):=by
 have:=h.e0
 exact ⟨by rw [← h.p];grind [EW],h.x0,h.x1,Int.emod_nonneg _ (by omega),Int.emod_lt_of_pos _ hm,by grind⟩
theorem l8.odd {a0:Int} {e0:Nat} {m x a e:Int} (h:l8 a0 e0 m (x,a,e)) (hm:0<m) (he:e%2=1):l8 a0 e0 m (x*a%m,a*a%m,e / 2):=by
 have:=h.e0
 exact ⟨by rw [← h.p];grind [H6],Int.emod_nonneg _ (by omega),Int.emod_lt_of_pos _ hm,Int.emod_nonneg _ (by omega),Int.emod_lt_of_pos _ hm,by grind⟩
theorem l8.stop {a0:Int} {e0:Nat} {m x a e:Int} (h:l8 a0 e0 m (x,a,e)) (he:¬e>0):x=a0^e0%m:=by
 have e1:=h.e0
 have:e=0:=by grind
 subst this
 have:=h.p
 simp only [Int.toNat_zero,Int.pow_zero,Int.mul_one] at this
 rw [← this,Int.emod_eq_of_lt h.x0 h.x1]
theorem l8.start {a e m:Int} (h0:0≤a) (h1:a<m) (he:0≤e):l8 a e.toNat m (1%m,a,e) :=
 ⟨by simp [pP],Int.emod_nonneg _ (by omega),Int.emod_lt_of_pos _ (by omega),h0,h1,he⟩
structure o3 (p0 : Int) (m : Int) (s : Int × Int × Int) : Prop where
  p : (s.1 + s.2.1 * s.2.2) % m = p0 % m
  x0 : 0 ≤ s.1
  x1 : s.1 < m
  a0 : 0 ≤ s.2.1
  a1 : s.2.1 < m
  e0 : 0 ≤ s.2.2
theorem dbl {x a e m:Int} (h:e%2=0):(x+(a+a)%m*(e / 2))%m=(x+a*e)%m:=by grind [Int.add_emod,pP]
theorem Pz {x a e m:Int} (h:e%2=1):((x+a)%m+(a+a)%m*(e / 2))%m=(x+a*e)%m:=by
 rw [Int.add_emod,pP,Int.emod_emod_of_dvd _ (Int.dvd_refl m),← Int.add_emod]
 grind
theorem o3.even {p0 m x a e:Int} (h:o3 p0 m (x,a,e)) (hm:0<m) (he:e%2=0):o3 p0 m (x,(a+a)%m,e / 2):=by
 have:=h.e0
 exact ⟨by rw [← h.p];exact dbl he,h.x0,h.x1,Int.emod_nonneg _ (by omega),Int.emod_lt_of_pos _ hm,by grind⟩
theorem o3.odd {p0 m x a e:Int} (h:o3 p0 m (x,a,e)) (hm:0<m) (he:e%2=1):o3 p0 m ((x+a)%m,(a+a)%m,e / 2):=by
 have:=h.e0
 exact ⟨by rw [← h.p];exact Pz he,Int.emod_nonneg _ (by omega),Int.emod_lt_of_pos _ hm,Int.emod_nonneg _ (by omega),Int.emod_lt_of_pos _ hm,by grind⟩
theorem o3.stop {p0 m x a e:Int} (h:o3 p0 m (x,a,e)) (he:¬e>0):x=p0%m:=by
 have e1:=h.e0
 have:e=0:=by grind
 subst this
 have:=h.p
 simp only [Int.mul_zero,Int.add_zero] at this
 rw [← this,Int.emod_eq_of_lt h.x0 h.x1]
theorem o3.start {a b m:Int} (h0:0≤a) (h1:a<m) (he:0≤b):o3 (a*b) m (0,a,b) :=
 ⟨by simp,by simp,by omega,h0,h1,he⟩
theorem yJ (x:Int):Int.fdiv x (2^1)=x / 2:=dt
theorem NQ {a b m:Int} (ha:0≤a) (ha':a<m) (hb:0≤b) (hb':b<m) (hm:m<2305843009213693952):0≤a*b∧a*b<m*18446744073709551616:=by
 refine ⟨Int.mul_nonneg ha hb,?_⟩
 have:=Int.mul_le_mul (show a≤m by omega) (show b≤18446744073709551615 by omega) hb (by omega)
 omega
theorem mA {a b n:Int} (h0:0≤a) (h1:a<n) (h2:0≤b) (h3:b<18446744073709551616):a*b<n*18446744073709551616:=by
 have:=Int.mul_le_mul (show a≤n - 1 by omega) (show b≤18446744073709551615 by omega) h2 (by omega)
 omega
theorem O2 {a b m:Int} (h:m<1∨m≥2305843009213693952):cW a b m=1:=by simp_all [cW]
theorem Nl {a b m:Int} (h:¬m<1∧¬m≥2305843009213693952) (h2:(¬a≥0∨¬a<m)∨(¬b≥0∨¬b<m)):cW a b m=2:=by simp_all [cW,if_neg]<;>omega
theorem Ni {a b m:Int} (h:¬m<1∧¬m≥2305843009213693952) (h2:(a≥0∧a<m)∧(b≥0∧b<m)):cW a b m=0:=by simp_all [cW,if_neg]
def lQ (e v:Int):Int:=if e=0 then v else 0
theorem Lx (v:Int):lQ 0 v=v:=rfl
theorem D3 {e v:Int} (h:e≠0):lQ e v=0:=if_neg h
def gJ (a e m:Int):Int:=if cW a a m=0 then (if e<0 then 2 else 0) else cW a a m
theorem Fi {a e m:Int} (h:¬cW a a m=0):gJ a e m=cW a a m:=if_neg h
theorem LH {a e m:Int} (h:cW a a m=0) (h2:e<0):gJ a e m=2:=by simp_all [gJ]
theorem nO {a e m:Int} (h:cW a a m=0) (h2:¬e<0):gJ a e m=0:=by simp_all [gJ,if_neg]
theorem pz {a m:Int} (hm:0<m):(0≤Int.tmod a m∧Int.tmod a m=a%m)∨(Int.tmod a m<0∧Int.tmod a m+m=a%m):=by
 by_cases ha:0≤a
 ·left;rw [bY ha];exact ⟨Int.emod_nonneg _ (by omega),rfl⟩
 ·have e:Int.tmod a m = -((-a)%m):=by
   have:=Int.neg_tmod (-a) m
   grind
  grind [Int.emod_nonneg,Int.emod_lt_of_pos,Int.mul_ediv_add_emod,Int.ediv_emod_unique,Int.mul_neg]
theorem tZ {a m:Int} (hm:0<m) (hm':m≤9223372036854775807) (h:Int.tmod a m<0):IntKind.wrap .i64 (Int.tmod a m+m)=a%m:=by
 have h0:=Int.emod_nonneg a (show m≠0 by omega)
 grind [Int.emod_lt_of_pos,pz,wI]
theorem uG {a m:Int} (hm:0<m) (h:¬Int.tmod a m<0):Int.tmod a m=a%m:=by grind [pz]
theorem zN {a b:Int} (ha:0≤a) (hb:0≤b) (h:a<2147483648∧b<2147483648):IntKind.wrap .i64 (a*b)=a*b:=by
 have:=Int.mul_le_mul (show a≤2147483647 by omega) (show b≤2147483647 by omega) hb (by omega)
 have:=Int.mul_nonneg ha hb
 grind [wI]
theorem HP {a b m:Int} (h0:0≤a) (h1:a<m) (h2:0≤b) (h3:b<m) (hm:m<2305843009213693952):Int.tmod (IntKind.wrap .i64 (a+b)) m=(a+b)%m:=by grind [wI,bY]
theorem vP {e:Int} (h:0≤e) (h':e≤9223372036854775807):IntKind.wrap .i64 (Int.tdiv e 2)=e / 2:=by grind [mn,wI]
theorem l8.uM {a0:Int} {e0:Nat} {m:Int} {s:Int×Int×Int} (h:l8 a0 e0 m s) (hm:0<m) (he:s.2.2%2=0):l8 a0 e0 m (s.1,s.2.1*s.2.1%m,s.2.2 / 2):=l8.even (x:=s.1) (a:=s.2.1) (e:=s.2.2) h hm he
theorem l8.BI {a0:Int} {e0:Nat} {m:Int} {s:Int×Int×Int} (h:l8 a0 e0 m s) (hm:0<m) (he:s.2.2%2=1):l8 a0 e0 m (s.1*s.2.1%m,s.2.1*s.2.1%m,s.2.2 / 2):=l8.odd (x:=s.1) (a:=s.2.1) (e:=s.2.2) h hm he
theorem l8.vO {a0:Int} {e0:Nat} {m:Int} {s:Int×Int×Int} (h:l8 a0 e0 m s) (he:¬s.2.2>0):s.1=a0^e0%m:=l8.stop (x:=s.1) (a:=s.2.1) (e:=s.2.2) h he
theorem o3.uM {p0 m:Int} {s:Int×Int×Int} (h:o3 p0 m s) (hm:0<m) (he:s.2.2%2=0):o3 p0 m (s.1,(s.2.1+s.2.1)%m,s.2.2 / 2):=o3.even (x:=s.1) (a:=s.2.1) (e:=s.2.2) h hm he
theorem o3.BI {p0 m:Int} {s:Int×Int×Int} (h:o3 p0 m s) (hm:0<m) (he:s.2.2%2=1):o3 p0 m ((s.1+s.2.1)%m,(s.2.1+s.2.1)%m,s.2.2 / 2):=o3.odd (x:=s.1) (a:=s.2.1) (e:=s.2.2) h hm he
theorem o3.vO {p0 m:Int} {s:Int×Int×Int} (h:o3 p0 m s) (he:¬s.2.2>0):s.1=p0%m:=o3.stop (x:=s.1) (a:=s.2.1) (e:=s.2.2) h he
theorem l8.JT {a e m:Int} (he:e≤9223372036854775807):(cW a a m=0→0≤e→l8 a e.toNat m (1%m,a,e))∧e≤9223372036854775807 :=
 ⟨fun h1 h2=>by have:=fo h1;grind [l8.start],he⟩
def bsL:List Int:=[2,3,5,7,11,13,17,19,23,29,31,37]
def dbL:List Int:=[0,1,56,2,57,49,28,3,61,58,42,50,38,29,17,4,62,47,59,36,45,43,51,22,53,39,33,30,24,18,12,5,63,55,48,27,60,41,37,16,46,35,44,21,52,32,23,11,54,26,40,15,34,20,31,10,25,14,19,9,13,8,7,6]
def kL:List Int:=[1116352408,1899447441,3049323471,3921009573,961987163,1508970993,2453635748,2870763221,3624381080,310598401,607225278,1426881987,1925078388,2162078206,2614888103,3248222580,3835390401,4022224774,264347078,604807628,770255983,1249150122,1555081692,1996064986,2554220882,2821834349,2952996808,3210313671,3336571891,3584528711,113926993,338241895,666307205,773529912,1294757372,1396182291,1695183700,1986661051,2177026350,2456956037,2730485921,2820302411,3259730800,3345764771,3516065817,3600352804,4094571909,275423344,430227734,506948616,659060556,883997877,958139571,1322822218,1537002063,1747873779,1955562222,2024104815,2227730452,2361852424,2428436474,2756734187,3204031479,3329325298]
def stL:List Int:=[1779033703,3144134277,1013904242,2773480762,1359893119,2600822924,528734635,1541459225]
def dk (j:Nat):Int:=bsL.getD j 0
def dbF (j:Nat):Int:=dbL.getD j 0
def kF (j:Nat):Int:=kL.getD j 0
def yS (j:Nat):Int:=stL.getD j 0
def Cf:Nat→Int→Nat
 | 0,_=>0
 | k+1,x=>if x%2=0 then Cf k (x / 2)+1 else 0
def gw (x:Int):Nat:=Cf 64 x
theorem ue:∀ (k:Nat) (x:Int),0<x→x<2^k→Cf k x<k∧x=2^Cf k x*(x / 2^Cf k x)∧x / 2^Cf k x%2=1
 | 0,x,h,h'=>by omega
 | k+1,x,h,h'=>by
  unfold Cf
  by_cases he:x%2=0
  ·rw [if_pos he]
   have hk:x / 2<2^k:=by omega
   obtain ⟨h1,h2,h3⟩:=ue k (x / 2) (by omega) hk
   generalize Cf k (x / 2)=t at *
   have e:x / 2^(t+1)=x / 2 / 2^t:=by simp [Int.pow_succ,Int.mul_comm,Int.ediv_ediv]
   grind
  grind
theorem mj {x:Int} (h:0<x) (h':x<18446744073709551616):gw x<64∧x=2^gw x*(x / 2^gw x)∧x / 2^gw x%2=1:=ue 64 x h h'
theorem uk:∀ (k t:Nat) (o:Int),t<k→o%2=1→Cf k (2^t*o)=t
 | 0,t,o,h,_=>by omega
 | k+1,0,o,h,ho=>by simp_all [Cf,Int.pow_zero,Int.one_mul]
 | k+1,t+1,o,h,ho=>by
  unfold Cf
  have e:(2:Int)^(t+1)*o=2*(2^t*o):=by grind
  simp_all [uk]
theorem Fq {t:Nat} {o:Int} (h:t<64) (ho:o%2=1):gw (2^t*o)=t:=uk 64 t o h ho
theorem FZ {o m:Nat} (ho:o%2=1) (h:o<2^m):o &&& (2^m - o)=1:=by
 apply Nat.eq_of_testBit_eq
 intro i
 have e:2^m - o=2^m - ((o - 1)+1):=by omega
 rw [Nat.testBit_and,e,Nat.testBit_two_pow_sub_succ (by omega)]
 cases i<;>grind
theorem yG {x:Int} (h:0<x) (h':x<18446744073709551616):IntKind.wrap .u64 ((BitVec.ofInt 64 x &&& BitVec.ofInt 64 (IntKind.wrap .u64 (0 - x))).toNat:Nat)=2^gw x:=by
 obtain ⟨h1,h2,h3⟩:=mj h h'
 generalize gw x=t at *
 obtain ⟨n,rfl⟩:=Int.eq_ofNat_of_zero_le (a:=x) (by omega)
 have hp:(0:Int)<2^t:=Int.pow_pos (by decide)
 obtain ⟨o,ho⟩:=Int.eq_ofNat_of_zero_le (a:=(n:Int) / 2^t) (Int.ediv_nonneg (by omega) (by omega))
 rw [ho] at h2 h3
 have hn:n=2^t*o:=by grind
 have e1:IntKind.wrap .u64 (0 - (n:Int))=((2^64 - n:Nat):Int):=by grind [jg]
 have hpos:0<n:=by omega
 rw [e1,OI (by omega) (by omega)]
 have hpow:(2:Nat)^64=2^t*2^(64 - t):=by rw [← Nat.pow_add];grind
 have hpt:0<2^t:=Nat.pos_of_ne_zero (by simp)
 have hlt:o<2^(64 - t):=by
  have:2^t*o<2^t*2^(64 - t):=by omega
  simp_all
 have e2:2^64 - n=2^t*(2^(64 - t) - o):=by grind [Nat.mul_sub]
 have e3:n &&& (2^64 - n)=2^t:=by
  rw [e2,hn,Nat.mul_comm,Nat.mul_comm (2^t),← Nat.shiftLeft_eq,← Nat.shiftLeft_eq,← Nat.shiftLeft_and_distrib,FZ (by omega) hlt,Nat.shiftLeft_eq,Nat.one_mul]
 rw [e3]
 have:2^t<2^64:=Nat.pow_lt_pow_right (by decide) h1
 grind [dx]
theorem M6:∀ t:Fin 64,dbF (toNat ((2^t.val*285870213051353865:Int)%18446744073709551616 / 288230376151711744))=t.val:=by decide +kernel
theorem Pr {t:Nat} (h:t<64):dbF (toNat (Int.fdiv (IntKind.wrap .u64 (2^t*285870213051353865)) (2^58)))=t:=by
 rw [dt,jg]
 exact M6 ⟨t,h⟩
theorem PW {t:Nat}:0≤Int.fdiv (IntKind.wrap .u64 (2^t*285870213051353865)) (2^58)∧Int.fdiv (IntKind.wrap .u64 (2^t*285870213051353865)) (2^58)<64:=by grind [dt,jg]
def gx (a d n:Int) (i:Nat):Int:=a^(d.toNat*2^i)%n
theorem qP (a d n:Int):gx a d n 0=a^d.toNat%n:=by simp [gx]
theorem rG (a d n:Int) (i:Nat):gx a d n (i+1)=gx a d n i*gx a d n i%n:=by
 unfold gx
 rw [pP,sG,← Int.pow_add,Nat.pow_succ]
 grind
def po (p:Nat→Bool) (n:Nat):Bool:=(List.range n).any p
theorem te {p:Nat→Bool} {n i:Nat} (h:i<n) (hp:p i=true):po p n=true:=List.any_eq_true.2 ⟨i,List.mem_range.2 h,hp⟩
theorem K5 {p:Nat→Bool} {n:Nat} (h:∀ i,i<n→p i=false):po p n=false:=List.any_eq_false.2 fun i hi=>by grind
def allI (p:Nat→Bool) (n:Nat):Bool:=(List.range n).all p
theorem nQ {p:Nat→Bool} {n i:Nat} (h:i<n) (hp:p i=false):allI p n=false:=List.all_eq_false.2 ⟨i,List.mem_range.2 h,by grind⟩
theorem nv {p:Nat→Bool} {n:Nat} (h:∀ i,i<n→p i=true):allI p n=true:=List.all_eq_true.2 fun i hi=>h i (List.mem_range.1 hi)
def eP (n a:Int):Bool:=gx a ((n - 1) / 2^gw (n - 1)) n 0==1||po (fun i=>gx a ((n - 1) / 2^gw (n - 1)) n i==n - 1) (gw (n - 1))
def lx (n:Int):Bool:=if n<2 then false else if 0≤aK (fun i=>n%dk i==0) 12 0 then n==dk (aK (fun i=>n%dk i==0) 12 0).toNat else allI (fun i=>eP n (dk i)) 12
theorem GF:∀ i:Fin 12,2≤dk i.val∧dk i.val≤37:=by decide +kernel
theorem la {i:Nat} (h:i<12):2≤dk i∧dk i≤37:=GF ⟨i,h⟩
theorem Fs:∀ n:Fin 38,2≤(n.val:Int)→∃ i:Fin 12,(n.val:Int)%dk i.val=0:=by decide +kernel
theorem D8 {n:Int} (h:2≤n) (h2:∀ i,i<12→n%dk i≠0):37<n:=by
 refine Int.not_le.1 fun hle=>?_
 obtain ⟨i,hi⟩:=Fs ⟨n.toNat,by omega⟩ (by grind)
 grind
theorem vA {p:Nat→Bool}:∀ k i,aK p k i<0→∀ j,j<k→p (i+j)=false
 | 0,_,_,j,hj=>by omega
 | k+1,i,h,j,hj=>by
  unfold aK at h
  by_cases hp:p i=true
  ·grind
  ·rw [if_neg hp] at h
   cases j with
   | zero=>simpa using hp
   | succ j =>
    have:=vA k (i+1) h j (by omega)
    rw [show i+(j+1)=i+1+j by omega];exact this
theorem jA {p:Nat→Bool}:∀ k i,aK p k i<(i+k:Nat)
 | 0,i=>by grind [aK]
 | k+1,i=>by
  unfold aK
  split
  ·omega
  ·have:=jA (p:=p) k (i+1);omega
theorem De {n:Int} (h:n<2):lx n=false:=if_pos h
theorem Ju {n:Int} {i:Nat} (h:¬n<2) (he:aK (fun i=>n%dk i==0) 12 0=aK (fun i=>n%dk i==0) (12 - i) i) (hi:i<12) (h0:n%dk i=0):lx n=(n==dk i):=by
 have e:=cr he hi (by grind)
 unfold lx
 grind
theorem uh {n:Int} {i:Nat} (h:¬n<2) (he:aK (fun i=>n%dk i==0) 12 0=aK (fun i=>n%dk i==0) (12 - i) i) (hi:12≤i):lx n=allI (fun i=>eP n (dk i)) 12∧37<n∧∀ i,i<12→n%dk i≠0:=by
 have e:=bW he hi
 have hn:∀ i,i<12→n%dk i≠0:=fun j hj=>by
  have:=vA (p:=fun i=>n%dk i==0) 12 0 (by omega) j hj
  grind
 simp_all [D8,lx,if_neg]<;>omega
theorem Fo {n:Int} (h2:∀ i,i<12→n%dk i≠0):n%2=1:=by
 have:=h2 0 (by decide)
 have e:dk 0=2:=rfl
 grind
theorem qZ {i:Nat} (h:i<12):aE (aO [.int .u64 (dk 0),.int .u64 (dk 1),.int .u64 (dk 2),.int .u64 (dk 3),.int .u64 (dk 4),.int .u64 (dk 5),.int .u64 (dk 6),.int .u64 (dk 7),.int .u64 (dk 8),.int .u64 (dk 9),.int .u64 (dk 10),.int .u64 (dk 11)] i)=dk i:=congrArg aE (dw (es:=12) (g:=fun j=>AV.int .u64 (dk j)) h)
def mH (a d n:Int) (i:Nat):Prop:=gx a d n 0≠n - 1→∀ r,r≤i→gx a d n r≠n - 1
theorem zl (a d n:Int):mH a d n 0:=fun h r hr=>by grind
theorem zh {a d n:Int} {i:Nat} (h:mH a d n i) (h2:gx a d n (i+1)≠n - 1):mH a d n (i+1):=fun h0 r hr=>by
 by_cases e:r=i+1
 ·grind
 ·exact h h0 r (by omega)
theorem HB {a d n:Int} {s:Nat} (hs:0<s) (hn:2≤n) (hn':n<18446744073709551616) (g:a^d.toNat%n=1∨a^d.toNat%n=IntKind.wrap .u64 (n - 1)):(gx a d n 0==1||po (fun i=>gx a d n i==n - 1) s)=true:=by grind [dx,qP,te]
theorem G4 {a d n:Int} {s i:Nat} (hi:i+1<s) (g:gx a d n (i+1)=n - 1):(gx a d n 0==1||po (fun i=>gx a d n i==n - 1) s)=true:=by grind [te]
theorem Dw {a d n:Int} {s i:Nat} (h1:¬gx a d n 0=1) (h2:gx a d n 0≠n - 1) (h:mH a d n i) (hi:s≤i+1):(gx a d n 0==1||po (fun i=>gx a d n i==n - 1) s)=false:=by
 rw [K5 fun r hr=>by simpa using h h2 r (by omega)]
 grind
theorem yX {n:Int} {i:Nat} (hi:i<12) (hn:2≤n) (hn':n<18446744073709551616) :
  (gx (aE (aO [.int .u64 (dk 0),.int .u64 (dk 1),.int .u64 (dk 2),.int .u64 (dk 3),.int .u64 (dk 4),.int .u64 (dk 5),.int .u64 (dk 6),.int .u64 (dk 7),.int .u64 (dk 8),.int .u64 (dk 9),.int .u64 (dk 10),.int .u64 (dk 11)] i)) (Int.fdiv (IntKind.wrap .u64 (n - 1)) (2^min (toNat ((gw (n - 1):Nat):Int)) 64)) n 0==1||po (fun q=>gx (aE (aO [.int .u64 (dk 0),.int .u64 (dk 1),.int .u64 (dk 2),.int .u64 (dk 3),.int .u64 (dk 4),.int .u64 (dk 5),.int .u64 (dk 6),.int .u64 (dk 7),.int .u64 (dk 8),.int .u64 (dk 9),.int .u64 (dk 10),.int .u64 (dk 11)] i)) (Int.fdiv (IntKind.wrap .u64 (n - 1)) (2^min (toNat ((gw (n - 1):Nat):Int)) 64)) n q==n - 1) (gw (n - 1)))=eP n (dk i):=by
 have ht:=(mj (x:=n - 1) (by omega) (by omega)).1
 rw [qZ hi,dx (by omega) (by omega),Int.toNat_natCast,Nat.min_eq_left (by omega),dt]
 rfl
theorem uQ {n d:Int} {s:Nat} (hn:2≤n) (hn':n<18446744073709551616) (h:n - 1=2^s*d) (hd:0<d):s<64:=by
 have h1:(2:Int)^s≤2^s*d:=by
  have:=Int.mul_le_mul_of_nonneg_left (show 1≤d by omega) (Int.le_of_lt (Int.pow_pos (by decide):(0:Int)<2^s))
  omega
 have h4:(2:Int)^s=((2^s:Nat):Int):=by rfl
 exact (Nat.pow_lt_pow_iff_right (a:=2) (m:=64) (by decide)).1 (by omega)
theorem ld {n d:Int} {s:Nat} (hn:2≤n) (hn':n<18446744073709551616) (h:n - 1=2^s*d) (hd:0<d) (ho:¬Int.tmod d 2=0):gw (n - 1)=s∧(n - 1) / 2^gw (n - 1)=d:=by grind [uQ,bY,gw,Fq,Int.mul_ediv_cancel_left,Int.ne_of_gt,Int.pow_pos]
theorem EZ {n d:Int} {s:Nat} (h:n - 1=2^s*d) (hd:0<d) (he:Int.tmod d 2=0):n - 1=2^(s+1)*(d / 2)∧0<d / 2:=by grind
theorem BD {n d:Int} {s:Nat} (h:n - 1=2^s*d) (hd:0<d):d≤n - 1:=by
 have:1*d≤2^s*d:=Int.mul_le_mul_of_nonneg_right (by have:=(Int.pow_pos (by decide):(0:Int)<2^s);omega) (by omega)
 omega
theorem mZ {n:Int} (hn:2≤n) (hn':n<18446744073709551616) (ho:n%2=1) :
  0≤Int.fdiv (IntKind.wrap .u64 (n - 1)) (2^min (toNat ((gw (n - 1):Nat):Int)) 64)∧Int.fdiv (IntKind.wrap .u64 (n - 1)) (2^min (toNat ((gw (n - 1):Nat):Int)) 64)<18446744073709551616∧gw (n - 1)<64∧0<gw (n - 1):=by
 have ht:=mj (x:=n - 1) (by omega) (by omega)
 rw [dx (by omega) (by omega),dt]
 have h1:=Int.ediv_nonneg (a:=n - 1) (b:=2^min (toNat ((gw (n - 1):Nat):Int)) 64) (by omega) (Int.le_of_lt (Int.pow_pos (by decide)))
 have h2:=Int.ediv_le_self (a:=n - 1) (2^min (toNat ((gw (n - 1):Nat):Int)) 64) (by omega)
 grind
theorem Aa (n:Int):2≤n→n - 1=2^0*(n - 1)∧0<n - 1:=fun h=>⟨by simp,by omega⟩
theorem pV {os:List (Option Ob)} {es n:Nat} {mu:Bool} {l:List (List AV)} {f:Nat→Nat→AV} (h:∀ i j,i<n→j<es→aO (l.getD i []) j=f i j):aH os ⟨es,n,mu,.ba l⟩ ⟨es,n,mu,.fn f⟩:=⟨rfl,rfl,rfl,fun i j hi hj=>aw.of_eq (h i j hi hj)⟩
theorem NS {os:List (Option Ob)} {mu:Bool}:aH os ⟨1,12,mu,.ba [[.int .i64 2],[.int .i64 3],[.int .i64 5],[.int .i64 7],[.int .i64 11],[.int .i64 13],[.int .i64 17],[.int .i64 19],[.int .i64 23],[.int .i64 29],[.int .i64 31],[.int .i64 37]]⟩ ⟨1,12,mu,.fn fun i _=>.int .i64 (dk i)⟩:=pV fun i j hi hj=>by
 obtain rfl:j=0:=by omega
 match i,hi with
 | 0,_|1,_|2,_|3,_|4,_|5,_|6,_|7,_|8,_|9,_|10,_|11,_=>rfl
theorem zC {n a:Int} (ho:0<gw (n - 1)) (g:gx a ((n - 1) / 2^gw (n - 1)) n 0=1∨gx a ((n - 1) / 2^gw (n - 1)) n 0=n - 1):eP n a=true:=by grind [eP,te]
theorem A4 {n a:Int} {i:Nat} (hi:i+1<gw (n - 1)) (g:gx a ((n - 1) / 2^gw (n - 1)) n (i+1)=n - 1):eP n a=true:=by grind [eP,te]
theorem Bx {n a:Int} {i:Nat} (h1:¬gx a ((n - 1) / 2^gw (n - 1)) n 0=1) (h2:gx a ((n - 1) / 2^gw (n - 1)) n 0≠n - 1) (h:mH a ((n - 1) / 2^gw (n - 1)) n i) (hi:gw (n - 1)≤i+1):eP n a=false:=Dw h1 h2 h hi
end Go.Sp

namespace Go.Am
open Go
abbrev z32 : List AV := [Zb 0, Zb 0, Zb 0, Zb 0, Zb 0, Zb 0, Zb 0, Zb 0, Zb 0, Zb 0, Zb 0, Zb 0, Zb 0, Zb 0, Zb 0, Zb 0, Zb 0, Zb 0, Zb 0, Zb 0, Zb 0, Zb 0, Zb 0, Zb 0, Zb 0, Zb 0, Zb 0, Zb 0, Zb 0, Zb 0, Zb 0, Zb 0]
end Go.Am

namespace Go.Proofs.YtgnfjlekpgjehaaGreatDoor
open Go.IntKind (wrap)
open Int (toNat)
open Go Go.Am Go.Sp
set_option maxRecDepth 100000
def aW:dE:=fun g=>bif Nat.beq g 0 then some (12,fun j=>.int .u64 (dk j)) else bif Nat.beq g 2 then some (64,fun j=>.int .u8 (dbF j)) else bif Nat.beq g 1 then some (8,fun j=>.int .u32 (yS j)) else bif Nat.beq g 3 then some (64,fun j=>.int .u32 (kF j)) else none
def bk:FuncId→Option (List Bool):=fun _=>none
theorem mixed:Tryz.prog.follows .mixedOrders=true:=by kernel_rfl
theorem xJ (x y:Int) (hx:0≤x) (hx':x<18446744073709551616) (hy:0≤y) (hy':y<18446744073709551616):Pure Tryz.prog aW 251 [.int .u64 x,.int .u64 y] (.aT [.int .u64 (x*y / 18446744073709551616),.int .u64 (x*y%18446744073709551616)]):=by
 refine ar (own:=bk) Tryz.func251 (by kernel_rfl) mixed (by kernel_rfl)
  (let z3:Int:=(4294967295:Int);let z2:Int:=(↑(BitVec.toNat (BitVec.ofInt 64 x &&& BitVec.ofInt 64 z3)):Int);let z1:Int:=(↑(BitVec.toNat (BitVec.ofInt 64 y &&& BitVec.ofInt 64 z3)):Int);let z0:Int:=(wrap .u64 (wrap .u64 (Int.fdiv x ((2:Int)^32)*wrap .u64 z1)+Int.fdiv (wrap .u64 (wrap .u64 z2*wrap .u64 z1)) ((2:Int)^32)));(.out (.aT [Zu (wrap .u64 (wrap .u64 (wrap .u64 (Int.fdiv x ((2:Int)^32)*Int.fdiv y ((2:Int)^32))+Int.fdiv z0 ((2:Int)^32))+Int.fdiv (wrap .u64 (wrap .u64 (↑(BitVec.toNat (BitVec.ofInt 64 z0 &&& BitVec.ofInt 64 z3)):Int)+wrap .u64 (wrap .u64 z2*Int.fdiv y ((2:Int)^32)))) ((2:Int)^32))),Zu (wrap .u64 (x*y))]) [] (.aT [Zu (x*y / 18446744073709551616),Zu (x*y%18446744073709551616)]) []))
  (by kernel_rfl) ?_
 exact aq (aw.aT ⟨aw.of_eq (congrArg _ (by
                                                                                                     rw [← Ho hx hx' hy hy']
                                                                                                     have e1:IntKind.wrap .u64 (x*y)=x*y%18446744073709551616:=jg _
                                                                                                     have b1:=lk (a:=x / 4294967296) (b:=y / 4294967296) (by omega) (by omega) (by omega) (by omega)
                                                                                                     have b2:=lk (a:=x / 4294967296) (b:=y%4294967296) (by omega) (by omega) (by omega) (by omega)
                                                                                                     have b3:=lk (a:=x%4294967296) (b:=y / 4294967296) (by omega) (by omega) (by omega) (by omega)
                                                                                                     have b4:=lk (a:=x%4294967296) (b:=y%4294967296) (by omega) (by omega) (by omega) (by omega)
                                                                                                     have b5:∀ z:Int,IntKind.wrap .u64 ((BitVec.ofInt 64 (z%18446744073709551616) &&& BitVec.ofInt 64 4294967295).toNat:Nat)=z%4294967296:=fun z=>by rw [oX (by omega) (by omega)];omega
                                                                                                     simp only [LV,oX hx hx',oX hy hy',jg] at b5 ⊢
                                                                                                     rw [b5]
                                                                                                     generalize x / 4294967296*(y / 4294967296)=d at *
                                                                                                     generalize x / 4294967296*(y%4294967296)=b at *
                                                                                                     generalize x%4294967296*(y / 4294967296)=c at *
                                                                                                     generalize x%4294967296*(y%4294967296)=a at *
                                                                                                     omega)),aw.of_eq (congrArg _ (jg _)),trivial⟩)
abbrev oa:List UInt8:=[(0:UInt8),1,2,2,3,3,3,3,4,4,4,4,4,4,4,4,5,5,5,5,5,5,5,5,5,5,5,5,5,5,5,5,6,6,6,6,6,6,6,6,6,6,6,6,6,6,6,6,6,6,6,6,6,6,6,6,6,6,6,6,6,6,6,6,7,7,7,7,7,7,7,7,7,7,7,7,7,7,7,7,7,7,7,7,7,7,7,7,7,7,7,7,7,7,7,7,7,7,7,7,7,7,7,7,7,7,7,7,7,7,7,7,7,7,7,7,7,7,7,7,7,7,7,7,7,7,7,7,8,8,8,8,8,8,8,8,8,8,8,8,8,8,8,8,8,8,8,8,8,8,8,8,8,8,8,8,8,8,8,8,8,8,8,8,8,8,8,8,8,8,8,8,8,8,8,8,8,8,8,8,8,8,8,8,8,8,8,8,8,8,8,8,8,8,8,8,8,8,8,8,8,8,8,8,8,8,8,8,8,8,8,8,8,8,8,8,8,8,8,8,8,8,8,8,8,8,8,8,8,8,8,8,8,8,8,8,8,8,8,8,8,8,8,8,8,8,8,8,8,8,8,8,8,8,8,8]
theorem Ih (x:Int) (h:0≤x) (h':x<18446744073709551616):Pure Tryz.prog aW 331 [.int .u64 x] (.int .i64 (dP x)):=by
 refine ar (own:=bk) Tryz.func331 (by kernel_rfl) mixed (by kernel_rfl)
  (let z2:=(Int.fdiv x ((2:Int)^8));let z1:=(Int.fdiv x ((2:Int)^16));let z0:=(Int.fdiv x ((2:Int)^32));(.br (decide (x≥4294967296)) (.br (decide (Int.fdiv x ((2:Int)^32)≥65536)) (.br (decide (Int.fdiv z0 ((2:Int)^16)≥256)) (.bf ((0:Int)≤wrap .u8 (Int.fdiv (Int.fdiv z0 ((2:Int)^16)) ((2:Int)^8))∧wrap .u8 (Int.fdiv (Int.fdiv z0 ((2:Int)^16)) ((2:Int)^8))<256) (.out (Zi (wrap .i64 (wrap .i64 (wrap .i64 ((32:Int)+16)+8)+wrap .i64 (↑(UInt8.toNat (List.getD oa (toNat (wrap .u8 (Int.fdiv (Int.fdiv z0 ((2:Int)^16)) ((2:Int)^8)))) (0:UInt8))):Int)))) [] (Zi (dP x)) [])) (.bf ((0:Int)≤wrap .u8 (Int.fdiv z0 ((2:Int)^16))∧wrap .u8 (Int.fdiv z0 ((2:Int)^16))<256) (.out (Zi (wrap .i64 (wrap .i64 ((32:Int)+16)+wrap .i64 (↑(UInt8.toNat (List.getD oa (toNat (wrap .u8 (Int.fdiv z0 ((2:Int)^16)))) (0:UInt8))):Int)))) [] (Zi (dP x)) []))) (.br (decide (Int.fdiv x ((2:Int)^32)≥256)) (.bf ((0:Int)≤wrap .u8 (Int.fdiv z0 ((2:Int)^8))∧wrap .u8 (Int.fdiv z0 ((2:Int)^8))<256) (.out (Zi (wrap .i64 (wrap .i64 ((32:Int)+8)+wrap .i64 (↑(UInt8.toNat (List.getD oa (toNat (wrap .u8 (Int.fdiv z0 ((2:Int)^8)))) (0:UInt8))):Int)))) [] (Zi (dP x)) [])) (.bf ((0:Int)≤wrap .u8 z0∧wrap .u8 z0<256) (.out (Zi (wrap .i64 ((32:Int)+wrap .i64 (↑(UInt8.toNat (List.getD oa (toNat (wrap .u8 z0)) (0:UInt8))):Int)))) [] (Zi (dP x)) [])))) (.br (decide (x≥65536)) (.br (decide (Int.fdiv x ((2:Int)^16)≥256)) (.bf ((0:Int)≤wrap .u8 (Int.fdiv z1 ((2:Int)^8))∧wrap .u8 (Int.fdiv z1 ((2:Int)^8))<256) (.out (Zi (wrap .i64 (wrap .i64 (wrap .i64 ((0:Int)+16)+8)+wrap .i64 (↑(UInt8.toNat (List.getD oa (toNat (wrap .u8 (Int.fdiv z1 ((2:Int)^8)))) (0:UInt8))):Int)))) [] (Zi (dP x)) [])) (.bf ((0:Int)≤wrap .u8 z1∧wrap .u8 z1<256) (.out (Zi (wrap .i64 (wrap .i64 ((0:Int)+16)+wrap .i64 (↑(UInt8.toNat (List.getD oa (toNat (wrap .u8 z1)) (0:UInt8))):Int)))) [] (Zi (dP x)) []))) (.br (decide (x≥256)) (.bf ((0:Int)≤wrap .u8 z2∧wrap .u8 z2<256) (.out (Zi (wrap .i64 (wrap .i64 ((0:Int)+8)+wrap .i64 (↑(UInt8.toNat (List.getD oa (toNat (wrap .u8 z2)) (0:UInt8))):Int)))) [] (Zi (dP x)) [])) (.bf ((0:Int)≤wrap .u8 x∧wrap .u8 x<256) (.out (Zi (wrap .i64 ((0:Int)+wrap .i64 (↑(UInt8.toNat (List.getD oa (toNat (wrap .u8 x)) (0:UInt8))):Int)))) [] (Zi (dP x)) []))))))
  (by kernel_rfl) ?_
 refine aL (fun h0=>?_) (fun h0=>?_)
 ·have g0:=af h0
  refine aL (fun h1=>?_) (fun h1=>?_)
  ·have g1:=af h1
   refine aL (fun h2=>?_) (fun h2=>?_)
   ·have g2:=af h2
    refine aD (by (try simp only [ib,ic,lC] at *);rw [wu8 (by omega) (by omega)];exact ⟨by omega,by omega⟩) ?_
    exact aq (aw.of_eq (congrArg _ (by
                                                                                                     try simp only [ib,ic,lC] at *
                                                                                                     refine Eq.trans (jh (by omega) (by omega) (by decide) (by decide)) ?_
                                                                                                     rw [eE (x:=x) 32 (by omega),eE (x:=(x / 2^32)) 16 (by omega),eE (x:=((x / 2^32) / 2^16)) 8 (by omega)];(try rw [show IntKind.wrap .i64 ((32:Int)+16)=48 from by decide]);(try rw [show IntKind.wrap .i64 ((48:Int)+8)=56 from by decide]);(try rw [show IntKind.wrap .i64 ((32:Int)+8)=40 from by decide]);(try rw [show IntKind.wrap .i64 ((0:Int)+16)=16 from by decide]);(try rw [show IntKind.wrap .i64 ((16:Int)+8)=24 from by decide]);(try rw [show IntKind.wrap .i64 ((0:Int)+8)=8 from by decide]);omega)))
   ·have g2:=aa h2
    refine aD (by (try simp only [ib,ic,lC] at *);rw [wu8 (by omega) (by omega)];exact ⟨by omega,by omega⟩) ?_
    exact aq (aw.of_eq (congrArg _ (by
                                                                                                     try simp only [ib,ic,lC] at *
                                                                                                     refine Eq.trans (jh (by omega) (by omega) (by decide) (by decide)) ?_
                                                                                                     rw [eE (x:=x) 32 (by omega),eE (x:=(x / 2^32)) 16 (by omega)];(try rw [show IntKind.wrap .i64 ((32:Int)+16)=48 from by decide]);(try rw [show IntKind.wrap .i64 ((48:Int)+8)=56 from by decide]);(try rw [show IntKind.wrap .i64 ((32:Int)+8)=40 from by decide]);(try rw [show IntKind.wrap .i64 ((0:Int)+16)=16 from by decide]);(try rw [show IntKind.wrap .i64 ((16:Int)+8)=24 from by decide]);(try rw [show IntKind.wrap .i64 ((0:Int)+8)=8 from by decide]);omega)))
  ·have g1:=aa h1
   refine aL (fun h7=>?_) (fun h7=>?_)
   ·have g7:=af h7
    refine aD (by (try simp only [ib,ic,lC] at *);rw [wu8 (by omega) (by omega)];exact ⟨by omega,by omega⟩) ?_
    exact aq (aw.of_eq (congrArg _ (by
                                                                                                     try simp only [ib,ic,lC] at *
                                                                                                     refine Eq.trans (jh (by omega) (by omega) (by decide) (by decide)) ?_
                                                                                                     rw [eE (x:=x) 32 (by omega),eE (x:=(x / 2^32)) 8 (by omega)];(try rw [show IntKind.wrap .i64 ((32:Int)+16)=48 from by decide]);(try rw [show IntKind.wrap .i64 ((48:Int)+8)=56 from by decide]);(try rw [show IntKind.wrap .i64 ((32:Int)+8)=40 from by decide]);(try rw [show IntKind.wrap .i64 ((0:Int)+16)=16 from by decide]);(try rw [show IntKind.wrap .i64 ((16:Int)+8)=24 from by decide]);(try rw [show IntKind.wrap .i64 ((0:Int)+8)=8 from by decide]);omega)))
   ·have g7:=aa h7
    refine aD (by (try simp only [ib,ic,lC] at *);rw [wu8 (by omega) (by omega)];exact ⟨by omega,by omega⟩) ?_
    exact aq (aw.of_eq (congrArg _ (by
                                                                                                     try simp only [ib,ic,lC] at *
                                                                                                     refine Eq.trans (jh (by omega) (by omega) (by decide) (by decide)) ?_
                                                                                                     rw [eE (x:=x) 32 (by omega)];(try rw [show IntKind.wrap .i64 ((32:Int)+16)=48 from by decide]);(try rw [show IntKind.wrap .i64 ((48:Int)+8)=56 from by decide]);(try rw [show IntKind.wrap .i64 ((32:Int)+8)=40 from by decide]);(try rw [show IntKind.wrap .i64 ((0:Int)+16)=16 from by decide]);(try rw [show IntKind.wrap .i64 ((16:Int)+8)=24 from by decide]);(try rw [show IntKind.wrap .i64 ((0:Int)+8)=8 from by decide]);omega)))
 ·have g0:=aa h0
  refine aL (fun h12=>?_) (fun h12=>?_)
  ·have g12:=af h12
   refine aL (fun h13=>?_) (fun h13=>?_)
   ·have g13:=af h13
    refine aD (by (try simp only [ib,ic,lC] at *);rw [wu8 (by omega) (by omega)];exact ⟨by omega,by omega⟩) ?_
    exact aq (aw.of_eq (congrArg _ (by
                                                                                                     try simp only [ib,ic,lC] at *
                                                                                                     refine Eq.trans (jh (by omega) (by omega) (by decide) (by decide)) ?_
                                                                                                     rw [eE (x:=x) 16 (by omega),eE (x:=(x / 2^16)) 8 (by omega)];(try rw [show IntKind.wrap .i64 ((32:Int)+16)=48 from by decide]);(try rw [show IntKind.wrap .i64 ((48:Int)+8)=56 from by decide]);(try rw [show IntKind.wrap .i64 ((32:Int)+8)=40 from by decide]);(try rw [show IntKind.wrap .i64 ((0:Int)+16)=16 from by decide]);(try rw [show IntKind.wrap .i64 ((16:Int)+8)=24 from by decide]);(try rw [show IntKind.wrap .i64 ((0:Int)+8)=8 from by decide]);omega)))
   ·have g13:=aa h13
    refine aD (by (try simp only [ib,ic,lC] at *);rw [wu8 (by omega) (by omega)];exact ⟨by omega,by omega⟩) ?_
    exact aq (aw.of_eq (congrArg _ (by
                                                                                                     try simp only [ib,ic,lC] at *
                                                                                                     refine Eq.trans (jh (by omega) (by omega) (by decide) (by decide)) ?_
                                                                                                     rw [eE (x:=x) 16 (by omega)];(try rw [show IntKind.wrap .i64 ((32:Int)+16)=48 from by decide]);(try rw [show IntKind.wrap .i64 ((48:Int)+8)=56 from by decide]);(try rw [show IntKind.wrap .i64 ((32:Int)+8)=40 from by decide]);(try rw [show IntKind.wrap .i64 ((0:Int)+16)=16 from by decide]);(try rw [show IntKind.wrap .i64 ((16:Int)+8)=24 from by decide]);(try rw [show IntKind.wrap .i64 ((0:Int)+8)=8 from by decide]);omega)))
  ·have g12:=aa h12
   refine aL (fun h18=>?_) (fun h18=>?_)
   ·have g18:=af h18
    refine aD (by (try simp only [ib,ic,lC] at *);rw [wu8 (by omega) (by omega)];exact ⟨by omega,by omega⟩) ?_
    exact aq (aw.of_eq (congrArg _ (by
                                                                                                     try simp only [ib,ic,lC] at *
                                                                                                     refine Eq.trans (jh (by omega) (by omega) (by decide) (by decide)) ?_
                                                                                                     rw [eE (x:=x) 8 (by omega)];(try rw [show IntKind.wrap .i64 ((32:Int)+16)=48 from by decide]);(try rw [show IntKind.wrap .i64 ((48:Int)+8)=56 from by decide]);(try rw [show IntKind.wrap .i64 ((32:Int)+8)=40 from by decide]);(try rw [show IntKind.wrap .i64 ((0:Int)+16)=16 from by decide]);(try rw [show IntKind.wrap .i64 ((16:Int)+8)=24 from by decide]);(try rw [show IntKind.wrap .i64 ((0:Int)+8)=8 from by decide]);omega)))
   ·have g18:=aa h18
    refine aD (by (try simp only [ib,ic,lC] at *);rw [wu8 (by omega) (by omega)];exact ⟨by omega,by omega⟩) ?_
    exact aq (aw.of_eq (congrArg _ (by
                                                                                                     try simp only [ib,ic,lC] at *
                                                                                                     refine Eq.trans (jh (by omega) (by omega) (by decide) (by decide)) ?_
                                                                                                     omega)))
theorem LX (x:Int) (h:0≤x) (h':x<18446744073709551616):Pure Tryz.prog aW 304 [.int .u64 x] (.int .i64 (64 - dP x)):=by
 refine ar (own:=bk) Tryz.func304 (by kernel_rfl) mixed (by kernel_rfl)
  (.sc true 331 [Zu x] (Zi (dP x)) (.out (Zi (wrap .i64 ((64:Int) - dP x))) [] (Zi ((64:Int) - dP x)) []))
  (by kernel_rfl) ?_
 refine aM (Ih (x) (by assumption) (by assumption)) ?_
 exact aq (aw.of_eq (congrArg _ (wI (by have:=uB h h';omega) (by have:=uB h h';omega))))
theorem yB (x y z:Int) (hv:Div x y z):Pure Tryz.prog aW 252 [.int .u64 x,.int .u64 y,.int .u64 z] (.aT [.int .u64 ((x*18446744073709551616+y) / z),.int .u64 ((x*18446744073709551616+y)%z)]):=by
 have hx0:=hv.x0
 have hxz:=hv.xz
 have hz1:=hv.z1
 have hy0:=hv.y0
 have hy1:=hv.y1
 have hs:=hv.sh
 have d1:=hv.Db
 have d2:=hv.Ah
 have a1:=d1.a
 have hd0:=d1.d0
 have hd1:=d1.d1
 have he0:=d2.d0
 have he1:=d2.d1
 refine ar (own:=bk) Tryz.func252 (by kernel_rfl) mixed (by kernel_rfl)
  (let z15:Int:=(4294967296:Int);let z14:Int:=(wrap .u64 ((64:Int) - dP z));let z13:=(x*18446744073709551616+y);let z12:=(dY z / 4294967296≠(0:Int));let z11:=(dQ x y z*4294967296);let z10:=(kX x y z / 4294967296);let z8:Int:=(wrap .u64 (dR x y z*4294967296)+kX x y z%4294967296);let z7:=(fun (s:Int×Int)=>toNat (Prod.fst s));let z6:Int:=(↑(jC z):Int);let z5:=(kX x y z%4294967296);let z4:=(dY z%4294967296);let z3:Int:=(wrap .u64 (tH x y z*4294967296)+kX x y z / 4294967296);let z2:=(dY z / 4294967296);let z1:={ x_1:Int×Int // (fun (s:Int×Int)=>ox z2 z4 (tH x y z) z10 (Prod.fst s) (Prod.snd s)∧Prod.snd s<4294967296) x_1 };let z0:={ x_1:Int×Int // (fun (s:Int×Int)=>ox z2 z4 (dR x y z) z5 (Prod.fst s) (Prod.snd s)∧Prod.snd s<4294967296) x_1 };let y0:Nat:=(toNat z14);let y1:AV:=(.aT [Zu (z13 / z),Zu (z13%z)]);let y2:Nat:=(toNat (wrap .u64 ((64:Int) - wrap .u64 ((64:Int) - dP z))));let y3:Nat:=(toNat z6);(.br (z==0) .no (.br (decide (z≤x)) .no (.br (x==0) (.bf (z≠(0:Int)) (.bf (z≠(0:Int)) (.out (.aT [Zu (wrap .u64 (Int.tdiv y z)),Zu (Int.tmod y z)]) [] y1 []))) (.sc true 304 [Zu z] (Zi ((64:Int) - dP z)) (.bf ((0:Int)≤wrap .u64 ((64:Int) - dP z)) (.bf ((0:Int)≤wrap .u64 ((64:Int) - dP z)) (.bf ((0:Int)≤wrap .u64 ((64:Int) - wrap .u64 ((64:Int) - dP z))) (.bf ((0:Int)≤wrap .u64 ((64:Int) - dP z)) (.bf (Int.fdiv (wrap .u64 (z*2^min y0 64)) ((2:Int)^32)≠(0:Int)) (.loop (z1) (fun (x_1:z1)=>aY [2,8,9,10,14,11,13,15,16] [Zu (dY z),Zu z6,Zu z2,Zu z4,Zu z5,Zu (tH x y z),Zu z10,Zu (Prod.fst (Subtype.val x_1)),Zu (Prod.snd (Subtype.val x_1))] []) (fun (x_1:z1)=>z7 (Subtype.val x_1)) (⟨(tH x y z / z2,tH x y z - tH x y z / z2*z2),my.init (Div.Db hv)⟩) [2,8,9,10,14,11,13,15,16] [] [Zu (wrap .u64 (z*2^min y0 64)),Zu z14,Zu (Int.fdiv (wrap .u64 (z*2^min y0 64)) ((2:Int)^32)),Zu (wrap .u64 (↑(BitVec.toNat (BitVec.ofInt 64 (wrap .u64 (z*2^min y0 64)) &&& BitVec.ofInt 64 (4294967295:Int))):Int)),Zu (wrap .u64 (↑(BitVec.toNat (BitVec.ofInt 64 (wrap .u64 (y*2^min y0 64)) &&& BitVec.ofInt 64 (4294967295:Int))):Int)),Zu (wrap .u64 (↑(BitVec.toNat (BitVec.ofInt 64 (wrap .u64 (x*2^min y0 64)) ||| BitVec.ofInt 64 (Int.fdiv y ((2:Int)^min y2 64)))):Int)),Zu (Int.fdiv (wrap .u64 (y*2^min y0 64)) ((2:Int)^32)),Zu (wrap .u64 (Int.tdiv (wrap .u64 (↑(BitVec.toNat (BitVec.ofInt 64 (wrap .u64 (x*2^min y0 64)) ||| BitVec.ofInt 64 (Int.fdiv y ((2:Int)^min y2 64)))):Int)) (Int.fdiv (wrap .u64 (z*2^min y0 64)) ((2:Int)^32)))),Zu (wrap .u64 (wrap .u64 (↑(BitVec.toNat (BitVec.ofInt 64 (wrap .u64 (x*2^min y0 64)) ||| BitVec.ofInt 64 (Int.fdiv y ((2:Int)^min y2 64)))):Int) - wrap .u64 (wrap .u64 (Int.tdiv (wrap .u64 (↑(BitVec.toNat (BitVec.ofInt 64 (wrap .u64 (x*2^min y0 64)) ||| BitVec.ofInt 64 (Int.fdiv y ((2:Int)^min y2 64)))):Int)) (Int.fdiv (wrap .u64 (z*2^min y0 64)) ((2:Int)^32)))*Int.fdiv (wrap .u64 (z*2^min y0 64)) ((2:Int)^32))))] [] (fun x14=>let z9:Int:=(wrap .u64 ((x14.1).1 - 1)*dY z);(.br (decide ((x14.1).1≥4294967296)||decide (wrap .u64 ((x14.1).1*z4)>wrap .u64 (wrap .u64 (z15*(x14.1).2)+kX x y z / 4294967296))) (.br (decide (wrap .u64 ((x14.1).2+dY z / 4294967296)≥4294967296)) (.bf z12 (.loop (z0) (fun (x_1:z0)=>aY [2,8,9,10,14,15,17,18,16] [Zu (dY z),Zu z6,Zu z2,Zu z4,Zu z5,Zu (dQ x y z),Zu (dR x y z),Zu (Prod.fst (Subtype.val x_1)),Zu (Prod.snd (Subtype.val x_1))] []) (fun (x_1:z0)=>z7 (Subtype.val x_1)) (⟨(dR x y z / z2,dR x y z - dR x y z / z2*z2),my.init (Div.Ah hv)⟩) [2,8,9,10,14,15,17,18,16] [] [Zu (dY z),Zu z6,Zu z2,Zu z4,Zu z5,Zu (wrap .u64 ((x14.1).1 - 1)),Zu (wrap .u64 (wrap .u64 z3 - wrap .u64 z9)),Zu (wrap .u64 (Int.tdiv (wrap .u64 (wrap .u64 z3 - wrap .u64 z9)) z2)),Zu (wrap .u64 (wrap .u64 (wrap .u64 z3 - wrap .u64 z9) - wrap .u64 (wrap .u64 (Int.tdiv (wrap .u64 (wrap .u64 z3 - wrap .u64 z9)) z2)*z2)))] [] (fun x18=>(.br (decide ((x18.1).1≥4294967296)||decide (wrap .u64 ((x18.1).1*z4)>wrap .u64 (wrap .u64 (z15*(x18.1).2)+kX x y z%4294967296))) (.br (decide (wrap .u64 ((x18.1).2+dY z / 4294967296)≥4294967296)) (.bf (0≤z6) (.out (.aT [Zu (wrap .u64 (wrap .u64 z11+wrap .u64 ((x18.1).1 - 1))),Zu (Int.fdiv (wrap .u64 (wrap .u64 z8 - wrap .u64 (wrap .u64 ((x18.1).1 - 1)*dY z))) ((2:Int)^min y3 64))]) [] y1 [])) (.again (be 0 (fun (x_1:z0)=>aY [2,8,9,10,14,15,17,18,16] [Zu (dY z),Zu z6,Zu z2,Zu z4,Zu z5,Zu (dQ x y z),Zu (dR x y z),Zu (Prod.fst (Subtype.val x_1)),Zu (Prod.snd (Subtype.val x_1))] []) (fun (x_1:z0)=>z7 (Subtype.val x_1)) x18) [2,8,9,10,14,15,17,18,16] [] [Zu (dY z),Zu z6,Zu z2,Zu z4,Zu z5,Zu (dQ x y z),Zu (dR x y z),Zu (wrap .u64 ((x18.1).1 - 1)),Zu (wrap .u64 ((x18.1).2+dY z / 4294967296))] [])) (.bf (0≤z6) (.out (.aT [Zu (wrap .u64 (wrap .u64 z11+(x18.1).1)),Zu (Int.fdiv (wrap .u64 (wrap .u64 z8 - wrap .u64 ((x18.1).1*dY z))) ((2:Int)^min y3 64))]) [] y1 [])))))) (.again (be 0 (fun (x_1:z1)=>aY [2,8,9,10,14,11,13,15,16] [Zu (dY z),Zu z6,Zu z2,Zu z4,Zu z5,Zu (tH x y z),Zu z10,Zu (Prod.fst (Subtype.val x_1)),Zu (Prod.snd (Subtype.val x_1))] []) (fun (x_1:z1)=>z7 (Subtype.val x_1)) x14) [2,8,9,10,14,11,13,15,16] [] [Zu (dY z),Zu z6,Zu z2,Zu z4,Zu z5,Zu (tH x y z),Zu z10,Zu (wrap .u64 ((x14.1).1 - 1)),Zu (wrap .u64 ((x14.1).2+dY z / 4294967296))] [])) (.bf z12 (.loop (z0) (fun (x_1:z0)=>aY [2,8,9,10,14,15,17,18,16] [Zu (dY z),Zu z6,Zu z2,Zu z4,Zu z5,Zu (dQ x y z),Zu (dR x y z),Zu (Prod.fst (Subtype.val x_1)),Zu (Prod.snd (Subtype.val x_1))] []) (fun (x_1:z0)=>z7 (Subtype.val x_1)) (⟨(dR x y z / z2,dR x y z - dR x y z / z2*z2),my.init (Div.Ah hv)⟩) [2,8,9,10,14,15,17,18,16] [] [Zu (dY z),Zu z6,Zu z2,Zu z4,Zu z5,Zu (x14.1).1,Zu (wrap .u64 (wrap .u64 z3 - wrap .u64 ((x14.1).1*dY z))),Zu (wrap .u64 (Int.tdiv (wrap .u64 (wrap .u64 z3 - wrap .u64 ((x14.1).1*dY z))) z2)),Zu (wrap .u64 (wrap .u64 (wrap .u64 z3 - wrap .u64 ((x14.1).1*dY z)) - wrap .u64 (wrap .u64 (Int.tdiv (wrap .u64 (wrap .u64 z3 - wrap .u64 ((x14.1).1*dY z))) z2)*z2)))] [] (fun x28=>(.br (decide ((x28.1).1≥4294967296)||decide (wrap .u64 ((x28.1).1*z4)>wrap .u64 (wrap .u64 (z15*(x28.1).2)+kX x y z%4294967296))) (.br (decide (wrap .u64 ((x28.1).2+dY z / 4294967296)≥4294967296)) (.bf (0≤z6) (.out (.aT [Zu (wrap .u64 (wrap .u64 z11+wrap .u64 ((x28.1).1 - 1))),Zu (Int.fdiv (wrap .u64 (wrap .u64 z8 - wrap .u64 (wrap .u64 ((x28.1).1 - 1)*dY z))) ((2:Int)^min y3 64))]) [] y1 [])) (.again (be 0 (fun (x_1:z0)=>aY [2,8,9,10,14,15,17,18,16] [Zu (dY z),Zu z6,Zu z2,Zu z4,Zu z5,Zu (dQ x y z),Zu (dR x y z),Zu (Prod.fst (Subtype.val x_1)),Zu (Prod.snd (Subtype.val x_1))] []) (fun (x_1:z0)=>z7 (Subtype.val x_1)) x28) [2,8,9,10,14,15,17,18,16] [] [Zu (dY z),Zu z6,Zu z2,Zu z4,Zu z5,Zu (dQ x y z),Zu (dR x y z),Zu (wrap .u64 ((x28.1).1 - 1)),Zu (wrap .u64 ((x28.1).2+dY z / 4294967296))] [])) (.bf (0≤z6) (.out (.aT [Zu (wrap .u64 (wrap .u64 z11+(x28.1).1)),Zu (Int.fdiv (wrap .u64 (wrap .u64 z8 - wrap .u64 ((x28.1).1*dY z))) ((2:Int)^min y3 64))]) [] y1 [])))))))))))))))))))
  (by kernel_rfl) ?_
 refine aL (fun h0=>?_) (fun h0=>?_)
 ·have g0:=ai h0
  exact (show False from (by exfalso;omega))
 ·have g0:=ao h0
  refine aL (fun h2=>?_) (fun h2=>?_)
  ·have g2:=af h2
   exact (show False from (by exfalso;omega))
  ·have g2:=aa h2
   refine aL (fun h4=>?_) (fun h4=>?_)
   ·have g4:=ai h4
    refine aD (by omega) ?_
    refine aD (by omega) ?_
    exact aq (aw.aT ⟨aw.of_eq (congrArg _ (by subst g4;rw [mn hy0,dx (Int.ediv_nonneg hy0 (by omega)) (Int.lt_of_le_of_lt (Int.ediv_le_self _ hy0) hy1)];simp)),aw.of_eq (congrArg _ (by subst g4;rw [bY hy0];simp)),trivial⟩)
   ·have g4:=ao h4
    refine aM (LX (z) (by omega) (by assumption)) ?_
    refine aD (by rw [hv.s];omega) ?_
    refine aD (by rw [hv.s];omega) ?_
    refine aD (by rw [hv.s,dx (by omega) (by omega)];omega) ?_
    refine aD (by rw [hv.s];omega) ?_
    refine aD (by rw [hv.v2,dt];omega) ?_
    refine aU (fun _ hs=>hs.le (⟨aw.of_eq (congrArg _ hv.v2),aw.of_eq (congrArg _ hv.s),aw.of_eq (congrArg _ (by rw [hv.v2,dt];rfl)),aw.of_eq (congrArg _ (by rw [hv.v2,oX (by omega) (by omega)])),aw.of_eq (congrArg _ (by rw [hv.v10,oX (by unfold kX;omega) (by unfold kX;omega)])),aw.of_eq (congrArg _ hv.v11),aw.of_eq (congrArg _ (by rw [hv.v10,dt];rfl)),aw.of_eq (congrArg _ (by rw [hv.v11,hv.v2,dt];exact d1.q_w)),aw.of_eq (congrArg _ (by rw [hv.v11,hv.v2,dt];exact d1.r_w)),trivial⟩) (trivial)) (fun x14=>?_)
    try (have q14:=x14.2;dsimp only at q14)
    refine aL (fun h15=>?_) (fun h15=>?_)
    ·have g15:=(az af af) h15
     refine aL (fun h16=>?_) (fun h16=>?_)
     ·have g16:=af h16
      refine aD (by omega) ?_
      refine aU (fun _ hs=>hs.le (⟨.refl _,.refl _,.refl _,.refl _,.refl _,aw.of_eq (congrArg _ ((x14.2.1.tU d1 x14.2.2 g15 g16).trans (Sp.Div.mY z))),aw.of_eq (congrArg _ (hv.Be ((x14.2.1.tU d1 x14.2.2 g15 g16).trans (Sp.Div.mY z)))),aw.of_eq (congrArg _ (by rw [hv.Be ((x14.2.1.tU d1 x14.2.2 g15 g16).trans (Sp.Div.mY z))];exact d2.q_w)),aw.of_eq (congrArg _ (by rw [hv.Be ((x14.2.1.tU d1 x14.2.2 g15 g16).trans (Sp.Div.mY z))];exact d2.r_w)),trivial⟩) (trivial)) (fun x18=>?_)
      try (have q18:=x18.2;dsimp only at q18)
      refine aL (fun h19=>?_) (fun h19=>?_)
      ·have g19:=(az af af) h19
       refine aL (fun h20=>?_) (fun h20=>?_)
       ·have g20:=af h20
        refine aD (by omega) ?_
        exact aq (aw.aT ⟨aw.of_eq (congrArg _ (hv.out (x18.2.1.tU d2 x18.2.2 g19 g20)).1),aw.of_eq (congrArg _ (hv.out (x18.2.1.tU d2 x18.2.2 g19 g20)).2),trivial⟩)
       ·have g20:=aa h20
        exact aN (⟨(x18.1.1 - 1,x18.1.2+dY z / 4294967296),x18.2.1.C1 d2 x18.2.2 g19 g20⟩) (fun _ hs=>hs.le (⟨.refl _,.refl _,.refl _,.refl _,.refl _,.refl _,.refl _,aw.of_eq (congrArg _ (x18.2.1.od d2 x18.2.2 g19).1),aw.of_eq (congrArg _ (x18.2.1.od d2 x18.2.2 g19).2),trivial⟩) (trivial)) (by have:=x18.2.1.more d2 (x18.2.1.nk d2 x18.2.2 g19);show toNat (x18.1.1 - 1)<toNat x18.1.1;omega)
      ·have g19:=(au aa aa) h19
       refine aD (by omega) ?_
       exact aq (aw.aT ⟨aw.of_eq (congrArg _ (hv.out (x18.2.1.stop d2 (x18.2.1.ky d2 x18.2.2 g19))).1),aw.of_eq (congrArg _ (hv.out (x18.2.1.stop d2 (x18.2.1.ky d2 x18.2.2 g19))).2),trivial⟩)
     ·have g16:=aa h16
      exact aN (⟨(x14.1.1 - 1,x14.1.2+dY z / 4294967296),x14.2.1.C1 d1 x14.2.2 g15 g16⟩) (fun _ hs=>hs.le (⟨.refl _,.refl _,.refl _,.refl _,.refl _,.refl _,.refl _,aw.of_eq (congrArg _ (x14.2.1.od d1 x14.2.2 g15).1),aw.of_eq (congrArg _ (x14.2.1.od d1 x14.2.2 g15).2),trivial⟩) (trivial)) (by have:=x14.2.1.more d1 (x14.2.1.nk d1 x14.2.2 g15);show toNat (x14.1.1 - 1)<toNat x14.1.1;omega)
    ·have g15:=(au aa aa) h15
     refine aD (by omega) ?_
     refine aU (fun _ hs=>hs.le (⟨.refl _,.refl _,.refl _,.refl _,.refl _,aw.of_eq (congrArg _ ((x14.2.1.stop d1 (x14.2.1.ky d1 x14.2.2 g15)).trans (Sp.Div.mY z))),aw.of_eq (congrArg _ (hv.Be ((x14.2.1.stop d1 (x14.2.1.ky d1 x14.2.2 g15)).trans (Sp.Div.mY z)))),aw.of_eq (congrArg _ (by rw [hv.Be ((x14.2.1.stop d1 (x14.2.1.ky d1 x14.2.2 g15)).trans (Sp.Div.mY z))];exact d2.q_w)),aw.of_eq (congrArg _ (by rw [hv.Be ((x14.2.1.stop d1 (x14.2.1.ky d1 x14.2.2 g15)).trans (Sp.Div.mY z))];exact d2.r_w)),trivial⟩) (trivial)) (fun x28=>?_)
     try (have q28:=x28.2;dsimp only at q28)
     refine aL (fun h29=>?_) (fun h29=>?_)
     ·have g29:=(az af af) h29
      refine aL (fun h30=>?_) (fun h30=>?_)
      ·have g30:=af h30
       refine aD (by omega) ?_
       exact aq (aw.aT ⟨aw.of_eq (congrArg _ (hv.out (x28.2.1.tU d2 x28.2.2 g29 g30)).1),aw.of_eq (congrArg _ (hv.out (x28.2.1.tU d2 x28.2.2 g29 g30)).2),trivial⟩)
      ·have g30:=aa h30
       exact aN (⟨(x28.1.1 - 1,x28.1.2+dY z / 4294967296),x28.2.1.C1 d2 x28.2.2 g29 g30⟩) (fun _ hs=>hs.le (⟨.refl _,.refl _,.refl _,.refl _,.refl _,.refl _,.refl _,aw.of_eq (congrArg _ (x28.2.1.od d2 x28.2.2 g29).1),aw.of_eq (congrArg _ (x28.2.1.od d2 x28.2.2 g29).2),trivial⟩) (trivial)) (by have:=x28.2.1.more d2 (x28.2.1.nk d2 x28.2.2 g29);show toNat (x28.1.1 - 1)<toNat x28.1.1;omega)
     ·have g29:=(au aa aa) h29
      refine aD (by omega) ?_
      exact aq (aw.aT ⟨aw.of_eq (congrArg _ (hv.out (x28.2.1.stop d2 (x28.2.1.ky d2 x28.2.2 g29))).1),aw.of_eq (congrArg _ (hv.out (x28.2.1.stop d2 (x28.2.1.ky d2 x28.2.2 g29))).2),trivial⟩)
theorem tJ (a b n:Int) (ha:0≤a) (ha':a<18446744073709551616) (hb:0≤b) (hb':b<18446744073709551616) (hn:n<18446744073709551616) (hab:a*b<n*18446744073709551616):Pure Tryz.prog aW 249 [.int .u64 a,.int .u64 b,.int .u64 n] (.int .u64 (a*b%n)):=by
 have h0:=Int.mul_nonneg ha hb
 refine ar (own:=bk) Tryz.func249 (by kernel_rfl) mixed (by kernel_rfl)
  (let z2:=(a*b%18446744073709551616);let z1:=(a*b / 18446744073709551616);let z0:=(a*b / 18446744073709551616*18446744073709551616+a*b%18446744073709551616);(.sc true 251 [Zu a,Zu b] (.aT [Zu z1,Zu z2]) (.sc true 252 [Zu z1,Zu z2,Zu n] (.aT [Zu (z0 / n),Zu (z0%n)]) (.out (Zu (z0%n)) [] (Zu (a*b%n)) []))))
  (by kernel_rfl) ?_
 refine aM (xJ (a) (b) (by assumption) (by assumption) (by assumption) (by assumption)) ?_
 refine aM (yB (a*b / (18446744073709551616:Int)) (a*b%(18446744073709551616:Int)) (n) (⟨by omega,by omega,by omega,by omega,by omega⟩)) ?_
 exact aq (aw.of_eq (congrArg _ (by rw [show a*b / 18446744073709551616*18446744073709551616+a*b%18446744073709551616=a*b by omega])))
theorem L6 (a e n:Int) (ha:0≤a) (ha':a<n) (he:0≤e) (he':e<18446744073709551616) (hn:2≤n) (hn':n<18446744073709551616):Pure Tryz.prog aW 248 [.int .u64 a,.int .u64 e,.int .u64 n] (.int .u64 (a^e.toNat%n)):=by
 refine ar (own:=bk) Tryz.func248 (by kernel_rfl) mixed (by kernel_rfl)
  (let z2:=(fun (s:Int×Int×Int)=>toNat (Prod.snd (Prod.snd s)));let z0:={ x:Int×Int×Int // (fun (s:Int×Int×Int)=>l8 a (toNat e) n s∧Prod.snd (Prod.snd s)<18446744073709551616) x };(.loop (z0) (fun (x:z0)=>aY [2,7,0,1] [Zu n,Zu (Prod.fst (x.1)),Zu (Prod.fst (Prod.snd (x.1))),Zu (Prod.snd (Prod.snd (x.1)))] []) (fun (x:z0)=>z2 (x.1)) (⟨((1:Int)%n,a,e),⟨l8.start ha ha' he,he'⟩⟩) [2,7,0,1] [] [Zu n,Zu 1,Zu a,Zu e] [] (fun x0=>let z1:=(Prod.snd (x0.1));(.br (decide (z1.2>0)) (.br (wrap .u64 (↑(BitVec.toNat (BitVec.ofInt 64 z1.2 &&& BitVec.ofInt 64 (1:Int))):Int)==1) (.sc true 249 [Zu (x0.1).1,Zu z1.1,Zu n] (Zu ((x0.1).1*z1.1%n)) (.sc true 249 [Zu z1.1,Zu z1.1,Zu n] (Zu (z1.1*z1.1%n)) (.again (be 0 (fun (x:z0)=>aY [2,7,0,1] [Zu n,Zu (Prod.fst (x.1)),Zu (Prod.fst (Prod.snd (x.1))),Zu (Prod.snd (Prod.snd (x.1)))] []) (fun (x:z0)=>z2 (x.1)) x0) [2,7,0,1] [] [Zu n,Zu ((x0.1).1*z1.1%n),Zu (z1.1*z1.1%n),Zu (Int.fdiv z1.2 ((2:Int)^1))] []))) (.sc true 249 [Zu z1.1,Zu z1.1,Zu n] (Zu (z1.1*z1.1%n)) (.again (be 0 (fun (x:z0)=>aY [2,7,0,1] [Zu n,Zu (Prod.fst (x.1)),Zu (Prod.fst (Prod.snd (x.1))),Zu (Prod.snd (Prod.snd (x.1)))] []) (fun (x:z0)=>z2 (x.1)) x0) [2,7,0,1] [] [Zu n,Zu (x0.1).1,Zu (z1.1*z1.1%n),Zu (Int.fdiv z1.2 ((2:Int)^1))] []))) (.out (Zu (x0.1).1) [] (Zu (a^toNat e%n)) [])))))
  (by kernel_rfl) ?_
 refine aU (fun _ hs=>hs.le (⟨.refl _,aw.of_eq (congrArg _ (Int.emod_eq_of_lt (by omega) (by omega)).symm),.refl _,.refl _,trivial⟩) (trivial)) (fun x0=>?_)
 try (have q0:=x0.2;dsimp only at q0)
 have i0:=x0.2.1.x0;have i1:=x0.2.1.x1;have i2:=x0.2.1.a0;have i3:=x0.2.1.a1;have i4:=x0.2.1.e0;have i5:=x0.2.2;dsimp only at i0 i1 i2 i3 i4 i5;have b0:=PM i4 i5
 refine aL (fun h1=>?_) (fun h1=>?_)
 ·have g1:=af h1
  refine aL (fun h2=>?_) (fun h2=>?_)
  ·have g2:=ai h2
   refine aM (tJ ((x0.1).1) ((Prod.snd (x0.1)).1) (n) (by assumption) (by omega) (by assumption) (by omega) (by assumption) (by exact mA (by omega) (by omega) (by omega) (by omega))) ?_
   refine aM (tJ ((Prod.snd (x0.1)).1) ((Prod.snd (x0.1)).1) (n) (by assumption) (by omega) (by assumption) (by omega) (by assumption) (by exact mA (by omega) (by omega) (by omega) (by omega))) ?_
   exact aN (⟨(x0.1.1*x0.1.2.1%n,x0.1.2.1*x0.1.2.1%n,x0.1.2.2 / 2),x0.2.1.BI (by omega) (b0.symm.trans g2),by dsimp only;omega⟩) (fun _ hs=>hs.le (⟨.refl _,.refl _,.refl _,aw.of_eq (congrArg _ (yJ _)),trivial⟩) (trivial)) (by show toNat (x0.1.2.2 / 2)<toNat x0.1.2.2;omega)
  ·have g2:=ao h2
   refine aM (tJ ((Prod.snd (x0.1)).1) ((Prod.snd (x0.1)).1) (n) (by assumption) (by omega) (by assumption) (by omega) (by assumption) (by exact mA (by omega) (by omega) (by omega) (by omega))) ?_
   exact aN (⟨(x0.1.1,x0.1.2.1*x0.1.2.1%n,x0.1.2.2 / 2),x0.2.1.uM (by omega) (by rw [b0] at g2;omega),by dsimp only;omega⟩) (fun _ hs=>hs.le (⟨.refl _,.refl _,.refl _,aw.of_eq (congrArg _ (yJ _)),trivial⟩) (trivial)) (by show toNat (x0.1.2.2 / 2)<toNat x0.1.2.2;omega)
 ·have g1:=aa h1
  exact aq (aw.of_eq (congrArg _ (x0.2.1.vO g1)))
theorem rp (a m:Int):Pure Tryz.prog aW 250 [.int .i64 a,.int .i64 m] (.bool (decide (a≥0)&&decide (a<m))):=by
 refine ar (own:=bk) Tryz.func250 (by kernel_rfl) mixed (by kernel_rfl)
  (let y0:AV:=(.bool (decide (a≥0)&&decide (a<m)));(.out y0 [] y0 []))
  (by kernel_rfl) ?_
 exact aq (aw.of_eq rfl)
theorem mI (a b m:Int):Pure Tryz.prog aW 175 [.int .i64 a,.int .i64 b,.int .i64 m] (.int .i64 (cW a b m)):=by
 refine ar (own:=bk) Tryz.func175 (by kernel_rfl) mixed (by kernel_rfl)
  (let z2:=(Zi (cW a b m));let z1:=(decide (b≥0)&&decide (b<m));let z0:=(decide (a≥0)&&decide (a<m));(.br (decide (m<1)||decide (m≥2305843009213693952)) (.out (Zi 1) [] z2 []) (.sc true 250 [Zi a,Zi m] (.bool z0) (.sc ((!z0)==false) 250 [Zi b,Zi m] (.bool z1) (.br (!z0 || !z1) (.out (Zi 2) [] z2 []) (.out (Zi 0) [] z2 []))))))
  (by kernel_rfl) ?_
 refine aL (fun h0=>?_) (fun h0=>?_)
 ·have g0:=(az af af) h0
  exact aq (aw.of_eq (congrArg _ (O2 g0).symm))
 ·have g0:=(au aa aa) h0
  refine aM (rp (a) (m)) ?_
  refine aV (fun h3=>rp (b) (m)) ?_
  refine aL (fun h4=>?_) (fun h4=>?_)
  ·have g4:=(az (aB (aj aa aa)) (aB (aj aa aa))) h4
   exact aq (aw.of_eq (congrArg _ (Nl g0 g4).symm))
  ·have g4:=(au (ay (ah af af)) (ay (ah af af))) h4
   exact aq (aw.of_eq (congrArg _ (Ni g0 g4).symm))
theorem oK (a b m:Int) (ha:0≤a) (ha':a<m) (hb:0≤b) (hb':b<m) (hm:m<2305843009213693952):Pure Tryz.prog aW 176 [.int .i64 a,.int .i64 b,.int .i64 m] (.int .i64 (a*b%m)):=by
 have e1:=dx (n:=a) (by omega) (by omega)
 have e2:=dx (n:=b) (by omega) (by omega)
 have e3:=dx (n:=m) (by omega) (by omega)
 have k:=NQ ha ha' hb hb' hm
 refine ar (own:=bk) Tryz.func176 (by kernel_rfl) mixed (by kernel_rfl)
  (let z2:Int:=(wrap .u64 a*wrap .u64 b%18446744073709551616);let z1:Int:=(wrap .u64 a*wrap .u64 b / 18446744073709551616);let z0:Int:=(wrap .u64 a*wrap .u64 b / 18446744073709551616*18446744073709551616+wrap .u64 a*wrap .u64 b%18446744073709551616);(.sc true 251 [Zu (wrap .u64 a),Zu (wrap .u64 b)] (.aT [Zu z1,Zu z2]) (.sc true 252 [Zu z1,Zu z2,Zu (wrap .u64 m)] (.aT [Zu (z0 / wrap .u64 m),Zu (z0%wrap .u64 m)]) (.out (Zi (wrap .i64 (z0%wrap .u64 m))) [] (Zi (a*b%m)) []))))
  (by kernel_rfl) ?_
 refine aM (xJ (wrap .u64 a) (wrap .u64 b) (by rw [e1];omega) (by rw [e1];omega) (by rw [e2];omega) (by rw [e2];omega)) ?_
 refine aM (yB (wrap .u64 a*wrap .u64 b / (18446744073709551616:Int)) (wrap .u64 a*wrap .u64 b%(18446744073709551616:Int)) (wrap .u64 m) (⟨by rw [e1,e2];omega,by rw [e1,e2,e3];omega,by rw [e3];omega,by omega,by omega⟩)) ?_
 exact aq (aw.of_eq (congrArg _ (by rw [e1,e2,e3,show a*b / 18446744073709551616*18446744073709551616+a*b%18446744073709551616=a*b by omega];have:=Int.emod_nonneg (a*b) (show m≠0 by omega);have:=Int.emod_lt_of_pos (a*b) (show 0<m by omega);exact wI (by omega) (by omega))))
theorem J5 (a b m:Int):Pure Tryz.prog aW 308 [.int .i64 a,.int .i64 b,.int .i64 m] (.aT [.int .i64 (lQ (cW a b m) ((a+b)%m)),.int .i64 (cW a b m)]):=by
 refine ar (own:=bk) Tryz.func308 (by kernel_rfl) mixed (by kernel_rfl)
  (let y0:AV:=(.aT [Zi (lQ (cW a b m) ((a+b)%m)),Zi (cW a b m)]);(.sc true 175 [Zi a,Zi b,Zi m] (Zi (cW a b m)) (.br (cW a b m != 0) (.out (.aT [Zi 0,Zi (cW a b m)]) [] y0 []) (.bf (m≠(0:Int)) (.out (.aT [Zi (Int.tmod (wrap .i64 (a+b)) m),Zi 0]) [] y0 [])))))
  (by kernel_rfl) ?_
 refine aM (mI (a) (b) (m)) ?_
 refine aL (fun h1=>?_) (fun h1=>?_)
 ·have g1:=aS h1
  exact aq (aw.aT ⟨aw.of_eq (congrArg _ (D3 g1).symm),aw.refl _,trivial⟩)
 ·have g1:=aP h1
  refine aD (by have:=fo g1;omega) ?_
  exact aq (aw.aT ⟨aw.of_eq (congrArg _ (by have c:=fo g1;rw [g1,HP (by omega) (by omega) (by omega) (by omega) (by omega)];rfl)),aw.of_eq (congrArg _ g1.symm),trivial⟩)
theorem wh (a b m:Int):Pure Tryz.prog aW 179 [.int .i64 a,.int .i64 b,.int .i64 m] (.aT [.int .i64 (lQ (cW a b m) (a*b%m)),.int .i64 (cW a b m)]):=by
 refine ar (own:=bk) Tryz.func179 (by kernel_rfl) mixed (by kernel_rfl)
  (let y0:AV:=(.aT [Zi (lQ (cW a b m) (a*b%m)),Zi (cW a b m)]);(.sc true 175 [Zi a,Zi b,Zi m] (Zi (cW a b m)) (.br (cW a b m != 0) (.out (.aT [Zi 0,Zi (cW a b m)]) [] y0 []) (.sc true 176 [Zi a,Zi b,Zi m] (Zi (a*b%m)) (.out (.aT [Zi (a*b%m),Zi 0]) [] y0 [])))))
  (by kernel_rfl) ?_
 refine aM (mI (a) (b) (m)) ?_
 refine aL (fun h1=>?_) (fun h1=>?_)
 ·have g1:=aS h1
  exact aq (aw.aT ⟨aw.of_eq (congrArg _ (D3 g1).symm),aw.refl _,trivial⟩)
 ·have g1:=aP h1
  refine aM (oK (a) (b) (m) (by have:=fo g1;omega) (by have:=fo g1;omega) (by have:=fo g1;omega) (by have:=fo g1;omega) (by have:=fo g1;omega)) ?_
  exact aq (aw.of_eq (by rw [g1];rfl))
theorem nG (a e m:Int) (he:e≤9223372036854775807):Pure Tryz.prog aW 113 [.int .i64 a,.int .i64 e,.int .i64 m] (.aT [.int .i64 (lQ (gJ a e m) (a^e.toNat%m)),.int .i64 (gJ a e m)]):=by
 refine ar (own:=bk) Tryz.func113 (by kernel_rfl) mixed (by kernel_rfl)
  (let z2:=(fun (s:Int×Int×Int)=>toNat (Prod.snd (Prod.snd s)));let z0:={ x:Int×Int×Int // (fun (s:Int×Int×Int)=>(cW a a m=(0:Int)→(0:Int)≤e→l8 a (toNat e) m s)∧Prod.snd (Prod.snd s)≤9223372036854775807) x };let y0:AV:=(.aT [Zi (lQ (gJ a e m) (a^toNat e%m)),Zi (gJ a e m)]);(.sc true 175 [Zi a,Zi a,Zi m] (Zi (cW a a m)) (.br (cW a a m != 0) (.out (.aT [Zi 0,Zi (cW a a m)]) [] y0 []) (.br (decide (e<0)) (.out (.aT [Zi 0,Zi 2]) [] y0 []) (.bf (m≠(0:Int)) (.loop (z0) (fun (x:z0)=>aY [2,9,0,1] [Zi m,Zi (Prod.fst (x.1)),Zi (Prod.fst (Prod.snd (x.1))),Zi (Prod.snd (Prod.snd (x.1)))] []) (fun (x:z0)=>z2 (x.1)) (⟨((1:Int)%m,a,e),l8.JT he⟩) [2,9,0,1] [] [Zi m,Zi (Int.tmod (1:Int) m),Zi a,Zi e] [] (fun x6=>let z1:=(Prod.snd (x6.1));(.br (decide (z1.2>0)) (.br (wrap .i64 (↑(BitVec.toNat (BitVec.ofInt 64 z1.2 &&& BitVec.ofInt 64 (1:Int))):Int)==1) (.sc true 176 [Zi (x6.1).1,Zi z1.1,Zi m] (Zi ((x6.1).1*z1.1%m)) (.sc true 176 [Zi z1.1,Zi z1.1,Zi m] (Zi (z1.1*z1.1%m)) (.again (be 0 (fun (x:z0)=>aY [2,9,0,1] [Zi m,Zi (Prod.fst (x.1)),Zi (Prod.fst (Prod.snd (x.1))),Zi (Prod.snd (Prod.snd (x.1)))] []) (fun (x:z0)=>z2 (x.1)) x6) [2,9,0,1] [] [Zi m,Zi ((x6.1).1*z1.1%m),Zi (z1.1*z1.1%m),Zi (Int.fdiv z1.2 ((2:Int)^1))] []))) (.sc true 176 [Zi z1.1,Zi z1.1,Zi m] (Zi (z1.1*z1.1%m)) (.again (be 0 (fun (x:z0)=>aY [2,9,0,1] [Zi m,Zi (Prod.fst (x.1)),Zi (Prod.fst (Prod.snd (x.1))),Zi (Prod.snd (Prod.snd (x.1)))] []) (fun (x:z0)=>z2 (x.1)) x6) [2,9,0,1] [] [Zi m,Zi (x6.1).1,Zi (z1.1*z1.1%m),Zi (Int.fdiv z1.2 ((2:Int)^1))] []))) (.out (.aT [Zi (x6.1).1,Zi 0]) [] y0 [])))))))))
  (by kernel_rfl) ?_
 refine aM (mI (a) (a) (m)) ?_
 refine aL (fun h1=>?_) (fun h1=>?_)
 ·have g1:=aS h1
  exact aq (aw.aT ⟨aw.of_eq (congrArg _ (by rw [Fi g1,D3 g1])),aw.of_eq (congrArg _ (Fi g1).symm),trivial⟩)
 ·have g1:=aP h1
  refine aL (fun h3=>?_) (fun h3=>?_)
  ·have g3:=af h3
   exact aq (aw.of_eq (by rw [LH g1 g3];rfl))
  ·have g3:=aa h3
   refine aD (by have:=fo g1;omega) ?_
   refine aU (fun _ hs=>hs.le (⟨.refl _,aw.of_eq (congrArg _ (bY (by decide))),.refl _,.refl _,trivial⟩) (trivial)) (fun x6=>?_)
   try (have q6:=x6.2;dsimp only at q6)
   have pw:=x6.2.1 g1 (by omega);have i0:=pw.x0;have i1:=pw.x1;have i2:=pw.a0;have i3:=pw.a1;have i4:=pw.e0;have i5:=x6.2.2;have c:=fo g1;have b0:=Ot i4 (by omega)
   refine aL (fun h7=>?_) (fun h7=>?_)
   ·have g7:=af h7
    refine aL (fun h8=>?_) (fun h8=>?_)
    ·have g8:=ai h8
     refine aM (oK ((x6.1).1) ((Prod.snd (x6.1)).1) (m) (by assumption) (by assumption) (by assumption) (by assumption) (by omega)) ?_
     refine aM (oK ((Prod.snd (x6.1)).1) ((Prod.snd (x6.1)).1) (m) (by assumption) (by assumption) (by assumption) (by assumption) (by omega)) ?_
     exact aN (⟨(x6.1.1*x6.1.2.1%m,x6.1.2.1*x6.1.2.1%m,x6.1.2.2 / 2),fun _ _=>pw.BI (by omega) (b0.symm.trans g8),by dsimp only;omega⟩) (fun _ hs=>hs.le (⟨.refl _,.refl _,.refl _,aw.of_eq (congrArg _ (yJ _)),trivial⟩) (trivial)) (by show toNat (x6.1.2.2 / 2)<toNat x6.1.2.2;omega)
    ·have g8:=ao h8
     refine aM (oK ((Prod.snd (x6.1)).1) ((Prod.snd (x6.1)).1) (m) (by assumption) (by assumption) (by assumption) (by assumption) (by omega)) ?_
     exact aN (⟨(x6.1.1,x6.1.2.1*x6.1.2.1%m,x6.1.2.2 / 2),fun _ _=>pw.uM (by omega) (by rw [b0] at g8;omega),by dsimp only;omega⟩) (fun _ hs=>hs.le (⟨.refl _,.refl _,.refl _,aw.of_eq (congrArg _ (yJ _)),trivial⟩) (trivial)) (by show toNat (x6.1.2.2 / 2)<toNat x6.1.2.2;omega)
   ·have g7:=aa h7
    exact aq (aw.of_eq (by rw [nO g1 g3,← pw.vO g7];rfl))
theorem zG (a m:Int):Pure Tryz.prog aW 165 [.int .i64 a,.int .i64 m] (.aT [.int .i64 (lQ (cW 0 0 m) (a%m)),.int .i64 (cW 0 0 m)]):=by
 refine ar (own:=bk) Tryz.func165 (by kernel_rfl) mixed (by kernel_rfl)
  (let z0:=(cW (0:Int) (0:Int) m);let y0:AV:=(.aT [Zi (lQ z0 (a%m)),Zi z0]);(.sc true 175 [Zi 0,Zi 0,Zi m] (Zi z0) (.br (cW (0:Int) (0:Int) m != 0) (.out (.aT [Zi 0,Zi z0]) [] y0 []) (.bf (m≠(0:Int)) (.br (decide (Int.tmod a m<0)) (.out (.aT [Zi (wrap .i64 (Int.tmod a m+m)),Zi 0]) [] y0 []) (.out (.aT [Zi (Int.tmod a m),Zi 0]) [] y0 []))))))
  (by kernel_rfl) ?_
 refine aM (mI ((0:Int)) ((0:Int)) (m)) ?_
 refine aL (fun h1=>?_) (fun h1=>?_)
 ·have g1:=aS h1
  exact aq (aw.aT ⟨aw.of_eq (congrArg _ (D3 g1).symm),aw.refl _,trivial⟩)
 ·have g1:=aP h1
  refine aD (by have:=fo g1;omega) ?_
  refine aL (fun h4=>?_) (fun h4=>?_)
  ·have g4:=af h4
   exact aq (aw.of_eq (by have:=fo g1;rw [tZ (by omega) (by omega) g4,g1];rfl))
  ·have g4:=aa h4
   exact aq (aw.of_eq (by have:=fo g1;rw [uG (by omega) g4,g1];rfl))
theorem ly (a m:Int) (hm:0<m) (hm':m≤9223372036854775807):Pure Tryz.prog aW 282 [.int .i64 a,.int .i64 m] (.int .i64 (a%m)):=by
 refine ar (own:=bk) Tryz.func282 (by kernel_rfl) mixed (by kernel_rfl)
  (.bf (m≠(0:Int)) (.br (decide (Int.tmod a m<0)) (.out (Zi (wrap .i64 (Int.tmod a m+m))) [] (Zi (a%m)) []) (.out (Zi (Int.tmod a m)) [] (Zi (a%m)) [])))
  (by kernel_rfl) ?_
 refine aD (by omega) ?_
 refine aL (fun h1=>?_) (fun h1=>?_)
 ·have g1:=af h1
  exact aq (aw.of_eq (congrArg _ (tZ hm hm' g1)))
 ·have g1:=aa h1
  exact aq (aw.of_eq (congrArg _ (uG hm g1)))
theorem iK (a b m:Int) (ha:0≤a) (ha':a<m) (hb:0≤b) (hb':b<m) (hm:m<2305843009213693952):Pure Tryz.prog aW 187 [.int .i64 a,.int .i64 b,.int .i64 m] (.int .i64 (a*b%m)):=by
 refine ar (own:=bk) Tryz.func187 (by kernel_rfl) mixed (by kernel_rfl)
  (let z1:=(fun (s:Int×Int×Int)=>toNat (Prod.snd (Prod.snd s)));let z0:={ x:Int×Int×Int // (fun (s:Int×Int×Int)=>o3 (a*b) m s∧Prod.snd (Prod.snd s)<m) x };(.br (decide (a<2147483648)&&decide (b<2147483648)) (.bf (m≠(0:Int)) (.out (Zi (Int.tmod (wrap .i64 (a*b)) m)) [] (Zi (a*b%m)) [])) (.loop (z0) (fun (x:z0)=>aY [2,7,0,1] [Zi m,Zi (Prod.fst (x.1)),Zi (Prod.fst (Prod.snd (x.1))),Zi (Prod.snd (Prod.snd (x.1)))] []) (fun (x:z0)=>z1 (x.1)) (⟨((0:Int),a,b),⟨o3.start ha ha' hb,hb'⟩⟩) [2,7,0,1] [] [Zi m,Zi 0,Zi a,Zi b] [] (fun x3=>let z2:=(Prod.snd (x3.1));(.br (decide (z2.2>0)) (.br (Int.tmod z2.2 (2:Int)==1) (.bf (m≠(0:Int)) (.bf (m≠(0:Int)) (.again (be 0 (fun (x:z0)=>aY [2,7,0,1] [Zi m,Zi (Prod.fst (x.1)),Zi (Prod.fst (Prod.snd (x.1))),Zi (Prod.snd (Prod.snd (x.1)))] []) (fun (x:z0)=>z1 (x.1)) x3) [2,7,0,1] [] [Zi m,Zi (Int.tmod (wrap .i64 ((x3.1).1+z2.1)) m),Zi (Int.tmod (wrap .i64 (z2.1+z2.1)) m),Zi (wrap .i64 (Int.tdiv z2.2 (2:Int)))] []))) (.bf (m≠(0:Int)) (.again (be 0 (fun (x:z0)=>aY [2,7,0,1] [Zi m,Zi (Prod.fst (x.1)),Zi (Prod.fst (Prod.snd (x.1))),Zi (Prod.snd (Prod.snd (x.1)))] []) (fun (x:z0)=>z1 (x.1)) x3) [2,7,0,1] [] [Zi m,Zi (x3.1).1,Zi (Int.tmod (wrap .i64 (z2.1+z2.1)) m),Zi (wrap .i64 (Int.tdiv z2.2 (2:Int)))] []))) (.out (Zi (x3.1).1) [] (Zi (a*b%m)) []))))))
  (by kernel_rfl) ?_
 refine aL (fun h0=>?_) (fun h0=>?_)
 ·have g0:=(ah af af) h0
  refine aD (by omega) ?_
  exact aq (aw.of_eq (congrArg _ (by rw [zN ha hb g0,bY (Int.mul_nonneg ha hb)])))
 ·have g0:=(aj aa aa) h0
  refine aU (fun _ hs=>hs.le (⟨.refl _,.refl _,.refl _,.refl _,trivial⟩) (trivial)) (fun x3=>?_)
  try (have q3:=x3.2;dsimp only at q3)
  have i0:=x3.2.1.x0;have i1:=x3.2.1.x1;have i2:=x3.2.1.a0;have i3:=x3.2.1.a1;have i4:=x3.2.1.e0;have i5:=x3.2.2;dsimp only at i0 i1 i2 i3 i4 i5
  refine aL (fun h4=>?_) (fun h4=>?_)
  ·have g4:=af h4
   refine aL (fun h5=>?_) (fun h5=>?_)
   ·have g5:=ai h5
    refine aD (by omega) ?_
    refine aD (by omega) ?_
    exact aN (⟨((x3.1.1+x3.1.2.1)%m,(x3.1.2.1+x3.1.2.1)%m,x3.1.2.2 / 2),x3.2.1.BI (by omega) (by rw [← bY i4];exact g5),by dsimp only;omega⟩) (fun _ hs=>hs.le (⟨.refl _,aw.of_eq (congrArg _ (HP i0 i1 i2 i3 hm)),aw.of_eq (congrArg _ (HP i2 i3 i2 i3 hm)),aw.of_eq (congrArg _ (vP i4 (by omega))),trivial⟩) (trivial)) (by show toNat (x3.1.2.2 / 2)<toNat x3.1.2.2;omega)
   ·have g5:=ao h5
    refine aD (by omega) ?_
    exact aN (⟨(x3.1.1,(x3.1.2.1+x3.1.2.1)%m,x3.1.2.2 / 2),x3.2.1.uM (by omega) (by rw [bY i4] at g5;omega),by dsimp only;omega⟩) (fun _ hs=>hs.le (⟨.refl _,.refl _,aw.of_eq (congrArg _ (HP i2 i3 i2 i3 hm)),aw.of_eq (congrArg _ (vP i4 (by omega))),trivial⟩) (trivial)) (by show toNat (x3.1.2.2 / 2)<toNat x3.1.2.2;omega)
  ·have g4:=aa h4
   exact aq (aw.of_eq (congrArg _ (x3.2.1.vO g4)))
theorem j0 (a e m:Int) (ha:0≤a) (ha':a<m) (he:0≤e) (he':e≤9223372036854775807) (hm:m<2305843009213693952):Pure Tryz.prog aW 126 [.int .i64 a,.int .i64 e,.int .i64 m] (.int .i64 (a^e.toNat%m)):=by
 refine ar (own:=bk) Tryz.func126 (by kernel_rfl) mixed (by kernel_rfl)
  (let z2:=(fun (s:Int×Int×Int)=>toNat (Prod.snd (Prod.snd s)));let z0:={ x:Int×Int×Int // (fun (s:Int×Int×Int)=>l8 a (toNat e) m s∧Prod.snd (Prod.snd s)≤9223372036854775807) x };(.bf (m≠(0:Int)) (.loop (z0) (fun (x:z0)=>aY [2,7,0,1] [Zi m,Zi (Prod.fst (x.1)),Zi (Prod.fst (Prod.snd (x.1))),Zi (Prod.snd (Prod.snd (x.1)))] []) (fun (x:z0)=>z2 (x.1)) (⟨((1:Int)%m,a,e),⟨l8.start ha ha' he,he'⟩⟩) [2,7,0,1] [] [Zi m,Zi (Int.tmod (1:Int) m),Zi a,Zi e] [] (fun x1=>let z1:=(Prod.snd (x1.1));(.br (decide (z1.2>0)) (.br (Int.tmod z1.2 (2:Int)==1) (.sc true 187 [Zi (x1.1).1,Zi z1.1,Zi m] (Zi ((x1.1).1*z1.1%m)) (.sc true 187 [Zi z1.1,Zi z1.1,Zi m] (Zi (z1.1*z1.1%m)) (.again (be 0 (fun (x:z0)=>aY [2,7,0,1] [Zi m,Zi (Prod.fst (x.1)),Zi (Prod.fst (Prod.snd (x.1))),Zi (Prod.snd (Prod.snd (x.1)))] []) (fun (x:z0)=>z2 (x.1)) x1) [2,7,0,1] [] [Zi m,Zi ((x1.1).1*z1.1%m),Zi (z1.1*z1.1%m),Zi (wrap .i64 (Int.tdiv z1.2 (2:Int)))] []))) (.sc true 187 [Zi z1.1,Zi z1.1,Zi m] (Zi (z1.1*z1.1%m)) (.again (be 0 (fun (x:z0)=>aY [2,7,0,1] [Zi m,Zi (Prod.fst (x.1)),Zi (Prod.fst (Prod.snd (x.1))),Zi (Prod.snd (Prod.snd (x.1)))] []) (fun (x:z0)=>z2 (x.1)) x1) [2,7,0,1] [] [Zi m,Zi (x1.1).1,Zi (z1.1*z1.1%m),Zi (wrap .i64 (Int.tdiv z1.2 (2:Int)))] []))) (.out (Zi (x1.1).1) [] (Zi (a^toNat e%m)) []))))))
  (by kernel_rfl) ?_
 refine aD (by omega) ?_
 refine aU (fun _ hs=>hs.le (⟨.refl _,aw.of_eq (congrArg _ (bY (by decide))),.refl _,.refl _,trivial⟩) (trivial)) (fun x1=>?_)
 try (have q1:=x1.2;dsimp only at q1)
 have i0:=x1.2.1.x0;have i1:=x1.2.1.x1;have i2:=x1.2.1.a0;have i3:=x1.2.1.a1;have i4:=x1.2.1.e0;have i5:=x1.2.2;dsimp only at i0 i1 i2 i3 i4 i5
 refine aL (fun h2=>?_) (fun h2=>?_)
 ·have g2:=af h2
  refine aL (fun h3=>?_) (fun h3=>?_)
  ·have g3:=ai h3
   refine aM (iK ((x1.1).1) ((Prod.snd (x1.1)).1) (m) (by assumption) (by assumption) (by assumption) (by assumption) (by assumption)) ?_
   refine aM (iK ((Prod.snd (x1.1)).1) ((Prod.snd (x1.1)).1) (m) (by assumption) (by assumption) (by assumption) (by assumption) (by assumption)) ?_
   exact aN (⟨(x1.1.1*x1.1.2.1%m,x1.1.2.1*x1.1.2.1%m,x1.1.2.2 / 2),x1.2.1.BI (by omega) (by rw [← bY i4];exact g3),by dsimp only;omega⟩) (fun _ hs=>hs.le (⟨.refl _,.refl _,.refl _,aw.of_eq (congrArg _ (vP i4 (by omega))),trivial⟩) (trivial)) (by show toNat (x1.1.2.2 / 2)<toNat x1.1.2.2;omega)
  ·have g3:=ao h3
   refine aM (iK ((Prod.snd (x1.1)).1) ((Prod.snd (x1.1)).1) (m) (by assumption) (by assumption) (by assumption) (by assumption) (by assumption)) ?_
   exact aN (⟨(x1.1.1,x1.1.2.1*x1.1.2.1%m,x1.1.2.2 / 2),x1.2.1.uM (by omega) (by rw [bY i4] at g3;omega),by dsimp only;omega⟩) (fun _ hs=>hs.le (⟨.refl _,.refl _,.refl _,aw.of_eq (congrArg _ (vP i4 (by omega))),trivial⟩) (trivial)) (by show toNat (x1.1.2.2 / 2)<toNat x1.1.2.2;omega)
 ·have g2:=aa h2
  exact aq (aw.of_eq (congrArg _ (x1.2.1.vO g2)))
theorem PA (x:Int) (h:0<x) (h':x<18446744073709551616):Pure Tryz.prog aW 173 [.int .u64 x] (.int .i64 (gw x)):=by
 have t:=(mj h h').1
 refine ar (own:=bk) Tryz.func173 (by kernel_rfl) mixed (by kernel_rfl)
  (let z0:Int:=(wrap .u64 (wrap .u64 (↑(BitVec.toNat (BitVec.ofInt 64 x &&& BitVec.ofInt 64 (wrap .u64 ((0:Int) - x)))):Int)*285870213051353865));(.br (x==0) (.out (Zi 64) [] (Zi (↑(gw x):Int)) []) (.bf ((0:Int)≤Int.fdiv z0 ((2:Int)^58)∧Int.fdiv z0 ((2:Int)^58)<64) (.out (Zi (wrap .i64 (dbF (toNat (Int.fdiv z0 ((2:Int)^58)))))) [] (Zi (↑(gw x):Int)) []))))
  (by kernel_rfl) ?_
 refine aL (fun h0=>?_) (fun h0=>?_)
 ·have g0:=ai h0
  exact aq (by exfalso;omega)
 ·have g0:=ao h0
  refine aD (by rw [yG h h'];exact PW) ?_
  exact aq (aw.of_eq (congrArg _ (by rw [yG h h',Pr t];exact wI (by omega) (by omega))))
theorem uz (a n d:Int) (s:Nat) (ha:0≤a) (ha':a<n) (hn:2≤n) (hn':n<18446744073709551616) (hd:0≤d) (hd':d<18446744073709551616) (hs:s<64) (hs0:0<s):Pure Tryz.prog aW 174 [.int .u64 a,.int .u64 n,.int .u64 d,.int .i64 s] (.bool (!(gx a d n 0==1||po (fun i=>gx a d n i==n - 1) s))):=by
 have w1:IntKind.wrap .i64 ((s:Int) - 1)=s - 1:=wI (by omega) (by omega)
 have m0:=qP a d n
 have hb:∀ i,0≤gx a d n i∧gx a d n i<n:=fun i=>⟨Int.emod_nonneg _ (by omega),Int.emod_lt_of_pos _ (by omega)⟩
 have wn:IntKind.wrap .u64 (n - 1)=n - 1:=dx (by omega) (by omega)
 refine ar (own:=bk) Tryz.func174 (by kernel_rfl) mixed (by kernel_rfl)
  (let z0:Int:=(wrap .i64 ((s:Int) - 1));let y0:=(fun (x:{ x:Nat // x≤s - 1∧mH a d n x })=>aY [1,23,9,24] [Zu n,Zi z0,Zu (gx a d n (x.1)),Zi x.1] []);let y1:AV:=(.bool !(gx a d n 0==1||po (fun i=>gx a d n i==n - 1) s));let y2:=(fun (x:{ x:Nat // x≤s - 1∧mH a d n x })=>s - 1 - x.1);(.sc true 248 [Zu a,Zu d,Zu n] (Zu (a^toNat d%n)) (.br (a^toNat d%n==1||a^toNat d%n==wrap .u64 (n - 1)) (.out (.bool false) [] y1 []) (.loop ({ x:Nat // x≤s - 1∧mH a d n x }) y0 y2 (⟨0,⟨Nat.zero_le (s - 1),zl a d n⟩⟩) [1,23,9,24] [] [Zu n,Zi z0,Zu (a^toNat d%n),Zi 0] [] (fun x3=>let z1:=(gx a d n x3.1*gx a d n x3.1%n);(.br (decide ((x3.1:Int)<wrap .i64 ((s:Int) - 1))) (.sc true 249 [Zu (gx a d n x3.1),Zu (gx a d n x3.1),Zu n] (Zu z1) (.br (gx a d n x3.1*gx a d n x3.1%n==wrap .u64 (n - 1)) (.out (.bool false) [] y1 []) (.again (be 0 y0 y2 x3) [1,23,9,24] [] [Zu n,Zi z0,Zu z1,Zi (wrap .i64 ((x3.1:Int)+1))] []))) (.out (.bool true) [] y1 [])))))))
  (by kernel_rfl) ?_
 refine aM (L6 (a) (d) (n) (by assumption) (by assumption) (by assumption) (by assumption) (by assumption) (by assumption)) ?_
 refine aL (fun h1=>?_) (fun h1=>?_)
 ·have g1:=(az ai ai) h1
  exact aq (aw.of_eq (congrArg _ (by rw [HB hs0 hn hn' g1];rfl)))
 ·have g1:=(au ao ao) h1
  refine aU (fun _ hs=>hs.le (⟨by exact aw.refl _,by exact aw.refl _,aw.of_eq (congrArg _ m0.symm),by exact aw.refl _,trivial⟩) (trivial)) (fun x3=>?_)
  try (have q3:=x3.2;dsimp only at q3)
  refine aL (fun h4=>?_) (fun h4=>?_)
  ·have g4:=af h4
   refine aM (tJ (gx a d n x3.1) (gx a d n x3.1) (n) (by (have:=hb x3.1;omega)) (by (have:=hb x3.1;omega)) (by (have:=hb x3.1;omega)) (by (have:=hb x3.1;omega)) (by assumption) (by (have:=hb x3.1;exact mA (by omega) (by omega) (by omega) (by omega)))) ?_
   refine aL (fun h6=>?_) (fun h6=>?_)
   ·have g6:=ai h6
    exact aq (aw.of_eq (congrArg _ (by rw [G4 (i:=x3.1) (by omega) (by rw [rG,g6,wn])];rfl)))
   ·have g6:=ao h6
    exact aN (⟨x3.1+1,by omega,zh x3.2.2 (by rw [rG];rw [wn] at g6;exact g6)⟩) (fun _ hs=>hs.le (⟨by exact aw.refl _,by exact aw.refl _,aw.of_eq (congrArg _ (rG ..).symm),by exact aJ (by omega),trivial⟩) (trivial)) (by (dsimp only;omega))
  ·have g4:=aa h4
   exact aq (aw.of_eq (congrArg _ (by rw [Dw (i:=x3.1) (by rw [m0];exact g1.1) (by rw [m0,← wn];exact g1.2) x3.2.2 (by omega)];rfl)))
theorem NP (n:Int) (hn:n≤9223372036854775807):Pure Tryz.prog aW 112 [.int .i64 n] (.bool (lx n)):=by
 refine ar (own:=bk) Tryz.func112 (by kernel_rfl) mixed (by kernel_rfl)
  (let z6:AV:=(.bool (lx n));let z5:Int:=(wrap .u64 (wrap .u64 n - 1));let z4:Int:=(wrap .u64 (n - 1));let z2:Int:=(↑(gw (n - 1)):Int);let z1:={ x:Nat // x≤12∧(fun i=>aK (fun i=>n%dk i==0) 12 0=aK (fun i=>n%dk i==0) (12 - i) i) x };let z0:={ x:Nat // x≤12∧(fun (i:Nat)=>∀ (j:Nat),j<i→eP n (dk j)=true) x };let y0:List AV:=[Zu (dk 0),Zu (dk 1),Zu (dk 2),Zu (dk 3),Zu (dk 4),Zu (dk 5),Zu (dk 6),Zu (dk 7),Zu (dk 8),Zu (dk 9),Zu (dk 10),Zu (dk 11)];let y1:=(fun (x:z1)=>aY [3,13,14] [Zu (wrap .u64 n),.agg y0,Zi x.1] []);let y2:=(fun (x:z1)=>12 - x.1);let y3:Nat:=(toNat z2);(.br (decide (n<2)) (.out (.bool false) [] z6 []) (.loop (z1) y1 y2 (⟨0,⟨Nat.zero_le 12,rfl⟩⟩) [3,13,14] [] [Zu (wrap .u64 n),.agg y0,Zi 0] [] (fun x2=>let z7:Nat:=(toNat (x2.1:Int));(.br (decide ((x2.1:Int)<12)) (.bf (0≤(x2.1:Int)∧(x2.1:Int)<12) (.bf (aE (aO y0 z7)≠(0:Int)) (.br (Int.tmod (wrap .u64 n) (aE (aO y0 z7))==0) (.out (.bool (wrap .u64 n==aE (aO y0 z7))) [] z6 []) (.again (be 0 y1 y2 x2) [3,13,14] [] [Zu (wrap .u64 n),.agg y0,Zi (wrap .i64 ((x2.1:Int)+1))] [])))) (.sc true 173 [Zu z5] (Zi (↑(gw z5):Int)) (.loop (z0) (fun (x:z0)=>aY [28,3,6,29] [.agg y0,Zu n,Zi z2,Zi x.1] []) (fun (x:z0)=>12 - x.1) (⟨0,⟨Nat.zero_le 12,fun (j:Nat) (hj:j<0)=>absurd hj (Nat.not_lt_zero j)⟩⟩) [28,3,6,29] [] [.agg y0,Zu (wrap .u64 n),Zi (↑(gw z5):Int),Zi 0] [] (fun x10=>let z3:Nat:=(toNat (x10.1:Int));(.br (decide ((x10.1:Int)<12)) (.bf (0≤(x10.1:Int)∧(x10.1:Int)<12) (.bf (0≤z2) (.sc true 174 [Zu (aE (aO y0 z3)),Zu n,Zu (Int.fdiv z4 ((2:Int)^min y3 64)),Zi z2] (.bool !(gx (aE (aO y0 z3)) (Int.fdiv z4 ((2:Int)^min y3 64)) n 0==1||po (fun i=>gx (aE (aO y0 z3)) (Int.fdiv z4 ((2:Int)^min y3 64)) n i==n - 1) (gw (n - 1)))) (.br (!(gx (aE (aO y0 z3)) (Int.fdiv z4 ((2:Int)^min y3 64)) n 0==1||po (fun i=>gx (aE (aO y0 z3)) (Int.fdiv z4 ((2:Int)^min y3 64)) n i==n - 1) (gw (n - 1)))) (.out (.bool false) [] z6 []) (.again (be 0 (fun (x:z0)=>aY [28,3,6,29] [.agg y0,Zu n,Zi z2,Zi x.1] []) (fun (x:z0)=>12 - x.1) x10) [28,3,6,29] [] [.agg y0,Zu n,Zi z2,Zi (wrap .i64 ((x10.1:Int)+1))] []))))) (.out (.bool true) [] z6 []))))))))))
  (by kernel_rfl) ?_
 refine aL (fun h0=>?_) (fun h0=>?_)
 ·have g0:=af h0
  exact aq (aw.of_eq (congrArg _ (De g0).symm))
 ·have g0:=aa h0
  refine aU (fun _ hs=>hs.le (by repeat' (first|exact trivial|(first|exact aw.refl _|exact aJ (by omega)|exact aw.nil rfl|exact aw.of_eq (congrArg (AV.aZ _ _ _) (by first|omega|(dsimp only;omega)))|exact aw.of_eq (congrArg (AV.int _) (by first|omega|(dsimp only;omega))))|refine And.intro ?_ ?_)) (trivial)) (fun x2=>?_)
  try (have q2:=x2.2;dsimp only at q2)
  refine aL (fun h3=>?_) (fun h3=>?_)
  ·have g3:=af h3
   refine aD (by omega) ?_
   refine aD (by rw [Int.toNat_natCast,qZ (by omega)];have:=la (i:=x2.1) (by omega);omega) ?_
   refine aL (fun h6=>?_) (fun h6=>?_)
   ·have g6:=ai h6
    try simp only [Int.toNat_natCast] at g6
    exact aq (aw.of_eq (congrArg _ (by simp only [Int.toNat_natCast,qZ (show x2.1<12 by omega),dx (n:=n) (by omega) (by omega),bY (a:=n) (by omega)] at g6 ⊢;exact (Ju g0 x2.2.2 (by omega) g6).symm)))
   ·have g6:=ao h6
    try simp only [Int.toNat_natCast] at g6
    exact aN (⟨x2.1+1,by omega,bS x2.2.2 (by omega) (by simp only [Int.toNat_natCast,qZ (show x2.1<12 by omega),dx (n:=n) (by omega) (by omega),bY (a:=n) (by omega)] at g6;simpa using g6)⟩) (fun _ hs=>hs.le (by repeat' (first|exact trivial|(first|exact aw.refl _|exact aJ (by omega)|exact aw.nil rfl|exact aw.of_eq (congrArg (AV.aZ _ _ _) (by first|omega|(dsimp only;omega)))|exact aw.of_eq (congrArg (AV.int _) (by first|omega|(dsimp only;omega))))|refine And.intro ?_ ?_)) (trivial)) (by (dsimp only;omega))
  ·have g3:=aa h3
   refine aM (PA (wrap .u64 (wrap .u64 n - (1:Int))) (by (rw [dx (n:=n) (by omega) (by omega),dx (by omega) (by omega)];omega)) (by (rw [dx (n:=n) (by omega) (by omega),dx (by omega) (by omega)];omega))) ?_
   refine aU (fun _ hs=>hs.le (⟨by exact aw.refl _,aw.of_eq (congrArg _ (dx (by omega) (by omega))),aw.of_eq (congrArg _ (by rw [dx (n:=n) (by omega) (by omega),dx (by omega) (by omega)])),by exact aw.refl _,trivial⟩) (trivial)) (fun x10=>?_)
   try (have q10:=x10.2;dsimp only at q10)
   have F:=uh g0 x2.2.2 (by omega);have n37:=F.2.1;have CS:=mZ (n:=n) (by omega) (by omega) (Fo F.2.2);have s1:=CS.1;have s2:=CS.2.1;have s3:=CS.2.2.1;have s4:=CS.2.2.2
   refine aL (fun h11=>?_) (fun h11=>?_)
   ·have g11:=af h11
    refine aD (by omega) ?_
    refine aD (by omega) ?_
    refine aM (uz (aE (aO [Zu (dk (0)),Zu (dk (1)),Zu (dk (2)),Zu (dk (3)),Zu (dk (4)),Zu (dk (5)),Zu (dk (6)),Zu (dk (7)),Zu (dk (8)),Zu (dk (9)),Zu (dk (10)),Zu (dk (11))] (toNat (↑x10.1:Int)))) (n) (Int.fdiv (wrap .u64 (n - (1:Int))) ((2:Int)^min (toNat (↑(gw (n - (1:Int))):Int)) (64))) (gw (n - (1:Int))) (by (rw [Int.toNat_natCast,qZ (by omega)];have:=la (i:=x10.1) (by omega);omega)) (by (rw [Int.toNat_natCast,qZ (by omega)];have:=la (i:=x10.1) (by omega);omega)) (by omega) (by omega) (by assumption) (by assumption) (by assumption) (by assumption)) ?_
    refine aL (fun h15=>?_) (fun h15=>?_)
    ·have g15:=(aB (au ao aF)) h15
     try simp only [Int.toNat_natCast] at g15
     exact aq (aw.of_eq (congrArg _ (by have e:=yX (n:=n) (i:=toNat ((x10.1:Nat):Int)) (by omega) (by omega) (by omega);rw [e] at h15;rw [F.1,nQ (i:=x10.1) (by omega) (by simpa using h15)])))
    ·have g15:=(ay (az ai aC)) h15
     try simp only [Int.toNat_natCast] at g15
     exact aN (⟨x10.1+1,by omega,fun j hj=>by (have e:=yX (n:=n) (i:=toNat ((x10.1:Nat):Int)) (by omega) (by omega) (by omega);rw [e] at h15;by_cases ej:j=x10.1;(subst ej;simpa using h15);exact x10.2.2 j (by omega))⟩) (fun _ hs=>hs.le (by repeat' (first|exact trivial|(first|exact aw.refl _|exact aJ (by omega)|exact aw.nil rfl|exact aw.of_eq (congrArg (AV.aZ _ _ _) (by first|omega|(dsimp only;omega)))|exact aw.of_eq (congrArg (AV.int _) (by first|omega|(dsimp only;omega))))|refine And.intro ?_ ?_)) (trivial)) (by (dsimp only;omega))
   ·have g11:=aa h11
    exact aq (aw.of_eq (congrArg _ (by rw [F.1,nv fun j hj=>x10.2.2 j (by omega)])))
theorem CO (n a:Int) (ha:0≤a) (ha':a<n) (hn:2≤n) (hn':n<2305843009213693952) (ho:n%2=1):Pure Tryz.prog aW 186 [.int .i64 n,.int .i64 a] (.bool (eP n a)):=by
 have hb:∀ i,0≤gx a ((n - 1) / 2^gw (n - 1)) n i∧gx a ((n - 1) / 2^gw (n - 1)) n i<n:=fun i=>⟨Int.emod_nonneg _ (by omega),Int.emod_lt_of_pos _ (by omega)⟩
 have wn:IntKind.wrap .i64 (n - 1)=n - 1:=wI (by omega) (by omega)
 have tz0:=(mZ hn (by omega) ho).2.2.2
 have tz1:=(mZ hn (by omega) ho).2.2.1
 refine ar (own:=bk) Tryz.func186 (by kernel_rfl) mixed (by kernel_rfl)
  (let z4:Int:=(↑(gw (n - 1)):Int);let z3:=(fun (q:Int×Nat)=>toNat (Prod.fst q));let z1:={ x:Nat // x≤gw (n - 1) - 1∧mH a ((n - 1) / 2^gw (n - 1)) n x };let z0:={ x:Int×Nat // (fun (q:Int×Nat)=>(2:Int)≤n→n - 1=(2:Int)^Prod.snd q*Prod.fst q∧(0:Int)<Prod.fst q) x };let y0:=(fun (x:z1)=>aY [0,6,7,8] [Zi n,Zi z4,Zi (gx a ((n - 1) / 2^gw (n - 1)) n (x.1)),Zi (↑(x.1+1):Int)] []);let y1:=(fun (x:z1)=>gw (n - 1) - 1 - x.1);let y2:AV:=(.bool (eP n a));(.loop (z0) (fun (x:z0)=>aY [0,1,5,6] [Zi n,Zi a,Zi (Prod.fst (x.1)),Zi (↑(Prod.snd (x.1)):Int)] []) (fun (x:z0)=>z3 (x.1)) (⟨(n - 1,0),Aa n⟩) [0,1,5,6] [] [Zi n,Zi a,Zi (wrap .i64 (n - 1)),Zi 0] [] (fun x0=>(.br (Int.tmod (x0.1).1 (2:Int)==0) (.again (be 0 (fun (x:z0)=>aY [0,1,5,6] [Zi n,Zi a,Zi (Prod.fst (x.1)),Zi (↑(Prod.snd (x.1)):Int)] []) (fun (x:z0)=>z3 (x.1)) x0) [0,1,5,6] [] [Zi n,Zi a,Zi (wrap .i64 (Int.tdiv (x0.1).1 (2:Int))),Zi (wrap .i64 ((↑(x0.1).2:Int)+1))] []) (.sc true 126 [Zi a,Zi (x0.1).1,Zi n] (Zi (a^toNat (x0.1).1%n)) (.br (a^toNat (x0.1).1%n==1||a^toNat (x0.1).1%n==wrap .i64 (n - 1)) (.out (.bool true) [] y2 []) (.loop (z1) y0 y1 (⟨0,⟨Nat.zero_le (gw (n - 1) - 1),zl a ((n - 1) / 2^gw (n - 1)) n⟩⟩) [0,6,7,8] [] [Zi n,Zi (↑(x0.1).2:Int),Zi (a^toNat (x0.1).1%n),Zi 1] [] (fun x6=>let z2:=(gx a ((n - 1) / 2^gw (n - 1)) n x6.1*gx a ((n - 1) / 2^gw (n - 1)) n x6.1%n);(.br (decide ((↑(x6.1+1):Int)<z4)) (.sc true 187 [Zi (gx a ((n - 1) / 2^gw (n - 1)) n x6.1),Zi (gx a ((n - 1) / 2^gw (n - 1)) n x6.1),Zi n] (Zi z2) (.br (gx a ((n - 1) / 2^gw (n - 1)) n x6.1*gx a ((n - 1) / 2^gw (n - 1)) n x6.1%n==wrap .i64 (n - 1)) (.out (.bool true) [] y2 []) (.again (be 0 y0 y1 x6) [0,6,7,8] [] [Zi n,Zi z4,Zi z2,Zi (wrap .i64 ((↑(x6.1+1):Int)+1))] []))) (.out (.bool false) [] y2 []))))))))))
  (by kernel_rfl) ?_
 refine aU (fun _ hs=>hs.le (by repeat' (first|exact trivial|(first|exact aw.refl _|exact aJ (by omega)|exact aw.nil rfl|exact aw.of_eq (congrArg (AV.aZ _ _ _) (by first|omega|(dsimp only;omega)))|exact aw.of_eq (congrArg (AV.int _) (by omega)))|refine And.intro ?_ ?_)) (trivial)) (fun x0=>?_)
 try (have q0:=x0.2;dsimp only at q0)
 refine aL (fun h1=>?_) (fun h1=>?_)
 ·have g1:=ai h1
  exact aN (⟨(x0.1.1 / 2,x0.1.2+1),fun _=>EZ (q0 hn).1 (q0 hn).2 g1⟩) (fun _ hs=>hs.le (⟨by exact aw.refl _,by exact aw.refl _,aw.of_eq (congrArg _ (vP (by have:=(q0 hn).2;omega) (by have:=BD (q0 hn).1 (q0 hn).2;omega))),aJ (by have:=uQ hn (by omega) (q0 hn).1 (q0 hn).2;omega),trivial⟩) (trivial)) (by have:=(q0 hn).2;show toNat (x0.1.1 / 2)<toNat x0.1.1;omega)
 ·have g1:=ao h1
  refine aM (j0 (a) ((x0.1).1) (n) (by assumption) (by assumption) (by omega) (by (have:=(q0 hn).2;have:=BD (q0 hn).1 (q0 hn).2;omega)) (by assumption)) ?_
  refine aL (fun h4=>?_) (fun h4=>?_)
  ·have g4:=(az ai ai) h4
   exact aq (aw.of_eq (congrArg _ (by have p:=ld hn (by omega) (q0 hn).1 (q0 hn).2 g1;rw [zC (a:=a) tz0 (by rw [p.2,qP];rw [wn] at g4;exact g4)])))
  ·have g4:=(au ao ao) h4
   refine aU (fun _ hs=>hs.le (⟨by exact aw.refl _,aw.of_eq (congrArg _ (by rw [(ld hn (by omega) (q0 hn).1 (q0 hn).2 g1).1])),aw.of_eq (congrArg _ (by rw [(ld hn (by omega) (q0 hn).1 (q0 hn).2 g1).2,qP])),by exact aw.refl _,trivial⟩) (trivial)) (fun x6=>?_)
   try (have q6:=x6.2;dsimp only at q6)
   refine aL (fun h7=>?_) (fun h7=>?_)
   ·have g7:=af h7
    refine aM (iK (gx a ((n - (1:Int)) / (2:Int)^gw (n - (1:Int))) n x6.1) (gx a ((n - (1:Int)) / (2:Int)^gw (n - (1:Int))) n x6.1) (n) (by (have:=hb x6.1;omega)) (by (have:=hb x6.1;omega)) (by (have:=hb x6.1;omega)) (by (have:=hb x6.1;omega)) (by assumption)) ?_
    refine aL (fun h9=>?_) (fun h9=>?_)
    ·have g9:=ai h9
     exact aq (aw.of_eq (congrArg _ (by rw [A4 (a:=a) (i:=x6.1) (by omega) (by rw [rG,g9,wn])])))
    ·have g9:=ao h9
     exact aN (⟨x6.1+1,by omega,zh x6.2.2 (by rw [rG];rw [wn] at g9;exact g9)⟩) (fun _ hs=>hs.le (⟨by exact aw.refl _,by exact aw.refl _,aw.of_eq (congrArg _ (rG ..).symm),aJ (by omega),trivial⟩) (trivial)) (by (dsimp only;omega))
   ·have g7:=aa h7
    exact aq (aw.of_eq (congrArg _ (by have p:=ld hn (by omega) (q0 hn).1 (q0 hn).2 g1;rw [wn] at g4;rw [Bx (i:=x6.1) (by rw [p.2,qP];exact g4.1) (by rw [p.2,qP];exact g4.2) x6.2.2 (by omega)])))
theorem Ia (n:Int) (h:False):Pure Tryz.prog aW 185 [.int .i64 n] (.bool true):=h.elim
theorem IE (n:Int) (hn:n<2305843009213693952):Pure Tryz.prog aW 125 [.int .i64 n] (.bool (lx n)):=by
 refine ar (own:=bk) Tryz.func125 (by kernel_rfl) mixed (by kernel_rfl)
  (let z3:AV:=(.bool (lx n));let z1:={ x:Nat // x≤12∧(fun i=>aK (fun i=>n%dk i==0) 12 0=aK (fun i=>n%dk i==0) (12 - i) i) x };let z0:={ x:Nat // x≤12∧(fun (i:Nat)=>∀ (j:Nat),j<i→eP n (dk j)=true) x };let y0:=(fun (x:z1)=>aY [0,3,4] [Zi n,.aZ 0 1 0 12,Zi x.1] [some ⟨1,12,true,.fn fun i x=>Zi (dk i)⟩]);let y1:List (Option Ob):=[some ⟨1,12,true,.fn fun i j=>Zi (dk i)⟩];let y2:=(fun (x:z1)=>12 - x.1);(.br (decide (n<2)) (.out (.bool false) [] z3 []) (.loop (z1) y0 y2 (⟨0,⟨Nat.zero_le 12,rfl⟩⟩) [0,3,4] [24] [Zi n,.aZ 0 1 0 12,Zi 0] [some ⟨1,12,true,.ba [[Zi 2],[Zi 3],[Zi 5],[Zi 7],[Zi 11],[Zi 13],[Zi 17],[Zi 19],[Zi 23],[Zi 29],[Zi 31],[Zi 37]]⟩] (fun x2=>let z4:Nat:=(toNat (x2.1:Int)+0);(.br (decide ((x2.1:Int)<12)) (.bf (0≤(x2.1:Int)∧(x2.1:Int)<12) (.bf (dk z4≠(0:Int)) (.br (Int.tmod n (dk z4)==0) (.bf (0≤(x2.1:Int)∧(x2.1:Int)<12) (.out (.bool (n==dk z4)) [] z3 [])) (.again (be 0 y0 y2 x2) [0,3,4] [0] [Zi n,.aZ 0 1 0 12,Zi (wrap .i64 ((x2.1:Int)+1))] (y1))))) (.br (decide (n≥2305843009213693952)) (.sc true 185 [Zi n] (.bool true) (.out (.bool true) [] z3 [])) (.loop (z0) (fun (x:z0)=>aY [0,3,5] [Zi n,.aZ 0 1 0 12,Zi x.1] y1) (fun (x:z0)=>12 - x.1) (⟨0,⟨Nat.zero_le 12,fun (j:Nat) (hj:j<0)=>absurd hj (Nat.not_lt_zero j)⟩⟩) [0,3,5] [0] [Zi n,.aZ 0 1 0 12,Zi 0] (y1) (fun x13=>let z2:=(dk (toNat (x13.1:Int)+0));(.br (decide ((x13.1:Int)<12)) (.bf (0≤(x13.1:Int)∧(x13.1:Int)<12) (.sc true 186 [Zi n,Zi z2] (.bool (eP n z2)) (.br (!eP n z2) (.out (.bool false) [] z3 []) (.again (be 0 (fun (x:z0)=>aY [0,3,5] [Zi n,.aZ 0 1 0 12,Zi x.1] y1) (fun (x:z0)=>12 - x.1) x13) [0,3,5] [0] [Zi n,.aZ 0 1 0 12,Zi (wrap .i64 ((x13.1:Int)+1))] (y1))))) (.out (.bool true) [] z3 []))))))))))
  (by kernel_rfl) ?_
 refine aL (fun h0=>?_) (fun h0=>?_)
 ·have g0:=af h0
  exact aq (aw.of_eq (congrArg _ (De g0).symm))
 ·have g0:=aa h0
  refine aU (fun _ hs=>hs.le (by repeat' (first|exact trivial|(first|exact aw.refl _|exact aJ (by omega)|exact aw.nil rfl|exact aw.of_eq (congrArg (AV.aZ _ _ _) (by first|omega|(dsimp only;omega)))|exact aw.of_eq (congrArg (AV.int _) (by first|omega|(dsimp only;omega))))|refine And.intro ?_ ?_)) (⟨NS,trivial⟩)) (fun x2=>?_)
  try (have q2:=x2.2;dsimp only at q2)
  refine aL (fun h3=>?_) (fun h3=>?_)
  ·have g3:=af h3
   refine aD (by omega) ?_
   refine aD (by simp only [Int.toNat_natCast,Nat.add_zero];have:=la (i:=x2.1) (by omega);omega) ?_
   refine aL (fun h6=>?_) (fun h6=>?_)
   ·have g6:=ai h6
    try simp only [Int.toNat_natCast] at g6
    refine aD (by omega) ?_
    exact aq (aw.of_eq (congrArg _ (by simp only [Int.toNat_natCast,Nat.add_zero,bY (a:=n) (by omega)] at g6 ⊢;exact (Ju g0 x2.2.2 (by omega) g6).symm)))
   ·have g6:=ao h6
    try simp only [Int.toNat_natCast] at g6
    exact aN (⟨x2.1+1,by omega,bS x2.2.2 (by omega) (by simp only [Int.toNat_natCast,Nat.add_zero,bY (a:=n) (by omega)] at g6;simpa using g6)⟩) (fun _ hs=>hs.le (by repeat' (first|exact trivial|(first|exact aw.refl _|exact aJ (by omega)|exact aw.nil rfl|exact aw.of_eq (congrArg (AV.aZ _ _ _) (by first|omega|(dsimp only;omega)))|exact aw.of_eq (congrArg (AV.int _) (by first|omega|(dsimp only;omega))))|refine And.intro ?_ ?_)) (by repeat' (first|exact trivial|(first|exact aH.refl _|exact aH.bw|exact aH.zero|exact aH.push rfl rfl|exact aH.cm rfl|exact aH.len (by omega)|exact aH.row (by repeat' (first|exact trivial|(first|exact aw.refl _|exact aJ (by omega)|exact aw.nil rfl|exact aw.of_eq (congrArg (AV.aZ _ _ _) (by first|omega|(dsimp only;omega)))|exact aw.of_eq (congrArg (AV.int _) (by first|omega|(dsimp only;omega))))|refine And.intro ?_ ?_)))|refine And.intro ?_ ?_))) (by (dsimp only;omega))
  ·have g3:=aa h3
   refine aL (fun h10=>?_) (fun h10=>?_)
   ·have g10:=af h10
    refine aM (Ia (n) (by omega)) ?_
    exact aq (by exfalso;omega)
   ·have g10:=aa h10
    refine aU (fun _ hs=>hs.le (by repeat' (first|exact trivial|(first|exact aw.refl _|exact aJ (by omega)|exact aw.nil rfl|exact aw.of_eq (congrArg (AV.aZ _ _ _) (by first|omega|(dsimp only;omega)))|exact aw.of_eq (congrArg (AV.int _) (by first|omega|(dsimp only;omega))))|refine And.intro ?_ ?_)) (by repeat' (first|exact trivial|(first|exact aH.refl _|exact aH.bw|exact aH.zero|exact aH.push rfl rfl|exact aH.cm rfl|exact aH.len (by omega)|exact aH.row (by repeat' (first|exact trivial|(first|exact aw.refl _|exact aJ (by omega)|exact aw.nil rfl|exact aw.of_eq (congrArg (AV.aZ _ _ _) (by first|omega|(dsimp only;omega)))|exact aw.of_eq (congrArg (AV.int _) (by first|omega|(dsimp only;omega))))|refine And.intro ?_ ?_)))|refine And.intro ?_ ?_))) (fun x13=>?_)
    try (have q13:=x13.2;dsimp only at q13)
    have F:=uh g0 x2.2.2 (by omega)
    refine aL (fun h14=>?_) (fun h14=>?_)
    ·have g14:=af h14
     refine aD (by omega) ?_
     refine aM (CO (n) (dk (toNat (↑x13.1:Int)+0)) (by (have F:=uh g0 x2.2.2 (by omega);simp only [Int.toNat_natCast,Nat.add_zero];have:=la (i:=x13.1) (by omega);have:=F.2.1;omega)) (by (have F:=uh g0 x2.2.2 (by omega);simp only [Int.toNat_natCast,Nat.add_zero];have:=la (i:=x13.1) (by omega);have:=F.2.1;omega)) (by omega) (by assumption) (by exact Fo (uh g0 x2.2.2 (by omega)).2.2)) ?_
     refine aL (fun h17=>?_) (fun h17=>?_)
     ·have g17:=(aB aF) h17
      try simp only [Int.toNat_natCast] at g17
      exact aq (aw.of_eq (congrArg _ (by simp only [Int.toNat_natCast,Nat.add_zero] at h17;rw [F.1,nQ (i:=x13.1) (by omega) (by simpa using h17)])))
     ·have g17:=(ay aC) h17
      try simp only [Int.toNat_natCast] at g17
      exact aN (⟨x13.1+1,by omega,fun j hj=>by (simp only [Int.toNat_natCast,Nat.add_zero] at h17;by_cases ej:j=x13.1;(subst ej;simpa using h17);exact x13.2.2 j (by omega))⟩) (fun _ hs=>hs.le (by repeat' (first|exact trivial|(first|exact aw.refl _|exact aJ (by omega)|exact aw.nil rfl|exact aw.of_eq (congrArg (AV.aZ _ _ _) (by first|omega|(dsimp only;omega)))|exact aw.of_eq (congrArg (AV.int _) (by first|omega|(dsimp only;omega))))|refine And.intro ?_ ?_)) (by repeat' (first|exact trivial|(first|exact aH.refl _|exact aH.bw|exact aH.zero|exact aH.push rfl rfl|exact aH.cm rfl|exact aH.len (by omega)|exact aH.row (by repeat' (first|exact trivial|(first|exact aw.refl _|exact aJ (by omega)|exact aw.nil rfl|exact aw.of_eq (congrArg (AV.aZ _ _ _) (by first|omega|(dsimp only;omega)))|exact aw.of_eq (congrArg (AV.int _) (by first|omega|(dsimp only;omega))))|refine And.intro ?_ ?_)))|refine And.intro ?_ ?_))) (by (dsimp only;omega))
    ·have g14:=aa h14
     exact aq (aw.of_eq (congrArg _ (by rw [F.1,nv fun j hj=>x13.2.2 j (by omega)])))
end Go.Proofs.YtgnfjlekpgjehaaGreatDoor

namespace Go.Sp
open Go.IntKind (wrap)
open Int (toNat)
open Go Go.Am
structure bL where
  p : Int
  q : Int
  g : Int
def bL.cells (G:bL):List AV:=[.int .i64 G.p,.int .i64 G.q,.int .i64 G.g]
def bL.av (G:bL):AV:=.agg G.cells
structure aI where
  gr : bL
  g1 : Int
  g2 : Int
  h : Int
def aI.cells (b:aI):List AV:=b.gr.cells++[.int .i64 b.g1,.int .i64 b.g2,.int .i64 b.h]
def aI.av (b:aI):AV:=.agg b.cells
def aQ (G:bL) (x:Int):Bool:=decide (1≤x)&&decide (x<G.p)&&(lQ (gJ x G.q G.p) (x^G.q.toNat%G.p)==1)
def bp (G:bL):Bool:=decide (3≤G.p∧G.p<2305843009213693952∧3≤G.q∧G.q%2=1∧(G.p - 1)%G.q=0∧2≤G.g∧G.g<G.p)&&lx G.p&&lx G.q&&(G.g^G.q.toNat%G.p==1)
def aR (b:aI):Bool:=bp b.gr&&b.g1 != 1&&b.g2 != 1&&b.h != 1&&aQ b.gr b.g1&&aQ b.gr b.g2&&aQ b.gr b.h
structure bL.W (G : bL) : Prop where
  p : G.p ≤ 9223372036854775807
  q : G.q ≤ 9223372036854775807
structure bL.Ok (G : bL) : Prop where
  p3 : 3 ≤ G.p
  p1 : G.p < 2305843009213693952
  q3 : 3 ≤ G.q
  q2 : G.q % 2 = 1
  d : (G.p - 1) % G.q = 0
  g2 : 2 ≤ G.g
  g1 : G.g < G.p
  ip : lx G.p = true
  iq : lx G.q = true
  pw : G.g ^ G.q.toNat % G.p = 1
theorem bn {G:bL}:bp G=true↔G.Ok:=by
 unfold bp
 simp only [Bool.and_eq_true,decide_eq_true_eq,beq_iff_eq]
 constructor
 ·rintro ⟨⟨⟨⟨a,b,c,d,e,f,g⟩,h⟩,i⟩,j⟩
  exact ⟨a,b,c,d,e,f,g,h,i,j⟩
 ·rintro ⟨a,b,c,d,e,f,g,h,i,j⟩
  grind
theorem bL.Ok.qp {G:bL} (h:G.Ok):G.q<G.p:=by
 have h1:=h.d;have h2:=h.p3;have h3:=h.q3
 have:=Int.le_of_dvd (by omega) (Int.dvd_of_emod_eq_zero h1)
 omega
theorem Ln {n:Int} (h:lx n=true):2≤n:=by grind [Int.not_lt,De]
theorem xc {G:bL} {x:Int} (h:x<1∨x≥G.p):aQ G x=false:=by grind [aQ,decide]
theorem xw {G:bL} {x:Int} (h:¬x<1∧¬x≥G.p):aQ G x=(lQ (gJ x G.q G.p) (x^G.q.toNat%G.p)==1):=by grind [aQ,decide]
theorem bL.Ok.gJ {G:bL} (h:G.Ok) {x:Int} (h0:0≤x) (h1:x<G.p):gJ x G.q G.p=0:=by
 have:=h.p3;have:=h.p1;have:=h.q3
 grind [nO,js]
theorem OU {G:bL} (g:((((((G.p≥2305843009213693952∨G.q<3)∨Int.tmod G.q 2=0)∨lx G.p=false)∨lx G.q=false)∨¬Int.tmod (IntKind.wrap .i64 (G.p - 1)) G.q=0)∨G.g<2)∨G.g≥G.p):bp G=false:=by
 refine Bool.eq_false_iff.2 fun h=>?_
 have k:=bn.1 h
 have:=k.p3;have:=k.p1;have:=k.q3;have h2:=k.q2;have hd:=k.d;have:=k.g2;have:=k.g1
 rw [bY (by omega),wI (by omega) (by omega),bY (by omega),k.ip,k.iq] at g
 grind
theorem LQ {G:bL} (g:((((((¬G.p≥2305843009213693952∧¬G.q<3)∧¬Int.tmod G.q 2=0)∧lx G.p=true)∧lx G.q=true)∧Int.tmod (IntKind.wrap .i64 (G.p - 1)) G.q=0)∧¬G.g<2)∧¬G.g≥G.p) :
  (gJ G.g G.q G.p==0&&lQ (gJ G.g G.q G.p) (G.g^G.q.toNat%G.p)==1)=bp G:=by grind [Ln,bY,wI,Int.not_lt,Int.emod_eq_of_lt,nO,js,bp,Lx,decide_eq_true]
theorem Kn {G:bL} (g:(((((G.p<3∨G.p≥2305843009213693952)∨G.q<3)∨Int.tmod G.q 2=0)∨¬Int.tmod (IntKind.wrap .i64 (G.p - 1)) G.q=0)∨G.g<2)∨G.g≥G.p):bp G=false:=by
 refine Bool.eq_false_iff.2 fun h=>?_
 have k:=bn.1 h
 have:=k.p3;have:=k.p1;have:=k.q3;have h2:=k.q2;have hd:=k.d;have:=k.g2;have:=k.g1
 grind [bY,wI]
theorem iZ {G:bL} (g:(((((¬G.p<3∧¬G.p≥2305843009213693952)∧¬G.q<3)∧¬Int.tmod G.q 2=0)∧Int.tmod (IntKind.wrap .i64 (G.p - 1)) G.q=0)∧¬G.g<2)∧¬G.g≥G.p) :
  3≤G.p∧G.p<2305843009213693952∧3≤G.q∧G.q%2=1∧(G.p - 1)%G.q=0∧2≤G.g∧G.g<G.p∧G.q<G.p:=by
 obtain ⟨⟨⟨⟨⟨⟨a,b⟩,c⟩,d⟩,e⟩,i⟩,j⟩:=g
 rw [bY (by omega)] at d
 rw [wI (by omega) (by omega),bY (by omega)] at e
 have:=Int.le_of_dvd (by omega) (Int.dvd_of_emod_eq_zero e)
 omega
theorem Hs {G:bL} (g:(((((¬G.p<3∧¬G.p≥2305843009213693952)∧¬G.q<3)∧¬Int.tmod G.q 2=0)∧Int.tmod (IntKind.wrap .i64 (G.p - 1)) G.q=0)∧¬G.g<2)∧¬G.g≥G.p) :
  (lx G.p&&lx G.q&&G.g^G.q.toNat%G.p==1)=bp G:=by grind [iZ,bp,decide_eq_true]
def aI.x (b:aI) (i:Nat):Int:=[b.g1,b.g2,b.h].getD i 0
def aI.td (b:aI) (i:Nat):Bool:=b.x i != 1&&aQ b.gr (b.x i)
theorem lS (b:aI):aR b=(bp b.gr&&allI b.td 3):=by
 show aR b=(bp b.gr&&(b.td 0&&(b.td 1&&(b.td 2&&true))))
 show (bp b.gr&&b.g1 != 1&&b.g2 != 1&&b.h != 1&&aQ b.gr b.g1&&aQ b.gr b.g2&&aQ b.gr b.h)=(bp b.gr&&((b.g1 != 1&&aQ b.gr b.g1)&&((b.g2 != 1&&aQ b.gr b.g2)&&((b.h != 1&&aQ b.gr b.h)&&true))))
 grind
theorem K4 {os:List (Option Ob)} {b:aI} {mu:Bool}:aH os ⟨1,3,mu,.ba [[.int .i64 b.g1],[.int .i64 b.g2],[.int .i64 b.h]]⟩ ⟨1,3,mu,.fn fun i _=>.int .i64 (b.x i)⟩:=pV fun i j hi hj=>by
 obtain rfl:j=0:=by omega
 match i,hi with
 | 0,_|1,_|2,_=>rfl
structure aI.Ok (b : aI) : Prop where
  G : b.gr.Ok
  n1 : b.g1 ≠ 1
  n2 : b.g2 ≠ 1
  nh : b.h ≠ 1
  e1 : aQ b.gr b.g1 = true
  e2 : aQ b.gr b.g2 = true
  eh : aQ b.gr b.h = true
theorem bE {b:aI}:aR b=true↔b.Ok:=by
 unfold aR
 simp only [Bool.and_eq_true,bn,bne_iff_ne]
 constructor
 ·rintro ⟨⟨⟨⟨⟨⟨a,b⟩,c⟩,d⟩,e⟩,f⟩,g⟩;exact ⟨a,b,c,d,e,f,g⟩
 ·rintro ⟨a,b,c,d,e,f,g⟩;grind
theorem Dr {G:bL} {x:Int} (h:G.Ok):(decide (x≥1)&&decide (x<G.p)&&x^G.q.toNat%G.p==1)=aQ G x:=by
 by_cases hx:x<1∨x≥G.p
 ·grind [xc,decide]
 ·rw [xw (by omega),h.gJ (by omega) (by omega),Lx,show decide (x≥1)=true from by grind,show decide (x<G.p)=true from by grind];simp
theorem aI.Lm {b:aI} {i:Nat} (h:bp b.gr=true) (g:b.x i=1∨(bp b.gr=false∨aQ b.gr (b.x i)=false)):b.td i=false:=by
 unfold td
 grind
theorem aI.Mt {b:aI} {i:Nat} (g:¬b.x i=1∧(bp b.gr=true∧aQ b.gr (b.x i)=true)):b.td i=true:=by simp_all [td,Bool.and_true]
theorem cF {p:Nat→Bool} {i:Nat} (h:∀ j,j<i→p j=true) (hi:p i=true):∀ j,j<i+1→p j=true:=fun j hj=>by grind
end Go.Sp

namespace Go.Proofs.YtgnfjlekpgjehaaGreatDoor
open Go.IntKind (wrap)
open Int (toNat)
open Go Go.Am Go.Sp
set_option maxRecDepth 100000
theorem qT (G:bL) (x:Int) (hw:G.W):Pure Tryz.prog aW 114 [G.av,.int .i64 x] (.bool (aQ G x)):=by
 have hq:=hw.q
 refine ar (own:=bk) Tryz.func114 (by kernel_rfl) mixed (by kernel_rfl)
  (let z0:=(gJ x G.2 G.1);(.br (decide (x<1)||decide (x≥G.1)) (.out (.bool false) [] (.bool (aQ G x)) []) (.sc true 113 [Zi x,Zi G.2,Zi G.1] (.aT [Zi (lQ z0 (x^toNat G.2%G.1)),Zi z0]) (.out (.bool (lQ z0 (x^toNat G.2%G.1)==1)) [] (.bool (aQ G x)) []))))
  (by kernel_rfl) ?_
 refine aL (fun h0=>?_) (fun h0=>?_)
 ·have g0:=(az af af) h0
  exact aq (aw.of_eq (congrArg _ (xc g0).symm))
 ·have g0:=(au aa aa) h0
  refine aM (nG (x) (G.2) (G.1) (by assumption)) ?_
  exact aq (aw.of_eq (congrArg _ (xw g0).symm))
theorem kA (G:bL) (hw:G.W):Pure Tryz.prog aW 60 [G.av] (.bool (bp G)):=by
 have hq:=hw.q
 have hp:=hw.p
 refine ar (own:=bk) Tryz.func60 (by kernel_rfl) mixed (by kernel_rfl)
  (let z1:=(gJ G.3 G.2 G.1);let z0:=(G.1≥2305843009213693952);(.sc ((decide z0||decide (G.2<3)||Int.tmod G.2 (2:Int)==0)==false) 112 [Zi G.1] (.bool (lx G.1)) (.sc ((decide z0||decide (G.2<3)||Int.tmod G.2 (2:Int)==0 || !lx G.1)==false) 112 [Zi G.2] (.bool (lx G.2)) (.bf (((decide z0||decide (G.2<3)||Int.tmod G.2 (2:Int)==0 || !lx G.1 || !lx G.2)==false)=true→G.2≠(0:Int)) (.br (decide z0||decide (G.2<3)||Int.tmod G.2 (2:Int)==0 || !lx G.1 || !lx G.2||Int.tmod (wrap .i64 (G.1 - 1)) G.2 != 0||decide (G.3<2)||decide (G.3≥G.1)) (.out (.bool false) [] (.bool (bp G)) []) (.sc true 113 [Zi G.3,Zi G.2,Zi G.1] (.aT [Zi (lQ z1 (G.3^toNat G.2%G.1)),Zi z1]) (.out (.bool (gJ G.3 G.2 G.1==0&&lQ z1 (G.3^toNat G.2%G.1)==1)) [] (.bool (bp G)) [])))))))
  (by kernel_rfl) ?_
 refine aV (fun h0=>NP (G.1) (by assumption)) ?_
 refine aV (fun h1=>NP (G.2) (by assumption)) ?_
 refine aD (fun hr=>by have hr:=(cY (au (au (au (au aa aa) ao) (ay aC)) (ay aC))) hr;omega) ?_
 refine aL (fun h3=>?_) (fun h3=>?_)
 ·have g3:=(az (az (az (az (az (az (az af af) ai) (aB aF)) (aB aF)) aS) af) af) h3
  exact aq (aw.of_eq (congrArg _ (OU g3).symm))
 ·have g3:=(au (au (au (au (au (au (au aa aa) ao) (ay aC)) (ay aC)) aP) aa) aa) h3
  refine aM (nG (G.3) (G.2) (G.1) (by assumption)) ?_
  exact aq (aw.of_eq (congrArg _ (LQ g3)))
theorem er (G:bL) (x:Int) (hw:G.W):Pure Tryz.prog aW 61 [G.av,.int .i64 x] (.bool (bp G&&aQ G x)):=by
 refine ar (own:=bk) Tryz.func61 (by kernel_rfl) mixed (by kernel_rfl)
  (let z0:AV:=(.bool (bp G&&aQ G x));(.sc true 60 [.agg [Zi G.1,Zi G.2,Zi G.3]] (.bool (bp G)) (.sc (bp G==true) 114 [.agg [Zi G.1,Zi G.2,Zi G.3],Zi x] (.bool (aQ G x)) (.out z0 [] z0 []))))
  (by kernel_rfl) ?_
 refine aM (kA (G) (by assumption)) ?_
 refine aV (fun h1=>qT (G) (x) (by assumption)) ?_
 exact aq (aw.of_eq rfl)
theorem ew (b:aI) (hw:b.gr.W):Pure Tryz.prog aW 21 [b.av] (.bool (aR b)):=by
 refine ar (own:=bk) Tryz.func21 (by kernel_rfl) mixed (by kernel_rfl)
  (let z0:={ x:Nat // x≤3∧(fun (i:Nat)=>∀ (j:Nat),j<i→aI.td b j=true) x };let y0:List (Option Ob):=[some ⟨6,1,true,.ba [aI.cells b]⟩,some ⟨1,3,true,.fn fun i x=>Zi (aI.x b i)⟩];let y1:List AV:=[Zi (aI.gr b).1,Zi (aI.gr b).2,Zi (aI.gr b).3];let y2:AV:=(.bool (aR b));(.sc true 60 [.agg y1] (.bool (bp (aI.gr b))) (.br (!bp b.1) (.out (.bool false) [] y2 []) (.loop (z0) (fun (x:z0)=>aY [1,15,16,2,17] [.own 0 6 0 0 6,.aZ 1 1 0 3,Zi 3,.bool false,Zi x.1] y0) (fun (x:z0)=>3 - x.1) (⟨0,⟨Nat.zero_le 3,fun (j:Nat) (hj:j<0)=>absurd hj (Nat.not_lt_zero j)⟩⟩) [1,15,16,2,17] [0,96] [.own 0 6 0 0 6,.aZ 1 1 0 3,Zi 3,.bool false,Zi 0] [some ⟨6,1,true,.ba [aI.cells b]⟩,some ⟨1,3,true,.ba [[Zi (aI.g1 b)],[Zi (aI.g2 b)],[Zi (aI.h b)]]⟩] (fun x3=>let z1:Nat:=(toNat (x3.1:Int)+0);(.br (decide ((x3.1:Int)<3)) (.bf (0≤(x3.1:Int)∧(x3.1:Int)<3) (.sc ((aI.x b z1==1)==false) 61 [.agg y1,Zi (aI.x b z1)] (.bool (bp (aI.gr b)&&aQ (aI.gr b) (aI.x b z1))) (.br (aI.x b z1==1 || !(bp b.1&&aQ b.1 (aI.x b z1))) (.out (.bool false) [] y2 []) (.again (be 0 (fun (x:z0)=>aY [1,15,16,2,17] [.own 0 6 0 0 6,.aZ 1 1 0 3,Zi 3,.bool false,Zi x.1] y0) (fun (x:z0)=>3 - x.1) x3) [1,15,16,2,17] [0,1] [.own 0 6 0 0 6,.aZ 1 1 0 3,Zi 3,.bool false,Zi (wrap .i64 ((x3.1:Int)+1))] [some ⟨6,1,true,.ba [aI.cells b]⟩,some ⟨1,3,true,.fn fun i j=>Zi (aI.x b i)⟩])))) (.out (.bool true) [] y2 [])))))))
  (by kernel_rfl) ?_
 refine aM ((kA (aI.gr b)) (by assumption)) ?_
 refine aL (fun h1=>?_) (fun h1=>?_)
 ·have g1:=(aB aF) h1
  exact aq (aw.of_eq (congrArg _ (by rw [lS,g1];rfl)))
 ·have g1:=(ay aC) h1
  refine aU (fun _ hs=>hs.le (⟨.refl _,.refl _,.refl _,.refl _,.refl _,trivial⟩) (⟨.refl _,K4,trivial⟩)) (fun x3=>?_)
  try (have q3:=x3.2;dsimp only at q3)
  refine aL (fun h4=>?_) (fun h4=>?_)
  ·have g4:=af h4
   refine aD (by omega) ?_
   refine aV (fun h6=>(er (aI.gr b)) (aI.x b (toNat (↑x3.1:Int)+0)) (by assumption)) ?_
   refine aL (fun h7=>?_) (fun h7=>?_)
   ·have g7:=(az ai (aB (aj aF aF))) h7
    try simp only [Int.toNat_natCast] at g7
    exact aq (aw.of_eq (congrArg _ (by rw [lS,nQ (i:=x3.1) (by omega) (aI.Lm g1 g7)];simp)))
   ·have g7:=(au ao (ay (ah aC aC))) h7
    try simp only [Int.toNat_natCast] at g7
    exact aN (⟨x3.1+1,by omega,cF x3.2.2 (aI.Mt g7)⟩) (fun _ hs=>hs.le (⟨.refl _,.refl _,.refl _,.refl _,aJ (by omega),trivial⟩) (⟨.refl _,.refl _,trivial⟩)) (by dsimp only;omega)
  ·have g4:=aa h4
   exact aq (aw.of_eq (congrArg _ (by rw [lS,g1,nv fun j hj=>x3.2.2 j (by omega)];rfl)))
theorem dJ (G:bL) (x:Int) (hw:G.Ok):Pure Tryz.prog aW 81 [G.av,.int .i64 x] (.bool (aQ G x)):=by
 have h1:=hw.p1
 have h2:=hw.q3
 have h3:=hw.qp
 refine ar (own:=bk) Tryz.func81 (by kernel_rfl) mixed (by kernel_rfl)
  (.sc ((decide (x≥1)&&decide (x<G.1))==true) 126 [Zi x,Zi G.2,Zi G.1] (Zi (x^toNat G.2%G.1)) (.out (.bool (decide (x≥1)&&decide (x<G.1)&&x^toNat G.2%G.1==1)) [] (.bool (aQ G x)) []))
  (by kernel_rfl) ?_
 refine aV (fun h0=>j0 (x) (G.2) (G.1) (by (simp at h0;omega)) (by (simp at h0;omega)) (by omega) (by omega) (by assumption)) ?_
 exact aq (aw.of_eq (congrArg _ (Dr hw)))
theorem pW (G:bL) (hw:G.W):Pure Tryz.prog aW 80 [G.av] (.bool (bp G)):=by
 refine ar (own:=bk) Tryz.func80 (by kernel_rfl) mixed (by kernel_rfl)
  (let z0:=(G.1≥2305843009213693952);(.bf (((decide (G.1<3)||decide z0||decide (G.2<3)||Int.tmod G.2 (2:Int)==0)==false)=true→G.2≠(0:Int)) (.br (decide (G.1<3)||decide z0||decide (G.2<3)||Int.tmod G.2 (2:Int)==0||Int.tmod (wrap .i64 (G.1 - 1)) G.2 != 0||decide (G.3<2)||decide (G.3≥G.1)) (.out (.bool false) [] (.bool (bp G)) []) (.sc true 125 [Zi G.1] (.bool (lx G.1)) (.sc (lx G.1==true) 125 [Zi G.2] (.bool (lx G.2)) (.sc ((lx G.1&&lx G.2)==true) 126 [Zi G.3,Zi G.2,Zi G.1] (Zi (G.3^toNat G.2%G.1)) (.out (.bool (lx G.1&&lx G.2&&G.3^toNat G.2%G.1==1)) [] (.bool (bp G)) [])))))))
  (by kernel_rfl) ?_
 refine aD (fun hr=>by have hr:=(cY (au (au (au aa aa) aa) ao)) hr;omega) ?_
 refine aL (fun h1=>?_) (fun h1=>?_)
 ·have g1:=(az (az (az (az (az (az af af) af) ai) aS) af) af) h1
  exact aq (aw.of_eq (congrArg _ (Kn g1).symm))
 ·have g1:=(au (au (au (au (au (au aa aa) aa) ao) aP) aa) aa) h1
  refine aM (IE (G.1) (by have:=iZ g1;omega)) ?_
  refine aV (fun h4=>IE (G.2) (by have:=iZ g1;omega)) ?_
  refine aV (fun h5=>j0 (G.3) (G.2) (G.1) (by have:=iZ g1;omega) (by have:=iZ g1;omega) (by have:=iZ g1;omega) (by have:=iZ g1;omega) (by have:=iZ g1;omega)) ?_
  exact aq (aw.of_eq (congrArg _ (Hs g1)))
theorem fe (b:aI) (hw:b.gr.W):Pure Tryz.prog aW 33 [b.av] (.bool (aR b)):=by
 refine ar (own:=bk) Tryz.func33 (by kernel_rfl) mixed (by kernel_rfl)
  (let y0:List AV:=[Zi (aI.gr b).1,Zi (aI.gr b).2,Zi (aI.gr b).3];(.sc true 80 [.agg y0] (.bool (bp (aI.gr b))) (.sc ((bp b.1&&b.2 != 1&&b.3 != 1&&b.4 != 1)==true) 81 [.agg y0,Zi b.2] (.bool (aQ (aI.gr b) b.2)) (.sc ((bp b.1&&b.2 != 1&&b.3 != 1&&b.4 != 1&&aQ b.1 b.2)==true) 81 [.agg y0,Zi b.3] (.bool (aQ (aI.gr b) b.3)) (.sc ((bp b.1&&b.2 != 1&&b.3 != 1&&b.4 != 1&&aQ b.1 b.2&&aQ b.1 b.3)==true) 81 [.agg y0,Zi b.4] (.bool (aQ (aI.gr b) b.4)) (.out (.bool (bp b.1&&b.2 != 1&&b.3 != 1&&b.4 != 1&&aQ b.1 b.2&&aQ b.1 b.3&&aQ b.1 b.4)) [] (.bool (aR b)) []))))))
  (by kernel_rfl) ?_
 refine aM ((pW (aI.gr b)) (hw)) ?_
 refine aV (fun h1=>(dJ (aI.gr b)) (b.2) (bn.1 (by simp at h1;simp [h1]))) ?_
 refine aV (fun h2=>(dJ (aI.gr b)) (b.3) (bn.1 (by simp at h2;simp [h2]))) ?_
 refine aV (fun h3=>(dJ (aI.gr b)) (b.4) (bn.1 (by simp at h3;simp [h3]))) ?_
 exact aq (aw.of_eq rfl)
end Go.Proofs.YtgnfjlekpgjehaaGreatDoor

namespace Go.Sp
open Go.IntKind (wrap)
open Int (toNat)
open Go Go.Am
theorem cy {a b:Nat} (h:a<b):Nat.blt a b=true:=by simp_all
theorem dh {a b:Nat} (h:b≤a):Nat.blt a b=false:=by grind [Nat.blt,Nat.blt_eq]
theorem mm {a b:Nat} (h:a≠b):Nat.beq a b=false:=by grind [Nat.beq,absurd,Nat.eq_of_beq_eq_true]
theorem aH.ML {os:List (Option Ob)} {n i0:Nat} {mu:Bool} {k:IntKind} {F G:Nat→Int} {X:Int} (h0:X=G i0) (h:∀ i,i<n→i≠i0→F i=G i) :
  aH os ⟨1,n,mu,.fn fun i j=>.int k (bif Nat.beq i (i0+0)&&(Nat.ble 0 j&&Nat.blt j 1) then X else F i)⟩ ⟨1,n,mu,.fn fun i _=>.int k (G i)⟩ :=
 ⟨rfl,rfl,rfl,fun i j hi hj=>aw.of_eq (by
  obtain rfl:j=0:=Nat.lt_one_iff.1 hj
  show AV.int k (bif Nat.beq i i0&&true then X else F i)=.int k (G i)
  grind [Nat.beq_refl,mm])⟩
theorem aH.mP {os:List (Option Ob)} {x x':Nat} {mu:Bool} {k:IntKind} {F:Nat→Int} {v:Int} (hx:x'=x+1) (h:v=F x) :
  aH os ⟨1,x+1,mu,.fn fun i j=>.int k (bif Nat.blt i x then F i else aE (aO [.int k v] j))⟩ ⟨1,x',mu,.fn fun i _=>.int k (F i)⟩:=by
 subst hx
 refine ⟨rfl,rfl,rfl,fun i j hi hj=>aw.of_eq ?_⟩
 obtain rfl:j=0:=Nat.lt_one_iff.1 hj
 have hi:i<x+1:=hi
 show AV.int k (bif Nat.blt i x then F i else v)=.int k (F i)
 by_cases e:i<x
 ·grind [cy]
 grind
theorem aH.CG {os:List (Option Ob)} {m c0:Nat} {mu:Bool} {k:IntKind} {F G:Nat→Int} {X:Int} {P:Nat→Nat→Bool} (hP:∀ j,j<m→P 0 j=Nat.beq j c0) (h0:X=G c0) (h:∀ j,j<m→j≠c0→F j=G j) :
  aH os ⟨m,1,mu,.fn fun i j=>.int k (bif P i j then X else F j)⟩ ⟨m,1,mu,.fn fun _ j=>.int k (G j)⟩ :=
 ⟨rfl,rfl,rfl,fun i j hi hj=>aw.of_eq (by
  obtain rfl:i=0:=Nat.lt_one_iff.1 hi
  show AV.int k (bif P 0 j then X else F j)=.int k (G j)
  grind [Nat.beq_refl,mm])⟩
theorem aH.Av {os:List (Option Ob)} {m:Nat} {mu:Bool} {k:IntKind} {G:Nat→Int} {l:List AV} (h:l=(List.range m).map fun j=>.int k (G j)) :
  aH os ⟨m,1,mu,.ba [l]⟩ ⟨m,1,mu,.fn fun _ j=>.int k (G j)⟩:=by
 subst h
 refine ⟨rfl,rfl,rfl,fun i j hi hj=>aw.of_eq ?_⟩
 obtain rfl:i=0:=Nat.lt_one_iff.1 hi
 exact dw hj
theorem jx {F:Nat→Int} {z:Int} {i q:Nat} (h:q≠i):(bif Nat.blt q i then F q else z)=(bif Nat.blt q (i+1) then F q else z):=by grind [cy,dh]
theorem aH.Oo {os:List (Option Ob)} {n i:Nat} {mu:Bool} {k:IntKind} {F:Nat→Int} {X z:Int} (h:X=F i) :
  aH os ⟨1,n,mu,.fn fun q j=>.int k (bif Nat.beq q (i+0)&&(Nat.ble 0 j&&Nat.blt j 1) then X else (bif Nat.blt q i then F q else z))⟩ ⟨1,n,mu,.fn fun q _=>.int k (bif Nat.blt q (i+1) then F q else z)⟩ :=
 aH.ML (i0:=i) (by simp_all [cy]) (fun q _ he=>jx he)
theorem aH.fnR {os:List (Option Ob)} {m:Nat} {mu:Bool} {k:IntKind} {F G:Nat→Int} (h:∀ j,j<m→F j=G j) :
  aH os ⟨m,1,mu,.fn fun _ j=>.int k (F j)⟩ ⟨m,1,mu,.fn fun _ j=>.int k (G j)⟩:=⟨rfl,rfl,rfl,fun _ j _ hj=>aw.of_eq (congrArg _ (h j hj))⟩
theorem aH.fnF {os:List (Option Ob)} {n n':Nat} {mu:Bool} {k:IntKind} {F G:Nat→Int} (hn:n=n') (h:∀ i,i<n→F i=G i) :
  aH os ⟨1,n,mu,.fn fun i _=>.int k (F i)⟩ ⟨1,n',mu,.fn fun i _=>.int k (G i)⟩:=⟨rfl,hn,rfl,fun i _ hi _=>aw.of_eq (congrArg _ (h i hi))⟩
theorem oY {F z:Nat→Int} {i q:Nat} (h:q≠i):(bif Nat.blt q i then F q else z q)=(bif Nat.blt q (i+1) then F q else z q):=by grind [cy,dh]
theorem ri {l:List Int} {k:IntKind} {i:Nat} (h:i<l.length):aO ((l.map fun x=>[AV.int k x]).getD i []) 0=.int k (l.getD i 0):=by
 rw [List.getD_eq_getElem?_getD,List.getD_eq_getElem?_getD,List.getElem?_map,List.getElem?_eq_getElem h]
 rfl
abbrev sps (n:Nat) (S:Nat→aA):AV:=.aG 80 n (fun i j=>aO (S i).cells j)
abbrev ils (n:Nat) (f:Nat→Int):AV:=.aG 1 n (fun i _=>.int .i64 (f i))
structure Chn where
  first : aA
  n : Nat
  l : Nat → aA
def Chn.cells (h:Chn):List AV:=h.first.cells++[sps h.n h.l]
def Chn.av (h:Chn):AV:=.agg h.cells
structure Esc where
  e1 : Int
  e2 : Int
  na : Nat
  a : Nat → Int
  c : Int
  nz : Nat
  z : Nat → Int
def Esc.cw (e:Esc) (x y:AV):List AV:=[.int .i64 e.e1,.int .i64 e.e2,x,.int .i64 e.c,y]
def Esc.cells (e:Esc):List AV:=e.cw (ils e.na e.a) (ils e.nz e.z)
def Esc.av (e:Esc):AV:=.agg e.cells
abbrev chs (n:Nat) (f:Nat→Chn):AV:=.aG 81 n (fun i j=>aO (f i).cells j)
abbrev Ps (n:Nat) (f:Nat→Esc):AV:=.aG 5 n (fun i j=>aO (f i).cells j)
structure Gg where
  number : Int
  ns : Nat
  sp : Nat → aA
  nc : Nat
  ch : Nat → Chn
  ne : Nat
  es : Nat → Esc
def Gg.cw (p:Gg) (x y z:AV):List AV:=[.int .i64 p.number,x,y,z]
def Gg.cells (p:Gg):List AV:=p.cw (sps p.ns p.sp) (chs p.nc p.ch) (Ps p.ne p.es)
def Gg.av (p:Gg):AV:=.agg p.cells
structure Inv where
  bI : Nat → Int
  L3 : Int
  time : Int
  number : Int
def bh (p:Nat→Int):List AV:=[.int .u8 (p 0),.int .u8 (p 1),.int .u8 (p 2),.int .u8 (p 3),.int .u8 (p 4),.int .u8 (p 5),.int .u8 (p 6),.int .u8 (p 7),.int .u8 (p 8),.int .u8 (p 9),.int .u8 (p 10),.int .u8 (p 11),.int .u8 (p 12),.int .u8 (p 13),.int .u8 (p 14),.int .u8 (p 15),.int .u8 (p 16),.int .u8 (p 17),.int .u8 (p 18),.int .u8 (p 19),.int .u8 (p 20),.int .u8 (p 21),.int .u8 (p 22),.int .u8 (p 23),.int .u8 (p 24),.int .u8 (p 25),.int .u8 (p 26),.int .u8 (p 27),.int .u8 (p 28),.int .u8 (p 29),.int .u8 (p 30),.int .u8 (p 31)]
def Inv.cells (v:Inv):List AV:=bh v.bI++[.int .i64 v.L3,.int .i64 v.time,.int .i64 v.number]
def Inv.av (v:Inv):AV:=.agg v.cells
def Inv.zero:Inv:=⟨fun _=>0,0,0,0⟩
def anyI (p:Nat→Bool) (n:Nat):Bool:=decide (aK p n 0≥0)
def Gg.zero:Gg:=⟨0,0,fun _=>.zero,0,fun _=>⟨.zero,0,fun _=>.zero⟩,0,fun _=>⟨0,0,0,fun _=>0,0,0,fun _=>0⟩⟩
structure PV (p : Gg) : Prop where
  ns : p.ns ≤ 8
  nc : p.nc ≤ 8
  ne : p.ne ≤ 20
  sp : ∀ i, i < p.ns → (p.sp i).nl ≤ 1000 ∧ (p.sp i).np ≤ 1000
  cn : ∀ i, i < p.nc → (p.ch i).n ≤ 10
  cf : ∀ i, i < p.nc → (p.ch i).first.nl ≤ 1000 ∧ (p.ch i).first.np ≤ 1000
  cl : ∀ i j, i < p.nc → j < (p.ch i).n → ((p.ch i).l j).nl ≤ 1000 ∧ ((p.ch i).l j).np ≤ 1000
  es : ∀ i, i < p.ne → (p.es i).na ≤ 1000 ∧ (p.es i).nz ≤ 1000
theorem cM.app {os:List (Option Ob)}:∀ {l l' m m':List AV},cM os l l'→cM os m m'→cM os (l++m) (l'++m')
 | [],[],_,_,_,h=>h
 | _::_,_::_,_,_,h,h'=>⟨h.1,cM.app h.2 h'⟩
 | [],_::_,_,_,h,_=>h.elim
 | _::_,[],_,_,h,_=>h.elim
theorem eL {g:Nat→Int} {j:Nat} (h:j<32):aE (aO (bh g) j)=g j:=congrArg aE (dw (es:=32) (g:=fun j=>AV.int .u8 (g j)) h)
def dj (x y:Int):Int:=IntKind.wrap .u32 (x+y)
def p6 (x y:Int):Int:=IntKind.wrap .u32 ((BitVec.ofInt 32 x ^^^ BitVec.ofInt 32 y).toNat:Nat)
def EH (x y:Int):Int:=IntKind.wrap .u32 ((BitVec.ofInt 32 x &&& BitVec.ofInt 32 y).toNat:Nat)
def PK (x:Int):Int:=IntKind.wrap .u32 ((BitVec.ofInt 32 4294967295 ^^^ BitVec.ofInt 32 x).toNat:Nat)
def Ov (x:Int) (n:Nat):Int:=x / 2^n
def cD (x:Int) (n:Nat):Int:=IntKind.wrap .u32 ((BitVec.ofInt 32 (x / 2^n) ||| BitVec.ofInt 32 (IntKind.wrap .u32 (x*2^(32 - n)))).toNat:Nat)
theorem AN (a b:Int):IntKind.wrap .u32 ((BitVec.ofInt 32 a ||| BitVec.ofInt 32 b).toNat:Nat)=IntKind.wrap .u32 ((BitVec.ofInt 32 b ||| BitVec.ofInt 32 a).toNat:Nat):=by grind
theorem OH:∀ n:Fin 32,0<n.val→IntKind.wrap .u64 ((BitVec.ofInt 64 (IntKind.wrap .u64 (IntKind.wrap .i64 (0 - (n.val:Int)))) &&& BitVec.ofInt 64 31).toNat:Nat)=((32 - n.val:Nat):Int):=by decide +kernel
theorem J0 {n:Nat} (h0:0<n) (h:n<32):IntKind.wrap .u64 ((BitVec.ofInt 64 (IntKind.wrap .u64 (IntKind.wrap .i64 (0 - (n:Int)))) &&& BitVec.ofInt 64 31).toNat:Nat)=((32 - n:Nat):Int):=OH ⟨n,h⟩ h0
def rE (n:Int) (i:Nat):Int:=n / 2^(56 - 8*i)%256
abbrev dn (n:Nat) (f:Nat→Int):AV:=.aG 1 n (fun i _=>.int .u8 (f i))
theorem ex8 {i:Nat} (h:i<8):min (toNat (IntKind.wrap .i64 (56 - IntKind.wrap .i64 (8*(i:Int))))) 64=56 - 8*i:=by grind [wI,Int]
theorem OJ {n:Int} {i:Nat} (h:i<8):IntKind.wrap .u8 (Int.fdiv n (2^min (toNat (IntKind.wrap .i64 (56 - IntKind.wrap .i64 (8*(i:Int))))) 64))=rE n i:=by
 rw [ex8 h,vX,dt];rfl
theorem NB {n:Int} {i:Nat} (h:i<8):IntKind.wrap .u8 (Int.fdiv n (2^min (toNat (IntKind.wrap .i64 (8*(7 - (i:Int))))) 64))=rE n i:=by
 rw [wI (by omega) (by omega),show min (toNat (8*(7 - (i:Int)))) 64=56 - 8*i by omega,vX,dt];rfl
theorem jt {os:List (Option Ob)} {n n':Nat} {f g:Nat→Nat→Int} (hn:n=n') (h:∀ i,i<n→f i 0=g i 0):aw os (.aG 1 n fun i j=>.int .u8 (f i j)) (.aG 1 n' fun i j=>.int .u8 (g i j)):=by
 refine aw.ia hn fun i j hi hj=>?_
 obtain rfl:j=0:=Nat.lt_one_iff.1 hj
 exact congrArg _ (h i hi)
def preB (b:Nat→Int) (i:Nat):Nat→Int
 | 0=>0
 | k+1=>preB b i k*256+b (4*i+k)
def qG (b:Nat→Int) (i:Nat):Int:=preB b i 4
def sg0 (x:Int):Int:=p6 (p6 (cD x 7) (cD x 18)) (Ov x 3)
def sg1 (x:Int):Int:=p6 (p6 (cD x 17) (cD x 19)) (Ov x 10)
def bg (b:Nat→Int) (j:Nat):Int :=
 if h:j<16 then qG b j
 else dj (dj (dj (bg b (j - 16)) (sg0 (bg b (j - 15)))) (bg b (j - 7))) (sg1 (bg b (j - 2)))
termination_by j
decreasing_by all_goals omega
theorem oJ {b:Nat→Int} {j:Nat} (h:j<16):bg b j=qG b j:=by rw [bg,dif_pos h]
theorem tk {b:Nat→Int} {j:Nat} (h:16≤j):bg b j=dj (dj (dj (bg b (j - 16)) (sg0 (bg b (j - 15)))) (bg b (j - 7))) (sg1 (bg b (j - 2))):=by rw [bg,dif_neg (by omega)]
def S1 (e:Int):Int:=p6 (p6 (cD e 6) (cD e 11)) (cD e 25)
def S0 (a:Int):Int:=p6 (p6 (cD a 2) (cD a 13)) (cD a 22)
def chF (e f g:Int):Int:=p6 (EH e f) (EH (PK e) g)
def Pt (a b c:Int):Int:=p6 (p6 (EH a b) (EH a c)) (EH b c)
def rX (v w:Nat→Int) (t:Nat):Int:=dj (dj (dj (dj (v 7) (S1 (v 4))) (chF (v 4) (v 5) (v 6))) (kF t)) (w t)
def rY (v:Nat→Int):Int:=dj (S0 (v 0)) (Pt (v 0) (v 1) (v 2))
def j7 (s w:Nat→Int):Nat→Nat→Int
 | 0,i=>s i
 | t+1,i=>match i with
  | 0=>dj (rX (j7 s w t) w t) (rY (j7 s w t))
  | 4=>dj (j7 s w t 3) (rX (j7 s w t) w t)
  | j+1=>j7 s w t j
def MB (s b:Nat→Int) (i:Nat):Int:=dj (s i) (j7 s (bg b) 64 i)
def cC (b:Nat→Int) (n:Nat):Prop:=∀ i,i<n→0≤b i∧b i<256
theorem yI {b:Nat→Int} {i:Nat} (h:∀ k,k<4→0≤b (4*i+k)∧b (4*i+k)<256):∀ k,k≤4→0≤preB b i k∧preB b i k<256^k
 | 0,_=>by simp [preB]
 | k+1,hk=>by
  have h1:=yI h k (by omega)
  grind [preB,Int.pow_succ]
theorem Cq {x c:Int} (h0:0≤x) (h1:x<16777216) (h2:0≤c) (h3:c<256):IntKind.wrap .u32 ((BitVec.ofInt 32 (IntKind.wrap .u32 (x*2^8)) ||| BitVec.ofInt 32 (IntKind.wrap .u32 c)).toNat:Nat)=x*256+c:=by
 obtain ⟨n,rfl⟩:=Int.eq_ofNat_of_zero_le h0
 obtain ⟨m,rfl⟩:=Int.eq_ofNat_of_zero_le h2
 have e:((n:Int)*2^8)=((n*2^8:Nat):Int):=by omega
 rw [Hi (n:=(m:Int)) (by omega) (by omega),e,Hi (n:=((n*2^8:Nat):Int)) (by omega) (by omega),orN (by omega) (by omega),← Nat.shiftLeft_eq,← Nat.shiftLeft_add_eq_or_of_lt (show m<2^8 by omega),Nat.shiftLeft_eq,Hi (by omega) (by omega)]
 omega
theorem Hb {os:List (Option Ob)} {f g:Nat→Int} {n:Nat}:aH os ⟨1,0+n,true,.fn fun i _=>.int .u8 (f i)⟩ ⟨1,n+0,true,.fn fun i _=>.int .u8 (bif Nat.blt i n then f i else g (i - n))⟩ :=
 ⟨rfl,by simp,rfl,fun i j hi _=>aw.of_eq (by have hi:i<0+n:=hi;show AV.int .u8 (f i)=.int .u8 (bif Nat.blt i n then f i else g (i - n));grind [cy])⟩
theorem w4 {i:Nat} (h:i<16):IntKind.wrap .i64 (4*(i:Int))=4*i∧IntKind.wrap .i64 (4*(i:Int)+4)=4*i+4:=⟨wI (by omega) (by omega),wI (by omega) (by omega)⟩
theorem HH {os:List (Option Ob)} {G:Nat→Int} (h:∀ j,G j=0):aH os ⟨64,1,true,.ba [(List.range 64).map fun _=>.int .u32 0]⟩ ⟨64,1,true,.fn fun _ j=>.int .u32 (G j)⟩:=aH.Av (by grind)
theorem yT {b:Nat→Int} {i k:Nat} (hb:cC b 64) (hi:i<16) (hk:k<4):0≤preB b i k∧preB b i k<16777216:=by
 have h:=yI (b:=b) (i:=i) (fun q hq=>hb _ (by omega)) k (by omega)
 match k,hk,h with
 | 0,_,h|1,_,h|2,_,h|3,_,h=>omega
theorem kG {t:Nat} {d:Int} {k:Nat} (h:d=k) (hk:k≤16+t) (ht:t<1000):toNat (IntKind.wrap .i64 (((16+t:Nat):Int) - d))=16+t - k:=by grind [wI]
structure Rnd (s w : Nat → Int) (R : Nat → Nat → Int) : Prop where
  z : ∀ i, R 0 i = s i
  s0 : ∀ t, R (t + 1) 0 = dj (rX (R t) w t) (rY (R t))
  s1 : ∀ t, R (t + 1) 1 = R t 0
  s2 : ∀ t, R (t + 1) 2 = R t 1
  s3 : ∀ t, R (t + 1) 3 = R t 2
  s4 : ∀ t, R (t + 1) 4 = dj (R t 3) (rX (R t) w t)
  s5 : ∀ t, R (t + 1) 5 = R t 4
  s6 : ∀ t, R (t + 1) 6 = R t 5
  s7 : ∀ t, R (t + 1) 7 = R t 6
theorem rnd (s w:Nat→Int):Rnd s w (j7 s w):=⟨fun _=>rfl,fun _=>rfl,fun _=>rfl,fun _=>rfl,fun _=>rfl,fun _=>rfl,fun _=>rfl,fun _=>rfl,fun _=>rfl⟩
def bj (n:Nat):Nat:=((n+8) / 64+1)*64
def iM (n:Nat) (f:Nat→Int) (i:Nat):Int:=bif Nat.blt i n then f i else bif Nat.beq i n then 128 else 0
def ed (n:Nat) (f:Nat→Int) (i:Nat):Int:=bif Nat.blt i (bj n - 8) then iM n f i else rE (8*(n:Int)) (i - (bj n - 8))
def nF (p:Nat→Int):Nat→Nat→Int
 | 0=>yS
 | k+1=>MB (nF p k) (fun i=>p (64*k+i))
def bX (v:Nat→Int) (j:Nat):Int:=v (j / 4) / 2^(24 - 8*(j%4))%256
def eU (n:Nat) (f:Nat→Int):Nat→Int:=bX (nF (ed n f) (bj n / 64))
theorem jf (n:Nat):bj n%64=0∧n+9≤bj n∧bj n<n+73:=by grind [bj]
theorem Gm {n z:Nat} (h:n+1+z+8=bj n):(n+1+z)%64=56:=by grind [jf]
theorem DF {n z:Nat} (h:n+1+z+8<bj n):(n+1+z)%64≠56:=by grind [jf]
theorem DY {n:Nat} {f:Nat→Int} (hf:cC f n) (i:Nat):0≤ed n f i∧ed n f i<256:=by
 unfold ed
 by_cases h:i<bj n - 8
 ·rw [cy h]
  show 0≤iM n f i∧iM n f i<256
  unfold iM
  by_cases h1:i<n
  ·rw [cy h1];exact hf i h1
  grind [dh,Nat.beq_refl,Int,mm]
 grind [dh,rE]
theorem GR {n:Nat} {f:Nat→Int} {i:Nat} (h:i<n):iM n f i=f i:=by grind [iM,cy]
theorem Hf (n:Nat) (f:Nat→Int):iM n f n=128:=by simp [iM,dh,Nat.beq_refl]
theorem BY {n:Nat} {f:Nat→Int} {i:Nat} (h:n<i):iM n f i=0:=by grind [iM,dh,mm]
theorem Cj {os:List (Option Ob)} {n:Nat} {f:Nat→Int}:aH os ⟨1,n+1,true,.fn fun i j=>.int .u8 (bif Nat.blt i n then f i else aE (aO [.int .u8 128] j))⟩ ⟨1,n+1+0,true,.fn fun i _=>.int .u8 (iM n f i)⟩ :=
 ⟨rfl,rfl,rfl,fun i j hi hj=>aw.of_eq (by
  obtain rfl:j=0:=Nat.lt_one_iff.1 hj
  have hi:i<n+1:=hi
  show AV.int .u8 (bif Nat.blt i n then f i else 128)=.int .u8 (iM n f i)
  by_cases e:i<n
  ·grind [cy,GR]
  ·obtain rfl:i=n:=by omega
   simp [dh,Hf])⟩
theorem oR {n x:Nat} (hx:x≤bj n - n - 9) (g:Int.tmod ((n+1+x:Nat):Int) 64=56):n+1+x+8=bj n:=by grind [jf,bj,DF,bY]
theorem su {n x:Nat} (hx:x≤bj n - n - 9) (g:¬Int.tmod ((n+1+x:Nat):Int) 64=56):x+1≤bj n - n - 9:=by grind [jf,bj,Gm,bY]
theorem GV {os:List (Option Ob)} {n x:Nat} {f:Nat→Int} (hn:n≤1099511627776) (h:n+1+x+8=bj n):aH os ⟨1,n+1+x+8,true,.fn fun i _=>.int .u8 (bif Nat.blt i (n+1+x) then iM n f i else rE (IntKind.wrap .u64 (8*IntKind.wrap .u64 (n:Int))) (i - (n+1+x)))⟩ ⟨1,bj n,true,.fn fun i _=>.int .u8 (ed n f i)⟩ :=
 aH.fnF h fun i _=>by grind [dx,Int,ed]
theorem M9 {v:Nat→Int} {i k:Nat} (hk:k<4) (hi:i<8):IntKind.wrap .u8 (Int.fdiv (v i) (2^min (toNat (IntKind.wrap .i64 (24 - IntKind.wrap .i64 (8*(k:Int))))) 32))=bX v (4*i+k):=by grind [wI,Int,min,toNat,vX,dt,bX]
theorem w4k {i k:Nat} (h:i<16) (hk:k≤4):IntKind.wrap .i64 (IntKind.wrap .i64 (4*(i:Int))+(k:Int))=4*i+k:=by grind [wI,Int]
theorem qW {os:List (Option Ob)} {G:Nat→Int} (h:∀ j,G j=0):aH os ⟨32,1,true,.ba [(List.range 32).map fun _=>.int .u8 0]⟩ ⟨32,1,true,.fn fun _ j=>.int .u8 (G j)⟩:=aH.Av (by grind)
theorem Ic {x c:Int} (h0:0≤x) (h1:x<16777216) (h2:0≤c) (h3:c<256):IntKind.wrap .u32 (IntKind.wrap .u32 (x*256)+IntKind.wrap .u32 c)=x*256+c:=by grind [Hi]
theorem OL {os:List (Option Ob)} {mu:Bool} {G:Nat→Int} (h:G=yS):aH os ⟨1,8,mu,.ba (stL.map fun x=>[.int .u32 x])⟩ ⟨1,8,mu,.fn fun i _=>.int .u32 (G i)⟩:=by
 subst h
 refine pV fun i j hi hj=>?_
 obtain rfl:j=0:=Nat.lt_one_iff.1 hj
 exact ri (l:=stL) hi
theorem Lc {n x:Nat} {f:Nat→Int} (h:n+1+x+8=bj n) (i:Nat):(bif Nat.blt (i+0) (n+1+x) then iM n f (i+0) else rE (8*(n:Int)) (i+0 - (n+1+x)))=ed n f i:=by grind [ed]
theorem w64 {n k:Nat} (hn:n≤1099511627776) (h:k<bj n / 64):IntKind.wrap .i64 (((64*k:Nat):Int)+64)=((64*(k+1):Nat):Int):=by grind [jf,wI]
theorem rJ {a b:Nat→Int} {i:Nat} (h:∀ k,k<4→a (4*i+k)=b (4*i+k)):∀ k,k≤4→preB a i k=preB b i k
 | 0,_=>rfl
 | k+1,hk=>by unfold preB;rw [rJ h k (by omega),h k (by omega)]
theorem wO {a b:Nat→Int} (h:∀ i,i<64→a i=b i) (j:Nat):bg a j=bg b j:=by
 induction j using Nat.strongRecOn with
 | _ j ih =>
  by_cases hj:j<16
  ·rw [oJ hj,oJ hj]
   exact rJ (fun k hk=>h _ (by omega)) 4 (Nat.le_refl _)
  grind [tk]
theorem Kh {os:List (Option Ob)} {s w:Nat→Int} {R:Nat→Nat→Int} (h:Rnd s w R) {t:Nat} {a e:Int} (ha:a=R (t+1) 0) (he:e=R (t+1) 4) :
  aH os ⟨1,8,true,.ba [[.int .u32 a],[.int .u32 (R t 0)],[.int .u32 (R t 1)],[.int .u32 (R t 2)],[.int .u32 e],[.int .u32 (R t 4)],[.int .u32 (R t 5)],[.int .u32 (R t 6)]]⟩ ⟨1,8,true,.fn fun i _=>.int .u32 (R (t+1) i)⟩ :=
 pV fun i j hi hj=>by
  obtain rfl:j=0:=Nat.lt_one_iff.1 hj
  match i,hi with
  | 0,_=>exact congrArg _ ha
  | 1,_=>exact congrArg _ (h.s1 t).symm
  | 2,_=>exact congrArg _ (h.s2 t).symm
  | 3,_=>exact congrArg _ (h.s3 t).symm
  | 4,_=>exact congrArg _ he
  | 5,_=>exact congrArg _ (h.s5 t).symm
  | 6,_=>exact congrArg _ (h.s6 t).symm
  | 7,_=>exact congrArg _ (h.s7 t).symm
theorem q4 {i:Nat} (h:i<32):IntKind.wrap .i64 (Int.tdiv (i:Int) 4)=((i / 4:Nat):Int)∧IntKind.wrap .i64 (24 - IntKind.wrap .i64 (8*Int.tmod (i:Int) 4))=((24 - 8*(i%4):Nat):Int):=by grind [mn,bY,wI,Int]
theorem Nc {v:Nat→Int} {i:Nat} (h:i<32):IntKind.wrap .u8 (Int.fdiv (v (toNat (IntKind.wrap .i64 (Int.tdiv (i:Int) 4))+0)) (2^min (toNat (IntKind.wrap .i64 (24 - IntKind.wrap .i64 (8*Int.tmod (i:Int) 4)))) 32))=bX v i:=by
 rw [(q4 h).1,(q4 h).2,Int.toNat_natCast,Int.toNat_natCast,Nat.min_eq_left (by omega),vX,dt]
 rfl
end Go.Sp

namespace Go.Proofs.YtgnfjlekpgjehaaGreatDoor
open Go.IntKind (wrap)
open Int (toNat)
open Go Go.Am Go.Sp
set_option maxRecDepth 100000
theorem L8 (x:Int) (n:Nat) (h0:0<n) (h:n<32):Pure Tryz.prog aW 305 [.int .u32 x,.int .i64 (IntKind.wrap .i64 (0 - (n:Int)))] (.int .u32 (cD x n)):=by
 have e:=J0 h0 h
 refine ar (own:=bk) Tryz.func305 (by kernel_rfl) mixed (by kernel_rfl)
  (let z0:Int:=(↑(BitVec.toNat (BitVec.ofInt 64 (wrap .u64 (wrap .i64 ((0:Int) - (n:Int)))) &&& BitVec.ofInt 64 (31:Int))):Int);(.bf ((0:Int)≤wrap .u64 z0) (.bf ((0:Int)≤wrap .u64 ((32:Int) - wrap .u64 z0)) (.out (Zw (wrap .u32 (↑(BitVec.toNat (BitVec.ofInt 32 (wrap .u32 (x*2^min (toNat (wrap .u64 z0)) 32)) ||| BitVec.ofInt 32 (Int.fdiv x ((2:Int)^min (toNat (wrap .u64 ((32:Int) - wrap .u64 z0))) 32)))):Int))) [] (Zw (cD x n)) []))))
  (by kernel_rfl) ?_
 refine aD (by rw [e];omega) ?_
 refine aD (by rw [e,dx (by omega) (by omega)];omega) ?_
 exact aq (aw.of_eq (congrArg _ (by rw [e,dx (n:=32 - ((32 - n:Nat):Int)) (by omega) (by omega),AN,dt];unfold cD;rw [show min (toNat (32 - ((32 - n:Nat):Int))) 32=n by omega,show min (toNat ((32 - n:Nat):Int)) 32=32 - n by omega])))
theorem gM (x:Int) (n:Nat) (h0:0<n) (h:n<32):Pure Tryz.prog aW 254 [.int .u32 x,.int .i64 n] (.int .u32 (cD x n)):=by
 refine ar (own:=bk) Tryz.func254 (by kernel_rfl) mixed (by kernel_rfl)
  (.sc true 305 [Zw x,Zi (wrap .i64 ((0:Int) - (n:Int)))] (Zw (cD x n)) (.out (Zw (cD x n)) [] (Zw (cD x n)) []))
  (by kernel_rfl) ?_
 refine aM (L8 (x) (n) (by assumption) (by assumption)) ?_
 exact aq (aw.of_eq (by rfl))
theorem fG (x:Int) (n:Nat) (h0:0<n) (h:n<32):Pure Tryz.prog aW 191 [.int .u32 x,.int .i64 n] (.int .u32 (cD x n)):=by
 have e:IntKind.wrap .i64 (32 - (n:Int))=((32 - n:Nat):Int):=by rw [wI (by omega) (by omega)];omega
 refine ar (own:=bk) Tryz.func191 (by kernel_rfl) mixed (by kernel_rfl)
  (.bf (0≤(n:Int)) (.bf ((0:Int)≤wrap .i64 ((32:Int) - (n:Int))) (.out (Zw (wrap .u32 (↑(BitVec.toNat (BitVec.ofInt 32 (Int.fdiv x ((2:Int)^min (toNat (n:Int)) 32)) ||| BitVec.ofInt 32 (wrap .u32 (x*2^min (toNat (wrap .i64 ((32:Int) - (n:Int)))) 32)))):Int))) [] (Zw (cD x n)) [])))
  (by kernel_rfl) ?_
 refine aD (by omega) ?_
 refine aD (by rw [e];omega) ?_
 exact aq (aw.of_eq (congrArg _ (by rw [e,dt];unfold cD;rw [show min (toNat ((32 - n:Nat):Int)) 32=32 - n by omega,show min (toNat (n:Int)) 32=n by omega])))
theorem GM (n:Int) (h:0≤n) (h':n<18446744073709551616):Pure Tryz.prog aW 177 [.int .u64 n] (dn 8 (rE n)):=by
 refine ar (own:=bk) Tryz.func177 (by kernel_rfl) mixed (by kernel_rfl)
  (let y0:=(fun (x:{ x:Nat // x≤8 })=>aY [0,3,7,8] [Zu n,AV.aZ 0 1 0 8,Zi (↑(8):Int),Zi (↑(x.1):Int)] [some ⟨1,8,true,bz.fn fun (q x_1:Nat)=>Zb (bif Nat.blt q (x.1) then rE n q else (0:Int))⟩]);let y1:=(fun (x:{ x:Nat // x≤8 })=>8 - x.1);(.bf ((0:Int)≤8∧(8:Int)=(8:Int)∧(↑(1):Int)*8≤140737488355328∧(8:Int)≤9223372036854775807) (.loop ({ x:Nat // x≤8 }) y0 y1 (⟨0,Nat.zero_le 8⟩) ([0,3,7,8]) ([8]) ([Zu n,AV.aZ 0 1 0 8,Zi (↑(8):Int),Zi 0]) ([some ⟨1,8,true,bz.fn fun (i j:Nat)=>Zb (aE (aO (ck (Value.int IntKind.u8 (0:Int))) j))⟩]) (fun x1=>(.br (decide ((↑x1.1:Int)<(↑(8):Int))) (.bf ((0:Int)≤wrap .i64 ((56:Int) - wrap .i64 ((8:Int)*(↑x1.1:Int)))) (.bf ((0:Int)≤(↑x1.1:Int)∧(↑x1.1:Int)<(↑(8):Int)) (.again (be 0 y0 y1 x1) ([0,3,7,8]) ([0]) ([Zu n,AV.aZ 0 1 0 8,Zi (↑(8):Int),Zi (wrap .i64 ((↑x1.1:Int)+1))]) ([some ⟨1,8,true,bz.fn fun (i j:Nat)=>Zb (bif Nat.beq i (toNat (↑x1.1:Int)+0)&&(Nat.ble 0 j&&Nat.blt j 1) then wrap .u8 (Int.fdiv n ((2:Int)^min (toNat (wrap .i64 ((56:Int) - wrap .i64 ((8:Int)*(↑x1.1:Int))))) 64)) else bif Nat.blt i x1.1 then rE n i else (0:Int))⟩])))) (.out (AV.aG 1 8 fun (r k:Nat)=>Zb (bif Nat.blt (r+0) x1.1 then rE n (r+0) else (0:Int))) [] (dn 8 (rE n)) []))))))
  (by kernel_rfl) ?_
 refine aD (by omega) ?_
 refine aU (fun _ hs=>hs.le (by repeat' (first|exact trivial|(first|exact aw.refl _|exact aJ (by omega)|exact aw.nil rfl|exact aw.of_eq (congrArg (AV.aZ _ _ _) (by first|omega|(dsimp only;omega)))|exact aw.of_eq (congrArg (AV.int _) (by first|omega|(dsimp only;omega))))|refine And.intro ?_ ?_)) (⟨⟨rfl,rfl,rfl,fun i j hi hj=>aw.of_eq (by obtain rfl:j=0:=Nat.lt_one_iff.1 hj;rfl)⟩,trivial⟩)) (fun x1=>?_)
 try (have q1:=x1.2;dsimp only at q1)
 refine aL (fun h2=>?_) (fun h2=>?_)
 ·have g2:=af h2
  refine aD (by rw [wI (n:=8*(x1.1:Int)) (by omega) (by omega),wI (by omega) (by omega)];omega) ?_
  refine aD (by omega) ?_
  exact aN (⟨x1.1+1,by omega⟩) (fun _ hs=>hs.le (by repeat' (first|exact trivial|(first|exact aw.refl _|exact aJ (by omega)|exact aw.nil rfl|exact aw.of_eq (congrArg (AV.aZ _ _ _) (by first|omega|(dsimp only;omega)))|exact aw.of_eq (congrArg (AV.int _) (by first|omega|(dsimp only;omega))))|refine And.intro ?_ ?_)) (⟨aH.Oo (OJ (by omega)),trivial⟩)) (by (dsimp only;omega))
 ·have g2:=aa h2
  exact aq (jt rfl (fun i hi=>by rw [cy (by omega)];rfl))
theorem CK (n:Int) (h:0≤n) (h':n<9223372036854775808):Pure Tryz.prog aW 266 [.int .i64 n] (dn 8 (rE n)):=by
 refine ar (own:=bk) Tryz.func266 (by kernel_rfl) mixed (by kernel_rfl)
  (let y0:=(fun (x:{ x:Nat // x≤8 })=>aY [0,3,4] [Zi n,.aZ 0 1 0 (x.1),Zi ((7:Int) - (↑(x.1):Int))] [some ⟨1,x.1,true,.fn fun q x=>Zb (rE n q)⟩]);let y1:=(fun (x:{ x:Nat // x≤8 })=>8 - x.1);(.loop ({ x:Nat // x≤8 }) y0 y1 (⟨0,Nat.zero_le 8⟩) [0,3,4] [280] [Zi n,.bc,Zi 7] [some ⟨1,0,true,.ty (999999999:TypeId) (.ba [])⟩] (fun x0=>(.br (decide ((7:Int) - (x0.1:Int)≥0)) (.bf ((0:Int)≤wrap .i64 ((8:Int)*((7:Int) - (x0.1:Int)))) (.bf ((x0.1+1)*1≤140737488355328) (.again (be 0 y0 y1 x0) [0,3,4] [73] [Zi n,.aZ 0 1 0 (x0.1+1),Zi (wrap .i64 ((7:Int) - (x0.1:Int) - 1))] [some ⟨1,x0.1+1,true,.fn fun i j=>Zb (bif Nat.blt i x0.1 then rE n i else aE (aO [Zb (wrap .u8 (Int.fdiv n ((2:Int)^min (toNat (wrap .i64 ((8:Int)*((7:Int) - (x0.1:Int))))) 64)))] j))⟩]))) (.out (.aG 1 x0.1 fun r k=>Zb (rE n (r+0))) [] (dn 8 (rE n)) [])))))
  (by kernel_rfl) ?_
 refine aU (fun _ hs=>hs.le (by repeat' (first|exact trivial|(first|exact aw.refl _|exact aJ (by omega)|exact aw.nil rfl|exact aw.of_eq (congrArg (AV.aZ _ _ _) (by first|omega|(dsimp only;omega)))|exact aw.of_eq (congrArg (AV.int _) (by first|omega|(dsimp only;omega))))|refine And.intro ?_ ?_)) (by repeat' (first|exact trivial|(first|exact aH.refl _|exact aH.bw|exact aH.zero|exact aH.push rfl rfl|exact aH.cm rfl|exact aH.len (by omega)|exact aH.row (by repeat' (first|exact trivial|(first|exact aw.refl _|exact aJ (by omega)|exact aw.nil rfl|exact aw.of_eq (congrArg (AV.aZ _ _ _) (by first|omega|(dsimp only;omega)))|exact aw.of_eq (congrArg (AV.int _) (by first|omega|(dsimp only;omega))))|refine And.intro ?_ ?_)))|refine And.intro ?_ ?_))) (fun x0=>?_)
 try (have q0:=x0.2;dsimp only at q0)
 refine aL (fun h1=>?_) (fun h1=>?_)
 ·have g1:=af h1
  refine aD (by rw [wI (by omega) (by omega)];omega) ?_
  refine aD (by omega) ?_
  exact aN (⟨x0.1+1,by omega⟩) (fun _ hs=>hs.le (⟨by exact aw.refl _,by exact aw.refl _,aw.of_eq (congrArg _ (by rw [wI (by omega) (by omega)];dsimp only;omega)),trivial⟩) (⟨aH.mP rfl (NB (by omega)),trivial⟩)) (by (dsimp only;omega))
 ·have g1:=aa h1
  exact aq (jt (by omega) (fun i hi=>rfl))
theorem vY (b:Nat→Int) (hb:cC b 64):Pure Tryz.prog aW 253 [dn 64 b] (.agg ((List.range 64).map fun j=>.int .u32 (bg b j))):=by
 refine ar (own:=bk) Tryz.func253 (by kernel_rfl) mixed (by kernel_rfl)
  (let y0:List AV:=[Zw 0,Zw 0,Zw 0,Zw 0,Zw 0,Zw 0,Zw 0,Zw 0,Zw 0,Zw 0,Zw 0,Zw 0,Zw 0,Zw 0,Zw 0,Zw 0,Zw 0,Zw 0,Zw 0,Zw 0,Zw 0,Zw 0,Zw 0,Zw 0,Zw 0,Zw 0,Zw 0,Zw 0,Zw 0,Zw 0,Zw 0,Zw 0,Zw 0,Zw 0,Zw 0,Zw 0,Zw 0,Zw 0,Zw 0,Zw 0,Zw 0,Zw 0,Zw 0,Zw 0,Zw 0,Zw 0,Zw 0,Zw 0,Zw 0,Zw 0,Zw 0,Zw 0,Zw 0,Zw 0,Zw 0,Zw 0,Zw 0,Zw 0,Zw 0,Zw 0,Zw 0,Zw 0,Zw 0,Zw 0];let y1:=(fun (x:{ x:Nat // x≤16 })=>aY [0,2,3,12] [.aG 1 64 fun i x=>Zb (b i),.own 0 64 0 0 64,.own 1 64 0 0 64,Zi x.1] [some ⟨64,1,true,.ba [y0]⟩,some ⟨64,1,true,.fn fun x_1 j=>Zw (bif Nat.blt j (x.1) then qG b j else (0:Int))⟩]);let y2:=(fun (x:{ x:Nat // x≤48 })=>aY [2,3,7] [.own 0 64 0 0 64,.own 1 64 0 0 64,Zi (↑(16+x.1):Int)] [some ⟨64,1,true,.ba [y0]⟩,some ⟨64,1,true,.fn fun x_1 j=>Zw (bif Nat.blt j (16+x.1) then bg b j else (0:Int))⟩]);let y3:=(fun (x:{ x:Nat // x≤16 })=>16 - x.1);let y4:=(fun (x:{ x:Nat // x≤48 })=>48 - x.1);let y5:=(fun (x:{ x:Nat // x≤4 })=>4 - x.1);(.loop ({ x:Nat // x≤16 }) y1 y3 (⟨0,Nat.zero_le 16⟩) [0,2,3,12] [0,8] [.aG 1 64 fun i x=>Zb (b i),.own 0 64 0 0 64,.own 1 64 0 0 64,Zi 0] [some ⟨64,1,true,.ba [y0]⟩,some ⟨64,1,true,.ba [y0]⟩] (fun x0=>let z1:Int:=(wrap .i64 ((4:Int)*(x0.1:Int))+4);(.br (decide ((x0.1:Int)<16)) (.bf ((0:Int)≤wrap .i64 ((4:Int)*(x0.1:Int))∧wrap .i64 ((4:Int)*(x0.1:Int))≤wrap .i64 z1∧wrap .i64 z1≤64) (.loop ({ x:Nat // x≤4 }) (fun x=>aY [0,2,3,4,12,21,22,23] [.aG 1 64 fun i x=>Zb (b i),.own 0 64 0 0 64,.own 1 64 0 0 64,Zi x0.1,Zi x0.1,dn 4 fun q=>b (4*x0.1+q),Zi (↑(4:Nat):Int),Zi x.1] [some ⟨64,1,true,.ba [y0]⟩,some ⟨64,1,true,.fn fun x_1 j=>Zw (bif Nat.beq j (x0.1) then preB b (x0.1) (x.1) else bif Nat.blt j (x0.1) then qG b j else (0:Int))⟩]) y5 (⟨0,Nat.zero_le 4⟩) [0,2,3,4,12,21,22,23] [0,1] [.aG 1 64 fun i x=>Zb (b i),.own 0 64 0 0 64,.own 1 64 0 0 64,Zi x0.1,Zi x0.1,.aG 1 (toNat (wrap .i64 z1) - toNat (wrap .i64 ((4:Int)*(x0.1:Int)))) fun i j=>Zb (b (i+toNat (wrap .i64 ((4:Int)*(x0.1:Int))))),Zi (↑(toNat (wrap .i64 z1) - toNat (wrap .i64 ((4:Int)*(x0.1:Int)))):Int),Zi 0] [some ⟨64,1,true,.ba [y0]⟩,some ⟨64,1,true,.fn fun i j=>Zw (bif Nat.blt j (x0.1) then qG b j else (0:Int))⟩] (fun x3=>(.br (decide ((x3.1:Int)<4)) (.bf (0≤(x3.1:Int)∧(x3.1:Int)<4) (.bf (0≤(x0.1:Int)∧(x0.1:Int)<64) (.bf (0≤(x0.1:Int)∧(x0.1:Int)<64) (.again (be 0 (fun x=>aY [0,2,3,4,12,21,22,23] [.aG 1 64 fun i x=>Zb (b i),.own 0 64 0 0 64,.own 1 64 0 0 64,Zi x0.1,Zi x0.1,dn 4 fun q=>b (4*x0.1+q),Zi (↑(4:Nat):Int),Zi x.1] [some ⟨64,1,true,.ba [y0]⟩,some ⟨64,1,true,.fn fun x_1 j=>Zw (bif Nat.beq j (x0.1) then preB b (x0.1) (x.1) else bif Nat.blt j (x0.1) then qG b j else (0:Int))⟩]) y5 x3) [0,2,3,4,12,21,22,23] [0,1] [.aG 1 64 fun i x=>Zb (b i),.own 0 64 0 0 64,.own 1 64 0 0 64,Zi x0.1,Zi x0.1,.aG 1 4 fun i x=>Zb (b (4*x0.1+i)),Zi 4,Zi (wrap .i64 ((x3.1:Int)+1))] [some ⟨64,1,true,.ba [y0]⟩,some ⟨64,1,true,.fn fun i j=>Zw (bif Nat.beq i 0&&Nat.beq j (0+toNat (x0.1:Int)) then wrap .u32 (↑(BitVec.toNat (BitVec.ofInt 32 (wrap .u32 ((bif Nat.beq (0+toNat (x0.1:Int)) x0.1 then preB b x0.1 x3.1 else bif Nat.blt (0+toNat (x0.1:Int)) x0.1 then qG b (0+toNat (x0.1:Int)) else (0:Int))*2^8)) ||| BitVec.ofInt 32 (wrap .u32 (b (4*x0.1+toNat (x3.1:Int)))))):Int) else bif Nat.beq j x0.1 then preB b x0.1 x3.1 else bif Nat.blt j x0.1 then qG b j else (0:Int))⟩])))) (.again (be 0 y1 y3 x0) [0,2,3,12] [0,1] [.aG 1 64 fun i x=>Zb (b i),.own 0 64 0 0 64,.own 1 64 0 0 64,Zi (wrap .i64 ((x0.1:Int)+1))] [some ⟨64,1,true,.ba [y0]⟩,some ⟨64,1,true,.fn fun i j=>Zw (bif Nat.beq j x0.1 then preB b x0.1 x3.1 else bif Nat.blt j x0.1 then qG b j else (0:Int))⟩]))))) (.loop ({ x:Nat // x≤48 }) y2 y4 (⟨0,Nat.zero_le 48⟩) [2,3,7] [0,1] [.own 0 64 0 0 64,.own 1 64 0 0 64,Zi 16] [some ⟨64,1,true,.ba [y0]⟩,some ⟨64,1,true,.fn fun i j=>Zw (bif Nat.blt j (x0.1) then qG b j else (0:Int))⟩] (fun x10=>let z0:Int:=(↑(16+x10.1):Int);(.br (decide (z0<64)) (.bf ((0:Int)≤wrap .i64 (z0 - 15)∧wrap .i64 (z0 - 15)<64) (.bf ((0:Int)≤wrap .i64 (z0 - 2)∧wrap .i64 (z0 - 2)<64) (.sc true 254 [Zw (bif Nat.blt (0+toNat (wrap .i64 (z0 - 15))) (16+x10.1) then bg b (0+toNat (wrap .i64 (z0 - 15))) else (0:Int)),Zi 7] (Zw (cD (bif Nat.blt (0+toNat (wrap .i64 (z0 - 15))) (16+x10.1) then bg b (0+toNat (wrap .i64 (z0 - 15))) else (0:Int)) 7)) (.sc true 254 [Zw (bif Nat.blt (0+toNat (wrap .i64 (z0 - 15))) (16+x10.1) then bg b (0+toNat (wrap .i64 (z0 - 15))) else (0:Int)),Zi 18] (Zw (cD (bif Nat.blt (0+toNat (wrap .i64 (z0 - 15))) (16+x10.1) then bg b (0+toNat (wrap .i64 (z0 - 15))) else (0:Int)) 18)) (.sc true 254 [Zw (bif Nat.blt (0+toNat (wrap .i64 (z0 - 2))) (16+x10.1) then bg b (0+toNat (wrap .i64 (z0 - 2))) else (0:Int)),Zi 17] (Zw (cD (bif Nat.blt (0+toNat (wrap .i64 (z0 - 2))) (16+x10.1) then bg b (0+toNat (wrap .i64 (z0 - 2))) else (0:Int)) 17)) (.sc true 254 [Zw (bif Nat.blt (0+toNat (wrap .i64 (z0 - 2))) (16+x10.1) then bg b (0+toNat (wrap .i64 (z0 - 2))) else (0:Int)),Zi 19] (Zw (cD (bif Nat.blt (0+toNat (wrap .i64 (z0 - 2))) (16+x10.1) then bg b (0+toNat (wrap .i64 (z0 - 2))) else (0:Int)) 19)) (.bf ((0:Int)≤wrap .i64 (z0 - 16)∧wrap .i64 (z0 - 16)<64) (.bf ((0:Int)≤wrap .i64 (z0 - 7)∧wrap .i64 (z0 - 7)<64) (.bf (0≤z0∧z0<64) (.again (be 0 y2 y4 x10) [2,3,7] [0,1] [.own 0 64 0 0 64,.own 1 64 0 0 64,Zi (wrap .i64 (z0+1))] [some ⟨64,1,true,.ba [y0]⟩,some ⟨64,1,true,.fn fun i j=>Zw (bif Nat.beq i 0&&Nat.beq j (0+toNat z0) then wrap .u32 (wrap .u32 (wrap .u32 ((bif Nat.blt (0+toNat (wrap .i64 (z0 - 16))) (16+x10.1) then bg b (0+toNat (wrap .i64 (z0 - 16))) else (0:Int))+wrap .u32 (↑(BitVec.toNat (BitVec.ofInt 32 (wrap .u32 (↑(BitVec.toNat (BitVec.ofInt 32 (cD (bif Nat.blt (0+toNat (wrap .i64 (z0 - 15))) (16+x10.1) then bg b (0+toNat (wrap .i64 (z0 - 15))) else (0:Int)) 7) ^^^ BitVec.ofInt 32 (cD (bif Nat.blt (0+toNat (wrap .i64 (z0 - 15))) (16+x10.1) then bg b (0+toNat (wrap .i64 (z0 - 15))) else (0:Int)) 18))):Int)) ^^^ BitVec.ofInt 32 (Int.fdiv (bif Nat.blt (0+toNat (wrap .i64 (z0 - 15))) (16+x10.1) then bg b (0+toNat (wrap .i64 (z0 - 15))) else (0:Int)) ((2:Int)^3)))):Int))+bif Nat.blt (0+toNat (wrap .i64 (z0 - 7))) (16+x10.1) then bg b (0+toNat (wrap .i64 (z0 - 7))) else (0:Int))+wrap .u32 (↑(BitVec.toNat (BitVec.ofInt 32 (wrap .u32 (↑(BitVec.toNat (BitVec.ofInt 32 (cD (bif Nat.blt (0+toNat (wrap .i64 (z0 - 2))) (16+x10.1) then bg b (0+toNat (wrap .i64 (z0 - 2))) else (0:Int)) 17) ^^^ BitVec.ofInt 32 (cD (bif Nat.blt (0+toNat (wrap .i64 (z0 - 2))) (16+x10.1) then bg b (0+toNat (wrap .i64 (z0 - 2))) else (0:Int)) 19))):Int)) ^^^ BitVec.ofInt 32 (Int.fdiv (bif Nat.blt (0+toNat (wrap .i64 (z0 - 2))) (16+x10.1) then bg b (0+toNat (wrap .i64 (z0 - 2))) else (0:Int)) ((2:Int)^10)))):Int)) else bif Nat.blt j (16+x10.1) then bg b j else (0:Int))⟩])))))))))) (.out (.agg [Zw (bif Nat.blt 0 (16+x10.1) then bg b 0 else (0:Int)),Zw (bif Nat.blt 1 (16+x10.1) then bg b 1 else (0:Int)),Zw (bif Nat.blt 2 (16+x10.1) then bg b 2 else (0:Int)),Zw (bif Nat.blt 3 (16+x10.1) then bg b 3 else (0:Int)),Zw (bif Nat.blt 4 (16+x10.1) then bg b 4 else (0:Int)),Zw (bif Nat.blt 5 (16+x10.1) then bg b 5 else (0:Int)),Zw (bif Nat.blt 6 (16+x10.1) then bg b 6 else (0:Int)),Zw (bif Nat.blt 7 (16+x10.1) then bg b 7 else (0:Int)),Zw (bif Nat.blt 8 (16+x10.1) then bg b 8 else (0:Int)),Zw (bif Nat.blt 9 (16+x10.1) then bg b 9 else (0:Int)),Zw (bif Nat.blt 10 (16+x10.1) then bg b 10 else (0:Int)),Zw (bif Nat.blt 11 (16+x10.1) then bg b 11 else (0:Int)),Zw (bif Nat.blt 12 (16+x10.1) then bg b 12 else (0:Int)),Zw (bif Nat.blt 13 (16+x10.1) then bg b 13 else (0:Int)),Zw (bif Nat.blt 14 (16+x10.1) then bg b 14 else (0:Int)),Zw (bif Nat.blt 15 (16+x10.1) then bg b 15 else (0:Int)),Zw (bif Nat.blt 16 (16+x10.1) then bg b 16 else (0:Int)),Zw (bif Nat.blt 17 (16+x10.1) then bg b 17 else (0:Int)),Zw (bif Nat.blt 18 (16+x10.1) then bg b 18 else (0:Int)),Zw (bif Nat.blt 19 (16+x10.1) then bg b 19 else (0:Int)),Zw (bif Nat.blt 20 (16+x10.1) then bg b 20 else (0:Int)),Zw (bif Nat.blt 21 (16+x10.1) then bg b 21 else (0:Int)),Zw (bif Nat.blt 22 (16+x10.1) then bg b 22 else (0:Int)),Zw (bif Nat.blt 23 (16+x10.1) then bg b 23 else (0:Int)),Zw (bif Nat.blt 24 (16+x10.1) then bg b 24 else (0:Int)),Zw (bif Nat.blt 25 (16+x10.1) then bg b 25 else (0:Int)),Zw (bif Nat.blt 26 (16+x10.1) then bg b 26 else (0:Int)),Zw (bif Nat.blt 27 (16+x10.1) then bg b 27 else (0:Int)),Zw (bif Nat.blt 28 (16+x10.1) then bg b 28 else (0:Int)),Zw (bif Nat.blt 29 (16+x10.1) then bg b 29 else (0:Int)),Zw (bif Nat.blt 30 (16+x10.1) then bg b 30 else (0:Int)),Zw (bif Nat.blt 31 (16+x10.1) then bg b 31 else (0:Int)),Zw (bif Nat.blt 32 (16+x10.1) then bg b 32 else (0:Int)),Zw (bif Nat.blt 33 (16+x10.1) then bg b 33 else (0:Int)),Zw (bif Nat.blt 34 (16+x10.1) then bg b 34 else (0:Int)),Zw (bif Nat.blt 35 (16+x10.1) then bg b 35 else (0:Int)),Zw (bif Nat.blt 36 (16+x10.1) then bg b 36 else (0:Int)),Zw (bif Nat.blt 37 (16+x10.1) then bg b 37 else (0:Int)),Zw (bif Nat.blt 38 (16+x10.1) then bg b 38 else (0:Int)),Zw (bif Nat.blt 39 (16+x10.1) then bg b 39 else (0:Int)),Zw (bif Nat.blt 40 (16+x10.1) then bg b 40 else (0:Int)),Zw (bif Nat.blt 41 (16+x10.1) then bg b 41 else (0:Int)),Zw (bif Nat.blt 42 (16+x10.1) then bg b 42 else (0:Int)),Zw (bif Nat.blt 43 (16+x10.1) then bg b 43 else (0:Int)),Zw (bif Nat.blt 44 (16+x10.1) then bg b 44 else (0:Int)),Zw (bif Nat.blt 45 (16+x10.1) then bg b 45 else (0:Int)),Zw (bif Nat.blt 46 (16+x10.1) then bg b 46 else (0:Int)),Zw (bif Nat.blt 47 (16+x10.1) then bg b 47 else (0:Int)),Zw (bif Nat.blt 48 (16+x10.1) then bg b 48 else (0:Int)),Zw (bif Nat.blt 49 (16+x10.1) then bg b 49 else (0:Int)),Zw (bif Nat.blt 50 (16+x10.1) then bg b 50 else (0:Int)),Zw (bif Nat.blt 51 (16+x10.1) then bg b 51 else (0:Int)),Zw (bif Nat.blt 52 (16+x10.1) then bg b 52 else (0:Int)),Zw (bif Nat.blt 53 (16+x10.1) then bg b 53 else (0:Int)),Zw (bif Nat.blt 54 (16+x10.1) then bg b 54 else (0:Int)),Zw (bif Nat.blt 55 (16+x10.1) then bg b 55 else (0:Int)),Zw (bif Nat.blt 56 (16+x10.1) then bg b 56 else (0:Int)),Zw (bif Nat.blt 57 (16+x10.1) then bg b 57 else (0:Int)),Zw (bif Nat.blt 58 (16+x10.1) then bg b 58 else (0:Int)),Zw (bif Nat.blt 59 (16+x10.1) then bg b 59 else (0:Int)),Zw (bif Nat.blt 60 (16+x10.1) then bg b 60 else (0:Int)),Zw (bif Nat.blt 61 (16+x10.1) then bg b 61 else (0:Int)),Zw (bif Nat.blt 62 (16+x10.1) then bg b 62 else (0:Int)),Zw (bif Nat.blt 63 (16+x10.1) then bg b 63 else (0:Int))]) [] (.agg (List.map (fun j=>Zw (bg b j)) (List.range 64))) []))))))))
  (by kernel_rfl) ?_
 refine aU (fun _ hs=>hs.le (⟨.refl _,.refl _,.refl _,.refl _,trivial⟩) (⟨.refl _,HH (fun j=>rfl),trivial⟩)) (fun x0=>?_)
 try (have q0:=x0.2;dsimp only at q0)
 refine aL (fun h1=>?_) (fun h1=>?_)
 ·have g1:=af h1
  refine aD (by rw [(w4 (by omega)).1,(w4 (by omega)).2];omega) ?_
  refine aU (fun _ hs=>hs.le (⟨.refl _,.refl _,.refl _,.refl _,.refl _,jt (by rw [(w4 (by omega)).1,(w4 (by omega)).2];omega) (fun i hi=>congrArg b (by rw [(w4 (by omega)).1];omega)),aw.of_eq (congrArg _ (by rw [(w4 (by omega)).1,(w4 (by omega)).2];omega)),.refl _,trivial⟩) (⟨.refl _,aH.fnR (fun j hj=>by (by_cases e:j=x0.1;(subst e;rw [Nat.beq_refl,dh (Nat.le_refl _)];rfl);(rw [mm e];rfl))),trivial⟩)) (fun x3=>?_)
  try (have q3:=x3.2;dsimp only at q3)
  refine aL (fun h4=>?_) (fun h4=>?_)
  ·have g4:=af h4
   refine aD (by omega) ?_
   refine aD (by omega) ?_
   refine aD (by omega) ?_
   exact aN (⟨x3.1+1,by omega⟩) (fun _ hs=>hs.le (⟨.refl _,.refl _,.refl _,.refl _,.refl _,.refl _,.refl _,aJ (by omega),trivial⟩) (⟨.refl _,aH.CG (P:=fun i j=>Nat.beq i 0&&Nat.beq j (0+toNat ((x0.1:Nat):Int))) (c0:=x0.1) (G:=fun j=>bif Nat.beq j x0.1 then preB b x0.1 (x3.1+1) else bif Nat.blt j x0.1 then qG b j else 0) (fun j _=>by show (true&&Nat.beq j (0+x0.1))=_;rw [Nat.zero_add];rfl) (by simp only [Nat.zero_add,Int.toNat_natCast,Nat.beq_refl,cond_true];have p:=yT (k:=x3.1) hb (show x0.1<16 by omega) (by omega);have q:=hb (4*x0.1+x3.1) (by omega);exact Cq p.1 p.2 q.1 q.2) (fun j _ he=>by simp only [mm he];rfl),trivial⟩)) (by dsimp only;omega)
  ·have g4:=aa h4
   exact aN (⟨x0.1+1,by omega⟩) (fun _ hs=>hs.le (⟨.refl _,.refl _,.refl _,aJ (by omega),trivial⟩) (⟨.refl _,aH.fnR (fun j hj=>by
                                                                                                     have e4:x3.1=4:=by omega
                                                                                                     rw [e4]
                                                                                                     show (bif Nat.beq j x0.1 then preB b x0.1 4 else bif Nat.blt j x0.1 then qG b j else 0)=bif Nat.blt j (x0.1+1) then qG b j else 0
                                                                                                     by_cases e:j=x0.1
                                                                                                     · subst e;rw [Nat.beq_refl,cy (Nat.lt_succ_self _)];rfl
                                                                                                     · rw [mm e];exact jx e),trivial⟩)) (by dsimp only;omega)
 ·have g1:=aa h1
  refine aU (fun _ hs=>hs.le (⟨.refl _,.refl _,.refl _,trivial⟩) (⟨.refl _,aH.fnR (fun j hj=>by
                                                                                                     have e:x0.1=16:=by omega
                                                                                                     rw [e]
                                                                                                     show (bif Nat.blt j 16 then qG b j else 0)=bif Nat.blt j 16 then bg b j else 0
                                                                                                     by_cases h:j<16
                                                                                                     · rw [oJ h]
                                                                                                     · rw [dh (by omega)];rfl),trivial⟩)) (fun x10=>?_)
  refine aL (fun h11=>?_) (fun h11=>?_)
  ·have g11:=af h11
   refine aD (by rw [wI (by omega) (by omega)];omega) ?_
   refine aD (by rw [wI (by omega) (by omega)];omega) ?_
   refine aM ((fun (x:Int)=>gM x (7:Nat)) (bif Nat.blt (0+toNat (wrap .i64 ((↑(16+x10.1):Int) - (15:Int)))) (16+x10.1) then bg b (0+toNat (wrap .i64 ((↑(16+x10.1):Int) - (15:Int)))) else (0:Int)) (by omega) (by omega)) ?_
   refine aM ((fun (x:Int)=>gM x (18:Nat)) (bif Nat.blt (0+toNat (wrap .i64 ((↑(16+x10.1):Int) - (15:Int)))) (16+x10.1) then bg b (0+toNat (wrap .i64 ((↑(16+x10.1):Int) - (15:Int)))) else (0:Int)) (by omega) (by omega)) ?_
   refine aM ((fun (x:Int)=>gM x (17:Nat)) (bif Nat.blt (0+toNat (wrap .i64 ((↑(16+x10.1):Int) - (2:Int)))) (16+x10.1) then bg b (0+toNat (wrap .i64 ((↑(16+x10.1):Int) - (2:Int)))) else (0:Int)) (by omega) (by omega)) ?_
   refine aM ((fun (x:Int)=>gM x (19:Nat)) (bif Nat.blt (0+toNat (wrap .i64 ((↑(16+x10.1):Int) - (2:Int)))) (16+x10.1) then bg b (0+toNat (wrap .i64 ((↑(16+x10.1):Int) - (2:Int)))) else (0:Int)) (by omega) (by omega)) ?_
   refine aD (by rw [wI (by omega) (by omega)];omega) ?_
   refine aD (by rw [wI (by omega) (by omega)];omega) ?_
   refine aD (by omega) ?_
   exact aN (⟨x10.1+1,by omega⟩) (fun _ hs=>hs.le (⟨.refl _,.refl _,aJ (i:=16+x10.1) (by omega),trivial⟩) (⟨.refl _,aH.CG (P:=fun i j=>Nat.beq i 0&&Nat.beq j (0+toNat ((16+x10.1:Nat):Int))) (c0:=16+x10.1) (G:=fun j=>bif Nat.blt j (16+x10.1+1) then bg b j else 0) (fun j _=>by show (true&&Nat.beq j (0+(16+x10.1)))=_;rw [Nat.zero_add];rfl) (by
                                                                                                     simp only [kG (t:=x10.1) (d:=15) (k:=15) rfl (by omega) (by omega),kG (t:=x10.1) (d:=2) (k:=2) rfl (by omega) (by omega),kG (t:=x10.1) (d:=7) (k:=7) rfl (by omega) (by omega),kG (t:=x10.1) (d:=16) (k:=16) rfl (by omega) (by omega),Nat.zero_add,dt]
                                                                                                     simp only [cy (show 16+x10.1 - 15<16+x10.1 by omega),cy (show 16+x10.1 - 2<16+x10.1 by omega),cy (show 16+x10.1 - 7<16+x10.1 by omega),cy (show 16+x10.1 - 16<16+x10.1 by omega),cy (show 16+x10.1<16+x10.1+1 by omega),cond_true]
                                                                                                     exact (tk (j:=16+x10.1) (by omega)).symm) (fun j _ he=>jx he),trivial⟩)) (by dsimp only;omega)
  ·have g11:=aa h11
   exact aq (aw.of_eq (by
                                                                                                     show AV.agg ((List.range 64).map fun j=>.int .u32 (bif Nat.blt j (16+x10.1) then bg b j else 0))=_
                                                                                                     exact congrArg AV.agg (List.map_congr_left fun j hj=>by rw [cy (by have:=List.mem_range.1 hj;omega)];rfl)))
theorem MK (s b w:Nat→Int) (R:Nat→Nat→Int) (hsch:Pure Tryz.prog aW 253 [dn 64 b] (.agg ((List.range 64).map fun j=>.int .u32 (w j)))) (hR:Rnd s w R):Pure Tryz.prog aW 178 [.agg ((List.range 8).map fun j=>.int .u32 (s j)),dn 64 b] (.agg ((List.range 8).map fun j=>.int .u32 (dj (s j) (R 64 j)))):=by
 refine ar (own:=bk) Tryz.func178 (by kernel_rfl) mixed (by kernel_rfl)
  (let y2:List AV:=[Zw (s 0),Zw (s 1),Zw (s 2),Zw (s 3),Zw (s 4),Zw (s 5),Zw (s 6),Zw (s 7)];let y3:List AV:=[Zw 0,Zw 0,Zw 0,Zw 0,Zw 0,Zw 0,Zw 0,Zw 0];let y0:=(fun (x:{ x:Nat // x≤64 })=>aY [2,4,5,6,7,8,9,10,11,12,13,37] [AV.own 0 8 0 0 8,AV.own 1 8 0 0 8,AV.own 2 64 0 0 64,Zw (R (x.1) 0),Zw (R (x.1) 1),Zw (R (x.1) 2),Zw (R (x.1) 3),Zw (R (x.1) 4),Zw (R (x.1) 5),Zw (R (x.1) 6),Zw (R (x.1) 7),Zi (↑(x.1):Int)] [some ⟨8,1,true,bz.ba [y2]⟩,some ⟨8,1,true,bz.ba [y3]⟩,some ⟨64,1,true,bz.fn fun (x j:Nat)=>Zw (w j)⟩]);let y1:=(fun (x:{ x:Nat // x≤8 })=>aY [2,4,108,109] [AV.own 0 8 0 0 8,AV.own 1 8 0 0 8,AV.agg (List.map (fun (j:Nat)=>Zw (R 64 j)) (List.range 8)),Zi (↑(x.1):Int)] [some ⟨8,1,true,bz.fn fun (x_1 j:Nat)=>Zw (bif Nat.blt j (x.1) then dj (s j) (R 64 j) else s j)⟩,some ⟨8,1,true,bz.ba [y3]⟩]);let y4:List AV:=[Zw (R 64 0),Zw (R 64 1),Zw (R 64 2),Zw (R 64 3),Zw (R 64 4),Zw (R 64 5),Zw (R 64 6),Zw (R 64 7)];let y5:=(fun (x:{ x:Nat // x≤64 })=>64 - x.1);let y6:=(fun (x:{ x:Nat // x≤8 })=>8 - x.1);(.sc (true) 253 ([AV.aG 1 64 fun (i x:Nat)=>Zb (b i)]) (AV.agg (List.map (fun (j:Nat)=>Zw (w j)) (List.range 64))) (.bf ((0:Int)≤0∧(0:Int)<(↑(8):Int)) (.bf ((0:Int)≤1∧(1:Int)<(↑(8):Int)) (.bf ((0:Int)≤2∧(2:Int)<(↑(8):Int)) (.bf ((0:Int)≤3∧(3:Int)<(↑(8):Int)) (.bf ((0:Int)≤4∧(4:Int)<(↑(8):Int)) (.bf ((0:Int)≤5∧(5:Int)<(↑(8):Int)) (.bf ((0:Int)≤6∧(6:Int)<(↑(8):Int)) (.bf ((0:Int)≤7∧(7:Int)<(↑(8):Int)) (.loop ({ x:Nat // x≤64 }) y0 y5 (⟨0,Nat.zero_le 64⟩) ([2,4,5,6,7,8,9,10,11,12,13,37]) ([0,8,32]) ([AV.own 0 8 0 0 8,AV.own 1 8 0 0 8,AV.own 2 64 0 0 64,Zw (s 0),Zw (s 1),Zw (s 2),Zw (s 3),Zw (s 4),Zw (s 5),Zw (s 6),Zw (s 7),Zi 0]) ([some ⟨8,1,true,bz.ba [y2]⟩,some ⟨8,1,true,bz.ba [y3]⟩,some ⟨64,1,true,bz.ba [[Zw (w 0),Zw (w 1),Zw (w 2),Zw (w 3),Zw (w 4),Zw (w 5),Zw (w 6),Zw (w 7),Zw (w 8),Zw (w 9),Zw (w 10),Zw (w 11),Zw (w 12),Zw (w 13),Zw (w 14),Zw (w 15),Zw (w 16),Zw (w 17),Zw (w 18),Zw (w 19),Zw (w 20),Zw (w 21),Zw (w 22),Zw (w 23),Zw (w 24),Zw (w 25),Zw (w 26),Zw (w 27),Zw (w 28),Zw (w 29),Zw (w 30),Zw (w 31),Zw (w 32),Zw (w 33),Zw (w 34),Zw (w 35),Zw (w 36),Zw (w 37),Zw (w 38),Zw (w 39),Zw (w 40),Zw (w 41),Zw (w 42),Zw (w 43),Zw (w 44),Zw (w 45),Zw (w 46),Zw (w 47),Zw (w 48),Zw (w 49),Zw (w 50),Zw (w 51),Zw (w 52),Zw (w 53),Zw (w 54),Zw (w 55),Zw (w 56),Zw (w 57),Zw (w 58),Zw (w 59),Zw (w 60),Zw (w 61),Zw (w 62),Zw (w 63)]]⟩]) (fun x9=>(.br (decide ((↑x9.1:Int)<64)) (.sc (true) 254 ([Zw (R x9.1 4),Zi 6]) (Zw (cD (R x9.1 4) 6)) (.sc (true) 254 ([Zw (R x9.1 4),Zi 11]) (Zw (cD (R x9.1 4) 11)) (.sc (true) 254 ([Zw (R x9.1 4),Zi 25]) (Zw (cD (R x9.1 4) 25)) (.bf ((0:Int)≤(↑x9.1:Int)∧(↑x9.1:Int)<(↑(64):Int)) (.bf ((0:Int)≤(↑x9.1:Int)∧(↑x9.1:Int)<(↑(64):Int)) (.sc (true) 254 ([Zw (R x9.1 0),Zi 2]) (Zw (cD (R x9.1 0) 2)) (.sc (true) 254 ([Zw (R x9.1 0),Zi 13]) (Zw (cD (R x9.1 0) 13)) (.sc (true) 254 ([Zw (R x9.1 0),Zi 22]) (Zw (cD (R x9.1 0) 22)) (.again (be 0 y0 y5 x9) ([2,4,5,6,7,8,9,10,11,12,13,37]) ([0,1,2]) ([AV.own 0 8 0 0 8,AV.own 1 8 0 0 8,AV.own 2 64 0 0 64,Zw (wrap .u32 (wrap .u32 (wrap .u32 (wrap .u32 (wrap .u32 (R x9.1 7+wrap .u32 (↑(BitVec.toNat (BitVec.ofInt 32 (wrap .u32 (↑(BitVec.toNat (BitVec.ofInt 32 (cD (R x9.1 4) 6) ^^^ BitVec.ofInt 32 (cD (R x9.1 4) 11))):Int)) ^^^ BitVec.ofInt 32 (cD (R x9.1 4) 25))):Int))+wrap .u32 (↑(BitVec.toNat (BitVec.ofInt 32 (wrap .u32 (↑(BitVec.toNat (BitVec.ofInt 32 (R x9.1 4) &&& BitVec.ofInt 32 (R x9.1 5))):Int)) ^^^ BitVec.ofInt 32 (wrap .u32 (↑(BitVec.toNat (BitVec.ofInt 32 (wrap .u32 (↑(BitVec.toNat (BitVec.ofInt 32 (if false=true then (-1:Int) else IntKind.max IntKind.u32) ^^^ BitVec.ofInt 32 (R x9.1 4))):Int)) &&& BitVec.ofInt 32 (R x9.1 6))):Int)))):Int))+kF (toNat (↑x9.1:Int)))+w (0+toNat (↑x9.1:Int)))+wrap .u32 (wrap .u32 (↑(BitVec.toNat (BitVec.ofInt 32 (wrap .u32 (↑(BitVec.toNat (BitVec.ofInt 32 (cD (R x9.1 0) 2) ^^^ BitVec.ofInt 32 (cD (R x9.1 0) 13))):Int)) ^^^ BitVec.ofInt 32 (cD (R x9.1 0) 22))):Int)+wrap .u32 (↑(BitVec.toNat (BitVec.ofInt 32 (wrap .u32 (↑(BitVec.toNat (BitVec.ofInt 32 (wrap .u32 (↑(BitVec.toNat (BitVec.ofInt 32 (R x9.1 0) &&& BitVec.ofInt 32 (R x9.1 1))):Int)) ^^^ BitVec.ofInt 32 (wrap .u32 (↑(BitVec.toNat (BitVec.ofInt 32 (R x9.1 0) &&& BitVec.ofInt 32 (R x9.1 2))):Int)))):Int)) ^^^ BitVec.ofInt 32 (wrap .u32 (↑(BitVec.toNat (BitVec.ofInt 32 (R x9.1 1) &&& BitVec.ofInt 32 (R x9.1 2))):Int)))):Int)))),Zw (R x9.1 0),Zw (R x9.1 1),Zw (R x9.1 2),Zw (wrap .u32 (R x9.1 3+wrap .u32 (wrap .u32 (wrap .u32 (wrap .u32 (R x9.1 7+wrap .u32 (↑(BitVec.toNat (BitVec.ofInt 32 (wrap .u32 (↑(BitVec.toNat (BitVec.ofInt 32 (cD (R x9.1 4) 6) ^^^ BitVec.ofInt 32 (cD (R x9.1 4) 11))):Int)) ^^^ BitVec.ofInt 32 (cD (R x9.1 4) 25))):Int))+wrap .u32 (↑(BitVec.toNat (BitVec.ofInt 32 (wrap .u32 (↑(BitVec.toNat (BitVec.ofInt 32 (R x9.1 4) &&& BitVec.ofInt 32 (R x9.1 5))):Int)) ^^^ BitVec.ofInt 32 (wrap .u32 (↑(BitVec.toNat (BitVec.ofInt 32 (wrap .u32 (↑(BitVec.toNat (BitVec.ofInt 32 (if false=true then (-1:Int) else IntKind.max IntKind.u32) ^^^ BitVec.ofInt 32 (R x9.1 4))):Int)) &&& BitVec.ofInt 32 (R x9.1 6))):Int)))):Int))+kF (toNat (↑x9.1:Int)))+w (0+toNat (↑x9.1:Int))))),Zw (R x9.1 4),Zw (R x9.1 5),Zw (R x9.1 6),Zi (wrap .i64 ((↑x9.1:Int)+1))]) ([some ⟨8,1,true,bz.ba [y2]⟩,some ⟨8,1,true,bz.ba [y3]⟩,some ⟨64,1,true,bz.fn fun (i j:Nat)=>Zw (w j)⟩])))))))))) (.loop ({ x:Nat // x≤8 }) y1 y6 (⟨0,Nat.zero_le 8⟩) ([2,4,108,109]) ([0,1]) ([AV.own 0 8 0 0 8,AV.own 1 8 0 0 8,AV.agg [Zw (R x9.1 0),Zw (R x9.1 1),Zw (R x9.1 2),Zw (R x9.1 3),Zw (R x9.1 4),Zw (R x9.1 5),Zw (R x9.1 6),Zw (R x9.1 7)],Zi 0]) ([some ⟨8,1,true,bz.ba [y2]⟩,some ⟨8,1,true,bz.ba [y3]⟩]) (fun x20=>(.br (decide ((↑x20.1:Int)<8)) (.bf ((0:Int)≤(↑x20.1:Int)∧(↑x20.1:Int)<(↑(8):Int)) (.bf ((0:Int)≤(↑x20.1:Int)∧(↑x20.1:Int)<(↑(8):Int)) (.bf ((0:Int)≤(↑x20.1:Int)∧(↑x20.1:Int)<(↑(8):Int)) (.again (be 0 y1 y6 x20) ([2,4,108,109]) ([0,1]) ([AV.own 0 8 0 0 8,AV.own 1 8 0 0 8,AV.agg y4,Zi (wrap .i64 ((↑x20.1:Int)+1))]) ([some ⟨8,1,true,bz.fn fun (i j:Nat)=>Zw (bif Nat.beq i 0&&Nat.beq j (0+toNat (↑x20.1:Int)) then wrap .u32 ((bif Nat.blt (0+toNat (↑x20.1:Int)) x20.1 then dj (s (0+toNat (↑x20.1:Int))) (R 64 (0+toNat (↑x20.1:Int))) else s (0+toNat (↑x20.1:Int)))+aE (aO y4 (toNat (↑x20.1:Int)))) else bif Nat.blt j x20.1 then dj (s j) (R 64 j) else s j)⟩,some ⟨8,1,true,bz.ba [y3]⟩]))))) (.out (AV.agg [Zw (bif Nat.blt 0 x20.1 then dj (s 0) (R 64 0) else s 0),Zw (bif Nat.blt 1 x20.1 then dj (s 1) (R 64 1) else s 1),Zw (bif Nat.blt 2 x20.1 then dj (s 2) (R 64 2) else s 2),Zw (bif Nat.blt 3 x20.1 then dj (s 3) (R 64 3) else s 3),Zw (bif Nat.blt 4 x20.1 then dj (s 4) (R 64 4) else s 4),Zw (bif Nat.blt 5 x20.1 then dj (s 5) (R 64 5) else s 5),Zw (bif Nat.blt 6 x20.1 then dj (s 6) (R 64 6) else s 6),Zw (bif Nat.blt 7 x20.1 then dj (s 7) (R 64 7) else s 7)]) [] (AV.agg (List.map (fun (j:Nat)=>Zw (dj (s j) (R 64 j))) (List.range 8))) [])))))))))))))))))
  (by kernel_rfl) ?_
 refine aM (hsch) ?_
 refine aD (by omega) ?_
 refine aD (by omega) ?_
 refine aD (by omega) ?_
 refine aD (by omega) ?_
 refine aD (by omega) ?_
 refine aD (by omega) ?_
 refine aD (by omega) ?_
 refine aD (by omega) ?_
 refine aU (fun _ hs=>hs.le (⟨.refl _,.refl _,.refl _,aw.of_eq (congrArg _ (hR.z 0).symm),aw.of_eq (congrArg _ (hR.z 1).symm),aw.of_eq (congrArg _ (hR.z 2).symm),aw.of_eq (congrArg _ (hR.z 3).symm),aw.of_eq (congrArg _ (hR.z 4).symm),aw.of_eq (congrArg _ (hR.z 5).symm),aw.of_eq (congrArg _ (hR.z 6).symm),aw.of_eq (congrArg _ (hR.z 7).symm),.refl _,trivial⟩) (⟨.refl _,.refl _,aH.Av rfl,trivial⟩)) (fun x9=>?_)
 try (have q9:=x9.2;dsimp only at q9)
 refine aL (fun h10=>?_) (fun h10=>?_)
 ·have g10:=af h10
  refine aM ((fun (x:Int)=>gM x (6:Nat)) (R x9.1 (4)) (by omega) (by omega)) ?_
  refine aM ((fun (x:Int)=>gM x (11:Nat)) (R x9.1 (4)) (by omega) (by omega)) ?_
  refine aM ((fun (x:Int)=>gM x (25:Nat)) (R x9.1 (4)) (by omega) (by omega)) ?_
  refine aD (by omega) ?_
  refine aD (by omega) ?_
  refine aM ((fun (x:Int)=>gM x (2:Nat)) (R x9.1 (0)) (by omega) (by omega)) ?_
  refine aM ((fun (x:Int)=>gM x (13:Nat)) (R x9.1 (0)) (by omega) (by omega)) ?_
  refine aM ((fun (x:Int)=>gM x (22:Nat)) (R x9.1 (0)) (by omega) (by omega)) ?_
  exact aN (⟨x9.1+1,by omega⟩) (fun _ hs=>hs.le (⟨.refl _,.refl _,.refl _,aw.of_eq (congrArg _ (by rw [hR.s0];simp only [Nat.zero_add,Int.toNat_natCast];rfl)),aw.of_eq (congrArg _ (hR.s1 _).symm),aw.of_eq (congrArg _ (hR.s2 _).symm),aw.of_eq (congrArg _ (hR.s3 _).symm),aw.of_eq (congrArg _ (by rw [hR.s4];simp only [Nat.zero_add,Int.toNat_natCast];rfl)),aw.of_eq (congrArg _ (hR.s5 _).symm),aw.of_eq (congrArg _ (hR.s6 _).symm),aw.of_eq (congrArg _ (hR.s7 _).symm),aJ (by omega),trivial⟩) (⟨.refl _,.refl _,.refl _,trivial⟩)) (by dsimp only;omega)
 ·have g10:=aa h10
  refine aU (fun _ hs=>hs.le (⟨.refl _,.refl _,aw.of_eq (by
                                                                                                     have e:x9.1=64:=by omega
                                                                                                     rw [e]
                                                                                                     rfl),.refl _,trivial⟩) (⟨aH.Av rfl,.refl _,trivial⟩)) (fun x20=>?_)
  refine aL (fun h21=>?_) (fun h21=>?_)
  ·have g21:=af h21
   refine aD (by omega) ?_
   refine aD (by omega) ?_
   refine aD (by omega) ?_
   exact aN (⟨x20.1+1,by omega⟩) (fun _ hs=>hs.le (⟨.refl _,.refl _,.refl _,aJ (by omega),trivial⟩) (⟨aH.CG (P:=fun i j=>Nat.beq i 0&&Nat.beq j (0+toNat ((x20.1:Nat):Int))) (c0:=x20.1) (G:=fun j=>bif Nat.blt j (x20.1+1) then dj (s j) (R 64 j) else s j) (fun j _=>by show (true&&Nat.beq j (0+x20.1))=_;rw [Nat.zero_add];rfl) (by
                                                                                                     simp only [Nat.zero_add,Int.toNat_natCast,dh (Nat.le_refl x20.1),cy (Nat.lt_succ_self x20.1),cond_true,cond_false]
                                                                                                     exact congrArg (fun z=>IntKind.wrap .u32 (s x20.1+z)) (congrArg aE (dw (es:=8) (g:=fun j=>AV.int .u32 (R 64 j)) (by omega)))) (fun j _ he=>oY (F:=fun j=>dj (s j) (R 64 j)) (z:=s) he),.refl _,trivial⟩)) (by dsimp only;omega)
  ·have g21:=aa h21
   exact aq (aw.of_eq (by
                                                                                                     show AV.agg ((List.range 8).map fun j=>.int .u32 (bif Nat.blt j x20.1 then dj (s j) (R 64 j) else s j))=_
                                                                                                     exact congrArg AV.agg (List.map_congr_left fun j hj=>by rw [cy (by have:=List.mem_range.1 hj;omega)];rfl)))
theorem O7 (s b:Nat→Int) (hb:cC b 64):Pure Tryz.prog aW 178 [.agg ((List.range 8).map fun j=>.int .u32 (s j)),dn 64 b] (.agg ((List.range 8).map fun j=>.int .u32 (MB s b j))) :=
 MK s b (bg b) (j7 s (bg b)) (vY b hb) (rnd s (bg b))
end Go.Proofs.YtgnfjlekpgjehaaGreatDoor
