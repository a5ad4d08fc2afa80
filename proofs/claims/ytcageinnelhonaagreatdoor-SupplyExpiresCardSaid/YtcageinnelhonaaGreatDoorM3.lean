/- Part of the proof: Ari, Ari2, Tabs, Prime, Zab, EnNew, AMx, AS1, AS2, AS3, AS4, AS5, Grp, AS6, ObL, SpPay, Sha, AS7, AS8, AS9, AS10. -/
import Derived.Test.YtcageinnelhonaaGreatDoorM2
import Derived.Test.YtcageinnelhonaaGreatDoorM1
import Derived.Test.YtcageinnelhonaaGreatDoorProg
namespace Go.Sp
open Go.IntKind (wrap)
open Int (toNat)
open Go Go.Am
theorem wu64m (n:Int):IntKind.wrap .u64 n=n%18446744073709551616:=by rfl
theorem wu32m (n:Int):IntKind.wrap .u32 n=n%4294967296:=by rfl
theorem wu8m (n:Int):IntKind.wrap .u8 n=n%256:=by rfl
theorem wu64 {n:Int} (h:0≤n) (h':n<18446744073709551616):IntKind.wrap .u64 n=n:=by grind [wu64m]
theorem wu32 {n:Int} (h:0≤n) (h':n<4294967296):IntKind.wrap .u32 n=n:=by grind [wu32m]
theorem wu8 {n:Int} (h:0≤n) (h':n<256):IntKind.wrap .u8 n=n:=by grind [wu8m]
theorem andN {w n m:Nat} (hn:n<2^w) (hm:m<2^w):(BitVec.ofInt w (n:Int) &&& BitVec.ofInt w (m:Int)).toNat=n &&& m:=by grind
theorem orN {w n m:Nat} (hn:n<2^w) (hm:m<2^w):(BitVec.ofInt w (n:Int) ||| BitVec.ofInt w (m:Int)).toNat=n ||| m:=by grind
theorem mask32 {x:Int} (h:0≤x) (h':x<18446744073709551616):IntKind.wrap .u64 ((BitVec.ofInt 64 x &&& BitVec.ofInt 64 4294967295).toNat:Nat)=x%4294967296:=by
 obtain ⟨n,rfl⟩:=Int.eq_ofNat_of_zero_le h
 have e:(BitVec.ofInt 64 (n:Int) &&& BitVec.ofInt 64 4294967295).toNat=n%2^32:=by
  have:=andN (w:=64) (n:=n) (m:=4294967295) (by omega) (by decide)
  rw [show (4294967295:Int)=((4294967295:Nat):Int) from rfl,this,← Nat.and_two_pow_sub_one_eq_mod]
 grind [wu64]
theorem shr_eq {x:Int} {k:Nat}:Int.fdiv x (2^k)=x / 2^k:=Int.fdiv_eq_ediv_of_nonneg _ (Int.le_of_lt (Int.pow_pos (by decide)))
theorem bit0 {x:Int} (h:0≤x) (h':x<18446744073709551616):IntKind.wrap .u64 ((BitVec.ofInt 64 x &&& BitVec.ofInt 64 1).toNat:Nat)=x%2:=by
 obtain ⟨n,rfl⟩:=Int.eq_ofNat_of_zero_le h
 have e:(BitVec.ofInt 64 (n:Int) &&& BitVec.ofInt 64 1).toNat=n%2^1:=by simp
 grind [wu64]
theorem bit0i {x:Int} (h:0≤x) (h':x<9223372036854775808):IntKind.wrap .i64 ((BitVec.ofInt 64 x &&& BitVec.ofInt 64 1).toNat:Nat)=x%2:=by
 obtain ⟨n,rfl⟩:=Int.eq_ofNat_of_zero_le h
 have e:(BitVec.ofInt 64 (n:Int) &&& BitVec.ofInt 64 1).toNat=n%2^1:=by simp
 grind [wI]
theorem tmod_nn {a b:Int} (h:0≤a):Int.tmod a b=a%b:=Int.tmod_eq_emod_of_nonneg h
theorem tdiv_nn {a b:Int} (h:0≤a):Int.tdiv a b=a / b:=Int.tdiv_eq_ediv_of_nonneg h
theorem mul_bnd {a b:Int} (ha:0≤a) (hb:0≤b) (ha':a<4294967296) (hb':b<4294967296):0≤a*b∧a*b≤18446744065119617025:=by
 refine ⟨Int.mul_nonneg ha hb,?_⟩
 have:=Int.mul_le_mul (show a≤4294967295 by omega) (show b≤4294967295 by omega) hb (by omega)
 omega
theorem mul64_m {x y:Int} (_:0≤x) (_':x<18446744073709551616) (_:0≤y) (_':y<18446744073709551616) :
  x / 4294967296*(y / 4294967296)+(x / 4294967296*(y%4294967296)+x%4294967296*(y%4294967296) / 4294967296) / 4294967296 +
   ((x / 4294967296*(y%4294967296)+x%4294967296*(y%4294967296) / 4294967296)%4294967296+x%4294967296*(y / 4294967296)) / 4294967296=x*y / 18446744073709551616:=by
 have e:x*y=x / 4294967296*(y / 4294967296)*18446744073709551616+(x / 4294967296*(y%4294967296)+x%4294967296*(y / 4294967296))*4294967296+x%4294967296*(y%4294967296):=by grind
 omega
theorem fdiv32 (x:Int):Int.fdiv x (2^32)=x / 4294967296:=shr_eq
def lenI (x:Int):Int:=if x≤0 then 0 else Nat.log2 x.toNat+1
theorem lenI_char {x:Int} {n:Nat} (h1:2^n≤x) (h2:x<2^(n+1)):lenI x=n+1:=by
 have hp:(0:Int)<2^n:=Int.pow_pos (by decide)
 obtain ⟨m,rfl⟩:=Int.eq_ofNat_of_zero_le (a:=x) (by omega)
 unfold lenI
 rw [if_neg (by omega)]
 have hm:m≠0:=by omega
 have:Nat.log2 m=n:=by
  rw [Nat.log2_eq_iff hm]
  grind
 grind
theorem lenI_pos {x:Int} (h:0<x):∃ n:Nat,lenI x=n+1∧2^n≤x∧x<2^(n+1):=by
 obtain ⟨m,rfl⟩:=Int.eq_ofNat_of_zero_le (a:=x) (by omega)
 have hm:m≠0:=by omega
 refine ⟨Nat.log2 m,?_,?_,?_⟩
 ·simp_all [lenI]
 ·grind [Nat.log2_self_le]
 ·exact_mod_cast Nat.lt_log2_self
theorem len_step {x:Int} (k:Nat) (h:2^k≤x):lenI x=k+lenI (x / 2^k):=by
 have hp:(0:Int)<2^k:=Int.pow_pos (by decide)
 have h0:0<x / 2^k:=(by have:=(Int.le_ediv_iff_mul_le (a:=1) (b:=x) hp).2 (by omega);omega)
 obtain ⟨n,h1,h2,h3⟩:=lenI_pos h0
 rw [h1,lenI_char (n:=n+k)]
 ·omega
 ·simp_all [Int.pow_add,Int.le_ediv_iff_mul_le]
 ·rw [show n+k+1=(n+1)+k by omega,Int.pow_add]
  simp_all [Int.ediv_lt_iff_lt_mul]
def len8:List UInt8:=[0,1,2,2,3,3,3,3,4,4,4,4,4,4,4,4,5,5,5,5,5,5,5,5,5,5,5,5,5,5,5,5,6,6,6,6,6,6,6,6,6,6,6,6,6,6,6,6,6,6,6,6,6,6,6,6,6,6,6,6,6,6,6,6,7,7,7,7,7,7,7,7,7,7,7,7,7,7,7,7,7,7,7,7,7,7,7,7,7,7,7,7,7,7,7,7,7,7,7,7,7,7,7,7,7,7,7,7,7,7,7,7,7,7,7,7,7,7,7,7,7,7,7,7,7,7,7,7,8,8,8,8,8,8,8,8,8,8,8,8,8,8,8,8,8,8,8,8,8,8,8,8,8,8,8,8,8,8,8,8,8,8,8,8,8,8,8,8,8,8,8,8,8,8,8,8,8,8,8,8,8,8,8,8,8,8,8,8,8,8,8,8,8,8,8,8,8,8,8,8,8,8,8,8,8,8,8,8,8,8,8,8,8,8,8,8,8,8,8,8,8,8,8,8,8,8,8,8,8,8,8,8,8,8,8,8,8,8,8,8,8,8,8,8,8,8,8,8,8,8,8,8,8,8,8,8]
set_option maxRecDepth 100000 in
theorem len8_at:∀ n:Fin 256,(((List.getD len8 n.val default).toNat:Nat):Int)=lenI (n.val:Int):=by decide +kernel
theorem len_fin {c X:Int} (h:0≤X) (h':X<256) (hc:0≤c) (hc':c≤64):IntKind.wrap .i64 (c+IntKind.wrap .i64 (((List.getD len8 (toNat (IntKind.wrap .u8 X)) default).toNat:Nat):Int))=c+lenI X:=by
 rw [wu8 h h']
 have e:=len8_at ⟨X.toNat,by omega⟩
 simp only at e
 rw [e,Int.toNat_of_nonneg h]
 have:0≤lenI X∧lenI X≤8:=by
  by_cases h0:0<X
  ·obtain ⟨n,h1,h2,h3⟩:=lenI_pos h0
   rw [h1]
   have:n<8:=by
    have h4:(2:Int)^n<2^8:=by omega
    have h5:(2:Nat)^n<2^8:=by grind
    exact (Nat.pow_lt_pow_iff_right (by decide)).1 h5
   omega
  ·have:X=0:=by omega
   subst this
   exact ⟨by decide,by decide⟩
 grind [wI,lenI]
theorem shr32 (x:Int):Int.fdiv x (2^32)=x / 2^32:=shr_eq
theorem shr16 (x:Int):Int.fdiv x (2^16)=x / 2^16:=shr_eq
theorem shr8 (x:Int):Int.fdiv x (2^8)=x / 2^8:=shr_eq
section
structure Est (y1 y0 un d q r : Int) : Prop where
  e : q * y1 + r = un
  le : (un * 4294967296 + d) / (y1 * 4294967296 + y0) ≤ q
  hi : q ≤ 4294967297
  r0 : 0 ≤ r
structure Dig (y1 y0 un d : Int) : Prop where
  a : 2147483648 ≤ y1
  b : y1 < 4294967296
  c : 0 ≤ y0
  c' : y0 < 4294967296
  u : 0 ≤ un
  u' : un < y1 * 4294967296 + y0
  d0 : 0 ≤ d
  d1 : d < 4294967296
variable {y1 y0 un d q r : Int}
theorem Dig.pos (h:Dig y1 y0 un d):0<y1*4294967296+y0:=by have:=h.a;have:=h.c;omega
theorem Dig.Q0 (h:Dig y1 y0 un d):0≤(un*4294967296+d) / (y1*4294967296+y0):=by
 have:=h.u;have:=h.d0
 exact Int.ediv_nonneg (by omega) (Int.le_of_lt h.pos)
theorem Dig.Q1 (h:Dig y1 y0 un d):(un*4294967296+d) / (y1*4294967296+y0)<4294967296:=by
 have h1:=h.u';have h2:=h.d1
 refine (Int.ediv_lt_iff_lt_mul h.pos).2 ?_
 omega
theorem Dig.init (h:Dig y1 y0 un d):Est y1 y0 un d (un / y1) (un - un / y1*y1)∧un - un / y1*y1<4294967296:=by
 have hp:0<y1:=by have:=h.a;omega
 have hb:=h.b
 have e1:=Int.emod_add_mul_ediv un y1
 have e2:=Int.emod_nonneg un (show y1≠0 by omega)
 have e3:=Int.emod_lt_of_pos un hp
 have e4:un / y1*y1=y1*(un / y1):=Int.mul_comm _ _
 have hu:=h.u;have hu':=h.u';have hc:=h.c';have ha:=h.a;have hd:=h.d1;have hc0:=h.c
 have q0:0≤un / y1:=Int.ediv_nonneg hu (by omega)
 refine ⟨⟨by omega,?_,?_,by omega⟩,by omega⟩
 ·refine Int.lt_add_one_iff.1 ((Int.ediv_lt_iff_lt_mul h.pos).2 ?_)
  have k1:(un / y1+1)*(y1*4294967296+y0)=y1*(un / y1)*4294967296+y1*4294967296+(un / y1+1)*y0:=by grind
  have k2:0≤(un / y1+1)*y0:=Int.mul_nonneg (by omega) hc0
  omega
 ·refine Int.lt_add_one_iff.1 ((Int.ediv_lt_iff_lt_mul hp).2 ?_)
  omega
theorem Est.stop (h:Dig y1 y0 un d) (k:Est y1 y0 un d q r) (h2:q*y0≤4294967296*r+d):q=(un*4294967296+d) / (y1*4294967296+y0):=by
 have k1:=k.e
 have k2:=k.le
 have:q≤(un*4294967296+d) / (y1*4294967296+y0):=by
  refine (Int.le_ediv_iff_mul_le h.pos).2 ?_
  grind
 omega
theorem Est.more (h:Dig y1 y0 un d) (k:Est y1 y0 un d q r) (h2:4294967296≤q∨4294967296*r+d<q*y0):(un*4294967296+d) / (y1*4294967296+y0)≤q - 1∧1≤q:=by
 have q0:=h.Q0
 rcases h2 with h2|h2
 ·have:=h.Q1;omega
 ·have k1:=k.e
  have:(un*4294967296+d) / (y1*4294967296+y0)<q:=by
   refine (Int.ediv_lt_iff_lt_mul h.pos).2 ?_
   grind
  omega
theorem Est.next (h:Dig y1 y0 un d) (k:Est y1 y0 un d q r) (h2:4294967296≤q∨4294967296*r+d<q*y0):Est y1 y0 un d (q - 1) (r+y1):=by
 have k1:=k.e;have k2:=k.hi;have k3:=k.r0;have:=h.a
 refine ⟨?_,(k.more h h2).1,by omega,by omega⟩
 grind
theorem Est.brk (h:Dig y1 y0 un d) (k:Est y1 y0 un d q r) (hr:4294967296≤r) (hq:q≤4294967296):q=(un*4294967296+d) / (y1*4294967296+y0):=by
 refine k.stop h ?_
 have hd:=h.d0;have hc:=h.c';have hc0:=h.c
 have q0:0≤q:=Int.le_trans h.Q0 k.le
 have:=Int.mul_le_mul hq (show y0≤4294967295 by omega) hc0 (by omega)
 omega
theorem Dig.rem (h:Dig y1 y0 un d) (hq:q=(un*4294967296+d) / (y1*4294967296+y0)):(((un*4294967296)%18446744073709551616+d)%18446744073709551616 - (q*(y1*4294967296+y0))%18446744073709551616)%18446744073709551616=(un*4294967296+d)%(y1*4294967296+y0):=by
 have e1:=Int.emod_add_mul_ediv (un*4294967296+d) (y1*4294967296+y0)
 have e2:=Int.emod_nonneg (un*4294967296+d) (show y1*4294967296+y0≠0 by have:=h.pos;omega)
 have e3:=Int.emod_lt_of_pos (un*4294967296+d) h.pos
 rw [← hq] at e1
 have e4:(y1*4294967296+y0)*q=q*(y1*4294967296+y0):=Int.mul_comm _ _
 have hb:=h.b;have hc:=h.c'
 omega
end
def shI (y:Int):Nat:=(64 - lenI y).toNat
theorem shI_spec {y:Int} (h:0<y) (h':y<18446744073709551616):shI y<64∧lenI y=64 - shI y∧9223372036854775808≤y*2^shI y∧y*2^shI y<18446744073709551616:=by
 obtain ⟨n,h1,h2,h3⟩:=lenI_pos h
 have hn:n<64:=by
  have h4:(2:Int)^n=((2^n:Nat):Int):=by rfl
  exact (Nat.pow_lt_pow_iff_right (a:=2) (m:=64) (by decide)).1 (by omega)
 have hs:shI y=63 - n:=by grind [shI]
 rw [hs,h1]
 have e:(2:Int)^n*2^(63 - n)=9223372036854775808:=by rw [← Int.pow_add,show n+(63 - n)=63 by omega];rfl
 have e2:(2:Int)^(n+1)*2^(63 - n)=18446744073709551616:=by grind
 have hp:(0:Int)<2^(63 - n):=Int.pow_pos (by decide)
 refine ⟨by omega,by omega,?_,?_⟩
 ·rw [← e];exact Int.mul_le_mul_of_nonneg_right h2 (Int.le_of_lt hp)
 ·rw [← e2];exact Int.mul_lt_mul_of_pos_right h3 hp
theorem lenI_bnd {y:Int} (h:0≤y) (h':y<18446744073709551616):0≤lenI y∧lenI y≤64:=by
 by_cases h0:0<y
 ·have:=shI_spec h0 h'
  omega
 ·have:y=0:=by omega
  subst this
  exact ⟨by decide,by decide⟩
theorem or_add {a b:Int} {s:Nat} (ha:0≤a) (hb:0≤b) (hb':b<2^s) (hs:a*2^s+b<18446744073709551616):IntKind.wrap .u64 ((BitVec.ofInt 64 (a*2^s) ||| BitVec.ofInt 64 b).toNat:Nat)=a*2^s+b:=by
 obtain ⟨n,rfl⟩:=Int.eq_ofNat_of_zero_le ha
 obtain ⟨m,rfl⟩:=Int.eq_ofNat_of_zero_le hb
 have hm:m<2^s:=by grind
 have e:((n:Int)*2^s)=((n*2^s:Nat):Int):=by rfl
 rw [e] at hs
 have hlt:n*2^s+m<2^64:=by omega
 rw [e,orN (by omega) (by omega),← Nat.shiftLeft_eq,← Nat.shiftLeft_add_eq_or_of_lt hm,Nat.shiftLeft_eq,wu64 (by omega) (by omega)]
 rfl
section
structure Div (x y z : Int) : Prop where
  x0 : 0 ≤ x
  xz : x < z
  z1 : z < 18446744073709551616
  y0 : 0 ≤ y
  y1 : y < 18446744073709551616
def dY (z:Int):Int:=z*2^shI z
def dU (x y z:Int):Int:=(x*18446744073709551616+y)*2^shI z
def dU1 (x y z:Int):Int:=dU x y z / 18446744073709551616
def dU0 (x y z:Int):Int:=dU x y z%18446744073709551616
def dN (x y z:Int):Int:=dU1 x y z*4294967296+dU0 x y z / 4294967296
def dQ (x y z:Int):Int:=dN x y z / dY z
def dR (x y z:Int):Int:=dN x y z%dY z
variable {x y z : Int}
theorem Div.sh (h:Div x y z):shI z<64∧lenI z=64 - shI z∧9223372036854775808≤dY z∧dY z<18446744073709551616:=shI_spec (by have:=h.x0;have:=h.xz;omega) h.z1
theorem Div.u1 (h:Div x y z):dU1 x y z=x*2^shI z+y / 2^(64 - shI z):=by
 have hs:=h.sh
 have e:(18446744073709551616:Int)=2^(64 - shI z)*2^shI z:=by rw [← Int.pow_add,show 64 - shI z+shI z=64 by omega];rfl
 have e2:dU x y z=y*2^shI z+x*2^shI z*18446744073709551616:=by grind [dU]
 unfold dU1
 rw [e2,Int.add_mul_ediv_right _ _ (by decide)]
 grind [shI,Int.mul_ediv_mul_of_pos_left,Int.pow_pos]
theorem Div.u0 (_:Div x y z):dU0 x y z=y*2^shI z%18446744073709551616:=by grind [dU,shI,dU0]
theorem dY_split (z:Int):dY z / 4294967296*4294967296+dY z%4294967296=dY z:=by omega
theorem Div.ult (h:Div x y z):0≤dU1 x y z∧dU1 x y z<dY z:=by
 have hp:(0:Int)<2^shI z:=Int.pow_pos (by decide)
 have h0:0≤dU x y z:=Int.mul_nonneg (by have:=h.x0;have:=h.y0;omega) (Int.le_of_lt hp)
 refine ⟨Int.ediv_nonneg h0 (by decide),(Int.ediv_lt_iff_lt_mul (by decide)).2 ?_⟩
 have:dU x y z<(z*18446744073709551616)*2^shI z:=Int.mul_lt_mul_of_pos_right (by have:=h.xz;have:=h.y1;omega) hp
 grind [dY,shI]
theorem Div.dig1 (h:Div x y z):Dig (dY z / 4294967296) (dY z%4294967296) (dU1 x y z) (dU0 x y z / 4294967296):=by
 have hs:=h.sh
 have hu:=h.ult
 have h0:0≤dU0 x y z∧dU0 x y z<18446744073709551616:=by grind [dU0]
 exact ⟨by omega,by omega,by omega,by omega,hu.1,by omega,by omega,by omega⟩
theorem Div.dig2 (h:Div x y z):Dig (dY z / 4294967296) (dY z%4294967296) (dR x y z) (dU0 x y z%4294967296):=by
 have hs:=h.sh
 have hp:0<dY z:=by omega
 have r0:0≤dR x y z:=Int.emod_nonneg _ (by omega)
 have r1:dR x y z<dY z:=Int.emod_lt_of_pos _ hp
 exact ⟨by omega,by omega,by omega,by omega,r0,by omega,by omega,by omega⟩
theorem Div.fin (h:Div x y z):dQ x y z*4294967296+(dR x y z*4294967296+dU0 x y z%4294967296) / dY z=(x*18446744073709551616+y) / z ∧
  (dR x y z*4294967296+dU0 x y z%4294967296)%dY z / 2^shI z=(x*18446744073709551616+y)%z:=by
 have hs:=h.sh
 have hp:0<dY z:=by omega
 have h2:(0:Int)<2^shI z:=Int.pow_pos (by decide)
 have e1:dY z*dQ x y z+dR x y z=dN x y z:=Int.mul_ediv_add_emod _ _
 have e2:=Int.mul_ediv_add_emod (dR x y z*4294967296+dU0 x y z%4294967296) (dY z)
 have r0:=Int.emod_nonneg (dR x y z*4294967296+dU0 x y z%4294967296) (show dY z≠0 by omega)
 have r1:=Int.emod_lt_of_pos (dR x y z*4294967296+dU0 x y z%4294967296) hp
 have e3:dU x y z=dU1 x y z*18446744073709551616+dU0 x y z:=by grind [dU1,dU0]
 generalize (dR x y z*4294967296+dU0 x y z%4294967296)%dY z=r at *
 generalize (dR x y z*4294967296+dU0 x y z%4294967296) / dY z=q at *
 have e4:dU x y z=r+dY z*(dQ x y z*4294967296+q):=by grind [dY,dQ,dN]
 have u:=(Int.ediv_emod_unique hp).2 ⟨e4.symm,r0,r1⟩
 grind [dU,dY,Int.mul_ediv_mul_of_pos_left,shI,Int.mul_comm,Int.mul_emod_mul_of_pos,Int.mul_ediv_cancel]
theorem Div.s (h:Div x y z):IntKind.wrap .u64 (64 - lenI z)=shI z:=by have:=h.sh;grind [wu64]
theorem Div.sm (h:Div x y z):min (toNat (IntKind.wrap .u64 (64 - lenI z))) 64=shI z:=by have:=h.sh;rw [h.s];omega
theorem Div.v2 (h:Div x y z):IntKind.wrap .u64 (z*2^min (toNat (IntKind.wrap .u64 (64 - lenI z))) 64)=dY z:=by
 have:=h.sh
 grind [wu64,dY]
theorem Div.v10 (h:Div x y z):IntKind.wrap .u64 (y*2^min (toNat (IntKind.wrap .u64 (64 - lenI z))) 64)=dU0 x y z:=by
 rw [h.sm,wu64m,h.u0]
theorem Div.v11 (h:Div x y z):IntKind.wrap .u64 ((BitVec.ofInt 64 (IntKind.wrap .u64 (x*2^min (toNat (IntKind.wrap .u64 (64 - lenI z))) 64)) ||| BitVec.ofInt 64 (Int.fdiv y (2^min (toNat (IntKind.wrap .u64 (64 - IntKind.wrap .u64 (64 - lenI z)))) 64))).toNat:Nat)=dU1 x y z:=by
 have hs:=h.sh
 have hu:=h.ult
 have h2:(0:Int)<2^shI z:=Int.pow_pos (by decide)
 have hx:0≤x*2^shI z:=Int.mul_nonneg h.x0 (Int.le_of_lt h2)
 have e:min (toNat (IntKind.wrap .u64 (64 - IntKind.wrap .u64 (64 - lenI z)))) 64=64 - shI z:=by grind [wu64]
 rw [h.sm,e,shr_eq,h.u1]
 have hy:0≤y / 2^(64 - shI z):=Int.ediv_nonneg h.y0 (Int.le_of_lt (Int.pow_pos (by decide)))
 have hy':y / 2^(64 - shI z)<2^shI z:=by
  refine (Int.ediv_lt_iff_lt_mul (Int.pow_pos (by decide))).2 ?_
  rw [← Int.pow_add,show shI z+(64 - shI z)=64 by omega]
  exact h.y1
 have hlt:x*2^shI z+y / 2^(64 - shI z)<18446744073709551616:=by rw [← h.u1];omega
 rw [wu64 hx (by omega)]
 exact or_add h.x0 hy hy' hlt
theorem Est.cond_t {y1 y0 un d q r:Int} (h:Dig y1 y0 un d) (k:Est y1 y0 un d q r) (hr:r<4294967296) (g:q≥4294967296∨IntKind.wrap .u64 (q*y0)>IntKind.wrap .u64 (IntKind.wrap .u64 (4294967296*r)+d)):4294967296≤q∨4294967296*r+d<q*y0:=by
 by_cases hq:4294967296≤q
 ·omega
 ·right
  have q0:0≤q:=Int.le_trans h.Q0 k.le
  have hc:=h.c;have hc':=h.c';have:=k.r0;have:=h.d0;have:=h.d1
  grind [mul_bnd,wu64]
theorem Est.cond_f {y1 y0 un d q r:Int} (h:Dig y1 y0 un d) (k:Est y1 y0 un d q r) (hr:r<4294967296) (g:¬q≥4294967296∧¬IntKind.wrap .u64 (q*y0)>IntKind.wrap .u64 (IntKind.wrap .u64 (4294967296*r)+d)):q*y0≤4294967296*r+d:=by
 have q0:0≤q:=Int.le_trans h.Q0 k.le
 have hc:=h.c;have hc':=h.c';have:=k.r0;have:=h.d0;grind [mul_bnd,wu64]
theorem Est.q_ok {y1 y0 un d q r:Int} (h:Dig y1 y0 un d) (k:Est y1 y0 un d q r):0≤q∧q≤4294967297:=⟨Int.le_trans h.Q0 k.le,k.hi⟩
theorem Div.rem1 (h:Div x y z) {q:Int} (hq:q=dQ x y z):IntKind.wrap .u64 (IntKind.wrap .u64 (IntKind.wrap .u64 (dU1 x y z*4294967296)+dU0 x y z / 4294967296) - IntKind.wrap .u64 (q*dY z))=dR x y z:=by
 have e:=h.dig1.rem (q:=q) (by rw [dY_split];exact hq)
 rw [dY_split] at e
 rw [wu64m,wu64m,wu64m,wu64m]
 exact e
theorem Div.rem2 (h:Div x y z) {q:Int} (hq:q=(dR x y z*4294967296+dU0 x y z%4294967296) / dY z):IntKind.wrap .u64 (IntKind.wrap .u64 (IntKind.wrap .u64 (dR x y z*4294967296)+dU0 x y z%4294967296) - IntKind.wrap .u64 (q*dY z))=(dR x y z*4294967296+dU0 x y z%4294967296)%dY z:=by
 have e:=h.dig2.rem (q:=q) (by grind)
 grind [dY_split,wu64m]
end
section
variable {y1 y0 un d q r : Int}
theorem Dig.q_w (h:Dig y1 y0 un d):IntKind.wrap .u64 (Int.tdiv un y1)=un / y1:=by
 have k:=h.init.1.q_ok h
 rw [tdiv_nn h.u,wu64 (by omega) (by omega)]
theorem Dig.r_w (h:Dig y1 y0 un d):IntKind.wrap .u64 (un - IntKind.wrap .u64 (IntKind.wrap .u64 (Int.tdiv un y1)*y1))=un - un / y1*y1:=by
 have k:=h.init.1.q_ok h
 have k0:=h.init.1.r0
 have k1:=h.init.2
 have k2:=h.a
 have k3:0≤un / y1*y1:=Int.mul_nonneg (by omega) (by omega)
 have k4:=h.u';have k5:=h.b;have k6:=h.c';grind [wu64]
end
section
variable {x y z y1 y0 un d q r : Int}
theorem Est.stepW (h:Dig y1 y0 un d) (k:Est y1 y0 un d q r) (hr:r<4294967296) (g:q≥4294967296∨IntKind.wrap .u64 (q*y0)>IntKind.wrap .u64 (IntKind.wrap .u64 (4294967296*r)+d)):IntKind.wrap .u64 (q - 1)=q - 1∧IntKind.wrap .u64 (r+y1)=r+y1:=by
 have m:=k.more h (k.cond_t h hr g)
 have:=k.hi;have:=k.r0;have:=h.a;have:=h.b
 grind [wu64]
theorem Est.brkW (h:Dig y1 y0 un d) (k:Est y1 y0 un d q r) (hr:r<4294967296) (g:q≥4294967296∨IntKind.wrap .u64 (q*y0)>IntKind.wrap .u64 (IntKind.wrap .u64 (4294967296*r)+d)) (g2:IntKind.wrap .u64 (r+y1)≥4294967296):IntKind.wrap .u64 (q - 1)=(un*4294967296+d) / (y1*4294967296+y0):=by
 have w:=k.stepW h hr g
 rw [w.2] at g2
 rw [w.1]
 exact (k.next h (k.cond_t h hr g)).brk h g2 (by have:=k.hi;omega)
theorem Est.nextW (h:Dig y1 y0 un d) (k:Est y1 y0 un d q r) (hr:r<4294967296) (g:q≥4294967296∨IntKind.wrap .u64 (q*y0)>IntKind.wrap .u64 (IntKind.wrap .u64 (4294967296*r)+d)) (g2:¬IntKind.wrap .u64 (r+y1)≥4294967296):Est y1 y0 un d (q - 1) (r+y1)∧r+y1<4294967296:=by
 have w:=k.stepW h hr g
 rw [w.2] at g2
 exact ⟨k.next h (k.cond_t h hr g),by omega⟩
theorem Div.dQ_eq (z:Int):(dU1 x y z*4294967296+dU0 x y z / 4294967296) / (dY z / 4294967296*4294967296+dY z%4294967296)=dQ x y z:=by rw [dY_split];rfl
theorem Div.out (h:Div x y z) (hq:q=(dR x y z*4294967296+dU0 x y z%4294967296) / (dY z / 4294967296*4294967296+dY z%4294967296)):IntKind.wrap .u64 (IntKind.wrap .u64 (dQ x y z*4294967296)+q)=(x*18446744073709551616+y) / z ∧
  Int.fdiv (IntKind.wrap .u64 (IntKind.wrap .u64 (IntKind.wrap .u64 (dR x y z*4294967296)+dU0 x y z%4294967296) - IntKind.wrap .u64 (q*dY z))) (2^min (toNat ((shI z:Nat):Int)) 64)=(x*18446744073709551616+y)%z:=by
 have e:=h.fin
 have a1:=h.dig1.Q0;have a2:=h.dig1.Q1
 rw [Div.dQ_eq] at a1 a2
 have b1:=h.dig2.Q0;have b2:=h.dig2.Q1
 rw [← hq] at b1 b2
 rw [dY_split] at hq
 have hs:=h.sh
 rw [h.rem2 hq,wu64 (n:=dQ x y z*4294967296) (by omega) (by omega),wu64 (by omega) (by omega),shr_eq,hq,e.1]
 grind
end
def chkI (a b m:Int):Int:=if m<1∨2305843009213693952≤m then 1 else if 0≤a∧a<m∧0≤b∧b<m then 0 else 2
theorem chk_ok {a b m:Int} (hm:0<m) (hm':m<2305843009213693952) (ha:0≤a) (ha':a<m) (hb:0≤b) (hb':b<m):chkI a b m=0:=by simp_all [chkI]<;>omega
theorem chk_inv {a b m:Int} (h:chkI a b m=0):0<m∧m<2305843009213693952∧0≤a∧a<m∧0≤b∧b<m:=by grind [chkI]
theorem pow_mod (a:Int) (m:Int):∀ k:Nat,(a%m)^k%m=a^k%m
 | 0=>by simp
 | k+1=>by simp [Int.pow_succ,Int.mul_emod,pow_mod,Int.emod_emod_of_dvd,Int.dvd_refl]
theorem mulmod (a b m:Int):a%m*b%m=a*b%m:=by simp [Int.mul_emod,Int.emod_emod_of_dvd,Int.dvd_refl]
theorem mulmod2 (a b m:Int):a*(b%m)%m=a*b%m:=by simp [Int.mul_emod,Int.emod_emod_of_dvd,Int.dvd_refl]
theorem sq_pow {a m:Int} {e:Nat} (c:Int):c*(a*a%m)^e%m=c*a^(2*e)%m:=by
 rw [← mulmod2,pow_mod,mulmod2,Int.pow_mul,show a^2=a*a by grind]
theorem pow_even {x a m e:Int} (h0:0≤e) (h:e%2=0):x*(a*a%m)^(e / 2).toNat%m=x*a^e.toNat%m:=by
 rw [sq_pow,show 2*(e / 2).toNat=e.toNat by omega]
theorem pow_odd {x a m e:Int} (h0:0≤e) (h:e%2=1):x*a%m*(a*a%m)^(e / 2).toNat%m=x*a^e.toNat%m:=by
 rw [sq_pow,mulmod,show e.toNat=2*(e / 2).toNat+1 by omega,Int.pow_succ,Int.mul_assoc,Int.mul_comm a]
structure PwI (a0 : Int) (e0 : Nat) (m : Int) (s : Int × Int × Int) : Prop where
  p : s.1 * s.2.1 ^ s.2.2.toNat % m = a0 ^ e0 % m
  x0 : 0 ≤ s.1
  x1 : s.1 < m
  a0 : 0 ≤ s.2.1
  a1 : s.2.1 < m
  e0 : 0 ≤ s.2.2
theorem PwI.even {a0:Int} {e0:Nat} {m x a e:Int} (h:PwI a0 e0 m (x,a,e)) (hm:0<m) (he:e%2=0):PwI a0 e0 m (x,a*a%m,e / 2):=by
 have:=h.e0
 exact ⟨by rw [← h.p];grind [pow_even],h.x0,h.x1,Int.emod_nonneg _ (by omega),Int.emod_lt_of_pos _ hm,by grind⟩
theorem PwI.odd {a0:Int} {e0:Nat} {m x a e:Int} (h:PwI a0 e0 m (x,a,e)) (hm:0<m) (he:e%2=1):PwI a0 e0 m (x*a%m,a*a%m,e / 2):=by
 have:=h.e0
 exact ⟨by rw [← h.p];grind [pow_odd],Int.emod_nonneg _ (by omega),Int.emod_lt_of_pos _ hm,Int.emod_nonneg _ (by omega),Int.emod_lt_of_pos _ hm,by grind⟩
theorem PwI.stop {a0:Int} {e0:Nat} {m x a e:Int} (h:PwI a0 e0 m (x,a,e)) (he:¬e>0):x=a0^e0%m:=by
 have e1:=h.e0
 have:e=0:=by grind
 subst this
 have:=h.p
 simp only [Int.toNat_zero,Int.pow_zero,Int.mul_one] at this
 rw [← this,Int.emod_eq_of_lt h.x0 h.x1]
theorem PwI.start {a e m:Int} (h0:0≤a) (h1:a<m) (he:0≤e):PwI a e.toNat m (1%m,a,e) :=
 ⟨by simp [mulmod],Int.emod_nonneg _ (by omega),Int.emod_lt_of_pos _ (by omega),h0,h1,he⟩
structure MlI (p0 : Int) (m : Int) (s : Int × Int × Int) : Prop where
  p : (s.1 + s.2.1 * s.2.2) % m = p0 % m
  x0 : 0 ≤ s.1
  x1 : s.1 < m
  a0 : 0 ≤ s.2.1
  a1 : s.2.1 < m
  e0 : 0 ≤ s.2.2
theorem dbl {x a e m:Int} (h:e%2=0):(x+(a+a)%m*(e / 2))%m=(x+a*e)%m:=by grind [Int.add_emod,mulmod]
theorem dbl1 {x a e m:Int} (h:e%2=1):((x+a)%m+(a+a)%m*(e / 2))%m=(x+a*e)%m:=by
 rw [Int.add_emod,mulmod,Int.emod_emod_of_dvd _ (Int.dvd_refl m),← Int.add_emod]
 grind
theorem MlI.even {p0 m x a e:Int} (h:MlI p0 m (x,a,e)) (hm:0<m) (he:e%2=0):MlI p0 m (x,(a+a)%m,e / 2):=by
 have:=h.e0
 exact ⟨by rw [← h.p];exact dbl he,h.x0,h.x1,Int.emod_nonneg _ (by omega),Int.emod_lt_of_pos _ hm,by grind⟩
theorem MlI.odd {p0 m x a e:Int} (h:MlI p0 m (x,a,e)) (hm:0<m) (he:e%2=1):MlI p0 m ((x+a)%m,(a+a)%m,e / 2):=by
 have:=h.e0
 exact ⟨by rw [← h.p];exact dbl1 he,Int.emod_nonneg _ (by omega),Int.emod_lt_of_pos _ hm,Int.emod_nonneg _ (by omega),Int.emod_lt_of_pos _ hm,by grind⟩
theorem MlI.stop {p0 m x a e:Int} (h:MlI p0 m (x,a,e)) (he:¬e>0):x=p0%m:=by
 have e1:=h.e0
 have:e=0:=by grind
 subst this
 have:=h.p
 simp only [Int.mul_zero,Int.add_zero] at this
 rw [← this,Int.emod_eq_of_lt h.x0 h.x1]
theorem MlI.start {a b m:Int} (h0:0≤a) (h1:a<m) (he:0≤b):MlI (a*b) m (0,a,b) :=
 ⟨by simp,by simp,by omega,h0,h1,he⟩
theorem fdiv2 (x:Int):Int.fdiv x (2^1)=x / 2:=shr_eq
theorem mul61 {a b m:Int} (ha:0≤a) (ha':a<m) (hb:0≤b) (hb':b<m) (hm:m<2305843009213693952):0≤a*b∧a*b<m*18446744073709551616:=by
 refine ⟨Int.mul_nonneg ha hb,?_⟩
 have:=Int.mul_le_mul (show a≤m by omega) (show b≤18446744073709551615 by omega) hb (by omega)
 omega
theorem pmul_bnd {a b n:Int} (h0:0≤a) (h1:a<n) (h2:0≤b) (h3:b<18446744073709551616):a*b<n*18446744073709551616:=by
 have:=Int.mul_le_mul (show a≤n - 1 by omega) (show b≤18446744073709551615 by omega) h2 (by omega)
 omega
theorem chk_1 {a b m:Int} (h:m<1∨m≥2305843009213693952):chkI a b m=1:=by simp_all [chkI]
theorem chk_2 {a b m:Int} (h:¬m<1∧¬m≥2305843009213693952) (h2:(¬a≥0∨¬a<m)∨(¬b≥0∨¬b<m)):chkI a b m=2:=by simp_all [chkI,if_neg]<;>omega
theorem chk_3 {a b m:Int} (h:¬m<1∧¬m≥2305843009213693952) (h2:(a≥0∧a<m)∧(b≥0∧b<m)):chkI a b m=0:=by simp_all [chkI,if_neg]
def okv (e v:Int):Int:=if e=0 then v else 0
theorem okv0 (v:Int):okv 0 v=v:=rfl
theorem okvn {e v:Int} (h:e≠0):okv e v=0:=if_neg h
def powE (a e m:Int):Int:=if chkI a a m=0 then (if e<0 then 2 else 0) else chkI a a m
theorem powE_1 {a e m:Int} (h:¬chkI a a m=0):powE a e m=chkI a a m:=if_neg h
theorem powE_2 {a e m:Int} (h:chkI a a m=0) (h2:e<0):powE a e m=2:=by simp_all [powE]
theorem powE_0 {a e m:Int} (h:chkI a a m=0) (h2:¬e<0):powE a e m=0:=by simp_all [powE,if_neg]
theorem tmod_cases {a m:Int} (hm:0<m):(0≤Int.tmod a m∧Int.tmod a m=a%m)∨(Int.tmod a m<0∧Int.tmod a m+m=a%m):=by
 by_cases ha:0≤a
 ·left;rw [tmod_nn ha];exact ⟨Int.emod_nonneg _ (by omega),rfl⟩
 ·have e:Int.tmod a m = -((-a)%m):=by
   have:=Int.neg_tmod (-a) m
   grind
  grind [Int.emod_nonneg,Int.emod_lt_of_pos,Int.mul_ediv_add_emod,Int.ediv_emod_unique,Int.mul_neg]
theorem reduce_n {a m:Int} (hm:0<m) (hm':m≤9223372036854775807) (h:Int.tmod a m<0):IntKind.wrap .i64 (Int.tmod a m+m)=a%m:=by
 have h0:=Int.emod_nonneg a (show m≠0 by omega)
 grind [Int.emod_lt_of_pos,tmod_cases,wI]
theorem reduce_p {a m:Int} (hm:0<m) (h:¬Int.tmod a m<0):Int.tmod a m=a%m:=by grind [tmod_cases]
theorem small_mul {a b:Int} (ha:0≤a) (hb:0≤b) (h:a<2147483648∧b<2147483648):IntKind.wrap .i64 (a*b)=a*b:=by
 have:=Int.mul_le_mul (show a≤2147483647 by omega) (show b≤2147483647 by omega) hb (by omega)
 have:=Int.mul_nonneg ha hb
 grind [wI]
theorem addW {a b m:Int} (h0:0≤a) (h1:a<m) (h2:0≤b) (h3:b<m) (hm:m<2305843009213693952):Int.tmod (IntKind.wrap .i64 (a+b)) m=(a+b)%m:=by grind [wI,tmod_nn]
theorem halfW {e:Int} (h:0≤e) (h':e≤9223372036854775807):IntKind.wrap .i64 (Int.tdiv e 2)=e / 2:=by grind [tdiv_nn,wI]
theorem PwI.even' {a0:Int} {e0:Nat} {m:Int} {s:Int×Int×Int} (h:PwI a0 e0 m s) (hm:0<m) (he:s.2.2%2=0):PwI a0 e0 m (s.1,s.2.1*s.2.1%m,s.2.2 / 2):=PwI.even (x:=s.1) (a:=s.2.1) (e:=s.2.2) h hm he
theorem PwI.odd' {a0:Int} {e0:Nat} {m:Int} {s:Int×Int×Int} (h:PwI a0 e0 m s) (hm:0<m) (he:s.2.2%2=1):PwI a0 e0 m (s.1*s.2.1%m,s.2.1*s.2.1%m,s.2.2 / 2):=PwI.odd (x:=s.1) (a:=s.2.1) (e:=s.2.2) h hm he
theorem PwI.stop' {a0:Int} {e0:Nat} {m:Int} {s:Int×Int×Int} (h:PwI a0 e0 m s) (he:¬s.2.2>0):s.1=a0^e0%m:=PwI.stop (x:=s.1) (a:=s.2.1) (e:=s.2.2) h he
theorem MlI.even' {p0 m:Int} {s:Int×Int×Int} (h:MlI p0 m s) (hm:0<m) (he:s.2.2%2=0):MlI p0 m (s.1,(s.2.1+s.2.1)%m,s.2.2 / 2):=MlI.even (x:=s.1) (a:=s.2.1) (e:=s.2.2) h hm he
theorem MlI.odd' {p0 m:Int} {s:Int×Int×Int} (h:MlI p0 m s) (hm:0<m) (he:s.2.2%2=1):MlI p0 m ((s.1+s.2.1)%m,(s.2.1+s.2.1)%m,s.2.2 / 2):=MlI.odd (x:=s.1) (a:=s.2.1) (e:=s.2.2) h hm he
theorem MlI.stop' {p0 m:Int} {s:Int×Int×Int} (h:MlI p0 m s) (he:¬s.2.2>0):s.1=p0%m:=MlI.stop (x:=s.1) (a:=s.2.1) (e:=s.2.2) h he
theorem PwI.start' {a e m:Int} (he:e≤9223372036854775807):(chkI a a m=0→0≤e→PwI a e.toNat m (1%m,a,e))∧e≤9223372036854775807 :=
 ⟨fun h1 h2=>by have:=chk_inv h1;grind [PwI.start],he⟩
def bsL:List Int:=[2,3,5,7,11,13,17,19,23,29,31,37]
def dbL:List Int:=[0,1,56,2,57,49,28,3,61,58,42,50,38,29,17,4,62,47,59,36,45,43,51,22,53,39,33,30,24,18,12,5,63,55,48,27,60,41,37,16,46,35,44,21,52,32,23,11,54,26,40,15,34,20,31,10,25,14,19,9,13,8,7,6]
def kL:List Int:=[1116352408,1899447441,3049323471,3921009573,961987163,1508970993,2453635748,2870763221,3624381080,310598401,607225278,1426881987,1925078388,2162078206,2614888103,3248222580,3835390401,4022224774,264347078,604807628,770255983,1249150122,1555081692,1996064986,2554220882,2821834349,2952996808,3210313671,3336571891,3584528711,113926993,338241895,666307205,773529912,1294757372,1396182291,1695183700,1986661051,2177026350,2456956037,2730485921,2820302411,3259730800,3345764771,3516065817,3600352804,4094571909,275423344,430227734,506948616,659060556,883997877,958139571,1322822218,1537002063,1747873779,1955562222,2024104815,2227730452,2361852424,2428436474,2756734187,3204031479,3329325298]
def stL:List Int:=[1779033703,3144134277,1013904242,2773480762,1359893119,2600822924,528734635,1541459225]
def bsF (j:Nat):Int:=bsL.getD j 0
def dbF (j:Nat):Int:=dbL.getD j 0
def kF (j:Nat):Int:=kL.getD j 0
def stF (j:Nat):Int:=stL.getD j 0
def tzf:Nat→Int→Nat
 | 0,_=>0
 | k+1,x=>if x%2=0 then tzf k (x / 2)+1 else 0
def tzI (x:Int):Nat:=tzf 64 x
theorem tzf_spec:∀ (k:Nat) (x:Int),0<x→x<2^k→tzf k x<k∧x=2^tzf k x*(x / 2^tzf k x)∧x / 2^tzf k x%2=1
 | 0,x,h,h'=>by omega
 | k+1,x,h,h'=>by
  unfold tzf
  by_cases he:x%2=0
  ·rw [if_pos he]
   have hk:x / 2<2^k:=by omega
   obtain ⟨h1,h2,h3⟩:=tzf_spec k (x / 2) (by omega) hk
   generalize tzf k (x / 2)=t at *
   have e:x / 2^(t+1)=x / 2 / 2^t:=by simp [Int.pow_succ,Int.mul_comm,Int.ediv_ediv]
   grind
  grind
theorem tzI_spec {x:Int} (h:0<x) (h':x<18446744073709551616):tzI x<64∧x=2^tzI x*(x / 2^tzI x)∧x / 2^tzI x%2=1:=tzf_spec 64 x h h'
theorem tzf_uniq:∀ (k t:Nat) (o:Int),t<k→o%2=1→tzf k (2^t*o)=t
 | 0,t,o,h,_=>by omega
 | k+1,0,o,h,ho=>by simp_all [tzf,Int.pow_zero,Int.one_mul]
 | k+1,t+1,o,h,ho=>by
  unfold tzf
  have e:(2:Int)^(t+1)*o=2*(2^t*o):=by grind
  simp_all [tzf_uniq]
theorem tzI_uniq {t:Nat} {o:Int} (h:t<64) (ho:o%2=1):tzI (2^t*o)=t:=tzf_uniq 64 t o h ho
theorem odd_and {o m:Nat} (ho:o%2=1) (h:o<2^m):o &&& (2^m - o)=1:=by
 apply Nat.eq_of_testBit_eq
 intro i
 have e:2^m - o=2^m - ((o - 1)+1):=by omega
 rw [Nat.testBit_and,e,Nat.testBit_two_pow_sub_succ (by omega)]
 cases i<;>grind
theorem low_bit {x:Int} (h:0<x) (h':x<18446744073709551616):IntKind.wrap .u64 ((BitVec.ofInt 64 x &&& BitVec.ofInt 64 (IntKind.wrap .u64 (0 - x))).toNat:Nat)=2^tzI x:=by
 obtain ⟨h1,h2,h3⟩:=tzI_spec h h'
 generalize tzI x=t at *
 obtain ⟨n,rfl⟩:=Int.eq_ofNat_of_zero_le (a:=x) (by omega)
 have hp:(0:Int)<2^t:=Int.pow_pos (by decide)
 obtain ⟨o,ho⟩:=Int.eq_ofNat_of_zero_le (a:=(n:Int) / 2^t) (Int.ediv_nonneg (by omega) (by omega))
 rw [ho] at h2 h3
 have hn:n=2^t*o:=by grind
 have e1:IntKind.wrap .u64 (0 - (n:Int))=((2^64 - n:Nat):Int):=by grind [wu64m]
 have hpos:0<n:=by omega
 rw [e1,andN (by omega) (by omega)]
 have hpow:(2:Nat)^64=2^t*2^(64 - t):=by rw [← Nat.pow_add];grind
 have hpt:0<2^t:=Nat.pos_of_ne_zero (by simp)
 have hlt:o<2^(64 - t):=by
  have:2^t*o<2^t*2^(64 - t):=by omega
  simp_all
 have e2:2^64 - n=2^t*(2^(64 - t) - o):=by grind [Nat.mul_sub]
 have e3:n &&& (2^64 - n)=2^t:=by
  rw [e2,hn,Nat.mul_comm,Nat.mul_comm (2^t),← Nat.shiftLeft_eq,← Nat.shiftLeft_eq,← Nat.shiftLeft_and_distrib,odd_and (by omega) hlt,Nat.shiftLeft_eq,Nat.one_mul]
 rw [e3]
 have:2^t<2^64:=Nat.pow_lt_pow_right (by decide) h1
 grind [wu64]
theorem db_at:∀ t:Fin 64,dbF (toNat ((2^t.val*285870213051353865:Int)%18446744073709551616 / 288230376151711744))=t.val:=by decide +kernel
theorem tz_w {t:Nat} (h:t<64):dbF (toNat (Int.fdiv (IntKind.wrap .u64 (2^t*285870213051353865)) (2^58)))=t:=by
 rw [shr_eq,wu64m]
 exact db_at ⟨t,h⟩
theorem tz_b {t:Nat}:0≤Int.fdiv (IntKind.wrap .u64 (2^t*285870213051353865)) (2^58)∧Int.fdiv (IntKind.wrap .u64 (2^t*285870213051353865)) (2^58)<64:=by grind [shr_eq,wu64m]
def msq (a d n:Int) (i:Nat):Int:=a^(d.toNat*2^i)%n
theorem msq_0 (a d n:Int):msq a d n 0=a^d.toNat%n:=by simp [msq]
theorem msq_s (a d n:Int) (i:Nat):msq a d n (i+1)=msq a d n i*msq a d n i%n:=by
 unfold msq
 rw [mulmod,mulmod2,← Int.pow_add,Nat.pow_succ]
 grind
def hasI (p:Nat→Bool) (n:Nat):Bool:=(List.range n).any p
theorem hasI_t {p:Nat→Bool} {n i:Nat} (h:i<n) (hp:p i=true):hasI p n=true:=List.any_eq_true.2 ⟨i,List.mem_range.2 h,hp⟩
theorem hasI_f {p:Nat→Bool} {n:Nat} (h:∀ i,i<n→p i=false):hasI p n=false:=List.any_eq_false.2 fun i hi=>by grind
def allI (p:Nat→Bool) (n:Nat):Bool:=(List.range n).all p
theorem allI_f {p:Nat→Bool} {n i:Nat} (h:i<n) (hp:p i=false):allI p n=false:=List.all_eq_false.2 ⟨i,List.mem_range.2 h,by grind⟩
theorem allI_t {p:Nat→Bool} {n:Nat} (h:∀ i,i<n→p i=true):allI p n=true:=List.all_eq_true.2 fun i hi=>h i (List.mem_range.1 hi)
def strongB (n a:Int):Bool:=msq a ((n - 1) / 2^tzI (n - 1)) n 0==1||hasI (fun i=>msq a ((n - 1) / 2^tzI (n - 1)) n i==n - 1) (tzI (n - 1))
def isP (n:Int):Bool:=if n<2 then false else if 0≤firstI (fun i=>n%bsF i==0) 12 0 then n==bsF (firstI (fun i=>n%bsF i==0) 12 0).toNat else allI (fun i=>strongB n (bsF i)) 12
theorem bsF_pos:∀ i:Fin 12,2≤bsF i.val∧bsF i.val≤37:=by decide +kernel
theorem bsF_bnd {i:Nat} (h:i<12):2≤bsF i∧bsF i≤37:=bsF_pos ⟨i,h⟩
theorem bs_small:∀ n:Fin 38,2≤(n.val:Int)→∃ i:Fin 12,(n.val:Int)%bsF i.val=0:=by decide +kernel
theorem bs_great {n:Int} (h:2≤n) (h2:∀ i,i<12→n%bsF i≠0):37<n:=by
 refine Int.not_le.1 fun hle=>?_
 obtain ⟨i,hi⟩:=bs_small ⟨n.toNat,by omega⟩ (by grind)
 grind
theorem firstI_m {p:Nat→Bool}:∀ k i,firstI p k i<0→∀ j,j<k→p (i+j)=false
 | 0,_,_,j,hj=>by omega
 | k+1,i,h,j,hj=>by
  unfold firstI at h
  by_cases hp:p i=true
  ·grind
  ·rw [if_neg hp] at h
   cases j with
   | zero=>simpa using hp
   | succ j =>
    have:=firstI_m k (i+1) h j (by omega)
    rw [show i+(j+1)=i+1+j by omega];exact this
theorem firstI_lt {p:Nat→Bool}:∀ k i,firstI p k i<(i+k:Nat)
 | 0,i=>by grind [firstI]
 | k+1,i=>by
  unfold firstI
  split
  ·omega
  ·have:=firstI_lt (p:=p) k (i+1);omega
theorem isP_1 {n:Int} (h:n<2):isP n=false:=if_pos h
theorem isP_2 {n:Int} {i:Nat} (h:¬n<2) (he:firstI (fun i=>n%bsF i==0) 12 0=firstI (fun i=>n%bsF i==0) (12 - i) i) (hi:i<12) (h0:n%bsF i=0):isP n=(n==bsF i):=by
 have e:=first_hit he hi (by grind)
 unfold isP
 grind
theorem isP_3 {n:Int} {i:Nat} (h:¬n<2) (he:firstI (fun i=>n%bsF i==0) 12 0=firstI (fun i=>n%bsF i==0) (12 - i) i) (hi:12≤i):isP n=allI (fun i=>strongB n (bsF i)) 12∧37<n∧∀ i,i<12→n%bsF i≠0:=by
 have e:=first_miss he hi
 have hn:∀ i,i<12→n%bsF i≠0:=fun j hj=>by
  have:=firstI_m (p:=fun i=>n%bsF i==0) 12 0 (by omega) j hj
  grind
 simp_all [bs_great,isP,if_neg]<;>omega
theorem odd_of {n:Int} (h2:∀ i,i<12→n%bsF i≠0):n%2=1:=by
 have:=h2 0 (by decide)
 have e:bsF 0=2:=rfl
 grind
theorem bs_at {i:Nat} (h:i<12):intOfAV (atL [.int .u64 (bsF 0),.int .u64 (bsF 1),.int .u64 (bsF 2),.int .u64 (bsF 3),.int .u64 (bsF 4),.int .u64 (bsF 5),.int .u64 (bsF 6),.int .u64 (bsF 7),.int .u64 (bsF 8),.int .u64 (bsF 9),.int .u64 (bsF 10),.int .u64 (bsF 11)] i)=bsF i:=congrArg intOfAV (atL_map_range (es:=12) (g:=fun j=>AV.int .u64 (bsF j)) h)
def noHit (a d n:Int) (i:Nat):Prop:=msq a d n 0≠n - 1→∀ r,r≤i→msq a d n r≠n - 1
theorem noHit_0 (a d n:Int):noHit a d n 0:=fun h r hr=>by grind
theorem noHit_s {a d n:Int} {i:Nat} (h:noHit a d n i) (h2:msq a d n (i+1)≠n - 1):noHit a d n (i+1):=fun h0 r hr=>by
 by_cases e:r=i+1
 ·grind
 ·exact h h0 r (by omega)
theorem comp_t1 {a d n:Int} {s:Nat} (hs:0<s) (hn:2≤n) (hn':n<18446744073709551616) (g:a^d.toNat%n=1∨a^d.toNat%n=IntKind.wrap .u64 (n - 1)):(msq a d n 0==1||hasI (fun i=>msq a d n i==n - 1) s)=true:=by grind [wu64,msq_0,hasI_t]
theorem comp_t2 {a d n:Int} {s i:Nat} (hi:i+1<s) (g:msq a d n (i+1)=n - 1):(msq a d n 0==1||hasI (fun i=>msq a d n i==n - 1) s)=true:=by grind [hasI_t]
theorem comp_f {a d n:Int} {s i:Nat} (h1:¬msq a d n 0=1) (h2:msq a d n 0≠n - 1) (h:noHit a d n i) (hi:s≤i+1):(msq a d n 0==1||hasI (fun i=>msq a d n i==n - 1) s)=false:=by
 rw [hasI_f fun r hr=>by simpa using h h2 r (by omega)]
 grind
theorem comp_eq {n:Int} {i:Nat} (hi:i<12) (hn:2≤n) (hn':n<18446744073709551616) :
  (msq (intOfAV (atL [.int .u64 (bsF 0),.int .u64 (bsF 1),.int .u64 (bsF 2),.int .u64 (bsF 3),.int .u64 (bsF 4),.int .u64 (bsF 5),.int .u64 (bsF 6),.int .u64 (bsF 7),.int .u64 (bsF 8),.int .u64 (bsF 9),.int .u64 (bsF 10),.int .u64 (bsF 11)] i)) (Int.fdiv (IntKind.wrap .u64 (n - 1)) (2^min (toNat ((tzI (n - 1):Nat):Int)) 64)) n 0==1||hasI (fun q=>msq (intOfAV (atL [.int .u64 (bsF 0),.int .u64 (bsF 1),.int .u64 (bsF 2),.int .u64 (bsF 3),.int .u64 (bsF 4),.int .u64 (bsF 5),.int .u64 (bsF 6),.int .u64 (bsF 7),.int .u64 (bsF 8),.int .u64 (bsF 9),.int .u64 (bsF 10),.int .u64 (bsF 11)] i)) (Int.fdiv (IntKind.wrap .u64 (n - 1)) (2^min (toNat ((tzI (n - 1):Nat):Int)) 64)) n q==n - 1) (tzI (n - 1)))=strongB n (bsF i):=by
 have ht:=(tzI_spec (x:=n - 1) (by omega) (by omega)).1
 rw [bs_at hi,wu64 (by omega) (by omega),Int.toNat_natCast,Nat.min_eq_left (by omega),shr_eq]
 rfl
theorem odd_part {n d:Int} {s:Nat} (hn:2≤n) (hn':n<18446744073709551616) (h:n - 1=2^s*d) (hd:0<d):s<64:=by
 have h1:(2:Int)^s≤2^s*d:=by
  have:=Int.mul_le_mul_of_nonneg_left (show 1≤d by omega) (Int.le_of_lt (Int.pow_pos (by decide):(0:Int)<2^s))
  omega
 have h4:(2:Int)^s=((2^s:Nat):Int):=by rfl
 exact (Nat.pow_lt_pow_iff_right (a:=2) (m:=64) (by decide)).1 (by omega)
theorem odd_part2 {n d:Int} {s:Nat} (hn:2≤n) (hn':n<18446744073709551616) (h:n - 1=2^s*d) (hd:0<d) (ho:¬Int.tmod d 2=0):tzI (n - 1)=s∧(n - 1) / 2^tzI (n - 1)=d:=by grind [odd_part,tmod_nn,tzI,tzI_uniq,Int.mul_ediv_cancel_left,Int.ne_of_gt,Int.pow_pos]
theorem odd_step {n d:Int} {s:Nat} (h:n - 1=2^s*d) (hd:0<d) (he:Int.tmod d 2=0):n - 1=2^(s+1)*(d / 2)∧0<d / 2:=by grind
theorem odd_le {n d:Int} {s:Nat} (h:n - 1=2^s*d) (hd:0<d):d≤n - 1:=by
 have:1*d≤2^s*d:=Int.mul_le_mul_of_nonneg_right (by have:=(Int.pow_pos (by decide):(0:Int)<2^s);omega) (by omega)
 omega
theorem comp_side {n:Int} (hn:2≤n) (hn':n<18446744073709551616) (ho:n%2=1) :
  0≤Int.fdiv (IntKind.wrap .u64 (n - 1)) (2^min (toNat ((tzI (n - 1):Nat):Int)) 64)∧Int.fdiv (IntKind.wrap .u64 (n - 1)) (2^min (toNat ((tzI (n - 1):Nat):Int)) 64)<18446744073709551616∧tzI (n - 1)<64∧0<tzI (n - 1):=by
 have ht:=tzI_spec (x:=n - 1) (by omega) (by omega)
 rw [wu64 (by omega) (by omega),shr_eq]
 have h1:=Int.ediv_nonneg (a:=n - 1) (b:=2^min (toNat ((tzI (n - 1):Nat):Int)) 64) (by omega) (Int.le_of_lt (Int.pow_pos (by decide)))
 have h2:=Int.ediv_le_self (a:=n - 1) (2^min (toNat ((tzI (n - 1):Nat):Int)) 64) (by omega)
 grind
theorem odd_start (n:Int):2≤n→n - 1=2^0*(n - 1)∧0<n - 1:=fun h=>⟨by simp,by omega⟩
theorem lst_fn {os:List (Option Ob)} {es n:Nat} {mu:Bool} {l:List (List AV)} {f:Nat→Nat→AV} (h:∀ i j,i<n→j<es→atL (l.getD i []) j=f i j):ObEnt os ⟨es,n,mu,.lst l⟩ ⟨es,n,mu,.fn f⟩:=⟨rfl,rfl,rfl,fun i j hi hj=>Ent.of_eq (h i j hi hj)⟩
theorem bs_ob {os:List (Option Ob)} {mu:Bool}:ObEnt os ⟨1,12,mu,.lst [[.int .i64 2],[.int .i64 3],[.int .i64 5],[.int .i64 7],[.int .i64 11],[.int .i64 13],[.int .i64 17],[.int .i64 19],[.int .i64 23],[.int .i64 29],[.int .i64 31],[.int .i64 37]]⟩ ⟨1,12,mu,.fn fun i _=>.int .i64 (bsF i)⟩:=lst_fn fun i j hi hj=>by
 obtain rfl:j=0:=by omega
 match i,hi with
 | 0,_|1,_|2,_|3,_|4,_|5,_|6,_|7,_|8,_|9,_|10,_|11,_=>rfl
theorem strong_t1 {n a:Int} (ho:0<tzI (n - 1)) (g:msq a ((n - 1) / 2^tzI (n - 1)) n 0=1∨msq a ((n - 1) / 2^tzI (n - 1)) n 0=n - 1):strongB n a=true:=by grind [strongB,hasI_t]
theorem strong_t2 {n a:Int} {i:Nat} (hi:i+1<tzI (n - 1)) (g:msq a ((n - 1) / 2^tzI (n - 1)) n (i+1)=n - 1):strongB n a=true:=by grind [strongB,hasI_t]
theorem strong_f {n a:Int} {i:Nat} (h1:¬msq a ((n - 1) / 2^tzI (n - 1)) n 0=1) (h2:msq a ((n - 1) / 2^tzI (n - 1)) n 0≠n - 1) (h:noHit a ((n - 1) / 2^tzI (n - 1)) n i) (hi:tzI (n - 1)≤i+1):strongB n a=false:=comp_f h1 h2 h hi
end Go.Sp

namespace Go.Am
abbrev z32:List AV:=[Zb 0,Zb 0,Zb 0,Zb 0,Zb 0,Zb 0,Zb 0,Zb 0,Zb 0,Zb 0,Zb 0,Zb 0,Zb 0,Zb 0,Zb 0,Zb 0,Zb 0,Zb 0,Zb 0,Zb 0,Zb 0,Zb 0,Zb 0,Zb 0,Zb 0,Zb 0,Zb 0,Zb 0,Zb 0,Zb 0,Zb 0,Zb 0]
end Go.Am

namespace Go.Am
open Go

class Cn (q : Prop) (p : outParam Prop) : Prop where
  get : q → p
instance (priority := low) Cn.i0 {q : Prop} : Cn q q := ⟨id⟩
section
variable {x y : Bool} {p q : Prop}
instance Cn.i1 [h : Cn (x = true) p] [k : Cn (y = true) q] : Cn ((x && y) = true) (p ∧ q) := ⟨cnd_and_t h.get k.get⟩
instance Cn.i2 [h : Cn (x = false) p] [k : Cn (y = false) q] : Cn ((x && y) = false) (p ∨ q) := ⟨cnd_and_f h.get k.get⟩
instance Cn.i3 [h : Cn (x = true) p] [k : Cn (y = true) q] : Cn ((x || y) = true) (p ∨ q) := ⟨cnd_or_t h.get k.get⟩
instance Cn.i4 [h : Cn (x = false) p] [k : Cn (y = false) q] : Cn ((x || y) = false) (p ∧ q) := ⟨cnd_or_f h.get k.get⟩
instance Cn.i5 [h : Cn (x = false) p] : Cn ((!x) = true) p := ⟨cnd_not_t h.get⟩
instance Cn.i6 [h : Cn (x = true) p] : Cn ((!x) = false) p := ⟨cnd_not_f h.get⟩
instance Cn.i7 [h : Cn (x = true) p] : Cn ((x == true) = true) p := ⟨cnd_eqt_t h.get⟩
instance Cn.i8 [h : Cn (x = false) p] : Cn ((x == true) = false) p := ⟨cnd_eqt_f h.get⟩
instance Cn.i9 [h : Cn (x = false) p] : Cn ((x == false) = true) p := ⟨cnd_eqf_t h.get⟩
instance Cn.j0 [h : Cn (x = true) p] : Cn ((x == false) = false) p := ⟨cnd_eqf_f h.get⟩
instance Cn.j1 {i : Decidable p} : Cn (@decide p i = true) p := ⟨cnd_dec_t⟩
instance Cn.j2 {i : Decidable p} : Cn (@decide p i = false) (¬ p) := ⟨cnd_dec_f⟩
end
section
variable {a b : Int}
instance Cn.j3 : Cn ((a == b) = true) (a = b) := ⟨cnd_beq_t⟩
instance Cn.j4 : Cn ((a == b) = false) (¬ a = b) := ⟨cnd_beq_f⟩
instance Cn.j5 : Cn ((a != b) = true) (¬ a = b) := ⟨cnd_bne_t⟩
instance Cn.j6 : Cn ((a != b) = false) (a = b) := ⟨cnd_bne_f⟩
end
section
variable {a b : Nat}
instance Cn.j7 : Cn (Nat.beq a b = true) (a = b) := ⟨cnd_nbeq_t⟩
instance Cn.j8 : Cn (Nat.beq a b = false) (¬ a = b) := ⟨cnd_nbeq_f⟩
instance Cn.j9 : Cn (Nat.blt a b = true) (a < b) := ⟨cnd_nblt_t⟩
instance Cn.k0 : Cn (Nat.blt a b = false) (¬ a < b) := ⟨cnd_nblt_f⟩
instance Cn.k1 : Cn (Nat.ble a b = true) (a ≤ b) := ⟨cnd_nble_t⟩
instance Cn.k2 : Cn (Nat.ble a b = false) (¬ a ≤ b) := ⟨cnd_nble_f⟩
end

def Okr (P : Program) (gl : Globs) (ng : Nat) (_ : AV) (_ : List (Option Ob)) (_ : List (ASt → Prop)) (s : Sk) : Prop := s.ok P gl ng

class Mx (P : Program) : Prop where
  h : P.follows .mixedOrders = true

section
variable {P : Program} {gl : Globs} [hm : Mx P]

theorem pz {f : FuncId} {fn : Func} {args : List AV} {r : AV} {sk : Sk} (hf : P.funcs[f]? = some fn) (h : Okr P gl 0 r [] [] sk)
    (hname : (fn.name == "runtime.NumGoroutine") = false := by rfl) (hn : Nat.ble args.length fn.ntmps = true := by rfl) (hu : unroll 0 (walk P gl (fun _ => none) false fn [] args r []) sk = sk := by kernel_rfl) : Pure P gl f args r :=
  pure_sk hf hname hm.h hn sk hu h
theorem pzo (own : FuncId → Option (List Bool)) {f : FuncId} {fn : Func} {args : List AV} {r : AV} {sk : Sk} (hf : P.funcs[f]? = some fn) (h : Okr P gl 0 r [] [] sk)
    (hname : (fn.name == "runtime.NumGoroutine") = false := by rfl) (hn : Nat.ble args.length fn.ntmps = true := by rfl) (hu : unroll 0 (walk P gl own false fn [] args r []) sk = sk := by kernel_rfl) : Pure P gl f args r :=
  pure_sk hf hname hm.h hn sk hu h
theorem gz (own : FuncId → Option (List Bool)) {f : FuncId} {fn : Func} {ob : List Ob} {args : List AV} {r : AV} {obs' : List (Option Ob)} {sk : Sk} (hf : P.funcs[f]? = some fn) (h : Okr P gl ob.length r obs' [] sk)
    (hname : (fn.name == "runtime.NumGoroutine") = false := by rfl) (hn : Nat.ble args.length fn.ntmps = true := by rfl) (hu : unroll ob.length (walk P gl own true fn ob args r obs') sk = sk := by kernel_rfl) : Gives P gl f ob args r obs' :=
  gives_sk hf hname hm.h hn sk hu h
end

section
variable {P : Program} {gl : Globs}
variable {ng : Nat} {r : AV} {o : List (Option Ob)} {A : List (ASt → Prop)}

theorem n_old (s : Sk) (h : s.ok P gl ng) : Okr P gl ng r o A s := h
theorem n_tt {t : Sk} (h : Okr P gl ng r o A t) : Okr P gl ng r o A (.tt t) := h
theorem n_ff {t : Sk} (h : Okr P gl ng r o A t) : Okr P gl ng r o A (.ff t) := h
theorem n_br (b : Bool) {t e : Sk} {p q : Prop} [hp : Cn (b = true) p] [hq : Cn (b = false) q] (h1 : p → Okr P gl ng r o A t) (h2 : q → Okr P gl ng r o A e) : Okr P gl ng r o A (.br b t e) := ⟨fun h => h1 (hp.get h), fun h => h2 (hq.get h)⟩
theorem n_bd (c : Prop) [d : Decidable c] {t e : Sk} (h1 : c → Okr P gl ng r o A t) (h2 : ¬ c → Okr P gl ng r o A e) : Okr P gl ng r o A (.br (@decide c d) t e) := ⟨fun h => h1 (of_decide_eq_true h), fun h => h2 (of_decide_eq_false h)⟩
theorem n_no (h : False) : Okr P gl ng r o A .no := h.elim
theorem n_br0 (b : Bool) {t e : Sk} (h1 : b = true → Okr P gl ng r o A t) (h2 : b = false → Okr P gl ng r o A e) : Okr P gl ng r o A (.br b t e) := ⟨h1, h2⟩
theorem n_req (p : Prop) {t : Sk} (h1 : p := by first | omega | decide | (intros; omega)) (h2 : Okr P gl ng r o A t) : Okr P gl ng r o A (.req p t) := ⟨h1, h2⟩
theorem n_sc {f : FuncId} {args : List AV} {v : AV} {t : Sk} (h1 : Pure P gl f args v) (h2 : Okr P gl ng r o A t) : Okr P gl ng r o A (.sc true f args v t) := ⟨fun _ => h1, h2⟩
theorem n_scg (g : Bool) {f : FuncId} {args : List AV} {v : AV} {t : Sk} (h1 : g = true → Pure P gl f args v) (h2 : Okr P gl ng r o A t) : Okr P gl ng r o A (.sc g f args v t) := ⟨h1, h2⟩
theorem n_dc {f : FuncId} {args : List AV} {v : AV} {t : Sk} (h1 : Pure P gl f args v) (h2 : Okr P gl ng r o A t) : Okr P gl ng r o A (.dc true f args v t) := ⟨fun _ => h1, h2⟩
theorem n_gc {f : FuncId} {ob : List Ob} {args : List AV} {v : AV} {o' : List (Option Ob)} {t : Sk} (h1 : Gives P gl f ob args v o') (h2 : Okr P gl ng r o A t) : Okr P gl ng r o A (.gc f ob args v o' t) := ⟨h1, h2⟩
theorem n_out {x : AV} (h : Ent [] x r) : Okr P gl ng r [] A (.out x [] r []) := ⟨h, trivial⟩
theorem n_or : Okr P gl ng r [] A (.out r [] r []) := ⟨.refl _, trivial⟩
theorem n_outx (x : AV) (h : Ent [] x r) : Okr P gl ng r [] A (.out x [] r []) := ⟨h, trivial⟩
theorem ObsEnt.rfl' {os : List (Option Ob)} : ∀ {l : List (Option Ob)}, ObsEnt os l l
  | [] => trivial
  | none :: l => (ObsEnt.rfl' : ObsEnt os l l)
  | some o :: _ => ⟨ObEnt.refl o, ObsEnt.rfl'⟩
theorem EntL.rfl' {os : List (Option Ob)} : ∀ {l : List AV}, EntL os l l
  | [] => trivial
  | a :: _ => ⟨.refl a, EntL.rfl'⟩
theorem ObsLow.rfl' {os : List (Option Ob)} : ∀ {l : List (Option Ob)}, ObsLow os l l
  | [] => trivial
  | none :: l => (ObsLow.rfl' : ObsLow os l l)
  | some ⟨es, n, mu, f⟩ :: l => ⟨by cases mu <;> exact ObEnt.refl _, ObsLow.rfl'⟩
theorem n_org : Okr P gl ng r o A (.out r o r o) := ⟨.refl _, .rfl'⟩
theorem n_outG (x : AV) (os : List (Option Ob)) (h : Ent os x r) (h2 : ObsEnt os os o) : Okr P gl ng r o A (.out x os r o) := ⟨h, h2⟩

section
variable {ι : Type} {t : ι → Sk} {i : ι}
theorem n_loop (ι : Type) {t : ι → Sk} (ns π : List Nat) (V : ι → List AV) (O : ι → List (Option Ob)) (m : ι → Nat) (i0 : ι) (h : ∀ i, Okr P gl ng r o (Again ng (fun x => mkSt ns (V x) (O x)) m i :: A) (t i)) :
    Okr P gl ng r o A (.loop ι (fun x => mkSt ns (V x) (O x)) m i0 ns π (V i0) (O i0) t) := ⟨fun _ hs => hs.le .rfl' .rfl', h⟩
theorem n_loopx (ι : Type) {t : ι → Sk} (ns π : List Nat) (V : ι → List AV) (O : ι → List (Option Ob)) (m : ι → Nat) (i0 : ι) (vs : List AV) (os : List (Option Ob)) (hv : EntL os vs (V i0)) (ho : ObsLow os os (O i0))
    (h : ∀ i, Okr P gl ng r o (Again ng (fun x => mkSt ns (V x) (O x)) m i :: A) (t i)) : Okr P gl ng r o A (.loop ι (fun x => mkSt ns (V x) (O x)) m i0 ns π vs os t) := ⟨fun _ hs => hs.le hv ho, h⟩
variable {ns : List Nat} {V : ι → List AV} {O : ι → List (Option Ob)} {m : ι → Nat}
theorem n_again (π : List Nat) (i' : ι) {vs : List AV} (hv : EntL (O i') vs (V i')) (hm : m i' < m i := by first | grind | (dsimp only; omega)) : Okr P gl ng r o (Again ng (fun x => mkSt ns (V x) (O x)) m i :: A) (.again (Again ng (fun x => mkSt ns (V x) (O x)) m i) ns π vs (O i')) :=
  fun _ hs => ⟨i', hs.le hv .rfl', hm⟩
theorem n_againx (π : List Nat) (i' : ι) (vs : List AV) (os : List (Option Ob)) (hv : EntL os vs (V i')) (ho : ObsLow os os (O i')) (hm : m i' < m i := by first | grind | (dsimp only; omega)) : Okr P gl ng r o (Again ng (fun x => mkSt ns (V x) (O x)) m i :: A) (.again (Again ng (fun x => mkSt ns (V x) (O x)) m i) ns π vs os) :=
  fun _ hs => ⟨i', hs.le hv ho, hm⟩
theorem n_up {p : ASt → Prop} {s : Sk} (h : Okr P gl ng r o A s) : Okr P gl ng r o (p :: A) s := h
end
end

section
variable {os : List (Option Ob)} {a1 a2 a3 a4 a5 a6 a7 a8 a9 a10 b1 b2 b3 b4 b5 b6 b7 b8 b9 b10 : AV} {l l' : List AV}
theorem er {a : AV} : Ent os a a := .refl a
theorem e0 : EntL os l l := .rfl'
theorem ec (h : Ent os a1 b1) (k : EntL os l l') : EntL os (a1 :: l) (b1 :: l') := ⟨h, k⟩
theorem ek (k : EntL os l l') : EntL os (a1 :: l) (a1 :: l') := ⟨er, k⟩
theorem ek2 (k : EntL os l l') : EntL os (a1 :: a2 :: l) (a1 :: a2 :: l') := ek (ek k)
theorem ek3 (k : EntL os l l') : EntL os (a1 :: a2 :: a3 :: l) (a1 :: a2 :: a3 :: l') := ek (ek2 k)
theorem ek4 (k : EntL os l l') : EntL os (a1 :: a2 :: a3 :: a4 :: l) (a1 :: a2 :: a3 :: a4 :: l') := ek (ek3 k)
theorem ek5 (k : EntL os l l') : EntL os (a1 :: a2 :: a3 :: a4 :: a5 :: l) (a1 :: a2 :: a3 :: a4 :: a5 :: l') := ek (ek4 k)
theorem en (h : Ent os a1 b1) : EntL os [a1] [b1] := ⟨h, trivial⟩
end
end Go.Am

namespace Go.Proofs.YtcageinnelhonaaGreatDoor
open Go Go.Am
theorem mixed0:Tryz.prog.follows .mixedOrders=true:=by kernel_rfl
instance:Mx Tryz.prog:=⟨mixed0⟩
end Go.Proofs.YtcageinnelhonaaGreatDoor

namespace Go.Proofs.YtcageinnelhonaaGreatDoor
open Go.IntKind (wrap)
open Int (toNat)
open Go Go.Am Go.Sp
set_option maxRecDepth 100000
def gl0:Globs:=fun g=>bif Nat.beq g 0 then some (12,fun j=>.int .u64 (bsF j)) else bif Nat.beq g 1 then some (64,fun j=>.int .u8 (dbF j)) else bif Nat.beq g 4 then some (8,fun j=>.int .u32 (stF j)) else bif Nat.beq g 5 then some (64,fun j=>.int .u32 (kF j)) else none
def ow0:FuncId→Option (List Bool):=fun _=>none
theorem mixed:Tryz.prog.follows .mixedOrders=true:=by kernel_rfl
theorem mul64_c (x y:Int) (hx:0≤x) (hx':x<18446744073709551616) (hy:0≤y) (hy':y<18446744073709551616):Pure Tryz.prog gl0 292 [.int .u64 x,.int .u64 y] (.tup [.int .u64 (x*y / 18446744073709551616),.int .u64 (x*y%18446744073709551616)]):=by
 refine pure_sk (own:=ow0) Tryz.func292 (by kernel_rfl) mixed (by kernel_rfl)
  (let z3:Int:=(4294967295:Int);let z2:Int:=(↑(BitVec.toNat (BitVec.ofInt 64 x &&& BitVec.ofInt 64 z3)):Int);let z1:Int:=(↑(BitVec.toNat (BitVec.ofInt 64 y &&& BitVec.ofInt 64 z3)):Int);let z0:Int:=(wrap .u64 (wrap .u64 (Int.fdiv x ((2:Int)^32)*wrap .u64 z1)+Int.fdiv (wrap .u64 (wrap .u64 z2*wrap .u64 z1)) ((2:Int)^32)));(.out (.tup [Zu (wrap .u64 (wrap .u64 (wrap .u64 (Int.fdiv x ((2:Int)^32)*Int.fdiv y ((2:Int)^32))+Int.fdiv z0 ((2:Int)^32))+Int.fdiv (wrap .u64 (wrap .u64 (↑(BitVec.toNat (BitVec.ofInt 64 z0 &&& BitVec.ofInt 64 z3)):Int)+wrap .u64 (wrap .u64 z2*Int.fdiv y ((2:Int)^32)))) ((2:Int)^32))),Zu (wrap .u64 (x*y))]) [] (.tup [Zu (x*y / 18446744073709551616),Zu (x*y%18446744073709551616)]) []))
  (by kernel_rfl) ?_
 exact k_out (Ent.tup ⟨Ent.of_eq (congrArg _ (by
                                                                                                     rw [← mul64_m hx hx' hy hy']
                                                                                                     have e1:IntKind.wrap .u64 (x*y)=x*y%18446744073709551616:=wu64m _
                                                                                                     have b1:=mul_bnd (a:=x / 4294967296) (b:=y / 4294967296) (by omega) (by omega) (by omega) (by omega)
                                                                                                     have b2:=mul_bnd (a:=x / 4294967296) (b:=y%4294967296) (by omega) (by omega) (by omega) (by omega)
                                                                                                     have b3:=mul_bnd (a:=x%4294967296) (b:=y / 4294967296) (by omega) (by omega) (by omega) (by omega)
                                                                                                     have b4:=mul_bnd (a:=x%4294967296) (b:=y%4294967296) (by omega) (by omega) (by omega) (by omega)
                                                                                                     have b5:∀ z:Int,IntKind.wrap .u64 ((BitVec.ofInt 64 (z%18446744073709551616) &&& BitVec.ofInt 64 4294967295).toNat:Nat)=z%4294967296:=fun z=>by rw [mask32 (by omega) (by omega)];omega
                                                                                                     simp only [fdiv32,mask32 hx hx',mask32 hy hy',wu64m] at b5 ⊢
                                                                                                     rw [b5]
                                                                                                     generalize x / 4294967296*(y / 4294967296)=d at *
                                                                                                     generalize x / 4294967296*(y%4294967296)=b at *
                                                                                                     generalize x%4294967296*(y / 4294967296)=c at *
                                                                                                     generalize x%4294967296*(y%4294967296)=a at *
                                                                                                     omega)),Ent.of_eq (congrArg _ (wu64m _)),trivial⟩)
abbrev kAS20:List UInt8:=[(0:UInt8),1,2,2,3,3,3,3,4,4,4,4,4,4,4,4,5,5,5,5,5,5,5,5,5,5,5,5,5,5,5,5,6,6,6,6,6,6,6,6,6,6,6,6,6,6,6,6,6,6,6,6,6,6,6,6,6,6,6,6,6,6,6,6,7,7,7,7,7,7,7,7,7,7,7,7,7,7,7,7,7,7,7,7,7,7,7,7,7,7,7,7,7,7,7,7,7,7,7,7,7,7,7,7,7,7,7,7,7,7,7,7,7,7,7,7,7,7,7,7,7,7,7,7,7,7,7,7,8,8,8,8,8,8,8,8,8,8,8,8,8,8,8,8,8,8,8,8,8,8,8,8,8,8,8,8,8,8,8,8,8,8,8,8,8,8,8,8,8,8,8,8,8,8,8,8,8,8,8,8,8,8,8,8,8,8,8,8,8,8,8,8,8,8,8,8,8,8,8,8,8,8,8,8,8,8,8,8,8,8,8,8,8,8,8,8,8,8,8,8,8,8,8,8,8,8,8,8,8,8,8,8,8,8,8,8,8,8,8,8,8,8,8,8,8,8,8,8,8,8,8,8,8,8,8,8]
theorem len64_c (x:Int) (h:0≤x) (h':x<18446744073709551616):Pure Tryz.prog gl0 287 [.int .u64 x] (.int .i64 (lenI x)):=by
 exact pz Tryz.func287 (by
  apply n_bd (x≥4294967296)
  ·intro g0
   apply n_bd (Int.fdiv x ((2:Int)^32)≥65536)
   ·intro g1
    apply n_bd (Int.fdiv (Int.fdiv x ((2:Int)^32)) ((2:Int)^16)≥256)
    ·intro g2
     apply n_req ((0:Int)≤wrap .u8 (Int.fdiv (Int.fdiv (Int.fdiv x ((2:Int)^32)) ((2:Int)^16)) ((2:Int)^8))∧wrap .u8 (Int.fdiv (Int.fdiv (Int.fdiv x ((2:Int)^32)) ((2:Int)^16)) ((2:Int)^8))<256) (by grind [shr32,shr16,shr8,wu8])
     exact n_outx (Zi (wrap .i64 (wrap .i64 (wrap .i64 ((32:Int)+16)+8)+wrap .i64 (↑(UInt8.toNat (List.getD kAS20 (toNat (wrap .u8 (Int.fdiv (Int.fdiv (Int.fdiv x ((2:Int)^32)) ((2:Int)^16)) ((2:Int)^8)))) (0:UInt8))):Int)))) (Ent.of_eq (congrArg _ (by
                                                                                                      try simp only [shr32,shr16,shr8] at *
                                                                                                      refine Eq.trans (len_fin (by omega) (by omega) (by decide) (by decide)) ?_
                                                                                                      rw [len_step (x:=x) 32 (by omega),len_step (x:=(x / 2^32)) 16 (by omega),len_step (x:=((x / 2^32) / 2^16)) 8 (by omega)];(try rw [show IntKind.wrap .i64 ((32:Int)+16)=48 from by decide]);(try rw [show IntKind.wrap .i64 ((48:Int)+8)=56 from by decide]);omega)))
    ·intro g2
     apply n_req ((0:Int)≤wrap .u8 (Int.fdiv (Int.fdiv x ((2:Int)^32)) ((2:Int)^16))∧wrap .u8 (Int.fdiv (Int.fdiv x ((2:Int)^32)) ((2:Int)^16))<256) (by grind [shr32,shr16,shr8,wu8])
     exact n_outx (Zi (wrap .i64 (wrap .i64 ((32:Int)+16)+wrap .i64 (↑(UInt8.toNat (List.getD kAS20 (toNat (wrap .u8 (Int.fdiv (Int.fdiv x ((2:Int)^32)) ((2:Int)^16)))) (0:UInt8))):Int)))) (Ent.of_eq (congrArg _ (by
                                                                                                      try simp only [shr32,shr16] at *
                                                                                                      refine Eq.trans (len_fin (by omega) (by omega) (by decide) (by decide)) ?_
                                                                                                      rw [len_step (x:=x) 32 (by omega),len_step (x:=(x / 2^32)) 16 (by omega)];(try rw [show IntKind.wrap .i64 ((32:Int)+16)=48 from by decide]);omega)))
   ·intro g1
    apply n_bd (Int.fdiv x ((2:Int)^32)≥256)
    ·intro g7
     apply n_req ((0:Int)≤wrap .u8 (Int.fdiv (Int.fdiv x ((2:Int)^32)) ((2:Int)^8))∧wrap .u8 (Int.fdiv (Int.fdiv x ((2:Int)^32)) ((2:Int)^8))<256) (by grind [shr32,shr16,shr8,wu8])
     exact n_outx (Zi (wrap .i64 (wrap .i64 ((32:Int)+8)+wrap .i64 (↑(UInt8.toNat (List.getD kAS20 (toNat (wrap .u8 (Int.fdiv (Int.fdiv x ((2:Int)^32)) ((2:Int)^8)))) (0:UInt8))):Int)))) (Ent.of_eq (congrArg _ (by
                                                                                                      try simp only [shr32,shr8] at *
                                                                                                      refine Eq.trans (len_fin (by omega) (by omega) (by decide) (by decide)) ?_
                                                                                                      rw [len_step (x:=x) 32 (by omega),len_step (x:=(x / 2^32)) 8 (by omega)];(try rw [show IntKind.wrap .i64 ((32:Int)+16)=48 from by decide]);(try rw [show IntKind.wrap .i64 ((48:Int)+8)=56 from by decide]);(try rw [show IntKind.wrap .i64 ((32:Int)+8)=40 from by decide]);omega)))
    ·intro g7
     apply n_req ((0:Int)≤wrap .u8 (Int.fdiv x ((2:Int)^32))∧wrap .u8 (Int.fdiv x ((2:Int)^32))<256) (by grind [shr32,shr16,shr8,wu8])
     exact n_outx (Zi (wrap .i64 ((32:Int)+wrap .i64 (↑(UInt8.toNat (List.getD kAS20 (toNat (wrap .u8 (Int.fdiv x ((2:Int)^32)))) (0:UInt8))):Int)))) (Ent.of_eq (congrArg _ (by
                                                                                                      try simp only [shr32] at *
                                                                                                      refine Eq.trans (len_fin (by omega) (by omega) (by decide) (by decide)) ?_
                                                                                                      rw [len_step (x:=x) 32 (by omega)];rfl)))
  ·intro g0
   apply n_bd (x≥65536)
   ·intro g12
    apply n_bd (Int.fdiv x ((2:Int)^16)≥256)
    ·intro g13
     apply n_req ((0:Int)≤wrap .u8 (Int.fdiv (Int.fdiv x ((2:Int)^16)) ((2:Int)^8))∧wrap .u8 (Int.fdiv (Int.fdiv x ((2:Int)^16)) ((2:Int)^8))<256) (by grind [shr32,shr16,shr8,wu8])
     exact n_outx (Zi (wrap .i64 (wrap .i64 (wrap .i64 ((0:Int)+16)+8)+wrap .i64 (↑(UInt8.toNat (List.getD kAS20 (toNat (wrap .u8 (Int.fdiv (Int.fdiv x ((2:Int)^16)) ((2:Int)^8)))) (0:UInt8))):Int)))) (Ent.of_eq (congrArg _ (by
                                                                                                      try simp only [shr16,shr8] at *
                                                                                                      refine Eq.trans (len_fin (by omega) (by omega) (by decide) (by decide)) ?_
                                                                                                      rw [len_step (x:=x) 16 (by omega),len_step (x:=(x / 2^16)) 8 (by omega)];(try rw [show IntKind.wrap .i64 ((32:Int)+16)=48 from by decide]);(try rw [show IntKind.wrap .i64 ((48:Int)+8)=56 from by decide]);(try rw [show IntKind.wrap .i64 ((32:Int)+8)=40 from by decide]);(try rw [show IntKind.wrap .i64 ((0:Int)+16)=16 from by decide]);(try rw [show IntKind.wrap .i64 ((16:Int)+8)=24 from by decide]);omega)))
    ·intro g13
     apply n_req ((0:Int)≤wrap .u8 (Int.fdiv x ((2:Int)^16))∧wrap .u8 (Int.fdiv x ((2:Int)^16))<256) (by grind [shr32,shr16,shr8,wu8])
     exact n_outx (Zi (wrap .i64 (wrap .i64 ((0:Int)+16)+wrap .i64 (↑(UInt8.toNat (List.getD kAS20 (toNat (wrap .u8 (Int.fdiv x ((2:Int)^16)))) (0:UInt8))):Int)))) (Ent.of_eq (congrArg _ (by
                                                                                                      try simp only [shr16] at *
                                                                                                      refine Eq.trans (len_fin (by omega) (by omega) (by decide) (by decide)) ?_
                                                                                                      rw [len_step (x:=x) 16 (by omega)];rfl)))
   ·intro g12
    apply n_bd (x≥256)
    ·intro g18
     apply n_req ((0:Int)≤wrap .u8 (Int.fdiv x ((2:Int)^8))∧wrap .u8 (Int.fdiv x ((2:Int)^8))<256) (by grind [shr32,shr16,shr8,wu8])
     exact n_outx (Zi (wrap .i64 (wrap .i64 ((0:Int)+8)+wrap .i64 (↑(UInt8.toNat (List.getD kAS20 (toNat (wrap .u8 (Int.fdiv x ((2:Int)^8)))) (0:UInt8))):Int)))) (Ent.of_eq (congrArg _ (by
                                                                                                      try simp only [shr8] at *
                                                                                                      refine Eq.trans (len_fin (by omega) (by omega) (by decide) (by decide)) ?_
                                                                                                      rw [len_step (x:=x) 8 (by omega)];rfl)))
    ·intro g18
     apply n_req ((0:Int)≤wrap .u8 x∧wrap .u8 x<256) (by grind [shr32,shr16,shr8,wu8])
     exact n_outx (Zi (wrap .i64 ((0:Int)+wrap .i64 (↑(UInt8.toNat (List.getD kAS20 (toNat (wrap .u8 x)) (0:UInt8))):Int)))) (Ent.of_eq (congrArg _ (by
                                                                                                      try simp only [shr32,shr16,shr8] at *
                                                                                                      refine Eq.trans (len_fin (by omega) (by omega) (by decide) (by decide)) ?_
                                                                                                      omega))))
theorem lz64_c (x:Int) (h:0≤x) (h':x<18446744073709551616):Pure Tryz.prog gl0 340 [.int .u64 x] (.int .i64 (64 - lenI x)):=by
 exact pz Tryz.func340 (by
  apply n_sc (len64_c (x) (by omega) (by omega))
  exact n_out (Ent.of_eq (congrArg _ (wI (by have:=lenI_bnd h h';omega) (by have:=lenI_bnd h h';omega)))))
theorem div64_c (x y z:Int) (hv:Div x y z):Pure Tryz.prog gl0 293 [.int .u64 x,.int .u64 y,.int .u64 z] (.tup [.int .u64 ((x*18446744073709551616+y) / z),.int .u64 ((x*18446744073709551616+y)%z)]):=by
 have hx0:=hv.x0
 have hxz:=hv.xz
 have hz1:=hv.z1
 have hy0:=hv.y0
 have hy1:=hv.y1
 have hs:=hv.sh
 have d1:=hv.dig1
 have d2:=hv.dig2
 have a1:=d1.a
 have hd0:=d1.d0
 have hd1:=d1.d1
 have he0:=d2.d0
 have he1:=d2.d1
 exact pz Tryz.func293 (by
  apply n_br (z==0)
  ·intro _
   apply n_no
   grind
  ·intro g0
   apply n_bd (z≤x)
   ·intro _
    apply n_no
    grind
   ·intro g2
    apply n_br (x==0)
    ·intro g4
     apply n_req (z≠(0:Int))
     apply n_req (z≠(0:Int))
     exact n_outx (.tup [Zu (wrap .u64 (Int.tdiv y z)),Zu (Int.tmod y z)]) (Ent.tup ⟨Ent.of_eq (congrArg _ (by subst g4;rw [tdiv_nn hy0,wu64 (Int.ediv_nonneg hy0 (by omega)) (Int.lt_of_le_of_lt (Int.ediv_le_self _ hy0) hy1)];simp)),Ent.of_eq (congrArg _ (by grind)),trivial⟩)
    ·intro g4
     apply n_sc (lz64_c (z) (by omega) (by omega))
     apply n_req ((0:Int)≤wrap .u64 ((64:Int) - lenI z)) (by rw [hv.s];omega)
     apply n_req ((0:Int)≤wrap .u64 ((64:Int) - lenI z)) (by rw [hv.s];omega)
     apply n_req ((0:Int)≤wrap .u64 ((64:Int) - wrap .u64 ((64:Int) - lenI z))) (by grind [wu64])
     apply n_req ((0:Int)≤wrap .u64 ((64:Int) - lenI z)) (by rw [hv.s];omega)
     apply n_req (Int.fdiv (wrap .u64 (z*2^min (toNat (wrap .u64 ((64:Int) - lenI z))) 64)) ((2:Int)^32)≠(0:Int)) (by rw [hv.v2,shr_eq];omega)
     apply n_loopx ({ x_1:Int×Int // (fun (s:Int×Int)=>Est (dY z / 4294967296) (dY z%4294967296) (dU1 x y z) (dU0 x y z / 4294967296) (Prod.fst s) (Prod.snd s)∧Prod.snd s<4294967296) x_1 }) [2,8,9,10,14,11,13,15,16] [] (fun x_1=>[Zu (dY z),Zu (↑(shI z):Int),Zu (dY z / 4294967296),Zu (dY z%4294967296),Zu (dU0 x y z%4294967296),Zu (dU1 x y z),Zu (dU0 x y z / 4294967296),Zu (Prod.fst (Subtype.val x_1)),Zu (Prod.snd (Subtype.val x_1))]) (fun _=>[]) (fun x_1=>(fun (s:Int×Int)=>toNat (Prod.fst s)) (Subtype.val x_1)) (⟨(dU1 x y z / (dY z / 4294967296),dU1 x y z - dU1 x y z / (dY z / 4294967296)*(dY z / 4294967296)),Dig.init (Div.dig1 hv)⟩) [Zu (wrap .u64 (z*2^min (toNat (wrap .u64 ((64:Int) - lenI z))) 64)),Zu (wrap .u64 ((64:Int) - lenI z)),Zu (Int.fdiv (wrap .u64 (z*2^min (toNat (wrap .u64 ((64:Int) - lenI z))) 64)) ((2:Int)^32)),Zu (wrap .u64 (↑(BitVec.toNat (BitVec.ofInt 64 (wrap .u64 (z*2^min (toNat (wrap .u64 ((64:Int) - lenI z))) 64)) &&& BitVec.ofInt 64 (4294967295:Int))):Int)),Zu (wrap .u64 (↑(BitVec.toNat (BitVec.ofInt 64 (wrap .u64 (y*2^min (toNat (wrap .u64 ((64:Int) - lenI z))) 64)) &&& BitVec.ofInt 64 (4294967295:Int))):Int)),Zu (wrap .u64 (↑(BitVec.toNat (BitVec.ofInt 64 (wrap .u64 (x*2^min (toNat (wrap .u64 ((64:Int) - lenI z))) 64)) ||| BitVec.ofInt 64 (Int.fdiv y ((2:Int)^min (toNat (wrap .u64 ((64:Int) - wrap .u64 ((64:Int) - lenI z)))) 64)))):Int)),Zu (Int.fdiv (wrap .u64 (y*2^min (toNat (wrap .u64 ((64:Int) - lenI z))) 64)) ((2:Int)^32)),Zu (wrap .u64 (Int.tdiv (wrap .u64 (↑(BitVec.toNat (BitVec.ofInt 64 (wrap .u64 (x*2^min (toNat (wrap .u64 ((64:Int) - lenI z))) 64)) ||| BitVec.ofInt 64 (Int.fdiv y ((2:Int)^min (toNat (wrap .u64 ((64:Int) - wrap .u64 ((64:Int) - lenI z)))) 64)))):Int)) (Int.fdiv (wrap .u64 (z*2^min (toNat (wrap .u64 ((64:Int) - lenI z))) 64)) ((2:Int)^32)))),Zu (wrap .u64 (wrap .u64 (↑(BitVec.toNat (BitVec.ofInt 64 (wrap .u64 (x*2^min (toNat (wrap .u64 ((64:Int) - lenI z))) 64)) ||| BitVec.ofInt 64 (Int.fdiv y ((2:Int)^min (toNat (wrap .u64 ((64:Int) - wrap .u64 ((64:Int) - lenI z)))) 64)))):Int) - wrap .u64 (wrap .u64 (Int.tdiv (wrap .u64 (↑(BitVec.toNat (BitVec.ofInt 64 (wrap .u64 (x*2^min (toNat (wrap .u64 ((64:Int) - lenI z))) 64)) ||| BitVec.ofInt 64 (Int.fdiv y ((2:Int)^min (toNat (wrap .u64 ((64:Int) - wrap .u64 ((64:Int) - lenI z)))) 64)))):Int)) (Int.fdiv (wrap .u64 (z*2^min (toNat (wrap .u64 ((64:Int) - lenI z))) 64)) ((2:Int)^32)))*Int.fdiv (wrap .u64 (z*2^min (toNat (wrap .u64 ((64:Int) - lenI z))) 64)) ((2:Int)^32))))] [] (⟨Ent.of_eq (congrArg _ hv.v2),Ent.of_eq (congrArg _ hv.s),Ent.of_eq (congrArg _ (by rw [hv.v2,shr_eq];rfl)),Ent.of_eq (congrArg _ (by rw [hv.v2,mask32 (by omega) (by omega)])),Ent.of_eq (congrArg _ (by rw [hv.v10,mask32 (by omega) (by omega)])),Ent.of_eq (congrArg _ hv.v11),Ent.of_eq (congrArg _ (by rw [hv.v10,shr_eq];rfl)),Ent.of_eq (congrArg _ (by rw [hv.v11,hv.v2,shr_eq];exact d1.q_w)),Ent.of_eq (congrArg _ (by rw [hv.v11,hv.v2,shr_eq];exact d1.r_w)),trivial⟩) (trivial)
     intro x14
     try (have q14:=x14.2;dsimp only at q14)
     apply n_br (decide ((x14.1).1≥4294967296)||decide (wrap .u64 ((x14.1).1*(dY z%4294967296))>wrap .u64 (wrap .u64 ((4294967296:Int)*(x14.1).2)+dU0 x y z / 4294967296)))
     ·intro g15
      apply n_bd (wrap .u64 ((x14.1).2+dY z / 4294967296)≥4294967296)
      ·intro g16
       apply n_req (dY z / 4294967296≠(0:Int))
       apply n_loopx ({ x_1:Int×Int // (fun (s:Int×Int)=>Est (dY z / 4294967296) (dY z%4294967296) (dR x y z) (dU0 x y z%4294967296) (Prod.fst s) (Prod.snd s)∧Prod.snd s<4294967296) x_1 }) [2,8,9,10,14,15,17,18,16] [] (fun x_1=>[Zu (dY z),Zu (↑(shI z):Int),Zu (dY z / 4294967296),Zu (dY z%4294967296),Zu (dU0 x y z%4294967296),Zu (dQ x y z),Zu (dR x y z),Zu (Prod.fst (Subtype.val x_1)),Zu (Prod.snd (Subtype.val x_1))]) (fun _=>[]) (fun x_1=>(fun (s:Int×Int)=>toNat (Prod.fst s)) (Subtype.val x_1)) (⟨(dR x y z / (dY z / 4294967296),dR x y z - dR x y z / (dY z / 4294967296)*(dY z / 4294967296)),Dig.init (Div.dig2 hv)⟩) [Zu (dY z),Zu (↑(shI z):Int),Zu (dY z / 4294967296),Zu (dY z%4294967296),Zu (dU0 x y z%4294967296),Zu (wrap .u64 ((x14.1).1 - 1)),Zu (wrap .u64 (wrap .u64 (wrap .u64 (dU1 x y z*4294967296)+dU0 x y z / 4294967296) - wrap .u64 (wrap .u64 ((x14.1).1 - 1)*dY z))),Zu (wrap .u64 (Int.tdiv (wrap .u64 (wrap .u64 (wrap .u64 (dU1 x y z*4294967296)+dU0 x y z / 4294967296) - wrap .u64 (wrap .u64 ((x14.1).1 - 1)*dY z))) (dY z / 4294967296))),Zu (wrap .u64 (wrap .u64 (wrap .u64 (wrap .u64 (dU1 x y z*4294967296)+dU0 x y z / 4294967296) - wrap .u64 (wrap .u64 ((x14.1).1 - 1)*dY z)) - wrap .u64 (wrap .u64 (Int.tdiv (wrap .u64 (wrap .u64 (wrap .u64 (dU1 x y z*4294967296)+dU0 x y z / 4294967296) - wrap .u64 (wrap .u64 ((x14.1).1 - 1)*dY z))) (dY z / 4294967296))*(dY z / 4294967296))))] [] (⟨.refl _,.refl _,.refl _,.refl _,.refl _,Ent.of_eq (congrArg _ ((x14.2.1.brkW d1 x14.2.2 g15 g16).trans (Sp.Div.dQ_eq z))),Ent.of_eq (congrArg _ (hv.rem1 ((x14.2.1.brkW d1 x14.2.2 g15 g16).trans (Sp.Div.dQ_eq z)))),Ent.of_eq (congrArg _ (by rw [hv.rem1 ((x14.2.1.brkW d1 x14.2.2 g15 g16).trans (Sp.Div.dQ_eq z))];exact d2.q_w)),Ent.of_eq (congrArg _ (by rw [hv.rem1 ((x14.2.1.brkW d1 x14.2.2 g15 g16).trans (Sp.Div.dQ_eq z))];exact d2.r_w)),trivial⟩) (trivial)
       intro x18
       try (have q18:=x18.2;dsimp only at q18)
       apply n_br (decide ((x18.1).1≥4294967296)||decide (wrap .u64 ((x18.1).1*(dY z%4294967296))>wrap .u64 (wrap .u64 ((4294967296:Int)*(x18.1).2)+dU0 x y z%4294967296)))
       ·intro g19
        apply n_bd (wrap .u64 ((x18.1).2+dY z / 4294967296)≥4294967296)
        ·intro g20
         apply n_req (0≤(↑(shI z):Int))
         exact n_outx (.tup [Zu (wrap .u64 (wrap .u64 (dQ x y z*4294967296)+wrap .u64 ((x18.1).1 - 1))),Zu (Int.fdiv (wrap .u64 (wrap .u64 (wrap .u64 (dR x y z*4294967296)+dU0 x y z%4294967296) - wrap .u64 (wrap .u64 ((x18.1).1 - 1)*dY z))) ((2:Int)^min (toNat (↑(shI z):Int)) 64))]) (Ent.tup ⟨Ent.of_eq (congrArg _ (hv.out (x18.2.1.brkW d2 x18.2.2 g19 g20)).1),Ent.of_eq (congrArg _ (hv.out (x18.2.1.brkW d2 x18.2.2 g19 g20)).2),trivial⟩)
        ·intro g20
         exact n_again [] (⟨(x18.1.1 - 1,x18.1.2+dY z / 4294967296),x18.2.1.nextW d2 x18.2.2 g19 g20⟩) (ek2 (ek5 (ec (Ent.of_eq (congrArg _ (x18.2.1.stepW d2 x18.2.2 g19).1)) (en (Ent.of_eq (congrArg _ (x18.2.1.stepW d2 x18.2.2 g19).2)))))) (by have:=x18.2.1.more d2 (x18.2.1.cond_t d2 x18.2.2 g19);grind)
       ·intro g19
        apply n_req (0≤(↑(shI z):Int))
        exact n_outx (.tup [Zu (wrap .u64 (wrap .u64 (dQ x y z*4294967296)+(x18.1).1)),Zu (Int.fdiv (wrap .u64 (wrap .u64 (wrap .u64 (dR x y z*4294967296)+dU0 x y z%4294967296) - wrap .u64 ((x18.1).1*dY z))) ((2:Int)^min (toNat (↑(shI z):Int)) 64))]) (Ent.tup ⟨Ent.of_eq (congrArg _ (hv.out (x18.2.1.stop d2 (x18.2.1.cond_f d2 x18.2.2 g19))).1),Ent.of_eq (congrArg _ (hv.out (x18.2.1.stop d2 (x18.2.1.cond_f d2 x18.2.2 g19))).2),trivial⟩)
      ·intro g16
       exact n_again [] (⟨(x14.1.1 - 1,x14.1.2+dY z / 4294967296),x14.2.1.nextW d1 x14.2.2 g15 g16⟩) (ek2 (ek5 (ec (Ent.of_eq (congrArg _ (x14.2.1.stepW d1 x14.2.2 g15).1)) (en (Ent.of_eq (congrArg _ (x14.2.1.stepW d1 x14.2.2 g15).2)))))) (by have:=x14.2.1.more d1 (x14.2.1.cond_t d1 x14.2.2 g15);grind)
     ·intro g15
      apply n_req (dY z / 4294967296≠(0:Int))
      apply n_loopx ({ x_1:Int×Int // (fun (s:Int×Int)=>Est (dY z / 4294967296) (dY z%4294967296) (dR x y z) (dU0 x y z%4294967296) (Prod.fst s) (Prod.snd s)∧Prod.snd s<4294967296) x_1 }) [2,8,9,10,14,15,17,18,16] [] (fun x_1=>[Zu (dY z),Zu (↑(shI z):Int),Zu (dY z / 4294967296),Zu (dY z%4294967296),Zu (dU0 x y z%4294967296),Zu (dQ x y z),Zu (dR x y z),Zu (Prod.fst (Subtype.val x_1)),Zu (Prod.snd (Subtype.val x_1))]) (fun _=>[]) (fun x_1=>(fun (s:Int×Int)=>toNat (Prod.fst s)) (Subtype.val x_1)) (⟨(dR x y z / (dY z / 4294967296),dR x y z - dR x y z / (dY z / 4294967296)*(dY z / 4294967296)),Dig.init (Div.dig2 hv)⟩) [Zu (dY z),Zu (↑(shI z):Int),Zu (dY z / 4294967296),Zu (dY z%4294967296),Zu (dU0 x y z%4294967296),Zu (x14.1).1,Zu (wrap .u64 (wrap .u64 (wrap .u64 (dU1 x y z*4294967296)+dU0 x y z / 4294967296) - wrap .u64 ((x14.1).1*dY z))),Zu (wrap .u64 (Int.tdiv (wrap .u64 (wrap .u64 (wrap .u64 (dU1 x y z*4294967296)+dU0 x y z / 4294967296) - wrap .u64 ((x14.1).1*dY z))) (dY z / 4294967296))),Zu (wrap .u64 (wrap .u64 (wrap .u64 (wrap .u64 (dU1 x y z*4294967296)+dU0 x y z / 4294967296) - wrap .u64 ((x14.1).1*dY z)) - wrap .u64 (wrap .u64 (Int.tdiv (wrap .u64 (wrap .u64 (wrap .u64 (dU1 x y z*4294967296)+dU0 x y z / 4294967296) - wrap .u64 ((x14.1).1*dY z))) (dY z / 4294967296))*(dY z / 4294967296))))] [] (⟨.refl _,.refl _,.refl _,.refl _,.refl _,Ent.of_eq (congrArg _ ((x14.2.1.stop d1 (x14.2.1.cond_f d1 x14.2.2 g15)).trans (Sp.Div.dQ_eq z))),Ent.of_eq (congrArg _ (hv.rem1 ((x14.2.1.stop d1 (x14.2.1.cond_f d1 x14.2.2 g15)).trans (Sp.Div.dQ_eq z)))),Ent.of_eq (congrArg _ (by rw [hv.rem1 ((x14.2.1.stop d1 (x14.2.1.cond_f d1 x14.2.2 g15)).trans (Sp.Div.dQ_eq z))];exact d2.q_w)),Ent.of_eq (congrArg _ (by rw [hv.rem1 ((x14.2.1.stop d1 (x14.2.1.cond_f d1 x14.2.2 g15)).trans (Sp.Div.dQ_eq z))];exact d2.r_w)),trivial⟩) (trivial)
      intro x28
      try (have q28:=x28.2;dsimp only at q28)
      apply n_br (decide ((x28.1).1≥4294967296)||decide (wrap .u64 ((x28.1).1*(dY z%4294967296))>wrap .u64 (wrap .u64 ((4294967296:Int)*(x28.1).2)+dU0 x y z%4294967296)))
      ·intro g29
       apply n_bd (wrap .u64 ((x28.1).2+dY z / 4294967296)≥4294967296)
       ·intro g30
        apply n_req (0≤(↑(shI z):Int))
        exact n_outx (.tup [Zu (wrap .u64 (wrap .u64 (dQ x y z*4294967296)+wrap .u64 ((x28.1).1 - 1))),Zu (Int.fdiv (wrap .u64 (wrap .u64 (wrap .u64 (dR x y z*4294967296)+dU0 x y z%4294967296) - wrap .u64 (wrap .u64 ((x28.1).1 - 1)*dY z))) ((2:Int)^min (toNat (↑(shI z):Int)) 64))]) (Ent.tup ⟨Ent.of_eq (congrArg _ (hv.out (x28.2.1.brkW d2 x28.2.2 g29 g30)).1),Ent.of_eq (congrArg _ (hv.out (x28.2.1.brkW d2 x28.2.2 g29 g30)).2),trivial⟩)
       ·intro g30
        exact n_again [] (⟨(x28.1.1 - 1,x28.1.2+dY z / 4294967296),x28.2.1.nextW d2 x28.2.2 g29 g30⟩) (ek2 (ek5 (ec (Ent.of_eq (congrArg _ (x28.2.1.stepW d2 x28.2.2 g29).1)) (en (Ent.of_eq (congrArg _ (x28.2.1.stepW d2 x28.2.2 g29).2)))))) (by have:=x28.2.1.more d2 (x28.2.1.cond_t d2 x28.2.2 g29);grind)
      ·intro g29
       apply n_req (0≤(↑(shI z):Int))
       exact n_outx (.tup [Zu (wrap .u64 (wrap .u64 (dQ x y z*4294967296)+(x28.1).1)),Zu (Int.fdiv (wrap .u64 (wrap .u64 (wrap .u64 (dR x y z*4294967296)+dU0 x y z%4294967296) - wrap .u64 ((x28.1).1*dY z))) ((2:Int)^min (toNat (↑(shI z):Int)) 64))]) (Ent.tup ⟨Ent.of_eq (congrArg _ (hv.out (x28.2.1.stop d2 (x28.2.1.cond_f d2 x28.2.2 g29))).1),Ent.of_eq (congrArg _ (hv.out (x28.2.1.stop d2 (x28.2.1.cond_f d2 x28.2.2 g29))).2),trivial⟩))
theorem pmul_c (a b n:Int) (ha:0≤a) (ha':a<18446744073709551616) (hb:0≤b) (hb':b<18446744073709551616) (hn:n<18446744073709551616) (hab:a*b<n*18446744073709551616):Pure Tryz.prog gl0 290 [.int .u64 a,.int .u64 b,.int .u64 n] (.int .u64 (a*b%n)):=by
 have h0:=Int.mul_nonneg ha hb
 exact pz Tryz.func290 (by
  apply n_sc (mul64_c (a) (b) (by omega) (by omega) (by omega) (by omega))
  apply n_sc (div64_c (a*b / (18446744073709551616:Int)) (a*b%(18446744073709551616:Int)) (n) (⟨by omega,by omega,by omega,by omega,by omega⟩))
  exact n_outx (Zu ((a*b / 18446744073709551616*18446744073709551616+a*b%18446744073709551616)%n)) (Ent.of_eq (congrArg _ (by grind))))
theorem ppow_c (a e n:Int) (ha:0≤a) (ha':a<n) (he:0≤e) (he':e<18446744073709551616) (hn:2≤n) (hn':n<18446744073709551616):Pure Tryz.prog gl0 289 [.int .u64 a,.int .u64 e,.int .u64 n] (.int .u64 (a^e.toNat%n)):=by
 exact pz Tryz.func289 (by
  apply n_loopx ({ x:Int×Int×Int // (fun (s:Int×Int×Int)=>PwI a (toNat e) n s∧Prod.snd (Prod.snd s)<18446744073709551616) x }) [2,7,0,1] [] (fun x=>[Zu n,Zu (Prod.fst (x.1)),Zu (Prod.fst (Prod.snd (x.1))),Zu (Prod.snd (Prod.snd (x.1)))]) (fun _=>[]) (fun x=>(fun (s:Int×Int×Int)=>toNat (Prod.snd (Prod.snd s))) (x.1)) (⟨((1:Int)%n,a,e),⟨PwI.start ha ha' he,he'⟩⟩) [Zu n,Zu 1,Zu a,Zu e] [] (⟨.refl _,Ent.of_eq (congrArg _ (Int.emod_eq_of_lt (by omega) (by omega)).symm),.refl _,.refl _,trivial⟩) (trivial)
  intro x0
  try (have q0:=x0.2;dsimp only at q0)
  have i0:=x0.2.1.x0;have i1:=x0.2.1.x1;have i2:=x0.2.1.a0;have i3:=x0.2.1.a1;have i4:=x0.2.1.e0;have i5:=x0.2.2;dsimp only at i0 i1 i2 i3 i4 i5;have b0:=bit0 i4 i5
  apply n_bd ((Prod.snd (x0.1)).2>0)
  ·intro g1
   apply n_br (wrap .u64 (↑(BitVec.toNat (BitVec.ofInt 64 (Prod.snd (x0.1)).2 &&& BitVec.ofInt 64 (1:Int))):Int)==1)
   ·intro g2
    apply n_sc (pmul_c ((x0.1).1) ((Prod.snd (x0.1)).1) (n) (by omega) (by omega) (by omega) (by omega) (by omega) (by exact pmul_bnd (by omega) (by omega) (by omega) (by omega)))
    apply n_sc (pmul_c ((Prod.snd (x0.1)).1) ((Prod.snd (x0.1)).1) (n) (by omega) (by omega) (by omega) (by omega) (by omega) (by exact pmul_bnd (by omega) (by omega) (by omega) (by omega)))
    exact n_againx [] (⟨(x0.1.1*x0.1.2.1%n,x0.1.2.1*x0.1.2.1%n,x0.1.2.2 / 2),x0.2.1.odd' (by omega) (b0.symm.trans g2),by grind⟩) [Zu n,Zu ((x0.1).1*(Prod.snd (x0.1)).1%n),Zu ((Prod.snd (x0.1)).1*(Prod.snd (x0.1)).1%n),Zu (Int.fdiv (Prod.snd (x0.1)).2 ((2:Int)^1))] [] (⟨.refl _,.refl _,.refl _,Ent.of_eq (congrArg _ (fdiv2 _)),trivial⟩) (trivial) (by grind)
   ·intro g2
    apply n_sc (pmul_c ((Prod.snd (x0.1)).1) ((Prod.snd (x0.1)).1) (n) (by omega) (by omega) (by omega) (by omega) (by omega) (by exact pmul_bnd (by omega) (by omega) (by omega) (by omega)))
    exact n_againx [] (⟨(x0.1.1,x0.1.2.1*x0.1.2.1%n,x0.1.2.2 / 2),x0.2.1.even' (by omega) (by omega),by grind⟩) [Zu n,Zu (x0.1).1,Zu ((Prod.snd (x0.1)).1*(Prod.snd (x0.1)).1%n),Zu (Int.fdiv (Prod.snd (x0.1)).2 ((2:Int)^1))] [] (⟨.refl _,.refl _,.refl _,Ent.of_eq (congrArg _ (fdiv2 _)),trivial⟩) (trivial) (by grind)
  ·intro g1
   exact n_out (Ent.of_eq (congrArg _ (x0.2.1.stop' g1))))
theorem residue_c (a m:Int):Pure Tryz.prog gl0 291 [.int .i64 a,.int .i64 m] (.bool (decide (a≥0)&&decide (a<m))):=by
 exact pz Tryz.func291 (by
  exact n_or)
theorem check_c (a b m:Int):Pure Tryz.prog gl0 235 [.int .i64 a,.int .i64 b,.int .i64 m] (.int .i64 (chkI a b m)):=by
 exact pz Tryz.func235 (by
  apply n_br (decide (m<1)||decide (m≥2305843009213693952))
  ·intro _
   refine n_old (.out (Zi 1) [] (Zi (chkI a b m)) []) ?_
   simp_all [cnd_dec_t,k_out,Ent.of_eq,chk_1]
  ·intro g0
   apply n_sc (residue_c (a) (m))
   apply n_scg ((!(decide (a≥0)&&decide (a<m)))==false) (fun h3=>residue_c (b) (m))
   apply n_br (!(decide (a≥0)&&decide (a<m)) || !(decide (b≥0)&&decide (b<m)))
   ·intro g4
    refine n_old (.out (Zi 2) [] (Zi (chkI a b m)) []) ?_
    simp_all [k_out,Ent.of_eq,chk_2]
   ·intro g4
    refine n_old (.out (Zi 0) [] (Zi (chkI a b m)) []) ?_
    simp_all [k_out,Ent.of_eq,chk_3])
theorem wmul0_c (a b m:Int) (ha:0≤a) (ha':a<m) (hb:0≤b) (hb':b<m) (hm:m<2305843009213693952):Pure Tryz.prog gl0 236 [.int .i64 a,.int .i64 b,.int .i64 m] (.int .i64 (a*b%m)):=by
 have e1:=wu64 (n:=a) (by omega) (by omega)
 have e2:=wu64 (n:=b) (by omega) (by omega)
 have e3:=wu64 (n:=m) (by omega) (by omega)
 have k:=mul61 ha ha' hb hb' hm
 exact pz Tryz.func236 (by
  apply n_sc (mul64_c (wrap .u64 a) (wrap .u64 b) (by omega) (by omega) (by omega) (by omega))
  apply n_sc (div64_c (wrap .u64 a*wrap .u64 b / (18446744073709551616:Int)) (wrap .u64 a*wrap .u64 b%(18446744073709551616:Int)) (wrap .u64 m) (⟨by grind,by grind,by omega,by omega,by omega⟩))
  exact n_outx (Zi (wrap .i64 ((wrap .u64 a*wrap .u64 b / 18446744073709551616*18446744073709551616+wrap .u64 a*wrap .u64 b%18446744073709551616)%wrap .u64 m))) (Ent.of_eq (congrArg _ (by rw [e1,e2,e3,show a*b / 18446744073709551616*18446744073709551616+a*b%18446744073709551616=a*b by omega];have:=Int.emod_nonneg (a*b) (show m≠0 by omega);have:=Int.emod_lt_of_pos (a*b) (show 0<m by omega);grind [wI]))))
theorem wadd_c (a b m:Int):Pure Tryz.prog gl0 353 [.int .i64 a,.int .i64 b,.int .i64 m] (.tup [.int .i64 (okv (chkI a b m) ((a+b)%m)),.int .i64 (chkI a b m)]):=by
 exact pz Tryz.func353 (by
  apply n_sc (check_c (a) (b) (m))
  apply n_br (chkI a b m != 0)
  ·intro _
   refine n_old (.out (.tup [Zi 0,Zi (chkI a b m)]) [] (.tup [Zi (okv (chkI a b m) ((a+b)%m)),Zi (chkI a b m)]) []) ?_
   simp_all [k_out,Ent.of_eq,okvn]
  ·intro g1
   apply n_req (m≠(0:Int)) (by have:=chk_inv g1;omega)
   exact n_outx (.tup [Zi (Int.tmod (wrap .i64 (a+b)) m),Zi 0]) (Ent.tup ⟨Ent.of_eq (congrArg _ (by have c:=chk_inv g1;rw [g1,addW (by omega) (by omega) (by omega) (by omega) (by omega)];rfl)),Ent.of_eq (congrArg _ g1.symm),trivial⟩))
theorem wmul_c (a b m:Int):Pure Tryz.prog gl0 262 [.int .i64 a,.int .i64 b,.int .i64 m] (.tup [.int .i64 (okv (chkI a b m) (a*b%m)),.int .i64 (chkI a b m)]):=by
 exact pz Tryz.func262 (by
  apply n_sc (check_c (a) (b) (m))
  apply n_br (chkI a b m != 0)
  ·intro _
   refine n_old (.out (.tup [Zi 0,Zi (chkI a b m)]) [] (.tup [Zi (okv (chkI a b m) (a*b%m)),Zi (chkI a b m)]) []) ?_
   simp_all [k_out,Ent.of_eq,okvn]
  ·intro g1
   apply n_sc (wmul0_c (a) (b) (m) (by have:=chk_inv g1;omega) (by have:=chk_inv g1;omega) (by have:=chk_inv g1;omega) (by have:=chk_inv g1;omega) (by have:=chk_inv g1;omega))
   exact n_outx (.tup [Zi (a*b%m),Zi 0]) (Ent.of_eq (by rw [g1];rfl)))
theorem wpow_c (a e m:Int) (he:e≤9223372036854775807):Pure Tryz.prog gl0 174 [.int .i64 a,.int .i64 e,.int .i64 m] (.tup [.int .i64 (okv (powE a e m) (a^e.toNat%m)),.int .i64 (powE a e m)]):=by
 exact pz Tryz.func174 (by
  apply n_sc (check_c (a) (a) (m))
  apply n_br (chkI a a m != 0)
  ·intro _
   refine n_old (.out (.tup [Zi 0,Zi (chkI a a m)]) [] (.tup [Zi (okv (powE a e m) (a^toNat e%m)),Zi (powE a e m)]) []) ?_
   simp_all [k_out,Ent.of_eq,powE_1,okvn]
  ·intro g1
   apply n_bd (e<0)
   ·intro g3
    exact n_outx (.tup [Zi 0,Zi 2]) (Ent.of_eq (by rw [powE_2 g1 g3];rfl))
   ·intro g3
    apply n_req (m≠(0:Int)) (by have:=chk_inv g1;omega)
    apply n_loopx ({ x:Int×Int×Int // (fun (s:Int×Int×Int)=>(chkI a a m=(0:Int)→(0:Int)≤e→PwI a (toNat e) m s)∧Prod.snd (Prod.snd s)≤9223372036854775807) x }) [2,9,0,1] [] (fun x=>[Zi m,Zi (Prod.fst (x.1)),Zi (Prod.fst (Prod.snd (x.1))),Zi (Prod.snd (Prod.snd (x.1)))]) (fun _=>[]) (fun x=>(fun (s:Int×Int×Int)=>toNat (Prod.snd (Prod.snd s))) (x.1)) (⟨((1:Int)%m,a,e),PwI.start' he⟩) [Zi m,Zi (Int.tmod (1:Int) m),Zi a,Zi e] [] (⟨.refl _,Ent.of_eq (congrArg _ (tmod_nn (by decide))),.refl _,.refl _,trivial⟩) (trivial)
    intro x6
    try (have q6:=x6.2;dsimp only at q6)
    have pw:=x6.2.1 g1 (by omega);have i0:=pw.x0;have i1:=pw.x1;have i2:=pw.a0;have i3:=pw.a1;have i4:=pw.e0;have i5:=x6.2.2;have c:=chk_inv g1;have b0:=bit0i i4 (by omega)
    apply n_bd ((Prod.snd (x6.1)).2>0)
    ·intro g7
     apply n_br (wrap .i64 (↑(BitVec.toNat (BitVec.ofInt 64 (Prod.snd (x6.1)).2 &&& BitVec.ofInt 64 (1:Int))):Int)==1)
     ·intro g8
      apply n_sc (wmul0_c ((x6.1).1) ((Prod.snd (x6.1)).1) (m) (by omega) (by omega) (by omega) (by omega) (by omega))
      apply n_sc (wmul0_c ((Prod.snd (x6.1)).1) ((Prod.snd (x6.1)).1) (m) (by omega) (by omega) (by omega) (by omega) (by omega))
      exact n_againx [] (⟨(x6.1.1*x6.1.2.1%m,x6.1.2.1*x6.1.2.1%m,x6.1.2.2 / 2),fun _ _=>pw.odd' (by omega) (b0.symm.trans g8),by grind⟩) [Zi m,Zi ((x6.1).1*(Prod.snd (x6.1)).1%m),Zi ((Prod.snd (x6.1)).1*(Prod.snd (x6.1)).1%m),Zi (Int.fdiv (Prod.snd (x6.1)).2 ((2:Int)^1))] [] (⟨.refl _,.refl _,.refl _,Ent.of_eq (congrArg _ (fdiv2 _)),trivial⟩) (trivial) (by grind)
     ·intro g8
      apply n_sc (wmul0_c ((Prod.snd (x6.1)).1) ((Prod.snd (x6.1)).1) (m) (by omega) (by omega) (by omega) (by omega) (by omega))
      exact n_againx [] (⟨(x6.1.1,x6.1.2.1*x6.1.2.1%m,x6.1.2.2 / 2),fun _ _=>pw.even' (by omega) (by omega),by grind⟩) [Zi m,Zi (x6.1).1,Zi ((Prod.snd (x6.1)).1*(Prod.snd (x6.1)).1%m),Zi (Int.fdiv (Prod.snd (x6.1)).2 ((2:Int)^1))] [] (⟨.refl _,.refl _,.refl _,Ent.of_eq (congrArg _ (fdiv2 _)),trivial⟩) (trivial) (by grind)
    ·intro g7
     exact n_outx (.tup [Zi (x6.1).1,Zi 0]) (Ent.of_eq (by rw [powE_0 g1 g3,← pw.stop' g7];rfl)))
theorem wreduce_c (a m:Int):Pure Tryz.prog gl0 196 [.int .i64 a,.int .i64 m] (.tup [.int .i64 (okv (chkI 0 0 m) (a%m)),.int .i64 (chkI 0 0 m)]):=by
 exact pz Tryz.func196 (by
  apply n_sc (check_c ((0:Int)) ((0:Int)) (m))
  apply n_br (chkI (0:Int) (0:Int) m != 0)
  ·intro _
   refine n_old (.out (.tup [Zi 0,Zi (chkI (0:Int) (0:Int) m)]) [] (.tup [Zi (okv (chkI (0:Int) (0:Int) m) (a%m)),Zi (chkI (0:Int) (0:Int) m)]) []) ?_
   simp_all [k_out,Ent.of_eq,okvn]
  ·intro g1
   apply n_req (m≠(0:Int)) (by have:=chk_inv g1;omega)
   apply n_bd (Int.tmod a m<0)
   ·intro g4
    exact n_outx (.tup [Zi (wrap .i64 (Int.tmod a m+m)),Zi 0]) (Ent.of_eq (by have:=chk_inv g1;rw [reduce_n (by omega) (by omega) g4,g1];rfl))
   ·intro g4
    exact n_outx (.tup [Zi (Int.tmod a m),Zi 0]) (Ent.of_eq (by have:=chk_inv g1;rw [reduce_p (by omega) g4,g1];rfl)))
theorem rreduce_c (a m:Int) (hm:0<m) (hm':m≤9223372036854775807):Pure Tryz.prog gl0 228 [.int .i64 a,.int .i64 m] (.int .i64 (a%m)):=by
 exact pz Tryz.func228 (by
  apply n_req (m≠(0:Int))
  apply n_bd (Int.tmod a m<0)
  ·intro _
   refine n_old (.out (Zi (wrap .i64 (Int.tmod a m+m))) [] (Zi (a%m)) []) ?_
   simp_all [cnd_dec_t,k_out,Ent.of_eq,reduce_n]
  ·intro g1
   exact n_out (Ent.of_eq (congrArg _ (reduce_p hm g1))))
theorem rmul_c (a b m:Int) (ha:0≤a) (ha':a<m) (hb:0≤b) (hb':b<m) (hm:m<2305843009213693952):Pure Tryz.prog gl0 145 [.int .i64 a,.int .i64 b,.int .i64 m] (.int .i64 (a*b%m)):=by
 exact pz Tryz.func145 (by
  apply n_br (decide (a<2147483648)&&decide (b<2147483648))
  ·intro g0
   apply n_req (m≠(0:Int))
   refine n_old (.out (Zi (Int.tmod (wrap .i64 (a*b)) m)) [] (Zi (a*b%m)) []) ?_
   simp_all [k_out,Ent.of_eq,small_mul,tmod_nn,Int.mul_nonneg]
  ·intro g0
   apply n_loop ({ x:Int×Int×Int // (fun (s:Int×Int×Int)=>MlI (a*b) m s∧Prod.snd (Prod.snd s)<m) x }) [2,7,0,1] [] (fun x=>[Zi m,Zi (Prod.fst (x.1)),Zi (Prod.fst (Prod.snd (x.1))),Zi (Prod.snd (Prod.snd (x.1)))]) (fun _=>[]) (fun x=>(fun (s:Int×Int×Int)=>toNat (Prod.snd (Prod.snd s))) (x.1)) (⟨((0:Int),a,b),⟨MlI.start ha ha' hb,hb'⟩⟩)
   intro x3
   try (have q3:=x3.2;dsimp only at q3)
   have i0:=x3.2.1.x0;have i1:=x3.2.1.x1;have i2:=x3.2.1.a0;have i3:=x3.2.1.a1;have i4:=x3.2.1.e0;have i5:=x3.2.2;dsimp only at i0 i1 i2 i3 i4 i5
   apply n_bd ((Prod.snd (x3.1)).2>0)
   ·intro g4
    apply n_br (Int.tmod (Prod.snd (x3.1)).2 (2:Int)==1)
    ·intro g5
     apply n_req (m≠(0:Int))
     apply n_req (m≠(0:Int))
     exact n_again [] (⟨((x3.1.1+x3.1.2.1)%m,(x3.1.2.1+x3.1.2.1)%m,x3.1.2.2 / 2),x3.2.1.odd' (by omega) (by grind),by grind⟩) (ek (ec (Ent.of_eq (congrArg _ (addW i0 i1 i2 i3 hm))) (ec (Ent.of_eq (congrArg _ (addW i2 i3 i2 i3 hm))) (en (Ent.of_eq (congrArg _ (halfW i4 (by omega))))))))
    ·intro g5
     apply n_req (m≠(0:Int))
     exact n_againx [] (⟨(x3.1.1,(x3.1.2.1+x3.1.2.1)%m,x3.1.2.2 / 2),x3.2.1.even' (by omega) (by grind),by grind⟩) [Zi m,Zi (x3.1).1,Zi (Int.tmod (wrap .i64 ((Prod.snd (x3.1)).1+(Prod.snd (x3.1)).1)) m),Zi (wrap .i64 (Int.tdiv (Prod.snd (x3.1)).2 (2:Int)))] [] (⟨.refl _,.refl _,Ent.of_eq (congrArg _ (addW i2 i3 i2 i3 hm)),Ent.of_eq (congrArg _ (halfW i4 (by omega))),trivial⟩) (trivial) (by grind)
   ·intro g4
    exact n_out (Ent.of_eq (congrArg _ (x3.2.1.stop' g4))))
theorem rpow_c (a e m:Int) (ha:0≤a) (ha':a<m) (he:0≤e) (he':e≤9223372036854775807) (hm:m<2305843009213693952):Pure Tryz.prog gl0 80 [.int .i64 a,.int .i64 e,.int .i64 m] (.int .i64 (a^e.toNat%m)):=by
 exact pz Tryz.func80 (by
  apply n_req (m≠(0:Int))
  apply n_loopx ({ x:Int×Int×Int // (fun (s:Int×Int×Int)=>PwI a (toNat e) m s∧Prod.snd (Prod.snd s)≤9223372036854775807) x }) [2,7,0,1] [] (fun x=>[Zi m,Zi (Prod.fst (x.1)),Zi (Prod.fst (Prod.snd (x.1))),Zi (Prod.snd (Prod.snd (x.1)))]) (fun _=>[]) (fun x=>(fun (s:Int×Int×Int)=>toNat (Prod.snd (Prod.snd s))) (x.1)) (⟨((1:Int)%m,a,e),⟨PwI.start ha ha' he,he'⟩⟩) [Zi m,Zi (Int.tmod (1:Int) m),Zi a,Zi e] [] (⟨.refl _,Ent.of_eq (congrArg _ (tmod_nn (by decide))),.refl _,.refl _,trivial⟩) (trivial)
  intro x1
  try (have q1:=x1.2;dsimp only at q1)
  have i0:=x1.2.1.x0;have i1:=x1.2.1.x1;have i2:=x1.2.1.a0;have i3:=x1.2.1.a1;have i4:=x1.2.1.e0;have i5:=x1.2.2;dsimp only at i0 i1 i2 i3 i4 i5
  apply n_bd ((Prod.snd (x1.1)).2>0)
  ·intro g2
   apply n_br (Int.tmod (Prod.snd (x1.1)).2 (2:Int)==1)
   ·intro g3
    apply n_sc (rmul_c ((x1.1).1) ((Prod.snd (x1.1)).1) (m) (by omega) (by omega) (by omega) (by omega) (by omega))
    apply n_sc (rmul_c ((Prod.snd (x1.1)).1) ((Prod.snd (x1.1)).1) (m) (by omega) (by omega) (by omega) (by omega) (by omega))
    exact n_againx [] (⟨(x1.1.1*x1.1.2.1%m,x1.1.2.1*x1.1.2.1%m,x1.1.2.2 / 2),x1.2.1.odd' (by omega) (by grind),by grind⟩) [Zi m,Zi ((x1.1).1*(Prod.snd (x1.1)).1%m),Zi ((Prod.snd (x1.1)).1*(Prod.snd (x1.1)).1%m),Zi (wrap .i64 (Int.tdiv (Prod.snd (x1.1)).2 (2:Int)))] [] (⟨.refl _,.refl _,.refl _,Ent.of_eq (congrArg _ (halfW i4 (by omega))),trivial⟩) (trivial) (by grind)
   ·intro g3
    apply n_sc (rmul_c ((Prod.snd (x1.1)).1) ((Prod.snd (x1.1)).1) (m) (by omega) (by omega) (by omega) (by omega) (by omega))
    exact n_againx [] (⟨(x1.1.1,x1.1.2.1*x1.1.2.1%m,x1.1.2.2 / 2),x1.2.1.even' (by omega) (by grind),by grind⟩) [Zi m,Zi (x1.1).1,Zi ((Prod.snd (x1.1)).1*(Prod.snd (x1.1)).1%m),Zi (wrap .i64 (Int.tdiv (Prod.snd (x1.1)).2 (2:Int)))] [] (⟨.refl _,.refl _,.refl _,Ent.of_eq (congrArg _ (halfW i4 (by omega))),trivial⟩) (trivial) (by grind)
  ·intro g2
   exact n_out (Ent.of_eq (congrArg _ (x1.2.1.stop' g2))))
theorem tz_c (x:Int) (h:0<x) (h':x<18446744073709551616):Pure Tryz.prog gl0 233 [.int .u64 x] (.int .i64 (tzI x)):=by
 have t:=(tzI_spec h h').1
 refine pure_sk (own:=ow0) Tryz.func233 (by rfl) mixed (by rfl)
  (let z0:Int:=(wrap .u64 (wrap .u64 (↑(BitVec.toNat (BitVec.ofInt 64 x &&& BitVec.ofInt 64 (wrap .u64 ((0:Int) - x)))):Int)*285870213051353865));(.br (x==0) (.out (Zi 64) [] (Zi (↑(tzI x):Int)) []) (.req ((0:Int)≤Int.fdiv z0 ((2:Int)^58)∧Int.fdiv z0 ((2:Int)^58)<64) (.out (Zi (wrap .i64 (dbF (toNat (Int.fdiv z0 ((2:Int)^58)))))) [] (Zi (↑(tzI x):Int)) []))))
  (by rfl) ?_
 refine k_br (fun h0=>?_) (fun h0=>?_)
 ·grind
 ·have g0:=cnd_beq_f h0
  refine k_req (by rw [low_bit h h'];exact tz_b) ?_
  exact k_out (Ent.of_eq (congrArg _ (by grind [low_bit,tz_w,wI])))
theorem composite_c (a n d:Int) (s:Nat) (ha:0≤a) (ha':a<n) (hn:2≤n) (hn':n<18446744073709551616) (hd:0≤d) (hd':d<18446744073709551616) (hs:s<64) (hs0:0<s):Pure Tryz.prog gl0 234 [.int .u64 a,.int .u64 n,.int .u64 d,.int .i64 s] (.bool (!(msq a d n 0==1||hasI (fun i=>msq a d n i==n - 1) s))):=by
 have w1:IntKind.wrap .i64 ((s:Int) - 1)=s - 1:=wI (by omega) (by omega)
 have m0:=msq_0 a d n
 have hb:∀ i,0≤msq a d n i∧msq a d n i<n:=fun i=>⟨Int.emod_nonneg _ (by omega),Int.emod_lt_of_pos _ (by omega)⟩
 have wn:IntKind.wrap .u64 (n - 1)=n - 1:=wu64 (by omega) (by omega)
 exact pz Tryz.func234 (by
  apply n_sc (ppow_c (a) (d) (n) (by omega) (by omega) (by omega) (by omega) (by omega) (by omega))
  apply n_br (a^toNat d%n==1||a^toNat d%n==wrap .u64 (n - 1))
  ·intro g1
   exact n_outx (.bool false) (Ent.of_eq (congrArg _ (by grind [comp_t1])))
  ·intro g1
   apply n_loopx ({ x:Nat // x≤s - 1∧noHit a d n x }) [1,23,9,24] [] (fun x=>[Zu n,Zi (wrap .i64 ((s:Int) - 1)),Zu (msq a d n (x.1)),Zi x.1]) (fun _=>[]) (fun x=>s - 1 - x.1) (⟨0,⟨Nat.zero_le (s - 1),noHit_0 a d n⟩⟩) [Zu n,Zi (wrap .i64 ((s:Int) - 1)),Zu (a^toNat d%n),Zi 0] [] (⟨by exact Ent.refl _,by exact Ent.refl _,Ent.of_eq (congrArg _ m0.symm),by exact Ent.refl _,trivial⟩) (trivial)
   intro x3
   try (have q3:=x3.2;dsimp only at q3)
   apply n_bd ((x3.1:Int)<wrap .i64 ((s:Int) - 1))
   ·intro g4
    apply n_sc (pmul_c (msq a d n x3.1) (msq a d n x3.1) (n) (by grind) (by grind) (by grind) (by grind) (by omega) (by (have:=hb x3.1;exact pmul_bnd (by omega) (by omega) (by omega) (by omega))))
    apply n_br (msq a d n x3.1*msq a d n x3.1%n==wrap .u64 (n - 1))
    ·intro g6
     exact n_outx (.bool false) (Ent.of_eq (congrArg _ (by rw [comp_t2 (i:=x3.1) (by omega) (by grind [msq_s])];rfl)))
    ·intro g6
     exact n_againx [] (⟨x3.1+1,by omega,noHit_s x3.2.2 (by grind [msq_s])⟩) [Zu n,Zi (wrap .i64 ((s:Int) - 1)),Zu (msq a d n x3.1*msq a d n x3.1%n),Zi (wrap .i64 ((x3.1:Int)+1))] [] (⟨by exact Ent.refl _,by exact Ent.refl _,Ent.of_eq (congrArg _ (msq_s ..).symm),by grind [inc_ent],trivial⟩) (trivial)
   ·intro g4
    exact n_outx (.bool true) (Ent.of_eq (congrArg _ (by grind [comp_f]))))
theorem is_c (n:Int) (hn:n≤9223372036854775807):Pure Tryz.prog gl0 173 [.int .i64 n] (.bool (isP n)):=by
 refine pure_sk (own:=ow0) Tryz.func173 (by rfl) mixed (by rfl)
  (let z6:AV:=(.bool (isP n));let z5:Int:=(wrap .u64 (wrap .u64 n - 1));let z4:Int:=(wrap .u64 (n - 1));let z2:Int:=(↑(tzI (n - 1)):Int);let z1:={ x:Nat // x≤12∧(fun i=>firstI (fun i=>n%bsF i==0) 12 0=firstI (fun i=>n%bsF i==0) (12 - i) i) x };let z0:={ x:Nat // x≤12∧(fun (i:Nat)=>∀ (j:Nat),j<i→strongB n (bsF j)=true) x };let y0:List AV:=[Zu (bsF 0),Zu (bsF 1),Zu (bsF 2),Zu (bsF 3),Zu (bsF 4),Zu (bsF 5),Zu (bsF 6),Zu (bsF 7),Zu (bsF 8),Zu (bsF 9),Zu (bsF 10),Zu (bsF 11)];let y1:=(fun (x:z1)=>mkSt [3,13,14] [Zu (wrap .u64 n),.agg y0,Zi x.1] []);let y2:=(fun (x:z1)=>12 - x.1);let y3:Nat:=(toNat z2);(.br (decide (n<2)) (.out (.bool false) [] z6 []) (.loop (z1) y1 y2 (⟨0,⟨Nat.zero_le 12,rfl⟩⟩) [3,13,14] [] [Zu (wrap .u64 n),.agg y0,Zi 0] [] (fun x2=>let z7:Nat:=(toNat (x2.1:Int));(.br (decide ((x2.1:Int)<12)) (.req (0≤(x2.1:Int)∧(x2.1:Int)<12) (.req (intOfAV (atL y0 z7)≠(0:Int)) (.br (Int.tmod (wrap .u64 n) (intOfAV (atL y0 z7))==0) (.out (.bool (wrap .u64 n==intOfAV (atL y0 z7))) [] z6 []) (.again (Again 0 y1 y2 x2) [3,13,14] [] [Zu (wrap .u64 n),.agg y0,Zi (wrap .i64 ((x2.1:Int)+1))] [])))) (.sc true 233 [Zu z5] (Zi (↑(tzI z5):Int)) (.loop (z0) (fun (x:z0)=>mkSt [28,3,6,29] [.agg y0,Zu n,Zi z2,Zi x.1] []) (fun (x:z0)=>12 - x.1) (⟨0,⟨Nat.zero_le 12,fun (j:Nat) (hj:j<0)=>absurd hj (Nat.not_lt_zero j)⟩⟩) [28,3,6,29] [] [.agg y0,Zu (wrap .u64 n),Zi (↑(tzI z5):Int),Zi 0] [] (fun x10=>let z3:Nat:=(toNat (x10.1:Int));(.br (decide ((x10.1:Int)<12)) (.req (0≤(x10.1:Int)∧(x10.1:Int)<12) (.req (0≤z2) (.sc true 234 [Zu (intOfAV (atL y0 z3)),Zu n,Zu (Int.fdiv z4 ((2:Int)^min y3 64)),Zi z2] (.bool !(msq (intOfAV (atL y0 z3)) (Int.fdiv z4 ((2:Int)^min y3 64)) n 0==1||hasI (fun i=>msq (intOfAV (atL y0 z3)) (Int.fdiv z4 ((2:Int)^min y3 64)) n i==n - 1) (tzI (n - 1)))) (.br (!(msq (intOfAV (atL y0 z3)) (Int.fdiv z4 ((2:Int)^min y3 64)) n 0==1||hasI (fun i=>msq (intOfAV (atL y0 z3)) (Int.fdiv z4 ((2:Int)^min y3 64)) n i==n - 1) (tzI (n - 1)))) (.out (.bool false) [] z6 []) (.again (Again 0 (fun (x:z0)=>mkSt [28,3,6,29] [.agg y0,Zu n,Zi z2,Zi x.1] []) (fun (x:z0)=>12 - x.1) x10) [28,3,6,29] [] [.agg y0,Zu n,Zi z2,Zi (wrap .i64 ((x10.1:Int)+1))] []))))) (.out (.bool true) [] z6 []))))))))))
  (by rfl) ?_
 refine k_br (fun h0=>?_) (fun h0=>?_)
 ·simp_all [cnd_dec_t,k_out,Ent.of_eq,isP_1]
 ·have g0:=cnd_dec_f h0
  refine k_loop (fun _ hs=>hs.le (by repeat' (first|exact trivial|(first|exact Ent.refl _|exact inc_ent (by omega)|exact Ent.nil rfl|exact Ent.of_eq (congrArg (AV.osl _ _ _) (by rfl))|exact Ent.of_eq (congrArg (AV.int _) (by rfl)))|refine And.intro ?_ ?_)) (trivial)) (fun x2=>?_)
  try (have q2:=x2.2;dsimp only at q2)
  refine k_br (fun h3=>?_) (fun h3=>?_)
  ·have g3:=cnd_dec_t h3
   refine k_req (by omega) ?_
   refine k_req (by rw [Int.toNat_natCast,bs_at (by omega)];have:=bsF_bnd (i:=x2.1) (by omega);omega) ?_
   refine k_br (fun h6=>?_) (fun h6=>?_)
   ·have g6:=cnd_beq_t h6
    try simp only [Int.toNat_natCast] at g6
    exact k_out (Ent.of_eq (congrArg _ (by grind [Int.toNat_natCast,bs_at,wu64,tmod_nn,isP_2])))
   ·have g6:=cnd_beq_f h6
    try simp only [Int.toNat_natCast] at g6
    exact k_again (⟨x2.1+1,by omega,first_next x2.2.2 (by omega) (by grind [Int.toNat_natCast,bs_at,wu64,tmod_nn])⟩) (fun _ hs=>hs.le (by repeat' (first|exact trivial|(first|exact Ent.refl _|exact inc_ent (by omega)|exact Ent.nil rfl|exact Ent.of_eq (congrArg (AV.osl _ _ _) (by rfl))|exact Ent.of_eq (congrArg (AV.int _) (by rfl)))|refine And.intro ?_ ?_)) (trivial)) (by grind)
  ·have g3:=cnd_dec_f h3
   refine k_sc (tz_c (wrap .u64 (wrap .u64 n - (1:Int))) (by grind [wu64]) (by grind [wu64])) ?_
   refine k_loop (fun _ hs=>hs.le (⟨by exact Ent.refl _,Ent.of_eq (congrArg _ (wu64 (by omega) (by omega))),Ent.of_eq (congrArg _ (by grind [wu64])),by exact Ent.refl _,trivial⟩) (trivial)) (fun x10=>?_)
   try (have q10:=x10.2;dsimp only at q10)
   have F:=isP_3 g0 x2.2.2 (by omega);have n37:=F.2.1;have CS:=comp_side (n:=n) (by omega) (by omega) (odd_of F.2.2);have s1:=CS.1;have s2:=CS.2.1;have s3:=CS.2.2.1;have s4:=CS.2.2.2
   refine k_br (fun h11=>?_) (fun h11=>?_)
   ·have g11:=cnd_dec_t h11
    refine k_req (by omega) ?_
    refine k_req (by omega) ?_
    refine k_sc (composite_c (intOfAV (atL [Zu (bsF (0)),Zu (bsF (1)),Zu (bsF (2)),Zu (bsF (3)),Zu (bsF (4)),Zu (bsF (5)),Zu (bsF (6)),Zu (bsF (7)),Zu (bsF (8)),Zu (bsF (9)),Zu (bsF (10)),Zu (bsF (11))] (toNat (↑x10.1:Int)))) (n) (Int.fdiv (wrap .u64 (n - (1:Int))) ((2:Int)^min (toNat (↑(tzI (n - (1:Int))):Int)) (64))) (tzI (n - (1:Int))) (by (rw [Int.toNat_natCast,bs_at (by omega)];have:=bsF_bnd (i:=x10.1) (by omega);omega)) (by (rw [Int.toNat_natCast,bs_at (by omega)];have:=bsF_bnd (i:=x10.1) (by omega);omega)) (by omega) (by omega) (by omega) (by omega) (by omega) (by omega)) ?_
    refine k_br (fun h15=>?_) (fun h15=>?_)
    ·have g15:=(cnd_not_t (cnd_or_f cnd_beq_f cnd_id_f)) h15
     try simp only [Int.toNat_natCast] at g15
     exact k_out (Ent.of_eq (congrArg _ (by have e:=comp_eq (n:=n) (i:=toNat ((x10.1:Nat):Int)) (by omega) (by omega) (by omega);rw [e] at h15;rw [F.1,allI_f (i:=x10.1) (by omega) (by simp_all)])))
    ·have g15:=(cnd_not_f (cnd_or_t cnd_beq_t cnd_id_t)) h15
     try simp only [Int.toNat_natCast] at g15
     exact k_again (⟨x10.1+1,by omega,fun j hj=>by grind [comp_eq,toNat,Nat,Int]⟩) (fun _ hs=>hs.le (by repeat' (first|exact trivial|(first|exact Ent.refl _|exact inc_ent (by omega)|exact Ent.nil rfl|exact Ent.of_eq (congrArg (AV.osl _ _ _) (by rfl))|exact Ent.of_eq (congrArg (AV.int _) (by rfl)))|refine And.intro ?_ ?_)) (trivial)) (by grind)
   ·have g11:=cnd_dec_f h11
    exact k_out (Ent.of_eq (congrArg _ (by grind [allI_t])))
theorem strong_c (n a:Int) (ha:0≤a) (ha':a<n) (hn:2≤n) (hn':n<2305843009213693952) (ho:n%2=1):Pure Tryz.prog gl0 206 [.int .i64 n,.int .i64 a] (.bool (strongB n a)):=by
 have hb:∀ i,0≤msq a ((n - 1) / 2^tzI (n - 1)) n i∧msq a ((n - 1) / 2^tzI (n - 1)) n i<n:=fun i=>⟨Int.emod_nonneg _ (by omega),Int.emod_lt_of_pos _ (by omega)⟩
 have wn:IntKind.wrap .i64 (n - 1)=n - 1:=wI (by omega) (by omega)
 have tz0:=(comp_side hn (by omega) ho).2.2.2
 have tz1:=(comp_side hn (by omega) ho).2.2.1
 exact pz Tryz.func206 (by
  apply n_loopx ({ x:Int×Nat // (fun (q:Int×Nat)=>(2:Int)≤n→n - 1=(2:Int)^Prod.snd q*Prod.fst q∧(0:Int)<Prod.fst q) x }) [0,1,5,6] [] (fun x=>[Zi n,Zi a,Zi (Prod.fst (x.1)),Zi (↑(Prod.snd (x.1)):Int)]) (fun _=>[]) (fun x=>(fun (q:Int×Nat)=>toNat (Prod.fst q)) (x.1)) (⟨(n - 1,0),odd_start n⟩) [Zi n,Zi a,Zi (wrap .i64 (n - 1)),Zi 0] [] (by repeat' (first|exact trivial|(first|exact Ent.refl _|exact inc_ent (by omega)|exact Ent.nil rfl|exact Ent.of_eq (congrArg (AV.osl _ _ _) (by rfl))|exact Ent.of_eq (congrArg (AV.int _) (by omega)))|refine And.intro ?_ ?_)) (trivial)
  intro x0
  try (have q0:=x0.2;dsimp only at q0)
  apply n_br (Int.tmod (x0.1).1 (2:Int)==0)
  ·intro g1
   exact n_again [] (⟨(x0.1.1 / 2,x0.1.2+1),fun _=>odd_step (q0 hn).1 (q0 hn).2 g1⟩) (ek2 (ec (Ent.of_eq (congrArg _ (halfW (by omega) (by have:=odd_le (q0 hn).1 (q0 hn).2;omega)))) (en (inc_ent (by have:=odd_part hn (by omega) (q0 hn).1 (q0 hn).2;omega)))))
  ·intro g1
   apply n_sc (rpow_c (a) ((x0.1).1) (n) (by omega) (by omega) (by omega) (by (have:=(q0 hn).2;have:=odd_le (q0 hn).1 (q0 hn).2;omega)) (by omega))
   apply n_br (a^toNat (x0.1).1%n==1||a^toNat (x0.1).1%n==wrap .i64 (n - 1))
   ·intro g4
    exact n_outx (.bool true) (Ent.of_eq (congrArg _ (by grind [odd_part2,strong_t1,msq_0])))
   ·intro g4
    apply n_loopx ({ x:Nat // x≤tzI (n - 1) - 1∧noHit a ((n - 1) / 2^tzI (n - 1)) n x }) [0,6,7,8] [] (fun x=>[Zi n,Zi (↑(tzI (n - 1)):Int),Zi (msq a ((n - 1) / 2^tzI (n - 1)) n (x.1)),Zi (↑(x.1+1):Int)]) (fun _=>[]) (fun x=>tzI (n - 1) - 1 - x.1) (⟨0,⟨Nat.zero_le (tzI (n - 1) - 1),noHit_0 a ((n - 1) / 2^tzI (n - 1)) n⟩⟩) [Zi n,Zi (↑(x0.1).2:Int),Zi (a^toNat (x0.1).1%n),Zi 1] [] (⟨by exact Ent.refl _,Ent.of_eq (congrArg _ (by grind [odd_part2])),Ent.of_eq (congrArg _ (by grind [odd_part2,msq_0])),by exact Ent.refl _,trivial⟩) (trivial)
    intro x6
    try (have q6:=x6.2;dsimp only at q6)
    apply n_bd ((↑(x6.1+1):Int)<(↑(tzI (n - 1)):Int))
    ·intro g7
     apply n_sc (rmul_c (msq a ((n - (1:Int)) / (2:Int)^tzI (n - (1:Int))) n x6.1) (msq a ((n - (1:Int)) / (2:Int)^tzI (n - (1:Int))) n x6.1) (n) (by grind) (by grind) (by grind) (by grind) (by omega))
     apply n_br (msq a ((n - 1) / 2^tzI (n - 1)) n x6.1*msq a ((n - 1) / 2^tzI (n - 1)) n x6.1%n==wrap .i64 (n - 1))
     ·intro g9
      exact n_outx (.bool true) (Ent.of_eq (congrArg _ (by rw [strong_t2 (a:=a) (i:=x6.1) (by omega) (by grind [msq_s])])))
     ·intro g9
      exact n_againx [] (⟨x6.1+1,by omega,noHit_s x6.2.2 (by grind [msq_s])⟩) [Zi n,Zi (↑(tzI (n - 1)):Int),Zi (msq a ((n - 1) / 2^tzI (n - 1)) n x6.1*msq a ((n - 1) / 2^tzI (n - 1)) n x6.1%n),Zi (wrap .i64 ((↑(x6.1+1):Int)+1))] [] (⟨by exact Ent.refl _,by exact Ent.refl _,Ent.of_eq (congrArg _ (msq_s ..).symm),inc_ent (by omega),trivial⟩) (trivial) (by grind)
    ·intro g7
     exact n_outx (.bool false) (Ent.of_eq (congrArg _ (by grind [odd_part2,strong_f,msq_0]))))
theorem ris_c (n:Int) (hn:n<2305843009213693952):Pure Tryz.prog gl0 131 [.int .i64 n] (.bool (isP n)):=by
 exact pz Tryz.func131 (by
  apply n_bd (n<2)
  ·intro _
   refine n_old (.out (.bool false) [] (.bool (isP n)) []) ?_
   simp_all [cnd_dec_t,k_out,Ent.of_eq,isP_1]
  ·intro g0
   apply n_loopx ({ x:Nat // x≤12∧(fun i=>firstI (fun i=>n%bsF i==0) 12 0=firstI (fun i=>n%bsF i==0) (12 - i) i) x }) [0,3,4] [24] (fun x=>[Zi n,.osl 0 1 0 12,Zi x.1]) (fun x=>[some ⟨1,12,true,.fn fun i x=>Zi (bsF i)⟩]) (fun x=>12 - x.1) (⟨0,⟨Nat.zero_le 12,rfl⟩⟩) [Zi n,.osl 0 1 0 12,Zi 0] [some ⟨1,12,true,.lst [[Zi 2],[Zi 3],[Zi 5],[Zi 7],[Zi 11],[Zi 13],[Zi 17],[Zi 19],[Zi 23],[Zi 29],[Zi 31],[Zi 37]]⟩] (by repeat' (first|exact trivial|(first|exact Ent.refl _|exact inc_ent (by omega)|exact Ent.nil rfl|exact Ent.of_eq (congrArg (AV.osl _ _ _) (by rfl))|exact Ent.of_eq (congrArg (AV.int _) (by rfl)))|refine And.intro ?_ ?_)) (⟨bs_ob,trivial⟩)
   intro x2
   try (have q2:=x2.2;dsimp only at q2)
   apply n_bd ((x2.1:Int)<12)
   ·intro g3
    apply n_req (0≤(x2.1:Int)∧(x2.1:Int)<12)
    apply n_req (bsF (toNat (x2.1:Int)+0)≠(0:Int)) (by simp only [Int.toNat_natCast,Nat.add_zero];have:=bsF_bnd (i:=x2.1) (by omega);omega)
    apply n_br (Int.tmod n (bsF (toNat (x2.1:Int)+0))==0)
    ·intro g6
     try simp only [Int.toNat_natCast] at g6
     apply n_req (0≤(x2.1:Int)∧(x2.1:Int)<12)
     exact n_outx (.bool (n==bsF (toNat (x2.1:Int)+0))) (Ent.of_eq (congrArg _ (by simp only [Int.toNat_natCast,Nat.add_zero,tmod_nn (a:=n) (by omega)] at g6 ⊢;grind [isP_2])))
    ·intro g6
     try simp only [Int.toNat_natCast] at g6
     exact n_againx [0] (⟨x2.1+1,by omega,first_next x2.2.2 (by omega) (by grind)⟩) [Zi n,.osl 0 1 0 12,Zi (wrap .i64 ((x2.1:Int)+1))] ([some ⟨1,12,true,.fn fun i j=>Zi (bsF i)⟩]) (by repeat' (first|exact trivial|(first|exact Ent.refl _|exact inc_ent (by omega)|exact Ent.nil rfl|exact Ent.of_eq (congrArg (AV.osl _ _ _) (by rfl))|exact Ent.of_eq (congrArg (AV.int _) (by rfl)))|refine And.intro ?_ ?_)) (by repeat' (first|exact trivial|(first|exact ObEnt.refl _|exact ObEnt.junk|exact ObEnt.zero|exact ObEnt.push rfl rfl|exact ObEnt.pushRow rfl|exact ObEnt.len (by omega)|exact ObEnt.row (by repeat' (first|exact trivial|(first|exact Ent.refl _|exact inc_ent (by omega)|exact Ent.nil rfl|exact Ent.of_eq (congrArg (AV.osl _ _ _) (by rfl))|exact Ent.of_eq (congrArg (AV.int _) (by rfl)))|refine And.intro ?_ ?_)))|refine And.intro ?_ ?_))
   ·intro g3
    apply n_bd (n≥2305843009213693952)
    ·intro _
     refine n_old (.sc true 205 [Zi n] (.bool true) (.out (.bool true) [] (.bool (isP n)) [])) ?_
     grind
    ·intro g10
     apply n_loopx ({ x:Nat // x≤12∧(fun (i:Nat)=>∀ (j:Nat),j<i→strongB n (bsF j)=true) x }) [0,3,5] [0] (fun x=>[Zi n,.osl 0 1 0 12,Zi x.1]) (fun _=>[some ⟨1,12,true,.fn fun i j=>Zi (bsF i)⟩]) (fun x=>12 - x.1) (⟨0,⟨Nat.zero_le 12,fun (j:Nat) (hj:j<0)=>absurd hj (Nat.not_lt_zero j)⟩⟩) [Zi n,.osl 0 1 0 12,Zi 0] ([some ⟨1,12,true,.fn fun i j=>Zi (bsF i)⟩]) (by repeat' (first|exact trivial|(first|exact Ent.refl _|exact inc_ent (by omega)|exact Ent.nil rfl|exact Ent.of_eq (congrArg (AV.osl _ _ _) (by rfl))|exact Ent.of_eq (congrArg (AV.int _) (by rfl)))|refine And.intro ?_ ?_)) (by repeat' (first|exact trivial|(first|exact ObEnt.refl _|exact ObEnt.junk|exact ObEnt.zero|exact ObEnt.push rfl rfl|exact ObEnt.pushRow rfl|exact ObEnt.len (by omega)|exact ObEnt.row (by repeat' (first|exact trivial|(first|exact Ent.refl _|exact inc_ent (by omega)|exact Ent.nil rfl|exact Ent.of_eq (congrArg (AV.osl _ _ _) (by rfl))|exact Ent.of_eq (congrArg (AV.int _) (by rfl)))|refine And.intro ?_ ?_)))|refine And.intro ?_ ?_))
     intro x13
     try (have q13:=x13.2;dsimp only at q13)
     have F:=isP_3 g0 x2.2.2 (by omega)
     apply n_bd ((x13.1:Int)<12)
     ·intro g14
      apply n_req (0≤(x13.1:Int)∧(x13.1:Int)<12)
      apply n_sc (strong_c (n) (bsF (toNat (↑x13.1:Int)+0)) (by (have F:=isP_3 g0 x2.2.2 (by omega);simp only [Int.toNat_natCast,Nat.add_zero];have:=bsF_bnd (i:=x13.1) (by omega);omega)) (by (have F:=isP_3 g0 x2.2.2 (by omega);simp only [Int.toNat_natCast,Nat.add_zero];have:=bsF_bnd (i:=x13.1) (by omega);omega)) (by omega) (by omega) (by grind [odd_of,isP_3]))
      apply n_br0 (!strongB n (bsF (toNat (x13.1:Int)+0)))
      ·intro h17
       have g17:=(cnd_not_t cnd_id_f) h17
       try simp only [Int.toNat_natCast] at g17
       exact n_outx (.bool false) (Ent.of_eq (congrArg _ (by simp only [Int.toNat_natCast,Nat.add_zero] at h17;rw [F.1,allI_f (i:=x13.1) (by omega) (by omega)])))
      ·intro h17
       have g17:=(cnd_not_f cnd_id_t) h17
       try simp only [Int.toNat_natCast] at g17
       exact n_againx [0] (⟨x13.1+1,by omega,fun j hj=>by grind⟩) [Zi n,.osl 0 1 0 12,Zi (wrap .i64 ((x13.1:Int)+1))] ([some ⟨1,12,true,.fn fun i j=>Zi (bsF i)⟩]) (by repeat' (first|exact trivial|(first|exact Ent.refl _|exact inc_ent (by omega)|exact Ent.nil rfl|exact Ent.of_eq (congrArg (AV.osl _ _ _) (by rfl))|exact Ent.of_eq (congrArg (AV.int _) (by rfl)))|refine And.intro ?_ ?_)) (by repeat' (first|exact trivial|(first|exact ObEnt.refl _|exact ObEnt.junk|exact ObEnt.zero|exact ObEnt.push rfl rfl|exact ObEnt.pushRow rfl|exact ObEnt.len (by omega)|exact ObEnt.row (by repeat' (first|exact trivial|(first|exact Ent.refl _|exact inc_ent (by omega)|exact Ent.nil rfl|exact Ent.of_eq (congrArg (AV.osl _ _ _) (by rfl))|exact Ent.of_eq (congrArg (AV.int _) (by rfl)))|refine And.intro ?_ ?_)))|refine And.intro ?_ ?_))
     ·intro g14
      exact n_outx (.bool true) (Ent.of_eq (congrArg _ (by grind [allI_t]))))
end Go.Proofs.YtcageinnelhonaaGreatDoor

namespace Go.Sp
open Go.IntKind (wrap)
open Int (toNat)
open Go Go.Am
structure Grp where
  p : Int
  q : Int
  g : Int
def Grp.cells (G:Grp):List AV:=[.int .i64 G.p,.int .i64 G.q,.int .i64 G.g]
def Grp.av (G:Grp):AV:=.agg G.cells
structure Bas where
  gr : Grp
  g1 : Int
  g2 : Int
  h : Int
def Bas.cells (b:Bas):List AV:=b.gr.cells++[.int .i64 b.g1,.int .i64 b.g2,.int .i64 b.h]
def Bas.av (b:Bas):AV:=.agg b.cells
def elemB (G:Grp) (x:Int):Bool:=decide (1≤x)&&decide (x<G.p)&&(okv (powE x G.q G.p) (x^G.q.toNat%G.p)==1)
def validG (G:Grp):Bool:=decide (3≤G.p∧G.p<2305843009213693952∧3≤G.q∧G.q%2=1∧(G.p - 1)%G.q=0∧2≤G.g∧G.g<G.p)&&isP G.p&&isP G.q&&(G.g^G.q.toNat%G.p==1)
def validB (b:Bas):Bool:=validG b.gr&&b.g1 != 1&&b.g2 != 1&&b.h != 1&&elemB b.gr b.g1&&elemB b.gr b.g2&&elemB b.gr b.h
structure Grp.W (G : Grp) : Prop where
  p : G.p ≤ 9223372036854775807
  q : G.q ≤ 9223372036854775807
structure Grp.Ok (G : Grp) : Prop where
  p3 : 3 ≤ G.p
  p1 : G.p < 2305843009213693952
  q3 : 3 ≤ G.q
  q2 : G.q % 2 = 1
  d : (G.p - 1) % G.q = 0
  g2 : 2 ≤ G.g
  g1 : G.g < G.p
  ip : isP G.p = true
  iq : isP G.q = true
  pw : G.g ^ G.q.toNat % G.p = 1
theorem validG_iff {G:Grp}:validG G=true↔G.Ok:=by
 unfold validG
 simp only [Bool.and_eq_true,decide_eq_true_eq,beq_iff_eq]
 constructor
 ·rintro ⟨⟨⟨⟨a,b,c,d,e,f,g⟩,h⟩,i⟩,j⟩
  exact ⟨a,b,c,d,e,f,g,h,i,j⟩
 ·rintro ⟨a,b,c,d,e,f,g,h,i,j⟩
  grind
theorem Grp.Ok.qp {G:Grp} (h:G.Ok):G.q<G.p:=by
 have h1:=h.d;have h2:=h.p3;have h3:=h.q3
 have:=Int.le_of_dvd (by omega) (Int.dvd_of_emod_eq_zero h1)
 omega
theorem isP_ge {n:Int} (h:isP n=true):2≤n:=by grind [Int.not_lt,isP_1]
theorem elem_f {G:Grp} {x:Int} (h:x<1∨x≥G.p):elemB G x=false:=by grind [elemB,decide]
theorem elem_t {G:Grp} {x:Int} (h:¬x<1∧¬x≥G.p):elemB G x=(okv (powE x G.q G.p) (x^G.q.toNat%G.p)==1):=by grind [elemB,decide]
theorem Grp.Ok.powE {G:Grp} (h:G.Ok) {x:Int} (h0:0≤x) (h1:x<G.p):powE x G.q G.p=0:=by
 have:=h.p3;have:=h.p1;have:=h.q3
 grind [powE_0,chk_ok]
theorem vg_no {G:Grp} (g:((((((G.p≥2305843009213693952∨G.q<3)∨Int.tmod G.q 2=0)∨isP G.p=false)∨isP G.q=false)∨¬Int.tmod (IntKind.wrap .i64 (G.p - 1)) G.q=0)∨G.g<2)∨G.g≥G.p):validG G=false:=by
 refine Bool.eq_false_iff.2 fun h=>?_
 have k:=validG_iff.1 h
 have:=k.p3;have:=k.p1;have:=k.q3;have h2:=k.q2;have hd:=k.d;have:=k.g2;have:=k.g1
 rw [tmod_nn (by omega),wI (by omega) (by omega),tmod_nn (by omega),k.ip,k.iq] at g
 grind
theorem vg_yes {G:Grp} (g:((((((¬G.p≥2305843009213693952∧¬G.q<3)∧¬Int.tmod G.q 2=0)∧isP G.p=true)∧isP G.q=true)∧Int.tmod (IntKind.wrap .i64 (G.p - 1)) G.q=0)∧¬G.g<2)∧¬G.g≥G.p) :
  (powE G.g G.q G.p==0&&okv (powE G.g G.q G.p) (G.g^G.q.toNat%G.p)==1)=validG G:=by grind [isP_ge,tmod_nn,wI,Int.not_lt,Int.emod_eq_of_lt,powE_0,chk_ok,validG,okv0,decide_eq_true]
theorem vg_no2 {G:Grp} (g:(((((G.p<3∨G.p≥2305843009213693952)∨G.q<3)∨Int.tmod G.q 2=0)∨¬Int.tmod (IntKind.wrap .i64 (G.p - 1)) G.q=0)∨G.g<2)∨G.g≥G.p):validG G=false:=by
 refine Bool.eq_false_iff.2 fun h=>?_
 have k:=validG_iff.1 h
 have:=k.p3;have:=k.p1;have:=k.q3;have h2:=k.q2;have hd:=k.d;have:=k.g2;have:=k.g1
 grind [tmod_nn,wI]
theorem vg_some {G:Grp} (g:(((((¬G.p<3∧¬G.p≥2305843009213693952)∧¬G.q<3)∧¬Int.tmod G.q 2=0)∧Int.tmod (IntKind.wrap .i64 (G.p - 1)) G.q=0)∧¬G.g<2)∧¬G.g≥G.p) :
  3≤G.p∧G.p<2305843009213693952∧3≤G.q∧G.q%2=1∧(G.p - 1)%G.q=0∧2≤G.g∧G.g<G.p∧G.q<G.p:=by
 obtain ⟨⟨⟨⟨⟨⟨a,b⟩,c⟩,d⟩,e⟩,i⟩,j⟩:=g
 rw [tmod_nn (by omega)] at d
 rw [wI (by omega) (by omega),tmod_nn (by omega)] at e
 have:=Int.le_of_dvd (by omega) (Int.dvd_of_emod_eq_zero e)
 omega
theorem vg_yes2 {G:Grp} (g:(((((¬G.p<3∧¬G.p≥2305843009213693952)∧¬G.q<3)∧¬Int.tmod G.q 2=0)∧Int.tmod (IntKind.wrap .i64 (G.p - 1)) G.q=0)∧¬G.g<2)∧¬G.g≥G.p) :
  (isP G.p&&isP G.q&&G.g^G.q.toNat%G.p==1)=validG G:=by grind [vg_some,validG,decide_eq_true]
def Bas.x (b:Bas) (i:Nat):Int:=[b.g1,b.g2,b.h].getD i 0
def Bas.good (b:Bas) (i:Nat):Bool:=b.x i != 1&&elemB b.gr (b.x i)
theorem validB_all (b:Bas):validB b=(validG b.gr&&allI b.good 3):=by
 show validB b=(validG b.gr&&(b.good 0&&(b.good 1&&(b.good 2&&true))))
 show (validG b.gr&&b.g1 != 1&&b.g2 != 1&&b.h != 1&&elemB b.gr b.g1&&elemB b.gr b.g2&&elemB b.gr b.h)=(validG b.gr&&((b.g1 != 1&&elemB b.gr b.g1)&&((b.g2 != 1&&elemB b.gr b.g2)&&((b.h != 1&&elemB b.gr b.h)&&true))))
 grind
theorem bas_ob {os:List (Option Ob)} {b:Bas} {mu:Bool}:ObEnt os ⟨1,3,mu,.lst [[.int .i64 b.g1],[.int .i64 b.g2],[.int .i64 b.h]]⟩ ⟨1,3,mu,.fn fun i _=>.int .i64 (b.x i)⟩:=lst_fn fun i j hi hj=>by
 obtain rfl:j=0:=by omega
 match i,hi with
 | 0,_|1,_|2,_=>rfl
structure Bas.Ok (b : Bas) : Prop where
  G : b.gr.Ok
  n1 : b.g1 ≠ 1
  n2 : b.g2 ≠ 1
  nh : b.h ≠ 1
  e1 : elemB b.gr b.g1 = true
  e2 : elemB b.gr b.g2 = true
  eh : elemB b.gr b.h = true
theorem validB_iff {b:Bas}:validB b=true↔b.Ok:=by
 unfold validB
 simp only [Bool.and_eq_true,validG_iff,bne_iff_ne]
 constructor
 ·rintro ⟨⟨⟨⟨⟨⟨a,b⟩,c⟩,d⟩,e⟩,f⟩,g⟩;exact ⟨a,b,c,d,e,f,g⟩
 ·rintro ⟨a,b,c,d,e,f,g⟩;grind
theorem mem_eq {G:Grp} {x:Int} (h:G.Ok):(decide (x≥1)&&decide (x<G.p)&&x^G.q.toNat%G.p==1)=elemB G x:=by
 by_cases hx:x<1∨x≥G.p
 ·grind [elem_f,decide]
 ·rw [elem_t (by omega),h.powE (by omega) (by omega),okv0,show decide (x≥1)=true from by grind,show decide (x<G.p)=true from by grind];simp
theorem Bas.good_f {b:Bas} {i:Nat} (h:validG b.gr=true) (g:b.x i=1∨(validG b.gr=false∨elemB b.gr (b.x i)=false)):b.good i=false:=by
 unfold good
 grind
theorem Bas.good_t {b:Bas} {i:Nat} (g:¬b.x i=1∧(validG b.gr=true∧elemB b.gr (b.x i)=true)):b.good i=true:=by simp_all [good,Bool.and_true]
theorem all_next {p:Nat→Bool} {i:Nat} (h:∀ j,j<i→p j=true) (hi:p i=true):∀ j,j<i+1→p j=true:=fun j hj=>by grind
end Go.Sp

namespace Go.Proofs.YtcageinnelhonaaGreatDoor
open Go.IntKind (wrap)
open Int (toNat)
open Go Go.Am Go.Sp
set_option maxRecDepth 100000
theorem element_c (G:Grp) (x:Int) (hw:G.W):Pure Tryz.prog gl0 175 [G.av,.int .i64 x] (.bool (elemB G x)):=by
 have hq:=hw.q
 exact pz Tryz.func175 (by
  apply n_br (decide (x<1)||decide (x≥G.1))
  ·intro g0
   exact n_out (Ent.of_eq (congrArg _ (elem_f g0).symm))
  ·intro g0
   apply n_sc (wpow_c (x) (G.2) (G.1) (by assumption))
   exact n_out (Ent.of_eq (congrArg _ (elem_t g0).symm)))
theorem gvalid_c (G:Grp) (hw:G.W):Pure Tryz.prog gl0 108 [G.av] (.bool (validG G)):=by
 have hq:=hw.q
 have hp:=hw.p
 exact pz Tryz.func108 (by
  apply n_scg ((decide (G.1≥2305843009213693952)||decide (G.2<3)||Int.tmod G.2 (2:Int)==0)==false) (fun h0=>is_c (G.1) (by assumption))
  apply n_scg ((decide (G.1≥2305843009213693952)||decide (G.2<3)||Int.tmod G.2 (2:Int)==0 || !isP G.1)==false) (fun h1=>is_c (G.2) (by assumption))
  apply n_req (((decide (G.1≥2305843009213693952)||decide (G.2<3)||Int.tmod G.2 (2:Int)==0 || !isP G.1 || !isP G.2)==false)=true→G.2≠(0:Int)) (fun hr=>by have hr:=(cnd_eqf_t (cnd_or_f (cnd_or_f (cnd_or_f (cnd_or_f cnd_dec_f cnd_dec_f) cnd_beq_f) (cnd_not_f cnd_id_t)) (cnd_not_f cnd_id_t))) hr;omega)
  apply n_br (decide (G.1≥2305843009213693952)||decide (G.2<3)||Int.tmod G.2 (2:Int)==0 || !isP G.1 || !isP G.2||Int.tmod (wrap .i64 (G.1 - 1)) G.2 != 0||decide (G.3<2)||decide (G.3≥G.1))
  ·intro g3
   exact n_out (Ent.of_eq (congrArg _ (vg_no g3).symm))
  ·intro g3
   apply n_sc (wpow_c (G.3) (G.2) (G.1) (by assumption))
   exact n_out (Ent.of_eq (congrArg _ (vg_yes g3))))
theorem contains_c (G:Grp) (x:Int) (hw:G.W):Pure Tryz.prog gl0 109 [G.av,.int .i64 x] (.bool (validG G&&elemB G x)):=by
 exact pz Tryz.func109 (by
  apply n_sc (gvalid_c (G) (by assumption))
  apply n_scg (validG G==true) (fun h1=>element_c (G) (x) (by assumption))
  exact n_or)
theorem bvalid_c (b:Bas) (hw:b.gr.W):Pure Tryz.prog gl0 52 [b.av] (.bool (validB b)):=by
 exact pz Tryz.func52 (by
  apply n_sc ((gvalid_c (Bas.gr b)) (by assumption))
  apply n_br (!validG b.1)
  ·intro g1
   exact n_outx (.bool false) (Ent.of_eq (congrArg _ (by rw [validB_all,g1];rfl)))
  ·intro g1
   apply n_loopx ({ x:Nat // x≤3∧(fun (i:Nat)=>∀ (j:Nat),j<i→Bas.good b j=true) x }) [1,15,16,2,17] [0,96] (fun x=>[.own 0 6 0 0 6,.osl 1 1 0 3,Zi 3,.bool false,Zi x.1]) (fun x=>[some ⟨6,1,true,.lst [Bas.cells b]⟩,some ⟨1,3,true,.fn fun i x=>Zi (Bas.x b i)⟩]) (fun x=>3 - x.1) (⟨0,⟨Nat.zero_le 3,fun (j:Nat) (hj:j<0)=>absurd hj (Nat.not_lt_zero j)⟩⟩) [.own 0 6 0 0 6,.osl 1 1 0 3,Zi 3,.bool false,Zi 0] [some ⟨6,1,true,.lst [Bas.cells b]⟩,some ⟨1,3,true,.lst [[Zi (Bas.g1 b)],[Zi (Bas.g2 b)],[Zi (Bas.h b)]]⟩] (⟨.refl _,.refl _,.refl _,.refl _,.refl _,trivial⟩) (⟨.refl _,bas_ob,trivial⟩)
   intro x3
   try (have q3:=x3.2;dsimp only at q3)
   apply n_bd ((x3.1:Int)<3)
   ·intro g4
    apply n_req (0≤(x3.1:Int)∧(x3.1:Int)<3)
    apply n_scg ((Bas.x b (toNat (x3.1:Int)+0)==1)==false) (fun h6=>(contains_c (Bas.gr b)) (Bas.x b (toNat (↑x3.1:Int)+0)) (by assumption))
    apply n_br (Bas.x b (toNat (x3.1:Int)+0)==1 || !(validG b.1&&elemB b.1 (Bas.x b (toNat (x3.1:Int)+0))))
    ·intro g7
     try simp only [Int.toNat_natCast] at g7
     exact n_outx (.bool false) (Ent.of_eq (congrArg _ (by rw [validB_all,allI_f (i:=x3.1) (by omega) (Bas.good_f g1 g7)];simp)))
    ·intro g7
     try simp only [Int.toNat_natCast] at g7
     exact n_again [0,1] (⟨x3.1+1,by omega,all_next x3.2.2 (Bas.good_t g7)⟩) (ek4 (en (inc_ent (by omega))))
   ·intro g4
    exact n_outx (.bool true) (Ent.of_eq (congrArg _ (by rw [validB_all,g1,allI_t fun j hj=>x3.2.2 j (by omega)];rfl))))
theorem member_c (G:Grp) (x:Int) (hw:G.Ok):Pure Tryz.prog gl0 66 [G.av,.int .i64 x] (.bool (elemB G x)):=by
 have h1:=hw.p1
 have h2:=hw.q3
 have h3:=hw.qp
 exact pz Tryz.func66 (by
  apply n_scg ((decide (x≥1)&&decide (x<G.1))==true) (fun h0=>rpow_c (x) (G.2) (G.1) (by (simp at h0;omega)) (by (simp at h0;omega)) (by omega) (by omega) (by assumption))
  exact n_out (Ent.of_eq (congrArg _ (mem_eq hw))))
theorem r10valid_c (G:Grp) (_:G.W):Pure Tryz.prog gl0 65 [G.av] (.bool (validG G)):=by
 exact pz Tryz.func65 (by
  apply n_req (((decide (G.1<3)||decide (G.1≥2305843009213693952)||decide (G.2<3)||Int.tmod G.2 (2:Int)==0)==false)=true→G.2≠(0:Int)) (fun hr=>by have hr:=(cnd_eqf_t (cnd_or_f (cnd_or_f (cnd_or_f cnd_dec_f cnd_dec_f) cnd_dec_f) cnd_beq_f)) hr;omega)
  apply n_br (decide (G.1<3)||decide (G.1≥2305843009213693952)||decide (G.2<3)||Int.tmod G.2 (2:Int)==0||Int.tmod (wrap .i64 (G.1 - 1)) G.2 != 0||decide (G.3<2)||decide (G.3≥G.1))
  ·intro g1
   exact n_out (Ent.of_eq (congrArg _ (vg_no2 g1).symm))
  ·intro g1
   apply n_sc (ris_c (G.1) (by have:=vg_some g1;omega))
   apply n_scg (isP G.1==true) (fun h4=>ris_c (G.2) (by have:=vg_some g1;omega))
   apply n_scg ((isP G.1&&isP G.2)==true) (fun h5=>rpow_c (G.3) (G.2) (G.1) (by have:=vg_some g1;omega) (by have:=vg_some g1;omega) (by have:=vg_some g1;omega) (by have:=vg_some g1;omega) (by have:=vg_some g1;omega))
   exact n_out (Ent.of_eq (congrArg _ (vg_yes2 g1))))
theorem r11valid_c (b:Bas) (hw:b.gr.W):Pure Tryz.prog gl0 27 [b.av] (.bool (validB b)):=by
 exact pz Tryz.func27 (by
  apply n_sc ((r10valid_c (Bas.gr b)) (hw))
  apply n_scg ((validG b.1&&b.2 != 1&&b.3 != 1&&b.4 != 1)==true) (fun h1=>(member_c (Bas.gr b)) (b.2) (validG_iff.1 (by simp at h1;simp [h1])))
  apply n_scg ((validG b.1&&b.2 != 1&&b.3 != 1&&b.4 != 1&&elemB b.1 b.2)==true) (fun h2=>(member_c (Bas.gr b)) (b.3) (validG_iff.1 (by simp at h2;simp [h2])))
  apply n_scg ((validG b.1&&b.2 != 1&&b.3 != 1&&b.4 != 1&&elemB b.1 b.2&&elemB b.1 b.3)==true) (fun h3=>(member_c (Bas.gr b)) (b.4) (validG_iff.1 (by simp at h3;simp [h3])))
  exact n_or)
end Go.Proofs.YtcageinnelhonaaGreatDoor

namespace Go.Sp
open Go.IntKind (wrap)
open Int (toNat)
open Go Go.Am
theorem blt_t {a b:Nat} (h:a<b):Nat.blt a b=true:=by simp_all
theorem blt_f {a b:Nat} (h:b≤a):Nat.blt a b=false:=by grind [Nat.blt,Nat.blt_eq]
theorem beq_f {a b:Nat} (h:a≠b):Nat.beq a b=false:=by grind [Nat.beq,absurd,Nat.eq_of_beq_eq_true]
theorem ObEnt.setF {os:List (Option Ob)} {n i0:Nat} {mu:Bool} {k:IntKind} {F G:Nat→Int} {X:Int} (h0:X=G i0) (h:∀ i,i<n→i≠i0→F i=G i) :
  ObEnt os ⟨1,n,mu,.fn fun i j=>.int k (bif Nat.beq i (i0+0)&&(Nat.ble 0 j&&Nat.blt j 1) then X else F i)⟩ ⟨1,n,mu,.fn fun i _=>.int k (G i)⟩ :=
 ⟨rfl,rfl,rfl,fun i j hi hj=>Ent.of_eq (by
  obtain rfl:j=0:=Nat.lt_one_iff.1 hj
  show AV.int k (bif Nat.beq i i0&&true then X else F i)=.int k (G i)
  grind [Nat.beq_refl,beq_f])⟩
theorem ObEnt.pushF {os:List (Option Ob)} {x x':Nat} {mu:Bool} {k:IntKind} {F:Nat→Int} {v:Int} (hx:x'=x+1) (h:v=F x) :
  ObEnt os ⟨1,x+1,mu,.fn fun i j=>.int k (bif Nat.blt i x then F i else intOfAV (atL [.int k v] j))⟩ ⟨1,x',mu,.fn fun i _=>.int k (F i)⟩:=by
 subst hx
 refine ⟨rfl,rfl,rfl,fun i j hi hj=>Ent.of_eq ?_⟩
 obtain rfl:j=0:=Nat.lt_one_iff.1 hj
 have hi:i<x+1:=hi
 show AV.int k (bif Nat.blt i x then F i else v)=.int k (F i)
 by_cases e:i<x
 ·grind [blt_t]
 grind
theorem ObEnt.setR {os:List (Option Ob)} {m c0:Nat} {mu:Bool} {k:IntKind} {F G:Nat→Int} {X:Int} {P:Nat→Nat→Bool} (hP:∀ j,j<m→P 0 j=Nat.beq j c0) (h0:X=G c0) (h:∀ j,j<m→j≠c0→F j=G j) :
  ObEnt os ⟨m,1,mu,.fn fun i j=>.int k (bif P i j then X else F j)⟩ ⟨m,1,mu,.fn fun _ j=>.int k (G j)⟩ :=
 ⟨rfl,rfl,rfl,fun i j hi hj=>Ent.of_eq (by
  obtain rfl:i=0:=Nat.lt_one_iff.1 hi
  show AV.int k (bif P 0 j then X else F j)=.int k (G j)
  grind [Nat.beq_refl,beq_f])⟩
theorem ObEnt.rowR {os:List (Option Ob)} {m:Nat} {mu:Bool} {k:IntKind} {G:Nat→Int} {l:List AV} (h:l=(List.range m).map fun j=>.int k (G j)) :
  ObEnt os ⟨m,1,mu,.lst [l]⟩ ⟨m,1,mu,.fn fun _ j=>.int k (G j)⟩:=by
 subst h
 refine ⟨rfl,rfl,rfl,fun i j hi hj=>Ent.of_eq ?_⟩
 obtain rfl:i=0:=Nat.lt_one_iff.1 hi
 exact atL_map_range hj
theorem fill_step {F:Nat→Int} {z:Int} {i q:Nat} (h:q≠i):(bif Nat.blt q i then F q else z)=(bif Nat.blt q (i+1) then F q else z):=by grind [blt_t,blt_f]
theorem ObEnt.fillF {os:List (Option Ob)} {n i:Nat} {mu:Bool} {k:IntKind} {F:Nat→Int} {X z:Int} (h:X=F i) :
  ObEnt os ⟨1,n,mu,.fn fun q j=>.int k (bif Nat.beq q (i+0)&&(Nat.ble 0 j&&Nat.blt j 1) then X else (bif Nat.blt q i then F q else z))⟩ ⟨1,n,mu,.fn fun q _=>.int k (bif Nat.blt q (i+1) then F q else z)⟩ :=
 ObEnt.setF (i0:=i) (by simp_all [blt_t]) (fun q _ he=>fill_step he)
theorem ObEnt.fnR {os:List (Option Ob)} {m:Nat} {mu:Bool} {k:IntKind} {F G:Nat→Int} (h:∀ j,j<m→F j=G j) :
  ObEnt os ⟨m,1,mu,.fn fun _ j=>.int k (F j)⟩ ⟨m,1,mu,.fn fun _ j=>.int k (G j)⟩:=⟨rfl,rfl,rfl,fun _ j _ hj=>Ent.of_eq (congrArg _ (h j hj))⟩
theorem ObEnt.fnF {os:List (Option Ob)} {n n':Nat} {mu:Bool} {k:IntKind} {F G:Nat→Int} (hn:n=n') (h:∀ i,i<n→F i=G i) :
  ObEnt os ⟨1,n,mu,.fn fun i _=>.int k (F i)⟩ ⟨1,n',mu,.fn fun i _=>.int k (G i)⟩:=⟨rfl,hn,rfl,fun i _ hi _=>Ent.of_eq (congrArg _ (h i hi))⟩
theorem fill_step2 {F z:Nat→Int} {i q:Nat} (h:q≠i):(bif Nat.blt q i then F q else z q)=(bif Nat.blt q (i+1) then F q else z q):=by grind [blt_t,blt_f]
theorem getD_rows {l:List Int} {k:IntKind} {i:Nat} (h:i<l.length):atL ((l.map fun x=>[AV.int k x]).getD i []) 0=.int k (l.getD i 0):=by
 rw [List.getD_eq_getElem?_getD,List.getD_eq_getElem?_getD,List.getElem?_map,List.getElem?_eq_getElem h]
 rfl
abbrev sps (n:Nat) (S:Nat→Spend):AV:=.isl 80 n (fun i j=>atL (S i).cells j)
abbrev ils (n:Nat) (f:Nat→Int):AV:=.isl 1 n (fun i _=>.int .i64 (f i))
structure Chn where
  first : Spend
  n : Nat
  l : Nat → Spend
def Chn.cells (h:Chn):List AV:=h.first.cells++[sps h.n h.l]
def Chn.av (h:Chn):AV:=.agg h.cells
structure Esc where
  e1 : Int
  e2 : Int
  na : Nat
  a : Nat → Int
  c : Int
  nz : Nat
  z : Nat → Int
def Esc.cw (e:Esc) (x y:AV):List AV:=[.int .i64 e.e1,.int .i64 e.e2,x,.int .i64 e.c,y]
def Esc.cells (e:Esc):List AV:=e.cw (ils e.na e.a) (ils e.nz e.z)
def Esc.av (e:Esc):AV:=.agg e.cells
abbrev chs (n:Nat) (f:Nat→Chn):AV:=.isl 81 n (fun i j=>atL (f i).cells j)
abbrev escs (n:Nat) (f:Nat→Esc):AV:=.isl 5 n (fun i j=>atL (f i).cells j)
structure Pay where
  number : Int
  ns : Nat
  sp : Nat → Spend
  nc : Nat
  ch : Nat → Chn
  ne : Nat
  es : Nat → Esc
def Pay.cw (p:Pay) (x y z:AV):List AV:=[.int .i64 p.number,x,y,z]
def Pay.cells (p:Pay):List AV:=p.cw (sps p.ns p.sp) (chs p.nc p.ch) (escs p.ne p.es)
def Pay.av (p:Pay):AV:=.agg p.cells
structure Inv where
  payee : Nat → Int
  amount : Int
  time : Int
  number : Int
def u8c (p:Nat→Int):List AV:=[.int .u8 (p 0),.int .u8 (p 1),.int .u8 (p 2),.int .u8 (p 3),.int .u8 (p 4),.int .u8 (p 5),.int .u8 (p 6),.int .u8 (p 7),.int .u8 (p 8),.int .u8 (p 9),.int .u8 (p 10),.int .u8 (p 11),.int .u8 (p 12),.int .u8 (p 13),.int .u8 (p 14),.int .u8 (p 15),.int .u8 (p 16),.int .u8 (p 17),.int .u8 (p 18),.int .u8 (p 19),.int .u8 (p 20),.int .u8 (p 21),.int .u8 (p 22),.int .u8 (p 23),.int .u8 (p 24),.int .u8 (p 25),.int .u8 (p 26),.int .u8 (p 27),.int .u8 (p 28),.int .u8 (p 29),.int .u8 (p 30),.int .u8 (p 31)]
def Inv.cells (v:Inv):List AV:=u8c v.payee++[.int .i64 v.amount,.int .i64 v.time,.int .i64 v.number]
def Inv.av (v:Inv):AV:=.agg v.cells
def Inv.zero:Inv:=⟨fun _=>0,0,0,0⟩
def anyI (p:Nat→Bool) (n:Nat):Bool:=decide (firstI p n 0≥0)
def Pay.zero:Pay:=⟨0,0,fun _=>.zero,0,fun _=>⟨.zero,0,fun _=>.zero⟩,0,fun _=>⟨0,0,0,fun _=>0,0,0,fun _=>0⟩⟩
structure LightP (p : Pay) : Prop where
  ns : p.ns ≤ 8
  nc : p.nc ≤ 8
  ne : p.ne ≤ 20
  sp : ∀ i, i < p.ns → (p.sp i).nl ≤ 1000 ∧ (p.sp i).np ≤ 1000
  cn : ∀ i, i < p.nc → (p.ch i).n ≤ 10
  cf : ∀ i, i < p.nc → (p.ch i).first.nl ≤ 1000 ∧ (p.ch i).first.np ≤ 1000
  cl : ∀ i j, i < p.nc → j < (p.ch i).n → ((p.ch i).l j).nl ≤ 1000 ∧ ((p.ch i).l j).np ≤ 1000
  es : ∀ i, i < p.ne → (p.es i).na ≤ 1000 ∧ (p.es i).nz ≤ 1000
theorem EntL.app {os:List (Option Ob)}:∀ {l l' m m':List AV},EntL os l l'→EntL os m m'→EntL os (l++m) (l'++m')
 | [],[],_,_,_,h=>h
 | _::_,_::_,_,_,h,h'=>⟨h.1,EntL.app h.2 h'⟩
 | [],_::_,_,_,h,_=>h.elim
 | _::_,[],_,_,h,_=>h.elim
theorem u8c_at {g:Nat→Int} {j:Nat} (h:j<32):intOfAV (atL (u8c g) j)=g j:=congrArg intOfAV (atL_map_range (es:=32) (g:=fun j=>AV.int .u8 (g j)) h)
def add32 (x y:Int):Int:=IntKind.wrap .u32 (x+y)
def xorW (x y:Int):Int:=IntKind.wrap .u32 ((BitVec.ofInt 32 x ^^^ BitVec.ofInt 32 y).toNat:Nat)
def andW (x y:Int):Int:=IntKind.wrap .u32 ((BitVec.ofInt 32 x &&& BitVec.ofInt 32 y).toNat:Nat)
def notW (x:Int):Int:=IntKind.wrap .u32 ((BitVec.ofInt 32 4294967295 ^^^ BitVec.ofInt 32 x).toNat:Nat)
def shrW (x:Int) (n:Nat):Int:=x / 2^n
def rotr (x:Int) (n:Nat):Int:=IntKind.wrap .u32 ((BitVec.ofInt 32 (x / 2^n) ||| BitVec.ofInt 32 (IntKind.wrap .u32 (x*2^(32 - n)))).toNat:Nat)
theorem or_comm32 (a b:Int):IntKind.wrap .u32 ((BitVec.ofInt 32 a ||| BitVec.ofInt 32 b).toNat:Nat)=IntKind.wrap .u32 ((BitVec.ofInt 32 b ||| BitVec.ofInt 32 a).toNat:Nat):=by grind
theorem mask5:∀ n:Fin 32,0<n.val→IntKind.wrap .u64 ((BitVec.ofInt 64 (IntKind.wrap .u64 (IntKind.wrap .i64 (0 - (n.val:Int)))) &&& BitVec.ofInt 64 31).toNat:Nat)=((32 - n.val:Nat):Int):=by decide +kernel
theorem mask5n {n:Nat} (h0:0<n) (h:n<32):IntKind.wrap .u64 ((BitVec.ofInt 64 (IntKind.wrap .u64 (IntKind.wrap .i64 (0 - (n:Int)))) &&& BitVec.ofInt 64 31).toNat:Nat)=((32 - n:Nat):Int):=mask5 ⟨n,h⟩ h0
def be8 (n:Int) (i:Nat):Int:=n / 2^(56 - 8*i)%256
abbrev bys (n:Nat) (f:Nat→Int):AV:=.isl 1 n (fun i _=>.int .u8 (f i))
theorem ex8 {i:Nat} (h:i<8):min (toNat (IntKind.wrap .i64 (56 - IntKind.wrap .i64 (8*(i:Int))))) 64=56 - 8*i:=by grind [wI,Int]
theorem be8_w {n:Int} {i:Nat} (h:i<8):IntKind.wrap .u8 (Int.fdiv n (2^min (toNat (IntKind.wrap .i64 (56 - IntKind.wrap .i64 (8*(i:Int))))) 64))=be8 n i:=by
 rw [ex8 h,wu8m,shr_eq];rfl
theorem be8_v {n:Int} {i:Nat} (h:i<8):IntKind.wrap .u8 (Int.fdiv n (2^min (toNat (IntKind.wrap .i64 (8*(7 - (i:Int))))) 64))=be8 n i:=by
 rw [wI (by omega) (by omega),show min (toNat (8*(7 - (i:Int)))) 64=56 - 8*i by omega,wu8m,shr_eq];rfl
theorem bys_eq {os:List (Option Ob)} {n n':Nat} {f g:Nat→Nat→Int} (hn:n=n') (h:∀ i,i<n→f i 0=g i 0):Ent os (.isl 1 n fun i j=>.int .u8 (f i j)) (.isl 1 n' fun i j=>.int .u8 (g i j)):=by
 refine Ent.islN hn fun i j hi hj=>?_
 obtain rfl:j=0:=Nat.lt_one_iff.1 hj
 exact congrArg _ (h i hi)
def preB (b:Nat→Int) (i:Nat):Nat→Int
 | 0=>0
 | k+1=>preB b i k*256+b (4*i+k)
def be4 (b:Nat→Int) (i:Nat):Int:=preB b i 4
def sg0 (x:Int):Int:=xorW (xorW (rotr x 7) (rotr x 18)) (shrW x 3)
def sg1 (x:Int):Int:=xorW (xorW (rotr x 17) (rotr x 19)) (shrW x 10)
def wordF (b:Nat→Int) (j:Nat):Int :=
 if h:j<16 then be4 b j
 else add32 (add32 (add32 (wordF b (j - 16)) (sg0 (wordF b (j - 15)))) (wordF b (j - 7))) (sg1 (wordF b (j - 2)))
termination_by j
decreasing_by all_goals omega
theorem word_lo {b:Nat→Int} {j:Nat} (h:j<16):wordF b j=be4 b j:=by rw [wordF,dif_pos h]
theorem word_hi {b:Nat→Int} {j:Nat} (h:16≤j):wordF b j=add32 (add32 (add32 (wordF b (j - 16)) (sg0 (wordF b (j - 15)))) (wordF b (j - 7))) (sg1 (wordF b (j - 2))):=by rw [wordF,dif_neg (by omega)]
def S1 (e:Int):Int:=xorW (xorW (rotr e 6) (rotr e 11)) (rotr e 25)
def S0 (a:Int):Int:=xorW (xorW (rotr a 2) (rotr a 13)) (rotr a 22)
def chF (e f g:Int):Int:=xorW (andW e f) (andW (notW e) g)
def majF (a b c:Int):Int:=xorW (xorW (andW a b) (andW a c)) (andW b c)
def rX (v w:Nat→Int) (t:Nat):Int:=add32 (add32 (add32 (add32 (v 7) (S1 (v 4))) (chF (v 4) (v 5) (v 6))) (kF t)) (w t)
def rY (v:Nat→Int):Int:=add32 (S0 (v 0)) (majF (v 0) (v 1) (v 2))
def roundF (s w:Nat→Int):Nat→Nat→Int
 | 0,i=>s i
 | t+1,i=>match i with
  | 0=>add32 (rX (roundF s w t) w t) (rY (roundF s w t))
  | 4=>add32 (roundF s w t 3) (rX (roundF s w t) w t)
  | j+1=>roundF s w t j
def mixF (s b:Nat→Int) (i:Nat):Int:=add32 (s i) (roundF s (wordF b) 64 i)
def byB (b:Nat→Int) (n:Nat):Prop:=∀ i,i<n→0≤b i∧b i<256
theorem pre_bnd {b:Nat→Int} {i:Nat} (h:∀ k,k<4→0≤b (4*i+k)∧b (4*i+k)<256):∀ k,k≤4→0≤preB b i k∧preB b i k<256^k
 | 0,_=>by simp [preB]
 | k+1,hk=>by
  have h1:=pre_bnd h k (by omega)
  grind [preB,Int.pow_succ]
theorem pre_step {x c:Int} (h0:0≤x) (h1:x<16777216) (h2:0≤c) (h3:c<256):IntKind.wrap .u32 ((BitVec.ofInt 32 (IntKind.wrap .u32 (x*2^8)) ||| BitVec.ofInt 32 (IntKind.wrap .u32 c)).toNat:Nat)=x*256+c:=by
 obtain ⟨n,rfl⟩:=Int.eq_ofNat_of_zero_le h0
 obtain ⟨m,rfl⟩:=Int.eq_ofNat_of_zero_le h2
 have e:((n:Int)*2^8)=((n*2^8:Nat):Int):=by omega
 rw [wu32 (n:=(m:Int)) (by omega) (by omega),e,wu32 (n:=((n*2^8:Nat):Int)) (by omega) (by omega),orN (by omega) (by omega),← Nat.shiftLeft_eq,← Nat.shiftLeft_add_eq_or_of_lt (show m<2^8 by omega),Nat.shiftLeft_eq,wu32 (by omega) (by omega)]
 omega
theorem join_ob {os:List (Option Ob)} {f g:Nat→Int} {n:Nat}:ObEnt os ⟨1,0+n,true,.fn fun i _=>.int .u8 (f i)⟩ ⟨1,n+0,true,.fn fun i _=>.int .u8 (bif Nat.blt i n then f i else g (i - n))⟩ :=
 ⟨rfl,by simp,rfl,fun i j hi _=>Ent.of_eq (by have hi:i<0+n:=hi;show AV.int .u8 (f i)=.int .u8 (bif Nat.blt i n then f i else g (i - n));grind [blt_t])⟩
theorem w4 {i:Nat} (h:i<16):IntKind.wrap .i64 (4*(i:Int))=4*i∧IntKind.wrap .i64 (4*(i:Int)+4)=4*i+4:=⟨wI (by omega) (by omega),wI (by omega) (by omega)⟩
theorem zero_ob {os:List (Option Ob)} {G:Nat→Int} (h:∀ j,G j=0):ObEnt os ⟨64,1,true,.lst [(List.range 64).map fun _=>.int .u32 0]⟩ ⟨64,1,true,.fn fun _ j=>.int .u32 (G j)⟩:=ObEnt.rowR (by grind)
theorem pre_b24 {b:Nat→Int} {i k:Nat} (hb:byB b 64) (hi:i<16) (hk:k<4):0≤preB b i k∧preB b i k<16777216:=by
 have h:=pre_bnd (b:=b) (i:=i) (fun q hq=>hb _ (by omega)) k (by omega)
 match k,hk,h with
 | 0,_,h|1,_,h|2,_,h|3,_,h=>omega
theorem back_w {t:Nat} {d:Int} {k:Nat} (h:d=k) (hk:k≤16+t) (ht:t<1000):toNat (IntKind.wrap .i64 (((16+t:Nat):Int) - d))=16+t - k:=by grind [wI]
structure Rnd (s w : Nat → Int) (R : Nat → Nat → Int) : Prop where
  z : ∀ i, R 0 i = s i
  s0 : ∀ t, R (t + 1) 0 = add32 (rX (R t) w t) (rY (R t))
  s1 : ∀ t, R (t + 1) 1 = R t 0
  s2 : ∀ t, R (t + 1) 2 = R t 1
  s3 : ∀ t, R (t + 1) 3 = R t 2
  s4 : ∀ t, R (t + 1) 4 = add32 (R t 3) (rX (R t) w t)
  s5 : ∀ t, R (t + 1) 5 = R t 4
  s6 : ∀ t, R (t + 1) 6 = R t 5
  s7 : ∀ t, R (t + 1) 7 = R t 6
theorem rnd (s w:Nat→Int):Rnd s w (roundF s w):=⟨fun _=>rfl,fun _=>rfl,fun _=>rfl,fun _=>rfl,fun _=>rfl,fun _=>rfl,fun _=>rfl,fun _=>rfl,fun _=>rfl⟩
def padLen (n:Nat):Nat:=((n+8) / 64+1)*64
def pad0 (n:Nat) (f:Nat→Int) (i:Nat):Int:=bif Nat.blt i n then f i else bif Nat.beq i n then 128 else 0
def padF (n:Nat) (f:Nat→Int) (i:Nat):Int:=bif Nat.blt i (padLen n - 8) then pad0 n f i else be8 (8*(n:Int)) (i - (padLen n - 8))
def stateF (p:Nat→Int):Nat→Nat→Int
 | 0=>stF
 | k+1=>mixF (stateF p k) (fun i=>p (64*k+i))
def outF (v:Nat→Int) (j:Nat):Int:=v (j / 4) / 2^(24 - 8*(j%4))%256
def shaF (n:Nat) (f:Nat→Int):Nat→Int:=outF (stateF (padF n f) (padLen n / 64))
theorem pad_len (n:Nat):padLen n%64=0∧n+9≤padLen n∧padLen n<n+73:=by grind [padLen]
theorem pad_end {n z:Nat} (h:n+1+z+8=padLen n):(n+1+z)%64=56:=by grind [pad_len]
theorem pad_more {n z:Nat} (h:n+1+z+8<padLen n):(n+1+z)%64≠56:=by grind [pad_len]
theorem pad_by {n:Nat} {f:Nat→Int} (hf:byB f n) (i:Nat):0≤padF n f i∧padF n f i<256:=by
 unfold padF
 by_cases h:i<padLen n - 8
 ·rw [blt_t h]
  show 0≤pad0 n f i∧pad0 n f i<256
  unfold pad0
  by_cases h1:i<n
  ·rw [blt_t h1];exact hf i h1
  grind [blt_f,Nat.beq_refl,Int,beq_f]
 grind [blt_f,be8]
theorem pad0_lo {n:Nat} {f:Nat→Int} {i:Nat} (h:i<n):pad0 n f i=f i:=by grind [pad0,blt_t]
theorem pad0_at (n:Nat) (f:Nat→Int):pad0 n f n=128:=by simp [pad0,blt_f,Nat.beq_refl]
theorem pad0_z {n:Nat} {f:Nat→Int} {i:Nat} (h:n<i):pad0 n f i=0:=by grind [pad0,blt_f,beq_f]
theorem pad_ob {os:List (Option Ob)} {n:Nat} {f:Nat→Int}:ObEnt os ⟨1,n+1,true,.fn fun i j=>.int .u8 (bif Nat.blt i n then f i else intOfAV (atL [.int .u8 128] j))⟩ ⟨1,n+1+0,true,.fn fun i _=>.int .u8 (pad0 n f i)⟩ :=
 ⟨rfl,rfl,rfl,fun i j hi hj=>Ent.of_eq (by
  obtain rfl:j=0:=Nat.lt_one_iff.1 hj
  have hi:i<n+1:=hi
  show AV.int .u8 (bif Nat.blt i n then f i else 128)=.int .u8 (pad0 n f i)
  by_cases e:i<n
  ·grind [blt_t,pad0_lo]
  ·obtain rfl:i=n:=by omega
   simp [blt_f,pad0_at])⟩
theorem pad_fin {n x:Nat} (hx:x≤padLen n - n - 9) (g:Int.tmod ((n+1+x:Nat):Int) 64=56):n+1+x+8=padLen n:=by grind [pad_len,padLen,pad_more,tmod_nn]
theorem pad_lt {n x:Nat} (hx:x≤padLen n - n - 9) (g:¬Int.tmod ((n+1+x:Nat):Int) 64=56):x+1≤padLen n - n - 9:=by grind [pad_len,padLen,pad_end,tmod_nn]
theorem pad_ob2 {os:List (Option Ob)} {n x:Nat} {f:Nat→Int} (hn:n≤1099511627776) (h:n+1+x+8=padLen n):ObEnt os ⟨1,n+1+x+8,true,.fn fun i _=>.int .u8 (bif Nat.blt i (n+1+x) then pad0 n f i else be8 (IntKind.wrap .u64 (8*IntKind.wrap .u64 (n:Int))) (i - (n+1+x)))⟩ ⟨1,padLen n,true,.fn fun i _=>.int .u8 (padF n f i)⟩ :=
 ObEnt.fnF h fun i _=>by grind [wu64,Int,padF]
theorem out_w {v:Nat→Int} {i k:Nat} (hk:k<4) (_:i<8):IntKind.wrap .u8 (Int.fdiv (v i) (2^min (toNat (IntKind.wrap .i64 (24 - IntKind.wrap .i64 (8*(k:Int))))) 32))=outF v (4*i+k):=by grind [wI,Int,min,toNat,wu8m,shr_eq,outF]
theorem w4k {i k:Nat} (h:i<16) (hk:k≤4):IntKind.wrap .i64 (IntKind.wrap .i64 (4*(i:Int))+(k:Int))=4*i+k:=by grind [wI,Int]
theorem zero_ob32 {os:List (Option Ob)} {G:Nat→Int} (h:∀ j,G j=0):ObEnt os ⟨32,1,true,.lst [(List.range 32).map fun _=>.int .u8 0]⟩ ⟨32,1,true,.fn fun _ j=>.int .u8 (G j)⟩:=ObEnt.rowR (by grind)
theorem pre_add {x c:Int} (h0:0≤x) (h1:x<16777216) (h2:0≤c) (h3:c<256):IntKind.wrap .u32 (IntKind.wrap .u32 (x*256)+IntKind.wrap .u32 c)=x*256+c:=by grind [wu32]
theorem st_ob {os:List (Option Ob)} {mu:Bool} {G:Nat→Int} (h:G=stF):ObEnt os ⟨1,8,mu,.lst (stL.map fun x=>[.int .u32 x])⟩ ⟨1,8,mu,.fn fun i _=>.int .u32 (G i)⟩:=by
 subst h
 refine lst_fn fun i j hi hj=>?_
 obtain rfl:j=0:=Nat.lt_one_iff.1 hj
 exact getD_rows (l:=stL) hi
theorem pad_eq {n x:Nat} {f:Nat→Int} (h:n+1+x+8=padLen n) (i:Nat):(bif Nat.blt (i+0) (n+1+x) then pad0 n f (i+0) else be8 (8*(n:Int)) (i+0 - (n+1+x)))=padF n f i:=by grind [padF]
theorem w64 {n k:Nat} (hn:n≤1099511627776) (h:k<padLen n / 64):IntKind.wrap .i64 (((64*k:Nat):Int)+64)=((64*(k+1):Nat):Int):=by grind [pad_len,wI]
theorem pre_congr {a b:Nat→Int} {i:Nat} (h:∀ k,k<4→a (4*i+k)=b (4*i+k)):∀ k,k≤4→preB a i k=preB b i k
 | 0,_=>rfl
 | k+1,hk=>by unfold preB;rw [pre_congr h k (by omega),h k (by omega)]
theorem word_congr {a b:Nat→Int} (h:∀ i,i<64→a i=b i) (j:Nat):wordF a j=wordF b j:=by
 induction j using Nat.strongRecOn with
 | _ j ih =>
  by_cases hj:j<16
  ·rw [word_lo hj,word_lo hj]
   exact pre_congr (fun k hk=>h _ (by omega)) 4 (Nat.le_refl _)
  grind [word_hi]
theorem rnd_ob {os:List (Option Ob)} {s w:Nat→Int} {R:Nat→Nat→Int} (h:Rnd s w R) {t:Nat} {a e:Int} (ha:a=R (t+1) 0) (he:e=R (t+1) 4) :
  ObEnt os ⟨1,8,true,.lst [[.int .u32 a],[.int .u32 (R t 0)],[.int .u32 (R t 1)],[.int .u32 (R t 2)],[.int .u32 e],[.int .u32 (R t 4)],[.int .u32 (R t 5)],[.int .u32 (R t 6)]]⟩ ⟨1,8,true,.fn fun i _=>.int .u32 (R (t+1) i)⟩ :=
 lst_fn fun i j hi hj=>by
  obtain rfl:j=0:=Nat.lt_one_iff.1 hj
  match i,hi with
  | 0,_=>exact congrArg _ ha
  | 1,_=>exact congrArg _ (h.s1 t).symm
  | 2,_=>exact congrArg _ (h.s2 t).symm
  | 3,_=>exact congrArg _ (h.s3 t).symm
  | 4,_=>exact congrArg _ he
  | 5,_=>exact congrArg _ (h.s5 t).symm
  | 6,_=>exact congrArg _ (h.s6 t).symm
  | 7,_=>exact congrArg _ (h.s7 t).symm
theorem q4 {i:Nat} (h:i<32):IntKind.wrap .i64 (Int.tdiv (i:Int) 4)=((i / 4:Nat):Int)∧IntKind.wrap .i64 (24 - IntKind.wrap .i64 (8*Int.tmod (i:Int) 4))=((24 - 8*(i%4):Nat):Int):=by grind [tdiv_nn,tmod_nn,wI,Int]
theorem out_v {v:Nat→Int} {i:Nat} (h:i<32):IntKind.wrap .u8 (Int.fdiv (v (toNat (IntKind.wrap .i64 (Int.tdiv (i:Int) 4))+0)) (2^min (toNat (IntKind.wrap .i64 (24 - IntKind.wrap .i64 (8*Int.tmod (i:Int) 4)))) 32))=outF v i:=by
 rw [(q4 h).1,(q4 h).2,Int.toNat_natCast,Int.toNat_natCast,Nat.min_eq_left (by omega),wu8m,shr_eq]
 rfl
end Go.Sp

namespace Go.Proofs.YtcageinnelhonaaGreatDoor
open Go.IntKind (wrap)
open Int (toNat)
open Go Go.Am Go.Sp
set_option maxRecDepth 100000
theorem rotl_c (x:Int) (n:Nat) (h0:0<n) (h:n<32):Pure Tryz.prog gl0 396 [.int .u32 x,.int .i64 (IntKind.wrap .i64 (0 - (n:Int)))] (.int .u32 (rotr x n)):=by
 have e:=mask5n h0 h
 refine pure_sk (own:=ow0) Tryz.func396 (by kernel_rfl) mixed (by kernel_rfl)
  (let z0:Int:=(↑(BitVec.toNat (BitVec.ofInt 64 (wrap .u64 (wrap .i64 ((0:Int) - (n:Int)))) &&& BitVec.ofInt 64 (31:Int))):Int);(.req ((0:Int)≤wrap .u64 z0) (.req ((0:Int)≤wrap .u64 ((32:Int) - wrap .u64 z0)) (.out (Zw (wrap .u32 (↑(BitVec.toNat (BitVec.ofInt 32 (wrap .u32 (x*2^min (toNat (wrap .u64 z0)) 32)) ||| BitVec.ofInt 32 (Int.fdiv x ((2:Int)^min (toNat (wrap .u64 ((32:Int) - wrap .u64 z0))) 32)))):Int))) [] (Zw (rotr x n)) []))))
  (by kernel_rfl) ?_
 refine k_req (by rw [e];omega) ?_
 refine k_req (by rw [e,wu64 (by omega) (by omega)];omega) ?_
 exact k_out (Ent.of_eq (congrArg _ (by rw [e,wu64 (n:=32 - ((32 - n:Nat):Int)) (by omega) (by omega),or_comm32,shr_eq];unfold rotr;rw [show min (toNat (32 - ((32 - n:Nat):Int))) 32=n by omega,show min (toNat ((32 - n:Nat):Int)) 32=32 - n by omega])))
theorem right_c (x:Int) (n:Nat) (h0:0<n) (h:n<32):Pure Tryz.prog gl0 389 [.int .u32 x,.int .i64 n] (.int .u32 (rotr x n)):=by
 exact pz Tryz.func389 (by
  apply n_sc (rotl_c (x) (n) (by assumption) (by assumption))
  exact n_outx (Zw (rotr x n)) (Ent.of_eq (by rfl)))
theorem rright_c (x:Int) (n:Nat) (h0:0<n) (h:n<32):Pure Tryz.prog gl0 334 [.int .u32 x,.int .i64 n] (.int .u32 (rotr x n)):=by
 have e:IntKind.wrap .i64 (32 - (n:Int))=((32 - n:Nat):Int):=by rw [wI (by omega) (by omega)];omega
 exact pz Tryz.func334 (by
  apply n_req (0≤(n:Int))
  apply n_req ((0:Int)≤wrap .i64 ((32:Int) - (n:Int))) (by rw [e];omega)
  exact n_outx (Zw (wrap .u32 (↑(BitVec.toNat (BitVec.ofInt 32 (Int.fdiv x ((2:Int)^min (toNat (n:Int)) 32)) ||| BitVec.ofInt 32 (wrap .u32 (x*2^min (toNat (wrap .i64 ((32:Int) - (n:Int)))) 32)))):Int))) (Ent.of_eq (congrArg _ (by rw [e,shr_eq];unfold rotr;rw [show min (toNat ((32 - n:Nat):Int)) 32=32 - n by omega,show min (toNat (n:Int)) 32=n by omega]))))
theorem count_c (n:Int) (_:0≤n) (_':n<18446744073709551616):Pure Tryz.prog gl0 374 [.int .u64 n] (bys 8 (be8 n)):=by
 exact pz Tryz.func374 (by
  apply n_req ((0:Int)≤8∧(8:Int)=(8:Int)∧(↑(1):Int)*8≤140737488355328∧(8:Int)≤9223372036854775807)
  apply n_loopx ({ x:Nat // x≤8 }) [0,3,7,8] ([8]) (fun x=>[Zu n,AV.osl 0 1 0 8,Zi (↑(8):Int),Zi (↑(x.1):Int)]) (fun x=>[some ⟨1,8,true,Rep.fn fun (q x_1:Nat)=>Zb (bif Nat.blt q (x.1) then be8 n q else (0:Int))⟩]) (fun x=>8 - x.1) (⟨0,Nat.zero_le 8⟩) ([Zu n,AV.osl 0 1 0 8,Zi (↑(8):Int),Zi 0]) ([some ⟨1,8,true,Rep.fn fun (i j:Nat)=>Zb (intOfAV (atL (zcells (Value.int IntKind.u8 (0:Int))) j))⟩]) (by repeat' (first|exact trivial|(first|exact Ent.refl _|exact inc_ent (by omega)|exact Ent.nil rfl|exact Ent.of_eq (congrArg (AV.osl _ _ _) (by first|omega|(dsimp only;omega)))|exact Ent.of_eq (congrArg (AV.int _) (by first|omega|(dsimp only;omega))))|refine And.intro ?_ ?_)) (⟨⟨rfl,rfl,rfl,fun i j hi hj=>Ent.of_eq (by obtain rfl:j=0:=Nat.lt_one_iff.1 hj;rfl)⟩,trivial⟩)
  intro x1
  try (have q1:=x1.2;dsimp only at q1)
  apply n_bd ((↑x1.1:Int)<(↑(8):Int))
  ·intro g2
   apply n_req ((0:Int)≤wrap .i64 ((56:Int) - wrap .i64 ((8:Int)*(↑x1.1:Int)))) (by rw [wI (n:=8*(x1.1:Int)) (by omega) (by omega),wI (by omega) (by omega)];omega)
   apply n_req ((0:Int)≤(↑x1.1:Int)∧(↑x1.1:Int)<(↑(8):Int))
   exact n_againx ([0]) (⟨x1.1+1,by omega⟩) ([Zu n,AV.osl 0 1 0 8,Zi (↑(8):Int),Zi (wrap .i64 ((↑x1.1:Int)+1))]) ([some ⟨1,8,true,Rep.fn fun (i j:Nat)=>Zb (bif Nat.beq i (toNat (↑x1.1:Int)+0)&&(Nat.ble 0 j&&Nat.blt j 1) then wrap .u8 (Int.fdiv n ((2:Int)^min (toNat (wrap .i64 ((56:Int) - wrap .i64 ((8:Int)*(↑x1.1:Int))))) 64)) else bif Nat.blt i x1.1 then be8 n i else (0:Int))⟩]) (by repeat' (first|exact trivial|(first|exact Ent.refl _|exact inc_ent (by omega)|exact Ent.nil rfl|exact Ent.of_eq (congrArg (AV.osl _ _ _) (by first|omega|(dsimp only;omega)))|exact Ent.of_eq (congrArg (AV.int _) (by first|omega|(dsimp only;omega))))|refine And.intro ?_ ?_)) (⟨ObEnt.fillF (be8_w (by omega)),trivial⟩) (by (dsimp only;omega))
  ·intro g2
   exact n_outx (AV.isl 1 8 fun (r k:Nat)=>Zb (bif Nat.blt (r+0) x1.1 then be8 n (r+0) else (0:Int))) (bys_eq rfl (fun i hi=>by rw [blt_t (by omega)];rfl)))
theorem rbytes_c (n:Int) (_:0≤n) (_':n<9223372036854775808):Pure Tryz.prog gl0 365 [.int .i64 n] (bys 8 (be8 n)):=by
 exact pz Tryz.func365 (by
  apply n_loopx ({ x:Nat // x≤8 }) [0,3,4] [280] (fun x=>[Zi n,.osl 0 1 0 (x.1),Zi ((7:Int) - (↑(x.1):Int))]) (fun x=>[some ⟨1,x.1,true,.fn fun q x=>Zb (be8 n q)⟩]) (fun x=>8 - x.1) (⟨0,Nat.zero_le 8⟩) [Zi n,.nsl,Zi 7] [some ⟨1,0,true,.ty (999999999:TypeId) (.lst [])⟩] (by repeat' (first|exact trivial|(first|exact Ent.refl _|exact inc_ent (by omega)|exact Ent.nil rfl|exact Ent.of_eq (congrArg (AV.osl _ _ _) (by first|omega|(dsimp only;omega)))|exact Ent.of_eq (congrArg (AV.int _) (by first|omega|(dsimp only;omega))))|refine And.intro ?_ ?_)) (by repeat' (first|exact trivial|(first|exact ObEnt.refl _|exact ObEnt.junk|exact ObEnt.zero|exact ObEnt.push rfl rfl|exact ObEnt.pushRow rfl|exact ObEnt.len (by omega)|exact ObEnt.row (by repeat' (first|exact trivial|(first|exact Ent.refl _|exact inc_ent (by omega)|exact Ent.nil rfl|exact Ent.of_eq (congrArg (AV.osl _ _ _) (by first|omega|(dsimp only;omega)))|exact Ent.of_eq (congrArg (AV.int _) (by first|omega|(dsimp only;omega))))|refine And.intro ?_ ?_)))|refine And.intro ?_ ?_))
  intro x0
  try (have q0:=x0.2;dsimp only at q0)
  apply n_bd ((7:Int) - (x0.1:Int)≥0)
  ·intro g1
   apply n_req ((0:Int)≤wrap .i64 ((8:Int)*((7:Int) - (x0.1:Int)))) (by rw [wI (by omega) (by omega)];omega)
   apply n_req ((x0.1+1)*1≤140737488355328)
   exact n_againx [73] (⟨x0.1+1,by omega⟩) [Zi n,.osl 0 1 0 (x0.1+1),Zi (wrap .i64 ((7:Int) - (x0.1:Int) - 1))] [some ⟨1,x0.1+1,true,.fn fun i j=>Zb (bif Nat.blt i x0.1 then be8 n i else intOfAV (atL [Zb (wrap .u8 (Int.fdiv n ((2:Int)^min (toNat (wrap .i64 ((8:Int)*((7:Int) - (x0.1:Int))))) 64)))] j))⟩] (⟨by exact Ent.refl _,by exact Ent.refl _,Ent.of_eq (congrArg _ (by rw [wI (by omega) (by omega)];dsimp only;omega)),trivial⟩) (⟨ObEnt.pushF rfl (be8_v (by omega)),trivial⟩) (by (dsimp only;omega))
  ·intro g1
   exact n_outx (.isl 1 x0.1 fun r k=>Zb (be8 n (r+0))) (bys_eq (by omega) (fun i hi=>rfl)))
theorem schedule_c (b:Nat→Int) (hb:byB b 64):Pure Tryz.prog gl0 388 [bys 64 b] (.agg ((List.range 64).map fun j=>.int .u32 (wordF b j))):=by
 refine pure_sk (own:=ow0) Tryz.func388 (by rfl) mixed (by rfl)
  (let y0:List AV:=[Zw 0,Zw 0,Zw 0,Zw 0,Zw 0,Zw 0,Zw 0,Zw 0,Zw 0,Zw 0,Zw 0,Zw 0,Zw 0,Zw 0,Zw 0,Zw 0,Zw 0,Zw 0,Zw 0,Zw 0,Zw 0,Zw 0,Zw 0,Zw 0,Zw 0,Zw 0,Zw 0,Zw 0,Zw 0,Zw 0,Zw 0,Zw 0,Zw 0,Zw 0,Zw 0,Zw 0,Zw 0,Zw 0,Zw 0,Zw 0,Zw 0,Zw 0,Zw 0,Zw 0,Zw 0,Zw 0,Zw 0,Zw 0,Zw 0,Zw 0,Zw 0,Zw 0,Zw 0,Zw 0,Zw 0,Zw 0,Zw 0,Zw 0,Zw 0,Zw 0,Zw 0,Zw 0,Zw 0,Zw 0];let y1:=(fun (x:{ x:Nat // x≤16 })=>mkSt [0,2,3,12] [.isl 1 64 fun i x=>Zb (b i),.own 0 64 0 0 64,.own 1 64 0 0 64,Zi x.1] [some ⟨64,1,true,.lst [y0]⟩,some ⟨64,1,true,.fn fun x_1 j=>Zw (bif Nat.blt j (x.1) then be4 b j else (0:Int))⟩]);let y2:=(fun (x:{ x:Nat // x≤48 })=>mkSt [2,3,7] [.own 0 64 0 0 64,.own 1 64 0 0 64,Zi (↑(16+x.1):Int)] [some ⟨64,1,true,.lst [y0]⟩,some ⟨64,1,true,.fn fun x_1 j=>Zw (bif Nat.blt j (16+x.1) then wordF b j else (0:Int))⟩]);let y3:=(fun (x:{ x:Nat // x≤16 })=>16 - x.1);let y4:=(fun (x:{ x:Nat // x≤48 })=>48 - x.1);let y5:=(fun (x:{ x:Nat // x≤4 })=>4 - x.1);(.loop ({ x:Nat // x≤16 }) y1 y3 (⟨0,Nat.zero_le 16⟩) [0,2,3,12] [0,8] [.isl 1 64 fun i x=>Zb (b i),.own 0 64 0 0 64,.own 1 64 0 0 64,Zi 0] [some ⟨64,1,true,.lst [y0]⟩,some ⟨64,1,true,.lst [y0]⟩] (fun x0=>let z1:Int:=(wrap .i64 ((4:Int)*(x0.1:Int))+4);(.br (decide ((x0.1:Int)<16)) (.req ((0:Int)≤wrap .i64 ((4:Int)*(x0.1:Int))∧wrap .i64 ((4:Int)*(x0.1:Int))≤wrap .i64 z1∧wrap .i64 z1≤64) (.loop ({ x:Nat // x≤4 }) (fun x=>mkSt [0,2,3,4,12,21,22,23] [.isl 1 64 fun i x=>Zb (b i),.own 0 64 0 0 64,.own 1 64 0 0 64,Zi x0.1,Zi x0.1,bys 4 fun q=>b (4*x0.1+q),Zi (↑(4:Nat):Int),Zi x.1] [some ⟨64,1,true,.lst [y0]⟩,some ⟨64,1,true,.fn fun x_1 j=>Zw (bif Nat.beq j (x0.1) then preB b (x0.1) (x.1) else bif Nat.blt j (x0.1) then be4 b j else (0:Int))⟩]) y5 (⟨0,Nat.zero_le 4⟩) [0,2,3,4,12,21,22,23] [0,1] [.isl 1 64 fun i x=>Zb (b i),.own 0 64 0 0 64,.own 1 64 0 0 64,Zi x0.1,Zi x0.1,.isl 1 (toNat (wrap .i64 z1) - toNat (wrap .i64 ((4:Int)*(x0.1:Int)))) fun i j=>Zb (b (i+toNat (wrap .i64 ((4:Int)*(x0.1:Int))))),Zi (↑(toNat (wrap .i64 z1) - toNat (wrap .i64 ((4:Int)*(x0.1:Int)))):Int),Zi 0] [some ⟨64,1,true,.lst [y0]⟩,some ⟨64,1,true,.fn fun i j=>Zw (bif Nat.blt j (x0.1) then be4 b j else (0:Int))⟩] (fun x3=>(.br (decide ((x3.1:Int)<4)) (.req (0≤(x3.1:Int)∧(x3.1:Int)<4) (.req (0≤(x0.1:Int)∧(x0.1:Int)<64) (.req (0≤(x0.1:Int)∧(x0.1:Int)<64) (.again (Again 0 (fun x=>mkSt [0,2,3,4,12,21,22,23] [.isl 1 64 fun i x=>Zb (b i),.own 0 64 0 0 64,.own 1 64 0 0 64,Zi x0.1,Zi x0.1,bys 4 fun q=>b (4*x0.1+q),Zi (↑(4:Nat):Int),Zi x.1] [some ⟨64,1,true,.lst [y0]⟩,some ⟨64,1,true,.fn fun x_1 j=>Zw (bif Nat.beq j (x0.1) then preB b (x0.1) (x.1) else bif Nat.blt j (x0.1) then be4 b j else (0:Int))⟩]) y5 x3) [0,2,3,4,12,21,22,23] [0,1] [.isl 1 64 fun i x=>Zb (b i),.own 0 64 0 0 64,.own 1 64 0 0 64,Zi x0.1,Zi x0.1,.isl 1 4 fun i x=>Zb (b (4*x0.1+i)),Zi 4,Zi (wrap .i64 ((x3.1:Int)+1))] [some ⟨64,1,true,.lst [y0]⟩,some ⟨64,1,true,.fn fun i j=>Zw (bif Nat.beq i 0&&Nat.beq j (0+toNat (x0.1:Int)) then wrap .u32 (↑(BitVec.toNat (BitVec.ofInt 32 (wrap .u32 ((bif Nat.beq (0+toNat (x0.1:Int)) x0.1 then preB b x0.1 x3.1 else bif Nat.blt (0+toNat (x0.1:Int)) x0.1 then be4 b (0+toNat (x0.1:Int)) else (0:Int))*2^8)) ||| BitVec.ofInt 32 (wrap .u32 (b (4*x0.1+toNat (x3.1:Int)))))):Int) else bif Nat.beq j x0.1 then preB b x0.1 x3.1 else bif Nat.blt j x0.1 then be4 b j else (0:Int))⟩])))) (.again (Again 0 y1 y3 x0) [0,2,3,12] [0,1] [.isl 1 64 fun i x=>Zb (b i),.own 0 64 0 0 64,.own 1 64 0 0 64,Zi (wrap .i64 ((x0.1:Int)+1))] [some ⟨64,1,true,.lst [y0]⟩,some ⟨64,1,true,.fn fun i j=>Zw (bif Nat.beq j x0.1 then preB b x0.1 x3.1 else bif Nat.blt j x0.1 then be4 b j else (0:Int))⟩]))))) (.loop ({ x:Nat // x≤48 }) y2 y4 (⟨0,Nat.zero_le 48⟩) [2,3,7] [0,1] [.own 0 64 0 0 64,.own 1 64 0 0 64,Zi 16] [some ⟨64,1,true,.lst [y0]⟩,some ⟨64,1,true,.fn fun i j=>Zw (bif Nat.blt j (x0.1) then be4 b j else (0:Int))⟩] (fun x10=>let z0:Int:=(↑(16+x10.1):Int);(.br (decide (z0<64)) (.req ((0:Int)≤wrap .i64 (z0 - 15)∧wrap .i64 (z0 - 15)<64) (.req ((0:Int)≤wrap .i64 (z0 - 2)∧wrap .i64 (z0 - 2)<64) (.sc true 389 [Zw (bif Nat.blt (0+toNat (wrap .i64 (z0 - 15))) (16+x10.1) then wordF b (0+toNat (wrap .i64 (z0 - 15))) else (0:Int)),Zi 7] (Zw (rotr (bif Nat.blt (0+toNat (wrap .i64 (z0 - 15))) (16+x10.1) then wordF b (0+toNat (wrap .i64 (z0 - 15))) else (0:Int)) 7)) (.sc true 389 [Zw (bif Nat.blt (0+toNat (wrap .i64 (z0 - 15))) (16+x10.1) then wordF b (0+toNat (wrap .i64 (z0 - 15))) else (0:Int)),Zi 18] (Zw (rotr (bif Nat.blt (0+toNat (wrap .i64 (z0 - 15))) (16+x10.1) then wordF b (0+toNat (wrap .i64 (z0 - 15))) else (0:Int)) 18)) (.sc true 389 [Zw (bif Nat.blt (0+toNat (wrap .i64 (z0 - 2))) (16+x10.1) then wordF b (0+toNat (wrap .i64 (z0 - 2))) else (0:Int)),Zi 17] (Zw (rotr (bif Nat.blt (0+toNat (wrap .i64 (z0 - 2))) (16+x10.1) then wordF b (0+toNat (wrap .i64 (z0 - 2))) else (0:Int)) 17)) (.sc true 389 [Zw (bif Nat.blt (0+toNat (wrap .i64 (z0 - 2))) (16+x10.1) then wordF b (0+toNat (wrap .i64 (z0 - 2))) else (0:Int)),Zi 19] (Zw (rotr (bif Nat.blt (0+toNat (wrap .i64 (z0 - 2))) (16+x10.1) then wordF b (0+toNat (wrap .i64 (z0 - 2))) else (0:Int)) 19)) (.req ((0:Int)≤wrap .i64 (z0 - 16)∧wrap .i64 (z0 - 16)<64) (.req ((0:Int)≤wrap .i64 (z0 - 7)∧wrap .i64 (z0 - 7)<64) (.req (0≤z0∧z0<64) (.again (Again 0 y2 y4 x10) [2,3,7] [0,1] [.own 0 64 0 0 64,.own 1 64 0 0 64,Zi (wrap .i64 (z0+1))] [some ⟨64,1,true,.lst [y0]⟩,some ⟨64,1,true,.fn fun i j=>Zw (bif Nat.beq i 0&&Nat.beq j (0+toNat z0) then wrap .u32 (wrap .u32 (wrap .u32 ((bif Nat.blt (0+toNat (wrap .i64 (z0 - 16))) (16+x10.1) then wordF b (0+toNat (wrap .i64 (z0 - 16))) else (0:Int))+wrap .u32 (↑(BitVec.toNat (BitVec.ofInt 32 (wrap .u32 (↑(BitVec.toNat (BitVec.ofInt 32 (rotr (bif Nat.blt (0+toNat (wrap .i64 (z0 - 15))) (16+x10.1) then wordF b (0+toNat (wrap .i64 (z0 - 15))) else (0:Int)) 7) ^^^ BitVec.ofInt 32 (rotr (bif Nat.blt (0+toNat (wrap .i64 (z0 - 15))) (16+x10.1) then wordF b (0+toNat (wrap .i64 (z0 - 15))) else (0:Int)) 18))):Int)) ^^^ BitVec.ofInt 32 (Int.fdiv (bif Nat.blt (0+toNat (wrap .i64 (z0 - 15))) (16+x10.1) then wordF b (0+toNat (wrap .i64 (z0 - 15))) else (0:Int)) ((2:Int)^3)))):Int))+bif Nat.blt (0+toNat (wrap .i64 (z0 - 7))) (16+x10.1) then wordF b (0+toNat (wrap .i64 (z0 - 7))) else (0:Int))+wrap .u32 (↑(BitVec.toNat (BitVec.ofInt 32 (wrap .u32 (↑(BitVec.toNat (BitVec.ofInt 32 (rotr (bif Nat.blt (0+toNat (wrap .i64 (z0 - 2))) (16+x10.1) then wordF b (0+toNat (wrap .i64 (z0 - 2))) else (0:Int)) 17) ^^^ BitVec.ofInt 32 (rotr (bif Nat.blt (0+toNat (wrap .i64 (z0 - 2))) (16+x10.1) then wordF b (0+toNat (wrap .i64 (z0 - 2))) else (0:Int)) 19))):Int)) ^^^ BitVec.ofInt 32 (Int.fdiv (bif Nat.blt (0+toNat (wrap .i64 (z0 - 2))) (16+x10.1) then wordF b (0+toNat (wrap .i64 (z0 - 2))) else (0:Int)) ((2:Int)^10)))):Int)) else bif Nat.blt j (16+x10.1) then wordF b j else (0:Int))⟩])))))))))) (.out (.agg [Zw (bif Nat.blt 0 (16+x10.1) then wordF b 0 else (0:Int)),Zw (bif Nat.blt 1 (16+x10.1) then wordF b 1 else (0:Int)),Zw (bif Nat.blt 2 (16+x10.1) then wordF b 2 else (0:Int)),Zw (bif Nat.blt 3 (16+x10.1) then wordF b 3 else (0:Int)),Zw (bif Nat.blt 4 (16+x10.1) then wordF b 4 else (0:Int)),Zw (bif Nat.blt 5 (16+x10.1) then wordF b 5 else (0:Int)),Zw (bif Nat.blt 6 (16+x10.1) then wordF b 6 else (0:Int)),Zw (bif Nat.blt 7 (16+x10.1) then wordF b 7 else (0:Int)),Zw (bif Nat.blt 8 (16+x10.1) then wordF b 8 else (0:Int)),Zw (bif Nat.blt 9 (16+x10.1) then wordF b 9 else (0:Int)),Zw (bif Nat.blt 10 (16+x10.1) then wordF b 10 else (0:Int)),Zw (bif Nat.blt 11 (16+x10.1) then wordF b 11 else (0:Int)),Zw (bif Nat.blt 12 (16+x10.1) then wordF b 12 else (0:Int)),Zw (bif Nat.blt 13 (16+x10.1) then wordF b 13 else (0:Int)),Zw (bif Nat.blt 14 (16+x10.1) then wordF b 14 else (0:Int)),Zw (bif Nat.blt 15 (16+x10.1) then wordF b 15 else (0:Int)),Zw (bif Nat.blt 16 (16+x10.1) then wordF b 16 else (0:Int)),Zw (bif Nat.blt 17 (16+x10.1) then wordF b 17 else (0:Int)),Zw (bif Nat.blt 18 (16+x10.1) then wordF b 18 else (0:Int)),Zw (bif Nat.blt 19 (16+x10.1) then wordF b 19 else (0:Int)),Zw (bif Nat.blt 20 (16+x10.1) then wordF b 20 else (0:Int)),Zw (bif Nat.blt 21 (16+x10.1) then wordF b 21 else (0:Int)),Zw (bif Nat.blt 22 (16+x10.1) then wordF b 22 else (0:Int)),Zw (bif Nat.blt 23 (16+x10.1) then wordF b 23 else (0:Int)),Zw (bif Nat.blt 24 (16+x10.1) then wordF b 24 else (0:Int)),Zw (bif Nat.blt 25 (16+x10.1) then wordF b 25 else (0:Int)),Zw (bif Nat.blt 26 (16+x10.1) then wordF b 26 else (0:Int)),Zw (bif Nat.blt 27 (16+x10.1) then wordF b 27 else (0:Int)),Zw (bif Nat.blt 28 (16+x10.1) then wordF b 28 else (0:Int)),Zw (bif Nat.blt 29 (16+x10.1) then wordF b 29 else (0:Int)),Zw (bif Nat.blt 30 (16+x10.1) then wordF b 30 else (0:Int)),Zw (bif Nat.blt 31 (16+x10.1) then wordF b 31 else (0:Int)),Zw (bif Nat.blt 32 (16+x10.1) then wordF b 32 else (0:Int)),Zw (bif Nat.blt 33 (16+x10.1) then wordF b 33 else (0:Int)),Zw (bif Nat.blt 34 (16+x10.1) then wordF b 34 else (0:Int)),Zw (bif Nat.blt 35 (16+x10.1) then wordF b 35 else (0:Int)),Zw (bif Nat.blt 36 (16+x10.1) then wordF b 36 else (0:Int)),Zw (bif Nat.blt 37 (16+x10.1) then wordF b 37 else (0:Int)),Zw (bif Nat.blt 38 (16+x10.1) then wordF b 38 else (0:Int)),Zw (bif Nat.blt 39 (16+x10.1) then wordF b 39 else (0:Int)),Zw (bif Nat.blt 40 (16+x10.1) then wordF b 40 else (0:Int)),Zw (bif Nat.blt 41 (16+x10.1) then wordF b 41 else (0:Int)),Zw (bif Nat.blt 42 (16+x10.1) then wordF b 42 else (0:Int)),Zw (bif Nat.blt 43 (16+x10.1) then wordF b 43 else (0:Int)),Zw (bif Nat.blt 44 (16+x10.1) then wordF b 44 else (0:Int)),Zw (bif Nat.blt 45 (16+x10.1) then wordF b 45 else (0:Int)),Zw (bif Nat.blt 46 (16+x10.1) then wordF b 46 else (0:Int)),Zw (bif Nat.blt 47 (16+x10.1) then wordF b 47 else (0:Int)),Zw (bif Nat.blt 48 (16+x10.1) then wordF b 48 else (0:Int)),Zw (bif Nat.blt 49 (16+x10.1) then wordF b 49 else (0:Int)),Zw (bif Nat.blt 50 (16+x10.1) then wordF b 50 else (0:Int)),Zw (bif Nat.blt 51 (16+x10.1) then wordF b 51 else (0:Int)),Zw (bif Nat.blt 52 (16+x10.1) then wordF b 52 else (0:Int)),Zw (bif Nat.blt 53 (16+x10.1) then wordF b 53 else (0:Int)),Zw (bif Nat.blt 54 (16+x10.1) then wordF b 54 else (0:Int)),Zw (bif Nat.blt 55 (16+x10.1) then wordF b 55 else (0:Int)),Zw (bif Nat.blt 56 (16+x10.1) then wordF b 56 else (0:Int)),Zw (bif Nat.blt 57 (16+x10.1) then wordF b 57 else (0:Int)),Zw (bif Nat.blt 58 (16+x10.1) then wordF b 58 else (0:Int)),Zw (bif Nat.blt 59 (16+x10.1) then wordF b 59 else (0:Int)),Zw (bif Nat.blt 60 (16+x10.1) then wordF b 60 else (0:Int)),Zw (bif Nat.blt 61 (16+x10.1) then wordF b 61 else (0:Int)),Zw (bif Nat.blt 62 (16+x10.1) then wordF b 62 else (0:Int)),Zw (bif Nat.blt 63 (16+x10.1) then wordF b 63 else (0:Int))]) [] (.agg (List.map (fun j=>Zw (wordF b j)) (List.range 64))) []))))))))
  (by kernel_rfl) ?_
 refine k_loop (fun _ hs=>hs.le (⟨.refl _,.refl _,.refl _,.refl _,trivial⟩) (⟨.refl _,zero_ob (fun j=>rfl),trivial⟩)) (fun x0=>?_)
 try (have q0:=x0.2;dsimp only at q0)
 refine k_br (fun h1=>?_) (fun h1=>?_)
 ·have g1:=cnd_dec_t h1
  refine k_req (by grind [w4]) ?_
  refine k_loop (fun _ hs=>hs.le (⟨.refl _,.refl _,.refl _,.refl _,.refl _,bys_eq (by grind [w4]) (fun i hi=>congrArg b (by grind [w4])),Ent.of_eq (congrArg _ (by grind [w4])),.refl _,trivial⟩) (⟨.refl _,ObEnt.fnR (fun j hj=>by (by_cases e:j=x0.1;(subst e;rw [Nat.beq_refl,blt_f (Nat.le_refl _)];rfl);grind [beq_f])),trivial⟩)) (fun x3=>?_)
  try (have q3:=x3.2;dsimp only at q3)
  refine k_br (fun h4=>?_) (fun h4=>?_)
  ·have g4:=cnd_dec_t h4
   refine k_req (by omega) ?_
   refine k_req (by omega) ?_
   refine k_req (by omega) ?_
   exact k_again (⟨x3.1+1,by omega⟩) (fun _ hs=>hs.le (⟨.refl _,.refl _,.refl _,.refl _,.refl _,.refl _,.refl _,inc_ent (by omega),trivial⟩) (⟨.refl _,ObEnt.setR (P:=fun i j=>Nat.beq i 0&&Nat.beq j (0+toNat ((x0.1:Nat):Int))) (c0:=x0.1) (G:=fun j=>bif Nat.beq j x0.1 then preB b x0.1 (x3.1+1) else bif Nat.blt j x0.1 then be4 b j else 0) (fun j _=>by simp) (by simp only [Nat.zero_add,Int.toNat_natCast,Nat.beq_refl,cond_true];have p:=pre_b24 (k:=x3.1) hb (show x0.1<16 by omega) (by omega);have q:=hb (4*x0.1+x3.1) (by omega);exact pre_step p.1 p.2 q.1 q.2) (fun j _ he=>by grind [beq_f]),trivial⟩)) (by grind)
  ·have g4:=cnd_dec_f h4
   exact k_again (⟨x0.1+1,by omega⟩) (fun _ hs=>hs.le (⟨.refl _,.refl _,.refl _,inc_ent (by omega),trivial⟩) (⟨.refl _,ObEnt.fnR (fun j hj=>by
                                                                                                     have e4:x3.1=4:=by omega
                                                                                                     rw [e4]
                                                                                                     show (bif Nat.beq j x0.1 then preB b x0.1 4 else bif Nat.blt j x0.1 then be4 b j else 0)=bif Nat.blt j (x0.1+1) then be4 b j else 0
                                                                                                     by_cases e:j=x0.1
                                                                                                     · subst e;rw [Nat.beq_refl,blt_t (Nat.lt_succ_self _)];rfl
                                                                                                     simp_all [beq_f,fill_step]),trivial⟩)) (by grind)
 ·have g1:=cnd_dec_f h1
  refine k_loop (fun _ hs=>hs.le (⟨.refl _,.refl _,.refl _,trivial⟩) (⟨.refl _,ObEnt.fnR (fun j hj=>by grind [Nat.blt,be4,wordF,word_lo,blt_f]),trivial⟩)) (fun x10=>?_)
  refine k_br (fun h11=>?_) (fun h11=>?_)
  ·have g11:=cnd_dec_t h11
   refine k_req (by grind [wI]) ?_
   refine k_req (by grind [wI]) ?_
   refine k_sc ((fun (x:Int)=>right_c x (7:Nat)) (bif Nat.blt (0+toNat (wrap .i64 ((↑(16+x10.1):Int) - (15:Int)))) (16+x10.1) then wordF b (0+toNat (wrap .i64 ((↑(16+x10.1):Int) - (15:Int)))) else (0:Int)) (by omega) (by omega)) ?_
   refine k_sc ((fun (x:Int)=>right_c x (18:Nat)) (bif Nat.blt (0+toNat (wrap .i64 ((↑(16+x10.1):Int) - (15:Int)))) (16+x10.1) then wordF b (0+toNat (wrap .i64 ((↑(16+x10.1):Int) - (15:Int)))) else (0:Int)) (by omega) (by omega)) ?_
   refine k_sc ((fun (x:Int)=>right_c x (17:Nat)) (bif Nat.blt (0+toNat (wrap .i64 ((↑(16+x10.1):Int) - (2:Int)))) (16+x10.1) then wordF b (0+toNat (wrap .i64 ((↑(16+x10.1):Int) - (2:Int)))) else (0:Int)) (by omega) (by omega)) ?_
   refine k_sc ((fun (x:Int)=>right_c x (19:Nat)) (bif Nat.blt (0+toNat (wrap .i64 ((↑(16+x10.1):Int) - (2:Int)))) (16+x10.1) then wordF b (0+toNat (wrap .i64 ((↑(16+x10.1):Int) - (2:Int)))) else (0:Int)) (by omega) (by omega)) ?_
   refine k_req (by grind [wI]) ?_
   refine k_req (by grind [wI]) ?_
   refine k_req (by omega) ?_
   exact k_again (⟨x10.1+1,by omega⟩) (fun _ hs=>hs.le (⟨.refl _,.refl _,inc_ent (i:=16+x10.1) (by omega),trivial⟩) (⟨.refl _,ObEnt.setR (P:=fun i j=>Nat.beq i 0&&Nat.beq j (0+toNat ((16+x10.1:Nat):Int))) (c0:=16+x10.1) (G:=fun j=>bif Nat.blt j (16+x10.1+1) then wordF b j else 0) (fun j _=>by show (true&&Nat.beq j (0+(16+x10.1)))=_;simp) (by
                                                                                                     simp only [back_w (t:=x10.1) (d:=15) (k:=15) rfl (by omega) (by omega),back_w (t:=x10.1) (d:=2) (k:=2) rfl (by omega) (by omega),back_w (t:=x10.1) (d:=7) (k:=7) rfl (by omega) (by omega),back_w (t:=x10.1) (d:=16) (k:=16) rfl (by omega) (by omega),Nat.zero_add,shr_eq]
                                                                                                     simp only [blt_t (show 16+x10.1 - 15<16+x10.1 by omega),blt_t (show 16+x10.1 - 2<16+x10.1 by omega),blt_t (show 16+x10.1 - 7<16+x10.1 by omega),blt_t (show 16+x10.1 - 16<16+x10.1 by omega),blt_t (show 16+x10.1<16+x10.1+1 by omega),cond_true]
                                                                                                     exact (word_hi (j:=16+x10.1) (by omega)).symm) (fun j _ he=>fill_step he),trivial⟩)) (by grind)
  ·have g11:=cnd_dec_f h11
   exact k_out (Ent.of_eq (by
                                                                                                     show AV.agg ((List.range 64).map fun j=>.int .u32 (bif Nat.blt j (16+x10.1) then wordF b j else 0))=_
                                                                                                     exact congrArg AV.agg (List.map_congr_left fun j hj=>by grind [blt_t])))
theorem mix_r (s b w:Nat→Int) (R:Nat→Nat→Int) (hsch:Pure Tryz.prog gl0 388 [bys 64 b] (.agg ((List.range 64).map fun j=>.int .u32 (w j)))) (hR:Rnd s w R):Pure Tryz.prog gl0 375 [.agg ((List.range 8).map fun j=>.int .u32 (s j)),bys 64 b] (.agg ((List.range 8).map fun j=>.int .u32 (add32 (s j) (R 64 j)))):=by
 exact pz Tryz.func375 (by
  apply n_sc (hsch)
  apply n_req ((0:Int)≤0∧(0:Int)<(↑(8):Int))
  apply n_req ((0:Int)≤1∧(1:Int)<(↑(8):Int))
  apply n_req ((0:Int)≤2∧(2:Int)<(↑(8):Int))
  apply n_req ((0:Int)≤3∧(3:Int)<(↑(8):Int))
  apply n_req ((0:Int)≤4∧(4:Int)<(↑(8):Int))
  apply n_req ((0:Int)≤5∧(5:Int)<(↑(8):Int))
  apply n_req ((0:Int)≤6∧(6:Int)<(↑(8):Int))
  apply n_req ((0:Int)≤7∧(7:Int)<(↑(8):Int))
  apply n_loopx ({ x:Nat // x≤64 }) [2,4,5,6,7,8,9,10,11,12,13,37] ([0,8,32]) (fun x=>[AV.own 0 8 0 0 8,AV.own 1 8 0 0 8,AV.own 2 64 0 0 64,Zw (R (x.1) 0),Zw (R (x.1) 1),Zw (R (x.1) 2),Zw (R (x.1) 3),Zw (R (x.1) 4),Zw (R (x.1) 5),Zw (R (x.1) 6),Zw (R (x.1) 7),Zi (↑(x.1):Int)]) (fun x=>[some ⟨8,1,true,Rep.lst [[Zw (s 0),Zw (s 1),Zw (s 2),Zw (s 3),Zw (s 4),Zw (s 5),Zw (s 6),Zw (s 7)]]⟩,some ⟨8,1,true,Rep.lst [[Zw 0,Zw 0,Zw 0,Zw 0,Zw 0,Zw 0,Zw 0,Zw 0]]⟩,some ⟨64,1,true,Rep.fn fun (x j:Nat)=>Zw (w j)⟩]) (fun x=>64 - x.1) (⟨0,Nat.zero_le 64⟩) ([AV.own 0 8 0 0 8,AV.own 1 8 0 0 8,AV.own 2 64 0 0 64,Zw (s 0),Zw (s 1),Zw (s 2),Zw (s 3),Zw (s 4),Zw (s 5),Zw (s 6),Zw (s 7),Zi 0]) ([some ⟨8,1,true,Rep.lst [[Zw (s 0),Zw (s 1),Zw (s 2),Zw (s 3),Zw (s 4),Zw (s 5),Zw (s 6),Zw (s 7)]]⟩,some ⟨8,1,true,Rep.lst [[Zw 0,Zw 0,Zw 0,Zw 0,Zw 0,Zw 0,Zw 0,Zw 0]]⟩,some ⟨64,1,true,Rep.lst [[Zw (w 0),Zw (w 1),Zw (w 2),Zw (w 3),Zw (w 4),Zw (w 5),Zw (w 6),Zw (w 7),Zw (w 8),Zw (w 9),Zw (w 10),Zw (w 11),Zw (w 12),Zw (w 13),Zw (w 14),Zw (w 15),Zw (w 16),Zw (w 17),Zw (w 18),Zw (w 19),Zw (w 20),Zw (w 21),Zw (w 22),Zw (w 23),Zw (w 24),Zw (w 25),Zw (w 26),Zw (w 27),Zw (w 28),Zw (w 29),Zw (w 30),Zw (w 31),Zw (w 32),Zw (w 33),Zw (w 34),Zw (w 35),Zw (w 36),Zw (w 37),Zw (w 38),Zw (w 39),Zw (w 40),Zw (w 41),Zw (w 42),Zw (w 43),Zw (w 44),Zw (w 45),Zw (w 46),Zw (w 47),Zw (w 48),Zw (w 49),Zw (w 50),Zw (w 51),Zw (w 52),Zw (w 53),Zw (w 54),Zw (w 55),Zw (w 56),Zw (w 57),Zw (w 58),Zw (w 59),Zw (w 60),Zw (w 61),Zw (w 62),Zw (w 63)]]⟩]) (⟨.refl _,.refl _,.refl _,Ent.of_eq (congrArg _ (hR.z 0).symm),Ent.of_eq (congrArg _ (hR.z 1).symm),Ent.of_eq (congrArg _ (hR.z 2).symm),Ent.of_eq (congrArg _ (hR.z 3).symm),Ent.of_eq (congrArg _ (hR.z 4).symm),Ent.of_eq (congrArg _ (hR.z 5).symm),Ent.of_eq (congrArg _ (hR.z 6).symm),Ent.of_eq (congrArg _ (hR.z 7).symm),.refl _,trivial⟩) (⟨.refl _,.refl _,ObEnt.rowR rfl,trivial⟩)
  intro x9
  try (have q9:=x9.2;dsimp only at q9)
  apply n_bd ((↑x9.1:Int)<64)
  ·intro g10
   apply n_sc ((fun (x:Int)=>right_c x (6:Nat)) (R x9.1 (4)) (by omega) (by omega))
   apply n_sc ((fun (x:Int)=>right_c x (11:Nat)) (R x9.1 (4)) (by omega) (by omega))
   apply n_sc ((fun (x:Int)=>right_c x (25:Nat)) (R x9.1 (4)) (by omega) (by omega))
   apply n_req ((0:Int)≤(↑x9.1:Int)∧(↑x9.1:Int)<(↑(64):Int))
   apply n_req ((0:Int)≤(↑x9.1:Int)∧(↑x9.1:Int)<(↑(64):Int))
   apply n_sc ((fun (x:Int)=>right_c x (2:Nat)) (R x9.1 (0)) (by omega) (by omega))
   apply n_sc ((fun (x:Int)=>right_c x (13:Nat)) (R x9.1 (0)) (by omega) (by omega))
   apply n_sc ((fun (x:Int)=>right_c x (22:Nat)) (R x9.1 (0)) (by omega) (by omega))
   exact n_againx ([0,1,2]) (⟨x9.1+1,by omega⟩) ([AV.own 0 8 0 0 8,AV.own 1 8 0 0 8,AV.own 2 64 0 0 64,Zw (wrap .u32 (wrap .u32 (wrap .u32 (wrap .u32 (wrap .u32 (R x9.1 7+wrap .u32 (↑(BitVec.toNat (BitVec.ofInt 32 (wrap .u32 (↑(BitVec.toNat (BitVec.ofInt 32 (rotr (R x9.1 4) 6) ^^^ BitVec.ofInt 32 (rotr (R x9.1 4) 11))):Int)) ^^^ BitVec.ofInt 32 (rotr (R x9.1 4) 25))):Int))+wrap .u32 (↑(BitVec.toNat (BitVec.ofInt 32 (wrap .u32 (↑(BitVec.toNat (BitVec.ofInt 32 (R x9.1 4) &&& BitVec.ofInt 32 (R x9.1 5))):Int)) ^^^ BitVec.ofInt 32 (wrap .u32 (↑(BitVec.toNat (BitVec.ofInt 32 (wrap .u32 (↑(BitVec.toNat (BitVec.ofInt 32 (if false=true then (-1:Int) else IntKind.max IntKind.u32) ^^^ BitVec.ofInt 32 (R x9.1 4))):Int)) &&& BitVec.ofInt 32 (R x9.1 6))):Int)))):Int))+kF (toNat (↑x9.1:Int)))+w (0+toNat (↑x9.1:Int)))+wrap .u32 (wrap .u32 (↑(BitVec.toNat (BitVec.ofInt 32 (wrap .u32 (↑(BitVec.toNat (BitVec.ofInt 32 (rotr (R x9.1 0) 2) ^^^ BitVec.ofInt 32 (rotr (R x9.1 0) 13))):Int)) ^^^ BitVec.ofInt 32 (rotr (R x9.1 0) 22))):Int)+wrap .u32 (↑(BitVec.toNat (BitVec.ofInt 32 (wrap .u32 (↑(BitVec.toNat (BitVec.ofInt 32 (wrap .u32 (↑(BitVec.toNat (BitVec.ofInt 32 (R x9.1 0) &&& BitVec.ofInt 32 (R x9.1 1))):Int)) ^^^ BitVec.ofInt 32 (wrap .u32 (↑(BitVec.toNat (BitVec.ofInt 32 (R x9.1 0) &&& BitVec.ofInt 32 (R x9.1 2))):Int)))):Int)) ^^^ BitVec.ofInt 32 (wrap .u32 (↑(BitVec.toNat (BitVec.ofInt 32 (R x9.1 1) &&& BitVec.ofInt 32 (R x9.1 2))):Int)))):Int)))),Zw (R x9.1 0),Zw (R x9.1 1),Zw (R x9.1 2),Zw (wrap .u32 (R x9.1 3+wrap .u32 (wrap .u32 (wrap .u32 (wrap .u32 (R x9.1 7+wrap .u32 (↑(BitVec.toNat (BitVec.ofInt 32 (wrap .u32 (↑(BitVec.toNat (BitVec.ofInt 32 (rotr (R x9.1 4) 6) ^^^ BitVec.ofInt 32 (rotr (R x9.1 4) 11))):Int)) ^^^ BitVec.ofInt 32 (rotr (R x9.1 4) 25))):Int))+wrap .u32 (↑(BitVec.toNat (BitVec.ofInt 32 (wrap .u32 (↑(BitVec.toNat (BitVec.ofInt 32 (R x9.1 4) &&& BitVec.ofInt 32 (R x9.1 5))):Int)) ^^^ BitVec.ofInt 32 (wrap .u32 (↑(BitVec.toNat (BitVec.ofInt 32 (wrap .u32 (↑(BitVec.toNat (BitVec.ofInt 32 (if false=true then (-1:Int) else IntKind.max IntKind.u32) ^^^ BitVec.ofInt 32 (R x9.1 4))):Int)) &&& BitVec.ofInt 32 (R x9.1 6))):Int)))):Int))+kF (toNat (↑x9.1:Int)))+w (0+toNat (↑x9.1:Int))))),Zw (R x9.1 4),Zw (R x9.1 5),Zw (R x9.1 6),Zi (wrap .i64 ((↑x9.1:Int)+1))]) ([some ⟨8,1,true,Rep.lst [[Zw (s 0),Zw (s 1),Zw (s 2),Zw (s 3),Zw (s 4),Zw (s 5),Zw (s 6),Zw (s 7)]]⟩,some ⟨8,1,true,Rep.lst [[Zw 0,Zw 0,Zw 0,Zw 0,Zw 0,Zw 0,Zw 0,Zw 0]]⟩,some ⟨64,1,true,Rep.fn fun (i j:Nat)=>Zw (w j)⟩]) (⟨.refl _,.refl _,.refl _,Ent.of_eq (congrArg _ (by rw [hR.s0];simp only [Nat.zero_add,Int.toNat_natCast];rfl)),Ent.of_eq (congrArg _ (hR.s1 _).symm),Ent.of_eq (congrArg _ (hR.s2 _).symm),Ent.of_eq (congrArg _ (hR.s3 _).symm),Ent.of_eq (congrArg _ (by rw [hR.s4];simp only [Nat.zero_add,Int.toNat_natCast];rfl)),Ent.of_eq (congrArg _ (hR.s5 _).symm),Ent.of_eq (congrArg _ (hR.s6 _).symm),Ent.of_eq (congrArg _ (hR.s7 _).symm),inc_ent (by omega),trivial⟩) (⟨.refl _,.refl _,.refl _,trivial⟩)
  ·intro g10
   apply n_loopx ({ x:Nat // x≤8 }) [2,4,108,109] ([0,1]) (fun x=>[AV.own 0 8 0 0 8,AV.own 1 8 0 0 8,AV.agg (List.map (fun (j:Nat)=>Zw (R 64 j)) (List.range 8)),Zi (↑(x.1):Int)]) (fun x=>[some ⟨8,1,true,Rep.fn fun (x_1 j:Nat)=>Zw (bif Nat.blt j (x.1) then add32 (s j) (R 64 j) else s j)⟩,some ⟨8,1,true,Rep.lst [[Zw 0,Zw 0,Zw 0,Zw 0,Zw 0,Zw 0,Zw 0,Zw 0]]⟩]) (fun x=>8 - x.1) (⟨0,Nat.zero_le 8⟩) ([AV.own 0 8 0 0 8,AV.own 1 8 0 0 8,AV.agg [Zw (R x9.1 0),Zw (R x9.1 1),Zw (R x9.1 2),Zw (R x9.1 3),Zw (R x9.1 4),Zw (R x9.1 5),Zw (R x9.1 6),Zw (R x9.1 7)],Zi 0]) ([some ⟨8,1,true,Rep.lst [[Zw (s 0),Zw (s 1),Zw (s 2),Zw (s 3),Zw (s 4),Zw (s 5),Zw (s 6),Zw (s 7)]]⟩,some ⟨8,1,true,Rep.lst [[Zw 0,Zw 0,Zw 0,Zw 0,Zw 0,Zw 0,Zw 0,Zw 0]]⟩]) (⟨.refl _,.refl _,Ent.of_eq (by
                                                                                                      have e:x9.1=64:=by omega
                                                                                                      rw [e]
                                                                                                      rfl),.refl _,trivial⟩) (⟨ObEnt.rowR rfl,.refl _,trivial⟩)
   intro x20
   apply n_bd ((↑x20.1:Int)<8)
   ·intro g21
    apply n_req ((0:Int)≤(↑x20.1:Int)∧(↑x20.1:Int)<(↑(8):Int))
    apply n_req ((0:Int)≤(↑x20.1:Int)∧(↑x20.1:Int)<(↑(8):Int))
    apply n_req ((0:Int)≤(↑x20.1:Int)∧(↑x20.1:Int)<(↑(8):Int))
    exact n_againx ([0,1]) (⟨x20.1+1,by omega⟩) ([AV.own 0 8 0 0 8,AV.own 1 8 0 0 8,AV.agg [Zw (R 64 0),Zw (R 64 1),Zw (R 64 2),Zw (R 64 3),Zw (R 64 4),Zw (R 64 5),Zw (R 64 6),Zw (R 64 7)],Zi (wrap .i64 ((↑x20.1:Int)+1))]) ([some ⟨8,1,true,Rep.fn fun (i j:Nat)=>Zw (bif Nat.beq i 0&&Nat.beq j (0+toNat (↑x20.1:Int)) then wrap .u32 ((bif Nat.blt (0+toNat (↑x20.1:Int)) x20.1 then add32 (s (0+toNat (↑x20.1:Int))) (R 64 (0+toNat (↑x20.1:Int))) else s (0+toNat (↑x20.1:Int)))+intOfAV (atL [Zw (R 64 0),Zw (R 64 1),Zw (R 64 2),Zw (R 64 3),Zw (R 64 4),Zw (R 64 5),Zw (R 64 6),Zw (R 64 7)] (toNat (↑x20.1:Int)))) else bif Nat.blt j x20.1 then add32 (s j) (R 64 j) else s j)⟩,some ⟨8,1,true,Rep.lst [[Zw 0,Zw 0,Zw 0,Zw 0,Zw 0,Zw 0,Zw 0,Zw 0]]⟩]) (⟨.refl _,.refl _,.refl _,inc_ent (by omega),trivial⟩) (⟨ObEnt.setR (P:=fun i j=>Nat.beq i 0&&Nat.beq j (0+toNat ((x20.1:Nat):Int))) (c0:=x20.1) (G:=fun j=>bif Nat.blt j (x20.1+1) then add32 (s j) (R 64 j) else s j) (fun j _=>by simp) (by
                                                                                                      simp only [Nat.zero_add,Int.toNat_natCast,blt_f (Nat.le_refl x20.1),blt_t (Nat.lt_succ_self x20.1),cond_true,cond_false]
                                                                                                      exact congrArg (fun z=>IntKind.wrap .u32 (s x20.1+z)) (congrArg intOfAV (atL_map_range (es:=8) (g:=fun j=>AV.int .u32 (R 64 j)) (by omega)))) (fun j _ he=>fill_step2 (F:=fun j=>add32 (s j) (R 64 j)) (z:=s) he),.refl _,trivial⟩)
   ·intro g21
    exact n_outx (AV.agg [Zw (bif Nat.blt 0 x20.1 then add32 (s 0) (R 64 0) else s 0),Zw (bif Nat.blt 1 x20.1 then add32 (s 1) (R 64 1) else s 1),Zw (bif Nat.blt 2 x20.1 then add32 (s 2) (R 64 2) else s 2),Zw (bif Nat.blt 3 x20.1 then add32 (s 3) (R 64 3) else s 3),Zw (bif Nat.blt 4 x20.1 then add32 (s 4) (R 64 4) else s 4),Zw (bif Nat.blt 5 x20.1 then add32 (s 5) (R 64 5) else s 5),Zw (bif Nat.blt 6 x20.1 then add32 (s 6) (R 64 6) else s 6),Zw (bif Nat.blt 7 x20.1 then add32 (s 7) (R 64 7) else s 7)]) (Ent.of_eq (by
                                                                                                      show AV.agg ((List.range 8).map fun j=>.int .u32 (bif Nat.blt j x20.1 then add32 (s j) (R 64 j) else s j))=_
                                                                                                      exact congrArg AV.agg (List.map_congr_left fun j hj=>by grind [blt_t]))))
theorem mix_c (s b:Nat→Int) (hb:byB b 64):Pure Tryz.prog gl0 375 [.agg ((List.range 8).map fun j=>.int .u32 (s j)),bys 64 b] (.agg ((List.range 8).map fun j=>.int .u32 (mixF s b j))) :=
 mix_r s b (wordF b) (roundF s (wordF b)) (schedule_c b hb) (rnd s (wordF b))
def ow1:FuncId→Option (List Bool):=fun f=>bif Nat.beq f 352 then some [false] else none
theorem cloneB2_n:Gives Tryz.prog gl0 352 [] [.nsl] .nsl []:=by
 exact gz ow0 Tryz.func352 (by
  refine n_old (.tt (.out (.nsl) [] (.nsl) [])) ?_
  simp [k_tt,k_out,Ent.refl])
theorem cloneB2_s (f:Nat→Int) (n:Nat) (hn:n≤1099511627776):Gives Tryz.prog gl0 352 [] [.nn (bys n f)] (.osl 0 1 0 n) [some ⟨1,n,true,.fn fun i _=>.int .u8 (f i)⟩]:=by
 exact gz ow0 Tryz.func352 (by
  apply n_ff
  apply n_req ((0+n)*1≤140737488355328)
  exact n_outG (.osl 0 1 0 (0+n)) [some ⟨1,0+n,true,.fn fun i j=>Zb (f i)⟩] (Ent.of_eq (by simp)) (⟨⟨rfl,by simp,rfl,fun i j _ _=>Ent.of_eq (by simp)⟩,trivial⟩))
theorem cloneB2_c (f:Nat→Int) (n:Nat) (hn:n≤1099511627776):Gives Tryz.prog gl0 352 [] [bys n f] (.osl 0 1 0 n) [some ⟨1,n,true,.fn fun i _=>.int .u8 (f i)⟩] :=
 Gives.nilSplit [] [] 1 n _ (fun h=>by subst h;exact cloneB2_n.nil 1 _) (cloneB2_s f n hn)
theorem sum_r (f:Nat→Int) (n:Nat) (hn:n≤1099511627776) (p:Nat→Int) (ST:Nat→Nat→Int) (hp:p=padF n f) (h0:ST 0=stF)
  (hmix:∀ (k:Nat) (q:Nat→Int),(∀ i,i<64→q i=p (64*k+i))→Pure Tryz.prog gl0 375 [.agg ((List.range 8).map fun j=>.int .u32 (ST k j)),bys 64 q] (.agg ((List.range 8).map fun j=>.int .u32 (ST (k+1) j)))) :
  Pure Tryz.prog gl0 351 [bys n f] (.agg (u8c (outF (ST (padLen n / 64))))):=by
 have pl:=pad_len n
 exact pzo ow1 Tryz.func351 (by
  apply n_gc (cloneB2_c (f) (n) (by omega))
  apply n_req ((n+1)*1≤140737488355328)
  apply n_loopx ({ x:Nat // x≤padLen n - n - 9 }) [0,2,3] [0,32] (fun x=>[.isl 1 n fun i x=>Zb (f i),.own 0 32 0 0 32,.osl 1 1 0 (n+1+x.1)]) (fun x=>[some ⟨32,1,true,.lst [z32]⟩,some ⟨1,n+1+x.1,true,.fn fun i x=>Zb (pad0 n f i)⟩]) (fun x=>padLen n - n - 9 - x.1) (⟨0,Nat.zero_le (padLen n - n - 9)⟩) [.isl 1 n fun i x=>Zb (f i),.own 0 32 0 0 32,.osl 1 1 0 (n+1)] [some ⟨32,1,true,.lst [z32]⟩,some ⟨1,n+1,true,.fn fun i j=>Zb (bif Nat.blt i n then f i else intOfAV (atL [Zb 128] j))⟩] (⟨.refl _,.refl _,.refl _,trivial⟩) (⟨.refl _,pad_ob,trivial⟩)
  intro x2
  try (have q2:=x2.2;dsimp only at q2)
  apply n_br (Int.tmod (↑(n+1+x2.1):Int) (64:Int) != 56)
  ·intro g3
   apply n_req ((n+1+x2.1+1)*1≤140737488355328)
   exact n_againx [0,50] (⟨x2.1+1,pad_lt x2.2 g3⟩) [.isl 1 n fun i x=>Zb (f i),.own 0 32 0 0 32,.osl 1 1 0 (n+1+x2.1+1)] [some ⟨32,1,true,.lst [z32]⟩,some ⟨1,n+1+x2.1+1,true,.fn fun i j=>Zb (bif Nat.blt i (n+1+x2.1) then pad0 n f i else intOfAV (atL [Zb 0] j))⟩] (⟨.refl _,.refl _,.refl _,trivial⟩) (⟨.refl _,ObEnt.pushF (F:=pad0 n f) rfl (pad0_z (by omega)).symm,trivial⟩)
  ·intro g3
   apply n_dc (count_c (wrap .u64 ((8:Int)*wrap .u64 (↑n:Int))) (by grind [wu64,Int]) (by grind [wu64,Int]))
   apply n_req ((n+1+x2.1+8)*1≤140737488355328)
   apply n_loopx ({ x:Nat // x≤padLen n / 64 }) [2,4,3] [0,106,82] (fun x=>[.own 0 32 0 0 32,.own 1 8 0 0 8,.osl 2 1 (64*x.1) (padLen n - 64*x.1)]) (fun x=>[some ⟨32,1,true,.lst [z32]⟩,some ⟨8,1,true,.lst [List.map (fun j=>Zw (ST (x.1) j)) (List.range 8)]⟩,some ⟨1,padLen n,true,.fn fun i x=>Zb (p i)⟩]) (fun x=>padLen n / 64 - x.1) (⟨0,Nat.zero_le (padLen n / 64)⟩) [.own 0 32 0 0 32,.own 1 8 0 0 8,.osl 2 1 0 (n+1+x2.1+8)] [some ⟨32,1,true,.lst [z32]⟩,some ⟨8,1,true,.lst [[Zw (stF 0),Zw (stF 1),Zw (stF 2),Zw (stF 3),Zw (stF 4),Zw (stF 5),Zw (stF 6),Zw (stF 7)]]⟩,some ⟨1,n+1+x2.1+8,true,.fn fun i j=>Zb (bif Nat.blt i (n+1+x2.1) then pad0 n f i else be8 (wrap .u64 ((8:Int)*wrap .u64 (n:Int))) (i - (n+1+x2.1)))⟩] (⟨.refl _,.refl _,Ent.of_eq (congrArg (AV.osl 2 1 0) (pad_fin x2.2 g3)),trivial⟩) (⟨.refl _,ObEnt.row (by show EntL _ _ ((List.range 8).map fun j=>.int .u32 (ST 0 j));rw [h0];exact EntL.refl _),by rw [hp];exact pad_ob2 hn (pad_fin x2.2 g3),trivial⟩)
   intro x8
   try (have q8:=x8.2;dsimp only at q8)
   apply n_bd ((↑(padLen n - 64*x8.1):Int)>0)
   ·intro g9
    apply n_req ((0:Int)≤64∧(64:Int)≤(↑(padLen n - 64*x8.1):Int))
    apply n_sc (hmix (x8.1) (fun (i:Nat)=>p (i+(0+64*x8.1))) (by grind))
    apply n_req ((0:Int)≤64∧(64:Int)≤(↑(padLen n - 64*x8.1):Int))
    exact n_againx [0,1,2] (⟨x8.1+1,by omega⟩) [.own 0 32 0 0 32,.own 1 8 0 0 8,.osl 2 1 (64+64*x8.1) (padLen n - 64*x8.1 - 64)] [some ⟨32,1,true,.lst [z32]⟩,some ⟨8,1,true,.lst [[Zw (ST (x8.1+1) 0),Zw (ST (x8.1+1) 1),Zw (ST (x8.1+1) 2),Zw (ST (x8.1+1) 3),Zw (ST (x8.1+1) 4),Zw (ST (x8.1+1) 5),Zw (ST (x8.1+1) 6),Zw (ST (x8.1+1) 7)]]⟩,some ⟨1,padLen n,true,.fn fun i j=>Zb (p i)⟩] (⟨.refl _,.refl _,Ent.of_eq (by grind),trivial⟩) (⟨.refl _,.refl _,.refl _,trivial⟩)
   ·intro g9
    apply n_loopx ({ x:Nat // x≤8 }) [2,5,37,38] [0,27] (fun x=>[.own 0 32 0 0 32,.own 1 32 0 0 32,.agg (List.map (fun j=>Zw (ST (padLen n / 64) j)) (List.range 8)),Zi x.1]) (fun x=>[some ⟨32,1,true,.lst [z32]⟩,some ⟨32,1,true,.fn fun x_1 j=>Zb (bif Nat.blt j (4*x.1) then outF (ST (padLen n / 64)) j else (0:Int))⟩]) (fun x=>8 - x.1) (⟨0,Nat.zero_le 8⟩) [.own 0 32 0 0 32,.own 1 32 0 0 32,.agg [Zw (ST x8.1 0),Zw (ST x8.1 1),Zw (ST x8.1 2),Zw (ST x8.1 3),Zw (ST x8.1 4),Zw (ST x8.1 5),Zw (ST x8.1 6),Zw (ST x8.1 7)],Zi 0] [some ⟨32,1,true,.lst [z32]⟩,some ⟨32,1,true,.lst [z32]⟩] (⟨.refl _,.refl _,Ent.of_eq (by
                                                                                                      have e:x8.1=padLen n / 64:=by omega
                                                                                                      rw [e]
                                                                                                      rfl),.refl _,trivial⟩) (⟨.refl _,zero_ob32 (fun j=>rfl),trivial⟩)
    intro x14
    apply n_bd ((x14.1:Int)<8)
    ·intro g15
     apply n_req (0≤(x14.1:Int)∧(x14.1:Int)<8)
     apply n_loopx ({ x:Nat // x≤4 }) [2,5,6,37,38,7,42] [0,1] (fun x=>[.own 0 32 0 0 32,.own 1 32 0 0 32,Zi x14.1,.agg [Zw (ST (padLen n / 64) 0),Zw (ST (padLen n / 64) 1),Zw (ST (padLen n / 64) 2),Zw (ST (padLen n / 64) 3),Zw (ST (padLen n / 64) 4),Zw (ST (padLen n / 64) 5),Zw (ST (padLen n / 64) 6),Zw (ST (padLen n / 64) 7)],Zi x14.1,Zw (ST (padLen n / 64) (x14.1)),Zi x.1]) (fun x=>[some ⟨32,1,true,.lst [z32]⟩,some ⟨32,1,true,.fn fun x_1 j=>Zb (bif Nat.blt j (4*x14.1+x.1) then outF (ST (padLen n / 64)) j else (0:Int))⟩]) (fun x=>4 - x.1) (⟨0,Nat.zero_le 4⟩) [.own 0 32 0 0 32,.own 1 32 0 0 32,Zi x14.1,.agg [Zw (ST (padLen n / 64) 0),Zw (ST (padLen n / 64) 1),Zw (ST (padLen n / 64) 2),Zw (ST (padLen n / 64) 3),Zw (ST (padLen n / 64) 4),Zw (ST (padLen n / 64) 5),Zw (ST (padLen n / 64) 6),Zw (ST (padLen n / 64) 7)],Zi x14.1,Zw (intOfAV (atL [Zw (ST (padLen n / 64) 0),Zw (ST (padLen n / 64) 1),Zw (ST (padLen n / 64) 2),Zw (ST (padLen n / 64) 3),Zw (ST (padLen n / 64) 4),Zw (ST (padLen n / 64) 5),Zw (ST (padLen n / 64) 6),Zw (ST (padLen n / 64) 7)] (toNat (x14.1:Int)))),Zi 0] [some ⟨32,1,true,.lst [z32]⟩,some ⟨32,1,true,.fn fun i j=>Zb (bif Nat.blt j (4*x14.1) then outF (ST (padLen n / 64)) j else (0:Int))⟩] (⟨.refl _,.refl _,.refl _,.refl _,.refl _,Ent.of_eq (congrArg _ (congrArg intOfAV (atL_map_range (es:=8) (g:=fun j=>AV.int .u32 (ST (padLen n / 64) j)) (by omega)))),.refl _,trivial⟩) (⟨.refl _,.refl _,trivial⟩)
     intro x17
     try (have q17:=x17.2;dsimp only at q17)
     apply n_bd ((x17.1:Int)<4)
     ·intro g18
      apply n_req ((0:Int)≤wrap .i64 ((24:Int) - wrap .i64 ((8:Int)*(x17.1:Int)))) (by grind [wI,Int])
      apply n_req ((0:Int)≤wrap .i64 (wrap .i64 ((4:Int)*(x14.1:Int))+(x17.1:Int))∧wrap .i64 (wrap .i64 ((4:Int)*(x14.1:Int))+(x17.1:Int))<32) (by grind [w4k])
      exact n_againx [0,1] (⟨x17.1+1,by omega⟩) [.own 0 32 0 0 32,.own 1 32 0 0 32,Zi x14.1,.agg [Zw (ST (padLen n / 64) 0),Zw (ST (padLen n / 64) 1),Zw (ST (padLen n / 64) 2),Zw (ST (padLen n / 64) 3),Zw (ST (padLen n / 64) 4),Zw (ST (padLen n / 64) 5),Zw (ST (padLen n / 64) 6),Zw (ST (padLen n / 64) 7)],Zi x14.1,Zw (ST (padLen n / 64) x14.1),Zi (wrap .i64 ((x17.1:Int)+1))] [some ⟨32,1,true,.lst [z32]⟩,some ⟨32,1,true,.fn fun i j=>Zb (bif Nat.beq i 0&&Nat.beq j (0+toNat (wrap .i64 (wrap .i64 ((4:Int)*(x14.1:Int))+(x17.1:Int)))) then wrap .u8 (Int.fdiv (ST (padLen n / 64) x14.1) ((2:Int)^min (toNat (wrap .i64 ((24:Int) - wrap .i64 ((8:Int)*(x17.1:Int))))) 32)) else bif Nat.blt j (4*x14.1+x17.1) then outF (ST (padLen n / 64)) j else (0:Int))⟩] (⟨.refl _,.refl _,.refl _,.refl _,.refl _,.refl _,inc_ent (by omega),trivial⟩) (⟨.refl _,ObEnt.setR (P:=fun i j=>Nat.beq i 0&&Nat.beq j (0+toNat (IntKind.wrap .i64 (IntKind.wrap .i64 (4*(x14.1:Int))+(x17.1:Int))))) (c0:=4*x14.1+x17.1) (G:=fun j=>bif Nat.blt j (4*x14.1+x17.1+1) then outF (ST (padLen n / 64)) j else 0) (fun j _=>by show (true&&Nat.beq j (0+toNat _))=_;rw [w4k (by omega) (by omega),Nat.zero_add,show toNat (4*(x14.1:Int)+x17.1)=4*x14.1+x17.1 by omega];rfl) (by rw [blt_t (Nat.lt_succ_self _)];exact out_w (by omega) (by omega)) (fun j _ he=>fill_step he),trivial⟩)
     ·intro g18
      exact n_up <| n_againx [0,1] (⟨x14.1+1,by omega⟩) [.own 0 32 0 0 32,.own 1 32 0 0 32,.agg [Zw (ST (padLen n / 64) 0),Zw (ST (padLen n / 64) 1),Zw (ST (padLen n / 64) 2),Zw (ST (padLen n / 64) 3),Zw (ST (padLen n / 64) 4),Zw (ST (padLen n / 64) 5),Zw (ST (padLen n / 64) 6),Zw (ST (padLen n / 64) 7)],Zi (wrap .i64 ((x14.1:Int)+1))] [some ⟨32,1,true,.lst [z32]⟩,some ⟨32,1,true,.fn fun i j=>Zb (bif Nat.blt j (4*x14.1+x17.1) then outF (ST (padLen n / 64)) j else (0:Int))⟩] (⟨.refl _,.refl _,.refl _,inc_ent (by omega),trivial⟩) (⟨.refl _,ObEnt.fnR (fun j hj=>by grind),trivial⟩)
    ·intro g15
     exact n_outx (.agg [Zb (bif Nat.blt 0 (4*x14.1) then outF (ST (padLen n / 64)) 0 else (0:Int)),Zb (bif Nat.blt 1 (4*x14.1) then outF (ST (padLen n / 64)) 1 else (0:Int)),Zb (bif Nat.blt 2 (4*x14.1) then outF (ST (padLen n / 64)) 2 else (0:Int)),Zb (bif Nat.blt 3 (4*x14.1) then outF (ST (padLen n / 64)) 3 else (0:Int)),Zb (bif Nat.blt 4 (4*x14.1) then outF (ST (padLen n / 64)) 4 else (0:Int)),Zb (bif Nat.blt 5 (4*x14.1) then outF (ST (padLen n / 64)) 5 else (0:Int)),Zb (bif Nat.blt 6 (4*x14.1) then outF (ST (padLen n / 64)) 6 else (0:Int)),Zb (bif Nat.blt 7 (4*x14.1) then outF (ST (padLen n / 64)) 7 else (0:Int)),Zb (bif Nat.blt 8 (4*x14.1) then outF (ST (padLen n / 64)) 8 else (0:Int)),Zb (bif Nat.blt 9 (4*x14.1) then outF (ST (padLen n / 64)) 9 else (0:Int)),Zb (bif Nat.blt 10 (4*x14.1) then outF (ST (padLen n / 64)) 10 else (0:Int)),Zb (bif Nat.blt 11 (4*x14.1) then outF (ST (padLen n / 64)) 11 else (0:Int)),Zb (bif Nat.blt 12 (4*x14.1) then outF (ST (padLen n / 64)) 12 else (0:Int)),Zb (bif Nat.blt 13 (4*x14.1) then outF (ST (padLen n / 64)) 13 else (0:Int)),Zb (bif Nat.blt 14 (4*x14.1) then outF (ST (padLen n / 64)) 14 else (0:Int)),Zb (bif Nat.blt 15 (4*x14.1) then outF (ST (padLen n / 64)) 15 else (0:Int)),Zb (bif Nat.blt 16 (4*x14.1) then outF (ST (padLen n / 64)) 16 else (0:Int)),Zb (bif Nat.blt 17 (4*x14.1) then outF (ST (padLen n / 64)) 17 else (0:Int)),Zb (bif Nat.blt 18 (4*x14.1) then outF (ST (padLen n / 64)) 18 else (0:Int)),Zb (bif Nat.blt 19 (4*x14.1) then outF (ST (padLen n / 64)) 19 else (0:Int)),Zb (bif Nat.blt 20 (4*x14.1) then outF (ST (padLen n / 64)) 20 else (0:Int)),Zb (bif Nat.blt 21 (4*x14.1) then outF (ST (padLen n / 64)) 21 else (0:Int)),Zb (bif Nat.blt 22 (4*x14.1) then outF (ST (padLen n / 64)) 22 else (0:Int)),Zb (bif Nat.blt 23 (4*x14.1) then outF (ST (padLen n / 64)) 23 else (0:Int)),Zb (bif Nat.blt 24 (4*x14.1) then outF (ST (padLen n / 64)) 24 else (0:Int)),Zb (bif Nat.blt 25 (4*x14.1) then outF (ST (padLen n / 64)) 25 else (0:Int)),Zb (bif Nat.blt 26 (4*x14.1) then outF (ST (padLen n / 64)) 26 else (0:Int)),Zb (bif Nat.blt 27 (4*x14.1) then outF (ST (padLen n / 64)) 27 else (0:Int)),Zb (bif Nat.blt 28 (4*x14.1) then outF (ST (padLen n / 64)) 28 else (0:Int)),Zb (bif Nat.blt 29 (4*x14.1) then outF (ST (padLen n / 64)) 29 else (0:Int)),Zb (bif Nat.blt 30 (4*x14.1) then outF (ST (padLen n / 64)) 30 else (0:Int)),Zb (bif Nat.blt 31 (4*x14.1) then outF (ST (padLen n / 64)) 31 else (0:Int))]) (Ent.of_eq (by
                                                                                                      show AV.agg ((List.range 32).map fun j=>.int .u8 (bif Nat.blt j (4*x14.1) then outF (ST (padLen n / 64)) j else 0))=AV.agg ((List.range 32).map fun j=>.int .u8 (outF (ST (padLen n / 64)) j))
                                                                                                      exact congrArg AV.agg (List.map_congr_left fun j hj=>by grind [blt_t]))))
theorem sum_c (f:Nat→Int) (n:Nat) (hn:n≤1099511627776) (hf:byB f n):Pure Tryz.prog gl0 351 [bys n f] (.agg (u8c (shaF n f))) :=
 sum_r f n hn (padF n f) (stateF (padF n f)) rfl rfl (fun k _ hq=>Pure.via (mix_c (stateF (padF n f) k) (fun i=>padF n f (64*k+i)) (fun _ _=>pad_by hf _)) ⟨Ent.refl _,bys_eq rfl hq,trivial⟩)
end Go.Proofs.YtcageinnelhonaaGreatDoor
