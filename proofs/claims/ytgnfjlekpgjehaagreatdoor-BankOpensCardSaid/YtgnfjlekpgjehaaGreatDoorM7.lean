/- Part of the proof: CX12, Iss, CX13, Iss2, CX14, Spt2, Bnk2, CX20, CV14, CV15, CV16, Bnk3, CX21, Bnk4, CX22, CX23, Bnk5, CX24, CX15, CX16, CX17, CX18, Led2, CX19, CV17, Bnk6. -/
import Derived.Test.YtgnfjlekpgjehaaGreatDoorM6
import Derived.Test.YtgnfjlekpgjehaaGreatDoorProg
import Derived.Test.YtgnfjlekpgjehaaGreatDoorM3
import Derived.Test.YtgnfjlekpgjehaaGreatDoorM5
import Derived.Test.YtgnfjlekpgjehaaGreatDoorM4
namespace Go.Proofs.YtgnfjlekpgjehaaGreatDoor
open Go.IntKind (wrap)
open Int (toNat)
open Go Go.Am Go.Sp
set_option maxRecDepth 100000
theorem ye (b:aI) (x:Int) (hw:b.gr.W):Pure Tryz.prog aW 63 [b.av,.int .i64 x] (.aT [.int .i64 (mo b x),.int .i64 (mK b x)]):=by
 have c1:=ew b hw
 have c2:=er b.gr x hw
 have c3:=fun h h'=>pR b.gr x b.g2 h hw h'
 refine ar (own:=bk) Tryz.func63 (by kernel_rfl) mixed (by kernel_rfl)
  (let y0:AV:=(.aT [Zi (mo b x),Zi (mK b x)]);let y1:List AV:=[Zi (aI.gr b).1,Zi (aI.gr b).2,Zi (aI.gr b).3];(.sc true 21 [.agg (aI.cells b)] (.bool (aR b)) (.br (!aR b) (.out (.aT [Zi 0,Zi 1]) [] y0 []) (.sc ((x==1)==false) 61 [.agg y1,Zi x] (.bool (bp (aI.gr b)&&aQ (aI.gr b) x)) (.br (x==1 || !(bp b.1&&aQ b.1 x)) (.out (.aT [Zi 0,Zi 2]) [] y0 []) (.sc true 117 [.agg y1,Zi x,Zi b.3] (.aT [Zi (x*aI.g2 b%bL.p (aI.gr b)),Zi 0]) (.ff (.br (x*b.3%(aI.gr b).1==1) (.out (.aT [Zi 0,Zi 10]) [] y0 []) (.out (.aT [Zi (x*b.3%(aI.gr b).1),Zi 0]) [] y0 [])))))))))
  (by kernel_rfl) ?_
 refine aM (c1) ?_
 refine aL (fun h1=>?_) (fun h1=>?_)
 ·have g1:=(aB aF) h1
  exact aq ((by exact aw.of_eq (Px g1)))
 ·have g1:=(ay aC) h1
  refine aV (fun h3=>c2) ?_
  refine aL (fun h4=>?_) (fun h4=>?_)
  ·have g4:=(az ai (aB (aj aF aF))) h4
   exact aq ((by exact aw.of_eq (Pv g1 g4)))
  ·have g4:=(au ao (ay (ah aC aC))) h4
   refine aM (c3 (by exact (bE.1 g1).G) (by exact g4.2.2) (by exact (bE.1 g1).e2)) ?_
   refine b9 ?_
   refine aL (fun h8=>?_) (fun h8=>?_)
   ·have g8:=ai h8
    exact aq ((by exact aw.of_eq (PB g1 g4 g8)))
   ·have g8:=ao h8
    exact aq ((by exact aw.of_eq (PG g1 g4 g8)))
theorem NG:eS ub=true:=by decide +kernel
theorem Cd (b:aI) (y:Int) (p:Pf) (hw:b.gr.W):Pure Tryz.prog aW 27 [b.av,.agg (.int .i64 y::p.cells)] (.bool (gy b y p)):=by
 have c1:=ye b y hw
 have c2:=LW b.gr b.g1 y ub p NG hw
 refine ar (own:=bk) Tryz.func27 (by kernel_rfl) mixed (by kernel_rfl)
  (.sc true 63 [.agg (aI.cells b),Zi y] (.aT [Zi (mo b y),Zi (mK b y)]) (.sc ((mK b y==0)==true) 64 [.agg [Zi (aI.gr b).1,Zi (aI.gr b).2,Zi (aI.gr b).3],Zi b.2,Zi y,AV.str { data := #[(97:UInt8),99,99,111,117,110,116] },.agg [.aG 1 p.1 fun i x=>Zi (p.2 i),Zi p.3,.aG 1 p.4 fun i x=>Zi (p.5 i)]] (.bool (mg (aI.gr b) (aI.g1 b) y ub p)) (.out (.bool (mK b y==0&&mg b.1 b.2 y ub p)) [] (.bool (gy b y p)) [])))
  (by kernel_rfl) ?_
 refine aM (c1) ?_
 refine aV (fun h1=>c2) ?_
 exact aq (aw.of_eq (congrArg AV.bool (by unfold gy;rw [Dc])))
theorem rl (b:aI) (x:Int) (h:b.Ok) (he:aQ b.gr x=true):Pure Tryz.prog aW 141 [b.av,.int .i64 x] (.int .i64 (fM b x b.g2)):=by
 have x1:=fH h.G he
 have x2:=fH h.G h.e2
 have k1:=h.G.p1
 have c3:=iK x b.g2 b.gr.p (by omega) (by omega) (by omega) (by omega) (by omega)
 refine ar (own:=bk) Tryz.func141 (by kernel_rfl) mixed (by kernel_rfl)
  (.sc true 187 [Zi x,Zi b.3,Zi (aI.gr b).1] (Zi (x*aI.g2 b%bL.p (aI.gr b))) (.out (Zi (x*b.3%(aI.gr b).1)) [] (Zi (fM b x (aI.g2 b))) []))
  (by kernel_rfl) ?_
 refine aM (c3) ?_
 exact aq (aw.refl _)
theorem BN (b:aI) (x:Int) (h:b.Ok):Pure Tryz.prog aW 91 [b.av,.int .i64 x] (.bool (oU b x)):=by
 have c1:=dJ b.gr x h.G
 have c2:=fun he=>rl b x h he
 have k:=bE.2 h
 refine ar (own:=bk) Tryz.func91 (by kernel_rfl) mixed (by kernel_rfl)
  (.sc ((x != 1)==true) 81 [.agg [Zi (aI.gr b).1,Zi (aI.gr b).2,Zi (aI.gr b).3],Zi x] (.bool (aQ (aI.gr b) x)) (.sc ((x != 1&&aQ b.1 x)==true) 141 [.agg (aI.cells b),Zi x] (Zi (fM b x (aI.g2 b))) (.out (.bool (x != 1&&aQ b.1 x&&fM b x b.3 != 1)) [] (.bool (oU b x)) [])))
  (by kernel_rfl) ?_
 refine aV (fun h0=>c1) ?_
 refine aV (fun h1=>c2 ((by simp at h1;exact h1.2))) ?_
 exact aq (aw.of_eq (congrArg AV.bool (by unfold oU bV;rw [k,Bool.true_and])))
theorem yu (b:aI) (y:Int) (p:Pf) (hw:b.gr.W):Pure Tryz.prog aW 39 [b.av,.agg (.int .i64 y::p.cells)] (.bool (gy b y p)):=by
 have c0:=fe b hw
 have c1:=fun h=>BN b y h
 have c2:=Hg b.gr b.g1 y ub p NG hw
 refine ar (own:=bk) Tryz.func39 (by kernel_rfl) mixed (by kernel_rfl)
  (.sc true 33 [.agg (aI.cells b)] (.bool (aR b)) (.sc (aR b==true) 91 [.agg (aI.cells b),Zi y] (.bool (oU b y)) (.sc ((aR b&&oU b y)==true) 92 [.agg [Zi (aI.gr b).1,Zi (aI.gr b).2,Zi (aI.gr b).3],Zi b.2,Zi y,AV.str { data := #[(97:UInt8),99,99,111,117,110,116] },.agg [.aG 1 p.1 fun i x=>Zi (p.2 i),Zi p.3,.aG 1 p.4 fun i x=>Zi (p.5 i)]] (.bool (mg (aI.gr b) (aI.g1 b) y ub p)) (.out (.bool (aR b&&oU b y&&mg b.1 b.2 y ub p)) [] (.bool (gy b y p)) []))))
  (by kernel_rfl) ?_
 refine aM (c0) ?_
 refine aV (fun h1=>c1 ((bE.1 (by simpa using h1)))) ?_
 refine aV (fun h2=>c2) ?_
 exact aq (aw.of_eq (congrArg AV.bool (by unfold gy oU;cases aR b<;>rfl)))
theorem DK (b:aI) (x:Int):Pure Tryz.prog aW 146 [b.av,.int .i64 x] (.bool (ec b x)):=by
 refine ar (own:=bk) Tryz.func146 (by kernel_rfl) mixed (by kernel_rfl)
  (.out (.bool (decide (x>0)&&decide (x<(aI.gr b).2))) [] (.bool (ec b x)) [])
  (by kernel_rfl) ?_
 exact aq (aw.of_eq (congrArg AV.bool (by unfold ec;congr 1)))
theorem sI (b:aI) (x:Int):Pure Tryz.prog aW 35 [b.gr.av,.int .i64 x] (.bool (ec b x)):=by
 refine ar (own:=bk) Tryz.func35 (by kernel_rfl) mixed (by kernel_rfl)
  (.out (.bool (decide (x≥1)&&decide (x<(aI.gr b).2))) [] (.bool (ec b x)) [])
  (by kernel_rfl) ?_
 exact aq (aw.of_eq rfl)
theorem H2 (b:aI) (x:Int) (h:b.Ok) (hx:ec b x=true):Pure Tryz.prog aW 130 [b.av,.int .i64 x] (.agg [.int .i64 (ct b b.gr.g x),.int .i64 (ct b b.g1 x),.int .i64 (ct b b.g2 x)]):=by
 have c1:=iy b.gr
 have k1:=oQ h
 refine ar (own:=bk) Tryz.func130 (by kernel_rfl) mixed (by kernel_rfl)
  (let y0:List AV:=[Zi (aI.gr b).1,Zi (aI.gr b).2,Zi (aI.gr b).3];(.sc true 196 [.agg y0,Zi (aI.gr b).3,Zi x] (Zi ((aI.gr b).3^toNat x%bL.p (aI.gr b))) (.sc true 196 [.agg y0,Zi b.2,Zi x] (Zi (b.2^toNat x%bL.p (aI.gr b))) (.sc true 196 [.agg y0,Zi b.3,Zi x] (Zi (b.3^toNat x%bL.p (aI.gr b))) (.out (.agg [Zi ((aI.gr b).3^toNat x%(aI.gr b).1),Zi (b.2^toNat x%(aI.gr b).1),Zi (b.3^toNat x%(aI.gr b).1)]) [] (.agg [Zi (ct b (bL.g (aI.gr b)) x),Zi (ct b (aI.g1 b) x),Zi (ct b (aI.g2 b) x)]) [])))))
  (by kernel_rfl) ?_
 refine aM (c1 ((aI.gr b).3) (x) (by exact h.G) (by exact k1.1) (by exact j8 hx)) ?_
 refine aM (c1 (b.2) (x) (by exact h.G) (by exact k1.2.1) (by exact j8 hx)) ?_
 refine aM (c1 (b.3) (x) (by exact h.G) (by exact k1.2.2) (by exact j8 hx)) ?_
 exact aq (aw.refl _)
theorem My (b:aI) (x:Int) (h:b.Ok) (hw:b.gr.W):Pure Tryz.prog aW 98 [b.av,.int .i64 x] (.aT [.agg [.int .i64 (bif ec b x then ct b b.gr.g x else 0),.int .i64 (bif ec b x then ct b b.g1 x else 0),.int .i64 (bif ec b x then ct b b.g2 x else 0)],.int .i64 (bif ec b x then 0 else 2)]):=by
 have c0:=ew b hw
 rw [bE.2 h] at c0
 have c1:=lM b
 have c2:=DK b x
 have k1:=oQ h
 refine ar (own:=bk) Tryz.func98 (by kernel_rfl) mixed (by kernel_rfl)
  (let y0:AV:=(.aT [.agg [Zi (bif ec b x then ct b (bL.g (aI.gr b)) x else (0:Int)),Zi (bif ec b x then ct b (aI.g1 b) x else (0:Int)),Zi (bif ec b x then ct b (aI.g2 b) x else (0:Int))],Zi (bif ec b x then (0:Int) else (2:Int))]);(.sc true 21 [.agg (aI.cells b)] (.bool true) (.ff (.sc true 146 [.agg (aI.cells b),Zi x] (.bool (ec b x)) (.br (!ec b x) (.out (.aT [.agg [Zi 0,Zi 0,Zi 0],Zi 2]) [] y0 []) (.sc true 147 [.agg (aI.cells b),Zi (aI.gr b).3,Zi x] (Zi ((aI.gr b).3^toNat x%bL.p (aI.gr b))) (.sc true 147 [.agg (aI.cells b),Zi b.2,Zi x] (Zi (b.2^toNat x%bL.p (aI.gr b))) (.sc true 147 [.agg (aI.cells b),Zi b.3,Zi x] (Zi (b.3^toNat x%bL.p (aI.gr b))) (.out (.aT [.agg [Zi ((aI.gr b).3^toNat x%(aI.gr b).1),Zi (b.2^toNat x%(aI.gr b).1),Zi (b.3^toNat x%(aI.gr b).1)],Zi 0]) [] y0 [])))))))))
  (by kernel_rfl) ?_
 refine aM (c0) ?_
 refine b9 ?_
 refine aM (c2) ?_
 refine aL (fun h3=>?_) (fun h3=>?_)
 ·have g3:=(aB aF) h3
  exact aq (aw.of_eq (by rw [g3];rfl))
 ·have g3:=(ay aC) h3
  refine aM (c1 ((aI.gr b).3) (x) (by exact h.G) (by exact k1.1) (by exact j8 g3)) ?_
  refine aM (c1 (b.2) (x) (by exact h.G) (by exact k1.2.1) (by exact j8 g3)) ?_
  refine aM (c1 (b.3) (x) (by exact h.G) (by exact k1.2.2) (by exact j8 g3)) ?_
  exact aq (aw.of_eq (by rw [g3];rfl))
end Go.Proofs.YtgnfjlekpgjehaaGreatDoor

namespace Go.Sp
open Go.IntKind (wrap)
open Int (toNat)
open Go Go.Am
theorem mC {b:aI} {h h1 h2 m z a c2 c r:Int} (g:cZ b h h1 h2=false∨bV b.gr m=false∨dS b.gr z a c2=false∨ec b c=false∨bG b.gr r=false):lF b h h1 h2 m z a c2 c r=false:=by grind [lF]
theorem IK {b:aI} {h h1 h2 m z a c2 c r:Int} (hk:cZ b h h1 h2=true) (hm:bV b.gr m=true) (he:dS b.gr z a c2=true) (hn:ec b c=true) (hr:bG b.gr r=true):lF b h h1 h2 m z a c2 c r=ED b h m z a c2 r c:=by grind [lF,ED,ct,fM]
theorem gp {b:aI} {h h1 h2 m z a c2 c r:Int} (hk:cZ b h h1 h2=true) (hm:bV b.gr m=true) (he:dS b.gr z a c2=true) (hn:ec b c=true) (hr:bG b.gr r=true):ug b h m z a c2 r c:=by
 have G:=iD (jI hk).1
 have h1:=G.g2
 exact ⟨G,⟨by omega,G.g1⟩,oL G (jI hk).2,oL G hm,cd G (qS he).1,cd G (qS he).2.1,cd G (qS he).2.2,bJ hr,j8 hn⟩
theorem O5 {b:aI} {h h1 h2 m z a c2 c r:Int} (g:(((((((cZ b h h1 h2=true∧bV b.gr m=true)∧aQ b.gr z=true)∧aQ b.gr a=true)∧aQ b.gr c2=true)∧¬c<1)∧¬c≥b.gr.q)∧bG b.gr r=true)) :
  cZ b h h1 h2=true∧bV b.gr m=true∧dS b.gr z a c2=true∧ec b c=true∧bG b.gr r=true:=by grind [dS,ec,decide_eq_true]
theorem LA {b:aI} {h h1 h2 m z a c2 c r:Int} (g:(((((((cZ b h h1 h2=false∨bV b.gr m=false)∨aQ b.gr z=false)∨aQ b.gr a=false)∨aQ b.gr c2=false)∨c<1)∨c≥b.gr.q)∨bG b.gr r=false)) :
  lF b h h1 h2 m z a c2 c r=false:=by
 rcases g with ((((((g|g)|g)|g)|g)|g)|g)|g
 ·grind [mC]
 ·grind [mC]
 ·grind [mC,dS]
 ·grind [mC,dS]
 ·grind [mC,dS]
 ·grind [mC,ec,decide_eq_false]
 ·simp_all [mC,ec,decide_eq_false,Bool.and_false]
 grind [mC]
theorem Nx {p:Int→Bool} {x0 x1 x2:Int}:allI (fun i=>p ([x0,x1,x2].getD i 0)) 3=(p x0&&p x1&&p x2):=by
 show (p x0&&(p x1&&(p x2&&true)))=_
 grind
def Lb (s:Nat→Int):List AV:=[.int .i64 (s 0),.int .i64 (s 1),.int .i64 (s 2),.int .i64 (s 3),.int .i64 (s 4),.int .i64 (s 5),.int .i64 (s 6),.int .i64 (s 7),.int .i64 (s 8),.int .i64 (s 9),.int .i64 (s 10),.int .i64 (s 11),.int .i64 (s 12),.int .i64 (s 13),.int .i64 (s 14),.int .i64 (s 15),.int .i64 (s 16),.int .i64 (s 17),.int .i64 (s 18),.int .i64 (s 19),.int .i64 (s 20)]
structure w9 (b : aI) (s : Nat → Int) : Prop where
  vb : aR b = true
  rc : dV b (cX fun j => s (3 + j)) = true
  lo : 0 ≤ s 1
  hi : s 1 ≤ 1073741824
  sw : bG b.gr (s 14) = true
  ak : oU b (s 2) = true
  m : s 15 = fM b (s 2) b.g2
  z : aQ b.gr (s 16) = true
  a : s 17 = ct b b.gr.g (s 14)
  c2 : s 18 = ct b (fM b (s 2) b.g2) (s 14)
def zA (b:aI) (s:Nat→Int):Bool:=bif s 0==1 then s 19==0&&s 20==0 else bif s 0==3 then lF b (s 8) (s 9) (s 10) (s 15) (s 16) (s 17) (s 18) (s 19) (s 20) else false
theorem rk {b:aI} {s:Nat→Int} (h:gd b s=true):w9 b s:=by
 simp only [gd,Bool.and_eq_true,decide_eq_true_eq,beq_iff_eq] at h
 obtain ⟨⟨⟨⟨⟨⟨⟨⟨⟨⟨h1,h2⟩,h3⟩,h4⟩,h5⟩,h6⟩,h7⟩,h8⟩,h9⟩,h10⟩,_⟩:=h
 exact ⟨h1,h2,h3,h4,h5,h6,h7,h8,h9,h10⟩
theorem yA {b:aI} {s:Nat→Int} (h:w9 b s):gd b s=zA b s:=by
 unfold gd zA
 rw [h.vb,h.rc,decide_eq_true h.lo,decide_eq_true h.hi,h.sw,h.ak,beq_iff_eq.2 h.m,h.z,beq_iff_eq.2 h.a,beq_iff_eq.2 h.c2];rfl
theorem IA {b:aI} {s:Nat→Int} (h:w9 b s) (e:s 0=1):gd b s=(s 19==0&&s 20==0):=by simp_all [yA,zA]
theorem ND {b:aI} {s:Nat→Int} (h:w9 b s) (e:s 0=3):gd b s=lF b (s 8) (s 9) (s 10) (s 15) (s 16) (s 17) (s 18) (s 19) (s 20):=by simp_all [yA,zA]
theorem M2 {b:aI} {s:Nat→Int} (e:¬s 0=1) (e':¬s 0=3):gd b s=false:=eM fun h=>by grind [rk,yA,zA,beq_eq_false_iff_ne]
theorem Nf {b:aI} {y:Int} (h:oU b y=true):mK b y=0∧mo b y=fM b y b.g2:=by
 have e:mK b y=0:=by have:=Dc (b:=b) (y:=y);grind
 exact ⟨e,if_pos e⟩
theorem PS {b:aI} {y:Int} (h:mK b y=0):oU b y=true∧mo b y=fM b y b.g2:=by grind [oU,Dc,Nf]
theorem M4 {b:aI} {y:Int} (h:oU b y=true):aQ b.gr (fM b y b.g2)=true:=by
 have h:=wq.1 h
 have B:=bE.1 h.1
 exact tX B.G (oG.1 h.2.1).2 B.e2
end Go.Sp

namespace Go.Proofs.YtgnfjlekpgjehaaGreatDoor
open Go.IntKind (wrap)
open Int (toNat)
open Go Go.Am Go.Sp
set_option maxRecDepth 100000
theorem Em (b:aI) (l:List Int) (hw:b.gr.W) (hl:l.length≤1000):Pure Tryz.prog aW 229 [b.av,il .i64 l] (.bool (allI (fun i=>aQ b.gr (l.getD i 0)) l.length)):=by
 refine ar (own:=bk) Tryz.func229 (by kernel_rfl) mixed (by kernel_rfl)
  (let z1:Int:=(↑(List.length l):Int);let z0:={ x:Nat // x≤List.length l∧(fun (i:Nat)=>∀ (j:Nat),j<i→aQ (aI.gr b) (List.getD l j (0:Int))=true) x };let y0:List (Option Ob):=[some ⟨6,1,true,.ba [aI.cells b]⟩];let y1:AV:=(.bool (allI (fun i=>aQ (aI.gr b) (List.getD l i (0:Int))) (List.length l)));(.loop (z0) (fun (x:z0)=>aY [2,7,8,9] [.own 0 6 0 0 6,.aG 1 (List.length l) fun i x=>Zi (List.getD l i (0:Int)),Zi z1,Zi x.1] y0) (fun (x:z0)=>List.length l - x.1) (⟨0,⟨Nat.zero_le (List.length l),fun (j:Nat) (hj:j<0)=>absurd hj (Nat.not_lt_zero j)⟩⟩) [2,7,8,9] [0] [.own 0 6 0 0 6,.aG 1 (List.length l) fun i x=>Zi (List.getD l i (0:Int)),Zi z1,Zi 0] (y0) (fun x0=>let z2:=(List.getD l (toNat (x0.1:Int)) (0:Int));(.br (decide ((x0.1:Int)<z1)) (.bf (0≤(x0.1:Int)∧(x0.1:Int)<z1) (.sc true 289 [.agg (aI.cells b),Zi z2] (.bool (aQ (aI.gr b) z2)) (.br (!aQ b.1 z2) (.out (.bool false) [] y1 []) (.again (be 0 (fun (x:z0)=>aY [2,7,8,9] [.own 0 6 0 0 6,.aG 1 (List.length l) fun i x=>Zi (List.getD l i (0:Int)),Zi z1,Zi x.1] y0) (fun (x:z0)=>List.length l - x.1) x0) [2,7,8,9] [0] [.own 0 6 0 0 6,.aG 1 (List.length l) fun i x=>Zi (List.getD l i (0:Int)),Zi z1,Zi (wrap .i64 ((x0.1:Int)+1))] (y0))))) (.out (.bool true) [] y1 [])))))
  (by kernel_rfl) ?_
 refine aU (fun _ hs=>hs.le (⟨.refl _,.refl _,.refl _,.refl _,trivial⟩) (⟨.refl _,trivial⟩)) (fun x0=>?_)
 try (have q0:=x0.2;dsimp only at q0)
 refine aL (fun h1=>?_) (fun h1=>?_)
 ·have g1:=af h1
  refine aD (by omega) ?_
  refine aM ((lW b) (List.getD l (toNat (↑x0.1:Int)) (0:Int)) (by assumption)) ?_
  refine aL (fun h4=>?_) (fun h4=>?_)
  ·have g4:=(aB aF) h4
   try simp only [Int.toNat_natCast] at g4
   exact aq (by exact aw.of_eq (congrArg _ (nQ (i:=x0.1) (by omega) g4).symm))
  ·have g4:=(ay aC) h4
   try simp only [Int.toNat_natCast] at g4
   exact aN (⟨x0.1+1,by omega,cF q0.2 g4⟩) (fun _ hs=>hs.le (⟨.refl _,.refl _,.refl _,aJ (by omega),trivial⟩) (⟨.refl _,trivial⟩)) (by dsimp only;omega)
 ·have g1:=aa h1
  exact aq (by exact aw.of_eq (congrArg _ (nv fun i hi=>q0.2 i (by omega)).symm))
theorem Bd (b:aI) (x0 x1 x2:Int) (hw:b.gr.W):Pure Tryz.prog aW 229 [b.av,.aG 1 3 fun r k=>aO (List.getD [[.int .i64 x0],[.int .i64 x1],[.int .i64 x2]] r []) k] (.bool (dS b.gr x0 x1 x2)):=by
 have:=Em b [x0,x1,x2] hw (Nat.le_of_ble_eq_true rfl)
 rw [show allI (fun i=>aQ b.gr ([x0,x1,x2].getD i 0)) [x0,x1,x2].length=dS b.gr x0 x1 x2 from Nx] at this
 exact this.via ⟨aw.refl _,eO rfl rfl,trivial⟩
theorem Is (b:aI) (r:Int):Pure Tryz.prog aW 230 [b.av,.int .i64 r] (.bool (bG b.gr r)):=yq b r
theorem uL (G:bL) (r:Int):Pure Tryz.prog aW 199 [G.av,.int .i64 r] (.bool (bG G r)):=uw G r
theorem Kw (b:aI) (k0 k1 k2 m z a c2 c r:Int) (hw:b.gr.W) :
  Pure Tryz.prog aW 161 [b.av,.agg [.int .i64 k0,.int .i64 k1,.int .i64 k2],.agg [.int .i64 m,.int .i64 z,.int .i64 a,.int .i64 c2,.int .i64 c,.int .i64 r]] (.bool (lF b k0 k1 k2 m z a c2 c r)):=by
 have hv:=o7 b k0 k1 k2 hw
 have hm:=iN b m hw
 have he:=Bd b z a c2 hw
 have hn:=DK b c
 have hs:=Is b r
 have K:=fun (g:(((cZ b k0 k1 k2=true∧bV b.gr m=true)∧dS b.gr z a c2=true)∧ec b c=true)∧bG b.gr r=true)=>gp g.1.1.1.1 g.1.1.1.2 g.1.1.2 g.1.2 g.2
 refine ar (own:=bk) Tryz.func161 (by kernel_rfl) mixed (by kernel_rfl)
  (let z0:AV:=(.bool (lF b k0 k1 k2 m z a c2 c r));(.sc true 151 [.agg (aI.cells b),.agg [Zi k0,Zi k1,Zi k2]] (.bool (cZ b k0 k1 k2)) (.sc ((!cZ b k0 k1 k2)==false) 226 [.agg (aI.cells b),Zi m] (.bool (bV (aI.gr b) m)) (.sc ((!cZ b k0 k1 k2 || !bV b.1 m)==false) 229 [.agg (aI.cells b),.aG 1 3 fun r k=>aO (List.getD [[Zi z],[Zi a],[Zi c2]] (r+0) []) k] (.bool (dS (aI.gr b) z a c2)) (.sc ((!cZ b k0 k1 k2 || !bV b.1 m || !dS b.1 z a c2)==false) 146 [.agg (aI.cells b),Zi c] (.bool (ec b c)) (.sc ((!cZ b k0 k1 k2 || !bV b.1 m || !dS b.1 z a c2 || !ec b c)==false) 230 [.agg (aI.cells b),Zi r] (.bool (bG (aI.gr b) r)) (.br (!cZ b k0 k1 k2 || !bV b.1 m || !dS b.1 z a c2 || !ec b c || !bG b.1 r) (.out (.bool false) [] z0 []) (.sc true 147 [.agg (aI.cells b),Zi (aI.gr b).3,Zi r] (Zi ((aI.gr b).3^toNat r%bL.p (aI.gr b))) (.sc true 231 [.agg (aI.cells b),Zi k0,Zi c,Zi a,Zi 1] (Zi (k0^toNat c%bL.p (aI.gr b)*a%bL.p (aI.gr b))) (.sc (((aI.gr b).3^toNat r%(aI.gr b).1==k0^toNat c%(aI.gr b).1*a%(aI.gr b).1)==true) 147 [.agg (aI.cells b),Zi m,Zi r] (Zi (m^toNat r%bL.p (aI.gr b))) (.sc (((aI.gr b).3^toNat r%(aI.gr b).1==k0^toNat c%(aI.gr b).1*a%(aI.gr b).1)==true) 231 [.agg (aI.cells b),Zi z,Zi c,Zi c2,Zi 1] (Zi (z^toNat c%bL.p (aI.gr b)*c2%bL.p (aI.gr b))) (.out (.bool ((aI.gr b).3^toNat r%(aI.gr b).1==k0^toNat c%(aI.gr b).1*a%(aI.gr b).1&&m^toNat r%(aI.gr b).1==z^toNat c%(aI.gr b).1*c2%(aI.gr b).1)) [] z0 []))))))))))))
  (by kernel_rfl) ?_
 refine aM (hv) ?_
 refine aV (fun h1=>hm) ?_
 refine aV (fun h2=>he) ?_
 refine aV (fun h3=>hn) ?_
 refine aV (fun h4=>hs) ?_
 refine aL (fun h5=>?_) (fun h5=>?_)
 ·have g5:=(az (az (az (az (aB aF) (aB aF)) (aB aF)) (aB aF)) (aB aF)) h5
  exact aq (aw.of_eq (congrArg _ (mC (by simpa only [or_assoc] using g5)).symm))
 ·have g5:=(au (au (au (au (ay aC) (ay aC)) (ay aC)) (ay aC)) (ay aC)) h5
  refine aM ((lM b) ((aI.gr b).3) (r) (by cases K g5;assumption) (by cases K g5;assumption) (by cases K g5;assumption)) ?_
  refine aM ((oS b) (k0) (c) (a) (by cases K g5;assumption) (by cases K g5;assumption) (by cases K g5;assumption) (by cases K g5;assumption)) ?_
  refine aV (fun h9=>(lM b) (m) (r) (by cases K g5;assumption) (by cases K g5;assumption) (by cases K g5;assumption)) ?_
  refine aV (fun h10=>(oS b) (z) (c) (c2) (by cases K g5;assumption) (by cases K g5;assumption) (by cases K g5;assumption) (by cases K g5;assumption)) ?_
  exact aq (aw.of_eq (congrArg _ (IK g5.1.1.1.1 g5.1.1.1.2 g5.1.1.2 g5.1.2 g5.2).symm))
theorem Gw (b:aI) (k0 k1 k2 m z a c2 c r:Int) (hw:b.gr.W) :
  Pure Tryz.prog aW 201 [b.av,.agg [.int .i64 k0,.int .i64 k1,.int .i64 k2],.agg [.int .i64 m,.int .i64 z,.int .i64 a,.int .i64 c2,.int .i64 c,.int .i64 r]] (.bool (lF b k0 k1 k2 m z a c2 c r)):=by
 have hv:=wA b k0 k1 k2 hw
 have hm:=p5 b.gr m
 have he:=fun x h=>dJ b.gr x h
 have hs:=uL b.gr r
 have L:=fun g=>O5 (b:=b) (h:=k0) (h1:=k1) (h2:=k2) (m:=m) (z:=z) (a:=a) (c2:=c2) (c:=c) (r:=r) g
 refine ar (own:=bk) Tryz.func201 (by kernel_rfl) mixed (by kernel_rfl)
  (let y0:List AV:=[Zi (aI.gr b).1,Zi (aI.gr b).2,Zi (aI.gr b).3];let y1:AV:=(.bool (lF b k0 k1 k2 m z a c2 c r));(.sc true 192 [.agg (aI.cells b),.agg [Zi k0,Zi k1,Zi k2]] (.bool (cZ b k0 k1 k2)) (.sc ((!cZ b k0 k1 k2)==false) 267 [.agg y0,Zi m] (.bool (bV (aI.gr b) m)) (.sc ((!cZ b k0 k1 k2 || !bV b.1 m)==false) 81 [.agg y0,Zi z] (.bool (aQ (aI.gr b) z)) (.sc ((!cZ b k0 k1 k2 || !bV b.1 m || !aQ b.1 z)==false) 81 [.agg y0,Zi a] (.bool (aQ (aI.gr b) a)) (.sc ((!cZ b k0 k1 k2 || !bV b.1 m || !aQ b.1 z || !aQ b.1 a)==false) 81 [.agg y0,Zi c2] (.bool (aQ (aI.gr b) c2)) (.sc ((!cZ b k0 k1 k2 || !bV b.1 m || !aQ b.1 z || !aQ b.1 a || !aQ b.1 c2||decide (c<1)||decide (c≥(aI.gr b).2))==false) 199 [.agg y0,Zi r] (.bool (bG (aI.gr b) r)) (.br (!cZ b k0 k1 k2 || !bV b.1 m || !aQ b.1 z || !aQ b.1 a || !aQ b.1 c2||decide (c<1)||decide (c≥(aI.gr b).2) || !bG b.1 r) (.out (.bool false) [] y1 []) (.sc true 196 [.agg y0,Zi (aI.gr b).3,Zi r] (Zi ((aI.gr b).3^toNat r%bL.p (aI.gr b))) (.sc true 196 [.agg y0,Zi k0,Zi c] (Zi (k0^toNat c%bL.p (aI.gr b))) (.sc true 268 [.agg y0,Zi (k0^toNat c%(aI.gr b).1),Zi a] (Zi (k0^toNat c%(aI.gr b).1*a%bL.p (aI.gr b))) (.sc (((aI.gr b).3^toNat r%(aI.gr b).1==k0^toNat c%(aI.gr b).1*a%(aI.gr b).1)==true) 196 [.agg y0,Zi m,Zi r] (Zi (m^toNat r%bL.p (aI.gr b))) (.sc (((aI.gr b).3^toNat r%(aI.gr b).1==k0^toNat c%(aI.gr b).1*a%(aI.gr b).1)==true) 196 [.agg y0,Zi z,Zi c] (Zi (z^toNat c%bL.p (aI.gr b))) (.sc (((aI.gr b).3^toNat r%(aI.gr b).1==k0^toNat c%(aI.gr b).1*a%(aI.gr b).1)==true) 268 [.agg y0,Zi (z^toNat c%(aI.gr b).1),Zi c2] (Zi (z^toNat c%(aI.gr b).1*c2%bL.p (aI.gr b))) (.out (.bool ((aI.gr b).3^toNat r%(aI.gr b).1==k0^toNat c%(aI.gr b).1*a%(aI.gr b).1&&m^toNat r%(aI.gr b).1==z^toNat c%(aI.gr b).1*c2%(aI.gr b).1)) [] y1 [])))))))))))))))
  (by kernel_rfl) ?_
 refine aM (hv) ?_
 refine aV (fun h1=>hm (by (refine (bE.1 (jI (h0:=k0) (k1:=k1) (k2:=k2) ?_).1).G;grind))) ?_
 refine aV (fun h2=>he (z) (by (refine (bE.1 (jI (h0:=k0) (k1:=k1) (k2:=k2) ?_).1).G;grind))) ?_
 refine aV (fun h3=>he (a) (by (refine (bE.1 (jI (h0:=k0) (k1:=k1) (k2:=k2) ?_).1).G;grind))) ?_
 refine aV (fun h4=>he (c2) (by (refine (bE.1 (jI (h0:=k0) (k1:=k1) (k2:=k2) ?_).1).G;grind))) ?_
 refine aV (fun h5=>hs) ?_
 refine aL (fun h6=>?_) (fun h6=>?_)
 ·have g6:=(az (az (az (az (az (az (az (aB aF) (aB aF)) (aB aF)) (aB aF)) (aB aF)) af) af) (aB aF)) h6
  exact aq (aw.of_eq (congrArg _ (LA g6).symm))
 ·have g6:=(au (au (au (au (au (au (au (ay aC) (ay aC)) (ay aC)) (ay aC)) (ay aC)) aa) aa) (ay aC)) h6
  refine aM ((iy (aI.gr b)) ((aI.gr b).3) (r) (by (have l:=L g6;have K:=gp l.1 l.2.1 l.2.2.1 l.2.2.2.1 l.2.2.2.2;first|(cases K;assumption)|exact bR K.ok _)) (by (have l:=L g6;have K:=gp l.1 l.2.1 l.2.2.1 l.2.2.2.1 l.2.2.2.2;first|(cases K;assumption)|exact bR K.ok _)) (by (have l:=L g6;have K:=gp l.1 l.2.1 l.2.2.1 l.2.2.2.1 l.2.2.2.2;first|(cases K;assumption)|exact bR K.ok _))) ?_
  refine aM ((iy (aI.gr b)) (k0) (c) (by (have l:=L g6;have K:=gp l.1 l.2.1 l.2.2.1 l.2.2.2.1 l.2.2.2.2;first|(cases K;assumption)|exact bR K.ok _)) (by (have l:=L g6;have K:=gp l.1 l.2.1 l.2.2.1 l.2.2.2.1 l.2.2.2.2;first|(cases K;assumption)|exact bR K.ok _)) (by (have l:=L g6;have K:=gp l.1 l.2.1 l.2.2.1 l.2.2.2.1 l.2.2.2.2;first|(cases K;assumption)|exact bR K.ok _))) ?_
  refine aM ((oC (aI.gr b)) (k0^toNat c%(aI.gr b).1) (a) (by (have l:=L g6;have K:=gp l.1 l.2.1 l.2.2.1 l.2.2.2.1 l.2.2.2.2;first|(cases K;assumption)|exact bR K.ok _)) (by (have l:=L g6;have K:=gp l.1 l.2.1 l.2.2.1 l.2.2.2.1 l.2.2.2.2;first|(cases K;assumption)|exact bR K.ok _)) (by (have l:=L g6;have K:=gp l.1 l.2.1 l.2.2.1 l.2.2.2.1 l.2.2.2.2;first|(cases K;assumption)|exact bR K.ok _))) ?_
  refine aV (fun h11=>(iy (aI.gr b)) (m) (r) (by (have l:=L g6;have K:=gp l.1 l.2.1 l.2.2.1 l.2.2.2.1 l.2.2.2.2;first|(cases K;assumption)|exact bR K.ok _)) (by (have l:=L g6;have K:=gp l.1 l.2.1 l.2.2.1 l.2.2.2.1 l.2.2.2.2;first|(cases K;assumption)|exact bR K.ok _)) (by (have l:=L g6;have K:=gp l.1 l.2.1 l.2.2.1 l.2.2.2.1 l.2.2.2.2;first|(cases K;assumption)|exact bR K.ok _))) ?_
  refine aV (fun h12=>(iy (aI.gr b)) (z) (c) (by (have l:=L g6;have K:=gp l.1 l.2.1 l.2.2.1 l.2.2.2.1 l.2.2.2.2;first|(cases K;assumption)|exact bR K.ok _)) (by (have l:=L g6;have K:=gp l.1 l.2.1 l.2.2.1 l.2.2.2.1 l.2.2.2.2;first|(cases K;assumption)|exact bR K.ok _)) (by (have l:=L g6;have K:=gp l.1 l.2.1 l.2.2.1 l.2.2.2.1 l.2.2.2.2;first|(cases K;assumption)|exact bR K.ok _))) ?_
  refine aV (fun h13=>(oC (aI.gr b)) (z^toNat c%(aI.gr b).1) (c2) (by (have l:=L g6;have K:=gp l.1 l.2.1 l.2.2.1 l.2.2.2.1 l.2.2.2.2;first|(cases K;assumption)|exact bR K.ok _)) (by (have l:=L g6;have K:=gp l.1 l.2.1 l.2.2.1 l.2.2.2.1 l.2.2.2.2;first|(cases K;assumption)|exact bR K.ok _)) (by (have l:=L g6;have K:=gp l.1 l.2.1 l.2.2.1 l.2.2.2.1 l.2.2.2.2;first|(cases K;assumption)|exact bR K.ok _))) ?_
  exact aq (aw.of_eq (congrArg _ (IK (L g6).1 (L g6).2.1 (L g6).2.2.1 (L g6).2.2.2.1 (L g6).2.2.2.2).symm))
end Go.Proofs.YtgnfjlekpgjehaaGreatDoor

namespace Go.Sp
open Go.IntKind (wrap)
open Int (toNat)
open Go Go.Am
theorem Hm {b:aI} (h:b.gr.Ok) (y:Int):0≤mo b y∧mo b y<b.gr.p:=by
 unfold mo
 split
 ·exact bR h _
 ·have:=h.p3;omega
variable {b : aI} {s : Nat → Int}
theorem KL (g:((aR b=false∨dV b (cX fun j=>s (3+j))=false)∨(¬s 1≥0∨¬s 1≤1073741824))∨bG b.gr (s 14)=false):gd b s=false:=eM fun h=>by
 obtain ⟨h1,h2,h3,h4,h5,h6,h7,h8,h9,h10⟩:=rk h
 grind
theorem La (g:((((¬mK b (s 2)=0∨¬s 15=mo b (s 2))∨(bp b.gr=false∨aQ b.gr (s 16)=false))∨¬s 17=ct b b.gr.g (s 14))∨¬s 18=ct b (mo b (s 2)) (s 14))):gd b s=false:=eM fun h=>by
 obtain ⟨h1,h2,h3,h4,h5,h6,h7,h8,h9,h10⟩:=rk h
 obtain ⟨e1,e2⟩:=Nf h6
 have e3:=N8 (bE.1 h1).G
 grind
theorem JB (g:((aR b=true∧dV b (cX fun j=>s (3+j))=true)∧(s 1≥0∧s 1≤1073741824))∧bG b.gr (s 14)=true)
  (k:((((mK b (s 2)=0∧s 15=mo b (s 2))∧(bp b.gr=true∧aQ b.gr (s 16)=true))∧s 17=ct b b.gr.g (s 14))∧s 18=ct b (mo b (s 2)) (s 14))):w9 b s:=by
 obtain ⟨⟨⟨g1,g2⟩,g3,g4⟩,g5⟩:=g
 obtain ⟨⟨⟨⟨k1,k2⟩,_,k3⟩,k4⟩,k5⟩:=k
 obtain ⟨e1,e2⟩:=PS k1
 rw [e2] at k2 k5
 exact ⟨g1,g2,g3,g4,g5,e1,k2,k3,k4,k5⟩
theorem Mm (g:(((aR b=false∨dV b (cX fun j=>s (3+j))=false)∨(¬s 1≥0∨¬s 1≤1073741824))∨oU b (s 2)=false)∨bG b.gr (s 14)=false):gd b s=false:=eM fun h=>by
 obtain ⟨h1,h2,h3,h4,h5,h6,h7,h8,h9,h10⟩:=rk h
 grind
theorem Mo (g:(((¬s 15=fM b (s 2) b.g2∨aQ b.gr (s 16)=false)∨¬s 17=ct b b.gr.g (s 14))∨¬s 18=ct b (fM b (s 2) b.g2) (s 14))):gd b s=false:=eM fun h=>by
 obtain ⟨h1,h2,h3,h4,h5,h6,h7,h8,h9,h10⟩:=rk h
 grind
theorem Cw (g:(((aR b=true∧dV b (cX fun j=>s (3+j))=true)∧(s 1≥0∧s 1≤1073741824))∧oU b (s 2)=true)∧bG b.gr (s 14)=true)
  (k:(((s 15=fM b (s 2) b.g2∧aQ b.gr (s 16)=true)∧s 17=ct b b.gr.g (s 14))∧s 18=ct b (fM b (s 2) b.g2) (s 14))):w9 b s :=
 ⟨g.1.1.1.1,g.1.1.1.2,g.1.1.2.1,g.1.1.2.2,g.2,g.1.2,k.1.1.1,k.1.1.2,k.1.2,k.2⟩
theorem MH (h:w9 b s) (e:¬s 0=1):gd b s=(s 0==3&&lF b (s 8) (s 9) (s 10) (s 15) (s 16) (s 17) (s 18) (s 19) (s 20)):=by grind [yA,zA,beq_eq_false_iff_ne]
end Go.Sp

namespace Go.Proofs.YtgnfjlekpgjehaaGreatDoor
open Go.IntKind (wrap)
open Int (toNat)
open Go Go.Am Go.Sp
set_option maxRecDepth 100000
theorem Ms (n:Int):Pure Tryz.prog aW 158 [.int .i64 n] (.bool (decide (n≥0)&&decide (n≤1073741824))):=by
 refine ar (own:=bk) Tryz.func158 (by kernel_rfl) mixed (by kernel_rfl)
  (let y0:AV:=(.bool (decide (n≥0)&&decide (n≤1073741824)));(.out y0 [] y0 []))
  (by kernel_rfl) ?_
 exact aq (aw.of_eq rfl)
theorem F9 (n:Int):Pure Tryz.prog aW 198 [.int .i64 n] (.bool (decide (n≥0)&&decide (n≤1073741824))):=by
 refine ar (own:=bk) Tryz.func198 (by kernel_rfl) mixed (by kernel_rfl)
  (let y0:AV:=(.bool (decide (n≥0)&&decide (n≤1073741824)));(.out y0 [] y0 []))
  (by kernel_rfl) ?_
 exact aq (aw.of_eq rfl)
theorem Ke (b:aI) (x:Int):Pure Tryz.prog aW 159 [b.av,.int .i64 x] (.bool (bG b.gr x)):=by
 refine ar (own:=bk) Tryz.func159 (by kernel_rfl) mixed (by kernel_rfl)
  (.out (.bool (decide (x≥0)&&decide (x<(aI.gr b).2))) [] (.bool (bG (aI.gr b) x)) [])
  (by kernel_rfl) ?_
 exact aq (aw.of_eq rfl)
theorem G1 (b:aI) (x e:Int) (h:b.gr.Ok) (hx:0≤x∧x<b.gr.p) (he:0≤e∧e<b.gr.q):Pure Tryz.prog aW 160 [b.av,.int .i64 x,.int .i64 e] (.int .i64 (ct b x e)):=by
 have k1:=h.p1;have k2:=h.qp
 have k3:=nO (js (a:=x) (b:=x) (m:=b.gr.p) (by omega) (by omega) (by omega) (by omega) (by omega) (by omega)) (by omega:¬e<0)
 refine ar (own:=bk) Tryz.func160 (by kernel_rfl) mixed (by kernel_rfl)
  (let z0:=(lQ (gJ x e (aI.gr b).1) (x^toNat e%(aI.gr b).1));(.sc true 113 [Zi x,Zi e,Zi (aI.gr b).1] (.aT [Zi z0,Zi (gJ x e (aI.gr b).1)]) (.out (Zi z0) [] (Zi (ct b x e)) [])))
  (by kernel_rfl) ?_
 refine aM (nG (x) (e) ((aI.gr b).1) (by omega)) ?_
 exact aq (aw.of_eq (by rw [k3];rfl))
theorem GB (b:aI) (x e:Int) (h:b.gr.Ok) (hx:0≤x∧x<b.gr.p) (he:0≤e∧e<b.gr.q):Pure Tryz.prog aW 200 [b.av,.int .i64 x,.int .i64 e] (.int .i64 (ct b x e)):=by
 have k1:=h.p1;have k2:=h.qp
 refine ar (own:=bk) Tryz.func200 (by kernel_rfl) mixed (by kernel_rfl)
  (let y0:AV:=(Zi (x^toNat e%(aI.gr b).1));(.sc true 126 [Zi x,Zi e,Zi (aI.gr b).1] y0 (.out y0 [] (Zi (ct b x e)) [])))
  (by kernel_rfl) ?_
 refine aM (j0 (x) (e) ((aI.gr b).1) (by omega) (by omega) (by omega) (by omega) (by assumption)) ?_
 exact aq (aw.refl _)
theorem Kl (b:aI) (s:Nat→Int) (hw:b.gr.W):Pure Tryz.prog aW 105 [b.av,.agg (Lb s)] (.bool (gd b s)):=by
 have c0:=ew b hw
 have c1:=xF b (cX fun j=>s (3+j)) hw
 have c2:=Ms (s 1)
 have c3:=Ke b (s 14)
 have c4:=ye b (s 2) hw
 have c5:=er b.gr (s 16) hw
 have c6:=G1 b
 have c7:=Kw b (s 8) (s 9) (s 10) (s 15) (s 16) (s 17) (s 18) (s 19) (s 20) hw
 have K:=fun (g:((aR b=true∧dV b (cX fun j=>s (3+j))=true)∧(s 1≥0∧s 1≤1073741824))∧bG b.gr (s 14)=true)=>bE.1 g.1.1.1
 refine ar (own:=bk) Tryz.func105 (by kernel_rfl) mixed (by kernel_rfl)
  (let z2:=(bp b.1&&aQ b.1 (s 16));let z1:=(cX fun j=>s (3+j));let z0:=(decide (s 1≥0)&&decide (s 1≤1073741824));let y0:AV:=(.bool (lF b (s 8) (s 9) (s 10) (s 15) (s 16) (s 17) (s 18) (s 19) (s 20)));let y1:AV:=(.bool (gd b s));(.sc true 21 [.agg (aI.cells b)] (.bool (aR b)) (.sc ((!aR b)==false) 99 [.agg (aI.cells b),.agg [Zi (s 3),Zi (s 4),Zi (s 5),Zi (s 6),Zi (s 7),Zi (s 8),Zi (s 9),Zi (s 10),Zi (s 11),Zi (s 12),Zi (s 13)]] (.bool (dV b z1)) (.sc ((!aR b || !dV b z1)==false) 158 [Zi (s 1)] (.bool z0) (.sc ((!aR b || !dV b z1 || !z0)==false) 159 [.agg (aI.cells b),Zi (s 14)] (.bool (bG (aI.gr b) (s 14))) (.br (!aR b || !dV b z1 || !z0 || !bG b.1 (s 14)) (.out (.bool false) [] y1 []) (.sc true 63 [.agg (aI.cells b),Zi (s 2)] (.aT [Zi (mo b (s 2)),Zi (mK b (s 2))]) (.sc ((mK b (s 2) != 0||s 15 != mo b (s 2))==false) 61 [.agg [Zi (aI.gr b).1,Zi (aI.gr b).2,Zi (aI.gr b).3],Zi (s 16)] (.bool (bp (aI.gr b)&&aQ (aI.gr b) (s 16))) (.sc ((mK b (s 2) != 0||s 15 != mo b (s 2) || !z2)==false) 160 [.agg (aI.cells b),Zi (aI.gr b).3,Zi (s 14)] (Zi (ct b (aI.gr b).3 (s 14))) (.sc ((mK b (s 2) != 0||s 15 != mo b (s 2) || !z2||s 17 != ct b (aI.gr b).3 (s 14))==false) 160 [.agg (aI.cells b),Zi (mo b (s 2)),Zi (s 14)] (Zi (ct b (mo b (s 2)) (s 14))) (.br (mK b (s 2) != 0||s 15 != mo b (s 2) || !z2||s 17 != ct b (aI.gr b).3 (s 14)||s 18 != ct b (mo b (s 2)) (s 14)) (.out (.bool false) [] y1 []) (.br (s 0==1) (.out (.bool (s 19==0&&s 20==0)) [] y1 []) (.br (s 0==3) (.sc true 161 [.agg (aI.cells b),.agg [Zi (s 8),Zi (s 9),Zi (s 10)],.agg [Zi (s 15),Zi (s 16),Zi (s 17),Zi (s 18),Zi (s 19),Zi (s 20)]] y0 (.out y0 [] y1 [])) (.out (.bool false) [] y1 []))))))))))))))
  (by kernel_rfl) ?_
 refine aM (c0) ?_
 refine aV (fun h1=>c1) ?_
 refine aV (fun h2=>c2) ?_
 refine aV (fun h3=>c3) ?_
 refine aL (fun h4=>?_) (fun h4=>?_)
 ·have g4:=(az (az (az (aB aF) (aB aF)) (aB (aj aa aa))) (aB aF)) h4
  exact aq (aw.of_eq (congrArg _ (KL g4).symm))
 ·have g4:=(au (au (au (ay aC) (ay aC)) (ay (ah af af))) (ay aC)) h4
  refine aM (c4) ?_
  refine aV (fun h7=>c5) ?_
  refine aV (fun h8=>c6 ((aI.gr b).3) (s (14)) (by exact (K g4).G) (by exact (oQ (K g4)).1) (by exact bJ g4.2)) ?_
  refine aV (fun h9=>c6 (mo b (s (2))) (s (14)) (by exact (K g4).G) (by exact Hm (K g4).G _) (by exact bJ g4.2)) ?_
  refine aL (fun h10=>?_) (fun h10=>?_)
  ·have g10:=(az (az (az (az aS aS) (aB (aj aF aF))) aS) aS) h10
   exact aq (aw.of_eq (congrArg _ (La g10).symm))
  ·have g10:=(au (au (au (au aP aP) (ay (ah aC aC))) aP) aP) h10
   refine aL (fun h12=>?_) (fun h12=>?_)
   ·have g12:=ai h12
    exact aq ((by exact aw.of_eq (congrArg _ (IA (JB g4 g10) g12).symm)))
   ·have g12:=ao h12
    refine aL (fun h14=>?_) (fun h14=>?_)
    ·have g14:=ai h14
     refine aM (c7) ?_
     exact aq ((by exact aw.of_eq (congrArg _ (ND (JB g4 g10) g14).symm)))
    ·have g14:=ao h14
     exact aq ((by exact aw.of_eq (congrArg _ (M2 g12 g14).symm)))
theorem GS (b:aI) (s:Nat→Int) (hw:b.gr.W):Pure Tryz.prog aW 136 [b.av,.agg (Lb s)] (.bool (gd b s)):=by
 have c0:=fe b hw
 have c1:=th b (cX fun j=>s (3+j)) hw
 have c2:=F9 (s 1)
 have c3:=fun h=>BN b (s 2) h
 have c4:=uL b.gr (s 14)
 have c5:=fun h he=>rl b (s 2) h he
 have c6:=fun h=>dJ b.gr (s 16) h
 have c7:=GB b
 have c8:=Gw b (s 8) (s 9) (s 10) (s 15) (s 16) (s 17) (s 18) (s 19) (s 20) hw
 have K:=fun (g:(((aR b=true∧dV b (cX fun j=>s (3+j))=true)∧(s 1≥0∧s 1≤1073741824))∧oU b (s 2)=true)∧bG b.gr (s 14)=true)=>bE.1 g.1.1.1.1
 refine ar (own:=bk) Tryz.func136 (by kernel_rfl) mixed (by kernel_rfl)
  (let z2:=(fM b (s 2) b.3);let z1:=(cX fun j=>s (3+j));let z0:=(decide (s 1≥0)&&decide (s 1≤1073741824));let y0:AV:=(.bool (gd b s));let y1:List AV:=[Zi (aI.gr b).1,Zi (aI.gr b).2,Zi (aI.gr b).3];(.sc true 33 [.agg (aI.cells b)] (.bool (aR b)) (.sc ((!aR b)==false) 129 [.agg (aI.cells b),.agg [Zi (s 3),Zi (s 4),Zi (s 5),Zi (s 6),Zi (s 7),Zi (s 8),Zi (s 9),Zi (s 10),Zi (s 11),Zi (s 12),Zi (s 13)]] (.bool (dV b z1)) (.sc ((!aR b || !dV b z1)==false) 198 [Zi (s 1)] (.bool z0) (.sc ((!aR b || !dV b z1 || !z0)==false) 91 [.agg (aI.cells b),Zi (s 2)] (.bool (oU b (s 2))) (.sc ((!aR b || !dV b z1 || !z0 || !oU b (s 2))==false) 199 [.agg y1,Zi (s 14)] (.bool (bG (aI.gr b) (s 14))) (.br (!aR b || !dV b z1 || !z0 || !oU b (s 2) || !bG b.1 (s 14)) (.out (.bool false) [] y0 []) (.sc true 141 [.agg (aI.cells b),Zi (s 2)] (Zi (fM b (s 2) (aI.g2 b))) (.sc ((s 15 != fM b (s 2) b.3)==false) 81 [.agg y1,Zi (s 16)] (.bool (aQ (aI.gr b) (s 16))) (.sc ((s 15 != fM b (s 2) b.3 || !aQ b.1 (s 16))==false) 200 [.agg (aI.cells b),Zi (aI.gr b).3,Zi (s 14)] (Zi (ct b (aI.gr b).3 (s 14))) (.sc ((s 15 != fM b (s 2) b.3 || !aQ b.1 (s 16)||s 17 != ct b (aI.gr b).3 (s 14))==false) 200 [.agg (aI.cells b),Zi z2,Zi (s 14)] (Zi (ct b z2 (s 14))) (.br (s 15 != fM b (s 2) b.3 || !aQ b.1 (s 16)||s 17 != ct b (aI.gr b).3 (s 14)||s 18 != ct b z2 (s 14)) (.out (.bool false) [] y0 []) (.br (s 0==1) (.out (.bool (s 19==0&&s 20==0)) [] y0 []) (.sc ((s 0==3)==true) 201 [.agg (aI.cells b),.agg [Zi (s 8),Zi (s 9),Zi (s 10)],.agg [Zi (s 15),Zi (s 16),Zi (s 17),Zi (s 18),Zi (s 19),Zi (s 20)]] (.bool (lF b (s 8) (s 9) (s 10) (s 15) (s 16) (s 17) (s 18) (s 19) (s 20))) (.out (.bool (s 0==3&&lF b (s 8) (s 9) (s 10) (s 15) (s 16) (s 17) (s 18) (s 19) (s 20))) [] y0 [])))))))))))))))
  (by kernel_rfl) ?_
 refine aM (c0) ?_
 refine aV (fun h1=>c1) ?_
 refine aV (fun h2=>c2) ?_
 refine aV (fun h3=>c3 ((bE.1 (by simp at h3;exact h3.1.1)))) ?_
 refine aV (fun h4=>c4) ?_
 refine aL (fun h5=>?_) (fun h5=>?_)
 ·have g5:=(az (az (az (az (aB aF) (aB aF)) (aB (aj aa aa))) (aB aF)) (aB aF)) h5
  exact aq (aw.of_eq (congrArg _ (Mm g5).symm))
 ·have g5:=(au (au (au (au (ay aC) (ay aC)) (ay (ah af af))) (ay aC)) (ay aC)) h5
  refine aM (c5 (by exact K g5) (by exact (oG.1 (wq.1 g5.1.2).2.1).2)) ?_
  refine aV (fun h8=>c6 (by exact (K g5).G)) ?_
  refine aV (fun h9=>c7 ((aI.gr b).3) (s (14)) (by exact (K g5).G) (by exact (oQ (K g5)).1) (by exact bJ g5.2)) ?_
  refine aV (fun h10=>c7 (fM b (s (2)) b.3) (s (14)) (by exact (K g5).G) (by exact bR (K g5).G _) (by exact bJ g5.2)) ?_
  refine aL (fun h11=>?_) (fun h11=>?_)
  ·have g11:=(az (az (az aS (aB aF)) aS) aS) h11
   exact aq (aw.of_eq (congrArg _ (Mo g11).symm))
  ·have g11:=(au (au (au aP (ay aC)) aP) aP) h11
   refine aL (fun h13=>?_) (fun h13=>?_)
   ·have g13:=ai h13
    exact aq ((by exact aw.of_eq (congrArg _ (IA (Cw g5 g11) g13).symm)))
   ·have g13:=ao h13
    refine aV (fun h15=>c8) ?_
    exact aq ((by exact aw.of_eq (congrArg _ (MH (Cw g5 g11) g13).symm)))
end Go.Proofs.YtgnfjlekpgjehaaGreatDoor

namespace Go.Sp
open Go.IntKind (wrap)
open Int (toNat)
open Go Go.Am
theorem pj {x:Bool} (h:x=true→False):x=false:=by grind
theorem yp {s:aA} {i:Nat}:nj s i = !anyI (fun k=>s.lf k 0==s.lf i 0) i:=by
 rw [oA,List.not_any_eq_all_not];rfl
theorem Nv {s:aA} {i:Nat} (h:anyI (fun k=>s.lf k 0==s.lf i 0) i=true):nj s i=false:=by grind [yp]
theorem NI {s:aA} {i:Nat} (h:anyI (fun k=>s.lf k 0==s.lf i 0) i=false):nj s i=true:=by grind [yp]
def jK (a b:Int):Int:=if a<b then -1 else if b<a then 1 else 0
def sN (x y:df):Int:=if jK x.a y.a≠0 then jK x.a y.a else jK x.b y.b
theorem CI {x y:df}:decide (sN x y≥0) = !Bh x y:=by grind [sN,jK,Bh,decide]
structure yZ (n : Nat) (U : Nat → df) : Prop where
  nl : ∀ i, i < n → (U i).sp.nl < 9223372036854775808
  np : ∀ i, i < n → (U i).sp.np < 9223372036854775808
theorem Jz {u:df} (g:(((iE u.sp=false∨u.leaf<0)∨u.leaf≥u.sp.nl)∨¬u.a=u.sp.a)∨¬u.b=u.sp.lf u.leaf.toNat 0):rZ u=false:=pj fun h=>by grind [pE]
theorem Jp {u:df} (g:(((iE u.sp=true∧¬u.leaf<0)∧¬u.leaf≥u.sp.nl)∧u.a=u.sp.a)∧u.b=u.sp.lf u.leaf.toNat 0):rZ u=true:=pE.2 ⟨g.1.1.1.1,by omega,by omega,g.1.2,g.2⟩
theorem Pw {x y:df} (h:sN x y≥0):Bh x y=false:=by grind [CI,decide_eq_true,Bh]
theorem PL {x y:df} (h:¬sN x y≥0):Bh x y=true:=by have:=CI (x:=x) (y:=y);grind
theorem vU {n i:Nat} {p:Nat→Bool} (hi:i<n) (h:p i=false):(List.range n).all p=false:=pj fun e=>by grind
theorem jX {n:Nat} {p:Nat→Bool} (h:∀ i,i<n→p i=true):(List.range n).all p=true:=List.all_eq_true.2 fun i hi=>h i (List.mem_range.1 hi)
theorem Df {nb k:Nat} {E:Nat→Nat→Int} (h:dA nb (E k)=false):qn nb E k=false:=by grind [qn]
theorem BQ {nb k:Nat} {E:Nat→Nat→Int} (h:dA nb (E k)=true) (g:dM (bU E k) (E k)=true):qn nb E k=true:=by grind [qn]
theorem KU {nb k:Nat} {E:Nat→Nat→Int} (h:dA nb (E k)=true) (g:dA nb (E k)=false∨dM (bU E k) (E k)=false):qn nb E k=false:=by grind [qn]
theorem LI {x i:Nat} {E:Nat→Nat→Int} (h:dM (bU E x) (E x)=true):nw (bU E x) (E (toNat (x:Int))) i=bU E (x+1) i:=by
 rw [Int.toNat_natCast,nw,if_pos h];rfl
theorem Iv {nb:Nat} {B:Nat→Int} {ne x:Nat} {E:Nat→Nat→Int} (h1:¬(nb:Int)<5) (h2:¬(nb:Int)>105) (h3:¬(ne:Int)>1000) (e:x=ne) (h:∀ k,k<x→qn nb E k=true) :
  ((List.range nb).all fun i=>bU E x (i+0)==B i)=dp nb B ne E:=by grind [tz]
theorem oN {x y:Nat→Int}:kP x y=true↔x 0=y 0∧x 1=y 1∧x 2=y 2∧x 3=y 3∧x 4=y 4∧x 5=y 5∧x 6=y 6∧x 7=y 7∧x 8=y 8∧x 9=y 9∧x 10=y 10:=by
 simp [kP,List.range,List.range.loop]
theorem Jq {x r:Nat→Int} (g:r 0=x 0∧(r 1=x 1∧(r 2=x 2∧(r 3=x 3∧(r 4=x 4∧((r 5=x 5∧(r 6=x 6∧(r 7=x 7∧True)))∧(r 8=x 8∧(r 9=x 9∧(r 10=x 10∧True))))))))):kP x r=true:=by grind [oN]
theorem Jw {x r:Nat→Int} (g:¬r 0=x 0∨(¬r 1=x 1∨(¬r 2=x 2∨(¬r 3=x 3∨(¬r 4=x 4∨((¬r 5=x 5∨(¬r 6=x 6∨(¬r 7=x 7∨true=false)))∨(¬r 8=x 8∨(¬r 9=x 9∨(¬r 10=x 10∨true=false))))))))):kP x r=false:=eM fun h=>by simp_all [oN,Bool.true_eq_false,or_false]
theorem vF {x y:Nat→Int}:kP x y=kP y x:=by
 cases e:kP y x with
 | true=>grind [oN]
 | false=>exact eM fun h=>by grind [oN]
end Go.Sp

namespace Go.Proofs.YtgnfjlekpgjehaaGreatDoor
open Go.IntKind (wrap)
open Int (toNat)
open Go Go.Am Go.Sp
set_option maxRecDepth 100000
theorem pM (x l h:Int):Pure Tryz.prog aW 22 [.int .i64 x,.int .i64 l,.int .i64 h] (.bool (decide (x≥l)&&decide (x≤h))):=by
 refine ar (own:=bk) Tryz.func22 (by kernel_rfl) mixed (by kernel_rfl)
  (let y0:AV:=(.bool (decide (x≥l)&&decide (x≤h)));(.out y0 [] y0 []))
  (by kernel_rfl) ?_
 exact aq (aw.of_eq rfl)
theorem wV (b:aI) (x:Int):Pure Tryz.prog aW 23 [b.av,.int .i64 x] (.bool (ec b x)):=by
 refine ar (own:=bk) Tryz.func23 (by kernel_rfl) mixed (by kernel_rfl)
  (.out (.bool (decide (x≥1)&&decide (x<(aI.gr b).2))) [] (.bool (ec b x)) [])
  (by kernel_rfl) ?_
 exact aq (aw.of_eq rfl)
theorem Mg (c:de) (y:Int):Pure Tryz.prog aW 65 [.agg c.cells,.bH 1 (aO [.int .i64 y])] (.bool (c.key==y)):=by
 refine ar (own:=bk) Tryz.func65 (by kernel_rfl) mixed (by kernel_rfl)
  (.out (.bool (c.1==y)) [] (.bool (de.key c==y)) [])
  (by kernel_rfl) ?_
 exact aq (aw.of_eq rfl)
theorem Lt (n:Nat) (C:Nat→de) (y:Int) (hn:n<9223372036854775808):Pure Tryz.prog aW 59 [uy n C,.fn (.func 65) [] [.bH 1 (aO [.int .i64 y])]] (.int .i64 (aK (fun i=>(C i).key==y) n 0)):=by
 have c1:=fun i=>Mg (C i)
 refine ar (own:=bk) Tryz.func59 (by kernel_rfl) mixed (by kernel_rfl)
  (let z3:List AV:=[AV.bH 1 (aO [Zi y])];let z2:=(Fn.func (65:FuncId));let z0:={ x:Nat // x≤n∧(fun i=>aK (fun i=>de.key (C i)==y) n 0=aK (fun i=>de.key (C i)==y) (n - i) i) x };let y0:=(fun (x:z0)=>aY [0,1,7,8] [.aG 7 n fun i j=>aO (de.cells (C i)) j,AV.fn z2 [] z3,Zi n,Zi x.1] []);let y1:=(fun (x:z0)=>n - x.1);let y2:AV:=(Zi (aK (fun i=>de.key (C i)==y) n 0));(.loop (z0) y0 y1 (⟨0,⟨Nat.zero_le n,rfl⟩⟩) [0,1,7,8] [] [.aG 7 n fun i j=>aO (de.cells (C i)) j,AV.fn z2 [] z3,Zi n,Zi 0] [] (fun x0=>let z1:=(C (toNat (↑(x0.1):Int)));(.br (decide ((x0.1:Int)<(n:Int))) (.bf (0≤(x0.1:Int)∧(x0.1:Int)<(n:Int)) (.sc true 65 [.agg (de.cells z1),AV.bH 1 (aO [Zi y])] (.bool (de.key z1==y)) (.br (z1.1==y) (.out (Zi x0.1) [] y2 []) (.again (be 0 y0 y1 x0) [0,1,7,8] [] [.aG 7 n fun i j=>aO (de.cells (C i)) j,AV.fn z2 [] z3,Zi n,Zi (wrap .i64 ((x0.1:Int)+1))] [])))) (.out (Zi (-1)) [] y2 [])))))
  (by kernel_rfl) ?_
 refine aU (fun _ hs=>hs.le (⟨.refl _,.refl _,.refl _,.refl _,trivial⟩) (trivial)) (fun x0=>?_)
 try (have q0:=x0.2;dsimp only at q0)
 refine aL (fun h1=>?_) (fun h1=>?_)
 ·have g1:=af h1
  refine aD (by omega) ?_
  refine aM (c1 (toNat (↑(x0.1):Int)) (y)) ?_
  refine aL (fun h4=>?_) (fun h4=>?_)
  ·have g4:=ai h4
   try simp only [Int.toNat_natCast] at g4
   exact aq (aw.of_eq (congrArg _ (cr x0.2.2 (by omega) (beq_iff_eq.2 g4))))
  ·have g4:=ao h4
   try simp only [Int.toNat_natCast] at g4
   exact aN (⟨x0.1+1,by omega,bS x0.2.2 (by omega) (beq_eq_false_iff_ne.2 g4)⟩) (fun _ hs=>hs.le (⟨.refl _,.refl _,.refl _,aJ (by omega),trivial⟩) (trivial)) (by dsimp only;omega)
 ·have g1:=aa h1
  exact aq (aw.of_eq (congrArg _ (bW x0.2.2 (by omega))))
theorem sr (k:aX) (y:Int) (hn:k.nc<9223372036854775808):Pure Tryz.prog aW 28 [.agg k.cells,.int .i64 y] (.int .i64 (km k y)):=by
 have c1:=Lt k.nc k.C y hn
 refine ar (own:=bk) Tryz.func28 (by kernel_rfl) mixed (by kernel_rfl)
  (.sc true 59 [.aG 7 k.8 fun i j=>aO (de.cells (aX.C k i)) j,AV.fn (Fn.func 65) [] [AV.bH 1 fun k=>aO [Zi y] k]] (Zi (aK (fun i=>de.key (aX.C k i)==y) (aX.nc k) 0)) (.out (Zi (aK (fun i=>(aX.C k i).1==y) k.8 0)) [] (Zi (km k y)) []))
  (by kernel_rfl) ?_
 refine aM (c1) ?_
 exact aq (aw.refl _)
theorem Kz (s:Nat→Int) (y n:Int):Pure Tryz.prog aW 163 [.agg (Lb s),.bH 1 (aO [.int .i64 y]),.bH 1 (aO [.int .i64 n])] (.bool (s 2==y&&s 1==n)):=by
 refine ar (own:=bk) Tryz.func163 (by kernel_rfl) mixed (by kernel_rfl)
  (let z0:AV:=(.bool (s 2==y&&s 1==n));(.out z0 [] z0 []))
  (by kernel_rfl) ?_
 exact aq (aw.of_eq rfl)
theorem JZ (n:Nat) (I:Nat→Nat→Int) (y m:Int) (hn:n<9223372036854775808):Pure Tryz.prog aW 162 [qA n I,.fn (.func 163) [] [.bH 1 (aO [.int .i64 y]),.bH 1 (aO [.int .i64 m])]] (.int .i64 (aK (fun i=>I i 2==y&&I i 1==m) n 0)):=by
 have c1:=fun i=>Kz (I i)
 refine ar (own:=bk) Tryz.func162 (by kernel_rfl) mixed (by kernel_rfl)
  (let y1:=(fun (x:{ x:Nat // x≤n∧(fun (i:Nat)=>aK (fun (i:Nat)=>I i 2==y&&I i 1==m) n 0=aK (fun (i:Nat)=>I i 2==y&&I i 1==m) (n - i) i) x })=>n - x.1);let y2:AV:=(Zi (aK (fun (i:Nat)=>I i 2==y&&I i 1==m) n 0));let y3:List AV:=[AV.bH 1 (aO [Zi y]),AV.bH 1 (aO [Zi m])];let y0:=(fun (x:{ x:Nat // x≤n∧(fun (i:Nat)=>aK (fun (i:Nat)=>I i 2==y&&I i 1==m) n 0=aK (fun (i:Nat)=>I i 2==y&&I i 1==m) (n - i) i) x })=>aY [0,1,7,8] [AV.aG 21 n fun (i j:Nat)=>Zi (I i j),AV.fn (Fn.func (163:FuncId)) [] y3,Zi (↑n:Int),Zi (↑(x.1):Int)] []);(.loop ({ x:Nat // x≤n∧(fun (i:Nat)=>aK (fun (i:Nat)=>I i 2==y&&I i 1==m) n 0=aK (fun (i:Nat)=>I i 2==y&&I i 1==m) (n - i) i) x }) y0 y1 (⟨0,⟨Nat.zero_le n,rfl⟩⟩) ([0,1,7,8]) ([]) ([AV.aG 21 n fun (i j:Nat)=>Zi (I i j),AV.fn (Fn.func (163:FuncId)) [] y3,Zi (↑n:Int),Zi 0]) ([]) (fun x0=>(.br (decide ((↑x0.1:Int)<(↑n:Int))) (.bf ((0:Int)≤(↑x0.1:Int)∧(↑x0.1:Int)<(↑n:Int)) (.sc (true) 163 ([AV.agg [Zi (I (toNat (↑x0.1:Int)) 0),Zi (I (toNat (↑x0.1:Int)) 1),Zi (I (toNat (↑x0.1:Int)) 2),Zi (I (toNat (↑x0.1:Int)) 3),Zi (I (toNat (↑x0.1:Int)) 4),Zi (I (toNat (↑x0.1:Int)) 5),Zi (I (toNat (↑x0.1:Int)) 6),Zi (I (toNat (↑x0.1:Int)) 7),Zi (I (toNat (↑x0.1:Int)) 8),Zi (I (toNat (↑x0.1:Int)) 9),Zi (I (toNat (↑x0.1:Int)) 10),Zi (I (toNat (↑x0.1:Int)) 11),Zi (I (toNat (↑x0.1:Int)) 12),Zi (I (toNat (↑x0.1:Int)) 13),Zi (I (toNat (↑x0.1:Int)) 14),Zi (I (toNat (↑x0.1:Int)) 15),Zi (I (toNat (↑x0.1:Int)) 16),Zi (I (toNat (↑x0.1:Int)) 17),Zi (I (toNat (↑x0.1:Int)) 18),Zi (I (toNat (↑x0.1:Int)) 19),Zi (I (toNat (↑x0.1:Int)) 20)],AV.bH 1 (aO [Zi y]),AV.bH 1 (aO [Zi m])]) (AV.bool (I (toNat (↑x0.1:Int)) 2==y&&I (toNat (↑x0.1:Int)) 1==m)) (.br (I (toNat (↑x0.1:Int)) 2==y&&I (toNat (↑x0.1:Int)) 1==m) (.out (Zi (↑x0.1:Int)) [] y2 []) (.again (be 0 y0 y1 x0) ([0,1,7,8]) ([]) ([AV.aG 21 n fun (i j:Nat)=>Zi (I i j),AV.fn (Fn.func (163:FuncId)) [] y3,Zi (↑n:Int),Zi (wrap .i64 ((↑x0.1:Int)+1))]) ([]))))) (.out (Zi (-1)) [] y2 [])))))
  (by kernel_rfl) ?_
 refine aU (fun _ hs=>hs.le (⟨.refl _,.refl _,.refl _,.refl _,trivial⟩) (trivial)) (fun x0=>?_)
 try (have q0:=x0.2;dsimp only at q0)
 refine aL (fun h1=>?_) (fun h1=>?_)
 ·have g1:=af h1
  refine aD (by omega) ?_
  refine aM (c1 (toNat (↑x0.1:Int)) (y) (m)) ?_
  refine aL (fun h4=>?_) (fun h4=>?_)
  ·have g4:=(ah ai ai) h4
   try simp only [Int.toNat_natCast] at g4
   exact aq (aw.of_eq (congrArg _ (cr x0.2.2 (by omega) (by simpa using h4))))
  ·have g4:=(aj ao ao) h4
   try simp only [Int.toNat_natCast] at g4
   exact aN (⟨x0.1+1,by omega,bS x0.2.2 (by omega) (by simpa using h4)⟩) (fun _ hs=>hs.le (⟨.refl _,.refl _,.refl _,aJ (by omega),trivial⟩) (trivial)) (by dsimp only;omega)
 ·have g1:=aa h1
  exact aq (aw.of_eq (congrArg _ (bW x0.2.2 (by omega))))
theorem CY (k:aX) (y m:Int) (hn:k.ni<9223372036854775808):Pure Tryz.prog aW 106 [.agg k.cells,.int .i64 y,.int .i64 m] (.int .i64 (tu k y m)):=by
 have c1:=JZ k.ni k.I y m hn
 refine ar (own:=bk) Tryz.func106 (by kernel_rfl) mixed (by kernel_rfl)
  (.sc true 162 [.aG 21 k.16 fun i j=>Zi (k.17 i j),AV.fn (Fn.func 163) [] [AV.bH 1 fun k=>aO [Zi y] k,AV.bH 1 fun k=>aO [Zi m] k]] (Zi (aK (fun i=>aX.I k i 2==y&&aX.I k i 1==m) (aX.ni k) 0)) (.out (Zi (aK (fun i=>k.17 i 2==y&&k.17 i 1==m) k.16 0)) [] (Zi (tu k y m)) []))
  (by kernel_rfl) ?_
 refine aM (c1) ?_
 exact aq (aw.refl _)
theorem JQ (n:Nat) (R:Nat→Nat→Int) (r:Nat→Int) (hn:n<9223372036854775808):Pure Tryz.prog aW 104 [.aG 11 n fun i j=>.int .i64 (R i j),(cX r).av] (.int .i64 (aK (fun i=>kP (R i) r) n 0)):=by
 refine ar (own:=bk) Tryz.func104 (by kernel_rfl) mixed (by kernel_rfl)
  (let y1:=(fun (x:{ x:Nat // x≤n∧(fun (i:Nat)=>aK (fun (i:Nat)=>kP (R i) r) n 0=aK (fun (i:Nat)=>kP (R i) r) (n - i) i) x })=>n - x.1);let y2:AV:=(Zi (aK (fun (i:Nat)=>kP (R i) r) n 0));let y3:List (Option Ob):=[some ⟨11,1,true,bz.ba [fR.cells (cX r)]⟩];let y0:=(fun (x:{ x:Nat // x≤n∧(fun (i:Nat)=>aK (fun (i:Nat)=>kP (R i) r) n 0=aK (fun (i:Nat)=>kP (R i) r) (n - i) i) x })=>aY [0,3,7,8] [AV.aG 11 n fun (i j:Nat)=>Zi (R i j),AV.own 0 11 0 0 11,Zi (↑n:Int),Zi (↑(x.1):Int)] y3);(.loop ({ x:Nat // x≤n∧(fun (i:Nat)=>aK (fun (i:Nat)=>kP (R i) r) n 0=aK (fun (i:Nat)=>kP (R i) r) (n - i) i) x }) y0 y1 (⟨0,⟨Nat.zero_le n,rfl⟩⟩) ([0,3,7,8]) ([0]) ([AV.aG 11 n fun (i j:Nat)=>Zi (R i j),AV.own 0 11 0 0 11,Zi (↑n:Int),Zi 0]) (y3) (fun x0=>(.br (decide ((↑x0.1:Int)<(↑n:Int))) (.bf ((0:Int)≤(↑x0.1:Int)∧(↑x0.1:Int)<(↑n:Int)) (.br (r 0==R (toNat (↑x0.1:Int)) 0&&(r 1==R (toNat (↑x0.1:Int)) 1&&(r 2==R (toNat (↑x0.1:Int)) 2&&(r 3==R (toNat (↑x0.1:Int)) 3&&(r 4==R (toNat (↑x0.1:Int)) 4&&(r 5==R (toNat (↑x0.1:Int)) 5&&(r 6==R (toNat (↑x0.1:Int)) 6&&(r 7==R (toNat (↑x0.1:Int)) 7&&true))&&(r 8==R (toNat (↑x0.1:Int)) 8&&(r 9==R (toNat (↑x0.1:Int)) 9&&(r 10==R (toNat (↑x0.1:Int)) 10&&true))))))))) (.out (Zi (↑x0.1:Int)) [] y2 []) (.again (be 0 y0 y1 x0) ([0,3,7,8]) ([0]) ([AV.aG 11 n fun (i j:Nat)=>Zi (R i j),AV.own 0 11 0 0 11,Zi (↑n:Int),Zi (wrap .i64 ((↑x0.1:Int)+1))]) (y3)))) (.out (Zi (-1)) [] y2 [])))))
  (by kernel_rfl) ?_
 refine aU (fun _ hs=>hs.le (⟨.refl _,.refl _,.refl _,.refl _,trivial⟩) (⟨.refl _,trivial⟩)) (fun x0=>?_)
 try (have q0:=x0.2;dsimp only at q0)
 refine aL (fun h1=>?_) (fun h1=>?_)
 ·have g1:=af h1
  refine aD (by omega) ?_
  refine aL (fun h3=>?_) (fun h3=>?_)
  ·have g3:=(ah ai (ah ai (ah ai (ah ai (ah ai (ah (ah ai (ah ai (ah ai aC))) (ah ai (ah ai (ah ai aC))))))))) h3
   try simp only [Int.toNat_natCast] at g3
   exact aq (aw.of_eq (congrArg _ (cr (p:=fun i=>kP (R i) r) x0.2.2 (by omega) (Jq g3))))
  ·have g3:=(aj ao (aj ao (aj ao (aj ao (aj ao (aj (aj ao (aj ao (aj ao aF))) (aj ao (aj ao (aj ao aF))))))))) h3
   try simp only [Int.toNat_natCast] at g3
   exact aN (⟨x0.1+1,by omega,bS (p:=fun i=>kP (R i) r) x0.2.2 (by omega) (Jw g3)⟩) (fun _ hs=>hs.le (⟨.refl _,.refl _,.refl _,aJ (by omega),trivial⟩) (⟨.refl _,trivial⟩)) (by dsimp only;omega)
 ·have g1:=aa h1
  exact aq (aw.of_eq (congrArg _ (bW x0.2.2 (by omega))))
theorem um (n:Nat) (f:Nat→Int) (v:Int) (hn:n≤1000):Pure Tryz.prog aW 239 [.aG 1 n fun i _=>.int .i64 (f i),.int .i64 v] (.bool (decide (v∈(List.range n).map f))) :=
 (n6 ((List.range n).map f) v (by simp;omega)).via ⟨HQ,aw.refl _,trivial⟩
theorem HY (r h:Nat→Int) (i l:Int) (n:Nat) (P:Nat→Nat→Int) (hl:0≤l∧l≤5) (hn:n≤1000000) (hi:0≤i∧i<2^l.toNat) (hh:cC h 32) (hP:∀ k,k<n→cC (P k) 32) :
  Pure Tryz.prog aW 242 [.agg (bh r),.agg (bh h),.int .i64 l,.agg [.int .i64 i,dB n P]] (.bool ((n:Int)==l&&hEq (bD h i P n) r)):=by
 obtain ⟨m,rfl⟩:∃ m:Nat,l=m:=⟨l.toNat,by omega⟩
 have hi2:i<((2^m:Nat):Int):=by
  have:=hi.2
  rw [show (m:Int).toNat=m by omega] at this
  rw [Int.natCast_pow]
  exact this
 by_cases e:n=m
 ·subst e
  rw [show ((n:Int)==(n:Int))=true by simp,Bool.true_and]
  exact FQ r h i n P (by omega) hi.1 hi2 hh hP
 ·rw [show ((n:Int)==(m:Int))=false by simp;omega,Bool.false_and]
  exact If r h i m n P (by omega) e hn hi.1 hi2
theorem Da (n d:Nat) (h:Nat→Nat→Int) (hn:n=2^d) (hd:d≤5) (hb:∀ i,i<n→cC (h i) 32):Pure Tryz.prog aW 241 [dB n h] (.aT [.agg (bh (dT h d 0)),.int .i64 0]):=by
 subst hn
 exact FU d hd h hb
theorem MV (b:aI) (r:fR) (s:aA) (hw:b.gr.W) (hr:cC s.root 32) (hp:cC s.bI 32) (hf:∀ k,k<s.np→cC (s.pf k) 32) (hn:s.np≤1000000) (hl:s.nl≤1000):Pure Tryz.prog aW 170 [b.av,r.av,s.av] (.bool (mf b r s)):=by
 have c1:=Mb b r s.dX hw hr
 have c2:=w7 s.depth s.level s.index
 have c3:=ru s.l6
 have c4:=BP b s.dX s.level s.index s.l6 hr hp
 have c5:=fun x r1 r2 hv ha hk=>Fu b s.a (l5 b s) x r1 r2 hw hv ha hk
 have c6:=fun N h1 h2 h3 h4=>FV b N h1 h2 (ki s) hw h3 h4
 have c7:=fun n h1 h2 h3=>Da n (ny s) (fun i=>fX (ki s i)) h1 h2 h3
 have c8:=fun h1 h2 h3=>HY s.root (dK s) s.kg s.level s.np s.pf h1 hn h2 h3 hf
 refine ar (own:=bk) Tryz.func170 (by kernel_rfl) mixed (by kernel_rfl)
  (let z8:=(fun i=>ki s (i+0));let z7:=(bh s.13++[Zi s.14,Zi s.15]);let z6:AV:=(.bool (mf b r s));let z5:=(bh (dT (fun i=>fX (ki s i)) (ny s) 0));let z4:=(Zi s.1::Zi s.2::Zi s.3::Zi s.4::Zi s.5::(bh s.6++[Zi s.7,Zi s.8,Zi s.9,Zi s.10]));let z3:=(iL (aI.gr b).2 (aA.dX s) s.11 s.12 (aA.l6 s));let z1:={ x:Nat // x≤aA.nl s∧(fun (x:Nat)=>∀ (j:Nat),j<x→wg b s j=true) x };let z0:=(fun (x:z1)=>aY [2,3,5,7,67,68,8,69] [.agg (aA.cells s),.own 0 6 0 0 6,.own 1 80 0 0 80,Zi z3,.aG 3 s.16 fun i j=>Zi (s.17 i j),Zi s.16,.aZ 2 1 0 (x.1),Zi x.1] [some ⟨6,1,true,.ba [aI.cells b]⟩,some ⟨80,1,true,.ba [aA.cells s]⟩,some ⟨(1:Nat),x.1,true,.fn fun i x=>Zi (ki s i)⟩]);(.sc true 234 [.agg (aI.cells b),.agg (fR.cells r),.agg z4] (.bool (fc b r (aA.dX s))) (.sc ((!fc b r (aA.dX s))==false) 235 [Zi s.4,.agg [Zi s.11,Zi s.12]] (.bool (bT (aA.depth s) (aA.level s) (aA.index s))) (.sc ((!fc b r (aA.dX s) || !bT s.4 s.11 s.12)==false) 236 [.agg z7] (.bool (fL (i9.time (aA.l6 s)) (i9.number (aA.l6 s)))) (.bf (((!fc b r (aA.dX s) || !bT s.4 s.11 s.12 || !fL s.14 s.15)==false)=true→(0:Int)≤wrap .i64 (s.4 - s.11)) (.br (!fc b r (aA.dX s) || !bT s.4 s.11 s.12 || !fL s.14 s.15||(s.16:Int) != wrap .i64 ((1:Int)*(2:Int)^min (toNat (wrap .i64 (s.4 - s.11))) 64)||s.18 != s.12) (.out (.bool false) [] z6 []) (.sc true 237 [.agg (aI.cells b),.agg z4,.agg [Zi s.11,Zi s.12],.agg z7] (Zi (iL (bL.q (aI.gr b)) (aA.dX s) (aA.level s) (aA.index s) (aA.l6 s))) (.loop (z1) z0 (fun (x:z1)=>aA.nl s - x.1) (⟨(0:Nat),⟨Nat.zero_le (aA.nl s),fun (j:Nat) (hj:j<0)=>absurd hj (Nat.not_lt_zero j)⟩⟩) [2,3,5,7,67,68,8,69] [0,16,754] [.agg (aA.cells s),.own 0 6 0 0 6,.own 1 80 0 0 80,Zi z3,.aG 3 s.16 fun i j=>Zi (s.17 i j),Zi s.16,.bc,Zi 0] [some ⟨6,1,true,.ba [aI.cells b]⟩,some ⟨80,1,true,.ba [aA.cells s]⟩,some ⟨1,0,true,.ty (999999999:TypeId) (.ba [])⟩] (fun x7=>let z2:Nat:=(toNat (x7.1:Int));(.br (decide ((x7.1:Int)<(s.16:Int))) (.bf (0≤(x7.1:Int)∧(x7.1:Int)<(s.16:Int)) (.sc true 238 [.agg (aI.cells b),Zi s.5,Zi z3,.agg [Zi (s.17 z2 0),Zi (s.17 z2 1),Zi (s.17 z2 2)]] (.bool (fI b (aA.a s) (l5 b s) (s.17 z2 0) (s.17 z2 1) (s.17 z2 2))) (.sc ((!fI b s.5 (l5 b s) (s.17 z2 0) (s.17 z2 1) (s.17 z2 2))==false) 239 [.aG 1 x7.1 fun r k=>Zi (ki s (r+0)),Zi (s.17 z2 0)] (.bool (decide (s.17 z2 0∈List.map z8 (List.range x7.1)))) (.br (!fI b s.5 (l5 b s) (s.17 z2 0) (s.17 z2 1) (s.17 z2 2)||decide (s.17 z2 0∈List.map z8 (List.range x7.1))) (.out (.bool false) [] z6 []) (.bf ((x7.1+1)*8≤140737488355328) (.again (be 0 z0 (fun (x:z1)=>aA.nl s - x.1) x7) [2,3,5,7,67,68,8,69] [0,1,187] [.agg (aA.cells s),.own 0 6 0 0 6,.own 1 80 0 0 80,Zi z3,.aG 3 s.16 fun i j=>Zi (s.17 i j),Zi s.16,.aZ 2 1 0 (x7.1+1),Zi (wrap .i64 ((x7.1:Int)+(1:Int)))] [some ⟨6,1,true,.ba [aI.cells b]⟩,some ⟨80,1,true,.ba [aA.cells s]⟩,some ⟨1,x7.1+1,true,.fn fun i j=>Zi (bif Nat.blt i x7.1 then ki s i else aE (aO [Zi (s.17 (toNat (↑(x7.1):Int)) 0)] j))⟩])))))) (.dc true 240 [.agg (aI.cells b),.aG 1 x7.1 fun r k=>Zi (ki s (r+0))] (.aT [dB x7.1 fun i=>fX (ki s i),Zi 0]) (.ff (.sc true 241 [.aG 32 x7.1 fun i j=>Zb (fX (ki s i) j)] (.aT [.agg z5,Zi 0]) (.sc true 242 [.agg (bh s.6),.agg z5,Zi s.11,.agg [Zi s.18,.aG 32 s.19 fun i j=>Zb (s.20 i j)]] (.bool ((↑(aA.np s):Int)==aA.level s&&hEq (bD (dK s) (aA.kg s) (aA.pf s) (aA.np s)) (aA.root s))) (.out (.bool ((s.19:Int)==s.11&&hEq (bD (dK s) s.18 s.20 s.19) s.6)) [] z6 [])))))))))))))))
  (by kernel_rfl) ?_
 refine aM (c1) ?_
 refine aV (fun h1=>c2) ?_
 refine aV (fun h2=>c3) ?_
 refine aD (fun hr=>by have hr:=(cY (au (au (ay aC) (ay aC)) (ay aC))) hr;have k:=iH hr.1.2;have e:=(wz hr.1.2).2.1;rw [e];omega) ?_
 refine aL (fun h4=>?_) (fun h4=>?_)
 ·have g4:=(az (az (az (az (aB aF) (aB aF)) (aB aF)) aS) aS) h4
  exact aq (aw.of_eq (congrArg _ (IC g4).symm))
 ·have g4:=(au (au (au (au (ay aC) (ay aC)) (ay aC)) aP) aP) h4
  refine aM (c4 (by (cases iF g4;assumption)) (by (cases iF g4;assumption))) ?_
  refine aU (fun _ hs=>hs.le (by repeat' (first|exact trivial|(first|exact aw.refl _|exact aJ (by omega)|exact aw.nil rfl|exact aw.of_eq (congrArg (AV.aZ _ _ _) (by first|omega|(dsimp only;omega)))|exact aw.of_eq (congrArg (AV.int _) (by first|omega|(dsimp only;omega))))|refine And.intro ?_ ?_)) (by repeat' (first|exact trivial|(first|exact aH.refl _|exact aH.bw|exact aH.zero|exact aH.push rfl rfl|exact aH.cm rfl|exact aH.len (by omega)|exact aH.row (by repeat' (first|exact trivial|(first|exact aw.refl _|exact aJ (by omega)|exact aw.nil rfl|exact aw.of_eq (congrArg (AV.aZ _ _ _) (by first|omega|(dsimp only;omega)))|exact aw.of_eq (congrArg (AV.int _) (by first|omega|(dsimp only;omega))))|refine And.intro ?_ ?_)))|refine And.intro ?_ ?_))) (fun x7=>?_)
  try (have q7:=x7.2;dsimp only at q7)
  refine aL (fun h8=>?_) (fun h8=>?_)
  ·have g8:=af h8
   refine aD (by omega) ?_
   refine aM (c5 (s.17 (toNat (↑x7.1:Int)) (0)) (s.17 (toNat (↑x7.1:Int)) (1)) (s.17 (toNat (↑x7.1:Int)) (2)) (by (cases iF g4;assumption)) (by (cases iF g4;assumption)) (by (cases iF g4;assumption))) ?_
   refine aV (fun h11=>um (x7.1) (fun (i:Nat)=>ki s (i+0)) (s.17 (toNat (↑x7.1:Int)) (0)) (by omega)) ?_
   refine aL (fun h12=>?_) (fun h12=>?_)
   ·have g12:=(az (aB aF) af) h12
    try simp only [Int.toNat_natCast] at g12
    exact aq (aw.of_eq (congrArg _ (Ev (by omega) (w8 g12)).symm))
   ·have g12:=(au (ay aC) aa) h12
    try simp only [Int.toNat_natCast] at g12
    refine aD (by omega) ?_
    exact aN (⟨x7.1+1,by omega,cF x7.2.2 (yc g12)⟩) (fun _ hs=>hs.le (by repeat' (first|exact trivial|(first|exact aw.refl _|exact aJ (by omega)|exact aw.nil rfl|exact aw.of_eq (congrArg (AV.aZ _ _ _) (by first|omega|(dsimp only;omega)))|exact aw.of_eq (congrArg (AV.int _) (by first|omega|(dsimp only;omega))))|refine And.intro ?_ ?_)) (by repeat' (first|exact trivial|(first|exact aH.refl _|exact aH.bw|exact aH.zero|exact aH.push rfl rfl|exact aH.cm rfl|exact aH.len (by omega)|exact aH.row (by repeat' (first|exact trivial|(first|exact aw.refl _|exact aJ (by omega)|exact aw.nil rfl|exact aw.of_eq (congrArg (AV.aZ _ _ _) (by first|omega|(dsimp only;omega)))|exact aw.of_eq (congrArg (AV.int _) (by first|omega|(dsimp only;omega))))|refine And.intro ?_ ?_)))|refine And.intro ?_ ?_))) (by (dsimp only;omega))
  ·have g8:=aa h8
   refine bM (c6 (x7.1) (by (cases iF g4;rw [show x7.1=s.nl by omega];assumption)) (by (cases iF g4;rw [show x7.1=s.nl by omega];assumption)) (by (cases iF g4;assumption)) (by exact fun i hi=>Kf (x7.2.2 i hi))) ?_
   refine b9 ?_
   refine aM (c7 (x7.1) (by (cases iF g4;rw [show x7.1=s.nl by omega];assumption)) (by (cases iF g4;assumption)) (by exact fun i _=>pn _)) ?_
   refine aM (c8 (by (cases iF g4;assumption)) (by (cases iF g4;assumption)) (by (cases iF g4;assumption))) ?_
   exact aq (aw.of_eq (congrArg _ (Jh (iF g4).hd (fun i hi=>x7.2.2 i (by omega))).symm))
theorem L7 (s:aA) (n:Nat) (h1:n=2^ny s) (hd:ny s≤5):Pure Tryz.prog aW 209 [dB n (fun i=>fX (ki s i)),.int .i64 0,.int .i64 0] (.agg (bh (dK s))):=by
 subst h1
 have h:=sA (ny s) hd (fun i=>fX (ki s i)) (fun i _=>pn _) (ny s) 0 (Nat.le_refl _) (by rw [Nat.sub_self];decide)
 rwa [Nat.sub_self] at h
theorem CX (b:aI) (r:fR) (s:aA) (hw:b.gr.W) (hr:cC s.root 32) (hp:cC s.bI 32) (hf:∀ k,k<s.np→cC (s.pf k) 32) (hn:s.np≤1000000) (hl:s.nl≤1000):Pure Tryz.prog aW 138 [b.av,r.av,s.av] (.bool (mf b r s)):=by
 have c0:=fe b hw
 have c1:=Ie b r s.dX hw hr
 have c2:=zr s.depth s.level s.index
 have c3:=Eh s.l6
 have c9:=fun h=>rM s.depth s.level s.index h
 have c4:=yv b s.dX s.level s.index s.l6 hr hp
 have c5:=fun x r1 r2 hv ha hk=>Hh b s.a (l5 b s) x r1 r2 hv ha hk
 have c6:=fun n h1=>G5 n h1 (ki s)
 have c7:=L7 s
 have c8:=fun h1 h2 h3=>KT (dK s) s.kg s.np s.pf hn h1 h2 h3 hf
 refine ar (own:=bk) Tryz.func138 (by kernel_rfl) mixed (by kernel_rfl)
  (let z5:=(bh s.13++[Zi s.14,Zi s.15]);let z4:AV:=(.bool (mf b r s));let z3:=(Zi s.1::Zi s.2::Zi s.3::Zi s.4::Zi s.5::(bh s.6++[Zi s.7,Zi s.8,Zi s.9,Zi s.10]));let z2:={ x:Nat // x≤aA.nl s∧(fun (x:Nat)=>∀ (j:Nat),j<x→wg b s j=true) x };let z0:=(iL (aI.gr b).2 (aA.dX s) s.11 s.12 (aA.l6 s));(.sc true 33 [.agg (aI.cells b)] (.bool (aR b)) (.sc ((!aR b)==false) 202 [.agg (aI.cells b),.agg (fR.cells r),.agg z3] (.bool (fc b r (aA.dX s))) (.sc ((!aR b || !fc b r (aA.dX s))==false) 203 [Zi s.4,.agg [Zi s.11,Zi s.12]] (.bool (bT (aA.depth s) (aA.level s) (aA.index s))) (.sc ((!aR b || !fc b r (aA.dX s) || !bT s.4 s.11 s.12)==false) 204 [.agg z5] (.bool (fL (i9.time (aA.l6 s)) (i9.number (aA.l6 s)))) (.br (!aR b || !fc b r (aA.dX s) || !bT s.4 s.11 s.12 || !fL s.14 s.15) (.out (.bool false) [] z4 []) (.sc true 205 [Zi s.4,.agg [Zi s.11,Zi s.12]] (.aT [Zi (db (aA.depth s) (aA.level s) (aA.index s)),Zi (dg (aA.depth s) (aA.level s) (aA.index s))]) (.br ((s.16:Int) != wrap .i64 (dg s.4 s.11 s.12 - db s.4 s.11 s.12)||s.18 != s.12||(s.19:Int) != s.11) (.out (.bool false) [] z4 []) (.sc true 206 [.agg (aI.cells b),.agg z3,.agg [Zi s.11,Zi s.12],.agg z5] (Zi (iL (bL.q (aI.gr b)) (aA.dX s) (aA.level s) (aA.index s) (aA.l6 s))) (.loop (z2) (fun (x:z2)=>aY [3,5,9,10,11] [.own 0 6 0 0 6,.own 1 80 0 0 80,Zi z0,.aZ 2 1 0 (x.1),Zi x.1] [some ⟨6,1,true,.ba [aI.cells b]⟩,some ⟨80,1,true,.ba [aA.cells s]⟩,some ⟨(1:Nat),x.1,true,.fn fun i x=>Zi (ki s i)⟩]) (fun (x:z2)=>aA.nl s - x.1) (⟨(0:Nat),⟨Nat.zero_le (aA.nl s),fun (j:Nat) (hj:j<0)=>absurd hj (Nat.not_lt_zero j)⟩⟩) [3,5,9,10,11] [0,16,882] [.own 0 6 0 0 6,.own 1 80 0 0 80,Zi z0,.bc,Zi 0] [some ⟨6,1,true,.ba [aI.cells b]⟩,some ⟨80,1,true,.ba [aA.cells s]⟩,some ⟨1,0,true,.ty (999999999:TypeId) (.ba [])⟩] (fun x10=>let z1:={ x:Nat // x≤x10.1∧(fun (k:Nat)=>∀ (j:Nat),j<k→¬ki s j=ki s (x10.1)) x };(.br (decide ((x10.1:Int)<(s.16:Int))) (.bf (0≤(x10.1:Int)∧(x10.1:Int)<(s.16:Int)) (.sc true 207 [.agg (aI.cells b),Zi s.5,Zi z0,.agg [Zi (s.17 (toNat (x10.1:Int)) 0),Zi (s.17 (toNat (x10.1:Int)) 1),Zi (s.17 (toNat (x10.1:Int)) 2)]] (.bool (fI b (aA.a s) (l5 b s) (s.17 (toNat (x10.1:Int)) 0) (s.17 (toNat (x10.1:Int)) 1) (s.17 (toNat (x10.1:Int)) 2))) (.br (!fI b s.5 (l5 b s) (s.17 (toNat (x10.1:Int)) 0) (s.17 (toNat (x10.1:Int)) 1) (s.17 (toNat (x10.1:Int)) 2)) (.out (.bool false) [] z4 []) (.loop (z1) (fun (x:z1)=>aY [3,5,9,10,11,12] [.own 0 6 0 0 6,.own 1 80 0 0 80,Zi z0,.aZ 2 1 0 x10.1,Zi x10.1,Zi x.1] [some ⟨6,1,true,.ba [aI.cells b]⟩,some ⟨80,1,true,.ba [aA.cells s]⟩,some ⟨1,x10.1,true,.fn fun i j=>Zi (ki s i)⟩]) (fun (x:z1)=>x10.1 - x.1) (⟨(0:Nat),⟨Nat.zero_le (x10.1),fun (j:Nat) (hj:j<0)=>absurd hj (Nat.not_lt_zero j)⟩⟩) [3,5,9,10,11,12] [0,1,2] [.own 0 6 0 0 6,.own 1 80 0 0 80,Zi z0,.aZ 2 1 0 x10.1,Zi x10.1,Zi 0] [some ⟨6,1,true,.ba [aI.cells b]⟩,some ⟨80,1,true,.ba [aA.cells s]⟩,some ⟨1,x10.1,true,.fn fun i j=>Zi (ki s i)⟩] (fun x16=>(.br (decide ((x16.1:Int)<(x10.1:Int))) (.bf (0≤(x16.1:Int)∧(x16.1:Int)<(s.16:Int)) (.bf (0≤(x10.1:Int)∧(x10.1:Int)<(s.16:Int)) (.br (s.17 (toNat (x16.1:Int)) 0==s.17 (toNat (x10.1:Int)) 0) (.out (.bool false) [] z4 []) (.again (be 0 (fun (x:z1)=>aY [3,5,9,10,11,12] [.own 0 6 0 0 6,.own 1 80 0 0 80,Zi z0,.aZ 2 1 0 x10.1,Zi x10.1,Zi x.1] [some ⟨6,1,true,.ba [aI.cells b]⟩,some ⟨80,1,true,.ba [aA.cells s]⟩,some ⟨1,x10.1,true,.fn fun i j=>Zi (ki s i)⟩]) (fun (x:z1)=>x10.1 - x.1) x16) [3,5,9,10,11,12] [0,1,2] [.own 0 6 0 0 6,.own 1 80 0 0 80,Zi z0,.aZ 2 1 0 x10.1,Zi x10.1,Zi (wrap .i64 ((x16.1:Int)+(1:Int)))] [some ⟨6,1,true,.ba [aI.cells b]⟩,some ⟨80,1,true,.ba [aA.cells s]⟩,some ⟨1,x10.1,true,.fn fun i j=>Zi (ki s i)⟩])))) (.bf (0≤(x10.1:Int)∧(x10.1:Int)<(s.16:Int)) (.bf ((x10.1+1)*8≤140737488355328) (.again (be 0 (fun (x:z2)=>aY [3,5,9,10,11] [.own 0 6 0 0 6,.own 1 80 0 0 80,Zi z0,.aZ 2 1 0 (x.1),Zi x.1] [some ⟨6,1,true,.ba [aI.cells b]⟩,some ⟨80,1,true,.ba [aA.cells s]⟩,some ⟨(1:Nat),x.1,true,.fn fun i x=>Zi (ki s i)⟩]) (fun (x:z2)=>aA.nl s - x.1) x10) [3,5,9,10,11] [0,1,91] [.own 0 6 0 0 6,.own 1 80 0 0 80,Zi z0,.aZ 2 1 0 (x10.1+1),Zi (wrap .i64 ((x10.1:Int)+(1:Int)))] [some ⟨6,1,true,.ba [aI.cells b]⟩,some ⟨80,1,true,.ba [aA.cells s]⟩,some ⟨1,x10.1+1,true,.fn fun i j=>Zi (bif Nat.blt i x10.1 then ki s i else aE (aO [Zi (s.17 (toNat (x10.1:Int)) 0)] j))⟩]))))))))) (.dc true 210 [.aG 1 x10.1 fun r k=>Zi (ki s (r+0))] (dB x10.1 fun i=>fX (ki s i)) (.sc true 209 [.aG 32 x10.1 fun i j=>Zb (fX (ki s i) j),Zi 0,Zi 0] (.agg (bh (dK s))) (.sc true 208 [.agg (bh (dK s)),.agg [Zi s.18,.aG 32 s.19 fun i j=>Zb (s.20 i j)]] (.agg (bh (bD (dK s) (aA.kg s) (aA.pf s) (aA.np s)))) (.out (.bool (bD (dK s) s.18 s.20 s.19 0==s.6 0&&(bD (dK s) s.18 s.20 s.19 1==s.6 1&&(bD (dK s) s.18 s.20 s.19 2==s.6 2&&(bD (dK s) s.18 s.20 s.19 3==s.6 3&&(bD (dK s) s.18 s.20 s.19 4==s.6 4&&(bD (dK s) s.18 s.20 s.19 5==s.6 5&&(bD (dK s) s.18 s.20 s.19 6==s.6 6&&(bD (dK s) s.18 s.20 s.19 7==s.6 7&&(bD (dK s) s.18 s.20 s.19 8==s.6 8&&(bD (dK s) s.18 s.20 s.19 9==s.6 9&&(bD (dK s) s.18 s.20 s.19 10==s.6 10&&(bD (dK s) s.18 s.20 s.19 11==s.6 11&&(bD (dK s) s.18 s.20 s.19 12==s.6 12&&(bD (dK s) s.18 s.20 s.19 13==s.6 13&&(bD (dK s) s.18 s.20 s.19 14==s.6 14&&(bD (dK s) s.18 s.20 s.19 15==s.6 15&&(bD (dK s) s.18 s.20 s.19 16==s.6 16&&(bD (dK s) s.18 s.20 s.19 17==s.6 17&&(bD (dK s) s.18 s.20 s.19 18==s.6 18&&(bD (dK s) s.18 s.20 s.19 19==s.6 19&&(bD (dK s) s.18 s.20 s.19 20==s.6 20&&(bD (dK s) s.18 s.20 s.19 21==s.6 21&&(bD (dK s) s.18 s.20 s.19 22==s.6 22&&(bD (dK s) s.18 s.20 s.19 23==s.6 23&&(bD (dK s) s.18 s.20 s.19 24==s.6 24&&(bD (dK s) s.18 s.20 s.19 25==s.6 25&&(bD (dK s) s.18 s.20 s.19 26==s.6 26&&(bD (dK s) s.18 s.20 s.19 27==s.6 27&&(bD (dK s) s.18 s.20 s.19 28==s.6 28&&(bD (dK s) s.18 s.20 s.19 29==s.6 29&&(bD (dK s) s.18 s.20 s.19 30==s.6 30&&(bD (dK s) s.18 s.20 s.19 31==s.6 31&&true))))))))))))))))))))))))))))))))) [] z4 []))))))))))))))))
  (by kernel_rfl) ?_
 refine aM (c0) ?_
 refine aV (fun h1=>c1) ?_
 refine aV (fun h2=>c2) ?_
 refine aV (fun h3=>c3) ?_
 refine aL (fun h4=>?_) (fun h4=>?_)
 ·have g4:=(az (az (az (aB aF) (aB aF)) (aB aF)) (aB aF)) h4
  exact aq (aw.of_eq (congrArg _ (KG g4).symm))
 ·have g4:=(au (au (au (ay aC) (ay aC)) (ay aC)) (ay aC)) h4
  refine aM (c9 (g4.1.2)) ?_
  refine aL (fun h7=>?_) (fun h7=>?_)
  ·have g7:=(az (az aS aS) aS) h7
   exact aq (aw.of_eq (congrArg _ (F7 g4 g7).symm))
  ·have g7:=(au (au aP aP) aP) h7
   refine aM (c4 (by (cases iQ g4 g7;assumption)) (by (cases iQ g4 g7;assumption))) ?_
   refine aU (fun _ hs=>hs.le (by repeat' (first|exact trivial|(first|exact aw.refl _|exact aJ (by omega)|exact aw.nil rfl|exact aw.of_eq (congrArg (AV.aZ _ _ _) (by first|omega|(dsimp only;omega)))|exact aw.of_eq (congrArg (AV.int _) (by first|omega|(dsimp only;omega))))|refine And.intro ?_ ?_)) (by repeat' (first|exact trivial|(first|exact aH.refl _|exact aH.bw|exact aH.zero|exact aH.push rfl rfl|exact aH.cm rfl|exact aH.len (by omega)|exact aH.row (by repeat' (first|exact trivial|(first|exact aw.refl _|exact aJ (by omega)|exact aw.nil rfl|exact aw.of_eq (congrArg (AV.aZ _ _ _) (by first|omega|(dsimp only;omega)))|exact aw.of_eq (congrArg (AV.int _) (by first|omega|(dsimp only;omega))))|refine And.intro ?_ ?_)))|refine And.intro ?_ ?_))) (fun x10=>?_)
   try (have q10:=x10.2;dsimp only at q10)
   refine aL (fun h11=>?_) (fun h11=>?_)
   ·have g11:=af h11
    refine aD (by omega) ?_
    refine aM (c5 (s.17 (toNat (↑x10.1:Int)) (0)) (s.17 (toNat (↑x10.1:Int)) (1)) (s.17 (toNat (↑x10.1:Int)) (2)) (by exact bE.1 (iQ g4 g7).v) (by (cases iQ g4 g7;assumption)) (by (cases iQ g4 g7;assumption))) ?_
    refine aL (fun h14=>?_) (fun h14=>?_)
    ·have g14:=(aB aF) h14
     try simp only [Int.toNat_natCast] at g14
     exact aq (aw.of_eq (congrArg _ (Ev (by omega) (NY g14)).symm))
    ·have g14:=(ay aC) h14
     try simp only [Int.toNat_natCast] at g14
     refine aU (fun _ hs=>hs.le (by repeat' (first|exact trivial|(first|exact aw.refl _|exact aJ (by omega)|exact aw.nil rfl|exact aw.of_eq (congrArg (AV.aZ _ _ _) (by first|omega|(dsimp only;omega)))|exact aw.of_eq (congrArg (AV.int _) (by first|omega|(dsimp only;omega))))|refine And.intro ?_ ?_)) (by repeat' (first|exact trivial|(first|exact aH.refl _|exact aH.bw|exact aH.zero|exact aH.push rfl rfl|exact aH.cm rfl|exact aH.len (by omega)|exact aH.row (by repeat' (first|exact trivial|(first|exact aw.refl _|exact aJ (by omega)|exact aw.nil rfl|exact aw.of_eq (congrArg (AV.aZ _ _ _) (by first|omega|(dsimp only;omega)))|exact aw.of_eq (congrArg (AV.int _) (by first|omega|(dsimp only;omega))))|refine And.intro ?_ ?_)))|refine And.intro ?_ ?_))) (fun x16=>?_)
     try (have q16:=x16.2;dsimp only at q16)
     refine aL (fun h17=>?_) (fun h17=>?_)
     ·have g17:=af h17
      refine aD (by omega) ?_
      refine aD (by omega) ?_
      refine aL (fun h20=>?_) (fun h20=>?_)
      ·have g20:=ai h20
       try simp only [Int.toNat_natCast] at g20
       exact aq (aw.of_eq (congrArg _ (Ev (i:=x10.1) (by omega) (NW (by omega) g20)).symm))
      ·have g20:=ao h20
       try simp only [Int.toNat_natCast] at g20
       exact aN (⟨x16.1+1,by omega,ne_next x16.2.2 g20⟩) (fun _ hs=>hs.le (by repeat' (first|exact trivial|(first|exact aw.refl _|exact aJ (by omega)|exact aw.nil rfl|exact aw.of_eq (congrArg (AV.aZ _ _ _) (by first|omega|(dsimp only;omega)))|exact aw.of_eq (congrArg (AV.int _) (by first|omega|(dsimp only;omega))))|refine And.intro ?_ ?_)) (by repeat' (first|exact trivial|(first|exact aH.refl _|exact aH.bw|exact aH.zero|exact aH.push rfl rfl|exact aH.cm rfl|exact aH.len (by omega)|exact aH.row (by repeat' (first|exact trivial|(first|exact aw.refl _|exact aJ (by omega)|exact aw.nil rfl|exact aw.of_eq (congrArg (AV.aZ _ _ _) (by first|omega|(dsimp only;omega)))|exact aw.of_eq (congrArg (AV.int _) (by first|omega|(dsimp only;omega))))|refine And.intro ?_ ?_)))|refine And.intro ?_ ?_))) (by (dsimp only;omega))
     ·have g17:=aa h17
      refine aD (by omega) ?_
      refine aD (by omega) ?_
      exact aN (⟨x10.1+1,by omega,cF x10.2.2 (OV g14 (fun j hj=>x16.2.2 j (by omega)))⟩) (fun _ hs=>hs.le (by repeat' (first|exact trivial|(first|exact aw.refl _|exact aJ (by omega)|exact aw.nil rfl|exact aw.of_eq (congrArg (AV.aZ _ _ _) (by first|omega|(dsimp only;omega)))|exact aw.of_eq (congrArg (AV.int _) (by first|omega|(dsimp only;omega))))|refine And.intro ?_ ?_)) (by repeat' (first|exact trivial|(first|exact aH.refl _|exact aH.bw|exact aH.zero|exact aH.push rfl rfl|exact aH.cm rfl|exact aH.len (by omega)|exact aH.row (by repeat' (first|exact trivial|(first|exact aw.refl _|exact aJ (by omega)|exact aw.nil rfl|exact aw.of_eq (congrArg (AV.aZ _ _ _) (by first|omega|(dsimp only;omega)))|exact aw.of_eq (congrArg (AV.int _) (by first|omega|(dsimp only;omega))))|refine And.intro ?_ ?_)))|refine And.intro ?_ ?_))) (by (dsimp only;omega))
   ·have g11:=aa h11
    refine bM (c6 (x10.1) (by omega)) ?_
    refine aM (c7 (x10.1) (by (cases iQ g4 g7;rw [show x10.1=s.nl by omega];assumption)) (by (cases iQ g4 g7;assumption))) ?_
    refine aM (c8 (by (cases iQ g4 g7;assumption)) (by (cases iQ g4 g7;assumption)) (by (cases iQ g4 g7;assumption))) ?_
    exact aq (aw.of_eq (congrArg _ (Oc (iQ g4 g7).hd g7.2 (fun i hi=>x10.2.2 i (by omega))).symm))
abbrev C0:List AV:=[AV.agg [Zi 0,Zi 0,Zi 0,Zi 0,Zi 0,Zi 0,Zi 0,Zi 0,Zi 0,Zi 0,Zi 0],AV.bool false]
theorem Cn (r0 r1 r2 r3 r4 r5 r6 r7 r8 r9 r10 k e d:Int):Pure Tryz.prog aW 153 [.agg [.int .i64 r0,.int .i64 r1,.int .i64 r2,.int .i64 r3,.int .i64 r4,.int .i64 r5,.int .i64 r6,.int .i64 r7,.int .i64 r8,.int .i64 r9,.int .i64 r10],.bH 1 (aO [.int .i64 k]),.bH 1 (aO [.int .i64 e]),.bH 1 (aO [.int .i64 d])] (.bool (r0==k&&r1==e&&r2==d)):=by
 refine ar (own:=bk) Tryz.func153 (by kernel_rfl) mixed (by kernel_rfl)
  (let y0:AV:=(.bool (r0==k&&r1==e&&r2==d));(.out y0 [] y0 []))
  (by kernel_rfl) ?_
 exact aq (aw.refl _)
theorem B0 (R:Nat→Nat→Int) (n:Nat) (k e d:Int) (hn:n≤1000):Pure Tryz.prog aW 152 [rcl n R,.fn (.func 153) [] [.bH 1 (aO [.int .i64 k]),.bH 1 (aO [.int .i64 e]),.bH 1 (aO [.int .i64 d])]] (.int .i64 (ke R n k e d)):=by
 unfold ke
 refine ar (own:=bk) Tryz.func152 (by kernel_rfl) mixed (by kernel_rfl)
  (let y1:=(fun (x:{ x:Nat // x≤n∧(fun (i:Nat)=>aK (tP R k e d) n 0=aK (tP R k e d) (n - i) i) x })=>n - x.1);let y2:List AV:=[AV.bH 1 (aO [Zi k]),AV.bH 1 (aO [Zi e]),AV.bH 1 (aO [Zi d])];let y0:=(fun (x:{ x:Nat // x≤n∧(fun (i:Nat)=>aK (tP R k e d) n 0=aK (tP R k e d) (n - i) i) x })=>aY [0,1,7,8] [AV.aG 11 n fun (i j:Nat)=>Zi (R i j),AV.fn (Fn.func (153:FuncId)) [] y2,Zi (↑n:Int),Zi (↑(x.1):Int)] []);(.loop ({ x:Nat // x≤n∧(fun (i:Nat)=>aK (tP R k e d) n 0=aK (tP R k e d) (n - i) i) x }) y0 y1 (⟨0,⟨Nat.zero_le n,rfl⟩⟩) ([0,1,7,8]) ([]) ([AV.aG 11 n fun (i j:Nat)=>Zi (R i j),AV.fn (Fn.func (153:FuncId)) [] y2,Zi (↑n:Int),Zi 0]) ([]) (fun x0=>(.br (decide ((↑x0.1:Int)<(↑n:Int))) (.bf ((0:Int)≤(↑x0.1:Int)∧(↑x0.1:Int)<(↑n:Int)) (.sc (true) 153 ([AV.agg [Zi (R (toNat (↑x0.1:Int)) 0),Zi (R (toNat (↑x0.1:Int)) 1),Zi (R (toNat (↑x0.1:Int)) 2),Zi (R (toNat (↑x0.1:Int)) 3),Zi (R (toNat (↑x0.1:Int)) 4),Zi (R (toNat (↑x0.1:Int)) 5),Zi (R (toNat (↑x0.1:Int)) 6),Zi (R (toNat (↑x0.1:Int)) 7),Zi (R (toNat (↑x0.1:Int)) 8),Zi (R (toNat (↑x0.1:Int)) 9),Zi (R (toNat (↑x0.1:Int)) 10)],AV.bH 1 (aO [Zi k]),AV.bH 1 (aO [Zi e]),AV.bH 1 (aO [Zi d])]) (AV.bool (R (toNat (↑x0.1:Int)) 0==k&&R (toNat (↑x0.1:Int)) 1==e&&R (toNat (↑x0.1:Int)) 2==d)) (.br (R (toNat (↑x0.1:Int)) 0==k&&R (toNat (↑x0.1:Int)) 1==e&&R (toNat (↑x0.1:Int)) 2==d) (.out (Zi (↑x0.1:Int)) [] (Zi (aK (tP R k e d) n 0)) []) (.again (be 0 y0 y1 x0) ([0,1,7,8]) ([]) ([AV.aG 11 n fun (i j:Nat)=>Zi (R i j),AV.fn (Fn.func (153:FuncId)) [] y2,Zi (↑n:Int),Zi (wrap .i64 ((↑x0.1:Int)+1))]) ([]))))) (.out (Zi (-1)) [] (Zi (aK (tP R k e d) n 0)) [])))))
  (by kernel_rfl) ?_
 refine aU (fun _ hs=>hs.le (⟨.refl _,.refl _,.refl _,.refl _,trivial⟩) (trivial)) (fun x0=>?_)
 try (have q0:=x0.2;dsimp only at q0)
 refine aL (fun h1=>?_) (fun h1=>?_)
 ·have g1:=af h1
  refine aD (by omega) ?_
  refine aM (Cn (R (toNat (↑x0.1:Int)) (0)) (R (toNat (↑x0.1:Int)) (1)) (R (toNat (↑x0.1:Int)) (2)) (R (toNat (↑x0.1:Int)) (3)) (R (toNat (↑x0.1:Int)) (4)) (R (toNat (↑x0.1:Int)) (5)) (R (toNat (↑x0.1:Int)) (6)) (R (toNat (↑x0.1:Int)) (7)) (R (toNat (↑x0.1:Int)) (8)) (R (toNat (↑x0.1:Int)) (9)) (R (toNat (↑x0.1:Int)) (10)) (k) (e) (d)) ?_
  refine aL (fun h4=>?_) (fun h4=>?_)
  ·have g4:=(ah (ah ai ai) ai) h4
   try simp only [Int.toNat_natCast] at g4
   exact aq (aw.of_eq (congrArg _ (cr x0.2.2 (by omega) h4)))
  ·have g4:=(aj (aj ao ao) ao) h4
   try simp only [Int.toNat_natCast] at g4
   exact aN (⟨x0.1+1,by omega,bS x0.2.2 (by omega) h4⟩) (fun _ hs=>hs.le (⟨.refl _,.refl _,.refl _,aJ (by omega),trivial⟩) (trivial)) (by dsimp only;omega)
 ·have g1:=aa h1
  exact aq (aw.of_eq (congrArg _ (bW x0.2.2 (by omega))))
theorem zj (R:Nat→Nat→Int) (n:Nat) (k e d:Int) (hn:n≤1000):Pure Tryz.prog aW 100 [rcl n R,.int .i64 k,.int .i64 e,.int .i64 d] (.int .i64 (ke R n k e d)):=by
 have c1:=B0 R n k e d hn
 refine ar (own:=bk) Tryz.func100 (by kernel_rfl) mixed (by kernel_rfl)
  (let z0:=(Zi (ke R n k e d));(.sc true 152 [.aG 11 n fun i j=>Zi (R i j),AV.fn (Fn.func 153) [] [AV.bH 1 fun k_1=>aO [Zi k] k_1,AV.bH 1 fun k=>aO [Zi e] k,AV.bH 1 fun k=>aO [Zi d] k]] z0 (.out z0 [] z0 [])))
  (by kernel_rfl) ?_
 refine aM (c1) ?_
 exact aq (aw.refl _)
theorem ud (R:Nat→Nat→Int) (n:Nat) (k e d:Int) (hn:n≤1000):Pure Tryz.prog aW 197 [rcl n R,.int .i64 k,.int .i64 e,.int .i64 d] (.int .i64 (ke R n k e d)):=by
 unfold ke
 refine ar (own:=bk) Tryz.func197 (by kernel_rfl) mixed (by kernel_rfl)
  (let z2:=(Zi (aK (tP R k e d) n 0));let z0:={ x:Nat // x≤n∧(fun i=>aK (tP R k e d) n 0=aK (tP R k e d) (n - i) i) x };let y0:=(fun (x:z0)=>aY [0,1,2,3,9] [.aG 11 n fun i j=>Zi (R i j),Zi k,Zi e,Zi d,Zi x.1] []);let y1:=(fun (x:z0)=>n - x.1);(.loop (z0) y0 y1 (⟨0,⟨Nat.zero_le n,rfl⟩⟩) [0,1,2,3,9] [] [.aG 11 n fun i j=>Zi (R i j),Zi k,Zi e,Zi d,Zi 0] [] (fun x0=>let z1:Nat:=(toNat (x0.1:Int));(.br (decide ((x0.1:Int)<(n:Int))) (.bf (0≤(x0.1:Int)∧(x0.1:Int)<(n:Int)) (.bf (((R z1 0==k)==true)=true→0≤(x0.1:Int)∧(x0.1:Int)<(n:Int)) (.bf (((R z1 0==k&&R z1 1==e)==true)=true→0≤(x0.1:Int)∧(x0.1:Int)<(n:Int)) (.br (R z1 0==k&&R z1 1==e&&R z1 2==d) (.out (Zi x0.1) [] z2 []) (.again (be 0 y0 y1 x0) [0,1,2,3,9] [] [.aG 11 n fun i j=>Zi (R i j),Zi k,Zi e,Zi d,Zi (wrap .i64 ((x0.1:Int)+1))] []))))) (.out (Zi (-1)) [] z2 [])))))
  (by kernel_rfl) ?_
 refine aU (fun _ hs=>hs.le (⟨.refl _,.refl _,.refl _,.refl _,.refl _,trivial⟩) (trivial)) (fun x0=>?_)
 try (have q0:=x0.2;dsimp only at q0)
 refine aL (fun h1=>?_) (fun h1=>?_)
 ·have g1:=af h1
  refine aD (by omega) ?_
  refine aD (fun hr=>by have hr:=(cJ ai) hr;omega) ?_
  refine aD (fun hr=>by have hr:=(cJ (ah ai ai)) hr;omega) ?_
  refine aL (fun h5=>?_) (fun h5=>?_)
  ·have g5:=(ah (ah ai ai) ai) h5
   try simp only [Int.toNat_natCast] at g5
   exact aq (by exact aw.of_eq (congrArg _ (cr x0.2.2 (by omega) (Nu g5))))
  ·have g5:=(aj (aj ao ao) ao) h5
   try simp only [Int.toNat_natCast] at g5
   exact aN (⟨x0.1+1,by omega,bS x0.2.2 (by omega) (N3 g5)⟩) (fun _ hs=>hs.le (⟨.refl _,.refl _,.refl _,.refl _,aJ (by omega),trivial⟩) (trivial)) (by dsimp only;omega)
 ·have g1:=aa h1
  exact aq (by exact aw.of_eq (congrArg _ (bW x0.2.2 (by omega))))
theorem K9 (R:Nat→Nat→Int) (n:Nat) (s:aA) (hn:n≤1000):Pure Tryz.prog aW 169 [rcl n R,s.av] (.aT [(lN R n s).av,.bool (decide (l9 R n s≥0))]):=by
 have c1:=zj R n s.ju s.fK s.gq hn
 refine ar (own:=bk) Tryz.func169 (by kernel_rfl) mixed (by kernel_rfl)
  (let y0:Nat:=(toNat (ke R n s.1 s.2 s.3));let y1:AV:=(.aT [fR.av (lN R n s),.bool (decide (l9 R n s≥0))]);(.sc true 100 [.aG 11 n fun i j=>Zi (R i j),Zi s.1,Zi s.2,Zi s.3] (Zi (ke R n (aA.ju s) (aA.fK s) (aA.gq s))) (.br (decide (ke R n s.1 s.2 s.3<0)||decide (ke R n s.1 s.2 s.3≥(n:Int))) (.out (.aT C0) [] y1 []) (.bf ((0:Int)≤ke R n s.1 s.2 s.3∧ke R n s.1 s.2 s.3<(n:Int)) (.out (.aT [.agg [Zi (R y0 0),Zi (R y0 1),Zi (R y0 2),Zi (R y0 3),Zi (R y0 4),Zi (R y0 5),Zi (R y0 6),Zi (R y0 7),Zi (R y0 8),Zi (R y0 9),Zi (R y0 10)],.bool true]) [] y1 [])))))
  (by kernel_rfl) ?_
 refine aM (c1) ?_
 refine aL (fun h1=>?_) (fun h1=>?_)
 ·have g1:=(az af af) h1
  exact aq (aw.of_eq (B9 (s:=s) (by (rcases g1 with h|h;(· exact h);(· exfalso;have:=jA (p:=tP R s.ju s.fK s.gq) n 0;unfold ke at h;omega)))))
 ·have g1:=(au aa aa) h1
  refine aD (by exact E0 g1.1) ?_
  exact aq (aw.of_eq (EA (s:=s) (by exact g1.1)))
theorem yz (R:Nat→Nat→Int) (n:Nat) (s:aA) (hn:n≤1000):Pure Tryz.prog aW 137 [rcl n R,s.av] (.aT [(lN R n s).av,.bool (decide (l9 R n s≥0))]):=by
 have c1:=ud R n s.ju s.fK s.gq hn
 refine ar (own:=bk) Tryz.func137 (by kernel_rfl) mixed (by kernel_rfl)
  (let y0:Nat:=(toNat (ke R n s.1 s.2 s.3));let y1:AV:=(.aT [fR.av (lN R n s),.bool (decide (l9 R n s≥0))]);(.sc true 197 [.aG 11 n fun i j=>Zi (R i j),Zi s.1,Zi s.2,Zi s.3] (Zi (ke R n (aA.ju s) (aA.fK s) (aA.gq s))) (.br (decide (ke R n s.1 s.2 s.3<0)) (.out (.aT C0) [] y1 []) (.bf ((0:Int)≤ke R n s.1 s.2 s.3∧ke R n s.1 s.2 s.3<(n:Int)) (.out (.aT [.agg [Zi (R y0 0),Zi (R y0 1),Zi (R y0 2),Zi (R y0 3),Zi (R y0 4),Zi (R y0 5),Zi (R y0 6),Zi (R y0 7),Zi (R y0 8),Zi (R y0 9),Zi (R y0 10)],.bool true]) [] y1 [])))))
  (by kernel_rfl) ?_
 refine aM (c1) ?_
 refine aL (fun h1=>?_) (fun h1=>?_)
 ·have g1:=af h1
  exact aq (aw.of_eq (B9 (s:=s) (by exact g1)))
 ·have g1:=aa h1
  refine aD (by exact E0 g1) ?_
  exact aq (aw.of_eq (EA (s:=s) (by exact g1)))
theorem Bv (b:aI) (R:Nat→Nat→Int) (n:Nat) (s:aA) (hn:n≤1000) (hw:b.gr.W) (hr:cC s.root 32) (hp:cC s.bI 32) (hf:∀ k,k<s.np→cC (s.pf k) 32) (hm:s.np≤1000000) (hl:s.nl≤1000):Pure Tryz.prog aW 109 [b.av,rcl n R,s.av] (.bool (gk b R n s)):=by
 have c1:=K9 R n s hn
 have c2:=MV b (lN R n s) s hw hr hp hf hm hl
 refine ar (own:=bk) Tryz.func109 (by kernel_rfl) mixed (by kernel_rfl)
  (.sc true 169 [.aG 11 n fun i j=>Zi (R i j),.agg (aA.cells s)] (.aT [fR.av (lN R n s),.bool (decide (l9 R n s≥0))]) (.sc (decide (l9 R n s≥0)==true) 170 [.agg (aI.cells b),.agg (fR.cells (lN R n s)),.agg (aA.cells s)] (.bool (mf b (lN R n s) s)) (.out (.bool (decide (l9 R n s≥0)&&mf b (lN R n s) s)) [] (.bool (gk b R n s)) [])))
  (by kernel_rfl) ?_
 refine aM (c1) ?_
 refine aV (fun h1=>c2) ?_
 exact aq (aw.refl _)
theorem EP (b:aI) (s t:aA) (leaf:Int) (hw:b.gr.W) (hs:s.nl≤1000) (ht:t.nl≤1000) (bs:s.By) (bt:t.By):Pure Tryz.prog aW 110 [b.av,s.av,t.av,.int .i64 leaf] (.aT [.int .i64 (tR b s t leaf).1,.int .i64 (tR b s t leaf).2]):=by
 have c1:=Ea b s t leaf hw hs ht bs bt
 have c2:=fun h hu=>AY b (cQ b s t leaf).1 h hw hu
 have c3:=fun h h2 hu=>nH b.gr b.g1 (cQ b s t leaf).1 h hw h2 hu
 refine ar (own:=bk) Tryz.func110 (by kernel_rfl) mixed (by kernel_rfl)
  (let z0:=(cQ b s t leaf);let y0:AV:=(.aT [Zi (Prod.fst (tR b s t leaf)),Zi (Prod.snd (tR b s t leaf))]);(.sc true 171 [.agg (aI.cells b),.agg (aA.cells s),.agg (aA.cells t),Zi leaf] (.aT [Zi (Prod.fst z0),Zi (Prod.snd z0)]) (.br (z0.2 != 0) (.out (.aT [Zi 0,Zi z0.2]) [] y0 []) (.sc ((z0.1==0)==false) 172 [.agg (aI.cells b),Zi z0.1] (Zi (m8 b (Prod.fst z0))) (.br (z0.1==0||m8 b z0.1==1) (.out (.aT [Zi 0,Zi 10]) [] y0 []) (.sc true 107 [.agg [Zi (aI.gr b).1,Zi (aI.gr b).2,Zi (aI.gr b).3],Zi b.2,Zi z0.1] (.aT [Zi (aI.g1 b^toNat (Prod.fst z0)%bL.p (aI.gr b)),Zi 0]) (.out (.aT [Zi (b.2^toNat z0.1%(aI.gr b).1),Zi 0]) [] y0 [])))))))
  (by kernel_rfl) ?_
 refine aM (c1) ?_
 refine aL (fun h1=>?_) (fun h1=>?_)
 ·have g1:=aS h1
  exact aq (aw.of_eq (wY (x:=(0,(cQ b s t leaf).2)) (IZ g1)))
 ·have g1:=aP h1
  refine aV (fun h3=>c2 (by exact (jc g1).1) (by exact (jc g1).2)) ?_
  refine aL (fun h4=>?_) (fun h4=>?_)
  ·have g4:=(az ai ai) h4
   exact aq (aw.of_eq (wY (Jb g1 g4)))
  ·have g4:=(au ao ao) h4
   refine aM (c3 (by exact (jc g1).1.G) (by exact (jc g1).1.e1) (by exact (jc g1).2)) ?_
   exact aq (aw.of_eq (wY (Jm g1 g4)))
end Go.Proofs.YtgnfjlekpgjehaaGreatDoor

namespace Go.Sp
open Go.IntKind (wrap)
open Int (toNat)
open Go Go.Am
variable {k : aX}
theorem Hr {a b:Nat}:Nat.beq a b=decide (a=b):=by grind [Nat.beq,decide_eq_true,Nat.eq_of_beq_eq_true,decide_eq_false,Nat.beq_refl]
theorem yi (g:(k.nr:Int)>100∨¬(k.ns:Int)=k.nr):fD k=false:=eM fun h=>by simp_all [fD,Bool.and_eq_true,decide_eq_true_eq,Hr]<;>omega
theorem yY {i:Nat} (hi:i<k.nr) (h:FL k i=false):fD k=false:=by
 unfold fD;grind
theorem Fx (g:¬(k.nr:Int)>100∧(k.ns:Int)=k.nr) (h:∀ i,i<k.nr→FL k i=true):fD k=true:=by grind [fD,jX,Hr,decide_eq_true]
structure HX (k : aX) : Prop where
  hi : k.nr ≤ 100
  ns : k.ns = k.nr
  ok : ∀ i, i < k.nr → FL k i = true
theorem re (h:fD k=true):HX k:=by
 simp only [fD,Bool.and_eq_true,decide_eq_true_eq,Hr,List.all_eq_true,List.mem_range] at h
 exact ⟨h.1.1,h.1.2,h.2⟩
theorem oM {i:Nat}:FL k i=true↔ec k.cg (k.X i)=true∧ct k.cg k.cg.gr.g (k.X i)=k.R i 5∧ct k.cg k.cg.g1 (k.X i)=k.R i 6∧ct k.cg k.cg.g2 (k.X i)=k.R i 7∧dV k.cg (cX (k.R i))=true∧k.R i 0=k.num∧ke k.R k.nr (k.R i 0) (k.R i 1) (k.R i 2)=(i:Int):=by
 simp [FL,okK,and_assoc]
theorem zu (g:(k.nc:Int)>100):gG k=false:=by grind [gG,decide_eq_false]
theorem xL {i:Nat} (hi:i<k.nc) (h:okC k i=false):gG k=false:=by
 unfold gG;grind
theorem Cz (g:¬(k.nc:Int)>100) (h:∀ i,i<k.nc→okC k i=true):gG k=true:=by grind [gG,jX,decide_eq_true]
theorem mO {i:Nat}:okC k i=true↔gy k.cg (k.C i).key (k.C i).pf=true∧km k (k.C i).key=(i:Int)∧(k.C i).led=5+(i:Int)∧0≤(k.C i).last∧(k.C i).last≤200:=by
 simp [okC,and_assoc]
theorem ry (h:gG k=true):k.nc≤100∧∀ i,i<k.nc→okC k i=true:=by simp_all [gG,Bool.and_eq_true,decide_eq_true_eq,List.all_eq_true,List.mem_range]
theorem yD (g:(k.ni:Int)>200):jz k=false:=by grind [jz,decide_eq_false]
theorem sB {i:Nat} (hi:i<k.ni) (h:FK k i=false):jz k=false:=by
 unfold jz;grind
theorem Fz (g:¬(k.ni:Int)>200) (h:∀ i,i<k.ni→FK k i=true):jz k=true:=by grind [jz,jX,decide_eq_true]
theorem mR {i:Nat}:FK k i=true↔0≤kj k (fun j=>k.I i (3+j))∧gd k.cg (k.I i)=true∧0≤km k (k.I i 2)∧tu k (k.I i 2) (k.I i 1)=(i:Int)∧ct k.cg (k.I i 15) (k.X (kj k fun j=>k.I i (3+j)).toNat)=k.I i 16:=by
 simp [FK,and_assoc]
end Go.Sp

namespace Go.Proofs.YtgnfjlekpgjehaaGreatDoor
open Go.IntKind (wrap)
open Int (toNat)
open Go Go.Am Go.Sp
set_option maxRecDepth 100000
theorem FX (k:aX) (h:k.cg.Ok) (hw:k.cg.gr.W) (hr:k.nr<9223372036854775808) (hs:k.ns<9223372036854775808):Pure Tryz.prog aW 49 [.agg k.cells] (.bool (fD k)):=by
 have c1:=fun i=>My k.cg (k.X i) h hw
 have c2:=fun i=>xF k.cg (cX (k.R i)) hw
 have c3:=fun a b c h=>zj k.R k.nr a b c h
 refine ar (own:=bk) Tryz.func49 (by kernel_rfl) mixed (by kernel_rfl)
  (let z3:AV:=(.bool (fD k));let z2:=(aI.gr (aX.cg k));let z1:={ x:Nat // x≤aX.nr k∧(fun (i:Nat)=>∀ (j:Nat),j<i→FL k j=true) x };let y0:List (Option Ob):=[some ⟨50,1,true,.ba [aX.cells k]⟩];(.br (decide ((k.4:Int)>100)||(k.6:Int) != (k.4:Int)) (.out (.bool false) [] z3 []) (.loop (z1) (fun (x:z1)=>aY [1,8,21,22,23] [.own 0 50 0 0 50,.aG 11 k.4 fun i j=>Zi (k.5 i j),.aG 11 k.4 fun i j=>Zi (k.5 i j),Zi k.4,Zi x.1] y0) (fun (x:z1)=>aX.nr k - x.1) (⟨0,⟨Nat.zero_le (aX.nr k),fun (j:Nat) (hj:j<0)=>absurd hj (Nat.not_lt_zero j)⟩⟩) [1,8,21,22,23] [0] [.own 0 50 0 0 50,.aG 11 k.4 fun i j=>Zi (k.5 i j),.aG 11 k.4 fun i j=>Zi (k.5 i j),Zi k.4,Zi 0] (y0) (fun x2=>let z0:Nat:=(toNat (x2.1:Int));(.br (decide ((x2.1:Int)<(k.4:Int))) (.bf (0≤(x2.1:Int)∧(x2.1:Int)<(k.4:Int)) (.bf (0≤(x2.1:Int)∧(x2.1:Int)<(k.6:Int)) (.sc true 98 [.agg (aI.cells (aX.cg k)),Zi (k.7 z0)] (.aT [.agg [Zi (bif ec (aX.cg k) (aX.X k z0) then ct (aX.cg k) (bL.g z2) (aX.X k z0) else (0:Int)),Zi (bif ec (aX.cg k) (aX.X k z0) then ct (aX.cg k) (aI.g1 (aX.cg k)) (aX.X k z0) else (0:Int)),Zi (bif ec (aX.cg k) (aX.X k z0) then ct (aX.cg k) (aI.g2 (aX.cg k)) (aX.X k z0) else (0:Int))],Zi (bif ec (aX.cg k) (aX.X k z0) then (0:Int) else (2:Int))]) (.sc (((bif ec k.2 (k.7 z0) then (0:Int) else (2:Int)) != 0 || !((bif ec k.2 (k.7 z0) then ct k.2 z2.3 (k.7 z0) else (0:Int))==k.5 z0 5&&((bif ec k.2 (k.7 z0) then ct k.2 (aX.cg k).2 (k.7 z0) else (0:Int))==k.5 z0 6&&((bif ec k.2 (k.7 z0) then ct k.2 (aX.cg k).3 (k.7 z0) else (0:Int))==k.5 z0 7&&true))))==false) 99 [.agg (aI.cells (aX.cg k)),.agg [Zi (k.5 z0 0),Zi (k.5 z0 1),Zi (k.5 z0 2),Zi (k.5 z0 3),Zi (k.5 z0 4),Zi (k.5 z0 5),Zi (k.5 z0 6),Zi (k.5 z0 7),Zi (k.5 z0 8),Zi (k.5 z0 9),Zi (k.5 z0 10)]] (.bool (dV (aX.cg k) (cX (aX.R k z0)))) (.sc (((bif ec k.2 (k.7 z0) then (0:Int) else (2:Int)) != 0 || !((bif ec k.2 (k.7 z0) then ct k.2 z2.3 (k.7 z0) else (0:Int))==k.5 z0 5&&((bif ec k.2 (k.7 z0) then ct k.2 (aX.cg k).2 (k.7 z0) else (0:Int))==k.5 z0 6&&((bif ec k.2 (k.7 z0) then ct k.2 (aX.cg k).3 (k.7 z0) else (0:Int))==k.5 z0 7&&true))) || !dV k.2 (cX (k.5 z0))||k.5 z0 0 != k.1)==false) 100 [.aG 11 k.4 fun i j=>Zi (k.5 i j),Zi (k.5 z0 0),Zi (k.5 z0 1),Zi (k.5 z0 2)] (Zi (ke (aX.R k) (aX.nr k) (k.5 z0 0) (k.5 z0 1) (k.5 z0 2))) (.br ((bif ec k.2 (k.7 z0) then (0:Int) else (2:Int)) != 0 || !((bif ec k.2 (k.7 z0) then ct k.2 z2.3 (k.7 z0) else (0:Int))==k.5 z0 5&&((bif ec k.2 (k.7 z0) then ct k.2 (aX.cg k).2 (k.7 z0) else (0:Int))==k.5 z0 6&&((bif ec k.2 (k.7 z0) then ct k.2 (aX.cg k).3 (k.7 z0) else (0:Int))==k.5 z0 7&&true))) || !dV k.2 (cX (k.5 z0))||k.5 z0 0 != k.1||ke k.5 k.4 (k.5 z0 0) (k.5 z0 1) (k.5 z0 2) != (x2.1:Int)) (.out (.bool false) [] z3 []) (.again (be 0 (fun (x:z1)=>aY [1,8,21,22,23] [.own 0 50 0 0 50,.aG 11 k.4 fun i j=>Zi (k.5 i j),.aG 11 k.4 fun i j=>Zi (k.5 i j),Zi k.4,Zi x.1] y0) (fun (x:z1)=>aX.nr k - x.1) x2) [1,8,21,22,23] [0] [.own 0 50 0 0 50,.aG 11 k.4 fun i j=>Zi (k.5 i j),.aG 11 k.4 fun i j=>Zi (k.5 i j),Zi k.4,Zi (wrap .i64 ((x2.1:Int)+1))] (y0)))))))) (.out (.bool true) [] z3 []))))))
  (by kernel_rfl) ?_
 refine aL (fun h0=>?_) (fun h0=>?_)
 ·have g0:=(az af aS) h0
  exact aq (aw.of_eq (congrArg AV.bool (yi g0).symm))
 ·have g0:=(au aa aP) h0
  refine aU (fun _ hs=>hs.le (⟨.refl _,.refl _,.refl _,.refl _,.refl _,trivial⟩) (⟨.refl _,trivial⟩)) (fun x2=>?_)
  try (have q2:=x2.2;dsimp only at q2)
  refine aL (fun h3=>?_) (fun h3=>?_)
  ·have g3:=af h3
   refine aD (by omega) ?_
   refine aD (by omega) ?_
   refine aM (c1 (toNat (↑x2.1:Int))) ?_
   refine aV (fun h7=>c2 (toNat (↑x2.1:Int))) ?_
   refine aV (fun h8=>c3 (k.5 (toNat (↑x2.1:Int)) (0)) (k.5 (toNat (↑x2.1:Int)) (1)) (k.5 (toNat (↑x2.1:Int)) (2)) (by omega)) ?_
   refine aL (fun h9=>?_) (fun h9=>?_)
   ·have g9:=(az (az (az (az aS (aB (aj ao (aj ao (aj ao aF))))) (aB aF)) aS) aS) h9
    try simp only [Int.toNat_natCast] at g9
    exact aq (aw.of_eq (congrArg AV.bool (yY (i:=x2.1) (by omega) (eM fun e=>by have e:=oM.1 e;clear c1 c2 c3;rw [e.1] at g9;simp only [cond_true] at g9;grind)).symm))
   ·have g9:=(au (au (au (au aP (ay (ah ai (ah ai (ah ai aC))))) (ay aC)) aP) aP) h9
    try simp only [Int.toNat_natCast] at g9
    exact aN (⟨x2.1+1,by omega,cF x2.2.2 (oM.2 (by clear c1 c2 c3;cases e:ec k.cg (k.X x2.1)<;>rw [e] at g9<;>simp only [cond_true,cond_false] at g9<;>grind))⟩) (fun _ hs=>hs.le (⟨.refl _,.refl _,.refl _,.refl _,aJ (by omega),trivial⟩) (⟨.refl _,trivial⟩)) (by dsimp only;omega)
  ·have g3:=aa h3
   exact aq (aw.of_eq (congrArg AV.bool (Fx g0 fun i hi=>x2.2.2 i (by omega)).symm))
theorem Hk (k:aX) (hw:k.cg.gr.W) (hn:k.nc<9223372036854775808):Pure Tryz.prog aW 50 [.agg k.cells] (.bool (gG k)):=by
 have c1:=fun i=>Cd k.cg (k.C i).key (k.C i).pf hw
 have c2:=fun y=>sr k y hn
 refine ar (own:=bk) Tryz.func50 (by kernel_rfl) mixed (by kernel_rfl)
  (let z2:AV:=(.bool (gG k));let z1:={ x:Nat // x≤aX.nc k∧(fun (i:Nat)=>∀ (j:Nat),j<i→okC k j=true) x };let y0:List (Option Ob):=[some ⟨50,1,true,.ba [aX.cells k]⟩];(.br (decide ((k.8:Int)>100)) (.out (.bool false) [] z2 []) (.loop (z1) (fun (x:z1)=>aY [1,6,10,11,12] [.own 0 50 0 0 50,.aG 7 k.8 fun i j=>aO (de.cells (aX.C k i)) j,.aG 7 k.8 fun i j=>aO (de.cells (aX.C k i)) j,Zi k.8,Zi x.1] y0) (fun (x:z1)=>aX.nc k - x.1) (⟨0,⟨Nat.zero_le (aX.nc k),fun (j:Nat) (hj:j<0)=>absurd hj (Nat.not_lt_zero j)⟩⟩) [1,6,10,11,12] [0] [.own 0 50 0 0 50,.aG 7 k.8 fun i j=>aO (de.cells (aX.C k i)) j,.aG 7 k.8 fun i j=>aO (de.cells (aX.C k i)) j,Zi k.8,Zi 0] (y0) (fun x2=>let z0:=(aX.C k (toNat (↑(x2.1):Int)));(.br (decide ((x2.1:Int)<(k.8:Int))) (.bf (0≤(x2.1:Int)∧(x2.1:Int)<(k.8:Int)) (.sc true 27 [.agg (aI.cells (aX.cg k)),.agg [Zi z0.1,.aG 1 (de.pf z0).1 fun i x=>Zi ((de.pf z0).2 i),Zi (de.pf z0).3,.aG 1 (de.pf z0).4 fun i x=>Zi ((de.pf z0).5 i)]] (.bool (gy (aX.cg k) (de.key z0) (de.pf z0))) (.sc ((!gy k.2 z0.1 z0.2)==false) 28 [.agg (aX.cells k),Zi z0.1] (Zi (km k z0.1)) (.sc ((!gy k.2 z0.1 z0.2||km k z0.1 != (x2.1:Int)||z0.3 != wrap .i64 ((5:Int)+(x2.1:Int)))==false) 22 [Zi z0.5,Zi 0,Zi 200] (.bool (decide (z0.5≥0)&&decide (z0.5≤200))) (.br (!gy k.2 z0.1 z0.2||km k z0.1 != (x2.1:Int)||z0.3 != wrap .i64 ((5:Int)+(x2.1:Int)) || !(decide (z0.5≥0)&&decide (z0.5≤200))) (.out (.bool false) [] z2 []) (.again (be 0 (fun (x:z1)=>aY [1,6,10,11,12] [.own 0 50 0 0 50,.aG 7 k.8 fun i j=>aO (de.cells (aX.C k i)) j,.aG 7 k.8 fun i j=>aO (de.cells (aX.C k i)) j,Zi k.8,Zi x.1] y0) (fun (x:z1)=>aX.nc k - x.1) x2) [1,6,10,11,12] [0] [.own 0 50 0 0 50,.aG 7 k.8 fun i j=>aO (de.cells (aX.C k i)) j,.aG 7 k.8 fun i j=>aO (de.cells (aX.C k i)) j,Zi k.8,Zi (wrap .i64 ((x2.1:Int)+1))] (y0))))))) (.out (.bool true) [] z2 []))))))
  (by kernel_rfl) ?_
 refine aL (fun h0=>?_) (fun h0=>?_)
 ·have g0:=af h0
  exact aq (aw.of_eq (congrArg AV.bool (zu g0).symm))
 ·have g0:=aa h0
  refine aU (fun _ hs=>hs.le (⟨.refl _,.refl _,.refl _,.refl _,.refl _,trivial⟩) (⟨.refl _,trivial⟩)) (fun x2=>?_)
  try (have q2:=x2.2;dsimp only at q2)
  have e5:x2.1<k.nc→IntKind.wrap .i64 (5+(x2.1:Int))=5+(x2.1:Int):=fun _=>wI (by omega) (by omega)
  refine aL (fun h3=>?_) (fun h3=>?_)
  ·have g3:=af h3
   refine aD (by omega) ?_
   refine aM (c1 (toNat (↑(x2.1):Int))) ?_
   refine aV (fun h6=>c2 ((aX.C k (toNat (↑(x2.1):Int))).1)) ?_
   refine aV (fun h7=>pM ((aX.C k (toNat (↑(x2.1):Int))).5) ((0:Int)) ((200:Int))) ?_
   refine aL (fun h8=>?_) (fun h8=>?_)
   ·have g8:=(az (az (az (aB aF) aS) aS) (aB (aj aa aa))) h8
    try simp only [Int.toNat_natCast] at g8
    exact aq (aw.of_eq (congrArg AV.bool (xL (i:=x2.1) (by omega) (eM fun e=>by have e:=mO.1 e;clear c1 c2;rw [e5 (by omega)] at g8;grind)).symm))
   ·have g8:=(au (au (au (ay aC) aP) aP) (ay (ah af af))) h8
    try simp only [Int.toNat_natCast] at g8
    exact aN (⟨x2.1+1,by omega,cF x2.2.2 (mO.2 (by clear c1 c2;rw [e5 (by omega)] at g8;grind))⟩) (fun _ hs=>hs.le (⟨.refl _,.refl _,.refl _,.refl _,aJ (by omega),trivial⟩) (⟨.refl _,trivial⟩)) (by dsimp only;omega)
  ·have g3:=aa h3
   exact aq (aw.of_eq (congrArg AV.bool (Cz g0 fun i hi=>x2.2.2 i (by omega)).symm))
end Go.Proofs.YtgnfjlekpgjehaaGreatDoor

namespace Go.Sp
open Go.IntKind (wrap)
open Int (toNat)
open Go Go.Am
variable {k : aX} {i : Nat}
theorem LJ {r:Nat→Int} (h:¬kj k r<0):0≤kj k r∧kj k r<k.nr:=by
 have:=jA (p:=fun i=>kP (k.R i) r) k.nr 0
 unfold kj at h ⊢
 omega
theorem Nb (g:((kj k (fun j=>k.I i (3+j))<0∨gd k.cg (k.I i)=false)∨km k (k.I i 2)<0)∨¬tu k (k.I i 2) (k.I i 1)=(i:Int)):FK k i=false:=eM fun e=>by
 have e:=mR.1 e
 grind
structure IsP (k : aX) (i : Nat) : Prop where
  rc : 0 ≤ kj k (fun j => k.I i (3 + j)) ∧ kj k (fun j => k.I i (3 + j)) < k.nr
  el : aQ k.cg.gr (k.I i 15) = true
  nz : ec k.cg (k.X (kj k fun j => k.I i (3 + j)).toNat) = true
theorem Gu (hr:HX k) (g:((¬kj k (fun j=>k.I i (3+j))<0∧gd k.cg (k.I i)=true)∧¬km k (k.I i 2)<0)∧tu k (k.I i 2) (k.I i 1)=(i:Int)):IsP k i:=by
 have r:=LJ g.1.1.1
 have v:=rk g.1.1.2
 exact ⟨r,by rw [v.m];exact M4 v.ak,(oM.1 (hr.ok _ (by omega))).1⟩
theorem Pm (g:¬k.I i 15^(k.X (kj k fun j=>k.I i (3+j)).toNat).toNat%k.cg.gr.p=k.I i 16):FK k i=false:=eM fun e=>g (mR.1 e).2.2.2.2
theorem ist (g:((¬kj k (fun j=>k.I i (3+j))<0∧gd k.cg (k.I i)=true)∧¬km k (k.I i 2)<0)∧tu k (k.I i 2) (k.I i 1)=(i:Int))
  (g':k.I i 15^(k.X (kj k fun j=>k.I i (3+j)).toNat).toNat%k.cg.gr.p=k.I i 16):FK k i=true :=
 mR.2 ⟨by have:=g.1.1.1;omega,g.1.1.2,by have:=g.1.2;omega,g.2,g'⟩
end Go.Sp

namespace Go.Proofs.YtgnfjlekpgjehaaGreatDoor
open Go.IntKind (wrap)
open Int (toNat)
open Go Go.Am Go.Sp
set_option maxRecDepth 100000
theorem HD (k:aX) (h:k.cg.Ok) (hw:k.cg.gr.W) (hr:HX k) (hc:k.nc<9223372036854775808) (hn:k.ni<9223372036854775808):Pure Tryz.prog aW 53 [.agg k.cells] (.bool (jz k)):=by
 have m0:=hr.hi
 have m1:=hr.ns
 have c1:=fun i=>JQ k.nr k.R (fun j=>k.I i (3+j)) (by omega)
 have c2:=fun i=>Kl k.cg (k.I i) hw
 have c3:=fun y=>sr k y hc
 have c4:=fun y m=>CY k y m hn
 have c5:=fun x e hx he=>nH k.cg.gr x e h.G hw hx he
 refine ar (own:=bk) Tryz.func53 (by kernel_rfl) mixed (by kernel_rfl)
  (let z3:AV:=(.bool (jz k));let z2:=(aI.gr (aX.cg k));let z1:={ x:Nat // x≤aX.ni k∧(fun (i:Nat)=>∀ (j:Nat),j<i→FK k j=true) x };let y0:List (Option Ob):=[some ⟨50,1,true,.ba [aX.cells k]⟩];(.br (decide ((k.16:Int)>200)) (.out (.bool false) [] z3 []) (.loop (z1) (fun (x:z1)=>aY [1,9,13,14,15] [.own 0 50 0 0 50,.aG 21 k.16 fun i j=>Zi (k.17 i j),.aG 21 k.16 fun i j=>Zi (k.17 i j),Zi k.16,Zi x.1] y0) (fun (x:z1)=>aX.ni k - x.1) (⟨0,⟨Nat.zero_le (aX.ni k),fun (j:Nat) (hj:j<0)=>absurd hj (Nat.not_lt_zero j)⟩⟩) [1,9,13,14,15] [0] [.own 0 50 0 0 50,.aG 21 k.16 fun i j=>Zi (k.17 i j),.aG 21 k.16 fun i j=>Zi (k.17 i j),Zi k.16,Zi 0] (y0) (fun x2=>let z0:Nat:=(toNat (x2.1:Int));(.br (decide ((x2.1:Int)<(k.16:Int))) (.bf (0≤(x2.1:Int)∧(x2.1:Int)<(k.16:Int)) (.sc true 104 [.aG 11 k.4 fun i j=>Zi (k.5 i j),.agg [Zi (k.17 z0 3),Zi (k.17 z0 4),Zi (k.17 z0 5),Zi (k.17 z0 6),Zi (k.17 z0 7),Zi (k.17 z0 8),Zi (k.17 z0 9),Zi (k.17 z0 10),Zi (k.17 z0 11),Zi (k.17 z0 12),Zi (k.17 z0 13)]] (Zi (aK (fun i=>kP (aX.R k i) fun j=>aX.I k z0 (3+j)) (aX.nr k) 0)) (.sc (decide (aK (fun i=>kP (k.5 i) fun j=>k.17 z0 (3+j)) k.4 0<0)==false) 105 [.agg (aI.cells (aX.cg k)),.agg [Zi (k.17 z0 0),Zi (k.17 z0 1),Zi (k.17 z0 2),Zi (k.17 z0 3),Zi (k.17 z0 4),Zi (k.17 z0 5),Zi (k.17 z0 6),Zi (k.17 z0 7),Zi (k.17 z0 8),Zi (k.17 z0 9),Zi (k.17 z0 10),Zi (k.17 z0 11),Zi (k.17 z0 12),Zi (k.17 z0 13),Zi (k.17 z0 14),Zi (k.17 z0 15),Zi (k.17 z0 16),Zi (k.17 z0 17),Zi (k.17 z0 18),Zi (k.17 z0 19),Zi (k.17 z0 20)]] (.bool (gd (aX.cg k) (aX.I k z0))) (.sc ((decide (aK (fun i=>kP (k.5 i) fun j=>k.17 z0 (3+j)) k.4 0<0) || !gd k.2 (k.17 z0))==false) 28 [.agg (aX.cells k),Zi (k.17 z0 2)] (Zi (km k (k.17 z0 2))) (.sc ((decide (aK (fun i=>kP (k.5 i) fun j=>k.17 z0 (3+j)) k.4 0<0) || !gd k.2 (k.17 z0)||decide (km k (k.17 z0 2)<0))==false) 106 [.agg (aX.cells k),Zi (k.17 z0 2),Zi (k.17 z0 1)] (Zi (tu k (k.17 z0 2) (k.17 z0 1))) (.br (decide (aK (fun i=>kP (k.5 i) fun j=>k.17 z0 (3+j)) k.4 0<0) || !gd k.2 (k.17 z0)||decide (km k (k.17 z0 2)<0)||tu k (k.17 z0 2) (k.17 z0 1) != (x2.1:Int)) (.out (.bool false) [] z3 []) (.bf ((0:Int)≤aK (fun i=>kP (k.5 i) fun j=>k.17 z0 (3+j)) k.4 0∧aK (fun i=>kP (k.5 i) fun j=>k.17 z0 (3+j)) k.4 0<(k.6:Int)) (.sc true 107 [.agg [Zi z2.1,Zi z2.2,Zi z2.3],Zi (k.17 z0 15),Zi (k.7 (toNat (aK (fun i=>kP (k.5 i) fun j=>k.17 z0 (3+j)) k.4 0)))] (.aT [Zi (k.17 z0 15^toNat (k.7 (toNat (aK (fun i=>kP (k.5 i) fun j=>k.17 z0 (3+j)) k.4 0)))%bL.p z2),Zi 0]) (.br (k.17 z0 15^toNat (k.7 (toNat (aK (fun i=>kP (k.5 i) fun j=>k.17 z0 (3+j)) k.4 0)))%z2.1 != k.17 z0 16) (.out (.bool false) [] z3 []) (.again (be 0 (fun (x:z1)=>aY [1,9,13,14,15] [.own 0 50 0 0 50,.aG 21 k.16 fun i j=>Zi (k.17 i j),.aG 21 k.16 fun i j=>Zi (k.17 i j),Zi k.16,Zi x.1] y0) (fun (x:z1)=>aX.ni k - x.1) x2) [1,9,13,14,15] [0] [.own 0 50 0 0 50,.aG 21 k.16 fun i j=>Zi (k.17 i j),.aG 21 k.16 fun i j=>Zi (k.17 i j),Zi k.16,Zi (wrap .i64 ((x2.1:Int)+1))] (y0))))))))))) (.out (.bool true) [] z3 []))))))
  (by kernel_rfl) ?_
 refine aL (fun h0=>?_) (fun h0=>?_)
 ·have g0:=af h0
  exact aq (aw.of_eq (congrArg AV.bool (yD g0).symm))
 ·have g0:=aa h0
  refine aU (fun _ hs=>hs.le (⟨.refl _,.refl _,.refl _,.refl _,.refl _,trivial⟩) (⟨.refl _,trivial⟩)) (fun x2=>?_)
  try (have q2:=x2.2;dsimp only at q2)
  refine aL (fun h3=>?_) (fun h3=>?_)
  ·have g3:=af h3
   refine aD (by omega) ?_
   refine aM (c1 (toNat (↑x2.1:Int))) ?_
   refine aV (fun h6=>c2 (toNat (↑x2.1:Int))) ?_
   refine aV (fun h7=>c3 (k.17 (toNat (↑x2.1:Int)) (2))) ?_
   refine aV (fun h8=>c4 (k.17 (toNat (↑x2.1:Int)) (2)) (k.17 (toNat (↑x2.1:Int)) (1))) ?_
   refine aL (fun h9=>?_) (fun h9=>?_)
   ·have g9:=(az (az (az af (aB aF)) af) aS) h9
    try simp only [Int.toNat_natCast] at g9
    exact aq (aw.of_eq (congrArg AV.bool (sB (i:=x2.1) (by omega) (Nb g9)).symm))
   ·have g9:=(au (au (au aa (ay aC)) aa) aP) h9
    try simp only [Int.toNat_natCast] at g9
    refine aD (by have:=(Gu hr g9).rc;unfold kj at this;simp only [Int.toNat_natCast];omega) ?_
    refine aM (c5 (k.17 (toNat (↑x2.1:Int)) (15)) (k.7 (toNat (aK (fun (i:Nat)=>kP (k.5 i) fun (j:Nat)=>k.17 (toNat (↑x2.1:Int)) (3+j)) k.4 (0)))) ((Gu hr g9).el) (j8 (Gu hr g9).nz)) ?_
    refine aL (fun h13=>?_) (fun h13=>?_)
    ·have g13:=aS h13
     try simp only [Int.toNat_natCast] at g13
     exact aq (aw.of_eq (congrArg AV.bool (sB (i:=x2.1) (by omega) (Pm g13)).symm))
    ·have g13:=aP h13
     try simp only [Int.toNat_natCast] at g13
     exact aN (⟨x2.1+1,by omega,cF x2.2.2 (ist g9 g13)⟩) (fun _ hs=>hs.le (⟨.refl _,.refl _,.refl _,.refl _,aJ (by omega),trivial⟩) (⟨.refl _,trivial⟩)) (by dsimp only;omega)
  ·have g3:=aa h3
   exact aq (aw.of_eq (congrArg AV.bool (Fz g0 fun i hi=>x2.2.2 i (by omega)).symm))
theorem m7 (x l h:Int):Pure Tryz.prog aW 34 [.int .i64 x,.int .i64 l,.int .i64 h] (.bool (decide (x≥l)&&decide (x≤h))):=by
 refine ar (own:=bk) Tryz.func34 (by kernel_rfl) mixed (by kernel_rfl)
  (let y0:AV:=(.bool (decide (x≥l)&&decide (x≤h)));(.out y0 [] y0 []))
  (by kernel_rfl) ?_
 exact aq (aw.of_eq rfl)
theorem s9 (k:aX) (y:Int) (hn:k.nc<9223372036854775808):Pure Tryz.prog aW 40 [.agg k.cells,.int .i64 y] (.int .i64 (km k y)):=by
 refine ar (own:=bk) Tryz.func40 (by kernel_rfl) mixed (by kernel_rfl)
  (let z0:={ x:Nat // x≤aX.nc k∧(fun i=>km k y=aK (fun i=>de.key (aX.C k i)==y) (aX.nc k - i) i) x };let y0:=(fun (x:z0)=>aY [1,2,5] [Zi y,.own 0 50 0 0 50,Zi x.1] [some ⟨50,1,true,.ba [aX.cells k]⟩]);let y1:=(fun (x:z0)=>aX.nc k - x.1);(.loop (z0) y0 y1 (⟨0,⟨Nat.zero_le (aX.nc k),rfl⟩⟩) [1,2,5] [0] [Zi y,.own 0 50 0 0 50,Zi 0] [some ⟨50,1,true,.ba [aX.cells k]⟩] (fun x0=>(.br (decide ((x0.1:Int)<(k.8:Int))) (.bf (0≤(x0.1:Int)∧(x0.1:Int)<(k.8:Int)) (.br ((aX.C k (toNat (↑(x0.1):Int))).1==y) (.out (Zi x0.1) [] (Zi (km k y)) []) (.again (be 0 y0 y1 x0) [1,2,5] [0] [Zi y,.own 0 50 0 0 50,Zi (wrap .i64 ((x0.1:Int)+1))] [some ⟨50,1,true,.ba [aX.cells k]⟩]))) (.out (Zi (-1)) [] (Zi (km k y)) [])))))
  (by kernel_rfl) ?_
 refine aU (fun _ hs=>hs.le (⟨.refl _,.refl _,.refl _,trivial⟩) (⟨.refl _,trivial⟩)) (fun x0=>?_)
 try (have q0:=x0.2;dsimp only at q0)
 refine aL (fun h1=>?_) (fun h1=>?_)
 ·have g1:=af h1
  refine aD (by omega) ?_
  refine aL (fun h3=>?_) (fun h3=>?_)
  ·have g3:=ai h3
   try simp only [Int.toNat_natCast] at g3
   exact aq (aw.of_eq (congrArg _ (cr (p:=fun i=>(k.C i).key==y) x0.2.2 (by omega) (beq_iff_eq.2 g3))))
  ·have g3:=ao h3
   try simp only [Int.toNat_natCast] at g3
   exact aN (⟨x0.1+1,by omega,bS (p:=fun i=>(k.C i).key==y) x0.2.2 (by omega) (beq_eq_false_iff_ne.2 g3)⟩) (fun _ hs=>hs.le (⟨.refl _,.refl _,aJ (by omega),trivial⟩) (⟨.refl _,trivial⟩)) (by dsimp only;omega)
 ·have g1:=aa h1
  exact aq (aw.of_eq (congrArg _ (bW x0.2.2 (by omega))))
theorem LR (k:aX) (r:Nat→Int) (hn:k.nr<9223372036854775808):Pure Tryz.prog aW 134 [.agg k.cells,(cX r).av] (.int .i64 (kj k r)):=by
 refine ar (own:=bk) Tryz.func134 (by kernel_rfl) mixed (by kernel_rfl)
  (let y1:=(fun (x:{ x:Nat // x≤aX.nr k∧(fun (i:Nat)=>kj k r=aK (fun (i:Nat)=>kP (aX.R k i) r) (aX.nr k - i) i) x })=>aX.nr k - x.1);let y2:List (Option Ob):=[some ⟨50,1,true,bz.ba [aX.cells k]⟩,some ⟨11,1,true,bz.ba [fR.cells (cX r)]⟩];let y0:=(fun (x:{ x:Nat // x≤aX.nr k∧(fun (i:Nat)=>kj k r=aK (fun (i:Nat)=>kP (aX.R k i) r) (aX.nr k - i) i) x })=>aY [2,3,5] [AV.own 0 50 0 0 50,AV.own 1 11 0 0 11,Zi (↑(x.1):Int)] y2);(.loop ({ x:Nat // x≤aX.nr k∧(fun (i:Nat)=>kj k r=aK (fun (i:Nat)=>kP (aX.R k i) r) (aX.nr k - i) i) x }) y0 y1 (⟨0,⟨Nat.zero_le (aX.nr k),rfl⟩⟩) ([2,3,5]) ([0,8]) ([AV.own 0 50 0 0 50,AV.own 1 11 0 0 11,Zi 0]) (y2) (fun x0=>(.br (decide ((↑x0.1:Int)<(↑k.4:Int))) (.bf ((0:Int)≤(↑x0.1:Int)∧(↑x0.1:Int)<(↑k.4:Int)) (.br (k.5 (toNat (↑x0.1:Int)) 0==r 0&&(k.5 (toNat (↑x0.1:Int)) 1==r 1&&(k.5 (toNat (↑x0.1:Int)) 2==r 2&&(k.5 (toNat (↑x0.1:Int)) 3==r 3&&(k.5 (toNat (↑x0.1:Int)) 4==r 4&&(k.5 (toNat (↑x0.1:Int)) 5==r 5&&(k.5 (toNat (↑x0.1:Int)) 6==r 6&&(k.5 (toNat (↑x0.1:Int)) 7==r 7&&true))&&(k.5 (toNat (↑x0.1:Int)) 8==r 8&&(k.5 (toNat (↑x0.1:Int)) 9==r 9&&(k.5 (toNat (↑x0.1:Int)) 10==r 10&&true))))))))) (.out (Zi (↑x0.1:Int)) [] (Zi (kj k r)) []) (.again (be 0 y0 y1 x0) ([2,3,5]) ([0,1]) ([AV.own 0 50 0 0 50,AV.own 1 11 0 0 11,Zi (wrap .i64 ((↑x0.1:Int)+1))]) (y2)))) (.out (Zi (-1)) [] (Zi (kj k r)) [])))))
  (by kernel_rfl) ?_
 refine aU (fun _ hs=>hs.le (⟨.refl _,.refl _,.refl _,trivial⟩) (⟨.refl _,.refl _,trivial⟩)) (fun x0=>?_)
 try (have q0:=x0.2;dsimp only at q0)
 refine aL (fun h1=>?_) (fun h1=>?_)
 ·have g1:=af h1
  refine aD (by omega) ?_
  refine aL (fun h3=>?_) (fun h3=>?_)
  ·have g3:=(ah ai (ah ai (ah ai (ah ai (ah ai (ah (ah ai (ah ai (ah ai aC))) (ah ai (ah ai (ah ai aC))))))))) h3
   try simp only [Int.toNat_natCast] at g3
   exact aq (aw.of_eq (congrArg _ (cr (p:=fun i=>kP (k.R i) r) x0.2.2 (by omega) (vF.trans (Jq (x:=r) g3)))))
  ·have g3:=(aj ao (aj ao (aj ao (aj ao (aj ao (aj (aj ao (aj ao (aj ao aF))) (aj ao (aj ao (aj ao aF))))))))) h3
   try simp only [Int.toNat_natCast] at g3
   exact aN (⟨x0.1+1,by omega,bS (p:=fun i=>kP (k.R i) r) x0.2.2 (by omega) (vF.trans (Jw (x:=r) g3))⟩) (fun _ hs=>hs.le (⟨.refl _,.refl _,aJ (by omega),trivial⟩) (⟨.refl _,.refl _,trivial⟩)) (by dsimp only;omega)
 ·have g1:=aa h1
  exact aq (aw.of_eq (congrArg _ (bW x0.2.2 (by omega))))
theorem Ki (k:aX) (y m:Int) (hn:k.ni<9223372036854775808):Pure Tryz.prog aW 135 [.agg k.cells,.int .i64 y,.int .i64 m] (.int .i64 (tu k y m)):=by
 refine ar (own:=bk) Tryz.func135 (by kernel_rfl) mixed (by kernel_rfl)
  (let z0:={ x:Nat // x≤aX.ni k∧(fun i=>tu k y m=aK (fun i=>aX.I k i 2==y&&aX.I k i 1==m) (aX.ni k - i) i) x };let y0:=(fun (x:z0)=>aY [1,2,3,7] [Zi y,Zi m,.own 0 50 0 0 50,Zi x.1] [some ⟨50,1,true,.ba [aX.cells k]⟩]);let y1:=(fun (x:z0)=>aX.ni k - x.1);(.loop (z0) y0 y1 (⟨0,⟨Nat.zero_le (aX.ni k),rfl⟩⟩) [1,2,3,7] [0] [Zi y,Zi m,.own 0 50 0 0 50,Zi 0] [some ⟨50,1,true,.ba [aX.cells k]⟩] (fun x0=>let z1:Nat:=(toNat (x0.1:Int));(.br (decide ((x0.1:Int)<(k.16:Int))) (.bf (0≤(x0.1:Int)∧(x0.1:Int)<(k.16:Int)) (.bf (((k.17 z1 2==y)==true)=true→0≤(x0.1:Int)∧(x0.1:Int)<(k.16:Int)) (.br (k.17 z1 2==y&&k.17 z1 1==m) (.out (Zi x0.1) [] (Zi (tu k y m)) []) (.again (be 0 y0 y1 x0) [1,2,3,7] [0] [Zi y,Zi m,.own 0 50 0 0 50,Zi (wrap .i64 ((x0.1:Int)+1))] [some ⟨50,1,true,.ba [aX.cells k]⟩])))) (.out (Zi (-1)) [] (Zi (tu k y m)) [])))))
  (by kernel_rfl) ?_
 refine aU (fun _ hs=>hs.le (⟨.refl _,.refl _,.refl _,.refl _,trivial⟩) (⟨.refl _,trivial⟩)) (fun x0=>?_)
 try (have q0:=x0.2;dsimp only at q0)
 refine aL (fun h1=>?_) (fun h1=>?_)
 ·have g1:=af h1
  refine aD (by omega) ?_
  refine aD (fun hr=>by have hr:=(cJ ai) hr;omega) ?_
  refine aL (fun h4=>?_) (fun h4=>?_)
  ·have g4:=(ah ai ai) h4
   try simp only [Int.toNat_natCast] at g4
   exact aq (aw.of_eq (congrArg _ (cr (p:=fun i=>k.I i 2==y&&k.I i 1==m) x0.2.2 (by omega) (by simpa using g4))))
  ·have g4:=(aj ao ao) h4
   try simp only [Int.toNat_natCast] at g4
   exact aN (⟨x0.1+1,by omega,bS (p:=fun i=>k.I i 2==y&&k.I i 1==m) x0.2.2 (by omega) (by simp;omega)⟩) (fun _ hs=>hs.le (⟨.refl _,.refl _,.refl _,aJ (by omega),trivial⟩) (⟨.refl _,trivial⟩)) (by dsimp only;omega)
 ·have g1:=aa h1
  exact aq (aw.of_eq (congrArg _ (bW x0.2.2 (by omega))))
theorem Bl (n:Nat) (R:Nat→Nat→Int) (hn:n≤1000):Pure Tryz.prog aW 131 [.aG 11 n fun i j=>.int .i64 (R i j)] (.bool (!(List.range n).all fun i=>ke R n (R i 0) (R i 1) (R i 2)==(i:Int))):=by
 have c1:=fun a b c=>ud R n a b c hn
 refine ar (own:=bk) Tryz.func131 (by kernel_rfl) mixed (by kernel_rfl)
  (let z0:={ x:Nat // x≤n∧(fun (i:Nat)=>∀ (j:Nat),j<i→(ke R n (R j 0) (R j 1) (R j 2)==(j:Int))=true) x };let y0:AV:=(.bool !List.all (List.range n) fun i=>ke R n (R i 0) (R i 1) (R i 2)==(i:Int));(.loop (z0) (fun (x:z0)=>aY [0,3] [.aG 11 n fun i j=>Zi (R i j),Zi x.1] []) (fun (x:z0)=>n - x.1) (⟨0,⟨Nat.zero_le n,fun (j:Nat) (hj:j<0)=>absurd hj (Nat.not_lt_zero j)⟩⟩) [0,3] [] [.aG 11 n fun i j=>Zi (R i j),Zi 0] [] (fun x0=>let z1:Nat:=(toNat (x0.1:Int));(.br (decide ((x0.1:Int)<(n:Int))) (.bf (0≤(x0.1:Int)∧(x0.1:Int)<(n:Int)) (.bf (0≤(x0.1:Int)∧(x0.1:Int)<(n:Int)) (.bf (0≤(x0.1:Int)∧(x0.1:Int)<(n:Int)) (.sc true 197 [.aG 11 n fun i j=>Zi (R i j),Zi (R z1 0),Zi (R z1 1),Zi (R z1 2)] (Zi (ke R n (R z1 0) (R z1 1) (R z1 2))) (.br (ke R n (R z1 0) (R z1 1) (R z1 2) != (x0.1:Int)) (.out (.bool true) [] y0 []) (.again (be 0 (fun (x:z0)=>aY [0,3] [.aG 11 n fun i j=>Zi (R i j),Zi x.1] []) (fun (x:z0)=>n - x.1) x0) [0,3] [] [.aG 11 n fun i j=>Zi (R i j),Zi (wrap .i64 ((x0.1:Int)+1))] [])))))) (.out (.bool false) [] y0 [])))))
  (by kernel_rfl) ?_
 refine aU (fun _ hs=>hs.le (⟨.refl _,.refl _,trivial⟩) (trivial)) (fun x0=>?_)
 try (have q0:=x0.2;dsimp only at q0)
 refine aL (fun h1=>?_) (fun h1=>?_)
 ·have g1:=af h1
  refine aD (by omega) ?_
  refine aD (by omega) ?_
  refine aD (by omega) ?_
  refine aM (c1 (R (toNat (↑x0.1:Int)) (0)) (R (toNat (↑x0.1:Int)) (1)) (R (toNat (↑x0.1:Int)) (2))) ?_
  refine aL (fun h6=>?_) (fun h6=>?_)
  ·have g6:=aS h6
   try simp only [Int.toNat_natCast] at g6
   exact aq (aw.of_eq (congrArg AV.bool (by rw [vU (p:=fun i=>ke R n (R i 0) (R i 1) (R i 2)==(i:Int)) (i:=x0.1) (by omega) (beq_eq_false_iff_ne.2 g6)];rfl)))
  ·have g6:=aP h6
   try simp only [Int.toNat_natCast] at g6
   exact aN (⟨x0.1+1,by omega,cF x0.2.2 (beq_iff_eq.2 g6)⟩) (fun _ hs=>hs.le (⟨.refl _,aJ (by omega),trivial⟩) (trivial)) (by dsimp only;omega)
 ·have g1:=aa h1
  exact aq (aw.of_eq (congrArg AV.bool (by rw [jX fun i hi=>x0.2.2 i (by omega)];rfl)))
end Go.Proofs.YtgnfjlekpgjehaaGreatDoor

namespace Go.Sp
open Go.IntKind (wrap)
open Int (toNat)
open Go Go.Am
variable {k : aX} {i : Nat}
def wo (k:aX) (i:Nat):Bool:=okK k.cg (k.X i) (k.R i)&&dV k.cg (cX (k.R i))&&k.R i 0==k.num
theorem uv:wo k i=true↔ec k.cg (k.X i)=true∧ct k.cg k.cg.gr.g (k.X i)=k.R i 5∧ct k.cg k.cg.g1 (k.X i)=k.R i 6∧ct k.cg k.cg.g2 (k.X i)=k.R i 7∧dV k.cg (cX (k.R i))=true∧k.R i 0=k.num:=by
 simp [wo,okK,and_assoc]
theorem Oe {n:Nat} (hn:n=k.nr) (g:¬(k.nr:Int)>100∧(k.ns:Int)=k.nr) (h:∀ i,i<n→wo k i=true):(!!(List.range k.nr).all fun i=>ke k.R k.nr (k.R i 0) (k.R i 1) (k.R i 2)==(i:Int))=fD k:=by
 subst hn
 rw [Bool.not_not]
 cases e:(List.range k.nr).all fun i=>ke k.R k.nr (k.R i 0) (k.R i 1) (k.R i 2)==(i:Int) with
 | true =>
  rw [List.all_eq_true] at e
  refine (Fx g fun i hi=>?_).symm
  have:=e i (List.mem_range.2 hi)
  have h2:=h i hi
  unfold wo at h2
  unfold FL
  rw [h2,this];rfl
 | false =>
  refine (eM fun h3=>?_).symm
  have h3:=(re h3).ok
  have:((List.range k.nr).all fun i=>ke k.R k.nr (k.R i 0) (k.R i 1) (k.R i 2)==(i:Int))=true:=jX fun i hi=>beq_iff_eq.2 (oM.1 (h3 i hi)).2.2.2.2.2.2
  rw [this] at e;cases e
theorem Mi (hi:i<k.nr) (h:wo k i=false):fD k=false:=yY hi (by unfold wo at h;unfold FL;rw [h,Bool.false_and])
end Go.Sp

namespace Go.Proofs.YtgnfjlekpgjehaaGreatDoor
open Go.IntKind (wrap)
open Int (toNat)
open Go Go.Am Go.Sp
set_option maxRecDepth 100000
theorem G3 (k:aX) (h:k.cg.Ok) (hw:k.cg.gr.W) (hr:k.nr<9223372036854775808) (hs:k.ns<9223372036854775808):Pure Tryz.prog aW 85 [.agg k.cells] (.bool (fD k)):=by
 have c1:=fun i hx=>H2 k.cg (k.X i) h hx
 have c2:=fun i=>th k.cg (cX (k.R i)) hw
 have c3:=fun h=>Bl k.nr k.R h
 have c4:=fun i=>sI k.cg (k.X i)
 refine ar (own:=bk) Tryz.func85 (by kernel_rfl) mixed (by kernel_rfl)
  (let z3:AV:=(.bool (fD k));let z2:=(aI.gr (aX.cg k));let z1:={ x:Nat // x≤aX.nr k∧(fun (i:Nat)=>∀ (j:Nat),j<i→wo k j=true) x };let y0:List (Option Ob):=[some ⟨50,1,true,.ba [aX.cells k]⟩];(.br (decide ((k.4:Int)>100)||(k.6:Int) != (k.4:Int)) (.out (.bool false) [] z3 []) (.loop (z1) (fun (x:z1)=>aY [1,5,3] [.own 0 50 0 0 50,.own 0 50 0 8 1,Zi x.1] y0) (fun (x:z1)=>aX.nr k - x.1) (⟨0,⟨Nat.zero_le (aX.nr k),fun (j:Nat) (hj:j<0)=>absurd hj (Nat.not_lt_zero j)⟩⟩) [1,5,3] [0] [.own 0 50 0 0 50,.own 0 50 0 8 1,Zi 0] (y0) (fun x2=>let z0:Nat:=(toNat (x2.1:Int));(.br (decide ((x2.1:Int)<(k.4:Int))) (.bf (0≤(x2.1:Int)∧(x2.1:Int)<(k.4:Int)) (.sc ((k.5 z0 0 != k.1)==false) 129 [.agg (aI.cells (aX.cg k)),.agg [Zi (k.5 z0 0),Zi (k.5 z0 1),Zi (k.5 z0 2),Zi (k.5 z0 3),Zi (k.5 z0 4),Zi (k.5 z0 5),Zi (k.5 z0 6),Zi (k.5 z0 7),Zi (k.5 z0 8),Zi (k.5 z0 9),Zi (k.5 z0 10)]] (.bool (dV (aX.cg k) (cX (aX.R k z0)))) (.bf (((k.5 z0 0 != k.1 || !dV k.2 (cX (k.5 z0)))==false)=true→0≤(x2.1:Int)∧(x2.1:Int)<(k.6:Int)) (.sc ((k.5 z0 0 != k.1 || !dV k.2 (cX (k.5 z0)))==false) 35 [.agg [Zi z2.1,Zi z2.2,Zi z2.3],Zi (k.7 z0)] (.bool (ec (aX.cg k) (aX.X k z0))) (.bf (((k.5 z0 0 != k.1 || !dV k.2 (cX (k.5 z0)) || !ec k.2 (k.7 z0))==false)=true→0≤(x2.1:Int)∧(x2.1:Int)<(k.6:Int)) (.sc ((k.5 z0 0 != k.1 || !dV k.2 (cX (k.5 z0)) || !ec k.2 (k.7 z0))==false) 130 [.agg (aI.cells (aX.cg k)),Zi (k.7 z0)] (.agg [Zi (ct (aX.cg k) (bL.g z2) (aX.X k z0)),Zi (ct (aX.cg k) (aI.g1 (aX.cg k)) (aX.X k z0)),Zi (ct (aX.cg k) (aI.g2 (aX.cg k)) (aX.X k z0))]) (.br (k.5 z0 0 != k.1 || !dV k.2 (cX (k.5 z0)) || !ec k.2 (k.7 z0) || !(ct k.2 z2.3 (k.7 z0)==k.5 z0 5&&(ct k.2 (aX.cg k).2 (k.7 z0)==k.5 z0 6&&(ct k.2 (aX.cg k).3 (k.7 z0)==k.5 z0 7&&true)))) (.out (.bool false) [] z3 []) (.again (be 0 (fun (x:z1)=>aY [1,5,3] [.own 0 50 0 0 50,.own 0 50 0 8 1,Zi x.1] y0) (fun (x:z1)=>aX.nr k - x.1) x2) [1,5,3] [0] [.own 0 50 0 0 50,.own 0 50 0 8 1,Zi (wrap .i64 ((x2.1:Int)+1))] (y0))))))))) (.sc true 131 [.aG 11 k.4 fun i j=>Zi (k.5 i j)] (.bool !List.all (List.range (aX.nr k)) fun i=>ke (aX.R k) (aX.nr k) (aX.R k i 0) (aX.R k i 1) (aX.R k i 2)==(i:Int)) (.out (.bool !!List.all (List.range.loop k.4 []) fun i=>ke k.5 k.4 (k.5 i 0) (k.5 i 1) (k.5 i 2)==(i:Int)) [] z3 [])))))))
  (by kernel_rfl) ?_
 refine aL (fun h0=>?_) (fun h0=>?_)
 ·have g0:=(az af aS) h0
  exact aq (aw.of_eq (congrArg AV.bool (yi g0).symm))
 ·have g0:=(au aa aP) h0
  refine aU (fun _ hs=>hs.le (⟨.refl _,.refl _,.refl _,trivial⟩) (⟨.refl _,trivial⟩)) (fun x2=>?_)
  try (have q2:=x2.2;dsimp only at q2)
  refine aL (fun h3=>?_) (fun h3=>?_)
  ·have g3:=af h3
   refine aD (by omega) ?_
   refine aV (fun h5=>c2 (toNat (↑x2.1:Int))) ?_
   refine aD (fun hr=>by have hr:=(cY (au aP (ay aC))) hr;omega) ?_
   refine aV (fun h7=>c4 (toNat (↑x2.1:Int))) ?_
   refine aD (fun hr=>by have hr:=(cY (au (au aP (ay aC)) (ay aC))) hr;omega) ?_
   refine aV (fun h9=>c1 (toNat (↑x2.1:Int)) ((by simp at h9;exact h9.2))) ?_
   refine aL (fun h10=>?_) (fun h10=>?_)
   ·have g10:=(az (az (az aS (aB aF)) (aB aF)) (aB (aj ao (aj ao (aj ao aF))))) h10
    try simp only [Int.toNat_natCast] at g10
    exact aq (aw.of_eq (congrArg AV.bool (Mi (i:=x2.1) (by omega) (eM fun e=>by have e:=uv.1 e;clear c1 c2 c3 c4;grind)).symm))
   ·have g10:=(au (au (au aP (ay aC)) (ay aC)) (ay (ah ai (ah ai (ah ai aC))))) h10
    try simp only [Int.toNat_natCast] at g10
    exact aN (⟨x2.1+1,by omega,cF x2.2.2 (uv.2 (by clear c1 c2 c3 c4;grind))⟩) (fun _ hs=>hs.le (⟨.refl _,.refl _,aJ (by omega),trivial⟩) (⟨.refl _,trivial⟩)) (by dsimp only;omega)
  ·have g3:=aa h3
   refine aM (c3 (by omega)) ?_
   exact aq (aw.of_eq (congrArg AV.bool ((Oe (n:=x2.1) (by omega) g0 x2.2.2))))
theorem Hz (k:aX) (hw:k.cg.gr.W) (hn:k.nc<9223372036854775808):Pure Tryz.prog aW 86 [.agg k.cells] (.bool (gG k)):=by
 have c1:=fun i=>yu k.cg (k.C i).key (k.C i).pf hw
 have c2:=fun y=>s9 k y hn
 refine ar (own:=bk) Tryz.func86 (by kernel_rfl) mixed (by kernel_rfl)
  (let z2:AV:=(.bool (gG k));let z1:={ x:Nat // x≤aX.nc k∧(fun (i:Nat)=>∀ (j:Nat),j<i→okC k j=true) x };let y0:List (Option Ob):=[some ⟨50,1,true,.ba [aX.cells k]⟩];(.br (decide ((k.8:Int)>100)) (.out (.bool false) [] z2 []) (.loop (z1) (fun (x:z1)=>aY [1,6,3] [.own 0 50 0 0 50,.aG 7 k.8 fun i j=>aO (de.cells (aX.C k i)) j,Zi x.1] y0) (fun (x:z1)=>aX.nc k - x.1) (⟨0,⟨Nat.zero_le (aX.nc k),fun (j:Nat) (hj:j<0)=>absurd hj (Nat.not_lt_zero j)⟩⟩) [1,6,3] [0] [.own 0 50 0 0 50,.aG 7 k.8 fun i j=>aO (de.cells (aX.C k i)) j,Zi 0] (y0) (fun x2=>let z0:=(aX.C k (toNat (↑(x2.1):Int)));(.br (decide ((x2.1:Int)<(k.8:Int))) (.bf (0≤(x2.1:Int)∧(x2.1:Int)<(k.8:Int)) (.sc true 39 [.agg (aI.cells (aX.cg k)),.agg [Zi z0.1,.aG 1 (de.pf z0).1 fun i x=>Zi ((de.pf z0).2 i),Zi (de.pf z0).3,.aG 1 (de.pf z0).4 fun i x=>Zi ((de.pf z0).5 i)]] (.bool (gy (aX.cg k) (de.key z0) (de.pf z0))) (.sc ((!gy k.2 z0.1 z0.2)==false) 40 [.agg (aX.cells k),Zi z0.1] (Zi (km k z0.1)) (.sc ((!gy k.2 z0.1 z0.2||km k z0.1 != (x2.1:Int)||z0.3 != wrap .i64 ((5:Int)+(x2.1:Int)))==false) 34 [Zi z0.5,Zi 0,Zi 200] (.bool (decide (z0.5≥0)&&decide (z0.5≤200))) (.br (!gy k.2 z0.1 z0.2||km k z0.1 != (x2.1:Int)||z0.3 != wrap .i64 ((5:Int)+(x2.1:Int)) || !(decide (z0.5≥0)&&decide (z0.5≤200))) (.out (.bool false) [] z2 []) (.again (be 0 (fun (x:z1)=>aY [1,6,3] [.own 0 50 0 0 50,.aG 7 k.8 fun i j=>aO (de.cells (aX.C k i)) j,Zi x.1] y0) (fun (x:z1)=>aX.nc k - x.1) x2) [1,6,3] [0] [.own 0 50 0 0 50,.aG 7 k.8 fun i j=>aO (de.cells (aX.C k i)) j,Zi (wrap .i64 ((x2.1:Int)+1))] (y0))))))) (.out (.bool true) [] z2 []))))))
  (by kernel_rfl) ?_
 refine aL (fun h0=>?_) (fun h0=>?_)
 ·have g0:=af h0
  exact aq (aw.of_eq (congrArg AV.bool (zu g0).symm))
 ·have g0:=aa h0
  refine aU (fun _ hs=>hs.le (⟨.refl _,.refl _,.refl _,trivial⟩) (⟨.refl _,trivial⟩)) (fun x2=>?_)
  try (have q2:=x2.2;dsimp only at q2)
  have e5:x2.1<k.nc→IntKind.wrap .i64 (5+(x2.1:Int))=5+(x2.1:Int):=fun _=>wI (by omega) (by omega)
  refine aL (fun h3=>?_) (fun h3=>?_)
  ·have g3:=af h3
   refine aD (by omega) ?_
   refine aM (c1 (toNat (↑(x2.1):Int))) ?_
   refine aV (fun h6=>c2 ((aX.C k (toNat (↑(x2.1):Int))).1)) ?_
   refine aV (fun h7=>m7 ((aX.C k (toNat (↑(x2.1):Int))).5) ((0:Int)) ((200:Int))) ?_
   refine aL (fun h8=>?_) (fun h8=>?_)
   ·have g8:=(az (az (az (aB aF) aS) aS) (aB (aj aa aa))) h8
    try simp only [Int.toNat_natCast] at g8
    exact aq (aw.of_eq (congrArg AV.bool (xL (i:=x2.1) (by omega) (eM fun e=>by have e:=mO.1 e;clear c1 c2;rw [e5 (by omega)] at g8;grind)).symm))
   ·have g8:=(au (au (au (ay aC) aP) aP) (ay (ah af af))) h8
    try simp only [Int.toNat_natCast] at g8
    exact aN (⟨x2.1+1,by omega,cF x2.2.2 (mO.2 (by clear c1 c2;rw [e5 (by omega)] at g8;grind))⟩) (fun _ hs=>hs.le (⟨.refl _,.refl _,aJ (by omega),trivial⟩) (⟨.refl _,trivial⟩)) (by dsimp only;omega)
  ·have g3:=aa h3
   exact aq (aw.of_eq (congrArg AV.bool (Cz g0 fun i hi=>x2.2.2 i (by omega)).symm))
theorem FN (k:aX) (h:k.cg.Ok) (hw:k.cg.gr.W) (hV:HX k) (hc:k.nc<9223372036854775808) (hn:k.ni<9223372036854775808):Pure Tryz.prog aW 89 [.agg k.cells] (.bool (jz k)):=by
 have m0:=hV.hi
 have m1:=hV.ns
 have c1:=fun i=>LR k (fun j=>k.I i (3+j)) (by omega)
 have c2:=fun i=>GS k.cg (k.I i) hw
 have c3:=fun y=>s9 k y hc
 have c4:=fun y m=>Ki k y m hn
 have c5:=fun x e (P:(0≤x∧x<k.cg.gr.p)∧(0≤e∧e<k.cg.gr.q))=>j0 x e k.cg.gr.p P.1.1 P.1.2 P.2.1 (by have:=h.G.qp;have:=h.G.p1;omega) h.G.p1
 have K:=fun i (g:(((¬kj k (fun j=>k.I i (3+j))<0∧¬km k (k.I i 2)<0)∧tu k (k.I i 2) (k.I i 1)=(i:Int))∧gd k.cg (k.I i)=true))=>Gu hV ⟨⟨⟨g.1.1.1,g.2⟩,g.1.1.2⟩,g.1.2⟩
 refine ar (own:=bk) Tryz.func89 (by kernel_rfl) mixed (by kernel_rfl)
  (let z4:AV:=(.bool (jz k));let z3:=(aI.gr (aX.cg k));let z2:=(decide ((k.16:Int)>200));let z1:={ x:Nat // x≤aX.ni k∧(fun (i:Nat)=>∀ (j:Nat),j<i→FK k j=true) x };let y0:List (Option Ob):=[some ⟨50,1,true,.ba [aX.cells k]⟩];(.br z2 (.out (.bool false) [] z4 []) (.loop (z1) (fun (x:z1)=>aY [1,9,3] [.own 0 50 0 0 50,.bool z2,Zi x.1] y0) (fun (x:z1)=>aX.ni k - x.1) (⟨0,⟨Nat.zero_le (aX.ni k),fun (j:Nat) (hj:j<0)=>absurd hj (Nat.not_lt_zero j)⟩⟩) [1,9,3] [0] [.own 0 50 0 0 50,.bool z2,Zi 0] (y0) (fun x2=>let z0:Nat:=(toNat (x2.1:Int));(.br (decide ((x2.1:Int)<(k.16:Int))) (.bf (0≤(x2.1:Int)∧(x2.1:Int)<(k.16:Int)) (.sc true 134 [.agg (aX.cells k),.agg [Zi (k.17 z0 3),Zi (k.17 z0 4),Zi (k.17 z0 5),Zi (k.17 z0 6),Zi (k.17 z0 7),Zi (k.17 z0 8),Zi (k.17 z0 9),Zi (k.17 z0 10),Zi (k.17 z0 11),Zi (k.17 z0 12),Zi (k.17 z0 13)]] (Zi (kj k fun j=>aX.I k z0 (3+j))) (.sc (decide ((kj k fun j=>k.17 z0 (3+j))<0)==false) 40 [.agg (aX.cells k),Zi (k.17 z0 2)] (Zi (km k (k.17 z0 2))) (.sc ((decide ((kj k fun j=>k.17 z0 (3+j))<0)||decide (km k (k.17 z0 2)<0))==false) 135 [.agg (aX.cells k),Zi (k.17 z0 2),Zi (k.17 z0 1)] (Zi (tu k (k.17 z0 2) (k.17 z0 1))) (.sc ((decide ((kj k fun j=>k.17 z0 (3+j))<0)||decide (km k (k.17 z0 2)<0)||tu k (k.17 z0 2) (k.17 z0 1) != (x2.1:Int))==false) 136 [.agg (aI.cells (aX.cg k)),.agg [Zi (k.17 z0 0),Zi (k.17 z0 1),Zi (k.17 z0 2),Zi (k.17 z0 3),Zi (k.17 z0 4),Zi (k.17 z0 5),Zi (k.17 z0 6),Zi (k.17 z0 7),Zi (k.17 z0 8),Zi (k.17 z0 9),Zi (k.17 z0 10),Zi (k.17 z0 11),Zi (k.17 z0 12),Zi (k.17 z0 13),Zi (k.17 z0 14),Zi (k.17 z0 15),Zi (k.17 z0 16),Zi (k.17 z0 17),Zi (k.17 z0 18),Zi (k.17 z0 19),Zi (k.17 z0 20)]] (.bool (gd (aX.cg k) (aX.I k z0))) (.bf (((decide ((kj k fun j=>k.17 z0 (3+j))<0)||decide (km k (k.17 z0 2)<0)||tu k (k.17 z0 2) (k.17 z0 1) != (x2.1:Int) || !gd k.2 (k.17 z0))==false)=true→((0:Int)≤kj k fun j=>k.17 z0 (3+j))∧(kj k fun j=>k.17 z0 (3+j))<(k.6:Int)) (.sc ((decide ((kj k fun j=>k.17 z0 (3+j))<0)||decide (km k (k.17 z0 2)<0)||tu k (k.17 z0 2) (k.17 z0 1) != (x2.1:Int) || !gd k.2 (k.17 z0))==false) 126 [Zi (k.17 z0 15),Zi (k.7 (toNat (kj k fun j=>k.17 z0 (3+j)))),Zi z3.1] (Zi (k.17 z0 15^toNat (k.7 (toNat (kj k fun j=>k.17 z0 (3+j))))%bL.p z3)) (.br (decide ((kj k fun j=>k.17 z0 (3+j))<0)||decide (km k (k.17 z0 2)<0)||tu k (k.17 z0 2) (k.17 z0 1) != (x2.1:Int) || !gd k.2 (k.17 z0)||k.17 z0 15^toNat (k.7 (toNat (kj k fun j=>k.17 z0 (3+j))))%z3.1 != k.17 z0 16) (.out (.bool false) [] z4 []) (.again (be 0 (fun (x:z1)=>aY [1,9,3] [.own 0 50 0 0 50,.bool z2,Zi x.1] y0) (fun (x:z1)=>aX.ni k - x.1) x2) [1,9,3] [0] [.own 0 50 0 0 50,.bool z2,Zi (wrap .i64 ((x2.1:Int)+1))] (y0)))))))))) (.out (.bool true) [] z4 []))))))
  (by kernel_rfl) ?_
 refine aL (fun h0=>?_) (fun h0=>?_)
 ·have g0:=af h0
  exact aq (aw.of_eq (congrArg AV.bool (yD g0).symm))
 ·have g0:=aa h0
  refine aU (fun _ hs=>hs.le (⟨.refl _,.refl _,.refl _,trivial⟩) (⟨.refl _,trivial⟩)) (fun x2=>?_)
  try (have q2:=x2.2;dsimp only at q2)
  refine aL (fun h3=>?_) (fun h3=>?_)
  ·have g3:=af h3
   refine aD (by omega) ?_
   refine aM (c1 (toNat (↑x2.1:Int))) ?_
   refine aV (fun h6=>c3 (k.17 (toNat (↑x2.1:Int)) (2))) ?_
   refine aV (fun h7=>c4 (k.17 (toNat (↑x2.1:Int)) (2)) (k.17 (toNat (↑x2.1:Int)) (1))) ?_
   refine aV (fun h8=>c2 (toNat (↑x2.1:Int))) ?_
   refine aD (fun hr=>by have hr:=(cY (au (au (au aa aa) aP) (ay aC))) hr;have:=(K x2.1 hr).rc;simp only [Int.toNat_natCast];omega) ?_
   refine aV (fun h10=>c5 (k.17 (toNat (↑x2.1:Int)) (15)) (k.7 (toNat (kj k fun (j:Nat)=>k.17 (toNat (↑x2.1:Int)) (3+j)))) ((by have hr:=(cY (au (au (au aa aa) aP) (ay aC))) h10;have P:=K x2.1 hr;exact ⟨cd h.G P.el,j8 P.nz⟩))) ?_
   refine aL (fun h11=>?_) (fun h11=>?_)
   ·have g11:=(az (az (az (az af af) aS) (aB aF)) aS) h11
    try simp only [Int.toNat_natCast] at g11
    exact aq (aw.of_eq (congrArg AV.bool (sB (i:=x2.1) (by omega) (eM fun e=>by have e:=mR.1 e;unfold ct at e;clear c1 c2 c3 c4 c5 K;grind)).symm))
   ·have g11:=(au (au (au (au aa aa) aP) (ay aC)) aP) h11
    try simp only [Int.toNat_natCast] at g11
    exact aN (⟨x2.1+1,by omega,cF x2.2.2 (mR.2 (by unfold ct;clear c1 c2 c3 c4 c5 K;grind))⟩) (fun _ hs=>hs.le (⟨.refl _,.refl _,aJ (by omega),trivial⟩) (⟨.refl _,trivial⟩)) (by dsimp only;omega)
  ·have g3:=aa h3
   exact aq (aw.of_eq (congrArg AV.bool (Fz g0 fun i hi=>x2.2.2 i (by omega)).symm))
theorem Lh (x0 x1 x2 l0 l1 l2:Int):Pure Tryz.prog aW 155 [.agg [.int .i64 x0,.int .i64 x1,.int .i64 x2],.bH 3 (aO [.int .i64 l0,.int .i64 l1,.int .i64 l2])] (.bool (x0==l0)):=by
 refine ar (own:=bk) Tryz.func155 (by kernel_rfl) mixed (by kernel_rfl)
  (.out (.bool (x0==l0)) [] (.bool (x0==l0)) [])
  (by kernel_rfl) ?_
 exact aq (aw.of_eq rfl)
theorem Hw (f:Nat→Nat→Int) (n:Nat) (l0 l1 l2:Int) (hn:n<9223372036854775808):Pure Tryz.prog aW 227 [wc n f,.fn (.func 155) [] [.bH 3 (aO [.int .i64 l0,.int .i64 l1,.int .i64 l2])]] (.int .i64 (aK (fun i=>f i 0==l0) n 0)):=by
 refine ar (own:=bk) Tryz.func227 (by kernel_rfl) mixed (by kernel_rfl)
  (let z3:=(Fn.func (155:FuncId));let z1:=(aO [Zi l0,Zi l1,Zi l2]);let z0:={ x:Nat // x≤n∧(fun i=>aK (fun i=>f i 0==l0) n 0=aK (fun i=>f i 0==l0) (n - i) i) x };let y0:=(fun (x:z0)=>aY [0,1,7,8] [.aG 3 n fun i j=>Zi (f i j),AV.fn z3 [] [AV.bH 3 z1],Zi n,Zi x.1] []);let y1:=(fun (x:z0)=>n - x.1);let y2:AV:=(Zi (aK (fun i=>f i 0==l0) n 0));(.loop (z0) y0 y1 (⟨0,⟨Nat.zero_le n,rfl⟩⟩) [0,1,7,8] [] [.aG 3 n fun i j=>Zi (f i j),AV.fn z3 [] [AV.bH 3 z1],Zi n,Zi 0] [] (fun x0=>let z2:Nat:=(toNat (x0.1:Int));(.br (decide ((x0.1:Int)<(n:Int))) (.bf (0≤(x0.1:Int)∧(x0.1:Int)<(n:Int)) (.sc true 155 [.agg [Zi (f z2 0),Zi (f z2 1),Zi (f z2 2)],AV.bH 3 z1] (.bool (f z2 0==l0)) (.br (f z2 0==l0) (.out (Zi x0.1) [] y2 []) (.again (be 0 y0 y1 x0) [0,1,7,8] [] [.aG 3 n fun i j=>Zi (f i j),AV.fn z3 [] [AV.bH 3 z1],Zi n,Zi (wrap .i64 ((x0.1:Int)+1))] [])))) (.out (Zi (-1)) [] y2 [])))))
  (by kernel_rfl) ?_
 refine aU (fun _ hs=>hs.le (⟨.refl _,.refl _,.refl _,.refl _,trivial⟩) (trivial)) (fun x0=>?_)
 try (have q0:=x0.2;dsimp only at q0)
 refine aL (fun h1=>?_) (fun h1=>?_)
 ·have g1:=af h1
  refine aD (by omega) ?_
  refine aM (Lh (f (toNat (↑x0.1:Int)) (0)) (f (toNat (↑x0.1:Int)) (1)) (f (toNat (↑x0.1:Int)) (2)) (l0) (l1) (l2)) ?_
  refine aL (fun h4=>?_) (fun h4=>?_)
  ·have g4:=ai h4
   try simp only [Int.toNat_natCast] at g4
   exact aq (aw.of_eq (congrArg _ (cr x0.2.2 (by omega) (beq_iff_eq.2 g4))))
  ·have g4:=ao h4
   try simp only [Int.toNat_natCast] at g4
   exact aN (⟨x0.1+1,by omega,bS x0.2.2 (by omega) (beq_eq_false_iff_ne.2 g4)⟩) (fun _ hs=>hs.le (⟨.refl _,.refl _,.refl _,aJ (by omega),trivial⟩) (trivial)) (by dsimp only;omega)
 ·have g1:=aa h1
  exact aq (aw.of_eq (congrArg _ (bW x0.2.2 (by omega))))
theorem KD (f:Nat→Nat→Int) (n:Nat) (l0 l1 l2:Int) (hn:n<9223372036854775808):Pure Tryz.prog aW 154 [wc n f,.fn (.func 155) [] [.bH 3 (aO [.int .i64 l0,.int .i64 l1,.int .i64 l2])]] (.bool (anyI (fun i=>f i 0==l0) n)):=by
 refine ar (own:=bk) Tryz.func154 (by kernel_rfl) mixed (by kernel_rfl)
  (let z0:=(fun i=>f i 0==l0);(.sc true 227 [.aG 3 n fun i j=>Zi (f i j),AV.fn (Fn.func (155:FuncId)) [] [AV.bH 3 (aO [Zi l0,Zi l1,Zi l2])]] (Zi (aK z0 n 0)) (.out (.bool (decide (aK z0 n 0≥0))) [] (.bool (anyI z0 n)) [])))
  (by kernel_rfl) ?_
 refine aM ((Hw f n l0 l1 l2 hn)) ?_
 exact aq (aw.refl _)
theorem Kg (s:aA) (hn:s.nl<9223372036854775808) (hp:s.np<9223372036854775808):Pure Tryz.prog aW 102 [s.av] (.bool (iE s)):=by
 refine ar (own:=bk) Tryz.func102 (by kernel_rfl) mixed (by kernel_rfl)
  (let z2:AV:=(.bool (iE s));let z0:={ x:Nat // x≤aA.nl s∧(fun (i:Nat)=>∀ (j:Nat),j<i→nj s j=true) x };let y0:List (Option Ob):=[some ⟨80,1,true,.ba [aA.cells s]⟩];(.br (decide ((s.16:Int)<1)||decide ((s.16:Int)>32)||decide ((s.19:Int)>20)) (.out (.bool false) [] z2 []) (.loop (z0) (fun (x:z0)=>aY [1,23,24,25] [.own 0 80 0 0 80,.aG 3 s.16 fun i j=>Zi (s.17 i j),Zi s.16,Zi x.1] y0) (fun (x:z0)=>aA.nl s - x.1) (⟨0,⟨Nat.zero_le (aA.nl s),fun (j:Nat) (hj:j<0)=>absurd hj (Nat.not_lt_zero j)⟩⟩) [1,23,24,25] [0] [.own 0 80 0 0 80,.aG 3 s.16 fun i j=>Zi (s.17 i j),Zi s.16,Zi 0] (y0) (fun x2=>let z1:Nat:=(toNat (x2.1:Int));(.br (decide ((x2.1:Int)<(s.16:Int))) (.bf (0≤(x2.1:Int)∧(x2.1:Int)<(s.16:Int)) (.bf (0≤(x2.1:Int)∧(x2.1:Int)≤(s.16:Int)) (.sc true 154 [.aG 3 z1 fun i j=>Zi (s.17 (i+0) j),AV.fn (Fn.func 155) [] [AV.bH 3 fun k=>aO [Zi (s.17 z1 0),Zi (s.17 z1 1),Zi (s.17 z1 2)] k]] (.bool (anyI (fun i=>s.17 (i+0) 0==s.17 z1 0) z1)) (.br (anyI (fun i=>s.17 (i+0) 0==s.17 z1 0) z1) (.out (.bool false) [] z2 []) (.again (be 0 (fun (x:z0)=>aY [1,23,24,25] [.own 0 80 0 0 80,.aG 3 s.16 fun i j=>Zi (s.17 i j),Zi s.16,Zi x.1] y0) (fun (x:z0)=>aA.nl s - x.1) x2) [1,23,24,25] [0] [.own 0 80 0 0 80,.aG 3 s.16 fun i j=>Zi (s.17 i j),Zi s.16,Zi (wrap .i64 ((x2.1:Int)+1))] (y0)))))) (.out (.bool true) [] z2 []))))))
  (by kernel_rfl) ?_
 refine aL (fun h0=>?_) (fun h0=>?_)
 ·have g0:=(az (az af af) af) h0
  exact aq (aw.of_eq (congrArg AV.bool (za g0).symm))
 ·have g0:=(au (au aa aa) aa) h0
  refine aU (fun _ hs=>hs.le (⟨.refl _,.refl _,.refl _,.refl _,trivial⟩) (⟨.refl _,trivial⟩)) (fun x2=>?_)
  try (have q2:=x2.2;dsimp only at q2)
  refine aL (fun h3=>?_) (fun h3=>?_)
  ·have g3:=af h3
   refine aD (by omega) ?_
   refine aD (by omega) ?_
   refine aM (KD (fun (i:Nat)=>s.17 (i+0)) (toNat (↑x2.1:Int)) (s.17 (toNat (↑x2.1:Int)) (0)) (s.17 (toNat (↑x2.1:Int)) (1)) (s.17 (toNat (↑x2.1:Int)) (2)) (by omega)) ?_
   refine aL (fun h7=>?_) (fun h7=>?_)
   ·have g7:=aC h7
    try simp only [Int.toNat_natCast] at g7
    exact aq (aw.of_eq (congrArg AV.bool (xT (i:=x2.1) (by omega) (Nv g7)).symm))
   ·have g7:=aF h7
    try simp only [Int.toNat_natCast] at g7
    exact aN (⟨x2.1+1,by omega,cF x2.2.2 (NI g7)⟩) (fun _ hs=>hs.le (⟨.refl _,.refl _,.refl _,aJ (by omega),trivial⟩) (⟨.refl _,trivial⟩)) (by dsimp only;omega)
  ·have g3:=aa h3
   exact aq (aw.of_eq (congrArg AV.bool (DV g0.1.1 g0.1.2 g0.2 fun i hi=>x2.2.2 i (by omega)).symm))
def owZ (n:Nat):FuncId→Option (List Bool):=fun f=>bif Nat.beq f 999999999 then some (List.replicate n true) else none
theorem Di (n:Int):Pure Tryz.prog aW 228 [.int .i64 n] (.bool false):=by
 refine ar (own:=bk) Tryz.func228 (by kernel_rfl) mixed (by kernel_rfl)
  (.out (.bool (n != n)) [] (.bool false) [])
  (by kernel_rfl) ?_
 exact aq (aw.of_eq (by simp_all))
theorem Fk (a b:Int):Pure Tryz.prog aW 157 [.int .i64 a,.int .i64 b] (.int .i64 (jK a b)):=by
 refine ar (own:=bk) Tryz.func157 (by kernel_rfl) mixed (by kernel_rfl)
  (.sc true 228 [Zi a] (.bool false) (.sc true 228 [Zi b] (.bool false) (.ff (.ff (.br (decide (a<b)) (.out (Zi (-1)) [] (Zi (jK a b)) []) (.br (decide (a>b)) (.out (Zi 1) [] (Zi (jK a b)) []) (.out (Zi 0) [] (Zi (jK a b)) [])))))))
  (by kernel_rfl) ?_
 refine aM (Di (a)) ?_
 refine aM (Di (b)) ?_
 refine b9 ?_
 refine b9 ?_
 refine aL (fun h4=>?_) (fun h4=>?_)
 ·have g4:=af h4
  exact aq (aw.of_eq (congrArg (AV.int _) (by unfold jK;split<;>(try split)<;>omega)))
 ·have g4:=aa h4
  refine aL (fun h6=>?_) (fun h6=>?_)
  ·have g6:=af h6
   exact aq (aw.of_eq (congrArg (AV.int _) (by unfold jK;split<;>(try split)<;>omega)))
  ·have g6:=aa h6
   exact aq (aw.of_eq (congrArg (AV.int _) (by unfold jK;split<;>(try split)<;>omega)))
theorem N5 (a b:Int):Pure Tryz.prog aW 156 [.aG 1 2 fun i j=>aO (List.getD [[AV.int .i64 a],[AV.int .i64 b]] i []) j] (.int .i64 (if a≠0 then a else b)):=by
 refine ar (own:=(owZ 3)) Tryz.func156 (by kernel_rfl) mixed (by kernel_rfl)
  (let y0:AV:=(Zi (if a≠(0:Int) then a else b));(.tt (.bf ((0:Int)≤0∧(0:Int)<2) (.br (a != 0) (.out (Zi a) [] y0 []) (.tt (.bf ((0:Int)≤wrap .i64 ((0:Int)+1)∧wrap .i64 ((0:Int)+1)<2) (.br (b != 0) (.out (Zi b) [] y0 []) (.ff (.out (Zi 0) [] y0 [])))))))))
  (by kernel_rfl) ?_
 refine eT ?_
 refine aD (by decide) ?_
 refine aL (fun h2=>?_) (fun h2=>?_)
 ·exact aq (aw.of_eq (congrArg (AV.int _) (by simp_all)))
 ·refine eT ?_
  refine aD (by decide) ?_
  refine aL (fun h6=>?_) (fun h6=>?_)
  ·exact aq (aw.of_eq (congrArg (AV.int _) (by simp_all)))
  ·refine b9 ?_
   exact aq (aw.of_eq (congrArg (AV.int _) (by simp_all)))
theorem J9 (x y:df):Pure Tryz.prog aW 103 [.agg x.cells,.agg y.cells] (.int .i64 (sN x y)):=by
 refine ar (own:=bk) Tryz.func103 (by kernel_rfl) mixed (by kernel_rfl)
  (let y0:AV:=(Zi (if jK x.1 y.1≠(0:Int) then jK x.1 y.1 else jK x.2 y.2));(.sc true 157 [Zi x.1,Zi y.1] (Zi (jK x.1 y.1)) (.sc true 157 [Zi x.2,Zi y.2] (Zi (jK x.2 y.2)) (.sc true 156 [.aG 1 2 fun r k=>aO (List.getD [[Zi (jK x.1 y.1)],[Zi (jK x.2 y.2)]] (r+0) []) k] y0 (.out y0 [] (Zi (sN x y)) [])))))
  (by kernel_rfl) ?_
 refine aM (Fk (x.1) (y.1)) ?_
 refine aM (Fk (x.2) (y.2)) ?_
 refine aM (N5 (jK x.1 y.1) (jK x.2 y.2)) ?_
 exact aq (aw.of_eq (congrArg (AV.int _) (by unfold sN;rfl)))
theorem Mx (n:Nat) (U:Nat→df) (hn:n<9223372036854775808) (hU:yZ n U):Pure Tryz.prog aW 52 [.agg [l3 n U]] (.bool (iw n U)):=by
 have c1:=fun i (hi:i<n)=>Kg (U i).sp (hU.nl i hi) (hU.np i hi)
 have c2:=fun i j=>J9 (U i) (U j)
 refine ar (own:=bk) Tryz.func52 (by kernel_rfl) mixed (by kernel_rfl)
  (let z1:={ x:Nat // x≤n∧(fun (i:Nat)=>∀ (j:Nat),j<i→rZ (U j)=true∧(j≠0→Bh (U (j - 1)) (U j)=true)) x };let y0:List (Option Ob):=[some ⟨1,1,true,.ba [[.aG 83 n fun i j=>aO (df.cells (U i)) j]]⟩];let y1:AV:=(.bool (iw n U));(.br (decide ((n:Int)>2000)) (.out (.bool false) [] y1 []) (.loop (z1) (fun (x:z1)=>aY [1,9,10,11,12] [.own 0 1 0 0 1,.own 0 1 0 0 1,.aG 83 n fun i j=>aO (df.cells (U i)) j,Zi n,Zi x.1] y0) (fun (x:z1)=>n - x.1) (⟨0,⟨Nat.zero_le n,fun (j:Nat) (hj:j<0)=>absurd hj (Nat.not_lt_zero j)⟩⟩) [1,9,10,11,12] [0] [.own 0 1 0 0 1,.own 0 1 0 0 1,.aG 83 n fun i j=>aO (df.cells (U i)) j,Zi n,Zi 0] (y0) (fun x2=>let z0:=(U (toNat (↑(x2.1):Int)));(.br (decide ((x2.1:Int)<(n:Int))) (.bf (0≤(x2.1:Int)∧(x2.1:Int)<(n:Int)) (.sc true 102 [.agg (aA.cells (df.sp z0))] (.bool (iE (df.sp z0))) (.bf (((!iE z0.3||decide (z0.4<0)||decide (z0.4≥(↑(df.sp z0).16:Int))||z0.1 != (df.sp z0).5)==false)=true→0≤z0.4∧z0.4<(↑(df.sp z0).16:Int)) (.br (!iE z0.3||decide (z0.4<0)||decide (z0.4≥(↑(df.sp z0).16:Int))||z0.1 != (df.sp z0).5||z0.2 != (df.sp z0).17 (toNat z0.4) 0) (.out (.bool false) [] y1 []) (.bf ((decide ((x2.1:Int)>0)==true)=true→(0:Int)≤wrap .i64 ((x2.1:Int) - 1)∧wrap .i64 ((x2.1:Int) - 1)<(n:Int)) (.sc (decide ((x2.1:Int)>0)==true) 103 [.agg (df.cells (U (toNat (wrap .i64 ((↑(x2.1):Int) - 1))))),.agg (df.cells z0)] (Zi (sN (U (toNat (wrap .i64 ((↑(x2.1):Int) - 1)))) z0)) (.br (decide ((x2.1:Int)>0)&&decide (sN (U (toNat (wrap .i64 ((x2.1:Int) - 1)))) (U (toNat (x2.1:Int)))≥0)) (.out (.bool false) [] y1 []) (.again (be 0 (fun (x:z1)=>aY [1,9,10,11,12] [.own 0 1 0 0 1,.own 0 1 0 0 1,.aG 83 n fun i j=>aO (df.cells (U i)) j,Zi n,Zi x.1] y0) (fun (x:z1)=>n - x.1) x2) [1,9,10,11,12] [0] [.own 0 1 0 0 1,.own 0 1 0 0 1,.aG 83 n fun i j=>aO (df.cells (U i)) j,Zi n,Zi (wrap .i64 ((x2.1:Int)+1))] (y0))))))))) (.out (.bool true) [] y1 []))))))
  (by kernel_rfl) ?_
 refine aL (fun h0=>?_) (fun h0=>?_)
 ·have g0:=af h0
  exact aq (aw.of_eq (congrArg AV.bool (yr g0).symm))
 ·have g0:=aa h0
  refine aU (fun _ hs=>hs.le (⟨.refl _,.refl _,.refl _,.refl _,.refl _,trivial⟩) (⟨.refl _,trivial⟩)) (fun x2=>?_)
  try (have q2:=x2.2;dsimp only at q2)
  have e1:0<x2.1→IntKind.wrap .i64 ((x2.1:Int) - 1)=((x2.1 - 1:Nat):Int):=fun h=>by rw [wI (by omega) (by omega)];omega
  refine aL (fun h3=>?_) (fun h3=>?_)
  ·have g3:=af h3
   refine aD (by omega) ?_
   refine aM (c1 (toNat (↑(x2.1):Int)) (by omega)) ?_
   refine aD (fun hr=>by have hr:=(cY (au (au (au (ay aC) aa) aa) aP)) hr;omega) ?_
   refine aL (fun h7=>?_) (fun h7=>?_)
   ·have g7:=(az (az (az (az (aB aF) af) af) aS) aS) h7
    try simp only [Int.toNat_natCast] at g7
    exact aq (aw.of_eq (congrArg AV.bool (oB (i:=x2.1) (by omega) (.inl (Jz g7))).symm))
   ·have g7:=(au (au (au (au (ay aC) aa) aa) aP) aP) h7
    try simp only [Int.toNat_natCast] at g7
    refine aD (fun hr=>by have hr:=(cJ af) hr;rw [e1 (by omega)];omega) ?_
    refine aV (fun h10=>c2 (toNat (wrap .i64 ((↑(x2.1):Int) - (1:Int)))) (toNat (↑(x2.1):Int))) ?_
    refine aL (fun h11=>?_) (fun h11=>?_)
    ·have g11:=(ah af af) h11
     try simp only [Int.toNat_natCast] at g11
     exact aq (aw.of_eq (congrArg AV.bool (oB (i:=x2.1) (by omega) (.inr ⟨by omega,Pw (by obtain ⟨ga,gb⟩:=g11;rw [e1 (by omega),Int.toNat_natCast] at gb;exact gb)⟩)).symm))
    ·have g11:=(aj aa aa) h11
     try simp only [Int.toNat_natCast] at g11
     exact aN (⟨x2.1+1,by omega,fun j hj=>by rcases Nat.lt_succ_iff_lt_or_eq.1 hj with hj|rfl;(· exact x2.2.2 j hj);(· exact ⟨Jp g7,fun hne=>PL (by rcases g11 with g|g;(· omega);(· rw [e1 (by omega),Int.toNat_natCast] at g;exact g))⟩)⟩) (fun _ hs=>hs.le (⟨.refl _,.refl _,.refl _,.refl _,aJ (by omega),trivial⟩) (⟨.refl _,trivial⟩)) (by dsimp only;omega)
  ·have g3:=aa h3
   exact aq (aw.of_eq (congrArg AV.bool (CW g0 fun i hi=>x2.2.2 i (by omega)).symm))
theorem Gb (a b c d:Int):Pure Tryz.prog aW 133 [.int .i64 a,.int .i64 b,.int .i64 c,.int .i64 d] (.bool (decide (a<c)||(a==c&&decide (b<d)))):=by
 refine ar (own:=bk) Tryz.func133 (by kernel_rfl) mixed (by kernel_rfl)
  (let y0:AV:=(.bool (decide (a<c)||a==c&&decide (b<d)));(.out y0 [] y0 []))
  (by kernel_rfl) ?_
 exact aq (aw.of_eq rfl)
theorem Hu (s:aA) (hn:s.nl<9223372036854775808) (hp:s.np<9223372036854775808):Pure Tryz.prog aW 132 [s.av] (.bool (iE s)):=by
 refine ar (own:=bk) Tryz.func132 (by kernel_rfl) mixed (by kernel_rfl)
  (let z2:AV:=(.bool (iE s));let z1:={ x:Nat // x≤aA.nl s∧(fun (i:Nat)=>∀ (j:Nat),j<i→nj s j=true) x };let y0:List (Option Ob):=[some ⟨80,1,true,.ba [aA.cells s]⟩];(.br (decide ((s.16:Int)<1)||decide ((s.16:Int)>32)||decide ((s.19:Int)>20)) (.out (.bool false) [] z2 []) (.loop (z1) (fun (x:z1)=>aY [1,3] [.own 0 80 0 0 80,Zi x.1] y0) (fun (x:z1)=>aA.nl s - x.1) (⟨0,⟨Nat.zero_le (aA.nl s),fun (j:Nat) (hj:j<0)=>absurd hj (Nat.not_lt_zero j)⟩⟩) [1,3] [0] [.own 0 80 0 0 80,Zi 0] (y0) (fun x2=>let z0:={ x:Nat // x≤x2.1∧(fun (k:Nat)=>∀ (j:Nat),j<k→aA.lf s j 0≠aA.lf s (x2.1) 0) x };(.br (decide ((x2.1:Int)<(s.16:Int))) (.loop (z0) (fun (x:z0)=>aY [1,3,4] [.own 0 80 0 0 80,Zi x2.1,Zi x.1] y0) (fun (x:z0)=>x2.1 - x.1) (⟨0,⟨Nat.zero_le (x2.1),fun (j:Nat) (hj:j<0)=>absurd hj (Nat.not_lt_zero j)⟩⟩) [1,3,4] [0] [.own 0 80 0 0 80,Zi x2.1,Zi 0] (y0) (fun x4=>(.br (decide ((x4.1:Int)<(x2.1:Int))) (.bf (0≤(x2.1:Int)∧(x2.1:Int)<(s.16:Int)) (.bf (0≤(x4.1:Int)∧(x4.1:Int)<(s.16:Int)) (.br (s.17 (toNat (x2.1:Int)) 0==s.17 (toNat (x4.1:Int)) 0) (.out (.bool false) [] z2 []) (.again (be 0 (fun (x:z0)=>aY [1,3,4] [.own 0 80 0 0 80,Zi x2.1,Zi x.1] y0) (fun (x:z0)=>x2.1 - x.1) x4) [1,3,4] [0] [.own 0 80 0 0 80,Zi x2.1,Zi (wrap .i64 ((x4.1:Int)+1))] (y0))))) (.again (be 0 (fun (x:z1)=>aY [1,3] [.own 0 80 0 0 80,Zi x.1] y0) (fun (x:z1)=>aA.nl s - x.1) x2) [1,3] [0] [.own 0 80 0 0 80,Zi (wrap .i64 ((x2.1:Int)+1))] (y0))))) (.out (.bool true) [] z2 []))))))
  (by kernel_rfl) ?_
 refine aL (fun h0=>?_) (fun h0=>?_)
 ·have g0:=(az (az af af) af) h0
  exact aq (aw.of_eq (congrArg AV.bool (za g0).symm))
 ·have g0:=(au (au aa aa) aa) h0
  refine aU (fun _ hs=>hs.le (⟨.refl _,.refl _,trivial⟩) (⟨.refl _,trivial⟩)) (fun x2=>?_)
  try (have q2:=x2.2;dsimp only at q2)
  refine aL (fun h3=>?_) (fun h3=>?_)
  ·have g3:=af h3
   refine aU (fun _ hs=>hs.le (⟨.refl _,.refl _,.refl _,trivial⟩) (⟨.refl _,trivial⟩)) (fun x4=>?_)
   try (have q4:=x4.2;dsimp only at q4)
   refine aL (fun h5=>?_) (fun h5=>?_)
   ·have g5:=af h5
    refine aD (by omega) ?_
    refine aD (by omega) ?_
    refine aL (fun h8=>?_) (fun h8=>?_)
    ·have g8:=ai h8
     try simp only [Int.toNat_natCast] at g8
     exact aq (aw.of_eq (congrArg AV.bool (xT (i:=x2.1) (by omega) (J3 (k:=x4.1) (by omega) g8.symm)).symm))
    ·have g8:=ao h8
     try simp only [Int.toNat_natCast] at g8
     exact aN (⟨x4.1+1,by omega,fun j hj=>by rcases Nat.lt_succ_iff_lt_or_eq.1 hj with hj|rfl;(· exact x4.2.2 j hj);(· exact fun e=>g8 e.symm)⟩) (fun _ hs=>hs.le (⟨.refl _,.refl _,aJ (by omega),trivial⟩) (⟨.refl _,trivial⟩)) (by dsimp only;omega)
   ·have g5:=aa h5
    exact aN (⟨x2.1+1,by omega,cF x2.2.2 (FM fun k hk=>x4.2.2 k (by omega))⟩) (fun _ hs=>hs.le (⟨.refl _,aJ (by omega),trivial⟩) (⟨.refl _,trivial⟩)) (by dsimp only;omega)
  ·have g3:=aa h3
   exact aq (aw.of_eq (congrArg AV.bool (DV g0.1.1 g0.1.2 g0.2 fun i hi=>x2.2.2 i (by omega)).symm))
theorem Hl (n:Nat) (U:Nat→df) (hn:n<9223372036854775808) (hU:yZ n U):Pure Tryz.prog aW 88 [.agg [l3 n U]] (.bool (iw n U)):=by
 have c1:=fun i (hi:i<n)=>Hu (U i).sp (hU.nl i hi) (hU.np i hi)
 refine ar (own:=bk) Tryz.func88 (by kernel_rfl) mixed (by kernel_rfl)
  (let z1:={ x:Nat // x≤n∧(fun (i:Nat)=>∀ (j:Nat),j<i→rZ (U j)=true∧(j≠0→Bh (U (j - 1)) (U j)=true)) x };let y0:List (Option Ob):=[some ⟨1,1,true,.ba [[.aG 83 n fun i j=>aO (df.cells (U i)) j]]⟩];let y1:AV:=(.bool (iw n U));(.br (decide ((n:Int)>2000)) (.out (.bool false) [] y1 []) (.loop (z1) (fun (x:z1)=>aY [1,3] [.own 0 1 0 0 1,Zi x.1] y0) (fun (x:z1)=>n - x.1) (⟨0,⟨Nat.zero_le n,fun (j:Nat) (hj:j<0)=>absurd hj (Nat.not_lt_zero j)⟩⟩) [1,3] [0] [.own 0 1 0 0 1,Zi 0] (y0) (fun x2=>let z0:=(U (toNat (↑(x2.1):Int)));(.br (decide ((x2.1:Int)<(n:Int))) (.bf (0≤(x2.1:Int)∧(x2.1:Int)<(n:Int)) (.sc true 132 [.agg (aA.cells (df.sp z0))] (.bool (iE (df.sp z0))) (.bf (((!iE z0.3||decide (z0.4<0)||decide (z0.4≥(↑(df.sp z0).16:Int))||z0.1 != (df.sp z0).5)==false)=true→0≤z0.4∧z0.4<(↑(df.sp z0).16:Int)) (.br (!iE z0.3||decide (z0.4<0)||decide (z0.4≥(↑(df.sp z0).16:Int))||z0.1 != (df.sp z0).5||z0.2 != (df.sp z0).17 (toNat z0.4) 0) (.out (.bool false) [] y1 []) (.bf ((decide ((x2.1:Int)>0)==true)=true→(0:Int)≤wrap .i64 ((x2.1:Int) - 1)∧wrap .i64 ((x2.1:Int) - 1)<(n:Int)) (.bf ((decide ((x2.1:Int)>0)==true)=true→(0:Int)≤wrap .i64 ((x2.1:Int) - 1)∧wrap .i64 ((x2.1:Int) - 1)<(n:Int)) (.sc (decide ((x2.1:Int)>0)==true) 133 [Zi (U (toNat (wrap .i64 ((↑(x2.1):Int) - 1)))).1,Zi (U (toNat (wrap .i64 ((↑(x2.1):Int) - 1)))).2,Zi z0.1,Zi z0.2] (.bool (decide ((U (toNat (wrap .i64 ((↑(x2.1):Int) - 1)))).1<z0.1)||(U (toNat (wrap .i64 ((↑(x2.1):Int) - 1)))).1==z0.1&&decide ((U (toNat (wrap .i64 ((↑(x2.1):Int) - 1)))).2<z0.2))) (.br (decide ((x2.1:Int)>0) && !(decide ((U (toNat (wrap .i64 ((↑(x2.1):Int) - 1)))).1<z0.1)||(U (toNat (wrap .i64 ((↑(x2.1):Int) - 1)))).1==z0.1&&decide ((U (toNat (wrap .i64 ((↑(x2.1):Int) - 1)))).2<z0.2))) (.out (.bool false) [] y1 []) (.again (be 0 (fun (x:z1)=>aY [1,3] [.own 0 1 0 0 1,Zi x.1] y0) (fun (x:z1)=>n - x.1) x2) [1,3] [0] [.own 0 1 0 0 1,Zi (wrap .i64 ((x2.1:Int)+1))] (y0)))))))))) (.out (.bool true) [] y1 []))))))
  (by kernel_rfl) ?_
 refine aL (fun h0=>?_) (fun h0=>?_)
 ·have g0:=af h0
  exact aq (aw.of_eq (congrArg AV.bool (yr g0).symm))
 ·have g0:=aa h0
  refine aU (fun _ hs=>hs.le (⟨.refl _,.refl _,trivial⟩) (⟨.refl _,trivial⟩)) (fun x2=>?_)
  try (have q2:=x2.2;dsimp only at q2)
  have e1:0<x2.1→IntKind.wrap .i64 ((x2.1:Int) - 1)=((x2.1 - 1:Nat):Int):=fun h=>by rw [wI (by omega) (by omega)];omega
  refine aL (fun h3=>?_) (fun h3=>?_)
  ·have g3:=af h3
   refine aD (by omega) ?_
   refine aM (c1 (toNat (↑(x2.1):Int)) (by omega)) ?_
   refine aD (fun hr=>by have hr:=(cY (au (au (au (ay aC) aa) aa) aP)) hr;omega) ?_
   refine aL (fun h7=>?_) (fun h7=>?_)
   ·have g7:=(az (az (az (az (aB aF) af) af) aS) aS) h7
    try simp only [Int.toNat_natCast] at g7
    exact aq (aw.of_eq (congrArg AV.bool (oB (i:=x2.1) (by omega) (.inl (Jz g7))).symm))
   ·have g7:=(au (au (au (au (ay aC) aa) aa) aP) aP) h7
    try simp only [Int.toNat_natCast] at g7
    refine aD (fun hr=>by have hr:=(cJ af) hr;omega) ?_
    refine aD (fun hr=>by have hr:=(cJ af) hr;omega) ?_
    refine aV (fun h11=>Gb ((U (toNat (wrap .i64 ((↑(x2.1):Int) - (1:Int))))).1) ((U (toNat (wrap .i64 ((↑(x2.1):Int) - (1:Int))))).2) ((U (toNat (↑(x2.1):Int))).1) ((U (toNat (↑(x2.1):Int))).2)) ?_
    refine aL (fun h12=>?_) (fun h12=>?_)
    ·have g12:=(ah af (aB (au aa (aj ao aa)))) h12
     try simp only [Int.toNat_natCast] at g12
     exact aq (aw.of_eq (congrArg AV.bool (oB (i:=x2.1) (by omega) (.inr ⟨by omega,pj fun hl=>by obtain ⟨ga,gb⟩:=g12;rw [e1 (by omega),Int.toNat_natCast] at gb;have:=xK.1 hl;omega⟩)).symm))
    ·have g12:=(aj aa (ay (az af (ah ai af)))) h12
     try simp only [Int.toNat_natCast] at g12
     exact aN (⟨x2.1+1,by omega,fun j hj=>by rcases Nat.lt_succ_iff_lt_or_eq.1 hj with hj|rfl;(· exact x2.2.2 j hj);(· exact ⟨Jp g7,fun hne=>xK.2 (by rcases g12 with g|g;(· omega);(· rw [e1 (by omega),Int.toNat_natCast] at g;exact g))⟩)⟩) (fun _ hs=>hs.le (⟨.refl _,aJ (by omega),trivial⟩) (⟨.refl _,trivial⟩)) (by dsimp only;omega)
  ·have g3:=aa h3
   exact aq (aw.of_eq (congrArg AV.bool (CW g0 fun i hi=>x2.2.2 i (by omega)).symm))
theorem Lg (n:Nat) (f g:Nat→Int) (hn:n<9223372036854775808):Pure Tryz.prog aW 101 [dD n f,dD n g] (.bool ((List.range n).all fun i=>f i==g i)):=by
 refine ar (own:=bk) Tryz.func101 (by kernel_rfl) mixed (by kernel_rfl)
  (let z0:={ x:Nat // x≤n∧(fun (x:Nat)=>∀ (j:Nat),j<x→(f j==g j)=true) x };let y0:AV:=(.bool (List.all (List.range n) fun i=>f i==g i));(.br ((n:Int) != (n:Int)) (.out (.bool false) [] y0 []) (.loop (z0) (fun (x:z0)=>aY [0,1,12,13] [.aG 1 n fun i x=>Zi (f i),.aG 1 n fun i x=>Zi (g i),Zi n,Zi x.1] []) (fun (x:z0)=>n - x.1) (⟨0,⟨Nat.zero_le n,fun (j:Nat) (hj:j<0)=>absurd hj (Nat.not_lt_zero j)⟩⟩) [0,1,12,13] [] [.aG 1 n fun i x=>Zi (f i),.aG 1 n fun i x=>Zi (g i),Zi n,Zi 0] [] (fun x2=>(.br (decide ((x2.1:Int)<(n:Int))) (.bf (0≤(x2.1:Int)∧(x2.1:Int)<(n:Int)) (.bf (0≤(x2.1:Int)∧(x2.1:Int)<(n:Int)) (.br (f (toNat (x2.1:Int)) != g (toNat (x2.1:Int))) (.out (.bool false) [] y0 []) (.again (be 0 (fun (x:z0)=>aY [0,1,12,13] [.aG 1 n fun i x=>Zi (f i),.aG 1 n fun i x=>Zi (g i),Zi n,Zi x.1] []) (fun (x:z0)=>n - x.1) x2) [0,1,12,13] [] [.aG 1 n fun i x=>Zi (f i),.aG 1 n fun i x=>Zi (g i),Zi n,Zi (wrap .i64 ((x2.1:Int)+1))] [])))) (.out (.bool true) [] y0 []))))))
  (by kernel_rfl) ?_
 refine aL (fun h0=>?_) (fun h0=>?_)
 ·have g0:=aS h0
  exact aq (aw.of_eq (by simp_all))
 ·have g0:=aP h0
  refine aU (fun _ hs=>hs.le (⟨.refl _,.refl _,.refl _,.refl _,trivial⟩) (trivial)) (fun x2=>?_)
  try (have q2:=x2.2;dsimp only at q2)
  refine aL (fun h3=>?_) (fun h3=>?_)
  ·have g3:=af h3
   refine aD (by omega) ?_
   refine aD (by omega) ?_
   refine aL (fun h6=>?_) (fun h6=>?_)
   ·have g6:=aS h6
    try simp only [Int.toNat_natCast] at g6
    exact aq (aw.of_eq (congrArg AV.bool (vU (p:=fun i=>f i==g i) (i:=x2.1) (by omega) (beq_eq_false_iff_ne.2 g6)).symm))
   ·have g6:=aP h6
    try simp only [Int.toNat_natCast] at g6
    exact aN (⟨x2.1+1,by omega,cF x2.2.2 (beq_iff_eq.2 g6)⟩) (fun _ hs=>hs.le (⟨.refl _,.refl _,.refl _,aJ (by omega),trivial⟩) (trivial)) (by dsimp only;omega)
  ·have g3:=aa h3
   exact aq (aw.of_eq (congrArg AV.bool (jX fun i hi=>x2.2.2 i (by omega)).symm))
theorem sJ (nb:Nat) (B:Nat→Int) (ne:Nat) (E:Nat→Nat→Int) (hn:nb<9223372036854775808) (he:ne<9223372036854775808):Pure Tryz.prog aW 51 [.agg [dD nb B,et ne E]] (.bool (dp nb B ne E)):=by
 have c1:=fun k=>yL nb (E k)
 have c2:=fun F k h hn=>D5 nb F (E k) h hn
 have c3:=fun F=>Lg nb F B hn
 refine ar (own:=owL) Tryz.func51 (by kernel_rfl) mixed (by kernel_rfl)
  (let z0:={ x:Nat // x≤ne∧(fun (x:Nat)=>∀ (j:Nat),j<x→qn nb E j=true) x };let y0:List AV:=[.aG 1 nb fun i x=>Zi (B i),.aG 4 ne fun i j=>Zi (E i j)];let y1:Nat:=(toNat (nb:Int));let y2:AV:=(.bool (dp nb B ne E));(.br (decide ((nb:Int)<5)||decide ((nb:Int)>105)||decide ((ne:Int)>1000)) (.out (.bool false) [] y2 []) (.bf (0≤(nb:Int)∧(nb:Int)=(nb:Int)∧8*(nb:Int)≤140737488355328∧(nb:Int)≤9223372036854775807) (.loop (z0) (fun (x:z0)=>aY [1,3,4,25,26,27] [.own 0 2 0 0 2,Zi nb,.aZ 1 1 0 y1,.aG 4 ne fun i j=>Zi (E i j),Zi ne,Zi x.1] [some ⟨2,1,true,.ba [y0]⟩,some ⟨1,nb,true,.fn fun i x_1=>Zi (bU E (x.1) i)⟩]) (fun (x:z0)=>ne - x.1) (⟨0,⟨Nat.zero_le ne,fun (j:Nat) (hj:j<0)=>absurd hj (Nat.not_lt_zero j)⟩⟩) [1,3,4,25,26,27] [0,152] [.own 0 2 0 0 2,Zi nb,.aZ 1 1 0 y1,.aG 4 ne fun i j=>Zi (E i j),Zi ne,Zi 0] [some ⟨2,1,true,.ba [y0]⟩,some ⟨1,toNat (nb:Int),true,.fn fun i j=>Zi (aE (aO (ck (Value.int IntKind.i64 (0:Int))) j))⟩] (fun x3=>let z1:Nat:=(toNat (x3.1:Int));(.br (decide ((x3.1:Int)<(ne:Int))) (.bf (0≤(x3.1:Int)∧(x3.1:Int)<(ne:Int)) (.sc true 78 [.agg [Zi (E z1 0),Zi (E z1 1),Zi (E z1 2),Zi (E z1 3)],Zi nb] (.bool (dA nb (E z1))) (.br ((!dA nb (E z1))==false) (.gc 79 [⟨1,nb,true,.fn fun i j=>Zi (bU E x3.1 i)⟩] [.aZ 0 1 0 y1,.agg [Zi (E z1 0),Zi (E z1 1),Zi (E z1 2),Zi (E z1 3)]] (.bool (dM (bU E x3.1) (E z1))) [some ⟨1,nb,true,.fn fun i x=>Zi (nw (bU E x3.1) (E z1) i)⟩] (.br (!dA nb (E z1) || !dM (bU E x3.1) (E z1)) (.out (.bool false) [] y2 []) (.again (be 0 (fun (x:z0)=>aY [1,3,4,25,26,27] [.own 0 2 0 0 2,Zi nb,.aZ 1 1 0 y1,.aG 4 ne fun i j=>Zi (E i j),Zi ne,Zi x.1] [some ⟨2,1,true,.ba [y0]⟩,some ⟨1,nb,true,.fn fun i x_1=>Zi (bU E (x.1) i)⟩]) (fun (x:z0)=>ne - x.1) x3) [1,3,4,25,26,27] [0,1] [.own 0 2 0 0 2,Zi nb,.aZ 1 1 0 y1,.aG 4 ne fun i j=>Zi (E i j),Zi ne,Zi (wrap .i64 ((x3.1:Int)+1))] [some ⟨2,1,true,.ba [y0]⟩,some ⟨1,nb,true,.fn fun i j=>Zi (nw (bU E x3.1) (E z1) i)⟩]))) (.br (!dA nb (E z1)||true) (.out (.bool false) [] y2 []) (.again (be 0 (fun (x:z0)=>aY [1,3,4,25,26,27] [.own 0 2 0 0 2,Zi nb,.aZ 1 1 0 y1,.aG 4 ne fun i j=>Zi (E i j),Zi ne,Zi x.1] [some ⟨2,1,true,.ba [y0]⟩,some ⟨1,nb,true,.fn fun i x_1=>Zi (bU E (x.1) i)⟩]) (fun (x:z0)=>ne - x.1) x3) [1,3,4,25,26,27] [0,1] [.own 0 2 0 0 2,Zi nb,.aZ 1 1 0 y1,.aG 4 ne fun i j=>Zi (E i j),Zi ne,Zi (wrap .i64 ((x3.1:Int)+1))] [some ⟨2,1,true,.ba [y0]⟩,some ⟨1,nb,true,.fn fun i j=>Zi (bU E (x3.1) i)⟩]))))) (.sc true 101 [.aG 1 y1 fun r k=>Zi (bU E x3.1 (r+0)),.aG 1 nb fun i x=>Zi (B i)] (.bool (List.all (List.range nb) fun i=>bU E x3.1 (i+0)==B i)) (.out (.bool (List.all (List.range.loop nb []) fun i=>bU E x3.1 (i+0)==B i)) [] y2 []))))))))
  (by kernel_rfl) ?_
 refine aL (fun h0=>?_) (fun h0=>?_)
 ·have g0:=(az (az af af) af) h0
  exact aq (aw.of_eq (congrArg AV.bool (xV g0).symm))
 ·have g0:=(au (au aa aa) aa) h0
  refine aD (by omega) ?_
  refine aU (fun _ hs=>hs.le (⟨.refl _,.refl _,.refl _,.refl _,.refl _,.refl _,trivial⟩) (⟨.refl _,⟨rfl,Int.toNat_natCast nb,rfl,fun i j _ hj=>by obtain rfl:j=0:=Nat.lt_one_iff.1 hj;exact aw.refl _⟩,trivial⟩)) (fun x3=>?_)
  try (have q3:=x3.2;dsimp only at q3)
  refine aL (fun h4=>?_) (fun h4=>?_)
  ·have g4:=af h4
   refine aD (by omega) ?_
   refine aM (c1 (toNat (↑x3.1:Int))) ?_
   refine aL (fun h7=>?_) (fun h7=>?_)
   ·have g7:=(cY (ay aC)) h7
    try simp only [Int.toNat_natCast] at g7
    refine fU (c2 (bU E x3.1) (toNat (↑x3.1:Int)) (by assumption) (by omega)) ?_
    refine aL (fun h9=>?_) (fun h9=>?_)
    ·have g9:=(az (aB aF) (aB aF)) h9
     try simp only [Int.toNat_natCast] at g9
     exact aq (aw.of_eq (congrArg AV.bool (tC (k:=x3.1) (by omega) (KU g7 g9)).symm))
    ·have g9:=(au (ay aC) (ay aC)) h9
     try simp only [Int.toNat_natCast] at g9
     exact aN (⟨x3.1+1,by omega,cF x3.2.2 (BQ g7 g9.2)⟩) (fun _ hs=>hs.le (⟨.refl _,.refl _,.refl _,.refl _,.refl _,aJ (by omega),trivial⟩) (⟨.refl _,⟨rfl,rfl,rfl,fun i j _ _=>aw.of_eq (congrArg (AV.int _) (LI (x:=x3.1) (by simpa using g9.2)))⟩,trivial⟩)) (by dsimp only;omega)
   ·have g7:=(Ba (aB aF)) h7
    try simp only [Int.toNat_natCast] at g7
    refine aL (fun h12=>?_) (fun h12=>?_)
    ·have g12:=(az (aB aF) aC) h12
     try simp only [Int.toNat_natCast] at g12
     exact aq (aw.of_eq (congrArg AV.bool (tC (k:=x3.1) (by omega) (Df g7)).symm))
    ·have g12:=(au (ay aC) aF) h12
     try simp only [Int.toNat_natCast] at g12
     exact aN (⟨x3.1+1,by omega,absurd g12.2 (by decide)⟩) (fun _ hs=>hs.le (⟨.refl _,.refl _,.refl _,.refl _,.refl _,aJ (by omega),trivial⟩) (⟨.refl _,absurd g12.2 (by decide),trivial⟩)) (by dsimp only;omega)
  ·have g4:=aa h4
   refine aM (c3 (fun (i:Nat)=>bU E x3.1 (i+0))) ?_
   exact aq (aw.of_eq (congrArg AV.bool (Iv g0.1.1 g0.1.2 g0.2 (by omega) x3.2.2)))
end Go.Proofs.YtgnfjlekpgjehaaGreatDoor

namespace Go.Sp
open Go.IntKind (wrap)
open Int (toNat)
open Go Go.Am
def At (F x:Nat→Int) (i:Nat) (c d:Bool):Int :=
 bif Nat.beq i ((x 1).toNat+0)&&c then IntKind.wrap .i64 ((bif Nat.beq ((x 1).toNat+0) ((x 0).toNat+0)&&d then IntKind.wrap .i64 (F ((x 0).toNat+0) - x 2) else F ((x 1).toNat+0))+x 2) else
  bif Nat.beq i ((x 0).toNat+0)&&c then IntKind.wrap .i64 (F ((x 0).toNat+0) - x 2) else F i
theorem yR {n:Nat} {F x:Nat→Int} (h:dA n x=true) (i:Nat):At F x i true true=gz F x i:=by
 have hb:=eY.1 h
 have e:Nat.beq ((x 1).toNat+0) ((x 0).toNat+0)=false:=by grind [Nat.beq,ve]
 rw [At,e,gz]
 show (bif Nat.beq i (x 1).toNat&&true then IntKind.wrap .i64 (F (x 1).toNat+x 2) else bif Nat.beq i (x 0).toNat&&true then IntKind.wrap .i64 (F (x 0).toNat - x 2) else F i)=_
 simp only [Bool.and_true]
 by_cases c1:i=(x 1).toNat
 ·simp_all
 simp_all
theorem Nk {nb:Nat} {E:Nat→Nat→Int} {k:Nat} (hk:k<1000) (h:∀ j,j≤k→dA nb (E j)=true):At (bU E k) (E k) ((E k 0).toNat+0) true true=bU E k (E k 0).toNat - E k 2:=by
 have hb:=eY.1 (h k (Nat.le_refl _))
 rw [yR (h k (Nat.le_refl _)),gz,if_neg (by omega),if_pos (by omega)]
 exact (M1 hk h _).1
theorem Kb {nb:Nat} {E:Nat→Nat→Int} {k:Nat} (hk:k<1000) (h:∀ j,j≤k→dA nb (E j)=true) (g:E k 0≥5∧At (bU E k) (E k) ((E k 0).toNat+0) true true<0):dM (bU E k) (E k)=false :=
 xq ⟨g.1,by have:=g.2;rw [Nk hk h] at this;grind⟩
theorem Mq {nb:Nat} {E:Nat→Nat→Int} {k:Nat} (hk:k<1000) (h:∀ j,j≤k→dA nb (E j)=true) (g:¬E k 0≥5∨¬At (bU E k) (E k) ((E k 0).toNat+0) true true<0):dM (bU E k) (E k)=true :=
 wt (g.imp id fun g=>by rw [Nk hk h] at g;grind)
theorem GY {nb x i j:Nat} {E:Nat→Nat→Int} (h:dA nb (E x)=true) (hj:j<1):At (bU E x) (E (toNat (x:Int))) i (Nat.ble 0 j&&Nat.blt j 1) true=bU E (x+1) i:=by
 obtain rfl:j=0:=Nat.lt_one_iff.1 hj
 rw [Int.toNat_natCast]
 exact yR h i
theorem N9 {nb:Nat} {B:Nat→Int} {ne:Nat} {E:Nat→Nat→Int} (h:∀ k,k<ne→dA nb (E k)=true) (g:((List.range ne).all fun k=>dM (bU E k) (E k))=false):dp nb B ne E=false:=pj fun e=>by
 have:=(jE e).ok
 have:((List.range ne).all fun k=>dM (bU E k) (E k))=true:=jX fun i hi=>by simp_all [qn]
 grind
theorem KK {nb:Nat} {B:Nat→Int} {ne:Nat} {E:Nat→Nat→Int} (h:∀ k,k<ne→dA nb (E k)=true) (g:((List.range ne).all fun k=>dM (bU E k) (E k))=true):∀ k,k<ne→qn nb E k=true:=fun k hk =>
 BQ (h k hk) (List.all_eq_true.1 g k (List.mem_range.2 hk))
end Go.Sp

namespace Go.Proofs.YtgnfjlekpgjehaaGreatDoor
open Go.IntKind (wrap)
open Int (toNat)
open Go Go.Am Go.Sp
set_option maxRecDepth 100000
theorem yf (n:Int):Pure Tryz.prog aW 82 [.int .i64 n] (.bool (decide (n≥5)&&decide (n≤105))):=by
 refine ar (own:=bk) Tryz.func82 (by kernel_rfl) mixed (by kernel_rfl)
  (let y0:AV:=(.bool (decide (n≥5)&&decide (n≤105)));(.out y0 [] y0 []))
  (by kernel_rfl) ?_
 exact aq (aw.of_eq rfl)
theorem FG (nb ne:Nat) (E:Nat→Nat→Int) (hn:nb≤1000) (he:ne≤1000) (h:∀ k,k<ne→dA nb (E k)=true):Pure Tryz.prog aW 94 [.int .i64 nb,et ne E]
  (.aT [.aG 1 (bif (List.range ne).all fun k=>dM (bU E k) (E k) then nb else 0) fun i _=>.int .i64 (bU E ne i),.bool ((List.range ne).all fun k=>dM (bU E k) (E k))]):=by
 refine ar (own:=bk) Tryz.func94 (by kernel_rfl) mixed (by kernel_rfl)
  (let z1:={ x:Nat // x≤ne∧(fun (x:Nat)=>∀ (j:Nat),j<x→dM (bU E j) (E j)=true) x };let y0:AV:=(.aT [.aG 1 (bif List.all (List.range ne) fun k=>dM (bU E k) (E k) then nb else 0) fun i x=>Zi (bU E ne i),.bool (List.all (List.range ne) fun k=>dM (bU E k) (E k))]);let y1:Nat:=(toNat (nb:Int));(.bf (0≤(nb:Int)∧(nb:Int)=(nb:Int)∧8*(nb:Int)≤140737488355328∧(nb:Int)≤9223372036854775807) (.loop (z1) (fun (x:z1)=>aY [1,6,7] [.aG 4 ne fun i j=>Zi (E i j),.aZ 0 1 0 y1,Zi x.1] [some ⟨1,nb,true,.fn fun i x_1=>Zi (bU E (x.1) i)⟩]) (fun (x:z1)=>ne - x.1) (⟨0,⟨Nat.zero_le ne,fun (j:Nat) (hj:j<0)=>absurd hj (Nat.not_lt_zero j)⟩⟩) [1,6,7] [24] [.aG 4 ne fun i j=>Zi (E i j),.aZ 0 1 0 y1,Zi 0] [some ⟨1,toNat (nb:Int),true,.fn fun i j=>Zi (aE (aO (ck (Value.int IntKind.i64 (0:Int))) j))⟩] (fun x1=>let z0:Nat:=(toNat (x1.1:Int));(.br (decide ((x1.1:Int)<(ne:Int))) (.bf (0≤(x1.1:Int)∧(x1.1:Int)<(ne:Int)) (.bf ((0:Int)≤E z0 0∧E z0 0<(y1:Int)) (.bf ((0:Int)≤E z0 0∧E z0 0<(y1:Int)) (.bf ((0:Int)≤E z0 1∧E z0 1<(y1:Int)) (.bf ((0:Int)≤E z0 1∧E z0 1<(y1:Int)) (.bf ((decide (E z0 0≥5)==true)=true→(0:Int)≤E z0 0∧E z0 0<(y1:Int)) (.br (decide (E z0 0≥5)&&decide ((bif Nat.beq (toNat (E z0 0)+0) (toNat (E z0 1)+0)&&true then wrap .i64 ((bif Nat.beq (toNat (E z0 1)+0) (toNat (E z0 0)+0)&&true then wrap .i64 (bU E x1.1 (toNat (E z0 0)+0) - E z0 2) else bU E x1.1 (toNat (E z0 1)+0))+E z0 2) else bif Nat.beq (toNat (E z0 0)+0) (toNat (E z0 0)+0)&&true then wrap .i64 (bU E x1.1 (toNat (E z0 0)+0) - E z0 2) else bU E x1.1 (toNat (E z0 0)+0))<0)) (.out (.aT [.bc,.bool false]) [] y0 []) (.again (be 0 (fun (x:z1)=>aY [1,6,7] [.aG 4 ne fun i j=>Zi (E i j),.aZ 0 1 0 y1,Zi x.1] [some ⟨1,nb,true,.fn fun i x_1=>Zi (bU E (x.1) i)⟩]) (fun (x:z1)=>ne - x.1) x1) [1,6,7] [0] [.aG 4 ne fun i j=>Zi (E i j),.aZ 0 1 0 y1,Zi (wrap .i64 ((x1.1:Int)+1))] [some ⟨1,nb,true,.fn fun i j=>Zi (bif Nat.beq i (toNat (E z0 1)+0)&&(Nat.ble 0 j&&Nat.blt j 1) then wrap .i64 ((bif Nat.beq (toNat (E z0 1)+0) (toNat (E z0 0)+0)&&true then wrap .i64 (bU E x1.1 (toNat (E z0 0)+0) - E z0 2) else bU E x1.1 (toNat (E z0 1)+0))+E z0 2) else bif Nat.beq i (toNat (E z0 0)+0)&&(Nat.ble 0 j&&Nat.blt j 1) then wrap .i64 (bU E x1.1 (toNat (E z0 0)+0) - E z0 2) else bU E x1.1 i)⟩])))))))) (.out (.aT [.aG 1 y1 fun r k=>Zi (bU E x1.1 (r+0)),.bool true]) [] y0 []))))))
  (by kernel_rfl) ?_
 refine aD (by omega) ?_
 refine aU (fun _ hs=>hs.le (⟨.refl _,.refl _,.refl _,trivial⟩) (⟨⟨rfl,Int.toNat_natCast nb,rfl,fun i j _ hj=>by obtain rfl:j=0:=Nat.lt_one_iff.1 hj;exact aw.refl _⟩,trivial⟩)) (fun x1=>?_)
 try (have q1:=x1.2;dsimp only at q1)
 have kE:x1.1<ne→_:=fun hx=>eY.1 (h x1.1 hx)
 refine aL (fun h2=>?_) (fun h2=>?_)
 ·have g2:=af h2
  refine aD (by omega) ?_
  refine aD (by have kk:=kE (by omega);simp only [Int.toNat_natCast];omega) ?_
  refine aD (by have kk:=kE (by omega);simp only [Int.toNat_natCast];omega) ?_
  refine aD (by have kk:=kE (by omega);simp only [Int.toNat_natCast];omega) ?_
  refine aD (by have kk:=kE (by omega);simp only [Int.toNat_natCast];omega) ?_
  refine aD (fun hr=>by have kk:=kE (by omega);simp only [Int.toNat_natCast];omega) ?_
  refine aL (fun h9=>?_) (fun h9=>?_)
  ·have g9:=(ah af af) h9
   try simp only [Int.toNat_natCast] at g9
   exact aq (by rw [vU (p:=fun k=>dM (bU E k) (E k)) (i:=x1.1) (by omega) (Kb (by omega) (fun j hj=>h j (by omega)) g9)];exact aw.aT ⟨aw.bc,aw.refl _,trivial⟩)
  ·have g9:=(aj aa aa) h9
   try simp only [Int.toNat_natCast] at g9
   exact aN (⟨x1.1+1,by omega,cF x1.2.2 (Mq (by omega) (fun j hj=>h j (by omega)) g9)⟩) (fun _ hs=>hs.le (⟨.refl _,.refl _,aJ (by omega),trivial⟩) (⟨⟨rfl,rfl,rfl,fun i j _ hj=>aw.of_eq (congrArg (AV.int _) (GY (h x1.1 (by omega)) hj))⟩,trivial⟩)) (by dsimp only;omega)
 ·have g2:=aa h2
  exact aq (by rw [show ((List.range ne).all fun k=>dM (bU E k) (E k))=true from jX fun i hi=>x1.2.2 i (by omega),show x1.1=ne by omega];exact aw.of_eq (by rw [Int.toNat_natCast];rfl))
theorem Ix (nb:Nat) (B:Nat→Int) (ne:Nat) (E:Nat→Nat→Int) (hn:nb<9223372036854775808) (he:ne<9223372036854775808):Pure Tryz.prog aW 87 [.agg [dD nb B,et ne E]] (.bool (dp nb B ne E)):=by
 have c1:=fun k=>vw nb (E k)
 have c2:=yf nb
 have c3:=fun (h:(nb≤1000∧ne≤1000)∧∀ k,k<ne→dA nb (E k)=true)=>FG nb ne E h.1.1 h.1.2 h.2
 refine ar (own:=bk) Tryz.func87 (by kernel_rfl) mixed (by kernel_rfl)
  (let z4:=(decide ((nb:Int)≥5)&&decide ((nb:Int)≤105));let z2:=(bif List.all (List.range.loop ne []) fun k=>dM (bU E k) (E k) then nb else 0);let z1:={ x:Nat // x≤ne∧(fun (x:Nat)=>∀ (j:Nat),j<x→dA nb (E j)=true) x };let z0:={ x:Nat // x≤nb∧(fun (x:Nat)=>∀ (j:Nat),j<x→(bU E ne j==B j)=true) x };let y0:List (Option Ob):=[some ⟨2,1,true,.ba [[.aG 1 nb fun i x=>Zi (B i),.aG 4 ne fun i j=>Zi (E i j)]]⟩];let y1:AV:=(.bool (dp nb B ne E));(.sc true 82 [Zi nb] (.bool z4) (.br (!z4||decide ((ne:Int)>1000)) (.out (.bool false) [] y1 []) (.loop (z1) (fun (x:z1)=>aY [1,3,4] [.own 0 2 0 0 2,Zi nb,Zi x.1] y0) (fun (x:z1)=>ne - x.1) (⟨0,⟨Nat.zero_le ne,fun (j:Nat) (hj:j<0)=>absurd hj (Nat.not_lt_zero j)⟩⟩) [1,3,4] [0] [.own 0 2 0 0 2,Zi nb,Zi 0] (y0) (fun x3=>let z3:Nat:=(toNat (x3.1:Int));(.br (decide ((x3.1:Int)<(ne:Int))) (.bf (0≤(x3.1:Int)∧(x3.1:Int)<(ne:Int)) (.sc true 93 [Zi nb,.agg [Zi (E z3 0),Zi (E z3 1),Zi (E z3 2),Zi (E z3 3)]] (.bool (dA nb (E z3))) (.br (!dA nb (E z3)) (.out (.bool false) [] y1 []) (.again (be 0 (fun (x:z1)=>aY [1,3,4] [.own 0 2 0 0 2,Zi nb,Zi x.1] y0) (fun (x:z1)=>ne - x.1) x3) [1,3,4] [0] [.own 0 2 0 0 2,Zi nb,Zi (wrap .i64 ((x3.1:Int)+1))] (y0))))) (.dc true 94 [Zi nb,.aG 4 ne fun i j=>Zi (E i j)] (.aT [.aG 1 (bif List.all (List.range ne) fun k=>dM (bU E k) (E k) then nb else 0) fun i x=>Zi (bU E ne i),.bool (List.all (List.range ne) fun k=>dM (bU E k) (E k))]) (.br (!List.all (List.range.loop ne []) fun k=>dM (bU E k) (E k)) (.out (.bool false) [] y1 []) (.loop (z0) (fun (x:z0)=>aY [1,3,5,7] [.own 0 2 0 0 2,Zi nb,.aG 1 z2 fun i x=>Zi (bU E ne i),Zi x.1] y0) (fun (x:z0)=>nb - x.1) (⟨0,⟨Nat.zero_le nb,fun (j:Nat) (hj:j<0)=>absurd hj (Nat.not_lt_zero j)⟩⟩) [1,3,5,7] [0] [.own 0 2 0 0 2,Zi nb,.aG 1 z2 fun i x=>Zi (bU E ne i),Zi 0] (y0) (fun x13=>(.br (decide ((x13.1:Int)<(nb:Int))) (.bf (0≤(x13.1:Int)∧(x13.1:Int)<(↑z2:Int)) (.bf (0≤(x13.1:Int)∧(x13.1:Int)<(nb:Int)) (.br (bU E ne (toNat (x13.1:Int)) != B (toNat (x13.1:Int))) (.out (.bool false) [] y1 []) (.again (be 0 (fun (x:z0)=>aY [1,3,5,7] [.own 0 2 0 0 2,Zi nb,.aG 1 z2 fun i x=>Zi (bU E ne i),Zi x.1] y0) (fun (x:z0)=>nb - x.1) x13) [1,3,5,7] [0] [.own 0 2 0 0 2,Zi nb,.aG 1 z2 fun i x=>Zi (bU E ne i),Zi (wrap .i64 ((x13.1:Int)+1))] (y0))))) (.out (.bool true) [] y1 []))))))))))))
  (by kernel_rfl) ?_
 refine aM (c2) ?_
 refine aL (fun h1=>?_) (fun h1=>?_)
 ·have g1:=(az (aB (aj aa aa)) af) h1
  exact aq (aw.of_eq (congrArg AV.bool (xV (by omega)).symm))
 ·have g1:=(au (ay (ah af af)) aa) h1
  refine aU (fun _ hs=>hs.le (⟨.refl _,.refl _,.refl _,trivial⟩) (⟨.refl _,trivial⟩)) (fun x3=>?_)
  try (have q3:=x3.2;dsimp only at q3)
  refine aL (fun h4=>?_) (fun h4=>?_)
  ·have g4:=af h4
   refine aD (by omega) ?_
   refine aM (c1 (toNat (↑x3.1:Int))) ?_
   refine aL (fun h7=>?_) (fun h7=>?_)
   ·have g7:=(aB aF) h7
    try simp only [Int.toNat_natCast] at g7
    exact aq (aw.of_eq (congrArg AV.bool (tC (k:=x3.1) (by omega) (Df g7)).symm))
   ·have g7:=(ay aC) h7
    try simp only [Int.toNat_natCast] at g7
    exact aN (⟨x3.1+1,by omega,cF x3.2.2 g7⟩) (fun _ hs=>hs.le (⟨.refl _,.refl _,aJ (by omega),trivial⟩) (⟨.refl _,trivial⟩)) (by dsimp only;omega)
  ·have g4:=aa h4
   refine bM (c3 (⟨by omega,fun k hk=>x3.2.2 k (by omega)⟩)) ?_
   refine aL (fun h11=>?_) (fun h11=>?_)
   ·have g11:=(aB aF) h11
    exact aq (aw.of_eq (congrArg AV.bool (N9 (fun k hk=>x3.2.2 k (by omega)) g11).symm))
   ·have g11:=(ay aC) h11
    refine aU (fun _ hs=>hs.le (⟨.refl _,.refl _,.refl _,.refl _,trivial⟩) (⟨.refl _,trivial⟩)) (fun x13=>?_)
    try (have q13:=x13.2;dsimp only at q13)
    refine aL (fun h14=>?_) (fun h14=>?_)
    ·have g14:=af h14
     refine aD (by (simp only [g11,cond_true,Int.toNat_natCast];omega)) ?_
     refine aD (by omega) ?_
     refine aL (fun h17=>?_) (fun h17=>?_)
     ·have g17:=aS h17
      try simp only [Int.toNat_natCast] at g17
      exact aq (aw.of_eq (congrArg AV.bool (pj fun e=>g17 ((jE e).bal _ (by omega))).symm))
     ·have g17:=aP h17
      try simp only [Int.toNat_natCast] at g17
      exact aN (⟨x13.1+1,by omega,cF x13.2.2 (beq_iff_eq.2 g17)⟩) (fun _ hs=>hs.le (⟨.refl _,.refl _,.refl _,aJ (by omega),trivial⟩) (⟨.refl _,trivial⟩)) (by dsimp only;omega)
    ·have g14:=aa h14
     exact aq (aw.of_eq (congrArg AV.bool (by rw [tz (by omega) (by omega) g1.2 (KK (B:=B) (fun k hk=>x3.2.2 k (by omega)) g11)];exact (jX fun i hi=>x13.2.2 i (by omega)).symm)))
theorem Dk (nb:Nat) (B:Nat→Int) (ne:Nat) (E:Nat→Nat→Int) (hn:nb<9223372036854775808) (he:ne<9223372036854775808):Pure Tryz.prog aW 45 [.agg [dD nb B,et ne E],.agg [dD nb B,et ne E]] (.bool true):=by
 refine ar (own:=bk) Tryz.func45 (by kernel_rfl) mixed (by kernel_rfl)
  (let z1:List AV:=[.aG 1 nb fun i x=>Zi (B i),.aG 4 ne fun i j=>Zi (E i j)];let y0:List (Option Ob):=[some ⟨2,1,true,.ba [z1]⟩,some ⟨2,1,true,.ba [z1]⟩];let y1:=(fun (x:{ x:Nat // x≤nb })=>aY [2,3,5] [.own 0 2 0 0 2,.own 1 2 0 0 2,Zi x.1] y0);let y2:=(fun (x:{ x:Nat // x≤ne })=>aY [2,3,6] [.own 0 2 0 0 2,.own 1 2 0 0 2,Zi x.1] y0);let y3:=(fun (x:{ x:Nat // x≤nb })=>nb - x.1);let y4:=(fun (x:{ x:Nat // x≤ne })=>ne - x.1);let y5:List AV:=[.own 0 2 0 0 2,.own 1 2 0 0 2,Zi 0];(.br ((nb:Int) != (nb:Int)||(ne:Int) != (ne:Int)) (.out (.bool false) [] (.bool true) []) (.loop ({ x:Nat // x≤nb }) y1 y3 (⟨0,Nat.zero_le nb⟩) [2,3,5] [0,8] (y5) (y0) (fun x2=>(.br (decide ((x2.1:Int)<(nb:Int))) (.bf (0≤(x2.1:Int)∧(x2.1:Int)<(nb:Int)) (.bf (0≤(x2.1:Int)∧(x2.1:Int)<(nb:Int)) (.br (B (toNat (x2.1:Int)) != B (toNat (x2.1:Int))) (.out (.bool false) [] (.bool true) []) (.again (be 0 y1 y3 x2) [2,3,5] [0,1] [.own 0 2 0 0 2,.own 1 2 0 0 2,Zi (wrap .i64 ((x2.1:Int)+1))] (y0))))) (.loop ({ x:Nat // x≤ne }) y2 y4 (⟨0,Nat.zero_le ne⟩) [2,3,6] [0,1] (y5) (y0) (fun x9=>let z0:Nat:=(toNat (x9.1:Int));(.br (decide ((x9.1:Int)<(ne:Int))) (.bf (0≤(x9.1:Int)∧(x9.1:Int)<(ne:Int)) (.bf (0≤(x9.1:Int)∧(x9.1:Int)<(ne:Int)) (.br (!(E z0 0==E z0 0&&(E z0 1==E z0 1&&(E z0 2==E z0 2&&(E z0 3==E z0 3&&true))))) (.out (.bool false) [] (.bool true) []) (.again (be 0 y2 y4 x9) [2,3,6] [0,1] [.own 0 2 0 0 2,.own 1 2 0 0 2,Zi (wrap .i64 ((x9.1:Int)+1))] (y0))))) (.out (.bool true) [] (.bool true) [])))))))))
  (by kernel_rfl) ?_
 refine aL (fun h0=>?_) (fun h0=>?_)
 ·have g0:=(az aS aS) h0
  exact aq (aw.of_eq (by simp_all))
 ·have g0:=(au aP aP) h0
  refine aU (fun _ hs=>hs.le (⟨.refl _,.refl _,.refl _,trivial⟩) (⟨.refl _,.refl _,trivial⟩)) (fun x2=>?_)
  try (have q2:=x2.2;dsimp only at q2)
  refine aL (fun h3=>?_) (fun h3=>?_)
  ·have g3:=af h3
   refine aD (by omega) ?_
   refine aD (by omega) ?_
   refine aL (fun h6=>?_) (fun h6=>?_)
   ·have g6:=aS h6
    try simp only [Int.toNat_natCast] at g6
    exact aq (aw.of_eq (by simp_all))
   ·have g6:=aP h6
    try simp only [Int.toNat_natCast] at g6
    exact aN (⟨x2.1+1,by omega⟩) (fun _ hs=>hs.le (⟨.refl _,.refl _,aJ (by omega),trivial⟩) (⟨.refl _,.refl _,trivial⟩)) (by dsimp only;omega)
  ·have g3:=aa h3
   refine aU (fun _ hs=>hs.le (⟨.refl _,.refl _,.refl _,trivial⟩) (⟨.refl _,.refl _,trivial⟩)) (fun x9=>?_)
   try (have q9:=x9.2;dsimp only at q9)
   refine aL (fun h10=>?_) (fun h10=>?_)
   ·have g10:=af h10
    refine aD (by omega) ?_
    refine aD (by omega) ?_
    refine aL (fun h13=>?_) (fun h13=>?_)
    ·have g13:=(aB (aj ao (aj ao (aj ao (aj ao aF))))) h13
     try simp only [Int.toNat_natCast] at g13
     exact aq (aw.of_eq (by simp_all))
    ·have g13:=(ay (ah ai (ah ai (ah ai (ah ai aC))))) h13
     try simp only [Int.toNat_natCast] at g13
     exact aN (⟨x9.1+1,by omega⟩) (fun _ hs=>hs.le (⟨.refl _,.refl _,aJ (by omega),trivial⟩) (⟨.refl _,.refl _,trivial⟩)) (by dsimp only;omega)
   ·have g10:=aa h10
    exact aq (aw.of_eq rfl)
theorem zD (b:aI) (R:Nat→Nat→Int) (n:Nat) (s t:aA) (leaf:Int) (hn:n≤1000) (hw:b.gr.W) (hs:s.nl≤1000) (ht:t.nl≤1000) (bs:s.By) (bt:t.By) (ps:s.np≤1000000) (pt:t.np≤1000000) (fs:∀ k,k<s.np→cC (s.pf k) 32) (ft:∀ k,k<t.np→cC (t.pf k) 32) :
  Pure Tryz.prog aW 55 [b.av,rcl n R,.agg (s.cells++(t.cells++[.int .i64 leaf]))] (.aT [.int .i64 (xk b R n s t leaf),.bool (tT b R n s t leaf)]):=by
 have c0:=ew b hw
 have c1:=rv s t
 have c2:=Bv b R n s hn hw bs.root bs.bI fs ps hs
 have c3:=Bv b R n t hn hw bt.root bt.bI ft pt ht
 have c4:=EP b s t leaf hw hs ht bs bt
 refine ar (own:=bk) Tryz.func55 (by kernel_rfl) mixed (by kernel_rfl)
  (let z1:=(tR b s t leaf);let z0:=(dC s&&dC t);let y0:AV:=(.aT [Zi (xk b R n s t leaf),.bool (tT b R n s t leaf)]);(.sc true 21 [.agg (aI.cells b)] (.bool (aR b)) (.sc ((!aR b)==false) 108 [.aG 80 2 fun r k=>aO (List.getD [aA.cells s,aA.cells t] (r+0) []) k] (.bool z0) (.sc ((!aR b || !z0)==false) 109 [.agg (aI.cells b),.aG 11 n fun i j=>Zi (R i j),.agg (aA.cells s)] (.bool (gk b R n s)) (.sc ((!aR b || !z0 || !gk b R n s)==false) 109 [.agg (aI.cells b),.aG 11 n fun i j=>Zi (R i j),.agg (aA.cells t)] (.bool (gk b R n t)) (.br (!aR b || !z0 || !gk b R n s || !gk b R n t) (.out (.aT [Zi 0,.bool false]) [] y0 []) (.sc true 110 [.agg (aI.cells b),.agg (aA.cells s),.agg (aA.cells t),Zi leaf] (.aT [Zi (Prod.fst z1),Zi (Prod.snd z1)]) (.out (.aT [Zi z1.1,.bool (z1.2==0)]) [] y0 []))))))))
  (by kernel_rfl) ?_
 refine aM (c0) ?_
 refine aV (fun h1=>c1) ?_
 refine aV (fun h2=>c2) ?_
 refine aV (fun h3=>c3) ?_
 refine aL (fun h4=>?_) (fun h4=>?_)
 ·have g4:=(az (az (az (aB aF) (aB (aj aF aF))) (aB aF)) (aB aF)) h4
  exact aq (aw.of_eq (Lu g4))
 ·have g4:=(au (au (au (ay aC) (ay (ah aC aC))) (ay aC)) (ay aC)) h4
  refine aM (c4) ?_
  exact aq (aw.of_eq (FA ⟨g4.1.2,g4.2⟩))
theorem wQ (b:aI) (R:Nat→Nat→Int) (n:Nat) (s t:aA) (leaf:Int) (h0:leaf≤9223372036854775807) (hn:n≤1000) (hw:b.gr.W) (hs:s.nl≤1000) (ht:t.nl≤1000) (bs:s.By) (bt:t.By) (ps:s.np≤1000000) (pt:t.np≤1000000) (fs:∀ k,k<s.np→cC (s.pf k) 32) (ft:∀ k,k<t.np→cC (t.pf k) 32) :
  Pure Tryz.prog aW 90 [b.av,rcl n R,.agg (s.cells++(t.cells++[.int .i64 leaf]))] (.aT [.int .i64 (xk b R n s t leaf),.bool (tT b R n s t leaf)]):=by
 have c1:=yz R n s hn
 have c2:=yz R n t hn
 have c3:=CX b (lN R n s) s hw bs.root bs.bI fs ps hs
 have c4:=CX b (lN R n t) t hw bt.root bt.bI ft pt ht
 have c5:=Aj b s t leaf h0 hw hs ht bs bt
 have c6:=fun h hu=>wu b (cQ b s t leaf).1 h hu
 refine ar (own:=bk) Tryz.func90 (by kernel_rfl) mixed (by kernel_rfl)
  (let z0:=(cQ b s t leaf);let y0:AV:=(.aT [Zi (xk b R n s t leaf),.bool (tT b R n s t leaf)]);(.sc true 137 [.aG 11 n fun i j=>Zi (R i j),.agg (aA.cells s)] (.aT [fR.av (lN R n s),.bool (decide (l9 R n s≥0))]) (.sc true 137 [.aG 11 n fun i j=>Zi (R i j),.agg (aA.cells t)] (.aT [fR.av (lN R n t),.bool (decide (l9 R n t≥0))]) (.sc ((!decide (l9 R n s≥0) || !decide (l9 R n t≥0))==false) 138 [.agg (aI.cells b),.agg (fR.cells (lN R n s)),.agg (aA.cells s)] (.bool (mf b (lN R n s) s)) (.sc ((!decide (l9 R n s≥0) || !decide (l9 R n t≥0) || !mf b (lN R n s) s)==false) 138 [.agg (aI.cells b),.agg (fR.cells (lN R n t)),.agg (aA.cells t)] (.bool (mf b (lN R n t) t)) (.br (!decide (l9 R n s≥0) || !decide (l9 R n t≥0) || !mf b (lN R n s) s || !mf b (lN R n t) t) (.out (.aT [Zi 0,.bool false]) [] y0 []) (.sc true 139 [.agg (aI.cells b),.agg (aA.cells s),.agg (aA.cells t),Zi leaf] (.aT [Zi (Prod.fst z0),Zi (Prod.snd z0)]) (.sc ((z0.2 != 0||z0.1==0)==false) 140 [.agg (aI.cells b),Zi z0.1] (Zi (m8 b (Prod.fst z0))) (.br (z0.2 != 0||z0.1==0||m8 b z0.1==1) (.out (.aT [Zi 0,.bool false]) [] y0 []) (.sc true 126 [Zi b.2,Zi z0.1,Zi (aI.gr b).1] (Zi (b.2^toNat z0.1%(aI.gr b).1)) (.out (.aT [Zi (b.2^toNat z0.1%(aI.gr b).1),.bool true]) [] y0 [])))))))))))
  (by kernel_rfl) ?_
 refine aM (c1) ?_
 refine aM (c2) ?_
 refine aV (fun h2=>c3) ?_
 refine aV (fun h3=>c4) ?_
 refine aL (fun h4=>?_) (fun h4=>?_)
 ·have g4:=(az (az (az (aB aa) (aB aa)) (aB aF)) (aB aF)) h4
  exact aq (aw.of_eq (LF g4))
 ·have g4:=(au (au (au (ay af) (ay af)) (ay aC)) (ay aC)) h4
  refine aM (c5) ?_
  refine aV (fun h7=>c6 ((by simp at h7;exact (jc h7.1).1)) ((by simp at h7;exact (jc h7.1).2))) ?_
  refine aL (fun h8=>?_) (fun h8=>?_)
  ·have g8:=(az (az aS ai) ai) h8
   exact aq (aw.of_eq (PN (Oj g4) g8))
  ·have g8:=(au (au aP ao) ao) h8
   refine aM (j0 (b.2) ((cQ b s t leaf).1) ((aI.gr b).1) (by have K:=mJ g8.1.1;omega) (by have K:=mJ g8.1.1;omega) (by have K:=mJ g8.1.1;omega) (by have K:=mJ g8.1.1;omega) (by have K:=mJ g8.1.1;omega)) ?_
   exact aq (aw.of_eq (PE (Oj g4) g8))
end Go.Proofs.YtgnfjlekpgjehaaGreatDoor

namespace Go.Sp
open Go.IntKind (wrap)
open Int (toNat)
open Go Go.Am
structure Ch (g : dq) : Prop where
  sl : g.s.nl ≤ 1000
  tl : g.t.nl ≤ 1000
  sb : g.s.By
  tb : g.t.By
  sp : g.s.np ≤ 1000
  tp : g.t.np ≤ 1000
  sf : ∀ q, q < g.s.np → cC (g.s.pf q) 32
  tf : ∀ q, q < g.t.np → cC (g.t.pf q) 32
  lf : g.leaf ≤ 9223372036854775807
structure jF (k : aX) : Prop where
  w : k.cg.gr.W
  nr : k.nr < 9223372036854775808
  ns : k.ns < 9223372036854775808
  nc : k.nc < 9223372036854775808
  nb : k.nb < 9223372036854775808
  ne : k.ne < 9223372036854775808
  nu : k.nu < 9223372036854775808
  ni : k.ni < 9223372036854775808
  ng : k.ng < 9223372036854775808
  U : yZ k.nu k.U
  G : ∀ i, i < k.ng → Ch (k.G i)
variable {k : aX}
theorem eD:dO k=true↔hdK k=true∧fD k=true∧gG k=true∧dp k.nb k.B k.ne k.E=true∧k.nb=5+k.nc∧iw k.nu k.U=true∧jz k=true∧k.ng≤200∧∀ i,i<k.ng→tQ k i=true:=by
 simp [dO,Hr,and_assoc]
theorem oT:hdK k=true↔0≤k.num∧k.num≤7∧aR k.cg=true∧0≤k.bN∧k.bN≤1099511627776∧ec k.cg k.sec=true∧0≤k.now∧k.now≤1099511627776:=by
 simp [hdK,and_assoc]
theorem BV (g:((((¬k.num≥0∨¬k.num≤7)∨aR k.cg=false)∨(¬k.bN≥0∨¬k.bN≤1099511627776))∨ec k.cg k.sec=false)∨(¬k.now≥0∨¬k.now≤1099511627776)):dO k=false:=eM fun e=>by grind [oT,eD]
theorem Oz (g:((((k.num≥0∧k.num≤7)∧aR k.cg=true)∧(k.bN≥0∧k.bN≤1099511627776))∧ec k.cg k.sec=true)∧(k.now≥0∧k.now≤1099511627776)):hdK k=true:=oT.2 (by grind)
theorem yP (g:(((((fD k=false∨gG k=false)∨dp k.nb k.B k.ne k.E=false)∨¬(k.nb:Int)=IntKind.wrap .i64 (5+(k.nc:Int)))∨iw k.nu k.U=false)∨jz k=false)∨(k.ng:Int)>200):dO k=false:=eM fun e=>by grind [eD,ry,wI]
theorem GZ (hd:hdK k=true) (g:(((((fD k=true∧gG k=true)∧dp k.nb k.B k.ne k.E=true)∧(k.nb:Int)=IntKind.wrap .i64 (5+(k.nc:Int)))∧iw k.nu k.U=true)∧jz k=true)∧¬(k.ng:Int)>200):(!anyI (fun i => !tQ k i) k.ng)=dO k:=by
 have e6:=(ry g.1.1.1.1.1.2).1
 rw [wI (by omega) (by omega)] at g
 cases e:anyI (fun i => !tQ k i) k.ng with
 | true =>
  obtain ⟨i,hi,h⟩:=Kv e
  exact (eM fun f=>by grind [eD]).symm
 | false =>
  grind [eD,Fw]
theorem FB (hd:hdK k=true) (g:(((((fD k=true∧gG k=true)∧dp k.nb k.B k.ne k.E=true)∧(k.nb:Int)=IntKind.wrap .i64 (5+(k.nc:Int)))∧iw k.nu k.U=true)∧jz k=true)∧¬(k.ng:Int)>200) (h:∀ i,i<k.ng→tQ k i=true):dO k=true:=by grind [ry,wI,eD]
end Go.Sp
