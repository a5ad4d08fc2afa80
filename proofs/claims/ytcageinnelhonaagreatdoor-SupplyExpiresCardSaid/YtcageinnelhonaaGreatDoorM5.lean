/- Part of the proof: Vfy, Glt, Sec, AnyL, Trn, Spt, Bnk, AX2, AE1, AE2, AE3, AE4, AC1, AE5, AE8, AV5, AV6, AV7, AX3, AX4, AX5, ARV, AX6, AX7, AX8, Knw, AX9, AX10, AV1, EnRound, ItH, Itr. -/
import Derived.Test.YtcageinnelhonaaGreatDoorM4
import Derived.Test.YtcageinnelhonaaGreatDoorM3
import Derived.Test.YtcageinnelhonaaGreatDoorProg
import Derived.Test.YtcageinnelhonaaGreatDoorM2
import Derived.OrdersIn
namespace Go.Sp
open Go.IntKind (wrap)
open Int (toNat)
open Go Go.Am
def lbF (s:Spend) (i:Nat):Int:=s.lf i 0
def newB (s:Spend) (i:Nat):Bool := !decide (lbF s i∈(List.range i).map (lbF s))
def okL (b:Bas) (s:Spend) (i:Nat):Bool:=leafB b s.a (chS b s) (s.lf i 0) (s.lf i 1) (s.lf i 2)&&newB s i
def dpN (s:Spend):Nat:=(s.depth - s.level).toNat
def topF (s:Spend):Nat→Int:=treF (fun i=>leafF (lbF s i)) (dpN s) 0
def hdB (b:Bas) (r:Rcd) (s:Spend):Bool:=coinV b r s.coin&&nodeB s.depth s.level s.index&&ctxB s.time s.number&&Nat.beq s.nl (2^dpN s)&&s.pidx==s.index
def vfy (b:Bas) (r:Rcd) (s:Spend):Bool:=hdB b r s&&allI (okL b s) s.nl&&((s.np:Int)==s.level&&hEq (folF (topF s) s.pidx s.pf s.np) s.root)
theorem map_ent {os:List (Option Ob)} {n:Nat} {f:Nat→Int}:Ent os (.isl 1 n fun i _=>.int .i64 (f i)) (il .i64 ((List.range n).map f)):=by
 show Ent os _ (.isl 1 ((List.range n).map f).length _)
 rw [show ((List.range n).map f).length=n by simp]
 exact Ent.isl fun i j hi _=>congrArg (AV.int .i64) (getD_map hi).symm
theorem mem_map_r {f:Nat→Int} {n:Nat} {v:Int}:v∈(List.range n).map f↔∃ j,j<n∧f j=v:=by simp
theorem sz_w {s:Spend} (h:nodeB s.depth s.level s.index=true):IntKind.wrap .i64 (1*2^min (toNat (IntKind.wrap .i64 (s.depth - s.level))) 64)=((2^dpN s:Nat):Int)∧IntKind.wrap .i64 (s.depth - s.level)=s.depth - s.level∧dpN s≤5:=by
 have k:=node_t h
 grind [IntKind.wrap,wI,dpN,shw]
theorem cv_ok {b:Bas} {r:Rcd} {c:Coin} (h:coinV b r c=true):validB b=true∧elemB b.gr c.a=true:=by simp_all [coinV,rcvB,keyB,verR,Bool.and_eq_true,msg_el]
structure HdOk (b : Bas) (r : Rcd) (s : Spend) : Prop where
  hd : hdB b r s = true
  v : validB b = true
  a : elemB b.gr s.a = true
  n : nodeB s.depth s.level s.index = true
  l : s.nl = 2 ^ dpN s
  d : dpN s ≤ 5
  lv : 0 ≤ s.level ∧ s.level ≤ 5
  ix : 0 ≤ s.pidx ∧ s.pidx < 2 ^ s.level.toNat
  n32 : s.nl ≤ 32
  lb : lvB s.nl = true
  q0 : 0 < b.gr.q
  q1 : b.gr.q < 2305843009213693952
  k : 0 ≤ chS b s ∧ chS b s < b.gr.q
  top : byB (topF s) 32
  p0 : 0 ≤ s.pidx
  p1 : s.pidx < 9223372036854775807
theorem leafF_by (x:Int):byB (leafF x) 32:=tagI_by _ _ _
theorem hd_of {b:Bas} {r:Rcd} {s:Spend} (h:hdB b r s=true):HdOk b r s:=by
 have h0:=h
 unfold hdB at h
 simp only [Bool.and_eq_true,Nat.beq_eq,beq_iff_eq] at h
 obtain ⟨⟨⟨⟨h1,h2⟩,_⟩,h4⟩,h5⟩:=h
 have k:=node_t h2
 have hd:dpN s≤5:=(sz_w h2).2.2
 have hp:2^dpN s≤32:=by have:=pow5 (d:=dpN s) (k:=0) hd;omega
 have hq:=validB_q (cv_ok h1).1
 exact ⟨h0,(cv_ok h1).1,(cv_ok h1).2,h2,h4,hd,by omega,by omega,by omega,by grind [lvB_d],hq.1,hq.2,chS_q hq.1,
  tre_by (n:=2^dpN s) (fun i _=>leafF_by _) (dpN s) 0 (by omega),by omega,by grind [p2]⟩
abbrev szW (s:Spend):Int:=IntKind.wrap .i64 (1*2^min (toNat (IntKind.wrap .i64 (s.depth - s.level))) 64)
theorem hd_ok {b:Bas} {r:Rcd} {s:Spend} (h:(((coinV b r s.coin=true∧nodeB s.depth s.level s.index=true)∧ctxB s.time s.number=true)∧(s.nl:Int)=szW s)∧s.pidx=s.index):HdOk b r s:=by grind [hd_of,sz_w,dpN,Int.ofNat.inj,hdB,Nat.beq_eq,Nat.beq]
theorem vfy_h {b:Bas} {r:Rcd} {s:Spend} (h:hdB b r s=false):vfy b r s=false:=by grind [vfy]
theorem hd_no {b:Bas} {r:Rcd} {s:Spend} (h:(((coinV b r s.coin=false∨nodeB s.depth s.level s.index=false)∨ctxB s.time s.number=false)∨¬(s.nl:Int)=szW s)∨¬s.pidx=s.index):vfy b r s=false:=by
 refine vfy_h ?_
 rcases h with (((h|h)|h)|h)|h
 ·grind [hdB]
 ·grind [hdB]
 ·grind [hdB]
 ·cases hn:nodeB s.depth s.level s.index with
  | false=>grind [hdB]
  | true =>
   have h:¬(s.nl:Int)=((2^dpN s:Nat):Int):=fun e=>h (e.trans (sz_w hn).1.symm)
   have:Nat.beq s.nl (2^dpN s)=false:=by
    rw [Bool.eq_false_iff,ne_eq,Nat.beq_eq]
    omega
   grind [hdB]
 grind [hdB]
theorem okL_el {b:Bas} {s:Spend} {i:Nat} (h:okL b s i=true):elemB b.gr (lbF s i)=true:=by
 unfold okL leafB at h;simp only [Bool.and_eq_true] at h;exact h.1.1
theorem okL_no {b:Bas} {s:Spend} {i:Nat} (h:leafB b s.a (chS b s) (s.lf i 0) (s.lf i 1) (s.lf i 2)=false∨s.lf i 0∈(List.range i).map fun i=>lbF s (i+0)):okL b s i=false:=by grind [okL,newB,lbF,List.range,decide_eq_true]
theorem okL_yes {b:Bas} {s:Spend} {i:Nat} (h:leafB b s.a (chS b s) (s.lf i 0) (s.lf i 1) (s.lf i 2)=true∧¬s.lf i 0∈(List.range i).map fun i=>lbF s (i+0)):okL b s i=true:=by grind [okL,newB,lbF,List.range,decide_eq_false]
theorem vfy_l {b:Bas} {r:Rcd} {s:Spend} {i:Nat} (hi:i<s.nl) (h:okL b s i=false):vfy b r s=false:=by grind [vfy,allI_f]
theorem vfy_t {b:Bas} {r:Rcd} {s:Spend} (hd:hdB b r s=true) (h:∀ i,i<s.nl→okL b s i=true):vfy b r s=((s.np:Int)==s.level&&hEq (folF (topF s) s.pidx s.pf s.np) s.root):=by grind [vfy,allI_t]
abbrev szR (s:Spend):Int:=IntKind.wrap .i64 (spanZ s.depth s.level s.index - spanA s.depth s.level s.index)
theorem sz_r {s:Spend} (h:nodeB s.depth s.level s.index=true):szR s=((2^dpN s:Nat):Int):=by
 have k:=node_t h
 have e:spanZ s.depth s.level s.index - spanA s.depth s.level s.index=((2^dpN s:Nat):Int):=by simp_all [spanZ,spanA,Int.add_mul,Int.one_mul,Int.natCast_pow,dpN]<;>omega
 have hp:2^dpN s≤32:=by have:=pow5 (d:=dpN s) (k:=0) (sz_w h).2.2;omega
 unfold szR
 grind [dpN,Nat,Int,Int.ofNat_le,Int.natCast_nonneg,wI]
theorem cv_v {b:Bas} {r:Rcd} {c:Coin} (h:validB b=false):coinV b r c=false:=by grind [coinV,cv_ok]
theorem rhd_no {b:Bas} {r:Rcd} {s:Spend} (h:((validB b=false∨coinV b r s.coin=false)∨nodeB s.depth s.level s.index=false)∨ctxB s.time s.number=false):vfy b r s=false:=by grind [vfy_h,hdB,cv_v]
theorem rhd_ok {b:Bas} {r:Rcd} {s:Spend} (h:((validB b=true∧coinV b r s.coin=true)∧nodeB s.depth s.level s.index=true)∧ctxB s.time s.number=true) (h':((s.nl:Int)=szR s∧s.pidx=s.index)∧(s.np:Int)=s.level):HdOk b r s :=
 hd_ok ⟨⟨⟨⟨h.1.1.2,h.1.2⟩,h.2⟩,h'.1.1.trans ((sz_r h.1.2).trans (sz_w h.1.2).1.symm)⟩,h'.1.2⟩
theorem vfy_n {b:Bas} {r:Rcd} {s:Spend} (h:¬(s.np:Int)=s.level):vfy b r s=false:=by grind [vfy,Int]
theorem rhd_no2 {b:Bas} {r:Rcd} {s:Spend} (h:((validB b=true∧coinV b r s.coin=true)∧nodeB s.depth s.level s.index=true)∧ctxB s.time s.number=true) (h':(¬(s.nl:Int)=szR s∨¬s.pidx=s.index)∨¬(s.np:Int)=s.level):vfy b r s=false:=by grind [hd_no,sz_w,trans,sz_r,vfy_n]
theorem vfy_r {b:Bas} {r:Rcd} {s:Spend} (hd:hdB b r s=true) (hn:(s.np:Int)=s.level) (h:∀ i,i<s.nl→okL b s i=true):vfy b r s=hEq (folF (topF s) s.pidx s.pf s.np) s.root:=by grind [vfy_t,Int]
theorem okL_n {b:Bas} {s:Spend} {i:Nat} (h:leafB b s.a (chS b s) (s.lf i 0) (s.lf i 1) (s.lf i 2)=true) (hk:∀ j,j<i→¬lbF s j=lbF s i):okL b s i=true :=
 okL_yes ⟨h,fun e=>by grind [mem_map_r,lbF]⟩
theorem okL_l {b:Bas} {s:Spend} {i:Nat} (h:leafB b s.a (chS b s) (s.lf i 0) (s.lf i 1) (s.lf i 2)=false):okL b s i=false:=okL_no (.inl h)
theorem okL_m {b:Bas} {s:Spend} {i j:Nat} (hj:j<i) (h:s.lf j 0=s.lf i 0):okL b s i=false:=okL_no (.inr (mem_map_r.2 ⟨j,hj,h⟩))
theorem ne_next {f:Nat→Int} {v:Int} {i:Nat} (h:∀ j,j<i→¬f j=v) (hi:¬f i=v):∀ j,j<i+1→¬f j=v:=fun j hj=>by grind
abbrev rcl (n:Nat) (R:Nat→Nat→Int):AV:=.isl 11 n fun i j=>.int .i64 (R i j)
def rcdOf (f:Nat→Int):Rcd:=⟨f 0,f 1,f 2,f 3,f 4,f 5,f 6,f 7,f 8,f 9,f 10⟩
def fnB (R:Nat→Nat→Int) (k e d:Int) (i:Nat):Bool:=R i 0==k&&R i 1==e&&R i 2==d
def fnI (R:Nat→Nat→Int) (n:Nat) (k e d:Int):Int:=firstI (fnB R k e d) n 0
def fnS (R:Nat→Nat→Int) (n:Nat) (s:Spend):Int:=fnI R n s.bank s.epoch s.denom
def rcX (R:Nat→Nat→Int) (n:Nat) (s:Spend):Rcd:=bif decide (fnS R n s≥0) then rcdOf (R (fnS R n s).toNat) else rcdOf fun _=>0
def verd (b:Bas) (R:Nat→Nat→Int) (n:Nat) (s:Spend):Bool:=decide (fnS R n s≥0)&&vfy b (rcX R n s) s
theorem fnI_lt {R:Nat→Nat→Int} {n:Nat} {k e d:Int} (h:¬fnI R n k e d<0):0≤fnI R n k e d∧fnI R n k e d<n:=by
 have:=firstI_lt (p:=fnB R k e d) n 0
 grind [fnI]
theorem rcX_no {R:Nat→Nat→Int} {n:Nat} {s:Spend} (h:fnS R n s<0):rcX R n s=rcdOf fun _=>0:=by grind [rcX,decide_eq_false]
theorem rcX_ok {R:Nat→Nat→Int} {n:Nat} {s:Spend} (h:¬fnS R n s<0):rcX R n s=rcdOf (R (fnS R n s).toNat):=by grind [rcX,decide_eq_true]
noncomputable def glK (b:Bas) (s t:Spend) (leaf:Int):Int×Int :=
 if (secR b s t leaf).2=0 then (if (secR b s t leaf).1=0∨msgI b (secR b s t leaf).1=1 then (0,10) else (b.g1^(secR b s t leaf).1.toNat%b.gr.p,0)) else (0,(secR b s t leaf).2)
def vd2 (b:Bas) (R:Nat→Nat→Int) (n:Nat) (s t:Spend):Bool:=verd b R n s&&verd b R n t
noncomputable def xvK (b:Bas) (R:Nat→Nat→Int) (n:Nat) (s t:Spend) (leaf:Int):Int:=bif vd2 b R n s t then (glK b s t leaf).1 else 0
noncomputable def xvB (b:Bas) (R:Nat→Nat→Int) (n:Nat) (s t:Spend) (leaf:Int):Bool:=vd2 b R n s t&&(glK b s t leaf).2==0
theorem rec_no {R:Nat→Nat→Int} {n:Nat} {s:Spend} (h:fnS R n s<0):AV.tup [(rcdOf fun _=>0).av,.bool false]=.tup [(rcX R n s).av,.bool (decide (fnS R n s≥0))]:=by grind [rcX_no,decide_eq_false]
theorem rec_ok {R:Nat→Nat→Int} {n:Nat} {s:Spend} (h:¬fnS R n s<0):AV.tup [(rcdOf (R (fnS R n s).toNat)).av,.bool true]=.tup [(rcX R n s).av,.bool (decide (fnS R n s≥0))]:=by grind [rcX_ok,decide_eq_true]
theorem fnB_t {R:Nat→Nat→Int} {k e d:Int} {i:Nat} (h:(R i 0=k∧R i 1=e)∧R i 2=d):fnB R k e d i=true:=by grind [fnB]
theorem fnB_f {R:Nat→Nat→Int} {k e d:Int} {i:Nat} (h:(¬R i 0=k∨¬R i 1=e)∨¬R i 2=d):fnB R k e d i=false:=by grind [fnB]
theorem secR_ok {b:Bas} {s t:Spend} {leaf:Int} (h:(secR b s t leaf).2=0):b.Ok∧0≤(secR b s t leaf).1∧(secR b s t leaf).1<b.gr.q:=by
 unfold secR at h ⊢
 split at h
 ·cases h
 rename_i h0
 have hv:validB b=true:=by grind
 have hq:=validB_q hv
 rw [if_neg h0]
 split at h
 ·cases h
 rename_i h1
 rw [if_neg h1]
 split at h
 ·cases h
 rename_i h2
 rw [if_neg h2]
 split at h
 ·cases h
 rename_i h3
 rw [if_neg h3]
 split at h
 ·cases h
 rename_i h4
 rw [if_neg h4]
 split at h
 ·cases h
 rename_i h5
 rw [if_neg h5]
 exact ⟨validB_iff.1 hv,Int.emod_nonneg _ (by omega),Int.emod_lt_of_pos _ hq.1⟩
theorem glK_1 {b:Bas} {s t:Spend} {leaf:Int} (h:¬(secR b s t leaf).2=0):glK b s t leaf=(0,(secR b s t leaf).2):=if_neg h
theorem glK_2 {b:Bas} {s t:Spend} {leaf:Int} (h:(secR b s t leaf).2=0) (h':(secR b s t leaf).1=0∨msgI b (secR b s t leaf).1=1):glK b s t leaf=(0,10):=by simp_all [glK]
theorem glK_3 {b:Bas} {s t:Spend} {leaf:Int} (h:(secR b s t leaf).2=0) (h':¬(secR b s t leaf).1=0∧¬msgI b (secR b s t leaf).1=1):glK b s t leaf=(b.g1^(secR b s t leaf).1.toNat%b.gr.p,0):=by simp_all [glK]
theorem gl_out {b:Bas} {s t:Spend} {leaf:Int} {x:Int×Int} (h:glK b s t leaf=x):AV.tup [.int .i64 x.1,.int .i64 x.2]=.tup [.int .i64 (glK b s t leaf).1,.int .i64 (glK b s t leaf).2]:=by rw [h]
theorem okS_hd {b:Bas} {r:Rcd} {s:Spend} (h:hdB b r s=true):okS s=true:=by
 have k:=hd_of h
 have hn:=k.n
 have h0:=h
 unfold hdB at h
 simp only [Bool.and_eq_true] at h
 have hc:=h.1.1.2
 have hsp:=(span_d hn).1
 have hl:(s.nl:Int)=szR s:=by rw [sz_r hn,k.l]
 simp_all [ctxB,Bool.and_eq_true,decide_eq_true_eq,okS,IntKind.wrap,spanZ,spanA]
theorem vd_ok {b:Bas} {R:Nat→Nat→Int} {n:Nat} {s:Spend} (h:verd b R n s=true):validB b=true∧okS s=true:=by
 unfold verd vfy at h
 simp only [Bool.and_eq_true] at h
 have h:=h.2.1.1
 exact ⟨(hd_of h).v,okS_hd h⟩
theorem xv_no {b:Bas} {R:Nat→Nat→Int} {n:Nat} {s t:Spend} {leaf:Int} (h:verd b R n s=false∨verd b R n t=false):AV.tup [.int .i64 0,.bool false]=.tup [.int .i64 (xvK b R n s t leaf),.bool (xvB b R n s t leaf)]:=by grind [vd2,xvK,xvB]
theorem xv_no4 {b:Bas} {R:Nat→Nat→Int} {n:Nat} {s t:Spend} {leaf:Int} (h:((validB b=false∨(okS s=false∨okS t=false))∨verd b R n s=false)∨verd b R n t=false):AV.tup [.int .i64 0,.bool false]=.tup [.int .i64 (xvK b R n s t leaf),.bool (xvB b R n s t leaf)]:=by
 refine xv_no ?_
 cases hs:verd b R n s with
 | false=>simp
 | true =>
  cases ht:verd b R n t with
  | false=>simp
  | true =>
   grind [vd_ok]
theorem xv_yes {b:Bas} {R:Nat→Nat→Int} {n:Nat} {s t:Spend} {leaf:Int} (h:verd b R n s=true∧verd b R n t=true):AV.tup [.int .i64 (glK b s t leaf).1,.bool ((glK b s t leaf).2==0)]=.tup [.int .i64 (xvK b R n s t leaf),.bool (xvB b R n s t leaf)]:=by grind [xvK,xvB,vd2]
theorem vd_t {b:Bas} {R:Nat→Nat→Int} {n:Nat} {s t:Spend} (h:(((fnS R n s≥0∧fnS R n t≥0)∧vfy b (rcX R n s) s=true)∧vfy b (rcX R n t) t=true)):verd b R n s=true∧verd b R n t=true:=by
 unfold verd;rw [h.1.2,h.2,decide_eq_true h.1.1.1,decide_eq_true h.1.1.2];exact ⟨rfl,rfl⟩
theorem xv_noR {b:Bas} {R:Nat→Nat→Int} {n:Nat} {s t:Spend} {leaf:Int} (h:(((¬fnS R n s≥0∨¬fnS R n t≥0)∨vfy b (rcX R n s) s=false)∨vfy b (rcX R n t) t=false)):AV.tup [.int .i64 0,.bool false]=.tup [.int .i64 (xvK b R n s t leaf),.bool (xvB b R n s t leaf)]:=by
 refine xv_no ?_
 unfold verd
 grind
theorem xv_g {b:Bas} {R:Nat→Nat→Int} {n:Nat} {s t:Spend} {leaf:Int} {x:Int×Int} (h:verd b R n s=true∧verd b R n t=true) (e:glK b s t leaf=x):AV.tup [.int .i64 x.1,.bool (x.2==0)]=.tup [.int .i64 (xvK b R n s t leaf),.bool (xvB b R n s t leaf)]:=by grind [xv_yes]
theorem xv_f {b:Bas} {R:Nat→Nat→Int} {n:Nat} {s t:Spend} {leaf:Int} (h:verd b R n s=true∧verd b R n t=true) (g:(¬(secR b s t leaf).2=0∨(secR b s t leaf).1=0)∨msgI b (secR b s t leaf).1=1):AV.tup [.int .i64 0,.bool false]=.tup [.int .i64 (xvK b R n s t leaf),.bool (xvB b R n s t leaf)]:=by
 by_cases h0:(secR b s t leaf).2=0
 ·refine xv_g (x:=(0,10)) h (glK_2 h0 ?_)
  omega
 grind [xv_g,glK_1,secR]
theorem xv_t {b:Bas} {R:Nat→Nat→Int} {n:Nat} {s t:Spend} {leaf:Int} (h:verd b R n s=true∧verd b R n t=true) (g:((secR b s t leaf).2=0∧¬(secR b s t leaf).1=0)∧¬msgI b (secR b s t leaf).1=1):AV.tup [.int .i64 (b.g1^(secR b s t leaf).1.toNat%b.gr.p),.bool true]=.tup [.int .i64 (xvK b R n s t leaf),.bool (xvB b R n s t leaf)] :=
 xv_g (x:=(b.g1^(secR b s t leaf).1.toNat%b.gr.p,0)) h (glK_3 g.1.1 ⟨g.1.2,g.2⟩)
theorem sec_pow {b:Bas} {s t:Spend} {leaf:Int} (h:(secR b s t leaf).2=0):0≤b.g1∧b.g1<b.gr.p∧0≤(secR b s t leaf).1∧(secR b s t leaf).1≤9223372036854775807∧b.gr.p<2305843009213693952:=by
 have k:=secR_ok h
 have e:=el_bnd k.1.G k.1.e1
 have:=k.1.G.p1
 have:=k.1.G.qp
 omega
def nzB (b:Bas) (x:Int):Bool:=decide (x≥1)&&decide (x<b.gr.q)
def msgJ (b:Bas) (u:Int):Int:=pr2V b u 1
def lfJ (b:Bas) (X:Nat→Nat→Int) (i:Nat):Int:=pr2V b (X i 0) (X i 1)
def pairB (b:Bas) (X:Nat→Nat→Int) (i:Nat):Bool:=scaB b.gr (X i 0)&&scaB b.gr (X i 1)
def seenB (b:Bas) (X:Nat→Nat→Int) (i:Nat):Bool:=(List.range i).any fun j=>decide (lfJ b X i=lfJ b X j)
theorem nz_sca {b:Bas} {x:Int} (h:nzB b x=true):scaB b.gr x=true:=by grind [nzB,sca_iff]
structure SecOk (b : Bas) (u s : Int) (X : Nat → Nat → Int) (n : Nat) : Prop where
  v : validB b = true
  hu : nzB b u = true
  hs : nzB b s = true
  m : (msgJ b u != 1) = true
  l : lvB n = true
  p : ∀ i, i < n → pairB b X i = true
  d : ∀ i, i < n → seenB b X i = false
theorem nz_rng {b:Bas} {x:Int} (h:nzB b x=true):0≤x∧x<b.gr.q:=sca_iff.1 (nz_sca h)
theorem anyI_eq (p:Nat→Bool) (n:Nat):anyI p n=(List.range n).any p:=by
 unfold anyI
 have key:∀ k i,decide (firstI p k i≥0)=(List.range k).any fun j=>p (i+j):=by
  intro k
  induction k with
  | zero=>intro i;rfl
  | succ k ih =>
   intro i
   have e:firstI p (k+1) i=if p i then (i:Int) else firstI p k (i+1):=rfl
   rw [e,List.range_succ_eq_map,List.any_cons,List.any_map]
   cases hp:p i with
   | true=>simp
   | false =>
    simp only [Bool.false_eq_true,if_false,Bool.false_or]
    rw [ih]
    congr 1
    funext j
    show p (i+1+j)=p (i+(j+1))
    rw [Nat.add_right_comm,Nat.add_assoc]
 rw [key];simp
theorem anyQ_f {p:Nat→Bool} {n:Nat} (h:anyI p n=false):∀ i,i<n→p i=false:=by
 rw [anyI_eq] at h
 simpa using h
theorem anyQ_t {p:Nat→Bool} {n:Nat} (h:anyI p n=true):∃ i,i<n∧p i=true:=by
 rw [anyI_eq] at h
 simpa using h
def labB (s:ByteArray):Bool:=decide (1≤s.size)&&decide (s.size≤24)&&(List.range s.size).all fun i=>decide (33≤strF s i)&&decide (strF s i≤126)
structure LabV (s : ByteArray) : Prop where
  lo : 1 ≤ s.size
  hi : s.size ≤ 24
  at' : ∀ i, i < s.size → 33 ≤ strF s i ∧ strF s i ≤ 126
theorem lab_V {s:ByteArray} (h:labB s=true):LabV s:=by
 simp only [labB,Bool.and_eq_true,decide_eq_true_eq,List.all_eq_true,List.mem_range] at h
 exact ⟨h.1.1,h.1.2,h.2⟩
def badC (c:Int):Bool:=decide (c<33)||decide (c>126)
theorem lab_eq {s:ByteArray}:(decide ((s.size:Int)≥1)&&decide ((s.size:Int)≤24) && !anyI (fun i=>badC (strF s i)) s.size)=labB s:=by
 rw [anyI_eq]
 unfold labB
 have e1:decide ((s.size:Int)≥1)=decide (1≤s.size):=by grind
 have e2:decide ((s.size:Int)≤24)=decide (s.size≤24):=by grind
 rw [e1,e2,List.not_any_eq_all_not]
 congr 2
 funext i
 simp only [badC,Bool.not_or]
 grind
theorem lab_long {s:ByteArray} (h:(s.size:Int)<1∨(s.size:Int)>24):labB s=false:=by grind [labB,lab_V]
theorem lab_no {s:ByteArray} {i:Nat} (hi:i<s.size) (h:strF s i<33∨strF s i>126):labB s=false:=by grind [labB,lab_V]
theorem lab_yes {s:ByteArray} (h:¬(s.size:Int)<1∧¬(s.size:Int)>24) (k:∀ i,i<s.size→33≤strF s i∧strF s i≤126):labB s=true:=by simp_all [labB,Bool.and_eq_true,decide_eq_true_eq,List.all_eq_true,List.mem_range]<;>omega
def trsJ (h:Nat→Int) (s:ByteArray) (L:List It):List It:=.byt 32 h::.byt s.size (strF s)::L
def trsI (h:Nat→Int) (s:ByteArray) (L:List It):It:=lsI (trsJ h s L)
theorem trs0_ok (h:Nat→Int) (s:ByteArray):(trsI h s []).okD 8=true:=by rfl
theorem trs0_len (h:Nat→Int) (s:ByteArray):(trsI h s []).enc.length=47+s.size:=by
 show (It.encP 2 _ (0+1+1)).length=_
 grind [It.encP_succ,List.length_append,It.encP_zero,nbL_len,byt_len,trsJ]
theorem trs1_ok (h:Nat→Int) (s:ByteArray) {x:It} (hx:x.okD 7=true):(trsI h s [x]).okD 8=true:=by simp_all [trsI,trsJ,lsI,It.okD,List.range,List.range.loop,List.getD]
theorem trs1_len (h:Nat→Int) (s:ByteArray) (x:It):(trsI h s [x]).enc.length=47+s.size+x.enc.length:=by
 show (It.encP 3 _ (0+1+1+1)).length=_
 simp_all [It.encP_succ,List.length_append,It.encP_zero,nbL_len,byt_len,trsJ]<;>omega
theorem strF_by' (s:ByteArray):byB (strF s) s.size:=fun i hi=>by
 unfold strF
 exact ⟨Int.natCast_nonneg _,by have:=(s.data.toList.getD i 0).toNat_lt;omega⟩
theorem trs0_okB {h:Nat→Int} {s:ByteArray} (hb:byB h 32):(trsI h s []).okB:=fun i hi=>by
 have hi:i<2:=hi
 match i,hi with
 | 0,_=>exact hb
 | 1,_=>exact strF_by' s
theorem trs1_okB {h:Nat→Int} {s:ByteArray} {x:It} (hb:byB h 32) (hx:x.okB):(trsI h s [x]).okB:=fun i hi=>by
 have hi:i<3:=hi
 match i,hi with
 | 0,_=>exact hb
 | 1,_=>exact strF_by' s
 | 2,_=>exact hx
theorem hc_at {h:Nat→Int} {cnt:Int} {j:Nat} (hj:j<32):intOfAV (atL (u8c h++[.int .i64 cnt]) j)=h j:=by
 have e:atL (u8c h++[.int .i64 cnt]) j=atL (u8c h) j:=by
  unfold atL
  rw [List.getD_eq_getElem?_getD,List.getD_eq_getElem?_getD,List.getElem?_append_left (by simp_all [u8c])]
 grind [u8c_at]
def hRow (h:Nat→Int) (cnt:Int):List AV:=[.int .i64 2,.int .i64 0,.isl 1 32 fun r _=>.int .u8 (intOfAV (atL (u8c h++[.int .i64 cnt]) (0+(0+r)))),.nsl]
def lRow (s:ByteArray):List AV:=[.int .i64 2,.int .i64 0,.isl 1 s.size fun i _=>.int .u8 ((s.data.toList.getD i 0).toNat:Nat),.nsl]
theorem hRow_e {os:List (Option Ob)} {h:Nat→Int} {cnt:Int} (k:Nat):Ent os (atL (hRow h cnt) k) (atL (It.byt 32 h).cells k) :=
 Ent.atL (byt_root 32 fun i hi=>by simp_all [Nat.zero_add,hc_at]) k
theorem lRow_e {os:List (Option Ob)} {s:ByteArray} (k:Nat):Ent os (atL (lRow s) k) (atL (It.byt s.size (strF s)).cells k) :=
 Ent.atL (byt_root s.size fun _ _=>rfl) k
theorem trs0_F {os:List (Option Ob)} {h:Nat→Int} {cnt:Int} {s:ByteArray} {L:List It} {i k:Nat} (hi:i<2):Ent os (atL (List.getD [hRow h cnt,lRow s] (i+0) []) k) (atL ((trsJ h s L).getD i (.int 0)).cells k) :=
 match i,hi with
 | 0,_=>hRow_e k
 | 1,_=>lRow_e k
theorem trs1_F {os:List (Option Ob)} {h:Nat→Int} {cnt:Int} {s:ByteArray} {x:It} {y:List AV} (hx:∀ k,k<4→Ent os (atL y k) (atL x.cells k)) {i k:Nat} (hi:i<3) (hk:k<4) :
  Ent os (mixA (Nat.blt (i+0) 2) (atL (List.getD [hRow h cnt,lRow s] (i+0) []) k) (atL y k)) (atL ((trsJ h s [x]).getD i (.int 0)).cells k) :=
 match i,hi with
 | 0,_=>by show Ent os (mixA true _ _) _;rw [mixA_tt];exact hRow_e k
 | 1,_=>by show Ent os (mixA true _ _) _;rw [mixA_tt];exact lRow_e k
 | 2,_=>by show Ent os (mixA false _ _) _;rw [mixA_ff];exact hx k hk
def newF (s:ByteArray):Nat→Int:=tagF "specie/transcript".toUTF8 s.size (strF s)
def absF (h:Nat→Int) (s:ByteArray) (x:It):Nat→Int:=tagI "specie/absorb".toUTF8 (trsI h s [x])
def chlN (h:Nat→Int) (s:ByteArray) (q:Int):Int:=numF (tagI "specie/challenge".toUTF8 (trsI h s [])) q 16
theorem newF_by (s:ByteArray):byB (newF s) 32:=fun i _=>sha_by _ _ i
theorem absF_by (h:Nat→Int) (s:ByteArray) (x:It):byB (absF h s x) 32:=tagI_by _ _ _
structure Pf where
  na : Nat
  a : Nat → Int
  c : Int
  nz : Nat
  z : Nat → Int
def Pf.cells (p:Pf):List AV:=[.isl 1 p.na fun i _=>.int .i64 (p.a i),.int .i64 p.c,.isl 1 p.nz fun i _=>.int .i64 (p.z i)]
def kfmB (G:Grp) (p:Pf):Bool:=Nat.beq p.na 1&&Nat.beq p.nz 1&&elemB G (p.a 0)&&scaB G p.c&&scaB G (p.z 0)
def kgvB (G:Grp) (b y:Int):Bool:=validG G&&msgB G b&&elemB G y
def kckB (G:Grp) (b y:Int) (p:Pf):Bool:=kgvB G b y&&kfmB G p&&(b^(p.z 0).toNat%G.p==p.a 0*(y^p.c.toNat%G.p)%G.p)
def kchN (G:Grp) (b y a:Int) (s:ByteArray):Int :=
 chlN (absF (absF (absF (newF s) "group".toUTF8 (intsI [G.p,G.q,G.g])) "statement".toUTF8 (intsI [b,y])) "commitment".toUTF8 (intsI [a])) "challenge".toUTF8 G.q
def kvrB (G:Grp) (b y:Int) (s:ByteArray) (p:Pf):Bool:=kckB G b y p&&kchN G b y (p.a 0) s==p.c
structure Use where
  a : Int
  b : Int
  sp : Spend
  leaf : Int
def Use.cells (u:Use):List AV:=[.int .i64 u.a,.int .i64 u.b]++u.sp.cells++[.int .i64 u.leaf]
def useA (n:Nat) (U:Nat→Use):AV:=.isl 83 n fun i j=>atL (U i).cells j
def dstB (s:Spend) (i:Nat):Bool:=(List.range i).all fun k => !(s.lf k 0==s.lf i 0)
def stoB (s:Spend):Bool:=decide (1≤s.nl)&&decide (s.nl≤32)&&decide (s.np≤20)&&(List.range s.nl).all (dstB s)
theorem sto_len {s:Spend} (h:((s.nl:Int)<1∨(s.nl:Int)>32)∨(s.np:Int)>20):stoB s=false:=by simp_all [stoB,Bool.and_eq_true,decide_eq_true_eq]<;>omega
theorem sto_two {s:Spend} {i:Nat} (hi:i<s.nl) (h:dstB s i=false):stoB s=false:=by cases e:stoB s<;>simp_all [stoB,Bool.and_eq_true,List.all_eq_true,List.mem_range]
theorem sto_ok {s:Spend} (h1:¬(s.nl:Int)<1) (h2:¬(s.nl:Int)>32) (h3:¬(s.np:Int)>20) (h:∀ i,i<s.nl→dstB s i=true):stoB s=true:=by grind [List.range,dstB,List.all_eq_true,stoB,decide_eq_true]
theorem sto_V {s:Spend} (h:stoB s=true):1≤s.nl∧s.nl≤32∧s.np≤20:=by simp_all [stoB,Bool.and_eq_true,decide_eq_true_eq]
theorem dst_no {s:Spend} {i k:Nat} (hk:k<i) (h:s.lf k 0=s.lf i 0):dstB s i=false:=by grind [dstB,List.all_eq_true,Bool.not_eq_true',beq_eq_false_iff_ne,absurd]
theorem dst_yes {s:Spend} {i:Nat} (h:∀ k,k<i→s.lf k 0≠s.lf i 0):dstB s i=true:=by grind [dstB,List.all_eq_true,Bool.not_eq_true',beq_eq_false_iff_ne]
def useB (u:Use):Bool:=stoB u.sp&&decide (0≤u.leaf)&&decide (u.leaf<u.sp.nl)&&u.a==u.sp.a&&u.b==u.sp.lf u.leaf.toNat 0
def ltU (x y:Use):Bool:=decide (x.a<y.a)||(x.a==y.a&&decide (x.b<y.b))
def sptB (n:Nat) (U:Nat→Use):Bool:=decide (n≤2000)&&(List.range n).all fun i=>useB (U i)&&(Nat.beq i 0||ltU (U (i - 1)) (U i))
theorem spt_len {n:Nat} {U:Nat→Use} (h:(n:Int)>2000):sptB n U=false:=by grind [sptB,decide_eq_false]
theorem spt_bad {n:Nat} {U:Nat→Use} {i:Nat} (hi:i<n) (h:useB (U i)=false∨(i≠0∧ltU (U (i - 1)) (U i)=false)):sptB n U=false:=by
 cases e:sptB n U with
 | false=>rfl
 | true =>
  simp only [sptB,Bool.and_eq_true,decide_eq_true_eq,List.all_eq_true,List.mem_range,Bool.or_eq_true] at e
  grind [absurd,Nat.eq_of_beq_eq_true]
theorem spt_ok {n:Nat} {U:Nat→Use} (hn:¬(n:Int)>2000) (h:∀ i,i<n→useB (U i)=true∧(i≠0→ltU (U (i - 1)) (U i)=true)):sptB n U=true:=by
 simp only [sptB,Bool.and_eq_true,decide_eq_true_eq,List.all_eq_true,List.mem_range,Bool.or_eq_true]
 refine ⟨by omega,fun i hi=>⟨(h i hi).1,?_⟩⟩
 by_cases e:i=0
 ·simp_all
 grind
theorem useB_iff {u:Use}:useB u=true↔stoB u.sp=true∧0≤u.leaf∧u.leaf<u.sp.nl∧u.a=u.sp.a∧u.b=u.sp.lf u.leaf.toNat 0:=by
 simp [useB,and_assoc]
theorem ltU_iff {x y:Use}:ltU x y=true↔x.a<y.a∨(x.a=y.a∧x.b<y.b):=by simp [ltU]
structure Cus where
  key : Int
  pf : Pf
  led : Int
  blk : Bool
  last : Int
def Cus.cells (c:Cus):List AV:=[.int .i64 c.key,.isl 1 c.pf.na fun i _=>.int .i64 (c.pf.a i),.int .i64 c.pf.c,.isl 1 c.pf.nz fun i _=>.int .i64 (c.pf.z i),.int .i64 c.led,.bool c.blk,.int .i64 c.last]
def cusA (n:Nat) (C:Nat→Cus):AV:=.isl 7 n fun i j=>atL (C i).cells j
structure Gui where
  s : Spend
  t : Spend
  leaf : Int
def Gui.cells (g:Gui):List AV:=g.s.cells++(g.t.cells++[.int .i64 g.leaf])
def guiA (n:Nat) (G:Nat→Gui):AV:=.isl 161 n fun i j=>atL (G i).cells j
structure Bnk where
  num : Int
  bas : Bas
  sec : Int
  nr : Nat
  R : Nat → Nat → Int
  ns : Nat
  X : Nat → Int
  nc : Nat
  C : Nat → Cus
  nb : Nat
  B : Nat → Int
  ne : Nat
  E : Nat → Nat → Int
  nu : Nat
  U : Nat → Use
  ni : Nat
  I : Nat → Nat → Int
  ng : Nat
  G : Nat → Gui
  seed : Nat → Int
  cnt : Int
  now : Int
def bnkC (num:Int) (bas:Bas) (sec:Int) (r x c b e u i g:AV) (seed:Nat→Int) (cnt now:Int):List AV :=
 .int .i64 num::(bas.cells++([.int .i64 sec,r,x,c,b,e,u,i,g]++(u8c seed++[.int .i64 cnt,.int .i64 now])))
def numA (n:Nat) (X:Nat→Int):AV:=.isl 1 n fun i _=>.int .i64 (X i)
def etyA (n:Nat) (E:Nat→Nat→Int):AV:=.isl 4 n fun i j=>.int .i64 (E i j)
def issA (n:Nat) (I:Nat→Nat→Int):AV:=.isl 21 n fun i j=>.int .i64 (I i j)
def Bnk.cells (k:Bnk):List AV:=bnkC k.num k.bas k.sec (.isl 11 k.nr fun i j=>.int .i64 (k.R i j)) (numA k.ns k.X) (cusA k.nc k.C) (numA k.nb k.B) (etyA k.ne k.E) (useA k.nu k.U) (issA k.ni k.I) (guiA k.ng k.G) k.seed k.cnt k.now
def powB (b:Bas) (x e:Int):Int:=x^e.toNat%b.gr.p
def timB (b:Bas) (x y:Int):Int:=x*y%b.gr.p
def okK (b:Bas) (x:Int) (r:Nat→Int):Bool:=nzB b x&&powB b b.gr.g x==r 5&&powB b b.g1 x==r 6&&powB b b.g2 x==r 7
def akB (b:Bas) (y:Int):Bool:=validB b&&msgB b.gr y&&timB b y b.g2 != 1
def accS:ByteArray := "account".toUTF8
def accB (b:Bas) (y:Int) (p:Pf):Bool:=akB b y&&kvrB b.gr b.g1 y accS p
def okR (k:Bnk) (i:Nat):Bool:=okK k.bas (k.X i) (k.R i)&&rcvB k.bas (rcdOf (k.R i))&&k.R i 0==k.num&&fnI k.R k.nr (k.R i 0) (k.R i 1) (k.R i 2)==(i:Int)
def rcsB (k:Bnk):Bool:=decide (k.nr≤100)&&Nat.beq k.ns k.nr&&(List.range k.nr).all (okR k)
def cuI (k:Bnk) (y:Int):Int:=firstI (fun i=>(k.C i).key==y) k.nc 0
def okC (k:Bnk) (i:Nat):Bool:=accB k.bas (k.C i).key (k.C i).pf&&cuI k (k.C i).key==(i:Int)&&(k.C i).led==5+(i:Int)&&decide (0≤(k.C i).last)&&decide ((k.C i).last≤200)
def cssB (k:Bnk):Bool:=decide (k.nc≤100)&&(List.range k.nc).all (okC k)
def isI (k:Bnk) (y n:Int):Int:=firstI (fun i=>k.I i 2==y&&k.I i 1==n) k.ni 0
def eqR (x y:Nat→Int):Bool:=(List.range 11).all fun j=>x j==y j
def rcI (k:Bnk) (r:Nat→Int):Int:=firstI (fun i=>eqR (k.R i) r) k.nr 0
def cvwB (b:Bas) (h h1 h2 m z a c2 c r:Int):Bool:=keyB b h h1 h2&&msgB b.gr m&&elsB b.gr z a c2&&nzB b c&&scaB b.gr r&&powB b b.gr.g r==timB b (powB b h c) a&&powB b m r==timB b (powB b z c) c2
def visB (b:Bas) (s:Nat→Int):Bool:=validB b&&rcvB b (rcdOf fun j=>s (3+j))&&decide (0≤s 1)&&decide (s 1≤1073741824)&&scaB b.gr (s 14)&&akB b (s 2)&&s 15==timB b (s 2) b.g2&&elemB b.gr (s 16)&&s 17==powB b b.gr.g (s 14)&&s 18==powB b (timB b (s 2) b.g2) (s 14) &&
 (bif s 0==1 then s 19==0&&s 20==0 else bif s 0==3 then cvwB b (s 8) (s 9) (s 10) (s 15) (s 16) (s 17) (s 18) (s 19) (s 20) else false)
def okI (k:Bnk) (i:Nat):Bool:=decide (0≤rcI k fun j=>k.I i (3+j))&&visB k.bas (k.I i)&&decide (0≤cuI k (k.I i 2))&&isI k (k.I i 2) (k.I i 1)==(i:Int)&&powB k.bas (k.I i 15) (k.X (rcI k fun j=>k.I i (3+j)).toNat)==k.I i 16
def issB (k:Bnk):Bool:=decide (k.ni≤200)&&(List.range k.ni).all (okI k)
noncomputable def okG (k:Bnk) (i:Nat):Bool:=xvB k.bas k.R k.nr (k.G i).s (k.G i).t (k.G i).leaf
def hdK (k:Bnk):Bool:=decide (0≤k.num)&&decide (k.num≤7)&&validB k.bas&&decide (0≤k.cnt)&&decide (k.cnt≤1099511627776)&&nzB k.bas k.sec&&decide (0≤k.now)&&decide (k.now≤1099511627776)
noncomputable def bnkB (k:Bnk):Bool:=hdK k&&rcsB k&&cssB k&&ledB k.nb k.B k.ne k.E&&Nat.beq k.nb (5+k.nc)&&sptB k.nu k.U&&issB k&&decide (k.ng≤200)&&(List.range k.ng).all (okG k)
end Go.Sp

namespace Go.Proofs.YtcageinnelhonaaGreatDoor
open Go.IntKind (wrap)
open Int (toNat)
open Go Go.Am Go.Sp
set_option maxRecDepth 100000
theorem badc_c (c:Int):Pure Tryz.prog gl0 368 [.int .u8 c] (.bool (badC c)):=by
 exact pz Tryz.func368 (by
  exact n_or)
theorem idxY_c (n:Nat) (f:Nat→Int) (hn:n<9223372036854775808):Pure Tryz.prog gl0 385 [bys n f,.fn (.func 368) [] []] (.int .i64 (firstI (fun i=>badC (f i)) n 0)):=by
 have hc:=fun i=>badc_c (f i)
 exact pz Tryz.func385 (by
  apply n_loop ({ x:Nat // x≤n∧(fun i=>firstI (fun i=>badC (f i)) n 0=firstI (fun i=>badC (f i)) (n - i) i) x }) [0,1,7,8] [] (fun x=>[.isl 1 n fun i x=>Zb (f i),AV.fn (Fn.func (368:FuncId)) [] [],Zi n,Zi x.1]) (fun _=>[]) (fun x=>n - x.1) (⟨0,⟨Nat.zero_le n,rfl⟩⟩)
  intro x0
  try (have q0:=x0.2;dsimp only at q0)
  apply n_bd ((x0.1:Int)<(n:Int))
  ·intro g1
   apply n_req (0≤(x0.1:Int)∧(x0.1:Int)<(n:Int))
   apply n_sc (hc (toNat (↑x0.1:Int)))
   apply n_br (badC (f (toNat (x0.1:Int))))
   ·intro g4
    try simp only [Int.toNat_natCast] at g4
    exact n_out (Ent.of_eq (congrArg _ (first_hit x0.2.2 (by omega) g4)))
   ·intro g4
    try simp only [Int.toNat_natCast] at g4
    exact n_again [] (⟨x0.1+1,by omega,first_next x0.2.2 (by omega) g4⟩) (ek3 (en (inc_ent (by omega))))
  ·intro g1
   exact n_out (Ent.of_eq (congrArg _ (first_miss x0.2.2 (by omega)))))
theorem anyY_c (n:Nat) (f:Nat→Int) (hn:n<9223372036854775808):Pure Tryz.prog gl0 367 [bys n f,.fn (.func 368) [] []] (.bool (anyI (fun i=>badC (f i)) n)):=by
 have c1:=idxY_c n f hn
 exact pz Tryz.func367 (by
  apply n_sc (c1)
  exact n_or)
theorem tlab_c (s:ByteArray) (hs:s.size≤1000):Pure Tryz.prog gl0 342 [.str s] (.bool (labB s)):=by
 have c1:=anyY_c s.size (strF s) (by omega)
 exact pz Tryz.func342 (by
  apply n_scg ((decide ((↑(ByteArray.size s):Int)≥1)&&decide ((↑(ByteArray.size s):Int)≤24))==true) (fun h0=>c1)
  exact n_out (Ent.of_eq (congrArg AV.bool lab_eq)))
theorem rlab_c (s:ByteArray) (hs:s.size≤1000):Pure Tryz.prog gl0 208 [.str s] (.bool (labB s)):=by
 exact pz Tryz.func208 (by
  apply n_br (decide ((↑(ByteArray.size s):Int)<1)||decide ((↑(ByteArray.size s):Int)>24))
  ·intro g0
   exact n_out (Ent.of_eq (congrArg AV.bool (lab_long g0).symm))
  ·intro g0
   apply n_loop ({ x:Nat // x≤ByteArray.size s∧(fun (x:Nat)=>∀ (i:Nat),i<x→(33:Int)≤strF s i∧strF s i≤126) x }) [0,4,3] [] (fun x=>[AV.str s,AV.str s,Zi x.1]) (fun _=>[]) (fun x=>ByteArray.size s - x.1) (⟨0,⟨Nat.zero_le (ByteArray.size s),fun (j:Nat) (hj:j<0)=>absurd hj (Nat.not_lt_zero j)⟩⟩)
   intro x2
   try (have q2:=x2.2;dsimp only at q2)
   apply n_bd ((x2.1:Int)<(↑(ByteArray.size s):Int))
   ·intro g3
    apply n_req (0≤(x2.1:Int)∧(x2.1:Int)<(↑(ByteArray.size s):Int))
    apply n_req ((decide ((↑(UInt8.toNat (List.getD (Array.toList (ByteArray.data s)) (toNat (x2.1:Int)) (0:UInt8))):Int)<33)==false)=true→0≤(x2.1:Int)∧(x2.1:Int)<(↑(ByteArray.size s):Int)) (fun hr=>by have hr:=(cnd_eqf_t cnd_dec_f) hr;omega)
    apply n_br (decide ((↑(UInt8.toNat (List.getD (Array.toList (ByteArray.data s)) (toNat (x2.1:Int)) (0:UInt8))):Int)<33)||decide ((↑(UInt8.toNat (List.getD (Array.toList (ByteArray.data s)) (toNat (x2.1:Int)) (0:UInt8))):Int)>126))
    ·intro g6
     try simp only [Int.toNat_natCast] at g6
     exact n_out (Ent.of_eq (congrArg AV.bool (lab_no (i:=x2.1) (by omega) g6).symm))
    ·intro g6
     try simp only [Int.toNat_natCast] at g6
     exact n_again [] (⟨x2.1+1,by omega,fun i hi=>by rcases Nat.lt_succ_iff_lt_or_eq.1 hi with hi|rfl;(· exact q2.2 i hi);(· have g7:¬strF s x2.1<33∧¬strF s x2.1>126:=g6;omega)⟩) (ek2 (en (inc_ent (by omega))))
   ·intro g3
    exact n_out (Ent.of_eq (congrArg AV.bool (lab_yes g0 (fun i hi=>q2.2 i (by omega))).symm)))
theorem tnew_c (s:ByteArray) (h:labB s=true):Pure Tryz.prog gl0 297 [.str s] (.tup [.agg (u8c (newF s)++[.int .i64 0]),.int .i64 0]):=by
 have v:=lab_V h
 have v1:=v.hi
 have c1:=tlab_c s (by omega)
 rw [h] at c1
 have c2:=tagged_c "specie/transcript".toUTF8 (by decide) (by decide) (strF s) s.size (by omega) (strF_by' s)
 exact pz Tryz.func297 (by
  apply n_sc (c1)
  apply n_ff
  apply n_sc (c2)
  exact n_or)
theorem rnew_c (s:ByteArray) (h:labB s=true):Pure Tryz.prog gl0 269 [.str s] (.agg (u8c (newF s)++[.int .i64 0])):=by
 have v:=lab_V h
 have v1:=v.hi
 have c2:=rtagged_c "specie/transcript".toUTF8 (by decide) (strF s) s.size (by omega) (strF_by' s)
 exact pz Tryz.func269 (by
  apply n_sc (c2)
  exact n_or)
theorem euclid_c (a m:Int) (h0:0≤a) (h1:a<m) (hm:m<2305843009213693952):Pure Tryz.prog gl0 316 [.int .i64 a,.int .i64 m] (.tup [.int .i64 (Int.gcd a m:Nat),.int .i64 (egX a m)]):=by
 exact pz Tryz.func316 (by
  apply n_loop ({ x:Int×Int×Int×Int // (fun (s:Int×Int×Int×Int)=>EgW a m s) x }) [1,4,0,5,6] [] (fun x=>[Zi m,Zi (Prod.fst (x.1)),Zi (Prod.fst (Prod.snd (x.1))),Zi (Prod.fst (Prod.snd (Prod.snd (x.1)))),Zi (Prod.snd (Prod.snd (Prod.snd (x.1))))]) (fun _=>[]) (fun x=>(fun (s:Int×Int×Int×Int)=>toNat (Prod.fst (Prod.snd s))) (x.1)) (⟨(m,a,(0:Int),(1:Int)),EgW.start h0 h1⟩)
  intro x0
  try (have q0:=x0.2;dsimp only at q0)
  have w:=fun h=>x0.2.1.w h hm
  apply n_br ((Prod.snd (x0.1)).1 != 0)
  ·intro g1
   apply n_req ((Prod.snd (x0.1)).1≠(0:Int))
   exact n_againx [] (⟨(x0.1.2.1,x0.1.1%x0.1.2.1,x0.1.2.2.2,x0.1.2.2.1 - x0.1.1 / x0.1.2.1*x0.1.2.2.2),EgW.step x0.2 g1⟩) [Zi m,Zi (Prod.snd (x0.1)).1,Zi (wrap .i64 ((x0.1).1 - wrap .i64 (wrap .i64 (Int.tdiv (x0.1).1 (Prod.snd (x0.1)).1)*(Prod.snd (x0.1)).1))),Zi (Prod.snd (Prod.snd (x0.1))).2,Zi (wrap .i64 ((Prod.snd (Prod.snd (x0.1))).1 - wrap .i64 (wrap .i64 (Int.tdiv (x0.1).1 (Prod.snd (x0.1)).1)*(Prod.snd (Prod.snd (x0.1))).2)))] [] (⟨.refl _,.refl _,Ent.of_eq (congrArg _ (w g1).1),.refl _,Ent.of_eq (congrArg _ (w g1).2.1),trivial⟩) (trivial) (by have h:=w g1;show toNat (x0.1.1%x0.1.2.1)<toNat x0.1.2.1;omega)
  ·intro g1
   apply n_bd ((Prod.snd (Prod.snd (x0.1))).1<0)
   ·intro g4
    apply n_req (m≠(0:Int))
    exact n_outx (.tup [Zi (x0.1).1,Zi (Int.tmod (wrap .i64 ((Prod.snd (Prod.snd (x0.1))).1+m)) m)]) (by have o:=EgW.out x0.2 (by omega) hm;exact Ent.tup ⟨Ent.of_eq (congrArg _ o.1),Ent.of_eq (congrArg _ (o.2.1 g4)),trivial⟩)
   ·intro g4
    apply n_req (m≠(0:Int))
    exact n_outx (.tup [Zi (x0.1).1,Zi (Int.tmod (Prod.snd (Prod.snd (x0.1))).1 m)]) (by have o:=EgW.out x0.2 (by omega) hm;exact Ent.tup ⟨Ent.of_eq (congrArg _ o.1),Ent.of_eq (congrArg _ (o.2.2.1 (by omega))),trivial⟩))
theorem size_c (a:Int) (h0:0≤a) (h1:a<2305843009213693952):Pure Tryz.prog gl0 278 [.int .i64 a] (.int .u64 a):=by
 exact pz Tryz.func278 (by
  apply n_bd (a<0)
  ·intro g0
   exact n_no (by omega)
  ·intro g0
   exact n_out (Ent.of_eq (congrArg _ (wu64 (by omega) (by omega)))))
theorem rgcd_c (a b:Int) (h0:0≤a) (h1:a<2305843009213693952) (h2:0≤b) (h3:b<2305843009213693952):Pure Tryz.prog gl0 227 [.int .i64 a,.int .i64 b] (.int .i64 (Int.gcd a b:Nat)):=by
 exact pz Tryz.func227 (by
  apply n_sc (size_c (a) (by assumption) (by assumption))
  apply n_sc (size_c (b) (by assumption) (by assumption))
  apply n_loop ({ x:Int×Int // (fun (s:Int×Int)=>((0:Int)≤Prod.fst s∧Prod.fst s<2305843009213693952∧(0:Int)≤Prod.snd s∧Prod.snd s<2305843009213693952)∧Int.gcd (Prod.fst s) (Prod.snd s)=Int.gcd a b) x }) [5,6] [] (fun x=>[Zu (Prod.fst (x.1)),Zu (Prod.snd (x.1))]) (fun _=>[]) (fun x=>(fun (s:Int×Int)=>toNat (Prod.snd s)) (x.1)) (⟨(a,b),⟨⟨h0,⟨h1,⟨h2,h3⟩⟩⟩,rfl⟩⟩)
  intro x2
  try (have q2:=x2.2;dsimp only at q2)
  apply n_bd ((x2.1).2>0)
  ·intro g3
   apply n_req ((x2.1).2≠(0:Int))
   exact n_againx [] (⟨(x2.1.2,x2.1.1%x2.1.2),⟨⟨by omega,by omega,Int.emod_nonneg _ (by omega),Int.lt_trans (Int.emod_lt_of_pos _ (by omega)) (by omega:x2.1.2<2305843009213693952)⟩,(gcd_next _ _).trans q2.2⟩⟩) [Zu (x2.1).2,Zu (Int.tmod (x2.1).1 (x2.1).2)] [] (⟨.refl _,Ent.of_eq (congrArg _ (tmod_nn (by omega))),trivial⟩) (trivial) (by have:=Int.emod_lt_of_pos x2.1.1 (show 0<x2.1.2 by omega);have:=Int.emod_nonneg x2.1.1 (show x2.1.2≠0 by omega);show toNat (x2.1.1%x2.1.2)<toNat x2.1.2;omega)
  ·intro g3
   apply n_br ((x2.1).1==9223372036854775808)
   ·intro g6
    exact n_no (by omega)
   ·intro g6
    exact n_outx (Zi (wrap .i64 (x2.1).1)) (Ent.of_eq (congrArg _ (by rw [wI (by omega) (by omega)];exact gcd_last (by omega) (by omega) q2.2))))
theorem rinv_c (a m:Int) (k0:0≤a) (k1:a<m) (hm:m<2305843009213693952):Pure Tryz.prog gl0 160 [.int .i64 a,.int .i64 m] (.tup [.int .i64 (invF a m),.bool (decide (Int.gcd a m=1))]):=by
 exact pz Tryz.func160 (by
  apply n_sc (rgcd_c (a) (m) (by omega) (by omega) (by omega) (by omega))
  apply n_br ((↑(Int.gcd a m):Int) != 1)
  ·intro g1
   exact n_outx (.tup [Zi 0,.bool false]) (Ent.of_eq (by rw [invF_none (by omega),decide_eq_false (by omega)]))
  ·intro g1
   apply n_req (m≠(0:Int))
   apply n_loopx ({ x:Int×Int×Int×Int // (fun (s:Int×Int×Int×Int)=>RgI a m (Prod.fst s) (Prod.fst (Prod.snd s)) (Prod.fst (Prod.snd (Prod.snd s))) (Prod.snd (Prod.snd (Prod.snd s)))) x }) [1,6,7,8,9] [] (fun x=>[Zi m,Zi (Prod.fst (x.1)),Zi (Prod.fst (Prod.snd (x.1))),Zi (Prod.fst (Prod.snd (Prod.snd (x.1)))),Zi (Prod.snd (Prod.snd (Prod.snd (x.1))))]) (fun _=>[]) (fun x=>(fun (s:Int×Int×Int×Int)=>toNat (Prod.fst (Prod.snd s))) (x.1)) (⟨(a,m,(1:Int)%m,(0:Int)),RgI.start k0 k1⟩) [Zi m,Zi a,Zi m,Zi (Int.tmod (1:Int) m),Zi 0] [] (⟨.refl _,.refl _,.refl _,Ent.of_eq (congrArg _ (tmod_nn (by decide))),.refl _,trivial⟩) (trivial)
   intro x4
   try (have q4:=x4.2;dsimp only at q4)
   have w:=fun h=>x4.2.w h hm;have b5:=x4.2.x0;have b6:=x4.2.x1;have b7:=x4.2.y0;have b8:=x4.2.y1;have b1:=x4.2.u0;have b2:=x4.2.u1;have b3:=x4.2.v0;have b4:=x4.2.v1
   apply n_br ((Prod.snd (x4.1)).1 != 0)
   ·intro g5
    apply n_req ((Prod.snd (x4.1)).1≠(0:Int))
    apply n_sc (rreduce_c (wrap .i64 (Int.tdiv (x4.1).1 (Prod.snd (x4.1)).1)) (m) (by omega) (by omega))
    apply n_sc (rmul_c (wrap .i64 (Int.tdiv (x4.1).1 (Prod.snd (x4.1)).1)%m) ((Prod.snd (Prod.snd (x4.1))).2) (m) (by (have h:=w g5;rw [h.1];omega)) (by (have h:=w g5;rw [h.1];omega)) (by omega) (by omega) (by omega))
    apply n_sc (rreduce_c (wrap .i64 ((Prod.snd (Prod.snd (x4.1))).1 - wrap .i64 (Int.tdiv (x4.1).1 (Prod.snd (x4.1)).1)%m*(Prod.snd (Prod.snd (x4.1))).2%m)) (m) (by omega) (by omega))
    exact n_againx [] (⟨(x4.1.2.1,x4.1.1%x4.1.2.1,x4.1.2.2.2,(x4.1.2.2.1 - x4.1.1 / x4.1.2.1%m*x4.1.2.2.2%m)%m),(x4.2.nxt g5).1⟩) [Zi m,Zi (Prod.snd (x4.1)).1,Zi (wrap .i64 ((x4.1).1 - wrap .i64 (wrap .i64 (Int.tdiv (x4.1).1 (Prod.snd (x4.1)).1)*(Prod.snd (x4.1)).1))),Zi (Prod.snd (Prod.snd (x4.1))).2,Zi (wrap .i64 ((Prod.snd (Prod.snd (x4.1))).1 - wrap .i64 (Int.tdiv (x4.1).1 (Prod.snd (x4.1)).1)%m*(Prod.snd (Prod.snd (x4.1))).2%m)%m)] [] (⟨.refl _,.refl _,Ent.of_eq (congrArg _ (w g5).2.1),.refl _,Ent.of_eq (congrArg _ (by rw [(w g5).1,(w g5).2.2.2.2.2.2.2])),trivial⟩) (trivial) (by have h:=w g5;show toNat (x4.1.1%x4.1.2.1)<toNat x4.1.2.1;omega)
   ·intro g5
    exact n_outx (.tup [Zi (Prod.snd (Prod.snd (x4.1))).1,.bool true]) (Ent.tup ⟨Ent.of_eq (congrArg _ (by have h:=q4;rw [show x4.1.2.1=0 by omega] at h;exact h.fin (by omega))),Ent.of_eq (congrArg AV.bool (decide_eq_true (by omega)).symm),trivial⟩))
theorem winv_c (a m:Int) (k0:0≤a) (k1:a<m) (hm:m<2305843009213693952):Pure Tryz.prog gl0 261 [.int .i64 a,.int .i64 m] (.tup [.int .i64 (invF a m),.int .i64 (if Int.gcd a m=1 then 0 else 10)]):=by
 exact pz Tryz.func261 (by
  apply n_sc (check_c (a) (a) (m))
  apply n_br (chkI a a m != 0)
  ·intro g1
   exact n_no (by exact g1 (chk_zero k0 k1 hm))
  ·intro g1
   apply n_sc (euclid_c (a) (m) (by assumption) (by assumption) (by assumption))
   apply n_br ((↑(Int.gcd a m):Int) != 1)
   ·intro g4
    exact n_outx (.tup [Zi 0,Zi 10]) (Ent.of_eq (by rw [invF_none (by omega),if_neg (by omega)]))
   ·intro g4
    exact n_outx (.tup [Zi (egX a m),Zi 0]) (Ent.of_eq (by rw [(egX_inv k0 k1).2 (by omega),if_pos (by omega)])))
theorem xspan_c (s:Spend):Pure Tryz.prog gl0 199 [s.av] (.tup [.int .i64 (bif okS s then spanA s.depth s.level s.index else 0),.int .i64 (bif okS s then spanZ s.depth s.level s.index else 0),.bool (okS s)]):=by
 exact pz Tryz.func199 (by
  apply n_sc (span_c (s.4) (s.11) (s.12))
  apply n_br0 (spanE s.4 s.11 s.12 != 0||(s.16:Int) != wrap .i64 (spanZ s.4 s.11 s.12 - spanA s.4 s.11 s.12)||decide (s.14<0)||decide (s.14>1099511627776)||decide (s.15<0)||decide (s.15>1073741824))
  ·intro h1
   exact n_outx (.tup [Zi 0,Zi 0,.bool false]) (Ent.of_eq (by have e:okS s=false:=congrArg not h1;grind))
  ·intro h1
   exact n_outx (.tup [Zi (spanA s.4 s.11 s.12),Zi (spanZ s.4 s.11 s.12),.bool true]) (Ent.of_eq (by have e:okS s=true:=congrArg not h1;grind)))
theorem formed1_c (s:Spend):Pure Tryz.prog gl0 198 [s.av] (.bool (!okS s)):=by
 exact pz Tryz.func198 (by
  apply n_sc ((xspan_c s))
  refine n_old (.out (.bool !okS s) [] (.bool !okS s) []) ?_
  simp [k_out,Ent.refl])
theorem indexS_c (S:Nat→Spend) (n:Nat) (hn:n<9223372036854775808):Pure Tryz.prog gl0 246 [.isl 80 n (fun i j=>atL (S i).cells j),.fn (.func 198) [] []] (.int .i64 (firstI (fun i => !okS (S i)) n 0)):=by
 exact pz Tryz.func246 (by
  apply n_loopx (Sp.Sub fun i=>firstI (fun i => !okS (S i)) n 0=firstI (fun i => !okS (S i)) (n - i) i) [0,1,6,7,8] [] (fun x=>[.isl 80 n fun i j=>atL (Spend.cells (S i)) j,AV.fn (Fn.func (198:FuncId)) [] [],.isl 80 n fun i j=>atL (Spend.cells (S i)) j,Zi n,Zi x.1]) (fun _=>[]) (fun i=>n - i.1) (⟨0,rfl⟩) [.isl 80 n fun i j=>atL (Spend.cells (S i)) j,AV.fn (Fn.func (198:FuncId)) [] [],.isl 80 n fun i j=>atL (Spend.cells (S i)) j,Zi n,Zi 0] [] (by repeat' (first|exact trivial|(first|exact Ent.refl _|exact inc_ent (by omega)|exact Ent.nil rfl|exact Ent.of_eq (congrArg (AV.osl _ _ _) (by rfl))|exact Ent.of_eq (congrArg (AV.int _) (by rfl)))|refine And.intro ?_ ?_)) (trivial)
  intro x0
  try (have q0:=x0.2;dsimp only at q0)
  apply n_bd ((x0.1:Int)<(n:Int))
  ·intro _
   apply n_req (0≤(x0.1:Int)∧(x0.1:Int)<(n:Int)) (by grind)
   apply n_sc ((formed1_c (S (toNat (↑(x0.1):Int)))))
   apply n_br (!okS (S (toNat (x0.1:Int))))
   ·intro g4
    try simp only [Int.toNat_natCast] at g4
    exact n_out (Ent.of_eq (congrArg _ (first_hit x0.2 (show x0.1<n by grind) (by grind))))
   ·intro g4
    try simp only [Int.toNat_natCast] at g4
    exact n_again [] (⟨x0.1+1,first_next x0.2 (show x0.1<n by grind) (by grind)⟩) (ek4 (en (inc_ent (by grind))))
  ·intro _
   exact n_out (Ent.of_eq (congrArg _ (first_miss x0.2 (by grind)))))
theorem find1_c (l0 l1 l2 b:Int):Pure Tryz.prog gl0 315 [.agg [.int .i64 l0,.int .i64 l1,.int .i64 l2],.ipt 1 (atL [.int .i64 b])] (.bool (l0==b)):=by
 exact pz Tryz.func315 (by
  refine n_old (.out (.bool (l0==b)) [] (.bool (l0==b)) []) ?_
  simp [k_out,Ent.refl])
theorem indexL_c (f:Nat→Nat→Int) (n:Nat) (b:Int) (hn:n<9223372036854775808):Pure Tryz.prog gl0 242 [lvs n f,.fn (.func 315) [] [.ipt 1 (atL [.int .i64 b])]] (.int .i64 (firstI (fun i=>f i 0==b) n 0)):=by
 exact pz Tryz.func242 (by
  apply n_loopx (Sp.Sub fun i=>firstI (fun i=>f i 0==b) n 0=firstI (fun i=>f i 0==b) (n - i) i) [0,1,6,7,8] [] (fun x=>[lvs n f,AV.fn (Fn.func (315:FuncId)) [] [AV.ipt 1 (atL [Zi b])],lvs n f,Zi n,Zi x.1]) (fun _=>[]) (fun i=>n - i.1) (⟨0,rfl⟩) [.isl 3 n fun i j=>Zi (f i j),AV.fn (Fn.func (315:FuncId)) [] [AV.ipt 1 (atL [Zi b])],.isl 3 n fun i j=>Zi (f i j),Zi n,Zi 0] [] (by repeat' (first|exact trivial|(first|exact Ent.refl _|exact inc_ent (by omega)|exact Ent.nil rfl|exact Ent.of_eq (congrArg (AV.osl _ _ _) (by rfl))|exact Ent.of_eq (congrArg (AV.int _) (by rfl)))|refine And.intro ?_ ?_)) (trivial)
  intro x0
  try (have q0:=x0.2;dsimp only at q0)
  apply n_bd ((x0.1:Int)<(n:Int))
  ·intro _
   apply n_req (0≤(x0.1:Int)∧(x0.1:Int)<(n:Int)) (by grind)
   apply n_sc (find1_c (f (toNat (↑x0.1:Int)) (0)) (f (toNat (↑x0.1:Int)) (1)) (f (toNat (↑x0.1:Int)) (2)) (b))
   apply n_br (f (toNat (x0.1:Int)) 0==b)
   ·intro g4
    try simp only [Int.toNat_natCast] at g4
    exact n_out (Ent.of_eq (congrArg _ (first_hit x0.2 (show x0.1<n by grind) (by grind))))
   ·intro g4
    try simp only [Int.toNat_natCast] at g4
    exact n_again [] (⟨x0.1+1,first_next x0.2 (show x0.1<n by grind) (by grind)⟩) (ek4 (en (inc_ent (by grind))))
  ·intro _
   exact n_out (Ent.of_eq (congrArg _ (first_miss x0.2 (by grind)))))
theorem find_c (s:Spend) (b:Int) (hn:s.nl<9223372036854775808):Pure Tryz.prog gl0 258 [s.av,.int .i64 b] (.int .i64 (firstI (fun i=>s.lf i 0==b) s.nl 0)):=by
 exact pz Tryz.func258 (by
  refine n_old (.sc true 242 [.isl 3 s.16 fun i j=>Zi (s.17 i j),AV.fn (Fn.func 315) [] [AV.ipt 1 fun k=>atL [Zi b] k]] (Zi (firstI (fun i=>s.17 i 0==b) s.16 0)) (.out (Zi (firstI (fun i=>s.17 i 0==b) s.16 0)) [] (Zi (firstI (fun i=>Spend.lf s i 0==b) (Spend.nl s) 0)) [])) ?_
  simp_all [k_sc,indexL_c,k_out,Ent.refl])
theorem containsS_c (S:Nat→Spend) (n:Nat) (hn:n<9223372036854775808):Pure Tryz.prog gl0 197 [.isl 80 n (fun i j=>atL (S i).cells j),.fn (.func 198) [] []] (.bool (decide (firstI (fun i => !okS (S i)) n 0≥0))):=by
 refine pure_sk (own:=ow0) Tryz.func197 (by rfl) mixed (by rfl)
  (let z0:=(fun i => !okS (S i));let y0:AV:=(.bool (decide (firstI z0 n 0≥0)));(.sc true 246 [.isl 80 n fun i j=>atL (Spend.cells (S i)) j,AV.fn (Fn.func (198:FuncId)) [] []] (Zi (firstI z0 n 0)) (.out y0 [] y0 [])))
  (by rfl) ?_
 simp_all [k_sc,indexS_c,k_out,Ent.refl]
theorem formed_c (S:Nat→Spend) (n:Nat) (hn:n<9223372036854775808):Pure Tryz.prog gl0 124 [.isl 80 n (fun i j=>atL (S i).cells j)] (.bool (!decide (firstI (fun i => !okS (S i)) n 0≥0))):=by
 refine pure_sk (own:=ow0) Tryz.func124 (by rfl) mixed (by rfl)
  (let z0:=(firstI (fun i => !okS (S i)) n 0≥0);let y0:AV:=(.bool !decide z0);(.sc true 197 [.isl 80 n fun i j=>atL (Spend.cells (S i)) j,AV.fn (Fn.func 198) [] []] (.bool (decide z0)) (.out y0 [] y0 [])))
  (by rfl) ?_
 simp_all [k_sc,containsS_c,k_out,Ent.refl]
theorem rformed_c (s:Spend):Pure Tryz.prog gl0 155 [s.av] (.bool (okS s)):=by
 exact pz Tryz.func155 (by
  apply n_scg ((decide (s.4<0)||decide (s.4>5))==false) (fun h0=>rnode_c (s.4) (s.11) (s.12))
  apply n_scg ((decide (s.4<0)||decide (s.4>5) || !nodeB s.4 s.11 s.12)==false) (fun h1=>(rctx_c { payee:=Spend.payee s,time:=Spend.time s,number:=Spend.number s }))
  apply n_br0 (decide (s.4<0)||decide (s.4>5) || !nodeB s.4 s.11 s.12 || !ctxB s.14 s.15)
  ·intro h2
   refine n_old (.out (.bool false) [] (.bool (okS s)) []) ?_
   grind [k_out,Ent.of_eq,okS_no]
  ·intro h2
   apply n_sc (rspan_c (s.4) (s.11) (s.12) ((okS_yes h2).1))
   refine n_old (.out (.bool ((s.16:Int)==wrap .i64 (spanZ s.4 s.11 s.12 - spanA s.4 s.11 s.12))) [] (.bool (okS s)) []) ?_
   simp_all [k_out,Ent.of_eq,okS_yes])
theorem shared_c (a b:Spend) (hn:a.nl≤1000) (hb:b.nl≤1000):Pure Tryz.prog gl0 257 [a.av,b.av] (il .i64 (sharedL a b)):=by
 exact pz Tryz.func257 (by
  apply n_br (a.5 != b.5)
  ·intro _
   refine n_old (.out (.nsl) [] (il IntKind.i64 (sharedL a b)) []) ?_
   simp_all [k_out,Ent.nilL,shared_none]
  ·intro g0
   apply n_sc ((xspan_c a))
   apply n_loopx (Sp.Sub fun x=>x≤Spend.nl a) [3,5,8,25,26,27] [8,449] (fun x=>[.own 0 80 0 0 80,Zi (fromS a),.osl 1 1 0 (List.length (sharedN a b (x.1))),lvs (Spend.nl a) (Spend.lf a),Zi (↑(Spend.nl a):Int),Zi x.1]) (fun x=>[some ⟨80,1,true,.lst [Spend.cells b]⟩,ilO IntKind.i64 (sharedN a b (x.1))]) (fun x=>Spend.nl a - x.1) (⟨0,Nat.zero_le (Spend.nl a)⟩) [.own 0 80 0 0 80,Zi (bif okS a then spanA a.4 a.11 a.12 else (0:Int)),.nsl,.isl 3 a.16 fun i j=>Zi (a.17 i j),Zi a.16,Zi 0] [some ⟨80,1,true,.lst [Spend.cells b]⟩,some ⟨1,0,true,.ty (999999999:TypeId) (.lst [])⟩] (by repeat' (first|exact trivial|(first|exact Ent.refl _|exact inc_ent (by omega)|exact Ent.nil rfl|exact Ent.of_eq (congrArg (AV.osl _ _ _) (by rfl))|exact Ent.of_eq (congrArg (AV.int _) (by omega)))|refine And.intro ?_ ?_)) (by repeat' (first|exact trivial|(first|exact ObEnt.refl _|exact ObEnt.junk|exact ObEnt.zero|exact ObEnt.push rfl rfl|exact ObEnt.pushRow rfl|exact ObEnt.len (by omega)|exact ObEnt.row (by repeat' (first|exact trivial|(first|exact Ent.refl _|exact inc_ent (by omega)|exact Ent.nil rfl|exact Ent.of_eq (congrArg (AV.osl _ _ _) (by rfl))|exact Ent.of_eq (congrArg (AV.int _) (by omega)))|refine And.intro ?_ ?_)))|refine And.intro ?_ ?_))
   intro x3
   try (have q3:=x3.2;dsimp only at q3)
   apply n_bd ((x3.1:Int)<(a.16:Int))
   ·intro g4
    apply n_req (0≤(x3.1:Int)∧(x3.1:Int)<(a.16:Int))
    apply n_sc ((find_c b) (a.17 (toNat (↑x3.1:Int)) (0)) (by omega))
    apply n_br0 (decide (firstI (fun i=>b.17 i 0==a.17 (toNat (x3.1:Int)) 0) b.16 0≥0))
    ·intro h7
     have g7:=cnd_dec_t h7
     try simp only [Int.toNat_natCast] at g7
     apply n_req ((List.length (sharedN a b (x3.1))+1)*8≤140737488355328) (by grind [sharedN_len])
     exact n_againx [0,138] (⟨x3.1+1,by omega⟩) [.own 0 80 0 0 80,Zi (fromS a),.osl 1 1 0 (List.length (sharedN a b (x3.1))+1),.isl 3 a.16 fun i j=>Zi (a.17 i j),Zi a.16,Zi (wrap .i64 ((x3.1:Int)+1))] [some ⟨80,1,true,.lst [Spend.cells b]⟩,some ⟨1,List.length (sharedN a b (x3.1))+1,true,.fn fun i j=>Zi (bif Nat.blt i (List.length (sharedN a b (x3.1))) then List.getD (sharedN a b (x3.1)) i (0:Int) else intOfAV (atL [Zi (wrap .i64 (fromS a+(↑(x3.1):Int)))] j))⟩] (⟨Ent.refl _,Ent.refl _,Ent.of_eq (congrArg (AV.osl 1 1 0) (sharedN_lt (x:=x3.1) h7)),Ent.refl _,Ent.refl _,inc_ent (by omega),trivial⟩) (⟨.refl _,.pushL (sharedN_w (x:=x3.1) (by omega) h7),trivial⟩)
    ·intro h7
     have g7:=cnd_dec_f h7
     try simp only [Int.toNat_natCast] at g7
     exact n_againx [0,1] (⟨x3.1+1,by omega⟩) [.own 0 80 0 0 80,Zi (fromS a),.osl 1 1 0 (List.length (sharedN a b (x3.1))),.isl 3 a.16 fun i j=>Zi (a.17 i j),Zi a.16,Zi (wrap .i64 ((x3.1:Int)+1))] [some ⟨80,1,true,.lst [Spend.cells b]⟩,some ⟨1,List.length (sharedN a b (x3.1)),true,.fn fun i j=>Zi (List.getD (sharedN a b (x3.1)) i (0:Int))⟩] (⟨Ent.refl _,Ent.refl _,Ent.of_eq (congrArg (AV.osl 1 1 0) (sharedN_lf (x:=x3.1) h7)),Ent.refl _,Ent.refl _,inc_ent (by omega),trivial⟩) (⟨.refl _,shared_same (x:=x3.1) h7,trivial⟩)
   ·intro _
    refine n_old (.out (.isl 1 (List.length (sharedN a b (x3.1))) fun r k=>Zi (List.getD (sharedN a b (x3.1)) (r+0) (0:Int))) [] (il IntKind.i64 (sharedL a b)) []) ?_
    grind [cnd_dec_f,k_out,Ent.ilL,shared_end,of_decide_eq_false])
theorem formed2_c (a b:Spend):Pure Tryz.prog gl0 124 [.isl 80 2 fun r k=>atL (List.getD [a.cells,b.cells] r []) k] (.bool (okS a&&okS b)):=by
 refine Pure.ent (Pure.via (formed_c (fun i=>bif Nat.beq i 0 then a else b) 2 (by omega)) ?_) (Ent.of_eq (congrArg _ (formed2_m a b)))
 exact ⟨Ent.two (g:=fun i=>Spend.cells (bif Nat.beq i 0 then a else b)) rfl rfl,trivial⟩
theorem chall_c (b:Bas) (c:Coin) (l i:Int) (x:Cxt) (hw:b.gr.W) (hr:byB c.root 32) (hp:byB x.payee 32):Pure Tryz.prog gl0 260 [b.av,c.av,.agg [.int .i64 l,.int .i64 i],x.av] (.tup [.int .i64 (chalK b c l i x),.int .i64 (chalE b c l i x)]):=by
 have hc:=fun h h'=>chal_c b c l i x hr hp h h'
 have hx:=context_c x
 have hv:=bvalid_c b hw
 exact pz Tryz.func260 (by
  apply n_sc (hv)
  apply n_br (!validB b)
  ·intro g1
   refine n_old (.out (.tup [Zi 0,Zi 1]) [] (.tup [Zi (chalK b c l i x),Zi (chalE b c l i x)]) []) ?_
   grind [k_out,Ent.of_eq,chal_1]
  ·intro g1
   apply n_sc (node_c (c.4) (l) (i))
   apply n_scg ((!nodeB c.4 l i)==false) (fun h4=>hx)
   apply n_br (!nodeB c.4 l i || !ctxB x.2 x.3)
   ·intro g5
    refine n_old (.out (.tup [Zi 0,Zi 2]) [] (.tup [Zi (chalK b c l i x),Zi (chalE b c l i x)]) []) ?_
    grind [k_out,Ent.of_eq,chal_2]
   ·intro g5
    apply n_sc (hc ((validB_q g1).1) ((validB_q g1).2))
    refine n_old (.out (.tup [Zi (chalN (Bas.gr b).2 c l i x),Zi 0]) [] (.tup [Zi (chalK b c l i x),Zi (chalE b c l i x)]) []) ?_
    grind [k_out,Ent.of_eq,chal_3])
theorem indexN_c (l:List Int) (v:Int) (hn:l.length<9223372036854775808):Pure Tryz.prog gl0 310 [il .i64 l,.int .i64 v] (.int .i64 (firstI (fun i=>l.getD i 0==v) l.length 0)):=by
 exact pz Tryz.func310 (by
  apply n_loop ({ x:Nat // x≤List.length l∧(fun i=>firstI (fun i=>List.getD l i (0:Int)==v) (List.length l) 0=firstI (fun i=>List.getD l i (0:Int)==v) (List.length l - i) i) x }) [0,1,7,8] [] (fun x=>[.isl 1 (List.length l) fun i x=>Zi (List.getD l i (0:Int)),Zi v,Zi (↑(List.length l):Int),Zi x.1]) (fun _=>[]) (fun x=>List.length l - x.1) (⟨0,⟨Nat.zero_le (List.length l),rfl⟩⟩)
  intro x0
  try (have q0:=x0.2;dsimp only at q0)
  apply n_bd ((x0.1:Int)<(↑(List.length l):Int))
  ·intro g1
   apply n_req (0≤(x0.1:Int)∧(x0.1:Int)<(↑(List.length l):Int))
   apply n_br (v==List.getD l (toNat (x0.1:Int)) (0:Int))
   ·intro g3
    try simp only [Int.toNat_natCast] at g3
    exact n_out (Ent.of_eq (congrArg _ (first_hit x0.2.2 (by omega) (by grind))))
   ·intro g3
    try simp only [Int.toNat_natCast] at g3
    exact n_again [] (⟨x0.1+1,by omega,first_next x0.2.2 (by omega) (by grind)⟩) (ek3 (en (inc_ent (by omega))))
  ·intro g1
   exact n_out (Ent.of_eq (congrArg _ (first_miss x0.2.2 (by omega)))))
theorem containsN_c (l:List Int) (v:Int) (hn:l.length<9223372036854775808):Pure Tryz.prog gl0 253 [il .i64 l,.int .i64 v] (.bool (decide (v∈l))):=by
 exact pz Tryz.func253 (by
  apply n_sc (indexN_c (l) (v) (by omega))
  exact n_out (Ent.of_eq (congrArg _ first_mem)))
theorem xscalar_c (b:Bas) (x:Int):Pure Tryz.prog gl0 259 [b.av,.int .i64 x] (.bool (scB b x)):=by
 exact pz Tryz.func259 (by
  exact n_or)
theorem r33scalar_c (b:Bas) (x:Int):Pure Tryz.prog gl0 158 [b.gr.av,.int .i64 x] (.bool (scB b x)):=by
 exact pz Tryz.func158 (by
  exact n_or)
theorem xspan_f (s:Spend):Pure Tryz.prog gl0 199 [s.av] (.tup [.int .i64 (fromS s),.int .i64 (toS s),.bool (okS s)]):=xspan_c s
theorem secret_c (b:Bas) (s t:Spend) (leaf:Int) (hw:b.gr.W) (hs:s.nl≤1000) (ht:t.nl≤1000) (bs:s.By) (bt:t.By):Pure Tryz.prog gl0 202 [b.av,s.av,t.av,.int .i64 leaf] (.tup [.int .i64 (secR b s t leaf).1,.int .i64 (secR b s t leaf).2]):=by
 have c1:=bvalid_c b hw
 have c2:=formed2_c s t
 have c3:=chall_c b s.coin s.level s.index s.cxt hw bs.root bs.payee
 have c4:=chall_c b t.coin t.level t.index t.cxt hw bt.root bt.payee
 have c5:=xspan_f s
 have c6:=shared_c s t hs ht
 have c7:=fun v h=>containsN_c (sharedL s t) v h
 have c8:=find_c t
 have c9:=xscalar_c b
 have sl:=sharedL_len s t
 have L:=fun h h'=>leaf_w (s:=s) (leaf:=leaf) h h'
 have hq:=fun h=>validB_q (b:=b) h
 have k1:=fun h h'=>chS_of (b:=b) (s:=s) h h'
 have k2:=fun h h'=>chS_of (b:=b) (s:=t) h h'
 exact pz Tryz.func202 (by
  apply n_sc (c1)
  apply n_scg ((!validB b)==false) (fun h1=>c2)
  apply n_br (!validB b || !(okS s&&okS t))
  ·intro g2
   refine n_old (.out (.tup [Zi 0,Zi 1]) [] (.tup [Zi (Prod.fst (secR b s t leaf)),Zi (Prod.snd (secR b s t leaf))]) []) ?_
   grind [k_out,Ent.of_eq,sec_1]
  ·intro g2
   apply n_sc (c5)
   apply n_br (decide (leaf<fromS s)||decide (leaf≥toS s))
   ·intro g5
    refine n_old (.out (.tup [Zi 0,Zi 2]) [] (.tup [Zi (Prod.fst (secR b s t leaf)),Zi (Prod.snd (secR b s t leaf))]) []) ?_
    grind [k_out,Ent.of_eq,sec_2]
   ·intro g5
    apply n_dc (c6)
    apply n_sc (c7 (leaf) (by omega))
    apply n_br (!decide (leaf∈sharedL s t))
    ·intro g9
     refine n_old (.out (.tup [Zi 0,Zi 7]) [] (.tup [Zi (Prod.fst (secR b s t leaf)),Zi (Prod.snd (secR b s t leaf))]) []) ?_
     grind [k_out,Ent.of_eq,sec_3]
    ·intro g9
     apply n_req ((0:Int)≤wrap .i64 (leaf - fromS s)∧wrap .i64 (leaf - fromS s)<(s.16:Int)) (⟨(L g2.2.1 (by omega)).1,(L g2.2.1 (by omega)).2.1⟩)
     apply n_sc (c8 (s.17 (toNat (wrap .i64 (leaf - fromS s))) (0)) (by omega))
     apply n_req ((0:Int)≤firstI (fun i=>t.17 i 0==s.17 (toNat (wrap .i64 (leaf - fromS s))) 0) t.16 0∧firstI (fun i=>t.17 i 0==s.17 (toNat (wrap .i64 (leaf - fromS s))) 0) t.16 0<(t.16:Int)) (by simp_all [mate_lt,shared_has])
     apply n_sc (c9 (s.17 (toNat (wrap .i64 (leaf - fromS s))) (1)))
     apply n_scg ((!scB b (s.17 (toNat (wrap .i64 (leaf - fromS s))) 1))==false) (fun h15=>c9 (s.17 (toNat (wrap .i64 (leaf - fromS s))) (2)))
     apply n_scg ((!scB b (s.17 (toNat (wrap .i64 (leaf - fromS s))) 1) || !scB b (s.17 (toNat (wrap .i64 (leaf - fromS s))) 2))==false) (fun h16=>c9 (t.17 (toNat (firstI (fun (i:Nat)=>t.17 i (0)==s.17 (toNat (wrap .i64 (leaf - fromS s))) (0)) t.16 (0))) (1)))
     apply n_scg ((!scB b (s.17 (toNat (wrap .i64 (leaf - fromS s))) 1) || !scB b (s.17 (toNat (wrap .i64 (leaf - fromS s))) 2) || !scB b (t.17 (toNat (firstI (fun i=>t.17 i 0==s.17 (toNat (wrap .i64 (leaf - fromS s))) 0) t.16 0)) 1))==false) (fun h17=>c9 (t.17 (toNat (firstI (fun (i:Nat)=>t.17 i (0)==s.17 (toNat (wrap .i64 (leaf - fromS s))) (0)) t.16 (0))) (2)))
     apply n_br (!scB b (s.17 (toNat (wrap .i64 (leaf - fromS s))) 1) || !scB b (s.17 (toNat (wrap .i64 (leaf - fromS s))) 2) || !scB b (t.17 (toNat (firstI (fun i=>t.17 i 0==s.17 (toNat (wrap .i64 (leaf - fromS s))) 0) t.16 0)) 1) || !scB b (t.17 (toNat (firstI (fun i=>t.17 i 0==s.17 (toNat (wrap .i64 (leaf - fromS s))) 0) t.16 0)) 2))
     ·intro g18
      exact n_outx (.tup [Zi 0,Zi 2]) (by rw [(L g2.2.1 (by omega)).2.2] at g18;exact Ent.of_eq (by rw [sec_4 g2 (by omega) g9 (or4 g18)]))
     ·intro g18
      apply n_sc (c3)
      apply n_sc (c4)
      apply n_br (chalE b (Spend.coin s) s.11 s.12 (Spend.cxt s) != 0)
      ·intro _
       refine n_old (.out (.tup [Zi 0,Zi (chalE b (Spend.coin s) s.11 s.12 (Spend.cxt s))]) [] (.tup [Zi (Prod.fst (secR b s t leaf)),Zi (Prod.snd (secR b s t leaf))]) []) ?_
       grind
      ·intro g22
       apply n_br (chalE b (Spend.coin t) t.11 t.12 (Spend.cxt t) != 0)
       ·intro _
        refine n_old (.out (.tup [Zi 0,Zi (chalE b (Spend.coin t) t.11 t.12 (Spend.cxt t))]) [] (.tup [Zi (Prod.fst (secR b s t leaf)),Zi (Prod.snd (secR b s t leaf))]) []) ?_
        grind
       ·intro g24
        apply n_br (chalK b (Spend.coin s) s.11 s.12 (Spend.cxt s)==chalK b (Spend.coin t) t.11 t.12 (Spend.cxt t))
        ·intro g26
         exact n_outx (.tup [Zi 0,Zi 20]) (by rw [(L g2.2.1 (by omega)).2.2] at g18;rw [(k1 g2.1 g2.2.1).2,(k2 g2.1 g2.2.2).2] at g26;exact Ent.of_eq (by rw [sec_5 g2 (by omega) g9 (and4 g18) g26]))
        ·intro g26
         apply n_br (s.17 (toNat (wrap .i64 (leaf - fromS s))) 2==t.17 (toNat (firstI (fun i=>t.17 i 0==s.17 (toNat (wrap .i64 (leaf - fromS s))) 0) t.16 0)) 2)
         ·intro g28
          exact n_outx (.tup [Zi 0,Zi 10]) (by rw [(L g2.2.1 (by omega)).2.2] at g18 g28;rw [(k1 g2.1 g2.2.1).2,(k2 g2.1 g2.2.2).2] at g26;exact Ent.of_eq (by rw [sec_6 g2 (by omega) g9 (and4 g18) g26 g28]))
         ·intro g28
          apply n_req ((Bas.gr b).2≠(0:Int)) (by grind)
          apply n_sc (winv_c (Int.tmod (wrap .i64 (wrap .i64 (s.17 (toNat (wrap .i64 (leaf - fromS s))) (2) - t.17 (toNat (firstI (fun (i:Nat)=>t.17 i (0)==s.17 (toNat (wrap .i64 (leaf - fromS s))) (0)) t.16 (0))) (2))+(Bas.gr b).2)) (Bas.gr b).2) ((Bas.gr b).2) (by have u:=sub_q (scB_t g18.1.1.2) (scB_t g18.2) (hq g2.1).2;omega) (by have u:=sub_q (scB_t g18.1.1.2) (scB_t g18.2) (hq g2.1).2;omega) ((hq g2.1).2))
          apply n_req ((Bas.gr b).2≠(0:Int)) (by grind)
          apply n_sc (wmul_c (Int.tmod (wrap .i64 (wrap .i64 (s.17 (toNat (wrap .i64 (leaf - fromS s))) (1) - t.17 (toNat (firstI (fun (i:Nat)=>t.17 i (0)==s.17 (toNat (wrap .i64 (leaf - fromS s))) (0)) t.16 (0))) (1))+(Bas.gr b).2)) (Bas.gr b).2) (invF (Int.tmod (wrap .i64 (wrap .i64 (s.17 (toNat (wrap .i64 (leaf - fromS s))) (2) - t.17 (toNat (firstI (fun (i:Nat)=>t.17 i (0)==s.17 (toNat (wrap .i64 (leaf - fromS s))) (0)) t.16 (0))) (2))+(Bas.gr b).2)) (Bas.gr b).2) (Bas.gr b).2) ((Bas.gr b).2))
          exact n_outx (.tup [Zi (okv (chkI (Int.tmod (wrap .i64 (wrap .i64 (s.17 (toNat (wrap .i64 (leaf - fromS s))) 1 - t.17 (toNat (firstI (fun i=>t.17 i 0==s.17 (toNat (wrap .i64 (leaf - fromS s))) 0) t.16 0)) 1)+(Bas.gr b).2)) (Bas.gr b).2) (invF (Int.tmod (wrap .i64 (wrap .i64 (s.17 (toNat (wrap .i64 (leaf - fromS s))) 2 - t.17 (toNat (firstI (fun i=>t.17 i 0==s.17 (toNat (wrap .i64 (leaf - fromS s))) 0) t.16 0)) 2)+(Bas.gr b).2)) (Bas.gr b).2) (Bas.gr b).2) (Bas.gr b).2) (Int.tmod (wrap .i64 (wrap .i64 (s.17 (toNat (wrap .i64 (leaf - fromS s))) 1 - t.17 (toNat (firstI (fun i=>t.17 i 0==s.17 (toNat (wrap .i64 (leaf - fromS s))) 0) t.16 0)) 1)+(Bas.gr b).2)) (Bas.gr b).2*invF (Int.tmod (wrap .i64 (wrap .i64 (s.17 (toNat (wrap .i64 (leaf - fromS s))) 2 - t.17 (toNat (firstI (fun i=>t.17 i 0==s.17 (toNat (wrap .i64 (leaf - fromS s))) 0) t.16 0)) 2)+(Bas.gr b).2)) (Bas.gr b).2) (Bas.gr b).2%(Bas.gr b).2)),Zi 0]) (by have u:=sub_q (scB_t g18.1.1.2) (scB_t g18.2) (hq g2.1).2;have v:=sub_q (scB_t g18.1.1.1) (scB_t g18.1.2) (hq g2.1).2;rw [u.1,v.1,chk_ok (hq g2.1).1 (hq g2.1).2 v.2.1 v.2.2 (invF_bound (hq g2.1).1).1 (invF_bound (hq g2.1).1).2];rw [(L g2.2.1 (by omega)).2.2] at g18 g28 ⊢;rw [(k1 g2.1 g2.2.1).2,(k2 g2.1 g2.2.2).2] at g26;exact Ent.of_eq (by rw [sec_7 g2 (by omega) g9 (and4 g18) g26 g28];rfl)))
theorem r33first_c (s:Spend) (h:okS s=true):Pure Tryz.prog gl0 156 [s.av] (.int .i64 (fromS s)):=by
 have o:=okS_all h
 have c1:=rspan_c s.depth s.level s.index o.1
 exact pz Tryz.func156 (by
  apply n_sc (c1)
  refine n_old (.out (Zi (spanA s.4 s.11 s.12)) [] (Zi (fromS s)) []) ?_
  simp_all [k_out,Ent.of_eq])
theorem r33place_c (s:Spend) (v:Int) (hn:s.nl<9223372036854775808):Pure Tryz.prog gl0 226 [s.av,.int .i64 v] (.int .i64 (firstI (fun i=>s.lf i 0==v) s.nl 0)):=by
 exact pz Tryz.func226 (by
  apply n_loop ({ x:Nat // x≤Spend.nl s∧(fun i=>firstI (fun i=>Spend.lf s i 0==v) (Spend.nl s) 0=firstI (fun i=>Spend.lf s i 0==v) (Spend.nl s - i) i) x }) [1,2,5] [0] (fun x=>[Zi v,.own 0 80 0 0 80,Zi x.1]) (fun _=>[some ⟨80,1,true,.lst [Spend.cells s]⟩]) (fun x=>Spend.nl s - x.1) (⟨0,⟨Nat.zero_le (Spend.nl s),rfl⟩⟩)
  intro x0
  try (have q0:=x0.2;dsimp only at q0)
  apply n_bd ((x0.1:Int)<(s.16:Int))
  ·intro g1
   apply n_req (0≤(x0.1:Int)∧(x0.1:Int)<(s.16:Int))
   apply n_br (s.17 (toNat (x0.1:Int)) 0==v)
   ·intro g3
    try simp only [Int.toNat_natCast] at g3
    exact n_out (Ent.of_eq (congrArg _ (first_hit x0.2.2 (by omega) (by grind))))
   ·intro g3
    try simp only [Int.toNat_natCast] at g3
    exact n_again [0] (⟨x0.1+1,by omega,first_next x0.2.2 (by omega) (by grind)⟩) (ek2 (en (inc_ent (by omega))))
  ·intro g1
   exact n_out (Ent.of_eq (congrArg _ (first_miss x0.2.2 (by omega)))))
theorem r33partner_c (s t:Spend) (j:Int) (k0:0≤j) (k1:j<s.nl) (hn:t.nl<9223372036854775808):Pure Tryz.prog gl0 157 [s.av,t.av,.int .i64 j] (.int .i64 (partI s t j.toNat)):=by
 have c1:=r33place_c t
 exact pz Tryz.func157 (by
  apply n_br (s.5 != t.5)
  ·intro g0
   exact n_out (Ent.of_eq (congrArg _ (if_neg g0).symm))
  ·intro g0
   apply n_req ((0:Int)≤j∧j<(s.16:Int)) (⟨k0,k1⟩)
   apply n_sc (c1 (s.17 (toNat j) (0)) (by omega))
   exact n_out (Ent.of_eq (congrArg _ (if_pos g0).symm)))
theorem r33chal_c (b:Bas) (s:Spend) (bs:s.By) (hq:0<b.gr.q) (hq':b.gr.q<2305843009213693952):Pure Tryz.prog gl0 159 [b.av,s.av] (.int .i64 (chS b s)):=by
 have c1:=rchal_c b s.coin s.level s.index s.cxt bs.root bs.payee hq hq'
 exact pz Tryz.func159 (by
  apply n_sc (c1)
  exact n_or)
theorem rsecret_c (b:Bas) (s t:Spend) (leaf:Int) (hl:leaf≤9223372036854775807) (hw:b.gr.W) (_:s.nl≤1000) (ht:t.nl≤1000) (bs:s.By) (bt:t.By):Pure Tryz.prog gl0 83 [b.av,s.av,t.av,.int .i64 leaf] (.tup [.int .i64 (secR b s t leaf).1,.int .i64 (secR b s t leaf).2]):=by
 have c1:=r11valid_c b hw
 have c2:=rformed_c s
 have c3:=rformed_c t
 have c4:=fun h=>r33first_c s h
 have c5:=fun j h h'=>r33partner_c s t j h h' (by omega)
 have c6:=r33scalar_c b
 have c7:=fun h h'=>r33chal_c b s bs h h'
 have c8:=fun h h'=>r33chal_c b t bt h h'
 have hq:=fun h=>validB_q (b:=b) h
 have lr:=fun h=>leaf_r (s:=s) (leaf:=leaf) h hl
 have L:=fun h h'=>leaf_w (s:=s) (leaf:=leaf) h h'
 exact pz Tryz.func83 (by
  apply n_sc (c1)
  apply n_scg ((!validB b)==false) (fun h1=>c2)
  apply n_scg ((!validB b || !okS s)==false) (fun h2=>c3)
  apply n_br (!validB b || !okS s || !okS t)
  ·intro g3
   refine n_old (.out (.tup [Zi 0,Zi 1]) [] (.tup [Zi (Prod.fst (secR b s t leaf)),Zi (Prod.snd (secR b s t leaf))]) []) ?_
   simp_all [k_out,Ent.of_eq,sec_1,or_assoc]
  ·intro g3
   apply n_sc (c4 (g3.1.2))
   apply n_br (decide (leaf<0)||decide (wrap .i64 (leaf - fromS s)<0)||decide (wrap .i64 (leaf - fromS s)≥(s.16:Int)))
   ·intro g6
    refine n_old (.out (.tup [Zi 0,Zi 2]) [] (.tup [Zi (Prod.fst (secR b s t leaf)),Zi (Prod.snd (secR b s t leaf))]) []) ?_
    simp_all [k_out,Ent.of_eq,sec_2,and_assoc]
   ·intro g6
    apply n_sc (c5 (wrap .i64 (leaf - fromS s)) (by omega) (by omega))
    apply n_bd (partI s t (toNat (wrap .i64 (leaf - fromS s)))<0)
    ·intro g9
     exact n_outx (.tup [Zi 0,Zi 7]) (by have nl:¬(leaf<fromS s∨toS s≤leaf):=(fun hh=>by grind);rw [(L g3.1.2 nl).2.2] at g9;exact Ent.of_eq (by rw [sec_3 (and_assoc.1 g3) nl (fun hm=>(part_has g3.1.2 nl).2 hm g9)]))
    ·intro g9
     apply n_req ((0:Int)≤wrap .i64 (leaf - fromS s)∧wrap .i64 (leaf - fromS s)<(s.16:Int))
     apply n_req ((0:Int)≤partI s t (toNat (wrap .i64 (leaf - fromS s)))∧partI s t (toNat (wrap .i64 (leaf - fromS s)))<(t.16:Int)) (by simp_all [sec_k])
     apply n_sc (c6 (s.17 (toNat (wrap .i64 (leaf - fromS s))) (1)))
     apply n_scg ((!scB b (s.17 (toNat (wrap .i64 (leaf - fromS s))) 1))==false) (fun h14=>c6 (s.17 (toNat (wrap .i64 (leaf - fromS s))) (2)))
     apply n_scg ((!scB b (s.17 (toNat (wrap .i64 (leaf - fromS s))) 1) || !scB b (s.17 (toNat (wrap .i64 (leaf - fromS s))) 2))==false) (fun h15=>c6 (t.17 (toNat (partI s t (toNat (wrap .i64 (leaf - fromS s))))) (1)))
     apply n_scg ((!scB b (s.17 (toNat (wrap .i64 (leaf - fromS s))) 1) || !scB b (s.17 (toNat (wrap .i64 (leaf - fromS s))) 2) || !scB b (t.17 (toNat (partI s t (toNat (wrap .i64 (leaf - fromS s))))) 1))==false) (fun h16=>c6 (t.17 (toNat (partI s t (toNat (wrap .i64 (leaf - fromS s))))) (2)))
     apply n_br (!scB b (s.17 (toNat (wrap .i64 (leaf - fromS s))) 1) || !scB b (s.17 (toNat (wrap .i64 (leaf - fromS s))) 2) || !scB b (t.17 (toNat (partI s t (toNat (wrap .i64 (leaf - fromS s))))) 1) || !scB b (t.17 (toNat (partI s t (toNat (wrap .i64 (leaf - fromS s))))) 2))
     ·intro g17
      refine n_old (.out (.tup [Zi 0,Zi 2]) [] (.tup [Zi (Prod.fst (secR b s t leaf)),Zi (Prod.snd (secR b s t leaf))]) []) ?_
      simp_all [k_out,sec_k,Ent.of_eq,sec_4,and_assoc,or4]
     ·intro g17
      apply n_sc (c7 ((hq g3.1.1).1) ((hq g3.1.1).2))
      apply n_sc (c8 ((hq g3.1.1).1) ((hq g3.1.1).2))
      apply n_br (chS b s==chS b t)
      ·intro g21
       exact n_outx (.tup [Zi 0,Zi 20]) (by have k:=sec_k g3.1.2 hl g6 g9;rw [k.2.2.1,k.2.2.2.1] at g17;exact Ent.of_eq (by rw [sec_5 (and_assoc.1 g3) k.1 k.2.1 (and4 g17) g21]))
      ·intro g21
       apply n_br (s.17 (toNat (wrap .i64 (leaf - fromS s))) 2==t.17 (toNat (partI s t (toNat (wrap .i64 (leaf - fromS s))))) 2)
       ·intro g23
        exact n_outx (.tup [Zi 0,Zi 10]) (by have k:=sec_k g3.1.2 hl g6 g9;rw [k.2.2.1,k.2.2.2.1] at g17 g23;exact Ent.of_eq (by rw [sec_6 (and_assoc.1 g3) k.1 k.2.1 (and4 g17) g21 g23]))
       ·intro g23
        apply n_req ((Bas.gr b).2≠(0:Int)) (by grind)
        apply n_sc (rinv_c (Int.tmod (wrap .i64 (wrap .i64 (s.17 (toNat (wrap .i64 (leaf - fromS s))) (2)+(Bas.gr b).2) - t.17 (toNat (partI s t (toNat (wrap .i64 (leaf - fromS s))))) (2))) (Bas.gr b).2) ((Bas.gr b).2) (by have u:=sub_r (scB_t g17.1.1.2) (scB_t g17.2) (hq g3.1.1).2;omega) (by have u:=sub_r (scB_t g17.1.1.2) (scB_t g17.2) (hq g3.1.1).2;omega) ((hq g3.1.1).2))
        apply n_req ((Bas.gr b).2≠(0:Int)) (by grind)
        apply n_sc (rmul_c (Int.tmod (wrap .i64 (wrap .i64 (s.17 (toNat (wrap .i64 (leaf - fromS s))) (1)+(Bas.gr b).2) - t.17 (toNat (partI s t (toNat (wrap .i64 (leaf - fromS s))))) (1))) (Bas.gr b).2) (invF (Int.tmod (wrap .i64 (wrap .i64 (s.17 (toNat (wrap .i64 (leaf - fromS s))) (2)+(Bas.gr b).2) - t.17 (toNat (partI s t (toNat (wrap .i64 (leaf - fromS s))))) (2))) (Bas.gr b).2) (Bas.gr b).2) ((Bas.gr b).2) (by have u:=sub_r (scB_t g17.1.1.1) (scB_t g17.1.2) (hq g3.1.1).2;omega) (by have u:=sub_r (scB_t g17.1.1.1) (scB_t g17.1.2) (hq g3.1.1).2;omega) ((invF_bound (hq g3.1.1).1).1) ((invF_bound (hq g3.1.1).1).2) ((hq g3.1.1).2))
        exact n_outx (.tup [Zi (Int.tmod (wrap .i64 (wrap .i64 (s.17 (toNat (wrap .i64 (leaf - fromS s))) 1+(Bas.gr b).2) - t.17 (toNat (partI s t (toNat (wrap .i64 (leaf - fromS s))))) 1)) (Bas.gr b).2*invF (Int.tmod (wrap .i64 (wrap .i64 (s.17 (toNat (wrap .i64 (leaf - fromS s))) 2+(Bas.gr b).2) - t.17 (toNat (partI s t (toNat (wrap .i64 (leaf - fromS s))))) 2)) (Bas.gr b).2) (Bas.gr b).2%(Bas.gr b).2),Zi 0]) (by have u:=sub_r (scB_t g17.1.1.2) (scB_t g17.2) (hq g3.1.1).2;have v:=sub_r (scB_t g17.1.1.1) (scB_t g17.1.2) (hq g3.1.1).2;rw [u.1,v.1];have k:=sec_k g3.1.2 hl g6 g9;rw [k.2.2.1,k.2.2.2.1] at g17 g23 ⊢;exact Ent.of_eq (by rw [sec_7 (and_assoc.1 g3) k.1 k.2.1 (and4 g17) g21 g23])))
theorem indexS_w (F:FuncId) (S:Nat→Spend) (n:Nat) (p:Nat→Bool) (hn:n<9223372036854775808) (hc:∀ i,i<n→Pure Tryz.prog gl0 F [(S i).av] (.bool (p i))):Pure Tryz.prog gl0 246 [.isl 80 n (fun i j=>atL (S i).cells j),.fn (.func F) [] []] (.int .i64 (firstI p n 0)):=by
 exact pz Tryz.func246 (by
  apply n_loop ({ x:Nat // x≤n∧(fun i=>firstI p n 0=firstI p (n - i) i) x }) [0,1,7,8] [] (fun x=>[.isl 80 n fun i j=>atL (Spend.cells (S i)) j,AV.fn (Fn.func F) [] [],Zi n,Zi x.1]) (fun _=>[]) (fun x=>n - x.1) (⟨0,⟨Nat.zero_le n,rfl⟩⟩)
  intro x0
  try (have q0:=x0.2;dsimp only at q0)
  apply n_bd ((x0.1:Int)<(n:Int))
  ·intro g1
   apply n_req (0≤(x0.1:Int)∧(x0.1:Int)<(n:Int))
   apply n_sc (hc (toNat (↑(x0.1):Int)) (by omega))
   apply n_br (p (toNat (x0.1:Int)))
   ·intro g4
    try simp only [Int.toNat_natCast] at g4
    exact n_out (Ent.of_eq (congrArg _ (first_hit x0.2.2 (by omega) g4)))
   ·intro g4
    try simp only [Int.toNat_natCast] at g4
    exact n_again [] (⟨x0.1+1,by omega,first_next x0.2.2 (by omega) g4⟩) (ek3 (en (inc_ent (by omega))))
  ·intro g1
   exact n_out (Ent.of_eq (congrArg _ (first_miss x0.2.2 (by omega)))))
theorem containsS_w (F:FuncId) (S:Nat→Spend) (n:Nat) (p:Nat→Bool) (hn:n<9223372036854775808) (hc:∀ i,i<n→Pure Tryz.prog gl0 F [(S i).av] (.bool (p i))):Pure Tryz.prog gl0 197 [.isl 80 n (fun i j=>atL (S i).cells j),.fn (.func F) [] []] (.bool (decide (firstI p n 0≥0))):=by
 have c1:=indexS_w F S n p hn hc
 exact pz Tryz.func197 (by
  apply n_sc (c1)
  exact n_or)
theorem gcheck_c (G:Grp) (l:List Int) (h:G.Ok) (hw:G.W) (hl:∀ i,i<l.length→elemB G (l.getD i 0)=true) (hn:l.length<1000):Pure Tryz.prog gl0 195 [G.av,il .i64 l] (.int .i64 0):=by
 have c1:=gvalid_c G hw
 rw [validG_iff.2 h] at c1
 have c2:=fun x=>element_c G x hw
 exact pz Tryz.func195 (by
  apply n_sc (c1)
  apply n_ff
  apply n_loop ({ x:Nat // x≤List.length l }) [2,10,11,12] ([0]) (fun x=>[AV.own 0 3 0 0 3,AV.isl 1 (List.length l) fun (i x:Nat)=>Zi (List.getD l i (0:Int)),Zi (↑(List.length l):Int),Zi (↑(x.1):Int)]) (fun _=>[some ⟨3,1,true,Rep.lst [[Zi (Grp.p G),Zi (Grp.q G),Zi (Grp.g G)]]⟩]) (fun x=>List.length l - x.1) (⟨0,Nat.zero_le (List.length l)⟩)
  intro x2
  try (have q2:=x2.2;dsimp only at q2)
  apply n_bd ((↑x2.1:Int)<(↑(List.length l):Int))
  ·intro g3
   apply n_req ((0:Int)≤(↑x2.1:Int)∧(↑x2.1:Int)<(↑(List.length l):Int))
   apply n_sc (c2 (List.getD l (toNat (↑x2.1:Int)) (0:Int)))
   apply n_br (!elemB G (List.getD l (toNat (↑x2.1:Int)) (0:Int)))
   ·intro g6
    try simp only [Int.toNat_natCast] at g6
    exact n_no (by rw [hl x2.1 (by omega)] at g6;cases g6)
   ·intro g6
    try simp only [Int.toNat_natCast] at g6
    exact n_again ([0]) (⟨x2.1+1,by omega⟩) (ek3 (en (inc_ent (by omega))))
  ·intro g3
   exact n_or)
theorem gcheck1 (G:Grp) (a:Int) (h:G.Ok) (hw:G.W) (ha:elemB G a=true):Pure Tryz.prog gl0 195 [G.av,.isl 1 1 fun r k=>atL (List.getD [[.int .i64 a]] r []) k] (.int .i64 0) :=
 (gcheck_c G [a] h hw (fun i hi=>by obtain rfl:i=0:=Nat.lt_one_iff.1 hi;exact ha) (by simp)).via ⟨Ent.refl _,il_rows rfl rfl,trivial⟩
theorem gcheck2 (G:Grp) (a c:Int) (h:G.Ok) (hw:G.W) (ha:elemB G a=true) (hc:elemB G c=true):Pure Tryz.prog gl0 195 [G.av,.isl 1 2 fun r k=>atL (List.getD [[.int .i64 a],[.int .i64 c]] r []) k] (.int .i64 0) :=
 (gcheck_c G [a,c] h hw (fun i hi=>match i,hi with
  | 0,_=>ha
  | 1,_=>hc) (by simp)).via ⟨Ent.refl _,il_rows rfl rfl,trivial⟩
theorem gmul_c (G:Grp) (a c:Int) (h:G.Ok) (hw:G.W) (ha:elemB G a=true) (hc:elemB G c=true):Pure Tryz.prog gl0 239 [G.av,.int .i64 a,.int .i64 c] (.tup [.int .i64 (a*c%G.p),.int .i64 0]):=by
 have c1:=gcheck2 G a c h hw ha hc
 have x:=elem_bnd h ha
 have y:=elem_bnd h hc
 have k1:=h.p1
 have k2:=chk_ok (a:=a) (b:=c) (m:=G.p) (by omega) (by omega) (by omega) (by omega) (by omega) (by omega)
 exact pz Tryz.func239 (by
  apply n_sc (c1)
  apply n_ff
  apply n_sc (wmul_c (a) (c) (G.1))
  exact n_outx (.tup [Zi (okv (chkI a c G.1) (a*c%G.1)),Zi (chkI a c G.1)]) (Ent.of_eq (by rw [k2];rfl)))
theorem gpow_c (G:Grp) (a e:Int) (h:G.Ok) (hw:G.W) (ha:elemB G a=true) (he:0≤e∧e<G.q):Pure Tryz.prog gl0 123 [G.av,.int .i64 a,.int .i64 e] (.tup [.int .i64 (a^e.toNat%G.p),.int .i64 0]):=by
 have c1:=gcheck1 G a h hw ha
 have x:=elem_bnd h ha
 have k1:=h.p1;have k2:=h.qp;have k3:=h.q3
 have k4:okv (chkI 0 0 G.q) (e%G.q)=e:=by
  rw [chk_ok (by omega) (by omega) (by omega) (by omega) (by omega) (by omega)]
  exact red_q he
 have k5:=powE_0 (chk_ok (a:=a) (b:=a) (m:=G.p) (by omega) (by omega) (by omega) (by omega) (by omega) (by omega)) (by omega:¬e<0)
 exact pz Tryz.func123 (by
  apply n_sc (c1)
  apply n_ff
  apply n_sc (wreduce_c (e) (G.2))
  apply n_sc (wpow_c (a) (okv (chkI (0:Int) (0:Int) G.2) (e%G.2)) (G.1) (by rw [k4];omega))
  exact n_outx (.tup [Zi (okv (powE a (okv (chkI (0:Int) (0:Int) G.2) (e%G.2)) G.1) (a^toNat (okv (chkI (0:Int) (0:Int) G.2) (e%G.2))%G.1)),Zi (powE a (okv (chkI (0:Int) (0:Int) G.2) (e%G.2)) G.1)]) (Ent.of_eq (by rw [k4,k5];rfl)))
theorem message_c (b:Bas) (u:Int) (h:b.Ok) (hw:b.gr.W) (hu:0≤u∧u<b.gr.q):Pure Tryz.prog gl0 203 [b.av,.int .i64 u] (.int .i64 (msgI b u)):=by
 have c1:=gpow_c b.gr b.g1 u h.G hw h.e1 hu
 have c2:=gmul_c b.gr (b.g1^u.toNat%b.gr.p) b.g2 h.G hw (elem_pow h.G h.e1 _) h.e2
 exact pz Tryz.func203 (by
  apply n_sc (c1)
  apply n_sc (c2)
  exact n_or)
theorem rmessage_c (b:Bas) (u:Int) (h:b.Ok) (hu:0≤u∧u<b.gr.q):Pure Tryz.prog gl0 84 [b.av,.int .i64 u] (.int .i64 (msgI b u)):=by
 have k1:=elem_bnd h.G h.e1
 have k2:=elem_bnd h.G h.e2
 have k3:=h.G.p1;have k4:=h.G.qp
 have k5:=elem_bnd h.G (elem_pow h.G h.e1 u.toNat)
 exact pz Tryz.func84 (by
  apply n_sc (rpow_c (b.2) (u) ((Bas.gr b).1) (by omega) (by omega) (by omega) (by omega) (by assumption))
  apply n_sc (rmul_c (b.2^toNat u%(Bas.gr b).1) (b.3) ((Bas.gr b).1) (by omega) (by omega) (by omega) (by omega) (by assumption))
  exact n_or)
theorem within_r (x l u:Int):Pure Tryz.prog gl0 179 [.int .i64 x,.int .i64 l,.int .i64 u] (.bool (rngB x l u)):=by
 exact pz Tryz.func179 (by
  exact n_or)
theorem numbers_c (a b c d e:Int):Pure Tryz.prog gl0 178 [.int .i64 a,.int .i64 b,.int .i64 c,.int .i64 d,.int .i64 e] (.bool (numR a b c d e)):=by
 exact pz Tryz.func178 (by
  apply n_sc (within_r (a) ((0:Int)) ((7:Int)))
  apply n_scg (rngB a (0:Int) (7:Int)==true) (fun h1=>within_r (b) ((0:Int)) ((1000000:Int)))
  exact n_or)
theorem rin_c (x l u:Int):Pure Tryz.prog gl0 134 [.int .i64 x,.int .i64 l,.int .i64 u] (.bool (rngB x l u)):=by
 exact pz Tryz.func134 (by
  exact n_or)
theorem frame_c (a b c d e:Int):Pure Tryz.prog gl0 133 [.int .i64 a,.int .i64 b,.int .i64 c,.int .i64 d,.int .i64 e] (.bool (numR a b c d e)):=by
 exact pz Tryz.func133 (by
  apply n_sc (rin_c (a) ((0:Int)) ((7:Int)))
  apply n_scg (rngB a (0:Int) (7:Int)==true) (fun h1=>rin_c (b) ((0:Int)) ((1000000:Int)))
  exact n_or)
theorem single_c (v d:Int):Pure Tryz.prog gl0 237 [.agg [.int .i64 v,.int .i64 d]] (.bool (oneB v d)):=by
 exact pz Tryz.func237 (by
  apply n_br (v==0&&(d==0&&true))
  ·intro g0
   exact n_out (Ent.of_eq (congrArg _ (one_1 g0.1 g0.2.1).symm))
  ·intro g0
   apply n_req (((decide (v≥1)&&decide (v≤1099511627776)&&decide (d≥0)&&decide (d≤5))==true)=true→(0:Int)≤d) (fun hr=>by simp at hr;omega)
   apply n_req (((decide (v≥1)&&decide (v≤1099511627776)&&decide (d≥0)&&decide (d≤5))==true)=true→wrap .i64 ((1:Int)*2^min (toNat d) 64)≠(0:Int)) (fun hr=>by simp at hr;exact sh_ne (by omega) (by omega))
   exact n_out (Ent.of_eq (congrArg _ (one_2 (fun h=>by rcases g0 with g|g|g;(· exact g h.1);(· exact g h.2);cases g)))))
theorem one_c (v d:Int):Pure Tryz.prog gl0 135 [.agg [.int .i64 v,.int .i64 d]] (.bool (oneB v d)):=by
 exact pz Tryz.func135 (by
  apply n_br (v==0)
  ·intro g0
   exact n_out (Ent.of_eq (congrArg _ (one_0 g0).symm))
  ·intro g0
   apply n_req (((decide (v≥1)&&decide (v≤1099511627776)&&decide (d≥0)&&decide (d≤5))==true)=true→(0:Int)≤wrap .u64 d) (fun hr=>by simp at hr;rw [u64_s (by omega) (by omega)];omega)
   apply n_req (((decide (v≥1)&&decide (v≤1099511627776)&&decide (d≥0)&&decide (d≤5))==true)=true→wrap .i64 ((1:Int)*2^min (toNat (wrap .u64 d)) 64)≠(0:Int)) (fun hr=>by simp at hr;rw [u64_s (by omega) (by omega)];exact sh_ne (by omega) (by omega))
   exact n_out (Ent.of_eq (congrArg _ (one_3 g0))))
theorem elementR_c (b:Bas) (x:Int) (hw:b.gr.W):Pure Tryz.prog gl0 294 [b.av,.int .i64 x] (.bool (elemB b.gr x)):=by
 have hq:=hw.q
 exact pz Tryz.func294 (by
  apply n_br (decide (x<1)||decide (x≥(Bas.gr b).1))
  ·intro g0
   exact n_out (Ent.of_eq (congrArg _ (elem_f g0).symm))
  ·intro g0
   apply n_sc (wpow_c (x) ((Bas.gr b).2) ((Bas.gr b).1) (by assumption))
   exact n_out (Ent.of_eq (congrArg _ (ok1.trans (elem_t g0).symm))))
theorem messageR_c (b:Bas) (x:Int) (hw:b.gr.W):Pure Tryz.prog gl0 238 [b.av,.int .i64 x] (.bool (msgB b.gr x)):=by
 exact pz Tryz.func238 (by
  apply n_scg ((x != 1)==true) (fun h0=>(elementR_c b) (x) (by assumption))
  exact n_or)
theorem validR_c (b:Bas) (h h1 h2:Int) (hw:b.gr.W):Pure Tryz.prog gl0 181 [b.av,.agg [.int .i64 h,.int .i64 h1,.int .i64 h2]] (.bool (keyB b h h1 h2)):=by
 exact pz Tryz.func181 (by
  apply n_sc ((bvalid_c b) (by assumption))
  apply n_scg (validB b==true) (fun h1=>(messageR_c b) (h) (by assumption))
  apply n_scg ((validB b&&msgB b.1 h)==true) (fun h2=>(messageR_c b) (h1) (by assumption))
  apply n_scg ((validB b&&msgB b.1 h&&msgB b.1 h1)==true) (fun h3=>(messageR_c b) (h2) (by assumption))
  exact n_or)
theorem rmsg_c (G:Grp) (x:Int) (hw:G.Ok):Pure Tryz.prog gl0 207 [G.av,.int .i64 x] (.bool (msgB G x)):=by
 exact pz Tryz.func207 (by
  apply n_scg ((x != 1)==true) (fun h0=>(member_c G) (x) (by assumption))
  exact n_or)
theorem rkey_c (b:Bas) (h h1 h2:Int) (hw:b.gr.W):Pure Tryz.prog gl0 132 [b.av,.agg [.int .i64 h,.int .i64 h1,.int .i64 h2]] (.bool (keyB b h h1 h2)):=by
 exact pz Tryz.func132 (by
  apply n_sc ((r11valid_c b) (hw))
  apply n_scg (validB b==true) (fun h1=>(rmsg_c (Bas.gr b)) (h) ((validB_iff.1 (by simp at h1;simp [h1])).G))
  apply n_scg ((validB b&&msgB b.1 h)==true) (fun h2=>(rmsg_c (Bas.gr b)) (h1) ((validB_iff.1 (by simp at h2;simp [h2])).G))
  apply n_scg ((validB b&&msgB b.1 h&&msgB b.1 h1)==true) (fun h3=>(rmsg_c (Bas.gr b)) (h2) ((validB_iff.1 (by simp at h3;simp [h3])).G))
  exact n_or)
theorem denomV_c0 (v d:Int):Pure Tryz.prog gl0 180 [.isl 2 1 fun _ k=>atL [.int .i64 v,.int .i64 d] k] (.bool (oneB v d)):=by
 have hs:=(single_c v d)
 exact pz Tryz.func180 (by
  apply n_ff
  apply n_loop ({ x:Nat // x≤1∧(fun x=>0<x→oneB v d=true) x }) [0,12,13,14,2,15] [] (fun x=>[.isl 2 1 fun x k=>atL [Zi v,Zi d] k,.bool false,.isl 2 1 fun x k=>atL [Zi v,Zi d] k,Zi 1,.bool false,Zi x.1]) (fun _=>[]) (fun x=>1 - x.1) (⟨0,⟨Nat.zero_le 1,fun (h:0<0)=>absurd h (Nat.lt_irrefl 0)⟩⟩)
  intro x1
  try (have q1:=x1.2;dsimp only at q1)
  apply n_bd ((x1.1:Int)<1)
  ·intro g2
   apply n_req (0≤(x1.1:Int)∧(x1.1:Int)<1)
   apply n_sc (hs)
   apply n_br (!oneB v d)
   ·intro g5
    refine n_old (.out (.bool false) [] (.bool (oneB v d)) []) ?_
    simp_all [k_out,Ent.of_eq]
   ·intro g5
    apply n_req ((decide ((x1.1:Int)>0)==true)=true→(0:Int)≤wrap .i64 ((x1.1:Int) - 1)∧wrap .i64 ((x1.1:Int) - 1)<1) (fun hr=>by grind)
    apply n_req ((decide ((x1.1:Int)>0)==true&&decide (v<v)==false)=true→(0:Int)≤wrap .i64 ((x1.1:Int) - 1)∧wrap .i64 ((x1.1:Int) - 1)<1) (fun hr=>by grind)
    apply n_req ((decide ((x1.1:Int)>0)==true&&decide (v<v)==false&&(v==v)==true)=true→(0:Int)≤wrap .i64 ((x1.1:Int) - 1)∧wrap .i64 ((x1.1:Int) - 1)<1) (fun hr=>by grind)
    apply n_br (decide ((x1.1:Int)>0)&&(decide (v<v)||v==v&&decide (d≤d)))
    ·intro _
     refine n_old (.out (.bool false) [] (.bool (oneB v d)) []) ?_
     grind
    ·intro g10
     exact n_again [] (⟨x1.1+1,by omega,fun _=>g5⟩) (ek5 (en (inc_ent (by omega))))
  ·intro g2
   exact n_outx (.bool true) (by exact Ent.of_eq (congrArg _ (q1.2 (by omega)).symm)))
theorem denomV_c (v d:Int):Pure Tryz.prog gl0 180 [.isl 2 1 fun r k=>atL (List.getD [[.int .i64 v,.int .i64 d]] r []) k] (.bool (oneB v d)) :=
 (denomV_c0 v d).via ⟨Ent.isl fun i j hi _=>by grind,trivial⟩
theorem recV_c (b:Bas) (r:Rcd) (hw:b.gr.W):Pure Tryz.prog gl0 111 [b.av,r.av] (.bool (rcvB b r)):=by
 have h1:=denomV_c r.value r.depth
 have h2:=validR_c b r.h r.h1 r.h2 hw
 exact pz Tryz.func111 (by
  apply n_sc (numbers_c (r.1) (r.2) (r.9) (r.10) (r.11))
  apply n_scg (numR r.1 r.2 r.9 r.10 r.11==true) (fun h1=>within_r (r.3) ((0:Int)) ((16:Int)))
  apply n_scg ((numR r.1 r.2 r.9 r.10 r.11&&rngB r.3 (0:Int) (16:Int))==true&&(r.4==0&&r.5==0)==false) (fun h2=>h1)
  apply n_scg ((numR r.1 r.2 r.9 r.10 r.11&&rngB r.3 (0:Int) (16:Int)&&(r.4==0&&r.5==0||oneB r.4 r.5))==true) (fun h3=>h2)
  exact n_out (Ent.of_eq (congrArg _ rec_1)))
theorem rrecV_c (b:Bas) (r:Rcd) (hw:b.gr.W):Pure Tryz.prog gl0 67 [b.av,r.av] (.bool (rcvB b r)):=by
 have h1:=one_c r.value r.depth
 have h2:=rkey_c b r.h r.h1 r.h2 hw
 exact pz Tryz.func67 (by
  apply n_sc (h2)
  apply n_scg (keyB b r.6 r.7 r.8==true) (fun h1=>frame_c (r.1) (r.2) (r.9) (r.10) (r.11))
  apply n_scg ((keyB b r.6 r.7 r.8&&numR r.1 r.2 r.9 r.10 r.11)==true) (fun h2=>rin_c (r.3) ((0:Int)) ((16:Int)))
  apply n_scg ((keyB b r.6 r.7 r.8&&numR r.1 r.2 r.9 r.10 r.11&&rngB r.3 (0:Int) (16:Int))==true) (fun h3=>h1)
  exact n_or)
theorem numI_c (n:Int):Pure Tryz.prog gl0 369 [.int .i64 n] (It.int n).av:=by
 exact pz Tryz.func369 (by
  exact n_outx (.agg [Zi 1,Zi n,.nsl,.nsl]) (Ent.agg ⟨Ent.refl _,Ent.refl _,Ent.nsl,Ent.nsl,trivial⟩))
theorem rnumI_c (n:Int):Pure Tryz.prog gl0 330 [.int .i64 n] (It.int n).av:=by
 exact pz Tryz.func330 (by
  exact n_outx (.agg [Zi 1,Zi n,.nsl,.nsl]) (Ent.agg ⟨Ent.refl _,Ent.refl _,Ent.nsl,Ent.nsl,trivial⟩))
theorem rNumbers_c (b:Bas):Pure Tryz.prog gl0 329 [b.av] (.isl 1 6 fun i _=>.int .i64 (crtL b 0 i)):=by
 exact pz Tryz.func329 (by
  exact n_outx (.isl 1 6 fun r k=>atL (List.getD [[Zi (Bas.gr b).1],[Zi (Bas.gr b).2],[Zi (Bas.gr b).3],[Zi b.2],[Zi b.3],[Zi b.4]] (r+0) []) k) (Ent.isl fun i j hi hj=>by obtain rfl:j=0:=Nat.lt_one_iff.1 hj;match i,hi with|0,_|1,_|2,_|3,_|4,_|5,_=>rfl))
theorem relems_c (G:Grp) (z sa sb r:Int) (hw:G.Ok):Pure Tryz.prog gl0 272 [G.av,.agg [.int .i64 z,.int .i64 sa,.int .i64 sb,.int .i64 r]] (.bool (elsB G z sa sb)):=by
 exact pz Tryz.func272 (by
  apply n_sc ((member_c G) (z) (by omega))
  apply n_scg (elemB G z==true) (fun h1=>(member_c G) (sa) (by omega))
  apply n_scg ((elemB G z&&elemB G sa)==true) (fun h2=>(member_c G) (sb) (by omega))
  exact n_or)
theorem scalR_c (b:Bas) (x:Int):Pure Tryz.prog gl0 244 [b.av,.int .i64 x] (.bool (decide (x≥0)&&decide (x<b.gr.q))):=by
 exact pz Tryz.func244 (by
  refine n_old (.out (.bool (decide (x≥0)&&decide (x<(Bas.gr b).2))) [] (.bool (decide (x≥0)&&decide (x<Grp.q (Bas.gr b)))) []) ?_
  simp [k_out,Ent.refl])
theorem rscalR_c (G:Grp) (x:Int):Pure Tryz.prog gl0 141 [G.av,.int .i64 x] (.bool (decide (x≥0)&&decide (x<G.q))):=by
 exact pz Tryz.func141 (by
  refine n_old (.out (.bool (decide (x≥0)&&decide (x<G.2))) [] (.bool (decide (x≥0)&&decide (x<Grp.q G))) []) ?_
  simp [k_out,Ent.refl])
theorem powR_c (b:Bas) (x e:Int) (h:b.gr.Ok) (hx:0≤x∧x<b.gr.p) (he:0≤e∧e<b.gr.q):Pure Tryz.prog gl0 177 [b.av,.int .i64 x,.int .i64 e] (.int .i64 (x^e.toNat%b.gr.p)):=by
 have k1:=h.p1;have k2:=h.qp;have k3:=h.p3
 have k5:=powE_0 (chk_ok (a:=x) (b:=x) (m:=b.gr.p) (by omega) (by omega) (by omega) (by omega) (by omega) (by omega)) (by omega:¬e<0)
 exact pz Tryz.func177 (by
  apply n_sc (wpow_c (x) (e) ((Bas.gr b).1) (by omega))
  exact n_outx (Zi (okv (powE x e (Bas.gr b).1) (x^toNat e%(Bas.gr b).1))) (Ent.of_eq (by rw [k5];rfl)))
theorem rpowR_c (G:Grp) (x e:Int) (h:G.Ok) (hx:0≤x∧x<G.p) (he:0≤e∧e<G.q):Pure Tryz.prog gl0 136 [G.av,.int .i64 x,.int .i64 e] (.int .i64 (x^e.toNat%G.p)):=by
 have k1:=h.p1;have k2:=h.qp;have k3:=h.p3
 exact pz Tryz.func136 (by
  refine n_old (.sc true 80 [Zi x,Zi e,Zi G.1] (Zi (x^toNat e%G.1)) (.out (Zi (x^toNat e%G.1)) [] (Zi (x^toNat e%Grp.p G)) [])) ?_
  grind [k_sc,rpow_c,k_out,Ent.refl])
theorem mulR_c (b:Bas) (x y:Int) (h:b.gr.Ok) (hx:0≤x∧x<b.gr.p) (hy:0≤y∧y<b.gr.p):Pure Tryz.prog gl0 300 [b.av,.int .i64 x,.int .i64 y] (.int .i64 (x*y%b.gr.p)):=by
 have k1:=h.p1;have k3:=h.p3
 have k2:=chk_ok (a:=x) (b:=y) (m:=b.gr.p) (by omega) (by omega) (by omega) (by omega) (by omega) (by omega)
 exact pz Tryz.func300 (by
  apply n_sc (wmul_c (x) (y) ((Bas.gr b).1))
  exact n_outx (Zi (okv (chkI x y (Bas.gr b).1) (x*y%(Bas.gr b).1))) (Ent.of_eq (by rw [k2];rfl)))
theorem rmulR_c (G:Grp) (x y:Int) (h:G.Ok) (hx:0≤x∧x<G.p) (hy:0≤y∧y<G.p):Pure Tryz.prog gl0 211 [G.av,.int .i64 x,.int .i64 y] (.int .i64 (x*y%G.p)):=by
 have k1:=h.p1;have k3:=h.p3
 exact pz Tryz.func211 (by
  refine n_old (.sc true 145 [Zi x,Zi y,Zi G.1] (Zi (x*y%G.1)) (.out (Zi (x*y%G.1)) [] (Zi (x*y%Grp.p G)) [])) ?_
  grind [k_sc,rmul_c,k_out,Ent.refl])
theorem prodR_c (b:Bas) (x e y:Int) (h:b.gr.Ok) (hx:0≤x∧x<b.gr.p) (he:0≤e∧e<b.gr.q) (hy:0≤y∧y<b.gr.p):Pure Tryz.prog gl0 245 [b.av,.int .i64 x,.int .i64 e,.int .i64 y,.int .i64 1] (.int .i64 (x^e.toNat%b.gr.p*y%b.gr.p)):=by
 have k1:=h.p1;have k3:=h.p3;have kq:=h.q3
 have c1:=powR_c b x e h hx he
 have c2:=powR_c b y 1 h hy (by omega)
 have m1:0≤x^e.toNat%b.gr.p∧x^e.toNat%b.gr.p<b.gr.p:=⟨Int.emod_nonneg _ (by omega),Int.emod_lt_of_pos _ (by omega)⟩
 have y1:y^(1:Int).toNat%b.gr.p=y:=by rw [show (1:Int).toNat=1 from rfl,Int.pow_succ,Int.pow_zero,Int.one_mul,Int.emod_eq_of_lt hy.1 hy.2]
 rw [y1] at c2
 have c3:=mulR_c b _ y h m1 hy
 exact pz Tryz.func245 (by
  apply n_sc (c1)
  apply n_sc (c2)
  apply n_sc (c3)
  refine n_old (.out (Zi (x^toNat e%(Bas.gr b).1*y%(Bas.gr b).1)) [] (Zi (x^toNat e%Grp.p (Bas.gr b)*y%Grp.p (Bas.gr b))) []) ?_
  simp [k_out,Ent.refl])
theorem elemsR_c0 (b:Bas) (u0 u1 u2 u3:Int) (hw:b.gr.W):Pure Tryz.prog gl0 243 [b.av,.isl 1 4 fun i _=>.int .i64 (elF u0 u1 u2 u3 i)] (.bool (elemB b.gr u0&&elsB b.gr u1 u2 u3)):=by
 have e:allI (fun i=>elemB b.gr (elF u0 u1 u2 u3 i)) 4=(elemB b.gr u0&&elsB b.gr u1 u2 u3):=allE4
 rw [← e];clear e
 exact pz Tryz.func243 (by
  apply n_loop ({ x:Nat // x≤4∧(fun (i:Nat)=>∀ (j:Nat),j<i→elemB (Bas.gr b) (elF u0 u1 u2 u3 j)=true) x }) [2,7,8,9] [0] (fun x=>[.own 0 6 0 0 6,.isl 1 4 fun i x=>Zi (elF u0 u1 u2 u3 i),Zi 4,Zi x.1]) (fun _=>[some ⟨6,1,true,.lst [Bas.cells b]⟩]) (fun x=>4 - x.1) (⟨0,⟨Nat.zero_le 4,fun (j:Nat) (hj:j<0)=>absurd hj (Nat.not_lt_zero j)⟩⟩)
  intro x0
  try (have q0:=x0.2;dsimp only at q0)
  apply n_bd ((x0.1:Int)<4)
  ·intro g1
   apply n_req (0≤(x0.1:Int)∧(x0.1:Int)<4)
   apply n_sc ((elementR_c b) (elF u0 u1 u2 u3 (toNat (↑x0.1:Int))) (by omega))
   apply n_br (!elemB b.1 (elF u0 u1 u2 u3 (toNat (x0.1:Int))))
   ·intro g4
    try simp only [Int.toNat_natCast] at g4
    exact n_outx (.bool false) (by exact Ent.of_eq (congrArg _ (allI_f (i:=x0.1) (by omega) g4).symm))
   ·intro g4
    try simp only [Int.toNat_natCast] at g4
    exact n_again [0] (⟨x0.1+1,by omega,all_next q0.2 g4⟩) (ek3 (en (inc_ent (by omega))))
  ·intro g1
   exact n_outx (.bool true) (by exact Ent.of_eq (congrArg _ (allI_t fun i hi=>q0.2 i (by omega)).symm)))
theorem elemsR_c (b:Bas) (x0 x1 x2 x3:Int) (hw:b.gr.W):Pure Tryz.prog gl0 243 [b.av,.isl 1 4 fun r k=>atL (List.getD [[.int .i64 x0],[.int .i64 x1],[.int .i64 x2],[.int .i64 x3]] r []) k] (.bool (elemB b.gr x0&&elsB b.gr x1 x2 x3)) :=
 (elemsR_c0 b x0 x1 x2 x3 hw).via ⟨Ent.refl _,Ent.isl fun i j hi hj=>by obtain rfl:j=0:=Nat.lt_one_iff.1 hj;match i,hi with|0,_|1,_|2,_|3,_=>rfl,trivial⟩
theorem encU_c (L:List It) (n:Nat) (F:Nat→Nat→AV) (hn:n=L.length) (hF:∀ i k,i<n→k<4→Ent [] (F i k) (atL (L.getD i (.int 0)).cells k)) (h:(lsI L).okD 8=true) (hl:(lsI L).enc.length≤16384) :
  Pure Tryz.prog gl0 302 [.agg [.int .i64 3,.int .i64 0,.nsl,.isl 4 n F]] (.tup [il .u8 (lsI L).enc,.int .i64 0]):=(encode_c (lsI L) h hl).via ⟨liU_out hn hF,trivial⟩
theorem rencU_c (L:List It) (n:Nat) (F:Nat→Nat→AV) (hn:n=L.length) (hF:∀ i k,i<n→k<4→Ent [] (F i k) (atL (L.getD i (.int 0)).cells k)) (hl:(lsI L).enc.length≤16384) :
  Pure Tryz.prog gl0 219 [.agg [.int .i64 3,.int .i64 0,.nsl,.isl 4 n F]] (il .u8 (lsI L).enc):=(renc_c (lsI L) (by omega)).via ⟨liU_out hn hF,trivial⟩
theorem crt_c (b:Bas) (a:Int) (root:Nat→Int) (z sa sb r:Int) (hw:b.gr.W) (hr:byB root 32):Pure Tryz.prog gl0 346 [b.av,.int .i64 a,.agg (u8c root),.agg [.int .i64 z,.int .i64 sa,.int .i64 sb,.int .i64 r]] (crtV b a root z sa sb):=by
 have hE:=elemsR_c b a z sa sb hw
 have he:=fun n F hn hF=>encU_c (crtJ b a root z sa sb) n F hn hF (crtI_ok b a z sa sb root) (by rw [show (lsI (crtJ b a root z sa sb)).enc.length=132 from crtI_len b a z sa sb root];decide)
 have ht:=tagged_c "specie/coin".toUTF8 (by decide) (by decide) (fun k=>(crtI b a root z sa sb).enc.getD k 0) (crtI b a root z sa sb).enc.length (by rw [crtI_len];decide) (It.enc_by (crtI_okB hr))
 have hn:=fun h1 h2=>number_c (tagI "specie/coin".toUTF8 (crtI b a root z sa sb)) b.gr.q h1 h2 (tagI_by _ _ _)
 exact pz Tryz.func346 (by
  apply n_sc ((bvalid_c b) (by assumption))
  apply n_br (!validB b)
  ·intro g1
   exact n_outx (.tup [Zi 0,Zi 1]) (by exact Ent.of_eq (crt_1 g1))
  ·intro g1
   apply n_sc (hE)
   apply n_br (!(elemB b.1 a&&elsB b.1 z sa sb))
   ·intro g4
    exact n_outx (.tup [Zi 0,Zi 2]) (by exact Ent.of_eq (crt_2 g1 g4))
   ·intro g4
    apply n_loopx ({ x:Nat // x≤7 }) [4,6,7,10,49,50,51] [0,8,16,176,320,1373] (fun x=>[.own 0 6 0 0 6,.own 1 32 0 0 32,.own 2 4 0 0 4,.own 3 4 0 0 4,.osl 4 1 0 7,Zi 7,Zi x.1]) (fun x=>[some ⟨6,1,true,.lst [Bas.cells b]⟩,some ⟨32,1,true,.lst [u8c root]⟩,some ⟨4,1,true,.lst [[Zi z,Zi sa,Zi sb,Zi r]]⟩,some ⟨4,1,true,.lst [[Zi 3,Zi 0,.nsl,.osl 5 4 0 (x.1)]]⟩,some ⟨1,7,true,.fn fun i x=>Zi (crtL b a i)⟩,some ⟨4,x.1,true,Rep.row fun i=>It.cells (It.int (crtL b a i))⟩]) (fun x=>7 - x.1) (⟨0,Nat.zero_le 7⟩) [.own 0 6 0 0 6,.own 1 32 0 0 32,.own 2 4 0 0 4,.own 3 4 0 0 4,.osl 4 1 0 7,Zi 7,Zi 0] [some ⟨6,1,true,.lst [Bas.cells b]⟩,some ⟨32,1,true,.lst [u8c root]⟩,some ⟨4,1,true,.lst [[Zi z,Zi sa,Zi sb,Zi r]]⟩,some ⟨4,1,true,.lst [[Zi 3,Zi 0,.nsl,.nsl]]⟩,some ⟨1,7,true,.lst [[Zi (Grp.p (Bas.gr b))],[Zi (Grp.q (Bas.gr b))],[Zi (Grp.g (Bas.gr b))],[Zi (Bas.g1 b)],[Zi (Bas.g2 b)],[Zi (Bas.h b)],[Zi a]]⟩,some ⟨4,0,true,.ty (999999999:TypeId) (.lst [])⟩] (⟨.refl _,.refl _,.refl _,.refl _,.refl _,.refl _,.refl _,trivial⟩) (⟨.refl _,.refl _,.refl _,by exact ObEnt.row (by repeat' (first|exact trivial|(first|exact Ent.refl _|exact inc_ent (by omega)|exact Ent.nil rfl|exact Ent.of_eq (congrArg (AV.osl _ _ _) (by first|omega|(dsimp only;omega)))|exact Ent.of_eq (congrArg (AV.int _) (by first|omega|(dsimp only;omega))))|refine And.intro ?_ ?_)),crtL_ob,.zero,trivial⟩)
    intro x6
    try (have q6:=x6.2;dsimp only at q6)
    apply n_bd ((x6.1:Int)<7)
    ·intro g7
     apply n_req (0≤(x6.1:Int)∧(x6.1:Int)<7)
     apply n_dc (numI_c (crtL b a (toNat (↑x6.1:Int)+0)))
     apply n_req ((x6.1+1)*64≤140737488355328)
     exact n_againx [0,1,2,3,4,78] (⟨x6.1+1,by omega⟩) [.own 0 6 0 0 6,.own 1 32 0 0 32,.own 2 4 0 0 4,.own 3 4 0 0 4,.osl 4 1 0 7,Zi 7,Zi (wrap .i64 ((x6.1:Int)+1))] [some ⟨6,1,true,.lst [Bas.cells b]⟩,some ⟨32,1,true,.lst [u8c root]⟩,some ⟨4,1,true,.lst [[Zi z,Zi sa,Zi sb,Zi r]]⟩,some ⟨4,1,true,.lst [[Zi 3,Zi 0,.nsl,.osl 5 4 0 (x6.1+1)]]⟩,some ⟨1,7,true,.fn fun i j=>Zi (crtL b a i)⟩,some ⟨4,x6.1+1,true,Rep.cat x6.1 (Rep.row fun i=>[Zi (It.kind (It.int (crtL b a i))),Zi (It.num (It.int (crtL b a i))),.isl 1 0 fun i_1 x=>Zb (It.fb (It.int (crtL b a i)) i_1),.isl 4 0 (It.row (It.int (crtL b a i)))]) (.lst [[Zi (It.kind (It.int (crtL b a (toNat (x6.1:Int)+0)))),Zi (It.num (It.int (crtL b a (toNat (x6.1:Int)+0)))),.isl 1 0 fun i x=>Zb (It.fb (It.int (crtL b a (toNat (x6.1:Int)+0))) i),.isl 4 0 (It.row (It.int (crtL b a (toNat (x6.1:Int)+0))))]])⟩] (⟨.refl _,.refl _,.refl _,.refl _,.refl _,.refl _,inc_ent (by omega),trivial⟩) (⟨.refl _,.refl _,.refl _,.refl _,.refl _,.pushRow rfl,trivial⟩)
    ·intro g7
     apply n_dc (numI_c (z))
     apply n_dc (numI_c (sa))
     apply n_dc (numI_c (sb))
     apply n_req ((x6.1+4)*64≤140737488355328)
     apply n_dc (he (x6.1+4) (fun (r k:Nat)=>mixA (Nat.blt (r+0) x6.1) (atL [Zi (It.kind (It.int (crtL b a (r+0)))),Zi (It.num (It.int (crtL b a (r+0)))),AV.isl (1) (0) fun (i x:Nat)=>Zb (It.fb (It.int (crtL b a (r+0))) i),AV.isl (4) (0) (It.row (It.int (crtL b a (r+0))))] k) (atL (List.getD [[Zi 2,Zi 0,AV.isl (1) (32) fun (r x:Nat)=>Zb (intOfAV (atL (u8c root) (0+(0+r)))),AV.nsl],[Zi (It.kind (It.int z)),Zi (It.num (It.int z)),AV.isl (1) (0) fun (i x:Nat)=>Zb (It.fb (It.int z) i),AV.isl (4) (0) (It.row (It.int z))],[Zi (It.kind (It.int sa)),Zi (It.num (It.int sa)),AV.isl (1) (0) fun (i x:Nat)=>Zb (It.fb (It.int sa) i),AV.isl (4) (0) (It.row (It.int sa))],[Zi (It.kind (It.int sb)),Zi (It.num (It.int sb)),AV.isl (1) (0) fun (i x:Nat)=>Zb (It.fb (It.int sb) i),AV.isl (4) (0) (It.row (It.int sb))]] (r+0 - x6.1) []) k)) (by (show _=11;omega)) (by exact fun i k hi _=>crtF_ok (by omega) hi))
     apply n_ff
     apply n_sc (ht)
     apply n_ff
     apply n_sc (hn (by exact (validB_q g1).1) (by exact (validB_q g1).2))
     exact n_outx (.tup [Zi (numF (tagI (String.toUTF8 "specie/coin") (crtI b a root z sa sb)) (Bas.gr b).2 16),Zi 0]) (by exact Ent.of_eq (crt_3 g1 g4)))
theorem thash0_w (tag s:ByteArray) (h:Nat→Int) (cnt:Int) (_:s.size≤24) (E:List Int) (T:Nat→Int)
  (c1:∀ F,(∀ i k,i<2→k<4→Ent [] (F i k) (atL ((trsJ h s []).getD i (.int 0)).cells k))→Pure Tryz.prog gl0 302 [.agg [.int .i64 3,.int .i64 0,.nsl,.isl 4 2 F]] (.tup [il .u8 E,.int .i64 0]))
  (c2:Pure Tryz.prog gl0 307 [.str tag,il .u8 E] (.tup [.agg (u8c T),.int .i64 0])) :
  Pure Tryz.prog gl0 345 [.str tag,.agg (u8c h++[.int .i64 cnt]),.str s,.nsl] (.tup [.agg (u8c T),.int .i64 0]):=by
 exact pz Tryz.func345 (by
  apply n_req (128≤140737488355328)
  apply n_dc (c1 (fun (r k:Nat)=>atL (List.getD [[Zi 2,Zi 0,AV.isl (1) (32) fun (r x:Nat)=>Zb (intOfAV (atL (u8c h++[Zi cnt]) (0+(0+r)))),AV.nsl],[Zi 2,Zi 0,AV.isl (1) (ByteArray.size s) fun (i x:Nat)=>Zb (↑(UInt8.toNat (List.getD (Array.toList (ByteArray.data s)) i (0:UInt8))):Int),AV.nsl]] (r+0) []) k) (fun i k hi _=>trs0_F hi))
  apply n_ff
  apply n_sc (c2)
  exact n_or)
theorem thash1_w (tag s:ByteArray) (h:Nat→Int) (cnt:Int) (_:s.size≤24) (x:It) (a b:Int) (n m:Nat) (f:Nat→Int) (g:Nat→Nat→AV) (hx:∀ k,k<4→Ent [] (atL [.int .i64 a,.int .i64 b,bys n f,.isl 4 m g] k) (atL x.cells k)) (E:List Int) (T:Nat→Int)
  (c1:∀ F,(∀ i k,i<3→k<4→Ent [] (F i k) (atL ((trsJ h s [x]).getD i (.int 0)).cells k))→Pure Tryz.prog gl0 302 [.agg [.int .i64 3,.int .i64 0,.nsl,.isl 4 3 F]] (.tup [il .u8 E,.int .i64 0]))
  (c2:Pure Tryz.prog gl0 307 [.str tag,il .u8 E] (.tup [.agg (u8c T),.int .i64 0])) :
  Pure Tryz.prog gl0 345 [.str tag,.agg (u8c h++[.int .i64 cnt]),.str s,.isl 4 1 fun _ k=>atL [.int .i64 a,.int .i64 b,bys n f,.isl 4 m g] k] (.tup [.agg (u8c T),.int .i64 0]):=by
 exact pz Tryz.func345 (by
  apply n_req (192≤140737488355328)
  apply n_dc (c1 (fun (r k:Nat)=>mixA (Nat.blt (r+0) (2)) (atL (List.getD [[Zi 2,Zi 0,AV.isl (1) (32) fun (r x:Nat)=>Zb (intOfAV (atL (u8c h++[Zi cnt]) (0+(0+r)))),AV.nsl],[Zi 2,Zi 0,AV.isl (1) (ByteArray.size s) fun (i x:Nat)=>Zb (↑(UInt8.toNat (List.getD (Array.toList (ByteArray.data s)) i (0:UInt8))):Int),AV.nsl]] (r+0) []) k) (atL [Zi a,Zi b,AV.isl (1) n fun (i x:Nat)=>Zb (f i),AV.isl (4) m g] k)) (fun i k hi hk=>trs1_F hx hi hk))
  apply n_ff
  apply n_sc (c2)
  exact n_or)
theorem thash0_c (tag s:ByteArray) (h1:1≤tag.size) (h2:tag.size≤100) (h:Nat→Int) (cnt:Int) (hs:s.size≤24) (hb:byB h 32):Pure Tryz.prog gl0 345 [.str tag,.agg (u8c h++[.int .i64 cnt]),.str s,.nsl] (.tup [.agg (u8c (tagI tag (trsI h s []))),.int .i64 0]) :=
 thash0_w tag s h cnt hs (trsI h s []).enc _ (fun F hF=>encU_c (trsJ h s []) 2 F rfl hF (trs0_ok h s) (by have:=trs0_len h s;unfold trsI at this;omega))
  (tagged_c tag h2 h1 (fun k=>(trsI h s []).enc.getD k 0) (trsI h s []).enc.length (by rw [trs0_len];omega) (It.enc_by (trs0_okB hb)))
structure Smal (x : It) : Prop where
  ok : x.okD 7 = true
  len : x.enc.length ≤ 10000
  by' : x.okB
theorem thash1_c (tag s:ByteArray) (h1:1≤tag.size) (h2:tag.size≤100) (h:Nat→Int) (cnt:Int) (hs:s.size≤24) (hb:byB h 32) (x:It) (a b:Int) (n m:Nat) (f:Nat→Int) (g:Nat→Nat→AV) (hx:∀ k,k<4→Ent [] (atL [.int .i64 a,.int .i64 b,bys n f,.isl 4 m g] k) (atL x.cells k)) (H:Smal x) :
  Pure Tryz.prog gl0 345 [.str tag,.agg (u8c h++[.int .i64 cnt]),.str s,.isl 4 1 fun r k=>atL (List.getD [[.int .i64 a,.int .i64 b,bys n f,.isl 4 m g]] r []) k] (.tup [.agg (u8c (tagI tag (trsI h s [x]))),.int .i64 0]) :=
 (thash1_w tag s h cnt hs x a b n m f g hx (trsI h s [x]).enc _ (fun F hF=>encU_c (trsJ h s [x]) 3 F rfl hF (trs1_ok h s H.ok) (by have:=trs1_len h s x;have:=H.len;unfold trsI at *;omega))
  (tagged_c tag h2 h1 (fun k=>(trsI h s [x]).enc.getD k 0) (trsI h s [x]).enc.length (by rw [trs1_len];have:=H.len;omega) (It.enc_by (trs1_okB hb H.by')))).via
  ⟨Ent.refl _,Ent.refl _,Ent.refl _,Ent.isl fun i k hi _=>by obtain rfl:i=0:=Nat.lt_one_iff.1 hi;rfl,trivial⟩
theorem tval_c (h:Nat→Int) (cnt:Int):Pure Tryz.prog gl0 344 [.agg (u8c h++[.int .i64 cnt])] (.bool (decide (cnt≥0)&&decide (cnt≤1000))):=by
 exact pz Tryz.func344 (by
  exact n_or)
theorem absorb_w (s:ByteArray) (h:Nat→Int) (cnt:Int) (hc:0≤cnt∧cnt<1000) (hl:labB s=true) (a b:Int) (n m:Nat) (f:Nat→Int) (g:Nat→Nat→AV) (T:Nat→Int)
  (c3:Pure Tryz.prog gl0 345 [.str "specie/absorb".toUTF8,.agg (u8c h++[.int .i64 cnt]),.str s,.isl 4 1 fun r k=>atL (List.getD [[.int .i64 a,.int .i64 b,bys n f,.isl 4 m g]] r []) k] (.tup [.agg (u8c T),.int .i64 0])) :
  Pure Tryz.prog gl0 343 [.agg (u8c h++[.int .i64 cnt]),.str s,.agg [.int .i64 a,.int .i64 b,bys n f,.isl 4 m g]] (.tup [.agg (u8c T++[.int .i64 (cnt+1)]),.int .i64 0]):=by
 have v1:=(lab_V hl).hi
 have c1:=tlab_c s (by omega)
 rw [hl] at c1
 have c2:=tval_c h cnt
 exact pz Tryz.func343 (by
  apply n_sc (c2)
  apply n_scg ((!(decide (cnt≥0)&&decide (cnt≤1000)))==false) (fun h1=>c1)
  apply n_br (!(decide (cnt≥0)&&decide (cnt≤1000))||false)
  ·intro g2
   exact n_no (by rcases g2 with g2|g2;(· omega);(· cases g2))
  ·intro g2
   apply n_sc (c3)
   apply n_ff
   apply n_br (cnt==1000)
   ·intro _
    exact n_outx (.tup [.agg [Zb 0,Zb 0,Zb 0,Zb 0,Zb 0,Zb 0,Zb 0,Zb 0,Zb 0,Zb 0,Zb 0,Zb 0,Zb 0,Zb 0,Zb 0,Zb 0,Zb 0,Zb 0,Zb 0,Zb 0,Zb 0,Zb 0,Zb 0,Zb 0,Zb 0,Zb 0,Zb 0,Zb 0,Zb 0,Zb 0,Zb 0,Zb 0,Zi 0],Zi 5]) (Ent.of_eq (by simp_all))
   ·intro _
    exact n_outx (.tup [.agg (u8c T++[Zi (wrap .i64 (cnt+1))]),Zi 0]) (Ent.of_eq (by rw [wI (by omega) (by omega)])))
theorem ints_sm (l:List Int) (h:l.length≤100):Smal (intsI l):=⟨by simp [intsI,It.okD];omega,by rw [intsI_len];omega,fun _ _=>trivial⟩
theorem absorb_c (s:ByteArray) (h:Nat→Int) (cnt:Int) (hc:0≤cnt∧cnt<1000) (hl:labB s=true) (hb:byB h 32) (x:It) (H:Smal x) (a b:Int) (n m:Nat) (f:Nat→Int) (g:Nat→Nat→AV) (hx:∀ k,k<4→Ent [] (atL [.int .i64 a,.int .i64 b,bys n f,.isl 4 m g] k) (atL x.cells k)) :
  Pure Tryz.prog gl0 343 [.agg (u8c h++[.int .i64 cnt]),.str s,.agg [.int .i64 a,.int .i64 b,bys n f,.isl 4 m g]] (.tup [.agg (u8c (absF h s x)++[.int .i64 (cnt+1)]),.int .i64 0]) :=
 absorb_w s h cnt hc hl a b n m f g _ (thash1_c "specie/absorb".toUTF8 s (by decide) (by decide) h cnt (lab_V hl).hi hb x a b n m f g hx H)
theorem tints_c (s:ByteArray) (h:Nat→Int) (cnt:Int) (hc:0≤cnt∧cnt<1000) (hl:labB s=true) (hb:byB h 32) (l:List Int) (hn:l.length≤100) :
  Pure Tryz.prog gl0 298 [.agg (u8c h++[.int .i64 cnt]),.str s,il .i64 l] (.tup [.agg (u8c (absF h s (intsI l))++[.int .i64 (cnt+1)]),.int .i64 0]):=by
 have c1:=ints_c l (by omega)
 have c2:=absorb_c s h cnt hc hl hb (intsI l) (ints_sm l hn) (intsI l).kind (intsI l).num (intsI l).nb (intsI l).nl (intsI l).fb (intsI l).row (fun k hk=>Ent.refl _)
 exact pz Tryz.func298 (by
  apply n_dc (c1)
  apply n_sc (c2)
  exact n_or)
theorem int_sm (c:Int):Smal (.int c):=⟨rfl,by rw [int_len];decide,trivial⟩
theorem absInt_c (s:ByteArray) (h:Nat→Int) (cnt:Int) (hc:0≤cnt∧cnt<1000) (hl:labB s=true) (hb:byB h 32) (c:Int) :
  Pure Tryz.prog gl0 343 [.agg (u8c h++[.int .i64 cnt]),.str s,.agg [.int .i64 1,.int .i64 c,.nsl,.nsl]] (.tup [.agg (u8c (absF h s (.int c))++[.int .i64 (cnt+1)]),.int .i64 0]) :=
 (absorb_c s h cnt hc hl hb (.int c) (int_sm c) 1 c 0 0 (It.int c).fb (It.int c).row (fun _ _=>Ent.refl _)).via ⟨Ent.refl _,Ent.refl _,Ent.agg ⟨Ent.refl _,Ent.refl _,Ent.nsl,Ent.nsl,trivial⟩,trivial⟩
theorem tchal_w (s:ByteArray) (h:Nat→Int) (cnt:Int) (hc:0≤cnt∧cnt<1000) (hl:labB s=true) (q:Int) (hq:2≤q∧q<2305843009213693952) (T:Nat→Int) (hT:byB T 32) (N:Nat→Int) (c3:Pure Tryz.prog gl0 345 [.str "specie/challenge".toUTF8,.agg (u8c h++[.int .i64 cnt]),.str s,.nsl] (.tup [.agg (u8c T),.int .i64 0]))
  (c5:Pure Tryz.prog gl0 343 [.agg (u8c h++[.int .i64 cnt]),.str s,.agg [.int .i64 1,.int .i64 (numF T q 16),.nsl,.nsl]] (.tup [.agg (u8c N++[.int .i64 (cnt+1)]),.int .i64 0])) :
  Pure Tryz.prog gl0 299 [.agg (u8c h++[.int .i64 cnt]),.str s,.int .i64 q] (.tup [.agg (u8c N++[.int .i64 (cnt+1)]),.int .i64 (numF T q 16),.int .i64 0]):=by
 have v1:=(lab_V hl).hi
 have c1:=tlab_c s (by omega)
 rw [hl] at c1
 have c2:=tval_c h cnt
 have c4:=number_c T q (by omega) hq.2 hT
 exact pz Tryz.func299 (by
  apply n_sc (c2)
  apply n_scg ((!(decide (cnt≥0)&&decide (cnt≤1000)))==false) (fun h1=>c1)
  apply n_br (!(decide (cnt≥0)&&decide (cnt≤1000))||false)
  ·intro g2
   exact n_no (by rcases g2 with g2|g2;(· omega);(· cases g2))
  ·intro g2
   apply n_br (decide (q<2)||decide (q≥2305843009213693952))
   ·intro g4
    exact n_no (by omega)
   ·intro g4
    apply n_br (cnt==1000)
    ·intro g6
     exact n_outx (.tup [.agg [Zb 0,Zb 0,Zb 0,Zb 0,Zb 0,Zb 0,Zb 0,Zb 0,Zb 0,Zb 0,Zb 0,Zb 0,Zb 0,Zb 0,Zb 0,Zb 0,Zb 0,Zb 0,Zb 0,Zb 0,Zb 0,Zb 0,Zb 0,Zb 0,Zb 0,Zb 0,Zb 0,Zb 0,Zb 0,Zb 0,Zb 0,Zb 0,Zi 0],Zi 0,Zi 5]) (Ent.of_eq (by simp_all))
    ·intro g6
     apply n_sc (c3)
     apply n_ff
     apply n_sc (c4)
     apply n_ff
     apply n_sc (c5)
     apply n_ff
     exact n_or)
theorem tchal_c (s:ByteArray) (h:Nat→Int) (cnt:Int) (hc:0≤cnt∧cnt<1000) (hl:labB s=true) (hb:byB h 32) (q:Int) (hq:2≤q∧q<2305843009213693952) :
  Pure Tryz.prog gl0 299 [.agg (u8c h++[.int .i64 cnt]),.str s,.int .i64 q] (.tup [.agg (u8c (absF h s (.int (chlN h s q)))++[.int .i64 (cnt+1)]),.int .i64 (chlN h s q),.int .i64 0]) :=
 tchal_w s h cnt hc hl q hq _ (tagI_by _ _ _) _ (thash0_c "specie/challenge".toUTF8 s (by decide) (by decide) h cnt (lab_V hl).hi hb) (absInt_c s h cnt hc hl hb (chlN h s q))
theorem rframe0_c (s:ByteArray) (h:Nat→Int) (cnt:Int) (_:s.size≤24):Pure Tryz.prog gl0 328 [.agg (u8c h++[.int .i64 cnt]),.str s,.nsl] (trsI h s []).av:=by
 exact pz Tryz.func328 (by
  apply n_req (32≤140737488355328) (by omega)
  apply n_req (128≤140737488355328) (by omega)
  exact n_outx (.agg [Zi 3,Zi 0,.nsl,.isl 4 2 fun r k=>atL (List.getD [[Zi 2,Zi 0,.isl 1 32 fun r k=>Zb (intOfAV (atL (u8c h++[Zi cnt]) (0+(0+(r+0))))),.nsl],[Zi 2,Zi 0,.isl 1 (ByteArray.size s) fun i x=>Zb (↑(UInt8.toNat (List.getD (Array.toList (ByteArray.data s)) i (0:UInt8))):Int),.nsl]] (r+0) []) k]) (liU_out (L:=trsJ h s []) rfl (fun i k hi _=>trs0_F hi)))
theorem rframe1_c (s:ByteArray) (h:Nat→Int) (cnt:Int) (_:s.size≤24) (x:It) (a b:Int) (n m:Nat) (f:Nat→Int) (g:Nat→Nat→AV) (hx:∀ k,k<4→Ent [] (atL [.int .i64 a,.int .i64 b,bys n f,.isl 4 m g] k) (atL x.cells k)):Pure Tryz.prog gl0 328 [.agg (u8c h++[.int .i64 cnt]),.str s,.isl 4 1 fun _ k=>atL [.int .i64 a,.int .i64 b,bys n f,.isl 4 m g] k] (trsI h s [x]).av:=by
 exact pz Tryz.func328 (by
  apply n_req (32≤140737488355328) (by omega)
  apply n_req (192≤140737488355328) (by omega)
  exact n_outx (.agg [Zi 3,Zi 0,.nsl,.isl 4 3 fun r k=>mixA (Nat.blt (r+0) 2) (atL (List.getD [[Zi 2,Zi 0,.isl 1 32 fun r k=>Zb (intOfAV (atL (u8c h++[Zi cnt]) (0+(0+(r+0))))),.nsl],[Zi 2,Zi 0,.isl 1 (ByteArray.size s) fun i x=>Zb (↑(UInt8.toNat (List.getD (Array.toList (ByteArray.data s)) i (0:UInt8))):Int),.nsl]] (r+0) []) k) (atL [Zi a,Zi b,.isl 1 n fun i x=>Zb (f i),.isl 4 m g] k)]) (liU_out (L:=trsJ h s [x]) rfl (fun i k hi hk=>trs1_F hx hi hk)))
theorem rvalid_d {n:Nat} {c:Nat→It} {d:Int} (h:(It.li n c).okD d=true):0<d∧n≤1000∧∀ i,i<n→(c i).okD (d - 1)=true:=It.okD_li h
theorem rvalid_int (n w:Int):Pure Tryz.prog gl0 384 [.agg [.int .i64 1,.int .i64 n,bys 0 (fun _=>0),.isl 4 0 (fun _ _=>.junk)],.int .i64 w] (.bool true):=by
 exact pz Tryz.func384 (by
  apply n_tt
  exact n_or)
theorem rvalid_byt (n:Nat) (f:Nat→Int) (w:Int):Pure Tryz.prog gl0 384 [.agg [.int .i64 2,.int .i64 0,bys n f,.isl 4 0 (fun _ _=>.junk)],.int .i64 w] (.bool true):=by
 exact pz Tryz.func384 (by
  apply n_ff
  apply n_tt
  exact n_or)
theorem rvalid_lw (n:Nat) (c:Nat→It) (w:Int) (hw:0≤w∧w<8) (hn:n≤1000) (hc:∀ i,i<n→Pure Tryz.prog gl0 384 [(c i).av,.int .i64 (w+1)] (.bool true)) :
  Pure Tryz.prog gl0 384 [.agg [.int .i64 3,.int .i64 0,bys 0 (fun _=>0),It.sl n c],.int .i64 w] (.bool true):=by
 have e:IntKind.wrap .i64 (w+1)=w+1:=wI (by omega) (by omega)
 rw [← e] at hc
 exact pz Tryz.func384 (by
  apply n_ff
  apply n_ff
  apply n_tt
  apply n_br (decide ((n:Int)>1000)||w==8)
  ·intro g3
   exact n_no (by omega)
  ·intro g3
   apply n_loop ({ x:Nat // x≤n }) [1,2,5] [0] (fun x=>[Zi w,.own 0 4 0 0 4,Zi x.1]) (fun x=>[some ⟨4,1,true,.lst [[Zi 3,Zi 0,.isl 1 0 fun i x=>Zb 0,.isl 4 n fun i j=>atL (It.cells (c i)) j]]⟩]) (fun x=>n - x.1) (⟨0,Nat.zero_le n⟩)
   intro x5
   try (have q5:=x5.2;dsimp only at q5)
   apply n_bd ((x5.1:Int)<(n:Int))
   ·intro g6
    apply n_req (0≤(x5.1:Int)∧(x5.1:Int)<(n:Int))
    apply n_sc (hc (toNat (↑x5.1:Int)) (by omega))
    apply n_ff
    exact n_again [0] (⟨x5.1+1,by omega⟩) (ek2 (en (inc_ent (by omega))))
   ·intro g6
    exact n_or)
theorem rvalid_all:∀ (x:It) (d:Int),0≤d∧d≤8→x.okD d=true→Pure Tryz.prog gl0 384 [x.av,.int .i64 (8 - d)] (.bool true)
 | .int n,d,_,_=>rvalid_int n (8 - d)
 | .byt n f,d,_,_=>rvalid_byt n f (8 - d)
 | .li n c,d,hd,h=>by
  obtain ⟨h1,h2,h3⟩:=rvalid_d h
  refine rvalid_lw n c (8 - d) (by omega) h2 (fun i hi=>?_)
  have:=rvalid_all (c i) (d - 1) (by omega) (h3 i hi)
  rw [show 8 - (d - 1)=8 - d+1 by omega] at this
  exact this
theorem rvalid_c (x:It) (h:x.okD 8=true):Pure Tryz.prog gl0 364 [x.av] (.bool true):=by
 have c1:=rvalid_all x 8 (by decide) h
 exact pz Tryz.func364 (by
  apply n_sc (c1)
  exact n_or)
theorem rtval_c (h:Nat→Int) (cnt:Int):Pure Tryz.prog gl0 327 [.agg (u8c h++[.int .i64 cnt])] (.bool (decide (cnt≥0)&&decide (cnt≤1000))):=by
 exact pz Tryz.func327 (by
  exact n_or)
theorem rabsorb_w (s:ByteArray) (h:Nat→Int) (cnt:Int) (hc:0≤cnt∧cnt<1000) (hl:labB s=true) (a b:Int) (n m:Nat) (f:Nat→Int) (g:Nat→Nat→AV) (F:Nat→Nat→AV) (E:List Int) (hE:E.length≤16384) (T:Nat→Int)
  (c3:Pure Tryz.prog gl0 328 [.agg (u8c h++[.int .i64 cnt]),.str s,.isl 4 1 fun r k=>atL (List.getD [[.int .i64 a,.int .i64 b,bys n f,.isl 4 m g]] r []) k] (.agg [.int .i64 3,.int .i64 0,bys 0 (fun _=>0),.isl 4 3 F]))
  (c4:Pure Tryz.prog gl0 364 [.agg [.int .i64 3,.int .i64 0,bys 0 (fun _=>0),.isl 4 3 F]] (.bool true))
  (c5:Pure Tryz.prog gl0 219 [.agg [.int .i64 3,.int .i64 0,bys 0 (fun _=>0),.isl 4 3 F]] (il .u8 E))
  (c6:Pure Tryz.prog gl0 218 [.str "specie/absorb".toUTF8,il .u8 E] (.agg (u8c T))) :
  Pure Tryz.prog gl0 325 [.agg (u8c h++[.int .i64 cnt]),.str s,.agg [.int .i64 a,.int .i64 b,bys n f,.isl 4 m g]] (.tup [.agg (u8c T++[.int .i64 (cnt+1)]),.int .i64 0]):=by
 have v1:=(lab_V hl).hi
 have c1:=rlab_c s (by omega)
 rw [hl] at c1
 have c2:=rtval_c h cnt
 exact pz Tryz.func325 (by
  apply n_sc (c2)
  apply n_scg ((!(decide (cnt≥0)&&decide (cnt≤1000)))==false) (fun h1=>c1)
  apply n_br (!(decide (cnt≥0)&&decide (cnt≤1000))||false)
  ·intro g2
   exact n_no (by rcases g2 with g2|g2;(· omega);(· cases g2))
  ·intro g2
   apply n_dc (c3)
   apply n_sc (c4)
   apply n_ff
   apply n_dc (c5)
   apply n_br (cnt==1000||decide ((↑(List.length E):Int)>16384))
   ·intro g8
    exact n_no (by omega)
   ·intro g8
    apply n_sc (c6)
    exact n_outx (.tup [.agg (u8c T++[Zi (wrap .i64 (cnt+1))]),Zi 0]) (Ent.of_eq (by rw [wI (by omega) (by omega)])))
theorem rabsorb_c (s:ByteArray) (h:Nat→Int) (cnt:Int) (hc:0≤cnt∧cnt<1000) (hl:labB s=true) (hb:byB h 32) (x:It) (H:Smal x) (a b:Int) (n m:Nat) (f:Nat→Int) (g:Nat→Nat→AV) (hx:∀ k,k<4→Ent [] (atL [.int .i64 a,.int .i64 b,bys n f,.isl 4 m g] k) (atL x.cells k)) :
  Pure Tryz.prog gl0 325 [.agg (u8c h++[.int .i64 cnt]),.str s,.agg [.int .i64 a,.int .i64 b,bys n f,.isl 4 m g]] (.tup [.agg (u8c (absF h s x)++[.int .i64 (cnt+1)]),.int .i64 0]) :=
 rabsorb_w s h cnt hc hl a b n m f g (trsI h s [x]).row (trsI h s [x]).enc (by rw [trs1_len];have:=H.len;have:=(lab_V hl).hi;omega) _
  ((rframe1_c s h cnt (lab_V hl).hi x a b n m f g hx).via ⟨Ent.refl _,Ent.refl _,Ent.isl fun i k hi _=>by obtain rfl:i=0:=Nat.lt_one_iff.1 hi;rfl,trivial⟩)
  (rvalid_c (trsI h s [x]) (trs1_ok h s H.ok)) (renc_c (trsI h s [x]) (by rw [trs1_len];have:=H.len;have:=(lab_V hl).hi;omega))
  (rtagged_c "specie/absorb".toUTF8 (by decide) (fun k=>(trsI h s [x]).enc.getD k 0) (trsI h s [x]).enc.length (by rw [trs1_len];have:=H.len;have:=(lab_V hl).hi;omega) (It.enc_by (trs1_okB hb H.by')))
theorem rchal_w (s:ByteArray) (h:Nat→Int) (cnt:Int) (hc:0≤cnt∧cnt<1000) (hl:labB s=true) (q:Int) (hq:2≤q∧q<2305843009213693952) (F:Nat→Nat→AV) (E:List Int) (T:Nat→Int) (hT:byB T 32) (N:Nat→Int)
  (c3:Pure Tryz.prog gl0 328 [.agg (u8c h++[.int .i64 cnt]),.str s,.nsl] (.agg [.int .i64 3,.int .i64 0,bys 0 (fun _=>0),.isl 4 2 F]))
  (c4:Pure Tryz.prog gl0 219 [.agg [.int .i64 3,.int .i64 0,bys 0 (fun _=>0),.isl 4 2 F]] (il .u8 E))
  (c5:Pure Tryz.prog gl0 218 [.str "specie/challenge".toUTF8,il .u8 E] (.agg (u8c T)))
  (c7:Pure Tryz.prog gl0 325 [.agg (u8c h++[.int .i64 cnt]),.str s,.agg [.int .i64 1,.int .i64 (numF T q 16),.nsl,.nsl]] (.tup [.agg (u8c N++[.int .i64 (cnt+1)]),.int .i64 0])) :
  Pure Tryz.prog gl0 271 [.agg (u8c h++[.int .i64 cnt]),.str s,.int .i64 q] (.tup [.agg (u8c N++[.int .i64 (cnt+1)]),.int .i64 (numF T q 16),.int .i64 0]):=by
 have v1:=(lab_V hl).hi
 have c1:=rlab_c s (by omega)
 rw [hl] at c1
 have c2:=rtval_c h cnt
 have c6:=rnumber_c T q (by omega) hq.2 hT
 exact pz Tryz.func271 (by
  apply n_sc (c2)
  apply n_scg ((!(decide (cnt≥0)&&decide (cnt≤1000)))==false) (fun h1=>c1)
  apply n_br (!(decide (cnt≥0)&&decide (cnt≤1000))||false)
  ·intro g2
   exact n_no (by rcases g2 with g2|g2;(· omega);(· cases g2))
  ·intro g2
   apply n_br (decide (q<2)||decide (q≥2305843009213693952))
   ·intro g4
    exact n_no (by omega)
   ·intro g4
    apply n_br (cnt==1000)
    ·intro g6
     exact n_outx (.tup [.agg [Zb 0,Zb 0,Zb 0,Zb 0,Zb 0,Zb 0,Zb 0,Zb 0,Zb 0,Zb 0,Zb 0,Zb 0,Zb 0,Zb 0,Zb 0,Zb 0,Zb 0,Zb 0,Zb 0,Zb 0,Zb 0,Zb 0,Zb 0,Zb 0,Zb 0,Zb 0,Zb 0,Zb 0,Zb 0,Zb 0,Zb 0,Zb 0,Zi 0],Zi 0,Zi 5]) (Ent.of_eq (by simp_all))
    ·intro g6
     apply n_dc (c3)
     apply n_dc (c4)
     apply n_sc (c5)
     apply n_sc (c6)
     apply n_sc (c7)
     exact n_or)
theorem rabsInt_c (s:ByteArray) (h:Nat→Int) (cnt:Int) (hc:0≤cnt∧cnt<1000) (hl:labB s=true) (hb:byB h 32) (c:Int) :
  Pure Tryz.prog gl0 325 [.agg (u8c h++[.int .i64 cnt]),.str s,.agg [.int .i64 1,.int .i64 c,.nsl,.nsl]] (.tup [.agg (u8c (absF h s (.int c))++[.int .i64 (cnt+1)]),.int .i64 0]) :=
 (rabsorb_c s h cnt hc hl hb (.int c) (int_sm c) 1 c 0 0 (It.int c).fb (It.int c).row (fun _ _=>Ent.refl _)).via ⟨Ent.refl _,Ent.refl _,Ent.agg ⟨Ent.refl _,Ent.refl _,Ent.nsl,Ent.nsl,trivial⟩,trivial⟩
theorem rtchal_c (s:ByteArray) (h:Nat→Int) (cnt:Int) (hc:0≤cnt∧cnt<1000) (hl:labB s=true) (hb:byB h 32) (q:Int) (hq:2≤q∧q<2305843009213693952) :
  Pure Tryz.prog gl0 271 [.agg (u8c h++[.int .i64 cnt]),.str s,.int .i64 q] (.tup [.agg (u8c (absF h s (.int (chlN h s q)))++[.int .i64 (cnt+1)]),.int .i64 (chlN h s q),.int .i64 0]) :=
 rchal_w s h cnt hc hl q hq (trsI h s []).row (trsI h s []).enc _ (tagI_by _ _ _) _ (rframe0_c s h cnt (lab_V hl).hi) (renc_c (trsI h s []) (by rw [trs0_len];have:=(lab_V hl).hi;omega))
  (rtagged_c "specie/challenge".toUTF8 (by decide) (fun k=>(trsI h s []).enc.getD k 0) (trsI h s []).enc.length (by rw [trs0_len];have:=(lab_V hl).hi;omega) (It.enc_by (trs0_okB hb)))
  (rabsInt_c s h cnt hc hl hb (chlN h s q))
theorem rlist08_c (l:List Int) (hl:l.length≤1000000):Pure Tryz.prog gl0 326 [il .i64 l] (intsI l).av:=by
 exact pz Tryz.func326 (by
  apply n_loopx ({ x:Nat // x≤List.length l }) [0,2,3,4] [0,16,1066] (fun x=>[.isl 1 (List.length l) fun i x=>Zi (List.getD l i (0:Int)),.own 0 4 0 0 4,.own 1 4 0 0 4,Zi x.1]) (fun x=>[some ⟨4,1,true,.lst [[Zi 0,Zi 0,.nsl,.nsl]]⟩,some ⟨4,1,true,.lst [[Zi 3,Zi 0,.nsl,.osl 2 4 0 (x.1)]]⟩,some ⟨4,x.1,true,Rep.row fun i=>It.cells (It.int (List.getD l i (0:Int)))⟩]) (fun x=>List.length l - x.1) (⟨0,Nat.zero_le (List.length l)⟩) [.isl 1 (List.length l) fun i x=>Zi (List.getD l i (0:Int)),.own 0 4 0 0 4,.own 1 4 0 0 4,Zi 0] [some ⟨4,1,true,.lst [[Zi 0,Zi 0,.nsl,.nsl]]⟩,some ⟨4,1,true,.lst [[Zi 3,Zi 0,.nsl,.nsl]]⟩,some ⟨4,0,true,.ty (999999999:TypeId) (.lst [])⟩] (⟨.refl _,.refl _,.refl _,.refl _,trivial⟩) (by repeat' (first|exact trivial|(first|exact ObEnt.refl _|exact ObEnt.junk|exact ObEnt.zero|exact ObEnt.push rfl rfl|exact ObEnt.pushRow rfl|exact ObEnt.len (by omega)|exact ObEnt.row (by repeat' (first|exact trivial|(first|exact Ent.refl _|exact inc_ent (by omega)|exact Ent.nil rfl|exact Ent.of_eq (congrArg (AV.osl _ _ _) (by first|omega|(dsimp only;omega)))|exact Ent.of_eq (congrArg (AV.int _) (by first|omega|(dsimp only;omega))))|refine And.intro ?_ ?_)))|refine And.intro ?_ ?_))
  intro x0
  try (have q0:=x0.2;dsimp only at q0)
  apply n_bd ((x0.1:Int)<(↑(List.length l):Int))
  ·intro g1
   apply n_req (0≤(x0.1:Int)∧(x0.1:Int)<(↑(List.length l):Int))
   apply n_req ((x0.1+1)*64≤140737488355328)
   exact n_againx [0,1,99] (⟨x0.1+1,by omega⟩) [.isl 1 (List.length l) fun i x=>Zi (List.getD l i (0:Int)),.own 0 4 0 0 4,.own 1 4 0 0 4,Zi (wrap .i64 ((x0.1:Int)+1))] [some ⟨4,1,true,.lst [[Zi 0,Zi 0,.nsl,.nsl]]⟩,some ⟨4,1,true,.lst [[Zi 3,Zi 0,.nsl,.osl 2 4 0 (x0.1+1)]]⟩,some ⟨4,x0.1+1,true,Rep.cat x0.1 (Rep.row fun i=>[Zi (It.kind (It.int (List.getD l i (0:Int)))),Zi (It.num (It.int (List.getD l i (0:Int)))),.isl 1 0 fun i_1 x=>Zb (It.fb (It.int (List.getD l i (0:Int))) i_1),.isl 4 0 (It.row (It.int (List.getD l i (0:Int))))]) (.lst [[Zi 1,Zi (List.getD l (toNat (↑(x0.1):Int)) (0:Int)),.nsl,.nsl]])⟩] (⟨.refl _,.refl _,.refl _,inc_ent (by omega),trivial⟩) (⟨.refl _,.refl _,int_push rfl rfl,trivial⟩)
  ·intro g1
   exact n_outx (.agg [Zi 3,Zi 0,.nsl,.isl 4 x0.1 fun r k=>atL [Zi (It.kind (It.int (List.getD l (r+0) (0:Int)))),Zi (It.num (It.int (List.getD l (r+0) (0:Int)))),.isl 1 0 fun i x=>Zb (It.fb (It.int (List.getD l (r+0) (0:Int))) i),.isl 4 0 (It.row (It.int (List.getD l (r+0) (0:Int))))] k]) (ints_out (by omega)))
theorem rints08_c (s:ByteArray) (h:Nat→Int) (cnt:Int) (hc:0≤cnt∧cnt<1000) (hl:labB s=true) (hb:byB h 32) (l:List Int) (hn:l.length≤100) :
  Pure Tryz.prog gl0 270 [.agg (u8c h++[.int .i64 cnt]),.str s,il .i64 l] (.tup [.agg (u8c (absF h s (intsI l))++[.int .i64 (cnt+1)]),.int .i64 0]):=by
 have c1:=rlist08_c l (by omega)
 have c2:=rabsorb_c s h cnt hc hl hb (intsI l) (ints_sm l hn) (intsI l).kind (intsI l).num (intsI l).nb (intsI l).nl (intsI l).fb (intsI l).row (fun k hk=>Ent.refl _)
 exact pz Tryz.func270 (by
  apply n_dc (c1)
  apply n_sc (c2)
  exact n_or)
theorem kexp_c (G:Grp) (c:Int):Pure Tryz.prog gl0 341 [G.av,.int .i64 c] (.bool (scaB G c)):=by
 exact pz Tryz.func341 (by
  exact n_or)
theorem kbase_c (G:Grp) (b:Int) (hw:G.W):Pure Tryz.prog gl0 295 [G.av,.int .i64 b] (.bool (b != 1&&(validG G&&elemB G b))):=by
 have c1:=contains_c G b hw
 exact pz Tryz.func295 (by
  apply n_scg ((b != 1)==true) (fun h0=>c1)
  exact n_or)
theorem kformed_c (G:Grp) (p:Pf) (hw:G.W):Pure Tryz.prog gl0 296 [G.av,.agg p.cells] (.bool (decide ((p.na:Int)=1)&&(validG G&&elemB G (p.a 0))&&scaB G p.c&&decide ((p.nz:Int)=1)&&scaB G (p.z 0))):=by
 have c1:=contains_c G (p.a 0) hw
 have c2:=kexp_c G
 exact pz Tryz.func296 (by
  apply n_req ((((p.1:Int)==1)==true)=true→(0:Int)≤0∧(0:Int)<(p.1:Int)) (fun hr=>by have hr:=(cnd_eqt_t cnd_beq_t) hr;omega)
  apply n_scg (((p.1:Int)==1)==true) (fun h1=>c1)
  apply n_scg (((p.1:Int)==1&&(validG G&&elemB G (p.2 0)))==true) (fun h2=>c2 (p.3))
  apply n_req ((((p.1:Int)==1&&(validG G&&elemB G (p.2 0))&&scaB G p.3&&(p.4:Int)==1)==true)=true→(0:Int)≤0∧(0:Int)<(p.4:Int)) (fun hr=>by have hr:=(cnd_eqt_t (cnd_and_t (cnd_and_t (cnd_and_t cnd_beq_t (cnd_and_t cnd_id_t cnd_id_t)) cnd_id_t) cnd_beq_t)) hr;omega)
  apply n_scg (((p.1:Int)==1&&(validG G&&elemB G (p.2 0))&&scaB G p.3&&(p.4:Int)==1)==true) (fun h4=>c2 (p.5 (0)))
  exact n_or)
end Go.Proofs.YtcageinnelhonaaGreatDoor

namespace Go.Sp
open Go.IntKind (wrap)
open Int (toNat)
open Go Go.Am
theorem vG_t {G:Grp} (h:G.Ok):validG G=true:=validG_iff.2 h
theorem sca_rng {G:Grp} {x:Int} (h:scaB G x=true):0≤x∧x<G.q:=sca_iff.1 h
structure KfmV (G : Grp) (p : Pf) : Prop where
  na : p.na = 1
  nz : p.nz = 1
  a : elemB G (p.a 0) = true
  c : 0 ≤ p.c ∧ p.c < G.q
  z : 0 ≤ p.z 0 ∧ p.z 0 < G.q
theorem ff_of {x:Bool} (h:x=true→False):x=false:=by grind
structure KckV (G : Grp) (b y : Int) (p : Pf) : Prop where
  vg : validG G = true
  b1 : b ≠ 1
  eb : elemB G b = true
  ey : elemB G y = true
  na : p.na = 1
  nz : p.nz = 1
  a : elemB G (p.a 0) = true
  c : scaB G p.c = true
  z : scaB G (p.z 0) = true
theorem kck_V {G:Grp} {b y:Int} {p:Pf} (h:kckB G b y p=true):KckV G b y p:=by
 simp only [kckB,kgvB,kfmB,msgB,Bool.and_eq_true,bne_iff_ne] at h
 exact ⟨h.1.1.1.1,h.1.1.1.2.1,h.1.1.1.2.2,h.1.1.2,Nat.eq_of_beq_eq_true h.1.2.1.1.1.1,Nat.eq_of_beq_eq_true h.1.2.1.1.1.2,h.1.2.1.1.2,h.1.2.1.2,h.1.2.2⟩
theorem kck_t {G:Grp} {b y:Int} {p:Pf} (h:KckV G b y p):kckB G b y p=(b^(p.z 0).toNat%G.p==p.a 0*(y^p.c.toNat%G.p)%G.p):=by
 unfold kckB kgvB kfmB msgB
 rw [h.vg,h.eb,h.ey,h.na,h.nz,h.a,h.c,h.z,bne_iff_ne.2 h.b1];rfl
theorem kck_g {G:Grp} {b y:Int} {p:Pf} (g:((validG G=true∧(¬b=1∧(validG G=true∧elemB G b=true)))∧(validG G=true∧elemB G y=true))∧(((((p.na:Int)=1∧(validG G=true∧elemB G (p.a 0)=true))∧scaB G p.c=true)∧(p.nz:Int)=1)∧scaB G (p.z 0)=true)):KckV G b y p :=
 ⟨g.1.1.1,g.1.1.2.1,g.1.1.2.2.2,g.1.2.2,by omega,by omega,g.2.1.1.1.2.2,g.2.1.1.2,g.2.2⟩
theorem kck_no {G:Grp} {b y:Int} {p:Pf} (h:kgvB G b y=false∨kfmB G p=false):kckB G b y p=false:=by grind [kckB]
theorem kgv_iff {G:Grp} {b y:Int}:kgvB G b y=true↔validG G=true∧(b≠1∧elemB G b=true)∧elemB G y=true:=by
 simp [kgvB,msgB,and_assoc]
def kgE (G:Grp) (b y:Int):Int:=if validG G=true then (if kgvB G b y=true then 0 else 2) else 1
theorem kgE_1 {G:Grp} {b y:Int} (h:validG G=false):kgE G b y=1:=if_neg (by grind)
theorem kgE_2 {G:Grp} {b y:Int} (h:validG G=true) (k:kgvB G b y=false):kgE G b y=2:=by simp_all [kgE]
theorem kgE_3 {G:Grp} {b y:Int} (k:kgvB G b y=true):kgE G b y=0:=by simp_all [kgE,kgv_iff]
theorem kgE_0 {G:Grp} {b y:Int} (h:kgE G b y=0):kgvB G b y=true:=by grind [kgE]
theorem kck_kv {G:Grp} {b y:Int} {p:Pf} (h:kgE G b y=0) (k:kfmB G p=true):KckV G b y p:=by
 have h:=kgv_iff.1 (kgE_0 h)
 simp only [kfmB,Bool.and_eq_true] at k
 exact ⟨h.1,h.2.1.1,h.2.1.2,h.2.2,Nat.eq_of_beq_eq_true k.1.1.1.1,Nat.eq_of_beq_eq_true k.1.1.1.2,k.1.1.2,k.1.2,k.2⟩
theorem kck_kn {G:Grp} {b y:Int} {p:Pf} (g:¬kgE G b y=0∨kfmB G p=false):kckB G b y p=false:=by
 refine kck_no (g.imp (fun g=>ff_of fun h=>g (kgE_3 h)) id)
theorem kfmR {p:Pf} {x y z:Bool}:(decide ((p.na:Int)=1)&&decide ((p.nz:Int)=1)&&x&&y&&z)=(Nat.beq p.na 1&&Nat.beq p.nz 1&&x&&y&&z):=by
 have e1:decide ((p.na:Int)=1)=Nat.beq p.na 1:=by
  cases e:Nat.beq p.na 1 with
  | true=>simp_all
  | false=>exact decide_eq_false fun h=>by rw [show p.na=1 by omega] at e;cases e
 grind [decide,Int,Nat.beq,Nat.eq_of_beq_eq_true,decide_eq_true,decide_eq_false]
theorem kgE_n {G:Grp} {b y:Int} (h:validG G=true) (g:msgB G b=false∨elemB G y=false):kgE G b y=2:=kgE_2 h (by grind [kgvB])
theorem kgE_p {G:Grp} {b y:Int} (h:validG G=true) (g:msgB G b=true∧elemB G y=true):kgE G b y=0:=kgE_3 (by grind [kgvB])
theorem bas_rng {b:Bas} (h:b.Ok):(0≤b.gr.g∧b.gr.g<b.gr.p)∧(0≤b.g1∧b.g1<b.gr.p)∧0≤b.g2∧b.g2<b.gr.p :=
 ⟨⟨by have:=h.G.g2;omega,h.G.g1⟩,el_bnd h.G h.e1,el_bnd h.G h.e2⟩
def akE (b:Bas) (y:Int):Int:=if validB b=true then (if msgB b.gr y=true then (if timB b y b.g2=1 then 10 else 0) else 2) else 1
def akM (b:Bas) (y:Int):Int:=if akE b y=0 then timB b y b.g2 else 0
theorem akE_1 {b:Bas} {y:Int} (h:validB b=false):akE b y=1:=if_neg (by grind)
theorem akE_2 {b:Bas} {y:Int} (h:validB b=true) (h':msgB b.gr y=false):akE b y=2:=by simp_all [akE]
theorem akE_3 {b:Bas} {y:Int} (h:validB b=true) (h':msgB b.gr y=true) (k:timB b y b.g2=1):akE b y=10:=by simp_all [akE]
theorem akE_4 {b:Bas} {y:Int} (h:validB b=true) (h':msgB b.gr y=true) (k:¬timB b y b.g2=1):akE b y=0:=by simp_all [akE]
theorem ak_iff {b:Bas} {y:Int}:akB b y=true↔validB b=true∧msgB b.gr y=true∧timB b y b.g2≠1:=by
 simp [akB,and_assoc]
theorem akE_B {b:Bas} {y:Int}:(akE b y==0)=akB b y:=by grind [akB,ak_iff,akE_4,validB,msgB,timB,akE,beq_eq_false_iff_ne]
theorem msg_iff {G:Grp} {x:Int}:msgB G x=true↔x≠1∧elemB G x=true:=by simp [msgB]
theorem msg_f {G:Grp} {x:Int} (h:x=1∨elemB G x=false):msgB G x=false:=by grind [msgB]
theorem msg_vf {G:Grp} {x:Int} (hG:validG G=true) (h:x=1∨(validG G=false∨elemB G x=false)):msgB G x=false :=
 msg_f (h.imp id fun h=>h.elim (fun h=>by grind) id)
theorem ak_1 {b:Bas} {y:Int} (h:validB b=false):AV.tup [.int .i64 0,.int .i64 1]=.tup [.int .i64 (akM b y),.int .i64 (akE b y)]:=by grind [akM,akE_1]
theorem ak_2 {b:Bas} {y:Int} (h:validB b=true) (g:y=1∨(validG b.gr=false∨elemB b.gr y=false)):AV.tup [.int .i64 0,.int .i64 2]=.tup [.int .i64 (akM b y),.int .i64 (akE b y)]:=by
 rw [akM,akE_2 h (msg_vf (vG_t (validB_iff.1 h).G) g)];rfl
theorem ak_3 {b:Bas} {y:Int} (h:validB b=true) (g:¬y=1∧(validG b.gr=true∧elemB b.gr y=true)) (k:y*b.g2%b.gr.p=1):AV.tup [.int .i64 0,.int .i64 10]=.tup [.int .i64 (akM b y),.int .i64 (akE b y)]:=by
 rw [akM,akE_3 h (msg_iff.2 ⟨g.1,g.2.2⟩) k];rfl
theorem ak_4 {b:Bas} {y:Int} (h:validB b=true) (g:¬y=1∧(validG b.gr=true∧elemB b.gr y=true)) (k:¬y*b.g2%b.gr.p=1):AV.tup [.int .i64 (y*b.g2%b.gr.p),.int .i64 0]=.tup [.int .i64 (akM b y),.int .i64 (akE b y)]:=by
 rw [akM,akE_4 h (msg_iff.2 ⟨g.1,g.2.2⟩) k];rfl
end Go.Sp

namespace Go.Proofs.YtcageinnelhonaaGreatDoor
open Go.IntKind (wrap)
open Int (toNat)
open Go Go.Am Go.Sp
set_option maxRecDepth 100000
theorem kcheck_c (G:Grp) (b y:Int) (p:Pf) (hw:G.W):Pure Tryz.prog gl0 240 [G.av,.int .i64 b,.int .i64 y,.agg p.cells] (.bool (kckB G b y p)):=by
 have c1:=gvalid_c G hw
 have c2:=kbase_c G b hw
 have c3:=contains_c G y hw
 have c4:=kformed_c G p hw
 have c5:=fun x e h hx he=>gpow_c G x e h hw hx he
 have c6:=fun x z h hx hz=>gmul_c G x z h hw hx hz
 exact pz Tryz.func240 (by
  apply n_sc (c1)
  apply n_scg ((!validG G)==false) (fun h1=>c2)
  apply n_scg ((!validG G || !(b != 1&&(validG G&&elemB G b)))==false) (fun h2=>c3)
  apply n_scg ((!validG G || !(b != 1&&(validG G&&elemB G b)) || !(validG G&&elemB G y))==false) (fun h3=>c4)
  apply n_br (!validG G || !(b != 1&&(validG G&&elemB G b)) || !(validG G&&elemB G y) || !(decide ((p.1:Int)=(1:Int))&&(validG G&&elemB G (p.2 0))&&scaB G p.3&&decide ((p.4:Int)=(1:Int))&&scaB G (p.5 0)))
  ·intro g4
   exact n_out (Ent.of_eq (congrArg AV.bool (ff_of fun h=>by have k:=kck_V h;have k1:=k.1;have k2:=k.2;have k3:=k.3;have k4:=k.4;have k5:=k.5;have k6:=k.6;have k7:=k.7;have k8:=k.8;have k9:=k.9;grind).symm))
  ·intro g4
   apply n_req ((0:Int)≤0∧(0:Int)<(p.4:Int))
   apply n_sc (c5 (b) (p.5 (0)) (by have k:=kck_g g4;first|exact validG_iff.1 k.vg|exact k.eb|exact k.ey|exact k.a|exact sca_rng k.z|exact sca_rng k.c|exact elem_pow (validG_iff.1 k.vg) k.ey _) (by have k:=kck_g g4;first|exact validG_iff.1 k.vg|exact k.eb|exact k.ey|exact k.a|exact sca_rng k.z|exact sca_rng k.c|exact elem_pow (validG_iff.1 k.vg) k.ey _) (by have k:=kck_g g4;first|exact validG_iff.1 k.vg|exact k.eb|exact k.ey|exact k.a|exact sca_rng k.z|exact sca_rng k.c|exact elem_pow (validG_iff.1 k.vg) k.ey _))
   apply n_sc (c5 (y) (p.3) (by have k:=kck_g g4;first|exact validG_iff.1 k.vg|exact k.eb|exact k.ey|exact k.a|exact sca_rng k.z|exact sca_rng k.c|exact elem_pow (validG_iff.1 k.vg) k.ey _) (by have k:=kck_g g4;first|exact validG_iff.1 k.vg|exact k.eb|exact k.ey|exact k.a|exact sca_rng k.z|exact sca_rng k.c|exact elem_pow (validG_iff.1 k.vg) k.ey _) (by have k:=kck_g g4;first|exact validG_iff.1 k.vg|exact k.eb|exact k.ey|exact k.a|exact sca_rng k.z|exact sca_rng k.c|exact elem_pow (validG_iff.1 k.vg) k.ey _))
   apply n_req ((0:Int)≤0∧(0:Int)<(p.1:Int))
   apply n_sc (c6 (p.2 (0)) (y^toNat p.3%G.1) (by have k:=kck_g g4;first|exact validG_iff.1 k.vg|exact k.eb|exact k.ey|exact k.a|exact sca_rng k.z|exact sca_rng k.c|exact elem_pow (validG_iff.1 k.vg) k.ey _) (by have k:=kck_g g4;first|exact validG_iff.1 k.vg|exact k.eb|exact k.ey|exact k.a|exact sca_rng k.z|exact sca_rng k.c|exact elem_pow (validG_iff.1 k.vg) k.ey _) (by have k:=kck_g g4;first|exact validG_iff.1 k.vg|exact k.eb|exact k.ey|exact k.a|exact sca_rng k.z|exact sca_rng k.c|exact elem_pow (validG_iff.1 k.vg) k.ey _))
   exact n_out (Ent.of_eq (congrArg AV.bool (kck_t (kck_g g4)).symm)))
def owQ (n:Nat):FuncId→Option (List Bool):=fun f=>bif Nat.beq f 999999999 then some (List.replicate n true) else none
theorem tint3 (s:ByteArray) (h:Nat→Int) (cnt:Int) (hc:0≤cnt∧cnt<1000) (hl:labB s=true) (hb:byB h 32) (x y z:Int) :
  Pure Tryz.prog gl0 298 [.agg (u8c h++[.int .i64 cnt]),.str s,.isl 1 3 fun r k=>atL (List.getD [[.int .i64 x],[.int .i64 y],[.int .i64 z]] r []) k] (.tup [.agg (u8c (absF h s (intsI [x,y,z]))++[.int .i64 (cnt+1)]),.int .i64 0]) :=
 (tints_c s h cnt hc hl hb [x,y,z] (Nat.le_of_ble_eq_true rfl)).via ⟨Ent.refl _,Ent.refl _,il_rows rfl rfl,trivial⟩
theorem tint2 (s:ByteArray) (h:Nat→Int) (cnt:Int) (hc:0≤cnt∧cnt<1000) (hl:labB s=true) (hb:byB h 32) (x y:Int) :
  Pure Tryz.prog gl0 298 [.agg (u8c h++[.int .i64 cnt]),.str s,.isl 1 2 fun r k=>atL (List.getD [[.int .i64 x],[.int .i64 y]] r []) k] (.tup [.agg (u8c (absF h s (intsI [x,y]))++[.int .i64 (cnt+1)]),.int .i64 0]) :=
 (tints_c s h cnt hc hl hb [x,y] (Nat.le_of_ble_eq_true rfl)).via ⟨Ent.refl _,Ent.refl _,il_rows rfl rfl,trivial⟩
theorem tint1 (s:ByteArray) (h:Nat→Int) (cnt:Int) (hc:0≤cnt∧cnt<1000) (hl:labB s=true) (hb:byB h 32) (x:Int) :
  Pure Tryz.prog gl0 298 [.agg (u8c h++[.int .i64 cnt]),.str s,.isl 1 1 fun r k=>atL (List.getD [[.int .i64 x]] r []) k] (.tup [.agg (u8c (absF h s (intsI [x]))++[.int .i64 (cnt+1)]),.int .i64 0]) :=
 (tints_c s h cnt hc hl hb [x] (Nat.le_of_ble_eq_true rfl)).via ⟨Ent.refl _,Ent.refl _,il_rows rfl rfl,trivial⟩
theorem kchal_w (G:Grp) (b y a:Int) (s:ByteArray) (N A B C:Nat→Int) (c:Int)
  (c1:Pure Tryz.prog gl0 297 [.str s] (.tup [.agg (u8c N++[.int .i64 0]),.int .i64 0]))
  (c2:Pure Tryz.prog gl0 298 [.agg (u8c N++[.int .i64 0]),.str "group".toUTF8,.isl 1 3 fun r k=>atL (List.getD [[.int .i64 G.p],[.int .i64 G.q],[.int .i64 G.g]] r []) k] (.tup [.agg (u8c A++[.int .i64 1]),.int .i64 0]))
  (c3:Pure Tryz.prog gl0 298 [.agg (u8c A++[.int .i64 1]),.str "statement".toUTF8,.isl 1 2 fun r k=>atL (List.getD [[.int .i64 b],[.int .i64 y]] r []) k] (.tup [.agg (u8c B++[.int .i64 2]),.int .i64 0]))
  (c4:Pure Tryz.prog gl0 298 [.agg (u8c B++[.int .i64 2]),.str "commitment".toUTF8,.isl 1 1 fun r k=>atL (List.getD [[.int .i64 a]] r []) k] (.tup [.agg (u8c C++[.int .i64 3]),.int .i64 0]))
  (D:Nat→Int) (c5:Pure Tryz.prog gl0 299 [.agg (u8c C++[.int .i64 3]),.str "challenge".toUTF8,.int .i64 G.q] (.tup [.agg (u8c D++[.int .i64 4]),.int .i64 c,.int .i64 0])) :
  Pure Tryz.prog gl0 241 [G.av,.int .i64 b,.int .i64 y,.int .i64 a,.str s] (.tup [.int .i64 c,.int .i64 0]):=by
 exact pzo (owQ 4) Tryz.func241 (by
  apply n_sc (c1)
  apply n_ff
  apply n_tt
  apply n_req ((0:Int)≤0∧(0:Int)<3)
  apply n_sc (c2)
  apply n_ff
  apply n_tt
  apply n_req ((0:Int)≤wrap .i64 ((0:Int)+1)∧wrap .i64 ((0:Int)+1)<3) (by decide +kernel)
  apply n_sc (c3)
  apply n_ff
  apply n_tt
  apply n_req ((0:Int)≤wrap .i64 (wrap .i64 ((0:Int)+1)+1)∧wrap .i64 (wrap .i64 ((0:Int)+1)+1)<3) (by decide +kernel)
  apply n_sc (c4)
  apply n_ff
  apply n_ff
  apply n_sc (c5)
  exact n_or)
theorem kchal_c (G:Grp) (b y a:Int) (s:ByteArray) (hl:labB s=true) (hG:G.Ok) :
  Pure Tryz.prog gl0 241 [G.av,.int .i64 b,.int .i64 y,.int .i64 a,.str s] (.tup [.int .i64 (kchN G b y a s),.int .i64 0]) :=
 kchal_w G b y a s _ _ _ _ _ (tnew_c s hl) (tint3 "group".toUTF8 _ 0 (by decide) (by decide +kernel) (newF_by s) ..) (tint2 "statement".toUTF8 _ 1 (by decide) (by decide +kernel) (absF_by _ _ _) ..)
  (tint1 "commitment".toUTF8 _ 2 (by decide) (by decide +kernel) (absF_by _ _ _) ..) _ (tchal_c "challenge".toUTF8 _ 3 (by decide) (by decide +kernel) (absF_by _ _ _) G.q ⟨by have:=hG.q3;omega,by have:=hG.qp;have:=hG.p1;omega⟩)
theorem kver_c (G:Grp) (b y:Int) (s:ByteArray) (p:Pf) (hl:labB s=true) (hw:G.W):Pure Tryz.prog gl0 185 [G.av,.int .i64 b,.int .i64 y,.str s,.agg p.cells] (.bool (kvrB G b y s p)):=by
 have c1:=kcheck_c G b y p hw
 have c2:=fun hG=>kchal_c G b y (p.a 0) s hl hG
 exact pz Tryz.func185 (by
  apply n_sc (c1)
  apply n_br (!kckB G b y p)
  ·intro g1
   exact n_outx (.bool false) (Ent.of_eq (congrArg AV.bool (by unfold kvrB;rw [g1];rfl)))
  ·intro g1
   apply n_req ((0:Int)≤0∧(0:Int)<(p.1:Int)) (by have:=(kck_V g1).na;omega)
   apply n_sc (c2 (validG_iff.1 (kck_V g1).vg))
   exact n_outx (.bool (kchN G b y (p.2 0) s==p.3)) (Ent.of_eq (congrArg AV.bool (by unfold kvrB;rw [g1];rfl))))
theorem grow_c (n:Nat) (h0:0<n) (hn:n≤1000):Gives Tryz.prog gl0 394 [] [.nsl,.int .i64 n] (.osl 0 1 0 0) [some ⟨1,n,true,.fn fun _ _=>.int .u8 0⟩]:=by
 have hw:=grow_w hn
 exact gz ow0 Tryz.func394 (by
  apply n_bd ((n:Int)<0)
  ·intro _
   apply n_no
   grind
  ·intro g0
   apply n_bd (wrap .i64 ((n:Int) - wrap .i64 ((0:Int) - 0))>0)
   ·intro g2
    apply n_req ((0:Int)≤0∧(0:Int)≤0)
    apply n_req ((0:Int)<wrap .i64 ((n:Int) - wrap .i64 ((0:Int) - 0))∧wrap .i64 ((n:Int) - wrap .i64 ((0:Int) - 0))*1≤140737488355328)
    apply n_req ((0:Int)≤0∧0≤(↑(toNat (wrap .i64 ((n:Int) - wrap .i64 ((0:Int) - 0)))):Int))
    exact n_outG (.osl 0 1 0 0) [some ⟨1,toNat (wrap .i64 ((n:Int) - wrap .i64 ((0:Int) - 0))),true,.fn fun i j=>Zb (intOfAV (atL (zcells (Value.int IntKind.u8 (0:Int))) j))⟩] (by exact Ent.refl _) (by exact ⟨⟨rfl,by grind,rfl,fun i j _ hj=>Ent.of_eq (zero_u8 hj)⟩,trivial⟩)
   ·intro _
    refine n_old (.out (.nsl) [] (.osl 0 1 0 0) ([some ⟨1,n,true,.fn fun x x_1=>Zb 0⟩])) ?_
    grind)
def ow6:FuncId→Option (List Bool):=fun f=>bif Nat.beq f 394 then some [false,false] else none
theorem concat_c (l r:Nat→Int):Pure Tryz.prog gl0 382 [.isl 1 2 fun i _=>.isl 1 32 fun k _=>.int .u8 (twoF l r i k)] (bys 64 (catF l r)):=by
 exact pzo ow6 Tryz.func382 (by
  apply n_loopx ({ x:Nat // x≤2 }) [0,9,10,3,11] [] (fun x=>[.isl 1 2 fun i x=>.isl 1 32 fun k x=>Zb (twoF l r i k),.isl 1 2 fun i x=>.isl 1 32 fun k x=>Zb (twoF l r i k),Zi 2,Zi (↑(32*x.1):Int),Zi x.1]) (fun _=>[]) (fun x=>2 - x.1) (⟨0,Nat.zero_le 2⟩) [.isl 1 2 fun i x=>.isl 1 32 fun k x=>Zb (twoF l r i k),.isl 1 2 fun i x=>.isl 1 32 fun k x=>Zb (twoF l r i k),Zi 2,Zi 0,Zi 0] [] (by repeat' (first|exact trivial|(first|exact Ent.refl _|exact inc_ent (by omega)|exact Ent.nil rfl|exact Ent.of_eq (congrArg (AV.osl _ _ _) (by rfl))|exact Ent.of_eq (congrArg (AV.int _) (by rfl)))|refine And.intro ?_ ?_)) (trivial)
  intro x0
  try (have q0:=x0.2;dsimp only at q0)
  apply n_bd ((x0.1:Int)<2)
  ·intro g1
   apply n_req (0≤(x0.1:Int)∧(x0.1:Int)<2)
   apply n_bd (wrap .i64 ((↑(32*x0.1):Int)+32)<0)
   ·intro g3
    apply n_no
    grind [False,wI]
   ·intro g3
    exact n_againx [] (⟨x0.1+1,by omega⟩) [.isl 1 2 fun i x=>.isl 1 32 fun k x=>Zb (twoF l r i k),.isl 1 2 fun i x=>.isl 1 32 fun k x=>Zb (twoF l r i k),Zi 2,Zi (wrap .i64 ((↑(32*x0.1):Int)+32)),Zi (wrap .i64 ((x0.1:Int)+1))] [] (by repeat' (first|exact trivial|(first|exact Ent.refl _|exact inc_ent (by omega)|exact Ent.nil rfl|exact Ent.of_eq (congrArg (AV.osl _ _ _) (by rfl))|exact Ent.of_eq (congrArg (AV.int _) (by rfl)))|refine And.intro ?_ ?_)) (trivial)
  ·intro g1
   apply n_gc (grow_c (32*x0.1) (by omega) (by omega))
   apply n_loopx ({ x:Nat // x≤2 }) [25,26,6,27] [16] (fun x=>[.isl 1 2 fun i x=>.isl 1 32 fun k x=>Zb (twoF l r i k),Zi 2,.osl 0 1 0 (32*x.1),Zi x.1]) (fun x=>[some ⟨1,bif Nat.beq (x.1) 0 then 64 else 32*x.1,true,.fn fun i x_1=>Zb (joinF l r (x.1) i)⟩]) (fun x=>2 - x.1) (⟨0,Nat.zero_le 2⟩) [.isl 1 2 fun i x=>.isl 1 32 fun k x=>Zb (twoF l r i k),Zi 2,.osl 0 1 0 0,Zi 0] [some ⟨1,32*x0.1,true,.fn fun i j=>Zb 0⟩] (by repeat' (first|exact trivial|(first|exact Ent.refl _|exact inc_ent (by omega)|exact Ent.nil rfl|exact Ent.of_eq (congrArg (AV.osl _ _ _) (by rfl))|exact Ent.of_eq (congrArg (AV.int _) (by rfl)))|refine And.intro ?_ ?_)) (by exact ⟨⟨rfl,by show 32*x0.1=64;omega,rfl,fun i j _ _=>Ent.refl _⟩,trivial⟩)
   intro x7
   try (have q7:=x7.2;dsimp only at q7)
   apply n_bd ((x7.1:Int)<2)
   ·intro g8
    apply n_req (0≤(x7.1:Int)∧(x7.1:Int)<2)
    apply n_req ((32*x7.1+32)*1≤140737488355328)
    exact n_againx [49] (⟨x7.1+1,by omega⟩) [.isl 1 2 fun i x=>.isl 1 32 fun k x=>Zb (twoF l r i k),Zi 2,.osl 0 1 0 (32*x7.1+32),Zi (wrap .i64 ((x7.1:Int)+1))] [some ⟨1,32*x7.1+32,true,.fn fun i j=>Zb (bif Nat.blt i (32*x7.1) then joinF l r x7.1 i else twoF l r (toNat (x7.1:Int)) (i - 32*x7.1))⟩] (by repeat' (first|exact trivial|(first|exact Ent.refl _|exact inc_ent (by omega)|exact Ent.nil rfl|exact Ent.of_eq (congrArg (AV.osl _ _ _) (by rfl))|exact Ent.of_eq (congrArg (AV.int _) (by rfl)))|refine And.intro ?_ ?_)) (by exact ⟨⟨rfl,rfl,rfl,fun i j hi hj=>Ent.of_eq (congrArg _ (join_step (by omega) hi))⟩,trivial⟩)
   ·intro g8
    exact n_outx (.isl 1 (32*x7.1) fun r_1 k=>Zb (joinF l r x7.1 (r_1+0))) (Ent.islN (by omega) (fun i j hi hj=>congrArg _ (join_all (by omega)))))
theorem inner_c (l r:Nat→Int) (hl:byB l 32) (hr:byB r 32):Pure Tryz.prog gl0 358 [.agg (u8c l),.agg (u8c r)] (.agg (u8c (nodeF l r))):=by
 have hc:=(concat_c l r).via (args:=[_]) ⟨two_ent (f:=fun i x=>.int .u8 (intOfAV (atL (u8c l) (0+(0+i))))) (g:=fun i x=>.int .u8 (intOfAV (atL (u8c r) (0+(0+i))))) (fun i hi=>by simp_all [Nat.zero_add,u8c_at]) (fun i hi=>by simp_all [Nat.zero_add,u8c_at]),trivial⟩
 have ht:=tagged_c "specie/node".toUTF8 (by decide) (by decide) (catF l r) 64 (by decide) (cat_by hl hr)
 exact pz Tryz.func358 (by
  apply n_dc (hc)
  apply n_sc (ht)
  exact n_or)
theorem rinner_c (l r:Nat→Int) (hl:byB l 32) (hr:byB r 32):Pure Tryz.prog gl0 224 [.agg (u8c l),.agg (u8c r)] (.agg (u8c (nodeF l r))):=by
 exact pz Tryz.func224 (by
  apply n_loopx ({ x:Nat // x≤32 }) [2,3,4,5,6] [0,8,16,299] (fun x=>[.own 0 32 0 0 32,.own 1 32 0 0 32,.own 2 32 0 0 32,.osl 3 1 0 (x.1),Zi x.1]) (fun x=>[some ⟨32,1,true,.lst [u8c l]⟩,some ⟨32,1,true,.lst [u8c r]⟩,some ⟨32,1,true,.lst [z32]⟩,some ⟨1,x.1,true,.fn fun i x=>Zb (catF l r i)⟩]) (fun x=>32 - x.1) (⟨0,Nat.zero_le 32⟩) [.own 0 32 0 0 32,.own 1 32 0 0 32,.own 2 32 0 0 32,.nsl,Zi 0] [some ⟨32,1,true,.lst [u8c l]⟩,some ⟨32,1,true,.lst [u8c r]⟩,some ⟨32,1,true,.lst [z32]⟩,some ⟨1,0,true,.ty (999999999:TypeId) (.lst [])⟩] (by repeat' (first|exact trivial|(first|exact Ent.refl _|exact inc_ent (by omega)|exact Ent.nil rfl|exact Ent.of_eq (congrArg (AV.osl _ _ _) (by rfl))|exact Ent.of_eq (congrArg (AV.int _) (by rfl)))|refine And.intro ?_ ?_)) (by repeat' (first|exact trivial|(first|exact ObEnt.refl _|exact ObEnt.junk|exact ObEnt.zero|exact ObEnt.push rfl rfl|exact ObEnt.pushRow rfl|exact ObEnt.len (by omega)|exact ObEnt.row (by repeat' (first|exact trivial|(first|exact Ent.refl _|exact inc_ent (by omega)|exact Ent.nil rfl|exact Ent.of_eq (congrArg (AV.osl _ _ _) (by rfl))|exact Ent.of_eq (congrArg (AV.int _) (by rfl)))|refine And.intro ?_ ?_)))|refine And.intro ?_ ?_))
  intro x0
  try (have q0:=x0.2;dsimp only at q0)
  apply n_bd ((x0.1:Int)<32)
  ·intro g1
   apply n_req (0≤(x0.1:Int)∧(x0.1:Int)<32)
   apply n_req ((x0.1+1)*1≤140737488355328)
   exact n_againx [0,1,2,60] (⟨x0.1+1,by omega⟩) [.own 0 32 0 0 32,.own 1 32 0 0 32,.own 2 32 0 0 32,.osl 3 1 0 (x0.1+1),Zi (wrap .i64 ((x0.1:Int)+1))] [some ⟨32,1,true,.lst [u8c l]⟩,some ⟨32,1,true,.lst [u8c r]⟩,some ⟨32,1,true,.lst [z32]⟩,some ⟨1,x0.1+1,true,.fn fun i j=>Zb (bif Nat.blt i x0.1 then catF l r i else intOfAV (atL [Zb (intOfAV (Rep.at (Ob.f (Ob.seen ⟨32,1,true,.lst [u8c l]⟩)) 0 (0+toNat (↑(x0.1):Int))))] j))⟩] (by repeat' (first|exact trivial|(first|exact Ent.refl _|exact inc_ent (by omega)|exact Ent.nil rfl|exact Ent.of_eq (congrArg (AV.osl _ _ _) (by rfl))|exact Ent.of_eq (congrArg (AV.int _) (by rfl)))|refine And.intro ?_ ?_)) (⟨by exact ObEnt.refl _,by exact ObEnt.refl _,by exact ObEnt.refl _,ObEnt.pushF (F:=catF l r) (by rfl) (by show intOfAV (atL (u8c l) (0+x0.1))=catF l r x0.1;rw [Nat.zero_add,u8c_at (by omega),cat_lo (by omega)]),trivial⟩)
  ·intro g1
   apply n_loopx ({ x:Nat // x≤32 }) [3,4,5,7] [1,2,3] (fun x=>[.own 0 32 0 0 32,.own 1 32 0 0 32,.osl 2 1 0 (32+x.1),Zi x.1]) (fun x=>[some ⟨32,1,true,.lst [u8c r]⟩,some ⟨32,1,true,.lst [z32]⟩,some ⟨1,32+x.1,true,.fn fun i x=>Zb (catF l r i)⟩]) (fun x=>32 - x.1) (⟨0,Nat.zero_le 32⟩) [.own 0 32 0 0 32,.own 1 32 0 0 32,.osl 2 1 0 x0.1,Zi 0] [some ⟨32,1,true,.lst [u8c r]⟩,some ⟨32,1,true,.lst [z32]⟩,some ⟨1,x0.1,true,.fn fun i j=>Zb (catF l r i)⟩] (by repeat' (first|exact trivial|(first|exact Ent.refl _|exact inc_ent (by omega)|exact Ent.nil rfl|exact Ent.of_eq (congrArg (AV.osl _ _ _) (by (dsimp only;omega)))|exact Ent.of_eq (congrArg (AV.int _) (by rfl)))|refine And.intro ?_ ?_)) (⟨by exact ObEnt.refl _,by exact ObEnt.refl _,⟨rfl,by grind,rfl,fun _ _ _ _=>Ent.refl _⟩,trivial⟩)
   intro x5
   try (have q5:=x5.2;dsimp only at q5)
   apply n_bd ((x5.1:Int)<32)
   ·intro g6
    apply n_req (0≤(x5.1:Int)∧(x5.1:Int)<32)
    apply n_req ((32+x5.1+1)*1≤140737488355328)
    exact n_againx [0,1,59] (⟨x5.1+1,by omega⟩) [.own 0 32 0 0 32,.own 1 32 0 0 32,.osl 2 1 0 (32+x5.1+1),Zi (wrap .i64 ((x5.1:Int)+1))] [some ⟨32,1,true,.lst [u8c r]⟩,some ⟨32,1,true,.lst [z32]⟩,some ⟨1,32+x5.1+1,true,.fn fun i j=>Zb (bif Nat.blt i (32+x5.1) then catF l r i else intOfAV (atL [Zb (intOfAV (Rep.at (Ob.f (Ob.seen ⟨32,1,true,.lst [u8c r]⟩)) 0 (0+toNat (↑(x5.1):Int))))] j))⟩] (by repeat' (first|exact trivial|(first|exact Ent.refl _|exact inc_ent (by omega)|exact Ent.nil rfl|exact Ent.of_eq (congrArg (AV.osl _ _ _) (by rfl))|exact Ent.of_eq (congrArg (AV.int _) (by rfl)))|refine And.intro ?_ ?_)) (⟨by exact ObEnt.refl _,by exact ObEnt.refl _,ObEnt.pushF (F:=catF l r) (by rfl) (by show intOfAV (atL (u8c r) (0+x5.1))=catF l r (32+x5.1);rw [Nat.zero_add,u8c_at (by omega),cat_hi]),trivial⟩)
   ·intro g6
    apply n_sc ((rtagged_c (String.toUTF8 "specie/node") (of_decide_eq_true (id (Eq.refl true))) (catF l r)) (32+x5.1) (by omega) (by exact by_congr (fun i=>rfl) (by grind [cat_by])))
    exact n_outx (.agg (u8c (tagF (String.toUTF8 "specie/node") (32+x5.1) (catF l r)))) (Ent.of_eq (congrArg (fun t=>AV.agg (u8c t)) (node_n (by omega)))))
end Go.Proofs.YtcageinnelhonaaGreatDoor

namespace Go.Am
open Go.IntKind (wrap)
open Int (toNat)
open Go.RowKit
def keepsOps (pins:List Nat) (ops:Array Oper):Bool :=
 ops.toList.all fun o=>(match o.op with|.defer _=>false|.mapUpdate .. => false|_=>true)&&(match o.dst with|some d => !memN pins d|none=>true)
def keepsC (pins:List Nat):Code→Bool
 | .skip=>true
 | .region _ ops _=>keepsOps pins ops
 | .seq x y=>keepsC pins x&&keepsC pins y
 | .cond _ x y=>keepsC pins x&&keepsC pins y
 | .block _ x=>keepsC pins x
 | _=>false
def PinIn (pins:List Nat) (a0 a:Act):Prop:=∀ n,n∈pins→a.tmps.getD n undef=a0.tmps.getD n undef
section
def Open (F:Fence):Prop:=F=Fence.wide∨∃ l,F=Fence.wide.inRound l
theorem Open.calls {F:Fence} (h:Open F) {n:Nat} {P:Program} {f:FuncId} {args:Array Value} {w:World} {R:Ending→World→Prop} (hc:Calls P f args w R):CallsIn F n P f args w R:=by
 rcases h with rfl|⟨l,rfl⟩
 ·grind [callsIn_wide]
 grind [CallsIn.inRound,callsIn_wide]
theorem Open.fn {F:Fence} (h:Open F) (f:FuncId):F.fn f:=by rcases h with rfl|⟨l,rfl⟩<;>trivial
theorem Open.deep {F:Fence} (h:Open F):¬F.depth.isSome=true:=by rcases h with rfl|⟨l,rfl⟩<;>(intro h;cases h)
theorem Open.steps {F:Fence} (h:Open F) {P:Program} {m m':Machine} (hs:Steps P m m'):StepsIn (Machine.fenced P F) P m m':=by rcases h with rfl|⟨l,rfl⟩<;>exact stepsIn_wide.2 hs
variable {P : Program} {ops : Array Oper} {Q Q' : Exit → Act → World → Prop} {F : Fence} {n : Nat} {pins : List Nat} {a0 : Act}
theorem upon_in (hF:Open F) {o:Oper} {a:Act} {K K':Act→World→Prop} (hp:∀ ch a w,¬Q (.panic ch) a w) (hO:¬LetsOut Q) (hK:∀ a' w',(∃ v,a'.tmps=(a.put o.dst v).tmps)→K a' w'→K' a' w'):∀ (r:Result Next),o.upon P a K Q r→o.uponIn F n P a K' Q' r:=by
 intro r h
 cases r with
 | ok x w' =>
  cases x<;>simp only [Oper.upon] at h<;>simp only [Oper.uponIn]
  case value v=>grind
  case skip=>grind
  case defer d=>exact hK _ _ ⟨undef,by cases o.dst<;>rfl⟩ h
  case enter f args =>
   refine ⟨fun h=>(hF.deep h).elim,hF.calls (h.mono fun e w'' he=>?_)⟩
   grind
  case row row args =>
   refine ⟨fun h=>(hF.deep h).elim,fun c cs _=>?_⟩
   obtain ⟨v,w'',hr,hs⟩:=h c cs
   exact ⟨v,w'',hK _ _ ⟨v,rfl⟩ hr,hF.steps hs⟩
 | halt x w' =>
  cases x<;>simp only [Oper.upon] at h
  grind
theorem op_in (hF:Open F) {o:Oper} {a:Act} {w:World} {K K':Act→World→Prop} (hd:∀ c,o.op≠.defer c) (hp:∀ ch a w,¬Q (.panic ch) a w) (hO:¬LetsOut Q) (hK:∀ a' w',(∃ v,a'.tmps=(a.put o.dst v).tmps)→K a' w'→K' a' w')
  (h:o.wp P a w K Q):o.wpIn F n P a w K' Q':=by
 refine ⟨fun f _=>hF.fn f,?_⟩
 rw [Oper.semAt_eq _ _ _ hd]
 exact upon_in hF hp hO hK _ h
theorem keeps_upd {pins:List Nat} {ops:Array Oper} (hk:keepsOps pins ops=true):hasUpd ops=false:=by
 unfold hasUpd
 rw [List.any_eq_false]
 intro o ho
 have:=List.all_eq_true.1 hk o ho
 grind
theorem keeps_at {i:Nat} {o:Oper} (hk:keepsOps pins ops=true) (ho:ops[i]? = some o):(∀ c,o.op≠.defer c)∧∀ n,n∈pins→o.dst≠some n:=by
 have hm:o∈ops.toList:=by grind
 have:=List.all_eq_true.1 hk o hm
 rw [Bool.and_eq_true] at this
 grind [Bool.not_eq_true',memN_iff]
theorem pinned_put {o:Oper} {a a':Act} {v:Value} (hd:∀ n,n∈pins→o.dst≠some n) (h:PinIn pins a0 a) (e:a'.tmps=(a.put o.dst v).tmps):PinIn pins a0 a':=fun n hn=>by
 rw [e,← h n hn]
 cases hdd:o.dst with
 | none=>rfl
 | some d=>grind [getD_put_ne]
theorem ops_in (hF:Open F) (hk:keepsOps pins ops=true) (hp:∀ ch a w,¬Q (.panic ch) a w) (hO:¬LetsOut Q):∀ (is:List Nat) (a:Act) (w:World),wpOps P ops Q is a w→PinIn pins a0 a →
  wpOpsIn F n P ops (fun e a w=>Q e a w∧PinIn pins a0 a) is a w:=by
 intro is
 induction is with
 | nil=>intro a w h hpin;exact ⟨h,hpin⟩
 | cons i rest ih =>
  intro a w h hpin
  simp only [wpOps] at h
  simp only [wpOpsIn]
  cases ho:ops[i]? with
  | none=>grind
  | some o =>
   simp only [ho] at h ⊢
   obtain ⟨h1,h2⟩:=keeps_at hk ho
   by_cases hw:Region.wanted o (yielded ops a.tmps)=true
   ·simp only [hw,if_true] at h ⊢
    grind [op_in,pinned_put]
   ·simp only [hw,if_false,Bool.false_eq_true] at h ⊢
    exact ⟨fun f _=>hF.fn f,ih _ _ h (pinned_put h2 hpin rfl)⟩
theorem any_in (hF:Open F) (hk:keepsOps pins ops=true) (hp:∀ ch a w,¬Q (.panic ch) a w) (hO:¬LetsOut Q) {md:Region.Mode}:∀ (fuel:Nat) (listed:Array Bool) (a:Act) (w:World),wpAny P md ops Q fuel listed a w→PinIn pins a0 a →
  wpAnyIn F n P md ops (fun e a w=>Q e a w∧PinIn pins a0 a) fuel listed a w:=by
 intro fuel
 induction fuel with
 | zero=>intro listed a w h hpin;exact ⟨h.1,h.2,hpin⟩
 | succ fuel ih =>
  intro listed a w h hpin
  refine ⟨fun hr=>⟨h.1 hr,hpin⟩,fun i hi=>?_⟩
  have:=h.2 i hi
  unfold wpOp at this
  unfold wpOpIn
  cases ho:ops[i]? with
  | none=>grind
  | some o =>
   simp only [ho] at this ⊢
   obtain ⟨h1,h2⟩:=keeps_at hk ho
   by_cases hw:Region.wanted o (yielded ops a.tmps)=true
   ·simp only [hw,if_true] at this ⊢
    grind [op_in,pinned_put]
   ·simp only [hw,if_false,Bool.false_eq_true] at this ⊢
    exact ⟨fun f _=>hF.fn f,ih _ _ _ this (pinned_put h2 hpin rfl)⟩
end
theorem uponIn_in {P:Program} {F:Fence} {n:Nat} {Q Q':Exit→Act→World→Prop} {o:Oper} {a:Act} {K K':Act→World→Prop} (hp:∀ ch a w,¬Q (.panic ch) a w) (hO:¬LetsOut Q) (hK:∀ a' w',K a' w'→K' a' w'):∀ (r:Result Next),o.uponIn F n P a K Q r→o.uponIn F n P a K' Q' r:=by
 intro r h
 cases r with
 | ok x w' =>
  cases x<;>simp only [Oper.uponIn] at h ⊢
  case value v=>grind
  case skip=>grind
  case defer d=>grind
  case enter f args=>exact ⟨h.1,h.2.mono fun e w'' he=>by grind⟩
  case row row args=>exact ⟨h.1,h.2.mono fun v w'' he=>hK _ _ he⟩
  case round l f tmps x y=>exact ⟨h.1,h.2.mono fun e w'' he=>by grind⟩
 | halt x w' =>
  cases x<;>simp only [Oper.uponIn] at h
  grind
theorem opsIn_pre {P:Program} {F:Fence} {n:Nat} {ops ops':Array Oper} {m:Nat} {X:Act→World→Prop} {Q:Exit→Act→World→Prop} {rest:List Nat} (hops:∀ i,i<m→ops'[i]? = ops[i]?) (hg:∀ i o,i<m→ops[i]? = some o→o.guard=none)
  (hX:∀ a w,X a w→wpOpsIn F n P ops Q rest a w):∀ (l:List Nat),(∀ i,i∈l→i<m)→∀ (a:Act) (w:World),wpOpsIn F n P ops' (fun e a w=>(e=.normal∧X a w)) l a w→wpOpsIn F n P ops Q (l++rest) a w:=by
 intro l
 induction l with
 | nil=>intro _ a w h;exact hX a w h.2
 | cons i l ih =>
  intro hl a w h
  have hi:=hl i (List.mem_cons_self ..)
  rw [List.cons_append]
  simp only [wpOpsIn] at h ⊢
  rw [hops i hi] at h
  cases ho:ops[i]? with
  | none=>grind
  | some o =>
   simp only [ho] at h ⊢
   have hw:∀ ys,Region.wanted o ys=true:=fun ys=>by grind [Region.wanted]
   simp only [hw,if_true] at h ⊢
   exact ⟨h.1,uponIn_in (fun _ _ _ h=>by grind) (fun ⟨_,_,h⟩=>by grind) (fun a' w' h'=>ih (fun k hk=>hl k (List.mem_cons_of_mem _ hk)) a' w' h') _ h.2⟩
theorem final_no_panic {K:Ctx} {C:Cfg} {k:AExit→ASt→Tree}:∀ ch a w,¬Final K C k (.panic ch) a w:=fun ch a w ⟨_,_,_,h,_⟩=>by cases h
theorem final_no_out {K:Ctx} {C:Cfg} {k:AExit→ASt→Tree}:¬LetsOut (Final K C k):=fun ⟨_,_,_,_,_,h,_⟩=>by cases h
theorem runsIn {K:Ctx} {C:Cfg} {pins:List Nat} {a0:Act} {F:Fence} {n:Nat} (hF:Open F) (hP:C.P=K.P) (hgl:C.gl=K.gl) (hnt:C.nt=K.nt) (hm:K.P.follows .mixedOrders=true) (x:Code) :
  ∀ (k:AExit→ASt→Tree) (s:ASt) (β:Book) (a:Act) (w:World),keepsC pins x=true→(run C x k s).wp C.P C.gl (Le C.ng)→Sim K β s a w→PinIn pins a0 a →
   x.wpIn F n K.P (fun e a w=>Final K C k e a w∧PinIn pins a0 a) a w:=by
 induction x with
 | skip=>intro k s β a w _ h hs hp;exact wpIn_skip ⟨⟨β,s,.normal,rfl,hs,h⟩,hp⟩
 | region id ops draw =>
  intro k s β a w hk h hs hp
  simp only [run,keeps_upd hk,cond_false] at h
  cases hd:dstsOk ops with
  | false=>simp only [hd,cond_false] at h;exact h.elim
  | true =>
   simp only [hd,cond_true] at h
   obtain ⟨h1,h2⟩:=region_core hP hgl hnt hd h hs (Q:=Final K C k) (fun β' r a' w' hr hX=>⟨β',_,.normal,rfl,hr.toA,hX⟩)
   cases draw with
   | false=>exact wpIn_region (ops_in hF hk final_no_panic final_no_out _ a w (h1 rfl) hp)
   | true=>exact wpIn_region_any hm (any_in hF hk final_no_panic final_no_out _ _ a _ (h2 rfl) hp)
 | seq x y ihx ihy =>
  intro k s β a w hk h hs hp
  simp only [keepsC,Bool.and_eq_true] at hk
  refine wpIn_seq (wpIn_mono (ihx _ s β a w hk.1 h hs hp) ?_)
  rintro e a' w' ⟨⟨β',s',ae,he,hs',hk'⟩,hp'⟩
  cases e<;>simp only [exitOf,reduceCtorEq,Option.some.injEq] at he
  ·subst he;exact ihy k s' β' a' w' hk.2 hk' hs' hp'
  ·subst he;exact ⟨⟨β',s',_,rfl,hs',hk'⟩,hp'⟩
  ·subst he;exact ⟨⟨β',s',_,rfl,hs',hk'⟩,hp'⟩
 | cond c x y ihx ihy =>
  intro k s β a w hk h hs hp
  simp only [keepsC,Bool.and_eq_true] at hk
  simp only [run] at h
  split at h
  ·rename_i b hb
   have hrel:Rel β w (ev K.gl s.fr c) (a.eval c):=by
    have:=rel_ev (hs.toR #[]) (x:=c) (fun t _=>rfl)
    exact this
   rw [← hgl,hb] at hrel
   have hv:=rel_bool_inv hrel
   exact wpIn_cond_split hv (fun ht=>ihx k s β a w hk.1 (h.1 ht) hs hp) (fun hf=>ihy k s β a w hk.2 (h.2 hf) hs hp)
  ·exact h.elim
 | block id x ih =>
  intro k s β a w hk h hs hp
  refine wpIn_block (wpIn_mono (ih _ s β a w hk h hs hp) ?_)
  rintro e a' w' ⟨⟨β',s',ae,he,hs',hk'⟩,hp'⟩
  cases e<;>simp only [exitOf,reduceCtorEq,Option.some.injEq] at he
  ·subst he;exact ⟨⟨β',s',_,rfl,hs',hk'⟩,hp'⟩
  ·rename_i j
   subst he
   simp only [Exit.inBlock]
   by_cases e:j=id
   ·subst e
    rw [if_pos rfl]
    simp only [Nat.beq_refl,cond_true] at hk'
    exact ⟨⟨β',s',.normal,rfl,hs',hk'⟩,hp'⟩
   ·rw [if_neg e]
    have hb:Nat.beq j id=false:=by grind [Nat.beq,id,absurd,Nat.eq_of_beq_eq_true]
    simp only [hb,cond_false] at hk'
    exact ⟨⟨β',s',.leave j,rfl,hs',hk'⟩,hp'⟩
  ·subst he;exact ⟨⟨β',s',_,rfl,hs',hk'⟩,hp'⟩
 | _=>intro k s β a w hk;cases hk
def CalmIn (β:Book) (w W:World):Prop:=w.heap.size≤W.heap.size∧(∀ b,b<w.heap.size→β.free b→W.heap[b]? = w.heap[b]?)∧∀ b,b<w.heap.size→W.shape? b=w.shape? b
def Stays (β:Book) (w W W':World):Prop:=CalmIn β w W→CalmIn β w W'
def Iter (P:Program) (gl:Globs) (gf:FuncId) (lb:List AV) (n:Nat) (xs:Fin n→AV):Prop :=
 Enters P gf∧∀ (β:Book) (w:World) (vs:Array Value),(∀ b,β.F b→b<w.heap.size)→(∀ id b k mu,β.m id=some (.lives b k mu)→b<w.heap.size)→GlobB gl β w→Rels β w lb vs →
  ∃ ys:Fin n→Value,(∀ i,Rel β w (xs i) (ys i))∧SeqStopsK Fence.wide 8 P gf vs (fun i => #[ys i]) (Stays β w) (fun l=>l=List.finRange n) (fun _=>True) n w
def roundT (P:Program) (gl:Globs) (own:FuncId→Option (List Bool)) (ng nt:Nat) (c:Code) (s s':ASt):Tree :=
 run ⟨P,gl,nt,own,ng⟩ c (fun e t=>match e with|.normal=>.again t (fun u=>Le ng u s')|_=>.bad "round") s
def Round (P:Program) (gl:Globs) (own:FuncId→Option (List Bool)) (ng nt:Nat) (c:Code) (s s':ASt):Prop:=(roundT P gl own ng nt c s s').wp P gl (Le ng)
theorem round_sk {P:Program} {gl:Globs} {own:FuncId→Option (List Bool)} {ng nt:Nat} {c:Code} {s s':ASt} (sk:Sk) (hu:unroll ng (roundT P gl own ng nt c s s') sk=sk) (h:sk.ok P gl ng):Round P gl own ng nt c s s' :=
 unroll_ok sk _ hu h
theorem k_againR {P:Program} {gl:Globs} {ng:Nat} {s':ASt} {ns π:List Nat} {vals:List AV} {os:List (Option Ob)} (h:∀ s,Desc ng s ns π vals os→Le ng s s'):(Sk.again (fun u=>Le ng u s') ns π vals os).ok P gl ng:=h
theorem lookZ_none {ns:List Nat} {vs:List AV} {n:Nat} (h:n∉ns):lookZ ns vs n=.junk:=by
 induction ns generalizing vs with
 | nil=>rfl
 | cons m ns ih =>
  cases vs with
  | nil=>rfl
  | cons v vs =>
   rw [List.mem_cons,not_or] at h
   have hb:Nat.beq m n=false:=by grind [Nat.beq,absurd,Nat.eq_of_beq_eq_true]
   simp_all [lookZ,cond_false]
def calmB (β:Book) (w:World):Book:=⟨fun _=>none,fun b=>b<w.heap.size∧¬β.free b⟩
theorem Rel.calm {β:Book} {w W:World} {a:AV} {v:Value} (h:Rel β w a v) (hc:Cl a) (hW:CalmIn β w W):Rel (calmB β w) W a v:=by
 let B1:Book:=⟨fun _=>none,fun b=>¬β.free b⟩
 have f1:∀ b,β.free b→B1.free b:=fun b h=>⟨fun h'=>h' h,fun id m h=>by cases h⟩
 have hk:Keeps B1 w (calmB β w) W:=by
  refine ⟨fun id o h=>(by cases h),fun b hb hfb=>hW.2.1 b hb (Classical.byContradiction fun h=>hfb.1 h),fun b hb hfb=>⟨fun h=>hfb.1 h.2,fun id m h=>by cases h⟩,fun b el sz h=>?_⟩
  rw [hW.2.2 b (lt_of_shape h)];exact h
 exact (h.rebook f1 hc).keep hk
theorem GlobAt.calm {β:Book} {w W:World} {g m:Nat} {f:Nat→AV} (h:GlobAt β w g m f) (hc:Cl (.ipt m f)) (hW:CalmIn β w W):GlobAt (calmB β w) W g m f :=
 ⟨h.rel.calm hc hW,let ⟨el,e⟩:=h.size;⟨el,by rw [hW.2.2 g (lt_of_shape e)];exact e⟩⟩
def calmK (P:Program) (gl:Globs) (nt:Nat) (β:Book) (w W:World):Ctx:=⟨P,gl,W.heap.size,W,nt,(calmB β w).F,fun _=>False,fun _=>none,true⟩
theorem Sim.calm {P:Program} {gl:Globs} {nt:Nat} {β:Book} {w W:World} {ns:List Nat} {vs:List AV} {a:Act} (hg:GlobB gl β w) (hW:CalmIn β w W) (hsz:a.tmps.size=nt) (hd:a.defers=[])
  (hv:∀ (k n:Nat) v,ns[k]? = some n→vs[k]? = some v→Rel (calmB β w) W v (a.tmps.getD n undef)):Sim (calmK P gl nt β w W) (calmB β w) (mkSt ns vs []) a W:=by
 refine ⟨fun n=>?_,hsz,by grind [Marks.nil],fun id o h=>(by grind [mkSt]),fun _ _ _ _ _ _ _ h=>(by cases h),fun _ _=>rfl,fun _ _ _ _ h=>(by cases h),fun _ _ h=>(by cases h),rfl,fun b hb=>⟨Nat.lt_of_lt_of_le hb.1 hW.1,fun h=>h⟩,
  Kept.refl _ _ _,Nat.le_refl _,fun g m h hgl=>((hg g m h hgl).calm ?_ hW)⟩
 ·show Rel _ _ (lookZ ns vs n) _
  clear hg hW hsz hd
  induction ns generalizing vs with
  | nil=>exact .junk
  | cons m ns ih =>
   cases vs with
   | nil=>exact .junk
   | cons v vs =>
    simp only [lookZ]
    cases hb:Nat.beq m n with
    | true =>
     have:=Nat.eq_of_beq_eq_true hb
     subst this
     exact hv 0 m v rfl rfl
    | false=>exact ih (fun k n v hn hv'=>hv (k+1) n v (by grind) (by grind))
 ·obtain ⟨_,_,_,_,_,_,_,_,hcl,_⟩:=rel_ipt_inv (hg g m h hgl).rel
  exact .ipt hcl
theorem Round.in {F:Fence} {n:Nat} {K:Ctx} {own:FuncId→Option (List Bool)} {ng:Nat} {c:Code} {s s':ASt} {β:Book} {a:Act} {w:World} {pins:List Nat} (hr:Round K.P K.gl own ng K.nt c s s') (hF:Open F) (hk:keepsC pins c=true)
  (hng:∀ id,ng≤id→K.b0 id=none) (hm:K.P.follows .mixedOrders=true) (hs:Sim K β s a w):c.wpIn F n K.P (fun e a' w'=>e=.normal∧(∃ β',Sim K β' s' a' w')∧PinIn pins a a') a w:=by
 refine wpIn_mono (runsIn (C:=⟨K.P,K.gl,K.nt,own,ng⟩) (pins:=pins) (a0:=a) hF rfl rfl rfl hm c _ s β a w hk hr hs (fun _ _=>rfl)) ?_
 rintro e a' w' ⟨⟨β',t,ae,he,hs',hk'⟩,hp⟩
 cases e<;>simp only [exitOf,reduceCtorEq,Option.some.injEq] at he
 ·subst he;exact ⟨rfl,hk' K β' a' w' hng hs',hp⟩
 ·subst he;exact hk'.elim
 ·subst he;exact hk'.elim
theorem Round.ops {F:Fence} {n:Nat} {K:Ctx} {own:FuncId→Option (List Bool)} {ng id:Nat} {ops:Array Oper} {s s':ASt} {β:Book} {a:Act} {w:World} {pins:List Nat} (hr:Round K.P K.gl own ng K.nt (.region id ops false) s s') (hF:Open F) (hk:keepsOps pins ops=true)
  (hng:∀ id,ng≤id→K.b0 id=none) (hs:Sim K β s a w):wpOpsIn F n K.P ops (fun e a' w'=>e=.normal∧(∃ β',Sim K β' s' a' w')∧PinIn pins a a') (List.range ops.size) a w:=by
 have h:(run ⟨K.P,K.gl,K.nt,own,ng⟩ (.region id ops false) (fun e t=>match e with|.normal=>.again t (fun u=>Le ng u s')|_=>.bad "round") s).wp K.P K.gl (Le ng):=hr
 simp only [run,keeps_upd hk,cond_false] at h
 cases hd:dstsOk ops with
 | false=>simp only [hd,cond_false] at h;exact h.elim
 | true =>
  simp only [hd,cond_true] at h
  have:=(region_core (K:=K) (C:=⟨K.P,K.gl,K.nt,own,ng⟩) rfl rfl rfl hd h hs (Q:=fun e a w=>e=.normal∧∃ β',Sim K β' s' a w) (fun β' r a' w' hr hX=>⟨rfl,hX K β' a' w' hng hr.toA⟩)).1 rfl
  have h2:=ops_in (a0:=a) (pins:=pins) (n:=n) hF hk (fun _ _ _ h=>by grind) (fun ⟨_,_,h⟩=>by grind) _ a w this (fun _ _=>rfl)
  grind
def allMu (obs:List (Option Ob)):Bool:=obs.all fun o=>match o with|some o=>o.mu|none=>false
theorem allMu_spec {obs:List (Option Ob)} (h:allMu obs=true) {k:Nat} (hk:k<obs.length):∃ o,obs.getD k none=some o∧o.mu=true:=by
 have:=List.all_eq_true.1 h obs[k] (List.getElem_mem hk)
 grind
theorem opq_range {P:Program} {gl:Globs} {own:FuncId→Option (List Bool)} {ng nt:Nat} {g:Operand} {p d:Nat} {assign body:Code} {gf:Nat} {lb:List AV} {n:Nat} {xs:Fin n→AV} {ns:List Nat} {vs:List AV}
  {obs:List (Fin n)→List (Option Ob)} {obs1:List (Option Ob)} (hev:ev gl (lookZ ns vs) g=.fn (.func gf) [] lb) (hit:Iter P gl gf lb n xs) (hcl:∀ x,Cl (xs x))
  (hasg:∀ (l:Nat) (a:Act) (W:World) (K:Act→World→Prop),K (a.put (some d) (a.tmps.getD p undef)) W→assign.wpIn (Fence.wide.inRound l) 7 P (Exit.then K (fun _ _ _=>False)) a W)
  (hmu:∀ pre,allMu (obs pre)=true) (hnm:∀ pre,NMS (mkSt ns vs (obs pre))) (hng0:NMG gl) (hpins:(keepsC ns body&&(!memN ns p && !memN ns d&&Nat.blt p nt&&Nat.blt d nt))=true)
  (hround:∀ pre x,pre.length<n→Round P gl own ng nt body (mkSt (d::p::ns) (xs x::xs x::vs) (obs pre)) (mkSt ns vs (obs (pre++[x]))))
  (h1:obs (List.finRange n)=obs1):Opq P gl ng nt (.rangeFunc g #[p] assign body) (mkSt ns vs (obs [])) (mkSt ns vs obs1):=by
 subst h1
 intro K β0 a w hKP hKgl hKnt hng hqt hm hs0
 subst hKP hKgl hKnt
 refine wpIn_wide (n:=9).1 ?_
 simp only [Bool.and_eq_true,Bool.not_eq_true',Nat.blt_eq] at hpins
 obtain ⟨hpb,⟨⟨hpn,hdn⟩,hpt⟩,hdt⟩:=hpins
 have hpn':p∉ns:=fun h=>by grind [memN_iff]
 have hdn':d∉ns:=fun h=>by grind [memN_iff]
 have hG0:∀ id b m mu,β0.m id=some (.lives b m mu)→mu=true:=fun id b m mu h=>by
  have hid:id<(obs []).length:=Nat.lt_of_not_le fun hle=>by rw [hs0.fresh id hle] at h;cases h
  obtain ⟨o,ho,hmu'⟩:=allMu_spec (hmu []) hid
  rcases hs0.heap id o ho with ⟨b',h1,_⟩|⟨h1,_⟩
  ·grind
  grind
 let K0:Ctx:=⟨K.P,K.gl,w.heap.size,w,K.nt,K.F,fun b=>∃ id m,β0.m id=some (.lives b m true),K.b0,true⟩
 have hlive0:∀ b,K0.G b→K.B≤b∨K.G b:=fun b ⟨id,m,h⟩=>(hs0.live id b m true h).1
 have hF0:∀ b,K.F b→b<w.heap.size∧¬K0.G b:=fun b hb=>⟨Nat.lt_of_lt_of_le (hs0.hF b hb).1 hs0.hB,fun hG=>by
  rcases hlive0 b hG with h|h
  ·have:=(hs0.hF b hb).1;omega
  ·exact (hs0.hF b hb).2 h⟩
 have hS0:Sim K0 β0 (mkSt ns vs (obs [])) { a with defers:=[] } w :=
  ⟨hs0.slot,hs0.size,Marks.nil _ _,hs0.heap,hs0.inj,hs0.fresh,fun id b m mu h=>⟨.inr ⟨id,m,by grind⟩,(hs0.live id b m mu h).2⟩,hs0.giv,hs0.bF,hF0,Kept.refl _ _ _,Nat.le_refl _,hs0.glob⟩
 have hfr:Rel β0 w (.fn (.func gf) [] lb) (a.eval g):=by
  have:=rel_ev (hs0.toR #[]) (x:=g) (fun t _=>rfl)
  grind [ev,ASt.toR,mkSt]
 obtain ⟨vf,vb,hav,hvf,hlb⟩:∃ vf vb,a.eval g=.func (.func gf) vf vb∧vf.size=0∧Rels β0 w lb vb:=by
  generalize a.eval g=u at hfr
  cases hfr with
  | fn h1 h2 h3 h4=>exact ⟨_,_,rfl,by grind,h3,h4⟩
 have hvf':vf = #[]:=Array.eq_empty_of_size_eq_zero hvf
 subst hvf'
 obtain ⟨⟨fn,code,hfn,hfb,hname⟩,hitr⟩:=hit
 obtain ⟨ys,hyr,hseq⟩:=hitr β0 w vb (fun b hb=>by rw [hs0.bF] at hb;grind) (fun id b k mu h=>(hs0.live id b k mu h).2) hs0.glob hlb
 have calm:∀ {β:Book} {s:ASt} {a':Act} {W:World},Sim K0 β s a' W→CalmIn β0 w W:=fun hs=>⟨hs.kept.size,fun b hb hf=>hs.kept.block b hb (fun ⟨id,m,h⟩=>hf.2 id m h),hs.kept.shape⟩
 have hfree:∀ {β:Book} {s:ASt} {a':Act} {W:World},(∀ id b m mu,β.m id=some (.lives b m mu)→mu=true)→Sim K0 β s a' W→∀ b,b<w.heap.size→β0.free b→β.free b:=fun hmt hs b hb hf =>
  ⟨by rw [hs.bF];have:=hf.1;rw [hs0.bF] at this;omega,fun id m h=>by
   rcases (hs.live id b m true h).1 with h'|⟨id',m',h'⟩
   ·grind
   ·exact hf.2 id' m' h'⟩
 have item:∀ {β:Book} {s:ASt} {a':Act} {W:World} (x:Fin n),Sim K0 β s a' W→(∀ b,b<w.heap.size→β0.free b→β.free b)→Rel β W (xs x) (ys x):=fun {β s a' W} x hs hf=>by
  let B1:Book:=⟨fun _=>none,fun b=>¬β0.free b⟩
  let B2:Book:=⟨fun _=>none,fun b=>¬β.free b⟩
  have f1:∀ b,β0.free b→B1.free b:=fun b h=>⟨fun h'=>h' h,fun id m h=>by cases h⟩
  have f2:∀ b,B2.free b→β.free b:=fun b h=>Classical.byContradiction fun h'=>h.1 h'
  have hk:Keeps B1 w B2 W:=by
   refine ⟨fun id o h=>(by cases h),fun b hb hfb=>(calm hs).2.1 b hb (Classical.byContradiction fun h=>hfb.1 h),fun b hb hfb=>⟨fun h=>h (hf b hb (Classical.byContradiction fun h=>hfb.1 h)),fun id m h=>by cases h⟩,fun b el sz h=>?_⟩
   have:=hs.kept.shape b (lt_of_shape h)
   grind
  exact ((((hyr x).rebook f1 (hcl x)).keep hk).rebook f2 (hcl x))
 let I:List (Fin n)→World→Prop:=fun pre W=>∃ β,Sim K0 β (mkSt ns vs (obs pre)) { a with defers:=[] } W
 have hmt:∀ {pre:List (Fin n)} {β:Book} {a':Act} {W:World},Sim K0 β (mkSt ns vs (obs pre)) a' W→∀ id b m mu,β.m id=some (.lives b m mu)→mu=true:=fun {pre β a' W} hs id b m mu h=>by
  have hid:id<(obs pre).length:=Nat.lt_of_not_le fun hle=>by rw [hs.fresh id hle] at h;cases h
  obtain ⟨o,ho,hmu'⟩:=allMu_spec (hmu pre) hid
  rcases hs.heap id o ho with ⟨b',h1,_⟩|⟨h1,_⟩
  ·grind
  grind
 have hI:OwnFrom w.heap.size I:=by
  rintro pre A B row ⟨β,hs⟩ hg hr
  have hne:∀ b,b<A.heap.size→(∀ o,A.heap[b]? = some o→o.isCells=false→b<w.heap.size)→B.heap[b]? = A.heap[b]? := fun b hb h=>hg.block b hb (fun e=>by grind)
  refine ⟨β,hs.same (fun b cs el z hb=>?_) hg.size (.inr ⟨hnm pre,hng0⟩) ?_ rfl (Marks.nil _ _)⟩
  ·exact (hne b (Array.getElem?_eq_some_iff.1 hb).1 (fun o h1 h2=>by rw [hb] at h1;cases h1;cases h2)).trans hb
  ·have hsz:=hs.kept.size
   have low:∀ k,k<w.heap.size→B.heap[k]? = A.heap[k]? := fun k hk=>hne k (by grind) (fun _ _ _=>hk)
   exact ⟨hg.os.trans hs.kept.os,hg.tape.trans hs.kept.tape,hg.output.trans hs.kept.output,Nat.le_trans hsz hg.size,fun k hk hG=>(low k hk).trans (hs.kept.block k hk hG),fun k hk=>(shape_of_block (low k hk)).trans (hs.kept.shape k hk),
    fun k o hk ho=>(low k (Array.getElem?_eq_some_iff.1 hk).1).trans (hs.kept.othr k o hk ho)⟩
 let a1:Fin n→Act:=fun x=>Act.put { tmps:=a.tmps.setIfInBounds p (ys x),defers:=[] } (some d) (ys x)
 have a1s:∀ x m,m≠d→m≠p→(a1 x).tmps.getD m undef=a.tmps.getD m undef:=fun x m h1 h2=>by
  simp [a1,Act.put,Array.getD_eq_getD_getElem?,Array.getElem?_setIfInBounds_ne (Ne.symm h1),Array.getElem?_setIfInBounds_ne (Ne.symm h2)]
 have hsize:a.tmps.size=K.nt:=hs0.size
 refine wpIn_rangeFunc_ownG (F:=Fence.wide) rfl (by decide) (gf:=gf) (lb:=vb) hav trivial (fun args w=>?_) hseq (fun h k h0=>k (h h0)) (fun W l o o' hl ho hc hw h=>?_) (Below.refl _ _) (fun _=>rfl) I (fun _ _ _=>False) hI (fun _ _ _ _ _ h _ _=>h) ⟨β0,hS0⟩ a1
  (fun l x W Kc hK=>?_) (fun l pre x W hi hlen=>?_) (fun D pre W hD hpre hi hW=>?_) (fun D c pre W hD _ h=>h.elim)
 ·simp only [callFunc,run_program,Sem.run_bind,Result.andThen_ok,hfn,hfb,hname,Bool.false_eq_true,if_false]
  rfl
 ·refine ⟨Nat.le_trans h.1 (by simp),fun b hb hf=>?_,fun b hb=>?_⟩
  ·exact (World.putObj_heap_other (by omega)).trans (h.2.1 b hb hf)
  ·exact (shape_of_block (World.putObj_heap_other (by omega))).trans (h.2.2 b hb)
 ·refine hasg l _ W Kc ?_
  have e0:(#[p].zip #[ys x]).foldl (fun t (q:Tmp×Value)=>t.setIfInBounds q.1 q.2) a.tmps=a.tmps.setIfInBounds p (ys x):=by simp
  show Kc (Act.put { tmps:=(#[p].zip #[ys x]).foldl (fun t (q:Tmp×Value)=>t.setIfInBounds q.1 q.2) a.tmps,defers:=[] } (some d) (((#[p].zip #[ys x]).foldl (fun t (q:Tmp×Value)=>t.setIfInBounds q.1 q.2) a.tmps).getD p undef)) W
  rw [e0]
  have e:(a.tmps.setIfInBounds p (ys x)).getD p undef=ys x:=by simp [Array.getD_eq_getD_getElem?,hsize,hpt]
  grind
 ·obtain ⟨β,hs⟩:=hi
  have hit':=item x hs (hfree (hmt hs) hs)
  let K1:Ctx:=⟨K.P,K.gl,W.heap.size,W,K.nt,K.F,fun b=>w.heap.size≤b∨K0.G b,K.b0,true⟩
  have hwW:w.heap.size≤W.heap.size:=hs.kept.size
  have hs1:Sim K1 β (mkSt (d::p::ns) (xs x::xs x::vs) (obs pre)) (a1 x) W:=by
   refine ⟨fun m=>?_,by grind [Act.put],Marks.nil _ _,hs.heap,hs.inj,hs.fresh,fun id b m mu h=>⟨.inr (hs.live id b m mu h).1,(hs.live id b m mu h).2⟩,hs.giv,hs.bF,
    fun b hb=>⟨Nat.lt_of_lt_of_le (hF0 b hb).1 hwW,fun h=>h.elim (fun h=>by grind) (hF0 b hb).2⟩,Kept.refl _ _ _,Nat.le_refl _,hs.glob⟩
   show Rel β W (lookZ (d::p::ns) (xs x::xs x::vs) m) ((a1 x).tmps.getD m undef)
   by_cases hmd:d=m
   ·subst hmd
    have e:(a1 x).tmps.getD d undef=ys x:=by simp [a1,Act.put,Array.getD_eq_getD_getElem?,hsize,hdt]
    simp only [lookZ,Nat.beq_refl,cond_true]
    grind
   ·have hb:Nat.beq d m=false:=by grind [Nat.beq,absurd,Nat.eq_of_beq_eq_true]
    simp only [lookZ,hb,cond_false]
    by_cases hmp:p=m
    ·subst hmp
     have e:(a1 x).tmps.getD p undef=ys x:=by
      have h1:(a1 x).tmps[p]? = some (ys x):=by
       show ((a.tmps.setIfInBounds p (ys x)).setIfInBounds d (ys x))[p]? = _
       grind
      rw [Array.getD_eq_getD_getElem?,h1];rfl
     simp only [Nat.beq_refl,cond_true]
     grind
    ·have hb:Nat.beq p m=false:=by grind [Nat.beq,absurd,Nat.eq_of_beq_eq_true]
     simp only [hb,cond_false]
     rw [a1s x m (Ne.symm hmd) (Ne.symm hmp)]
     exact hs.slot m
  refine wpIn_mono (runsIn (K:=K1) (C:=⟨K.P,K.gl,K.nt,own,ng⟩) (pins:=ns) (a0:=a1 x) (.inr ⟨l,rfl⟩) rfl rfl rfl hm body _ _ β (a1 x) W hpb (hround pre x hlen) hs1 (fun _ _=>rfl)) ?_
  rintro e a' W' ⟨⟨β',s',ae,he,hs',hk⟩,hpin⟩
  cases e<;>simp only [exitOf,reduceCtorEq,Option.some.injEq] at he
  ·subst he
   obtain ⟨β2,hs2⟩:=hk K1 β' a' W' hng hs'
   have hWW:W.heap.size≤W'.heap.size:=hs2.kept.size
   have hs3:Sim K0 β2 (mkSt ns vs (obs (pre++[x]))) { a with defers:=[] } W':=by
    refine ⟨fun m=>?_,hsize,Marks.nil _ _,hs2.heap,hs2.inj,hs2.fresh,fun id b m mu h=>⟨?_,(hs2.live id b m mu h).2⟩,hs2.giv,hs2.bF,hF0,hs.kept.trans (hs2.kept.mono hwW (fun k hk hG=>?_)),Nat.le_trans hwW hWW,hs2.glob⟩
    ·by_cases hm':m∈ns
     ·have:=hs2.slot m
      rw [hpin m hm',a1s x m (fun e=>hdn' (e▸hm')) (fun e=>hpn' (e▸hm'))] at this
      omega
     ·have e:(mkSt ns vs (obs (pre++[x]))).fr m=.junk:=lookZ_none hm'
      rw [e];exact .junk
    ·rcases (hs2.live id b m mu h).1 with h'|h'
     ·grind
     omega
    grind
   exact ⟨⟨hWW,fun k o _ hk ho=>hs2.kept.othr k o hk ho⟩,fun _=>calm hs3,β2,hs3⟩
  ·subst he;exact hk.elim
  ·subst he;exact hk.elim
 ·obtain ⟨β,hs⟩:=hi
  have hpre':pre=List.finRange n:=hpre
  subst hpre'
  refine ⟨rfl,β,hs.slot,hsize,?_,hs.heap,hs.inj,hs.fresh,fun id b m mu h=>⟨?_,(hs.live id b m mu h).2⟩,hs.giv,hs.bF,hs0.hF,hs0.kept.trans (hs.kept.mono hs0.hB (fun k hk hG=>?_)),Nat.le_trans hs0.hB hs.kept.size,hs.glob⟩
  ·obtain ⟨Ds,e1,e2,_,e3⟩:=hs0.defers
   refine ⟨D::Ds,by grind,List.nodup_cons.2 ⟨fun h=>?_,e2⟩,fun h=>(by grind),fun D' h=>?_⟩
   ·grind
   ·rcases List.mem_cons.1 h with rfl|h
    ·exact ⟨Nat.le_trans hs0.hB hD,Nat.le_trans hs0.kept.size hD,hW⟩
    ·exact ⟨(e3 D' h).1,(e3 D' h).2.1,hs.kept.othr D' _ (e3 D' h).2.2 rfl⟩
  ·rcases (hs.live id b m mu h).1 with h'|h'
   ·exact .inl (Nat.le_trans hs0.hB h')
   grind
  grind
theorem NM.atL {l:List AV} (h:∀ v,v∈l→NM v) (j:Nat):NM (atL l j):=by
 unfold Am.atL
 rw [List.getD_eq_getElem?_getD]
 cases hj:l[j]? with
 | none=>exact .junk
 | some x=>grind
def NML:List AV→Prop
 | []=>True
 | v::l=>NM v∧NML l
theorem NML.spec {l:List AV} (h:NML l):∀ v,v∈l→NM v:=by
 induction l with
 | nil=>simp
 | cons x l ih=>intro v hv;rcases List.mem_cons.1 hv with rfl|hv;(· exact h.1);(· exact ih h.2 v hv)
theorem NML.atL {l:List AV} (h:NML l) (j:Nat):NM (Am.atL l j):=NM.atL h.spec j
def NMB (o:Ob):Prop:=∀ i j,i<o.n→j<o.es→NM (o.f i j)
def NMO:List (Option Ob)→Prop
 | []=>True
 | none::l=>NMO l
 | some o::l=>NMB o∧NMO l
theorem NMO.spec {l:List (Option Ob)} (h:NMO l):∀ (k:Nat) o,l[k]? = some (some o)→NMB o:=by
 induction l with
 | nil=>simp
 | cons x l ih =>
  intro k o hk
  cases x with
  | none =>
   cases k with
   | zero=>grind
   | succ k=>exact ih h k o (by grind)
  | some y =>
   cases k with
   | zero=>simp at hk;subst hk;exact h.1
   | succ k=>exact ih h.2 k o (by grind)
theorem NMS.of {ns:List Nat} {vs:List AV} {obs:List (Option Ob)} (h1:NML vs) (h2:NMO obs):NMS (mkSt ns vs obs):=by
 refine ⟨fun n=>?_,fun id o ho=>?_⟩
 ·show NM (lookZ ns vs n)
  induction ns generalizing vs with
  | nil=>exact .junk
  | cons m ns ih =>
   cases vs with
   | nil=>exact .junk
   | cons v vs =>
    simp only [lookZ]
    cases Nat.beq m n with
    | true=>exact h1.1
    | false=>exact ih h1.2
 ·have ho:(obs[id]?).getD none=some o:=by grind [mkSt]
  cases hk:obs[id]? with
  | none=>grind
  | some x=>rw [hk] at ho;exact h2.spec id o (by grind)
end Go.Am

namespace Go.Sp
open Go.IntKind (wrap)
open Int (toNat)
open Go Go.Am Go.RowKit
theorem kept_calm {β:Book} {w W W1:World} (h:CalmIn β w W) (k:Kept W.heap.size (fun _=>False) W W1):CalmIn β w W1 :=
 ⟨Nat.le_trans h.1 k.size,fun b hb hf=>(k.block b (Nat.lt_of_lt_of_le hb h.1) (fun h=>h)).trans (h.2.1 b hb hf),fun b hb=>(k.shape b (Nat.lt_of_lt_of_le hb h.1)).trans (h.2.2 b hb)⟩
theorem kept_grown {W W1:World} (k:Kept W.heap.size (fun _=>False) W W1):W.grownBy W1 none:=⟨k.os,k.tape,k.output,k.size,fun b hb _=>k.block b hb (fun h=>h)⟩
theorem op_at {ops:Array Oper} {i:Nat} {d:Option Tmp} {op:Op} {g:Option (Nat×Bool)} (h:(ops[i]?).map (fun o=>(o.dst,o.op,o.guard))=some (d,op,g)):∃ o,ops[i]? = some o∧o.dst=d∧o.op=op∧o.guard=g:=by
 cases ho:ops[i]? with
 | none=>rw [ho] at h;cases h
 | some o=>rw [ho] at h;simp only [Option.map_some,Option.some.injEq,Prod.mk.injEq] at h;exact ⟨o,rfl,h.1,h.2.1,h.2.2⟩
theorem put_same {a:Act} {d:Nat} {v:Value} (h:d<a.tmps.size):(a.put (some d) v).tmps.getD d undef=v:=getD_put_same h
theorem put_ne {a:Act} {d n:Nat} {v:Value} (h:n≠d):(a.put (some d) v).tmps.getD n undef=a.tmps.getD n undef:=getD_put_ne h
theorem put_size {a:Act} {d:Nat} {v:Value}:(a.put (some d) v).tmps.size=a.tmps.size:=by simp [Act.put]
theorem ipt1_ent {os:List (Option Ob)} {a:AV}:Ent os (.ipt 1 fun k=>atL [a] k) (.ipt 1 fun _=>a):=fun β w v _ h=>by
 obtain ⟨b,off,vals,rfl,hm,hb,hc,hr,hcl,ho⟩:=rel_ipt_inv h
 have e:∀ j,j<1→atL [a] j=a:=fun j hj=>by
  have:j=0:=by omega
  subst this;rfl
 exact .ipt vals hm hb hc ho (fun j hj=>by have:=hr j hj;rwa [e j hj] at this) (fun j hj=>by have:=hcl j hj;rwa [e j hj] at this)
theorem fn2_ent {os:List (Option Ob)} {f:Fn} {a b a' b':AV} (h1:Ent os a a') (h2:Ent os b b'):Ent os (.fn f [] [a,b]) (.fn f [] [a',b']):=fun β w v hh h=>by
 cases h with
 | fn hl hr hl' hr' =>
  refine .fn hl hr hl' fun j u x hu hx=>?_
  rcases j with _|_|j
  ·cases hu;exact h1 β w x hh (hr' 0 _ x rfl hx)
  ·cases hu;exact h2 β w x hh (hr' 1 _ x rfl hx)
  ·simp at hu
theorem fn1_ent {os:List (Option Ob)} {f:Fn} {a a':AV} (h1:Ent os a a'):Ent os (.fn f [] [a]) (.fn f [] [a']):=fun β w v hh h=>by
 cases h with
 | fn hl hr hl' hr' =>
  refine .fn hl hr hl' fun j u x hu hx=>?_
  rcases j with _|j
  ·cases hu;exact h1 β w x hh (hr' 0 _ x rfl hx)
  ·simp at hu
structure ItFr (y v1 v2 : Value) (i : Nat) (a : Act) : Prop where
  size : a.tmps.size = 31
  defers : a.defers = []
  t0 : a.tmps.getD 0 undef = y
  t1 : a.tmps.getD 1 undef = v1
  t2 : a.tmps.getD 2 undef = v2
  t4 : a.tmps.getD 4 undef = .int .i64 i
theorem chunk_of {P:Program} {gl:Globs} {own:FuncId→Option (List Bool)} {g:Nat} {fn:Func} {c R0 R1 R2 R3 R4:Code} {r4:Array Oper} {N tS tE:Nat} {h:Nat→Nat→Int} (hN:1≤N) (hf:P.funcs[g]? = some fn) (hbody:fn.body=some c) (hname:(fn.name == "runtime.NumGoroutine")=false) (hrs:fn.results = #[]) (hnt:fn.ntmps=31)
  (hm:P.follows .mixedOrders=true) (hshape:c=.seq R0 (.block 0 (.loop (.seq (.seq R1 (.cond (.tmp 9) .skip (.exit 0))) (.seq (.block 1 (.seq R3 (.seq R4 (.cond (.tmp 30) .ret .skip)))) R2))))) (hr4:R4=.region 4 r4 false)
  (hsz:r4.size=12) (hgd:(r4.toList.all fun o=>o.guard.isNone)=true) (hu44:P.underlying tS=some (.slice tE)) (hsh:szT P tE=some 32)
  (h9:(r4[9]?).map (fun o=>(o.dst,o.op,o.guard))=some (some 28,.slice tS (.tmp 20) (some (.tmp 21)) (some (.tmp 24)) (some (.tmp 27)),none))
  (h10:(r4[10]?).map (fun o=>(o.dst,o.op,o.guard))=some (some 29,.call ⟨.value (.tmp 19),#[.tmp 28],#[tS]⟩,none))
  (h11:(r4[11]?).map (fun o=>(o.dst,o.op,o.guard))=some (some 30,.unOp .not 4 (.tmp 29),none))
  (k0:keepsC [0,1,2] R0=true) (k1:keepsC [0,1,2,4] R1=true) (k2:keepsC [0,1,2] R2=true) (k3:keepsC [0,1,2,4] R3=true) (k4:keepsOps [0,1,2,4] (r4.extract 0 9)=true)
  (i0:Round P gl own 0 31 R0 (mkSt [] [] []) (mkSt [4] [.int .i64 0] []))
  (i1:∀ k:Nat,k≤2*N→Round P gl own 0 31 R1 (mkSt [1,2,4] [.ipt 1 fun _=>hsl (2*N) h,.ipt 1 fun _=>.int .i64 2,.int .i64 k] []) (mkSt [9] [.bool (decide ((k:Int)<(2*N:Nat)))] []))
  (i3:∀ k:Nat,k+2≤2*N→Round P gl own 0 31 R3 (mkSt [1,2,4] [.ipt 1 fun _=>hsl (2*N) h,.ipt 1 fun _=>.int .i64 2,.int .i64 k] []) (mkSt [5] [.int .i64 2] []))
  (i4:∀ (y u:Value) (k:Nat),k+2≤2*N→Round P gl own 0 31 (.region 4 (r4.extract 0 9) false) (mkSt [0,1,4,5] [.raw y,.ipt 1 fun _=>.raw u,.int .i64 k,.int .i64 2] []) (mkSt [19,20,21,24,27] [.raw y,.raw u,.int .i64 k,.int .i64 (k+2),.int .i64 (k+2)] []))
  (i2:∀ k:Nat,k+2≤2*N→Round P gl own 0 31 R2 (mkSt [2,4] [.ipt 1 fun _=>.int .i64 2,.int .i64 k] []) (mkSt [4] [.int .i64 (k+2)] [])) :
  Iter P gl g [.ipt 1 fun _=>hsl (2*N) h,.ipt 1 fun _=>.int .i64 2] N (fun k=>hsl 2 fun r=>h (2*k.1+r)):=by
 refine ⟨⟨_,_,hf,hbody,hname⟩,fun β w vs hF hlt hg hv=>?_⟩
 obtain ⟨v1,v2,rfl,h1,h2⟩:∃ v1 v2,vs = #[v1,v2]∧Rel β w (.ipt 1 fun _=>hsl (2*N) h) v1∧Rel β w (.ipt 1 fun _=>.int .i64 2) v2:=by
  have hl:2=vs.size:=hv.len
  obtain ⟨vs⟩:=vs
  match vs,hl with
  | [v1,v2],_=>exact ⟨v1,v2,rfl,hv.rel 0 _ _ rfl rfl,hv.rel 1 _ _ rfl rfl⟩
 obtain ⟨b1,o1,vals1,hv1,_,hf1,hc1,hr1,hcl1,hone1⟩:=rel_ipt_inv h1
 have hu:=hr1 0 (by decide)
 generalize hu0:vals1 0=u at hu
 obtain ⟨a0,cap,hue,hcap,_,hrest⟩:=rel_isl_inv hu
 obtain ⟨b,off,vals,ha0,he,hfree,hcell,hrel,hcl,hone⟩:=hrest (by omega)
 subst ha0
 have hx:∀ k:Nat,k<N→Rel β w (hsl 2 fun r=>h (2*k+r)) (.slice (some ⟨b,off+2*k*32,none⟩) 2 2):=fun k hk =>
  .isl (fun i j=>vals (2*k+i) j) (by decide) (Nat.le_refl _) hfree (fun i j hi hj=>by
   rw [← hcell (2*k+i) j (by omega) hj];grind) (fun i j hi hj=>hone _ _ (by omega) hj) (fun i j hi hj=>hrel _ _ (by omega) hj) (fun i j hi hj=>hcl _ _ (by omega) hj)
 refine ⟨fun k=>.slice (some ⟨b,off+2*k.1*32,none⟩) 2 2,fun k=>hx k.1 k.2,?_⟩
 intro l J Jx W hbW hJ hJx hY hJ0
 have hcW:CalmIn β w W:=⟨hbW.size,fun b hb _=>hbW.block b hb,fun b hb=>shape_of_block (hbW.block b hb)⟩
 refine callsIn_of_wp hf hbody trivial ?_
 have hJg:∀ pre A B,J pre A→Kept A.heap.size (fun _=>False) A B→J pre B:=fun pre A B hj k=>hJ pre A B none hj (kept_grown k) (fun r h=>by cases h)
 have hcl1':Cl (.ipt 1 fun _=>hsl (2*N) h):=.ipt hcl1
 have hcl2':Cl (.ipt 1 fun _=>.int .i64 2):=.ipt fun _ _=>.int
 have hclu:Cl (.ipt 1 fun _=>.raw u):=.ipt fun _ _=>.raw
 have hraw:Rel β w (.raw u) (vals1 0):=by
  rw [hu0]
  exact .raw (fun cs e=>by grind)
 have hur:Rel β w (.ipt 1 fun _=>.raw u) v1:=by
  rw [hv1]
  refine .ipt vals1 (by decide) hf1 hc1 hone1 (fun j hj=>?_) (fun _ _=>.raw)
  grind
 generalize hy:(Value.func (.yield l) #[] #[])=y
 have sim:∀ {i:Nat} {a:Act} {W:World},ItFr y v1 v2 i a→CalmIn β w W→Sim (calmK P gl 31 β w W) (calmB β w) (mkSt [1,2,4] [.ipt 1 fun _=>hsl (2*N) h,.ipt 1 fun _=>.int .i64 2,.int .i64 i] []) a W:=fun {i a W} ha hW =>
  Sim.calm hg hW ha.size ha.defers (fun k n v hn hv=>by
   rcases k with _|_|_|k
   ·cases hn;cases hv;rw [ha.t1];exact h1.calm hcl1' hW
   ·cases hn;cases hv;rw [ha.t2];exact h2.calm hcl2' hW
   ·cases hn;cases hv;rw [ha.t4];exact .int
   simp_all)
 have pin:∀ {i:Nat} {a a':Act} {s:ASt} {β':Book} {W W':World},ItFr y v1 v2 i a→PinIn [0,1,2,4] a a'→Sim (calmK P gl 31 β w W) β' s a' W'→ItFr y v1 v2 i a':=fun {i a a' s β' W W'} f hp hs =>
  ⟨hs.size,hs.defers.quiet rfl,(hp 0 (by simp)).trans f.t0,(hp 1 (by simp)).trans f.t1,(hp 2 (by simp)).trans f.t2,(hp 4 (by simp)).trans f.t4⟩
 have hres:∀ (a:Act) (W':World),(results fn a.tmps).run P W'=.ok (.tuple #[]) W':=fun a W'=>by
  rw [results_eq,hrs]
  simp
 have fin:∀ k:Nat,(hk:k<N)→(List.finRange N).take k++[⟨k,hk⟩]=(List.finRange N).take (k+1):=fun k hk=>by
  rw [List.take_add_one]
  simp [hk]
 subst hshape
 refine wpIn_seq (wpIn_mono (Round.in (pins:=[0,1,2]) (K:=calmK P gl 31 β w W) i0 (.inl rfl) k0 (fun _ _=>rfl) hm (Sim.calm (ns:=[]) (vs:=[]) hg hcW (by simp [hnt]) rfl (fun k n v hn=>by simp))) ?_)
 rintro e a1 W1 ⟨rfl,⟨β1,hs1⟩,hp1⟩
 have f1:ItFr y v1 v2 0 a1:=⟨hs1.size,hs1.defers.quiet rfl,(hp1 0 (by simp)).trans (by simp [Array.getD_eq_getD_getElem?,Array.getElem?_append]),(hp1 1 (by simp)).trans (by simp [Array.getD_eq_getD_getElem?,Array.getElem?_append]),(hp1 2 (by simp)).trans (by simp [Array.getD_eq_getD_getElem?,Array.getElem?_append]),rel_int_inv (hs1.slot 4)⟩
 have c1:=kept_calm hcW hs1.kept
 have j1:=hJg _ _ _ hJ0 hs1.kept
 show (Code.block 0 _).wpIn _ _ _ _ a1 W1
 refine wpIn_block (wpIn_loop (fun a W=>∃ k,k≤N∧ItFr y v1 v2 (2*k) a∧CalmIn β w W∧J ((List.finRange N).take k) W) (fun a _=>match a.tmps.getD 4 undef with|.int _ i=>(2*N - i).toNat|_=>0) ⟨0,Nat.zero_le _,f1,c1,j1⟩ ?_)
 rintro a2 W2 ⟨k,hk,f2,c2,j2⟩
 have hJk:∀ pre A B,J pre A→Kept A.heap.size (fun _=>False) A B→J pre B:=fun pre A B hj kk=>hJ pre A B none hj (kept_grown kk) (fun r h=>by cases h)
 refine wpIn_seq (wpIn_seq (wpIn_mono (Round.in (pins:=[0,1,2,4]) (K:=calmK P gl 31 β w W2) (i1 (2*k) (by omega)) (.inl rfl) k1 (fun _ _=>rfl) hm (sim f2 c2)) ?_))
 rintro e a3 W3 ⟨rfl,⟨β3,hs3⟩,hp3⟩
 have f3:=pin f2 hp3 hs3
 have c3:=kept_calm c2 hs3.kept
 have j3:=hJk _ _ _ j2 hs3.kept
 have t9:a3.eval (.tmp 9)=.bool (decide (((2*k:Nat):Int)<(2*N:Nat))):=rel_bool_inv (hs3.slot 9)
 by_cases hkN:k<N
 rotate_left
 ·-- the end
  refine wpIn_cond_false (by grind) (wpIn_exit ?_)
  obtain rfl:k=N:=by omega
  refine ⟨f3.defers,_,hres a3 W3,⟨_,rfl⟩,.inl ⟨_,?_,j3⟩⟩
  simp [List.take_of_length_le]
 refine wpIn_cond_true (by grind) (wpIn_skip ?_)
 refine wpIn_seq (wpIn_block (wpIn_seq (wpIn_mono (Round.in (pins:=[0,1,2,4]) (K:=calmK P gl 31 β w W3) (i3 (2*k) (by omega)) (.inl rfl) k3 (fun _ _=>rfl) hm (sim f3 c3)) ?_)))
 rintro e a4 W4 ⟨rfl,⟨β4,hs4⟩,hp4⟩
 have f4:=pin f3 hp4 hs4
 have c4:=kept_calm c3 hs4.kept
 have j4:=hJk _ _ _ j3 hs4.kept
 have t5:a4.tmps.getD 5 undef=.int .i64 2:=rel_int_inv (hs4.slot 5)
 refine wpIn_seq ?_
 subst hr4
 refine wpIn_region ?_
 have hr:List.range r4.size=List.range 9++[9,10,11]:=by rw [hsz];rfl
 rw [hr]
 have hgn:∀ i o,i<9→r4[i]? = some o→o.guard=none:=fun i o hi ho=>by
  have hmem:o∈r4.toList:=by
   obtain ⟨h1,h2⟩:=Array.getElem?_eq_some_iff.1 ho
   rw [← h2];simp
  have:=List.all_eq_true.1 hgd o hmem
  cases hg':o.guard with
  | none=>rfl
  | some x=>rw [hg'] at this;cases this
 have hsz9:(r4.extract 0 9).size=9:=by simp [hsz]
 have hpre:wpOpsIn Fence.wide 8 P (r4.extract 0 9) (fun e a' W'=>e=.normal∧(∃ β',Sim (calmK P gl 31 β w W4) β' (mkSt [19,20,21,24,27] [.raw y,.raw u,.int .i64 (2*k:Nat),.int .i64 ((2*k:Nat)+2),.int .i64 ((2*k:Nat)+2)] []) a' W')∧PinIn [0,1,2,4] a4 a') (List.range 9) a4 W4:=by
  have:=Round.ops (F:=Fence.wide) (n:=8) (K:=calmK P gl 31 β w W4) (pins:=[0,1,2,4]) (i4 y u (2*k) (by omega)) (.inl rfl) k4 (fun _ _=>rfl) (Sim.calm (ns:=[0,1,4,5]) (a:=a4) hg c4 f4.size f4.defers (fun k' n v hn hv=>by
   rcases k' with _|_|_|_|k'
   ·cases hn;cases hv;rw [f4.t0];exact .raw (fun cs e=>by grind)
   ·cases hn;cases hv;rw [f4.t1];exact hur.calm hclu c4
   ·cases hn;cases hv;rw [f4.t4];exact .int
   ·cases hn;cases hv;rw [t5];exact .int
   ·simp at hn))
  rwa [hsz9] at this
 refine opsIn_pre (ops':=r4.extract 0 9) (m:=9) (fun i hi=>by rw [Array.getElem?_extract];grind) hgn ?_ (List.range 9) (fun i hi=>List.mem_range.1 hi) a4 W4 hpre
 rintro a5 W5 ⟨⟨β5,hs5⟩,hp5⟩
 have f5:=pin f4 hp5 hs5
 have c5:=kept_calm c4 hs5.kept
 have j5:=hJk _ _ _ j4 hs5.kept
 have raw_inv:∀ {v a:Value} {β':Book} {W':World},Rel β' W' (.raw a) v→v=a:=fun h=>by cases h;rfl
 have t19:a5.eval (.tmp 19)=y:=raw_inv (hs5.slot 19)
 have t20:a5.eval (.tmp 20)=.slice (some ⟨b,off,none⟩) (2*N) cap:=(raw_inv (hs5.slot 20)).trans hue
 have t21:a5.eval (.tmp 21)=.int .i64 (2*k:Nat):=rel_int_inv (hs5.slot 21)
 have t24:a5.eval (.tmp 24)=.int .i64 ((2*k:Nat)+2):=rel_int_inv (hs5.slot 24)
 have t27:a5.eval (.tmp 27)=.int .i64 ((2*k:Nat)+2):=rel_int_inv (hs5.slot 27)
 obtain ⟨o9,ho9,hd9,hop9,hg9⟩:=op_at h9
 obtain ⟨o10,ho10,hd10,hop10,hg10⟩:=op_at h10
 obtain ⟨o11,ho11,hd11,hop11,hg11⟩:=op_at h11
 have wnt:∀ (o:Oper) ys,o.guard=none→Region.wanted o ys=true:=fun o ys hg=>by simp [Region.wanted,hg]
 have e9:(execOp a5.eval o9).run P W5=.ok (.value (.slice (some ⟨b,off+2*k*32,none⟩) 2 2)) W5:=by
  have hb1:(Instr.sliceBounds true (2*N) cap (some (.int .i64 (2*k:Nat))) (some (.int .i64 ((2*k:Nat)+2))) (some (.int .i64 ((2*k:Nat)+2)))).run P W5=.ok (2*k,2*k+2,2*k+2) W5:=by
   have g1:(0:Int)≤((2*k:Nat):Int)+2∧((2*k:Nat):Int)+2≤cap:=by omega
   have g2:(0:Int)≤((2*k:Nat):Int)+2∧((2*k:Nat):Int)+2≤((2*k+2:Nat):Int):=by omega
   have g3:(0:Int)≤((2*k:Nat):Int)∧((2*k:Nat):Int)≤((2*k+2:Nat):Int):=by omega
   have e1:(((2*k:Nat):Int)+2).toNat=2*k+2:=by omega
   simp only [Instr.sliceBounds,Instr.sliceBound,asIntOf_run,Sem.run_bind,Result.andThen_ok,Sem.run_ite,if_pos g1,Sem.run_pure,e1,if_pos g2,if_pos g3,Option.isSome_some,if_true,Int.toNat_natCast]
  have hne:¬(2*k+2=2*k):=by omega
  have e2:2*k+2 - 2*k=2:=by omega
  simp only [execOp,hop9,Instr.sliceAt,Instr.slice,t20,t21,t24,t27,Option.map_some,Sem.run_bind,run_underlying hu44,Result.andThen_ok,hb1,szT_run W5 hsh,Sem.run_pure,if_neg hne,add_mk,e2]
 simp only [wpOpsIn,ho9,ho10,ho11,wnt o9 _ hg9,if_true]
 refine ⟨fun _ _=>trivial,?_⟩
 show o9.uponIn _ _ _ _ _ _ ((execOp a5.eval o9).run P W5)
 rw [e9,Oper.uponIn_value,hd9,if_pos (wnt o10 _ hg10)]
 refine ⟨fun _ _=>trivial,?_⟩
 have hlen:((List.finRange N).take k).length<N:=by simp;omega
 obtain ⟨fn',tmps',asg,bd,hy10,hR⟩:=hY ((List.finRange N).take k) ⟨k,hkN⟩ W5 j5 hlen
 have e10:(execOp (a5.put (some 28) (.slice (some ⟨b,off+2*k*32,none⟩) 2 2)).eval o10).run P W5=.ok (.round l fn' tmps' asg bd) W5:=by
  have v19:(a5.put (some 28) (.slice (some ⟨b,off+2*k*32,none⟩) 2 2)).eval (.tmp 19)=.func (.yield l) #[] #[]:=by
   show (a5.put (some 28) _).tmps.getD 19 undef=_
   rw [put_ne (by decide),hy]
   exact t19
  have v28:(a5.put (some 28) (.slice (some ⟨b,off+2*k*32,none⟩) 2 2)).eval (.tmp 28)=.slice (some ⟨b,off+2*k*32,none⟩) 2 2:=put_same (by rw [f5.size];decide)
  simp [execOp,hop10,resolve,v19,v28,Deferred.ofValue,invoke]
  omega
 show o10.uponIn _ _ _ _ _ _ ((execOp _ o10).run P W5)
 rw [e10,Oper.uponIn_round,hd10]
 generalize ha6:a5.put (some 28) (.slice (some ⟨b,off+2*k*32,none⟩) 2 2)=a6
 have sz6:a6.tmps.size=31:=by rw [← ha6,put_size];exact f5.size
 have g6:∀ m,m≠28→a6.tmps.getD m undef=a5.tmps.getD m undef:=fun m hm'=>by rw [← ha6];exact put_ne hm'
 have d6:a6.defers=[]:=by rw [← ha6];exact f5.defers
 refine ⟨fun h=>(by cases h),hR.mono ?_⟩
 have e11:∀ (v:Bool) (W6:World),(execOp (a6.put (some 29) (.bool v)).eval o11).run P W6=.ok (.value (.bool (!v))) W6:=fun v W6=>by
  have v29:(a6.put (some 29) (.bool v)).eval (.tmp 29)=.bool v:=put_same (by omega)
  have hun:(Op.unary UnOp.not (.bool v)).run P W6=.ok (.bool (!v)) W6:=rfl
  simp [execOp,hop11,v29,Result.andThen,hun]
 rintro e W6 (⟨rfl,j6,s6⟩|⟨rfl,jx6⟩)
 ·show (if Region.wanted o11 _=true then _ else _)
  rw [if_pos (wnt o11 _ hg11)]
  refine ⟨fun _ _=>trivial,?_⟩
  show o11.uponIn _ _ _ _ _ _ ((execOp _ o11).run P W6)
  rw [e11,Oper.uponIn_value,hd11]
  generalize ha7:a6.put (some 29) (.bool true)=a7
  have sz7:a7.tmps.size=31:=by rw [← ha7,put_size];omega
  have v30:(a7.put (some 30) (.bool (!true))).eval (.tmp 30)=.bool false:=put_same (by omega)
  refine wpIn_cond_false v30 (wpIn_skip ?_)
  have g8:∀ m,m≠28→m≠29→m≠30→(a7.put (some 30) (.bool (!true))).tmps.getD m undef=a5.tmps.getD m undef:=fun m h1 h2 h3=>by
   rw [put_ne h3,← ha7,put_ne h2];exact g6 m h1
  have f8:ItFr y v1 v2 (2*k) (a7.put (some 30) (.bool (!true))):=⟨by rw [put_size];omega,by rw [← ha7];exact d6,(g8 0 (by decide) (by decide) (by decide)).trans f5.t0,(g8 1 (by decide) (by decide) (by decide)).trans f5.t1,(g8 2 (by decide) (by decide) (by decide)).trans f5.t2,(g8 4 (by decide) (by decide) (by decide)).trans f5.t4⟩
  generalize a7.put (some 30) (.bool (!true))=a8 at f8
  have c6:CalmIn β w W6:=s6 c5
  refine wpIn_mono (Round.in (F:=Fence.wide) (pins:=[0,1,2]) (K:=calmK P gl 31 β w W6) (i2 (2*k) (by omega)) (.inl rfl) k2 (fun _ _=>rfl) hm (Sim.calm (ns:=[2,4]) hg c6 f8.size f8.defers (fun k' n v hn hv=>by
   rcases k' with _|_|k'
   ·cases hn;cases hv;rw [f8.t2];exact h2.calm hcl2' c6
   ·cases hn;cases hv;rw [f8.t4];exact .int
   ·simp at hn))) ?_
  rintro e a9 W9 ⟨rfl,⟨β9,hs9⟩,hp9⟩
  have t4:a9.tmps.getD 4 undef=.int .i64 ((2*k:Nat)+2):=rel_int_inv (hs9.slot 4)
  have f9:ItFr y v1 v2 (2*(k+1)) a9:=⟨hs9.size,hs9.defers.quiet rfl,(hp9 0 (by simp)).trans f8.t0,(hp9 1 (by simp)).trans f8.t1,(hp9 2 (by simp)).trans f8.t2,t4.trans (by congr 1)⟩
  have c9:=kept_calm c6 hs9.kept
  rw [fin k hkN] at j6
  have j9:=hJk _ _ _ j6 hs9.kept
  refine ⟨⟨k+1,hkN,f9,c9,j9⟩,?_⟩
  show (match a9.tmps.getD 4 undef with|.int _ i=>(2*N - i).toNat|_=>0)<(match a2.tmps.getD 4 undef with|.int _ i=>(2*N - i).toNat|_=>0)
  rw [f9.t4,f2.t4]
  show (2*(N:Int) - ((2*(k+1):Nat):Int)).toNat<(2*(N:Int) - ((2*k:Nat):Int)).toNat
  omega
 ·show (if Region.wanted o11 _=true then _ else _)
  rw [if_pos (wnt o11 _ hg11)]
  refine ⟨fun _ _=>trivial,?_⟩
  show o11.uponIn _ _ _ _ _ _ ((execOp _ o11).run P W6)
  rw [e11,Oper.uponIn_value,hd11]
  generalize ha7:a6.put (some 29) (.bool false)=a7
  have sz7:a7.tmps.size=31:=by rw [← ha7,put_size];omega
  have v30:(a7.put (some 30) (.bool (!false))).eval (.tmp 30)=.bool true:=put_same (by omega)
  refine wpIn_cond_true v30 (wpIn_ret ?_)
  refine ⟨by rw [← ha7];exact d6,_,hres _ W6,⟨_,rfl⟩,.inr ⟨_,trivial,jx6⟩⟩
theorem assign_in {P:Program} {id d p:Nat} {r:Array Oper} (hsz:r.size=1) (h0:(r[0]?).map (fun o=>(o.dst,o.op,o.guard))=some (some d,.assign (.tmp p),none)) (l:Nat) (a:Act) (W:World) (K:Act→World→Prop) (hK:K (a.put (some d) (a.tmps.getD p undef)) W) :
  (Code.region id r false).wpIn (Fence.wide.inRound l) 7 P (Exit.then K (fun _ _ _=>False)) a W:=by
 refine wpIn_region ?_
 obtain ⟨o,ho,hd,hop,hg⟩:=op_at h0
 rw [hsz]
 show wpOpsIn _ _ _ _ _ [0] a W
 simp only [wpOpsIn,ho]
 rw [if_pos (by grind [Region.wanted])]
 refine ⟨fun _ _=>trivial,?_⟩
 rw [Oper.semAt_eq _ _ _ (fun c e=>by grind)]
 have e:(execOp a.eval o).run P W=.ok (.value (a.tmps.getD p undef)) W:=by
  simp only [execOp,hop,Sem.run_pure]
  rfl
 rw [e,Oper.uponIn_value,hd]
 exact hK
def rowP {N:Nat} (h:Nat→Nat→Int) (pre:List (Fin N)) (r:Nat):Nat→Int:=match pre[r]? with
 | some x=>nodeF (h (2*x.1)) (h (2*x.1+1))
 | none=>fun _=>0
theorem rowP_ob {os:List (Option Ob)} {N:Nat} {h:Nat→Nat→Int} {pre:List (Fin N)} {x:Fin N} :
  ObEnt os ⟨32,pre.length+1,true,.fn fun i j=>.int .u8 (bif Nat.blt i pre.length then rowP h pre i j else intOfAV (atL (u8c (nodeF (h (2*x.1+0)) (h (2*x.1+1)))) j))⟩ ⟨32,(pre++[x]).length,true,.fn fun r j=>.int .u8 (rowP h (pre++[x]) r j)⟩:=by
 refine ⟨rfl,by simp,rfl,fun i j hi hj=>Ent.of_eq (congrArg (AV.int .u8) ?_)⟩
 have hi':i<pre.length+1:=hi
 unfold rowP
 by_cases hlt:i<pre.length
 ·grind [blt_t,List.getElem?_append_left]
 ·have:i=pre.length:=by omega
  subst this
  rw [blt_f (Nat.le_refl _),List.getElem?_append_right (Nat.le_refl _),Nat.sub_self]
  show intOfAV (atL (u8c _) j)=_
  rw [u8c_at hj];rfl
theorem lvl_ent {os:List (Option Ob)} {d x:Nat} {h:Nat→Nat→Int}:Ent os (.isl 32 (2^(d - x - 1)) fun r k=>.int .u8 (rowP (treF h x) (List.finRange (2^(d - x - 1))) (r+0) k)) (hsl (2^(d - (x+1))) (treF h (x+1))) :=
 Ent.islN rfl fun i j hi hj=>congrArg (AV.int .u8) (by simp_all [rowP,treF,List.finRange])
end Go.Sp
