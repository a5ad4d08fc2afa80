/- Part of the proof: MU5, MUL, MUN, MUO, MUP, Mrg0, MUQ, AJ6, EnGlob. -/
import Derived.Test.YtcageinnelhonaaGreatDoorM7
import Derived.Test.YtcageinnelhonaaGreatDoorProg
import Derived.Test.YtcageinnelhonaaGreatDoorM3
import Derived.Test.YtcageinnelhonaaGreatDoorM4
import Derived.OpenShut
import Derived.FnData
import Derived.MakeChecks
namespace Go.Proofs.YtcageinnelhonaaGreatDoor.U
open Go.IntKind (wrap)
open Int (toNat)
open Go Go.Am Go.Sp
set_option maxRecDepth 100000
def rA:Code→Code|.rangeFunc _ _ a _=>a|c=>c
def rB:Code→Code|.rangeFunc _ _ _ b=>b|c=>c
noncomputable def apX:Code:=Tryz.f229.body.getD .skip
noncomputable def apF:Code:=cI (cR (cL (cR apX)))
theorem ap_shape:apF=.rangeFunc (.tmp 6) #[7] (rA apF) (rB apF):=by rfl
def preS {n:Nat} (f:Nat→Sup) (pre:List (Fin n)) (i:Nat):Sup:=match pre[i]? with
 | some x=>f x.1
 | none=>default
theorem preS_len {n:Nat} {pre:List (Fin n)} {x:Fin n}:(pre++[x]).length=pre.length+1:=by simp
theorem preS_lt {n:Nat} {f:Nat→Sup} {pre:List (Fin n)} {x:Fin n} {i:Nat} (h:i<pre.length):preS f (pre++[x]) i=preS f pre i:=by grind [preS,List.getElem?_append_left]
theorem preS_at {n:Nat} {f:Nat→Sup} {pre:List (Fin n)} {x:Fin n}:preS f (pre++[x]) pre.length=f x.1:=by simp [preS]
theorem entL_eq {os:List (Option Ob)} {l l':List AV} (h:l=l'):EntL os l l':=h▸EntL.refl l
theorem ap_a (n:Nat) (f:Nat→Sup) (pre:List (Fin n)) (x:Fin n):Round Tryz.prog gl0 ow0 0 13 (rA apF) (mkSt [7,2,6] [.agg (f x.1).cells,.own 0 1 0 0 1,.fn (.func 169) [] [.ipt 1 fun _=>supA n f]] [some ⟨1,1,true,.lst [[.osl 1 7 0 pre.length]]⟩,some ⟨7,pre.length,true,.row fun i=>(preS f pre i).cells⟩]) (mkSt [5,7,2,6] [.own 2 7 0 0 7,.agg (f x.1).cells,.own 0 1 0 0 1,.fn (.func 169) [] [.ipt 1 fun _=>supA n f]] [some ⟨1,1,true,.lst [[.osl 1 7 0 pre.length]]⟩,some ⟨7,pre.length,true,.row fun i=>(preS f pre i).cells⟩,some ⟨7,1,true,.lst [(f x.1).cells]⟩]):=by
 refine round_sk (own:=ow0)
  (let z0:=(Sup.cells (f (↑x:Nat)));(.again (fun (u:ASt)=>Le 0 u (mkSt [5,7,2,6] [.own 2 7 0 0 7,.agg z0,.own 0 1 0 0 1,AV.fn (Fn.func (169:FuncId)) [] [AV.ipt 1 fun x=>supA n f]] [some ⟨1,1,true,.lst [[.osl 1 7 0 (List.length pre)]]⟩,some ⟨7,List.length pre,true,Rep.row fun i=>Sup.cells (preS f pre i)⟩,some ⟨7,1,true,.lst [Sup.cells (f (↑x:Nat))]⟩])) [5,7,2,6] [0,1,2] [.own 2 7 0 0 7,.agg z0,.own 0 1 0 0 1,AV.fn (Fn.func (169:FuncId)) [] [AV.ipt 1 fun x=>.isl 7 n fun i j=>atL (Sup.cells (f i)) j]] [some ⟨1,1,true,.lst [[.osl 1 7 0 (List.length pre)]]⟩,some ⟨7,List.length pre,true,Rep.row fun i=>Sup.cells (preS f pre i)⟩,some ⟨7,1,true,.lst [Sup.cells (f (↑x:Nat))]⟩]))
  (by rfl) ?_
 exact k_againR (fun _ hs=>hs.le (by repeat' (first|exact trivial|(first|exact Ent.refl _|exact inc_ent (by omega)|exact Ent.nil rfl|exact Ent.of_eq (congrArg (AV.osl _ _ _) (by rfl))|exact Ent.of_eq (congrArg (AV.int _) (by rfl)))|refine And.intro ?_ ?_)) (by repeat' (first|exact trivial|(first|exact ObEnt.refl _|exact ObEnt.junk|exact ObEnt.zero|exact ObEnt.push rfl rfl|exact ObEnt.pushRow rfl|exact ObEnt.len (by omega)|exact ObEnt.row (by repeat' (first|exact trivial|(first|exact Ent.refl _|exact inc_ent (by omega)|exact Ent.nil rfl|exact Ent.of_eq (congrArg (AV.osl _ _ _) (by rfl))|exact Ent.of_eq (congrArg (AV.int _) (by rfl)))|refine And.intro ?_ ?_)))|refine And.intro ?_ ?_)))
theorem ap_d (n:Nat) (f:Nat→Sup) (pre:List (Fin n)) (x:Fin n):Round Tryz.prog gl0 ow0 0 13 .skip (mkSt [5,7,2,6] [.own 2 7 0 0 7,.agg (f x.1).cells,.own 0 1 0 0 1,.fn (.func 169) [] [.ipt 1 fun _=>supA n f]] [some ⟨1,1,true,.lst [[.osl 1 7 0 pre.length]]⟩,some ⟨7,pre.length,true,.row fun i=>(preS f pre i).cells⟩,some ⟨7,1,true,.lst [(f x.1).cells]⟩]) (mkSt [2,6] [.own 0 1 0 0 1,.fn (.func 169) [] [.ipt 1 fun _=>supA n f]] [some ⟨1,1,true,.lst [[.osl 1 7 0 pre.length]]⟩,some ⟨7,pre.length,true,.row fun i=>(preS f pre i).cells⟩]):=by
 refine round_sk (own:=ow0)
  (let y0:List (Option Ob):=[some ⟨1,1,true,.lst [[.osl 1 7 0 (List.length pre)]]⟩,some ⟨7,List.length pre,true,Rep.row fun i=>Sup.cells (preS f pre i)⟩];(.again (fun (u:ASt)=>Le 0 u (mkSt [2,6] [.own 0 1 0 0 1,AV.fn (Fn.func (169:FuncId)) [] [AV.ipt 1 fun x=>supA n f]] y0)) [2,6] [0,1] [.own 0 1 0 0 1,AV.fn (Fn.func (169:FuncId)) [] [AV.ipt 1 fun x=>.isl 7 n fun i j=>atL (Sup.cells (f i)) j]] (y0)))
  (by rfl) ?_
 exact k_againR (fun _ hs=>hs.le (by repeat' (first|exact trivial|(first|exact Ent.refl _|exact inc_ent (by omega)|exact Ent.nil rfl|exact Ent.of_eq (congrArg (AV.osl _ _ _) (by rfl))|exact Ent.of_eq (congrArg (AV.int _) (by rfl)))|refine And.intro ?_ ?_)) (by repeat' (first|exact trivial|(first|exact ObEnt.refl _|exact ObEnt.junk|exact ObEnt.zero|exact ObEnt.push rfl rfl|exact ObEnt.pushRow rfl|exact ObEnt.len (by omega)|exact ObEnt.row (by repeat' (first|exact trivial|(first|exact Ent.refl _|exact inc_ent (by omega)|exact Ent.nil rfl|exact Ent.of_eq (congrArg (AV.osl _ _ _) (by rfl))|exact Ent.of_eq (congrArg (AV.int _) (by rfl)))|refine And.intro ?_ ?_)))|refine And.intro ?_ ?_)))
theorem ap_b (n:Nat) (f:Nat→Sup) (pre:List (Fin n)) (x:Fin n) (hl:pre.length≤100000):Round Tryz.prog gl0 ow0 0 13 (rB apF) (mkSt [5,7,2,6] [.own 2 7 0 0 7,.agg (f x.1).cells,.own 0 1 0 0 1,.fn (.func 169) [] [.ipt 1 fun _=>supA n f]] [some ⟨1,1,true,.lst [[.osl 1 7 0 pre.length]]⟩,some ⟨7,pre.length,true,.row fun i=>(preS f pre i).cells⟩,some ⟨7,1,true,.lst [(f x.1).cells]⟩]) (mkSt [2,6] [.own 0 1 0 0 1,.fn (.func 169) [] [.ipt 1 fun _=>supA n f]] [some ⟨1,1,true,.lst [[.osl 1 7 0 (pre++[x]).length]]⟩,some ⟨7,(pre++[x]).length,true,.row fun i=>(preS f (pre++[x]) i).cells⟩]):=by
 refine round_sk (own:=ow0)
  (.req ((List.length pre+1)*56≤140737488355328) (.again (fun (u:ASt)=>Le 0 u (mkSt [2,6] [.own 0 1 0 0 1,AV.fn (Fn.func (169:FuncId)) [] [AV.ipt 1 fun x=>supA n f]] [some ⟨1,1,true,.lst [[.osl 1 7 0 (List.length (pre++[x]))]]⟩,some ⟨7,List.length (pre++[x]),true,Rep.row fun i=>Sup.cells (preS f (pre++[x]) i)⟩])) [2,6] [0,27] [.own 0 1 0 0 1,AV.fn (Fn.func (169:FuncId)) [] [AV.ipt 1 fun x=>.isl 7 n fun i j=>atL (Sup.cells (f i)) j]] [some ⟨1,1,true,.lst [[.osl 1 7 0 (List.length pre+1)]]⟩,some ⟨7,List.length pre+1,true,Rep.cat (List.length pre) (Rep.row fun i=>Sup.cells (preS f pre i)) (.lst [Sup.cells (f (↑x:Nat))])⟩]))
  (by rfl) ?_
 refine k_req (by omega) ?_
 exact k_againR (fun _ hs=>hs.le (⟨Ent.refl _,Ent.refl _,trivial⟩) (⟨ObEnt.row ⟨Ent.of_eq (by simp),trivial⟩,ObEnt.catRow preS_len (fun i hi=>entL_eq (by rw [preS_lt hi])) (entL_eq (by rw [preS_at])),trivial⟩))
theorem sup_ext {a b:Sup} (h:rowI (supI a)=rowI (supI b)):a=b:=by
 cases a;cases b
 simp only [rowI,supI,List.cons.injEq,AV.int.injEq,true_and,and_true] at h
 obtain ⟨rfl,rfl,rfl,rfl,rfl,rfl,rfl⟩:=h
 rfl
theorem ap_det (n:Nat) (f:Nat→Sup) (pre pre0:List (Fin n)) (K:Ctx) (β β0:Book) (a a':Go.Act) (W:World) (hs:Sim K β (mkSt [2,6] [.own 0 1 0 0 1,.fn (.func 169) [] [.ipt 1 fun _=>supA n f]] [some ⟨1,1,true,.lst [[.osl 1 7 0 pre.length]]⟩,some ⟨7,pre.length,true,.row fun i=>(preS f pre i).cells⟩]) a W) (hs0:Sim K β0 (mkSt [2,6] [.own 0 1 0 0 1,.fn (.func 169) [] [.ipt 1 fun _=>supA n f]] [some ⟨1,1,true,.lst [[.osl 1 7 0 (pre0).length]]⟩,some ⟨7,(pre0).length,true,.row fun i=>(preS f (pre0) i).cells⟩]) a' W)
  (ha:∀ m,m∈[2,6]→a'.tmps.getD m undef=a.tmps.getD m undef):pre0.length=pre.length∧preS f pre0=preS f pre:=by
 have v1:=hs.slot 2
 have v2:=hs0.slot 2
 rw [ha 2 (by simp)] at v2
 obtain ⟨h1,h2⟩:=lst_det (F:=fun i=>supI (preS f pre i)) (F0:=fun i=>supI (preS f pre0 i)) v1 v2 (hs.heap 0 _ rfl) (hs.heap 1 _ rfl) (hs0.heap 0 _ rfl) (hs0.heap 1 _ rfl)
 refine ⟨h1,funext fun i=>?_⟩
 grind [sup_ext,preS,List.getElem?_eq_none]
theorem preS_snoc {n:Nat} {f:Nat→Sup} {pre:List (Fin n)} {x:Fin n}:preS f (pre++[x])=fun i=>if i<pre.length then preS f pre i else if i=pre.length then f x.1 else default:=by
 funext i
 by_cases h:i<pre.length
 ·rw [if_pos h,preS_lt h]
 ·rw [if_neg h]
  by_cases e:i=pre.length
  ·rw [if_pos e,e,preS_at]
  ·rw [if_neg e];grind [preS,List.getElem?_eq_none]
theorem cells_nml (s:Sup):NML s.cells:=⟨.int,.int,.int,.int,.int,.int,.int,trivial⟩
theorem cells_nm (s:Sup) (j:Nat):NM (atL s.cells j):=(cells_nml s).atL j
theorem supA_nm (n:Nat) (f:Nat→Sup):NM (supA n f):=.isl fun _ j _ _=>cells_nm _ j
theorem vv_nm (n:Nat) (f:Nat→Sup):NML [.own 0 1 0 0 1,.fn (.func 169) [] [.ipt 1 fun _=>supA n f]]:=⟨.own,.fn (fun u h=>by cases h) (NML.spec (l:=[_]) ⟨.ipt fun _ _=>supA_nm n f,trivial⟩),trivial⟩
theorem osl1_nm {l:Nat}:NMB ⟨1,1,true,.lst [[.osl 1 7 0 l]]⟩:=fun i j hi _=>by
 obtain rfl:i=0:=Nat.lt_one_iff.1 hi
 exact NML.atL (l:=[_]) ⟨.osl,trivial⟩ j
theorem ap_opq (n:Nat) (f:Nat→Sup) (hn:n≤100000):Opq Tryz.prog gl0 0 13 apF (mkSt [2,6] [.own 0 1 0 0 1,.fn (.func 169) [] [.ipt 1 fun _=>supA n f]] [some ⟨1,1,true,.lst [[.osl 1 7 0 0]]⟩,some ⟨7,0,true,.row fun i=>(preS (n:=n) f [] i).cells⟩]) (mkSt [2,6] [.own 0 1 0 0 1,.fn (.func 169) [] [.ipt 1 fun _=>supA n f]] [some ⟨1,1,true,.lst [[.osl 1 7 0 n]]⟩,some ⟨7,n,true,.row fun i=>(preS f (List.finRange n) i).cells⟩]):=by
 have hq:=opq_rangeB (P:=Tryz.prog) (gl:=gl0) (own:=ow0) (ng:=0) (nt:=13) (g:=.tmp 6) (p:=7) (d:=5) (assign:=rA apF) (body:=rB apF) (xs:=fun k:Fin n=>.agg (f k.1).cells) (ns:=[2,6]) (vs:=[.own 0 1 0 0 1,.fn (.func 169) [] [.ipt 1 fun _=>supA n f]]) (bv:=.own 2 7 0 0 7) (bx:=fun x=>⟨7,1,true,.lst [(f x.1).cells]⟩) (obs:=fun pre=>[some ⟨1,1,true,.lst [[.osl 1 7 0 pre.length]]⟩,some ⟨7,pre.length,true,.row fun i=>(preS f pre i).cells⟩]) (obs1:=[some ⟨1,1,true,.lst [[.osl 1 7 0 n]]⟩,some ⟨7,n,true,.row fun i=>(preS f (List.finRange n) i).cells⟩])
  rfl (values_iter n f hn) (fun x=>.agg fun u hu=>by
   simp only [Sup.cells,List.mem_cons,List.not_mem_nil,or_false] at hu
   rcases hu with rfl|rfl|rfl|rfl|rfl|rfl|rfl<;>exact .int) (fun pre=>rfl)
  (fun pre=>.of (vv_nm n f) ⟨osl1_nm,fun i j _ _=>cells_nm _ j,trivial⟩) (fun pre x=>.of ⟨.own,.agg (cells_nml _).spec,vv_nm n f⟩ ⟨osl1_nm,fun i j _ _=>cells_nm _ j,fun i j hi _=>(by obtain rfl:i=0:=Nat.lt_one_iff.1 hi;exact cells_nm _ j),trivial⟩) (fun g m f h=>by cases h) (by rfl) (fun pre x=>ap_a n f pre x) (fun pre x=>ap_d n f pre x) (fun pre x hl=>ap_b n f pre x (by omega))
  (fun pre pre0 K β β0 a a' W h h0 ha=>by
   obtain ⟨e1,e2⟩:=ap_det n f pre pre0 K β β0 a a' W h h0 ha
   refine ⟨e1,fun x=>?_⟩
   show ([some ⟨1,1,true,.lst [[.osl 1 7 0 (pre0++[x]).length]]⟩,some ⟨7,(pre0++[x]).length,true,.row fun i=>(preS f (pre0++[x]) i).cells⟩]:List (Option Ob))=[some ⟨1,1,true,.lst [[.osl 1 7 0 (pre++[x]).length]]⟩,some ⟨7,(pre++[x]).length,true,.row fun i=>(preS f (pre++[x]) i).cells⟩]
   simp_all [preS_snoc]) (by simp)
 grind [ap_shape]
theorem appendSeq_c (n:Nat) (f:Nat→Sup) (hn:n≤100000):Gives Tryz.prog gl0 229 [] [.nsl,.fn (.func 169) [] [.ipt 1 fun _=>supA n f]] (.osl 0 7 0 n) [some ⟨7,n,true,.row fun i=>(preS f (List.finRange n) i).cells⟩]:=by
 exact gz ow0 Tryz.func229 (by
  refine n_old (.opq 13 (apF) [2,6] [0,1817] [.own 0 1 0 0 1,AV.fn (Fn.func (169:FuncId)) [] [AV.ipt 1 fun x=>.isl 7 n fun i j=>atL (Sup.cells (f i)) j]] [some ⟨1,1,true,.lst [[.nsl]]⟩,some ⟨7,0,true,.ty (999999999:TypeId) (.lst [])⟩] (mkSt [2,6] [.own 0 1 0 0 1,AV.fn (Fn.func (169:FuncId)) [] [AV.ipt 1 fun x=>supA n f]] [some ⟨1,1,true,.lst [[.osl 1 7 0 n]]⟩,some ⟨7,n,true,Rep.row fun i=>Sup.cells (preS f (List.finRange n) i)⟩]) (.out (.osl 0 7 0 n) ([some ⟨7,n,true,Rep.row fun i=>Sup.cells (preS f (List.finRange n) i)⟩]) (.osl 0 7 0 n) ([some ⟨7,n,true,Rep.row fun i=>Sup.cells (preS f (List.finRange n) i)⟩]))) ?_
  refine k_opq (fun _ hs=>hs.le (by repeat' (first|exact trivial|(first|exact Ent.refl _|exact inc_ent (by omega)|exact Ent.nil rfl|exact Ent.of_eq (congrArg (AV.osl _ _ _) (by rfl))|exact Ent.of_eq (congrArg (AV.int _) (by rfl)))|refine And.intro ?_ ?_)) (by repeat' (first|exact trivial|(first|exact ObEnt.refl _|exact ObEnt.junk|exact ObEnt.zero|exact ObEnt.push rfl rfl|exact ObEnt.pushRow rfl|exact ObEnt.len (by omega)|exact ObEnt.row (by repeat' (first|exact trivial|(first|exact Ent.refl _|exact inc_ent (by omega)|exact Ent.nil rfl|exact Ent.of_eq (congrArg (AV.osl _ _ _) (by rfl))|exact Ent.of_eq (congrArg (AV.int _) (by rfl)))|refine And.intro ?_ ?_)))|refine And.intro ?_ ?_))) (ap_opq n f hn) ?_
  exact k_outg (Ent.of_eq (by rfl)) (by repeat' (first|exact trivial|(first|exact ObEnt.refl _|exact ObEnt.junk|exact ObEnt.zero|exact ObEnt.push rfl rfl|exact ObEnt.pushRow rfl|exact ObEnt.len (by omega)|exact ObEnt.row (by repeat' (first|exact trivial|(first|exact Ent.refl _|exact inc_ent (by omega)|exact Ent.nil rfl|exact Ent.of_eq (congrArg (AV.osl _ _ _) (by rfl))|exact Ent.of_eq (congrArg (AV.int _) (by rfl)))|refine And.intro ?_ ?_)))|refine And.intro ?_ ?_)))
def sA:Sup:=⟨0,0,1,5,0,0,0⟩
def sB:Sup:=⟨0,0,1,3,2,0,0⟩
def sC:Sup:=⟨0,0,0,7,0,0,0⟩
def owT (n:Nat):FuncId→Option (List Bool):=fun f=>bif Nat.beq f 999999999 then some (List.replicate n true) else
 bif Nat.beq f 170 then some [true,false,false,false] else
 bif Nat.beq f 230 then some [true,false,false,false,false] else
 bif Nat.beq f 105 then some [true,false,false] else
 bif Nat.beq f 46 then some [true,false] else
 bif Nat.beq f 229 then some [false,false] else
 bif Nat.beq f 167 then some [false] else
 bif Nat.beq f 168 then some [true,false] else none
theorem cmp_CB:Pure Tryz.prog gl0 47 [.agg [.int .i64 0,.int .i64 0,.int .i64 0,.int .i64 7,.int .i64 0,.int .i64 0,.int .i64 0],.agg [.int .i64 0,.int .i64 0,.int .i64 1,.int .i64 3,.int .i64 2,.int .i64 0,.int .i64 0]] (.int .i64 (-1)):=compare_c sC sB
theorem cmp_CA:Pure Tryz.prog gl0 47 [.agg [.int .i64 0,.int .i64 0,.int .i64 0,.int .i64 7,.int .i64 0,.int .i64 0,.int .i64 0],.agg [.int .i64 0,.int .i64 0,.int .i64 1,.int .i64 5,.int .i64 0,.int .i64 0,.int .i64 0]] (.int .i64 (-1)):=compare_c sC sA
theorem cmp_BA:Pure Tryz.prog gl0 47 [.agg [.int .i64 0,.int .i64 0,.int .i64 1,.int .i64 3,.int .i64 2,.int .i64 0,.int .i64 0],.agg [.int .i64 0,.int .i64 0,.int .i64 1,.int .i64 5,.int .i64 0,.int .i64 0,.int .i64 0]] (.int .i64 0):=compare_c sB sA
theorem cmp_CC:Pure Tryz.prog gl0 47 [.agg [.int .i64 0,.int .i64 0,.int .i64 0,.int .i64 7,.int .i64 0,.int .i64 0,.int .i64 0],.agg [.int .i64 0,.int .i64 0,.int .i64 0,.int .i64 7,.int .i64 0,.int .i64 0,.int .i64 0]] (.int .i64 0):=compare_c sC sC
theorem coll_1:Gives Tryz.prog gl0 167 [] [.fn (.func 169) [] [.ipt 1 fun _=>supA 1 fun _=>sA]] (.osl 0 7 0 1) [some ⟨7,1,true,.lst [[.int .i64 0,.int .i64 0,.int .i64 1,.int .i64 5,.int .i64 0,.int .i64 0,.int .i64 0]]⟩]:=by
 have c1:=appendSeq_c 1 (fun _=>sA) (by decide)
 exact gz (owT 2) Tryz.func167 (by
  apply n_gc (c1)
  exact n_outG (.osl 0 7 0 1) ([some ⟨7,1,true,Rep.row fun i=>Sup.cells (preS (fun x=>sA) (List.finRange 1) i)⟩]) (Ent.of_eq rfl) (⟨⟨rfl,rfl,rfl,fun i j hi _=>by obtain rfl:i=0:=Nat.lt_one_iff.1 hi;exact Ent.refl _⟩,trivial⟩))
theorem lit2 {os:List (Option Ob)} {F G:Rep} (h0:(List.range 7).map (F.at 0)=(List.range 7).map (G.at 0)) (h1:(List.range 7).map (F.at 1)=(List.range 7).map (G.at 1)) (ht:tyc F G=true:=by rfl):ObEnt os ⟨7,2,true,F⟩ ⟨7,2,true,G⟩ :=
 ⟨congrArg (Prod.mk 7) ht,rfl,rfl,fun i j hi hj=>Ent.of_eq (by
  have key:∀ f g:Nat→AV,(List.range 7).map f=(List.range 7).map g→f j=g j:=fun f g e=>List.map_inj_left.1 e j (List.mem_range.2 hj)
  match i,hi with
  | 0,_=>exact key _ _ h0
  | 1,_=>exact key _ _ h1)⟩
theorem lit3 {os:List (Option Ob)} {F G:Rep} (h0:(List.range 7).map (F.at 0)=(List.range 7).map (G.at 0)) (h1:(List.range 7).map (F.at 1)=(List.range 7).map (G.at 1)) (h2:(List.range 7).map (F.at 2)=(List.range 7).map (G.at 2)) (ht:tyc F G=true:=by rfl):ObEnt os ⟨7,3,true,F⟩ ⟨7,3,true,G⟩ :=
 ⟨congrArg (Prod.mk 7) ht,rfl,rfl,fun i j hi hj=>Ent.of_eq (by
  have key:∀ f g:Nat→AV,(List.range 7).map f=(List.range 7).map g→f j=g j:=fun f g e=>List.map_inj_left.1 e j (List.mem_range.2 hj)
  match i,hi with
  | 0,_=>exact key _ _ h0
  | 1,_=>exact key _ _ h1
  | 2,_=>exact key _ _ h2)⟩
theorem ins_1:Gives Tryz.prog gl0 170 [⟨7,1,true,.lst [[.int .i64 0,.int .i64 0,.int .i64 1,.int .i64 5,.int .i64 0,.int .i64 0,.int .i64 0]]⟩] [.osl 0 7 0 1,.int .i64 0,.int .i64 1,.fn (.func 47) [] []] (.tup []) [some ⟨7,1,true,.lst [[.int .i64 0,.int .i64 0,.int .i64 1,.int .i64 5,.int .i64 0,.int .i64 0,.int .i64 0]]⟩]:=by
 exact gz (owT 2) Tryz.func170 (by
  apply n_ff
  exact n_org)
theorem ins_2:Gives Tryz.prog gl0 170 [⟨7,2,true,.lst [[.int .i64 0,.int .i64 0,.int .i64 1,.int .i64 3,.int .i64 2,.int .i64 0,.int .i64 0],[.int .i64 0,.int .i64 0,.int .i64 0,.int .i64 7,.int .i64 0,.int .i64 0,.int .i64 0]]⟩] [.osl 0 7 0 2,.int .i64 0,.int .i64 2,.fn (.func 47) [] []] (.tup []) [some ⟨7,2,true,.lst [[.int .i64 0,.int .i64 0,.int .i64 0,.int .i64 7,.int .i64 0,.int .i64 0,.int .i64 0],[.int .i64 0,.int .i64 0,.int .i64 1,.int .i64 3,.int .i64 2,.int .i64 0,.int .i64 0]]⟩]:=by
 exact gz (owT 3) Tryz.func170 (by
  apply n_tt
  apply n_req (true=true→(0:Int)≤wrap .i64 ((0:Int)+1)∧wrap .i64 ((0:Int)+1)<2)
  apply n_req (true=true→(0:Int)≤wrap .i64 (wrap .i64 ((0:Int)+1) - 1)∧wrap .i64 (wrap .i64 ((0:Int)+1) - 1)<2)
  apply n_sc (cmp_CB)
  apply n_tt
  apply n_req ((0:Int)≤wrap .i64 (wrap .i64 ((0:Int)+1) - 1)∧wrap .i64 (wrap .i64 ((0:Int)+1) - 1)<2)
  apply n_req ((0:Int)≤wrap .i64 ((0:Int)+1)∧wrap .i64 ((0:Int)+1)<2)
  apply n_req ((0:Int)≤wrap .i64 ((0:Int)+1)∧wrap .i64 ((0:Int)+1)<2)
  apply n_req ((0:Int)≤wrap .i64 (wrap .i64 ((0:Int)+1) - 1)∧wrap .i64 (wrap .i64 ((0:Int)+1) - 1)<2)
  apply n_req (false=true→(0:Int)≤wrap .i64 (wrap .i64 ((0:Int)+1) - 1)∧wrap .i64 (wrap .i64 ((0:Int)+1) - 1)<2)
  apply n_req (false=true→(0:Int)≤wrap .i64 (wrap .i64 (wrap .i64 ((0:Int)+1) - 1) - 1)∧wrap .i64 (wrap .i64 (wrap .i64 ((0:Int)+1) - 1) - 1)<2)
  apply n_scg false (fun h11=>cmp_CC)
  apply n_ff
  apply n_ff
  exact n_outG (.tup []) ([some ⟨7,2,true,.lst [[Zi 0,Zi 0,Zi 0,Zi 7,Zi 0,Zi 0,Zi 0],[Zi 0,Zi 0,Zi 1,Zi 3,Zi 2,Zi 0,Zi 0]]⟩]) (Ent.of_eq rfl) (⟨lit2 rfl rfl,trivial⟩))
theorem ins_3:Gives Tryz.prog gl0 170 [⟨7,3,true,.lst [[.int .i64 0,.int .i64 0,.int .i64 1,.int .i64 5,.int .i64 0,.int .i64 0,.int .i64 0],[.int .i64 0,.int .i64 0,.int .i64 1,.int .i64 3,.int .i64 2,.int .i64 0,.int .i64 0],[.int .i64 0,.int .i64 0,.int .i64 0,.int .i64 7,.int .i64 0,.int .i64 0,.int .i64 0]]⟩] [.osl 0 7 0 3,.int .i64 0,.int .i64 3,.fn (.func 47) [] []] (.tup []) [some ⟨7,3,true,.lst [[.int .i64 0,.int .i64 0,.int .i64 0,.int .i64 7,.int .i64 0,.int .i64 0,.int .i64 0],[.int .i64 0,.int .i64 0,.int .i64 1,.int .i64 5,.int .i64 0,.int .i64 0,.int .i64 0],[.int .i64 0,.int .i64 0,.int .i64 1,.int .i64 3,.int .i64 2,.int .i64 0,.int .i64 0]]⟩]:=by
 exact gz (owT 4) Tryz.func170 (by
  apply n_tt
  apply n_req (true=true→(0:Int)≤wrap .i64 ((0:Int)+1)∧wrap .i64 ((0:Int)+1)<(↑(3):Int))
  apply n_req (true=true→(0:Int)≤wrap .i64 (wrap .i64 ((0:Int)+1) - 1)∧wrap .i64 (wrap .i64 ((0:Int)+1) - 1)<(↑(3):Int))
  apply n_sc (cmp_BA)
  apply n_ff
  apply n_tt
  apply n_req (true=true→(0:Int)≤wrap .i64 (wrap .i64 ((0:Int)+1)+1)∧wrap .i64 (wrap .i64 ((0:Int)+1)+1)<(↑(3):Int))
  apply n_req (true=true→(0:Int)≤wrap .i64 (wrap .i64 (wrap .i64 ((0:Int)+1)+1) - 1)∧wrap .i64 (wrap .i64 (wrap .i64 ((0:Int)+1)+1) - 1)<(↑(3):Int))
  apply n_sc (cmp_CB)
  apply n_tt
  apply n_req ((0:Int)≤wrap .i64 (wrap .i64 (wrap .i64 ((0:Int)+1)+1) - 1)∧wrap .i64 (wrap .i64 (wrap .i64 ((0:Int)+1)+1) - 1)<(↑(3):Int))
  apply n_req ((0:Int)≤wrap .i64 (wrap .i64 ((0:Int)+1)+1)∧wrap .i64 (wrap .i64 ((0:Int)+1)+1)<(↑(3):Int))
  apply n_req ((0:Int)≤wrap .i64 (wrap .i64 ((0:Int)+1)+1)∧wrap .i64 (wrap .i64 ((0:Int)+1)+1)<(↑(3):Int))
  apply n_req ((0:Int)≤wrap .i64 (wrap .i64 (wrap .i64 ((0:Int)+1)+1) - 1)∧wrap .i64 (wrap .i64 (wrap .i64 ((0:Int)+1)+1) - 1)<(↑(3):Int))
  apply n_req (true=true→(0:Int)≤wrap .i64 (wrap .i64 (wrap .i64 ((0:Int)+1)+1) - 1)∧wrap .i64 (wrap .i64 (wrap .i64 ((0:Int)+1)+1) - 1)<(↑(3):Int))
  apply n_req (true=true→(0:Int)≤wrap .i64 (wrap .i64 (wrap .i64 (wrap .i64 ((0:Int)+1)+1) - 1) - 1)∧wrap .i64 (wrap .i64 (wrap .i64 (wrap .i64 ((0:Int)+1)+1) - 1) - 1)<(↑(3):Int))
  apply n_sc (cmp_CA)
  apply n_tt
  apply n_req ((0:Int)≤wrap .i64 (wrap .i64 (wrap .i64 (wrap .i64 ((0:Int)+1)+1) - 1) - 1)∧wrap .i64 (wrap .i64 (wrap .i64 (wrap .i64 ((0:Int)+1)+1) - 1) - 1)<(↑(3):Int))
  apply n_req ((0:Int)≤wrap .i64 (wrap .i64 (wrap .i64 ((0:Int)+1)+1) - 1)∧wrap .i64 (wrap .i64 (wrap .i64 ((0:Int)+1)+1) - 1)<(↑(3):Int))
  apply n_req ((0:Int)≤wrap .i64 (wrap .i64 (wrap .i64 ((0:Int)+1)+1) - 1)∧wrap .i64 (wrap .i64 (wrap .i64 ((0:Int)+1)+1) - 1)<(↑(3):Int))
  apply n_req ((0:Int)≤wrap .i64 (wrap .i64 (wrap .i64 (wrap .i64 ((0:Int)+1)+1) - 1) - 1)∧wrap .i64 (wrap .i64 (wrap .i64 (wrap .i64 ((0:Int)+1)+1) - 1) - 1)<(↑(3):Int))
  apply n_req (false=true→(0:Int)≤wrap .i64 (wrap .i64 (wrap .i64 (wrap .i64 ((0:Int)+1)+1) - 1) - 1)∧wrap .i64 (wrap .i64 (wrap .i64 (wrap .i64 ((0:Int)+1)+1) - 1) - 1)<(↑(3):Int))
  apply n_req (false=true→(0:Int)≤wrap .i64 (wrap .i64 (wrap .i64 (wrap .i64 (wrap .i64 ((0:Int)+1)+1) - 1) - 1) - 1)∧wrap .i64 (wrap .i64 (wrap .i64 (wrap .i64 (wrap .i64 ((0:Int)+1)+1) - 1) - 1) - 1)<(↑(3):Int))
  apply n_scg (false) (fun h24=>cmp_CC)
  apply n_ff
  apply n_ff
  exact n_outG (AV.tup []) ([some ⟨7,3,true,Rep.lst [[Zi 0,Zi 0,Zi 0,Zi 7,Zi 0,Zi 0,Zi 0],[Zi 0,Zi 0,Zi 1,Zi 5,Zi 0,Zi 0,Zi 0],[Zi 0,Zi 0,Zi 1,Zi 3,Zi 2,Zi 0,Zi 0]]⟩]) (Ent.of_eq rfl) (⟨lit3 rfl rfl rfl,trivial⟩))
def fB:Nat→Sup:=fun i=>if i=0 then sB else sC
theorem cmp_AA:Pure Tryz.prog gl0 47 [.agg [.int .i64 0,.int .i64 0,.int .i64 1,.int .i64 5,.int .i64 0,.int .i64 0,.int .i64 0],.agg [.int .i64 0,.int .i64 0,.int .i64 1,.int .i64 5,.int .i64 0,.int .i64 0,.int .i64 0]] (.int .i64 0):=compare_c sA sA
theorem l64_1:Pure Tryz.prog gl0 287 [.int .u64 1] (.int .i64 1):=by
 exact pzo (owT 5) Tryz.func287 (by
  apply n_ff
  apply n_ff
  apply n_ff
  apply n_req ((0:Int)≤wrap .u8 (1:Int)∧wrap .u8 (1:Int)<256)
  exact n_or)
theorem l64_2:Pure Tryz.prog gl0 287 [.int .u64 2] (.int .i64 2):=by
 exact pzo (owT 5) Tryz.func287 (by
  apply n_ff
  apply n_ff
  apply n_ff
  apply n_req ((0:Int)≤wrap .u8 (2:Int)∧wrap .u8 (2:Int)<256)
  exact n_or)
theorem len_1:Pure Tryz.prog gl0 231 [.int .u64 1] (.int .i64 1):=by
 exact pz Tryz.func231 (by
  apply n_ff
  apply n_sc (l64_1)
  exact n_or)
theorem len_2:Pure Tryz.prog gl0 231 [.int .u64 2] (.int .i64 2):=by
 exact pz Tryz.func231 (by
  apply n_ff
  apply n_sc (l64_2)
  exact n_or)
theorem pdq_1:Gives Tryz.prog gl0 230 [⟨7,1,true,.lst [[.int .i64 0,.int .i64 0,.int .i64 1,.int .i64 5,.int .i64 0,.int .i64 0,.int .i64 0]]⟩] [.osl 0 7 0 1,.int .i64 0,.int .i64 1,.int .i64 1,.fn (.func 47) [] []] (.tup []) [some ⟨7,1,true,.lst [[.int .i64 0,.int .i64 0,.int .i64 1,.int .i64 5,.int .i64 0,.int .i64 0,.int .i64 0]]⟩]:=by
 exact gz (owT 2) Tryz.func230 (by
  apply n_tt
  apply n_gc (ins_1)
  exact n_org)
theorem pdq_2:Gives Tryz.prog gl0 230 [⟨7,2,true,.lst [[.int .i64 0,.int .i64 0,.int .i64 1,.int .i64 3,.int .i64 2,.int .i64 0,.int .i64 0],[.int .i64 0,.int .i64 0,.int .i64 0,.int .i64 7,.int .i64 0,.int .i64 0,.int .i64 0]]⟩] [.osl 0 7 0 2,.int .i64 0,.int .i64 2,.int .i64 2,.fn (.func 47) [] []] (.tup []) [some ⟨7,2,true,.lst [[.int .i64 0,.int .i64 0,.int .i64 0,.int .i64 7,.int .i64 0,.int .i64 0,.int .i64 0],[.int .i64 0,.int .i64 0,.int .i64 1,.int .i64 3,.int .i64 2,.int .i64 0,.int .i64 0]]⟩]:=by
 exact gz (owT 2) Tryz.func230 (by
  apply n_tt
  apply n_gc (ins_2)
  exact n_org)
theorem sort_1:Gives Tryz.prog gl0 168 [⟨7,1,true,.lst [[.int .i64 0,.int .i64 0,.int .i64 1,.int .i64 5,.int .i64 0,.int .i64 0,.int .i64 0]]⟩] [.osl 0 7 0 1,.fn (.func 47) [] []] (.tup []) [some ⟨7,1,true,.lst [[.int .i64 0,.int .i64 0,.int .i64 1,.int .i64 5,.int .i64 0,.int .i64 0,.int .i64 0]]⟩]:=by
 exact gz (owT 2) Tryz.func168 (by
  apply n_sc (len_1)
  apply n_gc (pdq_1)
  exact n_org)
theorem sort_2:Gives Tryz.prog gl0 168 [⟨7,2,true,.lst [[.int .i64 0,.int .i64 0,.int .i64 1,.int .i64 3,.int .i64 2,.int .i64 0,.int .i64 0],[.int .i64 0,.int .i64 0,.int .i64 0,.int .i64 7,.int .i64 0,.int .i64 0,.int .i64 0]]⟩] [.osl 0 7 0 2,.fn (.func 47) [] []] (.tup []) [some ⟨7,2,true,.lst [[.int .i64 0,.int .i64 0,.int .i64 0,.int .i64 7,.int .i64 0,.int .i64 0,.int .i64 0],[.int .i64 0,.int .i64 0,.int .i64 1,.int .i64 3,.int .i64 2,.int .i64 0,.int .i64 0]]⟩]:=by
 exact gz (owT 2) Tryz.func168 (by
  apply n_sc (len_2)
  apply n_gc (pdq_2)
  exact n_org)
theorem coll_2:Gives Tryz.prog gl0 167 [] [.fn (.func 169) [] [.ipt 1 fun _=>supA 2 fB]] (.osl 0 7 0 2) [some ⟨7,2,true,.lst [[.int .i64 0,.int .i64 0,.int .i64 1,.int .i64 3,.int .i64 2,.int .i64 0,.int .i64 0],[.int .i64 0,.int .i64 0,.int .i64 0,.int .i64 7,.int .i64 0,.int .i64 0,.int .i64 0]]⟩]:=by
 have c1:=appendSeq_c 2 fB (by decide)
 exact gz (owT 2) Tryz.func167 (by
  apply n_gc (c1)
  exact n_outG (.osl 0 7 0 2) ([some ⟨7,2,true,Rep.row fun i=>Sup.cells (preS fB (List.finRange 2) i)⟩]) (Ent.of_eq rfl) (⟨lit2 rfl rfl,trivial⟩))
theorem sorted_1:Pure Tryz.prog gl0 102 [.fn (.func 169) [] [.ipt 1 fun _=>supA 1 fun _=>sA],.fn (.func 47) [] []] (.isl 7 1 fun r k=>atL (List.getD [[.int .i64 0,.int .i64 0,.int .i64 1,.int .i64 5,.int .i64 0,.int .i64 0,.int .i64 0]] r []) k):=by
 exact pzo (owT 2) Tryz.func102 (by
  apply n_gc (coll_1)
  refine n_old (.gc 168 [⟨7,1,true,.lst [[Zi 0,Zi 0,Zi 1,Zi 5,Zi 0,Zi 0,Zi 0]]⟩] [.osl 0 7 0 1,AV.fn (Fn.func (47:FuncId)) [] []] (.tup []) [some ⟨7,1,true,.lst [[Zi 0,Zi 0,Zi 1,Zi 5,Zi 0,Zi 0,Zi 0]]⟩] (.out (.isl 7 1 fun r k=>atL (List.getD [[Zi 0,Zi 0,Zi 1,Zi 5,Zi 0,Zi 0,Zi 0]] (r+0) []) k) [] (.isl 7 1 fun r k=>atL (List.getD [[Zi 0,Zi 0,Zi 1,Zi 5,Zi 0,Zi 0,Zi 0]] r []) k) [])) ?_
  simp [k_gc,sort_1,k_out,Ent.refl])
theorem sorted_2:Pure Tryz.prog gl0 102 [.fn (.func 169) [] [.ipt 1 fun _=>supA 2 fB],.fn (.func 47) [] []] (.isl 7 2 fun r k=>atL (List.getD [[.int .i64 0,.int .i64 0,.int .i64 0,.int .i64 7,.int .i64 0,.int .i64 0,.int .i64 0],[.int .i64 0,.int .i64 0,.int .i64 1,.int .i64 3,.int .i64 2,.int .i64 0,.int .i64 0]] r []) k):=by
 exact pzo (owT 2) Tryz.func102 (by
  apply n_gc (coll_2)
  refine n_old (.gc 168 [⟨7,2,true,.lst [[Zi 0,Zi 0,Zi 1,Zi 3,Zi 2,Zi 0,Zi 0],[Zi 0,Zi 0,Zi 0,Zi 7,Zi 0,Zi 0,Zi 0]]⟩] [.osl 0 7 0 2,AV.fn (Fn.func (47:FuncId)) [] []] (.tup []) [some ⟨7,2,true,.lst [[Zi 0,Zi 0,Zi 0,Zi 7,Zi 0,Zi 0,Zi 0],[Zi 0,Zi 0,Zi 1,Zi 3,Zi 2,Zi 0,Zi 0]]⟩] (.out (.isl 7 2 fun r k=>atL (List.getD [[Zi 0,Zi 0,Zi 0,Zi 7,Zi 0,Zi 0,Zi 0],[Zi 0,Zi 0,Zi 1,Zi 3,Zi 2,Zi 0,Zi 0]] (r+0) []) k) [] (.isl 7 2 fun r k=>atL (List.getD [[Zi 0,Zi 0,Zi 0,Zi 7,Zi 0,Zi 0,Zi 0],[Zi 0,Zi 0,Zi 1,Zi 3,Zi 2,Zi 0,Zi 0]] r []) k) [])) ?_
  simp [k_gc,sort_2,k_out,Ent.refl])
theorem any_no {p:Nat→Bool} {n:Nat} (h:∀ i,i<n→p i=false):anyI p n=false:=by simp_all [anyI,firstI_neg,List.any_eq_false,Nat.zero_add,List.mem_range]
theorem proper_1:Pure Tryz.prog gl0 44 [supA 1 fun _=>sA] (.bool true):=by
 have c1:=containsS_w 101 (fun _=>sA) 1 (fun _=>false) (by decide) (fun i _=>not2_c sA)
 rw [any_no (fun _ _=>rfl)] at c1
 have c2:=values_c 1 fun _=>sA
 exact pzo (owT 2) Tryz.func44 (by
  apply n_sc (c1)
  apply n_ff
  apply n_dc (c2)
  apply n_dc (sorted_1)
  apply n_tt
  apply n_req (false=true→(0:Int)≤wrap .i64 ((0:Int) - 1)∧wrap .i64 ((0:Int) - 1)<1)
  apply n_req (false=true→(0:Int)≤0∧(0:Int)<1)
  apply n_scg false (fun h7=>cmp_AA)
  apply n_ff
  apply n_ff
  exact n_or)
theorem proper_2:Pure Tryz.prog gl0 44 [supA 2 fB] (.bool true):=by
 have c1:=containsS_w 101 fB 2 (fun i => !validS (fB i)) (by decide) (fun i _=>not2_c (fB i))
 rw [any_no (p:=fun i => !validS (fB i)) (fun i hi=>by match i,hi with|0,_=>rfl|1,_=>rfl)] at c1
 have c2:=values_c 2 fB
 exact pzo (owT 3) Tryz.func44 (by
  apply n_sc (c1)
  apply n_ff
  apply n_dc (c2)
  apply n_dc (sorted_2)
  apply n_tt
  apply n_req (false=true→(0:Int)≤wrap .i64 ((0:Int) - 1)∧wrap .i64 ((0:Int) - 1)<2)
  apply n_req (false=true→(0:Int)≤0∧(0:Int)<2)
  apply n_scg false (fun h7=>cmp_CC)
  apply n_ff
  apply n_tt
  apply n_req (true=true→(0:Int)≤wrap .i64 (wrap .i64 ((0:Int)+1) - 1)∧wrap .i64 (wrap .i64 ((0:Int)+1) - 1)<2)
  apply n_req (true=true→(0:Int)≤wrap .i64 ((0:Int)+1)∧wrap .i64 ((0:Int)+1)<2)
  apply n_sc (cmp_CB)
  apply n_ff
  apply n_ff
  exact n_or)
theorem zero7 {j:Nat} (h:j<7):AV.int .i64 (intOfAV (atL [AV.int .i64 0,AV.int .i64 0,AV.int .i64 0,AV.int .i64 0,AV.int .i64 0,AV.int .i64 0,AV.int .i64 0] j))=AV.int .i64 0:=by
 have:j=0∨j=1∨j=2∨j=3∨j=4∨j=5∨j=6:=by omega
 rcases this with rfl|rfl|rfl|rfl|rfl|rfl|rfl<;>rfl
theorem grow_c (n:Nat) (h0:0<n) (hn:n≤200000):Gives Tryz.prog gl0 104 [] [.nsl,.int .i64 n] (.osl 0 7 0 0) [some ⟨7,n,true,.fn fun _ _=>.int .i64 0⟩]:=by
 have hw:IntKind.wrap .i64 ((n:Int) - (IntKind.wrap .i64 (0 - 0)))=n:=by grind [wI]
 exact gz ow0 Tryz.func104 (by
  apply n_bd ((n:Int)<0)
  ·intro _
   apply n_no
   grind
  ·intro g0
   apply n_bd (wrap .i64 ((n:Int) - wrap .i64 ((0:Int) - 0))>0)
   ·intro g2
    apply n_req ((0:Int)≤0∧(0:Int)≤0)
    apply n_req ((0:Int)<wrap .i64 ((n:Int) - wrap .i64 ((0:Int) - 0))∧wrap .i64 ((n:Int) - wrap .i64 ((0:Int) - 0))*56≤140737488355328)
    apply n_req ((0:Int)≤0∧0≤(↑(toNat (wrap .i64 ((n:Int) - wrap .i64 ((0:Int) - 0)))):Int))
    exact n_outG (.osl 0 7 0 0) [some ⟨7,toNat (wrap .i64 ((n:Int) - wrap .i64 ((0:Int) - 0))),true,.fn fun i j=>Zi (intOfAV (atL [Zi 0,Zi 0,Zi 0,Zi 0,Zi 0,Zi 0,Zi 0] j))⟩] (by exact Ent.refl _) (by exact ⟨⟨rfl,by grind,rfl,fun i j _ hj=>Ent.of_eq (zero7 hj)⟩,trivial⟩)
   ·intro _
    refine n_old (.out (.nsl) [] (.osl 0 7 0 0) ([some ⟨7,n,true,.fn fun x x_1=>Zi 0⟩])) ?_
    grind)
theorem grow_z:Pure Tryz.prog gl0 104 [.nsl,.int .i64 0] .nsl:=by
 exact pz Tryz.func104 (by
  refine n_old (.ff (.ff (.out (.nsl) [] (.nsl) []))) ?_
  grind [k_ff,k_out,Ent.refl])
theorem gives_nil {P:Program} {gl:Globs} {F:FuncId} {args:List AV} {es:Nat} {R:Rep} (h:Am.Pure P gl F args .nsl):Gives P gl F [] args (.osl 0 es 0 0) [some ⟨es,0,true,R⟩]:=by
 refine ⟨h.1,fun β w vs hF hG hg ha=>(h.2 β w vs hF hG hg ha).mono fun e w' hh=>?_⟩
 obtain ⟨v,β',he,hk,hA,hr⟩:=hh
 have hn:∀ {q:Nat} {b n:Nat} {mu:Bool},(if q=0 then some Own.empty else none)=some (Own.lives b n mu)→False:=fun {q b n mu} e=>by grind
 refine ⟨v,⟨fun k=>if k=0 then some .empty else none,β'.F⟩,he,hk,⟨hA.F,fun k ob hk=>?_,fun k hk=>if_neg (by grind),fun i j b n n' mu mu' e1=>(hn e1).elim,fun k b n mu e1=>(hn e1).elim,fun k o e1=>by rw [hG.none k (Nat.zero_le _)] at e1;grind⟩,?_⟩
 ·match k,hk with
  | 0,hk=>cases hk;exact .inr ⟨rfl,rfl⟩
  | k+1,hk=>grind
 ·cases hr with
  | nsl=>exact .osl0 (by simp)
theorem grow_0:Gives Tryz.prog gl0 104 [] [.nsl,.int .i64 0] (.osl 0 7 0 0) [some ⟨7,0,true,.fn fun _ _=>.int .i64 0⟩]:=gives_nil grow_z
theorem grow_n (n:Nat) (hn:n≤200000):Gives Tryz.prog gl0 104 [] [.nsl,.int .i64 n] (.osl 0 7 0 0) [some ⟨7,n,true,.fn fun _ _=>.int .i64 0⟩]:=by grind [grow_0,grow_c]
def owC:FuncId→Option (List Bool):=fun f=>bif Nat.beq f 104 then some [false,false] else none
def catS (n:Nat) (f g:Nat→Sup) (i:Nat):Sup:=if i<n then f i else g (i - n)
def szC (n k x:Nat):Nat:=if x=0 then 0 else if x=1 then n else n+k
def rwC (n:Nat) (f g:Nat→Sup) (x i j:Nat):Int:=if x=0 then 0 else supI (catS n f g i) j
def lenC (n k x:Nat):Nat:=if x=0 then n else k
def pkC (f g:Nat→Sup) (x:Nat):Nat→Sup:=if x=0 then f else g
theorem szC_le (n k x:Nat) (hn:n≤100000) (hk:k≤100000):szC n k x≤200000∧lenC n k x≤100000:=by grind [szC,lenC]
theorem szC_s {n k x:Nat} (h:x<2):szC n k x+lenC n k x=szC n k (x+1):=by
 have:x=0∨x=1:=by omega
 rcases this with rfl|rfl<;>simp [szC,lenC]
theorem szC_2 {n k x:Nat} (h:2≤x):szC n k x=n+k:=by unfold szC;grind
theorem rwC_s {n k x i j:Nat} {f g:Nat→Sup} (h:x<2) (hi:i<szC n k x+lenC n k x):(bif i.blt (szC n k x) then rwC n f g x i j else supI (pkC f g x (i - szC n k x)) j)=rwC n f g (x+1) i j:=by
 have:x=0∨x=1:=by omega
 rcases this with rfl|rfl
 ·simp only [szC,if_true,lenC] at hi ⊢
  rw [blt_f (Nat.zero_le _)]
  show supI (f (i - 0)) j=supI (catS n f g i) j
  simp_all [catS]
 ·have e:szC n k 1=n:=rfl
  rw [e] at hi ⊢
  show _=supI (catS n f g i) j
  by_cases c:i<n
  ·rw [blt_t c];rfl
  ·rw [blt_f (by omega)]
   show supI (g (i - n)) j=_
   simp_all [catS,if_neg]
theorem concat_w (n k:Nat) (f g:Nat→Sup) (hn:n≤100000) (hk:k≤100000):Gives Tryz.prog gl0 45 [] [.isl 1 2 fun i _=>.isl 7 (lenC n k i) fun r j=>.int .i64 (supI (pkC f g i r) j)] (.osl 0 7 0 (n+k)) [some ⟨7,n+k,true,.row fun i=>(catS n f g i).cells⟩]:=by
 have hz:=fun x=>szC_le n k x hn hk
 have e0:=wI (n:=0+(n:Int)) (by omega) (by omega)
 have e1:=wI (n:=(n:Int)+(k:Int)) (by omega) (by omega)
 have c1:=fun x=>grow_n (szC n k x) (hz x).1
 exact gz owC Tryz.func45 (by
  apply n_loop ({ x:Nat // x≤2 }) [0,9,10,3,11] [] (fun x=>[.isl 1 2 fun i x=>.isl 7 (lenC n k i) fun r j=>Zi (supI (pkC f g i r) j),.isl 1 2 fun i x=>.isl 7 (lenC n k i) fun r j=>Zi (supI (pkC f g i r) j),Zi 2,Zi (↑(szC n k (x.1)):Int),Zi x.1]) (fun _=>[]) (fun x=>2 - x.1) (⟨0,Nat.zero_le 2⟩)
  intro x0
  try (have q0:=x0.2;dsimp only at q0)
  have hb:=hz x0.1;have e2:=wI (n:=(szC n k x0.1:Int)+(lenC n k x0.1:Int)) (by omega) (by omega);have e3:=fun h=>szC_s (n:=n) (k:=k) (x:=x0.1) h
  apply n_bd ((x0.1:Int)<2)
  ·intro g1
   apply n_req (0≤(x0.1:Int)∧(x0.1:Int)<2)
   apply n_bd (wrap .i64 ((↑(szC n k x0.1):Int)+(↑(lenC n k (toNat (x0.1:Int))):Int))<0)
   ·intro _
    apply n_no
    grind
   ·intro g3
    try simp only [Int.toNat_natCast] at g3
    exact n_againx [] (⟨x0.1+1,by omega⟩) [.isl 1 2 fun i x=>.isl 7 (lenC n k i) fun r j=>Zi (supI (pkC f g i r) j),.isl 1 2 fun i x=>.isl 7 (lenC n k i) fun r j=>Zi (supI (pkC f g i r) j),Zi 2,Zi (wrap .i64 ((↑(szC n k x0.1):Int)+(↑(lenC n k (toNat (x0.1:Int))):Int))),Zi (wrap .i64 ((x0.1:Int)+1))] [] (⟨Ent.refl _,Ent.refl _,Ent.refl _,Ent.of_eq (congrArg (AV.int _) (by grind)),inc_ent (by omega),trivial⟩) (trivial)
  ·intro g1
   apply n_gc (c1 (x0.1))
   apply n_loopx ({ x:Nat // x≤2 }) [25,26,6,27] [16] (fun x=>[.isl 1 2 fun i x=>.isl 7 (lenC n k i) fun r j=>Zi (supI (pkC f g i r) j),Zi 2,.osl 0 7 0 (szC n k (x.1)),Zi x.1]) (fun x=>[some ⟨7,bif Nat.beq (x.1) 0 then n+k else szC n k (x.1),true,.fn fun i j=>Zi (rwC n f g (x.1) i j)⟩]) (fun x=>2 - x.1) (⟨0,Nat.zero_le 2⟩) [.isl 1 2 fun i x=>.isl 7 (lenC n k i) fun r j=>Zi (supI (pkC f g i r) j),Zi 2,.osl 0 7 0 0,Zi 0] [some ⟨7,szC n k x0.1,true,.fn fun i j=>Zi 0⟩] (⟨.refl _,.refl _,.refl _,.refl _,trivial⟩) (by exact ⟨⟨rfl,by show szC n k x0.1=n+k;grind [szC_2],rfl,fun i j _ _=>Ent.refl _⟩,trivial⟩)
   intro x7
   try (have q7:=x7.2;dsimp only at q7)
   have hb7:=hz x7.1;have e7:=fun h=>szC_s (n:=n) (k:=k) (x:=x7.1) h
   apply n_bd ((x7.1:Int)<2)
   ·intro g8
    apply n_req (0≤(x7.1:Int)∧(x7.1:Int)<2)
    apply n_req ((szC n k x7.1+lenC n k (toNat (x7.1:Int)))*56≤140737488355328) (by grind)
    exact n_againx [49] (⟨x7.1+1,by omega⟩) [.isl 1 2 fun i x=>.isl 7 (lenC n k i) fun r j=>Zi (supI (pkC f g i r) j),Zi 2,.osl 0 7 0 (szC n k x7.1+lenC n k (toNat (x7.1:Int))),Zi (wrap .i64 ((x7.1:Int)+1))] [some ⟨7,szC n k x7.1+lenC n k (toNat (x7.1:Int)),true,.fn fun i j=>Zi (bif Nat.blt i (szC n k x7.1) then rwC n f g x7.1 i j else supI (pkC f g (toNat (x7.1:Int)) (i - szC n k x7.1)) j)⟩] (⟨Ent.refl _,Ent.refl _,Ent.of_eq (congrArg (AV.osl _ _ _) (by grind)),inc_ent (by omega),trivial⟩) (by exact ⟨⟨rfl,by simp only [Int.toNat_natCast];exact e7 (by omega),rfl,fun i j hi hj=>Ent.of_eq (congrArg (AV.int _) (by simp only [Int.toNat_natCast] at hi ⊢;grind [rwC_s]))⟩,trivial⟩)
   ·intro g8
    exact n_outG (.osl 0 7 0 (szC n k x7.1)) [some ⟨7,bif Nat.beq x7.1 0 then n+k else szC n k x7.1,true,.fn fun i j=>Zi (rwC n f g (x7.1) i j)⟩] (Ent.of_eq (congrArg (AV.osl _ _ _) (szC_2 (by omega)))) (⟨⟨rfl,by grind [Nat.beq,szC,szC_2],rfl,fun i j hi hj=>Ent.of_eq (by show AV.int .i64 (rwC n f g x7.1 i j)=_;unfold rwC;rw [if_neg (by omega)];exact supI_at _ hj)⟩,trivial⟩))
theorem concat_c (n k:Nat) (f g:Nat→Sup) (hn:n≤100000) (hk:k≤100000):Gives Tryz.prog gl0 45 [] [.isl 1 2 fun i j=>atL (List.getD [[supA n f],[supA k g]] i []) j] (.osl 0 7 0 (n+k)) [some ⟨7,n+k,true,.row fun i=>(catS n f g i).cells⟩] :=
 (concat_w n k f g hn hk).via ⟨Ent.islE fun i j hi hj=>by
  obtain rfl:j=0:=Nat.lt_one_iff.1 hj
  have hi:i=0∨i=1:=by omega
  rcases hi with rfl|rfl
  ·exact ⟨Ent.isl fun r j _ hj=>(supI_at _ hj).symm,.isl fun _ _ _ _=>.int⟩
  ·exact ⟨Ent.isl fun r j _ hj=>(supI_at _ hj).symm,.isl fun _ _ _ _=>.int⟩,trivial⟩
theorem lit_1 {os:List (Option Ob)}:Ent os (.isl 7 1 fun r k=>atL (List.getD [[.int .i64 0,.int .i64 0,.int .i64 1,.int .i64 5,.int .i64 0,.int .i64 0,.int .i64 0]] r []) k) (supA 1 fun _=>sA):=Ent.isl fun i j hi _=>by
 obtain rfl:i=0:=Nat.lt_one_iff.1 hi
 rfl
theorem lit_2 {os:List (Option Ob)}:Ent os (.isl 7 2 fun r k=>atL (List.getD [[.int .i64 0,.int .i64 0,.int .i64 1,.int .i64 3,.int .i64 2,.int .i64 0,.int .i64 0],[.int .i64 0,.int .i64 0,.int .i64 0,.int .i64 7,.int .i64 0,.int .i64 0,.int .i64 0]] r []) k) (supA 2 fB):=Ent.isl fun i j hi _=>by
 match i,hi with
 | 0,_=>rfl
 | 1,_=>rfl
theorem conc_v:Gives Tryz.prog gl0 45 [] [.isl 1 2 fun i j=>atL (List.getD [[.isl 7 1 fun r k=>atL (List.getD [[.int .i64 0,.int .i64 0,.int .i64 1,.int .i64 5,.int .i64 0,.int .i64 0,.int .i64 0]] r []) k],[.isl 7 2 fun r k=>atL (List.getD [[.int .i64 0,.int .i64 0,.int .i64 1,.int .i64 3,.int .i64 2,.int .i64 0,.int .i64 0],[.int .i64 0,.int .i64 0,.int .i64 0,.int .i64 7,.int .i64 0,.int .i64 0,.int .i64 0]] r []) k]] i []) j] (.osl 0 7 0 (1+2)) [some ⟨7,1+2,true,.row fun i=>(catS 1 (fun _=>sA) fB i).cells⟩] :=
 (concat_w 1 2 (fun _=>sA) fB (by decide) (by decide)).via ⟨Ent.islE fun i j hi hj=>by
  obtain rfl:j=0:=Nat.lt_one_iff.1 hj
  have hi:i=0∨i=1:=by omega
  rcases hi with rfl|rfl
  ·exact ⟨Ent.isl fun r j hr hj=>by
    obtain rfl:r=0:=Nat.lt_one_iff.1 hr
    exact (supI_at sA hj).symm,.isl fun _ _ _ _=>.int⟩
  ·exact ⟨Ent.isl fun r j hr hj=>by
    match r,hr with
    | 0,_=>exact (supI_at sB hj).symm
    | 1,_=>exact (supI_at sC hj).symm,.isl fun _ _ _ _=>.int⟩,trivial⟩
theorem conc_3:Gives Tryz.prog gl0 45 [] [.isl 1 2 fun i j=>atL (List.getD [[.isl 7 1 fun r k=>atL (List.getD [[.int .i64 0,.int .i64 0,.int .i64 1,.int .i64 5,.int .i64 0,.int .i64 0,.int .i64 0]] r []) k],[.isl 7 2 fun r k=>atL (List.getD [[.int .i64 0,.int .i64 0,.int .i64 1,.int .i64 3,.int .i64 2,.int .i64 0,.int .i64 0],[.int .i64 0,.int .i64 0,.int .i64 0,.int .i64 7,.int .i64 0,.int .i64 0,.int .i64 0]] r []) k]] i []) j] (.osl 0 7 0 3) [some ⟨7,3,true,.lst [[.int .i64 0,.int .i64 0,.int .i64 1,.int .i64 5,.int .i64 0,.int .i64 0,.int .i64 0],[.int .i64 0,.int .i64 0,.int .i64 1,.int .i64 3,.int .i64 2,.int .i64 0,.int .i64 0],[.int .i64 0,.int .i64 0,.int .i64 0,.int .i64 7,.int .i64 0,.int .i64 0,.int .i64 0]]⟩] :=
 conc_v.ent (Ent.refl _) ⟨lit3 rfl rfl rfl,trivial⟩
theorem stab_3:Gives Tryz.prog gl0 105 [⟨7,3,true,.lst [[.int .i64 0,.int .i64 0,.int .i64 1,.int .i64 5,.int .i64 0,.int .i64 0,.int .i64 0],[.int .i64 0,.int .i64 0,.int .i64 1,.int .i64 3,.int .i64 2,.int .i64 0,.int .i64 0],[.int .i64 0,.int .i64 0,.int .i64 0,.int .i64 7,.int .i64 0,.int .i64 0,.int .i64 0]]⟩] [.osl 0 7 0 3,.int .i64 3,.fn (.func 47) [] []] (.tup []) [some ⟨7,3,true,.lst [[.int .i64 0,.int .i64 0,.int .i64 0,.int .i64 7,.int .i64 0,.int .i64 0,.int .i64 0],[.int .i64 0,.int .i64 0,.int .i64 1,.int .i64 5,.int .i64 0,.int .i64 0,.int .i64 0],[.int .i64 0,.int .i64 0,.int .i64 1,.int .i64 3,.int .i64 2,.int .i64 0,.int .i64 0]]⟩]:=by
 exact gz (owT 3) Tryz.func105 (by
  apply n_ff
  apply n_gc (ins_3)
  apply n_ff
  exact n_org)
theorem ssort_3:Gives Tryz.prog gl0 46 [⟨7,3,true,.lst [[.int .i64 0,.int .i64 0,.int .i64 1,.int .i64 5,.int .i64 0,.int .i64 0,.int .i64 0],[.int .i64 0,.int .i64 0,.int .i64 1,.int .i64 3,.int .i64 2,.int .i64 0,.int .i64 0],[.int .i64 0,.int .i64 0,.int .i64 0,.int .i64 7,.int .i64 0,.int .i64 0,.int .i64 0]]⟩] [.osl 0 7 0 3,.fn (.func 47) [] []] (.tup []) [some ⟨7,3,true,.lst [[.int .i64 0,.int .i64 0,.int .i64 0,.int .i64 7,.int .i64 0,.int .i64 0,.int .i64 0],[.int .i64 0,.int .i64 0,.int .i64 1,.int .i64 5,.int .i64 0,.int .i64 0,.int .i64 0],[.int .i64 0,.int .i64 0,.int .i64 1,.int .i64 3,.int .i64 2,.int .i64 0,.int .i64 0]]⟩]:=by
 exact gz (owT 3) Tryz.func46 (by
  apply n_gc (stab_3)
  exact n_org)
end Go.Proofs.YtcageinnelhonaaGreatDoor.U

namespace Go.Sp
open Go.IntKind (wrap)
open Int (toNat)
open Go Go.Am
def wA (a b:Int):Int:=IntKind.wrap .i64 (a+b)
def addS (t s:Sup):Sup:=⟨t.bank,t.epoch,t.denom,wA t.issued s.issued,wA t.ret s.ret,wA t.dbl s.dbl,wA t.exp s.exp⟩
def stepM (O:List Sup) (s:Sup):List Sup:=if O.length=0∨cmpS O[O.length - 1]! s≠0 then O++[s] else O.set (O.length - 1) (addS O[O.length - 1]! s)
def mgF (D:Nat→Sup):Nat→List Sup
 | 0=>[]
 | x+1=>stepM (mgF D x) (D x)
theorem mg_le (D:Nat→Sup):∀ x,(mgF D x).length≤x
 | 0=>Nat.le_refl _
 | x+1=>by
  have:=mg_le D x
  rw [mgF,stepM]
  split
  ·simp;omega
  ·rw [List.length_set];omega
theorem step_new {O:List Sup} {s:Sup} (k:O.length=0∨cmpS O[O.length - 1]! s≠0):stepM O s=O++[s]:=if_pos k
theorem step_old {O:List Sup} {s:Sup} (k1:O.length≠0) (k2:cmpS O[O.length - 1]! s=0):stepM O s=O.set (O.length - 1) (addS O[O.length - 1]! s):=if_neg (by rintro (h|h);exact k1 h;exact h k2)
theorem get_set {O:List Sup} {v:Sup} {i r:Nat} (h:r<O.length):(O.set i v)[r]! = if r=i then v else O[r]! := by
 rw [List.getElem!_eq_getElem?_getD,List.getElem!_eq_getElem?_getD,List.getElem?_set]
 by_cases c:i=r
 ·rw [if_pos c,if_pos c.symm,if_pos (by omega)];rfl
 ·rw [if_neg c,if_neg (fun e=>c e.symm)]
end Go.Sp

namespace Go.Proofs.YtcageinnelhonaaGreatDoor.U
open Go.IntKind (wrap)
open Int (toNat)
open Go Go.Am Go.Sp
set_option maxRecDepth 100000
def dS:Nat→Sup:=fun i=>if i=0 then sC else if i=1 then sA else sB
def mS (x:Nat):List Sup:=mgF dS x
theorem mS_l (x:Nat):(mS x).length≤x:=mg_le _ x
theorem prop_1:Pure Tryz.prog gl0 44 [.isl 7 1 fun r k=>atL (List.getD [[.int .i64 0,.int .i64 0,.int .i64 1,.int .i64 5,.int .i64 0,.int .i64 0,.int .i64 0]] r []) k] (.bool true):=proper_1.via ⟨lit_1,trivial⟩
theorem prop_2:Pure Tryz.prog gl0 44 [.isl 7 2 fun r k=>atL (List.getD [[.int .i64 0,.int .i64 0,.int .i64 1,.int .i64 3,.int .i64 2,.int .i64 0,.int .i64 0],[.int .i64 0,.int .i64 0,.int .i64 0,.int .i64 7,.int .i64 0,.int .i64 0,.int .i64 0]] r []) k] (.bool true):=proper_2.via ⟨lit_2,trivial⟩
theorem ssort_d:Gives Tryz.prog gl0 46 [⟨7,3,true,.lst [[.int .i64 0,.int .i64 0,.int .i64 1,.int .i64 5,.int .i64 0,.int .i64 0,.int .i64 0],[.int .i64 0,.int .i64 0,.int .i64 1,.int .i64 3,.int .i64 2,.int .i64 0,.int .i64 0],[.int .i64 0,.int .i64 0,.int .i64 0,.int .i64 7,.int .i64 0,.int .i64 0,.int .i64 0]]⟩] [.osl 0 7 0 3,.fn (.func 47) [] []] (.tup []) [some ⟨7,3,true,.row fun i=>(dS i).cells⟩] :=
 ssort_3.ent (Ent.refl _) ⟨lit3 rfl rfl rfl,trivial⟩
def owQ:FuncId→Option (List Bool):=fun f=>bif Nat.beq f 45 then some [false] else bif Nat.beq f 46 then some [true,false] else bif Nat.beq f 40 then some [true] else bif Nat.beq f 999999999 then some (List.replicate 5 true) else bif Nat.beq f 999999998 then some [] else none
theorem ob_app {os:List (Option Ob)} {O O':List Sup} {s:Sup} (h:O'=O++[s]):ObEnt os ⟨7,O.length+1,true,.cat O.length (.row fun i=>(O[i]!).cells) (.lst [s.cells])⟩ ⟨7,O'.length,true,.row fun i=>(O'[i]!).cells⟩:=by
 subst h
 refine ObEnt.cat (by simp) (fun i j hi _=>Ent.of_eq ?_) (fun i j hi _=>Ent.of_eq ?_)
 ·show atL (O[i]!).cells j=atL ((O++[s])[i]!).cells j
  grind
 ·obtain rfl:i=0:=by omega
  show atL s.cells j=atL ((O++[s])[O.length+0]!).cells j
  simp
theorem ob_set {os:List (Option Ob)} {O O':List Sup} {s:Sup} {z:Nat} (hz:z<O.length) (h:O'=O.set z (addS O[z]! s)) :
  ObEnt os ⟨7,O.length,true,.row fun i=>[.int .i64 (O[i]!).bank,.int .i64 (O[i]!).epoch,.int .i64 (O[i]!).denom,.int .i64 (bif Nat.beq i z then IntKind.wrap .i64 ((O[z]!).issued+s.issued) else (O[i]!).issued),.int .i64 (bif Nat.beq i z then IntKind.wrap .i64 ((O[z]!).ret+s.ret) else (O[i]!).ret),.int .i64 (bif Nat.beq i z then IntKind.wrap .i64 ((O[z]!).dbl+s.dbl) else (O[i]!).dbl),.int .i64 (bif Nat.beq i z then IntKind.wrap .i64 ((O[z]!).exp+s.exp) else (O[i]!).exp)]⟩ ⟨7,O'.length,true,.row fun i=>(O'[i]!).cells⟩:=by
 subst h
 refine ⟨rfl,(List.length_set ..).symm,rfl,fun r c hr hc=>Ent.of_eq ?_⟩
 have hr:r<O.length:=hr
 show atL [_,_,_,_,_,_,_] c=atL ((O.set z (addS O[z]! s))[r]!).cells c
 rw [get_set hr]
 by_cases e:r=z
 ·subst e
  rw [if_pos rfl]
  simp only [Nat.beq_refl,cond_true]
  rfl
 ·rw [if_neg e]
  have:Nat.beq r z=false:=by grind [Nat.beq,absurd,Nat.eq_of_beq_eq_true]
  simp only [this,cond_false]
  rfl
theorem step_a {O:List Sup} {s:Sup} {z:Int} (hz:z=(O.length:Int) - 1) (g:(O.length:Int)=0∨¬cmpS O[z.toNat]! s=0):stepM O s=O++[s]:=step_new (by grind)
theorem step_b {O:List Sup} {s:Sup} {z:Int} (hz:z=(O.length:Int) - 1) (g:¬(O.length:Int)=0∧cmpS O[z.toNat]! s=0):stepM O s=O.set z.toNat (addS O[z.toNat]! s):=by grind [step_old]
theorem lit_d {os:List (Option Ob)}:Ent os (.isl 7 (mS 3).length fun i j=>atL ((mS 3)[i]!).cells j) (.isl 7 2 fun r k=>atL (List.getD [[.int .i64 0,.int .i64 0,.int .i64 0,.int .i64 7,.int .i64 0,.int .i64 0,.int .i64 0],[.int .i64 0,.int .i64 0,.int .i64 1,.int .i64 8,.int .i64 2,.int .i64 0,.int .i64 0]] r []) k):=Ent.islN rfl fun i j hi _=>by
 have hi:i<2:=hi
 match i,hi with
 | 0,_=>rfl
 | 1,_=>rfl
theorem lit_e {os:List (Option Ob)}:Ent os (.isl 7 2 fun r k=>atL (List.getD [[.int .i64 0,.int .i64 0,.int .i64 0,.int .i64 7,.int .i64 0,.int .i64 0,.int .i64 0],[.int .i64 0,.int .i64 0,.int .i64 1,.int .i64 8,.int .i64 2,.int .i64 0,.int .i64 0]] r []) k) (supA 2 fun i=>(mS 3)[i]!):=Ent.isl fun i j hi _=>by
 match i,hi with
 | 0,_=>rfl
 | 1,_=>rfl
theorem any_d:anyI (fun i => !validS (mS 3)[i]!) (mS 3).length=false:=by rfl
theorem merge_l:Pure Tryz.prog gl0 16 [.isl 7 1 fun r k=>atL (List.getD [[.int .i64 0,.int .i64 0,.int .i64 1,.int .i64 5,.int .i64 0,.int .i64 0,.int .i64 0]] r []) k,.isl 7 2 fun r k=>atL (List.getD [[.int .i64 0,.int .i64 0,.int .i64 1,.int .i64 3,.int .i64 2,.int .i64 0,.int .i64 0],[.int .i64 0,.int .i64 0,.int .i64 0,.int .i64 7,.int .i64 0,.int .i64 0,.int .i64 0]] r []) k] (.tup [.isl 7 2 fun r k=>atL (List.getD [[.int .i64 0,.int .i64 0,.int .i64 0,.int .i64 7,.int .i64 0,.int .i64 0,.int .i64 0],[.int .i64 0,.int .i64 0,.int .i64 1,.int .i64 8,.int .i64 2,.int .i64 0,.int .i64 0]] r []) k,.int .i64 0]):=by
 have c5:=fun (x:Nat) (hx:x≤3)=>containsS_w 48 (fun i=>(mS x)[i]!) (mS x).length (fun i => !validS (mS x)[i]!) (by grind [mS_l]) (fun i _=>not1_c _)
 exact pzo owQ Tryz.func16 (by
  apply n_sc (prop_1)
  apply n_sc (prop_2)
  apply n_ff
  apply n_gc (conc_3)
  apply n_gc (ssort_d)
  apply n_loopx ({ x:Nat // x≤3 }) [28,29,7,30] [104,1961] (fun x=>[.osl 0 7 0 3,Zi 3,.osl 1 7 0 (List.length (mS (x.1))),Zi x.1]) (fun x=>[some ⟨7,3,true,Rep.row fun i=>Sup.cells (dS i)⟩,some ⟨7,List.length (mS (x.1)),true,Rep.row fun i=>Sup.cells (mS (x.1))[i]!⟩]) (fun x=>3 - x.1) (⟨0,Nat.zero_le 3⟩) [.osl 0 7 0 3,Zi 3,.nsl,Zi 0] [some ⟨7,3,true,Rep.row fun i=>Sup.cells (dS i)⟩,some ⟨7,0,true,.ty (999999999:TypeId) (.lst [])⟩] (by repeat' (first|exact trivial|(first|exact Ent.refl _|exact inc_ent (by omega)|exact Ent.nil rfl|exact Ent.of_eq (congrArg (AV.osl _ _ _) (by rfl))|exact Ent.of_eq (congrArg (AV.int _) (by rfl)))|refine And.intro ?_ ?_)) (by repeat' (first|exact trivial|(first|exact ObEnt.refl _|exact ObEnt.junk|exact ObEnt.zero|exact ObEnt.push rfl rfl|exact ObEnt.pushRow rfl|exact ObEnt.len (by omega)|exact ObEnt.row (by repeat' (first|exact trivial|(first|exact Ent.refl _|exact inc_ent (by omega)|exact Ent.nil rfl|exact Ent.of_eq (congrArg (AV.osl _ _ _) (by rfl))|exact Ent.of_eq (congrArg (AV.int _) (by rfl)))|refine And.intro ?_ ?_)))|refine And.intro ?_ ?_))
  intro x5
  try (have q5:=x5.2;dsimp only at q5)
  have hl:=mS_l x5.1;have eL:=wI (n:=((mS x5.1).length:Int) - 1) (by omega) (by omega)
  apply n_bd ((x5.1:Int)<3)
  ·intro g6
   apply n_req (0≤(x5.1:Int)∧(x5.1:Int)<3)
   apply n_req ((((↑(List.length (mS (x5.1))):Int)==0)==false)=true→(0:Int)≤wrap .i64 ((↑(List.length (mS (x5.1))):Int) - 1)∧wrap .i64 ((↑(List.length (mS (x5.1))):Int) - 1)<(↑(List.length (mS (x5.1))):Int)) (fun hr=>by grind)
   apply n_scg (((↑(List.length (mS (x5.1))):Int)==0)==false) (fun h9=>compare_c ((mS (x5.1))[toNat (wrap .i64 ((↑(List.length (mS (x5.1))):Int) - (1:Int)))+(0:Nat)]!) (dS (toNat (↑(x5.1):Int)+0)))
   apply n_br ((↑(List.length (mS (x5.1))):Int)==0||cmpS (mS x5.1)[toNat (wrap .i64 ((↑(List.length (mS (x5.1))):Int) - 1))+0]! (dS (toNat (x5.1:Int)+0)) != 0)
   ·intro g10
    try simp only [Int.toNat_natCast] at g10
    apply n_req ((List.length (mS (x5.1))+1)*56≤140737488355328)
    refine n_old (.again (Again 0 (fun (x:{ x:Nat // x≤3 })=>mkSt [28,29,7,30] [.osl 0 7 0 3,Zi 3,.osl 1 7 0 (List.length (mS (x.1))),Zi x.1] [some ⟨7,3,true,Rep.row fun i=>Sup.cells (dS i)⟩,some ⟨7,List.length (mS (x.1)),true,Rep.row fun i=>Sup.cells (mS (x.1))[i]!⟩]) (fun (x:{ x:Nat // x≤3 })=>3 - x.1) x5) [28,29,7,30] [0,186] [.osl 0 7 0 3,Zi 3,.osl 1 7 0 (List.length (mS (x5.1))+1),Zi (wrap .i64 ((x5.1:Int)+1))] [some ⟨7,3,true,Rep.row fun i=>Sup.cells (dS i)⟩,some ⟨7,List.length (mS (x5.1))+1,true,Rep.cat (List.length (mS (x5.1))) (Rep.row fun i=>Sup.cells (mS (x5.1))[i]!) (.lst [Sup.cells (dS (toNat (↑(x5.1):Int)+0))])⟩]) ?_
    exact k_again (⟨x5.1+1,by omega⟩) (fun _ hs=>hs.le (⟨Ent.refl _,Ent.refl _,Ent.of_eq (congrArg (AV.osl _ _ _) (by have e:mS (x5.1+1)=_:=step_a eL g10;rw [e];simp;rfl)),inc_ent (by omega),trivial⟩) (⟨ObEnt.refl _,ob_app (step_a eL g10),trivial⟩)) (by grind)
   ·intro g10
    try simp only [Int.toNat_natCast] at g10
    apply n_gc (amounts_1 (dS (toNat (↑(x5.1):Int)+0)))
    apply n_req ((0:Int)≤wrap .i64 ((↑(List.length (mS (x5.1))):Int) - 1)∧wrap .i64 ((↑(List.length (mS (x5.1))):Int) - 1)<(↑(List.length (mS (x5.1))):Int))
    apply n_gc (amounts_c (List.length (mS (x5.1))) (toNat (wrap .i64 ((↑(List.length (mS (x5.1))):Int) - (1:Int)))+0) (by omega) (getElem! (mS (x5.1))))
    apply n_tt
    apply n_req ((0:Int)≤0∧(0:Int)<4)
    apply n_req ((0:Int)≤0∧(0:Int)<4)
    apply n_tt
    apply n_req ((0:Int)≤wrap .i64 ((0:Int)+1)∧wrap .i64 ((0:Int)+1)<4)
    apply n_req ((0:Int)≤wrap .i64 ((0:Int)+1)∧wrap .i64 ((0:Int)+1)<4)
    apply n_tt
    apply n_req ((0:Int)≤wrap .i64 (wrap .i64 ((0:Int)+1)+1)∧wrap .i64 (wrap .i64 ((0:Int)+1)+1)<4)
    apply n_req ((0:Int)≤wrap .i64 (wrap .i64 ((0:Int)+1)+1)∧wrap .i64 (wrap .i64 ((0:Int)+1)+1)<4)
    apply n_tt
    apply n_req ((0:Int)≤wrap .i64 (wrap .i64 (wrap .i64 ((0:Int)+1)+1)+1)∧wrap .i64 (wrap .i64 (wrap .i64 ((0:Int)+1)+1)+1)<4)
    apply n_req ((0:Int)≤wrap .i64 (wrap .i64 (wrap .i64 ((0:Int)+1)+1)+1)∧wrap .i64 (wrap .i64 (wrap .i64 ((0:Int)+1)+1)+1)<4)
    apply n_ff
    refine n_old (.again (Again 0 (fun (x:{ x:Nat // x≤3 })=>mkSt [28,29,7,30] [.osl 0 7 0 3,Zi 3,.osl 1 7 0 (List.length (mS (x.1))),Zi x.1] [some ⟨7,3,true,Rep.row fun i=>Sup.cells (dS i)⟩,some ⟨7,List.length (mS (x.1)),true,Rep.row fun i=>Sup.cells (mS (x.1))[i]!⟩]) (fun (x:{ x:Nat // x≤3 })=>3 - x.1) x5) [28,29,7,30] [0,1] [.osl 0 7 0 3,Zi 3,.osl 1 7 0 (List.length (mS (x5.1))),Zi (wrap .i64 ((x5.1:Int)+1))] [some ⟨7,3,true,Rep.row fun i=>Sup.cells (dS i)⟩,some ⟨7,List.length (mS (x5.1)),true,Rep.row fun i=>[Zi (Sup.bank (mS (x5.1))[i]!),Zi (Sup.epoch (mS (x5.1))[i]!),Zi (Sup.denom (mS (x5.1))[i]!),Zi (bif Nat.beq i (toNat (wrap .i64 ((↑(List.length (mS (x5.1))):Int) - 1))+0) then wrap .i64 ((mS (x5.1))[toNat (wrap .i64 ((↑(List.length (mS (x5.1))):Int) - 1))+0]!.4+(dS (toNat (↑(x5.1):Int)+0)).4) else (mS (x5.1))[i]!.4),Zi (bif Nat.beq i (toNat (wrap .i64 ((↑(List.length (mS (x5.1))):Int) - 1))+0) then wrap .i64 ((mS (x5.1))[toNat (wrap .i64 ((↑(List.length (mS (x5.1))):Int) - 1))+0]!.5+(dS (toNat (↑(x5.1):Int)+0)).5) else (mS (x5.1))[i]!.5),Zi (bif Nat.beq i (toNat (wrap .i64 ((↑(List.length (mS (x5.1))):Int) - 1))+0) then wrap .i64 ((mS (x5.1))[toNat (wrap .i64 ((↑(List.length (mS (x5.1))):Int) - 1))+0]!.6+(dS (toNat (↑(x5.1):Int)+0)).6) else (mS (x5.1))[i]!.6),Zi (bif Nat.beq i (toNat (wrap .i64 ((↑(List.length (mS (x5.1))):Int) - 1))+0) then wrap .i64 ((mS (x5.1))[toNat (wrap .i64 ((↑(List.length (mS (x5.1))):Int) - 1))+0]!.7+(dS (toNat (↑(x5.1):Int)+0)).7) else (mS (x5.1))[i]!.7)]⟩]) ?_
    exact k_again (⟨x5.1+1,by omega⟩) (fun _ hs=>hs.le (⟨Ent.refl _,Ent.refl _,Ent.of_eq (congrArg (AV.osl _ _ _) (by have e:mS (x5.1+1)=_:=step_b eL g10;rw [e];simp;rfl)),inc_ent (by omega),trivial⟩) (⟨ObEnt.refl _,ob_set (by omega) (step_b eL g10),trivial⟩)) (by grind)
  ·intro g6
   apply n_bd ((↑(List.length (mS (x5.1))):Int)>1000)
   ·intro _
    refine n_old (.out (.tup [.nsl,Zi 5]) [] (.tup [.isl 7 2 fun r k=>atL (List.getD [[Zi 0,Zi 0,Zi 0,Zi 7,Zi 0,Zi 0,Zi 0],[Zi 0,Zi 0,Zi 1,Zi 8,Zi 2,Zi 0,Zi 0]] r []) k,Zi 0]) []) ?_
    grind
   ·intro g30
    apply n_sc (c5 (x5.1) (by omega))
    apply n_br (anyI (fun i => !validS (mS x5.1)[i]!) (List.length (mS (x5.1))))
    ·intro g33
     exact n_no (by rw [show x5.1=3 by omega,any_d] at g33;grind)
    ·intro g33
     exact n_outx (.tup [.isl 7 (List.length (mS (x5.1))) fun r k=>atL (Sup.cells (mS (x5.1))[r+0]!) k,Zi 0]) (by rw [show x5.1=3 by omega];exact Ent.tup ⟨lit_d,Ent.refl _,trivial⟩))
theorem same_d:Pure Tryz.prog gl0 9 [.isl 7 2 fun r k=>atL (List.getD [[.int .i64 0,.int .i64 0,.int .i64 0,.int .i64 7,.int .i64 0,.int .i64 0,.int .i64 0],[.int .i64 0,.int .i64 0,.int .i64 1,.int .i64 8,.int .i64 2,.int .i64 0,.int .i64 0]] r []) k,.isl 7 2 fun r k=>atL (List.getD [[.int .i64 0,.int .i64 0,.int .i64 0,.int .i64 7,.int .i64 0,.int .i64 0,.int .i64 0],[.int .i64 0,.int .i64 0,.int .i64 1,.int .i64 8,.int .i64 2,.int .i64 0,.int .i64 0]] r []) k] (.bool true) :=
 (selfL_c 2 (fun i=>(mS 3)[i]!) (by decide)).via ⟨lit_e,lit_e,trivial⟩
theorem out_d:Pure Tryz.prog gl0 15 [.agg [.int .i64 0,.int .i64 0,.int .i64 0,.int .i64 8,.int .i64 4,.int .i64 0,.int .i64 0]] (.tup [.int .i64 4,.int .i64 0]):=outg_c ⟨0,0,0,8,4,0,0⟩
theorem awake_c:Pure Tryz.prog gl0 5 [] (.bool true):=by
 refine pure_sk (own:=ow0) Tryz.func5 (by rfl) mixed (by rfl)
  (let y0:List AV:=[Zi 0,Zi 0,Zi 0,Zi 7,Zi 0,Zi 0,Zi 0];let y1:List AV:=[Zi 0,Zi 0,Zi 1,Zi 8,Zi 2,Zi 0,Zi 0];(.sc true 15 [.agg [Zi 0,Zi 0,Zi 0,Zi 8,Zi 4,Zi 0,Zi 0]] (.tup [Zi 4,Zi 0]) (.dc true 16 [.isl 7 1 fun r k=>atL (List.getD [[Zi 0,Zi 0,Zi 1,Zi 5,Zi 0,Zi 0,Zi 0]] (r+0) []) k,.isl 7 2 fun r k=>atL (List.getD [[Zi 0,Zi 0,Zi 1,Zi 3,Zi 2,Zi 0,Zi 0],y0] (r+0) []) k] (.tup [.isl 7 2 fun r k=>atL (List.getD [y0,y1] r []) k,Zi 0]) (.sc true 9 [.isl 7 2 fun r k=>atL (List.getD [y0,y1] r []) k,.isl 7 2 fun r k=>atL (List.getD [y0,y1] (r+0) []) k] (.bool true) (.out (.bool true) [] (.bool true) [])))))
  (by kernel_rfl) ?_
 grind [k_sc,out_d,k_dc,merge_l,same_d,k_out,Ent.of_eq]
end Go.Proofs.YtcageinnelhonaaGreatDoor.U

namespace Go.Proofs.YtcageinnelhonaaGreatDoor
open Go.IntKind (wrap)
open Int (toNat)
open Go Go.Am Go.Sp
set_option maxRecDepth 100000
theorem pure_mono {P:Program} {gl gl':Globs} {f:FuncId} {args:List AV} {r:AV} (h:Am.Pure P gl f args r) (hs:∀ g m x,gl g=some (m,x)→gl' g=some (m,x)):Am.Pure P gl' f args r :=
 ⟨h.1,fun β w vs hF hG hg ha=>h.2 β w vs hF hG (fun g m x e=>hg g m x (hs g m x e)) ha⟩
theorem awake52_c:Pure Tryz.prog gl0 5 [] (.bool true):=pure_mono U.awake_c (fun _ _ _ h=>by cases h)
theorem self52_c (n:Nat) (f:Nat→Sup) (hn:n<9223372036854775807):Pure Tryz.prog gl0 9 [supA n f,supA n f] (.bool true):=pure_mono (U.selfL_c n f hn) (fun _ _ _ h=>by cases h)
theorem con52_c (n:Nat) (f:Nat→Sup) (hn:n<9223372036854775808) (h:∀ i,i<n→validS (f i)=true):Pure Tryz.prog gl0 11 [supA n f,.fn (.func 12) [] []] (.bool false):=pure_mono (U.conL_c n f hn h) (fun _ _ _ h=>by cases h)
theorem supplyCounts_t (k:Bnk) (hI:BnkIn k) (hb:bnkB k=true):Pure Tryz.prog gl0 3 [.agg k.cells] (.bool true):=by
 have hnr:=hI.nr
 have c0:=awake52_c
 have c1:=big_c k hI.nu hI.ng hI.nc
 have c2:=fun h=>sCount_c k (hI.bg h) hb (fun i hi=>bg_cnt h hb hi)
 have c3:=fun h=>rbval_c k (hI.bg h)
 rw [hb] at c3
 have c4:=fun (h:bgK k=false)=>r52c_c k (by have:=(bgH_iff.1 (bg_no h).1).2.2.1;omega) (fun i hi=>⟨bg_cnt h hb hi,(rcv_of hb hi).2⟩)
 have c5:=fun (h:bgK k=false)=>self52_c k.nr (fun i=>cntS k (k.R i)) (by have:=(bgH_iff.1 (bg_no h).1).2.2.1;omega)
 have c6:=fun h=>con52_c k.nr (fun i=>cntS k (k.R i)) hnr (fun i hi=>bg_valid h hb hi)
 exact pz Tryz.func3 (by
  apply n_sc (c0)
  apply n_ff
  apply n_sc (c1)
  apply n_br (bgK k)
  ·intro _
   exact n_or
  ·intro _
   apply n_dc (c2 (by assumption))
   apply n_sc (c3 (by assumption))
   apply n_ff
   apply n_dc (c4 (by assumption))
   apply n_sc (c5 (by assumption))
   apply n_sc (c6 (by assumption))
   exact n_or)
theorem supplyCounts_f (k:Bnk) (hI:BnkIn k) (hb:bnkB k=false):Pure Tryz.prog gl0 3 [.agg k.cells] (.bool true):=by
 have c0:=awake52_c
 have c1:=big_c k hI.nu hI.ng hI.nc
 have c2:=fun h=>sCount_f k (hI.bg h) hb
 have c3:=fun h=>rbval_c k (hI.bg h)
 rw [hb] at c3
 exact pz Tryz.func3 (by
  apply n_sc (c0)
  apply n_ff
  apply n_sc (c1)
  apply n_br (bgK k)
  ·intro _
   exact n_or
  ·intro _
   apply n_dc (c2 (by assumption))
   apply n_sc (c3 (by assumption))
   apply n_tt
   exact n_or)
theorem supplyCounts_c (k:Bnk) (hI:BnkIn k):Pure Tryz.prog gl0 3 [.agg k.cells] (.bool true):=by
 cases hb:bnkB k with
 | true=>exact supplyCounts_t k hI hb
 | false=>exact supplyCounts_f k hI hb
theorem supplyCounts_g (k:Nat→AV) (hk:∀ (j:Nat) c,bankT[j]? = some c→CellOk c (k j)):Pure Tryz.prog gl0 3 [.agg (canonRow bankT k 0)] (.bool true):=by
 rw [bank_cells]
 exact supplyCounts_c (bnkOf k) (bank_in hk)
end Go.Proofs.YtcageinnelhonaaGreatDoor

namespace Go.Am
open Go.IntKind (wrap)
open Int (toNat)
open Go
theorem laid_at {P:Program} {w:World}:∀ {laid:List (String×DataW Unit)} {ps:List MemPlace},DataW.LaidVars P w laid ps→∀ {i:Nat} {n:String} {d:DataW Unit},laid[i]? = some (n,d) →
  ∃ g t cs fuel p,P.globalNamed n=some g∧(P.globals[g]?).map (·.type)=some t∧w.var? P n=some cs∧DataW.trod (fun _=>()) P w 0 (fun _=>true) false fuel t cs.toList=some (d,p)
 | [],_,_,i,n,d,h=>by grind
 | (n',d')::r,ps,⟨g,t,cs,fuel,p,q,h1,h2,h3,h4,_,_⟩,0,n,d,h=>by grind
 | (n',d')::r,ps,⟨g,t,cs,fuel,p,q,h1,h2,h3,h4,h5,_⟩,i+1,n,d,h=>laid_at h5 (by simpa using h)
def arrOk (P:Program) (g n:Nat) (k:IntKind):Bool :=
 match (P.globals[g]?).map (·.type) with
 | some t =>
  match P.underlying t with
  | some (.array m e) =>
   match P.underlying e with
   | some (.int k')=>Nat.beq m n&&Nat.beq (P.cellsOf e) 1&&(decide (k'=k)&&Nat.beq (P.cellsOf t) n)
   | _=>false
  | _=>false
 | none=>false
theorem arrOk_inv {P:Program} {g n:Nat} {k:IntKind} (h:arrOk P g n k=true):∃ t e,(P.globals[g]?).map (·.type)=some t∧P.underlying t=some (.array n e)∧P.underlying e=some (.int k)∧P.cellsOf e=1∧P.cellsOf t=n:=by
 unfold arrOk at h
 split at h
 ·rename_i t ht
  split at h
  ·rename_i m e hu
   split at h
   ·rename_i k' he
    simp only [Bool.and_eq_true,decide_eq_true_eq,Nat.beq_eq] at h
    grind
   grind
  grind
 grind
theorem glob_ints {P:Program} {w:World} {β:Book} {laid:List (String×DataW Unit)} (h:laidMetH P laid w) (hp:(laid.all fun x=>x.2.handleName?.isNone)=true) (i:Nat) (name:String) {g n:Nat}
  {k:IntKind} {F:Nat→Int} (hl:laid[i]? = some (name,.agg ((List.range n).map fun j=>.lit (.int k (F j))))) (hg:P.globalNamed name=some g) (ho:arrOk P g n k=true) (hn:0<n) (hb:β.free g):GlobAt β w g n fun j=>.int k (F j):=by
 obtain ⟨t,e,ht,hu,he,hc,hct⟩:=arrOk_inv ho
 rw [MakeChecks.laidMetH_plain _ _ _ hp] at h
 obtain ⟨ps,hv,_,_⟩:=h
 obtain ⟨g',t',cs,fuel,p,h1,h2,h3,h4⟩:=laid_at hv hl
 obtain rfl:=Option.some.inj (hg.symm.trans h1)
 obtain rfl:=Option.some.inj (ht.symm.trans h2)
 obtain ⟨xs,m,rfl,hx,hlen,hxl,hel⟩:=DataW.trod_array hu h4
 simp only [Prod.mk.injEq,DataW.agg.injEq] at hx
 obtain ⟨hx,_⟩:=hx
 have cell:∀ j,j<n→cs[j]? = some (.int k (F j)):=fun j hj=>by
  have hj':=hel j hj
  rw [hc,Nat.mul_one,List.getElem?_eq_getElem (by omega:j<xs.length)] at hj'
  obtain ⟨v,e1,e2,_⟩:=DataW.trod_int he hj'
  have e3:(xs.map (·.1))[j]? = some (.lit (.int k v)):=by grind
  rw [← hx] at e3
  simp only [List.getElem?_map,List.getElem?_range hj,Option.map_some,Option.some.injEq,DataW.lit.injEq,Lit.int.injEq,true_and] at e3
  subst e3
  have e4:(List.take 1 (List.drop j cs.toList))[0]? = some (.int k (F j)):=by grind
  grind
 have hsh:∃ el,w.shape? g=some (el,n):=by
  unfold World.var? at h3
  rw [hg] at h3
  have hsz:cs.size=n:=hlen.trans hct
  unfold World.shape?
  simp only [Option.bind_some] at h3
  split<;>simp_all
 refine ⟨?_,hsh⟩
 refine .ipt (fun j=>.int k (F j)) hn hb (fun j hj=>?_) (fun _ _=>rfl) (fun _ _=>.int) (fun _ _=>.int)
 grind [World.var?_cell]
end Go.Am
