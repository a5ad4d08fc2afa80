/- Part of the proof: MUO, MUP, Mrg0, MUQ, AJ6, Exd, AJ7, EnGlob. -/
import Derived.Test.YtcageinnelhonaaGreatDoorM7
import Derived.Test.YtcageinnelhonaaGreatDoorM3
import Derived.Test.YtcageinnelhonaaGreatDoorProg
import Derived.Test.YtcageinnelhonaaGreatDoorM4
import Derived.OpenShut
import Derived.FnData
import Derived.MakeChecks
namespace Go.Proofs.YtcageinnelhonaaGreatDoor.U
open Go.IntKind (wrap)
open Int (toNat)
open Go Go.Am Go.Sp
set_option maxRecDepth 100000
theorem zero7 {j:Nat} (h:j<7):AV.int .i64 (intOfAV (atL [AV.int .i64 0,AV.int .i64 0,AV.int .i64 0,AV.int .i64 0,AV.int .i64 0,AV.int .i64 0,AV.int .i64 0] j))=AV.int .i64 0:=by
 have:j=0∨j=1∨j=2∨j=3∨j=4∨j=5∨j=6:=by omega
 rcases this with rfl|rfl|rfl|rfl|rfl|rfl|rfl<;>rfl
theorem grow_c (n:Nat) (h0:0<n) (hn:n≤200000):Gives Tryz.prog gl0 104 [] [.nsl,.int .i64 n] (.osl 0 7 0 0) [some ⟨7,n,true,.fn fun _ _=>.int .i64 0⟩]:=by
 have hw:IntKind.wrap .i64 ((n:Int) - (IntKind.wrap .i64 (0 - 0)))=n:=by grind [wI]
 exact gz ow0 Tryz.func104 (by
  apply n_bd ((n:Int)<0)
  ·intro _
   apply n_no
   grind
  ·intro g0
   apply n_bd (wrap .i64 ((n:Int) - wrap .i64 ((0:Int) - 0))>0)
   ·intro g2
    apply n_req ((0:Int)≤0∧(0:Int)≤0)
    apply n_req ((0:Int)<wrap .i64 ((n:Int) - wrap .i64 ((0:Int) - 0))∧wrap .i64 ((n:Int) - wrap .i64 ((0:Int) - 0))*56≤140737488355328)
    apply n_req ((0:Int)≤0∧0≤(↑(toNat (wrap .i64 ((n:Int) - wrap .i64 ((0:Int) - 0)))):Int))
    exact n_outG (.osl 0 7 0 0) [some ⟨7,toNat (wrap .i64 ((n:Int) - wrap .i64 ((0:Int) - 0))),true,.fn fun i j=>Zi (intOfAV (atL [Zi 0,Zi 0,Zi 0,Zi 0,Zi 0,Zi 0,Zi 0] j))⟩] (by exact Ent.refl _) (by exact ⟨⟨rfl,by grind,rfl,fun i j _ hj=>Ent.of_eq (zero7 hj)⟩,trivial⟩)
   ·intro _
    refine n_old (.out (.nsl) [] (.osl 0 7 0 0) ([some ⟨7,n,true,.fn fun x x_1=>Zi 0⟩])) ?_
    grind)
theorem grow_z:Pure Tryz.prog gl0 104 [.nsl,.int .i64 0] .nsl:=by
 exact pz Tryz.func104 (by
  refine n_old (.ff (.ff (.out (.nsl) [] (.nsl) []))) ?_
  grind [k_ff,k_out,Ent.refl])
theorem gives_nil {P:Program} {gl:Globs} {F:FuncId} {args:List AV} {es:Nat} {R:Rep} (h:Am.Pure P gl F args .nsl):Gives P gl F [] args (.osl 0 es 0 0) [some ⟨es,0,true,R⟩]:=by
 refine ⟨h.1,fun β w vs hF hG hg ha=>(h.2 β w vs hF hG hg ha).mono fun e w' hh=>?_⟩
 obtain ⟨v,β',he,hk,hA,hr⟩:=hh
 have hn:∀ {q:Nat} {b n:Nat} {mu:Bool},(if q=0 then some Own.empty else none)=some (Own.lives b n mu)→False:=fun {q b n mu} e=>by grind
 refine ⟨v,⟨fun k=>if k=0 then some .empty else none,β'.F⟩,he,hk,⟨hA.F,fun k ob hk=>?_,fun k hk=>if_neg (by grind),fun i j b n n' mu mu' e1=>(hn e1).elim,fun k b n mu e1=>(hn e1).elim,fun k o e1=>by rw [hG.none k (Nat.zero_le _)] at e1;grind⟩,?_⟩
 ·match k,hk with
  | 0,hk=>cases hk;exact .inr ⟨rfl,rfl⟩
  | k+1,hk=>grind
 ·cases hr with
  | nsl=>exact .osl0 (by simp)
theorem grow_0:Gives Tryz.prog gl0 104 [] [.nsl,.int .i64 0] (.osl 0 7 0 0) [some ⟨7,0,true,.fn fun _ _=>.int .i64 0⟩]:=gives_nil grow_z
theorem grow_n (n:Nat) (hn:n≤200000):Gives Tryz.prog gl0 104 [] [.nsl,.int .i64 n] (.osl 0 7 0 0) [some ⟨7,n,true,.fn fun _ _=>.int .i64 0⟩]:=by grind [grow_0,grow_c]
def owC:FuncId→Option (List Bool):=fun f=>bif Nat.beq f 104 then some [false,false] else none
def catS (n:Nat) (f g:Nat→Sup) (i:Nat):Sup:=if i<n then f i else g (i - n)
def szC (n k x:Nat):Nat:=if x=0 then 0 else if x=1 then n else n+k
def rwC (n:Nat) (f g:Nat→Sup) (x i j:Nat):Int:=if x=0 then 0 else supI (catS n f g i) j
def lenC (n k x:Nat):Nat:=if x=0 then n else k
def pkC (f g:Nat→Sup) (x:Nat):Nat→Sup:=if x=0 then f else g
theorem szC_le (n k x:Nat) (hn:n≤100000) (hk:k≤100000):szC n k x≤200000∧lenC n k x≤100000:=by grind [szC,lenC]
theorem szC_s {n k x:Nat} (h:x<2):szC n k x+lenC n k x=szC n k (x+1):=by
 have:x=0∨x=1:=by omega
 rcases this with rfl|rfl<;>simp [szC,lenC]
theorem szC_2 {n k x:Nat} (h:2≤x):szC n k x=n+k:=by unfold szC;grind
theorem rwC_s {n k x i j:Nat} {f g:Nat→Sup} (h:x<2) (hi:i<szC n k x+lenC n k x):(bif i.blt (szC n k x) then rwC n f g x i j else supI (pkC f g x (i - szC n k x)) j)=rwC n f g (x+1) i j:=by
 have:x=0∨x=1:=by omega
 rcases this with rfl|rfl
 ·simp only [szC,if_true,lenC] at hi ⊢
  rw [blt_f (Nat.zero_le _)]
  show supI (f (i - 0)) j=supI (catS n f g i) j
  simp_all [catS]
 ·have e:szC n k 1=n:=rfl
  rw [e] at hi ⊢
  show _=supI (catS n f g i) j
  by_cases c:i<n
  ·rw [blt_t c];rfl
  ·rw [blt_f (by omega)]
   show supI (g (i - n)) j=_
   simp_all [catS,if_neg]
theorem concat_w (n k:Nat) (f g:Nat→Sup) (hn:n≤100000) (hk:k≤100000):Gives Tryz.prog gl0 45 [] [.isl 1 2 fun i _=>.isl 7 (lenC n k i) fun r j=>.int .i64 (supI (pkC f g i r) j)] (.osl 0 7 0 (n+k)) [some ⟨7,n+k,true,.row fun i=>(catS n f g i).cells⟩]:=by
 have hz:=fun x=>szC_le n k x hn hk
 have e0:=wI (n:=0+(n:Int)) (by omega) (by omega)
 have e1:=wI (n:=(n:Int)+(k:Int)) (by omega) (by omega)
 have c1:=fun x=>grow_n (szC n k x) (hz x).1
 exact gz owC Tryz.func45 (by
  apply n_loop ({ x:Nat // x≤2 }) [0,9,10,3,11] [] (fun x=>[.isl 1 2 fun i x=>.isl 7 (lenC n k i) fun r j=>Zi (supI (pkC f g i r) j),.isl 1 2 fun i x=>.isl 7 (lenC n k i) fun r j=>Zi (supI (pkC f g i r) j),Zi 2,Zi (↑(szC n k (x.1)):Int),Zi x.1]) (fun _=>[]) (fun x=>2 - x.1) (⟨0,Nat.zero_le 2⟩)
  intro x0
  try (have q0:=x0.2;dsimp only at q0)
  have hb:=hz x0.1;have e2:=wI (n:=(szC n k x0.1:Int)+(lenC n k x0.1:Int)) (by omega) (by omega);have e3:=fun h=>szC_s (n:=n) (k:=k) (x:=x0.1) h
  apply n_bd ((x0.1:Int)<2)
  ·intro g1
   apply n_req (0≤(x0.1:Int)∧(x0.1:Int)<2)
   apply n_bd (wrap .i64 ((↑(szC n k x0.1):Int)+(↑(lenC n k (toNat (x0.1:Int))):Int))<0)
   ·intro _
    apply n_no
    grind
   ·intro g3
    try simp only [Int.toNat_natCast] at g3
    exact n_againx [] (⟨x0.1+1,by omega⟩) [.isl 1 2 fun i x=>.isl 7 (lenC n k i) fun r j=>Zi (supI (pkC f g i r) j),.isl 1 2 fun i x=>.isl 7 (lenC n k i) fun r j=>Zi (supI (pkC f g i r) j),Zi 2,Zi (wrap .i64 ((↑(szC n k x0.1):Int)+(↑(lenC n k (toNat (x0.1:Int))):Int))),Zi (wrap .i64 ((x0.1:Int)+1))] [] (⟨Ent.refl _,Ent.refl _,Ent.refl _,Ent.of_eq (congrArg (AV.int _) (by grind)),inc_ent (by omega),trivial⟩) (trivial)
  ·intro g1
   apply n_gc (c1 (x0.1))
   apply n_loopx ({ x:Nat // x≤2 }) [25,26,6,27] [16] (fun x=>[.isl 1 2 fun i x=>.isl 7 (lenC n k i) fun r j=>Zi (supI (pkC f g i r) j),Zi 2,.osl 0 7 0 (szC n k (x.1)),Zi x.1]) (fun x=>[some ⟨7,bif Nat.beq (x.1) 0 then n+k else szC n k (x.1),true,.fn fun i j=>Zi (rwC n f g (x.1) i j)⟩]) (fun x=>2 - x.1) (⟨0,Nat.zero_le 2⟩) [.isl 1 2 fun i x=>.isl 7 (lenC n k i) fun r j=>Zi (supI (pkC f g i r) j),Zi 2,.osl 0 7 0 0,Zi 0] [some ⟨7,szC n k x0.1,true,.fn fun i j=>Zi 0⟩] (⟨.refl _,.refl _,.refl _,.refl _,trivial⟩) (by exact ⟨⟨rfl,by show szC n k x0.1=n+k;grind [szC_2],rfl,fun i j _ _=>Ent.refl _⟩,trivial⟩)
   intro x7
   try (have q7:=x7.2;dsimp only at q7)
   have hb7:=hz x7.1;have e7:=fun h=>szC_s (n:=n) (k:=k) (x:=x7.1) h
   apply n_bd ((x7.1:Int)<2)
   ·intro g8
    apply n_req (0≤(x7.1:Int)∧(x7.1:Int)<2)
    apply n_req ((szC n k x7.1+lenC n k (toNat (x7.1:Int)))*56≤140737488355328) (by grind)
    exact n_againx [49] (⟨x7.1+1,by omega⟩) [.isl 1 2 fun i x=>.isl 7 (lenC n k i) fun r j=>Zi (supI (pkC f g i r) j),Zi 2,.osl 0 7 0 (szC n k x7.1+lenC n k (toNat (x7.1:Int))),Zi (wrap .i64 ((x7.1:Int)+1))] [some ⟨7,szC n k x7.1+lenC n k (toNat (x7.1:Int)),true,.fn fun i j=>Zi (bif Nat.blt i (szC n k x7.1) then rwC n f g x7.1 i j else supI (pkC f g (toNat (x7.1:Int)) (i - szC n k x7.1)) j)⟩] (⟨Ent.refl _,Ent.refl _,Ent.of_eq (congrArg (AV.osl _ _ _) (by grind)),inc_ent (by omega),trivial⟩) (by exact ⟨⟨rfl,by simp only [Int.toNat_natCast];exact e7 (by omega),rfl,fun i j hi hj=>Ent.of_eq (congrArg (AV.int _) (by simp only [Int.toNat_natCast] at hi ⊢;grind [rwC_s]))⟩,trivial⟩)
   ·intro g8
    exact n_outG (.osl 0 7 0 (szC n k x7.1)) [some ⟨7,bif Nat.beq x7.1 0 then n+k else szC n k x7.1,true,.fn fun i j=>Zi (rwC n f g (x7.1) i j)⟩] (Ent.of_eq (congrArg (AV.osl _ _ _) (szC_2 (by omega)))) (⟨⟨rfl,by grind [Nat.beq,szC,szC_2],rfl,fun i j hi hj=>Ent.of_eq (by show AV.int .i64 (rwC n f g x7.1 i j)=_;unfold rwC;rw [if_neg (by omega)];exact supI_at _ hj)⟩,trivial⟩))
theorem concat_c (n k:Nat) (f g:Nat→Sup) (hn:n≤100000) (hk:k≤100000):Gives Tryz.prog gl0 45 [] [.isl 1 2 fun i j=>atL (List.getD [[supA n f],[supA k g]] i []) j] (.osl 0 7 0 (n+k)) [some ⟨7,n+k,true,.row fun i=>(catS n f g i).cells⟩] :=
 (concat_w n k f g hn hk).via ⟨Ent.islE fun i j hi hj=>by
  obtain rfl:j=0:=Nat.lt_one_iff.1 hj
  have hi:i=0∨i=1:=by omega
  rcases hi with rfl|rfl
  ·exact ⟨Ent.isl fun r j _ hj=>(supI_at _ hj).symm,.isl fun _ _ _ _=>.int⟩
  ·exact ⟨Ent.isl fun r j _ hj=>(supI_at _ hj).symm,.isl fun _ _ _ _=>.int⟩,trivial⟩
theorem lit_1 {os:List (Option Ob)}:Ent os (.isl 7 1 fun r k=>atL (List.getD [[.int .i64 0,.int .i64 0,.int .i64 1,.int .i64 5,.int .i64 0,.int .i64 0,.int .i64 0]] r []) k) (supA 1 fun _=>sA):=Ent.isl fun i j hi _=>by
 obtain rfl:i=0:=Nat.lt_one_iff.1 hi
 rfl
theorem lit_2 {os:List (Option Ob)}:Ent os (.isl 7 2 fun r k=>atL (List.getD [[.int .i64 0,.int .i64 0,.int .i64 1,.int .i64 3,.int .i64 2,.int .i64 0,.int .i64 0],[.int .i64 0,.int .i64 0,.int .i64 0,.int .i64 7,.int .i64 0,.int .i64 0,.int .i64 0]] r []) k) (supA 2 fB):=Ent.isl fun i j hi _=>by
 match i,hi with
 | 0,_=>rfl
 | 1,_=>rfl
theorem conc_v:Gives Tryz.prog gl0 45 [] [.isl 1 2 fun i j=>atL (List.getD [[.isl 7 1 fun r k=>atL (List.getD [[.int .i64 0,.int .i64 0,.int .i64 1,.int .i64 5,.int .i64 0,.int .i64 0,.int .i64 0]] r []) k],[.isl 7 2 fun r k=>atL (List.getD [[.int .i64 0,.int .i64 0,.int .i64 1,.int .i64 3,.int .i64 2,.int .i64 0,.int .i64 0],[.int .i64 0,.int .i64 0,.int .i64 0,.int .i64 7,.int .i64 0,.int .i64 0,.int .i64 0]] r []) k]] i []) j] (.osl 0 7 0 (1+2)) [some ⟨7,1+2,true,.row fun i=>(catS 1 (fun _=>sA) fB i).cells⟩] :=
 (concat_w 1 2 (fun _=>sA) fB (by decide) (by decide)).via ⟨Ent.islE fun i j hi hj=>by
  obtain rfl:j=0:=Nat.lt_one_iff.1 hj
  have hi:i=0∨i=1:=by omega
  rcases hi with rfl|rfl
  ·exact ⟨Ent.isl fun r j hr hj=>by
    obtain rfl:r=0:=Nat.lt_one_iff.1 hr
    exact (supI_at sA hj).symm,.isl fun _ _ _ _=>.int⟩
  ·exact ⟨Ent.isl fun r j hr hj=>by
    match r,hr with
    | 0,_=>exact (supI_at sB hj).symm
    | 1,_=>exact (supI_at sC hj).symm,.isl fun _ _ _ _=>.int⟩,trivial⟩
theorem conc_3:Gives Tryz.prog gl0 45 [] [.isl 1 2 fun i j=>atL (List.getD [[.isl 7 1 fun r k=>atL (List.getD [[.int .i64 0,.int .i64 0,.int .i64 1,.int .i64 5,.int .i64 0,.int .i64 0,.int .i64 0]] r []) k],[.isl 7 2 fun r k=>atL (List.getD [[.int .i64 0,.int .i64 0,.int .i64 1,.int .i64 3,.int .i64 2,.int .i64 0,.int .i64 0],[.int .i64 0,.int .i64 0,.int .i64 0,.int .i64 7,.int .i64 0,.int .i64 0,.int .i64 0]] r []) k]] i []) j] (.osl 0 7 0 3) [some ⟨7,3,true,.lst [[.int .i64 0,.int .i64 0,.int .i64 1,.int .i64 5,.int .i64 0,.int .i64 0,.int .i64 0],[.int .i64 0,.int .i64 0,.int .i64 1,.int .i64 3,.int .i64 2,.int .i64 0,.int .i64 0],[.int .i64 0,.int .i64 0,.int .i64 0,.int .i64 7,.int .i64 0,.int .i64 0,.int .i64 0]]⟩] :=
 conc_v.ent (Ent.refl _) ⟨lit3 rfl rfl rfl,trivial⟩
theorem stab_3:Gives Tryz.prog gl0 105 [⟨7,3,true,.lst [[.int .i64 0,.int .i64 0,.int .i64 1,.int .i64 5,.int .i64 0,.int .i64 0,.int .i64 0],[.int .i64 0,.int .i64 0,.int .i64 1,.int .i64 3,.int .i64 2,.int .i64 0,.int .i64 0],[.int .i64 0,.int .i64 0,.int .i64 0,.int .i64 7,.int .i64 0,.int .i64 0,.int .i64 0]]⟩] [.osl 0 7 0 3,.int .i64 3,.fn (.func 47) [] []] (.tup []) [some ⟨7,3,true,.lst [[.int .i64 0,.int .i64 0,.int .i64 0,.int .i64 7,.int .i64 0,.int .i64 0,.int .i64 0],[.int .i64 0,.int .i64 0,.int .i64 1,.int .i64 5,.int .i64 0,.int .i64 0,.int .i64 0],[.int .i64 0,.int .i64 0,.int .i64 1,.int .i64 3,.int .i64 2,.int .i64 0,.int .i64 0]]⟩]:=by
 exact gz (owT 3) Tryz.func105 (by
  apply n_ff
  apply n_gc (ins_3)
  apply n_ff
  exact n_org)
theorem ssort_3:Gives Tryz.prog gl0 46 [⟨7,3,true,.lst [[.int .i64 0,.int .i64 0,.int .i64 1,.int .i64 5,.int .i64 0,.int .i64 0,.int .i64 0],[.int .i64 0,.int .i64 0,.int .i64 1,.int .i64 3,.int .i64 2,.int .i64 0,.int .i64 0],[.int .i64 0,.int .i64 0,.int .i64 0,.int .i64 7,.int .i64 0,.int .i64 0,.int .i64 0]]⟩] [.osl 0 7 0 3,.fn (.func 47) [] []] (.tup []) [some ⟨7,3,true,.lst [[.int .i64 0,.int .i64 0,.int .i64 0,.int .i64 7,.int .i64 0,.int .i64 0,.int .i64 0],[.int .i64 0,.int .i64 0,.int .i64 1,.int .i64 5,.int .i64 0,.int .i64 0,.int .i64 0],[.int .i64 0,.int .i64 0,.int .i64 1,.int .i64 3,.int .i64 2,.int .i64 0,.int .i64 0]]⟩]:=by
 exact gz (owT 3) Tryz.func46 (by
  apply n_gc (stab_3)
  exact n_org)
end Go.Proofs.YtcageinnelhonaaGreatDoor.U

namespace Go.Sp
open Go.IntKind (wrap)
open Int (toNat)
open Go Go.Am
def wA (a b:Int):Int:=IntKind.wrap .i64 (a+b)
def addS (t s:Sup):Sup:=⟨t.bank,t.epoch,t.denom,wA t.issued s.issued,wA t.ret s.ret,wA t.dbl s.dbl,wA t.exp s.exp⟩
def stepM (O:List Sup) (s:Sup):List Sup:=if O.length=0∨cmpS O[O.length - 1]! s≠0 then O++[s] else O.set (O.length - 1) (addS O[O.length - 1]! s)
def mgF (D:Nat→Sup):Nat→List Sup
 | 0=>[]
 | x+1=>stepM (mgF D x) (D x)
theorem mg_le (D:Nat→Sup):∀ x,(mgF D x).length≤x
 | 0=>Nat.le_refl _
 | x+1=>by
  have:=mg_le D x
  rw [mgF,stepM]
  split
  ·simp;omega
  ·rw [List.length_set];omega
theorem step_new {O:List Sup} {s:Sup} (k:O.length=0∨cmpS O[O.length - 1]! s≠0):stepM O s=O++[s]:=if_pos k
theorem step_old {O:List Sup} {s:Sup} (k1:O.length≠0) (k2:cmpS O[O.length - 1]! s=0):stepM O s=O.set (O.length - 1) (addS O[O.length - 1]! s):=if_neg (by rintro (h|h);exact k1 h;exact h k2)
theorem get_set {O:List Sup} {v:Sup} {i r:Nat} (h:r<O.length):(O.set i v)[r]! = if r=i then v else O[r]! := by
 rw [List.getElem!_eq_getElem?_getD,List.getElem!_eq_getElem?_getD,List.getElem?_set]
 by_cases c:i=r
 ·rw [if_pos c,if_pos c.symm,if_pos (by omega)];rfl
 ·rw [if_neg c,if_neg (fun e=>c e.symm)]
end Go.Sp

namespace Go.Proofs.YtcageinnelhonaaGreatDoor.U
open Go.IntKind (wrap)
open Int (toNat)
open Go Go.Am Go.Sp
set_option maxRecDepth 100000
def dS:Nat→Sup:=fun i=>if i=0 then sC else if i=1 then sA else sB
def mS (x:Nat):List Sup:=mgF dS x
theorem mS_l (x:Nat):(mS x).length≤x:=mg_le _ x
theorem prop_1:Pure Tryz.prog gl0 44 [.isl 7 1 fun r k=>atL (List.getD [[.int .i64 0,.int .i64 0,.int .i64 1,.int .i64 5,.int .i64 0,.int .i64 0,.int .i64 0]] r []) k] (.bool true):=proper_1.via ⟨lit_1,trivial⟩
theorem prop_2:Pure Tryz.prog gl0 44 [.isl 7 2 fun r k=>atL (List.getD [[.int .i64 0,.int .i64 0,.int .i64 1,.int .i64 3,.int .i64 2,.int .i64 0,.int .i64 0],[.int .i64 0,.int .i64 0,.int .i64 0,.int .i64 7,.int .i64 0,.int .i64 0,.int .i64 0]] r []) k] (.bool true):=proper_2.via ⟨lit_2,trivial⟩
theorem ssort_d:Gives Tryz.prog gl0 46 [⟨7,3,true,.lst [[.int .i64 0,.int .i64 0,.int .i64 1,.int .i64 5,.int .i64 0,.int .i64 0,.int .i64 0],[.int .i64 0,.int .i64 0,.int .i64 1,.int .i64 3,.int .i64 2,.int .i64 0,.int .i64 0],[.int .i64 0,.int .i64 0,.int .i64 0,.int .i64 7,.int .i64 0,.int .i64 0,.int .i64 0]]⟩] [.osl 0 7 0 3,.fn (.func 47) [] []] (.tup []) [some ⟨7,3,true,.row fun i=>(dS i).cells⟩] :=
 ssort_3.ent (Ent.refl _) ⟨lit3 rfl rfl rfl,trivial⟩
def owQ:FuncId→Option (List Bool):=fun f=>bif Nat.beq f 45 then some [false] else bif Nat.beq f 46 then some [true,false] else bif Nat.beq f 40 then some [true] else bif Nat.beq f 999999999 then some (List.replicate 5 true) else bif Nat.beq f 999999998 then some [] else none
theorem ob_app {os:List (Option Ob)} {O O':List Sup} {s:Sup} (h:O'=O++[s]):ObEnt os ⟨7,O.length+1,true,.cat O.length (.row fun i=>(O[i]!).cells) (.lst [s.cells])⟩ ⟨7,O'.length,true,.row fun i=>(O'[i]!).cells⟩:=by
 subst h
 refine ObEnt.cat (by simp) (fun i j hi _=>Ent.of_eq ?_) (fun i j hi _=>Ent.of_eq ?_)
 ·show atL (O[i]!).cells j=atL ((O++[s])[i]!).cells j
  grind
 ·obtain rfl:i=0:=by omega
  show atL s.cells j=atL ((O++[s])[O.length+0]!).cells j
  simp
theorem ob_set {os:List (Option Ob)} {O O':List Sup} {s:Sup} {z:Nat} (hz:z<O.length) (h:O'=O.set z (addS O[z]! s)) :
  ObEnt os ⟨7,O.length,true,.row fun i=>[.int .i64 (O[i]!).bank,.int .i64 (O[i]!).epoch,.int .i64 (O[i]!).denom,.int .i64 (bif Nat.beq i z then IntKind.wrap .i64 ((O[z]!).issued+s.issued) else (O[i]!).issued),.int .i64 (bif Nat.beq i z then IntKind.wrap .i64 ((O[z]!).ret+s.ret) else (O[i]!).ret),.int .i64 (bif Nat.beq i z then IntKind.wrap .i64 ((O[z]!).dbl+s.dbl) else (O[i]!).dbl),.int .i64 (bif Nat.beq i z then IntKind.wrap .i64 ((O[z]!).exp+s.exp) else (O[i]!).exp)]⟩ ⟨7,O'.length,true,.row fun i=>(O'[i]!).cells⟩:=by
 subst h
 refine ⟨rfl,(List.length_set ..).symm,rfl,fun r c hr hc=>Ent.of_eq ?_⟩
 have hr:r<O.length:=hr
 show atL [_,_,_,_,_,_,_] c=atL ((O.set z (addS O[z]! s))[r]!).cells c
 rw [get_set hr]
 by_cases e:r=z
 ·subst e
  rw [if_pos rfl]
  simp only [Nat.beq_refl,cond_true]
  rfl
 ·rw [if_neg e]
  have:Nat.beq r z=false:=by grind [Nat.beq,absurd,Nat.eq_of_beq_eq_true]
  simp only [this,cond_false]
  rfl
theorem step_a {O:List Sup} {s:Sup} {z:Int} (hz:z=(O.length:Int) - 1) (g:(O.length:Int)=0∨¬cmpS O[z.toNat]! s=0):stepM O s=O++[s]:=step_new (by grind)
theorem step_b {O:List Sup} {s:Sup} {z:Int} (hz:z=(O.length:Int) - 1) (g:¬(O.length:Int)=0∧cmpS O[z.toNat]! s=0):stepM O s=O.set z.toNat (addS O[z.toNat]! s):=by grind [step_old]
theorem lit_d {os:List (Option Ob)}:Ent os (.isl 7 (mS 3).length fun i j=>atL ((mS 3)[i]!).cells j) (.isl 7 2 fun r k=>atL (List.getD [[.int .i64 0,.int .i64 0,.int .i64 0,.int .i64 7,.int .i64 0,.int .i64 0,.int .i64 0],[.int .i64 0,.int .i64 0,.int .i64 1,.int .i64 8,.int .i64 2,.int .i64 0,.int .i64 0]] r []) k):=Ent.islN rfl fun i j hi _=>by
 have hi:i<2:=hi
 match i,hi with
 | 0,_=>rfl
 | 1,_=>rfl
theorem lit_e {os:List (Option Ob)}:Ent os (.isl 7 2 fun r k=>atL (List.getD [[.int .i64 0,.int .i64 0,.int .i64 0,.int .i64 7,.int .i64 0,.int .i64 0,.int .i64 0],[.int .i64 0,.int .i64 0,.int .i64 1,.int .i64 8,.int .i64 2,.int .i64 0,.int .i64 0]] r []) k) (supA 2 fun i=>(mS 3)[i]!):=Ent.isl fun i j hi _=>by
 match i,hi with
 | 0,_=>rfl
 | 1,_=>rfl
theorem any_d:anyI (fun i => !validS (mS 3)[i]!) (mS 3).length=false:=by rfl
theorem merge_l:Pure Tryz.prog gl0 16 [.isl 7 1 fun r k=>atL (List.getD [[.int .i64 0,.int .i64 0,.int .i64 1,.int .i64 5,.int .i64 0,.int .i64 0,.int .i64 0]] r []) k,.isl 7 2 fun r k=>atL (List.getD [[.int .i64 0,.int .i64 0,.int .i64 1,.int .i64 3,.int .i64 2,.int .i64 0,.int .i64 0],[.int .i64 0,.int .i64 0,.int .i64 0,.int .i64 7,.int .i64 0,.int .i64 0,.int .i64 0]] r []) k] (.tup [.isl 7 2 fun r k=>atL (List.getD [[.int .i64 0,.int .i64 0,.int .i64 0,.int .i64 7,.int .i64 0,.int .i64 0,.int .i64 0],[.int .i64 0,.int .i64 0,.int .i64 1,.int .i64 8,.int .i64 2,.int .i64 0,.int .i64 0]] r []) k,.int .i64 0]):=by
 have c5:=fun (x:Nat) (hx:x≤3)=>containsS_w 48 (fun i=>(mS x)[i]!) (mS x).length (fun i => !validS (mS x)[i]!) (by grind [mS_l]) (fun i _=>not1_c _)
 exact pzo owQ Tryz.func16 (by
  apply n_sc (prop_1)
  apply n_sc (prop_2)
  apply n_ff
  apply n_gc (conc_3)
  apply n_gc (ssort_d)
  apply n_loopx ({ x:Nat // x≤3 }) [28,29,7,30] [104,1961] (fun x=>[.osl 0 7 0 3,Zi 3,.osl 1 7 0 (List.length (mS (x.1))),Zi x.1]) (fun x=>[some ⟨7,3,true,Rep.row fun i=>Sup.cells (dS i)⟩,some ⟨7,List.length (mS (x.1)),true,Rep.row fun i=>Sup.cells (mS (x.1))[i]!⟩]) (fun x=>3 - x.1) (⟨0,Nat.zero_le 3⟩) [.osl 0 7 0 3,Zi 3,.nsl,Zi 0] [some ⟨7,3,true,Rep.row fun i=>Sup.cells (dS i)⟩,some ⟨7,0,true,.ty (999999999:TypeId) (.lst [])⟩] (by repeat' (first|exact trivial|(first|exact Ent.refl _|exact inc_ent (by omega)|exact Ent.nil rfl|exact Ent.of_eq (congrArg (AV.osl _ _ _) (by rfl))|exact Ent.of_eq (congrArg (AV.int _) (by rfl)))|refine And.intro ?_ ?_)) (by repeat' (first|exact trivial|(first|exact ObEnt.refl _|exact ObEnt.junk|exact ObEnt.zero|exact ObEnt.push rfl rfl|exact ObEnt.pushRow rfl|exact ObEnt.len (by omega)|exact ObEnt.row (by repeat' (first|exact trivial|(first|exact Ent.refl _|exact inc_ent (by omega)|exact Ent.nil rfl|exact Ent.of_eq (congrArg (AV.osl _ _ _) (by rfl))|exact Ent.of_eq (congrArg (AV.int _) (by rfl)))|refine And.intro ?_ ?_)))|refine And.intro ?_ ?_))
  intro x5
  try (have q5:=x5.2;dsimp only at q5)
  have hl:=mS_l x5.1;have eL:=wI (n:=((mS x5.1).length:Int) - 1) (by omega) (by omega)
  apply n_bd ((x5.1:Int)<3)
  ·intro g6
   apply n_req (0≤(x5.1:Int)∧(x5.1:Int)<3)
   apply n_req ((((↑(List.length (mS (x5.1))):Int)==0)==false)=true→(0:Int)≤wrap .i64 ((↑(List.length (mS (x5.1))):Int) - 1)∧wrap .i64 ((↑(List.length (mS (x5.1))):Int) - 1)<(↑(List.length (mS (x5.1))):Int)) (fun hr=>by grind)
   apply n_scg (((↑(List.length (mS (x5.1))):Int)==0)==false) (fun h9=>compare_c ((mS (x5.1))[toNat (wrap .i64 ((↑(List.length (mS (x5.1))):Int) - (1:Int)))+(0:Nat)]!) (dS (toNat (↑(x5.1):Int)+0)))
   apply n_br ((↑(List.length (mS (x5.1))):Int)==0||cmpS (mS x5.1)[toNat (wrap .i64 ((↑(List.length (mS (x5.1))):Int) - 1))+0]! (dS (toNat (x5.1:Int)+0)) != 0)
   ·intro g10
    try simp only [Int.toNat_natCast] at g10
    apply n_req ((List.length (mS (x5.1))+1)*56≤140737488355328)
    refine n_old (.again (Again 0 (fun (x:{ x:Nat // x≤3 })=>mkSt [28,29,7,30] [.osl 0 7 0 3,Zi 3,.osl 1 7 0 (List.length (mS (x.1))),Zi x.1] [some ⟨7,3,true,Rep.row fun i=>Sup.cells (dS i)⟩,some ⟨7,List.length (mS (x.1)),true,Rep.row fun i=>Sup.cells (mS (x.1))[i]!⟩]) (fun (x:{ x:Nat // x≤3 })=>3 - x.1) x5) [28,29,7,30] [0,186] [.osl 0 7 0 3,Zi 3,.osl 1 7 0 (List.length (mS (x5.1))+1),Zi (wrap .i64 ((x5.1:Int)+1))] [some ⟨7,3,true,Rep.row fun i=>Sup.cells (dS i)⟩,some ⟨7,List.length (mS (x5.1))+1,true,Rep.cat (List.length (mS (x5.1))) (Rep.row fun i=>Sup.cells (mS (x5.1))[i]!) (.lst [Sup.cells (dS (toNat (↑(x5.1):Int)+0))])⟩]) ?_
    exact k_again (⟨x5.1+1,by omega⟩) (fun _ hs=>hs.le (⟨Ent.refl _,Ent.refl _,Ent.of_eq (congrArg (AV.osl _ _ _) (by have e:mS (x5.1+1)=_:=step_a eL g10;rw [e];simp;rfl)),inc_ent (by omega),trivial⟩) (⟨ObEnt.refl _,ob_app (step_a eL g10),trivial⟩)) (by grind)
   ·intro g10
    try simp only [Int.toNat_natCast] at g10
    apply n_gc (amounts_1 (dS (toNat (↑(x5.1):Int)+0)))
    apply n_req ((0:Int)≤wrap .i64 ((↑(List.length (mS (x5.1))):Int) - 1)∧wrap .i64 ((↑(List.length (mS (x5.1))):Int) - 1)<(↑(List.length (mS (x5.1))):Int))
    apply n_gc (amounts_c (List.length (mS (x5.1))) (toNat (wrap .i64 ((↑(List.length (mS (x5.1))):Int) - (1:Int)))+0) (by omega) (getElem! (mS (x5.1))))
    apply n_tt
    apply n_req ((0:Int)≤0∧(0:Int)<4)
    apply n_req ((0:Int)≤0∧(0:Int)<4)
    apply n_tt
    apply n_req ((0:Int)≤wrap .i64 ((0:Int)+1)∧wrap .i64 ((0:Int)+1)<4)
    apply n_req ((0:Int)≤wrap .i64 ((0:Int)+1)∧wrap .i64 ((0:Int)+1)<4)
    apply n_tt
    apply n_req ((0:Int)≤wrap .i64 (wrap .i64 ((0:Int)+1)+1)∧wrap .i64 (wrap .i64 ((0:Int)+1)+1)<4)
    apply n_req ((0:Int)≤wrap .i64 (wrap .i64 ((0:Int)+1)+1)∧wrap .i64 (wrap .i64 ((0:Int)+1)+1)<4)
    apply n_tt
    apply n_req ((0:Int)≤wrap .i64 (wrap .i64 (wrap .i64 ((0:Int)+1)+1)+1)∧wrap .i64 (wrap .i64 (wrap .i64 ((0:Int)+1)+1)+1)<4)
    apply n_req ((0:Int)≤wrap .i64 (wrap .i64 (wrap .i64 ((0:Int)+1)+1)+1)∧wrap .i64 (wrap .i64 (wrap .i64 ((0:Int)+1)+1)+1)<4)
    apply n_ff
    refine n_old (.again (Again 0 (fun (x:{ x:Nat // x≤3 })=>mkSt [28,29,7,30] [.osl 0 7 0 3,Zi 3,.osl 1 7 0 (List.length (mS (x.1))),Zi x.1] [some ⟨7,3,true,Rep.row fun i=>Sup.cells (dS i)⟩,some ⟨7,List.length (mS (x.1)),true,Rep.row fun i=>Sup.cells (mS (x.1))[i]!⟩]) (fun (x:{ x:Nat // x≤3 })=>3 - x.1) x5) [28,29,7,30] [0,1] [.osl 0 7 0 3,Zi 3,.osl 1 7 0 (List.length (mS (x5.1))),Zi (wrap .i64 ((x5.1:Int)+1))] [some ⟨7,3,true,Rep.row fun i=>Sup.cells (dS i)⟩,some ⟨7,List.length (mS (x5.1)),true,Rep.row fun i=>[Zi (Sup.bank (mS (x5.1))[i]!),Zi (Sup.epoch (mS (x5.1))[i]!),Zi (Sup.denom (mS (x5.1))[i]!),Zi (bif Nat.beq i (toNat (wrap .i64 ((↑(List.length (mS (x5.1))):Int) - 1))+0) then wrap .i64 ((mS (x5.1))[toNat (wrap .i64 ((↑(List.length (mS (x5.1))):Int) - 1))+0]!.4+(dS (toNat (↑(x5.1):Int)+0)).4) else (mS (x5.1))[i]!.4),Zi (bif Nat.beq i (toNat (wrap .i64 ((↑(List.length (mS (x5.1))):Int) - 1))+0) then wrap .i64 ((mS (x5.1))[toNat (wrap .i64 ((↑(List.length (mS (x5.1))):Int) - 1))+0]!.5+(dS (toNat (↑(x5.1):Int)+0)).5) else (mS (x5.1))[i]!.5),Zi (bif Nat.beq i (toNat (wrap .i64 ((↑(List.length (mS (x5.1))):Int) - 1))+0) then wrap .i64 ((mS (x5.1))[toNat (wrap .i64 ((↑(List.length (mS (x5.1))):Int) - 1))+0]!.6+(dS (toNat (↑(x5.1):Int)+0)).6) else (mS (x5.1))[i]!.6),Zi (bif Nat.beq i (toNat (wrap .i64 ((↑(List.length (mS (x5.1))):Int) - 1))+0) then wrap .i64 ((mS (x5.1))[toNat (wrap .i64 ((↑(List.length (mS (x5.1))):Int) - 1))+0]!.7+(dS (toNat (↑(x5.1):Int)+0)).7) else (mS (x5.1))[i]!.7)]⟩]) ?_
    exact k_again (⟨x5.1+1,by omega⟩) (fun _ hs=>hs.le (⟨Ent.refl _,Ent.refl _,Ent.of_eq (congrArg (AV.osl _ _ _) (by have e:mS (x5.1+1)=_:=step_b eL g10;rw [e];simp;rfl)),inc_ent (by omega),trivial⟩) (⟨ObEnt.refl _,ob_set (by omega) (step_b eL g10),trivial⟩)) (by grind)
  ·intro g6
   apply n_bd ((↑(List.length (mS (x5.1))):Int)>1000)
   ·intro _
    refine n_old (.out (.tup [.nsl,Zi 5]) [] (.tup [.isl 7 2 fun r k=>atL (List.getD [[Zi 0,Zi 0,Zi 0,Zi 7,Zi 0,Zi 0,Zi 0],[Zi 0,Zi 0,Zi 1,Zi 8,Zi 2,Zi 0,Zi 0]] r []) k,Zi 0]) []) ?_
    grind
   ·intro g30
    apply n_sc (c5 (x5.1) (by omega))
    apply n_br (anyI (fun i => !validS (mS x5.1)[i]!) (List.length (mS (x5.1))))
    ·intro g33
     exact n_no (by rw [show x5.1=3 by omega,any_d] at g33;grind)
    ·intro g33
     exact n_outx (.tup [.isl 7 (List.length (mS (x5.1))) fun r k=>atL (Sup.cells (mS (x5.1))[r+0]!) k,Zi 0]) (by rw [show x5.1=3 by omega];exact Ent.tup ⟨lit_d,Ent.refl _,trivial⟩))
theorem same_d:Pure Tryz.prog gl0 9 [.isl 7 2 fun r k=>atL (List.getD [[.int .i64 0,.int .i64 0,.int .i64 0,.int .i64 7,.int .i64 0,.int .i64 0,.int .i64 0],[.int .i64 0,.int .i64 0,.int .i64 1,.int .i64 8,.int .i64 2,.int .i64 0,.int .i64 0]] r []) k,.isl 7 2 fun r k=>atL (List.getD [[.int .i64 0,.int .i64 0,.int .i64 0,.int .i64 7,.int .i64 0,.int .i64 0,.int .i64 0],[.int .i64 0,.int .i64 0,.int .i64 1,.int .i64 8,.int .i64 2,.int .i64 0,.int .i64 0]] r []) k] (.bool true) :=
 (selfL_c 2 (fun i=>(mS 3)[i]!) (by decide)).via ⟨lit_e,lit_e,trivial⟩
theorem out_d:Pure Tryz.prog gl0 15 [.agg [.int .i64 0,.int .i64 0,.int .i64 0,.int .i64 8,.int .i64 4,.int .i64 0,.int .i64 0]] (.tup [.int .i64 4,.int .i64 0]):=outg_c ⟨0,0,0,8,4,0,0⟩
theorem awake_c:Pure Tryz.prog gl0 5 [] (.bool true):=by
 refine pure_sk (own:=ow0) Tryz.func5 (by rfl) mixed (by rfl)
  (let y0:List AV:=[Zi 0,Zi 0,Zi 0,Zi 7,Zi 0,Zi 0,Zi 0];let y1:List AV:=[Zi 0,Zi 0,Zi 1,Zi 8,Zi 2,Zi 0,Zi 0];(.sc true 15 [.agg [Zi 0,Zi 0,Zi 0,Zi 8,Zi 4,Zi 0,Zi 0]] (.tup [Zi 4,Zi 0]) (.dc true 16 [.isl 7 1 fun r k=>atL (List.getD [[Zi 0,Zi 0,Zi 1,Zi 5,Zi 0,Zi 0,Zi 0]] (r+0) []) k,.isl 7 2 fun r k=>atL (List.getD [[Zi 0,Zi 0,Zi 1,Zi 3,Zi 2,Zi 0,Zi 0],y0] (r+0) []) k] (.tup [.isl 7 2 fun r k=>atL (List.getD [y0,y1] r []) k,Zi 0]) (.sc true 9 [.isl 7 2 fun r k=>atL (List.getD [y0,y1] r []) k,.isl 7 2 fun r k=>atL (List.getD [y0,y1] (r+0) []) k] (.bool true) (.out (.bool true) [] (.bool true) [])))))
  (by kernel_rfl) ?_
 grind [k_sc,out_d,k_dc,merge_l,same_d,k_out,Ent.of_eq]
end Go.Proofs.YtcageinnelhonaaGreatDoor.U

namespace Go.Proofs.YtcageinnelhonaaGreatDoor
open Go.IntKind (wrap)
open Int (toNat)
open Go Go.Am Go.Sp
set_option maxRecDepth 100000
theorem pure_mono {P:Program} {gl gl':Globs} {f:FuncId} {args:List AV} {r:AV} (h:Am.Pure P gl f args r) (hs:∀ g m x,gl g=some (m,x)→gl' g=some (m,x)):Am.Pure P gl' f args r :=
 ⟨h.1,fun β w vs hF hG hg ha=>h.2 β w vs hF hG (fun g m x e=>hg g m x (hs g m x e)) ha⟩
theorem awake52_c:Pure Tryz.prog gl0 5 [] (.bool true):=pure_mono U.awake_c (fun _ _ _ h=>by cases h)
theorem outg52_c (s:Sup):Pure Tryz.prog gl0 15 [.agg s.cells] (.tup [.int .i64 (outV s),.int .i64 (outE s)]):=pure_mono (U.outg_c s) (fun _ _ _ h=>by cases h)
end Go.Proofs.YtcageinnelhonaaGreatDoor

namespace Go.Sp
open Go.IntKind (wrap)
open Int (toNat)
open Go Go.Am
variable {k : Bnk} {r : Nat → Int}
def Bnk.at (k:Bnk) (n:Int):Bnk:={ k with now:=n }
theorem bnk_at (h:bnkB k=true) {n:Int} (hn:0≤n∧n≤1099511627776):bnkB (k.at n)=true:=by
 have b:=bnkB_iff.1 h
 have hd:=hdK_iff.1 b.1
 exact bnkB_iff.2 ⟨hdK_iff.2 ⟨hd.1,hd.2.1,hd.2.2.1,hd.2.2.2.1,hd.2.2.2.2.1,hd.2.2.2.2.2.1,hn.1,hn.2⟩,b.2⟩
theorem CntOk.at {n:Int} (h:CntOk k r):CntOk (k.at n) r:=⟨h.lf,h.ng,h.nl,h.nu,h.ni,h.sp⟩
theorem sum_bd (h:CntOk k r):(0≤issS k r∧issS k r≤219902325555200)∧(0≤retS k r∧retS k r≤109951162777600)∧0≤dblS k r∧dblS k r≤1319413953331200 :=
 ⟨isS_le h.lf h.ni,ret_le h.lf h.nu,dbl_le h.lf h.ng fun i hi=>(h.nl i hi).1⟩
theorem exp_1 {n:Int} (g:r 10≤n):expS (k.at n) r=max 0 (issS k r - (dblS k r+retS k r)+dblS k r):=if_pos g
theorem exp_2 {n:Int} (g:¬r 10≤n):expS (k.at n) r=0:=if_neg g
theorem left_at {n:Int} (h:CntOk k r):leftS (cntS (k.at n) r)=issS k r - retS k r - expS (k.at n) r:=by
 have b:=sum_bd h
 have e:0≤expS (k.at n) r∧expS (k.at n) r≤219902325555200:=by grind [exp_1,exp_2]
 show IntKind.wrap .i64 (IntKind.wrap .i64 (IntKind.wrap .i64 (issS k r - (dblS k r+retS k r))+dblS k r) - expS (k.at n) r)=_
 grind [wI,issS,dblS,retS]
theorem exd_1 {n:Int} (h:CntOk k r) (g:r 10≤n) (g2:¬leftS (cntS (k.at n) r)<0):leftS (cntS (k.at n) r)=0:=by grind [left_at,exp_1]
theorem exd_2 {n:Int} (h:CntOk k r) (g:¬r 10≤n):leftS (cntS (k.at n) r)=issS k r - (dblS k r+retS k r)+dblS k r:=by grind [left_at,exp_2]
theorem go_rng {n:Int} (h:goE k n=0):0≤n∧n≤1099511627776:=by grind [goE]
theorem BnkOk.at {n:Int} (h:BnkOk k):BnkOk (k.at n):=⟨h.w,h.nr,h.ns,h.nc,h.nb,h.ne,h.nu,h.ni,h.ng,h.U,h.G⟩
theorem exd_all {n:Int} (v:validS (cntS (k.at n) r)=true) (h:CntOk k r) (g:¬outE (cntS (k.at n) r)=17):outE (cntS (k.at n) r)=0∧(r 10≤n→outV (cntS (k.at n) r)=0) ∧
  (¬r 10≤n→outV (cntS (k.at n) r)=IntKind.wrap .i64 (IntKind.wrap .i64 (issS k r - (dblS k r+retS k r))+dblS k r)):=by
 have b:=sum_bd h
 grind [leftS,cntS,absurd,outE_2,outE_3,outV_3,exd_1,exd_2,wI,issS,dblS,retS]
end Go.Sp

namespace Go.Proofs.YtcageinnelhonaaGreatDoor
open Go.IntKind (wrap)
open Int (toNat)
open Go Go.Am Go.Sp
set_option maxRecDepth 100000
theorem bgo_y (k:Bnk) (hk:BnkOk k) (n:Int) (h:goE k n=0):Pure Tryz.prog gl0 14 [.agg k.cells,.int .i64 n] (.tup [.agg (k.at n).cells,.int .i64 0]):=by
 have c:=bgo_c k hk n
 rwa [goV_y h] at c
theorem bgo_n (k:Bnk) (hk:BnkOk k) (n:Int) (h:¬goE k n=0):Pure Tryz.prog gl0 14 [.agg k.cells,.int .i64 n] (.tup [.agg zbk.cells,.int .i64 (goE k n)]):=by
 have c:=bgo_c k hk n
 rwa [goV_n rfl h] at c
theorem supplyExpires_t (k:Bnk) (now:Int) (hI:BnkIn k) (hb:bnkB k=true) (he:goE k now=0):Pure Tryz.prog gl0 4 [.agg k.cells,.int .i64 now] (.bool true):=by
 have hnr:=hI.nr
 have c0:=awake52_c
 have c1:=big_c k hI.nu hI.ng hI.nc
 have c2:=fun h=>rbval_c k (hI.bg h)
 rw [hb] at c2
 have c3:=fun h=>bgo_y k (hI.bg h) now he
 have c4:=fun h=>sCount_c k (hI.bg h) hb (fun i hi=>bg_cnt h hb hi)
 have c5:=fun h=>sCount_c (k.at now) (hI.bg h).at (bnk_at hb (go_rng he)) (fun i hi=>(bg_cnt h hb hi).at)
 have c6:=fun i=>outg52_c (cntS (k.at now) (k.R i))
 exact pz Tryz.func4 (by
  apply n_sc (c0)
  apply n_ff
  apply n_sc (c1)
  apply n_scg (bgK k==false) (fun h3=>c2 (by simpa using h3))
  apply n_br (bgK k||false)
  ·intro g4
   exact n_or
  ·intro g4
   apply n_dc (c3 (g4.1))
   apply n_ff
   apply n_dc (c4 (g4.1))
   apply n_dc (c5 (g4.1))
   apply n_br ((k.4:Int) != (k.4:Int)||(k.4:Int) != (k.4:Int))
   ·intro g10
    exact n_outx (.bool false) (Ent.of_eq (by simp_all))
   ·intro g10
    apply n_loop ({ x:Nat // x≤Bnk.nr k }) [1,2,7,9,16,25,65,66] [0] (fun x=>[Zi now,.own 0 50 0 0 50,.isl 7 k.4 fun i j=>atL (Sup.cells ((fun i=>cntS k (Bnk.R k i)) i)) j,.isl 7 k.4 fun i j=>atL (Sup.cells ((fun i=>cntS (Bnk.at k now) (Bnk.R (Bnk.at k now) i)) i)) j,.bool true,.tup [.agg (Zi k.1::(Bas.cells (Bnk.bas (Bnk.at k now))++Zi k.3::(.isl 11 k.4 fun i j=>Zi (k.5 i j))::(.isl 1 k.6 fun i x=>Zi (k.7 i))::(.isl 7 k.8 fun i j=>atL (Cus.cells (Bnk.C (Bnk.at k now) i)) j)::(.isl 1 k.10 fun i x=>Zi (k.11 i))::(.isl 4 k.12 fun i j=>Zi (k.13 i j))::(.isl 83 k.14 fun i j=>atL (Use.cells (Bnk.U (Bnk.at k now) i)) j)::(.isl 21 k.16 fun i j=>Zi (k.17 i j))::(.isl 161 k.18 fun i j=>atL (Gui.cells (Bnk.G (Bnk.at k now) i)) j)::(u8c k.20++[Zi k.21,Zi now]))),Zi 0],Zi k.4,Zi x.1]) (fun _=>[some ⟨50,1,true,.lst [Bnk.cells k]⟩]) (fun x=>Bnk.nr k - x.1) (⟨(0:Nat),Nat.zero_le (Bnk.nr k)⟩)
    intro x12
    try (have q12:=x12.2;dsimp only at q12)
    have hb2:=(bgH_iff.1 (bg_no g4.1).1).2.2.1
    apply n_bd ((x12.1:Int)<(k.4:Int))
    ·intro g13
     apply n_req (0≤(x12.1:Int)∧(x12.1:Int)<(k.4:Int))
     apply n_req (0≤(x12.1:Int)∧(x12.1:Int)<(k.4:Int))
     apply n_br (!(k.5 (toNat (x12.1:Int)) 0==k.5 (toNat (x12.1:Int)) 0&&(k.5 (toNat (x12.1:Int)) 1==k.5 (toNat (x12.1:Int)) 1&&(k.5 (toNat (x12.1:Int)) 2==k.5 (toNat (x12.1:Int)) 2&&(issS k (k.5 (toNat (x12.1:Int)))==issS (Bnk.at k now) (k.5 (toNat (x12.1:Int)))&&(dblS k (k.5 (toNat (x12.1:Int)))+retS k (k.5 (toNat (x12.1:Int)))==dblS (Bnk.at k now) (k.5 (toNat (x12.1:Int)))+retS (Bnk.at k now) (k.5 (toNat (x12.1:Int)))&&(dblS k (k.5 (toNat (x12.1:Int)))==dblS (Bnk.at k now) (k.5 (toNat (x12.1:Int)))&&((0:Int)==(0:Int)&&true))))))))
     ·intro g16
      try simp only [Int.toNat_natCast] at g16
      exact n_no (by rcases g16 with g|g|g|g|g|g|g|g<;>first|exact g rfl|exact g trivial|cases g)
     ·intro g16
      try simp only [Int.toNat_natCast] at g16
      apply n_req (0≤(x12.1:Int)∧(x12.1:Int)<(k.4:Int))
      apply n_sc (c6 (toNat (↑x12.1:Int)))
      apply n_br (outE (cntS (Bnk.at k now) (k.5 (toNat (x12.1:Int))))==(17:Int))
      ·intro g20
       try simp only [Int.toNat_natCast] at g20
       exact n_again [0] (⟨x12.1+1,by omega⟩) (ek2 (ek5 (en (inc_ent (by omega)))))
      ·intro g20
       try simp only [Int.toNat_natCast] at g20
       apply n_req (((outE (cntS (Bnk.at k now) (k.5 (toNat (x12.1:Int)))) != (0:Int))==false)=true→0≤(x12.1:Int)∧(x12.1:Int)<(k.4:Int)) (fun hr=>by have hr:=(cnd_eqf_t cnd_bne_f) hr;omega)
       apply n_req (((outE (cntS (Bnk.at k now) (k.5 (toNat (x12.1:Int)))) != (0:Int)||decide (k.5 (toNat (x12.1:Int)) 10≤now)&&outV (cntS (Bnk.at k now) (k.5 (toNat (x12.1:Int)))) != (0:Int))==false)=true→0≤(x12.1:Int)∧(x12.1:Int)<(k.4:Int)) (fun hr=>by have hr:=(cnd_eqf_t (cnd_or_f cnd_bne_f (cnd_and_f cnd_dec_f cnd_bne_f))) hr;omega)
       apply n_br (outE (cntS (Bnk.at k now) (k.5 (toNat (x12.1:Int)))) != (0:Int)||decide (k.5 (toNat (x12.1:Int)) 10≤now)&&outV (cntS (Bnk.at k now) (k.5 (toNat (x12.1:Int)))) != (0:Int)||decide (k.5 (toNat (x12.1:Int)) 10>now)&&outV (cntS (Bnk.at k now) (k.5 (toNat (x12.1:Int)))) != wrap .i64 (wrap .i64 (issS k (k.5 (toNat (x12.1:Int))) - (dblS k (k.5 (toNat (x12.1:Int)))+retS k (k.5 (toNat (x12.1:Int)))))+dblS k (k.5 (toNat (x12.1:Int)))))
       ·intro g24
        try simp only [Int.toNat_natCast] at g24
        exact n_no (by have e:=exd_all (bg_valid (k:=k.at now) (i:=x12.1) g4.1 (bnk_at hb (go_rng he)) (by show x12.1<k.nr;omega)) (bg_cnt g4.1 hb (by omega)) g20;rcases g24 with (g|⟨q1,q2⟩)|⟨q1,q2⟩;(· exact g e.1);(· exact q2 (e.2.1 q1));(· exact q2 (e.2.2 fun q=>by have q:k.R x12.1 10≤now:=q;omega)))
       ·intro g24
        try simp only [Int.toNat_natCast] at g24
        exact n_again [0] (⟨x12.1+1,by omega⟩) (ek2 (ek5 (en (inc_ent (by omega)))))
    ·intro g13
     exact n_or)
theorem supplyExpires_n (k:Bnk) (now:Int) (hI:BnkIn k) (hb:bnkB k=true) (he:¬goE k now=0):Pure Tryz.prog gl0 4 [.agg k.cells,.int .i64 now] (.bool true):=by
 have c0:=awake52_c
 have c1:=big_c k hI.nu hI.ng hI.nc
 have c2:=fun h=>rbval_c k (hI.bg h)
 rw [hb] at c2
 have c3:=fun h=>bgo_n k (hI.bg h) now he
 exact pz Tryz.func4 (by
  apply n_sc (c0)
  apply n_ff
  apply n_sc (c1)
  apply n_scg (bgK k==false) (fun h3=>c2 (by simpa using h3))
  apply n_br (bgK k||false)
  ·intro g4
   exact n_or
  ·intro g4
   apply n_dc (c3 (g4.1))
   apply n_br (goE k now != (0:Int))
   ·intro g7
    exact n_or
   ·intro g7
    apply n_no
    exact (show False from (by exfalso;omega)))
theorem supplyExpires_f (k:Bnk) (now:Int) (hI:BnkIn k) (hb:bnkB k=false):Pure Tryz.prog gl0 4 [.agg k.cells,.int .i64 now] (.bool true):=by
 have c0:=awake52_c
 have c1:=big_c k hI.nu hI.ng hI.nc
 have c2:=fun h=>rbval_c k (hI.bg h)
 rw [hb] at c2
 exact pz Tryz.func4 (by
  apply n_sc (c0)
  apply n_ff
  apply n_sc (c1)
  apply n_scg (bgK k==false) (fun h3=>c2 (by simpa using h3))
  apply n_br (bgK k||true)
  ·intro g4
   exact n_or
  ·intro g4
   apply n_no
   exact (show False from (by exact absurd g4.2 (by decide))))
theorem supplyExpires_c (k:Bnk) (now:Int) (hI:BnkIn k):Pure Tryz.prog gl0 4 [.agg k.cells,.int .i64 now] (.bool true):=by
 cases hb:bnkB k with
 | true =>
  by_cases he:goE k now=0
  ·exact supplyExpires_t k now hI hb he
  ·exact supplyExpires_n k now hI hb he
 | false=>exact supplyExpires_f k now hI hb
theorem supplyExpires_g (k n:Nat→AV) (hk:∀ (j:Nat) c,bankT[j]? = some c→CellOk c (k j)):Pure Tryz.prog gl0 4 [.agg (canonRow bankT k 0),.int .i64 (intOfAV (n 0))] (.bool true):=by
 rw [bank_cells]
 exact supplyExpires_c (bnkOf k) (intOfAV (n 0)) (bank_in hk)
end Go.Proofs.YtcageinnelhonaaGreatDoor

namespace Go.Am
open Go.IntKind (wrap)
open Int (toNat)
open Go
theorem laid_at {P:Program} {w:World}:∀ {laid:List (String×DataW Unit)} {ps:List MemPlace},DataW.LaidVars P w laid ps→∀ {i:Nat} {n:String} {d:DataW Unit},laid[i]? = some (n,d) →
  ∃ g t cs fuel p,P.globalNamed n=some g∧(P.globals[g]?).map (·.type)=some t∧w.var? P n=some cs∧DataW.trod (fun _=>()) P w 0 (fun _=>true) false fuel t cs.toList=some (d,p)
 | [],_,_,i,n,d,h=>by grind
 | (n',d')::r,ps,⟨g,t,cs,fuel,p,q,h1,h2,h3,h4,_,_⟩,0,n,d,h=>by grind
 | (n',d')::r,ps,⟨g,t,cs,fuel,p,q,h1,h2,h3,h4,h5,_⟩,i+1,n,d,h=>laid_at h5 (by simpa using h)
def arrOk (P:Program) (g n:Nat) (k:IntKind):Bool :=
 match (P.globals[g]?).map (·.type) with
 | some t =>
  match P.underlying t with
  | some (.array m e) =>
   match P.underlying e with
   | some (.int k')=>Nat.beq m n&&Nat.beq (P.cellsOf e) 1&&(decide (k'=k)&&Nat.beq (P.cellsOf t) n)
   | _=>false
  | _=>false
 | none=>false
theorem arrOk_inv {P:Program} {g n:Nat} {k:IntKind} (h:arrOk P g n k=true):∃ t e,(P.globals[g]?).map (·.type)=some t∧P.underlying t=some (.array n e)∧P.underlying e=some (.int k)∧P.cellsOf e=1∧P.cellsOf t=n:=by
 unfold arrOk at h
 split at h
 ·rename_i t ht
  split at h
  ·rename_i m e hu
   split at h
   ·rename_i k' he
    simp only [Bool.and_eq_true,decide_eq_true_eq,Nat.beq_eq] at h
    grind
   grind
  grind
 grind
theorem glob_ints {P:Program} {w:World} {β:Book} {laid:List (String×DataW Unit)} (h:laidMetH P laid w) (hp:(laid.all fun x=>x.2.handleName?.isNone)=true) (i:Nat) (name:String) {g n:Nat}
  {k:IntKind} {F:Nat→Int} (hl:laid[i]? = some (name,.agg ((List.range n).map fun j=>.lit (.int k (F j))))) (hg:P.globalNamed name=some g) (ho:arrOk P g n k=true) (hn:0<n) (hb:β.free g):GlobAt β w g n fun j=>.int k (F j):=by
 obtain ⟨t,e,ht,hu,he,hc,hct⟩:=arrOk_inv ho
 rw [MakeChecks.laidMetH_plain _ _ _ hp] at h
 obtain ⟨ps,hv,_,_⟩:=h
 obtain ⟨g',t',cs,fuel,p,h1,h2,h3,h4⟩:=laid_at hv hl
 obtain rfl:=Option.some.inj (hg.symm.trans h1)
 obtain rfl:=Option.some.inj (ht.symm.trans h2)
 obtain ⟨xs,m,rfl,hx,hlen,hxl,hel⟩:=DataW.trod_array hu h4
 simp only [Prod.mk.injEq,DataW.agg.injEq] at hx
 obtain ⟨hx,_⟩:=hx
 have cell:∀ j,j<n→cs[j]? = some (.int k (F j)):=fun j hj=>by
  have hj':=hel j hj
  rw [hc,Nat.mul_one,List.getElem?_eq_getElem (by omega:j<xs.length)] at hj'
  obtain ⟨v,e1,e2,_⟩:=DataW.trod_int he hj'
  have e3:(xs.map (·.1))[j]? = some (.lit (.int k v)):=by grind
  rw [← hx] at e3
  simp only [List.getElem?_map,List.getElem?_range hj,Option.map_some,Option.some.injEq,DataW.lit.injEq,Lit.int.injEq,true_and] at e3
  subst e3
  have e4:(List.take 1 (List.drop j cs.toList))[0]? = some (.int k (F j)):=by grind
  grind
 have hsh:∃ el,w.shape? g=some (el,n):=by
  unfold World.var? at h3
  rw [hg] at h3
  have hsz:cs.size=n:=hlen.trans hct
  unfold World.shape?
  simp only [Option.bind_some] at h3
  split<;>simp_all
 refine ⟨?_,hsh⟩
 refine .ipt (fun j=>.int k (F j)) hn hb (fun j hj=>?_) (fun _ _=>rfl) (fun _ _=>.int) (fun _ _=>.int)
 grind [World.var?_cell]
end Go.Am
