/- Part of the proof: Bnk6, AX25, AX26, Fnd, Same, Sup, Cnt, Bnk7, Bnk8, Cnt2, AJ1, AJ2, AJ3, SpOpen, SpOpenP, Args, Args3, Bnk9, Bnk10, ArgsB, Big, AJ5, AX27, AX28, AX31, EnForce, EnSet, EnSet2, MU1, MU2, MU3, SupM, MUM, EnRound2, Itv, MU4, MU5, MUL, MUN. -/
import Derived.Test.YtcageinnelhonaaGreatDoorM6
import Derived.Test.YtcageinnelhonaaGreatDoorM5
import Derived.Test.YtcageinnelhonaaGreatDoorProg
import Derived.Test.YtcageinnelhonaaGreatDoorM3
import Derived.Test.YtcageinnelhonaaGreatDoorM4
import Derived.Test.YtcageinnelhonaaGreatDoorM2
import Derived.DataShut
import Derived.RangeFuncNested
namespace Go.Sp
open Go.IntKind (wrap)
open Int (toNat)
open Go Go.Am
structure GuiOk (g : Gui) : Prop where
  sl : g.s.nl ≤ 1000
  tl : g.t.nl ≤ 1000
  sb : g.s.By
  tb : g.t.By
  sp : g.s.np ≤ 1000
  tp : g.t.np ≤ 1000
  sf : ∀ q, q < g.s.np → byB (g.s.pf q) 32
  tf : ∀ q, q < g.t.np → byB (g.t.pf q) 32
  lf : g.leaf ≤ 9223372036854775807
structure BnkOk (k : Bnk) : Prop where
  w : k.bas.gr.W
  nr : k.nr < 9223372036854775808
  ns : k.ns < 9223372036854775808
  nc : k.nc < 9223372036854775808
  nb : k.nb < 9223372036854775808
  ne : k.ne < 9223372036854775808
  nu : k.nu < 9223372036854775808
  ni : k.ni < 9223372036854775808
  ng : k.ng < 9223372036854775808
  U : UseOk k.nu k.U
  G : ∀ i, i < k.ng → GuiOk (k.G i)
variable {k : Bnk}
theorem bnkB_iff:bnkB k=true↔hdK k=true∧rcsB k=true∧cssB k=true∧ledB k.nb k.B k.ne k.E=true∧k.nb=5+k.nc∧sptB k.nu k.U=true∧issB k=true∧k.ng≤200∧∀ i,i<k.ng→okG k i=true:=by
 simp [bnkB,natb,and_assoc]
theorem hdK_iff:hdK k=true↔0≤k.num∧k.num≤7∧validB k.bas=true∧0≤k.cnt∧k.cnt≤1099511627776∧nzB k.bas k.sec=true∧0≤k.now∧k.now≤1099511627776:=by
 simp [hdK,and_assoc]
theorem bnk_hd (g:((((¬k.num≥0∨¬k.num≤7)∨validB k.bas=false)∨(¬k.cnt≥0∨¬k.cnt≤1099511627776))∨nzB k.bas k.sec=false)∨(¬k.now≥0∨¬k.now≤1099511627776)):bnkB k=false:=ff_of fun e=>by grind [hdK_iff,bnkB_iff]
theorem hd_t (g:((((k.num≥0∧k.num≤7)∧validB k.bas=true)∧(k.cnt≥0∧k.cnt≤1099511627776))∧nzB k.bas k.sec=true)∧(k.now≥0∧k.now≤1099511627776)):hdK k=true:=hdK_iff.2 (by grind)
theorem bnk_lst (g:(((((rcsB k=false∨cssB k=false)∨ledB k.nb k.B k.ne k.E=false)∨¬(k.nb:Int)=IntKind.wrap .i64 (5+(k.nc:Int)))∨sptB k.nu k.U=false)∨issB k=false)∨(k.ng:Int)>200):bnkB k=false:=ff_of fun e=>by grind [bnkB_iff,css_V,wI]
theorem bnk_fin (hd:hdK k=true) (g:(((((rcsB k=true∧cssB k=true)∧ledB k.nb k.B k.ne k.E=true)∧(k.nb:Int)=IntKind.wrap .i64 (5+(k.nc:Int)))∧sptB k.nu k.U=true)∧issB k=true)∧¬(k.ng:Int)>200):(!anyI (fun i => !okG k i) k.ng)=bnkB k:=by
 have e6:=(css_V g.1.1.1.1.1.2).1
 rw [wI (by omega) (by omega)] at g
 cases e:anyI (fun i => !okG k i) k.ng with
 | true =>
  obtain ⟨i,hi,h⟩:=anyQ_t e
  exact (ff_of fun f=>by grind [bnkB_iff]).symm
 | false =>
  grind [bnkB_iff,anyQ_f]
theorem bnk_true (hd:hdK k=true) (g:(((((rcsB k=true∧cssB k=true)∧ledB k.nb k.B k.ne k.E=true)∧(k.nb:Int)=IntKind.wrap .i64 (5+(k.nc:Int)))∧sptB k.nu k.U=true)∧issB k=true)∧¬(k.ng:Int)>200) (h:∀ i,i<k.ng→okG k i=true):bnkB k=true:=by grind [css_V,wI,bnkB_iff]
end Go.Sp

namespace Go.Proofs.YtcageinnelhonaaGreatDoor
open Go.IntKind (wrap)
open Int (toNat)
open Go Go.Am Go.Sp
set_option maxRecDepth 100000
theorem dval_c (s:Nat→Int) (c:Int):Pure Tryz.prog gl0 53 [.agg (u8c s++[.int .i64 c])] (.bool (decide (c≥0)&&decide (c≤1099511627776))):=by
 exact pz Tryz.func53 (by
  exact n_or)
theorem rdval_c (s:Nat→Int) (c:Int):Pure Tryz.prog gl0 28 [.agg (u8c s++[.int .i64 c])] (.bool (decide (c≥0)&&decide (c≤1099511627776))):=by
 exact pz Tryz.func28 (by
  exact n_or)
theorem bval1_c (k:Bnk) (i:Nat) (hw:k.bas.gr.W) (hn:k.nr≤1000) (hg:GuiOk (k.G i)):Pure Tryz.prog gl0 60 [.agg (k.G i).cells,.ipt 50 (atL k.cells)] (.bool (!okG k i)):=by
 have c1:=xverify_c k.bas k.R k.nr (k.G i).s (k.G i).t (k.G i).leaf hn hw hg.sl hg.tl hg.sb hg.tb (by have:=hg.sp;omega) (by have:=hg.tp;omega) hg.sf hg.tf
 exact pz Tryz.func60 (by
  apply n_sc (c1)
  exact n_or)
theorem idxG_c (k:Bnk) (hk:BnkOk k) (hn:k.nr≤1000):Pure Tryz.prog gl0 50 [guiA k.ng k.G,.fn (.func 60) [] [.ipt 50 (atL k.cells)]] (.int .i64 (firstI (fun i => !okG k i) k.ng 0)):=by
 have c1:=fun i (h:i<k.ng)=>bval1_c k i hk.w hn (hk.G i h)
 have hng:=hk.ng
 exact pz Tryz.func50 (by
  apply n_loop ({ x:Nat // x≤Bnk.ng k∧(fun i=>firstI (fun i => !okG k i) (Bnk.ng k) 0=firstI (fun i => !okG k i) (Bnk.ng k - i) i) x }) [0,1,7,8] [] (fun x=>[.isl 161 k.18 fun i j=>atL (Gui.cells (Bnk.G k i)) j,AV.fn (Fn.func (60:FuncId)) [] [AV.ipt 50 (atL (Bnk.cells k))],Zi k.18,Zi x.1]) (fun _=>[]) (fun x=>Bnk.ng k - x.1) (⟨0,⟨Nat.zero_le (Bnk.ng k),rfl⟩⟩)
  intro x0
  try (have q0:=x0.2;dsimp only at q0)
  apply n_bd ((x0.1:Int)<(k.18:Int))
  ·intro g1
   apply n_req (0≤(x0.1:Int)∧(x0.1:Int)<(k.18:Int))
   apply n_sc (c1 (toNat (↑(x0.1):Int)) (by omega))
   apply n_br (!okG k (toNat (x0.1:Int)))
   ·intro g4
    try simp only [Int.toNat_natCast] at g4
    exact n_out (Ent.of_eq (congrArg _ (first_hit x0.2.2 (by omega) (by grind))))
   ·intro g4
    try simp only [Int.toNat_natCast] at g4
    exact n_again [] (⟨x0.1+1,by omega,first_next x0.2.2 (by omega) (by grind)⟩) (ek3 (en (inc_ent (by omega))))
  ·intro g1
   exact n_out (Ent.of_eq (congrArg _ (first_miss x0.2.2 (by omega)))))
theorem conG_c (k:Bnk) (hk:BnkOk k) (hn:k.nr≤1000):Pure Tryz.prog gl0 20 [guiA k.ng k.G,.fn (.func 60) [] [.ipt 50 (atL k.cells)]] (.bool (anyI (fun i => !okG k i) k.ng)):=by
 exact pz Tryz.func20 (by
  apply n_sc ((idxG_c k hk hn))
  exact n_or)
theorem bval_c (k:Bnk) (hk:BnkOk k):Pure Tryz.prog gl0 24 [.agg k.cells] (.bool (bnkB k)):=by
 have c0:=bvalid_c k.bas hk.w
 have c1:=dval_c k.seed k.cnt
 have c2:=bsca_c k.bas k.sec
 have c3:=fun h=>bvrec_c k h hk.w hk.nr hk.ns
 have c4:=bvcus_c k hk.w hk.nc
 have c5:=lval_c k.nb k.B k.ne k.E hk.nb hk.ne
 have c6:=sval_c k.nu k.U hk.nu hk.U
 have c7:=fun h hr=>bviss_c k h hk.w hr hk.nc hk.ni
 have c8:=fun h=>conG_c k hk h
 have hnc:=hk.nc
 exact pz Tryz.func24 (by
  apply n_sc (bin_c (k.1) ((0:Int)) ((7:Int)))
  apply n_scg ((!(decide (k.1≥0)&&decide (k.1≤7)))==false) (fun h1=>c0)
  apply n_scg ((!(decide (k.1≥0)&&decide (k.1≤7)) || !validB k.2)==false) (fun h2=>c1)
  apply n_scg ((!(decide (k.1≥0)&&decide (k.1≤7)) || !validB k.2 || !(decide (k.21≥0)&&decide (k.21≤1099511627776)))==false) (fun h3=>c2)
  apply n_scg ((!(decide (k.1≥0)&&decide (k.1≤7)) || !validB k.2 || !(decide (k.21≥0)&&decide (k.21≤1099511627776)) || !nzB k.2 k.3)==false) (fun h4=>bin_c (k.22) ((0:Int)) ((1099511627776:Int)))
  apply n_br (!(decide (k.1≥0)&&decide (k.1≤7)) || !validB k.2 || !(decide (k.21≥0)&&decide (k.21≤1099511627776)) || !nzB k.2 k.3 || !(decide (k.22≥0)&&decide (k.22≤1099511627776)))
  ·intro g5
   exact n_out (Ent.of_eq (congrArg AV.bool (bnk_hd g5).symm))
  ·intro g5
   apply n_sc (c3 (validB_iff.1 g5.1.1.1.2))
   apply n_scg ((!rcsB k)==false) (fun h8=>c4)
   apply n_scg ((!rcsB k || !cssB k)==false) (fun h9=>c5)
   apply n_scg ((!rcsB k || !cssB k || !ledB k.10 k.11 k.12 k.13||(k.10:Int) != wrap .i64 ((5:Int)+(k.8:Int)))==false) (fun h10=>c6)
   apply n_scg ((!rcsB k || !cssB k || !ledB k.10 k.11 k.12 k.13||(k.10:Int) != wrap .i64 ((5:Int)+(k.8:Int)) || !sptB k.14 k.15)==false) (fun h11=>c7 (validB_iff.1 g5.1.1.1.2) (rcs_V (by grind)))
   apply n_br (!rcsB k || !cssB k || !ledB k.10 k.11 k.12 k.13||(k.10:Int) != wrap .i64 ((5:Int)+(k.8:Int)) || !sptB k.14 k.15 || !issB k||decide ((k.18:Int)>200))
   ·intro g12
    exact n_out (Ent.of_eq (congrArg AV.bool (bnk_lst g12).symm))
   ·intro g12
    apply n_sc (c8 (by have:=(rcs_V g12.1.1.1.1.1.1).hi;omega))
    exact n_out (Ent.of_eq (congrArg AV.bool (bnk_fin (hd_t g5) g12))))
theorem rbval_c (k:Bnk) (hk:BnkOk k):Pure Tryz.prog gl0 8 [.agg k.cells] (.bool (bnkB k)):=by
 have c0:=r11valid_c k.bas hk.w
 have c1:=rdval_c k.seed k.cnt
 have c2:=rsec_c k.bas k.sec
 have c3:=fun h=>rrecs_c k h hk.w hk.nr hk.ns
 have c4:=rcuss_c k hk.w hk.nc
 have c5:=rlval_c k.nb k.B k.ne k.E hk.nb hk.ne
 have c6:=rsval_c k.nu k.U hk.nu hk.U
 have c7:=fun h hr=>risss_c k h hk.w hr hk.nc hk.ni
 have c8:=fun i (h:i<k.ng) hn=>rxverify_c k.bas k.R k.nr (k.G i).s (k.G i).t (k.G i).leaf (hk.G i h).lf hn hk.w (hk.G i h).sl (hk.G i h).tl (hk.G i h).sb (hk.G i h).tb (by have:=(hk.G i h).sp;omega) (by have:=(hk.G i h).tp;omega) (hk.G i h).sf (hk.G i h).tf
 have hnc:=hk.nc
 exact pz Tryz.func8 (by
  apply n_sc (rbet_c (k.1) ((0:Int)) ((7:Int)))
  apply n_scg ((!(decide (k.1≥0)&&decide (k.1≤7)))==false) (fun h1=>c0)
  apply n_scg ((!(decide (k.1≥0)&&decide (k.1≤7)) || !validB k.2)==false) (fun h2=>c1)
  apply n_scg ((!(decide (k.1≥0)&&decide (k.1≤7)) || !validB k.2 || !(decide (k.21≥0)&&decide (k.21≤1099511627776)))==false) (fun h3=>c2)
  apply n_scg ((!(decide (k.1≥0)&&decide (k.1≤7)) || !validB k.2 || !(decide (k.21≥0)&&decide (k.21≤1099511627776)) || !nzB k.2 k.3)==false) (fun h4=>rbet_c (k.22) ((0:Int)) ((1099511627776:Int)))
  apply n_br (!(decide (k.1≥0)&&decide (k.1≤7)) || !validB k.2 || !(decide (k.21≥0)&&decide (k.21≤1099511627776)) || !nzB k.2 k.3 || !(decide (k.22≥0)&&decide (k.22≤1099511627776)))
  ·intro g5
   exact n_out (Ent.of_eq (congrArg AV.bool (bnk_hd g5).symm))
  ·intro g5
   apply n_sc (c3 (validB_iff.1 g5.1.1.1.2))
   apply n_scg ((!rcsB k)==false) (fun h8=>c4)
   apply n_scg ((!rcsB k || !cssB k)==false) (fun h9=>c5)
   apply n_scg ((!rcsB k || !cssB k || !ledB k.10 k.11 k.12 k.13||(k.10:Int) != wrap .i64 ((5:Int)+(k.8:Int)))==false) (fun h10=>c6)
   apply n_scg ((!rcsB k || !cssB k || !ledB k.10 k.11 k.12 k.13||(k.10:Int) != wrap .i64 ((5:Int)+(k.8:Int)) || !sptB k.14 k.15)==false) (fun h11=>c7 (validB_iff.1 g5.1.1.1.2) (rcs_V (by grind)))
   apply n_br (!rcsB k || !cssB k || !ledB k.10 k.11 k.12 k.13||(k.10:Int) != wrap .i64 ((5:Int)+(k.8:Int)) || !sptB k.14 k.15 || !issB k||decide ((k.18:Int)>200))
   ·intro g12
    exact n_out (Ent.of_eq (congrArg AV.bool (bnk_lst g12).symm))
   ·intro g12
    apply n_loop ({ x:Nat // x≤Bnk.ng k∧(fun (i:Nat)=>∀ (j:Nat),j<i→okG k j=true) x }) [1,3] [0] (fun x=>[.own 0 50 0 0 50,Zi x.1]) (fun _=>[some ⟨50,1,true,.lst [Bnk.cells k]⟩]) (fun x=>Bnk.ng k - x.1) (⟨0,⟨Nat.zero_le (Bnk.ng k),fun (j:Nat) (hj:j<0)=>absurd hj (Nat.not_lt_zero j)⟩⟩)
    intro x14
    try (have q14:=x14.2;dsimp only at q14)
    apply n_bd ((x14.1:Int)<(k.18:Int))
    ·intro g15
     apply n_req (0≤(x14.1:Int)∧(x14.1:Int)<(k.18:Int))
     apply n_sc (c8 (toNat (↑(x14.1):Int)) (by omega) (by have:=(rcs_V g12.1.1.1.1.1.1).hi;omega))
     apply n_br (!xvB k.2 k.5 k.4 (Bnk.G k (toNat (↑(x14.1):Int))).1 (Bnk.G k (toNat (↑(x14.1):Int))).2 (Bnk.G k (toNat (↑(x14.1):Int))).3)
     ·intro g18
      try simp only [Int.toNat_natCast] at g18
      exact n_out (Ent.of_eq (congrArg AV.bool (ff_of fun e=>by grind [bnkB_iff,okG]).symm))
     ·intro g18
      try simp only [Int.toNat_natCast] at g18
      exact n_again [0] (⟨x14.1+1,by omega,all_next x14.2.2 g18⟩) (ek (en (inc_ent (by omega))))
    ·intro g15
     exact n_out (Ent.of_eq (congrArg AV.bool (bnk_true (hd_t g5) g12 fun i hi=>x14.2.2 i (by omega)).symm)))
theorem kcN_n:Pure Tryz.prog gl0 90 [.nsl] .nsl:=by
 exact pz Tryz.func90 (by
  apply n_tt
  exact n_or)
theorem kcN_s (n:Nat) (f:Nat→Int) (hn:n≤100000):Pure Tryz.prog gl0 90 [.nn (numA n f)] (numA n f):=by
 exact pz Tryz.func90 (by
  apply n_ff
  apply n_req ((0+n)*8≤140737488355328)
  exact n_outx (.isl 1 (0+n) fun r k=>Zi (f (r+0))) (Ent.of_eq (by simp<;>rfl)))
theorem kcN_c (n:Nat) (f:Nat→Int) (hn:n≤100000):Pure Tryz.prog gl0 90 [numA n f] (numA n f) :=
 Gives.nilSplit [] [] 1 n _ (fun h=>by subst h;exact kcN_n.ent Ent.nsl) (kcN_s n _ hn)
theorem kcE_n:Pure Tryz.prog gl0 92 [.nsl] .nsl:=by
 exact pz Tryz.func92 (by
  apply n_tt
  exact n_or)
theorem kcE_s (n:Nat) (f:Nat→Nat→Int) (hn:n≤100000):Pure Tryz.prog gl0 92 [.nn (etyA n f)] (etyA n f):=by
 exact pz Tryz.func92 (by
  apply n_ff
  apply n_req ((0+n)*32≤140737488355328)
  exact n_outx (.isl 4 (0+n) fun r k=>Zi (f (r+0) k)) (Ent.of_eq (by simp<;>rfl)))
theorem kcE_c (n:Nat) (f:Nat→Nat→Int) (hn:n≤100000):Pure Tryz.prog gl0 92 [etyA n f] (etyA n f) :=
 Gives.nilSplit [] [] 4 n _ (fun h=>by subst h;exact kcE_n.ent Ent.nsl) (kcE_s n _ hn)
theorem kcI_n:Pure Tryz.prog gl0 91 [.nsl] .nsl:=by
 exact pz Tryz.func91 (by
  apply n_tt
  exact n_or)
theorem kcI_s (n:Nat) (f:Nat→Nat→Int) (hn:n≤100000):Pure Tryz.prog gl0 91 [.nn (issA n f)] (issA n f):=by
 exact pz Tryz.func91 (by
  apply n_ff
  apply n_req ((0+n)*168≤140737488355328)
  exact n_outx (.isl 21 (0+n) fun r k=>Zi (f (r+0) k)) (Ent.of_eq (by simp<;>rfl)))
theorem kcI_c (n:Nat) (f:Nat→Nat→Int) (hn:n≤100000):Pure Tryz.prog gl0 91 [issA n f] (issA n f) :=
 Gives.nilSplit [] [] 21 n _ (fun h=>by subst h;exact kcI_n.ent Ent.nsl) (kcI_s n _ hn)
theorem kcR_n:Pure Tryz.prog gl0 89 [.nsl] .nsl:=by
 exact pz Tryz.func89 (by
  apply n_tt
  exact n_or)
theorem kcR_s (n:Nat) (f:Nat→Nat→Int) (hn:n≤100000):Pure Tryz.prog gl0 89 [.nn (.isl 11 n fun i j=>.int .i64 (f i j))] (.isl 11 n fun i j=>.int .i64 (f i j)):=by
 exact pz Tryz.func89 (by
  apply n_ff
  apply n_req ((0+n)*88≤140737488355328)
  exact n_outx (.isl 11 (0+n) fun r k=>Zi (f (r+0) k)) (Ent.of_eq (by simp<;>rfl)))
theorem kcR_c (n:Nat) (f:Nat→Nat→Int) (hn:n≤100000):Pure Tryz.prog gl0 89 [.isl 11 n fun i j=>.int .i64 (f i j)] (.isl 11 n fun i j=>.int .i64 (f i j)) :=
 Gives.nilSplit [] [] 11 n _ (fun h=>by subst h;exact kcR_n.ent Ent.nsl) (kcR_s n _ hn)
theorem kcL_n:Pure Tryz.prog gl0 164 [.nsl] .nsl:=by
 exact pz Tryz.func164 (by
  apply n_tt
  exact n_or)
theorem kcL_s (n:Nat) (f:Nat→Nat→Int) (hn:n≤100000):Pure Tryz.prog gl0 164 [.nn (lvs n f)] (lvs n f):=by
 exact pz Tryz.func164 (by
  apply n_ff
  apply n_req ((0+n)*24≤140737488355328)
  exact n_outx (.isl 3 (0+n) fun r k=>Zi (f (r+0) k)) (Ent.of_eq (by simp<;>rfl)))
theorem kcL_c (n:Nat) (f:Nat→Nat→Int) (hn:n≤100000):Pure Tryz.prog gl0 164 [lvs n f] (lvs n f) :=
 Gives.nilSplit [] [] 3 n _ (fun h=>by subst h;exact kcL_n.ent Ent.nsl) (kcL_s n _ hn)
theorem kcH_n:Pure Tryz.prog gl0 165 [.nsl] .nsl:=by
 exact pz Tryz.func165 (by
  apply n_tt
  exact n_or)
theorem kcH_s (n:Nat) (f:Nat→Nat→Int) (hn:n≤100000):Pure Tryz.prog gl0 165 [.nn (hss n f)] (hss n f):=by
 exact pz Tryz.func165 (by
  apply n_ff
  apply n_req ((0+n)*32≤140737488355328)
  exact n_outx (.isl 32 (0+n) fun r k=>Zb (f (r+0) k)) (Ent.of_eq (by simp<;>rfl)))
theorem kcH_c (n:Nat) (f:Nat→Nat→Int) (hn:n≤100000):Pure Tryz.prog gl0 165 [hss n f] (hss n f) :=
 Gives.nilSplit [] [] 32 n _ (fun h=>by subst h;exact kcH_n.ent Ent.nsl) (kcH_s n _ hn)
theorem kcC_n:Gives Tryz.prog gl0 162 [] [.nsl] .nsl []:=by
 exact gz ow0 Tryz.func162 (by
  apply n_tt
  exact n_or)
theorem kcC_s (n:Nat) (f:Nat→Cus) (hn:n≤100000):Gives Tryz.prog gl0 162 [] [.nn (cusA n f)] (.osl 0 7 0 n) [some ⟨7,n,true,.row fun i=>(f i).cells⟩]:=by
 exact gz ow0 Tryz.func162 (by
  apply n_ff
  apply n_req ((0+n)*88≤140737488355328)
  exact n_outG (.osl 0 7 0 (0+n)) [some ⟨7,0+n,true,Rep.row fun i=>Cus.cells (f i)⟩] (Ent.of_eq (by simp)) (⟨⟨rfl,by simp,rfl,fun i j _ _=>Ent.of_eq (by simp<;>rfl)⟩,trivial⟩))
theorem kcC_c (n:Nat) (f:Nat→Cus) (hn:n≤100000):Gives Tryz.prog gl0 162 [] [cusA n f] (.osl 0 7 0 n) [some ⟨7,n,true,.row fun i=>(f i).cells⟩] :=
 Gives.nilSplit [] [] 7 n _ (fun h=>by subst h;exact kcC_n.nil 7 _) (kcC_s n _ hn)
theorem kcU_n:Gives Tryz.prog gl0 163 [] [.nsl] .nsl []:=by
 exact gz ow0 Tryz.func163 (by
  apply n_tt
  exact n_or)
theorem kcU_s (n:Nat) (f:Nat→Use) (hn:n≤100000):Gives Tryz.prog gl0 163 [] [.nn (useA n f)] (.osl 0 83 0 n) [some ⟨83,n,true,.row fun i=>(f i).cells⟩]:=by
 exact gz ow0 Tryz.func163 (by
  apply n_ff
  apply n_req ((0+n)*248≤140737488355328)
  exact n_outG (.osl 0 83 0 (0+n)) [some ⟨83,0+n,true,Rep.row fun i=>Use.cells (f i)⟩] (Ent.of_eq (by simp)) (⟨⟨rfl,by simp,rfl,fun i j _ _=>Ent.of_eq (by simp<;>rfl)⟩,trivial⟩))
theorem kcU_c (n:Nat) (f:Nat→Use) (hn:n≤100000):Gives Tryz.prog gl0 163 [] [useA n f] (.osl 0 83 0 n) [some ⟨83,n,true,.row fun i=>(f i).cells⟩] :=
 Gives.nilSplit [] [] 83 n _ (fun h=>by subst h;exact kcU_n.nil 83 _) (kcU_s n _ hn)
theorem kcG_n:Gives Tryz.prog gl0 166 [] [.nsl] .nsl []:=by
 exact gz ow0 Tryz.func166 (by
  apply n_tt
  exact n_or)
theorem kcG_s (n:Nat) (f:Nat→Gui) (hn:n≤100000):Gives Tryz.prog gl0 166 [] [.nn (guiA n f)] (.osl 0 161 0 n) [some ⟨161,n,true,.row fun i=>(f i).cells⟩]:=by
 exact gz ow0 Tryz.func166 (by
  apply n_ff
  apply n_req ((0+n)*456≤140737488355328)
  exact n_outG (.osl 0 161 0 (0+n)) [some ⟨161,0+n,true,Rep.row fun i=>Gui.cells (f i)⟩] (Ent.of_eq (by simp)) (⟨⟨rfl,by simp,rfl,fun i j _ _=>Ent.of_eq (by simp<;>rfl)⟩,trivial⟩))
theorem kcG_c (n:Nat) (f:Nat→Gui) (hn:n≤100000):Gives Tryz.prog gl0 166 [] [guiA n f] (.osl 0 161 0 n) [some ⟨161,n,true,.row fun i=>(f i).cells⟩] :=
 Gives.nilSplit [] [] 161 n _ (fun h=>by subst h;exact kcG_n.nil 161 _) (kcG_s n _ hn)
end Go.Proofs.YtcageinnelhonaaGreatDoor

namespace Go.Sp
open Go.IntKind (wrap)
open Int (toNat)
open Go Go.Am
def lowU (n:Nat) (U:Nat→Use) (t:Use):Nat:=(List.range n).findIdx fun i=>decide (0≤cmpW (U i) t)
def fdU (n:Nat) (U:Nat→Use) (a b:Int):Int:=firstI (fun i=>(U i).a==a&&(U i).b==b) n 0
variable {n : Nat} {U : Nat → Use} {t : Use}
theorem cmp_z {x y:Use}:cmpW x y=0↔x.a=y.a∧x.b=y.b:=by grind [cmpW,cmpV]
theorem low_le:lowU n U t≤n:=by grind [List.findIdx_le_length,decide,cmpW,List.range,lowU]
theorem low_lt {k:Nat} (h:k<lowU n U t):cmpW (U k) t<0:=by
 have hk:k<n:=Nat.lt_of_lt_of_le h low_le
 have:=List.not_of_lt_findIdx (p:=fun i=>decide (0≤cmpW (U i) t)) (xs:=List.range n) h
 grind
theorem low_at (h:lowU n U t<n):0≤cmpW (U (lowU n U t)) t:=by
 have:=List.findIdx_getElem (p:=fun i=>decide (0≤cmpW (U i) t)) (xs:=List.range n) (w:=by grind [lowU])
 grind [lowU]
theorem spt_adj (h:sptB n U=true) {i:Nat} (hi:i<n) (h0:i≠0):ltU (U (i - 1)) (U i)=true:=by
 simp only [sptB,Bool.and_eq_true,decide_eq_true_eq,List.all_eq_true,List.mem_range,Bool.or_eq_true] at h
 grind [absurd,Nat.eq_of_beq_eq_true]
theorem spt_lt (h:sptB n U=true) (i:Nat):∀ j,j<n→i<j→ltU (U i) (U j)=true
 | 0,_,hij=>absurd hij (Nat.not_lt_zero _)
 | j+1,hj,hij=>by
  have a:=ltU_iff.1 (spt_adj h hj (Nat.succ_ne_zero j))
  rw [Nat.add_sub_cancel] at a
  by_cases e:i=j
  ·subst e;exact ltU_iff.2 a
  ·have b:=ltU_iff.1 (spt_lt h i j (by omega) (by omega))
   exact ltU_iff.2 (by omega)
theorem low_ge (h:sptB n U=true) {k:Nat} (hk:k<n) (hl:lowU n U t≤k):¬cmpW (U k) t<0:=by
 have a:=low_at (n:=n) (U:=U) (t:=t) (by omega)
 by_cases e:lowU n U t=k
 ·grind
 ·have b:=ltU_iff.1 (spt_lt h _ k hk (Nat.lt_of_le_of_ne hl e))
  grind [cmpW,cmpV]
theorem low_up (h:sptB n U=true) {k:Nat} (hk:k<n) (g:cmpW (U k) t<0):k+1≤lowU n U t:=by
 apply Nat.lt_of_not_le
 exact fun e=>low_ge h hk e g
theorem low_dn {k:Nat} (g:¬cmpW (U k) t<0):lowU n U t≤k:=by
 apply Nat.le_of_not_lt
 exact fun e=>g (low_lt e)
theorem fd_y {a b:Int} (ha:t.a=a) (hb:t.b=b) (hl:lowU n U t<n) (hz:cmpW (U (lowU n U t)) t=0):fdU n U a b=(lowU n U t:Int):=by
 have z:=cmp_z.1 hz
 have key:∀ j,j<lowU n U t→((U j).a==a&&(U j).b==b)=false:=fun j hj=>by
  have:=low_lt hj
  cases e:((U j).a==a&&(U j).b==b) with
  | false=>rfl
  | true =>
   simp only [Bool.and_eq_true,beq_iff_eq] at e
   grind [cmp_z]
 have run:∀ i,i≤lowU n U t→firstI (fun i=>(U i).a==a&&(U i).b==b) n 0=firstI (fun i=>(U i).a==a&&(U i).b==b) (n - i) i:=by
  intro i
  induction i with
  | zero=>simp
  | succ i ih =>
   intro hi
   rw [ih (by omega),firstI_step (by omega),if_neg (by grind)]
 unfold fdU
 rw [run _ (Nat.le_refl _),firstI_step hl,if_pos (by grind)]
theorem fd_n (h:sptB n U=true) {a b:Int} (ha:t.a=a) (hb:t.b=b) (hl:lowU n U t<n→¬cmpW (U (lowU n U t)) t=0):fdU n U a b<0:=by
 have key:((List.range n).any fun i=>(U i).a==a&&(U i).b==b)=false:=by
  rw [List.any_eq_false]
  intro j hj e
  have hj:=List.mem_range.1 hj
  simp only [Bool.and_eq_true,beq_iff_eq] at e
  have z:=(cmp_z (x:=U j) (y:=t)).2 ⟨by omega,by omega⟩
  have l1:lowU n U t≤j:=low_dn (k:=j) (by omega)
  by_cases e2:lowU n U t=j
  ·grind
  ·have b':=ltU_iff.1 (spt_lt h (lowU n U t) j hj (by omega))
   have c:=low_at (n:=n) (U:=U) (t:=t) (by omega)
   grind [cmpW,cmpV]
 have:=firstI_neg (p:=fun i=>(U i).a==a&&(U i).b==b) n 0
 rw [show (fun q=>(fun i=>(U i).a==a&&(U i).b==b) (0+q))=fun i=>(U i).a==a&&(U i).b==b from by simp,key] at this
 grind [fdU,of_decide_eq_false]
theorem fd_lt {a b:Int} (h:0≤fdU n U a b):(fdU n U a b).toNat<n:=by
 have:=firstI_lt (p:=fun i=>(U i).a==a&&(U i).b==b) n 0
 grind [fdU]
def rowsE (f g:Nat→Nat→Int) (k n:Nat):Bool:=allI (fun i=>eqF (f i) (g i) k 0) n
def lstE (n m:Nat) (f g:Nat→Nat→Int) (k:Nat):Bool:=decide (n=m)&&rowsE f g k n
theorem lstE_n {n m:Nat} {f g:Nat→Nat→Int} {k:Nat} (h:¬(n:Int)=m):lstE n m f g k=false:=by
 unfold lstE;rw [decide_eq_false (by omega)];rfl
theorem lstE_f {n m:Nat} {f g:Nat→Nat→Int} {k i:Nat} (hi:i<n) (h:eqF (f i) (g i) k 0=false):lstE n m f g k=false:=by
 unfold lstE rowsE;rw [allI_f hi h];simp
theorem lstE_t {n m:Nat} {f g:Nat→Nat→Int} {k:Nat} (h:n=m) (h2:∀ i,i<n→eqF (f i) (g i) k 0=true):lstE n m f g k=true:=by
 unfold lstE rowsE;rw [allI_t h2,decide_eq_true h];rfl
theorem bnot_t {c:Bool} (h:(!c)=true):c=false:=by cases c<;>simp_all
theorem bnot_f {c:Bool} (h:(!c)=false):c=true:=by cases c<;>simp_all
def coinE (s t:Spend):Bool:=s.bank==t.bank&&(s.epoch==t.epoch&&(s.denom==t.denom&&(s.depth==t.depth&&(s.a==t.a&&(hEq s.root t.root&&((s.z==t.z&&(s.sa==t.sa&&(s.sb==t.sb&&(s.r==t.r&&true))))&&true))))))
def nodeE (s t:Spend):Bool:=s.level==t.level&&(s.index==t.index&&true)
def cxtE (s t:Spend):Bool:=hEq s.payee t.payee&&(s.time==t.time&&(s.number==t.number&&true))
def sameB (s t:Spend):Bool:=coinE s t&&nodeE s t&&cxtE s t&&lstE s.nl t.nl s.lf t.lf 3&&s.pidx==t.pidx&&lstE s.np t.np s.pf t.pf 32
end Go.Sp

namespace Go.Sp
open Go.IntKind (wrap)
open Int (toNat)
open Go Go.Am
structure Sup where
  bank : Int
  epoch : Int
  denom : Int
  issued : Int
  ret : Int
  dbl : Int
  exp : Int
deriving Inhabited
def Sup.cells (s:Sup):List AV:=[.int .i64 s.bank,.int .i64 s.epoch,.int .i64 s.denom,.int .i64 s.issued,.int .i64 s.ret,.int .i64 s.dbl,.int .i64 s.exp]
def I64 (n:Int):Prop := -9223372036854775808≤n∧n≤9223372036854775807
def Sup.R (s:Sup):Prop:=I64 s.bank∧I64 s.epoch∧I64 s.denom∧I64 s.issued∧I64 s.ret∧I64 s.dbl∧I64 s.exp
def amtB (n:Int):Bool:=decide (0≤n)&&decide (n≤4503599627370496)
def validS (s:Sup):Bool:=decide (0≤s.bank)&&decide (s.bank<8)&&decide (0≤s.epoch)&&decide (s.epoch≤1000000)&&decide (0≤s.denom)&&decide (s.denom≤16)&&amtB s.issued&&amtB s.ret&&amtB s.dbl&&amtB s.exp&&decide (s.dbl≤s.ret)
def cmpI (a b:Int):Int:=if a<b then -1 else if b<a then 1 else 0
def cmpS (a b:Sup):Int:=if cmpI a.bank b.bank≠0 then cmpI a.bank b.bank else if cmpI a.epoch b.epoch≠0 then cmpI a.epoch b.epoch else cmpI a.denom b.denom
def supA (n:Nat) (f:Nat→Sup):AV:=.isl 7 n fun i j=>atL (Sup.cells (f i)) j
def leftS (s:Sup):Int:=IntKind.wrap .i64 (IntKind.wrap .i64 (IntKind.wrap .i64 (s.issued - s.ret)+s.dbl) - s.exp)
end Go.Sp
namespace Go.Sp
open Go Go.Am
def eqS (a b:Sup):Bool:=a.bank==b.bank&&(a.epoch==b.epoch&&(a.denom==b.denom&&(a.issued==b.issued&&(a.ret==b.ret&&(a.dbl==b.dbl&&(a.exp==b.exp&&true))))))
def sameL (n m:Nat) (f g:Nat→Sup):Bool:=Nat.beq n m&&(List.range n).all fun i=>eqS (f i) (g i)
theorem same_len {n m:Nat} {f g:Nat→Sup} (h:¬(n:Int)=m):sameL n m f g=false:=by
 unfold sameL
 have:Nat.beq n m=false:=by
  cases e:Nat.beq n m with
  | false=>rfl
  | true=>exact absurd (congrArg _ (Nat.eq_of_beq_eq_true e)) h
 rw [this];rfl
theorem same_no {n m:Nat} {f g:Nat→Sup} {i:Nat} (hi:i<n) (h:eqS (f i) (g i)=false):sameL n m f g=false:=by
 unfold sameL
 have:((List.range n).all fun i=>eqS (f i) (g i))=false:=List.all_eq_false.2 ⟨i,List.mem_range.2 hi,by rw [h];decide⟩
 rw [this,Bool.and_false]
theorem same_yes {n m:Nat} {f g:Nat→Sup} (hn:(n:Int)=m) (h:∀ i,i<n→eqS (f i) (g i)=true):sameL n m f g=true:=by
 obtain rfl:n=m:=by omega
 unfold sameL
 rw [Nat.beq_refl,List.all_eq_true.2 fun i hi=>h i (List.mem_range.1 hi)];rfl
end Go.Sp

namespace Go.Sp
open Go.IntKind (wrap)
open Int (toNat)
open Go Go.Am
def sumI (f:Nat→Int):Nat→Int
 | 0=>0
 | n+1=>sumI f n+f n
def ofB (r:Nat→Int) (s:Spend):Bool:=r 0==s.bank&&r 1==s.epoch&&r 2==s.denom
def lfV (r:Nat→Int):Int:=(r 3).fdiv (2^min (r 4).toNat 64)
def hitI (k:Bnk) (g:Gui) (m:Nat):Int:=fdU k.nu k.U g.t.a (g.t.lf m 0)
def hitB (k:Bnk) (g:Gui) (m:Nat):Bool:=decide (0≤hitI k g m)&&sameB (k.U (hitI k g m).toNat).sp g.s
def hitV (k:Bnk) (r:Nat→Int) (g:Gui) (m:Nat):Int:=bif hitB k g m then lfV r else 0
def guiV (k:Bnk) (r:Nat→Int) (n:Nat):Int:=bif ofB r (k.G n).t then sumI (hitV k r (k.G n)) (k.G n).t.nl else 0
def useV (k:Bnk) (r:Nat→Int) (n:Nat):Int:=bif ofB r (k.U n).sp then lfV r else 0
def fisB (k:Bnk) (r:Nat→Int) (n:Nat):Bool:=k.I n 0==3&&eqR (fun j=>k.I n (3+j)) r
def issV (k:Bnk) (r:Nat→Int) (n:Nat):Int:=bif fisB k r n then r 3 else 0
def dblS (k:Bnk) (r:Nat→Int):Int:=sumI (guiV k r) k.ng
def retS (k:Bnk) (r:Nat→Int):Int:=sumI (useV k r) k.nu
def issS (k:Bnk) (r:Nat→Int):Int:=sumI (issV k r) k.ni
def expS (k:Bnk) (r:Nat→Int):Int:=if r 10≤k.now then max 0 (issS k r - (dblS k r+retS k r)+dblS k r) else 0
def cntS (k:Bnk) (r:Nat→Int):Sup:=⟨r 0,r 1,r 2,issS k r,dblS k r+retS k r,dblS k r,expS k r⟩
theorem sum_le {f:Nat→Int} {c:Int}:∀ n,(∀ i,i<n→0≤f i∧f i≤c)→0≤sumI f n∧sumI f n≤n*c
 | 0,_=>by simp [sumI]
 | n+1,h=>by
  have a:=sum_le n (fun i hi=>h i (by omega))
  have b:=h n (by omega)
  unfold sumI
  grind
def LfB (r:Nat→Int):Prop:=(0≤r 3∧r 3≤1099511627776)∧(0≤r 4∧r 4≤5)
theorem one_lf {r:Nat→Int} (h:oneB (r 3) (r 4)=true):LfB r:=by
 unfold oneB at h
 unfold LfB
 grind
theorem lf_le {r:Nat→Int} (h:LfB r):0≤lfV r∧lfV r≤1099511627776:=by
 unfold lfV
 have h2:(0:Int)<2^min (r 4).toNat 64:=by exact_mod_cast Nat.two_pow_pos _
 rw [Int.fdiv_eq_ediv_of_nonneg _ (Int.le_of_lt h2)]
 have a:=Int.ediv_nonneg h.1.1 (Int.le_of_lt h2)
 have b:=Int.ediv_le_self (2^min (r 4).toNat 64) h.1.1
 exact ⟨a,by have:=h.1.2;omega⟩
variable {k : Bnk} {r : Nat → Int}
theorem hit_le (h:LfB r) (g:Gui) (m:Nat):0≤hitV k r g m∧hitV k r g m≤1099511627776:=by
 have:=lf_le h
 grind [hitV,hitB]
theorem gui_le (h:LfB r) (n:Nat) (hn:(k.G n).t.nl≤40):0≤guiV k r n∧guiV k r n≤43980465111040:=by
 have:=sum_le (f:=hitV k r (k.G n)) (c:=1099511627776) (k.G n).t.nl (fun i _=>hit_le h _ _)
 grind [guiV,ofB]
theorem use_le (h:LfB r) (n:Nat):0≤useV k r n∧useV k r n≤1099511627776:=by
 have:=lf_le h
 grind [useV,ofB]
theorem iss_le (h:LfB r) (n:Nat):0≤issV k r n∧issV k r n≤1099511627776:=by
 have:=h.1
 grind [issV,fisB]
theorem dbl_le (h:LfB r) {n:Nat} (hn:n≤30) (hg:∀ i,i<n→(k.G i).t.nl≤40):0≤sumI (guiV k r) n∧sumI (guiV k r) n≤1319413953331200:=by
 have:=sum_le (f:=guiV k r) n (fun i hi=>gui_le h i (hg i hi))
 omega
theorem ret_le (h:LfB r) {n:Nat} (hn:n≤100):0≤sumI (useV k r) n∧sumI (useV k r) n≤109951162777600:=by
 have:=sum_le (f:=useV k r) n (fun i _=>use_le h i)
 omega
theorem isS_le (h:LfB r) {n:Nat} (hn:n≤200):0≤sumI (issV k r) n∧sumI (issV k r) n≤219902325555200:=by
 have:=sum_le (f:=issV k r) n (fun i _=>iss_le h i)
 omega
theorem valid_t {s:Sup} (h1:0≤s.bank∧s.bank<8) (h2:0≤s.epoch∧s.epoch≤1000000) (h3:0≤s.denom∧s.denom≤16) (h4:0≤s.issued∧s.issued≤4503599627370496) (h5:0≤s.ret∧s.ret≤4503599627370496)
  (h6:0≤s.dbl∧s.dbl≤4503599627370496) (h7:0≤s.exp∧s.exp≤4503599627370496) (h8:s.dbl≤s.ret):validS s=true:=by grind [validS,amtB]
theorem cnt_valid (h:LfB r) (h0:(0≤r 0∧r 0≤7)∧(0≤r 1∧r 1≤1000000)∧(0≤r 2∧r 2≤16)) (hg:k.ng≤30) (hl:∀ i,i<k.ng→(k.G i).t.nl≤40) (hu:k.nu≤100) (hi:k.ni≤200):validS (cntS k r)=true:=by
 have a:=dbl_le (k:=k) h hg hl
 have b:=ret_le (k:=k) h hu
 grind [isS_le,expS,issS,dblS,retS,valid_t,cntS,sumI,issV,guiV,useV]
variable {k : Bnk}
structure BnkS (k : Bnk) : Prop where
  nr : k.nr ≤ 1000
  ns : k.ns ≤ 1000
  nc : k.nc ≤ 1000
  nb : k.nb ≤ 1000
  ne : k.ne ≤ 1000
  nu : k.nu ≤ 100000
  ni : k.ni ≤ 1000
  ng : k.ng ≤ 1000
  C : ∀ i, i < k.nc → (k.C i).pf.na ≤ 1000 ∧ (k.C i).pf.nz ≤ 1000
  U : ∀ i, i < k.nu → (k.U i).sp.nl ≤ 1000 ∧ (k.U i).sp.np ≤ 1000
  G : ∀ i, i < k.ng → ((k.G i).s.nl ≤ 1000 ∧ (k.G i).s.np ≤ 1000) ∧ ((k.G i).t.nl ≤ 1000 ∧ (k.G i).t.np ≤ 1000)
theorem acc_n {b:Bas} {y:Int} {p:Pf} (h:accB b y p=true):p.na=1∧p.nz=1:=by
 unfold accB kvrB at h
 simp only [Bool.and_eq_true] at h
 have:=kck_V h.2.1
 exact ⟨this.na,this.nz⟩
theorem bnk_S (hk:BnkOk k) (h:bnkB k=true):BnkS k:=by
 obtain ⟨_,h2,h3,h4,h5,h6,h7,h8,_⟩:=bnkB_iff.1 h
 have r:=rcs_V h2
 have c:=css_V h3
 have l:=led_V h4
 have s1:k.nu≤2000:=by simp_all [sptB,Bool.and_eq_true,decide_eq_true_eq]
 have i1:k.ni≤200:=by simp_all [issB,Bool.and_eq_true,decide_eq_true_eq]
 refine ⟨by have:=r.hi;omega,by have:=r.hi;have:=r.ns;omega,by omega,by omega,l.len,by omega,by omega,by omega,fun i hi=>?_,fun i hi=>?_,fun i hi=>?_⟩
 ·grind [acc_n,okC_iff]
 ·simp only [sptB,Bool.and_eq_true,decide_eq_true_eq,List.all_eq_true,List.mem_range] at h6
  grind [sto_V,useB_iff]
 ·have g:=hk.G i hi
  exact ⟨⟨g.sl,g.sp⟩,g.tl,g.tp⟩
def Bnk.cw (k:Bnk) (c:AV):List AV:=bnkC k.num k.bas k.sec (.isl 11 k.nr fun i j=>.int .i64 (k.R i j)) (numA k.ns k.X) c (numA k.nb k.B) (etyA k.ne k.E) (useA k.nu k.U) (issA k.ni k.I) (guiA k.ng k.G) k.seed k.cnt k.now
def z0:Nat→Int:=fun _=>0
def zsp:Spend:=⟨0,0,0,0,0,z0,0,0,0,0,0,0,z0,0,0,0,fun _=>z0,0,0,fun _=>z0⟩
def zbk:Bnk:=⟨0,⟨⟨0,0,0⟩,0,0,0⟩,0,0,fun _=>z0,0,z0,0,fun _=>⟨0,⟨0,z0,0,0,z0⟩,0,false,0⟩,0,z0,0,fun _=>z0,0,fun _=>⟨0,0,zsp,0⟩,0,fun _=>z0,0,fun _=>⟨zsp,zsp,0⟩,z0,0,0⟩
variable {k : Bnk} {g : Gui}
def recC (r:Nat→Int):List AV:=[.int .i64 (r 0),.int .i64 (r 1),.int .i64 (r 2),.int .i64 (r 3),.int .i64 (r 4),.int .i64 (r 5),.int .i64 (r 6),.int .i64 (r 7),.int .i64 (r 8),.int .i64 (r 9),.int .i64 (r 10)]
def keyU (a b:Int):Use:=⟨a,b,zsp,0⟩
def zus:Use:=⟨0,0,zsp,0⟩
def fndU (n:Nat) (U:Nat→Use) (a b:Int):Use:=if 0≤fdU n U a b then U (fdU n U a b).toNat else zus
variable {n : Nat} {U : Nat → Use} {a b : Int}
theorem srch_f {i:Nat} (h:sptB n U=true) (hi:i=lowU n U (keyU a b)) (g:¬(i:Int)<n):decide (0≤fdU n U a b)=false :=
 decide_eq_false (by have:=fd_n (n:=n) (U:=U) (t:=keyU a b) (a:=a) (b:=b) h rfl rfl (fun hl=>absurd hl (by omega));omega)
theorem srch_g {i:Nat} (h:sptB n U=true) (hi:i=lowU n U (keyU a b)) (g:(i:Int)<n):(cmpW (U i) (keyU a b)==0)=decide (0≤fdU n U a b):=by
 subst hi
 by_cases z:cmpW (U (lowU n U (keyU a b))) (keyU a b)=0
 ·rw [beq_iff_eq.2 z,decide_eq_true (by have:=fd_y (n:=n) (U:=U) (t:=keyU a b) (a:=a) (b:=b) rfl rfl (by omega) z;omega)]
 ·rw [beq_eq_false_iff_ne.2 z,decide_eq_false (by have:=fd_n (n:=n) (U:=U) (t:=keyU a b) (a:=a) (b:=b) h rfl rfl (fun _=>z);omega)]
def srI (n:Nat) (U:Nat→Use) (a b:Int):Nat:=lowU n U (keyU a b)
theorem sr_b (h:sptB n U=true):(decide ((lowU n U (keyU a b):Int)<n)&&cmpW (U (lowU n U (keyU a b))) (keyU a b)==0)=decide (0≤fdU n U a b):=by
 by_cases g:(lowU n U (keyU a b):Int)<n
 ·rw [decide_eq_true g,Bool.true_and];exact srch_g h rfl g
 ·rw [decide_eq_false g,srch_f h rfl g];rfl
theorem sr_y (h:sptB n U=true) (g:decide (0≤fdU n U a b)=true):srI n U a b<n∧(srI n U a b:Int)=fdU n U a b:=by
 have g:=of_decide_eq_true g
 have hl:lowU n U (keyU a b)<n:=by
  apply Nat.lt_of_not_le
  intro hc
  have:=fd_n (n:=n) (U:=U) (t:=keyU a b) (a:=a) (b:=b) h rfl rfl (fun hl=>absurd hl (by omega))
  omega
 have z:cmpW (U (lowU n U (keyU a b))) (keyU a b)=0:=by
  by_cases z:cmpW (U (lowU n U (keyU a b))) (keyU a b)=0
  ·exact z
  ·have:=fd_n (n:=n) (U:=U) (t:=keyU a b) (a:=a) (b:=b) h rfl rfl (fun _=>z)
   omega
 exact ⟨hl,(fd_y (t:=keyU a b) rfl rfl hl z).symm⟩
theorem fnd_y (h:sptB n U=true) (g:decide (0≤fdU n U a b)=true):fndU n U a b=U (srI n U a b):=by
 have:=sr_y h g
 unfold fndU
 grind
theorem fnd_n (g:decide (0≤fdU n U a b)=false):fndU n U a b=zus:=if_neg (of_decide_eq_false g)
theorem fnd_le (h:∀ i,i<n→(U i).sp.nl≤1000∧(U i).sp.np≤1000):(fndU n U a b).sp.nl≤1000∧(fndU n U a b).sp.np≤1000:=by
 unfold fndU
 split
 ·grind [fd_lt]
 ·exact ⟨Nat.zero_le _,Nat.zero_le _⟩
theorem spt_s (h:sptB n U=true):∀ i,i<n→(U i).sp.nl≤1000∧(U i).sp.np≤1000:=fun i hi=>by
 simp only [sptB,Bool.and_eq_true,decide_eq_true_eq,List.all_eq_true,List.mem_range] at h
 grind [sto_V,useB_iff]
theorem spt_n (h:sptB n U=true):n≤2000:=by simp_all [sptB,Bool.and_eq_true,decide_eq_true_eq]
variable {k : Bnk} {r : Nat → Int} {g : Gui}
theorem hit_eq {m:Nat}:hitB k g m=(decide (0≤fdU k.nu k.U g.t.a (g.t.lf m 0))&&sameB (fndU k.nu k.U g.t.a (g.t.lf m 0)).sp g.s):=by
 unfold hitB hitI
 cases e:decide (0≤fdU k.nu k.U g.t.a (g.t.lf m 0))<;>simp_all [decide,fdU,fndU,of_decide_eq_true]
theorem gui_t {i:Nat} (h:ofB r (k.G i).t=true):sumI (guiV k r) (i+1)=sumI (guiV k r) i+sumI (hitV k r (k.G i)) (k.G i).t.nl:=by grind [sumI,guiV]
theorem gui_f {i:Nat} (h:ofB r (k.G i).t=false):sumI (guiV k r) (i+1)=sumI (guiV k r) i:=by simp_all [sumI,guiV,Int.add_zero]
theorem iss_t {i:Nat} (h:fisB k r i=true):sumI (issV k r) (i+1)=sumI (issV k r) i+r 3:=by grind [sumI,issV]
theorem iss_f {i:Nat} (h:fisB k r i=false):sumI (issV k r) (i+1)=sumI (issV k r) i:=by simp_all [sumI,issV,Int.add_zero]
structure CntOk (k : Bnk) (r : Nat → Int) : Prop where
  lf : LfB r
  ng : k.ng ≤ 30
  nl : ∀ i, i < k.ng → (k.G i).t.nl ≤ 40 ∧ (k.G i).s.nl ≤ 40 ∧ (k.G i).s.np ≤ 1000
  nu : k.nu ≤ 100
  ni : k.ni ≤ 200
  sp : sptB k.nu k.U = true
theorem mid_e {i j:Nat} (h:i<j) (hj:j≤100000):IntKind.wrap .i64 (Int.fdiv (IntKind.wrap .u64 (IntKind.wrap .i64 ((i:Int)+(j:Int)))) ((2:Int)^min (toNat 1) (IntKind.bits .u64)))=(((i+j) / 2:Nat):Int):=by
 rw [wI (n:=(i:Int)+j) (by omega) (by omega),show IntKind.wrap .u64 ((i:Int)+j)=(i:Int)+j from Int.emod_eq_of_lt (by omega) (by show (i:Int)+j<18446744073709551616;omega),show (2:Int)^min (toNat 1) (IntKind.bits .u64)=2 from rfl,Int.fdiv_eq_ediv_of_nonneg _ (by decide),wI (by omega) (by omega)]
 omega
theorem mid_f {i j:Nat} (h:i<j) (hj:j≤100000):IntKind.wrap .i64 (Int.fdiv (IntKind.wrap .u64 (IntKind.wrap .i64 ((i:Int)+(j:Int)))) ((2:Int)^1))=(((i+j) / 2:Nat):Int):=mid_e h hj
def zsC:List AV:=[.int .i64 0,.int .i64 0,.int .i64 0,.int .i64 0,.int .i64 0]++(u8c z0++([.int .i64 0,.int .i64 0,.int .i64 0,.int .i64 0,.int .i64 0,.int .i64 0]++(u8c z0++[.int .i64 0,.int .i64 0,.nsl,.int .i64 0,.nsl])))
def kyC (a b:Int):List AV:=[.int .i64 a,.int .i64 b]++(zsC++[.int .i64 0])
set_option maxRecDepth 10000 in
theorem key_ent {os:List (Option Ob)} {a b:Int}:Ent os (.agg (kyC a b)) (.agg (keyU a b).cells):=Ent.agg (by
 unfold kyC zsC
 repeat' (first|exact trivial|exact Ent.refl _|exact Ent.nsl|refine And.intro ?_ ?_))
def accI (a:Int) (f:Nat→Int):Nat→Int
 | 0=>a
 | n+1=>accI a f n+f n
theorem acc_eq (a:Int) (f:Nat→Int):∀ n,accI a f n=a+sumI f n
 | 0=>by simp [accI,sumI]
 | n+1=>by unfold accI sumI;rw [acc_eq a f n];omega
theorem hit_of {m:Nat} (q:0≤fdU k.nu k.U g.t.a (g.t.lf m 0)∧sameB (fndU k.nu k.U g.t.a (g.t.lf m 0)).sp g.s=true):hitB k g m=true:=by grind [hit_eq,decide_eq_true]
theorem hit_no {m:Nat} (q:¬0≤fdU k.nu k.U g.t.a (g.t.lf m 0)∨sameB (fndU k.nu k.U g.t.a (g.t.lf m 0)).sp g.s=false):hitB k g m=false:=by
 rw [hit_eq]
 grind
theorem hit_y {a:Int} {m:Nat} (hb:hitB k g m=true) (h:LfB r) (ha:0≤a∧a≤1319413953331200) (hm:m<40):IntKind.wrap .i64 (accI a (hitV k r g) m+lfV r)=accI a (hitV k r g) (m+1):=by
 have b:=sum_le (f:=hitV k r g) (c:=1099511627776) m (fun i _=>hit_le h _ _)
 have c:=lf_le h
 grind [acc_eq,hitV,wI,accI]
theorem hit_n {a:Int} {m:Nat} (hb:hitB k g m=false):accI a (hitV k r g) m=accI a (hitV k r g) (m+1):=by grind [accI,hitV]
theorem gui_y {x m:Nat} (hb:ofB r (k.G x).t=true) (hm:m=(k.G x).t.nl):accI (sumI (guiV k r) x) (hitV k r (k.G x)) m=sumI (guiV k r) (x+1):=by grind [acc_eq,gui_t]
theorem use_y {a:Int} {m:Nat} (hb:ofB r (k.U m).sp=true) (h:LfB r) (ha:0≤a∧a≤1319413953331200) (hm:m<100):IntKind.wrap .i64 (accI a (useV k r) m+lfV r)=accI a (useV k r) (m+1):=by
 have b:=sum_le (f:=useV k r) (c:=1099511627776) m (fun i _=>use_le h i)
 have c:=lf_le h
 grind [acc_eq,useV,wI,accI]
theorem use_n {a:Int} {m:Nat} (hb:ofB r (k.U m).sp=false):accI a (useV k r) m=accI a (useV k r) (m+1):=by grind [accI,useV]
theorem iss_y {m:Nat} (hb:fisB k r m=true) (h:LfB r) (hm:m<200):IntKind.wrap .i64 (sumI (issV k r) m+r 3)=sumI (issV k r) (m+1):=by
 have b:=sum_le (f:=issV k r) (c:=1099511627776) m (fun i _=>iss_le h i)
 have c:=h.1
 grind [wI,iss_t]
theorem fis_eq {n:Nat}:fisB k r n=true↔k.I n 0=3∧k.I n 3=r 0∧k.I n 4=r 1∧k.I n 5=r 2∧k.I n 6=r 3∧k.I n 7=r 4∧(k.I n 8=r 5∧k.I n 9=r 6∧k.I n 10=r 7)∧k.I n 11=r 8∧k.I n 12=r 9∧k.I n 13=r 10:=by simp [fisB,eqR,List.range_succ,and_assoc]
theorem max_e {x y:Int}:(if x>y then x else y)=max y x:=by omega
theorem cnt_o {x y z:Nat} {e:Int} (hx:x=k.ng) (hy:y=k.nu) (hz:z=k.ni) (he:e=expS k r):[AV.int .i64 (r 0),AV.int .i64 (r 1),AV.int .i64 (r 2),AV.int .i64 (sumI (issV k r) z),AV.int .i64 (accI (sumI (guiV k r) x) (useV k r) y),AV.int .i64 (sumI (guiV k r) x),AV.int .i64 e]=(cntS k r).cells:=by
 subst hx hy hz he
 rw [acc_eq];rfl
theorem exp_e {x y z:Nat} (h:CntOk k r) (hx:x=k.ng) (hy:y=k.nu) (hz:z=k.ni) (g:r 10≤k.now) :
  (if IntKind.wrap .i64 (IntKind.wrap .i64 (sumI (issV k r) z - accI (sumI (guiV k r) x) (useV k r) y)+sumI (guiV k r) x)>(0:Int) then IntKind.wrap .i64 (IntKind.wrap .i64 (sumI (issV k r) z - accI (sumI (guiV k r) x) (useV k r) y)+sumI (guiV k r) x) else (0:Int))=expS k r:=by
 subst hx hy hz
 have a:=dbl_le (k:=k) h.lf h.ng fun i hi=>(h.nl i hi).1
 have b:=ret_le (k:=k) h.lf h.nu
 have c:=isS_le (k:=k) h.lf h.ni
 rw [acc_eq,wI (n:=sumI (issV k r) k.ni - (sumI (guiV k r) k.ng+sumI (useV k r) k.nu)) (by omega) (by omega),wI (by omega) (by omega),max_e]
 unfold expS
 rw [if_pos g];rfl
end Go.Sp

namespace Go.Proofs.YtcageinnelhonaaGreatDoor
open Go.IntKind (wrap)
open Int (toNat)
open Go Go.Am Go.Sp
set_option maxRecDepth 100000
theorem copyU_c (u:Use) (h1:u.sp.nl≤1000) (h2:u.sp.np≤1000):Pure Tryz.prog gl0 128 [.agg u.cells] (.agg u.cells):=by
 have c1:=kcL_c u.sp.nl u.sp.lf (by omega)
 have c2:=kcH_c u.sp.np u.sp.pf (by omega)
 exact pz Tryz.func128 (by
  refine n_old (.dc true 164 [.isl 3 (Use.sp u).16 fun i j=>Zi ((Use.sp u).17 i j)] (lvs (Spend.nl (Use.sp u)) (Spend.lf (Use.sp u))) (.dc true 165 [.isl 32 (Use.sp u).19 fun i j=>Zb ((Use.sp u).20 i j)] (hss (Spend.np (Use.sp u)) (Spend.pf (Use.sp u))) (.out (.agg (Use.cells u)) [] (.agg (Use.cells u)) []))) ?_
  grind [k_dc,k_out,Ent.refl])
theorem bsf_c (n:Nat) (U:Nat→Use) (t:Use) (hn:n≤100000) (h:sptB n U=true):Pure Tryz.prog gl0 204 [useA n U,.agg t.cells,.fn (.func 119) [] []] (.tup [.int .i64 (lowU n U t),.bool (decide ((lowU n U t:Int)<n)&&cmpW (U (lowU n U t)) t==0)]):=by
 have c1:=fun x=>cmpU_c x t
 exact pz Tryz.func204 (by
  apply n_loop ({ x:Nat×Nat // (fun (s:Nat×Nat)=>Prod.fst s≤lowU n U t∧lowU n U t≤Prod.snd s∧Prod.snd s≤n) x }) [0,2,4,8,9,10] [0] (fun x=>[.isl 83 n fun i j=>atL (Use.cells (U i)) j,AV.fn (Fn.func (119:FuncId)) [] [],.own 0 83 0 0 83,Zi n,Zi (↑(Prod.fst (x.1)):Int),Zi (↑(Prod.snd (x.1)):Int)]) (fun _=>[some ⟨83,1,true,.lst [Use.cells t]⟩]) (fun x=>(fun (s:Nat×Nat)=>Prod.snd s - Prod.fst s) (x.1)) (⟨(0,n),⟨Nat.zero_le (lowU n U t),⟨low_le,Nat.le_refl (Prod.snd (0,n))⟩⟩⟩)
  intro x0
  try (have q0:=x0.2;dsimp only at q0)
  have e:=fun (hh:x0.1.1<x0.1.2)=>mid_e hh (show x0.1.2≤100000 by omega);have e1:=fun (hh:x0.1.1<x0.1.2)=>mid_f hh (show x0.1.2≤100000 by omega)
  apply n_bd ((↑(x0.1).1:Int)<(↑(x0.1).2:Int))
  ·intro g1
   apply n_req ((0:Int)≤wrap .i64 (Int.fdiv (wrap .u64 (wrap .i64 ((↑(x0.1).1:Int)+(↑(x0.1).2:Int)))) ((2:Int)^1))∧wrap .i64 (Int.fdiv (wrap .u64 (wrap .i64 ((↑(x0.1).1:Int)+(↑(x0.1).2:Int)))) ((2:Int)^1))<(n:Int))
   apply n_sc (c1 (U (toNat (wrap .i64 (Int.fdiv (wrap .u64 (wrap .i64 ((↑(Prod.fst (x0.1)):Int)+(↑(Prod.snd (x0.1)):Int)))) ((2:Int)^min (toNat (1:Int)) (IntKind.bits IntKind.u64)))))))
   apply n_bd (cmpW (U (toNat (wrap .i64 (Int.fdiv (wrap .u64 (wrap .i64 ((↑(x0.1).1:Int)+(↑(x0.1).2:Int)))) ((2:Int)^1))))) t<0)
   ·intro g4
    exact n_againx [0] (⟨((x0.1.1+x0.1.2) / 2+1,x0.1.2),by rw [e1 (by omega)] at g4;exact low_up h (by omega) g4,q0.2⟩) [.isl 83 n fun i j=>atL (Use.cells (U i)) j,AV.fn (Fn.func (119:FuncId)) [] [],.own 0 83 0 0 83,Zi n,Zi (wrap .i64 (wrap .i64 (Int.fdiv (wrap .u64 (wrap .i64 ((↑(x0.1).1:Int)+(↑(x0.1).2:Int)))) ((2:Int)^1))+1)),Zi (↑(x0.1).2:Int)] ([some ⟨83,1,true,.lst [Use.cells t]⟩]) (⟨Ent.refl _,Ent.refl _,Ent.refl _,Ent.refl _,Ent.of_eq (congrArg (AV.int _) (by grind [Nat,Int,wI])),Ent.refl _,trivial⟩) (⟨.refl _,trivial⟩)
   ·intro g4
    exact n_againx [0] (⟨(x0.1.1,(x0.1.1+x0.1.2) / 2),by rw [e1 (by omega)] at g4;exact ⟨q0.1,low_dn g4,by omega⟩⟩) [.isl 83 n fun i j=>atL (Use.cells (U i)) j,AV.fn (Fn.func (119:FuncId)) [] [],.own 0 83 0 0 83,Zi n,Zi (↑(x0.1).1:Int),Zi (wrap .i64 (Int.fdiv (wrap .u64 (wrap .i64 ((↑(x0.1).1:Int)+(↑(x0.1).2:Int)))) ((2:Int)^1)))] ([some ⟨83,1,true,.lst [Use.cells t]⟩]) (⟨Ent.refl _,Ent.refl _,Ent.refl _,Ent.refl _,Ent.refl _,Ent.of_eq (congrArg (AV.int _) (e1 (by omega))),trivial⟩) (⟨.refl _,trivial⟩) (by grind)
  ·intro g1
   apply n_req ((decide ((↑(x0.1).1:Int)<(n:Int))==true)=true→0≤(↑(x0.1).1:Int)∧(↑(x0.1).1:Int)<(n:Int)) (fun hr=>by grind)
   apply n_scg (decide ((↑(x0.1).1:Int)<(n:Int))==true) (fun h8=>c1 (U (toNat (↑(Prod.fst (x0.1)):Int))))
   refine n_old (.out (.tup [Zi (↑(x0.1).1:Int),.bool (decide ((↑(x0.1).1:Int)<(n:Int))&&cmpW (U (toNat (↑(x0.1).1:Int))) t==0)]) [] (.tup [Zi (↑(lowU n U t):Int),.bool (decide ((↑(lowU n U t):Int)<(n:Int))&&cmpW (U (lowU n U t)) t==0)]) []) ?_
   grind [k_out,Ent.of_eq,lowU])
theorem bsf_k (n:Nat) (U:Nat→Use) (a b:Int) (hn:n≤100000) (h:sptB n U=true):Pure Tryz.prog gl0 204 [useA n U,.agg (kyC a b),.fn (.func 119) [] []] (.tup [.int .i64 (srI n U a b),.bool (decide (0≤fdU n U a b))]):=by
 have c:=bsf_c n U (keyU a b) hn h
 rw [sr_b h] at c
 exact c.via ⟨Ent.refl _,key_ent,Ent.refl _,trivial⟩
theorem search_c (n:Nat) (U:Nat→Use) (a b:Int) (hn:n≤100000) (h:sptB n U=true):Pure Tryz.prog gl0 127 [useA n U,.int .i64 a,.int .i64 b] (.tup [.int .i64 (srI n U a b),.bool (decide (0≤fdU n U a b))]):=by
 have c1:=bsf_k n U a b hn h
 exact pz Tryz.func127 (by
  apply n_sc (c1)
  exact n_or)
theorem ufind_c (n:Nat) (U:Nat→Use) (a b:Int) (hU:UseOk n U) (h:sptB n U=true):Pure Tryz.prog gl0 63 [.agg [useA n U],.int .i64 a,.int .i64 b] (.tup [.agg (fndU n U a b).cells,.bool (decide (0≤fdU n U a b))]):=by
 have hn:=spt_n h
 have hs:=spt_s h
 have c1:=sval_c n U (by omega) hU
 rw [h] at c1
 have c2:=search_c n U a b (by omega) h
 have c3:=fun (i:Nat) (hi:i<n)=>copyU_c (U i) (hs i hi).1 (hs i hi).2
 exact pz Tryz.func63 (by
  apply n_sc (c1)
  apply n_ff
  apply n_sc (c2)
  apply n_br (!decide ((0:Int)≤fdU n U a b))
  ·intro g3
   exact n_outx (.tup [.agg [Zi 0,Zi 0,Zi 0,Zi 0,Zi 0,Zi 0,Zi 0,Zb 0,Zb 0,Zb 0,Zb 0,Zb 0,Zb 0,Zb 0,Zb 0,Zb 0,Zb 0,Zb 0,Zb 0,Zb 0,Zb 0,Zb 0,Zb 0,Zb 0,Zb 0,Zb 0,Zb 0,Zb 0,Zb 0,Zb 0,Zb 0,Zb 0,Zb 0,Zb 0,Zb 0,Zb 0,Zb 0,Zb 0,Zb 0,Zi 0,Zi 0,Zi 0,Zi 0,Zi 0,Zi 0,Zb 0,Zb 0,Zb 0,Zb 0,Zb 0,Zb 0,Zb 0,Zb 0,Zb 0,Zb 0,Zb 0,Zb 0,Zb 0,Zb 0,Zb 0,Zb 0,Zb 0,Zb 0,Zb 0,Zb 0,Zb 0,Zb 0,Zb 0,Zb 0,Zb 0,Zb 0,Zb 0,Zb 0,Zb 0,Zb 0,Zb 0,Zb 0,Zi 0,Zi 0,.nsl,Zi 0,.nsl,Zi 0],.bool false]) (by rw [fnd_n (decide_eq_false g3),decide_eq_false g3];exact Ent.tup ⟨key_ent (a:=0) (b:=0),Ent.refl _,trivial⟩)
  ·intro g3
   refine n_old (.req (0≤(↑(srI n U a b):Int)∧(↑(srI n U a b):Int)<(n:Int)) (.dc true 128 [.agg (Use.cells (U (toNat (↑(srI n U a b):Int))))] (.agg (Use.cells (U (toNat (↑(srI n U a b):Int))))) (.out (.tup [.agg (Use.cells (U (toNat (↑(srI n U a b):Int)))),.bool true]) [] (.tup [.agg (Use.cells (fndU n U a b)),.bool (decide ((0:Int)≤fdU n U a b))]) []))) ?_
   grind [k_req,sr_y,decide_eq_true,k_dc,toNat,srI,Int,k_out,fnd_y,Ent.refl])
theorem eqLf_c (n m:Nat) (f g:Nat→Nat→Int) (hn:n≤1000) (_:m≤1000):Pure Tryz.prog gl0 129 [lvs n f,lvs m g] (.bool (lstE n m f g 3)):=by
 exact pz Tryz.func129 (by
  apply n_br ((n:Int) != (m:Int))
  ·intro _
   refine n_old (.out (.bool false) [] (.bool (lstE n m f g 3)) []) ?_
   simp_all [k_out,Ent.of_eq,lstE_n]
  ·intro g0
   apply n_loop ({ x:Nat // x≤n∧(fun (x:Nat)=>∀ (i:Nat),i<x→eqF (f i) (g i) 3 0=true) x }) [0,1,12,13] [] (fun x=>[.isl 3 n fun i j=>Zi (f i j),.isl 3 m fun i j=>Zi (g i j),Zi n,Zi x.1]) (fun _=>[]) (fun x=>n - x.1) (⟨0,⟨Nat.zero_le n,fun (j:Nat) (hj:j<0)=>absurd hj (Nat.not_lt_zero j)⟩⟩)
   intro x2
   try (have q2:=x2.2;dsimp only at q2)
   apply n_bd ((x2.1:Int)<(n:Int))
   ·intro g3
    apply n_req (0≤(x2.1:Int)∧(x2.1:Int)<(n:Int))
    apply n_req (0≤(x2.1:Int)∧(x2.1:Int)<(m:Int))
    apply n_br0 (!(f (toNat (x2.1:Int)) 0==g (toNat (x2.1:Int)) 0&&(f (toNat (x2.1:Int)) 1==g (toNat (x2.1:Int)) 1&&(f (toNat (x2.1:Int)) 2==g (toNat (x2.1:Int)) 2&&true))))
    ·intro h6
     have g6:=(cnd_not_t (cnd_and_f cnd_beq_f (cnd_and_f cnd_beq_f (cnd_and_f cnd_beq_f cnd_id_f)))) h6
     try simp only [Int.toNat_natCast] at g6
     exact n_out (Ent.of_eq (congrArg _ (lstE_f (i:=x2.1) (by omega) (bnot_t (c:=eqF (f x2.1) (g x2.1) 3 0) h6)).symm))
    ·intro h6
     have g6:=(cnd_not_f (cnd_and_t cnd_beq_t (cnd_and_t cnd_beq_t (cnd_and_t cnd_beq_t cnd_id_t)))) h6
     try simp only [Int.toNat_natCast] at g6
     exact n_again [] (⟨x2.1+1,by omega,fun i hi=>by rcases Nat.lt_succ_iff_lt_or_eq.1 hi with hi|rfl;(· grind);(· exact bnot_f h6)⟩) (ek3 (en (inc_ent (by omega))))
   ·intro g3
    exact n_out (Ent.of_eq (congrArg _ (lstE_t (by omega) (fun i hi=>x2.2.2 i (by omega))).symm)))
theorem eqHs_c (n m:Nat) (f g:Nat→Nat→Int) (hn:n≤1000) (_:m≤1000):Pure Tryz.prog gl0 130 [hss n f,hss m g] (.bool (lstE n m f g 32)):=by
 refine pure_sk (own:=ow0) Tryz.func130 (by rfl) mixed (by rfl)
  (let z1:={ x:Nat // x≤n∧(fun (x:Nat)=>∀ (i:Nat),i<x→eqF (f i) (g i) 32 0=true) x };let y0:AV:=(.bool (lstE n m f g 32));(.br ((n:Int) != (m:Int)) (.out (.bool false) [] y0 []) (.loop (z1) (fun (x:z1)=>mkSt [0,1,12,13] [.isl 32 n fun i j=>Zb (f i j),.isl 32 m fun i j=>Zb (g i j),Zi n,Zi x.1] []) (fun (x:z1)=>n - x.1) (⟨0,⟨Nat.zero_le n,fun (j:Nat) (hj:j<0)=>absurd hj (Nat.not_lt_zero j)⟩⟩) [0,1,12,13] [] [.isl 32 n fun i j=>Zb (f i j),.isl 32 m fun i j=>Zb (g i j),Zi n,Zi 0] [] (fun x2=>let z0:Nat:=(toNat (x2.1:Int));(.br (decide ((x2.1:Int)<(n:Int))) (.req (0≤(x2.1:Int)∧(x2.1:Int)<(n:Int)) (.req (0≤(x2.1:Int)∧(x2.1:Int)<(m:Int)) (.br (!(f z0 0==g z0 0&&(f z0 1==g z0 1&&(f z0 2==g z0 2&&(f z0 3==g z0 3&&(f z0 4==g z0 4&&(f z0 5==g z0 5&&(f z0 6==g z0 6&&(f z0 7==g z0 7&&(f z0 8==g z0 8&&(f z0 9==g z0 9&&(f z0 10==g z0 10&&(f z0 11==g z0 11&&(f z0 12==g z0 12&&(f z0 13==g z0 13&&(f z0 14==g z0 14&&(f z0 15==g z0 15&&(f z0 16==g z0 16&&(f z0 17==g z0 17&&(f z0 18==g z0 18&&(f z0 19==g z0 19&&(f z0 20==g z0 20&&(f z0 21==g z0 21&&(f z0 22==g z0 22&&(f z0 23==g z0 23&&(f z0 24==g z0 24&&(f z0 25==g z0 25&&(f z0 26==g z0 26&&(f z0 27==g z0 27&&(f z0 28==g z0 28&&(f z0 29==g z0 29&&(f z0 30==g z0 30&&(f z0 31==g z0 31&&true))))))))))))))))))))))))))))))))) (.out (.bool false) [] y0 []) (.again (Again 0 (fun (x:z1)=>mkSt [0,1,12,13] [.isl 32 n fun i j=>Zb (f i j),.isl 32 m fun i j=>Zb (g i j),Zi n,Zi x.1] []) (fun (x:z1)=>n - x.1) x2) [0,1,12,13] [] [.isl 32 n fun i j=>Zb (f i j),.isl 32 m fun i j=>Zb (g i j),Zi n,Zi (wrap .i64 ((x2.1:Int)+1))] [])))) (.out (.bool true) [] y0 []))))))
  (by kernel_rfl) ?_
 refine k_br (fun h0=>?_) (fun h0=>?_)
 ·simp_all [k_out,Ent.of_eq,lstE_n]
 ·have g0:=cnd_bne_f h0
  refine k_loop (fun _ hs=>hs.le (⟨.refl _,.refl _,.refl _,.refl _,trivial⟩) (trivial)) (fun x2=>?_)
  try (have q2:=x2.2;dsimp only at q2)
  refine k_br (fun h3=>?_) (fun h3=>?_)
  ·have g3:=cnd_dec_t h3
   refine k_req (by omega) ?_
   refine k_req (by omega) ?_
   refine k_br (fun h6=>?_) (fun h6=>?_)
   ·have g6:=(cnd_not_t (cnd_and_f cnd_beq_f (cnd_and_f cnd_beq_f (cnd_and_f cnd_beq_f (cnd_and_f cnd_beq_f (cnd_and_f cnd_beq_f (cnd_and_f cnd_beq_f (cnd_and_f cnd_beq_f (cnd_and_f cnd_beq_f (cnd_and_f cnd_beq_f (cnd_and_f cnd_beq_f (cnd_and_f cnd_beq_f (cnd_and_f cnd_beq_f (cnd_and_f cnd_beq_f (cnd_and_f cnd_beq_f (cnd_and_f cnd_beq_f (cnd_and_f cnd_beq_f (cnd_and_f cnd_beq_f (cnd_and_f cnd_beq_f (cnd_and_f cnd_beq_f (cnd_and_f cnd_beq_f (cnd_and_f cnd_beq_f (cnd_and_f cnd_beq_f (cnd_and_f cnd_beq_f (cnd_and_f cnd_beq_f (cnd_and_f cnd_beq_f (cnd_and_f cnd_beq_f (cnd_and_f cnd_beq_f (cnd_and_f cnd_beq_f (cnd_and_f cnd_beq_f (cnd_and_f cnd_beq_f (cnd_and_f cnd_beq_f (cnd_and_f cnd_beq_f cnd_id_f))))))))))))))))))))))))))))))))) h6
    try simp only [Int.toNat_natCast] at g6
    exact k_out (Ent.of_eq (congrArg _ (lstE_f (i:=x2.1) (by omega) (bnot_t ((congrArg not (by rfl)).trans h6))).symm))
   ·have g6:=(cnd_not_f (cnd_and_t cnd_beq_t (cnd_and_t cnd_beq_t (cnd_and_t cnd_beq_t (cnd_and_t cnd_beq_t (cnd_and_t cnd_beq_t (cnd_and_t cnd_beq_t (cnd_and_t cnd_beq_t (cnd_and_t cnd_beq_t (cnd_and_t cnd_beq_t (cnd_and_t cnd_beq_t (cnd_and_t cnd_beq_t (cnd_and_t cnd_beq_t (cnd_and_t cnd_beq_t (cnd_and_t cnd_beq_t (cnd_and_t cnd_beq_t (cnd_and_t cnd_beq_t (cnd_and_t cnd_beq_t (cnd_and_t cnd_beq_t (cnd_and_t cnd_beq_t (cnd_and_t cnd_beq_t (cnd_and_t cnd_beq_t (cnd_and_t cnd_beq_t (cnd_and_t cnd_beq_t (cnd_and_t cnd_beq_t (cnd_and_t cnd_beq_t (cnd_and_t cnd_beq_t (cnd_and_t cnd_beq_t (cnd_and_t cnd_beq_t (cnd_and_t cnd_beq_t (cnd_and_t cnd_beq_t (cnd_and_t cnd_beq_t (cnd_and_t cnd_beq_t cnd_id_t))))))))))))))))))))))))))))))))) h6
    try simp only [Int.toNat_natCast] at g6
    exact k_again (⟨x2.1+1,by omega,fun i hi=>by rcases Nat.lt_succ_iff_lt_or_eq.1 hi with hi|rfl;(· grind);(· exact bnot_f ((congrArg not (by rfl)).trans h6))⟩) (fun _ hs=>hs.le (⟨.refl _,.refl _,.refl _,inc_ent (by omega),trivial⟩) (trivial)) (by grind)
  ·have g3:=cnd_dec_f h3
   exact k_out (Ent.of_eq (congrArg _ (lstE_t (by omega) (fun i hi=>x2.2.2 i (by omega))).symm))
theorem ssame_c (s t:Spend) (hs:s.nl≤1000∧s.np≤1000) (ht:t.nl≤1000∧t.np≤1000):Pure Tryz.prog gl0 64 [s.av,t.av] (.bool (sameB s t)):=by
 have c1:=eqLf_c s.nl t.nl s.lf t.lf hs.1 ht.1
 have c2:=eqHs_c s.np t.np s.pf t.pf hs.2 ht.2
 refine pure_sk (own:=ow0) Tryz.func64 (by rfl) mixed (by rfl)
  (let z2:=(s.11==t.11&&(s.12==t.12&&true));let z1:=(s.13 0==t.13 0&&(s.13 1==t.13 1&&(s.13 2==t.13 2&&(s.13 3==t.13 3&&(s.13 4==t.13 4&&(s.13 5==t.13 5&&(s.13 6==t.13 6&&(s.13 7==t.13 7&&(s.13 8==t.13 8&&(s.13 9==t.13 9&&(s.13 10==t.13 10&&(s.13 11==t.13 11&&(s.13 12==t.13 12&&(s.13 13==t.13 13&&(s.13 14==t.13 14&&(s.13 15==t.13 15&&(s.13 16==t.13 16&&(s.13 17==t.13 17&&(s.13 18==t.13 18&&(s.13 19==t.13 19&&(s.13 20==t.13 20&&(s.13 21==t.13 21&&(s.13 22==t.13 22&&(s.13 23==t.13 23&&(s.13 24==t.13 24&&(s.13 25==t.13 25&&(s.13 26==t.13 26&&(s.13 27==t.13 27&&(s.13 28==t.13 28&&(s.13 29==t.13 29&&(s.13 30==t.13 30&&(s.13 31==t.13 31&&true)))))))))))))))))))))))))))))))&&(s.14==t.14&&(s.15==t.15&&true)));let z0:=(s.2==t.2&&(s.3==t.3&&(s.4==t.4&&(s.5==t.5&&(s.6 0==t.6 0&&(s.6 1==t.6 1&&(s.6 2==t.6 2&&(s.6 3==t.6 3&&(s.6 4==t.6 4&&(s.6 5==t.6 5&&(s.6 6==t.6 6&&(s.6 7==t.6 7&&(s.6 8==t.6 8&&(s.6 9==t.6 9&&(s.6 10==t.6 10&&(s.6 11==t.6 11&&(s.6 12==t.6 12&&(s.6 13==t.6 13&&(s.6 14==t.6 14&&(s.6 15==t.6 15&&(s.6 16==t.6 16&&(s.6 17==t.6 17&&(s.6 18==t.6 18&&(s.6 19==t.6 19&&(s.6 20==t.6 20&&(s.6 21==t.6 21&&(s.6 22==t.6 22&&(s.6 23==t.6 23&&(s.6 24==t.6 24&&(s.6 25==t.6 25&&(s.6 26==t.6 26&&(s.6 27==t.6 27&&(s.6 28==t.6 28&&(s.6 29==t.6 29&&(s.6 30==t.6 30&&(s.6 31==t.6 31&&true)))))))))))))))))))))))))))))))&&(s.7==t.7&&(s.8==t.8&&(s.9==t.9&&(s.10==t.10&&true)))&&true))))));(.sc ((s.1==t.1&&z0&&z2&&z1)==true) 129 [.isl 3 s.16 fun i j=>Zi (s.17 i j),.isl 3 t.16 fun i j=>Zi (t.17 i j)] (.bool (lstE (Spend.nl s) (Spend.nl t) (Spend.lf s) (Spend.lf t) 3)) (.sc ((s.1==t.1&&z0&&z2&&z1&&lstE s.16 t.16 s.17 t.17 3&&s.18==t.18)==true) 130 [.isl 32 s.19 fun i j=>Zb (s.20 i j),.isl 32 t.19 fun i j=>Zb (t.20 i j)] (.bool (lstE (Spend.np s) (Spend.np t) (Spend.pf s) (Spend.pf t) 32)) (.out (.bool (s.1==t.1&&z0&&z2&&z1&&lstE s.16 t.16 s.17 t.17 3&&s.18==t.18&&lstE s.19 t.19 s.20 t.20 32)) [] (.bool (sameB s t)) []))))
  (by kernel_rfl) ?_
 refine k_scg (fun h0=>c1) ?_
 refine k_scg (fun h1=>c2) ?_
 exact k_out (Ent.refl _)
theorem sof_c (r:Nat→Int) (s:Spend):Pure Tryz.prog gl0 62 [.agg (recC r),.agg s.coin.cells] (.bool (ofB r s)):=by
 exact pz Tryz.func62 (by
  exact n_or)
theorem scount_c (k:Bnk) (r:Nat→Int) (hk:BnkOk k) (h:CntOk k r):Pure Tryz.prog gl0 25 [.agg k.cells,.agg (recC r)] (.agg (cntS k r).cells):=by
 have c1:=fun n=>sof_c r (k.G n).t
 have c2:=fun n=>sof_c r (k.U n).sp
 have c3:=fun n m=>ufind_c k.nu k.U (k.G n).t.a ((k.G n).t.lf m 0) hk.U h.sp
 have c4:=fun n m (hn:n<k.ng)=>ssame_c (fndU k.nu k.U (k.G n).t.a ((k.G n).t.lf m 0)).sp (k.G n).s (fnd_le (spt_s h.sp)) ⟨by have:=(h.nl n hn).2.1;omega,(h.nl n hn).2.2⟩
 have hl:=lf_le h.lf
 have hng:=h.ng
 have hnu:=h.nu
 have hni:=h.ni
 have h4:=h.lf.2
 exact pz Tryz.func25 (by
  apply n_req ((0:Int)≤r 4)
  apply n_loopx ({ x:Nat // x≤Bnk.ng k }) [1,2,3,4,5,6,30,31,32] [0,8,16,80] (fun x=>[.agg [Zi (r 0),Zi (r 1),Zi (r 2),Zi (r 3),Zi (r 4),Zi (r 5),Zi (r 6),Zi (r 7),Zi (r 8),Zi (r 9),Zi (r 10)],.own 0 50 0 0 50,.own 1 11 0 0 11,.own 2 7 0 0 7,.own 3 7 0 0 7,Zi (Int.fdiv (r 3) ((2:Int)^min (toNat (r 4)) 64)),.isl 161 k.18 fun i j=>atL (Gui.cells (Bnk.G k i)) j,Zi k.18,Zi x.1]) (fun x=>[some ⟨50,1,true,.lst [Bnk.cells k]⟩,some ⟨11,1,true,.lst [[Zi (r 0),Zi (r 1),Zi (r 2),Zi (r 3),Zi (r 4),Zi (r 5),Zi (r 6),Zi (r 7),Zi (r 8),Zi (r 9),Zi (r 10)]]⟩,some ⟨7,1,true,.lst [[Zi 0,Zi 0,Zi 0,Zi 0,Zi 0,Zi 0,Zi 0]]⟩,some ⟨7,1,true,.lst [[Zi (r 0),Zi (r 1),Zi (r 2),Zi 0,Zi 0,Zi (sumI (guiV k r) (x.1)),Zi 0]]⟩]) (fun x=>Bnk.ng k - x.1) (⟨0,Nat.zero_le (Bnk.ng k)⟩) [.agg [Zi (r 0),Zi (r 1),Zi (r 2),Zi (r 3),Zi (r 4),Zi (r 5),Zi (r 6),Zi (r 7),Zi (r 8),Zi (r 9),Zi (r 10)],.own 0 50 0 0 50,.own 1 11 0 0 11,.own 2 7 0 0 7,.own 3 7 0 0 7,Zi (Int.fdiv (r 3) ((2:Int)^min (toNat (r 4)) 64)),.isl 161 k.18 fun i j=>atL (Gui.cells (Bnk.G k i)) j,Zi k.18,Zi 0] [some ⟨50,1,true,.lst [Bnk.cells k]⟩,some ⟨11,1,true,.lst [[Zi (r 0),Zi (r 1),Zi (r 2),Zi (r 3),Zi (r 4),Zi (r 5),Zi (r 6),Zi (r 7),Zi (r 8),Zi (r 9),Zi (r 10)]]⟩,some ⟨7,1,true,.lst [[Zi 0,Zi 0,Zi 0,Zi 0,Zi 0,Zi 0,Zi 0]]⟩,some ⟨7,1,true,.lst [[Zi (r 0),Zi (r 1),Zi (r 2),Zi 0,Zi 0,Zi 0,Zi 0]]⟩] (by repeat' (first|exact trivial|(first|exact Ent.refl _|exact inc_ent (by omega)|exact Ent.nil rfl|exact Ent.of_eq (congrArg (AV.osl _ _ _) (by first|omega|(dsimp only;omega)))|exact Ent.of_eq (congrArg (AV.int _) (by first|omega|(dsimp only;omega))))|refine And.intro ?_ ?_)) (by repeat' (first|exact trivial|(first|exact ObEnt.refl _|exact ObEnt.junk|exact ObEnt.zero|exact ObEnt.push rfl rfl|exact ObEnt.pushRow rfl|exact ObEnt.len (by omega)|exact ObEnt.row (by repeat' (first|exact trivial|(first|exact Ent.refl _|exact inc_ent (by omega)|exact Ent.nil rfl|exact Ent.of_eq (congrArg (AV.osl _ _ _) (by rfl))|exact Ent.of_eq (congrArg (AV.int _) (by rfl)))|refine And.intro ?_ ?_)))|refine And.intro ?_ ?_))
  intro x1
  try (have q1:=x1.2;dsimp only at q1)
  apply n_bd ((x1.1:Int)<(k.18:Int))
  ·intro g2
   apply n_req (0≤(x1.1:Int)∧(x1.1:Int)<(k.18:Int))
   apply n_sc (c1 (toNat (↑(x1.1):Int)))
   apply n_br (!ofB r (Bnk.G k (toNat (↑(x1.1):Int))).2)
   ·intro g5
    try simp only [Int.toNat_natCast] at g5
    exact n_againx [0,1,2,3] (⟨x1.1+1,by omega⟩) [.agg [Zi (r 0),Zi (r 1),Zi (r 2),Zi (r 3),Zi (r 4),Zi (r 5),Zi (r 6),Zi (r 7),Zi (r 8),Zi (r 9),Zi (r 10)],.own 0 50 0 0 50,.own 1 11 0 0 11,.own 2 7 0 0 7,.own 3 7 0 0 7,Zi (Int.fdiv (r 3) ((2:Int)^min (toNat (r 4)) 64)),.isl 161 k.18 fun i j=>atL (Gui.cells (Bnk.G k i)) j,Zi k.18,Zi (wrap .i64 ((x1.1:Int)+1))] [some ⟨50,1,true,.lst [Bnk.cells k]⟩,some ⟨11,1,true,.lst [[Zi (r 0),Zi (r 1),Zi (r 2),Zi (r 3),Zi (r 4),Zi (r 5),Zi (r 6),Zi (r 7),Zi (r 8),Zi (r 9),Zi (r 10)]]⟩,some ⟨7,1,true,.lst [[Zi 0,Zi 0,Zi 0,Zi 0,Zi 0,Zi 0,Zi 0]]⟩,some ⟨7,1,true,.lst [[Zi (r 0),Zi (r 1),Zi (r 2),Zi 0,Zi 0,Zi (sumI (guiV k r) (x1.1)),Zi 0]]⟩] (by repeat' (first|exact trivial|(first|exact Ent.refl _|exact inc_ent (by omega)|exact Ent.nil rfl|exact Ent.of_eq (congrArg (AV.osl _ _ _) (by first|omega|(dsimp only;omega)))|exact Ent.of_eq (congrArg (AV.int _) (by first|omega|(dsimp only;omega))))|refine And.intro ?_ ?_)) (⟨ObEnt.refl _,ObEnt.refl _,ObEnt.refl _,ObEnt.row ⟨Ent.refl _,Ent.refl _,Ent.refl _,Ent.refl _,Ent.refl _,Ent.of_eq (congrArg (AV.int _) ((gui_f g5).symm)),Ent.refl _,trivial⟩,trivial⟩)
   ·intro g5
    try simp only [Int.toNat_natCast] at g5
    apply n_loopx ({ x:Nat // x≤Spend.nl (Gui.t (Bnk.G k (x1.1))) }) [1,2,3,4,5,6,8,30,31,32,44,45,46] [0,1,2,3,28] (fun x=>[.agg [Zi (r 0),Zi (r 1),Zi (r 2),Zi (r 3),Zi (r 4),Zi (r 5),Zi (r 6),Zi (r 7),Zi (r 8),Zi (r 9),Zi (r 10)],.own 0 50 0 0 50,.own 1 11 0 0 11,.own 2 7 0 0 7,.own 3 7 0 0 7,Zi (Int.fdiv (r 3) ((2:Int)^min (toNat (r 4)) 64)),.own 4 161 0 0 161,.isl 161 k.18 fun i j=>atL (Gui.cells (Bnk.G k i)) j,Zi k.18,Zi x1.1,.isl 3 (Gui.t (Bnk.G k (toNat (↑(x1.1):Int)))).16 fun i j=>Zi ((Gui.t (Bnk.G k (toNat (↑(x1.1):Int)))).17 i j),Zi (↑(Gui.t (Bnk.G k (toNat (↑(x1.1):Int)))).16:Int),Zi x.1]) (fun x=>[some ⟨50,1,true,.lst [Bnk.cells k]⟩,some ⟨11,1,true,.lst [[Zi (r 0),Zi (r 1),Zi (r 2),Zi (r 3),Zi (r 4),Zi (r 5),Zi (r 6),Zi (r 7),Zi (r 8),Zi (r 9),Zi (r 10)]]⟩,some ⟨7,1,true,.lst [[Zi 0,Zi 0,Zi 0,Zi 0,Zi 0,Zi 0,Zi 0]]⟩,some ⟨7,1,true,.lst [[Zi (r 0),Zi (r 1),Zi (r 2),Zi 0,Zi 0,Zi (accI (sumI (guiV k r) (x1.1)) (hitV k r (Bnk.G k (x1.1))) (x.1)),Zi 0]]⟩,some ⟨161,1,true,.lst [Gui.cells (Bnk.G k (toNat (↑(x1.1):Int)))]⟩]) (fun x=>Spend.nl (Gui.t (Bnk.G k (x1.1))) - x.1) (⟨0,Nat.zero_le (Spend.nl (Gui.t (Bnk.G k (x1.1))))⟩) [.agg [Zi (r 0),Zi (r 1),Zi (r 2),Zi (r 3),Zi (r 4),Zi (r 5),Zi (r 6),Zi (r 7),Zi (r 8),Zi (r 9),Zi (r 10)],.own 0 50 0 0 50,.own 1 11 0 0 11,.own 2 7 0 0 7,.own 3 7 0 0 7,Zi (Int.fdiv (r 3) ((2:Int)^min (toNat (r 4)) 64)),.own 4 161 0 0 161,.isl 161 k.18 fun i j=>atL (Gui.cells (Bnk.G k i)) j,Zi k.18,Zi x1.1,.isl 3 (Gui.t (Bnk.G k (toNat (↑(x1.1):Int)))).16 fun i j=>Zi ((Gui.t (Bnk.G k (toNat (↑(x1.1):Int)))).17 i j),Zi (↑(Gui.t (Bnk.G k (toNat (↑(x1.1):Int)))).16:Int),Zi 0] [some ⟨50,1,true,.lst [Bnk.cells k]⟩,some ⟨11,1,true,.lst [[Zi (r 0),Zi (r 1),Zi (r 2),Zi (r 3),Zi (r 4),Zi (r 5),Zi (r 6),Zi (r 7),Zi (r 8),Zi (r 9),Zi (r 10)]]⟩,some ⟨7,1,true,.lst [[Zi 0,Zi 0,Zi 0,Zi 0,Zi 0,Zi 0,Zi 0]]⟩,some ⟨7,1,true,.lst [[Zi (r 0),Zi (r 1),Zi (r 2),Zi 0,Zi 0,Zi (sumI (guiV k r) (x1.1)),Zi 0]]⟩,some ⟨161,1,true,.lst [Gui.cells (Bnk.G k (toNat (↑(x1.1):Int)))]⟩] (by repeat' (first|exact trivial|(first|exact Ent.refl _|exact inc_ent (by omega)|exact Ent.nil rfl|exact Ent.of_eq (congrArg (AV.osl _ _ _) (by first|omega|(dsimp only;omega)))|exact Ent.of_eq (congrArg (AV.int _) (by first|omega|(dsimp only;omega))))|refine And.intro ?_ ?_)) (by repeat' (first|exact trivial|(first|exact ObEnt.refl _|exact ObEnt.junk|exact ObEnt.zero|exact ObEnt.push rfl rfl|exact ObEnt.pushRow rfl|exact ObEnt.len (by omega)|exact ObEnt.row (by repeat' (first|exact trivial|(first|exact Ent.refl _|exact inc_ent (by omega)|exact Ent.nil rfl|exact Ent.of_eq (congrArg (AV.osl _ _ _) (by rfl))|exact Ent.of_eq (congrArg (AV.int _) (by rfl)))|refine And.intro ?_ ?_)))|refine And.intro ?_ ?_))
    intro x7
    try (have q7:=x7.2;dsimp only at q7)
    have b7:=(h.nl x1.1 (by omega)).1
    apply n_bd ((x7.1:Int)<(↑(Gui.t (Bnk.G k (toNat (↑(x1.1):Int)))).16:Int))
    ·intro g8
     try simp only [Int.toNat_natCast] at g8
     apply n_req (0≤(x7.1:Int)∧(x7.1:Int)<(↑(Gui.t (Bnk.G k (toNat (↑(x1.1):Int)))).16:Int)) (by grind)
     apply n_dc (c3 (toNat (↑(x1.1):Int)) (toNat (↑x7.1:Int)))
     apply n_scg (decide ((0:Int)≤fdU k.14 k.15 (Gui.t (Bnk.G k (toNat (↑(x1.1):Int)))).5 ((Gui.t (Bnk.G k (toNat (↑(x1.1):Int)))).17 (toNat (x7.1:Int)) 0))==true) (fun h11=>c4 (toNat (↑(x1.1):Int)) (toNat (↑x7.1:Int)) (by omega))
     apply n_br (decide ((0:Int)≤fdU k.14 k.15 (Gui.t (Bnk.G k (toNat (↑(x1.1):Int)))).5 ((Gui.t (Bnk.G k (toNat (↑(x1.1):Int)))).17 (toNat (x7.1:Int)) 0))&&sameB (fndU (Bnk.nu k) (Bnk.U k) (Spend.a (Gui.t (Bnk.G k (toNat (↑(x1.1):Int))))) (Spend.lf (Gui.t (Bnk.G k (toNat (↑(x1.1):Int)))) (toNat (x7.1:Int)) 0)).3 (Bnk.G k (toNat (↑(x1.1):Int))).1)
     ·intro g12
      try simp only [Int.toNat_natCast] at g12
      exact n_againx [0,1,2,3,4] (⟨x7.1+1,by omega⟩) [.agg [Zi (r 0),Zi (r 1),Zi (r 2),Zi (r 3),Zi (r 4),Zi (r 5),Zi (r 6),Zi (r 7),Zi (r 8),Zi (r 9),Zi (r 10)],.own 0 50 0 0 50,.own 1 11 0 0 11,.own 2 7 0 0 7,.own 3 7 0 0 7,Zi (Int.fdiv (r 3) ((2:Int)^min (toNat (r 4)) 64)),.own 4 161 0 0 161,.isl 161 k.18 fun i j=>atL (Gui.cells (Bnk.G k i)) j,Zi k.18,Zi x1.1,.isl 3 (Gui.t (Bnk.G k (toNat (↑(x1.1):Int)))).16 fun i j=>Zi ((Gui.t (Bnk.G k (toNat (↑(x1.1):Int)))).17 i j),Zi (↑(Gui.t (Bnk.G k (toNat (↑(x1.1):Int)))).16:Int),Zi (wrap .i64 ((x7.1:Int)+1))] [some ⟨50,1,true,.lst [Bnk.cells k]⟩,some ⟨11,1,true,.lst [[Zi (r 0),Zi (r 1),Zi (r 2),Zi (r 3),Zi (r 4),Zi (r 5),Zi (r 6),Zi (r 7),Zi (r 8),Zi (r 9),Zi (r 10)]]⟩,some ⟨7,1,true,.lst [[Zi 0,Zi 0,Zi 0,Zi 0,Zi 0,Zi 0,Zi 0]]⟩,some ⟨7,1,true,.lst [[Zi (r 0),Zi (r 1),Zi (r 2),Zi 0,Zi 0,Zi (wrap .i64 (accI (sumI (guiV k r) x1.1) (hitV k r (k.19 x1.1)) x7.1+Int.fdiv (r 3) ((2:Int)^min (toNat (r 4)) 64))),Zi 0]]⟩,some ⟨161,1,true,.lst [Gui.cells (Bnk.G k (toNat (↑(x1.1):Int)))]⟩] (by repeat' (first|exact trivial|(first|exact Ent.refl _|exact inc_ent (by omega)|exact Ent.nil rfl|exact Ent.of_eq (congrArg (AV.osl _ _ _) (by first|omega|(dsimp only;omega)))|exact Ent.of_eq (congrArg (AV.int _) (by first|omega|(dsimp only;omega))))|refine And.intro ?_ ?_)) (⟨ObEnt.refl _,ObEnt.refl _,ObEnt.refl _,ObEnt.row ⟨Ent.refl _,Ent.refl _,Ent.refl _,Ent.refl _,Ent.refl _,Ent.of_eq (congrArg (AV.int _) (hit_y (hit_of g12) h.lf (dbl_le h.lf (by omega) (fun i hi=>(h.nl i (by omega)).1)) (by omega))),Ent.refl _,trivial⟩,ObEnt.refl _,trivial⟩)
     ·intro g12
      try simp only [Int.toNat_natCast] at g12
      exact n_againx [0,1,2,3,4] (⟨x7.1+1,by omega⟩) [.agg [Zi (r 0),Zi (r 1),Zi (r 2),Zi (r 3),Zi (r 4),Zi (r 5),Zi (r 6),Zi (r 7),Zi (r 8),Zi (r 9),Zi (r 10)],.own 0 50 0 0 50,.own 1 11 0 0 11,.own 2 7 0 0 7,.own 3 7 0 0 7,Zi (Int.fdiv (r 3) ((2:Int)^min (toNat (r 4)) 64)),.own 4 161 0 0 161,.isl 161 k.18 fun i j=>atL (Gui.cells (Bnk.G k i)) j,Zi k.18,Zi x1.1,.isl 3 (Gui.t (Bnk.G k (toNat (↑(x1.1):Int)))).16 fun i j=>Zi ((Gui.t (Bnk.G k (toNat (↑(x1.1):Int)))).17 i j),Zi (↑(Gui.t (Bnk.G k (toNat (↑(x1.1):Int)))).16:Int),Zi (wrap .i64 ((x7.1:Int)+1))] [some ⟨50,1,true,.lst [Bnk.cells k]⟩,some ⟨11,1,true,.lst [[Zi (r 0),Zi (r 1),Zi (r 2),Zi (r 3),Zi (r 4),Zi (r 5),Zi (r 6),Zi (r 7),Zi (r 8),Zi (r 9),Zi (r 10)]]⟩,some ⟨7,1,true,.lst [[Zi 0,Zi 0,Zi 0,Zi 0,Zi 0,Zi 0,Zi 0]]⟩,some ⟨7,1,true,.lst [[Zi (r 0),Zi (r 1),Zi (r 2),Zi 0,Zi 0,Zi (accI (sumI (guiV k r) (x1.1)) (hitV k r (Bnk.G k (x1.1))) (x7.1)),Zi 0]]⟩,some ⟨161,1,true,.lst [Gui.cells (Bnk.G k (toNat (↑(x1.1):Int)))]⟩] (by repeat' (first|exact trivial|(first|exact Ent.refl _|exact inc_ent (by omega)|exact Ent.nil rfl|exact Ent.of_eq (congrArg (AV.osl _ _ _) (by first|omega|(dsimp only;omega)))|exact Ent.of_eq (congrArg (AV.int _) (by first|omega|(dsimp only;omega))))|refine And.intro ?_ ?_)) (⟨ObEnt.refl _,ObEnt.refl _,ObEnt.refl _,ObEnt.row ⟨Ent.refl _,Ent.refl _,Ent.refl _,Ent.refl _,Ent.refl _,Ent.of_eq (congrArg (AV.int _) (hit_n (hit_no g12))),Ent.refl _,trivial⟩,ObEnt.refl _,trivial⟩)
    ·intro g8
     try simp only [Int.toNat_natCast] at g8
     exact n_up <| n_againx [0,1,2,3] (⟨x1.1+1,by omega⟩) [.agg [Zi (r 0),Zi (r 1),Zi (r 2),Zi (r 3),Zi (r 4),Zi (r 5),Zi (r 6),Zi (r 7),Zi (r 8),Zi (r 9),Zi (r 10)],.own 0 50 0 0 50,.own 1 11 0 0 11,.own 2 7 0 0 7,.own 3 7 0 0 7,Zi (Int.fdiv (r 3) ((2:Int)^min (toNat (r 4)) 64)),.isl 161 k.18 fun i j=>atL (Gui.cells (Bnk.G k i)) j,Zi k.18,Zi (wrap .i64 ((x1.1:Int)+1))] [some ⟨50,1,true,.lst [Bnk.cells k]⟩,some ⟨11,1,true,.lst [[Zi (r 0),Zi (r 1),Zi (r 2),Zi (r 3),Zi (r 4),Zi (r 5),Zi (r 6),Zi (r 7),Zi (r 8),Zi (r 9),Zi (r 10)]]⟩,some ⟨7,1,true,.lst [[Zi 0,Zi 0,Zi 0,Zi 0,Zi 0,Zi 0,Zi 0]]⟩,some ⟨7,1,true,.lst [[Zi (r 0),Zi (r 1),Zi (r 2),Zi 0,Zi 0,Zi (accI (sumI (guiV k r) (x1.1)) (hitV k r (Bnk.G k (x1.1))) (x7.1)),Zi 0]]⟩] (by repeat' (first|exact trivial|(first|exact Ent.refl _|exact inc_ent (by omega)|exact Ent.nil rfl|exact Ent.of_eq (congrArg (AV.osl _ _ _) (by first|omega|(dsimp only;omega)))|exact Ent.of_eq (congrArg (AV.int _) (by first|omega|(dsimp only;omega))))|refine And.intro ?_ ?_)) (⟨ObEnt.refl _,ObEnt.refl _,ObEnt.refl _,ObEnt.row ⟨Ent.refl _,Ent.refl _,Ent.refl _,Ent.refl _,Ent.refl _,Ent.of_eq (congrArg (AV.int _) (gui_y g5 (by omega))),Ent.refl _,trivial⟩,trivial⟩)
  ·intro g2
   apply n_loopx ({ x:Nat // x≤Bnk.nu k }) [2,3,4,5,6,82,83,84] [0,1,2,3] (fun x=>[.own 0 50 0 0 50,.own 1 11 0 0 11,.own 2 7 0 0 7,.own 3 7 0 0 7,Zi (Int.fdiv (r 3) ((2:Int)^min (toNat (r 4)) 64)),.isl 83 k.14 fun i j=>atL (Use.cells (Bnk.U k i)) j,Zi k.14,Zi x.1]) (fun x=>[some ⟨50,1,true,.lst [Bnk.cells k]⟩,some ⟨11,1,true,.lst [[Zi (r 0),Zi (r 1),Zi (r 2),Zi (r 3),Zi (r 4),Zi (r 5),Zi (r 6),Zi (r 7),Zi (r 8),Zi (r 9),Zi (r 10)]]⟩,some ⟨7,1,true,.lst [[Zi 0,Zi 0,Zi 0,Zi 0,Zi 0,Zi 0,Zi 0]]⟩,some ⟨7,1,true,.lst [[Zi (r 0),Zi (r 1),Zi (r 2),Zi 0,Zi (accI (sumI (guiV k r) (x1.1)) (useV k r) (x.1)),Zi (sumI (guiV k r) (x1.1)),Zi 0]]⟩]) (fun x=>Bnk.nu k - x.1) (⟨0,Nat.zero_le (Bnk.nu k)⟩) [.own 0 50 0 0 50,.own 1 11 0 0 11,.own 2 7 0 0 7,.own 3 7 0 0 7,Zi (Int.fdiv (r 3) ((2:Int)^min (toNat (r 4)) 64)),.isl 83 k.14 fun i j=>atL (Use.cells (Bnk.U k i)) j,Zi k.14,Zi 0] [some ⟨50,1,true,.lst [Bnk.cells k]⟩,some ⟨11,1,true,.lst [[Zi (r 0),Zi (r 1),Zi (r 2),Zi (r 3),Zi (r 4),Zi (r 5),Zi (r 6),Zi (r 7),Zi (r 8),Zi (r 9),Zi (r 10)]]⟩,some ⟨7,1,true,.lst [[Zi 0,Zi 0,Zi 0,Zi 0,Zi 0,Zi 0,Zi 0]]⟩,some ⟨7,1,true,.lst [[Zi (r 0),Zi (r 1),Zi (r 2),Zi 0,Zi (sumI (guiV k r) (x1.1)),Zi (sumI (guiV k r) (x1.1)),Zi 0]]⟩] (by repeat' (first|exact trivial|(first|exact Ent.refl _|exact inc_ent (by omega)|exact Ent.nil rfl|exact Ent.of_eq (congrArg (AV.osl _ _ _) (by first|omega|(dsimp only;omega)))|exact Ent.of_eq (congrArg (AV.int _) (by first|omega|(dsimp only;omega))))|refine And.intro ?_ ?_)) (by repeat' (first|exact trivial|(first|exact ObEnt.refl _|exact ObEnt.junk|exact ObEnt.zero|exact ObEnt.push rfl rfl|exact ObEnt.pushRow rfl|exact ObEnt.len (by omega)|exact ObEnt.row (by repeat' (first|exact trivial|(first|exact Ent.refl _|exact inc_ent (by omega)|exact Ent.nil rfl|exact Ent.of_eq (congrArg (AV.osl _ _ _) (by rfl))|exact Ent.of_eq (congrArg (AV.int _) (by rfl)))|refine And.intro ?_ ?_)))|refine And.intro ?_ ?_))
   intro x16
   try (have q16:=x16.2;dsimp only at q16)
   apply n_bd ((x16.1:Int)<(k.14:Int))
   ·intro g17
    apply n_req (0≤(x16.1:Int)∧(x16.1:Int)<(k.14:Int))
    apply n_sc (c2 (toNat (↑(x16.1):Int)))
    apply n_br (ofB r (Bnk.U k (toNat (↑(x16.1):Int))).3)
    ·intro g20
     try simp only [Int.toNat_natCast] at g20
     exact n_againx [0,1,2,3] (⟨x16.1+1,by omega⟩) [.own 0 50 0 0 50,.own 1 11 0 0 11,.own 2 7 0 0 7,.own 3 7 0 0 7,Zi (Int.fdiv (r 3) ((2:Int)^min (toNat (r 4)) 64)),.isl 83 k.14 fun i j=>atL (Use.cells (Bnk.U k i)) j,Zi k.14,Zi (wrap .i64 ((x16.1:Int)+1))] [some ⟨50,1,true,.lst [Bnk.cells k]⟩,some ⟨11,1,true,.lst [[Zi (r 0),Zi (r 1),Zi (r 2),Zi (r 3),Zi (r 4),Zi (r 5),Zi (r 6),Zi (r 7),Zi (r 8),Zi (r 9),Zi (r 10)]]⟩,some ⟨7,1,true,.lst [[Zi 0,Zi 0,Zi 0,Zi 0,Zi 0,Zi 0,Zi 0]]⟩,some ⟨7,1,true,.lst [[Zi (r 0),Zi (r 1),Zi (r 2),Zi 0,Zi (wrap .i64 (accI (sumI (guiV k r) x1.1) (useV k r) x16.1+Int.fdiv (r 3) ((2:Int)^min (toNat (r 4)) 64))),Zi (sumI (guiV k r) (x1.1)),Zi 0]]⟩] (by repeat' (first|exact trivial|(first|exact Ent.refl _|exact inc_ent (by omega)|exact Ent.nil rfl|exact Ent.of_eq (congrArg (AV.osl _ _ _) (by first|omega|(dsimp only;omega)))|exact Ent.of_eq (congrArg (AV.int _) (by first|omega|(dsimp only;omega))))|refine And.intro ?_ ?_)) (⟨ObEnt.refl _,ObEnt.refl _,ObEnt.refl _,ObEnt.row ⟨Ent.refl _,Ent.refl _,Ent.refl _,Ent.refl _,Ent.of_eq (congrArg (AV.int _) (use_y g20 h.lf (dbl_le h.lf (by omega) (fun i hi=>(h.nl i (by omega)).1)) (by omega))),Ent.refl _,Ent.refl _,trivial⟩,trivial⟩)
    ·intro g20
     try simp only [Int.toNat_natCast] at g20
     exact n_againx [0,1,2,3] (⟨x16.1+1,by omega⟩) [.own 0 50 0 0 50,.own 1 11 0 0 11,.own 2 7 0 0 7,.own 3 7 0 0 7,Zi (Int.fdiv (r 3) ((2:Int)^min (toNat (r 4)) 64)),.isl 83 k.14 fun i j=>atL (Use.cells (Bnk.U k i)) j,Zi k.14,Zi (wrap .i64 ((x16.1:Int)+1))] [some ⟨50,1,true,.lst [Bnk.cells k]⟩,some ⟨11,1,true,.lst [[Zi (r 0),Zi (r 1),Zi (r 2),Zi (r 3),Zi (r 4),Zi (r 5),Zi (r 6),Zi (r 7),Zi (r 8),Zi (r 9),Zi (r 10)]]⟩,some ⟨7,1,true,.lst [[Zi 0,Zi 0,Zi 0,Zi 0,Zi 0,Zi 0,Zi 0]]⟩,some ⟨7,1,true,.lst [[Zi (r 0),Zi (r 1),Zi (r 2),Zi 0,Zi (accI (sumI (guiV k r) (x1.1)) (useV k r) (x16.1)),Zi (sumI (guiV k r) (x1.1)),Zi 0]]⟩] (by repeat' (first|exact trivial|(first|exact Ent.refl _|exact inc_ent (by omega)|exact Ent.nil rfl|exact Ent.of_eq (congrArg (AV.osl _ _ _) (by first|omega|(dsimp only;omega)))|exact Ent.of_eq (congrArg (AV.int _) (by first|omega|(dsimp only;omega))))|refine And.intro ?_ ?_)) (⟨ObEnt.refl _,ObEnt.refl _,ObEnt.refl _,ObEnt.row ⟨Ent.refl _,Ent.refl _,Ent.refl _,Ent.refl _,Ent.of_eq (congrArg (AV.int _) (use_n g20)),Ent.refl _,Ent.refl _,trivial⟩,trivial⟩)
   ·intro g17
    apply n_loopx ({ x:Nat // x≤Bnk.ni k }) [2,3,4,5,100,101,102] [0,1,2,3] (fun x=>[.own 0 50 0 0 50,.own 1 11 0 0 11,.own 2 7 0 0 7,.own 3 7 0 0 7,.isl 21 k.16 fun i j=>Zi (k.17 i j),Zi k.16,Zi x.1]) (fun x=>[some ⟨50,1,true,.lst [Bnk.cells k]⟩,some ⟨11,1,true,.lst [[Zi (r 0),Zi (r 1),Zi (r 2),Zi (r 3),Zi (r 4),Zi (r 5),Zi (r 6),Zi (r 7),Zi (r 8),Zi (r 9),Zi (r 10)]]⟩,some ⟨7,1,true,.lst [[Zi 0,Zi 0,Zi 0,Zi 0,Zi 0,Zi 0,Zi 0]]⟩,some ⟨7,1,true,.lst [[Zi (r 0),Zi (r 1),Zi (r 2),Zi (sumI (issV k r) (x.1)),Zi (accI (sumI (guiV k r) (x1.1)) (useV k r) (x16.1)),Zi (sumI (guiV k r) (x1.1)),Zi 0]]⟩]) (fun x=>Bnk.ni k - x.1) (⟨0,Nat.zero_le (Bnk.ni k)⟩) [.own 0 50 0 0 50,.own 1 11 0 0 11,.own 2 7 0 0 7,.own 3 7 0 0 7,.isl 21 k.16 fun i j=>Zi (k.17 i j),Zi k.16,Zi 0] [some ⟨50,1,true,.lst [Bnk.cells k]⟩,some ⟨11,1,true,.lst [[Zi (r 0),Zi (r 1),Zi (r 2),Zi (r 3),Zi (r 4),Zi (r 5),Zi (r 6),Zi (r 7),Zi (r 8),Zi (r 9),Zi (r 10)]]⟩,some ⟨7,1,true,.lst [[Zi 0,Zi 0,Zi 0,Zi 0,Zi 0,Zi 0,Zi 0]]⟩,some ⟨7,1,true,.lst [[Zi (r 0),Zi (r 1),Zi (r 2),Zi 0,Zi (accI (sumI (guiV k r) (x1.1)) (useV k r) (x16.1)),Zi (sumI (guiV k r) (x1.1)),Zi 0]]⟩] (by repeat' (first|exact trivial|(first|exact Ent.refl _|exact inc_ent (by omega)|exact Ent.nil rfl|exact Ent.of_eq (congrArg (AV.osl _ _ _) (by first|omega|(dsimp only;omega)))|exact Ent.of_eq (congrArg (AV.int _) (by first|omega|(dsimp only;omega))))|refine And.intro ?_ ?_)) (by repeat' (first|exact trivial|(first|exact ObEnt.refl _|exact ObEnt.junk|exact ObEnt.zero|exact ObEnt.push rfl rfl|exact ObEnt.pushRow rfl|exact ObEnt.len (by omega)|exact ObEnt.row (by repeat' (first|exact trivial|(first|exact Ent.refl _|exact inc_ent (by omega)|exact Ent.nil rfl|exact Ent.of_eq (congrArg (AV.osl _ _ _) (by rfl))|exact Ent.of_eq (congrArg (AV.int _) (by rfl)))|refine And.intro ?_ ?_)))|refine And.intro ?_ ?_))
    intro x23
    try (have q23:=x23.2;dsimp only at q23)
    apply n_bd ((x23.1:Int)<(k.16:Int))
    ·intro g24
     apply n_req (0≤(x23.1:Int)∧(x23.1:Int)<(k.16:Int))
     apply n_br (k.17 (toNat (x23.1:Int)) 0==3&&(k.17 (toNat (x23.1:Int)) 3==r 0&&(k.17 (toNat (x23.1:Int)) 4==r 1&&(k.17 (toNat (x23.1:Int)) 5==r 2&&(k.17 (toNat (x23.1:Int)) 6==r 3&&(k.17 (toNat (x23.1:Int)) 7==r 4&&(k.17 (toNat (x23.1:Int)) 8==r 5&&(k.17 (toNat (x23.1:Int)) 9==r 6&&(k.17 (toNat (x23.1:Int)) 10==r 7&&true))&&(k.17 (toNat (x23.1:Int)) 11==r 8&&(k.17 (toNat (x23.1:Int)) 12==r 9&&(k.17 (toNat (x23.1:Int)) 13==r 10&&true))))))))))
     ·intro g26
      try simp only [Int.toNat_natCast] at g26
      exact n_againx [0,1,2,3] (⟨x23.1+1,by omega⟩) [.own 0 50 0 0 50,.own 1 11 0 0 11,.own 2 7 0 0 7,.own 3 7 0 0 7,.isl 21 k.16 fun i j=>Zi (k.17 i j),Zi k.16,Zi (wrap .i64 ((x23.1:Int)+1))] [some ⟨50,1,true,.lst [Bnk.cells k]⟩,some ⟨11,1,true,.lst [[Zi (r 0),Zi (r 1),Zi (r 2),Zi (r 3),Zi (r 4),Zi (r 5),Zi (r 6),Zi (r 7),Zi (r 8),Zi (r 9),Zi (r 10)]]⟩,some ⟨7,1,true,.lst [[Zi 0,Zi 0,Zi 0,Zi 0,Zi 0,Zi 0,Zi 0]]⟩,some ⟨7,1,true,.lst [[Zi (r 0),Zi (r 1),Zi (r 2),Zi (wrap .i64 (sumI (issV k r) (x23.1)+r 3)),Zi (accI (sumI (guiV k r) (x1.1)) (useV k r) (x16.1)),Zi (sumI (guiV k r) (x1.1)),Zi 0]]⟩] (by repeat' (first|exact trivial|(first|exact Ent.refl _|exact inc_ent (by omega)|exact Ent.nil rfl|exact Ent.of_eq (congrArg (AV.osl _ _ _) (by first|omega|(dsimp only;omega)))|exact Ent.of_eq (congrArg (AV.int _) (by first|omega|(dsimp only;omega))))|refine And.intro ?_ ?_)) (⟨ObEnt.refl _,ObEnt.refl _,ObEnt.refl _,ObEnt.row ⟨Ent.refl _,Ent.refl _,Ent.refl _,Ent.of_eq (congrArg (AV.int _) (iss_y (fis_eq.2 (by omega)) h.lf (by omega))),Ent.refl _,Ent.refl _,Ent.refl _,trivial⟩,trivial⟩)
     ·intro g26
      try simp only [Int.toNat_natCast] at g26
      exact n_againx [0,1,2,3] (⟨x23.1+1,by omega⟩) [.own 0 50 0 0 50,.own 1 11 0 0 11,.own 2 7 0 0 7,.own 3 7 0 0 7,.isl 21 k.16 fun i j=>Zi (k.17 i j),Zi k.16,Zi (wrap .i64 ((x23.1:Int)+1))] [some ⟨50,1,true,.lst [Bnk.cells k]⟩,some ⟨11,1,true,.lst [[Zi (r 0),Zi (r 1),Zi (r 2),Zi (r 3),Zi (r 4),Zi (r 5),Zi (r 6),Zi (r 7),Zi (r 8),Zi (r 9),Zi (r 10)]]⟩,some ⟨7,1,true,.lst [[Zi 0,Zi 0,Zi 0,Zi 0,Zi 0,Zi 0,Zi 0]]⟩,some ⟨7,1,true,.lst [[Zi (r 0),Zi (r 1),Zi (r 2),Zi (sumI (issV k r) (x23.1)),Zi (accI (sumI (guiV k r) (x1.1)) (useV k r) (x16.1)),Zi (sumI (guiV k r) (x1.1)),Zi 0]]⟩] (by repeat' (first|exact trivial|(first|exact Ent.refl _|exact inc_ent (by omega)|exact Ent.nil rfl|exact Ent.of_eq (congrArg (AV.osl _ _ _) (by first|omega|(dsimp only;omega)))|exact Ent.of_eq (congrArg (AV.int _) (by first|omega|(dsimp only;omega))))|refine And.intro ?_ ?_)) (⟨ObEnt.refl _,ObEnt.refl _,ObEnt.refl _,ObEnt.row ⟨Ent.refl _,Ent.refl _,Ent.refl _,Ent.of_eq (congrArg (AV.int _) ((iss_f (ff_of fun q=>by grind [fis_eq])).symm)),Ent.refl _,Ent.refl _,Ent.refl _,trivial⟩,trivial⟩)
    ·intro g24
     apply n_bd (r 10≤k.22)
     ·intro g29
      exact n_outx (.agg [Zi (r 0),Zi (r 1),Zi (r 2),Zi (sumI (issV k r) x23.1),Zi (accI (sumI (guiV k r) x1.1) (useV k r) x16.1),Zi (sumI (guiV k r) x1.1),Zi (if wrap .i64 (wrap .i64 (sumI (issV k r) x23.1 - accI (sumI (guiV k r) x1.1) (useV k r) x16.1)+sumI (guiV k r) x1.1)>0 then wrap .i64 (wrap .i64 (sumI (issV k r) x23.1 - accI (sumI (guiV k r) x1.1) (useV k r) x16.1)+sumI (guiV k r) x1.1) else (0:Int))]) (Ent.of_eq (congrArg AV.agg (cnt_o (by omega) (by omega) (by omega) (exp_e h (by omega) (by omega) (by omega) g29))))
     ·intro g29
      exact n_outx (.agg [Zi (r 0),Zi (r 1),Zi (r 2),Zi (sumI (issV k r) x23.1),Zi (accI (sumI (guiV k r) x1.1) (useV k r) x16.1),Zi (sumI (guiV k r) x1.1),Zi 0]) (Ent.of_eq (congrArg AV.agg (cnt_o (by omega) (by omega) (by omega) (if_neg g29).symm))))
theorem sCount_c (k:Bnk) (hk:BnkOk k) (hb:bnkB k=true) (h:∀ i,i<k.nr→CntOk k (k.R i)):Pure Tryz.prog gl0 7 [.agg k.cells] (.tup [supA k.nr fun i=>cntS k (k.R i),.int .i64 0]):=by
 have hn:=(bnk_S hk hb).nr
 have c1:=bval_c k hk
 rw [hb] at c1
 have c2:=fun i (hi:i<k.nr)=>scount_c k (k.R i) hk (h i hi)
 exact pz Tryz.func7 (by
  apply n_sc (c1)
  apply n_ff
  apply n_loopx ({ x:Nat // x≤Bnk.nr k }) [1,11,12,4,13] [0,1881] (fun x=>[.own 0 50 0 0 50,.isl 11 k.4 fun i j=>Zi (k.5 i j),Zi k.4,.osl 1 7 0 (x.1),Zi x.1]) (fun x=>[some ⟨50,1,true,.lst [Bnk.cells k]⟩,some ⟨7,x.1,true,Rep.row fun i=>Sup.cells (cntS k (Bnk.R k i))⟩]) (fun x=>Bnk.nr k - x.1) (⟨0,Nat.zero_le (Bnk.nr k)⟩) [.own 0 50 0 0 50,.isl 11 k.4 fun i j=>Zi (k.5 i j),Zi k.4,.nsl,Zi 0] [some ⟨50,1,true,.lst [Bnk.cells k]⟩,some ⟨7,0,true,.ty (999999999:TypeId) (.lst [])⟩] (by repeat' (first|exact trivial|(first|exact Ent.refl _|exact inc_ent (by omega)|exact Ent.nil rfl|exact Ent.of_eq (congrArg (AV.osl _ _ _) (by rfl))|exact Ent.of_eq (congrArg (AV.int _) (by rfl)))|refine And.intro ?_ ?_)) (by repeat' (first|exact trivial|(first|exact ObEnt.refl _|exact ObEnt.junk|exact ObEnt.zero|exact ObEnt.push rfl rfl|exact ObEnt.pushRow rfl|exact ObEnt.len (by omega)|exact ObEnt.row (by repeat' (first|exact trivial|(first|exact Ent.refl _|exact inc_ent (by omega)|exact Ent.nil rfl|exact Ent.of_eq (congrArg (AV.osl _ _ _) (by rfl))|exact Ent.of_eq (congrArg (AV.int _) (by rfl)))|refine And.intro ?_ ?_)))|refine And.intro ?_ ?_))
  intro x2
  try (have q2:=x2.2;dsimp only at q2)
  apply n_bd ((x2.1:Int)<(k.4:Int))
  ·intro g3
   apply n_req (0≤(x2.1:Int)∧(x2.1:Int)<(k.4:Int))
   apply n_sc (c2 (toNat (↑x2.1:Int)) (by omega))
   apply n_req ((x2.1+1)*56≤140737488355328)
   exact n_againx [0,82] (⟨x2.1+1,by omega⟩) [.own 0 50 0 0 50,.isl 11 k.4 fun i j=>Zi (k.5 i j),Zi k.4,.osl 1 7 0 (x2.1+1),Zi (wrap .i64 ((x2.1:Int)+1))] [some ⟨50,1,true,.lst [Bnk.cells k]⟩,some ⟨7,x2.1+1,true,Rep.cat x2.1 (Rep.row fun i=>Sup.cells (cntS k (Bnk.R k i))) (.lst [Sup.cells (cntS k (Bnk.R k (toNat (x2.1:Int))))])⟩] (by repeat' (first|exact trivial|(first|exact Ent.refl _|exact inc_ent (by omega)|exact Ent.nil rfl|exact Ent.of_eq (congrArg (AV.osl _ _ _) (by rfl))|exact Ent.of_eq (congrArg (AV.int _) (by rfl)))|refine And.intro ?_ ?_)) (by repeat' (first|exact trivial|(first|exact ObEnt.refl _|exact ObEnt.junk|exact ObEnt.zero|exact ObEnt.push rfl rfl|exact ObEnt.pushRow rfl|exact ObEnt.len (by omega)|exact ObEnt.row (by repeat' (first|exact trivial|(first|exact Ent.refl _|exact inc_ent (by omega)|exact Ent.nil rfl|exact Ent.of_eq (congrArg (AV.osl _ _ _) (by rfl))|exact Ent.of_eq (congrArg (AV.int _) (by rfl)))|refine And.intro ?_ ?_)))|refine And.intro ?_ ?_))
  ·intro g3
   exact n_outx (.tup [.isl 7 x2.1 fun r k_1=>atL [Zi (k.5 (r+0) 0),Zi (k.5 (r+0) 1),Zi (k.5 (r+0) 2),Zi (issS k (k.5 (r+0))),Zi (dblS k (k.5 (r+0))+retS k (k.5 (r+0))),Zi (dblS k (k.5 (r+0))),Zi (expS k (k.5 (r+0)))] k_1,Zi 0]) (Ent.tup ⟨Ent.of_eq (by rw [show x2.1=k.nr by omega];rfl),Ent.refl _,trivial⟩))
end Go.Proofs.YtcageinnelhonaaGreatDoor

namespace Go.Sp
open Go.IntKind (wrap)
open Int (toNat)
open Go Go.Am
def u8s (n:Nat):List CT:=List.replicate n (.int .u8)
def spendT:List CT:=[.int .i64,.int .i64,.int .i64,.int .i64,.int .i64]++u8s 32++[.int .i64,.int .i64,.int .i64,.int .i64,.int .i64,.int .i64]++u8s 32++[.int .i64,.int .i64,.sl [.int .i64,.int .i64,.int .i64],.int .i64,.sl (u8s 32)]
def spendOf (g : Nat → AV) : Spend :=
  { bank := intOfAV (g 0), epoch := intOfAV (g 1), denom := intOfAV (g 2), depth := intOfAV (g 3), a := intOfAV (g 4), root := fun j => intOfAV (g (5 + j)),
    z := intOfAV (g 37), sa := intOfAV (g 38), sb := intOfAV (g 39), r := intOfAV (g 40), level := intOfAV (g 41), index := intOfAV (g 42), payee := fun j => intOfAV (g (43 + j)),
    time := intOfAV (g 75), number := intOfAV (g 76), nl := islN (g 77), lf := fun i j => intOfAV (islF (g 77) i j), pidx := intOfAV (g 78), np := islN (g 79), pf := fun i j => intOfAV (islF (g 79) i j) }
def i64s (n:Nat):List CT:=List.replicate n (.int .i64)
def basOf (g:Nat→AV):Bas:=⟨⟨intOfAV (g 0),intOfAV (g 1),intOfAV (g 2)⟩,intOfAV (g 3),intOfAV (g 4),intOfAV (g 5)⟩
theorem cell_i64 {a:AV} (h:CellOk (.int .i64) a) : -9223372036854775808≤intOfAV a∧intOfAV a≤9223372036854775807:=by
 obtain ⟨h1,h2⟩:=(Lit.wf_int_iff _ _).1 h.int_inv
 exact ⟨Int.le_trans (by decide) h1,Int.le_trans h2 (by decide)⟩
theorem cell_u8 {a:AV} (h:CellOk (.int .u8) a):0≤intOfAV a∧intOfAV a<256:=by
 obtain ⟨h1,h2⟩:=(Lit.wf_int_iff _ _).1 h.int_inv
 exact ⟨Int.le_trans (by decide) h1,Int.lt_of_le_of_lt h2 (by decide)⟩
theorem u8_by {ts:List CT} {g:Nat→AV} {k n:Nat} (h:∀ (j:Nat) c,ts[j]? = some c→CellOk c (g j)) (ht:∀ j,j<n→ts[k+j]? = some (.int .u8)):byB (fun j=>intOfAV (g (k+j))) n:=fun i hi=>cell_u8 (h (k+i) _ (ht i hi))
def spA:List CT:=[.int .i64,.int .i64,.int .i64,.int .i64,.int .i64]
def spB:List CT:=[.int .i64,.int .i64,.int .i64,.int .i64,.int .i64,.int .i64]
def spC:List CT:=[.int .i64,.int .i64,.sl [.int .i64,.int .i64,.int .i64],.int .i64,.sl (u8s 32)]
theorem spendT_root:∀ j,j<32→spendT[5+j]? = some (.int .u8):=fun j hj=>by
 show (((spA++u8s 32)++spB)++u8s 32++spC)[5+j]? = _
 rw [List.append_assoc,List.append_assoc,List.getElem?_append_left (by grind [spA,u8s,List.length_append,List.length_replicate,List.length_cons,List.length_nil]),
  List.getElem?_append_right (by show 5≤_;omega)]
 unfold u8s
 rw [List.getElem?_replicate,if_pos (by show 5+j - 5<32;omega)]
theorem spendT_payee:∀ j,j<32→spendT[43+j]? = some (.int .u8):=fun j hj=>by
 show (((spA++u8s 32)++spB)++u8s 32++spC)[43+j]? = _
 have e:((spA++u8s 32)++spB).length=43:=by rfl
 rw [List.append_assoc,List.getElem?_append_right (by omega),e,List.getElem?_append_left (by grind [u8s,List.length_replicate])]
 unfold u8s
 grind
theorem spend_by {g:Nat→AV} (h:∀ (j:Nat) c,spendT[j]? = some c→CellOk c (g j)):(spendOf g).By:=⟨u8_by (k:=5) h spendT_root,u8_by (k:=43) h spendT_payee⟩
theorem u8s_i {k:Nat} (h:k<32):(u8s 32)[k]? = some (.int .u8):=by
 unfold u8s
 rw [List.getElem?_replicate,if_pos h]
theorem spend_pf {g:Nat→AV} (h:∀ (j:Nat) c,spendT[j]? = some c→CellOk c (g j)):∀ k,k<(spendOf g).np→byB ((spendOf g).pf k) 32 :=
 fun j hj k hk=>cell_u8 ((h 79 (.sl (u8s 32)) rfl).sl_inv.2 j k (.int .u8) hj (u8s_i hk))
def gltT:List CT:=spendT++(spendT++i64s 1)
theorem gltT_1 {g:Nat→AV} (h:∀ (j:Nat) c,gltT[j]? = some c→CellOk c (g j)):∀ (j:Nat) c,spendT[j]? = some c→CellOk c (g j):=fun j c hj=>h j c (by
 show (spendT++(spendT++i64s 1))[j]? = _
 rw [List.getElem?_append_left (List.getElem?_eq_some_iff.1 hj).1]
 exact hj)
theorem gltT_2 {g:Nat→AV} (h:∀ (j:Nat) c,gltT[j]? = some c→CellOk c (g j)):∀ (j:Nat) c,spendT[j]? = some c→CellOk c (g (80+j)):=fun j c hj=>h (80+j) c (by
 show (spendT++(spendT++i64s 1))[80+j]? = _
 have e:spendT.length=80:=by decide
 rw [List.getElem?_append_right (by omega),e,Nat.add_sub_cancel_left,List.getElem?_append_left (List.getElem?_eq_some_iff.1 hj).1]
 exact hj)
noncomputable def goE (k:Bnk) (n:Int):Int:=if bnkB k=true then (if 0≤n∧n≤1099511627776 then (if n<k.now then 15 else 0) else 2) else 1
noncomputable def goK (k:Bnk) (n:Int):Bnk:=if goE k n=0 then { k with now:=n } else zbk
noncomputable def goV (k:Bnk) (n:Int):AV:=.tup [.agg (goK k n).cells,.int .i64 (goE k n)]
variable {k : Bnk} {i n : Int}
theorem go_1 (h:bnkB k=false):goE k n=1:=if_neg (by grind)
theorem go_2 (h:bnkB k=true) (g:¬n≥0∨¬n≤1099511627776):goE k n=2:=by simp_all [goE]<;>omega
theorem go_3 (h:bnkB k=true) (g:n≥0∧n≤1099511627776) (g':n<k.now):goE k n=15:=by simp_all [goE]
theorem go_4 (h:bnkB k=true) (g:n≥0∧n≤1099511627776) (g':¬n<k.now):goE k n=0:=by simp_all [goE,if_neg]
theorem goV_n {e:Int} (h:goE k n=e) (he:e≠0):goV k n=.tup [.agg zbk.cells,.int .i64 e]:=by simp_all [goV,goK]
theorem goV_y (h:goE k n=0):goV k n=.tup [.agg { k with now:=n }.cells,.int .i64 0]:=by unfold goV goK;rw [h,if_pos rfl]
def zbA:AV:=.agg [.int .i64 0,.int .i64 0,.int .i64 0,.int .i64 0,.int .i64 0,.int .i64 0,.int .i64 0,.int .i64 0,.nsl,.nsl,.nsl,.nsl,.nsl,.nsl,.nsl,.nsl,.int .u8 0,.int .u8 0,.int .u8 0,.int .u8 0,.int .u8 0,.int .u8 0,.int .u8 0,.int .u8 0,.int .u8 0,.int .u8 0,.int .u8 0,.int .u8 0,.int .u8 0,.int .u8 0,.int .u8 0,.int .u8 0,.int .u8 0,.int .u8 0,.int .u8 0,.int .u8 0,.int .u8 0,.int .u8 0,.int .u8 0,.int .u8 0,.int .u8 0,.int .u8 0,.int .u8 0,.int .u8 0,.int .u8 0,.int .u8 0,.int .u8 0,.int .u8 0,.int .i64 0,.int .i64 0]
theorem zbA_ent {os:List (Option Ob)}:Ent os zbA (.agg zbk.cells):=by
 refine Ent.agg ?_
 repeat' (first|exact trivial|exact Ent.refl _|exact Ent.nsl|refine And.intro ?_ ?_)
theorem zg_ent {os:List (Option Ob)} {e:Int} (h:goE k n=e) (he:e≠0):Ent os (.tup [zbA,.int .i64 e]) (goV k n):=by
 rw [goV_n h he]
 exact Ent.tup ⟨zbA_ent,Ent.refl _,trivial⟩
variable {b : Bas} {num x : Int} {sn : Nat} {sf : Nat → Int}
def fwS (s:Spend):Bool:=decide ((s.nl:Int)≤40)&&decide ((s.np:Int)≤30)
def fwC (c:Cus):Bool := !(decide ((c.pf.na:Int)>20)||decide ((c.pf.nz:Int)>20))
def fwH (k:Bnk):Bool:=decide (k.nr≤40)&&decide (k.ns≤40)&&decide (k.nc≤12)&&decide (k.ni≤12)&&decide (k.ng≤12)&&decide (k.ne≤200)&&decide (k.nb≤200)&&decide (k.nu≤100)
def fwK (k:Bnk):Bool:=fwH k && !anyI (fun i => !fwS (k.U i).sp) k.nu && !anyI (fun i => !(fwS (k.G i).s&&fwS (k.G i).t)) k.ng && !anyI (fun i => !fwC (k.C i)) k.nc
variable {k : Bnk}
def cusT:List CT:=[.int .i64,.sl (i64s 1),.int .i64,.sl (i64s 1),.int .i64,.bool,.int .i64]
def useT:List CT:=i64s 2++(spendT++i64s 1)
def bankT:List CT:=.int .i64::(i64s 6++([.int .i64,.sl (i64s 11),.sl (i64s 1),.sl cusT,.sl (i64s 1),.sl (i64s 4),.sl useT,.sl (i64s 21),.sl gltT]++(u8s 32++i64s 2)))
def pfOf (a c z:AV):Pf:=⟨islN a,fun i=>intOfAV (islF a i 0),intOfAV c,islN z,fun i=>intOfAV (islF z i 0)⟩
def cusOf (g:Nat→AV):Cus:=⟨intOfAV (g 0),pfOf (g 1) (g 2) (g 3),intOfAV (g 4),boolOfAV (g 5),intOfAV (g 6)⟩
def useOf (g:Nat→AV):Use:=⟨intOfAV (g 0),intOfAV (g 1),spendOf fun j=>g (2+j),intOfAV (g 82)⟩
def guiOf (g:Nat→AV):Gui:=⟨spendOf g,spendOf fun j=>g (80+j),intOfAV (g 160)⟩
def bnkOf (g:Nat→AV):Bnk:=⟨intOfAV (g 0),basOf fun j=>g (1+j),intOfAV (g 7),islN (g 8),fun i j=>intOfAV (islF (g 8) i j),islN (g 9),fun i=>intOfAV (islF (g 9) i 0),islN (g 10),fun i=>cusOf (islF (g 10) i),islN (g 11),fun i=>intOfAV (islF (g 11) i 0),
 islN (g 12),fun i j=>intOfAV (islF (g 12) i j),islN (g 13),fun i=>useOf (islF (g 13) i),islN (g 14),fun i j=>intOfAV (islF (g 14) i j),islN (g 15),fun i=>guiOf (islF (g 15) i),fun j=>intOfAV (g (16+j)),intOfAV (g 48),intOfAV (g 49)⟩
set_option maxRecDepth 100000
theorem bank_cells (g:Nat→AV):canonRow bankT g 0=(bnkOf g).cells:=by kernel_rfl
structure GuiIn (g : Gui) : Prop where
  sb : g.s.By
  tb : g.t.By
  sf : ∀ q, q < g.s.np → byB (g.s.pf q) 32
  tf : ∀ q, q < g.t.np → byB (g.t.pf q) 32
  lf : g.leaf ≤ 9223372036854775807
theorem GuiIn.ok {g:Gui} (h:GuiIn g) (h1:fwS g.s=true) (h2:fwS g.t=true):GuiOk g:=by
 simp only [fwS,Bool.and_eq_true,decide_eq_true_eq] at h1 h2
 exact ⟨by omega,by omega,h.sb,h.tb,by omega,by omega,h.sf,h.tf,h.lf⟩
structure BnkIn (k : Bnk) : Prop where
  w : k.bas.gr.W
  nr : k.nr < 9223372036854775808
  ns : k.ns < 9223372036854775808
  nc : k.nc < 9223372036854775808
  nb : k.nb < 9223372036854775808
  ne : k.ne < 9223372036854775808
  nu : k.nu < 9223372036854775808
  ni : k.ni < 9223372036854775808
  ng : k.ng < 9223372036854775808
  U : UseOk k.nu k.U
  G : ∀ i, i < k.ng → GuiIn (k.G i)
theorem BnkIn.ok {k:Bnk} (h:BnkIn k) (hf:fwK k=true):BnkOk k:=by
 simp only [fwK,Bool.and_eq_true,Bool.not_eq_true'] at hf
 refine ⟨h.w,h.nr,h.ns,h.nc,h.nb,h.ne,h.nu,h.ni,h.ng,h.U,fun i hi=>?_⟩
 have:=anyQ_f hf.1.2 i hi
 simp only [Bool.not_eq_false',Bool.and_eq_true] at this
 exact (h.G i hi).ok this.1 this.2
theorem sl_lt {cs:List CT} {a:AV} (h:CellOk (.sl cs) a):islN a<9223372036854775808:=Nat.lt_of_le_of_lt h.sl_inv.1 (by decide)
theorem gui_in {g:Nat→AV} (h:∀ (j:Nat) c,gltT[j]? = some c→CellOk c (g j)):GuiIn (guiOf g) :=
 ⟨spend_by (gltT_1 h),spend_by (gltT_2 h),spend_pf (gltT_1 h),spend_pf (gltT_2 h),(cell_i64 (h 160 _ rfl)).2⟩
theorem bank_in {g:Nat→AV} (h:∀ (j:Nat) c,bankT[j]? = some c→CellOk c (g j)):BnkIn (bnkOf g) :=
 ⟨⟨(cell_i64 (h 1 _ rfl)).2,(cell_i64 (h 2 _ rfl)).2⟩,sl_lt (h 8 _ rfl),sl_lt (h 9 _ rfl),sl_lt (h 10 _ rfl),sl_lt (h 11 _ rfl),sl_lt (h 12 _ rfl),sl_lt (h 13 _ rfl),sl_lt (h 14 _ rfl),sl_lt (h 15 _ rfl),
  ⟨fun i hi=>sl_lt ((h 13 _ rfl).sl_inv.2 i 79 _ hi rfl),fun i hi=>sl_lt ((h 13 _ rfl).sl_inv.2 i 81 _ hi rfl)⟩,fun i hi=>gui_in fun j c hj=>(h 15 _ rfl).sl_inv.2 i j c hi hj⟩
def lgS (s:Spend):Bool:=decide ((s.nl:Int)>40)||decide ((s.np:Int)>20)
def lgC (c:Cus):Bool:=decide ((c.pf.na:Int)>40)||decide ((c.pf.nz:Int)>40)
def bgH (k:Bnk):Bool:=decide (k.nu≤100)&&decide (k.ng≤30)&&decide (k.nr≤30)&&decide (k.nc≤30)&&decide (k.ni≤60)&&decide (k.ne≤200)&&decide (k.nb≤40)&&decide (k.ns≤40)
def bgK (k:Bnk):Bool := !bgH k||anyI (fun i=>lgS (k.U i).sp) k.nu||anyI (fun i=>lgS (k.G i).s||lgS (k.G i).t) k.ng||anyI (fun i=>lgC (k.C i)) k.nc
variable {k : Bnk}
theorem bgH_iff:bgH k=true↔k.nu≤100∧k.ng≤30∧k.nr≤30∧k.nc≤30∧k.ni≤60∧k.ne≤200∧k.nb≤40∧k.ns≤40:=by
 simp [bgH,and_assoc]
theorem bg_1 (g:(((((((k.nu:Int)>100∨(k.ng:Int)>30)∨(k.nr:Int)>30)∨(k.nc:Int)>30)∨(k.ni:Int)>60)∨(k.ne:Int)>200)∨(k.nb:Int)>40)∨(k.ns:Int)>40):bgK k=true:=by
 have:bgH k=false:=ff_of fun e=>by grind [bgH_iff]
 grind [bgK]
theorem bg_4 (g:(((((((¬(k.nu:Int)>100∧¬(k.ng:Int)>30)∧¬(k.nr:Int)>30)∧¬(k.nc:Int)>30)∧¬(k.ni:Int)>60)∧¬(k.ne:Int)>200)∧¬(k.nb:Int)>40)∧¬(k.ns:Int)>40)) :
  (anyI (fun i=>lgS (k.U i).sp) k.nu||anyI (fun i=>lgS (k.G i).s||lgS (k.G i).t) k.ng||anyI (fun i=>lgC (k.C i)) k.nc)=bgK k:=by grind [bgH,bgH_iff,bgK]
theorem bg_no (h:bgK k=false):bgH k=true∧(∀ i,i<k.ng→(lgS (k.G i).s||lgS (k.G i).t)=false):=by grind [bgK,Bool.or_eq_false_iff,Bool.not_eq_false',anyQ_f]
theorem lg_fw {s:Spend} (h:lgS s=false):s.nl≤40∧s.np≤20:=by grind [lgS,Bool.or_eq_false_iff,decide_eq_false_iff_not]
theorem lg_t {s:Spend} (h:lgS s=false):fwS s=true:=by
 have:=lg_fw h
 simp only [fwS,Bool.and_eq_true,decide_eq_true_eq]
 omega
theorem BnkIn.bg {k:Bnk} (h:BnkIn k) (hf:bgK k=false):BnkOk k:=by
 refine ⟨h.w,h.nr,h.ns,h.nc,h.nb,h.ne,h.nu,h.ni,h.ng,h.U,fun i hi=>?_⟩
 have:=(bg_no hf).2 i hi
 rw [Bool.or_eq_false_iff] at this
 exact (h.G i hi).ok (lg_t this.1) (lg_t this.2)
theorem rcv_of (hb:bnkB k=true) {i:Nat} (hi:i<k.nr):rcvB k.bas (rcdOf (k.R i))=true∧fnI k.R k.nr (k.R i 0) (k.R i 1) (k.R i 2)=(i:Int):=by
 have r:=(bnkB_iff.1 hb).2.1
 simp only [rcsB,Bool.and_eq_true,List.all_eq_true,List.mem_range] at r
 grind [okR_iff]
theorem bg_cnt (hf:bgK k=false) (hb:bnkB k=true) {i:Nat} (hi:i<k.nr):CntOk k (k.R i):=by
 have b:=bgH_iff.1 (bg_no hf).1
 have r:=(rcv_of hb hi).1
 simp only [rcvB,Bool.and_eq_true] at r
 refine ⟨one_lf r.2,b.2.1,fun j hj=>?_,b.1,by omega,(bnkB_iff.1 hb).2.2.2.2.2.1⟩
 have:=(bg_no hf).2 j hj
 grind [Bool.or_eq_false_iff,lg_fw]
theorem bg_valid (hf:bgK k=false) (hb:bnkB k=true) {i:Nat} (hi:i<k.nr):validS (cntS k (k.R i))=true:=by
 have c:=bg_cnt hf hb hi
 have r:=(rcv_of hb hi).1
 simp only [rcvB,numR,rngB,Bool.and_eq_true,decide_eq_true_eq] at r
 refine cnt_valid c.lf ⟨?_,?_,?_⟩ c.ng (fun j hj=>(c.nl j hj).1) c.nu c.ni
 ·exact ⟨r.1.1.2.1.1.1.1.1.1,r.1.1.2.1.1.1.1.1.2⟩
 ·exact ⟨r.1.1.2.1.1.1.1.2.1,r.1.1.2.1.1.1.1.2.2⟩
 ·exact ⟨r.1.2.1,r.1.2.2⟩
end Go.Sp

namespace Go.Proofs.YtcageinnelhonaaGreatDoor
open Go.IntKind (wrap)
open Int (toNat)
open Go Go.Am Go.Sp
set_option maxRecDepth 100000
theorem big1_c (s:Spend):Pure Tryz.prog gl0 17 [s.av] (.bool (lgS s)):=by
 exact pz Tryz.func17 (by
  exact n_or)
theorem big2_c (u:Use):Pure Tryz.prog gl0 19 [.agg u.cells,.ipt 1 (atL [.fn (.func 17) [] []])] (.bool (lgS u.sp)):=by
 have c1:=big1_c u.sp
 exact pz Tryz.func19 (by
  apply n_sc (c1)
  exact n_or)
theorem big3_c (g:Gui):Pure Tryz.prog gl0 21 [.agg g.cells,.ipt 1 (atL [.fn (.func 17) [] []])] (.bool (lgS g.s||lgS g.t)):=by
 have c1:=big1_c g.s
 have c2:=big1_c g.t
 exact pz Tryz.func21 (by
  apply n_sc (c1)
  apply n_scg (lgS g.1==false) (fun h1=>c2)
  exact n_or)
theorem big4_c (c:Cus):Pure Tryz.prog gl0 23 [.agg c.cells] (.bool (lgC c)):=by
 exact pz Tryz.func23 (by
  exact n_or)
theorem jdxU2 (n:Nat) (F:Nat→Use) (hn:n<9223372036854775808):Pure Tryz.prog gl0 49 [useA n F,.fn (.func 19) [] [.ipt 1 (atL [.fn (.func 17) [] []])]] (.int .i64 (firstI (fun i=>lgS (F i).sp) n 0)):=by
 have c1:=fun i=>big2_c (F i)
 exact pz Tryz.func49 (by
  apply n_loop ({ x:Nat // x≤n∧(fun (i:Nat)=>firstI (fun (i:Nat)=>lgS (Use.sp (F i))) n 0=firstI (fun (i:Nat)=>lgS (Use.sp (F i))) (n - i) i) x }) [0,1,7,8] ([]) (fun x=>[AV.isl 83 n fun (i j:Nat)=>atL (Use.cells (F i)) j,AV.fn (Fn.func (19:FuncId)) [] [AV.ipt 1 (atL [AV.fn (Fn.func (17:FuncId)) [] []])],Zi (↑n:Int),Zi (↑(x.1):Int)]) (fun _=>[]) (fun x=>n - x.1) (⟨0,⟨Nat.zero_le n,rfl⟩⟩)
  intro x0
  try (have q0:=x0.2;dsimp only at q0)
  apply n_bd ((↑x0.1:Int)<(↑n:Int))
  ·intro g1
   apply n_req ((0:Int)≤(↑x0.1:Int)∧(↑x0.1:Int)<(↑n:Int))
   apply n_sc (c1 (toNat (↑(x0.1):Int)))
   apply n_br (lgS (F (toNat (↑(x0.1):Int))).3)
   ·intro g4
    try simp only [Int.toNat_natCast] at g4
    exact n_out (Ent.of_eq (congrArg _ (first_hit x0.2.2 (by omega) (by omega))))
   ·intro g4
    try simp only [Int.toNat_natCast] at g4
    exact n_again ([]) (⟨x0.1+1,by omega,first_next x0.2.2 (by omega) (by omega)⟩) (ek3 (en (inc_ent (by omega))))
  ·intro g1
   exact n_out (Ent.of_eq (congrArg _ (first_miss x0.2.2 (by omega)))))
theorem jonU2 (n:Nat) (F:Nat→Use) (hn:n<9223372036854775808):Pure Tryz.prog gl0 18 [useA n F,.fn (.func 19) [] [.ipt 1 (atL [.fn (.func 17) [] []])]] (.bool (anyI (fun i=>lgS (F i).sp) n)):=by
 exact pz Tryz.func18 (by
  apply n_sc ((jdxU2 n F hn))
  exact n_or)
theorem jdxG3 (n:Nat) (F:Nat→Gui) (hn:n<9223372036854775808):Pure Tryz.prog gl0 50 [guiA n F,.fn (.func 21) [] [.ipt 1 (atL [.fn (.func 17) [] []])]] (.int .i64 (firstI (fun i=>lgS (F i).s||lgS (F i).t) n 0)):=by
 have c1:=fun i=>big3_c (F i)
 exact pz Tryz.func50 (by
  apply n_loop ({ x:Nat // x≤n∧(fun (i:Nat)=>firstI (fun (i:Nat)=>lgS (Gui.s (F i))||lgS (Gui.t (F i))) n 0=firstI (fun (i:Nat)=>lgS (Gui.s (F i))||lgS (Gui.t (F i))) (n - i) i) x }) [0,1,7,8] ([]) (fun x=>[AV.isl 161 n fun (i j:Nat)=>atL (Gui.cells (F i)) j,AV.fn (Fn.func (21:FuncId)) [] [AV.ipt 1 (atL [AV.fn (Fn.func (17:FuncId)) [] []])],Zi (↑n:Int),Zi (↑(x.1):Int)]) (fun _=>[]) (fun x=>n - x.1) (⟨0,⟨Nat.zero_le n,rfl⟩⟩)
  intro x0
  try (have q0:=x0.2;dsimp only at q0)
  apply n_bd ((↑x0.1:Int)<(↑n:Int))
  ·intro g1
   apply n_req ((0:Int)≤(↑x0.1:Int)∧(↑x0.1:Int)<(↑n:Int))
   apply n_sc (c1 (toNat (↑(x0.1):Int)))
   apply n_br (lgS (F (toNat (↑(x0.1):Int))).1||lgS (F (toNat (↑(x0.1):Int))).2)
   ·intro g4
    try simp only [Int.toNat_natCast] at g4
    exact n_out (Ent.of_eq (congrArg _ (first_hit x0.2.2 (by omega) (by grind))))
   ·intro g4
    try simp only [Int.toNat_natCast] at g4
    exact n_again ([]) (⟨x0.1+1,by omega,first_next x0.2.2 (by omega) (by grind)⟩) (ek3 (en (inc_ent (by omega))))
  ·intro g1
   exact n_out (Ent.of_eq (congrArg _ (first_miss x0.2.2 (by omega)))))
theorem jonG3 (n:Nat) (F:Nat→Gui) (hn:n<9223372036854775808):Pure Tryz.prog gl0 20 [guiA n F,.fn (.func 21) [] [.ipt 1 (atL [.fn (.func 17) [] []])]] (.bool (anyI (fun i=>lgS (F i).s||lgS (F i).t) n)):=by
 exact pz Tryz.func20 (by
  apply n_sc ((jdxG3 n F hn))
  exact n_or)
theorem jdxC4 (n:Nat) (F:Nat→Cus) (hn:n<9223372036854775808):Pure Tryz.prog gl0 51 [cusA n F,.fn (.func 23) [] []] (.int .i64 (firstI (fun i=>lgC (F i)) n 0)):=by
 have c1:=fun i=>big4_c (F i)
 exact pz Tryz.func51 (by
  apply n_loop ({ x:Nat // x≤n∧(fun i=>firstI (fun i=>lgC (F i)) n 0=firstI (fun i=>lgC (F i)) (n - i) i) x }) [0,1,7,8] [] (fun x=>[.isl 7 n fun i j=>atL (Cus.cells (F i)) j,AV.fn (Fn.func (23:FuncId)) [] [],Zi n,Zi x.1]) (fun _=>[]) (fun x=>n - x.1) (⟨0,⟨Nat.zero_le n,rfl⟩⟩)
  intro x0
  try (have q0:=x0.2;dsimp only at q0)
  apply n_bd ((x0.1:Int)<(n:Int))
  ·intro g1
   apply n_req (0≤(x0.1:Int)∧(x0.1:Int)<(n:Int))
   apply n_sc (c1 (toNat (↑(x0.1):Int)))
   apply n_br (lgC (F (toNat (x0.1:Int))))
   ·intro g4
    try simp only [Int.toNat_natCast] at g4
    exact n_out (Ent.of_eq (congrArg _ (first_hit x0.2.2 (by omega) (by omega))))
   ·intro g4
    try simp only [Int.toNat_natCast] at g4
    exact n_again [] (⟨x0.1+1,by omega,first_next x0.2.2 (by omega) (by omega)⟩) (ek3 (en (inc_ent (by omega))))
  ·intro g1
   exact n_out (Ent.of_eq (congrArg _ (first_miss x0.2.2 (by omega)))))
theorem jonC4 (n:Nat) (F:Nat→Cus) (hn:n<9223372036854775808):Pure Tryz.prog gl0 22 [cusA n F,.fn (.func 23) [] []] (.bool (anyI (fun i=>lgC (F i)) n)):=by
 exact pz Tryz.func22 (by
  apply n_sc ((jdxC4 n F hn))
  exact n_or)
theorem big_c (k:Bnk) (hu:k.nu<9223372036854775808) (hg:k.ng<9223372036854775808) (hc:k.nc<9223372036854775808):Pure Tryz.prog gl0 6 [.agg k.cells] (.bool (bgK k)):=by
 have c1:=jonU2 k.nu k.U hu
 have c2:=jonG3 k.ng k.G hg
 have c3:=jonC4 k.nc k.C hc
 exact pz Tryz.func6 (by
  apply n_br (decide ((k.14:Int)>100)||decide ((k.18:Int)>30)||decide ((k.4:Int)>30)||decide ((k.8:Int)>30)||decide ((k.16:Int)>60)||decide ((k.12:Int)>200)||decide ((k.10:Int)>40)||decide ((k.6:Int)>40))
  ·intro g0
   exact n_out (Ent.of_eq (congrArg AV.bool (bg_1 g0).symm))
  ·intro g0
   apply n_sc (c1)
   apply n_scg (anyI (fun i=>lgS (Bnk.U k i).3) k.14==false) (fun h3=>c2)
   apply n_scg ((anyI (fun i=>lgS (Bnk.U k i).3) k.14||anyI (fun i=>lgS (Bnk.G k i).1||lgS (Bnk.G k i).2) k.18)==false) (fun h4=>c3)
   exact n_out (Ent.of_eq (congrArg AV.bool (bg_4 g0))))
theorem cpS_c (s:Spend) (hl:s.nl≤1000) (hp:s.np≤1000):Pure Tryz.prog gl0 98 [s.av] s.av:=by
 have c1:=kcL_c s.nl s.lf (by omega)
 have c2:=kcH_c s.np s.pf (by omega)
 exact pz Tryz.func98 (by
  apply n_dc (c1)
  apply n_dc (c2)
  exact n_or)
theorem cpG_c (g:Gui) (h1:g.s.nl≤1000) (h2:g.s.np≤1000) (h3:g.t.nl≤1000) (h4:g.t.np≤1000):Pure Tryz.prog gl0 100 [.agg g.cells] (.agg g.cells):=by
 have c1:=cpS_c g.s h1 h2
 have c2:=cpS_c g.t h3 h4
 exact pz Tryz.func100 (by
  apply n_dc (c1)
  apply n_dc (c2)
  exact n_or)
theorem cpA_c (y:Int) (p:Pf) (h1:p.na≤1000) (h2:p.nz≤1000):Pure Tryz.prog gl0 95 [.agg (.int .i64 y::p.cells)] (.agg (.int .i64 y::p.cells)):=by
 have c1:=kcN_c p.na p.a (by omega)
 have c2:=kcN_c p.nz p.z (by omega)
 exact pz Tryz.func95 (by
  apply n_dc (c1)
  apply n_dc (c2)
  exact n_or)
theorem cp1_c (c:Cus) (h1:c.pf.na≤1000) (h2:c.pf.nz≤1000):Pure Tryz.prog gl0 94 [.agg c.cells] (.agg c.cells):=by
 have c1:=cpA_c c.key c.pf h1 h2
 exact pz Tryz.func94 (by
  apply n_dc (c1)
  exact n_or)
theorem cp2_c (u:Use) (h1:u.sp.nl≤1000) (h2:u.sp.np≤1000):Pure Tryz.prog gl0 97 [.agg u.cells] (.agg u.cells):=by
 have c1:=cpS_c u.sp h1 h2
 exact pz Tryz.func97 (by
  apply n_dc (c1)
  exact n_or)
def owC:FuncId→Option (List Bool):=fun f=>bif Nat.beq f 162||Nat.beq f 163||Nat.beq f 166||Nat.beq f 93 then some [false] else none
theorem mapC_c (n:Nat) (C:Nat→Cus) (hn:n≤1000) (h:∀ i,i<n→(C i).pf.na≤1000∧(C i).pf.nz≤1000):Gives Tryz.prog gl0 93 [] [cusA n C,.fn (.func 94) [] []] (.osl 0 7 0 n) [some ⟨7,n,true,.row fun i=>(C i).cells⟩]:=by
 have c1:=kcC_c n C (by omega)
 have c2:=fun i (hi:i<n)=>cp1_c (C i) (h i hi).1 (h i hi).2
 exact gz owC Tryz.func93 (by
  apply n_gc (c1)
  apply n_loop ({ x:Nat // x≤n }) [1,5,10,11] [16] (fun x=>[AV.fn (Fn.func (94:FuncId)) [] [],.osl 0 7 0 n,Zi n,Zi x.1]) (fun _=>[some ⟨7,n,true,Rep.row fun i=>Cus.cells (C i)⟩]) (fun x=>n - x.1) (⟨0,Nat.zero_le n⟩)
  intro x1
  try (have q1:=x1.2;dsimp only at q1)
  apply n_bd ((x1.1:Int)<(n:Int))
  ·intro g2
   apply n_req (0≤(x1.1:Int)∧(x1.1:Int)<(n:Int))
   apply n_dc (c2 (toNat (↑(x1.1):Int)+0) (by omega))
   apply n_req (0≤(x1.1:Int)∧(x1.1:Int)<(n:Int))
   exact n_againx [0] (⟨x1.1+1,by omega⟩) [AV.fn (Fn.func (94:FuncId)) [] [],.osl 0 7 0 n,Zi n,Zi (wrap .i64 ((x1.1:Int)+1))] [some ⟨7,n,true,Rep.put (toNat (x1.1:Int)+0) (Cus.cells (C (toNat (↑(x1.1):Int)+0))) (Rep.row fun i=>Cus.cells (C i))⟩] (⟨.refl _,.refl _,.refl _,inc_ent (by omega),trivial⟩) (⟨ObEnt.put (fun j _ _=>Ent.refl _) (fun i j _ _ _=>Ent.refl _),trivial⟩)
  ·intro g2
   exact n_org)
theorem mapU_c (n:Nat) (U:Nat→Use) (hn:n≤100000) (h:∀ i,i<n→(U i).sp.nl≤1000∧(U i).sp.np≤1000):Pure Tryz.prog gl0 96 [useA n U,.fn (.func 97) [] []] (useA n U):=by
 have c1:=kcU_c n U (by omega)
 have c2:=fun i (hi:i<n)=>cp2_c (U i) (h i hi).1 (h i hi).2
 exact pzo owC Tryz.func96 (by
  apply n_gc (c1)
  apply n_loop ({ x:Nat // x≤n }) [1,5,10,11] ([16]) (fun x=>[AV.fn (Fn.func (97:FuncId)) [] [],AV.osl 0 83 0 n,Zi (↑n:Int),Zi (↑(x.1):Int)]) (fun _=>[some ⟨83,n,true,Rep.row fun (i:Nat)=>Use.cells (U i)⟩]) (fun x=>n - x.1) (⟨0,Nat.zero_le n⟩)
  intro x1
  try (have q1:=x1.2;dsimp only at q1)
  apply n_bd ((↑x1.1:Int)<(↑n:Int))
  ·intro g2
   apply n_req ((0:Int)≤(↑x1.1:Int)∧(↑x1.1:Int)<(↑n:Int))
   apply n_dc (c2 (toNat (↑(x1.1):Int)+0) (by omega))
   apply n_req ((0:Int)≤(↑x1.1:Int)∧(↑x1.1:Int)<(↑n:Int))
   exact n_againx ([0]) (⟨x1.1+1,by omega⟩) ([AV.fn (Fn.func (97:FuncId)) [] [],AV.osl 0 83 0 n,Zi (↑n:Int),Zi (wrap .i64 ((↑x1.1:Int)+1))]) ([some ⟨83,n,true,Rep.put (toNat (↑x1.1:Int)+0) (Use.cells (U (toNat (↑(x1.1):Int)+0))) (Rep.row fun (i:Nat)=>Use.cells (U i))⟩]) (⟨.refl _,.refl _,.refl _,inc_ent (by omega),trivial⟩) (⟨ObEnt.put (fun j _ _=>Ent.refl _) (fun i j _ _ _=>Ent.refl _),trivial⟩)
  ·intro g2
   exact n_or)
theorem mapG_c (n:Nat) (G:Nat→Gui) (hn:n≤100000) (h:∀ i,i<n→((G i).s.nl≤1000∧(G i).s.np≤1000)∧((G i).t.nl≤1000∧(G i).t.np≤1000)):Pure Tryz.prog gl0 99 [guiA n G,.fn (.func 100) [] []] (guiA n G):=by
 have c1:=kcG_c n G (by omega)
 have c2:=fun i (hi:i<n)=>cpG_c (G i) (h i hi).1.1 (h i hi).1.2 (h i hi).2.1 (h i hi).2.2
 exact pzo owC Tryz.func99 (by
  apply n_gc (c1)
  apply n_loop ({ x:Nat // x≤n }) [1,5,10,11] ([16]) (fun x=>[AV.fn (Fn.func (100:FuncId)) [] [],AV.osl 0 161 0 n,Zi (↑n:Int),Zi (↑(x.1):Int)]) (fun _=>[some ⟨161,n,true,Rep.row fun (i:Nat)=>Gui.cells (G i)⟩]) (fun x=>n - x.1) (⟨0,Nat.zero_le n⟩)
  intro x1
  try (have q1:=x1.2;dsimp only at q1)
  apply n_bd ((↑x1.1:Int)<(↑n:Int))
  ·intro g2
   apply n_req ((0:Int)≤(↑x1.1:Int)∧(↑x1.1:Int)<(↑n:Int))
   apply n_dc (c2 (toNat (↑(x1.1):Int)+0) (by omega))
   apply n_req ((0:Int)≤(↑x1.1:Int)∧(↑x1.1:Int)<(↑n:Int))
   exact n_againx ([0]) (⟨x1.1+1,by omega⟩) ([AV.fn (Fn.func (100:FuncId)) [] [],AV.osl 0 161 0 n,Zi (↑n:Int),Zi (wrap .i64 ((↑x1.1:Int)+1))]) ([some ⟨161,n,true,Rep.put (toNat (↑x1.1:Int)+0) (Gui.cells (G (toNat (↑(x1.1):Int)+0))) (Rep.row fun (i:Nat)=>Gui.cells (G i))⟩]) (⟨.refl _,.refl _,.refl _,inc_ent (by omega),trivial⟩) (⟨ObEnt.put (fun j _ _=>Ent.refl _) (fun i j _ _ _=>Ent.refl _),trivial⟩)
  ·intro g2
   exact n_or)
theorem copied_g (k:Bnk) (h:BnkS k):Gives Tryz.prog gl0 42 [] [.agg k.cells] (.agg (k.cw (.osl 0 7 0 k.nc))) [some ⟨7,k.nc,true,.row fun i=>(k.C i).cells⟩]:=by
 have s1:=h.nr;have s2:=h.ns;have s3:=h.nc;have s4:=h.nb;have s5:=h.ne;have s6:=h.nu;have s7:=h.ni;have s8:=h.ng
 have c1:=kcR_c k.nr k.R (by omega)
 have c2:=kcN_c k.ns k.X (by omega)
 have c3:=kcI_c k.ni k.I (by omega)
 have c4:=kcN_c k.nb k.B (by omega)
 have c5:=kcE_c k.ne k.E (by omega)
 have c6:=mapC_c k.nc k.C (by omega) h.C
 have c7:=mapU_c k.nu k.U (by omega) h.U
 have c8:=mapG_c k.ng k.G (by omega) h.G
 exact gz owC Tryz.func42 (by
  apply n_dc (c1)
  apply n_dc (c2)
  apply n_dc (c3)
  apply n_dc (c4)
  apply n_dc (c5)
  apply n_gc (c6)
  apply n_dc (c7)
  apply n_dc (c8)
  exact n_org)
def owB:FuncId→Option (List Bool):=fun f=>bif Nat.beq f 42 then some [false] else none
theorem bgo_c (k:Bnk) (hk:BnkOk k) (n:Int):Pure Tryz.prog gl0 14 [.agg k.cells,.int .i64 n] (goV k n):=by
 have c1:=bval_c k hk
 have c4:=fun h=>copied_g k (bnk_S hk h)
 exact pzo owB Tryz.func14 (by
  apply n_sc (c1)
  apply n_br (!bnkB k)
  ·intro g1
   exact n_out (zg_ent (go_1 g1) (by decide))
  ·intro g1
   apply n_sc (bin_c (n) ((0:Int)) ((1099511627776:Int)))
   apply n_br (!(decide (n≥0)&&decide (n≤1099511627776)))
   ·intro g4
    exact n_out (zg_ent (go_2 g1 g4) (by decide))
   ·intro g4
    apply n_bd (n<k.22)
    ·intro g6
     exact n_out (zg_ent (go_3 g1 g4 g6) (by decide))
    ·intro g6
     apply n_gc (c4 (by assumption))
     exact n_outx (.tup [.agg (Zi k.1::(Bas.cells (Bnk.bas k)++Zi k.3::(.isl 11 k.4 fun i j=>Zi (k.5 i j))::(.isl 1 k.6 fun i x=>Zi (k.7 i))::(.isl 7 k.8 fun r k_1=>atL (Cus.cells (Bnk.C k (r+0))) k_1)::(.isl 1 k.10 fun i x=>Zi (k.11 i))::(.isl 4 k.12 fun i j=>Zi (k.13 i j))::(.isl 83 k.14 fun i j=>atL (Use.cells (Bnk.U k i)) j)::(.isl 21 k.16 fun i j=>Zi (k.17 i j))::(.isl 161 k.18 fun i j=>atL (Gui.cells (Bnk.G k i)) j)::(u8c k.20++[Zi k.21,Zi n]))),Zi 0]) (Ent.of_eq (by rw [goV_y (go_4 g1 g4 g6)];rfl)))
end Go.Proofs.YtcageinnelhonaaGreatDoor

namespace Go.Am
open Go.IntKind (wrap)
open Int (toNat)
def fB {α:Type 1} (b:Bool) (k:Bool→α):α:=match b with|true=>k true|false=>k false
structure Bx : Type 1 where
  l : List (List AV)
structure OpqD : Type 1 where
  c : Code
  ns : List Nat
  vs : List AV
  obs : List (Option Ob)
  s' : ASt
structure LoopF : Type 1 where
  ι : Type
  ch : ι → List (Nat × AV)
  obs : ι → List (Nat × Option Ob)
  m : ι → Nat
  i0 : ι
def LoopF.cnt (n:Nat) (ch:Nat→List (Nat×AV)) (obs:Nat→List (Nat×Option Ob)):LoopF :=
 ⟨{x:Nat // x≤n},fun x=>ch x.1,fun x=>obs x.1,fun x=>n - x.1,⟨0,Nat.zero_le _⟩⟩
def LoopF.st (α:Type) (p:α→Prop) (ch:α→List (Nat×AV)) (obs:α→List (Nat×Option Ob)) (m:α→Nat) (a:α) (h:p a):LoopF :=
 ⟨{x:α // p x},fun x=>ch x.1,fun x=>obs x.1,fun x=>m x.1,⟨a,h⟩⟩
inductive FR : Type 1 where
  | lst (l : List (List AV))
  | row (l : List AV)
  | fn (a : AV)
  | cat (n : Nat) (f g : FR)
  | put (k : Nat) (x : List AV) (f : FR)
  | ty (t : TypeId) (f : FR)
inductive FO : Type 1 where
  | no
  | ob (es n : Nat) (mu : Bool) (r : FR)
structure FOs : Type 1 where
  l : List FO
end Go.Am

namespace Go.Am
open Go.IntKind (wrap)
open Int (toNat)
open Go.RowKit
theorem Sim.slots {K:Ctx} {β:Book} {s s':ASt} {a a':Act} {w:World} (hs:Sim K β s a w) (hH:s'.H=s.H) (hc:s'.c=s.c) (hsz:a'.tmps.size=a.tmps.size) (hd:a'.defers=a.defers) (h:∀ n,Rel β w (s'.fr n) (a'.tmps.getD n undef)):Sim K β s' a' w :=
 ⟨h,hsz.trans hs.size,by rw [hd];exact hs.defers,fun id o ho=>hs.heap id o (hH▸ho),hs.inj,fun id h=>hs.fresh id (hc▸h),hs.live,hs.giv,hs.bF,hs.hF,hs.kept,hs.hB,hs.glob⟩
theorem lookZ_cons_ne {m n:Nat} {ns:List Nat} {v:AV} {vs:List AV} (h:m≠n):lookZ (m::ns) (v::vs) n=lookZ ns vs n:=by
 have hb:Nat.beq m n=false:=by grind [Nat.beq,absurd,Nat.eq_of_beq_eq_true]
 simp_all [lookZ,cond_false]
theorem lookZ_cons_eq {m:Nat} {ns:List Nat} {v:AV} {vs:List AV}:lookZ (m::ns) (v::vs) m=v:=by simp [lookZ]
theorem getD_put_eq {a:Act} {d:Nat} {v:Value} (h:d<a.tmps.size):(a.put (some d) v).tmps.getD d undef=v:=by simp [Act.put,Array.getD_eq_getD_getElem?,h]
theorem Sim.put {K:Ctx} {β:Book} {ns:List Nat} {vs:List AV} {obs:List (Option Ob)} {a:Act} {w:World} {d:Nat} {v:Value} {x:AV} (hs:Sim K β (mkSt ns vs obs) a w) (hdt:d<K.nt) (hr:Rel β w x v):Sim K β (mkSt (d::ns) (x::vs) obs) (a.put (some d) v) w:=by
 have hdt':d<a.tmps.size:=by rw [hs.size];omega
 refine hs.slots rfl rfl (by simp [Act.put]) rfl (fun n=>?_)
 show Rel β w (lookZ (d::ns) (x::vs) n) _
 by_cases h:d=n
 ·grind [lookZ_cons_eq,getD_put_eq]
 ·rw [lookZ_cons_ne h,getD_put_ne (Ne.symm h)]
  exact hs.slot n
theorem Sim.drop {K:Ctx} {β:Book} {ns:List Nat} {vs:List AV} {obs:List (Option Ob)} {a:Act} {w:World} {d:Nat} {x:AV} (hd:d∉ns) (hs:Sim K β (mkSt (d::ns) (x::vs) obs) a w):Sim K β (mkSt ns vs obs) a w:=by
 refine hs.slots rfl rfl rfl rfl (fun n=>?_)
 show Rel β w (lookZ ns vs n) _
 by_cases h:d=n
 ·subst h;rw [lookZ_none hd];exact .junk
 ·have:=hs.slot n
  have e:(mkSt (d::ns) (x::vs) obs).fr n=lookZ ns vs n:=lookZ_cons_ne h
  grind
theorem SetIn.put {P:Program} {w:World} {b n:Nat} {M:Int→Bool} {t k e:TypeId} {A:Int} (h:SetIn w b n M) (ht:P.underlying t=some (.map k e)) (hk:P.underlying k=some (.int .i64)) (he:P.underlying e=some .bool) (hn:n<maxLen) (hA:(Lit.int .i64 A).wf=true) :
  ∃ w',(Instr.mapUpdate t (.map (some b)) (.int .i64 A) (.bool true)).run P w=.ok () w'∧SetIn w' b (n+1) (fun y=>M y||decide (y=A))∧w.grownBy w' (some b):=by
 obtain ⟨P',k',e',D,g1,g2,g3,g4⟩:=h
 have own:=plain_any g1 g2 hk he g3
 obtain ⟨w',r1,r2,r3⟩:=own.update (Maps.int_keyed hk) ht hn (Maps.keyOf_int_mk hk hA) (plainElem_bool he true)
 refine ⟨w',r1,⟨P,k,e,_,hk,he,r2,fun x hx=>?_⟩,r3⟩
 by_cases hxa:x=A
 ·subst hxa
  rw [Maps.atKey_put_same (own.isMap) ((Maps.int_keyed hk).key (Maps.keyOf_int_mk hk hA))]
  simp
 grind [Maps.atKey_put_other]
theorem Round.wp {K:Ctx} {own:FuncId→Option (List Bool)} {ng:Nat} {c:Code} {s s':ASt} {β:Book} {a:Act} {w:World} {pins:List Nat} {Q:Exit→Act→World→Prop} (hr:Round K.P K.gl own ng K.nt c s s') (hk:keepsC pins c=true) (hng:∀ id,ng≤id→K.b0 id=none) (hm:K.P.follows .mixedOrders=true) (hs:Sim K β s a w)
  (hQ:∀ β' a' w',Sim K β' s' a' w'→PinIn pins a a'→Q .normal a' w'):c.wp K.P Q a w:=by
 refine wp_mono (wpIn_wide (n:=9).1 (Round.in (F:=Fence.wide) hr (.inl rfl) hk hng hm hs)) ?_
 grind
end Go.Am

namespace Go.Proofs.YtcageinnelhonaaGreatDoor.U
open Go.IntKind (wrap)
open Int (toNat)
open Go Go.Am Go.Sp
set_option maxRecDepth 100000
theorem mixed:Tryz.prog.follows .mixedOrders=true:=by kernel_rfl
def ow0:FuncId→Option (List Bool):=fun _=>none
def owR (n:Nat):FuncId→Option (List Bool):=fun f=>bif Nat.beq f 999999999 then some (List.replicate n true) else none
def gl0:Globs:=fun _=>none
theorem nan_c (n:Int):Pure Tryz.prog gl0 172 [.int .i64 n] (.bool false):=by
 exact pz Tryz.func172 (by
  exact n_outx (.bool (n != n)) (Ent.of_eq (by simp_all)))
theorem cmpI_c (a b:Int):Pure Tryz.prog gl0 107 [.int .i64 a,.int .i64 b] (.int .i64 (cmpI a b)):=by
 exact pz Tryz.func107 (by
  apply n_sc (nan_c (a))
  apply n_sc (nan_c (b))
  apply n_ff
  apply n_ff
  apply n_bd (a<b)
  ·intro g4
   exact n_outx (Zi (-1)) (Ent.of_eq (congrArg (AV.int _) (by unfold cmpI;split<;>(try split)<;>omega)))
  ·intro g4
   apply n_bd (a>b)
   ·intro g6
    exact n_outx (Zi 1) (Ent.of_eq (congrArg (AV.int _) (by unfold cmpI;split<;>(try split)<;>omega)))
   ·intro g6
    exact n_outx (Zi 0) (Ent.of_eq (congrArg (AV.int _) (by unfold cmpI;split<;>(try split)<;>omega))))
theorem or_c (a b c:Int):Pure Tryz.prog gl0 106 [.isl 1 3 fun i j=>atL (List.getD [[AV.int .i64 a],[AV.int .i64 b],[AV.int .i64 c]] i []) j] (.int .i64 (if a≠0 then a else if b≠0 then b else c)):=by
 exact pzo (owR 4) Tryz.func106 (by
  apply n_tt
  apply n_req ((0:Int)≤0∧(0:Int)<3)
  apply n_br (a != 0)
  ·intro _
   exact n_outx (Zi a) (Ent.of_eq (congrArg (AV.int _) (by simp_all)))
  ·intro _
   apply n_tt
   apply n_req ((0:Int)≤wrap .i64 ((0:Int)+1)∧wrap .i64 ((0:Int)+1)<3)
   apply n_br (b != 0)
   ·intro _
    exact n_outx (Zi b) (Ent.of_eq (congrArg (AV.int _) (by simp_all)))
   ·intro _
    apply n_tt
    apply n_req ((0:Int)≤wrap .i64 (wrap .i64 ((0:Int)+1)+1)∧wrap .i64 (wrap .i64 ((0:Int)+1)+1)<3)
    apply n_br (c != 0)
    ·intro _
     exact n_outx (Zi c) (Ent.of_eq (congrArg (AV.int _) (by simp_all)))
    ·intro _
     apply n_ff
     exact n_outx (Zi 0) (Ent.of_eq (congrArg (AV.int _) (by simp_all))))
theorem compare_c (a b:Sup):Pure Tryz.prog gl0 47 [.agg a.cells,.agg b.cells] (.int .i64 (cmpS a b)):=by
 exact pz Tryz.func47 (by
  apply n_sc (cmpI_c (a.1) (b.1))
  apply n_sc (cmpI_c (a.2) (b.2))
  apply n_sc (cmpI_c (a.3) (b.3))
  apply n_sc (or_c (cmpI a.1 b.1) (cmpI a.2 b.2) (cmpI a.3 b.3))
  exact n_outx (Zi (if cmpI a.1 b.1≠(0:Int) then cmpI a.1 b.1 else if cmpI a.2 b.2≠(0:Int) then cmpI a.2 b.2 else cmpI a.3 b.3)) (Ent.of_eq (congrArg (AV.int _) (by unfold cmpS;rfl))))
theorem outst_c (s:Sup):Pure Tryz.prog gl0 43 [.agg s.cells] (.int .i64 (leftS s)):=by
 exact pz Tryz.func43 (by
  exact n_or)
theorem amounts_1 (s:Sup):Gives Tryz.prog gl0 40 [⟨7,1,true,.lst [s.cells]⟩] [.own 0 7 0 0 7] (.agg [.own 0 7 0 3 1,.own 0 7 0 4 1,.own 0 7 0 5 1,.own 0 7 0 6 1]) [some ⟨7,1,true,.lst [s.cells]⟩]:=by
 exact gz ow0 Tryz.func40 (by
  exact n_org)
theorem amounts_c (n i:Nat) (_:i<n) (f:Nat→Sup):Gives Tryz.prog gl0 40 [⟨7,n,true,.row fun k=>(f k).cells⟩] [.own 0 7 i 0 7] (.agg [.own 0 7 i 3 1,.own 0 7 i 4 1,.own 0 7 i 5 1,.own 0 7 i 6 1]) [some ⟨7,n,true,.row fun k=>(f k).cells⟩]:=by
 exact gz ow0 Tryz.func40 (by
  exact n_org)
theorem ipt_ext {os:List (Option Ob)} {m:Nat} {f g:Nat→AV} (h:∀ j,j<m→f j=g j):Ent os (.ipt m f) (.ipt m g):=fun β w v _ hr=>by
 obtain ⟨b,off,vals,rfl,hm,hb,hc,hr,hcl,ho⟩:=rel_ipt_inv hr
 exact .ipt vals hm hb hc ho (fun j hj=>by rw [← h j hj];exact hr j hj) (fun j hj=>by rw [← h j hj];exact hcl j hj)
theorem amounts_p (s:Sup):Pure Tryz.prog gl0 40 [.ipt 7 fun k=>atL s.cells k] (.agg [.ipt 1 fun k=>atL [AV.int .i64 s.issued] k,.ipt 1 fun k=>atL [AV.int .i64 s.ret] k,.ipt 1 fun k=>atL [AV.int .i64 s.dbl] k,.ipt 1 fun k=>atL [AV.int .i64 s.exp] k]):=by
 exact pz Tryz.func40 (by
  exact n_outx (.agg [AV.ipt 1 fun k=>atL (Sup.cells s) (3+k),AV.ipt 1 fun k=>atL (Sup.cells s) (4+k),AV.ipt 1 fun k=>atL (Sup.cells s) (5+k),AV.ipt 1 fun k=>atL (Sup.cells s) (6+k)]) (Ent.agg ⟨ipt_ext fun j hj=>by obtain rfl:=Nat.lt_one_iff.1 hj;rfl,ipt_ext fun j hj=>by obtain rfl:=Nat.lt_one_iff.1 hj;rfl,ipt_ext fun j hj=>by obtain rfl:=Nat.lt_one_iff.1 hj;rfl,ipt_ext fun j hj=>by obtain rfl:=Nat.lt_one_iff.1 hj;rfl,trivial⟩))
theorem amt_t {n:Int} (h:¬n<0∧¬n>4503599627370496):amtB n=true:=by unfold amtB;rw [decide_eq_true (by omega),decide_eq_true (by omega)];rfl
theorem amt_f {n:Int} (h:n<0∨n>4503599627370496):amtB n=false:=by
 unfold amtB
 by_cases c:0≤n
 ·rw [decide_eq_true c,decide_eq_false (by omega)];rfl
 ·rw [decide_eq_false c];rfl
theorem valid_c (s:Sup):Pure Tryz.prog gl0 13 [.agg s.cells] (.bool (validS s)):=by
 exact pzo (owR 5) Tryz.func13 (by
  apply n_dc (amounts_p (s))
  apply n_tt
  apply n_req ((0:Int)≤0∧(0:Int)<4)
  apply n_br (decide (s.4<0)||decide (s.4>4503599627370496))
  ·intro g3
   exact n_outx (.bool false) (Ent.of_eq (congrArg AV.bool (by (simp [validS,amt_f g3];done))))
  ·intro g3
   apply n_tt
   apply n_req ((0:Int)≤wrap .i64 ((0:Int)+1)∧wrap .i64 ((0:Int)+1)<4)
   apply n_br (decide (s.5<0)||decide (s.5>4503599627370496))
   ·intro g7
    exact n_outx (.bool false) (Ent.of_eq (congrArg AV.bool (by (simp [validS,amt_f g7];done))))
   ·intro g7
    apply n_tt
    apply n_req ((0:Int)≤wrap .i64 (wrap .i64 ((0:Int)+1)+1)∧wrap .i64 (wrap .i64 ((0:Int)+1)+1)<4)
    apply n_br (decide (s.6<0)||decide (s.6>4503599627370496))
    ·intro g11
     exact n_outx (.bool false) (Ent.of_eq (congrArg AV.bool (by (simp [validS,amt_f g11];done))))
    ·intro g11
     apply n_tt
     apply n_req ((0:Int)≤wrap .i64 (wrap .i64 (wrap .i64 ((0:Int)+1)+1)+1)∧wrap .i64 (wrap .i64 (wrap .i64 ((0:Int)+1)+1)+1)<4)
     apply n_br (decide (s.7<0)||decide (s.7>4503599627370496))
     ·intro g15
      exact n_outx (.bool false) (Ent.of_eq (congrArg AV.bool (by (simp [validS,amt_f g15];done))))
     ·intro g15
      apply n_ff
      exact n_outx (.bool (decide (s.1≥0)&&decide (s.1<8)&&decide (s.2≥0)&&decide (s.2≤1000000)&&decide (s.3≥0)&&decide (s.3≤16)&&decide (s.6≤s.5))) (Ent.of_eq (congrArg AV.bool (by (unfold validS;rw [amt_t g3,amt_t g7,amt_t g11,amt_t g15];simp [Bool.and_assoc])))))
theorem indexS_w (F:FuncId) (f:Nat→Sup) (n:Nat) (p:Nat→Bool) (hn:n<9223372036854775808) (hc:∀ i,i<n→Pure Tryz.prog gl0 F [.agg (f i).cells] (.bool (p i))):Pure Tryz.prog gl0 39 [supA n f,.fn (.func F) [] []] (.int .i64 (firstI p n 0)):=by
 exact pz Tryz.func39 (by
  apply n_loop ({ x:Nat // x≤n∧(fun i=>firstI p n 0=firstI p (n - i) i) x }) [0,1,7,8] [] (fun x=>[.isl 7 n fun i j=>atL (Sup.cells (f i)) j,AV.fn (Fn.func F) [] [],Zi n,Zi x.1]) (fun _=>[]) (fun x=>n - x.1) (⟨0,⟨Nat.zero_le n,rfl⟩⟩)
  intro x0
  try (have q0:=x0.2;dsimp only at q0)
  apply n_bd ((x0.1:Int)<(n:Int))
  ·intro g1
   apply n_req (0≤(x0.1:Int)∧(x0.1:Int)<(n:Int))
   apply n_sc (hc (toNat (↑(x0.1):Int)) (by omega))
   apply n_br (p (toNat (x0.1:Int)))
   ·intro g4
    try simp only [Int.toNat_natCast] at g4
    exact n_out (Ent.of_eq (congrArg _ (first_hit x0.2.2 (by omega) g4)))
   ·intro g4
    try simp only [Int.toNat_natCast] at g4
    exact n_again [] (⟨x0.1+1,by omega,first_next x0.2.2 (by omega) g4⟩) (ek3 (en (inc_ent (by omega))))
  ·intro g1
   exact n_out (Ent.of_eq (congrArg _ (first_miss x0.2.2 (by omega)))))
theorem containsS_w (F:FuncId) (f:Nat→Sup) (n:Nat) (p:Nat→Bool) (hn:n<9223372036854775808) (hc:∀ i,i<n→Pure Tryz.prog gl0 F [.agg (f i).cells] (.bool (p i))):Pure Tryz.prog gl0 11 [supA n f,.fn (.func F) [] []] (.bool (anyI p n)):=by
 have c1:=indexS_w F f n p hn hc
 exact pz Tryz.func11 (by
  apply n_sc (c1)
  exact n_or)
theorem not1_c (s:Sup):Pure Tryz.prog gl0 48 [.agg s.cells] (.bool (!validS s)):=by
 exact pz Tryz.func48 (by
  apply n_sc (valid_c (s))
  exact n_or)
theorem not2_c (s:Sup):Pure Tryz.prog gl0 101 [.agg s.cells] (.bool (!validS s)):=by
 exact pz Tryz.func101 (by
  apply n_sc (valid_c (s))
  exact n_or)
theorem rsame_c (n m:Nat) (f g:Nat→Sup) (hn:n<9223372036854775807):Pure Tryz.prog gl0 9 [supA n f,supA m g] (.bool (sameL n m f g)):=by
 exact pz Tryz.func9 (by
  apply n_br ((n:Int) != (m:Int))
  ·intro g0
   exact n_out (Ent.of_eq (congrArg AV.bool (same_len g0).symm))
  ·intro g0
   apply n_loop ({ x:Nat // x≤n∧(fun (x:Nat)=>∀ (j:Nat),j<x→eqS (f j) (g j)=true) x }) [0,1,5] [] (fun x=>[.isl 7 n fun i j=>atL (Sup.cells (f i)) j,.isl 7 m fun i j=>atL (Sup.cells (g i)) j,Zi x.1]) (fun _=>[]) (fun x=>n - x.1) (⟨0,⟨Nat.zero_le n,fun (j:Nat) (hj:j<0)=>absurd hj (Nat.not_lt_zero j)⟩⟩)
   intro x2
   try (have q2:=x2.2;dsimp only at q2)
   apply n_bd ((x2.1:Int)<(n:Int))
   ·intro g3
    apply n_req (0≤(x2.1:Int)∧(x2.1:Int)<(n:Int))
    apply n_req (0≤(x2.1:Int)∧(x2.1:Int)<(m:Int))
    apply n_br0 (!((f (toNat (↑(x2.1):Int))).1==(g (toNat (↑(x2.1):Int))).1&&((f (toNat (↑(x2.1):Int))).2==(g (toNat (↑(x2.1):Int))).2&&((f (toNat (↑(x2.1):Int))).3==(g (toNat (↑(x2.1):Int))).3&&((f (toNat (↑(x2.1):Int))).4==(g (toNat (↑(x2.1):Int))).4&&((f (toNat (↑(x2.1):Int))).5==(g (toNat (↑(x2.1):Int))).5&&((f (toNat (↑(x2.1):Int))).6==(g (toNat (↑(x2.1):Int))).6&&((f (toNat (↑(x2.1):Int))).7==(g (toNat (↑(x2.1):Int))).7&&true))))))))
    ·intro h6
     have g6:=(cnd_not_t (cnd_and_f cnd_beq_f (cnd_and_f cnd_beq_f (cnd_and_f cnd_beq_f (cnd_and_f cnd_beq_f (cnd_and_f cnd_beq_f (cnd_and_f cnd_beq_f (cnd_and_f cnd_beq_f cnd_id_f)))))))) h6
     try simp only [Int.toNat_natCast] at g6
     exact n_out (Ent.of_eq (congrArg AV.bool (same_no (i:=x2.1) (by omega) (by simp only [Int.toNat_natCast] at h6;exact (show eqS (f x2.1) (g x2.1)=false from by simpa only [eqS,Bool.not_eq_true'] using h6))).symm))
    ·intro h6
     have g6:=(cnd_not_f (cnd_and_t cnd_beq_t (cnd_and_t cnd_beq_t (cnd_and_t cnd_beq_t (cnd_and_t cnd_beq_t (cnd_and_t cnd_beq_t (cnd_and_t cnd_beq_t (cnd_and_t cnd_beq_t cnd_id_t)))))))) h6
     try simp only [Int.toNat_natCast] at g6
     exact n_again [] (⟨x2.1+1,by omega,fun j hj=>by rcases Nat.lt_succ_iff_lt_or_eq.1 hj with hj|hj;(· exact q2.2 j hj);(· rw [hj];simp only [Int.toNat_natCast] at h6;exact (show eqS (f x2.1) (g x2.1)=true from by simpa only [eqS,Bool.not_eq_false'] using h6))⟩) (ek2 (en (inc_ent (by omega))))
   ·intro g3
    exact n_out (Ent.of_eq (congrArg AV.bool (same_yes (by omega) (fun j hj=>q2.2 j (by omega))).symm)))
end Go.Proofs.YtcageinnelhonaaGreatDoor.U

namespace Go.Sp
open Go.IntKind (wrap)
open Int (toNat)
open Go Go.Am
def outV (s:Sup):Int:=if validS s=false then 0 else if leftS s<0 then 0 else leftS s
def outE (s:Sup):Int:=if validS s=false then 1 else if leftS s<0 then 17 else 0
theorem outV_1 {s:Sup} (h:validS s=false):outV s=0:=if_pos h
theorem outE_1 {s:Sup} (h:validS s=false):outE s=1:=if_pos h
theorem outV_2 {s:Sup} (h:validS s=true) (k:leftS s<0):outV s=0:=by unfold outV;rw [if_neg (by simp [h]),if_pos k]
theorem outE_2 {s:Sup} (h:validS s=true) (k:leftS s<0):outE s=17:=by unfold outE;rw [if_neg (by simp [h]),if_pos k]
theorem outV_3 {s:Sup} (h:validS s=true) (k:¬leftS s<0):outV s=leftS s:=by unfold outV;rw [if_neg (by simp [h]),if_neg k]
theorem outE_3 {s:Sup} (h:validS s=true) (k:¬leftS s<0):outE s=0:=by unfold outE;rw [if_neg (by simp [h]),if_neg k]
def supI (s:Sup):Nat→Int
 | 0=>s.bank|1=>s.epoch|2=>s.denom|3=>s.issued|4=>s.ret|5=>s.dbl|_=>s.exp
theorem supI_at (s:Sup) {j:Nat} (h:j<7):AV.int .i64 (supI s j)=atL s.cells j:=by
 have:j=0∨j=1∨j=2∨j=3∨j=4∨j=5∨j=6:=by omega
 rcases this with rfl|rfl|rfl|rfl|rfl|rfl|rfl<;>rfl
end Go.Sp

namespace Go.Proofs.YtcageinnelhonaaGreatDoor.U
open Go.IntKind (wrap)
open Int (toNat)
open Go Go.Am Go.Sp
set_option maxRecDepth 100000
theorem notL_c (s:Sup):Pure Tryz.prog gl0 12 [.agg s.cells] (.bool (!validS s)):=by
 exact pz Tryz.func12 (by
  apply n_sc (valid_c (s))
  exact n_or)
theorem conL_c (n:Nat) (f:Nat→Sup) (hn:n<9223372036854775808) (h:∀ i,i<n→validS (f i)=true):Pure Tryz.prog gl0 11 [supA n f,.fn (.func 12) [] []] (.bool false):=by
 have c:=containsS_w 12 f n (fun i => !validS (f i)) hn (fun i _=>notL_c (f i))
 have e:anyI (fun i => !validS (f i)) n=false:=by
  unfold anyI
  rw [firstI_neg,List.any_eq_false]
  intro i hi
  rw [Nat.zero_add,h i (List.mem_range.1 hi)];decide
 rwa [e] at c
theorem selfL_c (n:Nat) (f:Nat→Sup) (hn:n<9223372036854775807):Pure Tryz.prog gl0 9 [supA n f,supA n f] (.bool true):=by
 have c:=rsame_c n n f f hn
 rwa [same_yes rfl (fun i _=>by simp [eqS])] at c
theorem outg_c (s:Sup):Pure Tryz.prog gl0 15 [.agg s.cells] (.tup [.int .i64 (outV s),.int .i64 (outE s)]):=by
 exact pz Tryz.func15 (by
  apply n_sc (outst_c (s))
  apply n_sc (valid_c (s))
  apply n_br (!validS s)
  ·intro g2
   exact n_outx (.tup [Zi 0,Zi 1]) (Ent.of_eq (by rw [outV_1 g2,outE_1 g2]))
  ·intro g2
   apply n_bd (leftS s<0)
   ·intro g4
    exact n_outx (.tup [Zi 0,Zi 17]) (Ent.of_eq (by rw [outV_2 g2 g4,outE_2 g2 g4]))
   ·intro g4
    exact n_outx (.tup [Zi (leftS s),Zi 0]) (Ent.of_eq (by rw [outV_3 g2 g4,outE_3 g2 g4])))
end Go.Proofs.YtcageinnelhonaaGreatDoor.U

namespace Go.Am
open Go.IntKind (wrap)
open Int (toNat)
open Go.RowKit
theorem sim_own {K0:Ctx} {w:World} {s:ASt} {a:Act} (hB:K0.B=w.heap.size) (hw:K0.w0=w) (hd:a.defers=[]) (hnm:NMS s) (hng:NMG K0.gl):OwnFrom w.heap.size (fun (_:Unit) W=>∃ β,Sim K0 β s a W):=by
 rintro _ A B row ⟨β,hs⟩ hg hr
 have hne:∀ b,b<A.heap.size→(∀ o,A.heap[b]? = some o→o.isCells=false→b<w.heap.size)→B.heap[b]? = A.heap[b]? := fun b hb h=>hg.block b hb (fun e=>by grind)
 have hk:=hs.kept
 rw [hB,hw] at hk
 refine ⟨β,hs.same (fun b cs el z hb=>?_) hg.size (.inr ⟨hnm,hng⟩) ?_ rfl (by grind [Marks.nil])⟩
 ·exact (hne b (Array.getElem?_eq_some_iff.1 hb).1 (fun o h1 h2=>by rw [hb] at h1;cases h1;cases h2)).trans hb
 ·have hsz:=hk.size
  have low:∀ k,k<w.heap.size→B.heap[k]? = A.heap[k]? := fun k hk=>hne k (by omega) (fun _ _ _=>hk)
  rw [hB,hw]
  exact ⟨hg.os.trans hk.os,hg.tape.trans hk.tape,hg.output.trans hk.output,Nat.le_trans hsz hg.size,fun k hk' hG=>(low k hk').trans (hk.block k hk' hG),fun k hk'=>(shape_of_block (low k hk')).trans (hk.shape k hk'),
   fun k o hk' ho=>(low k (Array.getElem?_eq_some_iff.1 hk').1).trans (hk.othr k o hk' ho)⟩
theorem opq_rangeB {P:Program} {gl:Globs} {own:FuncId→Option (List Bool)} {ng nt:Nat} {g:Operand} {p d:Nat} {assign body:Code} {gf:Nat} {lb:List AV} {n:Nat} {xs:Fin n→AV} {ns:List Nat} {vs:List AV} {bv:AV}
  {obs:List (Fin n)→List (Option Ob)} {bx:Fin n→Ob} {obs1:List (Option Ob)} (hev:ev gl (lookZ ns vs) g=.fn (.func gf) [] lb) (hit:Iter P gl gf lb n xs) (hcl:∀ x,Cl (xs x))
  (hmu:∀ pre,allMu (obs pre)=true) (hnm:∀ pre,NMS (mkSt ns vs (obs pre))) (hnmB:∀ pre x,NMS (mkSt (d::p::ns) (bv::xs x::vs) (obs pre++[some (bx x)]))) (hng0:NMG gl) (hpins:(keepsC ns body&&(keepsC ns assign&&(!memN ns p && !memN ns d&&Nat.blt p nt&&Nat.blt d nt)))=true)
  (hA:∀ pre x,Round P gl own ng nt assign (mkSt (p::ns) (xs x::vs) (obs pre)) (mkSt (d::p::ns) (bv::xs x::vs) (obs pre++[some (bx x)])))
  (hdrop:∀ pre x,Round P gl own ng nt .skip (mkSt (d::p::ns) (bv::xs x::vs) (obs pre++[some (bx x)])) (mkSt ns vs (obs pre)))
  (hround:∀ pre x,pre.length<n→Round P gl own ng nt body (mkSt (d::p::ns) (bv::xs x::vs) (obs pre++[some (bx x)])) (mkSt ns vs (obs (pre++[x]))))
  (hdet:∀ pre pre0 (K:Ctx) β β0 a a' W,Sim K β (mkSt ns vs (obs pre)) a W→Sim K β0 (mkSt ns vs (obs pre0)) a' W→(∀ m,m∈ns→a'.tmps.getD m undef=a.tmps.getD m undef)→pre0.length=pre.length∧∀ x,obs (pre0++[x])=obs (pre++[x]))
  (h1:obs (List.finRange n)=obs1):Opq P gl ng nt (.rangeFunc g #[p] assign body) (mkSt ns vs (obs [])) (mkSt ns vs obs1):=by
 subst h1
 intro K β0 a w hKP hKgl hKnt hng hqt hm hs0
 subst hKP hKgl hKnt
 refine wpIn_wide (n:=9).1 ?_
 simp only [Bool.and_eq_true,Bool.not_eq_true',Nat.blt_eq] at hpins
 obtain ⟨hpb,hpa,⟨⟨hpn,hdn⟩,hpt⟩,hdt⟩:=hpins
 have hpn':p∉ns:=fun h=>by grind [memN_iff]
 have hdn':d∉ns:=fun h=>by grind [memN_iff]
 have hG0:∀ id b m mu,β0.m id=some (.lives b m mu)→mu=true:=fun id b m mu h=>by
  have hid:id<(obs []).length:=Nat.lt_of_not_le fun hle=>by rw [hs0.fresh id hle] at h;cases h
  obtain ⟨o,ho,hmu'⟩:=allMu_spec (hmu []) hid
  rcases hs0.heap id o ho with ⟨b',h1,_⟩|⟨h1,_⟩
  ·grind
  grind
 let K0:Ctx:=⟨K.P,K.gl,w.heap.size,w,K.nt,K.F,fun b=>∃ id m,β0.m id=some (.lives b m true),K.b0,true⟩
 have hlive0:∀ b,K0.G b→K.B≤b∨K.G b:=fun b ⟨id,m,h⟩=>(hs0.live id b m true h).1
 have hF0:∀ b,K.F b→b<w.heap.size∧¬K0.G b:=fun b hb=>⟨Nat.lt_of_lt_of_le (hs0.hF b hb).1 hs0.hB,fun hG=>by
  rcases hlive0 b hG with h|h
  ·have:=(hs0.hF b hb).1;omega
  ·exact (hs0.hF b hb).2 h⟩
 have hS0:Sim K0 β0 (mkSt ns vs (obs [])) { a with defers:=[] } w :=
  ⟨hs0.slot,hs0.size,Marks.nil _ _,hs0.heap,hs0.inj,hs0.fresh,fun id b m mu h=>⟨.inr ⟨id,m,by grind⟩,(hs0.live id b m mu h).2⟩,hs0.giv,hs0.bF,hF0,Kept.refl _ _ _,Nat.le_refl _,hs0.glob⟩
 have hfr:Rel β0 w (.fn (.func gf) [] lb) (a.eval g):=by
  have:=rel_ev (hs0.toR #[]) (x:=g) (fun t _=>rfl)
  grind [ev,ASt.toR,mkSt]
 obtain ⟨vf,vb,hav,hvf,hlb⟩:∃ vf vb,a.eval g=.func (.func gf) vf vb∧vf.size=0∧Rels β0 w lb vb:=by
  generalize a.eval g=u at hfr
  cases hfr with
  | fn h1 h2 h3 h4=>exact ⟨_,_,rfl,by grind,h3,h4⟩
 have hvf':vf = #[]:=Array.eq_empty_of_size_eq_zero hvf
 subst hvf'
 obtain ⟨⟨fn,code,hfn,hfb,hname⟩,hitr⟩:=hit
 obtain ⟨ys,hyr,hseq⟩:=hitr β0 w vb (fun b hb=>by rw [hs0.bF] at hb;grind) (fun id b k mu h=>(hs0.live id b k mu h).2) hs0.glob hlb
 have calm:∀ {β:Book} {s:ASt} {a':Act} {W:World},Sim K0 β s a' W→CalmIn β0 w W:=fun hs=>⟨hs.kept.size,fun b hb hf=>hs.kept.block b hb (fun ⟨id,m,h⟩=>hf.2 id m h),hs.kept.shape⟩
 have hfree:∀ {β:Book} {s:ASt} {a':Act} {W:World},(∀ id b m mu,β.m id=some (.lives b m mu)→mu=true)→Sim K0 β s a' W→∀ b,b<w.heap.size→β0.free b→β.free b:=fun hmt hs b hb hf =>
  ⟨by rw [hs.bF];have:=hf.1;rw [hs0.bF] at this;omega,fun id m h=>by
   rcases (hs.live id b m true h).1 with h'|⟨id',m',h'⟩
   ·grind
   ·exact hf.2 id' m' h'⟩
 have item:∀ {β:Book} {s:ASt} {a':Act} {W:World} (x:Fin n),Sim K0 β s a' W→(∀ b,b<w.heap.size→β0.free b→β.free b)→Rel β W (xs x) (ys x):=fun {β s a' W} x hs hf=>by
  let B1:Book:=⟨fun _=>none,fun b=>¬β0.free b⟩
  let B2:Book:=⟨fun _=>none,fun b=>¬β.free b⟩
  have f1:∀ b,β0.free b→B1.free b:=fun b h=>⟨fun h'=>h' h,fun id m h=>by cases h⟩
  have f2:∀ b,B2.free b→β.free b:=fun b h=>Classical.byContradiction fun h'=>h.1 h'
  have hk:Keeps B1 w B2 W:=by
   refine ⟨fun id o h=>(by cases h),fun b hb hfb=>(calm hs).2.1 b hb (Classical.byContradiction fun h=>hfb.1 h),fun b hb hfb=>⟨fun h=>h (hf b hb (Classical.byContradiction fun h=>hfb.1 h)),fun id m h=>by cases h⟩,fun b el sz h=>?_⟩
   have:=hs.kept.shape b (lt_of_shape h)
   grind
  exact ((((hyr x).rebook f1 (hcl x)).keep hk).rebook f2 (hcl x))
 let I:List (Fin n)→World→Prop:=fun pre W=>∃ β,Sim K0 β (mkSt ns vs (obs pre)) { a with defers:=[] } W
 have hmt:∀ {pre:List (Fin n)} {β:Book} {a':Act} {W:World},Sim K0 β (mkSt ns vs (obs pre)) a' W→∀ id b m mu,β.m id=some (.lives b m mu)→mu=true:=fun {pre β a' W} hs id b m mu h=>by
  have hid:id<(obs pre).length:=Nat.lt_of_not_le fun hle=>by rw [hs.fresh id hle] at h;cases h
  obtain ⟨o,ho,hmu'⟩:=allMu_spec (hmu pre) hid
  rcases hs.heap id o ho with ⟨b',h1,_⟩|⟨h1,_⟩
  ·grind
  grind
 have hI:OwnFrom w.heap.size I:=fun pre A B row h hg hr=>sim_own (K0:=K0) rfl rfl rfl (hnm pre) hng0 () A B row h hg hr
 let Ax:Fin n→Act→World→Prop:=fun x a' W=>a'.defers=[]∧PinIn ns a a'∧∃ pre0 β,Sim K0 β (mkSt (d::p::ns) (bv::xs x::vs) (obs pre0++[some (bx x)])) a' W
 have hAx:∀ x a',OwnFrom w.heap.size (fun (_:Unit) W=>Ax x a' W):=fun x a' _ A B row h hg hr=>by
  obtain ⟨h1,h2,pre0,β,h3⟩:=h
  obtain ⟨β',h4⟩:=sim_own (K0:=K0) rfl rfl h1 (hnmB pre0 x) hng0 () A B row ⟨β,h3⟩ hg hr
  grind
 have hsize:a.tmps.size=K.nt:=hs0.size
 have back:∀ {W W':World} {β2:Book} {ns':List Nat} {vs':List AV} {o':List (Option Ob)} {a':Act} {β:Book} {s:ASt} {a0:Act},Sim K0 β s a0 W→Sim ⟨K.P,K.gl,W.heap.size,W,K.nt,K.F,fun b=>w.heap.size≤b∨K0.G b,K.b0,true⟩ β2 (mkSt ns' vs' o') a' W'→a'.defers=[]→Sim K0 β2 (mkSt ns' vs' o') a' W':=fun {W W' β2 ns' vs' o' a' β s a0} hs hs2 hd=>by
  have hwW:w.heap.size≤W.heap.size:=hs.kept.size
  have hWW:W.heap.size≤W'.heap.size:=hs2.kept.size
  refine ⟨hs2.slot,hs2.size,by grind [Marks.nil],hs2.heap,hs2.inj,hs2.fresh,fun id b m mu h=>⟨?_,(hs2.live id b m mu h).2⟩,hs2.giv,hs2.bF,hF0,hs.kept.trans (hs2.kept.mono hwW (fun k hk hG=>?_)),Nat.le_trans hwW hWW,hs2.glob⟩
  ·rcases (hs2.live id b m mu h).1 with h'|h'
   ·grind
   omega
  grind
 have outer:∀ {W:World} {β:Book} {o':List (Option Ob)} {a':Act},Sim K0 β (mkSt ns vs o') a' W→PinIn ns a a'→Sim K0 β (mkSt ns vs o') { a with defers:=[] } W:=fun {W β o' a'} hs hp=>by
  refine ⟨fun m=>?_,hsize,Marks.nil _ _,hs.heap,hs.inj,hs.fresh,hs.live,hs.giv,hs.bF,hs.hF,hs.kept,hs.hB,hs.glob⟩
  by_cases hm':m∈ns
  ·have:=hs.slot m
   rw [hp m hm'] at this
   omega
  ·have e:(mkSt ns vs o').fr m=.junk:=lookZ_none hm'
   rw [e];exact .junk
 refine wpIn_rangeFunc_ownH (F:=Fence.wide) rfl (by decide) (gf:=gf) (lb:=vb) hav trivial (fun args w=>?_) hseq (fun h k h0=>k (h h0)) (fun W l o o' hl ho hc hw h=>?_) (Below.refl _ _) (fun _=>rfl) I (fun _ _ _=>False) hI (fun _ _ _ _ _ h _ _=>h) ⟨β0,hS0⟩ Ax hAx
  (fun l pre x W Kc hi hK=>?_) (fun l pre x a' W _ _ hi hax hlen=>?_) (fun D pre W hD hpre hi hW=>?_) (fun D c pre W hD _ h=>h.elim)
 ·simp only [callFunc,run_program,Sem.run_bind,Result.andThen_ok,hfn,hfb,hname,Bool.false_eq_true,if_false]
  rfl
 ·refine ⟨Nat.le_trans h.1 (by simp),fun b hb hf=>?_,fun b hb=>?_⟩
  ·exact (World.putObj_heap_other (by omega)).trans (h.2.1 b hb hf)
  ·exact (shape_of_block (World.putObj_heap_other (by omega))).trans (h.2.2 b hb)
 ·-- the variable is boxed
  obtain ⟨β,hs⟩:=hi
  have hit':=item x hs (hfree (hmt hs) hs)
  have e0:(#[p].zip #[ys x]).foldl (fun t (q:Tmp×Value)=>t.setIfInBounds q.1 q.2) a.tmps=a.tmps.setIfInBounds p (ys x):=by simp
  show assign.wpIn _ _ _ _ { tmps:=(#[p].zip #[ys x]).foldl (fun t (q:Tmp×Value)=>t.setIfInBounds q.1 q.2) a.tmps,defers:=[] } W
  rw [e0]
  have hpv:(a.tmps.setIfInBounds p (ys x)).getD p undef=ys x:=by simp [Array.getD_eq_getD_getElem?,hsize,hpt]
  have hpo:∀ m,m≠p→(a.tmps.setIfInBounds p (ys x)).getD m undef=a.tmps.getD m undef:=fun m h=>by simp [Array.getD_eq_getD_getElem?,Array.getElem?_setIfInBounds_ne (Ne.symm h)]
  have hz:(a.tmps.setIfInBounds p (ys x)).size=K.nt:=by grind
  generalize a.tmps.setIfInBounds p (ys x)=T at hpv hpo hz
  let K1:Ctx:=⟨K.P,K.gl,W.heap.size,W,K.nt,K.F,fun b=>w.heap.size≤b∨K0.G b,K.b0,true⟩
  have hs1':Sim K1 β (mkSt (p::ns) (xs x::vs) (obs pre)) { tmps:=T,defers:=[] } W:=by
   have hslot:∀ m,Rel β W ((mkSt (p::ns) (xs x::vs) (obs pre)).fr m) (T.getD m undef):=fun m=>by
    show Rel β W (lookZ (p::ns) (xs x::vs) m) _
    by_cases hmp:p=m
    ·subst hmp
     simp only [lookZ,Nat.beq_refl,cond_true]
     grind
    ·have hb:Nat.beq p m=false:=by grind [Nat.beq,absurd,Nat.eq_of_beq_eq_true]
     simp only [lookZ,hb,cond_false]
     rw [hpo m (Ne.symm hmp)]
     exact hs.slot m
   exact ⟨hslot,hz,Marks.nil _ _,hs.heap,hs.inj,hs.fresh,fun id b m mu h=>⟨.inr (hs.live id b m mu h).1,(hs.live id b m mu h).2⟩,hs.giv,hs.bF,
    fun b hb=>⟨Nat.lt_of_lt_of_le (hF0 b hb).1 hs.kept.size,fun h=>h.elim (fun h=>by grind) (hF0 b hb).2⟩,Kept.refl _ _ _,Nat.le_refl _,hs.glob⟩
  refine wpIn_mono (Round.in (F:=Fence.wide.inRound l) (K:=K1) (pins:=ns) (hA pre x) (.inr ⟨l,rfl⟩) hpa hng hm hs1') ?_
  rintro e a2 W2 ⟨rfl,⟨β2,hs2⟩,hp2⟩
  have hd2:a2.defers=[]:=hs2.defers.quiet rfl
  have hs3:=back hs hs2 hd2
  have hp3:PinIn ns a a2:=fun m hm'=>(hp2 m hm').trans (hpo m (fun e=>hpn' (e▸hm')))
  have hle:Le ng _ _:=hdrop pre x
  obtain ⟨β4,hs4⟩:=hle K0 β2 a2 W2 hng hs3
  exact hK a2 W2 ⟨hs2.kept.size,fun k o _ hk ho=>hs2.kept.othr k o hk ho⟩ (fun _=>calm hs3) ⟨β4,outer hs4 hp3⟩ ⟨hd2,hp3,pre,β2,hs3⟩
 ·obtain ⟨β1,hs1⟩:=hi
  obtain ⟨hd',hp',pre0,β,hs⟩:=hax
  let K1:Ctx:=⟨K.P,K.gl,W.heap.size,W,K.nt,K.F,fun b=>w.heap.size≤b∨K0.G b,K.b0,true⟩
  have hs1':Sim K1 β (mkSt (d::p::ns) (bv::xs x::vs) (obs pre0++[some (bx x)])) a' W :=
   ⟨hs.slot,hs.size,by grind [Marks.nil],hs.heap,hs.inj,hs.fresh,fun id b m mu h=>⟨.inr (hs.live id b m mu h).1,(hs.live id b m mu h).2⟩,hs.giv,hs.bF,
    fun b hb=>⟨Nat.lt_of_lt_of_le (hF0 b hb).1 hs.kept.size,fun h=>h.elim (fun h=>by grind) (hF0 b hb).2⟩,Kept.refl _ _ _,Nat.le_refl _,hs.glob⟩
  have hle:Le ng _ _:=hdrop pre0 x
  obtain ⟨β4,hs4⟩:=hle K0 β a' W hng hs
  obtain ⟨hll,he⟩:=hdet pre pre0 K0 β1 β4 _ _ W hs1 hs4 (fun m hm'=>hp' m hm')
  have he:=he x
  refine wpIn_mono (Round.in (F:=Fence.wide.inRound l) (K:=K1) (pins:=ns) (hround pre0 x (hll▸hlen)) (.inr ⟨l,rfl⟩) hpb hng hm hs1') ?_
  rintro e a2 W2 ⟨rfl,⟨β2,hs2⟩,hp2⟩
  have hs3:=back hs hs2 (hs2.defers.quiet rfl)
  rw [he] at hs3
  exact ⟨⟨hs2.kept.size,fun k o _ hk ho=>hs2.kept.othr k o hk ho⟩,fun _=>calm hs3,β2,outer hs3 (fun m hm'=>(hp2 m hm').trans (hp' m hm'))⟩
 ·obtain ⟨β,hs⟩:=hi
  have hpre':pre=List.finRange n:=hpre
  subst hpre'
  refine ⟨rfl,β,hs.slot,hsize,?_,hs.heap,hs.inj,hs.fresh,fun id b m mu h=>⟨?_,(hs.live id b m mu h).2⟩,hs.giv,hs.bF,hs0.hF,hs0.kept.trans (hs.kept.mono hs0.hB (fun k hk hG=>?_)),Nat.le_trans hs0.hB hs.kept.size,hs.glob⟩
  ·obtain ⟨Ds,e1,e2,_,e3⟩:=hs0.defers
   refine ⟨D::Ds,by grind,List.nodup_cons.2 ⟨fun h=>?_,e2⟩,fun h=>(by grind),fun D' h=>?_⟩
   ·grind
   ·rcases List.mem_cons.1 h with rfl|h
    ·exact ⟨Nat.le_trans hs0.hB hD,Nat.le_trans hs0.kept.size hD,hW⟩
    ·exact ⟨(e3 D' h).1,(e3 D' h).2.1,hs.kept.othr D' _ (e3 D' h).2.2 rfl⟩
  ·rcases (hs.live id b m mu h).1 with h'|h'
   ·exact .inl (Nat.le_trans hs0.hB h')
   grind
  grind
end Go.Am

namespace Go.Sp
open Go.IntKind (wrap)
open Int (toNat)
open Go Go.Am Go.RowKit
structure VlFr (y v1 u : Value) (n k : Nat) (a : Act) : Prop where
  size : a.tmps.size = 16
  defers : a.defers = []
  t0 : a.tmps.getD 0 undef = y
  t1 : a.tmps.getD 1 undef = v1
  t5 : a.tmps.getD 5 undef = u
  t6 : a.tmps.getD 6 undef = .int .i64 n
  t7 : a.tmps.getD 7 undef = .int .i64 k
def rowI (V:Nat→Int):List AV:=[.int .i64 (V 0),.int .i64 (V 1),.int .i64 (V 2),.int .i64 (V 3),.int .i64 (V 4),.int .i64 (V 5),.int .i64 (V 6)]
def rowV (V:Nat→Int):Value:=.agg #[.int .i64 (V 0),.int .i64 (V 1),.int .i64 (V 2),.int .i64 (V 3),.int .i64 (V 4),.int .i64 (V 5),.int .i64 (V 6)]
theorem raw_inv {β:Book} {w:World} {v a:Value} (h:Rel β w (.raw a) v):v=a:=by cases h;rfl
theorem rowI_inv {β:Book} {w:World} {v:Value} {V:Nat→Int} (h:Rel β w (.agg (rowI V)) v):v=rowV V:=by
 obtain ⟨vs,rfl,hr⟩:=rel_agg_inv h
 have hl:7=vs.size:=hr.len
 obtain ⟨vs⟩:=vs
 match vs,hl with
 | [a,b,c,d,e,f,g],_ =>
  obtain rfl:=rel_int_inv (hr.rel 0 (.int .i64 (V 0)) a rfl rfl)
  obtain rfl:=rel_int_inv (hr.rel 1 (.int .i64 (V 1)) b rfl rfl)
  obtain rfl:=rel_int_inv (hr.rel 2 (.int .i64 (V 2)) c rfl rfl)
  obtain rfl:=rel_int_inv (hr.rel 3 (.int .i64 (V 3)) d rfl rfl)
  obtain rfl:=rel_int_inv (hr.rel 4 (.int .i64 (V 4)) e rfl rfl)
  obtain rfl:=rel_int_inv (hr.rel 5 (.int .i64 (V 5)) f rfl rfl)
  obtain rfl:=rel_int_inv (hr.rel 6 (.int .i64 (V 6)) g rfl rfl)
  rfl
theorem rowI_rel {β:Book} {w:World} (V:Nat→Int):Rel β w (.agg (rowI V)) (rowV V):=.agg rfl fun j a v ha hv=>by
 have hj:j<7:=(List.getElem?_eq_some_iff.1 ha).1
 have:j=0∨j=1∨j=2∨j=3∨j=4∨j=5∨j=6:=by omega
 rcases this with rfl|rfl|rfl|rfl|rfl|rfl|rfl<;>(cases ha;cases hv;exact .int)
set_option maxHeartbeats 1000000 in
theorem values_of {P:Program} {gl:Globs} {own:FuncId→Option (List Bool)} {g:Nat} {fn:Func} {c R1 R2 R4:Code} {r0 r3:Array Oper} {j0 j3 n tS tE:Nat} {V:Nat→Nat→Int} (hf:P.funcs[g]? = some fn) (hbody:fn.body=some c) (hname:(fn.name == "runtime.NumGoroutine")=false) (hrs:fn.results = #[]) (hnt:fn.ntmps=16)
  (hm:P.follows .mixedOrders=true) (hshape:c=.seq (.region j0 r0 false) (.block 0 (.loop (.seq R1 (.seq (.cond (.tmp 8) .skip (.exit 0)) (.seq (.block 1 (.seq R2 (.seq (.region j3 r3 false) (.cond (.tmp 14) .ret .skip)))) R4))))))
  (hz0:r0.size=3) (hz3:r3.size=4) (hg0:(r0.toList.all fun o=>o.guard.isNone)=true) (hg3:(r3.toList.all fun o=>o.guard.isNone)=true) (huS:P.underlying tS=some (.slice tE))
  (h01:(r0[1]?).map (fun o=>(o.dst,o.op,o.guard))=some (some 6,.call ⟨.builtin .len,#[.tmp 5],#[tS]⟩,none))
  (h02:(r0[2]?).map (fun o=>(o.dst,o.op,o.guard))=some (some 7,.move (.const (.int .i64 0)),none))
  (h32:(r3[2]?).map (fun o=>(o.dst,o.op,o.guard))=some (some 13,.call ⟨.value (.tmp 11),#[.tmp 12],#[tE]⟩,none))
  (h33:(r3[3]?).map (fun o=>(o.dst,o.op,o.guard))=some (some 14,.unOp .not 4 (.tmp 13),none))
  (k0:keepsOps [0,1] (r0.extract 0 1)=true) (k1:keepsC [0,1,5,6,7] R1=true) (k2:keepsC [0,1,5,6,7] R2=true) (k3:keepsOps [0,1,5,6,7] (r3.extract 0 2)=true) (k4:keepsC [0,1,5,6] R4=true)
  (i0:∀ u:Value,Round P gl own 0 16 (.region j0 (r0.extract 0 1) false) (mkSt [1] [.ipt 1 fun _=>.raw u] []) (mkSt [5] [.raw u] []))
  (i1:∀ k:Nat,k≤n→Round P gl own 0 16 R1 (mkSt [6,7] [.int .i64 n,.int .i64 k] []) (mkSt [8] [.bool (decide ((k:Int)<n))] []))
  (i2:∀ k:Nat,k<n→Round P gl own 0 16 R2 (mkSt [5,7] [.isl 7 n fun i j=>atL (rowI (V i)) j,.int .i64 k] []) (mkSt [4] [.own 0 7 0 0 7] [some ⟨7,1,true,.lst [rowI (V k)]⟩]))
  (i3:∀ (y:Value) (V:Nat→Int),Round P gl own 0 16 (.region j3 (r3.extract 0 2) false) (mkSt [0,4] [.raw y,.own 0 7 0 0 7] [some ⟨7,1,true,.lst [rowI V]⟩]) (mkSt [11,12] [.raw y,.agg (rowI V)] []))
  (i4:∀ k:Nat,k<n→Round P gl own 0 16 R4 (mkSt [7] [.int .i64 k] []) (mkSt [7] [.int .i64 (k+1:Nat)] [])) :
  Iter P gl g [.ipt 1 fun _=>.isl 7 n fun i j=>atL (rowI (V i)) j] n (fun k=>.agg (rowI (V k.1))):=by
 refine ⟨⟨_,_,hf,hbody,hname⟩,fun β w vs hF hlt hg hv=>?_⟩
 obtain ⟨v1,rfl,h1⟩:∃ v1,vs = #[v1]∧Rel β w (.ipt 1 fun _=>.isl 7 n fun i j=>atL (rowI (V i)) j) v1:=by
  have hl:1=vs.size:=hv.len
  obtain ⟨vs⟩:=vs
  match vs,hl with
  | [v1],_=>exact ⟨v1,rfl,hv.rel 0 _ _ rfl rfl⟩
 obtain ⟨b1,o1,vals1,hv1,_,hf1,hc1,hr1,hcl1,hone1⟩:=rel_ipt_inv h1
 have hu:=hr1 0 (by decide)
 generalize hu0:vals1 0=u at hu
 obtain ⟨a0,cap,hue,hcap,_,hrest⟩:=rel_isl_inv hu
 have hV2:=hu
 have hcl2:Cl (.isl 7 n fun i j=>atL (rowI (V i)) j):=hcl1 0 (by decide)
 refine ⟨fun k=>rowV (V k.1),fun k=>rowI_rel _,?_⟩
 intro l J Jx W hbW hJ hJx hY hJ0
 have hcW:CalmIn β w W:=⟨hbW.size,fun b hb _=>hbW.block b hb,fun b hb=>shape_of_block (hbW.block b hb)⟩
 refine callsIn_of_wp hf hbody trivial ?_
 have hJk:∀ pre A B,J pre A→Kept A.heap.size (fun _=>False) A B→J pre B:=fun pre A B hj k=>hJ pre A B none hj (kept_grown k) (fun r h=>by cases h)
 have hclu:Cl (.ipt 1 fun _=>.raw u):=.ipt fun _ _=>.raw
 have huv:∀ cs,u≠.agg cs:=fun cs e=>by rw [hue] at e;cases e
 have hur:Rel β w (.ipt 1 fun _=>.raw u) v1:=by
  rw [hv1]
  refine .ipt vals1 (by decide) hf1 hc1 hone1 (fun j hj=>?_) (fun _ _=>.raw)
  have:j=0:=by omega
  subst this
  rw [hu0];exact .raw huv
 generalize hy:(Value.func (.yield l) #[] #[])=y
 have hyv:∀ cs,y≠.agg cs:=fun cs e=>by rw [← hy] at e;cases e
 have pin:∀ {k:Nat} {a a':Act} {s:ASt} {β':Book} {W W':World},VlFr y v1 u n k a→PinIn [0,1,5,6,7] a a'→Sim (calmK P gl 16 β w W) β' s a' W'→VlFr y v1 u n k a':=fun {k a a' s β' W W'} f hp hs =>
  ⟨hs.size,hs.defers.quiet rfl,(hp 0 (by simp)).trans f.t0,(hp 1 (by simp)).trans f.t1,(hp 5 (by simp)).trans f.t5,(hp 6 (by simp)).trans f.t6,(hp 7 (by simp)).trans f.t7⟩
 have hres:∀ (a:Act) (W':World),(results fn a.tmps).run P W'=.ok (.tuple #[]) W':=fun a W'=>by
  rw [results_eq,hrs]
  simp
 have fin:∀ k:Nat,(hk:k<n)→(List.finRange n).take k++[⟨k,hk⟩]=(List.finRange n).take (k+1):=fun k hk=>by
  rw [List.take_add_one]
  simp [hk]
 have wnt:∀ (o:Oper) ys,o.guard=none→Region.wanted o ys=true:=fun o ys hg=>by simp [Region.wanted,hg]
 have hgn:∀ {r:Array Oper},(r.toList.all fun o=>o.guard.isNone)=true→∀ (i:Nat) (o:Oper),r[i]? = some o→o.guard=none:=fun {r} hr i o ho=>by
  have hmem:o∈r.toList:=by
   obtain ⟨h1,h2⟩:=Array.getElem?_eq_some_iff.1 ho
   rw [← h2];simp
  have:=List.all_eq_true.1 hr o hmem
  cases hg':o.guard with
  | none=>rfl
  | some x=>rw [hg'] at this;cases this
 obtain ⟨q1,hq1,hd1,hop1,hgd1⟩:=op_at h01
 obtain ⟨q2,hq2,hd2,hop2,hgd2⟩:=op_at h02
 obtain ⟨p2,hp2,hdp2,hopp2,hgp2⟩:=op_at h32
 obtain ⟨p3,hp3,hdp3,hopp3,hgp3⟩:=op_at h33
 subst hshape
 refine wpIn_seq (wpIn_region ?_)
 have hr0:List.range r0.size=List.range 1++[1,2]:=by rw [hz0];rfl
 rw [hr0]
 generalize hA0:({ tmps := #[y] ++ #[v1]++Array.replicate (fn.ntmps - (#[y] ++ #[v1]).size) undef,defers:=[] }:Act)=A0
 have A00:A0.tmps.getD 0 undef=y:=by rw [← hA0];simp [Array.getD_eq_getD_getElem?,Array.getElem?_append]
 have A01:A0.tmps.getD 1 undef=v1:=by rw [← hA0];simp [Array.getD_eq_getD_getElem?,Array.getElem?_append]
 have A0s:A0.tmps.size=16:=by rw [← hA0];simp [hnt]
 have A0d:A0.defers=[]:=by rw [← hA0]
 have hpre0:wpOpsIn Fence.wide 8 P (r0.extract 0 1) (fun e a' W'=>e=.normal∧(∃ β',Sim (calmK P gl 16 β w W) β' (mkSt [5] [.raw u] []) a' W')∧PinIn [0,1] A0 a') (List.range 1) A0 W:=by
  have:=Round.ops (F:=Fence.wide) (n:=8) (K:=calmK P gl 16 β w W) (pins:=[0,1]) (i0 u) (.inl rfl) k0 (fun _ _=>rfl) (Sim.calm (ns:=[1]) (a:=A0) hg hcW A0s A0d (fun k' m v hm' hv=>by
   rcases k' with _|k'
   ·cases hm';cases hv
    rw [A01];exact hur.calm hclu hcW
   ·simp at hm'))
  rw [show (r0.extract 0 1).size=1 by simp [hz0]] at this
  exact this
 refine opsIn_pre (ops':=r0.extract 0 1) (m:=1) (fun i hi=>by rw [Array.getElem?_extract];simp [hz0];omega) (fun i o _ ho=>hgn hg0 i o ho) ?_ (List.range 1) (fun i hi=>List.mem_range.1 hi) A0 W hpre0
 rintro a1 W1 ⟨⟨β1,hs1⟩,hp1⟩
 have c1:=kept_calm hcW hs1.kept
 have j1:=hJk _ _ _ hJ0 hs1.kept
 have t5:a1.tmps.getD 5 undef=u:=raw_inv (hs1.slot 5)
 have t0:a1.tmps.getD 0 undef=y:=(hp1 0 (by simp)).trans A00
 have t1:a1.tmps.getD 1 undef=v1:=(hp1 1 (by simp)).trans A01
 have sz1:a1.tmps.size=16:=hs1.size
 have d1:a1.defers=[]:=hs1.defers.quiet rfl
 have e1:(execOp a1.eval q1).run P W1=.ok (.value (.int .i64 n)) W1:=by
  have v5:a1.eval (.tmp 5)=.slice a0 n cap:=t5.trans hue
  simp [execOp,hop1,resolve,v5,invoke,builtin,Builtin.len_,run_underlying huS,goInt]
 have e2:∀ (A:Act) (W':World),(execOp A.eval q2).run P W'=.ok (.value (.int .i64 0)) W':=fun A W'=>by
  simp only [execOp,hop2,Sem.run_pure]
  rfl
 simp only [wpOpsIn,hq1,hq2,wnt q1 _ hgd1,wnt q2 _ hgd2,if_true]
 refine ⟨fun _ _=>trivial,?_⟩
 show q1.uponIn _ _ _ _ _ _ ((execOp a1.eval q1).run P W1)
 rw [e1,Oper.uponIn_value,hd1]
 refine ⟨fun _ _=>trivial,?_⟩
 show q2.uponIn _ _ _ _ _ _ ((execOp _ q2).run P W1)
 rw [e2,Oper.uponIn_value,hd2]
 have f1:VlFr y v1 u n 0 ((a1.put (some 6) (.int .i64 n)).put (some 7) (.int .i64 0)) :=
  ⟨by rw [put_size,put_size];exact sz1,d1,by rw [put_ne (by decide),put_ne (by decide)];exact t0,by rw [put_ne (by decide),put_ne (by decide)];exact t1,by rw [put_ne (by decide),put_ne (by decide)];exact t5,
   by rw [put_ne (by decide),put_same (by rw [sz1];decide)],by rw [put_same (by rw [put_size,sz1];decide)];rfl⟩
 generalize (a1.put (some 6) (.int .i64 n)).put (some 7) (.int .i64 0)=A1 at f1
 show (Code.block 0 _).wpIn _ _ _ _ A1 W1
 refine wpIn_block (wpIn_loop (fun a W=>∃ k,k≤n∧VlFr y v1 u n k a∧CalmIn β w W∧J ((List.finRange n).take k) W) (fun a _=>match a.tmps.getD 7 undef with|.int _ i=>(n - i).toNat|_=>0) ⟨0,Nat.zero_le _,f1,c1,j1⟩ ?_)
 rintro a2 W2 ⟨k,hk,f2,c2,j2⟩
 refine wpIn_seq (wpIn_mono (Round.in (pins:=[0,1,5,6,7]) (K:=calmK P gl 16 β w W2) (i1 k hk) (.inl rfl) k1 (fun _ _=>rfl) hm (Sim.calm (ns:=[6,7]) hg c2 f2.size f2.defers (fun k' m v hm' hv=>by
  rcases k' with _|_|k'
  ·cases hm';cases hv;rw [f2.t6];exact .int
  ·cases hm';cases hv;rw [f2.t7];exact .int
  ·simp at hm'))) ?_)
 rintro e a3 W3 ⟨rfl,⟨β3,hs3⟩,hp3'⟩
 have f3:=pin f2 hp3' hs3
 have c3:=kept_calm c2 hs3.kept
 have j3:=hJk _ _ _ j2 hs3.kept
 have t8:a3.eval (.tmp 8)=.bool (decide ((k:Int)<n)):=rel_bool_inv (hs3.slot 8)
 by_cases hkN:k<n
 rotate_left
 ·-- the end
  refine wpIn_seq (wpIn_cond_false (by rw [t8];congr 1;simp;omega) (wpIn_exit ?_))
  obtain rfl:k=n:=by omega
  refine ⟨f3.defers,_,hres a3 W3,⟨_,rfl⟩,.inl ⟨_,?_,j3⟩⟩
  exact List.take_of_length_le (by simp)
 refine wpIn_seq (wpIn_cond_true (by rw [t8];congr 1;simp;omega) (wpIn_skip ?_))
 refine wpIn_seq (wpIn_block (wpIn_seq (wpIn_mono (Round.in (pins:=[0,1,5,6,7]) (K:=calmK P gl 16 β w W3) (i2 k hkN) (.inl rfl) k2 (fun _ _=>rfl) hm (Sim.calm (ns:=[5,7]) hg c3 f3.size f3.defers (fun k' m v hm' hv=>by
  rcases k' with _|_|k'
  ·cases hm';cases hv;rw [f3.t5];exact hV2.calm hcl2 c3
  ·cases hm';cases hv;rw [f3.t7];exact .int
  ·simp at hm'))) ?_)))
 rintro e a4 W4 ⟨rfl,⟨β4,hs4⟩,hp4⟩
 have f4:=pin f3 hp4 hs4
 refine wpIn_seq (wpIn_region ?_)
 have hr3:List.range r3.size=List.range 2++[2,3]:=by rw [hz3];rfl
 rw [hr3]
 have hs4':Sim (calmK P gl 16 β w W3) β4 (mkSt [0,4] [.raw y,.own 0 7 0 0 7] [some ⟨7,1,true,.lst [rowI (V k)]⟩]) a4 W4 :=
  ⟨fun m=>by
   show Rel β4 W4 (lookZ [0,4] [AV.raw y,AV.own 0 7 0 0 7] m) _
   by_cases h0:0=m
   ·subst h0
    rw [f4.t0];exact .raw hyv
   ·by_cases h4:4=m
    ·subst h4;exact hs4.slot 4
    ·rw [lookZ_none (by simp;omega)];exact .junk,hs4.size,hs4.defers,hs4.heap,hs4.inj,hs4.fresh,hs4.live,hs4.giv,hs4.bF,hs4.hF,hs4.kept,hs4.hB,hs4.glob⟩
 have hpre3:wpOpsIn Fence.wide 8 P (r3.extract 0 2) (fun e a' W'=>e=.normal∧(∃ β',Sim (calmK P gl 16 β w W3) β' (mkSt [11,12] [.raw y,.agg (rowI (V k))] []) a' W')∧PinIn [0,1,5,6,7] a4 a') (List.range 2) a4 W4:=by
  have:=Round.ops (F:=Fence.wide) (n:=8) (K:=calmK P gl 16 β w W3) (pins:=[0,1,5,6,7]) (i3 y (V k)) (.inl rfl) k3 (fun _ _=>rfl) hs4'
  rw [show (r3.extract 0 2).size=2 by simp [hz3]] at this
  exact this
 refine opsIn_pre (ops':=r3.extract 0 2) (m:=2) (fun i hi=>by rw [Array.getElem?_extract];simp [hz3];omega) (fun i o _ ho=>hgn hg3 i o ho) ?_ (List.range 2) (fun i hi=>List.mem_range.1 hi) a4 W4 hpre3
 rintro a5 W5 ⟨⟨β5,hs5⟩,hp5⟩
 have f5:=pin f4 hp5 hs5
 have c5:=kept_calm c3 hs5.kept
 have j5:=hJk _ _ _ j3 hs5.kept
 have t11:a5.eval (.tmp 11)=y:=raw_inv (hs5.slot 11)
 have t12:a5.eval (.tmp 12)=rowV (V k):=rowI_inv (hs5.slot 12)
 simp only [wpOpsIn,hp2,hp3,wnt p2 _ hgp2,wnt p3 _ hgp3,if_true]
 refine ⟨fun _ _=>trivial,?_⟩
 have hlen:((List.finRange n).take k).length<n:=by simp;omega
 obtain ⟨fn',tmps',asg,bd,hy10,hR⟩:=hY ((List.finRange n).take k) ⟨k,hkN⟩ W5 j5 hlen
 have e10:(execOp a5.eval p2).run P W5=.ok (.round l fn' tmps' asg bd) W5:=by
  have v11:a5.eval (.tmp 11)=.func (.yield l) #[] #[]:=t11.trans hy.symm
  simp [execOp,hopp2,resolve,v11,t12,Deferred.ofValue,invoke]
  exact hy10
 show p2.uponIn _ _ _ _ _ _ ((execOp _ p2).run P W5)
 rw [e10,Oper.uponIn_round,hdp2]
 refine ⟨fun h=>(by cases h),hR.mono ?_⟩
 have e11:∀ (v:Bool) (W6:World),(execOp (a5.put (some 13) (.bool v)).eval p3).run P W6=.ok (.value (.bool (!v))) W6:=fun v W6=>by
  have v13:(a5.put (some 13) (.bool v)).eval (.tmp 13)=.bool v:=put_same (by rw [f5.size];decide)
  have hun:(Op.unary UnOp.not (.bool v)).run P W6=.ok (.bool (!v)) W6:=rfl
  simp [execOp,hopp3,v13,Result.andThen,hun]
 rintro e W6 (⟨rfl,j6,s6⟩|⟨rfl,jx6⟩)
 ·refine ⟨fun _ _=>trivial,?_⟩
  show p3.uponIn _ _ _ _ _ _ ((execOp _ p3).run P W6)
  rw [e11,Oper.uponIn_value,hdp3]
  have v14:((a5.put (some 13) (.bool true)).put (some 14) (.bool (!true))).eval (.tmp 14)=.bool false:=put_same (by rw [put_size,f5.size];decide)
  refine wpIn_cond_false v14 (wpIn_skip ?_)
  have g8:∀ m,m≠13→m≠14→((a5.put (some 13) (.bool true)).put (some 14) (.bool (!true))).tmps.getD m undef=a5.tmps.getD m undef:=fun m h2 h3=>by
   rw [put_ne h3,put_ne h2]
  have f8:VlFr y v1 u n k ((a5.put (some 13) (.bool true)).put (some 14) (.bool (!true))):=⟨by rw [put_size,put_size];exact f5.size,f5.defers,(g8 0 (by decide) (by decide)).trans f5.t0,(g8 1 (by decide) (by decide)).trans f5.t1,(g8 5 (by decide) (by decide)).trans f5.t5,(g8 6 (by decide) (by decide)).trans f5.t6,(g8 7 (by decide) (by decide)).trans f5.t7⟩
  generalize (a5.put (some 13) (.bool true)).put (some 14) (.bool (!true))=a8 at f8
  have c6:CalmIn β w W6:=s6 c5
  refine wpIn_mono (Round.in (F:=Fence.wide) (pins:=[0,1,5,6]) (K:=calmK P gl 16 β w W6) (i4 k hkN) (.inl rfl) k4 (fun _ _=>rfl) hm (Sim.calm (ns:=[7]) hg c6 f8.size f8.defers (fun k' m v hm' hv=>by
   rcases k' with _|k'
   ·cases hm';cases hv;rw [f8.t7];exact .int
   ·simp at hm'))) ?_
  rintro e a9 W9 ⟨rfl,⟨β9,hs9⟩,hp9⟩
  have t7:a9.tmps.getD 7 undef=.int .i64 (k+1:Nat):=rel_int_inv (hs9.slot 7)
  have f9:VlFr y v1 u n (k+1) a9:=⟨hs9.size,hs9.defers.quiet rfl,(hp9 0 (by simp)).trans f8.t0,(hp9 1 (by simp)).trans f8.t1,(hp9 5 (by simp)).trans f8.t5,(hp9 6 (by simp)).trans f8.t6,t7⟩
  have c9:=kept_calm c6 hs9.kept
  rw [fin k hkN] at j6
  have j9:=hJk _ _ _ j6 hs9.kept
  refine ⟨⟨k+1,hkN,f9,c9,j9⟩,?_⟩
  show (match a9.tmps.getD 7 undef with|.int _ i=>(n - i).toNat|_=>0)<(match a2.tmps.getD 7 undef with|.int _ i=>(n - i).toNat|_=>0)
  rw [f9.t7,f2.t7]
  show ((n:Int) - ((k+1:Nat):Int)).toNat<((n:Int) - ((k:Nat):Int)).toNat
  omega
 ·refine ⟨fun _ _=>trivial,?_⟩
  show p3.uponIn _ _ _ _ _ _ ((execOp _ p3).run P W6)
  rw [e11,Oper.uponIn_value,hdp3]
  have v14:((a5.put (some 13) (.bool false)).put (some 14) (.bool (!false))).eval (.tmp 14)=.bool true:=put_same (by rw [put_size,f5.size];decide)
  refine wpIn_cond_true v14 (wpIn_ret ?_)
  refine ⟨f5.defers,_,hres _ W6,⟨_,rfl⟩,.inr ⟨_,trivial,jx6⟩⟩
end Go.Sp
namespace Go.Sp
open Go Go.Am Go.RowKit
theorem own0_blk {β:Book} {W:World} {v:Value} {o:Ob} {id:Nat} (hr:Rel β W (.own id 1 0 0 1) v) (hh:Holds β W o id) (hn:o.n≠0):∃ b,v=.pointer (some ⟨b,0,none⟩)∧HRel β W o b:=by
 rcases hh with ⟨b,h1,h2⟩|⟨_,h2⟩
 ·cases hr with
  | own h hi hj=>rw [h1] at h;cases h;exact ⟨b,by rw [Nat.zero_mul,Nat.zero_add],h2⟩
  | ownD h=>rw [h1] at h;cases h
 ·exact absurd h2 hn
theorem osl_blk {β:Book} {W:World} {v:Value} {o:Ob} {id es l:Nat} (hr:Rel β W (.osl id es 0 l) v) (hh:Holds β W o id) (hn:o.n=l):∃ a cap,v=.slice a l cap∧(0<l→∃ b,a=some ⟨b,0,none⟩∧HRel β W o b):=by
 rcases hh with ⟨b,h1,h2⟩|⟨h1,h2⟩
 ·cases hr with
  | osl h _ hc _ _=>rw [h1] at h;cases h;exact ⟨_,_,rfl,fun _=>⟨b,by rw [Nat.zero_mul],h2⟩⟩
  | osl0 h=>exact ⟨_,_,rfl,fun h=>absurd h (Nat.lt_irrefl 0)⟩
  | oslD h=>rw [h1] at h;cases h
 ·have:l=0:=by omega
  subst this
  cases hr with
  | osl h _ _ _ _=>rw [h1] at h;cases h
  | osl0 h=>exact ⟨_,_,rfl,fun h=>absurd h (Nat.lt_irrefl 0)⟩
  | oslD h=>rw [h1] at h;cases h
theorem lst_det {β β0:Book} {W:World} {v:Value} {l l0:Nat} {F F0:Nat→Nat→Int} (hv:Rel β W (.own 0 1 0 0 1) v) (hv0:Rel β0 W (.own 0 1 0 0 1) v)
  (a0:Holds β W ⟨1,1,true,.lst [[.osl 1 7 0 l]]⟩ 0) (a1:Holds β W ⟨7,l,true,.row fun i=>rowI (F i)⟩ 1)
  (b0:Holds β0 W ⟨1,1,true,.lst [[.osl 1 7 0 l0]]⟩ 0) (b1:Holds β0 W ⟨7,l0,true,.row fun i=>rowI (F0 i)⟩ 1):l0=l∧∀ i,i<l→rowI (F0 i)=rowI (F i):=by
 obtain ⟨b,rfl,cs,el,h1,h2,h3⟩:=own0_blk hv a0 Nat.one_ne_zero
 obtain ⟨b',e,cs',el',k1,k2,k3⟩:=own0_blk hv0 b0 Nat.one_ne_zero
 cases e
 rw [h1] at k1
 cases k1
 obtain ⟨x,x1,x2,_⟩:=h3 0 0 (Nat.zero_lt_one) (Nat.zero_lt_one)
 obtain ⟨y,y1,y2,_⟩:=k3 0 0 (Nat.zero_lt_one) (Nat.zero_lt_one)
 rw [x1] at y1
 cases y1
 obtain ⟨s,cap,rfl,g1⟩:=osl_blk x2 a1 rfl
 obtain ⟨s',cap',e,g2⟩:=osl_blk y2 b1 rfl
 cases e
 refine ⟨rfl,fun i hi=>?_⟩
 obtain ⟨c,hc,ds,_,m1,m2,m3⟩:=g1 (by omega)
 obtain ⟨c',hc',ds',_,n1,n2,n3⟩:=g2 (by omega)
 rw [hc] at hc'
 cases hc'
 rw [m1] at n1
 cases n1
 have key:∀ j,j<7→∀ p q:Int,atL (rowI (F i)) j=.int .i64 p→atL (rowI (F0 i)) j=.int .i64 q→q=p:=fun j hj p q hp hq=>by
  obtain ⟨x,x1,x2,_⟩:=m3 i j hi hj
  obtain ⟨y,y1,y2,_⟩:=n3 i j hi hj
  rw [x1] at y1
  cases y1
  have x2:Rel β W (atL (rowI (F i)) j) x:=x2
  have y2:Rel β0 W (atL (rowI (F0 i)) j) x:=y2
  rw [hp] at x2
  rw [hq] at y2
  have:=(rel_int_inv y2).symm.trans (rel_int_inv x2)
  cases this;rfl
 unfold rowI
 rw [key 0 (by decide) _ _ rfl rfl,key 1 (by decide) _ _ rfl rfl,key 2 (by decide) _ _ rfl rfl,key 3 (by decide) _ _ rfl rfl,key 4 (by decide) _ _ rfl rfl,key 5 (by decide) _ _ rfl rfl,key 6 (by decide) _ _ rfl rfl]
end Go.Sp

namespace Go.Proofs.YtcageinnelhonaaGreatDoor.U
open Go.IntKind (wrap)
open Int (toNat)
open Go Go.Am Go.Sp
set_option maxRecDepth 100000
def cL:Code→Code|.seq a _=>a|c=>c
def cR:Code→Code|.seq _ b=>b|c=>c
def cI:Code→Code|.block _ a=>a|.loop a=>a|c=>c
def cO:Code→Array Oper|.region _ o _=>o|_ => #[]
def cJ:Code→Nat|.region j _ _=>j|_=>0
noncomputable def vlC:Code:=Tryz.f169.body.getD .skip
noncomputable def vlB:Code:=cI (cI (cR vlC))
noncomputable def vlR1:Code:=cL vlB
noncomputable def vlR4:Code:=cR (cR (cR vlB))
noncomputable def vlK:Code:=cI (cL (cR (cR vlB)))
noncomputable def vlR2:Code:=cL vlK
noncomputable def vlR3:Code:=cL (cR vlK)
theorem vl_shape:vlC=.seq (.region (cJ (cL vlC)) (cO (cL vlC)) false) (.block 0 (.loop (.seq vlR1 (.seq (.cond (.tmp 8) .skip (.exit 0)) (.seq (.block 1 (.seq vlR2 (.seq (.region (cJ vlR3) (cO vlR3) false) (.cond (.tmp 14) .ret .skip)))) vlR4))))):=by kernel_rfl
theorem vl0 (u:Value):Round Tryz.prog gl0 ow0 0 16 (.region (cJ (cL vlC)) ((cO (cL vlC)).extract 0 1) false) (mkSt [1] [.ipt 1 fun _=>.raw u] []) (mkSt [5] [.raw u] []):=by
 refine round_sk (own:=ow0)
  (.again (fun (u_1:ASt)=>Le 0 u_1 (mkSt [5] [AV.raw u] [])) [5] [] [AV.raw u] [])
  (by kernel_rfl) ?_
 exact k_againR (fun _ hs=>hs.le (⟨.refl _,trivial⟩) (trivial))
theorem vl1 (n k:Nat) (_:k≤n) (_:n≤100000):Round Tryz.prog gl0 ow0 0 16 vlR1 (mkSt [6,7] [.int .i64 n,.int .i64 k] []) (mkSt [8] [.bool (decide ((k:Int)<n))] []):=by
 refine round_sk (own:=ow0)
  (let y0:List AV:=[.bool (decide ((k:Int)<(n:Int)))];(.again (fun (u:ASt)=>Le 0 u (mkSt [8] y0 [])) [8] [] (y0) []))
  (by kernel_rfl) ?_
 exact k_againR (fun _ hs=>hs.le (⟨.refl _,trivial⟩) (trivial))
theorem vl2 (n:Nat) (V:Nat→Nat→Int) (k:Nat) (hk:k<n) (_:n≤100000):Round Tryz.prog gl0 ow0 0 16 vlR2 (mkSt [5,7] [.isl 7 n fun i j=>atL (rowI (V i)) j,.int .i64 k] []) (mkSt [4] [.own 0 7 0 0 7] [some ⟨7,1,true,.lst [rowI (V k)]⟩]):=by
 refine round_sk (own:=ow0)
  (let y0:Nat:=(toNat (k:Int));(.req (0≤(k:Int)∧(k:Int)<(n:Int)) (.again (fun (u:ASt)=>Le 0 u (mkSt [4] [.own 0 7 0 0 7] [some ⟨7,1,true,.lst [rowI (V k)]⟩])) [4] [16] [.own 0 7 0 0 7] [some ⟨7,1,true,.lst [[Zi (V y0 0),Zi (V y0 1),Zi (V y0 2),Zi (V y0 3),Zi (V y0 4),Zi (V y0 5),Zi (V y0 6)]]⟩])))
  (by kernel_rfl) ?_
 refine k_req (by omega) ?_
 exact k_againR (fun _ hs=>hs.le (⟨.refl _,trivial⟩) (⟨.refl _,trivial⟩))
theorem vl3 (y:Value) (V:Nat→Int):Round Tryz.prog gl0 ow0 0 16 (.region (cJ vlR3) ((cO vlR3).extract 0 2) false) (mkSt [0,4] [.raw y,.own 0 7 0 0 7] [some ⟨7,1,true,.lst [rowI V]⟩]) (mkSt [11,12] [.raw y,.agg (rowI V)] []):=by
 refine round_sk (own:=ow0)
  (.again (fun (u:ASt)=>Le 0 u (mkSt [11,12] [AV.raw y,.agg (rowI V)] [])) [11,12] [] [AV.raw y,.agg [Zi (V 0),Zi (V 1),Zi (V 2),Zi (V 3),Zi (V 4),Zi (V 5),Zi (V 6)]] [])
  (by kernel_rfl) ?_
 exact k_againR (fun _ hs=>hs.le (⟨.refl _,.refl _,trivial⟩) (trivial))
theorem vl4 (n k:Nat) (hk:k<n) (hn:n≤100000):Round Tryz.prog gl0 ow0 0 16 vlR4 (mkSt [7] [.int .i64 k] []) (mkSt [7] [.int .i64 (k+1:Nat)] []):=by
 refine round_sk (own:=ow0)
  (.again (fun (u:ASt)=>Le 0 u (mkSt [7] [Zi (↑(k+1):Int)] [])) [7] [] [Zi (wrap .i64 ((k:Int)+1))] [])
  (by kernel_rfl) ?_
 exact k_againR (fun _ hs=>hs.le (⟨inc_ent (by omega),trivial⟩) (trivial))
theorem values_iter (n:Nat) (f:Nat→Sup) (hn:n≤100000):Iter Tryz.prog gl0 169 [.ipt 1 fun _=>supA n f] n (fun k=>.agg (f k.1).cells) :=
 values_of (own:=ow0) (V:=fun i=>supI (f i)) (j0:=cJ (cL vlC)) (j3:=cJ vlR3) (tS:=45) (tE:=53) Tryz.func169 (by kernel_rfl:_=some vlC) (by kernel_rfl) (by kernel_rfl) (by kernel_rfl) mixed vl_shape (by kernel_rfl) (by kernel_rfl) (by kernel_rfl) (by kernel_rfl) (by kernel_rfl) (by kernel_rfl) (by kernel_rfl) (by kernel_rfl) (by kernel_rfl) (by kernel_rfl) (by kernel_rfl) (by kernel_rfl) (by kernel_rfl) (by kernel_rfl)
  vl0 (fun k hk=>vl1 n k hk hn) (fun k hk=>vl2 n (fun i=>supI (f i)) k hk hn) vl3 (fun k hk=>vl4 n k hk hn)
theorem values_c (n:Nat) (f:Nat→Sup):Pure Tryz.prog gl0 103 [supA n f] (.fn (.func 169) [] [.ipt 1 fun _=>supA n f]):=by
 exact pz Tryz.func103 (by
  exact n_out (fn1_ent ipt1_ent))
def rA:Code→Code|.rangeFunc _ _ a _=>a|c=>c
def rB:Code→Code|.rangeFunc _ _ _ b=>b|c=>c
noncomputable def apX:Code:=Tryz.f229.body.getD .skip
noncomputable def apF:Code:=cI (cR (cL (cR apX)))
theorem ap_shape:apF=.rangeFunc (.tmp 6) #[7] (rA apF) (rB apF):=by rfl
def preS {n:Nat} (f:Nat→Sup) (pre:List (Fin n)) (i:Nat):Sup:=match pre[i]? with
 | some x=>f x.1
 | none=>default
theorem preS_len {n:Nat} {pre:List (Fin n)} {x:Fin n}:(pre++[x]).length=pre.length+1:=by simp
theorem preS_lt {n:Nat} {f:Nat→Sup} {pre:List (Fin n)} {x:Fin n} {i:Nat} (h:i<pre.length):preS f (pre++[x]) i=preS f pre i:=by grind [preS,List.getElem?_append_left]
theorem preS_at {n:Nat} {f:Nat→Sup} {pre:List (Fin n)} {x:Fin n}:preS f (pre++[x]) pre.length=f x.1:=by simp [preS]
theorem entL_eq {os:List (Option Ob)} {l l':List AV} (h:l=l'):EntL os l l':=h▸EntL.refl l
theorem ap_a (n:Nat) (f:Nat→Sup) (pre:List (Fin n)) (x:Fin n):Round Tryz.prog gl0 ow0 0 13 (rA apF) (mkSt [7,2,6] [.agg (f x.1).cells,.own 0 1 0 0 1,.fn (.func 169) [] [.ipt 1 fun _=>supA n f]] [some ⟨1,1,true,.lst [[.osl 1 7 0 pre.length]]⟩,some ⟨7,pre.length,true,.row fun i=>(preS f pre i).cells⟩]) (mkSt [5,7,2,6] [.own 2 7 0 0 7,.agg (f x.1).cells,.own 0 1 0 0 1,.fn (.func 169) [] [.ipt 1 fun _=>supA n f]] [some ⟨1,1,true,.lst [[.osl 1 7 0 pre.length]]⟩,some ⟨7,pre.length,true,.row fun i=>(preS f pre i).cells⟩,some ⟨7,1,true,.lst [(f x.1).cells]⟩]):=by
 refine round_sk (own:=ow0)
  (let z0:=(Sup.cells (f (↑x:Nat)));(.again (fun (u:ASt)=>Le 0 u (mkSt [5,7,2,6] [.own 2 7 0 0 7,.agg z0,.own 0 1 0 0 1,AV.fn (Fn.func (169:FuncId)) [] [AV.ipt 1 fun x=>supA n f]] [some ⟨1,1,true,.lst [[.osl 1 7 0 (List.length pre)]]⟩,some ⟨7,List.length pre,true,Rep.row fun i=>Sup.cells (preS f pre i)⟩,some ⟨7,1,true,.lst [Sup.cells (f (↑x:Nat))]⟩])) [5,7,2,6] [0,1,2] [.own 2 7 0 0 7,.agg z0,.own 0 1 0 0 1,AV.fn (Fn.func (169:FuncId)) [] [AV.ipt 1 fun x=>.isl 7 n fun i j=>atL (Sup.cells (f i)) j]] [some ⟨1,1,true,.lst [[.osl 1 7 0 (List.length pre)]]⟩,some ⟨7,List.length pre,true,Rep.row fun i=>Sup.cells (preS f pre i)⟩,some ⟨7,1,true,.lst [Sup.cells (f (↑x:Nat))]⟩]))
  (by rfl) ?_
 exact k_againR (fun _ hs=>hs.le (by repeat' (first|exact trivial|(first|exact Ent.refl _|exact inc_ent (by omega)|exact Ent.nil rfl|exact Ent.of_eq (congrArg (AV.osl _ _ _) (by rfl))|exact Ent.of_eq (congrArg (AV.int _) (by rfl)))|refine And.intro ?_ ?_)) (by repeat' (first|exact trivial|(first|exact ObEnt.refl _|exact ObEnt.junk|exact ObEnt.zero|exact ObEnt.push rfl rfl|exact ObEnt.pushRow rfl|exact ObEnt.len (by omega)|exact ObEnt.row (by repeat' (first|exact trivial|(first|exact Ent.refl _|exact inc_ent (by omega)|exact Ent.nil rfl|exact Ent.of_eq (congrArg (AV.osl _ _ _) (by rfl))|exact Ent.of_eq (congrArg (AV.int _) (by rfl)))|refine And.intro ?_ ?_)))|refine And.intro ?_ ?_)))
theorem ap_d (n:Nat) (f:Nat→Sup) (pre:List (Fin n)) (x:Fin n):Round Tryz.prog gl0 ow0 0 13 .skip (mkSt [5,7,2,6] [.own 2 7 0 0 7,.agg (f x.1).cells,.own 0 1 0 0 1,.fn (.func 169) [] [.ipt 1 fun _=>supA n f]] [some ⟨1,1,true,.lst [[.osl 1 7 0 pre.length]]⟩,some ⟨7,pre.length,true,.row fun i=>(preS f pre i).cells⟩,some ⟨7,1,true,.lst [(f x.1).cells]⟩]) (mkSt [2,6] [.own 0 1 0 0 1,.fn (.func 169) [] [.ipt 1 fun _=>supA n f]] [some ⟨1,1,true,.lst [[.osl 1 7 0 pre.length]]⟩,some ⟨7,pre.length,true,.row fun i=>(preS f pre i).cells⟩]):=by
 refine round_sk (own:=ow0)
  (let y0:List (Option Ob):=[some ⟨1,1,true,.lst [[.osl 1 7 0 (List.length pre)]]⟩,some ⟨7,List.length pre,true,Rep.row fun i=>Sup.cells (preS f pre i)⟩];(.again (fun (u:ASt)=>Le 0 u (mkSt [2,6] [.own 0 1 0 0 1,AV.fn (Fn.func (169:FuncId)) [] [AV.ipt 1 fun x=>supA n f]] y0)) [2,6] [0,1] [.own 0 1 0 0 1,AV.fn (Fn.func (169:FuncId)) [] [AV.ipt 1 fun x=>.isl 7 n fun i j=>atL (Sup.cells (f i)) j]] (y0)))
  (by rfl) ?_
 exact k_againR (fun _ hs=>hs.le (by repeat' (first|exact trivial|(first|exact Ent.refl _|exact inc_ent (by omega)|exact Ent.nil rfl|exact Ent.of_eq (congrArg (AV.osl _ _ _) (by rfl))|exact Ent.of_eq (congrArg (AV.int _) (by rfl)))|refine And.intro ?_ ?_)) (by repeat' (first|exact trivial|(first|exact ObEnt.refl _|exact ObEnt.junk|exact ObEnt.zero|exact ObEnt.push rfl rfl|exact ObEnt.pushRow rfl|exact ObEnt.len (by omega)|exact ObEnt.row (by repeat' (first|exact trivial|(first|exact Ent.refl _|exact inc_ent (by omega)|exact Ent.nil rfl|exact Ent.of_eq (congrArg (AV.osl _ _ _) (by rfl))|exact Ent.of_eq (congrArg (AV.int _) (by rfl)))|refine And.intro ?_ ?_)))|refine And.intro ?_ ?_)))
theorem ap_b (n:Nat) (f:Nat→Sup) (pre:List (Fin n)) (x:Fin n) (hl:pre.length≤100000):Round Tryz.prog gl0 ow0 0 13 (rB apF) (mkSt [5,7,2,6] [.own 2 7 0 0 7,.agg (f x.1).cells,.own 0 1 0 0 1,.fn (.func 169) [] [.ipt 1 fun _=>supA n f]] [some ⟨1,1,true,.lst [[.osl 1 7 0 pre.length]]⟩,some ⟨7,pre.length,true,.row fun i=>(preS f pre i).cells⟩,some ⟨7,1,true,.lst [(f x.1).cells]⟩]) (mkSt [2,6] [.own 0 1 0 0 1,.fn (.func 169) [] [.ipt 1 fun _=>supA n f]] [some ⟨1,1,true,.lst [[.osl 1 7 0 (pre++[x]).length]]⟩,some ⟨7,(pre++[x]).length,true,.row fun i=>(preS f (pre++[x]) i).cells⟩]):=by
 refine round_sk (own:=ow0)
  (.req ((List.length pre+1)*56≤140737488355328) (.again (fun (u:ASt)=>Le 0 u (mkSt [2,6] [.own 0 1 0 0 1,AV.fn (Fn.func (169:FuncId)) [] [AV.ipt 1 fun x=>supA n f]] [some ⟨1,1,true,.lst [[.osl 1 7 0 (List.length (pre++[x]))]]⟩,some ⟨7,List.length (pre++[x]),true,Rep.row fun i=>Sup.cells (preS f (pre++[x]) i)⟩])) [2,6] [0,27] [.own 0 1 0 0 1,AV.fn (Fn.func (169:FuncId)) [] [AV.ipt 1 fun x=>.isl 7 n fun i j=>atL (Sup.cells (f i)) j]] [some ⟨1,1,true,.lst [[.osl 1 7 0 (List.length pre+1)]]⟩,some ⟨7,List.length pre+1,true,Rep.cat (List.length pre) (Rep.row fun i=>Sup.cells (preS f pre i)) (.lst [Sup.cells (f (↑x:Nat))])⟩]))
  (by rfl) ?_
 refine k_req (by omega) ?_
 exact k_againR (fun _ hs=>hs.le (⟨Ent.refl _,Ent.refl _,trivial⟩) (⟨ObEnt.row ⟨Ent.of_eq (by simp),trivial⟩,ObEnt.catRow preS_len (fun i hi=>entL_eq (by rw [preS_lt hi])) (entL_eq (by rw [preS_at])),trivial⟩))
theorem sup_ext {a b:Sup} (h:rowI (supI a)=rowI (supI b)):a=b:=by
 cases a;cases b
 simp only [rowI,supI,List.cons.injEq,AV.int.injEq,true_and,and_true] at h
 obtain ⟨rfl,rfl,rfl,rfl,rfl,rfl,rfl⟩:=h
 rfl
theorem ap_det (n:Nat) (f:Nat→Sup) (pre pre0:List (Fin n)) (K:Ctx) (β β0:Book) (a a':Go.Act) (W:World) (hs:Sim K β (mkSt [2,6] [.own 0 1 0 0 1,.fn (.func 169) [] [.ipt 1 fun _=>supA n f]] [some ⟨1,1,true,.lst [[.osl 1 7 0 pre.length]]⟩,some ⟨7,pre.length,true,.row fun i=>(preS f pre i).cells⟩]) a W) (hs0:Sim K β0 (mkSt [2,6] [.own 0 1 0 0 1,.fn (.func 169) [] [.ipt 1 fun _=>supA n f]] [some ⟨1,1,true,.lst [[.osl 1 7 0 (pre0).length]]⟩,some ⟨7,(pre0).length,true,.row fun i=>(preS f (pre0) i).cells⟩]) a' W)
  (ha:∀ m,m∈[2,6]→a'.tmps.getD m undef=a.tmps.getD m undef):pre0.length=pre.length∧preS f pre0=preS f pre:=by
 have v1:=hs.slot 2
 have v2:=hs0.slot 2
 rw [ha 2 (by simp)] at v2
 obtain ⟨h1,h2⟩:=lst_det (F:=fun i=>supI (preS f pre i)) (F0:=fun i=>supI (preS f pre0 i)) v1 v2 (hs.heap 0 _ rfl) (hs.heap 1 _ rfl) (hs0.heap 0 _ rfl) (hs0.heap 1 _ rfl)
 refine ⟨h1,funext fun i=>?_⟩
 grind [sup_ext,preS,List.getElem?_eq_none]
theorem preS_snoc {n:Nat} {f:Nat→Sup} {pre:List (Fin n)} {x:Fin n}:preS f (pre++[x])=fun i=>if i<pre.length then preS f pre i else if i=pre.length then f x.1 else default:=by
 funext i
 by_cases h:i<pre.length
 ·rw [if_pos h,preS_lt h]
 ·rw [if_neg h]
  by_cases e:i=pre.length
  ·rw [if_pos e,e,preS_at]
  ·rw [if_neg e];grind [preS,List.getElem?_eq_none]
theorem cells_nml (s:Sup):NML s.cells:=⟨.int,.int,.int,.int,.int,.int,.int,trivial⟩
theorem cells_nm (s:Sup) (j:Nat):NM (atL s.cells j):=(cells_nml s).atL j
theorem supA_nm (n:Nat) (f:Nat→Sup):NM (supA n f):=.isl fun _ j _ _=>cells_nm _ j
theorem vv_nm (n:Nat) (f:Nat→Sup):NML [.own 0 1 0 0 1,.fn (.func 169) [] [.ipt 1 fun _=>supA n f]]:=⟨.own,.fn (fun u h=>by cases h) (NML.spec (l:=[_]) ⟨.ipt fun _ _=>supA_nm n f,trivial⟩),trivial⟩
theorem osl1_nm {l:Nat}:NMB ⟨1,1,true,.lst [[.osl 1 7 0 l]]⟩:=fun i j hi _=>by
 obtain rfl:i=0:=Nat.lt_one_iff.1 hi
 exact NML.atL (l:=[_]) ⟨.osl,trivial⟩ j
theorem ap_opq (n:Nat) (f:Nat→Sup) (hn:n≤100000):Opq Tryz.prog gl0 0 13 apF (mkSt [2,6] [.own 0 1 0 0 1,.fn (.func 169) [] [.ipt 1 fun _=>supA n f]] [some ⟨1,1,true,.lst [[.osl 1 7 0 0]]⟩,some ⟨7,0,true,.row fun i=>(preS (n:=n) f [] i).cells⟩]) (mkSt [2,6] [.own 0 1 0 0 1,.fn (.func 169) [] [.ipt 1 fun _=>supA n f]] [some ⟨1,1,true,.lst [[.osl 1 7 0 n]]⟩,some ⟨7,n,true,.row fun i=>(preS f (List.finRange n) i).cells⟩]):=by
 have hq:=opq_rangeB (P:=Tryz.prog) (gl:=gl0) (own:=ow0) (ng:=0) (nt:=13) (g:=.tmp 6) (p:=7) (d:=5) (assign:=rA apF) (body:=rB apF) (xs:=fun k:Fin n=>.agg (f k.1).cells) (ns:=[2,6]) (vs:=[.own 0 1 0 0 1,.fn (.func 169) [] [.ipt 1 fun _=>supA n f]]) (bv:=.own 2 7 0 0 7) (bx:=fun x=>⟨7,1,true,.lst [(f x.1).cells]⟩) (obs:=fun pre=>[some ⟨1,1,true,.lst [[.osl 1 7 0 pre.length]]⟩,some ⟨7,pre.length,true,.row fun i=>(preS f pre i).cells⟩]) (obs1:=[some ⟨1,1,true,.lst [[.osl 1 7 0 n]]⟩,some ⟨7,n,true,.row fun i=>(preS f (List.finRange n) i).cells⟩])
  rfl (values_iter n f hn) (fun x=>.agg fun u hu=>by
   simp only [Sup.cells,List.mem_cons,List.not_mem_nil,or_false] at hu
   rcases hu with rfl|rfl|rfl|rfl|rfl|rfl|rfl<;>exact .int) (fun pre=>rfl)
  (fun pre=>.of (vv_nm n f) ⟨osl1_nm,fun i j _ _=>cells_nm _ j,trivial⟩) (fun pre x=>.of ⟨.own,.agg (cells_nml _).spec,vv_nm n f⟩ ⟨osl1_nm,fun i j _ _=>cells_nm _ j,fun i j hi _=>(by obtain rfl:i=0:=Nat.lt_one_iff.1 hi;exact cells_nm _ j),trivial⟩) (fun g m f h=>by cases h) (by rfl) (fun pre x=>ap_a n f pre x) (fun pre x=>ap_d n f pre x) (fun pre x hl=>ap_b n f pre x (by omega))
  (fun pre pre0 K β β0 a a' W h h0 ha=>by
   obtain ⟨e1,e2⟩:=ap_det n f pre pre0 K β β0 a a' W h h0 ha
   refine ⟨e1,fun x=>?_⟩
   show ([some ⟨1,1,true,.lst [[.osl 1 7 0 (pre0++[x]).length]]⟩,some ⟨7,(pre0++[x]).length,true,.row fun i=>(preS f (pre0++[x]) i).cells⟩]:List (Option Ob))=[some ⟨1,1,true,.lst [[.osl 1 7 0 (pre++[x]).length]]⟩,some ⟨7,(pre++[x]).length,true,.row fun i=>(preS f (pre++[x]) i).cells⟩]
   simp_all [preS_snoc]) (by simp)
 grind [ap_shape]
theorem appendSeq_c (n:Nat) (f:Nat→Sup) (hn:n≤100000):Gives Tryz.prog gl0 229 [] [.nsl,.fn (.func 169) [] [.ipt 1 fun _=>supA n f]] (.osl 0 7 0 n) [some ⟨7,n,true,.row fun i=>(preS f (List.finRange n) i).cells⟩]:=by
 exact gz ow0 Tryz.func229 (by
  refine n_old (.opq 13 (apF) [2,6] [0,1817] [.own 0 1 0 0 1,AV.fn (Fn.func (169:FuncId)) [] [AV.ipt 1 fun x=>.isl 7 n fun i j=>atL (Sup.cells (f i)) j]] [some ⟨1,1,true,.lst [[.nsl]]⟩,some ⟨7,0,true,.ty (999999999:TypeId) (.lst [])⟩] (mkSt [2,6] [.own 0 1 0 0 1,AV.fn (Fn.func (169:FuncId)) [] [AV.ipt 1 fun x=>supA n f]] [some ⟨1,1,true,.lst [[.osl 1 7 0 n]]⟩,some ⟨7,n,true,Rep.row fun i=>Sup.cells (preS f (List.finRange n) i)⟩]) (.out (.osl 0 7 0 n) ([some ⟨7,n,true,Rep.row fun i=>Sup.cells (preS f (List.finRange n) i)⟩]) (.osl 0 7 0 n) ([some ⟨7,n,true,Rep.row fun i=>Sup.cells (preS f (List.finRange n) i)⟩]))) ?_
  refine k_opq (fun _ hs=>hs.le (by repeat' (first|exact trivial|(first|exact Ent.refl _|exact inc_ent (by omega)|exact Ent.nil rfl|exact Ent.of_eq (congrArg (AV.osl _ _ _) (by rfl))|exact Ent.of_eq (congrArg (AV.int _) (by rfl)))|refine And.intro ?_ ?_)) (by repeat' (first|exact trivial|(first|exact ObEnt.refl _|exact ObEnt.junk|exact ObEnt.zero|exact ObEnt.push rfl rfl|exact ObEnt.pushRow rfl|exact ObEnt.len (by omega)|exact ObEnt.row (by repeat' (first|exact trivial|(first|exact Ent.refl _|exact inc_ent (by omega)|exact Ent.nil rfl|exact Ent.of_eq (congrArg (AV.osl _ _ _) (by rfl))|exact Ent.of_eq (congrArg (AV.int _) (by rfl)))|refine And.intro ?_ ?_)))|refine And.intro ?_ ?_))) (ap_opq n f hn) ?_
  exact k_outg (Ent.of_eq (by rfl)) (by repeat' (first|exact trivial|(first|exact ObEnt.refl _|exact ObEnt.junk|exact ObEnt.zero|exact ObEnt.push rfl rfl|exact ObEnt.pushRow rfl|exact ObEnt.len (by omega)|exact ObEnt.row (by repeat' (first|exact trivial|(first|exact Ent.refl _|exact inc_ent (by omega)|exact Ent.nil rfl|exact Ent.of_eq (congrArg (AV.osl _ _ _) (by rfl))|exact Ent.of_eq (congrArg (AV.int _) (by rfl)))|refine And.intro ?_ ?_)))|refine And.intro ?_ ?_)))
def sA:Sup:=⟨0,0,1,5,0,0,0⟩
def sB:Sup:=⟨0,0,1,3,2,0,0⟩
def sC:Sup:=⟨0,0,0,7,0,0,0⟩
def owT (n:Nat):FuncId→Option (List Bool):=fun f=>bif Nat.beq f 999999999 then some (List.replicate n true) else
 bif Nat.beq f 170 then some [true,false,false,false] else
 bif Nat.beq f 230 then some [true,false,false,false,false] else
 bif Nat.beq f 105 then some [true,false,false] else
 bif Nat.beq f 46 then some [true,false] else
 bif Nat.beq f 229 then some [false,false] else
 bif Nat.beq f 167 then some [false] else
 bif Nat.beq f 168 then some [true,false] else none
theorem cmp_CB:Pure Tryz.prog gl0 47 [.agg [.int .i64 0,.int .i64 0,.int .i64 0,.int .i64 7,.int .i64 0,.int .i64 0,.int .i64 0],.agg [.int .i64 0,.int .i64 0,.int .i64 1,.int .i64 3,.int .i64 2,.int .i64 0,.int .i64 0]] (.int .i64 (-1)):=compare_c sC sB
theorem cmp_CA:Pure Tryz.prog gl0 47 [.agg [.int .i64 0,.int .i64 0,.int .i64 0,.int .i64 7,.int .i64 0,.int .i64 0,.int .i64 0],.agg [.int .i64 0,.int .i64 0,.int .i64 1,.int .i64 5,.int .i64 0,.int .i64 0,.int .i64 0]] (.int .i64 (-1)):=compare_c sC sA
theorem cmp_BA:Pure Tryz.prog gl0 47 [.agg [.int .i64 0,.int .i64 0,.int .i64 1,.int .i64 3,.int .i64 2,.int .i64 0,.int .i64 0],.agg [.int .i64 0,.int .i64 0,.int .i64 1,.int .i64 5,.int .i64 0,.int .i64 0,.int .i64 0]] (.int .i64 0):=compare_c sB sA
theorem cmp_CC:Pure Tryz.prog gl0 47 [.agg [.int .i64 0,.int .i64 0,.int .i64 0,.int .i64 7,.int .i64 0,.int .i64 0,.int .i64 0],.agg [.int .i64 0,.int .i64 0,.int .i64 0,.int .i64 7,.int .i64 0,.int .i64 0,.int .i64 0]] (.int .i64 0):=compare_c sC sC
theorem coll_1:Gives Tryz.prog gl0 167 [] [.fn (.func 169) [] [.ipt 1 fun _=>supA 1 fun _=>sA]] (.osl 0 7 0 1) [some ⟨7,1,true,.lst [[.int .i64 0,.int .i64 0,.int .i64 1,.int .i64 5,.int .i64 0,.int .i64 0,.int .i64 0]]⟩]:=by
 have c1:=appendSeq_c 1 (fun _=>sA) (by decide)
 exact gz (owT 2) Tryz.func167 (by
  apply n_gc (c1)
  exact n_outG (.osl 0 7 0 1) ([some ⟨7,1,true,Rep.row fun i=>Sup.cells (preS (fun x=>sA) (List.finRange 1) i)⟩]) (Ent.of_eq rfl) (⟨⟨rfl,rfl,rfl,fun i j hi _=>by obtain rfl:i=0:=Nat.lt_one_iff.1 hi;exact Ent.refl _⟩,trivial⟩))
theorem lit2 {os:List (Option Ob)} {F G:Rep} (h0:(List.range 7).map (F.at 0)=(List.range 7).map (G.at 0)) (h1:(List.range 7).map (F.at 1)=(List.range 7).map (G.at 1)) (ht:tyc F G=true:=by rfl):ObEnt os ⟨7,2,true,F⟩ ⟨7,2,true,G⟩ :=
 ⟨congrArg (Prod.mk 7) ht,rfl,rfl,fun i j hi hj=>Ent.of_eq (by
  have key:∀ f g:Nat→AV,(List.range 7).map f=(List.range 7).map g→f j=g j:=fun f g e=>List.map_inj_left.1 e j (List.mem_range.2 hj)
  match i,hi with
  | 0,_=>exact key _ _ h0
  | 1,_=>exact key _ _ h1)⟩
theorem lit3 {os:List (Option Ob)} {F G:Rep} (h0:(List.range 7).map (F.at 0)=(List.range 7).map (G.at 0)) (h1:(List.range 7).map (F.at 1)=(List.range 7).map (G.at 1)) (h2:(List.range 7).map (F.at 2)=(List.range 7).map (G.at 2)) (ht:tyc F G=true:=by rfl):ObEnt os ⟨7,3,true,F⟩ ⟨7,3,true,G⟩ :=
 ⟨congrArg (Prod.mk 7) ht,rfl,rfl,fun i j hi hj=>Ent.of_eq (by
  have key:∀ f g:Nat→AV,(List.range 7).map f=(List.range 7).map g→f j=g j:=fun f g e=>List.map_inj_left.1 e j (List.mem_range.2 hj)
  match i,hi with
  | 0,_=>exact key _ _ h0
  | 1,_=>exact key _ _ h1
  | 2,_=>exact key _ _ h2)⟩
theorem ins_1:Gives Tryz.prog gl0 170 [⟨7,1,true,.lst [[.int .i64 0,.int .i64 0,.int .i64 1,.int .i64 5,.int .i64 0,.int .i64 0,.int .i64 0]]⟩] [.osl 0 7 0 1,.int .i64 0,.int .i64 1,.fn (.func 47) [] []] (.tup []) [some ⟨7,1,true,.lst [[.int .i64 0,.int .i64 0,.int .i64 1,.int .i64 5,.int .i64 0,.int .i64 0,.int .i64 0]]⟩]:=by
 exact gz (owT 2) Tryz.func170 (by
  apply n_ff
  exact n_org)
theorem ins_2:Gives Tryz.prog gl0 170 [⟨7,2,true,.lst [[.int .i64 0,.int .i64 0,.int .i64 1,.int .i64 3,.int .i64 2,.int .i64 0,.int .i64 0],[.int .i64 0,.int .i64 0,.int .i64 0,.int .i64 7,.int .i64 0,.int .i64 0,.int .i64 0]]⟩] [.osl 0 7 0 2,.int .i64 0,.int .i64 2,.fn (.func 47) [] []] (.tup []) [some ⟨7,2,true,.lst [[.int .i64 0,.int .i64 0,.int .i64 0,.int .i64 7,.int .i64 0,.int .i64 0,.int .i64 0],[.int .i64 0,.int .i64 0,.int .i64 1,.int .i64 3,.int .i64 2,.int .i64 0,.int .i64 0]]⟩]:=by
 exact gz (owT 3) Tryz.func170 (by
  apply n_tt
  apply n_req (true=true→(0:Int)≤wrap .i64 ((0:Int)+1)∧wrap .i64 ((0:Int)+1)<2)
  apply n_req (true=true→(0:Int)≤wrap .i64 (wrap .i64 ((0:Int)+1) - 1)∧wrap .i64 (wrap .i64 ((0:Int)+1) - 1)<2)
  apply n_sc (cmp_CB)
  apply n_tt
  apply n_req ((0:Int)≤wrap .i64 (wrap .i64 ((0:Int)+1) - 1)∧wrap .i64 (wrap .i64 ((0:Int)+1) - 1)<2)
  apply n_req ((0:Int)≤wrap .i64 ((0:Int)+1)∧wrap .i64 ((0:Int)+1)<2)
  apply n_req ((0:Int)≤wrap .i64 ((0:Int)+1)∧wrap .i64 ((0:Int)+1)<2)
  apply n_req ((0:Int)≤wrap .i64 (wrap .i64 ((0:Int)+1) - 1)∧wrap .i64 (wrap .i64 ((0:Int)+1) - 1)<2)
  apply n_req (false=true→(0:Int)≤wrap .i64 (wrap .i64 ((0:Int)+1) - 1)∧wrap .i64 (wrap .i64 ((0:Int)+1) - 1)<2)
  apply n_req (false=true→(0:Int)≤wrap .i64 (wrap .i64 (wrap .i64 ((0:Int)+1) - 1) - 1)∧wrap .i64 (wrap .i64 (wrap .i64 ((0:Int)+1) - 1) - 1)<2)
  apply n_scg false (fun h11=>cmp_CC)
  apply n_ff
  apply n_ff
  exact n_outG (.tup []) ([some ⟨7,2,true,.lst [[Zi 0,Zi 0,Zi 0,Zi 7,Zi 0,Zi 0,Zi 0],[Zi 0,Zi 0,Zi 1,Zi 3,Zi 2,Zi 0,Zi 0]]⟩]) (Ent.of_eq rfl) (⟨lit2 rfl rfl,trivial⟩))
theorem ins_3:Gives Tryz.prog gl0 170 [⟨7,3,true,.lst [[.int .i64 0,.int .i64 0,.int .i64 1,.int .i64 5,.int .i64 0,.int .i64 0,.int .i64 0],[.int .i64 0,.int .i64 0,.int .i64 1,.int .i64 3,.int .i64 2,.int .i64 0,.int .i64 0],[.int .i64 0,.int .i64 0,.int .i64 0,.int .i64 7,.int .i64 0,.int .i64 0,.int .i64 0]]⟩] [.osl 0 7 0 3,.int .i64 0,.int .i64 3,.fn (.func 47) [] []] (.tup []) [some ⟨7,3,true,.lst [[.int .i64 0,.int .i64 0,.int .i64 0,.int .i64 7,.int .i64 0,.int .i64 0,.int .i64 0],[.int .i64 0,.int .i64 0,.int .i64 1,.int .i64 5,.int .i64 0,.int .i64 0,.int .i64 0],[.int .i64 0,.int .i64 0,.int .i64 1,.int .i64 3,.int .i64 2,.int .i64 0,.int .i64 0]]⟩]:=by
 exact gz (owT 4) Tryz.func170 (by
  apply n_tt
  apply n_req (true=true→(0:Int)≤wrap .i64 ((0:Int)+1)∧wrap .i64 ((0:Int)+1)<(↑(3):Int))
  apply n_req (true=true→(0:Int)≤wrap .i64 (wrap .i64 ((0:Int)+1) - 1)∧wrap .i64 (wrap .i64 ((0:Int)+1) - 1)<(↑(3):Int))
  apply n_sc (cmp_BA)
  apply n_ff
  apply n_tt
  apply n_req (true=true→(0:Int)≤wrap .i64 (wrap .i64 ((0:Int)+1)+1)∧wrap .i64 (wrap .i64 ((0:Int)+1)+1)<(↑(3):Int))
  apply n_req (true=true→(0:Int)≤wrap .i64 (wrap .i64 (wrap .i64 ((0:Int)+1)+1) - 1)∧wrap .i64 (wrap .i64 (wrap .i64 ((0:Int)+1)+1) - 1)<(↑(3):Int))
  apply n_sc (cmp_CB)
  apply n_tt
  apply n_req ((0:Int)≤wrap .i64 (wrap .i64 (wrap .i64 ((0:Int)+1)+1) - 1)∧wrap .i64 (wrap .i64 (wrap .i64 ((0:Int)+1)+1) - 1)<(↑(3):Int))
  apply n_req ((0:Int)≤wrap .i64 (wrap .i64 ((0:Int)+1)+1)∧wrap .i64 (wrap .i64 ((0:Int)+1)+1)<(↑(3):Int))
  apply n_req ((0:Int)≤wrap .i64 (wrap .i64 ((0:Int)+1)+1)∧wrap .i64 (wrap .i64 ((0:Int)+1)+1)<(↑(3):Int))
  apply n_req ((0:Int)≤wrap .i64 (wrap .i64 (wrap .i64 ((0:Int)+1)+1) - 1)∧wrap .i64 (wrap .i64 (wrap .i64 ((0:Int)+1)+1) - 1)<(↑(3):Int))
  apply n_req (true=true→(0:Int)≤wrap .i64 (wrap .i64 (wrap .i64 ((0:Int)+1)+1) - 1)∧wrap .i64 (wrap .i64 (wrap .i64 ((0:Int)+1)+1) - 1)<(↑(3):Int))
  apply n_req (true=true→(0:Int)≤wrap .i64 (wrap .i64 (wrap .i64 (wrap .i64 ((0:Int)+1)+1) - 1) - 1)∧wrap .i64 (wrap .i64 (wrap .i64 (wrap .i64 ((0:Int)+1)+1) - 1) - 1)<(↑(3):Int))
  apply n_sc (cmp_CA)
  apply n_tt
  apply n_req ((0:Int)≤wrap .i64 (wrap .i64 (wrap .i64 (wrap .i64 ((0:Int)+1)+1) - 1) - 1)∧wrap .i64 (wrap .i64 (wrap .i64 (wrap .i64 ((0:Int)+1)+1) - 1) - 1)<(↑(3):Int))
  apply n_req ((0:Int)≤wrap .i64 (wrap .i64 (wrap .i64 ((0:Int)+1)+1) - 1)∧wrap .i64 (wrap .i64 (wrap .i64 ((0:Int)+1)+1) - 1)<(↑(3):Int))
  apply n_req ((0:Int)≤wrap .i64 (wrap .i64 (wrap .i64 ((0:Int)+1)+1) - 1)∧wrap .i64 (wrap .i64 (wrap .i64 ((0:Int)+1)+1) - 1)<(↑(3):Int))
  apply n_req ((0:Int)≤wrap .i64 (wrap .i64 (wrap .i64 (wrap .i64 ((0:Int)+1)+1) - 1) - 1)∧wrap .i64 (wrap .i64 (wrap .i64 (wrap .i64 ((0:Int)+1)+1) - 1) - 1)<(↑(3):Int))
  apply n_req (false=true→(0:Int)≤wrap .i64 (wrap .i64 (wrap .i64 (wrap .i64 ((0:Int)+1)+1) - 1) - 1)∧wrap .i64 (wrap .i64 (wrap .i64 (wrap .i64 ((0:Int)+1)+1) - 1) - 1)<(↑(3):Int))
  apply n_req (false=true→(0:Int)≤wrap .i64 (wrap .i64 (wrap .i64 (wrap .i64 (wrap .i64 ((0:Int)+1)+1) - 1) - 1) - 1)∧wrap .i64 (wrap .i64 (wrap .i64 (wrap .i64 (wrap .i64 ((0:Int)+1)+1) - 1) - 1) - 1)<(↑(3):Int))
  apply n_scg (false) (fun h24=>cmp_CC)
  apply n_ff
  apply n_ff
  exact n_outG (AV.tup []) ([some ⟨7,3,true,Rep.lst [[Zi 0,Zi 0,Zi 0,Zi 7,Zi 0,Zi 0,Zi 0],[Zi 0,Zi 0,Zi 1,Zi 5,Zi 0,Zi 0,Zi 0],[Zi 0,Zi 0,Zi 1,Zi 3,Zi 2,Zi 0,Zi 0]]⟩]) (Ent.of_eq rfl) (⟨lit3 rfl rfl rfl,trivial⟩))
def fB:Nat→Sup:=fun i=>if i=0 then sB else sC
theorem cmp_AA:Pure Tryz.prog gl0 47 [.agg [.int .i64 0,.int .i64 0,.int .i64 1,.int .i64 5,.int .i64 0,.int .i64 0,.int .i64 0],.agg [.int .i64 0,.int .i64 0,.int .i64 1,.int .i64 5,.int .i64 0,.int .i64 0,.int .i64 0]] (.int .i64 0):=compare_c sA sA
theorem l64_1:Pure Tryz.prog gl0 287 [.int .u64 1] (.int .i64 1):=by
 exact pzo (owT 5) Tryz.func287 (by
  apply n_ff
  apply n_ff
  apply n_ff
  apply n_req ((0:Int)≤wrap .u8 (1:Int)∧wrap .u8 (1:Int)<256)
  exact n_or)
theorem l64_2:Pure Tryz.prog gl0 287 [.int .u64 2] (.int .i64 2):=by
 exact pzo (owT 5) Tryz.func287 (by
  apply n_ff
  apply n_ff
  apply n_ff
  apply n_req ((0:Int)≤wrap .u8 (2:Int)∧wrap .u8 (2:Int)<256)
  exact n_or)
theorem len_1:Pure Tryz.prog gl0 231 [.int .u64 1] (.int .i64 1):=by
 exact pz Tryz.func231 (by
  apply n_ff
  apply n_sc (l64_1)
  exact n_or)
theorem len_2:Pure Tryz.prog gl0 231 [.int .u64 2] (.int .i64 2):=by
 exact pz Tryz.func231 (by
  apply n_ff
  apply n_sc (l64_2)
  exact n_or)
theorem pdq_1:Gives Tryz.prog gl0 230 [⟨7,1,true,.lst [[.int .i64 0,.int .i64 0,.int .i64 1,.int .i64 5,.int .i64 0,.int .i64 0,.int .i64 0]]⟩] [.osl 0 7 0 1,.int .i64 0,.int .i64 1,.int .i64 1,.fn (.func 47) [] []] (.tup []) [some ⟨7,1,true,.lst [[.int .i64 0,.int .i64 0,.int .i64 1,.int .i64 5,.int .i64 0,.int .i64 0,.int .i64 0]]⟩]:=by
 exact gz (owT 2) Tryz.func230 (by
  apply n_tt
  apply n_gc (ins_1)
  exact n_org)
theorem pdq_2:Gives Tryz.prog gl0 230 [⟨7,2,true,.lst [[.int .i64 0,.int .i64 0,.int .i64 1,.int .i64 3,.int .i64 2,.int .i64 0,.int .i64 0],[.int .i64 0,.int .i64 0,.int .i64 0,.int .i64 7,.int .i64 0,.int .i64 0,.int .i64 0]]⟩] [.osl 0 7 0 2,.int .i64 0,.int .i64 2,.int .i64 2,.fn (.func 47) [] []] (.tup []) [some ⟨7,2,true,.lst [[.int .i64 0,.int .i64 0,.int .i64 0,.int .i64 7,.int .i64 0,.int .i64 0,.int .i64 0],[.int .i64 0,.int .i64 0,.int .i64 1,.int .i64 3,.int .i64 2,.int .i64 0,.int .i64 0]]⟩]:=by
 exact gz (owT 2) Tryz.func230 (by
  apply n_tt
  apply n_gc (ins_2)
  exact n_org)
theorem sort_1:Gives Tryz.prog gl0 168 [⟨7,1,true,.lst [[.int .i64 0,.int .i64 0,.int .i64 1,.int .i64 5,.int .i64 0,.int .i64 0,.int .i64 0]]⟩] [.osl 0 7 0 1,.fn (.func 47) [] []] (.tup []) [some ⟨7,1,true,.lst [[.int .i64 0,.int .i64 0,.int .i64 1,.int .i64 5,.int .i64 0,.int .i64 0,.int .i64 0]]⟩]:=by
 exact gz (owT 2) Tryz.func168 (by
  apply n_sc (len_1)
  apply n_gc (pdq_1)
  exact n_org)
theorem sort_2:Gives Tryz.prog gl0 168 [⟨7,2,true,.lst [[.int .i64 0,.int .i64 0,.int .i64 1,.int .i64 3,.int .i64 2,.int .i64 0,.int .i64 0],[.int .i64 0,.int .i64 0,.int .i64 0,.int .i64 7,.int .i64 0,.int .i64 0,.int .i64 0]]⟩] [.osl 0 7 0 2,.fn (.func 47) [] []] (.tup []) [some ⟨7,2,true,.lst [[.int .i64 0,.int .i64 0,.int .i64 0,.int .i64 7,.int .i64 0,.int .i64 0,.int .i64 0],[.int .i64 0,.int .i64 0,.int .i64 1,.int .i64 3,.int .i64 2,.int .i64 0,.int .i64 0]]⟩]:=by
 exact gz (owT 2) Tryz.func168 (by
  apply n_sc (len_2)
  apply n_gc (pdq_2)
  exact n_org)
theorem coll_2:Gives Tryz.prog gl0 167 [] [.fn (.func 169) [] [.ipt 1 fun _=>supA 2 fB]] (.osl 0 7 0 2) [some ⟨7,2,true,.lst [[.int .i64 0,.int .i64 0,.int .i64 1,.int .i64 3,.int .i64 2,.int .i64 0,.int .i64 0],[.int .i64 0,.int .i64 0,.int .i64 0,.int .i64 7,.int .i64 0,.int .i64 0,.int .i64 0]]⟩]:=by
 have c1:=appendSeq_c 2 fB (by decide)
 exact gz (owT 2) Tryz.func167 (by
  apply n_gc (c1)
  exact n_outG (.osl 0 7 0 2) ([some ⟨7,2,true,Rep.row fun i=>Sup.cells (preS fB (List.finRange 2) i)⟩]) (Ent.of_eq rfl) (⟨lit2 rfl rfl,trivial⟩))
theorem sorted_1:Pure Tryz.prog gl0 102 [.fn (.func 169) [] [.ipt 1 fun _=>supA 1 fun _=>sA],.fn (.func 47) [] []] (.isl 7 1 fun r k=>atL (List.getD [[.int .i64 0,.int .i64 0,.int .i64 1,.int .i64 5,.int .i64 0,.int .i64 0,.int .i64 0]] r []) k):=by
 exact pzo (owT 2) Tryz.func102 (by
  apply n_gc (coll_1)
  refine n_old (.gc 168 [⟨7,1,true,.lst [[Zi 0,Zi 0,Zi 1,Zi 5,Zi 0,Zi 0,Zi 0]]⟩] [.osl 0 7 0 1,AV.fn (Fn.func (47:FuncId)) [] []] (.tup []) [some ⟨7,1,true,.lst [[Zi 0,Zi 0,Zi 1,Zi 5,Zi 0,Zi 0,Zi 0]]⟩] (.out (.isl 7 1 fun r k=>atL (List.getD [[Zi 0,Zi 0,Zi 1,Zi 5,Zi 0,Zi 0,Zi 0]] (r+0) []) k) [] (.isl 7 1 fun r k=>atL (List.getD [[Zi 0,Zi 0,Zi 1,Zi 5,Zi 0,Zi 0,Zi 0]] r []) k) [])) ?_
  simp [k_gc,sort_1,k_out,Ent.refl])
theorem sorted_2:Pure Tryz.prog gl0 102 [.fn (.func 169) [] [.ipt 1 fun _=>supA 2 fB],.fn (.func 47) [] []] (.isl 7 2 fun r k=>atL (List.getD [[.int .i64 0,.int .i64 0,.int .i64 0,.int .i64 7,.int .i64 0,.int .i64 0,.int .i64 0],[.int .i64 0,.int .i64 0,.int .i64 1,.int .i64 3,.int .i64 2,.int .i64 0,.int .i64 0]] r []) k):=by
 exact pzo (owT 2) Tryz.func102 (by
  apply n_gc (coll_2)
  refine n_old (.gc 168 [⟨7,2,true,.lst [[Zi 0,Zi 0,Zi 1,Zi 3,Zi 2,Zi 0,Zi 0],[Zi 0,Zi 0,Zi 0,Zi 7,Zi 0,Zi 0,Zi 0]]⟩] [.osl 0 7 0 2,AV.fn (Fn.func (47:FuncId)) [] []] (.tup []) [some ⟨7,2,true,.lst [[Zi 0,Zi 0,Zi 0,Zi 7,Zi 0,Zi 0,Zi 0],[Zi 0,Zi 0,Zi 1,Zi 3,Zi 2,Zi 0,Zi 0]]⟩] (.out (.isl 7 2 fun r k=>atL (List.getD [[Zi 0,Zi 0,Zi 0,Zi 7,Zi 0,Zi 0,Zi 0],[Zi 0,Zi 0,Zi 1,Zi 3,Zi 2,Zi 0,Zi 0]] (r+0) []) k) [] (.isl 7 2 fun r k=>atL (List.getD [[Zi 0,Zi 0,Zi 0,Zi 7,Zi 0,Zi 0,Zi 0],[Zi 0,Zi 0,Zi 1,Zi 3,Zi 2,Zi 0,Zi 0]] r []) k) [])) ?_
  simp [k_gc,sort_2,k_out,Ent.refl])
theorem any_no {p:Nat→Bool} {n:Nat} (h:∀ i,i<n→p i=false):anyI p n=false:=by simp_all [anyI,firstI_neg,List.any_eq_false,Nat.zero_add,List.mem_range]
theorem proper_1:Pure Tryz.prog gl0 44 [supA 1 fun _=>sA] (.bool true):=by
 have c1:=containsS_w 101 (fun _=>sA) 1 (fun _=>false) (by decide) (fun i _=>not2_c sA)
 rw [any_no (fun _ _=>rfl)] at c1
 have c2:=values_c 1 fun _=>sA
 exact pzo (owT 2) Tryz.func44 (by
  apply n_sc (c1)
  apply n_ff
  apply n_dc (c2)
  apply n_dc (sorted_1)
  apply n_tt
  apply n_req (false=true→(0:Int)≤wrap .i64 ((0:Int) - 1)∧wrap .i64 ((0:Int) - 1)<1)
  apply n_req (false=true→(0:Int)≤0∧(0:Int)<1)
  apply n_scg false (fun h7=>cmp_AA)
  apply n_ff
  apply n_ff
  exact n_or)
theorem proper_2:Pure Tryz.prog gl0 44 [supA 2 fB] (.bool true):=by
 have c1:=containsS_w 101 fB 2 (fun i => !validS (fB i)) (by decide) (fun i _=>not2_c (fB i))
 rw [any_no (p:=fun i => !validS (fB i)) (fun i hi=>by match i,hi with|0,_=>rfl|1,_=>rfl)] at c1
 have c2:=values_c 2 fB
 exact pzo (owT 3) Tryz.func44 (by
  apply n_sc (c1)
  apply n_ff
  apply n_dc (c2)
  apply n_dc (sorted_2)
  apply n_tt
  apply n_req (false=true→(0:Int)≤wrap .i64 ((0:Int) - 1)∧wrap .i64 ((0:Int) - 1)<2)
  apply n_req (false=true→(0:Int)≤0∧(0:Int)<2)
  apply n_scg false (fun h7=>cmp_CC)
  apply n_ff
  apply n_tt
  apply n_req (true=true→(0:Int)≤wrap .i64 (wrap .i64 ((0:Int)+1) - 1)∧wrap .i64 (wrap .i64 ((0:Int)+1) - 1)<2)
  apply n_req (true=true→(0:Int)≤wrap .i64 ((0:Int)+1)∧wrap .i64 ((0:Int)+1)<2)
  apply n_sc (cmp_CB)
  apply n_ff
  apply n_ff
  exact n_or)
end Go.Proofs.YtcageinnelhonaaGreatDoor.U
