/- Part of the proof: CS20, Led, CX1, Nod, Inv, Exp, Exp2, Tre, Rec, Crt, Cval, Prd, Vfy, Glt, Sec, AnyL, Trn, Spt, Bnk, CX2, CE1, CE2, CE3, CE4, CC1, CE5, CE8, CV5. -/
import Derived.Test.YtpefjkpdniiaoaaGreatDoorM4
import Derived.Test.YtpefjkpdniiaoaaGreatDoorM2
import Derived.Test.YtpefjkpdniiaoaaGreatDoorProg
import Derived.Test.YtpefjkpdniiaoaaGreatDoorM3
namespace Go.Proofs.YtpefjkpdniiaoaaGreatDoor
open Go.IntKind (wrap)
open Int (toNat)
open Go Go.Am Go.Sp
set_option maxRecDepth 100000
theorem wG (d l i:Int):Pure Tryz.prog aZ 171 [.int .i64 d,.agg [.int .i64 l,.int .i64 i]] (.bool (bU d l i)):=by
 refine ar (own:=bq) Tryz.func171 (by kernel_rfl) mixed (by kernel_rfl)
  (.bj (((decide (d≥0)&&decide (d≤5)&&decide (l≥0)&&decide (l≤d)&&decide (i≥0))==true)=true→(0:Int)≤l) (.out (.bool (decide (d≥0)&&decide (d≤5)&&decide (l≥0)&&decide (l≤d)&&decide (i≥0)&&decide (i<wrap .i64 ((1:Int)*2^min (toNat l) 64)))) [] (.bool (bU d l i)) []))
  (by kernel_rfl) ?_
 refine aD (fun hr=>by have hr:=(cQ (ah (ah (ah (ah af af) af) af) af)) hr;omega) ?_
 exact aq (ay.of_eq (congrArg _ (D7 d l i)))
theorem K7 (d l i:Int):Pure Tryz.prog aZ 169 [.int .i64 d,.agg [.int .i64 l,.int .i64 i]] (.aX [.int .i64 (dg d l i),.int .i64 (dm d l i),.int .i64 (gY d l i)]):=by
 refine ar (own:=bq) Tryz.func169 (by kernel_rfl) mixed (by kernel_rfl)
  (let y0:AV:=(.aX [Zi (dg d l i),Zi (dm d l i),Zi (gY d l i)]);let y1:Nat:=(toNat (wrap .i64 (d - l)));(.br (decide (d<0)||decide (d>5)) (.out (.aX [Zi 0,Zi 0,Zi 1]) [] y0 []) (.sc true 171 [Zi d,.agg [Zi l,Zi i]] (.bool (bU d l i)) (.br (!bU d l i) (.out (.aX [Zi 0,Zi 0,Zi 2]) [] y0 []) (.bj ((0:Int)≤wrap .i64 (d - l)) (.out (.aX [Zi (wrap .i64 (i*wrap .i64 ((1:Int)*2^min y1 64))),Zi (wrap .i64 (wrap .i64 (i+1)*wrap .i64 ((1:Int)*2^min y1 64))),Zi 0]) [] y0 []))))))
  (by kernel_rfl) ?_
 refine aL (fun h0=>?_) (fun h0=>?_)
 ·exact aq (ay.of_eq (by obtain ⟨a,b,c⟩:=IJ (l:=l) (i:=i) h0;rw [a,b,c]))
 ·refine aM (wG (d) (l) (i)) ?_
  refine aL (fun h3=>?_) (fun h3=>?_)
  ·exact aq (ay.of_eq (by obtain ⟨a,b,c⟩:=JR h0 h3;rw [a,b,c]))
  ·refine aD ((v5 h3).2.2.2) ?_
   exact aq (ay.of_eq (by obtain ⟨a,b,c,_⟩:=v5 h3;rw [a,b,c]))
theorem Cg (d l i:Int):Pure Tryz.prog aZ 200 [.int .i64 d,.int .i64 l,.int .i64 i] (.bool (nd d l i)):=by
 refine ar (own:=bq) Tryz.func200 (by kernel_rfl) mixed (by kernel_rfl)
  (.bj (((decide (l≥0)&&decide (l≤d)&&decide (i≥0))==true)=true→(0:Int)≤l) (.out (.bool (decide (l≥0)&&decide (l≤d)&&decide (i≥0)&&decide (i<wrap .i64 ((1:Int)*2^min (toNat l) 64)))) [] (.bool (nd d l i)) []))
  (by kernel_rfl) ?_
 refine aD (fun hr=>by have hr:=(cQ (ah (ah af af) af)) hr;omega) ?_
 exact aq (ay.refl _)
theorem yA (d l i:Int):Pure Tryz.prog aZ 125 [.int .i64 d,.agg [.int .i64 l,.int .i64 i]] (.bool (bU d l i)):=by
 refine ar (own:=bq) Tryz.func125 (by kernel_rfl) mixed (by kernel_rfl)
  (.sc ((decide (d≥0)&&decide (d≤5))==true) 200 [Zi d,Zi l,Zi i] (.bool (nd d l i)) (.out (.bool (decide (d≥0)&&decide (d≤5)&&nd d l i)) [] (.bool (bU d l i)) []))
  (by kernel_rfl) ?_
 refine aW (fun h0=>Cg (d) (l) (i)) ?_
 exact aq (ay.of_eq (congrArg _ (wU d l i)))
theorem qQ (x:je):Pure Tryz.prog aZ 172 [x.av] (.bool (fM x.time x.number)):=by
 refine ar (own:=bq) Tryz.func172 (by kernel_rfl) mixed (by kernel_rfl)
  (.out (.bool (decide (x.2≥0)&&decide (x.2≤1099511627776)&&decide (x.3≥0)&&decide (x.3≤1073741824))) [] (.bool (fM (je.time x) (je.number x))) [])
  (by kernel_rfl) ?_
 exact aq (ay.refl _)
theorem BM (x:je):Pure Tryz.prog aZ 126 [x.av] (.bool (fM x.time x.number)):=by
 refine ar (own:=bq) Tryz.func126 (by kernel_rfl) mixed (by kernel_rfl)
  (.out (.bool (decide (x.2≥0)&&decide (x.2≤1099511627776)&&decide (x.3≥0)&&decide (x.3≤1073741824))) [] (.bool (fM (je.time x) (je.number x))) [])
  (by kernel_rfl) ?_
 exact aq (ay.refl _)
theorem sZ (d l i:Int) (h:bU d l i=true):Pure Tryz.prog aZ 127 [.int .i64 d,.agg [.int .i64 l,.int .i64 i]] (.aX [.int .i64 (dg d l i),.int .i64 (dm d l i)]):=by
 refine ar (own:=bq) Tryz.func127 (by kernel_rfl) mixed (by kernel_rfl)
  (let y0:Nat:=(toNat (wrap .u64 (wrap .i64 (d - l))));(.bj ((0:Int)≤wrap .u64 (wrap .i64 (d - l))) (.out (.aX [Zi (wrap .i64 (i*wrap .i64 ((1:Int)*2^min y0 64))),Zi (wrap .i64 (wrap .i64 (i+1)*wrap .i64 ((1:Int)*2^min y0 64)))]) [] (.aX [Zi (dg d l i),Zi (dm d l i)]) [])))
  (by kernel_rfl) ?_
 refine aD (zS _) ?_
 exact aq (ay.of_eq (by obtain ⟨a,b⟩:=F6 h;rw [a,b]))
theorem Kd (c:bD) (hr:cS c.root 32):Pure Tryz.prog aZ 236 [c.av] (.agg (bf c.kV)):=by
 have hi:=FU c
 have he:=mC c.it c.Nq (by rw [c.sH];decide)
 have ht:=gj "specie/coin-item".toUTF8 (by decide) (by decide) (fun i=>c.it.enc.getD i 0) c.it.enc.length (by rw [c.sH];decide) (It.ib (bD.CN hr))
 refine ar (own:=bq) Tryz.func236 (by kernel_rfl) mixed (by kernel_rfl)
  (.dc true 279 [.agg (bD.cells c)] (It.av (bD.it c)) (.dc true 233 [.agg [Zi (It.kind (bD.it c)),Zi (It.num (bD.it c)),.aH 1 0 fun i x=>Zb (It.fb (bD.it c) i),.aH 4 3 (It.row (bD.it c))]] (.aX [il IntKind.u8 (It.enc (bD.it c)),Zi 0]) (.sc true 82 [AV.str { data := #[(115:UInt8),112,101,99,105,101,47,99,111,105,110,45,105,116,101,109] },.aH 1 133 fun i x=>Zb (List.getD (It.enc (bD.it c)) i (0:Int))] (.aX [.agg (bf (et (String.toUTF8 "specie/coin-item") (List.length (It.enc (bD.it c))) fun i=>List.getD (It.enc (bD.it c)) i (0:Int))),Zi 0]) (.out (.agg (bf (et (String.toUTF8 "specie/coin-item") 133 fun i=>List.getD (It.enc (bD.it c)) i (0:Int)))) [] (.agg (bf (bD.kV c))) []))))
  (by kernel_rfl) ?_
 refine b9 (hi) ?_
 refine b9 (he) ?_
 refine aM (ht) ?_
 exact aq (ay.refl _)
theorem GG (c:bD) (hr:cS c.root 32):Pure Tryz.prog aZ 202 [c.av] (.agg (bf c.kV)):=by
 have hi:=Gh c
 have he:=l5 c.it (by rw [c.sH];decide)
 have ht:=fV "specie/coin-item".toUTF8 (by decide) (fun i=>c.it.enc.getD i 0) c.it.enc.length (by rw [c.sH];decide) (It.ib (bD.CN hr))
 refine ar (own:=bq) Tryz.func202 (by kernel_rfl) mixed (by kernel_rfl)
  (.dc true 256 [.agg (bD.cells c)] (It.av (bD.it c)) (.dc true 206 [.agg [Zi (It.kind (bD.it c)),Zi (It.num (bD.it c)),.aH 1 0 fun i x=>Zb (It.fb (bD.it c) i),.aH 4 3 (It.row (bD.it c))]] (il IntKind.u8 (It.enc (bD.it c))) (.sc true 205 [AV.str { data := #[(115:UInt8),112,101,99,105,101,47,99,111,105,110,45,105,116,101,109] },.aH 1 133 fun i x=>Zb (List.getD (It.enc (bD.it c)) i (0:Int))] (.agg (bf (et (String.toUTF8 "specie/coin-item") (List.length (It.enc (bD.it c))) fun i=>List.getD (It.enc (bD.it c)) i (0:Int)))) (.out (.agg (bf (et (String.toUTF8 "specie/coin-item") 133 fun i=>List.getD (It.enc (bD.it c)) i (0:Int)))) [] (.agg (bf (bD.kV c))) []))))
  (by kernel_rfl) ?_
 refine b9 (hi) ?_
 refine b9 (he) ?_
 refine aM (ht) ?_
 exact aq (ay.refl _)
theorem L7 (a b c d:It):Pure Tryz.prog aZ 234 [.aH 4 4 fun r k=>aQ (List.getD [a.cells,b.cells,c.cells,d.cells] r []) k] (kQ [a,b,c,d]).av :=
 (Jj 4 _).tM (xx (cV.refl _) (cV.refl _) (cV.refl _) (cV.refl _))
theorem FV (n:Nat) (f:Nat→Nat→AV):Pure Tryz.prog aZ 207 [.aH 4 n f] (.agg [.int .i64 3,.int .i64 0,.bn,.aH 4 n f]):=by
 refine ar (own:=bq) Tryz.func207 (by kernel_rfl) mixed (by kernel_rfl)
  (let y0:AV:=(.agg [Zi 3,Zi 0,.bn,.aH 4 n f]);(.out y0 [] y0 []))
  (by kernel_rfl) ?_
 exact aq (ay.refl _)
theorem Lz (a b c d:It):Pure Tryz.prog aZ 207 [.aH 4 4 fun r k=>aQ (List.getD [a.cells,b.cells,c.cells,d.cells] r []) k] (kQ [a,b,c,d]).av :=
 (FV 4 _).tM (xx (cV.refl _) (cV.refl _) (cV.refl _) (cV.refl _))
theorem EH (b:aI) (c:bD) (l i:Int) (x:je) (hr:cS c.root 32) (hp:cS x.bM 32) (hq:0<b.gr.q) (hq':b.gr.q<2305843009213693952):Pure Tryz.prog aZ 173 [b.av,c.av,.agg [.int .i64 l,.int .i64 i],x.av] (.int .i64 (dW b.gr.q c l i x)):=by
 have hd:=Kd c hr
 have hb:=xX c.kV
 have hb2:=xX x.bM
 have hi:=Db l i
 have hi2:=Db x.time x.number
 have hl:=L7 (.dz 32 c.kV) (be [l,i]) (.dz 32 x.bM) (be [x.time,x.number])
 have he:=mC (ef c l i x) (G1 c l i x) (by rw [mL];decide)
 have ht:=gj "specie/spend".toUTF8 (by decide) (by decide) (fun k=>(ef c l i x).enc.getD k 0) (ef c l i x).enc.length (by rw [mL];decide) (It.ib (ve hp))
 have hn:=py (jm "specie/spend".toUTF8 (ef c l i x)) b.gr.q hq hq' (ja _ _ _)
 refine ar (own:=bq) Tryz.func173 (by kernel_rfl) mixed (by kernel_rfl)
  (.sc true 236 [.agg (bD.cells c)] (.agg (bf (bD.kV c))) (.dc true 235 [.agg (bf (bD.kV c))] (It.av (It.dz 32 (bD.kV c))) (.dc true 237 [.aH 1 2 fun r k=>aQ (List.getD [[Zi l],[Zi i]] (r+0) []) k] (It.av (be [l,i])) (.dc true 235 [.agg (bf x.1)] (It.av (It.dz 32 (je.bM x))) (.dc true 237 [.aH 1 2 fun r k=>aQ (List.getD [[Zi x.2],[Zi x.3]] (r+0) []) k] (It.av (be [je.time x,je.number x])) (.dc true 234 [.aH 4 4 fun r k=>aQ (List.getD [[Zi (It.kind (It.dz 32 (bD.kV c))),Zi (It.num (It.dz 32 (bD.kV c))),.aH 1 32 fun i x=>Zb (It.fb (It.dz 32 (bD.kV c)) i),.aH 4 0 (It.row (It.dz 32 (bD.kV c)))],[Zi (It.kind (be [l,i])),Zi (It.num (be [l,i])),.aH 1 0 fun i_1 x=>Zb (It.fb (be [l,i]) i_1),.aH 4 2 (It.row (be [l,i]))],[Zi (It.kind (It.dz 32 x.1)),Zi (It.num (It.dz 32 x.1)),.aH 1 32 fun i x_1=>Zb (It.fb (It.dz 32 x.1) i),.aH 4 0 (It.row (It.dz 32 x.1))],[Zi (It.kind (be [x.2,x.3])),Zi (It.num (be [x.2,x.3])),.aH 1 0 fun i x_1=>Zb (It.fb (be [x.2,x.3]) i),.aH 4 2 (It.row (be [x.2,x.3]))]] (r+0) []) k] (It.av (kQ [It.dz 32 (bD.kV c),be [l,i],It.dz 32 (je.bM x),be [je.time x,je.number x]])) (.dc true 233 [.agg [Zi (It.kind (kQ [It.dz 32 (bD.kV c),be [l,i],It.dz 32 x.1,be [x.2,x.3]])),Zi (It.num (kQ [It.dz 32 (bD.kV c),be [l,i],It.dz 32 x.1,be [x.2,x.3]])),.aH 1 0 fun i_1 x_1=>Zb (It.fb (kQ [It.dz 32 (bD.kV c),be [l,i],It.dz 32 x.1,be [x.2,x.3]]) i_1),.aH 4 4 (It.row (kQ [It.dz 32 (bD.kV c),be [l,i],It.dz 32 x.1,be [x.2,x.3]]))]] (.aX [il IntKind.u8 (It.enc (ef c l i x)),Zi 0]) (.sc true 82 [AV.str { data := #[(115:UInt8),112,101,99,105,101,47,115,112,101,110,100] },.aH 1 125 fun i_1 x_1=>Zb (List.getD (It.enc (ef c l i x)) i_1 (0:Int))] (.aX [.agg (bf (et (String.toUTF8 "specie/spend") (List.length (It.enc (ef c l i x))) fun k=>List.getD (It.enc (ef c l i x)) k (0:Int))),Zi 0]) (.sc true 238 [.agg (bf (et (String.toUTF8 "specie/spend") 125 fun k=>List.getD (It.enc (ef c l i x)) k (0:Int))),Zi (aI.gr b).2] (.aX [Zi (cE (jm (String.toUTF8 "specie/spend") (ef c l i x)) (bN.q (aI.gr b)) 16),Zi 0]) (.out (Zi (cE (jm (String.toUTF8 "specie/spend") (ef c l i x)) (aI.gr b).2 16)) [] (Zi (dW (bN.q (aI.gr b)) c l i x)) []))))))))))
  (by kernel_rfl) ?_
 refine aM (hd) ?_
 refine b9 (hb) ?_
 refine b9 (hi) ?_
 refine b9 (hb2) ?_
 refine b9 (hi2) ?_
 refine b9 (hl) ?_
 refine b9 (he) ?_
 refine aM (ht) ?_
 refine aM (hn) ?_
 exact aq (ay.refl _)
theorem yZ (b:aI) (c:bD) (l i:Int) (x:je) (hr:cS c.root 32) (hp:cS x.bM 32) (hq:0<b.gr.q) (hq':b.gr.q<2305843009213693952):Pure Tryz.prog aZ 128 [b.av,c.av,.agg [.int .i64 l,.int .i64 i],x.av] (.int .i64 (dW b.gr.q c l i x)):=by
 have hd:=GG c hr
 have hb:=lX c.kV
 have hb2:=lX x.bM
 have hi:=xw l i
 have hi2:=xw x.time x.number
 have hl:=Lz (.dz 32 c.kV) (be [l,i]) (.dz 32 x.bM) (be [x.time,x.number])
 have he:=l5 (ef c l i x) (by rw [mL];decide)
 have ht:=fV "specie/spend".toUTF8 (by decide) (fun k=>(ef c l i x).enc.getD k 0) (ef c l i x).enc.length (by rw [mL];decide) (It.ib (ve hp))
 have hn:=nI (jm "specie/spend".toUTF8 (ef c l i x)) b.gr.q hq hq' (ja _ _ _)
 refine ar (own:=bq) Tryz.func128 (by kernel_rfl) mixed (by kernel_rfl)
  (.sc true 202 [.agg (bD.cells c)] (.agg (bf (bD.kV c))) (.dc true 201 [.agg (bf (bD.kV c))] (It.av (It.dz 32 (bD.kV c))) (.dc true 203 [.aH 1 2 fun r k=>aQ (List.getD [[Zi l],[Zi i]] (r+0) []) k] (It.av (be [l,i])) (.dc true 201 [.agg (bf x.1)] (It.av (It.dz 32 (je.bM x))) (.dc true 203 [.aH 1 2 fun r k=>aQ (List.getD [[Zi x.2],[Zi x.3]] (r+0) []) k] (It.av (be [je.time x,je.number x])) (.dc true 207 [.aH 4 4 fun r k=>aQ (List.getD [[Zi (It.kind (It.dz 32 (bD.kV c))),Zi (It.num (It.dz 32 (bD.kV c))),.aH 1 32 fun i x=>Zb (It.fb (It.dz 32 (bD.kV c)) i),.aH 4 0 (It.row (It.dz 32 (bD.kV c)))],[Zi (It.kind (be [l,i])),Zi (It.num (be [l,i])),.aH 1 0 fun i_1 x=>Zb (It.fb (be [l,i]) i_1),.aH 4 2 (It.row (be [l,i]))],[Zi (It.kind (It.dz 32 x.1)),Zi (It.num (It.dz 32 x.1)),.aH 1 32 fun i x_1=>Zb (It.fb (It.dz 32 x.1) i),.aH 4 0 (It.row (It.dz 32 x.1))],[Zi (It.kind (be [x.2,x.3])),Zi (It.num (be [x.2,x.3])),.aH 1 0 fun i x_1=>Zb (It.fb (be [x.2,x.3]) i),.aH 4 2 (It.row (be [x.2,x.3]))]] (r+0) []) k] (It.av (kQ [It.dz 32 (bD.kV c),be [l,i],It.dz 32 (je.bM x),be [je.time x,je.number x]])) (.dc true 206 [.agg [Zi (It.kind (kQ [It.dz 32 (bD.kV c),be [l,i],It.dz 32 x.1,be [x.2,x.3]])),Zi (It.num (kQ [It.dz 32 (bD.kV c),be [l,i],It.dz 32 x.1,be [x.2,x.3]])),.aH 1 0 fun i_1 x_1=>Zb (It.fb (kQ [It.dz 32 (bD.kV c),be [l,i],It.dz 32 x.1,be [x.2,x.3]]) i_1),.aH 4 4 (It.row (kQ [It.dz 32 (bD.kV c),be [l,i],It.dz 32 x.1,be [x.2,x.3]]))]] (il IntKind.u8 (It.enc (ef c l i x))) (.sc true 205 [AV.str { data := #[(115:UInt8),112,101,99,105,101,47,115,112,101,110,100] },.aH 1 125 fun i_1 x_1=>Zb (List.getD (It.enc (ef c l i x)) i_1 (0:Int))] (.agg (bf (et (String.toUTF8 "specie/spend") (List.length (It.enc (ef c l i x))) fun k=>List.getD (It.enc (ef c l i x)) k (0:Int)))) (.sc true 204 [.agg (bf (et (String.toUTF8 "specie/spend") 125 fun k=>List.getD (It.enc (ef c l i x)) k (0:Int))),Zi (aI.gr b).2] (Zi (cE (jm (String.toUTF8 "specie/spend") (ef c l i x)) (bN.q (aI.gr b)) 16)) (.out (Zi (cE (jm (String.toUTF8 "specie/spend") (ef c l i x)) (aI.gr b).2 16)) [] (Zi (dW (bN.q (aI.gr b)) c l i x)) []))))))))))
  (by kernel_rfl) ?_
 refine aM (hd) ?_
 refine b9 (hb) ?_
 refine b9 (hi) ?_
 refine b9 (hb2) ?_
 refine b9 (hi2) ?_
 refine b9 (hl) ?_
 refine b9 (he) ?_
 refine aM (ht) ?_
 refine aM (hn) ?_
 exact aq (ay.refl _)
end Go.Proofs.YtpefjkpdniiaoaaGreatDoor

namespace Go.Sp
open Go.IntKind (wrap)
open Int (toNat)
open Go Go.Am
def Ld (x:Nat→Int):List AV:=[.int .i64 (x 0),.int .i64 (x 1),.int .i64 (x 2),.int .i64 (x 3)]
def fB (n:Nat) (x:Nat→Int):Bool:=x 0 != x 1&&decide (x 0≥0)&&decide (x 0<n)&&decide (x 1≥0)&&decide (x 1<n)&&decide (x 2≥1)&&decide (x 2≤1099511627776)&&decide (x 3≥0)&&decide (x 3≤1073741824)
theorem iH {n:Nat} {x:Nat→Int}:fB n x=true↔x 0≠x 1∧0≤x 0∧x 0<n∧0≤x 1∧x 1<n∧1≤x 2∧x 2≤1099511627776∧0≤x 3∧x 3≤1073741824:=by
 simp [fB,and_assoc]
def xf (F:Nat→Int) (x:Nat→Int) (i:Nat):Int:=if i=(x 1).toNat then IntKind.wrap .i64 (F i+x 2) else if i=(x 0).toNat then IntKind.wrap .i64 (F i - x 2) else F i
def fv (F:Nat→Int) (x:Nat→Int):Bool := !(decide (x 0≥5)&&decide (F (x 0).toNat<x 2))
def so (F:Nat→Int) (x:Nat→Int) (i:Nat):Int:=if fv F x=true then xf F x i else F i
theorem jK {a b:Nat}:Nat.beq a b=true↔a=b:=⟨Nat.eq_of_beq_eq_true,fun h=>h▸Nat.beq_refl a⟩
theorem FM {n:Nat} {F x:Nat→Int} (h:fB n x=true) (h2:fv F x=true) {i j:Nat} (hj:j<1) :
  (bif Nat.beq i ((x 1).toNat+0)&&(Nat.ble 0 j&&Nat.blt j 1) then IntKind.wrap .i64 ((bif Nat.beq ((x 1).toNat+0) ((x 0).toNat+0)&&Nat.blt 0 1 then IntKind.wrap .i64 (F ((x 0).toNat+0) - x 2) else F ((x 1).toNat+0))+x 2) else
   bif Nat.beq i ((x 0).toNat+0)&&(Nat.ble 0 j&&Nat.blt j 1) then IntKind.wrap .i64 (F ((x 0).toNat+0) - x 2) else F i)=so F x i:=by
 obtain rfl:j=0:=Nat.lt_one_iff.1 hj
 have hb:=iH.1 h
 have e:Nat.beq ((x 1).toNat+0) ((x 0).toNat+0)=false:=by
  cases c:Nat.beq ((x 1).toNat+0) ((x 0).toNat+0) with
  | false=>rfl
  | true=>have:=jK.1 c;omega
 rw [e,so,if_pos h2,xf]
 show (bif Nat.beq i (x 1).toNat&&true then IntKind.wrap .i64 (F (x 1).toNat+x 2) else bif Nat.beq i (x 0).toNat&&true then IntKind.wrap .i64 (F (x 0).toNat - x 2) else F i)=_
 simp only [Bool.and_true]
 by_cases c1:i=(x 1).toNat
 ·subst c1;rw [if_pos rfl,Nat.beq_refl];rfl
 ·rw [if_neg c1,show Nat.beq i (x 1).toNat=false by cases c:Nat.beq i (x 1).toNat with|false=>rfl|true=>exact absurd (jK.1 c) c1]
  by_cases c2:i=(x 0).toNat
  ·subst c2;rw [if_pos rfl,Nat.beq_refl];rfl
  ·rw [if_neg c2,show Nat.beq i (x 0).toNat=false by cases c:Nat.beq i (x 0).toNat with|false=>rfl|true=>exact absurd (jK.1 c) c2];rfl
theorem wN {F x:Nat→Int} (h:x 0≥5∧F ((x 0).toNat+0)<x 2):fv F x=false:=by
 unfold fv;rw [decide_eq_true h.1,decide_eq_true (show F (x 0).toNat<x 2 from h.2)];rfl
theorem wo {F x:Nat→Int} (h:¬x 0≥5∨¬F ((x 0).toNat+0)<x 2):fv F x=true:=by
 unfold fv
 rcases h with h|h
 ·rw [decide_eq_false h];rfl
 ·have h:¬F (x 0).toNat<x 2:=h
  rw [decide_eq_false h,Bool.and_false];rfl
def ck (E:Nat→Nat→Int):Nat→Nat→Int
 | 0=>fun _=>0
 | k+1=>xf (ck E k) (E k)
def xg (nb:Nat) (E:Nat→Nat→Int) (k:Nat):Bool:=fB nb (E k)&&fv (ck E k) (E k)
def fH (nb:Nat) (B:Nat→Int) (ne:Nat) (E:Nat→Nat→Int):Bool:=decide (5≤nb)&&decide (nb≤105)&&decide (ne≤1000)&&(List.range ne).all (xg nb E)&&(List.range nb).all fun i=>ck E ne i==B i
theorem Ou {n:Nat} {x:Nat→Int}:(decide (x 0≥0)&&decide (x 0<n)&&decide (x 1≥0)&&decide (x 1<n)&&x 0 != x 1&&decide (x 2≥1)&&decide (x 2≤1099511627776)&&decide (x 3≥0)&&decide (x 3≤1073741824))=fB n x:=by
 cases e:fB n x<;>simp [fB] at e ⊢ <;> grind
theorem yF {nb:Nat} {B:Nat→Int} {ne:Nat} {E:Nat→Nat→Int} (h:((nb:Int)<5∨(nb:Int)>105)∨(ne:Int)>1000):fH nb B ne E=false:=by
 cases e:fH nb B ne E with
 | false=>rfl
 | true =>
  simp only [fH,Bool.and_eq_true,decide_eq_true_eq] at e
  omega
theorem sF {nb:Nat} {B:Nat→Int} {ne:Nat} {E:Nat→Nat→Int} {k:Nat} (hk:k<ne) (h:xg nb E k=false):fH nb B ne E=false:=by
 cases e:fH nb B ne E with
 | false=>rfl
 | true =>
  simp only [fH,Bool.and_eq_true,List.all_eq_true,List.mem_range] at e
  rw [e.1.2 k hk] at h;cases h
theorem Cp {nb:Nat} {B:Nat→Int} {ne:Nat} {E:Nat→Nat→Int} (h1:¬(nb:Int)<5) (h2:¬(nb:Int)>105) (h3:¬(ne:Int)>1000) (h:∀ k,k<ne→xg nb E k=true):fH nb B ne E=(List.range nb).all fun i=>ck E ne i==B i:=by
 have e:(List.range ne).all (xg nb E)=true:=by rw [List.all_eq_true];exact fun k hk=>h k (List.mem_range.1 hk)
 unfold fH
 rw [decide_eq_true (show 5≤nb by omega),decide_eq_true (show nb≤105 by omega),decide_eq_true (show ne≤1000 by omega),e];rfl
structure OS (nb : Nat) (B : Nat → Int) (ne : Nat) (E : Nat → Nat → Int) : Prop where
  lo : 5 ≤ nb
  hi : nb ≤ 105
  len : ne ≤ 1000
  ok : ∀ k, k < ne → xg nb E k = true
  bal : ∀ i, i < nb → ck E ne i = B i
theorem Bk {nb:Nat} {B:Nat→Int} {ne:Nat} {E:Nat→Nat→Int} (h:fH nb B ne E=true):OS nb B ne E:=by
 simp only [fH,Bool.and_eq_true,decide_eq_true_eq,List.all_eq_true,List.mem_range,beq_iff_eq] at h
 exact ⟨h.1.1.1.1,h.1.1.1.2,h.1.1.2,h.1.2,h.2⟩
theorem ym {nb:Nat} {E:Nat→Nat→Int}:∀ k,k≤1000→(∀ j,j<k→fB nb (E j)=true)→∀ i,-(1099511627776*(k:Int))≤ck E k i∧ck E k i≤1099511627776*(k:Int)
 | 0,_,_,i=>by simp [ck]
 | k+1,hk,h,i=>by
  have ih:=ym k (by omega) (fun j hj=>h j (by omega)) i
  have hE:=iH.1 (h k (by omega))
  unfold ck xf
  split
  ·rw [wI (by omega) (by omega)];omega
  ·split
   ·rw [wI (by omega) (by omega)];omega
   ·omega
theorem L2 {nb:Nat} {E:Nat→Nat→Int} {k:Nat} (hk:k<1000) (h:∀ j,j≤k→fB nb (E j)=true) (i:Nat) :
  IntKind.wrap .i64 (ck E k i - E k 2)=ck E k i - E k 2∧IntKind.wrap .i64 (ck E k i+E k 2)=ck E k i+E k 2:=by
 have hb:=ym k (by omega) (fun j hj=>h j (by omega)) i
 have hE:=iH.1 (h k (Nat.le_refl _))
 exact ⟨wI (by omega) (by omega),wI (by omega) (by omega)⟩
end Go.Sp

namespace Go.Proofs.YtpefjkpdniiaoaaGreatDoor
open Go.IntKind (wrap)
open Int (toNat)
open Go Go.Am Go.Sp
set_option maxRecDepth 100000
theorem FX (n:Nat) (x:Nat→Int):Pure Tryz.prog aZ 87 [.agg (Ld x),.int .i64 n] (.bool (fB n x)):=by
 refine ar (own:=bq) Tryz.func87 (by kernel_rfl) mixed (by kernel_rfl)
  (.out (.bool (x 0 != x 1&&decide (x 0≥0)&&decide (x 0<(n:Int))&&decide (x 1≥0)&&decide (x 1<(n:Int))&&decide (x 2≥1)&&decide (x 2≤1099511627776)&&decide (x 3≥0)&&decide (x 3≤1073741824))) [] (.bool (fB n x)) [])
  (by kernel_rfl) ?_
 exact aq (ay.of_eq rfl)
theorem Er (n:Nat) (x:Nat→Int):Pure Tryz.prog aZ 116 [.int .i64 n,.agg (Ld x)] (.bool (fB n x)):=by
 refine ar (own:=bq) Tryz.func116 (by kernel_rfl) mixed (by kernel_rfl)
  (.out (.bool (decide (x 0≥0)&&decide (x 0<(n:Int))&&decide (x 1≥0)&&decide (x 1<(n:Int))&&x 0 != x 1&&decide (x 2≥1)&&decide (x 2≤1099511627776)&&decide (x 3≥0)&&decide (x 3≤1073741824))) [] (.bool (fB n x)) [])
  (by kernel_rfl) ?_
 exact aq (ay.of_eq (congrArg AV.bool Ou))
def owL:FuncId→Option (List Bool):=fun f=>bif Nat.beq f 88 then some [true,false] else none
theorem JO (n:Nat) (F x:Nat→Int) (h:fB n x=true) (hn:n≤1000):bI Tryz.prog aZ 88 [⟨1,n,true,.fn fun i _=>.int .i64 (F i)⟩] [.ba 0 1 0 n,.agg (Ld x)] (.bool (fv F x)) [some ⟨1,n,true,.fn fun i _=>.int .i64 (so F x i)⟩]:=by
 have hb:=iH.1 h
 refine cg (own:=owL) (hand:=true) Tryz.func88 (by kernel_rfl) mixed (by kernel_rfl)
  (let y0:Nat:=(toNat (x 0)+0);let y1:List (Option Ob):=[some ⟨1,n,true,.fn fun i x_1=>Zi (so F x i)⟩];let y2:Nat:=(toNat (x 1)+0);(.bj ((decide (x 0≥5)==true)=true→(0:Int)≤x 0∧x 0<(n:Int)) (.br (decide (x 0≥5)&&decide (F y0<x 2)) (.out (.bool false) [some ⟨1,n,true,.fn fun i j=>Zi (F i)⟩] (.bool (fv F x)) (y1)) (.bj ((0:Int)≤x 0∧x 0<(n:Int)) (.bj ((0:Int)≤x 0∧x 0<(n:Int)) (.bj ((0:Int)≤x 1∧x 1<(n:Int)) (.bj ((0:Int)≤x 1∧x 1<(n:Int)) (.out (.bool true) [some ⟨1,n,true,.fn fun i j=>Zi (bif Nat.beq i y2&&(Nat.ble 0 j&&Nat.blt j 1) then wrap .i64 ((bif Nat.beq y2 y0&&Nat.blt 0 1 then wrap .i64 (F y0 - x 2) else F y2)+x 2) else bif Nat.beq i y0&&(Nat.ble 0 j&&Nat.blt j 1) then wrap .i64 (F y0 - x 2) else F i)⟩] (.bool (fv F x)) (y1)))))))))
  (by kernel_rfl) ?_
 refine aD (fun hr=>by have hr:=(cQ af) hr;omega) ?_
 refine aL (fun h1=>?_) (fun h1=>?_)
 ·have g1:=(ah af af) h1
  exact da (ay.of_eq (congrArg AV.bool (wN g1).symm)) (⟨⟨rfl,rfl,rfl,fun i j _ _=>ay.of_eq (congrArg (AV.int _) (by unfold so;rw [if_neg (by rw [wN g1];simp)]))⟩,trivial⟩)
 ·have g1:=(ao aa aa) h1
  refine aD (by omega) ?_
  refine aD (by omega) ?_
  refine aD (by omega) ?_
  refine aD (by omega) ?_
  exact da (ay.of_eq (congrArg AV.bool (wo g1).symm)) (⟨⟨rfl,rfl,rfl,fun i j _ hj=>ay.of_eq (congrArg (AV.int _) (FM h (wo g1) hj))⟩,trivial⟩)
end Go.Proofs.YtpefjkpdniiaoaaGreatDoor

namespace Go.Sp
open Go.IntKind (wrap)
open Int (toNat)
open Go Go.Am
def iS (b:aI) (c:bD) (l i:Int) (x:je):Int:=bif aT b then (bif bU c.depth l i&&fM x.time x.number then 0 else 2) else 1
def jx (b:aI) (c:bD) (l i:Int) (x:je):Int:=bif aT b&&(bU c.depth l i&&fM x.time x.number) then dW b.gr.q c l i x else 0
theorem iB {b:aI} (h:aT b=true):b.gr.Ok:=by simp_all [aT,Bool.and_eq_true,bp]
theorem fN {b:aI} (h:aT b=true):0<b.gr.q∧b.gr.q<2305843009213693952:=by
 have h:=iB h
 have:=h.qp;have:=h.q3;have:=h.p1
 omega
theorem Di {b:aI} {c:bD} {l i:Int} {x:je} (h:aT b=false):iS b c l i x=1∧jx b c l i x=0:=by
 unfold iS jx;rw [h];exact ⟨rfl,rfl⟩
theorem Ce {b:aI} {c:bD} {l i:Int} {x:je} (h:aT b=true) (h':bU c.depth l i=false∨fM x.time x.number=false):iS b c l i x=2∧jx b c l i x=0:=by
 have e:(bU c.depth l i&&fM x.time x.number)=false:=by grind
 unfold iS jx;grind
theorem vY {b:aI} {c:bD} {l i:Int} {x:je} (h:aT b=true) (h':bU c.depth l i=true∧fM x.time x.number=true):iS b c l i x=0∧jx b c l i x=dW b.gr.q c l i x:=by
 have e:(bU c.depth l i&&fM x.time x.number)=true:=by simp [h']
 unfold iS jx;rw [h,e];exact ⟨rfl,rfl⟩
theorem Jo {d l i:Int} (hn:bU d l i=true):gY d l i=0∧0≤l∧l≤d∧0≤d∧d≤5:=by
 have h:=iK hn
 simp_all [gY,if_neg]
theorem Ex {a m x y:Int} (hx:0≤x∧x<m) (hy:0≤y∧y<m) (h1:m ∣ a*x - 1) (h2:m ∣ a*y - 1):x=y:=by
 have h:m ∣ x - y:=by
  obtain ⟨k,hk⟩:=h1
  obtain ⟨j,hj⟩:=h2
  refine ⟨x*j*(-1)+y*k,?_⟩
  grind
 have e:=Int.emod_eq_emod_iff_emod_sub_eq_zero.2 (Int.emod_eq_zero_of_dvd h)
 simp_all [Int.emod_eq_of_lt]
open Classical in
noncomputable def gy (a m:Int):Int:=if h:∃ x,(0≤x∧x<m)∧m ∣ a*x - 1 then Classical.choose h else 0
theorem yV {a m x:Int} (hx:0≤x∧x<m) (h:m ∣ a*x - 1):gy a m=x:=by
 have hh:∃ x,(0≤x∧x<m)∧m ∣ a*x - 1:=⟨x,hx,h⟩
 unfold gy
 rw [dif_pos hh]
 grind [Ex,Classical.choose_spec]
theorem ri {a m:Int} (h:Int.gcd a m≠1):gy a m=0:=by
 unfold gy
 refine dif_neg ?_
 rintro ⟨x,_,k,hk⟩
 apply h
 have h1:((Int.gcd a m:Nat):Int) ∣ 1:=by
  obtain ⟨p,hp⟩:=Int.gcd_dvd_left (a:=a) (b:=m)
  obtain ⟨q,hq⟩:=Int.gcd_dvd_right (a:=a) (b:=m)
  refine ⟨p*x - q*k,?_⟩
  grind
 have:=Int.le_of_dvd (by decide) h1
 have h0:Int.gcd a m≠0:=fun h0=>by simp_all
 omega
theorem jT {a m:Int} (hm:0<m):0≤gy a m∧gy a m<m:=by
 unfold gy
 split<;>grind
structure EgI (a0 m d a x n : Int) : Prop where
  an : 0 ≤ a
  ad : a < d
  d1 : d ≤ m
  sg : ∃ u v : Int, 0 ≤ u ∧ u ≤ m ∧ 0 ≤ v ∧ v ≤ m ∧ (x = -u ∧ n = v ∨ x = u ∧ n = -v) ∧ v * d + u * a = m
  c1 : m ∣ a0 * x - d
  c2 : m ∣ a0 * n - a
  g : Int.gcd d a = Int.gcd a0 m
theorem EgI.start {a m:Int} (h0:0≤a) (h1:a<m):EgI a m m a 0 1 where
 an:=h0
 ad:=h1
 d1:=Int.le_refl _
 sg:=⟨0,1,by omega,by omega,by omega,by omega,Or.inl ⟨rfl,rfl⟩,by omega⟩
 c1:=⟨-1,by omega⟩
 c2:=⟨0,by omega⟩
 g:=Int.gcd_comm _ _
theorem EgI.nxt {a0 m d a x n:Int} (h:EgI a0 m d a x n) (ha:a≠0):EgI a0 m a (d%a) n (x - d / a*n)∧0≤d / a∧d / a*a≤d ∧ -m≤d / a*n∧d / a*n≤m ∧ -m≤n∧n≤m∧d - d / a*a=d%a:=by
 have p:0<a:=by have:=h.an;omega
 have q0:0≤d / a:=Int.ediv_nonneg (by have:=h.ad;omega) (by omega)
 have e:=Int.mul_ediv_add_emod d a
 have r0:=Int.emod_nonneg d ha
 have r1:=Int.emod_lt_of_pos d p
 have hd:=h.ad
 have hm:=h.d1
 obtain ⟨u,v,u0,u1,v0,v1,hs,hv⟩:=h.sg
 generalize d / a=q at *
 generalize hr:d%a=r at *
 have qv:0≤q*v:=Int.mul_nonneg q0 v0
 have hv':(u+q*v)*a+v*r=m:=by grind
 have vr:0≤v*r:=Int.mul_nonneg v0 r0
 have t0:0≤u+q*v:=by omega
 have t1:u+q*v≤m:=by
  have:(u+q*v)*1≤(u+q*v)*a:=Int.mul_le_mul_of_nonneg_left (by omega) t0
  omega
 refine ⟨⟨r0,r1,by omega,⟨v,u+q*v,v0,v1,t0,t1,?_,hv'⟩,h.c2,?_,?_⟩,q0,by grind,?_,?_,?_,?_,by grind⟩
 ·grind
 ·obtain ⟨k,hk⟩:=h.c1
  obtain ⟨j,hj⟩:=h.c2
  refine ⟨k - q*j,?_⟩
  grind
 ·rw [← h.g,Int.gcd_comm d a,show r=d - a*q by omega]
  simp
 ·rcases hs with ⟨_,rfl⟩|⟨_,rfl⟩
  ·omega
  grind
 ·rcases hs with ⟨_,rfl⟩|⟨_,rfl⟩
  ·omega
  grind
 ·omega
 omega
def eg (d a x n:Int):Int×Int:=if 0<a then eg a (d%a) n (x - d / a*n) else (d,x)
termination_by a.toNat
decreasing_by have:=Int.emod_lt_of_pos d (by omega:0<a);omega
theorem Gx {d a x n:Int} (h:0<a):eg d a x n=eg a (d%a) n (x - d / a*n):=by
 rw [eg,if_pos h]
theorem KB {d a x n:Int} (h:¬0<a):eg d a x n=(d,x):=by
 rw [eg,if_neg h]
def oB (a m:Int) (s:Int×Int×Int×Int):Prop:=EgI a m s.1 s.2.1 s.2.2.1 s.2.2.2∧eg s.1 s.2.1 s.2.2.1 s.2.2.2=eg m a 0 1
theorem oB.start {a m:Int} (h0:0≤a) (h1:a<m):oB a m (m,a,0,1):=⟨.start h0 h1,rfl⟩
theorem oB.step {a0 m d a x n:Int} (h:oB a0 m (d,a,x,n)) (ha:a≠0):oB a0 m (a,d%a,n,x - d / a*n) :=
 ⟨(h.1.nxt ha).1,(Gx (by have:=h.1.an;grind)).symm.trans h.2⟩
def ya (a m:Int):Int:=let x:=(eg m a 0 1).2;(if x<0 then x+m else x)%m
theorem oB.fin {a0 m d a x n:Int} (h:oB a0 m (d,a,x,n)) (ha:a=0):d=Int.gcd a0 m∧eg m a0 0 1=(d,x) ∧ -m≤x∧x≤m:=by
 subst ha
 obtain ⟨h1,h2⟩:=h
 dsimp only at h1 h2
 refine ⟨?_,by grind [KB],?_⟩
 ·rw [← h1.g,Int.gcd_zero_right]
  have:=h1.ad
  omega
 ·obtain ⟨u,v,u0,u1,v0,v1,hs,hv⟩:=h1.sg
  omega
theorem oB.all {a0 m:Int}:∀ (k:Nat) (s:Int×Int×Int×Int),s.2.1.toNat≤k→oB a0 m s→∃ d x n,oB a0 m (d,0,x,n)
 | k,(d,a,x,n),hk,h=>by
  by_cases ha:a=0
  ·grind
  ·have h0:=h.1.an
   dsimp only at h0 hk
   cases k with
   | zero=>omega
   | succ k =>
    have:=Int.emod_lt_of_pos d (show 0<a by omega)
    have:=Int.emod_nonneg d ha
    exact oB.all k _ (by grind) (h.step ha)
theorem Gm {a m:Int} (h0:0≤a) (h1:a<m):(0≤ya a m∧ya a m<m)∧(Int.gcd a m=1→ya a m=gy a m):=by
 obtain ⟨d,x,n,h⟩:=oB.all _ _ (Nat.le_refl _) (oB.start h0 h1)
 obtain ⟨hd,he,-,-⟩:=h.fin rfl
 have hb:0≤ya a m∧ya a m<m:=⟨Int.emod_nonneg _ (by omega),Int.emod_lt_of_pos _ (by omega)⟩
 refine ⟨hb,fun hg=>(yV hb ?_).symm⟩
 have c1:=h.1.c1
 dsimp only at c1
 rw [hd,hg] at c1
 unfold ya
 rw [he]
 dsimp only
 obtain ⟨k,hk⟩:=c1
 have e2:∀ y:Int,a*(y%m) - 1=(a*y - 1) - m*(a*(y / m)):=fun y=>by
  have:=Int.mul_ediv_add_emod y m
  grind
 split
 ·rw [e2]
  refine ⟨k+a - a*((x+m) / m),?_⟩
  grind
 ·rw [e2]
  refine ⟨k - a*(x / m),?_⟩
  grind
structure vX (a0 m u v x y : Int) : Prop where
  u0 : 0 ≤ u
  u1 : u ≤ m
  v0 : 0 ≤ v
  v1 : v ≤ m
  x0 : 0 ≤ x
  x1 : x < m
  y0 : 0 ≤ y
  y1 : y < m
  c1 : m ∣ a0 * x - u
  c2 : m ∣ a0 * y - v
  g : Int.gcd u v = Int.gcd a0 m
theorem vX.start {a m:Int} (h0:0≤a) (h1:a<m):vX a m a m (1%m) 0 where
 u0:=h0
 u1:=by omega
 v0:=by omega
 v1:=by omega
 x0:=Int.emod_nonneg _ (by omega)
 x1:=Int.emod_lt_of_pos _ (by omega)
 y0:=by omega
 y1:=by omega
 c1:=by
  have e:=Int.mul_ediv_add_emod 1 m
  refine ⟨-(a*(1 / m)),?_⟩
  grind
 c2:=⟨-1,by omega⟩
 g:=rfl
theorem vX.nxt {a0 m u v x y:Int} (h:vX a0 m u v x y) (hv:v≠0):vX a0 m v (u%v) y ((x - u / v%m*y%m)%m)∧0≤u / v∧u / v≤m∧u / v*v≤u∧0≤u / v*v∧u - u / v*v=u%v:=by
 have p:0<v:=by have:=h.v0;omega
 have hm:0<m:=by have:=h.v1;omega
 have q0:0≤u / v:=Int.ediv_nonneg h.u0 (by omega)
 have e:=Int.mul_ediv_add_emod u v
 have r0:=Int.emod_nonneg u hv
 have r1:=Int.emod_lt_of_pos u p
 have hu:=h.u0
 have hu1:=h.u1
 have hv1:=h.v1
 have qv:u / v*v≤u:=by grind
 have q1:u / v≤m:=by
  have:u / v*1≤u / v*v:=Int.mul_le_mul_of_nonneg_left (by omega) q0
  omega
 refine ⟨⟨by omega,by omega,r0,by omega,h.y0,h.y1,Int.emod_nonneg _ (by omega),Int.emod_lt_of_pos _ hm,h.c2,?_,?_⟩,q0,q1,qv,Int.mul_nonneg q0 (by omega),by grind⟩
 ·obtain ⟨k,hk⟩:=h.c1
  obtain ⟨j,hj⟩:=h.c2
  have e1:=Int.mul_ediv_add_emod (u / v) m
  have e2:=Int.mul_ediv_add_emod (u / v%m*y) m
  have e3:=Int.mul_ediv_add_emod (x - u / v%m*y%m) m
  generalize (x - u / v%m*y%m)%m=z at *
  generalize (x - u / v%m*y%m) / m=z' at *
  generalize u / v%m*y%m=w at *
  generalize u / v%m*y / m=w' at *
  generalize u / v%m=qm at *
  generalize u / v / m=qm' at *
  generalize u / v=q at *
  generalize u%v=r at *
  refine ⟨k - q*j+a0*(qm'*y+w' - z'),?_⟩
  grind
 ·rw [← h.g,Int.gcd_comm u v,show u%v=u - v*(u / v) by omega]
  simp
theorem vX.fin {a0 m u x y:Int} (h:vX a0 m u 0 x y) (hg:Int.gcd a0 m=1):x=gy a0 m:=by
 have hu:u=1:=by
  have:=h.g
  have h0:=h.u0
  grind [Int.gcd_zero_right]
 exact (yV ⟨h.x0,h.x1⟩ (hu▸h.c1)).symm
theorem EgI.w {a0 m d a x n:Int} (h:EgI a0 m d a x n) (ha:a≠0) (hm:m<2305843009213693952) :
  IntKind.wrap .i64 (d - IntKind.wrap .i64 (IntKind.wrap .i64 (Int.tdiv d a)*a))=d%a∧IntKind.wrap .i64 (x - IntKind.wrap .i64 (IntKind.wrap .i64 (Int.tdiv d a)*n))=x - d / a*n∧d%a<a∧0≤d%a:=by
 obtain ⟨h1,q0,q1,n0,n1,n2,n3,e⟩:=h.nxt ha
 have hd:=h.ad;have hm1:=h.d1;have h0:=h.an
 have r0:=h1.an;have r1:=h1.ad
 have qd:d / a≤d:=by
  have:d / a*1≤d / a*a:=Int.mul_le_mul_of_nonneg_left (by omega) q0
  omega
 have e1:IntKind.wrap .i64 (Int.tdiv d a)=d / a:=by grind [Int.tdiv_eq_ediv_of_nonneg,wI]
 have e2:IntKind.wrap .i64 (d / a*a)=d / a*a:=wI (by omega) (by omega)
 obtain ⟨u,v,u0,u1,v0,v1,hs,hv⟩:=h1.sg
 rw [e1,e2,wI (n:=d - d / a*a) (by omega) (by omega),wI (n:=d / a*n) (by omega) (by omega),wI (n:=x - d / a*n) (by omega) (by omega)]
 omega
theorem oB.out {a0 m:Int} {s:Int×Int×Int×Int} (h:oB a0 m s) (ha:s.2.1=0) (hm:m<2305843009213693952) :
  s.1=Int.gcd a0 m∧(s.2.2.1<0→Int.tmod (IntKind.wrap .i64 (s.2.2.1+m)) m=ya a0 m)∧(¬s.2.2.1<0→Int.tmod s.2.2.1 m=ya a0 m)∧0<m:=by
 obtain ⟨d,a,x,n⟩:=s
 obtain ⟨h1,h2,h3,h4⟩:=oB.fin h ha
 have h5:=h.1.d1;have h6:=h.1.ad;have h7:=h.1.an
 dsimp only at *
 refine ⟨h1,fun hx=>?_,fun hx=>?_,by omega⟩
 ·rw [wI (by omega) (by omega),bY (by omega)]
  simp_all [ya]
 simp_all [bY,ya,if_neg]
theorem vX.w {a0 m u v x y:Int} (h:vX a0 m u v x y) (hv:v≠0) (hm:m<2305843009213693952) :
  IntKind.wrap .i64 (Int.tdiv u v)=u / v∧IntKind.wrap .i64 (u - IntKind.wrap .i64 (IntKind.wrap .i64 (Int.tdiv u v)*v))=u%v∧u%v<v∧0≤u%v∧0<m∧0≤u / v%m∧u / v%m<m∧IntKind.wrap .i64 (x - u / v%m*y%m)=x - u / v%m*y%m:=by
 obtain ⟨h1,q0,q1,n0,n1,e⟩:=h.nxt hv
 have b1:=h.u0;have b2:=h.u1;have b3:=h.v0;have b4:=h.v1;have b5:=h.x0;have b6:=h.x1
 have r0:=Int.emod_nonneg u hv
 have r1:=Int.emod_lt_of_pos u (show 0<v by omega)
 have m0:0<m:=by omega
 have e1:IntKind.wrap .i64 (Int.tdiv u v)=u / v:=by grind [Int.tdiv_eq_ediv_of_nonneg,wI]
 have c0:=Int.emod_nonneg (u / v%m*y) (show m≠0 by omega)
 have c1:=Int.emod_lt_of_pos (u / v%m*y) m0
 refine ⟨e1,?_,r1,r0,m0,Int.emod_nonneg _ (by omega),Int.emod_lt_of_pos _ m0,wI (by omega) (by omega)⟩
 grind [wI]
theorem Bf (a b:Int):Int.gcd b (a%b)=Int.gcd a b:=by simp [Int.gcd_comm,Int.emod_def]
theorem DH {x y:Int} {g:Nat} (hx:0≤x) (hy:y=0) (h:Int.gcd x y=g):x=g:=by grind [Int.gcd_zero_right]
theorem EC {a m:Int} (h0:0≤a) (h1:a<m) (hm:m<2305843009213693952):cA a a m=0:=by grind [cA]
def au.di (s:au):bD:=⟨s.jl,s.fK,s.gx,s.depth,s.a,s.root,s.z,s.sa,s.sb,s.r⟩
def au.ju (s:au):je:=⟨s.bM,s.time,s.number⟩
structure au.By (s : au) : Prop where
  root : cS s.root 32
  bM : cS s.bM 32
def l7 (b:aI) (s:au):Int:=dW b.gr.q s.di s.level s.index s.ju
def gM (b:aI) (x:Int):Bool:=decide (x≥0)&&decide (x<b.gr.q)
theorem lG {s:au} (h:dk s=true):bU s.depth s.level s.index=true∧fM s.time s.number=true∧bG s=dg s.depth s.level s.index∧oq s=dm s.depth s.level s.index∧(s.nl:Int)=oq s - bG s:=by
 have hf:bG s=dg s.depth s.level s.index:=by grind [bG]
 have ht:oq s=dm s.depth s.level s.index:=by grind [oq]
 have hn:bU s.depth s.level s.index=true:=by grind [bU,dk,gY]
 have hb:=lk s
 have hz:0≤oq s∧oq s≤2000:=by
  rw [ht]
  unfold dm
  rw [if_pos hn]
  obtain ⟨h1,h2,h3,h4,h5,h6⟩:=iK hn
  obtain ⟨q1,_,q2,q3⟩:=p2 (k:=s.depth - s.level) (by omega) (by omega)
  obtain ⟨_,_,r2,r3⟩:=p2 (k:=s.level) (by omega) (by omega)
  obtain ⟨b1,b2,b3,b4⟩:=bnd h5 h6 r3 q2 q3
  omega
 grind [dk,fM,wI]
theorem KN {s:au} (h:dk s=true):oq s≤2000:=by
 obtain ⟨hn,_,_,ht,_⟩:=lG h
 rw [ht]
 unfold dm
 rw [if_pos hn]
 obtain ⟨h1,h2,h3,h4,h5,h6⟩:=iK hn
 obtain ⟨q1,_,q2,q3⟩:=p2 (k:=s.depth - s.level) (by omega) (by omega)
 obtain ⟨_,_,r2,r3⟩:=p2 (k:=s.level) (by omega) (by omega)
 obtain ⟨b1,b2,b3,b4⟩:=bnd h5 h6 r3 q2 q3
 omega
def fe (s t:au) (i:Nat):Nat:=(aG (fun k=>t.lf k 0==s.lf i 0) t.nl 0).toNat
def cF (s:au) (leaf:Int):Nat:=(leaf - bG s).toNat
noncomputable def cj (b:aI) (s t:au) (leaf:Int):Int×Int :=
 if aT b=false∨(dk s&&dk t)=false then (0,1)
 else if leaf<bG s∨oq s≤leaf then (0,2)
 else if ¬(s.a=t.a∧found t (s.lf (cF s leaf) 0)=true) then (0,7)
 else if gM b (s.lf (cF s leaf) 1)=false∨gM b (s.lf (cF s leaf) 2)=false∨gM b (t.lf (fe s t (cF s leaf)) 1)=false∨gM b (t.lf (fe s t (cF s leaf)) 2)=false then (0,2)
 else if l7 b s=l7 b t then (0,20)
 else if s.lf (cF s leaf) 2=t.lf (fe s t (cF s leaf)) 2 then (0,10)
 else ((s.lf (cF s leaf) 1 - t.lf (fe s t (cF s leaf)) 1)%b.gr.q*gy ((s.lf (cF s leaf) 2 - t.lf (fe s t (cF s leaf)) 2)%b.gr.q) b.gr.q%b.gr.q,0)
theorem fU {s t:au} {leaf:Int} (h:dk s=true) (h1:¬(leaf<bG s∨oq s≤leaf)):leaf∈cX s t↔(s.a=t.a∧found t (s.lf (cF s leaf) 0)=true):=by
 obtain ⟨_,_,_,_,hn⟩:=lG h
 unfold cX
 by_cases ha:s.a=t.a
 ·rw [if_neg (by omega)]
  unfold bQ cF
  grind
 grind
theorem zb {s t:au} {i:Nat} (h:found t (s.lf i 0)=true):fe s t i<t.nl∧aG (fun k=>t.lf k 0==s.lf i 0) t.nl 0=(fe s t i:Nat):=by
 have h0:aG (fun k=>t.lf k 0==s.lf i 0) t.nl 0≥0:=of_decide_eq_true h
 have h1:=iE (p:=fun k=>t.lf k 0==s.lf i 0) t.nl 0
 grind [fe]
theorem AF {l:List Int} {v:Int}:(decide (aG (fun i=>l.getD i 0==v) l.length 0≥0))=decide (v∈l):=by
 rw [gH]
 rw [Bool.eq_iff_iff]
 simp only [Nat.zero_add,List.any_eq_true,List.mem_range,beq_iff_eq,decide_eq_true_eq]
 constructor
 ·grind
 ·intro h
  obtain ⟨i,hi,rfl⟩:=List.mem_iff_getElem.1 h
  exact ⟨i,hi,by grind⟩
theorem vU {s:au} {leaf:Int} (h:dk s=true) (h1:¬(leaf<bG s∨oq s≤leaf)):0≤IntKind.wrap .i64 (leaf - bG s)∧IntKind.wrap .i64 (leaf - bG s)<s.nl∧toNat (IntKind.wrap .i64 (leaf - bG s))=cF s leaf:=by
 obtain ⟨_,_,_,_,hn⟩:=lG h
 have hb:=lk s
 have hz:oq s≤2000:=by
  have:=KN h
  omega
 rw [wI (by omega) (by omega)]
 exact ⟨by omega,by omega,rfl⟩
theorem IA {b:aI} {s t:au} {leaf:Int} (h:aT b=false∨dk s=false∨dk t=false):cj b s t leaf=(0,1):=by grind [cj]
theorem HQ {b:aI} {s t:au} {leaf:Int} (h:aT b=true∧dk s=true∧dk t=true) (h1:leaf<bG s∨oq s≤leaf):cj b s t leaf=(0,2):=by grind [cj]
theorem IC {b:aI} {s t:au} {leaf:Int} (h:aT b=true∧dk s=true∧dk t=true) (h1:¬(leaf<bG s∨oq s≤leaf)) (h2:¬leaf∈cX s t):cj b s t leaf=(0,7):=by grind [fU,cj]
theorem H0 {b:aI} {s t:au} {leaf:Int} (h:aT b=true∧dk s=true∧dk t=true) (h1:¬(leaf<bG s∨oq s≤leaf)) (h2:leaf∈cX s t)
  (h3:gM b (s.lf (cF s leaf) 1)=false∨gM b (s.lf (cF s leaf) 2)=false∨gM b (t.lf (fe s t (cF s leaf)) 1)=false∨gM b (t.lf (fe s t (cF s leaf)) 2)=false):cj b s t leaf=(0,2):=by grind [fU,cj]
theorem IB {b:aI} {s t:au} {leaf:Int} (h:aT b=true∧dk s=true∧dk t=true) (h1:¬(leaf<bG s∨oq s≤leaf)) (h2:leaf∈cX s t)
  (h3:gM b (s.lf (cF s leaf) 1)=true∧gM b (s.lf (cF s leaf) 2)=true∧gM b (t.lf (fe s t (cF s leaf)) 1)=true∧gM b (t.lf (fe s t (cF s leaf)) 2)=true) (h4:l7 b s=l7 b t):cj b s t leaf=(0,20):=by grind [fU,cj]
theorem HX {b:aI} {s t:au} {leaf:Int} (h:aT b=true∧dk s=true∧dk t=true) (h1:¬(leaf<bG s∨oq s≤leaf)) (h2:leaf∈cX s t)
  (h3:gM b (s.lf (cF s leaf) 1)=true∧gM b (s.lf (cF s leaf) 2)=true∧gM b (t.lf (fe s t (cF s leaf)) 1)=true∧gM b (t.lf (fe s t (cF s leaf)) 2)=true) (h4:¬l7 b s=l7 b t)
  (h5:s.lf (cF s leaf) 2=t.lf (fe s t (cF s leaf)) 2):cj b s t leaf=(0,10):=by grind [fU,cj]
theorem If {b:aI} {s t:au} {leaf:Int} (h:aT b=true∧dk s=true∧dk t=true) (h1:¬(leaf<bG s∨oq s≤leaf)) (h2:leaf∈cX s t)
  (h3:gM b (s.lf (cF s leaf) 1)=true∧gM b (s.lf (cF s leaf) 2)=true∧gM b (t.lf (fe s t (cF s leaf)) 1)=true∧gM b (t.lf (fe s t (cF s leaf)) 2)=true) (h4:¬l7 b s=l7 b t)
  (h5:¬s.lf (cF s leaf) 2=t.lf (fe s t (cF s leaf)) 2):cj b s t leaf=((s.lf (cF s leaf) 1 - t.lf (fe s t (cF s leaf)) 1)%b.gr.q*gy ((s.lf (cF s leaf) 2 - t.lf (fe s t (cF s leaf)) 2)%b.gr.q) b.gr.q%b.gr.q,0):=by simp_all [fU,cj,if_neg]
theorem gd {b:aI} {x:Int} (h:gM b x=true):0≤x∧x<b.gr.q:=by grind [gM]
theorem yr {x y q:Int} (hx:0≤x∧x<q) (hy:0≤y∧y<q) (hq:q<2305843009213693952):Int.tmod (IntKind.wrap .i64 (IntKind.wrap .i64 (x - y)+q)) q=(x - y)%q∧0≤(x - y)%q∧(x - y)%q<q:=by
 rw [wI (n:=x - y) (by omega) (by omega),wI (by omega) (by omega),bY (by omega),Int.add_emod_right]
 exact ⟨rfl,Int.emod_nonneg _ (by omega),Int.emod_lt_of_pos _ (by omega)⟩
theorem Dk {b:aI} {s:au} (h:aT b=true) (h':dk s=true):iS b s.di s.level s.index s.ju=0∧jx b s.di s.level s.index s.ju=l7 b s :=
 have h2:=lG h'
 vY h ⟨h2.1,h2.2.1⟩
theorem tZ (s t:au):(cX s t).length≤s.nl:=by
 unfold cX
 split
 ·simp
 simp [n7]
theorem or4 {A B C D:Prop} (h:((A∨B)∨C)∨D):A∨B∨C∨D:=by grind
theorem zZ {A B C D:Prop} (h:((A∧B)∧C)∧D):A∧B∧C∧D:=⟨h.1.1.1,h.1.1.2,h.1.2,h.2⟩
theorem rC {x y q:Int} (hx:0≤x∧x<q) (hy:0≤y∧y<q) (hq:q<2305843009213693952):Int.tmod (IntKind.wrap .i64 (IntKind.wrap .i64 (x+q) - y)) q=(x - y)%q∧0≤(x - y)%q∧(x - y)%q<q:=by
 rw [wI (n:=x+q) (by omega) (by omega),wI (by omega) (by omega),bY (by omega),show x+q - y=(x - y)+q by omega,Int.add_emod_right]
 exact ⟨rfl,Int.emod_nonneg _ (by omega),Int.emod_lt_of_pos _ (by omega)⟩
def fF (s t:au) (i:Nat):Int:=if s.a=t.a then aG (fun k=>t.lf k 0==s.lf i 0) t.nl 0 else -1
theorem vj {s t:au} {leaf:Int} (h:dk s=true) (h1:¬(leaf<bG s∨oq s≤leaf)):¬fF s t (cF s leaf)<0↔leaf∈cX s t:=by simp_all [fU,fF,found]<;>omega
theorem Ah {s t:au} {i:Nat} (h:¬fF s t i<0):fF s t i=fe s t i∧fe s t i<t.nl:=by
 unfold fF at h ⊢
 by_cases ha:s.a=t.a
 ·rw [if_pos ha] at h ⊢
  have:=zb (s:=s) (t:=t) (i:=i) (decide_eq_true (by omega))
  omega
 omega
theorem B4 {s:au} {leaf:Int} (h:dk s=true) (hl:leaf≤9223372036854775807):((leaf<0∨IntKind.wrap .i64 (leaf - bG s)<0)∨IntKind.wrap .i64 (leaf - bG s)≥s.nl)↔(leaf<bG s∨oq s≤leaf):=by
 obtain ⟨_,_,_,_,hn⟩:=lG h
 have hb:=lk s
 grind [wI]
theorem vz {s t:au} {leaf:Int} (h:dk s=true) (hl:leaf≤9223372036854775807) (h6:(¬leaf<0∧¬IntKind.wrap .i64 (leaf - bG s)<0)∧¬IntKind.wrap .i64 (leaf - bG s)≥s.nl)
  (h9:¬fF s t (toNat (IntKind.wrap .i64 (leaf - bG s)))<0):¬(leaf<bG s∨oq s≤leaf)∧leaf∈cX s t∧toNat (IntKind.wrap .i64 (leaf - bG s))=cF s leaf ∧
  toNat (fF s t (cF s leaf))=fe s t (cF s leaf)∧0≤fF s t (cF s leaf)∧fF s t (cF s leaf)<t.nl:=by
 have nl:¬(leaf<bG s∨oq s≤leaf):=fun hh=>by
  have:=(B4 h hl).2 hh
  omega
 grind [vU,Ah,vj,Int.toNat_natCast]
theorem elem_iff {G:bN} (h:G.Ok) {x:Int}:aO G x=true↔1≤x∧x<G.p∧x^G.q.toNat%G.p=1:=by
 rw [← DV h]
 grind
theorem Kv {a p:Int} {q:Nat} (hq:0<q) (h:a^q%p=1):a%p≠0:=fun e=>by
 have h2:(a%p)^q%p=1:=by grind [pow_mod]
 rw [e,Int.zero_pow (by omega)] at h2
 simp at h2
theorem xU {G:bN} (h:G.Ok) {x:Int} (hx:x^G.q.toNat%G.p=1):aO G (x%G.p)=true:=by
 have h3:=h.p3;have h4:=h.q3
 have h1:=Int.emod_nonneg x (show G.p≠0 by omega)
 have h2:=Int.emod_lt_of_pos x (show 0<G.p by omega)
 have h5:=Kv (by omega) hx
 grind [elem_iff,pow_mod]
theorem dJ {G:bN} (h:G.Ok) {a:Int} (ha:aO G a=true) (k:Nat):aO G (a^k%G.p)=true:=by
 refine xU h ?_
 have h3:=h.p3
 rw [← Int.pow_mul,Nat.mul_comm,Int.pow_mul,← pow_mod,((elem_iff h).1 ha).2.2,Int.one_pow,Int.emod_eq_of_lt (by decide) (by omega)]
theorem va {G:bN} (h:G.Ok) {a b:Int} (ha:aO G a=true) (hb:aO G b=true):aO G (a*b%G.p)=true:=by
 refine xU h ?_
 have h3:=h.p3
 rw [Int.mul_pow,Int.mul_emod,((elem_iff h).1 ha).2.2,((elem_iff h).1 hb).2.2]
 exact Int.emod_eq_of_lt (by decide) (by omega)
theorem fT {G:bN} (h:G.Ok) {a:Int} (ha:aO G a=true):1≤a∧a<G.p:=⟨((elem_iff h).1 ha).1,((elem_iff h).1 ha).2.1⟩
def nQ (b:aI) (u:Int):Int:=b.g1^u.toNat%b.gr.p*b.g2%b.gr.p
theorem Iq {q x:Int} (h:0≤x∧x<q):x%q=x:=Int.emod_eq_of_lt h.1 h.2
theorem M7 {b:aI} {s:au} (h:0<b.gr.q):0≤l7 b s∧l7 b s<b.gr.q:=oY h 16
def fC (l r:Nat→Int) (i:Nat):Int:=bif Nat.blt i 32 then l i else r (i - 32)
def eJ (l r:Nat→Int):Nat→Int:=et "specie/node".toUTF8 64 (fC l r)
theorem D1 {l r:Nat→Int} (hl:cS l 32) (hr:cS r 32):cS (fC l r) 64:=fun i hi=>by
 unfold fC
 by_cases h:i<32
 ·rw [cD h];exact hl i h
 ·rw [dn (Nat.le_of_not_lt h)];exact hr _ (by omega)
theorem yi (l r:Nat→Int) (n:Nat):cS (eJ l r) n:=fun i _=>pA _ _ i
def fS (x:Int):Nat→Int:=jm "specie/leaf".toUTF8 (.int x)
def dP (h:Nat→Nat→Int):Nat→Nat→Nat→Int
 | 0,i=>h i
 | k+1,i=>eJ (dP h k (2*i)) (dP h k (2*i+1))
theorem wB {h:Nat→Nat→Int} {n:Nat} (hh:∀ i,i<n→cS (h i) 32):∀ (k i:Nat),i*2^k+2^k≤n→cS (dP h k i) 32
 | 0,i,hi=>hh i (by omega)
 | k+1,i,_=>yi _ _ 32
abbrev dD (n:Nat) (h:Nat→Nat→Int):AV:=.aH 32 n fun i j=>.int .u8 (h i j)
def nG (l r:Nat→Int) (i:Nat):Nat→Int:=bif Nat.beq i 0 then l else r
def qZ (l r:Nat→Int) (x i:Nat):Int:=bif Nat.beq x 0 then 0 else fC l r i
theorem E6 {os:List (Option Ob)} {f g:Nat→Nat→AV} {l r:Nat→Int} (hf:∀ i,i<32→f i 0=.int .u8 (l i)) (hg:∀ i,i<32→g i 0=.int .u8 (r i)) :
  ay os (.aH 1 2 fun i k=>aQ (List.getD [[.aH 1 32 f],[.aH 1 32 g]] i []) k) (.aH 1 2 fun i _=>.aH 1 32 fun k _=>.int .u8 (nG l r i k)):=by
 refine ay.BD fun i j hi hj=>?_
 have:j=0:=by omega
 subst this
 refine ⟨?_,.aH fun _ _ _ _=>.int⟩
 rcases i with _|_|i
 ·exact ay.aH fun a b ha hb=>by
   have:b=0:=by omega
   subst this;exact hf a ha
 ·exact ay.aH fun a b ha hb=>by
   have:b=0:=by omega
   subst this;exact hg a ha
 omega
theorem At {l r:Nat→Int} {x i:Nat} (hx:x<2) (hi:i<32*x+32):(bif Nat.blt i (32*x) then qZ l r x i else nG l r x (i - 32*x))=qZ l r (x+1) i:=by
 have:x=0∨x=1:=by omega
 rcases this with rfl|rfl
 ·rw [dn (by omega)]
  show l (i - 0)=fC l r i
  grind [fC,cD]
 ·by_cases h:i<32
  ·rw [cD (by omega)];rfl
  ·rw [dn (by omega)]
   show r (i - 32)=fC l r i
   grind [fC,dn]
theorem A0 {l r:Nat→Int} {x i:Nat} (hx:x=2):qZ l r x i=fC l r i:=by subst hx;rfl
theorem I3 {l r:Nat→Int} {i:Nat} (h:i<32):fC l r i=l i:=by grind [fC,cD]
theorem Lg {l r:Nat→Int} {i:Nat}:fC l r (32+i)=r i:=by simp [fC,dn]
theorem Kw {l r:Nat→Int} {n:Nat} (h:n=64):et "specie/node".toUTF8 n (fC l r)=eJ l r:=by subst h;rfl
def eO (m x i:Nat):Nat:=bif Nat.blt i x||Nat.ble (m - x) i then m - 1 - i else i
theorem rev_eq {os:List (Option Ob)} {m:Nat} {mu:Bool} (C:Nat→Nat) (F:Nat→Nat→Nat→Int) (σ τ:Nat→Nat) (h:∀ i,i<m→σ i=τ i):aJ os ⟨1,m,mu,.row fun i=>[dD (C (σ i)) (F (σ i))]⟩ ⟨1,m,mu,.row fun i=>[dD (C (τ i)) (F (τ i))]⟩ :=
 ⟨rfl,rfl,rfl,fun i j hi hj=>ay.of_eq (by
  have hi:i<m:=hi
  show Am.aQ [dD (C (σ i)) (F (σ i))] j=Am.aQ [dD (C (τ i)) (F (τ i))] j
  grind)⟩
theorem Nh {m i:Nat} (hi:i<m):i=eO m 0 i:=by
 unfold eO
 have h1:Nat.ble (m - 0) i=false:=by grind [Nat.ble,Nat.ble_eq]
 simp_all [dn,Nat.zero_le]
theorem G3 {m x i:Nat} (hx:¬x<m - 1 - x) (hx2:x≤m / 2) (hi:i<m):eO m x i=m - 1 - i:=by
 unfold eO
 by_cases h:i<x
 ·grind [cD]
 ·by_cases h':m - x≤i
  ·rw [show Nat.ble (m - x) i=true from by simp_all,Bool.or_true];rfl
  grind
theorem yX {m x i:Nat} (h1:¬i<x) (h2:¬m - x≤i):eO m x i=i:=by grind [eO,Nat.ble,Nat.ble_eq,dn]
theorem Bl {os:List (Option Ob)} {m x a b:Nat} (C:Nat→Nat) (F:Nat→Nat→Nat→Int) (ha:a=x) (hb:b=m - 1 - x) (hx:x<m - 1 - x) :
  aJ os ⟨1,m,true,.put b [dD (C (eO m x a)) (F (eO m x a))] (.put a [dD (C (eO m x b)) (F (eO m x b))] (.row fun i=>[dD (C (eO m x i)) (F (eO m x i))]))⟩ ⟨1,m,true,.row fun i=>[dD (C (eO m (x+1) i)) (F (eO m (x+1) i))]⟩:=by
 refine ⟨rfl,rfl,rfl,fun i j hi hj=>ay.of_eq ?_⟩
 have hi:i<m:=hi
 show dh (Nat.beq i b) (Am.aQ [dD (C (eO m x a)) (F (eO m x a))] j) (dh (Nat.beq i a) (Am.aQ [dD (C (eO m x b)) (F (eO m x b))] j) (Am.aQ [dD (C (eO m x i)) (F (eO m x i))] j))=Am.aQ [dD (C (eO m (x+1) i)) (F (eO m (x+1) i))] j
 have key:∀ p q:Nat,p=q→Am.aQ [dD (C p) (F p)] j=Am.aQ [dD (C q) (F q)] j:=fun p q e=>by rw [e]
 by_cases h1:i=b
 ·rw [show Nat.beq i b=true by simp_all,jg]
  refine key _ _ ?_
  rw [ha,yX (by omega) (by omega)]
  unfold eO
  rw [show Nat.ble (m - (x+1)) i=true from by grind [Nat.ble_eq],Bool.or_true]
  grind
 ·rw [mD h1,gN]
  by_cases h2:i=a
  ·grind [Nat.beq,Nat.beq_refl,jg,yX,eO,cD]
  ·rw [mD h2,gN]
   refine key _ _ ?_
   unfold eO
   have e1:Nat.blt i x=Nat.blt i (x+1):=by grind [cD,dn]
   have e2:Nat.ble (m - x) i=Nat.ble (m - (x+1)) i:=by
    rw [Bool.eq_iff_iff,Nat.ble_eq,Nat.ble_eq]
    omega
   grind
theorem Gq {d k:Nat} (hd:d≤5):2^(d - k)≤32:=Nat.le_trans (Nat.pow_le_pow_right (by decide) (show d - k≤5 by omega)) (by decide)
theorem tP {d k:Nat} (h:((2^(d - k):Nat):Int)>1):k<d:=by grind
theorem pow_eq {d k:Nat} (hk:k≤d) (h:¬((2^(d - k):Nat):Int)>1):k=d:=by
 apply Classical.byContradiction
 intro hn
 apply h
 have:2^1≤2^(d - k):=Nat.pow_le_pow_right (by decide) (by omega)
 omega
theorem tm {d k:Nat} (h:k<d):2*2^(d - k - 1)=2^(d - k):=by
 rw [show d - k=(d - k - 1)+1 by omega,Nat.pow_succ,Nat.mul_comm]
 congr 1
theorem qa {k:Nat}:1≤2^k:=Nat.pos_of_ne_zero (by simp)
def bE (h:Nat→Int) (i:Int) (P:Nat→Nat→Int):Nat→Nat→Int
 | 0=>h
 | x+1=>bif decide (i / 2^x%2=0) then eJ (bE h i P x) (P x) else eJ (P x) (bE h i P x)
theorem sy {h:Nat→Int} {i:Int} {P:Nat→Nat→Int} (hh:cS h 32):∀ x,cS (bE h i P x) 32
 | 0=>hh
 | x+1=>by
  show cS (bif _ then _ else _) 32
  grind [decide,yi]
theorem NT:∀ x:Fin 11,IntKind.wrap .i64 (1*2^min x.1 64)=((2^x.1:Nat):Int):=by decide +kernel
theorem shw {x:Nat} (h:x≤10):IntKind.wrap .i64 (1*2^min x 64)=((2^x:Nat):Int):=NT ⟨x,by omega⟩
theorem Ak:∀ d x:Fin 11,2^d.1=2^x.1→d.1=x.1:=by decide +kernel
theorem yh {d x:Nat} (hd:d≤10) (hx:x≤10) (h:2^d=2^x):d=x:=Ak ⟨d,by omega⟩ ⟨x,by omega⟩ h
theorem LR {d x:Nat} (hd:d≤10) (hx:x≤10) (g:((2^d:Nat):Int)=IntKind.wrap .i64 (1*2^min x 64)):d=x:=by grind [shw,yh,Int.ofNat_inj]
theorem Iw {d x:Nat} (hx:x≤10) (g:¬((2^d:Nat):Int)=IntKind.wrap .i64 (1*2^min x 64)):d≠x:=fun e=>g (by grind [shw])
theorem KJ {i:Int} {x:Nat} (hi:0≤i):Int.tdiv (i / 2^x) 2=i / 2^(x+1):=by grind [Int.tdiv_eq_ediv_of_nonneg,Int.ediv_nonneg,Int.pow_nonneg,Int.ediv_ediv_of_nonneg,Int.pow_succ]
theorem Dm {i:Int} {x:Nat} (hi:0≤i):Int.tmod (i / 2^x) 2=i / 2^x%2:=by grind [Int.tmod_eq_emod_of_nonneg,Int.ediv_nonneg,Int.pow_nonneg]
theorem tU {i:Int} {x:Nat} (hi:0≤i) (hi':i<9223372036854775807):IntKind.wrap .i64 (Int.tdiv (i / 2^x) 2)=i / 2^(x+1):=by
 rw [KJ hi]
 have h1:0≤i / 2^(x+1):=Int.ediv_nonneg hi (Int.pow_nonneg (by decide))
 have h2:i / 2^(x+1)≤i:=Int.ediv_le_self _ hi
 grind [wI]
theorem Ir {h:Nat→Int} {i:Int} {P:Nat→Nat→Int} {x:Nat} (hi:0≤i) (g:Int.tmod (i / 2^x) 2=0):eJ (bE h i P x) (P x)=bE h i P (x+1):=by
 rw [Dm hi] at g
 show _=bif _ then _ else _
 grind
theorem HU {h:Nat→Int} {i:Int} {P:Nat→Nat→Int} {x:Nat} (hi:0≤i) (g:¬Int.tmod (i / 2^x) 2=0):eJ (P x) (bE h i P x)=bE h i P (x+1):=by
 rw [Dm hi] at g
 show _=bif _ then _ else _
 grind
theorem sS {os:List (Option Ob)} {u v G:Nat→Int} (e:v=G) :
  aJ os ⟨32,1,true,.fn fun i j=>.int .u8 (bif Nat.beq i 0&&(Nat.ble 0 j&&Nat.blt j 32) then aE (aQ (bf v) (j - 0)) else u j)⟩ ⟨32,1,true,.fn fun _ j=>.int .u8 (G j)⟩:=by
 subst e
 refine ⟨rfl,rfl,rfl,fun i j hi hj=>ay.of_eq (congrArg (AV.int .u8) ?_)⟩
 have:i=0:=Nat.lt_one_iff.1 hi
 subst this
 rw [Nat.sub_zero,show (Nat.beq 0 0&&(Nat.ble 0 j&&Nat.blt j 32))=true by simp_all,eV hj]
 rfl
def eqF (f g:Nat→Int):Nat→Nat→Bool
 | 0,_=>true
 | k+1,s=>(f s==g s)&&eqF f g k (s+1)
def hEq (f g:Nat→Int):Bool:=eqF f g 32 0
theorem I7 {n:Nat} (hn:n≤1000):IntKind.wrap .i64 ((n:Int) - IntKind.wrap .i64 (0 - 0))=n:=by grind [Int,wI]
theorem Gr {j:Nat} (hj:j<1):AV.int .u8 (aE (aQ (cq (.int .u8 0)) j))=.int .u8 0:=by
 have:j=0:=by omega
 subst this;rfl
structure fZ where
  jl : Int
  fK : Int
  gx : Int
  value : Int
  depth : Int
  h : Int
  h1 : Int
  h2 : Int
  fr : Int
  til : Int
  fin : Int
def fZ.key (r:fZ):List AV:=[.int .i64 r.h,.int .i64 r.h1,.int .i64 r.h2]
def fZ.cells (r:fZ):List AV:=[.int .i64 r.jl,.int .i64 r.fK,.int .i64 r.gx,.int .i64 r.value,.int .i64 r.depth]++(r.key++[.int .i64 r.fr,.int .i64 r.til,.int .i64 r.fin])
def fZ.av (r:fZ):AV:=.agg r.cells
def bV (G:bN) (x:Int):Bool:=x != 1&&aO G x
def df (b:aI) (h h1 h2:Int):Bool:=aT b&&bV b.gr h&&bV b.gr h1&&bV b.gr h2
def gJ (v d:Int):Bool:=bif v==0 then d==0 else decide (v≥1)&&decide (v≤1099511627776)&&decide (d≥0)&&decide (d≤5)&&(Int.tmod v (IntKind.wrap .i64 (1*2^min d.toNat 64))==0)
def ik (x l u:Int):Bool:=decide (x≥l)&&decide (x≤u)
def mP (jl fK fr til fin:Int):Bool:=ik jl 0 7&&ik fK 0 1000000&&decide (fr≥0)&&decide (fr<til)&&decide (til≤fin)&&decide (fin≤1099511627776)
def dV (b:aI) (r:fZ):Bool:=df b r.h r.h1 r.h2&&mP r.jl r.fK r.fr r.til r.fin&&ik r.gx 0 16&&gJ r.value r.depth
theorem ok1 {e v:Int}:(e==0&&kd e v==1)=(kd e v==1):=by grind [CU]
theorem HZ {d:Int} (h0:0≤d) (h5:d≤5):IntKind.wrap .i64 (1*2^min d.toNat 64)≠0:=by
 rw [shw (x:=d.toNat) (by omega)]
 have:1≤2^d.toNat:=qa
 omega
theorem EU {d:Int} (h0:0≤d) (h5:d≤5):IntKind.wrap .u64 d=d:=by
 have:d=0∨d=1∨d=2∨d=3∨d=4∨d=5:=by omega
 rcases this with rfl|rfl|rfl|rfl|rfl|rfl<;>decide
theorem LC {v d:Int} (h:v=0) (h':d=0):gJ v d=true:=by subst h;subst h';rfl
theorem H4 {v d:Int} (h:v=0):gJ v d=(d==0):=by subst h;rfl
theorem H6 {v d:Int} (h:¬v=0):gJ v d=(decide (v≥1)&&decide (v≤1099511627776)&&decide (d≥0)&&decide (d≤5)&&(Int.tmod v (IntKind.wrap .i64 (1*2^min d.toNat 64))==0)):=by grind [gJ]
theorem Oi {v d:Int} (h:¬(v=0∧d=0)):(decide (v≥1)&&decide (v≤1099511627776)&&decide (d≥0)&&decide (d≤5)&&(Int.tmod v (IntKind.wrap .i64 (1*2^min d.toNat 64))==0))=gJ v d:=by grind [H4,decide,H6]
theorem Ml {v d:Int} (h:¬v=0):(decide (v≥1)&&decide (v≤1099511627776)&&decide (d≥0)&&decide (d≤5)&&(Int.tmod v (IntKind.wrap .i64 (1*2^min (toNat (IntKind.wrap .u64 d)) 64))==0))=gJ v d:=by
 rw [H6 h]
 by_cases hd:0≤d∧d≤5
 ·grind [EU]
 grind
theorem rec_1 {n g k:Bool} {v d:Int}:(n&&g&&(v==0&&d==0||gJ v d)&&k)=(k&&n&&g&&gJ v d):=by
 by_cases h:v=0∧d=0
 ·obtain ⟨rfl,rfl⟩:=h
  cases n<;>cases g<;>cases k<;>rfl
 grind
def cC (b:aI) (a:Int) (i:Nat):Int:=[b.gr.p,b.gr.q,b.gr.g,b.g1,b.g2,b.h,a].getD i 0
def jI (b:aI) (a:Int) (root:Nat→Int) (z sa sb:Int):It:=kQ [.int b.gr.p,.int b.gr.q,.int b.gr.g,.int b.g1,.int b.g2,.int b.h,.int a,.dz 32 root,.int z,.int sa,.int sb]
def eA (b:aI) (a:Int) (root:Nat→Int) (z sa sb:Int):Int:=cE (jm "specie/coin".toUTF8 (jI b a root z sa sb)) b.gr.q 16
theorem Ht {os:List (Option Ob)} {b:aI} {a:Int} {mu:Bool}:aJ os ⟨1,7,mu,.bc [[.int .i64 b.gr.p],[.int .i64 b.gr.q],[.int .i64 b.gr.g],[.int .i64 b.g1],[.int .i64 b.g2],[.int .i64 b.h],[.int .i64 a]]⟩ ⟨1,7,mu,.fn fun i _=>.int .i64 (cC b a i)⟩:=pI fun i j hi hj=>by
 obtain rfl:j=0:=by omega
 match i,hi with
 | 0,_|1,_|2,_|3,_|4,_|5,_|6,_=>rfl
def Af (x0 x1 x2 x3:Int) (i:Nat):Int:=[x0,x1,x2,x3].getD i 0
theorem MH {p:Int→Bool} {x0 x1 x2 x3:Int}:allI (fun i=>p (Af x0 x1 x2 x3 i)) 4=(p x0&&(p x1&&p x2&&p x3)):=by
 unfold allI
 show (p x0&&(p x1&&(p x2&&(p x3&&true))))=_
 grind
def dS (G:bN) (z sa sb:Int):Bool:=aO G z&&aO G sa&&aO G sb
def lZ (b:aI) (a z sa sb:Int):Int:=bif aT b then (bif aO b.gr a&&dS b.gr z sa sb then 0 else 2) else 1
end Go.Sp

namespace Go.Sp
open Go.IntKind (wrap)
open Int (toNat)
open Go Go.Am
def qO (b:aI) (a:Int) (root:Nat→Int) (z sa sb:Int):List It:=[.int b.gr.p,.int b.gr.q,.int b.gr.g,.int b.g1,.int b.g2,.int b.h,.int a,.dz 32 root,.int z,.int sa,.int sb]
theorem o7 {os:List (Option Ob)} {L:List It} {n:Nat} {F:Nat→Nat→AV} (hn:n=L.length) (h:∀ i k,i<n→k<4→ay os (F i k) (aQ (L.getD i (.int 0)).cells k)) :
  ay os (.agg [.int .i64 3,.int .i64 0,.bn,.aH 4 n F]) (kQ L).av:=by
 subst hn
 exact ay.agg ⟨ay.refl _,ay.refl _,ay.bn,ay.BD (fun i j hi hj=>⟨h i j hi hj,It.HP _ j hj⟩),trivial⟩
theorem mY {os:List (Option Ob)} (n:Nat) {f g:Nat→Int} (h:∀ i,i<n→f i=g i):cV os [.int .i64 2,.int .i64 0,.aH 1 n fun i _=>.int .u8 (f i),.bn] (It.dz n g).cells :=
 ⟨ay.refl _,ay.refl _,ay.aH fun i _ hi _=>congrArg (AV.int .u8) (h i hi),ay.bn,trivial⟩
theorem Hq {os:List (Option Ob)} {b:aI} {a z sa sb:Int} {root:Nat→Int} {x:Nat} (hx:x=7) {i k:Nat} (hi:i<x+4) :
  ay os (dh (Nat.blt (i+0) x) (aQ (It.int (cC b a (i+0))).cells k)
   (aQ (List.getD [[AV.int IntKind.i64 (2:Int),AV.int IntKind.i64 (0:Int),AV.aH 1 32 fun (r _:Nat)=>AV.int IntKind.u8 (aE (aQ (bf root) (0+(0+r)))),AV.bn],(It.int z).cells,(It.int sa).cells,(It.int sb).cells] (i+0 - x) []) k))
   (aQ ((qO b a root z sa sb).getD i (.int 0)).cells k):=by
 subst hx
 match i,hi with
 | 0,_|1,_|2,_|3,_|4,_|5,_|6,_=>exact ay.of_eq (jg _ _)
 | 7,_ =>
  show ay os (dh false _ _) _
  rw [gN]
  refine ay.aQ (mY 32 fun i hi=>?_) k
  simp_all [Nat.zero_add,eV]
 | 8,_|9,_|10,_=>exact ay.of_eq (gN _ _)
theorem C0 {os:List (Option Ob)} {b:aI} {a z sa sb:Int} {root:Nat→Int} {x y:Nat} (hx:x=6) (hy:y=32) {i k:Nat} (hi:i<x+5) :
  ay os (dh (Nat.blt (i+0) x) (aQ (It.int (cC b 0 (i+0))).cells k)
   (aQ (List.getD [(It.int a).cells,[AV.int IntKind.i64 (2:Int),AV.int IntKind.i64 (0:Int),AV.aH 1 y fun (r _:Nat)=>AV.int IntKind.u8 (root (r+0)),AV.bn],(It.int z).cells,(It.int sa).cells,(It.int sb).cells] (i+0 - x) []) k))
   (aQ ((qO b a root z sa sb).getD i (.int 0)).cells k):=by
 subst hx;subst hy
 match i,hi with
 | 0,_|1,_|2,_|3,_|4,_|5,_=>exact ay.of_eq (jg _ _)
 | 7,_ =>
  show ay os (dh false _ _) _
  rw [gN]
  exact ay.aQ (mY 32 fun i hi=>rfl) k
 | 6,_|8,_|9,_|10,_=>exact ay.of_eq (gN _ _)
theorem AH {os:List (Option Ob)} {y y':Nat} {root c:Nat→Int} (hy:y'=y+1) (h:c 0=root y) :
  aJ os ⟨1,y+1,true,.fn fun i j=>.int .u8 (bif Nat.blt i y then root i else c j)⟩ ⟨1,y',true,.fn fun i _=>.int .u8 (root i)⟩:=by
 subst hy
 refine ⟨rfl,rfl,rfl,fun i j hi hj=>ay.of_eq ?_⟩
 have hi:i<y+1:=hi
 obtain rfl:j=0:=Nat.lt_one_iff.1 hj
 show AV.int .u8 (bif Nat.blt i y then root i else c 0)=.int .u8 (root i)
 by_cases e:i<y
 ·grind [cD]
 grind
theorem Em {root:Nat→Int} {y:Nat} (hy:y<32):aE (aQ [AV.int .u8 (aE (aQ (bf root) (0+toNat (y:Int))))] 0)=root y:=by
 show aE (aQ (bf root) (0+toNat (y:Int)))=_
 simp_all [Nat.zero_add,Int.toNat_natCast,eV]
theorem F7 (b:aI) (a z sa sb:Int) (root:Nat→Int):(jI b a root z sa sb).pB 8=true:=by rfl
theorem mo (b:aI) (a z sa sb:Int) (root:Nat→Int):(jI b a root z sa sb).enc.length=132:=by rfl
theorem uF {b:aI} {a z sa sb:Int} {root:Nat→Int} (h:cS root 32):(jI b a root z sa sb).okB:=fun i hi=>by
 have hi:i<11:=hi
 match i,hi with
 | 0,_|1,_|2,_|3,_|4,_|5,_|6,_|8,_|9,_|10,_=>exact trivial
 | 7,_=>exact h
def iM (b:aI) (a:Int) (root:Nat→Int) (z sa sb:Int):Int:=bif lZ b a z sa sb==0 then eA b a root z sa sb else 0
def ql (b:aI) (a:Int) (root:Nat→Int) (z sa sb:Int):AV:=.aX [.int .i64 (iM b a root z sa sb),.int .i64 (lZ b a z sa sb)]
theorem Eb {b:aI} {a z sa sb:Int} (h:aT b=false):lZ b a z sa sb=1:=by grind [lZ]
theorem wF {b:aI} {a z sa sb:Int} (h:aT b=true) (h':aO b.gr a=false∨dS b.gr z sa sb=false):lZ b a z sa sb=2:=by grind [aO,dS,lZ]
theorem DC {b:aI} {a z sa sb:Int} (h:aT b=true) (h':aO b.gr a=true∧dS b.gr z sa sb=true):lZ b a z sa sb=0:=by grind [lZ]
theorem EX {b:aI} {a z sa sb:Int} (h:lZ b a z sa sb=0):aT b=true∧aO b.gr a=true∧dS b.gr z sa sb=true:=by
 cases hv:aT b with
 | false=>grind [Eb]
 | true =>
  cases ha:aO b.gr a with
  | false=>grind [wF]
  | true =>
   cases hs:dS b.gr z sa sb with
   | false=>rw [wF hv (.inr hs)] at h;cases h
   | true=>exact ⟨rfl,rfl,rfl⟩
theorem xI {b:aI} {a z sa sb:Int} {root:Nat→Int} (e:lZ b a z sa sb=0):iM b a root z sa sb=eA b a root z sa sb:=by grind [iM]
theorem Np {b:aI} {a z sa sb:Int} {root:Nat→Int} (h:aT b=false):AV.aX [.int .i64 0,.int .i64 1]=ql b a root z sa sb:=by grind [ql,iM,Eb]
theorem L4 {b:aI} {a z sa sb:Int} {root:Nat→Int} (h:aT b=true) (h':aO b.gr a=false∨dS b.gr z sa sb=false):AV.aX [.int .i64 0,.int .i64 2]=ql b a root z sa sb:=by grind [ql,iM,wF]
theorem Mu {b:aI} {a z sa sb:Int} {root:Nat→Int} (h:aT b=true) (h':aO b.gr a=true∧dS b.gr z sa sb=true):AV.aX [.int .i64 (eA b a root z sa sb),.int .i64 0]=ql b a root z sa sb:=by grind [ql,iM,DC]
theorem IZ {b:aI} {a z sa sb:Int} {root:Nat→Int} (h:b.gr.Ok):0≤eA b a root z sa sb∧eA b a root z sa sb<b.gr.q:=oY (by have:=h.q3;omega) 16
end Go.Sp
namespace Go.Sp
open Go Go.Am
def bL (G:bN) (x:Int):Bool:=decide (x≥0)&&decide (x<G.q)
def D0 (b:aI) (h a z sa sb r c:Int):Bool :=
 (b.gr.g^r.toNat%b.gr.p==h^c.toNat%b.gr.p*sa%b.gr.p)&&(a^r.toNat%b.gr.p==z^c.toNat%b.gr.p*sb%b.gr.p)
def kj (b:aI) (h h1 h2 a:Int) (root:Nat→Int) (z sa sb r:Int):Bool :=
 df b h h1 h2&&bV b.gr a&&dS b.gr z sa sb&&bL b.gr r&&(eA b a root z sa sb != 0&&D0 b h a z sa sb r (eA b a root z sa sb))
theorem wE {G:bN} {x:Int} (h:bV G x=true):aO G x=true:=by simp_all [bV,Bool.and_eq_true]
theorem oG {G:bN} (hG:G.Ok) {x:Int} (h:bV G x=true):0≤x∧x<G.p:=by have:=fT hG (wE h);omega
theorem cd {G:bN} (hG:G.Ok) {x:Int} (h:aO G x=true):0≤x∧x<G.p:=by have:=fT hG h;omega
theorem jG {b:aI} {h0 k1 k2:Int} (h:df b h0 k1 k2=true):aT b=true∧bV b.gr h0=true:=by simp_all [df,Bool.and_eq_true]
theorem rJ {G:bN} {z sa sb:Int} (h:dS G z sa sb=true):aO G z=true∧aO G sa=true∧aO G sb=true:=by simp_all [dS,Bool.and_eq_true]
structure uc (b : aI) (h0 a z sa sb r c : Int) : Prop where
  ok : b.gr.Ok
  g : 0 ≤ b.gr.g ∧ b.gr.g < b.gr.p
  h : 0 ≤ h0 ∧ h0 < b.gr.p
  a : 0 ≤ a ∧ a < b.gr.p
  z : 0 ≤ z ∧ z < b.gr.p
  sa : 0 ≤ sa ∧ sa < b.gr.p
  sb : 0 ≤ sb ∧ sb < b.gr.p
  r : 0 ≤ r ∧ r < b.gr.q
  c : 0 ≤ c ∧ c < b.gr.q
theorem BK {b:aI} {h0 k1 k2 a z sa sb r:Int} (root:Nat→Int) (hk:df b h0 k1 k2=true) (hm:bV b.gr a=true) (he:dS b.gr z sa sb=true) (hr:0≤r∧r<b.gr.q):uc b h0 a z sa sb r (eA b a root z sa sb):=by
 have G:=iB (jG hk).1
 have h1:=G.g2
 exact ⟨G,⟨by omega,G.g1⟩,oG G (jG hk).2,oG G hm,cd G (rJ he).1,cd G (rJ he).2.1,cd G (rJ he).2.2,hr,IZ G⟩
theorem Ha {b:aI} {h0 k1 k2 a z sa sb r:Int} (root:Nat→Int) (hk:df b h0 k1 k2=true) (hm:bV b.gr a=true) (he:lZ b a z sa sb=0) (hr:0≤r∧r<b.gr.q):uc b h0 a z sa sb r (iM b a root z sa sb):=by
 rw [xI he]
 exact BK root hk hm (EX he).2.2 hr
theorem ow {b:aI} {h0 k1 k2 a z sa sb r:Int} {root:Nat→Int} (h:df b h0 k1 k2=false∨bV b.gr a=false∨dS b.gr z sa sb=false∨bL b.gr r=false):kj b h0 k1 k2 a root z sa sb r=false:=by grind [kj]
theorem LZ {b:aI} {h0 k1 k2 a z sa sb r:Int} {root:Nat→Int} (hk:df b h0 k1 k2=true) (hm:bV b.gr a=true) (hc:lZ b a z sa sb≠0∨iM b a root z sa sb=0):kj b h0 k1 k2 a root z sa sb r=false:=by
 cases he:dS b.gr z sa sb with
 | false=>grind [ow]
 | true =>
  have e:=DC (jG hk).1 ⟨wE hm,he⟩
  grind [absurd,xI,kj]
theorem Nc {b:aI} {h0 k1 k2 a z sa sb r:Int} {root:Nat→Int} (hk:df b h0 k1 k2=true) (hm:bV b.gr a=true) (hr:0≤r∧r<b.gr.q) (he:lZ b a z sa sb=0) (hc:iM b a root z sa sb≠0) :
  kj b h0 k1 k2 a root z sa sb r=D0 b h0 a z sa sb r (iM b a root z sa sb):=by
 rw [xI he] at hc ⊢
 unfold kj bL
 simp [hk,hm,(EX he).2.2,hr.1,hr.2,hc]
theorem NO {b:aI} {h0 k1 k2 a z sa sb r:Int} {root:Nat→Int} (hk:df b h0 k1 k2=true) (hm:bV b.gr a=true) (he:dS b.gr z sa sb=true) (hr:0≤r∧r<b.gr.q) :
  kj b h0 k1 k2 a root z sa sb r=(eA b a root z sa sb != 0&&D0 b h0 a z sa sb r (eA b a root z sa sb)):=by grind [kj,bL]
theorem bR {G:bN} (h:G.Ok) (x:Int):0≤x%G.p∧x%G.p<G.p:=by
 have h3:=h.p3
 exact ⟨Int.emod_nonneg _ (by omega),Int.emod_lt_of_pos _ (by omega)⟩
theorem IE {G:bN} {r:Int} (h:¬r≥0∨¬r<G.q):bL G r=false:=by grind [bL]
end Go.Sp

namespace Go.Sp
open Go.IntKind (wrap)
open Int (toNat)
open Go Go.Am
def eY (b:aI) (r:fZ) (c:bD):Bool :=
 dV b r&&c.jl==r.jl&&c.fK==r.fK&&c.gx==r.gx&&c.depth==r.depth&&kj b r.h r.h1 r.h2 c.a c.root c.z c.sa c.sb c.r
def AT (n:Int):Bool:=decide (aG (fun i=>n==(2^i:Nat)) 6 0≥0)
theorem LJ:∀ d:Fin 6,AT ((2^d.1:Nat):Int)=true:=by decide +kernel
theorem NL {d:Nat} (h:d≤5):AT ((2^d:Nat):Int)=true:=LJ ⟨d,by omega⟩
theorem yS {os:List (Option Ob)} {n m:Nat} {F:Nat→Nat→Int} (hn:m=n):ay os (.aH 32 m fun r k=>aQ (bf (F r)) k) (dD n F):=by
 subst hn
 exact ay.aH fun i j _ hj=>dv (es:=32) (g:=fun j=>AV.int .u8 (F i j)) hj
theorem BE {os:List (Option Ob)} {a b:AV} {v:AV} (h:ay os a b):ay os (.aX [a,v]) (.aX [b,v]):=ay.aX ⟨h,ay.refl _,trivial⟩
def ot (G:bN) (f e:Nat→Int):Nat→Int
 | 0=>1
 | x+1=>ot G f e x*(f x^(e x).toNat%G.p)%G.p
theorem DX {G:bN} (h:G.Ok):aO G 1=true:=(elem_iff h).2 ⟨Int.le_refl _,by have:=h.p3;omega,by rw [Int.one_pow];exact Int.emod_eq_of_lt (by decide) (by have:=h.p3;omega)⟩
theorem vc {G:bN} (h:G.Ok) {f e:Nat→Int} {n:Nat} (hf:∀ i,i<n→aO G (f i)=true):∀ x,x≤n→aO G (ot G f e x)=true
 | 0,_=>DX h
 | x+1,hx=>va h (vc h hf x (by omega)) (dJ h (hf x (by omega)) _)
def pr2 (G:bN) (a b x y:Int):Int:=a^x.toNat%G.p*(b^y.toNat%G.p)%G.p
def fJ (a b:Int) (i:Nat):Int:=[a,b].getD i 0
theorem N7 {G:bN} (h:G.Ok) {f e:Nat→Int}:ot G f e 2=pr2 G (f 0) (f 1) (e 0) (e 1):=by
 show (1*(f 0^(e 0).toNat%G.p)%G.p)*(f 1^(e 1).toNat%G.p)%G.p=_
 rw [Int.one_mul,Int.emod_eq_of_lt (bR h _).1 (bR h _).2]
 rfl
theorem xN {os:List (Option Ob)} {a b:Int}:ay os (.aH 1 2 fun r k=>aQ (List.getD [[.int .i64 a],[.int .i64 b]] r []) k) (.aH 1 2 fun i _=>.int .i64 (fJ a b i)):=ay.aH fun i j hi hj=>by
 obtain rfl:j=0:=Nat.lt_one_iff.1 hj
 match i,hi with|0,_|1,_=>rfl
def qJ (b:aI) (y r1 r2:Int):Bool:=bL b.gr r1&&bL b.gr r2&&(pr2 b.gr b.g1 b.g2 r1 r2==y)
theorem Lc {p:Nat→Bool} {n:Nat} (h:∀ i,i<n→p i=false):decide (aG p n 0≥0)=false:=by simp_all [gH,List.any_eq_false,Nat.zero_add,List.mem_range]
theorem Nk {p:Nat→Bool}:decide (aG p 2 0≥0)=(p 0||p 1):=by
 rw [gH]
 grind
theorem kh {G:bN} {r:Int}:bL G r=true↔0≤r∧r<G.q:=by simp [bL]
theorem He {G:bN} {a c:Int} (h:bL G a=true∧bL G c=true):∀ i,i<2→0≤fJ a c i∧fJ a c i<G.q:=fun i hi=>match i,hi with
 | 0,_=>kh.1 h.1
 | 1,_=>kh.1 h.2
def qu (b:aI) (r1 r2:Int):Int:=bif bL b.gr r1&&bL b.gr r2 then pr2 b.gr b.g1 b.g2 r1 r2 else 0
def sW (b:aI) (r1 r2:Int):Int:=bif bL b.gr r1&&bL b.gr r2 then 0 else 2
theorem vT {b:aI} {r1 r2:Int} (h:bL b.gr r1=false∨bL b.gr r2=false):qu b r1 r2=0∧sW b r1 r2=2:=by
 have e:(bL b.gr r1&&bL b.gr r2)=false:=by grind
 unfold qu sW;grind
theorem v9 {b:aI} {r1 r2:Int} (h:bL b.gr r1=true∧bL b.gr r2=true):qu b r1 r2=pr2 b.gr b.g1 b.g2 r1 r2∧sW b r1 r2=0:=by
 unfold qu sW;rw [h.1,h.2];exact ⟨rfl,rfl⟩
theorem Hc {b:aI} {y r1 r2:Int}:(sW b r1 r2==0&&qu b r1 r2==y)=qJ b y r1 r2:=by grind [qJ,bL,vT,v9]
theorem HI {G:bN} {e:Int}:(decide (e<0)||decide (e≥G.q)) = !bL G e:=by grind [bL]
def fq (b:aI) (a k x r1 r2:Int):Bool:=aO b.gr x&&qJ b (a^k.toNat%b.gr.p*x%b.gr.p) r1 r2
theorem GC {b:aI} {a k x r1 r2:Int} (h:(aO b.gr x=false∨bL b.gr r1=false)∨bL b.gr r2=false):fq b a k x r1 r2=false:=by grind [fq,qJ]
theorem Fx {b:aI} {a k x r1 r2:Int} (h:(aO b.gr x=true∧bL b.gr r1=true)∧bL b.gr r2=true):(b.g1^r1.toNat%b.gr.p*(b.g2^r2.toNat%b.gr.p)%b.gr.p==a^k.toNat%b.gr.p*x%b.gr.p)=fq b a k x r1 r2:=by
 unfold fq qJ;rw [h.1.1,h.1.2,h.2];rfl
def jN (s:au) (i:Nat):Int:=s.lf i 0
def I2 (s:au) (i:Nat):Bool := !decide (jN s i∈(List.range i).map (jN s))
def xy (b:aI) (s:au) (i:Nat):Bool:=fq b s.a (l7 b s) (s.lf i 0) (s.lf i 1) (s.lf i 2)&&I2 s i
def nA (s:au):Nat:=(s.depth - s.level).toNat
def dI (s:au):Nat→Int:=dP (fun i=>fS (jN s i)) (nA s) 0
def vl (b:aI) (r:fZ) (s:au):Bool:=eY b r s.di&&bU s.depth s.level s.index&&fM s.time s.number&&Nat.beq s.nl (2^nA s)&&s.kg==s.index
def kC (b:aI) (r:fZ) (s:au):Bool:=vl b r s&&allI (xy b s) s.nl&&((s.np:Int)==s.level&&hEq (bE (dI s) s.kg s.pf s.np) s.root)
theorem FR {os:List (Option Ob)} {n:Nat} {f:Nat→Int}:ay os (.aH 1 n fun i _=>.int .i64 (f i)) (il .i64 ((List.range n).map f)):=by
 show ay os _ (.aH 1 ((List.range n).map f).length _)
 rw [show ((List.range n).map f).length=n by simp]
 exact ay.aH fun i j hi _=>congrArg (AV.int .i64) (getD_map hi).symm
theorem qX {f:Nat→Int} {n:Nat} {v:Int}:v∈(List.range n).map f↔∃ j,j<n∧f j=v:=by simp
theorem wO {s:au} (h:bU s.depth s.level s.index=true):IntKind.wrap .i64 (1*2^min (toNat (IntKind.wrap .i64 (s.depth - s.level))) 64)=((2^nA s:Nat):Int)∧IntKind.wrap .i64 (s.depth - s.level)=s.depth - s.level∧nA s≤5:=by
 have k:=iK h
 grind [IntKind.wrap,wI,nA,shw]
theorem yE {b:aI} {r:fZ} {c:bD} (h:eY b r c=true):aT b=true∧aO b.gr c.a=true:=by simp_all [eY,dV,df,kj,Bool.and_eq_true,wE]
structure JB (b : aI) (r : fZ) (s : au) : Prop where
  hd : vl b r s = true
  v : aT b = true
  a : aO b.gr s.a = true
  n : bU s.depth s.level s.index = true
  l : s.nl = 2 ^ nA s
  d : nA s ≤ 5
  lv : 0 ≤ s.level ∧ s.level ≤ 5
  ix : 0 ≤ s.kg ∧ s.kg < 2 ^ s.level.toNat
  n32 : s.nl ≤ 32
  lb : AT s.nl = true
  q0 : 0 < b.gr.q
  q1 : b.gr.q < 2305843009213693952
  k : 0 ≤ l7 b s ∧ l7 b s < b.gr.q
  top : cS (dI s) 32
  p0 : 0 ≤ s.kg
  p1 : s.kg < 9223372036854775807
theorem pG (x:Int):cS (fS x) 32:=ja _ _ _
theorem DD {b:aI} {r:fZ} {s:au} (h:vl b r s=true):JB b r s:=by
 have h0:=h
 unfold vl at h
 simp only [Bool.and_eq_true,Nat.beq_eq,beq_iff_eq] at h
 obtain ⟨⟨⟨⟨h1,h2⟩,_⟩,h4⟩,h5⟩:=h
 have k:=iK h2
 have hd:nA s≤5:=(wO h2).2.2
 have hp:2^nA s≤32:=by have:=Gq (d:=nA s) (k:=0) hd;omega
 have hq:=fN (yE h1).1
 exact ⟨h0,(yE h1).1,(yE h1).2,h2,h4,hd,by omega,by omega,by omega,by grind [NL],hq.1,hq.2,M7 hq.1,
  wB (n:=2^nA s) (fun i _=>pG _) (nA s) 0 (by omega),by omega,by grind [p2]⟩
abbrev szW (s:au):Int:=IntKind.wrap .i64 (1*2^min (toNat (IntKind.wrap .i64 (s.depth - s.level))) 64)
theorem iL {b:aI} {r:fZ} {s:au} (h:(((eY b r s.di=true∧bU s.depth s.level s.index=true)∧fM s.time s.number=true)∧(s.nl:Int)=szW s)∧s.kg=s.index):JB b r s:=by grind [DD,wO,nA,Int.ofNat.inj,vl,Nat.beq_eq,Nat.beq]
theorem H7 {b:aI} {r:fZ} {s:au} (h:vl b r s=false):kC b r s=false:=by grind [kC]
theorem Ix {b:aI} {r:fZ} {s:au} (h:(((eY b r s.di=false∨bU s.depth s.level s.index=false)∨fM s.time s.number=false)∨¬(s.nl:Int)=szW s)∨¬s.kg=s.index):kC b r s=false:=by
 refine H7 ?_
 rcases h with (((h|h)|h)|h)|h
 ·grind [vl]
 ·grind [vl]
 ·grind [vl]
 ·cases hn:bU s.depth s.level s.index with
  | false=>grind [vl]
  | true =>
   have h:¬(s.nl:Int)=((2^nA s:Nat):Int):=fun e=>h (e.trans (wO hn).1.symm)
   have:Nat.beq s.nl (2^nA s)=false:=by
    rw [Bool.eq_false_iff,ne_eq,Nat.beq_eq]
    omega
   grind [vl]
 grind [vl]
theorem JY {b:aI} {s:au} {i:Nat} (h:xy b s i=true):aO b.gr (jN s i)=true:=by
 unfold xy fq at h;simp only [Bool.and_eq_true] at h;exact h.1.1
theorem w7 {b:aI} {s:au} {i:Nat} (h:fq b s.a (l7 b s) (s.lf i 0) (s.lf i 1) (s.lf i 2)=false∨s.lf i 0∈(List.range i).map fun i=>jN s (i+0)):xy b s i=false:=by grind [xy,I2,jN,List.range,decide_eq_true]
theorem xV {b:aI} {s:au} {i:Nat} (h:fq b s.a (l7 b s) (s.lf i 0) (s.lf i 1) (s.lf i 2)=true∧¬s.lf i 0∈(List.range i).map fun i=>jN s (i+0)):xy b s i=true:=by grind [xy,I2,jN,List.range,decide_eq_false]
theorem Dq {b:aI} {r:fZ} {s:au} {i:Nat} (hi:i<s.nl) (h:xy b s i=false):kC b r s=false:=by grind [kC,nj]
theorem HJ {b:aI} {r:fZ} {s:au} (hd:vl b r s=true) (h:∀ i,i<s.nl→xy b s i=true):kC b r s=((s.np:Int)==s.level&&hEq (bE (dI s) s.kg s.pf s.np) s.root):=by grind [kC,nE]
abbrev szR (s:au):Int:=IntKind.wrap .i64 (dm s.depth s.level s.index - dg s.depth s.level s.index)
theorem Lt {s:au} (h:bU s.depth s.level s.index=true):szR s=((2^nA s:Nat):Int):=by
 have k:=iK h
 have e:dm s.depth s.level s.index - dg s.depth s.level s.index=((2^nA s:Nat):Int):=by simp_all [dm,dg,Int.add_mul,Int.one_mul,Int.natCast_pow,nA]<;>omega
 have hp:2^nA s≤32:=by have:=Gq (d:=nA s) (k:=0) (wO h).2.2;omega
 unfold szR
 grind [nA,Nat,Int,Int.ofNat_le,Int.natCast_nonneg,wI]
theorem ON {b:aI} {r:fZ} {c:bD} (h:aT b=false):eY b r c=false:=by grind [eY,yE]
theorem IM {b:aI} {r:fZ} {s:au} (h:((aT b=false∨eY b r s.di=false)∨bU s.depth s.level s.index=false)∨fM s.time s.number=false):kC b r s=false:=by grind [H7,vl,ON]
theorem iN {b:aI} {r:fZ} {s:au} (h:((aT b=true∧eY b r s.di=true)∧bU s.depth s.level s.index=true)∧fM s.time s.number=true) (h':((s.nl:Int)=szR s∧s.kg=s.index)∧(s.np:Int)=s.level):JB b r s :=
 iL ⟨⟨⟨⟨h.1.1.2,h.1.2⟩,h.2⟩,h'.1.1.trans ((Lt h.1.2).trans (wO h.1.2).1.symm)⟩,h'.1.2⟩
theorem Nt {b:aI} {r:fZ} {s:au} (h:¬(s.np:Int)=s.level):kC b r s=false:=by grind [kC,Int]
theorem GO {b:aI} {r:fZ} {s:au} (h:((aT b=true∧eY b r s.di=true)∧bU s.depth s.level s.index=true)∧fM s.time s.number=true) (h':(¬(s.nl:Int)=szR s∨¬s.kg=s.index)∨¬(s.np:Int)=s.level):kC b r s=false:=by grind [Ix,wO,trans,Lt,Nt]
theorem LN {b:aI} {r:fZ} {s:au} (hd:vl b r s=true) (hn:(s.np:Int)=s.level) (h:∀ i,i<s.nl→xy b s i=true):kC b r s=hEq (bE (dI s) s.kg s.pf s.np) s.root:=by grind [HJ,Int]
theorem Md {b:aI} {s:au} {i:Nat} (h:fq b s.a (l7 b s) (s.lf i 0) (s.lf i 1) (s.lf i 2)=true) (hk:∀ j,j<i→¬jN s j=jN s i):xy b s i=true :=
 xV ⟨h,fun e=>by grind [qX,jN]⟩
theorem LS {b:aI} {s:au} {i:Nat} (h:fq b s.a (l7 b s) (s.lf i 0) (s.lf i 1) (s.lf i 2)=false):xy b s i=false:=w7 (.inl h)
theorem LP {b:aI} {s:au} {i j:Nat} (hj:j<i) (h:s.lf j 0=s.lf i 0):xy b s i=false:=w7 (.inr (qX.2 ⟨j,hj,h⟩))
theorem ne_next {f:Nat→Int} {v:Int} {i:Nat} (h:∀ j,j<i→¬f j=v) (hi:¬f i=v):∀ j,j<i+1→¬f j=v:=fun j hj=>by grind
abbrev rcl (n:Nat) (R:Nat→Nat→Int):AV:=.aH 11 n fun i j=>.int .i64 (R i j)
def cG (f:Nat→Int):fZ:=⟨f 0,f 1,f 2,f 3,f 4,f 5,f 6,f 7,f 8,f 9,f 10⟩
def pD (R:Nat→Nat→Int) (k e d:Int) (i:Nat):Bool:=R i 0==k&&R i 1==e&&R i 2==d
def jR (R:Nat→Nat→Int) (n:Nat) (k e d:Int):Int:=aG (pD R k e d) n 0
def ml (R:Nat→Nat→Int) (n:Nat) (s:au):Int:=jR R n s.jl s.fK s.gx
def l4 (R:Nat→Nat→Int) (n:Nat) (s:au):fZ:=bif decide (ml R n s≥0) then cG (R (ml R n s).toNat) else cG fun _=>0
def gk (b:aI) (R:Nat→Nat→Int) (n:Nat) (s:au):Bool:=decide (ml R n s≥0)&&kC b (l4 R n s) s
theorem De {R:Nat→Nat→Int} {n:Nat} {k e d:Int} (h:¬jR R n k e d<0):0≤jR R n k e d∧jR R n k e d<n:=by
 have:=iE (p:=pD R k e d) n 0
 grind [jR]
theorem Jw {R:Nat→Nat→Int} {n:Nat} {s:au} (h:ml R n s<0):l4 R n s=cG fun _=>0:=by grind [l4,decide_eq_false]
theorem Kx {R:Nat→Nat→Int} {n:Nat} {s:au} (h:¬ml R n s<0):l4 R n s=cG (R (ml R n s).toNat):=by grind [l4,decide_eq_true]
noncomputable def qL (b:aI) (s t:au) (leaf:Int):Int×Int :=
 if (cj b s t leaf).2=0 then (if (cj b s t leaf).1=0∨nQ b (cj b s t leaf).1=1 then (0,10) else (b.g1^(cj b s t leaf).1.toNat%b.gr.p,0)) else (0,(cj b s t leaf).2)
def vd2 (b:aI) (R:Nat→Nat→Int) (n:Nat) (s t:au):Bool:=gk b R n s&&gk b R n t
noncomputable def lC (b:aI) (R:Nat→Nat→Int) (n:Nat) (s t:au) (leaf:Int):Int:=bif vd2 b R n s t then (qL b s t leaf).1 else 0
noncomputable def p7 (b:aI) (R:Nat→Nat→Int) (n:Nat) (s t:au) (leaf:Int):Bool:=vd2 b R n s t&&(qL b s t leaf).2==0
theorem B7 {R:Nat→Nat→Int} {n:Nat} {s:au} (h:ml R n s<0):AV.aX [(cG fun _=>0).av,.bool false]=.aX [(l4 R n s).av,.bool (decide (ml R n s≥0))]:=by grind [Jw,decide_eq_false]
theorem BC {R:Nat→Nat→Int} {n:Nat} {s:au} (h:¬ml R n s<0):AV.aX [(cG (R (ml R n s).toNat)).av,.bool true]=.aX [(l4 R n s).av,.bool (decide (ml R n s≥0))]:=by grind [Kx,decide_eq_true]
theorem MG {R:Nat→Nat→Int} {k e d:Int} {i:Nat} (h:(R i 0=k∧R i 1=e)∧R i 2=d):pD R k e d i=true:=by grind [pD]
theorem LW {R:Nat→Nat→Int} {k e d:Int} {i:Nat} (h:(¬R i 0=k∨¬R i 1=e)∨¬R i 2=d):pD R k e d i=false:=by grind [pD]
theorem js {b:aI} {s t:au} {leaf:Int} (h:(cj b s t leaf).2=0):b.Ok∧0≤(cj b s t leaf).1∧(cj b s t leaf).1<b.gr.q:=by
 unfold cj at h ⊢
 split at h
 ·cases h
 rename_i h0
 have hv:aT b=true:=by grind
 have hq:=fN hv
 rw [if_neg h0]
 split at h
 ·cases h
 rename_i h1
 rw [if_neg h1]
 split at h
 ·cases h
 rename_i h2
 rw [if_neg h2]
 split at h
 ·cases h
 rename_i h3
 rw [if_neg h3]
 split at h
 ·cases h
 rename_i h4
 rw [if_neg h4]
 split at h
 ·cases h
 rename_i h5
 rw [if_neg h5]
 exact ⟨bH.1 hv,Int.emod_nonneg _ (by omega),Int.emod_lt_of_pos _ hq.1⟩
theorem Im {b:aI} {s t:au} {leaf:Int} (h:¬(cj b s t leaf).2=0):qL b s t leaf=(0,(cj b s t leaf).2):=if_neg h
theorem Ii {b:aI} {s t:au} {leaf:Int} (h:(cj b s t leaf).2=0) (h':(cj b s t leaf).1=0∨nQ b (cj b s t leaf).1=1):qL b s t leaf=(0,10):=by simp_all [qL]
theorem HO {b:aI} {s t:au} {leaf:Int} (h:(cj b s t leaf).2=0) (h':¬(cj b s t leaf).1=0∧¬nQ b (cj b s t leaf).1=1):qL b s t leaf=(b.g1^(cj b s t leaf).1.toNat%b.gr.p,0):=by simp_all [qL]
theorem wj {b:aI} {s t:au} {leaf:Int} {x:Int×Int} (h:qL b s t leaf=x):AV.aX [.int .i64 x.1,.int .i64 x.2]=.aX [.int .i64 (qL b s t leaf).1,.int .i64 (qL b s t leaf).2]:=by rw [h]
theorem J5 {b:aI} {r:fZ} {s:au} (h:vl b r s=true):dk s=true:=by
 have k:=DD h
 have hn:=k.n
 have h0:=h
 unfold vl at h
 simp only [Bool.and_eq_true] at h
 have hc:=h.1.1.2
 have hsp:=(Jo hn).1
 have hl:(s.nl:Int)=szR s:=by rw [Lt hn,k.l]
 simp_all [fM,Bool.and_eq_true,decide_eq_true_eq,dk,IntKind.wrap,dm,dg]
theorem L0 {b:aI} {R:Nat→Nat→Int} {n:Nat} {s:au} (h:gk b R n s=true):aT b=true∧dk s=true:=by
 unfold gk kC at h
 simp only [Bool.and_eq_true] at h
 have h:=h.2.1.1
 exact ⟨(DD h).v,J5 h⟩
theorem HS {b:aI} {R:Nat→Nat→Int} {n:Nat} {s t:au} {leaf:Int} (h:gk b R n s=false∨gk b R n t=false):AV.aX [.int .i64 0,.bool false]=.aX [.int .i64 (lC b R n s t leaf),.bool (p7 b R n s t leaf)]:=by grind [vd2,lC,p7]
theorem JE {b:aI} {R:Nat→Nat→Int} {n:Nat} {s t:au} {leaf:Int} (h:((aT b=false∨(dk s=false∨dk t=false))∨gk b R n s=false)∨gk b R n t=false):AV.aX [.int .i64 0,.bool false]=.aX [.int .i64 (lC b R n s t leaf),.bool (p7 b R n s t leaf)]:=by
 refine HS ?_
 cases hs:gk b R n s with
 | false=>simp
 | true =>
  cases ht:gk b R n t with
  | false=>simp
  | true =>
   grind [L0]
theorem Bn {b:aI} {R:Nat→Nat→Int} {n:Nat} {s t:au} {leaf:Int} (h:gk b R n s=true∧gk b R n t=true):AV.aX [.int .i64 (qL b s t leaf).1,.bool ((qL b s t leaf).2==0)]=.aX [.int .i64 (lC b R n s t leaf),.bool (p7 b R n s t leaf)]:=by grind [lC,p7,vd2]
theorem LD {b:aI} {R:Nat→Nat→Int} {n:Nat} {s t:au} (h:(((ml R n s≥0∧ml R n t≥0)∧kC b (l4 R n s) s=true)∧kC b (l4 R n t) t=true)):gk b R n s=true∧gk b R n t=true:=by
 unfold gk;rw [h.1.2,h.2,decide_eq_true h.1.1.1,decide_eq_true h.1.1.2];exact ⟨rfl,rfl⟩
theorem KT {b:aI} {R:Nat→Nat→Int} {n:Nat} {s t:au} {leaf:Int} (h:(((¬ml R n s≥0∨¬ml R n t≥0)∨kC b (l4 R n s) s=false)∨kC b (l4 R n t) t=false)):AV.aX [.int .i64 0,.bool false]=.aX [.int .i64 (lC b R n s t leaf),.bool (p7 b R n s t leaf)]:=by
 refine HS ?_
 unfold gk
 grind
theorem JS {b:aI} {R:Nat→Nat→Int} {n:Nat} {s t:au} {leaf:Int} {x:Int×Int} (h:gk b R n s=true∧gk b R n t=true) (e:qL b s t leaf=x):AV.aX [.int .i64 x.1,.bool (x.2==0)]=.aX [.int .i64 (lC b R n s t leaf),.bool (p7 b R n s t leaf)]:=by grind [Bn]
theorem OQ {b:aI} {R:Nat→Nat→Int} {n:Nat} {s t:au} {leaf:Int} (h:gk b R n s=true∧gk b R n t=true) (g:(¬(cj b s t leaf).2=0∨(cj b s t leaf).1=0)∨nQ b (cj b s t leaf).1=1):AV.aX [.int .i64 0,.bool false]=.aX [.int .i64 (lC b R n s t leaf),.bool (p7 b R n s t leaf)]:=by
 by_cases h0:(cj b s t leaf).2=0
 ·refine JS (x:=(0,10)) h (Ii h0 ?_)
  omega
 grind [JS,Im,cj]
theorem OA {b:aI} {R:Nat→Nat→Int} {n:Nat} {s t:au} {leaf:Int} (h:gk b R n s=true∧gk b R n t=true) (g:((cj b s t leaf).2=0∧¬(cj b s t leaf).1=0)∧¬nQ b (cj b s t leaf).1=1):AV.aX [.int .i64 (b.g1^(cj b s t leaf).1.toNat%b.gr.p),.bool true]=.aX [.int .i64 (lC b R n s t leaf),.bool (p7 b R n s t leaf)] :=
 JS (x:=(b.g1^(cj b s t leaf).1.toNat%b.gr.p,0)) h (HO g.1.1 ⟨g.1.2,g.2⟩)
theorem mO {b:aI} {s t:au} {leaf:Int} (h:(cj b s t leaf).2=0):0≤b.g1∧b.g1<b.gr.p∧0≤(cj b s t leaf).1∧(cj b s t leaf).1≤9223372036854775807∧b.gr.p<2305843009213693952:=by
 have k:=js h
 have e:=cd k.1.G k.1.e1
 have:=k.1.G.p1
 have:=k.1.G.qp
 omega
def er (b:aI) (x:Int):Bool:=decide (x≥1)&&decide (x<b.gr.q)
def OM (b:aI) (u:Int):Int:=qu b u 1
def lfJ (b:aI) (X:Nat→Nat→Int) (i:Nat):Int:=qu b (X i 0) (X i 1)
def Mt (b:aI) (X:Nat→Nat→Int) (i:Nat):Bool:=bL b.gr (X i 0)&&bL b.gr (X i 1)
def LL (b:aI) (X:Nat→Nat→Int) (i:Nat):Bool:=(List.range i).any fun j=>decide (lfJ b X i=lfJ b X j)
theorem Jl {b:aI} {x:Int} (h:er b x=true):bL b.gr x=true:=by grind [er,kh]
structure OT (b : aI) (u s : Int) (X : Nat → Nat → Int) (n : Nat) : Prop where
  v : aT b = true
  hu : er b u = true
  hs : er b s = true
  m : (OM b u != 1) = true
  l : AT n = true
  p : ∀ i, i < n → Mt b X i = true
  d : ∀ i, i < n → LL b X i = false
theorem j0 {b:aI} {x:Int} (h:er b x=true):0≤x∧x<b.gr.q:=kh.1 (Jl h)
theorem o5 (p:Nat→Bool) (n:Nat):anyI p n=(List.range n).any p:=by
 unfold anyI
 have key:∀ k i,decide (aG p k i≥0)=(List.range k).any fun j=>p (i+j):=by
  intro k
  induction k with
  | zero=>intro i;rfl
  | succ k ih =>
   intro i
   have e:aG p (k+1) i=if p i then (i:Int) else aG p k (i+1):=rfl
   rw [e,List.range_succ_eq_map,List.any_cons,List.any_map]
   cases hp:p i with
   | true=>simp [hp]
   | false =>
    simp only [Bool.false_eq_true,if_false,Nat.add_zero,hp,Bool.false_or]
    rw [ih]
    congr 1
    funext j
    show p (i+1+j)=p (i+(j+1))
    rw [Nat.add_right_comm,Nat.add_assoc]
 rw [key];simp
theorem CR {p:Nat→Bool} {n:Nat} (h:anyI p n=false):∀ i,i<n→p i=false:=by
 rw [o5] at h
 simpa using h
theorem Lq {p:Nat→Bool} {n:Nat} (h:anyI p n=true):∃ i,i<n∧p i=true:=by
 rw [o5] at h
 simpa using h
def eE (s:ByteArray):Bool:=decide (1≤s.size)&&decide (s.size≤24)&&(List.range s.size).all fun i=>decide (33≤gw s i)&&decide (gw s i≤126)
structure OJ (s : ByteArray) : Prop where
  lo : 1 ≤ s.size
  hi : s.size ≤ 24
  at' : ∀ i, i < s.size → 33 ≤ gw s i ∧ gw s i ≤ 126
theorem gC {s:ByteArray} (h:eE s=true):OJ s:=by
 simp only [eE,Bool.and_eq_true,decide_eq_true_eq,List.all_eq_true,List.mem_range] at h
 exact ⟨h.1.1,h.1.2,h.2⟩
def jM (c:Int):Bool:=decide (c<33)||decide (c>126)
theorem KM {s:ByteArray}:(decide ((s.size:Int)≥1)&&decide ((s.size:Int)≤24) && !anyI (fun i=>jM (gw s i)) s.size)=eE s:=by
 rw [o5]
 unfold eE
 have e1:decide ((s.size:Int)≥1)=decide (1≤s.size):=by congr 1;exact propext ⟨fun h=>by omega,fun h=>by omega⟩
 have e2:decide ((s.size:Int)≤24)=decide (s.size≤24):=by congr 1;exact propext ⟨fun h=>by omega,fun h=>by omega⟩
 rw [e1,e2,List.not_any_eq_all_not]
 congr 2
 funext i
 simp only [jM,Bool.not_or]
 congr 1<;>(rw [← decide_not];congr 1;exact propext ⟨fun h=>by omega,fun h=>by omega⟩)
theorem Bi {s:ByteArray} (h:(s.size:Int)<1∨(s.size:Int)>24):eE s=false:=by
 cases e:eE s with
 | false=>rfl
 | true=>have v:=gC e;have:=v.lo;have:=v.hi;omega
theorem IY {s:ByteArray} {i:Nat} (hi:i<s.size) (h:gw s i<33∨gw s i>126):eE s=false:=by
 cases e:eE s with
 | false=>rfl
 | true=>have:=(gC e).at' i hi;omega
theorem GR {s:ByteArray} (h:¬(s.size:Int)<1∧¬(s.size:Int)>24) (k:∀ i,i<s.size→33≤gw s i∧gw s i≤126):eE s=true:=by
 simp only [eE,Bool.and_eq_true,decide_eq_true_eq,List.all_eq_true,List.mem_range]
 exact ⟨⟨by omega,by omega⟩,k⟩
def nM (h:Nat→Int) (s:ByteArray) (L:List It):List It:=.dz 32 h::.dz s.size (gw s)::L
def fm (h:Nat→Int) (s:ByteArray) (L:List It):It:=kQ (nM h s L)
theorem Hm (h:Nat→Int) (s:ByteArray):(fm h s []).pB 8=true:=by
 simp [fm,nM,kQ,It.pB,List.range,List.range.loop,List.getD]
theorem mZ (h:Nat→Int) (s:ByteArray):(fm h s []).enc.length=47+s.size:=by
 show (It.lE 2 _ (0+1+1)).length=_
 repeat rw [It.fl,List.length_append]
 rw [It.iD]
 simp [gQ,jh,nM];omega
theorem yT (h:Nat→Int) (s:ByteArray) {x:It} (hx:x.pB 7=true):(fm h s [x]).pB 8=true:=by
 simp [fm,nM,kQ,It.pB,List.range,List.range.loop,List.getD,hx]
theorem kN (h:Nat→Int) (s:ByteArray) (x:It):(fm h s [x]).enc.length=47+s.size+x.enc.length:=by
 show (It.lE 3 _ (0+1+1+1)).length=_
 repeat rw [It.fl,List.length_append]
 rw [It.iD]
 simp [gQ,jh,nM];omega
theorem mU (s:ByteArray):cS (gw s) s.size:=fun i hi=>by
 unfold gw
 exact ⟨Int.natCast_nonneg _,by have:=(s.data.toList.getD i 0).toNat_lt;omega⟩
theorem vK {h:Nat→Int} {s:ByteArray} (hb:cS h 32):(fm h s []).okB:=fun i hi=>by
 have hi:i<2:=hi
 match i,hi with
 | 0,_=>exact hb
 | 1,_=>exact mU s
theorem uv {h:Nat→Int} {s:ByteArray} {x:It} (hb:cS h 32) (hx:x.okB):(fm h s [x]).okB:=fun i hi=>by
 have hi:i<3:=hi
 match i,hi with
 | 0,_=>exact hb
 | 1,_=>exact mU s
 | 2,_=>exact hx
theorem LX {h:Nat→Int} {bK:Int} {j:Nat} (hj:j<32):aE (aQ (bf h++[.int .i64 bK]) j)=h j:=by
 have e:aQ (bf h++[.int .i64 bK]) j=aQ (bf h) j:=by
  unfold aQ
  rw [List.getD_eq_getElem?_getD,List.getD_eq_getElem?_getD,List.getElem?_append_left (by simp [bf];omega)]
 rw [e];exact eV hj
def IS (h:Nat→Int) (bK:Int):List AV:=[.int .i64 2,.int .i64 0,.aH 1 32 fun r _=>.int .u8 (aE (aQ (bf h++[.int .i64 bK]) (0+(0+r)))),.bn]
def JG (s:ByteArray):List AV:=[.int .i64 2,.int .i64 0,.aH 1 s.size fun i _=>.int .u8 ((s.data.toList.getD i 0).toNat:Nat),.bn]
theorem A8 {os:List (Option Ob)} {h:Nat→Int} {bK:Int} (k:Nat):ay os (aQ (IS h bK) k) (aQ (It.dz 32 h).cells k) :=
 ay.aQ (mY 32 fun i hi=>by rw [Nat.zero_add,Nat.zero_add];exact LX hi) k
theorem CK {os:List (Option Ob)} {s:ByteArray} (k:Nat):ay os (aQ (JG s) k) (aQ (It.dz s.size (gw s)).cells k) :=
 ay.aQ (mY s.size fun i hi=>rfl) k
theorem A9 {os:List (Option Ob)} {h:Nat→Int} {bK:Int} {s:ByteArray} {L:List It} {i k:Nat} (hi:i<2):ay os (aQ (List.getD [IS h bK,JG s] (i+0) []) k) (aQ ((nM h s L).getD i (.int 0)).cells k) :=
 match i,hi with
 | 0,_=>A8 k
 | 1,_=>CK k
theorem DF {os:List (Option Ob)} {h:Nat→Int} {bK:Int} {s:ByteArray} {x:It} {y:List AV} (hx:∀ k,k<4→ay os (aQ y k) (aQ x.cells k)) {i k:Nat} (hi:i<3) (hk:k<4) :
  ay os (dh (Nat.blt (i+0) 2) (aQ (List.getD [IS h bK,JG s] (i+0) []) k) (aQ y k)) (aQ ((nM h s [x]).getD i (.int 0)).cells k) :=
 match i,hi with
 | 0,_=>by show ay os (dh true _ _) _;rw [jg];exact A8 k
 | 1,_=>by show ay os (dh true _ _) _;rw [jg];exact CK k
 | 2,_=>by show ay os (dh false _ _) _;rw [gN];exact hx k hk
def tA (s:ByteArray):Nat→Int:=et "specie/transcript".toUTF8 s.size (gw s)
def jL (h:Nat→Int) (s:ByteArray) (x:It):Nat→Int:=jm "specie/absorb".toUTF8 (fm h s [x])
def wX (h:Nat→Int) (s:ByteArray) (q:Int):Int:=cE (jm "specie/challenge".toUTF8 (fm h s [])) q 16
theorem yf (s:ByteArray):cS (tA s) 32:=fun i _=>pA _ _ i
theorem lB (h:Nat→Int) (s:ByteArray) (x:It):cS (jL h s x) 32:=ja _ _ _
structure Pf where
  na : Nat
  a : Nat → Int
  c : Int
  nz : Nat
  z : Nat → Int
def Pf.cells (p:Pf):List AV:=[.aH 1 p.na fun i _=>.int .i64 (p.a i),.int .i64 p.c,.aH 1 p.nz fun i _=>.int .i64 (p.z i)]
def pT (G:bN) (p:Pf):Bool:=Nat.beq p.na 1&&Nat.beq p.nz 1&&aO G (p.a 0)&&bL G p.c&&bL G (p.z 0)
def oy (G:bN) (b y:Int):Bool:=bo G&&bV G b&&aO G y
def ka (G:bN) (b y:Int) (p:Pf):Bool:=oy G b y&&pT G p&&(b^(p.z 0).toNat%G.p==p.a 0*(y^p.c.toNat%G.p)%G.p)
def xB (G:bN) (b y a:Int) (s:ByteArray):Int :=
 wX (jL (jL (jL (tA s) "group".toUTF8 (be [G.p,G.q,G.g])) "statement".toUTF8 (be [b,y])) "commitment".toUTF8 (be [a])) "challenge".toUTF8 G.q
def m5 (G:bN) (b y:Int) (s:ByteArray) (p:Pf):Bool:=ka G b y p&&xB G b y (p.a 0) s==p.c
structure db where
  a : Int
  b : Int
  sp : au
  leaf : Int
def db.cells (u:db):List AV:=[.int .i64 u.a,.int .i64 u.b]++u.sp.cells++[.int .i64 u.leaf]
def mT (n:Nat) (U:Nat→db):AV:=.aH 83 n fun i j=>aQ (U i).cells j
def oe (s:au) (i:Nat):Bool:=(List.range i).all fun k => !(s.lf k 0==s.lf i 0)
def gF (s:au):Bool:=decide (1≤s.nl)&&decide (s.nl≤32)&&decide (s.np≤20)&&(List.range s.nl).all (oe s)
theorem yq {s:au} (h:((s.nl:Int)<1∨(s.nl:Int)>32)∨(s.np:Int)>20):gF s=false:=by simp_all [gF,Bool.and_eq_true,decide_eq_true_eq]<;>omega
theorem xL {s:au} {i:Nat} (hi:i<s.nl) (h:oe s i=false):gF s=false:=by cases e:gF s<;>simp_all [gF,Bool.and_eq_true,List.all_eq_true,List.mem_range]
theorem DI {s:au} (h1:¬(s.nl:Int)<1) (h2:¬(s.nl:Int)>32) (h3:¬(s.np:Int)>20) (h:∀ i,i<s.nl→oe s i=true):gF s=true:=by grind [List.range,oe,List.all_eq_true,gF,decide_eq_true]
theorem LA {s:au} (h:gF s=true):1≤s.nl∧s.nl≤32∧s.np≤20:=by simp_all [gF,Bool.and_eq_true,decide_eq_true_eq]
theorem Kt {s:au} {i k:Nat} (hk:k<i) (h:s.lf k 0=s.lf i 0):oe s i=false:=by grind [oe,List.all_eq_true,Bool.not_eq_true',beq_eq_false_iff_ne,absurd]
theorem GJ {s:au} {i:Nat} (h:∀ k,k<i→s.lf k 0≠s.lf i 0):oe s i=true:=by grind [oe,List.all_eq_true,Bool.not_eq_true',beq_eq_false_iff_ne]
def tv (u:db):Bool:=gF u.sp&&decide (0≤u.leaf)&&decide (u.leaf<u.sp.nl)&&u.a==u.sp.a&&u.b==u.sp.lf u.leaf.toNat 0
def z3 (x y:db):Bool:=decide (x.a<y.a)||(x.a==y.a&&decide (x.b<y.b))
def ir (n:Nat) (U:Nat→db):Bool:=decide (n≤2000)&&(List.range n).all fun i=>tv (U i)&&(Nat.beq i 0||z3 (U (i - 1)) (U i))
theorem xM {n:Nat} {U:Nat→db} (h:(n:Int)>2000):ir n U=false:=by grind [ir,decide_eq_false]
theorem oS {n:Nat} {U:Nat→db} {i:Nat} (hi:i<n) (h:tv (U i)=false∨(i≠0∧z3 (U (i - 1)) (U i)=false)):ir n U=false:=by
 cases e:ir n U with
 | false=>rfl
 | true =>
  simp only [ir,Bool.and_eq_true,decide_eq_true_eq,List.all_eq_true,List.mem_range,Bool.or_eq_true] at e
  grind [absurd,Nat.eq_of_beq_eq_true]
theorem Et {n:Nat} {U:Nat→db} (hn:¬(n:Int)>2000) (h:∀ i,i<n→tv (U i)=true∧(i≠0→z3 (U (i - 1)) (U i)=true)):ir n U=true:=by
 simp only [ir,Bool.and_eq_true,decide_eq_true_eq,List.all_eq_true,List.mem_range,Bool.or_eq_true]
 refine ⟨by omega,fun i hi=>⟨(h i hi).1,?_⟩⟩
 by_cases e:i=0
 ·simp_all
 grind
theorem qs {u:db}:tv u=true↔gF u.sp=true∧0≤u.leaf∧u.leaf<u.sp.nl∧u.a=u.sp.a∧u.b=u.sp.lf u.leaf.toNat 0:=by
 simp [tv,and_assoc]
theorem yL {x y:db}:z3 x y=true↔x.a<y.a∨(x.a=y.a∧x.b<y.b):=by simp [z3]
structure cU where
  key : Int
  pf : Pf
  led : Int
  EK : Bool
  last : Int
def cU.cells (c:cU):List AV:=[.int .i64 c.key,.aH 1 c.pf.na fun i _=>.int .i64 (c.pf.a i),.int .i64 c.pf.c,.aH 1 c.pf.nz fun i _=>.int .i64 (c.pf.z i),.int .i64 c.led,.bool c.EK,.int .i64 c.last]
def wk (n:Nat) (C:Nat→cU):AV:=.aH 7 n fun i j=>aQ (C i).cells j
structure cH where
  s : au
  t : au
  leaf : Int
def cH.cells (g:cH):List AV:=g.s.cells++(g.t.cells++[.int .i64 g.leaf])
def nm (n:Nat) (G:Nat→cH):AV:=.aH 161 n fun i j=>aQ (G i).cells j
structure aS where
  num : Int
  bT : aI
  sec : Int
  nr : Nat
  R : Nat → Nat → Int
  ns : Nat
  X : Nat → Int
  nc : Nat
  C : Nat → cU
  nb : Nat
  B : Nat → Int
  ne : Nat
  E : Nat → Nat → Int
  nu : Nat
  U : Nat → db
  ni : Nat
  I : Nat → Nat → Int
  ng : Nat
  G : Nat → cH
  sC : Nat → Int
  bK : Int
  now : Int
def Ln (num:Int) (bT:aI) (sec:Int) (r x c b e u i g:AV) (sC:Nat→Int) (bK now:Int):List AV :=
 .int .i64 num::(bT.cells++([.int .i64 sec,r,x,c,b,e,u,i,g]++(bf sC++[.int .i64 bK,.int .i64 now])))
def jt (n:Nat) (X:Nat→Int):AV:=.aH 1 n fun i _=>.int .i64 (X i)
def lV (n:Nat) (E:Nat→Nat→Int):AV:=.aH 4 n fun i j=>.int .i64 (E i j)
def sD (n:Nat) (I:Nat→Nat→Int):AV:=.aH 21 n fun i j=>.int .i64 (I i j)
def aS.cells (k:aS):List AV:=Ln k.num k.bT k.sec (.aH 11 k.nr fun i j=>.int .i64 (k.R i j)) (jt k.ns k.X) (wk k.nc k.C) (jt k.nb k.B) (lV k.ne k.E) (mT k.nu k.U) (sD k.ni k.I) (nm k.ng k.G) k.sC k.bK k.now
def cu (b:aI) (x e:Int):Int:=x^e.toNat%b.gr.p
def fE (b:aI) (x y:Int):Int:=x*y%b.gr.p
def okK (b:aI) (x:Int) (r:Nat→Int):Bool:=er b x&&cu b b.gr.g x==r 5&&cu b b.g1 x==r 6&&cu b b.g2 x==r 7
def oJ (b:aI) (y:Int):Bool:=aT b&&bV b.gr y&&fE b y b.g2 != 1
def vI:ByteArray := "account".toUTF8
def kv (b:aI) (y:Int) (p:Pf):Bool:=oJ b y&&m5 b.gr b.g1 y vI p
def okR (k:aS) (i:Nat):Bool:=okK k.bT (k.X i) (k.R i)&&dV k.bT (cG (k.R i))&&k.R i 0==k.num&&jR k.R k.nr (k.R i 0) (k.R i 1) (k.R i 2)==(i:Int)
def eL (k:aS):Bool:=decide (k.nr≤100)&&Nat.beq k.ns k.nr&&(List.range k.nr).all (okR k)
def gW (k:aS) (y:Int):Int:=aG (fun i=>(k.C i).key==y) k.nc 0
def okC (k:aS) (i:Nat):Bool:=kv k.bT (k.C i).key (k.C i).pf&&gW k (k.C i).key==(i:Int)&&(k.C i).led==5+(i:Int)&&decide (0≤(k.C i).last)&&decide ((k.C i).last≤200)
def fX (k:aS):Bool:=decide (k.nc≤100)&&(List.range k.nc).all (okC k)
def qI (k:aS) (y n:Int):Int:=aG (fun i=>k.I i 2==y&&k.I i 1==n) k.ni 0
def kS (x y:Nat→Int):Bool:=(List.range 11).all fun j=>x j==y j
def ko (k:aS) (r:Nat→Int):Int:=aG (fun i=>kS (k.R i) r) k.nr 0
def kG (b:aI) (h h1 h2 m z a c2 c r:Int):Bool:=df b h h1 h2&&bV b.gr m&&dS b.gr z a c2&&er b c&&bL b.gr r&&cu b b.gr.g r==fE b (cu b h c) a&&cu b m r==fE b (cu b z c) c2
def gh (b:aI) (s:Nat→Int):Bool:=aT b&&dV b (cG fun j=>s (3+j))&&decide (0≤s 1)&&decide (s 1≤1073741824)&&bL b.gr (s 14)&&oJ b (s 2)&&s 15==fE b (s 2) b.g2&&aO b.gr (s 16)&&s 17==cu b b.gr.g (s 14)&&s 18==cu b (fE b (s 2) b.g2) (s 14) &&
 (bif s 0==1 then s 19==0&&s 20==0 else bif s 0==3 then kG b (s 8) (s 9) (s 10) (s 15) (s 16) (s 17) (s 18) (s 19) (s 20) else false)
def okI (k:aS) (i:Nat):Bool:=decide (0≤ko k fun j=>k.I i (3+j))&&gh k.bT (k.I i)&&decide (0≤gW k (k.I i 2))&&qI k (k.I i 2) (k.I i 1)==(i:Int)&&cu k.bT (k.I i 15) (k.X (ko k fun j=>k.I i (3+j)).toNat)==k.I i 16
def hZ (k:aS):Bool:=decide (k.ni≤200)&&(List.range k.ni).all (okI k)
noncomputable def ox (k:aS) (i:Nat):Bool:=p7 k.bT k.R k.nr (k.G i).s (k.G i).t (k.G i).leaf
def hdK (k:aS):Bool:=decide (0≤k.num)&&decide (k.num≤7)&&aT k.bT&&decide (0≤k.bK)&&decide (k.bK≤1099511627776)&&er k.bT k.sec&&decide (0≤k.now)&&decide (k.now≤1099511627776)
noncomputable def dK (k:aS):Bool:=hdK k&&eL k&&fX k&&fH k.nb k.B k.ne k.E&&Nat.beq k.nb (5+k.nc)&&ir k.nu k.U&&hZ k&&decide (k.ng≤200)&&(List.range k.ng).all (ox k)
end Go.Sp

namespace Go.Proofs.YtpefjkpdniiaoaaGreatDoor
open Go.IntKind (wrap)
open Int (toNat)
open Go Go.Am Go.Sp
set_option maxRecDepth 100000
theorem IQ (c:Int):Pure Tryz.prog aZ 335 [.int .u8 c] (.bool (jM c)):=by
 refine ar (own:=bq) Tryz.func335 (by kernel_rfl) mixed (by kernel_rfl)
  (.out (.bool (decide (c<33)||decide (c>126))) [] (.bool (jM c)) [])
  (by kernel_rfl) ?_
 exact aq (ay.of_eq rfl)
theorem J3 (n:Nat) (f:Nat→Int) (hn:n<9223372036854775808):Pure Tryz.prog aZ 349 [dC n f,.fn (.func 335) [] []] (.int .i64 (aG (fun i=>jM (f i)) n 0)):=by
 have hc:=fun i=>IQ (f i)
 refine ar (own:=bq) Tryz.func349 (by kernel_rfl) mixed (by kernel_rfl)
  (let y0:=(fun (x:{ x:Nat // x≤n∧(fun i=>aG (fun i=>jM (f i)) n 0=aG (fun i=>jM (f i)) (n - i) i) x })=>aY [0,1,7,8] [.aH 1 n fun i x=>Zb (f i),AV.fn (Fn.func (335:FuncId)) [] [],Zi n,Zi x.1] []);let y1:=(fun (x:{ x:Nat // x≤n∧(fun i=>aG (fun i=>jM (f i)) n 0=aG (fun i=>jM (f i)) (n - i) i) x })=>n - x.1);let y2:AV:=(Zi (aG (fun i=>jM (f i)) n 0));(.loop ({ x:Nat // x≤n∧(fun i=>aG (fun i=>jM (f i)) n 0=aG (fun i=>jM (f i)) (n - i) i) x }) y0 y1 (⟨0,⟨Nat.zero_le n,rfl⟩⟩) [0,1,7,8] [] [.aH 1 n fun i x=>Zb (f i),AV.fn (Fn.func (335:FuncId)) [] [],Zi n,Zi 0] [] (fun x0=>(.br (decide ((x0.1:Int)<(n:Int))) (.bj (0≤(x0.1:Int)∧(x0.1:Int)<(n:Int)) (.sc true 335 [Zb (f (toNat (x0.1:Int)))] (.bool (jM (f (toNat (x0.1:Int))))) (.br (jM (f (toNat (x0.1:Int)))) (.out (Zi x0.1) [] y2 []) (.again (bh 0 y0 y1 x0) [0,1,7,8] [] [.aH 1 n fun i x=>Zb (f i),AV.fn (Fn.func (335:FuncId)) [] [],Zi n,Zi (wrap .i64 ((x0.1:Int)+1))] [])))) (.out (Zi (-1)) [] y2 [])))))
  (by kernel_rfl) ?_
 refine aV (fun _ hs=>hs.le (⟨.refl _,.refl _,.refl _,.refl _,trivial⟩) (trivial)) (fun x0=>?_)
 try (have q0:=x0.2;dsimp only at q0)
 refine aL (fun h1=>?_) (fun h1=>?_)
 ·have g1:=af h1
  refine aD (by omega) ?_
  refine aM (hc (toNat (↑x0.1:Int))) ?_
  refine aL (fun h4=>?_) (fun h4=>?_)
  ·have g4:=aB h4
   try simp only [Int.toNat_natCast] at g4
   exact aq (ay.of_eq (congrArg _ (cr x0.2.2 (by omega) g4)))
  ·have g4:=aF h4
   try simp only [Int.toNat_natCast] at g4
   exact aN (⟨x0.1+1,by omega,bS x0.2.2 (by omega) g4⟩) (fun _ hs=>hs.le (⟨.refl _,.refl _,.refl _,aK (by omega),trivial⟩) (trivial)) (by dsimp only;omega)
 ·have g1:=aa h1
  exact aq (ay.of_eq (congrArg _ (bW x0.2.2 (by omega))))
theorem Jr (n:Nat) (f:Nat→Int) (hn:n<9223372036854775808):Pure Tryz.prog aZ 334 [dC n f,.fn (.func 335) [] []] (.bool (anyI (fun i=>jM (f i)) n)):=by
 have c1:=J3 n f hn
 refine ar (own:=bq) Tryz.func334 (by kernel_rfl) mixed (by kernel_rfl)
  (.sc true 349 [.aH 1 n fun i x=>Zb (f i),AV.fn (Fn.func (335:FuncId)) [] []] (Zi (aG (fun i=>jM (f i)) n 0)) (.out (.bool (decide (aG (fun i=>jM (f i)) n 0≥0))) [] (.bool (anyI (fun i=>jM (f i)) n)) []))
  (by kernel_rfl) ?_
 refine aM (c1) ?_
 exact aq (ay.refl _)
theorem wP (s:ByteArray) (hs:s.size≤1000):Pure Tryz.prog aZ 304 [.str s] (.bool (eE s)):=by
 have c1:=Jr s.size (gw s) (by omega)
 refine ar (own:=bq) Tryz.func304 (by kernel_rfl) mixed (by kernel_rfl)
  (.sc ((decide ((↑(ByteArray.size s):Int)≥1)&&decide ((↑(ByteArray.size s):Int)≤24))==true) 334 [.aH 1 (ByteArray.size s) fun i x=>Zb (↑(UInt8.toNat (List.getD (Array.toList (ByteArray.data s)) i (0:UInt8))):Int),AV.fn (Fn.func 335) [] []] (.bool (anyI (fun i=>jM (gw s i)) (ByteArray.size s))) (.out (.bool (decide ((↑(ByteArray.size s):Int)≥1)&&decide ((↑(ByteArray.size s):Int)≤24) && !anyI (fun i=>jM (gw s i)) (ByteArray.size s))) [] (.bool (eE s)) []))
  (by kernel_rfl) ?_
 refine aW (fun h0=>c1) ?_
 exact aq (ay.of_eq (congrArg AV.bool KM))
theorem vO (s:ByteArray) (hs:s.size≤1000):Pure Tryz.prog aZ 250 [.str s] (.bool (eE s)):=by
 refine ar (own:=bq) Tryz.func250 (by kernel_rfl) mixed (by kernel_rfl)
  (let y0:=(fun (x:{ x:Nat // x≤ByteArray.size s∧(fun (x:Nat)=>∀ (i:Nat),i<x→(33:Int)≤gw s i∧gw s i≤126) x })=>aY [0,4,3] [AV.str s,AV.str s,Zi x.1] []);let y1:=(fun (x:{ x:Nat // x≤ByteArray.size s∧(fun (x:Nat)=>∀ (i:Nat),i<x→(33:Int)≤gw s i∧gw s i≤126) x })=>ByteArray.size s - x.1);(.br (decide ((↑(ByteArray.size s):Int)<1)||decide ((↑(ByteArray.size s):Int)>24)) (.out (.bool false) [] (.bool (eE s)) []) (.loop ({ x:Nat // x≤ByteArray.size s∧(fun (x:Nat)=>∀ (i:Nat),i<x→(33:Int)≤gw s i∧gw s i≤126) x }) y0 y1 (⟨0,⟨Nat.zero_le (ByteArray.size s),fun (j:Nat) (hj:j<0)=>absurd hj (Nat.not_lt_zero j)⟩⟩) [0,4,3] [] [AV.str s,AV.str s,Zi 0] [] (fun x2=>(.br (decide ((x2.1:Int)<(↑(ByteArray.size s):Int))) (.bj (0≤(x2.1:Int)∧(x2.1:Int)<(↑(ByteArray.size s):Int)) (.bj ((decide ((↑(UInt8.toNat (List.getD (Array.toList (ByteArray.data s)) (toNat (x2.1:Int)) (0:UInt8))):Int)<33)==false)=true→0≤(x2.1:Int)∧(x2.1:Int)<(↑(ByteArray.size s):Int)) (.br (decide ((↑(UInt8.toNat (List.getD (Array.toList (ByteArray.data s)) (toNat (x2.1:Int)) (0:UInt8))):Int)<33)||decide ((↑(UInt8.toNat (List.getD (Array.toList (ByteArray.data s)) (toNat (x2.1:Int)) (0:UInt8))):Int)>126)) (.out (.bool false) [] (.bool (eE s)) []) (.again (bh 0 y0 y1 x2) [0,4,3] [] [AV.str s,AV.str s,Zi (wrap .i64 ((x2.1:Int)+1))] [])))) (.out (.bool true) [] (.bool (eE s)) []))))))
  (by kernel_rfl) ?_
 refine aL (fun h0=>?_) (fun h0=>?_)
 ·have g0:=(aA af af) h0
  exact aq (ay.of_eq (congrArg AV.bool (Bi g0).symm))
 ·have g0:=(aw aa aa) h0
  refine aV (fun _ hs=>hs.le (⟨.refl _,.refl _,.refl _,trivial⟩) (trivial)) (fun x2=>?_)
  try (have q2:=x2.2;dsimp only at q2)
  refine aL (fun h3=>?_) (fun h3=>?_)
  ·have g3:=af h3
   refine aD (by omega) ?_
   refine aD (fun hr=>by have hr:=(dd aa) hr;omega) ?_
   refine aL (fun h6=>?_) (fun h6=>?_)
   ·have g6:=(aA af af) h6
    try simp only [Int.toNat_natCast] at g6
    exact aq (ay.of_eq (congrArg AV.bool (IY (i:=x2.1) (by omega) g6).symm))
   ·have g6:=(aw aa aa) h6
    try simp only [Int.toNat_natCast] at g6
    exact aN (⟨x2.1+1,by omega,fun i hi=>by rcases Nat.lt_succ_iff_lt_or_eq.1 hi with hi|rfl;(· exact q2.2 i hi);(· have g7:¬gw s x2.1<33∧¬gw s x2.1>126:=g6;omega)⟩) (fun _ hs=>hs.le (⟨.refl _,.refl _,aK (by omega),trivial⟩) (trivial)) (by dsimp only;omega)
  ·have g3:=aa h3
   exact aq (ay.of_eq (congrArg AV.bool (GR g0 (fun i hi=>q2.2 i (by omega))).symm))
theorem Jt (s:ByteArray) (h:eE s=true):Pure Tryz.prog aZ 271 [.str s] (.aX [.agg (bf (tA s)++[.int .i64 0]),.int .i64 0]):=by
 have v:=gC h
 have v1:=v.hi
 have c1:=wP s (by omega)
 rw [h] at c1
 have c2:=gj "specie/transcript".toUTF8 (by decide) (by decide) (gw s) s.size (by omega) (mU s)
 refine ar (own:=bq) Tryz.func271 (by kernel_rfl) mixed (by kernel_rfl)
  (.sc true 304 [AV.str s] (.bool true) (.ff (.sc true 82 [AV.str { data := #[(115:UInt8),112,101,99,105,101,47,116,114,97,110,115,99,114,105,112,116] },.aH 1 (ByteArray.size s) fun i x=>Zb (↑(UInt8.toNat (List.getD (Array.toList (ByteArray.data s)) i (0:UInt8))):Int)] (.aX [.agg (bf (et (String.toUTF8 "specie/transcript") (ByteArray.size s) (gw s))),Zi 0]) (.out (.aX [.agg (bf (et (String.toUTF8 "specie/transcript") (ByteArray.size s) (gw s))++[Zi 0]),Zi 0]) [] (.aX [.agg (bf (tA s)++[Zi 0]),Zi 0]) []))))
  (by kernel_rfl) ?_
 refine aM (c1) ?_
 refine cz ?_
 refine aM (c2) ?_
 exact aq (ay.of_eq rfl)
theorem KA (s:ByteArray) (h:eE s=true):Pure Tryz.prog aZ 292 [.str s] (.agg (bf (tA s)++[.int .i64 0])):=by
 have v:=gC h
 have v1:=v.hi
 have c2:=fV "specie/transcript".toUTF8 (by decide) (gw s) s.size (by omega) (mU s)
 refine ar (own:=bq) Tryz.func292 (by kernel_rfl) mixed (by kernel_rfl)
  (.sc true 205 [AV.str { data := #[(115:UInt8),112,101,99,105,101,47,116,114,97,110,115,99,114,105,112,116] },.aH 1 (ByteArray.size s) fun i x=>Zb (↑(UInt8.toNat (List.getD (Array.toList (ByteArray.data s)) i (0:UInt8))):Int)] (.agg (bf (et (String.toUTF8 "specie/transcript") (ByteArray.size s) (gw s)))) (.out (.agg (bf (et (String.toUTF8 "specie/transcript") (ByteArray.size s) (gw s))++[Zi 0])) [] (.agg (bf (tA s)++[Zi 0])) []))
  (by kernel_rfl) ?_
 refine aM (c2) ?_
 exact aq (ay.of_eq rfl)
theorem DK (a m:Int) (h0:0≤a) (h1:a<m) (hm:m<2305843009213693952):Pure Tryz.prog aZ 246 [.int .i64 a,.int .i64 m] (.aX [.int .i64 (Int.gcd a m:Nat),.int .i64 (ya a m)]):=by
 refine ar (own:=bq) Tryz.func246 (by kernel_rfl) mixed (by kernel_rfl)
  (let y0:AV:=(.aX [Zi (↑(Int.gcd a m):Int),Zi (ya a m)]);(.loop ({ x:Int×Int×Int×Int // (fun (s:Int×Int×Int×Int)=>oB a m s) x }) (fun (x:{ x:Int×Int×Int×Int // (fun (s:Int×Int×Int×Int)=>oB a m s) x })=>aY [1,4,0,5,6] [Zi m,Zi (Prod.fst (x.1)),Zi (Prod.fst (Prod.snd (x.1))),Zi (Prod.fst (Prod.snd (Prod.snd (x.1)))),Zi (Prod.snd (Prod.snd (Prod.snd (x.1))))] []) (fun (x:{ x:Int×Int×Int×Int // (fun (s:Int×Int×Int×Int)=>oB a m s) x })=>(fun (s:Int×Int×Int×Int)=>toNat (Prod.fst (Prod.snd s))) (x.1)) (⟨(m,a,(0:Int),(1:Int)),oB.start h0 h1⟩) [1,4,0,5,6] [] [Zi m,Zi m,Zi a,Zi 0,Zi 1] [] (fun x0=>(.br ((Prod.snd (x0.1)).1 != 0) (.bj ((Prod.snd (x0.1)).1≠(0:Int)) (.again (bh 0 (fun (x:{ x:Int×Int×Int×Int // (fun (s:Int×Int×Int×Int)=>oB a m s) x })=>aY [1,4,0,5,6] [Zi m,Zi (Prod.fst (x.1)),Zi (Prod.fst (Prod.snd (x.1))),Zi (Prod.fst (Prod.snd (Prod.snd (x.1)))),Zi (Prod.snd (Prod.snd (Prod.snd (x.1))))] []) (fun (x:{ x:Int×Int×Int×Int // (fun (s:Int×Int×Int×Int)=>oB a m s) x })=>(fun (s:Int×Int×Int×Int)=>toNat (Prod.fst (Prod.snd s))) (x.1)) x0) [1,4,0,5,6] [] [Zi m,Zi (Prod.snd (x0.1)).1,Zi (wrap .i64 ((x0.1).1 - wrap .i64 (wrap .i64 (Int.tdiv (x0.1).1 (Prod.snd (x0.1)).1)*(Prod.snd (x0.1)).1))),Zi (Prod.snd (Prod.snd (x0.1))).2,Zi (wrap .i64 ((Prod.snd (Prod.snd (x0.1))).1 - wrap .i64 (wrap .i64 (Int.tdiv (x0.1).1 (Prod.snd (x0.1)).1)*(Prod.snd (Prod.snd (x0.1))).2)))] [])) (.br (decide ((Prod.snd (Prod.snd (x0.1))).1<0)) (.bj (m≠(0:Int)) (.out (.aX [Zi (x0.1).1,Zi (Int.tmod (wrap .i64 ((Prod.snd (Prod.snd (x0.1))).1+m)) m)]) [] y0 [])) (.bj (m≠(0:Int)) (.out (.aX [Zi (x0.1).1,Zi (Int.tmod (Prod.snd (Prod.snd (x0.1))).1 m)]) [] y0 [])))))))
  (by kernel_rfl) ?_
 refine aV (fun _ hs=>hs.le (⟨.refl _,.refl _,.refl _,.refl _,.refl _,trivial⟩) (trivial)) (fun x0=>?_)
 try (have q0:=x0.2;dsimp only at q0)
 have w:=fun h=>x0.2.1.w h hm
 refine aL (fun h1=>?_) (fun h1=>?_)
 ·have g1:=aU h1
  refine aD (by omega) ?_
  exact aN (⟨(x0.1.2.1,x0.1.1%x0.1.2.1,x0.1.2.2.2,x0.1.2.2.1 - x0.1.1 / x0.1.2.1*x0.1.2.2.2),oB.step x0.2 g1⟩) (fun _ hs=>hs.le (⟨.refl _,.refl _,ay.of_eq (congrArg _ (w g1).1),.refl _,ay.of_eq (congrArg _ (w g1).2.1),trivial⟩) (trivial)) (by have h:=w g1;show toNat (x0.1.1%x0.1.2.1)<toNat x0.1.2.1;omega)
 ·have g1:=aR h1
  refine aL (fun h4=>?_) (fun h4=>?_)
  ·have g4:=af h4
   refine aD (by omega) ?_
   exact aq (by have o:=oB.out x0.2 (by omega) hm;exact ay.aX ⟨ay.of_eq (congrArg _ o.1),ay.of_eq (congrArg _ (o.2.1 g4)),trivial⟩)
  ·have g4:=aa h4
   refine aD (by omega) ?_
   exact aq (by have o:=oB.out x0.2 (by omega) hm;exact ay.aX ⟨ay.of_eq (congrArg _ o.1),ay.of_eq (congrArg _ (o.2.2.1 (by omega))),trivial⟩)
theorem Ck (a:Int) (h0:0≤a) (h1:a<2305843009213693952):Pure Tryz.prog aZ 260 [.int .i64 a] (.int .u64 a):=by
 refine ar (own:=bq) Tryz.func260 (by kernel_rfl) mixed (by kernel_rfl)
  (.br (decide (a<0)) (.out (Zu (wrap .u64 (wrap .u64 (wrap .i64 ((0:Int) - wrap .i64 (a+1)))+1))) [] (Zu a) []) (.out (Zu (wrap .u64 a)) [] (Zu a) []))
  (by kernel_rfl) ?_
 refine aL (fun h0=>?_) (fun h0=>?_)
 ·have g0:=af h0
  exact aq ((by exfalso;omega))
 ·have g0:=aa h0
  exact aq (ay.of_eq (congrArg _ (dy (by omega) (by omega))))
theorem Ks (a b:Int) (h0:0≤a) (h1:a<2305843009213693952) (h2:0≤b) (h3:b<2305843009213693952):Pure Tryz.prog aZ 214 [.int .i64 a,.int .i64 b] (.int .i64 (Int.gcd a b:Nat)):=by
 refine ar (own:=bq) Tryz.func214 (by kernel_rfl) mixed (by kernel_rfl)
  (.sc true 260 [Zi a] (Zu a) (.sc true 260 [Zi b] (Zu b) (.loop ({ x:Int×Int // (fun (s:Int×Int)=>((0:Int)≤Prod.fst s∧Prod.fst s<2305843009213693952∧(0:Int)≤Prod.snd s∧Prod.snd s<2305843009213693952)∧Int.gcd (Prod.fst s) (Prod.snd s)=Int.gcd a b) x }) (fun (x:{ x:Int×Int // (fun (s:Int×Int)=>((0:Int)≤Prod.fst s∧Prod.fst s<2305843009213693952∧(0:Int)≤Prod.snd s∧Prod.snd s<2305843009213693952)∧Int.gcd (Prod.fst s) (Prod.snd s)=Int.gcd a b) x })=>aY [5,6] [Zu (Prod.fst (x.1)),Zu (Prod.snd (x.1))] []) (fun (x:{ x:Int×Int // (fun (s:Int×Int)=>((0:Int)≤Prod.fst s∧Prod.fst s<2305843009213693952∧(0:Int)≤Prod.snd s∧Prod.snd s<2305843009213693952)∧Int.gcd (Prod.fst s) (Prod.snd s)=Int.gcd a b) x })=>(fun (s:Int×Int)=>toNat (Prod.snd s)) (x.1)) (⟨(a,b),⟨⟨h0,⟨h1,⟨h2,h3⟩⟩⟩,rfl⟩⟩) [5,6] [] [Zu a,Zu b] [] (fun x2=>(.br (decide ((x2.1).2>0)) (.bj ((x2.1).2≠(0:Int)) (.again (bh 0 (fun (x:{ x:Int×Int // (fun (s:Int×Int)=>((0:Int)≤Prod.fst s∧Prod.fst s<2305843009213693952∧(0:Int)≤Prod.snd s∧Prod.snd s<2305843009213693952)∧Int.gcd (Prod.fst s) (Prod.snd s)=Int.gcd a b) x })=>aY [5,6] [Zu (Prod.fst (x.1)),Zu (Prod.snd (x.1))] []) (fun (x:{ x:Int×Int // (fun (s:Int×Int)=>((0:Int)≤Prod.fst s∧Prod.fst s<2305843009213693952∧(0:Int)≤Prod.snd s∧Prod.snd s<2305843009213693952)∧Int.gcd (Prod.fst s) (Prod.snd s)=Int.gcd a b) x })=>(fun (s:Int×Int)=>toNat (Prod.snd s)) (x.1)) x2) [5,6] [] [Zu (x2.1).2,Zu (Int.tmod (x2.1).1 (x2.1).2)] [])) (.br ((x2.1).1==9223372036854775808) (.out (Zi 0) [] (Zi (↑(Int.gcd a b):Int)) []) (.out (Zi (wrap .i64 (x2.1).1)) [] (Zi (↑(Int.gcd a b):Int)) [])))))))
  (by kernel_rfl) ?_
 refine aM (Ck (a) (by assumption) (by assumption)) ?_
 refine aM (Ck (b) (by assumption) (by assumption)) ?_
 refine aV (fun _ hs=>hs.le (⟨.refl _,.refl _,trivial⟩) (trivial)) (fun x2=>?_)
 try (have q2:=x2.2;dsimp only at q2)
 refine aL (fun h3=>?_) (fun h3=>?_)
 ·have g3:=af h3
  refine aD (by omega) ?_
  exact aN (⟨(x2.1.2,x2.1.1%x2.1.2),⟨⟨by omega,by omega,Int.emod_nonneg _ (by omega),Int.lt_trans (Int.emod_lt_of_pos _ (by omega)) (by omega:x2.1.2<2305843009213693952)⟩,(Bf _ _).trans q2.2⟩⟩) (fun _ hs=>hs.le (⟨.refl _,ay.of_eq (congrArg _ (bY (by omega))),trivial⟩) (trivial)) (by have:=Int.emod_lt_of_pos x2.1.1 (show 0<x2.1.2 by omega);have:=Int.emod_nonneg x2.1.1 (show x2.1.2≠0 by omega);show toNat (x2.1.1%x2.1.2)<toNat x2.1.2;omega)
 ·have g3:=aa h3
  refine aL (fun h6=>?_) (fun h6=>?_)
  ·have g6:=ai h6
   exact aq ((by exfalso;omega))
  ·have g6:=aj h6
   exact aq (ay.of_eq (congrArg _ (by rw [wI (by omega) (by omega)];exact DH (by omega) (by omega) q2.2)))
theorem Ki (a m:Int) (k0:0≤a) (k1:a<m) (hm:m<2305843009213693952):Pure Tryz.prog aZ 138 [.int .i64 a,.int .i64 m] (.aX [.int .i64 (gy a m),.bool (decide (Int.gcd a m=1))]):=by
 refine ar (own:=bq) Tryz.func138 (by kernel_rfl) mixed (by kernel_rfl)
  (let y0:AV:=(.aX [Zi (gy a m),.bool (decide (Int.gcd a m=1))]);(.sc true 214 [Zi a,Zi m] (Zi (↑(Int.gcd a m):Int)) (.br ((↑(Int.gcd a m):Int) != 1) (.out (.aX [Zi 0,.bool false]) [] y0 []) (.bj (m≠(0:Int)) (.loop ({ x:Int×Int×Int×Int // (fun (s:Int×Int×Int×Int)=>vX a m (Prod.fst s) (Prod.fst (Prod.snd s)) (Prod.fst (Prod.snd (Prod.snd s))) (Prod.snd (Prod.snd (Prod.snd s)))) x }) (fun (x:{ x:Int×Int×Int×Int // (fun (s:Int×Int×Int×Int)=>vX a m (Prod.fst s) (Prod.fst (Prod.snd s)) (Prod.fst (Prod.snd (Prod.snd s))) (Prod.snd (Prod.snd (Prod.snd s)))) x })=>aY [1,6,7,8,9] [Zi m,Zi (Prod.fst (x.1)),Zi (Prod.fst (Prod.snd (x.1))),Zi (Prod.fst (Prod.snd (Prod.snd (x.1)))),Zi (Prod.snd (Prod.snd (Prod.snd (x.1))))] []) (fun (x:{ x:Int×Int×Int×Int // (fun (s:Int×Int×Int×Int)=>vX a m (Prod.fst s) (Prod.fst (Prod.snd s)) (Prod.fst (Prod.snd (Prod.snd s))) (Prod.snd (Prod.snd (Prod.snd s)))) x })=>(fun (s:Int×Int×Int×Int)=>toNat (Prod.fst (Prod.snd s))) (x.1)) (⟨(a,m,(1:Int)%m,(0:Int)),vX.start k0 k1⟩) [1,6,7,8,9] [] [Zi m,Zi a,Zi m,Zi (Int.tmod (1:Int) m),Zi 0] [] (fun x4=>(.br ((Prod.snd (x4.1)).1 != 0) (.bj ((Prod.snd (x4.1)).1≠(0:Int)) (.sc true 215 [Zi (wrap .i64 (Int.tdiv (x4.1).1 (Prod.snd (x4.1)).1)),Zi m] (Zi (wrap .i64 (Int.tdiv (x4.1).1 (Prod.snd (x4.1)).1)%m)) (.sc true 139 [Zi (wrap .i64 (Int.tdiv (x4.1).1 (Prod.snd (x4.1)).1)%m),Zi (Prod.snd (Prod.snd (x4.1))).2,Zi m] (Zi (wrap .i64 (Int.tdiv (x4.1).1 (Prod.snd (x4.1)).1)%m*(Prod.snd (Prod.snd (x4.1))).2%m)) (.sc true 215 [Zi (wrap .i64 ((Prod.snd (Prod.snd (x4.1))).1 - wrap .i64 (Int.tdiv (x4.1).1 (Prod.snd (x4.1)).1)%m*(Prod.snd (Prod.snd (x4.1))).2%m)),Zi m] (Zi (wrap .i64 ((Prod.snd (Prod.snd (x4.1))).1 - wrap .i64 (Int.tdiv (x4.1).1 (Prod.snd (x4.1)).1)%m*(Prod.snd (Prod.snd (x4.1))).2%m)%m)) (.again (bh 0 (fun (x:{ x:Int×Int×Int×Int // (fun (s:Int×Int×Int×Int)=>vX a m (Prod.fst s) (Prod.fst (Prod.snd s)) (Prod.fst (Prod.snd (Prod.snd s))) (Prod.snd (Prod.snd (Prod.snd s)))) x })=>aY [1,6,7,8,9] [Zi m,Zi (Prod.fst (x.1)),Zi (Prod.fst (Prod.snd (x.1))),Zi (Prod.fst (Prod.snd (Prod.snd (x.1)))),Zi (Prod.snd (Prod.snd (Prod.snd (x.1))))] []) (fun (x:{ x:Int×Int×Int×Int // (fun (s:Int×Int×Int×Int)=>vX a m (Prod.fst s) (Prod.fst (Prod.snd s)) (Prod.fst (Prod.snd (Prod.snd s))) (Prod.snd (Prod.snd (Prod.snd s)))) x })=>(fun (s:Int×Int×Int×Int)=>toNat (Prod.fst (Prod.snd s))) (x.1)) x4) [1,6,7,8,9] [] [Zi m,Zi (Prod.snd (x4.1)).1,Zi (wrap .i64 ((x4.1).1 - wrap .i64 (wrap .i64 (Int.tdiv (x4.1).1 (Prod.snd (x4.1)).1)*(Prod.snd (x4.1)).1))),Zi (Prod.snd (Prod.snd (x4.1))).2,Zi (wrap .i64 ((Prod.snd (Prod.snd (x4.1))).1 - wrap .i64 (Int.tdiv (x4.1).1 (Prod.snd (x4.1)).1)%m*(Prod.snd (Prod.snd (x4.1))).2%m)%m)] []))))) (.out (.aX [Zi (Prod.snd (Prod.snd (x4.1))).1,.bool true]) [] y0 []))))))))
  (by kernel_rfl) ?_
 refine aM (Ks (a) (m) (by omega) (by omega) (by omega) (by omega)) ?_
 refine aL (fun h1=>?_) (fun h1=>?_)
 ·have g1:=aU h1
  exact aq (ay.of_eq (by rw [ri (by omega),decide_eq_false (by omega)]))
 ·have g1:=aR h1
  refine aD (by omega) ?_
  refine aV (fun _ hs=>hs.le (⟨.refl _,.refl _,.refl _,ay.of_eq (congrArg _ (bY (by decide))),.refl _,trivial⟩) (trivial)) (fun x4=>?_)
  try (have q4:=x4.2;dsimp only at q4)
  have w:=fun h=>x4.2.w h hm;have b5:=x4.2.x0;have b6:=x4.2.x1;have b7:=x4.2.y0;have b8:=x4.2.y1;have b1:=x4.2.u0;have b2:=x4.2.u1;have b3:=x4.2.v0;have b4:=x4.2.v1
  refine aL (fun h5=>?_) (fun h5=>?_)
  ·have g5:=aU h5
   refine aD (by omega) ?_
   refine aM (ly (wrap .i64 (Int.tdiv (x4.1).1 (Prod.snd (x4.1)).1)) (m) (by omega) (by omega)) ?_
   refine aM (iI (wrap .i64 (Int.tdiv (x4.1).1 (Prod.snd (x4.1)).1)%m) ((Prod.snd (Prod.snd (x4.1))).2) (m) (by (have h:=w g5;rw [h.1];omega)) (by (have h:=w g5;rw [h.1];omega)) (by omega) (by omega) (by omega)) ?_
   refine aM (ly (wrap .i64 ((Prod.snd (Prod.snd (x4.1))).1 - wrap .i64 (Int.tdiv (x4.1).1 (Prod.snd (x4.1)).1)%m*(Prod.snd (Prod.snd (x4.1))).2%m)) (m) (by omega) (by omega)) ?_
   exact aN (⟨(x4.1.2.1,x4.1.1%x4.1.2.1,x4.1.2.2.2,(x4.1.2.2.1 - x4.1.1 / x4.1.2.1%m*x4.1.2.2.2%m)%m),(x4.2.nxt g5).1⟩) (fun _ hs=>hs.le (⟨.refl _,.refl _,ay.of_eq (congrArg _ (w g5).2.1),.refl _,ay.of_eq (congrArg _ (by rw [(w g5).1,(w g5).2.2.2.2.2.2.2])),trivial⟩) (trivial)) (by have h:=w g5;show toNat (x4.1.1%x4.1.2.1)<toNat x4.1.2.1;omega)
  ·have g5:=aR h5
   exact aq (ay.aX ⟨ay.of_eq (congrArg _ (by have h:=q4;rw [show x4.1.2.1=0 by omega] at h;exact h.fin (by omega))),ay.of_eq (congrArg AV.bool (decide_eq_true (by omega)).symm),trivial⟩)
theorem JK (a m:Int) (k0:0≤a) (k1:a<m) (hm:m<2305843009213693952):Pure Tryz.prog aZ 183 [.int .i64 a,.int .i64 m] (.aX [.int .i64 (gy a m),.int .i64 (if Int.gcd a m=1 then 0 else 10)]):=by
 refine ar (own:=bq) Tryz.func183 (by kernel_rfl) mixed (by kernel_rfl)
  (let y0:AV:=(.aX [Zi (gy a m),Zi (if Int.gcd a m=1 then (0:Int) else (10:Int))]);(.sc true 219 [Zi a,Zi a,Zi m] (Zi (cA a a m)) (.br (cA a a m != 0) (.out (.aX [Zi 0,Zi (cA a a m)]) [] y0 []) (.sc true 246 [Zi a,Zi m] (.aX [Zi (↑(Int.gcd a m):Int),Zi (ya a m)]) (.br ((↑(Int.gcd a m):Int) != 1) (.out (.aX [Zi 0,Zi 10]) [] y0 []) (.out (.aX [Zi (ya a m),Zi 0]) [] y0 []))))))
  (by kernel_rfl) ?_
 refine aM (mg (a) (a) (m)) ?_
 refine aL (fun h1=>?_) (fun h1=>?_)
 ·have g1:=aU h1
  exact aq ((by exfalso;exact g1 (EC k0 k1 hm)))
 ·have g1:=aR h1
  refine aM (DK (a) (m) (by assumption) (by assumption) (by assumption)) ?_
  refine aL (fun h4=>?_) (fun h4=>?_)
  ·have g4:=aU h4
   exact aq (ay.of_eq (by rw [ri (by omega),if_neg (by omega)]))
  ·have g4:=aR h4
   exact aq (ay.of_eq (by rw [(Gm k0 k1).2 (by omega),if_pos (by omega)]))
theorem sj (s:au):Pure Tryz.prog aZ 99 [s.av] (.aX [.int .i64 (bif dk s then dg s.depth s.level s.index else 0),.int .i64 (bif dk s then dm s.depth s.level s.index else 0),.bool (dk s)]):=by
 refine ar (own:=bq) Tryz.func99 (by kernel_rfl) mixed (by kernel_rfl)
  (let y0:AV:=(.aX [Zi (bif dk s then dg (au.depth s) (au.level s) (au.index s) else (0:Int)),Zi (bif dk s then dm (au.depth s) (au.level s) (au.index s) else (0:Int)),.bool (dk s)]);(.sc true 169 [Zi s.4,.agg [Zi s.11,Zi s.12]] (.aX [Zi (dg s.4 s.11 s.12),Zi (dm s.4 s.11 s.12),Zi (gY s.4 s.11 s.12)]) (.br (gY s.4 s.11 s.12 != 0||(s.16:Int) != wrap .i64 (dm s.4 s.11 s.12 - dg s.4 s.11 s.12)||decide (s.14<0)||decide (s.14>1099511627776)||decide (s.15<0)||decide (s.15>1073741824)) (.out (.aX [Zi 0,Zi 0,.bool false]) [] y0 []) (.out (.aX [Zi (dg s.4 s.11 s.12),Zi (dm s.4 s.11 s.12),.bool true]) [] y0 []))))
  (by kernel_rfl) ?_
 refine aM (K7 (s.4) (s.11) (s.12)) ?_
 refine aL (fun h1=>?_) (fun h1=>?_)
 ·exact aq (ay.of_eq (by have e:dk s=false:=congrArg not h1;rw [e];rfl))
 ·exact aq (ay.of_eq (by have e:dk s=true:=congrArg not h1;rw [e];rfl))
theorem AE (s:au):Pure Tryz.prog aZ 98 [s.av] (.bool (!dk s)):=by
 refine ar (own:=bq) Tryz.func98 (by kernel_rfl) mixed (by kernel_rfl)
  (.sc true 99 [.agg (au.cells s)] (.aX [Zi (bif dk s then dg (au.depth s) (au.level s) (au.index s) else (0:Int)),Zi (bif dk s then dm (au.depth s) (au.level s) (au.index s) else (0:Int)),.bool (dk s)]) (.out (.bool !dk s) [] (.bool !dk s) []))
  (by kernel_rfl) ?_
 refine aM ((sj s)) ?_
 exact aq (ay.refl _)
theorem ER (S:Nat→au) (n:Nat) (hn:n<9223372036854775808):Pure Tryz.prog aZ 168 [.aH 80 n (fun i j=>aQ (S i).cells j),.fn (.func 98) [] []] (.int .i64 (aG (fun i => !dk (S i)) n 0)):=by
 refine ar (own:=bq) Tryz.func168 (by kernel_rfl) mixed (by kernel_rfl)
  (let y0:AV:=(Zi (aG (fun i => !dk (S i)) n 0));(.loop (Sp.Sub fun i=>aG (fun i => !dk (S i)) n 0=aG (fun i => !dk (S i)) (n - i) i) (fun (x:Sp.Sub fun i=>aG (fun i => !dk (S i)) n 0=aG (fun i => !dk (S i)) (n - i) i)=>aY [0,1,6,7,8] [.aH 80 n fun i j=>aQ (au.cells (S i)) j,AV.fn (Fn.func (98:FuncId)) [] [],.aH 80 n fun i j=>aQ (au.cells (S i)) j,Zi n,Zi x.1] []) (fun (i:Sp.Sub fun i=>aG (fun i => !dk (S i)) n 0=aG (fun i => !dk (S i)) (n - i) i)=>n - i.1) (⟨0,rfl⟩) [0,1,6,7,8] [] [.aH 80 n fun i j=>aQ (au.cells (S i)) j,AV.fn (Fn.func (98:FuncId)) [] [],.aH 80 n fun i j=>aQ (au.cells (S i)) j,Zi n,Zi 0] [] (fun x0=>(.br (decide ((x0.1:Int)<(n:Int))) (.bj (0≤(x0.1:Int)∧(x0.1:Int)<(n:Int)) (.sc true 98 [.agg (au.cells (S (toNat (↑(x0.1):Int))))] (.bool !dk (S (toNat (↑(x0.1):Int)))) (.br (!dk (S (toNat (x0.1:Int)))) (.out (Zi x0.1) [] y0 []) (.again (bh 0 (fun (x:Sp.Sub fun i=>aG (fun i => !dk (S i)) n 0=aG (fun i => !dk (S i)) (n - i) i)=>aY [0,1,6,7,8] [.aH 80 n fun i j=>aQ (au.cells (S i)) j,AV.fn (Fn.func (98:FuncId)) [] [],.aH 80 n fun i j=>aQ (au.cells (S i)) j,Zi n,Zi x.1] []) (fun (i:Sp.Sub fun i=>aG (fun i => !dk (S i)) n 0=aG (fun i => !dk (S i)) (n - i) i)=>n - i.1) x0) [0,1,6,7,8] [] [.aH 80 n fun i j=>aQ (au.cells (S i)) j,AV.fn (Fn.func (98:FuncId)) [] [],.aH 80 n fun i j=>aQ (au.cells (S i)) j,Zi n,Zi (wrap .i64 ((x0.1:Int)+1))] [])))) (.out (Zi (-1)) [] y0 [])))))
  (by kernel_rfl) ?_
 refine aV (fun _ hs=>hs.le (by repeat' (first|exact trivial|(first|exact ay.refl _|exact aK (by omega)|exact ay.nil rfl|exact ay.of_eq (congrArg (AV.ba _ _ _) (by first|omega|(dsimp only;omega)))|exact ay.of_eq (congrArg (AV.int _) (by first|omega|(dsimp only;omega))))|refine And.intro ?_ ?_)) (trivial)) (fun x0=>?_)
 try (have q0:=x0.2;dsimp only at q0)
 refine aL (fun h1=>?_) (fun h1=>?_)
 ·refine aD (by have:=of_decide_eq_true h1;omega) ?_
  refine aM ((AE (S (toNat (↑(x0.1):Int))))) ?_
  refine aL (fun h4=>?_) (fun h4=>?_)
  ·have g4:=(aC aF) h4
   try simp only [Int.toNat_natCast] at g4
   exact aq (ay.of_eq (congrArg _ (cr x0.2 (show x0.1<n by have:=of_decide_eq_true h1;omega) (by simpa using h4))))
  ·have g4:=(az aB) h4
   try simp only [Int.toNat_natCast] at g4
   exact aN (⟨x0.1+1,bS x0.2 (show x0.1<n by have:=of_decide_eq_true h1;omega) (by simpa using h4)⟩) (fun _ hs=>hs.le (⟨ay.refl _,ay.refl _,ay.refl _,ay.refl _,aK (by have:=of_decide_eq_true h1;omega),trivial⟩) (trivial)) (by have:=of_decide_eq_true h1;show n - (x0.1+1)<n - x0.1;omega)
 ·exact aq (ay.of_eq (congrArg _ (bW x0.2 (by have:=of_decide_eq_false h1;omega))))
theorem FP (l0 l1 l2 b:Int):Pure Tryz.prog aZ 245 [.agg [.int .i64 l0,.int .i64 l1,.int .i64 l2],.bJ 1 (aQ [.int .i64 b])] (.bool (l0==b)):=by
 refine ar (own:=bq) Tryz.func245 (by kernel_rfl) mixed (by kernel_rfl)
  (.out (.bool (l0==b)) [] (.bool (l0==b)) [])
  (by kernel_rfl) ?_
 exact aq (ay.refl _)
theorem Dc (f:Nat→Nat→Int) (n:Nat) (b:Int) (hn:n<9223372036854775808):Pure Tryz.prog aZ 227 [uQ n f,.fn (.func 245) [] [.bJ 1 (aQ [.int .i64 b])]] (.int .i64 (aG (fun i=>f i 0==b) n 0)):=by
 refine ar (own:=bq) Tryz.func227 (by kernel_rfl) mixed (by kernel_rfl)
  (let y0:List AV:=[AV.bJ 1 (aQ [Zi b])];let y1:AV:=(Zi (aG (fun i=>f i 0==b) n 0));(.loop (Sp.Sub fun i=>aG (fun i=>f i 0==b) n 0=aG (fun i=>f i 0==b) (n - i) i) (fun (x:Sp.Sub fun i=>aG (fun i=>f i 0==b) n 0=aG (fun i=>f i 0==b) (n - i) i)=>aY [0,1,6,7,8] [uQ n f,AV.fn (Fn.func (245:FuncId)) [] y0,uQ n f,Zi n,Zi x.1] []) (fun (i:Sp.Sub fun i=>aG (fun i=>f i 0==b) n 0=aG (fun i=>f i 0==b) (n - i) i)=>n - i.1) (⟨0,rfl⟩) [0,1,6,7,8] [] [.aH 3 n fun i j=>Zi (f i j),AV.fn (Fn.func (245:FuncId)) [] y0,.aH 3 n fun i j=>Zi (f i j),Zi n,Zi 0] [] (fun x0=>(.br (decide ((x0.1:Int)<(n:Int))) (.bj (0≤(x0.1:Int)∧(x0.1:Int)<(n:Int)) (.sc true 245 [.agg [Zi (f (toNat (x0.1:Int)) 0),Zi (f (toNat (x0.1:Int)) 1),Zi (f (toNat (x0.1:Int)) 2)],AV.bJ 1 (aQ [Zi b])] (.bool (f (toNat (x0.1:Int)) 0==b)) (.br (f (toNat (x0.1:Int)) 0==b) (.out (Zi x0.1) [] y1 []) (.again (bh 0 (fun (x:Sp.Sub fun i=>aG (fun i=>f i 0==b) n 0=aG (fun i=>f i 0==b) (n - i) i)=>aY [0,1,6,7,8] [uQ n f,AV.fn (Fn.func (245:FuncId)) [] y0,uQ n f,Zi n,Zi x.1] []) (fun (i:Sp.Sub fun i=>aG (fun i=>f i 0==b) n 0=aG (fun i=>f i 0==b) (n - i) i)=>n - i.1) x0) [0,1,6,7,8] [] [.aH 3 n fun i j=>Zi (f i j),AV.fn (Fn.func (245:FuncId)) [] y0,.aH 3 n fun i j=>Zi (f i j),Zi n,Zi (wrap .i64 ((x0.1:Int)+1))] [])))) (.out (Zi (-1)) [] y1 [])))))
  (by kernel_rfl) ?_
 refine aV (fun _ hs=>hs.le (by repeat' (first|exact trivial|(first|exact ay.refl _|exact aK (by omega)|exact ay.nil rfl|exact ay.of_eq (congrArg (AV.ba _ _ _) (by first|omega|(dsimp only;omega)))|exact ay.of_eq (congrArg (AV.int _) (by first|omega|(dsimp only;omega))))|refine And.intro ?_ ?_)) (trivial)) (fun x0=>?_)
 try (have q0:=x0.2;dsimp only at q0)
 refine aL (fun h1=>?_) (fun h1=>?_)
 ·refine aD (by have:=of_decide_eq_true h1;omega) ?_
  refine aM (FP (f (toNat (↑x0.1:Int)) (0)) (f (toNat (↑x0.1:Int)) (1)) (f (toNat (↑x0.1:Int)) (2)) (b)) ?_
  refine aL (fun h4=>?_) (fun h4=>?_)
  ·have g4:=ai h4
   try simp only [Int.toNat_natCast] at g4
   exact aq (ay.of_eq (congrArg _ (cr x0.2 (show x0.1<n by have:=of_decide_eq_true h1;omega) (by simpa using h4))))
  ·have g4:=aj h4
   try simp only [Int.toNat_natCast] at g4
   exact aN (⟨x0.1+1,bS x0.2 (show x0.1<n by have:=of_decide_eq_true h1;omega) (by simpa using h4)⟩) (fun _ hs=>hs.le (⟨ay.refl _,ay.refl _,ay.refl _,ay.refl _,aK (by have:=of_decide_eq_true h1;omega),trivial⟩) (trivial)) (by have:=of_decide_eq_true h1;show n - (x0.1+1)<n - x0.1;omega)
 ·exact aq (ay.of_eq (congrArg _ (bW x0.2 (by have:=of_decide_eq_false h1;omega))))
theorem B5 (s:au) (b:Int) (hn:s.nl<9223372036854775808):Pure Tryz.prog aZ 180 [s.av,.int .i64 b] (.int .i64 (aG (fun i=>s.lf i 0==b) s.nl 0)):=by
 refine ar (own:=bq) Tryz.func180 (by kernel_rfl) mixed (by kernel_rfl)
  (let y0:AV:=(Zi (aG (fun i=>s.17 i 0==b) s.16 0));(.sc true 227 [.aH 3 s.16 fun i j=>Zi (s.17 i j),AV.fn (Fn.func 245) [] [AV.bJ 1 fun k=>aQ [Zi b] k]] y0 (.out y0 [] (Zi (aG (fun i=>au.lf s i 0==b) (au.nl s) 0)) [])))
  (by kernel_rfl) ?_
 refine aM (Dc (s.17) (s.16) (b) (by assumption)) ?_
 exact aq (ay.refl _)
theorem vu (S:Nat→au) (n:Nat) (hn:n<9223372036854775808):Pure Tryz.prog aZ 97 [.aH 80 n (fun i j=>aQ (S i).cells j),.fn (.func 98) [] []] (.bool (decide (aG (fun i => !dk (S i)) n 0≥0))):=by
 refine ar (own:=bq) Tryz.func97 (by kernel_rfl) mixed (by kernel_rfl)
  (let y0:AV:=(.bool (decide (aG (fun i => !dk (S i)) n 0≥0)));(.sc true 168 [.aH 80 n fun i j=>aQ (au.cells (S i)) j,AV.fn (Fn.func (98:FuncId)) [] []] (Zi (aG (fun i => !dk (S i)) n 0)) (.out y0 [] y0 [])))
  (by kernel_rfl) ?_
 refine aM ((ER S n hn)) ?_
 exact aq (ay.refl _)
theorem BW (S:Nat→au) (n:Nat) (hn:n<9223372036854775808):Pure Tryz.prog aZ 47 [.aH 80 n (fun i j=>aQ (S i).cells j)] (.bool (!decide (aG (fun i => !dk (S i)) n 0≥0))):=by
 refine ar (own:=bq) Tryz.func47 (by kernel_rfl) mixed (by kernel_rfl)
  (let y0:AV:=(.bool !decide (aG (fun i => !dk (S i)) n 0≥0));(.sc true 97 [.aH 80 n fun i j=>aQ (au.cells (S i)) j,AV.fn (Fn.func 98) [] []] (.bool (decide (aG (fun i => !dk (S i)) n 0≥0))) (.out y0 [] y0 [])))
  (by kernel_rfl) ?_
 refine aM ((vu S n hn)) ?_
 exact aq (ay.refl _)
theorem qR (s:au):Pure Tryz.prog aZ 133 [s.av] (.bool (dk s)):=by
 refine ar (own:=bq) Tryz.func133 (by kernel_rfl) mixed (by kernel_rfl)
  (.sc ((decide (s.4<0)||decide (s.4>5))==false) 125 [Zi s.4,.agg [Zi s.11,Zi s.12]] (.bool (bU s.4 s.11 s.12)) (.sc ((decide (s.4<0)||decide (s.4>5) || !bU s.4 s.11 s.12)==false) 126 [.agg (bf s.13++[Zi s.14,Zi s.15])] (.bool (fM (je.time { bM:=au.bM s,time:=au.time s,number:=au.number s }) (je.number { bM:=au.bM s,time:=au.time s,number:=au.number s }))) (.br (decide (s.4<0)||decide (s.4>5) || !bU s.4 s.11 s.12 || !fM s.14 s.15) (.out (.bool false) [] (.bool (dk s)) []) (.sc true 127 [Zi s.4,.agg [Zi s.11,Zi s.12]] (.aX [Zi (dg s.4 s.11 s.12),Zi (dm s.4 s.11 s.12)]) (.out (.bool ((s.16:Int)==wrap .i64 (dm s.4 s.11 s.12 - dg s.4 s.11 s.12))) [] (.bool (dk s)) [])))))
  (by kernel_rfl) ?_
 refine aW (fun h0=>yA (s.4) (s.11) (s.12)) ?_
 refine aW (fun h1=>(BM { bM:=au.bM s,time:=au.time s,number:=au.number s })) ?_
 refine aL (fun h2=>?_) (fun h2=>?_)
 ·exact aq (ay.of_eq (by rw [Ji h2]))
 ·refine aM (sZ (s.4) (s.11) (s.12) ((xG h2).1)) ?_
  exact aq (ay.of_eq (congrArg _ (xG h2).2))
theorem CD (a b:au) (hn:a.nl≤1000) (hb:b.nl≤1000):Pure Tryz.prog aZ 179 [a.av,b.av] (il .i64 (cX a b)):=by
 refine ar (own:=bq) Tryz.func179 (by kernel_rfl) mixed (by kernel_rfl)
  (.br (a.5 != b.5) (.out (.bn) [] (il IntKind.i64 (cX a b)) []) (.sc true 99 [.agg (au.cells a)] (.aX [Zi (bif dk a then dg (au.depth a) (au.level a) (au.index a) else (0:Int)),Zi (bif dk a then dm (au.depth a) (au.level a) (au.index a) else (0:Int)),.bool (dk a)]) (.loop (Sp.Sub fun x=>x≤au.nl a) (fun (x:Sp.Sub fun x=>x≤au.nl a)=>aY [3,5,8,25,26,27] [.own 0 80 0 0 80,Zi (bG a),.ba 1 1 0 (List.length (bQ a b (x.1))),uQ (au.nl a) (au.lf a),Zi (↑(au.nl a):Int),Zi x.1] [some ⟨80,1,true,.bc [au.cells b]⟩,m6 IntKind.i64 (bQ a b (x.1))]) (fun (x:Sp.Sub fun x=>x≤au.nl a)=>au.nl a - x.1) (⟨0,Nat.zero_le (au.nl a)⟩) [3,5,8,25,26,27] [8,449] [.own 0 80 0 0 80,Zi (bif dk a then dg a.4 a.11 a.12 else (0:Int)),.bn,.aH 3 a.16 fun i j=>Zi (a.17 i j),Zi a.16,Zi 0] [some ⟨80,1,true,.bc [au.cells b]⟩,some ⟨1,0,true,.ty (999999999:TypeId) (.bc [])⟩] (fun x3=>(.br (decide ((x3.1:Int)<(a.16:Int))) (.bj (0≤(x3.1:Int)∧(x3.1:Int)<(a.16:Int)) (.sc true 180 [.agg (au.cells b),Zi (a.17 (toNat (x3.1:Int)) 0)] (Zi (aG (fun i=>au.lf b i 0==a.17 (toNat (x3.1:Int)) 0) (au.nl b) 0)) (.br (decide (aG (fun i=>b.17 i 0==a.17 (toNat (x3.1:Int)) 0) b.16 0≥0)) (.bj ((List.length (bQ a b (x3.1))+1)*8≤140737488355328) (.again (bh 0 (fun (x:Sp.Sub fun x=>x≤au.nl a)=>aY [3,5,8,25,26,27] [.own 0 80 0 0 80,Zi (bG a),.ba 1 1 0 (List.length (bQ a b (x.1))),uQ (au.nl a) (au.lf a),Zi (↑(au.nl a):Int),Zi x.1] [some ⟨80,1,true,.bc [au.cells b]⟩,m6 IntKind.i64 (bQ a b (x.1))]) (fun (x:Sp.Sub fun x=>x≤au.nl a)=>au.nl a - x.1) x3) [3,5,8,25,26,27] [0,138] [.own 0 80 0 0 80,Zi (bG a),.ba 1 1 0 (List.length (bQ a b (x3.1))+1),.aH 3 a.16 fun i j=>Zi (a.17 i j),Zi a.16,Zi (wrap .i64 ((x3.1:Int)+1))] [some ⟨80,1,true,.bc [au.cells b]⟩,some ⟨1,List.length (bQ a b (x3.1))+1,true,.fn fun i j=>Zi (bif Nat.blt i (List.length (bQ a b (x3.1))) then List.getD (bQ a b (x3.1)) i (0:Int) else aE (aQ [Zi (wrap .i64 (bG a+(↑(x3.1):Int)))] j))⟩])) (.again (bh 0 (fun (x:Sp.Sub fun x=>x≤au.nl a)=>aY [3,5,8,25,26,27] [.own 0 80 0 0 80,Zi (bG a),.ba 1 1 0 (List.length (bQ a b (x.1))),uQ (au.nl a) (au.lf a),Zi (↑(au.nl a):Int),Zi x.1] [some ⟨80,1,true,.bc [au.cells b]⟩,m6 IntKind.i64 (bQ a b (x.1))]) (fun (x:Sp.Sub fun x=>x≤au.nl a)=>au.nl a - x.1) x3) [3,5,8,25,26,27] [0,1] [.own 0 80 0 0 80,Zi (bG a),.ba 1 1 0 (List.length (bQ a b (x3.1))),.aH 3 a.16 fun i j=>Zi (a.17 i j),Zi a.16,Zi (wrap .i64 ((x3.1:Int)+1))] [some ⟨80,1,true,.bc [au.cells b]⟩,some ⟨1,List.length (bQ a b (x3.1)),true,.fn fun i j=>Zi (List.getD (bQ a b (x3.1)) i (0:Int))⟩])))) (.out (.aH 1 (List.length (bQ a b (x3.1))) fun r k=>Zi (List.getD (bQ a b (x3.1)) (r+0) (0:Int))) [] (il IntKind.i64 (cX a b)) []))))))
  (by kernel_rfl) ?_
 refine aL (fun h0=>?_) (fun h0=>?_)
 ·have g0:=aU h0
  exact aq (ay.Ot (uL h0))
 ·have g0:=aR h0
  refine aM ((sj a)) ?_
  refine aV (fun _ hs=>hs.le (by repeat' (first|exact trivial|(first|exact ay.refl _|exact aK (by omega)|exact ay.nil rfl|exact ay.of_eq (congrArg (AV.ba _ _ _) (by first|omega|(dsimp only;omega)))|exact ay.of_eq (congrArg (AV.int _) (by omega)))|refine And.intro ?_ ?_)) (by repeat' (first|exact trivial|(first|exact aJ.refl _|exact aJ.bx|exact aJ.zero|exact aJ.push rfl rfl|exact aJ.ct rfl|exact aJ.len (by omega)|exact aJ.row (by repeat' (first|exact trivial|(first|exact ay.refl _|exact aK (by omega)|exact ay.nil rfl|exact ay.of_eq (congrArg (AV.ba _ _ _) (by first|omega|(dsimp only;omega)))|exact ay.of_eq (congrArg (AV.int _) (by omega)))|refine And.intro ?_ ?_)))|refine And.intro ?_ ?_))) (fun x3=>?_)
  try (have q3:=x3.2;dsimp only at q3)
  refine aL (fun h4=>?_) (fun h4=>?_)
  ·have g4:=af h4
   refine aD (by omega) ?_
   refine aM ((B5 b) (a.17 (toNat (↑x3.1:Int)) (0)) (by omega)) ?_
   refine aL (fun h7=>?_) (fun h7=>?_)
   ·have g7:=af h7
    try simp only [Int.toNat_natCast] at g7
    refine aD (by have:=n7 a b x3.1;omega) ?_
    exact aN (⟨x3.1+1,by have:=of_decide_eq_true h4;omega⟩) (fun _ hs=>hs.le (⟨ay.refl _,ay.refl _,ay.of_eq (congrArg (AV.ba 1 1 0) (wv (x:=x3.1) h7)),ay.refl _,ay.refl _,aK (by omega),trivial⟩) (⟨.refl _,.Mz (Ao (x:=x3.1) (by omega) h7),trivial⟩)) (by (dsimp only;omega))
   ·have g7:=aa h7
    try simp only [Int.toNat_natCast] at g7
    exact aN (⟨x3.1+1,by have:=of_decide_eq_true h4;omega⟩) (fun _ hs=>hs.le (⟨ay.refl _,ay.refl _,ay.of_eq (congrArg (AV.ba 1 1 0) (we (x:=x3.1) h7)),ay.refl _,ay.refl _,aK (by omega),trivial⟩) (⟨.refl _,tO (x:=x3.1) h7,trivial⟩)) (by (dsimp only;omega))
  ·have g4:=aa h4
   exact aq (ay.ilL (wT h0 (by have:=of_decide_eq_false h4;omega)))
theorem rP (a b:au):Pure Tryz.prog aZ 47 [.aH 80 2 fun r k=>aQ (List.getD [a.cells,b.cells] r []) k] (.bool (dk a&&dk b)):=by
 refine Pure.tM (Pure.via (BW (fun i=>bif Nat.beq i 0 then a else b) 2 (by omega)) ?_) (ay.of_eq (congrArg _ (Ay a b)))
 exact ⟨ay.two (g:=fun i=>au.cells (bif Nat.beq i 0 then a else b)) rfl rfl,trivial⟩
theorem yd (b:aI) (c:bD) (l i:Int) (x:je) (hw:b.gr.W) (hr:cS c.root 32) (hp:cS x.bM 32):Pure Tryz.prog aZ 182 [b.av,c.av,.agg [.int .i64 l,.int .i64 i],x.av] (.aX [.int .i64 (jx b c l i x),.int .i64 (iS b c l i x)]):=by
 have hc:=fun h h'=>EH b c l i x hr hp h h'
 have hx:=qQ x
 have hv:=eF b hw
 refine ar (own:=bq) Tryz.func182 (by kernel_rfl) mixed (by kernel_rfl)
  (let y0:AV:=(.aX [Zi (jx b c l i x),Zi (iS b c l i x)]);(.sc true 31 [.agg (aI.cells b)] (.bool (aT b)) (.br (!aT b) (.out (.aX [Zi 0,Zi 1]) [] y0 []) (.sc true 171 [Zi c.4,.agg [Zi l,Zi i]] (.bool (bU c.4 l i)) (.sc ((!bU c.4 l i)==false) 172 [.agg (bf x.1++[Zi x.2,Zi x.3])] (.bool (fM (je.time x) (je.number x))) (.br (!bU c.4 l i || !fM x.2 x.3) (.out (.aX [Zi 0,Zi 2]) [] y0 []) (.sc true 173 [.agg (aI.cells b),.agg (bD.cells c),.agg [Zi l,Zi i],.agg (bf x.1++[Zi x.2,Zi x.3])] (Zi (dW (bN.q (aI.gr b)) c l i x)) (.out (.aX [Zi (dW (aI.gr b).2 c l i x),Zi 0]) [] y0 []))))))))
  (by kernel_rfl) ?_
 refine aM (hv) ?_
 refine aL (fun h1=>?_) (fun h1=>?_)
 ·have g1:=(aC aF) h1
  exact aq (ay.of_eq (by rw [(Di g1).1,(Di g1).2]))
 ·have g1:=(az aB) h1
  refine aM (wG (c.4) (l) (i)) ?_
  refine aW (fun h4=>hx) ?_
  refine aL (fun h5=>?_) (fun h5=>?_)
  ·have g5:=(aA (aC aF) (aC aF)) h5
   exact aq (ay.of_eq (by rw [(Ce g1 g5).1,(Ce g1 g5).2]))
  ·have g5:=(aw (az aB) (az aB)) h5
   refine aM (hc ((fN g1).1) ((fN g1).2)) ?_
   exact aq (ay.of_eq (by rw [(vY g1 g5).1,(vY g1 g5).2]))
theorem Da (l:List Int) (v:Int) (hn:l.length<9223372036854775808):Pure Tryz.prog aZ 240 [il .i64 l,.int .i64 v] (.int .i64 (aG (fun i=>l.getD i 0==v) l.length 0)):=by
 refine ar (own:=bq) Tryz.func240 (by kernel_rfl) mixed (by kernel_rfl)
  (let y0:=(fun (x:{ x:Nat // x≤List.length l∧(fun i=>aG (fun i=>List.getD l i (0:Int)==v) (List.length l) 0=aG (fun i=>List.getD l i (0:Int)==v) (List.length l - i) i) x })=>aY [0,1,7,8] [.aH 1 (List.length l) fun i x=>Zi (List.getD l i (0:Int)),Zi v,Zi (↑(List.length l):Int),Zi x.1] []);let y1:=(fun (x:{ x:Nat // x≤List.length l∧(fun i=>aG (fun i=>List.getD l i (0:Int)==v) (List.length l) 0=aG (fun i=>List.getD l i (0:Int)==v) (List.length l - i) i) x })=>List.length l - x.1);let y2:AV:=(Zi (aG (fun i=>List.getD l i (0:Int)==v) (List.length l) 0));(.loop ({ x:Nat // x≤List.length l∧(fun i=>aG (fun i=>List.getD l i (0:Int)==v) (List.length l) 0=aG (fun i=>List.getD l i (0:Int)==v) (List.length l - i) i) x }) y0 y1 (⟨0,⟨Nat.zero_le (List.length l),rfl⟩⟩) [0,1,7,8] [] [.aH 1 (List.length l) fun i x=>Zi (List.getD l i (0:Int)),Zi v,Zi (↑(List.length l):Int),Zi 0] [] (fun x0=>(.br (decide ((x0.1:Int)<(↑(List.length l):Int))) (.bj (0≤(x0.1:Int)∧(x0.1:Int)<(↑(List.length l):Int)) (.br (v==List.getD l (toNat (x0.1:Int)) (0:Int)) (.out (Zi x0.1) [] y2 []) (.again (bh 0 y0 y1 x0) [0,1,7,8] [] [.aH 1 (List.length l) fun i x=>Zi (List.getD l i (0:Int)),Zi v,Zi (↑(List.length l):Int),Zi (wrap .i64 ((x0.1:Int)+1))] []))) (.out (Zi (-1)) [] y2 [])))))
  (by kernel_rfl) ?_
 refine aV (fun _ hs=>hs.le (⟨.refl _,.refl _,.refl _,.refl _,trivial⟩) (trivial)) (fun x0=>?_)
 try (have q0:=x0.2;dsimp only at q0)
 refine aL (fun h1=>?_) (fun h1=>?_)
 ·have g1:=af h1
  refine aD (by omega) ?_
  refine aL (fun h3=>?_) (fun h3=>?_)
  ·have g3:=ai h3
   try simp only [Int.toNat_natCast] at g3
   exact aq (ay.of_eq (congrArg _ (cr x0.2.2 (by omega) (by simp only [beq_iff_eq];exact g3.symm))))
  ·have g3:=aj h3
   try simp only [Int.toNat_natCast] at g3
   exact aN (⟨x0.1+1,by omega,bS x0.2.2 (by omega) (by simp only [beq_eq_false_iff_ne];exact fun e=>g3 e.symm)⟩) (fun _ hs=>hs.le (⟨.refl _,.refl _,.refl _,aK (by omega),trivial⟩) (trivial)) (by dsimp only;omega)
 ·have g1:=aa h1
  exact aq (ay.of_eq (congrArg _ (bW x0.2.2 (by omega))))
theorem ov (l:List Int) (v:Int) (hn:l.length<9223372036854775808):Pure Tryz.prog aZ 175 [il .i64 l,.int .i64 v] (.bool (decide (v∈l))):=by
 refine ar (own:=bq) Tryz.func175 (by kernel_rfl) mixed (by kernel_rfl)
  (.sc true 240 [.aH 1 (List.length l) fun i x=>Zi (List.getD l i (0:Int)),Zi v] (Zi (aG (fun i=>List.getD l i (0:Int)==v) (List.length l) 0)) (.out (.bool (decide (aG (fun i=>List.getD l i (0:Int)==v) (List.length l) 0≥0))) [] (.bool (decide (v∈l))) []))
  (by kernel_rfl) ?_
 refine aM (Da (l) (v) (by assumption)) ?_
 exact aq (ay.of_eq (congrArg _ AF))
theorem zY (b:aI) (x:Int):Pure Tryz.prog aZ 181 [b.av,.int .i64 x] (.bool (gM b x)):=by
 refine ar (own:=bq) Tryz.func181 (by kernel_rfl) mixed (by kernel_rfl)
  (.out (.bool (decide (x≥0)&&decide (x<(aI.gr b).2))) [] (.bool (gM b x)) [])
  (by kernel_rfl) ?_
 exact aq (ay.refl _)
theorem vD (b:aI) (x:Int):Pure Tryz.prog aZ 136 [b.gr.av,.int .i64 x] (.bool (gM b x)):=by
 refine ar (own:=bq) Tryz.func136 (by kernel_rfl) mixed (by kernel_rfl)
  (.out (.bool (decide (x≥0)&&decide (x<(aI.gr b).2))) [] (.bool (gM b x)) [])
  (by kernel_rfl) ?_
 exact aq (ay.refl _)
theorem Hs (s:au):Pure Tryz.prog aZ 99 [s.av] (.aX [.int .i64 (bG s),.int .i64 (oq s),.bool (dk s)]):=sj s
theorem CP (b:aI) (s t:au) (leaf:Int) (hw:b.gr.W) (hs:s.nl≤1000) (ht:t.nl≤1000) (bs:s.By) (bt:t.By):Pure Tryz.prog aZ 102 [b.av,s.av,t.av,.int .i64 leaf] (.aX [.int .i64 (cj b s t leaf).1,.int .i64 (cj b s t leaf).2]):=by
 have c1:=eF b hw
 have c2:=rP s t
 have c3:=yd b s.di s.level s.index s.ju hw bs.root bs.bM
 have c4:=yd b t.di t.level t.index t.ju hw bt.root bt.bM
 have c5:=Hs s
 have c6:=CD s t hs ht
 have c7:=fun v h=>ov (cX s t) v h
 have c8:=B5 t
 have c9:=zY b
 have sl:=tZ s t
 have L:=fun h h'=>vU (s:=s) (leaf:=leaf) h h'
 have hq:=fun h=>fN (b:=b) h
 have k1:=fun h h'=>Dk (b:=b) (s:=s) h h'
 have k2:=fun h h'=>Dk (b:=b) (s:=t) h h'
 refine ar (own:=bq) Tryz.func102 (by kernel_rfl) mixed (by kernel_rfl)
  (let y0:Nat:=(toNat (wrap .i64 (leaf - bG s)));let y1:Nat:=(toNat (aG (fun i=>t.17 i 0==s.17 y0 0) t.16 0));let y2:AV:=(.aX [Zi (Prod.fst (cj b s t leaf)),Zi (Prod.snd (cj b s t leaf))]);(.sc true 31 [.agg (aI.cells b)] (.bool (aT b)) (.sc ((!aT b)==false) 47 [.aH 80 2 fun r k=>aQ (List.getD [au.cells s,au.cells t] (r+0) []) k] (.bool (dk s&&dk t)) (.br (!aT b || !(dk s&&dk t)) (.out (.aX [Zi 0,Zi 1]) [] y2 []) (.sc true 99 [.agg (au.cells s)] (.aX [Zi (bG s),Zi (oq s),.bool (dk s)]) (.br (decide (leaf<bG s)||decide (leaf≥oq s)) (.out (.aX [Zi 0,Zi 2]) [] y2 []) (.dc true 179 [.agg (au.cells s),.agg (au.cells t)] (il IntKind.i64 (cX s t)) (.sc true 175 [.aH 1 (List.length (cX s t)) fun i x=>Zi (List.getD (cX s t) i (0:Int)),Zi leaf] (.bool (decide (leaf∈cX s t))) (.br (!decide (leaf∈cX s t)) (.out (.aX [Zi 0,Zi 7]) [] y2 []) (.bj ((0:Int)≤wrap .i64 (leaf - bG s)∧wrap .i64 (leaf - bG s)<(s.16:Int)) (.sc true 180 [.agg (au.cells t),Zi (s.17 y0 0)] (Zi (aG (fun i=>au.lf t i 0==s.17 y0 0) (au.nl t) 0)) (.bj ((0:Int)≤aG (fun i=>t.17 i 0==s.17 y0 0) t.16 0∧aG (fun i=>t.17 i 0==s.17 y0 0) t.16 0<(t.16:Int)) (.sc true 181 [.agg (aI.cells b),Zi (s.17 y0 1)] (.bool (gM b (s.17 y0 1))) (.sc ((!gM b (s.17 y0 1))==false) 181 [.agg (aI.cells b),Zi (s.17 y0 2)] (.bool (gM b (s.17 y0 2))) (.sc ((!gM b (s.17 y0 1) || !gM b (s.17 y0 2))==false) 181 [.agg (aI.cells b),Zi (t.17 y1 1)] (.bool (gM b (t.17 y1 1))) (.sc ((!gM b (s.17 y0 1) || !gM b (s.17 y0 2) || !gM b (t.17 y1 1))==false) 181 [.agg (aI.cells b),Zi (t.17 y1 2)] (.bool (gM b (t.17 y1 2))) (.br (!gM b (s.17 y0 1) || !gM b (s.17 y0 2) || !gM b (t.17 y1 1) || !gM b (t.17 y1 2)) (.out (.aX [Zi 0,Zi 2]) [] y2 []) (.sc true 182 [.agg (aI.cells b),.agg (Zi s.1::Zi s.2::Zi s.3::Zi s.4::Zi s.5::(bf s.6++[Zi s.7,Zi s.8,Zi s.9,Zi s.10])),.agg [Zi s.11,Zi s.12],.agg (bf s.13++[Zi s.14,Zi s.15])] (.aX [Zi (jx b (au.di s) (au.level s) (au.index s) (au.ju s)),Zi (iS b (au.di s) (au.level s) (au.index s) (au.ju s))]) (.sc true 182 [.agg (aI.cells b),.agg (Zi t.1::Zi t.2::Zi t.3::Zi t.4::Zi t.5::(bf t.6++[Zi t.7,Zi t.8,Zi t.9,Zi t.10])),.agg [Zi t.11,Zi t.12],.agg (bf t.13++[Zi t.14,Zi t.15])] (.aX [Zi (jx b (au.di t) (au.level t) (au.index t) (au.ju t)),Zi (iS b (au.di t) (au.level t) (au.index t) (au.ju t))]) (.br (iS b (au.di s) s.11 s.12 (au.ju s) != 0) (.out (.aX [Zi 0,Zi (iS b (au.di s) s.11 s.12 (au.ju s))]) [] y2 []) (.br (iS b (au.di t) t.11 t.12 (au.ju t) != 0) (.out (.aX [Zi 0,Zi (iS b (au.di t) t.11 t.12 (au.ju t))]) [] y2 []) (.br (jx b (au.di s) s.11 s.12 (au.ju s)==jx b (au.di t) t.11 t.12 (au.ju t)) (.out (.aX [Zi 0,Zi 20]) [] y2 []) (.br (s.17 y0 2==t.17 y1 2) (.out (.aX [Zi 0,Zi 10]) [] y2 []) (.bj ((aI.gr b).2≠(0:Int)) (.sc true 183 [Zi (Int.tmod (wrap .i64 (wrap .i64 (s.17 y0 2 - t.17 y1 2)+(aI.gr b).2)) (aI.gr b).2),Zi (aI.gr b).2] (.aX [Zi (gy (Int.tmod (wrap .i64 (wrap .i64 (s.17 y0 2 - t.17 y1 2)+(aI.gr b).2)) (aI.gr b).2) (aI.gr b).2),Zi (if Int.gcd (Int.tmod (wrap .i64 (wrap .i64 (s.17 y0 2 - t.17 y1 2)+(aI.gr b).2)) (aI.gr b).2) (aI.gr b).2=1 then (0:Int) else (10:Int))]) (.bj ((aI.gr b).2≠(0:Int)) (.sc true 184 [Zi (Int.tmod (wrap .i64 (wrap .i64 (s.17 y0 1 - t.17 y1 1)+(aI.gr b).2)) (aI.gr b).2),Zi (gy (Int.tmod (wrap .i64 (wrap .i64 (s.17 y0 2 - t.17 y1 2)+(aI.gr b).2)) (aI.gr b).2) (aI.gr b).2),Zi (aI.gr b).2] (.aX [Zi (kd (cA (Int.tmod (wrap .i64 (wrap .i64 (s.17 y0 1 - t.17 y1 1)+(aI.gr b).2)) (aI.gr b).2) (gy (Int.tmod (wrap .i64 (wrap .i64 (s.17 y0 2 - t.17 y1 2)+(aI.gr b).2)) (aI.gr b).2) (aI.gr b).2) (aI.gr b).2) (Int.tmod (wrap .i64 (wrap .i64 (s.17 y0 1 - t.17 y1 1)+(aI.gr b).2)) (aI.gr b).2*gy (Int.tmod (wrap .i64 (wrap .i64 (s.17 y0 2 - t.17 y1 2)+(aI.gr b).2)) (aI.gr b).2) (aI.gr b).2%(aI.gr b).2)),Zi (cA (Int.tmod (wrap .i64 (wrap .i64 (s.17 y0 1 - t.17 y1 1)+(aI.gr b).2)) (aI.gr b).2) (gy (Int.tmod (wrap .i64 (wrap .i64 (s.17 y0 2 - t.17 y1 2)+(aI.gr b).2)) (aI.gr b).2) (aI.gr b).2) (aI.gr b).2)]) (.out (.aX [Zi (kd (cA (Int.tmod (wrap .i64 (wrap .i64 (s.17 y0 1 - t.17 y1 1)+(aI.gr b).2)) (aI.gr b).2) (gy (Int.tmod (wrap .i64 (wrap .i64 (s.17 y0 2 - t.17 y1 2)+(aI.gr b).2)) (aI.gr b).2) (aI.gr b).2) (aI.gr b).2) (Int.tmod (wrap .i64 (wrap .i64 (s.17 y0 1 - t.17 y1 1)+(aI.gr b).2)) (aI.gr b).2*gy (Int.tmod (wrap .i64 (wrap .i64 (s.17 y0 2 - t.17 y1 2)+(aI.gr b).2)) (aI.gr b).2) (aI.gr b).2%(aI.gr b).2)),Zi 0]) [] y2 []))))))))))))))))))))))))))))
  (by kernel_rfl) ?_
 refine aM (c1) ?_
 refine aW (fun h1=>c2) ?_
 refine aL (fun h2=>?_) (fun h2=>?_)
 ·have g2:=(aA (aC aF) (aC (ao aF aF))) h2
  exact aq (ay.of_eq (by rw [IA g2]))
 ·have g2:=(aw (az aB) (az (ah aB aB))) h2
  refine aM (c5) ?_
  refine aL (fun h5=>?_) (fun h5=>?_)
  ·have g5:=(aA af af) h5
   exact aq (ay.of_eq (by rw [HQ g2 g5]))
  ·have g5:=(aw aa aa) h5
   refine b9 (c6) ?_
   refine aM (c7 (leaf) (by omega)) ?_
   refine aL (fun h9=>?_) (fun h9=>?_)
   ·have g9:=(aC aa) h9
    exact aq (ay.of_eq (by rw [IC g2 (by omega) g9]))
   ·have g9:=(az af) h9
    refine aD (⟨(L g2.2.1 (by omega)).1,(L g2.2.1 (by omega)).2.1⟩) ?_
    refine aM (c8 (s.17 (toNat (wrap .i64 (leaf - bG s))) (0)) (by omega)) ?_
    refine aD (by have m:=zb ((fU g2.2.1 (by omega)).1 g9).2;rw [(L g2.2.1 (by omega)).2.2,m.2];omega) ?_
    refine aM (c9 (s.17 (toNat (wrap .i64 (leaf - bG s))) (1))) ?_
    refine aW (fun h15=>c9 (s.17 (toNat (wrap .i64 (leaf - bG s))) (2))) ?_
    refine aW (fun h16=>c9 (t.17 (toNat (aG (fun (i:Nat)=>t.17 i (0)==s.17 (toNat (wrap .i64 (leaf - bG s))) (0)) t.16 (0))) (1))) ?_
    refine aW (fun h17=>c9 (t.17 (toNat (aG (fun (i:Nat)=>t.17 i (0)==s.17 (toNat (wrap .i64 (leaf - bG s))) (0)) t.16 (0))) (2))) ?_
    refine aL (fun h18=>?_) (fun h18=>?_)
    ·have g18:=(aA (aA (aA (aC aF) (aC aF)) (aC aF)) (aC aF)) h18
     exact aq (by rw [(L g2.2.1 (by omega)).2.2] at g18;exact ay.of_eq (by rw [H0 g2 (by omega) g9 (or4 g18)]))
    ·have g18:=(aw (aw (aw (az aB) (az aB)) (az aB)) (az aB)) h18
     refine aM (c3) ?_
     refine aM (c4) ?_
     refine aL (fun h22=>?_) (fun h22=>?_)
     ·have g22:=aU h22
      exact aq ((by exfalso;exact g22 (k1 g2.1 g2.2.1).1))
     ·have g22:=aR h22
      refine aL (fun h24=>?_) (fun h24=>?_)
      ·have g24:=aU h24
       exact aq ((by exfalso;exact g24 (k2 g2.1 g2.2.2).1))
      ·have g24:=aR h24
       refine aL (fun h26=>?_) (fun h26=>?_)
       ·have g26:=ai h26
        exact aq (by rw [(L g2.2.1 (by omega)).2.2] at g18;rw [(k1 g2.1 g2.2.1).2,(k2 g2.1 g2.2.2).2] at g26;exact ay.of_eq (by rw [IB g2 (by omega) g9 (zZ g18) g26]))
       ·have g26:=aj h26
        refine aL (fun h28=>?_) (fun h28=>?_)
        ·have g28:=ai h28
         exact aq (by rw [(L g2.2.1 (by omega)).2.2] at g18 g28;rw [(k1 g2.1 g2.2.1).2,(k2 g2.1 g2.2.2).2] at g26;exact ay.of_eq (by rw [HX g2 (by omega) g9 (zZ g18) g26 g28]))
        ·have g28:=aj h28
         refine aD (by have:=hq g2.1;omega) ?_
         refine aM (JK (Int.tmod (wrap .i64 (wrap .i64 (s.17 (toNat (wrap .i64 (leaf - bG s))) (2) - t.17 (toNat (aG (fun (i:Nat)=>t.17 i (0)==s.17 (toNat (wrap .i64 (leaf - bG s))) (0)) t.16 (0))) (2))+(aI.gr b).2)) (aI.gr b).2) ((aI.gr b).2) (by have u:=yr (gd g18.1.1.2) (gd g18.2) (hq g2.1).2;rw [u.1];exact u.2.1) (by have u:=yr (gd g18.1.1.2) (gd g18.2) (hq g2.1).2;rw [u.1];exact u.2.2) ((hq g2.1).2)) ?_
         refine aD (by have:=hq g2.1;omega) ?_
         refine aM (wm (Int.tmod (wrap .i64 (wrap .i64 (s.17 (toNat (wrap .i64 (leaf - bG s))) (1) - t.17 (toNat (aG (fun (i:Nat)=>t.17 i (0)==s.17 (toNat (wrap .i64 (leaf - bG s))) (0)) t.16 (0))) (1))+(aI.gr b).2)) (aI.gr b).2) (gy (Int.tmod (wrap .i64 (wrap .i64 (s.17 (toNat (wrap .i64 (leaf - bG s))) (2) - t.17 (toNat (aG (fun (i:Nat)=>t.17 i (0)==s.17 (toNat (wrap .i64 (leaf - bG s))) (0)) t.16 (0))) (2))+(aI.gr b).2)) (aI.gr b).2) (aI.gr b).2) ((aI.gr b).2)) ?_
         exact aq (by have u:=yr (gd g18.1.1.2) (gd g18.2) (hq g2.1).2;have v:=yr (gd g18.1.1.1) (gd g18.1.2) (hq g2.1).2;rw [u.1,v.1,jk (hq g2.1).1 (hq g2.1).2 v.2.1 v.2.2 (jT (hq g2.1).1).1 (jT (hq g2.1).1).2];rw [(L g2.2.1 (by omega)).2.2] at g18 g28 ⊢;rw [(k1 g2.1 g2.2.1).2,(k2 g2.1 g2.2.2).2] at g26;exact ay.of_eq (by rw [If g2 (by omega) g9 (zZ g18) g26 g28];rfl))
theorem xq (s:au) (h:dk s=true):Pure Tryz.prog aZ 134 [s.av] (.int .i64 (bG s)):=by
 have o:=lG h
 have c1:=sZ s.depth s.level s.index o.1
 refine ar (own:=bq) Tryz.func134 (by kernel_rfl) mixed (by kernel_rfl)
  (.sc true 127 [Zi s.4,.agg [Zi s.11,Zi s.12]] (.aX [Zi (dg (au.depth s) (au.level s) (au.index s)),Zi (dm (au.depth s) (au.level s) (au.index s))]) (.out (Zi (dg s.4 s.11 s.12)) [] (Zi (bG s)) []))
  (by kernel_rfl) ?_
 refine aM (c1) ?_
 exact aq (ay.of_eq (congrArg _ o.2.2.1.symm))
theorem xv (s:au) (v:Int) (hn:s.nl<9223372036854775808):Pure Tryz.prog aZ 213 [s.av,.int .i64 v] (.int .i64 (aG (fun i=>s.lf i 0==v) s.nl 0)):=by
 refine ar (own:=bq) Tryz.func213 (by kernel_rfl) mixed (by kernel_rfl)
  (let y0:=(fun (x:{ x:Nat // x≤au.nl s∧(fun i=>aG (fun i=>au.lf s i 0==v) (au.nl s) 0=aG (fun i=>au.lf s i 0==v) (au.nl s - i) i) x })=>aY [1,2,5] [Zi v,.own 0 80 0 0 80,Zi x.1] [some ⟨80,1,true,.bc [au.cells s]⟩]);let y1:=(fun (x:{ x:Nat // x≤au.nl s∧(fun i=>aG (fun i=>au.lf s i 0==v) (au.nl s) 0=aG (fun i=>au.lf s i 0==v) (au.nl s - i) i) x })=>au.nl s - x.1);let y2:AV:=(Zi (aG (fun i=>au.lf s i 0==v) (au.nl s) 0));(.loop ({ x:Nat // x≤au.nl s∧(fun i=>aG (fun i=>au.lf s i 0==v) (au.nl s) 0=aG (fun i=>au.lf s i 0==v) (au.nl s - i) i) x }) y0 y1 (⟨0,⟨Nat.zero_le (au.nl s),rfl⟩⟩) [1,2,5] [0] [Zi v,.own 0 80 0 0 80,Zi 0] [some ⟨80,1,true,.bc [au.cells s]⟩] (fun x0=>(.br (decide ((x0.1:Int)<(s.16:Int))) (.bj (0≤(x0.1:Int)∧(x0.1:Int)<(s.16:Int)) (.br (s.17 (toNat (x0.1:Int)) 0==v) (.out (Zi x0.1) [] y2 []) (.again (bh 0 y0 y1 x0) [1,2,5] [0] [Zi v,.own 0 80 0 0 80,Zi (wrap .i64 ((x0.1:Int)+1))] [some ⟨80,1,true,.bc [au.cells s]⟩]))) (.out (Zi (-1)) [] y2 [])))))
  (by kernel_rfl) ?_
 refine aV (fun _ hs=>hs.le (⟨.refl _,.refl _,.refl _,trivial⟩) (⟨.refl _,trivial⟩)) (fun x0=>?_)
 try (have q0:=x0.2;dsimp only at q0)
 refine aL (fun h1=>?_) (fun h1=>?_)
 ·have g1:=af h1
  refine aD (by omega) ?_
  refine aL (fun h3=>?_) (fun h3=>?_)
  ·have g3:=ai h3
   try simp only [Int.toNat_natCast] at g3
   exact aq (ay.of_eq (congrArg _ (cr x0.2.2 (by omega) (by simp only [beq_iff_eq];exact g3))))
  ·have g3:=aj h3
   try simp only [Int.toNat_natCast] at g3
   exact aN (⟨x0.1+1,by omega,bS x0.2.2 (by omega) (by simp only [beq_eq_false_iff_ne];exact g3)⟩) (fun _ hs=>hs.le (⟨.refl _,.refl _,aK (by omega),trivial⟩) (⟨.refl _,trivial⟩)) (by dsimp only;omega)
 ·have g1:=aa h1
  exact aq (ay.of_eq (congrArg _ (bW x0.2.2 (by omega))))
theorem tr (s t:au) (j:Int) (k0:0≤j) (k1:j<s.nl) (hn:t.nl<9223372036854775808):Pure Tryz.prog aZ 135 [s.av,t.av,.int .i64 j] (.int .i64 (fF s t j.toNat)):=by
 have c1:=xv t
 refine ar (own:=bq) Tryz.func135 (by kernel_rfl) mixed (by kernel_rfl)
  (.br (s.5 != t.5) (.out (Zi (-1)) [] (Zi (fF s t (toNat j))) []) (.bj ((0:Int)≤j∧j<(s.16:Int)) (.sc true 213 [.agg (au.cells t),Zi (s.17 (toNat j) 0)] (Zi (aG (fun i=>au.lf t i 0==s.17 (toNat j) 0) (au.nl t) 0)) (.out (Zi (aG (fun i=>t.17 i 0==s.17 (toNat j) 0) t.16 0)) [] (Zi (fF s t (toNat j))) []))))
  (by kernel_rfl) ?_
 refine aL (fun h0=>?_) (fun h0=>?_)
 ·have g0:=aU h0
  exact aq (ay.of_eq (congrArg _ (if_neg g0).symm))
 ·have g0:=aR h0
  refine aD (⟨k0,k1⟩) ?_
  refine aM (c1 (s.17 (toNat j) (0)) (by assumption)) ?_
  exact aq (ay.of_eq (congrArg _ (if_pos g0).symm))
theorem rm (b:aI) (s:au) (bs:s.By) (hq:0<b.gr.q) (hq':b.gr.q<2305843009213693952):Pure Tryz.prog aZ 137 [b.av,s.av] (.int .i64 (l7 b s)):=by
 have c1:=yZ b s.di s.level s.index s.ju bs.root bs.bM hq hq'
 refine ar (own:=bq) Tryz.func137 (by kernel_rfl) mixed (by kernel_rfl)
  (.sc true 128 [.agg (aI.cells b),.agg (Zi s.1::Zi s.2::Zi s.3::Zi s.4::Zi s.5::(bf s.6++[Zi s.7,Zi s.8,Zi s.9,Zi s.10])),.agg [Zi s.11,Zi s.12],.agg (bf s.13++[Zi s.14,Zi s.15])] (Zi (dW (bN.q (aI.gr b)) (au.di s) (au.level s) (au.index s) (au.ju s))) (.out (Zi (dW (aI.gr b).2 (au.di s) s.11 s.12 (au.ju s))) [] (Zi (l7 b s)) []))
  (by kernel_rfl) ?_
 refine aM (c1) ?_
 exact aq (ay.refl _)
theorem Az (b:aI) (s t:au) (leaf:Int) (hl:leaf≤9223372036854775807) (hw:b.gr.W) (hs:s.nl≤1000) (ht:t.nl≤1000) (bs:s.By) (bt:t.By):Pure Tryz.prog aZ 74 [b.av,s.av,t.av,.int .i64 leaf] (.aX [.int .i64 (cj b s t leaf).1,.int .i64 (cj b s t leaf).2]):=by
 have c1:=gG b hw
 have c2:=qR s
 have c3:=qR t
 have c4:=fun h=>xq s h
 have c5:=fun j h h'=>tr s t j h h' (by omega)
 have c6:=vD b
 have c7:=fun h h'=>rm b s bs h h'
 have c8:=fun h h'=>rm b t bt h h'
 have hq:=fun h=>fN (b:=b) h
 have lr:=fun h=>B4 (s:=s) (leaf:=leaf) h hl
 have L:=fun h h'=>vU (s:=s) (leaf:=leaf) h h'
 refine ar (own:=bq) Tryz.func74 (by kernel_rfl) mixed (by kernel_rfl)
  (let y0:Nat:=(toNat (wrap .i64 (leaf - bG s)));let y1:AV:=(.aX [Zi (Prod.fst (cj b s t leaf)),Zi (Prod.snd (cj b s t leaf))]);let y2:Nat:=(toNat (fF s t y0));let y3:List AV:=[Zi (aI.gr b).1,Zi (aI.gr b).2,Zi (aI.gr b).3];(.sc true 64 [.agg (aI.cells b)] (.bool (aT b)) (.sc ((!aT b)==false) 133 [.agg (au.cells s)] (.bool (dk s)) (.sc ((!aT b || !dk s)==false) 133 [.agg (au.cells t)] (.bool (dk t)) (.br (!aT b || !dk s || !dk t) (.out (.aX [Zi 0,Zi 1]) [] y1 []) (.sc true 134 [.agg (au.cells s)] (Zi (bG s)) (.br (decide (leaf<0)||decide (wrap .i64 (leaf - bG s)<0)||decide (wrap .i64 (leaf - bG s)≥(s.16:Int))) (.out (.aX [Zi 0,Zi 2]) [] y1 []) (.sc true 135 [.agg (au.cells s),.agg (au.cells t),Zi (wrap .i64 (leaf - bG s))] (Zi (fF s t y0)) (.br (decide (fF s t y0<0)) (.out (.aX [Zi 0,Zi 7]) [] y1 []) (.bj ((0:Int)≤wrap .i64 (leaf - bG s)∧wrap .i64 (leaf - bG s)<(s.16:Int)) (.bj ((0:Int)≤fF s t y0∧fF s t y0<(t.16:Int)) (.sc true 136 [.agg y3,Zi (s.17 y0 1)] (.bool (gM b (s.17 y0 1))) (.sc ((!gM b (s.17 y0 1))==false) 136 [.agg y3,Zi (s.17 y0 2)] (.bool (gM b (s.17 y0 2))) (.sc ((!gM b (s.17 y0 1) || !gM b (s.17 y0 2))==false) 136 [.agg y3,Zi (t.17 y2 1)] (.bool (gM b (t.17 y2 1))) (.sc ((!gM b (s.17 y0 1) || !gM b (s.17 y0 2) || !gM b (t.17 y2 1))==false) 136 [.agg y3,Zi (t.17 y2 2)] (.bool (gM b (t.17 y2 2))) (.br (!gM b (s.17 y0 1) || !gM b (s.17 y0 2) || !gM b (t.17 y2 1) || !gM b (t.17 y2 2)) (.out (.aX [Zi 0,Zi 2]) [] y1 []) (.sc true 137 [.agg (aI.cells b),.agg (au.cells s)] (Zi (l7 b s)) (.sc true 137 [.agg (aI.cells b),.agg (au.cells t)] (Zi (l7 b t)) (.br (l7 b s==l7 b t) (.out (.aX [Zi 0,Zi 20]) [] y1 []) (.br (s.17 y0 2==t.17 y2 2) (.out (.aX [Zi 0,Zi 10]) [] y1 []) (.bj ((aI.gr b).2≠(0:Int)) (.sc true 138 [Zi (Int.tmod (wrap .i64 (wrap .i64 (s.17 y0 2+(aI.gr b).2) - t.17 y2 2)) (aI.gr b).2),Zi (aI.gr b).2] (.aX [Zi (gy (Int.tmod (wrap .i64 (wrap .i64 (s.17 y0 2+(aI.gr b).2) - t.17 y2 2)) (aI.gr b).2) (aI.gr b).2),.bool (decide (Int.gcd (Int.tmod (wrap .i64 (wrap .i64 (s.17 y0 2+(aI.gr b).2) - t.17 y2 2)) (aI.gr b).2) (aI.gr b).2=1))]) (.bj ((aI.gr b).2≠(0:Int)) (.sc true 139 [Zi (Int.tmod (wrap .i64 (wrap .i64 (s.17 y0 1+(aI.gr b).2) - t.17 y2 1)) (aI.gr b).2),Zi (gy (Int.tmod (wrap .i64 (wrap .i64 (s.17 y0 2+(aI.gr b).2) - t.17 y2 2)) (aI.gr b).2) (aI.gr b).2),Zi (aI.gr b).2] (Zi (Int.tmod (wrap .i64 (wrap .i64 (s.17 y0 1+(aI.gr b).2) - t.17 y2 1)) (aI.gr b).2*gy (Int.tmod (wrap .i64 (wrap .i64 (s.17 y0 2+(aI.gr b).2) - t.17 y2 2)) (aI.gr b).2) (aI.gr b).2%(aI.gr b).2)) (.out (.aX [Zi (Int.tmod (wrap .i64 (wrap .i64 (s.17 y0 1+(aI.gr b).2) - t.17 y2 1)) (aI.gr b).2*gy (Int.tmod (wrap .i64 (wrap .i64 (s.17 y0 2+(aI.gr b).2) - t.17 y2 2)) (aI.gr b).2) (aI.gr b).2%(aI.gr b).2),Zi 0]) [] y1 [])))))))))))))))))))))))))
  (by kernel_rfl) ?_
 refine aM (c1) ?_
 refine aW (fun h1=>c2) ?_
 refine aW (fun h2=>c3) ?_
 refine aL (fun h3=>?_) (fun h3=>?_)
 ·have g3:=(aA (aA (aC aF) (aC aF)) (aC aF)) h3
  exact aq (ay.of_eq (by rw [IA (or_assoc.1 g3)]))
 ·have g3:=(aw (aw (az aB) (az aB)) (az aB)) h3
  refine aM (c4 (g3.1.2)) ?_
  refine aL (fun h6=>?_) (fun h6=>?_)
  ·have g6:=(aA (aA af af) af) h6
   exact aq (ay.of_eq (by rw [HQ (and_assoc.1 g3) ((lr g3.1.2).1 g6)]))
  ·have g6:=(aw (aw aa aa) aa) h6
   refine aM (c5 (wrap .i64 (leaf - bG s)) (by omega) (by omega)) ?_
   refine aL (fun h9=>?_) (fun h9=>?_)
   ·have g9:=af h9
    exact aq (by have nl:¬(leaf<bG s∨oq s≤leaf):=(fun hh=>by have:=(lr g3.1.2).2 hh;omega);rw [(L g3.1.2 nl).2.2] at g9;exact ay.of_eq (by rw [IC (and_assoc.1 g3) nl (fun hm=>(vj g3.1.2 nl).2 hm g9)]))
   ·have g9:=aa h9
    refine aD (by omega) ?_
    refine aD (by have k:=vz g3.1.2 hl g6 g9;rw [k.2.2.1];exact k.2.2.2.2) ?_
    refine aM (c6 (s.17 (toNat (wrap .i64 (leaf - bG s))) (1))) ?_
    refine aW (fun h14=>c6 (s.17 (toNat (wrap .i64 (leaf - bG s))) (2))) ?_
    refine aW (fun h15=>c6 (t.17 (toNat (fF s t (toNat (wrap .i64 (leaf - bG s))))) (1))) ?_
    refine aW (fun h16=>c6 (t.17 (toNat (fF s t (toNat (wrap .i64 (leaf - bG s))))) (2))) ?_
    refine aL (fun h17=>?_) (fun h17=>?_)
    ·have g17:=(aA (aA (aA (aC aF) (aC aF)) (aC aF)) (aC aF)) h17
     exact aq (by have k:=vz g3.1.2 hl g6 g9;rw [k.2.2.1,k.2.2.2.1] at g17;exact ay.of_eq (by rw [H0 (and_assoc.1 g3) k.1 k.2.1 (or4 g17)]))
    ·have g17:=(aw (aw (aw (az aB) (az aB)) (az aB)) (az aB)) h17
     refine aM (c7 ((hq g3.1.1).1) ((hq g3.1.1).2)) ?_
     refine aM (c8 ((hq g3.1.1).1) ((hq g3.1.1).2)) ?_
     refine aL (fun h21=>?_) (fun h21=>?_)
     ·have g21:=ai h21
      exact aq (by have k:=vz g3.1.2 hl g6 g9;rw [k.2.2.1,k.2.2.2.1] at g17;exact ay.of_eq (by rw [IB (and_assoc.1 g3) k.1 k.2.1 (zZ g17) g21]))
     ·have g21:=aj h21
      refine aL (fun h23=>?_) (fun h23=>?_)
      ·have g23:=ai h23
       exact aq (by have k:=vz g3.1.2 hl g6 g9;rw [k.2.2.1,k.2.2.2.1] at g17 g23;exact ay.of_eq (by rw [HX (and_assoc.1 g3) k.1 k.2.1 (zZ g17) g21 g23]))
      ·have g23:=aj h23
       refine aD (by have:=hq g3.1.1;omega) ?_
       refine aM (Ki (Int.tmod (wrap .i64 (wrap .i64 (s.17 (toNat (wrap .i64 (leaf - bG s))) (2)+(aI.gr b).2) - t.17 (toNat (fF s t (toNat (wrap .i64 (leaf - bG s))))) (2))) (aI.gr b).2) ((aI.gr b).2) (by have u:=rC (gd g17.1.1.2) (gd g17.2) (hq g3.1.1).2;rw [u.1];exact u.2.1) (by have u:=rC (gd g17.1.1.2) (gd g17.2) (hq g3.1.1).2;rw [u.1];exact u.2.2) ((hq g3.1.1).2)) ?_
       refine aD (by have:=hq g3.1.1;omega) ?_
       refine aM (iI (Int.tmod (wrap .i64 (wrap .i64 (s.17 (toNat (wrap .i64 (leaf - bG s))) (1)+(aI.gr b).2) - t.17 (toNat (fF s t (toNat (wrap .i64 (leaf - bG s))))) (1))) (aI.gr b).2) (gy (Int.tmod (wrap .i64 (wrap .i64 (s.17 (toNat (wrap .i64 (leaf - bG s))) (2)+(aI.gr b).2) - t.17 (toNat (fF s t (toNat (wrap .i64 (leaf - bG s))))) (2))) (aI.gr b).2) (aI.gr b).2) ((aI.gr b).2) (by have u:=rC (gd g17.1.1.1) (gd g17.1.2) (hq g3.1.1).2;rw [u.1];exact u.2.1) (by have u:=rC (gd g17.1.1.1) (gd g17.1.2) (hq g3.1.1).2;rw [u.1];exact u.2.2) ((jT (hq g3.1.1).1).1) ((jT (hq g3.1.1).1).2) ((hq g3.1.1).2)) ?_
       exact aq (by have u:=rC (gd g17.1.1.2) (gd g17.2) (hq g3.1.1).2;have v:=rC (gd g17.1.1.1) (gd g17.1.2) (hq g3.1.1).2;rw [u.1,v.1];have k:=vz g3.1.2 hl g6 g9;rw [k.2.2.1,k.2.2.2.1] at g17 g23 ⊢;exact ay.of_eq (by rw [If (and_assoc.1 g3) k.1 k.2.1 (zZ g17) g21 g23]))
theorem ub (G:bN) (l:List Int) (h:G.Ok) (hw:G.W) (hl:∀ i,i<l.length→aO G (l.getD i 0)=true) (hn:l.length<1000):Pure Tryz.prog aZ 166 [G.av,il .i64 l] (.int .i64 0):=by
 have c1:=ks G hw
 rw [bp.2 h] at c1
 have c2:=fun x=>rG G x hw
 refine ar (own:=bq) Tryz.func166 (by kernel_rfl) mixed (by kernel_rfl)
  (let y1:=(fun (x:{ x:Nat // x≤List.length l })=>List.length l - x.1);let y2:List (Option Ob):=[some ⟨3,1,true,bA.bc [[Zi (bN.p G),Zi (bN.q G),Zi (bN.g G)]]⟩];let y0:=(fun (x:{ x:Nat // x≤List.length l })=>aY [2,10,11,12] [AV.own 0 3 0 0 3,AV.aH 1 (List.length l) fun (i x:Nat)=>Zi (List.getD l i (0:Int)),Zi (↑(List.length l):Int),Zi (↑(x.1):Int)] y2);(.sc (true) 80 ([AV.agg [Zi G.1,Zi G.2,Zi G.3]]) (AV.bool true) (.ff (.loop ({ x:Nat // x≤List.length l }) y0 y1 (⟨0,Nat.zero_le (List.length l)⟩) ([2,10,11,12]) ([0]) ([AV.own 0 3 0 0 3,AV.aH 1 (List.length l) fun (i x:Nat)=>Zi (List.getD l i (0:Int)),Zi (↑(List.length l):Int),Zi 0]) (y2) (fun x2=>(.br (decide ((↑x2.1:Int)<(↑(List.length l):Int))) (.bj ((0:Int)≤(↑x2.1:Int)∧(↑x2.1:Int)<(↑(List.length l):Int)) (.sc (true) 143 ([AV.agg [Zi G.1,Zi G.2,Zi G.3],Zi (List.getD l (toNat (↑x2.1:Int)) (0:Int))]) (AV.bool (aO G (List.getD l (toNat (↑x2.1:Int)) (0:Int)))) (.br (!aO G (List.getD l (toNat (↑x2.1:Int)) (0:Int))) (.out (Zi 2) [] (Zi 0) []) (.again (bh 0 y0 y1 x2) ([2,10,11,12]) ([0]) ([AV.own 0 3 0 0 3,AV.aH 1 (List.length l) fun (i x:Nat)=>Zi (List.getD l i (0:Int)),Zi (↑(List.length l):Int),Zi (wrap .i64 ((↑x2.1:Int)+1))]) (y2))))) (.out (Zi 0) [] (Zi 0) [])))))))
  (by kernel_rfl) ?_
 refine aM (c1) ?_
 refine cz ?_
 refine aV (fun _ hs=>hs.le (⟨.refl _,.refl _,.refl _,.refl _,trivial⟩) (⟨.refl _,trivial⟩)) (fun x2=>?_)
 try (have q2:=x2.2;dsimp only at q2)
 refine aL (fun h3=>?_) (fun h3=>?_)
 ·have g3:=af h3
  refine aD (by omega) ?_
  refine aM (c2 (List.getD l (toNat (↑x2.1:Int)) (0:Int))) ?_
  refine aL (fun h6=>?_) (fun h6=>?_)
  ·have g6:=(aC aF) h6
   try simp only [Int.toNat_natCast] at g6
   exact aq ((by exfalso;rw [hl x2.1 (by omega)] at g6;cases g6))
  ·have g6:=(az aB) h6
   try simp only [Int.toNat_natCast] at g6
   exact aN (⟨x2.1+1,by omega⟩) (fun _ hs=>hs.le (⟨.refl _,.refl _,.refl _,aK (by omega),trivial⟩) (⟨.refl _,trivial⟩)) (by dsimp only;omega)
 ·have g3:=aa h3
  exact aq (ay.of_eq rfl)
theorem GB (G:bN) (a:Int) (h:G.Ok) (hw:G.W) (ha:aO G a=true):Pure Tryz.prog aZ 166 [G.av,.aH 1 1 fun r k=>aQ (List.getD [[.int .i64 a]] r []) k] (.int .i64 0) :=
 (ub G [a] h hw (fun i hi=>by obtain rfl:i=0:=Nat.lt_one_iff.1 hi;exact ha) (by simp)).via ⟨ay.refl _,eN rfl rfl,trivial⟩
theorem G9 (G:bN) (a c:Int) (h:G.Ok) (hw:G.W) (ha:aO G a=true) (hc:aO G c=true):Pure Tryz.prog aZ 166 [G.av,.aH 1 2 fun r k=>aQ (List.getD [[.int .i64 a],[.int .i64 c]] r []) k] (.int .i64 0) :=
 (ub G [a,c] h hw (fun i hi=>match i,hi with
  | 0,_=>ha
  | 1,_=>hc) (by simp)).via ⟨ay.refl _,eN rfl rfl,trivial⟩
theorem px (G:bN) (a c:Int) (h:G.Ok) (hw:G.W) (ha:aO G a=true) (hc:aO G c=true):Pure Tryz.prog aZ 185 [G.av,.int .i64 a,.int .i64 c] (.aX [.int .i64 (a*c%G.p),.int .i64 0]):=by
 have c1:=G9 G a c h hw ha hc
 have x:=fT h ha
 have y:=fT h hc
 have k1:=h.p1
 have k2:=jk (a:=a) (b:=c) (m:=G.p) (by omega) (by omega) (by omega) (by omega) (by omega) (by omega)
 refine ar (own:=bq) Tryz.func185 (by kernel_rfl) mixed (by kernel_rfl)
  (let y0:AV:=(.aX [Zi (kd (cA a c G.1) (a*c%G.1)),Zi (cA a c G.1)]);(.sc true 166 [.agg [Zi G.1,Zi G.2,Zi G.3],.aH 1 2 fun r k=>aQ (List.getD [[Zi a],[Zi c]] (r+0) []) k] (Zi 0) (.ff (.sc true 184 [Zi a,Zi c,Zi G.1] y0 (.out y0 [] (.aX [Zi (a*c%bN.p G),Zi 0]) [])))))
  (by kernel_rfl) ?_
 refine aM (c1) ?_
 refine cz ?_
 refine aM (wm (a) (c) (G.1)) ?_
 exact aq (ay.of_eq (by rw [k2];rfl))
theorem nO (G:bN) (a e:Int) (h:G.Ok) (hw:G.W) (ha:aO G a=true) (he:0≤e∧e<G.q):Pure Tryz.prog aZ 95 [G.av,.int .i64 a,.int .i64 e] (.aX [.int .i64 (a^e.toNat%G.p),.int .i64 0]):=by
 have c1:=GB G a h hw ha
 have x:=fT h ha
 have k1:=h.p1;have k2:=h.qp;have k3:=h.q3
 have k4:kd (cA 0 0 G.q) (e%G.q)=e:=by
  rw [jk (by omega) (by omega) (by omega) (by omega) (by omega) (by omega)]
  exact Iq he
 have k5:=nN (jk (a:=a) (b:=a) (m:=G.p) (by omega) (by omega) (by omega) (by omega) (by omega) (by omega)) (by omega:¬e<0)
 refine ar (own:=bq) Tryz.func95 (by kernel_rfl) mixed (by kernel_rfl)
  (let y0:AV:=(.aX [Zi (kd (eT a (kd (cA (0:Int) (0:Int) G.2) (e%G.2)) G.1) (a^toNat (kd (cA (0:Int) (0:Int) G.2) (e%G.2))%G.1)),Zi (eT a (kd (cA (0:Int) (0:Int) G.2) (e%G.2)) G.1)]);(.sc true 166 [.agg [Zi G.1,Zi G.2,Zi G.3],.aH 1 1 fun r k=>aQ (List.getD [[Zi a]] (r+0) []) k] (Zi 0) (.ff (.sc true 167 [Zi e,Zi G.2] (.aX [Zi (kd (cA (0:Int) (0:Int) G.2) (e%G.2)),Zi (cA (0:Int) (0:Int) G.2)]) (.sc true 142 [Zi a,Zi (kd (cA (0:Int) (0:Int) G.2) (e%G.2)),Zi G.1] y0 (.out y0 [] (.aX [Zi (a^toNat e%bN.p G),Zi 0]) []))))))
  (by kernel_rfl) ?_
 refine aM (c1) ?_
 refine cz ?_
 refine aM (zW (e) (G.2)) ?_
 refine aM (nH (a) (kd (cA (0:Int) (0:Int) G.2) (e%G.2)) (G.1) (by rw [k4];omega)) ?_
 exact aq (ay.of_eq (by rw [k4,k5];rfl))
theorem z8 (b:aI) (u:Int) (h:b.Ok) (hw:b.gr.W) (hu:0≤u∧u<b.gr.q):Pure Tryz.prog aZ 103 [b.av,.int .i64 u] (.int .i64 (nQ b u)):=by
 have c1:=nO b.gr b.g1 u h.G hw h.e1 hu
 have c2:=px b.gr (b.g1^u.toNat%b.gr.p) b.g2 h.G hw (dJ h.G h.e1 _) h.e2
 refine ar (own:=bq) Tryz.func103 (by kernel_rfl) mixed (by kernel_rfl)
  (let y0:List AV:=[Zi (aI.gr b).1,Zi (aI.gr b).2,Zi (aI.gr b).3];(.sc true 95 [.agg y0,Zi b.2,Zi u] (.aX [Zi (aI.g1 b^toNat u%bN.p (aI.gr b)),Zi 0]) (.sc true 185 [.agg y0,Zi (b.2^toNat u%(aI.gr b).1),Zi b.3] (.aX [Zi (aI.g1 b^toNat u%bN.p (aI.gr b)*aI.g2 b%bN.p (aI.gr b)),Zi 0]) (.out (Zi (b.2^toNat u%(aI.gr b).1*b.3%(aI.gr b).1)) [] (Zi (nQ b u)) []))))
  (by kernel_rfl) ?_
 refine aM (c1) ?_
 refine aM (c2) ?_
 exact aq (ay.refl _)
theorem wz (b:aI) (u:Int) (h:b.Ok) (hu:0≤u∧u<b.gr.q):Pure Tryz.prog aZ 75 [b.av,.int .i64 u] (.int .i64 (nQ b u)):=by
 have k1:=fT h.G h.e1
 have k2:=fT h.G h.e2
 have k3:=h.G.p1;have k4:=h.G.qp
 have k5:=fT h.G (dJ h.G h.e1 u.toNat)
 refine ar (own:=bq) Tryz.func75 (by kernel_rfl) mixed (by kernel_rfl)
  (let y0:AV:=(Zi (b.2^toNat u%(aI.gr b).1*b.3%(aI.gr b).1));(.sc true 76 [Zi b.2,Zi u,Zi (aI.gr b).1] (Zi (b.2^toNat u%(aI.gr b).1)) (.sc true 139 [Zi (b.2^toNat u%(aI.gr b).1),Zi b.3,Zi (aI.gr b).1] y0 (.out y0 [] (Zi (nQ b u)) []))))
  (by kernel_rfl) ?_
 refine aM (jS (b.2) (u) ((aI.gr b).1) (by omega) (by omega) (by omega) (by omega) (by assumption)) ?_
 refine aM (iI (b.2^toNat u%(aI.gr b).1) (b.3) ((aI.gr b).1) (by omega) (by omega) (by omega) (by omega) (by assumption)) ?_
 exact aq (ay.refl _)
theorem pJ (x l u:Int):Pure Tryz.prog aZ 149 [.int .i64 x,.int .i64 l,.int .i64 u] (.bool (ik x l u)):=by
 refine ar (own:=bq) Tryz.func149 (by kernel_rfl) mixed (by kernel_rfl)
  (.out (.bool (decide (x≥l)&&decide (x≤u))) [] (.bool (ik x l u)) [])
  (by kernel_rfl) ?_
 exact aq (ay.refl _)
theorem Aj (a b c d e:Int):Pure Tryz.prog aZ 148 [.int .i64 a,.int .i64 b,.int .i64 c,.int .i64 d,.int .i64 e] (.bool (mP a b c d e)):=by
 refine ar (own:=bq) Tryz.func148 (by kernel_rfl) mixed (by kernel_rfl)
  (.sc true 149 [Zi a,Zi 0,Zi 7] (.bool (ik a (0:Int) (7:Int))) (.sc (ik a (0:Int) (7:Int)==true) 149 [Zi b,Zi 0,Zi 1000000] (.bool (ik b (0:Int) (1000000:Int))) (.out (.bool (ik a (0:Int) (7:Int)&&ik b (0:Int) (1000000:Int)&&decide (c≥0)&&decide (c<d)&&decide (d≤e)&&decide (e≤1099511627776))) [] (.bool (mP a b c d e)) [])))
  (by kernel_rfl) ?_
 refine aM (pJ (a) ((0:Int)) ((7:Int))) ?_
 refine aW (fun h1=>pJ (b) ((0:Int)) ((1000000:Int))) ?_
 exact aq (ay.refl _)
theorem Cw (x l u:Int):Pure Tryz.prog aZ 189 [.int .i64 x,.int .i64 l,.int .i64 u] (.bool (ik x l u)):=by
 refine ar (own:=bq) Tryz.func189 (by kernel_rfl) mixed (by kernel_rfl)
  (.out (.bool (decide (x≥l)&&decide (x≤u))) [] (.bool (ik x l u)) [])
  (by kernel_rfl) ?_
 exact aq (ay.refl _)
theorem FQ (a b c d e:Int):Pure Tryz.prog aZ 188 [.int .i64 a,.int .i64 b,.int .i64 c,.int .i64 d,.int .i64 e] (.bool (mP a b c d e)):=by
 refine ar (own:=bq) Tryz.func188 (by kernel_rfl) mixed (by kernel_rfl)
  (.sc true 189 [Zi a,Zi 0,Zi 7] (.bool (ik a (0:Int) (7:Int))) (.sc (ik a (0:Int) (7:Int)==true) 189 [Zi b,Zi 0,Zi 1000000] (.bool (ik b (0:Int) (1000000:Int))) (.out (.bool (ik a (0:Int) (7:Int)&&ik b (0:Int) (1000000:Int)&&decide (c≥0)&&decide (c<d)&&decide (d≤e)&&decide (e≤1099511627776))) [] (.bool (mP a b c d e)) [])))
  (by kernel_rfl) ?_
 refine aM (Cw (a) ((0:Int)) ((7:Int))) ?_
 refine aW (fun h1=>Cw (b) ((0:Int)) ((1000000:Int))) ?_
 exact aq (ay.refl _)
theorem Cf (v d:Int):Pure Tryz.prog aZ 223 [.agg [.int .i64 v,.int .i64 d]] (.bool (gJ v d)):=by
 refine ar (own:=bq) Tryz.func223 (by kernel_rfl) mixed (by kernel_rfl)
  (.br (v==0&&(d==0&&true)) (.out (.bool true) [] (.bool (gJ v d)) []) (.bj (((decide (v≥1)&&decide (v≤1099511627776)&&decide (d≥0)&&decide (d≤5))==true)=true→(0:Int)≤d) (.bj (((decide (v≥1)&&decide (v≤1099511627776)&&decide (d≥0)&&decide (d≤5))==true)=true→wrap .i64 ((1:Int)*2^min (toNat d) 64)≠(0:Int)) (.out (.bool (decide (v≥1)&&decide (v≤1099511627776)&&decide (d≥0)&&decide (d≤5)&&Int.tmod v (wrap .i64 ((1:Int)*2^min (toNat d) 64))==0)) [] (.bool (gJ v d)) []))))
  (by kernel_rfl) ?_
 refine aL (fun h0=>?_) (fun h0=>?_)
 ·have g0:=(ah ai (ah ai aB)) h0
  exact aq (ay.of_eq (congrArg _ (LC g0.1 g0.2.1).symm))
 ·have g0:=(ao aj (ao aj aF)) h0
  refine aD (fun hr=>by simp at hr;omega) ?_
  refine aD (fun hr=>by simp at hr;exact HZ (by omega) (by omega)) ?_
  exact aq (ay.of_eq (congrArg _ (Oi (fun h=>by rcases g0 with g|g|g;(· exact g h.1);(· exact g h.2);cases g))))
theorem MV (v d:Int):Pure Tryz.prog aZ 190 [.agg [.int .i64 v,.int .i64 d]] (.bool (gJ v d)):=by
 refine ar (own:=bq) Tryz.func190 (by kernel_rfl) mixed (by kernel_rfl)
  (let y0:Nat:=(toNat (wrap .u64 d));(.br (v==0) (.out (.bool (d==0)) [] (.bool (gJ v d)) []) (.bj (((decide (v≥1)&&decide (v≤1099511627776)&&decide (d≥0)&&decide (d≤5))==true)=true→(0:Int)≤wrap .u64 d) (.bj (((decide (v≥1)&&decide (v≤1099511627776)&&decide (d≥0)&&decide (d≤5))==true)=true→wrap .i64 ((1:Int)*2^min y0 64)≠(0:Int)) (.out (.bool (decide (v≥1)&&decide (v≤1099511627776)&&decide (d≥0)&&decide (d≤5)&&Int.tmod v (wrap .i64 ((1:Int)*2^min y0 64))==0)) [] (.bool (gJ v d)) [])))))
  (by kernel_rfl) ?_
 refine aL (fun h0=>?_) (fun h0=>?_)
 ·have g0:=ai h0
  exact aq (ay.of_eq (congrArg _ (H4 g0).symm))
 ·have g0:=aj h0
  refine aD (fun hr=>by simp at hr;rw [EU (by omega) (by omega)];omega) ?_
  refine aD (fun hr=>by simp at hr;rw [EU (by omega) (by omega)];exact HZ (by omega) (by omega)) ?_
  exact aq (ay.of_eq (congrArg _ (Ml g0)))
theorem ma (b:aI) (x:Int) (hw:b.gr.W):Pure Tryz.prog aZ 268 [b.av,.int .i64 x] (.bool (aO b.gr x)):=by
 have hq:=hw.q
 refine ar (own:=bq) Tryz.func268 (by kernel_rfl) mixed (by kernel_rfl)
  (.br (decide (x<1)||decide (x≥(aI.gr b).1)) (.out (.bool false) [] (.bool (aO (aI.gr b) x)) []) (.sc true 142 [Zi x,Zi (aI.gr b).2,Zi (aI.gr b).1] (.aX [Zi (kd (eT x (aI.gr b).2 (aI.gr b).1) (x^toNat (aI.gr b).2%(aI.gr b).1)),Zi (eT x (aI.gr b).2 (aI.gr b).1)]) (.out (.bool (eT x (aI.gr b).2 (aI.gr b).1==0&&kd (eT x (aI.gr b).2 (aI.gr b).1) (x^toNat (aI.gr b).2%(aI.gr b).1)==1)) [] (.bool (aO (aI.gr b) x)) [])))
  (by kernel_rfl) ?_
 refine aL (fun h0=>?_) (fun h0=>?_)
 ·have g0:=(aA af af) h0
  exact aq (ay.of_eq (congrArg _ (xj g0).symm))
 ·have g0:=(aw aa aa) h0
  refine aM (nH (x) ((aI.gr b).2) ((aI.gr b).1) (by assumption)) ?_
  exact aq (ay.of_eq (congrArg _ (ok1.trans (wR g0).symm)))
theorem iY (b:aI) (x:Int) (hw:b.gr.W):Pure Tryz.prog aZ 224 [b.av,.int .i64 x] (.bool (bV b.gr x)):=by
 refine ar (own:=bq) Tryz.func224 (by kernel_rfl) mixed (by kernel_rfl)
  (.sc ((x != 1)==true) 268 [.agg (aI.cells b),Zi x] (.bool (aO (aI.gr b) x)) (.out (.bool (x != 1&&aO b.1 x)) [] (.bool (bV (aI.gr b) x)) []))
  (by kernel_rfl) ?_
 refine aW (fun h0=>(ma b) (x) (by assumption)) ?_
 exact aq (ay.refl _)
theorem pd (b:aI) (h h1 h2:Int) (hw:b.gr.W):Pure Tryz.prog aZ 151 [b.av,.agg [.int .i64 h,.int .i64 h1,.int .i64 h2]] (.bool (df b h h1 h2)):=by
 refine ar (own:=bq) Tryz.func151 (by kernel_rfl) mixed (by kernel_rfl)
  (.sc true 31 [.agg (aI.cells b)] (.bool (aT b)) (.sc (aT b==true) 224 [.agg (aI.cells b),Zi h] (.bool (bV (aI.gr b) h)) (.sc ((aT b&&bV b.1 h)==true) 224 [.agg (aI.cells b),Zi h1] (.bool (bV (aI.gr b) h1)) (.sc ((aT b&&bV b.1 h&&bV b.1 h1)==true) 224 [.agg (aI.cells b),Zi h2] (.bool (bV (aI.gr b) h2)) (.out (.bool (aT b&&bV b.1 h&&bV b.1 h1&&bV b.1 h2)) [] (.bool (df b h h1 h2)) [])))))
  (by kernel_rfl) ?_
 refine aM ((eF b) (by assumption)) ?_
 refine aW (fun h1=>(iY b) (h) (by assumption)) ?_
 refine aW (fun h2=>(iY b) (h1) (by assumption)) ?_
 refine aW (fun h3=>(iY b) (h2) (by assumption)) ?_
 exact aq (ay.refl _)
theorem pF (G:bN) (x:Int) (hw:G.Ok):Pure Tryz.prog aZ 249 [G.av,.int .i64 x] (.bool (bV G x)):=by
 refine ar (own:=bq) Tryz.func249 (by kernel_rfl) mixed (by kernel_rfl)
  (.sc ((x != 1)==true) 110 [.agg [Zi G.1,Zi G.2,Zi G.3],Zi x] (.bool (aO G x)) (.out (.bool (x != 1&&aO G x)) [] (.bool (bV G x)) []))
  (by kernel_rfl) ?_
 refine aW (fun h0=>(dL G) (x) (by assumption)) ?_
 exact aq (ay.refl _)
theorem xh (b:aI) (h h1 h2:Int) (hw:b.gr.W):Pure Tryz.prog aZ 187 [b.av,.agg [.int .i64 h,.int .i64 h1,.int .i64 h2]] (.bool (df b h h1 h2)):=by
 refine ar (own:=bq) Tryz.func187 (by kernel_rfl) mixed (by kernel_rfl)
  (let y0:List AV:=[Zi (aI.gr b).1,Zi (aI.gr b).2,Zi (aI.gr b).3];(.sc true 64 [.agg (aI.cells b)] (.bool (aT b)) (.sc (aT b==true) 249 [.agg y0,Zi h] (.bool (bV (aI.gr b) h)) (.sc ((aT b&&bV b.1 h)==true) 249 [.agg y0,Zi h1] (.bool (bV (aI.gr b) h1)) (.sc ((aT b&&bV b.1 h&&bV b.1 h1)==true) 249 [.agg y0,Zi h2] (.bool (bV (aI.gr b) h2)) (.out (.bool (aT b&&bV b.1 h&&bV b.1 h1&&bV b.1 h2)) [] (.bool (df b h h1 h2)) []))))))
  (by kernel_rfl) ?_
 refine aM ((gG b) (hw)) ?_
 refine aW (fun h1=>(pF (aI.gr b)) (h) ((bH.1 (by simp at h1;simp [h1])).G)) ?_
 refine aW (fun h2=>(pF (aI.gr b)) (h1) ((bH.1 (by simp at h2;simp [h2])).G)) ?_
 refine aW (fun h3=>(pF (aI.gr b)) (h2) ((bH.1 (by simp at h3;simp [h3])).G)) ?_
 exact aq (ay.refl _)
end Go.Proofs.YtpefjkpdniiaoaaGreatDoor
