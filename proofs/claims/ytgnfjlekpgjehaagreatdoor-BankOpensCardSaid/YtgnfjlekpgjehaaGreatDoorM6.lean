/- Part of the proof: CX6, CX7, CX8, Knw, CX9, CX10, CV1, EnRound, ItH, Itr, CV2, CV3, CV4, CV8, CV9, CV10, CV11, CV12, CV13, CX11. -/
import Derived.Test.YtgnfjlekpgjehaaGreatDoorM5
import Derived.Test.YtgnfjlekpgjehaaGreatDoorProg
import Derived.Test.YtgnfjlekpgjehaaGreatDoorM3
import Derived.Test.YtgnfjlekpgjehaaGreatDoorM4
import Derived.Test.YtgnfjlekpgjehaaGreatDoorM2
import Derived.OrdersIn
namespace Go.Proofs.YtgnfjlekpgjehaaGreatDoor
open Go.IntKind (wrap)
open Int (toNat)
open Go Go.Am Go.Sp
set_option maxRecDepth 100000
theorem zi (h:Nat→Int) (bN:Int):Pure Tryz.prog aW 287 [.agg (bh h++[.int .i64 bN])] (.bool (decide (bN≥0)&&decide (bN≤1000))):=by
 refine ar (own:=bk) Tryz.func287 (by kernel_rfl) mixed (by kernel_rfl)
  (let y0:AV:=(.bool (decide (bN≥0)&&decide (bN≤1000)));(.out y0 [] y0 []))
  (by kernel_rfl) ?_
 exact aq (aw.of_eq rfl)
theorem AE (s:ByteArray) (h:Nat→Int) (bN:Int) (hc:0≤bN∧bN<1000) (hl:eS s=true) (a b:Int) (n m:Nat) (f:Nat→Int) (g:Nat→Nat→AV) (F:Nat→Nat→AV) (E:List Int) (hE:E.length≤16384) (T:Nat→Int)
  (c3:Pure Tryz.prog aW 288 [.agg (bh h++[.int .i64 bN]),.str s,.aG 4 1 fun r k=>aO (List.getD [[.int .i64 a,.int .i64 b,dn n f,.aG 4 m g]] r []) k] (.agg [.int .i64 3,.int .i64 0,dn 0 (fun _=>0),.aG 4 3 F]))
  (c4:Pure Tryz.prog aW 320 [.agg [.int .i64 3,.int .i64 0,dn 0 (fun _=>0),.aG 4 3 F]] (.bool true))
  (c5:Pure Tryz.prog aW 275 [.agg [.int .i64 3,.int .i64 0,dn 0 (fun _=>0),.aG 4 3 F]] (il .u8 E))
  (c6:Pure Tryz.prog aW 83 [.str "specie/absorb".toUTF8,il .u8 E] (.agg (bh T))) :
  Pure Tryz.prog aW 285 [.agg (bh h++[.int .i64 bN]),.str s,.agg [.int .i64 a,.int .i64 b,dn n f,.aG 4 m g]] (.aT [.agg (bh T++[.int .i64 (bN+1)]),.int .i64 0]):=by
 have v1:=(gE hl).hi
 have c1:=wH s (by omega)
 rw [hl] at c1
 have c2:=zi h bN
 refine ar (own:=bk) Tryz.func285 (by kernel_rfl) mixed (by kernel_rfl)
  (let z0:=(decide (bN≥0)&&decide (bN≤1000));let y0:List AV:=[Zb 0,Zb 0,Zb 0,Zb 0,Zb 0,Zb 0,Zb 0,Zb 0,Zb 0,Zb 0,Zb 0,Zb 0,Zb 0,Zb 0,Zb 0,Zb 0,Zb 0,Zb 0,Zb 0,Zb 0,Zb 0,Zb 0,Zb 0,Zb 0,Zb 0,Zb 0,Zb 0,Zb 0,Zb 0,Zb 0,Zb 0,Zb 0,Zi 0];let y1:AV:=(.aT [.agg (bh T++[Zi (bN+1)]),Zi 0]);let y2:List AV:=[.agg [Zi 3,Zi 0,.aG 1 0 fun i x=>Zb 0,.aG 4 3 F]];(.sc true 287 [.agg (bh h++[Zi bN])] (.bool z0) (.sc ((!z0)==false) 142 [AV.str s] (.bool true) (.br (!z0||false) (.out (.aT [.agg y0,Zi 1]) [] y1 []) (.dc true 288 [.agg (bh h++[Zi bN]),AV.str s,.aG 4 1 fun r k=>aO (List.getD [[Zi a,Zi b,.aG 1 n fun i x=>Zb (f i),.aG 4 m g]] (r+0) []) k] (.agg [Zi 3,Zi 0,dn 0 fun x=>(0:Int),.aG 4 3 F]) (.sc true 320 (y2) (.bool true) (.ff (.dc true 275 (y2) (il IntKind.u8 E) (.br (bN==1000||decide ((↑(List.length E):Int)>16384)) (.out (.aT [.agg y0,Zi 5]) [] y1 []) (.sc true 83 [AV.str { data := #[(115:UInt8),112,101,99,105,101,47,97,98,115,111,114,98] },.aG 1 (List.length E) fun i x=>Zb (List.getD E i (0:Int))] (.agg (bh T)) (.out (.aT [.agg (bh T++[Zi (wrap .i64 (bN+1))]),Zi 0]) [] y1 [])))))))))))
  (by kernel_rfl) ?_
 refine aM (c2) ?_
 refine aV (fun h1=>c1) ?_
 refine aL (fun h2=>?_) (fun h2=>?_)
 ·have g2:=(az (aB (aj aa aa)) aC) h2
  exact aq ((by exfalso;rcases g2 with g2|g2;(· omega);(· cases g2)))
 ·have g2:=(au (ay (ah af af)) aF) h2
  refine bM (c3) ?_
  refine aM (c4) ?_
  refine b9 ?_
  refine bM (c5) ?_
  refine aL (fun h8=>?_) (fun h8=>?_)
  ·have g8:=(az ai af) h8
   exact aq ((by exfalso;omega))
  ·have g8:=(au ao aa) h8
   refine aM (c6) ?_
   exact aq (aw.of_eq (by rw [wI (by omega) (by omega)]))
theorem qV (s:ByteArray) (h:Nat→Int) (bN:Int) (hc:0≤bN∧bN<1000) (hl:eS s=true) (hb:cC h 32) (x:It) (H:BX x) (a b:Int) (n m:Nat) (f:Nat→Int) (g:Nat→Nat→AV) (hx:∀ k,k<4→aw [] (aO [.int .i64 a,.int .i64 b,dn n f,.aG 4 m g] k) (aO x.cells k)) :
  Pure Tryz.prog aW 285 [.agg (bh h++[.int .i64 bN]),.str s,.agg [.int .i64 a,.int .i64 b,dn n f,.aG 4 m g]] (.aT [.agg (bh (jG h s x)++[.int .i64 (bN+1)]),.int .i64 0]) :=
 AE s h bN hc hl a b n m f g (fl h s [x]).row (fl h s [x]).enc (by rw [kx];have:=H.len;have:=(gE hl).hi;omega) _
  ((zM s h bN (gE hl).hi x a b n m f g hx).via ⟨aw.refl _,aw.refl _,aw.aG fun i k hi _=>by obtain rfl:i=0:=Nat.lt_one_iff.1 hi;rfl,trivial⟩)
  (DB (fl h s [x]) (zn h s H.ok)) (lP (fl h s [x]) (by rw [kx];have:=H.len;have:=(gE hl).hi;omega))
  (fw "specie/absorb".toUTF8 (by decide) (fun k=>(fl h s [x]).enc.getD k 0) (fl h s [x]).enc.length (by rw [kx];have:=H.len;have:=(gE hl).hi;omega) (It.gY (vC hb H.by')))
theorem GN (s:ByteArray) (h:Nat→Int) (bN:Int) (hc:0≤bN∧bN<1000) (hl:eS s=true) (q:Int) (hq:2≤q∧q<2305843009213693952) (F:Nat→Nat→AV) (E:List Int) (T:Nat→Int) (hT:cC T 32) (N:Nat→Int)
  (c3:Pure Tryz.prog aW 288 [.agg (bh h++[.int .i64 bN]),.str s,.bc] (.agg [.int .i64 3,.int .i64 0,dn 0 (fun _=>0),.aG 4 2 F]))
  (c4:Pure Tryz.prog aW 275 [.agg [.int .i64 3,.int .i64 0,dn 0 (fun _=>0),.aG 4 2 F]] (il .u8 E))
  (c5:Pure Tryz.prog aW 83 [.str "specie/challenge".toUTF8,il .u8 E] (.agg (bh T)))
  (c7:Pure Tryz.prog aW 285 [.agg (bh h++[.int .i64 bN]),.str s,.agg [.int .i64 1,.int .i64 (cB T q 16),.bc,.bc]] (.aT [.agg (bh N++[.int .i64 (bN+1)]),.int .i64 0])) :
  Pure Tryz.prog aW 223 [.agg (bh h++[.int .i64 bN]),.str s,.int .i64 q] (.aT [.agg (bh N++[.int .i64 (bN+1)]),.int .i64 (cB T q 16),.int .i64 0]):=by
 have v1:=(gE hl).hi
 have c1:=wH s (by omega)
 rw [hl] at c1
 have c2:=zi h bN
 have c6:=nq T q (by omega) hq.2 hT
 refine ar (own:=bk) Tryz.func223 (by kernel_rfl) mixed (by kernel_rfl)
  (let z1:=(bh h++[Zi bN]);let z0:=(decide (bN≥0)&&decide (bN≤1000));let y0:List AV:=[Zb 0,Zb 0,Zb 0,Zb 0,Zb 0,Zb 0,Zb 0,Zb 0,Zb 0,Zb 0,Zb 0,Zb 0,Zb 0,Zb 0,Zb 0,Zb 0,Zb 0,Zb 0,Zb 0,Zb 0,Zb 0,Zb 0,Zb 0,Zb 0,Zb 0,Zb 0,Zb 0,Zb 0,Zb 0,Zb 0,Zb 0,Zb 0,Zi 0];let y1:AV:=(.aT [.agg (bh N++[Zi (bN+1)]),Zi (cB T q 16),Zi 0]);(.sc true 287 [.agg z1] (.bool z0) (.sc ((!z0)==false) 142 [AV.str s] (.bool true) (.br (!z0||false) (.out (.aT [.agg y0,Zi 0,Zi 1]) [] y1 []) (.br (decide (q<2)||decide (q≥2305843009213693952)) (.out (.aT [.agg y0,Zi 0,Zi 2]) [] y1 []) (.br (bN==1000) (.out (.aT [.agg y0,Zi 0,Zi 5]) [] y1 []) (.dc true 288 [.agg z1,AV.str s,.bc] (.agg [Zi 3,Zi 0,dn 0 fun x=>(0:Int),.aG 4 2 F]) (.dc true 275 [.agg [Zi 3,Zi 0,.aG 1 0 fun i x=>Zb 0,.aG 4 2 F]] (il IntKind.u8 E) (.sc true 83 [AV.str { data := #[(115:UInt8),112,101,99,105,101,47,99,104,97,108,108,101,110,103,101] },.aG 1 (List.length E) fun i x=>Zb (List.getD E i (0:Int))] (.agg (bh T)) (.sc true 274 [.agg (bh T),Zi q] (Zi (cB T q 16)) (.sc true 285 [.agg z1,AV.str s,.agg [Zi 1,Zi (cB T q 16),.bc,.bc]] (.aT [.agg (bh N++[Zi (bN+1)]),Zi 0]) (.out y1 [] y1 []))))))))))))
  (by kernel_rfl) ?_
 refine aM (c2) ?_
 refine aV (fun h1=>c1) ?_
 refine aL (fun h2=>?_) (fun h2=>?_)
 ·have g2:=(az (aB (aj aa aa)) aC) h2
  exact aq ((by exfalso;rcases g2 with g2|g2;(· omega);(· cases g2)))
 ·have g2:=(au (ay (ah af af)) aF) h2
  refine aL (fun h4=>?_) (fun h4=>?_)
  ·have g4:=(az af af) h4
   exact aq ((by exfalso;omega))
  ·have g4:=(au aa aa) h4
   refine aL (fun h6=>?_) (fun h6=>?_)
   ·have g6:=ai h6
    exact aq (aw.of_eq (by simp_all))
   ·have g6:=ao h6
    refine bM (c3) ?_
    refine bM (c4) ?_
    refine aM (c5) ?_
    refine aM (c6) ?_
    refine aM (c7) ?_
    exact aq (aw.of_eq rfl)
theorem Au (s:ByteArray) (h:Nat→Int) (bN:Int) (hc:0≤bN∧bN<1000) (hl:eS s=true) (hb:cC h 32) (c:Int) :
  Pure Tryz.prog aW 285 [.agg (bh h++[.int .i64 bN]),.str s,.agg [.int .i64 1,.int .i64 c,.bc,.bc]] (.aT [.agg (bh (jG h s (.int c))++[.int .i64 (bN+1)]),.int .i64 0]) :=
 (qV s h bN hc hl hb (.int c) (C6 c) 1 c 0 0 (It.int c).fb (It.int c).row (fun k hk=>aw.refl _)).via ⟨aw.refl _,aw.refl _,aw.agg ⟨aw.refl _,aw.refl _,aw.bc,aw.bc,trivial⟩,trivial⟩
theorem DH (s:ByteArray) (h:Nat→Int) (bN:Int) (hc:0≤bN∧bN<1000) (hl:eS s=true) (hb:cC h 32) (q:Int) (hq:2≤q∧q<2305843009213693952) :
  Pure Tryz.prog aW 223 [.agg (bh h++[.int .i64 bN]),.str s,.int .i64 q] (.aT [.agg (bh (jG h s (.int (v3 h s q)))++[.int .i64 (bN+1)]),.int .i64 (v3 h s q),.int .i64 0]) :=
 GN s h bN hc hl q hq (fl h s []).row (fl h s []).enc _ (jd _ _ _) _ (Ab s h bN (gE hl).hi) (lP (fl h s []) (by rw [mF];have:=(gE hl).hi;omega))
  (fw "specie/challenge".toUTF8 (by decide) (fun k=>(fl h s []).enc.getD k 0) (fl h s []).enc.length (by rw [mF];have:=(gE hl).hi;omega) (It.gY (vL hb)))
  (Au s h bN hc hl hb (v3 h s q))
theorem AU (l:List Int) (hl:l.length≤1000000):Pure Tryz.prog aW 286 [il .i64 l] (bu l).av:=by
 refine ar (own:=bk) Tryz.func286 (by kernel_rfl) mixed (by kernel_rfl)
  (let z0:List AV:=[Zi 0,Zi 0,.bc,.bc];let y0:=(fun (x:{ x:Nat // x≤List.length l })=>aY [0,2,3,4] [.aG 1 (List.length l) fun i x=>Zi (List.getD l i (0:Int)),.own 0 4 0 0 4,.own 1 4 0 0 4,Zi x.1] [some ⟨4,1,true,.ba [z0]⟩,some ⟨4,1,true,.ba [[Zi 3,Zi 0,.bc,.aZ 2 4 0 (x.1)]]⟩,some ⟨4,x.1,true,bz.row fun i=>It.cells (It.int (List.getD l i (0:Int)))⟩]);let y1:=(fun (x:{ x:Nat // x≤List.length l })=>List.length l - x.1);(.loop ({ x:Nat // x≤List.length l }) y0 y1 (⟨0,Nat.zero_le (List.length l)⟩) [0,2,3,4] [0,16,1066] [.aG 1 (List.length l) fun i x=>Zi (List.getD l i (0:Int)),.own 0 4 0 0 4,.own 1 4 0 0 4,Zi 0] [some ⟨4,1,true,.ba [z0]⟩,some ⟨4,1,true,.ba [[Zi 3,Zi 0,.bc,.bc]]⟩,some ⟨4,0,true,.ty (999999999:TypeId) (.ba [])⟩] (fun x0=>(.br (decide ((x0.1:Int)<(↑(List.length l):Int))) (.bf (0≤(x0.1:Int)∧(x0.1:Int)<(↑(List.length l):Int)) (.bf ((x0.1+1)*64≤140737488355328) (.again (be 0 y0 y1 x0) [0,2,3,4] [0,1,99] [.aG 1 (List.length l) fun i x=>Zi (List.getD l i (0:Int)),.own 0 4 0 0 4,.own 1 4 0 0 4,Zi (wrap .i64 ((x0.1:Int)+1))] [some ⟨4,1,true,.ba [z0]⟩,some ⟨4,1,true,.ba [[Zi 3,Zi 0,.bc,.aZ 2 4 0 (x0.1+1)]]⟩,some ⟨4,x0.1+1,true,bz.cat x0.1 (bz.row fun i=>[Zi (It.kind (It.int (List.getD l i (0:Int)))),Zi (It.num (It.int (List.getD l i (0:Int)))),.aG 1 0 fun i_1 x=>Zb (It.fb (It.int (List.getD l i (0:Int))) i_1),.aG 4 0 (It.row (It.int (List.getD l i (0:Int))))]) (.ba [[Zi 1,Zi (List.getD l (toNat (↑(x0.1):Int)) (0:Int)),.bc,.bc]])⟩]))) (.out (.agg [Zi 3,Zi 0,.bc,.aG 4 x0.1 fun r k=>aO [Zi (It.kind (It.int (List.getD l (r+0) (0:Int)))),Zi (It.num (It.int (List.getD l (r+0) (0:Int)))),.aG 1 0 fun i x=>Zb (It.fb (It.int (List.getD l (r+0) (0:Int))) i),.aG 4 0 (It.row (It.int (List.getD l (r+0) (0:Int))))] k]) [] (It.av (bu l)) [])))))
  (by kernel_rfl) ?_
 refine aU (fun _ hs=>hs.le (⟨.refl _,.refl _,.refl _,.refl _,trivial⟩) (by repeat' (first|exact trivial|(first|exact aH.refl _|exact aH.bw|exact aH.zero|exact aH.push rfl rfl|exact aH.cm rfl|exact aH.len (by omega)|exact aH.row (by repeat' (first|exact trivial|(first|exact aw.refl _|exact aJ (by omega)|exact aw.nil rfl|exact aw.of_eq (congrArg (AV.aZ _ _ _) (by first|omega|(dsimp only;omega)))|exact aw.of_eq (congrArg (AV.int _) (by first|omega|(dsimp only;omega))))|refine And.intro ?_ ?_)))|refine And.intro ?_ ?_))) (fun x0=>?_)
 try (have q0:=x0.2;dsimp only at q0)
 refine aL (fun h1=>?_) (fun h1=>?_)
 ·have g1:=af h1
  refine aD (by omega) ?_
  refine aD (by omega) ?_
  exact aN (⟨x0.1+1,by omega⟩) (fun _ hs=>hs.le (⟨.refl _,.refl _,.refl _,aJ (by omega),trivial⟩) (⟨.refl _,.refl _,qb rfl rfl,trivial⟩)) (by dsimp only;omega)
 ·have g1:=aa h1
  exact aq (pL (by omega))
theorem nR (s:ByteArray) (h:Nat→Int) (bN:Int) (hc:0≤bN∧bN<1000) (hl:eS s=true) (hb:cC h 32) (l:List Int) (hn:l.length≤100) :
  Pure Tryz.prog aW 222 [.agg (bh h++[.int .i64 bN]),.str s,il .i64 l] (.aT [.agg (bh (jG h s (bu l))++[.int .i64 (bN+1)]),.int .i64 0]):=by
 have c1:=AU l (by omega)
 have c2:=qV s h bN hc hl hb (bu l) (xW l hn) (bu l).kind (bu l).num (bu l).nb (bu l).nl (bu l).fb (bu l).row (fun k hk=>aw.refl _)
 refine ar (own:=bk) Tryz.func222 (by kernel_rfl) mixed (by kernel_rfl)
  (let y0:AV:=(.aT [.agg (bh (jG h s (bu l))++[Zi (bN+1)]),Zi 0]);(.dc true 286 [.aG 1 (List.length l) fun i x=>Zi (List.getD l i (0:Int))] (It.av (bu l)) (.sc true 285 [.agg (bh h++[Zi bN]),AV.str s,.agg [Zi (It.kind (bu l)),Zi (It.num (bu l)),.aG 1 0 fun i x=>Zb (It.fb (bu l) i),.aG 4 (It.nl (bu l)) (It.row (bu l))]] y0 (.out y0 [] y0 []))))
  (by kernel_rfl) ?_
 refine bM (c1) ?_
 refine aM (c2) ?_
 exact aq (aw.refl _)
theorem Lz (G:bL) (c:Int):Pure Tryz.prog aW 255 [G.av,.int .i64 c] (.bool (bG G c)):=by
 refine ar (own:=bk) Tryz.func255 (by kernel_rfl) mixed (by kernel_rfl)
  (.out (.bool (decide (c≥0)&&decide (c<G.2))) [] (.bool (bG G c)) [])
  (by kernel_rfl) ?_
 exact aq (aw.of_eq rfl)
theorem HN (G:bL) (b:Int) (hw:G.W):Pure Tryz.prog aW 180 [G.av,.int .i64 b] (.bool (b != 1&&(bp G&&aQ G b))):=by
 have c1:=er G b hw
 refine ar (own:=bk) Tryz.func180 (by kernel_rfl) mixed (by kernel_rfl)
  (let y0:AV:=(.bool (b != 1&&(bp G&&aQ G b)));(.sc ((b != 1)==true) 61 [.agg [Zi G.1,Zi G.2,Zi G.3],Zi b] (.bool (bp G&&aQ G b)) (.out y0 [] y0 [])))
  (by kernel_rfl) ?_
 refine aV (fun h0=>c1) ?_
 exact aq (aw.of_eq rfl)
theorem AG (G:bL) (p:Pf) (hw:G.W):Pure Tryz.prog aW 181 [G.av,.agg p.cells] (.bool (decide ((p.na:Int)=1)&&(bp G&&aQ G (p.a 0))&&bG G p.c&&decide ((p.nz:Int)=1)&&bG G (p.z 0))):=by
 have c1:=er G (p.a 0) hw
 have c2:=Lz G
 refine ar (own:=bk) Tryz.func181 (by kernel_rfl) mixed (by kernel_rfl)
  (let z1:=(bp G&&aQ G (Pf.a p 0));let z0:=(bp G&&aQ G (p.2 0));let y0:List AV:=[Zi G.1,Zi G.2,Zi G.3];(.bf ((((p.1:Int)==1)==true)=true→(0:Int)≤0∧(0:Int)<(p.1:Int)) (.sc (((p.1:Int)==1)==true) 61 [.agg y0,Zi (p.2 0)] (.bool z1) (.sc (((p.1:Int)==1&&z0)==true) 255 [.agg y0,Zi p.3] (.bool (bG G p.3)) (.bf ((((p.1:Int)==1&&z0&&bG G p.3&&(p.4:Int)==1)==true)=true→(0:Int)≤0∧(0:Int)<(p.4:Int)) (.sc (((p.1:Int)==1&&z0&&bG G p.3&&(p.4:Int)==1)==true) 255 [.agg y0,Zi (p.5 0)] (.bool (bG G (p.5 0))) (.out (.bool ((p.1:Int)==1&&z0&&bG G p.3&&(p.4:Int)==1&&bG G (p.5 0))) [] (.bool (decide ((↑(Pf.na p):Int)=(1:Int))&&z1&&bG G (Pf.c p)&&decide ((↑(Pf.nz p):Int)=(1:Int))&&bG G (Pf.z p 0))) [])))))))
  (by kernel_rfl) ?_
 refine aD (fun hr=>by have hr:=(cJ ai) hr;omega) ?_
 refine aV (fun h1=>c1) ?_
 refine aV (fun h2=>c2 (p.3)) ?_
 refine aD (fun hr=>by have hr:=(cJ (ah (ah (ah ai (ah aC aC)) aC) ai)) hr;omega) ?_
 refine aV (fun h4=>c2 (p.5 (0))) ?_
 exact aq (aw.of_eq rfl)
end Go.Proofs.YtgnfjlekpgjehaaGreatDoor

namespace Go.Sp
open Go.IntKind (wrap)
open Int (toNat)
open Go Go.Am
theorem N8 {G:bL} (h:G.Ok):bp G=true:=bn.2 h
theorem bJ {G:bL} {x:Int} (h:bG G x=true):0≤x∧x<G.q:=ka.1 h
structure P3 (G : bL) (p : Pf) : Prop where
  na : p.na = 1
  nz : p.nz = 1
  a : aQ G (p.a 0) = true
  c : 0 ≤ p.c ∧ p.c < G.q
  z : 0 ≤ p.z 0 ∧ p.z 0 < G.q
theorem eM {x:Bool} (h:x=true→False):x=false:=by grind
structure Gy (G : bL) (b y : Int) (p : Pf) : Prop where
  vg : bp G = true
  b1 : b ≠ 1
  eb : aQ G b = true
  ey : aQ G y = true
  na : p.na = 1
  nz : p.nz = 1
  a : aQ G (p.a 0) = true
  c : bG G p.c = true
  z : bG G (p.z 0) = true
theorem ra {G:bL} {b y:Int} {p:Pf} (h:jO G b y p=true):Gy G b y p:=by
 simp only [jO,ov,pg,bV,Bool.and_eq_true,bne_iff_ne] at h
 exact ⟨h.1.1.1.1,h.1.1.1.2.1,h.1.1.1.2.2,h.1.1.2,Nat.eq_of_beq_eq_true h.1.2.1.1.1.1,Nat.eq_of_beq_eq_true h.1.2.1.1.1.2,h.1.2.1.1.2,h.1.2.1.2,h.1.2.2⟩
theorem Js {G:bL} {b y:Int} {p:Pf} (h:Gy G b y p):jO G b y p=(b^(p.z 0).toNat%G.p==p.a 0*(y^p.c.toNat%G.p)%G.p):=by
 unfold jO ov pg bV
 rw [h.vg,h.eb,h.ey,h.na,h.nz,h.a,h.c,h.z,bne_iff_ne.2 h.b1];rfl
theorem lH {G:bL} {b y:Int} {p:Pf} (g:((bp G=true∧(¬b=1∧(bp G=true∧aQ G b=true)))∧(bp G=true∧aQ G y=true))∧(((((p.na:Int)=1∧(bp G=true∧aQ G (p.a 0)=true))∧bG G p.c=true)∧(p.nz:Int)=1)∧bG G (p.z 0)=true)):Gy G b y p :=
 ⟨g.1.1.1,g.1.1.2.1,g.1.1.2.2.2,g.1.2.2,by omega,by omega,g.2.1.1.1.2.2,g.2.1.1.2,g.2.2⟩
theorem J1 {G:bL} {b y:Int} {p:Pf} (h:ov G b y=false∨pg G p=false):jO G b y p=false:=by grind [jO]
theorem sO {G:bL} {b y:Int}:ov G b y=true↔bp G=true∧(b≠1∧aQ G b=true)∧aQ G y=true:=by
 simp [ov,bV,and_assoc]
def vQ (G:bL) (b y:Int):Int:=if bp G=true then (if ov G b y=true then 0 else 2) else 1
theorem Nw {G:bL} {b y:Int} (h:bp G=false):vQ G b y=1:=if_neg (by grind)
theorem MO {G:bL} {b y:Int} (h:bp G=true) (k:ov G b y=false):vQ G b y=2:=by simp_all [vQ]
theorem IV {G:bL} {b y:Int} (k:ov G b y=true):vQ G b y=0:=by simp_all [vQ,sO]
theorem Jy {G:bL} {b y:Int} (h:vQ G b y=0):ov G b y=true:=by grind [vQ]
theorem gZ {G:bL} {b y:Int} {p:Pf} (h:vQ G b y=0) (k:pg G p=true):Gy G b y p:=by
 have h:=sO.1 (Jy h)
 simp only [pg,Bool.and_eq_true] at k
 exact ⟨h.1,h.2.1.1,h.2.1.2,h.2.2,Nat.eq_of_beq_eq_true k.1.1.1.1,Nat.eq_of_beq_eq_true k.1.1.1.2,k.1.1.2,k.1.2,k.2⟩
theorem KX {G:bL} {b y:Int} {p:Pf} (g:¬vQ G b y=0∨pg G p=false):jO G b y p=false:=by
 refine J1 (g.imp (fun g=>eM fun h=>g (IV h)) id)
theorem PZ {p:Pf} {x y z:Bool}:(decide ((p.na:Int)=1)&&decide ((p.nz:Int)=1)&&x&&y&&z)=(Nat.beq p.na 1&&Nat.beq p.nz 1&&x&&y&&z):=by
 have e1:decide ((p.na:Int)=1)=Nat.beq p.na 1:=by
  cases e:Nat.beq p.na 1 with
  | true=>simp_all
  | false=>exact decide_eq_false fun h=>by rw [show p.na=1 by omega] at e;cases e
 grind [decide,Int,Nat.beq,Nat.eq_of_beq_eq_true,decide_eq_true,decide_eq_false]
theorem Dz {G:bL} {b y:Int} (h:bp G=true) (g:bV G b=false∨aQ G y=false):vQ G b y=2:=MO h (by grind [ov])
theorem Nt {G:bL} {b y:Int} (h:bp G=true) (g:bV G b=true∧aQ G y=true):vQ G b y=0:=IV (by grind [ov])
theorem oQ {b:aI} (h:b.Ok):(0≤b.gr.g∧b.gr.g<b.gr.p)∧(0≤b.g1∧b.g1<b.gr.p)∧0≤b.g2∧b.g2<b.gr.p :=
 ⟨⟨by have:=h.G.g2;omega,h.G.g1⟩,cd h.G h.e1,cd h.G h.e2⟩
def mK (b:aI) (y:Int):Int:=if aR b=true then (if bV b.gr y=true then (if fM b y b.g2=1 then 10 else 0) else 2) else 1
def mo (b:aI) (y:Int):Int:=if mK b y=0 then fM b y b.g2 else 0
theorem OB {b:aI} {y:Int} (h:aR b=false):mK b y=1:=if_neg (by grind)
theorem M3 {b:aI} {y:Int} (h:aR b=true) (h':bV b.gr y=false):mK b y=2:=by simp_all [mK]
theorem OW {b:aI} {y:Int} (h:aR b=true) (h':bV b.gr y=true) (k:fM b y b.g2=1):mK b y=10:=by simp_all [mK]
theorem IN {b:aI} {y:Int} (h:aR b=true) (h':bV b.gr y=true) (k:¬fM b y b.g2=1):mK b y=0:=by simp_all [mK]
theorem wq {b:aI} {y:Int}:oU b y=true↔aR b=true∧bV b.gr y=true∧fM b y b.g2≠1:=by
 simp [oU,and_assoc]
theorem Dc {b:aI} {y:Int}:(mK b y==0)=oU b y:=by grind [oU,wq,IN,aR,bV,fM,mK,beq_eq_false_iff_ne]
theorem oG {G:bL} {x:Int}:bV G x=true↔x≠1∧aQ G x=true:=by simp [bV]
theorem OS {G:bL} {x:Int} (h:x=1∨aQ G x=false):bV G x=false:=by grind [bV]
theorem JN {G:bL} {x:Int} (hG:bp G=true) (h:x=1∨(bp G=false∨aQ G x=false)):bV G x=false :=
 OS (h.imp id fun h=>h.elim (fun h=>by grind) id)
theorem Px {b:aI} {y:Int} (h:aR b=false):AV.aT [.int .i64 0,.int .i64 1]=.aT [.int .i64 (mo b y),.int .i64 (mK b y)]:=by grind [mo,OB]
theorem Pv {b:aI} {y:Int} (h:aR b=true) (g:y=1∨(bp b.gr=false∨aQ b.gr y=false)):AV.aT [.int .i64 0,.int .i64 2]=.aT [.int .i64 (mo b y),.int .i64 (mK b y)]:=by
 rw [mo,M3 h (JN (N8 (bE.1 h).G) g)];rfl
theorem PB {b:aI} {y:Int} (h:aR b=true) (g:¬y=1∧(bp b.gr=true∧aQ b.gr y=true)) (k:y*b.g2%b.gr.p=1):AV.aT [.int .i64 0,.int .i64 10]=.aT [.int .i64 (mo b y),.int .i64 (mK b y)]:=by
 rw [mo,OW h (oG.2 ⟨g.1,g.2.2⟩) k];rfl
theorem PG {b:aI} {y:Int} (h:aR b=true) (g:¬y=1∧(bp b.gr=true∧aQ b.gr y=true)) (k:¬y*b.g2%b.gr.p=1):AV.aT [.int .i64 (y*b.g2%b.gr.p),.int .i64 0]=.aT [.int .i64 (mo b y),.int .i64 (mK b y)]:=by
 rw [mo,IN h (oG.2 ⟨g.1,g.2.2⟩) k];rfl
end Go.Sp

namespace Go.Proofs.YtgnfjlekpgjehaaGreatDoor
open Go.IntKind (wrap)
open Int (toNat)
open Go Go.Am Go.Sp
set_option maxRecDepth 100000
theorem FE (G:bL) (b y:Int) (p:Pf) (hw:G.W):Pure Tryz.prog aW 118 [G.av,.int .i64 b,.int .i64 y,.agg p.cells] (.bool (jO G b y p)):=by
 have c1:=kA G hw
 have c2:=HN G b hw
 have c3:=er G y hw
 have c4:=AG G p hw
 have c5:=fun x e h hx he=>nH G x e h hw hx he
 have c6:=fun x z h hx hz=>pR G x z h hw hx hz
 refine ar (own:=bk) Tryz.func118 (by kernel_rfl) mixed (by kernel_rfl)
  (let z2:=(y^toNat p.3%G.1);let z1:=(bp G&&aQ G y);let z0:=(b != 1&&(bp G&&aQ G b));let y0:List AV:=[Zi G.1,Zi G.2,Zi G.3];(.sc true 60 [.agg y0] (.bool (bp G)) (.sc ((!bp G)==false) 180 [.agg y0,Zi b] (.bool z0) (.sc ((!bp G || !z0)==false) 61 [.agg y0,Zi y] (.bool z1) (.sc ((!bp G || !z0 || !z1)==false) 181 [.agg y0,.agg [.aG 1 p.1 fun i x=>Zi (p.2 i),Zi p.3,.aG 1 p.4 fun i x=>Zi (p.5 i)]] (.bool (decide ((↑(Pf.na p):Int)=(1:Int))&&(bp G&&aQ G (Pf.a p 0))&&bG G (Pf.c p)&&decide ((↑(Pf.nz p):Int)=(1:Int))&&bG G (Pf.z p 0))) (.br (!bp G || !z0 || !z1 || !(decide ((p.1:Int)=(1:Int))&&(bp G&&aQ G (p.2 0))&&bG G p.3&&decide ((p.4:Int)=(1:Int))&&bG G (p.5 0))) (.out (.bool false) [] (.bool (jO G b y p)) []) (.bf ((0:Int)≤0∧(0:Int)<(p.4:Int)) (.sc true 107 [.agg y0,Zi b,Zi (p.5 0)] (.aT [Zi (b^toNat (p.5 0)%bL.p G),Zi 0]) (.sc true 107 [.agg y0,Zi y,Zi p.3] (.aT [Zi (y^toNat p.3%bL.p G),Zi 0]) (.bf ((0:Int)≤0∧(0:Int)<(p.1:Int)) (.sc true 117 [.agg y0,Zi (p.2 0),Zi z2] (.aT [Zi (p.2 0*z2%bL.p G),Zi 0]) (.out (.bool (b^toNat (p.5 0)%G.1==p.2 0*z2%G.1)) [] (.bool (jO G b y p)) []))))))))))))
  (by kernel_rfl) ?_
 refine aM (c1) ?_
 refine aV (fun h1=>c2) ?_
 refine aV (fun h2=>c3) ?_
 refine aV (fun h3=>c4) ?_
 refine aL (fun h4=>?_) (fun h4=>?_)
 ·have g4:=(az (az (az (aB aF) (aB (aj aP (aj aF aF)))) (aB (aj aF aF))) (aB (aj (aj (aj (aj aa (aj aF aF)) aF) aa) aF))) h4
  exact aq (aw.of_eq (congrArg AV.bool (eM fun h=>by have k:=ra h;have k1:=k.1;have k2:=k.2;have k3:=k.3;have k4:=k.4;have k5:=k.5;have k6:=k.6;have k7:=k.7;have k8:=k.8;have k9:=k.9;grind).symm))
 ·have g4:=(au (au (au (ay aC) (ay (ah aS (ah aC aC)))) (ay (ah aC aC))) (ay (ah (ah (ah (ah af (ah aC aC)) aC) af) aC))) h4
  refine aD (by omega) ?_
  refine aM (c5 (b) (p.5 (0)) (by have k:=lH g4;first|exact bn.1 k.vg|exact k.eb|exact k.ey|exact k.a|exact bJ k.z|exact bJ k.c|exact dL (bn.1 k.vg) k.ey _) (by have k:=lH g4;first|exact bn.1 k.vg|exact k.eb|exact k.ey|exact k.a|exact bJ k.z|exact bJ k.c|exact dL (bn.1 k.vg) k.ey _) (by have k:=lH g4;first|exact bn.1 k.vg|exact k.eb|exact k.ey|exact k.a|exact bJ k.z|exact bJ k.c|exact dL (bn.1 k.vg) k.ey _)) ?_
  refine aM (c5 (y) (p.3) (by have k:=lH g4;first|exact bn.1 k.vg|exact k.eb|exact k.ey|exact k.a|exact bJ k.z|exact bJ k.c|exact dL (bn.1 k.vg) k.ey _) (by have k:=lH g4;first|exact bn.1 k.vg|exact k.eb|exact k.ey|exact k.a|exact bJ k.z|exact bJ k.c|exact dL (bn.1 k.vg) k.ey _) (by have k:=lH g4;first|exact bn.1 k.vg|exact k.eb|exact k.ey|exact k.a|exact bJ k.z|exact bJ k.c|exact dL (bn.1 k.vg) k.ey _)) ?_
  refine aD (by omega) ?_
  refine aM (c6 (p.2 (0)) (y^toNat p.3%G.1) (by have k:=lH g4;first|exact bn.1 k.vg|exact k.eb|exact k.ey|exact k.a|exact bJ k.z|exact bJ k.c|exact dL (bn.1 k.vg) k.ey _) (by have k:=lH g4;first|exact bn.1 k.vg|exact k.eb|exact k.ey|exact k.a|exact bJ k.z|exact bJ k.c|exact dL (bn.1 k.vg) k.ey _) (by have k:=lH g4;first|exact bn.1 k.vg|exact k.eb|exact k.ey|exact k.a|exact bJ k.z|exact bJ k.c|exact dL (bn.1 k.vg) k.ey _)) ?_
  exact aq (aw.of_eq (congrArg AV.bool (Js (lH g4)).symm))
def owQ (n:Nat):FuncId→Option (List Bool):=fun f=>bif Nat.beq f 999999999 then some (List.replicate n true) else none
theorem MI (s:ByteArray) (h:Nat→Int) (bN:Int) (hc:0≤bN∧bN<1000) (hl:eS s=true) (hb:cC h 32) (x y z:Int) :
  Pure Tryz.prog aW 183 [.agg (bh h++[.int .i64 bN]),.str s,.aG 1 3 fun r k=>aO (List.getD [[.int .i64 x],[.int .i64 y],[.int .i64 z]] r []) k] (.aT [.agg (bh (jG h s (bu [x,y,z]))++[.int .i64 (bN+1)]),.int .i64 0]) :=
 (rN s h bN hc hl hb [x,y,z] (Nat.le_of_ble_eq_true rfl)).via ⟨aw.refl _,aw.refl _,eO rfl rfl,trivial⟩
theorem NC (s:ByteArray) (h:Nat→Int) (bN:Int) (hc:0≤bN∧bN<1000) (hl:eS s=true) (hb:cC h 32) (x y:Int) :
  Pure Tryz.prog aW 183 [.agg (bh h++[.int .i64 bN]),.str s,.aG 1 2 fun r k=>aO (List.getD [[.int .i64 x],[.int .i64 y]] r []) k] (.aT [.agg (bh (jG h s (bu [x,y]))++[.int .i64 (bN+1)]),.int .i64 0]) :=
 (rN s h bN hc hl hb [x,y] (Nat.le_of_ble_eq_true rfl)).via ⟨aw.refl _,aw.refl _,eO rfl rfl,trivial⟩
theorem Nm (s:ByteArray) (h:Nat→Int) (bN:Int) (hc:0≤bN∧bN<1000) (hl:eS s=true) (hb:cC h 32) (x:Int) :
  Pure Tryz.prog aW 183 [.agg (bh h++[.int .i64 bN]),.str s,.aG 1 1 fun r k=>aO (List.getD [[.int .i64 x]] r []) k] (.aT [.agg (bh (jG h s (bu [x]))++[.int .i64 (bN+1)]),.int .i64 0]) :=
 (rN s h bN hc hl hb [x] (Nat.le_of_ble_eq_true rfl)).via ⟨aw.refl _,aw.refl _,eO rfl rfl,trivial⟩
theorem HE (G:bL) (b y a:Int) (s:ByteArray) (N A B C:Nat→Int) (c:Int)
  (c1:Pure Tryz.prog aW 182 [.str s] (.aT [.agg (bh N++[.int .i64 0]),.int .i64 0]))
  (c2:Pure Tryz.prog aW 183 [.agg (bh N++[.int .i64 0]),.str "group".toUTF8,.aG 1 3 fun r k=>aO (List.getD [[.int .i64 G.p],[.int .i64 G.q],[.int .i64 G.g]] r []) k] (.aT [.agg (bh A++[.int .i64 1]),.int .i64 0]))
  (c3:Pure Tryz.prog aW 183 [.agg (bh A++[.int .i64 1]),.str "statement".toUTF8,.aG 1 2 fun r k=>aO (List.getD [[.int .i64 b],[.int .i64 y]] r []) k] (.aT [.agg (bh B++[.int .i64 2]),.int .i64 0]))
  (c4:Pure Tryz.prog aW 183 [.agg (bh B++[.int .i64 2]),.str "commitment".toUTF8,.aG 1 1 fun r k=>aO (List.getD [[.int .i64 a]] r []) k] (.aT [.agg (bh C++[.int .i64 3]),.int .i64 0]))
  (D:Nat→Int) (c5:Pure Tryz.prog aW 184 [.agg (bh C++[.int .i64 3]),.str "challenge".toUTF8,.int .i64 G.q] (.aT [.agg (bh D++[.int .i64 4]),.int .i64 c,.int .i64 0])) :
  Pure Tryz.prog aW 119 [G.av,.int .i64 b,.int .i64 y,.int .i64 a,.str s] (.aT [.int .i64 c,.int .i64 0]):=by
 refine ar (own:=(owQ 4)) Tryz.func119 (by kernel_rfl) mixed (by kernel_rfl)
  (.sc true 182 [AV.str s] (.aT [.agg (bh N++[Zi 0]),Zi 0]) (.ff (.tt (.bf ((0:Int)≤0∧(0:Int)<3) (.sc true 183 [.agg (bh N++[Zi 0]),AV.str { data := #[(103:UInt8),114,111,117,112] },.aG 1 3 fun r k=>aO (List.getD [[Zi G.1],[Zi G.2],[Zi G.3]] (r+0) []) k] (.aT [.agg (bh A++[Zi 1]),Zi 0]) (.ff (.tt (.bf ((0:Int)≤wrap .i64 ((0:Int)+1)∧wrap .i64 ((0:Int)+1)<3) (.sc true 183 [.agg (bh A++[Zi 1]),AV.str { data := #[(115:UInt8),116,97,116,101,109,101,110,116] },.aG 1 2 fun r k=>aO (List.getD [[Zi b],[Zi y]] (r+0) []) k] (.aT [.agg (bh B++[Zi 2]),Zi 0]) (.ff (.tt (.bf ((0:Int)≤wrap .i64 (wrap .i64 ((0:Int)+1)+1)∧wrap .i64 (wrap .i64 ((0:Int)+1)+1)<3) (.sc true 183 [.agg (bh B++[Zi 2]),AV.str { data := #[(99:UInt8),111,109,109,105,116,109,101,110,116] },.aG 1 1 fun r k=>aO (List.getD [[Zi a]] (r+0) []) k] (.aT [.agg (bh C++[Zi 3]),Zi 0]) (.ff (.ff (.sc true 184 [.agg (bh C++[Zi 3]),AV.str { data := #[(99:UInt8),104,97,108,108,101,110,103,101] },Zi G.2] (.aT [.agg (bh D++[Zi 4]),Zi c,Zi 0]) (.out (.aT [Zi c,Zi 0]) [] (.aT [Zi c,Zi 0]) [])))))))))))))))))
  (by kernel_rfl) ?_
 refine aM (c1) ?_
 refine b9 ?_
 refine eT ?_
 refine aD (by omega) ?_
 refine aM (c2) ?_
 refine b9 ?_
 refine eT ?_
 refine aD (by decide +kernel) ?_
 refine aM (c3) ?_
 refine b9 ?_
 refine eT ?_
 refine aD (by decide +kernel) ?_
 refine aM (c4) ?_
 refine b9 ?_
 refine b9 ?_
 refine aM (c5) ?_
 exact aq (aw.of_eq rfl)
theorem F6 (G:bL) (b y a:Int) (s:ByteArray) (hl:eS s=true) (hG:G.Ok) :
  Pure Tryz.prog aW 119 [G.av,.int .i64 b,.int .i64 y,.int .i64 a,.str s] (.aT [.int .i64 (wi G b y a s),.int .i64 0]) :=
 HE G b y a s _ _ _ _ _ (LS s hl) (MI "group".toUTF8 _ 0 (by decide) (by decide +kernel) (xX s) ..) (NC "statement".toUTF8 _ 1 (by decide) (by decide +kernel) (lj _ _ _) ..)
  (Nm "commitment".toUTF8 _ 2 (by decide) (by decide +kernel) (lj _ _ _) ..) _ (F2 "challenge".toUTF8 _ 3 (by decide) (by decide +kernel) (lj _ _ _) G.q ⟨by have:=hG.q3;omega,by have:=hG.qp;have:=hG.p1;omega⟩)
theorem LW (G:bL) (b y:Int) (s:ByteArray) (p:Pf) (hl:eS s=true) (hw:G.W):Pure Tryz.prog aW 64 [G.av,.int .i64 b,.int .i64 y,.str s,.agg p.cells] (.bool (mg G b y s p)):=by
 have c1:=FE G b y p hw
 have c2:=fun hG=>F6 G b y (p.a 0) s hl hG
 refine ar (own:=bk) Tryz.func64 (by kernel_rfl) mixed (by kernel_rfl)
  (.sc true 118 [.agg [Zi G.1,Zi G.2,Zi G.3],Zi b,Zi y,.agg [.aG 1 p.1 fun i x=>Zi (p.2 i),Zi p.3,.aG 1 p.4 fun i x=>Zi (p.5 i)]] (.bool (jO G b y p)) (.br (!jO G b y p) (.out (.bool false) [] (.bool (mg G b y s p)) []) (.bf ((0:Int)≤0∧(0:Int)<(p.1:Int)) (.sc true 119 [.agg [Zi G.1,Zi G.2,Zi G.3],Zi b,Zi y,Zi (p.2 0),AV.str s] (.aT [Zi (wi G b y (Pf.a p 0) s),Zi 0]) (.out (.bool (wi G b y (p.2 0) s==p.3)) [] (.bool (mg G b y s p)) [])))))
  (by kernel_rfl) ?_
 refine aM (c1) ?_
 refine aL (fun h1=>?_) (fun h1=>?_)
 ·have g1:=(aB aF) h1
  exact aq (aw.of_eq (congrArg AV.bool (by unfold mg;rw [g1];rfl)))
 ·have g1:=(ay aC) h1
  refine aD (by have:=(ra g1).na;omega) ?_
  refine aM (c2 (bn.1 (ra g1).vg)) ?_
  exact aq (aw.of_eq (congrArg AV.bool (by unfold mg;rw [g1];rfl)))
theorem LL (n:Nat) (h0:0<n) (hn:n≤1000):bC Tryz.prog aW 360 [] [.bc,.int .i64 n] (.aZ 0 1 0 0) [some ⟨1,n,true,.fn fun _ _=>.int .u8 0⟩]:=by
 have hw:=L9 hn
 refine bO (own:=bk) (hand:=true) Tryz.func360 (by kernel_rfl) mixed (by kernel_rfl)
  (let z0:Int:=(wrap .i64 ((n:Int) - wrap .i64 ((0:Int) - 0)));let y0:List (Option Ob):=[some ⟨1,n,true,.fn fun x x_1=>Zb 0⟩];(.br (decide ((n:Int)<0)) .no (.br (decide (wrap .i64 ((n:Int) - wrap .i64 ((0:Int) - 0))>0)) (.bf ((0:Int)≤0∧(0:Int)≤0) (.bf ((0:Int)<wrap .i64 ((n:Int) - wrap .i64 ((0:Int) - 0))∧wrap .i64 ((n:Int) - wrap .i64 ((0:Int) - 0))*1≤140737488355328) (.bf ((0:Int)≤0∧0≤(↑(toNat z0):Int)) (.out (.aZ 0 1 0 0) [some ⟨1,toNat z0,true,.fn fun i j=>Zb (aE (aO (ck (Value.int IntKind.u8 (0:Int))) j))⟩] (.aZ 0 1 0 0) (y0))))) (.out (.bc) [] (.aZ 0 1 0 0) (y0)))))
  (by kernel_rfl) ?_
 refine aL (fun h0=>?_) (fun h0=>?_)
 ·have g0:=af h0
  exact (show False from (by exfalso;omega))
 ·have g0:=aa h0
  refine aL (fun h2=>?_) (fun h2=>?_)
  ·have g2:=af h2
   refine aD (by omega) ?_
   refine aD (by omega) ?_
   refine aD (by omega) ?_
   exact cP (by exact aw.refl _) (by exact ⟨⟨rfl,by show toNat _=n;rw [hw];rfl,rfl,fun i j _ hj=>aw.of_eq (Gq hj)⟩,trivial⟩)
  ·have g2:=aa h2
   exact cP (by (exfalso;rw [hw] at g2;omega)) (by (exfalso;rw [hw] at g2;omega))
def ow6:FuncId→Option (List Bool):=fun f=>bif Nat.beq f 360 then some [false,false] else none
theorem EM (l r:Nat→Int):Pure Tryz.prog aW 352 [.aG 1 2 fun i _=>.aG 1 32 fun k _=>.int .u8 (nd l r i k)] (dn 64 (fJ l r)):=by
 refine ar (own:=ow6) Tryz.func352 (by kernel_rfl) mixed (by kernel_rfl)
  (let y0:=(fun (x:{ x:Nat // x≤2 })=>aY [25,26,6,27] [.aG 1 2 fun i x=>.aG 1 32 fun k x=>Zb (nd l r i k),Zi 2,.aZ 0 1 0 (32*x.1),Zi x.1] [some ⟨1,bif Nat.beq (x.1) 0 then 64 else 32*x.1,true,.fn fun i x_1=>Zb (rI l r (x.1) i)⟩]);let y1:=(fun (x:{ x:Nat // x≤2 })=>aY [0,9,10,3,11] [.aG 1 2 fun i x=>.aG 1 32 fun k x=>Zb (nd l r i k),.aG 1 2 fun i x=>.aG 1 32 fun k x=>Zb (nd l r i k),Zi 2,Zi (↑(32*x.1):Int),Zi x.1] []);let y2:=(fun (x:{ x:Nat // x≤2 })=>2 - x.1);(.loop ({ x:Nat // x≤2 }) y1 y2 (⟨0,Nat.zero_le 2⟩) [0,9,10,3,11] [] [.aG 1 2 fun i x=>.aG 1 32 fun k x=>Zb (nd l r i k),.aG 1 2 fun i x=>.aG 1 32 fun k x=>Zb (nd l r i k),Zi 2,Zi 0,Zi 0] [] (fun x0=>let z0:Int:=(↑(32*x0.1):Int);(.br (decide ((x0.1:Int)<2)) (.bf (0≤(x0.1:Int)∧(x0.1:Int)<2) (.br (decide (wrap .i64 (z0+32)<0)) .no (.again (be 0 y1 y2 x0) [0,9,10,3,11] [] [.aG 1 2 fun i x=>.aG 1 32 fun k x=>Zb (nd l r i k),.aG 1 2 fun i x=>.aG 1 32 fun k x=>Zb (nd l r i k),Zi 2,Zi (wrap .i64 (z0+32)),Zi (wrap .i64 ((x0.1:Int)+1))] []))) (.gc 360 [] [.bc,Zi z0] (.aZ 0 1 0 0) [some ⟨1,32*x0.1,true,.fn fun x x_1=>Zb 0⟩] (.loop ({ x:Nat // x≤2 }) y0 y2 (⟨0,Nat.zero_le 2⟩) [25,26,6,27] [16] [.aG 1 2 fun i x=>.aG 1 32 fun k x=>Zb (nd l r i k),Zi 2,.aZ 0 1 0 0,Zi 0] [some ⟨1,32*x0.1,true,.fn fun i j=>Zb 0⟩] (fun x7=>(.br (decide ((x7.1:Int)<2)) (.bf (0≤(x7.1:Int)∧(x7.1:Int)<2) (.bf ((32*x7.1+32)*1≤140737488355328) (.again (be 0 y0 y2 x7) [25,26,6,27] [49] [.aG 1 2 fun i x=>.aG 1 32 fun k x=>Zb (nd l r i k),Zi 2,.aZ 0 1 0 (32*x7.1+32),Zi (wrap .i64 ((x7.1:Int)+1))] [some ⟨1,32*x7.1+32,true,.fn fun i j=>Zb (bif Nat.blt i (32*x7.1) then rI l r x7.1 i else nd l r (toNat (x7.1:Int)) (i - 32*x7.1))⟩]))) (.out (.aG 1 (32*x7.1) fun r_1 k=>Zb (rI l r x7.1 (r_1+0))) [] (dn 64 (fJ l r)) [])))))))))
  (by kernel_rfl) ?_
 refine aU (fun _ hs=>hs.le (by repeat' (first|exact trivial|(first|exact aw.refl _|exact aJ (by omega)|exact aw.nil rfl|exact aw.of_eq (congrArg (AV.aZ _ _ _) (by first|omega|(dsimp only;omega)))|exact aw.of_eq (congrArg (AV.int _) (by first|omega|(dsimp only;omega))))|refine And.intro ?_ ?_)) (trivial)) (fun x0=>?_)
 try (have q0:=x0.2;dsimp only at q0)
 refine aL (fun h1=>?_) (fun h1=>?_)
 ·have g1:=af h1
  refine aD (by omega) ?_
  refine aL (fun h3=>?_) (fun h3=>?_)
  ·have g3:=af h3
   exact (show False from (by exfalso;rw [wI (by omega) (by omega)] at g3;omega))
  ·have g3:=aa h3
   exact aN (⟨x0.1+1,by omega⟩) (fun _ hs=>hs.le (by repeat' (first|exact trivial|(first|exact aw.refl _|exact aJ (by omega)|exact aw.nil rfl|exact aw.of_eq (congrArg (AV.aZ _ _ _) (by first|omega|(dsimp only;omega)))|exact aw.of_eq (congrArg (AV.int _) (by first|omega|(dsimp only;omega))))|refine And.intro ?_ ?_)) (trivial)) (by (dsimp only;omega))
 ·have g1:=aa h1
  refine fU (LL (32*x0.1) (by omega) (by omega)) ?_
  refine aU (fun _ hs=>hs.le (by repeat' (first|exact trivial|(first|exact aw.refl _|exact aJ (by omega)|exact aw.nil rfl|exact aw.of_eq (congrArg (AV.aZ _ _ _) (by first|omega|(dsimp only;omega)))|exact aw.of_eq (congrArg (AV.int _) (by first|omega|(dsimp only;omega))))|refine And.intro ?_ ?_)) (by exact ⟨⟨rfl,by show 32*x0.1=64;omega,rfl,fun i j _ _=>aw.refl _⟩,trivial⟩)) (fun x7=>?_)
  try (have q7:=x7.2;dsimp only at q7)
  refine aL (fun h8=>?_) (fun h8=>?_)
  ·have g8:=af h8
   refine aD (by omega) ?_
   refine aD (by omega) ?_
   exact aN (⟨x7.1+1,by omega⟩) (fun _ hs=>hs.le (by repeat' (first|exact trivial|(first|exact aw.refl _|exact aJ (by omega)|exact aw.nil rfl|exact aw.of_eq (congrArg (AV.aZ _ _ _) (by first|omega|(dsimp only;omega)))|exact aw.of_eq (congrArg (AV.int _) (by first|omega|(dsimp only;omega))))|refine And.intro ?_ ?_)) (by exact ⟨⟨rfl,rfl,rfl,fun i j hi hj=>aw.of_eq (congrArg _ (Ar (by omega) hi))⟩,trivial⟩)) (by (dsimp only;omega))
  ·have g8:=aa h8
   exact aq (aw.ia (by omega) (fun i j hi hj=>congrArg _ (Ei (by omega))))
theorem sE (l r:Nat→Int) (hl:cC l 32) (hr:cC r 32):Pure Tryz.prog aW 330 [.agg (bh l),.agg (bh r)] (.agg (bh (eA l r))):=by
 have hc:=(EM l r).via (args:=[_]) ⟨Gf (f:=fun i x=>.int .u8 (aE (aO (bh l) (0+(0+i))))) (g:=fun i x=>.int .u8 (aE (aO (bh r) (0+(0+i))))) (fun i hi=>by rw [Nat.zero_add,Nat.zero_add,eL hi]) (fun i hi=>by rw [Nat.zero_add,Nat.zero_add,eL hi]),trivial⟩
 have ht:=gm "specie/node".toUTF8 (by decide) (by decide) (fJ l r) 64 (by decide) (Dn hl hr)
 refine ar (own:=bk) Tryz.func330 (by kernel_rfl) mixed (by kernel_rfl)
  (let z0:=(bh (eX (String.toUTF8 "specie/node") 64 (fJ l r)));(.dc true 352 [.aG 1 2 fun r_1 k=>aO (List.getD [[.aG 1 32 fun r x=>Zb (aE (aO (bh l) (0+(0+r))))],[.aG 1 32 fun r_2 x=>Zb (aE (aO (bh r) (0+(0+r_2))))]] (r_1+0) []) k] (dn 64 (fJ l r)) (.sc true 62 [AV.str { data := #[(115:UInt8),112,101,99,105,101,47,110,111,100,101] },.aG 1 64 fun i x=>Zb (fJ l r i)] (.aT [.agg z0,Zi 0]) (.out (.agg z0) [] (.agg (bh (eA l r))) []))))
  (by kernel_rfl) ?_
 refine bM (hc) ?_
 refine aM (ht) ?_
 exact aq (aw.refl _)
theorem p8 (l r:Nat→Int) (hl:cC l 32) (hr:cC r 32):Pure Tryz.prog aW 278 [.agg (bh l),.agg (bh r)] (.agg (bh (eA l r))):=by
 refine ar (own:=bk) Tryz.func278 (by kernel_rfl) mixed (by kernel_rfl)
  (let y0:List AV:=z32;let y1:=(fun (x:{ x:Nat // x≤32 })=>aY [2,3,4,5,6] [.own 0 32 0 0 32,.own 1 32 0 0 32,.own 2 32 0 0 32,.aZ 3 1 0 (x.1),Zi x.1] [some ⟨32,1,true,.ba [bh l]⟩,some ⟨32,1,true,.ba [bh r]⟩,some ⟨32,1,true,.ba [y0]⟩,some ⟨1,x.1,true,.fn fun i x=>Zb (fJ l r i)⟩]);let y2:=(fun (x:{ x:Nat // x≤32 })=>aY [3,4,5,7] [.own 0 32 0 0 32,.own 1 32 0 0 32,.aZ 2 1 0 (32+x.1),Zi x.1] [some ⟨32,1,true,.ba [bh r]⟩,some ⟨32,1,true,.ba [y0]⟩,some ⟨1,32+x.1,true,.fn fun i x=>Zb (fJ l r i)⟩]);let y3:=(fun (x:{ x:Nat // x≤32 })=>32 - x.1);(.loop ({ x:Nat // x≤32 }) y1 y3 (⟨0,Nat.zero_le 32⟩) [2,3,4,5,6] [0,8,16,299] [.own 0 32 0 0 32,.own 1 32 0 0 32,.own 2 32 0 0 32,.bc,Zi 0] [some ⟨32,1,true,.ba [bh l]⟩,some ⟨32,1,true,.ba [bh r]⟩,some ⟨32,1,true,.ba [y0]⟩,some ⟨1,0,true,.ty (999999999:TypeId) (.ba [])⟩] (fun x0=>(.br (decide ((x0.1:Int)<32)) (.bf (0≤(x0.1:Int)∧(x0.1:Int)<32) (.bf ((x0.1+1)*1≤140737488355328) (.again (be 0 y1 y3 x0) [2,3,4,5,6] [0,1,2,60] [.own 0 32 0 0 32,.own 1 32 0 0 32,.own 2 32 0 0 32,.aZ 3 1 0 (x0.1+1),Zi (wrap .i64 ((x0.1:Int)+1))] [some ⟨32,1,true,.ba [bh l]⟩,some ⟨32,1,true,.ba [bh r]⟩,some ⟨32,1,true,.ba [y0]⟩,some ⟨1,x0.1+1,true,.fn fun i j=>Zb (bif Nat.blt i x0.1 then fJ l r i else aE (aO [Zb (aE (bz.at (Ob.f (Ob.seen ⟨32,1,true,.ba [bh l]⟩)) 0 (0+toNat (↑(x0.1):Int))))] j))⟩]))) (.loop ({ x:Nat // x≤32 }) y2 y3 (⟨0,Nat.zero_le 32⟩) [3,4,5,7] [1,2,3] [.own 0 32 0 0 32,.own 1 32 0 0 32,.aZ 2 1 0 x0.1,Zi 0] [some ⟨32,1,true,.ba [bh r]⟩,some ⟨32,1,true,.ba [y0]⟩,some ⟨1,x0.1,true,.fn fun i j=>Zb (fJ l r i)⟩] (fun x5=>let z0:AV:=(.agg (bh (eX (String.toUTF8 "specie/node") (32+x5.1) (fJ l r))));(.br (decide ((x5.1:Int)<32)) (.bf (0≤(x5.1:Int)∧(x5.1:Int)<32) (.bf ((32+x5.1+1)*1≤140737488355328) (.again (be 0 y2 y3 x5) [3,4,5,7] [0,1,59] [.own 0 32 0 0 32,.own 1 32 0 0 32,.aZ 2 1 0 (32+x5.1+1),Zi (wrap .i64 ((x5.1:Int)+1))] [some ⟨32,1,true,.ba [bh r]⟩,some ⟨32,1,true,.ba [y0]⟩,some ⟨1,32+x5.1+1,true,.fn fun i j=>Zb (bif Nat.blt i (32+x5.1) then fJ l r i else aE (aO [Zb (aE (bz.at (Ob.f (Ob.seen ⟨32,1,true,.ba [bh r]⟩)) 0 (0+toNat (↑(x5.1):Int))))] j))⟩]))) (.sc true 83 [AV.str { data := #[(115:UInt8),112,101,99,105,101,47,110,111,100,101] },.aG 1 (32+x5.1) fun r_1 k=>Zb (fJ l r (r_1+0))] z0 (.out z0 [] (.agg (bh (eA l r))) [])))))))))
  (by kernel_rfl) ?_
 refine aU (fun _ hs=>hs.le (by repeat' (first|exact trivial|(first|exact aw.refl _|exact aJ (by omega)|exact aw.nil rfl|exact aw.of_eq (congrArg (AV.aZ _ _ _) (by first|omega|(dsimp only;omega)))|exact aw.of_eq (congrArg (AV.int _) (by first|omega|(dsimp only;omega))))|refine And.intro ?_ ?_)) (by repeat' (first|exact trivial|(first|exact aH.refl _|exact aH.bw|exact aH.zero|exact aH.push rfl rfl|exact aH.cm rfl|exact aH.len (by omega)|exact aH.row (by repeat' (first|exact trivial|(first|exact aw.refl _|exact aJ (by omega)|exact aw.nil rfl|exact aw.of_eq (congrArg (AV.aZ _ _ _) (by first|omega|(dsimp only;omega)))|exact aw.of_eq (congrArg (AV.int _) (by first|omega|(dsimp only;omega))))|refine And.intro ?_ ?_)))|refine And.intro ?_ ?_))) (fun x0=>?_)
 try (have q0:=x0.2;dsimp only at q0)
 refine aL (fun h1=>?_) (fun h1=>?_)
 ·have g1:=af h1
  refine aD (by omega) ?_
  refine aD (by omega) ?_
  exact aN (⟨x0.1+1,by omega⟩) (fun _ hs=>hs.le (by repeat' (first|exact trivial|(first|exact aw.refl _|exact aJ (by omega)|exact aw.nil rfl|exact aw.of_eq (congrArg (AV.aZ _ _ _) (by first|omega|(dsimp only;omega)))|exact aw.of_eq (congrArg (AV.int _) (by first|omega|(dsimp only;omega))))|refine And.intro ?_ ?_)) (⟨by exact aH.refl _,by exact aH.refl _,by exact aH.refl _,aH.mP (F:=fJ l r) (by dsimp only) (by show aE (aO (bh l) (0+x0.1))=fJ l r x0.1;rw [Nat.zero_add,eL (by omega),Lw (by omega)]),trivial⟩)) (by (dsimp only;omega))
 ·have g1:=aa h1
  refine aU (fun _ hs=>hs.le (by repeat' (first|exact trivial|(first|exact aw.refl _|exact aJ (by omega)|exact aw.nil rfl|exact aw.of_eq (congrArg (AV.aZ _ _ _) (by (dsimp only;omega)))|exact aw.of_eq (congrArg (AV.int _) (by first|omega|(dsimp only;omega))))|refine And.intro ?_ ?_)) (⟨by exact aH.refl _,by exact aH.refl _,⟨rfl,by show x0.1=32+0;omega,rfl,fun _ _ _ _=>aw.refl _⟩,trivial⟩)) (fun x5=>?_)
  try (have q5:=x5.2;dsimp only at q5)
  refine aL (fun h6=>?_) (fun h6=>?_)
  ·have g6:=af h6
   refine aD (by omega) ?_
   refine aD (by omega) ?_
   exact aN (⟨x5.1+1,by omega⟩) (fun _ hs=>hs.le (by repeat' (first|exact trivial|(first|exact aw.refl _|exact aJ (by omega)|exact aw.nil rfl|exact aw.of_eq (congrArg (AV.aZ _ _ _) (by first|omega|(dsimp only;omega)))|exact aw.of_eq (congrArg (AV.int _) (by first|omega|(dsimp only;omega))))|refine And.intro ?_ ?_)) (⟨by exact aH.refl _,by exact aH.refl _,aH.mP (F:=fJ l r) (by dsimp only;omega) (by show aE (aO (bh r) (0+x5.1))=fJ l r (32+x5.1);rw [Nat.zero_add,eL (by omega),Ky]),trivial⟩)) (by (dsimp only;omega))
  ·have g6:=aa h6
   refine aM ((fw (String.toUTF8 "specie/node") (of_decide_eq_true (id (Eq.refl true))) (fJ l r)) (32+x5.1) (by omega) (by exact uF (fun i=>rfl) (by rw [show 32+x5.1=64 by omega];exact Dn hl hr))) ?_
   exact aq (aw.of_eq (congrArg (fun t=>AV.agg (bh t)) (JH (by omega))))
end Go.Proofs.YtgnfjlekpgjehaaGreatDoor

namespace Go.Am
open Go.IntKind (wrap)
open Int (toNat)
open Go.RowKit
def iI (pins:List Nat) (ops:Array Oper):Bool :=
 ops.toList.all fun o=>(match o.op with|.defer _=>false|.mapUpdate .. => false|_=>true)&&(match o.dst with|some d => !bZ pins d|none=>true)
def gn (pins:List Nat):Code→Bool
 | .skip=>true
 | .region _ ops _=>iI pins ops
 | .seq x y=>gn pins x&&gn pins y
 | .cond _ x y=>gn pins x&&gn pins y
 | .block _ x=>gn pins x
 | _=>false
def kf (pins:List Nat) (a0 a:Act):Prop:=∀ n,n∈pins→a.tmps.getD n undef=a0.tmps.getD n undef
section
def Open (F:Fence):Prop:=F=Fence.wide∨∃ l,F=Fence.wide.inRound l
theorem Open.calls {F:Fence} (h:Open F) {n:Nat} {P:Program} {f:FuncId} {args:Array Value} {w:World} {R:Ending→World→Prop} (hc:Calls P f args w R):CallsIn F n P f args w R:=by
 rcases h with rfl|⟨l,rfl⟩
 ·grind [callsIn_wide]
 grind [CallsIn.inRound,callsIn_wide]
theorem Open.fn {F:Fence} (h:Open F) (f:FuncId):F.fn f:=by rcases h with rfl|⟨l,rfl⟩<;>trivial
theorem Open.deep {F:Fence} (h:Open F):¬F.depth.isSome=true:=by rcases h with rfl|⟨l,rfl⟩<;>(intro h;cases h)
theorem Open.steps {F:Fence} (h:Open F) {P:Program} {m m':Machine} (hs:Steps P m m'):StepsIn (Machine.fenced P F) P m m':=by rcases h with rfl|⟨l,rfl⟩<;>exact stepsIn_wide.2 hs
variable {P : Program} {ops : Array Oper} {Q Q' : Exit → Act → World → Prop} {F : Fence} {n : Nat} {pins : List Nat} {a0 : Act}
theorem Ir (hF:Open F) {o:Oper} {a:Act} {K K':Act→World→Prop} (hp:∀ ch a w,¬Q (.panic ch) a w) (hO:¬LetsOut Q) (hK:∀ a' w',(∃ v,a'.tmps=(a.put o.dst v).tmps)→K a' w'→K' a' w'):∀ (r:Result Next),o.upon P a K Q r→o.uponIn F n P a K' Q' r:=by
 intro r h
 cases r with
 | ok x w' =>
  cases x<;>simp only [Oper.upon] at h<;>simp only [Oper.uponIn]
  case value v=>grind
  case skip=>grind
  case defer d=>exact hK _ _ ⟨undef,by cases o.dst<;>rfl⟩ h
  case enter f args =>
   refine ⟨fun h=>(hF.deep h).elim,hF.calls (h.mono fun e w'' he=>?_)⟩
   grind
  case row row args =>
   refine ⟨fun h=>(hF.deep h).elim,fun c cs _=>?_⟩
   obtain ⟨v,w'',hr,hs⟩:=h c cs
   exact ⟨v,w'',hK _ _ ⟨v,rfl⟩ hr,hF.steps hs⟩
 | halt x w' =>
  cases x<;>simp only [Oper.upon] at h
  grind
theorem Jg (hF:Open F) {o:Oper} {a:Act} {w:World} {K K':Act→World→Prop} (hd:∀ c,o.op≠.defer c) (hp:∀ ch a w,¬Q (.panic ch) a w) (hO:¬LetsOut Q) (hK:∀ a' w',(∃ v,a'.tmps=(a.put o.dst v).tmps)→K a' w'→K' a' w')
  (h:o.wp P a w K Q):o.wpIn F n P a w K' Q':=by
 refine ⟨fun f _=>hF.fn f,?_⟩
 rw [Oper.semAt_eq _ _ _ hd]
 exact Ir hF hp hO hK _ h
theorem rF {pins:List Nat} {ops:Array Oper} (hk:iI pins ops=true):rQ ops=false:=by
 unfold rQ
 rw [List.any_eq_false]
 intro o ho
 have:=List.all_eq_true.1 hk o ho
 grind
theorem uZ {i:Nat} {o:Oper} (hk:iI pins ops=true) (ho:ops[i]? = some o):(∀ c,o.op≠.defer c)∧∀ n,n∈pins→o.dst≠some n:=by
 have hm:o∈ops.toList:=by grind
 have:=List.all_eq_true.1 hk o hm
 rw [Bool.and_eq_true] at this
 grind [Bool.not_eq_true',e8]
theorem jQ {o:Oper} {a a':Act} {v:Value} (hd:∀ n,n∈pins→o.dst≠some n) (h:kf pins a0 a) (e:a'.tmps=(a.put o.dst v).tmps):kf pins a0 a':=fun n hn=>by
 rw [e,← h n hn]
 cases hdd:o.dst with
 | none=>rfl
 | some d=>grind [ja]
theorem Ft (hF:Open F) (hk:iI pins ops=true) (hp:∀ ch a w,¬Q (.panic ch) a w) (hO:¬LetsOut Q):∀ (is:List Nat) (a:Act) (w:World),wpOps P ops Q is a w→kf pins a0 a →
  wpOpsIn F n P ops (fun e a w=>Q e a w∧kf pins a0 a) is a w:=by
 intro is
 induction is with
 | nil=>intro a w h hpin;exact ⟨h,hpin⟩
 | cons i rest ih =>
  intro a w h hpin
  simp only [wpOps] at h
  simp only [wpOpsIn]
  cases ho:ops[i]? with
  | none=>grind
  | some o =>
   simp only [ho] at h ⊢
   obtain ⟨h1,h2⟩:=uZ hk ho
   by_cases hw:Region.wanted o (yielded ops a.tmps)=true
   ·simp only [hw,if_true] at h ⊢
    grind [Jg,jQ]
   ·simp only [hw,if_false,Bool.false_eq_true] at h ⊢
    exact ⟨fun f _=>hF.fn f,ih _ _ h (jQ h2 hpin rfl)⟩
theorem KI (hF:Open F) (hk:iI pins ops=true) (hp:∀ ch a w,¬Q (.panic ch) a w) (hO:¬LetsOut Q) {md:Region.Mode}:∀ (fuel:Nat) (listed:Array Bool) (a:Act) (w:World),wpAny P md ops Q fuel listed a w→kf pins a0 a →
  wpAnyIn F n P md ops (fun e a w=>Q e a w∧kf pins a0 a) fuel listed a w:=by
 intro fuel
 induction fuel with
 | zero=>intro listed a w h hpin;exact ⟨h.1,h.2,hpin⟩
 | succ fuel ih =>
  intro listed a w h hpin
  refine ⟨fun hr=>⟨h.1 hr,hpin⟩,fun i hi=>?_⟩
  have:=h.2 i hi
  unfold wpOp at this
  unfold wpOpIn
  cases ho:ops[i]? with
  | none=>grind
  | some o =>
   simp only [ho] at this ⊢
   obtain ⟨h1,h2⟩:=uZ hk ho
   by_cases hw:Region.wanted o (yielded ops a.tmps)=true
   ·simp only [hw,if_true] at this ⊢
    grind [Jg,jQ]
   ·simp only [hw,if_false,Bool.false_eq_true] at this ⊢
    exact ⟨fun f _=>hF.fn f,ih _ _ _ this (jQ h2 hpin rfl)⟩
end
theorem zV {P:Program} {F:Fence} {n:Nat} {Q Q':Exit→Act→World→Prop} {o:Oper} {a:Act} {K K':Act→World→Prop} (hp:∀ ch a w,¬Q (.panic ch) a w) (hO:¬LetsOut Q) (hK:∀ a' w',K a' w'→K' a' w'):∀ (r:Result Next),o.uponIn F n P a K Q r→o.uponIn F n P a K' Q' r:=by
 intro r h
 cases r with
 | ok x w' =>
  cases x<;>simp only [Oper.uponIn] at h ⊢
  case value v=>grind
  case skip=>grind
  case defer d=>grind
  case enter f args=>exact ⟨h.1,h.2.mono fun e w'' he=>by grind⟩
  case row row args=>exact ⟨h.1,h.2.mono fun v w'' he=>hK _ _ he⟩
  case round l f tmps x y=>exact ⟨h.1,h.2.mono fun e w'' he=>by grind⟩
 | halt x w' =>
  cases x<;>simp only [Oper.uponIn] at h
  grind
theorem A6 {P:Program} {F:Fence} {n:Nat} {ops ops':Array Oper} {m:Nat} {X:Act→World→Prop} {Q:Exit→Act→World→Prop} {rest:List Nat} (hops:∀ i,i<m→ops'[i]? = ops[i]?) (hg:∀ i o,i<m→ops[i]? = some o→o.guard=none)
  (hX:∀ a w,X a w→wpOpsIn F n P ops Q rest a w):∀ (l:List Nat),(∀ i,i∈l→i<m)→∀ (a:Act) (w:World),wpOpsIn F n P ops' (fun e a w=>(e=.normal∧X a w)) l a w→wpOpsIn F n P ops Q (l++rest) a w:=by
 intro l
 induction l with
 | nil=>intro _ a w h;exact hX a w h.2
 | cons i l ih =>
  intro hl a w h
  have hi:=hl i (List.mem_cons_self ..)
  rw [List.cons_append]
  simp only [wpOpsIn] at h ⊢
  rw [hops i hi] at h
  cases ho:ops[i]? with
  | none=>grind
  | some o =>
   simp only [ho] at h ⊢
   have hw:∀ ys,Region.wanted o ys=true:=fun ys=>by grind [Region.wanted]
   simp only [hw,if_true] at h ⊢
   exact ⟨h.1,zV (fun _ _ _ h=>by grind) (fun ⟨_,_,h⟩=>by grind) (fun a' w' h'=>ih (fun k hk=>hl k (List.mem_cons_of_mem _ hk)) a' w' h') _ h.2⟩
theorem kr {K:Ctx} {C:tM} {k:nY→dH→Tree}:∀ ch a w,¬rn K C k (.panic ch) a w:=fun ch a w ⟨_,_,_,h,_⟩=>by cases h
theorem mB {K:Ctx} {C:tM} {k:nY→dH→Tree}:¬LetsOut (rn K C k):=fun ⟨_,_,_,_,_,h,_⟩=>by cases h
theorem FC {K:Ctx} {C:tM} {pins:List Nat} {a0:Act} {F:Fence} {n:Nat} (hF:Open F) (hP:C.P=K.P) (fF:C.gl=K.gl) (pa:C.nt=K.nt) (hm:K.P.follows .mixedOrders=true) (x:Code) :
  ∀ (k:nY→dH→Tree) (s:dH) (β:bo) (a:Act) (w:World),gn pins x=true→(run C x k s).wp C.P C.gl (Le C.ng)→gU K β s a w→kf pins a0 a →
   x.wpIn F n K.P (fun e a w=>rn K C k e a w∧kf pins a0 a) a w:=by
 induction x with
 | skip=>intro k s β a w _ h hs hp;exact wpIn_skip ⟨⟨β,s,.normal,rfl,hs,h⟩,hp⟩
 | region id ops draw =>
  intro k s β a w hk h hs hp
  simp only [run,rF hk,cond_false] at h
  cases hd:lO ops with
  | false=>simp only [hd,cond_false] at h;exact h.elim
  | true =>
   simp only [hd,cond_true] at h
   obtain ⟨h1,h2⟩:=ku hP fF pa hd h hs (Q:=rn K C k) (fun β' r a' w' hr hX=>⟨β',_,.normal,rfl,hr.FI,hX⟩)
   cases draw with
   | false=>exact wpIn_region (Ft hF hk kr mB _ a w (h1 rfl) hp)
   | true=>exact wpIn_region_any hm (KI hF hk kr mB _ _ a _ (h2 rfl) hp)
 | seq x y ihx ihy =>
  intro k s β a w hk h hs hp
  simp only [gn,Bool.and_eq_true] at hk
  refine wpIn_seq (wpIn_mono (ihx _ s β a w hk.1 h hs hp) ?_)
  rintro e a' w' ⟨⟨β',s',ae,he,hs',hk'⟩,hp'⟩
  cases e<;>simp only [jj,reduceCtorEq,Option.some.injEq] at he
  ·subst he;exact ihy k s' β' a' w' hk.2 hk' hs' hp'
  ·subst he;exact ⟨⟨β',s',_,rfl,hs',hk'⟩,hp'⟩
  ·subst he;exact ⟨⟨β',s',_,rfl,hs',hk'⟩,hp'⟩
 | cond c x y ihx ihy =>
  intro k s β a w hk h hs hp
  simp only [gn,Bool.and_eq_true] at hk
  simp only [run] at h
  split at h
  ·rename_i b hb
   have hrel:Rel β w (ev K.gl s.fr c) (a.eval c):=by
    have:=kB (hs.tq #[]) (x:=c) (fun t _=>rfl)
    exact this
   rw [← fF,hb] at hrel
   have hv:=ca hrel
   exact wpIn_cond_split hv (fun ht=>ihx k s β a w hk.1 (h.1 ht) hs hp) (fun hf=>ihy k s β a w hk.2 (h.2 hf) hs hp)
  ·exact h.elim
 | block id x ih =>
  intro k s β a w hk h hs hp
  refine wpIn_block (wpIn_mono (ih _ s β a w hk h hs hp) ?_)
  rintro e a' w' ⟨⟨β',s',ae,he,hs',hk'⟩,hp'⟩
  cases e<;>simp only [jj,reduceCtorEq,Option.some.injEq] at he
  ·subst he;exact ⟨⟨β',s',_,rfl,hs',hk'⟩,hp'⟩
  ·rename_i j
   subst he
   simp only [Exit.inBlock]
   by_cases e:j=id
   ·subst e
    rw [if_pos rfl]
    simp only [Nat.beq_refl,cond_true] at hk'
    exact ⟨⟨β',s',.normal,rfl,hs',hk'⟩,hp'⟩
   ·rw [if_neg e]
    have hb:Nat.beq j id=false:=by grind [Nat.beq,id,absurd,Nat.eq_of_beq_eq_true]
    simp only [hb,cond_false] at hk'
    exact ⟨⟨β',s',.leave j,rfl,hs',hk'⟩,hp'⟩
  ·subst he;exact ⟨⟨β',s',_,rfl,hs',hk'⟩,hp'⟩
 | _=>intro k s β a w hk;cases hk
def hM (β:bo) (w W:World):Prop:=w.heap.size≤W.heap.size∧(∀ b,b<w.heap.size→β.free b→W.heap[b]? = w.heap[b]?)∧∀ b,b<w.heap.size→W.shape? b=w.shape? b
def Na (β:bo) (w W W':World):Prop:=hM β w W→hM β w W'
def Iter (P:Program) (gl:dE) (gf:FuncId) (lb:List AV) (n:Nat) (xs:Fin n→AV):Prop :=
 xA P gf∧∀ (β:bo) (w:World) (vs:Array Value),(∀ b,β.F b→b<w.heap.size)→(∀ id b k mu,β.m id=some (.bx b k mu)→b<w.heap.size)→mc gl β w→eR β w lb vs →
  ∃ ys:Fin n→Value,(∀ i,Rel β w (xs i) (ys i))∧SeqStopsK Fence.wide 8 P gf vs (fun i => #[ys i]) (Na β w) (fun l=>l=List.finRange n) (fun _=>True) n w
def Bn (P:Program) (gl:dE) (own:FuncId→Option (List Bool)) (ng nt:Nat) (c:Code) (s s':dH):Tree :=
 run ⟨P,gl,nt,own,ng⟩ c (fun e t=>match e with|.normal=>.again t (fun u=>Le ng u s')|_=>.bad "round") s
def fA (P:Program) (gl:dE) (own:FuncId→Option (List Bool)) (ng nt:Nat) (c:Code) (s s':dH):Prop:=(Bn P gl own ng nt c s s').wp P gl (Le ng)
theorem jM {P:Program} {gl:dE} {own:FuncId→Option (List Bool)} {ng nt:Nat} {c:Code} {s s':dH} (sk:Sk) (hu:di ng (Bn P gl own ng nt c s s') sk=sk) (h:sk.ok P gl ng):fA P gl own ng nt c s s' :=
 qL sk _ hu h
theorem jD {P:Program} {gl:dE} {ng:Nat} {s':dH} {ns π:List Nat} {bB:List AV} {os:List (Option Ob)} (h:∀ s,ql ng s ns π bB os→Le ng s s'):(Sk.again (fun u=>Le ng u s') ns π bB os).ok P gl ng:=h
theorem wT {ns:List Nat} {vs:List AV} {n:Nat} (h:n∉ns):ji ns vs n=.bw:=by
 induction ns generalizing vs with
 | nil=>rfl
 | cons m ns ih =>
  cases vs with
  | nil=>rfl
  | cons v vs =>
   rw [List.mem_cons,not_or] at h
   have hb:Nat.beq m n=false:=by grind [Nat.beq,absurd,Nat.eq_of_beq_eq_true]
   simp_all [ji,cond_false]
def pX (β:bo) (w:World):bo:=⟨fun _=>none,fun b=>b<w.heap.size∧¬β.free b⟩
theorem Rel.calm {β:bo} {w W:World} {a:AV} {v:Value} (h:Rel β w a v) (hc:Cl a) (hW:hM β w W):Rel (pX β w) W a v:=by
 let B1:bo:=⟨fun _=>none,fun b=>¬β.free b⟩
 have f1:∀ b,β.free b→B1.free b:=fun b h=>⟨fun h'=>h' h,fun id m h=>by cases h⟩
 have hk:dF B1 w (pX β w) W:=by
  refine ⟨fun id o h=>(by cases h),fun b hb hfb=>hW.2.1 b hb (Classical.byContradiction fun h=>hfb.1 h),fun b hb hfb=>⟨fun h=>hfb.1 h.2,fun id m h=>by cases h⟩,fun b el sz h=>?_⟩
  rw [hW.2.2 b (fk h)];exact h
 exact (h.fQ f1 hc).fS hk
theorem gh.calm {β:bo} {w W:World} {g m:Nat} {f:Nat→AV} (h:gh β w g m f) (hc:Cl (.bH m f)) (hW:hM β w W):gh (pX β w) W g m f :=
 ⟨h.rel.calm hc hW,let ⟨el,e⟩:=h.size;⟨el,by rw [hW.2.2 g (fk e)];exact e⟩⟩
def mw (P:Program) (gl:dE) (nt:Nat) (β:bo) (w W:World):Ctx:=⟨P,gl,W.heap.size,W,nt,(pX β w).F,fun _=>False,fun _=>none,true⟩
theorem gU.calm {P:Program} {gl:dE} {nt:Nat} {β:bo} {w W:World} {ns:List Nat} {vs:List AV} {a:Act} (hg:mc gl β w) (hW:hM β w W) (hsz:a.tmps.size=nt) (hd:a.defers=[])
  (hv:∀ (k n:Nat) v,ns[k]? = some n→vs[k]? = some v→Rel (pX β w) W v (a.tmps.getD n undef)):gU (mw P gl nt β w W) (pX β w) (aY ns vs []) a W:=by
 refine ⟨fun n=>?_,hsz,by grind [Marks.nil],fun id o h=>(by grind [aY]),fun _ _ _ _ _ _ _ h=>(by cases h),fun _ _=>rfl,fun _ _ _ _ h=>(by cases h),fun _ _ h=>(by cases h),rfl,fun b hb=>⟨Nat.lt_of_lt_of_le hb.1 hW.1,fun h=>h⟩,
  Kept.refl _ _ _,Nat.le_refl _,fun g m h fF=>((hg g m h fF).calm ?_ hW)⟩
 ·show Rel _ _ (ji ns vs n) _
  clear hg hW hsz hd
  induction ns generalizing vs with
  | nil=>exact .bw
  | cons m ns ih =>
   cases vs with
   | nil=>exact .bw
   | cons v vs =>
    simp only [ji]
    cases hb:Nat.beq m n with
    | true =>
     have:=Nat.eq_of_beq_eq_true hb
     subst this
     exact hv 0 m v rfl rfl
    | false=>exact ih (fun k n v hn hv'=>hv (k+1) n v (by grind) (by grind))
 ·obtain ⟨_,_,_,_,_,_,_,_,hcl,_⟩:=dd (hg g m h fF).rel
  exact .bH hcl
theorem fA.in {F:Fence} {n:Nat} {K:Ctx} {own:FuncId→Option (List Bool)} {ng:Nat} {c:Code} {s s':dH} {β:bo} {a:Act} {w:World} {pins:List Nat} (hr:fA K.P K.gl own ng K.nt c s s') (hF:Open F) (hk:gn pins c=true)
  (hng:∀ id,ng≤id→K.b0 id=none) (hm:K.P.follows .mixedOrders=true) (hs:gU K β s a w):c.wpIn F n K.P (fun e a' w'=>e=.normal∧(∃ β',gU K β' s' a' w')∧kf pins a a') a w:=by
 refine wpIn_mono (FC (C:=⟨K.P,K.gl,K.nt,own,ng⟩) (pins:=pins) (a0:=a) hF rfl rfl rfl hm c _ s β a w hk hr hs (fun _ _=>rfl)) ?_
 rintro e a' w' ⟨⟨β',t,ae,he,hs',hk'⟩,hp⟩
 cases e<;>simp only [jj,reduceCtorEq,Option.some.injEq] at he
 ·subst he;exact ⟨rfl,hk' K β' a' w' hng hs',hp⟩
 ·subst he;exact hk'.elim
 ·subst he;exact hk'.elim
theorem fA.ops {F:Fence} {n:Nat} {K:Ctx} {own:FuncId→Option (List Bool)} {ng id:Nat} {ops:Array Oper} {s s':dH} {β:bo} {a:Act} {w:World} {pins:List Nat} (hr:fA K.P K.gl own ng K.nt (.region id ops false) s s') (hF:Open F) (hk:iI pins ops=true)
  (hng:∀ id,ng≤id→K.b0 id=none) (hs:gU K β s a w):wpOpsIn F n K.P ops (fun e a' w'=>e=.normal∧(∃ β',gU K β' s' a' w')∧kf pins a a') (List.range ops.size) a w:=by
 have h:(run ⟨K.P,K.gl,K.nt,own,ng⟩ (.region id ops false) (fun e t=>match e with|.normal=>.again t (fun u=>Le ng u s')|_=>.bad "round") s).wp K.P K.gl (Le ng):=hr
 simp only [run,rF hk,cond_false] at h
 cases hd:lO ops with
 | false=>simp only [hd,cond_false] at h;exact h.elim
 | true =>
  simp only [hd,cond_true] at h
  have:=(ku (K:=K) (C:=⟨K.P,K.gl,K.nt,own,ng⟩) rfl rfl rfl hd h hs (Q:=fun e a w=>e=.normal∧∃ β',gU K β' s' a w) (fun β' r a' w' hr hX=>⟨rfl,hX K β' a' w' hng hr.FI⟩)).1 rfl
  have h2:=Ft (a0:=a) (pins:=pins) (n:=n) hF hk (fun _ _ _ h=>by grind) (fun ⟨_,_,h⟩=>by grind) _ a w this (fun _ _=>rfl)
  grind
def I3 (obs:List (Option Ob)):Bool:=obs.all fun o=>match o with|some o=>o.mu|none=>false
theorem qc {obs:List (Option Ob)} (h:I3 obs=true) {k:Nat} (hk:k<obs.length):∃ o,obs.getD k none=some o∧o.mu=true:=by
 have:=List.all_eq_true.1 h obs[k] (List.getElem_mem hk)
 grind
theorem Ak {P:Program} {gl:dE} {own:FuncId→Option (List Bool)} {ng nt:Nat} {g:Operand} {p d:Nat} {assign body:Code} {gf:Nat} {lb:List AV} {n:Nat} {xs:Fin n→AV} {ns:List Nat} {vs:List AV}
  {obs:List (Fin n)→List (Option Ob)} {obs1:List (Option Ob)} (hev:ev gl (ji ns vs) g=.fn (.func gf) [] lb) (hit:Iter P gl gf lb n xs) (hcl:∀ x,Cl (xs x))
  (hasg:∀ (l:Nat) (a:Act) (W:World) (K:Act→World→Prop),K (a.put (some d) (a.tmps.getD p undef)) W→assign.wpIn (Fence.wide.inRound l) 7 P (Exit.then K (fun _ _ _=>False)) a W)
  (hmu:∀ pre,I3 (obs pre)=true) (hnm:∀ pre,NMS (aY ns vs (obs pre))) (hng0:NMG gl) (hpins:(gn ns body&&(!bZ ns p && !bZ ns d&&Nat.blt p nt&&Nat.blt d nt))=true)
  (hround:∀ pre x,pre.length<n→fA P gl own ng nt body (aY (d::p::ns) (xs x::xs x::vs) (obs pre)) (aY ns vs (obs (pre++[x]))))
  (h1:obs (List.finRange n)=obs1):Opq P gl ng nt (.rangeFunc g #[p] assign body) (aY ns vs (obs [])) (aY ns vs obs1):=by
 subst h1
 intro K β0 a w hKP hKgl hKnt hng hqt hm hs0
 subst hKP hKgl hKnt
 refine wpIn_wide (n:=9).1 ?_
 simp only [Bool.and_eq_true,Bool.not_eq_true',Nat.blt_eq] at hpins
 obtain ⟨hpb,⟨⟨hpn,hdn⟩,hpt⟩,hdt⟩:=hpins
 have hpn':p∉ns:=fun h=>by grind [e8]
 have hdn':d∉ns:=fun h=>by grind [e8]
 have hG0:∀ id b m mu,β0.m id=some (.bx b m mu)→mu=true:=fun id b m mu h=>by
  have hid:id<(obs []).length:=Nat.lt_of_not_le fun hle=>by rw [hs0.fresh id hle] at h;cases h
  obtain ⟨o,ho,hmu'⟩:=qc (hmu []) hid
  rcases hs0.heap id o ho with ⟨b',h1,_⟩|⟨h1,_⟩
  ·grind
  grind
 let K0:Ctx:=⟨K.P,K.gl,w.heap.size,w,K.nt,K.F,fun b=>∃ id m,β0.m id=some (.bx b m true),K.b0,true⟩
 have hlive0:∀ b,K0.G b→K.B≤b∨K.G b:=fun b ⟨id,m,h⟩=>(hs0.live id b m true h).1
 have hF0:∀ b,K.F b→b<w.heap.size∧¬K0.G b:=fun b hb=>⟨Nat.lt_of_lt_of_le (hs0.hF b hb).1 hs0.hB,fun hG=>by
  rcases hlive0 b hG with h|h
  ·have:=(hs0.hF b hb).1;omega
  ·exact (hs0.hF b hb).2 h⟩
 have hS0:gU K0 β0 (aY ns vs (obs [])) { a with defers:=[] } w :=
  ⟨hs0.slot,hs0.size,Marks.nil _ _,hs0.heap,hs0.inj,hs0.fresh,fun id b m mu h=>⟨.inr ⟨id,m,by grind⟩,(hs0.live id b m mu h).2⟩,hs0.zq,hs0.bF,hF0,Kept.refl _ _ _,Nat.le_refl _,hs0.iW⟩
 have hfr:Rel β0 w (.fn (.func gf) [] lb) (a.eval g):=by
  have:=kB (hs0.tq #[]) (x:=g) (fun t _=>rfl)
  grind [ev,dH.tq,aY]
 obtain ⟨vf,vb,hav,hvf,hlb⟩:∃ vf vb,a.eval g=.func (.func gf) vf vb∧vf.size=0∧eR β0 w lb vb:=by
  generalize a.eval g=u at hfr
  cases hfr with
  | fn h1 h2 h3 h4=>exact ⟨_,_,rfl,by grind,h3,h4⟩
 have hvf':vf = #[]:=Array.eq_empty_of_size_eq_zero hvf
 subst hvf'
 obtain ⟨⟨fn,code,hfn,hfb,hname⟩,hitr⟩:=hit
 obtain ⟨ys,hyr,hseq⟩:=hitr β0 w vb (fun b hb=>by rw [hs0.bF] at hb;grind) (fun id b k mu h=>(hs0.live id b k mu h).2) hs0.iW hlb
 have calm:∀ {β:bo} {s:dH} {a':Act} {W:World},gU K0 β s a' W→hM β0 w W:=fun hs=>⟨hs.kept.size,fun b hb hf=>hs.kept.block b hb (fun ⟨id,m,h⟩=>hf.2 id m h),hs.kept.shape⟩
 have hfree:∀ {β:bo} {s:dH} {a':Act} {W:World},(∀ id b m mu,β.m id=some (.bx b m mu)→mu=true)→gU K0 β s a' W→∀ b,b<w.heap.size→β0.free b→β.free b:=fun hmt hs b hb hf =>
  ⟨by rw [hs.bF];have:=hf.1;rw [hs0.bF] at this;omega,fun id m h=>by
   rcases (hs.live id b m true h).1 with h'|⟨id',m',h'⟩
   ·grind
   ·exact hf.2 id' m' h'⟩
 have item:∀ {β:bo} {s:dH} {a':Act} {W:World} (x:Fin n),gU K0 β s a' W→(∀ b,b<w.heap.size→β0.free b→β.free b)→Rel β W (xs x) (ys x):=fun {β s a' W} x hs hf=>by
  let B1:bo:=⟨fun _=>none,fun b=>¬β0.free b⟩
  let B2:bo:=⟨fun _=>none,fun b=>¬β.free b⟩
  have f1:∀ b,β0.free b→B1.free b:=fun b h=>⟨fun h'=>h' h,fun id m h=>by cases h⟩
  have f2:∀ b,B2.free b→β.free b:=fun b h=>Classical.byContradiction fun h'=>h.1 h'
  have hk:dF B1 w B2 W:=by
   refine ⟨fun id o h=>(by cases h),fun b hb hfb=>(calm hs).2.1 b hb (Classical.byContradiction fun h=>hfb.1 h),fun b hb hfb=>⟨fun h=>h (hf b hb (Classical.byContradiction fun h=>hfb.1 h)),fun id m h=>by cases h⟩,fun b el sz h=>?_⟩
   have:=hs.kept.shape b (fk h)
   grind
  exact ((((hyr x).fQ f1 (hcl x)).fS hk).fQ f2 (hcl x))
 let I:List (Fin n)→World→Prop:=fun pre W=>∃ β,gU K0 β (aY ns vs (obs pre)) { a with defers:=[] } W
 have hmt:∀ {pre:List (Fin n)} {β:bo} {a':Act} {W:World},gU K0 β (aY ns vs (obs pre)) a' W→∀ id b m mu,β.m id=some (.bx b m mu)→mu=true:=fun {pre β a' W} hs id b m mu h=>by
  have hid:id<(obs pre).length:=Nat.lt_of_not_le fun hle=>by rw [hs.fresh id hle] at h;cases h
  obtain ⟨o,ho,hmu'⟩:=qc (hmu pre) hid
  rcases hs.heap id o ho with ⟨b',h1,_⟩|⟨h1,_⟩
  ·grind
  grind
 have hI:OwnFrom w.heap.size I:=by
  rintro pre A B row ⟨β,hs⟩ hg hr
  have hne:∀ b,b<A.heap.size→(∀ o,A.heap[b]? = some o→o.isCells=false→b<w.heap.size)→B.heap[b]? = A.heap[b]? := fun b hb h=>hg.block b hb (fun e=>by grind)
  refine ⟨β,hs.same (fun b cs el z hb=>?_) hg.size (.inr ⟨hnm pre,hng0⟩) ?_ rfl (Marks.nil _ _)⟩
  ·exact (hne b (Array.getElem?_eq_some_iff.1 hb).1 (fun o h1 h2=>by rw [hb] at h1;cases h1;cases h2)).trans hb
  ·have hsz:=hs.kept.size
   have low:∀ k,k<w.heap.size→B.heap[k]? = A.heap[k]? := fun k hk=>hne k (by grind) (fun _ _ _=>hk)
   exact ⟨hg.os.trans hs.kept.os,hg.tape.trans hs.kept.tape,hg.output.trans hs.kept.output,Nat.le_trans hsz hg.size,fun k hk hG=>(low k hk).trans (hs.kept.block k hk hG),fun k hk=>(cA (low k hk)).trans (hs.kept.shape k hk),
    fun k o hk ho=>(low k (Array.getElem?_eq_some_iff.1 hk).1).trans (hs.kept.sX k o hk ho)⟩
 let a1:Fin n→Act:=fun x=>Act.put { tmps:=a.tmps.setIfInBounds p (ys x),defers:=[] } (some d) (ys x)
 have a1s:∀ x m,m≠d→m≠p→(a1 x).tmps.getD m undef=a.tmps.getD m undef:=fun x m h1 h2=>by
  simp [a1,Act.put,Array.getD_eq_getD_getElem?,Array.getElem?_setIfInBounds_ne (Ne.symm h1),Array.getElem?_setIfInBounds_ne (Ne.symm h2)]
 have hsize:a.tmps.size=K.nt:=hs0.size
 refine wpIn_rangeFunc_ownG (F:=Fence.wide) rfl (by decide) (gf:=gf) (lb:=vb) hav trivial (fun args w=>?_) hseq (fun h k h0=>k (h h0)) (fun W l o o' hl ho hc hw h=>?_) (Below.refl _ _) (fun _=>rfl) I (fun _ _ _=>False) hI (fun _ _ _ _ _ h _ _=>h) ⟨β0,hS0⟩ a1
  (fun l x W Kc hK=>?_) (fun l pre x W hi hlen=>?_) (fun D pre W hD hpre hi hW=>?_) (fun D c pre W hD _ h=>h.elim)
 ·simp only [callFunc,run_program,Sem.run_bind,Result.andThen_ok,hfn,hfb,hname,Bool.false_eq_true,if_false]
  rfl
 ·refine ⟨Nat.le_trans h.1 (by simp),fun b hb hf=>?_,fun b hb=>?_⟩
  ·exact (World.putObj_heap_other (by omega)).trans (h.2.1 b hb hf)
  ·exact (cA (World.putObj_heap_other (by omega))).trans (h.2.2 b hb)
 ·refine hasg l _ W Kc ?_
  have e0:(#[p].zip #[ys x]).foldl (fun t (q:Tmp×Value)=>t.setIfInBounds q.1 q.2) a.tmps=a.tmps.setIfInBounds p (ys x):=by simp
  show Kc (Act.put { tmps:=(#[p].zip #[ys x]).foldl (fun t (q:Tmp×Value)=>t.setIfInBounds q.1 q.2) a.tmps,defers:=[] } (some d) (((#[p].zip #[ys x]).foldl (fun t (q:Tmp×Value)=>t.setIfInBounds q.1 q.2) a.tmps).getD p undef)) W
  rw [e0]
  have e:(a.tmps.setIfInBounds p (ys x)).getD p undef=ys x:=by simp [Array.getD_eq_getD_getElem?,hsize,hpt]
  grind
 ·obtain ⟨β,hs⟩:=hi
  have hit':=item x hs (hfree (hmt hs) hs)
  let K1:Ctx:=⟨K.P,K.gl,W.heap.size,W,K.nt,K.F,fun b=>w.heap.size≤b∨K0.G b,K.b0,true⟩
  have hwW:w.heap.size≤W.heap.size:=hs.kept.size
  have hs1:gU K1 β (aY (d::p::ns) (xs x::xs x::vs) (obs pre)) (a1 x) W:=by
   refine ⟨fun m=>?_,by grind [Act.put],Marks.nil _ _,hs.heap,hs.inj,hs.fresh,fun id b m mu h=>⟨.inr (hs.live id b m mu h).1,(hs.live id b m mu h).2⟩,hs.zq,hs.bF,
    fun b hb=>⟨Nat.lt_of_lt_of_le (hF0 b hb).1 hwW,fun h=>h.elim (fun h=>by grind) (hF0 b hb).2⟩,Kept.refl _ _ _,Nat.le_refl _,hs.iW⟩
   show Rel β W (ji (d::p::ns) (xs x::xs x::vs) m) ((a1 x).tmps.getD m undef)
   by_cases hmd:d=m
   ·subst hmd
    have e:(a1 x).tmps.getD d undef=ys x:=by simp [a1,Act.put,Array.getD_eq_getD_getElem?,hsize,hdt]
    simp only [ji,Nat.beq_refl,cond_true]
    grind
   ·have hb:Nat.beq d m=false:=by grind [Nat.beq,absurd,Nat.eq_of_beq_eq_true]
    simp only [ji,hb,cond_false]
    by_cases hmp:p=m
    ·subst hmp
     have e:(a1 x).tmps.getD p undef=ys x:=by
      have h1:(a1 x).tmps[p]? = some (ys x):=by
       show ((a.tmps.setIfInBounds p (ys x)).setIfInBounds d (ys x))[p]? = _
       grind
      rw [Array.getD_eq_getD_getElem?,h1];rfl
     simp only [Nat.beq_refl,cond_true]
     grind
    ·have hb:Nat.beq p m=false:=by grind [Nat.beq,absurd,Nat.eq_of_beq_eq_true]
     simp only [hb,cond_false]
     rw [a1s x m (Ne.symm hmd) (Ne.symm hmp)]
     exact hs.slot m
  refine wpIn_mono (FC (K:=K1) (C:=⟨K.P,K.gl,K.nt,own,ng⟩) (pins:=ns) (a0:=a1 x) (.inr ⟨l,rfl⟩) rfl rfl rfl hm body _ _ β (a1 x) W hpb (hround pre x hlen) hs1 (fun _ _=>rfl)) ?_
  rintro e a' W' ⟨⟨β',s',ae,he,hs',hk⟩,hpin⟩
  cases e<;>simp only [jj,reduceCtorEq,Option.some.injEq] at he
  ·subst he
   obtain ⟨β2,hs2⟩:=hk K1 β' a' W' hng hs'
   have hWW:W.heap.size≤W'.heap.size:=hs2.kept.size
   have hs3:gU K0 β2 (aY ns vs (obs (pre++[x]))) { a with defers:=[] } W':=by
    refine ⟨fun m=>?_,hsize,Marks.nil _ _,hs2.heap,hs2.inj,hs2.fresh,fun id b m mu h=>⟨?_,(hs2.live id b m mu h).2⟩,hs2.zq,hs2.bF,hF0,hs.kept.trans (hs2.kept.mono hwW (fun k hk hG=>?_)),Nat.le_trans hwW hWW,hs2.iW⟩
    ·by_cases hm':m∈ns
     ·have:=hs2.slot m
      rw [hpin m hm',a1s x m (fun e=>hdn' (e▸hm')) (fun e=>hpn' (e▸hm'))] at this
      omega
     ·have e:(aY ns vs (obs (pre++[x]))).fr m=.bw:=wT hm'
      rw [e];exact .bw
    ·rcases (hs2.live id b m mu h).1 with h'|h'
     ·grind
     omega
    grind
   exact ⟨⟨hWW,fun k o _ hk ho=>hs2.kept.sX k o hk ho⟩,fun _=>calm hs3,β2,hs3⟩
  ·subst he;exact hk.elim
  ·subst he;exact hk.elim
 ·obtain ⟨β,hs⟩:=hi
  have hpre':pre=List.finRange n:=hpre
  subst hpre'
  refine ⟨rfl,β,hs.slot,hsize,?_,hs.heap,hs.inj,hs.fresh,fun id b m mu h=>⟨?_,(hs.live id b m mu h).2⟩,hs.zq,hs.bF,hs0.hF,hs0.kept.trans (hs.kept.mono hs0.hB (fun k hk hG=>?_)),Nat.le_trans hs0.hB hs.kept.size,hs.iW⟩
  ·obtain ⟨Ds,e1,e2,_,e3⟩:=hs0.defers
   refine ⟨D::Ds,by grind,List.nodup_cons.2 ⟨fun h=>?_,e2⟩,fun h=>(by grind),fun D' h=>?_⟩
   ·grind
   ·rcases List.mem_cons.1 h with rfl|h
    ·exact ⟨Nat.le_trans hs0.hB hD,Nat.le_trans hs0.kept.size hD,hW⟩
    ·exact ⟨(e3 D' h).1,(e3 D' h).2.1,hs.kept.sX D' _ (e3 D' h).2.2 rfl⟩
  ·rcases (hs.live id b m mu h).1 with h'|h'
   ·exact .inl (Nat.le_trans hs0.hB h')
   grind
  grind
theorem NM.aO {l:List AV} (h:∀ v,v∈l→NM v) (j:Nat):NM (aO l j):=by
 unfold Am.aO
 rw [List.getD_eq_getElem?_getD]
 cases hj:l[j]? with
 | none=>exact .bw
 | some x=>grind
def GP:List AV→Prop
 | []=>True
 | v::l=>NM v∧GP l
theorem GP.spec {l:List AV} (h:GP l):∀ v,v∈l→NM v:=by
 induction l with
 | nil=>simp
 | cons x l ih=>intro v hv;rcases List.mem_cons.1 hv with rfl|hv;(· exact h.1);(· exact ih h.2 v hv)
theorem GP.aO {l:List AV} (h:GP l) (j:Nat):NM (Am.aO l j):=NM.aO h.spec j
def NMB (o:Ob):Prop:=∀ i j,i<o.n→j<o.es→NM (o.f i j)
def NMO:List (Option Ob)→Prop
 | []=>True
 | none::l=>NMO l
 | some o::l=>NMB o∧NMO l
theorem NMO.spec {l:List (Option Ob)} (h:NMO l):∀ (k:Nat) o,l[k]? = some (some o)→NMB o:=by
 induction l with
 | nil=>simp
 | cons x l ih =>
  intro k o hk
  cases x with
  | none =>
   cases k with
   | zero=>grind
   | succ k=>exact ih h k o (by grind)
  | some y =>
   cases k with
   | zero=>simp at hk;subst hk;exact h.1
   | succ k=>exact ih h.2 k o (by grind)
theorem NMS.of {ns:List Nat} {vs:List AV} {obs:List (Option Ob)} (h1:GP vs) (h2:NMO obs):NMS (aY ns vs obs):=by
 refine ⟨fun n=>?_,fun id o ho=>?_⟩
 ·show NM (ji ns vs n)
  induction ns generalizing vs with
  | nil=>exact .bw
  | cons m ns ih =>
   cases vs with
   | nil=>exact .bw
   | cons v vs =>
    simp only [ji]
    cases Nat.beq m n with
    | true=>exact h1.1
    | false=>exact ih h1.2
 ·have ho:(obs[id]?).getD none=some o:=by grind [aY]
  cases hk:obs[id]? with
  | none=>grind
  | some x=>rw [hk] at ho;exact h2.spec id o (by grind)
end Go.Am

namespace Go.Sp
open Go.IntKind (wrap)
open Int (toNat)
open Go Go.Am Go.RowKit
theorem jL {β:bo} {w W W1:World} (h:hM β w W) (k:Kept W.heap.size (fun _=>False) W W1):hM β w W1 :=
 ⟨Nat.le_trans h.1 k.size,fun b hb hf=>(k.block b (Nat.lt_of_lt_of_le hb h.1) (fun h=>h)).trans (h.2.1 b hb hf),fun b hb=>(k.shape b (Nat.lt_of_lt_of_le hb h.1)).trans (h.2.2 b hb)⟩
theorem pI {W W1:World} (k:Kept W.heap.size (fun _=>False) W W1):W.grownBy W1 none:=⟨k.os,k.tape,k.output,k.size,fun b hb _=>k.block b hb (fun h=>h)⟩
theorem yQ {ops:Array Oper} {i:Nat} {d:Option Tmp} {op:Op} {g:Option (Nat×Bool)} (h:(ops[i]?).map (fun o=>(o.dst,o.op,o.guard))=some (d,op,g)):∃ o,ops[i]? = some o∧o.dst=d∧o.op=op∧o.guard=g:=by
 cases ho:ops[i]? with
 | none=>rw [ho] at h;cases h
 | some o=>rw [ho] at h;simp only [Option.map_some,Option.some.injEq,Prod.mk.injEq] at h;exact ⟨o,rfl,h.1,h.2.1,h.2.2⟩
theorem mQ {a:Act} {d:Nat} {v:Value} (h:d<a.tmps.size):(a.put (some d) v).tmps.getD d undef=v:=gP h
theorem ta {a:Act} {d n:Nat} {v:Value} (h:n≠d):(a.put (some d) v).tmps.getD n undef=a.tmps.getD n undef:=ja h
theorem mE {a:Act} {d:Nat} {v:Value}:(a.put (some d) v).tmps.size=a.tmps.size:=by simp [Act.put]
theorem uP {os:List (Option Ob)} {a:AV}:aw os (.bH 1 fun k=>aO [a] k) (.bH 1 fun _=>a):=fun β w v _ h=>by
 obtain ⟨b,off,bB,rfl,hm,hb,hc,hr,hcl,ho⟩:=dd h
 have e:∀ j,j<1→aO [a] j=a:=fun j hj=>by
  have:j=0:=by omega
  subst this;rfl
 exact .bH bB hm hb hc ho (fun j hj=>by have:=hr j hj;rwa [e j hj] at this) (fun j hj=>by have:=hcl j hj;rwa [e j hj] at this)
theorem GG {os:List (Option Ob)} {f:Fn} {a b a' b':AV} (h1:aw os a a') (h2:aw os b b'):aw os (.fn f [] [a,b]) (.fn f [] [a',b']):=fun β w v hh h=>by
 cases h with
 | fn hl hr hl' hr' =>
  refine .fn hl hr hl' fun j u x hu hx=>?_
  rcases j with _|_|j
  ·cases hu;exact h1 β w x hh (hr' 0 _ x rfl hx)
  ·cases hu;exact h2 β w x hh (hr' 1 _ x rfl hx)
  ·simp at hu
structure xG (y v1 v2 : Value) (i : Nat) (a : Act) : Prop where
  size : a.tmps.size = 31
  defers : a.defers = []
  t0 : a.tmps.getD 0 undef = y
  t1 : a.tmps.getD 1 undef = v1
  t2 : a.tmps.getD 2 undef = v2
  t4 : a.tmps.getD 4 undef = .int .i64 i
theorem E5 {P:Program} {gl:dE} {own:FuncId→Option (List Bool)} {g:Nat} {fn:Func} {c R0 R1 R2 R3 R4:Code} {r4:Array Oper} {N tS tE:Nat} {h:Nat→Nat→Int} (hN:1≤N) (hf:P.funcs[g]? = some fn) (hbody:fn.body=some c) (hname:(fn.name == "runtime.NumGoroutine")=false) (hrs:fn.results = #[]) (pa:fn.ntmps=31)
  (hm:P.follows .mixedOrders=true) (hshape:c=.seq R0 (.block 0 (.loop (.seq (.seq R1 (.cond (.tmp 9) .skip (.exit 0))) (.seq (.block 1 (.seq R3 (.seq R4 (.cond (.tmp 30) .ret .skip)))) R2))))) (hr4:R4=.region 4 r4 false)
  (hsz:r4.size=12) (hgd:(r4.toList.all fun o=>o.guard.isNone)=true) (hu44:P.underlying tS=some (.slice tE)) (hsh:qo P tE=some 32)
  (h9:(r4[9]?).map (fun o=>(o.dst,o.op,o.guard))=some (some 28,.slice tS (.tmp 20) (some (.tmp 21)) (some (.tmp 24)) (some (.tmp 27)),none))
  (h10:(r4[10]?).map (fun o=>(o.dst,o.op,o.guard))=some (some 29,.call ⟨.value (.tmp 19),#[.tmp 28],#[tS]⟩,none))
  (h11:(r4[11]?).map (fun o=>(o.dst,o.op,o.guard))=some (some 30,.unOp .not 4 (.tmp 29),none))
  (k0:gn [0,1,2] R0=true) (k1:gn [0,1,2,4] R1=true) (k2:gn [0,1,2] R2=true) (k3:gn [0,1,2,4] R3=true) (k4:iI [0,1,2,4] (r4.extract 0 9)=true)
  (i0:fA P gl own 0 31 R0 (aY [] [] []) (aY [4] [.int .i64 0] []))
  (i1:∀ k:Nat,k≤2*N→fA P gl own 0 31 R1 (aY [1,2,4] [.bH 1 fun _=>dB (2*N) h,.bH 1 fun _=>.int .i64 2,.int .i64 k] []) (aY [9] [.bool (decide ((k:Int)<(2*N:Nat)))] []))
  (i3:∀ k:Nat,k+2≤2*N→fA P gl own 0 31 R3 (aY [1,2,4] [.bH 1 fun _=>dB (2*N) h,.bH 1 fun _=>.int .i64 2,.int .i64 k] []) (aY [5] [.int .i64 2] []))
  (i4:∀ (y u:Value) (k:Nat),k+2≤2*N→fA P gl own 0 31 (.region 4 (r4.extract 0 9) false) (aY [0,1,4,5] [.raw y,.bH 1 fun _=>.raw u,.int .i64 k,.int .i64 2] []) (aY [19,20,21,24,27] [.raw y,.raw u,.int .i64 k,.int .i64 (k+2),.int .i64 (k+2)] []))
  (i2:∀ k:Nat,k+2≤2*N→fA P gl own 0 31 R2 (aY [2,4] [.bH 1 fun _=>.int .i64 2,.int .i64 k] []) (aY [4] [.int .i64 (k+2)] [])) :
  Iter P gl g [.bH 1 fun _=>dB (2*N) h,.bH 1 fun _=>.int .i64 2] N (fun k=>dB 2 fun r=>h (2*k.1+r)):=by
 refine ⟨⟨_,_,hf,hbody,hname⟩,fun β w vs hF hlt hg hv=>?_⟩
 obtain ⟨v1,v2,rfl,h1,h2⟩:∃ v1 v2,vs = #[v1,v2]∧Rel β w (.bH 1 fun _=>dB (2*N) h) v1∧Rel β w (.bH 1 fun _=>.int .i64 2) v2:=by
  have hl:2=vs.size:=hv.len
  obtain ⟨vs⟩:=vs
  match vs,hl with
  | [v1,v2],_=>exact ⟨v1,v2,rfl,hv.rel 0 _ _ rfl rfl,hv.rel 1 _ _ rfl rfl⟩
 obtain ⟨b1,o1,vals1,hv1,_,hf1,hc1,hr1,hcl1,hone1⟩:=dd h1
 have hu:=hr1 0 (by decide)
 generalize hu0:vals1 0=u at hu
 obtain ⟨a0,cap,hue,hcap,_,hrest⟩:=gX hu
 obtain ⟨b,off,bB,ha0,he,hfree,hcell,hrel,hcl,hone⟩:=hrest (by omega)
 subst ha0
 have hx:∀ k:Nat,k<N→Rel β w (dB 2 fun r=>h (2*k+r)) (.slice (some ⟨b,off+2*k*32,none⟩) 2 2):=fun k hk =>
  .aG (fun i j=>bB (2*k+i) j) (by decide) (Nat.le_refl _) hfree (fun i j hi hj=>by
   rw [← hcell (2*k+i) j (by omega) hj];grind) (fun i j hi hj=>hone _ _ (by omega) hj) (fun i j hi hj=>hrel _ _ (by omega) hj) (fun i j hi hj=>hcl _ _ (by omega) hj)
 refine ⟨fun k=>.slice (some ⟨b,off+2*k.1*32,none⟩) 2 2,fun k=>hx k.1 k.2,?_⟩
 intro l J Jx W hbW hJ hJx hY hJ0
 have hcW:hM β w W:=⟨hbW.size,fun b hb _=>hbW.block b hb,fun b hb=>cA (hbW.block b hb)⟩
 refine callsIn_of_wp hf hbody trivial ?_
 have hJg:∀ pre A B,J pre A→Kept A.heap.size (fun _=>False) A B→J pre B:=fun pre A B hj k=>hJ pre A B none hj (pI k) (fun r h=>by cases h)
 have hcl1':Cl (.bH 1 fun _=>dB (2*N) h):=.bH hcl1
 have hcl2':Cl (.bH 1 fun _=>.int .i64 2):=.bH fun _ _=>.int
 have hclu:Cl (.bH 1 fun _=>.raw u):=.bH fun _ _=>.raw
 have hraw:Rel β w (.raw u) (vals1 0):=by
  rw [hu0]
  exact .raw (fun cs e=>by grind)
 have hur:Rel β w (.bH 1 fun _=>.raw u) v1:=by
  rw [hv1]
  refine .bH vals1 (by decide) hf1 hc1 hone1 (fun j hj=>?_) (fun _ _=>.raw)
  grind
 generalize hy:(Value.func (.yield l) #[] #[])=y
 have sim:∀ {i:Nat} {a:Act} {W:World},xG y v1 v2 i a→hM β w W→gU (mw P gl 31 β w W) (pX β w) (aY [1,2,4] [.bH 1 fun _=>dB (2*N) h,.bH 1 fun _=>.int .i64 2,.int .i64 i] []) a W:=fun {i a W} ha hW =>
  gU.calm hg hW ha.size ha.defers (fun k n v hn hv=>by
   rcases k with _|_|_|k
   ·cases hn;cases hv;rw [ha.t1];exact h1.calm hcl1' hW
   ·cases hn;cases hv;rw [ha.t2];exact h2.calm hcl2' hW
   ·cases hn;cases hv;rw [ha.t4];exact .int
   simp_all)
 have pin:∀ {i:Nat} {a a':Act} {s:dH} {β':bo} {W W':World},xG y v1 v2 i a→kf [0,1,2,4] a a'→gU (mw P gl 31 β w W) β' s a' W'→xG y v1 v2 i a':=fun {i a a' s β' W W'} f hp hs =>
  ⟨hs.size,hs.defers.quiet rfl,(hp 0 (by simp)).trans f.t0,(hp 1 (by simp)).trans f.t1,(hp 2 (by simp)).trans f.t2,(hp 4 (by simp)).trans f.t4⟩
 have hres:∀ (a:Act) (W':World),(results fn a.tmps).run P W'=.ok (.tuple #[]) W':=fun a W'=>by
  rw [pk,hrs]
  simp
 have fin:∀ k:Nat,(hk:k<N)→(List.finRange N).take k++[⟨k,hk⟩]=(List.finRange N).take (k+1):=fun k hk=>by
  rw [List.take_add_one]
  simp [hk]
 subst hshape
 refine wpIn_seq (wpIn_mono (fA.in (pins:=[0,1,2]) (K:=mw P gl 31 β w W) i0 (.inl rfl) k0 (fun _ _=>rfl) hm (gU.calm (ns:=[]) (vs:=[]) hg hcW (by simp [pa]) rfl (fun k n v hn=>by simp))) ?_)
 rintro e a1 W1 ⟨rfl,⟨β1,hs1⟩,hp1⟩
 have f1:xG y v1 v2 0 a1:=⟨hs1.size,hs1.defers.quiet rfl,(hp1 0 (by simp)).trans (by simp [Array.getD_eq_getD_getElem?,Array.getElem?_append]),(hp1 1 (by simp)).trans (by simp [Array.getD_eq_getD_getElem?,Array.getElem?_append]),(hp1 2 (by simp)).trans (by simp [Array.getD_eq_getD_getElem?,Array.getElem?_append]),bq (hs1.slot 4)⟩
 have c1:=jL hcW hs1.kept
 have j1:=hJg _ _ _ hJ0 hs1.kept
 show (Code.block 0 _).wpIn _ _ _ _ a1 W1
 refine wpIn_block (wpIn_loop (fun a W=>∃ k,k≤N∧xG y v1 v2 (2*k) a∧hM β w W∧J ((List.finRange N).take k) W) (fun a _=>match a.tmps.getD 4 undef with|.int _ i=>(2*N - i).toNat|_=>0) ⟨0,Nat.zero_le _,f1,c1,j1⟩ ?_)
 rintro a2 W2 ⟨k,hk,f2,c2,j2⟩
 have hJk:∀ pre A B,J pre A→Kept A.heap.size (fun _=>False) A B→J pre B:=fun pre A B hj kk=>hJ pre A B none hj (pI kk) (fun r h=>by cases h)
 refine wpIn_seq (wpIn_seq (wpIn_mono (fA.in (pins:=[0,1,2,4]) (K:=mw P gl 31 β w W2) (i1 (2*k) (by omega)) (.inl rfl) k1 (fun _ _=>rfl) hm (sim f2 c2)) ?_))
 rintro e a3 W3 ⟨rfl,⟨β3,hs3⟩,hp3⟩
 have f3:=pin f2 hp3 hs3
 have c3:=jL c2 hs3.kept
 have j3:=hJk _ _ _ j2 hs3.kept
 have t9:a3.eval (.tmp 9)=.bool (decide (((2*k:Nat):Int)<(2*N:Nat))):=ca (hs3.slot 9)
 by_cases hkN:k<N
 rotate_left
 ·
  refine wpIn_cond_false (by grind) (wpIn_exit ?_)
  obtain rfl:k=N:=by omega
  refine ⟨f3.defers,_,hres a3 W3,⟨_,rfl⟩,.inl ⟨_,?_,j3⟩⟩
  simp [List.take_of_length_le]
 refine wpIn_cond_true (by grind) (wpIn_skip ?_)
 refine wpIn_seq (wpIn_block (wpIn_seq (wpIn_mono (fA.in (pins:=[0,1,2,4]) (K:=mw P gl 31 β w W3) (i3 (2*k) (by omega)) (.inl rfl) k3 (fun _ _=>rfl) hm (sim f3 c3)) ?_)))
 rintro e a4 W4 ⟨rfl,⟨β4,hs4⟩,hp4⟩
 have f4:=pin f3 hp4 hs4
 have c4:=jL c3 hs4.kept
 have j4:=hJk _ _ _ j3 hs4.kept
 have t5:a4.tmps.getD 5 undef=.int .i64 2:=bq (hs4.slot 5)
 refine wpIn_seq ?_
 subst hr4
 refine wpIn_region ?_
 have hr:List.range r4.size=List.range 9++[9,10,11]:=by rw [hsz];rfl
 rw [hr]
 have hgn:∀ i o,i<9→r4[i]? = some o→o.guard=none:=fun i o hi ho=>by
  have hmem:o∈r4.toList:=by
   obtain ⟨h1,h2⟩:=Array.getElem?_eq_some_iff.1 ho
   rw [← h2];simp
  have:=List.all_eq_true.1 hgd o hmem
  cases hg':o.guard with
  | none=>rfl
  | some x=>rw [hg'] at this;cases this
 have hsz9:(r4.extract 0 9).size=9:=by simp [hsz]
 have hpre:wpOpsIn Fence.wide 8 P (r4.extract 0 9) (fun e a' W'=>e=.normal∧(∃ β',gU (mw P gl 31 β w W4) β' (aY [19,20,21,24,27] [.raw y,.raw u,.int .i64 (2*k:Nat),.int .i64 ((2*k:Nat)+2),.int .i64 ((2*k:Nat)+2)] []) a' W')∧kf [0,1,2,4] a4 a') (List.range 9) a4 W4:=by
  have:=fA.ops (F:=Fence.wide) (n:=8) (K:=mw P gl 31 β w W4) (pins:=[0,1,2,4]) (i4 y u (2*k) (by omega)) (.inl rfl) k4 (fun _ _=>rfl) (gU.calm (ns:=[0,1,4,5]) (a:=a4) hg c4 f4.size f4.defers (fun k' n v hn hv=>by
   rcases k' with _|_|_|_|k'
   ·cases hn;cases hv;rw [f4.t0];exact .raw (fun cs e=>by grind)
   ·cases hn;cases hv;rw [f4.t1];exact hur.calm hclu c4
   ·cases hn;cases hv;rw [f4.t4];exact .int
   ·cases hn;cases hv;rw [t5];exact .int
   ·simp at hn))
  rwa [hsz9] at this
 refine A6 (ops':=r4.extract 0 9) (m:=9) (fun i hi=>by rw [Array.getElem?_extract];grind) hgn ?_ (List.range 9) (fun i hi=>List.mem_range.1 hi) a4 W4 hpre
 rintro a5 W5 ⟨⟨β5,hs5⟩,hp5⟩
 have f5:=pin f4 hp5 hs5
 have c5:=jL c4 hs5.kept
 have j5:=hJk _ _ _ j4 hs5.kept
 have raw_inv:∀ {v a:Value} {β':bo} {W':World},Rel β' W' (.raw a) v→v=a:=fun h=>by cases h;rfl
 have t19:a5.eval (.tmp 19)=y:=raw_inv (hs5.slot 19)
 have t20:a5.eval (.tmp 20)=.slice (some ⟨b,off,none⟩) (2*N) cap:=(raw_inv (hs5.slot 20)).trans hue
 have t21:a5.eval (.tmp 21)=.int .i64 (2*k:Nat):=bq (hs5.slot 21)
 have t24:a5.eval (.tmp 24)=.int .i64 ((2*k:Nat)+2):=bq (hs5.slot 24)
 have t27:a5.eval (.tmp 27)=.int .i64 ((2*k:Nat)+2):=bq (hs5.slot 27)
 obtain ⟨o9,ho9,hd9,hop9,hg9⟩:=yQ h9
 obtain ⟨o10,ho10,hd10,hop10,hg10⟩:=yQ h10
 obtain ⟨o11,ho11,hd11,hop11,hg11⟩:=yQ h11
 have wnt:∀ (o:Oper) ys,o.guard=none→Region.wanted o ys=true:=fun o ys hg=>by simp [Region.wanted,hg]
 have e9:(execOp a5.eval o9).run P W5=.ok (.value (.slice (some ⟨b,off+2*k*32,none⟩) 2 2)) W5:=by
  have hb1:(Instr.sliceBounds true (2*N) cap (some (.int .i64 (2*k:Nat))) (some (.int .i64 ((2*k:Nat)+2))) (some (.int .i64 ((2*k:Nat)+2)))).run P W5=.ok (2*k,2*k+2,2*k+2) W5:=by
   have g1:(0:Int)≤((2*k:Nat):Int)+2∧((2*k:Nat):Int)+2≤cap:=by omega
   have g2:(0:Int)≤((2*k:Nat):Int)+2∧((2*k:Nat):Int)+2≤((2*k+2:Nat):Int):=by omega
   have g3:(0:Int)≤((2*k:Nat):Int)∧((2*k:Nat):Int)≤((2*k+2:Nat):Int):=by omega
   have e1:(((2*k:Nat):Int)+2).toNat=2*k+2:=by omega
   simp only [Instr.sliceBounds,Instr.sliceBound,cT,Sem.run_bind,Result.andThen_ok,Sem.run_ite,if_pos g1,Sem.run_pure,e1,if_pos g2,if_pos g3,Option.isSome_some,if_true,Int.toNat_natCast]
  have hne:¬(2*k+2=2*k):=by omega
  have e2:2*k+2 - 2*k=2:=by omega
  simp only [execOp,hop9,Instr.sliceAt,Instr.slice,t20,t21,t24,t27,Option.map_some,Sem.run_bind,run_underlying hu44,Result.andThen_ok,hb1,cU W5 hsh,Sem.run_pure,if_neg hne,eZ,e2]
 simp only [wpOpsIn,ho9,ho10,ho11,wnt o9 _ hg9,if_true]
 refine ⟨fun _ _=>trivial,?_⟩
 show o9.uponIn _ _ _ _ _ _ ((execOp a5.eval o9).run P W5)
 rw [e9,Oper.uponIn_value,hd9,if_pos (wnt o10 _ hg10)]
 refine ⟨fun _ _=>trivial,?_⟩
 have hlen:((List.finRange N).take k).length<N:=by simp;omega
 obtain ⟨fn',tmps',asg,bd,hy10,hR⟩:=hY ((List.finRange N).take k) ⟨k,hkN⟩ W5 j5 hlen
 have e10:(execOp (a5.put (some 28) (.slice (some ⟨b,off+2*k*32,none⟩) 2 2)).eval o10).run P W5=.ok (.round l fn' tmps' asg bd) W5:=by
  have v19:(a5.put (some 28) (.slice (some ⟨b,off+2*k*32,none⟩) 2 2)).eval (.tmp 19)=.func (.yield l) #[] #[]:=by
   show (a5.put (some 28) _).tmps.getD 19 undef=_
   rw [ta (by decide),hy]
   exact t19
  have v28:(a5.put (some 28) (.slice (some ⟨b,off+2*k*32,none⟩) 2 2)).eval (.tmp 28)=.slice (some ⟨b,off+2*k*32,none⟩) 2 2:=mQ (by rw [f5.size];decide)
  simp [execOp,hop10,resolve,v19,v28,Deferred.ofValue,invoke]
  omega
 show o10.uponIn _ _ _ _ _ _ ((execOp _ o10).run P W5)
 rw [e10,Oper.uponIn_round,hd10]
 generalize ha6:a5.put (some 28) (.slice (some ⟨b,off+2*k*32,none⟩) 2 2)=a6
 have sz6:a6.tmps.size=31:=by rw [← ha6,mE];exact f5.size
 have g6:∀ m,m≠28→a6.tmps.getD m undef=a5.tmps.getD m undef:=fun m hm'=>by rw [← ha6];exact ta hm'
 have d6:a6.defers=[]:=by rw [← ha6];exact f5.defers
 refine ⟨fun h=>(by cases h),hR.mono ?_⟩
 have e11:∀ (v:Bool) (W6:World),(execOp (a6.put (some 29) (.bool v)).eval o11).run P W6=.ok (.value (.bool (!v))) W6:=fun v W6=>by
  have v29:(a6.put (some 29) (.bool v)).eval (.tmp 29)=.bool v:=mQ (by omega)
  have hun:(Op.unary UnOp.not (.bool v)).run P W6=.ok (.bool (!v)) W6:=rfl
  simp [execOp,hop11,v29,Result.andThen,hun]
 rintro e W6 (⟨rfl,j6,s6⟩|⟨rfl,jx6⟩)
 ·show (if Region.wanted o11 _=true then _ else _)
  rw [if_pos (wnt o11 _ hg11)]
  refine ⟨fun _ _=>trivial,?_⟩
  show o11.uponIn _ _ _ _ _ _ ((execOp _ o11).run P W6)
  rw [e11,Oper.uponIn_value,hd11]
  generalize ha7:a6.put (some 29) (.bool true)=a7
  have sz7:a7.tmps.size=31:=by rw [← ha7,mE];omega
  have v30:(a7.put (some 30) (.bool (!true))).eval (.tmp 30)=.bool false:=mQ (by omega)
  refine wpIn_cond_false v30 (wpIn_skip ?_)
  have g8:∀ m,m≠28→m≠29→m≠30→(a7.put (some 30) (.bool (!true))).tmps.getD m undef=a5.tmps.getD m undef:=fun m h1 h2 h3=>by
   rw [ta h3,← ha7,ta h2];exact g6 m h1
  have f8:xG y v1 v2 (2*k) (a7.put (some 30) (.bool (!true))):=⟨by rw [mE];omega,by rw [← ha7];exact d6,(g8 0 (by decide) (by decide) (by decide)).trans f5.t0,(g8 1 (by decide) (by decide) (by decide)).trans f5.t1,(g8 2 (by decide) (by decide) (by decide)).trans f5.t2,(g8 4 (by decide) (by decide) (by decide)).trans f5.t4⟩
  generalize a7.put (some 30) (.bool (!true))=a8 at f8
  have c6:hM β w W6:=s6 c5
  refine wpIn_mono (fA.in (F:=Fence.wide) (pins:=[0,1,2]) (K:=mw P gl 31 β w W6) (i2 (2*k) (by omega)) (.inl rfl) k2 (fun _ _=>rfl) hm (gU.calm (ns:=[2,4]) hg c6 f8.size f8.defers (fun k' n v hn hv=>by
   rcases k' with _|_|k'
   ·cases hn;cases hv;rw [f8.t2];exact h2.calm hcl2' c6
   ·cases hn;cases hv;rw [f8.t4];exact .int
   ·simp at hn))) ?_
  rintro e a9 W9 ⟨rfl,⟨β9,hs9⟩,hp9⟩
  have t4:a9.tmps.getD 4 undef=.int .i64 ((2*k:Nat)+2):=bq (hs9.slot 4)
  have f9:xG y v1 v2 (2*(k+1)) a9:=⟨hs9.size,hs9.defers.quiet rfl,(hp9 0 (by simp)).trans f8.t0,(hp9 1 (by simp)).trans f8.t1,(hp9 2 (by simp)).trans f8.t2,t4.trans (by congr 1)⟩
  have c9:=jL c6 hs9.kept
  rw [fin k hkN] at j6
  have j9:=hJk _ _ _ j6 hs9.kept
  refine ⟨⟨k+1,hkN,f9,c9,j9⟩,?_⟩
  show (match a9.tmps.getD 4 undef with|.int _ i=>(2*N - i).toNat|_=>0)<(match a2.tmps.getD 4 undef with|.int _ i=>(2*N - i).toNat|_=>0)
  rw [f9.t4,f2.t4]
  show (2*(N:Int) - ((2*(k+1):Nat):Int)).toNat<(2*(N:Int) - ((2*k:Nat):Int)).toNat
  omega
 ·show (if Region.wanted o11 _=true then _ else _)
  rw [if_pos (wnt o11 _ hg11)]
  refine ⟨fun _ _=>trivial,?_⟩
  show o11.uponIn _ _ _ _ _ _ ((execOp _ o11).run P W6)
  rw [e11,Oper.uponIn_value,hd11]
  generalize ha7:a6.put (some 29) (.bool false)=a7
  have sz7:a7.tmps.size=31:=by rw [← ha7,mE];omega
  have v30:(a7.put (some 30) (.bool (!false))).eval (.tmp 30)=.bool true:=mQ (by omega)
  refine wpIn_cond_true v30 (wpIn_ret ?_)
  refine ⟨by rw [← ha7];exact d6,_,hres _ W6,⟨_,rfl⟩,.inr ⟨_,trivial,jx6⟩⟩
theorem AM {P:Program} {id d p:Nat} {r:Array Oper} (hsz:r.size=1) (h0:(r[0]?).map (fun o=>(o.dst,o.op,o.guard))=some (some d,.assign (.tmp p),none)) (l:Nat) (a:Act) (W:World) (K:Act→World→Prop) (hK:K (a.put (some d) (a.tmps.getD p undef)) W) :
  (Code.region id r false).wpIn (Fence.wide.inRound l) 7 P (Exit.then K (fun _ _ _=>False)) a W:=by
 refine wpIn_region ?_
 obtain ⟨o,ho,hd,hop,hg⟩:=yQ h0
 rw [hsz]
 show wpOpsIn _ _ _ _ _ [0] a W
 simp only [wpOpsIn,ho]
 rw [if_pos (by grind [Region.wanted])]
 refine ⟨fun _ _=>trivial,?_⟩
 rw [Oper.semAt_eq _ _ _ (fun c e=>by grind)]
 have e:(execOp a.eval o).run P W=.ok (.value (a.tmps.getD p undef)) W:=by
  simp only [execOp,hop,Sem.run_pure]
  rfl
 rw [e,Oper.uponIn_value,hd]
 exact hK
def lD {N:Nat} (h:Nat→Nat→Int) (pre:List (Fin N)) (r:Nat):Nat→Int:=match pre[r]? with
 | some x=>eA (h (2*x.1)) (h (2*x.1+1))
 | none=>fun _=>0
theorem G2 {os:List (Option Ob)} {N:Nat} {h:Nat→Nat→Int} {pre:List (Fin N)} {x:Fin N} :
  aH os ⟨32,pre.length+1,true,.fn fun i j=>.int .u8 (bif Nat.blt i pre.length then lD h pre i j else aE (aO (bh (eA (h (2*x.1+0)) (h (2*x.1+1)))) j))⟩ ⟨32,(pre++[x]).length,true,.fn fun r j=>.int .u8 (lD h (pre++[x]) r j)⟩:=by
 refine ⟨rfl,by simp,rfl,fun i j hi hj=>aw.of_eq (congrArg (AV.int .u8) ?_)⟩
 have hi':i<pre.length+1:=hi
 unfold lD
 by_cases hlt:i<pre.length
 ·grind [cy,List.getElem?_append_left]
 ·have:i=pre.length:=by omega
  subst this
  rw [dh (Nat.le_refl _),List.getElem?_append_right (Nat.le_refl _),Nat.sub_self]
  show aE (aO (bh _) j)=_
  rw [eL hj];rfl
theorem zt {os:List (Option Ob)} {d x:Nat} {h:Nat→Nat→Int}:aw os (.aG 32 (2^(d - x - 1)) fun r k=>.int .u8 (lD (dT h x) (List.finRange (2^(d - x - 1))) (r+0) k)) (dB (2^(d - (x+1))) (dT h (x+1))) :=
 aw.ia rfl fun i j hi hj=>congrArg (AV.int .u8) (by simp_all [lD,dT,List.finRange])
end Go.Sp

namespace Go.Proofs.YtgnfjlekpgjehaaGreatDoor
open Go.IntKind (wrap)
open Int (toNat)
open Go Go.Am Go.Sp
set_option maxRecDepth 100000
def cL:Code→Code|.seq a _=>a|c=>c
def cR:Code→Code|.seq _ b=>b|c=>c
def cI:Code→Code|.block _ a=>a|.loop a=>a|c=>c
def cO:Code→Array Oper|.region _ o _=>o|_ => #[]
noncomputable def itC:Code:=Tryz.f362.body.getD .skip
noncomputable def itB:Code:=cI (cI (cR itC))
noncomputable def O8:Code:=cL (cL itB)
noncomputable def Ns:Code:=cR (cR itB)
noncomputable def itK:Code:=cI (cL (cR itB))
noncomputable def OD:Code:=cL itK
noncomputable def EG:Code:=cL (cR itK)
theorem CR:itC=.seq (cL itC) (.block 0 (.loop (.seq (.seq O8 (.cond (.tmp 9) .skip (.exit 0))) (.seq (.block 1 (.seq OD (.seq EG (.cond (.tmp 30) .ret .skip)))) Ns)))):=by kernel_rfl
def slT:Option Op→TypeId|some (.slice t ..)=>t|_=>0
def elT:Option TypeDesc→TypeId|some (.slice t)=>t|_=>0
noncomputable def itS:TypeId:=slT ((cO EG)[9]?.map (·.op))
noncomputable def itE:TypeId:=elT (Tryz.prog.underlying itS)
theorem OK:EG=.region 4 (cO EG) false:=by kernel_rfl
theorem it1 (N k:Nat) (hN:N≤4000) (h:Nat→Nat→Int):fA Tryz.prog aW bk 0 31 O8 (aY [1,2,4] [.bH 1 fun _=>dB N h,.bH 1 fun _=>.int .i64 2,.int .i64 k] []) (aY [9] [.bool (decide ((k:Int)<N))] []):=by
 refine jM (own:=bk)
  (let y0:List AV:=[.bool (decide ((k:Int)<(N:Int)))];(.again (fun (u:dH)=>Le 0 u (aY [9] y0 [])) [9] [] (y0) []))
  (by kernel_rfl) ?_
 exact jD (fun _ hs=>hs.le (⟨.refl _,trivial⟩) (trivial))
theorem it3 (N k:Nat) (hN:N≤4000) (h:Nat→Nat→Int) (hk:k+2≤N):fA Tryz.prog aW bk 0 31 OD (aY [1,2,4] [.bH 1 fun _=>dB N h,.bH 1 fun _=>.int .i64 2,.int .i64 k] []) (aY [5] [.int .i64 2] []):=by
 refine jM (own:=bk)
  (let z0:Int:=(↑(N - toNat (k:Int)):Int);(.bf (0≤(k:Int)∧(k:Int)≤(N:Int)) (.again (fun (u:dH)=>Le 0 u (aY [5] [Zi 2] [])) [5] [] [Zi (if z0<2 then z0 else (2:Int))] [])))
  (by kernel_rfl) ?_
 refine aD (by omega) ?_
 exact jD (fun _ hs=>hs.le (⟨.of_eq (congrArg _ (by omega)),trivial⟩) (trivial))
theorem it4 (y u:Value) (k:Nat) (hk:k≤4000):fA Tryz.prog aW bk 0 31 (.region 4 ((cO EG).extract 0 9) false) (aY [0,1,4,5] [.raw y,.bH 1 fun _=>.raw u,.int .i64 k,.int .i64 2] []) (aY [19,20,21,24,27] [.raw y,.raw u,.int .i64 k,.int .i64 (k+2),.int .i64 (k+2)] []):=by
 refine jM (own:=bk)
  (.again (fun (u_1:dH)=>Le 0 u_1 (aY [19,20,21,24,27] [AV.raw y,AV.raw u,Zi k,Zi ((k:Int)+2),Zi ((k:Int)+2)] [])) [19,20,21,24,27] [] [AV.raw y,AV.raw u,Zi k,Zi (wrap .i64 ((k:Int)+2)),Zi (wrap .i64 ((k:Int)+2))] [])
  (by kernel_rfl) ?_
 exact jD (fun _ hs=>hs.le (⟨.refl _,.refl _,.refl _,aJ (by omega),aJ (by omega),trivial⟩) (trivial))
theorem it2 (k:Nat) (hk:k≤4000):fA Tryz.prog aW bk 0 31 Ns (aY [2,4] [.bH 1 fun _=>.int .i64 2,.int .i64 k] []) (aY [4] [.int .i64 (k+2)] []):=by
 refine jM (own:=bk)
  (.again (fun (u:dH)=>Le 0 u (aY [4] [Zi ((k:Int)+2)] [])) [4] [] [Zi (wrap .i64 ((k:Int)+2))] [])
  (by kernel_rfl) ?_
 exact jD (fun _ hs=>hs.le (⟨aJ (by omega),trivial⟩) (trivial))
theorem it0:fA Tryz.prog aW bk 0 31 (cL itC) (aY [] [] []) (aY [4] [.int .i64 0] []):=by
 refine jM (own:=bk)
  (.again (fun (u:dH)=>Le 0 u (aY [4] [Zi 0] [])) [4] [] [Zi 0] [])
  (by kernel_rfl) ?_
 exact jD (fun _ hs=>hs.le (⟨.refl _,trivial⟩) (trivial))
theorem xx (N:Nat) (hN:1≤N) (hN':N≤1000) (h:Nat→Nat→Int):Iter Tryz.prog aW 362 [.bH 1 fun _=>dB (2*N) h,.bH 1 fun _=>.int .i64 2] N (fun k=>dB 2 fun r=>h (2*k.1+r)) :=
 E5 (own:=bk) (tS:=itS) (tE:=itE) hN Tryz.func362 (by kernel_rfl:_=some itC) (by kernel_rfl) (by kernel_rfl) (by kernel_rfl) mixed CR OK (by kernel_rfl) (by kernel_rfl) (by kernel_rfl) (by kernel_rfl) (by kernel_rfl) (by kernel_rfl) (by kernel_rfl)
  (by kernel_rfl) (by kernel_rfl) (by kernel_rfl) (by kernel_rfl) (by kernel_rfl) it0 (fun k hk=>it1 (2*N) k (by omega) h) (fun k hk=>it3 (2*N) k (by omega) h hk) (fun y u k hk=>it4 y u k (by omega)) (fun k hk=>it2 k (by omega))
theorem Ip (N:Nat) (hN':N≤1000) (h:Nat→Nat→Int):Pure Tryz.prog aW 358 [dB N h,.int .i64 2] (.fn (.func 362) [] [.bH 1 fun _=>dB N h,.bH 1 fun _=>.int .i64 2]):=by
 refine ar (own:=bk) Tryz.func358 (by kernel_rfl) mixed (by kernel_rfl)
  (.ff (.out (AV.fn (Fn.func 362) [] [AV.bH 1 fun k=>aO [.aG 32 N fun i j=>Zb (h i j)] k,AV.bH 1 fun k=>aO [Zi 2] k]) [] (AV.fn (Fn.func (362:FuncId)) [] [AV.bH 1 fun x=>dB N h,AV.bH 1 fun x=>Zi 2]) []))
  (by kernel_rfl) ?_
 refine b9 ?_
 exact aq (GG uP uP)
def rA:Code→Code|.rangeFunc _ _ a _=>a|c=>c
def rB:Code→Code|.rangeFunc _ _ _ b=>b|c=>c
noncomputable def lvX:Code:=cI (cR (cI (cI (cL (cR (cR (Tryz.f351.body.getD .skip)))))))
noncomputable def lvF:Code:=cI (cR (cL (cR lvX)))
theorem DT:lvF=.rangeFunc (.tmp 12) #[13] (.region 5 (cO (rA lvF)) false) (rB lvF):=by kernel_rfl
theorem LD:NMG aW:=by
 intro g m f hg
 unfold aW at hg
 cases e0:Nat.beq g 0 with
 | true=>rw [e0] at hg;simp only [cond_true,Option.some.injEq,Prod.mk.injEq] at hg;obtain ⟨rfl,rfl⟩:=hg;exact .bH fun _ _=>.int
 | false =>
 cases e1:Nat.beq g 2 with
 | true=>rw [e0,e1] at hg;simp only [cond_true,cond_false,Option.some.injEq,Prod.mk.injEq] at hg;obtain ⟨rfl,rfl⟩:=hg;exact .bH fun _ _=>.int
 | false =>
 cases e2:Nat.beq g 1 with
 | true=>rw [e0,e1,e2] at hg;simp only [cond_true,cond_false,Option.some.injEq,Prod.mk.injEq] at hg;obtain ⟨rfl,rfl⟩:=hg;exact .bH fun _ _=>.int
 | false =>
 cases e3:Nat.beq g 3 with
 | true=>rw [e0,e1,e2,e3] at hg;simp only [cond_true,cond_false,Option.some.injEq,Prod.mk.injEq] at hg;obtain ⟨rfl,rfl⟩:=hg;exact .bH fun _ _=>.int
 | false=>rw [e0,e1,e2,e3] at hg;cases hg
theorem Cp (n:Nat) (h:Nat→Nat→Int):NM (dB n h):=.aG fun _ _ _ _=>.int
theorem Ff (N m:Nat) (C:Nat→Nat) (F:Nat→Nat→Nat→Int) (h:Nat→Nat→Int) (hb:∀ i,i<2*N→cC (h i) 32) (pre:List (Fin N)) (x:Fin N) (hp:pre.length<N) (hN:N≤1000) :
  fA Tryz.prog aW bk 0 32 (rB lvF) (aY [5,13,3,4,12] [dB 2 fun r=>h (2*x.1+r),dB 2 fun r=>h (2*x.1+r),.aZ 0 1 0 m,.own 1 1 0 0 1,.fn (.func 362) [] [.bH 1 fun _=>dB (2*N) h,.bH 1 fun _=>.int .i64 2]] [some ⟨1,m,true,.row fun i=>[dB (C i) (F i)]⟩,some ⟨1,1,true,.ba [[.aZ 2 32 0 pre.length]]⟩,some ⟨32,pre.length,true,.fn fun r j=>.int .u8 (lD h pre r j)⟩]) (aY [3,4,12] [.aZ 0 1 0 m,.own 1 1 0 0 1,.fn (.func 362) [] [.bH 1 fun _=>dB (2*N) h,.bH 1 fun _=>.int .i64 2]] [some ⟨1,m,true,.row fun i=>[dB (C i) (F i)]⟩,some ⟨1,1,true,.ba [[.aZ 2 32 0 (pre++[x]).length]]⟩,some ⟨32,(pre++[x]).length,true,.fn fun r j=>.int .u8 (lD h (pre++[x]) r j)⟩]):=by
 refine jM (own:=bk)
  (.bf ((0:Int)≤0∧(0:Int)<2) (.bf ((0:Int)≤1∧(1:Int)<2) (.sc true 330 [.agg (bh (h (2*x.1+0))),.agg (bh (h (2*x.1+1)))] (.agg (bh (eA (h (2*(↑x:Nat)+0)) (h (2*(↑x:Nat)+1))))) (.bf ((List.length pre+1)*32≤140737488355328) (.again (fun (u:dH)=>Le 0 u (aY [3,4,12] [.aZ 0 1 0 m,.own 1 1 0 0 1,AV.fn (Fn.func (362:FuncId)) [] [AV.bH 1 fun x=>dB (2*N) h,AV.bH 1 fun x=>Zi 2]] [some ⟨1,m,true,bz.row fun i=>[dB (C i) (F i)]⟩,some ⟨1,1,true,.ba [[.aZ 2 32 0 (List.length (pre++[x]))]]⟩,some ⟨32,List.length (pre++[x]),true,.fn fun r j=>Zb (lD h (pre++[x]) r j)⟩])) [3,4,12] [0,1,75] [.aZ 0 1 0 m,.own 1 1 0 0 1,AV.fn (Fn.func (362:FuncId)) [] [AV.bH 1 fun x=>.aG 32 (2*N) fun i j=>Zb (h i j),AV.bH 1 fun x=>Zi 2]] [some ⟨1,m,true,bz.row fun i=>[.aG 32 (C i) fun i_1 j=>Zb (F i i_1 j)]⟩,some ⟨1,1,true,.ba [[.aZ 2 32 0 (List.length pre+1)]]⟩,some ⟨32,List.length pre+1,true,.fn fun i j=>Zb (bif Nat.blt i (List.length pre) then lD h pre i j else aE (aO (bh (eA (h (2*x.1+0)) (h (2*x.1+1)))) j))⟩])))))
  (by kernel_rfl) ?_
 refine aD (by omega) ?_
 refine aD (by omega) ?_
 refine aM ((sE (h ((2:Nat)*(↑x:Nat)+(0:Nat))) (h ((2:Nat)*(↑x:Nat)+(1:Nat)))) (hb _ (by have:=x.2;omega)) (hb _ (by have:=x.2;omega))) ?_
 refine aD (by omega) ?_
 exact jD (fun _ hs=>hs.le (⟨aw.refl _,aw.refl _,aw.refl _,trivial⟩) (⟨⟨rfl,rfl,rfl,fun _ _ _ _=>aw.refl _⟩,aH.row ⟨aw.of_eq (by rw [List.length_append];rfl),trivial⟩,G2,trivial⟩))
theorem zW (m:Nat) (h1:1≤m) (hm:m≤100) (C:Nat→Nat) (F:Nat→Nat→Nat→Int):bC Tryz.prog aW 359 [⟨1,m,true,.row fun i=>[dB (C i) (F i)]⟩] [.aZ 0 1 0 m] (.aT []) [some ⟨1,m,true,.row fun i=>[dB (C (m - 1 - i)) (F (m - 1 - i))]⟩]:=by
 refine bO (own:=bk) (hand:=true) Tryz.func359 (by kernel_rfl) mixed (by kernel_rfl)
  (let y0:=(fun (x:{ x:Nat // x≤m / 2 })=>aY [0,2,3] [.aZ 0 1 0 m,Zi x.1,Zi ((m:Int) - 1 - (↑(x.1):Int))] [some ⟨1,m,true,bz.row fun i=>[dB (C (eI m (x.1) i)) (F (eI m (x.1) i))]⟩]);let y1:=(fun (x:{ x:Nat // x≤m / 2 })=>m / 2 - x.1);(.loop ({ x:Nat // x≤m / 2 }) y0 y1 (⟨0,Nat.zero_le (m / 2)⟩) [0,2,3] [0] [.aZ 0 1 0 m,Zi 0,Zi (wrap .i64 ((m:Int) - 1))] [some ⟨1,m,true,bz.row fun i=>[.aG 32 (C i) fun i_1 j=>Zb (F i i_1 j)]⟩] (fun x0=>let z0:Nat:=(toNat ((m:Int) - 1 - (x0.1:Int))+0);(.br (decide ((x0.1:Int)<(m:Int) - 1 - (x0.1:Int))) (.bf (0≤(m:Int) - 1 - (x0.1:Int)∧(m:Int) - 1 - (x0.1:Int)<(m:Int)) (.bf (0≤(x0.1:Int)∧(x0.1:Int)<(m:Int)) (.bf (0≤(x0.1:Int)∧(x0.1:Int)<(m:Int)) (.bf (0≤(m:Int) - 1 - (x0.1:Int)∧(m:Int) - 1 - (x0.1:Int)<(m:Int)) (.again (be 1 y0 y1 x0) [0,2,3] [0] [.aZ 0 1 0 m,Zi (wrap .i64 ((x0.1:Int)+1)),Zi (wrap .i64 ((m:Int) - 1 - (x0.1:Int) - 1))] [some ⟨1,m,true,bz.put z0 [.aG 32 (C (eI m x0.1 (toNat (x0.1:Int)+0))) fun i j=>Zb (F (eI m x0.1 (toNat (x0.1:Int)+0)) i j)] (bz.put (toNat (x0.1:Int)+0) [.aG 32 (C (eI m x0.1 z0)) fun i j=>Zb (F (eI m x0.1 z0) i j)] (bz.row fun i=>[.aG 32 (C (eI m x0.1 i)) fun i_1 j=>Zb (F (eI m x0.1 i) i_1 j)]))⟩]))))) (.out (.aT []) [some ⟨1,m,true,bz.row fun i=>[.aG 32 (C (eI m x0.1 i)) fun i_1 j=>Zb (F (eI m x0.1 i) i_1 j)]⟩] (.aT []) [some ⟨1,m,true,bz.row fun i=>[dB (C (m - 1 - i)) (F (m - 1 - i))]⟩])))))
  (by kernel_rfl) ?_
 refine aU (fun _ hs=>hs.le (⟨aw.refl _,by exact aw.refl _,aw.of_eq (congrArg (AV.int .i64) (by dsimp only;rw [wI (by omega) (by omega)];omega)),trivial⟩) (by exact ⟨rev_eq C F (fun i=>i) (eI m 0) (fun i hi=>MG hi),trivial⟩)) (fun x0=>?_)
 try (have q0:=x0.2;dsimp only at q0)
 refine aL (fun h1=>?_) (fun h1=>?_)
 ·have g1:=af h1
  refine aD (by omega) ?_
  refine aD (by omega) ?_
  refine aD (by omega) ?_
  refine aD (by omega) ?_
  exact aN (⟨x0.1+1,by omega⟩) (fun _ hs=>hs.le (⟨aw.refl _,by exact aJ (by omega),aw.of_eq (congrArg (AV.int .i64) (by dsimp only;rw [wI (by omega) (by omega)];omega)),trivial⟩) (by exact ⟨Ej C F (by omega) (by omega) (by omega),trivial⟩)) (by dsimp only;omega)
 ·have g1:=aa h1
  exact cP (aw.refl _) (⟨rev_eq C F (eI m x0.1) (fun i=>m - 1 - i) (fun i hi=>FW (by omega) x0.2 hi),trivial⟩)
theorem JW (N m:Nat) (C:Nat→Nat) (F:Nat→Nat→Nat→Int) (h:Nat→Nat→Int) (hb:∀ i,i<2*N→cC (h i) 32) (h1:1≤N) (hN:N≤1000):Opq Tryz.prog aW 0 32 lvF (aY [3,4,12] [.aZ 0 1 0 m,.own 1 1 0 0 1,.fn (.func 362) [] [.bH 1 fun _=>dB (2*N) h,.bH 1 fun _=>.int .i64 2]] [some ⟨1,m,true,.row fun i=>[dB (C i) (F i)]⟩,some ⟨1,1,true,.ba [[.aZ 2 32 0 0]]⟩,some ⟨32,0,true,.fn fun r j=>.int .u8 (lD (N:=N) h [] r j)⟩]) (aY [3,4,12] [.aZ 0 1 0 m,.own 1 1 0 0 1,.fn (.func 362) [] [.bH 1 fun _=>dB (2*N) h,.bH 1 fun _=>.int .i64 2]] [some ⟨1,m,true,.row fun i=>[dB (C i) (F i)]⟩,some ⟨1,1,true,.ba [[.aZ 2 32 0 N]]⟩,some ⟨32,N,true,.fn fun r j=>.int .u8 (lD h (List.finRange N) r j)⟩]):=by
 have hq:=Ak (P:=Tryz.prog) (gl:=aW) (own:=bk) (ng:=0) (nt:=32) (g:=.tmp 12) (p:=13) (d:=5) (assign:=.region 5 (cO (rA lvF)) false) (body:=rB lvF) (xs:=fun k:Fin N=>dB 2 fun r=>h (2*k.1+r)) (ns:=[3,4,12]) (vs:=[.aZ 0 1 0 m,.own 1 1 0 0 1,.fn (.func 362) [] [.bH 1 fun _=>dB (2*N) h,.bH 1 fun _=>.int .i64 2]]) (obs:=fun pre=>[some ⟨1,m,true,.row fun i=>[dB (C i) (F i)]⟩,some ⟨1,1,true,.ba [[.aZ 2 32 0 pre.length]]⟩,some ⟨32,pre.length,true,.fn fun r j=>.int .u8 (lD h pre r j)⟩]) (obs1:=[some ⟨1,m,true,.row fun i=>[dB (C i) (F i)]⟩,some ⟨1,1,true,.ba [[.aZ 2 32 0 N]]⟩,some ⟨32,N,true,.fn fun r j=>.int .u8 (lD h (List.finRange N) r j)⟩])
  rfl (xx N h1 hN h) (fun x=>.aG fun _ _ _ _=>.int) (fun l a W K hK=>AM (by kernel_rfl) (by kernel_rfl) l a W K hK) (fun pre=>rfl) (fun pre=>.of ⟨.aZ,.own,.fn (fun u h=>by cases h) (GP.spec (l:=[_,_]) ⟨.bH fun _ _=>Cp _ _,.bH fun _ _=>.int,trivial⟩),trivial⟩ ⟨fun i j _ _=>GP.aO (l:=[_]) ⟨Cp _ _,trivial⟩ j,fun i j hi _=>(by obtain rfl:i=0:=Nat.lt_one_iff.1 hi;exact GP.aO (l:=[_]) ⟨.aZ,trivial⟩ j),fun _ _ _ _=>.int,trivial⟩) LD (by kernel_rfl) (fun pre x hp=>Ff N m C F h hb pre x hp hN) (by rw [List.length_finRange])
 rw [← DT] at hq
 exact hq
def ow7:FuncId→Option (List Bool):=fun f=>bif Nat.beq f 359 then some [true] else none
theorem Fm (d:Nat) (hd:d≤5) (h:Nat→Nat→Int) (hb:∀ i,i<2^d→cC (h i) 32):Pure Tryz.prog aW 351 [dB (2^d) h] (.aG 1 (d+1) fun i _=>dB (2^(d - (d - i))) (dT h (d - i))):=by
 refine ar (own:=ow7) Tryz.func351 (by kernel_rfl) mixed (by kernel_rfl)
  (let z1:=(Fn.func (362:FuncId));let y0:=(fun (x:{ x:Nat // x≤d })=>aY [0,3] [dB (2^(d - x.1)) (dT h (x.1)),.aZ 0 1 0 (x.1+1)] [some ⟨1,x.1+1,true,bz.row fun i=>[dB (2^(d - i)) (dT h i)]⟩]);let y1:=(fun (x:{ x:Nat // x≤d })=>d - x.1);(.loop ({ x:Nat // x≤d }) y0 y1 (⟨0,Nat.zero_le d⟩) [0,3] [16] [.aG 32 (2^d) fun i j=>Zb (h i j),.aZ 0 1 0 1] [some ⟨1,1,true,.ba [[.aG 32 (2^d) fun i j=>Zb (h i j)]]⟩] (fun x0=>let z0:=(List.finRange (2^(d - x0.1 - 1)));(.br (decide ((↑(2^(d - x0.1)):Int)>1)) (.dc true 358 [.aG 32 (2^(d - x0.1)) fun i j=>Zb (dT h x0.1 i j),Zi 2] (AV.fn z1 [] [AV.bH 1 fun x=>dB (2^(d - x0.1)) (dT h x0.1),AV.bH 1 fun x=>Zi 2]) (.Bf 32 (lvF) [3,4,12] [0,25,8243] [.aZ 0 1 0 (x0.1+1),.own 1 1 0 0 1,AV.fn z1 [] [AV.bH 1 fun x=>.aG 32 (2^(d - x0.1)) fun i j=>Zb (dT h x0.1 i j),AV.bH 1 fun x=>Zi 2]] [some ⟨1,x0.1+1,true,bz.row fun i=>[.aG 32 (2^(d - i)) fun i_1 j=>Zb (dT h i i_1 j)]⟩,some ⟨1,1,true,.ba [[.bc]]⟩,some ⟨32,0,true,.ty (999999999:TypeId) (.ba [])⟩] (aY [3,4,12] [.aZ 0 1 0 (x0.1+1),.own 1 1 0 0 1,AV.fn z1 [] [AV.bH 1 fun x=>dB (2*2^(d - x0.1 - 1)) (dT h (x0.1)),AV.bH 1 fun x=>Zi 2]] [some ⟨1,x0.1+1,true,bz.row fun i=>[dB (2^(d - i)) (dT h i)]⟩,some ⟨1,1,true,.ba [[.aZ 2 32 0 (2^(d - x0.1 - 1))]]⟩,some ⟨32,2^(d - x0.1 - 1),true,.fn fun r j=>Zb (lD (dT h (x0.1)) z0 r j)⟩]) (.bf ((x0.1+1+1)*24≤140737488355328) (.again (be 0 y0 y1 x0) [0,3] [27] [.aG 32 (2^(d - x0.1 - 1)) fun r k=>Zb (lD (dT h x0.1) z0 (r+0) k),.aZ 0 1 0 (x0.1+1+1)] [some ⟨1,x0.1+1+1,true,bz.cat (x0.1+1) (bz.row fun i=>[.aG 32 (2^(d - i)) fun i_1 j=>Zb (dT h i i_1 j)]) (.ba [[.aG 32 (2^(d - x0.1 - 1)) fun r k=>Zb (lD (dT h x0.1) z0 (r+0) k)]])⟩])))) (.gc 359 [⟨1,x0.1+1,true,bz.row fun i=>[.aG 32 (2^(d - i)) fun i_1 j=>Zb (dT h i i_1 j)]⟩] [.aZ 0 1 0 (x0.1+1)] (.aT []) [some ⟨1,x0.1+1,true,bz.row fun i=>[dB (2^(d - (x0.1+1 - 1 - i))) (dT h (x0.1+1 - 1 - i))]⟩] (.out (.aG 1 (x0.1+1) fun r k=>aO [.aG 32 (2^(d - (x0.1+1 - 1 - (r+0)))) fun i j=>Zb (dT h (x0.1+1 - 1 - (r+0)) i j)] k) [] (.aG 1 (d+1) fun i x=>dB (2^(d - (d - i))) (dT h (d - i))) []))))))
  (by kernel_rfl) ?_
 refine aU (fun _ hs=>hs.le (⟨.refl _,.refl _,trivial⟩) (⟨⟨rfl,rfl,rfl,fun i j hi hj=>aw.of_eq (by have:i=0:=Nat.lt_one_iff.1 hi;subst this;rfl)⟩,trivial⟩)) (fun x0=>?_)
 try (have q0:=x0.2;dsimp only at q0)
 have hp:=Gv (k:=x0.1) hd
 refine aL (fun h1=>?_) (fun h1=>?_)
 ·have g1:=af h1
  refine bM (Ip (2^(d - x0.1)) (by omega) (dT h x0.1)) ?_
  refine Nr (fun _ hs=>hs.le (by exact ⟨aw.refl _,aw.refl _,aw.of_eq (by rw [rT (rK g1)]),trivial⟩) (by repeat' (first|exact trivial|(first|exact aH.refl _|exact aH.bw|exact aH.zero|exact aH.push rfl rfl|exact aH.cm rfl|exact aH.len (by omega)|exact aH.row (by repeat' (first|exact trivial|(first|exact aw.refl _|exact aJ (by omega)|exact aw.nil rfl|exact aw.of_eq (congrArg (AV.aZ _ _ _) (by first|omega|(dsimp only;omega)))|exact aw.of_eq (congrArg (AV.int _) (by first|omega|(dsimp only;omega))))|refine And.intro ?_ ?_)))|refine And.intro ?_ ?_))) (JW (2^(d - x0.1 - 1)) (x0.1+1) (fun i=>2^(d - i)) (dT h) (dT h x0.1) (fun i hi=>xD hb _ _ (by rw [rT (rK g1)] at hi;have e:=Nat.mul_le_mul_right (2^x0.1) (show i+1≤2^(d - x0.1) from hi);rw [Nat.add_mul,Nat.one_mul,← Nat.pow_add,show d - x0.1+x0.1=d by omega] at e;exact e)) pB (by have:=Gv (k:=x0.1+1) hd;show 2^(d - (x0.1+1))≤1000;omega)) ?_
  refine aD (by omega) ?_
  exact aN (⟨x0.1+1,rK g1⟩) (fun _ hs=>hs.le (⟨zt,aw.refl _,trivial⟩) (⟨aH.pq rfl (fun _ _=>cM.refl _) ⟨zt,trivial⟩,trivial⟩)) (by have:=rK g1;dsimp only;omega)
 ·have g1:=aa h1
  refine fU (zW (x0.1+1) (by omega) (by omega) (fun (i:Nat)=>2^(d - i)) (dT h)) ?_
  exact aq (aw.ia (by rw [pow_eq x0.2 g1]) (fun i j hi hj=>by have hj0:j=0:=Nat.lt_one_iff.1 hj;subst hj0;rw [pow_eq x0.2 g1];rfl))
abbrev Jt:List AV:=[AV.agg [Zb 0,Zb 0,Zb 0,Zb 0,Zb 0,Zb 0,Zb 0,Zb 0,Zb 0,Zb 0,Zb 0,Zb 0,Zb 0,Zb 0,Zb 0,Zb 0,Zb 0,Zb 0,Zb 0,Zb 0,Zb 0,Zb 0,Zb 0,Zb 0,Zb 0,Zb 0,Zb 0,Zb 0,Zb 0,Zb 0,Zb 0,Zb 0],Zi 2]
abbrev I9:List AV:=[AV.agg [Zb 0,Zb 0,Zb 0,Zb 0,Zb 0,Zb 0,Zb 0,Zb 0,Zb 0,Zb 0,Zb 0,Zb 0,Zb 0,Zb 0,Zb 0,Zb 0,Zb 0,Zb 0,Zb 0,Zb 0,Zb 0,Zb 0,Zb 0,Zb 0,Zb 0,Zb 0,Zb 0,Zb 0,Zb 0,Zb 0,Zb 0,Zb 0],Zi 3]
theorem HR (d:Nat) (hd:d≤5):Pure Tryz.prog aW 350 [.int .i64 (2^d:Nat)] (.aT [.int .i64 d,.int .i64 0]):=by
 refine ar (own:=bk) Tryz.func350 (by kernel_rfl) mixed (by kernel_rfl)
  (let z0:Int:=(↑(2^d):Int);let y0:=(fun (x:{ x:Nat // x≤d })=>aY [0,5] [Zi z0,Zi x.1] []);let y1:=(fun (x:{ x:Nat // x≤d })=>d - x.1);(.loop ({ x:Nat // x≤d }) y0 y1 (⟨0,Nat.zero_le d⟩) [0,5] [] [Zi z0,Zi 0] [] (fun x0=>(.br (decide ((x0.1:Int)<11)) (.bf (0≤(x0.1:Int)) (.br (z0==wrap .i64 ((1:Int)*2^min (toNat (x0.1:Int)) 64)) (.out (.aT [Zi x0.1,Zi 0]) [] (.aT [Zi d,Zi 0]) []) (.again (be 0 y0 y1 x0) [0,5] [] [Zi z0,Zi (wrap .i64 ((x0.1:Int)+1))] []))) (.out (.aT [Zi 0,Zi 1]) [] (.aT [Zi d,Zi 0]) [])))))
  (by kernel_rfl) ?_
 refine aU (fun _ hs=>hs.le (⟨.refl _,.refl _,trivial⟩) (trivial)) (fun x0=>?_)
 try (have q0:=x0.2;dsimp only at q0)
 refine aL (fun h1=>?_) (fun h1=>?_)
 ·have g1:=af h1
  refine aD (by omega) ?_
  refine aL (fun h3=>?_) (fun h3=>?_)
  ·have g3:=ai h3
   try simp only [Int.toNat_natCast] at g3
   exact aq (by exact aw.of_eq (congrArg (fun k:Nat=>AV.aT [.int .i64 k,.int .i64 0]) (OT (d:=d) (by omega) (by omega) g3).symm))
  ·have g3:=ao h3
   try simp only [Int.toNat_natCast] at g3
   exact aN (⟨x0.1+1,by have:=JC (d:=d) (by omega) g3;omega⟩) (fun _ hs=>hs.le (⟨.refl _,aJ (by omega),trivial⟩) (trivial)) (by have:=JC (d:=d) (by omega) g3;dsimp only;omega)
 ·have g1:=aa h1
  exact aq (by (exfalso;omega))
theorem F0 (d:Nat) (hd:d≤5) (h:Nat→Nat→Int) (hb:∀ i,i<2^d→cC (h i) 32):Pure Tryz.prog aW 329 [dB (2^d) h,.int .i64 0,.int .i64 0] (.aT [.aG 1 (d+1) fun i _=>dB (2^(d - (d - i))) (dT h (d - i)),.int .i64 0]):=by
 refine ar (own:=bk) Tryz.func329 (by kernel_rfl) mixed (by kernel_rfl)
  (let y0:AV:=(.aT [.aG 1 (d+1) fun i x=>dB (2^(d - (d - i))) (dT h (d - i)),Zi 0]);(.sc true 350 [Zi (↑(2^d):Int)] (.aT [Zi d,Zi 0]) (.ff (.bf (((decide ((0:Int)>(d:Int))||false)==false)=true→(0:Int)≤0) (.br (decide ((0:Int)>(d:Int))||false||false) (.out (.aT [.bc,Zi 2]) [] y0 []) (.dc true 351 [.aG 32 (2^d) fun i j=>Zb (h i j)] (.aG 1 (d+1) fun i x=>dB (2^(d - (d - i))) (dT h (d - i))) (.out (.aT [.aG 1 (d+1) fun i x=>.aG 32 (2^(d - (d - i))) fun i_1 j=>Zb (dT h (d - i) i_1 j),Zi 0]) [] y0 [])))))))
  (by kernel_rfl) ?_
 refine aM ((HR d) (by assumption)) ?_
 refine b9 ?_
 refine aD (fun _=>Int.le_refl _) ?_
 refine aL (fun h3=>?_) (fun h3=>?_)
 ·have g3:=(az (az af aC) aC) h3
  exact aq (by (exfalso;simp at g3;omega))
 ·have g3:=(au (au aa aF) aF) h3
  refine bM (Fm (d) (by assumption) (h) (by assumption)) ?_
  exact aq (by exact aw.refl _)
theorem NN (d:Nat) (hd:d≤5) (h:Nat→Nat→Int) (hb:∀ i,i<2^d→cC (h i) 32):Pure Tryz.prog aW 300 [dB (2^d) h,.int .i64 0,.int .i64 0] (.aT [.agg (bh (dT h d 0)),.int .i64 0]):=by
 refine ar (own:=bk) Tryz.func300 (by kernel_rfl) mixed (by kernel_rfl)
  (.dc true 329 [.aG 32 (2^d) fun i j=>Zb (h i j),Zi 0,Zi 0] (.aT [.aG 1 (d+1) fun i x=>dB (2^(d - (d - i))) (dT h (d - i)),Zi 0]) (.ff (.bf ((0:Int)≤0∧(0:Int)<(↑(d+1):Int)) (.bf ((0:Int)≤0∧(0:Int)<(↑(2^(d - (d - 0))):Int)) (.out (.aT [.agg (bh (dT h (d - 0) 0)),Zi 0]) [] (.aT [.agg (bh (dT h d 0)),Zi 0]) [])))))
  (by kernel_rfl) ?_
 refine bM (F0 (d) (by assumption) (h) (by assumption)) ?_
 refine b9 ?_
 refine aD (by omega) ?_
 refine aD (by exact ⟨by omega,Int.ofNat_lt.2 pB⟩) ?_
 exact aq (aw.refl _)
theorem FU (d:Nat) (hd:d≤5) (h:Nat→Nat→Int) (hb:∀ i,i<2^d→cC (h i) 32):Pure Tryz.prog aW 241 [dB (2^d) h] (.aT [.agg (bh (dT h d 0)),.int .i64 0]):=by
 refine ar (own:=bk) Tryz.func241 (by kernel_rfl) mixed (by kernel_rfl)
  (let y0:AV:=(.aT [.agg (bh (dT h d 0)),Zi 0]);(.sc true 300 [.aG 32 (2^d) fun i j=>Zb (h i j),Zi 0,Zi 0] y0 (.out y0 [] y0 [])))
  (by kernel_rfl) ?_
 refine aM (NN (d) (by assumption) (h) (by assumption)) ?_
 exact aq (aw.of_eq rfl)
theorem FY (n:Nat) (f:Nat→Int) (hn:n≤16384) (hf:cC f n):Pure Tryz.prog aW 299 [dn n f] (.aT [.agg (bh (eX "specie/leaf".toUTF8 n f)),.int .i64 0]):=by
 have ht:=gm "specie/leaf".toUTF8 (by decide) (by decide) f n (by omega) hf
 refine ar (own:=bk) Tryz.func299 (by kernel_rfl) mixed (by kernel_rfl)
  (let y0:AV:=(.aT [.agg (bh (eX (String.toUTF8 "specie/leaf") n f)),Zi 0]);(.br (decide ((n:Int)>16384)) (.out (.aT [.agg z32,Zi 5]) [] y0 []) (.sc true 62 [AV.str { data := #[(115:UInt8),112,101,99,105,101,47,108,101,97,102] },.aG 1 n fun i x=>Zb (f i)] y0 (.out y0 [] y0 []))))
  (by kernel_rfl) ?_
 refine aL (fun h0=>?_) (fun h0=>?_)
 ·have g0:=af h0
  exact aq (by (exfalso;omega))
 ·have g0:=aa h0
  refine aM (ht) ?_
  exact aq (by exact aw.refl _)
theorem Ct (n:Nat) (f:Nat→Int) (hn:n≤16384) (hf:cC f n):Pure Tryz.prog aW 279 [dn n f] (.agg (bh (eX "specie/leaf".toUTF8 n f))):=by
 have ht:=fw "specie/leaf".toUTF8 (by decide) f n (by omega) hf
 refine ar (own:=bk) Tryz.func279 (by kernel_rfl) mixed (by kernel_rfl)
  (let y0:AV:=(.agg (bh (eX (String.toUTF8 "specie/leaf") n f)));(.sc true 83 [AV.str { data := #[(115:UInt8),112,101,99,105,101,47,108,101,97,102] },.aG 1 n fun i x=>Zb (f i)] y0 (.out y0 [] y0 [])))
  (by kernel_rfl) ?_
 refine aM (ht) ?_
 exact aq (by exact aw.refl _)
theorem Ga (d:Nat) (hd:d≤5) (h:Nat→Nat→Int) (i:Nat) (hi:i<2^d):Pure Tryz.prog aW 209 [dB (2^d) h,.int .i64 d,.int .i64 i] (.agg (bh (h i))):=by
 have w:=shw (x:=d) (by omega)
 refine ar (own:=bk) Tryz.func209 (by kernel_rfl) mixed (by kernel_rfl)
  (.bf (0≤(d:Int)) (.br (wrap .i64 ((1:Int)*2^min (toNat (d:Int)) 64)==(↑(2^d):Int)) (.bf (0≤(i:Int)∧(i:Int)<(↑(2^d):Int)) (.out (.agg (bh (h (toNat (i:Int))))) [] (.agg (bh (h i))) [])) .no))
  (by kernel_rfl) ?_
 refine aD (by omega) ?_
 refine aL (fun h1=>?_) (fun h1=>?_)
 ·have g1:=ai h1
  try simp only [Int.toNat_natCast] at g1
  refine aD (by omega) ?_
  exact aq (aw.refl _)
 ·have g1:=ao h1
  try simp only [Int.toNat_natCast] at g1
  exact (show False from (g1 w))
theorem FO (d:Nat) (hd:d≤5) (h:Nat→Nat→Int) (L i:Nat) (hL:L<d) (hi:i<2^L) (u v:Nat→Int) (hu:cC u 32) (hv:cC v 32) (a1:Pure Tryz.prog aW 209 [dB (2^d) h,.int .i64 (L+1:Nat),.int .i64 (2*i:Nat)] (.agg (bh u)))
  (a2:Pure Tryz.prog aW 209 [dB (2^d) h,.int .i64 (L+1:Nat),.int .i64 (2*i+1:Nat)] (.agg (bh v))):Pure Tryz.prog aW 209 [dB (2^d) h,.int .i64 L,.int .i64 i] (.agg (bh (eA u v))):=by
 have w:=shw (x:=L) (by omega)
 have hi5:i<32:=Nat.lt_of_lt_of_le hi (Nat.le_trans (Nat.pow_le_pow_right (by decide) (show L≤5 by omega)) (by decide))
 have e1:((L+1:Nat):Int)=IntKind.wrap .i64 ((L:Int)+1):=by rw [wI (by omega) (by omega)];rfl
 have e2:((2*i:Nat):Int)=IntKind.wrap .i64 (2*(i:Int)):=by rw [wI (by omega) (by omega)];rfl
 have e3:((2*i+1:Nat):Int)=IntKind.wrap .i64 (IntKind.wrap .i64 (2*(i:Int))+1):=by rw [← e2,wI (by omega) (by omega)];rfl
 rw [e1,e2] at a1
 rw [e1,e3] at a2
 have a3:=p8 u v hu hv
 refine ar (own:=bk) Tryz.func209 (by kernel_rfl) mixed (by kernel_rfl)
  (let y0:AV:=(.agg (bh (eA u v)));(.bf (0≤(L:Int)) (.br (wrap .i64 ((1:Int)*2^min (toNat (L:Int)) 64)==(↑(2^d):Int)) (.bf (0≤(i:Int)∧(i:Int)<(↑(2^d):Int)) (.out (.agg (bh (h (toNat (i:Int))))) [] y0 [])) (.sc true 209 [.aG 32 (2^d) fun i j=>Zb (h i j),Zi (wrap .i64 ((L:Int)+1)),Zi (wrap .i64 ((2:Int)*(i:Int)))] (.agg (bh u)) (.sc true 209 [.aG 32 (2^d) fun i j=>Zb (h i j),Zi (wrap .i64 ((L:Int)+1)),Zi (wrap .i64 (wrap .i64 ((2:Int)*(i:Int))+1))] (.agg (bh v)) (.sc true 278 [.agg (bh u),.agg (bh v)] y0 (.out y0 [] y0 [])))))))
  (by kernel_rfl) ?_
 refine aD (by omega) ?_
 refine aL (fun h1=>?_) (fun h1=>?_)
 ·have g1:=ai h1
  try simp only [Int.toNat_natCast] at g1
  refine aD (by omega) ?_
  exact aq (by (exfalso;rw [w] at g1;exact absurd (yj (by omega) (by omega) (Int.ofNat_inj.1 g1)) (by omega)))
 ·have g1:=ao h1
  try simp only [Int.toNat_natCast] at g1
  refine aM (a1) ?_
  refine aM (a2) ?_
  refine aM (a3) ?_
  exact aq (by exact aw.refl _)
theorem sA (d:Nat) (hd:d≤5) (h:Nat→Nat→Int) (hb:∀ i,i<2^d→cC (h i) 32):∀ k i:Nat,k≤d→i<2^(d - k)→Pure Tryz.prog aW 209 [dB (2^d) h,.int .i64 (d - k:Nat),.int .i64 i] (.agg (bh (dT h k i)))
 | 0,i,hk,hi=>Ga d hd h i hi
 | k+1,i,hk,hi=>by
  have hp:2*2^(d - (k+1))=2^(d - k):=rT (by omega)
  have e:d - (k+1)+1=d - k:=by omega
  have b1:=sA d hd h hb k (2*i) (by omega) (by omega)
  have b2:=sA d hd h hb k (2*i+1) (by omega) (by omega)
  rw [← e] at b1 b2
  have hby:∀ j,j<2^(d - k)→cC (dT h k j) 32:=fun j hj=>xD hb k j (by
   have e:=Nat.mul_le_mul_right (2^k) (show j+1≤2^(d - k) from hj)
   rw [Nat.add_mul,Nat.one_mul,← Nat.pow_add,show d - k+k=d by omega] at e
   exact e)
  exact FO d hd h (d - (k+1)) i (by omega) hi _ _ (hby _ (by omega)) (hby _ (by omega)) b1 b2
theorem Ku (h:Nat→Int) (i:Int) (n:Nat) (P:Nat→Nat→Int) (hn:n≤5) (hi:0≤i) (hi':i<(2^n:Nat)) (hh:cC h 32) (hP:∀ k,k<n→cC (P k) 32) :
  Pure Tryz.prog aW 301 [.agg (bh h),.int .i64 n,.agg [.int .i64 i,dB n P]] (.aT [.agg (bh (bD h i P n)),.int .i64 0]):=by
 have w:=shw (x:=n) (by omega)
 have hi5:i<32:=Int.lt_of_lt_of_le hi' (Int.ofNat_le.2 (Nat.le_trans (Nat.pow_le_pow_right (by decide) hn) (by decide)))
 rw [← w] at hi'
 refine ar (own:=bk) Tryz.func301 (by kernel_rfl) mixed (by kernel_rfl)
  (let z1:AV:=(.aT [.agg (bh (bD h i P n)),Zi 0]);let y0:List AV:=z32;let y1:=(fun (x:{ x:Nat // x≤n })=>n - x.1);(.bf (((decide ((n:Int)<0)||decide ((n:Int)>10)||decide (i<0))==false)=true→0≤(n:Int)) (.br (decide ((n:Int)<0)||decide ((n:Int)>10)||decide (i<0)||decide (i≥wrap .i64 ((1:Int)*2^min (toNat (n:Int)) 64))) (.out (.aT Jt) [] z1 []) (.br ((n:Int) != (n:Int)) (.out (.aT I9) [] z1 []) (.loop ({ x:Nat // x≤n }) (fun x=>aY [3,6,39,40,8,41] [.own 0 32 0 0 32,.own 1 32 0 0 32,.aG 32 n fun i j=>Zb (P i j),Zi n,Zi (i / 2^x.1),Zi x.1] [some ⟨32,1,true,.fn fun x_1 j=>Zb (bD h i P (x.1) j)⟩,some ⟨32,1,true,.ba [y0]⟩]) y1 (⟨0,Nat.zero_le n⟩) [3,6,39,40,8,41] [0,16] [.own 0 32 0 0 32,.own 1 32 0 0 32,.aG 32 n fun i j=>Zb (P i j),Zi n,Zi i,Zi 0] [some ⟨32,1,true,.ba [bh h]⟩,some ⟨32,1,true,.ba [y0]⟩] (fun x5=>let z0:List AV:=[.own 0 32 0 0 32,.own 1 32 0 0 32,.aG 32 n fun i j=>Zb (P i j),Zi n,Zi (wrap .i64 (Int.tdiv (i / 2^x5.1) (2:Int))),Zi (wrap .i64 ((x5.1:Int)+1))];(.br (decide ((x5.1:Int)<(n:Int))) (.bf (0≤(x5.1:Int)∧(x5.1:Int)<(n:Int)) (.br (Int.tmod (i / 2^x5.1) (2:Int)==0) (.sc true 330 [.agg (bh (bD h i P x5.1)),.agg (bh (P (toNat (x5.1:Int))))] (.agg (bh (eA (bD h i P x5.1) (P (toNat (x5.1:Int)))))) (.again (be 0 (fun x=>aY [3,6,39,40,8,41] [.own 0 32 0 0 32,.own 1 32 0 0 32,.aG 32 n fun i j=>Zb (P i j),Zi n,Zi (i / 2^x.1),Zi x.1] [some ⟨32,1,true,.fn fun x_1 j=>Zb (bD h i P (x.1) j)⟩,some ⟨32,1,true,.ba [y0]⟩]) y1 x5) [3,6,39,40,8,41] [0,1] z0 [some ⟨32,1,true,.fn fun i_1 j=>Zb (bif Nat.beq i_1 0&&(Nat.ble 0 j&&Nat.blt j 32) then aE (aO (bh (eA (bD h i P x5.1) (P (toNat (x5.1:Int))))) (j - 0)) else bD h i P x5.1 j)⟩,some ⟨32,1,true,.ba [y0]⟩])) (.sc true 330 [.agg (bh (P (toNat (x5.1:Int)))),.agg (bh (bD h i P x5.1))] (.agg (bh (eA (P (toNat (x5.1:Int))) (bD h i P x5.1)))) (.again (be 0 (fun x=>aY [3,6,39,40,8,41] [.own 0 32 0 0 32,.own 1 32 0 0 32,.aG 32 n fun i j=>Zb (P i j),Zi n,Zi (i / 2^x.1),Zi x.1] [some ⟨32,1,true,.fn fun x_1 j=>Zb (bD h i P (x.1) j)⟩,some ⟨32,1,true,.ba [y0]⟩]) y1 x5) [3,6,39,40,8,41] [0,1] z0 [some ⟨32,1,true,.fn fun i_1 j=>Zb (bif Nat.beq i_1 0&&(Nat.ble 0 j&&Nat.blt j 32) then aE (aO (bh (eA (P (toNat (x5.1:Int))) (bD h i P x5.1))) (j - 0)) else bD h i P x5.1 j)⟩,some ⟨32,1,true,.ba [y0]⟩])))) (.out (.aT [.agg (bh (bD h i P x5.1)),Zi 0]) [] z1 []))))))))
  (by kernel_rfl) ?_
 refine aD (fun hr=>by have hr:=(cY (au (au aa aa) aa)) hr;omega) ?_
 refine aL (fun h1=>?_) (fun h1=>?_)
 ·have g1:=(az (az (az af af) af) af) h1
  try simp only [Int.toNat_natCast] at g1
  exact aq (by (exfalso;omega))
 ·have g1:=(au (au (au aa aa) aa) aa) h1
  try simp only [Int.toNat_natCast] at g1
  refine aL (fun h3=>?_) (fun h3=>?_)
  ·have g3:=aS h3
   exact aq (by (exfalso;omega))
  ·have g3:=aP h3
   refine aU (fun _ hs=>hs.le (⟨.refl _,.refl _,.refl _,.refl _,aw.of_eq (congrArg _ (by rw [show i / 2^0=i by simp])),.refl _,trivial⟩) (⟨aH.Av rfl,aH.refl _,trivial⟩)) (fun x5=>?_)
   try (have q5:=x5.2;dsimp only at q5)
   refine aL (fun h6=>?_) (fun h6=>?_)
   ·have g6:=af h6
    refine aD (by omega) ?_
    refine aL (fun h8=>?_) (fun h8=>?_)
    ·have g8:=ai h8
     refine aM (sE (bD h i P x5.1) (P (toNat (↑x5.1:Int))) (by exact tm hh _) (by exact hP _ (by omega))) ?_
     exact aN (⟨x5.1+1,by omega⟩) (fun _ hs=>hs.le (⟨.refl _,.refl _,.refl _,.refl _,aw.of_eq (congrArg _ (sD hi (by omega))),aJ (by omega),trivial⟩) (⟨se (IS hi g8),aH.refl _,trivial⟩)) (by dsimp only;omega)
    ·have g8:=ao h8
     refine aM (sE (P (toNat (↑x5.1:Int))) (bD h i P x5.1) (by exact hP _ (by omega)) (by exact tm hh _)) ?_
     exact aN (⟨x5.1+1,by omega⟩) (fun _ hs=>hs.le (⟨.refl _,.refl _,.refl _,.refl _,aw.of_eq (congrArg _ (sD hi (by omega))),aJ (by omega),trivial⟩) (⟨se (JD hi g8),aH.refl _,trivial⟩)) (by dsimp only;omega)
   ·have g6:=aa h6
    exact aq (by exact aw.of_eq (congrArg (fun k:Nat=>AV.aT [.agg (bh (bD h i P k)),.int .i64 0]) (by omega)))
theorem Kj (h:Nat→Int) (i:Int) (l n:Nat) (P:Nat→Nat→Int) (hl:l≤5) (hne:n≠l) (hn:n≤1000000) (hi:0≤i) (hi':i<(2^l:Nat)) :
  Pure Tryz.prog aW 301 [.agg (bh h),.int .i64 l,.agg [.int .i64 i,dB n P]] (.aT [.agg (bh fun _=>0),.int .i64 3]):=by
 have w:=shw (x:=l) (by omega)
 rw [← w] at hi'
 refine ar (own:=bk) Tryz.func301 (by kernel_rfl) mixed (by kernel_rfl)
  (let y0:AV:=(.aT [.agg (bh fun x=>(0:Int)),Zi 3]);(.bf (((decide ((l:Int)<0)||decide ((l:Int)>10)||decide (i<0))==false)=true→0≤(l:Int)) (.br (decide ((l:Int)<0)||decide ((l:Int)>10)||decide (i<0)||decide (i≥wrap .i64 ((1:Int)*2^min (toNat (l:Int)) 64))) (.out (.aT Jt) [] y0 []) (.br ((n:Int) != (l:Int)) (.out (.aT I9) [] y0 []) .no))))
  (by kernel_rfl) ?_
 refine aD (fun hr=>by have hr:=(cY (au (au aa aa) aa)) hr;omega) ?_
 refine aL (fun h1=>?_) (fun h1=>?_)
 ·have g1:=(az (az (az af af) af) af) h1
  try simp only [Int.toNat_natCast] at g1
  exact aq (by (exfalso;omega))
 ·have g1:=(au (au (au aa aa) aa) aa) h1
  try simp only [Int.toNat_natCast] at g1
  refine aL (fun h3=>?_) (fun h3=>?_)
  ·have g3:=aS h3
   exact aq (by exact aw.refl _)
  ·have g3:=aP h3
   exact (show False from (hne (by omega)))
theorem FQ (r h:Nat→Int) (i:Int) (n:Nat) (P:Nat→Nat→Int) (hn:n≤5) (hi:0≤i) (hi':i<(2^n:Nat)) (hh:cC h 32) (hP:∀ k,k<n→cC (P k) 32) :
  Pure Tryz.prog aW 242 [.agg (bh r),.agg (bh h),.int .i64 n,.agg [.int .i64 i,dB n P]] (.bool (hEq (bD h i P n) r)):=by
 have hf:=Ku h i n P hn hi hi' hh hP
 refine ar (own:=bk) Tryz.func242 (by kernel_rfl) mixed (by kernel_rfl)
  (.sc true 301 [.agg (bh h),Zi n,.agg [Zi i,.aG 32 n fun i j=>Zb (P i j)]] (.aT [.agg (bh (bD h i P n)),Zi 0]) (.out (.bool (bD h i P n 0==r 0&&(bD h i P n 1==r 1&&(bD h i P n 2==r 2&&(bD h i P n 3==r 3&&(bD h i P n 4==r 4&&(bD h i P n 5==r 5&&(bD h i P n 6==r 6&&(bD h i P n 7==r 7&&(bD h i P n 8==r 8&&(bD h i P n 9==r 9&&(bD h i P n 10==r 10&&(bD h i P n 11==r 11&&(bD h i P n 12==r 12&&(bD h i P n 13==r 13&&(bD h i P n 14==r 14&&(bD h i P n 15==r 15&&(bD h i P n 16==r 16&&(bD h i P n 17==r 17&&(bD h i P n 18==r 18&&(bD h i P n 19==r 19&&(bD h i P n 20==r 20&&(bD h i P n 21==r 21&&(bD h i P n 22==r 22&&(bD h i P n 23==r 23&&(bD h i P n 24==r 24&&(bD h i P n 25==r 25&&(bD h i P n 26==r 26&&(bD h i P n 27==r 27&&(bD h i P n 28==r 28&&(bD h i P n 29==r 29&&(bD h i P n 30==r 30&&(bD h i P n 31==r 31&&true))))))))))))))))))))))))))))))))) [] (.bool (hEq (bD h i P n) r)) []))
  (by kernel_rfl) ?_
 refine aM (hf) ?_
 exact aq (aw.refl _)
theorem If (r h:Nat→Int) (i:Int) (l n:Nat) (P:Nat→Nat→Int) (hl:l≤5) (hne:n≠l) (hn:n≤1000000) (hi:0≤i) (hi':i<(2^l:Nat)) :
  Pure Tryz.prog aW 242 [.agg (bh r),.agg (bh h),.int .i64 l,.agg [.int .i64 i,dB n P]] (.bool false):=by
 have hf:=Kj h i l n P hl hne hn hi hi'
 refine ar (own:=bk) Tryz.func242 (by kernel_rfl) mixed (by kernel_rfl)
  (.sc true 301 [.agg (bh h),Zi l,.agg [Zi i,.aG 32 n fun i j=>Zb (P i j)]] (.aT [.agg (bh fun x=>(0:Int)),Zi 3]) (.out (.bool false) [] (.bool false) []))
  (by kernel_rfl) ?_
 refine aM (hf) ?_
 exact aq (aw.refl _)
theorem KT (h:Nat→Int) (i:Int) (n:Nat) (P:Nat→Nat→Int) (hn:n≤1000000) (hi:0≤i) (hi':i<9223372036854775807) (hh:cC h 32) (hP:∀ k,k<n→cC (P k) 32) :
  Pure Tryz.prog aW 208 [.agg (bh h),.agg [.int .i64 i,dB n P]] (.agg (bh (bD h i P n))):=by
 refine ar (own:=bk) Tryz.func208 (by kernel_rfl) mixed (by kernel_rfl)
  (let z0:List AV:=[Zi i,.aG 32 n fun i j=>Zb (P i j)];let y0:List AV:=z32;let y1:=(fun (x:{ x:Nat // x≤n })=>n - x.1);(.loop ({ x:Nat // x≤n }) (fun x=>aY [2,3,4,5,6] [.own 0 32 0 0 32,.own 1 2 0 0 2,.own 2 32 0 0 32,Zi (i / 2^x.1),Zi x.1] [some ⟨32,1,true,.fn fun x_1 j=>Zb (bD h i P (x.1) j)⟩,some ⟨2,1,true,.ba [z0]⟩,some ⟨32,1,true,.ba [y0]⟩]) y1 (⟨0,Nat.zero_le n⟩) [2,3,4,5,6] [0,8,16] [.own 0 32 0 0 32,.own 1 2 0 0 2,.own 2 32 0 0 32,Zi i,Zi 0] [some ⟨32,1,true,.ba [bh h]⟩,some ⟨2,1,true,.ba [z0]⟩,some ⟨32,1,true,.ba [y0]⟩] (fun x0=>let z1:List AV:=[.own 0 32 0 0 32,.own 1 2 0 0 2,.own 2 32 0 0 32,Zi (wrap .i64 (Int.tdiv (i / 2^x0.1) (2:Int))),Zi (wrap .i64 ((x0.1:Int)+1))];(.br (decide ((x0.1:Int)<(n:Int))) (.br (Int.tmod (i / 2^x0.1) (2:Int)==0) (.bf (0≤(x0.1:Int)∧(x0.1:Int)<(n:Int)) (.sc true 278 [.agg (bh (bD h i P x0.1)),.agg (bh (P (toNat (x0.1:Int))))] (.agg (bh (eA (bD h i P x0.1) (P (toNat (x0.1:Int)))))) (.again (be 0 (fun x=>aY [2,3,4,5,6] [.own 0 32 0 0 32,.own 1 2 0 0 2,.own 2 32 0 0 32,Zi (i / 2^x.1),Zi x.1] [some ⟨32,1,true,.fn fun x_1 j=>Zb (bD h i P (x.1) j)⟩,some ⟨2,1,true,.ba [z0]⟩,some ⟨32,1,true,.ba [y0]⟩]) y1 x0) [2,3,4,5,6] [0,1,2] z1 [some ⟨32,1,true,.fn fun i_1 j=>Zb (bif Nat.beq i_1 0&&(Nat.ble 0 j&&Nat.blt j 32) then aE (aO (bh (eA (bD h i P x0.1) (P (toNat (x0.1:Int))))) (j - 0)) else bD h i P x0.1 j)⟩,some ⟨2,1,true,.ba [z0]⟩,some ⟨32,1,true,.ba [y0]⟩]))) (.bf (0≤(x0.1:Int)∧(x0.1:Int)<(n:Int)) (.sc true 278 [.agg (bh (P (toNat (x0.1:Int)))),.agg (bh (bD h i P x0.1))] (.agg (bh (eA (P (toNat (x0.1:Int))) (bD h i P x0.1)))) (.again (be 0 (fun x=>aY [2,3,4,5,6] [.own 0 32 0 0 32,.own 1 2 0 0 2,.own 2 32 0 0 32,Zi (i / 2^x.1),Zi x.1] [some ⟨32,1,true,.fn fun x_1 j=>Zb (bD h i P (x.1) j)⟩,some ⟨2,1,true,.ba [z0]⟩,some ⟨32,1,true,.ba [y0]⟩]) y1 x0) [2,3,4,5,6] [0,1,2] z1 [some ⟨32,1,true,.fn fun i_1 j=>Zb (bif Nat.beq i_1 0&&(Nat.ble 0 j&&Nat.blt j 32) then aE (aO (bh (eA (P (toNat (x0.1:Int))) (bD h i P x0.1))) (j - 0)) else bD h i P x0.1 j)⟩,some ⟨2,1,true,.ba [z0]⟩,some ⟨32,1,true,.ba [y0]⟩])))) (.out (.agg (bh (bD h i P x0.1))) [] (.agg (bh (bD h i P n))) [])))))
  (by kernel_rfl) ?_
 refine aU (fun _ hs=>hs.le (⟨aw.refl _,aw.refl _,aw.refl _,by exact aw.of_eq (congrArg _ (by rw [show i / 2^0=i by simp])),by exact aw.refl _,trivial⟩) (⟨aH.Av rfl,aH.refl _,aH.refl _,trivial⟩)) (fun x0=>?_)
 try (have q0:=x0.2;dsimp only at q0)
 refine aL (fun h1=>?_) (fun h1=>?_)
 ·have g1:=af h1
  refine aL (fun h2=>?_) (fun h2=>?_)
  ·have g2:=ai h2
   refine aD (by omega) ?_
   refine aM (p8 (bD h i P x0.1) (P (toNat (↑x0.1:Int))) (by exact tm hh _) (by exact hP _ (by omega))) ?_
   exact aN (⟨x0.1+1,by omega⟩) (fun _ hs=>hs.le (⟨aw.refl _,aw.refl _,aw.refl _,by exact aw.of_eq (congrArg _ (sD hi (by omega))),by exact aJ (by omega),trivial⟩) (⟨se (IS hi g2),aH.refl _,aH.refl _,trivial⟩)) (by dsimp only;omega)
  ·have g2:=ao h2
   refine aD (by omega) ?_
   refine aM (p8 (P (toNat (↑x0.1:Int))) (bD h i P x0.1) (by exact hP _ (by omega)) (by exact tm hh _)) ?_
   exact aN (⟨x0.1+1,by omega⟩) (fun _ hs=>hs.le (⟨aw.refl _,aw.refl _,aw.refl _,by exact aw.of_eq (congrArg _ (sD hi (by omega))),by exact aJ (by omega),trivial⟩) (⟨se (JD hi g2),aH.refl _,aH.refl _,trivial⟩)) (by dsimp only;omega)
 ·have g1:=aa h1
  exact aq (aw.of_eq (congrArg (fun k:Nat=>AV.agg (bh (bD h i P k))) (by omega)))
theorem Mp (b:aI) (a:Int) (root:Nat→Int) (z sa sb r:Int) (hr:cC root 32) (hq:0<b.gr.q) (hq':b.gr.q<2305843009213693952):Pure Tryz.prog aW 316 [b.av,.int .i64 a,.agg (bh root),.agg [.int .i64 z,.int .i64 sa,.int .i64 sb,.int .i64 r]] (.int .i64 (jk b a root z sa sb)):=by
 have he:=fun n F hn hF=>HJ (uE b a root z sa sb) n F hn hF (by rw [show (nJ (uE b a root z sa sb)).enc.length=132 from mi b a z sa sb root];decide)
 have ht:=fw "specie/coin".toUTF8 (by decide) (fun k=>(oq b a root z sa sb).enc.getD k 0) (oq b a root z sa sb).enc.length (by rw [mi];decide) (It.gY (vd hr))
 have hn:=nq (jn "specie/coin".toUTF8 (oq b a root z sa sb)) b.gr.q hq hq' (jd _ _ _)
 refine ar (own:=bk) Tryz.func316 (by kernel_rfl) mixed (by kernel_rfl)
  (let z5:=(It.enc (nJ (uE b a root z sa sb)));let z4:=(String.toUTF8 "specie/coin");let z3:=(oq b a root z sa sb);let z2:List AV:=[Zi z,Zi sa,Zi sb,Zi r];let z1:=(fun (x:{ x:Nat // x≤6 })=>aY [1,4,6,7,9,10,11] [Zi a,.own 0 6 0 0 6,.own 1 32 0 0 32,.own 2 4 0 0 4,.aG 1 6 fun i x=>Zi (cS b (0:Int) i),.own 3 4 0 0 4,Zi x.1] [some ⟨6,1,true,.ba [aI.cells b]⟩,some ⟨32,1,true,.ba [bh root]⟩,some ⟨4,1,true,.ba [z2]⟩,some ⟨4,1,true,.ba [[Zi 3,Zi 0,.bc,.aZ 4 4 0 (x.1)]]⟩,some ⟨4,x.1,true,bz.row fun i=>It.cells (It.int (cS b (0:Int) i))⟩]);let y0:=(fun (x:{ x:Nat // x≤32 })=>32 - x.1);let y1:=(fun (x:{ x:Nat // x≤6 })=>6 - x.1);(.dc true 338 [.agg (aI.cells b)] (.aG 1 6 fun i x=>Zi (cS b (0:Int) i)) (.loop ({ x:Nat // x≤6 }) z1 y1 (⟨0,Nat.zero_le 6⟩) [1,4,6,7,9,10,11] [0,8,16,64,1116] [Zi a,.own 0 6 0 0 6,.own 1 32 0 0 32,.own 2 4 0 0 4,.aG 1 6 fun i x=>Zi (cS b (0:Int) i),.own 3 4 0 0 4,Zi 0] [some ⟨6,1,true,.ba [aI.cells b]⟩,some ⟨32,1,true,.ba [bh root]⟩,some ⟨4,1,true,.ba [z2]⟩,some ⟨4,1,true,.ba [[Zi 3,Zi 0,.bc,.bc]]⟩,some ⟨4,0,true,.ty (999999999:TypeId) (.ba [])⟩] (fun x1=>let z0:=(fun (x:{ x:Nat // x≤32 })=>aY [1,4,6,7,10,12,13] [Zi a,.own 0 6 0 0 6,.own 1 32 0 0 32,.own 2 4 0 0 4,.own 3 4 0 0 4,.own 4 4 0 0 4,Zi x.1] [some ⟨6,1,true,.ba [aI.cells b]⟩,some ⟨32,1,true,.ba [bh root]⟩,some ⟨4,1,true,.ba [z2]⟩,some ⟨4,1,true,.ba [[Zi 3,Zi 0,.bc,.aZ 5 4 0 x1.1]]⟩,some ⟨4,1,true,.ba [[Zi 2,Zi 0,.aZ 6 1 0 (x.1),.bc]]⟩,some ⟨4,x1.1,true,bz.row fun i=>[Zi (It.kind (It.int (cS b (0:Int) i))),Zi (It.num (It.int (cS b (0:Int) i))),.aG 1 0 fun i_1 x=>Zb (It.fb (It.int (cS b (0:Int) i)) i_1),.aG 4 0 (It.row (It.int (cS b (0:Int) i)))]⟩,some ⟨1,x.1,true,.fn fun i x=>Zb (root i)⟩]);(.br (decide ((x1.1:Int)<6)) (.bf (0≤(x1.1:Int)∧(x1.1:Int)<6) (.dc true 339 [Zi (cS b (0:Int) (toNat (x1.1:Int)))] (It.av (It.int (cS b (0:Int) (toNat (x1.1:Int))))) (.bf ((x1.1+1)*64≤140737488355328) (.again (be 0 z1 y1 x1) [1,4,6,7,9,10,11] [0,1,2,3,101] [Zi a,.own 0 6 0 0 6,.own 1 32 0 0 32,.own 2 4 0 0 4,.aG 1 6 fun i x=>Zi (cS b (0:Int) i),.own 3 4 0 0 4,Zi (wrap .i64 ((x1.1:Int)+1))] [some ⟨6,1,true,.ba [aI.cells b]⟩,some ⟨32,1,true,.ba [bh root]⟩,some ⟨4,1,true,.ba [z2]⟩,some ⟨4,1,true,.ba [[Zi 3,Zi 0,.bc,.aZ 4 4 0 (x1.1+1)]]⟩,some ⟨4,x1.1+1,true,bz.cat x1.1 (bz.row fun i=>[Zi (It.kind (It.int (cS b (0:Int) i))),Zi (It.num (It.int (cS b (0:Int) i))),.aG 1 0 fun i_1 x=>Zb (It.fb (It.int (cS b (0:Int) i)) i_1),.aG 4 0 (It.row (It.int (cS b (0:Int) i)))]) (.ba [[Zi (It.kind (It.int (cS b (0:Int) (toNat (x1.1:Int))))),Zi (It.num (It.int (cS b (0:Int) (toNat (x1.1:Int))))),.aG 1 0 fun i x=>Zb (It.fb (It.int (cS b (0:Int) (toNat (x1.1:Int)))) i),.aG 4 0 (It.row (It.int (cS b (0:Int) (toNat (x1.1:Int)))))]])⟩])))) (.loop ({ x:Nat // x≤32 }) z0 y0 (⟨0,Nat.zero_le 32⟩) [1,4,6,7,10,12,13] [0,1,2,3,45,4,331] [Zi a,.own 0 6 0 0 6,.own 1 32 0 0 32,.own 2 4 0 0 4,.own 3 4 0 0 4,.own 4 4 0 0 4,Zi 0] [some ⟨6,1,true,.ba [aI.cells b]⟩,some ⟨32,1,true,.ba [bh root]⟩,some ⟨4,1,true,.ba [z2]⟩,some ⟨4,1,true,.ba [[Zi 3,Zi 0,.bc,.aZ 5 4 0 x1.1]]⟩,some ⟨4,1,true,.ba [[Zi 2,Zi 0,.bc,.bc]]⟩,some ⟨4,x1.1,true,bz.row fun i=>[Zi (It.kind (It.int (cS b (0:Int) i))),Zi (It.num (It.int (cS b (0:Int) i))),.aG 1 0 fun i_1 x=>Zb (It.fb (It.int (cS b (0:Int) i)) i_1),.aG 4 0 (It.row (It.int (cS b (0:Int) i)))]⟩,some ⟨1,0,true,.ty (999999999:TypeId) (.ba [])⟩] (fun x7=>(.br (decide ((x7.1:Int)<32)) (.bf (0≤(x7.1:Int)∧(x7.1:Int)<32) (.bf ((x7.1+1)*1≤140737488355328) (.again (be 0 z0 y0 x7) [1,4,6,7,10,12,13] [0,1,2,3,4,5,71] [Zi a,.own 0 6 0 0 6,.own 1 32 0 0 32,.own 2 4 0 0 4,.own 3 4 0 0 4,.own 4 4 0 0 4,Zi (wrap .i64 ((x7.1:Int)+1))] [some ⟨6,1,true,.ba [aI.cells b]⟩,some ⟨32,1,true,.ba [bh root]⟩,some ⟨4,1,true,.ba [z2]⟩,some ⟨4,1,true,.ba [[Zi 3,Zi 0,.bc,.aZ 5 4 0 x1.1]]⟩,some ⟨4,1,true,.ba [[Zi 2,Zi 0,.aZ 6 1 0 (x7.1+1),.bc]]⟩,some ⟨4,x1.1,true,bz.row fun i=>[Zi (It.kind (It.int (cS b (0:Int) i))),Zi (It.num (It.int (cS b (0:Int) i))),.aG 1 0 fun i_1 x=>Zb (It.fb (It.int (cS b (0:Int) i)) i_1),.aG 4 0 (It.row (It.int (cS b (0:Int) i)))]⟩,some ⟨1,x7.1+1,true,.fn fun i j=>Zb (bif Nat.blt i x7.1 then root i else aE (aO [Zb (aE (bz.at (Ob.f (Ob.seen ⟨32,1,true,.ba [bh root]⟩)) 0 (0+toNat (↑(x7.1):Int))))] j))⟩]))) (.dc true 339 [Zi a] (It.av (It.int a)) (.dc true 339 [Zi z] (It.av (It.int z)) (.dc true 339 [Zi sa] (It.av (It.int sa)) (.dc true 339 [Zi sb] (It.av (It.int sb)) (.bf ((x1.1+5)*64≤140737488355328) (.dc true 275 [.agg [Zi 3,Zi 0,.bc,.aG 4 (x1.1+5) fun r k=>cG (Nat.blt (r+0) x1.1) (aO [Zi (It.kind (It.int (cS b (0:Int) (r+0)))),Zi (It.num (It.int (cS b (0:Int) (r+0)))),.aG 1 0 fun i x=>Zb (It.fb (It.int (cS b (0:Int) (r+0))) i),.aG 4 0 (It.row (It.int (cS b (0:Int) (r+0))))] k) (aO (List.getD [[Zi (It.kind (It.int a)),Zi (It.num (It.int a)),.aG 1 0 fun i x=>Zb (It.fb (It.int a) i),.aG 4 0 (It.row (It.int a))],[Zi 2,Zi 0,.aG 1 x7.1 fun r k=>Zb (root (r+0)),.bc],[Zi (It.kind (It.int z)),Zi (It.num (It.int z)),.aG 1 0 fun i x=>Zb (It.fb (It.int z) i),.aG 4 0 (It.row (It.int z))],[Zi (It.kind (It.int sa)),Zi (It.num (It.int sa)),.aG 1 0 fun i x=>Zb (It.fb (It.int sa) i),.aG 4 0 (It.row (It.int sa))],[Zi (It.kind (It.int sb)),Zi (It.num (It.int sb)),.aG 1 0 fun i x=>Zb (It.fb (It.int sb) i),.aG 4 0 (It.row (It.int sb))]] (r+0 - x1.1) []) k)]] (il IntKind.u8 z5) (.sc true 83 [AV.str { data := #[(115:UInt8),112,101,99,105,101,47,99,111,105,110] },.aG 1 132 fun i x=>Zb (List.getD z5 i (0:Int))] (.agg (bh (eX z4 (List.length (It.enc z3)) fun k=>List.getD (It.enc z3) k (0:Int)))) (.sc true 274 [.agg (bh (eX z4 132 fun k=>List.getD (It.enc z3) k (0:Int))),Zi (aI.gr b).2] (Zi (cB (jn z4 z3) (bL.q (aI.gr b)) 16)) (.out (Zi (cB (jn z4 z3) (aI.gr b).2 16)) [] (Zi (jk b a root z sa sb)) [])))))))))))))))))
  (by kernel_rfl) ?_
 refine bM ((wC b)) ?_
 refine aU (fun _ hs=>hs.le (⟨.refl _,.refl _,.refl _,.refl _,.refl _,.refl _,.refl _,trivial⟩) (by repeat' (first|exact trivial|(first|exact aH.refl _|exact aH.bw|exact aH.zero|exact aH.push rfl rfl|exact aH.cm rfl|exact aH.len (by omega)|exact aH.row (by repeat' (first|exact trivial|(first|exact aw.refl _|exact aJ (by omega)|exact aw.nil rfl|exact aw.of_eq (congrArg (AV.aZ _ _ _) (by first|omega|(dsimp only;omega)))|exact aw.of_eq (congrArg (AV.int _) (by first|omega|(dsimp only;omega))))|refine And.intro ?_ ?_)))|refine And.intro ?_ ?_))) (fun x1=>?_)
 try (have q1:=x1.2;dsimp only at q1)
 refine aL (fun h2=>?_) (fun h2=>?_)
 ·have g2:=af h2
  refine aD (by omega) ?_
  refine bM (mv (cS b (0:Int) (toNat (↑x1.1:Int)))) ?_
  refine aD (by omega) ?_
  exact aN (⟨x1.1+1,by omega⟩) (fun _ hs=>hs.le (⟨.refl _,.refl _,.refl _,.refl _,.refl _,.refl _,aJ (by omega),trivial⟩) (⟨.refl _,.refl _,.refl _,.refl _,.cm rfl,trivial⟩)) (by dsimp only;omega)
 ·have g2:=aa h2
  refine aU (fun _ hs=>hs.le (⟨.refl _,.refl _,.refl _,.refl _,.refl _,.refl _,.refl _,trivial⟩) (by repeat' (first|exact trivial|(first|exact aH.refl _|exact aH.bw|exact aH.zero|exact aH.push rfl rfl|exact aH.cm rfl|exact aH.len (by omega)|exact aH.row (by repeat' (first|exact trivial|(first|exact aw.refl _|exact aJ (by omega)|exact aw.nil rfl|exact aw.of_eq (congrArg (AV.aZ _ _ _) (by first|omega|(dsimp only;omega)))|exact aw.of_eq (congrArg (AV.int _) (by first|omega|(dsimp only;omega))))|refine And.intro ?_ ?_)))|refine And.intro ?_ ?_))) (fun x7=>?_)
  try (have q7:=x7.2;dsimp only at q7)
  refine aL (fun h8=>?_) (fun h8=>?_)
  ·have g8:=af h8
   refine aD (by omega) ?_
   refine aD (by omega) ?_
   exact aN (⟨x7.1+1,by omega⟩) (fun _ hs=>hs.le (⟨.refl _,.refl _,.refl _,.refl _,.refl _,.refl _,aJ (by omega),trivial⟩) (⟨.refl _,.refl _,.refl _,.refl _,.refl _,.refl _,A2 rfl (BO (by omega)),trivial⟩)) (by dsimp only;omega)
  ·have g8:=aa h8
   refine bM (mv (a)) ?_
   refine bM (mv (z)) ?_
   refine bM (mv (sa)) ?_
   refine bM (mv (sb)) ?_
   refine aD (by omega) ?_
   refine bM (he (x1.1+5) (fun (r k:Nat)=>cG (Nat.blt (r+0) x1.1) (aO [Zi (It.kind (It.int (cS b (0:Int) (r+0)))),Zi (It.num (It.int (cS b (0:Int) (r+0)))),AV.aG (1) (0) fun (i x:Nat)=>Zb (It.fb (It.int (cS b (0:Int) (r+0))) i),AV.aG (4) (0) (It.row (It.int (cS b (0:Int) (r+0))))] k) (aO (List.getD [[Zi (It.kind (It.int a)),Zi (It.num (It.int a)),AV.aG (1) (0) fun (i x:Nat)=>Zb (It.fb (It.int a) i),AV.aG (4) (0) (It.row (It.int a))],[Zi 2,Zi 0,AV.aG (1) x7.1 fun (r k:Nat)=>Zb (root (r+0)),AV.bc],[Zi (It.kind (It.int z)),Zi (It.num (It.int z)),AV.aG (1) (0) fun (i x:Nat)=>Zb (It.fb (It.int z) i),AV.aG (4) (0) (It.row (It.int z))],[Zi (It.kind (It.int sa)),Zi (It.num (It.int sa)),AV.aG (1) (0) fun (i x:Nat)=>Zb (It.fb (It.int sa) i),AV.aG (4) (0) (It.row (It.int sa))],[Zi (It.kind (It.int sb)),Zi (It.num (It.int sb)),AV.aG (1) (0) fun (i x:Nat)=>Zb (It.fb (It.int sb) i),AV.aG (4) (0) (It.row (It.int sb))]] (r+0 - x1.1) []) k)) (by (show _=11;omega)) (by exact fun i k hi _=>Bs (by omega) (by omega) hi)) ?_
   refine aM (ht) ?_
   refine aM (hn) ?_
   exact aq (aw.of_eq rfl)
theorem Ka (b:aI) (k0 k1 k2 a:Int) (root:Nat→Int) (z sa sb r:Int) (hw:b.gr.W) (hr:cC root 32) :
  Pure Tryz.prog aW 291 [b.av,.agg [.int .i64 k0,.int .i64 k1,.int .i64 k2],.int .i64 a,.agg (bh root),.agg [.int .i64 z,.int .i64 sa,.int .i64 sb,.int .i64 r]] (.bool (kh b k0 k1 k2 a root z sa sb r)):=by
 have hv:=o7 b k0 k1 k2 hw
 have hm:=iN b a hw
 have hs:=yq b r
 have hc:=Pd b a root z sa sb r hw hr
 have K:(cZ b k0 k1 k2=true∧bV b.gr a=true)∧0≤r∧r<b.gr.q→lX b a z sa sb=0∧¬lE b a root z sa sb=0→ug b k0 a z sa sb r (lE b a root z sa sb):=fun u v=>Ij root u.1.1 u.1.2 v.1 u.2
 refine ar (own:=bk) Tryz.func291 (by kernel_rfl) mixed (by kernel_rfl)
  (let z0:=(lE b a root z sa sb);let y0:AV:=(.bool (kh b k0 k1 k2 a root z sa sb r));(.sc true 151 [.agg (aI.cells b),.agg [Zi k0,Zi k1,Zi k2]] (.bool (cZ b k0 k1 k2)) (.sc ((!cZ b k0 k1 k2)==false) 226 [.agg (aI.cells b),Zi a] (.bool (bV (aI.gr b) a)) (.sc ((!cZ b k0 k1 k2 || !bV b.1 a)==false) 230 [.agg (aI.cells b),Zi r] (.bool (decide (r≥0)&&decide (r<bL.q (aI.gr b)))) (.br (!cZ b k0 k1 k2 || !bV b.1 a || !(decide (r≥0)&&decide (r<(aI.gr b).2))) (.out (.bool false) [] y0 []) (.sc true 321 [.agg (aI.cells b),Zi a,.agg (bh root),.agg [Zi z,Zi sa,Zi sb,Zi r]] (tj b a root z sa sb) (.br (lX b a z sa sb != 0||lE b a root z sa sb==0) (.out (.bool false) [] y0 []) (.sc true 147 [.agg (aI.cells b),Zi (aI.gr b).3,Zi r] (Zi ((aI.gr b).3^toNat r%bL.p (aI.gr b))) (.sc true 231 [.agg (aI.cells b),Zi k0,Zi z0,Zi sa,Zi 1] (Zi (k0^toNat z0%bL.p (aI.gr b)*sa%bL.p (aI.gr b))) (.sc (((aI.gr b).3^toNat r%(aI.gr b).1==k0^toNat z0%(aI.gr b).1*sa%(aI.gr b).1)==true) 147 [.agg (aI.cells b),Zi a,Zi r] (Zi (a^toNat r%bL.p (aI.gr b))) (.sc (((aI.gr b).3^toNat r%(aI.gr b).1==k0^toNat z0%(aI.gr b).1*sa%(aI.gr b).1)==true) 231 [.agg (aI.cells b),Zi z,Zi z0,Zi sb,Zi 1] (Zi (z^toNat z0%bL.p (aI.gr b)*sb%bL.p (aI.gr b))) (.out (.bool ((aI.gr b).3^toNat r%(aI.gr b).1==k0^toNat z0%(aI.gr b).1*sa%(aI.gr b).1&&a^toNat r%(aI.gr b).1==z^toNat z0%(aI.gr b).1*sb%(aI.gr b).1)) [] y0 []))))))))))))
  (by kernel_rfl) ?_
 refine aM (hv) ?_
 refine aV (fun h1=>hm) ?_
 refine aV (fun h2=>hs) ?_
 refine aL (fun h3=>?_) (fun h3=>?_)
 ·have g3:=(az (az (aB aF) (aB aF)) (aB (aj aa aa))) h3
  exact aq (aw.of_eq (congrArg _ (by rcases g3 with (h|h)|h;(· exact (n8 (.inl h)).symm);(· exact (n8 (.inr (.inl h))).symm);(· exact (n8 (.inr (.inr (.inr (IB h))))).symm))))
 ·have g3:=(au (au (ay aC) (ay aC)) (ay (ah af af))) h3
  refine aM (hc) ?_
  refine aL (fun h6=>?_) (fun h6=>?_)
  ·have g6:=(az aS ai) h6
   exact aq (aw.of_eq (congrArg _ (N1 g3.1.1 g3.1.2 g6).symm))
  ·have g6:=(au aP ao) h6
   refine aM ((lM b) ((aI.gr b).3) (r) (by cases K g3 g6;assumption) (by cases K g3 g6;assumption) (by cases K g3 g6;assumption)) ?_
   refine aM ((oS b) (k0) (lE b a root z sa sb) (sa) (by cases K g3 g6;assumption) (by cases K g3 g6;assumption) (by cases K g3 g6;assumption) (by cases K g3 g6;assumption)) ?_
   refine aV (fun h10=>(lM b) (a) (r) (by cases K g3 g6;assumption) (by cases K g3 g6;assumption) (by cases K g3 g6;assumption)) ?_
   refine aV (fun h11=>(oS b) (z) (lE b a root z sa sb) (sb) (by cases K g3 g6;assumption) (by cases K g3 g6;assumption) (by cases K g3 g6;assumption) (by cases K g3 g6;assumption)) ?_
   exact aq (aw.of_eq (congrArg _ (Oi g3.1.1 g3.1.2 g3.2 g6.1 g6.2).symm))
theorem Hq (b:aI) (k0 k1 k2 a:Int) (root:Nat→Int) (z sa sb r:Int) (hw:b.gr.W) (hr:cC root 32) :
  Pure Tryz.prog aW 269 [b.av,.agg [.int .i64 k0,.int .i64 k1,.int .i64 k2],.int .i64 a,.agg (bh root),.agg [.int .i64 z,.int .i64 sa,.int .i64 sb,.int .i64 r]] (.bool (kh b k0 k1 k2 a root z sa sb r)):=by
 have hv:=wA b k0 k1 k2 hw
 have hm:=p5 b.gr a
 have he:=CV b.gr z sa sb r
 have hs:=uw b.gr r
 have hc:=Mp b a root z sa sb r hr
 have K:((cZ b k0 k1 k2=true∧bV b.gr a=true)∧dS b.gr z sa sb=true)∧0≤r∧r<b.gr.q→ug b k0 a z sa sb r (jk b a root z sa sb):=fun u=>Ek root u.1.1.1 u.1.1.2 u.1.2 u.2
 refine ar (own:=bk) Tryz.func269 (by kernel_rfl) mixed (by kernel_rfl)
  (let z2:=(jk b a root z sa sb != 0);let z1:=(jk b a root z sa sb);let z0:=(jk b a root z sa sb != 0&&(aI.gr b).3^toNat r%(aI.gr b).1==k0^toNat z1%(aI.gr b).1*sa%(aI.gr b).1);let y0:List AV:=[Zi (aI.gr b).1,Zi (aI.gr b).2,Zi (aI.gr b).3];let y1:AV:=(.bool (kh b k0 k1 k2 a root z sa sb r));(.sc true 192 [.agg (aI.cells b),.agg [Zi k0,Zi k1,Zi k2]] (.bool (cZ b k0 k1 k2)) (.sc ((!cZ b k0 k1 k2)==false) 267 [.agg y0,Zi a] (.bool (bV (aI.gr b) a)) (.sc ((!cZ b k0 k1 k2 || !bV b.1 a)==false) 315 [.agg y0,.agg [Zi z,Zi sa,Zi sb,Zi r]] (.bool (dS (aI.gr b) z sa sb)) (.sc ((!cZ b k0 k1 k2 || !bV b.1 a || !dS b.1 z sa sb)==false) 199 [.agg y0,Zi r] (.bool (decide (r≥0)&&decide (r<bL.q (aI.gr b)))) (.br (!cZ b k0 k1 k2 || !bV b.1 a || !dS b.1 z sa sb || !(decide (r≥0)&&decide (r<(aI.gr b).2))) (.out (.bool false) [] y1 []) (.sc true 316 [.agg (aI.cells b),Zi a,.agg (bh root),.agg [Zi z,Zi sa,Zi sb,Zi r]] (Zi z1) (.sc (z2==true) 196 [.agg y0,Zi (aI.gr b).3,Zi r] (Zi ((aI.gr b).3^toNat r%bL.p (aI.gr b))) (.sc (z2==true) 196 [.agg y0,Zi k0,Zi z1] (Zi (k0^toNat z1%bL.p (aI.gr b))) (.sc (z2==true) 268 [.agg y0,Zi (k0^toNat z1%(aI.gr b).1),Zi sa] (Zi (k0^toNat z1%(aI.gr b).1*sa%bL.p (aI.gr b))) (.sc (z0==true) 196 [.agg y0,Zi a,Zi r] (Zi (a^toNat r%bL.p (aI.gr b))) (.sc (z0==true) 196 [.agg y0,Zi z,Zi z1] (Zi (z^toNat z1%bL.p (aI.gr b))) (.sc (z0==true) 268 [.agg y0,Zi (z^toNat z1%(aI.gr b).1),Zi sb] (Zi (z^toNat z1%(aI.gr b).1*sb%bL.p (aI.gr b))) (.out (.bool (jk b a root z sa sb != 0&&(aI.gr b).3^toNat r%(aI.gr b).1==k0^toNat z1%(aI.gr b).1*sa%(aI.gr b).1&&a^toNat r%(aI.gr b).1==z^toNat z1%(aI.gr b).1*sb%(aI.gr b).1)) [] y1 []))))))))))))))
  (by kernel_rfl) ?_
 refine aM (hv) ?_
 refine aV (fun h1=>hm ((iD (jI (by simpa using h1)).1))) ?_
 refine aV (fun h2=>he ((iD (jI (by simp at h2;exact h2.1)).1))) ?_
 refine aV (fun h3=>hs) ?_
 refine aL (fun h4=>?_) (fun h4=>?_)
 ·have g4:=(az (az (az (aB aF) (aB aF)) (aB aF)) (aB (aj aa aa))) h4
  exact aq (aw.of_eq (congrArg _ (by rcases g4 with ((h|h)|h)|h;(· exact (n8 (.inl h)).symm);(· exact (n8 (.inr (.inl h))).symm);(· exact (n8 (.inr (.inr (.inl h)))).symm);(· exact (n8 (.inr (.inr (.inr (IB h))))).symm))))
 ·have g4:=(au (au (au (ay aC) (ay aC)) (ay aC)) (ay (ah af af))) h4
  refine aM (hc (by (have:=(K g4).ok;exact (fO (jI g4.1.1.1).1).1)) (by exact (fO (jI g4.1.1.1).1).2)) ?_
  refine aV (fun h7=>(iy (aI.gr b)) ((aI.gr b).3) (r) (by (cases K g4;assumption)) (by (cases K g4;assumption)) (by (cases K g4;assumption))) ?_
  refine aV (fun h8=>(iy (aI.gr b)) (k0) (jk b a root z sa sb) (by (cases K g4;assumption)) (by (cases K g4;assumption)) (by (cases K g4;assumption))) ?_
  refine aV (fun h9=>(oC (aI.gr b)) (k0^toNat (jk b a root z sa sb)%(aI.gr b).1) (sa) (by (cases K g4;assumption)) (by exact bR (K g4).ok _) (by (cases K g4;assumption))) ?_
  refine aV (fun h10=>(iy (aI.gr b)) (a) (r) (by (cases K g4;assumption)) (by (cases K g4;assumption)) (by (cases K g4;assumption))) ?_
  refine aV (fun h11=>(iy (aI.gr b)) (z) (jk b a root z sa sb) (by (cases K g4;assumption)) (by (cases K g4;assumption)) (by (cases K g4;assumption))) ?_
  refine aV (fun h12=>(oC (aI.gr b)) (z^toNat (jk b a root z sa sb)%(aI.gr b).1) (sb) (by (cases K g4;assumption)) (by exact bR (K g4).ok _) (by (cases K g4;assumption))) ?_
  exact aq (aw.of_eq (congrArg _ ((Bool.and_assoc _ _ _).trans (OE g4.1.1.1 g4.1.1.2 g4.1.2 g4.2).symm)))
theorem Mb (b:aI) (r:fR) (c:bQ) (hw:b.gr.W) (hr:cC c.root 32):Pure Tryz.prog aW 234 [b.av,r.av,c.av] (.bool (fc b r c)):=by
 have hv:=xF b r hw
 have hs:=Ka b r.h r.h1 r.h2 c.a c.root c.z c.sa c.sb c.r hw hr
 refine ar (own:=bk) Tryz.func234 (by kernel_rfl) mixed (by kernel_rfl)
  (.sc true 99 [.agg (aI.cells b),.agg (fR.cells r)] (.bool (dV b r)) (.sc ((dV b r&&c.1==r.1&&c.2==r.2&&c.3==r.3&&c.4==r.5)==true) 291 [.agg (aI.cells b),.agg [Zi r.6,Zi r.7,Zi r.8],Zi c.5,.agg (bh c.6),.agg [Zi c.7,Zi c.8,Zi c.9,Zi c.10]] (.bool (kh b (fR.h r) (fR.h1 r) (fR.h2 r) (bQ.a c) (bQ.root c) (bQ.z c) (bQ.sa c) (bQ.sb c) (bQ.r c))) (.out (.bool (dV b r&&c.1==r.1&&c.2==r.2&&c.3==r.3&&c.4==r.5&&kh b r.6 r.7 r.8 c.5 c.6 c.7 c.8 c.9 c.10)) [] (.bool (fc b r c)) [])))
  (by kernel_rfl) ?_
 refine aM (hv) ?_
 refine aV (fun h1=>hs) ?_
 exact aq (aw.refl _)
theorem Ie (b:aI) (r:fR) (c:bQ) (hw:b.gr.W) (hr:cC c.root 32):Pure Tryz.prog aW 202 [b.av,r.av,c.av] (.bool (fc b r c)):=by
 have hv:=th b r hw
 have hs:=Hq b r.h r.h1 r.h2 c.a c.root c.z c.sa c.sb c.r hw hr
 refine ar (own:=bk) Tryz.func202 (by kernel_rfl) mixed (by kernel_rfl)
  (.sc true 129 [.agg (aI.cells b),.agg (fR.cells r)] (.bool (dV b r)) (.sc ((dV b r&&c.1==r.1&&c.2==r.2&&c.3==r.3&&c.4==r.5)==true) 269 [.agg (aI.cells b),.agg [Zi r.6,Zi r.7,Zi r.8],Zi c.5,.agg (bh c.6),.agg [Zi c.7,Zi c.8,Zi c.9,Zi c.10]] (.bool (kh b (fR.h r) (fR.h1 r) (fR.h2 r) (bQ.a c) (bQ.root c) (bQ.z c) (bQ.sa c) (bQ.sb c) (bQ.r c))) (.out (.bool (dV b r&&c.1==r.1&&c.2==r.2&&c.3==r.3&&c.4==r.5&&kh b r.6 r.7 r.8 c.5 c.6 c.7 c.8 c.9 c.10)) [] (.bool (fc b r c)) [])))
  (by kernel_rfl) ?_
 refine aM (hv) ?_
 refine aV (fun h1=>hs) ?_
 exact aq (aw.refl _)
theorem L4 (F:FuncId) (m:Nat) (g:Nat→AV) (f:Nat→Int) (n:Nat) (p:Nat→Bool) (hn:n≤1000) (hc:∀ i,i<n→Pure Tryz.prog aW F [.int .i64 (f i),.bH m g] (.bool (p i))):Pure Tryz.prog aW 349 [.aG 1 n (fun i _=>.int .i64 (f i)),.fn (.func F) [] [.bH m g]] (.int .i64 (aK p n 0)):=by
 refine ar (own:=bk) Tryz.func349 (by kernel_rfl) mixed (by kernel_rfl)
  (let z0:={ x:Nat // x≤n∧(fun i=>aK p n 0=aK p (n - i) i) x };let y0:=(fun (x:z0)=>aY [0,1,7,8] [.aG 1 n fun i x=>Zi (f i),AV.fn (Fn.func F) [] [AV.bH m g],Zi n,Zi x.1] []);let y1:=(fun (x:z0)=>n - x.1);(.loop (z0) y0 y1 (⟨0,⟨Nat.zero_le n,rfl⟩⟩) [0,1,7,8] [] [.aG 1 n fun i x=>Zi (f i),AV.fn (Fn.func F) [] [AV.bH m g],Zi n,Zi 0] [] (fun x0=>let z1:Nat:=(toNat (x0.1:Int));(.br (decide ((x0.1:Int)<(n:Int))) (.bf (0≤(x0.1:Int)∧(x0.1:Int)<(n:Int)) (.sc true F [Zi (f z1),AV.bH m g] (.bool (p z1)) (.br (p z1) (.out (Zi x0.1) [] (Zi (aK p n 0)) []) (.again (be 0 y0 y1 x0) [0,1,7,8] [] [.aG 1 n fun i x=>Zi (f i),AV.fn (Fn.func F) [] [AV.bH m g],Zi n,Zi (wrap .i64 ((x0.1:Int)+1))] [])))) (.out (Zi (-1)) [] (Zi (aK p n 0)) [])))))
  (by kernel_rfl) ?_
 refine aU (fun _ hs=>hs.le (⟨.refl _,.refl _,.refl _,.refl _,trivial⟩) (trivial)) (fun x0=>?_)
 try (have q0:=x0.2;dsimp only at q0)
 refine aL (fun h1=>?_) (fun h1=>?_)
 ·have g1:=af h1
  refine aD (by omega) ?_
  refine aM (hc (toNat (↑x0.1:Int)) (by omega)) ?_
  refine aL (fun h4=>?_) (fun h4=>?_)
  ·have g4:=aC h4
   try simp only [Int.toNat_natCast] at g4
   exact aq (aw.of_eq (congrArg _ (cr x0.2.2 (by omega) h4)))
  ·have g4:=aF h4
   try simp only [Int.toNat_natCast] at g4
   exact aN (⟨x0.1+1,by omega,bS x0.2.2 (by omega) h4⟩) (fun _ hs=>hs.le (⟨.refl _,.refl _,.refl _,aJ (by omega),trivial⟩) (trivial)) (by dsimp only;omega)
 ·have g1:=aa h1
  exact aq (aw.of_eq (congrArg _ (bW x0.2.2 (by omega))))
theorem w3 (F:FuncId) (m:Nat) (g:Nat→AV) (f:Nat→Int) (n:Nat) (p:Nat→Bool) (hn:n≤1000) (hc:∀ i,i<n→Pure Tryz.prog aW F [.int .i64 (f i),.bH m g] (.bool (p i))):Pure Tryz.prog aW 327 [.aG 1 n (fun i _=>.int .i64 (f i)),.fn (.func F) [] [.bH m g]] (.bool (decide (aK p n 0≥0))):=by
 have c1:=L4 F m g f n p hn hc
 refine ar (own:=bk) Tryz.func327 (by kernel_rfl) mixed (by kernel_rfl)
  (let y0:AV:=(.bool (decide (aK p n 0≥0)));(.sc true 349 [.aG 1 n fun i x=>Zi (f i),AV.fn (Fn.func F) [] [AV.bH m g]] (Zi (aK p n 0)) (.out y0 [] y0 [])))
  (by kernel_rfl) ?_
 refine aM (c1) ?_
 exact aq (aw.refl _)
theorem A7 (n:Int) (i:Nat) (hi:i<6):Pure Tryz.prog aW 328 [.int .i64 i,.bH 1 (aO [.int .i64 n])] (.bool (n==(2^i:Nat))):=by
 have hs:=shw (x:=i) (by omega)
 refine ar (own:=bk) Tryz.func328 (by kernel_rfl) mixed (by kernel_rfl)
  (.bf (0≤(i:Int)) (.out (.bool (n==wrap .i64 ((1:Int)*2^min (toNat (i:Int)) 64))) [] (.bool (n==(↑(2^i):Int))) []))
  (by kernel_rfl) ?_
 refine aD (by omega) ?_
 exact aq (aw.of_eq (by simp_all))
theorem AI (n:Int):Pure Tryz.prog aW 327 [.aG 1 6 (fun r k=>aO (List.getD [[.int .i64 0],[.int .i64 1],[.int .i64 2],[.int .i64 3],[.int .i64 4],[.int .i64 5]] r []) k),.fn (.func 328) [] [.bH 1 (aO [.int .i64 n])]] (.bool (FH n)) :=
 (w3 328 1 (aO [.int .i64 n]) (fun i=>(i:Int)) 6 (fun i=>n==(2^i:Nat)) (by decide) (fun i hi=>A7 n i hi)).via
  ⟨aw.aG fun i j hi hj=>by obtain rfl:j=0:=Nat.lt_one_iff.1 hj;match i,hi with|0,_|1,_|2,_|3,_|4,_|5,_=>rfl,aw.refl _,trivial⟩
theorem Cu (n:Int):Pure Tryz.prog aW 298 [.int .i64 n] (.bool (FH n)):=by
 have h:=AI n
 refine ar (own:=bk) Tryz.func298 (by kernel_rfl) mixed (by kernel_rfl)
  (let z0:AV:=(.bool (FH n));(.sc true 327 [.aG 1 6 fun r k=>aO (List.getD [[Zi 0],[Zi 1],[Zi 2],[Zi 3],[Zi 4],[Zi 5]] (r+0) []) k,AV.fn (Fn.func 328) [] [AV.bH 1 fun k=>aO [Zi n] k]] z0 (.out z0 [] z0 [])))
  (by kernel_rfl) ?_
 refine aM (h) ?_
 exact aq (aw.refl _)
theorem Ld (x:Int):Pure Tryz.prog aW 292 [.agg [.int .i64 1,.int .i64 x,.bc,.bc]] (.aT [il .u8 (It.int x).enc,.int .i64 0]) :=
 (ml (.int x) rfl (by rw [ir];decide)).via ⟨aw.agg ⟨aw.refl _,aw.refl _,aw.bc,aw.bc,trivial⟩,trivial⟩
theorem FP (x:Int):Pure Tryz.prog aW 275 [.agg [.int .i64 1,.int .i64 x,.bc,.bc]] (il .u8 (It.int x).enc) :=
 (lP (.int x) (by rw [ir];decide)).via ⟨aw.agg ⟨aw.refl _,aw.refl _,aw.bc,aw.bc,trivial⟩,trivial⟩
theorem FV (b:aI) (N:Nat) (hN:N≤32) (hl:FH N=true) (f:Nat→Int) (hw:b.gr.W) (hv:aR b=true) (hf:∀ i,i<N→aQ b.gr (f i)=true):Pure Tryz.prog aW 240 [b.av,.aG 1 N fun i _=>.int .i64 (f i)] (.aT [dB N fun i=>fX (f i),.int .i64 0]):=by
 have ht:=fun x:Int=>FY (It.int x).enc.length (fun i=>(It.int x).enc.getD i 0) (by rw [ir];decide) (It.gY (x:=.int x) trivial)
 refine ar (own:=bk) Tryz.func240 (by kernel_rfl) mixed (by kernel_rfl)
  (let z1:=(String.toUTF8 "specie/leaf");let y0:=(fun (x:{ x:Nat // x≤N })=>aY [2,22,23,6,24] [.own 0 6 0 0 6,.aG 1 N fun i x=>Zi (f i),Zi N,.aZ 1 32 0 (x.1),Zi x.1] [some ⟨6,1,true,.ba [aI.cells b]⟩,some ⟨32,x.1,true,bz.row fun i=>bh (fX (f i))⟩]);let y1:AV:=(.aT [dB N fun i=>fX (f i),Zi 0]);let y2:=(fun (x:{ x:Nat // x≤N })=>N - x.1);(.sc true 21 [.agg (aI.cells b)] (.bool (aR b)) (.sc ((!aR b)==false) 298 [Zi N] (.bool (FH (N:Int))) (.br (!aR b || !FH (N:Int)) (.out (.aT [.bc,Zi 1]) [] y1 []) (.loop ({ x:Nat // x≤N }) y0 y2 (⟨0,Nat.zero_le N⟩) [2,22,23,6,24] [0,8321] [.own 0 6 0 0 6,.aG 1 N fun i x=>Zi (f i),Zi N,.bc,Zi 0] [some ⟨6,1,true,.ba [aI.cells b]⟩,some ⟨32,0,true,.ty (999999999:TypeId) (.ba [])⟩] (fun x4=>let z0:=(It.enc (It.int (f (toNat (x4.1:Int)))));(.br (decide ((x4.1:Int)<(N:Int))) (.bf (0≤(x4.1:Int)∧(x4.1:Int)<(N:Int)) (.sc true 61 [.agg [Zi (aI.gr b).1,Zi (aI.gr b).2,Zi (aI.gr b).3],Zi (f (toNat (x4.1:Int)))] (.bool (bp (aI.gr b)&&aQ (aI.gr b) (f (toNat (x4.1:Int))))) (.br (!(bp b.1&&aQ b.1 (f (toNat (x4.1:Int))))) (.out (.aT [.bc,Zi 2]) [] y1 []) (.dc true 292 [.agg [Zi 1,Zi (f (toNat (x4.1:Int))),.bc,.bc]] (.aT [il IntKind.u8 z0,Zi 0]) (.sc true 299 [.aG 1 9 fun i x=>Zb (List.getD z0 i (0:Int))] (.aT [.agg (bh (eX z1 (List.length z0) fun i=>List.getD z0 i (0:Int))),Zi 0]) (.bf ((x4.1+1)*32≤140737488355328) (.again (be 0 y0 y2 x4) [2,22,23,6,24] [0,226] [.own 0 6 0 0 6,.aG 1 N fun i x=>Zi (f i),Zi N,.aZ 1 32 0 (x4.1+1),Zi (wrap .i64 ((x4.1:Int)+1))] [some ⟨6,1,true,.ba [aI.cells b]⟩,some ⟨32,x4.1+1,true,bz.cat x4.1 (bz.row fun i=>bh (fX (f i))) (.ba [bh (eX z1 (List.length z0) fun i=>List.getD z0 i (0:Int))])⟩]))))))) (.out (.aT [.aG 32 x4.1 fun r k=>aO (bh (fX (f (r+0)))) k,Zi 0]) [] y1 []))))))))
  (by kernel_rfl) ?_
 refine aM ((ew b) (by assumption)) ?_
 refine aV (fun h1=>Cu ((↑N:Int))) ?_
 refine aL (fun h2=>?_) (fun h2=>?_)
 ·have g2:=(az (aB aF) (aB aF)) h2
  exact aq (by exfalso;rcases g2 with g|g;(· rw [hv] at g;cases g);(· rw [hl] at g;cases g))
 ·have g2:=(au (ay aC) (ay aC)) h2
  refine aU (fun _ hs=>hs.le (by repeat' (first|exact trivial|(first|exact aw.refl _|exact aJ (by omega)|exact aw.nil rfl|exact aw.of_eq (congrArg (AV.aZ _ _ _) (by first|omega|(dsimp only;omega)))|exact aw.of_eq (congrArg (AV.int _) (by first|omega|(dsimp only;omega))))|refine And.intro ?_ ?_)) (by exact ⟨aH.refl _,aH.zero,trivial⟩)) (fun x4=>?_)
  try (have q4:=x4.2;dsimp only at q4)
  refine aL (fun h5=>?_) (fun h5=>?_)
  ·have g5:=af h5
   refine aD (by omega) ?_
   refine aM ((er (aI.gr b)) (f (toNat (↑x4.1:Int))) (by assumption)) ?_
   refine aL (fun h8=>?_) (fun h8=>?_)
   ·have g8:=(aB (aj aF aF)) h8
    try simp only [Int.toNat_natCast] at g8
    exact aq (by exfalso;rcases g8 with g|g;(· rw [bn.2 (iD hv)] at g;cases g);(· rw [hf _ (by omega)] at g;cases g))
   ·have g8:=(ay (ah aC aC)) h8
    try simp only [Int.toNat_natCast] at g8
    refine bM (Ld (f (toNat (↑x4.1:Int)))) ?_
    refine aM (ht (f (toNat (↑x4.1:Int)))) ?_
    refine aD (by omega) ?_
    exact aN (⟨x4.1+1,by omega⟩) (fun _ hs=>hs.le (by repeat' (first|exact trivial|(first|exact aw.refl _|exact aJ (by omega)|exact aw.nil rfl|exact aw.of_eq (congrArg (AV.aZ _ _ _) (by first|omega|(dsimp only;omega)))|exact aw.of_eq (congrArg (AV.int _) (by first|omega|(dsimp only;omega))))|refine And.intro ?_ ?_)) (by exact ⟨aH.refl _,aH.pq rfl (fun _ _=>cM.refl _) (cM.refl _),trivial⟩)) (by (dsimp only;omega))
  ·have g5:=aa h5
   exact aq (Ec (ze (by omega)))
theorem G5 (n:Nat) (hn:n≤1000) (f:Nat→Int):Pure Tryz.prog aW 210 [.aG 1 n fun i _=>.int .i64 (f i)] (dB n fun i=>fX (f i)):=by
 have ht:=fun x:Int=>Ct (It.int x).enc.length (fun i=>(It.int x).enc.getD i 0) (by rw [ir];decide) (It.gY (x:=.int x) trivial)
 refine ar (own:=bk) Tryz.func210 (by kernel_rfl) mixed (by kernel_rfl)
  (let z1:=(String.toUTF8 "specie/leaf");let y0:=(fun (x:{ x:Nat // x≤n })=>aY [0,3,4] [.aG 1 n fun i x=>Zi (f i),.aZ 0 32 0 (x.1),Zi x.1] [some ⟨32,x.1,true,bz.row fun i=>bh (fX (f i))⟩]);let y1:=(fun (x:{ x:Nat // x≤n })=>n - x.1);(.loop ({ x:Nat // x≤n }) y0 y1 (⟨0,Nat.zero_le n⟩) [0,3,4] [8216] [.aG 1 n fun i x=>Zi (f i),.bc,Zi 0] [some ⟨32,0,true,.ty (999999999:TypeId) (.ba [])⟩] (fun x0=>let z0:=(It.enc (It.int (f (toNat (x0.1:Int)))));(.br (decide ((x0.1:Int)<(n:Int))) (.bf (0≤(x0.1:Int)∧(x0.1:Int)<(n:Int)) (.dc true 275 [.agg [Zi 1,Zi (f (toNat (x0.1:Int))),.bc,.bc]] (il IntKind.u8 z0) (.sc true 279 [.aG 1 9 fun i x=>Zb (List.getD z0 i (0:Int))] (.agg (bh (eX z1 (List.length z0) fun i=>List.getD z0 i (0:Int)))) (.bf ((x0.1+1)*32≤140737488355328) (.again (be 0 y0 y1 x0) [0,3,4] [105] [.aG 1 n fun i x=>Zi (f i),.aZ 0 32 0 (x0.1+1),Zi (wrap .i64 ((x0.1:Int)+1))] [some ⟨32,x0.1+1,true,bz.cat x0.1 (bz.row fun i=>bh (fX (f i))) (.ba [bh (eX z1 (List.length z0) fun i=>List.getD z0 i (0:Int))])⟩]))))) (.out (.aG 32 x0.1 fun r k=>aO (bh (fX (f (r+0)))) k) [] (dB n fun i=>fX (f i)) [])))))
  (by kernel_rfl) ?_
 refine aU (fun _ hs=>hs.le (by repeat' (first|exact trivial|(first|exact aw.refl _|exact aJ (by omega)|exact aw.nil rfl|exact aw.of_eq (congrArg (AV.aZ _ _ _) (by first|omega|(dsimp only;omega)))|exact aw.of_eq (congrArg (AV.int _) (by first|omega|(dsimp only;omega))))|refine And.intro ?_ ?_)) (by exact ⟨aH.zero,trivial⟩)) (fun x0=>?_)
 try (have q0:=x0.2;dsimp only at q0)
 refine aL (fun h1=>?_) (fun h1=>?_)
 ·have g1:=af h1
  refine aD (by omega) ?_
  refine bM (FP (f (toNat (↑x0.1:Int)))) ?_
  refine aM (ht (f (toNat (↑x0.1:Int)))) ?_
  refine aD (by omega) ?_
  exact aN (⟨x0.1+1,by omega⟩) (fun _ hs=>hs.le (by repeat' (first|exact trivial|(first|exact aw.refl _|exact aJ (by omega)|exact aw.nil rfl|exact aw.of_eq (congrArg (AV.aZ _ _ _) (by first|omega|(dsimp only;omega)))|exact aw.of_eq (congrArg (AV.int _) (by first|omega|(dsimp only;omega))))|refine And.intro ?_ ?_)) (by exact ⟨aH.pq rfl (fun _ _=>cM.refl _) (cM.refl _),trivial⟩)) (by (dsimp only;omega))
 ·have g1:=aa h1
  exact aq (ze (by omega))
theorem KE (G:bL) (x:Int) (h:G.Ok) (hw:G.W):Pure Tryz.prog aW 356 [.int .i64 x,.bH 3 (aO G.cells)] (.bool (!aQ G x)):=by
 have hg:=bn.2 h
 refine ar (own:=bk) Tryz.func356 (by kernel_rfl) mixed (by kernel_rfl)
  (.sc true 61 [.agg [Zi G.1,Zi G.2,Zi G.3],Zi x] (.bool (bp G&&aQ G x)) (.out (.bool !(bp G&&aQ G x)) [] (.bool !aQ G x) []))
  (by kernel_rfl) ?_
 refine aM ((er G) (x) (by assumption)) ?_
 exact aq (aw.of_eq (congrArg _ (by rw [hg,Bool.true_and])))
theorem Mj (G:bL) (x:Int):Pure Tryz.prog aW 357 [.int .i64 x,.bH 3 (aO G.cells)] (.bool (decide (x<0)||decide (x≥G.q))):=by
 refine ar (own:=bk) Tryz.func357 (by kernel_rfl) mixed (by kernel_rfl)
  (.out (.bool (decide (x<0)||decide (x≥G.2))) [] (.bool (decide (x<0)||decide (x≥bL.q G))) [])
  (by kernel_rfl) ?_
 exact aq (aw.refl _)
theorem Pe (G:bL) (n:Nat) (f:Nat→Int) (hn:n≤1000) (h:G.Ok) (hw:G.W) (hf:∀ i,i<n→aQ G (f i)=true):Pure Tryz.prog aW 346 [G.av,.aG 1 n fun i _=>.int .i64 (f i)] (.bool true):=by
 have c1:=w3 356 3 (aO G.cells) f n (fun i => !aQ G (f i)) hn (fun i _=>KE G (f i) h hw)
 have e:=KV (p:=fun i => !aQ G (f i)) (n:=n) (fun i hi=>by rw [hf i hi];rfl)
 refine ar (own:=bk) Tryz.func346 (by kernel_rfl) mixed (by kernel_rfl)
  (let z0:=(aK (fun i => !aQ G (f i)) n 0≥0);(.sc true 327 [.aG 1 n fun i x=>Zi (f i),AV.fn (Fn.func 356) [] [AV.bH 3 fun k=>aO [Zi G.1,Zi G.2,Zi G.3] k]] (.bool (decide z0)) (.out (.bool !decide z0) [] (.bool true) [])))
  (by kernel_rfl) ?_
 refine aM (c1) ?_
 exact aq (aw.of_eq (congrArg _ (by rw [e];rfl)))
theorem Oq (G:bL) (a c:Int):Pure Tryz.prog aW 347 [G.av,.aG 1 2 fun i _=>.int .i64 (fE a c i)] (.bool (bG G a&&bG G c)):=by
 have c1:=w3 357 3 (aO G.cells) (fE a c) 2 (fun i=>decide (fE a c i<0)||decide (fE a c i≥G.q)) (by decide) (fun i _=>Mj G (fE a c i))
 have e:=Pc (p:=fun i=>decide (fE a c i<0)||decide (fE a c i≥G.q))
 refine ar (own:=bk) Tryz.func347 (by kernel_rfl) mixed (by kernel_rfl)
  (.sc true 327 [.aG 1 2 fun i x=>Zi (fE a c i),AV.fn (Fn.func 357) [] [AV.bH 3 fun k=>aO [Zi G.1,Zi G.2,Zi G.3] k]] (.bool (decide (aK (fun i=>decide (fE a c i<0)||decide (fE a c i≥bL.q G)) 2 0≥0))) (.out (.bool !decide (aK (fun i=>decide (fE a c i<0)||decide (fE a c i≥G.2)) 2 0≥0)) [] (.bool (bG G a&&bG G c)) []))
  (by kernel_rfl) ?_
 refine aM (c1) ?_
 exact aq (aw.of_eq (congrArg _ (by rw [e,JA,JA,← Bool.not_and,Bool.not_not];rfl)))
theorem C3 (G:bL) (f e:Nat→Int) (h:G.Ok) (hw:G.W) (hf:∀ i,i<2→aQ G (f i)=true) (he:∀ i,i<2→0≤e i∧e i<G.q):Pure Tryz.prog aW 348 [G.av,.aG 1 2 fun i _=>.int .i64 (f i),.aG 1 2 fun i _=>.int .i64 (e i)] (.aT [.int .i64 (m5 G f e 2),.int .i64 0]):=by
 refine ar (own:=bk) Tryz.func348 (by kernel_rfl) mixed (by kernel_rfl)
  (let y1:List (Option Ob):=[some ⟨3,1,true,bz.ba [[Zi (bL.p G),Zi (bL.q G),Zi (bL.g G)]]⟩];let y0:=(fun (x:{ x:Nat // x≤2 })=>aY [2,3,13,14,8,15] [AV.aG 1 2 fun (i x:Nat)=>Zi (e i),AV.own 0 3 0 0 3,AV.aG 1 2 fun (i x:Nat)=>Zi (f i),Zi (↑(2):Int),Zi (m5 G f e (x.1)),Zi (↑(x.1):Int)] y1);let y2:=(fun (x:{ x:Nat // x≤2 })=>2 - x.1);(.loop ({ x:Nat // x≤2 }) y0 y2 (⟨0,Nat.zero_le 2⟩) ([2,3,13,14,8,15]) ([0]) ([AV.aG 1 2 fun (i x:Nat)=>Zi (e i),AV.own 0 3 0 0 3,AV.aG 1 2 fun (i x:Nat)=>Zi (f i),Zi (↑(2):Int),Zi 1,Zi 0]) (y1) (fun x0=>(.br (decide ((↑x0.1:Int)<(↑(2):Int))) (.bf ((0:Int)≤(↑x0.1:Int)∧(↑x0.1:Int)<(↑(2):Int)) (.bf ((0:Int)≤(↑x0.1:Int)∧(↑x0.1:Int)<(↑(2):Int)) (.sc (true) 107 ([AV.agg [Zi G.1,Zi G.2,Zi G.3],Zi (f (toNat (↑x0.1:Int))),Zi (e (toNat (↑x0.1:Int)))]) (AV.aT [Zi (f (toNat (↑x0.1:Int))^toNat (e (toNat (↑x0.1:Int)))%bL.p G),Zi 0]) (.ff (.sc (true) 117 ([AV.agg [Zi G.1,Zi G.2,Zi G.3],Zi (m5 G f e x0.1),Zi (f (toNat (↑x0.1:Int))^toNat (e (toNat (↑x0.1:Int)))%G.1)]) (AV.aT [Zi (m5 G f e x0.1*(f (toNat (↑x0.1:Int))^toNat (e (toNat (↑x0.1:Int)))%G.1)%bL.p G),Zi 0]) (.ff (.again (be 0 y0 y2 x0) ([2,3,13,14,8,15]) ([0]) ([AV.aG 1 2 fun (i x:Nat)=>Zi (e i),AV.own 0 3 0 0 3,AV.aG 1 2 fun (i x:Nat)=>Zi (f i),Zi (↑(2):Int),Zi (m5 G f e x0.1*(f (toNat (↑x0.1:Int))^toNat (e (toNat (↑x0.1:Int)))%G.1)%G.1),Zi (wrap .i64 ((↑x0.1:Int)+1))]) (y1)))))))) (.out (AV.aT [Zi (m5 G f e x0.1),Zi 0]) [] (AV.aT [Zi (m5 G f e 2),Zi 0]) [])))))
  (by kernel_rfl) ?_
 refine aU (fun _ hs=>hs.le (⟨.refl _,.refl _,.refl _,.refl _,.refl _,.refl _,trivial⟩) (⟨.refl _,trivial⟩)) (fun x0=>?_)
 try (have q0:=x0.2;dsimp only at q0)
 refine aL (fun h1=>?_) (fun h1=>?_)
 ·have g1:=af h1
  refine aD (by omega) ?_
  refine aD (by omega) ?_
  refine aM ((nH G) (f (toNat (↑x0.1:Int))) (e (toNat (↑x0.1:Int))) (by assumption) (by assumption) (by exact hf _ (by omega)) (by exact he _ (by omega))) ?_
  refine b9 ?_
  refine aM ((pR G) (m5 G f e x0.1) (f (toNat (↑x0.1:Int))^toNat (e (toNat (↑x0.1:Int)))%G.1) (by assumption) (by assumption) (by exact uI h hf _ (by omega)) (by exact dL h (hf _ (by omega)) _)) ?_
  refine b9 ?_
  exact aN (⟨x0.1+1,by omega⟩) (fun _ hs=>hs.le (⟨.refl _,.refl _,.refl _,.refl _,.refl _,aJ (by omega),trivial⟩) (⟨.refl _,trivial⟩)) (by dsimp only;omega)
 ·have g1:=aa h1
  exact aq (by exact aw.of_eq (by rw [show x0.1=2 by omega]))
theorem wM (b:aI) (r1 r2:Int) (hw:b.gr.W) (hv:aR b=true):Pure Tryz.prog aW 326 [b.gr.av,.aG 1 2 fun i _=>.int .i64 (fE b.g1 b.g2 i),.aG 1 2 fun i _=>.int .i64 (fE r1 r2 i)] (.aT [.int .i64 (o5 b r1 r2),.int .i64 (rV b r1 r2)]):=by
 have h:=bE.1 hv
 have hf:∀ i,i<2→aQ b.gr (fE b.g1 b.g2 i)=true:=fun i hi=>match i,hi with|0,_=>h.e1|1,_=>h.e2
 have hg:=bn.2 h.G
 have c1:=Pe b.gr 2 (fE b.g1 b.g2) (by decide) h.G hw hf
 have c2:=Oq b.gr r1 r2
 have c3:=fun he=>C3 b.gr (fE b.g1 b.g2) (fE r1 r2) h.G hw hf he
 refine ar (own:=bk) Tryz.func326 (by kernel_rfl) mixed (by kernel_rfl)
  (let y0:List AV:=[Zi (aI.gr b).1,Zi (aI.gr b).2,Zi (aI.gr b).3];let y1:AV:=(.aT [Zi (o5 b r1 r2),Zi (rV b r1 r2)]);(.sc true 60 [.agg y0] (.bool (bp (aI.gr b))) (.br (!bp b.1||false) (.out (.aT [Zi 0,Zi 1]) [] y1 []) (.ff (.sc true 346 [.agg y0,.aG 1 2 fun i x=>Zi (fE b.2 b.3 i)] (.bool true) (.sc true 347 [.agg y0,.aG 1 2 fun i x=>Zi (fE r1 r2 i)] (.bool (bG (aI.gr b) r1&&bG (aI.gr b) r2)) (.br (!(bG b.1 r1&&bG b.1 r2)) (.out (.aT [Zi 0,Zi 2]) [] y1 []) (.sc true 348 [.agg y0,.aG 1 2 fun i x=>Zi (fE b.2 b.3 i),.aG 1 2 fun i x=>Zi (fE r1 r2 i)] (.aT [Zi (m5 (aI.gr b) (fE (aI.g1 b) (aI.g2 b)) (fE r1 r2) 2),Zi 0]) (.out (.aT [Zi (m5 b.1 (fE b.2 b.3) (fE r1 r2) 2),Zi 0]) [] y1 [])))))))))
  (by kernel_rfl) ?_
 refine aM ((kA (aI.gr b)) (by assumption)) ?_
 refine aL (fun h1=>?_) (fun h1=>?_)
 ·have g1:=(az (aB aF) aC) h1
  exact aq (by exfalso;simp [hg] at g1)
 ·have g1:=(au (ay aC) aF) h1
  refine b9 ?_
  refine aM (c1) ?_
  refine aM (c2) ?_
  refine aL (fun h6=>?_) (fun h6=>?_)
  ·have g6:=(aB (aj aF aF)) h6
   exact aq (aw.of_eq (by rw [(wP g6).1,(wP g6).2]))
  ·have g6:=(ay (ah aC aC)) h6
   refine aM (c3 (Hv g6)) ?_
   exact aq (aw.of_eq (by rw [(wR g6).1,(wR g6).2,Pg h.G];rfl))
theorem DR (b:aI) (y r1 r2:Int) (hw:b.gr.W) (hv:aR b=true):Pure Tryz.prog aW 296 [b.gr.av,.int .i64 y,.aG 1 2 fun i _=>.int .i64 (fE b.g1 b.g2 i),.aG 1 2 fun i _=>.int .i64 (fE r1 r2 i)] (.bool (qs b y r1 r2)):=by
 have c1:=wM b r1 r2 hw hv
 refine ar (own:=bk) Tryz.func296 (by kernel_rfl) mixed (by kernel_rfl)
  (.sc true 326 [.agg [Zi (aI.gr b).1,Zi (aI.gr b).2,Zi (aI.gr b).3],.aG 1 2 fun i x=>Zi (fE b.2 b.3 i),.aG 1 2 fun i x=>Zi (fE r1 r2 i)] (.aT [Zi (o5 b r1 r2),Zi (rV b r1 r2)]) (.out (.bool (rV b r1 r2==0&&o5 b r1 r2==y)) [] (.bool (qs b y r1 r2)) []))
  (by kernel_rfl) ?_
 refine aM (c1) ?_
 exact aq (aw.of_eq (congrArg _ H7))
theorem Fp (b:aI) (y r1 r2:Int) (hw:b.gr.W) (hv:aR b=true):Pure Tryz.prog aW 296 [b.gr.av,.int .i64 y,.aG 1 2 fun r k=>aO (List.getD [[.int .i64 b.g1],[.int .i64 b.g2]] r []) k,.aG 1 2 fun r k=>aO (List.getD [[.int .i64 r1],[.int .i64 r2]] r []) k] (.bool (qs b y r1 r2)) :=
 (DR b y r1 r2 hw hv).via ⟨aw.refl _,aw.refl _,yk,yk,trivial⟩
theorem Fu (b:aI) (a k x r1 r2:Int) (hw:b.gr.W) (hv:aR b=true) (ha:aQ b.gr a=true) (hk:0≤k∧k<b.gr.q):Pure Tryz.prog aW 238 [b.av,.int .i64 a,.int .i64 k,.agg [.int .i64 x,.int .i64 r1,.int .i64 r2]] (.bool (fI b a k x r1 r2)):=by
 have h:=bE.1 hv
 have hg:=bn.2 h.G
 have c1:=er b.gr x hw
 have c2:=nH b.gr a k h.G hw ha hk
 have c3:=fun hx=>pR b.gr (a^k.toNat%b.gr.p) x h.G hw (dL h.G ha _) hx
 have c4:=Fp b (a^k.toNat%b.gr.p*x%b.gr.p) r1 r2 hw hv
 rw [hg,Bool.true_and] at c1
 refine ar (own:=bk) Tryz.func238 (by kernel_rfl) mixed (by kernel_rfl)
  (let z2:AV:=(.bool (fI b a k x r1 r2));let z1:=(a^toNat k%(aI.gr b).1*x%(aI.gr b).1);let z0:=(a^toNat k%bL.p (aI.gr b)*x%bL.p (aI.gr b));let y0:List AV:=[Zi (aI.gr b).1,Zi (aI.gr b).2,Zi (aI.gr b).3];(.sc true 61 [.agg y0,Zi x] (.bool (aQ (aI.gr b) x)) (.br (!aQ b.1 x) (.out (.bool false) [] z2 []) (.sc true 107 [.agg y0,Zi a,Zi k] (.aT [Zi (a^toNat k%bL.p (aI.gr b)),Zi 0]) (.ff (.sc true 117 [.agg y0,Zi (a^toNat k%(aI.gr b).1),Zi x] (.aT [Zi z0,Zi 0]) (.sc true 296 [.agg y0,Zi z1,.aG 1 2 fun r k=>aO (List.getD [[Zi b.2],[Zi b.3]] (r+0) []) k,.aG 1 2 fun r k=>aO (List.getD [[Zi r1],[Zi r2]] (r+0) []) k] (.bool (qs b z0 r1 r2)) (.out (.bool (qs b z1 r1 r2)) [] z2 []))))))))
  (by kernel_rfl) ?_
 refine aM (c1) ?_
 refine aL (fun h1=>?_) (fun h1=>?_)
 ·have g1:=(aB aF) h1
  exact aq (aw.of_eq (congrArg _ (by unfold fI;rw [g1];rfl)))
 ·have g1:=(ay aC) h1
  refine aM (c2) ?_
  refine b9 ?_
  refine aM (c3 (g1)) ?_
  refine aM (c4) ?_
  exact aq (aw.of_eq (congrArg _ (by unfold fI;rw [g1];rfl)))
theorem mV (G:bL) (a e:Int) (h:G.Ok) (ha:0≤a∧a<G.p) (he:0≤e∧e<G.q):Pure Tryz.prog aW 219 [G.av,.int .i64 a,.int .i64 e] (.int .i64 (a^e.toNat%G.p)):=by
 have k1:=h.p1;have k2:=h.qp;have k3:=h.p3
 have hr:=ly e G.q (by omega) (by omega)
 rw [I2 he] at hr
 refine ar (own:=bk) Tryz.func219 (by kernel_rfl) mixed (by kernel_rfl)
  (.sc true 282 [Zi e,Zi G.2] (Zi e) (.sc true 126 [Zi a,Zi e,Zi G.1] (Zi (a^toNat e%G.1)) (.out (Zi (a^toNat e%G.1)) [] (Zi (a^toNat e%bL.p G)) [])))
  (by kernel_rfl) ?_
 refine aM (hr) ?_
 refine aM (j0 (a) (e) (G.1) (by omega) (by omega) (by omega) (by omega) (by assumption)) ?_
 exact aq (aw.refl _)
theorem pG (G:bL) (a c:Int) (h:G.Ok) (ha:0≤a∧a<G.p) (hc:0≤c∧c<G.p):Pure Tryz.prog aW 220 [G.av,.int .i64 a,.int .i64 c] (.int .i64 (a*c%G.p)):=by
 have k1:=h.p1;have k3:=h.p3
 refine ar (own:=bk) Tryz.func220 (by kernel_rfl) mixed (by kernel_rfl)
  (.sc true 187 [Zi a,Zi c,Zi G.1] (Zi (a*c%G.1)) (.out (Zi (a*c%G.1)) [] (Zi (a*c%bL.p G)) []))
  (by kernel_rfl) ?_
 refine aM (iK (a) (c) (G.1) (by omega) (by omega) (by omega) (by omega) (by assumption)) ?_
 exact aq (aw.refl _)
theorem qM (G:bL) (x:Int):Pure Tryz.prog aW 277 [G.av,.int .i64 x] (.bool (bG G x)):=by
 refine ar (own:=bk) Tryz.func277 (by kernel_rfl) mixed (by kernel_rfl)
  (.out (.bool (decide (x≥0)&&decide (x<G.2))) [] (.bool (bG G x)) [])
  (by kernel_rfl) ?_
 exact aq (aw.refl _)
theorem Hh (b:aI) (a k x r1 r2:Int) (h:b.Ok) (ha:aQ b.gr a=true) (hk:0≤k∧k<b.gr.q):Pure Tryz.prog aW 207 [b.av,.int .i64 a,.int .i64 k,.agg [.int .i64 x,.int .i64 r1,.int .i64 r2]] (.bool (fI b a k x r1 r2)):=by
 have e1:=cd h.G h.e1
 have e2:=cd h.G h.e2
 have ea:=cd h.G ha
 refine ar (own:=bk) Tryz.func207 (by kernel_rfl) mixed (by kernel_rfl)
  (let z1:AV:=(.bool (fI b a k x r1 r2));let z0:=(b.3^toNat r2%(aI.gr b).1);let y0:List AV:=[Zi (aI.gr b).1,Zi (aI.gr b).2,Zi (aI.gr b).3];(.sc true 81 [.agg y0,Zi x] (.bool (aQ (aI.gr b) x)) (.sc ((!aQ b.1 x)==false) 277 [.agg y0,Zi r1] (.bool (bG (aI.gr b) r1)) (.sc ((!aQ b.1 x || !bG b.1 r1)==false) 277 [.agg y0,Zi r2] (.bool (bG (aI.gr b) r2)) (.br (!aQ b.1 x || !bG b.1 r1 || !bG b.1 r2) (.out (.bool false) [] z1 []) (.sc true 219 [.agg y0,Zi b.2,Zi r1] (Zi (b.2^toNat r1%bL.p (aI.gr b))) (.sc true 219 [.agg y0,Zi b.3,Zi r2] (Zi (b.3^toNat r2%bL.p (aI.gr b))) (.sc true 220 [.agg y0,Zi (b.2^toNat r1%(aI.gr b).1),Zi z0] (Zi (b.2^toNat r1%(aI.gr b).1*z0%bL.p (aI.gr b))) (.sc true 219 [.agg y0,Zi a,Zi k] (Zi (a^toNat k%bL.p (aI.gr b))) (.sc true 220 [.agg y0,Zi (a^toNat k%(aI.gr b).1),Zi x] (Zi (a^toNat k%(aI.gr b).1*x%bL.p (aI.gr b))) (.out (.bool (b.2^toNat r1%(aI.gr b).1*z0%(aI.gr b).1==a^toNat k%(aI.gr b).1*x%(aI.gr b).1)) [] z1 [])))))))))))
  (by kernel_rfl) ?_
 refine aM ((dJ (aI.gr b)) (x) (by exact h.G)) ?_
 refine aV (fun h1=>(qM (aI.gr b)) (r1)) ?_
 refine aV (fun h2=>(qM (aI.gr b)) (r2)) ?_
 refine aL (fun h3=>?_) (fun h3=>?_)
 ·have g3:=(az (az (aB aF) (aB aF)) (aB aF)) h3
  exact aq (aw.of_eq (congrArg _ (Ig g3).symm))
 ·have g3:=(au (au (ay aC) (ay aC)) (ay aC)) h3
  refine aM ((mV (aI.gr b)) (b.2) (r1) (by exact h.G) (by assumption) (by exact ka.1 g3.1.2)) ?_
  refine aM ((mV (aI.gr b)) (b.3) (r2) (by exact h.G) (by assumption) (by exact ka.1 g3.2)) ?_
  refine aM ((pG (aI.gr b)) (b.2^toNat r1%(aI.gr b).1) (b.3^toNat r2%(aI.gr b).1) (by exact h.G) (by exact bR h.G _) (by exact bR h.G _)) ?_
  refine aM ((mV (aI.gr b)) (a) (k) (by exact h.G) (by assumption) (by assumption)) ?_
  refine aM ((pG (aI.gr b)) (a^toNat k%(aI.gr b).1) (x) (by exact h.G) (by exact bR h.G _) (by exact cd h.G g3.1.1)) ?_
  exact aq (aw.of_eq (congrArg _ (Ik g3)))
theorem GJ (G:bL) (c:Int):Pure Tryz.prog aW 284 [G.av,.int .i64 c] (.bool (bG G c)):=by
 refine ar (own:=bk) Tryz.func284 (by kernel_rfl) mixed (by kernel_rfl)
  (.out (.bool (decide (c≥0)&&decide (c<G.2))) [] (.bool (bG G c)) [])
  (by kernel_rfl) ?_
 exact aq (aw.of_eq rfl)
theorem CP (G:bL) (b:Int) (h:G.Ok):Pure Tryz.prog aW 283 [G.av,.int .i64 b] (.bool (bV G b)):=by
 have c1:=dJ G b h
 refine ar (own:=bk) Tryz.func283 (by kernel_rfl) mixed (by kernel_rfl)
  (.sc ((b != 1)==true) 81 [.agg [Zi G.1,Zi G.2,Zi G.3],Zi b] (.bool (aQ G b)) (.out (.bool (b != 1&&aQ G b)) [] (.bool (bV G b)) []))
  (by kernel_rfl) ?_
 refine aV (fun h0=>c1) ?_
 exact aq (aw.of_eq rfl)
theorem EN (G:bL) (b y:Int) (hw:G.W):Pure Tryz.prog aW 217 [G.av,.int .i64 b,.int .i64 y] (.int .i64 (vQ G b y)):=by
 have c1:=pW G hw
 have c2:=fun h=>CP G b h
 have c3:=fun h=>dJ G y h
 refine ar (own:=bk) Tryz.func217 (by kernel_rfl) mixed (by kernel_rfl)
  (let z0:=(Zi (vQ G b y));let y0:List AV:=[Zi G.1,Zi G.2,Zi G.3];(.sc true 80 [.agg y0] (.bool (bp G)) (.br (!bp G) (.out (Zi 1) [] z0 []) (.sc true 283 [.agg y0,Zi b] (.bool (bV G b)) (.sc ((!bV G b)==false) 81 [.agg y0,Zi y] (.bool (aQ G y)) (.br (!bV G b || !aQ G y) (.out (Zi 2) [] z0 []) (.out (Zi 0) [] z0 [])))))))
  (by kernel_rfl) ?_
 refine aM (c1) ?_
 refine aL (fun h1=>?_) (fun h1=>?_)
 ·have g1:=(aB aF) h1
  exact aq (aw.of_eq (congrArg _ (Nw g1).symm))
 ·have g1:=(ay aC) h1
  refine aM (c2 (by grind [bn])) ?_
  refine aV (fun h4=>c3 (by grind [bn])) ?_
  refine aL (fun h5=>?_) (fun h5=>?_)
  ·have g5:=(az (aB aF) (aB aF)) h5
   exact aq (aw.of_eq (congrArg _ (Dz g1 g5).symm))
  ·have g5:=(au (ay aC) (ay aC)) h5
   exact aq (aw.of_eq (congrArg _ (Nt g1 g5).symm))
theorem Bw (G:bL) (p:Pf) (h:G.Ok):Pure Tryz.prog aW 218 [G.av,.agg p.cells] (.bool (pg G p)):=by
 have c1:=dJ G (p.a 0) h
 have c2:=GJ G
 refine ar (own:=bk) Tryz.func218 (by kernel_rfl) mixed (by kernel_rfl)
  (let y0:List AV:=[Zi G.1,Zi G.2,Zi G.3];(.bf ((((p.1:Int)==1&&(p.4:Int)==1)==true)=true→(0:Int)≤0∧(0:Int)<(p.1:Int)) (.sc (((p.1:Int)==1&&(p.4:Int)==1)==true) 81 [.agg y0,Zi (p.2 0)] (.bool (aQ G (Pf.a p 0))) (.sc (((p.1:Int)==1&&(p.4:Int)==1&&aQ G (p.2 0))==true) 284 [.agg y0,Zi p.3] (.bool (bG G p.3)) (.bf ((((p.1:Int)==1&&(p.4:Int)==1&&aQ G (p.2 0)&&bG G p.3)==true)=true→(0:Int)≤0∧(0:Int)<(p.4:Int)) (.sc (((p.1:Int)==1&&(p.4:Int)==1&&aQ G (p.2 0)&&bG G p.3)==true) 284 [.agg y0,Zi (p.5 0)] (.bool (bG G (p.5 0))) (.out (.bool ((p.1:Int)==1&&(p.4:Int)==1&&aQ G (p.2 0)&&bG G p.3&&bG G (p.5 0))) [] (.bool (pg G p)) [])))))))
  (by kernel_rfl) ?_
 refine aD (fun hr=>by have hr:=(cJ (ah ai ai)) hr;omega) ?_
 refine aV (fun h1=>c1) ?_
 refine aV (fun h2=>c2 (p.3)) ?_
 refine aD (fun hr=>by have hr:=(cJ (ah (ah (ah ai ai) aC) aC)) hr;omega) ?_
 refine aV (fun h4=>c2 (p.5 (0))) ?_
 exact aq (aw.of_eq (congrArg _ PZ))
theorem A0 (G:bL) (b y:Int) (p:Pf) (hw:G.W):Pure Tryz.prog aW 143 [G.av,.int .i64 b,.int .i64 y,.agg p.cells] (.bool (jO G b y p)):=by
 have c1:=EN G b y hw
 have c2:=fun h=>Bw G p h
 have c3:=fun x e h hx he=>mV G x e h hx he
 have c4:=fun x z h hx hz=>pG G x z h hx hz
 refine ar (own:=bk) Tryz.func143 (by kernel_rfl) mixed (by kernel_rfl)
  (let z0:=(y^toNat p.3%G.1);let y0:List AV:=[Zi G.1,Zi G.2,Zi G.3];(.sc true 217 [.agg y0,Zi b,Zi y] (Zi (vQ G b y)) (.sc ((vQ G b y != 0)==false) 218 [.agg y0,.agg [.aG 1 p.1 fun i x=>Zi (p.2 i),Zi p.3,.aG 1 p.4 fun i x=>Zi (p.5 i)]] (.bool (pg G p)) (.br (vQ G b y != 0 || !pg G p) (.out (.bool false) [] (.bool (jO G b y p)) []) (.bf ((0:Int)≤0∧(0:Int)<(p.4:Int)) (.sc true 219 [.agg y0,Zi b,Zi (p.5 0)] (Zi (b^toNat (p.5 0)%bL.p G)) (.bf ((0:Int)≤0∧(0:Int)<(p.1:Int)) (.sc true 219 [.agg y0,Zi y,Zi p.3] (Zi (y^toNat p.3%bL.p G)) (.sc true 220 [.agg y0,Zi (p.2 0),Zi z0] (Zi (p.2 0*z0%bL.p G)) (.out (.bool (b^toNat (p.5 0)%G.1==p.2 0*z0%G.1)) [] (.bool (jO G b y p)) []))))))))))
  (by kernel_rfl) ?_
 refine aM (c1) ?_
 refine aV (fun h1=>c2 ((bn.1 (sO.1 (Jy (by simpa using h1))).1))) ?_
 refine aL (fun h2=>?_) (fun h2=>?_)
 ·have g2:=(az aS (aB aF)) h2
  exact aq (aw.of_eq (congrArg _ (KX g2).symm))
 ·have g2:=(au aP (ay aC)) h2
  refine aD (by have k:=(gZ g2.1 g2.2);have:=k.na;have:=k.nz;omega) ?_
  refine aM (c3 (b) (p.5 (0)) (by have k:=(gZ g2.1 g2.2);have G':=bn.1 k.vg;first|exact G'|exact bJ k.z|exact bJ k.c|exact cd G' k.eb|exact cd G' k.ey|exact cd G' k.a|exact bR G' _) (by have k:=(gZ g2.1 g2.2);have G':=bn.1 k.vg;first|exact G'|exact bJ k.z|exact bJ k.c|exact cd G' k.eb|exact cd G' k.ey|exact cd G' k.a|exact bR G' _) (by have k:=(gZ g2.1 g2.2);have G':=bn.1 k.vg;first|exact G'|exact bJ k.z|exact bJ k.c|exact cd G' k.eb|exact cd G' k.ey|exact cd G' k.a|exact bR G' _)) ?_
  refine aD (by have k:=(gZ g2.1 g2.2);have:=k.na;have:=k.nz;omega) ?_
  refine aM (c3 (y) (p.3) (by have k:=(gZ g2.1 g2.2);have G':=bn.1 k.vg;first|exact G'|exact bJ k.z|exact bJ k.c|exact cd G' k.eb|exact cd G' k.ey|exact cd G' k.a|exact bR G' _) (by have k:=(gZ g2.1 g2.2);have G':=bn.1 k.vg;first|exact G'|exact bJ k.z|exact bJ k.c|exact cd G' k.eb|exact cd G' k.ey|exact cd G' k.a|exact bR G' _) (by have k:=(gZ g2.1 g2.2);have G':=bn.1 k.vg;first|exact G'|exact bJ k.z|exact bJ k.c|exact cd G' k.eb|exact cd G' k.ey|exact cd G' k.a|exact bR G' _)) ?_
  refine aM (c4 (p.2 (0)) (y^toNat p.3%G.1) (by have k:=(gZ g2.1 g2.2);have G':=bn.1 k.vg;first|exact G'|exact bJ k.z|exact bJ k.c|exact cd G' k.eb|exact cd G' k.ey|exact cd G' k.a|exact bR G' _) (by have k:=(gZ g2.1 g2.2);have G':=bn.1 k.vg;first|exact G'|exact bJ k.z|exact bJ k.c|exact cd G' k.eb|exact cd G' k.ey|exact cd G' k.a|exact bR G' _) (by have k:=(gZ g2.1 g2.2);have G':=bn.1 k.vg;first|exact G'|exact bJ k.z|exact bJ k.c|exact cd G' k.eb|exact cd G' k.ey|exact cd G' k.a|exact bR G' _)) ?_
  exact aq (aw.of_eq (congrArg _ (Js (gZ g2.1 g2.2)).symm))
theorem EK (G:bL) (b y:Int) (s:ByteArray) (n:Nat) (f:Nat→Int) (N A B C:Nat→Int) (c:Int)
  (c1:Pure Tryz.prog aW 221 [.str s] (.agg (bh N++[.int .i64 0])))
  (c2:Pure Tryz.prog aW 222 [.agg (bh N++[.int .i64 0]),.str "group".toUTF8,.aG 1 3 fun r k=>aO (List.getD [[.int .i64 G.p],[.int .i64 G.q],[.int .i64 G.g]] r []) k] (.aT [.agg (bh A++[.int .i64 1]),.int .i64 0]))
  (c3:Pure Tryz.prog aW 222 [.agg (bh A++[.int .i64 1]),.str "statement".toUTF8,.aG 1 2 fun r k=>aO (List.getD [[.int .i64 b],[.int .i64 y]] r []) k] (.aT [.agg (bh B++[.int .i64 2]),.int .i64 0]))
  (c4:Pure Tryz.prog aW 222 [.agg (bh B++[.int .i64 2]),.str "commitment".toUTF8,.aG 1 n fun r _=>.int .i64 (f r)] (.aT [.agg (bh C++[.int .i64 3]),.int .i64 0]))
  (D:Nat→Int) (c5:Pure Tryz.prog aW 223 [.agg (bh C++[.int .i64 3]),.str "challenge".toUTF8,.int .i64 G.q] (.aT [.agg (bh D++[.int .i64 4]),.int .i64 c,.int .i64 0])) :
  Pure Tryz.prog aW 144 [G.av,.int .i64 b,.int .i64 y,.str s,.aG 1 n fun r _=>.int .i64 (f r)] (.int .i64 c):=by
 refine ar (own:=bk) Tryz.func144 (by kernel_rfl) mixed (by kernel_rfl)
  (.sc true 221 [AV.str s] (.agg (bh N++[Zi 0])) (.sc true 222 [.agg (bh N++[Zi 0]),AV.str { data := #[(103:UInt8),114,111,117,112] },.aG 1 3 fun r k=>aO (List.getD [[Zi G.1],[Zi G.2],[Zi G.3]] (r+0) []) k] (.aT [.agg (bh A++[Zi 1]),Zi 0]) (.sc true 222 [.agg (bh A++[Zi 1]),AV.str { data := #[(115:UInt8),116,97,116,101,109,101,110,116] },.aG 1 2 fun r k=>aO (List.getD [[Zi b],[Zi y]] (r+0) []) k] (.aT [.agg (bh B++[Zi 2]),Zi 0]) (.sc true 222 [.agg (bh B++[Zi 2]),AV.str { data := #[(99:UInt8),111,109,109,105,116,109,101,110,116] },.aG 1 n fun r x=>Zi (f r)] (.aT [.agg (bh C++[Zi 3]),Zi 0]) (.sc true 223 [.agg (bh C++[Zi 3]),AV.str { data := #[(99:UInt8),104,97,108,108,101,110,103,101] },Zi G.2] (.aT [.agg (bh D++[Zi 4]),Zi c,Zi 0]) (.out (Zi c) [] (Zi c) []))))))
  (by kernel_rfl) ?_
 refine aM (c1) ?_
 refine aM (c2) ?_
 refine aM (c3) ?_
 refine aM (c4) ?_
 refine aM (c5) ?_
 exact aq (aw.of_eq rfl)
theorem FF (G:bL) (b y:Int) (p:Pf) (s:ByteArray) (hl:eS s=true) (hG:G.Ok) (hn:p.na=1) :
  Pure Tryz.prog aW 144 [G.av,.int .i64 b,.int .i64 y,.str s,.aG 1 p.na fun r _=>.int .i64 (p.a r)] (.int .i64 (wi G b y (p.a 0) s)):=by
 obtain ⟨na,a,c,nz,z⟩:=p
 obtain rfl:na=1:=hn
 have k1:=nR "group".toUTF8 (sC s) 0 (by decide) (by decide +kernel) (xX s) [G.p,G.q,G.g] (Nat.le_of_ble_eq_true rfl)
 have k2:=nR "statement".toUTF8 (jG (sC s) "group".toUTF8 (bu [G.p,G.q,G.g])) 1 (by decide) (by decide +kernel) (lj _ _ _) [b,y] (Nat.le_of_ble_eq_true rfl)
 have k3:=nR "commitment".toUTF8 (jG (jG (sC s) "group".toUTF8 (bu [G.p,G.q,G.g])) "statement".toUTF8 (bu [b,y])) 2 (by decide) (by decide +kernel) (lj _ _ _) [a 0] (Nat.le_of_ble_eq_true rfl)
 exact EK G b y s 1 a _ _ _ _ _ (Km s hl) (k1.via ⟨aw.refl _,aw.refl _,eO rfl rfl,trivial⟩) (k2.via ⟨aw.refl _,aw.refl _,eO rfl rfl,trivial⟩)
  (k3.via ⟨aw.refl _,aw.refl _,aw.aG fun i k hi hk=>by obtain rfl:i=0:=Nat.lt_one_iff.1 hi;rfl,trivial⟩) _ (DH "challenge".toUTF8 _ 3 (by decide) (by decide +kernel) (lj _ _ _) G.q ⟨by have:=hG.q3;omega,by have:=hG.qp;have:=hG.p1;omega⟩)
theorem Hg (G:bL) (b y:Int) (s:ByteArray) (p:Pf) (hl:eS s=true) (hw:G.W):Pure Tryz.prog aW 92 [G.av,.int .i64 b,.int .i64 y,.str s,.agg p.cells] (.bool (mg G b y s p)):=by
 have c1:=A0 G b y p hw
 have c2:=fun hG hn=>FF G b y p s hl hG hn
 have c3:=wH s (by have:=(gE hl).hi;omega)
 rw [hl] at c3
 refine ar (own:=bk) Tryz.func92 (by kernel_rfl) mixed (by kernel_rfl)
  (.sc true 142 [AV.str s] (.bool true) (.sc true 143 [.agg [Zi G.1,Zi G.2,Zi G.3],Zi b,Zi y,.agg [.aG 1 p.1 fun i x=>Zi (p.2 i),Zi p.3,.aG 1 p.4 fun i x=>Zi (p.5 i)]] (.bool (jO G b y p)) (.sc (jO G b y p==true) 144 [.agg [Zi G.1,Zi G.2,Zi G.3],Zi b,Zi y,AV.str s,.aG 1 p.1 fun i x=>Zi (p.2 i)] (Zi (wi G b y (Pf.a p 0) s)) (.out (.bool (jO G b y p&&p.3==wi G b y (p.2 0) s)) [] (.bool (mg G b y s p)) []))))
  (by kernel_rfl) ?_
 refine aM (c3) ?_
 refine aM (c1) ?_
 refine aV (fun h2=>c2 ((bn.1 (ra (by simpa using h2)).vg)) (((ra (by simpa using h2)).na))) ?_
 exact aq (aw.of_eq (congrArg AV.bool (by unfold mg;congr 1;exact BEq.comm)))
end Go.Proofs.YtgnfjlekpgjehaaGreatDoor
