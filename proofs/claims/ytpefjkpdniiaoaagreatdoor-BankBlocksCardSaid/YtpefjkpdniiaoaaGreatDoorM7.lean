/- Part of the proof: CV8, CV9, CV10, CV11, CV12, CV13, CX11, CX12, Iss, CX13, Iss2, CX14, Spt2, Bnk2, CX20, CV14, CV15, CV16, Bnk3, CX21, Bnk4, CX22, CX23, Bnk5. -/
import Derived.Test.YtpefjkpdniiaoaaGreatDoorM6
import Derived.Test.YtpefjkpdniiaoaaGreatDoorProg
import Derived.Test.YtpefjkpdniiaoaaGreatDoorM3
import Derived.Test.YtpefjkpdniiaoaaGreatDoorM5
namespace Go.Proofs.YtpefjkpdniiaoaaGreatDoor
open Go.IntKind (wrap)
open Int (toNat)
open Go Go.Am Go.Sp
set_option maxRecDepth 100000
theorem I1 (b:aI) (a:Int) (root:Nat→Int) (z sa sb r:Int) (hr:cS root 32) (hq:0<b.gr.q) (hq':b.gr.q<2305843009213693952):Pure Tryz.prog aZ 255 [b.av,.int .i64 a,.agg (bf root),.agg [.int .i64 z,.int .i64 sa,.int .i64 sb,.int .i64 r]] (.int .i64 (eA b a root z sa sb)):=by
 have he:=fun n F hn hF=>Gi (qO b a root z sa sb) n F hn hF (by rw [show (kQ (qO b a root z sa sb)).enc.length=132 from mo b a z sa sb root];decide)
 have ht:=fV "specie/coin".toUTF8 (by decide) (fun k=>(jI b a root z sa sb).enc.getD k 0) (jI b a root z sa sb).enc.length (by rw [mo];decide) (It.ib (uF hr))
 have hn:=nI (jm "specie/coin".toUTF8 (jI b a root z sa sb)) b.gr.q hq hq' (ja _ _ _)
 refine ar (own:=bq) Tryz.func255 (by kernel_rfl) mixed (by kernel_rfl)
  (let y0:=(fun (x:{ x:Nat // x≤32 })=>32 - x.1);let y1:=(fun (x:{ x:Nat // x≤6 })=>6 - x.1);(.dc true 295 [.agg (aI.cells b)] (.aH 1 6 fun i x=>Zi (cC b (0:Int) i)) (.loop ({ x:Nat // x≤6 }) (fun x=>aY [1,4,6,7,9,10,11] [Zi a,.own 0 6 0 0 6,.own 1 32 0 0 32,.own 2 4 0 0 4,.aH 1 6 fun i x=>Zi (cC b (0:Int) i),.own 3 4 0 0 4,Zi x.1] [some ⟨6,1,true,.bc [aI.cells b]⟩,some ⟨32,1,true,.bc [bf root]⟩,some ⟨4,1,true,.bc [[Zi z,Zi sa,Zi sb,Zi r]]⟩,some ⟨4,1,true,.bc [[Zi 3,Zi 0,.bn,.ba 4 4 0 (x.1)]]⟩,some ⟨4,x.1,true,bA.row fun i=>It.cells (It.int (cC b (0:Int) i))⟩]) y1 (⟨0,Nat.zero_le 6⟩) [1,4,6,7,9,10,11] [0,8,16,64,1116] [Zi a,.own 0 6 0 0 6,.own 1 32 0 0 32,.own 2 4 0 0 4,.aH 1 6 fun i x=>Zi (cC b (0:Int) i),.own 3 4 0 0 4,Zi 0] [some ⟨6,1,true,.bc [aI.cells b]⟩,some ⟨32,1,true,.bc [bf root]⟩,some ⟨4,1,true,.bc [[Zi z,Zi sa,Zi sb,Zi r]]⟩,some ⟨4,1,true,.bc [[Zi 3,Zi 0,.bn,.bn]]⟩,some ⟨4,0,true,.ty (999999999:TypeId) (.bc [])⟩] (fun x1=>(.br (decide ((x1.1:Int)<6)) (.bj (0≤(x1.1:Int)∧(x1.1:Int)<6) (.dc true 296 [Zi (cC b (0:Int) (Int.toNat (x1.1:Int)))] (It.av (It.int (cC b (0:Int) (Int.toNat (x1.1:Int))))) (.bj ((x1.1+1)*64≤140737488355328) (.again (bh 0 (fun x=>aY [1,4,6,7,9,10,11] [Zi a,.own 0 6 0 0 6,.own 1 32 0 0 32,.own 2 4 0 0 4,.aH 1 6 fun i x=>Zi (cC b (0:Int) i),.own 3 4 0 0 4,Zi x.1] [some ⟨6,1,true,.bc [aI.cells b]⟩,some ⟨32,1,true,.bc [bf root]⟩,some ⟨4,1,true,.bc [[Zi z,Zi sa,Zi sb,Zi r]]⟩,some ⟨4,1,true,.bc [[Zi 3,Zi 0,.bn,.ba 4 4 0 (x.1)]]⟩,some ⟨4,x.1,true,bA.row fun i=>It.cells (It.int (cC b (0:Int) i))⟩]) y1 x1) [1,4,6,7,9,10,11] [0,1,2,3,101] [Zi a,.own 0 6 0 0 6,.own 1 32 0 0 32,.own 2 4 0 0 4,.aH 1 6 fun i x=>Zi (cC b (0:Int) i),.own 3 4 0 0 4,Zi (IntKind.wrap IntKind.i64 ((x1.1:Int)+1))] [some ⟨6,1,true,.bc [aI.cells b]⟩,some ⟨32,1,true,.bc [bf root]⟩,some ⟨4,1,true,.bc [[Zi z,Zi sa,Zi sb,Zi r]]⟩,some ⟨4,1,true,.bc [[Zi 3,Zi 0,.bn,.ba 4 4 0 (x1.1+1)]]⟩,some ⟨4,x1.1+1,true,bA.cat x1.1 (bA.row fun i=>[Zi (It.kind (It.int (cC b (0:Int) i))),Zi (It.num (It.int (cC b (0:Int) i))),.aH 1 0 fun i_1 x=>Zb (It.fb (It.int (cC b (0:Int) i)) i_1),.aH 4 0 (It.row (It.int (cC b (0:Int) i)))]) (.bc [[Zi (It.kind (It.int (cC b (0:Int) (Int.toNat (x1.1:Int))))),Zi (It.num (It.int (cC b (0:Int) (Int.toNat (x1.1:Int))))),.aH 1 0 fun i x=>Zb (It.fb (It.int (cC b (0:Int) (Int.toNat (x1.1:Int)))) i),.aH 4 0 (It.row (It.int (cC b (0:Int) (Int.toNat (x1.1:Int)))))]])⟩])))) (.loop ({ x:Nat // x≤32 }) (fun x=>aY [1,4,6,7,10,12,13] [Zi a,.own 0 6 0 0 6,.own 1 32 0 0 32,.own 2 4 0 0 4,.own 3 4 0 0 4,.own 4 4 0 0 4,Zi x.1] [some ⟨6,1,true,.bc [aI.cells b]⟩,some ⟨32,1,true,.bc [bf root]⟩,some ⟨4,1,true,.bc [[Zi z,Zi sa,Zi sb,Zi r]]⟩,some ⟨4,1,true,.bc [[Zi 3,Zi 0,.bn,.ba 5 4 0 x1.1]]⟩,some ⟨4,1,true,.bc [[Zi 2,Zi 0,.ba 6 1 0 (x.1),.bn]]⟩,some ⟨4,x1.1,true,bA.row fun i=>[Zi (It.kind (It.int (cC b (0:Int) i))),Zi (It.num (It.int (cC b (0:Int) i))),.aH 1 0 fun i_1 x=>Zb (It.fb (It.int (cC b (0:Int) i)) i_1),.aH 4 0 (It.row (It.int (cC b (0:Int) i)))]⟩,some ⟨1,x.1,true,.fn fun i x=>Zb (root i)⟩]) y0 (⟨0,Nat.zero_le 32⟩) [1,4,6,7,10,12,13] [0,1,2,3,45,4,331] [Zi a,.own 0 6 0 0 6,.own 1 32 0 0 32,.own 2 4 0 0 4,.own 3 4 0 0 4,.own 4 4 0 0 4,Zi 0] [some ⟨6,1,true,.bc [aI.cells b]⟩,some ⟨32,1,true,.bc [bf root]⟩,some ⟨4,1,true,.bc [[Zi z,Zi sa,Zi sb,Zi r]]⟩,some ⟨4,1,true,.bc [[Zi 3,Zi 0,.bn,.ba 5 4 0 x1.1]]⟩,some ⟨4,1,true,.bc [[Zi 2,Zi 0,.bn,.bn]]⟩,some ⟨4,x1.1,true,bA.row fun i=>[Zi (It.kind (It.int (cC b (0:Int) i))),Zi (It.num (It.int (cC b (0:Int) i))),.aH 1 0 fun i_1 x=>Zb (It.fb (It.int (cC b (0:Int) i)) i_1),.aH 4 0 (It.row (It.int (cC b (0:Int) i)))]⟩,some ⟨1,0,true,.ty (999999999:TypeId) (.bc [])⟩] (fun x7=>(.br (decide ((x7.1:Int)<32)) (.bj (0≤(x7.1:Int)∧(x7.1:Int)<32) (.bj ((x7.1+1)*1≤140737488355328) (.again (bh 0 (fun x=>aY [1,4,6,7,10,12,13] [Zi a,.own 0 6 0 0 6,.own 1 32 0 0 32,.own 2 4 0 0 4,.own 3 4 0 0 4,.own 4 4 0 0 4,Zi x.1] [some ⟨6,1,true,.bc [aI.cells b]⟩,some ⟨32,1,true,.bc [bf root]⟩,some ⟨4,1,true,.bc [[Zi z,Zi sa,Zi sb,Zi r]]⟩,some ⟨4,1,true,.bc [[Zi 3,Zi 0,.bn,.ba 5 4 0 x1.1]]⟩,some ⟨4,1,true,.bc [[Zi 2,Zi 0,.ba 6 1 0 (x.1),.bn]]⟩,some ⟨4,x1.1,true,bA.row fun i=>[Zi (It.kind (It.int (cC b (0:Int) i))),Zi (It.num (It.int (cC b (0:Int) i))),.aH 1 0 fun i_1 x=>Zb (It.fb (It.int (cC b (0:Int) i)) i_1),.aH 4 0 (It.row (It.int (cC b (0:Int) i)))]⟩,some ⟨1,x.1,true,.fn fun i x=>Zb (root i)⟩]) y0 x7) [1,4,6,7,10,12,13] [0,1,2,3,4,5,71] [Zi a,.own 0 6 0 0 6,.own 1 32 0 0 32,.own 2 4 0 0 4,.own 3 4 0 0 4,.own 4 4 0 0 4,Zi (IntKind.wrap IntKind.i64 ((x7.1:Int)+1))] [some ⟨6,1,true,.bc [aI.cells b]⟩,some ⟨32,1,true,.bc [bf root]⟩,some ⟨4,1,true,.bc [[Zi z,Zi sa,Zi sb,Zi r]]⟩,some ⟨4,1,true,.bc [[Zi 3,Zi 0,.bn,.ba 5 4 0 x1.1]]⟩,some ⟨4,1,true,.bc [[Zi 2,Zi 0,.ba 6 1 0 (x7.1+1),.bn]]⟩,some ⟨4,x1.1,true,bA.row fun i=>[Zi (It.kind (It.int (cC b (0:Int) i))),Zi (It.num (It.int (cC b (0:Int) i))),.aH 1 0 fun i_1 x=>Zb (It.fb (It.int (cC b (0:Int) i)) i_1),.aH 4 0 (It.row (It.int (cC b (0:Int) i)))]⟩,some ⟨1,x7.1+1,true,.fn fun i j=>Zb (bif Nat.blt i x7.1 then root i else aE (aQ [Zb (aE (bA.at (Ob.f (Ob.seen ⟨32,1,true,.bc [bf root]⟩)) 0 (0+Int.toNat (↑(x7.1):Int))))] j))⟩]))) (.dc true 296 [Zi a] (It.av (It.int a)) (.dc true 296 [Zi z] (It.av (It.int z)) (.dc true 296 [Zi sa] (It.av (It.int sa)) (.dc true 296 [Zi sb] (It.av (It.int sb)) (.bj ((x1.1+5)*64≤140737488355328) (.dc true 206 [.agg [Zi 3,Zi 0,.bn,.aH 4 (x1.1+5) fun r k=>dh (Nat.blt (r+0) x1.1) (aQ [Zi (It.kind (It.int (cC b (0:Int) (r+0)))),Zi (It.num (It.int (cC b (0:Int) (r+0)))),.aH 1 0 fun i x=>Zb (It.fb (It.int (cC b (0:Int) (r+0))) i),.aH 4 0 (It.row (It.int (cC b (0:Int) (r+0))))] k) (aQ (List.getD [[Zi (It.kind (It.int a)),Zi (It.num (It.int a)),.aH 1 0 fun i x=>Zb (It.fb (It.int a) i),.aH 4 0 (It.row (It.int a))],[Zi 2,Zi 0,.aH 1 x7.1 fun r k=>Zb (root (r+0)),.bn],[Zi (It.kind (It.int z)),Zi (It.num (It.int z)),.aH 1 0 fun i x=>Zb (It.fb (It.int z) i),.aH 4 0 (It.row (It.int z))],[Zi (It.kind (It.int sa)),Zi (It.num (It.int sa)),.aH 1 0 fun i x=>Zb (It.fb (It.int sa) i),.aH 4 0 (It.row (It.int sa))],[Zi (It.kind (It.int sb)),Zi (It.num (It.int sb)),.aH 1 0 fun i x=>Zb (It.fb (It.int sb) i),.aH 4 0 (It.row (It.int sb))]] (r+0 - x1.1) []) k)]] (il IntKind.u8 (It.enc (kQ (qO b a root z sa sb)))) (.sc true 205 [AV.str { data := #[(115:UInt8),112,101,99,105,101,47,99,111,105,110] },.aH 1 132 fun i x=>Zb (List.getD (It.enc (kQ (qO b a root z sa sb))) i (0:Int))] (.agg (bf (et (String.toUTF8 "specie/coin") (List.length (It.enc (jI b a root z sa sb))) fun k=>List.getD (It.enc (jI b a root z sa sb)) k (0:Int)))) (.sc true 204 [.agg (bf (et (String.toUTF8 "specie/coin") 132 fun k=>List.getD (It.enc (jI b a root z sa sb)) k (0:Int))),Zi (aI.gr b).2] (Zi (cE (jm (String.toUTF8 "specie/coin") (jI b a root z sa sb)) (bN.q (aI.gr b)) 16)) (.out (Zi (cE (jm (String.toUTF8 "specie/coin") (jI b a root z sa sb)) (aI.gr b).2 16)) [] (Zi (eA b a root z sa sb)) [])))))))))))))))))
  (by kernel_rfl) ?_
 refine b9 ((xJ b)) ?_
 refine aV (fun _ hs=>hs.le (⟨.refl _,.refl _,.refl _,.refl _,.refl _,.refl _,.refl _,trivial⟩) (by repeat' (first|exact trivial|(first|exact aJ.refl _|exact aJ.bx|exact aJ.zero|exact aJ.push rfl rfl|exact aJ.ct rfl|exact aJ.len (by omega)|exact aJ.row (by repeat' (first|exact trivial|(first|exact ay.refl _|exact aK (by omega)|exact ay.nil rfl|exact ay.of_eq (congrArg (AV.ba _ _ _) (by first|omega|(dsimp only;omega)))|exact ay.of_eq (congrArg (AV.int _) (by first|omega|(dsimp only;omega))))|refine And.intro ?_ ?_)))|refine And.intro ?_ ?_))) (fun x1=>?_)
 try (have q1:=x1.2;dsimp only at q1)
 refine aL (fun h2=>?_) (fun h2=>?_)
 ·have g2:=af h2
  refine aD (by omega) ?_
  refine b9 (mn (cC b (0:Int) (toNat (↑x1.1:Int)))) ?_
  refine aD (by omega) ?_
  exact aN (⟨x1.1+1,by omega⟩) (fun _ hs=>hs.le (⟨.refl _,.refl _,.refl _,.refl _,.refl _,.refl _,aK (by omega),trivial⟩) (⟨.refl _,.refl _,.refl _,.refl _,.ct rfl,trivial⟩)) (by dsimp only;omega)
 ·have g2:=aa h2
  refine aV (fun _ hs=>hs.le (⟨.refl _,.refl _,.refl _,.refl _,.refl _,.refl _,.refl _,trivial⟩) (by repeat' (first|exact trivial|(first|exact aJ.refl _|exact aJ.bx|exact aJ.zero|exact aJ.push rfl rfl|exact aJ.ct rfl|exact aJ.len (by omega)|exact aJ.row (by repeat' (first|exact trivial|(first|exact ay.refl _|exact aK (by omega)|exact ay.nil rfl|exact ay.of_eq (congrArg (AV.ba _ _ _) (by first|omega|(dsimp only;omega)))|exact ay.of_eq (congrArg (AV.int _) (by first|omega|(dsimp only;omega))))|refine And.intro ?_ ?_)))|refine And.intro ?_ ?_))) (fun x7=>?_)
  try (have q7:=x7.2;dsimp only at q7)
  refine aL (fun h8=>?_) (fun h8=>?_)
  ·have g8:=af h8
   refine aD (by omega) ?_
   refine aD (by omega) ?_
   exact aN (⟨x7.1+1,by omega⟩) (fun _ hs=>hs.le (⟨.refl _,.refl _,.refl _,.refl _,.refl _,.refl _,aK (by omega),trivial⟩) (⟨.refl _,.refl _,.refl _,.refl _,.refl _,.refl _,AH rfl (Em (by omega)),trivial⟩)) (by dsimp only;omega)
  ·have g8:=aa h8
   refine b9 (mn (a)) ?_
   refine b9 (mn (z)) ?_
   refine b9 (mn (sa)) ?_
   refine b9 (mn (sb)) ?_
   refine aD (by omega) ?_
   refine b9 (he (x1.1+5) (fun (r k:Nat)=>dh (Nat.blt (r+0) x1.1) (aQ [Zi (It.kind (It.int (cC b (0:Int) (r+0)))),Zi (It.num (It.int (cC b (0:Int) (r+0)))),AV.aH (1) (0) fun (i x:Nat)=>Zb (It.fb (It.int (cC b (0:Int) (r+0))) i),AV.aH (4) (0) (It.row (It.int (cC b (0:Int) (r+0))))] k) (aQ (List.getD [[Zi (It.kind (It.int a)),Zi (It.num (It.int a)),AV.aH (1) (0) fun (i x:Nat)=>Zb (It.fb (It.int a) i),AV.aH (4) (0) (It.row (It.int a))],[Zi 2,Zi 0,AV.aH (1) x7.1 fun (r k:Nat)=>Zb (root (r+0)),AV.bn],[Zi (It.kind (It.int z)),Zi (It.num (It.int z)),AV.aH (1) (0) fun (i x:Nat)=>Zb (It.fb (It.int z) i),AV.aH (4) (0) (It.row (It.int z))],[Zi (It.kind (It.int sa)),Zi (It.num (It.int sa)),AV.aH (1) (0) fun (i x:Nat)=>Zb (It.fb (It.int sa) i),AV.aH (4) (0) (It.row (It.int sa))],[Zi (It.kind (It.int sb)),Zi (It.num (It.int sb)),AV.aH (1) (0) fun (i x:Nat)=>Zb (It.fb (It.int sb) i),AV.aH (4) (0) (It.row (It.int sb))]] (r+0 - x1.1) []) k)) (by (show _=11;omega)) (by exact fun i k hi _=>C0 (by omega) (by omega) hi)) ?_
   refine aM (ht) ?_
   refine aM (hn) ?_
   exact aq (ay.of_eq rfl)
theorem IP (b:aI) (k0 k1 k2 a:Int) (root:Nat→Int) (z sa sb r:Int) (hw:b.gr.W) (hr:cS root 32) :
  Pure Tryz.prog aZ 232 [b.av,.agg [.int .i64 k0,.int .i64 k1,.int .i64 k2],.int .i64 a,.agg (bf root),.agg [.int .i64 z,.int .i64 sa,.int .i64 sb,.int .i64 r]] (.bool (kj b k0 k1 k2 a root z sa sb r)):=by
 have hv:=pd b k0 k1 k2 hw
 have hm:=iY b a hw
 have hs:=yc b r
 have hc:=L3 b a root z sa sb r hw hr
 have K:(df b k0 k1 k2=true∧bV b.gr a=true)∧0≤r∧r<b.gr.q→lZ b a z sa sb=0∧¬iM b a root z sa sb=0→uc b k0 a z sa sb r (iM b a root z sa sb):=fun u v=>Ha root u.1.1 u.1.2 v.1 u.2
 refine ar (own:=bq) Tryz.func232 (by kernel_rfl) mixed (by kernel_rfl)
  (let y0:AV:=(.bool (kj b k0 k1 k2 a root z sa sb r));(.sc true 151 [.agg (aI.cells b),.agg [Zi k0,Zi k1,Zi k2]] (.bool (df b k0 k1 k2)) (.sc ((!df b k0 k1 k2)==false) 224 [.agg (aI.cells b),Zi a] (.bool (bV (aI.gr b) a)) (.sc ((!df b k0 k1 k2 || !bV b.1 a)==false) 230 [.agg (aI.cells b),Zi r] (.bool (decide (r≥0)&&decide (r<bN.q (aI.gr b)))) (.br (!df b k0 k1 k2 || !bV b.1 a || !(decide (r≥0)&&decide (r<(aI.gr b).2))) (.out (.bool false) [] y0 []) (.sc true 275 [.agg (aI.cells b),Zi a,.agg (bf root),.agg [Zi z,Zi sa,Zi sb,Zi r]] (ql b a root z sa sb) (.br (lZ b a z sa sb != 0||iM b a root z sa sb==0) (.out (.bool false) [] y0 []) (.sc true 147 [.agg (aI.cells b),Zi (aI.gr b).3,Zi r] (Zi ((aI.gr b).3^toNat r%bN.p (aI.gr b))) (.sc true 231 [.agg (aI.cells b),Zi k0,Zi (iM b a root z sa sb),Zi sa,Zi 1] (Zi (k0^toNat (iM b a root z sa sb)%bN.p (aI.gr b)*sa%bN.p (aI.gr b))) (.sc (((aI.gr b).3^toNat r%(aI.gr b).1==k0^toNat (iM b a root z sa sb)%(aI.gr b).1*sa%(aI.gr b).1)==true) 147 [.agg (aI.cells b),Zi a,Zi r] (Zi (a^toNat r%bN.p (aI.gr b))) (.sc (((aI.gr b).3^toNat r%(aI.gr b).1==k0^toNat (iM b a root z sa sb)%(aI.gr b).1*sa%(aI.gr b).1)==true) 231 [.agg (aI.cells b),Zi z,Zi (iM b a root z sa sb),Zi sb,Zi 1] (Zi (z^toNat (iM b a root z sa sb)%bN.p (aI.gr b)*sb%bN.p (aI.gr b))) (.out (.bool ((aI.gr b).3^toNat r%(aI.gr b).1==k0^toNat (iM b a root z sa sb)%(aI.gr b).1*sa%(aI.gr b).1&&a^toNat r%(aI.gr b).1==z^toNat (iM b a root z sa sb)%(aI.gr b).1*sb%(aI.gr b).1)) [] y0 []))))))))))))
  (by kernel_rfl) ?_
 refine aM (hv) ?_
 refine aW (fun h1=>hm) ?_
 refine aW (fun h2=>hs) ?_
 refine aL (fun h3=>?_) (fun h3=>?_)
 ·have g3:=(aA (aA (aC aF) (aC aF)) (aC (ao aa aa))) h3
  exact aq (ay.of_eq (congrArg _ (by rcases g3 with (h|h)|h;(· exact (ow (.inl h)).symm);(· exact (ow (.inr (.inl h))).symm);(· exact (ow (.inr (.inr (.inr (IE h))))).symm))))
 ·have g3:=(aw (aw (az aB) (az aB)) (az (ah af af))) h3
  refine aM (hc) ?_
  refine aL (fun h6=>?_) (fun h6=>?_)
  ·have g6:=(aA aU ai) h6
   exact aq (ay.of_eq (congrArg _ (LZ g3.1.1 g3.1.2 g6).symm))
  ·have g6:=(aw aR aj) h6
   refine aM ((lY b) ((aI.gr b).3) (r) (by cases K g3 g6;assumption) (by cases K g3 g6;assumption) (by cases K g3 g6;assumption)) ?_
   refine aM ((oE b) (k0) (iM b a root z sa sb) (sa) (by cases K g3 g6;assumption) (by cases K g3 g6;assumption) (by cases K g3 g6;assumption) (by cases K g3 g6;assumption)) ?_
   refine aW (fun h10=>(lY b) (a) (r) (by cases K g3 g6;assumption) (by cases K g3 g6;assumption) (by cases K g3 g6;assumption)) ?_
   refine aW (fun h11=>(oE b) (z) (iM b a root z sa sb) (sb) (by cases K g3 g6;assumption) (by cases K g3 g6;assumption) (by cases K g3 g6;assumption) (by cases K g3 g6;assumption)) ?_
   exact aq (ay.of_eq (congrArg _ (Nc g3.1.1 g3.1.2 g3.2 g6.1 g6.2).symm))
theorem FA (b:aI) (k0 k1 k2 a:Int) (root:Nat→Int) (z sa sb r:Int) (hw:b.gr.W) (hr:cS root 32) :
  Pure Tryz.prog aZ 199 [b.av,.agg [.int .i64 k0,.int .i64 k1,.int .i64 k2],.int .i64 a,.agg (bf root),.agg [.int .i64 z,.int .i64 sa,.int .i64 sb,.int .i64 r]] (.bool (kj b k0 k1 k2 a root z sa sb r)):=by
 have hv:=xh b k0 k1 k2 hw
 have hm:=pF b.gr a
 have he:=Ee b.gr z sa sb r
 have hs:=vi b.gr r
 have hc:=I1 b a root z sa sb r hr
 have K:((df b k0 k1 k2=true∧bV b.gr a=true)∧dS b.gr z sa sb=true)∧0≤r∧r<b.gr.q→uc b k0 a z sa sb r (eA b a root z sa sb):=fun u=>BK root u.1.1.1 u.1.1.2 u.1.2 u.2
 refine ar (own:=bq) Tryz.func199 (by kernel_rfl) mixed (by kernel_rfl)
  (let y0:List AV:=[Zi (aI.gr b).1,Zi (aI.gr b).2,Zi (aI.gr b).3];let y1:AV:=(.bool (kj b k0 k1 k2 a root z sa sb r));(.sc true 187 [.agg (aI.cells b),.agg [Zi k0,Zi k1,Zi k2]] (.bool (df b k0 k1 k2)) (.sc ((!df b k0 k1 k2)==false) 249 [.agg y0,Zi a] (.bool (bV (aI.gr b) a)) (.sc ((!df b k0 k1 k2 || !bV b.1 a)==false) 254 [.agg y0,.agg [Zi z,Zi sa,Zi sb,Zi r]] (.bool (dS (aI.gr b) z sa sb)) (.sc ((!df b k0 k1 k2 || !bV b.1 a || !dS b.1 z sa sb)==false) 195 [.agg y0,Zi r] (.bool (decide (r≥0)&&decide (r<bN.q (aI.gr b)))) (.br (!df b k0 k1 k2 || !bV b.1 a || !dS b.1 z sa sb || !(decide (r≥0)&&decide (r<(aI.gr b).2))) (.out (.bool false) [] y1 []) (.sc true 255 [.agg (aI.cells b),Zi a,.agg (bf root),.agg [Zi z,Zi sa,Zi sb,Zi r]] (Zi (eA b a root z sa sb)) (.sc ((eA b a root z sa sb != 0)==true) 191 [.agg y0,Zi (aI.gr b).3,Zi r] (Zi ((aI.gr b).3^toNat r%bN.p (aI.gr b))) (.sc ((eA b a root z sa sb != 0)==true) 191 [.agg y0,Zi k0,Zi (eA b a root z sa sb)] (Zi (k0^toNat (eA b a root z sa sb)%bN.p (aI.gr b))) (.sc ((eA b a root z sa sb != 0)==true) 253 [.agg y0,Zi (k0^toNat (eA b a root z sa sb)%(aI.gr b).1),Zi sa] (Zi (k0^toNat (eA b a root z sa sb)%(aI.gr b).1*sa%bN.p (aI.gr b))) (.sc ((eA b a root z sa sb != 0&&(aI.gr b).3^toNat r%(aI.gr b).1==k0^toNat (eA b a root z sa sb)%(aI.gr b).1*sa%(aI.gr b).1)==true) 191 [.agg y0,Zi a,Zi r] (Zi (a^toNat r%bN.p (aI.gr b))) (.sc ((eA b a root z sa sb != 0&&(aI.gr b).3^toNat r%(aI.gr b).1==k0^toNat (eA b a root z sa sb)%(aI.gr b).1*sa%(aI.gr b).1)==true) 191 [.agg y0,Zi z,Zi (eA b a root z sa sb)] (Zi (z^toNat (eA b a root z sa sb)%bN.p (aI.gr b))) (.sc ((eA b a root z sa sb != 0&&(aI.gr b).3^toNat r%(aI.gr b).1==k0^toNat (eA b a root z sa sb)%(aI.gr b).1*sa%(aI.gr b).1)==true) 253 [.agg y0,Zi (z^toNat (eA b a root z sa sb)%(aI.gr b).1),Zi sb] (Zi (z^toNat (eA b a root z sa sb)%(aI.gr b).1*sb%bN.p (aI.gr b))) (.out (.bool (eA b a root z sa sb != 0&&(aI.gr b).3^toNat r%(aI.gr b).1==k0^toNat (eA b a root z sa sb)%(aI.gr b).1*sa%(aI.gr b).1&&a^toNat r%(aI.gr b).1==z^toNat (eA b a root z sa sb)%(aI.gr b).1*sb%(aI.gr b).1)) [] y1 []))))))))))))))
  (by kernel_rfl) ?_
 refine aM (hv) ?_
 refine aW (fun h1=>hm ((iB (jG (by simpa using h1)).1))) ?_
 refine aW (fun h2=>he ((iB (jG (by simp at h2;exact h2.1)).1))) ?_
 refine aW (fun h3=>hs) ?_
 refine aL (fun h4=>?_) (fun h4=>?_)
 ·have g4:=(aA (aA (aA (aC aF) (aC aF)) (aC aF)) (aC (ao aa aa))) h4
  exact aq (ay.of_eq (congrArg _ (by rcases g4 with ((h|h)|h)|h;(· exact (ow (.inl h)).symm);(· exact (ow (.inr (.inl h))).symm);(· exact (ow (.inr (.inr (.inl h)))).symm);(· exact (ow (.inr (.inr (.inr (IE h))))).symm))))
 ·have g4:=(aw (aw (aw (az aB) (az aB)) (az aB)) (az (ah af af))) h4
  refine aM (hc (by (have:=(K g4).ok;exact (fN (jG g4.1.1.1).1).1)) (by exact (fN (jG g4.1.1.1).1).2)) ?_
  refine aW (fun h7=>(iz (aI.gr b)) ((aI.gr b).3) (r) (by (cases K g4;assumption)) (by (cases K g4;assumption)) (by (cases K g4;assumption))) ?_
  refine aW (fun h8=>(iz (aI.gr b)) (k0) (eA b a root z sa sb) (by (cases K g4;assumption)) (by (cases K g4;assumption)) (by (cases K g4;assumption))) ?_
  refine aW (fun h9=>(oF (aI.gr b)) (k0^toNat (eA b a root z sa sb)%(aI.gr b).1) (sa) (by (cases K g4;assumption)) (by exact bR (K g4).ok _) (by (cases K g4;assumption))) ?_
  refine aW (fun h10=>(iz (aI.gr b)) (a) (r) (by (cases K g4;assumption)) (by (cases K g4;assumption)) (by (cases K g4;assumption))) ?_
  refine aW (fun h11=>(iz (aI.gr b)) (z) (eA b a root z sa sb) (by (cases K g4;assumption)) (by (cases K g4;assumption)) (by (cases K g4;assumption))) ?_
  refine aW (fun h12=>(oF (aI.gr b)) (z^toNat (eA b a root z sa sb)%(aI.gr b).1) (sb) (by (cases K g4;assumption)) (by exact bR (K g4).ok _) (by (cases K g4;assumption))) ?_
  exact aq (ay.of_eq (congrArg _ ((Bool.and_assoc _ _ _).trans (NO g4.1.1.1 g4.1.1.2 g4.1.2 g4.2).symm)))
theorem I8 (b:aI) (r:fZ) (c:bD) (hw:b.gr.W) (hr:cS c.root 32):Pure Tryz.prog aZ 170 [b.av,r.av,c.av] (.bool (eY b r c)):=by
 have hv:=wW b r hw
 have hs:=IP b r.h r.h1 r.h2 c.a c.root c.z c.sa c.sb c.r hw hr
 refine ar (own:=bq) Tryz.func170 (by kernel_rfl) mixed (by kernel_rfl)
  (.sc true 84 [.agg (aI.cells b),.agg (fZ.cells r)] (.bool (dV b r)) (.sc ((dV b r&&c.1==r.1&&c.2==r.2&&c.3==r.3&&c.4==r.5)==true) 232 [.agg (aI.cells b),.agg [Zi r.6,Zi r.7,Zi r.8],Zi c.5,.agg (bf c.6),.agg [Zi c.7,Zi c.8,Zi c.9,Zi c.10]] (.bool (kj b (fZ.h r) (fZ.h1 r) (fZ.h2 r) (bD.a c) (bD.root c) (bD.z c) (bD.sa c) (bD.sb c) (bD.r c))) (.out (.bool (dV b r&&c.1==r.1&&c.2==r.2&&c.3==r.3&&c.4==r.5&&kj b r.6 r.7 r.8 c.5 c.6 c.7 c.8 c.9 c.10)) [] (.bool (eY b r c)) [])))
  (by kernel_rfl) ?_
 refine aM (hv) ?_
 refine aW (fun h1=>hs) ?_
 exact aq (ay.refl _)
theorem Gl (b:aI) (r:fZ) (c:bD) (hw:b.gr.W) (hr:cS c.root 32):Pure Tryz.prog aZ 124 [b.av,r.av,c.av] (.bool (eY b r c)):=by
 have hv:=tI b r hw
 have hs:=FA b r.h r.h1 r.h2 c.a c.root c.z c.sa c.sb c.r hw hr
 refine ar (own:=bq) Tryz.func124 (by kernel_rfl) mixed (by kernel_rfl)
  (.sc true 111 [.agg (aI.cells b),.agg (fZ.cells r)] (.bool (dV b r)) (.sc ((dV b r&&c.1==r.1&&c.2==r.2&&c.3==r.3&&c.4==r.5)==true) 199 [.agg (aI.cells b),.agg [Zi r.6,Zi r.7,Zi r.8],Zi c.5,.agg (bf c.6),.agg [Zi c.7,Zi c.8,Zi c.9,Zi c.10]] (.bool (kj b (fZ.h r) (fZ.h1 r) (fZ.h2 r) (bD.a c) (bD.root c) (bD.z c) (bD.sa c) (bD.sb c) (bD.r c))) (.out (.bool (dV b r&&c.1==r.1&&c.2==r.2&&c.3==r.3&&c.4==r.5&&kj b r.6 r.7 r.8 c.5 c.6 c.7 c.8 c.9 c.10)) [] (.bool (eY b r c)) [])))
  (by kernel_rfl) ?_
 refine aM (hv) ?_
 refine aW (fun h1=>hs) ?_
 exact aq (ay.refl _)
theorem Lp (F:FuncId) (m:Nat) (g:Nat→AV) (f:Nat→Int) (n:Nat) (p:Nat→Bool) (hn:n≤1000) (hc:∀ i,i<n→Pure Tryz.prog aZ F [.int .i64 (f i),.bJ m g] (.bool (p i))):Pure Tryz.prog aZ 316 [.aH 1 n (fun i _=>.int .i64 (f i)),.fn (.func F) [] [.bJ m g]] (.int .i64 (aG p n 0)):=by
 refine ar (own:=bq) Tryz.func316 (by kernel_rfl) mixed (by kernel_rfl)
  (let y0:=(fun (x:{ x:Nat // x≤n∧(fun i=>aG p n 0=aG p (n - i) i) x })=>aY [0,1,7,8] [.aH 1 n fun i x=>Zi (f i),AV.fn (Fn.func F) [] [AV.bJ m g],Zi n,Zi x.1] []);let y1:=(fun (x:{ x:Nat // x≤n∧(fun i=>aG p n 0=aG p (n - i) i) x })=>n - x.1);(.loop ({ x:Nat // x≤n∧(fun i=>aG p n 0=aG p (n - i) i) x }) y0 y1 (⟨0,⟨Nat.zero_le n,rfl⟩⟩) [0,1,7,8] [] [.aH 1 n fun i x=>Zi (f i),AV.fn (Fn.func F) [] [AV.bJ m g],Zi n,Zi 0] [] (fun x0=>(.br (decide ((x0.1:Int)<(n:Int))) (.bj (0≤(x0.1:Int)∧(x0.1:Int)<(n:Int)) (.sc true F [Zi (f (toNat (x0.1:Int))),AV.bJ m g] (.bool (p (toNat (x0.1:Int)))) (.br (p (toNat (x0.1:Int))) (.out (Zi x0.1) [] (Zi (aG p n 0)) []) (.again (bh 0 y0 y1 x0) [0,1,7,8] [] [.aH 1 n fun i x=>Zi (f i),AV.fn (Fn.func F) [] [AV.bJ m g],Zi n,Zi (wrap .i64 ((x0.1:Int)+1))] [])))) (.out (Zi (-1)) [] (Zi (aG p n 0)) [])))))
  (by kernel_rfl) ?_
 refine aV (fun _ hs=>hs.le (⟨.refl _,.refl _,.refl _,.refl _,trivial⟩) (trivial)) (fun x0=>?_)
 try (have q0:=x0.2;dsimp only at q0)
 refine aL (fun h1=>?_) (fun h1=>?_)
 ·have g1:=af h1
  refine aD (by omega) ?_
  refine aM (hc (toNat (↑x0.1:Int)) (by omega)) ?_
  refine aL (fun h4=>?_) (fun h4=>?_)
  ·have g4:=aB h4
   try simp only [Int.toNat_natCast] at g4
   exact aq (ay.of_eq (congrArg _ (cr x0.2.2 (by omega) h4)))
  ·have g4:=aF h4
   try simp only [Int.toNat_natCast] at g4
   exact aN (⟨x0.1+1,by omega,bS x0.2.2 (by omega) h4⟩) (fun _ hs=>hs.le (⟨.refl _,.refl _,.refl _,aK (by omega),trivial⟩) (trivial)) (by dsimp only;omega)
 ·have g1:=aa h1
  exact aq (ay.of_eq (congrArg _ (bW x0.2.2 (by omega))))
theorem xk (F:FuncId) (m:Nat) (g:Nat→AV) (f:Nat→Int) (n:Nat) (p:Nat→Bool) (hn:n≤1000) (hc:∀ i,i<n→Pure Tryz.prog aZ F [.int .i64 (f i),.bJ m g] (.bool (p i))):Pure Tryz.prog aZ 282 [.aH 1 n (fun i _=>.int .i64 (f i)),.fn (.func F) [] [.bJ m g]] (.bool (decide (aG p n 0≥0))):=by
 have c1:=Lp F m g f n p hn hc
 refine ar (own:=bq) Tryz.func282 (by kernel_rfl) mixed (by kernel_rfl)
  (let y0:AV:=(.bool (decide (aG p n 0≥0)));(.sc true 316 [.aH 1 n fun i x=>Zi (f i),AV.fn (Fn.func F) [] [AV.bJ m g]] (Zi (aG p n 0)) (.out y0 [] y0 [])))
  (by kernel_rfl) ?_
 refine aM (c1) ?_
 exact aq (ay.refl _)
theorem zn (n:Int) (i:Nat) (hi:i<6):Pure Tryz.prog aZ 283 [.int .i64 i,.bJ 1 (aQ [.int .i64 n])] (.bool (n==(2^i:Nat))):=by
 have hs:=shw (x:=i) (by omega)
 refine ar (own:=bq) Tryz.func283 (by kernel_rfl) mixed (by kernel_rfl)
  (.bj (0≤(i:Int)) (.out (.bool (n==wrap .i64 ((1:Int)*2^min (toNat (i:Int)) 64))) [] (.bool (n==(↑(2^i):Int))) []))
  (by kernel_rfl) ?_
 refine aD (by omega) ?_
 exact aq (ay.of_eq (by simp_all))
theorem AK (n:Int):Pure Tryz.prog aZ 282 [.aH 1 6 (fun r k=>aQ (List.getD [[.int .i64 0],[.int .i64 1],[.int .i64 2],[.int .i64 3],[.int .i64 4],[.int .i64 5]] r []) k),.fn (.func 283) [] [.bJ 1 (aQ [.int .i64 n])]] (.bool (AT n)) :=
 (xk 283 1 (aQ [.int .i64 n]) (fun i=>(i:Int)) 6 (fun i=>n==(2^i:Nat)) (by decide) (fun i hi=>zn n i hi)).via
  ⟨ay.aH fun i j hi hj=>by obtain rfl:j=0:=Nat.lt_one_iff.1 hj;match i,hi with|0,_|1,_|2,_|3,_|4,_|5,_=>rfl,ay.refl _,trivial⟩
theorem AZ (n:Int):Pure Tryz.prog aZ 241 [.int .i64 n] (.bool (AT n)):=by
 have h:=AK n
 refine ar (own:=bq) Tryz.func241 (by kernel_rfl) mixed (by kernel_rfl)
  (.sc true 282 [.aH 1 6 fun r k=>aQ (List.getD [[Zi 0],[Zi 1],[Zi 2],[Zi 3],[Zi 4],[Zi 5]] (r+0) []) k,AV.fn (Fn.func 283) [] [AV.bJ 1 fun k=>aQ [Zi n] k]] (.bool (AT n)) (.out (.bool (AT n)) [] (.bool (AT n)) []))
  (by kernel_rfl) ?_
 refine aM (h) ?_
 exact aq (ay.refl _)
theorem Js (x:Int):Pure Tryz.prog aZ 233 [.agg [.int .i64 1,.int .i64 x,.bn,.bn]] (.aX [il .u8 (It.int x).enc,.int .i64 0]) :=
 (mC (.int x) rfl (by rw [iv];decide)).via ⟨ay.agg ⟨ay.refl _,ay.refl _,ay.bn,ay.bn,trivial⟩,trivial⟩
theorem GN (x:Int):Pure Tryz.prog aZ 206 [.agg [.int .i64 1,.int .i64 x,.bn,.bn]] (il .u8 (It.int x).enc) :=
 (l5 (.int x) (by rw [iv];decide)).via ⟨ay.agg ⟨ay.refl _,ay.refl _,ay.bn,ay.bn,trivial⟩,trivial⟩
theorem GD (b:aI) (N:Nat) (hN:N≤32) (hl:AT N=true) (f:Nat→Int) (hw:b.gr.W) (hv:aT b=true) (hf:∀ i,i<N→aO b.gr (f i)=true):Pure Tryz.prog aZ 176 [b.av,.aH 1 N fun i _=>.int .i64 (f i)] (.aX [dD N fun i=>fS (f i),.int .i64 0]):=by
 have ht:=fun x:Int=>GL (It.int x).enc.length (fun i=>(It.int x).enc.getD i 0) (by rw [iv];decide) (It.ib (x:=.int x) trivial)
 refine ar (own:=bq) Tryz.func176 (by kernel_rfl) mixed (by kernel_rfl)
  (let y0:=(fun (x:{ x:Nat // x≤N })=>aY [2,22,23,6,24] [.own 0 6 0 0 6,.aH 1 N fun i x=>Zi (f i),Zi N,.ba 1 32 0 (x.1),Zi x.1] [some ⟨6,1,true,.bc [aI.cells b]⟩,some ⟨32,x.1,true,bA.row fun i=>bf (fS (f i))⟩]);let y1:AV:=(.aX [dD N fun i=>fS (f i),Zi 0]);let y2:=(fun (x:{ x:Nat // x≤N })=>N - x.1);(.sc true 31 [.agg (aI.cells b)] (.bool (aT b)) (.sc ((!aT b)==false) 241 [Zi N] (.bool (AT (N:Int))) (.br (!aT b || !AT (N:Int)) (.out (.aX [.bn,Zi 1]) [] y1 []) (.loop ({ x:Nat // x≤N }) y0 y2 (⟨0,Nat.zero_le N⟩) [2,22,23,6,24] [0,8321] [.own 0 6 0 0 6,.aH 1 N fun i x=>Zi (f i),Zi N,.bn,Zi 0] [some ⟨6,1,true,.bc [aI.cells b]⟩,some ⟨32,0,true,.ty (999999999:TypeId) (.bc [])⟩] (fun x4=>(.br (decide ((x4.1:Int)<(N:Int))) (.bj (0≤(x4.1:Int)∧(x4.1:Int)<(N:Int)) (.sc true 81 [.agg [Zi (aI.gr b).1,Zi (aI.gr b).2,Zi (aI.gr b).3],Zi (f (Int.toNat (x4.1:Int)))] (.bool (bo (aI.gr b)&&aO (aI.gr b) (f (Int.toNat (x4.1:Int))))) (.br (!(bo b.1&&aO b.1 (f (Int.toNat (x4.1:Int))))) (.out (.aX [.bn,Zi 2]) [] y1 []) (.dc true 233 [.agg [Zi 1,Zi (f (Int.toNat (x4.1:Int))),.bn,.bn]] (.aX [il IntKind.u8 (It.enc (It.int (f (Int.toNat (x4.1:Int))))),Zi 0]) (.sc true 242 [.aH 1 9 fun i x=>Zb (List.getD (It.enc (It.int (f (Int.toNat (x4.1:Int))))) i (0:Int))] (.aX [.agg (bf (et (String.toUTF8 "specie/leaf") (List.length (It.enc (It.int (f (Int.toNat (x4.1:Int)))))) fun i=>List.getD (It.enc (It.int (f (Int.toNat (x4.1:Int))))) i (0:Int))),Zi 0]) (.bj ((x4.1+1)*32≤140737488355328) (.again (bh 0 y0 y2 x4) [2,22,23,6,24] [0,226] [.own 0 6 0 0 6,.aH 1 N fun i x=>Zi (f i),Zi N,.ba 1 32 0 (x4.1+1),Zi (IntKind.wrap IntKind.i64 ((x4.1:Int)+1))] [some ⟨6,1,true,.bc [aI.cells b]⟩,some ⟨32,x4.1+1,true,bA.cat x4.1 (bA.row fun i=>bf (fS (f i))) (.bc [bf (et (String.toUTF8 "specie/leaf") (List.length (It.enc (It.int (f (Int.toNat (x4.1:Int)))))) fun i=>List.getD (It.enc (It.int (f (Int.toNat (x4.1:Int))))) i (0:Int))])⟩]))))))) (.out (.aX [.aH 32 x4.1 fun r k=>aQ (bf (fS (f (r+0)))) k,Zi 0]) [] y1 []))))))))
  (by kernel_rfl) ?_
 refine aM ((eF b) (by assumption)) ?_
 refine aW (fun h1=>AZ ((↑N:Int))) ?_
 refine aL (fun h2=>?_) (fun h2=>?_)
 ·have g2:=(aA (aC aF) (aC aF)) h2
  exact aq (by exfalso;rcases g2 with g|g;(· rw [hv] at g;cases g);(· rw [hl] at g;cases g))
 ·have g2:=(aw (az aB) (az aB)) h2
  refine aV (fun _ hs=>hs.le (by repeat' (first|exact trivial|(first|exact ay.refl _|exact aK (by omega)|exact ay.nil rfl|exact ay.of_eq (congrArg (AV.ba _ _ _) (by first|omega|(dsimp only;omega)))|exact ay.of_eq (congrArg (AV.int _) (by first|omega|(dsimp only;omega))))|refine And.intro ?_ ?_)) (by exact ⟨aJ.refl _,aJ.zero,trivial⟩)) (fun x4=>?_)
  try (have q4:=x4.2;dsimp only at q4)
  refine aL (fun h5=>?_) (fun h5=>?_)
  ·have g5:=af h5
   refine aD (by omega) ?_
   refine aM ((en (aI.gr b)) (f (toNat (↑x4.1:Int))) (by assumption)) ?_
   refine aL (fun h8=>?_) (fun h8=>?_)
   ·have g8:=(aC (ao aF aF)) h8
    try simp only [Int.toNat_natCast] at g8
    exact aq (by exfalso;rcases g8 with g|g;(· rw [bp.2 (iB hv)] at g;cases g);(· rw [hf _ (by omega)] at g;cases g))
   ·have g8:=(az (ah aB aB)) h8
    try simp only [Int.toNat_natCast] at g8
    refine b9 (Js (f (toNat (↑x4.1:Int)))) ?_
    refine aM (ht (f (toNat (↑x4.1:Int)))) ?_
    refine aD (by omega) ?_
    exact aN (⟨x4.1+1,by omega⟩) (fun _ hs=>hs.le (by repeat' (first|exact trivial|(first|exact ay.refl _|exact aK (by omega)|exact ay.nil rfl|exact ay.of_eq (congrArg (AV.ba _ _ _) (by first|omega|(dsimp only;omega)))|exact ay.of_eq (congrArg (AV.int _) (by first|omega|(dsimp only;omega))))|refine And.intro ?_ ?_)) (by exact ⟨aJ.refl _,aJ.pS rfl (fun _ _=>cV.refl _) (cV.refl _),trivial⟩)) (by (dsimp only;omega))
  ·have g5:=aa h5
   exact aq (BE (yS (by omega)))
theorem G8 (n:Nat) (hn:n≤1000) (f:Nat→Int):Pure Tryz.prog aZ 132 [.aH 1 n fun i _=>.int .i64 (f i)] (dD n fun i=>fS (f i)):=by
 have ht:=fun x:Int=>DT (It.int x).enc.length (fun i=>(It.int x).enc.getD i 0) (by rw [iv];decide) (It.ib (x:=.int x) trivial)
 refine ar (own:=bq) Tryz.func132 (by kernel_rfl) mixed (by kernel_rfl)
  (let y0:=(fun (x:{ x:Nat // x≤n })=>aY [0,3,4] [.aH 1 n fun i x=>Zi (f i),.ba 0 32 0 (x.1),Zi x.1] [some ⟨32,x.1,true,bA.row fun i=>bf (fS (f i))⟩]);let y1:=(fun (x:{ x:Nat // x≤n })=>n - x.1);(.loop ({ x:Nat // x≤n }) y0 y1 (⟨0,Nat.zero_le n⟩) [0,3,4] [8216] [.aH 1 n fun i x=>Zi (f i),.bn,Zi 0] [some ⟨32,0,true,.ty (999999999:TypeId) (.bc [])⟩] (fun x0=>(.br (decide ((x0.1:Int)<(n:Int))) (.bj (0≤(x0.1:Int)∧(x0.1:Int)<(n:Int)) (.dc true 206 [.agg [Zi 1,Zi (f (Int.toNat (x0.1:Int))),.bn,.bn]] (il IntKind.u8 (It.enc (It.int (f (Int.toNat (x0.1:Int)))))) (.sc true 212 [.aH 1 9 fun i x=>Zb (List.getD (It.enc (It.int (f (Int.toNat (x0.1:Int))))) i (0:Int))] (.agg (bf (et (String.toUTF8 "specie/leaf") (List.length (It.enc (It.int (f (Int.toNat (x0.1:Int)))))) fun i=>List.getD (It.enc (It.int (f (Int.toNat (x0.1:Int))))) i (0:Int)))) (.bj ((x0.1+1)*32≤140737488355328) (.again (bh 0 y0 y1 x0) [0,3,4] [105] [.aH 1 n fun i x=>Zi (f i),.ba 0 32 0 (x0.1+1),Zi (IntKind.wrap IntKind.i64 ((x0.1:Int)+1))] [some ⟨32,x0.1+1,true,bA.cat x0.1 (bA.row fun i=>bf (fS (f i))) (.bc [bf (et (String.toUTF8 "specie/leaf") (List.length (It.enc (It.int (f (Int.toNat (x0.1:Int)))))) fun i=>List.getD (It.enc (It.int (f (Int.toNat (x0.1:Int))))) i (0:Int))])⟩]))))) (.out (.aH 32 x0.1 fun r k=>aQ (bf (fS (f (r+0)))) k) [] (dD n fun i=>fS (f i)) [])))))
  (by kernel_rfl) ?_
 refine aV (fun _ hs=>hs.le (by repeat' (first|exact trivial|(first|exact ay.refl _|exact aK (by omega)|exact ay.nil rfl|exact ay.of_eq (congrArg (AV.ba _ _ _) (by first|omega|(dsimp only;omega)))|exact ay.of_eq (congrArg (AV.int _) (by first|omega|(dsimp only;omega))))|refine And.intro ?_ ?_)) (by exact ⟨aJ.zero,trivial⟩)) (fun x0=>?_)
 try (have q0:=x0.2;dsimp only at q0)
 refine aL (fun h1=>?_) (fun h1=>?_)
 ·have g1:=af h1
  refine aD (by omega) ?_
  refine b9 (GN (f (toNat (↑x0.1:Int)))) ?_
  refine aM (ht (f (toNat (↑x0.1:Int)))) ?_
  refine aD (by omega) ?_
  exact aN (⟨x0.1+1,by omega⟩) (fun _ hs=>hs.le (by repeat' (first|exact trivial|(first|exact ay.refl _|exact aK (by omega)|exact ay.nil rfl|exact ay.of_eq (congrArg (AV.ba _ _ _) (by first|omega|(dsimp only;omega)))|exact ay.of_eq (congrArg (AV.int _) (by first|omega|(dsimp only;omega))))|refine And.intro ?_ ?_)) (by exact ⟨aJ.pS rfl (fun _ _=>cV.refl _) (cV.refl _),trivial⟩)) (by (dsimp only;omega))
 ·have g1:=aa h1
  exact aq (yS (by omega))
theorem Kb (G:bN) (x:Int) (h:G.Ok) (hw:G.W):Pure Tryz.prog aZ 338 [.int .i64 x,.bJ 3 (aQ G.cells)] (.bool (!aO G x)):=by
 have hg:=bp.2 h
 refine ar (own:=bq) Tryz.func338 (by kernel_rfl) mixed (by kernel_rfl)
  (.sc true 81 [.agg [Zi G.1,Zi G.2,Zi G.3],Zi x] (.bool (bo G&&aO G x)) (.out (.bool !(bo G&&aO G x)) [] (.bool !aO G x) []))
  (by kernel_rfl) ?_
 refine aM ((en G) (x) (by assumption)) ?_
 exact aq (ay.of_eq (congrArg _ (by rw [hg,Bool.true_and])))
theorem Ku (G:bN) (x:Int):Pure Tryz.prog aZ 339 [.int .i64 x,.bJ 3 (aQ G.cells)] (.bool (decide (x<0)||decide (x≥G.q))):=by
 refine ar (own:=bq) Tryz.func339 (by kernel_rfl) mixed (by kernel_rfl)
  (.out (.bool (decide (x<0)||decide (x≥G.2))) [] (.bool (decide (x<0)||decide (x≥bN.q G))) [])
  (by kernel_rfl) ?_
 exact aq (ay.refl _)
theorem L8 (G:bN) (n:Nat) (f:Nat→Int) (hn:n≤1000) (h:G.Ok) (hw:G.W) (hf:∀ i,i<n→aO G (f i)=true):Pure Tryz.prog aZ 313 [G.av,.aH 1 n fun i _=>.int .i64 (f i)] (.bool true):=by
 have c1:=xk 338 3 (aQ G.cells) f n (fun i => !aO G (f i)) hn (fun i _=>Kb G (f i) h hw)
 have e:=Lc (p:=fun i => !aO G (f i)) (n:=n) (fun i hi=>by rw [hf i hi];rfl)
 refine ar (own:=bq) Tryz.func313 (by kernel_rfl) mixed (by kernel_rfl)
  (.sc true 282 [.aH 1 n fun i x=>Zi (f i),AV.fn (Fn.func 338) [] [AV.bJ 3 fun k=>aQ [Zi G.1,Zi G.2,Zi G.3] k]] (.bool (decide (aG (fun i => !aO G (f i)) n 0≥0))) (.out (.bool !decide (aG (fun i => !aO G (f i)) n 0≥0)) [] (.bool true) []))
  (by kernel_rfl) ?_
 refine aM (c1) ?_
 exact aq (ay.of_eq (congrArg _ (by rw [e];rfl)))
theorem LG (G:bN) (a c:Int):Pure Tryz.prog aZ 314 [G.av,.aH 1 2 fun i _=>.int .i64 (fJ a c i)] (.bool (bL G a&&bL G c)):=by
 have c1:=xk 339 3 (aQ G.cells) (fJ a c) 2 (fun i=>decide (fJ a c i<0)||decide (fJ a c i≥G.q)) (by decide) (fun i _=>Ku G (fJ a c i))
 have e:=Nk (p:=fun i=>decide (fJ a c i<0)||decide (fJ a c i≥G.q))
 refine ar (own:=bq) Tryz.func314 (by kernel_rfl) mixed (by kernel_rfl)
  (.sc true 282 [.aH 1 2 fun i x=>Zi (fJ a c i),AV.fn (Fn.func 339) [] [AV.bJ 3 fun k=>aQ [Zi G.1,Zi G.2,Zi G.3] k]] (.bool (decide (aG (fun i=>decide (fJ a c i<0)||decide (fJ a c i≥bN.q G)) 2 0≥0))) (.out (.bool !decide (aG (fun i=>decide (fJ a c i<0)||decide (fJ a c i≥G.2)) 2 0≥0)) [] (.bool (bL G a&&bL G c)) []))
  (by kernel_rfl) ?_
 refine aM (c1) ?_
 exact aq (ay.of_eq (congrArg _ (by rw [e,HI,HI,← Bool.not_and,Bool.not_not];rfl)))
theorem Cm (G:bN) (f e:Nat→Int) (h:G.Ok) (hw:G.W) (hf:∀ i,i<2→aO G (f i)=true) (he:∀ i,i<2→0≤e i∧e i<G.q):Pure Tryz.prog aZ 315 [G.av,.aH 1 2 fun i _=>.int .i64 (f i),.aH 1 2 fun i _=>.int .i64 (e i)] (.aX [.int .i64 (ot G f e 2),.int .i64 0]):=by
 refine ar (own:=bq) Tryz.func315 (by kernel_rfl) mixed (by kernel_rfl)
  (let y1:List (Option Ob):=[some ⟨3,1,true,bA.bc [[Zi (bN.p G),Zi (bN.q G),Zi (bN.g G)]]⟩];let y0:=(fun (x:{ x:Nat // x≤2 })=>aY [2,3,13,14,8,15] [AV.aH 1 2 fun (i x:Nat)=>Zi (e i),AV.own 0 3 0 0 3,AV.aH 1 2 fun (i x:Nat)=>Zi (f i),Zi (↑(2):Int),Zi (ot G f e (x.1)),Zi (↑(x.1):Int)] y1);let y2:=(fun (x:{ x:Nat // x≤2 })=>2 - x.1);(.loop ({ x:Nat // x≤2 }) y0 y2 (⟨0,Nat.zero_le 2⟩) ([2,3,13,14,8,15]) ([0]) ([AV.aH 1 2 fun (i x:Nat)=>Zi (e i),AV.own 0 3 0 0 3,AV.aH 1 2 fun (i x:Nat)=>Zi (f i),Zi (↑(2):Int),Zi 1,Zi 0]) (y1) (fun x0=>(.br (decide ((↑x0.1:Int)<(↑(2):Int))) (.bj ((0:Int)≤(↑x0.1:Int)∧(↑x0.1:Int)<(↑(2):Int)) (.bj ((0:Int)≤(↑x0.1:Int)∧(↑x0.1:Int)<(↑(2):Int)) (.sc (true) 95 ([AV.agg [Zi G.1,Zi G.2,Zi G.3],Zi (f (toNat (↑x0.1:Int))),Zi (e (toNat (↑x0.1:Int)))]) (AV.aX [Zi (f (toNat (↑x0.1:Int))^toNat (e (toNat (↑x0.1:Int)))%bN.p G),Zi 0]) (.ff (.sc (true) 185 ([AV.agg [Zi G.1,Zi G.2,Zi G.3],Zi (ot G f e x0.1),Zi (f (toNat (↑x0.1:Int))^toNat (e (toNat (↑x0.1:Int)))%G.1)]) (AV.aX [Zi (ot G f e x0.1*(f (toNat (↑x0.1:Int))^toNat (e (toNat (↑x0.1:Int)))%G.1)%bN.p G),Zi 0]) (.ff (.again (bh 0 y0 y2 x0) ([2,3,13,14,8,15]) ([0]) ([AV.aH 1 2 fun (i x:Nat)=>Zi (e i),AV.own 0 3 0 0 3,AV.aH 1 2 fun (i x:Nat)=>Zi (f i),Zi (↑(2):Int),Zi (ot G f e x0.1*(f (toNat (↑x0.1:Int))^toNat (e (toNat (↑x0.1:Int)))%G.1)%G.1),Zi (wrap .i64 ((↑x0.1:Int)+1))]) (y1)))))))) (.out (AV.aX [Zi (ot G f e x0.1),Zi 0]) [] (AV.aX [Zi (ot G f e 2),Zi 0]) [])))))
  (by kernel_rfl) ?_
 refine aV (fun _ hs=>hs.le (⟨.refl _,.refl _,.refl _,.refl _,.refl _,.refl _,trivial⟩) (⟨.refl _,trivial⟩)) (fun x0=>?_)
 try (have q0:=x0.2;dsimp only at q0)
 refine aL (fun h1=>?_) (fun h1=>?_)
 ·have g1:=af h1
  refine aD (by omega) ?_
  refine aD (by omega) ?_
  refine aM ((nO G) (f (toNat (↑x0.1:Int))) (e (toNat (↑x0.1:Int))) (by assumption) (by assumption) (by exact hf _ (by omega)) (by exact he _ (by omega))) ?_
  refine cz ?_
  refine aM ((px G) (ot G f e x0.1) (f (toNat (↑x0.1:Int))^toNat (e (toNat (↑x0.1:Int)))%G.1) (by assumption) (by assumption) (by exact vc h hf _ (by omega)) (by exact dJ h (hf _ (by omega)) _)) ?_
  refine cz ?_
  exact aN (⟨x0.1+1,by omega⟩) (fun _ hs=>hs.le (⟨.refl _,.refl _,.refl _,.refl _,.refl _,aK (by omega),trivial⟩) (⟨.refl _,trivial⟩)) (by dsimp only;omega)
 ·have g1:=aa h1
  exact aq (by exact ay.of_eq (by rw [show x0.1=2 by omega]))
theorem xe (b:aI) (r1 r2:Int) (hw:b.gr.W) (hv:aT b=true):Pure Tryz.prog aZ 281 [b.gr.av,.aH 1 2 fun i _=>.int .i64 (fJ b.g1 b.g2 i),.aH 1 2 fun i _=>.int .i64 (fJ r1 r2 i)] (.aX [.int .i64 (qu b r1 r2),.int .i64 (sW b r1 r2)]):=by
 have h:=bH.1 hv
 have hf:∀ i,i<2→aO b.gr (fJ b.g1 b.g2 i)=true:=fun i hi=>match i,hi with|0,_=>h.e1|1,_=>h.e2
 have hg:=bp.2 h.G
 have c1:=L8 b.gr 2 (fJ b.g1 b.g2) (by decide) h.G hw hf
 have c2:=LG b.gr r1 r2
 have c3:=fun he=>Cm b.gr (fJ b.g1 b.g2) (fJ r1 r2) h.G hw hf he
 refine ar (own:=bq) Tryz.func281 (by kernel_rfl) mixed (by kernel_rfl)
  (let y0:List AV:=[Zi (aI.gr b).1,Zi (aI.gr b).2,Zi (aI.gr b).3];let y1:AV:=(.aX [Zi (qu b r1 r2),Zi (sW b r1 r2)]);(.sc true 80 [.agg y0] (.bool (bo (aI.gr b))) (.br (!bo b.1||false) (.out (.aX [Zi 0,Zi 1]) [] y1 []) (.ff (.sc true 313 [.agg y0,.aH 1 2 fun i x=>Zi (fJ b.2 b.3 i)] (.bool true) (.sc true 314 [.agg y0,.aH 1 2 fun i x=>Zi (fJ r1 r2 i)] (.bool (bL (aI.gr b) r1&&bL (aI.gr b) r2)) (.br (!(bL b.1 r1&&bL b.1 r2)) (.out (.aX [Zi 0,Zi 2]) [] y1 []) (.sc true 315 [.agg y0,.aH 1 2 fun i x=>Zi (fJ b.2 b.3 i),.aH 1 2 fun i x=>Zi (fJ r1 r2 i)] (.aX [Zi (ot (aI.gr b) (fJ (aI.g1 b) (aI.g2 b)) (fJ r1 r2) 2),Zi 0]) (.out (.aX [Zi (ot b.1 (fJ b.2 b.3) (fJ r1 r2) 2),Zi 0]) [] y1 [])))))))))
  (by kernel_rfl) ?_
 refine aM ((ks (aI.gr b)) (by assumption)) ?_
 refine aL (fun h1=>?_) (fun h1=>?_)
 ·have g1:=(aA (aC aF) aB) h1
  exact aq (by exfalso;simp [hg] at g1)
 ·have g1:=(aw (az aB) aF) h1
  refine cz ?_
  refine aM (c1) ?_
  refine aM (c2) ?_
  refine aL (fun h6=>?_) (fun h6=>?_)
  ·have g6:=(aC (ao aF aF)) h6
   exact aq (ay.of_eq (by rw [(vT g6).1,(vT g6).2]))
  ·have g6:=(az (ah aB aB)) h6
   refine aM (c3 (He g6)) ?_
   exact aq (ay.of_eq (by rw [(v9 g6).1,(v9 g6).2,N7 h.G];rfl))
theorem DQ (b:aI) (y r1 r2:Int) (hw:b.gr.W) (hv:aT b=true):Pure Tryz.prog aZ 239 [b.gr.av,.int .i64 y,.aH 1 2 fun i _=>.int .i64 (fJ b.g1 b.g2 i),.aH 1 2 fun i _=>.int .i64 (fJ r1 r2 i)] (.bool (qJ b y r1 r2)):=by
 have c1:=xe b r1 r2 hw hv
 refine ar (own:=bq) Tryz.func239 (by kernel_rfl) mixed (by kernel_rfl)
  (.sc true 281 [.agg [Zi (aI.gr b).1,Zi (aI.gr b).2,Zi (aI.gr b).3],.aH 1 2 fun i x=>Zi (fJ b.2 b.3 i),.aH 1 2 fun i x=>Zi (fJ r1 r2 i)] (.aX [Zi (qu b r1 r2),Zi (sW b r1 r2)]) (.out (.bool (sW b r1 r2==0&&qu b r1 r2==y)) [] (.bool (qJ b y r1 r2)) []))
  (by kernel_rfl) ?_
 refine aM (c1) ?_
 exact aq (ay.of_eq (congrArg _ Hc))
theorem Cs (b:aI) (y r1 r2:Int) (hw:b.gr.W) (hv:aT b=true):Pure Tryz.prog aZ 239 [b.gr.av,.int .i64 y,.aH 1 2 fun r k=>aQ (List.getD [[.int .i64 b.g1],[.int .i64 b.g2]] r []) k,.aH 1 2 fun r k=>aQ (List.getD [[.int .i64 r1],[.int .i64 r2]] r []) k] (.bool (qJ b y r1 r2)) :=
 (DQ b y r1 r2 hw hv).via ⟨ay.refl _,ay.refl _,xN,xN,trivial⟩
theorem Dx (b:aI) (a k x r1 r2:Int) (hw:b.gr.W) (hv:aT b=true) (ha:aO b.gr a=true) (hk:0≤k∧k<b.gr.q):Pure Tryz.prog aZ 174 [b.av,.int .i64 a,.int .i64 k,.agg [.int .i64 x,.int .i64 r1,.int .i64 r2]] (.bool (fq b a k x r1 r2)):=by
 have h:=bH.1 hv
 have hg:=bp.2 h.G
 have c1:=en b.gr x hw
 have c2:=nO b.gr a k h.G hw ha hk
 have c3:=fun hx=>px b.gr (a^k.toNat%b.gr.p) x h.G hw (dJ h.G ha _) hx
 have c4:=Cs b (a^k.toNat%b.gr.p*x%b.gr.p) r1 r2 hw hv
 rw [hg,Bool.true_and] at c1
 refine ar (own:=bq) Tryz.func174 (by kernel_rfl) mixed (by kernel_rfl)
  (let y0:List AV:=[Zi (aI.gr b).1,Zi (aI.gr b).2,Zi (aI.gr b).3];(.sc true 81 [.agg y0,Zi x] (.bool (aO (aI.gr b) x)) (.br (!aO b.1 x) (.out (.bool false) [] (.bool (fq b a k x r1 r2)) []) (.sc true 95 [.agg y0,Zi a,Zi k] (.aX [Zi (a^toNat k%bN.p (aI.gr b)),Zi 0]) (.ff (.sc true 185 [.agg y0,Zi (a^toNat k%(aI.gr b).1),Zi x] (.aX [Zi (a^toNat k%bN.p (aI.gr b)*x%bN.p (aI.gr b)),Zi 0]) (.sc true 239 [.agg y0,Zi (a^toNat k%(aI.gr b).1*x%(aI.gr b).1),.aH 1 2 fun r k=>aQ (List.getD [[Zi b.2],[Zi b.3]] (r+0) []) k,.aH 1 2 fun r k=>aQ (List.getD [[Zi r1],[Zi r2]] (r+0) []) k] (.bool (qJ b (a^toNat k%bN.p (aI.gr b)*x%bN.p (aI.gr b)) r1 r2)) (.out (.bool (qJ b (a^toNat k%(aI.gr b).1*x%(aI.gr b).1) r1 r2)) [] (.bool (fq b a k x r1 r2)) []))))))))
  (by kernel_rfl) ?_
 refine aM (c1) ?_
 refine aL (fun h1=>?_) (fun h1=>?_)
 ·have g1:=(aC aF) h1
  exact aq (ay.of_eq (congrArg _ (by unfold fq;rw [g1];rfl)))
 ·have g1:=(az aB) h1
  refine aM (c2) ?_
  refine cz ?_
  refine aM (c3 (g1)) ?_
  refine aM (c4) ?_
  exact aq (ay.of_eq (congrArg _ (by unfold fq;rw [g1];rfl)))
theorem mK (G:bN) (a e:Int) (h:G.Ok) (ha:0≤a∧a<G.p) (he:0≤e∧e<G.q):Pure Tryz.prog aZ 210 [G.av,.int .i64 a,.int .i64 e] (.int .i64 (a^e.toNat%G.p)):=by
 have k1:=h.p1;have k2:=h.qp;have k3:=h.p3
 have hr:=ly e G.q (by omega) (by omega)
 rw [Iq he] at hr
 refine ar (own:=bq) Tryz.func210 (by kernel_rfl) mixed (by kernel_rfl)
  (.sc true 215 [Zi e,Zi G.2] (Zi e) (.sc true 76 [Zi a,Zi e,Zi G.1] (Zi (a^toNat e%G.1)) (.out (Zi (a^toNat e%G.1)) [] (Zi (a^toNat e%bN.p G)) [])))
  (by kernel_rfl) ?_
 refine aM (hr) ?_
 refine aM (jS (a) (e) (G.1) (by omega) (by omega) (by omega) (by omega) (by assumption)) ?_
 exact aq (ay.refl _)
theorem qB (G:bN) (a c:Int) (h:G.Ok) (ha:0≤a∧a<G.p) (hc:0≤c∧c<G.p):Pure Tryz.prog aZ 209 [G.av,.int .i64 a,.int .i64 c] (.int .i64 (a*c%G.p)):=by
 have k1:=h.p1;have k3:=h.p3
 refine ar (own:=bq) Tryz.func209 (by kernel_rfl) mixed (by kernel_rfl)
  (.sc true 139 [Zi a,Zi c,Zi G.1] (Zi (a*c%G.1)) (.out (Zi (a*c%G.1)) [] (Zi (a*c%bN.p G)) []))
  (by kernel_rfl) ?_
 refine aM (iI (a) (c) (G.1) (by omega) (by omega) (by omega) (by omega) (by assumption)) ?_
 exact aq (ay.refl _)
theorem rb (G:bN) (x:Int):Pure Tryz.prog aZ 208 [G.av,.int .i64 x] (.bool (bL G x)):=by
 refine ar (own:=bq) Tryz.func208 (by kernel_rfl) mixed (by kernel_rfl)
  (.out (.bool (decide (x≥0)&&decide (x<G.2))) [] (.bool (bL G x)) [])
  (by kernel_rfl) ?_
 exact aq (ay.refl _)
theorem G5 (b:aI) (a k x r1 r2:Int) (h:b.Ok) (ha:aO b.gr a=true) (hk:0≤k∧k<b.gr.q):Pure Tryz.prog aZ 129 [b.av,.int .i64 a,.int .i64 k,.agg [.int .i64 x,.int .i64 r1,.int .i64 r2]] (.bool (fq b a k x r1 r2)):=by
 have e1:=cd h.G h.e1
 have e2:=cd h.G h.e2
 have ea:=cd h.G ha
 refine ar (own:=bq) Tryz.func129 (by kernel_rfl) mixed (by kernel_rfl)
  (let y0:List AV:=[Zi (aI.gr b).1,Zi (aI.gr b).2,Zi (aI.gr b).3];(.sc true 110 [.agg y0,Zi x] (.bool (aO (aI.gr b) x)) (.sc ((!aO b.1 x)==false) 208 [.agg y0,Zi r1] (.bool (bL (aI.gr b) r1)) (.sc ((!aO b.1 x || !bL b.1 r1)==false) 208 [.agg y0,Zi r2] (.bool (bL (aI.gr b) r2)) (.br (!aO b.1 x || !bL b.1 r1 || !bL b.1 r2) (.out (.bool false) [] (.bool (fq b a k x r1 r2)) []) (.sc true 210 [.agg y0,Zi b.2,Zi r1] (Zi (b.2^toNat r1%bN.p (aI.gr b))) (.sc true 210 [.agg y0,Zi b.3,Zi r2] (Zi (b.3^toNat r2%bN.p (aI.gr b))) (.sc true 209 [.agg y0,Zi (b.2^toNat r1%(aI.gr b).1),Zi (b.3^toNat r2%(aI.gr b).1)] (Zi (b.2^toNat r1%(aI.gr b).1*(b.3^toNat r2%(aI.gr b).1)%bN.p (aI.gr b))) (.sc true 210 [.agg y0,Zi a,Zi k] (Zi (a^toNat k%bN.p (aI.gr b))) (.sc true 209 [.agg y0,Zi (a^toNat k%(aI.gr b).1),Zi x] (Zi (a^toNat k%(aI.gr b).1*x%bN.p (aI.gr b))) (.out (.bool (b.2^toNat r1%(aI.gr b).1*(b.3^toNat r2%(aI.gr b).1)%(aI.gr b).1==a^toNat k%(aI.gr b).1*x%(aI.gr b).1)) [] (.bool (fq b a k x r1 r2)) [])))))))))))
  (by kernel_rfl) ?_
 refine aM ((dL (aI.gr b)) (x) (by exact h.G)) ?_
 refine aW (fun h1=>(rb (aI.gr b)) (r1)) ?_
 refine aW (fun h2=>(rb (aI.gr b)) (r2)) ?_
 refine aL (fun h3=>?_) (fun h3=>?_)
 ·have g3:=(aA (aA (aC aF) (aC aF)) (aC aF)) h3
  exact aq (ay.of_eq (congrArg _ (GC g3).symm))
 ·have g3:=(aw (aw (az aB) (az aB)) (az aB)) h3
  refine aM ((mK (aI.gr b)) (b.2) (r1) (by exact h.G) (by assumption) (by exact kh.1 g3.1.2)) ?_
  refine aM ((mK (aI.gr b)) (b.3) (r2) (by exact h.G) (by assumption) (by exact kh.1 g3.2)) ?_
  refine aM ((qB (aI.gr b)) (b.2^toNat r1%(aI.gr b).1) (b.3^toNat r2%(aI.gr b).1) (by exact h.G) (by exact bR h.G _) (by exact bR h.G _)) ?_
  refine aM ((mK (aI.gr b)) (a) (k) (by exact h.G) (by assumption) (by assumption)) ?_
  refine aM ((qB (aI.gr b)) (a^toNat k%(aI.gr b).1) (x) (by exact h.G) (by exact bR h.G _) (by exact cd h.G g3.1.1)) ?_
  exact aq (ay.of_eq (congrArg _ (Fx g3)))
theorem Hl (G:bN) (c:Int):Pure Tryz.prog aZ 327 [G.av,.int .i64 c] (.bool (bL G c)):=by
 refine ar (own:=bq) Tryz.func327 (by kernel_rfl) mixed (by kernel_rfl)
  (.out (.bool (decide (c≥0)&&decide (c<G.2))) [] (.bool (bL G c)) [])
  (by kernel_rfl) ?_
 exact aq (ay.of_eq rfl)
theorem Ea (G:bN) (b:Int) (h:G.Ok):Pure Tryz.prog aZ 326 [G.av,.int .i64 b] (.bool (bV G b)):=by
 have c1:=dL G b h
 refine ar (own:=bq) Tryz.func326 (by kernel_rfl) mixed (by kernel_rfl)
  (.sc ((b != 1)==true) 110 [.agg [Zi G.1,Zi G.2,Zi G.3],Zi b] (.bool (aO G b)) (.out (.bool (b != 1&&aO G b)) [] (.bool (bV G b)) []))
  (by kernel_rfl) ?_
 refine aW (fun h0=>c1) ?_
 exact aq (ay.of_eq rfl)
theorem Cb (G:bN) (b y:Int) (hw:G.W):Pure Tryz.prog aZ 290 [G.av,.int .i64 b,.int .i64 y] (.int .i64 (tV G b y)):=by
 have c1:=oQ G hw
 have c2:=fun h=>Ea G b h
 have c3:=fun h=>dL G y h
 refine ar (own:=bq) Tryz.func290 (by kernel_rfl) mixed (by kernel_rfl)
  (let y0:List AV:=[Zi G.1,Zi G.2,Zi G.3];(.sc true 109 [.agg y0] (.bool (bo G)) (.br (!bo G) (.out (Zi 1) [] (Zi (tV G b y)) []) (.sc true 326 [.agg y0,Zi b] (.bool (bV G b)) (.sc ((!bV G b)==false) 110 [.agg y0,Zi y] (.bool (aO G y)) (.br (!bV G b || !aO G y) (.out (Zi 2) [] (Zi (tV G b y)) []) (.out (Zi 0) [] (Zi (tV G b y)) [])))))))
  (by kernel_rfl) ?_
 refine aM (c1) ?_
 refine aL (fun h1=>?_) (fun h1=>?_)
 ·have g1:=(aC aF) h1
  exact aq (ay.of_eq (congrArg _ (Nu g1).symm))
 ·have g1:=(az aB) h1
  refine aM (c2 (by grind [bp])) ?_
  refine aW (fun h4=>c3 (by grind [bp])) ?_
  refine aL (fun h5=>?_) (fun h5=>?_)
  ·have g5:=(aA (aC aF) (aC aF)) h5
   exact aq (ay.of_eq (congrArg _ (Of g1 g5).symm))
  ·have g5:=(aw (az aB) (az aB)) h5
   exact aq (ay.of_eq (congrArg _ (Mk g1 g5).symm))
theorem ET (G:bN) (p:Pf) (h:G.Ok):Pure Tryz.prog aZ 291 [G.av,.agg p.cells] (.bool (pT G p)):=by
 have c1:=dL G (p.a 0) h
 have c2:=Hl G
 refine ar (own:=bq) Tryz.func291 (by kernel_rfl) mixed (by kernel_rfl)
  (let y0:List AV:=[Zi G.1,Zi G.2,Zi G.3];(.bj ((((p.1:Int)==1&&(p.4:Int)==1)==true)=true→(0:Int)≤0∧(0:Int)<(p.1:Int)) (.sc (((p.1:Int)==1&&(p.4:Int)==1)==true) 110 [.agg y0,Zi (p.2 0)] (.bool (aO G (Pf.a p 0))) (.sc (((p.1:Int)==1&&(p.4:Int)==1&&aO G (p.2 0))==true) 327 [.agg y0,Zi p.3] (.bool (bL G p.3)) (.bj ((((p.1:Int)==1&&(p.4:Int)==1&&aO G (p.2 0)&&bL G p.3)==true)=true→(0:Int)≤0∧(0:Int)<(p.4:Int)) (.sc (((p.1:Int)==1&&(p.4:Int)==1&&aO G (p.2 0)&&bL G p.3)==true) 327 [.agg y0,Zi (p.5 0)] (.bool (bL G (p.5 0))) (.out (.bool ((p.1:Int)==1&&(p.4:Int)==1&&aO G (p.2 0)&&bL G p.3&&bL G (p.5 0))) [] (.bool (pT G p)) [])))))))
  (by kernel_rfl) ?_
 refine aD (fun hr=>by have hr:=(cQ (ah ai ai)) hr;omega) ?_
 refine aW (fun h1=>c1) ?_
 refine aW (fun h2=>c2 (p.3)) ?_
 refine aD (fun hr=>by have hr:=(cQ (ah (ah (ah ai ai) aB) aB)) hr;omega) ?_
 refine aW (fun h4=>c2 (p.5 (0))) ?_
 exact aq (ay.of_eq (congrArg _ Ov))
theorem Ai (G:bN) (b y:Int) (p:Pf) (hw:G.W):Pure Tryz.prog aZ 251 [G.av,.int .i64 b,.int .i64 y,.agg p.cells] (.bool (ka G b y p)):=by
 have c1:=Cb G b y hw
 have c2:=fun h=>ET G p h
 have c3:=fun x e h hx he=>mK G x e h hx he
 have c4:=fun x z h hx hz=>qB G x z h hx hz
 refine ar (own:=bq) Tryz.func251 (by kernel_rfl) mixed (by kernel_rfl)
  (let y0:List AV:=[Zi G.1,Zi G.2,Zi G.3];(.sc true 290 [.agg y0,Zi b,Zi y] (Zi (tV G b y)) (.sc ((tV G b y != 0)==false) 291 [.agg y0,.agg [.aH 1 p.1 fun i x=>Zi (p.2 i),Zi p.3,.aH 1 p.4 fun i x=>Zi (p.5 i)]] (.bool (pT G p)) (.br (tV G b y != 0 || !pT G p) (.out (.bool false) [] (.bool (ka G b y p)) []) (.bj ((0:Int)≤0∧(0:Int)<(p.4:Int)) (.sc true 210 [.agg y0,Zi b,Zi (p.5 0)] (Zi (b^toNat (p.5 0)%bN.p G)) (.bj ((0:Int)≤0∧(0:Int)<(p.1:Int)) (.sc true 210 [.agg y0,Zi y,Zi p.3] (Zi (y^toNat p.3%bN.p G)) (.sc true 209 [.agg y0,Zi (p.2 0),Zi (y^toNat p.3%G.1)] (Zi (p.2 0*(y^toNat p.3%G.1)%bN.p G)) (.out (.bool (b^toNat (p.5 0)%G.1==p.2 0*(y^toNat p.3%G.1)%G.1)) [] (.bool (ka G b y p)) []))))))))))
  (by kernel_rfl) ?_
 refine aM (c1) ?_
 refine aW (fun h1=>c2 ((bp.1 (th.1 (Ia (by simpa using h1))).1))) ?_
 refine aL (fun h2=>?_) (fun h2=>?_)
 ·have g2:=(aA aU (aC aF)) h2
  exact aq (ay.of_eq (congrArg _ (Jf g2).symm))
 ·have g2:=(aw aR (az aB)) h2
  refine aD (by have k:=(ig g2.1 g2.2);have:=k.na;have:=k.nz;omega) ?_
  refine aM (c3 (b) (p.5 (0)) (by have k:=(ig g2.1 g2.2);have G':=bp.1 k.vg;first|exact G'|exact bO k.z|exact bO k.c|exact cd G' k.eb|exact cd G' k.ey|exact cd G' k.a|exact bR G' _) (by have k:=(ig g2.1 g2.2);have G':=bp.1 k.vg;first|exact G'|exact bO k.z|exact bO k.c|exact cd G' k.eb|exact cd G' k.ey|exact cd G' k.a|exact bR G' _) (by have k:=(ig g2.1 g2.2);have G':=bp.1 k.vg;first|exact G'|exact bO k.z|exact bO k.c|exact cd G' k.eb|exact cd G' k.ey|exact cd G' k.a|exact bR G' _)) ?_
  refine aD (by have k:=(ig g2.1 g2.2);have:=k.na;have:=k.nz;omega) ?_
  refine aM (c3 (y) (p.3) (by have k:=(ig g2.1 g2.2);have G':=bp.1 k.vg;first|exact G'|exact bO k.z|exact bO k.c|exact cd G' k.eb|exact cd G' k.ey|exact cd G' k.a|exact bR G' _) (by have k:=(ig g2.1 g2.2);have G':=bp.1 k.vg;first|exact G'|exact bO k.z|exact bO k.c|exact cd G' k.eb|exact cd G' k.ey|exact cd G' k.a|exact bR G' _) (by have k:=(ig g2.1 g2.2);have G':=bp.1 k.vg;first|exact G'|exact bO k.z|exact bO k.c|exact cd G' k.eb|exact cd G' k.ey|exact cd G' k.a|exact bR G' _)) ?_
  refine aM (c4 (p.2 (0)) (y^toNat p.3%G.1) (by have k:=(ig g2.1 g2.2);have G':=bp.1 k.vg;first|exact G'|exact bO k.z|exact bO k.c|exact cd G' k.eb|exact cd G' k.ey|exact cd G' k.a|exact bR G' _) (by have k:=(ig g2.1 g2.2);have G':=bp.1 k.vg;first|exact G'|exact bO k.z|exact bO k.c|exact cd G' k.eb|exact cd G' k.ey|exact cd G' k.a|exact bR G' _) (by have k:=(ig g2.1 g2.2);have G':=bp.1 k.vg;first|exact G'|exact bO k.z|exact bO k.c|exact cd G' k.eb|exact cd G' k.ey|exact cd G' k.a|exact bR G' _)) ?_
  exact aq (ay.of_eq (congrArg _ (HW (ig g2.1 g2.2)).symm))
theorem EJ (G:bN) (b y:Int) (s:ByteArray) (n:Nat) (f:Nat→Int) (N A B C:Nat→Int) (c:Int)
  (c1:Pure Tryz.prog aZ 292 [.str s] (.agg (bf N++[.int .i64 0])))
  (c2:Pure Tryz.prog aZ 293 [.agg (bf N++[.int .i64 0]),.str "group".toUTF8,.aH 1 3 fun r k=>aQ (List.getD [[.int .i64 G.p],[.int .i64 G.q],[.int .i64 G.g]] r []) k] (.aX [.agg (bf A++[.int .i64 1]),.int .i64 0]))
  (c3:Pure Tryz.prog aZ 293 [.agg (bf A++[.int .i64 1]),.str "statement".toUTF8,.aH 1 2 fun r k=>aQ (List.getD [[.int .i64 b],[.int .i64 y]] r []) k] (.aX [.agg (bf B++[.int .i64 2]),.int .i64 0]))
  (c4:Pure Tryz.prog aZ 293 [.agg (bf B++[.int .i64 2]),.str "commitment".toUTF8,.aH 1 n fun r _=>.int .i64 (f r)] (.aX [.agg (bf C++[.int .i64 3]),.int .i64 0]))
  (D:Nat→Int) (c5:Pure Tryz.prog aZ 294 [.agg (bf C++[.int .i64 3]),.str "challenge".toUTF8,.int .i64 G.q] (.aX [.agg (bf D++[.int .i64 4]),.int .i64 c,.int .i64 0])) :
  Pure Tryz.prog aZ 252 [G.av,.int .i64 b,.int .i64 y,.str s,.aH 1 n fun r _=>.int .i64 (f r)] (.int .i64 c):=by
 refine ar (own:=bq) Tryz.func252 (by kernel_rfl) mixed (by kernel_rfl)
  (.sc true 292 [AV.str s] (.agg (bf N++[Zi 0])) (.sc true 293 [.agg (bf N++[Zi 0]),AV.str { data := #[(103:UInt8),114,111,117,112] },.aH 1 3 fun r k=>aQ (List.getD [[Zi G.1],[Zi G.2],[Zi G.3]] (r+0) []) k] (.aX [.agg (bf A++[Zi 1]),Zi 0]) (.sc true 293 [.agg (bf A++[Zi 1]),AV.str { data := #[(115:UInt8),116,97,116,101,109,101,110,116] },.aH 1 2 fun r k=>aQ (List.getD [[Zi b],[Zi y]] (r+0) []) k] (.aX [.agg (bf B++[Zi 2]),Zi 0]) (.sc true 293 [.agg (bf B++[Zi 2]),AV.str { data := #[(99:UInt8),111,109,109,105,116,109,101,110,116] },.aH 1 n fun r x=>Zi (f r)] (.aX [.agg (bf C++[Zi 3]),Zi 0]) (.sc true 294 [.agg (bf C++[Zi 3]),AV.str { data := #[(99:UInt8),104,97,108,108,101,110,103,101] },Zi G.2] (.aX [.agg (bf D++[Zi 4]),Zi c,Zi 0]) (.out (Zi c) [] (Zi c) []))))))
  (by kernel_rfl) ?_
 refine aM (c1) ?_
 refine aM (c2) ?_
 refine aM (c3) ?_
 refine aM (c4) ?_
 refine aM (c5) ?_
 exact aq (ay.of_eq rfl)
theorem ES (G:bN) (b y:Int) (p:Pf) (s:ByteArray) (hl:eE s=true) (hG:G.Ok) (hn:p.na=1) :
  Pure Tryz.prog aZ 252 [G.av,.int .i64 b,.int .i64 y,.str s,.aH 1 p.na fun r _=>.int .i64 (p.a r)] (.int .i64 (xB G b y (p.a 0) s)):=by
 obtain ⟨na,a,c,nz,z⟩:=p
 obtain rfl:na=1:=hn
 have k1:=nB "group".toUTF8 (tA s) 0 (by decide) (by decide +kernel) (yf s) [G.p,G.q,G.g] (Nat.le_of_ble_eq_true rfl)
 have k2:=nB "statement".toUTF8 (jL (tA s) "group".toUTF8 (be [G.p,G.q,G.g])) 1 (by decide) (by decide +kernel) (lB _ _ _) [b,y] (Nat.le_of_ble_eq_true rfl)
 have k3:=nB "commitment".toUTF8 (jL (jL (tA s) "group".toUTF8 (be [G.p,G.q,G.g])) "statement".toUTF8 (be [b,y])) 2 (by decide) (by decide +kernel) (lB _ _ _) [a 0] (Nat.le_of_ble_eq_true rfl)
 exact EJ G b y s 1 a _ _ _ _ _ (KA s hl) (k1.via ⟨ay.refl _,ay.refl _,eN rfl rfl,trivial⟩) (k2.via ⟨ay.refl _,ay.refl _,eN rfl rfl,trivial⟩)
  (k3.via ⟨ay.refl _,ay.refl _,ay.aH fun i k hi hk=>by obtain rfl:i=0:=Nat.lt_one_iff.1 hi;rfl,trivial⟩) _ (DE "challenge".toUTF8 _ 3 (by decide) (by decide +kernel) (lB _ _ _) G.q ⟨by have:=hG.q3;omega,by have:=hG.qp;have:=hG.p1;omega⟩)
theorem Fu (G:bN) (b y:Int) (s:ByteArray) (p:Pf) (hl:eE s=true) (hw:G.W):Pure Tryz.prog aZ 193 [G.av,.int .i64 b,.int .i64 y,.str s,.agg p.cells] (.bool (m5 G b y s p)):=by
 have c1:=Ai G b y p hw
 have c2:=fun hG hn=>ES G b y p s hl hG hn
 have c3:=vO s (by have:=(gC hl).hi;omega)
 rw [hl] at c3
 refine ar (own:=bq) Tryz.func193 (by kernel_rfl) mixed (by kernel_rfl)
  (.sc true 250 [AV.str s] (.bool true) (.sc true 251 [.agg [Zi G.1,Zi G.2,Zi G.3],Zi b,Zi y,.agg [.aH 1 p.1 fun i x=>Zi (p.2 i),Zi p.3,.aH 1 p.4 fun i x=>Zi (p.5 i)]] (.bool (ka G b y p)) (.sc (ka G b y p==true) 252 [.agg [Zi G.1,Zi G.2,Zi G.3],Zi b,Zi y,AV.str s,.aH 1 p.1 fun i x=>Zi (p.2 i)] (Zi (xB G b y (Pf.a p 0) s)) (.out (.bool (ka G b y p&&p.3==xB G b y (p.2 0) s)) [] (.bool (m5 G b y s p)) []))))
  (by kernel_rfl) ?_
 refine aM (c3) ?_
 refine aM (c1) ?_
 refine aW (fun h2=>c2 ((bp.1 (rp (by simpa using h2)).vg)) (((rp (by simpa using h2)).na))) ?_
 exact aq (ay.of_eq (congrArg AV.bool (by unfold m5;congr 1;exact BEq.comm)))
theorem ze (b:aI) (x:Int) (hw:b.gr.W):Pure Tryz.prog aZ 154 [b.av,.int .i64 x] (.aX [.int .i64 (mW b x),.int .i64 (me b x)]):=by
 have c1:=eF b hw
 have c2:=en b.gr x hw
 have c3:=fun h h'=>px b.gr x b.g2 h hw h'
 refine ar (own:=bq) Tryz.func154 (by kernel_rfl) mixed (by kernel_rfl)
  (let y0:AV:=(.aX [Zi (mW b x),Zi (me b x)]);let y1:List AV:=[Zi (aI.gr b).1,Zi (aI.gr b).2,Zi (aI.gr b).3];(.sc true 31 [.agg (aI.cells b)] (.bool (aT b)) (.br (!aT b) (.out (.aX [Zi 0,Zi 1]) [] y0 []) (.sc ((x==1)==false) 81 [.agg y1,Zi x] (.bool (bo (aI.gr b)&&aO (aI.gr b) x)) (.br (x==1 || !(bo b.1&&aO b.1 x)) (.out (.aX [Zi 0,Zi 2]) [] y0 []) (.sc true 185 [.agg y1,Zi x,Zi b.3] (.aX [Zi (x*aI.g2 b%bN.p (aI.gr b)),Zi 0]) (.ff (.br (x*b.3%(aI.gr b).1==1) (.out (.aX [Zi 0,Zi 10]) [] y0 []) (.out (.aX [Zi (x*b.3%(aI.gr b).1),Zi 0]) [] y0 [])))))))))
  (by kernel_rfl) ?_
 refine aM (c1) ?_
 refine aL (fun h1=>?_) (fun h1=>?_)
 ·have g1:=(aC aF) h1
  exact aq ((by exact ay.of_eq (OE g1)))
 ·have g1:=(az aB) h1
  refine aW (fun h3=>c2) ?_
  refine aL (fun h4=>?_) (fun h4=>?_)
  ·have g4:=(aA ai (aC (ao aF aF))) h4
   exact aq ((by exact ay.of_eq (OI g1 g4)))
  ·have g4:=(aw aj (az (ah aB aB))) h4
   refine aM (c3 (by exact (bH.1 g1).G) (by exact g4.2.2) (by exact (bH.1 g1).e2)) ?_
   refine cz ?_
   refine aL (fun h8=>?_) (fun h8=>?_)
   ·have g8:=ai h8
    exact aq ((by exact ay.of_eq (Ox g1 g4 g8)))
   ·have g8:=aj h8
    exact aq ((by exact ay.of_eq (OP g1 g4 g8)))
theorem N2:eE vI=true:=by decide +kernel
theorem KY (b:aI) (y:Int) (p:Pf) (hw:b.gr.W):Pure Tryz.prog aZ 86 [b.av,.agg (.int .i64 y::p.cells)] (.bool (kv b y p)):=by
 have c1:=ze b y hw
 have c2:=IT b.gr b.g1 y vI p N2 hw
 refine ar (own:=bq) Tryz.func86 (by kernel_rfl) mixed (by kernel_rfl)
  (.sc true 154 [.agg (aI.cells b),Zi y] (.aX [Zi (mW b y),Zi (me b y)]) (.sc ((me b y==0)==true) 155 [.agg [Zi (aI.gr b).1,Zi (aI.gr b).2,Zi (aI.gr b).3],Zi b.2,Zi y,AV.str { data := #[(97:UInt8),99,99,111,117,110,116] },.agg [.aH 1 p.1 fun i x=>Zi (p.2 i),Zi p.3,.aH 1 p.4 fun i x=>Zi (p.5 i)]] (.bool (m5 (aI.gr b) (aI.g1 b) y vI p)) (.out (.bool (me b y==0&&m5 b.1 b.2 y vI p)) [] (.bool (kv b y p)) [])))
  (by kernel_rfl) ?_
 refine aM (c1) ?_
 refine aW (fun h1=>c2) ?_
 exact aq (ay.of_eq (congrArg AV.bool (by unfold kv;rw [Ek])))
theorem rE (b:aI) (x:Int) (h:b.Ok) (he:aO b.gr x=true):Pure Tryz.prog aZ 196 [b.av,.int .i64 x] (.int .i64 (fE b x b.g2)):=by
 have x1:=fT h.G he
 have x2:=fT h.G h.e2
 have k1:=h.G.p1
 have c3:=iI x b.g2 b.gr.p (by omega) (by omega) (by omega) (by omega) (by omega)
 refine ar (own:=bq) Tryz.func196 (by kernel_rfl) mixed (by kernel_rfl)
  (.sc true 139 [Zi x,Zi b.3,Zi (aI.gr b).1] (Zi (x*aI.g2 b%bN.p (aI.gr b))) (.out (Zi (x*b.3%(aI.gr b).1)) [] (Zi (fE b x (aI.g2 b))) []))
  (by kernel_rfl) ?_
 refine aM (c3) ?_
 exact aq (ay.refl _)
theorem DG (b:aI) (x:Int) (h:b.Ok):Pure Tryz.prog aZ 192 [b.av,.int .i64 x] (.bool (oJ b x)):=by
 have c1:=dL b.gr x h.G
 have c2:=fun he=>rE b x h he
 have k:=bH.2 h
 refine ar (own:=bq) Tryz.func192 (by kernel_rfl) mixed (by kernel_rfl)
  (.sc ((x != 1)==true) 110 [.agg [Zi (aI.gr b).1,Zi (aI.gr b).2,Zi (aI.gr b).3],Zi x] (.bool (aO (aI.gr b) x)) (.sc ((x != 1&&aO b.1 x)==true) 196 [.agg (aI.cells b),Zi x] (Zi (fE b x (aI.g2 b))) (.out (.bool (x != 1&&aO b.1 x&&fE b x b.3 != 1)) [] (.bool (oJ b x)) [])))
  (by kernel_rfl) ?_
 refine aW (fun h0=>c1) ?_
 refine aW (fun h1=>c2 ((by simp at h1;exact h1.2))) ?_
 exact aq (ay.of_eq (congrArg AV.bool (by unfold oJ bV;rw [k,Bool.true_and])))
theorem GK (b:aI) (y:Int) (p:Pf) (hw:b.gr.W):Pure Tryz.prog aZ 114 [b.av,.agg (.int .i64 y::p.cells)] (.bool (kv b y p)):=by
 have c0:=gG b hw
 have c1:=fun h=>DG b y h
 have c2:=Fu b.gr b.g1 y vI p N2 hw
 refine ar (own:=bq) Tryz.func114 (by kernel_rfl) mixed (by kernel_rfl)
  (.sc true 64 [.agg (aI.cells b)] (.bool (aT b)) (.sc (aT b==true) 192 [.agg (aI.cells b),Zi y] (.bool (oJ b y)) (.sc ((aT b&&oJ b y)==true) 193 [.agg [Zi (aI.gr b).1,Zi (aI.gr b).2,Zi (aI.gr b).3],Zi b.2,Zi y,AV.str { data := #[(97:UInt8),99,99,111,117,110,116] },.agg [.aH 1 p.1 fun i x=>Zi (p.2 i),Zi p.3,.aH 1 p.4 fun i x=>Zi (p.5 i)]] (.bool (m5 (aI.gr b) (aI.g1 b) y vI p)) (.out (.bool (aT b&&oJ b y&&m5 b.1 b.2 y vI p)) [] (.bool (kv b y p)) []))))
  (by kernel_rfl) ?_
 refine aM (c0) ?_
 refine aW (fun h1=>c1 ((bH.1 (by simpa using h1)))) ?_
 refine aW (fun h2=>c2) ?_
 exact aq (ay.of_eq (congrArg AV.bool (by unfold kv oJ;cases aT b<;>rfl)))
theorem Bj (b:aI) (x:Int):Pure Tryz.prog aZ 146 [b.av,.int .i64 x] (.bool (er b x)):=by
 refine ar (own:=bq) Tryz.func146 (by kernel_rfl) mixed (by kernel_rfl)
  (.out (.bool (decide (x>0)&&decide (x<(aI.gr b).2))) [] (.bool (er b x)) [])
  (by kernel_rfl) ?_
 exact aq (ay.of_eq (congrArg AV.bool (by unfold er;congr 1)))
theorem Cr (b:aI) (x:Int):Pure Tryz.prog aZ 66 [b.gr.av,.int .i64 x] (.bool (er b x)):=by
 refine ar (own:=bq) Tryz.func66 (by kernel_rfl) mixed (by kernel_rfl)
  (.out (.bool (decide (x≥1)&&decide (x<(aI.gr b).2))) [] (.bool (er b x)) [])
  (by kernel_rfl) ?_
 exact aq (ay.of_eq rfl)
theorem FC (b:aI) (x:Int) (h:b.Ok) (hx:er b x=true):Pure Tryz.prog aZ 112 [b.av,.int .i64 x] (.agg [.int .i64 (cu b b.gr.g x),.int .i64 (cu b b.g1 x),.int .i64 (cu b b.g2 x)]):=by
 have c1:=iz b.gr
 have k1:=oT h
 refine ar (own:=bq) Tryz.func112 (by kernel_rfl) mixed (by kernel_rfl)
  (let y0:List AV:=[Zi (aI.gr b).1,Zi (aI.gr b).2,Zi (aI.gr b).3];(.sc true 191 [.agg y0,Zi (aI.gr b).3,Zi x] (Zi ((aI.gr b).3^toNat x%bN.p (aI.gr b))) (.sc true 191 [.agg y0,Zi b.2,Zi x] (Zi (b.2^toNat x%bN.p (aI.gr b))) (.sc true 191 [.agg y0,Zi b.3,Zi x] (Zi (b.3^toNat x%bN.p (aI.gr b))) (.out (.agg [Zi ((aI.gr b).3^toNat x%(aI.gr b).1),Zi (b.2^toNat x%(aI.gr b).1),Zi (b.3^toNat x%(aI.gr b).1)]) [] (.agg [Zi (cu b (bN.g (aI.gr b)) x),Zi (cu b (aI.g1 b) x),Zi (cu b (aI.g2 b) x)]) [])))))
  (by kernel_rfl) ?_
 refine aM (c1 ((aI.gr b).3) (x) (by exact h.G) (by exact k1.1) (by exact j0 hx)) ?_
 refine aM (c1 (b.2) (x) (by exact h.G) (by exact k1.2.1) (by exact j0 hx)) ?_
 refine aM (c1 (b.3) (x) (by exact h.G) (by exact k1.2.2) (by exact j0 hx)) ?_
 exact aq (ay.refl _)
theorem KD (b:aI) (x:Int) (h:b.Ok) (hw:b.gr.W):Pure Tryz.prog aZ 83 [b.av,.int .i64 x] (.aX [.agg [.int .i64 (bif er b x then cu b b.gr.g x else 0),.int .i64 (bif er b x then cu b b.g1 x else 0),.int .i64 (bif er b x then cu b b.g2 x else 0)],.int .i64 (bif er b x then 0 else 2)]):=by
 have c0:=eF b hw
 rw [bH.2 h] at c0
 have c1:=lY b
 have c2:=Bj b x
 have k1:=oT h
 refine ar (own:=bq) Tryz.func83 (by kernel_rfl) mixed (by kernel_rfl)
  (let y0:AV:=(.aX [.agg [Zi (bif er b x then cu b (bN.g (aI.gr b)) x else (0:Int)),Zi (bif er b x then cu b (aI.g1 b) x else (0:Int)),Zi (bif er b x then cu b (aI.g2 b) x else (0:Int))],Zi (bif er b x then (0:Int) else (2:Int))]);(.sc true 31 [.agg (aI.cells b)] (.bool true) (.ff (.sc true 146 [.agg (aI.cells b),Zi x] (.bool (er b x)) (.br (!er b x) (.out (.aX [.agg [Zi 0,Zi 0,Zi 0],Zi 2]) [] y0 []) (.sc true 147 [.agg (aI.cells b),Zi (aI.gr b).3,Zi x] (Zi ((aI.gr b).3^toNat x%bN.p (aI.gr b))) (.sc true 147 [.agg (aI.cells b),Zi b.2,Zi x] (Zi (b.2^toNat x%bN.p (aI.gr b))) (.sc true 147 [.agg (aI.cells b),Zi b.3,Zi x] (Zi (b.3^toNat x%bN.p (aI.gr b))) (.out (.aX [.agg [Zi ((aI.gr b).3^toNat x%(aI.gr b).1),Zi (b.2^toNat x%(aI.gr b).1),Zi (b.3^toNat x%(aI.gr b).1)],Zi 0]) [] y0 [])))))))))
  (by kernel_rfl) ?_
 refine aM (c0) ?_
 refine cz ?_
 refine aM (c2) ?_
 refine aL (fun h3=>?_) (fun h3=>?_)
 ·have g3:=(aC aF) h3
  exact aq (ay.of_eq (by rw [g3];rfl))
 ·have g3:=(az aB) h3
  refine aM (c1 ((aI.gr b).3) (x) (by exact h.G) (by exact k1.1) (by exact j0 g3)) ?_
  refine aM (c1 (b.2) (x) (by exact h.G) (by exact k1.2.1) (by exact j0 g3)) ?_
  refine aM (c1 (b.3) (x) (by exact h.G) (by exact k1.2.2) (by exact j0 g3)) ?_
  exact aq (ay.of_eq (by rw [g3];rfl))
end Go.Proofs.YtpefjkpdniiaoaaGreatDoor

namespace Go.Sp
open Go.IntKind (wrap)
open Int (toNat)
open Go Go.Am
theorem mN {b:aI} {h h1 h2 m z a c2 c r:Int} (g:df b h h1 h2=false∨bV b.gr m=false∨dS b.gr z a c2=false∨er b c=false∨bL b.gr r=false):kG b h h1 h2 m z a c2 c r=false:=by
 unfold kG;rcases g with g|g|g|g|g<;>simp [g]
theorem HN {b:aI} {h h1 h2 m z a c2 c r:Int} (hk:df b h h1 h2=true) (hm:bV b.gr m=true) (he:dS b.gr z a c2=true) (hn:er b c=true) (hr:bL b.gr r=true):kG b h h1 h2 m z a c2 c r=D0 b h m z a c2 r c:=by
 unfold kG D0;simp [hk,hm,he,hn,hr,cu,fE]
theorem gq {b:aI} {h h1 h2 m z a c2 c r:Int} (hk:df b h h1 h2=true) (hm:bV b.gr m=true) (he:dS b.gr z a c2=true) (hn:er b c=true) (hr:bL b.gr r=true):uc b h m z a c2 r c:=by
 have G:=iB (jG hk).1
 have h1:=G.g2
 exact ⟨G,⟨by omega,G.g1⟩,oG G (jG hk).2,oG G hm,cd G (rJ he).1,cd G (rJ he).2.1,cd G (rJ he).2.2,bO hr,j0 hn⟩
theorem Mn {b:aI} {h h1 h2 m z a c2 c r:Int} (g:(((((((df b h h1 h2=true∧bV b.gr m=true)∧aO b.gr z=true)∧aO b.gr a=true)∧aO b.gr c2=true)∧¬c<1)∧¬c≥b.gr.q)∧bL b.gr r=true)) :
  df b h h1 h2=true∧bV b.gr m=true∧dS b.gr z a c2=true∧er b c=true∧bL b.gr r=true:=by
 obtain ⟨⟨⟨⟨⟨⟨⟨g1,g2⟩,g3⟩,g4⟩,g5⟩,g6⟩,g7⟩,g8⟩:=g
 refine ⟨g1,g2,by unfold dS;rw [g3,g4,g5];rfl,?_,g8⟩
 unfold er;rw [decide_eq_true (show c≥1 by omega),decide_eq_true (show c<b.gr.q by omega)];rfl
theorem JZ {b:aI} {h h1 h2 m z a c2 c r:Int} (g:(((((((df b h h1 h2=false∨bV b.gr m=false)∨aO b.gr z=false)∨aO b.gr a=false)∨aO b.gr c2=false)∨c<1)∨c≥b.gr.q)∨bL b.gr r=false)) :
  kG b h h1 h2 m z a c2 c r=false:=by
 rcases g with ((((((g|g)|g)|g)|g)|g)|g)|g
 ·exact mN (.inl g)
 ·exact mN (.inr (.inl g))
 ·exact mN (.inr (.inr (.inl (by unfold dS;simp [g]))))
 ·exact mN (.inr (.inr (.inl (by unfold dS;simp [g]))))
 ·exact mN (.inr (.inr (.inl (by unfold dS;simp [g]))))
 ·exact mN (.inr (.inr (.inr (.inl (by unfold er;rw [decide_eq_false (show ¬c≥1 by omega)];rfl)))))
 ·exact mN (.inr (.inr (.inr (.inl (by unfold er;rw [decide_eq_false (show ¬c<b.gr.q by omega),Bool.and_false])))))
 ·exact mN (.inr (.inr (.inr (.inr g))))
theorem LV {p:Int→Bool} {x0 x1 x2:Int}:allI (fun i=>p ([x0,x1,x2].getD i 0)) 3=(p x0&&p x1&&p x2):=by
 show (p x0&&(p x1&&(p x2&&true)))=_
 rw [Bool.and_true,Bool.and_assoc]
def J1 (s:Nat→Int):List AV:=[.int .i64 (s 0),.int .i64 (s 1),.int .i64 (s 2),.int .i64 (s 3),.int .i64 (s 4),.int .i64 (s 5),.int .i64 (s 6),.int .i64 (s 7),.int .i64 (s 8),.int .i64 (s 9),.int .i64 (s 10),.int .i64 (s 11),.int .i64 (s 12),.int .i64 (s 13),.int .i64 (s 14),.int .i64 (s 15),.int .i64 (s 16),.int .i64 (s 17),.int .i64 (s 18),.int .i64 (s 19),.int .i64 (s 20)]
structure vV (b : aI) (s : Nat → Int) : Prop where
  vb : aT b = true
  rc : dV b (cG fun j => s (3 + j)) = true
  lo : 0 ≤ s 1
  hi : s 1 ≤ 1073741824
  sw : bL b.gr (s 14) = true
  ak : oJ b (s 2) = true
  m : s 15 = fE b (s 2) b.g2
  z : aO b.gr (s 16) = true
  a : s 17 = cu b b.gr.g (s 14)
  c2 : s 18 = cu b (fE b (s 2) b.g2) (s 14)
def zO (b:aI) (s:Nat→Int):Bool:=bif s 0==1 then s 19==0&&s 20==0 else bif s 0==3 then kG b (s 8) (s 9) (s 10) (s 15) (s 16) (s 17) (s 18) (s 19) (s 20) else false
theorem ry {b:aI} {s:Nat→Int} (h:gh b s=true):vV b s:=by
 simp only [gh,Bool.and_eq_true,decide_eq_true_eq,beq_iff_eq] at h
 obtain ⟨⟨⟨⟨⟨⟨⟨⟨⟨⟨h1,h2⟩,h3⟩,h4⟩,h5⟩,h6⟩,h7⟩,h8⟩,h9⟩,h10⟩,_⟩:=h
 exact ⟨h1,h2,h3,h4,h5,h6,h7,h8,h9,h10⟩
theorem zg {b:aI} {s:Nat→Int} (h:vV b s):gh b s=zO b s:=by
 unfold gh zO
 rw [h.vb,h.rc,decide_eq_true h.lo,decide_eq_true h.hi,h.sw,h.ak,beq_iff_eq.2 h.m,h.z,beq_iff_eq.2 h.a,beq_iff_eq.2 h.c2];rfl
theorem Ib {b:aI} {s:Nat→Int} (h:vV b s) (e:s 0=1):gh b s=(s 19==0&&s 20==0):=by rw [zg h,zO,beq_iff_eq.2 e];rfl
theorem Mo {b:aI} {s:Nat→Int} (h:vV b s) (e:s 0=3):gh b s=kG b (s 8) (s 9) (s 10) (s 15) (s 16) (s 17) (s 18) (s 19) (s 20):=by
 rw [zg h,zO,beq_iff_eq.2 e,show (s 0==1)=false by rw [e];rfl];rfl
theorem M1 {b:aI} {s:Nat→Int} (e:¬s 0=1) (e':¬s 0=3):gh b s=false:=eU fun h=>by
 have k:=ry h
 rw [zg k,zO,beq_eq_false_iff_ne.2 e,beq_eq_false_iff_ne.2 e'] at h;cases h
theorem Ma {b:aI} {y:Int} (h:oJ b y=true):me b y=0∧mW b y=fE b y b.g2:=by
 have e:me b y=0:=by have:=Ek (b:=b) (y:=y);rw [h] at this;exact beq_iff_eq.1 this
 exact ⟨e,if_pos e⟩
theorem OF {b:aI} {y:Int} (h:me b y=0):oJ b y=true∧mW b y=fE b y b.g2:=by
 have e:oJ b y=true:=by rw [← Ek,h];rfl
 exact ⟨e,(Ma e).2⟩
theorem MN {b:aI} {y:Int} (h:oJ b y=true):aO b.gr (fE b y b.g2)=true:=by
 have h:=ss.1 h
 have B:=bH.1 h.1
 exact va B.G (oL.1 h.2.1).2 B.e2
end Go.Sp

namespace Go.Proofs.YtpefjkpdniiaoaaGreatDoor
open Go.IntKind (wrap)
open Int (toNat)
open Go Go.Am Go.Sp
set_option maxRecDepth 100000
theorem DJ (b:aI) (l:List Int) (hw:b.gr.W) (hl:l.length≤1000):Pure Tryz.prog aZ 229 [b.av,il .i64 l] (.bool (allI (fun i=>aO b.gr (l.getD i 0)) l.length)):=by
 refine ar (own:=bq) Tryz.func229 (by kernel_rfl) mixed (by kernel_rfl)
  (let y0:List (Option Ob):=[some ⟨6,1,true,.bc [aI.cells b]⟩];let y1:AV:=(.bool (allI (fun i=>aO (aI.gr b) (List.getD l i (0:Int))) (List.length l)));(.loop ({ x:Nat // x≤List.length l∧(fun (i:Nat)=>∀ (j:Nat),j<i→aO (aI.gr b) (List.getD l j (0:Int))=true) x }) (fun x=>aY [2,7,8,9] [.own 0 6 0 0 6,.aH 1 (List.length l) fun i x=>Zi (List.getD l i (0:Int)),Zi (↑(List.length l):Int),Zi x.1] y0) (fun x=>List.length l - x.1) (⟨0,⟨Nat.zero_le (List.length l),fun (j:Nat) (hj:j<0)=>absurd hj (Nat.not_lt_zero j)⟩⟩) [2,7,8,9] [0] [.own 0 6 0 0 6,.aH 1 (List.length l) fun i x=>Zi (List.getD l i (0:Int)),Zi (↑(List.length l):Int),Zi 0] (y0) (fun x0=>(.br (decide ((x0.1:Int)<(↑(List.length l):Int))) (.bj (0≤(x0.1:Int)∧(x0.1:Int)<(↑(List.length l):Int)) (.sc true 268 [.agg (aI.cells b),Zi (List.getD l (toNat (x0.1:Int)) (0:Int))] (.bool (aO (aI.gr b) (List.getD l (toNat (x0.1:Int)) (0:Int)))) (.br (!aO b.1 (List.getD l (toNat (x0.1:Int)) (0:Int))) (.out (.bool false) [] y1 []) (.again (bh 0 (fun x=>aY [2,7,8,9] [.own 0 6 0 0 6,.aH 1 (List.length l) fun i x=>Zi (List.getD l i (0:Int)),Zi (↑(List.length l):Int),Zi x.1] y0) (fun x=>List.length l - x.1) x0) [2,7,8,9] [0] [.own 0 6 0 0 6,.aH 1 (List.length l) fun i x=>Zi (List.getD l i (0:Int)),Zi (↑(List.length l):Int),Zi (wrap .i64 ((x0.1:Int)+1))] (y0))))) (.out (.bool true) [] y1 [])))))
  (by kernel_rfl) ?_
 refine aV (fun _ hs=>hs.le (⟨.refl _,.refl _,.refl _,.refl _,trivial⟩) (⟨.refl _,trivial⟩)) (fun x0=>?_)
 try (have q0:=x0.2;dsimp only at q0)
 refine aL (fun h1=>?_) (fun h1=>?_)
 ·have g1:=af h1
  refine aD (by omega) ?_
  refine aM ((ma b) (List.getD l (toNat (↑x0.1:Int)) (0:Int)) (by assumption)) ?_
  refine aL (fun h4=>?_) (fun h4=>?_)
  ·have g4:=(aC aF) h4
   try simp only [Int.toNat_natCast] at g4
   exact aq (by exact ay.of_eq (congrArg _ (nj (i:=x0.1) (by omega) g4).symm))
  ·have g4:=(az aB) h4
   try simp only [Int.toNat_natCast] at g4
   exact aN (⟨x0.1+1,by omega,cN q0.2 g4⟩) (fun _ hs=>hs.le (⟨.refl _,.refl _,.refl _,aK (by omega),trivial⟩) (⟨.refl _,trivial⟩)) (by dsimp only;omega)
 ·have g1:=aa h1
  exact aq (by exact ay.of_eq (congrArg _ (nE fun i hi=>q0.2 i (by omega)).symm))
theorem zx (b:aI) (x0 x1 x2:Int) (hw:b.gr.W):Pure Tryz.prog aZ 229 [b.av,.aH 1 3 fun r k=>aQ (List.getD [[.int .i64 x0],[.int .i64 x1],[.int .i64 x2]] r []) k] (.bool (dS b.gr x0 x1 x2)):=by
 have:=DJ b [x0,x1,x2] hw (Nat.le_of_ble_eq_true rfl)
 rw [show allI (fun i=>aO b.gr ([x0,x1,x2].getD i 0)) [x0,x1,x2].length=dS b.gr x0 x1 x2 from LV] at this
 exact this.via ⟨ay.refl _,eN rfl rfl,trivial⟩
theorem FB (b:aI) (r:Int):Pure Tryz.prog aZ 230 [b.av,.int .i64 r] (.bool (bL b.gr r)):=yc b r
theorem vt (G:bN) (r:Int):Pure Tryz.prog aZ 195 [G.av,.int .i64 r] (.bool (bL G r)):=vi G r
theorem Lj (b:aI) (k0 k1 k2 m z a c2 c r:Int) (hw:b.gr.W) :
  Pure Tryz.prog aZ 163 [b.av,.agg [.int .i64 k0,.int .i64 k1,.int .i64 k2],.agg [.int .i64 m,.int .i64 z,.int .i64 a,.int .i64 c2,.int .i64 c,.int .i64 r]] (.bool (kG b k0 k1 k2 m z a c2 c r)):=by
 have hv:=pd b k0 k1 k2 hw
 have hm:=iY b m hw
 have he:=zx b z a c2 hw
 have hn:=Bj b c
 have hs:=FB b r
 have K:=fun (g:(((df b k0 k1 k2=true∧bV b.gr m=true)∧dS b.gr z a c2=true)∧er b c=true)∧bL b.gr r=true)=>gq g.1.1.1.1 g.1.1.1.2 g.1.1.2 g.1.2 g.2
 refine ar (own:=bq) Tryz.func163 (by kernel_rfl) mixed (by kernel_rfl)
  (.sc true 151 [.agg (aI.cells b),.agg [Zi k0,Zi k1,Zi k2]] (.bool (df b k0 k1 k2)) (.sc ((!df b k0 k1 k2)==false) 224 [.agg (aI.cells b),Zi m] (.bool (bV (aI.gr b) m)) (.sc ((!df b k0 k1 k2 || !bV b.1 m)==false) 229 [.agg (aI.cells b),.aH 1 3 fun r k=>aQ (List.getD [[Zi z],[Zi a],[Zi c2]] (r+0) []) k] (.bool (dS (aI.gr b) z a c2)) (.sc ((!df b k0 k1 k2 || !bV b.1 m || !dS b.1 z a c2)==false) 146 [.agg (aI.cells b),Zi c] (.bool (er b c)) (.sc ((!df b k0 k1 k2 || !bV b.1 m || !dS b.1 z a c2 || !er b c)==false) 230 [.agg (aI.cells b),Zi r] (.bool (bL (aI.gr b) r)) (.br (!df b k0 k1 k2 || !bV b.1 m || !dS b.1 z a c2 || !er b c || !bL b.1 r) (.out (.bool false) [] (.bool (kG b k0 k1 k2 m z a c2 c r)) []) (.sc true 147 [.agg (aI.cells b),Zi (aI.gr b).3,Zi r] (Zi ((aI.gr b).3^toNat r%bN.p (aI.gr b))) (.sc true 231 [.agg (aI.cells b),Zi k0,Zi c,Zi a,Zi 1] (Zi (k0^toNat c%bN.p (aI.gr b)*a%bN.p (aI.gr b))) (.sc (((aI.gr b).3^toNat r%(aI.gr b).1==k0^toNat c%(aI.gr b).1*a%(aI.gr b).1)==true) 147 [.agg (aI.cells b),Zi m,Zi r] (Zi (m^toNat r%bN.p (aI.gr b))) (.sc (((aI.gr b).3^toNat r%(aI.gr b).1==k0^toNat c%(aI.gr b).1*a%(aI.gr b).1)==true) 231 [.agg (aI.cells b),Zi z,Zi c,Zi c2,Zi 1] (Zi (z^toNat c%bN.p (aI.gr b)*c2%bN.p (aI.gr b))) (.out (.bool ((aI.gr b).3^toNat r%(aI.gr b).1==k0^toNat c%(aI.gr b).1*a%(aI.gr b).1&&m^toNat r%(aI.gr b).1==z^toNat c%(aI.gr b).1*c2%(aI.gr b).1)) [] (.bool (kG b k0 k1 k2 m z a c2 c r)) [])))))))))))
  (by kernel_rfl) ?_
 refine aM (hv) ?_
 refine aW (fun h1=>hm) ?_
 refine aW (fun h2=>he) ?_
 refine aW (fun h3=>hn) ?_
 refine aW (fun h4=>hs) ?_
 refine aL (fun h5=>?_) (fun h5=>?_)
 ·have g5:=(aA (aA (aA (aA (aC aF) (aC aF)) (aC aF)) (aC aF)) (aC aF)) h5
  exact aq (ay.of_eq (congrArg _ (mN (by simpa only [or_assoc] using g5)).symm))
 ·have g5:=(aw (aw (aw (aw (az aB) (az aB)) (az aB)) (az aB)) (az aB)) h5
  refine aM ((lY b) ((aI.gr b).3) (r) (by cases K g5;assumption) (by cases K g5;assumption) (by cases K g5;assumption)) ?_
  refine aM ((oE b) (k0) (c) (a) (by cases K g5;assumption) (by cases K g5;assumption) (by cases K g5;assumption) (by cases K g5;assumption)) ?_
  refine aW (fun h9=>(lY b) (m) (r) (by cases K g5;assumption) (by cases K g5;assumption) (by cases K g5;assumption)) ?_
  refine aW (fun h10=>(oE b) (z) (c) (c2) (by cases K g5;assumption) (by cases K g5;assumption) (by cases K g5;assumption) (by cases K g5;assumption)) ?_
  exact aq (ay.of_eq (congrArg _ (HN g5.1.1.1.1 g5.1.1.1.2 g5.1.1.2 g5.1.2 g5.2).symm))
theorem Fe (b:aI) (k0 k1 k2 m z a c2 c r:Int) (hw:b.gr.W) :
  Pure Tryz.prog aZ 198 [b.av,.agg [.int .i64 k0,.int .i64 k1,.int .i64 k2],.agg [.int .i64 m,.int .i64 z,.int .i64 a,.int .i64 c2,.int .i64 c,.int .i64 r]] (.bool (kG b k0 k1 k2 m z a c2 c r)):=by
 have hv:=xh b k0 k1 k2 hw
 have hm:=pF b.gr m
 have he:=fun x h=>dL b.gr x h
 have hs:=vt b.gr r
 have L:=fun g=>Mn (b:=b) (h:=k0) (h1:=k1) (h2:=k2) (m:=m) (z:=z) (a:=a) (c2:=c2) (c:=c) (r:=r) g
 refine ar (own:=bq) Tryz.func198 (by kernel_rfl) mixed (by kernel_rfl)
  (let y0:List AV:=[Zi (aI.gr b).1,Zi (aI.gr b).2,Zi (aI.gr b).3];let y1:AV:=(.bool (kG b k0 k1 k2 m z a c2 c r));(.sc true 187 [.agg (aI.cells b),.agg [Zi k0,Zi k1,Zi k2]] (.bool (df b k0 k1 k2)) (.sc ((!df b k0 k1 k2)==false) 249 [.agg y0,Zi m] (.bool (bV (aI.gr b) m)) (.sc ((!df b k0 k1 k2 || !bV b.1 m)==false) 110 [.agg y0,Zi z] (.bool (aO (aI.gr b) z)) (.sc ((!df b k0 k1 k2 || !bV b.1 m || !aO b.1 z)==false) 110 [.agg y0,Zi a] (.bool (aO (aI.gr b) a)) (.sc ((!df b k0 k1 k2 || !bV b.1 m || !aO b.1 z || !aO b.1 a)==false) 110 [.agg y0,Zi c2] (.bool (aO (aI.gr b) c2)) (.sc ((!df b k0 k1 k2 || !bV b.1 m || !aO b.1 z || !aO b.1 a || !aO b.1 c2||decide (c<1)||decide (c≥(aI.gr b).2))==false) 195 [.agg y0,Zi r] (.bool (bL (aI.gr b) r)) (.br (!df b k0 k1 k2 || !bV b.1 m || !aO b.1 z || !aO b.1 a || !aO b.1 c2||decide (c<1)||decide (c≥(aI.gr b).2) || !bL b.1 r) (.out (.bool false) [] y1 []) (.sc true 191 [.agg y0,Zi (aI.gr b).3,Zi r] (Zi ((aI.gr b).3^toNat r%bN.p (aI.gr b))) (.sc true 191 [.agg y0,Zi k0,Zi c] (Zi (k0^toNat c%bN.p (aI.gr b))) (.sc true 253 [.agg y0,Zi (k0^toNat c%(aI.gr b).1),Zi a] (Zi (k0^toNat c%(aI.gr b).1*a%bN.p (aI.gr b))) (.sc (((aI.gr b).3^toNat r%(aI.gr b).1==k0^toNat c%(aI.gr b).1*a%(aI.gr b).1)==true) 191 [.agg y0,Zi m,Zi r] (Zi (m^toNat r%bN.p (aI.gr b))) (.sc (((aI.gr b).3^toNat r%(aI.gr b).1==k0^toNat c%(aI.gr b).1*a%(aI.gr b).1)==true) 191 [.agg y0,Zi z,Zi c] (Zi (z^toNat c%bN.p (aI.gr b))) (.sc (((aI.gr b).3^toNat r%(aI.gr b).1==k0^toNat c%(aI.gr b).1*a%(aI.gr b).1)==true) 253 [.agg y0,Zi (z^toNat c%(aI.gr b).1),Zi c2] (Zi (z^toNat c%(aI.gr b).1*c2%bN.p (aI.gr b))) (.out (.bool ((aI.gr b).3^toNat r%(aI.gr b).1==k0^toNat c%(aI.gr b).1*a%(aI.gr b).1&&m^toNat r%(aI.gr b).1==z^toNat c%(aI.gr b).1*c2%(aI.gr b).1)) [] y1 [])))))))))))))))
  (by kernel_rfl) ?_
 refine aM (hv) ?_
 refine aW (fun h1=>hm (by (refine (bH.1 (jG (h0:=k0) (k1:=k1) (k2:=k2) ?_).1).G;grind))) ?_
 refine aW (fun h2=>he (z) (by (refine (bH.1 (jG (h0:=k0) (k1:=k1) (k2:=k2) ?_).1).G;grind))) ?_
 refine aW (fun h3=>he (a) (by (refine (bH.1 (jG (h0:=k0) (k1:=k1) (k2:=k2) ?_).1).G;grind))) ?_
 refine aW (fun h4=>he (c2) (by (refine (bH.1 (jG (h0:=k0) (k1:=k1) (k2:=k2) ?_).1).G;grind))) ?_
 refine aW (fun h5=>hs) ?_
 refine aL (fun h6=>?_) (fun h6=>?_)
 ·have g6:=(aA (aA (aA (aA (aA (aA (aA (aC aF) (aC aF)) (aC aF)) (aC aF)) (aC aF)) af) af) (aC aF)) h6
  exact aq (ay.of_eq (congrArg _ (JZ g6).symm))
 ·have g6:=(aw (aw (aw (aw (aw (aw (aw (az aB) (az aB)) (az aB)) (az aB)) (az aB)) aa) aa) (az aB)) h6
  refine aM ((iz (aI.gr b)) ((aI.gr b).3) (r) (by (have l:=L g6;have K:=gq l.1 l.2.1 l.2.2.1 l.2.2.2.1 l.2.2.2.2;first|(cases K;assumption)|exact bR K.ok _)) (by (have l:=L g6;have K:=gq l.1 l.2.1 l.2.2.1 l.2.2.2.1 l.2.2.2.2;first|(cases K;assumption)|exact bR K.ok _)) (by (have l:=L g6;have K:=gq l.1 l.2.1 l.2.2.1 l.2.2.2.1 l.2.2.2.2;first|(cases K;assumption)|exact bR K.ok _))) ?_
  refine aM ((iz (aI.gr b)) (k0) (c) (by (have l:=L g6;have K:=gq l.1 l.2.1 l.2.2.1 l.2.2.2.1 l.2.2.2.2;first|(cases K;assumption)|exact bR K.ok _)) (by (have l:=L g6;have K:=gq l.1 l.2.1 l.2.2.1 l.2.2.2.1 l.2.2.2.2;first|(cases K;assumption)|exact bR K.ok _)) (by (have l:=L g6;have K:=gq l.1 l.2.1 l.2.2.1 l.2.2.2.1 l.2.2.2.2;first|(cases K;assumption)|exact bR K.ok _))) ?_
  refine aM ((oF (aI.gr b)) (k0^toNat c%(aI.gr b).1) (a) (by (have l:=L g6;have K:=gq l.1 l.2.1 l.2.2.1 l.2.2.2.1 l.2.2.2.2;first|(cases K;assumption)|exact bR K.ok _)) (by (have l:=L g6;have K:=gq l.1 l.2.1 l.2.2.1 l.2.2.2.1 l.2.2.2.2;first|(cases K;assumption)|exact bR K.ok _)) (by (have l:=L g6;have K:=gq l.1 l.2.1 l.2.2.1 l.2.2.2.1 l.2.2.2.2;first|(cases K;assumption)|exact bR K.ok _))) ?_
  refine aW (fun h11=>(iz (aI.gr b)) (m) (r) (by (have l:=L g6;have K:=gq l.1 l.2.1 l.2.2.1 l.2.2.2.1 l.2.2.2.2;first|(cases K;assumption)|exact bR K.ok _)) (by (have l:=L g6;have K:=gq l.1 l.2.1 l.2.2.1 l.2.2.2.1 l.2.2.2.2;first|(cases K;assumption)|exact bR K.ok _)) (by (have l:=L g6;have K:=gq l.1 l.2.1 l.2.2.1 l.2.2.2.1 l.2.2.2.2;first|(cases K;assumption)|exact bR K.ok _))) ?_
  refine aW (fun h12=>(iz (aI.gr b)) (z) (c) (by (have l:=L g6;have K:=gq l.1 l.2.1 l.2.2.1 l.2.2.2.1 l.2.2.2.2;first|(cases K;assumption)|exact bR K.ok _)) (by (have l:=L g6;have K:=gq l.1 l.2.1 l.2.2.1 l.2.2.2.1 l.2.2.2.2;first|(cases K;assumption)|exact bR K.ok _)) (by (have l:=L g6;have K:=gq l.1 l.2.1 l.2.2.1 l.2.2.2.1 l.2.2.2.2;first|(cases K;assumption)|exact bR K.ok _))) ?_
  refine aW (fun h13=>(oF (aI.gr b)) (z^toNat c%(aI.gr b).1) (c2) (by (have l:=L g6;have K:=gq l.1 l.2.1 l.2.2.1 l.2.2.2.1 l.2.2.2.2;first|(cases K;assumption)|exact bR K.ok _)) (by (have l:=L g6;have K:=gq l.1 l.2.1 l.2.2.1 l.2.2.2.1 l.2.2.2.2;first|(cases K;assumption)|exact bR K.ok _)) (by (have l:=L g6;have K:=gq l.1 l.2.1 l.2.2.1 l.2.2.2.1 l.2.2.2.2;first|(cases K;assumption)|exact bR K.ok _))) ?_
  exact aq (ay.of_eq (congrArg _ (HN (L g6).1 (L g6).2.1 (L g6).2.2.1 (L g6).2.2.2.1 (L g6).2.2.2.2).symm))
end Go.Proofs.YtpefjkpdniiaoaaGreatDoor

namespace Go.Sp
open Go.IntKind (wrap)
open Int (toNat)
open Go Go.Am
theorem F4 {b:aI} (h:b.gr.Ok) (y:Int):0≤mW b y∧mW b y<b.gr.p:=by
 unfold mW
 split
 ·exact bR h _
 ·have:=h.p3;omega
variable {b : aI} {s : Nat → Int}
theorem IX (g:((aT b=false∨dV b (cG fun j=>s (3+j))=false)∨(¬s 1≥0∨¬s 1≤1073741824))∨bL b.gr (s 14)=false):gh b s=false:=eU fun h=>by
 obtain ⟨h1,h2,h3,h4,h5,h6,h7,h8,h9,h10⟩:=ry h
 grind
theorem Ky (g:((((¬me b (s 2)=0∨¬s 15=mW b (s 2))∨(bo b.gr=false∨aO b.gr (s 16)=false))∨¬s 17=cu b b.gr.g (s 14))∨¬s 18=cu b (mW b (s 2)) (s 14))):gh b s=false:=eU fun h=>by
 obtain ⟨h1,h2,h3,h4,h5,h6,h7,h8,h9,h10⟩:=ry h
 obtain ⟨e1,e2⟩:=Ma h6
 have e3:=N0 (bH.1 h1).G
 rw [e2] at g
 grind
theorem H5 (g:((aT b=true∧dV b (cG fun j=>s (3+j))=true)∧(s 1≥0∧s 1≤1073741824))∧bL b.gr (s 14)=true)
  (k:((((me b (s 2)=0∧s 15=mW b (s 2))∧(bo b.gr=true∧aO b.gr (s 16)=true))∧s 17=cu b b.gr.g (s 14))∧s 18=cu b (mW b (s 2)) (s 14))):vV b s:=by
 obtain ⟨⟨⟨g1,g2⟩,g3,g4⟩,g5⟩:=g
 obtain ⟨⟨⟨⟨k1,k2⟩,_,k3⟩,k4⟩,k5⟩:=k
 obtain ⟨e1,e2⟩:=OF k1
 rw [e2] at k2 k5
 exact ⟨g1,g2,g3,g4,g5,e1,k2,k3,k4,k5⟩
theorem I6 (g:(((aT b=false∨dV b (cG fun j=>s (3+j))=false)∨(¬s 1≥0∨¬s 1≤1073741824))∨oJ b (s 2)=false)∨bL b.gr (s 14)=false):gh b s=false:=eU fun h=>by
 obtain ⟨h1,h2,h3,h4,h5,h6,h7,h8,h9,h10⟩:=ry h
 grind
theorem Ls (g:(((¬s 15=fE b (s 2) b.g2∨aO b.gr (s 16)=false)∨¬s 17=cu b b.gr.g (s 14))∨¬s 18=cu b (fE b (s 2) b.g2) (s 14))):gh b s=false:=eU fun h=>by
 obtain ⟨h1,h2,h3,h4,h5,h6,h7,h8,h9,h10⟩:=ry h
 grind
theorem Cu (g:(((aT b=true∧dV b (cG fun j=>s (3+j))=true)∧(s 1≥0∧s 1≤1073741824))∧oJ b (s 2)=true)∧bL b.gr (s 14)=true)
  (k:(((s 15=fE b (s 2) b.g2∧aO b.gr (s 16)=true)∧s 17=cu b b.gr.g (s 14))∧s 18=cu b (fE b (s 2) b.g2) (s 14))):vV b s :=
 ⟨g.1.1.1.1,g.1.1.1.2,g.1.1.2.1,g.1.1.2.2,g.2,g.1.2,k.1.1.1,k.1.1.2,k.1.2,k.2⟩
theorem NR (h:vV b s) (e:¬s 0=1):gh b s=(s 0==3&&kG b (s 8) (s 9) (s 10) (s 15) (s 16) (s 17) (s 18) (s 19) (s 20)):=by
 rw [zg h,zO,beq_eq_false_iff_ne.2 e]
 cases s 0==3<;>rfl
end Go.Sp

namespace Go.Proofs.YtpefjkpdniiaoaaGreatDoor
open Go.IntKind (wrap)
open Int (toNat)
open Go Go.Am Go.Sp
set_option maxRecDepth 100000
theorem Jm (n:Int):Pure Tryz.prog aZ 160 [.int .i64 n] (.bool (decide (n≥0)&&decide (n≤1073741824))):=by
 refine ar (own:=bq) Tryz.func160 (by kernel_rfl) mixed (by kernel_rfl)
  (let y0:AV:=(.bool (decide (n≥0)&&decide (n≤1073741824)));(.out y0 [] y0 []))
  (by kernel_rfl) ?_
 exact aq (ay.of_eq rfl)
theorem F5 (n:Int):Pure Tryz.prog aZ 194 [.int .i64 n] (.bool (decide (n≥0)&&decide (n≤1073741824))):=by
 refine ar (own:=bq) Tryz.func194 (by kernel_rfl) mixed (by kernel_rfl)
  (let y0:AV:=(.bool (decide (n≥0)&&decide (n≤1073741824)));(.out y0 [] y0 []))
  (by kernel_rfl) ?_
 exact aq (ay.of_eq rfl)
theorem IU (b:aI) (x:Int):Pure Tryz.prog aZ 161 [b.av,.int .i64 x] (.bool (bL b.gr x)):=by
 refine ar (own:=bq) Tryz.func161 (by kernel_rfl) mixed (by kernel_rfl)
  (.out (.bool (decide (x≥0)&&decide (x<(aI.gr b).2))) [] (.bool (bL (aI.gr b) x)) [])
  (by kernel_rfl) ?_
 exact aq (ay.of_eq rfl)
theorem Ge (b:aI) (x e:Int) (h:b.gr.Ok) (hx:0≤x∧x<b.gr.p) (he:0≤e∧e<b.gr.q):Pure Tryz.prog aZ 162 [b.av,.int .i64 x,.int .i64 e] (.int .i64 (cu b x e)):=by
 have k1:=h.p1;have k2:=h.qp
 have k3:=nN (jk (a:=x) (b:=x) (m:=b.gr.p) (by omega) (by omega) (by omega) (by omega) (by omega) (by omega)) (by omega:¬e<0)
 refine ar (own:=bq) Tryz.func162 (by kernel_rfl) mixed (by kernel_rfl)
  (.sc true 142 [Zi x,Zi e,Zi (aI.gr b).1] (.aX [Zi (kd (eT x e (aI.gr b).1) (x^toNat e%(aI.gr b).1)),Zi (eT x e (aI.gr b).1)]) (.out (Zi (kd (eT x e (aI.gr b).1) (x^toNat e%(aI.gr b).1))) [] (Zi (cu b x e)) []))
  (by kernel_rfl) ?_
 refine aM (nH (x) (e) ((aI.gr b).1) (by omega)) ?_
 exact aq (ay.of_eq (by rw [k3];rfl))
theorem G0 (b:aI) (x e:Int) (h:b.gr.Ok) (hx:0≤x∧x<b.gr.p) (he:0≤e∧e<b.gr.q):Pure Tryz.prog aZ 197 [b.av,.int .i64 x,.int .i64 e] (.int .i64 (cu b x e)):=by
 have k1:=h.p1;have k2:=h.qp
 refine ar (own:=bq) Tryz.func197 (by kernel_rfl) mixed (by kernel_rfl)
  (let y0:AV:=(Zi (x^toNat e%(aI.gr b).1));(.sc true 76 [Zi x,Zi e,Zi (aI.gr b).1] y0 (.out y0 [] (Zi (cu b x e)) [])))
  (by kernel_rfl) ?_
 refine aM (jS (x) (e) ((aI.gr b).1) (by omega) (by omega) (by omega) (by omega) (by assumption)) ?_
 exact aq (ay.refl _)
theorem J0 (b:aI) (s:Nat→Int) (hw:b.gr.W):Pure Tryz.prog aZ 93 [b.av,.agg (J1 s)] (.bool (gh b s)):=by
 have c0:=eF b hw
 have c1:=wW b (cG fun j=>s (3+j)) hw
 have c2:=Jm (s 1)
 have c3:=IU b (s 14)
 have c4:=ze b (s 2) hw
 have c5:=en b.gr (s 16) hw
 have c6:=Ge b
 have c7:=Lj b (s 8) (s 9) (s 10) (s 15) (s 16) (s 17) (s 18) (s 19) (s 20) hw
 have K:=fun (g:((aT b=true∧dV b (cG fun j=>s (3+j))=true)∧(s 1≥0∧s 1≤1073741824))∧bL b.gr (s 14)=true)=>bH.1 g.1.1.1
 refine ar (own:=bq) Tryz.func93 (by kernel_rfl) mixed (by kernel_rfl)
  (let y0:AV:=(.bool (kG b (s 8) (s 9) (s 10) (s 15) (s 16) (s 17) (s 18) (s 19) (s 20)));let y1:AV:=(.bool (gh b s));(.sc true 31 [.agg (aI.cells b)] (.bool (aT b)) (.sc ((!aT b)==false) 84 [.agg (aI.cells b),.agg [Zi (s 3),Zi (s 4),Zi (s 5),Zi (s 6),Zi (s 7),Zi (s 8),Zi (s 9),Zi (s 10),Zi (s 11),Zi (s 12),Zi (s 13)]] (.bool (dV b (cG fun j=>s (3+j)))) (.sc ((!aT b || !dV b (cG fun j=>s (3+j)))==false) 160 [Zi (s 1)] (.bool (decide (s 1≥0)&&decide (s 1≤1073741824))) (.sc ((!aT b || !dV b (cG fun j=>s (3+j)) || !(decide (s 1≥0)&&decide (s 1≤1073741824)))==false) 161 [.agg (aI.cells b),Zi (s 14)] (.bool (bL (aI.gr b) (s 14))) (.br (!aT b || !dV b (cG fun j=>s (3+j)) || !(decide (s 1≥0)&&decide (s 1≤1073741824)) || !bL b.1 (s 14)) (.out (.bool false) [] y1 []) (.sc true 154 [.agg (aI.cells b),Zi (s 2)] (.aX [Zi (mW b (s 2)),Zi (me b (s 2))]) (.sc ((me b (s 2) != 0||s 15 != mW b (s 2))==false) 81 [.agg [Zi (aI.gr b).1,Zi (aI.gr b).2,Zi (aI.gr b).3],Zi (s 16)] (.bool (bo (aI.gr b)&&aO (aI.gr b) (s 16))) (.sc ((me b (s 2) != 0||s 15 != mW b (s 2) || !(bo b.1&&aO b.1 (s 16)))==false) 162 [.agg (aI.cells b),Zi (aI.gr b).3,Zi (s 14)] (Zi (cu b (aI.gr b).3 (s 14))) (.sc ((me b (s 2) != 0||s 15 != mW b (s 2) || !(bo b.1&&aO b.1 (s 16))||s 17 != cu b (aI.gr b).3 (s 14))==false) 162 [.agg (aI.cells b),Zi (mW b (s 2)),Zi (s 14)] (Zi (cu b (mW b (s 2)) (s 14))) (.br (me b (s 2) != 0||s 15 != mW b (s 2) || !(bo b.1&&aO b.1 (s 16))||s 17 != cu b (aI.gr b).3 (s 14)||s 18 != cu b (mW b (s 2)) (s 14)) (.out (.bool false) [] y1 []) (.br (s 0==1) (.out (.bool (s 19==0&&s 20==0)) [] y1 []) (.br (s 0==3) (.sc true 163 [.agg (aI.cells b),.agg [Zi (s 8),Zi (s 9),Zi (s 10)],.agg [Zi (s 15),Zi (s 16),Zi (s 17),Zi (s 18),Zi (s 19),Zi (s 20)]] y0 (.out y0 [] y1 [])) (.out (.bool false) [] y1 []))))))))))))))
  (by kernel_rfl) ?_
 refine aM (c0) ?_
 refine aW (fun h1=>c1) ?_
 refine aW (fun h2=>c2) ?_
 refine aW (fun h3=>c3) ?_
 refine aL (fun h4=>?_) (fun h4=>?_)
 ·have g4:=(aA (aA (aA (aC aF) (aC aF)) (aC (ao aa aa))) (aC aF)) h4
  exact aq (ay.of_eq (congrArg _ (IX g4).symm))
 ·have g4:=(aw (aw (aw (az aB) (az aB)) (az (ah af af))) (az aB)) h4
  refine aM (c4) ?_
  refine aW (fun h7=>c5) ?_
  refine aW (fun h8=>c6 ((aI.gr b).3) (s (14)) (by exact (K g4).G) (by exact (oT (K g4)).1) (by exact bO g4.2)) ?_
  refine aW (fun h9=>c6 (mW b (s (2))) (s (14)) (by exact (K g4).G) (by exact F4 (K g4).G _) (by exact bO g4.2)) ?_
  refine aL (fun h10=>?_) (fun h10=>?_)
  ·have g10:=(aA (aA (aA (aA aU aU) (aC (ao aF aF))) aU) aU) h10
   exact aq (ay.of_eq (congrArg _ (Ky g10).symm))
  ·have g10:=(aw (aw (aw (aw aR aR) (az (ah aB aB))) aR) aR) h10
   refine aL (fun h12=>?_) (fun h12=>?_)
   ·have g12:=ai h12
    exact aq ((by exact ay.of_eq (congrArg _ (Ib (H5 g4 g10) g12).symm)))
   ·have g12:=aj h12
    refine aL (fun h14=>?_) (fun h14=>?_)
    ·have g14:=ai h14
     refine aM (c7) ?_
     exact aq ((by exact ay.of_eq (congrArg _ (Mo (H5 g4 g10) g14).symm)))
    ·have g14:=aj h14
     exact aq ((by exact ay.of_eq (congrArg _ (M1 g12 g14).symm)))
theorem FT (b:aI) (s:Nat→Int) (hw:b.gr.W):Pure Tryz.prog aZ 122 [b.av,.agg (J1 s)] (.bool (gh b s)):=by
 have c0:=gG b hw
 have c1:=tI b (cG fun j=>s (3+j)) hw
 have c2:=F5 (s 1)
 have c3:=fun h=>DG b (s 2) h
 have c4:=vt b.gr (s 14)
 have c5:=fun h he=>rE b (s 2) h he
 have c6:=fun h=>dL b.gr (s 16) h
 have c7:=G0 b
 have c8:=Fe b (s 8) (s 9) (s 10) (s 15) (s 16) (s 17) (s 18) (s 19) (s 20) hw
 have K:=fun (g:(((aT b=true∧dV b (cG fun j=>s (3+j))=true)∧(s 1≥0∧s 1≤1073741824))∧oJ b (s 2)=true)∧bL b.gr (s 14)=true)=>bH.1 g.1.1.1.1
 refine ar (own:=bq) Tryz.func122 (by kernel_rfl) mixed (by kernel_rfl)
  (let y0:AV:=(.bool (gh b s));let y1:List AV:=[Zi (aI.gr b).1,Zi (aI.gr b).2,Zi (aI.gr b).3];(.sc true 64 [.agg (aI.cells b)] (.bool (aT b)) (.sc ((!aT b)==false) 111 [.agg (aI.cells b),.agg [Zi (s 3),Zi (s 4),Zi (s 5),Zi (s 6),Zi (s 7),Zi (s 8),Zi (s 9),Zi (s 10),Zi (s 11),Zi (s 12),Zi (s 13)]] (.bool (dV b (cG fun j=>s (3+j)))) (.sc ((!aT b || !dV b (cG fun j=>s (3+j)))==false) 194 [Zi (s 1)] (.bool (decide (s 1≥0)&&decide (s 1≤1073741824))) (.sc ((!aT b || !dV b (cG fun j=>s (3+j)) || !(decide (s 1≥0)&&decide (s 1≤1073741824)))==false) 192 [.agg (aI.cells b),Zi (s 2)] (.bool (oJ b (s 2))) (.sc ((!aT b || !dV b (cG fun j=>s (3+j)) || !(decide (s 1≥0)&&decide (s 1≤1073741824)) || !oJ b (s 2))==false) 195 [.agg y1,Zi (s 14)] (.bool (bL (aI.gr b) (s 14))) (.br (!aT b || !dV b (cG fun j=>s (3+j)) || !(decide (s 1≥0)&&decide (s 1≤1073741824)) || !oJ b (s 2) || !bL b.1 (s 14)) (.out (.bool false) [] y0 []) (.sc true 196 [.agg (aI.cells b),Zi (s 2)] (Zi (fE b (s 2) (aI.g2 b))) (.sc ((s 15 != fE b (s 2) b.3)==false) 110 [.agg y1,Zi (s 16)] (.bool (aO (aI.gr b) (s 16))) (.sc ((s 15 != fE b (s 2) b.3 || !aO b.1 (s 16))==false) 197 [.agg (aI.cells b),Zi (aI.gr b).3,Zi (s 14)] (Zi (cu b (aI.gr b).3 (s 14))) (.sc ((s 15 != fE b (s 2) b.3 || !aO b.1 (s 16)||s 17 != cu b (aI.gr b).3 (s 14))==false) 197 [.agg (aI.cells b),Zi (fE b (s 2) b.3),Zi (s 14)] (Zi (cu b (fE b (s 2) b.3) (s 14))) (.br (s 15 != fE b (s 2) b.3 || !aO b.1 (s 16)||s 17 != cu b (aI.gr b).3 (s 14)||s 18 != cu b (fE b (s 2) b.3) (s 14)) (.out (.bool false) [] y0 []) (.br (s 0==1) (.out (.bool (s 19==0&&s 20==0)) [] y0 []) (.sc ((s 0==3)==true) 198 [.agg (aI.cells b),.agg [Zi (s 8),Zi (s 9),Zi (s 10)],.agg [Zi (s 15),Zi (s 16),Zi (s 17),Zi (s 18),Zi (s 19),Zi (s 20)]] (.bool (kG b (s 8) (s 9) (s 10) (s 15) (s 16) (s 17) (s 18) (s 19) (s 20))) (.out (.bool (s 0==3&&kG b (s 8) (s 9) (s 10) (s 15) (s 16) (s 17) (s 18) (s 19) (s 20))) [] y0 [])))))))))))))))
  (by kernel_rfl) ?_
 refine aM (c0) ?_
 refine aW (fun h1=>c1) ?_
 refine aW (fun h2=>c2) ?_
 refine aW (fun h3=>c3 ((bH.1 (by simp at h3;exact h3.1.1)))) ?_
 refine aW (fun h4=>c4) ?_
 refine aL (fun h5=>?_) (fun h5=>?_)
 ·have g5:=(aA (aA (aA (aA (aC aF) (aC aF)) (aC (ao aa aa))) (aC aF)) (aC aF)) h5
  exact aq (ay.of_eq (congrArg _ (I6 g5).symm))
 ·have g5:=(aw (aw (aw (aw (az aB) (az aB)) (az (ah af af))) (az aB)) (az aB)) h5
  refine aM (c5 (by exact K g5) (by exact (oL.1 (ss.1 g5.1.2).2.1).2)) ?_
  refine aW (fun h8=>c6 (by exact (K g5).G)) ?_
  refine aW (fun h9=>c7 ((aI.gr b).3) (s (14)) (by exact (K g5).G) (by exact (oT (K g5)).1) (by exact bO g5.2)) ?_
  refine aW (fun h10=>c7 (fE b (s (2)) b.3) (s (14)) (by exact (K g5).G) (by exact bR (K g5).G _) (by exact bO g5.2)) ?_
  refine aL (fun h11=>?_) (fun h11=>?_)
  ·have g11:=(aA (aA (aA aU (aC aF)) aU) aU) h11
   exact aq (ay.of_eq (congrArg _ (Ls g11).symm))
  ·have g11:=(aw (aw (aw aR (az aB)) aR) aR) h11
   refine aL (fun h13=>?_) (fun h13=>?_)
   ·have g13:=ai h13
    exact aq ((by exact ay.of_eq (congrArg _ (Ib (Cu g5 g11) g13).symm)))
   ·have g13:=aj h13
    refine aW (fun h15=>c8) ?_
    exact aq ((by exact ay.of_eq (congrArg _ (NR (Cu g5 g11) g13).symm)))
end Go.Proofs.YtpefjkpdniiaoaaGreatDoor

namespace Go.Sp
open Go.IntKind (wrap)
open Int (toNat)
open Go Go.Am
theorem qg {x:Bool} (h:x=true→False):x=false:=by cases e:x with|false=>rfl|true=>exact (h e).elim
theorem yw {s:au} {i:Nat}:oe s i = !anyI (fun k=>s.lf k 0==s.lf i 0) i:=by
 rw [o5,List.not_any_eq_all_not];rfl
theorem MR {s:au} {i:Nat} (h:anyI (fun k=>s.lf k 0==s.lf i 0) i=true):oe s i=false:=by rw [yw,h];rfl
theorem M3 {s:au} {i:Nat} (h:anyI (fun k=>s.lf k 0==s.lf i 0) i=false):oe s i=true:=by rw [yw,h];rfl
def jv (a b:Int):Int:=if a<b then -1 else if b<a then 1 else 0
def sr (x y:db):Int:=if jv x.a y.a≠0 then jv x.a y.a else jv x.b y.b
theorem Ch {x y:db}:decide (sr x y≥0) = !z3 x y:=by
 unfold sr jv z3
 cases e:(decide (x.a<y.a)||(x.a==y.a&&decide (x.b<y.b))) with
 | true=>simp at e;grind
 | false=>simp at e;grind
structure yP (n : Nat) (U : Nat → db) : Prop where
  nl : ∀ i, i < n → (U i).sp.nl < 9223372036854775808
  np : ∀ i, i < n → (U i).sp.np < 9223372036854775808
theorem HA {u:db} (g:(((gF u.sp=false∨u.leaf<0)∨u.leaf≥u.sp.nl)∨¬u.a=u.sp.a)∨¬u.b=u.sp.lf u.leaf.toNat 0):tv u=false:=qg fun h=>by
 have:=qs.1 h
 grind
theorem H3 {u:db} (g:(((gF u.sp=true∧¬u.leaf<0)∧¬u.leaf≥u.sp.nl)∧u.a=u.sp.a)∧u.b=u.sp.lf u.leaf.toNat 0):tv u=true:=qs.2 ⟨g.1.1.1.1,by have:=g.1.1.1.2;omega,by have:=g.1.1.2;omega,g.1.2,g.2⟩
theorem Oz {x y:db} (h:sr x y≥0):z3 x y=false:=by have:=Ch (x:=x) (y:=y);rw [decide_eq_true h] at this;cases e:z3 x y<;>simp_all
theorem OR {x y:db} (h:¬sr x y≥0):z3 x y=true:=by have:=Ch (x:=x) (y:=y);rw [decide_eq_false h] at this;cases e:z3 x y<;>simp_all
theorem nF {n i:Nat} {p:Nat→Bool} (hi:i<n) (h:p i=false):(List.range n).all p=false:=qg fun e=>by
 rw [List.all_eq_true] at e;rw [e i (List.mem_range.2 hi)] at h;cases h
theorem jX {n:Nat} {p:Nat→Bool} (h:∀ i,i<n→p i=true):(List.range n).all p=true:=List.all_eq_true.2 fun i hi=>h i (List.mem_range.1 hi)
theorem Ci {nb k:Nat} {E:Nat→Nat→Int} (h:fB nb (E k)=false):xg nb E k=false:=by unfold xg;rw [h];rfl
theorem C4 {nb k:Nat} {E:Nat→Nat→Int} (h:fB nb (E k)=true) (g:fv (ck E k) (E k)=true):xg nb E k=true:=by unfold xg;rw [h,g];rfl
theorem Kl {nb k:Nat} {E:Nat→Nat→Int} (h:fB nb (E k)=true) (g:fB nb (E k)=false∨fv (ck E k) (E k)=false):xg nb E k=false:=by
 unfold xg;rcases g with g|g<;>rw [g]<;>simp
theorem KC {x i:Nat} {E:Nat→Nat→Int} (h:fv (ck E x) (E x)=true):so (ck E x) (E (toNat (x:Int))) i=ck E (x+1) i:=by
 rw [Int.toNat_natCast,so,if_pos h];rfl
theorem G7 {nb:Nat} {B:Nat→Int} {ne x:Nat} {E:Nat→Nat→Int} (h1:¬(nb:Int)<5) (h2:¬(nb:Int)>105) (h3:¬(ne:Int)>1000) (e:x=ne) (h:∀ k,k<x→xg nb E k=true) :
  ((List.range nb).all fun i=>ck E x (i+0)==B i)=fH nb B ne E:=by
 subst e;exact (Cp h1 h2 h3 h).symm
theorem lz {x y:Nat→Int}:kS x y=true↔x 0=y 0∧x 1=y 1∧x 2=y 2∧x 3=y 3∧x 4=y 4∧x 5=y 5∧x 6=y 6∧x 7=y 7∧x 8=y 8∧x 9=y 9∧x 10=y 10:=by
 simp [kS,List.range,List.range.loop]
theorem Is {x r:Nat→Int} (g:r 0=x 0∧(r 1=x 1∧(r 2=x 2∧(r 3=x 3∧(r 4=x 4∧((r 5=x 5∧(r 6=x 6∧(r 7=x 7∧True)))∧(r 8=x 8∧(r 9=x 9∧(r 10=x 10∧True))))))))):kS x r=true:=by
 obtain ⟨h0,h1,h2,h3,h4,⟨h5,h6,h7,_⟩,h8,h9,h10,_⟩:=g
 exact lz.2 ⟨h0.symm,h1.symm,h2.symm,h3.symm,h4.symm,h5.symm,h6.symm,h7.symm,h8.symm,h9.symm,h10.symm⟩
theorem Ig {x r:Nat→Int} (g:¬r 0=x 0∨(¬r 1=x 1∨(¬r 2=x 2∨(¬r 3=x 3∨(¬r 4=x 4∨((¬r 5=x 5∨(¬r 6=x 6∨(¬r 7=x 7∨true=false)))∨(¬r 8=x 8∨(¬r 9=x 9∨(¬r 10=x 10∨true=false))))))))):kS x r=false:=eU fun h=>by
 have:=lz.1 h
 simp only [Bool.true_eq_false,or_false] at g
 omega
theorem uf {x y:Nat→Int}:kS x y=kS y x:=by
 cases e:kS y x with
 | true=>have:=lz.1 e;exact lz.2 (by omega)
 | false=>exact eU fun h=>by have:=lz.1 h;rw [lz.2 (by omega)] at e;cases e
end Go.Sp

namespace Go.Proofs.YtpefjkpdniiaoaaGreatDoor
open Go.IntKind (wrap)
open Int (toNat)
open Go Go.Am Go.Sp
set_option maxRecDepth 100000
theorem rL (x l h:Int):Pure Tryz.prog aZ 32 [.int .i64 x,.int .i64 l,.int .i64 h] (.bool (decide (x≥l)&&decide (x≤h))):=by
 refine ar (own:=bq) Tryz.func32 (by kernel_rfl) mixed (by kernel_rfl)
  (let y0:AV:=(.bool (decide (x≥l)&&decide (x≤h)));(.out y0 [] y0 []))
  (by kernel_rfl) ?_
 exact aq (ay.of_eq rfl)
theorem xr (b:aI) (x:Int):Pure Tryz.prog aZ 33 [b.av,.int .i64 x] (.bool (er b x)):=by
 refine ar (own:=bq) Tryz.func33 (by kernel_rfl) mixed (by kernel_rfl)
  (.out (.bool (decide (x≥1)&&decide (x<(aI.gr b).2))) [] (.bool (er b x)) [])
  (by kernel_rfl) ?_
 exact aq (ay.of_eq rfl)
theorem Jn (c:cU) (y:Int):Pure Tryz.prog aZ 50 [.agg c.cells,.bJ 1 (aQ [.int .i64 y])] (.bool (c.key==y)):=by
 refine ar (own:=bq) Tryz.func50 (by kernel_rfl) mixed (by kernel_rfl)
  (.out (.bool (c.1==y)) [] (.bool (cU.key c==y)) [])
  (by kernel_rfl) ?_
 exact aq (ay.of_eq rfl)
theorem Lk (n:Nat) (C:Nat→cU) (y:Int) (hn:n<9223372036854775808):Pure Tryz.prog aZ 46 [wk n C,.fn (.func 50) [] [.bJ 1 (aQ [.int .i64 y])]] (.int .i64 (aG (fun i=>(C i).key==y) n 0)):=by
 have c1:=fun i=>Jn (C i)
 refine ar (own:=bq) Tryz.func46 (by kernel_rfl) mixed (by kernel_rfl)
  (let y0:=(fun (x:{ x:Nat // x≤n∧(fun i=>aG (fun i=>cU.key (C i)==y) n 0=aG (fun i=>cU.key (C i)==y) (n - i) i) x })=>aY [0,1,7,8] [.aH 7 n fun i j=>aQ (cU.cells (C i)) j,AV.fn (Fn.func (50:FuncId)) [] [AV.bJ 1 (aQ [Zi y])],Zi n,Zi x.1] []);let y1:=(fun (x:{ x:Nat // x≤n∧(fun i=>aG (fun i=>cU.key (C i)==y) n 0=aG (fun i=>cU.key (C i)==y) (n - i) i) x })=>n - x.1);let y2:AV:=(Zi (aG (fun i=>cU.key (C i)==y) n 0));(.loop ({ x:Nat // x≤n∧(fun i=>aG (fun i=>cU.key (C i)==y) n 0=aG (fun i=>cU.key (C i)==y) (n - i) i) x }) y0 y1 (⟨0,⟨Nat.zero_le n,rfl⟩⟩) [0,1,7,8] [] [.aH 7 n fun i j=>aQ (cU.cells (C i)) j,AV.fn (Fn.func (50:FuncId)) [] [AV.bJ 1 (aQ [Zi y])],Zi n,Zi 0] [] (fun x0=>(.br (decide ((x0.1:Int)<(n:Int))) (.bj (0≤(x0.1:Int)∧(x0.1:Int)<(n:Int)) (.sc true 50 [.agg (cU.cells (C (toNat (↑(x0.1):Int)))),AV.bJ 1 (aQ [Zi y])] (.bool (cU.key (C (toNat (↑(x0.1):Int)))==y)) (.br ((C (toNat (↑(x0.1):Int))).1==y) (.out (Zi x0.1) [] y2 []) (.again (bh 0 y0 y1 x0) [0,1,7,8] [] [.aH 7 n fun i j=>aQ (cU.cells (C i)) j,AV.fn (Fn.func (50:FuncId)) [] [AV.bJ 1 (aQ [Zi y])],Zi n,Zi (wrap .i64 ((x0.1:Int)+1))] [])))) (.out (Zi (-1)) [] y2 [])))))
  (by kernel_rfl) ?_
 refine aV (fun _ hs=>hs.le (⟨.refl _,.refl _,.refl _,.refl _,trivial⟩) (trivial)) (fun x0=>?_)
 try (have q0:=x0.2;dsimp only at q0)
 refine aL (fun h1=>?_) (fun h1=>?_)
 ·have g1:=af h1
  refine aD (by omega) ?_
  refine aM (c1 (toNat (↑(x0.1):Int)) (y)) ?_
  refine aL (fun h4=>?_) (fun h4=>?_)
  ·have g4:=ai h4
   try simp only [Int.toNat_natCast] at g4
   exact aq (ay.of_eq (congrArg _ (cr x0.2.2 (by omega) (beq_iff_eq.2 g4))))
  ·have g4:=aj h4
   try simp only [Int.toNat_natCast] at g4
   exact aN (⟨x0.1+1,by omega,bS x0.2.2 (by omega) (beq_eq_false_iff_ne.2 g4)⟩) (fun _ hs=>hs.le (⟨.refl _,.refl _,.refl _,aK (by omega),trivial⟩) (trivial)) (by dsimp only;omega)
 ·have g1:=aa h1
  exact aq (ay.of_eq (congrArg _ (bW x0.2.2 (by omega))))
theorem tq (k:aS) (y:Int) (hn:k.nc<9223372036854775808):Pure Tryz.prog aZ 21 [.agg k.cells,.int .i64 y] (.int .i64 (gW k y)):=by
 have c1:=Lk k.nc k.C y hn
 refine ar (own:=bq) Tryz.func21 (by kernel_rfl) mixed (by kernel_rfl)
  (.sc true 46 [.aH 7 k.8 fun i j=>aQ (cU.cells (aS.C k i)) j,AV.fn (Fn.func 50) [] [AV.bJ 1 fun k=>aQ [Zi y] k]] (Zi (aG (fun i=>cU.key (aS.C k i)==y) (aS.nc k) 0)) (.out (Zi (aG (fun i=>(aS.C k i).1==y) k.8 0)) [] (Zi (gW k y)) []))
  (by kernel_rfl) ?_
 refine aM (c1) ?_
 exact aq (ay.refl _)
theorem JX (s:Nat→Int) (y n:Int):Pure Tryz.prog aZ 165 [.agg (J1 s),.bJ 1 (aQ [.int .i64 y]),.bJ 1 (aQ [.int .i64 n])] (.bool (s 2==y&&s 1==n)):=by
 refine ar (own:=bq) Tryz.func165 (by kernel_rfl) mixed (by kernel_rfl)
  (.out (.bool (s 2==y&&s 1==n)) [] (.bool (s 2==y&&s 1==n)) [])
  (by kernel_rfl) ?_
 exact aq (ay.of_eq rfl)
theorem Jb (n:Nat) (I:Nat→Nat→Int) (y m:Int) (hn:n<9223372036854775808):Pure Tryz.prog aZ 164 [sD n I,.fn (.func 165) [] [.bJ 1 (aQ [.int .i64 y]),.bJ 1 (aQ [.int .i64 m])]] (.int .i64 (aG (fun i=>I i 2==y&&I i 1==m) n 0)):=by
 have c1:=fun i=>JX (I i)
 refine ar (own:=bq) Tryz.func164 (by kernel_rfl) mixed (by kernel_rfl)
  (let y1:=(fun (x:{ x:Nat // x≤n∧(fun (i:Nat)=>aG (fun (i:Nat)=>I i 2==y&&I i 1==m) n 0=aG (fun (i:Nat)=>I i 2==y&&I i 1==m) (n - i) i) x })=>n - x.1);let y2:AV:=(Zi (aG (fun (i:Nat)=>I i 2==y&&I i 1==m) n 0));let y3:List AV:=[AV.bJ 1 (aQ [Zi y]),AV.bJ 1 (aQ [Zi m])];let y0:=(fun (x:{ x:Nat // x≤n∧(fun (i:Nat)=>aG (fun (i:Nat)=>I i 2==y&&I i 1==m) n 0=aG (fun (i:Nat)=>I i 2==y&&I i 1==m) (n - i) i) x })=>aY [0,1,7,8] [AV.aH 21 n fun (i j:Nat)=>Zi (I i j),AV.fn (Fn.func (165:FuncId)) [] y3,Zi (↑n:Int),Zi (↑(x.1):Int)] []);(.loop ({ x:Nat // x≤n∧(fun (i:Nat)=>aG (fun (i:Nat)=>I i 2==y&&I i 1==m) n 0=aG (fun (i:Nat)=>I i 2==y&&I i 1==m) (n - i) i) x }) y0 y1 (⟨0,⟨Nat.zero_le n,rfl⟩⟩) ([0,1,7,8]) ([]) ([AV.aH 21 n fun (i j:Nat)=>Zi (I i j),AV.fn (Fn.func (165:FuncId)) [] y3,Zi (↑n:Int),Zi 0]) ([]) (fun x0=>(.br (decide ((↑x0.1:Int)<(↑n:Int))) (.bj ((0:Int)≤(↑x0.1:Int)∧(↑x0.1:Int)<(↑n:Int)) (.sc (true) 165 ([AV.agg [Zi (I (toNat (↑x0.1:Int)) 0),Zi (I (toNat (↑x0.1:Int)) 1),Zi (I (toNat (↑x0.1:Int)) 2),Zi (I (toNat (↑x0.1:Int)) 3),Zi (I (toNat (↑x0.1:Int)) 4),Zi (I (toNat (↑x0.1:Int)) 5),Zi (I (toNat (↑x0.1:Int)) 6),Zi (I (toNat (↑x0.1:Int)) 7),Zi (I (toNat (↑x0.1:Int)) 8),Zi (I (toNat (↑x0.1:Int)) 9),Zi (I (toNat (↑x0.1:Int)) 10),Zi (I (toNat (↑x0.1:Int)) 11),Zi (I (toNat (↑x0.1:Int)) 12),Zi (I (toNat (↑x0.1:Int)) 13),Zi (I (toNat (↑x0.1:Int)) 14),Zi (I (toNat (↑x0.1:Int)) 15),Zi (I (toNat (↑x0.1:Int)) 16),Zi (I (toNat (↑x0.1:Int)) 17),Zi (I (toNat (↑x0.1:Int)) 18),Zi (I (toNat (↑x0.1:Int)) 19),Zi (I (toNat (↑x0.1:Int)) 20)],AV.bJ 1 (aQ [Zi y]),AV.bJ 1 (aQ [Zi m])]) (AV.bool (I (toNat (↑x0.1:Int)) 2==y&&I (toNat (↑x0.1:Int)) 1==m)) (.br (I (toNat (↑x0.1:Int)) 2==y&&I (toNat (↑x0.1:Int)) 1==m) (.out (Zi (↑x0.1:Int)) [] y2 []) (.again (bh 0 y0 y1 x0) ([0,1,7,8]) ([]) ([AV.aH 21 n fun (i j:Nat)=>Zi (I i j),AV.fn (Fn.func (165:FuncId)) [] y3,Zi (↑n:Int),Zi (wrap .i64 ((↑x0.1:Int)+1))]) ([]))))) (.out (Zi (-1)) [] y2 [])))))
  (by kernel_rfl) ?_
 refine aV (fun _ hs=>hs.le (⟨.refl _,.refl _,.refl _,.refl _,trivial⟩) (trivial)) (fun x0=>?_)
 try (have q0:=x0.2;dsimp only at q0)
 refine aL (fun h1=>?_) (fun h1=>?_)
 ·have g1:=af h1
  refine aD (by omega) ?_
  refine aM (c1 (toNat (↑x0.1:Int)) (y) (m)) ?_
  refine aL (fun h4=>?_) (fun h4=>?_)
  ·have g4:=(ah ai ai) h4
   try simp only [Int.toNat_natCast] at g4
   exact aq (ay.of_eq (congrArg _ (cr x0.2.2 (by omega) (by simpa using h4))))
  ·have g4:=(ao aj aj) h4
   try simp only [Int.toNat_natCast] at g4
   exact aN (⟨x0.1+1,by omega,bS x0.2.2 (by omega) (by simpa using h4)⟩) (fun _ hs=>hs.le (⟨.refl _,.refl _,.refl _,aK (by omega),trivial⟩) (trivial)) (by dsimp only;omega)
 ·have g1:=aa h1
  exact aq (ay.of_eq (congrArg _ (bW x0.2.2 (by omega))))
theorem BT (k:aS) (y m:Int) (hn:k.ni<9223372036854775808):Pure Tryz.prog aZ 94 [.agg k.cells,.int .i64 y,.int .i64 m] (.int .i64 (qI k y m)):=by
 have c1:=Jb k.ni k.I y m hn
 refine ar (own:=bq) Tryz.func94 (by kernel_rfl) mixed (by kernel_rfl)
  (.sc true 164 [.aH 21 k.16 fun i j=>Zi (k.17 i j),AV.fn (Fn.func 165) [] [AV.bJ 1 fun k=>aQ [Zi y] k,AV.bJ 1 fun k=>aQ [Zi m] k]] (Zi (aG (fun i=>aS.I k i 2==y&&aS.I k i 1==m) (aS.ni k) 0)) (.out (Zi (aG (fun i=>k.17 i 2==y&&k.17 i 1==m) k.16 0)) [] (Zi (qI k y m)) []))
  (by kernel_rfl) ?_
 refine aM (c1) ?_
 exact aq (ay.refl _)
theorem I4 (n:Nat) (R:Nat→Nat→Int) (r:Nat→Int) (hn:n<9223372036854775808):Pure Tryz.prog aZ 92 [.aH 11 n fun i j=>.int .i64 (R i j),(cG r).av] (.int .i64 (aG (fun i=>kS (R i) r) n 0)):=by
 refine ar (own:=bq) Tryz.func92 (by kernel_rfl) mixed (by kernel_rfl)
  (let y1:=(fun (x:{ x:Nat // x≤n∧(fun (i:Nat)=>aG (fun (i:Nat)=>kS (R i) r) n 0=aG (fun (i:Nat)=>kS (R i) r) (n - i) i) x })=>n - x.1);let y2:AV:=(Zi (aG (fun (i:Nat)=>kS (R i) r) n 0));let y3:List (Option Ob):=[some ⟨11,1,true,bA.bc [fZ.cells (cG r)]⟩];let y0:=(fun (x:{ x:Nat // x≤n∧(fun (i:Nat)=>aG (fun (i:Nat)=>kS (R i) r) n 0=aG (fun (i:Nat)=>kS (R i) r) (n - i) i) x })=>aY [0,3,7,8] [AV.aH 11 n fun (i j:Nat)=>Zi (R i j),AV.own 0 11 0 0 11,Zi (↑n:Int),Zi (↑(x.1):Int)] y3);(.loop ({ x:Nat // x≤n∧(fun (i:Nat)=>aG (fun (i:Nat)=>kS (R i) r) n 0=aG (fun (i:Nat)=>kS (R i) r) (n - i) i) x }) y0 y1 (⟨0,⟨Nat.zero_le n,rfl⟩⟩) ([0,3,7,8]) ([0]) ([AV.aH 11 n fun (i j:Nat)=>Zi (R i j),AV.own 0 11 0 0 11,Zi (↑n:Int),Zi 0]) (y3) (fun x0=>(.br (decide ((↑x0.1:Int)<(↑n:Int))) (.bj ((0:Int)≤(↑x0.1:Int)∧(↑x0.1:Int)<(↑n:Int)) (.br (r 0==R (toNat (↑x0.1:Int)) 0&&(r 1==R (toNat (↑x0.1:Int)) 1&&(r 2==R (toNat (↑x0.1:Int)) 2&&(r 3==R (toNat (↑x0.1:Int)) 3&&(r 4==R (toNat (↑x0.1:Int)) 4&&(r 5==R (toNat (↑x0.1:Int)) 5&&(r 6==R (toNat (↑x0.1:Int)) 6&&(r 7==R (toNat (↑x0.1:Int)) 7&&true))&&(r 8==R (toNat (↑x0.1:Int)) 8&&(r 9==R (toNat (↑x0.1:Int)) 9&&(r 10==R (toNat (↑x0.1:Int)) 10&&true))))))))) (.out (Zi (↑x0.1:Int)) [] y2 []) (.again (bh 0 y0 y1 x0) ([0,3,7,8]) ([0]) ([AV.aH 11 n fun (i j:Nat)=>Zi (R i j),AV.own 0 11 0 0 11,Zi (↑n:Int),Zi (wrap .i64 ((↑x0.1:Int)+1))]) (y3)))) (.out (Zi (-1)) [] y2 [])))))
  (by kernel_rfl) ?_
 refine aV (fun _ hs=>hs.le (⟨.refl _,.refl _,.refl _,.refl _,trivial⟩) (⟨.refl _,trivial⟩)) (fun x0=>?_)
 try (have q0:=x0.2;dsimp only at q0)
 refine aL (fun h1=>?_) (fun h1=>?_)
 ·have g1:=af h1
  refine aD (by omega) ?_
  refine aL (fun h3=>?_) (fun h3=>?_)
  ·have g3:=(ah ai (ah ai (ah ai (ah ai (ah ai (ah (ah ai (ah ai (ah ai aB))) (ah ai (ah ai (ah ai aB))))))))) h3
   try simp only [Int.toNat_natCast] at g3
   exact aq (ay.of_eq (congrArg _ (cr (p:=fun i=>kS (R i) r) x0.2.2 (by omega) (Is g3))))
  ·have g3:=(ao aj (ao aj (ao aj (ao aj (ao aj (ao (ao aj (ao aj (ao aj aF))) (ao aj (ao aj (ao aj aF))))))))) h3
   try simp only [Int.toNat_natCast] at g3
   exact aN (⟨x0.1+1,by omega,bS (p:=fun i=>kS (R i) r) x0.2.2 (by omega) (Ig g3)⟩) (fun _ hs=>hs.le (⟨.refl _,.refl _,.refl _,aK (by omega),trivial⟩) (⟨.refl _,trivial⟩)) (by dsimp only;omega)
 ·have g1:=aa h1
  exact aq (ay.of_eq (congrArg _ (bW x0.2.2 (by omega))))
theorem ue (n:Nat) (f:Nat→Int) (v:Int) (hn:n≤1000):Pure Tryz.prog aZ 175 [.aH 1 n fun i _=>.int .i64 (f i),.int .i64 v] (.bool (decide (v∈(List.range n).map f))) :=
 (ov ((List.range n).map f) v (by simp;omega)).via ⟨FR,ay.refl _,trivial⟩
theorem FD (r h:Nat→Int) (i l:Int) (n:Nat) (P:Nat→Nat→Int) (hl:0≤l∧l≤5) (hn:n≤1000000) (hi:0≤i∧i<2^l.toNat) (hh:cS h 32) (hP:∀ k,k<n→cS (P k) 32) :
  Pure Tryz.prog aZ 178 [.agg (bf r),.agg (bf h),.int .i64 l,.agg [.int .i64 i,dD n P]] (.bool ((n:Int)==l&&hEq (bE h i P n) r)):=by
 obtain ⟨m,rfl⟩:∃ m:Nat,l=m:=⟨l.toNat,by omega⟩
 have hi2:i<((2^m:Nat):Int):=by
  have:=hi.2
  rw [show (m:Int).toNat=m by omega] at this
  rw [Int.natCast_pow]
  exact this
 by_cases e:n=m
 ·subst e
  rw [show ((n:Int)==(n:Int))=true by simp,Bool.true_and]
  exact Gf r h i n P (by omega) hi.1 hi2 hh hP
 ·rw [show ((n:Int)==(m:Int))=false by simp;omega,Bool.false_and]
  exact Hn r h i m n P (by omega) e hn hi.1 hi2
theorem EA (n d:Nat) (h:Nat→Nat→Int) (hn:n=2^d) (hd:d≤5) (hb:∀ i,i<n→cS (h i) 32):Pure Tryz.prog aZ 177 [dD n h] (.aX [.agg (bf (dP h d 0)),.int .i64 0]):=by
 subst hn
 exact FK d hd h hb
theorem Nb (b:aI) (r:fZ) (s:au) (hw:b.gr.W) (hr:cS s.root 32) (hp:cS s.bM 32) (hf:∀ k,k<s.np→cS (s.pf k) 32) (hn:s.np≤1000000) (hl:s.nl≤1000):Pure Tryz.prog aZ 101 [b.av,r.av,s.av] (.bool (kC b r s)):=by
 have c1:=I8 b r s.di hw hr
 have c2:=wG s.depth s.level s.index
 have c3:=qQ s.ju
 have c4:=EH b s.di s.level s.index s.ju hr hp
 have c5:=fun x r1 r2 hv ha hk=>Dx b s.a (l7 b s) x r1 r2 hw hv ha hk
 have c6:=fun N h1 h2 h3 h4=>GD b N h1 h2 (jN s) hw h3 h4
 have c7:=fun n h1 h2 h3=>EA n (nA s) (fun i=>fS (jN s i)) h1 h2 h3
 have c8:=fun h1 h2 h3=>FD s.root (dI s) s.kg s.level s.np s.pf h1 hn h2 h3 hf
 refine ar (own:=bq) Tryz.func101 (by kernel_rfl) mixed (by kernel_rfl)
  (.sc true 170 [.agg (aI.cells b),.agg (fZ.cells r),.agg (Zi s.1::Zi s.2::Zi s.3::Zi s.4::Zi s.5::(bf s.6++[Zi s.7,Zi s.8,Zi s.9,Zi s.10]))] (.bool (eY b r (au.di s))) (.sc ((!eY b r (au.di s))==false) 171 [Zi s.4,.agg [Zi s.11,Zi s.12]] (.bool (bU (au.depth s) (au.level s) (au.index s))) (.sc ((!eY b r (au.di s) || !bU s.4 s.11 s.12)==false) 172 [.agg (bf s.13++[Zi s.14,Zi s.15])] (.bool (fM (je.time (au.ju s)) (je.number (au.ju s)))) (.bj (((!eY b r (au.di s) || !bU s.4 s.11 s.12 || !fM s.14 s.15)==false)=true→(0:Int)≤wrap .i64 (s.4 - s.11)) (.br (!eY b r (au.di s) || !bU s.4 s.11 s.12 || !fM s.14 s.15||(s.16:Int) != wrap .i64 ((1:Int)*(2:Int)^min (toNat (wrap .i64 (s.4 - s.11))) 64)||s.18 != s.12) (.out (.bool false) [] (.bool (kC b r s)) []) (.sc true 173 [.agg (aI.cells b),.agg (Zi s.1::Zi s.2::Zi s.3::Zi s.4::Zi s.5::(bf s.6++[Zi s.7,Zi s.8,Zi s.9,Zi s.10])),.agg [Zi s.11,Zi s.12],.agg (bf s.13++[Zi s.14,Zi s.15])] (Zi (dW (bN.q (aI.gr b)) (au.di s) (au.level s) (au.index s) (au.ju s))) (.loop ({ x:Nat // x≤au.nl s∧(fun (x:Nat)=>∀ (j:Nat),j<x→xy b s j=true) x }) (fun x=>aY [2,3,5,7,67,68,8,69] [.agg (au.cells s),.own 0 6 0 0 6,.own 1 80 0 0 80,Zi (dW (aI.gr b).2 (au.di s) s.11 s.12 (au.ju s)),.aH 3 s.16 fun i j=>Zi (s.17 i j),Zi s.16,.ba 2 1 0 (x.1),Zi x.1] [some ⟨6,1,true,.bc [aI.cells b]⟩,some ⟨80,1,true,.bc [au.cells s]⟩,some ⟨(1:Nat),x.1,true,.fn fun i x=>Zi (jN s i)⟩]) (fun x=>au.nl s - x.1) (⟨(0:Nat),⟨Nat.zero_le (au.nl s),fun (j:Nat) (hj:j<0)=>absurd hj (Nat.not_lt_zero j)⟩⟩) [2,3,5,7,67,68,8,69] [0,16,754] [.agg (au.cells s),.own 0 6 0 0 6,.own 1 80 0 0 80,Zi (dW (aI.gr b).2 (au.di s) s.11 s.12 (au.ju s)),.aH 3 s.16 fun i j=>Zi (s.17 i j),Zi s.16,.bn,Zi 0] [some ⟨6,1,true,.bc [aI.cells b]⟩,some ⟨80,1,true,.bc [au.cells s]⟩,some ⟨1,0,true,.ty (999999999:TypeId) (.bc [])⟩] (fun x7=>(.br (decide ((x7.1:Int)<(s.16:Int))) (.bj (0≤(x7.1:Int)∧(x7.1:Int)<(s.16:Int)) (.sc true 174 [.agg (aI.cells b),Zi s.5,Zi (dW (aI.gr b).2 (au.di s) s.11 s.12 (au.ju s)),.agg [Zi (s.17 (toNat (x7.1:Int)) 0),Zi (s.17 (toNat (x7.1:Int)) 1),Zi (s.17 (toNat (x7.1:Int)) 2)]] (.bool (fq b (au.a s) (l7 b s) (s.17 (toNat (x7.1:Int)) 0) (s.17 (toNat (x7.1:Int)) 1) (s.17 (toNat (x7.1:Int)) 2))) (.sc ((!fq b s.5 (l7 b s) (s.17 (toNat (x7.1:Int)) 0) (s.17 (toNat (x7.1:Int)) 1) (s.17 (toNat (x7.1:Int)) 2))==false) 175 [.aH 1 x7.1 fun r k=>Zi (jN s (r+0)),Zi (s.17 (toNat (x7.1:Int)) 0)] (.bool (decide (s.17 (toNat (x7.1:Int)) 0∈List.map (fun i=>jN s (i+0)) (List.range x7.1)))) (.br (!fq b s.5 (l7 b s) (s.17 (toNat (x7.1:Int)) 0) (s.17 (toNat (x7.1:Int)) 1) (s.17 (toNat (x7.1:Int)) 2)||decide (s.17 (toNat (x7.1:Int)) 0∈List.map (fun i=>jN s (i+0)) (List.range x7.1))) (.out (.bool false) [] (.bool (kC b r s)) []) (.bj ((x7.1+1)*8≤140737488355328) (.again (bh 0 (fun x=>aY [2,3,5,7,67,68,8,69] [.agg (au.cells s),.own 0 6 0 0 6,.own 1 80 0 0 80,Zi (dW (aI.gr b).2 (au.di s) s.11 s.12 (au.ju s)),.aH 3 s.16 fun i j=>Zi (s.17 i j),Zi s.16,.ba 2 1 0 (x.1),Zi x.1] [some ⟨6,1,true,.bc [aI.cells b]⟩,some ⟨80,1,true,.bc [au.cells s]⟩,some ⟨(1:Nat),x.1,true,.fn fun i x=>Zi (jN s i)⟩]) (fun x=>au.nl s - x.1) x7) [2,3,5,7,67,68,8,69] [0,1,187] [.agg (au.cells s),.own 0 6 0 0 6,.own 1 80 0 0 80,Zi (dW (aI.gr b).2 (au.di s) s.11 s.12 (au.ju s)),.aH 3 s.16 fun i j=>Zi (s.17 i j),Zi s.16,.ba 2 1 0 (x7.1+1),Zi (wrap .i64 ((x7.1:Int)+(1:Int)))] [some ⟨6,1,true,.bc [aI.cells b]⟩,some ⟨80,1,true,.bc [au.cells s]⟩,some ⟨1,x7.1+1,true,.fn fun i j=>Zi (bif Nat.blt i x7.1 then jN s i else aE (aQ [Zi (s.17 (toNat (↑(x7.1):Int)) 0)] j))⟩])))))) (.dc true 176 [.agg (aI.cells b),.aH 1 x7.1 fun r k=>Zi (jN s (r+0))] (.aX [dD x7.1 fun i=>fS (jN s i),Zi 0]) (.ff (.sc true 177 [.aH 32 x7.1 fun i j=>Zb (fS (jN s i) j)] (.aX [.agg (bf (dP (fun i=>fS (jN s i)) (nA s) 0)),Zi 0]) (.sc true 178 [.agg (bf s.6),.agg (bf (dP (fun i=>fS (jN s i)) (nA s) 0)),Zi s.11,.agg [Zi s.18,.aH 32 s.19 fun i j=>Zb (s.20 i j)]] (.bool ((↑(au.np s):Int)==au.level s&&hEq (bE (dI s) (au.kg s) (au.pf s) (au.np s)) (au.root s))) (.out (.bool ((s.19:Int)==s.11&&hEq (bE (dI s) s.18 s.20 s.19) s.6)) [] (.bool (kC b r s)) []))))))))))))))
  (by kernel_rfl) ?_
 refine aM (c1) ?_
 refine aW (fun h1=>c2) ?_
 refine aW (fun h2=>c3) ?_
 refine aD (fun hr=>by have hr:=(dd (aw (aw (az aB) (az aB)) (az aB))) hr;have k:=iK hr.1.2;have e:=(wO hr.1.2).2.1;rw [e];omega) ?_
 refine aL (fun h4=>?_) (fun h4=>?_)
 ·have g4:=(aA (aA (aA (aA (aC aF) (aC aF)) (aC aF)) aU) aU) h4
  exact aq (ay.of_eq (congrArg _ (Ix g4).symm))
 ·have g4:=(aw (aw (aw (aw (az aB) (az aB)) (az aB)) aR) aR) h4
  refine aM (c4 (by (cases iL g4;assumption)) (by (cases iL g4;assumption))) ?_
  refine aV (fun _ hs=>hs.le (by repeat' (first|exact trivial|(first|exact ay.refl _|exact aK (by omega)|exact ay.nil rfl|exact ay.of_eq (congrArg (AV.ba _ _ _) (by first|omega|(dsimp only;omega)))|exact ay.of_eq (congrArg (AV.int _) (by first|omega|(dsimp only;omega))))|refine And.intro ?_ ?_)) (by repeat' (first|exact trivial|(first|exact aJ.refl _|exact aJ.bx|exact aJ.zero|exact aJ.push rfl rfl|exact aJ.ct rfl|exact aJ.len (by omega)|exact aJ.row (by repeat' (first|exact trivial|(first|exact ay.refl _|exact aK (by omega)|exact ay.nil rfl|exact ay.of_eq (congrArg (AV.ba _ _ _) (by first|omega|(dsimp only;omega)))|exact ay.of_eq (congrArg (AV.int _) (by first|omega|(dsimp only;omega))))|refine And.intro ?_ ?_)))|refine And.intro ?_ ?_))) (fun x7=>?_)
  try (have q7:=x7.2;dsimp only at q7)
  refine aL (fun h8=>?_) (fun h8=>?_)
  ·have g8:=af h8
   refine aD (by omega) ?_
   refine aM (c5 (s.17 (toNat (↑x7.1:Int)) (0)) (s.17 (toNat (↑x7.1:Int)) (1)) (s.17 (toNat (↑x7.1:Int)) (2)) (by (cases iL g4;assumption)) (by (cases iL g4;assumption)) (by (cases iL g4;assumption))) ?_
   refine aW (fun h11=>ue (x7.1) (fun (i:Nat)=>jN s (i+0)) (s.17 (toNat (↑x7.1:Int)) (0)) (by omega)) ?_
   refine aL (fun h12=>?_) (fun h12=>?_)
   ·have g12:=(aA (aC aF) af) h12
    try simp only [Int.toNat_natCast] at g12
    exact aq (ay.of_eq (congrArg _ (Dq (by omega) (w7 g12)).symm))
   ·have g12:=(aw (az aB) aa) h12
    try simp only [Int.toNat_natCast] at g12
    refine aD (by omega) ?_
    exact aN (⟨x7.1+1,by omega,cN x7.2.2 (xV g12)⟩) (fun _ hs=>hs.le (by repeat' (first|exact trivial|(first|exact ay.refl _|exact aK (by omega)|exact ay.nil rfl|exact ay.of_eq (congrArg (AV.ba _ _ _) (by first|omega|(dsimp only;omega)))|exact ay.of_eq (congrArg (AV.int _) (by first|omega|(dsimp only;omega))))|refine And.intro ?_ ?_)) (by repeat' (first|exact trivial|(first|exact aJ.refl _|exact aJ.bx|exact aJ.zero|exact aJ.push rfl rfl|exact aJ.ct rfl|exact aJ.len (by omega)|exact aJ.row (by repeat' (first|exact trivial|(first|exact ay.refl _|exact aK (by omega)|exact ay.nil rfl|exact ay.of_eq (congrArg (AV.ba _ _ _) (by first|omega|(dsimp only;omega)))|exact ay.of_eq (congrArg (AV.int _) (by first|omega|(dsimp only;omega))))|refine And.intro ?_ ?_)))|refine And.intro ?_ ?_))) (by (dsimp only;omega))
  ·have g8:=aa h8
   refine b9 (c6 (x7.1) (by (cases iL g4;rw [show x7.1=s.nl by omega];assumption)) (by (cases iL g4;rw [show x7.1=s.nl by omega];assumption)) (by (cases iL g4;assumption)) (by exact fun i hi=>JY (x7.2.2 i hi))) ?_
   refine cz ?_
   refine aM (c7 (x7.1) (by (cases iL g4;rw [show x7.1=s.nl by omega];assumption)) (by (cases iL g4;assumption)) (by exact fun i _=>pG _)) ?_
   refine aM (c8 (by (cases iL g4;assumption)) (by (cases iL g4;assumption)) (by (cases iL g4;assumption))) ?_
   exact aq (ay.of_eq (congrArg _ (HJ (iL g4).hd (fun i hi=>x7.2.2 i (by omega))).symm))
theorem KI (s:au) (n:Nat) (h1:n=2^nA s) (hd:nA s≤5):Pure Tryz.prog aZ 131 [dD n (fun i=>fS (jN s i)),.int .i64 0,.int .i64 0] (.agg (bf (dI s))):=by
 subst h1
 have h:=s9 (nA s) hd (fun i=>fS (jN s i)) (fun i _=>pG _) (nA s) 0 (Nat.le_refl _) (by rw [Nat.sub_self];decide)
 rwa [Nat.sub_self] at h
theorem ED (b:aI) (r:fZ) (s:au) (hw:b.gr.W) (hr:cS s.root 32) (hp:cS s.bM 32) (hf:∀ k,k<s.np→cS (s.pf k) 32) (hn:s.np≤1000000) (hl:s.nl≤1000):Pure Tryz.prog aZ 73 [b.av,r.av,s.av] (.bool (kC b r s)):=by
 have c0:=gG b hw
 have c1:=Gl b r s.di hw hr
 have c2:=yA s.depth s.level s.index
 have c3:=BM s.ju
 have c9:=fun h=>sZ s.depth s.level s.index h
 have c4:=yZ b s.di s.level s.index s.ju hr hp
 have c5:=fun x r1 r2 hv ha hk=>G5 b s.a (l7 b s) x r1 r2 hv ha hk
 have c6:=fun n h1=>G8 n h1 (jN s)
 have c7:=KI s
 have c8:=fun h1 h2 h3=>Jv (dI s) s.kg s.np s.pf hn h1 h2 h3 hf
 refine ar (own:=bq) Tryz.func73 (by kernel_rfl) mixed (by kernel_rfl)
  (.sc true 64 [.agg (aI.cells b)] (.bool (aT b)) (.sc ((!aT b)==false) 124 [.agg (aI.cells b),.agg (fZ.cells r),.agg (Zi s.1::Zi s.2::Zi s.3::Zi s.4::Zi s.5::(bf s.6++[Zi s.7,Zi s.8,Zi s.9,Zi s.10]))] (.bool (eY b r (au.di s))) (.sc ((!aT b || !eY b r (au.di s))==false) 125 [Zi s.4,.agg [Zi s.11,Zi s.12]] (.bool (bU (au.depth s) (au.level s) (au.index s))) (.sc ((!aT b || !eY b r (au.di s) || !bU s.4 s.11 s.12)==false) 126 [.agg (bf s.13++[Zi s.14,Zi s.15])] (.bool (fM (je.time (au.ju s)) (je.number (au.ju s)))) (.br (!aT b || !eY b r (au.di s) || !bU s.4 s.11 s.12 || !fM s.14 s.15) (.out (.bool false) [] (.bool (kC b r s)) []) (.sc true 127 [Zi s.4,.agg [Zi s.11,Zi s.12]] (.aX [Zi (dg (au.depth s) (au.level s) (au.index s)),Zi (dm (au.depth s) (au.level s) (au.index s))]) (.br ((s.16:Int) != wrap .i64 (dm s.4 s.11 s.12 - dg s.4 s.11 s.12)||s.18 != s.12||(s.19:Int) != s.11) (.out (.bool false) [] (.bool (kC b r s)) []) (.sc true 128 [.agg (aI.cells b),.agg (Zi s.1::Zi s.2::Zi s.3::Zi s.4::Zi s.5::(bf s.6++[Zi s.7,Zi s.8,Zi s.9,Zi s.10])),.agg [Zi s.11,Zi s.12],.agg (bf s.13++[Zi s.14,Zi s.15])] (Zi (dW (bN.q (aI.gr b)) (au.di s) (au.level s) (au.index s) (au.ju s))) (.loop ({ x:Nat // x≤au.nl s∧(fun (x:Nat)=>∀ (j:Nat),j<x→xy b s j=true) x }) (fun x=>aY [3,5,9,10,11] [.own 0 6 0 0 6,.own 1 80 0 0 80,Zi (dW (aI.gr b).2 (au.di s) s.11 s.12 (au.ju s)),.ba 2 1 0 (x.1),Zi x.1] [some ⟨6,1,true,.bc [aI.cells b]⟩,some ⟨80,1,true,.bc [au.cells s]⟩,some ⟨(1:Nat),x.1,true,.fn fun i x=>Zi (jN s i)⟩]) (fun x=>au.nl s - x.1) (⟨(0:Nat),⟨Nat.zero_le (au.nl s),fun (j:Nat) (hj:j<0)=>absurd hj (Nat.not_lt_zero j)⟩⟩) [3,5,9,10,11] [0,16,882] [.own 0 6 0 0 6,.own 1 80 0 0 80,Zi (dW (aI.gr b).2 (au.di s) s.11 s.12 (au.ju s)),.bn,Zi 0] [some ⟨6,1,true,.bc [aI.cells b]⟩,some ⟨80,1,true,.bc [au.cells s]⟩,some ⟨1,0,true,.ty (999999999:TypeId) (.bc [])⟩] (fun x10=>(.br (decide ((x10.1:Int)<(s.16:Int))) (.bj (0≤(x10.1:Int)∧(x10.1:Int)<(s.16:Int)) (.sc true 129 [.agg (aI.cells b),Zi s.5,Zi (dW (aI.gr b).2 (au.di s) s.11 s.12 (au.ju s)),.agg [Zi (s.17 (toNat (x10.1:Int)) 0),Zi (s.17 (toNat (x10.1:Int)) 1),Zi (s.17 (toNat (x10.1:Int)) 2)]] (.bool (fq b (au.a s) (l7 b s) (s.17 (toNat (x10.1:Int)) 0) (s.17 (toNat (x10.1:Int)) 1) (s.17 (toNat (x10.1:Int)) 2))) (.br (!fq b s.5 (l7 b s) (s.17 (toNat (x10.1:Int)) 0) (s.17 (toNat (x10.1:Int)) 1) (s.17 (toNat (x10.1:Int)) 2)) (.out (.bool false) [] (.bool (kC b r s)) []) (.loop ({ x:Nat // x≤x10.1∧(fun (k:Nat)=>∀ (j:Nat),j<k→¬jN s j=jN s (x10.1)) x }) (fun x=>aY [3,5,9,10,11,12] [.own 0 6 0 0 6,.own 1 80 0 0 80,Zi (dW (aI.gr b).2 (au.di s) s.11 s.12 (au.ju s)),.ba 2 1 0 x10.1,Zi x10.1,Zi x.1] [some ⟨6,1,true,.bc [aI.cells b]⟩,some ⟨80,1,true,.bc [au.cells s]⟩,some ⟨1,x10.1,true,.fn fun i j=>Zi (jN s i)⟩]) (fun x=>x10.1 - x.1) (⟨(0:Nat),⟨Nat.zero_le (x10.1),fun (j:Nat) (hj:j<0)=>absurd hj (Nat.not_lt_zero j)⟩⟩) [3,5,9,10,11,12] [0,1,2] [.own 0 6 0 0 6,.own 1 80 0 0 80,Zi (dW (aI.gr b).2 (au.di s) s.11 s.12 (au.ju s)),.ba 2 1 0 x10.1,Zi x10.1,Zi 0] [some ⟨6,1,true,.bc [aI.cells b]⟩,some ⟨80,1,true,.bc [au.cells s]⟩,some ⟨1,x10.1,true,.fn fun i j=>Zi (jN s i)⟩] (fun x16=>(.br (decide ((x16.1:Int)<(x10.1:Int))) (.bj (0≤(x16.1:Int)∧(x16.1:Int)<(s.16:Int)) (.bj (0≤(x10.1:Int)∧(x10.1:Int)<(s.16:Int)) (.br (s.17 (toNat (x16.1:Int)) 0==s.17 (toNat (x10.1:Int)) 0) (.out (.bool false) [] (.bool (kC b r s)) []) (.again (bh 0 (fun x=>aY [3,5,9,10,11,12] [.own 0 6 0 0 6,.own 1 80 0 0 80,Zi (dW (aI.gr b).2 (au.di s) s.11 s.12 (au.ju s)),.ba 2 1 0 x10.1,Zi x10.1,Zi x.1] [some ⟨6,1,true,.bc [aI.cells b]⟩,some ⟨80,1,true,.bc [au.cells s]⟩,some ⟨1,x10.1,true,.fn fun i j=>Zi (jN s i)⟩]) (fun x=>x10.1 - x.1) x16) [3,5,9,10,11,12] [0,1,2] [.own 0 6 0 0 6,.own 1 80 0 0 80,Zi (dW (aI.gr b).2 (au.di s) s.11 s.12 (au.ju s)),.ba 2 1 0 x10.1,Zi x10.1,Zi (wrap .i64 ((x16.1:Int)+(1:Int)))] [some ⟨6,1,true,.bc [aI.cells b]⟩,some ⟨80,1,true,.bc [au.cells s]⟩,some ⟨1,x10.1,true,.fn fun i j=>Zi (jN s i)⟩])))) (.bj (0≤(x10.1:Int)∧(x10.1:Int)<(s.16:Int)) (.bj ((x10.1+1)*8≤140737488355328) (.again (bh 0 (fun x=>aY [3,5,9,10,11] [.own 0 6 0 0 6,.own 1 80 0 0 80,Zi (dW (aI.gr b).2 (au.di s) s.11 s.12 (au.ju s)),.ba 2 1 0 (x.1),Zi x.1] [some ⟨6,1,true,.bc [aI.cells b]⟩,some ⟨80,1,true,.bc [au.cells s]⟩,some ⟨(1:Nat),x.1,true,.fn fun i x=>Zi (jN s i)⟩]) (fun x=>au.nl s - x.1) x10) [3,5,9,10,11] [0,1,91] [.own 0 6 0 0 6,.own 1 80 0 0 80,Zi (dW (aI.gr b).2 (au.di s) s.11 s.12 (au.ju s)),.ba 2 1 0 (x10.1+1),Zi (wrap .i64 ((x10.1:Int)+(1:Int)))] [some ⟨6,1,true,.bc [aI.cells b]⟩,some ⟨80,1,true,.bc [au.cells s]⟩,some ⟨1,x10.1+1,true,.fn fun i j=>Zi (bif Nat.blt i x10.1 then jN s i else aE (aQ [Zi (s.17 (toNat (x10.1:Int)) 0)] j))⟩]))))))))) (.dc true 132 [.aH 1 x10.1 fun r k=>Zi (jN s (r+0))] (dD x10.1 fun i=>fS (jN s i)) (.sc true 131 [.aH 32 x10.1 fun i j=>Zb (fS (jN s i) j),Zi 0,Zi 0] (.agg (bf (dI s))) (.sc true 130 [.agg (bf (dI s)),.agg [Zi s.18,.aH 32 s.19 fun i j=>Zb (s.20 i j)]] (.agg (bf (bE (dI s) (au.kg s) (au.pf s) (au.np s)))) (.out (.bool (bE (dI s) s.18 s.20 s.19 0==s.6 0&&(bE (dI s) s.18 s.20 s.19 1==s.6 1&&(bE (dI s) s.18 s.20 s.19 2==s.6 2&&(bE (dI s) s.18 s.20 s.19 3==s.6 3&&(bE (dI s) s.18 s.20 s.19 4==s.6 4&&(bE (dI s) s.18 s.20 s.19 5==s.6 5&&(bE (dI s) s.18 s.20 s.19 6==s.6 6&&(bE (dI s) s.18 s.20 s.19 7==s.6 7&&(bE (dI s) s.18 s.20 s.19 8==s.6 8&&(bE (dI s) s.18 s.20 s.19 9==s.6 9&&(bE (dI s) s.18 s.20 s.19 10==s.6 10&&(bE (dI s) s.18 s.20 s.19 11==s.6 11&&(bE (dI s) s.18 s.20 s.19 12==s.6 12&&(bE (dI s) s.18 s.20 s.19 13==s.6 13&&(bE (dI s) s.18 s.20 s.19 14==s.6 14&&(bE (dI s) s.18 s.20 s.19 15==s.6 15&&(bE (dI s) s.18 s.20 s.19 16==s.6 16&&(bE (dI s) s.18 s.20 s.19 17==s.6 17&&(bE (dI s) s.18 s.20 s.19 18==s.6 18&&(bE (dI s) s.18 s.20 s.19 19==s.6 19&&(bE (dI s) s.18 s.20 s.19 20==s.6 20&&(bE (dI s) s.18 s.20 s.19 21==s.6 21&&(bE (dI s) s.18 s.20 s.19 22==s.6 22&&(bE (dI s) s.18 s.20 s.19 23==s.6 23&&(bE (dI s) s.18 s.20 s.19 24==s.6 24&&(bE (dI s) s.18 s.20 s.19 25==s.6 25&&(bE (dI s) s.18 s.20 s.19 26==s.6 26&&(bE (dI s) s.18 s.20 s.19 27==s.6 27&&(bE (dI s) s.18 s.20 s.19 28==s.6 28&&(bE (dI s) s.18 s.20 s.19 29==s.6 29&&(bE (dI s) s.18 s.20 s.19 30==s.6 30&&(bE (dI s) s.18 s.20 s.19 31==s.6 31&&true))))))))))))))))))))))))))))))))) [] (.bool (kC b r s)) [])))))))))))))))
  (by kernel_rfl) ?_
 refine aM (c0) ?_
 refine aW (fun h1=>c1) ?_
 refine aW (fun h2=>c2) ?_
 refine aW (fun h3=>c3) ?_
 refine aL (fun h4=>?_) (fun h4=>?_)
 ·have g4:=(aA (aA (aA (aC aF) (aC aF)) (aC aF)) (aC aF)) h4
  exact aq (ay.of_eq (congrArg _ (IM g4).symm))
 ·have g4:=(aw (aw (aw (az aB) (az aB)) (az aB)) (az aB)) h4
  refine aM (c9 (g4.1.2)) ?_
  refine aL (fun h7=>?_) (fun h7=>?_)
  ·have g7:=(aA (aA aU aU) aU) h7
   exact aq (ay.of_eq (congrArg _ (GO g4 g7).symm))
  ·have g7:=(aw (aw aR aR) aR) h7
   refine aM (c4 (by (cases iN g4 g7;assumption)) (by (cases iN g4 g7;assumption))) ?_
   refine aV (fun _ hs=>hs.le (by repeat' (first|exact trivial|(first|exact ay.refl _|exact aK (by omega)|exact ay.nil rfl|exact ay.of_eq (congrArg (AV.ba _ _ _) (by first|omega|(dsimp only;omega)))|exact ay.of_eq (congrArg (AV.int _) (by first|omega|(dsimp only;omega))))|refine And.intro ?_ ?_)) (by repeat' (first|exact trivial|(first|exact aJ.refl _|exact aJ.bx|exact aJ.zero|exact aJ.push rfl rfl|exact aJ.ct rfl|exact aJ.len (by omega)|exact aJ.row (by repeat' (first|exact trivial|(first|exact ay.refl _|exact aK (by omega)|exact ay.nil rfl|exact ay.of_eq (congrArg (AV.ba _ _ _) (by first|omega|(dsimp only;omega)))|exact ay.of_eq (congrArg (AV.int _) (by first|omega|(dsimp only;omega))))|refine And.intro ?_ ?_)))|refine And.intro ?_ ?_))) (fun x10=>?_)
   try (have q10:=x10.2;dsimp only at q10)
   refine aL (fun h11=>?_) (fun h11=>?_)
   ·have g11:=af h11
    refine aD (by omega) ?_
    refine aM (c5 (s.17 (toNat (↑x10.1:Int)) (0)) (s.17 (toNat (↑x10.1:Int)) (1)) (s.17 (toNat (↑x10.1:Int)) (2)) (by exact bH.1 (iN g4 g7).v) (by (cases iN g4 g7;assumption)) (by (cases iN g4 g7;assumption))) ?_
    refine aL (fun h14=>?_) (fun h14=>?_)
    ·have g14:=(aC aF) h14
     try simp only [Int.toNat_natCast] at g14
     exact aq (ay.of_eq (congrArg _ (Dq (by omega) (LS g14)).symm))
    ·have g14:=(az aB) h14
     try simp only [Int.toNat_natCast] at g14
     refine aV (fun _ hs=>hs.le (by repeat' (first|exact trivial|(first|exact ay.refl _|exact aK (by omega)|exact ay.nil rfl|exact ay.of_eq (congrArg (AV.ba _ _ _) (by first|omega|(dsimp only;omega)))|exact ay.of_eq (congrArg (AV.int _) (by first|omega|(dsimp only;omega))))|refine And.intro ?_ ?_)) (by repeat' (first|exact trivial|(first|exact aJ.refl _|exact aJ.bx|exact aJ.zero|exact aJ.push rfl rfl|exact aJ.ct rfl|exact aJ.len (by omega)|exact aJ.row (by repeat' (first|exact trivial|(first|exact ay.refl _|exact aK (by omega)|exact ay.nil rfl|exact ay.of_eq (congrArg (AV.ba _ _ _) (by first|omega|(dsimp only;omega)))|exact ay.of_eq (congrArg (AV.int _) (by first|omega|(dsimp only;omega))))|refine And.intro ?_ ?_)))|refine And.intro ?_ ?_))) (fun x16=>?_)
     try (have q16:=x16.2;dsimp only at q16)
     refine aL (fun h17=>?_) (fun h17=>?_)
     ·have g17:=af h17
      refine aD (by omega) ?_
      refine aD (by omega) ?_
      refine aL (fun h20=>?_) (fun h20=>?_)
      ·have g20:=ai h20
       try simp only [Int.toNat_natCast] at g20
       exact aq (ay.of_eq (congrArg _ (Dq (i:=x10.1) (by omega) (LP (by omega) g20)).symm))
      ·have g20:=aj h20
       try simp only [Int.toNat_natCast] at g20
       exact aN (⟨x16.1+1,by omega,ne_next x16.2.2 g20⟩) (fun _ hs=>hs.le (by repeat' (first|exact trivial|(first|exact ay.refl _|exact aK (by omega)|exact ay.nil rfl|exact ay.of_eq (congrArg (AV.ba _ _ _) (by first|omega|(dsimp only;omega)))|exact ay.of_eq (congrArg (AV.int _) (by first|omega|(dsimp only;omega))))|refine And.intro ?_ ?_)) (by repeat' (first|exact trivial|(first|exact aJ.refl _|exact aJ.bx|exact aJ.zero|exact aJ.push rfl rfl|exact aJ.ct rfl|exact aJ.len (by omega)|exact aJ.row (by repeat' (first|exact trivial|(first|exact ay.refl _|exact aK (by omega)|exact ay.nil rfl|exact ay.of_eq (congrArg (AV.ba _ _ _) (by first|omega|(dsimp only;omega)))|exact ay.of_eq (congrArg (AV.int _) (by first|omega|(dsimp only;omega))))|refine And.intro ?_ ?_)))|refine And.intro ?_ ?_))) (by (dsimp only;omega))
     ·have g17:=aa h17
      refine aD (by omega) ?_
      refine aD (by omega) ?_
      exact aN (⟨x10.1+1,by omega,cN x10.2.2 (Md g14 (fun j hj=>x16.2.2 j (by omega)))⟩) (fun _ hs=>hs.le (by repeat' (first|exact trivial|(first|exact ay.refl _|exact aK (by omega)|exact ay.nil rfl|exact ay.of_eq (congrArg (AV.ba _ _ _) (by first|omega|(dsimp only;omega)))|exact ay.of_eq (congrArg (AV.int _) (by first|omega|(dsimp only;omega))))|refine And.intro ?_ ?_)) (by repeat' (first|exact trivial|(first|exact aJ.refl _|exact aJ.bx|exact aJ.zero|exact aJ.push rfl rfl|exact aJ.ct rfl|exact aJ.len (by omega)|exact aJ.row (by repeat' (first|exact trivial|(first|exact ay.refl _|exact aK (by omega)|exact ay.nil rfl|exact ay.of_eq (congrArg (AV.ba _ _ _) (by first|omega|(dsimp only;omega)))|exact ay.of_eq (congrArg (AV.int _) (by first|omega|(dsimp only;omega))))|refine And.intro ?_ ?_)))|refine And.intro ?_ ?_))) (by (dsimp only;omega))
   ·have g11:=aa h11
    refine b9 (c6 (x10.1) (by omega)) ?_
    refine aM (c7 (x10.1) (by (cases iN g4 g7;rw [show x10.1=s.nl by omega];assumption)) (by (cases iN g4 g7;assumption))) ?_
    refine aM (c8 (by (cases iN g4 g7;assumption)) (by (cases iN g4 g7;assumption)) (by (cases iN g4 g7;assumption))) ?_
    exact aq (ay.of_eq (congrArg _ (LN (iN g4 g7).hd g7.2 (fun i hi=>x10.2.2 i (by omega))).symm))
abbrev Dn:List AV:=[AV.agg [Zi 0,Zi 0,Zi 0,Zi 0,Zi 0,Zi 0,Zi 0,Zi 0,Zi 0,Zi 0,Zi 0],AV.bool false]
theorem EG (r0 r1 r2 r3 r4 r5 r6 r7 r8 r9 r10 k e d:Int):Pure Tryz.prog aZ 153 [.agg [.int .i64 r0,.int .i64 r1,.int .i64 r2,.int .i64 r3,.int .i64 r4,.int .i64 r5,.int .i64 r6,.int .i64 r7,.int .i64 r8,.int .i64 r9,.int .i64 r10],.bJ 1 (aQ [.int .i64 k]),.bJ 1 (aQ [.int .i64 e]),.bJ 1 (aQ [.int .i64 d])] (.bool (r0==k&&r1==e&&r2==d)):=by
 refine ar (own:=bq) Tryz.func153 (by kernel_rfl) mixed (by kernel_rfl)
  (let y0:AV:=(.bool (r0==k&&r1==e&&r2==d));(.out y0 [] y0 []))
  (by kernel_rfl) ?_
 exact aq (ay.refl _)
theorem AX (R:Nat→Nat→Int) (n:Nat) (k e d:Int) (hn:n≤1000):Pure Tryz.prog aZ 152 [rcl n R,.fn (.func 153) [] [.bJ 1 (aQ [.int .i64 k]),.bJ 1 (aQ [.int .i64 e]),.bJ 1 (aQ [.int .i64 d])]] (.int .i64 (jR R n k e d)):=by
 unfold jR
 refine ar (own:=bq) Tryz.func152 (by kernel_rfl) mixed (by kernel_rfl)
  (let y1:=(fun (x:{ x:Nat // x≤n∧(fun (i:Nat)=>aG (pD R k e d) n 0=aG (pD R k e d) (n - i) i) x })=>n - x.1);let y2:List AV:=[AV.bJ 1 (aQ [Zi k]),AV.bJ 1 (aQ [Zi e]),AV.bJ 1 (aQ [Zi d])];let y0:=(fun (x:{ x:Nat // x≤n∧(fun (i:Nat)=>aG (pD R k e d) n 0=aG (pD R k e d) (n - i) i) x })=>aY [0,1,7,8] [AV.aH 11 n fun (i j:Nat)=>Zi (R i j),AV.fn (Fn.func (153:FuncId)) [] y2,Zi (↑n:Int),Zi (↑(x.1):Int)] []);(.loop ({ x:Nat // x≤n∧(fun (i:Nat)=>aG (pD R k e d) n 0=aG (pD R k e d) (n - i) i) x }) y0 y1 (⟨0,⟨Nat.zero_le n,rfl⟩⟩) ([0,1,7,8]) ([]) ([AV.aH 11 n fun (i j:Nat)=>Zi (R i j),AV.fn (Fn.func (153:FuncId)) [] y2,Zi (↑n:Int),Zi 0]) ([]) (fun x0=>(.br (decide ((↑x0.1:Int)<(↑n:Int))) (.bj ((0:Int)≤(↑x0.1:Int)∧(↑x0.1:Int)<(↑n:Int)) (.sc (true) 153 ([AV.agg [Zi (R (toNat (↑x0.1:Int)) 0),Zi (R (toNat (↑x0.1:Int)) 1),Zi (R (toNat (↑x0.1:Int)) 2),Zi (R (toNat (↑x0.1:Int)) 3),Zi (R (toNat (↑x0.1:Int)) 4),Zi (R (toNat (↑x0.1:Int)) 5),Zi (R (toNat (↑x0.1:Int)) 6),Zi (R (toNat (↑x0.1:Int)) 7),Zi (R (toNat (↑x0.1:Int)) 8),Zi (R (toNat (↑x0.1:Int)) 9),Zi (R (toNat (↑x0.1:Int)) 10)],AV.bJ 1 (aQ [Zi k]),AV.bJ 1 (aQ [Zi e]),AV.bJ 1 (aQ [Zi d])]) (AV.bool (R (toNat (↑x0.1:Int)) 0==k&&R (toNat (↑x0.1:Int)) 1==e&&R (toNat (↑x0.1:Int)) 2==d)) (.br (R (toNat (↑x0.1:Int)) 0==k&&R (toNat (↑x0.1:Int)) 1==e&&R (toNat (↑x0.1:Int)) 2==d) (.out (Zi (↑x0.1:Int)) [] (Zi (aG (pD R k e d) n 0)) []) (.again (bh 0 y0 y1 x0) ([0,1,7,8]) ([]) ([AV.aH 11 n fun (i j:Nat)=>Zi (R i j),AV.fn (Fn.func (153:FuncId)) [] y2,Zi (↑n:Int),Zi (wrap .i64 ((↑x0.1:Int)+1))]) ([]))))) (.out (Zi (-1)) [] (Zi (aG (pD R k e d) n 0)) [])))))
  (by kernel_rfl) ?_
 refine aV (fun _ hs=>hs.le (⟨.refl _,.refl _,.refl _,.refl _,trivial⟩) (trivial)) (fun x0=>?_)
 try (have q0:=x0.2;dsimp only at q0)
 refine aL (fun h1=>?_) (fun h1=>?_)
 ·have g1:=af h1
  refine aD (by omega) ?_
  refine aM (EG (R (toNat (↑x0.1:Int)) (0)) (R (toNat (↑x0.1:Int)) (1)) (R (toNat (↑x0.1:Int)) (2)) (R (toNat (↑x0.1:Int)) (3)) (R (toNat (↑x0.1:Int)) (4)) (R (toNat (↑x0.1:Int)) (5)) (R (toNat (↑x0.1:Int)) (6)) (R (toNat (↑x0.1:Int)) (7)) (R (toNat (↑x0.1:Int)) (8)) (R (toNat (↑x0.1:Int)) (9)) (R (toNat (↑x0.1:Int)) (10)) (k) (e) (d)) ?_
  refine aL (fun h4=>?_) (fun h4=>?_)
  ·have g4:=(ah (ah ai ai) ai) h4
   try simp only [Int.toNat_natCast] at g4
   exact aq (ay.of_eq (congrArg _ (cr x0.2.2 (by omega) h4)))
  ·have g4:=(ao (ao aj aj) aj) h4
   try simp only [Int.toNat_natCast] at g4
   exact aN (⟨x0.1+1,by omega,bS x0.2.2 (by omega) h4⟩) (fun _ hs=>hs.le (⟨.refl _,.refl _,.refl _,aK (by omega),trivial⟩) (trivial)) (by dsimp only;omega)
 ·have g1:=aa h1
  exact aq (ay.of_eq (congrArg _ (bW x0.2.2 (by omega))))
theorem yl (R:Nat→Nat→Int) (n:Nat) (k e d:Int) (hn:n≤1000):Pure Tryz.prog aZ 85 [rcl n R,.int .i64 k,.int .i64 e,.int .i64 d] (.int .i64 (jR R n k e d)):=by
 have c1:=AX R n k e d hn
 refine ar (own:=bq) Tryz.func85 (by kernel_rfl) mixed (by kernel_rfl)
  (.sc true 152 [.aH 11 n fun i j=>Zi (R i j),AV.fn (Fn.func 153) [] [AV.bJ 1 fun k_1=>aQ [Zi k] k_1,AV.bJ 1 fun k=>aQ [Zi e] k,AV.bJ 1 fun k=>aQ [Zi d] k]] (Zi (jR R n k e d)) (.out (Zi (jR R n k e d)) [] (Zi (jR R n k e d)) []))
  (by kernel_rfl) ?_
 refine aM (c1) ?_
 exact aq (ay.refl _)
theorem u7 (R:Nat→Nat→Int) (n:Nat) (k e d:Int) (hn:n≤1000):Pure Tryz.prog aZ 123 [rcl n R,.int .i64 k,.int .i64 e,.int .i64 d] (.int .i64 (jR R n k e d)):=by
 unfold jR
 refine ar (own:=bq) Tryz.func123 (by kernel_rfl) mixed (by kernel_rfl)
  (let y0:=(fun (x:{ x:Nat // x≤n∧(fun i=>aG (pD R k e d) n 0=aG (pD R k e d) (n - i) i) x })=>aY [0,1,2,3,9] [.aH 11 n fun i j=>Zi (R i j),Zi k,Zi e,Zi d,Zi x.1] []);let y1:=(fun (x:{ x:Nat // x≤n∧(fun i=>aG (pD R k e d) n 0=aG (pD R k e d) (n - i) i) x })=>n - x.1);(.loop ({ x:Nat // x≤n∧(fun i=>aG (pD R k e d) n 0=aG (pD R k e d) (n - i) i) x }) y0 y1 (⟨0,⟨Nat.zero_le n,rfl⟩⟩) [0,1,2,3,9] [] [.aH 11 n fun i j=>Zi (R i j),Zi k,Zi e,Zi d,Zi 0] [] (fun x0=>(.br (decide ((x0.1:Int)<(n:Int))) (.bj (0≤(x0.1:Int)∧(x0.1:Int)<(n:Int)) (.bj (((R (toNat (x0.1:Int)) 0==k)==true)=true→0≤(x0.1:Int)∧(x0.1:Int)<(n:Int)) (.bj (((R (toNat (x0.1:Int)) 0==k&&R (toNat (x0.1:Int)) 1==e)==true)=true→0≤(x0.1:Int)∧(x0.1:Int)<(n:Int)) (.br (R (toNat (x0.1:Int)) 0==k&&R (toNat (x0.1:Int)) 1==e&&R (toNat (x0.1:Int)) 2==d) (.out (Zi x0.1) [] (Zi (aG (pD R k e d) n 0)) []) (.again (bh 0 y0 y1 x0) [0,1,2,3,9] [] [.aH 11 n fun i j=>Zi (R i j),Zi k,Zi e,Zi d,Zi (wrap .i64 ((x0.1:Int)+1))] []))))) (.out (Zi (-1)) [] (Zi (aG (pD R k e d) n 0)) [])))))
  (by kernel_rfl) ?_
 refine aV (fun _ hs=>hs.le (⟨.refl _,.refl _,.refl _,.refl _,.refl _,trivial⟩) (trivial)) (fun x0=>?_)
 try (have q0:=x0.2;dsimp only at q0)
 refine aL (fun h1=>?_) (fun h1=>?_)
 ·have g1:=af h1
  refine aD (by omega) ?_
  refine aD (fun hr=>by have hr:=(cQ ai) hr;omega) ?_
  refine aD (fun hr=>by have hr:=(cQ (ah ai ai)) hr;omega) ?_
  refine aL (fun h5=>?_) (fun h5=>?_)
  ·have g5:=(ah (ah ai ai) ai) h5
   try simp only [Int.toNat_natCast] at g5
   exact aq (by exact ay.of_eq (congrArg _ (cr x0.2.2 (by omega) (MG g5))))
  ·have g5:=(ao (ao aj aj) aj) h5
   try simp only [Int.toNat_natCast] at g5
   exact aN (⟨x0.1+1,by omega,bS x0.2.2 (by omega) (LW g5)⟩) (fun _ hs=>hs.le (⟨.refl _,.refl _,.refl _,.refl _,aK (by omega),trivial⟩) (trivial)) (by dsimp only;omega)
 ·have g1:=aa h1
  exact aq (by exact ay.of_eq (congrArg _ (bW x0.2.2 (by omega))))
theorem IK (R:Nat→Nat→Int) (n:Nat) (s:au) (hn:n≤1000):Pure Tryz.prog aZ 100 [rcl n R,s.av] (.aX [(l4 R n s).av,.bool (decide (ml R n s≥0))]):=by
 have c1:=yl R n s.jl s.fK s.gx hn
 refine ar (own:=bq) Tryz.func100 (by kernel_rfl) mixed (by kernel_rfl)
  (let y0:Nat:=(toNat (jR R n s.1 s.2 s.3));let y1:AV:=(.aX [fZ.av (l4 R n s),.bool (decide (ml R n s≥0))]);(.sc true 85 [.aH 11 n fun i j=>Zi (R i j),Zi s.1,Zi s.2,Zi s.3] (Zi (jR R n (au.jl s) (au.fK s) (au.gx s))) (.br (decide (jR R n s.1 s.2 s.3<0)||decide (jR R n s.1 s.2 s.3≥(n:Int))) (.out (.aX Dn) [] y1 []) (.bj ((0:Int)≤jR R n s.1 s.2 s.3∧jR R n s.1 s.2 s.3<(n:Int)) (.out (.aX [.agg [Zi (R y0 0),Zi (R y0 1),Zi (R y0 2),Zi (R y0 3),Zi (R y0 4),Zi (R y0 5),Zi (R y0 6),Zi (R y0 7),Zi (R y0 8),Zi (R y0 9),Zi (R y0 10)],.bool true]) [] y1 [])))))
  (by kernel_rfl) ?_
 refine aM (c1) ?_
 refine aL (fun h1=>?_) (fun h1=>?_)
 ·have g1:=(aA af af) h1
  exact aq (ay.of_eq (B7 (s:=s) (by (rcases g1 with h|h;(· exact h);(· exfalso;have:=iE (p:=pD R s.jl s.fK s.gx) n 0;unfold jR at h;omega)))))
 ·have g1:=(aw aa aa) h1
  refine aD (by exact De g1.1) ?_
  exact aq (ay.of_eq (BC (s:=s) (by exact g1.1)))
theorem yj (R:Nat→Nat→Int) (n:Nat) (s:au) (hn:n≤1000):Pure Tryz.prog aZ 72 [rcl n R,s.av] (.aX [(l4 R n s).av,.bool (decide (ml R n s≥0))]):=by
 have c1:=u7 R n s.jl s.fK s.gx hn
 refine ar (own:=bq) Tryz.func72 (by kernel_rfl) mixed (by kernel_rfl)
  (let y0:Nat:=(toNat (jR R n s.1 s.2 s.3));let y1:AV:=(.aX [fZ.av (l4 R n s),.bool (decide (ml R n s≥0))]);(.sc true 123 [.aH 11 n fun i j=>Zi (R i j),Zi s.1,Zi s.2,Zi s.3] (Zi (jR R n (au.jl s) (au.fK s) (au.gx s))) (.br (decide (jR R n s.1 s.2 s.3<0)) (.out (.aX Dn) [] y1 []) (.bj ((0:Int)≤jR R n s.1 s.2 s.3∧jR R n s.1 s.2 s.3<(n:Int)) (.out (.aX [.agg [Zi (R y0 0),Zi (R y0 1),Zi (R y0 2),Zi (R y0 3),Zi (R y0 4),Zi (R y0 5),Zi (R y0 6),Zi (R y0 7),Zi (R y0 8),Zi (R y0 9),Zi (R y0 10)],.bool true]) [] y1 [])))))
  (by kernel_rfl) ?_
 refine aM (c1) ?_
 refine aL (fun h1=>?_) (fun h1=>?_)
 ·have g1:=af h1
  exact aq (ay.of_eq (B7 (s:=s) (by exact g1)))
 ·have g1:=aa h1
  refine aD (by exact De g1) ?_
  exact aq (ay.of_eq (BC (s:=s) (by exact g1)))
theorem Dw (b:aI) (R:Nat→Nat→Int) (n:Nat) (s:au) (hn:n≤1000) (hw:b.gr.W) (hr:cS s.root 32) (hp:cS s.bM 32) (hf:∀ k,k<s.np→cS (s.pf k) 32) (hm:s.np≤1000000) (hl:s.nl≤1000):Pure Tryz.prog aZ 48 [b.av,rcl n R,s.av] (.bool (gk b R n s)):=by
 have c1:=IK R n s hn
 have c2:=Nb b (l4 R n s) s hw hr hp hf hm hl
 refine ar (own:=bq) Tryz.func48 (by kernel_rfl) mixed (by kernel_rfl)
  (.sc true 100 [.aH 11 n fun i j=>Zi (R i j),.agg (au.cells s)] (.aX [fZ.av (l4 R n s),.bool (decide (ml R n s≥0))]) (.sc (decide (ml R n s≥0)==true) 101 [.agg (aI.cells b),.agg (fZ.cells (l4 R n s)),.agg (au.cells s)] (.bool (kC b (l4 R n s) s)) (.out (.bool (decide (ml R n s≥0)&&kC b (l4 R n s) s)) [] (.bool (gk b R n s)) [])))
  (by kernel_rfl) ?_
 refine aM (c1) ?_
 refine aW (fun h1=>c2) ?_
 exact aq (ay.refl _)
theorem EM (b:aI) (s t:au) (leaf:Int) (hw:b.gr.W) (hs:s.nl≤1000) (ht:t.nl≤1000) (bs:s.By) (bt:t.By):Pure Tryz.prog aZ 49 [b.av,s.av,t.av,.int .i64 leaf] (.aX [.int .i64 (qL b s t leaf).1,.int .i64 (qL b s t leaf).2]):=by
 have c1:=CP b s t leaf hw hs ht bs bt
 have c2:=fun h hu=>z8 b (cj b s t leaf).1 h hw hu
 have c3:=fun h h2 hu=>nO b.gr b.g1 (cj b s t leaf).1 h hw h2 hu
 refine ar (own:=bq) Tryz.func49 (by kernel_rfl) mixed (by kernel_rfl)
  (let y0:AV:=(.aX [Zi (Prod.fst (qL b s t leaf)),Zi (Prod.snd (qL b s t leaf))]);(.sc true 102 [.agg (aI.cells b),.agg (au.cells s),.agg (au.cells t),Zi leaf] (.aX [Zi (Prod.fst (cj b s t leaf)),Zi (Prod.snd (cj b s t leaf))]) (.br ((cj b s t leaf).2 != 0) (.out (.aX [Zi 0,Zi (cj b s t leaf).2]) [] y0 []) (.sc (((cj b s t leaf).1==0)==false) 103 [.agg (aI.cells b),Zi (cj b s t leaf).1] (Zi (nQ b (Prod.fst (cj b s t leaf)))) (.br ((cj b s t leaf).1==0||nQ b (cj b s t leaf).1==1) (.out (.aX [Zi 0,Zi 10]) [] y0 []) (.sc true 95 [.agg [Zi (aI.gr b).1,Zi (aI.gr b).2,Zi (aI.gr b).3],Zi b.2,Zi (cj b s t leaf).1] (.aX [Zi (aI.g1 b^toNat (Prod.fst (cj b s t leaf))%bN.p (aI.gr b)),Zi 0]) (.out (.aX [Zi (b.2^toNat (cj b s t leaf).1%(aI.gr b).1),Zi 0]) [] y0 [])))))))
  (by kernel_rfl) ?_
 refine aM (c1) ?_
 refine aL (fun h1=>?_) (fun h1=>?_)
 ·have g1:=aU h1
  exact aq (ay.of_eq (wj (x:=(0,(cj b s t leaf).2)) (Im g1)))
 ·have g1:=aR h1
  refine aW (fun h3=>c2 (by exact (js g1).1) (by exact (js g1).2)) ?_
  refine aL (fun h4=>?_) (fun h4=>?_)
  ·have g4:=(aA ai ai) h4
   exact aq (ay.of_eq (wj (Ii g1 g4)))
  ·have g4:=(aw aj aj) h4
   refine aM (c3 (by exact (js g1).1.G) (by exact (js g1).1.e1) (by exact (js g1).2)) ?_
   exact aq (ay.of_eq (wj (HO g1 g4)))
end Go.Proofs.YtpefjkpdniiaoaaGreatDoor

namespace Go.Sp
open Go.IntKind (wrap)
open Int (toNat)
open Go Go.Am
variable {k : aS}
theorem Fv {a b:Nat}:Nat.beq a b=decide (a=b):=by
 cases e:Nat.beq a b with
 | true=>exact (decide_eq_true (Nat.eq_of_beq_eq_true e)).symm
 | false=>exact (decide_eq_false fun h=>by rw [h,Nat.beq_refl] at e;cases e).symm
theorem yY (g:(k.nr:Int)>100∨¬(k.ns:Int)=k.nr):eL k=false:=eU fun h=>by
 simp only [eL,Bool.and_eq_true,decide_eq_true_eq,Fv] at h
 have:=h.1.1;have:=h.1.2
 omega
theorem xP {i:Nat} (hi:i<k.nr) (h:okR k i=false):eL k=false:=by
 unfold eL;rw [nF hi h,Bool.and_false]
theorem D2 (g:¬(k.nr:Int)>100∧(k.ns:Int)=k.nr) (h:∀ i,i<k.nr→okR k i=true):eL k=true:=by
 unfold eL;rw [jX h,Fv,decide_eq_true (show k.nr≤100 by omega),decide_eq_true (show k.ns=k.nr by omega)];rfl
structure GZ (k : aS) : Prop where
  hi : k.nr ≤ 100
  ns : k.ns = k.nr
  ok : ∀ i, i < k.nr → okR k i = true
theorem rK (h:eL k=true):GZ k:=by
 simp only [eL,Bool.and_eq_true,decide_eq_true_eq,Fv,List.all_eq_true,List.mem_range] at h
 exact ⟨h.1.1,h.1.2,h.2⟩
theorem pc {i:Nat}:okR k i=true↔er k.bT (k.X i)=true∧cu k.bT k.bT.gr.g (k.X i)=k.R i 5∧cu k.bT k.bT.g1 (k.X i)=k.R i 6∧cu k.bT k.bT.g2 (k.X i)=k.R i 7∧dV k.bT (cG (k.R i))=true∧k.R i 0=k.num∧jR k.R k.nr (k.R i 0) (k.R i 1) (k.R i 2)=(i:Int):=by
 simp [okR,okK,and_assoc]
theorem yy (g:(k.nc:Int)>100):fX k=false:=by unfold fX;rw [decide_eq_false (by omega)];rfl
theorem xS {i:Nat} (hi:i<k.nc) (h:okC k i=false):fX k=false:=by
 unfold fX;rw [nF hi h,Bool.and_false]
theorem Ep (g:¬(k.nc:Int)>100) (h:∀ i,i<k.nc→okC k i=true):fX k=true:=by
 unfold fX;rw [jX h,decide_eq_true (show k.nc≤100 by omega)];rfl
theorem mQ {i:Nat}:okC k i=true↔kv k.bT (k.C i).key (k.C i).pf=true∧gW k (k.C i).key=(i:Int)∧(k.C i).led=5+(i:Int)∧0≤(k.C i).last∧(k.C i).last≤200:=by
 simp [okC,and_assoc]
theorem rq (h:fX k=true):k.nc≤100∧∀ i,i<k.nc→okC k i=true:=by
 simp only [fX,Bool.and_eq_true,decide_eq_true_eq,List.all_eq_true,List.mem_range] at h
 exact h
theorem yN (g:(k.ni:Int)>200):hZ k=false:=by unfold hZ;rw [decide_eq_false (by omega)];rfl
theorem tK {i:Nat} (hi:i<k.ni) (h:okI k i=false):hZ k=false:=by
 unfold hZ;rw [nF hi h,Bool.and_false]
theorem Eo (g:¬(k.ni:Int)>200) (h:∀ i,i<k.ni→okI k i=true):hZ k=true:=by
 unfold hZ;rw [jX h,decide_eq_true (show k.ni≤200 by omega)];rfl
theorem mI {i:Nat}:okI k i=true↔0≤ko k (fun j=>k.I i (3+j))∧gh k.bT (k.I i)=true∧0≤gW k (k.I i 2)∧qI k (k.I i 2) (k.I i 1)=(i:Int)∧cu k.bT (k.I i 15) (k.X (ko k fun j=>k.I i (3+j)).toNat)=k.I i 16:=by
 simp [okI,and_assoc]
end Go.Sp

namespace Go.Proofs.YtpefjkpdniiaoaaGreatDoor
open Go.IntKind (wrap)
open Int (toNat)
open Go Go.Am Go.Sp
set_option maxRecDepth 100000
theorem Fs (k:aS) (h:k.bT.Ok) (hw:k.bT.gr.W) (hr:k.nr<9223372036854775808) (hs:k.ns<9223372036854775808):Pure Tryz.prog aZ 37 [.agg k.cells] (.bool (eL k)):=by
 have c1:=fun i=>KD k.bT (k.X i) h hw
 have c2:=fun i=>wW k.bT (cG (k.R i)) hw
 have c3:=fun a b c h=>yl k.R k.nr a b c h
 refine ar (own:=bq) Tryz.func37 (by kernel_rfl) mixed (by kernel_rfl)
  (let y0:List (Option Ob):=[some ⟨50,1,true,.bc [aS.cells k]⟩];(.br (decide ((k.4:Int)>100)||(k.6:Int) != (k.4:Int)) (.out (.bool false) [] (.bool (eL k)) []) (.loop ({ x:Nat // x≤aS.nr k∧(fun (i:Nat)=>∀ (j:Nat),j<i→okR k j=true) x }) (fun x=>aY [1,8,21,22,23] [.own 0 50 0 0 50,.aH 11 k.4 fun i j=>Zi (k.5 i j),.aH 11 k.4 fun i j=>Zi (k.5 i j),Zi k.4,Zi x.1] y0) (fun x=>aS.nr k - x.1) (⟨0,⟨Nat.zero_le (aS.nr k),fun (j:Nat) (hj:j<0)=>absurd hj (Nat.not_lt_zero j)⟩⟩) [1,8,21,22,23] [0] [.own 0 50 0 0 50,.aH 11 k.4 fun i j=>Zi (k.5 i j),.aH 11 k.4 fun i j=>Zi (k.5 i j),Zi k.4,Zi 0] (y0) (fun x2=>(.br (decide ((x2.1:Int)<(k.4:Int))) (.bj (0≤(x2.1:Int)∧(x2.1:Int)<(k.4:Int)) (.bj (0≤(x2.1:Int)∧(x2.1:Int)<(k.6:Int)) (.sc true 83 [.agg (aI.cells (aS.bT k)),Zi (k.7 (toNat (x2.1:Int)))] (.aX [.agg [Zi (bif er (aS.bT k) (aS.X k (toNat (x2.1:Int))) then cu (aS.bT k) (bN.g (aI.gr (aS.bT k))) (aS.X k (toNat (x2.1:Int))) else (0:Int)),Zi (bif er (aS.bT k) (aS.X k (toNat (x2.1:Int))) then cu (aS.bT k) (aI.g1 (aS.bT k)) (aS.X k (toNat (x2.1:Int))) else (0:Int)),Zi (bif er (aS.bT k) (aS.X k (toNat (x2.1:Int))) then cu (aS.bT k) (aI.g2 (aS.bT k)) (aS.X k (toNat (x2.1:Int))) else (0:Int))],Zi (bif er (aS.bT k) (aS.X k (toNat (x2.1:Int))) then (0:Int) else (2:Int))]) (.sc (((bif er k.2 (k.7 (toNat (x2.1:Int))) then (0:Int) else (2:Int)) != 0 || !((bif er k.2 (k.7 (toNat (x2.1:Int))) then cu k.2 (aI.gr (aS.bT k)).3 (k.7 (toNat (x2.1:Int))) else (0:Int))==k.5 (toNat (x2.1:Int)) 5&&((bif er k.2 (k.7 (toNat (x2.1:Int))) then cu k.2 (aS.bT k).2 (k.7 (toNat (x2.1:Int))) else (0:Int))==k.5 (toNat (x2.1:Int)) 6&&((bif er k.2 (k.7 (toNat (x2.1:Int))) then cu k.2 (aS.bT k).3 (k.7 (toNat (x2.1:Int))) else (0:Int))==k.5 (toNat (x2.1:Int)) 7&&true))))==false) 84 [.agg (aI.cells (aS.bT k)),.agg [Zi (k.5 (toNat (x2.1:Int)) 0),Zi (k.5 (toNat (x2.1:Int)) 1),Zi (k.5 (toNat (x2.1:Int)) 2),Zi (k.5 (toNat (x2.1:Int)) 3),Zi (k.5 (toNat (x2.1:Int)) 4),Zi (k.5 (toNat (x2.1:Int)) 5),Zi (k.5 (toNat (x2.1:Int)) 6),Zi (k.5 (toNat (x2.1:Int)) 7),Zi (k.5 (toNat (x2.1:Int)) 8),Zi (k.5 (toNat (x2.1:Int)) 9),Zi (k.5 (toNat (x2.1:Int)) 10)]] (.bool (dV (aS.bT k) (cG (aS.R k (toNat (x2.1:Int)))))) (.sc (((bif er k.2 (k.7 (toNat (x2.1:Int))) then (0:Int) else (2:Int)) != 0 || !((bif er k.2 (k.7 (toNat (x2.1:Int))) then cu k.2 (aI.gr (aS.bT k)).3 (k.7 (toNat (x2.1:Int))) else (0:Int))==k.5 (toNat (x2.1:Int)) 5&&((bif er k.2 (k.7 (toNat (x2.1:Int))) then cu k.2 (aS.bT k).2 (k.7 (toNat (x2.1:Int))) else (0:Int))==k.5 (toNat (x2.1:Int)) 6&&((bif er k.2 (k.7 (toNat (x2.1:Int))) then cu k.2 (aS.bT k).3 (k.7 (toNat (x2.1:Int))) else (0:Int))==k.5 (toNat (x2.1:Int)) 7&&true))) || !dV k.2 (cG (k.5 (toNat (x2.1:Int))))||k.5 (toNat (x2.1:Int)) 0 != k.1)==false) 85 [.aH 11 k.4 fun i j=>Zi (k.5 i j),Zi (k.5 (toNat (x2.1:Int)) 0),Zi (k.5 (toNat (x2.1:Int)) 1),Zi (k.5 (toNat (x2.1:Int)) 2)] (Zi (jR (aS.R k) (aS.nr k) (k.5 (toNat (x2.1:Int)) 0) (k.5 (toNat (x2.1:Int)) 1) (k.5 (toNat (x2.1:Int)) 2))) (.br ((bif er k.2 (k.7 (toNat (x2.1:Int))) then (0:Int) else (2:Int)) != 0 || !((bif er k.2 (k.7 (toNat (x2.1:Int))) then cu k.2 (aI.gr (aS.bT k)).3 (k.7 (toNat (x2.1:Int))) else (0:Int))==k.5 (toNat (x2.1:Int)) 5&&((bif er k.2 (k.7 (toNat (x2.1:Int))) then cu k.2 (aS.bT k).2 (k.7 (toNat (x2.1:Int))) else (0:Int))==k.5 (toNat (x2.1:Int)) 6&&((bif er k.2 (k.7 (toNat (x2.1:Int))) then cu k.2 (aS.bT k).3 (k.7 (toNat (x2.1:Int))) else (0:Int))==k.5 (toNat (x2.1:Int)) 7&&true))) || !dV k.2 (cG (k.5 (toNat (x2.1:Int))))||k.5 (toNat (x2.1:Int)) 0 != k.1||jR k.5 k.4 (k.5 (toNat (x2.1:Int)) 0) (k.5 (toNat (x2.1:Int)) 1) (k.5 (toNat (x2.1:Int)) 2) != (x2.1:Int)) (.out (.bool false) [] (.bool (eL k)) []) (.again (bh 0 (fun x=>aY [1,8,21,22,23] [.own 0 50 0 0 50,.aH 11 k.4 fun i j=>Zi (k.5 i j),.aH 11 k.4 fun i j=>Zi (k.5 i j),Zi k.4,Zi x.1] y0) (fun x=>aS.nr k - x.1) x2) [1,8,21,22,23] [0] [.own 0 50 0 0 50,.aH 11 k.4 fun i j=>Zi (k.5 i j),.aH 11 k.4 fun i j=>Zi (k.5 i j),Zi k.4,Zi (wrap .i64 ((x2.1:Int)+1))] (y0)))))))) (.out (.bool true) [] (.bool (eL k)) []))))))
  (by kernel_rfl) ?_
 refine aL (fun h0=>?_) (fun h0=>?_)
 ·have g0:=(aA af aU) h0
  exact aq (ay.of_eq (congrArg AV.bool (yY g0).symm))
 ·have g0:=(aw aa aR) h0
  refine aV (fun _ hs=>hs.le (⟨.refl _,.refl _,.refl _,.refl _,.refl _,trivial⟩) (⟨.refl _,trivial⟩)) (fun x2=>?_)
  try (have q2:=x2.2;dsimp only at q2)
  refine aL (fun h3=>?_) (fun h3=>?_)
  ·have g3:=af h3
   refine aD (by omega) ?_
   refine aD (by omega) ?_
   refine aM (c1 (toNat (↑x2.1:Int))) ?_
   refine aW (fun h7=>c2 (toNat (↑x2.1:Int))) ?_
   refine aW (fun h8=>c3 (k.5 (toNat (↑x2.1:Int)) (0)) (k.5 (toNat (↑x2.1:Int)) (1)) (k.5 (toNat (↑x2.1:Int)) (2)) (by omega)) ?_
   refine aL (fun h9=>?_) (fun h9=>?_)
   ·have g9:=(aA (aA (aA (aA aU (aC (ao aj (ao aj (ao aj aF))))) (aC aF)) aU) aU) h9
    try simp only [Int.toNat_natCast] at g9
    exact aq (ay.of_eq (congrArg AV.bool (xP (i:=x2.1) (by omega) (eU fun e=>by have e:=pc.1 e;clear c1 c2 c3;rw [e.1] at g9;simp only [cond_true] at g9;grind)).symm))
   ·have g9:=(aw (aw (aw (aw aR (az (ah ai (ah ai (ah ai aB))))) (az aB)) aR) aR) h9
    try simp only [Int.toNat_natCast] at g9
    exact aN (⟨x2.1+1,by omega,cN x2.2.2 (pc.2 (by clear c1 c2 c3;cases e:er k.bT (k.X x2.1)<;>rw [e] at g9<;>simp only [cond_true,cond_false] at g9<;>grind))⟩) (fun _ hs=>hs.le (⟨.refl _,.refl _,.refl _,.refl _,aK (by omega),trivial⟩) (⟨.refl _,trivial⟩)) (by dsimp only;omega)
  ·have g3:=aa h3
   exact aq (ay.of_eq (congrArg AV.bool (D2 g0 fun i hi=>x2.2.2 i (by omega)).symm))
theorem FL (k:aS) (hw:k.bT.gr.W) (hn:k.nc<9223372036854775808):Pure Tryz.prog aZ 38 [.agg k.cells] (.bool (fX k)):=by
 have c1:=fun i=>KY k.bT (k.C i).key (k.C i).pf hw
 have c2:=fun y=>tq k y hn
 refine ar (own:=bq) Tryz.func38 (by kernel_rfl) mixed (by kernel_rfl)
  (let y0:List (Option Ob):=[some ⟨50,1,true,.bc [aS.cells k]⟩];(.br (decide ((k.8:Int)>100)) (.out (.bool false) [] (.bool (fX k)) []) (.loop ({ x:Nat // x≤aS.nc k∧(fun (i:Nat)=>∀ (j:Nat),j<i→okC k j=true) x }) (fun x=>aY [1,6,10,11,12] [.own 0 50 0 0 50,.aH 7 k.8 fun i j=>aQ (cU.cells (aS.C k i)) j,.aH 7 k.8 fun i j=>aQ (cU.cells (aS.C k i)) j,Zi k.8,Zi x.1] y0) (fun x=>aS.nc k - x.1) (⟨0,⟨Nat.zero_le (aS.nc k),fun (j:Nat) (hj:j<0)=>absurd hj (Nat.not_lt_zero j)⟩⟩) [1,6,10,11,12] [0] [.own 0 50 0 0 50,.aH 7 k.8 fun i j=>aQ (cU.cells (aS.C k i)) j,.aH 7 k.8 fun i j=>aQ (cU.cells (aS.C k i)) j,Zi k.8,Zi 0] (y0) (fun x2=>(.br (decide ((x2.1:Int)<(k.8:Int))) (.bj (0≤(x2.1:Int)∧(x2.1:Int)<(k.8:Int)) (.sc true 86 [.agg (aI.cells (aS.bT k)),.agg [Zi (aS.C k (toNat (↑(x2.1):Int))).1,.aH 1 (cU.pf (aS.C k (toNat (↑(x2.1):Int)))).1 fun i x=>Zi ((cU.pf (aS.C k (toNat (↑(x2.1):Int)))).2 i),Zi (cU.pf (aS.C k (toNat (↑(x2.1):Int)))).3,.aH 1 (cU.pf (aS.C k (toNat (↑(x2.1):Int)))).4 fun i x=>Zi ((cU.pf (aS.C k (toNat (↑(x2.1):Int)))).5 i)]] (.bool (kv (aS.bT k) (cU.key (aS.C k (toNat (↑(x2.1):Int)))) (cU.pf (aS.C k (toNat (↑(x2.1):Int)))))) (.sc ((!kv k.2 (aS.C k (toNat (↑(x2.1):Int))).1 (aS.C k (toNat (↑(x2.1):Int))).2)==false) 21 [.agg (aS.cells k),Zi (aS.C k (toNat (↑(x2.1):Int))).1] (Zi (gW k (aS.C k (toNat (↑(x2.1):Int))).1)) (.sc ((!kv k.2 (aS.C k (toNat (↑(x2.1):Int))).1 (aS.C k (toNat (↑(x2.1):Int))).2||gW k (aS.C k (toNat (↑(x2.1):Int))).1 != (x2.1:Int)||(aS.C k (toNat (↑(x2.1):Int))).3 != wrap .i64 ((5:Int)+(x2.1:Int)))==false) 32 [Zi (aS.C k (toNat (↑(x2.1):Int))).5,Zi 0,Zi 200] (.bool (decide ((aS.C k (toNat (↑(x2.1):Int))).5≥0)&&decide ((aS.C k (toNat (↑(x2.1):Int))).5≤200))) (.br (!kv k.2 (aS.C k (toNat (↑(x2.1):Int))).1 (aS.C k (toNat (↑(x2.1):Int))).2||gW k (aS.C k (toNat (↑(x2.1):Int))).1 != (x2.1:Int)||(aS.C k (toNat (↑(x2.1):Int))).3 != wrap .i64 ((5:Int)+(x2.1:Int)) || !(decide ((aS.C k (toNat (↑(x2.1):Int))).5≥0)&&decide ((aS.C k (toNat (↑(x2.1):Int))).5≤200))) (.out (.bool false) [] (.bool (fX k)) []) (.again (bh 0 (fun x=>aY [1,6,10,11,12] [.own 0 50 0 0 50,.aH 7 k.8 fun i j=>aQ (cU.cells (aS.C k i)) j,.aH 7 k.8 fun i j=>aQ (cU.cells (aS.C k i)) j,Zi k.8,Zi x.1] y0) (fun x=>aS.nc k - x.1) x2) [1,6,10,11,12] [0] [.own 0 50 0 0 50,.aH 7 k.8 fun i j=>aQ (cU.cells (aS.C k i)) j,.aH 7 k.8 fun i j=>aQ (cU.cells (aS.C k i)) j,Zi k.8,Zi (wrap .i64 ((x2.1:Int)+1))] (y0))))))) (.out (.bool true) [] (.bool (fX k)) []))))))
  (by kernel_rfl) ?_
 refine aL (fun h0=>?_) (fun h0=>?_)
 ·have g0:=af h0
  exact aq (ay.of_eq (congrArg AV.bool (yy g0).symm))
 ·have g0:=aa h0
  refine aV (fun _ hs=>hs.le (⟨.refl _,.refl _,.refl _,.refl _,.refl _,trivial⟩) (⟨.refl _,trivial⟩)) (fun x2=>?_)
  try (have q2:=x2.2;dsimp only at q2)
  have e5:x2.1<k.nc→IntKind.wrap .i64 (5+(x2.1:Int))=5+(x2.1:Int):=fun _=>wI (by omega) (by omega)
  refine aL (fun h3=>?_) (fun h3=>?_)
  ·have g3:=af h3
   refine aD (by omega) ?_
   refine aM (c1 (toNat (↑(x2.1):Int))) ?_
   refine aW (fun h6=>c2 ((aS.C k (toNat (↑(x2.1):Int))).1)) ?_
   refine aW (fun h7=>rL ((aS.C k (toNat (↑(x2.1):Int))).5) ((0:Int)) ((200:Int))) ?_
   refine aL (fun h8=>?_) (fun h8=>?_)
   ·have g8:=(aA (aA (aA (aC aF) aU) aU) (aC (ao aa aa))) h8
    try simp only [Int.toNat_natCast] at g8
    exact aq (ay.of_eq (congrArg AV.bool (xS (i:=x2.1) (by omega) (eU fun e=>by have e:=mQ.1 e;clear c1 c2;rw [e5 (by omega)] at g8;grind)).symm))
   ·have g8:=(aw (aw (aw (az aB) aR) aR) (az (ah af af))) h8
    try simp only [Int.toNat_natCast] at g8
    exact aN (⟨x2.1+1,by omega,cN x2.2.2 (mQ.2 (by clear c1 c2;rw [e5 (by omega)] at g8;grind))⟩) (fun _ hs=>hs.le (⟨.refl _,.refl _,.refl _,.refl _,aK (by omega),trivial⟩) (⟨.refl _,trivial⟩)) (by dsimp only;omega)
  ·have g3:=aa h3
   exact aq (ay.of_eq (congrArg AV.bool (Ep g0 fun i hi=>x2.2.2 i (by omega)).symm))
end Go.Proofs.YtpefjkpdniiaoaaGreatDoor

namespace Go.Sp
open Go.IntKind (wrap)
open Int (toNat)
open Go Go.Am
variable {k : aS} {i : Nat}
theorem KL {r:Nat→Int} (h:¬ko k r<0):0≤ko k r∧ko k r<k.nr:=by
 have:=iE (p:=fun i=>kS (k.R i) r) k.nr 0
 unfold ko at h ⊢
 omega
theorem N3 (g:((ko k (fun j=>k.I i (3+j))<0∨gh k.bT (k.I i)=false)∨gW k (k.I i 2)<0)∨¬qI k (k.I i 2) (k.I i 1)=(i:Int)):okI k i=false:=eU fun e=>by
 have e:=mI.1 e
 grind
structure IsP (k : aS) (i : Nat) : Prop where
  rc : 0 ≤ ko k (fun j => k.I i (3 + j)) ∧ ko k (fun j => k.I i (3 + j)) < k.nr
  el : aO k.bT.gr (k.I i 15) = true
  nz : er k.bT (k.X (ko k fun j => k.I i (3 + j)).toNat) = true
theorem FF (hr:GZ k) (g:((¬ko k (fun j=>k.I i (3+j))<0∧gh k.bT (k.I i)=true)∧¬gW k (k.I i 2)<0)∧qI k (k.I i 2) (k.I i 1)=(i:Int)):IsP k i:=by
 have r:=KL g.1.1.1
 have v:=ry g.1.1.2
 exact ⟨r,by rw [v.m];exact MN v.ak,(pc.1 (hr.ok _ (by omega))).1⟩
theorem No (g:¬k.I i 15^(k.X (ko k fun j=>k.I i (3+j)).toNat).toNat%k.bT.gr.p=k.I i 16):okI k i=false:=eU fun e=>g (mI.1 e).2.2.2.2
theorem ist (g:((¬ko k (fun j=>k.I i (3+j))<0∧gh k.bT (k.I i)=true)∧¬gW k (k.I i 2)<0)∧qI k (k.I i 2) (k.I i 1)=(i:Int))
  (g':k.I i 15^(k.X (ko k fun j=>k.I i (3+j)).toNat).toNat%k.bT.gr.p=k.I i 16):okI k i=true :=
 mI.2 ⟨by have:=g.1.1.1;omega,g.1.1.2,by have:=g.1.2;omega,g.2,g'⟩
end Go.Sp

namespace Go.Proofs.YtpefjkpdniiaoaaGreatDoor
open Go.IntKind (wrap)
open Int (toNat)
open Go Go.Am Go.Sp
set_option maxRecDepth 100000
theorem E2 (k:aS) (h:k.bT.Ok) (hw:k.bT.gr.W) (hr:GZ k) (hc:k.nc<9223372036854775808) (hn:k.ni<9223372036854775808):Pure Tryz.prog aZ 41 [.agg k.cells] (.bool (hZ k)):=by
 have m0:=hr.hi
 have m1:=hr.ns
 have c1:=fun i=>I4 k.nr k.R (fun j=>k.I i (3+j)) (by omega)
 have c2:=fun i=>J0 k.bT (k.I i) hw
 have c3:=fun y=>tq k y hc
 have c4:=fun y m=>BT k y m hn
 have c5:=fun x e hx he=>nO k.bT.gr x e h.G hw hx he
 refine ar (own:=bq) Tryz.func41 (by kernel_rfl) mixed (by kernel_rfl)
  (let y0:List (Option Ob):=[some ⟨50,1,true,.bc [aS.cells k]⟩];(.br (decide ((k.16:Int)>200)) (.out (.bool false) [] (.bool (hZ k)) []) (.loop ({ x:Nat // x≤aS.ni k∧(fun (i:Nat)=>∀ (j:Nat),j<i→okI k j=true) x }) (fun x=>aY [1,9,13,14,15] [.own 0 50 0 0 50,.aH 21 k.16 fun i j=>Zi (k.17 i j),.aH 21 k.16 fun i j=>Zi (k.17 i j),Zi k.16,Zi x.1] y0) (fun x=>aS.ni k - x.1) (⟨0,⟨Nat.zero_le (aS.ni k),fun (j:Nat) (hj:j<0)=>absurd hj (Nat.not_lt_zero j)⟩⟩) [1,9,13,14,15] [0] [.own 0 50 0 0 50,.aH 21 k.16 fun i j=>Zi (k.17 i j),.aH 21 k.16 fun i j=>Zi (k.17 i j),Zi k.16,Zi 0] (y0) (fun x2=>(.br (decide ((x2.1:Int)<(k.16:Int))) (.bj (0≤(x2.1:Int)∧(x2.1:Int)<(k.16:Int)) (.sc true 92 [.aH 11 k.4 fun i j=>Zi (k.5 i j),.agg [Zi (k.17 (toNat (x2.1:Int)) 3),Zi (k.17 (toNat (x2.1:Int)) 4),Zi (k.17 (toNat (x2.1:Int)) 5),Zi (k.17 (toNat (x2.1:Int)) 6),Zi (k.17 (toNat (x2.1:Int)) 7),Zi (k.17 (toNat (x2.1:Int)) 8),Zi (k.17 (toNat (x2.1:Int)) 9),Zi (k.17 (toNat (x2.1:Int)) 10),Zi (k.17 (toNat (x2.1:Int)) 11),Zi (k.17 (toNat (x2.1:Int)) 12),Zi (k.17 (toNat (x2.1:Int)) 13)]] (Zi (aG (fun i=>kS (aS.R k i) fun j=>aS.I k (toNat (x2.1:Int)) (3+j)) (aS.nr k) 0)) (.sc (decide (aG (fun i=>kS (k.5 i) fun j=>k.17 (toNat (x2.1:Int)) (3+j)) k.4 0<0)==false) 93 [.agg (aI.cells (aS.bT k)),.agg [Zi (k.17 (toNat (x2.1:Int)) 0),Zi (k.17 (toNat (x2.1:Int)) 1),Zi (k.17 (toNat (x2.1:Int)) 2),Zi (k.17 (toNat (x2.1:Int)) 3),Zi (k.17 (toNat (x2.1:Int)) 4),Zi (k.17 (toNat (x2.1:Int)) 5),Zi (k.17 (toNat (x2.1:Int)) 6),Zi (k.17 (toNat (x2.1:Int)) 7),Zi (k.17 (toNat (x2.1:Int)) 8),Zi (k.17 (toNat (x2.1:Int)) 9),Zi (k.17 (toNat (x2.1:Int)) 10),Zi (k.17 (toNat (x2.1:Int)) 11),Zi (k.17 (toNat (x2.1:Int)) 12),Zi (k.17 (toNat (x2.1:Int)) 13),Zi (k.17 (toNat (x2.1:Int)) 14),Zi (k.17 (toNat (x2.1:Int)) 15),Zi (k.17 (toNat (x2.1:Int)) 16),Zi (k.17 (toNat (x2.1:Int)) 17),Zi (k.17 (toNat (x2.1:Int)) 18),Zi (k.17 (toNat (x2.1:Int)) 19),Zi (k.17 (toNat (x2.1:Int)) 20)]] (.bool (gh (aS.bT k) (aS.I k (toNat (x2.1:Int))))) (.sc ((decide (aG (fun i=>kS (k.5 i) fun j=>k.17 (toNat (x2.1:Int)) (3+j)) k.4 0<0) || !gh k.2 (k.17 (toNat (x2.1:Int))))==false) 21 [.agg (aS.cells k),Zi (k.17 (toNat (x2.1:Int)) 2)] (Zi (gW k (k.17 (toNat (x2.1:Int)) 2))) (.sc ((decide (aG (fun i=>kS (k.5 i) fun j=>k.17 (toNat (x2.1:Int)) (3+j)) k.4 0<0) || !gh k.2 (k.17 (toNat (x2.1:Int)))||decide (gW k (k.17 (toNat (x2.1:Int)) 2)<0))==false) 94 [.agg (aS.cells k),Zi (k.17 (toNat (x2.1:Int)) 2),Zi (k.17 (toNat (x2.1:Int)) 1)] (Zi (qI k (k.17 (toNat (x2.1:Int)) 2) (k.17 (toNat (x2.1:Int)) 1))) (.br (decide (aG (fun i=>kS (k.5 i) fun j=>k.17 (toNat (x2.1:Int)) (3+j)) k.4 0<0) || !gh k.2 (k.17 (toNat (x2.1:Int)))||decide (gW k (k.17 (toNat (x2.1:Int)) 2)<0)||qI k (k.17 (toNat (x2.1:Int)) 2) (k.17 (toNat (x2.1:Int)) 1) != (x2.1:Int)) (.out (.bool false) [] (.bool (hZ k)) []) (.bj ((0:Int)≤aG (fun i=>kS (k.5 i) fun j=>k.17 (toNat (x2.1:Int)) (3+j)) k.4 0∧aG (fun i=>kS (k.5 i) fun j=>k.17 (toNat (x2.1:Int)) (3+j)) k.4 0<(k.6:Int)) (.sc true 95 [.agg [Zi (aI.gr (aS.bT k)).1,Zi (aI.gr (aS.bT k)).2,Zi (aI.gr (aS.bT k)).3],Zi (k.17 (toNat (x2.1:Int)) 15),Zi (k.7 (toNat (aG (fun i=>kS (k.5 i) fun j=>k.17 (toNat (x2.1:Int)) (3+j)) k.4 0)))] (.aX [Zi (k.17 (toNat (x2.1:Int)) 15^toNat (k.7 (toNat (aG (fun i=>kS (k.5 i) fun j=>k.17 (toNat (x2.1:Int)) (3+j)) k.4 0)))%bN.p (aI.gr (aS.bT k))),Zi 0]) (.br (k.17 (toNat (x2.1:Int)) 15^toNat (k.7 (toNat (aG (fun i=>kS (k.5 i) fun j=>k.17 (toNat (x2.1:Int)) (3+j)) k.4 0)))%(aI.gr (aS.bT k)).1 != k.17 (toNat (x2.1:Int)) 16) (.out (.bool false) [] (.bool (hZ k)) []) (.again (bh 0 (fun x=>aY [1,9,13,14,15] [.own 0 50 0 0 50,.aH 21 k.16 fun i j=>Zi (k.17 i j),.aH 21 k.16 fun i j=>Zi (k.17 i j),Zi k.16,Zi x.1] y0) (fun x=>aS.ni k - x.1) x2) [1,9,13,14,15] [0] [.own 0 50 0 0 50,.aH 21 k.16 fun i j=>Zi (k.17 i j),.aH 21 k.16 fun i j=>Zi (k.17 i j),Zi k.16,Zi (wrap .i64 ((x2.1:Int)+1))] (y0))))))))))) (.out (.bool true) [] (.bool (hZ k)) []))))))
  (by kernel_rfl) ?_
 refine aL (fun h0=>?_) (fun h0=>?_)
 ·have g0:=af h0
  exact aq (ay.of_eq (congrArg AV.bool (yN g0).symm))
 ·have g0:=aa h0
  refine aV (fun _ hs=>hs.le (⟨.refl _,.refl _,.refl _,.refl _,.refl _,trivial⟩) (⟨.refl _,trivial⟩)) (fun x2=>?_)
  try (have q2:=x2.2;dsimp only at q2)
  refine aL (fun h3=>?_) (fun h3=>?_)
  ·have g3:=af h3
   refine aD (by omega) ?_
   refine aM (c1 (toNat (↑x2.1:Int))) ?_
   refine aW (fun h6=>c2 (toNat (↑x2.1:Int))) ?_
   refine aW (fun h7=>c3 (k.17 (toNat (↑x2.1:Int)) (2))) ?_
   refine aW (fun h8=>c4 (k.17 (toNat (↑x2.1:Int)) (2)) (k.17 (toNat (↑x2.1:Int)) (1))) ?_
   refine aL (fun h9=>?_) (fun h9=>?_)
   ·have g9:=(aA (aA (aA af (aC aF)) af) aU) h9
    try simp only [Int.toNat_natCast] at g9
    exact aq (ay.of_eq (congrArg AV.bool (tK (i:=x2.1) (by omega) (N3 g9)).symm))
   ·have g9:=(aw (aw (aw aa (az aB)) aa) aR) h9
    try simp only [Int.toNat_natCast] at g9
    refine aD (by have:=(FF hr g9).rc;unfold ko at this;simp only [Int.toNat_natCast];omega) ?_
    refine aM (c5 (k.17 (toNat (↑x2.1:Int)) (15)) (k.7 (toNat (aG (fun (i:Nat)=>kS (k.5 i) fun (j:Nat)=>k.17 (toNat (↑x2.1:Int)) (3+j)) k.4 (0)))) ((FF hr g9).el) (j0 (FF hr g9).nz)) ?_
    refine aL (fun h13=>?_) (fun h13=>?_)
    ·have g13:=aU h13
     try simp only [Int.toNat_natCast] at g13
     exact aq (ay.of_eq (congrArg AV.bool (tK (i:=x2.1) (by omega) (No g13)).symm))
    ·have g13:=aR h13
     try simp only [Int.toNat_natCast] at g13
     exact aN (⟨x2.1+1,by omega,cN x2.2.2 (ist g9 g13)⟩) (fun _ hs=>hs.le (⟨.refl _,.refl _,.refl _,.refl _,aK (by omega),trivial⟩) (⟨.refl _,trivial⟩)) (by dsimp only;omega)
  ·have g3:=aa h3
   exact aq (ay.of_eq (congrArg AV.bool (Eo g0 fun i hi=>x2.2.2 i (by omega)).symm))
theorem vN (x l h:Int):Pure Tryz.prog aZ 63 [.int .i64 x,.int .i64 l,.int .i64 h] (.bool (decide (x≥l)&&decide (x≤h))):=by
 refine ar (own:=bq) Tryz.func63 (by kernel_rfl) mixed (by kernel_rfl)
  (let y0:AV:=(.bool (decide (x≥l)&&decide (x≤h)));(.out y0 [] y0 []))
  (by kernel_rfl) ?_
 exact aq (ay.of_eq rfl)
theorem tR (k:aS) (y:Int) (hn:k.nc<9223372036854775808):Pure Tryz.prog aZ 25 [.agg k.cells,.int .i64 y] (.int .i64 (gW k y)):=by
 refine ar (own:=bq) Tryz.func25 (by kernel_rfl) mixed (by kernel_rfl)
  (let y0:=(fun (x:{ x:Nat // x≤aS.nc k∧(fun i=>gW k y=aG (fun i=>cU.key (aS.C k i)==y) (aS.nc k - i) i) x })=>aY [1,2,5] [Zi y,.own 0 50 0 0 50,Zi x.1] [some ⟨50,1,true,.bc [aS.cells k]⟩]);let y1:=(fun (x:{ x:Nat // x≤aS.nc k∧(fun i=>gW k y=aG (fun i=>cU.key (aS.C k i)==y) (aS.nc k - i) i) x })=>aS.nc k - x.1);(.loop ({ x:Nat // x≤aS.nc k∧(fun i=>gW k y=aG (fun i=>cU.key (aS.C k i)==y) (aS.nc k - i) i) x }) y0 y1 (⟨0,⟨Nat.zero_le (aS.nc k),rfl⟩⟩) [1,2,5] [0] [Zi y,.own 0 50 0 0 50,Zi 0] [some ⟨50,1,true,.bc [aS.cells k]⟩] (fun x0=>(.br (decide ((x0.1:Int)<(k.8:Int))) (.bj (0≤(x0.1:Int)∧(x0.1:Int)<(k.8:Int)) (.br ((aS.C k (toNat (↑(x0.1):Int))).1==y) (.out (Zi x0.1) [] (Zi (gW k y)) []) (.again (bh 0 y0 y1 x0) [1,2,5] [0] [Zi y,.own 0 50 0 0 50,Zi (wrap .i64 ((x0.1:Int)+1))] [some ⟨50,1,true,.bc [aS.cells k]⟩]))) (.out (Zi (-1)) [] (Zi (gW k y)) [])))))
  (by kernel_rfl) ?_
 refine aV (fun _ hs=>hs.le (⟨.refl _,.refl _,.refl _,trivial⟩) (⟨.refl _,trivial⟩)) (fun x0=>?_)
 try (have q0:=x0.2;dsimp only at q0)
 refine aL (fun h1=>?_) (fun h1=>?_)
 ·have g1:=af h1
  refine aD (by omega) ?_
  refine aL (fun h3=>?_) (fun h3=>?_)
  ·have g3:=ai h3
   try simp only [Int.toNat_natCast] at g3
   exact aq (ay.of_eq (congrArg _ (cr (p:=fun i=>(k.C i).key==y) x0.2.2 (by omega) (beq_iff_eq.2 g3))))
  ·have g3:=aj h3
   try simp only [Int.toNat_natCast] at g3
   exact aN (⟨x0.1+1,by omega,bS (p:=fun i=>(k.C i).key==y) x0.2.2 (by omega) (beq_eq_false_iff_ne.2 g3)⟩) (fun _ hs=>hs.le (⟨.refl _,.refl _,aK (by omega),trivial⟩) (⟨.refl _,trivial⟩)) (by dsimp only;omega)
 ·have g1:=aa h1
  exact aq (ay.of_eq (congrArg _ (bW x0.2.2 (by omega))))
theorem IV (k:aS) (r:Nat→Int) (hn:k.nr<9223372036854775808):Pure Tryz.prog aZ 120 [.agg k.cells,(cG r).av] (.int .i64 (ko k r)):=by
 refine ar (own:=bq) Tryz.func120 (by kernel_rfl) mixed (by kernel_rfl)
  (let y1:=(fun (x:{ x:Nat // x≤aS.nr k∧(fun (i:Nat)=>ko k r=aG (fun (i:Nat)=>kS (aS.R k i) r) (aS.nr k - i) i) x })=>aS.nr k - x.1);let y2:List (Option Ob):=[some ⟨50,1,true,bA.bc [aS.cells k]⟩,some ⟨11,1,true,bA.bc [fZ.cells (cG r)]⟩];let y0:=(fun (x:{ x:Nat // x≤aS.nr k∧(fun (i:Nat)=>ko k r=aG (fun (i:Nat)=>kS (aS.R k i) r) (aS.nr k - i) i) x })=>aY [2,3,5] [AV.own 0 50 0 0 50,AV.own 1 11 0 0 11,Zi (↑(x.1):Int)] y2);(.loop ({ x:Nat // x≤aS.nr k∧(fun (i:Nat)=>ko k r=aG (fun (i:Nat)=>kS (aS.R k i) r) (aS.nr k - i) i) x }) y0 y1 (⟨0,⟨Nat.zero_le (aS.nr k),rfl⟩⟩) ([2,3,5]) ([0,8]) ([AV.own 0 50 0 0 50,AV.own 1 11 0 0 11,Zi 0]) (y2) (fun x0=>(.br (decide ((↑x0.1:Int)<(↑k.4:Int))) (.bj ((0:Int)≤(↑x0.1:Int)∧(↑x0.1:Int)<(↑k.4:Int)) (.br (k.5 (toNat (↑x0.1:Int)) 0==r 0&&(k.5 (toNat (↑x0.1:Int)) 1==r 1&&(k.5 (toNat (↑x0.1:Int)) 2==r 2&&(k.5 (toNat (↑x0.1:Int)) 3==r 3&&(k.5 (toNat (↑x0.1:Int)) 4==r 4&&(k.5 (toNat (↑x0.1:Int)) 5==r 5&&(k.5 (toNat (↑x0.1:Int)) 6==r 6&&(k.5 (toNat (↑x0.1:Int)) 7==r 7&&true))&&(k.5 (toNat (↑x0.1:Int)) 8==r 8&&(k.5 (toNat (↑x0.1:Int)) 9==r 9&&(k.5 (toNat (↑x0.1:Int)) 10==r 10&&true))))))))) (.out (Zi (↑x0.1:Int)) [] (Zi (ko k r)) []) (.again (bh 0 y0 y1 x0) ([2,3,5]) ([0,1]) ([AV.own 0 50 0 0 50,AV.own 1 11 0 0 11,Zi (wrap .i64 ((↑x0.1:Int)+1))]) (y2)))) (.out (Zi (-1)) [] (Zi (ko k r)) [])))))
  (by kernel_rfl) ?_
 refine aV (fun _ hs=>hs.le (⟨.refl _,.refl _,.refl _,trivial⟩) (⟨.refl _,.refl _,trivial⟩)) (fun x0=>?_)
 try (have q0:=x0.2;dsimp only at q0)
 refine aL (fun h1=>?_) (fun h1=>?_)
 ·have g1:=af h1
  refine aD (by omega) ?_
  refine aL (fun h3=>?_) (fun h3=>?_)
  ·have g3:=(ah ai (ah ai (ah ai (ah ai (ah ai (ah (ah ai (ah ai (ah ai aB))) (ah ai (ah ai (ah ai aB))))))))) h3
   try simp only [Int.toNat_natCast] at g3
   exact aq (ay.of_eq (congrArg _ (cr (p:=fun i=>kS (k.R i) r) x0.2.2 (by omega) (uf.trans (Is (x:=r) g3)))))
  ·have g3:=(ao aj (ao aj (ao aj (ao aj (ao aj (ao (ao aj (ao aj (ao aj aF))) (ao aj (ao aj (ao aj aF))))))))) h3
   try simp only [Int.toNat_natCast] at g3
   exact aN (⟨x0.1+1,by omega,bS (p:=fun i=>kS (k.R i) r) x0.2.2 (by omega) (uf.trans (Ig (x:=r) g3))⟩) (fun _ hs=>hs.le (⟨.refl _,.refl _,aK (by omega),trivial⟩) (⟨.refl _,.refl _,trivial⟩)) (by dsimp only;omega)
 ·have g1:=aa h1
  exact aq (ay.of_eq (congrArg _ (bW x0.2.2 (by omega))))
theorem J6 (k:aS) (y m:Int) (hn:k.ni<9223372036854775808):Pure Tryz.prog aZ 121 [.agg k.cells,.int .i64 y,.int .i64 m] (.int .i64 (qI k y m)):=by
 refine ar (own:=bq) Tryz.func121 (by kernel_rfl) mixed (by kernel_rfl)
  (let y0:=(fun (x:{ x:Nat // x≤aS.ni k∧(fun i=>qI k y m=aG (fun i=>aS.I k i 2==y&&aS.I k i 1==m) (aS.ni k - i) i) x })=>aY [1,2,3,7] [Zi y,Zi m,.own 0 50 0 0 50,Zi x.1] [some ⟨50,1,true,.bc [aS.cells k]⟩]);let y1:=(fun (x:{ x:Nat // x≤aS.ni k∧(fun i=>qI k y m=aG (fun i=>aS.I k i 2==y&&aS.I k i 1==m) (aS.ni k - i) i) x })=>aS.ni k - x.1);(.loop ({ x:Nat // x≤aS.ni k∧(fun i=>qI k y m=aG (fun i=>aS.I k i 2==y&&aS.I k i 1==m) (aS.ni k - i) i) x }) y0 y1 (⟨0,⟨Nat.zero_le (aS.ni k),rfl⟩⟩) [1,2,3,7] [0] [Zi y,Zi m,.own 0 50 0 0 50,Zi 0] [some ⟨50,1,true,.bc [aS.cells k]⟩] (fun x0=>(.br (decide ((x0.1:Int)<(k.16:Int))) (.bj (0≤(x0.1:Int)∧(x0.1:Int)<(k.16:Int)) (.bj (((k.17 (toNat (x0.1:Int)) 2==y)==true)=true→0≤(x0.1:Int)∧(x0.1:Int)<(k.16:Int)) (.br (k.17 (toNat (x0.1:Int)) 2==y&&k.17 (toNat (x0.1:Int)) 1==m) (.out (Zi x0.1) [] (Zi (qI k y m)) []) (.again (bh 0 y0 y1 x0) [1,2,3,7] [0] [Zi y,Zi m,.own 0 50 0 0 50,Zi (wrap .i64 ((x0.1:Int)+1))] [some ⟨50,1,true,.bc [aS.cells k]⟩])))) (.out (Zi (-1)) [] (Zi (qI k y m)) [])))))
  (by kernel_rfl) ?_
 refine aV (fun _ hs=>hs.le (⟨.refl _,.refl _,.refl _,.refl _,trivial⟩) (⟨.refl _,trivial⟩)) (fun x0=>?_)
 try (have q0:=x0.2;dsimp only at q0)
 refine aL (fun h1=>?_) (fun h1=>?_)
 ·have g1:=af h1
  refine aD (by omega) ?_
  refine aD (fun hr=>by have hr:=(cQ ai) hr;omega) ?_
  refine aL (fun h4=>?_) (fun h4=>?_)
  ·have g4:=(ah ai ai) h4
   try simp only [Int.toNat_natCast] at g4
   exact aq (ay.of_eq (congrArg _ (cr (p:=fun i=>k.I i 2==y&&k.I i 1==m) x0.2.2 (by omega) (by simpa using g4))))
  ·have g4:=(ao aj aj) h4
   try simp only [Int.toNat_natCast] at g4
   exact aN (⟨x0.1+1,by omega,bS (p:=fun i=>k.I i 2==y&&k.I i 1==m) x0.2.2 (by omega) (by simp;omega)⟩) (fun _ hs=>hs.le (⟨.refl _,.refl _,.refl _,aK (by omega),trivial⟩) (⟨.refl _,trivial⟩)) (by dsimp only;omega)
 ·have g1:=aa h1
  exact aq (ay.of_eq (congrArg _ (bW x0.2.2 (by omega))))
theorem DP (n:Nat) (R:Nat→Nat→Int) (hn:n≤1000):Pure Tryz.prog aZ 113 [.aH 11 n fun i j=>.int .i64 (R i j)] (.bool (!(List.range n).all fun i=>jR R n (R i 0) (R i 1) (R i 2)==(i:Int))):=by
 have c1:=fun a b c=>u7 R n a b c hn
 refine ar (own:=bq) Tryz.func113 (by kernel_rfl) mixed (by kernel_rfl)
  (let y0:AV:=(.bool !List.all (List.range n) fun i=>jR R n (R i 0) (R i 1) (R i 2)==(i:Int));(.loop ({ x:Nat // x≤n∧(fun (i:Nat)=>∀ (j:Nat),j<i→(jR R n (R j 0) (R j 1) (R j 2)==(j:Int))=true) x }) (fun x=>aY [0,3] [.aH 11 n fun i j=>Zi (R i j),Zi x.1] []) (fun x=>n - x.1) (⟨0,⟨Nat.zero_le n,fun (j:Nat) (hj:j<0)=>absurd hj (Nat.not_lt_zero j)⟩⟩) [0,3] [] [.aH 11 n fun i j=>Zi (R i j),Zi 0] [] (fun x0=>(.br (decide ((x0.1:Int)<(n:Int))) (.bj (0≤(x0.1:Int)∧(x0.1:Int)<(n:Int)) (.bj (0≤(x0.1:Int)∧(x0.1:Int)<(n:Int)) (.bj (0≤(x0.1:Int)∧(x0.1:Int)<(n:Int)) (.sc true 123 [.aH 11 n fun i j=>Zi (R i j),Zi (R (toNat (x0.1:Int)) 0),Zi (R (toNat (x0.1:Int)) 1),Zi (R (toNat (x0.1:Int)) 2)] (Zi (jR R n (R (toNat (x0.1:Int)) 0) (R (toNat (x0.1:Int)) 1) (R (toNat (x0.1:Int)) 2))) (.br (jR R n (R (toNat (x0.1:Int)) 0) (R (toNat (x0.1:Int)) 1) (R (toNat (x0.1:Int)) 2) != (x0.1:Int)) (.out (.bool true) [] y0 []) (.again (bh 0 (fun x=>aY [0,3] [.aH 11 n fun i j=>Zi (R i j),Zi x.1] []) (fun x=>n - x.1) x0) [0,3] [] [.aH 11 n fun i j=>Zi (R i j),Zi (wrap .i64 ((x0.1:Int)+1))] [])))))) (.out (.bool false) [] y0 [])))))
  (by kernel_rfl) ?_
 refine aV (fun _ hs=>hs.le (⟨.refl _,.refl _,trivial⟩) (trivial)) (fun x0=>?_)
 try (have q0:=x0.2;dsimp only at q0)
 refine aL (fun h1=>?_) (fun h1=>?_)
 ·have g1:=af h1
  refine aD (by omega) ?_
  refine aD (by omega) ?_
  refine aD (by omega) ?_
  refine aM (c1 (R (toNat (↑x0.1:Int)) (0)) (R (toNat (↑x0.1:Int)) (1)) (R (toNat (↑x0.1:Int)) (2))) ?_
  refine aL (fun h6=>?_) (fun h6=>?_)
  ·have g6:=aU h6
   try simp only [Int.toNat_natCast] at g6
   exact aq (ay.of_eq (congrArg AV.bool (by rw [nF (p:=fun i=>jR R n (R i 0) (R i 1) (R i 2)==(i:Int)) (i:=x0.1) (by omega) (beq_eq_false_iff_ne.2 g6)];rfl)))
  ·have g6:=aR h6
   try simp only [Int.toNat_natCast] at g6
   exact aN (⟨x0.1+1,by omega,cN x0.2.2 (beq_iff_eq.2 g6)⟩) (fun _ hs=>hs.le (⟨.refl _,aK (by omega),trivial⟩) (trivial)) (by dsimp only;omega)
 ·have g1:=aa h1
  exact aq (ay.of_eq (congrArg AV.bool (by rw [jX fun i hi=>x0.2.2 i (by omega)];rfl)))
end Go.Proofs.YtpefjkpdniiaoaaGreatDoor

namespace Go.Sp
open Go.IntKind (wrap)
open Int (toNat)
open Go Go.Am
variable {k : aS} {i : Nat}
def xC (k:aS) (i:Nat):Bool:=okK k.bT (k.X i) (k.R i)&&dV k.bT (cG (k.R i))&&k.R i 0==k.num
theorem uj:xC k i=true↔er k.bT (k.X i)=true∧cu k.bT k.bT.gr.g (k.X i)=k.R i 5∧cu k.bT k.bT.g1 (k.X i)=k.R i 6∧cu k.bT k.bT.g2 (k.X i)=k.R i 7∧dV k.bT (cG (k.R i))=true∧k.R i 0=k.num:=by
 simp [xC,okK,and_assoc]
theorem Nf {n:Nat} (hn:n=k.nr) (g:¬(k.nr:Int)>100∧(k.ns:Int)=k.nr) (h:∀ i,i<n→xC k i=true):(!!(List.range k.nr).all fun i=>jR k.R k.nr (k.R i 0) (k.R i 1) (k.R i 2)==(i:Int))=eL k:=by
 subst hn
 rw [Bool.not_not]
 cases e:(List.range k.nr).all fun i=>jR k.R k.nr (k.R i 0) (k.R i 1) (k.R i 2)==(i:Int) with
 | true =>
  rw [List.all_eq_true] at e
  refine (D2 g fun i hi=>?_).symm
  have:=e i (List.mem_range.2 hi)
  have h2:=h i hi
  unfold xC at h2
  unfold okR
  rw [h2,this];rfl
 | false =>
  refine (eU fun h3=>?_).symm
  have h3:=(rK h3).ok
  have:((List.range k.nr).all fun i=>jR k.R k.nr (k.R i 0) (k.R i 1) (k.R i 2)==(i:Int))=true:=jX fun i hi=>beq_iff_eq.2 (pc.1 (h3 i hi)).2.2.2.2.2.2
  rw [this] at e;cases e
theorem K2 (hi:i<k.nr) (h:xC k i=false):eL k=false:=xP hi (by unfold xC at h;unfold okR;rw [h,Bool.false_and])
end Go.Sp
