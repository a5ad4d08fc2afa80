/- Part of the proof: OY12, OY13, SpOpen, SpOpenP, ArgsS, ArgsT, EnGlobS, EnShp. -/
import Derived.Test.YtbmdmoknnlhdoaaGreatDoorM9
import Derived.Test.YtbmdmoknnlhdoaaGreatDoorProg
import Derived.Test.YtbmdmoknnlhdoaaGreatDoorM3
import Derived.Test.YtbmdmoknnlhdoaaGreatDoorM4
import Derived.Test.YtbmdmoknnlhdoaaGreatDoorM7
import Derived.Test.YtbmdmoknnlhdoaaGreatDoorM8
import Derived.HandedShaped
import Derived.Shelf.Vars
namespace Go.Proofs.YtbmdmoknnlhdoaaGreatDoor.O
open Go Go.Am Go.Sp Go.Lib Go.RowKit
set_option maxRecDepth 100000
set_option maxHeartbeats 2000000
theorem sup_ln {f:Nat→Sup} {k:Nat} {X:ByteArray} (hX:X=bs (itoa (leftS (f k)))):bs (repF f k)++⟨#[98,97,110,107,32]⟩++bs (itoa (f k).bank)++⟨#[32,101,112,111,99,104,32]⟩++bs (itoa (f k).epoch)++⟨#[32,100,101,110,111,109,105,110,97,116,105,111,110,32]⟩++bs (itoa (f k).denom)++⟨#[58,32,105,115,115,117,101,100,32]⟩++bs (itoa (f k).issued)++⟨#[44,32,114,101,116,117,114,110,101,100,32]⟩++bs (itoa (f k).ret)++⟨#[44,32,100,111,117,98,108,101,32]⟩++bs (itoa (f k).dbl)++⟨#[44,32,101,120,112,105,114,101,100,32]⟩++bs (itoa (f k).exp)++⟨#[44,32,111,117,116,115,116,97,110,100,105,110,103,32]⟩++X++⟨#[10]⟩=bs (repF f (k+1)):=by
 subst hX
 show bs _++bs [98,97,110,107,32]++bs _++bs [32,101,112,111,99,104,32]++bs _++bs [32,100,101,110,111,109,105,110,97,116,105,111,110,32]++bs _++bs [58,32,105,115,115,117,101,100,32]++bs _++bs [44,32,114,101,116,117,114,110,101,100,32]++bs _++bs [44,32,100,111,117,98,108,101,32]++bs _++bs [44,32,101,120,112,105,114,101,100,32]++bs _++bs [44,32,111,117,116,115,116,97,110,100,105,110,103,32]++bs _++bs [10]=_
 simp only [bs_app]
 rw [repF]
 simp [supLn,flatP,supP,Part.t]
theorem tot_ln {f:Nat→Sup} {n k:Nat} (hk:k=n):bs (repF f k)++⟨#[116,111,116,97,108,32]⟩++bs (itoa (smV n f))++⟨#[10]⟩=bs (repF f n++totLn (smV n f)):=by
 subst hk
 show bs _++bs [116,111,116,97,108,32]++bs _++bs [10]=_
 simp only [bs_app]
 simp [totLn,flatP,totP,Part.t]
theorem val_D {s:Sup} (h:validS s=true) (k:¬leftS s<0):(0≤s.bank∧s.bank<9000000000000000)∧(0≤s.epoch∧s.epoch<9000000000000000)∧(0≤s.denom∧s.denom<9000000000000000)∧(0≤s.issued∧s.issued<9000000000000000)∧(0≤s.ret∧s.ret<9000000000000000)∧(0≤s.dbl∧s.dbl<9000000000000000)∧(0≤s.exp∧s.exp<9000000000000000)∧0≤leftS s∧leftS s≤9223372036854775807:=by
 have hw:=wrap_R (IntKind.wrap .i64 (IntKind.wrap .i64 (s.issued - s.ret)+s.dbl) - s.exp)
 have hw:I64 (leftS s):=hw
 unfold I64 at hw
 simp only [validS,amtB,Bool.and_eq_true,decide_eq_true_eq] at h
 omega
theorem sup_Z {n:Nat} {f:Nat→Sup} (hl:listB n f=true) (hg:∀ i,i<n→¬leftS (f i)<0) {i:Nat} (hi:i<n):(repF f i).length≤2000000000∧(itoa (f i).bank).length≤20∧(itoa (f i).epoch).length≤20∧(itoa (f i).denom).length≤20∧(itoa (f i).issued).length≤20∧(itoa (f i).ret).length≤20∧(itoa (f i).dbl).length≤20∧(itoa (f i).exp).length≤20∧(itoa (leftS (f i))).length≤20:=by
 have hn:=(list_spec hl).1
 have hr:=rep_le (f:=f) (fun i hi=>valid_R (list_val hl hi)) i (by omega)
 obtain ⟨h1,h2,h3,h4,h5,h6,h7,h8,h9⟩:=val_D (list_val hl hi) (hg i hi)
 exact ⟨by omega,itoa_l20 (by omega),itoa_l20 (by omega),itoa_l20 (by omega),itoa_l20 (by omega),itoa_l20 (by omega),itoa_l20 (by omega),itoa_l20 (by omega),itoa_l20 (by omega)⟩
theorem tot_Z {n:Nat} {f:Nat→Sup} (hl:listB n f=true) (hg:∀ i,i<n→¬leftS (f i)<0) {i:Nat} (hi:i≤n):(repF f i).length≤2000000000∧(itoa (smV n f)).length≤20:=by
 have hn:=(list_spec hl).1
 have hr:=rep_le (f:=f) (fun i hi=>valid_R (list_val hl hi)) i hi
 have hs:=smV_R n f
 unfold I64 at hs
 exact ⟨by omega,itoa_l20 hs⟩
theorem smV_pos {n:Nat} {f:Nat→Sup} (hl:listB n f=true) (hg:∀ i,i<n→¬leftS (f i)<0):0≤smV n f:=by
 have hn:=(list_spec hl).1
 rw [(sm_3 hl hg).1]
 have key:∀ k,k≤n→0≤sumN f k∧sumN f k≤9007199254740992*k:=by
  intro k
  induction k with
  | zero=>intro _;exact ⟨Int.le_refl _,Int.le_refl _⟩
  | succ k ih =>
   intro hk
   have h1:=ih (by omega)
   have h2:=hg k (by omega)
   have h3:leftS (f k)≤9007199254740992:=by
    have h4:=list_val hl (i:=k) (by omega)
    simp only [validS,amtB,Bool.and_eq_true,decide_eq_true_eq] at h4
    unfold leftS
    rw [wI (n:=(f k).issued - (f k).ret) (by omega) (by omega),wI (n:=(f k).issued - (f k).ret+(f k).dbl) (by omega) (by omega),wI (by omega) (by omega)];omega
   have e:sumN f (k+1)=IntKind.wrap .i64 (sumN f k+leftS (f k)):=rfl
   rw [e,wI (by omega) (by omega)]
   omega
 exact (key n (Nat.le_refl _)).1
theorem rrep_w (m:GP) (n:Nat) (f:Nat→Sup) (hn:n≤100000) (h:smE n f=0):Pure Tryz.prog (gl0 m) 11 [supA n f] (.tup [.str (bs (repF f n++totLn (smV n f))),.int .i64 0]):=by
 have c1:=rsum_l m n f hn
 rw [h] at c1
 obtain ⟨hl,hg⟩:=sm_eq h
 have hn1:=(list_spec hl).1
 have c2:=fun (i:Nat)=>left_l m (f i)
 have c3:=fun (v:Int) (hv : -9223372036854775808<v∧v≤9223372036854775807)=>d56_a m v hv
 refine pure_sk (own:=ow0) Tryz.func11 (by kernel_rfl) mixed (by kernel_rfl)
  (.sc (true) 29 ([AV.isl (7) n fun (i j:Nat)=>atL (Sup.cells (f i)) j]) (AV.tup [Zi (smV n f),Zi 0]) (.ff (.loop ({ x:Nat // x≤n }) (fun (x:{ x:Nat // x≤n })=>mkSt [0,4,6,7] [AV.isl (7) n fun (i j:Nat)=>atL (Sup.cells (f i)) j,Zi (smV n f),AV.str (bs (repF f (x.1))),Zi (↑(x.1):Int)] []) (fun (x:{ x:Nat // x≤n })=>n - x.1) (⟨(0:Nat),Nat.zero_le n⟩) ([0,4,6,7]) ([]) ([AV.isl (7) n fun (i j:Nat)=>atL (Sup.cells (f i)) j,Zi (smV n f),AV.str { data := #[] },Zi 0]) ([]) (fun x2=>(.br (decide ((↑x2.1:Int)<(↑n:Int))) (.req ((0:Int)≤(↑x2.1:Int)∧(↑x2.1:Int)<(↑n:Int)) (.req (ByteArray.size (bs (repF f x2.1))+5≤9223372036854775807) (.sc (true) 30 ([Zi (f (Int.toNat (↑(x2.1):Int))).1]) (AV.str (bs (itoa (f (Int.toNat (↑(x2.1):Int))).1))) (.req (ByteArray.size (bs (repF f x2.1)++{ data := #[(98:UInt8),(97:UInt8),(110:UInt8),(107:UInt8),(32:UInt8)] })+ByteArray.size (bs (itoa (f (Int.toNat (↑(x2.1):Int))).1))≤9223372036854775807) (.req (ByteArray.size (bs (repF f x2.1)++{ data := #[(98:UInt8),(97:UInt8),(110:UInt8),(107:UInt8),(32:UInt8)] }++bs (itoa (f (Int.toNat (↑(x2.1):Int))).1))+7≤9223372036854775807) (.sc (true) 30 ([Zi (f (Int.toNat (↑(x2.1):Int))).2]) (AV.str (bs (itoa (f (Int.toNat (↑(x2.1):Int))).2))) (.req (ByteArray.size (bs (repF f x2.1)++{ data := #[(98:UInt8),(97:UInt8),(110:UInt8),(107:UInt8),(32:UInt8)] }++bs (itoa (f (Int.toNat (↑(x2.1):Int))).1)++{ data := #[(32:UInt8),(101:UInt8),(112:UInt8),(111:UInt8),(99:UInt8),(104:UInt8),(32:UInt8)] })+ByteArray.size (bs (itoa (f (Int.toNat (↑(x2.1):Int))).2))≤9223372036854775807) (.req (ByteArray.size (bs (repF f x2.1)++{ data := #[(98:UInt8),(97:UInt8),(110:UInt8),(107:UInt8),(32:UInt8)] }++bs (itoa (f (Int.toNat (↑(x2.1):Int))).1)++{ data := #[(32:UInt8),(101:UInt8),(112:UInt8),(111:UInt8),(99:UInt8),(104:UInt8),(32:UInt8)] }++bs (itoa (f (Int.toNat (↑(x2.1):Int))).2))+14≤9223372036854775807) (.sc (true) 30 ([Zi (f (Int.toNat (↑(x2.1):Int))).3]) (AV.str (bs (itoa (f (Int.toNat (↑(x2.1):Int))).3))) (.req (ByteArray.size (bs (repF f x2.1)++{ data := #[(98:UInt8),(97:UInt8),(110:UInt8),(107:UInt8),(32:UInt8)] }++bs (itoa (f (Int.toNat (↑(x2.1):Int))).1)++{ data := #[(32:UInt8),(101:UInt8),(112:UInt8),(111:UInt8),(99:UInt8),(104:UInt8),(32:UInt8)] }++bs (itoa (f (Int.toNat (↑(x2.1):Int))).2)++{ data := #[(32:UInt8),(100:UInt8),(101:UInt8),(110:UInt8),(111:UInt8),(109:UInt8),(105:UInt8),(110:UInt8),(97:UInt8),(116:UInt8),(105:UInt8),(111:UInt8),(110:UInt8),(32:UInt8)] })+ByteArray.size (bs (itoa (f (Int.toNat (↑(x2.1):Int))).3))≤9223372036854775807) (.req (ByteArray.size (bs (repF f x2.1)++{ data := #[(98:UInt8),(97:UInt8),(110:UInt8),(107:UInt8),(32:UInt8)] }++bs (itoa (f (Int.toNat (↑(x2.1):Int))).1)++{ data := #[(32:UInt8),(101:UInt8),(112:UInt8),(111:UInt8),(99:UInt8),(104:UInt8),(32:UInt8)] }++bs (itoa (f (Int.toNat (↑(x2.1):Int))).2)++{ data := #[(32:UInt8),(100:UInt8),(101:UInt8),(110:UInt8),(111:UInt8),(109:UInt8),(105:UInt8),(110:UInt8),(97:UInt8),(116:UInt8),(105:UInt8),(111:UInt8),(110:UInt8),(32:UInt8)] }++bs (itoa (f (Int.toNat (↑(x2.1):Int))).3))+9≤9223372036854775807) (.sc (true) 30 ([Zi (f (Int.toNat (↑(x2.1):Int))).4]) (AV.str (bs (itoa (f (Int.toNat (↑(x2.1):Int))).4))) (.req (ByteArray.size (bs (repF f x2.1)++{ data := #[(98:UInt8),(97:UInt8),(110:UInt8),(107:UInt8),(32:UInt8)] }++bs (itoa (f (Int.toNat (↑(x2.1):Int))).1)++{ data := #[(32:UInt8),(101:UInt8),(112:UInt8),(111:UInt8),(99:UInt8),(104:UInt8),(32:UInt8)] }++bs (itoa (f (Int.toNat (↑(x2.1):Int))).2)++{ data := #[(32:UInt8),(100:UInt8),(101:UInt8),(110:UInt8),(111:UInt8),(109:UInt8),(105:UInt8),(110:UInt8),(97:UInt8),(116:UInt8),(105:UInt8),(111:UInt8),(110:UInt8),(32:UInt8)] }++bs (itoa (f (Int.toNat (↑(x2.1):Int))).3)++{ data := #[(58:UInt8),(32:UInt8),(105:UInt8),(115:UInt8),(115:UInt8),(117:UInt8),(101:UInt8),(100:UInt8),(32:UInt8)] })+ByteArray.size (bs (itoa (f (Int.toNat (↑(x2.1):Int))).4))≤9223372036854775807) (.req (ByteArray.size (bs (repF f x2.1)++{ data := #[(98:UInt8),(97:UInt8),(110:UInt8),(107:UInt8),(32:UInt8)] }++bs (itoa (f (Int.toNat (↑(x2.1):Int))).1)++{ data := #[(32:UInt8),(101:UInt8),(112:UInt8),(111:UInt8),(99:UInt8),(104:UInt8),(32:UInt8)] }++bs (itoa (f (Int.toNat (↑(x2.1):Int))).2)++{ data := #[(32:UInt8),(100:UInt8),(101:UInt8),(110:UInt8),(111:UInt8),(109:UInt8),(105:UInt8),(110:UInt8),(97:UInt8),(116:UInt8),(105:UInt8),(111:UInt8),(110:UInt8),(32:UInt8)] }++bs (itoa (f (Int.toNat (↑(x2.1):Int))).3)++{ data := #[(58:UInt8),(32:UInt8),(105:UInt8),(115:UInt8),(115:UInt8),(117:UInt8),(101:UInt8),(100:UInt8),(32:UInt8)] }++bs (itoa (f (Int.toNat (↑(x2.1):Int))).4))+11≤9223372036854775807) (.sc (true) 30 ([Zi (f (Int.toNat (↑(x2.1):Int))).5]) (AV.str (bs (itoa (f (Int.toNat (↑(x2.1):Int))).5))) (.req (ByteArray.size (bs (repF f x2.1)++{ data := #[(98:UInt8),(97:UInt8),(110:UInt8),(107:UInt8),(32:UInt8)] }++bs (itoa (f (Int.toNat (↑(x2.1):Int))).1)++{ data := #[(32:UInt8),(101:UInt8),(112:UInt8),(111:UInt8),(99:UInt8),(104:UInt8),(32:UInt8)] }++bs (itoa (f (Int.toNat (↑(x2.1):Int))).2)++{ data := #[(32:UInt8),(100:UInt8),(101:UInt8),(110:UInt8),(111:UInt8),(109:UInt8),(105:UInt8),(110:UInt8),(97:UInt8),(116:UInt8),(105:UInt8),(111:UInt8),(110:UInt8),(32:UInt8)] }++bs (itoa (f (Int.toNat (↑(x2.1):Int))).3)++{ data := #[(58:UInt8),(32:UInt8),(105:UInt8),(115:UInt8),(115:UInt8),(117:UInt8),(101:UInt8),(100:UInt8),(32:UInt8)] }++bs (itoa (f (Int.toNat (↑(x2.1):Int))).4)++{ data := #[(44:UInt8),(32:UInt8),(114:UInt8),(101:UInt8),(116:UInt8),(117:UInt8),(114:UInt8),(110:UInt8),(101:UInt8),(100:UInt8),(32:UInt8)] })+ByteArray.size (bs (itoa (f (Int.toNat (↑(x2.1):Int))).5))≤9223372036854775807) (.req (ByteArray.size (bs (repF f x2.1)++{ data := #[(98:UInt8),(97:UInt8),(110:UInt8),(107:UInt8),(32:UInt8)] }++bs (itoa (f (Int.toNat (↑(x2.1):Int))).1)++{ data := #[(32:UInt8),(101:UInt8),(112:UInt8),(111:UInt8),(99:UInt8),(104:UInt8),(32:UInt8)] }++bs (itoa (f (Int.toNat (↑(x2.1):Int))).2)++{ data := #[(32:UInt8),(100:UInt8),(101:UInt8),(110:UInt8),(111:UInt8),(109:UInt8),(105:UInt8),(110:UInt8),(97:UInt8),(116:UInt8),(105:UInt8),(111:UInt8),(110:UInt8),(32:UInt8)] }++bs (itoa (f (Int.toNat (↑(x2.1):Int))).3)++{ data := #[(58:UInt8),(32:UInt8),(105:UInt8),(115:UInt8),(115:UInt8),(117:UInt8),(101:UInt8),(100:UInt8),(32:UInt8)] }++bs (itoa (f (Int.toNat (↑(x2.1):Int))).4)++{ data := #[(44:UInt8),(32:UInt8),(114:UInt8),(101:UInt8),(116:UInt8),(117:UInt8),(114:UInt8),(110:UInt8),(101:UInt8),(100:UInt8),(32:UInt8)] }++bs (itoa (f (Int.toNat (↑(x2.1):Int))).5))+9≤9223372036854775807) (.sc (true) 30 ([Zi (f (Int.toNat (↑(x2.1):Int))).6]) (AV.str (bs (itoa (f (Int.toNat (↑(x2.1):Int))).6))) (.req (ByteArray.size (bs (repF f x2.1)++{ data := #[(98:UInt8),(97:UInt8),(110:UInt8),(107:UInt8),(32:UInt8)] }++bs (itoa (f (Int.toNat (↑(x2.1):Int))).1)++{ data := #[(32:UInt8),(101:UInt8),(112:UInt8),(111:UInt8),(99:UInt8),(104:UInt8),(32:UInt8)] }++bs (itoa (f (Int.toNat (↑(x2.1):Int))).2)++{ data := #[(32:UInt8),(100:UInt8),(101:UInt8),(110:UInt8),(111:UInt8),(109:UInt8),(105:UInt8),(110:UInt8),(97:UInt8),(116:UInt8),(105:UInt8),(111:UInt8),(110:UInt8),(32:UInt8)] }++bs (itoa (f (Int.toNat (↑(x2.1):Int))).3)++{ data := #[(58:UInt8),(32:UInt8),(105:UInt8),(115:UInt8),(115:UInt8),(117:UInt8),(101:UInt8),(100:UInt8),(32:UInt8)] }++bs (itoa (f (Int.toNat (↑(x2.1):Int))).4)++{ data := #[(44:UInt8),(32:UInt8),(114:UInt8),(101:UInt8),(116:UInt8),(117:UInt8),(114:UInt8),(110:UInt8),(101:UInt8),(100:UInt8),(32:UInt8)] }++bs (itoa (f (Int.toNat (↑(x2.1):Int))).5)++{ data := #[(44:UInt8),(32:UInt8),(100:UInt8),(111:UInt8),(117:UInt8),(98:UInt8),(108:UInt8),(101:UInt8),(32:UInt8)] })+ByteArray.size (bs (itoa (f (Int.toNat (↑(x2.1):Int))).6))≤9223372036854775807) (.req (ByteArray.size (bs (repF f x2.1)++{ data := #[(98:UInt8),(97:UInt8),(110:UInt8),(107:UInt8),(32:UInt8)] }++bs (itoa (f (Int.toNat (↑(x2.1):Int))).1)++{ data := #[(32:UInt8),(101:UInt8),(112:UInt8),(111:UInt8),(99:UInt8),(104:UInt8),(32:UInt8)] }++bs (itoa (f (Int.toNat (↑(x2.1):Int))).2)++{ data := #[(32:UInt8),(100:UInt8),(101:UInt8),(110:UInt8),(111:UInt8),(109:UInt8),(105:UInt8),(110:UInt8),(97:UInt8),(116:UInt8),(105:UInt8),(111:UInt8),(110:UInt8),(32:UInt8)] }++bs (itoa (f (Int.toNat (↑(x2.1):Int))).3)++{ data := #[(58:UInt8),(32:UInt8),(105:UInt8),(115:UInt8),(115:UInt8),(117:UInt8),(101:UInt8),(100:UInt8),(32:UInt8)] }++bs (itoa (f (Int.toNat (↑(x2.1):Int))).4)++{ data := #[(44:UInt8),(32:UInt8),(114:UInt8),(101:UInt8),(116:UInt8),(117:UInt8),(114:UInt8),(110:UInt8),(101:UInt8),(100:UInt8),(32:UInt8)] }++bs (itoa (f (Int.toNat (↑(x2.1):Int))).5)++{ data := #[(44:UInt8),(32:UInt8),(100:UInt8),(111:UInt8),(117:UInt8),(98:UInt8),(108:UInt8),(101:UInt8),(32:UInt8)] }++bs (itoa (f (Int.toNat (↑(x2.1):Int))).6))+10≤9223372036854775807) (.sc (true) 30 ([Zi (f (Int.toNat (↑(x2.1):Int))).7]) (AV.str (bs (itoa (f (Int.toNat (↑(x2.1):Int))).7))) (.req (ByteArray.size (bs (repF f x2.1)++{ data := #[(98:UInt8),(97:UInt8),(110:UInt8),(107:UInt8),(32:UInt8)] }++bs (itoa (f (Int.toNat (↑(x2.1):Int))).1)++{ data := #[(32:UInt8),(101:UInt8),(112:UInt8),(111:UInt8),(99:UInt8),(104:UInt8),(32:UInt8)] }++bs (itoa (f (Int.toNat (↑(x2.1):Int))).2)++{ data := #[(32:UInt8),(100:UInt8),(101:UInt8),(110:UInt8),(111:UInt8),(109:UInt8),(105:UInt8),(110:UInt8),(97:UInt8),(116:UInt8),(105:UInt8),(111:UInt8),(110:UInt8),(32:UInt8)] }++bs (itoa (f (Int.toNat (↑(x2.1):Int))).3)++{ data := #[(58:UInt8),(32:UInt8),(105:UInt8),(115:UInt8),(115:UInt8),(117:UInt8),(101:UInt8),(100:UInt8),(32:UInt8)] }++bs (itoa (f (Int.toNat (↑(x2.1):Int))).4)++{ data := #[(44:UInt8),(32:UInt8),(114:UInt8),(101:UInt8),(116:UInt8),(117:UInt8),(114:UInt8),(110:UInt8),(101:UInt8),(100:UInt8),(32:UInt8)] }++bs (itoa (f (Int.toNat (↑(x2.1):Int))).5)++{ data := #[(44:UInt8),(32:UInt8),(100:UInt8),(111:UInt8),(117:UInt8),(98:UInt8),(108:UInt8),(101:UInt8),(32:UInt8)] }++bs (itoa (f (Int.toNat (↑(x2.1):Int))).6)++{ data := #[(44:UInt8),(32:UInt8),(101:UInt8),(120:UInt8),(112:UInt8),(105:UInt8),(114:UInt8),(101:UInt8),(100:UInt8),(32:UInt8)] })+ByteArray.size (bs (itoa (f (Int.toNat (↑(x2.1):Int))).7))≤9223372036854775807) (.req (ByteArray.size (bs (repF f x2.1)++{ data := #[(98:UInt8),(97:UInt8),(110:UInt8),(107:UInt8),(32:UInt8)] }++bs (itoa (f (Int.toNat (↑(x2.1):Int))).1)++{ data := #[(32:UInt8),(101:UInt8),(112:UInt8),(111:UInt8),(99:UInt8),(104:UInt8),(32:UInt8)] }++bs (itoa (f (Int.toNat (↑(x2.1):Int))).2)++{ data := #[(32:UInt8),(100:UInt8),(101:UInt8),(110:UInt8),(111:UInt8),(109:UInt8),(105:UInt8),(110:UInt8),(97:UInt8),(116:UInt8),(105:UInt8),(111:UInt8),(110:UInt8),(32:UInt8)] }++bs (itoa (f (Int.toNat (↑(x2.1):Int))).3)++{ data := #[(58:UInt8),(32:UInt8),(105:UInt8),(115:UInt8),(115:UInt8),(117:UInt8),(101:UInt8),(100:UInt8),(32:UInt8)] }++bs (itoa (f (Int.toNat (↑(x2.1):Int))).4)++{ data := #[(44:UInt8),(32:UInt8),(114:UInt8),(101:UInt8),(116:UInt8),(117:UInt8),(114:UInt8),(110:UInt8),(101:UInt8),(100:UInt8),(32:UInt8)] }++bs (itoa (f (Int.toNat (↑(x2.1):Int))).5)++{ data := #[(44:UInt8),(32:UInt8),(100:UInt8),(111:UInt8),(117:UInt8),(98:UInt8),(108:UInt8),(101:UInt8),(32:UInt8)] }++bs (itoa (f (Int.toNat (↑(x2.1):Int))).6)++{ data := #[(44:UInt8),(32:UInt8),(101:UInt8),(120:UInt8),(112:UInt8),(105:UInt8),(114:UInt8),(101:UInt8),(100:UInt8),(32:UInt8)] }++bs (itoa (f (Int.toNat (↑(x2.1):Int))).7))+14≤9223372036854775807) (.sc (true) 31 ([AV.agg (Sup.cells (f (Int.toNat (↑(x2.1):Int))))]) (Zi (leftS (f (Int.toNat (↑(x2.1):Int))))) (.sc (true) 30 ([Zi (leftS (f (Int.toNat (↑x2.1:Int))))]) (AV.str (bs (itoa (leftS (f (Int.toNat (↑x2.1:Int))))))) (.req (ByteArray.size (bs (repF f x2.1)++{ data := #[(98:UInt8),(97:UInt8),(110:UInt8),(107:UInt8),(32:UInt8)] }++bs (itoa (f (Int.toNat (↑(x2.1):Int))).1)++{ data := #[(32:UInt8),(101:UInt8),(112:UInt8),(111:UInt8),(99:UInt8),(104:UInt8),(32:UInt8)] }++bs (itoa (f (Int.toNat (↑(x2.1):Int))).2)++{ data := #[(32:UInt8),(100:UInt8),(101:UInt8),(110:UInt8),(111:UInt8),(109:UInt8),(105:UInt8),(110:UInt8),(97:UInt8),(116:UInt8),(105:UInt8),(111:UInt8),(110:UInt8),(32:UInt8)] }++bs (itoa (f (Int.toNat (↑(x2.1):Int))).3)++{ data := #[(58:UInt8),(32:UInt8),(105:UInt8),(115:UInt8),(115:UInt8),(117:UInt8),(101:UInt8),(100:UInt8),(32:UInt8)] }++bs (itoa (f (Int.toNat (↑(x2.1):Int))).4)++{ data := #[(44:UInt8),(32:UInt8),(114:UInt8),(101:UInt8),(116:UInt8),(117:UInt8),(114:UInt8),(110:UInt8),(101:UInt8),(100:UInt8),(32:UInt8)] }++bs (itoa (f (Int.toNat (↑(x2.1):Int))).5)++{ data := #[(44:UInt8),(32:UInt8),(100:UInt8),(111:UInt8),(117:UInt8),(98:UInt8),(108:UInt8),(101:UInt8),(32:UInt8)] }++bs (itoa (f (Int.toNat (↑(x2.1):Int))).6)++{ data := #[(44:UInt8),(32:UInt8),(101:UInt8),(120:UInt8),(112:UInt8),(105:UInt8),(114:UInt8),(101:UInt8),(100:UInt8),(32:UInt8)] }++bs (itoa (f (Int.toNat (↑(x2.1):Int))).7)++{ data := #[(44:UInt8),(32:UInt8),(111:UInt8),(117:UInt8),(116:UInt8),(115:UInt8),(116:UInt8),(97:UInt8),(110:UInt8),(100:UInt8),(105:UInt8),(110:UInt8),(103:UInt8),(32:UInt8)] })+ByteArray.size (bs (itoa (leftS (f (Int.toNat (↑x2.1:Int))))))≤9223372036854775807) (.req (ByteArray.size (bs (repF f x2.1)++{ data := #[(98:UInt8),(97:UInt8),(110:UInt8),(107:UInt8),(32:UInt8)] }++bs (itoa (f (Int.toNat (↑(x2.1):Int))).1)++{ data := #[(32:UInt8),(101:UInt8),(112:UInt8),(111:UInt8),(99:UInt8),(104:UInt8),(32:UInt8)] }++bs (itoa (f (Int.toNat (↑(x2.1):Int))).2)++{ data := #[(32:UInt8),(100:UInt8),(101:UInt8),(110:UInt8),(111:UInt8),(109:UInt8),(105:UInt8),(110:UInt8),(97:UInt8),(116:UInt8),(105:UInt8),(111:UInt8),(110:UInt8),(32:UInt8)] }++bs (itoa (f (Int.toNat (↑(x2.1):Int))).3)++{ data := #[(58:UInt8),(32:UInt8),(105:UInt8),(115:UInt8),(115:UInt8),(117:UInt8),(101:UInt8),(100:UInt8),(32:UInt8)] }++bs (itoa (f (Int.toNat (↑(x2.1):Int))).4)++{ data := #[(44:UInt8),(32:UInt8),(114:UInt8),(101:UInt8),(116:UInt8),(117:UInt8),(114:UInt8),(110:UInt8),(101:UInt8),(100:UInt8),(32:UInt8)] }++bs (itoa (f (Int.toNat (↑(x2.1):Int))).5)++{ data := #[(44:UInt8),(32:UInt8),(100:UInt8),(111:UInt8),(117:UInt8),(98:UInt8),(108:UInt8),(101:UInt8),(32:UInt8)] }++bs (itoa (f (Int.toNat (↑(x2.1):Int))).6)++{ data := #[(44:UInt8),(32:UInt8),(101:UInt8),(120:UInt8),(112:UInt8),(105:UInt8),(114:UInt8),(101:UInt8),(100:UInt8),(32:UInt8)] }++bs (itoa (f (Int.toNat (↑(x2.1):Int))).7)++{ data := #[(44:UInt8),(32:UInt8),(111:UInt8),(117:UInt8),(116:UInt8),(115:UInt8),(116:UInt8),(97:UInt8),(110:UInt8),(100:UInt8),(105:UInt8),(110:UInt8),(103:UInt8),(32:UInt8)] }++bs (itoa (leftS (f (Int.toNat (↑x2.1:Int))))))+1≤9223372036854775807) (.again (Again (0) (fun (x:{ x:Nat // x≤n })=>mkSt [0,4,6,7] [AV.isl (7) n fun (i j:Nat)=>atL (Sup.cells (f i)) j,Zi (smV n f),AV.str (bs (repF f (x.1))),Zi (↑(x.1):Int)] []) (fun (x:{ x:Nat // x≤n })=>n - x.1) x2) ([0,4,6,7]) ([]) ([AV.isl (7) n fun (i j:Nat)=>atL (Sup.cells (f i)) j,Zi (smV n f),AV.str (bs (repF f x2.1)++{ data := #[(98:UInt8),(97:UInt8),(110:UInt8),(107:UInt8),(32:UInt8)] }++bs (itoa (f (Int.toNat (↑(x2.1):Int))).1)++{ data := #[(32:UInt8),(101:UInt8),(112:UInt8),(111:UInt8),(99:UInt8),(104:UInt8),(32:UInt8)] }++bs (itoa (f (Int.toNat (↑(x2.1):Int))).2)++{ data := #[(32:UInt8),(100:UInt8),(101:UInt8),(110:UInt8),(111:UInt8),(109:UInt8),(105:UInt8),(110:UInt8),(97:UInt8),(116:UInt8),(105:UInt8),(111:UInt8),(110:UInt8),(32:UInt8)] }++bs (itoa (f (Int.toNat (↑(x2.1):Int))).3)++{ data := #[(58:UInt8),(32:UInt8),(105:UInt8),(115:UInt8),(115:UInt8),(117:UInt8),(101:UInt8),(100:UInt8),(32:UInt8)] }++bs (itoa (f (Int.toNat (↑(x2.1):Int))).4)++{ data := #[(44:UInt8),(32:UInt8),(114:UInt8),(101:UInt8),(116:UInt8),(117:UInt8),(114:UInt8),(110:UInt8),(101:UInt8),(100:UInt8),(32:UInt8)] }++bs (itoa (f (Int.toNat (↑(x2.1):Int))).5)++{ data := #[(44:UInt8),(32:UInt8),(100:UInt8),(111:UInt8),(117:UInt8),(98:UInt8),(108:UInt8),(101:UInt8),(32:UInt8)] }++bs (itoa (f (Int.toNat (↑(x2.1):Int))).6)++{ data := #[(44:UInt8),(32:UInt8),(101:UInt8),(120:UInt8),(112:UInt8),(105:UInt8),(114:UInt8),(101:UInt8),(100:UInt8),(32:UInt8)] }++bs (itoa (f (Int.toNat (↑(x2.1):Int))).7)++{ data := #[(44:UInt8),(32:UInt8),(111:UInt8),(117:UInt8),(116:UInt8),(115:UInt8),(116:UInt8),(97:UInt8),(110:UInt8),(100:UInt8),(105:UInt8),(110:UInt8),(103:UInt8),(32:UInt8)] }++bs (itoa (leftS (f (Int.toNat (↑x2.1:Int)))))++{ data := #[(10:UInt8)] }),Zi (IntKind.wrap IntKind.i64 ((↑x2.1:Int)+(1:Int)))]) ([]))))))))))))))))))))))))))))) (.req (ByteArray.size (bs (repF f x2.1))+6≤9223372036854775807) (.sc (true) 30 ([Zi (smV n f)]) (AV.str (bs (itoa (smV n f)))) (.req (ByteArray.size (bs (repF f x2.1)++{ data := #[(116:UInt8),(111:UInt8),(116:UInt8),(97:UInt8),(108:UInt8),(32:UInt8)] })+ByteArray.size (bs (itoa (smV n f)))≤9223372036854775807) (.req (ByteArray.size (bs (repF f x2.1)++{ data := #[(116:UInt8),(111:UInt8),(116:UInt8),(97:UInt8),(108:UInt8),(32:UInt8)] }++bs (itoa (smV n f)))+1≤9223372036854775807) (.out (AV.tup [AV.str (bs (repF f x2.1)++{ data := #[(116:UInt8),(111:UInt8),(116:UInt8),(97:UInt8),(108:UInt8),(32:UInt8)] }++bs (itoa (smV n f))++{ data := #[(10:UInt8)] }),Zi 0]) [] (AV.tup [AV.str (bs (repF f n++totLn (smV n f))),Zi 0]) []))))))))))
  (by kernel_rfl) ?_
 refine k_sc (c1) ?_
 refine k_ff ?_
 refine k_loop (fun _ hs=>hs.le (⟨.refl _,.refl _,.refl _,.refl _,trivial⟩) (trivial)) (fun x2=>?_)
 try (have q2:=x2.2;dsimp only at q2)
 refine k_br (fun h3=>?_) (fun h3=>?_)
 ·have g3:=cnd_dec_t h3
  refine k_req (by first|omega|(obtain ⟨z1,z2,z3,z4,z5,z6,z7,z8,z9⟩:=sup_Z hl hg (show x2.1<n by omega);simp only [Int.toNat_natCast,ByteArray.size_append,bs_size,zLn,List.length_cons,List.length_nil];omega)) ?_
  refine k_req (by first|omega|(obtain ⟨z1,z2,z3,z4,z5,z6,z7,z8,z9⟩:=sup_Z hl hg (show x2.1<n by omega);simp only [bs_size];omega)) ?_
  refine k_sc (c3 ((f (Int.toNat (↑(x2.1):Int))).1) ((by obtain ⟨h1,h2,h3,h4,h5,h6,h7,h8,h9⟩:=val_D (list_val hl (show x2.1<n by omega)) (hg x2.1 (by omega));simp only [Int.toNat_natCast];omega))) ?_
  refine k_req (by first|omega|(obtain ⟨z1,z2,z3,z4,z5,z6,z7,z8,z9⟩:=sup_Z hl hg (show x2.1<n by omega);simp only [Int.toNat_natCast,ByteArray.size_append,bs_size,List.length_cons,List.length_nil];omega)) ?_
  refine k_req (by first|omega|(obtain ⟨z1,z2,z3,z4,z5,z6,z7,z8,z9⟩:=sup_Z hl hg (show x2.1<n by omega);simp only [Int.toNat_natCast,ByteArray.size_append,bs_size,List.length_cons,List.length_nil];omega)) ?_
  refine k_sc (c3 ((f (Int.toNat (↑(x2.1):Int))).2) ((by obtain ⟨h1,h2,h3,h4,h5,h6,h7,h8,h9⟩:=val_D (list_val hl (show x2.1<n by omega)) (hg x2.1 (by omega));simp only [Int.toNat_natCast];omega))) ?_
  refine k_req (by first|omega|(obtain ⟨z1,z2,z3,z4,z5,z6,z7,z8,z9⟩:=sup_Z hl hg (show x2.1<n by omega);simp only [Int.toNat_natCast,ByteArray.size_append,bs_size,List.length_cons,List.length_nil];omega)) ?_
  refine k_req (by first|omega|(obtain ⟨z1,z2,z3,z4,z5,z6,z7,z8,z9⟩:=sup_Z hl hg (show x2.1<n by omega);simp only [Int.toNat_natCast,ByteArray.size_append,bs_size,List.length_cons,List.length_nil];omega)) ?_
  refine k_sc (c3 ((f (Int.toNat (↑(x2.1):Int))).3) ((by obtain ⟨h1,h2,h3,h4,h5,h6,h7,h8,h9⟩:=val_D (list_val hl (show x2.1<n by omega)) (hg x2.1 (by omega));simp only [Int.toNat_natCast];omega))) ?_
  refine k_req (by first|omega|(obtain ⟨z1,z2,z3,z4,z5,z6,z7,z8,z9⟩:=sup_Z hl hg (show x2.1<n by omega);simp only [Int.toNat_natCast,ByteArray.size_append,bs_size,List.length_cons,List.length_nil];omega)) ?_
  refine k_req (by first|omega|(obtain ⟨z1,z2,z3,z4,z5,z6,z7,z8,z9⟩:=sup_Z hl hg (show x2.1<n by omega);simp only [Int.toNat_natCast,ByteArray.size_append,bs_size,List.length_cons,List.length_nil];omega)) ?_
  refine k_sc (c3 ((f (Int.toNat (↑(x2.1):Int))).4) ((by obtain ⟨h1,h2,h3,h4,h5,h6,h7,h8,h9⟩:=val_D (list_val hl (show x2.1<n by omega)) (hg x2.1 (by omega));simp only [Int.toNat_natCast];omega))) ?_
  refine k_req (by first|omega|(obtain ⟨z1,z2,z3,z4,z5,z6,z7,z8,z9⟩:=sup_Z hl hg (show x2.1<n by omega);simp only [Int.toNat_natCast,ByteArray.size_append,bs_size,List.length_cons,List.length_nil];omega)) ?_
  refine k_req (by first|omega|(obtain ⟨z1,z2,z3,z4,z5,z6,z7,z8,z9⟩:=sup_Z hl hg (show x2.1<n by omega);simp only [Int.toNat_natCast,ByteArray.size_append,bs_size,List.length_cons,List.length_nil];omega)) ?_
  refine k_sc (c3 ((f (Int.toNat (↑(x2.1):Int))).5) ((by obtain ⟨h1,h2,h3,h4,h5,h6,h7,h8,h9⟩:=val_D (list_val hl (show x2.1<n by omega)) (hg x2.1 (by omega));simp only [Int.toNat_natCast];omega))) ?_
  refine k_req (by first|omega|(obtain ⟨z1,z2,z3,z4,z5,z6,z7,z8,z9⟩:=sup_Z hl hg (show x2.1<n by omega);simp only [Int.toNat_natCast,ByteArray.size_append,bs_size,List.length_cons,List.length_nil];omega)) ?_
  refine k_req (by first|omega|(obtain ⟨z1,z2,z3,z4,z5,z6,z7,z8,z9⟩:=sup_Z hl hg (show x2.1<n by omega);simp only [Int.toNat_natCast,ByteArray.size_append,bs_size,List.length_cons,List.length_nil];omega)) ?_
  refine k_sc (c3 ((f (Int.toNat (↑(x2.1):Int))).6) ((by obtain ⟨h1,h2,h3,h4,h5,h6,h7,h8,h9⟩:=val_D (list_val hl (show x2.1<n by omega)) (hg x2.1 (by omega));simp only [Int.toNat_natCast];omega))) ?_
  refine k_req (by first|omega|(obtain ⟨z1,z2,z3,z4,z5,z6,z7,z8,z9⟩:=sup_Z hl hg (show x2.1<n by omega);simp only [Int.toNat_natCast,ByteArray.size_append,bs_size,List.length_cons,List.length_nil];omega)) ?_
  refine k_req (by first|omega|(obtain ⟨z1,z2,z3,z4,z5,z6,z7,z8,z9⟩:=sup_Z hl hg (show x2.1<n by omega);simp only [Int.toNat_natCast,ByteArray.size_append,bs_size,List.length_cons,List.length_nil];omega)) ?_
  refine k_sc (c3 ((f (Int.toNat (↑(x2.1):Int))).7) ((by obtain ⟨h1,h2,h3,h4,h5,h6,h7,h8,h9⟩:=val_D (list_val hl (show x2.1<n by omega)) (hg x2.1 (by omega));simp only [Int.toNat_natCast];omega))) ?_
  refine k_req (by first|omega|(obtain ⟨z1,z2,z3,z4,z5,z6,z7,z8,z9⟩:=sup_Z hl hg (show x2.1<n by omega);simp only [Int.toNat_natCast,ByteArray.size_append,bs_size,List.length_cons,List.length_nil];omega)) ?_
  refine k_req (by first|omega|(obtain ⟨z1,z2,z3,z4,z5,z6,z7,z8,z9⟩:=sup_Z hl hg (show x2.1<n by omega);simp only [Int.toNat_natCast,ByteArray.size_append,bs_size,List.length_cons,List.length_nil];omega)) ?_
  refine k_sc (c2 (Int.toNat (↑(x2.1):Int))) ?_
  refine k_sc (c3 (leftS (f (Int.toNat (↑x2.1:Int)))) ((by obtain ⟨h1,h2,h3,h4,h5,h6,h7,h8,h9⟩:=val_D (list_val hl (show x2.1<n by omega)) (hg x2.1 (by omega));simp only [Int.toNat_natCast];omega))) ?_
  refine k_req (by first|omega|(obtain ⟨z1,z2,z3,z4,z5,z6,z7,z8,z9⟩:=sup_Z hl hg (show x2.1<n by omega);simp only [Int.toNat_natCast,ByteArray.size_append,bs_size,List.length_cons,List.length_nil];omega)) ?_
  refine k_req (by first|omega|(obtain ⟨z1,z2,z3,z4,z5,z6,z7,z8,z9⟩:=sup_Z hl hg (show x2.1<n by omega);simp only [Int.toNat_natCast,ByteArray.size_append,bs_size,List.length_cons,List.length_nil];omega)) ?_
  exact k_again (⟨x2.1+1,by omega⟩) (fun _ hs=>hs.le (by repeat' (first|exact trivial|refine And.intro ?_ ?_|exact Ent.of_eq (congrArg AV.str (by simp only [Int.toNat_natCast];exact sup_ln rfl))|exact inc_ent (by omega)|exact Ent.refl _)) (trivial)) (by dsimp only;omega)
 ·have g3:=cnd_dec_f h3
  refine k_req ((by obtain ⟨z1,z2⟩:=tot_Z hl hg x2.2;simp only [bs_size];omega)) ?_
  refine k_sc (c3 (smV n f) ((by have h1:=smV_R n f;have h2:=smV_pos hl hg;unfold I64 at h1;omega))) ?_
  refine k_req ((by obtain ⟨z1,z2⟩:=tot_Z hl hg x2.2;simp only [ByteArray.size_append,bs_size,List.length_cons,List.length_nil];omega)) ?_
  refine k_req ((by obtain ⟨z1,z2⟩:=tot_Z hl hg x2.2;simp only [ByteArray.size_append,bs_size,List.length_cons,List.length_nil];omega)) ?_
  exact k_out (Ent.tup ⟨Ent.of_eq (congrArg AV.str (tot_ln (show x2.1=n by omega))),Ent.refl _,trivial⟩)
theorem rrep_e (m:GP) (n:Nat) (f:Nat→Sup) (hn:n≤100000) (h:¬smE n f=0):Pure Tryz.prog (gl0 m) 11 [supA n f] (.tup [.str (bs []),.int .i64 (smE n f)]):=by
 have c1:=rsum_l m n f hn
 refine pure_sk (own:=ow0) Tryz.func11 (by kernel_rfl) mixed (by kernel_rfl)
  (.sc (true) 29 ([AV.isl (7) n fun (i j:Nat)=>atL (Sup.cells (f i)) j]) (AV.tup [Zi (smV n f),Zi (smE n f)]) (.br (smE n f != (0:Int)) (.out (AV.tup [AV.str { data := #[] },Zi (smE n f)]) [] (AV.tup [AV.str (bs []),Zi (smE n f)]) []) .no))
  (by kernel_rfl) ?_
 refine k_sc (c1) ?_
 refine k_br (fun h1=>?_) (fun h1=>?_)
 ·have g1:=cnd_bne_t h1
  exact k_out (Ent.of_eq rfl)
 ·have g1:=cnd_bne_f h1
  exact (show False from (by exfalso;omega))
theorem rrep_c (m:GP) (n:Nat) (f:Nat→Sup) (hn:n≤100000):Pure Tryz.prog (gl0 m) 11 [supA n f] (.tup [.str (bs (repV n f)),.int .i64 (smE n f)]):=by
 by_cases h:smE n f=0
 ·unfold repV;rw [if_pos h,h];exact rrep_w m n f hn h
 ·unfold repV;rw [if_neg h];exact rrep_e m n f hn h
end Go.Proofs.YtbmdmoknnlhdoaaGreatDoor.O

namespace Go.Proofs.YtbmdmoknnlhdoaaGreatDoor.O
open Go Go.Am Go.Sp Go.Lib Go.RowKit Go.Proofs.YtbmdmoknnlhdoaaGreatDoor.Z
set_option maxRecDepth 100000
set_option maxHeartbeats 2000000

def wprB (p : Prt) : Bool := decide ((p.prf.a.length : Int) > 40) || decide ((p.prf.z.length : Int) > 40)
def wodB (o : Odr) : Bool := decide ((o.why.length : Int) > 300) || decide ((o.np : Int) > 20) || decide ((o.prf.a.length : Int) > 40) || decide ((o.prf.z.length : Int) > 40) || anyI (fun i => wprB (o.part i)) o.np
def widB (t : Trl) : Bool := decide ((t.n : Int) > 20) || decide ((t.nl : Int) > 40) || anyI (fun i => wodB (t.ord i)) t.n
theorem wid_f {t : Trl} (h : widB t = false) : t.n ≤ 20 ∧ t.nl ≤ 40 ∧ ∀ i, i < t.n → (t.ord i).np ≤ 20 := by
  unfold widB at h
  simp only [Bool.or_eq_false_iff, decide_eq_false_iff_not] at h
  refine ⟨by omega, by omega, fun i hi => ?_⟩
  cases hw : wodB (t.ord i) with
  | true => have e := anyI_at (p := fun i => wodB (t.ord i)) hi hw; rw [h.2] at e; cases e
  | false =>
    unfold wodB at hw
    simp only [Bool.or_eq_false_iff, decide_eq_false_iff_not] at hw
    omega

theorem wpr_c (m : GP) (p : Prt) : Pure Tryz.prog (gl0 m) 24 [.agg p.cells] (.bool (wprB p)) := by
  refine pure_sk (own := ow0) Tryz.func24 (by kernel_rfl) mixed (by kernel_rfl)
    (.out (AV.bool (decide ((↑(List.length (Prf.a (Prt.prf p))) : Int) > (40 : Int)) || decide ((↑(List.length (Prf.z (Prt.prf p))) : Int) > (40 : Int)))) [] (AV.bool (wprB p)) [])
    (by kernel_rfl) ?_
  exact k_out (Ent.of_eq rfl)

theorem idxP_c (m : GP) (f : Nat → Prt) (n : Nat) (hn : n < 9223372036854775808) : Pure Tryz.prog (gl0 m) 61 [prtA n f, .fn (.func 24) [] []] (.int .i64 (firstI (fun i => wprB (f i)) n 0)) := by
  have hc := fun i (hi : i < n) => wpr_c m (f i)
  refine pure_sk (own := ow0) Tryz.func61 (by kernel_rfl) mixed (by kernel_rfl)
    (.loop ({ x : Nat // x ≤ n ∧ (fun (i : Nat) => firstI (fun (i : Nat) => wprB (f i)) n (0 : Nat) = firstI (fun (i : Nat) => wprB (f i)) (n - i) i) x }) (fun (x : { x : Nat // x ≤ n ∧ (fun (i : Nat) => firstI (fun (i : Nat) => wprB (f i)) n (0 : Nat) = firstI (fun (i : Nat) => wprB (f i)) (n - i) i) x }) => mkSt [0, 1, 7, 8] [AV.isl (5) n fun (i j : Nat) => atL (Prt.cells (f i)) j, AV.fn (Fn.func (24 : FuncId)) [] [], Zi (↑n : Int), Zi (↑(x.1) : Int)] []) (fun (x : { x : Nat // x ≤ n ∧ (fun (i : Nat) => firstI (fun (i : Nat) => wprB (f i)) n (0 : Nat) = firstI (fun (i : Nat) => wprB (f i)) (n - i) i) x }) => n - x.1) (⟨(0 : Nat), ⟨Nat.zero_le n, rfl⟩⟩) ([0, 1, 7, 8]) ([]) ([AV.isl (5) n fun (i j : Nat) => atL (Prt.cells (f i)) j, AV.fn (Fn.func (24 : FuncId)) [] [], Zi (↑n : Int), Zi 0]) ([]) (fun x0 => (.br (decide ((↑x0.1 : Int) < (↑n : Int))) (.req ((0 : Int) ≤ (↑x0.1 : Int) ∧ (↑x0.1 : Int) < (↑n : Int)) (.sc (true) 24 ([AV.agg (Prt.cells (f (Int.toNat (↑(x0.1) : Int))))]) (AV.bool (wprB (f (Int.toNat (↑(x0.1) : Int))))) (.br (wprB (f (Int.toNat (↑x0.1 : Int)))) (.out (Zi (↑x0.1 : Int)) [] (Zi (firstI (fun (i : Nat) => wprB (f i)) n (0 : Nat))) []) (.again (Again (0) (fun (x : { x : Nat // x ≤ n ∧ (fun (i : Nat) => firstI (fun (i : Nat) => wprB (f i)) n (0 : Nat) = firstI (fun (i : Nat) => wprB (f i)) (n - i) i) x }) => mkSt [0, 1, 7, 8] [AV.isl (5) n fun (i j : Nat) => atL (Prt.cells (f i)) j, AV.fn (Fn.func (24 : FuncId)) [] [], Zi (↑n : Int), Zi (↑(x.1) : Int)] []) (fun (x : { x : Nat // x ≤ n ∧ (fun (i : Nat) => firstI (fun (i : Nat) => wprB (f i)) n (0 : Nat) = firstI (fun (i : Nat) => wprB (f i)) (n - i) i) x }) => n - x.1) x0) ([0, 1, 7, 8]) ([]) ([AV.isl (5) n fun (i j : Nat) => atL (Prt.cells (f i)) j, AV.fn (Fn.func (24 : FuncId)) [] [], Zi (↑n : Int), Zi (IntKind.wrap IntKind.i64 ((↑x0.1 : Int) + (1 : Int)))]) ([]))))) (.out (Zi (-1)) [] (Zi (firstI (fun (i : Nat) => wprB (f i)) n (0 : Nat))) []))))
    (by kernel_rfl) ?_
  refine k_loop (fun _ hs => hs.le (⟨.refl _, .refl _, .refl _, .refl _, trivial⟩) (trivial)) (fun x0 => ?_)
  try (have q0 := x0.2; dsimp only at q0)
  refine k_br (fun h1 => ?_) (fun h1 => ?_)
  · have g1 := cnd_dec_t h1
    refine k_req (by omega) ?_
    refine k_sc (hc (Int.toNat (↑(x0.1) : Int)) (by omega)) ?_
    refine k_br (fun h4 => ?_) (fun h4 => ?_)
    · have g4 := cnd_id_t h4
      try simp only [Int.toNat_natCast] at g4
      exact k_out (Ent.of_eq (congrArg _ (first_hit x0.2.2 (by omega) g4)))
    · have g4 := cnd_id_f h4
      try simp only [Int.toNat_natCast] at g4
      exact k_again (⟨x0.1 + 1, by omega, first_next x0.2.2 (by omega) g4⟩) (fun _ hs => hs.le (⟨.refl _, .refl _, .refl _, inc_ent (by omega), trivial⟩) (trivial)) (by dsimp only; omega)
  · have g1 := cnd_dec_f h1
    exact k_out (Ent.of_eq (congrArg _ (first_miss x0.2.2 (by omega))))

theorem anyP_c (m : GP) (f : Nat → Prt) (n : Nat) (hn : n < 9223372036854775808) : Pure Tryz.prog (gl0 m) 23 [prtA n f, .fn (.func 24) [] []] (.bool (anyI (fun i => wprB (f i)) n)) := by
  have c1 := idxP_c m f n hn
  refine pure_sk (own := ow0) Tryz.func23 (by kernel_rfl) mixed (by kernel_rfl)
    (.sc (true) 61 ([AV.isl (5) n fun (i j : Nat) => atL (Prt.cells (f i)) j, AV.fn (Fn.func (24 : FuncId)) [] []]) (Zi (firstI (fun (i : Nat) => wprB (f i)) n (0 : Nat))) (.out (AV.bool (decide (firstI (fun (i : Nat) => wprB (f i)) n (0) ≥ (0 : Int)))) [] (AV.bool (anyI (fun (i : Nat) => wprB (f i)) n)) []))
    (by kernel_rfl) ?_
  refine k_sc (c1) ?_
  exact k_out (Ent.refl _)

theorem wod_c (m : GP) (o : Odr) (hn : o.np < 9223372036854775808) : Pure Tryz.prog (gl0 m) 22 [.agg o.cells] (.bool (wodB o)) := by
  have c1 := anyP_c m o.part o.np hn
  have e1 := bs_size o.why
  refine pure_sk (own := ow0) Tryz.func22 (by kernel_rfl) mixed (by kernel_rfl)
    (.sc ((decide ((↑(ByteArray.size (bs o.2)) : Int) > (300 : Int)) || decide ((↑o.6 : Int) > (20 : Int)) || decide ((↑(List.length (Prf.a (Odr.prf o))) : Int) > (40 : Int)) || decide ((↑(List.length (Prf.z (Odr.prf o))) : Int) > (40 : Int))) == false) 23 ([AV.isl (5) o.6 fun (i j : Nat) => atL (Prt.cells (Odr.part o i)) j, AV.fn (Fn.func (24 : Nat)) [] []]) (AV.bool (anyI (fun (i : Nat) => wprB (Odr.part o i)) (Odr.np o))) (.out (AV.bool (decide ((↑(ByteArray.size (bs o.2)) : Int) > (300 : Int)) || decide ((↑o.6 : Int) > (20 : Int)) || decide ((↑(List.length (Prf.a (Odr.prf o))) : Int) > (40 : Int)) || decide ((↑(List.length (Prf.z (Odr.prf o))) : Int) > (40 : Int)) || anyI (fun (i : Nat) => wprB (o.7 i)) o.6)) [] (AV.bool (wodB o)) []))
    (by kernel_rfl) ?_
  refine k_scg (fun h0 => c1) ?_
  exact k_out (Ent.of_eq rfl)

theorem idxO_c (m : GP) (f : Nat → Odr) (n : Nat) (hn : n < 9223372036854775808) (hp : ∀ i, i < n → (f i).np < 9223372036854775808) : Pure Tryz.prog (gl0 m) 60 [ordA n f, .fn (.func 22) [] []] (.int .i64 (firstI (fun i => wodB (f i)) n 0)) := by
  have hc := fun i (hi : i < n) => wod_c m (f i) (hp i hi)
  refine pure_sk (own := ow0) Tryz.func60 (by kernel_rfl) mixed (by kernel_rfl)
    (.loop ({ x : Nat // x ≤ n ∧ (fun (i : Nat) => firstI (fun (i : Nat) => wodB (f i)) n (0 : Nat) = firstI (fun (i : Nat) => wodB (f i)) (n - i) i) x }) (fun (x : { x : Nat // x ≤ n ∧ (fun (i : Nat) => firstI (fun (i : Nat) => wodB (f i)) n (0 : Nat) = firstI (fun (i : Nat) => wodB (f i)) (n - i) i) x }) => mkSt [0, 1, 7, 8] [AV.isl (9) n fun (i j : Nat) => atL (Odr.cells (f i)) j, AV.fn (Fn.func (22 : FuncId)) [] [], Zi (↑n : Int), Zi (↑(x.1) : Int)] []) (fun (x : { x : Nat // x ≤ n ∧ (fun (i : Nat) => firstI (fun (i : Nat) => wodB (f i)) n (0 : Nat) = firstI (fun (i : Nat) => wodB (f i)) (n - i) i) x }) => n - x.1) (⟨(0 : Nat), ⟨Nat.zero_le n, rfl⟩⟩) ([0, 1, 7, 8]) ([]) ([AV.isl (9) n fun (i j : Nat) => atL (Odr.cells (f i)) j, AV.fn (Fn.func (22 : FuncId)) [] [], Zi (↑n : Int), Zi 0]) ([]) (fun x0 => (.br (decide ((↑x0.1 : Int) < (↑n : Int))) (.req ((0 : Int) ≤ (↑x0.1 : Int) ∧ (↑x0.1 : Int) < (↑n : Int)) (.sc (true) 22 ([AV.agg (Odr.cells (f (Int.toNat (↑(x0.1) : Int))))]) (AV.bool (wodB (f (Int.toNat (↑(x0.1) : Int))))) (.br (wodB (f (Int.toNat (↑x0.1 : Int)))) (.out (Zi (↑x0.1 : Int)) [] (Zi (firstI (fun (i : Nat) => wodB (f i)) n (0 : Nat))) []) (.again (Again (0) (fun (x : { x : Nat // x ≤ n ∧ (fun (i : Nat) => firstI (fun (i : Nat) => wodB (f i)) n (0 : Nat) = firstI (fun (i : Nat) => wodB (f i)) (n - i) i) x }) => mkSt [0, 1, 7, 8] [AV.isl (9) n fun (i j : Nat) => atL (Odr.cells (f i)) j, AV.fn (Fn.func (22 : FuncId)) [] [], Zi (↑n : Int), Zi (↑(x.1) : Int)] []) (fun (x : { x : Nat // x ≤ n ∧ (fun (i : Nat) => firstI (fun (i : Nat) => wodB (f i)) n (0 : Nat) = firstI (fun (i : Nat) => wodB (f i)) (n - i) i) x }) => n - x.1) x0) ([0, 1, 7, 8]) ([]) ([AV.isl (9) n fun (i j : Nat) => atL (Odr.cells (f i)) j, AV.fn (Fn.func (22 : FuncId)) [] [], Zi (↑n : Int), Zi (IntKind.wrap IntKind.i64 ((↑x0.1 : Int) + (1 : Int)))]) ([]))))) (.out (Zi (-1)) [] (Zi (firstI (fun (i : Nat) => wodB (f i)) n (0 : Nat))) []))))
    (by kernel_rfl) ?_
  refine k_loop (fun _ hs => hs.le (⟨.refl _, .refl _, .refl _, .refl _, trivial⟩) (trivial)) (fun x0 => ?_)
  try (have q0 := x0.2; dsimp only at q0)
  refine k_br (fun h1 => ?_) (fun h1 => ?_)
  · have g1 := cnd_dec_t h1
    refine k_req (by omega) ?_
    refine k_sc (hc (Int.toNat (↑(x0.1) : Int)) (by omega)) ?_
    refine k_br (fun h4 => ?_) (fun h4 => ?_)
    · have g4 := cnd_id_t h4
      try simp only [Int.toNat_natCast] at g4
      exact k_out (Ent.of_eq (congrArg _ (first_hit x0.2.2 (by omega) g4)))
    · have g4 := cnd_id_f h4
      try simp only [Int.toNat_natCast] at g4
      exact k_again (⟨x0.1 + 1, by omega, first_next x0.2.2 (by omega) g4⟩) (fun _ hs => hs.le (⟨.refl _, .refl _, .refl _, inc_ent (by omega), trivial⟩) (trivial)) (by dsimp only; omega)
  · have g1 := cnd_dec_f h1
    exact k_out (Ent.of_eq (congrArg _ (first_miss x0.2.2 (by omega))))

theorem anyO_c (m : GP) (f : Nat → Odr) (n : Nat) (hn : n < 9223372036854775808) (hp : ∀ i, i < n → (f i).np < 9223372036854775808) : Pure Tryz.prog (gl0 m) 21 [ordA n f, .fn (.func 22) [] []] (.bool (anyI (fun i => wodB (f i)) n)) := by
  have c1 := idxO_c m f n hn hp
  refine pure_sk (own := ow0) Tryz.func21 (by kernel_rfl) mixed (by kernel_rfl)
    (.sc (true) 60 ([AV.isl (9) n fun (i j : Nat) => atL (Odr.cells (f i)) j, AV.fn (Fn.func (22 : FuncId)) [] []]) (Zi (firstI (fun (i : Nat) => wodB (f i)) n (0 : Nat))) (.out (AV.bool (decide (firstI (fun (i : Nat) => wodB (f i)) n (0) ≥ (0 : Int)))) [] (AV.bool (anyI (fun (i : Nat) => wodB (f i)) n)) []))
    (by kernel_rfl) ?_
  refine k_sc (c1) ?_
  exact k_out (Ent.refl _)

theorem wid_c (m : GP) (t : Trl) (hn : t.n < 9223372036854775808) (hp : ∀ i, i < t.n → (t.ord i).np < 9223372036854775808) : Pure Tryz.prog (gl0 m) 7 [.agg t.cells] (.bool (widB t)) := by
  have c1 := anyO_c m t.ord t.n hn hp
  refine pure_sk (own := ow0) Tryz.func7 (by kernel_rfl) mixed (by kernel_rfl)
    (.sc ((decide ((↑t.1 : Int) > (20 : Int)) || decide ((↑t.3 : Int) > (40 : Int))) == false) 21 ([AV.isl (9) t.1 fun (i j : Nat) => atL (Odr.cells (Trl.ord t i)) j, AV.fn (Fn.func (22 : Nat)) [] []]) (AV.bool (anyI (fun (i : Nat) => wodB (Trl.ord t i)) (Trl.n t))) (.out (AV.bool (decide ((↑t.1 : Int) > (20 : Int)) || decide ((↑t.3 : Int) > (40 : Int)) || anyI (fun (i : Nat) => wodB (t.2 i)) t.1)) [] (AV.bool (widB t)) []))
    (by kernel_rfl) ?_
  refine k_scg (fun h0 => c1) ?_
  exact k_out (Ent.of_eq rfl)

def wstB (s : Stp) : Bool := decide ((s.n : Int) > 110)
theorem wst_c (m : GP) (s : Stp) : Pure Tryz.prog (gl0 m) 9 [.agg s.cells] (.bool (wstB s)) := by
  refine pure_sk (own := ow0) Tryz.func9 (by kernel_rfl) mixed (by kernel_rfl)
    (.out (AV.bool (decide ((↑s.4 : Int) > (110 : Int)))) [] (AV.bool (wstB s)) [])
    (by kernel_rfl) ?_
  exact k_out (Ent.of_eq rfl)

theorem idxS_c (m : GP) (f : Nat → Stp) (n : Nat) (hn : n < 9223372036854775808) : Pure Tryz.prog (gl0 m) 25 [stpA n f, .fn (.func 9) [] []] (.int .i64 (firstI (fun i => wstB (f i)) n 0)) := by
  have hc := fun i (hi : i < n) => wst_c m (f i)
  refine pure_sk (own := ow0) Tryz.func25 (by kernel_rfl) mixed (by kernel_rfl)
    (.loop ({ x : Nat // x ≤ n ∧ (fun (i : Nat) => firstI (fun (i : Nat) => wstB (f i)) n (0 : Nat) = firstI (fun (i : Nat) => wstB (f i)) (n - i) i) x }) (fun (x : { x : Nat // x ≤ n ∧ (fun (i : Nat) => firstI (fun (i : Nat) => wstB (f i)) n (0 : Nat) = firstI (fun (i : Nat) => wstB (f i)) (n - i) i) x }) => mkSt [0, 1, 7, 8] [AV.isl (8) n fun (i j : Nat) => atL (Stp.cells (f i)) j, AV.fn (Fn.func (9 : FuncId)) [] [], Zi (↑n : Int), Zi (↑(x.1) : Int)] []) (fun (x : { x : Nat // x ≤ n ∧ (fun (i : Nat) => firstI (fun (i : Nat) => wstB (f i)) n (0 : Nat) = firstI (fun (i : Nat) => wstB (f i)) (n - i) i) x }) => n - x.1) (⟨(0 : Nat), ⟨Nat.zero_le n, rfl⟩⟩) ([0, 1, 7, 8]) ([]) ([AV.isl (8) n fun (i j : Nat) => atL (Stp.cells (f i)) j, AV.fn (Fn.func (9 : FuncId)) [] [], Zi (↑n : Int), Zi 0]) ([]) (fun x0 => (.br (decide ((↑x0.1 : Int) < (↑n : Int))) (.req ((0 : Int) ≤ (↑x0.1 : Int) ∧ (↑x0.1 : Int) < (↑n : Int)) (.sc (true) 9 ([AV.agg (Stp.cells (f (Int.toNat (↑(x0.1) : Int))))]) (AV.bool (wstB (f (Int.toNat (↑(x0.1) : Int))))) (.br (wstB (f (Int.toNat (↑x0.1 : Int)))) (.out (Zi (↑x0.1 : Int)) [] (Zi (firstI (fun (i : Nat) => wstB (f i)) n (0 : Nat))) []) (.again (Again (0) (fun (x : { x : Nat // x ≤ n ∧ (fun (i : Nat) => firstI (fun (i : Nat) => wstB (f i)) n (0 : Nat) = firstI (fun (i : Nat) => wstB (f i)) (n - i) i) x }) => mkSt [0, 1, 7, 8] [AV.isl (8) n fun (i j : Nat) => atL (Stp.cells (f i)) j, AV.fn (Fn.func (9 : FuncId)) [] [], Zi (↑n : Int), Zi (↑(x.1) : Int)] []) (fun (x : { x : Nat // x ≤ n ∧ (fun (i : Nat) => firstI (fun (i : Nat) => wstB (f i)) n (0 : Nat) = firstI (fun (i : Nat) => wstB (f i)) (n - i) i) x }) => n - x.1) x0) ([0, 1, 7, 8]) ([]) ([AV.isl (8) n fun (i j : Nat) => atL (Stp.cells (f i)) j, AV.fn (Fn.func (9 : FuncId)) [] [], Zi (↑n : Int), Zi (IntKind.wrap IntKind.i64 ((↑x0.1 : Int) + (1 : Int)))]) ([]))))) (.out (Zi (-1)) [] (Zi (firstI (fun (i : Nat) => wstB (f i)) n (0 : Nat))) []))))
    (by kernel_rfl) ?_
  refine k_loop (fun _ hs => hs.le (⟨.refl _, .refl _, .refl _, .refl _, trivial⟩) (trivial)) (fun x0 => ?_)
  try (have q0 := x0.2; dsimp only at q0)
  refine k_br (fun h1 => ?_) (fun h1 => ?_)
  · have g1 := cnd_dec_t h1
    refine k_req (by omega) ?_
    refine k_sc (hc (Int.toNat (↑(x0.1) : Int)) (by omega)) ?_
    refine k_br (fun h4 => ?_) (fun h4 => ?_)
    · have g4 := cnd_id_t h4
      try simp only [Int.toNat_natCast] at g4
      exact k_out (Ent.of_eq (congrArg _ (first_hit x0.2.2 (by omega) g4)))
    · have g4 := cnd_id_f h4
      try simp only [Int.toNat_natCast] at g4
      exact k_again (⟨x0.1 + 1, by omega, first_next x0.2.2 (by omega) g4⟩) (fun _ hs => hs.le (⟨.refl _, .refl _, .refl _, inc_ent (by omega), trivial⟩) (trivial)) (by dsimp only; omega)
  · have g1 := cnd_dec_f h1
    exact k_out (Ent.of_eq (congrArg _ (first_miss x0.2.2 (by omega))))

theorem anyS_c (m : GP) (f : Nat → Stp) (n : Nat) (hn : n < 9223372036854775808) : Pure Tryz.prog (gl0 m) 8 [stpA n f, .fn (.func 9) [] []] (.bool (anyI (fun i => wstB (f i)) n)) := by
  have c1 := idxS_c m f n hn
  refine pure_sk (own := ow0) Tryz.func8 (by kernel_rfl) mixed (by kernel_rfl)
    (.sc (true) 25 ([AV.isl (8) n fun (i j : Nat) => atL (Stp.cells (f i)) j, AV.fn (Fn.func (9 : FuncId)) [] []]) (Zi (firstI (fun (i : Nat) => wstB (f i)) n (0 : Nat))) (.out (AV.bool (decide (firstI (fun (i : Nat) => wstB (f i)) n (0) ≥ (0 : Int)))) [] (AV.bool (anyI (fun (i : Nat) => wstB (f i)) n)) []))
    (by kernel_rfl) ?_
  refine k_sc (c1) ?_
  exact k_out (Ent.refl _)

def trlR (t : Trl) : Str := if trlB t = true then trlV t else []
def trlE (t : Trl) : Int := if trlB t = true then 0 else 1
theorem trl_T (m : GP) (t : Trl) (hw : widB t = false) (hk : ∀ i, i < t.n → (t.ord i).key ≤ 9223372036854775807) (hb : ∀ i, byB (t.lnk i) 32) :
    Pure Tryz.prog (gl0 m) 12 [.agg t.cells] (.tup [.str (bs (trlR t)), .int .i64 (trlE t)]) ∧ Pure Tryz.prog (gl0 m) 13 [.agg t.cells] (.tup [.str (bs (trlR t)), .int .i64 (trlE t)]) := by
  obtain ⟨h1, h2, h3⟩ := wid_f hw
  unfold trlR trlE
  cases h : trlB t with
  | true => exact ⟨ttrail_0 m t (by omega) (by omega) (fun i hi => by have := h3 i hi; omega) hk hb h, rtrail_0 m t (by omega) (by omega) (fun i hi => by have := h3 i hi; omega) hk hb h⟩
  | false => exact ⟨ttrail_1 m t (by omega) (by omega) (fun i hi => by have := h3 i hi; omega) h, rtrail_1 m t (by omega) (by omega) (fun i hi => by have := h3 i hi; omega) h⟩
theorem stp_T (m : GP) (f : Nat → Stp) (n : Nat) (hn : n ≤ 40 ∨ 1000 < n ∧ n ≤ 1100) (hR : ∀ i, i < n → (f i).R) :
    Pure Tryz.prog (gl0 m) 14 [stpA n f] (.tup [.str (bs (stepsV n f)), .int .i64 (stepsE n f)]) ∧ Pure Tryz.prog (gl0 m) 15 [stpA n f] (.tup [.str (bs (stepsV n f)), .int .i64 (stepsE n f)]) := by
  rcases hn with hn | hn
  · exact ⟨steps_c m f n hn hR, rsteps_c m f n hn hR⟩
  · unfold stepsV stepsE; rw [if_pos hn.1, if_pos hn.1]
    exact ⟨steps_5c m f n hn, rsteps_5c m f n hn⟩

theorem reportLists_c (m : GP) (a : Nat) (l : Nat → Sup) (t : Trl) (n : Nat) (x : Nat → Stp) (ha : a < 9223372036854775808) (ht : t.n < 9223372036854775808) (hp : ∀ i, i < t.n → (t.ord i).np < 9223372036854775808) (hn : n < 9223372036854775808) (hk : ∀ i, i < t.n → (t.ord i).key ≤ 9223372036854775807) (hb : ∀ i, byB (t.lnk i) 32) (hR : ∀ i, i < n → (x i).R) :
    Pure Tryz.prog (gl0 m) 3 [supA a l, .agg t.cells, stpA n x] (.bool true) := by
  have c0 := awake_w m
  have c1 := wid_c m t ht hp
  have c2 := anyS_c m x n hn
  have c3 := fun h => rep_c m a l h
  have c4 := fun h => rrep_c m a l h
  have c5 := fun h => (trl_T m t h hk hb).1
  have c6 := fun h => (trl_T m t h hk hb).2
  have c7 := fun h => (stp_T m x n h hR).1
  have c8 := fun h => (stp_T m x n h hR).2
  refine pure_sk (own := ow0) Tryz.func3 (by kernel_rfl) mixed (by kernel_rfl)
    (.sc (true) 6 ([]) (AV.bool true) (.ff (.sc (decide ((↑a : Int) > (60 : Int)) == false) 7 ([AV.agg [AV.isl (9) t.1 fun (i j : Nat) => atL (Odr.cells (Trl.ord t i)) j, AV.isl (32) t.3 fun (i j : Nat) => Zb (t.4 i j)]]) (AV.bool (widB t)) (.sc ((decide ((↑a : Int) > (60 : Int)) || widB t || decide ((↑n : Int) > (40 : Int)) && decide ((↑n : Int) ≤ (1000 : Int)) || decide ((↑n : Int) > (1100 : Int))) == false) 8 ([AV.isl (8) n fun (i j : Nat) => atL (Stp.cells (x i)) j, AV.fn (Fn.func (9 : Nat)) [] []]) (AV.bool (anyI (fun (i : Nat) => wstB (x i)) n)) (.br (decide ((↑a : Int) > (60 : Int)) || widB t || decide ((↑n : Int) > (40 : Int)) && decide ((↑n : Int) ≤ (1000 : Int)) || decide ((↑n : Int) > (1100 : Int)) || anyI (fun (i : Nat) => wstB (x i)) n) (.out (AV.bool true) [] (AV.bool true) []) (.sc (true) 10 ([AV.isl (7) a fun (i j : Nat) => atL (Sup.cells (l i)) j]) (AV.tup [AV.str (bs (repV a l)), Zi (smE a l)]) (.sc (true) 11 ([AV.isl (7) a fun (i j : Nat) => atL (Sup.cells (l i)) j]) (AV.tup [AV.str (bs (repV a l)), Zi (smE a l)]) (.sc (true) 12 ([AV.agg [AV.isl (9) t.1 fun (i j : Nat) => atL (Odr.cells (Trl.ord t i)) j, AV.isl (32) t.3 fun (i j : Nat) => Zb (t.4 i j)]]) (AV.tup [AV.str (bs (trlR t)), Zi (trlE t)]) (.sc (true) 13 ([AV.agg [AV.isl (9) t.1 fun (i j : Nat) => atL (Odr.cells (Trl.ord t i)) j, AV.isl (32) t.3 fun (i j : Nat) => Zb (t.4 i j)]]) (AV.tup [AV.str (bs (trlR t)), Zi (trlE t)]) (.sc (true) 14 ([AV.isl (8) n fun (i j : Nat) => atL (Stp.cells (x i)) j]) (AV.tup [AV.str (bs (stepsV n x)), Zi (stepsE n x)]) (.sc (true) 15 ([AV.isl (8) n fun (i j : Nat) => atL (Stp.cells (x i)) j]) (AV.tup [AV.str (bs (stepsV n x)), Zi (stepsE n x)]) (.out (AV.bool (ByteArray.toList (bs (repV a l)) == ByteArray.toList (bs (repV a l)) && smE a l == smE a l && ByteArray.toList (bs (trlR t)) == ByteArray.toList (bs (trlR t)) && trlE t == trlE t && ByteArray.toList (bs (stepsV n x)) == ByteArray.toList (bs (stepsV n x)) && stepsE n x == stepsE n x)) [] (AV.bool true) []))))))))))))
    (by kernel_rfl) ?_
  refine k_sc (c0) ?_
  refine k_ff ?_
  refine k_scg (fun h2 => c1) ?_
  refine k_scg (fun h3 => c2) ?_
  refine k_br (fun h4 => ?_) (fun h4 => ?_)
  · have g4 := (cnd_or_t (cnd_or_t (cnd_or_t (cnd_or_t cnd_dec_t cnd_id_t) (cnd_and_t cnd_dec_t cnd_dec_t)) cnd_dec_t) cnd_id_t) h4
    exact k_out (Ent.of_eq rfl)
  · have g4 := (cnd_or_f (cnd_or_f (cnd_or_f (cnd_or_f cnd_dec_f cnd_id_f) (cnd_and_f cnd_dec_f cnd_dec_f)) cnd_dec_f) cnd_id_f) h4
    refine k_sc (c3 (by first | exact g4.1.1.1.2 | assumption | omega)) ?_
    refine k_sc (c4 (by first | exact g4.1.1.1.2 | assumption | omega)) ?_
    refine k_sc (c5 (by first | exact g4.1.1.1.2 | assumption | omega)) ?_
    refine k_sc (c6 (by first | exact g4.1.1.1.2 | assumption | omega)) ?_
    refine k_sc (c7 (by first | exact g4.1.1.1.2 | assumption | omega)) ?_
    refine k_sc (c8 (by first | exact g4.1.1.1.2 | assumption | omega)) ?_
    exact k_out (Ent.of_eq (by simp_all))

end Go.Proofs.YtbmdmoknnlhdoaaGreatDoor.O

namespace Go.Sp
open Go Go.Am

def u8s (n : Nat) : List CT := List.replicate n (.int .u8)

def i64s (n : Nat) : List CT := List.replicate n (.int .i64)
def supOf (g : Nat → AV) : Sup := ⟨intOfAV (g 0), intOfAV (g 1), intOfAV (g 2), intOfAV (g 3), intOfAV (g 4), intOfAV (g 5), intOfAV (g 6)⟩
theorem sups_e {os : List (Option Ob)} {a : AV} : Ent os (.isl 7 (islN a) fun i j => .int .i64 (intOfAV (islF a i j))) (supA (islN a) fun i => supOf (islF a i)) := Ent.isl fun i j _ hj => by
  have : j = 0 ∨ j = 1 ∨ j = 2 ∨ j = 3 ∨ j = 4 ∨ j = 5 ∨ j = 6 := by omega
  rcases this with rfl | rfl | rfl | rfl | rfl | rfl | rfl <;> rfl
theorem sl_len {cs : List CT} {a : AV} (h : CellOk (.sl cs) a) : islN a < 9223372036854775808 := Nat.lt_of_le_of_lt h.sl_inv.1 (by decide)

def lsOf (a : AV) : List Int := (List.range (islN a)).map fun i => intOfAV (islF a i 0)
theorem ls_e {os : List (Option Ob)} {a : AV} : Ent os (.isl 1 (islN a) fun i _ => .int .i64 (intOfAV (islF a i 0))) (il .i64 (lsOf a)) ∧ Cl (il .i64 (lsOf a)) := by
  refine ⟨?_, .isl fun _ _ _ _ => .int⟩
  have e : (lsOf a).length = islN a := by simp [lsOf]
  have key : ∀ q, q = islN a → Ent os (.isl 1 (islN a) fun i _ => .int .i64 (intOfAV (islF a i 0))) (.isl 1 q (ilF .i64 (lsOf a))) := by
    rintro _ rfl
    refine Ent.isl fun i j hi _ => ?_
    show AV.int .i64 _ = AV.int .i64 ((lsOf a).getD i 0)
    simp [lsOf, List.getD_eq_getElem?_getD, hi]
  exact key _ e
def prfOf (g : Nat → AV) (k : Nat) : Prf := ⟨lsOf (g k), intOfAV (g (k + 1)), lsOf (g (k + 2))⟩
def prtOf (g : Nat → AV) : Prt := ⟨intOfAV (g 0), intOfAV (g 1), prfOf g 2⟩
def odrOf (g : Nat → AV) : Odr := ⟨intOfAV (g 0), (strOfAV (g 1)).data.toList, intOfAV (g 2), intOfAV (g 3), prfOf g 4, islN (g 7), fun i => prtOf (islF (g 7) i), intOfAV (g 8)⟩
def trlOf (g : Nat → AV) : Trl := ⟨islN (g 0), fun i => odrOf (islF (g 0) i), islN (g 1), fun i j => if i < islN (g 1) then intOfAV (islF (g 1) i j) else 0⟩
def stpOf (g : Nat → AV) : Stp := ⟨cmdOf g, intOfAV (g 5), intOfAV (g 6), islN (g 7), fun i => intOfAV (islF (g 7) i 0)⟩
def partT : List CT := [.int .i64, .int .i64, .sl (i64s 1), .int .i64, .sl (i64s 1)]
def orderT : List CT := [.int .i64, .str, .int .i64, .int .i64, .sl (i64s 1), .int .i64, .sl (i64s 1), .sl partT, .int .i64]
def trailT : List CT := [.sl orderT, .sl (u8s 32)]
def stepT : List CT := [.int .i64, .int .i64, .int .i64, .int .i64, .bool, .int .i64, .int .i64, .sl (i64s 1)]

set_option maxRecDepth 100000
theorem part_e {os : List (Option Ob)} {g : Nat → AV} {j : Nat} (hj : j < 5) : Ent os (atL (canonRow partT g 0) j) (atL (prtOf g).cells j) ∧ Cl (atL (prtOf g).cells j) := by
  have : j = 0 ∨ j = 1 ∨ j = 2 ∨ j = 3 ∨ j = 4 := by omega
  rcases this with rfl | rfl | rfl | rfl | rfl
  · exact ⟨Ent.refl _, .int⟩
  · exact ⟨Ent.refl _, .int⟩
  · exact ls_e
  · exact ⟨Ent.refl _, .int⟩
  · exact ls_e
theorem parts_e {os : List (Option Ob)} {a : AV} : Ent os (canon (.sl partT) a) (prtA (islN a) fun i => prtOf (islF a i)) ∧ Cl (prtA (islN a) fun i => prtOf (islF a i)) :=
  ⟨Ent.islE fun _ _ _ hj => part_e hj, .isl fun _ _ _ hj => (part_e (os := os) hj).2⟩
theorem order_e {os : List (Option Ob)} {g : Nat → AV} {j : Nat} (hj : j < 9) : Ent os (atL (canonRow orderT g 0) j) (atL (odrOf g).cells j) ∧ Cl (atL (odrOf g).cells j) := by
  have : j = 0 ∨ j = 1 ∨ j = 2 ∨ j = 3 ∨ j = 4 ∨ j = 5 ∨ j = 6 ∨ j = 7 ∨ j = 8 := by omega
  rcases this with rfl | rfl | rfl | rfl | rfl | rfl | rfl | rfl | rfl
  · exact ⟨Ent.refl _, .int⟩
  · exact ⟨Ent.refl _, .str⟩
  · exact ⟨Ent.refl _, .int⟩
  · exact ⟨Ent.refl _, .int⟩
  · exact ls_e
  · exact ⟨Ent.refl _, .int⟩
  · exact ls_e
  · exact parts_e
  · exact ⟨Ent.refl _, .int⟩
theorem trail_e {os : List (Option Ob)} {g : Nat → AV} : Ent os (.agg (canonRow trailT g 0)) (.agg (trlOf g).cells) := by
  refine Ent.agg ⟨Ent.islE fun _ _ _ hj => order_e hj, Ent.isl fun i j hi _ => ?_, trivial⟩
  show AV.int .u8 _ = AV.int .u8 (if i < islN (g 1) then _ else 0)
  rw [if_pos hi]; rfl
theorem trail_n {g : Nat → AV} (h : ∀ (j : Nat) c, trailT[j]? = some c → CellOk c (g j)) : (trlOf g).n < 9223372036854775808 := sl_len (h 0 _ rfl)
theorem trail_np {g : Nat → AV} (h : ∀ (j : Nat) c, trailT[j]? = some c → CellOk c (g j)) : ∀ i, i < (trlOf g).n → ((trlOf g).ord i).np < 9223372036854775808 := fun i hi => sl_len ((h 0 _ rfl).sl_inv.2 i 7 _ hi rfl)
theorem trail_key {g : Nat → AV} (h : ∀ (j : Nat) c, trailT[j]? = some c → CellOk c (g j)) : ∀ i, i < (trlOf g).n → ((trlOf g).ord i).key ≤ 9223372036854775807 := fun i hi => (cell_R ((h 0 _ rfl).sl_inv.2 i 8 _ hi rfl)).2
theorem u8s_at {n j : Nat} (h : j < n) : (u8s n)[j]? = some (.int .u8) := by unfold u8s; rw [List.getElem?_replicate, if_pos h]
theorem cellT_u8 {a : AV} (h : CellOk (.int .u8) a) : 0 ≤ intOfAV a ∧ intOfAV a < 256 := by
  obtain ⟨h1, h2⟩ := (Lit.wf_int_iff _ _).1 h.int_inv
  exact ⟨Int.le_trans (by decide) h1, Int.lt_of_le_of_lt h2 (by decide)⟩
theorem trail_by {g : Nat → AV} (h : ∀ (j : Nat) c, trailT[j]? = some c → CellOk c (g j)) : ∀ i, byB ((trlOf g).lnk i) 32 := fun i j hj => by
  show 0 ≤ (if i < islN (g 1) then intOfAV (islF (g 1) i j) else 0) ∧ (if i < islN (g 1) then intOfAV (islF (g 1) i j) else 0) < 256
  split
  · exact cellT_u8 ((h 1 _ rfl).sl_inv.2 i j _ (by assumption) (u8s_at hj))
  · exact ⟨Int.le_refl _, by decide⟩
theorem step_R {a : AV} (h : CellOk (.sl stepT) a) : ∀ i, i < islN a → (stpOf (islF a i)).R := fun i hi =>
  have c := fun j t ht => h.sl_inv.2 i j t hi ht
  ⟨cell_R (c 1 _ rfl), cell_R (c 2 _ rfl), cell_R (c 3 _ rfl), cell_R (c 6 _ rfl), fun k hk => cell_R ((c 7 _ rfl).sl_inv.2 k 0 _ hk rfl)⟩
end Go.Sp

namespace Go.Am
open Go Go.Sp

def arrSk (P : Program) (g n : Nat) : Bool :=
  match (P.globals[g]?).map (·.type) with
  | some t =>
    match P.underlying t with
    | some (.array m e) =>
      match P.underlying e with
      | some .string => Nat.beq m n && Nat.beq (P.cellsOf e) 1 && Nat.beq (P.cellsOf t) n
      | _ => false
    | _ => false
  | none => false
theorem arrSk_inv {P : Program} {g n : Nat} (h : arrSk P g n = true) : ∃ t e, (P.globals[g]?).map (·.type) = some t ∧ P.underlying t = some (.array n e) ∧ P.underlying e = some .string ∧ P.cellsOf e = 1 ∧ P.cellsOf t = n := by
  unfold arrSk at h
  split at h
  · rename_i t ht
    split at h
    · rename_i m e hu
      split at h
      · rename_i he
        simp only [Bool.and_eq_true, Nat.beq_eq] at h
        obtain ⟨⟨rfl, h2⟩, h3⟩ := h
        exact ⟨t, e, ht, hu, he, h2, h3⟩
      · cases h
    · cases h
  · cases h

theorem glob_strs {P : Program} {w : World} {β : Book} {laid : List (String × DataW Unit)} (h : laidMetH P laid w) (hp : (laid.all fun x => x.2.handleName?.isNone) = true) (i : Nat) (name : String) {g n : Nat}
    {F : Nat → Str} (hl : laid[i]? = some (name, .agg ((List.range n).map fun j => .lit (.string (F j))))) (hg : P.globalNamed name = some g) (ho : arrSk P g n = true) (hn : 0 < n) (hb : β.free g) : GlobAt β w g n fun j => .str (bs (F j)) := by
  obtain ⟨t, e, ht, hu, he, hc, hct⟩ := arrSk_inv ho
  rw [MakeChecks.laidMetH_plain _ _ _ hp] at h
  obtain ⟨ps, hv, _, _⟩ := h
  obtain ⟨g', t', cs, fuel, p, h1, h2, h3, h4⟩ := laid_at hv hl
  obtain rfl := Option.some.inj (hg.symm.trans h1)
  obtain rfl := Option.some.inj (ht.symm.trans h2)
  obtain ⟨xs, m, rfl, hx, hlen, hxl, hel⟩ := DataW.trod_array hu h4
  simp only [Prod.mk.injEq, DataW.agg.injEq] at hx
  obtain ⟨hx, _⟩ := hx
  have cell : ∀ j, j < n → cs[j]? = some (.string (bs (F j))) := fun j hj => by
    have hj' := hel j hj
    rw [hc, Nat.mul_one, List.getElem?_eq_getElem (by omega : j < xs.length)] at hj'
    obtain ⟨v, e1, e2, _⟩ := DataW.trod_string he hj'
    have e3 : (xs.map (·.1))[j]? = some (.lit (.string v.data.toList)) := by rw [List.getElem?_map, List.getElem?_eq_getElem (by omega : j < xs.length), e2]; rfl
    rw [← hx] at e3
    simp only [List.getElem?_map, List.getElem?_range hj, Option.map_some, Option.some.injEq, DataW.lit.injEq, Lit.string.injEq] at e3
    have e5 : bs (F j) = v := by rw [e3]
    rw [e5]
    have e4 : (List.take 1 (List.drop j cs.toList))[0]? = some (.string v) := by rw [e1]; rfl
    rw [List.getElem?_take_of_lt (by decide), List.getElem?_drop, Nat.add_zero] at e4
    simpa using e4
  have hsh : ∃ el, w.shape? g = some (el, n) := by
    unfold World.var? at h3
    rw [hg] at h3
    have hsz : cs.size = n := hlen.trans hct
    unfold World.shape?
    simp only [Option.bind_some] at h3
    split at h3
    · rename_i cs' el z hb'
      cases h3
      exact ⟨el, by rw [hb', ← hsz]⟩
    · cases h3
  refine ⟨?_, hsh⟩
  refine .ipt (fun j => .string (bs (F j))) hn hb (fun j hj => ?_) (fun _ _ => rfl) (fun _ _ => .str) (fun _ _ => .str)
  rw [World.var?_cell hg h3]
  simpa using cell j hj
end Go.Am

namespace Go.Am
open Go Go.RowKit
section
variable {H : Type} {enc : TypeId × Value → H}
theorem returns_shaped {a : Assume} {C : Checked} {os : Os} {f : FuncId} {fn : Func} {s : ChangeSpec} {conds : List PathCond} {apart fresh handsOn again : Bool} {X : World → Array Value → Prop}
    (hX : ∀ (w w' : World) (args : Array Value), w.heap = w'.heap → X w args → X w' args)
    (own : ownKnob C.prog.godebug = none) (started : os.Started) (noInit : C.prog.inits.idxOf? f = none) (hfn : C.prog.funcs[f]? = some fn)
    (witness : ∃ (w : World) (tape : Tape) (i : Input), w.os = os ∧ (w.forCall tape i).Shaped C.prog ∧ i.vars = [] ∧ Input.okWide C.prog (w.forCall tape i) .any w.heap.size f i ∧
      ((s.pre enc C.prog fn conds apart (w.forCall tape i).memory i.args ∧ X (w.forCall tape i).memory i.args) ∧ sizedMet enc C.prog fn (OpenSpec.ofChange s) apart (w.forCall tape i).memory i.args) ∧ a.holds C.prog (lone (Frame.enter C.prog f i.args .normal) [] (w.forCall tape i)))
    (contract : ∀ (W : World) (base : Nat) (args : Array Value) (ds gs : List (DataW H)) (before : List MemPlace),
      (∀ (j : Nat) t v, fn.params[j]? = some t → args[j]? = some v → Value.okWide C.prog W .any base t v) →
      DataW.Whole enc C.prog fn.params.toList s.vars apart W args.toList ds gs before →
      conds.all (PathCond.test C.prog ⟨fn.params.toList, ds, s.plain.varTypes C.prog, gs⟩) = true →
      (DataW.weightsEach C.prog (fn.params.toList ++ s.plain.varTypes C.prog) (ds ++ gs)).all (· ≤ reachBytes) = true → X W args → W.ShapedOpen C.prog →
      a.holds C.prog (lone (Frame.enter C.prog f args .normal) [] W) →
      Calls C.prog f args W fun e W' => ∃ v, e = .returned v ∧ s.post enc C.prog fn apart fresh handsOn again W args v W') :
    ReturnsInHanded a C os f .any (fun w args => (s.pre enc C.prog fn conds apart w args ∧ X w args) ∧ sizedMet enc C.prog fn (OpenSpec.ofChange s) apart w args) (s.post enc C.prog fn apart fresh handsOn again) := by
  refine returnsInHanded_of_calls own started noInit witness ?_
  intro w tape i _ hsh _ hok hpre hholds
  obtain ⟨_, _, _, fn', hfn', _, _, _, _, hval⟩ := hok
  have e : fn' = fn := Option.some.inj (hfn'.symm.trans hfn)
  subst e
  obtain ⟨⟨⟨ds, gs, before, hw, hc⟩, hx⟩, hz⟩ := hpre
  have hw' := DataW.Whole.of_heap (w' := w.forCall tape i) (by rfl) hw
  refine (contract (w.forCall tape i) w.heap.size i.args ds gs before hval hw' hc (hz.weights hw) (hX _ _ _ (by rfl) hx) hsh hholds).mono fun e W' ⟨v, he, hp⟩ => ?_
  grind [ChangeSpec.post_blind]
end
end Go.Am
