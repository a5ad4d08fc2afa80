/- Part of the proof: HN4, Pth, HN5, Mak, HN6, HN7, HN8, HN9, Sha2, Chn2, HS22, HS23, HS24, HS25, HS26, HS27, Sha3, HS28, HS29, HV14, HV15, Glt, HV16, HV17, Clm, Prv, Acc, Prv2, Chv, HK1, HW1. -/
import Derived.Test.YtolcfdcoidpieaaGreatDoorM6
import Derived.Test.YtolcfdcoidpieaaGreatDoorProg
import Derived.Test.YtolcfdcoidpieaaGreatDoorM5
import Derived.Test.YtolcfdcoidpieaaGreatDoorM4
namespace Go.Proofs.YtolcfdcoidpieaaGreatDoor
open Go Go.Am Go.Sp
set_option maxRecDepth 100000
theorem rsec31_c (b:Bas) (u s:Int) (X:Nat→Nat→Int) (n:Nat) (hw:b.gr.W) (hn:n≤1000):Pure Tryz.prog gl0 52 [b.av,secA u s X n] (.bool (secB b u s X n)):=by
 have c0:=rdep27_c n (by omega)
 have c1:=r11valid_c b hw
 have c2:=fun hv=>ruser_c b u (validB_iff.1 hv)
 have c3:=rd31_c (dpJ n)
 have c4:=fun hv hX=>rlvs_c b X n (validB_iff.1 hv) hn hX
 have c5:=fun i hi=>rhas_c i (fun j=>lfJ b X j) (lfJ b X i) hi
 refine pure_sk (own:=ow0) Tryz.func52 (by kernel_rfl) mixed (by kernel_rfl)
  (let y0:List (Option Ob):=[some ⟨6,1,true,Rep.lst [Bas.cells b]⟩,some ⟨3,1,true,Rep.lst [[Zi u,Zi s,AV.isl 2 n fun (i j:Nat)=>Zi (X i j)]]⟩,some ⟨3,1,true,Rep.lst [[Zi (Grp.p (Bas.gr b)),Zi (Grp.q (Bas.gr b)),Zi (Grp.g (Bas.gr b))]]⟩];let y1:AV:=(AV.bool (secB b u s X n));let y2:List AV:=[Zi (Bas.gr b).1,Zi (Bas.gr b).2,Zi (Bas.gr b).3];(.sc (true) 103 ([Zi (↑n:Int)]) (Zi (dpJ n)) (.sc (true) 19 ([AV.agg (Bas.cells b)]) (AV.bool (validB b)) (.sc ((!validB b)==false) 104 ([AV.agg (Bas.cells b),Zi u]) (AV.bool (nzB b u&&msgJ b u != 1)) (.sc ((!validB b || !(nzB b u&&msgJ b u != 1)||decide (s<1)||decide (s≥(Bas.gr b).2))==false) 105 ([Zi (dpJ n)]) (AV.bool (decide (dpJ n≥0)&&decide (dpJ n≤5))) (.br (!validB b || !(nzB b u&&msgJ b u != 1)||decide (s<1)||decide (s≥(Bas.gr b).2) || !(decide (dpJ n≥0)&&decide (dpJ n≤5))) (.out (AV.bool false) [] y1 []) (.loop ({ x:Nat // x≤n∧(fun (x:Nat)=>∀ (j:Nat),j<x→pairB b X j=true) x }) (fun (x:{ x:Nat // x≤n∧(fun (x:Nat)=>∀ (j:Nat),j<x→pairB b X j=true) x })=>mkSt [2,3,5,7] [AV.own 0 6 0 0 6,AV.own 1 3 0 0 3,AV.own 2 3 0 0 3,Zi (↑(x.1):Int)] y0) (fun (x:{ x:Nat // x≤n∧(fun (x:Nat)=>∀ (j:Nat),j<x→pairB b X j=true) x })=>n - x.1) (⟨0,⟨Nat.zero_le n,fun (j:Nat) (hj:j<0)=>absurd hj (Nat.not_lt_zero j)⟩⟩) ([2,3,5,7]) ([0,8,40]) ([AV.own 0 6 0 0 6,AV.own 1 3 0 0 3,AV.own 2 3 0 0 3,Zi 0]) (y0) (fun x6=>(.br (decide ((↑x6.1:Int)<(↑n:Int))) (.req ((0:Int)≤(↑x6.1:Int)∧(↑x6.1:Int)<(↑n:Int)) (.req ((0:Int)≤0∧(0:Int)<(↑(2):Int)) (.sc (true) 106 ([AV.agg y2,Zi (X (Int.toNat (↑x6.1:Int)) 0)]) (AV.bool (scaB (Bas.gr b) (X (Int.toNat (↑x6.1:Int)) 0))) (.req (((!scaB b.1 (X (Int.toNat (↑x6.1:Int)) 0))==false)=true→(0:Int)≤(↑x6.1:Int)∧(↑x6.1:Int)<(↑n:Int)) (.req (((!scaB b.1 (X (Int.toNat (↑x6.1:Int)) 0))==false)=true→(0:Int)≤1∧(1:Int)<(↑(2):Int)) (.sc ((!scaB b.1 (X (Int.toNat (↑x6.1:Int)) 0))==false) 106 ([AV.agg y2,Zi (X (Int.toNat (↑x6.1:Int)) 1)]) (AV.bool (scaB (Bas.gr b) (X (Int.toNat (↑x6.1:Int)) 1))) (.br (!scaB b.1 (X (Int.toNat (↑x6.1:Int)) 0) || !scaB b.1 (X (Int.toNat (↑x6.1:Int)) 1)) (.out (AV.bool false) [] y1 []) (.again (Again 0 (fun (x:{ x:Nat // x≤n∧(fun (x:Nat)=>∀ (j:Nat),j<x→pairB b X j=true) x })=>mkSt [2,3,5,7] [AV.own 0 6 0 0 6,AV.own 1 3 0 0 3,AV.own 2 3 0 0 3,Zi (↑(x.1):Int)] y0) (fun (x:{ x:Nat // x≤n∧(fun (x:Nat)=>∀ (j:Nat),j<x→pairB b X j=true) x })=>n - x.1) x6) ([2,3,5,7]) ([0,1,2]) ([AV.own 0 6 0 0 6,AV.own 1 3 0 0 3,AV.own 2 3 0 0 3,Zi (IntKind.wrap IntKind.i64 ((↑x6.1:Int)+1))]) (y0))))))))) (.dc (true) 107 ([AV.agg (Bas.cells b),AV.isl 2 n fun (i j:Nat)=>Zi (X i j)]) (AV.isl 1 n fun (i x:Nat)=>Zi (lfJ b X i)) (.loop ({ x:Nat // x≤n∧(fun (x:Nat)=>∀ (j:Nat),j<x→seenB b X j=false) x }) (fun (x:{ x:Nat // x≤n∧(fun (x:Nat)=>∀ (j:Nat),j<x→seenB b X j=false) x })=>mkSt [8,9] [AV.isl 1 n fun (i x:Nat)=>Zi (lfJ b X i),Zi (↑(x.1):Int)] []) (fun (x:{ x:Nat // x≤n∧(fun (x:Nat)=>∀ (j:Nat),j<x→seenB b X j=false) x })=>n - x.1) (⟨0,⟨Nat.zero_le n,fun (j:Nat) (hj:j<0)=>absurd hj (Nat.not_lt_zero j)⟩⟩) ([8,9]) ([]) ([AV.isl 1 n fun (i x:Nat)=>Zi (lfJ b X i),Zi 0]) ([]) (fun x18=>(.br (decide ((↑x18.1:Int)<(↑n:Int))) (.req ((0:Int)≤(↑x18.1:Int)∧(↑x18.1:Int)≤(↑n:Int)) (.req ((0:Int)≤(↑x18.1:Int)∧(↑x18.1:Int)<(↑n:Int)) (.sc (true) 108 ([AV.isl 1 (Int.toNat (↑x18.1:Int)) fun (i j:Nat)=>Zi (lfJ b X (i+0)),Zi (lfJ b X (Int.toNat (↑x18.1:Int)))]) (AV.bool (List.any (List.range (Int.toNat (↑x18.1:Int))) fun (j:Nat)=>decide (lfJ b X (Int.toNat (↑x18.1:Int))=lfJ b X j))) (.br (List.any (List.range.loop (Int.toNat (↑x18.1:Int)) []) fun (j:Nat)=>decide (lfJ b X (Int.toNat (↑x18.1:Int))=lfJ b X j)) (.out (AV.bool false) [] y1 []) (.again (Again 0 (fun (x:{ x:Nat // x≤n∧(fun (x:Nat)=>∀ (j:Nat),j<x→seenB b X j=false) x })=>mkSt [8,9] [AV.isl 1 n fun (i x:Nat)=>Zi (lfJ b X i),Zi (↑(x.1):Int)] []) (fun (x:{ x:Nat // x≤n∧(fun (x:Nat)=>∀ (j:Nat),j<x→seenB b X j=false) x })=>n - x.1) x18) ([8,9]) ([]) ([AV.isl 1 n fun (i x:Nat)=>Zi (lfJ b X i),Zi (IntKind.wrap IntKind.i64 ((↑x18.1:Int)+1))]) ([])))))) (.out (AV.bool true) [] y1 []))))))))))))))
  (by kernel_rfl) ?_
 refine k_sc (c0) ?_
 refine k_sc (c1) ?_
 refine k_scg (fun h2=>c2 (by simpa using h2)) ?_
 refine k_scg (fun h3=>c3) ?_
 refine k_br (fun h4=>?_) (fun h4=>?_)
 ·have g4:=(cnd_or_t (cnd_or_t (cnd_or_t (cnd_or_t (cnd_not_t cnd_id_f) (cnd_not_t (cnd_and_f cnd_id_f cnd_bne_f))) cnd_dec_t) cnd_dec_t) (cnd_not_t (cnd_and_f cnd_dec_f cnd_dec_f))) h4
  exact k_out (Ent.of_eq (congrArg _ (sec_no g4).symm))
 ·have g4:=(cnd_or_f (cnd_or_f (cnd_or_f (cnd_or_f (cnd_not_f cnd_id_t) (cnd_not_f (cnd_and_t cnd_id_t cnd_bne_t))) cnd_dec_f) cnd_dec_f) (cnd_not_f (cnd_and_t cnd_dec_t cnd_dec_t))) h4
  refine k_loop (fun _ hs=>hs.le (⟨.refl _,.refl _,.refl _,.refl _,trivial⟩) (⟨.refl _,.refl _,.refl _,trivial⟩)) (fun x6=>?_)
  try (have q6:=x6.2;dsimp only at q6)
  refine k_br (fun h7=>?_) (fun h7=>?_)
  ·have g7:=cnd_dec_t h7
   refine k_req (by omega) ?_
   refine k_req (by omega) ?_
   refine k_sc ((rscal31_c (Bas.gr b)) (X (Int.toNat (↑x6.1:Int)) (0))) ?_
   refine k_req (fun hr=>by have hr:=(cnd_eqf_t (cnd_not_f cnd_id_t)) hr;omega) ?_
   refine k_req (fun hr=>by have hr:=(cnd_eqf_t (cnd_not_f cnd_id_t)) hr;omega) ?_
   refine k_scg (fun h13=>(rscal31_c (Bas.gr b)) (X (Int.toNat (↑x6.1:Int)) (1))) ?_
   refine k_br (fun h14=>?_) (fun h14=>?_)
   ·have g14:=(cnd_or_t (cnd_not_t cnd_id_f) (cnd_not_t cnd_id_f)) h14
    try simp only [Int.toNat_natCast] at g14
    exact k_out (Ent.of_eq (congrArg _ (sec_p (i:=x6.1) (by omega) g14).symm))
   ·have g14:=(cnd_or_f (cnd_not_f cnd_id_t) (cnd_not_f cnd_id_t)) h14
    try simp only [Int.toNat_natCast] at g14
    exact k_again (⟨x6.1+1,by omega,fun i hi=>by rcases Nat.lt_succ_iff_lt_or_eq.1 hi with hi|rfl;(· exact x6.2.2 i hi);(· unfold pairB;rw [g14.1,g14.2];rfl)⟩) (fun _ hs=>hs.le (⟨.refl _,.refl _,.refl _,inc_ent (by omega),trivial⟩) (⟨.refl _,.refl _,.refl _,trivial⟩)) (by dsimp only;omega)
  ·have g7:=cnd_dec_f h7
   refine k_dc (c4 (by exact g4.1.1.1.1) (by exact fun i hi=>x6.2.2 i (by omega))) ?_
   refine k_loop (fun _ hs=>hs.le (⟨.refl _,.refl _,trivial⟩) (trivial)) (fun x18=>?_)
   try (have q18:=x18.2;dsimp only at q18)
   refine k_br (fun h19=>?_) (fun h19=>?_)
   ·have g19:=cnd_dec_t h19
    refine k_req (by omega) ?_
    refine k_req (by omega) ?_
    refine k_sc (c5 (Int.toNat (↑x18.1:Int)) (by omega)) ?_
    refine k_br (fun h23=>?_) (fun h23=>?_)
    ·have g23:=cnd_id_t h23
     try simp only [Int.toNat_natCast] at g23
     exact k_out (Ent.of_eq (congrArg _ (sec_d (i:=x18.1) (by omega) g23).symm))
    ·have g23:=cnd_id_f h23
     try simp only [Int.toNat_natCast] at g23
     exact k_again (⟨x18.1+1,by omega,fun i hi=>by rcases Nat.lt_succ_iff_lt_or_eq.1 hi with hi|rfl;(· exact x18.2.2 i hi);(· exact g23)⟩) (fun _ hs=>hs.le (⟨.refl _,inc_ent (by omega),trivial⟩) (trivial)) (by dsimp only;omega)
   ·have g19:=cnd_dec_f h19
    exact k_out (Ent.of_eq (congrArg _ (secB_t (sec_yes g4) (fun i hi=>by rw [x6.2.2 i (by omega),x18.2.2 i (by omega)];rfl)).symm))
theorem rpseu31_c (b:Bas) (u s:Int) (X:Nat→Nat→Int) (n:Nat) (H:SecOk b u s X n):Pure Tryz.prog gl0 119 [b.av,secA u s X n] (.int .i64 (psJ b u s)):=by
 have h:=validB_iff.1 H.v
 have c1:=rmsg31_c b u h (nz_sca H.hu)
 have c2:=r10pow_c b.gr (msgJ b u) s h.G (el_bnd h.G (msgJ_el H.v H.hu)) (nz_rng H.hs)
 refine pure_sk (own:=ow0) Tryz.func119 (by kernel_rfl) mixed (by kernel_rfl)
  (.sc (true) 175 ([AV.agg (Bas.cells b),Zi u]) (Zi (msgJ b u)) (.sc (true) 160 ([AV.agg [Zi (Bas.gr b).1,Zi (Bas.gr b).2,Zi (Bas.gr b).3],Zi (msgJ b u),Zi s]) (Zi (msgJ b u^Int.toNat s%Grp.p (Bas.gr b))) (.out (Zi (msgJ b u^Int.toNat s%(Bas.gr b).1)) [] (Zi (psJ b u s)) [])))
  (by kernel_rfl) ?_
 refine k_sc (c1) ?_
 refine k_sc (c2) ?_
 exact k_out (Ent.refl _)
theorem mk1_c (e:Int):Pure Tryz.prog gl0 125 [.int .i64 e] (.tup [.agg (Spend.zero.cw .nsl .nsl),.int .i64 e]):=by
 refine pure_sk (own:=ow0) Tryz.func125 (by kernel_rfl) mixed (by kernel_rfl)
  (.out (AV.tup [AV.agg [Zi 0,Zi 0,Zi 0,Zi 0,Zi 0,Zb 0,Zb 0,Zb 0,Zb 0,Zb 0,Zb 0,Zb 0,Zb 0,Zb 0,Zb 0,Zb 0,Zb 0,Zb 0,Zb 0,Zb 0,Zb 0,Zb 0,Zb 0,Zb 0,Zb 0,Zb 0,Zb 0,Zb 0,Zb 0,Zb 0,Zb 0,Zb 0,Zb 0,Zb 0,Zb 0,Zb 0,Zb 0,Zi 0,Zi 0,Zi 0,Zi 0,Zi 0,Zi 0,Zb 0,Zb 0,Zb 0,Zb 0,Zb 0,Zb 0,Zb 0,Zb 0,Zb 0,Zb 0,Zb 0,Zb 0,Zb 0,Zb 0,Zb 0,Zb 0,Zb 0,Zb 0,Zb 0,Zb 0,Zb 0,Zb 0,Zb 0,Zb 0,Zb 0,Zb 0,Zb 0,Zb 0,Zb 0,Zb 0,Zb 0,Zb 0,Zi 0,Zi 0,AV.nsl,Zi 0,AV.nsl],Zi e]) [] (AV.tup [AV.agg (Spend.cw Spend.zero AV.nsl AV.nsl),Zi e]) [])
  (by kernel_rfl) ?_
 exact k_out (Ent.refl _)
theorem smul_c (a k m:Int) (ha:0≤a∧a<m) (hk:0≤k∧k<m) (hm:m<2305843009213693952):Pure Tryz.prog gl0 131 [.int .i64 a,.int .i64 k,.int .i64 m] (.int .i64 (a*k%m)):=by
 refine pure_sk (own:=ow0) Tryz.func131 (by kernel_rfl) mixed (by kernel_rfl)
  (.loop ({ x:Nat // x≤62 }) (fun (x:{ x:Nat // x≤62 })=>mkSt [2,0,1,7] [Zi m,Zi (a*2^x.1%m),Zi (k / 2^x.1),Zi (a*(k%2^x.1)%m)] []) (fun (x:{ x:Nat // x≤62 })=>62 - x.1) (⟨0,Nat.zero_le 62⟩) ([2,0,1,7]) ([]) ([Zi m,Zi a,Zi k,Zi 0]) ([]) (fun x0=>(.br (decide (k / 2^x0.1>0)) (.br (IntKind.wrap IntKind.i64 (↑(BitVec.toNat (BitVec.ofInt 64 (k / 2^x0.1) &&& BitVec.ofInt 64 (1:Int))):Int)==1) (.req (m≠(0:Int)) (.req (m≠(0:Int)) (.again (Again 0 (fun (x:{ x:Nat // x≤62 })=>mkSt [2,0,1,7] [Zi m,Zi (a*2^x.1%m),Zi (k / 2^x.1),Zi (a*(k%2^x.1)%m)] []) (fun (x:{ x:Nat // x≤62 })=>62 - x.1) x0) ([2,0,1,7]) ([]) ([Zi m,Zi (Int.tmod (IntKind.wrap IntKind.i64 (a*2^x0.1%m+a*2^x0.1%m)) m),Zi (Int.fdiv (k / 2^x0.1) ((2:Int)^1)),Zi (Int.tmod (IntKind.wrap IntKind.i64 (a*(k%2^x0.1)%m+a*2^x0.1%m)) m)]) ([])))) (.req (m≠(0:Int)) (.again (Again 0 (fun (x:{ x:Nat // x≤62 })=>mkSt [2,0,1,7] [Zi m,Zi (a*2^x.1%m),Zi (k / 2^x.1),Zi (a*(k%2^x.1)%m)] []) (fun (x:{ x:Nat // x≤62 })=>62 - x.1) x0) ([2,0,1,7]) ([]) ([Zi m,Zi (Int.tmod (IntKind.wrap IntKind.i64 (a*2^x0.1%m+a*2^x0.1%m)) m),Zi (Int.fdiv (k / 2^x0.1) ((2:Int)^1)),Zi (a*(k%2^x0.1)%m)]) ([])))) (.out (Zi (a*(k%2^x0.1)%m)) [] (Zi (a*k%m)) []))))
  (by kernel_rfl) ?_
 refine k_loop (fun _ hs=>hs.le (⟨Ent.refl _,Ent.of_eq (congrArg _ (by rw [Int.pow_zero,Int.mul_one,Int.emod_eq_of_lt ha.1 ha.2])),Ent.of_eq (congrArg _ (by rw [Int.pow_zero,Int.ediv_one])),Ent.of_eq (congrArg _ (by rw [Int.pow_zero,Int.emod_one,Int.mul_zero,Int.zero_emod])),trivial⟩) (trivial)) (fun x0=>?_)
 try (have q0:=x0.2;dsimp only at q0)
 have bb:=fun (h:k / 2^x0.1>0)=>bit0i (x:=k / 2^x0.1) (by omega) (Int.lt_of_le_of_lt (Int.ediv_le_self _ hk.1) (by omega))
 refine k_br (fun h1=>?_) (fun h1=>?_)
 ·have g1:=cnd_dec_t h1
  refine k_br (fun h2=>?_) (fun h2=>?_)
  ·have g2:=cnd_beq_t h2
   refine k_req (by omega) ?_
   refine k_req (by omega) ?_
   exact k_again (⟨x0.1+1,by have:=sh_lt (by omega) g1;omega⟩) (fun _ hs=>hs.le (⟨Ent.refl _,Ent.of_eq (congrArg _ (dbl_a (by omega) (by omega))),Ent.of_eq (congrArg _ shr_1),Ent.of_eq (congrArg _ (out_1 (by omega) (by omega) (by rw [bb g1] at g2;exact g2))),trivial⟩) (trivial)) (by have:=sh_lt (by omega) g1;dsimp only;omega)
  ·have g2:=cnd_beq_f h2
   refine k_req (by omega) ?_
   exact k_again (⟨x0.1+1,by have:=sh_lt (by omega) g1;omega⟩) (fun _ hs=>hs.le (⟨Ent.refl _,Ent.of_eq (congrArg _ (dbl_a (by omega) (by omega))),Ent.of_eq (congrArg _ shr_1),Ent.of_eq (congrArg _ (out_0 (by rw [bb g1] at g2;omega))),trivial⟩) (trivial)) (by have:=sh_lt (by omega) g1;dsimp only;omega)
 ·have g1:=cnd_dec_f h1
  exact k_out (Ent.of_eq (congrArg _ (sh_end hk.1 g1)))
end Go.Proofs.YtolcfdcoidpieaaGreatDoor

namespace Go.Sp
open Go Go.Am
def sibN (i : Nat) : Nat := if i % 2 = 0 then i + 1 else i - 1
def pthF (h : Nat → Nat → Int) (d L i x : Nat) : Nat → Int := treF h (d - (L - x)) (sibN (i / 2 ^ x))
theorem sib_x : ∀ i : Fin 64, IntKind.wrap .i64 ((BitVec.ofInt 64 ((i.1 : Nat) : Int) ^^^ BitVec.ofInt 64 1).toNat : Nat) = ((sibN i.1 : Nat) : Int) := by decide +kernel
theorem sib_xor {i : Nat} (h : i < 64) : IntKind.wrap .i64 ((BitVec.ofInt 64 (i : Int) ^^^ BitVec.ofInt 64 1).toNat : Nat) = ((sibN i : Nat) : Int) := sib_x ⟨i, h⟩
theorem sib_lt {i k : Nat} (hk : 0 < k) (h : i < 2 ^ k) : sibN i < 2 ^ k := by
  obtain ⟨m, rfl⟩ : ∃ m, k = m + 1 := ⟨k - 1, by omega⟩
  rw [Nat.pow_succ] at h ⊢
  unfold sibN
  split <;> omega
theorem idx_lt {L i x : Nat} (hx : x ≤ L) (h : i < 2 ^ L) : i / 2 ^ x < 2 ^ (L - x) := by
  apply Nat.div_lt_of_lt_mul
  rw [← Nat.pow_add, show x + (L - x) = L by omega]
  exact h
theorem idx_half {i x : Nat} : i / 2 ^ x / 2 = i / 2 ^ (x + 1) := by rw [Nat.pow_succ, Nat.div_div_eq_div_mul]
theorem idxZ {l i : Int} (hi : 0 ≤ i ∧ i < 2 ^ l.toNat) : i.toNat < 2 ^ l.toNat := by
  have h2 := hi.2
  have e : ((2 ^ l.toNat : Nat) : Int) = 2 ^ l.toNat := by simp
  rw [← e] at h2
  omega
theorem l5 {k : Nat} (h : k ≤ 5) : 2 ^ k ≤ 32 := Nat.pow_le_pow_right (n := 2) (by decide) h
theorem pth_i {L i x : Nat} (hL : L ≤ 5) (hx : x < L) (hi : i < 2 ^ L) : i / 2 ^ x < 2 ^ (L - x) ∧ i / 2 ^ x < 64 ∧ sibN (i / 2 ^ x) < 2 ^ (L - x) ∧ 2 ^ (L - x) ≤ 32 := by
  have h1 := idx_lt (by omega : x ≤ L) hi
  have h2 := l5 (k := L - x) (by omega)
  exact ⟨h1, by omega, sib_lt (by omega) h1, h2⟩
theorem pth_x {L i x : Nat} (hL : L ≤ 5) (hx : x < L) (hi : i < 2 ^ L) : IntKind.wrap .i64 ((BitVec.ofInt 64 ((i / 2 ^ x : Nat) : Int) ^^^ BitVec.ofInt 64 1).toNat : Nat) = ((sibN (i / 2 ^ x) : Nat) : Int) := sib_xor (pth_i hL hx hi).2.1
theorem pth_h {L i x : Nat} (hL : L ≤ 5) (hx : x < L) (hi : i < 2 ^ L) : IntKind.wrap .i64 (Int.tdiv ((i / 2 ^ x : Nat) : Int) 2) = ((i / 2 ^ (x + 1) : Nat) : Int) := by
  have h := (pth_i hL hx hi).2.1
  rw [← idx_half]
  generalize i / 2 ^ x = a at h
  rw [Int.tdiv_eq_ediv_of_nonneg (by omega), wI (by omega) (by omega)]
  omega
theorem pth_e {L x : Nat} : Int.toNat ((L : Int) - x) = L - x := by omega
theorem pth_by {h : Nat → Nat → Int} {d L i x : Nat} (hh : ∀ j, j < 2 ^ d → byB (h j) 32) (hL : L ≤ d) (hx : x < L) (hi : i < 2 ^ L) : byB (pthF h d L i x) 32 := by
  refine tre_by (n := 2 ^ d) hh _ _ ?_
  have hs := sib_lt (k := L - x) (by omega) (idx_lt (by omega) hi)
  have e : 2 ^ (L - x) * 2 ^ (d - (L - x)) = 2 ^ d := by rw [← Nat.pow_add, show L - x + (d - (L - x)) = d by omega]
  have e2 := Nat.mul_le_mul_right (2 ^ (d - (L - x))) (show sibN (i / 2 ^ x) + 1 ≤ 2 ^ (L - x) from hs)
  rw [e, Nat.add_mul, Nat.one_mul] at e2
  exact e2
end Go.Sp

namespace Go.Proofs.YtolcfdcoidpieaaGreatDoor
open Go Go.Am Go.Sp
set_option maxRecDepth 100000
theorem path1_g (i:Int) (n:Nat) (P:Nat→Nat→Int) (hn:n≤1000):Gives Tryz.prog gl0 197 [⟨2,1,true,.lst [[.int .i64 i,.osl 1 32 0 n]]⟩,⟨32,n,true,.row fun r=>u8c (P r)⟩] [.agg (u8c (P n)),.own 0 2 0 0 2] (.tup []) [some ⟨2,1,true,.lst [[.int .i64 i,.osl 2 32 0 (n+1)]]⟩,none,some ⟨32,n+1,true,.row fun r=>u8c (P r)⟩]:=by
 refine gives_sk (own:=ow0) (hand:=true) Tryz.func197 (by kernel_rfl) mixed (by kernel_rfl)
  (.req ((n+1)*32≤140737488355328) (.out (AV.tup []) ([some ⟨2,1,true,Rep.lst [[Zi i,AV.osl 2 32 0 (n+1)]]⟩,none,some ⟨32,n+1,true,Rep.cat n (Rep.row fun (i:Nat)=>u8c (P i)) (Rep.lst [u8c (P n)])⟩]) (AV.tup []) ([some ⟨2,1,true,Rep.lst [[Zi i,AV.osl 2 32 0 (n+1)]]⟩,none,some ⟨32,n+1,true,Rep.row fun (r:Nat)=>u8c (P r)⟩])))
  (by kernel_rfl) ?_
 refine k_req (by omega) ?_
 exact k_outg (Ent.of_eq rfl) (⟨ObEnt.refl _,ObEnt.catRow rfl (fun _ _=>EntL.refl _) (EntL.refl _),trivial⟩)
theorem open_c (d L i:Nat) (hd:d≤5) (hL:L≤d) (hi:i<2^L) (h:Nat→Nat→Int) (hb:∀ i,i<2^d→byB (h i) 32):Pure Tryz.prog gl0 196 [hsl (2^d) h,.int .i64 L,.int .i64 i] (.tup [.isl 1 (d+1) fun i _=>hsl (2^(d - (d - i))) (treF h (d - i)),.int .i64 0]):=by
 refine pure_sk (own:=ow0) Tryz.func196 (by kernel_rfl) mixed (by kernel_rfl)
  (let y0:AV:=(AV.tup [AV.isl 1 (d+1) fun (i x:Nat)=>hsl (2^(d - (d - i))) (treF h (d - i)),Zi 0]);(.sc (true) 243 ([Zi (↑(2^d):Int)]) (AV.tup [Zi (↑d:Int),Zi 0]) (.ff (.req (((decide ((↑L:Int)<0)||decide ((↑L:Int)>(↑d:Int))||decide ((↑i:Int)<0))==false)=true→(0:Int)≤(↑L:Int)) (.br (decide ((↑L:Int)<0)||decide ((↑L:Int)>(↑d:Int))||decide ((↑i:Int)<0)||decide ((↑i:Int)≥IntKind.wrap IntKind.i64 ((1:Int)*2^min (Int.toNat (↑L:Int)) 64))) (.out (AV.tup [AV.nsl,Zi 2]) [] y0 []) (.dc (true) 244 ([AV.isl 32 (2^d) fun (i j:Nat)=>Zb (h i j)]) (AV.isl 1 (d+1) fun (i x:Nat)=>hsl (2^(d - (d - i))) (treF h (d - i))) (.out (AV.tup [AV.isl 1 (d+1) fun (i x:Nat)=>AV.isl 32 (2^(d - (d - i))) fun (i_1 j:Nat)=>Zb (treF h (d - i) i_1 j),Zi 0]) [] y0 [])))))))
  (by kernel_rfl) ?_
 refine k_sc ((depth_c d) (by assumption)) ?_
 refine k_ff ?_
 refine k_req (fun hr=>by have hr:=(cnd_eqf_t (cnd_or_f (cnd_or_f cnd_dec_f cnd_dec_f) cnd_dec_f)) hr;omega) ?_
 refine k_br (fun h3=>?_) (fun h3=>?_)
 ·have g3:=(cnd_or_t (cnd_or_t (cnd_or_t cnd_dec_t cnd_dec_t) cnd_dec_t) cnd_dec_t) h3
  try simp only [Int.toNat_natCast] at g3
  exact k_out (by exfalso;rw [shl1 (by omega)] at g3;have:=Int.ofNat_lt.2 hi;omega)
 ·have g3:=(cnd_or_f (cnd_or_f (cnd_or_f cnd_dec_f cnd_dec_f) cnd_dec_f) cnd_dec_f) h3
  try simp only [Int.toNat_natCast] at g3
  refine k_dc (levels_c (d) (by assumption) (h) (by assumption)) ?_
  exact k_out (Ent.refl _)
def owP:FuncId→Option (List Bool):=fun f=>bif Nat.beq f 197 then some [false,true] else none
theorem path1_f (i:Int) (n:Nat) (P:Nat→Nat→Int) (F:Nat→Int) (hn:n≤1000) (hF:F=P n):Gives Tryz.prog gl0 197 [⟨2,1,true,.lst [[.int .i64 i,.osl 1 32 0 n]]⟩,⟨32,n,true,.row fun r=>u8c (P r)⟩] [.agg (u8c F),.own 0 2 0 0 2] (.tup []) [some ⟨2,1,true,.lst [[.int .i64 i,.osl 2 32 0 (n+1)]]⟩,none,some ⟨32,n+1,true,.row fun r=>u8c (P r)⟩]:=by
 subst hF
 exact path1_g i n P hn
theorem rnodeZ_c (d:Nat) (hd:d≤5) (h:Nat→Nat→Int) (hb:∀ i,i<2^d→byB (h i) 32) (z:Int) (j:Nat) (hz:0≤z∧z≤d) (hj:j<2^z.toNat):Pure Tryz.prog gl0 84 [hsl (2^d) h,.int .i64 z,.int .i64 j] (.agg (u8c (treF h (d - z.toNat) j))):=by
 have c:=tnode_c d hd h hb (d - z.toNat) j (by omega) (by rw [show d - (d - z.toNat)=z.toNat by omega];exact hj)
 rw [show ((d - (d - z.toNat):Nat):Int)=z by omega] at c
 exact c
theorem tpath_c (d L i:Nat) (hd:d≤5) (hL:L≤d) (hi:i<2^L) (h:Nat→Nat→Int) (hb:∀ i,i<2^d→byB (h i) 32):Pure Tryz.prog gl0 129 [hsl (2^d) h,.int .i64 L,.int .i64 i] (.tup [.agg [.int .i64 i,hss L (pthF h d L i)],.int .i64 0]):=by
 have c1:=open_c d L i hd hL hi h hb
 have c2:=fun n F hn hF=>path1_f i n (pthF h d L i) F hn hF
 refine pure_sk (own:=owP) Tryz.func129 (by kernel_rfl) mixed (by kernel_rfl)
  (.dc (true) 196 ([AV.isl 32 (2^d) fun (i j:Nat)=>Zb (h i j),Zi (↑L:Int),Zi (↑i:Int)]) (AV.tup [AV.isl 1 (d+1) fun (i x:Nat)=>hsl (2^(d - (d - i))) (treF h (d - i)),Zi 0]) (.ff (.loop ({ x:Nat // x≤L }) (fun (x:{ x:Nat // x≤L })=>mkSt [6,8,10,11,12,13] [AV.own 0 2 0 0 2,AV.isl 1 (d+1) fun (i x:Nat)=>AV.isl 32 (2^(d - (d - i))) fun (i_1 j:Nat)=>Zb (treF h (d - i) i_1 j),AV.own 1 2 0 0 2,AV.fn (Fn.func 197) [] [AV.own 1 2 0 0 2],Zi ((↑L:Int) - (↑(x.1):Int)),Zi (↑(i / 2^x.1):Int)] [some ⟨2,1,true,Rep.lst [[Zi 0,AV.nsl]]⟩,some ⟨2,1,true,Rep.lst [[Zi (↑i:Int),AV.osl 2 32 0 (x.1)]]⟩,some ⟨32,x.1,true,Rep.row fun (r:Nat)=>u8c (pthF h d L i r)⟩]) (fun (x:{ x:Nat // x≤L })=>L - x.1) (⟨0,Nat.zero_le L⟩) ([6,8,10,11,12,13]) ([0,120,8378]) ([AV.own 0 2 0 0 2,AV.isl 1 (d+1) fun (i x:Nat)=>AV.isl 32 (2^(d - (d - i))) fun (i_1 j:Nat)=>Zb (treF h (d - i) i_1 j),AV.own 1 2 0 0 2,AV.fn (Fn.func 197) [] [AV.own 1 2 0 0 2],Zi (↑L:Int),Zi (↑i:Int)]) ([some ⟨2,1,true,Rep.lst [[Zi 0,AV.nsl]]⟩,some ⟨2,1,true,Rep.lst [[Zi (↑i:Int),AV.nsl]]⟩,some ⟨32,0,true,Rep.lst []⟩]) (fun x2=>(.br (decide ((↑L:Int) - (↑x2.1:Int)>0)) (.req ((0:Int)≤(↑L:Int) - (↑x2.1:Int)∧(↑L:Int) - (↑x2.1:Int)<(↑(d+1):Int)) (.req ((0:Int)≤IntKind.wrap IntKind.i64 (↑(BitVec.toNat (BitVec.ofInt 64 (↑(i / 2^x2.1):Int) ^^^ BitVec.ofInt 64 (1:Int))):Int)∧IntKind.wrap IntKind.i64 (↑(BitVec.toNat (BitVec.ofInt 64 (↑(i / 2^x2.1):Int) ^^^ BitVec.ofInt 64 (1:Int))):Int)<(↑(2^(d - (d - Int.toNat ((↑L:Int) - (↑x2.1:Int))))):Int)) (.gc 197 ([⟨2,1,true,Rep.lst [[Zi (↑i:Int),AV.osl 1 32 0 x2.1]]⟩,⟨32,x2.1,true,Rep.row fun (i_1:Nat)=>u8c (pthF h d L i i_1)⟩]) ([AV.agg (u8c (treF h (d - Int.toNat ((↑L:Int) - (↑x2.1:Int))) (Int.toNat (IntKind.wrap IntKind.i64 (↑(BitVec.toNat (BitVec.ofInt 64 (↑(i / 2^x2.1):Int) ^^^ BitVec.ofInt 64 (1:Int))):Int))))),AV.own 0 2 0 0 2]) (AV.tup []) ([some ⟨2,1,true,Rep.lst [[Zi (↑i:Int),AV.osl 2 32 0 (x2.1+1)]]⟩,none,some ⟨32,x2.1+1,true,Rep.row fun (r:Nat)=>u8c (pthF h d L i r)⟩]) (.again (Again 0 (fun (x:{ x:Nat // x≤L })=>mkSt [6,8,10,11,12,13] [AV.own 0 2 0 0 2,AV.isl 1 (d+1) fun (i x:Nat)=>AV.isl 32 (2^(d - (d - i))) fun (i_1 j:Nat)=>Zb (treF h (d - i) i_1 j),AV.own 1 2 0 0 2,AV.fn (Fn.func 197) [] [AV.own 1 2 0 0 2],Zi ((↑L:Int) - (↑(x.1):Int)),Zi (↑(i / 2^x.1):Int)] [some ⟨2,1,true,Rep.lst [[Zi 0,AV.nsl]]⟩,some ⟨2,1,true,Rep.lst [[Zi (↑i:Int),AV.osl 2 32 0 (x.1)]]⟩,some ⟨32,x.1,true,Rep.row fun (r:Nat)=>u8c (pthF h d L i r)⟩]) (fun (x:{ x:Nat // x≤L })=>L - x.1) x2) ([6,8,10,11,12,13]) ([0,1,91]) ([AV.own 0 2 0 0 2,AV.isl 1 (d+1) fun (i x:Nat)=>AV.isl 32 (2^(d - (d - i))) fun (i_1 j:Nat)=>Zb (treF h (d - i) i_1 j),AV.own 1 2 0 0 2,AV.fn (Fn.func 197) [] [AV.own 1 2 0 0 2],Zi (IntKind.wrap IntKind.i64 ((↑L:Int) - (↑x2.1:Int) - 1)),Zi (IntKind.wrap IntKind.i64 (Int.tdiv (↑(i / 2^x2.1):Int) (2:Int)))]) ([some ⟨2,1,true,Rep.lst [[Zi 0,AV.nsl]]⟩,some ⟨2,1,true,Rep.lst [[Zi (↑i:Int),AV.osl 2 32 0 (x2.1+1)]]⟩,some ⟨32,x2.1+1,true,Rep.row fun (i_1:Nat)=>u8c (pthF h d L i i_1)⟩]))))) (.out (AV.tup [AV.agg [Zi (↑i:Int),AV.isl 32 x2.1 fun (r k:Nat)=>atL (u8c (pthF h d L i (r+0))) k],Zi 0]) [] (AV.tup [AV.agg [Zi (↑i:Int),hss L (pthF h d L i)],Zi 0]) []))))))
  (by kernel_rfl) ?_
 refine k_dc (c1) ?_
 refine k_ff ?_
 refine k_loop (fun _ hs=>hs.le (⟨Ent.refl _,Ent.refl _,Ent.refl _,Ent.refl _,  Ent.of_eq (congrArg _ (by simp)),Ent.of_eq (congrArg _ (by simp)),trivial⟩) (⟨ObEnt.refl _,ObEnt.row ⟨Ent.refl _,Ent.nil rfl,trivial⟩,ObEnt.zero,trivial⟩)) (fun x2=>?_)
 try (have q2:=x2.2;dsimp only at q2)
 refine k_br (fun h3=>?_) (fun h3=>?_)
 ·have g3:=cnd_dec_t h3
  refine k_req (by omega) ?_
  refine k_req (by (rw [pth_x (by omega) (by omega) hi,pth_e];have k:=pth_i (i:=i) (by omega:L≤5) (by omega:x2.1<L) hi;rw [show d - (d - (L - x2.1))=L - x2.1 by omega];exact ⟨Int.natCast_nonneg _,Int.ofNat_lt.2 k.2.2.1⟩)) ?_
  refine k_gc (c2 (x2.1) (treF h (d - Int.toNat ((↑L:Int) - (↑x2.1:Int))) (Int.toNat (IntKind.wrap IntKind.i64 (↑(BitVec.toNat (BitVec.ofInt (64) (↑(i / 2^x2.1):Int) ^^^ BitVec.ofInt (64) (1:Int))):Int)))) (by omega) (by (unfold pthF;rw [pth_x (by omega) (by omega) hi,pth_e,Int.toNat_natCast]))) ?_
  exact k_again (⟨x2.1+1,by omega⟩) (fun _ hs=>hs.le (⟨Ent.refl _,Ent.refl _,Ent.refl _,Ent.refl _,  Ent.of_eq (congrArg _ (by rw [wI (by omega) (by omega)];dsimp only;omega)),Ent.of_eq (congrArg _ (pth_h (by omega) (by omega) hi)),trivial⟩) (⟨ObEnt.refl _,ObEnt.refl _,ObEnt.refl _,trivial⟩)) (by dsimp only;omega)
 ·have g3:=cnd_dec_f h3
  exact k_out (Ent.tup ⟨Ent.agg ⟨Ent.refl _,hsl_out (by omega),trivial⟩,Ent.refl _,trivial⟩)
end Go.Proofs.YtolcfdcoidpieaaGreatDoor

namespace Go.Sp
open Go Go.Am
theorem bnotT {c : Bool} (h : (!c) = true) : c = false := by cases c <;> simp_all
theorem bnotF {c : Bool} (h : (!c) = false) : c = true := by cases c <;> simp_all
theorem lv_ex {n : Nat} (h : lvB n = true) : ∃ d, d ≤ 5 ∧ n = 2 ^ d := by
  unfold lvB at h
  rw [firstI_neg] at h
  obtain ⟨i, hi, he⟩ := List.any_eq_true.1 h
  have hi := List.mem_range.1 hi
  have he : (n : Int) = ((2 ^ (0 + i) : Nat) : Int) := by simpa using he
  rw [Nat.zero_add] at he
  exact ⟨i, by omega, by exact_mod_cast he⟩
def mkH (b : Bas) (X : Nat → Nat → Int) (i : Nat) : Nat → Int := leafF (lfJ b X i)
def belB (b : Bas) (c : Coin) (u s : Int) (X : Nat → Nat → Int) (d : Nat) : Bool := decide (c.depth = (d : Int)) && (c.a == psJ b u s && hEq c.root (treF (mkH b X) d 0))
def r1J (b : Bas) (k u s x : Int) : Int := (k * (u * s % b.gr.q) % b.gr.q + x) % b.gr.q
def r2J (b : Bas) (k s x : Int) : Int := (k * s % b.gr.q + x) % b.gr.q
def mkL (b : Bas) (k u s : Int) (X : Nat → Nat → Int) (a : Nat) (j m : Nat) : Int := [lfJ b X (a + j), r1J b k u s (X (a + j) 0), r2J b k s (X (a + j) 1)].getD m 0
def mkS (b : Bas) (c : Coin) (u s : Int) (X : Nat → Nat → Int) (d : Nat) (l i : Int) (x : Cxt) : Spend :=
  ⟨c.bank, c.epoch, c.denom, c.depth, c.a, c.root, c.z, c.sa, c.sb, c.r, l, i, x.payee, x.time, x.number, 2 ^ (d - l.toNat), mkL b (chalN b.gr.q c l i x) u s X (i.toNat * 2 ^ (d - l.toNat)), i, l.toNat, pthF (mkH b X) d l.toNat i.toNat⟩
def mkE (b : Bas) (c : Coin) (u s : Int) (X : Nat → Nat → Int) (n d : Nat) (l i : Int) (x : Cxt) : Int :=
  if secB b u s X n = false then 1 else if (nodeB c.depth l i && ctxB x.time x.number) = false then 2 else if belB b c u s X d = false then 18 else 0
def mkO (b : Bas) (c : Coin) (u s : Int) (X : Nat → Nat → Int) (n d : Nat) (l i : Int) (x : Cxt) : Spend := if mkE b c u s X n d l i x = 0 then mkS b c u s X d l i x else .zero
abbrev mkV (S : Spend) (E : Int) : AV := .tup [S.av, .int .i64 E]
theorem depx_f : ∀ x d : Fin 6, (IntKind.wrap .i64 ((1 : Int) * 2 ^ min (Int.toNat (IntKind.wrap .u64 (x.1 : Int))) 64) == ((2 ^ d.1 : Nat) : Int)) = decide ((x.1 : Int) = (d.1 : Int)) ∧
    (IntKind.wrap .i64 ((1 : Int) * 2 ^ min (Int.toNat (x.1 : Int)) 64) != ((2 ^ d.1 : Nat) : Int)) = !decide ((x.1 : Int) = (d.1 : Int)) := by decide +kernel
theorem dep_x {z : Int} {d : Nat} (h : 0 ≤ z ∧ z ≤ 5) (hd : d ≤ 5) : (IntKind.wrap .i64 ((1 : Int) * 2 ^ min (Int.toNat (IntKind.wrap .u64 z)) 64) == ((2 ^ d : Nat) : Int)) = decide (z = (d : Int)) ∧
    (IntKind.wrap .i64 ((1 : Int) * 2 ^ min (Int.toNat z) 64) != ((2 ^ d : Nat) : Int)) = !decide (z = (d : Int)) := by
  have := depx_f ⟨z.toNat, by omega⟩ ⟨d, by omega⟩
  simp only [Int.toNat_of_nonneg h.1] at this
  exact this
theorem bel_eq {b : Bas} {c : Coin} {u s : Int} {X : Nat → Nat → Int} {d : Nat} (h : 0 ≤ c.depth ∧ c.depth ≤ 5) (hd : d ≤ 5) : ((IntKind.wrap .i64 ((1 : Int) * 2 ^ min (Int.toNat (IntKind.wrap .u64 c.depth)) 64) == ((2 ^ d : Nat) : Int)) && c.a == psJ b u s && hEq c.root (treF (mkH b X) (d - 0) 0)) = belB b c u s X d := by
  rw [(dep_x h hd).1]
  unfold belB
  rw [Bool.and_assoc]; rfl
theorem bel_ne {b : Bas} {c : Coin} {u s : Int} {X : Nat → Nat → Int} {d : Nat} (h : 0 ≤ c.depth ∧ c.depth ≤ 5) (hd : d ≤ 5) : ((IntKind.wrap .i64 ((1 : Int) * 2 ^ min (Int.toNat c.depth) 64) != ((2 ^ d : Nat) : Int)) || c.a != psJ b u s || !hEq c.root (treF (mkH b X) d 0)) = !belB b c u s X d := by
  rw [(dep_x h hd).2]
  unfold belB
  cases decide (c.depth = (d : Int)) <;> cases hq : (c.a == psJ b u s) <;> simp_all
theorem mk_g1 {b : Bas} {k u s x : Int} (h : b.gr.Ok) (hx : 0 ≤ x ∧ x < b.gr.q) : Int.tmod (IntKind.wrap .i64 (k * (u * s % b.gr.q) % b.gr.q + x)) b.gr.q = r1J b k u s x := by
  have k1 := h.q3; have k2 := h.qp; have k3 := h.p1
  have a1 := Int.emod_nonneg (k * (u * s % b.gr.q)) (by omega : b.gr.q ≠ 0)
  have a2 := Int.emod_lt_of_pos (k * (u * s % b.gr.q)) (by omega : 0 < b.gr.q)
  rw [wI (by omega) (by omega), Int.tmod_eq_emod_of_nonneg (by omega)]; rfl
theorem mk_g2 {b : Bas} {k s x : Int} (h : b.gr.Ok) (hx : 0 ≤ x ∧ x < b.gr.q) : Int.tmod (IntKind.wrap .i64 (k * s % b.gr.q + x)) b.gr.q = r2J b k s x := by
  have k1 := h.q3; have k2 := h.qp; have k3 := h.p1
  have a1 := Int.emod_nonneg (k * s) (by omega : b.gr.q ≠ 0)
  have a2 := Int.emod_lt_of_pos (k * s) (by omega : 0 < b.gr.q)
  rw [wI (by omega) (by omega), Int.tmod_eq_emod_of_nonneg (by omega)]; rfl
def mkC (b : Bas) (k u s : Int) (X : Nat → Nat → Int) (a j : Nat) : List AV := [.int .i64 (lfJ b X (a + j)), .int .i64 (r1J b k u s (X (a + j) 0)), .int .i64 (r2J b k s (X (a + j) 1))]
theorem mkC_out {os : List (Option Ob)} {b : Bas} {k u s : Int} {X : Nat → Nat → Int} {a n m : Nat} (h : m = n) : Ent os (.isl 3 m fun r q => atL (mkC b k u s X a (r + 0)) q) (lvs n (mkL b k u s X a)) := by
  subst h
  exact Ent.isl fun i j _ hj => match j, hj with | 0, _ | 1, _ | 2, _ => rfl
theorem pair_b {b : Bas} {X : Nat → Nat → Int} {i : Nat} (h : pairB b X i = true) : (0 ≤ X i 0 ∧ X i 0 < b.gr.q) ∧ (0 ≤ X i 1 ∧ X i 1 < b.gr.q) := ⟨sca_iff.1 (pair_all h).1, sca_iff.1 (pair_all h).2⟩
theorem span_mk {z l i : Int} {d : Nat} (hn : nodeB z l i = true) (hd : z = (d : Int)) : spanA z l i = ((i.toNat * 2 ^ (d - l.toNat) : Nat) : Int) ∧ spanZ z l i = ((i.toNat * 2 ^ (d - l.toNat) + 2 ^ (d - l.toNat) : Nat) : Int) ∧ spanE z l i = 0 := by
  obtain ⟨h1, h2, h3, h4, h5, h6⟩ := node_t hn
  subst hd
  have e : ((d : Int) - l).toNat = d - l.toNat := by omega
  have ei : ((i.toNat : Nat) : Int) = i := Int.toNat_of_nonneg h5
  unfold spanA spanZ spanE
  rw [if_pos hn, if_pos hn, if_pos hn, if_neg (by omega), e]
  refine ⟨?_, ?_, rfl⟩
  · rw [Int.natCast_mul, ei]; simp
  · rw [Int.natCast_add, Int.natCast_mul, ei, Int.add_mul, Int.one_mul]; simp
theorem mk_1 {b : Bas} {c : Coin} {u s : Int} {X : Nat → Nat → Int} {n d : Nat} {l i : Int} {x : Cxt} (h : secB b u s X n = false) : mkO b c u s X n d l i x = .zero ∧ mkE b c u s X n d l i x = 1 := by
  have e : mkE b c u s X n d l i x = 1 := if_pos h
  refine ⟨?_, e⟩
  unfold mkO
  rw [e]; rfl
theorem mk_2 {b : Bas} {c : Coin} {u s : Int} {X : Nat → Nat → Int} {n d : Nat} {l i : Int} {x : Cxt} (h : secB b u s X n = true) (h2 : (nodeB c.depth l i && ctxB x.time x.number) = false) : mkO b c u s X n d l i x = .zero ∧ mkE b c u s X n d l i x = 2 := by
  have e : mkE b c u s X n d l i x = 2 := by unfold mkE; rw [if_neg (by simp [h]), if_pos h2]
  refine ⟨?_, e⟩
  unfold mkO
  rw [e]; rfl
theorem mk_3 {b : Bas} {c : Coin} {u s : Int} {X : Nat → Nat → Int} {n d : Nat} {l i : Int} {x : Cxt} (h : secB b u s X n = true) (h2 : nodeB c.depth l i = true ∧ ctxB x.time x.number = true) (h3 : belB b c u s X d = false) : mkO b c u s X n d l i x = .zero ∧ mkE b c u s X n d l i x = 18 := by
  have e : mkE b c u s X n d l i x = 18 := by unfold mkE; rw [if_neg (by simp [h]), if_neg (by simp [h2]), if_pos h3]
  refine ⟨?_, e⟩
  unfold mkO
  rw [e]; rfl
theorem mk_0 {b : Bas} {c : Coin} {u s : Int} {X : Nat → Nat → Int} {n d : Nat} {l i : Int} {x : Cxt} (h : secB b u s X n = true) (h2 : nodeB c.depth l i = true ∧ ctxB x.time x.number = true) (h3 : belB b c u s X d = true) : mkO b c u s X n d l i x = mkS b c u s X d l i x ∧ mkE b c u s X n d l i x = 0 := by
  have e : mkE b c u s X n d l i x = 0 := by unfold mkE; rw [if_neg (by simp [h]), if_neg (by simp [h2]), if_neg (by simp [h3])]
  refine ⟨?_, e⟩
  unfold mkO
  rw [e]; rfl
theorem mkc_ok {b : Bas} {c : Coin} {l i : Int} {x : Cxt} (hv : validB b = true) (h : chalE b c l i x = 0) : nodeB c.depth l i = true ∧ ctxB x.time x.number = true := by
  unfold chalE at h
  rw [hv] at h
  cases hc : (nodeB c.depth l i && ctxB x.time x.number) with
  | false => rw [hc] at h; cases h
  | true => simpa using hc
theorem mkc_no {b : Bas} {c : Coin} {l i : Int} {x : Cxt} (hv : validB b = true) (h : ¬ chalE b c l i x = 0) : (nodeB c.depth l i && ctxB x.time x.number) = false ∧ chalE b c l i x = 2 := by
  unfold chalE at h ⊢
  rw [hv] at h ⊢
  cases hc : (nodeB c.depth l i && ctxB x.time x.number) with
  | false => exact ⟨rfl, rfl⟩
  | true => rw [hc] at h; exact absurd rfl h
theorem mkc_k {b : Bas} {c : Coin} {l i : Int} {x : Cxt} (hv : validB b = true) (h : nodeB c.depth l i = true ∧ ctxB x.time x.number = true) : chalK b c l i x = chalN b.gr.q c l i x := by
  unfold chalK
  rw [hv, h.1, h.2]; rfl
theorem lf_el {b : Bas} {X : Nat → Nat → Int} {i : Nat} (hv : validB b = true) (h : pairB b X i = true) : elemB b.gr (lfJ b X i) = true := by
  have k := validB_iff.1 hv
  unfold lfJ
  rw [(pr2_ok (pair_all h)).1]
  exact elem_mul k.G (elem_pow k.G k.e1 _) (elem_pow k.G k.e2 _)
theorem span_le {d : Nat} {z l i : Int} (hn : nodeB z l i = true) (hd : z = (d : Int)) : i.toNat * 2 ^ (d - l.toNat) + 2 ^ (d - l.toNat) ≤ 2 ^ d := by
  obtain ⟨h1, h2, h3, h4, h5, h6⟩ := node_t hn
  have hi := idxZ (l := l) ⟨h5, h6⟩
  have e := Nat.mul_le_mul_right (2 ^ (d - l.toNat)) (show i.toNat + 1 ≤ 2 ^ l.toNat from hi)
  rw [Nat.add_mul, Nat.one_mul, ← Nat.pow_add, show l.toNat + (d - l.toNat) = d by omega] at e
  exact e
theorem bel_dep {b : Bas} {c : Coin} {u s : Int} {X : Nat → Nat → Int} {d : Nat} (h : belB b c u s X d = true) : c.depth = (d : Int) := by
  unfold belB at h
  simp only [Bool.and_eq_true, decide_eq_true_eq] at h
  exact h.1
theorem mkc_q {b : Bas} {c : Coin} {l i : Int} {x : Cxt} (h : b.gr.Ok) : 0 ≤ chalN b.gr.q c l i x ∧ chalN b.gr.q c l i x < b.gr.q := num_by (by have := h.q3; omega) 16
theorem mk_AN (b : Bas) (c : Coin) (u s : Int) (X : Nat → Nat → Int) (d : Nat) (l i : Int) : ∃ A N : Nat, A + N ≤ 2 ^ d ∧ (nodeB c.depth l i = true → belB b c u s X d = true → A = i.toNat * 2 ^ (d - l.toNat) ∧ N = 2 ^ (d - l.toNat)) := by
  by_cases h : nodeB c.depth l i = true ∧ belB b c u s X d = true
  · exact ⟨_, _, span_le h.1 (bel_dep h.2), fun _ _ => ⟨rfl, rfl⟩⟩
  · exact ⟨0, 0, Nat.zero_le _, fun h1 h2 => absurd ⟨h1, h2⟩ h⟩
end Go.Sp

namespace Go.Proofs.YtolcfdcoidpieaaGreatDoor
open Go Go.Am Go.Sp
set_option maxRecDepth 100000
theorem tpathZ_c (d:Nat) (l i:Int) (hd:d≤5) (hl:0≤l∧l≤d) (hi:0≤i∧i<2^l.toNat) (h:Nat→Nat→Int) (hb:∀ i,i<2^d→byB (h i) 32):Pure Tryz.prog gl0 129 [hsl (2^d) h,.int .i64 l,.int .i64 i] (.tup [.agg [.int .i64 i,hss l.toNat (pthF h d l.toNat i.toNat)],.int .i64 0]):=by
 have c:=tpath_c d l.toNat i.toNat hd (by omega) (idxZ hi) h hb
 rw [Int.toNat_of_nonneg hl.1,Int.toNat_of_nonneg hi.1] at c
 exact c
theorem belongs_c (b:Bas) (c:Coin) (u s:Int) (X:Nat→Nat→Int) (d:Nat) (hd:d≤5) (H:SecOk b u s X (2^d)) (hdep:0≤c.depth∧c.depth≤5):Pure Tryz.prog gl0 59 [b.av,c.av,secA u s X (2^d)] (.bool (belB b c u s X d)):=by
 have hn:2^d≤1000:=Nat.le_trans (l5 hd) (by decide)
 have c1:=rlvs_c b X (2^d) (validB_iff.1 H.v) hn H.p
 have c2:=rhash_c (2^d) hn (lfJ b X)
 have c3:=rpseu31_c b u s X (2^d) H
 have c4:=rnodeZ_c d hd (mkH b X) (fun i _=>leafF_by _) 0 0 (by omega) (by decide)
 refine pure_sk (own:=ow0) Tryz.func59 (by kernel_rfl) mixed (by kernel_rfl)
  (let y0:Nat:=(Int.toNat (IntKind.wrap IntKind.u64 c.4));(.dc (true) 107 ([AV.agg (Bas.cells b),AV.isl 2 (2^d) fun (i j:Nat)=>Zi (X i j)]) (AV.isl 1 (2^d) fun (i x:Nat)=>Zi (lfJ b X i)) (.dc (true) 85 ([AV.isl 1 (2^d) fun (i x:Nat)=>Zi (lfJ b X i)]) (hsl (2^d) fun (i:Nat)=>leafF (lfJ b X i)) (.req ((0:Int)≤IntKind.wrap IntKind.u64 c.4) (.sc ((IntKind.wrap IntKind.i64 ((1:Int)*2^min y0 64)==(↑(2^d):Int))==true) 119 ([AV.agg (Bas.cells b),AV.agg [Zi u,Zi s,AV.isl 2 (2^d) fun (i j:Nat)=>Zi (X i j)]]) (Zi (psJ b u s)) (.sc ((IntKind.wrap IntKind.i64 ((1:Int)*2^min y0 64)==(↑(2^d):Int)&&c.5==psJ b u s)==true) 84 ([AV.isl 32 (2^d) fun (i j:Nat)=>Zb (leafF (lfJ b X i) j),Zi 0,Zi 0]) (AV.agg (u8c (treF (mkH b X) (d - Int.toNat (0:Int)) 0))) (.out (AV.bool (IntKind.wrap IntKind.i64 ((1:Int)*2^min y0 64)==(↑(2^d):Int)&&c.5==psJ b u s&&(c.6 0==treF (mkH b X) (d - 0) 0 0&&(c.6 1==treF (mkH b X) (d - 0) 0 1&&(c.6 2==treF (mkH b X) (d - 0) 0 2&&(c.6 3==treF (mkH b X) (d - 0) 0 3&&(c.6 4==treF (mkH b X) (d - 0) 0 4&&(c.6 5==treF (mkH b X) (d - 0) 0 5&&(c.6 6==treF (mkH b X) (d - 0) 0 6&&(c.6 7==treF (mkH b X) (d - 0) 0 7&&(c.6 8==treF (mkH b X) (d - 0) 0 8&&(c.6 9==treF (mkH b X) (d - 0) 0 9&&(c.6 10==treF (mkH b X) (d - 0) 0 10&&(c.6 11==treF (mkH b X) (d - 0) 0 11&&(c.6 12==treF (mkH b X) (d - 0) 0 12&&(c.6 13==treF (mkH b X) (d - 0) 0 13&&(c.6 14==treF (mkH b X) (d - 0) 0 14&&(c.6 15==treF (mkH b X) (d - 0) 0 15&&(c.6 16==treF (mkH b X) (d - 0) 0 16&&(c.6 17==treF (mkH b X) (d - 0) 0 17&&(c.6 18==treF (mkH b X) (d - 0) 0 18&&(c.6 19==treF (mkH b X) (d - 0) 0 19&&(c.6 20==treF (mkH b X) (d - 0) 0 20&&(c.6 21==treF (mkH b X) (d - 0) 0 21&&(c.6 22==treF (mkH b X) (d - 0) 0 22&&(c.6 23==treF (mkH b X) (d - 0) 0 23&&(c.6 24==treF (mkH b X) (d - 0) 0 24&&(c.6 25==treF (mkH b X) (d - 0) 0 25&&(c.6 26==treF (mkH b X) (d - 0) 0 26&&(c.6 27==treF (mkH b X) (d - 0) 0 27&&(c.6 28==treF (mkH b X) (d - 0) 0 28&&(c.6 29==treF (mkH b X) (d - 0) 0 29&&(c.6 30==treF (mkH b X) (d - 0) 0 30&&(c.6 31==treF (mkH b X) (d - 0) 0 31&&true)))))))))))))))))))))))))))))))))) [] (AV.bool (belB b c u s X d)) [])))))))
  (by kernel_rfl) ?_
 refine k_dc (c1) ?_
 refine k_dc (c2) ?_
 refine k_req (by rw [wu64m];omega) ?_
 refine k_scg (fun h3=>c3) ?_
 refine k_scg (fun h4=>c4) ?_
 exact k_out (Ent.of_eq (congrArg _ (bel_eq hdep hd)))
theorem smake_f (b:Bas) (c:Coin) (u s:Int) (X:Nat→Nat→Int) (n:Nat) (l i:Int) (x:Cxt) (S:Spend) (E:Int) (hw:b.gr.W) (hn:n≤1000) (hs:secB b u s X n=false) (u1:S=.zero∧E=1) :
  Pure Tryz.prog gl0 62 [b.av,c.av,secA u s X n,.agg [.int .i64 l,.int .i64 i],x.av] (mkV S E):=by
 have c0:=bvalid_c b hw
 have c1:=vsecret_c b u s X n hw hn
 rw [hs] at c1
 refine pure_sk (own:=ow0) Tryz.func62 (by kernel_rfl) mixed (by kernel_rfl)
  (.sc (true) 34 ([AV.agg (Bas.cells b)]) (AV.bool (validB b)) (.sc ((!validB b)==false) 61 ([AV.agg (Bas.cells b),AV.agg [Zi u,Zi s,AV.isl 2 n fun (i j:Nat)=>Zi (X i j)]]) (AV.bool false) (.br (!validB b||true) (.dc (true) 125 ([Zi 1]) (AV.tup [AV.agg (Spend.cw Spend.zero AV.nsl AV.nsl),Zi 1]) (.out (AV.tup [AV.agg [Zi 0,Zi 0,Zi 0,Zi 0,Zi 0,Zb 0,Zb 0,Zb 0,Zb 0,Zb 0,Zb 0,Zb 0,Zb 0,Zb 0,Zb 0,Zb 0,Zb 0,Zb 0,Zb 0,Zb 0,Zb 0,Zb 0,Zb 0,Zb 0,Zb 0,Zb 0,Zb 0,Zb 0,Zb 0,Zb 0,Zb 0,Zb 0,Zb 0,Zb 0,Zb 0,Zb 0,Zb 0,Zi 0,Zi 0,Zi 0,Zi 0,Zi 0,Zi 0,Zb 0,Zb 0,Zb 0,Zb 0,Zb 0,Zb 0,Zb 0,Zb 0,Zb 0,Zb 0,Zb 0,Zb 0,Zb 0,Zb 0,Zb 0,Zb 0,Zb 0,Zb 0,Zb 0,Zb 0,Zb 0,Zb 0,Zb 0,Zb 0,Zb 0,Zb 0,Zb 0,Zb 0,Zb 0,Zb 0,Zb 0,Zb 0,Zi 0,Zi 0,AV.nsl,Zi 0,AV.nsl],Zi 1]) [] (mkV S E) [])) .no)))
  (by kernel_rfl) ?_
 refine k_sc (c0) ?_
 refine k_scg (fun h1=>c1) ?_
 refine k_br (fun h2=>?_) (fun h2=>?_)
 ·have g2:=(cnd_or_t (cnd_not_t cnd_id_f) cnd_id_t) h2
  refine k_dc (mk1_c ((1:Int))) ?_
  exact k_out ((by obtain ⟨e1,e2⟩:=u1;rw [e1,e2];exact Ent.tup ⟨Ent.agg zero_ent,Ent.refl _,trivial⟩))
 ·have g2:=(cnd_or_f (cnd_not_f cnd_id_t) cnd_id_f) h2
  exact (show False from ((by rcases g2 with ⟨_,g⟩;cases g)))
theorem smake_w (b:Bas) (c:Coin) (u s:Int) (X:Nat→Nat→Int) (M:Nat) (l i:Int) (x:Cxt) (A N:Nat) (k KE PS:Int) (RT:Nat→Int) (BEL:Bool) (PF:Nat→Nat→Int) (S:Spend) (E:Int) (hw:b.gr.W) (hM:M≤32) (hAN:A+N≤M) (H:SecOk b u s X M) (hk:KE=0→0≤k∧k<b.gr.q) (hdep:KE=0→0≤c.depth∧c.depth≤5)
  (hbel:KE=0→((IntKind.wrap .i64 ((1:Int)*2^min (Int.toNat c.depth) 64) != (M:Int))||c.a != PS || !hEq c.root RT) = !BEL)
  (c5:Pure Tryz.prog gl0 126 [b.av,c.av,.agg [.int .i64 l,.int .i64 i],x.av] (.tup [.int .i64 k,.int .i64 KE]))
  (c6:Pure Tryz.prog gl0 127 [b.av,secA u s X M] (.tup [.int .i64 PS,.int .i64 0]))
  (c7:Pure Tryz.prog gl0 128 [b.av,secA u s X M] (.tup [.isl 1 M fun i _=>.int .i64 (lfJ b X i),.int .i64 0]))
  (c8:Pure Tryz.prog gl0 76 [b.av,.isl 1 M fun i _=>.int .i64 (lfJ b X i)] (.tup [hsl M (mkH b X),.int .i64 0]))
  (c9:Pure Tryz.prog gl0 77 [hsl M (mkH b X)] (.tup [.agg (u8c RT),.int .i64 0]))
  (c10:KE=0→BEL=true→Pure Tryz.prog gl0 129 [hsl M (mkH b X),.int .i64 l,.int .i64 i] (.tup [.agg [.int .i64 i,hss l.toNat PF],.int .i64 0]))
  (c11:KE=0→BEL=true→Pure Tryz.prog gl0 130 [.int .i64 c.depth,.agg [.int .i64 l,.int .i64 i]] (.tup [.int .i64 A,.int .i64 (A+N:Nat),.int .i64 0]))
  (u2:¬KE=0→S=.zero∧E=KE) (u3:KE=0→BEL=false→S=.zero∧E=18) (u0:KE=0→BEL=true→S=(⟨c.bank,c.epoch,c.denom,c.depth,c.a,c.root,c.z,c.sa,c.sb,c.r,l,i,x.payee,x.time,x.number,N,mkL b k u s X A,i,l.toNat,PF⟩:Spend)∧E=0) :
  Pure Tryz.prog gl0 62 [b.av,c.av,secA u s X M,.agg [.int .i64 l,.int .i64 i],x.av] (mkV S E):=by
 have h:=validB_iff.1 H.v
 have k1:=h.G.q3
 have k2:=h.G.qp
 have k3:=h.G.p1
 have c0:=bvalid_c b hw
 rw [H.v] at c0
 have c1:=vsecret_c b u s X M hw (by omega)
 rw [show secB b u s X M=true from sec_of H] at c1
 refine pure_sk (own:=ow0) Tryz.func62 (by kernel_rfl) mixed (by kernel_rfl)
  (let y0:List AV:=[Zi 0,Zi 0,Zi 0,Zi 0,Zi 0,Zb 0,Zb 0,Zb 0,Zb 0,Zb 0,Zb 0,Zb 0,Zb 0,Zb 0,Zb 0,Zb 0,Zb 0,Zb 0,Zb 0,Zb 0,Zb 0,Zb 0,Zb 0,Zb 0,Zb 0,Zb 0,Zb 0,Zb 0,Zb 0,Zb 0,Zb 0,Zb 0,Zb 0,Zb 0,Zb 0,Zb 0,Zb 0,Zi 0,Zi 0,Zi 0,Zi 0,Zi 0,Zi 0,Zb 0,Zb 0,Zb 0,Zb 0,Zb 0,Zb 0,Zb 0,Zb 0,Zb 0,Zb 0,Zb 0,Zb 0,Zb 0,Zb 0,Zb 0,Zb 0,Zb 0,Zb 0,Zb 0,Zb 0,Zb 0,Zb 0,Zb 0,Zb 0,Zb 0,Zb 0,Zb 0,Zb 0,Zb 0,Zb 0,Zb 0,Zb 0,Zi 0,Zi 0,AV.nsl,Zi 0,AV.nsl];let y1:List AV:=[Zi u,Zi s,AV.isl 2 M fun (i j:Nat)=>Zi (X i j)];let y2:List AV:=[Zi (Grp.p (Bas.gr b)),Zi (Grp.q (Bas.gr b)),Zi (Grp.g (Bas.gr b))];let y3:List AV:=[AV.agg (Bas.cells b),AV.agg y1];(.sc (true) 34 ([AV.agg (Bas.cells b)]) (AV.bool true) (.sc (true) 61 (y3) (AV.bool true) (.ff (.sc (true) 126 ([AV.agg (Bas.cells b),AV.agg (Coin.cells c),AV.agg [Zi l,Zi i],AV.agg (u8c x.1++[Zi x.2,Zi x.3])]) (AV.tup [Zi k,Zi KE]) (.br (KE != 0) (.dc (true) 125 ([Zi KE]) (AV.tup [AV.agg (Spend.cw Spend.zero AV.nsl AV.nsl),Zi KE]) (.out (AV.tup [AV.agg y0,Zi KE]) [] (mkV S E) [])) (.sc (true) 127 (y3) (AV.tup [Zi PS,Zi 0]) (.dc (true) 128 (y3) (AV.tup [AV.isl 1 M fun (i x:Nat)=>Zi (lfJ b X i),Zi 0]) (.ff (.dc (true) 76 ([AV.agg (Bas.cells b),AV.isl 1 M fun (i x:Nat)=>Zi (lfJ b X i)]) (AV.tup [hsl M (mkH b X),Zi 0]) (.ff (.sc (true) 77 ([AV.isl 32 M fun (i j:Nat)=>Zb (mkH b X i j)]) (AV.tup [AV.agg (u8c RT),Zi 0]) (.req ((0:Int)≤c.4) (.br (IntKind.wrap IntKind.i64 ((1:Int)*2^min (Int.toNat c.4) 64) != (↑M:Int)||c.5 != PS || !(c.6 0==RT 0&&(c.6 1==RT 1&&(c.6 2==RT 2&&(c.6 3==RT 3&&(c.6 4==RT 4&&(c.6 5==RT 5&&(c.6 6==RT 6&&(c.6 7==RT 7&&(c.6 8==RT 8&&(c.6 9==RT 9&&(c.6 10==RT 10&&(c.6 11==RT 11&&(c.6 12==RT 12&&(c.6 13==RT 13&&(c.6 14==RT 14&&(c.6 15==RT 15&&(c.6 16==RT 16&&(c.6 17==RT 17&&(c.6 18==RT 18&&(c.6 19==RT 19&&(c.6 20==RT 20&&(c.6 21==RT 21&&(c.6 22==RT 22&&(c.6 23==RT 23&&(c.6 24==RT 24&&(c.6 25==RT 25&&(c.6 26==RT 26&&(c.6 27==RT 27&&(c.6 28==RT 28&&(c.6 29==RT 29&&(c.6 30==RT 30&&(c.6 31==RT 31&&true))))))))))))))))))))))))))))))))) (.dc (true) 125 ([Zi 18]) (AV.tup [AV.agg (Spend.cw Spend.zero AV.nsl AV.nsl),Zi 18]) (.out (AV.tup [AV.agg y0,Zi 18]) [] (mkV S E) [])) (.dc (true) 129 ([AV.isl 32 M fun (i j:Nat)=>Zb (mkH b X i j),Zi l,Zi i]) (AV.tup [AV.agg [Zi i,hss (Int.toNat l) PF],Zi 0]) (.ff (.sc (true) 130 ([Zi c.4,AV.agg [Zi l,Zi i]]) (AV.tup [Zi (↑A:Int),Zi (↑(A+N):Int),Zi 0]) (.sc (true) 131 ([Zi u,Zi s,Zi (Bas.gr b).2]) (Zi (u*s%(Bas.gr b).2)) (.loop ({ x:Nat // x≤N }) (fun (x_1:{ x:Nat // x≤N })=>mkSt [7,10,13,17,22,24,26,27,28] [AV.own 0 3 0 0 3,AV.own 1 80 0 0 80,Zi k,AV.isl 1 M fun (i x:Nat)=>Zi (lfJ b X i),AV.own 2 80 0 0 80,Zi (↑(A+N):Int),AV.own 3 3 0 0 3,Zi (u*s%(Bas.gr b).2),Zi (↑(A+Subtype.val x_1):Int)] [some ⟨3,1,true,Rep.lst [y1]⟩,some ⟨80,1,true,Rep.lst [y0]⟩,some ⟨80,1,true,Rep.lst [Spend.cw { bank:=Coin.bank c,epoch:=Coin.epoch c,denom:=Coin.denom c,depth:=Coin.depth c,a:=Coin.a c,root:=Coin.root c,z:=Coin.z c,sa:=Coin.sa c,sb:=Coin.sb c,r:=Coin.r c,level:=l,index:=i,payee:=Cxt.payee x,time:=Cxt.time x,number:=Cxt.number x,nl:=N,lf:=mkL b k u s X A,pidx:=i,np:=Int.toNat l,pf:=PF } (AV.osl 4 3 0 (Subtype.val x_1)) (hss (Int.toNat l) PF)]⟩,some ⟨3,1,true,Rep.lst [y2]⟩,some ⟨3,Subtype.val x_1,true,Rep.row fun (j:Nat)=>mkC b k u s X A j⟩]) (fun (x:{ x:Nat // x≤N })=>N - x.1) (⟨0,Nat.zero_le N⟩) ([7,10,13,17,22,24,26,27,28]) ([16,40,816,936,1804]) ([AV.own 0 3 0 0 3,AV.own 1 80 0 0 80,Zi k,AV.isl 1 M fun (i x:Nat)=>Zi (lfJ b X i),AV.own 2 80 0 0 80,Zi (↑(A+N):Int),AV.own 3 3 0 0 3,Zi (u*s%(Bas.gr b).2),Zi (↑A:Int)]) ([some ⟨3,1,true,Rep.lst [y1]⟩,some ⟨80,1,true,Rep.lst [y0]⟩,some ⟨80,1,true,Rep.lst [Coin.cells c++Zi l::Zi i::(u8c (Cxt.payee x)++[Zi (Cxt.time x),Zi (Cxt.number x),AV.nsl,Zi i,AV.isl 32 (Int.toNat l) fun (i j:Nat)=>Zb (PF i j)])]⟩,some ⟨3,1,true,Rep.lst [y2]⟩,some ⟨3,0,true,Rep.lst []⟩]) (fun x21=>(.br (decide ((↑(A+x21.1):Int)<(↑(A+N):Int))) (.req ((0:Int)≤(↑(A+x21.1):Int)∧(↑(A+x21.1):Int)<(↑M:Int)) (.sc (true) 131 ([Zi k,Zi (u*s%(Bas.gr b).2),Zi (Bas.gr b).2]) (Zi (k*(u*s%(Bas.gr b).2)%(Bas.gr b).2)) (.req ((0:Int)≤(↑(A+x21.1):Int)∧(↑(A+x21.1):Int)<(↑M:Int)) (.req ((0:Int)≤0∧(0:Int)<(↑(2):Int)) (.req ((Bas.gr b).2≠(0:Int)) (.sc (true) 131 ([Zi k,Zi s,Zi (Bas.gr b).2]) (Zi (k*s%(Bas.gr b).2)) (.req ((0:Int)≤(↑(A+x21.1):Int)∧(↑(A+x21.1):Int)<(↑M:Int)) (.req ((0:Int)≤1∧(1:Int)<(↑(2):Int)) (.req ((Bas.gr b).2≠(0:Int)) (.req ((x21.1+1)*24≤140737488355328) (.again (Again 0 (fun (x_1:{ x:Nat // x≤N })=>mkSt [7,10,13,17,22,24,26,27,28] [AV.own 0 3 0 0 3,AV.own 1 80 0 0 80,Zi k,AV.isl 1 M fun (i x:Nat)=>Zi (lfJ b X i),AV.own 2 80 0 0 80,Zi (↑(A+N):Int),AV.own 3 3 0 0 3,Zi (u*s%(Bas.gr b).2),Zi (↑(A+Subtype.val x_1):Int)] [some ⟨3,1,true,Rep.lst [y1]⟩,some ⟨80,1,true,Rep.lst [y0]⟩,some ⟨80,1,true,Rep.lst [Spend.cw { bank:=Coin.bank c,epoch:=Coin.epoch c,denom:=Coin.denom c,depth:=Coin.depth c,a:=Coin.a c,root:=Coin.root c,z:=Coin.z c,sa:=Coin.sa c,sb:=Coin.sb c,r:=Coin.r c,level:=l,index:=i,payee:=Cxt.payee x,time:=Cxt.time x,number:=Cxt.number x,nl:=N,lf:=mkL b k u s X A,pidx:=i,np:=Int.toNat l,pf:=PF } (AV.osl 4 3 0 (Subtype.val x_1)) (hss (Int.toNat l) PF)]⟩,some ⟨3,1,true,Rep.lst [y2]⟩,some ⟨3,Subtype.val x_1,true,Rep.row fun (j:Nat)=>mkC b k u s X A j⟩]) (fun (x:{ x:Nat // x≤N })=>N - x.1) x21) ([7,10,13,17,22,24,26,27,28]) ([0,1,2,3,341]) ([AV.own 0 3 0 0 3,AV.own 1 80 0 0 80,Zi k,AV.isl 1 M fun (i x:Nat)=>Zi (lfJ b X i),AV.own 2 80 0 0 80,Zi (↑(A+N):Int),AV.own 3 3 0 0 3,Zi (u*s%(Bas.gr b).2),Zi (IntKind.wrap IntKind.i64 ((↑(A+x21.1):Int)+1))]) ([some ⟨3,1,true,Rep.lst [y1]⟩,some ⟨80,1,true,Rep.lst [y0]⟩,some ⟨80,1,true,Rep.lst [Zi (Spend.bank { bank:=Coin.bank c,epoch:=Coin.epoch c,denom:=Coin.denom c,depth:=Coin.depth c,a:=Coin.a c,root:=Coin.root c,z:=Coin.z c,sa:=Coin.sa c,sb:=Coin.sb c,r:=Coin.r c,level:=l,index:=i,payee:=Cxt.payee x,time:=Cxt.time x,number:=Cxt.number x,nl:=N,lf:=mkL b k u s X A,pidx:=i,np:=Int.toNat l,pf:=PF })::Zi (Spend.epoch { bank:=Coin.bank c,epoch:=Coin.epoch c,denom:=Coin.denom c,depth:=Coin.depth c,a:=Coin.a c,root:=Coin.root c,z:=Coin.z c,sa:=Coin.sa c,sb:=Coin.sb c,r:=Coin.r c,level:=l,index:=i,payee:=Cxt.payee x,time:=Cxt.time x,number:=Cxt.number x,nl:=N,lf:=mkL b k u s X A,pidx:=i,np:=Int.toNat l,pf:=PF })::Zi (Spend.denom { bank:=Coin.bank c,epoch:=Coin.epoch c,denom:=Coin.denom c,depth:=Coin.depth c,a:=Coin.a c,root:=Coin.root c,z:=Coin.z c,sa:=Coin.sa c,sb:=Coin.sb c,r:=Coin.r c,level:=l,index:=i,payee:=Cxt.payee x,time:=Cxt.time x,number:=Cxt.number x,nl:=N,lf:=mkL b k u s X A,pidx:=i,np:=Int.toNat l,pf:=PF })::Zi (Spend.depth { bank:=Coin.bank c,epoch:=Coin.epoch c,denom:=Coin.denom c,depth:=Coin.depth c,a:=Coin.a c,root:=Coin.root c,z:=Coin.z c,sa:=Coin.sa c,sb:=Coin.sb c,r:=Coin.r c,level:=l,index:=i,payee:=Cxt.payee x,time:=Cxt.time x,number:=Cxt.number x,nl:=N,lf:=mkL b k u s X A,pidx:=i,np:=Int.toNat l,pf:=PF })::Zi (Spend.a { bank:=Coin.bank c,epoch:=Coin.epoch c,denom:=Coin.denom c,depth:=Coin.depth c,a:=Coin.a c,root:=Coin.root c,z:=Coin.z c,sa:=Coin.sa c,sb:=Coin.sb c,r:=Coin.r c,level:=l,index:=i,payee:=Cxt.payee x,time:=Cxt.time x,number:=Cxt.number x,nl:=N,lf:=mkL b k u s X A,pidx:=i,np:=Int.toNat l,pf:=PF })::(u8c (Spend.root { bank:=Coin.bank c,epoch:=Coin.epoch c,denom:=Coin.denom c,depth:=Coin.depth c,a:=Coin.a c,root:=Coin.root c,z:=Coin.z c,sa:=Coin.sa c,sb:=Coin.sb c,r:=Coin.r c,level:=l,index:=i,payee:=Cxt.payee x,time:=Cxt.time x,number:=Cxt.number x,nl:=N,lf:=mkL b k u s X A,pidx:=i,np:=Int.toNat l,pf:=PF })++Zi (Spend.z { bank:=Coin.bank c,epoch:=Coin.epoch c,denom:=Coin.denom c,depth:=Coin.depth c,a:=Coin.a c,root:=Coin.root c,z:=Coin.z c,sa:=Coin.sa c,sb:=Coin.sb c,r:=Coin.r c,level:=l,index:=i,payee:=Cxt.payee x,time:=Cxt.time x,number:=Cxt.number x,nl:=N,lf:=mkL b k u s X A,pidx:=i,np:=Int.toNat l,pf:=PF })::Zi (Spend.sa { bank:=Coin.bank c,epoch:=Coin.epoch c,denom:=Coin.denom c,depth:=Coin.depth c,a:=Coin.a c,root:=Coin.root c,z:=Coin.z c,sa:=Coin.sa c,sb:=Coin.sb c,r:=Coin.r c,level:=l,index:=i,payee:=Cxt.payee x,time:=Cxt.time x,number:=Cxt.number x,nl:=N,lf:=mkL b k u s X A,pidx:=i,np:=Int.toNat l,pf:=PF })::Zi (Spend.sb { bank:=Coin.bank c,epoch:=Coin.epoch c,denom:=Coin.denom c,depth:=Coin.depth c,a:=Coin.a c,root:=Coin.root c,z:=Coin.z c,sa:=Coin.sa c,sb:=Coin.sb c,r:=Coin.r c,level:=l,index:=i,payee:=Cxt.payee x,time:=Cxt.time x,number:=Cxt.number x,nl:=N,lf:=mkL b k u s X A,pidx:=i,np:=Int.toNat l,pf:=PF })::Zi (Spend.r { bank:=Coin.bank c,epoch:=Coin.epoch c,denom:=Coin.denom c,depth:=Coin.depth c,a:=Coin.a c,root:=Coin.root c,z:=Coin.z c,sa:=Coin.sa c,sb:=Coin.sb c,r:=Coin.r c,level:=l,index:=i,payee:=Cxt.payee x,time:=Cxt.time x,number:=Cxt.number x,nl:=N,lf:=mkL b k u s X A,pidx:=i,np:=Int.toNat l,pf:=PF })::Zi (Spend.level { bank:=Coin.bank c,epoch:=Coin.epoch c,denom:=Coin.denom c,depth:=Coin.depth c,a:=Coin.a c,root:=Coin.root c,z:=Coin.z c,sa:=Coin.sa c,sb:=Coin.sb c,r:=Coin.r c,level:=l,index:=i,payee:=Cxt.payee x,time:=Cxt.time x,number:=Cxt.number x,nl:=N,lf:=mkL b k u s X A,pidx:=i,np:=Int.toNat l,pf:=PF })::Zi (Spend.index { bank:=Coin.bank c,epoch:=Coin.epoch c,denom:=Coin.denom c,depth:=Coin.depth c,a:=Coin.a c,root:=Coin.root c,z:=Coin.z c,sa:=Coin.sa c,sb:=Coin.sb c,r:=Coin.r c,level:=l,index:=i,payee:=Cxt.payee x,time:=Cxt.time x,number:=Cxt.number x,nl:=N,lf:=mkL b k u s X A,pidx:=i,np:=Int.toNat l,pf:=PF })::(u8c (Spend.payee { bank:=Coin.bank c,epoch:=Coin.epoch c,denom:=Coin.denom c,depth:=Coin.depth c,a:=Coin.a c,root:=Coin.root c,z:=Coin.z c,sa:=Coin.sa c,sb:=Coin.sb c,r:=Coin.r c,level:=l,index:=i,payee:=Cxt.payee x,time:=Cxt.time x,number:=Cxt.number x,nl:=N,lf:=mkL b k u s X A,pidx:=i,np:=Int.toNat l,pf:=PF })++[Zi (Spend.time { bank:=Coin.bank c,epoch:=Coin.epoch c,denom:=Coin.denom c,depth:=Coin.depth c,a:=Coin.a c,root:=Coin.root c,z:=Coin.z c,sa:=Coin.sa c,sb:=Coin.sb c,r:=Coin.r c,level:=l,index:=i,payee:=Cxt.payee x,time:=Cxt.time x,number:=Cxt.number x,nl:=N,lf:=mkL b k u s X A,pidx:=i,np:=Int.toNat l,pf:=PF }),Zi (Spend.number { bank:=Coin.bank c,epoch:=Coin.epoch c,denom:=Coin.denom c,depth:=Coin.depth c,a:=Coin.a c,root:=Coin.root c,z:=Coin.z c,sa:=Coin.sa c,sb:=Coin.sb c,r:=Coin.r c,level:=l,index:=i,payee:=Cxt.payee x,time:=Cxt.time x,number:=Cxt.number x,nl:=N,lf:=mkL b k u s X A,pidx:=i,np:=Int.toNat l,pf:=PF }),AV.osl 4 3 0 (x21.1+1),Zi (Spend.pidx { bank:=Coin.bank c,epoch:=Coin.epoch c,denom:=Coin.denom c,depth:=Coin.depth c,a:=Coin.a c,root:=Coin.root c,z:=Coin.z c,sa:=Coin.sa c,sb:=Coin.sb c,r:=Coin.r c,level:=l,index:=i,payee:=Cxt.payee x,time:=Cxt.time x,number:=Cxt.number x,nl:=N,lf:=mkL b k u s X A,pidx:=i,np:=Int.toNat l,pf:=PF }),AV.isl 32 (Int.toNat l) fun (i j:Nat)=>Zb (PF i j)]))]⟩,some ⟨3,1,true,Rep.lst [y2]⟩,some ⟨3,x21.1+1,true,Rep.cat x21.1 (Rep.row fun (i:Nat)=>[Zi (lfJ b X (A+i)),Zi (r1J b k u s (X (A+i) 0)),Zi (r2J b k s (X (A+i) 1))]) (Rep.lst [[Zi (lfJ b X (Int.toNat (↑(A+x21.1):Int))),Zi (Int.tmod (IntKind.wrap IntKind.i64 (k*(u*s%(Bas.gr b).2)%(Bas.gr b).2+X (Int.toNat (↑(A+x21.1):Int)) 0)) (Bas.gr b).2),Zi (Int.tmod (IntKind.wrap IntKind.i64 (k*s%(Bas.gr b).2+X (Int.toNat (↑(A+x21.1):Int)) 1)) (Bas.gr b).2)]])⟩])))))))))))) (.out (AV.tup [AV.agg (Coin.cells c++Zi l::Zi i::(u8c x.1++[Zi x.2,Zi x.3,AV.isl 3 x21.1 fun (r k_1:Nat)=>atL [Zi (lfJ b X (A+(r+0))),Zi (r1J b k u s (X (A+(r+0)) 0)),Zi (r2J b k s (X (A+(r+0)) 1))] k_1,Zi i,AV.isl 32 (Int.toNat l) fun (i j:Nat)=>Zb (PF i j)])),Zi 0]) [] (mkV S E) []))))))))))))))))))))))
  (by kernel_rfl) ?_
 refine k_sc (c0) ?_
 refine k_sc (c1) ?_
 refine k_ff ?_
 refine k_sc (c5) ?_
 refine k_br (fun h4=>?_) (fun h4=>?_)
 ·have g4:=cnd_bne_t h4
  refine k_dc (mk1_c (KE)) ?_
  exact k_out ((by obtain ⟨e1,e2⟩:=u2 g4;rw [e1,e2];exact Ent.tup ⟨Ent.agg zero_ent,Ent.refl _,trivial⟩))
 ·have g4:=cnd_bne_f h4
  refine k_sc (c6) ?_
  refine k_dc (c7) ?_
  refine k_ff ?_
  refine k_dc (c8) ?_
  refine k_ff ?_
  refine k_sc (c9) ?_
  refine k_req (by omega) ?_
  refine k_br (fun h14=>?_) (fun h14=>?_)
  ·refine k_dc (mk1_c ((18:Int))) ?_
   exact k_out ((by obtain ⟨e1,e2⟩:=u3 g4 (bnotT ((hbel g4).symm.trans h14));rw [e1,e2];exact Ent.tup ⟨Ent.agg zero_ent,Ent.refl _,trivial⟩))
  ·refine k_dc (c10 (by assumption) (by exact bnotF ((hbel g4).symm.trans h14))) ?_
   refine k_ff ?_
   refine k_sc (c11 (by assumption) (by exact bnotF ((hbel g4).symm.trans h14))) ?_
   refine k_sc (smul_c (u) (s) ((Bas.gr b).2) (by exact nz_rng H.hu) (by exact nz_rng H.hs) (by omega)) ?_
   refine k_loop (fun _ hs=>hs.le (⟨.refl _,.refl _,.refl _,.refl _,.refl _,.refl _,.refl _,.refl _,.refl _,trivial⟩) (⟨ObEnt.refl _,ObEnt.refl _,ObEnt.row (cw_ent (⟨c.bank,c.epoch,c.denom,c.depth,c.a,c.root,c.z,c.sa,c.sb,c.r,l,i,x.payee,x.time,x.number,N,mkL b k u s X A,i,l.toNat,PF⟩:Spend) (Ent.nil rfl) (Ent.refl _)),ObEnt.refl _,ObEnt.zero,trivial⟩)) (fun x21=>?_)
   try (have q21:=x21.2;dsimp only at q21)
   have hx:=fun (hz:x21.1<N)=>pair_b (H.p (A+x21.1) (by omega))
   refine k_br (fun h22=>?_) (fun h22=>?_)
   ·have g22:=cnd_dec_t h22
    refine k_req (by omega) ?_
    refine k_sc (smul_c (k) (u*s%(Bas.gr b).2) ((Bas.gr b).2) (by omega) (by exact ⟨Int.emod_nonneg _ (by omega),Int.emod_lt_of_pos _ (by omega)⟩) (by omega)) ?_
    refine k_req (by omega) ?_
    refine k_req (by omega) ?_
    refine k_req (by omega) ?_
    refine k_sc (smul_c (k) (s) ((Bas.gr b).2) (by omega) (by exact nz_rng H.hs) (by omega)) ?_
    refine k_req (by omega) ?_
    refine k_req (by omega) ?_
    refine k_req (by omega) ?_
    refine k_req (by omega) ?_
    exact k_again (⟨x21.1+1,by omega⟩) (fun _ hs=>hs.le (⟨.refl _,.refl _,.refl _,.refl _,.refl _,.refl _,.refl _,.refl _,inc_ent (by omega),trivial⟩) (⟨ObEnt.refl _,ObEnt.refl _,ObEnt.refl _,ObEnt.refl _,ObEnt.catRow rfl (fun _ _=>EntL.refl _) ⟨Ent.refl _,Ent.of_eq (congrArg _ (mk_g1 h.G (hx (by omega)).1)),Ent.of_eq (congrArg _ (mk_g2 h.G (hx (by omega)).2)),trivial⟩,trivial⟩)) (by dsimp only;omega)
   ·have g22:=cnd_dec_f h22
    exact k_out ((by obtain ⟨e1,e2⟩:=u0 g4 (bnotF ((hbel g4).symm.trans h14));rw [e1,e2];exact Ent.tup ⟨Ent.agg (cw_ent (⟨c.bank,c.epoch,c.denom,c.depth,c.a,c.root,c.z,c.sa,c.sb,c.r,l,i,x.payee,x.time,x.number,N,mkL b k u s X A,i,l.toNat,PF⟩:Spend) (mkC_out (n:=N) (by omega)) (Ent.refl _)),Ent.refl _,trivial⟩))
theorem spanN_c (c:Coin) (l i:Int) (d:Nat) (hn:nodeB c.depth l i=true) (hd:c.depth=(d:Int)):Pure Tryz.prog gl0 130 [.int .i64 c.depth,.agg [.int .i64 l,.int .i64 i]] (.tup [.int .i64 (i.toNat*2^(d - l.toNat):Nat),.int .i64 (i.toNat*2^(d - l.toNat)+2^(d - l.toNat):Nat),.int .i64 0]):=by
 have h:=span_c c.depth l i
 obtain ⟨e1,e2,e3⟩:=span_mk hn hd
 rw [e1,e2,e3] at h
 exact h
theorem smake_c (b:Bas) (c:Coin) (u s:Int) (X:Nat→Nat→Int) (n d:Nat) (l i:Int) (x:Cxt) (hw:b.gr.W) (hn:n≤1000) (hd:secB b u s X n=true→d≤5∧n=2^d) (hr:byB c.root 32) (hp:byB x.payee 32) :
  Pure Tryz.prog gl0 62 [b.av,c.av,secA u s X n,.agg [.int .i64 l,.int .i64 i],x.av] (mkV (mkO b c u s X n d l i x) (mkE b c u s X n d l i x)):=by
 cases hs:secB b u s X n with
 | false=>exact smake_f b c u s X n l i x _ _ hw hn hs (mk_1 hs)
 | true =>
  obtain ⟨d5,rfl⟩:=hd hs
  have H:=sec_all hs
  have h:=validB_iff.1 H.v
  have ok:chalE b c l i x=0→nodeB c.depth l i=true∧ctxB x.time x.number=true:=fun e=>mkc_ok H.v e
  have dep:chalE b c l i x=0→0≤c.depth∧c.depth≤5:=fun e=>let ⟨h1,h2,_⟩:=node_t (ok e).1;⟨h1,h2⟩
  have hb:∀ j,j<2^d→byB (mkH b X j) 32:=fun j _=>leafF_by _
  obtain ⟨A,N,hAN,hg⟩:=mk_AN b c u s X d l i
  refine smake_w b c u s X (2^d) l i x A N (chalK b c l i x) (chalE b c l i x) (psJ b u s) (treF (mkH b X) d 0) (belB b c u s X d) (pthF (mkH b X) d l.toNat i.toNat) _ _ hw (l5 d5) hAN H (fun e=>by rw [mkc_k H.v (ok e)];exact mkc_q h.G) dep (fun e=>bel_ne (dep e) d5) (chall_c b c l i x hw hr hp) (cpseu_c b u s X _ hw hn hs) (cleaves_c b u s X _ hw hn hs)
   (chash_n b (2^d) (l5 d5) H.l (lfJ b X) hw H.v (fun j hj=>lf_el H.v (H.p j hj))) (troot_c d d5 (mkH b X) hb) (fun e hB=>?_) (fun e hB=>?_) (fun e=>?_) (fun e hB=>mk_3 hs (ok e) hB) (fun e hB=>?_)
  ·obtain ⟨_,_,h3,h4,h5,h6⟩:=node_t (ok e).1
   exact tpathZ_c d l i d5 ⟨h3,by rw [← bel_dep hB];exact h4⟩ ⟨h5,h6⟩ (mkH b X) hb
  ·obtain ⟨rfl,rfl⟩:=hg (ok e).1 hB
   exact spanN_c c l i d (ok e).1 (bel_dep hB)
  ·have k:=mk_2 (d:=d) hs (mkc_no H.v e).1
   exact ⟨k.1,k.2.trans (mkc_no H.v e).2.symm⟩
  ·obtain ⟨rfl,rfl⟩:=hg (ok e).1 hB
   have k:=mk_0 hs (ok e) hB
   rw [mkc_k H.v (ok e)]
   exact k
end Go.Proofs.YtolcfdcoidpieaaGreatDoor

namespace Go.Sp
open Go Go.Am

def force {α : Type} (n : Nat) (k : Nat → α) : α := match n with | 0 => k 0 | m + 1 => k (m + 1)
theorem force_eq {α : Type} (n : Nat) (k : Nat → α) : force n k = k n := by cases n <;> rfl
def nAdd (x y : Nat) : Nat := (x + y) % 4294967296
def nXor (x y : Nat) : Nat := ((x % 4294967296) ^^^ (y % 4294967296)) % 4294967296
def nAnd (x y : Nat) : Nat := ((x % 4294967296) &&& (y % 4294967296)) % 4294967296
def nRot (x n : Nat) : Nat := (((x / 2 ^ n) % 4294967296) ||| (((x * 2 ^ (32 - n)) % 4294967296) % 4294967296)) % 4294967296
theorem add_n (x y : Nat) : add32 x y = (nAdd x y : Nat) := by
  unfold add32 nAdd; rw [wu32m]; omega
theorem xor_n (x y : Nat) : xorW x y = (nXor x y : Nat) := by
  unfold xorW nXor
  rw [wu32m, BitVec.toNat_xor]
  simp [BitVec.ofInt_natCast]
theorem and_n (x y : Nat) : andW x y = (nAnd x y : Nat) := by
  unfold andW nAnd
  rw [wu32m, BitVec.toNat_and]
  simp [BitVec.ofInt_natCast]
theorem not_n (x : Nat) : notW x = (nXor 4294967295 x : Nat) := by
  have := xor_n 4294967295 x
  exact this
theorem shr_n (x n : Nat) : shrW x n = (x / 2 ^ n : Nat) := by
  unfold shrW; simp
theorem rot_n (x n : Nat) : rotr x n = (nRot x n : Nat) := by
  unfold rotr nRot
  have e1 : ((x : Int) / 2 ^ n) = ((x / 2 ^ n : Nat) : Int) := by simp
  have e2 : IntKind.wrap .u32 ((x : Int) * 2 ^ (32 - n)) = (((x * 2 ^ (32 - n)) % 4294967296 : Nat) : Int) := by rw [wu32m]; simp
  rw [e1, e2, wu32m, BitVec.toNat_or, BitVec.ofInt_natCast, BitVec.ofInt_natCast, BitVec.toNat_ofNat, BitVec.toNat_ofNat]
  exact (Int.natCast_emod _ _).symm

def be4N (b : List Nat) (i : Nat) : Nat := (((b.getD (4 * i) 0) * 256 + b.getD (4 * i + 1) 0) * 256 + b.getD (4 * i + 2) 0) * 256 + b.getD (4 * i + 3) 0
theorem be4_n {b : Nat → Int} {l : List Nat} {i : Nat} (h : ∀ k, k < 64 → b k = (l.getD k 0 : Nat)) (hi : i < 16) : be4 b i = (be4N l i : Nat) := by
  unfold be4 be4N
  simp only [preB]
  rw [h _ (by omega), h _ (by omega), h _ (by omega), h _ (by omega)]
  simp
def sg0N (x : Nat) : Nat := nXor (nXor (nRot x 7) (nRot x 18)) (x / 2 ^ 3)
def sg1N (x : Nat) : Nat := nXor (nXor (nRot x 17) (nRot x 19)) (x / 2 ^ 10)
theorem sg0_n (x : Nat) : sg0 x = (sg0N x : Nat) := by unfold sg0 sg0N; rw [rot_n, rot_n, shr_n, xor_n, xor_n]
theorem sg1_n (x : Nat) : sg1 x = (sg1N x : Nat) := by unfold sg1 sg1N; rw [rot_n, rot_n, shr_n, xor_n, xor_n]
def wordsN : Nat → List Nat → List Nat
  | 0, acc => acc
  | k + 1, acc => force (nAdd (nAdd (nAdd (acc.getD 15 0) (sg0N (acc.getD 14 0))) (acc.getD 6 0)) (sg1N (acc.getD 1 0))) fun x => wordsN k (x :: acc)
structure Wds (b : Nat → Int) (t : Nat) (acc : List Nat) : Prop where
  len : acc.length = t
  at_ : ∀ j, j < t → wordF b (t - 1 - j) = (acc.getD j 0 : Nat)
theorem Wds.next {b : Nat → Int} {t : Nat} {acc : List Nat} (h : Wds b t acc) (ht : 16 ≤ t) : Wds b (t + 1) (nAdd (nAdd (nAdd (acc.getD 15 0) (sg0N (acc.getD 14 0))) (acc.getD 6 0)) (sg1N (acc.getD 1 0)) :: acc) where
  len := by simp [h.len]
  at_ := fun j hj => by
    cases j with
    | zero =>
      show wordF b t = _
      have e15 := h.at_ 15 (by omega); have e14 := h.at_ 14 (by omega); have e6 := h.at_ 6 (by omega); have e1 := h.at_ 1 (by omega)
      rw [word_hi ht, show t - 16 = t - 1 - 15 by omega, show t - 15 = t - 1 - 14 by omega, show t - 7 = t - 1 - 6 by omega, show t - 2 = t - 1 - 1 by omega, e15, e14, e6, e1, sg0_n, sg1_n, add_n, add_n, add_n]
      rfl
    | succ j =>
      rw [show t + 1 - 1 - (j + 1) = t - 1 - j by omega]
      exact h.at_ j (by omega)
theorem Wds.all {b : Nat → Int} : ∀ (k t : Nat) (acc : List Nat), Wds b t acc → 16 ≤ t → Wds b (t + k) (wordsN k acc)
  | 0, t, acc, h, _ => h
  | k + 1, t, acc, h, ht => by
    unfold wordsN
    rw [force_eq, show t + (k + 1) = t + 1 + k by omega]
    exact Wds.all k (t + 1) _ (h.next ht) (by omega)
def w0N (l : List Nat) : List Nat := (List.range 16).map fun j => be4N l (15 - j)
theorem Wds.start {b : Nat → Int} {l : List Nat} (h : ∀ k, k < 64 → b k = (l.getD k 0 : Nat)) : Wds b 16 (w0N l) where
  len := rfl
  at_ := fun j hj => by
    rw [word_lo (by omega), be4_n h (by omega), List.getD_eq_getElem?_getD]
    unfold w0N
    rw [List.getElem?_map, List.getElem?_range hj]
    rfl

def kN : List Nat := kL.map Int.toNat
def S1N (e : Nat) : Nat := nXor (nXor (nRot e 6) (nRot e 11)) (nRot e 25)
def S0N (a : Nat) : Nat := nXor (nXor (nRot a 2) (nRot a 13)) (nRot a 22)
def chN (e f g : Nat) : Nat := nXor (nAnd e f) (nAnd (nXor 4294967295 e) g)
def majN (a b c : Nat) : Nat := nXor (nXor (nAnd a b) (nAnd a c)) (nAnd b c)
theorem S1_n (x : Nat) : S1 x = (S1N x : Nat) := by unfold S1 S1N; rw [rot_n, rot_n, rot_n, xor_n, xor_n]
theorem S0_n (x : Nat) : S0 x = (S0N x : Nat) := by unfold S0 S0N; rw [rot_n, rot_n, rot_n, xor_n, xor_n]
theorem ch_n (e f g : Nat) : chF e f g = (chN e f g : Nat) := by unfold chF chN; rw [and_n, not_n, and_n, xor_n]
theorem maj_n (a b c : Nat) : majF a b c = (majN a b c : Nat) := by unfold majF majN; rw [and_n, and_n, and_n, xor_n, xor_n]
def rndN : List Nat → List Nat → Nat → Nat → Nat → Nat → Nat → Nat → Nat → Nat → List Nat
  | k :: ks, w :: ws, a, b, c, d, e, f, g, h =>
    force (nAdd (nAdd (nAdd (nAdd h (S1N e)) (chN e f g)) k) w) fun x => force (nAdd x (nAdd (S0N a) (majN a b c))) fun a' => force (nAdd d x) fun e' => rndN ks ws a' a b c e' e f g
  | _, _, a, b, c, d, e, f, g, h => [a, b, c, d, e, f, g, h]
theorem rnd_n {s w : Nat → Int} : ∀ (m t : Nat) (ks ws : List Nat) (a b c d e f g h : Nat), ks.length = m → ws.length = m → (∀ j, j < m → kF (t + j) = (ks.getD j 0 : Nat)) → (∀ j, j < m → w (t + j) = (ws.getD j 0 : Nat)) →
    roundF s w t 0 = a → roundF s w t 1 = b → roundF s w t 2 = c → roundF s w t 3 = d → roundF s w t 4 = e → roundF s w t 5 = f → roundF s w t 6 = g → roundF s w t 7 = h →
    ∀ i, i < 8 → roundF s w (t + m) i = ((rndN ks ws a b c d e f g h).getD i 0 : Nat)
  | 0, t, [], [], a, b, c, d, e, f, g, h, _, _, _, _, h0, h1, h2, h3, h4, h5, h6, h7, i, hi => by
    show roundF s w t i = (([a, b, c, d, e, f, g, h] : List Nat).getD i 0 : Nat)
    match i, hi with
    | 0, _ => exact h0
    | 1, _ => exact h1
    | 2, _ => exact h2
    | 3, _ => exact h3
    | 4, _ => exact h4
    | 5, _ => exact h5
    | 6, _ => exact h6
    | 7, _ => exact h7
  | m + 1, t, k :: ks, x :: ws, a, b, c, d, e, f, g, h, hk, hw, hkf, hwf, h0, h1, h2, h3, h4, h5, h6, h7, i, hi => by
    have ek : kF t = (k : Nat) := hkf 0 (by omega)
    have ew : w t = (x : Nat) := hwf 0 (by omega)
    have ex : rX (roundF s w t) w t = (nAdd (nAdd (nAdd (nAdd h (S1N e)) (chN e f g)) k) x : Nat) := by
      unfold rX
      rw [h7, h4, h5, h6, ek, ew, S1_n, ch_n, add_n, add_n, add_n, add_n]
    have ey : rY (roundF s w t) = (nAdd (S0N a) (majN a b c) : Nat) := by
      unfold rY
      rw [h0, h1, h2, S0_n, maj_n, add_n]
    unfold rndN
    rw [force_eq, force_eq, force_eq, show t + (m + 1) = t + 1 + m by omega]
    refine rnd_n m (t + 1) ks ws _ _ _ _ _ _ _ _ (by simpa using hk) (by simpa using hw) (fun j hj => ?_) (fun j hj => ?_) ?_ ?_ ?_ ?_ ?_ ?_ ?_ ?_ i hi
    · rw [show t + 1 + j = t + (j + 1) by omega]; exact hkf (j + 1) (by omega)
    · rw [show t + 1 + j = t + (j + 1) by omega]; exact hwf (j + 1) (by omega)
    · show add32 (rX (roundF s w t) w t) (rY (roundF s w t)) = _
      rw [ex, ey, add_n]
    · exact h0
    · exact h1
    · exact h2
    · show add32 (roundF s w t 3) (rX (roundF s w t) w t) = _
      rw [ex, h3, add_n]
    · exact h4
    · exact h5
    · exact h6
def mixN (st l : List Nat) : List Nat :=
  let r := rndN kN (wordsN 48 (w0N l)).reverse (st.getD 0 0) (st.getD 1 0) (st.getD 2 0) (st.getD 3 0) (st.getD 4 0) (st.getD 5 0) (st.getD 6 0) (st.getD 7 0)
  (List.range 8).map fun i => nAdd (st.getD i 0) (r.getD i 0)
theorem mix_n {s b : Nat → Int} {st l : List Nat} (hs : ∀ i, i < 8 → s i = (st.getD i 0 : Nat)) (hb : ∀ k, k < 64 → b k = (l.getD k 0 : Nat)) (i : Nat) (hi : i < 8) : mixF s b i = ((mixN st l).getD i 0 : Nat) := by
  have hw := Wds.all 48 16 _ (Wds.start hb) (by omega)
  have hk : ∀ j, j < 64 → kF (0 + j) = (kN.getD j 0 : Nat) := by decide +kernel
  have hr := rnd_n (s := s) (w := wordF b) 64 0 kN (wordsN 48 (w0N l)).reverse _ _ _ _ _ _ _ _ rfl (by rw [List.length_reverse, hw.len]) hk (fun j hj => by
    have hl := hw.len
    rw [List.getD_eq_getElem?_getD, List.getElem?_reverse (by omega), ← List.getD_eq_getElem?_getD, ← hw.at_ _ (by omega)]
    congr 1
    omega) (hs 0 (by omega)) (hs 1 (by omega)) (hs 2 (by omega)) (hs 3 (by omega)) (hs 4 (by omega)) (hs 5 (by omega)) (hs 6 (by omega)) (hs 7 (by omega)) i hi
  unfold mixF
  have e : roundF s (wordF b) 64 i = roundF s (wordF b) (0 + 64) i := rfl
  rw [e, hr, hs i hi, add_n]
  unfold mixN
  rw [List.getD_eq_getElem?_getD (l := List.map _ _), List.getElem?_map, List.getElem?_range hi]
  rfl
def stN : Nat → List Nat → List Nat → List Nat
  | 0, _, st => st
  | k + 1, l, st => stN k (l.drop 64) (mixN st (l.take 64))
theorem st_n {p : Nat → Int} : ∀ (m k : Nat) (l st : List Nat), (∀ i, i < 8 → stateF p k i = (st.getD i 0 : Nat)) → (∀ i, i < 64 * m → p (64 * k + i) = (l.getD i 0 : Nat)) → ∀ i, i < 8 → stateF p (k + m) i = ((stN m l st).getD i 0 : Nat)
  | 0, k, l, st, hs, _, i, hi => hs i hi
  | m + 1, k, l, st, hs, hp, i, hi => by
    unfold stN
    rw [show k + (m + 1) = k + 1 + m by omega]
    refine st_n m (k + 1) _ _ (fun i hi => ?_) (fun i hi' => ?_) i hi
    · show mixF (stateF p k) (fun i => p (64 * k + i)) i = _
      refine mix_n hs (fun q hq => ?_) i hi
      rw [hp q (by omega), List.getD_eq_getElem?_getD, List.getD_eq_getElem?_getD, List.getElem?_take_of_lt hq]
    · rw [show 64 * (k + 1) + i = 64 * k + (64 + i) by omega, hp (64 + i) (by omega), List.getD_eq_getElem?_getD, List.getD_eq_getElem?_getD, List.getElem?_drop]
def be8N (n i : Nat) : Nat := n / 2 ^ (56 - 8 * i) % 256
def padN (l : List Nat) : List Nat := l ++ (128 :: (List.replicate (padLen l.length - 9 - l.length) 0 ++ (List.range 8).map (be8N (8 * l.length))))
theorem padN_at {l : List Nat} {f : Nat → Int} (hf : ∀ i, i < l.length → f i = (l.getD i 0 : Nat)) (i : Nat) (hi : i < padLen l.length) : padF l.length f i = ((padN l).getD i 0 : Nat) := by
  have hp := pad_len l.length
  unfold padF padN
  by_cases h : i < padLen l.length - 8
  · rw [blt_t h]
    show pad0 l.length f i = _
    unfold pad0
    by_cases h1 : i < l.length
    · rw [blt_t h1]
      show f i = _
      rw [hf i h1, List.getD_eq_getElem?_getD, List.getD_eq_getElem?_getD, List.getElem?_append_left h1]
    · rw [blt_f (by omega), List.getD_eq_getElem?_getD, List.getElem?_append_right (by omega)]
      by_cases h2 : i = l.length
      · subst h2
        rw [Nat.beq_refl, Nat.sub_self]
        rfl
      · rw [beq_f h2]
        obtain ⟨q, hq⟩ : ∃ q, i - l.length = q + 1 := ⟨i - l.length - 1, by omega⟩
        rw [hq, List.getElem?_cons_succ, List.getElem?_append_left (by rw [List.length_replicate]; omega), List.getElem?_replicate, if_pos (by omega)]
        rfl
  · rw [blt_f (by omega), List.getD_eq_getElem?_getD, List.getElem?_append_right (by omega)]
    obtain ⟨q, hq⟩ : ∃ q, i - l.length = q + 1 := ⟨i - l.length - 1, by omega⟩
    rw [hq, List.getElem?_cons_succ, List.getElem?_append_right (by rw [List.length_replicate]; omega), List.length_replicate, List.getElem?_map, List.getElem?_range (by omega)]
    show be8 _ _ = ((be8N _ _ : Nat) : Int)
    unfold be8 be8N
    rw [show i - (padLen l.length - 8) = q - (padLen l.length - 9 - l.length) by omega]
    simp
def outN (st : List Nat) : List Nat := (List.range 32).map fun j => (st.getD (j / 4) 0) / 2 ^ (24 - 8 * (j % 4)) % 256
def stN0 : List Nat := stL.map Int.toNat
def shaN (l : List Nat) : List Nat := outN (stN (padLen l.length / 64) (padN l) stN0)
theorem sha_n {l : List Nat} {f : Nat → Int} (hf : ∀ i, i < l.length → f i = (l.getD i 0 : Nat)) (i : Nat) (hi : i < 32) : shaF l.length f i = ((shaN l).getD i 0 : Nat) := by
  have hp := pad_len l.length
  have h := st_n (p := padF l.length f) (padLen l.length / 64) 0 (padN l) stN0 (fun i hi => by
    show stF i = _
    have : ∀ i, i < 8 → stF i = (stN0.getD i 0 : Nat) := by decide +kernel
    exact this i hi) (fun i hi => by
    rw [Nat.mul_zero, Nat.zero_add]
    exact padN_at hf i (by omega))
  unfold shaF outF shaN outN
  rw [← Nat.zero_add (padLen l.length / 64), h (i / 4) (by omega), Nat.zero_add, List.getD_eq_getElem?_getD (l := List.map _ _), List.getElem?_map, List.getElem?_range hi]
  simp
end Go.Sp

namespace Go.Sp
open Go Go.Am
def leafP (s : Spend) (k : Nat) : List Int := (List.range k).flatMap fun i => [s.lf i 0, s.lf i 1, s.lf i 2]
def pathC (s : Spend) (i : Nat) : It := match i with | 0 => .int s.pidx | j + 1 => .byt 32 (s.pf j)
def Spend.pathI (s : Spend) : It := .li (s.np + 1) (pathC s)
def Spend.it (s : Spend) : It := lsI [s.coin.it, intsI [s.level, s.index], .byt 32 s.payee, intsI [s.time, s.number], intsI (leafP s s.nl), s.pathI]
def Spend.dig (s : Spend) : Nat → Int := tagI "specie/spend-item".toUTF8 s.it
theorem leafP_succ (s : Spend) (k : Nat) : leafP s (k + 1) = leafP s k ++ [s.lf k 0, s.lf k 1, s.lf k 2] := by simp [leafP, List.range_succ]
theorem leafP_len (s : Spend) : ∀ k, (leafP s k).length = 3 * k
  | 0 => rfl
  | k + 1 => by rw [leafP_succ, List.length_append, leafP_len s k]; simp; omega
def hashI (n : Nat) (F : Nat → Nat → Int) : It := .li n fun i => .byt 32 (F i)
def two (f g : Nat → Int) (i : Nat) : Nat → Int := match i with | 0 => f | _ => g
def nameF (c : Coin) (h : Nat → Int) : Nat → Int := tagI "specie/chain-next".toUTF8 (hashI 2 (two c.dig h))
def chainF (S : Nat → Spend) (n : Nat) : Nat → Int := if n = 0 then fun _ => 0 else tagI "specie/chain".toUTF8 (hashI n fun i => (S i).dig)
theorem leaf3_ob {os : List (Option Ob)} {s : Spend} {k : Nat} {mu : Bool} {X : List (List AV)} (hX : X = [[.int .i64 (s.lf k 0)], [.int .i64 (s.lf k 1)], [.int .i64 (s.lf k 2)]]) :
    ObEnt os ⟨1, (leafP s k).length + 3, mu, .fn fun i j => .int .i64 (bif Nat.blt i (leafP s k).length then (leafP s k).getD i 0 else intOfAV (atL (X.getD (i - (leafP s k).length) []) j))⟩ ⟨1, (leafP s (k + 1)).length, mu, .fn (ilF .i64 (leafP s (k + 1)))⟩ := by
  subst hX
  refine ⟨rfl, (by show (leafP s k).length + 3 = (leafP s (k + 1)).length; rw [leafP_len, leafP_len]; omega), rfl, fun i j hi hj => Ent.of_eq ?_⟩
  obtain rfl : j = 0 := Nat.lt_one_iff.1 hj
  have hi : i < (leafP s k).length + 3 := hi
  show AV.int .i64 (bif Nat.blt i (leafP s k).length then (leafP s k).getD i 0 else intOfAV (atL (List.getD _ (i - (leafP s k).length) []) 0)) = .int .i64 ((leafP s (k + 1)).getD i 0)
  rw [leafP_succ, getD_app]
  by_cases h : i < (leafP s k).length
  · rw [blt_t h]; rfl
  · rw [blt_f (by omega)]
    obtain ⟨q, hq⟩ : ∃ q, i - (leafP s k).length = q := ⟨_, rfl⟩
    have hq3 : q < 3 := by omega
    rw [hq]
    match q, hq3 with
    | 0, _ => rfl
    | 1, _ => rfl
    | 2, _ => rfl
theorem path_push {os : List (Option Ob)} {s : Spend} {k n : Nat} {mu : Bool} {x : List AV} (hn : n = k + 1 + 1) (h : EntL os x (It.byt 32 (s.pf k)).cells) :
    ObEnt os ⟨4, k + 1 + 1, mu, .cat (k + 1) (.row fun i => (pathC s i).cells) (.lst [x])⟩ ⟨4, n, mu, .row fun i => (pathC s i).cells⟩ :=
  ObEnt.catRow (c := fun i => (pathC s i).cells) (c' := fun i => (pathC s i).cells) hn (fun _ _ => EntL.refl _) h
theorem path_start {os : List (Option Ob)} {s : Spend} {mu : Bool} : ObEnt os ⟨4, 1, mu, .lst [[.int .i64 1, .int .i64 s.pidx, .nsl, .nsl]]⟩ ⟨4, 0 + 1, mu, .row fun i => (pathC s i).cells⟩ :=
  ⟨rfl, rfl, rfl, fun i j hi _ => by
    obtain rfl : i = 0 := Nat.lt_one_iff.1 hi
    exact Ent.atL (int_row rfl) j⟩
theorem liD_ok {n : Nat} {c : Nat → It} {d : Int} (hd : 0 < d) (hn : n ≤ 1000) (h : ∀ i, i < n → (c i).okD (d - 1) = true) : (It.li n c).okD d = true := by
  simp only [It.okD, Bool.and_eq_true, decide_eq_true_eq, List.all_eq_true, List.mem_range, Nat.ble_eq]
  exact ⟨⟨hd, hn⟩, h⟩
theorem lsI_ok {L : List It} {d : Int} (hd : 0 < d) (hn : L.length ≤ 1000) (h : ∀ x, x ∈ L → x.okD (d - 1) = true) : (lsI L).okD d = true := liD_ok hd hn fun i hi => by
  rw [show L.getD i (.int 0) = L[i] by simp [List.getD_eq_getElem?_getD, hi]]
  exact h _ (List.getElem_mem hi)
theorem intsI_ok {l : List Int} {d : Int} (hd : 0 < d) (hn : l.length ≤ 1000) : (intsI l).okD d = true := liD_ok hd hn fun _ _ => rfl
structure Spend.Sm (s : Spend) : Prop where
  by_ : s.By
  path : ∀ j, j < s.np → byB (s.pf j) 32
  nl : s.nl ≤ 40
  np : s.np ≤ 20
theorem coin_ok7 (c : Coin) : c.it.okD 7 = true := lsI_ok (by decide) (by simp) fun x hx => by
  simp only [List.mem_cons, List.not_mem_nil, or_false] at hx
  rcases hx with e | e | e
  · exact e ▸ intsI_ok (by decide) (by simp)
  · exact e ▸ rfl
  · exact e ▸ intsI_ok (by decide) (by simp)
theorem Spend.it_ok {s : Spend} (h : s.Sm) : s.it.okD 8 = true := lsI_ok (by decide) (by simp) fun x hx => by
  have h1 := h.nl; have h2 := h.np
  simp only [List.mem_cons, List.not_mem_nil, or_false] at hx
  rcases hx with e | e | e | e | e | e
  · exact e ▸ coin_ok7 _
  · exact e ▸ intsI_ok (by decide) (by simp)
  · exact e ▸ rfl
  · exact e ▸ intsI_ok (by decide) (by simp)
  · exact e ▸ intsI_ok (by decide) (by rw [leafP_len]; omega)
  · exact e ▸ liD_ok (by decide) (by omega) fun i _ => by cases i <;> rfl
theorem path_lenP (s : Spend) : ∀ k, (It.encP (s.np + 1) (pathC s) (k + 1)).length = 14 + 37 * k
  | 0 => by rw [It.encP_succ, It.encP_zero, List.length_append]; show _ + (It.int s.pidx).enc.length = _; rw [int_len]; simp [nbL_len]
  | k + 1 => by rw [It.encP_succ, List.length_append, path_lenP s k]; show _ + (It.byt 32 (s.pf k)).enc.length = _; rw [byt_len]; omega
theorem li6_len {a b c d e f : It} : (lsI [a, b, c, d, e, f]).enc.length = 5 + a.enc.length + b.enc.length + c.enc.length + d.enc.length + e.enc.length + f.enc.length := by
  show (It.encP 6 _ (0 + 1 + 1 + 1 + 1 + 1 + 1)).length = _
  rw [It.encP_succ, It.encP_succ, It.encP_succ, It.encP_succ, It.encP_succ, It.encP_succ, It.encP_zero]
  simp [nbL_len]; omega
theorem Spend.it_len {s : Spend} (h : s.Sm) : s.it.enc.length ≤ 16384 := by
  have h1 := h.nl; have h2 := h.np
  have hp : s.pathI.enc.length = 14 + 37 * s.np := path_lenP s s.np
  unfold Spend.it
  rw [li6_len, intsI_len, intsI_len, intsI_len, byt_len, hp, leafP_len, Coin.it_len]
  simp
  omega
theorem Spend.it_okB {s : Spend} (h : s.Sm) : s.it.okB := lsI_okB fun x hx => by
  simp only [List.mem_cons, List.not_mem_nil, or_false] at hx
  rcases hx with e | e | e | e | e | e
  · exact e ▸ Coin.it_okB h.by_.root
  · exact e ▸ intsI_okB _
  · exact e ▸ h.by_.payee
  · exact e ▸ intsI_okB _
  · exact e ▸ intsI_okB _
  · refine e ▸ ?_
    intro i hi
    cases i with
    | zero => trivial
    | succ j => exact h.path j (by omega)
theorem hash_ok {n : Nat} {F : Nat → Nat → Int} (h : n ≤ 1000) : (hashI n F).okD 8 = true := liD_ok (by decide) h fun _ _ => rfl
theorem hash_lenP (F : Nat → Nat → Int) (m : Nat) : ∀ k, (It.encP m (fun i => It.byt 32 (F i)) k).length = 5 + 37 * k
  | 0 => by rw [It.encP_zero]; simp [nbL_len]
  | k + 1 => by rw [It.encP_succ, List.length_append, hash_lenP F m k, byt_len]; omega
theorem hash_len (n : Nat) (F : Nat → Nat → Int) : (hashI n F).enc.length = 5 + 37 * n := hash_lenP F _ _
theorem hash_okB {n : Nat} {F : Nat → Nat → Int} (h : ∀ i, i < n → byB (F i) 32) : (hashI n F).okB := h
def hsN (n : Nat) (F : Nat → Nat → Int) : AV := .isl 32 n fun i j => .int .u8 (F i j)
def hI (F : Nat → Nat → Int) (i : Nat) : It := .byt 32 (F i)
theorem hash_push {os : List (Option Ob)} {F : Nat → Nat → Int} {k n : Nat} {mu : Bool} {g : Nat → Nat → Int} (hn : n = k + 1) (h : ∀ i, i < 32 → g i 0 = F k i) :
    ObEnt os ⟨4, k + 1, mu, .cat k (.row fun i => (hI F i).cells) (.lst [[.int .i64 2, .int .i64 0, .isl 1 32 fun i j => .int .u8 (g i j), .nsl]])⟩ ⟨4, n, mu, .row fun i => (hI F i).cells⟩ :=
  ObEnt.catRow (c := fun i => (hI F i).cells) (c' := fun i => (hI F i).cells) hn (fun _ _ => EntL.refl _) ⟨Ent.refl _, Ent.refl _, bys_eq (g := fun i _ => F k i) rfl h, Ent.nsl, trivial⟩
theorem hash_arg {os : List (Option Ob)} {F : Nat → Nat → Int} {m n : Nat} (hn : m = n) : EntL os [.agg [.int .i64 3, .int .i64 0, .nsl, .isl 4 m fun r k => atL (hI F r).cells k]] [(hashI n F).av] := by
  subst hn
  exact ⟨Ent.agg ⟨Ent.refl _, Ent.refl _, Ent.nsl, Ent.refl _, trivial⟩, trivial⟩
end Go.Sp
namespace Go.Sp
open Go Go.Am
def chnS (h : Chn) (i : Nat) : Spend := match i with | 0 => h.first | j + 1 => h.l j
theorem u8_rows {os : List (Option Ob)} {n m : Nat} {F : Nat → Nat → Int} (hn : m = n) : Ent os (.isl 32 m fun r k => atL (u8c (F r)) k) (hsN n F) := by
  subst hn
  exact Ent.rows fun i _ => rfl
theorem two_rows {os : List (Option Ob)} {f g : Nat → Int} : Ent os (.isl 32 2 fun r k => atL (List.getD [u8c f, u8c g] r []) k) (hsN 2 (two f g)) := Ent.rows fun i hi => match i, hi with
  | 0, _ => rfl
  | 1, _ => rfl
theorem two_by {f g : Nat → Int} (hf : byB f 32) (hg : byB g 32) : ∀ i, i < 2 → byB (two f g i) 32 := fun i hi => match i, hi with
  | 0, _ => hf
  | 1, _ => hg
theorem Spend.dig_by (s : Spend) : byB s.dig 32 := fun i _ => sha_by _ _ i
end Go.Sp
namespace Go.Sp
open Go Go.Am
theorem chainF_0 {S : Nat → Spend} {n : Nat} (h : n = 0) : chainF S n = fun _ => 0 := if_pos h
theorem chainF_1 {S : Nat → Spend} {n : Nat} (h : ¬ n = 0) : chainF S n = tagI "specie/chain".toUTF8 (hashI n fun i => (S i).dig) := if_neg h
theorem spends_e {h : Chn} (i j : Nat) : mixA (Nat.blt (i + 0) 1) (atL (List.getD [Spend.cells h.first] (i + 0) []) j) (atL (Spend.cells (h.l (i + 0 - 1))) j) = atL (chnS h i).cells j := by
  cases i with
  | zero =>
    show mixA true _ _ = _
    rw [mixA_tt]
    rfl
  | succ i =>
    show mixA false _ _ = _
    rw [mixA_ff]
    rfl
end Go.Sp
namespace Go.Sp
open Go Go.Am
def chnD (h : Chn) : Nat → Int := if h.n > 8 then fun _ => 0 else chainF (chnS h) (h.n + 1)
def ccOk (b : Bas) (t n : Int) : Bool := validB b && ctxB t n
def ccE (b : Bas) (t n : Int) : Int := bif validB b then (bif ctxB t n then 0 else 2) else 1
def ccX (b : Bas) (c : Coin) (f : Nat → Int) (t n : Int) : Cxt := if ccOk b t n = true then ⟨nameF c f, t, n⟩ else ⟨fun _ => 0, 0, 0⟩
theorem cc_1 {b : Bas} {c : Coin} {f : Nat → Int} {t n : Int} (h : validB b = false) : ccX b c f t n = ⟨fun _ => 0, 0, 0⟩ ∧ ccE b t n = 1 := by
  unfold ccX ccE ccOk; rw [h]; exact ⟨rfl, rfl⟩
theorem cc_2 {b : Bas} {c : Coin} {f : Nat → Int} {t n : Int} (h : validB b = true) (h' : ctxB t n = false) : ccX b c f t n = ⟨fun _ => 0, 0, 0⟩ ∧ ccE b t n = 2 := by
  unfold ccX ccE ccOk; rw [h, h']; exact ⟨rfl, rfl⟩
theorem cc_0 {b : Bas} {c : Coin} {f : Nat → Int} {t n : Int} (h : validB b = true) (h' : ctxB t n = true) : ccX b c f t n = ⟨nameF c f, t, n⟩ ∧ ccE b t n = 0 := by
  unfold ccX ccE ccOk; rw [h, h']; exact ⟨rfl, rfl⟩
def recB (R : Nat → Nat → Int) (k e d : Int) (i : Nat) : Bool := R i 0 == k && R i 1 == e && R i 2 == d
def recF (R : Nat → Nat → Int) (n : Nat) (c : Coin) : Int := firstI (recB R c.bank c.epoch c.denom) n 0
def recs (n : Nat) (R : Nat → Nat → Int) : AV := .isl 11 n fun i j => .int .i64 (R i j)
end Go.Sp
namespace Go.Sp
open Go Go.Am
theorem chnD_1 {h : Chn} (hn : h.n > 8) : chnD h = fun _ => 0 := if_pos hn
theorem chnD_0 {h : Chn} (hn : ¬ h.n > 8) : chnD h = chainF (chnS h) (h.n + 1) := if_neg hn
theorem ctx_no2 {t n : Int} (h : ¬ (0 ≤ t ∧ t ≤ 1099511627776 ∧ 0 ≤ n ∧ n ≤ 1073741824)) : ctxB t n = false := by
  unfold ctxB
  simp; omega
theorem ctx_yes2 {t n : Int} (h : 0 ≤ t ∧ t ≤ 1099511627776 ∧ 0 ≤ n ∧ n ≤ 1073741824) : ctxB t n = true := by
  unfold ctxB
  simp; omega
end Go.Sp
namespace Go.Sp
open Go Go.Am
def recC (R : Nat → Nat → Int) (n : Nat) (c : Coin) (j : Nat) : Int := if recF R n c ≥ 0 then R (recF R n c).toNat j else 0
def recA (R : Nat → Nat → Int) (n : Nat) (c : Coin) : AV := .agg [.int .i64 (recC R n c 0), .int .i64 (recC R n c 1), .int .i64 (recC R n c 2), .int .i64 (recC R n c 3), .int .i64 (recC R n c 4), .int .i64 (recC R n c 5), .int .i64 (recC R n c 6), .int .i64 (recC R n c 7), .int .i64 (recC R n c 8), .int .i64 (recC R n c 9), .int .i64 (recC R n c 10)]
theorem recC_no {R : Nat → Nat → Int} {n : Nat} {c : Coin} (h : recF R n c < 0) (j : Nat) : recC R n c j = 0 := if_neg (by omega)
theorem recC_yes {R : Nat → Nat → Int} {n : Nat} {c : Coin} (h : ¬ recF R n c < 0) (j : Nat) : recC R n c j = R (recF R n c).toNat j := if_pos (by omega)
theorem recF_lt (R : Nat → Nat → Int) (n : Nat) (c : Coin) : recF R n c < n := by
  have := firstI_lt (p := recB R c.bank c.epoch c.denom) n 0
  unfold recF
  omega
def caV (R : Nat → Nat → Int) (n : Nat) (s : Spend) : Int := if recF R n s.coin ≥ 0 then amV (recC R n s.coin 3) (recC R n s.coin 4) s.level s.index else 0
def caE (R : Nat → Nat → Int) (n : Nat) (s : Spend) : Int := if recF R n s.coin ≥ 0 then amE (recC R n s.coin 3) (recC R n s.coin 4) s.level s.index else 18
end Go.Sp
namespace Go.Sp
open Go Go.Am
theorem recA_no {R : Nat → Nat → Int} {n : Nat} {c : Coin} (h : recF R n c < 0) : recA R n c = .agg [.int .i64 0, .int .i64 0, .int .i64 0, .int .i64 0, .int .i64 0, .int .i64 0, .int .i64 0, .int .i64 0, .int .i64 0, .int .i64 0, .int .i64 0] := by
  unfold recA
  simp only [recC_no h]
theorem recA_yes {R : Nat → Nat → Int} {n : Nat} {c : Coin} (h : ¬ recF R n c < 0) : recA R n c = .agg [.int .i64 (R (recF R n c).toNat 0), .int .i64 (R (recF R n c).toNat 1), .int .i64 (R (recF R n c).toNat 2), .int .i64 (R (recF R n c).toNat 3), .int .i64 (R (recF R n c).toNat 4), .int .i64 (R (recF R n c).toNat 5), .int .i64 (R (recF R n c).toNat 6), .int .i64 (R (recF R n c).toNat 7), .int .i64 (R (recF R n c).toNat 8), .int .i64 (R (recF R n c).toNat 9), .int .i64 (R (recF R n c).toNat 10)] := by
  unfold recA
  simp only [recC_yes h]
end Go.Sp
namespace Go.Sp
open Go Go.Am
def exB35 : Bas := ⟨⟨23, 11, 4⟩, 2, 3, 9⟩
theorem exB35_ok : validB exB35 = true := by decide +kernel
theorem exB35_w : exB35.gr.W := ⟨by decide, by decide⟩
def cA (a : Int) : Coin := ⟨0, 0, 0, 0, a, fun _ => 0, 0, 0, 0, 0⟩
end Go.Sp

namespace Go.Proofs.YtolcfdcoidpieaaGreatDoor
open Go Go.Am Go.Sp
set_option maxRecDepth 100000
theorem list6 (a b c d e f:It):Pure Tryz.prog gl0 141 [.isl 4 6 fun r k=>atL (List.getD [a.cells,b.cells,c.cells,d.cells,e.cells,f.cells] r []) k] (lsI [a,b,c,d,e,f]).av :=
 (list_c 6 _).ent (li_out (L:=[a,b,c,d,e,f]) rfl fun i hi=>match i,hi with
  | 0,_|1,_|2,_|3,_|4,_|5,_=>EntL.refl _)
theorem list_p (n:Nat) (c:Nat→It):Pure Tryz.prog gl0 141 [It.sl n c] (It.li n c).av:=(list_c n _).ent (Ent.agg ⟨Ent.refl _,Ent.refl _,Ent.nsl,Ent.refl _,trivial⟩)
theorem sitem_w (s:Spend) (hs:s.nl≤1000) (hp:s.np≤1000):Pure Tryz.prog gl0 198 [s.av] s.it.av:=by
 have c1:=citem_w s.coin
 have c2:=ints_2
 have c3:=bytes_c
 have c4:=fun k h=>ints_c (leafP s k) h
 have c5:=fun n=>list_p n (pathC s)
 have c6:=fun k n=>list6 s.coin.it (intsI [s.level,s.index]) (.byt 32 s.payee) (intsI [s.time,s.number]) (intsI (leafP s k)) (.li n (pathC s))
 refine pure_sk (own:=ow0) Tryz.func198 (by kernel_rfl) mixed (by kernel_rfl)
  (let y0:List AV:=[Zi 0,Zi 0,AV.nsl,AV.nsl];(.loop ({ x:Nat // x≤Spend.nl s }) (fun (x:{ x:Nat // x≤Spend.nl s })=>mkSt [1,2,10,11,12,3] [AV.own 0 80 0 0 80,AV.own 1 4 0 0 4,AV.isl 3 s.16 fun (i j:Nat)=>Zi (s.17 i j),Zi (↑s.16:Int),Zi (↑(x.1):Int),AV.osl 2 1 0 (List.length (leafP s (x.1)))] [some ⟨80,1,true,Rep.lst [Spend.cells s]⟩,some ⟨4,1,true,Rep.lst [y0]⟩,ilO IntKind.i64 (leafP s (x.1))]) (fun (x:{ x:Nat // x≤Spend.nl s })=>Spend.nl s - x.1) (⟨0,Nat.zero_le (Spend.nl s)⟩) ([1,2,10,11,12,3]) ([0,8,314]) ([AV.own 0 80 0 0 80,AV.own 1 4 0 0 4,AV.isl 3 s.16 fun (i j:Nat)=>Zi (s.17 i j),Zi (↑s.16:Int),Zi 0,AV.nsl]) ([some ⟨80,1,true,Rep.lst [Spend.cells s]⟩,some ⟨4,1,true,Rep.lst [y0]⟩,some ⟨1,0,true,Rep.lst []⟩]) (fun x0=>(.br (decide ((↑x0.1:Int)<(↑s.16:Int))) (.req ((0:Int)≤(↑x0.1:Int)∧(↑x0.1:Int)<(↑s.16:Int)) (.req ((List.length (leafP s (x0.1))+3)*8≤140737488355328) (.again (Again 0 (fun (x:{ x:Nat // x≤Spend.nl s })=>mkSt [1,2,10,11,12,3] [AV.own 0 80 0 0 80,AV.own 1 4 0 0 4,AV.isl 3 s.16 fun (i j:Nat)=>Zi (s.17 i j),Zi (↑s.16:Int),Zi (↑(x.1):Int),AV.osl 2 1 0 (List.length (leafP s (x.1)))] [some ⟨80,1,true,Rep.lst [Spend.cells s]⟩,some ⟨4,1,true,Rep.lst [y0]⟩,ilO IntKind.i64 (leafP s (x.1))]) (fun (x:{ x:Nat // x≤Spend.nl s })=>Spend.nl s - x.1) x0) ([1,2,10,11,12,3]) ([0,1,107]) ([AV.own 0 80 0 0 80,AV.own 1 4 0 0 4,AV.isl 3 s.16 fun (i j:Nat)=>Zi (s.17 i j),Zi (↑s.16:Int),Zi (IntKind.wrap IntKind.i64 ((↑x0.1:Int)+1)),AV.osl 2 1 0 (List.length (leafP s (x0.1))+3)]) ([some ⟨80,1,true,Rep.lst [Spend.cells s]⟩,some ⟨4,1,true,Rep.lst [y0]⟩,some ⟨1,List.length (leafP s (x0.1))+3,true,Rep.fn fun (i j:Nat)=>Zi (bif Nat.blt i (List.length (leafP s (x0.1))) then List.getD (leafP s (x0.1)) i (0:Int) else intOfAV (atL (List.getD [[Zi (s.17 (Int.toNat (↑(x0.1):Int)) 0)],[Zi (s.17 (Int.toNat (↑(x0.1):Int)) 1)],[Zi (s.17 (Int.toNat (↑(x0.1):Int)) 2)]] (i - List.length (leafP s (x0.1))) []) j))⟩])))) (.loop ({ x:Nat // x≤Spend.np s }) (fun (x:{ x:Nat // x≤Spend.np s })=>mkSt [1,2,3,33,34,35,6] [AV.own 0 80 0 0 80,AV.own 1 4 0 0 4,AV.osl 2 1 0 (List.length (leafP s (x0.1))),AV.isl 32 s.19 fun (i j:Nat)=>Zb (s.20 i j),Zi (↑s.19:Int),Zi (↑(x.1):Int),AV.osl 3 4 0 (x.1+1)] [some ⟨80,1,true,Rep.lst [Spend.cells s]⟩,some ⟨4,1,true,Rep.lst [y0]⟩,some ⟨1,List.length (leafP s (x0.1)),true,Rep.fn fun (i j:Nat)=>Zi (List.getD (leafP s (x0.1)) i (0:Int))⟩,some ⟨4,x.1+1,true,Rep.row fun (i:Nat)=>It.cells (pathC s i)⟩]) (fun (x:{ x:Nat // x≤Spend.np s })=>Spend.np s - x.1) (⟨0,Nat.zero_le (Spend.np s)⟩) ([1,2,3,33,34,35,6]) ([0,1,2,43]) ([AV.own 0 80 0 0 80,AV.own 1 4 0 0 4,AV.osl 2 1 0 (List.length (leafP s (x0.1))),AV.isl 32 s.19 fun (i j:Nat)=>Zb (s.20 i j),Zi (↑s.19:Int),Zi 0,AV.osl 3 4 0 1]) ([some ⟨80,1,true,Rep.lst [Spend.cells s]⟩,some ⟨4,1,true,Rep.lst [y0]⟩,some ⟨1,List.length (leafP s (x0.1)),true,Rep.fn fun (i j:Nat)=>Zi (List.getD (leafP s (x0.1)) i (0:Int))⟩,some ⟨4,1,true,Rep.lst [[Zi 1,Zi (Spend.pidx s),AV.nsl,AV.nsl]]⟩]) (fun x5=>(.br (decide ((↑x5.1:Int)<(↑s.19:Int))) (.req ((0:Int)≤(↑x5.1:Int)∧(↑x5.1:Int)<(↑s.19:Int)) (.dc (true) 142 ([AV.agg (u8c (s.20 (Int.toNat (↑x5.1:Int))))]) (It.av (It.byt 32 (s.20 (Int.toNat (↑x5.1:Int))))) (.req ((x5.1+1+1)*64≤140737488355328) (.again (Again 0 (fun (x:{ x:Nat // x≤Spend.np s })=>mkSt [1,2,3,33,34,35,6] [AV.own 0 80 0 0 80,AV.own 1 4 0 0 4,AV.osl 2 1 0 (List.length (leafP s (x0.1))),AV.isl 32 s.19 fun (i j:Nat)=>Zb (s.20 i j),Zi (↑s.19:Int),Zi (↑(x.1):Int),AV.osl 3 4 0 (x.1+1)] [some ⟨80,1,true,Rep.lst [Spend.cells s]⟩,some ⟨4,1,true,Rep.lst [y0]⟩,some ⟨1,List.length (leafP s (x0.1)),true,Rep.fn fun (i j:Nat)=>Zi (List.getD (leafP s (x0.1)) i (0:Int))⟩,some ⟨4,x.1+1,true,Rep.row fun (i:Nat)=>It.cells (pathC s i)⟩]) (fun (x:{ x:Nat // x≤Spend.np s })=>Spend.np s - x.1) x5) ([1,2,3,33,34,35,6]) ([0,1,2,76]) ([AV.own 0 80 0 0 80,AV.own 1 4 0 0 4,AV.osl 2 1 0 (List.length (leafP s (x0.1))),AV.isl 32 s.19 fun (i j:Nat)=>Zb (s.20 i j),Zi (↑s.19:Int),Zi (IntKind.wrap IntKind.i64 ((↑x5.1:Int)+1)),AV.osl 3 4 0 (x5.1+1+1)]) ([some ⟨80,1,true,Rep.lst [Spend.cells s]⟩,some ⟨4,1,true,Rep.lst [y0]⟩,some ⟨1,List.length (leafP s (x0.1)),true,Rep.fn fun (i j:Nat)=>Zi (List.getD (leafP s (x0.1)) i (0:Int))⟩,some ⟨4,x5.1+1+1,true,Rep.cat (x5.1+1) (Rep.row fun (i:Nat)=>[Zi (It.kind (pathC s i)),Zi (It.num (pathC s i)),AV.isl 1 (It.nb (pathC s i)) fun (i_1 x:Nat)=>Zb (It.fb (pathC s i) i_1),AV.isl 4 (It.nl (pathC s i)) (It.row (pathC s i))]) (Rep.lst [[Zi (It.kind (It.byt 32 (s.20 (Int.toNat (↑x5.1:Int))))),Zi (It.num (It.byt 32 (s.20 (Int.toNat (↑x5.1:Int))))),AV.isl 1 32 fun (i x:Nat)=>Zb (It.fb (It.byt 32 (s.20 (Int.toNat (↑x5.1:Int)))) i),AV.isl 4 0 (It.row (It.byt 32 (s.20 (Int.toNat (↑x5.1:Int)))))]])⟩]))))) (.dc (true) 172 ([AV.agg (Zi s.1::Zi s.2::Zi s.3::Zi s.4::Zi s.5::(u8c s.6++[Zi s.7,Zi s.8,Zi s.9,Zi s.10]))]) (It.av (Coin.it (Spend.coin s))) (.dc (true) 143 ([AV.isl 1 2 fun (r k:Nat)=>atL (List.getD [[Zi s.11],[Zi s.12]] (r+0) []) k]) (It.av (intsI [s.11,s.12])) (.dc (true) 142 ([AV.agg (u8c s.13)]) (It.av (It.byt 32 s.13)) (.dc (true) 143 ([AV.isl 1 2 fun (r k:Nat)=>atL (List.getD [[Zi s.14],[Zi s.15]] (r+0) []) k]) (It.av (intsI [s.14,s.15])) (.dc (true) 143 ([AV.isl 1 (List.length (leafP s (x0.1))) fun (r k:Nat)=>Zi (List.getD (leafP s (x0.1)) (r+0) (0:Int))]) (It.av (intsI (leafP s (x0.1)))) (.dc (true) 141 ([AV.isl 4 (x5.1+1) fun (r k:Nat)=>atL [Zi (It.kind (pathC s (r+0))),Zi (It.num (pathC s (r+0))),AV.isl 1 (It.nb (pathC s (r+0))) fun (i x:Nat)=>Zb (It.fb (pathC s (r+0)) i),AV.isl 4 (It.nl (pathC s (r+0))) (It.row (pathC s (r+0)))] k]) (It.av (It.li (x5.1+1) (pathC s))) (.dc (true) 141 ([AV.isl 4 6 fun (r k:Nat)=>atL (List.getD [[Zi (It.kind (Coin.it (Spend.coin s))),Zi (It.num (Coin.it (Spend.coin s))),AV.isl 1 0 fun (i x:Nat)=>Zb (It.fb (Coin.it (Spend.coin s)) i),AV.isl 4 3 (It.row (Coin.it (Spend.coin s)))],[Zi (It.kind (intsI [s.11,s.12])),Zi (It.num (intsI [s.11,s.12])),AV.isl 1 0 fun (i x:Nat)=>Zb (It.fb (intsI [s.11,s.12]) i),AV.isl 4 2 (It.row (intsI [s.11,s.12]))],[Zi (It.kind (It.byt 32 s.13)),Zi (It.num (It.byt 32 s.13)),AV.isl 1 32 fun (i x:Nat)=>Zb (It.fb (It.byt 32 s.13) i),AV.isl 4 0 (It.row (It.byt 32 s.13))],[Zi (It.kind (intsI [s.14,s.15])),Zi (It.num (intsI [s.14,s.15])),AV.isl 1 0 fun (i x:Nat)=>Zb (It.fb (intsI [s.14,s.15]) i),AV.isl 4 2 (It.row (intsI [s.14,s.15]))],[Zi (It.kind (intsI (leafP s x0.1))),Zi (It.num (intsI (leafP s x0.1))),AV.isl 1 0 fun (i x:Nat)=>Zb (It.fb (intsI (leafP s x0.1)) i),AV.isl 4 (It.nl (intsI (leafP s x0.1))) (It.row (intsI (leafP s x0.1)))],[Zi (It.kind (It.li (x5.1+1) (pathC s))),Zi (It.num (It.li (x5.1+1) (pathC s))),AV.isl 1 0 fun (i x:Nat)=>Zb (It.fb (It.li (x5.1+1) (pathC s)) i),AV.isl 4 (It.nl (It.li (x5.1+1) (pathC s))) (It.row (It.li (x5.1+1) (pathC s)))]] (r+0) []) k]) (It.av (lsI [Coin.it (Spend.coin s),intsI [Spend.level s,Spend.index s],It.byt 32 (Spend.payee s),intsI [Spend.time s,Spend.number s],intsI (leafP s x0.1),It.li (x5.1+1) (pathC s)])) (.out (AV.agg [Zi (It.kind (lsI [Coin.it (Spend.coin s),intsI [s.11,s.12],It.byt 32 s.13,intsI [s.14,s.15],intsI (leafP s x0.1),It.li (x5.1+1) (pathC s)])),Zi (It.num (lsI [Coin.it (Spend.coin s),intsI [s.11,s.12],It.byt 32 s.13,intsI [s.14,s.15],intsI (leafP s x0.1),It.li (x5.1+1) (pathC s)])),AV.isl 1 0 fun (i x:Nat)=>Zb (It.fb (lsI [Coin.it (Spend.coin s),intsI [s.11,s.12],It.byt 32 s.13,intsI [s.14,s.15],intsI (leafP s x0.1),It.li (x5.1+1) (pathC s)]) i),AV.isl 4 6 (It.row (lsI [Coin.it (Spend.coin s),intsI [s.11,s.12],It.byt 32 s.13,intsI [s.14,s.15],intsI (leafP s x0.1),It.li (x5.1+1) (pathC s)]))]) [] (It.av (Spend.it s)) [])))))))))))))))
  (by kernel_rfl) ?_
 refine k_loop (fun _ hs=>hs.le (by repeat' (first|exact trivial|(first|exact Ent.refl _|exact inc_ent (by omega)|exact Ent.nil rfl|exact Ent.of_eq (congrArg (AV.osl _ _ _) (by first|omega|(dsimp only;omega)))|exact Ent.of_eq (congrArg (AV.int _) (by first|omega|(dsimp only;omega))))|refine And.intro ?_ ?_)) (by repeat' (first|exact trivial|(first|exact ObEnt.refl _|exact ObEnt.junk|exact ObEnt.zero|exact ObEnt.push rfl rfl|exact ObEnt.pushRow rfl|exact ObEnt.len (by omega)|exact ObEnt.row (by repeat' (first|exact trivial|(first|exact Ent.refl _|exact inc_ent (by omega)|exact Ent.nil rfl|exact Ent.of_eq (congrArg (AV.osl _ _ _) (by first|omega|(dsimp only;omega)))|exact Ent.of_eq (congrArg (AV.int _) (by first|omega|(dsimp only;omega))))|refine And.intro ?_ ?_)))|refine And.intro ?_ ?_))) (fun x0=>?_)
 try (have q0:=x0.2;dsimp only at q0)
 refine k_br (fun h1=>?_) (fun h1=>?_)
 ·have g1:=cnd_dec_t h1
  refine k_req (by omega) ?_
  refine k_req (by have:=leafP_len s x0.1;omega) ?_
  exact k_again (⟨x0.1+1,by omega⟩) (fun _ hs=>hs.le (⟨by exact Ent.refl _,by exact Ent.refl _,by exact Ent.refl _,by exact Ent.refl _,by exact inc_ent (by omega),Ent.of_eq (congrArg (AV.osl 2 1 0) (by rw [leafP_len,leafP_len];dsimp only;omega)),trivial⟩) (⟨by exact ObEnt.refl _,by exact ObEnt.refl _,leaf3_ob (k:=x0.1) (by kernel_rfl),trivial⟩)) (by (dsimp only;omega))
 ·have g1:=cnd_dec_f h1
  refine k_loop (fun _ hs=>hs.le (by repeat' (first|exact trivial|(first|exact Ent.refl _|exact inc_ent (by omega)|exact Ent.nil rfl|exact Ent.of_eq (congrArg (AV.osl _ _ _) (by first|omega|(dsimp only;omega)))|exact Ent.of_eq (congrArg (AV.int _) (by first|omega|(dsimp only;omega))))|refine And.intro ?_ ?_)) (⟨by exact ObEnt.refl _,by exact ObEnt.refl _,by exact ObEnt.refl _,path_start,trivial⟩)) (fun x5=>?_)
  try (have q5:=x5.2;dsimp only at q5)
  refine k_br (fun h6=>?_) (fun h6=>?_)
  ·have g6:=cnd_dec_t h6
   refine k_req (by omega) ?_
   refine k_dc (c3 (s.20 (Int.toNat (↑x5.1:Int)))) ?_
   refine k_req (by omega) ?_
   exact k_again (⟨x5.1+1,by omega⟩) (fun _ hs=>hs.le (by repeat' (first|exact trivial|(first|exact Ent.refl _|exact inc_ent (by omega)|exact Ent.nil rfl|exact Ent.of_eq (congrArg (AV.osl _ _ _) (by first|omega|(dsimp only;omega)))|exact Ent.of_eq (congrArg (AV.int _) (by first|omega|(dsimp only;omega))))|refine And.intro ?_ ?_)) (⟨by exact ObEnt.refl _,by exact ObEnt.refl _,by exact ObEnt.refl _,path_push rfl (EntL.refl _),trivial⟩)) (by (dsimp only;omega))
  ·have g6:=cnd_dec_f h6
   refine k_dc (c1) ?_
   refine k_dc (c2 (s.11) (s.12)) ?_
   refine k_dc (c3 (s.13)) ?_
   refine k_dc (c2 (s.14) (s.15)) ?_
   refine k_dc (c4 (x0.1) (by have:=leafP_len s x0.1;omega)) ?_
   refine k_dc (c5 (x5.1+1)) ?_
   refine k_dc (c6 (x0.1) (x5.1+1)) ?_
   exact k_out (Ent.of_eq (by rw [show x0.1=s.nl by omega,show x5.1=s.np by omega];rfl))
theorem sdig_w (s:Spend) (x:It) (c1:Pure Tryz.prog gl0 198 [s.av] x.av) (ho:x.okD 8=true) (hl:x.enc.length≤16384) (hb:x.okB):Pure Tryz.prog gl0 132 [s.av] (.agg (u8c (tagI "specie/spend-item".toUTF8 x))):=by
 have c2:=encode_c x ho hl
 have c3:=tagged_c "specie/spend-item".toUTF8 (by decide) (by decide) (fun i=>x.enc.getD i 0) x.enc.length (by omega) (It.enc_by hb)
 refine pure_sk (own:=ow0) Tryz.func132 (by kernel_rfl) mixed (by kernel_rfl)
  (.dc (true) 198 ([AV.agg (Spend.cells s)]) (It.av x) (.dc (true) 140 ([AV.agg [Zi (It.kind x),Zi (It.num x),AV.isl 1 (It.nb x) fun (i x_1:Nat)=>Zb (It.fb x i),AV.isl 4 (It.nl x) (It.row x)]]) (AV.tup [il IntKind.u8 (It.enc x),Zi 0]) (.ff (.sc (true) 144 ([AV.str { data := #[(115:UInt8),(112:UInt8),(101:UInt8),(99:UInt8),(105:UInt8),(101:UInt8),(47:UInt8),(115:UInt8),(112:UInt8),(101:UInt8),(110:UInt8),(100:UInt8),(45:UInt8),(105:UInt8),(116:UInt8),(101:UInt8),(109:UInt8)] },AV.isl 1 (List.length (It.enc x)) fun (i x_1:Nat)=>Zb (List.getD (It.enc x) i (0:Int))]) (AV.tup [AV.agg (u8c (tagF (String.toUTF8 "specie/spend-item") (List.length (It.enc x)) fun (i:Nat)=>List.getD (It.enc x) i (0:Int))),Zi 0]) (.out (AV.agg (u8c (tagF (String.toUTF8 "specie/spend-item") (List.length (It.enc x)) fun (i:Nat)=>List.getD (It.enc x) i (0:Int)))) [] (AV.agg (u8c (tagI (String.toUTF8 "specie/spend-item") x))) [])))))
  (by kernel_rfl) ?_
 refine k_dc (c1) ?_
 refine k_dc (c2) ?_
 refine k_ff ?_
 refine k_sc (c3) ?_
 exact k_out (Ent.refl _)
theorem sdig_c (s:Spend) (h:s.Sm):Pure Tryz.prog gl0 132 [s.av] (.agg (u8c s.dig)) :=
 sdig_w s s.it (sitem_w s (by have:=h.nl;omega) (by have:=h.np;omega)) (Spend.it_ok h) (Spend.it_len h) (Spend.it_okB h)
theorem ctagged_w (s:ByteArray) (n:Nat) (F:Nat→Nat→Int) (E:List Int) (T:Nat→Int) (hn:n≤400)
  (c2:∀ m,m=n→Pure Tryz.prog gl0 140 [.agg [.int .i64 3,.int .i64 0,.nsl,.isl 4 m fun r k=>atL (hI F r).cells k]] (.tup [il .u8 E,.int .i64 0]))
  (c3:Pure Tryz.prog gl0 144 [.str s,il .u8 E] (.tup [.agg (u8c T),.int .i64 0])):Pure Tryz.prog gl0 100 [.str s,hsN n F] (.agg (u8c T)):=by
 have c1:=cloneU_c
 refine pure_sk (own:=ow0) Tryz.func100 (by kernel_rfl) mixed (by kernel_rfl)
  (let y0:List AV:=[Zb 0,Zb 0,Zb 0,Zb 0,Zb 0,Zb 0,Zb 0,Zb 0,Zb 0,Zb 0,Zb 0,Zb 0,Zb 0,Zb 0,Zb 0,Zb 0,Zb 0,Zb 0,Zb 0,Zb 0,Zb 0,Zb 0,Zb 0,Zb 0,Zb 0,Zb 0,Zb 0,Zb 0,Zb 0,Zb 0,Zb 0,Zb 0];(.loop ({ x:Nat // x≤n }) (fun (x:{ x:Nat // x≤n })=>mkSt [0,4,5,13,14,15] [AV.str s,AV.own 0 32 0 0 32,AV.own 1 4 0 0 4,AV.isl 32 n fun (i j:Nat)=>Zb (F i j),Zi (↑n:Int),Zi (↑(x.1):Int)] [some ⟨32,1,true,Rep.lst [y0]⟩,some ⟨4,1,true,Rep.lst [[Zi 3,Zi 0,AV.nsl,AV.osl 2 4 0 (x.1)]]⟩,some ⟨4,x.1,true,Rep.row fun (i:Nat)=>It.cells (hI F i)⟩]) (fun (x:{ x:Nat // x≤n })=>n - x.1) (⟨0,Nat.zero_le n⟩) ([0,4,5,13,14,15]) ([0,16,1082]) ([AV.str s,AV.own 0 32 0 0 32,AV.own 1 4 0 0 4,AV.isl 32 n fun (i j:Nat)=>Zb (F i j),Zi (↑n:Int),Zi 0]) ([some ⟨32,1,true,Rep.lst [y0]⟩,some ⟨4,1,true,Rep.lst [[Zi 3,Zi 0,AV.nsl,AV.nsl]]⟩,some ⟨4,0,true,Rep.lst []⟩]) (fun x0=>(.br (decide ((↑x0.1:Int)<(↑n:Int))) (.req ((0:Int)≤(↑x0.1:Int)∧(↑x0.1:Int)<(↑n:Int)) (.dc (true) 171 ([AV.isl 1 32 fun (r x:Nat)=>Zb (intOfAV (atL (u8c (F (Int.toNat (↑x0.1:Int)))) (0+(0+r))))]) (bys 32 fun (i:Nat)=>intOfAV (atL (u8c (F (Int.toNat (↑x0.1:Int)))) (0+(0+i)))) (.req ((x0.1+1)*64≤140737488355328) (.again (Again 0 (fun (x:{ x:Nat // x≤n })=>mkSt [0,4,5,13,14,15] [AV.str s,AV.own 0 32 0 0 32,AV.own 1 4 0 0 4,AV.isl 32 n fun (i j:Nat)=>Zb (F i j),Zi (↑n:Int),Zi (↑(x.1):Int)] [some ⟨32,1,true,Rep.lst [y0]⟩,some ⟨4,1,true,Rep.lst [[Zi 3,Zi 0,AV.nsl,AV.osl 2 4 0 (x.1)]]⟩,some ⟨4,x.1,true,Rep.row fun (i:Nat)=>It.cells (hI F i)⟩]) (fun (x:{ x:Nat // x≤n })=>n - x.1) x0) ([0,4,5,13,14,15]) ([0,1,91]) ([AV.str s,AV.own 0 32 0 0 32,AV.own 1 4 0 0 4,AV.isl 32 n fun (i j:Nat)=>Zb (F i j),Zi (↑n:Int),Zi (IntKind.wrap IntKind.i64 ((↑x0.1:Int)+1))]) ([some ⟨32,1,true,Rep.lst [y0]⟩,some ⟨4,1,true,Rep.lst [[Zi 3,Zi 0,AV.nsl,AV.osl 2 4 0 (x0.1+1)]]⟩,some ⟨4,x0.1+1,true,Rep.cat x0.1 (Rep.row fun (i:Nat)=>[Zi (It.kind (hI F i)),Zi (It.num (hI F i)),AV.isl 1 32 fun (i_1 x:Nat)=>Zb (It.fb (hI F i) i_1),AV.isl 4 0 (It.row (hI F i))]) (Rep.lst [[Zi 2,Zi 0,AV.isl 1 32 fun (i x:Nat)=>Zb (intOfAV (atL (u8c (F (Int.toNat (↑x0.1:Int)))) (0+(0+i)))),AV.nsl]])⟩]))))) (.dc (true) 140 ([AV.agg [Zi 3,Zi 0,AV.nsl,AV.isl 4 x0.1 fun (r k:Nat)=>atL [Zi (It.kind (hI F (r+0))),Zi (It.num (hI F (r+0))),AV.isl 1 32 fun (i x:Nat)=>Zb (It.fb (hI F (r+0)) i),AV.isl 4 0 (It.row (hI F (r+0)))] k]]) (AV.tup [il IntKind.u8 E,Zi 0]) (.sc (true) 144 ([AV.str s,AV.isl 1 (List.length E) fun (i x:Nat)=>Zb (List.getD E i (0:Int))]) (AV.tup [AV.agg (u8c T),Zi 0]) (.out (AV.agg (u8c T)) [] (AV.agg (u8c T)) [])))))))
  (by kernel_rfl) ?_
 refine k_loop (fun _ hs=>hs.le (⟨.refl _,.refl _,.refl _,.refl _,.refl _,.refl _,trivial⟩) (by repeat' (first|exact trivial|(first|exact ObEnt.refl _|exact ObEnt.junk|exact ObEnt.zero|exact ObEnt.push rfl rfl|exact ObEnt.pushRow rfl|exact ObEnt.len (by omega)|exact ObEnt.row (by repeat' (first|exact trivial|(first|exact Ent.refl _|exact inc_ent (by omega)|exact Ent.nil rfl|exact Ent.of_eq (congrArg (AV.osl _ _ _) (by first|omega|(dsimp only;omega)))|exact Ent.of_eq (congrArg (AV.int _) (by first|omega|(dsimp only;omega))))|refine And.intro ?_ ?_)))|refine And.intro ?_ ?_))) (fun x0=>?_)
 try (have q0:=x0.2;dsimp only at q0)
 refine k_br (fun h1=>?_) (fun h1=>?_)
 ·have g1:=cnd_dec_t h1
  refine k_req (by omega) ?_
  refine k_dc (c1 (fun (i:Nat)=>intOfAV (atL (u8c (F (Int.toNat (↑x0.1:Int)))) (0+(0+i)))) (32) (by omega)) ?_
  refine k_req (by omega) ?_
  exact k_again (⟨x0.1+1,by omega⟩) (fun _ hs=>hs.le (⟨.refl _,.refl _,.refl _,.refl _,.refl _,inc_ent (by omega),trivial⟩) (⟨.refl _,.refl _,hash_push rfl (fun i hi=>by
                                                                                                     show intOfAV (atL (u8c (F x0.1)) (0+(0+i)))=F x0.1 i
                                                                                                     rw [Nat.zero_add,Nat.zero_add]
                                                                                                     exact u8c_at hi),trivial⟩)) (by dsimp only;omega)
 ·have g1:=cnd_dec_f h1
  refine k_dc (c2 (x0.1) (by omega)) ?_
  refine k_sc (c3) ?_
  exact k_out (Ent.of_eq rfl)
theorem ctagged_c (s:ByteArray) (h1:1≤s.size) (h2:s.size≤100) (n:Nat) (F:Nat→Nat→Int) (hn:n≤400) (hb:∀ i,i<n→byB (F i) 32):Pure Tryz.prog gl0 100 [.str s,hsN n F] (.agg (u8c (tagI s (hashI n F)))) :=
 ctagged_w s n F (hashI n F).enc _ hn (fun m hm=>(encode_c (hashI n F) (hash_ok (by omega)) (by rw [hash_len];omega)).via (hash_arg hm))
  (tagged_c s h2 h1 (fun i=>(hashI n F).enc.getD i 0) (hashI n F).enc.length (by rw [hash_len];omega) (It.enc_by (hash_okB hb)))
abbrev kHS250:List AV:=[Zb 0,Zb 0,Zb 0,Zb 0,Zb 0,Zb 0,Zb 0,Zb 0,Zb 0,Zb 0,Zb 0,Zb 0,Zb 0,Zb 0,Zb 0,Zb 0,Zb 0,Zb 0,Zb 0,Zb 0,Zb 0,Zb 0,Zb 0,Zb 0,Zb 0,Zb 0,Zb 0,Zb 0,Zb 0,Zb 0,Zb 0,Zb 0]
theorem ctag2 (c:Coin) (h:Nat→Int) (hh:byB h 32):Pure Tryz.prog gl0 100 [.str "specie/chain-next".toUTF8,.isl 32 2 fun r k=>atL (List.getD [u8c c.dig,u8c h] r []) k] (.agg (u8c (nameF c h))) :=
 (ctagged_c "specie/chain-next".toUTF8 (by decide) (by decide) 2 (two c.dig h) (by decide) (two_by c.dig_by hh)).via ⟨Ent.refl _,two_rows,trivial⟩
theorem ctagS (S:Nat→Spend) (n:Nat) (hn:n≤400) (m:Nat) (hm:m=n):Pure Tryz.prog gl0 100 [.str "specie/chain".toUTF8,.isl 32 m fun r k=>atL (u8c (S r).dig) k] (.agg (u8c (tagI "specie/chain".toUTF8 (hashI n fun i=>(S i).dig)))) :=
 (ctagged_c "specie/chain".toUTF8 (by decide) (by decide) n (fun i=>(S i).dig) hn (fun i _=>Spend.dig_by _)).via ⟨Ent.refl _,u8_rows hm,trivial⟩
theorem name_c (c:Coin) (h:Nat→Int) (hr:byB c.root 32) (hh:byB h 32):Pure Tryz.prog gl0 49 [c.av,.agg (u8c h)] (.agg (u8c (nameF c h))):=by
 have c1:=cdig_c c hr
 have c2:=ctag2 c h hh
 refine pure_sk (own:=ow0) Tryz.func49 (by kernel_rfl) mixed (by kernel_rfl)
  (let y0:AV:=(AV.agg (u8c (nameF c h)));(.sc (true) 101 ([AV.agg (Coin.cells c)]) (AV.agg (u8c (Coin.dig c))) (.sc (true) 100 ([AV.str { data := #[(115:UInt8),(112:UInt8),(101:UInt8),(99:UInt8),(105:UInt8),(101:UInt8),(47:UInt8),(99:UInt8),(104:UInt8),(97:UInt8),(105:UInt8),(110:UInt8),(45:UInt8),(110:UInt8),(101:UInt8),(120:UInt8),(116:UInt8)] },AV.isl 32 2 fun (r k:Nat)=>atL (List.getD [u8c (Coin.dig c),u8c h] (r+0) []) k]) y0 (.out y0 [] y0 []))))
  (by kernel_rfl) ?_
 refine k_sc (c1) ?_
 refine k_sc (c2) ?_
 exact k_out (Ent.refl _)
theorem digestOf_c (S:Nat→Spend) (n:Nat) (hn:n≤400) (hs:∀ i,i<n→(S i).Sm):Pure Tryz.prog gl0 64 [.isl 80 n fun i j=>atL (S i).cells j] (.agg (u8c (chainF S n))):=by
 have c1:=fun i h=>sdig_c (S i) (hs i h)
 have c2:=ctagS S n hn
 refine pure_sk (own:=ow0) Tryz.func64 (by kernel_rfl) mixed (by kernel_rfl)
  (let y0:List AV:=[Zb 0,Zb 0,Zb 0,Zb 0,Zb 0,Zb 0,Zb 0,Zb 0,Zb 0,Zb 0,Zb 0,Zb 0,Zb 0,Zb 0,Zb 0,Zb 0,Zb 0,Zb 0,Zb 0,Zb 0,Zb 0,Zb 0,Zb 0,Zb 0,Zb 0,Zb 0,Zb 0,Zb 0,Zb 0,Zb 0,Zb 0,Zb 0];let y1:AV:=(AV.agg (u8c (tagI (String.toUTF8 "specie/chain") (hashI n fun (i:Nat)=>Spend.dig (S i)))));(.br ((↑n:Int)==0) (.out (AV.agg kHS250) [] (AV.agg (u8c (chainF S n))) []) (.loop ({ x:Nat // x≤n }) (fun (x:{ x:Nat // x≤n })=>mkSt [2,10,11,12,3] [AV.own 0 32 0 0 32,AV.isl 80 n fun (i j:Nat)=>atL (Spend.cells (S i)) j,Zi (↑n:Int),Zi (↑(x.1):Int),AV.osl 2 32 0 (x.1)] [some ⟨32,1,true,Rep.lst [y0]⟩,none,some ⟨32,x.1,true,Rep.row fun (i:Nat)=>u8c (Spend.dig (S i))⟩]) (fun (x:{ x:Nat // x≤n })=>n - x.1) (⟨0,Nat.zero_le n⟩) ([2,10,11,12,3]) ([0,65,8258]) ([AV.own 0 32 0 0 32,AV.isl 80 n fun (i j:Nat)=>atL (Spend.cells (S i)) j,Zi (↑n:Int),Zi 0,AV.nsl]) ([some ⟨32,1,true,Rep.lst [y0]⟩,none,some ⟨32,0,true,Rep.lst []⟩]) (fun x2=>(.br (decide ((↑x2.1:Int)<(↑n:Int))) (.req ((0:Int)≤(↑x2.1:Int)∧(↑x2.1:Int)<(↑n:Int)) (.sc (true) 132 ([AV.agg (Spend.cells (S (Int.toNat (↑(x2.1):Int))))]) (AV.agg (u8c (Spend.dig (S (Int.toNat (↑(x2.1):Int)))))) (.req ((x2.1+1)*32≤140737488355328) (.again (Again 0 (fun (x:{ x:Nat // x≤n })=>mkSt [2,10,11,12,3] [AV.own 0 32 0 0 32,AV.isl 80 n fun (i j:Nat)=>atL (Spend.cells (S i)) j,Zi (↑n:Int),Zi (↑(x.1):Int),AV.osl 2 32 0 (x.1)] [some ⟨32,1,true,Rep.lst [y0]⟩,none,some ⟨32,x.1,true,Rep.row fun (i:Nat)=>u8c (Spend.dig (S i))⟩]) (fun (x:{ x:Nat // x≤n })=>n - x.1) x2) ([2,10,11,12,3]) ([0,108,75]) ([AV.own 0 32 0 0 32,AV.isl 80 n fun (i j:Nat)=>atL (Spend.cells (S i)) j,Zi (↑n:Int),Zi (IntKind.wrap IntKind.i64 ((↑x2.1:Int)+1)),AV.osl 2 32 0 (x2.1+1)]) ([some ⟨32,1,true,Rep.lst [y0]⟩,none,some ⟨32,x2.1+1,true,Rep.cat x2.1 (Rep.row fun (i:Nat)=>u8c (Spend.dig (S i))) (Rep.lst [u8c (Spend.dig (S (Int.toNat (↑(x2.1):Int))))])⟩]))))) (.sc (true) 100 ([AV.str { data := #[(115:UInt8),(112:UInt8),(101:UInt8),(99:UInt8),(105:UInt8),(101:UInt8),(47:UInt8),(99:UInt8),(104:UInt8),(97:UInt8),(105:UInt8),(110:UInt8)] },AV.isl 32 x2.1 fun (r k:Nat)=>atL (u8c (Spend.dig (S (r+0)))) k]) y1 (.out y1 [] (AV.agg (u8c (chainF S n))) [])))))))
  (by kernel_rfl) ?_
 refine k_br (fun h0=>?_) (fun h0=>?_)
 ·have g0:=cnd_beq_t h0
  exact k_out (Ent.of_eq (congrArg AV.agg (by rw [chainF_0 (by omega)];rfl)))
 ·have g0:=cnd_beq_f h0
  refine k_loop (fun _ hs=>hs.le (by repeat' (first|exact trivial|(first|exact Ent.refl _|exact inc_ent (by omega)|exact Ent.nil rfl|exact Ent.of_eq (congrArg (AV.osl _ _ _) (by first|omega|(dsimp only;omega)))|exact Ent.of_eq (congrArg (AV.int _) (by first|omega|(dsimp only;omega))))|refine And.intro ?_ ?_)) (by repeat' (first|exact trivial|(first|exact ObEnt.refl _|exact ObEnt.junk|exact ObEnt.zero|exact ObEnt.push rfl rfl|exact ObEnt.pushRow rfl|exact ObEnt.len (by omega)|exact ObEnt.row (by repeat' (first|exact trivial|(first|exact Ent.refl _|exact inc_ent (by omega)|exact Ent.nil rfl|exact Ent.of_eq (congrArg (AV.osl _ _ _) (by first|omega|(dsimp only;omega)))|exact Ent.of_eq (congrArg (AV.int _) (by first|omega|(dsimp only;omega))))|refine And.intro ?_ ?_)))|refine And.intro ?_ ?_))) (fun x2=>?_)
  try (have q2:=x2.2;dsimp only at q2)
  refine k_br (fun h3=>?_) (fun h3=>?_)
  ·have g3:=cnd_dec_t h3
   refine k_req (by omega) ?_
   refine k_sc (c1 (Int.toNat (↑(x2.1):Int)) (by omega)) ?_
   refine k_req (by omega) ?_
   exact k_again (⟨x2.1+1,by omega⟩) (fun _ hs=>hs.le (by repeat' (first|exact trivial|(first|exact Ent.refl _|exact inc_ent (by omega)|exact Ent.nil rfl|exact Ent.of_eq (congrArg (AV.osl _ _ _) (by first|omega|(dsimp only;omega)))|exact Ent.of_eq (congrArg (AV.int _) (by first|omega|(dsimp only;omega))))|refine And.intro ?_ ?_)) (by repeat' (first|exact trivial|(first|exact ObEnt.refl _|exact ObEnt.junk|exact ObEnt.zero|exact ObEnt.push rfl rfl|exact ObEnt.pushRow rfl|exact ObEnt.len (by omega)|exact ObEnt.row (by repeat' (first|exact trivial|(first|exact Ent.refl _|exact inc_ent (by omega)|exact Ent.nil rfl|exact Ent.of_eq (congrArg (AV.osl _ _ _) (by first|omega|(dsimp only;omega)))|exact Ent.of_eq (congrArg (AV.int _) (by first|omega|(dsimp only;omega))))|refine And.intro ?_ ?_)))|refine And.intro ?_ ?_))) (by (dsimp only;omega))
  ·have g3:=cnd_dec_f h3
   refine k_sc (c2 (x2.1) (by omega)) ?_
   exact k_out (Ent.of_eq (congrArg AV.agg (by rw [chainF_1 (by omega)])))
theorem spends_c (h:Chn) (hn:h.n≤1000):Pure Tryz.prog gl0 35 [h.av] (.isl 80 (h.n+1) fun i j=>atL (chnS h i).cells j):=by
 refine pure_sk (own:=ow0) Tryz.func35 (by kernel_rfl) mixed (by kernel_rfl)
  (.req ((1+h.2)*224≤140737488355328) (.out (AV.isl 80 (1+h.2) fun (r k:Nat)=>mixA (Nat.blt (r+0) 1) (atL (List.getD [Spend.cells (Chn.first h)] (r+0) []) k) (atL (Spend.cells (Chn.l h (r+0 - 1))) k)) [] (AV.isl 80 (Chn.n h+1) fun (i j:Nat)=>atL (Spend.cells (chnS h i)) j) []))
  (by kernel_rfl) ?_
 refine k_req (by omega) ?_
 exact k_out (Ent.islN (by omega) (fun i j _ _=>spends_e i j))
theorem rspends_c (h:Chn) (hn:h.n≤1000):Pure Tryz.prog gl0 39 [h.av] (.isl 80 (h.n+1) fun i j=>atL (chnS h i).cells j):=by
 refine pure_sk (own:=ow0) Tryz.func39 (by kernel_rfl) mixed (by kernel_rfl)
  (.req ((1+h.2)*224≤140737488355328) (.out (AV.isl 80 (1+h.2) fun (r k:Nat)=>mixA (Nat.blt (r+0) 1) (atL (List.getD [Spend.cells (Chn.first h)] (r+0) []) k) (atL (Spend.cells (Chn.l h (r+0 - 1))) k)) [] (AV.isl 80 (Chn.n h+1) fun (i j:Nat)=>atL (Spend.cells (chnS h i)) j) []))
  (by kernel_rfl) ?_
 refine k_req (by omega) ?_
 exact k_out (Ent.islN (by omega) (fun i j _ _=>spends_e i j))
theorem cdigest_c (h:Chn) (hn:h.n≤300) (hs:∀ i,i<h.n+1→(chnS h i).Sm):Pure Tryz.prog gl0 28 [h.av] (.agg (u8c (chnD h))):=by
 have c1:=spends_c h (by omega)
 have c2:=digestOf_c (chnS h) (h.n+1) (by omega) hs
 refine pure_sk (own:=ow0) Tryz.func28 (by kernel_rfl) mixed (by kernel_rfl)
  (.br (decide ((↑h.2:Int)>8)) (.out (AV.agg [Zb 0,Zb 0,Zb 0,Zb 0,Zb 0,Zb 0,Zb 0,Zb 0,Zb 0,Zb 0,Zb 0,Zb 0,Zb 0,Zb 0,Zb 0,Zb 0,Zb 0,Zb 0,Zb 0,Zb 0,Zb 0,Zb 0,Zb 0,Zb 0,Zb 0,Zb 0,Zb 0,Zb 0,Zb 0,Zb 0,Zb 0,Zb 0]) [] (AV.agg (u8c (chnD h))) []) (.dc (true) 35 ([AV.agg (Chn.cells h)]) (AV.isl 80 (Chn.n h+1) fun (i j:Nat)=>atL (Spend.cells (chnS h i)) j) (.sc (true) 64 ([AV.isl 80 (h.2+1) fun (i j:Nat)=>atL (Spend.cells (chnS h i)) j]) (AV.agg (u8c (chainF (chnS h) (Chn.n h+1)))) (.out (AV.agg (u8c (chainF (chnS h) (h.2+1)))) [] (AV.agg (u8c (chnD h))) []))))
  (by kernel_rfl) ?_
 refine k_br (fun h0=>?_) (fun h0=>?_)
 ·have g0:=cnd_dec_t h0
  exact k_out (Ent.of_eq (congrArg AV.agg (by rw [chnD_1 (by omega)];rfl)))
 ·have g0:=cnd_dec_f h0
  refine k_dc (c1) ?_
  refine k_sc (c2) ?_
  exact k_out (Ent.of_eq (congrArg AV.agg (by rw [chnD_0 (by omega)])))
theorem instant_c (t:Int):Pure Tryz.prog gl0 51 [.int .i64 t] (.bool (decide (t≥0)&&decide (t≤1099511627776))):=by
 refine pure_sk (own:=ow0) Tryz.func51 (by kernel_rfl) mixed (by kernel_rfl)
  (let y0:AV:=(AV.bool (decide (t≥0)&&decide (t≤1099511627776)));(.out y0 [] y0 []))
  (by kernel_rfl) ?_
 exact k_out (Ent.refl _)
theorem ccontext_c (b:Bas) (c:Coin) (f:Nat→Int) (t n:Int) (hw:b.gr.W) (hr:byB c.root 32) (hf:byB f 32):Pure Tryz.prog gl0 27 [b.av,c.av,.agg (u8c f),.int .i64 t,.int .i64 n] (.tup [(ccX b c f t n).av,.int .i64 (ccE b t n)]):=by
 have c1:=bvalid_c b hw
 have c2:=name_c c f hr hf
 refine pure_sk (own:=ow0) Tryz.func27 (by kernel_rfl) mixed (by kernel_rfl)
  (let y0:List AV:=[Zb 0,Zb 0,Zb 0,Zb 0,Zb 0,Zb 0,Zb 0,Zb 0,Zb 0,Zb 0,Zb 0,Zb 0,Zb 0,Zb 0,Zb 0,Zb 0,Zb 0,Zb 0,Zb 0,Zb 0,Zb 0,Zb 0,Zb 0,Zb 0,Zb 0,Zb 0,Zb 0,Zb 0,Zb 0,Zb 0,Zb 0,Zb 0,Zi 0,Zi 0];let y1:AV:=(AV.tup [Cxt.av (ccX b c f t n),Zi (ccE b t n)]);(.sc (true) 34 ([AV.agg (Bas.cells b)]) (AV.bool (validB b)) (.br (!validB b) (.out (AV.tup [AV.agg y0,Zi 1]) [] y1 []) (.sc (true) 51 ([Zi t]) (AV.bool (decide (t≥0)&&decide (t≤1099511627776))) (.br (!(decide (t≥0)&&decide (t≤1099511627776))||decide (n<0)||decide (n>1073741824)) (.out (AV.tup [AV.agg y0,Zi 2]) [] y1 []) (.sc (true) 49 ([AV.agg (Coin.cells c),AV.agg (u8c f)]) (AV.agg (u8c (nameF c f))) (.out (AV.tup [AV.agg (u8c (nameF c f)++[Zi t,Zi n]),Zi 0]) [] y1 [])))))))
  (by kernel_rfl) ?_
 refine k_sc (c1) ?_
 refine k_br (fun h1=>?_) (fun h1=>?_)
 ·have g1:=(cnd_not_t cnd_id_f) h1
  exact k_out (Ent.of_eq (by rw [(cc_1 g1).1,(cc_1 (c:=c) (f:=f) g1).2];rfl))
 ·have g1:=(cnd_not_f cnd_id_t) h1
  refine k_sc (instant_c (t)) ?_
  refine k_br (fun h4=>?_) (fun h4=>?_)
  ·have g4:=(cnd_or_t (cnd_or_t (cnd_not_t (cnd_and_f cnd_dec_f cnd_dec_f)) cnd_dec_t) cnd_dec_t) h4
   exact k_out (Ent.of_eq (by rw [(cc_2 g1 (ctx_no2 (by omega))).1,(cc_2 (c:=c) (f:=f) g1 (ctx_no2 (by omega))).2];rfl))
  ·have g4:=(cnd_or_f (cnd_or_f (cnd_not_f (cnd_and_t cnd_dec_t cnd_dec_t)) cnd_dec_f) cnd_dec_f) h4
   refine k_sc (c2) ?_
   exact k_out (Ent.of_eq (by rw [(cc_0 g1 (ctx_yes2 (by omega))).1,(cc_0 (c:=c) (f:=f) g1 (ctx_yes2 (by omega))).2];rfl))
theorem find1_r (r0 r1 r2 r3 r4 r5 r6 r7 r8 r9 r10 k e d:Int):Pure Tryz.prog gl0 137 [.agg [.int .i64 r0,.int .i64 r1,.int .i64 r2,.int .i64 r3,.int .i64 r4,.int .i64 r5,.int .i64 r6,.int .i64 r7,.int .i64 r8,.int .i64 r9,.int .i64 r10],.ipt 1 (atL [.int .i64 k]),.ipt 1 (atL [.int .i64 e]),.ipt 1 (atL [.int .i64 d])] (.bool (r0==k&&r1==e&&r2==d)):=by
 refine pure_sk (own:=ow0) Tryz.func137 (by kernel_rfl) mixed (by kernel_rfl)
  (let y0:AV:=(AV.bool (r0==k&&r1==e&&r2==d));(.out y0 [] y0 []))
  (by kernel_rfl) ?_
 exact k_out (Ent.refl _)
theorem indexR_c (R:Nat→Nat→Int) (n:Nat) (k e d:Int) (hn:n≤1000):Pure Tryz.prog gl0 136 [recs n R,.fn (.func 137) [] [.ipt 1 (atL [.int .i64 k]),.ipt 1 (atL [.int .i64 e]),.ipt 1 (atL [.int .i64 d])]] (.int .i64 (firstI (recB R k e d) n 0)):=by
 refine pure_sk (own:=ow0) Tryz.func136 (by kernel_rfl) mixed (by kernel_rfl)
  (let y0:List AV:=[AV.ipt 1 (atL [Zi k]),AV.ipt 1 (atL [Zi e]),AV.ipt 1 (atL [Zi d])];(.loop ({ x:Nat // x≤n∧(fun (i:Nat)=>firstI (recB R k e d) n 0=firstI (recB R k e d) (n - i) i) x }) (fun (x:{ x:Nat // x≤n∧(fun (i:Nat)=>firstI (recB R k e d) n 0=firstI (recB R k e d) (n - i) i) x })=>mkSt [0,1,7,8] [AV.isl 11 n fun (i j:Nat)=>Zi (R i j),AV.fn (Fn.func (137:FuncId)) [] y0,Zi (↑n:Int),Zi (↑(x.1):Int)] []) (fun (x:{ x:Nat // x≤n∧(fun (i:Nat)=>firstI (recB R k e d) n 0=firstI (recB R k e d) (n - i) i) x })=>n - x.1) (⟨0,⟨Nat.zero_le n,rfl⟩⟩) ([0,1,7,8]) ([]) ([AV.isl 11 n fun (i j:Nat)=>Zi (R i j),AV.fn (Fn.func (137:FuncId)) [] y0,Zi (↑n:Int),Zi 0]) ([]) (fun x0=>(.br (decide ((↑x0.1:Int)<(↑n:Int))) (.req ((0:Int)≤(↑x0.1:Int)∧(↑x0.1:Int)<(↑n:Int)) (.sc (true) 137 ([AV.agg [Zi (R (Int.toNat (↑x0.1:Int)) 0),Zi (R (Int.toNat (↑x0.1:Int)) 1),Zi (R (Int.toNat (↑x0.1:Int)) 2),Zi (R (Int.toNat (↑x0.1:Int)) 3),Zi (R (Int.toNat (↑x0.1:Int)) 4),Zi (R (Int.toNat (↑x0.1:Int)) 5),Zi (R (Int.toNat (↑x0.1:Int)) 6),Zi (R (Int.toNat (↑x0.1:Int)) 7),Zi (R (Int.toNat (↑x0.1:Int)) 8),Zi (R (Int.toNat (↑x0.1:Int)) 9),Zi (R (Int.toNat (↑x0.1:Int)) 10)],AV.ipt 1 (atL [Zi k]),AV.ipt 1 (atL [Zi e]),AV.ipt 1 (atL [Zi d])]) (AV.bool (R (Int.toNat (↑x0.1:Int)) 0==k&&R (Int.toNat (↑x0.1:Int)) 1==e&&R (Int.toNat (↑x0.1:Int)) 2==d)) (.br (R (Int.toNat (↑x0.1:Int)) 0==k&&R (Int.toNat (↑x0.1:Int)) 1==e&&R (Int.toNat (↑x0.1:Int)) 2==d) (.out (Zi (↑x0.1:Int)) [] (Zi (firstI (recB R k e d) n 0)) []) (.again (Again 0 (fun (x:{ x:Nat // x≤n∧(fun (i:Nat)=>firstI (recB R k e d) n 0=firstI (recB R k e d) (n - i) i) x })=>mkSt [0,1,7,8] [AV.isl 11 n fun (i j:Nat)=>Zi (R i j),AV.fn (Fn.func (137:FuncId)) [] y0,Zi (↑n:Int),Zi (↑(x.1):Int)] []) (fun (x:{ x:Nat // x≤n∧(fun (i:Nat)=>firstI (recB R k e d) n 0=firstI (recB R k e d) (n - i) i) x })=>n - x.1) x0) ([0,1,7,8]) ([]) ([AV.isl 11 n fun (i j:Nat)=>Zi (R i j),AV.fn (Fn.func (137:FuncId)) [] y0,Zi (↑n:Int),Zi (IntKind.wrap IntKind.i64 ((↑x0.1:Int)+1))]) ([]))))) (.out (Zi (-1)) [] (Zi (firstI (recB R k e d) n 0)) [])))))
  (by kernel_rfl) ?_
 refine k_loop (fun _ hs=>hs.le (⟨.refl _,.refl _,.refl _,.refl _,trivial⟩) (trivial)) (fun x0=>?_)
 try (have q0:=x0.2;dsimp only at q0)
 refine k_br (fun h1=>?_) (fun h1=>?_)
 ·have g1:=cnd_dec_t h1
  refine k_req (by omega) ?_
  refine k_sc (find1_r (R (Int.toNat (↑x0.1:Int)) (0)) (R (Int.toNat (↑x0.1:Int)) (1)) (R (Int.toNat (↑x0.1:Int)) (2)) (R (Int.toNat (↑x0.1:Int)) (3)) (R (Int.toNat (↑x0.1:Int)) (4)) (R (Int.toNat (↑x0.1:Int)) (5)) (R (Int.toNat (↑x0.1:Int)) (6)) (R (Int.toNat (↑x0.1:Int)) (7)) (R (Int.toNat (↑x0.1:Int)) (8)) (R (Int.toNat (↑x0.1:Int)) (9)) (R (Int.toNat (↑x0.1:Int)) (10)) (k) (e) (d)) ?_
  refine k_br (fun h4=>?_) (fun h4=>?_)
  ·have g4:=(cnd_and_t (cnd_and_t cnd_beq_t cnd_beq_t) cnd_beq_t) h4
   try simp only [Int.toNat_natCast] at g4
   exact k_out (Ent.of_eq (congrArg _ (first_hit x0.2.2 (by omega) h4)))
  ·have g4:=(cnd_and_f (cnd_and_f cnd_beq_f cnd_beq_f) cnd_beq_f) h4
   try simp only [Int.toNat_natCast] at g4
   exact k_again (⟨x0.1+1,by omega,first_next x0.2.2 (by omega) h4⟩) (fun _ hs=>hs.le (⟨.refl _,.refl _,.refl _,inc_ent (by omega),trivial⟩) (trivial)) (by dsimp only;omega)
 ·have g1:=cnd_dec_f h1
  exact k_out (Ent.of_eq (congrArg _ (first_miss x0.2.2 (by omega))))
theorem efind_c (R:Nat→Nat→Int) (n:Nat) (k e d:Int) (hn:n≤1000):Pure Tryz.prog gl0 69 [recs n R,.int .i64 k,.int .i64 e,.int .i64 d] (.int .i64 (firstI (recB R k e d) n 0)):=by
 have c1:=indexR_c R n k e d hn
 refine pure_sk (own:=ow0) Tryz.func69 (by kernel_rfl) mixed (by kernel_rfl)
  (.sc (true) 136 ([AV.isl 11 n fun (i j:Nat)=>Zi (R i j),AV.fn (Fn.func 137) [] [AV.ipt 1 fun (k_1:Nat)=>atL [Zi k] k_1,AV.ipt 1 fun (k:Nat)=>atL [Zi e] k,AV.ipt 1 fun (k:Nat)=>atL [Zi d] k]]) (Zi (firstI (recB R k e d) n 0)) (.out (Zi (firstI (recB R k e d) n 0)) [] (Zi (firstI (recB R k e d) n 0)) []))
  (by kernel_rfl) ?_
 refine k_sc (c1) ?_
 exact k_out (Ent.refl _)
theorem amount_g (k0 k1 k2 v d k5 k6 k7 k8 k9 k10:Int) (s:Spend):Pure Tryz.prog gl0 63 [.agg [.int .i64 k0,.int .i64 k1,.int .i64 k2,.int .i64 v,.int .i64 d,.int .i64 k5,.int .i64 k6,.int .i64 k7,.int .i64 k8,.int .i64 k9,.int .i64 k10],s.av] (.tup [.int .i64 (amV v d s.level s.index),.int .i64 (amE v d s.level s.index)]):=by
 refine pure_sk (own:=ow0) Tryz.func63 (by kernel_rfl) mixed (by kernel_rfl)
  (let y0:AV:=(AV.tup [Zi (amV v d (Spend.level s) (Spend.index s)),Zi (amE v d (Spend.level s) (Spend.index s))]);(.br (decide (v<0)||decide (v>1099511627776)||decide (d<0)||decide (d>5)) (.out (AV.tup [Zi 0,Zi 1]) [] y0 []) (.sc (true) 71 ([Zi d,AV.agg [Zi s.11,Zi s.12]]) (AV.bool (nodeB d s.11 s.12)) (.br (!nodeB d s.11 s.12) (.out (AV.tup [Zi 0,Zi 2]) [] y0 []) (.req ((0:Int)≤s.11) (.out (AV.tup [Zi (Int.fdiv v ((2:Int)^min (Int.toNat s.11) 64)),Zi 0]) [] y0 []))))))
  (by kernel_rfl) ?_
 refine k_br (fun h0=>?_) (fun h0=>?_)
 ·have g0:=(cnd_or_t (cnd_or_t (cnd_or_t cnd_dec_t cnd_dec_t) cnd_dec_t) cnd_dec_t) h0
  exact k_out (Ent.of_eq (by rw [(am_1 (by omega)).1,(am_1 (by omega)).2]))
 ·have g0:=(cnd_or_f (cnd_or_f (cnd_or_f cnd_dec_f cnd_dec_f) cnd_dec_f) cnd_dec_f) h0
  refine k_sc (node_c (d) (s.11) (s.12)) ?_
  refine k_br (fun h3=>?_) (fun h3=>?_)
  ·have g3:=(cnd_not_t cnd_id_f) h3
   exact k_out (Ent.of_eq (by rw [(am_2 (by omega) g3).1,(am_2 (by omega) g3).2]))
  ·have g3:=(cnd_not_f cnd_id_t) h3
   refine k_req ((span_d g3).2.1) ?_
   exact k_out (Ent.of_eq (by rw [(am_3 (by omega) g3).1,(am_3 (by omega) g3).2]))
abbrev kHS270:List AV:=[AV.agg [Zi 0,Zi 0,Zi 0,Zi 0,Zi 0,Zi 0,Zi 0,Zi 0,Zi 0,Zi 0,Zi 0],AV.bool false]
theorem efind_f (R:Nat→Nat→Int) (n:Nat) (c:Coin) (hn:n≤1000):Pure Tryz.prog gl0 69 [recs n R,.int .i64 c.bank,.int .i64 c.epoch,.int .i64 c.denom] (.int .i64 (recF R n c)):=efind_c R n c.bank c.epoch c.denom hn
theorem record_c (R:Nat→Nat→Int) (n:Nat) (c:Coin) (hn:n≤1000):Pure Tryz.prog gl0 36 [recs n R,c.av] (.tup [recA R n c,.bool (decide (recF R n c≥0))]):=by
 have c1:=efind_f R n c hn
 have l:=recF_lt R n c
 refine pure_sk (own:=ow0) Tryz.func36 (by kernel_rfl) mixed (by kernel_rfl)
  (let y0:Nat:=(Int.toNat (recF R n c));let y1:AV:=(AV.tup [recA R n c,AV.bool (decide (recF R n c≥0))]);(.sc (true) 69 ([AV.isl 11 n fun (i j:Nat)=>Zi (R i j),Zi c.1,Zi c.2,Zi c.3]) (Zi (recF R n c)) (.br (decide (recF R n c<0)) (.out (AV.tup kHS270) [] y1 []) (.req ((0:Int)≤recF R n c∧recF R n c<(↑n:Int)) (.out (AV.tup [AV.agg [Zi (R y0 0),Zi (R y0 1),Zi (R y0 2),Zi (R y0 3),Zi (R y0 4),Zi (R y0 5),Zi (R y0 6),Zi (R y0 7),Zi (R y0 8),Zi (R y0 9),Zi (R y0 10)],AV.bool true]) [] y1 [])))))
  (by kernel_rfl) ?_
 refine k_sc (c1) ?_
 refine k_br (fun h1=>?_) (fun h1=>?_)
 ·have g1:=cnd_dec_t h1
  exact k_out (Ent.of_eq (by rw [recA_no g1,decide_eq_false (by omega)]))
 ·have g1:=cnd_dec_f h1
  refine k_req (by omega) ?_
  exact k_out (Ent.of_eq (by rw [recA_yes g1,decide_eq_true (by omega)]))
theorem camount_c (R:Nat→Nat→Int) (n:Nat) (h:Chn) (hn:n≤1000):Pure Tryz.prog gl0 24 [recs n R,h.av] (.tup [.int .i64 (caV R n h.first),.int .i64 (caE R n h.first)]):=by
 have c1:=record_c R n h.first.coin hn
 have c2:=fun k0 k1 k2 v d k5 k6 k7 k8 k9 k10=>amount_g k0 k1 k2 v d k5 k6 k7 k8 k9 k10 h.first
 refine pure_sk (own:=ow0) Tryz.func24 (by kernel_rfl) mixed (by kernel_rfl)
  (let y0:AV:=(AV.tup [Zi (caV R n (Chn.first h)),Zi (caE R n (Chn.first h))]);(.sc (true) 36 ([AV.isl 11 n fun (i j:Nat)=>Zi (R i j),AV.agg (Zi (Chn.first h).1::Zi (Chn.first h).2::Zi (Chn.first h).3::Zi (Chn.first h).4::Zi (Chn.first h).5::(u8c (Chn.first h).6++[Zi (Chn.first h).7,Zi (Chn.first h).8,Zi (Chn.first h).9,Zi (Chn.first h).10]))]) (AV.tup [recA R n (Spend.coin (Chn.first h)),AV.bool (decide (recF R n (Spend.coin (Chn.first h))≥0))]) (.br (!decide (recF R n (Spend.coin h.1)≥0)) (.out (AV.tup [Zi 0,Zi 18]) [] y0 []) (.sc (true) 63 ([AV.agg [Zi (recC R n (Spend.coin h.1) 0),Zi (recC R n (Spend.coin h.1) 1),Zi (recC R n (Spend.coin h.1) 2),Zi (recC R n (Spend.coin h.1) 3),Zi (recC R n (Spend.coin h.1) 4),Zi (recC R n (Spend.coin h.1) 5),Zi (recC R n (Spend.coin h.1) 6),Zi (recC R n (Spend.coin h.1) 7),Zi (recC R n (Spend.coin h.1) 8),Zi (recC R n (Spend.coin h.1) 9),Zi (recC R n (Spend.coin h.1) 10)],AV.agg (Spend.cells (Chn.first h))]) (AV.tup [Zi (amV (recC R n (Spend.coin h.1) 3) (recC R n (Spend.coin h.1) 4) (Spend.level (Chn.first h)) (Spend.index (Chn.first h))),Zi (amE (recC R n (Spend.coin h.1) 3) (recC R n (Spend.coin h.1) 4) (Spend.level (Chn.first h)) (Spend.index (Chn.first h)))]) (.out (AV.tup [Zi (amV (recC R n (Spend.coin h.1) 3) (recC R n (Spend.coin h.1) 4) (Chn.first h).11 (Chn.first h).12),Zi (amE (recC R n (Spend.coin h.1) 3) (recC R n (Spend.coin h.1) 4) (Chn.first h).11 (Chn.first h).12)]) [] y0 [])))))
  (by kernel_rfl) ?_
 refine k_sc (c1) ?_
 refine k_br (fun h1=>?_) (fun h1=>?_)
 ·have g1:=(cnd_not_t cnd_dec_f) h1
  exact k_out (Ent.of_eq (by rw [caV,caE,if_neg g1,if_neg g1]))
 ·have g1:=(cnd_not_f cnd_dec_t) h1
  refine k_sc (c2 (recC R n (Spend.coin h.1) (0)) (recC R n (Spend.coin h.1) (1)) (recC R n (Spend.coin h.1) (2)) (recC R n (Spend.coin h.1) (3)) (recC R n (Spend.coin h.1) (4)) (recC R n (Spend.coin h.1) (5)) (recC R n (Spend.coin h.1) (6)) (recC R n (Spend.coin h.1) (7)) (recC R n (Spend.coin h.1) (8)) (recC R n (Spend.coin h.1) (9)) (recC R n (Spend.coin h.1) (10))) ?_
  exact k_out (Ent.of_eq (by rw [caV,caE,if_pos g1,if_pos g1]))
end Go.Proofs.YtolcfdcoidpieaaGreatDoor

namespace Go.Sp
open Go Go.Am
def bN (s : ByteArray) : List Nat := s.data.toList.map UInt8.toNat
def tagN (s : ByteArray) (E : List Nat) : List Nat := shaN (shaN (bN s) ++ (shaN (bN s) ++ E))
theorem shaN_len (l : List Nat) : (shaN l).length = 32 := by unfold shaN outN; rw [List.length_map, List.length_range]
theorem bN_len (s : ByteArray) : (bN s).length = s.size := by unfold bN; rw [List.length_map]; rfl
theorem str_n (s : ByteArray) (i : Nat) (hi : i < (bN s).length) : strF s i = ((bN s).getD i 0 : Nat) := by
  unfold strF bN
  unfold bN at hi
  rw [List.length_map] at hi
  simp [List.getD_eq_getElem?_getD, List.getElem?_eq_getElem hi]
theorem tag_n (s : ByteArray) {E : List Nat} {f : Nat → Int} (hf : ∀ i, i < E.length → f i = (E.getD i 0 : Nat)) (i : Nat) (hi : i < 32) : tagF s E.length f i = ((tagN s E).getD i 0 : Nat) := by
  have hl : (shaN (bN s) ++ (shaN (bN s) ++ E)).length = 64 + E.length := by simp [shaN_len]; omega
  have h := sha_n (l := shaN (bN s) ++ (shaN (bN s) ++ E)) (f := tagC (shaF s.size (strF s)) f) (fun j hj => by
    have ht : ∀ k, k < 32 → shaF s.size (strF s) k = ((shaN (bN s)).getD k 0 : Nat) := fun k hk => by
      rw [← bN_len s]
      exact sha_n (str_n s) k hk
    have l32 := shaN_len (bN s)
    unfold tagC
    by_cases h1 : j < 32
    · rw [blt_t (show j < 64 by omega), blt_t h1, List.getD_eq_getElem?_getD, List.getElem?_append_left (by omega), ← List.getD_eq_getElem?_getD]
      exact ht j h1
    · by_cases h2 : j < 64
      · rw [blt_t h2, blt_f (by omega), List.getD_eq_getElem?_getD, List.getElem?_append_right (by omega), l32, List.getElem?_append_left (by omega), ← List.getD_eq_getElem?_getD]
        exact ht (j - 32) (by omega)
      · rw [blt_f (by omega), List.getD_eq_getElem?_getD, List.getElem?_append_right (by omega), l32, List.getElem?_append_right (by omega), l32, ← List.getD_eq_getElem?_getD, show j - 32 - 32 = j - 64 by omega]
        exact hf (j - 64) (by omega)) i hi
  rw [hl] at h
  exact h
theorem tagI_n (s : ByteArray) {x : It} (hx : x.okB) (i : Nat) (hi : i < 32) : tagI s x i = ((tagN s (x.enc.map Int.toNat)).getD i 0 : Nat) := by
  have hl : (x.enc.map Int.toNat).length = x.enc.length := List.length_map _
  have h := tag_n s (E := x.enc.map Int.toNat) (f := fun i => x.enc.getD i 0) (fun i hi => by
    have hi' : i < x.enc.length := by omega
    have b := It.enc_by hx i hi'
    show x.enc.getD i 0 = _
    have e : (x.enc.map Int.toNat).getD i 0 = (x.enc.getD i 0).toNat := by simp [List.getD_eq_getElem?_getD, List.getElem?_eq_getElem hi']
    rw [e]
    have : 0 ≤ x.enc.getD i 0 := b.1
    omega) i hi
  rw [hl] at h
  exact h
theorem hash_congr {n : Nat} {F G : Nat → Nat → Int} (h : ∀ i, i < n → ∀ j, j < 32 → F i j = G i j) : (hashI n F).enc = (hashI n G).enc := by
  show It.encP n (fun i => It.byt 32 (F i)) n = It.encP n (fun i => It.byt 32 (G i)) n
  have : ∀ k, k ≤ n → It.encP n (fun i => It.byt 32 (F i)) k = It.encP n (fun i => It.byt 32 (G i)) k := fun k hk => by
    induction k with
    | zero => rw [It.encP_zero, It.encP_zero]
    | succ k ih =>
      rw [It.encP_succ, It.encP_succ, ih (by omega)]
      congr 1
      show 2 :: (nbL _ 4 ++ (List.range 32).map (F k)) = 2 :: (nbL _ 4 ++ (List.range 32).map (G k))
      congr 2
      exact List.map_congr_left fun j hj => h k (by omega) j (List.mem_range.1 hj)
  exact this n (Nat.le_refl _)
theorem tagI_congr {s : ByteArray} {x y : It} (h : x.enc = y.enc) : tagI s x = tagI s y := by unfold tagI; rw [h]
def asF (l : List Nat) (i : Nat) : Int := (l.getD i 0 : Nat)
theorem zero_by : byB (fun _ => 0) 32 := fun _ _ => by show (0 : Int) ≤ 0 ∧ (0 : Int) < 256; decide
def coinN (c : Coin) : List Nat := tagN "specie/coin-item".toUTF8 (c.it.enc.map Int.toNat)
def nameN (c : Coin) : List Nat := tagN "specie/chain-next".toUTF8 ((hashI 2 (two (asF (coinN c)) fun _ => 0)).enc.map Int.toNat)
theorem coin_n {c : Coin} (hr : byB c.root 32) (i : Nat) (hi : i < 32) : c.dig i = asF (coinN c) i := tagI_n _ (Coin.it_okB hr) i hi
theorem name_n {c : Coin} (hr : byB c.root 32) (i : Nat) (hi : i < 32) : nameF c (fun _ => 0) i = asF (nameN c) i := by
  have hb : byB (asF (coinN c)) 32 := fun j hj => by rw [← coin_n hr j hj]; exact c.dig_by j hj
  have e : (hashI 2 (two c.dig fun _ => 0)).enc = (hashI 2 (two (asF (coinN c)) fun _ => 0)).enc := hash_congr fun k hk j hj => match k, hk with
    | 0, _ => coin_n hr j hj
    | 1, _ => rfl
  unfold nameF
  rw [tagI_congr e]
  exact tagI_n _ (hash_okB (two_by hb zero_by)) i hi
theorem names_ne : nameF (cA 2) (fun _ => 0) 0 ≠ nameF (cA 3) (fun _ => 0) 0 := by
  rw [name_n zero_by 0 (by decide), name_n zero_by 0 (by decide)]
  decide +kernel
def spendN (s : Spend) : List Nat := tagN "specie/spend-item".toUTF8 (s.it.enc.map Int.toNat)
def chainN (S : Nat → Spend) (n : Nat) : List Nat := tagN "specie/chain".toUTF8 ((hashI n fun i => asF (spendN (S i))).enc.map Int.toNat)
theorem spend_n {s : Spend} (h : s.Sm) (i : Nat) (hi : i < 32) : s.dig i = asF (spendN s) i := tagI_n _ (Spend.it_okB h) i hi
theorem chain_n {S : Nat → Spend} {n : Nat} (hn : n ≠ 0) (hs : ∀ i, i < n → (S i).Sm) (i : Nat) (hi : i < 32) : chainF S n i = asF (chainN S n) i := by
  have hb : ∀ k, k < n → byB (asF (spendN (S k))) 32 := fun k hk j hj => by rw [← spend_n (hs k hk) j hj]; exact Spend.dig_by _ j hj
  have e : (hashI n fun i => (S i).dig).enc = (hashI n fun i => asF (spendN (S i))).enc := hash_congr fun k hk j hj => spend_n (hs k hk) j hj
  rw [chainF_1 hn, tagI_congr e]
  exact tagI_n _ (hash_okB hb) i hi
theorem zero_sm : Spend.zero.Sm := ⟨⟨zero_by, zero_by⟩, fun j hj => absurd hj (Nat.not_lt_zero _), by decide, by decide⟩
def chn0 : Chn := ⟨.zero, 0, fun _ => .zero⟩
def chn1 : Chn := ⟨.zero, 1, fun _ => .zero⟩
theorem sm01 (h : Chn) (h1 : h.first = .zero) (h2 : ∀ i, h.l i = .zero) (i : Nat) : (chnS h i).Sm := by
  cases i with
  | zero => show h.first.Sm; rw [h1]; exact zero_sm
  | succ i => show (h.l i).Sm; rw [h2]; exact zero_sm
theorem chains_ne : chnD chn0 0 ≠ chnD chn1 0 := by
  rw [chnD_0 (by decide), chnD_0 (by decide), chain_n (by decide) (fun i _ => sm01 chn0 rfl (fun _ => rfl) i) 0 (by decide), chain_n (by decide) (fun i _ => sm01 chn1 rfl (fun _ => rfl) i) 0 (by decide)]
  decide +kernel
theorem entL_app35 {os : List (Option Ob)} {a a' b b' : List AV} (h : EntL os a a') (h' : EntL os b b') : EntL os (a ++ b) (a' ++ b') := EntL.app h h'
def AllCl : List AV → Prop | [] => True | a :: l => Cl a ∧ AllCl l
theorem allCl_at : ∀ {l : List AV} {j : Nat}, AllCl l → j < l.length → Cl (atL l j)
  | _ :: _, 0, h, _ => h.1
  | a :: l, j + 1, h, hj => allCl_at (l := l) (j := j) h.2 (by simpa using hj)
theorem zero_all : AllCl Spend.zero.cells := by
  show AllCl (Spend.zero.cw (lvs 0 _) (hss 0 _))
  unfold Spend.cw
  repeat' (first | exact .int | exact .isl (fun _ _ h _ => absurd h (Nat.not_lt_zero _)) | exact trivial | refine ⟨?_, ?_⟩)
theorem zero_cl (j : Nat) (hj : j < 80) : Cl (atL Spend.zero.cells j) := allCl_at zero_all hj
end Go.Sp
namespace Go.Sp
open Go Go.Am
structure Spend.SB (s : Spend) : Prop where
  by_ : s.By
  path : ∀ j, j < s.np → byB (s.pf j) 32
end Go.Sp

namespace Go.Proofs.YtolcfdcoidpieaaGreatDoor
open Go Go.Am Go.Sp
set_option maxRecDepth 100000
theorem ex_ctx (a:Int):Pure Tryz.prog gl0 27 [exB35.av,(cA a).av,.agg (u8c fun _=>0),.int .i64 5,.int .i64 3] (.tup [(⟨nameF (cA a) (fun _=>0),5,3⟩:Cxt).av,.int .i64 0]):=by
 have c1:=ccontext_c exB35 (cA a) (fun _=>0) 5 3 exB35_w (fun _ _=>by show (0:Int)≤0∧(0:Int)<256;decide) (fun _ _=>by show (0:Int)≤0∧(0:Int)<256;decide)
 have e:=cc_0 (b:=exB35) (c:=cA a) (f:=fun _=>0) (t:=5) (n:=3) exB35_ok (ctx_yes2 (by decide))
 rw [e.1,e.2] at c1
 exact c1
theorem awake35_w (N2 N3 D0 D1:Nat→Int) (c1:Pure Tryz.prog gl0 27 [exB35.av,(cA 2).av,.agg (u8c fun _=>0),.int .i64 5,.int .i64 3] (.tup [(⟨N2,5,3⟩:Cxt).av,.int .i64 0]))
  (c2:Pure Tryz.prog gl0 27 [exB35.av,(cA 3).av,.agg (u8c fun _=>0),.int .i64 5,.int .i64 3] (.tup [(⟨N3,5,3⟩:Cxt).av,.int .i64 0]))
  (c3:Pure Tryz.prog gl0 28 [.agg (Spend.zero.cw .nsl .nsl++[.nsl])] (.agg (u8c D0))) (c4:Pure Tryz.prog gl0 28 [.agg (Spend.zero.cw .nsl .nsl++[.isl 80 1 fun _ k=>atL (Spend.zero.cw .nsl .nsl) k])] (.agg (u8c D1))) (hN:(N2 0==N3 0)=false) (hD:(D0 0==D1 0)=false):Pure Tryz.prog gl0 7 [] (.bool true):=by
 refine pure_sk (own:=ow0) Tryz.func7 (by kernel_rfl) mixed (by kernel_rfl)
  (let y0:List AV:=[Zb 0,Zb 0,Zb 0,Zb 0,Zb 0,Zb 0,Zb 0,Zb 0,Zb 0,Zb 0,Zb 0,Zb 0,Zb 0,Zb 0,Zb 0,Zb 0,Zb 0,Zb 0,Zb 0,Zb 0,Zb 0,Zb 0,Zb 0,Zb 0,Zb 0,Zb 0,Zb 0,Zb 0,Zb 0,Zb 0,Zb 0,Zb 0];(.sc (true) 27 ([AV.agg [Zi 23,Zi 11,Zi 4,Zi 2,Zi 3,Zi 9],AV.agg [Zi 0,Zi 0,Zi 0,Zi 0,Zi 2,Zb 0,Zb 0,Zb 0,Zb 0,Zb 0,Zb 0,Zb 0,Zb 0,Zb 0,Zb 0,Zb 0,Zb 0,Zb 0,Zb 0,Zb 0,Zb 0,Zb 0,Zb 0,Zb 0,Zb 0,Zb 0,Zb 0,Zb 0,Zb 0,Zb 0,Zb 0,Zb 0,Zb 0,Zb 0,Zb 0,Zb 0,Zb 0,Zi 0,Zi 0,Zi 0,Zi 0],AV.agg y0,Zi 5,Zi 3]) (AV.tup [Cxt.av { payee:=N2,time:=(5:Int),number:=(3:Int) },Zi 0]) (.sc (true) 27 ([AV.agg [Zi 23,Zi 11,Zi 4,Zi 2,Zi 3,Zi 9],AV.agg [Zi 0,Zi 0,Zi 0,Zi 0,Zi 3,Zb 0,Zb 0,Zb 0,Zb 0,Zb 0,Zb 0,Zb 0,Zb 0,Zb 0,Zb 0,Zb 0,Zb 0,Zb 0,Zb 0,Zb 0,Zb 0,Zb 0,Zb 0,Zb 0,Zb 0,Zb 0,Zb 0,Zb 0,Zb 0,Zb 0,Zb 0,Zb 0,Zb 0,Zb 0,Zb 0,Zb 0,Zb 0,Zi 0,Zi 0,Zi 0,Zi 0],AV.agg y0,Zi 5,Zi 3]) (AV.tup [Cxt.av { payee:=N3,time:=(5:Int),number:=(3:Int) },Zi 0]) (.sc (((5:Int)==5&&(3:Int)==3 && !(N2 0==N3 0&&(N2 1==N3 1&&(N2 2==N3 2&&(N2 3==N3 3&&(N2 4==N3 4&&(N2 5==N3 5&&(N2 6==N3 6&&(N2 7==N3 7&&(N2 8==N3 8&&(N2 9==N3 9&&(N2 10==N3 10&&(N2 11==N3 11&&(N2 12==N3 12&&(N2 13==N3 13&&(N2 14==N3 14&&(N2 15==N3 15&&(N2 16==N3 16&&(N2 17==N3 17&&(N2 18==N3 18&&(N2 19==N3 19&&(N2 20==N3 20&&(N2 21==N3 21&&(N2 22==N3 22&&(N2 23==N3 23&&(N2 24==N3 24&&(N2 25==N3 25&&(N2 26==N3 26&&(N2 27==N3 27&&(N2 28==N3 28&&(N2 29==N3 29&&(N2 30==N3 30&&(N2 31==N3 31&&true)))))))))))))))))))))))))))))))))==true) 28 ([AV.agg [Zi 0,Zi 0,Zi 0,Zi 0,Zi 0,Zb 0,Zb 0,Zb 0,Zb 0,Zb 0,Zb 0,Zb 0,Zb 0,Zb 0,Zb 0,Zb 0,Zb 0,Zb 0,Zb 0,Zb 0,Zb 0,Zb 0,Zb 0,Zb 0,Zb 0,Zb 0,Zb 0,Zb 0,Zb 0,Zb 0,Zb 0,Zb 0,Zb 0,Zb 0,Zb 0,Zb 0,Zb 0,Zi 0,Zi 0,Zi 0,Zi 0,Zi 0,Zi 0,Zb 0,Zb 0,Zb 0,Zb 0,Zb 0,Zb 0,Zb 0,Zb 0,Zb 0,Zb 0,Zb 0,Zb 0,Zb 0,Zb 0,Zb 0,Zb 0,Zb 0,Zb 0,Zb 0,Zb 0,Zb 0,Zb 0,Zb 0,Zb 0,Zb 0,Zb 0,Zb 0,Zb 0,Zb 0,Zb 0,Zb 0,Zb 0,Zi 0,Zi 0,AV.nsl,Zi 0,AV.nsl,AV.nsl]]) (AV.agg (u8c D0)) (.req ((((5:Int)==5&&(3:Int)==3 && !(N2 0==N3 0&&(N2 1==N3 1&&(N2 2==N3 2&&(N2 3==N3 3&&(N2 4==N3 4&&(N2 5==N3 5&&(N2 6==N3 6&&(N2 7==N3 7&&(N2 8==N3 8&&(N2 9==N3 9&&(N2 10==N3 10&&(N2 11==N3 11&&(N2 12==N3 12&&(N2 13==N3 13&&(N2 14==N3 14&&(N2 15==N3 15&&(N2 16==N3 16&&(N2 17==N3 17&&(N2 18==N3 18&&(N2 19==N3 19&&(N2 20==N3 20&&(N2 21==N3 21&&(N2 22==N3 22&&(N2 23==N3 23&&(N2 24==N3 24&&(N2 25==N3 25&&(N2 26==N3 26&&(N2 27==N3 27&&(N2 28==N3 28&&(N2 29==N3 29&&(N2 30==N3 30&&(N2 31==N3 31&&true)))))))))))))))))))))))))))))))))==true)=true→(0:Int)≤1∧(1:Int)=(1:Int)∧(↑(224):Int)*1≤140737488355328∧(1:Int)≤9223372036854775807) (.sc (((5:Int)==5&&(3:Int)==3 && !(N2 0==N3 0&&(N2 1==N3 1&&(N2 2==N3 2&&(N2 3==N3 3&&(N2 4==N3 4&&(N2 5==N3 5&&(N2 6==N3 6&&(N2 7==N3 7&&(N2 8==N3 8&&(N2 9==N3 9&&(N2 10==N3 10&&(N2 11==N3 11&&(N2 12==N3 12&&(N2 13==N3 13&&(N2 14==N3 14&&(N2 15==N3 15&&(N2 16==N3 16&&(N2 17==N3 17&&(N2 18==N3 18&&(N2 19==N3 19&&(N2 20==N3 20&&(N2 21==N3 21&&(N2 22==N3 22&&(N2 23==N3 23&&(N2 24==N3 24&&(N2 25==N3 25&&(N2 26==N3 26&&(N2 27==N3 27&&(N2 28==N3 28&&(N2 29==N3 29&&(N2 30==N3 30&&(N2 31==N3 31&&true)))))))))))))))))))))))))))))))))==true) 28 ([AV.agg [Zi 0,Zi 0,Zi 0,Zi 0,Zi 0,Zb 0,Zb 0,Zb 0,Zb 0,Zb 0,Zb 0,Zb 0,Zb 0,Zb 0,Zb 0,Zb 0,Zb 0,Zb 0,Zb 0,Zb 0,Zb 0,Zb 0,Zb 0,Zb 0,Zb 0,Zb 0,Zb 0,Zb 0,Zb 0,Zb 0,Zb 0,Zb 0,Zb 0,Zb 0,Zb 0,Zb 0,Zb 0,Zi 0,Zi 0,Zi 0,Zi 0,Zi 0,Zi 0,Zb 0,Zb 0,Zb 0,Zb 0,Zb 0,Zb 0,Zb 0,Zb 0,Zb 0,Zb 0,Zb 0,Zb 0,Zb 0,Zb 0,Zb 0,Zb 0,Zb 0,Zb 0,Zb 0,Zb 0,Zb 0,Zb 0,Zb 0,Zb 0,Zb 0,Zb 0,Zb 0,Zb 0,Zb 0,Zb 0,Zb 0,Zb 0,Zi 0,Zi 0,AV.nsl,Zi 0,AV.nsl,AV.isl 80 1 fun (r k:Nat)=>atL [Zi 0,Zi 0,Zi 0,Zi 0,Zi 0,Zb 0,Zb 0,Zb 0,Zb 0,Zb 0,Zb 0,Zb 0,Zb 0,Zb 0,Zb 0,Zb 0,Zb 0,Zb 0,Zb 0,Zb 0,Zb 0,Zb 0,Zb 0,Zb 0,Zb 0,Zb 0,Zb 0,Zb 0,Zb 0,Zb 0,Zb 0,Zb 0,Zb 0,Zb 0,Zb 0,Zb 0,Zb 0,Zi 0,Zi 0,Zi 0,Zi 0,Zi 0,Zi 0,Zb 0,Zb 0,Zb 0,Zb 0,Zb 0,Zb 0,Zb 0,Zb 0,Zb 0,Zb 0,Zb 0,Zb 0,Zb 0,Zb 0,Zb 0,Zb 0,Zb 0,Zb 0,Zb 0,Zb 0,Zb 0,Zb 0,Zb 0,Zb 0,Zb 0,Zb 0,Zb 0,Zb 0,Zb 0,Zb 0,Zb 0,Zb 0,Zi 0,Zi 0,AV.nsl,Zi 0,AV.nsl] k]]) (AV.agg (u8c D1)) (.out (AV.bool ((5:Int)==5&&(3:Int)==3 && !(N2 0==N3 0&&(N2 1==N3 1&&(N2 2==N3 2&&(N2 3==N3 3&&(N2 4==N3 4&&(N2 5==N3 5&&(N2 6==N3 6&&(N2 7==N3 7&&(N2 8==N3 8&&(N2 9==N3 9&&(N2 10==N3 10&&(N2 11==N3 11&&(N2 12==N3 12&&(N2 13==N3 13&&(N2 14==N3 14&&(N2 15==N3 15&&(N2 16==N3 16&&(N2 17==N3 17&&(N2 18==N3 18&&(N2 19==N3 19&&(N2 20==N3 20&&(N2 21==N3 21&&(N2 22==N3 22&&(N2 23==N3 23&&(N2 24==N3 24&&(N2 25==N3 25&&(N2 26==N3 26&&(N2 27==N3 27&&(N2 28==N3 28&&(N2 29==N3 29&&(N2 30==N3 30&&(N2 31==N3 31&&true)))))))))))))))))))))))))))))))) && !(D0 0==D1 0&&(D0 1==D1 1&&(D0 2==D1 2&&(D0 3==D1 3&&(D0 4==D1 4&&(D0 5==D1 5&&(D0 6==D1 6&&(D0 7==D1 7&&(D0 8==D1 8&&(D0 9==D1 9&&(D0 10==D1 10&&(D0 11==D1 11&&(D0 12==D1 12&&(D0 13==D1 13&&(D0 14==D1 14&&(D0 15==D1 15&&(D0 16==D1 16&&(D0 17==D1 17&&(D0 18==D1 18&&(D0 19==D1 19&&(D0 20==D1 20&&(D0 21==D1 21&&(D0 22==D1 22&&(D0 23==D1 23&&(D0 24==D1 24&&(D0 25==D1 25&&(D0 26==D1 26&&(D0 27==D1 27&&(D0 28==D1 28&&(D0 29==D1 29&&(D0 30==D1 30&&(D0 31==D1 31&&true)))))))))))))))))))))))))))))))))) [] (AV.bool true) [])))))))
  (by kernel_rfl) ?_
 refine k_sc (c1) ?_
 refine k_sc (c2) ?_
 refine k_scg (fun h2=>c3) ?_
 refine k_req (fun hr=>by have hr:=(cnd_eqt_t (cnd_and_t (cnd_and_t cnd_beq_t cnd_beq_t) (cnd_not_t (cnd_and_f cnd_beq_f (cnd_and_f cnd_beq_f (cnd_and_f cnd_beq_f (cnd_and_f cnd_beq_f (cnd_and_f cnd_beq_f (cnd_and_f cnd_beq_f (cnd_and_f cnd_beq_f (cnd_and_f cnd_beq_f (cnd_and_f cnd_beq_f (cnd_and_f cnd_beq_f (cnd_and_f cnd_beq_f (cnd_and_f cnd_beq_f (cnd_and_f cnd_beq_f (cnd_and_f cnd_beq_f (cnd_and_f cnd_beq_f (cnd_and_f cnd_beq_f (cnd_and_f cnd_beq_f (cnd_and_f cnd_beq_f (cnd_and_f cnd_beq_f (cnd_and_f cnd_beq_f (cnd_and_f cnd_beq_f (cnd_and_f cnd_beq_f (cnd_and_f cnd_beq_f (cnd_and_f cnd_beq_f (cnd_and_f cnd_beq_f (cnd_and_f cnd_beq_f (cnd_and_f cnd_beq_f (cnd_and_f cnd_beq_f (cnd_and_f cnd_beq_f (cnd_and_f cnd_beq_f (cnd_and_f cnd_beq_f (cnd_and_f cnd_beq_f cnd_id_f))))))))))))))))))))))))))))))))))) hr;omega) ?_
 refine k_scg (fun h4=>c4) ?_
 exact k_out (Ent.of_eq (congrArg AV.bool (by simp [hN,hD])))
theorem awake35_c:Pure Tryz.prog gl0 7 [] (.bool true):=by
 refine awake35_w _ _ _ _ (ex_ctx 2) (ex_ctx 3) ?_ ?_ (beq_eq_false_iff_ne.2 names_ne) (beq_eq_false_iff_ne.2 chains_ne)
 ·exact (cdigest_c chn0 (by decide) (fun i _=>sm01 chn0 rfl (fun _=>rfl) i)).via ⟨Ent.agg (entL_app35 zero_ent ⟨Ent.nsl,trivial⟩),trivial⟩
 ·exact (cdigest_c chn1 (by decide) (fun i _=>sm01 chn1 rfl (fun _=>rfl) i)).via ⟨Ent.agg (entL_app35 zero_ent ⟨Ent.islE (fun i j _ hj=>⟨Ent.atL zero_ent j,zero_cl j hj⟩),trivial⟩),trivial⟩
theorem containsF_c (n:Nat) (f:Nat→Int) (v:Int) (hn:n≤1000):Pure Tryz.prog gl0 75 [.isl 1 n fun i _=>.int .i64 (f i),.int .i64 v] (.bool (decide (v∈(List.range n).map f))) :=
 (containsN_c ((List.range n).map f) v (by simp;omega)).via ⟨map_ent,Ent.refl _,trivial⟩
theorem tverS_c (r h:Nat→Int) (i l:Int) (n:Nat) (P:Nat→Nat→Int) (hl:0≤l∧l≤5) (hn:n≤1000000) (hi:0≤i∧i<2^l.toNat) (hh:byB h 32) (hP:∀ k,k<n→byB (P k) 32) :
  Pure Tryz.prog gl0 78 [.agg (u8c r),.agg (u8c h),.int .i64 l,.agg [.int .i64 i,hsl n P]] (.bool ((n:Int)==l&&hEq (folF h i P n) r)):=by
 obtain ⟨m,rfl⟩:∃ m:Nat,l=m:=⟨l.toNat,by omega⟩
 have hi2:i<((2^m:Nat):Int):=by
  have:=hi.2
  rw [show (m:Int).toNat=m by omega] at this
  rw [Int.natCast_pow]
  exact this
 by_cases e:n=m
 ·subst e
  rw [show ((n:Int)==(n:Int))=true by simp,Bool.true_and]
  exact tver_ok r h i n P (by omega) hi.1 hi2 hh hP
 ·rw [show ((n:Int)==(m:Int))=false by simp;omega,Bool.false_and]
  exact tver_no r h i m n P (by omega) e hn hi.1 hi2
theorem trootS_c (n d:Nat) (h:Nat→Nat→Int) (hn:n=2^d) (hd:d≤5) (hb:∀ i,i<n→byB (h i) 32):Pure Tryz.prog gl0 77 [hsl n h] (.tup [.agg (u8c (treF h d 0)),.int .i64 0]):=by
 subst hn
 exact troot_c d hd h hb
theorem vfy_c (b:Bas) (r:Rcd) (s:Spend) (hw:b.gr.W) (hr:byB s.root 32) (hp:byB s.payee 32) (hf:∀ k,k<s.np→byB (s.pf k) 32) (hn:s.np≤1000000) (hl:s.nl≤1000):Pure Tryz.prog gl0 37 [b.av,r.av,s.av] (.bool (vfy b r s)):=by
 have c1:=cval_c b r s.coin hw hr
 have c2:=node_c s.depth s.level s.index
 have c3:=context_c s.cxt
 have c4:=chal_c b s.coin s.level s.index s.cxt hr hp
 have c5:=fun x r1 r2 hv ha hk=>sright_c b s.a (chS b s) x r1 r2 hw hv ha hk
 have c6:=fun N h1 h2 h3 h4=>chash_n b N h1 h2 (lbF s) hw h3 h4
 have c7:=fun n h1 h2 h3=>trootS_c n (dpN s) (fun i=>leafF (lbF s i)) h1 h2 h3
 have c8:=fun h1 h2 h3=>tverS_c s.root (topF s) s.pidx s.level s.np s.pf h1 hn h2 h3 hf
 refine pure_sk (own:=ow0) Tryz.func37 (by kernel_rfl) mixed (by kernel_rfl)
  (.sc (true) 70 ([AV.agg (Bas.cells b),AV.agg (Rcd.cells r),AV.agg (Zi s.1::Zi s.2::Zi s.3::Zi s.4::Zi s.5::(u8c s.6++[Zi s.7,Zi s.8,Zi s.9,Zi s.10]))]) (AV.bool (coinV b r (Spend.coin s))) (.sc ((!coinV b r (Spend.coin s))==false) 71 ([Zi s.4,AV.agg [Zi s.11,Zi s.12]]) (AV.bool (nodeB (Spend.depth s) (Spend.level s) (Spend.index s))) (.sc ((!coinV b r (Spend.coin s) || !nodeB s.4 s.11 s.12)==false) 72 ([AV.agg (u8c s.13++[Zi s.14,Zi s.15])]) (AV.bool (ctxB (Cxt.time (Spend.cxt s)) (Cxt.number (Spend.cxt s)))) (.req (((!coinV b r (Spend.coin s) || !nodeB s.4 s.11 s.12 || !ctxB s.14 s.15)==false)=true→(0:Int)≤IntKind.wrap IntKind.i64 (s.4 - s.11)) (.br (!coinV b r (Spend.coin s) || !nodeB s.4 s.11 s.12 || !ctxB s.14 s.15||(↑s.16:Int) != IntKind.wrap IntKind.i64 ((1:Int)*(2:Int)^min (Int.toNat (IntKind.wrap IntKind.i64 (s.4 - s.11))) (64))||s.18 != s.12) (.out (AV.bool false) [] (AV.bool (vfy b r s)) []) (.sc (true) 73 ([AV.agg (Bas.cells b),AV.agg (Zi s.1::Zi s.2::Zi s.3::Zi s.4::Zi s.5::(u8c s.6++[Zi s.7,Zi s.8,Zi s.9,Zi s.10])),AV.agg [Zi s.11,Zi s.12],AV.agg (u8c s.13++[Zi s.14,Zi s.15])]) (Zi (chalN (Grp.q (Bas.gr b)) (Spend.coin s) (Spend.level s) (Spend.index s) (Spend.cxt s))) (.loop ({ x:Nat // x≤Spend.nl s∧(fun (x:Nat)=>∀ (j:Nat),j<x→okL b s j=true) x }) (fun (x:{ x:Nat // x≤Spend.nl s∧(fun (x:Nat)=>∀ (j:Nat),j<x→okL b s j=true) x })=>mkSt [2,3,5,7,67,68,8,69] [AV.agg (Spend.cells s),AV.own (0) (6) (0) (0) (6),AV.own (1) (80) (0) (0) (80),Zi (chalN (Bas.gr b).2 (Spend.coin s) s.11 s.12 (Spend.cxt s)),AV.isl (3) s.16 fun (i j:Nat)=>Zi (s.17 i j),Zi (↑s.16:Int),AV.osl (2:Nat) (1:Nat) (0:Nat) (x.1),Zi (↑(x.1):Int)] [some ⟨6,1,true,Rep.lst [Bas.cells b]⟩,some ⟨80,1,true,Rep.lst [Spend.cells s]⟩,some ⟨(1:Nat),x.1,true,Rep.fn fun (i x:Nat)=>Zi (lbF s i)⟩]) (fun (x:{ x:Nat // x≤Spend.nl s∧(fun (x:Nat)=>∀ (j:Nat),j<x→okL b s j=true) x })=>Spend.nl s - x.1) (⟨(0:Nat),⟨Nat.zero_le (Spend.nl s),fun (j:Nat) (hj:j<(0:Nat))=>absurd hj (Nat.not_lt_zero j)⟩⟩) ([2,3,5,7,67,68,8,69]) ([0,16,754]) ([AV.agg (Spend.cells s),AV.own (0) (6) (0) (0) (6),AV.own (1) (80) (0) (0) (80),Zi (chalN (Bas.gr b).2 (Spend.coin s) s.11 s.12 (Spend.cxt s)),AV.isl (3) s.16 fun (i j:Nat)=>Zi (s.17 i j),Zi (↑s.16:Int),AV.nsl,Zi 0]) ([some ⟨6,1,true,Rep.lst [Bas.cells b]⟩,some ⟨80,1,true,Rep.lst [Spend.cells s]⟩,some ⟨1,0,true,Rep.lst []⟩]) (fun x7=>(.br (decide ((↑x7.1:Int)<(↑s.16:Int))) (.req ((0:Int)≤(↑x7.1:Int)∧(↑x7.1:Int)<(↑s.16:Int)) (.sc (true) 74 ([AV.agg (Bas.cells b),Zi s.5,Zi (chalN (Bas.gr b).2 (Spend.coin s) s.11 s.12 (Spend.cxt s)),AV.agg [Zi (s.17 (Int.toNat (↑x7.1:Int)) (0)),Zi (s.17 (Int.toNat (↑x7.1:Int)) (1)),Zi (s.17 (Int.toNat (↑x7.1:Int)) (2))]]) (AV.bool (leafB b (Spend.a s) (chS b s) (s.17 (Int.toNat (↑x7.1:Int)) (0)) (s.17 (Int.toNat (↑x7.1:Int)) (1)) (s.17 (Int.toNat (↑x7.1:Int)) (2)))) (.sc ((!leafB b s.5 (chS b s) (s.17 (Int.toNat (↑x7.1:Int)) (0)) (s.17 (Int.toNat (↑x7.1:Int)) (1)) (s.17 (Int.toNat (↑x7.1:Int)) (2)))==false) 75 ([AV.isl (1) x7.1 fun (r k:Nat)=>Zi (lbF s (r+0)),Zi (s.17 (Int.toNat (↑x7.1:Int)) (0))]) (AV.bool (decide (s.17 (Int.toNat (↑x7.1:Int)) (0)∈List.map (fun (i:Nat)=>lbF s (i+0)) (List.range x7.1)))) (.br (!leafB b s.5 (chS b s) (s.17 (Int.toNat (↑x7.1:Int)) (0)) (s.17 (Int.toNat (↑x7.1:Int)) (1)) (s.17 (Int.toNat (↑x7.1:Int)) (2))||decide (s.17 (Int.toNat (↑x7.1:Int)) (0)∈List.map (fun (i:Nat)=>lbF s (i+0)) (List.range x7.1))) (.out (AV.bool false) [] (AV.bool (vfy b r s)) []) (.req ((x7.1+1)*8≤140737488355328) (.again (Again (0) (fun (x:{ x:Nat // x≤Spend.nl s∧(fun (x:Nat)=>∀ (j:Nat),j<x→okL b s j=true) x })=>mkSt [2,3,5,7,67,68,8,69] [AV.agg (Spend.cells s),AV.own (0) (6) (0) (0) (6),AV.own (1) (80) (0) (0) (80),Zi (chalN (Bas.gr b).2 (Spend.coin s) s.11 s.12 (Spend.cxt s)),AV.isl (3) s.16 fun (i j:Nat)=>Zi (s.17 i j),Zi (↑s.16:Int),AV.osl (2:Nat) (1:Nat) (0:Nat) (x.1),Zi (↑(x.1):Int)] [some ⟨6,1,true,Rep.lst [Bas.cells b]⟩,some ⟨80,1,true,Rep.lst [Spend.cells s]⟩,some ⟨(1:Nat),x.1,true,Rep.fn fun (i x:Nat)=>Zi (lbF s i)⟩]) (fun (x:{ x:Nat // x≤Spend.nl s∧(fun (x:Nat)=>∀ (j:Nat),j<x→okL b s j=true) x })=>Spend.nl s - x.1) x7) ([2,3,5,7,67,68,8,69]) ([0,1,187]) ([AV.agg (Spend.cells s),AV.own (0) (6) (0) (0) (6),AV.own (1) (80) (0) (0) (80),Zi (chalN (Bas.gr b).2 (Spend.coin s) s.11 s.12 (Spend.cxt s)),AV.isl (3) s.16 fun (i j:Nat)=>Zi (s.17 i j),Zi (↑s.16:Int),AV.osl (2) (1) (0) (x7.1+1),Zi (IntKind.wrap IntKind.i64 ((↑x7.1:Int)+(1:Int)))]) ([some ⟨6,1,true,Rep.lst [Bas.cells b]⟩,some ⟨80,1,true,Rep.lst [Spend.cells s]⟩,some ⟨1,x7.1+1,true,Rep.fn fun (i j:Nat)=>Zi (bif Nat.blt i x7.1 then lbF s i else intOfAV (atL [Zi (s.17 (Int.toNat (↑(x7.1):Int)) (0))] j))⟩]))))))) (.dc (true) 76 ([AV.agg (Bas.cells b),AV.isl (1) x7.1 fun (r k:Nat)=>Zi (lbF s (r+0))]) (AV.tup [hsl x7.1 fun (i:Nat)=>leafF (lbF s i),Zi 0]) (.ff (.sc (true) 77 ([AV.isl (32) x7.1 fun (i j:Nat)=>Zb (leafF (lbF s i) j)]) (AV.tup [AV.agg (u8c (treF (fun (i:Nat)=>leafF (lbF s i)) (dpN s) (0:Nat))),Zi 0]) (.sc (true) 78 ([AV.agg (u8c s.6),AV.agg (u8c (treF (fun (i:Nat)=>leafF (lbF s i)) (dpN s) (0))),Zi s.11,AV.agg [Zi s.18,AV.isl (32) s.19 fun (i j:Nat)=>Zb (s.20 i j)]]) (AV.bool ((↑(Spend.np s):Int)==Spend.level s&&hEq (folF (topF s) (Spend.pidx s) (Spend.pf s) (Spend.np s)) (Spend.root s))) (.out (AV.bool ((↑s.19:Int)==s.11&&hEq (folF (topF s) s.18 s.20 s.19) s.6)) [] (AV.bool (vfy b r s)) []))))))))))))))
  (by kernel_rfl) ?_
 refine k_sc (c1) ?_
 refine k_scg (fun h1=>c2) ?_
 refine k_scg (fun h2=>c3) ?_
 refine k_req (fun hr=>by have hr:=(cnd_eqf_t (cnd_or_f (cnd_or_f (cnd_not_f cnd_id_t) (cnd_not_f cnd_id_t)) (cnd_not_f cnd_id_t))) hr;have k:=node_t hr.1.2;have e:=(sz_w hr.1.2).2.1;rw [e];omega) ?_
 refine k_br (fun h4=>?_) (fun h4=>?_)
 ·have g4:=(cnd_or_t (cnd_or_t (cnd_or_t (cnd_or_t (cnd_not_t cnd_id_f) (cnd_not_t cnd_id_f)) (cnd_not_t cnd_id_f)) cnd_bne_t) cnd_bne_t) h4
  exact k_out (Ent.of_eq (congrArg _ (hd_no g4).symm))
 ·have g4:=(cnd_or_f (cnd_or_f (cnd_or_f (cnd_or_f (cnd_not_f cnd_id_t) (cnd_not_f cnd_id_t)) (cnd_not_f cnd_id_t)) cnd_bne_f) cnd_bne_f) h4
  refine k_sc (c4 (by (cases hd_ok g4;assumption)) (by (cases hd_ok g4;assumption))) ?_
  refine k_loop (fun _ hs=>hs.le (by repeat' (first|exact trivial|(first|exact Ent.refl _|exact inc_ent (by omega)|exact Ent.nil rfl|exact Ent.of_eq (congrArg (AV.osl _ _ _) (by first|omega|(dsimp only;omega)))|exact Ent.of_eq (congrArg (AV.int _) (by first|omega|(dsimp only;omega))))|refine And.intro ?_ ?_)) (by repeat' (first|exact trivial|(first|exact ObEnt.refl _|exact ObEnt.junk|exact ObEnt.zero|exact ObEnt.push rfl rfl|exact ObEnt.pushRow rfl|exact ObEnt.len (by omega)|exact ObEnt.row (by repeat' (first|exact trivial|(first|exact Ent.refl _|exact inc_ent (by omega)|exact Ent.nil rfl|exact Ent.of_eq (congrArg (AV.osl _ _ _) (by first|omega|(dsimp only;omega)))|exact Ent.of_eq (congrArg (AV.int _) (by first|omega|(dsimp only;omega))))|refine And.intro ?_ ?_)))|refine And.intro ?_ ?_))) (fun x7=>?_)
  try (have q7:=x7.2;dsimp only at q7)
  refine k_br (fun h8=>?_) (fun h8=>?_)
  ·have g8:=cnd_dec_t h8
   refine k_req (by omega) ?_
   refine k_sc (c5 (s.17 (Int.toNat (↑x7.1:Int)) (0)) (s.17 (Int.toNat (↑x7.1:Int)) (1)) (s.17 (Int.toNat (↑x7.1:Int)) (2)) (by (cases hd_ok g4;assumption)) (by (cases hd_ok g4;assumption)) (by (cases hd_ok g4;assumption))) ?_
   refine k_scg (fun h11=>containsF_c (x7.1) (fun (i:Nat)=>lbF s (i+0)) (s.17 (Int.toNat (↑x7.1:Int)) (0)) (by omega)) ?_
   refine k_br (fun h12=>?_) (fun h12=>?_)
   ·have g12:=(cnd_or_t (cnd_not_t cnd_id_f) cnd_dec_t) h12
    try simp only [Int.toNat_natCast] at g12
    exact k_out (Ent.of_eq (congrArg _ (vfy_l (by omega) (okL_no g12)).symm))
   ·have g12:=(cnd_or_f (cnd_not_f cnd_id_t) cnd_dec_f) h12
    try simp only [Int.toNat_natCast] at g12
    refine k_req (by omega) ?_
    exact k_again (⟨x7.1+1,by omega,all_next x7.2.2 (okL_yes g12)⟩) (fun _ hs=>hs.le (by repeat' (first|exact trivial|(first|exact Ent.refl _|exact inc_ent (by omega)|exact Ent.nil rfl|exact Ent.of_eq (congrArg (AV.osl _ _ _) (by first|omega|(dsimp only;omega)))|exact Ent.of_eq (congrArg (AV.int _) (by first|omega|(dsimp only;omega))))|refine And.intro ?_ ?_)) (by repeat' (first|exact trivial|(first|exact ObEnt.refl _|exact ObEnt.junk|exact ObEnt.zero|exact ObEnt.push rfl rfl|exact ObEnt.pushRow rfl|exact ObEnt.len (by omega)|exact ObEnt.row (by repeat' (first|exact trivial|(first|exact Ent.refl _|exact inc_ent (by omega)|exact Ent.nil rfl|exact Ent.of_eq (congrArg (AV.osl _ _ _) (by first|omega|(dsimp only;omega)))|exact Ent.of_eq (congrArg (AV.int _) (by first|omega|(dsimp only;omega))))|refine And.intro ?_ ?_)))|refine And.intro ?_ ?_))) (by (dsimp only;omega))
  ·have g8:=cnd_dec_f h8
   refine k_dc (c6 (x7.1) (by (cases hd_ok g4;rw [show x7.1=s.nl by omega];assumption)) (by (cases hd_ok g4;rw [show x7.1=s.nl by omega];assumption)) (by (cases hd_ok g4;assumption)) (by exact fun i hi=>okL_el (x7.2.2 i hi))) ?_
   refine k_ff ?_
   refine k_sc (c7 (x7.1) (by (cases hd_ok g4;rw [show x7.1=s.nl by omega];assumption)) (by (cases hd_ok g4;assumption)) (by exact fun i _=>leafF_by _)) ?_
   refine k_sc (c8 (by (cases hd_ok g4;assumption)) (by (cases hd_ok g4;assumption)) (by (cases hd_ok g4;assumption))) ?_
   exact k_out (Ent.of_eq (congrArg _ (vfy_t (hd_ok g4).hd (fun i hi=>x7.2.2 i (by omega))).symm))
end Go.Proofs.YtolcfdcoidpieaaGreatDoor

namespace Go.Sp
open Go Go.Am
abbrev rcl (n : Nat) (R : Nat → Nat → Int) : AV := .isl 11 n fun i j => .int .i64 (R i j)
def rcdOf (f : Nat → Int) : Rcd := ⟨f 0, f 1, f 2, f 3, f 4, f 5, f 6, f 7, f 8, f 9, f 10⟩
def fnB (R : Nat → Nat → Int) (k e d : Int) (i : Nat) : Bool := R i 0 == k && R i 1 == e && R i 2 == d
def fnI (R : Nat → Nat → Int) (n : Nat) (k e d : Int) : Int := firstI (fnB R k e d) n 0
def fnS (R : Nat → Nat → Int) (n : Nat) (s : Spend) : Int := fnI R n s.bank s.epoch s.denom
def rcX (R : Nat → Nat → Int) (n : Nat) (s : Spend) : Rcd := bif decide (fnS R n s ≥ 0) then rcdOf (R (fnS R n s).toNat) else rcdOf fun _ => 0
def verd (b : Bas) (R : Nat → Nat → Int) (n : Nat) (s : Spend) : Bool := decide (fnS R n s ≥ 0) && vfy b (rcX R n s) s
theorem fnI_lt {R : Nat → Nat → Int} {n : Nat} {k e d : Int} (h : ¬ fnI R n k e d < 0) : 0 ≤ fnI R n k e d ∧ fnI R n k e d < n := by
  have := firstI_lt (p := fnB R k e d) n 0
  unfold fnI at *
  omega
theorem rcX_no {R : Nat → Nat → Int} {n : Nat} {s : Spend} (h : fnS R n s < 0) : rcX R n s = rcdOf fun _ => 0 := by
  unfold rcX; rw [decide_eq_false (by omega)]; rfl
theorem rcX_ok {R : Nat → Nat → Int} {n : Nat} {s : Spend} (h : ¬ fnS R n s < 0) : rcX R n s = rcdOf (R (fnS R n s).toNat) := by
  unfold rcX; rw [decide_eq_true (by omega)]; rfl
theorem rec_no {R : Nat → Nat → Int} {n : Nat} {s : Spend} (h : fnS R n s < 0) : AV.tup [(rcdOf fun _ => 0).av, .bool false] = .tup [(rcX R n s).av, .bool (decide (fnS R n s ≥ 0))] := by
  rw [rcX_no h, decide_eq_false (by omega)]
theorem rec_ok {R : Nat → Nat → Int} {n : Nat} {s : Spend} (h : ¬ fnS R n s < 0) : AV.tup [(rcdOf (R (fnS R n s).toNat)).av, .bool true] = .tup [(rcX R n s).av, .bool (decide (fnS R n s ≥ 0))] := by
  rw [rcX_ok h, decide_eq_true (by omega)]
theorem fnB_t {R : Nat → Nat → Int} {k e d : Int} {i : Nat} (h : (R i 0 = k ∧ R i 1 = e) ∧ R i 2 = d) : fnB R k e d i = true := by unfold fnB; simp [h]
theorem fnB_f {R : Nat → Nat → Int} {k e d : Int} {i : Nat} (h : (¬ R i 0 = k ∨ ¬ R i 1 = e) ∨ ¬ R i 2 = d) : fnB R k e d i = false := by
  unfold fnB; rcases h with (h | h) | h <;> simp [h]
end Go.Sp

namespace Go.Proofs.YtolcfdcoidpieaaGreatDoor
open Go Go.Am Go.Sp
set_option maxRecDepth 100000
theorem vfind1_c (r0 r1 r2 r3 r4 r5 r6 r7 r8 r9 r10 k e d:Int):Pure Tryz.prog gl0 137 [.agg [.int .i64 r0,.int .i64 r1,.int .i64 r2,.int .i64 r3,.int .i64 r4,.int .i64 r5,.int .i64 r6,.int .i64 r7,.int .i64 r8,.int .i64 r9,.int .i64 r10],.ipt 1 (atL [.int .i64 k]),.ipt 1 (atL [.int .i64 e]),.ipt 1 (atL [.int .i64 d])] (.bool (r0==k&&r1==e&&r2==d)):=by
 refine pure_sk (own:=ow0) Tryz.func137 (by kernel_rfl) mixed (by kernel_rfl)
  (let y0:AV:=(AV.bool (r0==k&&r1==e&&r2==d));(.out y0 [] y0 []))
  (by kernel_rfl) ?_
 exact k_out (Ent.refl _)
theorem vindex_c (R:Nat→Nat→Int) (n:Nat) (k e d:Int) (hn:n≤1000):Pure Tryz.prog gl0 136 [rcl n R,.fn (.func 137) [] [.ipt 1 (atL [.int .i64 k]),.ipt 1 (atL [.int .i64 e]),.ipt 1 (atL [.int .i64 d])]] (.int .i64 (fnI R n k e d)):=by
 unfold fnI
 refine pure_sk (own:=ow0) Tryz.func136 (by kernel_rfl) mixed (by kernel_rfl)
  (let y0:List AV:=[AV.ipt 1 (atL [Zi k]),AV.ipt 1 (atL [Zi e]),AV.ipt 1 (atL [Zi d])];(.loop ({ x:Nat // x≤n∧(fun (i:Nat)=>firstI (fnB R k e d) n 0=firstI (fnB R k e d) (n - i) i) x }) (fun (x:{ x:Nat // x≤n∧(fun (i:Nat)=>firstI (fnB R k e d) n 0=firstI (fnB R k e d) (n - i) i) x })=>mkSt [0,1,7,8] [AV.isl 11 n fun (i j:Nat)=>Zi (R i j),AV.fn (Fn.func (137:FuncId)) [] y0,Zi (↑n:Int),Zi (↑(x.1):Int)] []) (fun (x:{ x:Nat // x≤n∧(fun (i:Nat)=>firstI (fnB R k e d) n 0=firstI (fnB R k e d) (n - i) i) x })=>n - x.1) (⟨0,⟨Nat.zero_le n,rfl⟩⟩) ([0,1,7,8]) ([]) ([AV.isl 11 n fun (i j:Nat)=>Zi (R i j),AV.fn (Fn.func (137:FuncId)) [] y0,Zi (↑n:Int),Zi 0]) ([]) (fun x0=>(.br (decide ((↑x0.1:Int)<(↑n:Int))) (.req ((0:Int)≤(↑x0.1:Int)∧(↑x0.1:Int)<(↑n:Int)) (.sc (true) 137 ([AV.agg [Zi (R (Int.toNat (↑x0.1:Int)) 0),Zi (R (Int.toNat (↑x0.1:Int)) 1),Zi (R (Int.toNat (↑x0.1:Int)) 2),Zi (R (Int.toNat (↑x0.1:Int)) 3),Zi (R (Int.toNat (↑x0.1:Int)) 4),Zi (R (Int.toNat (↑x0.1:Int)) 5),Zi (R (Int.toNat (↑x0.1:Int)) 6),Zi (R (Int.toNat (↑x0.1:Int)) 7),Zi (R (Int.toNat (↑x0.1:Int)) 8),Zi (R (Int.toNat (↑x0.1:Int)) 9),Zi (R (Int.toNat (↑x0.1:Int)) 10)],AV.ipt 1 (atL [Zi k]),AV.ipt 1 (atL [Zi e]),AV.ipt 1 (atL [Zi d])]) (AV.bool (R (Int.toNat (↑x0.1:Int)) 0==k&&R (Int.toNat (↑x0.1:Int)) 1==e&&R (Int.toNat (↑x0.1:Int)) 2==d)) (.br (R (Int.toNat (↑x0.1:Int)) 0==k&&R (Int.toNat (↑x0.1:Int)) 1==e&&R (Int.toNat (↑x0.1:Int)) 2==d) (.out (Zi (↑x0.1:Int)) [] (Zi (firstI (fnB R k e d) n 0)) []) (.again (Again 0 (fun (x:{ x:Nat // x≤n∧(fun (i:Nat)=>firstI (fnB R k e d) n 0=firstI (fnB R k e d) (n - i) i) x })=>mkSt [0,1,7,8] [AV.isl 11 n fun (i j:Nat)=>Zi (R i j),AV.fn (Fn.func (137:FuncId)) [] y0,Zi (↑n:Int),Zi (↑(x.1):Int)] []) (fun (x:{ x:Nat // x≤n∧(fun (i:Nat)=>firstI (fnB R k e d) n 0=firstI (fnB R k e d) (n - i) i) x })=>n - x.1) x0) ([0,1,7,8]) ([]) ([AV.isl 11 n fun (i j:Nat)=>Zi (R i j),AV.fn (Fn.func (137:FuncId)) [] y0,Zi (↑n:Int),Zi (IntKind.wrap IntKind.i64 ((↑x0.1:Int)+1))]) ([]))))) (.out (Zi (-1)) [] (Zi (firstI (fnB R k e d) n 0)) [])))))
  (by kernel_rfl) ?_
 refine k_loop (fun _ hs=>hs.le (⟨.refl _,.refl _,.refl _,.refl _,trivial⟩) (trivial)) (fun x0=>?_)
 try (have q0:=x0.2;dsimp only at q0)
 refine k_br (fun h1=>?_) (fun h1=>?_)
 ·have g1:=cnd_dec_t h1
  refine k_req (by omega) ?_
  refine k_sc (vfind1_c (R (Int.toNat (↑x0.1:Int)) (0)) (R (Int.toNat (↑x0.1:Int)) (1)) (R (Int.toNat (↑x0.1:Int)) (2)) (R (Int.toNat (↑x0.1:Int)) (3)) (R (Int.toNat (↑x0.1:Int)) (4)) (R (Int.toNat (↑x0.1:Int)) (5)) (R (Int.toNat (↑x0.1:Int)) (6)) (R (Int.toNat (↑x0.1:Int)) (7)) (R (Int.toNat (↑x0.1:Int)) (8)) (R (Int.toNat (↑x0.1:Int)) (9)) (R (Int.toNat (↑x0.1:Int)) (10)) (k) (e) (d)) ?_
  refine k_br (fun h4=>?_) (fun h4=>?_)
  ·have g4:=(cnd_and_t (cnd_and_t cnd_beq_t cnd_beq_t) cnd_beq_t) h4
   try simp only [Int.toNat_natCast] at g4
   exact k_out (Ent.of_eq (congrArg _ (first_hit x0.2.2 (by omega) h4)))
  ·have g4:=(cnd_and_f (cnd_and_f cnd_beq_f cnd_beq_f) cnd_beq_f) h4
   try simp only [Int.toNat_natCast] at g4
   exact k_again (⟨x0.1+1,by omega,first_next x0.2.2 (by omega) h4⟩) (fun _ hs=>hs.le (⟨.refl _,.refl _,.refl _,inc_ent (by omega),trivial⟩) (trivial)) (by dsimp only;omega)
 ·have g1:=cnd_dec_f h1
  exact k_out (Ent.of_eq (congrArg _ (first_miss x0.2.2 (by omega))))
theorem vfind_c (R:Nat→Nat→Int) (n:Nat) (k e d:Int) (hn:n≤1000):Pure Tryz.prog gl0 69 [rcl n R,.int .i64 k,.int .i64 e,.int .i64 d] (.int .i64 (fnI R n k e d)):=by
 have c1:=vindex_c R n k e d hn
 refine pure_sk (own:=ow0) Tryz.func69 (by kernel_rfl) mixed (by kernel_rfl)
  (.sc (true) 136 ([AV.isl 11 n fun (i j:Nat)=>Zi (R i j),AV.fn (Fn.func 137) [] [AV.ipt 1 fun (k_1:Nat)=>atL [Zi k] k_1,AV.ipt 1 fun (k:Nat)=>atL [Zi e] k,AV.ipt 1 fun (k:Nat)=>atL [Zi d] k]]) (Zi (fnI R n k e d)) (.out (Zi (fnI R n k e d)) [] (Zi (fnI R n k e d)) []))
  (by kernel_rfl) ?_
 refine k_sc (c1) ?_
 exact k_out (Ent.refl _)
theorem rvfind_c (R:Nat→Nat→Int) (n:Nat) (k e d:Int) (hn:n≤1000):Pure Tryz.prog gl0 79 [rcl n R,.int .i64 k,.int .i64 e,.int .i64 d] (.int .i64 (fnI R n k e d)):=by
 unfold fnI
 refine pure_sk (own:=ow0) Tryz.func79 (by kernel_rfl) mixed (by kernel_rfl)
  (.loop ({ x:Nat // x≤n∧(fun (i:Nat)=>firstI (fnB R k e d) n 0=firstI (fnB R k e d) (n - i) i) x }) (fun (x:{ x:Nat // x≤n∧(fun (i:Nat)=>firstI (fnB R k e d) n 0=firstI (fnB R k e d) (n - i) i) x })=>mkSt [0,1,2,3,9] [AV.isl 11 n fun (i j:Nat)=>Zi (R i j),Zi k,Zi e,Zi d,Zi (↑(x.1):Int)] []) (fun (x:{ x:Nat // x≤n∧(fun (i:Nat)=>firstI (fnB R k e d) n 0=firstI (fnB R k e d) (n - i) i) x })=>n - x.1) (⟨0,⟨Nat.zero_le n,rfl⟩⟩) ([0,1,2,3,9]) ([]) ([AV.isl 11 n fun (i j:Nat)=>Zi (R i j),Zi k,Zi e,Zi d,Zi 0]) ([]) (fun x0=>(.br (decide ((↑x0.1:Int)<(↑n:Int))) (.req ((0:Int)≤(↑x0.1:Int)∧(↑x0.1:Int)<(↑n:Int)) (.req (((R (Int.toNat (↑x0.1:Int)) 0==k)==true)=true→(0:Int)≤(↑x0.1:Int)∧(↑x0.1:Int)<(↑n:Int)) (.req (((R (Int.toNat (↑x0.1:Int)) 0==k&&R (Int.toNat (↑x0.1:Int)) 1==e)==true)=true→(0:Int)≤(↑x0.1:Int)∧(↑x0.1:Int)<(↑n:Int)) (.br (R (Int.toNat (↑x0.1:Int)) 0==k&&R (Int.toNat (↑x0.1:Int)) 1==e&&R (Int.toNat (↑x0.1:Int)) 2==d) (.out (Zi (↑x0.1:Int)) [] (Zi (firstI (fnB R k e d) n 0)) []) (.again (Again 0 (fun (x:{ x:Nat // x≤n∧(fun (i:Nat)=>firstI (fnB R k e d) n 0=firstI (fnB R k e d) (n - i) i) x })=>mkSt [0,1,2,3,9] [AV.isl 11 n fun (i j:Nat)=>Zi (R i j),Zi k,Zi e,Zi d,Zi (↑(x.1):Int)] []) (fun (x:{ x:Nat // x≤n∧(fun (i:Nat)=>firstI (fnB R k e d) n 0=firstI (fnB R k e d) (n - i) i) x })=>n - x.1) x0) ([0,1,2,3,9]) ([]) ([AV.isl 11 n fun (i j:Nat)=>Zi (R i j),Zi k,Zi e,Zi d,Zi (IntKind.wrap IntKind.i64 ((↑x0.1:Int)+1))]) ([])))))) (.out (Zi (-1)) [] (Zi (firstI (fnB R k e d) n 0)) []))))
  (by kernel_rfl) ?_
 refine k_loop (fun _ hs=>hs.le (⟨.refl _,.refl _,.refl _,.refl _,.refl _,trivial⟩) (trivial)) (fun x0=>?_)
 try (have q0:=x0.2;dsimp only at q0)
 refine k_br (fun h1=>?_) (fun h1=>?_)
 ·have g1:=cnd_dec_t h1
  refine k_req (by omega) ?_
  refine k_req (fun hr=>by have hr:=(cnd_eqt_t cnd_beq_t) hr;omega) ?_
  refine k_req (fun hr=>by have hr:=(cnd_eqt_t (cnd_and_t cnd_beq_t cnd_beq_t)) hr;omega) ?_
  refine k_br (fun h5=>?_) (fun h5=>?_)
  ·have g5:=(cnd_and_t (cnd_and_t cnd_beq_t cnd_beq_t) cnd_beq_t) h5
   try simp only [Int.toNat_natCast] at g5
   exact k_out (by exact Ent.of_eq (congrArg _ (first_hit x0.2.2 (by omega) (fnB_t g5))))
  ·have g5:=(cnd_and_f (cnd_and_f cnd_beq_f cnd_beq_f) cnd_beq_f) h5
   try simp only [Int.toNat_natCast] at g5
   exact k_again (⟨x0.1+1,by omega,first_next x0.2.2 (by omega) (fnB_f g5)⟩) (fun _ hs=>hs.le (⟨.refl _,.refl _,.refl _,.refl _,inc_ent (by omega),trivial⟩) (trivial)) (by dsimp only;omega)
 ·have g1:=cnd_dec_f h1
  exact k_out (by exact Ent.of_eq (congrArg _ (first_miss x0.2.2 (by omega))))
end Go.Proofs.YtolcfdcoidpieaaGreatDoor

namespace Go.Sp
open Go Go.Am
def oddB (b : Bas) (s : Spend) (i : Nat) : Bool := !(scB b (s.lf i 1) && scB b (s.lf i 2))
theorem entL_app {os : List (Option Ob)} : ∀ {a a' b b' : List AV}, EntL os a a' → EntL os b b' → EntL os (a ++ b) (a' ++ b')
  | [], [], _, _, _, h => h
  | _ :: _, _ :: _, _, _, h, h' => ⟨h.1, entL_app h.2 h'⟩
theorem el_q {G : Grp} (h : G.Ok) {x : Int} (hx : elemB G x = true) (a b : Nat) (e : a % G.q.toNat = b % G.q.toNat) : x ^ a % G.p = x ^ b % G.p := by
  have hp := h.p3
  have k : ∀ n : Nat, x ^ n % G.p = x ^ (n % G.q.toNat) % G.p := fun n => by
    have h1 : n = G.q.toNat * (n / G.q.toNat) + n % G.q.toNat := (Nat.div_add_mod n _).symm
    have h2 : x ^ n = (x ^ G.q.toNat) ^ (n / G.q.toNat) * x ^ (n % G.q.toNat) := by rw [← Int.pow_mul, ← Int.pow_add, ← h1]
    rw [h2, Int.mul_emod, ← pow_mod, ((elem_iff h).1 hx).2.2, Int.one_pow, Int.emod_eq_of_lt (a := 1) (b := G.p) (by decide) (by omega), Int.one_mul, Int.emod_emod_of_dvd _ (Int.dvd_refl _)]
  rw [k a, k b, e]
structure ClOk (b : Bas) (s : Spend) (u : Int) : Prop where
  v : validB b = true
  ok : okS s = true
  odd : ¬ firstI (oddB b s) s.nl 0 ≥ 0
  u : 0 ≤ u ∧ u < b.gr.q
  n : s.number < 1073741824
def passB (S : Nat → Spend) (i : Nat) (c : Coin) : Bool := (S i).number == (i : Int) && hEq (S i).payee (nameF c (chainF S i))
def ruleB (R : Nat → Nat → Int) (n : Nat) (S : Nat → Spend) (i : Nat) : Bool :=
  if i = 0 then decide ((rcX R n (S i)).value > 0) else (rcX R n (S i)).value == 0 && (rcX R n (S i)).depth == 0
def linkB (S : Nat → Spend) (i : Nat) : Bool := if i = 0 then true else passB S (i - 1) (S i).coin && decide (¬ (S i).time < (S (i - 1)).time)
def stepC (b : Bas) (R : Nat → Nat → Int) (n : Nat) (S : Nat → Spend) (i : Nat) : Bool := verd b R n (S i) && (ruleB R n S i && linkB S i)
def chvB (b : Bas) (R : Nat → Nat → Int) (n : Nat) (h : Chn) : Bool := validB b && (decide (h.n ≤ 8) && allI (stepC b R n (chnS h)) (h.n + 1))
theorem chv_1 {b : Bas} {R : Nat → Nat → Int} {n : Nat} {h : Chn} (g : validB b = false ∨ (h.n : Int) > 8) : chvB b R n h = false := by
  unfold chvB
  rcases g with g | g
  · rw [g]; rfl
  · rw [decide_eq_false (by omega : ¬ h.n ≤ 8)]; simp
theorem chv_2 {b : Bas} {R : Nat → Nat → Int} {n : Nat} {h : Chn} {i : Nat} (hi : i < h.n + 1) (g : stepC b R n (chnS h) i = false) : chvB b R n h = false := by
  unfold chvB
  rw [allI_f hi g]; simp
theorem chv_3 {b : Bas} {R : Nat → Nat → Int} {n : Nat} {h : Chn} (g : validB b = true) (g2 : h.n ≤ 8) (g3 : ∀ i, i < h.n + 1 → stepC b R n (chnS h) i = true) : chvB b R n h = true := by
  unfold chvB
  rw [g, decide_eq_true g2, allI_t g3]; rfl
theorem stepC_1 {b : Bas} {R : Nat → Nat → Int} {n : Nat} {S : Nat → Spend} {i : Nat} (h : ¬ fnS R n (S i) ≥ 0 ∨ vfy b (rcX R n (S i)) (S i) = false) : stepC b R n S i = false := by
  unfold stepC verd
  rcases h with h | h
  · rw [decide_eq_false h]; rfl
  · rw [h, Bool.and_false]; rfl
theorem rule_f {R : Nat → Nat → Int} {n : Nat} {S : Nat → Spend} {i : Nat} (h : ((i : Int) = 0 ∧ (rcX R n (S i)).value ≤ 0) ∨ ((i : Int) > 0 ∧ (¬ (rcX R n (S i)).value = 0 ∨ ¬ (rcX R n (S i)).depth = 0))) : ruleB R n S i = false := by
  unfold ruleB
  rcases h with ⟨h, g⟩ | ⟨h, g⟩
  · rw [if_pos (by omega)]; exact decide_eq_false (by omega)
  · rw [if_neg (by omega)]
    rcases g with g | g
    · rw [show ((rcX R n (S i)).value == 0) = false by simpa using g]; rfl
    · rw [show ((rcX R n (S i)).depth == 0) = false by simpa using g]; simp
theorem rule_t {R : Nat → Nat → Int} {n : Nat} {S : Nat → Spend} {i : Nat} (h : ¬ (i : Int) = 0 ∨ ¬ (rcX R n (S i)).value ≤ 0) (h2 : ¬ (i : Int) > 0 ∨ ((rcX R n (S i)).value = 0 ∧ (rcX R n (S i)).depth = 0)) : ruleB R n S i = true := by
  unfold ruleB
  by_cases e : i = 0
  · rw [if_pos e]; exact decide_eq_true (by omega)
  · rw [if_neg e]
    have g : (rcX R n (S i)).value = 0 ∧ (rcX R n (S i)).depth = 0 := by
      rcases h2 with h2 | h2
      · omega
      · exact h2
    rw [g.1, g.2]; rfl
theorem stepC_2 {b : Bas} {R : Nat → Nat → Int} {n : Nat} {S : Nat → Spend} {i : Nat} (h : ruleB R n S i = false) : stepC b R n S i = false := by
  unfold stepC
  rw [h]; simp
theorem link_f {S : Nat → Spend} {i : Nat} (h0 : (i : Int) > 0) (h : passB S (i - 1) (S i).coin = false ∨ (S i).time < (S (i - 1)).time) : linkB S i = false := by
  unfold linkB
  rw [if_neg (by omega)]
  rcases h with h | h
  · rw [h]; rfl
  · rw [decide_eq_false (by omega)]; simp
theorem link_t {S : Nat → Spend} {i : Nat} (h : ¬ (i : Int) > 0 ∨ (passB S (i - 1) (S i).coin = true ∧ ¬ (S i).time < (S (i - 1)).time)) : linkB S i = true := by
  unfold linkB
  by_cases e : i = 0
  · rw [if_pos e]
  · rw [if_neg e]
    have g : passB S (i - 1) (S i).coin = true ∧ ¬ (S i).time < (S (i - 1)).time := by
      rcases h with h | h
      · omega
      · exact h
    rw [g.1, decide_eq_true g.2]; rfl
theorem stepC_3 {b : Bas} {R : Nat → Nat → Int} {n : Nat} {S : Nat → Spend} {i : Nat} (h : linkB S i = false) : stepC b R n S i = false := by
  unfold stepC
  rw [h]; simp
theorem stepC_t {b : Bas} {R : Nat → Nat → Int} {n : Nat} {S : Nat → Spend} {i : Nat} (h : fnS R n (S i) ≥ 0 ∧ vfy b (rcX R n (S i)) (S i) = true) (h2 : ruleB R n S i = true) (h3 : linkB S i = true) : stepC b R n S i = true := by
  unfold stepC verd
  rw [decide_eq_true h.1, h.2, h2, h3]; rfl
theorem chainF_by (S : Nat → Spend) (n : Nat) : byB (chainF S n) 32 := by
  by_cases h : n = 0
  · rw [chainF_0 h]; exact zero_by
  · rw [chainF_1 h]; exact fun i _ => sha_by _ _ i
end Go.Sp

namespace Go.Proofs.YtolcfdcoidpieaaGreatDoor
open Go Go.Am Go.Sp
set_option maxRecDepth 100000
abbrev kHK10:List AV:=[AV.agg [Zi 0,Zi 0,Zi 0,Zi 0,Zi 0,Zi 0,Zi 0,Zi 0,Zi 0,Zi 0,Zi 0],AV.bool false]
theorem passes_c (S:Nat→Spend) (k:Nat) (c:Coin) (hk:k≤300) (hs:∀ i,i<k→(S i).Sm) (hr:byB c.root 32):Pure Tryz.prog gl0 38 [.isl 80 (k+1) fun i j=>atL (S i).cells j,c.av] (.bool (passB S k c)):=by
 have c1:=fun (m:Nat) (hm:m=k)=>digestOf_c S m (by omega) (fun i hi=>hs i (by omega))
 have c2:=fun (m:Nat)=>name_c c (chainF S m) hr (chainF_by S m)
 have e:IntKind.wrap .i64 (((k+1:Nat):Int) - 1)=k:=by rw [wI (by omega) (by omega)];omega
 have e2:Int.toNat (IntKind.wrap .i64 (((k+1:Nat):Int) - 1))=k:=by rw [e];rfl
 refine pure_sk (own:=ow0) Tryz.func38 (by kernel_rfl) mixed (by kernel_rfl)
  (let y0:Nat:=(Int.toNat (IntKind.wrap IntKind.i64 ((↑(k+1):Int) - 1)));(.req ((0:Int)≤IntKind.wrap IntKind.i64 ((↑(k+1):Int) - 1)∧IntKind.wrap IntKind.i64 ((↑(k+1):Int) - 1)<(↑(k+1):Int)) (.req ((((S y0).15==IntKind.wrap IntKind.i64 ((↑(k+1):Int) - 1))==true)=true→(0:Int)≤IntKind.wrap IntKind.i64 ((↑(k+1):Int) - 1)∧IntKind.wrap IntKind.i64 ((↑(k+1):Int) - 1)≤(↑(k+1):Int)) (.sc (((S y0).15==IntKind.wrap IntKind.i64 ((↑(k+1):Int) - 1))==true) 64 ([AV.isl 80 y0 fun (i j:Nat)=>atL (Spend.cells (S (i+0))) j]) (AV.agg (u8c (chainF S y0))) (.sc (((S y0).15==IntKind.wrap IntKind.i64 ((↑(k+1):Int) - 1))==true) 49 ([AV.agg (Coin.cells c),AV.agg (u8c (chainF S y0))]) (AV.agg (u8c (nameF c (chainF S y0)))) (.out (AV.bool ((S y0).15==IntKind.wrap IntKind.i64 ((↑(k+1):Int) - 1)&&((S y0).13 0==nameF c (chainF S y0) 0&&((S y0).13 1==nameF c (chainF S y0) 1&&((S y0).13 2==nameF c (chainF S y0) 2&&((S y0).13 3==nameF c (chainF S y0) 3&&((S y0).13 4==nameF c (chainF S y0) 4&&((S y0).13 5==nameF c (chainF S y0) 5&&((S y0).13 6==nameF c (chainF S y0) 6&&((S y0).13 7==nameF c (chainF S y0) 7&&((S y0).13 8==nameF c (chainF S y0) 8&&((S y0).13 9==nameF c (chainF S y0) 9&&((S y0).13 10==nameF c (chainF S y0) 10&&((S y0).13 11==nameF c (chainF S y0) 11&&((S y0).13 12==nameF c (chainF S y0) 12&&((S y0).13 13==nameF c (chainF S y0) 13&&((S y0).13 14==nameF c (chainF S y0) 14&&((S y0).13 15==nameF c (chainF S y0) 15&&((S y0).13 16==nameF c (chainF S y0) 16&&((S y0).13 17==nameF c (chainF S y0) 17&&((S y0).13 18==nameF c (chainF S y0) 18&&((S y0).13 19==nameF c (chainF S y0) 19&&((S y0).13 20==nameF c (chainF S y0) 20&&((S y0).13 21==nameF c (chainF S y0) 21&&((S y0).13 22==nameF c (chainF S y0) 22&&((S y0).13 23==nameF c (chainF S y0) 23&&((S y0).13 24==nameF c (chainF S y0) 24&&((S y0).13 25==nameF c (chainF S y0) 25&&((S y0).13 26==nameF c (chainF S y0) 26&&((S y0).13 27==nameF c (chainF S y0) 27&&((S y0).13 28==nameF c (chainF S y0) 28&&((S y0).13 29==nameF c (chainF S y0) 29&&((S y0).13 30==nameF c (chainF S y0) 30&&((S y0).13 31==nameF c (chainF S y0) 31&&true)))))))))))))))))))))))))))))))))) [] (AV.bool (passB S k c)) []))))))
  (by kernel_rfl) ?_
 refine k_req (by (rw [e];omega)) ?_
 refine k_req (by (rw [e];omega)) ?_
 refine k_scg (fun h2=>c1 (Int.toNat (IntKind.wrap IntKind.i64 ((↑(k+1):Int) - (1:Int)))) (e2)) ?_
 refine k_scg (fun h3=>c2 (Int.toNat (IntKind.wrap IntKind.i64 ((↑(k+1):Int) - (1:Int))))) ?_
 exact k_out (Ent.of_eq (congrArg _ (by rw [e2,e];rfl)))
theorem passesM_c (S:Nat→Spend) (m:Nat) (c:Coin) (hm:1≤m∧m≤301) (hs:∀ i,i<m→(S i).Sm) (hr:byB c.root 32):Pure Tryz.prog gl0 38 [.isl 80 m fun i j=>atL (S i).cells j,c.av] (.bool (passB S (m - 1) c)):=by
 have h:=passes_c S (m - 1) c (by omega) (fun i hi=>hs i (by omega)) hr
 rw [show m - 1+1=m by omega] at h
 exact h
theorem vrecord_c (R:Nat→Nat→Int) (n:Nat) (s:Spend) (hn:n≤1000):Pure Tryz.prog gl0 36 [rcl n R,s.coin.av] (.tup [(rcX R n s).av,.bool (decide (fnS R n s≥0))]):=by
 have c1:=vfind_c R n s.bank s.epoch s.denom hn
 refine pure_sk (own:=ow0) Tryz.func36 (by kernel_rfl) mixed (by kernel_rfl)
  (let y0:Nat:=(Int.toNat (fnI R n s.1 s.2 s.3));let y1:AV:=(AV.tup [Rcd.av (rcX R n s),AV.bool (decide (fnS R n s≥0))]);(.sc (true) 69 ([AV.isl 11 n fun (i j:Nat)=>Zi (R i j),Zi s.1,Zi s.2,Zi s.3]) (Zi (fnI R n (Spend.bank s) (Spend.epoch s) (Spend.denom s))) (.br (decide (fnI R n s.1 s.2 s.3<0)) (.out (AV.tup kHK10) [] y1 []) (.req ((0:Int)≤fnI R n s.1 s.2 s.3∧fnI R n s.1 s.2 s.3<(↑n:Int)) (.out (AV.tup [AV.agg [Zi (R y0 0),Zi (R y0 1),Zi (R y0 2),Zi (R y0 3),Zi (R y0 4),Zi (R y0 5),Zi (R y0 6),Zi (R y0 7),Zi (R y0 8),Zi (R y0 9),Zi (R y0 10)],AV.bool true]) [] y1 [])))))
  (by kernel_rfl) ?_
 refine k_sc (c1) ?_
 refine k_br (fun h1=>?_) (fun h1=>?_)
 ·have g1:=cnd_dec_t h1
  exact k_out (Ent.of_eq (rec_no (s:=s) g1))
 ·have g1:=cnd_dec_f h1
  refine k_req (fnI_lt g1) ?_
  exact k_out (Ent.of_eq (rec_ok (s:=s) g1))
theorem vrrecord_c (R:Nat→Nat→Int) (n:Nat) (s:Spend) (hn:n≤1000):Pure Tryz.prog gl0 40 [rcl n R,s.coin.av] (.tup [(rcX R n s).av,.bool (decide (fnS R n s≥0))]):=by
 have c1:=rvfind_c R n s.bank s.epoch s.denom hn
 refine pure_sk (own:=ow0) Tryz.func40 (by kernel_rfl) mixed (by kernel_rfl)
  (let y0:Nat:=(Int.toNat (fnI R n s.1 s.2 s.3));let y1:AV:=(AV.tup [Rcd.av (rcX R n s),AV.bool (decide (fnS R n s≥0))]);(.sc (true) 79 ([AV.isl 11 n fun (i j:Nat)=>Zi (R i j),Zi s.1,Zi s.2,Zi s.3]) (Zi (fnI R n (Spend.bank s) (Spend.epoch s) (Spend.denom s))) (.br (decide (fnI R n s.1 s.2 s.3<0)) (.out (AV.tup kHK10) [] y1 []) (.req ((0:Int)≤fnI R n s.1 s.2 s.3∧fnI R n s.1 s.2 s.3<(↑n:Int)) (.out (AV.tup [AV.agg [Zi (R y0 0),Zi (R y0 1),Zi (R y0 2),Zi (R y0 3),Zi (R y0 4),Zi (R y0 5),Zi (R y0 6),Zi (R y0 7),Zi (R y0 8),Zi (R y0 9),Zi (R y0 10)],AV.bool true]) [] y1 [])))))
  (by kernel_rfl) ?_
 refine k_sc (c1) ?_
 refine k_br (fun h1=>?_) (fun h1=>?_)
 ·have g1:=cnd_dec_t h1
  exact k_out (Ent.of_eq (rec_no (s:=s) g1))
 ·have g1:=cnd_dec_f h1
  refine k_req (fnI_lt g1) ?_
  exact k_out (Ent.of_eq (rec_ok (s:=s) g1))
theorem same27_c (i:Int) (n:Nat) (f:Nat→Nat→Int) (hn:n≤100000):Pure Tryz.prog gl0 96 [.agg [.int .i64 i,hss n f],.agg [.int .i64 i,hss n f]] (.bool true):=by
 refine pure_sk (own:=ow0) Tryz.func96 (by kernel_rfl) mixed (by kernel_rfl)
  (.br (i != i||(↑n:Int) != (↑n:Int)) (.out (AV.bool false) [] (AV.bool true) []) (.loop (Sp.Sub fun (x:Nat)=>x≤n) (fun (x:Sp.Sub fun (x:Nat)=>x≤n)=>mkSt [2,3,5] [AV.own 0 2 0 0 2,AV.own 1 2 0 0 2,Zi (↑(x.1):Int)] [some ⟨2,1,true,Rep.lst [[Zi i,hss n f]]⟩,some ⟨2,1,true,Rep.lst [[Zi i,hss n f]]⟩]) (fun (x:Sp.Sub fun (x:Nat)=>x≤n)=>n - x.1) (⟨0,Nat.zero_le n⟩) ([2,3,5]) ([0,8]) ([AV.own 0 2 0 0 2,AV.own 1 2 0 0 2,Zi 0]) ([some ⟨2,1,true,Rep.lst [[Zi i,AV.isl 32 n fun (i j:Nat)=>Zb (f i j)]]⟩,some ⟨2,1,true,Rep.lst [[Zi i,AV.isl 32 n fun (i j:Nat)=>Zb (f i j)]]⟩]) (fun x2=>(.br (decide ((↑x2.1:Int)<(↑n:Int))) (.req ((0:Int)≤(↑x2.1:Int)∧(↑x2.1:Int)<(↑n:Int)) (.req ((0:Int)≤(↑x2.1:Int)∧(↑x2.1:Int)<(↑n:Int)) (.br (!(f (Int.toNat (↑x2.1:Int)) 0==f (Int.toNat (↑x2.1:Int)) 0&&(f (Int.toNat (↑x2.1:Int)) 1==f (Int.toNat (↑x2.1:Int)) 1&&(f (Int.toNat (↑x2.1:Int)) 2==f (Int.toNat (↑x2.1:Int)) 2&&(f (Int.toNat (↑x2.1:Int)) 3==f (Int.toNat (↑x2.1:Int)) 3&&(f (Int.toNat (↑x2.1:Int)) 4==f (Int.toNat (↑x2.1:Int)) 4&&(f (Int.toNat (↑x2.1:Int)) 5==f (Int.toNat (↑x2.1:Int)) 5&&(f (Int.toNat (↑x2.1:Int)) 6==f (Int.toNat (↑x2.1:Int)) 6&&(f (Int.toNat (↑x2.1:Int)) 7==f (Int.toNat (↑x2.1:Int)) 7&&(f (Int.toNat (↑x2.1:Int)) 8==f (Int.toNat (↑x2.1:Int)) 8&&(f (Int.toNat (↑x2.1:Int)) 9==f (Int.toNat (↑x2.1:Int)) 9&&(f (Int.toNat (↑x2.1:Int)) 10==f (Int.toNat (↑x2.1:Int)) 10&&(f (Int.toNat (↑x2.1:Int)) 11==f (Int.toNat (↑x2.1:Int)) 11&&(f (Int.toNat (↑x2.1:Int)) 12==f (Int.toNat (↑x2.1:Int)) 12&&(f (Int.toNat (↑x2.1:Int)) 13==f (Int.toNat (↑x2.1:Int)) 13&&(f (Int.toNat (↑x2.1:Int)) 14==f (Int.toNat (↑x2.1:Int)) 14&&(f (Int.toNat (↑x2.1:Int)) 15==f (Int.toNat (↑x2.1:Int)) 15&&(f (Int.toNat (↑x2.1:Int)) 16==f (Int.toNat (↑x2.1:Int)) 16&&(f (Int.toNat (↑x2.1:Int)) 17==f (Int.toNat (↑x2.1:Int)) 17&&(f (Int.toNat (↑x2.1:Int)) 18==f (Int.toNat (↑x2.1:Int)) 18&&(f (Int.toNat (↑x2.1:Int)) 19==f (Int.toNat (↑x2.1:Int)) 19&&(f (Int.toNat (↑x2.1:Int)) 20==f (Int.toNat (↑x2.1:Int)) 20&&(f (Int.toNat (↑x2.1:Int)) 21==f (Int.toNat (↑x2.1:Int)) 21&&(f (Int.toNat (↑x2.1:Int)) 22==f (Int.toNat (↑x2.1:Int)) 22&&(f (Int.toNat (↑x2.1:Int)) 23==f (Int.toNat (↑x2.1:Int)) 23&&(f (Int.toNat (↑x2.1:Int)) 24==f (Int.toNat (↑x2.1:Int)) 24&&(f (Int.toNat (↑x2.1:Int)) 25==f (Int.toNat (↑x2.1:Int)) 25&&(f (Int.toNat (↑x2.1:Int)) 26==f (Int.toNat (↑x2.1:Int)) 26&&(f (Int.toNat (↑x2.1:Int)) 27==f (Int.toNat (↑x2.1:Int)) 27&&(f (Int.toNat (↑x2.1:Int)) 28==f (Int.toNat (↑x2.1:Int)) 28&&(f (Int.toNat (↑x2.1:Int)) 29==f (Int.toNat (↑x2.1:Int)) 29&&(f (Int.toNat (↑x2.1:Int)) 30==f (Int.toNat (↑x2.1:Int)) 30&&(f (Int.toNat (↑x2.1:Int)) 31==f (Int.toNat (↑x2.1:Int)) 31&&true))))))))))))))))))))))))))))))))) (.out (AV.bool false) [] (AV.bool true) []) (.again (Again 0 (fun (x:Sp.Sub fun (x:Nat)=>x≤n)=>mkSt [2,3,5] [AV.own 0 2 0 0 2,AV.own 1 2 0 0 2,Zi (↑(x.1):Int)] [some ⟨2,1,true,Rep.lst [[Zi i,hss n f]]⟩,some ⟨2,1,true,Rep.lst [[Zi i,hss n f]]⟩]) (fun (x:Sp.Sub fun (x:Nat)=>x≤n)=>n - x.1) x2) ([2,3,5]) ([0,1]) ([AV.own 0 2 0 0 2,AV.own 1 2 0 0 2,Zi (IntKind.wrap IntKind.i64 ((↑x2.1:Int)+1))]) ([some ⟨2,1,true,Rep.lst [[Zi i,AV.isl 32 n fun (i j:Nat)=>Zb (f i j)]]⟩,some ⟨2,1,true,Rep.lst [[Zi i,AV.isl 32 n fun (i j:Nat)=>Zb (f i j)]]⟩]))))) (.out (AV.bool true) [] (AV.bool true) [])))))
  (by kernel_rfl) ?_
 refine k_br (fun h0=>?_) (fun h0=>?_)
 ·have g0:=(cnd_or_t cnd_bne_t cnd_bne_t) h0
  exact k_out (Ent.of_eq (by simp_all))
 ·have g0:=(cnd_or_f cnd_bne_f cnd_bne_f) h0
  refine k_loop (fun _ hs=>hs.le (by repeat' (first|exact trivial|(first|exact Ent.refl _|exact inc_ent (by omega)|exact Ent.nil rfl|exact Ent.of_eq (congrArg (AV.osl _ _ _) (by first|omega|(dsimp only;omega)))|exact Ent.of_eq (congrArg (AV.int _) (by first|omega|(dsimp only;omega))))|refine And.intro ?_ ?_)) (by repeat' (first|exact trivial|(first|exact ObEnt.refl _|exact ObEnt.junk|exact ObEnt.zero|exact ObEnt.push rfl rfl|exact ObEnt.pushRow rfl|exact ObEnt.len (by omega)|exact ObEnt.row (by repeat' (first|exact trivial|(first|exact Ent.refl _|exact inc_ent (by omega)|exact Ent.nil rfl|exact Ent.of_eq (congrArg (AV.osl _ _ _) (by first|omega|(dsimp only;omega)))|exact Ent.of_eq (congrArg (AV.int _) (by first|omega|(dsimp only;omega))))|refine And.intro ?_ ?_)))|refine And.intro ?_ ?_))) (fun x2=>?_)
  try (have q2:=x2.2;dsimp only at q2)
  refine k_br (fun h3=>?_) (fun h3=>?_)
  ·have g3:=cnd_dec_t h3
   refine k_req (by omega) ?_
   refine k_req (by omega) ?_
   refine k_br (fun h6=>?_) (fun h6=>?_)
   ·have g6:=(cnd_not_t (cnd_and_f cnd_beq_f (cnd_and_f cnd_beq_f (cnd_and_f cnd_beq_f (cnd_and_f cnd_beq_f (cnd_and_f cnd_beq_f (cnd_and_f cnd_beq_f (cnd_and_f cnd_beq_f (cnd_and_f cnd_beq_f (cnd_and_f cnd_beq_f (cnd_and_f cnd_beq_f (cnd_and_f cnd_beq_f (cnd_and_f cnd_beq_f (cnd_and_f cnd_beq_f (cnd_and_f cnd_beq_f (cnd_and_f cnd_beq_f (cnd_and_f cnd_beq_f (cnd_and_f cnd_beq_f (cnd_and_f cnd_beq_f (cnd_and_f cnd_beq_f (cnd_and_f cnd_beq_f (cnd_and_f cnd_beq_f (cnd_and_f cnd_beq_f (cnd_and_f cnd_beq_f (cnd_and_f cnd_beq_f (cnd_and_f cnd_beq_f (cnd_and_f cnd_beq_f (cnd_and_f cnd_beq_f (cnd_and_f cnd_beq_f (cnd_and_f cnd_beq_f (cnd_and_f cnd_beq_f (cnd_and_f cnd_beq_f (cnd_and_f cnd_beq_f cnd_id_f))))))))))))))))))))))))))))))))) h6
    try simp only [Int.toNat_natCast] at g6
    exact k_out (Ent.of_eq (by simp_all))
   ·have g6:=(cnd_not_f (cnd_and_t cnd_beq_t (cnd_and_t cnd_beq_t (cnd_and_t cnd_beq_t (cnd_and_t cnd_beq_t (cnd_and_t cnd_beq_t (cnd_and_t cnd_beq_t (cnd_and_t cnd_beq_t (cnd_and_t cnd_beq_t (cnd_and_t cnd_beq_t (cnd_and_t cnd_beq_t (cnd_and_t cnd_beq_t (cnd_and_t cnd_beq_t (cnd_and_t cnd_beq_t (cnd_and_t cnd_beq_t (cnd_and_t cnd_beq_t (cnd_and_t cnd_beq_t (cnd_and_t cnd_beq_t (cnd_and_t cnd_beq_t (cnd_and_t cnd_beq_t (cnd_and_t cnd_beq_t (cnd_and_t cnd_beq_t (cnd_and_t cnd_beq_t (cnd_and_t cnd_beq_t (cnd_and_t cnd_beq_t (cnd_and_t cnd_beq_t (cnd_and_t cnd_beq_t (cnd_and_t cnd_beq_t (cnd_and_t cnd_beq_t (cnd_and_t cnd_beq_t (cnd_and_t cnd_beq_t (cnd_and_t cnd_beq_t (cnd_and_t cnd_beq_t cnd_id_t))))))))))))))))))))))))))))))))) h6
    try simp only [Int.toNat_natCast] at g6
    exact k_again (⟨x2.1+1,by omega⟩) (fun _ hs=>hs.le (by repeat' (first|exact trivial|(first|exact Ent.refl _|exact inc_ent (by omega)|exact Ent.nil rfl|exact Ent.of_eq (congrArg (AV.osl _ _ _) (by first|omega|(dsimp only;omega)))|exact Ent.of_eq (congrArg (AV.int _) (by first|omega|(dsimp only;omega))))|refine And.intro ?_ ?_)) (by repeat' (first|exact trivial|(first|exact ObEnt.refl _|exact ObEnt.junk|exact ObEnt.zero|exact ObEnt.push rfl rfl|exact ObEnt.pushRow rfl|exact ObEnt.len (by omega)|exact ObEnt.row (by repeat' (first|exact trivial|(first|exact Ent.refl _|exact inc_ent (by omega)|exact Ent.nil rfl|exact Ent.of_eq (congrArg (AV.osl _ _ _) (by first|omega|(dsimp only;omega)))|exact Ent.of_eq (congrArg (AV.int _) (by first|omega|(dsimp only;omega))))|refine And.intro ?_ ?_)))|refine And.intro ?_ ?_))) (by (dsimp only;omega))
  ·have g3:=cnd_dec_f h3
   exact k_out (Ent.of_eq (by rfl))
theorem same32_c (s:Spend) (hl:s.nl≤1000) (hp:s.np≤1000):Pure Tryz.prog gl0 47 [s.av,s.av] (.bool true):=by
 refine pure_sk (own:=ow0) Tryz.func47 (by kernel_rfl) mixed (by kernel_rfl)
  (let y0:List (Option Ob):=[some ⟨80,1,true,Rep.lst [Spend.cells s]⟩,some ⟨80,1,true,Rep.lst [Spend.cells s]⟩];let y1:List AV:=[Zi s.18,AV.isl 32 s.19 fun (i j:Nat)=>Zb (s.20 i j)];(.sc ((!(s.1==s.1&&(s.2==s.2&&(s.3==s.3&&(s.4==s.4&&(s.5==s.5&&(s.6 0==s.6 0&&(s.6 1==s.6 1&&(s.6 2==s.6 2&&(s.6 3==s.6 3&&(s.6 4==s.6 4&&(s.6 5==s.6 5&&(s.6 6==s.6 6&&(s.6 7==s.6 7&&(s.6 8==s.6 8&&(s.6 9==s.6 9&&(s.6 10==s.6 10&&(s.6 11==s.6 11&&(s.6 12==s.6 12&&(s.6 13==s.6 13&&(s.6 14==s.6 14&&(s.6 15==s.6 15&&(s.6 16==s.6 16&&(s.6 17==s.6 17&&(s.6 18==s.6 18&&(s.6 19==s.6 19&&(s.6 20==s.6 20&&(s.6 21==s.6 21&&(s.6 22==s.6 22&&(s.6 23==s.6 23&&(s.6 24==s.6 24&&(s.6 25==s.6 25&&(s.6 26==s.6 26&&(s.6 27==s.6 27&&(s.6 28==s.6 28&&(s.6 29==s.6 29&&(s.6 30==s.6 30&&(s.6 31==s.6 31&&true)))))))))))))))))))))))))))))))&&(s.7==s.7&&(s.8==s.8&&(s.9==s.9&&(s.10==s.10&&true)))&&true))))))) || !(s.11==s.11&&(s.12==s.12&&true)) || !(s.13 0==s.13 0&&(s.13 1==s.13 1&&(s.13 2==s.13 2&&(s.13 3==s.13 3&&(s.13 4==s.13 4&&(s.13 5==s.13 5&&(s.13 6==s.13 6&&(s.13 7==s.13 7&&(s.13 8==s.13 8&&(s.13 9==s.13 9&&(s.13 10==s.13 10&&(s.13 11==s.13 11&&(s.13 12==s.13 12&&(s.13 13==s.13 13&&(s.13 14==s.13 14&&(s.13 15==s.13 15&&(s.13 16==s.13 16&&(s.13 17==s.13 17&&(s.13 18==s.13 18&&(s.13 19==s.13 19&&(s.13 20==s.13 20&&(s.13 21==s.13 21&&(s.13 22==s.13 22&&(s.13 23==s.13 23&&(s.13 24==s.13 24&&(s.13 25==s.13 25&&(s.13 26==s.13 26&&(s.13 27==s.13 27&&(s.13 28==s.13 28&&(s.13 29==s.13 29&&(s.13 30==s.13 30&&(s.13 31==s.13 31&&true)))))))))))))))))))))))))))))))&&(s.14==s.14&&(s.15==s.15&&true)))||(↑s.16:Int) != (↑s.16:Int))==false) 96 ([AV.agg y1,AV.agg y1]) (AV.bool true) (.br (!(s.1==s.1&&(s.2==s.2&&(s.3==s.3&&(s.4==s.4&&(s.5==s.5&&(s.6 0==s.6 0&&(s.6 1==s.6 1&&(s.6 2==s.6 2&&(s.6 3==s.6 3&&(s.6 4==s.6 4&&(s.6 5==s.6 5&&(s.6 6==s.6 6&&(s.6 7==s.6 7&&(s.6 8==s.6 8&&(s.6 9==s.6 9&&(s.6 10==s.6 10&&(s.6 11==s.6 11&&(s.6 12==s.6 12&&(s.6 13==s.6 13&&(s.6 14==s.6 14&&(s.6 15==s.6 15&&(s.6 16==s.6 16&&(s.6 17==s.6 17&&(s.6 18==s.6 18&&(s.6 19==s.6 19&&(s.6 20==s.6 20&&(s.6 21==s.6 21&&(s.6 22==s.6 22&&(s.6 23==s.6 23&&(s.6 24==s.6 24&&(s.6 25==s.6 25&&(s.6 26==s.6 26&&(s.6 27==s.6 27&&(s.6 28==s.6 28&&(s.6 29==s.6 29&&(s.6 30==s.6 30&&(s.6 31==s.6 31&&true)))))))))))))))))))))))))))))))&&(s.7==s.7&&(s.8==s.8&&(s.9==s.9&&(s.10==s.10&&true)))&&true))))))) || !(s.11==s.11&&(s.12==s.12&&true)) || !(s.13 0==s.13 0&&(s.13 1==s.13 1&&(s.13 2==s.13 2&&(s.13 3==s.13 3&&(s.13 4==s.13 4&&(s.13 5==s.13 5&&(s.13 6==s.13 6&&(s.13 7==s.13 7&&(s.13 8==s.13 8&&(s.13 9==s.13 9&&(s.13 10==s.13 10&&(s.13 11==s.13 11&&(s.13 12==s.13 12&&(s.13 13==s.13 13&&(s.13 14==s.13 14&&(s.13 15==s.13 15&&(s.13 16==s.13 16&&(s.13 17==s.13 17&&(s.13 18==s.13 18&&(s.13 19==s.13 19&&(s.13 20==s.13 20&&(s.13 21==s.13 21&&(s.13 22==s.13 22&&(s.13 23==s.13 23&&(s.13 24==s.13 24&&(s.13 25==s.13 25&&(s.13 26==s.13 26&&(s.13 27==s.13 27&&(s.13 28==s.13 28&&(s.13 29==s.13 29&&(s.13 30==s.13 30&&(s.13 31==s.13 31&&true)))))))))))))))))))))))))))))))&&(s.14==s.14&&(s.15==s.15&&true)))||(↑s.16:Int) != (↑s.16:Int)||false) (.out (AV.bool false) [] (AV.bool true) []) (.loop (Sp.Sub fun (x:Nat)=>x≤Spend.nl s) (fun (x:Sp.Sub fun (x:Nat)=>x≤Spend.nl s)=>mkSt [2,3,5] [AV.own 0 80 0 0 80,AV.own 1 80 0 0 80,Zi (↑(x.1):Int)] y0) (fun (x:Sp.Sub fun (x:Nat)=>x≤Spend.nl s)=>Spend.nl s - x.1) (⟨0,Nat.zero_le (Spend.nl s)⟩) ([2,3,5]) ([0,8]) ([AV.own 0 80 0 0 80,AV.own 1 80 0 0 80,Zi 0]) (y0) (fun x3=>(.br (decide ((↑x3.1:Int)<(↑s.16:Int))) (.req ((0:Int)≤(↑x3.1:Int)∧(↑x3.1:Int)<(↑s.16:Int)) (.req ((0:Int)≤(↑x3.1:Int)∧(↑x3.1:Int)<(↑s.16:Int)) (.br (!(s.17 (Int.toNat (↑x3.1:Int)) 0==s.17 (Int.toNat (↑x3.1:Int)) 0&&(s.17 (Int.toNat (↑x3.1:Int)) 1==s.17 (Int.toNat (↑x3.1:Int)) 1&&(s.17 (Int.toNat (↑x3.1:Int)) 2==s.17 (Int.toNat (↑x3.1:Int)) 2&&true)))) (.out (AV.bool false) [] (AV.bool true) []) (.again (Again 0 (fun (x:Sp.Sub fun (x:Nat)=>x≤Spend.nl s)=>mkSt [2,3,5] [AV.own 0 80 0 0 80,AV.own 1 80 0 0 80,Zi (↑(x.1):Int)] y0) (fun (x:Sp.Sub fun (x:Nat)=>x≤Spend.nl s)=>Spend.nl s - x.1) x3) ([2,3,5]) ([0,1]) ([AV.own 0 80 0 0 80,AV.own 1 80 0 0 80,Zi (IntKind.wrap IntKind.i64 ((↑x3.1:Int)+1))]) (y0))))) (.out (AV.bool true) [] (AV.bool true) [])))))))
  (by kernel_rfl) ?_
 refine k_scg (fun h0=>same27_c (s.18) (s.19) (s.20) (by omega)) ?_
 refine k_br (fun h1=>?_) (fun h1=>?_)
 ·exact k_out (Ent.of_eq (by simp_all))
 ·refine k_loop (fun _ hs=>hs.le (by repeat' (first|exact trivial|(first|exact Ent.refl _|exact inc_ent (by omega)|exact Ent.nil rfl|exact Ent.of_eq (congrArg (AV.osl _ _ _) (by first|omega|(dsimp only;omega)))|exact Ent.of_eq (congrArg (AV.int _) (by first|omega|(dsimp only;omega))))|refine And.intro ?_ ?_)) (by repeat' (first|exact trivial|(first|exact ObEnt.refl _|exact ObEnt.junk|exact ObEnt.zero|exact ObEnt.push rfl rfl|exact ObEnt.pushRow rfl|exact ObEnt.len (by omega)|exact ObEnt.row (by repeat' (first|exact trivial|(first|exact Ent.refl _|exact inc_ent (by omega)|exact Ent.nil rfl|exact Ent.of_eq (congrArg (AV.osl _ _ _) (by first|omega|(dsimp only;omega)))|exact Ent.of_eq (congrArg (AV.int _) (by first|omega|(dsimp only;omega))))|refine And.intro ?_ ?_)))|refine And.intro ?_ ?_))) (fun x3=>?_)
  try (have q3:=x3.2;dsimp only at q3)
  refine k_br (fun h4=>?_) (fun h4=>?_)
  ·have g4:=cnd_dec_t h4
   refine k_req (by omega) ?_
   refine k_req (by omega) ?_
   refine k_br (fun h7=>?_) (fun h7=>?_)
   ·have g7:=(cnd_not_t (cnd_and_f cnd_beq_f (cnd_and_f cnd_beq_f (cnd_and_f cnd_beq_f cnd_id_f)))) h7
    try simp only [Int.toNat_natCast] at g7
    exact k_out (Ent.of_eq (by simp_all))
   ·have g7:=(cnd_not_f (cnd_and_t cnd_beq_t (cnd_and_t cnd_beq_t (cnd_and_t cnd_beq_t cnd_id_t)))) h7
    try simp only [Int.toNat_natCast] at g7
    exact k_again (⟨x3.1+1,by omega⟩) (fun _ hs=>hs.le (by repeat' (first|exact trivial|(first|exact Ent.refl _|exact inc_ent (by omega)|exact Ent.nil rfl|exact Ent.of_eq (congrArg (AV.osl _ _ _) (by first|omega|(dsimp only;omega)))|exact Ent.of_eq (congrArg (AV.int _) (by first|omega|(dsimp only;omega))))|refine And.intro ?_ ?_)) (by repeat' (first|exact trivial|(first|exact ObEnt.refl _|exact ObEnt.junk|exact ObEnt.zero|exact ObEnt.push rfl rfl|exact ObEnt.pushRow rfl|exact ObEnt.len (by omega)|exact ObEnt.row (by repeat' (first|exact trivial|(first|exact Ent.refl _|exact inc_ent (by omega)|exact Ent.nil rfl|exact Ent.of_eq (congrArg (AV.osl _ _ _) (by first|omega|(dsimp only;omega)))|exact Ent.of_eq (congrArg (AV.int _) (by first|omega|(dsimp only;omega))))|refine And.intro ?_ ?_)))|refine And.intro ?_ ?_))) (by (dsimp only;omega))
  ·have g4:=cnd_dec_f h4
   exact k_out (Ent.of_eq (by rfl))
end Go.Proofs.YtolcfdcoidpieaaGreatDoor
