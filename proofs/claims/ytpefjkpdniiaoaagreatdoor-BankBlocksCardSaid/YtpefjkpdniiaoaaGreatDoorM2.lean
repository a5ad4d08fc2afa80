/- Part of the proof: EnAppend, EnAppend2, EnGive, EnOpD, EnRegion, EnTree, EnWalk, EnUse, EnLaw, SpMath. -/
import Derived.Test.YtpefjkpdniiaoaaGreatDoorM1
import Derived.Deep.Upon
import Derived.Lib.AppendZerosOnto
import Derived.Deep.LoopGhost
import Derived.LoopN
import Derived.KernelRfl
namespace Go.Am
open Go.IntKind (wrap)
open Int (toNat)
open Go.RowKit
def AU (hom:Bool) (s:Nat) (f:Nat→Nat→AV):bA:=match hom with
 | true=>.fn f
 | false=>.row (fun r=>(List.range s).map (f r))
theorem wS {β:bu} {w:World} {hom:Bool} {s:Nat} {f:Nat→Nat→AV} {r j:Nat} {v:Value} (h:Rel β w (f r j) v):Rel β w ((AU hom s f) r j) v:=by
 cases hom with
 | true=>exact h
 | false=>exact eH h
def rl (H:ec) (hom isS:Bool) (s:Nat):AV→Option (Nat×bA)
 | .aH es m f=>bif isS&&Nat.beq es s then some (m,AU hom s f) else none
 | .bn=>bif isS then some (0,.bc []) else none
 | .pq=>bif isS then some (0,.bc []) else none
 | .ba id es i m=>match H id with
  | some o=>bif isS&&(Nat.beq es s&&Nat.beq o.es s) then some (m,o.f.shift i) else none
  | none=>none
 | .nn v=>rl H hom isS s v
 | .str b=>bif !isS&&Nat.beq s 1 then some (b.size,.fn fun r _=>.int .u8 (b.data.toList.getD r 0).toNat) else none
 | _=>none
def n6 (H:ec) (s:Nat):AV→Option (List Nat×Nat×bA)
 | .bn=>some ([],0,.bc [])
 | .pq=>some ([],0,.bc [])
 | .ba id es 0 len=>match H id with
  | some o=>bif Nat.beq es s&&Nat.beq o.es s then some ([id],len,o.f) else none
  | none=>none
 | _=>none
def oK (P:Program) (t:TypeId):Option Bool:=match P.underlying t with
 | some (.slice _)=>some true
 | some .string=>some false
 | _=>none
def kZ (s m:Nat) (l:List (List AV)):Option IntKind:=bif Nat.ble m l.length&&l.all (fun x=>Nat.beq x.length s) then gL (aQ l.flatten) l.flatten.length else none
def ru (m n:Nat) (l:List (List AV)) (r j:Nat):AV:=match l with
 | [x]=>bif Nat.ble m 1 then aQ x j else aQ (l.getD (r - n) []) j
 | l=>aQ (l.getD (r - n) []) j
def bA.app (s n m:Nat) (f g:bA):bA:=match f,g with
 | .bc l,.bc l'=>bif Nat.beq n l.length then .bc (l++l') else .cat n (.bc l) (.bc l')
 | .bc l,.fn g=>bif Nat.beq n 0 then .fn g else match kZ s n l with
  | some kk=>.fn (fun r j=>dh (Nat.blt r n) (.int kk (aE (ru n 0 l r j))) (g (r - n) j))
  | none=>.fn (fun r j=>dh (Nat.blt r n) (aQ (l.getD r []) j) (g (r - n) j))
 | .bc l,g=>bif Nat.beq n 0 then g.bare else .cat n (.bc l) g
 | .fn f,.fn g=>.fn (fun r j=>dh (Nat.blt r n) (f r j) (g (r - n) j))
 | .fn f,.bc l=>match kZ s m l with
  | some kk=>.fn (fun r j=>dh (Nat.blt r n) (f r j) (.int kk (aE (ru m n l r j))))
  | none=>.cat n (.fn f) (.bc l)
 | f,g=>.cat n f g
theorem mi {s m:Nat} {l:List (List AV)} {kk:IntKind} (h:kZ s m l=some kk) {r j:Nat} (hr:r<m) (hj:j<s):∃ x,aQ (l.getD r []) j=.int kk x:=by
 unfold kZ at h
 obtain ⟨hc,h⟩:=bB h
 rw [Bool.and_eq_true,Nat.ble_eq,List.all_eq_true] at hc
 have hrl:r<l.length:=by omega
 have hx:=Nat.eq_of_beq_eq_true (hc.2 l[r] (List.getElem_mem hrl))
 have hj':j<l[r].length:=by omega
 have e:aQ (l.getD r []) j=l[r][j]:=by grind [aQ,List.getElem?_eq_getElem]
 have hm:l[r][j]∈l.flatten:=List.mem_flatten.2 ⟨l[r],List.getElem_mem hrl,List.getElem_mem hj'⟩
 grind [List.getElem_of_mem,fw,aQ,List.getElem?_eq_getElem]
theorem vd {m n:Nat} {l:List (List AV)} {r j:Nat} (h1:n≤r) (h2:r<n+m):ru m n l r j=aQ (l.getD (r - n) []) j:=by
 unfold ru
 grind [Nat.ble,Nat.ble_eq]
theorem bA.sq {β:bu} {w:World} {s n m:Nat} {f g:bA} {r j:Nat} {v:Value} (hr:r<n) (hj:j<s) (h:Rel β w (f r j) v):Rel β w ((bA.app s n m f g) r j) v:=by
 have hb:Nat.blt r n=true:=by simp_all
 have hcat:∀ f g:bA,Rel β w (f r j) v→Rel β w ((bA.cat n f g) r j) v:=fun f g h=>by
  show Rel β w (dh _ _ _) v;grind [eI]
 unfold bA.app
 split
 ·rename_i l l'
  cases hq:Nat.beq n l.length with
  | true =>
   have:=Nat.eq_of_beq_eq_true hq
   show Rel β w (aQ ((l++l').getD r []) j) v
   rw [List.getD_eq_getElem?_getD,List.getElem?_append_left (by omega),← List.getD_eq_getElem?_getD]
   exact h
  | false=>grind
 ·rename_i l g
  cases hq:Nat.beq n 0 with
  | true=>simp_all
  | false =>
   show Rel β w ((match kZ s n l with
    | some kk=>bA.fn (fun r j=>dh (Nat.blt r n) (.int kk (aE (ru n 0 l r j))) (g (r - n) j))
    | none=>bA.fn (fun r j=>dh (Nat.blt r n) (aQ (l.getD r []) j) (g (r - n) j))) r j) v
   have h:Rel β w (aQ (l.getD r []) j) v:=h
   split
   ·rename_i kk hk
    show Rel β w (dh _ _ _) v
    rw [hb,vd (Nat.zero_le _) (by omega)]
    obtain ⟨x,hx⟩:=mi hk hr hj
    rw [hx] at h
    rw [show r - 0=r from rfl,hx]
    exact eI h
   ·show Rel β w (dh _ _ _) v;grind [eI]
 ·grind [Nat.beq,Nat.eq_of_beq_eq_true]
 ·show Rel β w (dh _ _ _) v;rw [hb];exact eI h
 ·split
  ·show Rel β w (dh _ _ _) v;rw [hb];exact eI h
  grind
 grind
theorem bA.DZ (s n m:Nat) (f g:bA):(bA.app s n m f g).iV=none:=by
 unfold bA.app
 split
 ·cases Nat.beq n _<;>rfl
 ·cases Nat.beq n 0 with
  | true=>rfl
  | false=>simp only [cond_false];split<;>rfl
 ·cases Nat.beq n 0 with
  | true=>exact bA.sA _
  | false=>rfl
 ·rfl
 ·split<;>rfl
 ·rfl
theorem bA.rS {β:bu} {w:World} {s n m:Nat} {f g:bA} {r j:Nat} {v:Value} (h1:n≤r) (h2:r<n+m) (hj:j<s) (h:Rel β w (g (r - n) j) v):Rel β w ((bA.app s n m f g) r j) v:=by
 have hb:Nat.blt r n=false:=by grind [Nat.blt,Nat.blt_eq]
 have hcat:∀ f g:bA,Rel β w (g (r - n) j) v→Rel β w ((bA.cat n f g) r j) v:=fun f g h=>by
  show Rel β w (dh _ _ _) v;grind [fc]
 unfold bA.app
 split
 ·rename_i l l'
  have h:Rel β w (aQ (l'.getD (r - n) []) j) v:=h
  cases hq:Nat.beq n l.length with
  | true =>
   have:=Nat.eq_of_beq_eq_true hq
   show Rel β w (aQ ((l++l').getD r []) j) v
   rw [List.getD_eq_getElem?_getD,List.getElem?_append_right (by omega),← List.getD_eq_getElem?_getD,← this]
   exact h
  | false=>exact hcat _ _ h
 ·rename_i l g
  cases hq:Nat.beq n 0 with
  | true =>
   have:=Nat.eq_of_beq_eq_true hq
   subst this
   exact h
  | false =>
   show Rel β w ((match kZ s n l with
    | some kk=>bA.fn (fun r j=>dh (Nat.blt r n) (.int kk (aE (ru n 0 l r j))) (g (r - n) j))
    | none=>bA.fn (fun r j=>dh (Nat.blt r n) (aQ (l.getD r []) j) (g (r - n) j))) r j) v
   split
   ·show Rel β w (dh _ _ _) v;rw [hb];exact fc h
   ·show Rel β w (dh _ _ _) v;rw [hb];exact fc h
 ·rename_i l _ _
  cases hq:Nat.beq n 0 with
  | true =>
   have:=Nat.eq_of_beq_eq_true hq
   subst this
   show Rel β w (g.bare r j) v
   rw [bA.Fb]
   exact h
  | false=>exact hcat _ _ h
 ·show Rel β w (dh _ _ _) v;rw [hb];exact fc h
 ·rename_i l
  have h:Rel β w (aQ (l.getD (r - n) []) j) v:=h
  split
  ·rename_i kk hk
   show Rel β w (dh _ _ _) v
   rw [hb,vd h1 h2]
   obtain ⟨x,hx⟩:=mi hk (r:=r - n) (by omega) hj
   rw [hx] at h ⊢
   exact fc h
  ·exact hcat _ _ h
 ·exact hcat _ _ h
def bA.qE (s:Nat) (e:TypeId) (n m:Nat) (f g:bA):bA:=match f with
 | .ty t f'=>bif Nat.beq t e&&(Nat.beq s 1 && !Nat.beq t nf) then .ty t (bA.app s n m f' g) else bA.app s n m f' g
 | f=>bA.app s n m f g
theorem bA.lq {s:Nat} {e:TypeId} {n m:Nat} {f g:bA} {t:TypeId} (h:(bA.qE s e n m f g).iV=some t):e=t∧s=1∧f.iV=some t∧t≠nf:=by
 unfold bA.qE at h
 split at h
 ·rename_i t' f'
  cases hb:(Nat.beq t' e&&(Nat.beq s 1 && !Nat.beq t' nf)) with
  | true =>
   rw [hb] at h
   cases h
   rw [Bool.and_eq_true,Bool.and_eq_true,Bool.not_eq_true'] at hb
   exact ⟨(Nat.eq_of_beq_eq_true hb.1).symm,Nat.eq_of_beq_eq_true hb.2.1,rfl,fun e=>by simp_all⟩
  | false=>simp_all [cond_false,bA.DZ]
 grind [bA.DZ]
theorem bA.uI {β:bu} {w:World} {s:Nat} {e:TypeId} {n m:Nat} {f g:bA} {r j:Nat} {v:Value} (hr:r<n) (hj:j<s) (h:Rel β w (f r j) v):Rel β w ((bA.qE s e n m f g) r j) v:=by
 unfold bA.qE
 split
 ·rename_i t' f'
  cases hb:(Nat.beq t' e&&(Nat.beq s 1 && !Nat.beq t' nf)) with
  | true=>exact bA.sq (f:=f') hr hj h
  | false=>exact bA.sq (f:=f') hr hj h
 grind [bA.sq]
theorem bA.uX {β:bu} {w:World} {s:Nat} {e:TypeId} {n m:Nat} {f g:bA} {r j:Nat} {v:Value} (h1:n≤r) (h2:r<n+m) (hj:j<s) (h:Rel β w (g (r - n) j) v):Rel β w ((bA.qE s e n m f g) r j) v:=by
 unfold bA.qE
 split
 ·rename_i t' f'
  cases hb:(Nat.beq t' e&&(Nat.beq s 1 && !Nat.beq t' nf)) with
  | true=>exact bA.rS (f:=f') h1 h2 hj h
  | false=>grind [bA.rS]
 grind [bA.rS]
def qb (P:Program) (ρ:Operand→AV) (H:ec) (nid:Nat):Op→Option (Prop×AV×List Nat×Ob)
 | .call { callee:=.builtin .append,args:=args,argTypes:=ts }=>match args.toList,ts.toList with
  | [x,y],[t,t2]=>match P.underlying t with
   | some (.slice e)=>match P.info? e,oK P t2 with
    | some inf,some isS=>match inf.zero with
     | some z=>bif Nat.blt 0 inf.size&&(Nat.blt 0 inf.bytes&&Nat.beq (cq z).length inf.size) then
       match n6 H inf.size (ρ x),rl H (gL (aQ (cq z)) inf.size).isSome isS inf.size (ρ y) with
       | some (ids,n,f),some (m,g)=>some ((n+m)*inf.bytes≤140737488355328,.ba nid inf.size 0 (n+m),ids,⟨inf.size,n+m,true,bA.qE inf.size e n m f g⟩)
       | _,_=>none
      else none
     | none=>none
    | _,_=>none
   | _=>none
  | _,_=>none
 | _=>none
def u4 (P:Program) (ρ:Operand→AV) (nid:Nat):Op→Option (Prop×AV×List Nat×Ob)
 | .call { callee:=.builtin .append,args:=args,argTypes:=ts }=>match args.toList,ts.toList with
  | [x,y],[t,t2]=>match P.underlying t,P.underlying t2,ρ x,ρ y with
   | some (.slice e),some (.int _),.bn,.int _ k=>match P.info? e with
    | some inf=>match inf.zero with
     | some z=>bif Nat.blt 0 inf.size&&(Nat.blt 0 inf.bytes&&(Nat.beq (cq z).length inf.size&&(cq z).all AV.one)) then
       some (0<k∧k*inf.bytes≤140737488355328,.ba nid inf.size 0 k.toNat,[],⟨inf.size,k.toNat,true,kY z inf.size⟩)
      else none
     | none=>none
    | none=>none
   | _,_,_,_=>none
  | _,_=>none
 | _=>none
def tj (P:Program) (ρ:Operand→AV) (H:ec):Op→Option (Prop×AV×List Nat×Ob)
 | .convert s d x=>bif Nat.beq s d then match P.underlying s,ρ x with
   | some (.slice e),.ba id es i n=>match P.underlying e,H id with
    | some (.int .u8),some o=>bif Nat.beq es 1&&(Nat.beq o.es 1&&(Nat.blt 0 n&&(List.range n).all fun r=>jn .u8 (o.f (i+r) 0))) then
      some ((0:Int)≤0,.aH 1 n (fun r _=>.int .u8 (aE (o.f (i+r) 0))),[id],⟨1,0,true,.bc []⟩)
     else none
    | _,_=>none
   | _,_=>none
  else none
 | _=>none
def rI (P:Program) (ρ:Operand→AV) (H:ec) (nid:Nat) (o:Op):Option (Prop×AV×List Nat×Ob) :=
 match qb P ρ H nid o with
 | some r=>some r
 | none=>match u4 P ρ nid o with
  | some r=>some r
  | none=>tj P ρ H o
def nV (m s:Nat) (bC:Nat→Nat→Value):List Value:=(List.range (m*s)).map fun k=>bC (k / s) (k%s)
theorem iu (m s:Nat) (bC:Nat→Nat→Value):(nV m s bC).length=m*s:=by simp [nV]
theorem rv {m s:Nat} {bC:Nat→Nat→Value} {r j:Nat} (hr:r<m) (hj:j<s):(nV m s bC)[r*s+j]? = some (bC r j):=by
 have hlt:r*s+j<m*s:=by
  have:=Nat.mul_le_mul_right s (show r+1≤m by omega)
  grind
 unfold nV
 rw [List.getElem?_map,List.getElem?_range hlt]
 simp only [Option.map_some,Option.some.injEq]
 have h1:(r*s+j) / s=r:=by
  rw [Nat.add_comm,Nat.add_mul_div_right _ _ (by omega),Nat.div_eq_of_lt hj,Nat.zero_add]
 grind [Nat.add_comm,Nat.add_mul_mod_self_right,Nat.mod_eq_of_lt]
theorem nD {m s k:Nat} {bC:Nat→Nat→Value} {u:Value} (h:(nV m s bC)[k]? = some u):∃ r j,r<m∧j<s∧k=r*s+j∧u=bC r j:=by
 have hk:k<m*s:=by grind [List.getElem?_eq_some_iff,iu]
 have hs:0<s:=by grind
 refine ⟨k / s,k%s,(Nat.div_lt_iff_lt_mul hs).2 hk,Nat.mod_lt _ hs,?_,?_⟩
 ·simp [Nat.div_add_mod,Nat.mul_comm]
 grind [nV,List.getElem?_range]
section
variable {P : Program} {β : bu} {w : World} {H : ec}
theorem D9 {hom isS:Bool} {s m:Nat} {g:bA} {y:AV} {vy:Value} {tx:TypeId} (hs:0<s) (hH:cT β w H) (hk:oK P tx=some isS) (hr:Rel β w y vy) (h:rl H hom isS s y=some (m,g)) :
  ∃ news,Src P s tx vy m news w∧∀ r j,r<m→j<s→∃ u,news[r*s+j]? = some u∧Rel β w (g r j) u∧u.oneCell'=true:=by
 have hkind:isS=true→∃ e',P.underlying tx=some (.slice e'):=by
  rintro rfl
  grind [oK]
 have zero:∀ (a:Option Addr) (cap:Nat),isS=true→∃ news,Src P s tx (.slice a 0 cap) 0 news w∧∀ r j,r<0→j<s→∃ u,news[r*s+j]? = some u∧Rel β w (g r j) u∧u.oneCell'=true:=by
  intro a cap hS
  obtain ⟨e',he⟩:=hkind hS
  cases a with
  | none=>exact ⟨[],Src.ofNil w he cap,fun r j h=>absurd h (by omega)⟩
  | some a=>exact ⟨[],Src.ofSlice w he a 0 cap [] (by simp) (by simp) (by simp),fun r j h=>absurd h (by omega)⟩
 have rows:∀ (b off cap:Nat) (bC:Nat→Nat→Value),isS=true→(∀ r j,r<m→j<s→w.cell? ⟨b,off+r*s+j,none⟩=some (bC r j))→(∀ r j,r<m→j<s→(bC r j).oneCell'=true) →
   (∀ r j,r<m→j<s→Rel β w (g r j) (bC r j))→∃ news,Src P s tx (.slice (some ⟨b,off,none⟩) m cap) m news w∧∀ r j,r<m→j<s→∃ u,news[r*s+j]? = some u∧Rel β w (g r j) u∧u.oneCell'=true:=by
  intro b off cap bC hS hc ho hrel
  obtain ⟨e',he⟩:=hkind hS
  refine ⟨nV m s bC,Src.ofSlice w he ⟨b,off,none⟩ m cap _ (iu ..) (fun k u hu=>?_) (fun u hu=>?_),fun r j hr' hj=>⟨bC r j,rv hr' hj,hrel r j hr' hj,ho r j hr' hj⟩⟩
  ·obtain ⟨r,j,hr',hj,rfl,rfl⟩:=nD hu
   grind [e7,Nat.add_assoc]
  ·obtain ⟨k,hk',rfl⟩:=List.getElem_of_mem hu
   obtain ⟨r,j,hr',hj,_,e⟩:=nD (List.getElem?_eq_getElem hk')
   grind
 cases hr with
 | bn=>obtain ⟨hc,h⟩:=bB h;cases h<;>simp_all
 | @pq a=>obtain ⟨hc,h⟩:=bB h;cases h<;>simp_all
 | @aH es n cap f b off bC he hcap hb hc ho hrr hcl =>
  replace h:=bB h;obtain ⟨hc',h⟩:=h
  rw [Bool.and_eq_true] at hc'
  have e:=Nat.eq_of_beq_eq_true hc'.2
  subst e
  cases h
  exact rows b off cap bC hc'.1 hc ho (fun r j hr hj=>wS (hrr r j hr hj))
 | @gU es cap f a _ =>
  replace h:=bB h;obtain ⟨hc',h⟩:=h
  rw [Bool.and_eq_true] at hc'
  cases h<;>simp_all
 | @ba id es i len b n cap sz mu el h1 hn hcap hsh hz =>
  simp only [rl] at h
  cases ho:H id with
  | none=>grind
  | some o =>
   simp only [ho] at h
   replace h:=bB h;obtain ⟨hc',h⟩:=h
   simp only [Bool.and_eq_true] at hc'
   have e1:=Nat.eq_of_beq_eq_true hc'.2.1
   have e2:=Nat.eq_of_beq_eq_true hc'.2.2
   subst e1
   cases h
   obtain ⟨rfl,_,cs,el',hheap,hsz,hcells⟩:=hH.bz ho h1
   rw [e2] at hcells
   have key:∀ r j,r<m→j<es→∃ v,cs[(r+i)*es+j]? = some v∧Rel β w (o.f (r+i) j) v∧v.oneCell'=true:=fun r j hr' hj=>hcells (r+i) j (by omega) hj
   refine rows b (i*es) cap (fun r j=>cs.getD ((r+i)*es+j) undef) hc'.1 (fun r j hr' hj=>?_) (fun r j hr' hj=>?_) (fun r j hr' hj=>?_)
   ·obtain ⟨v,hv,_⟩:=key r j hr' hj
    have e:i*es+r*es+j=(r+i)*es+j:=by grind
    rw [e]
    simp [World.cell?,hheap,hv,Array.getD_eq_getD_getElem?]
   ·obtain ⟨v,hv,_,ho'⟩:=key r j hr' hj
    simp_all
   ·obtain ⟨v,hv,hr'',_⟩:=key r j hr' hj
    simp only [Array.getD_eq_getD_getElem?,hv,Option.getD_some]
    grind [bA.CY]
 | @jC id es i a h1 =>
  simp only [rl] at h
  cases ho:H id with
  | none=>grind
  | some o =>
   simp only [ho] at h
   replace h:=bB h;obtain ⟨hc',h⟩:=h
   simp only [Bool.and_eq_true] at hc'
   cases h<;>simp_all
 | @lD id es i len n cap a h1 =>
  simp only [rl] at h
  cases ho:H id with
  | none=>grind
  | some o=>exact (hH.dead ho h1).elim
 | @str b =>
  replace h:=bB h;obtain ⟨hc',h⟩:=h
  rw [Bool.and_eq_true] at hc'
  have e:=Nat.eq_of_beq_eq_true hc'.2
  subst e
  have hF:=not_true hc'.1
  subst hF
  have hu:P.underlying tx=some .string:=by grind [oK]
  cases h
  refine ⟨byteCells b,Src.ofString w hu b,fun r j hr' hj=>?_⟩
  obtain rfl:j=0:=by omega
  have hlt:r<b.data.toList.length:=by simp_all
  refine ⟨.int .u8 (b.data.toList[r]).toNat,?_,?_,rfl⟩
  ·grind [byteCells]
  ·show Rel β w (.int .u8 ((b.data.toList.getD r 0).toNat:Int)) _
   have:b.data.toList.getD r 0=b.data.toList[r]:=by grind
   rw [this]
   exact .int
 | int=>cases h
 | bool=>cases h
 | raw=>cases h
 | own=>cases h
 | kD=>cases h
 | l8=>cases h
 | lQ=>cases h
 | bJ=>cases h
 | agg=>cases h
 | aX=>cases h
 | fn=>cases h
 | lW=>cases h
 | nn h'=>exact D9 hs hH hk h' h
 | p4=>cases h
 | bx=>cases h
theorem Kr {s n:Nat} {ids:List Nat} {f:bA} {x:AV} {vx:Value} (hH:cT β w H) (hr:Rel β w x vx) (h:n6 H s x=some (ids,n,f)) :
  (n=0∧(∃ a,vx=.slice a 0 0)∧(ids=[]∨∃ id,ids=[id]∧β.m id≠none)) ∨
  (∃ id b cap cs el nn mu sz,ids=[id]∧vx=.slice (some ⟨b,0,none⟩) n cap∧β.m id=some (.bz b nn mu)∧n≤nn∧n≤cap∧w.heap[b]? = some (.cells cs el (0,0))∧sz=cs.size∧cap*s≤sz∧(∀ t,f.iV=some t→el=t) ∧
   ∀ r j,r<n→j<s→∃ u,cs[r*s+j]? = some u∧Rel β w (f r j) u∧u.oneCell'=true):=by
 cases hr with
 | bn=>cases h<;>grind
 | pq=>cases h<;>grind
 | @ba id es i len b nn cap sz mu el h1 hn hcap hsh hz =>
  cases i with
  | succ i=>simp [n6] at h
  | zero =>
   simp only [n6] at h
   cases ho:H id with
   | none=>grind
   | some o =>
    simp only [ho] at h
    replace h:=bB h;obtain ⟨hc',h⟩:=h
    rw [Bool.and_eq_true] at hc'
    have e1:=Nat.eq_of_beq_eq_true hc'.1
    have e2:=Nat.eq_of_beq_eq_true hc'.2
    subst e1
    cases h
    obtain ⟨rfl,_,cs,el',hheap,hszo,hcells⟩:=hH.bz ho h1
    rw [e2] at hcells
    have hsz':sz=cs.size:=by grind [World.shape?]
    exact .inr ⟨id,b,cap,cs,el',_,mu,sz,rfl,by simp,h1,by omega,hcap,hheap,hsz',by grind,fun t h=>(hszo.ty t h).2.1,fun r j hr' hj=>hcells r j (by omega) hj⟩
 | @jC id es i a h1 =>
  cases i with
  | succ i=>simp [n6] at h
  | zero =>
   simp only [n6] at h
   grind
 | @lD id es i len nn cap a h1 =>
  cases i with
  | succ i=>simp [n6] at h
  | zero =>
   simp only [n6] at h
   cases ho:H id with
   | none=>grind
   | some o=>exact (hH.dead ho h1).elim
 | int=>cases h
 | bool=>cases h
 | str=>cases h
 | raw=>cases h
 | own=>cases h
 | kD=>cases h
 | l8=>cases h
 | lQ=>cases h
 | aH=>cases h
 | gU=>cases h
 | bJ=>cases h
 | agg=>cases h
 | aX=>cases h
 | fn=>cases h
 | lW=>cases h
 | nn _=>cases h
 | p4=>cases h
 | bx=>cases h
end
section
variable {K : Ctx} {ops : Array Oper} {c : Nat} {E : Nat → Prop} {β : bu} {s : dE} {a : Act} {w : World} {i : Nat} {o : Oper}
theorem cy.A3 {u:Value} {v:AV} {x:Ob} {w':World} {own:Own} {kills:List Nat} (hs:cy K ops c E β s a w) (hp:tN K ops s i o) (hE:E i) (hg:s.G o.guard=true)
  (hkills:∀ id,id∈kills→β.m id≠none∧∀ b n mu,β.m id=some (.bz b n mu)→mu=true∧∃ o,w.heap[b]? = some o∧o.isCells=true)
  (hown:∀ b n mu,own=.bz b n mu→b<w'.heap.size∧(w.heap.size≤b∨∃ id,id∈kills∧∃ n mu,β.m id=some (.bz b n mu)))
  (hos:w'.os=w.os) (htape:w'.tape=w.tape) (hout:w'.output=w.output) (hsize:w.heap.size≤w'.heap.size)
  (hblock:∀ k,k<w.heap.size→(∀ id,id∈kills→∀ n mu,β.m id≠some (.bz k n mu))→w'.heap[k]? = w.heap[k]?) (hshape:∀ k,k<w.heap.size→w'.shape? k=w.shape? k)
  (hN:∀ β':bu,β'.m (c+8*i)=some own→dF β w β' w'→(∀ id,id∈kills→β'.m id=some .dead)→(∀ id,id≠c+8*i→id∉kills→β'.m id=β.m id)→β'.F=β.F→Rel β' w' v u∧gT β' w' x (c+8*i)) :
  ∃ β',cy K ops c (less E i) β' (s.app i o ⟨v,true,[],(c+8*i,some x)::kills.map (fun id=>(id,none)),[]⟩) (a.put o.dst u) w':=by
 have hfr:β.m (c+8*i)=none:=hs.h.nP i 0 hE (by omega)
 have hnk:∀ id,id∈kills→c+8*i≠id:=fun id hid e=>(hkills id hid).1 (e▸hfr)
 let β':bu:=wM β ((c+8*i,own)::kills.map (fun id=>(id,Own.dead)))
 have lkD:∀ (l:List Nat) id,look (l.map (fun id=>(id,Own.dead))) id=if id∈l then some .dead else none:=by
  intro l id
  induction l with
  | nil=>rfl
  | cons y l ih =>
   grind [fp,id,h]
 have lkN:∀ (l:List Nat) id,look (l.map (fun id=>(id,(none:Option Ob)))) id=if id∈l then some none else none:=by
  intro l id
  induction l with
  | nil=>rfl
  | cons y l ih =>
   grind [fp,id,h]
 have m0:β'.m (c+8*i)=some own:=iw (by rw [fp,if_pos rfl])
 have m1:∀ id,id∈kills→β'.m id=some .dead:=fun id hid=>iw (by rw [fp,if_neg (hnk id hid),lkD,if_pos hid])
 have m2:∀ id,id≠c+8*i→id∉kills→β'.m id=β.m id:=fun id h1 h2=>dX (by simp_all [fp]<;>omega)
 have hk:dF β w β' w':=by
  refine ⟨fun id o ho=>?_,fun b hlt hf=>hblock b hlt (fun id hid n mu hm=>?_),fun b hlt hf=>⟨hf.1,fun id n=>?_⟩,fun b e z hbs=>?_⟩
  ·by_cases h1:id∈kills
   ·exact ⟨.dead,m1 id h1,by cases o<;>trivial⟩
   ·refine ⟨o,?_,o.fh⟩
    grind
  ·have:=((hkills id hid).2 b n mu hm).1
   subst this
   exact hf.2 id n hm
  ·by_cases h0:id=c+8*i
   ·subst h0
    rw [m0]
    intro h
    injection h with h
    obtain ⟨_,h1|⟨id',hid',n',mu',hm'⟩⟩:=hown b n true h
    ·omega
    ·have:=((hkills id' hid').2 b n' mu' hm').1
     subst this
     exact hf.2 id' n' hm'
   ·by_cases h1:id∈kills
    ·grind
    ·rw [m2 id h0 h1];exact hf.2 id n
  grind [fg]
 obtain ⟨hv,hob⟩:=hN β' m0 hk m1 m2 rfl
 have hkept:Kept K.B K.G w w':=by
  refine ⟨hos,htape,hout,hsize,fun k hkB hG=>hblock k (by have:=hs.h.hB;omega) (fun id hid n mu hm=>?_),fun k hkB=>hshape k (by have:=hs.h.hB;omega),fun k o hk0 ho=>(hblock k (Array.getElem?_eq_some_iff.1 hk0).1 (fun id hid n mu hm=>?_)).trans hk0⟩
  rotate_left
  ·grind
  rcases (hs.h.live id k n mu hm).1 with h|h
  ·omega
  grind
 refine ⟨β',hs.step hp hE hg hk hkept rfl (fun id ob h=>⟨fun _=>?_,fun h=>by cases h⟩) (fun id o' hl ho hgi=>?_) (fun id o' hl ho h=>?_) ?_ (fun id h=>?_) (fun id b n mu h=>?_) (fun _=>hv) (fun h=>by cases h)⟩
 ·simp only [fp] at h
  grind
 ·simp only [fp] at hl
  by_cases e:c+8*i=id
  ·grind
  ·rw [if_neg e,lkN] at hl
   by_cases h1:id∈kills
   ·grind
   ·have hon:∀ l,fA.on ⟨v,true,[],l,[]⟩ id o'=o':=fun l=>by simp [fA.on,look,bZ]
    rw [hon]
    rcases hs.h.heap id o' ho hgi with ⟨b,g1,g2⟩|⟨g1,g2⟩
    ·refine .inl ⟨b,by grind,g2.fO hk (hblock b (hs.h.live id b _ _ g1).2 (fun id' hid' n mu hm=>h1 ?_))⟩
     rw [hs.h.inj id id' b _ _ _ _ g1 hm];omega
    ·exact .inr ⟨by grind,g2⟩
 ·simp only [fp] at hl
  grind
 ·have key:∀ q b n n' mu mu',β'.m (c+8*i)=some (.bz b n mu)→q≠c+8*i→β'.m q=some (.bz b n' mu')→False:=by
   intro q b n n' mu mu' h1 hq h2
   rw [m0] at h1
   injection h1 with h1
   by_cases hqk:q∈kills
   ·grind
   ·rw [m2 q hq hqk] at h2
    obtain ⟨_,h3|⟨id',hid',n2,mu2,hm'⟩⟩:=hown b n mu h1
    ·have:=(hs.h.live q b n' mu' h2).2;omega
    ·exact hqk (by rw [hs.h.inj q id' b _ _ _ _ h2 hm'];omega)
  intro p q b n n' mu mu' h1 h2
  by_cases e1:p=c+8*i<;>by_cases e2:q=c+8*i
  ·omega
  ·grind
  ·grind
  ·by_cases k1:p∈kills
   ·grind
   ·by_cases k2:q∈kills
    ·grind
    ·rw [m2 p e1 k1] at h1
     rw [m2 q e2 k2] at h2
     exact hs.h.inj p q b n n' mu mu' h1 h2
 ·by_cases e:id=c+8*i
  ·simp_all
  grind
 ·by_cases e:id=c+8*i
  ·subst e
   rw [m0] at h
   injection h with h
   obtain ⟨h2,h3|⟨id',hid',n2,mu2,hm'⟩⟩:=hown b n mu h
   ·have:=hs.h.hB
    omega
   ·exact ⟨(hs.h.live id' b n2 mu2 hm').1,h2⟩
  ·by_cases h1:id∈kills
   ·grind
   ·rw [m2 id e h1] at h
    have:=(hs.h.live id b n mu h).2
    exact ⟨(hs.h.live id b n mu h).1,by omega⟩
theorem cy.xY {u:Value} {v:AV} {x:Ob} {w':World} {own:Own} {kills:List Nat} (hs:cy K ops c E β s a w) (hp:tN K ops s i o) (hE:E i) (hg:s.G o.guard=true)
  (hkills:∀ id,id∈kills→β.m id≠none∧∀ b n mu,β.m id=some (.bz b n mu)→mu=true∧∃ o,w.heap[b]? = some o∧o.isCells=true)
  (hown:∀ b n mu,own=.bz b n mu→b<w'.heap.size∧(w.heap.size≤b∨∃ id,id∈kills∧∃ n mu,β.m id=some (.bz b n mu)))
  (hos:w'.os=w.os) (htape:w'.tape=w.tape) (hout:w'.output=w.output) (hsize:w.heap.size≤w'.heap.size)
  (hblock:∀ k,k<w.heap.size→(∀ id,id∈kills→∀ n mu,β.m id≠some (.bz k n mu))→w'.heap[k]? = w.heap[k]?) (hshape:∀ k,k<w.heap.size→w'.shape? k=w.shape? k)
  (hN:∀ β':bu,β'.m (c+8*i)=some own→dF β w β' w'→Rel β' w' v u∧gT β' w' x (c+8*i)) :
  ∃ β',cy K ops c (less E i) β' (s.app i o ⟨v,true,[],(c+8*i,some x)::kills.map (fun id=>(id,none)),[]⟩) (a.put o.dst u) w' :=
 hs.A3 hp hE hg hkills hown hos htape hout hsize hblock hshape (fun β' h1 h2 _ _ _=>hN β' h1 h2)
end
section
variable {K : Ctx} {ops : Array Oper} {c : Nat} {E : Nat → Prop} {β : bu} {s : dE} {a : Act} {w : World} {i : Nat} {o : Oper}
theorem uO {P:Program} {t tx ty e:TypeId} {inf:TypeInfo} (ht:P.underlying t=some (.slice e)) (hi:P.info? e=some inf) {b sLen sCap:Nat} {x:Value} {n:Nat} {news:List Value} {w':World} (hs:Src P inf.size tx x n news w)
  (hroom:sLen+n≤sCap) (hst:(storeCells ⟨b,sLen*inf.size,none⟩ news 0).run P w=.ok () w') :
  (Builtin.append_ #[t,tx] ty #[.slice (some ⟨b,0,none⟩) sLen sCap,x]).run P w=.ok (.slice (some ⟨b,0,none⟩) (sLen+n) sCap) w':=by
 rcases hs.kind with ⟨e',hk⟩|hk<;>simp [Builtin.append_,run_underlying ht,run_underlying hk,sizeOf,typeInfo,hi,hs.len,hroom,hs.cells,e7,hst]
theorem cy.zV {ρ:Operand→AV} {f:ed} {q:Prop} {v:AV} {ids:List Nat} {x:Ob} (hs:cy K ops c E β s a w) (hp:tN K ops s i o) (hE:E i) (hg:o.guard=none) (hρ:∀ x,x∈o.op.operands→Rel β w (ρ x) (a.eval x))
  (hmt:∀ id,id∈ids→(s.H id).map Ob.mu=some true∧s.ht id=none) (h:qb K.P ρ (vH f s.H) (c+8*i) o.op=some (q,v,ids,x)) (hq:q) :
  ∃ u w',(execOp a.eval o).run K.P w=.ok (.value u) w'∧∃ β',cy K ops c (less E i) β' (s.app i o ⟨v,true,[],(c+8*i,some x)::ids.map (fun id=>(id,none)),[]⟩) (a.put o.dst u) w':=by
 have hH:=hs.ok f
 have hgt:s.G o.guard=true:=by rw [hg];rfl
 have hkills:∀ id,id∈ids→β.m id≠none∧∀ b n mu,β.m id=some (.bz b n mu)→mu=true∧∃ o,w.heap[b]? = some o∧o.isCells=true:=by
  intro id hid
  obtain ⟨h1,h2⟩:=hmt id hid
  cases ho:s.H id with
  | none=>grind
  | some ob =>
   simp only [ho,Option.map_some,Option.some.injEq] at h1
   rcases hs.h.heap id ob ho (by grind) with ⟨b,g1,cs,el,g3,_⟩|⟨g1,_⟩
   ·refine ⟨by grind,fun b' n' mu' h=>?_⟩
    rw [g1,h1] at h
    cases h;exact ⟨rfl,_,g3,rfl⟩
   grind
 obtain ⟨dst,op,ty,pos,after,g⟩:=o
 cases op<;>simp only [qb,reduceCtorEq] at h
 rename_i cl
 obtain ⟨callee,args,ts⟩:=cl
 cases callee<;>first|(cases h;done)|skip
 rename_i bi
 cases bi<;>first|(cases h;done)|skip
 obtain ⟨args⟩:=args
 obtain ⟨ts⟩:=ts
 simp only at h
 split at h
 rotate_left
 ·cases h
 rename_i xo yo t t2
 split at h
 rotate_left
 ·cases h
 rename_i e hu
 split at h
 rotate_left
 ·cases h
 rename_i inf isS hi hk
 split at h
 rotate_left
 ·cases h
 rename_i z hz
 replace h:=bB h
 obtain ⟨hc,h⟩:=h
 simp only [Bool.and_eq_true,Nat.blt_eq] at hc
 obtain ⟨hsz,hby,hzl⟩:=hc
 have hzl:=Nat.eq_of_beq_eq_true hzl
 rw [dw] at hzl
 split at h
 rotate_left
 ·cases h
 rename_i ids' n ff m gg hdst hsrc
 simp only [Option.some.injEq,Prod.mk.injEq] at h
 obtain ⟨rfl,rfl,rfl,rfl⟩:=h
 have hx:=hρ xo (by simp [Op.operands,Call.operands])
 have hy:=hρ yo (by simp [Op.operands,Call.operands])
 obtain ⟨news,hSrc,hnews⟩:=D9 hsz hH hk hy hsrc
 have hnl:=hSrc.newsLen
 have hexec:∀ (u:Value) (w':World),(Builtin.append_ #[t,t2] ty #[a.eval xo,a.eval yo]).run K.P w=.ok u w' →
   (execOp a.eval ⟨dst,.call ⟨.builtin .append,⟨[xo,yo]⟩,⟨[t,t2]⟩⟩,ty,pos,after,g⟩).run K.P w=.ok (.value u) w':=by
  intro u w' hr
  simp [execOp,resolve,invoke,builtin,hr,Result.andThen]
 have hmax:n+m≤140737488355328:=by
  have:=Nat.mul_le_mul_left (n+m) (show 1≤inf.bytes by omega)
  omega
 have grown:∀ (base:Option Addr) (cap:Nat) (olds:List Value),a.eval xo=.slice base n cap→cap<n+m→olds.length=n*inf.size→(Builtin.firstCells inf.size n (.slice base n cap)).run K.P w.drew=.ok olds.toArray w.drew →
   (∀ r j,r<n→j<inf.size→∃ u,olds[r*inf.size+j]? = some u∧Rel β w (ff r j) u∧u.oneCell'=true) →
   ∃ u w',(execOp a.eval ⟨dst,.call ⟨.builtin .append,⟨[xo,yo]⟩,⟨[t,t2]⟩⟩,ty,pos,after,g⟩).run K.P w=.ok (.value u) w' ∧
    ∃ β',cy K ops c (less E i) β' (s.app i ⟨dst,.call ⟨.builtin .append,⟨[xo,yo]⟩,⟨[t,t2]⟩⟩,ty,pos,after,g⟩ ⟨.ba (c+8*i) inf.size 0 (n+m),true,[],(c+8*i,some ⟨inf.size,n+m,true,bA.qE inf.size e n m ff gg⟩)::ids'.map (fun id=>(id,none)),[]⟩) (a.put dst u) w':=by
  intro base cap olds hxe hcap hol hfc hold
  have hr:=run_append_grow_src (P:=K.P) w t t2 ty e inf z hu hi hz base n cap olds hfc (a.eval yo) m news hSrc hcap (by omega) (growslice_fits hcap hq)
  rw [← hxe] at hr
  have hge:=grownCap_ge w (n+m) cap e
  generalize hcs:(olds++news).toArray++Builtin.zeroCells z.cells (grownCap w (n+m) cap e - (n+m))=cs at hr
  have hcsz:cs.size=grownCap w (n+m) cap e*inf.size:=by
   rw [← hcs]
   simp only [Array.size_append,List.size_toArray,List.length_append,size_zeroCells,hol,hnl,hzl,← Nat.add_mul]
   grind
  have hget:∀ k,k<(n+m)*inf.size→cs[k]? = (olds++news)[k]? := by grind
  refine ⟨_,_,hexec _ _ hr,?_⟩
  have hnewblk:(w.drew.alloc (.cells cs e)).heap[w.heap.size]? = some (.cells cs e (0,0)):=heap_alloc_new w.drew _
  refine hs.xY (own:=.bz w.heap.size (n+m) true) hp hE hgt hkills (fun b n' mu' hb=>?_) rfl rfl rfl ?_ (fun k hk' _=>Below.heap_alloc w.drew _ k hk') (fun k hk'=>cK (Below.heap_alloc w.drew _ k hk')) (fun β' hm hk'=>⟨?_,?_⟩)
  ·grind
  ·simp
  ·have:=Rel.ba (β:=β') (w:=w.drew.alloc (.cells cs e)) (id:=c+8*i) (es:=inf.size) (i:=0) (len:=n+m) (cap:=grownCap w (n+m) cap e) (sz:=cs.size) (el:=e) hm (by omega) hge (by grind [World.shape?]) (by grind)
   grind
  ·refine .inl ⟨w.heap.size,hm,cs,e,hnewblk,?_,fun r j hr' hj=>?_⟩
   ·refine ⟨?_,fun t h=>⟨(bA.lq h).2.2.2,(bA.lq h).1,fun hs=>by have:1<inf.size:=hs;have:=(bA.lq h).2.1;omega⟩⟩
    grind
   ·have hr'':r<n+m:=hr'
    have hj':j<inf.size:=hj
    have hlt:r*inf.size+j<(n+m)*inf.size:=by
     have:=Nat.mul_le_mul_right inf.size (show r+1≤n+m by omega)
     grind
    show ∃ v,cs[r*inf.size+j]? = some v∧Rel β' _ ((bA.qE inf.size e n m ff gg) r j) v∧v.oneCell'=true
    rw [hget _ hlt]
    cases hb:Nat.blt r n with
    | true =>
     rw [Nat.blt_eq] at hb
     obtain ⟨u,hu1,hu2,hu3⟩:=hold r j hb hj'
     have hlt':r*inf.size+j<olds.length:=(List.getElem?_eq_some_iff.1 hu1).1
     exact ⟨u,by grind,bA.uI hb hj' (hu2.fO hk'),hu3⟩
    | false =>
     have hb':n≤r:=by grind [Nat.lt_or_ge,h,Nat.blt_eq]
     obtain ⟨u,hu1,hu2,hu3⟩:=hnews (r - n) j (by omega) hj'
     have e1:r*inf.size+j - olds.length=(r - n)*inf.size+j:=by
      rw [hol,Nat.sub_mul]
      have:=Nat.mul_le_mul_right inf.size hb'
      omega
     have hge':olds.length≤r*inf.size+j:=by
      rw [hol]
      have:=Nat.mul_le_mul_right inf.size hb'
      omega
     exact ⟨u,by grind,bA.uX hb' hr'' hj' (hu2.fO hk'),hu3⟩
 rcases Kr hH hx hdst with ⟨rfl,⟨ad,hxe⟩,_⟩|⟨id,b,cap,cs,el,nn,mu,sz,rfl,hxe,hbk,hn,hcap,hheap,rfl,hcs,hcty,hold⟩
 ·
  rcases Nat.eq_zero_or_pos m with rfl|hm
  ·have hnil:news=[]:=List.eq_nil_of_length_eq_zero (by omega)
   subst hnil
   have hr:=run_append_nothing (P:=K.P) w t t2 ty e inf hu hi ad 0 0 (Nat.le_refl _) (a.eval yo) hSrc
   rw [← hxe] at hr
   refine ⟨_,_,hexec _ _ hr,?_⟩
   rw [hxe]
   exact hs.xY (own:=.empty) hp hE hgt hkills (fun b n mu h=>by cases h) rfl rfl rfl (Nat.le_refl _) (fun _ _ _=>rfl) (fun _ _=>rfl) (fun β' hm hk'=>⟨.jC (by grind),.inr ⟨hm,rfl⟩⟩)
  ·refine grown ad 0 [] hxe (by omega) (by simp) ?_ (fun r j h=>absurd h (by omega))
   cases ad<;>grind [run_firstCells_none,run_firstCells_some]
 ·have holdl:∀ r j,r<n→j<inf.size→cs.getD (r*inf.size+j) undef=(cs.getD (r*inf.size+j) undef)∧cs[r*inf.size+j]? = some (cs.getD (r*inf.size+j) undef):=fun r j hr' hj=>by
   obtain ⟨u,hu1,_⟩:=hold r j hr' hj
   simp [Array.getD_eq_getD_getElem?,hu1]
  by_cases hroom:n+m≤cap
  ·
   have hmu:mu=true:=((hkills id (List.mem_singleton.2 rfl)).2 b nn mu hbk).1
   subst hmu
   have hfit:n*inf.size+0+news.length≤cs.size:=by
    have:=Nat.mul_le_mul_right inf.size hroom
    grind
   obtain ⟨w',hrun,hwr⟩:=lI (P:=K.P) (off:=n*inf.size) news 0 w cs hheap hfit hSrc.one
   have hr:=uO (P:=K.P) (t:=t) (tx:=t2) (ty:=ty) hu hi (b:=b) (sLen:=n) (sCap:=cap) hSrc hroom hrun
   rw [← hxe] at hr
   have hset:=ra news 0 (n*inf.size) cs
   have hshape:=hwr.shape hheap (hset 0).1
   refine ⟨_,_,hexec _ _ hr,?_⟩
   refine hs.xY (own:=.bz b (n+m) true) hp hE hgt hkills (fun b' n' mu' hb=>?_) hwr.os hwr.tape hwr.output (by rw [hwr.size];omega) (fun k _ hk'=>hwr.other k (fun e=>?_)) (fun k _=>hshape k) (fun β' hm hk'=>⟨?_,?_⟩)
   ·cases hb
    exact ⟨by rw [hwr.size];grind,.inr ⟨id,List.mem_singleton.2 rfl,_,_,hbk⟩⟩
   ·grind
   ·have:=Rel.ba (β:=β') (w:=w') (id:=c+8*i) (es:=inf.size) (i:=0) (len:=n+m) (cap:=cap) (sz:=cs.size) (el:=el) hm (by omega) hroom (by grind [World.shape?]) (by grind)
    grind
   ·refine .inl ⟨b,hm,_,el,hwr.at_,?_,fun r j hr' hj=>?_⟩
    ·refine ⟨?_,fun t h=>⟨(bA.lq h).2.2.2,hcty t (bA.lq h).2.2.1,fun hs=>by grind [bA.lq,h]⟩⟩
     show (n+m)*inf.size≤_
     rw [(hset 0).1]
     grind
    ·have hr'':r<n+m:=hr'
     have hj':j<inf.size:=hj
     have hlt:r*inf.size+j<(n+m)*inf.size:=by
      have:=Nat.mul_le_mul_right inf.size (show r+1≤n+m by omega)
      grind
     have hltc:r*inf.size+j<cs.size:=by grind
     show ∃ v,_[r*inf.size+j]? = some v∧Rel β' _ ((bA.qE inf.size e n m ff gg) r j) v∧v.oneCell'=true
     rw [(hset (r*inf.size+j)).2]
     cases hb:Nat.blt r n with
     | true =>
      rw [Nat.blt_eq] at hb
      have:r*inf.size+j<n*inf.size:=by
       have:=Nat.mul_le_mul_right inf.size (show r+1≤n by omega)
       grind
      rw [if_neg (by omega)]
      obtain ⟨u,hu1,hu2,hu3⟩:=hold r j hb hj'
      exact ⟨u,hu1,bA.uI hb hj' (hu2.fO hk'),hu3⟩
     | false =>
      have hb':n≤r:=by grind [Nat.lt_or_ge,h,Nat.blt_eq]
      have hnr:=Nat.mul_le_mul_right inf.size hb'
      have e2:(n+m)*inf.size=n*inf.size+m*inf.size:=Nat.add_mul ..
      rw [if_pos ⟨by omega,by omega,hltc⟩]
      obtain ⟨u,hu1,hu2,hu3⟩:=hnews (r - n) j (by omega) hj'
      have e1:r*inf.size+j - (n*inf.size+0)=(r - n)*inf.size+j:=by
       rw [Nat.sub_mul];omega
      exact ⟨u,by grind,bA.uX hb' hr'' hj' (hu2.fO hk'),hu3⟩
  ·
   refine grown (some ⟨b,0,none⟩) cap (nV n inf.size fun r j=>cs.getD (r*inf.size+j) undef) hxe (by omega) (iu ..) ?_ (fun r j hr' hj=>?_)
   ·refine run_firstCells_some w.drew inf.size n ⟨b,0,none⟩ n cap _ (iu ..) (fun k u hu'=>?_)
    obtain ⟨r,j,hr',hj,rfl,rfl⟩:=nD hu'
    have:=(holdl r j hr' hj).2
    have hd:w.drew.heap[b]? = some (.cells cs el (0,0)):=hheap
    rw [e7]
    unfold World.cell?
    grind
   grind [rv,Array.getD_eq_getD_getElem?]
theorem cy.y9 {ρ:Operand→AV} {q:Prop} {v:AV} {ids:List Nat} {x:Ob} (hs:cy K ops c E β s a w) (hp:tN K ops s i o) (hE:E i) (hg:o.guard=none) (hρ:∀ x,x∈o.op.operands→Rel β w (ρ x) (a.eval x))
  (h:u4 K.P ρ (c+8*i) o.op=some (q,v,ids,x)) (hq:q) :
  ∃ u w',(execOp a.eval o).run K.P w=.ok (.value u) w'∧∃ β',cy K ops c (less E i) β' (s.app i o ⟨v,true,[],(c+8*i,some x)::ids.map (fun id=>(id,none)),[]⟩) (a.put o.dst u) w':=by
 have hgt:s.G o.guard=true:=by rw [hg];rfl
 obtain ⟨dst,op,ty,pos,after,g⟩:=o
 cases op<;>simp only [u4,reduceCtorEq] at h
 rename_i cl
 obtain ⟨callee,args,ts⟩:=cl
 cases callee<;>first|(cases h;done)|skip
 rename_i bi
 cases bi<;>first|(cases h;done)|skip
 obtain ⟨args⟩:=args
 obtain ⟨ts⟩:=ts
 simp only at h
 split at h
 rotate_left
 ·cases h
 rename_i xo yo t t2
 split at h
 rotate_left
 ·cases h
 rename_i e kn kq k hu hu2 h1 h2
 split at h
 rotate_left
 ·cases h
 rename_i inf hi
 split at h
 rotate_left
 ·cases h
 rename_i z hz
 replace h:=bB h
 obtain ⟨hc,h⟩:=h
 simp only [Bool.and_eq_true,Nat.blt_eq] at hc
 obtain ⟨hsz,hby,hzl,hall⟩:=hc
 have hzl:=Nat.eq_of_beq_eq_true hzl
 rw [dw] at hzl
 simp only [Option.some.injEq,Prod.mk.injEq] at h
 obtain ⟨rfl,rfl,rfl,rfl⟩:=h
 obtain ⟨hk0,hk1⟩:=hq
 have hx:=hρ xo (by simp [Op.operands,Call.operands])
 have hy:=hρ yo (by simp [Op.operands,Call.operands])
 rw [h1] at hx
 rw [h2] at hy
 have hxe:a.eval xo=.slice none 0 0:=by cases hsx:a.eval xo<;>rw [hsx] at hx<;>cases hx;rfl
 have hye:=bw hy
 obtain ⟨m,rfl⟩:∃ m:Nat,k=m:=⟨k.toNat,by omega⟩
 have hm0:0<m:=by omega
 have hmb:m*inf.bytes≤140737488355328:=by omega
 have hm1:m≤140737488355328:=by
  have:=Nat.mul_le_mul_left m (show 1≤inf.bytes by omega)
  omega
 have hr:=Lib.run_append_grow_zeros (P:=K.P) w t t2 ty e inf z kq kn hu hu2 hi hz none 0 0 [] (run_firstCells_none w.drew inf.size 0 0 0) m hm0 hsz (by omega) (by omega) (by omega) (growslice_fits (by omega) (by grind))
 rw [← hxe,← hye] at hr
 rw [Nat.zero_add] at hr
 rw [Int.toNat_natCast]
 have hge:=grownCap_ge w m 0 e
 generalize hcs:(([]:List Value).toArray++Builtin.zeroCells z.cells m++Builtin.zeroCells z.cells (grownCap w m 0 e - m))=cs at hr
 have hcsz:cs.size=grownCap w m 0 e*inf.size:=by
  rw [← hcs]
  simp only [Array.size_append,List.size_toArray,List.length_nil,size_zeroCells,hzl,Nat.zero_add,← Nat.add_mul]
  grind
 have hget:∀ k,k<m*inf.size→cs[k]? = (Builtin.zeroCells z.cells m)[k]? := by grind [Array.getElem?_append_left,size_zeroCells]
 have hexec:(execOp a.eval ⟨dst,.call ⟨.builtin .append,⟨[xo,yo]⟩,⟨[t,t2]⟩⟩,ty,pos,after,g⟩).run K.P w=.ok (.value (.slice (some ⟨w.heap.size,0,none⟩) m (grownCap w m 0 e))) (w.drew.alloc (.cells cs e)):=by
  simp [execOp,resolve,invoke,builtin,hr,Result.andThen]
 refine ⟨_,_,hexec,?_⟩
 have hnewblk:(w.drew.alloc (.cells cs e)).heap[w.heap.size]? = some (.cells cs e (0,0)):=heap_alloc_new w.drew _
 refine hs.xY (own:=.bz w.heap.size m true) (kills:=[]) hp hE hgt (fun id h=>by cases h) (fun b n' mu' hb=>?_) rfl rfl rfl ?_ (fun k hk' _=>Below.heap_alloc w.drew _ k hk') (fun k hk'=>cK (Below.heap_alloc w.drew _ k hk')) (fun β' hm hk'=>⟨?_,?_⟩)
 ·grind
 ·simp
 ·have:=Rel.ba (β:=β') (w:=w.drew.alloc (.cells cs e)) (id:=c+8*i) (es:=inf.size) (i:=0) (len:=m) (cap:=grownCap w m 0 e) (sz:=cs.size) (el:=e) hm (by omega) hge (by grind [World.shape?]) (by grind)
  grind
 ·refine .inl ⟨w.heap.size,hm,cs,e,hnewblk,?_,fun r j hr' hj=>?_⟩
  ·refine ⟨?_,fun t h=>by grind [p9,h]⟩
   simp_all [Nat.mul_le_mul_right]
  ·have hr'':r<m:=hr'
   have hj':j<inf.size:=hj
   have hlt:r*inf.size+j<m*inf.size:=by
    have:=Nat.mul_le_mul_right inf.size (show r+1≤m by omega)
    grind
   have hjz:j<z.cells.size:=by omega
   have hjl:j<(cq z).length:=by simp_all
   have hrr:Rel β' (w.drew.alloc (.cells cs e)) (aQ (cq z) j) z.cells[j]:=by grind [gD,aQ]
   have hval:(Builtin.zeroCells z.cells m)[r*inf.size+j]? = some z.cells[j]:=by simp_all [Builtin.zeroCells,Option.some.injEq,Nat.add_comm,Nat.add_mul_mod_self_right,Nat.mod_eq_of_lt,getElem!_pos]
   grind [od,jE,aQ,cq,List.all_eq_true,List.getElem_mem]
theorem nZ (w:World) (b off n:Nat) (hn:n≠0) (k:Nat) (hk:k≠b):(w.freeze ⟨b,off,none⟩ n).heap[k]? = w.heap[k]? := by
 unfold World.freeze
 rw [if_neg hn]
 simp [Array.getElem?_modify,Ne.symm hk]
theorem Aw (w:World) (b off n:Nat) (hn:n≠0) {cs:Array Value} {el:TypeId} (h:w.heap[b]? = some (.cells cs el (0,0))):(w.freeze ⟨b,off,none⟩ n).heap[b]? = some (.cells cs el (off,off+n)):=by
 unfold World.freeze
 rw [if_neg hn]
 simp [Array.getElem?_modify,h]
theorem cy.marked {ρ:Operand→AV} {f:ed} {q:Prop} {v:AV} {ids:List Nat} {x:Ob} (hs:cy K ops c E β s a w) (hp:tN K ops s i o) (hE:E i) (hg:o.guard=none) (hρ:∀ x,x∈o.op.operands→Rel β w (ρ x) (a.eval x))
  (hmt:∀ id,id∈ids→(s.H id).map Ob.mu=some true∧s.ht id=none) (h:tj K.P ρ (vH f s.H) o.op=some (q,v,ids,x)) :
  ∃ u w',(execOp a.eval o).run K.P w=.ok (.value u) w'∧∃ β',cy K ops c (less E i) β' (s.app i o ⟨v,true,[],(c+8*i,some x)::ids.map (fun id=>(id,none)),[]⟩) (a.put o.dst u) w':=by
 have hH:=hs.ok f
 have hgt:s.G o.guard=true:=by rw [hg];rfl
 obtain ⟨dst,op,ty,pos,after,g⟩:=o
 cases op<;>simp only [tj,reduceCtorEq] at h
 rename_i t d ax
 have htd:=Nat.eq_of_beq_eq_true (bB h).1
 replace h:=(bB h).2
 subst htd
 split at h
 rotate_left
 ·cases h
 rename_i e id es ii n hu hav
 split at h
 rotate_left
 ·cases h
 rename_i ob he ho
 have hc:=(bB h).1
 replace h:=(bB h).2
 simp only [Bool.and_eq_true,Nat.blt_eq] at hc
 obtain ⟨hes,hoe,hn0,hall⟩:=hc
 have hes:=Nat.eq_of_beq_eq_true hes
 have hoe:=Nat.eq_of_beq_eq_true hoe
 subst hes
 simp only [Option.some.injEq,Prod.mk.injEq] at h
 obtain ⟨_,rfl,rfl,rfl⟩:=h
 have hx:=hρ ax (by simp [Op.operands])
 rw [hav] at hx
 obtain ⟨hm1,hm2⟩:=hmt id (List.mem_singleton.2 rfl)
 have hmu:∀ b n mu,β.m id=some (.bz b n mu)→mu=true:=fun b n' mu hb=>by
  cases hso:s.H id with
  | none=>simp [hso] at hm1
  | some ob' =>
   simp only [hso,Option.map_some,Option.some.injEq] at hm1
   rcases hs.h.heap id ob' hso (by rw [hm2];rfl) with ⟨b',g1,_⟩|⟨g1,_⟩
   ·rw [g1,hm1] at hb;cases hb;rfl
   ·rw [g1] at hb;cases hb
 generalize hax:a.eval ax=y at hx
 cases hx with
 | jC=>omega
 | lD hd=>exact (hH.dead ho hd).elim
 | @ba _ _ _ _ b nn cap sz mu el hb hn hcap hsh hsz =>
  have:=hmu b nn mu hb
  subst this
  obtain ⟨rfl,_,cs,el',hcs,hszk,hcell⟩:=hH.bz ho hb
  have hsh2:w.shape? b=some (el',cs.size):=by unfold World.shape?;rw [hcs]
  have hlive:=(hs.h.live id b _ _ hb)
  have hrun:(execOp a.eval ⟨dst,.convert t t ax,ty,pos,after,g⟩).run K.P w=.ok (.value (.slice (some ⟨b,ii*1,none⟩) n cap)) (w.freeze ⟨b,cs.size,none⟩ 1):=by
   simp [execOp,hax,convert,run_underlying hu,run_underlying he,markStringish,hsh2]
  refine ⟨_,_,hrun,?_⟩
  have hb':=Aw w b cs.size 1 (by decide) hcs
  refine hs.A3 (own:=.empty) (kills:=[id]) hp hE hgt (fun id' hid=>?_) (fun b n' mu' hb=>by cases hb) ?_ ?_ ?_ ?_ (fun k hk' hno=>nZ w b _ 1 (by decide) k (fun e=>hno id (List.mem_singleton.2 rfl) _ _ (e▸hb))) (fun k hk'=>?_) (fun β' hm hk' um hold hF=>⟨?_,.inr ⟨hm,rfl⟩⟩)
  ·obtain rfl:=List.mem_singleton.1 hid
   refine ⟨by rw [hb];simp,fun b2 n2 mu2 h2=>?_⟩
   rw [hb] at h2;cases h2
   exact ⟨rfl,_,hcs,rfl⟩
  ·unfold World.freeze;rw [if_neg (by decide)]
  ·unfold World.freeze;rw [if_neg (by decide)]
  ·unfold World.freeze;rw [if_neg (by decide)]
  ·unfold World.freeze;rw [if_neg (by decide)];simp
  ·by_cases e:k=b
   ·subst e
    unfold World.shape?
    rw [hb',hcs]
   ·unfold World.shape?
    rw [nZ w b _ 1 (by decide) k e]
  ·have hfree:β'.free b:=by
    refine ⟨?_,fun id' n' hl=>?_⟩
    ·rw [hF,hs.h.bF]
     intro hFb
     obtain ⟨g1,g2⟩:=hs.h.hF b hFb
     rcases hlive.1 with h|h
     ·omega
     ·exact g2 h
    ·by_cases e1:id'=id
     ·subst e1;rw [um id' (List.mem_singleton.2 rfl)] at hl;cases hl
     ·by_cases e2:id'=c+8*i
      ·subst e2;rw [hm] at hl;cases hl
      ·rw [hold id' e2 (by simp [e1])] at hl
       exact e1 (hs.h.inj id' id b _ _ _ _ hl hb)
   have hval:∀ r,r<n→∃ z,ob.f (ii+r) 0=.int .u8 z∧cs[ii+r]? = some (.int .u8 z):=fun r hr=>by
    have h1:=List.all_eq_true.1 hall r (List.mem_range.2 hr)
    unfold jn at h1
    split at h1
    ·rename_i k z hz
     rw [of_decide_eq_true h1] at hz
     obtain ⟨vv,j1,j2,_⟩:=hcell (ii+r) 0 (by omega) (by omega)
     rw [hz] at j2
     rw [bw j2,hoe] at j1
     refine ⟨z,hz,?_⟩
     simpa using j1
    ·cases h1
   refine .aH (fun r _=>.int .u8 (aE (ob.f (ii+r) 0))) (by omega) hcap hfree (fun r j hr hj=>?_) (fun _ _ _ _=>rfl) (fun _ _ _ _=>.int) (fun _ _ _ _=>.int)
   obtain rfl:j=0:=by omega
   obtain ⟨z,hz,hcz⟩:=hval r hr
   unfold World.cell?
   rw [hb']
   have e3:ii*1+r*1+0=ii+r:=by omega
   simp only [e3,hz,aE]
   simpa using hcz
theorem cy.appended {ρ:Operand→AV} {f:ed} {q:Prop} {v:AV} {ids:List Nat} {x:Ob} (hs:cy K ops c E β s a w) (hp:tN K ops s i o) (hE:E i) (hg:o.guard=none) (hρ:∀ x,x∈o.op.operands→Rel β w (ρ x) (a.eval x))
  (hmt:∀ id,id∈ids→(s.H id).map Ob.mu=some true∧s.ht id=none) (h:rI K.P ρ (vH f s.H) (c+8*i) o.op=some (q,v,ids,x)) (hq:q) :
  ∃ u w',(execOp a.eval o).run K.P w=.ok (.value u) w'∧∃ β',cy K ops c (less E i) β' (s.app i o ⟨v,true,[],(c+8*i,some x)::ids.map (fun id=>(id,none)),[]⟩) (a.put o.dst u) w':=by
 unfold rI at h
 cases h0:qb K.P ρ (vH f s.H) (c+8*i) o.op with
 | some r=>rw [h0] at h;exact hs.zV hp hE hg hρ hmt (h0.trans h) hq
 | none =>
  rw [h0] at h
  simp only at h
  cases h1:u4 K.P ρ (c+8*i) o.op with
  | some r=>rw [h1] at h;exact hs.y9 hp hE hg hρ (h1.trans h) hq
  | none=>rw [h1] at h;exact hs.marked hp hE hg hρ hmt h
end
def gA:List Nat→Nat→Nat→Option Nat
 | [],_,_=>none
 | g::l,k,id=>bif Nat.beq g id then some k else gA l (k+1) id
theorem lT {l:List Nat} {k id p:Nat} (h:gA l k id=some p):k≤p∧l[p - k]? = some id:=by
 induction l generalizing k with
 | nil=>cases h
 | cons g l ih =>
  simp only [gA] at h
  cases hb:Nat.beq g id with
  | true =>
   simp_all
  | false =>
   grind
def jr:List Nat→Bool
 | []=>true
 | g::l => !bZ l g&&jr l
theorem kO {l:List Nat} (h:jr l=true):∀ (p q:Nat) x,l[p]? = some x→l[q]? = some x→p=q:=by
 induction l with
 | nil=>simp
 | cons g l ih =>
  rw [jr,Bool.and_eq_true] at h
  grind [not_true,eZ,absurd,List.mem_of_getElem?]
def eQ (gids:List Nat) (H:ec):ec:=fun id=>bif bZ gids id then none else H id
def iO (gids:List Nat) (H:ec):List Ob:=gids.map fun id=>match H id with
 | some o=>wh (gA gids 0) (eQ gids H) o
 | none=>⟨0,0,true,.bc []⟩
def pR (gids:List Nat) (nid k:Nat):Nat:=match gids[k]? with
 | some id=>id
 | none=>nid+(k - gids.length)
def gO (gids:List Nat) (nid:Nat):Nat→Option Nat:=fun k=>bif Nat.blt k (gids.length+8) then some (pR gids nid k) else none
def EO:ec:=fun _=>none
def jV (gids:List Nat) (nid:Nat) (obs':List (Option Ob)):List (Nat×Option Ob) :=
 (List.range obs'.length).map fun k=>(pR gids nid k,(obs'.getD k none).map (wh (gO gids nid) EO))
theorem vL {α:Type} (id:Nat→Nat) (x:Nat→α) (n:Nat):∀ j,(look ((List.range n).map fun k=>(id k,x k)) j=none∧∀ k,k<n→id k≠j)∨(∃ k,k<n∧id k=j∧look ((List.range n).map fun k=>(id k,x k)) j=some (x k)):=by
 have key:∀ (l:List Nat) j,(look (l.map fun k=>(id k,x k)) j=none∧∀ k,k∈l→id k≠j)∨(∃ k,k∈l∧id k=j∧look (l.map fun k=>(id k,x k)) j=some (x k)):=by
  intro l j
  induction l with
  | nil=>exact .inl ⟨rfl,fun k h=>by cases h⟩
  | cons y l ih =>
   rw [List.map_cons,fp]
   grind
 grind
section
variable {K : Ctx} {ops : Array Oper} {c : Nat} {E : Nat → Prop} {β : bu} {s : dE} {a : Act} {w : World} {i : Nat} {o : Oper}
theorem cy.given {f:ed} {fn:FuncId} {avs:List AV} {vs:Array Value} {gids zids:List Nat} {r:AV} {obs':List (Option Ob)} {Q:World→Value→Prop} (hs:cy K ops c E β s a w) (hp:tN K ops s i o) (hE:E i) (hgt:s.G o.guard=true)
  (hrel:eR β w avs vs) (hnd:jr gids=true) (hgm:∀ id,id∈gids→bZ f.rd id=true∧(s.H id).map Ob.mu=some true∧s.ht id=none)
  (hz:∀ id,vH f s.H id≠none→bZ gids id=false→bZ zids id=true) (hl:gids.length≤obs'.length∧obs'.length≤gids.length+8)
  (hG:bI K.P K.gl fn (iO gids (vH f s.H)) (avs.map (mapA (gA gids 0) 9 (eQ gids (vH f s.H)))) r obs')
  (hQ:∀ u w' β',cy K ops c (less E i) β' (s.app i o ⟨mapA (gO gids (c+8*i)) 9 EO r,true,[],jV gids (c+8*i) obs',zids⟩) (a.put o.dst u) w'→Q w' u) :
  Calls K.P fn vs w fun e w'=>∃ u,e=.returned u∧Q w' u:=by
 have hH:=hs.ok f
 have hgiv:∀ id,id∈gids→∃ ob,vH f s.H id=some ob∧gT β w ob id∧ob.mu=true:=by
  intro id hid
  obtain ⟨h1,h2,h3⟩:=hgm id hid
  cases ho:s.H id with
  | none=>grind
  | some ob =>
   simp only [ho,Option.map_some,Option.some.injEq] at h2
   have e:ob.seen=ob:=by cases ob<;>grind [Ob.seen]
   exact ⟨ob,by grind [vH],hs.h.heap id ob ho (by rw [h3];rfl),h2⟩
 have fD:∀ id,id∈gids→β.m id≠none∧∀ b n mu,β.m id=some (.bz b n mu)→mu=true:=by
  intro id hid
  obtain ⟨ob,_,h1,h2⟩:=hgiv id hid
  rcases h1 with ⟨b,g1,_⟩|⟨g1,_⟩
  ·grind
  grind
 have hnew:∀ q,q<8→β.m (c+8*i+q)=none:=fun q hq=>hs.h.nP i q hE hq
 have hnd':=kO hnd
 let βz:=fQ zids β
 let bm:Nat→Option Own:=fun k=>match gids[k]? with|some id=>β.m id|none=>none
 let F':Nat→Prop:=fun b=>¬βz.free b∧¬∃ k n mu,bm k=some (.bz b n mu)
 let βc:bu:=⟨bm,F'⟩
 have bm_some:∀ {k o},bm k=some o→∃ id,gids[k]? = some id∧β.m id=some o:=by grind
 have bm_at:∀ {k id},gids[k]? = some id→bm k=β.m id:=fun {k id} h=>by grind
 have zfree:∀ b,β.free b→βz.free b:=by
  intro b hf
  refine ⟨hf.1,fun id n h=>?_⟩
  obtain ⟨mu',h1,h2⟩:=dq h
  have:mu'=true:=by grind
  subst this
  exact hf.2 id n h1
 have ownF:∀ id b n mu,β.m id=some (.bz b n mu)→¬β.F b:=by
  intro id b n mu hm hF
  rw [hs.h.bF] at hF
  obtain ⟨h1,h2⟩:=hs.h.hF b hF
  rcases (hs.h.live id b n mu hm).1 with h|h
  ·omega
  grind
 have h1:∀ id k,gA gids 0 id=some k→βc.m k=β.m id:=fun id k h=>by
  obtain ⟨_,h2⟩:=lT h
  grind
 have h2:∀ b,β.free b→βc.free b:=by
  intro b hf
  refine ⟨fun hF=>hF.1 (zfree b hf),fun k n h=>?_⟩
  obtain ⟨id,_,hm⟩:=bm_some h
  exact hf.2 id n hm
 have h3:∀ id ob b n mu,eQ gids (vH f s.H) id=some ob→β.m id=some (.bz b n mu)→βc.free b:=by
  intro id ob b n mu ho hm
  unfold eQ at ho
  cases hmem:bZ gids id with
  | true=>grind
  | false =>
   simp only [hmem,cond_false] at ho
   have hzi:=hz id (by grind) hmem
   have hngid:id∉gids:=fun h=>by grind [eZ,h]
   have hzf:βz.free b:=by
    refine ⟨ownF id b n mu hm,fun id' n' h'=>?_⟩
    obtain ⟨mu',g1,g2⟩:=dq h'
    have:=hs.h.inj id' id b n' n mu' mu g1 hm
    grind
   refine ⟨fun hF=>hF.1 hzf,fun k n' h=>?_⟩
   obtain ⟨id',hk,hm'⟩:=bm_some h
   have:=hs.h.inj id' id b n' n _ mu hm' hm
   grind
 have hHr:cT β w (eQ gids (vH f s.H)):=by
  intro id ob hid hne
  unfold eQ at hid
  cases hmem:bZ gids id with
  | true=>grind
  | false=>simp only [hmem,cond_false] at hid;exact hH id ob hid hne
 have hGiven:CW βc w (iO gids (vH f s.H)):=by
  refine ⟨fun k ob hk=>?_,fun k hk=>?_,fun p q b n n' mu mu' e1 e2=>?_,fun k b n mu h=>?_⟩
  ·unfold iO at hk
   rw [List.getElem?_map] at hk
   cases hgk:gids[k]? with
   | none=>grind
   | some id =>
    simp only [hgk,Option.map_some,Option.some.injEq] at hk
    grind [id,List.mem_of_getElem?,jP,h]
  ·grind [List.getElem?_eq_none,iO]
  ·obtain ⟨x,g1,g2⟩:=bm_some e1
   obtain ⟨y,g3,g4⟩:=bm_some e2
   have:=hs.h.inj x y b n n' mu mu' g2 g4
   grind
  ·obtain ⟨id,g1,g2⟩:=bm_some h
   exact ⟨(hs.h.live id b n mu g2).2,fun hF=>hF.2 ⟨k,n,mu,h⟩⟩
 have hF'lt:∀ b,βc.F b→b<w.heap.size:=by
  intro b hb
  apply Classical.byContradiction
  intro hge
  apply hb.1
  refine ⟨fun hF=>?_,fun id n h=>?_⟩
  ·have hF':β.F b:=hF
   rw [hs.h.bF] at hF'
   have:=(hs.h.hF b hF').1
   have:=hs.h.hB
   omega
  ·obtain ⟨mu',g1,_⟩:=dq h
   have:=(hs.h.live id b n _ g1).2
   omega
 have hglob:mJ K.gl βc w:=fun g m h hgl'=>(hs.h.iU g m h hgl').fP h2 (by
  obtain ⟨_,_,_,_,_,_,_,_,hcl,_⟩:=dj (hs.h.iU g m h hgl').rel
  exact .bJ hcl)
 have hargs:eR βc w (avs.map (mapA (gA gids 0) 9 (eQ gids (vH f s.H)))) vs:=by
  obtain ⟨e1,e2⟩:=fk hrel.len hrel.rel (fun u v hr=>kK hHr (fun id k h _=>h1 id k h) h2 h3 9 u v hr)
  exact ⟨e1,e2⟩
 refine (hG.2 βc w vs hF'lt hGiven hglob hargs).mono fun e w' hh=>?_
 obtain ⟨u,β',he,hkept,hA,hr⟩:=hh
 refine ⟨u,he,?_⟩
 let σ:=pR gids (c+8*i)
 have σ_lt:∀ {k id},gids[k]? = some id→σ k=id:=fun {k id} h=>by grind [pR,h]
 have σ_ge:∀ {k},gids.length≤k→σ k=c+8*i+(k - gids.length):=fun {k} h=>by grind [pR,List.getElem?_eq_none,h]
 have σ_cases:∀ k,(∃ id,gids[k]? = some id∧σ k=id)∨(gids.length≤k∧σ k=c+8*i+(k - gids.length)):=by grind
 have σ_inj:∀ p q,p<gids.length+8→q<gids.length+8→σ p=σ q→p=q:=by grind
 let β3:bu:=⟨fun id=>if h:∃ k,k<gids.length+8∧σ k=id then β'.m h.choose else βz.m id,β.F⟩
 have m3:∀ k,k<gids.length+8→β3.m (σ k)=β'.m k:=by
  intro k hk
  have hex:∃ q,q<gids.length+8∧σ q=σ k:=⟨k,hk,rfl⟩
  grind
 have m3':∀ id,(¬∃ k,k<gids.length+8∧σ k=id)→β3.m id=βz.m id:=fun id h=>by grind
 have split3:∀ id,(∃ k,k<gids.length+8∧id=σ k∧β3.m id=β'.m k)∨((∀ k,k<gids.length+8→σ k≠id)∧β3.m id=βz.m id):=by
  intro id
  by_cases h:∃ k,k<gids.length+8∧σ k=id
  ·grind
  grind
 have notGid:∀ id,(∀ k,k<gids.length+8→σ k≠id)→id∉gids:=by
  intro id h hm
  obtain ⟨k,hk,e⟩:=List.getElem_of_mem hm
  exact h k (by omega) (σ_lt (by grind))
 have EK:∀ b,pW βc b→∃ id n,id∈gids∧β.m id=some (.bz b n true):=by
  rintro b ⟨k,n,mu,hm⟩
  grind
 have hk:dF β w β3 w':=by
  refine ⟨fun id o' ho=>?_,fun b hlt hf=>hkept.block b hlt (fun hb=>?_),fun b hlt hf=>⟨hf.1,fun id n h=>?_⟩,fun b e z hbs=>?_⟩
  ·rcases split3 id with ⟨k,hk8,e,em⟩|⟨hno,em⟩
   ·rcases σ_cases k with ⟨x,hx,ex⟩|⟨hx,ex⟩
    ·have:id=x:=by omega
     subst this
     obtain ⟨o2,g1,g2⟩:=hA.later k o' (by grind)
     grind
    grind
   ·rw [em]
    exact (j7 (w:=w) zids).ids id o' ho
  ·obtain ⟨id,n,_,hm⟩:=EK b hb
   exact hf.2 id n hm
  ·rcases split3 id with ⟨k,hk8,e,em⟩|⟨hno,em⟩
   ·rw [em] at h
    obtain ⟨_,g|g⟩:=hA.live k b n true h
    ·omega
    ·obtain ⟨id',n',_,hm⟩:=EK b g
     exact hf.2 id' n' hm
   ·rw [em] at h
    exact (zfree b hf).2 id n h
  ·rw [hkept.shape b (fg hbs)];omega
 have f3:∀ b,β'.free b→β3.free b:=by
  intro b hf
  have hcase:βz.free b∨pW βc b:=by
   have hnF:¬F' b:=by have:=hf.1;rw [hA.F] at this;omega
   by_cases hz1:βz.free b
   ·grind
   ·by_cases hz2:∃ k n mu,bm k=some (.bz b n mu)
    ·exact .inr hz2
    grind
  refine ⟨?_,fun id n h=>?_⟩
  ·rcases hcase with h|h
   ·exact h.1
   grind
  ·rcases split3 id with ⟨k,hk8,e,em⟩|⟨hno,em⟩
   ·rw [em] at h;exact hf.2 k n h
   ·rw [em] at h
    rcases hcase with h'|h'
    ·exact h'.2 id n h
    ·obtain ⟨id',n',hid',hm⟩:=EK b h'
     obtain ⟨mu',g1,_⟩:=dq h
     have:=hs.h.inj id id' b _ _ _ _ g1 hm
     grind
 have hHn:cT β' w' EO:=fun id ob h=>by cases h
 have h1':∀ k id,gO gids (c+8*i) k=some id→β3.m id=β'.m k:=by
  intro k id h
  unfold gO at h
  cases hb:Nat.blt k (gids.length+8) with
  | false=>grind
  | true =>
   simp only [hb,cond_true,Option.some.injEq] at h
   rw [Nat.blt_eq] at hb
   rw [← h]
   grind
 have h3':∀ (id:Nat) (ob:Ob) b n mu,EO id=some ob→β'.m id=some (.bz b n mu)→β3.free b:=fun id ob b n mu h=>by cases h
 have hlook:∀ j,(look (jV gids (c+8*i) obs') j=none∧∀ k,k<obs'.length→σ k≠j)∨(∃ k,k<obs'.length∧σ k=j∧look (jV gids (c+8*i) obs') j=some ((obs'.getD k none).map (wh (gO gids (c+8*i)) EO))) :=
  vL σ (fun k=>(obs'.getD k none).map (wh (gO gids (c+8*i)) EO)) obs'.length
 have hkept':Kept K.B K.G w w':=hkept.mono hs.h.hB (fun k hkB hb=>by
  obtain ⟨id,n,_,hm⟩:=EK k hb
  rcases (hs.h.live id k n true hm).1 with h|h
  ·omega
  omega)
 refine hQ u w' β3 (hs.step hp hE hgt hk hkept' rfl (fun id ob h=>⟨fun _=>?_,fun h=>by cases h⟩) (fun id o' hl' ho hgi=>?_) (fun id o' hl' ho h=>?_) ?_ (fun id h=>?_) (fun id b n mu h=>?_) (fun _=>?_) (fun h=>by cases h))
 ·rcases hlook id with ⟨e,_⟩|⟨k,hk',ek,e⟩
  ·grind
  ·rw [e] at h
   simp only [Option.some.injEq,Option.map_eq_some_iff] at h
   obtain ⟨ob0,g1,rfl⟩:=h
   have hok:obs'[k]? = some (some ob0):=by grind
   refine jP hHn (fun id k h _=>h1' id k h) f3 h3' ?_ (hA.holds k ob0 hok)
   rw [← ek]
   grind
 ·rcases hlook id with ⟨_,e⟩|⟨k,hk',ek,e⟩
  rotate_left
  ·grind
  have hHo:=hs.h.heap id o' ho hgi
  have hne:β.m id≠none:=by rcases hHo with ⟨b,g,_⟩|⟨g,_⟩<;>(grind)
  have hno:∀ k,k<gids.length+8→σ k≠id:=by grind
  have em:β3.m id=βz.m id:=by grind
  rcases hHo with ⟨b,g1,g2⟩|⟨g1,g2⟩
  ·refine .inl ⟨b,by rw [em];exact iG g1,?_⟩
   have hb':w'.heap[b]? = w.heap[b]? := hkept.block b (hs.h.live id b _ _ g1).2 (fun hb=>by
    obtain ⟨id',n',hid',hm⟩:=EK b hb
    have:=hs.h.inj id id' b _ _ _ _ g1 hm
    subst this
    exact notGid id hno hid')
   have:=g2.fO hk hb'
   simp only [fA.on,look]
   exact this
  ·exact .inr ⟨by grind [fQ,id],g2⟩
 ·rcases hlook id with ⟨_,e⟩|⟨k,hk',ek,e⟩
  rotate_left
  ·grind
  rcases split3 id with ⟨k,hk8,e',em⟩|⟨hno,em⟩
  ·rw [em]
   exact hA.none k (Nat.le_of_not_lt fun hlt=>e k hlt e'.symm)
  grind [iC,h]
 ·intro p q b n n' mu mu' e1 e2
  have mix:∀ k id m1 u1 m2 u2,β'.m k=some (.bz b m1 u1)→(∀ k,k<gids.length+8→σ k≠id)→βz.m id=some (.bz b m2 u2)→False:=by
   intro k id m1 u1 m2 u2 g1 hno g2
   obtain ⟨_,g3,_⟩:=dq g2
   obtain ⟨_,g|g⟩:=hA.live k b m1 u1 g1
   ·have:=(hs.h.live id b _ _ g3).2;omega
   ·obtain ⟨id',n',hid',hm⟩:=EK b g
    have:=hs.h.inj id id' b _ _ _ _ g3 hm
    subst this
    exact notGid id hno hid'
  rcases split3 p with ⟨k,hk8,ep,emp⟩|⟨hnp,emp⟩<;>rcases split3 q with ⟨k',hk8',eq,emq⟩|⟨hnq,emq⟩
  ·rw [emp] at e1;rw [emq] at e2
   rw [ep,eq,hA.inj k k' b n n' mu mu' e1 e2]
  ·rw [emp] at e1;rw [emq] at e2
   exact (mix k q _ _ _ _ e1 hnq e2).elim
  ·rw [emp] at e1;rw [emq] at e2
   exact (mix k' p _ _ _ _ e2 hnp e1).elim
  ·rw [emp] at e1;rw [emq] at e2
   exact mm hs.h.inj p q b n n' mu mu' e1 e2
 ·rcases split3 id with ⟨k,hk8,e,em⟩|⟨hno,em⟩
  ·rcases σ_cases k with ⟨x,hx,ex⟩|⟨hx,ex⟩
   ·grind
   ·exact .inr ⟨k - gids.length,by omega,by omega⟩
  grind [h,tC]
 ·rcases split3 id with ⟨k,hk8,e,em⟩|⟨hno,em⟩
  ·rw [em] at h
   obtain ⟨g0,g|g⟩:=hA.live k b n mu h
   ·have:=hs.h.hB
    omega
   ·obtain ⟨id',n',_,hm⟩:=EK b g
    exact ⟨(hs.h.live id' b _ _ hm).1,g0⟩
  ·rw [em] at h
   obtain ⟨_,g3,_⟩:=dq h
   have:=(hs.h.live id b _ _ g3).2
   have:=hkept.size
   exact ⟨(hs.h.live id b _ _ g3).1,by omega⟩
 grind [kK,id,h]
end
def GS (nid:Nat):Option Ob→List (Nat×Option Ob)
 | some x=>[(nid,some x)]
 | none=>[]
def nJ (P:Program) (ρ:Operand→AV) (H:ec):Op→Option (Rq×Nat×AV)
 | .slice t x lo hi none=>match P.underlying t,ρ x with
  | some (.array n e),.own id es i j m=>match H id,qo P e,j8 n (lo.map ρ) (hi.map ρ) with
   | some o,some z,some (q,l,k)=>match gL (fun c=>o.f i (j+c)) n with
    | some kk=>bif Nat.beq z 1&&(Nat.beq o.es es&&Nat.ble n m) then some (q,id,.aH 1 k (fun r _=>.int kk (aE (o.f i (j+(l+r)))))) else none
    | none=>none
   | _,_,_=>none
  | _,_=>none
 | _=>none
section
variable {P : Program} {β : bu} {w : World} {H : ec} {ρ : Operand → AV} {σ : Operand → Value} {dst : Option Tmp} {ty : TypeId} {pos : String} {after : Array Edge} {g : Option (Nat × Bool)}
theorem An {o:Oper} {q:Rq} {id:Nat} {v:AV} (hH:cT β w H) (hρ:∀ x,x∈o.op.operands→Rel β w (ρ x) (σ x)) (h:nJ P ρ H o.op=some (q,id,v)) (hq:q.holds) :
  H id≠none∧∃ u b n mu,(execOp σ o).run P w=.ok (.value u) w∧β.m id=some (.bz b n mu)∧∀ β':bu,β'.free b→Rel β' w v u:=by
 obtain ⟨dst,op,ty,pos,after,g⟩:=o
 unfold nJ at h
 dsimp only at h hρ ⊢
 split at h
 rotate_left
 ·cases h
 rename_i t x lo hi
 have b1:∀ (o:Option Operand),(∀ y,o=some y→Rel β w (ρ y) (σ y))→∀ a,o.map ρ=some a→∃ x,o.map σ=some x∧Rel β w a x:=by
  intro o ho a ha
  cases o<;>grind
 have b2:∀ (o:Option Operand),o.map ρ=none→o.map σ=none:=by simp
 split at h
 rotate_left
 ·cases h
 rename_i n e id' es i j m hu hx
 split at h
 rotate_left
 ·cases h
 rename_i ob z qq l k ho hz hb
 split at h
 rotate_left
 ·cases h
 rename_i kk hkk
 obtain ⟨hc,h⟩:=bB h
 cases h
 simp only [Bool.and_eq_true] at hc
 have hz1:=Nat.eq_of_beq_eq_true hc.1
 have hes:=Nat.eq_of_beq_eq_true hc.2.1
 have hnm:=Nat.le_of_ble_eq_true hc.2.2
 subst hz1
 have hρx:=hρ x (by simp [Op.operands])
 rw [hx] at hρx
 refine ⟨by grind,?_⟩
 generalize hsx:σ x=u at hρx
 obtain ⟨b,bC,hp,hcell,hrel,hone⟩:=ny hH hρx ho hes
 have hlive:∃ n mu,β.m id=some (.bz b n mu):=by
  cases hρx with
  | own h _ _=>grind
  | kD h=>exact (hH.dead ho h).elim
 obtain ⟨n0,mu,hlive⟩:=hlive
 obtain ⟨h1,h2⟩:=iA (P:=P) (isS:=false) (Nat.le_refl n) (b1 lo (fun y hy=>hρ y (by grind [Op.operands]))) (b2 lo) (b1 hi (fun y hy=>hρ y (by grind [Op.operands]))) (b2 hi) hb hq
 subst hp
 refine ⟨.slice (some (if n - l=0 then ⟨b,i*es+j,Option.none⟩ else (⟨b,i*es+j,Option.none⟩:Addr).add (l*1))) (l+k - l) (n - l),b,n0,mu,?_,hlive,fun β' hf=>?_⟩
 ·have e:(if n=l then (⟨b,i*es+j,Option.none⟩:Addr) else (⟨b,i*es+j,Option.none⟩:Addr).add (l*1))=(if n - l=0 then ⟨b,i*es+j,Option.none⟩ else (⟨b,i*es+j,Option.none⟩:Addr).add (l*1)):=by grind
  simp_all [execOp,Instr.sliceAt,Instr.sureAddr,Sem.run_bind,run_underlying,Result.andThen_ok,Option.map_none,cY]
 ·have em:l+k - l=k:=by omega
  rw [em]
  by_cases hk:k=0
  ·subst hk
   exact .gU (fun h=>by cases h)
  ·rw [if_neg (by omega)]
   simp only [e7]
   refine .aH (fun r _=>bC (l+r)) (by omega) (by omega) hf (fun r c hr hc'=>?_) (fun r c hr hc'=>hone _ (by omega)) (fun r c hr hc'=>?_) (fun _ _ _ _=>.int)
   ·grind
   ·have:=hrel (l+r) (by omega)
    obtain ⟨y,hy⟩:=fw hkk (l+r) (by omega)
    rw [hy] at this ⊢
    rw [bw this]
    exact .int
end
inductive DY (C : tL) (c i : Nat) (o : Oper) (f : ed) (s : dE) : fA → Prop where
  | sl {q : Rq} {id : Nat} {v : AV} (h : nJ C.P (ev C.gl s.fr) (vH f s.H) o.op = some (q, id, v)) (hq : s.G o.guard = true → q.holds) : DY C c i o f s ⟨v, s.G o.guard, [], [], [id]⟩
  | m {q : Rq} {v : AV} {ob : Option Ob} (h : bP C.P (ev C.gl s.fr) (vH f s.H) (c + 8 * i) o.op = some (q, v, ob)) (hq : s.G o.guard = true → q.holds) : DY C c i o f s ⟨v, s.G o.guard, [], GS (c + 8 * i) ob, []⟩
  | sc {fn : FuncId} {as : List AV} {r : AV} (h : eD (ev C.gl s.fr) o.op = some (fn, as)) (hp : s.G o.guard = true → Pure C.P C.gl fn (as.map (n8 9 (vH f s.H))) r) (hs : sc 9 r = true) : DY C c i o f s ⟨r, s.G o.guard, [], [], []⟩
  | dc {fn : FuncId} {as : List AV} {r : AV} (ids : List Nat) (hids : ∀ id, vH f s.H id ≠ none → bZ ids id = true) (h : eD (ev C.gl s.fr) o.op = some (fn, as))
      (hp : s.G o.guard = true → Pure C.P C.gl fn (as.map (n8 9 (vH f s.H))) r) : DY C c i o f s ⟨r, s.G o.guard, [], [], ids⟩
  | st {id : Nat} {f' : bA} (hg : o.guard = none) (h : rH C.P (ev C.gl s.fr) (vH f s.H) o.op = some (id, f')) (hm : bZ f.mt id = true) (hmu : (s.H id).map Ob.mu = some true) (hht : s.ht id = none) :
      DY C c i o f s ⟨.bx, true, [(id, f')], [], []⟩
  | ap {q : Prop} {v : AV} {ids : List Nat} {x : Ob} (hg : o.guard = none) (h : rI C.P (ev C.gl s.fr) (vH f s.H) (c + 8 * i) o.op = some (q, v, ids, x)) (hq : q)
      (hm : ∀ id, id ∈ ids → bZ f.mt id = true ∧ (s.H id).map Ob.mu = some true ∧ s.ht id = none) : DY C c i o f s ⟨v, true, [], (c + 8 * i, some x) :: ids.map (fun id => (id, none)), []⟩
  | gv {fn : FuncId} {as : List AV} {gids zids : List Nat} {r : AV} {obs' : List (Option Ob)} (hg : o.guard = none) (h : eD (ev C.gl s.fr) o.op = some (fn, as)) (hnd : jr gids = true)
      (hgm : ∀ id, id ∈ gids → bZ f.rd id = true ∧ bZ f.mt id = true ∧ (s.H id).map Ob.mu = some true ∧ s.ht id = none) (hz : ∀ id, vH f s.H id ≠ none → bZ gids id = false → bZ zids id = true)
      (hl : gids.length ≤ obs'.length ∧ obs'.length ≤ gids.length + 8)
      (hG : bI C.P C.gl fn (iO gids (vH f s.H)) (as.map (mapA (gA gids 0) 9 (eQ gids (vH f s.H)))) r obs') :
      DY C c i o f s ⟨mapA (gO gids (c + 8 * i)) 9 EO r, true, [], jV gids (c + 8 * i) obs', zids⟩
section
variable {K : Ctx} {C : tL} {ops : Array Oper} {c : Nat} {E : Nat → Prop} {β : bu} {s sv : dE} {a : Act} {w : World} {i : Nat} {o : Oper} {f : ed} {e : fA}
theorem dB.G (h:dB o f sv s):s.G o.guard=sv.G o.guard:=by
 cases hg:o.guard with
 | none=>rfl
 | some jb=>obtain ⟨j,b⟩:=jb;simp only [dE.G,h.gt j b hg]
theorem dB.ev {gl:dG} (h:dB o f sv s) {x:Operand} (hx:x∈o.op.operands):ev gl sv.fr x=ev gl s.fr x:=by
 cases x with
 | tmp t=>exact (h.fr t hx).symm
 | _=>rfl
theorem yI {Q:Exit→Act→World→Prop} {Kc:Act→World→Prop} (hP:C.P=K.P) (fD:C.gl=K.gl) (hs:cy K ops c E β s a w) (hp:tN K ops s i o) (hE:E i)
  (hop:jj ops s o=true) (hag:dB o f sv s) (h:DY C c i o f sv e)
  (hK:∀ β' a' w',cy K ops c (less E i) β' (s.app i o e) a' w'→Kc a' w'):wpOp K.P ops Q i Kc a w:=by
 have hi:=hp.at_
 have hw:=nv hs hp.guard
 have hGv:=hag.G
 have hvH:=hag.vH
 have hH:=hs.ok f
 rw [hvH] at hH
 have hall:s.G o.guard=true→(∀ x y z,o.op≠.pick x y z)→∀ x,x∈o.op.operands→Rel β w (Am.ev K.gl sv.fr x) (a.eval x):=by
  intro hg hnp x hx
  have hall:o.op.operands.toList.all (mH ops s o.guard)=true:=by grind [jj,absurd]
  rw [hag.ev hx]
  exact kt hs (oI hs hp.guard (List.all_eq_true.1 hall x (by grind)) hg)
 cases h with
 | @sl q id v hm hq =>
  unfold wpOp
  simp only [hi]
  cases hg:s.G o.guard with
  | false=>rw [hw,hg,if_neg (by simp)];exact hK _ _ _ (hs.skip hp hE hGv (by grind) rfl (fun id x hx=>by cases hx))
  | true =>
   rw [hw,hg,if_pos rfl]
   refine .inl ?_
   have hgsv:sv.G o.guard=true:=by grind
   have hnp:∀ x y z,o.op≠.pick x y z:=fun x y z e=>by grind [nJ]
   rw [hP,fD] at hm
   obtain ⟨_,u,b,n,mu,hrun,hlive,hrel⟩:=An hH (hall hg hnp) hm (hq hgsv)
   unfold Oper.wp
   rw [hrun]
   refine hK _ _ _ (hs.plain hp hE hGv rfl rfl (Below.refl _ _) (fun _=>?_) (fun h=>by grind))
   refine hrel _ ⟨fun hF=>?_,fun id' n' h'=>?_⟩
   ·have hF':β.F b:=hF
    rw [hs.h.bF] at hF'
    obtain ⟨g1,g2⟩:=hs.h.hF b hF'
    rcases (hs.h.live id b n mu hlive).1 with h|h
    ·omega
    grind
   ·obtain ⟨mu',g1,g2⟩:=dq h'
    have:=hs.h.inj id' id b n' n mu' mu g1 hlive
    subst this
    simp [bZ] at g2
 | @m q v ob hm hq =>
  unfold wpOp
  simp only [hi]
  cases hg:s.G o.guard with
  | false =>
   rw [hw,hg,if_neg (by simp)]
   refine hK _ _ _ (hs.skip hp hE hGv (by grind) rfl (fun id x hx=>?_))
   cases ob with
   | none=>cases hx
   | some ob =>
    simp only [GS,cm] at hx
    by_cases e:c+8*i=id
    ·exact ⟨0,by omega,by omega⟩
    ·rw [if_neg e] at hx;cases hx
  | true =>
   rw [hw,hg,if_pos rfl]
   refine .inl ?_
   have hgsv:sv.G o.guard=true:=by grind
   have hfw:β.free w.heap.size:=by
    refine ⟨fun hF=>?_,fun id n hm=>absurd (hs.h.live id _ n true hm).2 (by omega)⟩
    rw [hs.h.bF] at hF
    have h1:=(hs.h.hF _ hF).1
    have h2:=hs.h.hB
    omega
   have hmok:mr β w (c+8*i) ((execOp a.eval o).run K.P w) v ob∨E9 β w ((execOp a.eval o).run K.P w) v ob:=by
    by_cases hpick:∃ x y z,o.op=.pick x y z
    ·obtain ⟨x,y,z,hpk⟩:=hpick
     unfold jj at hop
     rw [hpk] at hop
     simp only [Bool.and_eq_true] at hop
     obtain ⟨⟨hx,hy⟩,hz⟩:=hop
     have hxr:=kt hs (oI hs hp.guard hx hg)
     have s1:=hag.ev (gl:=K.gl) (x:=x) (by grind [Op.operands])
     have s2:=hag.ev (gl:=K.gl) (x:=y) (by grind [Op.operands])
     have s3:=hag.ev (gl:=K.gl) (x:=z) (by grind [Op.operands])
     rw [hpk] at hm
     simp only [bP] at hm
     rw [fD,s1,s2,s3] at hm
     split at hm
     ·rename_i cb ab bb e1 e2 e3
      cases hm
      rw [e1] at hxr
      have r1:=ca hxr
      refine .inl ⟨.bool (bif cb then ab else bb),?_,.bool⟩
      cases cb with
      | true =>
       have:=ye hs hp.guard hg hxr rfl hy
       rw [e2] at this
       simp [execOp,hpk,r1,asBool,ca this]
      | false =>
       have:=ye hs hp.guard hg hxr rfl hz
       rw [e3] at this
       simp [execOp,hpk,r1,asBool,ca this]
     grind
    ·rw [hP,fD] at hm
     exact Ct hfw (fun v=>rfl) hH (hall hg (fun x y z e=>hpick ⟨x,y,z,e⟩)) hm (hq hgsv)
   unfold Oper.wp
   rcases hmok with hmok|⟨rfl,u,w',hbw,hu,hr⟩
   rotate_left
   ·rw [hu]
    refine hK _ _ _ (hs.plain hp hE hGv rfl rfl hbw (fun _=>?_) (fun h=>by grind))
    grind [vn]
   cases ob with
   | none =>
    obtain ⟨u,hu,hr⟩:=hmok
    rw [hu]
    refine hK _ _ _ (hs.plain hp hE hGv rfl rfl (Below.refl _ _) (fun _=>?_) (fun h=>by grind))
    grind [vn]
   | some x =>
    obtain ⟨hmu,cs,el,hsz,hcells,hform⟩:=hmok
    have hb:Below w.heap.size w (w.alloc (.cells cs el)):=(Below.refl _ w).alloc (Nat.le_refl _) _
    have hnewblk:(w.alloc (.cells cs el)).heap[w.heap.size]? = some (.cells cs el (0,0)):=by
     show (w.heap.push _)[w.heap.size]? = _
     simp
    have hsize:(w.alloc (.cells cs el)).heap.size=w.heap.size+1:=by simp
    rw [hgsv] at hK
    have hobj:∀ β',dF β w β' (w.alloc (.cells cs el))→su β' (w.alloc (.cells cs el)) x w.heap.size:=fun β' hk=>⟨cs,el,hnewblk,hsz,fun p q hp' hq'=>by
     obtain ⟨u,g1,g2,g3⟩:=hcells p q hp' hq'
     exact ⟨u,g1,g2.fO hk,g3⟩⟩
    rcases hform with ⟨rfl,hn,hrun⟩|⟨rfl,hcs,hrun⟩
    ·rw [hrun]
     obtain ⟨β',hsim⟩:=hs.made hp hE hg hb hsize (x:=x) (v:=.own (c+8*i) x.es 0 0 x.es) (u:=.pointer (some ⟨w.heap.size,0,none⟩)) (fun β' hm' hk=>⟨by
      have:=Rel.own (β:=β') (w:=w.alloc (.cells cs el)) (id:=c+8*i) (es:=x.es) (i:=0) (j:=0) (m:=x.es) hm' (by omega) (by omega)
      grind,hobj β' hk⟩)
     exact hK _ _ _ hsim
    ·rw [hrun]
     obtain ⟨β',hsim⟩:=hs.made hp hE hg hb hsize (x:=x) (v:=.ba (c+8*i) x.es 0 x.n) (u:=.slice (some ⟨w.heap.size,0,none⟩) x.n x.n) (fun β' hm' hk=>⟨by
      have:=Rel.ba (β:=β') (w:=w.alloc (.cells cs el)) (id:=c+8*i) (es:=x.es) (i:=0) (len:=x.n) (cap:=x.n) (sz:=cs.size) (el:=el) hm' (by omega) (Nat.le_refl _) (by grind [World.shape?]) (by grind)
      grind,hobj β' hk⟩)
     exact hK _ _ _ hsim
 | @sc fn as r hc hpu hsc =>
  unfold wpOp
  simp only [hi]
  cases hg:s.G o.guard with
  | false=>rw [hw,hg,if_neg (by simp)];exact hK _ _ _ (hs.skip hp hE hGv (by grind) rfl (fun id x hx=>by cases hx))
  | true =>
   rw [hw,hg,if_pos rfl]
   refine .inl ?_
   have hgsv:sv.G o.guard=true:=by grind
   have hnp:∀ x y z,o.op≠.pick x y z:=fun x y z e=>by grind [eD]
   rw [fD] at hc
   have hpu':=hpu hgsv
   obtain ⟨vs,hrun,hrel⟩:=jQ (P:=K.P) (hall hg hnp) hc (hP▸hpu'.1)
   unfold Oper.wp
   rw [hrun]
   have hfz:eR (bu.none fun _=>False) w (as.map (n8 9 (vH f sv.H))) vs:=by
    obtain ⟨h1,h2⟩:=fk hrel.len hrel.rel (fun u v hr=>sK hH (F':=fun _=>False) (fun _ _ h=>h) (fun _ _ _ _ _ _ _ h=>h) 9 u v hr)
    exact ⟨h1,h2⟩
   have:=hpu'.use (F:=fun _=>False) (fun _ h=>h.elim) (fun g m h hgl'=>(hs.h.iU g m h (fD▸hgl')).fP (fun b hb=>⟨fun h=>h,fun id n h=>by grind [bu.none]⟩) (by
    obtain ⟨_,_,_,_,_,_,_,_,hcl,_⟩:=dj (hs.h.iU g m h (fD▸hgl')).rel
    exact .bJ hcl)) hfz
   rw [hP] at this
   refine this.mono fun e w' hh=>?_
   obtain ⟨v,rfl,hb,hr⟩:=hh
   refine hK _ _ _ (hs.plain hp hE hGv rfl rfl hb (fun _=>?_) (fun h=>by grind))
   exact hr.scalar 9 hsc
 | @dc fn as r ids hids hc hpu =>
  unfold wpOp
  simp only [hi]
  cases hg:s.G o.guard with
  | false=>rw [hw,hg,if_neg (by simp)];exact hK _ _ _ (hs.skip hp hE hGv (by grind) rfl (fun id x hx=>by cases hx))
  | true =>
   rw [hw,hg,if_pos rfl]
   refine .inl ?_
   have hgsv:sv.G o.guard=true:=by grind
   have hnp:∀ x y z,o.op≠.pick x y z:=fun x y z e=>by grind [eD]
   rw [fD] at hc
   have hpu':=hpu hgsv
   obtain ⟨vs,hrun,hrel⟩:=jQ (P:=K.P) (hall hg hnp) hc (hP▸hpu'.1)
   unfold Oper.wp
   rw [hrun]
   have zfree:∀ b,β.free b→(fQ ids β).free b:=by
    intro b hf
    refine ⟨hf.1,fun id n h=>?_⟩
    obtain ⟨mu',h1,h2⟩:=dq h
    have:mu'=true:=by grind
    subst this
    exact hf.2 id n h1
   have hfree:∀ id ob b n mu,vH f sv.H id=some ob→β.m id=some (.bz b n mu)→¬¬(fQ ids β).free b:=by
    intro id ob b n mu ho hm hnf
    apply hnf
    have hid:=hids id (by grind)
    refine ⟨fun hF=>?_,fun id' n' h'=>?_⟩
    ·have hF':β.F b:=hF
     rw [hs.h.bF] at hF'
     obtain ⟨g1,g2⟩:=hs.h.hF b hF'
     rcases (hs.h.live id b n mu hm).1 with h|h
     ·omega
     grind
    ·obtain ⟨mu',g1,g2⟩:=dq h'
     have:=hs.h.inj id' id b n' n mu' mu g1 hm
     grind
   have hfz:eR (bu.none fun b=>¬(fQ ids β).free b) w (as.map (n8 9 (vH f sv.H))) vs:=by
    obtain ⟨h1,h2⟩:=fk hrel.len hrel.rel (fun u v hr=>sK hH (F':=fun b=>¬(fQ ids β).free b) (fun b hb h=>h (zfree b hb)) (fun id ob b n mu ho hm=>hfree id ob b n mu ho hm) 9 u v hr)
    exact ⟨h1,h2⟩
   have hFlt:∀ b,¬(fQ ids β).free b→b<w.heap.size:=by
    intro b hb
    apply Classical.byContradiction
    intro hge
    apply hb
    refine ⟨fun hF=>?_,fun id n h=>?_⟩
    ·have hF':β.F b:=hF
     rw [hs.h.bF] at hF'
     have:=(hs.h.hF b hF').1
     have:=hs.h.hB
     omega
    ·obtain ⟨_,g1,_⟩:=dq h
     have:=(hs.h.live id b n _ g1).2
     omega
   have:=hpu'.use (F:=fun b=>¬(fQ ids β).free b) hFlt (fun g m h hgl'=>(hs.h.iU g m h (fD▸hgl')).fP (fun b hb=>⟨fun h=>h (zfree b hb),fun id n h=>by grind [bu.none]⟩) (by
    obtain ⟨_,_,_,_,_,_,_,_,hcl,_⟩:=dj (hs.h.iU g m h (fD▸hgl')).rel
    exact .bJ hcl)) hfz
   rw [hP] at this
   refine this.mono fun e w' hh=>?_
   obtain ⟨v,rfl,hb,hr⟩:=hh
   refine hK _ _ _ (hs.plain hp hE hGv rfl rfl hb (fun _=>?_) (fun h=>by grind))
   exact hr.fP (fun b hb=>Classical.not_not.1 hb.1) hr.closed
 | @st id f' hgn he hm hmu hht =>
  have hg:s.G o.guard=true:=by rw [hgn];rfl
  have hnp:∀ x y z,o.op≠.pick x y z:=fun x y z ee=>by grind [rH]
  rw [hP,fD,← hvH] at he
  obtain ⟨w',hrun,hsim⟩:=hs.stored hp hE hgn (hall hg hnp) (by rw [hag.mt id hm];omega) (by rw [hag.ht id hm];omega) he
  unfold wpOp
  simp only [hi]
  rw [hw,hg,if_pos rfl]
  refine .inl ?_
  unfold Oper.wp
  rw [hrun]
  exact hK _ _ _ hsim
 | @ap q v ids x hgn he hq hm =>
  have hg:s.G o.guard=true:=by rw [hgn];rfl
  have hnp:∀ x y z,o.op≠.pick x y z:=fun x y z ee=>by grind [rI,qb,u4,tj]
  rw [hP,fD,← hvH] at he
  obtain ⟨u,w',hrun,β',hsim⟩:=hs.appended hp hE hgn (hall hg hnp) (fun id hid=>⟨by rw [hag.mt id (hm id hid).1];grind,by rw [hag.ht id (hm id hid).1];grind⟩) he hq
  unfold wpOp
  simp only [hi]
  rw [hw,hg,if_pos rfl]
  refine .inl ?_
  unfold Oper.wp
  rw [hrun]
  exact hK _ _ _ hsim
 | @gv fn as gids zids r obs' hgn hc hnd hgm hz hl hG =>
  have hg:s.G o.guard=true:=by rw [hgn];rfl
  have hnp:∀ x y z,o.op≠.pick x y z:=fun x y z e=>by grind [eD]
  rw [fD] at hc
  obtain ⟨vs,hrun,hrel⟩:=jQ (P:=K.P) (hall hg hnp) hc (hP▸hG.1)
  unfold wpOp
  simp only [hi]
  rw [hw,hg,if_pos rfl]
  refine .inl ?_
  unfold Oper.wp
  rw [hrun]
  rw [hP,fD,← hvH] at hG
  have:=hs.given (Q:=fun w' u=>Kc (a.put o.dst u) w') hp hE hg hrel hnd (fun id hid=>⟨(hgm id hid).1,by rw [hag.mt id (hgm id hid).2.1];grind,by rw [hag.ht id (hgm id hid).2.1];grind⟩)
   (fun id hv hn=>hz id (by simp_all) hn) hl hG (fun u w' β' hsim=>hK _ _ _ hsim)
  refine this.mono fun e w' hh=>?_
  grind
def _root_.Go.Oper.bare (o:Oper):Oper:={ o with guard:=none }
theorem cy.bare (hi:s.gt i=none) (hG:s.G o.guard=true) (hgd:∀ j b,o.guard=some (j,b)→s.gt j≠none) (hs:cy K ops c E β (s.app i o e) a w):cy K ops c E β (s.app i o.bare e) a w:=by
 have eG:∀ γ,(s.app i o.bare e).G γ=(s.app i o e).G γ:=fun γ=>by cases γ<;>rfl
 have hg1:(s.app i o e).G o.guard=true:=by rw [xZ hi o e _ hgd];exact hG
 have htg:∀ n,(s.app i o.bare e).G ((s.app i o.bare e).tg n)=(s.app i o e).G ((s.app i o e).tg n):=fun n=>by
  rw [eG,jq,jq]
  show (s.app i o e).G (if o.dst=some n then none else s.tg n)=_
  by_cases h:o.dst=some n
  ·rw [if_pos h,if_pos h,hg1];rfl
  ·rw [if_neg h,if_neg h]
 have hht:∀ n,(s.app i o.bare e).G ((s.app i o.bare e).ht n)=(s.app i o e).G ((s.app i o e).ht n):=fun n=>by
  rw [eG,iR,iR]
  cases look e.ds n with
  | some x=>show true=_;exact hg1.symm
  | none=>rfl
 obtain ⟨h,f⟩:=hs
 refine ⟨?_,⟨fun n=>by rw [htg n];exact f.slot n,f.size,f.defers,fun j g b hj=>?_,f.Eu,fun n j b hn=>?_,fun n j b hn=>?_,f.todo⟩⟩
 ·have:=funext hht
  simp only [this]
  exact h
 ·obtain ⟨o',d,h1,h2,h3,h4⟩:=f.zU j g b hj
  exact ⟨o',d,h1,h2,by rw [eG];exact h3,h4⟩
 ·rw [jq] at hn
  by_cases h':o.dst=some n
  ·have:o.bare.dst=some n:=h'
   rw [if_pos this] at hn;cases hn
  ·have:¬o.bare.dst=some n:=h'
   rw [if_neg this] at hn
   exact f.Ba n j b (by rw [jq,if_neg h'];exact hn)
 ·rw [iR] at hn
  cases hl:look e.ds n with
  | some x=>simp only [hl] at hn;cases hn
  | none=>simp only [hl] at hn;exact f.GM n j b (by rw [iR,hl];exact hn)
def GvD (C:tL) (c i:Nat) (o:Oper) (f:ed) (s:dE) (e:fA):Prop:=∃ (fn:FuncId) (as:List AV) (gids zids:List Nat) (r:AV) (obs':List (Option Ob)),
 eD (ev C.gl s.fr) o.op=some (fn,as)∧jr gids=true ∧
 (∀ id,id∈gids→bZ f.rd id=true∧bZ f.mt id=true∧(s.H id).map Ob.mu=some true∧s.ht id=none)∧(∀ id,vH f s.H id≠none→bZ gids id=false→bZ zids id=true) ∧
 (gids.length≤obs'.length∧obs'.length≤gids.length+8)∧bI C.P C.gl fn (iO gids (vH f s.H)) (as.map (mapA (gA gids 0) 9 (eQ gids (vH f s.H)))) r obs' ∧
 e=⟨mapA (gO gids (c+8*i)) 9 EO r,true,[],jV gids (c+8*i) obs',zids⟩
theorem z9 {Q:Exit→Act→World→Prop} {Kc:Act→World→Prop} (hP:C.P=K.P) (fD:C.gl=K.gl) (hs:cy K ops c E β s a w) (hp:tN K ops s i o) (hE:E i)
  (hop:jj ops s o=true) (hG:s.G o.guard=true) (h:GvD C c i o f s e)
  (hK:∀ β' a' w',cy K ops c (less E i) β' (s.app i o.bare e) a' w'→Kc a' w'):wpOp K.P ops Q i Kc a w:=by
 obtain ⟨fn,as,gids,zids,r,obs',hc,hnd,hgm,hz,hl,hGv,rfl⟩:=h
 have hi:=hp.at_
 have hw:=nv hs hp.guard
 have hnp:∀ x y z,o.op≠.pick x y z:=fun x y z e=>by rw [e] at hc;simp [eD] at hc
 have hall:∀ x,x∈o.op.operands→Rel β w (Am.ev K.gl s.fr x) (a.eval x):=by
  intro x hx
  have hall:o.op.operands.toList.all (mH ops s o.guard)=true:=by
   unfold jj at hop
   split at hop
   ·rename_i x y z he;exact absurd he (hnp x y z)
   ·exact hop
  exact kt hs (oI hs hp.guard (List.all_eq_true.1 hall x (by simpa using hx)) hG)
 rw [fD] at hc
 obtain ⟨vs,hrun,hrel⟩:=jQ (P:=K.P) hall hc (hP▸hGv.1)
 unfold wpOp
 simp only [hi]
 rw [hw,hG,if_pos rfl]
 refine .inl ?_
 unfold Oper.wp
 rw [hrun]
 rw [hP,fD] at hGv
 have:=hs.given (Q:=fun w' u=>Kc (a.put o.dst u) w') hp hE hG hrel hnd (fun id hid=>⟨(hgm id hid).1,(hgm id hid).2.2.1,(hgm id hid).2.2.2⟩)
  hz hl hGv (fun u w' β' hsim=>hK _ _ _ (hsim.bare (hs.f.todo i hE) hG hp.guard))
 refine this.mono fun e w' hh=>?_
 obtain ⟨u,rfl,hk⟩:=hh
 exact hk
theorem zt {Q:Exit→Act→World→Prop} {Kc:Act→World→Prop} {v:AV} (hs:cy K ops c E β s a w) (hp:tN K ops s i o) (hE:E i) (hG:s.G o.guard=false)
  (hK:∀ β' a' w',cy K ops c (less E i) β' (s.app i o ⟨v,false,[],[],[]⟩) a' w'→Kc a' w'):wpOp K.P ops Q i Kc a w:=by
 have hi:=hp.at_
 have hw:=nv hs hp.guard
 unfold wpOp
 simp only [hi]
 rw [hw,hG,if_neg (by simp)]
 exact hK _ _ _ (hs.skip (e:=⟨v,false,[],[],[]⟩) hp hE hG rfl rfl (fun id x hx=>by cases hx))
end
def uT (acc:Array Nat) (o:Oper):Nat:=o.after.foldl (fun s e=>if Region.binds .any e then s ||| 2^e.on ||| acc.getD e.on 0 else s) 0
theorem zP (ops:Array Oper):Region.before ops=ops.foldl (init := #[]) fun acc o=>acc.push (uT acc o):=rfl
theorem ou (l:List Oper):∀ (acc:Array Nat),∃ B:Array Nat,l.foldl (fun acc o=>acc.push (uT acc o)) acc=B∧B.size=acc.size+l.length∧(∀ k,k<acc.size→B[k]? = acc[k]?) ∧
  ∀ i o,l[i]? = some o→∃ A:Array Nat,A.size=acc.size+i∧(∀ k,k<A.size→A[k]? = B[k]?)∧B[acc.size+i]? = some (uT A o):=by
 induction l with
 | nil=>simp
 | cons x l ih =>
  intro acc
  obtain ⟨B,h1,h2,h3,h4⟩:=ih (acc.push (uT acc x))
  refine ⟨B,h1,by grind,fun k hk=>?_,fun i o ho=>?_⟩
  ·grind
  grind
theorem se (acc:Array Nat) (b:Nat) (es:List Edge):∀ (s:Nat),(es.foldl (fun s e=>if Region.binds .any e then s ||| 2^e.on ||| acc.getD e.on 0 else s) s).testBit b=true →
  s.testBit b=true∨∃ e,e∈es∧Region.binds .any e=true∧(b=e.on∨(acc.getD e.on 0).testBit b=true):=by
 induction es with
 | nil=>simp
 | cons x es ih =>
  intro s h
  simp only [List.foldl_cons] at h
  rcases ih _ h with h|⟨e,he,hb,hx⟩
  ·by_cases hbd:Region.binds .any x=true
   ·grind
   grind
  grind
def pre (ops:Array Oper) (i j:Nat):Bool:=((Region.before ops).getD i 0).testBit j
def m7 (ops:Array Oper) (L:Nat→Prop):Prop:=∀ i j,L i→pre ops i j=true→L j
theorem mf {ops:Array Oper} {L:Nat→Prop} (hc:m7 ops L) {i:Nat} {o:Oper} (hi:ops[i]? = some o) (hr:∀ e,e∈o.after→Region.binds .any e=true→L e.on):∀ j,pre ops i j=true→L j:=by
 intro j hj
 obtain ⟨B,h1,h2,_,h4⟩:=ou ops.toList #[]
 obtain ⟨A,g1,g2,g3⟩:=h4 i o (by grind)
 have hB:Region.before ops=B:=by grind [zP]
 unfold pre at hj
 simp only [List.size_toArray,List.length_nil,Nat.zero_add] at g1 g3
 rw [hB,Array.getD_eq_getD_getElem?,g3] at hj
 simp only [Option.getD_some,uT] at hj
 rw [← Array.foldl_toList] at hj
 rcases se A j o.after.toList 0 hj with h|⟨e,he,hb,hx⟩
 ·grind
 ·have hL:=hr e (by grind) hb
  rcases hx with rfl|hx
  ·omega
  ·refine hc e.on j hL ?_
   unfold pre
   rw [hB]
   rw [Array.getD_eq_getD_getElem?] at hx ⊢
   grind
section
variable {ops : Array Oper}
abbrev Li (listed:Array Bool):Nat→Prop:=fun j=>listed.getD j false=true
theorem rR {listed:Array Bool} {i:Nat} (hi:i<listed.size) (j:Nat):Li (listed.setIfInBounds i true) j↔Li listed j∨j=i:=by
 unfold Li
 rw [Array.getD_eq_getD_getElem?,Array.getD_eq_getD_getElem?,Array.getElem?_setIfInBounds]
 grind
theorem J9 {listed:Array Bool} {i:Nat} (h:listed.getD i true=false):¬Li listed i∧i<listed.size:=by grind
theorem wb {listed:Array Bool} {i:Nat} {o:Oper} (hc:m7 ops (Li listed)) (hi:i<listed.size) (ho:ops[i]? = some o) (hr:∀ e,e∈o.after→Region.binds .any e=true→Li listed e.on) :
  m7 ops (Li (listed.setIfInBounds i true)):=by
 intro x y hx hxy
 rw [rR hi] at hx ⊢
 rcases hx with hx|rfl
 ·exact .inl (hc x y hx hxy)
 grind [mf]
theorem qc {listed:Array Bool} {i:Nat} (h:i∈Region.ready .any ops listed):¬Li listed i∧i<listed.size∧∃ o,ops[i]? = some o∧∀ e,e∈o.after→Region.binds .any e=true→Li listed e.on:=by grind [mem_ready,J9]
theorem zr {L:Nat→Prop} {n:Nat} (h:¬∀ j,j<n→L j):∃ i,i<n∧¬L i∧∀ j,j<i→L j:=by
 induction n with
 | zero=>grind
 | succ n ih =>
  by_cases hn:∀ j,j<n→L j
  ·grind
  grind
end
def o6 (ops:Array Oper) (l:List (ed×fA)):Bool :=
 (List.range ops.size).all fun j=>match ops[j]?,l[j]? with
  | some oj,some (fj,ej)=>oj.after.toList.all (fun e => !Region.binds .any e||Nat.blt e.on j) &&
    (List.range j).all fun i=>pre ops j i||(match ops[i]?,l[i]? with
     | some oi,some (fi,ei)=>kf ops oi fi oj ej&&(kf ops oj fj oi ei&&l6 oi ei oj ej)
     | _,_=>false)
  | _,_=>false
theorem nW {ops:Array Oper} {es:Nat→fA} {fs:Nat→ed} (h:o6 ops ((List.range ops.size).map fun j=>(fs j,es j))=true) {j:Nat} {oj:Oper} (hj:ops[j]? = some oj) :
  (∀ e,e∈oj.after→Region.binds .any e=true→e.on<j) ∧
  ∀ i oi,i<j→ops[i]? = some oi→pre ops j i=true∨(kf ops oi (fs i) oj (es j)=true∧kf ops oj (fs j) oi (es i)=true∧l6 oi (es i) oj (es j)=true):=by
 have hlt:j<ops.size:=(Array.getElem?_eq_some_iff.1 hj).1
 have hget:∀ k,k<ops.size→((List.range ops.size).map fun j=>(fs j,es j))[k]? = some (fs k,es k):=fun k hk=>by grind
 have h1:=List.all_eq_true.1 h j (List.mem_range.2 hlt)
 simp only [hj,hget j hlt,Bool.and_eq_true] at h1
 refine ⟨fun e he hb=>?_,fun i oi hi hoi=>?_⟩
 ·have:=List.all_eq_true.1 h1.1 e (by grind)
  simp only [hb,Bool.not_true,Bool.false_or,Nat.blt_eq] at this
  omega
 grind
def lex (C:tL) (ops:Array Oper) (dr:Bool) (c:Nat):List Oper→Nat→dE→List (ed×fA)→(dE→List (ed×fA)→Prop)→Prop
 | [],_,s,acc,X=>X s acc
 | o::rest,i,s,acc,X=>qF C.nt ops s o=true∧((∃ f e,DY C c i o f s e∧lex C ops dr c rest (i+1) (s.app i o e) ((f,e)::acc) X) ∨
  (dr=false∧(s.G o.guard=true→∃ f e,GvD C c i o f s e∧lex C ops dr c rest (i+1) (s.app i o.bare e) ((f,e)::acc) X) ∧
   (s.G o.guard=false→∃ v acc',lex C ops dr c rest (i+1) (s.app i o ⟨v,false,[],[],[]⟩) acc' X)))
theorem xn {ops:Array Oper} {es es':Nat→fA}:∀ (l:List Nat) (s:dE),(∀ j,j∈l→es j=es' j)→fL ops es s l=fL ops es' s l:=by
 intro l
 induction l with
 | nil=>intro s _;rfl
 | cons j l ih =>
  grind [fW,List.mem_cons_of_mem,vG,List.mem_cons_self]
theorem vJ {C:tL} {ops:Array Oper} {c:Nat} {X:dE→List (ed×fA)→Prop}:∀ (l:List Oper) (i:Nat) (s:dE) (acc:List (ed×fA)),(∀ j,l[j]? = ops[i+j]?)→lex C ops true c l i s acc X →
  ∃ (es:Nat→fA) (fs:Nat→ed),(∀ j o,j<l.length→ops[i+j]? = some o→qF C.nt ops (fL ops es s (List.range' i j)) o=true∧DY C c (i+j) o (fs (i+j)) (fL ops es s (List.range' i j)) (es (i+j))) ∧
   X (fL ops es s (List.range' i l.length)) (((List.range' i l.length).map fun j=>(fs j,es j)).reverse++acc):=by
 intro l
 induction l with
 | nil=>intro i s acc _ h;exact ⟨fun _=>⟨.bx,true,[],[],[]⟩,fun _=>⟨[],[],[]⟩,fun j o hj=>absurd hj (by simp),h⟩
 | cons o rest ih =>
  intro i s acc hl h
  obtain ⟨hok,hh⟩:=h
  obtain ⟨f,e,hop,hrest⟩:=hh.resolve_right (fun h=>by cases h.1)
  have h0:ops[i]? = some o:=by simpa using (hl 0).symm
  obtain ⟨es,fs,h1,h2⟩:=ih (i+1) _ _ (fun j=>by have:=hl (j+1);grind) hrest
  let es':Nat→fA:=fun j=>if j=i then e else es j
  let fs':Nat→ed:=fun j=>if j=i then f else fs j
  have hst:∀ n,fL ops es' s (List.range' i (n+1))=fL ops es (s.app i o e) (List.range' (i+1) n):=by
   intro n
   rw [List.range'_succ,fW]
   grind [vG,xn]
  refine ⟨es',fs',fun j oj hj hoj=>?_,?_⟩
  ·cases j with
   | zero =>
    rw [Nat.add_zero,h0] at hoj
    cases hoj
    simp only [List.range'_zero,fL,List.foldl_nil,Nat.add_zero,es',fs',if_pos rfl]
    grind
   | succ j =>
    grind
  ·rw [List.length_cons,hst,List.range'_succ,List.map_cons,List.reverse_cons,List.append_assoc]
   grind [List.range',List.map_congr_left]
section
variable {K : Ctx} {C : tL} {ops : Array Oper} {c : Nat} {E E' : Nat → Prop} {β : bu} {s : dE} {a : Act} {w : World} {Q : Exit → Act → World → Prop}
theorem cy.qK (h:cy K ops c E β s a w) (hE:∀ j,E' j→E j):cy K ops c E' β s a w :=
 ⟨⟨h.h.heap,h.h.um,h.h.inj,h.h.fresh,fun i k hi=>h.h.nP i k (hE i hi),h.h.live,h.h.yG,h.h.bF,h.h.hF,h.h.kept,h.h.hB,h.h.iU⟩,
   ⟨h.f.slot,h.f.size,h.f.defers,h.f.zU,h.f.Eu,h.f.Ba,h.f.GM,fun i hi=>h.f.todo i (hE i hi)⟩⟩
theorem wq {nt:Nat} {f:ed} {sv:dE} {o:Oper} (h:dB o f sv s) (hok:qF nt ops sv o=true):qF nt ops s o=true:=by
 unfold qF at hok ⊢
 rw [rM h]
 cases hg:o.guard with
 | none=>grind
 | some jb=>obtain ⟨j,b⟩:=jb;rw [hg] at hok;simp only [h.gt j b hg];omega
def sM (ops:Array Oper):Prop:=∀ (i j:Nat) (oi oj:Oper) (d:Tmp),ops[i]? = some oi→ops[j]? = some oj→oi.dst=some d→oj.dst=some d→i=j
theorem Ff (hP:C.P=K.P) (fD:C.gl=K.gl) (ph:C.nt=K.nt) (hone:sM ops) {X:dE→List (ed×fA)→Prop} {is:List Nat} {m:Nat}
  (hQ:∀ β s acc a w,cy K ops c (fun j=>m≤j) β s a w→X s acc→wpOps K.P ops Q is a w):∀ (l:List Oper) (i:Nat) (s:dE) (acc:List (ed×fA)) (β:bu) (a:Act) (w:World),(∀ j,j<l.length→l[j]? = ops[i+j]?)→i+l.length=m →
  lex C ops false c l i s acc X→cy K ops c (fun j=>i≤j) β s a w→wpOps K.P ops Q (List.range' i l.length++is) a w:=by
 intro l
 induction l with
 | nil =>
  intro i s acc β a w _ hn h hs
  have:m=i:=by grind
  exact hQ β s acc a w (hs.qK fun j hj=>by omega) h
 | cons o rest ih =>
  intro i s acc β a w hl hn h hs
  obtain ⟨hok,hh⟩:=h
  have h0:ops[i]? = some o:=by simpa using (hl 0 (by simp)).symm
  rw [List.length_cons,List.range'_succ,List.cons_append,wpOps_cons]
  obtain ⟨hp,hopn⟩:=uk (K:=K) ph.symm hok h0 (fun j oj d h1 h2 h3=>hone j i oj o d h1 h0 h2 h3)
  have go:∀ s' acc' β' a' w',lex C ops false c rest (i+1) s' acc' X→cy K ops c (less (fun j=>i≤j) i) β' s' a' w'→wpOps K.P ops Q (List.range' (i+1) rest.length++is) a' w':=fun s' acc' β' a' w' hrest hs' =>
   ih (i+1) s' acc' β' a' w' (fun j hj=>by have:=hl (j+1) (by simp;omega);simpa [Nat.add_assoc,Nat.add_comm 1 j] using this) (by simp at hn;omega) hrest (hs'.qK fun j hj=>⟨by omega,by omega⟩)
  rcases hh with ⟨f,e,hop,hrest⟩|⟨_,ht,hf⟩
  ·exact yI hP fD hs hp (Nat.le_refl _) hopn (dB.refl o f s) hop (fun β' a' w' hs'=>go _ _ β' a' w' hrest hs')
  ·cases hG:s.G o.guard with
   | true =>
    obtain ⟨f,e,hgv,hrest⟩:=ht hG
    exact z9 hP fD hs hp (Nat.le_refl _) hopn hG hgv (fun β' a' w' hs'=>go _ _ β' a' w' hrest hs')
   | false =>
    obtain ⟨v,acc',hrest⟩:=hf hG
    exact zt hs hp (Nat.le_refl _) hG (fun β' a' w' hs'=>go _ _ β' a' w' hrest hs')
theorem JQ (hP:C.P=K.P) (fD:C.gl=K.gl) (ph:C.nt=K.nt) (hone:sM ops) {X:dE→List (ed×fA)→Prop}
  (hQ:∀ β s acc a w,cy K ops c (fun j=>ops.size≤j) β s a w→X s acc→Q .normal a w) (l:List Oper) (i:Nat) (s:dE) (acc:List (ed×fA)) (β:bu) (a:Act) (w:World) (hl:∀ j,l[j]? = ops[i+j]?) (hn:i+l.length=ops.size)
  (h:lex C ops false c l i s acc X) (hs:cy K ops c (fun j=>i≤j) β s a w):wpOps K.P ops Q (List.range' i l.length) a w:=by
 have:=Ff (is:=[]) hP fD ph hone (fun β s acc a w hr hX=>hQ β s acc a w hr hX) l i s acc β a w (fun j _=>hl j) hn h hs
 grind
structure HC (K : Ctx) (C : tL) (ops : Array Oper) (c : Nat) (es : Nat → fA) (fs : Nat → ed) (s0 : dE) (Q : Exit → Act → World → Prop) : Prop where
  hP : C.P = K.P
  fD : C.gl = K.gl
  ph : C.nt = K.nt
  back : ∀ j oj, ops[j]? = some oj → ∀ e, e ∈ oj.after → Region.binds .any e = true → e.on < j
  pair : ∀ i j oi oj, i < j → ops[i]? = some oi → ops[j]? = some oj → pre ops j i = true ∨ (kf ops oi (fs i) oj (es j) = true ∧ kf ops oj (fs j) oi (es i) = true ∧ l6 oi (es i) oj (es j) = true)
  st : ∀ j o, ops[j]? = some o → qF C.nt ops (fL ops es s0 (List.range j)) o = true ∧ DY C c j o (fs j) (fL ops es s0 (List.range j)) (es j)
  one : sM ops
  fin : ∀ β a w, cy K ops c (fun j => ops.size ≤ j) β (fL ops es s0 (List.range ops.size)) a w → Q .normal a w
def bc (listed:Array Bool):Nat→Bool:=fun j=>listed.getD j false
theorem tk {n i:Nat} (p p':Nat→Bool) (hi:i<n) (hp:p i=false) (hp':∀ j,p' j=(p j||j==i)) :
  ∃ B,(List.range n).filter p=(List.range i).filter p++B∧(List.range n).filter p'=(List.range i).filter p++i::B∧∀ j,j∈B→i<j∧p j=true:=by
 have hr:List.range n=List.range i++i::List.range' (i+1) (n - i - 1):=by
  rw [List.range_eq_range',List.range_eq_range']
  have e:n=i+(1+(n - i - 1)):=by omega
  conv=>lhs;rw [e]
  rw [← List.range'_append_1,Nat.zero_add]
  grind [Nat.add_comm,List.range'_succ]
 refine ⟨(List.range' (i+1) (n - i - 1)).filter p,?_,?_,fun j hj=>?_⟩
 ·grind
 ·rw [hr,List.filter_append,List.filter_cons]
  have h1:p' i=true:=by grind
  have h2:(List.range i).filter p'=(List.range i).filter p:=List.filter_congr (fun j hj=>by simp_all [List.mem_range]<;>omega)
  have h3:(List.range' (i+1) (n - i - 1)).filter p'=(List.range' (i+1) (n - i - 1)).filter p:=List.filter_congr (fun j hj=>by simp_all [List.mem_range'_1]<;>omega)
  grind
 grind
theorem Iy {es:Nat→fA} {fs:Nat→ed} {s0:dE} (D:HC K C ops c es fs s0 Q):∀ (fuel:Nat) (listed:Array Bool) (β:bu) (a:Act) (w:World),listed.size=ops.size→fuel+((List.range ops.size).filter (bc listed)).length=ops.size →
  m7 ops (Li listed)→cy K ops c (fun j=>¬Li listed j) β (fL ops es s0 ((List.range ops.size).filter (bc listed))) a w→wpAny K.P .any ops Q fuel listed a w:=by
 have whole:∀ (listed:Array Bool) (β:bu) (a:Act) (w:World),listed.size=ops.size→(∀ j,j<ops.size→Li listed j)→cy K ops c (fun j=>¬Li listed j) β (fL ops es s0 ((List.range ops.size).filter (bc listed))) a w→Q .normal a w:=by
  intro listed β a w hsz hall hs
  have e:(List.range ops.size).filter (bc listed)=List.range ops.size:=List.filter_eq_self.2 (fun j hj=>hall j (List.mem_range.1 hj))
  rw [e] at hs
  refine D.fin β a w (hs.qK fun j hj hl=>?_)
  grind
 have step:∀ (fuel:Nat) (listed:Array Bool) (β:bu) (a:Act) (w:World),listed.size=ops.size→fuel+1+((List.range ops.size).filter (bc listed)).length=ops.size→m7 ops (Li listed) →
   cy K ops c (fun j=>¬Li listed j) β (fL ops es s0 ((List.range ops.size).filter (bc listed))) a w→∀ i,i∈Region.ready .any ops listed→∀ (Kc:Act→World→Prop),
   (∀ β' a' w',(listed.setIfInBounds i true).size=ops.size→fuel+((List.range ops.size).filter (bc (listed.setIfInBounds i true))).length=ops.size→m7 ops (Li (listed.setIfInBounds i true)) →
    cy K ops c (fun j=>¬Li (listed.setIfInBounds i true) j) β' (fL ops es s0 ((List.range ops.size).filter (bc (listed.setIfInBounds i true)))) a' w'→Kc a' w')→wpOp K.P ops Q i Kc a w:=by
  intro fuel listed β a w hsz hlen hcl hs i hi Kc hKc
  obtain ⟨hnl,hilt,o,ho,hr⟩:=qc hi
  have hin:i<ops.size:=by omega
  have hpi:bc listed i=false:=by grind [bc,absurd]
  have hpre:=mf hcl ho hr
  obtain ⟨B,e1,e2,hB⟩:=tk (bc listed) (bc (listed.setIfInBounds i true)) hin hpi (fun j=>by
   have:=rR hilt j
   rw [Bool.eq_iff_iff,Bool.or_eq_true]
   unfold bc
   grind)
  obtain ⟨hok,hop⟩:=D.st i o ho
  have hag:dB o (fs i) (fL ops es s0 (List.range i)) (fL ops es s0 ((List.range ops.size).filter (bc listed))):=by
   rw [e1,kP]
   refine dB.tail B _ _ (fun j oj hj hoj=>?_) (dB.fold (bc listed) (List.range i) s0 s0 (fun j oj hj hpj hoj=>?_) (dB.refl _ _ _))
   ·obtain ⟨h1,h2⟩:=hB j hj
    rcases D.pair i j o oj h1 ho hoj with h|h
    ·exact absurd (hcl j i h2 h) hnl
    grind
   ·have h1:=List.mem_range.1 hj
    rcases D.pair j i oj o h1 hoj ho with h|h
    ·simp_all [Li,bc]
    grind
  have hok':=wq hag hok
  obtain ⟨hp,hopn⟩:=uk (K:=K) D.ph.symm hok' ho (fun j oj d h1 h2 h3=>D.one j i oj o d h1 ho h2 h3)
  refine yI D.hP D.fD hs hp hnl hopn hag hop (fun β' a' w' hs'=>?_)
  have hstp:(fL ops es s0 ((List.range ops.size).filter (bc listed))).app i o (es i)=fL ops es s0 ((List.range ops.size).filter (bc (listed.setIfInBounds i true))):=by
   have h1:(fL ops es s0 ((List.range ops.size).filter (bc listed))).app i o (es i)=vG ops es (fL ops es s0 ((List.range ops.size).filter (bc listed))) i:=by grind [vG]
   rw [h1,e1,e2,kP,kP,fW]
   refine (zh B _ (fun j hj=>?_)).symm
   obtain ⟨h2,h3⟩:=hB j hj
   refine ⟨by omega,fun oi oj hoi hoj=>?_⟩
   rcases D.pair i j oi oj h2 hoi hoj with h|h
   ·exact absurd (hcl j i h3 h) hnl
   grind
  rw [hstp] at hs'
  refine hKc β' a' w' (by grind) ?_ (wb hcl hilt ho hr) (hs'.qK fun j hj=>?_)
  ·grind
  ·refine ⟨fun hl=>hj ((rR hilt j).2 (.inl hl)),fun e=>hj ((rR hilt j).2 (.inr e))⟩
 intro fuel
 induction fuel with
 | zero =>
  intro listed β a w hsz hlen hcl hs
  have hall:∀ j,j<ops.size→Li listed j:=by
   have e:(List.range ops.size).filter (bc listed)=List.range ops.size:=by grind [List.range,bc,List.filter_sublist]
   intro j hj
   have:=List.filter_eq_self.1 e j (List.mem_range.2 hj)
   exact this
  refine ⟨?_,whole listed β a w hsz hall hs⟩
  cases hr:Region.ready .any ops listed with
  | nil=>rfl
  | cons i l =>
   obtain ⟨h1,h2,_⟩:=qc (ops:=ops) (listed:=listed) (i:=i) (by grind)
   grind
 | succ fuel ih =>
  intro listed β a w hsz hlen hcl hs
  refine ⟨fun hr=>?_,fun i hi=>step fuel listed β a w hsz hlen hcl hs i hi _ (fun β' a' w' h1 h2 h3 h4=>ih _ β' a' w' h1 h2 h3 h4)⟩
  refine whole listed β a w hsz (fun j hj=>?_) hs
  apply Classical.byContradiction
  intro hnot
  obtain ⟨i,h1,h2,h3⟩:=zr (L:=Li listed) (n:=ops.size) (fun h=>hnot (h j hj))
  have ho:ops[i]? = some ops[i]:=by simp
  have:i∈Region.ready .any ops listed:=by
   refine mem_ready.2 ⟨?_,ops[i],ho,fun e he hbd=>h3 e.on (D.back i _ ho e he hbd)⟩
   grind
  grind
end
structure dH where
  fr : Nat → AV
  H : ec
  c : Nat
structure gS (K : Ctx) (β : bu) (s : dH) (a : Act) (w : World) : Prop where
  slot : ∀ n, Rel β w (s.fr n) (a.tmps.getD n undef)
  size : a.tmps.size = K.nt
  defers : Marks K a.defers w
  heap : ∀ id o, s.H id = some o → gT β w o id
  inj : vQ β
  fresh : ∀ id, s.c ≤ id → β.m id = none
  live : ∀ id b n mu, β.m id = some (.bz b n mu) → (K.B ≤ b ∨ K.G b) ∧ b < w.heap.size
  yG : ∀ id o, K.b0 id = some o → ∃ o', β.m id = some o' ∧ o.later o'
  bF : β.F = K.F
  hF : ∀ b, K.F b → b < K.B ∧ ¬ K.G b
  kept : Kept K.B K.G K.w0 w
  hB : K.B ≤ w.heap.size
  iU : mJ K.gl β w
def Opq (P:Program) (gl:dG) (ng nt:Nat) (c:Code) (s s':dH):Prop :=
 ∀ K β a w,K.P=P→K.gl=gl→K.nt=nt→(∀ id,ng≤id→K.b0 id=none)→K.qt=false→P.follows .mixedOrders=true→gS K β s a w→c.wp P (fun e a' w'=>e=.normal∧∃ β',gS K β' s' a' w') a w
inductive n5 where
  | normal
  | leave (id : Nat)
  | ret
inductive Tree where
  | bad (why : String)
  | fin (p : Prop)
  | br (b : Bool) (t e : Tree)
  | bj (p : Prop) (t : Tree)
  | CB (g : Bool) (f : FuncId) (args : List AV) (k : AV → Tree)
  | DU (g : Bool) (f : FuncId) (args : List AV) (k : AV → Tree)
  | BZ (f : FuncId) (n : Nat) (obs : List Ob) (args : List AV) (k : AV → List (Option Ob) → Tree)
  | loop (x : Code) (s : dH) (k : dH → (dH → Prop) → Tree)
  | again (s : dH) (p : dH → Prop)
  | AG (ng nt : Nat) (c : Code) (s : dH) (k : dH → Tree)
  | out (v : Option (AV × List (Option Ob))) (r : AV) (obs : List (Option Ob))
def Has (os:List (Option Ob)) (β:bu):Prop:=∀ (k:Nat) o,os[k]? = some (some o)→β.m k≠none
def ay (os:List (Option Ob)) (a b:AV):Prop:=∀ β w v,Has os β→Rel β w a v→Rel β w b v
theorem ay.refl {os:List (Option Ob)} (a:AV):ay os a a:=fun _ _ _ _ h=>h
theorem ay.of_eq {os:List (Option Ob)} {a b:AV} (h:a=b):ay os a b:=h▸ay.refl a
theorem ay.nil {os:List (Option Ob)} {k es i:Nat} {o:Ob} (h:os[k]? = some (some o)):ay os .bn (.ba k es i 0):=fun _ _ _ hh hr=>by
 cases hr
 exact .jC (hh k o h)
def tyc (f g:bA):Bool:=match g with
 | .ty t _=>(match f with|.ty t' _=>Nat.beq t' nf||Nat.beq t' t|_=>false)
 | _=>true
theorem Dz (f:bA):tyc f f=true:=by
 cases f with
 | ty t f=>exact Bool.or_eq_true_iff.2 (.inr (Nat.beq_refl _))
 | _=>rfl
theorem Bd {f g:bA} (h:tyc f g=true) {t:TypeId} (hg:g.iV=some t):f.iV=some nf∨f.iV=some t:=by
 cases g with
 | ty t1 g1 =>
  cases hg
  cases f with
  | ty t2 f1 =>
   rcases Bool.or_eq_true_iff.1 h with h|h
   ·exact .inl (congrArg some (Nat.eq_of_beq_eq_true h))
   ·exact .inr (congrArg some (Nat.eq_of_beq_eq_true h))
  | _=>cases h
 | _=>cases hg
structure aJ (os : List (Option Ob)) (o o' : Ob) : Prop where
  es0 : (o.es, tyc o.f o'.f) = (o'.es, true)
  n : o.n = o'.n
  mu : o.mu = o'.mu
  f : ∀ i j, i < o.n → j < o.es → ay os (o.f i j) (o'.f i j)
theorem aJ.es {os:List (Option Ob)} {o o':Ob} (h:aJ os o o'):o.es=o'.es:=(Prod.mk.inj h.es0).1
theorem AR.tM {os:List (Option Ob)} {o o':Ob} {b:Nat} {cs:Array Value} {el:TypeId} (h:aJ os o o') (k:AR b o.n o.es o.f cs el):AR b o'.n o'.es o'.f cs el :=
 ⟨by rw [← h.es,← h.n];exact k.le,fun t ht=>by
  rw [← h.es,← h.n]
  rcases Bd (Prod.mk.inj h.es0).2 ht with e|e
  ·exact absurd rfl (k.ty _ e).1
  ·exact k.ty t e⟩
def eM (os:List (Option Ob)):List (Option Ob)→List (Option Ob)→Prop
 | [],[]=>True
 | _::l,none::l'=>eM os l l'
 | some o::l,some o'::l'=>aJ os o o'∧eM os l l'
 | _,_=>False
theorem eM.spec {os:List (Option Ob)}:∀ {l l':List (Option Ob)},eM os l l'→l.length=l'.length∧∀ (k:Nat) o',l'[k]? = some (some o')→∃ o,l[k]? = some (some o)∧aJ os o o'
 | [],[],_=>⟨rfl,fun k o' h=>by grind⟩
 | x::l,none::l',h=>by
  obtain ⟨h1,h2⟩:=eM.spec (l:=l) (l':=l') (by cases x<;>exact h)
  refine ⟨by simp [h1],fun k o' hk=>?_⟩
  cases k with
  | zero=>simp at hk
  | succ k=>simp at hk ⊢;exact h2 k o' hk
 | some o::l,some o'::l',h=>by
  obtain ⟨h1,h2⟩:=eM.spec h.2
  refine ⟨by simp [h1],fun k o2 hk=>?_⟩
  cases k with
  | zero=>simp at hk;subst hk;exact ⟨o,by simp,h.1⟩
  | succ k=>simp at hk ⊢;exact h2 k o2 hk
 | [],none::l',h=>h.elim
 | [],some o::l',h=>h.elim
 | none::l,[],h=>h.elim
 | some o::l,[],h=>h.elim
 | none::l,some o::l',h=>h.elim
def Tree.wp (P:Program) (gl:dG) (le:dH→dH→Prop):Tree→Prop
 | .bad _=>False
 | .fin p=>p
 | .br b t e=>(b=true→t.wp P gl le)∧(b=false→e.wp P gl le)
 | .bj p t=>p∧t.wp P gl le
 | .CB g f args k=>∃ r,(g=true→Pure P gl f args r)∧sc 9 r=true∧(k r).wp P gl le
 | .DU g f args k=>∃ r,(g=true→Pure P gl f args r)∧(k r).wp P gl le
 | .BZ f n obs args k=>∃ r obs',bI P gl f obs args r obs'∧(Nat.ble n obs'.length&&Nat.ble obs'.length (n+8))=true∧(k r obs').wp P gl le
 | .loop _ s k=>∃ (ι:Type) (S:ι→dH) (m:ι→Nat) (i0:ι),le s (S i0)∧∀ i,(k (S i) (fun s'=>∃ i',le s' (S i')∧m i'<m i)).wp P gl le
 | .again s p=>p s
 | .AG ng nt c s k=>∃ s',Opq P gl ng nt c s s'∧(k s').wp P gl le
 | .out v r obs=>∃ x os,v=some (x,os)∧ay os x r∧eM os os obs
def bA.ids (g:AV→List Nat):bA→List Nat
 | .bc l=>l.flatMap fun r=>r.flatMap g
 | .cat _ f h=>f.ids g++h.ids g
 | .put _ x f=>x.flatMap g++f.ids g
 | _=>[]
def pr:Nat→ec→AV→List Nat
 | 0,_,_=>[]
 | n+1,H,.own id _ i j m=>id::(match H id with
  | some o=>(List.range m).flatMap (fun q=>pr n H (o.f i (j+q)))
  | none=>[])
 | _+1,_,.l8 id _ _ _ _ _=>[id]
 | n+1,H,.ba id _ _ _=>id::(match H id with
  | some o=>o.f.ids (pr n H)
  | none=>[])
 | n+1,H,.agg cs=>cs.flatMap (pr n H)
 | n+1,H,.aX cs=>cs.flatMap (pr n H)
 | n+1,H,.fn _ fs cs=>fs.flatMap (pr n H)++cs.flatMap (pr n H)
 | n+1,H,.lW _ v=>pr n H v
 | _+1,_,_=>[]
def Cx:List Nat→List Nat
 | []=>[]
 | x::l=>bif bZ l x then Cx l else x::Cx l
def alive (H:ec) (l:List Nat):List Nat:=Cx (l.filter fun id=>(H id).isSome)
def iW (H:ec) (id:Nat):Bool:=match H id with|some o=>o.mu|none=>false
def fu:Tag→Bool|none=>true|some _=>false
def scT (P:Program):Nat→TypeId→Bool
 | 0,_=>false
 | n+1,t=>match P.underlying t with
  | some .bool|some (.int _)|some .string=>true
  | some (.struct fs)=>fs.all (fun f=>scT P n f.type)
  | some (.array _ e)=>scT P n e
  | some (.tuple ts)=>ts.all (scT P n)
  | _=>false
def mb:AV→List Nat
 | .own id _ _ _ _=>[id]
 | .ba id _ _ _=>[id]
 | .l8 id _ _ _ _ _=>[id]
 | _=>[]
def gE (ρ:Operand→AV):Op→ed
 | .load _ a=>⟨mb (ρ a),[],[]⟩
 | .store _ a _=>⟨mb (ρ a),[],mb (ρ a)⟩
 | .nilCheck x=>⟨[],mb (ρ x),[]⟩
 | .binOp _ _ x _ _=>⟨[],mb (ρ x),[]⟩
 | .convert s d x=>⟨mb (ρ x),[],bif Nat.beq s d then mb (ρ x) else []⟩
 | .fieldAddr _ x _=>⟨[],mb (ρ x),[]⟩
 | .indexAddr _ x _=>⟨[],mb (ρ x),[]⟩
 | .slice _ x _ _ _=>⟨[],mb (ρ x),[]⟩
 | .call { callee:=.builtin .append,args:=args,.. }=>⟨args.toList.flatMap (fun x=>mb (ρ x)),[],match args.toList with|x::_=>mb (ρ x)|[]=>[]⟩
 | .call { callee:=.builtin _,args:=args,.. }=>⟨[],args.toList.flatMap (fun x=>mb (ρ x)),[]⟩
 | _=>⟨[],[],[]⟩
def wQ (ρ:Operand→AV):Op→ed
 | .slice _ x _ _ _=>⟨mb (ρ x),[],[]⟩
 | _=>⟨[],[],[]⟩
def cP (H:ec):List Bool→List AV→List Nat
 | true::m,a::as=>pr 9 H a++cP H m as
 | false::m,_::as=>cP H m as
 | _,_=>[]
def Bt (γ:Tag) (g:Bool) (q:Rq) (t:Tree):Tree :=
 match q with
 | .no=>t
 | .yes p=>match γ with
  | none=>.bj p t
  | some _=>.bj (g=true→p) t
def brG (γ:Tag) (g:Bool) (t e:Tree):Tree:=match γ with|none=>t|some _=>.br g t e
def Lw (P:Program) (t:TypeId):AV:=match P.underlying t with|some .bool=>.bool false|some (.int k)=>.int k 0|_=>.bx
def jc (C:tL) (ops:Array Oper) (draw:Bool) (c:Nat):List Oper→Nat→dE→List (ed×fA)→(dE→Tree)→Tree
 | [],_,s,acc,k=>bif !draw||o6 ops acc.reverse then k s else .bad "draw"
 | o::rest,i,s,acc,k =>
  bif qF C.nt ops s o then
   match eD (ev C.gl s.fr) o.op with
   | some (fn,as)=>match C.own fn with
    | some mask =>
     bif (fu o.guard || !draw)&&(jr ((alive s.H (cP s.H mask as)).filter (iW s.H))&&((alive s.H (cP s.H mask as)).filter (iW s.H)).all (fun id=>fu (s.ht id))) then
      brG o.guard (s.G o.guard) (.BZ fn ((alive s.H (cP s.H mask as)).filter (iW s.H)).length
       (iO ((alive s.H (cP s.H mask as)).filter (iW s.H)) (vH ⟨alive s.H (as.flatMap (pr 9 s.H)),[],(alive s.H (cP s.H mask as)).filter (iW s.H)⟩ s.H))
       (as.map (mapA (gA ((alive s.H (cP s.H mask as)).filter (iW s.H)) 0) 9 (eQ ((alive s.H (cP s.H mask as)).filter (iW s.H)) (vH ⟨alive s.H (as.flatMap (pr 9 s.H)),[],(alive s.H (cP s.H mask as)).filter (iW s.H)⟩ s.H))))
       (fun r obs' =>
        bif ((alive s.H (cP s.H mask as)).filter (iW s.H)).all (fun id=>bZ (alive s.H (as.flatMap (pr 9 s.H))) id) then
         jc C ops draw c rest (i+1)
          (s.app i o.bare ⟨mapA (gO ((alive s.H (cP s.H mask as)).filter (iW s.H)) (c+8*i)) 9 EO r,true,[],jV ((alive s.H (cP s.H mask as)).filter (iW s.H)) (c+8*i) obs',alive s.H (as.flatMap (pr 9 s.H))⟩)
          ((⟨alive s.H (as.flatMap (pr 9 s.H)),[],(alive s.H (cP s.H mask as)).filter (iW s.H)⟩,
           ⟨mapA (gO ((alive s.H (cP s.H mask as)).filter (iW s.H)) (c+8*i)) 9 EO r,true,[],jV ((alive s.H (cP s.H mask as)).filter (iW s.H)) (c+8*i) obs',alive s.H (as.flatMap (pr 9 s.H))⟩)::acc) k
        else .bad "given"))
       (jc C ops draw c rest (i+1) (s.app i o ⟨Lw C.P o.type,false,[],[],[]⟩) ((⟨[],[],[]⟩,⟨Lw C.P o.type,false,[],[],[]⟩)::acc) k)
     else .bad "given"
    | none =>
     bif scT C.P 9 o.type then
      .CB (s.G o.guard) fn (as.map (n8 9 (vH ⟨alive s.H (as.flatMap (pr 9 s.H)),[],[]⟩ s.H)))
       (fun r=>jc C ops draw c rest (i+1) (s.app i o ⟨r,s.G o.guard,[],[],[]⟩) ((⟨alive s.H (as.flatMap (pr 9 s.H)),[],[]⟩,⟨r,s.G o.guard,[],[],[]⟩)::acc) k)
     else
      .DU (s.G o.guard) fn (as.map (n8 9 (vH ⟨alive s.H (as.flatMap (pr 9 s.H)),[],[]⟩ s.H)))
       (fun r=>jc C ops draw c rest (i+1) (s.app i o ⟨r,s.G o.guard,[],[],alive s.H (as.flatMap (pr 9 s.H))⟩) ((⟨alive s.H (as.flatMap (pr 9 s.H)),[],[]⟩,⟨r,s.G o.guard,[],[],alive s.H (as.flatMap (pr 9 s.H))⟩)::acc) k)
   | none=>match rH C.P (ev C.gl s.fr) (vH (gE (ev C.gl s.fr) o.op) s.H) o.op with
    | some (id,f') =>
     bif fu o.guard&&(bZ (gE (ev C.gl s.fr) o.op).mt id&&(iW s.H id&&fu (s.ht id))) then
      jc C ops draw c rest (i+1) (s.app i o ⟨.bx,true,[(id,f')],[],[]⟩) ((gE (ev C.gl s.fr) o.op,⟨.bx,true,[(id,f')],[],[]⟩)::acc) k
     else .bad "a store"
    | none=>match rI C.P (ev C.gl s.fr) (vH (gE (ev C.gl s.fr) o.op) s.H) (c+8*i) o.op with
     | some (q,v,ids,x) =>
      bif fu o.guard&&ids.all (fun id=>bZ (gE (ev C.gl s.fr) o.op).mt id&&(iW s.H id&&fu (s.ht id))) then
       .bj q (jc C ops draw c rest (i+1) (s.app i o ⟨v,true,[],(c+8*i,some x)::ids.map (fun id=>(id,none)),[]⟩) ((gE (ev C.gl s.fr) o.op,⟨v,true,[],(c+8*i,some x)::ids.map (fun id=>(id,none)),[]⟩)::acc) k)
      else .bad "append"
     | none=>match bP C.P (ev C.gl s.fr) (vH (gE (ev C.gl s.fr) o.op) s.H) (c+8*i) o.op with
      | some (q,v,ob)=>Bt o.guard (s.G o.guard) q (jc C ops draw c rest (i+1) (s.app i o ⟨v,s.G o.guard,[],GS (c+8*i) ob,[]⟩) ((gE (ev C.gl s.fr) o.op,⟨v,s.G o.guard,[],GS (c+8*i) ob,[]⟩)::acc) k)
      | none=>match nJ C.P (ev C.gl s.fr) (vH (wQ (ev C.gl s.fr) o.op) s.H) o.op with
       | some (q,id,v)=>Bt o.guard (s.G o.guard) q (jc C ops draw c rest (i+1) (s.app i o ⟨v,s.G o.guard,[],[],[id]⟩) ((wQ (ev C.gl s.fr) o.op,⟨v,s.G o.guard,[],[],[id]⟩)::acc) k)
       | none=>.bad o.pos
  else .bad o.pos
theorem uM {P:Program} {gl:dG} {le:dH→dH→Prop} {γ:Tag} {g:Bool} {q:Rq} {t:Tree} (h:(Bt γ g q t).wp P gl le):(g=true→q.holds)∧t.wp P gl le:=by
 cases q with
 | no=>exact ⟨fun _=>trivial,h⟩
 | yes p =>
  cases γ with
  | none=>exact ⟨fun _=>h.1,h.2⟩
  | some x=>exact ⟨h.1,h.2⟩
theorem gI {γ:Tag} (h:fu γ=true):γ=none:=by cases γ with|none=>rfl|some x=>cases h
theorem sT {H:ec} {id:Nat} (h:iW H id=true):(H id).map Ob.mu=some true:=by grind [iW,id]
theorem EF {ids mt:List Nat} {H:ec} {id:Nat} (h:vH ⟨ids,[],mt⟩ H id≠none):bZ ids id=true:=by
 cases hm:bZ ids id with
 | true=>rfl
 | false=>exact absurd (by simp only [vH,hm,cond_false];rfl) h
theorem Av {C:tL} {le:dH→dH→Prop} {ops:Array Oper} {draw:Bool} {c:Nat} {k:dE→Tree}:∀ (l:List Oper) (i:Nat) (s:dE) (acc:List (ed×fA)),(jc C ops draw c l i s acc k).wp C.P C.gl le →
  lex C ops draw c l i s acc (fun s' acc'=>(draw=true→o6 ops acc'.reverse=true)∧(k s').wp C.P C.gl le):=by
 intro l
 induction l with
 | nil =>
  intro i s acc h
  simp only [jc] at h
  cases hd:(!draw||o6 ops acc.reverse) with
  | false=>simp only [hd,cond_false] at h;exact h.elim
  | true =>
   simp only [hd,cond_true] at h
   refine ⟨fun hdr=>?_,h⟩
   grind
 | cons o rest ih =>
  intro i s acc h
  simp only [jc] at h
  cases hok:qF C.nt ops s o with
  | false=>simp only [hok,cond_false] at h;exact h.elim
  | true =>
   simp only [hok,cond_true] at h
   refine ⟨hok,?_⟩
   cases hc:eD (ev C.gl s.fr) o.op with
   | some fa =>
    obtain ⟨fn,as⟩:=fa
    simp only [hc] at h
    cases hown:C.own fn with
    | some mask =>
     simp only [hown] at h
     generalize hgids:(alive s.H (cP s.H mask as)).filter (iW s.H)=gids at h
     generalize hall:alive s.H (as.flatMap (pr 9 s.H))=all at h
     cases hb:((fu o.guard || !draw)&&(jr gids&&gids.all (fun id=>fu (s.ht id)))) with
     | false=>simp only [hb,cond_false] at h;exact h.elim
     | true =>
      simp only [hb,cond_true] at h
      simp only [Bool.and_eq_true] at hb
      obtain ⟨hb1,hb2,hb3⟩:=hb
      have hmu:∀ id,id∈gids→(s.H id).map Ob.mu=some true:=fun id hid=>by
       rw [← hgids] at hid
       exact sT (List.mem_filter.1 hid).2
      cases hg:o.guard with
      | none =>
       rw [hg] at h
       simp only [brG] at h
       obtain ⟨r,obs',hG,hlen,h⟩:=h
       cases hb4:gids.all (fun id=>bZ all id) with
       | false=>simp only [hb4,cond_false] at h;exact h.elim
       | true =>
        simp only [hb4,cond_true] at h
        rw [Bool.and_eq_true,Nat.ble_eq,Nat.ble_eq] at hlen
        have eo:o.bare=o:=by cases o;simp only at hg;subst hg;rfl
        rw [eo] at h
        exact .inl ⟨_,_,.gv hg hc hb2 (fun id hid=>⟨List.all_eq_true.1 hb4 id hid,eZ.2 hid,hmu id hid,gI (List.all_eq_true.1 hb3 id hid)⟩) (fun id hv _=>EF hv) hlen hG,ih _ _ _ h⟩
      | some jb =>
       rw [hg] at h hb1
       have hd:draw=false:=by cases draw with|false=>rfl|true=>cases hb1
       refine .inr ⟨hd,fun hGt=>?_,fun hGf=>?_⟩
       ·obtain ⟨r,obs',hG,hlen,h⟩:=h.1 hGt
        cases hb4:gids.all (fun id=>bZ all id) with
        | false=>simp only [hb4,cond_false] at h;exact h.elim
        | true =>
         simp only [hb4,cond_true] at h
         rw [Bool.and_eq_true,Nat.ble_eq,Nat.ble_eq] at hlen
         exact ⟨_,_,⟨fn,as,gids,_,r,obs',hc,hb2,fun id hid=>⟨List.all_eq_true.1 hb4 id hid,eZ.2 hid,hmu id hid,gI (List.all_eq_true.1 hb3 id hid)⟩,fun id hv _=>EF hv,hlen,hG,rfl⟩,ih _ _ _ h⟩
       ·exact ⟨_,_,ih _ _ _ (h.2 hGf)⟩
    | none =>
     simp only [hown] at h
     cases hsc:scT C.P 9 o.type with
     | true =>
      simp only [hsc,cond_true] at h
      obtain ⟨r,h1,h2,h3⟩:=h
      exact .inl ⟨_,_,.sc hc h1 h2,ih _ _ _ h3⟩
     | false =>
      simp only [hsc,cond_false] at h
      obtain ⟨r,h1,h3⟩:=h
      exact .inl ⟨_,_,.dc _ (fun id hv=>EF hv) hc h1,ih _ _ _ h3⟩
   | none =>
    simp only [hc] at h
    cases he:rH C.P (ev C.gl s.fr) (vH (gE (ev C.gl s.fr) o.op) s.H) o.op with
    | some x =>
     obtain ⟨id,f'⟩:=x
     simp only [he] at h
     cases hb:(fu o.guard&&(bZ (gE (ev C.gl s.fr) o.op).mt id&&(iW s.H id&&fu (s.ht id)))) with
     | false=>simp only [hb,cond_false] at h;exact h.elim
     | true =>
      simp only [hb,cond_true] at h
      simp only [Bool.and_eq_true] at hb
      obtain ⟨hb1,hb2,hb3,hb4⟩:=hb
      exact .inl ⟨_,_,.st (gI hb1) he hb2 (sT hb3) (gI hb4),ih _ _ _ h⟩
    | none =>
     simp only [he] at h
     cases ha:rI C.P (ev C.gl s.fr) (vH (gE (ev C.gl s.fr) o.op) s.H) (c+8*i) o.op with
     | some x =>
      obtain ⟨q,v,ids,x⟩:=x
      simp only [ha] at h
      cases hb:(fu o.guard&&ids.all (fun id=>bZ (gE (ev C.gl s.fr) o.op).mt id&&(iW s.H id&&fu (s.ht id)))) with
      | false=>simp only [hb,cond_false] at h;exact h.elim
      | true =>
       simp only [hb,cond_true] at h
       rw [Bool.and_eq_true] at hb
       obtain ⟨hq,h⟩:=h
       refine .inl ⟨_,_,.ap (gI hb.1) ha hq (fun id hid=>?_),ih _ _ _ h⟩
       have:=List.all_eq_true.1 hb.2 id hid
       simp only [Bool.and_eq_true] at this
       exact ⟨this.1,sT this.2.1,gI this.2.2⟩
     | none =>
      simp only [ha] at h
      cases hm:bP C.P (ev C.gl s.fr) (vH (gE (ev C.gl s.fr) o.op) s.H) (c+8*i) o.op with
      | some x =>
       obtain ⟨q,v,ob⟩:=x
       simp only [hm] at h
       obtain ⟨h1,h2⟩:=uM h
       exact .inl ⟨_,_,.m hm h1,ih _ _ _ h2⟩
      | none =>
       simp only [hm] at h
       cases dD:nJ C.P (ev C.gl s.fr) (vH (wQ (ev C.gl s.fr) o.op) s.H) o.op with
       | some x =>
        obtain ⟨q,id,v⟩:=x
        simp only [dD] at h
        obtain ⟨h1,h2⟩:=uM h
        exact .inl ⟨_,_,.sl dD h1,ih _ _ _ h2⟩
       | none=>simp only [dD] at h;exact h.elim
def dH.sR (s:dH):dE:=⟨s.fr,fun _=>none,fun _=>none,s.H,fun _=>none⟩
def dE.EN (r:dE) (c:Nat):dH :=
 ⟨fun n=>match r.tg n with|none=>r.fr n|some _=>.bx,fun id=>match r.ht id with|none=>r.H id|some _=>none,c⟩
theorem gS.sR {K:Ctx} {β:bu} {s:dH} {a:Act} {w:World} (h:gS K β s a w) (ops:Array Oper):cy K ops s.c (fun _=>True) β s.sR a w :=
 ⟨⟨fun id o ho _=>h.heap id o ho,fun id o ho hg=>by grind [dH.sR,dE.G],h.inj,fun id hid=>h.fresh id (by omega),fun i k _ _=>h.fresh _ (by omega),h.live,h.yG,h.bF,h.hF,h.kept,h.hB,h.iU⟩,
   ⟨fun n=>⟨fun _=>h.slot n,fun hg=>by grind [dH.sR,dE.G]⟩,h.size,h.defers,fun j g b hj=>by grind [dH.sR],fun j o k b hj=>absurd rfl hj,fun n j b hn=>by grind [dH.sR],fun n j b hn=>by grind [dH.sR],fun _ _=>rfl⟩⟩
theorem cy.EN {K:Ctx} {ops:Array Oper} {c:Nat} {E:Nat→Prop} {β:bu} {r:dE} {a:Act} {w:World} (h:cy K ops c E β r a w):gS K β (r.EN (c+8*ops.size)) a w:=by
 refine ⟨fun n=>?_,h.f.size,h.f.defers,fun id o ho=>?_,h.h.inj,h.h.fresh,h.h.live,h.h.yG,h.h.bF,h.h.hF,h.h.kept,h.h.hB,h.h.iU⟩
 ·cases ht:r.tg n with
  | none=>simp only [dE.EN,ht];exact (h.f.slot n).1 (by rw [ht];rfl)
  | some x=>simp only [dE.EN,ht];exact .bx
 ·cases ht:r.ht id with
  | none=>simp only [dE.EN,ht] at ho;exact h.h.heap id o ho (by show r.G (r.ht id)=true;rw [ht];rfl)
  | some x=>grind [dE.EN]
def lU (ops:Array Oper):Bool :=
 (List.range ops.size).all fun j=>match ops[j]? with
  | some oj=>match oj.dst with
   | some d=>(List.range j).all fun i=>match ops[i]? with
    | some oi=>(match oi.dst with|some e => !Nat.beq d e|none=>true)
    | none=>true
   | none=>true
  | none=>true
theorem uy {ops:Array Oper} (h:lU ops=true):∀ (i j:Nat) (oi oj:Oper) (d:Tmp),ops[i]? = some oi→ops[j]? = some oj→oi.dst=some d→oj.dst=some d→i=j:=by
 have key:∀ (i j:Nat) (oi oj:Oper) (d:Tmp),i<j→ops[i]? = some oi→ops[j]? = some oj→oi.dst=some d→oj.dst=some d→False:=by
  intro i j oi oj d hij hi hj hdi hdj
  have hlt:j<ops.size:=(Array.getElem?_eq_some_iff.1 hj).1
  have h1:=List.all_eq_true.1 h j (List.mem_range.2 hlt)
  simp only [hj,hdj] at h1
  have h2:=List.all_eq_true.1 h1 i (List.mem_range.2 hij)
  simp_all
 grind
theorem kT {K:Ctx} {C:tL} {ops:Array Oper} {draw:Bool} {s:dH} {β:bu} {a:Act} {w:World} {k:dE→Tree} {le:dH→dH→Prop} {Q:Exit→Act→World→Prop} (hP:C.P=K.P) (fD:C.gl=K.gl) (ph:C.nt=K.nt)
  (hd:lU ops=true) (h:(jc C ops draw s.c ops.toList 0 s.sR [] k).wp C.P C.gl le) (hs:gS K β s a w)
  (hQ:∀ β r a w,cy K ops s.c (fun j=>ops.size≤j) β r a w→(k r).wp C.P C.gl le→Q .normal a w) :
  (draw=false→wpOps K.P ops Q (List.range ops.size) a w)∧(draw=true→wpAny K.P .any ops Q ops.size (Array.replicate ops.size false) a { w with drawn:=w.drawn+1 }):=by
 have hlex:=Av _ _ _ _ h
 have hone:sM ops:=uy hd
 cases draw with
 | false =>
  refine ⟨fun _=>?_,fun h=>by cases h⟩
  have:=JQ hP fD ph hone (Q:=Q) (fun β r acc a w hr hX=>hQ β r a w hr hX.2) ops.toList 0 s.sR [] β a w (by simp) (by simp) hlex ((hs.sR ops).qK fun _ _=>trivial)
  grind [List.range_eq_range']
 | true =>
  refine ⟨fun h=>(by cases h),fun _=>?_⟩
  obtain ⟨es,fs,h1,h2,h3⟩:=vJ ops.toList 0 s.sR [] (by simp) hlex
  have hr:∀ n,List.range' 0 n=List.range n:=fun n=>List.range_eq_range'.symm
  have hdo:o6 ops ((List.range ops.size).map fun j=>(fs j,es j))=true:=by grind
  have D:HC K C ops s.c es fs s.sR Q:=⟨hP,fD,ph,fun j oj hj=>(nW hdo hj).1,fun i j oi oj hij hi hj=>(nW hdo hj).2 i oi hij hi,
   fun j o ho=>by grind,hone,fun β a w hsim=>hQ β _ a w (by omega) (by grind)⟩
  have hs0:gS K β s a { w with drawn:=w.drawn+1 }:=by
   have hk:dF β w β { w with drawn:=w.drawn+1 }:=⟨fun _ o h=>⟨o,h,o.fh⟩,fun _ _ _=>rfl,fun _ _ h=>h,fun _ _ _ h=>h⟩
   exact ⟨fun n=>(hs.slot n).fO hk,hs.size,hs.defers,fun id o ho=>(hs.heap id o ho).imp (fun ⟨b,h1,h2⟩=>⟨b,h1,h2.fO hk rfl⟩) (fun h=>h),hs.inj,hs.fresh,hs.live,hs.yG,hs.bF,hs.hF,
    ⟨hs.kept.os,hs.kept.tape,hs.kept.output,hs.kept.size,hs.kept.block,hs.kept.shape,hs.kept.rZ⟩,hs.hB,fun g m h fD=>(hs.iU g m h fD).fO hk⟩
  have hl0:∀ j,bc (Array.replicate ops.size false) j=false:=by
   intro j
   simp only [bc,Array.getD_eq_getD_getElem?]
   grind
  have hf:(List.range ops.size).filter (bc (Array.replicate ops.size false))=[]:=List.filter_eq_nil_iff.2 (fun j _=>by grind)
  refine Iy D ops.size _ β a _ (by simp) (by grind) (fun i j hi=>?_) ?_
  ·simp_all
  ·rw [hf]
   exact (hs0.sR ops).qK fun _ _=>trivial
theorem zJ {K:Ctx} {C:tL} {ops:Array Oper} {id:Nat} {draw:Bool} {s:dH} {β:bu} {a:Act} {w:World} {k:dE→Tree} {le:dH→dH→Prop} {Q:Exit→Act→World→Prop} (hP:C.P=K.P) (fD:C.gl=K.gl) (ph:C.nt=K.nt)
  (hm:K.P.follows .mixedOrders=true) (hd:lU ops=true) (h:(jc C ops draw s.c ops.toList 0 s.sR [] k).wp C.P C.gl le) (hs:gS K β s a w)
  (hQ:∀ β r a w,cy K ops s.c (fun j=>ops.size≤j) β r a w→(k r).wp C.P C.gl le→Q .normal a w):(Code.region id ops draw).wp K.P Q a w:=by
 obtain ⟨h1,h2⟩:=kT hP fD ph hd h hs hQ
 cases draw with
 | false=>exact wp_region (h1 rfl)
 | true=>exact wp_region_any hm (h2 rfl)
def Le (ng:Nat) (s t:dH):Prop:=∀ K β a w,(∀ id,ng≤id→K.b0 id=none)→gS K β s a w→∃ β',gS K β' t a w
def sB (ops:Array Oper):Bool:=ops.toList.any fun o=>match o.op with|.mapUpdate .. => true|_=>false
def unr (body:(dH→Tree)→dH→Tree):List Bool→dH→Tree
 | [],_=>.bad "rounds"
 | _::l,s=>body (unr body l) s
def lp:Code→Bool
 | .loop _=>true
 | .seq x y=>lp x||lp y
 | .cond _ x y=>lp x||lp y
 | .block _ x=>lp x
 | _=>false
def rounds (C:tL) (x:Code):Option (List Bool):=match C.own 999999999 with
 | none=>none
 | some l=>match C.own 999999998 with
  | none=>some l
  | some _=>bif lp x then none else some l
def run (C:tL):Code→(n5→dH→Tree)→dH→Tree
 | .skip,k,s=>k .normal s
 | .label _,k,s=>k .normal s
 | .region id ops draw,k,s =>
  bif sB ops then .AG C.ng C.nt (.region id ops draw) s (fun s'=>k .normal s')
  else bif lU ops then jc C ops draw s.c ops.toList 0 s.sR [] (fun r=>k .normal (r.EN (s.c+8*ops.size))) else .bad "region"
 | .seq x y,k,s=>run C x (fun e s'=>match e with|.normal=>run C y k s'|.leave id=>k (.leave id) s'|.ret=>k .ret s') s
 | .cond c x y,k,s=>match ev C.gl s.fr c with
  | .bool b=>.br b (run C x k s) (run C y k s)
  | _=>.bad "cond"
 | .block id x,k,s=>run C x (fun e s'=>match e with|.normal=>k .normal s'|.leave j=>bif Nat.beq j id then k .normal s' else k (.leave j) s'|.ret=>k .ret s') s
 | .exit id,k,s=>k (.leave id) s
 | .ret,k,s=>k .ret s
 | .loop x,k,s=>match rounds C x with
  | some l=>unr (fun again s=>run C x (fun e s'=>match e with|.normal=>again s'|.leave id=>k (.leave id) s'|.ret=>k .ret s') s) l s
  | none=>.loop x s (fun S p=>run C x (fun e s'=>match e with|.normal=>.again s' p|.leave id=>k (.leave id) s'|.ret=>k .ret s') S)
 | .rangeFunc g ps x y,k,s=>.AG C.ng C.nt (.rangeFunc g ps x y) s (fun s'=>k .normal s')
 | _,_,_=>.bad "code"
def jo:Exit→Option n5
 | .normal=>some .normal
 | .exit id=>some (.leave id)
 | .ret=>some .ret
 | _=>none
def qV (K:Ctx) (C:tL) (k:n5→dH→Tree):Exit→Act→World→Prop:=fun e a w=>∃ β s ae,jo e=some ae∧gS K β s a w∧(k ae s).wp C.P C.gl (Le C.ng)
theorem AB {K:Ctx} {C:tL} (hP:C.P=K.P) (fD:C.gl=K.gl) (ph:C.nt=K.nt) (hng:∀ id,C.ng≤id→K.b0 id=none) (hqt:K.qt=false) (hm:K.P.follows .mixedOrders=true) (x:Code) :
  ∀ (k:n5→dH→Tree) (s:dH) (β:bu) (a:Act) (w:World),(run C x k s).wp C.P C.gl (Le C.ng)→gS K β s a w→x.wp K.P (qV K C k) a w:=by
 induction x with
 | skip=>intro k s β a w h hs;exact wp_skip ⟨β,s,.normal,rfl,hs,h⟩
 | label l=>intro k s β a w h hs;exact wp_label ⟨β,s,.normal,rfl,hs,h⟩
 | exit id=>intro k s β a w h hs;exact wp_exit ⟨β,s,.leave id,rfl,hs,h⟩
 | ret=>intro k s β a w h hs;exact wp_ret ⟨β,s,.ret,rfl,hs,h⟩
 | goto l=>intro k s β a w h hs;exact h.elim
 | scope b=>intro k s β a w h hs;exact h.elim
 | refuse w=>intro k s β a w h hs;exact h.elim
 | rangeFunc f p x y =>
  intro k s β a w h hs
  obtain ⟨s',ho,hk⟩:=h
  have:=ho K β a w hP.symm fD.symm ph.symm hng hqt (hP▸hm) hs
  rw [hP] at this
  refine wp_mono this ?_
  rintro e a' w' ⟨rfl,β',hs'⟩
  exact ⟨β',s',.normal,rfl,hs',hk⟩
 | region id ops draw =>
  intro k s β a w h hs
  simp only [run] at h
  cases hu:sB ops with
  | true =>
   simp only [hu,cond_true] at h
   obtain ⟨s',ho,hk⟩:=h
   have:=ho K β a w hP.symm fD.symm ph.symm hng hqt (hP▸hm) hs
   rw [hP] at this
   refine wp_mono this ?_
   rintro e a' w' ⟨rfl,β',hs'⟩
   exact ⟨β',s',.normal,rfl,hs',hk⟩
  | false =>
  simp only [hu,cond_false] at h
  cases hc:lU ops with
  | false=>simp only [hc,cond_false] at h;exact h.elim
  | true =>
   simp only [hc,cond_true] at h
   refine zJ hP fD ph hm hc h hs (fun β' r a' w' hr hX=>?_)
   exact ⟨β',_,.normal,rfl,hr.EN,hX⟩
 | seq x y ihx ihy =>
  intro k s β a w h hs
  refine wp_seq (wp_mono (ihx _ s β a w h hs) ?_)
  rintro e a' w' ⟨β',s',ae,he,hs',hk⟩
  cases e<;>simp only [jo,reduceCtorEq,Option.some.injEq] at he
  ·subst he;exact ihy k s' β' a' w' hk hs'
  ·subst he;exact ⟨β',s',_,rfl,hs',hk⟩
  ·subst he;exact ⟨β',s',_,rfl,hs',hk⟩
 | cond c x y ihx ihy =>
  intro k s β a w h hs
  simp only [run] at h
  split at h
  ·rename_i b hb
   have hrel:Rel β w (ev K.gl s.fr c) (a.eval c):=by
    have:=kt (hs.sR #[]) (x:=c) (fun t _=>rfl)
    exact this
   rw [← fD,hb] at hrel
   have hv:=ca hrel
   refine wp_cond_split hv (fun ht=>ihx k s β a w (h.1 ht) hs) (fun hf=>ihy k s β a w (h.2 hf) hs)
  ·exact h.elim
 | block id x ih =>
  intro k s β a w h hs
  refine wp_block (wp_mono (ih _ s β a w h hs) ?_)
  rintro e a' w' ⟨β',s',ae,he,hs',hk⟩
  cases e<;>simp only [jo,reduceCtorEq,Option.some.injEq] at he
  ·subst he;exact ⟨β',s',_,rfl,hs',hk⟩
  ·rename_i j
   subst he
   simp only [Exit.inBlock]
   by_cases e:j=id
   ·subst e
    rw [if_pos rfl]
    simp only [Nat.beq_refl,cond_true] at hk
    exact ⟨β',s',.normal,rfl,hs',hk⟩
   ·rw [if_neg e]
    have hb:Nat.beq j id=false:=by grind [Nat.beq,id,absurd,Nat.eq_of_beq_eq_true]
    simp only [hb,cond_false] at hk
    exact ⟨β',s',.leave j,rfl,hs',hk⟩
  ·subst he;exact ⟨β',s',_,rfl,hs',hk⟩
 | loop x ih =>
  intro k s β a w h hs
  simp only [run] at h
  cases hun:rounds C x with
  | some l =>
   simp only [hun] at h
   refine wp_loop_rounds l.length ?_
   clear hun
   induction l generalizing s β a w with
   | nil=>exact h.elim
   | cons b l ihl =>
    refine wp_mono (ih _ s β a w h hs) ?_
    rintro e a' w' ⟨β',s',ae,he,hs',hk⟩
    cases e<;>simp only [jo,reduceCtorEq,Option.some.injEq] at he
    ·subst he;exact ihl s' β' a' w' hs' hk
    ·subst he;exact ⟨β',s',_,rfl,hs',hk⟩
    ·subst he;exact ⟨β',s',_,rfl,hs',hk⟩
  | none =>
  simp only [hun] at h
  obtain ⟨ι,S,m,i0,hle,hround⟩:=h
  refine wp_loop_ghost (fun n a w=>∃ i β,m i=n∧gS K β (S i) a w) (m i0) ?_ ?_
  ·obtain ⟨β',hs'⟩:=hle K β a w hng hs
   grind
  ·rintro n a' w' ⟨i,β',rfl,hs'⟩
   refine wp_mono (ih _ (S i) β' a' w' (hround i) hs') ?_
   rintro e a'' w'' ⟨β2,s2,ae,he,hs2,hk⟩
   cases e<;>simp only [jo,reduceCtorEq,Option.some.injEq] at he
   ·subst he
    obtain ⟨i',hle',hlt⟩:=hk
    obtain ⟨β3,hs3⟩:=hle' K β2 a'' w'' hng hs2
    exact ⟨m i',hlt,i',β3,rfl,hs3⟩
   ·subst he;exact ⟨β2,s2,_,rfl,hs2,hk⟩
   ·subst he;exact ⟨β2,s2,_,rfl,hs2,hk⟩
def ta (P:Program) (s:dH):ResultVar→Option AV
 | .tmp t=>some (s.fr t)
 | .cell a t=>match s.fr a with
  | .own id es i j m=>match s.H id with
   | some o=>bif Nat.beq o.es es then p5 P t m (fun k=>o.f i (j+k)) else none
   | none=>none
  | _=>none
def qi (P:Program) (s:dH):List ResultVar→Option (List AV)
 | []=>some []
 | x::xs=>match ta P s x,qi P s xs with
  | some v,some vs=>some (v::vs)
  | _,_=>none
def IF (P:Program) (fn:Func) (s:dH):Option AV :=
 match qi P s fn.results.toList with
 | some [v]=>some v
 | some vs=>some (.aX vs)
 | none=>none
def pE (tmps:Array Value):ResultVar→Sem Value
 | .tmp t=>pure (tmps.getD t undef)
 | .cell a t=>do loadVar t (← asAddr (tmps.getD a undef))
theorem o3 (fn:Func) (tmps:Array Value):results fn tmps=(do let vs ← fn.results.mapM (pE tmps);pure (if h:vs.size=1 then vs[0] else .tuple vs)):=by
 rfl
theorem gS.ok {K:Ctx} {β:bu} {s:dH} {a:Act} {w:World} (hs:gS K β s a w):cT β w s.H:=fun id ob hid _=>by
 rcases hs.heap id ob hid with ⟨b,h1,h2⟩|h
 ·grind
 grind
theorem zF {K:Ctx} {β:bu} {s:dH} {a:Act} {w:World} (hs:gS K β s a w) {x:ResultVar} {v:AV} (h:ta K.P s x=some v) :
  ∃ u,(pE a.tmps x).run K.P w=.ok u w∧Rel β w v u:=by
 have hH:=hs.ok
 cases x with
 | tmp t=>simp only [ta,Option.some.injEq] at h;subst h;exact ⟨_,rfl,hs.slot t⟩
 | cell b t =>
  simp only [ta] at h
  split at h
  ·rename_i id es i j m hb
   split at h
   ·rename_i o ho
    obtain ⟨hc,h⟩:=bB h
    have dD:=hs.slot b
    rw [hb] at dD
    obtain ⟨bl,bC,hu,hcell,hr,_⟩:=ny hH dD ho (Nat.eq_of_beq_eq_true hc)
    obtain ⟨u,hl,hur⟩:=mv bC hcell hr h
    grind [pE,asAddr]
   grind
  grind
theorem qG {K:Ctx} {β:bu} {s:dH} {a:Act} {w:World} (hs:gS K β s a w) (xs:List ResultVar):∀ {vs:List AV},qi K.P s xs=some vs →
  ∃ us:List Value,(xs.mapM (pE a.tmps):Sem (List Value)).run K.P w=.ok us w∧eR β w vs us.toArray:=by
 induction xs with
 | nil=>intro vs h;simp [qi] at h;subst h;exact ⟨[],rfl,rfl,by simp⟩
 | cons x xs ih =>
  intro vs h
  simp only [qi] at h
  split at h
  ·rename_i v vs' h1 h2
   cases h
   obtain ⟨u,hu,hr⟩:=zF hs h1
   obtain ⟨us,hus,hrs⟩:=ih h2
   refine ⟨u::us,?_,?_⟩
   ·simp_all
   ·refine ⟨by have:=hrs.len;grind,fun j p q hp hq=>?_⟩
    cases j with
    | zero=>grind
    | succ j=>exact hrs.rel j p q (by grind) (by grind)
  grind
theorem Kj {K:Ctx} {β:bu} {s:dH} {a:Act} {w:World} {fn:Func} (hs:gS K β s a w) {v:AV} (h:IF K.P fn s=some v):∃ u,(results fn a.tmps).run K.P w=.ok u w∧Rel β w v u:=by
 unfold IF at h
 have hmap:∀ us:List Value,(fn.results.toList.mapM (pE a.tmps):Sem (List Value)).run K.P w=.ok us w →
   (results fn a.tmps).run K.P w=.ok (if h:us.toArray.size=1 then us.toArray[0] else .tuple us.toArray) w:=by grind [o3,Array.mapM_eq_mapM_toList,Sem.run_bind,Sem.run_map,Result.andThen_ok,Sem.run_pure]
 split at h
 ·rename_i x hx
  cases h
  obtain ⟨us,hus,hr⟩:=qG hs _ hx
  have hl:=hr.len
  match us,hus,hr,hl with
  | [u],hus,hr,_=>exact ⟨u,by grind,hr.rel 0 _ _ rfl rfl⟩
 ·rename_i vs hx hvs
  cases h
  obtain ⟨us,hus,hr⟩:=qG hs _ hvs
  refine ⟨.tuple us.toArray,?_,.aX hr.len hr.rel⟩
  rw [hmap _ hus,dif_neg]
  intro h1
  have hl:=hr.len
  rw [h1] at hl
  match vs,hl,hx with
  | [x],_,hx=>grind
 grind
def kp (ng:Nat) (hand:Bool) (ags:List AV) (H:ec) (v:AV):List Nat :=
 List.range ng++(bif hand then (alive H (pr 9 H v++ags.flatMap (pr 9 H))).filter (fun id=>Nat.ble ng id&&iW H id) else [])
def vo (P:Program) (fn:Func) (ng:Nat) (hand:Bool) (ags:List AV) (s:dH):Option (AV×List (Option Ob)) :=
 match IF P fn s with
 | some v=>bif jr (kp ng hand ags s.H v) then
   some (mapA (gA (kp ng hand ags s.H v) 0) 9 (eQ (kp ng hand ags s.H v) s.H) v,(kp ng hand ags s.H v).map fun id=>(s.H id).map (wh (gA (kp ng hand ags s.H v) 0) (eQ (kp ng hand ags s.H v) s.H)))
  else none
 | none=>none
def KG (P:Program) (fn:Func) (ng:Nat) (hand:Bool) (ags:List AV) (r:AV) (obs':List (Option Ob)):n5→dH→Tree
 | .normal,s=>.out (vo P fn ng hand ags s) r obs'
 | .ret,s=>.out (vo P fn ng hand ags s) r obs'
 | .leave _,_=>.bad "leave"
def entry (args:List AV) (obs:List Ob):dH:=⟨fun n=>args.getD n .bx,fun id=>obs[id]?,obs.length⟩
inductive NM : AV → Prop where
  | int {k : IntKind} {n : Int} : NM (.int k n)
  | bool {b : Bool} : NM (.bool b)
  | str {s : ByteArray} : NM (.str s)
  | bn : NM .bn
  | pq : NM .pq
  | raw {v : Value} : NM (.raw v)
  | own {id es i j m : Nat} : NM (.own id es i j m)
  | ba {id es i len : Nat} : NM (.ba id es i len)
  | l8 {id es i base len k : Nat} : NM (.l8 id es i base len k)
  | aH {es n : Nat} {f : Nat → Nat → AV} (h : ∀ i j, i < n → j < es → NM (f i j)) : NM (.aH es n f)
  | bJ {m : Nat} {g : Nat → AV} (h : ∀ j, j < m → NM (g j)) : NM (.bJ m g)
  | agg {cs : List AV} (h : ∀ u, u ∈ cs → NM u) : NM (.agg cs)
  | aX {cs : List AV} (h : ∀ u, u ∈ cs → NM u) : NM (.aX cs)
  | fn {f : Fn} {fs cs : List AV} (h : ∀ u, u ∈ fs → NM u) (h' : ∀ u, u ∈ cs → NM u) : NM (.fn f fs cs)
  | lW {t : TypeId} {v : AV} (h : NM v) : NM (.lW t v)
  | nn {v : AV} (h : NM v) : NM (.nn v)
  | bx : NM .bx
def lM (w w':World) (p:Prop):Prop:=(∀ (b:Nat) (es:Array MapEntry) (z:Nat),w.heap[b]? = some (.map es z)→w'.heap[b]? = some (.map es z))∨p
theorem lM.mono {w w':World} {p q:Prop} (h:lM w w' p) (k:p→q):lM w w' q:=h.imp (fun h=>h) k
theorem Rel.same {β:bu} {w w':World} (hc:∀ (b:Nat) (cs:Array Value) (el:TypeId) (z:Nat×Nat),w.heap[b]? = some (.cells cs el z)→w'.heap[b]? = some (.cells cs el z)) {a:AV} {v:Value} (hx:lM w w' (NM a)) (h:Rel β w a v):Rel β w' a v:=by
 have cell:∀ (p:Addr) v,w.cell? p=some v→w'.cell? p=some v:=fun p v hp=>by grind [World.cell?]
 have shp:∀ b el sz,w.shape? b=some (el,sz)→w'.shape? b=some (el,sz):=fun b el sz hp=>by grind [World.shape?]
 induction h with
 | int=>exact .int
 | bool=>exact .bool
 | str=>exact .str
 | bn=>exact .bn
 | pq=>exact .pq
 | raw h=>exact .raw h
 | own h hi hj=>exact .own h hi hj
 | kD h=>exact .kD h
 | l8 h hi hk hl=>exact .l8 h hi hk hl
 | lQ h=>exact .lQ h
 | ba h hn hc' hs hz=>exact .ba h hn hc' (shp _ _ _ hs) hz
 | jC h=>exact .jC h
 | lD h=>exact .lD h
 | aH bC he hcap hb hcc ho hr hcl ih=>exact .aH bC he hcap hb (fun i j hi hj=>cell _ _ (hcc i j hi hj)) ho (fun i j hi hj=>ih i j hi hj (hx.mono fun h=>by cases h<;>grind)) hcl
 | gU h=>exact .gU h
 | bJ bC hm hb hcc ho hr hcl ih=>exact .bJ bC hm hb (fun j hj=>cell _ _ (hcc j hj)) ho (fun j hj=>ih j hj (hx.mono fun h=>by cases h<;>grind)) hcl
 | agg hl _ ih=>exact .agg hl (fun j u v hu hv=>ih j u v hu hv (hx.mono fun h=>by cases h<;>grind))
 | aX hl _ ih=>exact .aX hl (fun j u v hu hv=>ih j u v hu hv (hx.mono fun h=>by cases h<;>grind))
 | fn hl _ hl' _ ih ih'=>exact .fn hl (fun j u v hu hv=>ih j u v hu hv (hx.mono fun h=>by cases h<;>grind)) hl' (fun j u v hu hv=>ih' j u v hu hv (hx.mono fun h=>by cases h<;>grind))
 | lW _ ih=>exact .lW (ih (hx.mono fun h=>by cases h<;>grind))
 | nn _ ih=>exact .nn (ih (hx.mono fun h=>by cases h<;>grind))
 | p4 hb hs =>
  rcases hx with hx|hx
  ·obtain ⟨es,z,he⟩:=hs.map
   exact .p4 hb (hs.fO ((hx _ _ _ he).trans he.symm))
  ·cases hx
 | bx=>exact .bx
theorem gT.same {β:bu} {w w':World} (hc:∀ (b:Nat) (cs:Array Value) (el:TypeId) (z:Nat×Nat),w.heap[b]? = some (.cells cs el z)→w'.heap[b]? = some (.cells cs el z)) {o:Ob} {id:Nat} (hx:lM w w' (∀ i j,i<o.n→j<o.es→NM (o.f i j))) (h:gT β w o id):gT β w' o id:=by
 rcases h with ⟨b,h1,cs,el,h2,h3,h4⟩|h
 ·exact .inl ⟨b,h1,cs,el,hc _ _ _ _ h2,h3,fun i j hi hj=>let ⟨v,g1,g2,g3⟩:=h4 i j hi hj;⟨v,g1,g2.same hc (hx.mono fun h=>h i j hi hj),g3⟩⟩
 ·exact .inr h
def NMS (s:dH):Prop:=(∀ n,NM (s.fr n))∧∀ id o,s.H id=some o→∀ i j,i<o.n→j<o.es→NM (o.f i j)
def NMG (gl:dG):Prop:=∀ g m h,gl g=some (m,h)→NM (.bJ m h)
theorem gn.same {β:bu} {w w':World} (hc:∀ (b:Nat) (cs:Array Value) (el:TypeId) (z:Nat×Nat),w.heap[b]? = some (.cells cs el z)→w'.heap[b]? = some (.cells cs el z)) {g m:Nat} {f:Nat→AV} (hx:lM w w' (NM (.bJ m f))) (h:gn β w g m f):gn β w' g m f:=by
 refine ⟨h.rel.same hc hx,?_⟩
 obtain ⟨el,e⟩:=h.size
 grind [World.shape?]
theorem gS.same {K:Ctx} {β:bu} {s:dH} {a a':Act} {w w':World} (hs:gS K β s a w) (hc:∀ (b:Nat) (cs:Array Value) (el:TypeId) (z:Nat×Nat),w.heap[b]? = some (.cells cs el z)→w'.heap[b]? = some (.cells cs el z)) (hsz:w.heap.size≤w'.heap.size)
  (hx:lM w w' (NMS s∧NMG K.gl)) (hk:Kept K.B K.G K.w0 w') (ht:a'.tmps=a.tmps) (hd:Marks K a'.defers w'):gS K β s a' w' :=
 ⟨fun n=>by rw [ht];exact (hs.slot n).same hc (hx.mono fun h=>h.1.1 n),by rw [ht];exact hs.size,hd,fun id o ho=>(hs.heap id o ho).same hc (hx.mono fun h=>h.1.2 id o ho),hs.inj,hs.fresh,fun id b n mu h=>⟨(hs.live id b n mu h).1,Nat.lt_of_lt_of_le (hs.live id b n mu h).2 hsz⟩,
  hs.yG,hs.bF,hs.hF,hk,Nat.le_trans hs.hB hsz,fun g m h fD=>(hs.iU g m h fD).same hc (hx.mono fun h'=>h'.2 g m h fD)⟩
theorem mw {F:Fence} {n:Nat} {K:Ctx} {β:bu} {s:dH} {fn:Func} {R:Ending→World→Prop}:∀ (Ds:List Nat) (a:Act) (w:World),Ds.Nodup→(∀ D,D∈Ds→K.B≤D∧K.w0.heap.size≤D∧w.heap[D]? = some (.deferred (some []))) →
  gS K β s { a with defers:=[] } w→(∀ w',gS K β s { a with defers:=[] } w'→LeavesInM F n K.P fn a.tmps R [] .returning w') →
  LeavesInM F n K.P fn a.tmps R (Ds.map fun D=>{ target:=.collected D,args := #[] }) .returning w
 | [],a,w,_,_,hs,h=>h w hs
 | D::Ds,a,w,hn,hD,hs,h=>by
  obtain ⟨h1,h2,h3⟩:=hD D (List.mem_cons_self ..)
  rw [List.nodup_cons] at hn
  refine ⟨by simp,.inl ⟨D,_,rfl,run_takeDeferred h3,mw Ds a _ hn.2 (fun D' hD'=>?_) (hs.same (fun b cs el z hb=>?_) (by simp) (.inl fun b es z hb=>(World.putObj_heap_other (fun e=>by grind)).trans hb) ?_ rfl (Marks.nil _ _)) h⟩⟩
  ·grind [List.mem_cons_of_mem,World.putObj_heap_other,trans]
  ·grind [World.putObj_heap_other,trans]
  ·refine ⟨hs.kept.os,hs.kept.tape,hs.kept.output,Nat.le_trans hs.kept.size (by simp),fun k hk hg=>?_,fun k hk=>?_,fun k o hk ho=>?_⟩
   ·exact (World.putObj_heap_other (by omega)).trans (hs.kept.block k hk hg)
   ·rw [cK (World.putObj_heap_other (by omega):(w.putObj D _).heap[k]? = w.heap[k]?)];exact hs.kept.shape k hk
   ·have:=(Array.getElem?_eq_some_iff.1 hk).1
    exact (World.putObj_heap_other (by omega)).trans (hs.kept.rZ k o hk ho)
theorem EI {P:Program} {gl:dG} {own:FuncId→Option (List Bool)} {hand:Bool} {f:FuncId} {fn:Func} {code:Code} {obs:List Ob} {args:List AV} {r:AV} {obs':List (Option Ob)} (hf:P.funcs[f]? = some fn) (hb:fn.body=some code) (hname:(fn.name == "runtime.NumGoroutine")=false)
  (hn:Nat.ble args.length fn.ntmps=true)
  (hrun:∀ (K:Ctx) (β:bu) (a:Act) (w:World),K.P=P→K.gl=gl→K.nt=fn.ntmps→(∀ id,obs.length≤id→K.b0 id=none)→K.qt=false→K.B=K.w0.heap.size→gS K β (entry args obs) a w→code.wp P (qV K ⟨P,gl,fn.ntmps,own,obs.length⟩ (KG P fn obs.length hand args r obs')) a w):bI P gl f obs args r obs':=by
 rw [Nat.ble_eq] at hn
 refine ⟨⟨fn,code,hf,hb,hname⟩,fun β w vs hF hgiv fD hargs=>?_⟩
 refine callsIn_wide.1 (callsIn_of_wp_marks (n:=0) hf hb trivial (wpIn_wide.2 ?_) rfl)
 let K:Ctx:=⟨P,gl,w.heap.size,w,fn.ntmps,β.F,pW β,β.m,false⟩
 have hl:=hargs.len
 have hs:gS K β (entry args obs) { tmps:=vs++Array.replicate (fn.ntmps - vs.size) undef,defers:=[] } w:=by
  refine ⟨fun n=>?_,(by grind),Marks.nil _ _,fun id o ho=>hgiv.holds id o ho,hgiv.inj,fun id hid=>hgiv.none id hid,
   fun id b n mu h=>⟨.inr ⟨id,n,mu,h⟩,(hgiv.lt id b n mu h).1⟩,fun id o ho=>⟨o,ho,o.fh⟩,rfl,fun b hb=>⟨hF b hb,fun ⟨k,n,mu,h⟩=>(hgiv.lt k b n mu h).2 hb⟩,Kept.refl _ _ _,Nat.le_refl _,fD⟩
  show Rel _ _ (args.getD n .bx) _
  rw [Array.getD_eq_getD_getElem?,List.getD_eq_getElem?_getD]
  by_cases hlt:n<args.length
  ·rw [Array.getElem?_append_left (by omega)]
   have h1:args[n]? = some args[n]:=by simp
   obtain ⟨x,hx,hr⟩:=hargs.at h1
   grind
  ·rw [List.getElem?_eq_none (by omega)]
   exact .bx
 refine wp_mono (hrun K β _ _ rfl rfl rfl (fun id hid=>hgiv.none id hid) rfl rfl hs) ?_
 have fin:∀ (β1:bu) (s:dH) (a:Act) (w':World),gS K β1 s a w'→(∃ x os,vo P fn obs.length hand args s=some (x,os)∧ay os x r∧eM os os obs') →
   ∃ v,(results fn a.tmps).run P w'=.ok v w'∧∃ v' β',Ending.returned v=Ending.returned v'∧Kept w.heap.size (pW β) w w'∧CO β β' w w' obs'∧Rel β' w' r v':=by
  rintro β1 s a w' hs' ⟨x,os,hx,hent,hobs⟩
  unfold vo at hx
  split at hx
  rotate_left
  ·grind
  rename_i v hv
  obtain ⟨hnd,hx⟩:=bB hx
  simp only [Option.some.injEq,Prod.mk.injEq] at hx
  obtain ⟨hx1,hx2⟩:=hx
  generalize hids:kp obs.length hand args s.H v=ids at hnd hx1 hx2
  obtain ⟨u,hu,hr⟩:=Kj hs' hv
  have hpre:∀ k,k<obs.length→ids[k]? = some k:=fun k hk=>by grind [kp,List.getElem?_append_left,List.getElem?_range]
  have hlen:obs.length≤ids.length:=by grind
  have hnd':=kO hnd
  let bm:Nat→Option Own:=fun k=>match ids[k]? with|some id=>β1.m id|none=>none
  let β':bu:=⟨bm,β1.F⟩
  have bm_some:∀ {k o},bm k=some o→∃ id,ids[k]? = some id∧β1.m id=some o:=by grind
  have bm_at:∀ {k id},ids[k]? = some id→bm k=β1.m id:=fun {k id} h=>by grind
  have hHr:cT β1 w' (eQ ids s.H):=by
   intro id ob hid hne
   unfold eQ at hid
   cases hmem:bZ ids id with
   | true=>grind
   | false=>simp only [hmem,cond_false] at hid;exact hs'.ok id ob hid hne
  have h1:∀ id k,gA ids 0 id=some k→β1.m id≠none→β'.m k=β1.m id:=fun id k h _=>by
   obtain ⟨_,h2⟩:=lT h
   grind
  have h2:∀ b,β1.free b→β'.free b:=fun b hf=>⟨hf.1,fun k n h=>by
   obtain ⟨id,_,hm'⟩:=bm_some h
   exact hf.2 id n hm'⟩
  have h3:∀ id ob b n mu,eQ ids s.H id=some ob→β1.m id=some (.bz b n mu)→β'.free b:=by
   intro id ob b n mu ho hm'
   unfold eQ at ho
   cases hmem:bZ ids id with
   | true=>grind
   | false =>
    refine ⟨fun hF'=>?_,fun k n' h=>?_⟩
    ·have hF2:β1.F b:=hF'
     rw [hs'.bF] at hF2
     obtain ⟨g1,g2⟩:=hs'.hF b hF2
     rcases (hs'.live id b n mu hm').1 with h|h
     ·omega
     grind
    ·obtain ⟨id',hk,hm2⟩:=bm_some h
     have:=hs'.inj id' id b n' n _ mu hm2 hm'
     grind [eZ,List.mem_of_getElem?]
  obtain ⟨hl1,hobs'⟩:=hobs.spec
  have hHas:Has os β':=fun k o hk=>by
   rw [← hx2,List.getElem?_map] at hk
   cases hik:ids[k]? with
   | none=>grind
   | some id =>
    simp only [hik,Option.map_some,Option.some.injEq,Option.map_eq_some_iff] at hk
    obtain ⟨o0,g3,_⟩:=hk
    show bm k≠none
    rw [bm_at hik]
    rcases hs'.heap id o0 g3 with ⟨b,g,_⟩|⟨g,_⟩<;>(grind)
  refine ⟨u,hu,u,β',rfl,hs'.kept,⟨?_,fun k ob hk=>?_,fun k hk=>?_,fun p q b n n' mu mu' e1 e2=>?_,fun k b n mu h=>?_,fun k o ho=>?_⟩,hent _ _ _ hHas ?_⟩
  ·exact hs'.bF
  ·obtain ⟨o1,g1,g2⟩:=hobs' k ob hk
   rw [← hx2,List.getElem?_map] at g1
   cases hik:ids[k]? with
   | none=>grind
   | some id =>
    simp only [hik,Option.map_some,Option.some.injEq,Option.map_eq_some_iff] at g1
    obtain ⟨o0,g3,rfl⟩:=g1
    have hh:=jP (β':=β') hHr h1 h2 h3 (bm_at hik) (hs'.heap id o0 g3)
    have e1:=g2.es;have e2:=g2.n;have e3:=g2.mu;have e4:=g2.f
    rcases hh with ⟨b,k1,cs,el,k2,k3,k4⟩|⟨k1,k2⟩
    ·refine .inl ⟨b,by grind,cs,el,k2,k3.tM g2,fun i j hi hj=>?_⟩
     rw [← e2] at hi
     rw [← e1] at hj ⊢
     obtain ⟨vv,j1,j2,j3⟩:=k4 i j hi hj
     exact ⟨vv,j1,e4 i j hi hj _ _ _ hHas j2,j3⟩
    ·exact .inr ⟨k1,by omega⟩
  ·grind
  ·obtain ⟨x1,g1,g2⟩:=bm_some e1
   obtain ⟨y1,g3,g4⟩:=bm_some e2
   have:=hs'.inj x1 y1 b n n' mu mu' g2 g4
   grind
  ·obtain ⟨id,g1,g2⟩:=bm_some h
   have:=hs'.live id b n mu g2
   grind
  ·have hk:k<obs.length:=Nat.lt_of_not_le fun h=>by rw [hgiv.none k h] at ho;grind
   obtain ⟨o',g1,g2⟩:=hs'.yG k o ho
   grind
  grind [kK]
 have out:∀ (β1:bu) (s:dH) (a:Act) (w':World),gS K β1 s a w'→(∃ x os,vo P fn obs.length hand args s=some (x,os)∧ay os x r∧eM os os obs') →
   LeavesInM Fence.wide 0 P fn a.tmps (fun e w'=>∃ v β',e=.returned v∧Kept w.heap.size (pW β) w w'∧CO β β' w w' obs'∧Rel β' w' r v) a.defers .returning w':=by
  intro β1 s a w' hs' hk
  obtain ⟨Ds,h1,h2,_,h3⟩:=hs'.defers
  rw [h1]
  refine mw (K:=K) (β:=β1) (s:=s) Ds a w' h2 h3 (hs'.same (fun _ _ _ _ h=>h) (Nat.le_refl _) (.inl fun _ _ _ h=>h) hs'.kept rfl (Marks.nil _ _)) (fun w2 hs2=>?_)
  obtain ⟨v,hv,h⟩:=fin β1 s _ w2 hs2 hk
  exact ⟨v,hv,h⟩
 rintro e a w' ⟨β1,s,ae,he,hs',hk⟩
 cases e<;>simp only [jo,reduceCtorEq,Option.some.injEq] at he
 ·subst he;exact out β1 s a w' hs' hk
 ·subst he;exact hk.elim
 ·subst he;exact out β1 s a w' hs' hk
theorem Ef {P:Program} {gl:dG} {own:FuncId→Option (List Bool)} {hand:Bool} {f:FuncId} {fn:Func} {code:Code} {obs:List Ob} {args:List AV} {r:AV} {obs':List (Option Ob)} (hf:P.funcs[f]? = some fn) (hb:fn.body=some code) (hname:(fn.name == "runtime.NumGoroutine")=false)
  (hm:P.follows .mixedOrders=true) (hn:Nat.ble args.length fn.ntmps=true) (hwp:(run ⟨P,gl,fn.ntmps,own,obs.length⟩ code (KG P fn obs.length hand args r obs') (entry args obs)).wp P gl (Le obs.length)):bI P gl f obs args r obs' :=
 EI (own:=own) hf hb hname hn fun _ _ _ _ hP fD ph hng hqt _ hs=>hP▸AB (C:=⟨P,gl,fn.ntmps,own,obs.length⟩) hP.symm fD.symm ph.symm hng hqt (hP.symm▸hm) code _ _ _ _ _ hwp hs
end Go.Am

namespace Go.Am
open Go.IntKind (wrap)
open Int (toNat)
section
variable {x y : Bool} {p q : Prop}
theorem aB:x=true→x=true:=id
theorem aF:x=false→x=false:=id
theorem ah (f:x=true→p) (g:y=true→q) (h:(x&&y)=true):p∧q:=by grind
theorem ao (f:x=false→p) (g:y=false→q) (h:(x&&y)=false):p∨q:=by grind
theorem aA (f:x=true→p) (g:y=true→q) (h:(x||y)=true):p∨q:=by grind
theorem aw (f:x=false→p) (g:y=false→q) (h:(x||y)=false):p∧q:=by grind
theorem aC (f:x=false→p) (h:(!x)=true):p:=by grind
theorem az (f:x=true→p) (h:(!x)=false):p:=by grind
theorem cQ (f:x=true→p) (h:(x==true)=true):p:=by grind
theorem dd (f:x=false→p) (h:(x==false)=true):p:=by grind
theorem z6 (f:x=true→p) (h:(x==false)=false):p:=by grind
theorem af {i:Decidable p} (h:@decide p i=true):p:=of_decide_eq_true h
theorem aa {i:Decidable p} (h:@decide p i=false):¬p:=of_decide_eq_false h
theorem ai {a b:Int} (h:(a==b)=true):a=b:=by grind
theorem aj {a b:Int} (h:(a==b)=false):¬a=b:=by grind
theorem aU {a b:Int} (h:(a != b)=true):¬a=b:=by grind
theorem aR {a b:Int} (h:(a != b)=false):a=b:=by grind
end
def cV (os:List (Option Ob)):List AV→List AV→Prop
 | [],[]=>True
 | a::l,b::l'=>ay os a b∧cV os l l'
 | _,_=>False
theorem cV.spec {os:List (Option Ob)}:∀ {l l':List AV},cV os l l'→l.length=l'.length∧∀ (k:Nat) a b,l[k]? = some a→l'[k]? = some b→ay os a b
 | [],[],_=>⟨rfl,fun k a b h=>by simp⟩
 | x::l,y::l',h=>by
  obtain ⟨h1,h2⟩:=cV.spec h.2
  refine ⟨by simp [h1],fun k a b ha hb=>?_⟩
  cases k with
  | zero=>simp at ha hb;subst ha;subst hb;exact h.1
  | succ k=>simp at ha hb;exact h2 k a b ha hb
 | [],_::_,h=>h.elim
 | _::_,[],h=>h.elim
def i6:List Nat→List AV→Nat→AV
 | n::ns,v::vs,k=>bif Nat.beq n k then v else i6 ns vs k
 | _,_,_=>.bx
def aY (ns:List Nat) (vs:List AV) (obs:List (Option Ob)):dH:=⟨i6 ns vs,fun id=>obs.getD id none,obs.length⟩
def pN (s:dH) (ns π:List Nat):List AV:=ns.map fun n=>mapA (gA π 0) 9 (eQ π s.H) (s.fr n)
def AA (s:dH) (π:List Nat):List (Option Ob):=π.map fun id=>match s.H id with
 | some o=>some (wh (gA π 0) (eQ π s.H) o)
 | none=>bif Nat.ble s.c id && !Nat.blt (id - s.c) 256 then some ⟨(id - s.c) / 256,0,true,.ty nf (.bc [])⟩ else none
def oP (ng c:Nat) (π:List Nat):Bool:=jr π&&(List.range ng).all fun k=>match π[k]? with|some id=>Nat.beq id k||(Nat.ble c id&&Nat.blt (id - c) 256)|none=>false
structure oX (ng : Nat) (s : dH) (ns π : List Nat) (bC : List AV) (os : List (Option Ob)) : Prop where
  ok : oP ng s.c π = true
  bC : pN s ns π = bC
  os : AA s π = os
theorem nT (β:bu) (w:World) (s:dH) (g:AV→AV) (val:Nat→Value) (os:List (Option Ob)) (hh:Has os β):∀ (ns:List Nat) (vs:List AV),(∀ (k n:Nat) v,ns[k]? = some n→vs[k]? = some v→ay os (g (s.fr n)) v)→(∀ n,Rel β w (g (s.fr n)) (val n))→∀ n,Rel β w (i6 ns vs n) (val n)
 | [],_,_,_,_=>.bx
 | _::_,[],_,_,_=>.bx
 | m::ns,v::vs,h,hr,n=>by
  simp only [i6]
  cases hb:Nat.beq m n with
  | true =>
   have:=Nat.eq_of_beq_eq_true hb
   subst this
   exact h 0 m v rfl rfl _ _ _ hh (hr m)
  | false=>exact nT β w s g val os hh ns vs (fun k n v hn hv=>h (k+1) n v (by grind) (by grind)) hr n
theorem oX.le0 {ng:Nat} {s:dH} {ns π:List Nat} {bC vs:List AV} {os obs:List (Option Ob)} (h:oX ng s ns π bC os) (hv:cV os bC vs) (ho:eM os os obs):Le ng s (aY ns vs obs):=by
 intro K β a w hng hs
 obtain ⟨hok,hvals,hos⟩:=h
 unfold oP at hok
 rw [Bool.and_eq_true] at hok
 obtain ⟨hnd,hpre⟩:=hok
 have hnd':=kO hnd
 have hpre':∀ k,k<ng→π[k]? = some k∨∃ id,π[k]? = some id∧(Nat.ble s.c id&&Nat.blt (id - s.c) 256)=true:=fun k hk=>by
  have:=List.all_eq_true.1 hpre k (List.mem_range.2 hk)
  cases hp:π[k]? with
  | none=>grind
  | some id =>
   simp only [hp] at this
   rw [Bool.or_eq_true] at this
   rcases this with h|h
   ·grind [Nat.eq_of_beq_eq_true]
   grind
 obtain ⟨hl1,hv'⟩:=hv.spec
 obtain ⟨hl2,ho'⟩:=ho.spec
 have hlo:os.length=π.length:=by grind [AA]
 let bm:Nat→Option Own:=fun k=>match π[k]? with|some id=>bif Nat.ble s.c id then (bif Nat.blt (id - s.c) 256 then some .dead else some .empty) else β.m id|none=>none
 let β':bu:=⟨bm,β.F⟩
 have bm_lives:∀ {k b n mu},bm k=some (.bz b n mu)→∃ id,π[k]? = some id∧β.m id=some (.bz b n mu):=by grind
 have old:∀ {id},β.m id≠none→Nat.ble s.c id=false:=fun {id} hn=>by
  cases hc:Nat.ble s.c id with
  | false=>rfl
  | true=>rw [Nat.ble_eq] at hc;exact absurd (hs.fresh id hc) hn
 have bm_at:∀ {k id},π[k]? = some id→β.m id≠none→bm k=β.m id:=fun {k id} h hn=>by grind
 have hHr:cT β w (eQ π s.H):=by
  intro id ob hid hne
  unfold eQ at hid
  cases hmem:bZ π id with
  | true=>grind
  | false=>simp only [hmem,cond_false] at hid;exact hs.ok id ob hid hne
 have h1:∀ id k,gA π 0 id=some k→β.m id≠none→β'.m k=β.m id:=fun id k h hn=>by
  obtain ⟨_,h2⟩:=lT h
  grind
 have h2:∀ b,β.free b→β'.free b:=fun b hf=>⟨hf.1,fun k n h=>by
  obtain ⟨id,_,hm'⟩:=bm_lives h
  exact hf.2 id n hm'⟩
 have h3:∀ id ob b n mu,eQ π s.H id=some ob→β.m id=some (.bz b n mu)→β'.free b:=by
  intro id ob b n mu ho hm'
  unfold eQ at ho
  cases hmem:bZ π id with
  | true=>grind
  | false =>
   refine ⟨fun hF'=>?_,fun k n' h=>?_⟩
   ·have hF2:β.F b:=hF'
    rw [hs.bF] at hF2
    obtain ⟨g1,g2⟩:=hs.hF b hF2
    rcases (hs.live id b n mu hm').1 with h|h
    ·omega
    grind
   ·obtain ⟨id',hk,hm2⟩:=bm_lives h
    have:=hs.inj id' id b n' n _ mu hm2 hm'
    grind [eZ,List.mem_of_getElem?]
 have hHld:∀ (k:Nat) o,os[k]? = some (some o)→gT β' w o k:=fun k o hk=>by
  rw [← hos,AA,List.getElem?_map] at hk
  cases hik:π[k]? with
  | none=>grind
  | some id =>
   simp only [hik,Option.map_some,Option.some.injEq] at hk
   cases hH:s.H id with
   | some o0 =>
    simp only [hH,Option.some.injEq] at hk
    subst hk
    have hne:β.m id≠none:=by rcases hs.heap id o0 hH with ⟨b,g,_⟩|⟨g,_⟩<;>(grind)
    exact jP (β':=β') hHr h1 h2 h3 (bm_at hik hne) (hs.heap id o0 hH)
   | none =>
    simp only [hH] at hk
    cases hc:Nat.ble s.c id with
    | false=>grind
    | true =>
     cases hg:Nat.blt (id - s.c) 256 with
     | true=>grind
     | false =>
      simp only [hc,hg,Bool.not_false,Bool.and_self,cond_true,Option.some.injEq] at hk
      subst hk
      exact .inr ⟨by grind,rfl⟩
 have hHas:Has os β':=fun k o hk=>by
  rcases hHld k o hk with ⟨b,g,_⟩|⟨g,_⟩<;>(grind)
 refine ⟨β',fun n=>?_,hs.size,hs.defers,fun id o hid=>?_,fun p q b n n' mu mu' e1 e2=>?_,fun id hid=>?_,fun id b n mu h=>?_,fun id o hid=>?_,hs.bF,hs.hF,hs.kept,hs.hB,fun g m h fD=>(hs.iU g m h fD).fP h2 (by
  obtain ⟨_,_,_,_,_,_,_,_,hcl,_⟩:=dj (hs.iU g m h fD).rel
  exact .bJ hcl)⟩
 ·refine nT β' w s (mapA (gA π 0) 9 (eQ π s.H)) (fun n=>a.tmps.getD n undef) os hHas ns vs (fun k m v hm hv1=>?_) (fun m=>kK hHr h1 h2 h3 9 _ _ (hs.slot m)) n
  grind [bC,mapA,gA,eQ,pN]
 ·have hid':obs[id]? = some (some o):=by
   have:obs.getD id none=some o:=hid
   grind
  obtain ⟨o1,g1,g2⟩:=ho' id o hid'
  have e1:=g2.es;have e2:=g2.n;have e3:=g2.mu;have e4:=g2.f
  rcases hHld id o1 g1 with ⟨b,k1,cs,el,k2,k3,k4⟩|⟨k1,k2⟩
  ·refine .inl ⟨b,by grind,cs,el,k2,k3.tM g2,fun i j hi hj=>?_⟩
   rw [← e2] at hi
   rw [← e1] at hj ⊢
   obtain ⟨vv,j1,j2,j3⟩:=k4 i j hi hj
   exact ⟨vv,j1,e4 i j hi hj _ _ _ hHas j2,j3⟩
  ·exact .inr ⟨k1,by omega⟩
 ·obtain ⟨x1,g1,g2⟩:=bm_lives e1
  obtain ⟨y1,g3,g4⟩:=bm_lives e2
  have:=hs.inj x1 y1 b n n' mu mu' g2 g4
  grind
 ·have hlen:obs.length≤id:=hid
  grind
 ·obtain ⟨id1,g1,g2⟩:=bm_lives h
  exact hs.live id1 b n mu g2
 ·have hk:id<ng:=Nat.lt_of_not_le fun h=>by grind
  obtain ⟨o',g1,g2⟩:=hs.yG id o hid
  rcases hpre' id hk with hp|⟨id',hp,hg⟩
  ·grind
  ·rw [Bool.and_eq_true] at hg
   exact ⟨.dead,by grind,by cases o<;>trivial⟩
def lO (os:List (Option Ob)):List (Option Ob)→List (Option Ob)→Prop
 | [],[]=>True
 | _::l,none::l'=>lO os l l'
 | some ⟨es,n,mu,f⟩::l,some o'::l'=>aJ os ⟨es,n,mu&&o'.mu,f⟩ o'∧lO os l l'
 | _,_=>False
theorem lO.spec {os:List (Option Ob)}:∀ {l l':List (Option Ob)},lO os l l'→∃ l1,eM os l l1∧l1.length=l'.length ∧
  ∀ id o',l'.getD id none=some o'→∃ o1,l1.getD id none=some o1∧o1.es=o'.es∧o1.n=o'.n∧o1.f=o'.f∧(o'.mu=true→o1.mu=true)
 | [],[],_=>⟨[],trivial,rfl,fun id o' h=>by grind⟩
 | x::l,none::l',h=>by
  obtain ⟨l1,h1,h2,h3⟩:=lO.spec (l:=l) (l':=l') (by cases x<;>exact h)
  refine ⟨none::l1,by cases x<;>exact h1,by simp [h2],fun id o' hk=>?_⟩
  cases id with
  | zero=>simp at hk
  | succ k=>simpa using h3 k o' (by simpa using hk)
 | some ⟨es,n,mu,f⟩::l,some o'::l',h=>by
  obtain ⟨l1,h1,h2,h3⟩:=lO.spec h.2
  refine ⟨some ⟨o'.es,o'.n,mu,o'.f⟩::l1,⟨⟨h.1.es0,h.1.n,rfl,h.1.f⟩,h1⟩,by grind,fun id o2 hk=>?_⟩
  cases id with
  | zero =>
   simp at hk
   subst hk
   refine ⟨_,rfl,rfl,rfl,rfl,fun hm=>?_⟩
   have:=h.1.mu
   grind
  | succ k=>simp_all
 | [],some o::l',h=>h.elim
 | [],none::l',h=>h.elim
 | none::l,some o::l',h=>h.elim
 | some o::l,[],h=>h.elim
 | none::l,[],h=>h.elim
theorem gS.lower {K:Ctx} {β:bu} {a:Act} {w:World} {ns:List Nat} {vs:List AV} {obs1 obs:List (Option Ob)} (hl:obs1.length=obs.length)
  (h:∀ id o,obs.getD id none=some o→∃ o1,obs1.getD id none=some o1∧o1.es=o.es∧o1.n=o.n∧o1.f=o.f∧(o.mu=true→o1.mu=true)) (hs:gS K β (aY ns vs obs1) a w):∃ β',gS K β' (aY ns vs obs) a w:=by
 let ids:=(List.range obs.length).filter fun k=>match obs.getD k none with|some o => !o.mu|none=>false
 have hk:dF β w (fQ ids β) w:=j7 ids
 refine ⟨fQ ids β,fun n=>(hs.slot n).fO hk,hs.size,hs.defers,fun id o ho=>?_,mm hs.inj,fun id hid=>iC (hs.fresh id (by have hid:obs.length≤id:=hid;show obs1.length≤id;omega)),fun id b n mu hb=>?_,fun id o hid=>?_,hs.bF,hs.hF,hs.kept,hs.hB,fun g m f fD=>(hs.iU g m f fD).fO hk⟩
 ·have ho':obs.getD id none=some o:=ho
  obtain ⟨o1,h1,e1,e2,e3,e4⟩:=h id o ho'
  have hmem:bZ ids id = !o.mu:=by
   have hlt:id<obs.length:=by grind
   rw [Bool.eq_iff_iff,eZ]
   grind
  rcases hs.heap id o1 h1 with ⟨b,g1,cs,el,k2,k3,k4⟩|⟨g1,g2⟩
  ·refine .inl ⟨b,?_,cs,el,k2,by grind,fun i j hi hj=>?_⟩
   ·rw [iG g1,hmem,← e2]
    grind
   ·rw [← e2] at hi
    rw [← e1] at hj ⊢
    obtain ⟨vv,j1,j2,j3⟩:=k4 i j hi hj
    exact ⟨vv,j1,by rw [← e3];exact j2.fO hk,j3⟩
  ·exact .inr ⟨by grind [fQ],by omega⟩
 ·obtain ⟨mu',g1,_⟩:=dq hb
  exact hs.live id b n mu' g1
 ·obtain ⟨o',g1,g2⟩:=hs.yG id o hid
  obtain ⟨o2,g3,g4⟩:=hk.ids id o' g1
  grind [Own.ku]
theorem oX.le {ng:Nat} {s:dH} {ns π:List Nat} {bC vs:List AV} {os obs:List (Option Ob)} (h:oX ng s ns π bC os) (hv:cV os bC vs) (ho:lO os os obs):Le ng s (aY ns vs obs):=by
 obtain ⟨obs1,h1,h2,h3⟩:=ho.spec
 intro K β a w hng hs
 obtain ⟨β1,hs1⟩:=h.le0 hv h1 K β a w hng hs
 exact hs1.lower h2 h3
inductive Sk : Type 1 where
  | no
  | tt (t : Sk)
  | ff (t : Sk)
  | br (b : Bool) (t e : Sk)
  | bj (p : Prop) (t : Sk)
  | sc (g : Bool) (f : FuncId) (args : List AV) (r : AV) (t : Sk)
  | dc (g : Bool) (f : FuncId) (args : List AV) (r : AV) (t : Sk)
  | gc (f : FuncId) (obs : List Ob) (args : List AV) (r : AV) (obs' : List (Option Ob)) (t : Sk)
  | loop (ι : Type) (S : ι → dH) (m : ι → Nat) (i0 : ι) (ns π : List Nat) (bC : List AV) (os : List (Option Ob)) (t : ι → Sk)
  | again (p : dH → Prop) (ns π : List Nat) (bC : List AV) (os : List (Option Ob))
  | out (x : AV) (os : List (Option Ob)) (r : AV) (obs : List (Option Ob))
  | AG (nt : Nat) (c : Code) (ns π : List Nat) (bC : List AV) (os : List (Option Ob)) (s' : dH) (t : Sk)
structure OC : Type 1 where
  ι : Type
  ns : List Nat
  vs : ι → List AV
  obs : ι → List (Option Ob)
  m : ι → Nat
  i0 : ι
def bh (ng:Nat) {ι:Type} (S:ι→dH) (m:ι→Nat) (i:ι):dH→Prop:=fun s'=>∃ i',Le ng s' (S i')∧m i'<m i
def dp (ng:Nat):Tree→Sk→Sk
 | _,.no=>.no
 | .br b t _,.tt k=>match b with|true=>.tt (dp ng t k)|false=>.no
 | .br b _ e,.ff k=>match b with|true=>.no|false=>.ff (dp ng e k)
 | .br b t e,.br _ k k'=>.br b (dp ng t k) (dp ng e k')
 | .bj p t,.bj _ k=>.bj p (dp ng t k)
 | .CB g f args kk,.sc _ _ _ r k=>bif sc 9 r then .sc g f args r (dp ng (kk r) k) else .no
 | .DU g f args kk,.dc _ _ _ r k=>.dc g f args r (dp ng (kk r) k)
 | .BZ f n obs args kk,.gc _ _ _ r obs' k=>bif Nat.ble n obs'.length&&Nat.ble obs'.length (n+8) then .gc f obs args r obs' (dp ng (kk r obs') k) else .no
 | .loop _ s kk,.loop ι S m i0 ns π _ _ t=>bif oP ng s.c π then .loop ι S m i0 ns π (pN s ns π) (AA s π) (fun i=>dp ng (kk (S i) (bh ng S m i)) (t i)) else .no
 | .again s p,.again _ ns π _ _=>bif oP ng s.c π then .again p ns π (pN s ns π) (AA s π) else .no
 | .AG n nt c s kk,.AG _ _ ns π _ _ s' t=>bif Nat.beq n ng&&oP ng s.c π then .AG nt c ns π (pN s ns π) (AA s π) s' (dp ng (kk s') t) else .no
 | .out v r obs,.out .. => match v with|some (x,os)=>.out x os r obs|none=>.no
 | _,_=>.no
def Sk.ok (P:Program) (gl:dG) (ng:Nat):Sk→Prop
 | .no=>False
 | .tt t=>t.ok P gl ng
 | .ff t=>t.ok P gl ng
 | .br b t e=>(b=true→t.ok P gl ng)∧(b=false→e.ok P gl ng)
 | .bj p t=>p∧t.ok P gl ng
 | .sc g f args r t=>(g=true→Pure P gl f args r)∧t.ok P gl ng
 | .dc g f args r t=>(g=true→Pure P gl f args r)∧t.ok P gl ng
 | .gc f obs args r obs' t=>bI P gl f obs args r obs'∧t.ok P gl ng
 | .loop ι S _ i0 ns π bC os t=>(∀ s,oX ng s ns π bC os→Le ng s (S i0))∧∀ i:ι,(t i).ok P gl ng
 | .again p ns π bC os=>∀ s,oX ng s ns π bC os→p s
 | .out x os r obs=>ay os x r∧eM os os obs
 | .AG nt c ns π bC os s' t=>(∀ s,oX ng s ns π bC os→Opq P gl ng nt c s s')∧t.ok P gl ng
theorem qf {c:Bool} {x y:Sk} (h:(bif c then x else .no)=y) (hy:y≠.no):c=true∧x=y:=by grind
theorem rD {P:Program} {gl:dG} {ng:Nat} (k:Sk):∀ T,dp ng T k=k→k.ok P gl ng→T.wp P gl (Le ng):=by
 induction k with
 | no=>intro T _ h;exact h.elim
 | tt t ih =>
  intro T hu h
  cases T<;>simp only [dp,reduceCtorEq] at hu
  rename_i b t1 e1
  cases b<;>simp only [reduceCtorEq,Sk.tt.injEq] at hu
  exact ⟨fun _=>ih _ hu h,fun h=>by cases h⟩
 | ff t ih =>
  intro T hu h
  cases T<;>simp only [dp,reduceCtorEq] at hu
  rename_i b t1 e1
  cases b<;>simp only [reduceCtorEq,Sk.ff.injEq] at hu
  exact ⟨fun h=>(by cases h),fun _=>ih _ hu h⟩
 | br b t e iht ihe =>
  intro T hu h
  cases T<;>simp only [dp,reduceCtorEq,Sk.br.injEq] at hu
  obtain ⟨rfl,h1,h2⟩:=hu
  exact ⟨fun hb=>iht _ h1 (h.1 hb),fun hb=>ihe _ h2 (h.2 hb)⟩
 | bj p t ih =>
  intro T hu h
  cases T<;>simp only [dp,reduceCtorEq,Sk.bj.injEq] at hu
  obtain ⟨rfl,h1⟩:=hu
  exact ⟨h.1,ih _ h1 h.2⟩
 | sc g f args r t ih =>
  intro T hu h
  cases T<;>simp only [dp,reduceCtorEq] at hu
  obtain ⟨hs,hu⟩:=qf hu (by simp)
  simp only [Sk.sc.injEq,true_and] at hu
  obtain ⟨rfl,rfl,rfl,h1⟩:=hu
  exact ⟨r,h.1,hs,ih _ h1 h.2⟩
 | dc g f args r t ih =>
  intro T hu h
  cases T<;>simp only [dp,reduceCtorEq,Sk.dc.injEq,true_and] at hu
  obtain ⟨rfl,rfl,rfl,h1⟩:=hu
  exact ⟨r,h.1,ih _ h1 h.2⟩
 | gc f obs args r obs' t ih =>
  intro T hu h
  cases T<;>simp only [dp,reduceCtorEq] at hu
  obtain ⟨hs,hu⟩:=qf hu (by simp)
  simp only [Sk.gc.injEq,true_and] at hu
  obtain ⟨rfl,rfl,rfl,h1⟩:=hu
  exact ⟨r,obs',h.1,hs,ih _ h1 h.2⟩
 | loop ι S m i0 ns π bC os t ih =>
  intro T hu h
  cases T<;>simp only [dp,reduceCtorEq] at hu
  obtain ⟨hs,hu⟩:=qf hu (by simp)
  simp only [Sk.loop.injEq,true_and,heq_eq_eq] at hu
  obtain ⟨rfl,rfl,h1⟩:=hu
  exact ⟨ι,S,m,i0,h.1 _ ⟨hs,rfl,rfl⟩,fun i=>ih i _ (congrFun h1 i) (h.2 i)⟩
 | again p ns π bC os =>
  intro T hu h
  cases T<;>simp only [dp,reduceCtorEq] at hu
  obtain ⟨hs,hu⟩:=qf hu (by simp)
  simp only [Sk.again.injEq,true_and] at hu
  obtain ⟨rfl,rfl,rfl⟩:=hu
  exact h _ ⟨hs,rfl,rfl⟩
 | AG nt c ns π bC os s' t ih =>
  intro T hu h
  cases T<;>simp only [dp,reduceCtorEq] at hu
  obtain ⟨hs,hu⟩:=qf hu (by simp)
  rw [Bool.and_eq_true] at hs
  have hn:=Nat.eq_of_beq_eq_true hs.1
  simp only [Sk.AG.injEq,true_and] at hu
  obtain ⟨rfl,rfl,rfl,rfl,h1⟩:=hu
  subst hn
  exact ⟨s',h.1 _ ⟨hs.2,rfl,rfl⟩,ih _ h1 h.2⟩
 | out x os r obs =>
  intro T hu h
  cases T<;>simp only [dp,reduceCtorEq] at hu
  rename_i v r1 obs1
  cases v with
  | none=>grind
  | some xo =>
   obtain ⟨x1,os1⟩:=xo
   simp only [Sk.out.injEq] at hu
   obtain ⟨rfl,rfl,rfl,rfl⟩:=hu
   exact ⟨x1,os1,rfl,h.1,h.2⟩
def walk (P:Program) (gl:dG) (own:FuncId→Option (List Bool)) (hand:Bool) (fn:Func) (obs:List Ob) (args:List AV) (r:AV) (obs':List (Option Ob)):Tree:=match fn.body with
 | some code=>run ⟨P,gl,fn.ntmps,own,obs.length⟩ code (KG P fn obs.length hand args r obs') (entry args obs)
 | none=>.bad "no body"
section
variable {P : Program} {gl : dG} {own : FuncId → Option (List Bool)}
theorem cg {hand:Bool} {f:FuncId} {fn:Func} {obs:List Ob} {args:List AV} {r:AV} {obs':List (Option Ob)} (hf:P.funcs[f]? = some fn) (hname:(fn.name == "runtime.NumGoroutine")=false) (hm:P.follows .mixedOrders=true)
  (hn:Nat.ble args.length fn.ntmps=true) (sk:Sk) (hu:dp obs.length (walk P gl own hand fn obs args r obs') sk=sk) (h:sk.ok P gl obs.length):bI P gl f obs args r obs':=by
 have hwp:=rD sk _ hu h
 unfold walk at hwp
 cases hb:fn.body with
 | none=>rw [hb] at hwp;exact hwp.elim
 | some code=>grind [Ef]
theorem ar {f:FuncId} {fn:Func} {args:List AV} {r:AV} (hf:P.funcs[f]? = some fn) (hname:(fn.name == "runtime.NumGoroutine")=false) (hm:P.follows .mixedOrders=true)
  (hn:Nat.ble args.length fn.ntmps=true) (sk:Sk) (hu:dp 0 (walk P gl own false fn [] args r []) sk=sk) (h:sk.ok P gl 0):Pure P gl f args r :=
 cg hf hname hm hn sk hu h
variable {ng : Nat}
theorem gp {t:Sk} (h:t.ok P gl ng):(Sk.tt t).ok P gl ng:=h
theorem cz {t:Sk} (h:t.ok P gl ng):(Sk.ff t).ok P gl ng:=h
theorem aL {b:Bool} {t e:Sk} (h1:b=true→t.ok P gl ng) (h2:b=false→e.ok P gl ng):(Sk.br b t e).ok P gl ng:=⟨h1,h2⟩
theorem aD {p:Prop} {t:Sk} (h1:p) (h2:t.ok P gl ng):(Sk.bj p t).ok P gl ng:=⟨h1,h2⟩
theorem aM {f:FuncId} {args:List AV} {r:AV} {t:Sk} (h1:Pure P gl f args r) (h2:t.ok P gl ng):(Sk.sc true f args r t).ok P gl ng:=⟨fun _=>h1,h2⟩
theorem aW {g:Bool} {f:FuncId} {args:List AV} {r:AV} {t:Sk} (h1:g=true→Pure P gl f args r) (h2:t.ok P gl ng):(Sk.sc g f args r t).ok P gl ng:=⟨h1,h2⟩
theorem b9 {f:FuncId} {args:List AV} {r:AV} {t:Sk} (h1:Pure P gl f args r) (h2:t.ok P gl ng):(Sk.dc true f args r t).ok P gl ng:=⟨fun _=>h1,h2⟩
theorem gZ {f:FuncId} {obs:List Ob} {args:List AV} {r:AV} {obs':List (Option Ob)} {t:Sk} (h1:bI P gl f obs args r obs') (h2:t.ok P gl ng):(Sk.gc f obs args r obs' t).ok P gl ng:=⟨h1,h2⟩
theorem aV {ι:Type} {S:ι→dH} {m:ι→Nat} {i0:ι} {ns π:List Nat} {bC:List AV} {os:List (Option Ob)} {t:ι→Sk} (h1:∀ s,oX ng s ns π bC os→Le ng s (S i0)) (h2:∀ i,(t i).ok P gl ng) :
  (Sk.loop ι S m i0 ns π bC os t).ok P gl ng:=⟨h1,h2⟩
theorem aN {ι:Type} {S:ι→dH} {m:ι→Nat} {i:ι} {ns π:List Nat} {bC:List AV} {os:List (Option Ob)} (i':ι) (h1:∀ s,oX ng s ns π bC os→Le ng s (S i')) (h2:m i'<m i) :
  (Sk.again (bh ng S m i) ns π bC os).ok P gl ng:=fun s hs=>⟨i',h1 s hs,h2⟩
theorem MB {nt:Nat} {c:Code} {ns π:List Nat} {bC:List AV} {os:List (Option Ob)} {s1 s':dH} {t:Sk} (h0:∀ s,oX ng s ns π bC os→Le ng s s1) (h1:Opq P gl ng nt c s1 s') (h2:t.ok P gl ng) :
  (Sk.AG nt c ns π bC os s' t).ok P gl ng:=⟨fun s hs K β a w hP fD ph hng hq hm h=>let ⟨_,h'⟩:=h0 s hs K β a w hng h;h1 K _ a w hP fD ph hng hq hm h',h2⟩
theorem aq {x r:AV} (h:ay [] x r):(Sk.out x [] r []).ok P gl ng:=⟨h,trivial⟩
theorem da {x r:AV} {os obs:List (Option Ob)} (h:ay os x r) (h2:eM os os obs):(Sk.out x os r obs).ok P gl ng:=⟨h,h2⟩
end
end Go.Am

namespace Go.Am
open Go.IntKind (wrap)
open Int (toNat)
open Go.RowKit
theorem ay.bx {os:List (Option Ob)} (a:AV):ay os a .bx:=fun _ _ _ _ _=>.bx
theorem ay.nn {os:List (Option Ob)} {a b:AV} (h:ay os a b):ay os (.nn a) b:=fun _ _ _ hh hr=>by
 cases hr with|nn h'=>exact h _ _ _ hh h'
theorem ay.aH {os:List (Option Ob)} {es n:Nat} {f g:Nat→Nat→AV} (h:∀ i j,i<n→j<es→f i j=g i j):ay os (.aH es n f) (.aH es n g):=fun _ _ _ _ hr=>by
 cases hr with
 | aH bC he hcap hb hc ho hr hcl=>exact .aH bC he hcap hb hc ho (fun i j hi hj=>by grind) (fun i j hi hj=>by grind)
 | gU h'=>exact .gU h'
theorem ay.iP {os:List (Option Ob)} {es n n':Nat} {f g:Nat→Nat→AV} (hn:n=n') (h:∀ i j,i<n→j<es→f i j=g i j):ay os (.aH es n f) (.aH es n' g):=by grind [ay.aH]
theorem aJ.refl {os:List (Option Ob)} (o:Ob):aJ os o o:=⟨by rw [Dz],rfl,rfl,fun _ _ _ _=>ay.refl _⟩
theorem eM.refl {os:List (Option Ob)}:∀ l:List (Option Ob),eM os l l
 | []=>trivial
 | none::l=>eM.refl l
 | some o::l=>⟨.refl o,eM.refl l⟩
theorem cV.refl {os:List (Option Ob)}:∀ l:List AV,cV os l l
 | []=>trivial
 | a::l=>⟨ay.refl a,cV.refl l⟩
theorem ay.aQ {os:List (Option Ob)} {l l':List AV} (h:cV os l l') (j:Nat):ay os (aQ l j) (aQ l' j):=by
 obtain ⟨h1,h2⟩:=h.spec
 grind [Am.aQ,List.getElem?_eq_getElem,List.getElem?_eq_none,ay.refl]
theorem aJ.row {os:List (Option Ob)} {es:Nat} {mu:Bool} {l l':List AV} (h:cV os l l'):aJ os ⟨es,1,mu,.bc [l]⟩ ⟨es,1,mu,.bc [l']⟩:=⟨rfl,rfl,rfl,fun i j hi _=>by
 have hi:i<1:=hi
 obtain rfl:i=0:=by omega
 exact ay.aQ h j⟩
theorem aJ.bx {os:List (Option Ob)} {es n:Nat} {mu:Bool} {f:bA}:aJ os ⟨es,n,mu,f⟩ ⟨es,n,mu,.fn fun _ _=>.bx⟩:=⟨rfl,rfl,rfl,fun _ _ _ _=>ay.bx _⟩
theorem aJ.zero {os:List (Option Ob)} {es:Nat} {mu:Bool} {f g:bA} (ht:tyc f g=true:=by rfl):aJ os ⟨es,0,mu,f⟩ ⟨es,0,mu,g⟩:=⟨congrArg (Prod.mk es) ht,rfl,rfl,fun i _ hi _=>by grind⟩
theorem dv {es j:Nat} {g:Nat→AV} (hj:j<es):Am.aQ ((List.range es).map g) j=g j:=by grind [Am.aQ,List.getElem?_range]
theorem aJ.len {os:List (Option Ob)} {es n n':Nat} {mu:Bool} {f:bA} (h:n=n'):aJ os ⟨es,n,mu,f⟩ ⟨es,n',mu,f⟩:=by grind [refl]
theorem aJ.push {os:List (Option Ob)} {es x x':Nat} {mu:Bool} {k:IntKind} {f:Nat→Nat→Int} {l:List AV} (h:l=(List.range es).map (fun j=>.int k (f x j))) (hx:x'=x+1) :
  aJ os ⟨es,x+1,mu,.fn fun i j=>.int k (bif Nat.blt i x then f i j else aE (Am.aQ l j))⟩ ⟨es,x',mu,.fn fun i j=>.int k (f i j)⟩:=by
 subst hx
 refine ⟨rfl,rfl,rfl,fun i j hi hj=>ay.of_eq ?_⟩
 have hi:i<x+1:=hi
 have hj:j<es:=hj
 show AV.int k _=AV.int k _
 cases hb:Nat.blt i x with
 | true=>rfl
 | false =>
  have:i=x:=by grind [Nat.blt_eq]
  subst this
  rw [h,dv hj]
  rfl
theorem aJ.cat {os:List (Option Ob)} {es n m n':Nat} {mu:Bool} {f g h:bA} (hn:n'=n+m) (h1:∀ i j,i<n→j<es→ay os (f i j) (h i j)) (h2:∀ i j,i<m→j<es→ay os (g i j) (h (n+i) j)) (ht:tyc (.cat n f g) h=true:=by rfl) :
  aJ os ⟨es,n+m,mu,.cat n f g⟩ ⟨es,n',mu,h⟩:=by
 subst hn
 refine ⟨congrArg (Prod.mk es) ht,rfl,rfl,fun i j hi hj=>?_⟩
 have hi:i<n+m:=hi
 show ay os (dh (Nat.blt i n) (f.at i j) (g.at (i - n) j)) (h i j)
 grind [Nat.blt,n,jg,Nat.blt_eq,gN,Nat.le_of_not_lt]
theorem aJ.put {os:List (Option Ob)} {es n k:Nat} {mu:Bool} {x:List AV} {f h:bA} (h1:∀ j,k<n→j<es→ay os (Am.aQ x j) (h k j)) (h2:∀ i j,i<n→i≠k→j<es→ay os (f i j) (h i j)) (ht:tyc (.put k x f) h=true:=by rfl) :
  aJ os ⟨es,n,mu,.put k x f⟩ ⟨es,n,mu,h⟩:=by
 refine ⟨congrArg (Prod.mk es) ht,rfl,rfl,fun i j hi hj=>?_⟩
 have hi:i<n:=hi
 show ay os (dh (Nat.beq i k) (Am.aQ x j) (f.at i j)) (h i j)
 grind [Nat.beq,jg,Nat.eq_of_beq_eq_true,gN,Nat.beq_refl]
theorem aJ.pS {os:List (Option Ob)} {es n n':Nat} {mu:Bool} {c c':Nat→List AV} {x:List AV} (hn:n'=n+1) (hc:∀ i,i<n→cV os (c i) (c' i)) (hx:cV os x (c' n)) :
  aJ os ⟨es,n+1,mu,.cat n (.row c) (.bc [x])⟩ ⟨es,n',mu,.row c'⟩ :=
 aJ.cat hn (fun i j hi _=>ay.aQ (hc i hi) j) (fun i j hi _=>by
  obtain rfl:i=0:=by omega
  exact ay.aQ hx j)
theorem aJ.ct {os:List (Option Ob)} {es n n':Nat} {mu:Bool} {c:Nat→List AV} (hn:n'=n+1):aJ os ⟨es,n+1,mu,.cat n (.row c) (.bc [c n])⟩ ⟨es,n',mu,.row c⟩ :=
 aJ.pS hn (fun _ _=>cV.refl _) (cV.refl _)
def vF (k:IntKind) (l:List Int):Nat→Nat→AV:=fun i _=>.int k (l.getD i 0)
abbrev il (k:IntKind) (l:List Int):AV:=.aH 1 l.length (vF k l)
abbrev m6 (k:IntKind) (l:List Int):Option Ob:=some ⟨1,l.length,true,.fn (vF k l)⟩
theorem aJ.Mz {os:List (Option Ob)} {mu:Bool} {k:IntKind} {l l':List Int} {v:Int} (h:l'=l++[v]) :
  aJ os ⟨1,l.length+1,mu,.fn fun i j=>.int k (bif Nat.blt i l.length then l.getD i 0 else aE (Am.aQ [.int k v] j))⟩ ⟨1,l'.length,mu,.fn (vF k l')⟩:=by
 subst h
 refine ⟨rfl,by simp,rfl,fun i j hi hj=>ay.of_eq ?_⟩
 have hi:i<l.length+1:=hi
 have hj:j<1:=hj
 obtain rfl:j=0:=by omega
 show AV.int k _=AV.int k _
 grind [Nat.blt,Nat.blt_eq,List.getElem?_append_left,aQ,aE]
theorem ay.bn {os:List (Option Ob)} {es:Nat} {f:Nat→Nat→AV}:ay os .bn (.aH es 0 f):=fun _ _ _ _ hr=>by
 cases hr;exact .gU (fun _=>rfl)
theorem ay.Ot {os:List (Option Ob)} {k:IntKind} {l:List Int} (h:l=[]):ay os .bn (il k l):=by grind [ay.bn]
theorem ay.ilL {os:List (Option Ob)} {k:IntKind} {l l':List Int} (h:l=l'):ay os (.aH 1 l.length fun i _=>.int k (l.getD i 0)) (il k l'):=by subst h;exact ay.refl _
theorem ay.two {os:List (Option Ob)} {es:Nat} {x y:List AV} {g:Nat→List AV} (h0:x=g 0) (h1:y=g 1):ay os (.aH es 2 fun r k=>Am.aQ (List.getD [x,y] r []) k) (.aH es 2 fun i j=>Am.aQ (g i) j):=by grind [ay.aH]
theorem ay.agg {os:List (Option Ob)} {l l':List AV} (h:cV os l l'):ay os (.agg l) (.agg l'):=fun _ _ _ hh hr=>by
 obtain ⟨h1,h2⟩:=h.spec
 obtain ⟨vs,rfl,hl,hr⟩:=dx hr
 refine .agg (by omega) fun j u x hu hx=>?_
 have hj:j<l.length:=by grind
 exact h2 j l[j] u (by simp) hu _ _ _ hh (hr j _ _ (by simp) hx)
theorem ay.aX {os:List (Option Ob)} {l l':List AV} (h:cV os l l'):ay os (.aX l) (.aX l'):=fun _ _ _ hh hr=>by
 obtain ⟨h1,h2⟩:=h.spec
 obtain ⟨vs,rfl,hl,hr⟩:=oh hr
 refine .aX (by omega) fun j u x hu hx=>?_
 have hj:j<l.length:=by grind
 exact h2 j l[j] u (by simp) hu _ _ _ hh (hr j _ _ (by simp) hx)
section
variable {P : Program} {gl : dG} {f : FuncId}
theorem bI.eS {obs:List Ob} {r:AV} {obs':List (Option Ob)} (pre post:List AV) (es n:Nat) (g:Nat→Nat→AV) (h1:n=0→bI P gl f obs (pre++.bn::post) r obs')
  (h2:bI P gl f obs (pre++.nn (.aH es n g)::post) r obs'):bI P gl f obs (pre++.aH es n g::post) r obs':=by
 refine ⟨h2.1,fun β w vs hF hgiv fD hargs=>?_⟩
 have hx:∀ (a b:AV),(∀ v,vs[pre.length]? = some v→Rel β w b v)→eR β w (pre++a::post) vs→eR β w (pre++b::post) vs:=fun a b hb hr=>by
  refine ⟨by have:=hr.len;grind,fun j u x hu hxx=>?_⟩
  rcases Nat.lt_trichotomy j pre.length with h|h|h
  ·refine hr.rel j u x ?_ hxx
   grind
  ·grind
  ·refine hr.rel j u x ?_ hxx
   grind
 obtain ⟨v,hv,hr⟩:=hargs.at (j:=pre.length) (u:=.aH es n g) (by simp)
 obtain ⟨a,cap,rfl,hcap,hnil,_⟩:=gX hr
 cases a with
 | none =>
  have hc:=hnil rfl
  subst hc
  have hn:n=0:=by omega
  subst hn
  exact (h1 rfl).2 β w vs hF hgiv fD (hx _ _ (fun v' hv'=>by rw [hv] at hv';cases hv';exact .bn) hargs)
 | some ad=>exact h2.2 β w vs hF hgiv fD (hx _ _ (fun v' hv'=>by rw [hv] at hv';cases hv';exact .nn hr) hargs)
theorem bI.nil {obs:List Ob} {args:List AV} {obs':List (Option Ob)} (h:bI P gl f obs args .bn obs') (es:Nat) (g:bA) :
  bI P gl f obs args (.ba obs'.length es 0 0) (obs'++[some ⟨es,0,true,g⟩]):=by
 refine ⟨h.1,fun β w vs hF hgiv fD hargs=>(h.2 β w vs hF hgiv fD hargs).mono fun e w' hh=>?_⟩
 obtain ⟨v,β',he,hk,hA,hr⟩:=hh
 have hn:=hA.none obs'.length (Nat.le_refl _)
 let β2:bu:=wM β' [(obs'.length,.empty)]
 have at0:β2.m obs'.length=some .empty:=iw (by rw [cm,if_pos rfl])
 have old:∀ k,k≠obs'.length→β2.m k=β'.m k:=fun k hk=>dX (by simp_all [cm]<;>omega)
 have lv:∀ k b n mu,β2.m k=some (.bz b n mu)→β'.m k=some (.bz b n mu):=fun k b n mu hb=>by grind
 have kk:dF β' w' β2 w':=⟨fun id o ho=>⟨o,by grind,o.fh⟩,fun _ _ _=>rfl,fun b _ hf=>⟨hf.1,fun id n h=>hf.2 id n (lv _ _ _ _ h)⟩,fun _ _ _ h=>h⟩
 cases hr
 refine ⟨_,β2,he,hk,⟨hA.F,fun k ob hkk=>?_,fun k hkk=>?_,fun i j b n n' mu mu' h1 h2=>hA.inj i j b n n' mu mu' (lv _ _ _ _ h1) (lv _ _ _ _ h2),fun k b n mu hb=>hA.live k b n mu (lv _ _ _ _ hb),fun k o ho=>?_⟩,.jC (by grind)⟩
 ·by_cases e:k=obs'.length
  ·subst e
   simp at hkk
   subst hkk
   exact .inr ⟨at0,rfl⟩
  ·have hkk':obs'[k]? = some (some ob):=by grind
   rcases hA.holds k ob hkk' with ⟨b,g1,g2⟩|⟨g1,g2⟩
   ·exact .inl ⟨b,by grind,g2.fO kk rfl⟩
   ·exact .inr ⟨by grind,g2⟩
 ·simp at hkk
  rw [old k (by omega)]
  exact hA.none k (by omega)
 ·obtain ⟨o',g1,g2⟩:=hA.later k o ho
  grind
theorem bI.tM {obs:List Ob} {args:List AV} {r r':AV} {obs' obs2:List (Option Ob)} (h:bI P gl f obs args r obs') (hr:ay obs' r r') (ho:eM obs' obs' obs2):bI P gl f obs args r' obs2:=by
 refine ⟨h.1,fun β w vs hF hgiv fD hargs=>(h.2 β w vs hF hgiv fD hargs).mono fun e w' hh=>?_⟩
 obtain ⟨v,β',he,hk,hA,hv⟩:=hh
 obtain ⟨hl,hs⟩:=ho.spec
 have hHas:Has obs' β':=fun k o hk=>by rcases hA.holds k o hk with ⟨b,g,_⟩|⟨g,_⟩<;>(grind)
 refine ⟨v,β',he,hk,⟨hA.F,fun k ob hkk=>?_,fun k hkk=>hA.none k (by omega),hA.inj,hA.live,hA.later⟩,hr _ _ _ hHas hv⟩
 obtain ⟨o1,g1,g2⟩:=hs k ob hkk
 have e1:=g2.es;have e2:=g2.n;have e3:=g2.mu;have e4:=g2.f
 rcases hA.holds k o1 g1 with ⟨b,k1,cs,el,k2,k3,k4⟩|⟨k1,k2⟩
 ·refine .inl ⟨b,by grind,cs,el,k2,k3.tM g2,fun i j hi hj=>?_⟩
  rw [← e2] at hi
  rw [← e1] at hj ⊢
  obtain ⟨vv,j1,j2,j3⟩:=k4 i j hi hj
  exact ⟨vv,j1,e4 i j hi hj _ _ _ hHas j2,j3⟩
 ·exact .inr ⟨k1,by omega⟩
theorem bI.via {obs:List Ob} {args args':List AV} {r:AV} {obs':List (Option Ob)} (h:bI P gl f obs args' r obs') (he:cV (obs.map some) args args'):bI P gl f obs args r obs':=by
 refine ⟨h.1,fun β w vs hF hgiv fD hargs=>h.2 β w vs hF hgiv fD ?_⟩
 obtain ⟨h1,h2⟩:=he.spec
 have hHas:Has (obs.map some) β:=fun k o hk=>by
  rw [List.getElem?_map] at hk
  cases ho:obs[k]? with
  | none=>grind
  | some ob=>rcases hgiv.holds k ob ho with ⟨b,g,_⟩|⟨g,_⟩<;>(grind)
 refine ⟨by rw [← h1];exact hargs.len,fun j u x hu hx=>?_⟩
 have hj:j<args.length:=by grind
 exact h2 j args[j] u (by simp) hu _ _ _ hHas (hargs.rel j _ _ (by simp) hx)
theorem Pure.via {args args':List AV} {r:AV} (h:Pure P gl f args' r) (he:cV [] args args'):Pure P gl f args r:=bI.via h he
theorem ay.rows {os:List (Option Ob)} {es n:Nat} {f g:Nat→Nat→AV} (h:∀ i,i<n→(List.range es).map (f i)=(List.range es).map (g i)):ay os (.aH es n f) (.aH es n g) :=
 ay.aH fun i j hi hj=>by simp_all
theorem Pure.tM {args:List AV} {r r':AV} (h:Pure P gl f args r) (hr:ay [] r r'):Pure P gl f args r':=bI.tM h hr trivial
end
end Go.Am

namespace Go.Sp
open Go.IntKind (wrap)
open Int (toNat)
open Go Go.Am
theorem wI {n:Int} (h : -9223372036854775808≤n) (h':n≤9223372036854775807):IntKind.wrap .i64 n=n:=by simp_all [IntKind.wrap,IntKind.bits,IntKind.signed,Bool.true_and,decide_eq_true_eq,ge_iff_le]<;>omega
def bU (d l i:Int):Bool:=decide (0≤d∧d≤5∧0≤l∧l≤d∧0≤i∧i<2^l.toNat)
def dg (d l i:Int):Int:=if bU d l i then i*2^(d - l).toNat else 0
def dm (d l i:Int):Int:=if bU d l i then (i+1)*2^(d - l).toNat else 0
def gY (d l i:Int):Int:=if d<0∨5<d then 1 else if bU d l i then 0 else 2
theorem D7 (d l i:Int):(decide (d≥0)&&decide (d≤5)&&decide (l≥0)&&decide (l≤d)&&decide (i≥0)&&decide (i<wrap .i64 (1*2^min (toNat l) 64)))=bU d l i:=by
 by_cases hl:0≤l∧l≤5
 ·have:wrap .i64 (1*2^min (toNat l) 64)=2^l.toNat:=by
   rcases (by omega:l=0∨l=1∨l=2∨l=3∨l=4∨l=5) with rfl|rfl|rfl|rfl|rfl|rfl<;>decide
  grind [bU,Bool.and_assoc]
 ·rw [Bool.eq_iff_iff]
  grind [bU]
theorem iK {d l i:Int} (h:bU d l i=true):0≤d∧d≤5∧0≤l∧l≤d∧0≤i∧i<2^l.toNat:=by grind [bU]
theorem p2 {k:Int} (h0:0≤k) (h1:k≤5):wrap .i64 (1*2^min (toNat k) 64)=2^k.toNat∧min (toNat k) 64=k.toNat∧1≤(2:Int)^k.toNat∧(2:Int)^k.toNat≤32:=by
 rcases (by omega:k=0∨k=1∨k=2∨k=3∨k=4∨k=5) with rfl|rfl|rfl|rfl|rfl|rfl<;>decide
theorem IJ {d l i:Int} (h:(decide (d<0)||decide (d>5))=true):dg d l i=0∧dm d l i=0∧gY d l i=1:=by grind [bU,iK,dg,dm,gY]
theorem JR {d l i:Int} (h:(decide (d<0)||decide (d>5))=false) (hn:(!bU d l i)=true):dg d l i=0∧dm d l i=0∧gY d l i=2:=by grind [bU,dg,dm,gY]
theorem bnd {i a b:Int} (h0:0≤i) (h1:i<a) (h2:a≤32) (h3:1≤b) (h4:b≤32):0≤i*b∧i*b≤1024∧0≤(i+1)*b∧(i+1)*b≤1056:=by
 have e1:i*b≤32*32:=Int.mul_le_mul (by omega) h4 (by omega) (by omega)
 have e2:=Int.mul_nonneg h0 (show 0≤b by omega)
 grind
theorem v5 {d l i:Int} (hn:(!bU d l i)=false):IntKind.wrap .i64 (i*IntKind.wrap .i64 (1*2^min (toNat (IntKind.wrap .i64 (d - l))) 64))=dg d l i ∧
  IntKind.wrap .i64 (IntKind.wrap .i64 (i+1)*IntKind.wrap .i64 (1*2^min (toNat (IntKind.wrap .i64 (d - l))) 64))=dm d l i∧gY d l i=0∧0≤IntKind.wrap .i64 (d - l):=by
 have hn:bU d l i=true:=by grind
 obtain ⟨h1,h2,h3,h4,h5,h6⟩:=iK hn
 have e:IntKind.wrap .i64 (d - l)=d - l:=wI (by omega) (by omega)
 obtain ⟨q1,_,q2,q3⟩:=p2 (k:=d - l) (by omega) (by omega)
 obtain ⟨_,_,r2,r3⟩:=p2 (k:=l) (by omega) (by omega)
 obtain ⟨b1,b2,b3,b4⟩:=bnd h5 h6 r3 q2 q3
 grind [wI,dg,dm,gY]
abbrev Sub {α:Type} (p:α→Prop):Type:={x:α // p x}
structure au where
  jl : Int
  fK : Int
  gx : Int
  depth : Int
  a : Int
  root : Nat → Int
  z : Int
  sa : Int
  sb : Int
  r : Int
  level : Int
  index : Int
  bM : Nat → Int
  time : Int
  number : Int
  nl : Nat
  lf : Nat → Nat → Int
  kg : Int
  np : Nat
  pf : Nat → Nat → Int
abbrev uQ (n:Nat) (f:Nat→Nat→Int):AV:=.aH 3 n (fun i j=>.int .i64 (f i j))
abbrev zD (n:Nat) (f:Nat→Nat→Int):AV:=.aH 32 n (fun i j=>.int .u8 (f i j))
def au.cw (s:au) (x y:AV):List AV:=[.int .i64 s.jl,.int .i64 s.fK,.int .i64 s.gx,.int .i64 s.depth,.int .i64 s.a,.int .u8 (s.root 0),.int .u8 (s.root 1),.int .u8 (s.root 2),.int .u8 (s.root 3),.int .u8 (s.root 4),.int .u8 (s.root 5),.int .u8 (s.root 6),.int .u8 (s.root 7),.int .u8 (s.root 8),.int .u8 (s.root 9),.int .u8 (s.root 10),.int .u8 (s.root 11),.int .u8 (s.root 12),.int .u8 (s.root 13),.int .u8 (s.root 14),.int .u8 (s.root 15),.int .u8 (s.root 16),.int .u8 (s.root 17),.int .u8 (s.root 18),.int .u8 (s.root 19),.int .u8 (s.root 20),.int .u8 (s.root 21),.int .u8 (s.root 22),.int .u8 (s.root 23),.int .u8 (s.root 24),.int .u8 (s.root 25),.int .u8 (s.root 26),.int .u8 (s.root 27),.int .u8 (s.root 28),.int .u8 (s.root 29),.int .u8 (s.root 30),.int .u8 (s.root 31),.int .i64 s.z,.int .i64 s.sa,.int .i64 s.sb,.int .i64 s.r,.int .i64 s.level,.int .i64 s.index,.int .u8 (s.bM 0),.int .u8 (s.bM 1),.int .u8 (s.bM 2),.int .u8 (s.bM 3),.int .u8 (s.bM 4),.int .u8 (s.bM 5),.int .u8 (s.bM 6),.int .u8 (s.bM 7),.int .u8 (s.bM 8),.int .u8 (s.bM 9),.int .u8 (s.bM 10),.int .u8 (s.bM 11),.int .u8 (s.bM 12),.int .u8 (s.bM 13),.int .u8 (s.bM 14),.int .u8 (s.bM 15),.int .u8 (s.bM 16),.int .u8 (s.bM 17),.int .u8 (s.bM 18),.int .u8 (s.bM 19),.int .u8 (s.bM 20),.int .u8 (s.bM 21),.int .u8 (s.bM 22),.int .u8 (s.bM 23),.int .u8 (s.bM 24),.int .u8 (s.bM 25),.int .u8 (s.bM 26),.int .u8 (s.bM 27),.int .u8 (s.bM 28),.int .u8 (s.bM 29),.int .u8 (s.bM 30),.int .u8 (s.bM 31),.int .i64 s.time,.int .i64 s.number,x,.int .i64 s.kg,y]
def au.cells (s:au):List AV:=s.cw (uQ s.nl s.lf) (zD s.np s.pf)
def au.av (s:au):AV:=.agg s.cells
def dk (s:au):Bool := !(gY s.depth s.level s.index != 0||(s.nl:Int) != IntKind.wrap .i64 (dm s.depth s.level s.index - dg s.depth s.level s.index)||decide (s.time<0)||decide (s.time>1099511627776)||decide (s.number<0)||decide (s.number>1073741824))
def aG (p:Nat→Bool):Nat→Nat→Int
 | 0,_ => -1
 | k+1,i=>if p i then i else aG p k (i+1)
theorem nR {p:Nat→Bool} {n i:Nat} (h:i<n):aG p (n - i) i=if p i then (i:Int) else aG p (n - (i+1)) (i+1):=by
 rw [show n - i=(n - (i+1))+1 by omega];rfl
theorem wL {p:Nat→Bool} {n i:Nat} (h:n≤i):aG p (n - i) i = -1:=by
 rw [show n - i=0 by omega];rfl
theorem gH {p:Nat→Bool}:∀ k i,(decide (aG p k i≥0))=(List.range k).any (fun q=>p (i+q))
 | 0,i=>rfl
 | k+1,i=>by
  have ih:=gH (p:=p) k (i+1)
  have e:(List.range (k+1)).any (fun q=>p (i+q))=(p i||(List.range k).any (fun q=>p (i+1+q))):=by
   rw [List.range_succ_eq_map,List.any_cons,List.any_map]
   grind
  rw [e,← ih]
  by_cases h:p i=true
  ·simp_all [aG]
  simp_all [aG]
theorem cr {p:Nat→Bool} {A:Int} {n i:Nat} (hx:A=aG p (n - i) i) (h:i<n) (hp:p i=true):(i:Int)=A:=by simp_all [nR]
theorem bS {p:Nat→Bool} {A:Int} {n i:Nat} (hx:A=aG p (n - i) i) (h:i<n) (hp:p i=false):A=aG p (n - (i+1)) (i+1):=by simp_all [nR]
theorem bW {p:Nat→Bool} {A:Int} {n i:Nat} (hx:A=aG p (n - i) i) (h:n≤i) : -1=A:=by grind [wL]
theorem aK {os:List (Option Ob)} {i:Nat} (h:i<9223372036854775807):ay os (.int .i64 (IntKind.wrap .i64 (Nat.cast i+1))) (.int .i64 (Nat.cast (i+1))):=ay.of_eq (by grind [wI])
theorem zS (x:Int):0≤IntKind.wrap .u64 x:=by simp_all [IntKind.wrap,IntKind.bits,IntKind.signed,Bool.false_and]<;>omega
def nd (d l i:Int):Bool:=decide (l≥0)&&decide (l≤d)&&decide (i≥0)&&decide (i<wrap .i64 (1*2^min (toNat l) 64))
theorem wU (d l i:Int):(decide (d≥0)&&decide (d≤5)&&nd d l i)=bU d l i:=by
 rw [← D7];simp [nd,Bool.and_assoc]
def fM (t n:Int):Bool:=decide (t≥0)&&decide (t≤1099511627776)&&decide (n≥0)&&decide (n≤1073741824)
theorem F6 {d l i:Int} (hn:bU d l i=true):IntKind.wrap .i64 (i*IntKind.wrap .i64 (1*2^min (toNat (IntKind.wrap .u64 (IntKind.wrap .i64 (d - l)))) 64))=dg d l i ∧
  IntKind.wrap .i64 (IntKind.wrap .i64 (i+1)*IntKind.wrap .i64 (1*2^min (toNat (IntKind.wrap .u64 (IntKind.wrap .i64 (d - l)))) 64))=dm d l i:=by
 obtain ⟨h1,h2,h3,h4,h5,h6⟩:=iK hn
 have e:IntKind.wrap .i64 (d - l)=d - l:=wI (by omega) (by omega)
 have e2:IntKind.wrap .u64 (d - l)=d - l:=by simp_all [IntKind.wrap,IntKind.bits,IntKind.signed,Bool.false_and]<;>omega
 grind [v5]
theorem Ji {s:au} (h:(decide (s.depth<0)||decide (s.depth>5) || !bU s.depth s.level s.index || !fM s.time s.number)=true):dk s=false:=by grind [dk,gY,bU,fM]
theorem xG {s:au} (h:(decide (s.depth<0)||decide (s.depth>5) || !bU s.depth s.level s.index || !fM s.time s.number)=false) :
  bU s.depth s.level s.index=true∧((s.nl:Int)==IntKind.wrap .i64 (dm s.depth s.level s.index - dg s.depth s.level s.index))=dk s:=by
 simp [fM] at h
 obtain ⟨⟨⟨h1,h2⟩,h3⟩,h4⟩:=h
 refine ⟨h3,?_⟩
 have he:gY s.depth s.level s.index=0:=by simp_all [gY,if_neg]
 grind [decide,dk,bne]
def found (b:au) (v:Int):Bool:=decide (aG (fun i=>b.lf i 0==v) b.nl 0≥0)
def bG (a:au):Int:=bif dk a then dg a.depth a.level a.index else 0
def oq (a:au):Int:=bif dk a then dm a.depth a.level a.index else 0
def bQ (a b:au) (x:Nat):List Int:=((List.range x).filter fun i=>found b (a.lf i 0)).map fun (i:Nat)=>bG a+(i:Int)
def cX (a b:au):List Int:=if a.a≠b.a then [] else bQ a b a.nl
theorem qU {a b:au} {x:Nat} (h:found b (a.lf x 0)=true):bQ a b (x+1)=bQ a b x++[bG a+x]:=by grind [bQ,List.range_succ]
theorem rf {a b:au} {x:Nat} (h:found b (a.lf x 0)=false):bQ a b (x+1)=bQ a b x:=by grind [bQ,List.range_succ]
theorem wv {a b:au} {x:Nat} (h:found b (a.lf x 0)=true):(bQ a b x).length+1=(bQ a b (x+1)).length:=by grind [qU]
theorem we {a b:au} {x:Nat} (h:found b (a.lf x 0)=false):(bQ a b x).length=(bQ a b (x+1)).length:=by rw [rf h]
theorem n7 (a b:au) (x:Nat):(bQ a b x).length≤x:=by grind [bQ,List.length_map,List.length_filter_le,found,List.range]
theorem lk (a:au):0≤bG a∧bG a≤1024:=by
 unfold bG
 cases dk a with
 | false=>simp
 | true =>
  simp only [cond_true,dg]
  split
  ·rename_i h
   obtain ⟨h1,h2,h3,h4,h5,h6⟩:=iK h
   obtain ⟨q1,_,q2,q3⟩:=p2 (k:=a.depth - a.level) (by omega) (by omega)
   obtain ⟨_,_,r2,r3⟩:=p2 (k:=a.level) (by omega) (by omega)
   obtain ⟨b1,b2,b3,b4⟩:=bnd h5 h6 r3 q2 q3
   omega
  omega
theorem Ao {a b:au} {x:Nat} (hx:x≤1000) (h:found b (a.lf x 0)=true):bQ a b (x+1)=bQ a b x++[IntKind.wrap .i64 (bG a+x)]:=by
 have:=lk a
 grind [qU,wI]
theorem tO {os:List (Option Ob)} {a b:au} {x:Nat} (h:found b (a.lf x 0)=false):aJ os ⟨1,(bQ a b x).length,true,.fn (vF .i64 (bQ a b x))⟩ ⟨1,(bQ a b (x+1)).length,true,.fn (vF .i64 (bQ a b (x+1)))⟩:=by
 rw [rf h];exact .refl _
theorem wT {a b:au} {x:Nat} (h0:(a.a != b.a)=false) (hx:x=a.nl):bQ a b x=cX a b:=by
 subst hx;exact (if_neg (by grind)).symm
theorem uL {a b:au} (h0:(a.a != b.a)=true):cX a b=[]:=if_pos (by grind)
theorem Ay (a b:au):(!decide (aG (fun i => !dk (bif Nat.beq i 0 then a else b)) 2 0≥0))=(dk a&&dk b):=by
 rw [gH]
 have:List.range 2=[0,1]:=rfl
 rw [this]
 simp
 rfl
theorem both {a b:Bool} (h:(!(a&&b))=false):(a&&b)=true:=by grind
def au.zero:au:=⟨0,0,0,0,0,fun _=>0,0,0,0,0,0,0,fun _=>0,0,0,0,fun _ _=>0,0,0,fun _ _=>0⟩
def Oq (s:au) (k b:Int):Int:=if dk s then (if k<0∨11<k∨b<1∨1000<b then 2 else if (k=10∧s.nl=1)∨(k=11∧s.np=0) then 7 else 0) else 1
def x1 (n:Int):Int:=IntKind.wrap .u8 (BitVec.toNat (BitVec.ofInt 8 n ^^^ BitVec.ofInt 8 1))
theorem GA {l l':List AV} {n t:Nat} (h:l.length=n):aQ (l++l') (n+t)=aQ l' t:=by grind [aQ,List.getElem?_append_right,Nat.add_sub_cancel_left]
theorem B8 {l l':List AV} {t:Nat} (h:t<l.length):aQ (l++l') t=aQ l t:=by grind [aQ,List.getElem?_append_left]
theorem yH (s:au) (x y:AV) {t:Nat} (ht:t<32):aE (aQ (s.cw x y) (5+t))=s.root t:=by
 have e:s.cw x y=[.int .i64 s.jl,.int .i64 s.fK,.int .i64 s.gx,.int .i64 s.depth,.int .i64 s.a]++((List.range 32).map (fun j=>.int .u8 (s.root j))++(s.cw x y).drop 37):=rfl
 rw [e,GA (n:=5) rfl,B8 (by grind),dv ht]
 rfl
structure OB (s : au) (k b : Int) : Prop where
  e : Oq s k b = 0
  k0 : 0 ≤ k
  k1 : k ≤ 11
  b0 : 0 ≤ b
  nl : 0 < s.nl
  np : k = 11 → 0 < s.np
end Go.Sp
